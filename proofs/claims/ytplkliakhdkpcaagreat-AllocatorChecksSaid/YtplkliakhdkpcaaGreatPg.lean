/-
  The reference's Check of a zone gives 'check' too. No program in sight.
-/
import Derived.Test.YtplkliakhdkpcaaGreatPf
set_option linter.unusedVariables false
set_option linter.unusedSimpArgs false
namespace Go.Proofs.YtplkliakhdkpcaaGreat
open Go Go.RowKit Go.Wk Go.Am
section
variable {z : zm} {k : Nat} {l : List Int}
theorem zLc {f : Int} (hr : zBn z = true) (hk : k ≤ 4) : zCp z f (k : Int) = some (zA6 z f k) := by
  have hb := zCH hr
  have hp := zQ3 k
  by_cases h : z.start ≤ f ∧ f < z.start + z.count
  · exact zQT hr hk h.1 h.2
  · have hin : zA6 z f k = false := by
      refine Bool.eq_false_iff.2 fun hi => h ?_
      have := zDd hr hi
      omega
    rw [hin]
    unfold zCp
    rw [zw (zLj (zAO (by omega)))]
    refine zAl ?_
    rw [df (p := (k : Int) < 0) (by omega), df (p := 4 < (k : Int)) (by omega)]
    by_cases h1 : f < z.start
    · rw [dt h1]; rfl
    · rw [df h1, dt (p := z.start + z.count ≤ f) (by omega)]; rfl
theorem rl6 {se : Int → Option Int} (hz : Zk z) (hr : zBn z = true) (hk : k < 5) (hl : lst z k = l) : ∀ (m n i : Nat), i + m = l.length → m < n → zJO z k none l = zJO z k (zJV l i) (l.drop i) →
    zC3 se z (k : Int) n (i : Int) = if zJO z k none l = 0 then se ((k + 1 : Nat) : Int) else some (zJO z k none l) := by
  have hb : l.length ≤ 1000000 := by rw [← hl]; exact hz.bd k
  have e : z.free.getD (k : Int).toNat [] = l := hl
  intro m
  induction m with
  | zero =>
    intro n i h1 h2 hI
    obtain ⟨n, rfl⟩ : ∃ q, n = q + 1 := ⟨n - 1, by omega⟩
    show zBz _ _ _ _ _ = _
    unfold zBz zEM
    rw [e, zw (zAs (by omega)), zAT (df (by omega)), zw (zAO (by omega)), if_pos (zOD hI (by omega))]
    rfl
  | succ m ih =>
    intro n i h1 h2 hI
    obtain ⟨n, rfl⟩ : ∃ q, n = q + 1 := ⟨n - 1, by omega⟩
    have hi : i < l.length := by omega
    have hx := zOA hi
    show zBz _ _ _ _ _ = _
    unfold zBz
    rw [e, zw (zAs (by omega)), zAl (dt (by omega)), zw (zAs hi), zLc hr (by omega), zEy]
    generalize at_ l (i : Int) = x at *
    cases hin : zA6 z x k with
    | false =>
      rw [Bool.not_false, zAl rfl, zNO hI hx hin]
      rfl
    | true =>
      rw [Bool.not_true, zAT rfl]
      by_cases h0 : 0 < i
      · rw [zw (zLj (zAO (by omega))), zM3 h0, zw (zLj (zAs (by omega))), dt (p := 0 < (i : Int)) (by omega), Bool.true_and]
        have hy := zOA (l := l) (i := i - 1) (by omega)
        have hg : geP (zJV l i) x = decide (x ≤ at_ l ((i - 1 : Nat) : Int)) := zS0 h0 (by rw [zM3 h0, Int.toNat_natCast]; exact hy)
        by_cases hle : x ≤ at_ l ((i - 1 : Nat) : Int)
        · rw [zAl (dt hle), zL8 hI hx hin (by rw [hg, dt hle])]
          rfl
        · rw [zAT (df hle), zw (zAO (by omega))]
          exact ih n (i + 1) (by omega) (by omega) (zJ7 hI hx hin (by rw [hg, df hle]))
      · rw [df (p := 0 < (i : Int)) (by omega)]
        refine (zw (by rfl)).trans ((zw (by rfl)).trans ((zAT (by rfl)).trans ?_))
        rw [zw (zAO (by omega))]
        exact ih n (i + 1) (by omega) (by omega) (zJ7 hI hx hin (zSV h0))
theorem rl5 (hz : Zk z) (hr : zBn z = true) : ∀ (m n k : Nat), k + m = 5 → m < n → zEz z 0 z.free = zEz z k (z.free.drop k) →
    zBC z n (k : Int) = some (zEz z 0 z.free) := by
  intro m
  induction m with
  | zero =>
    intro n k h1 h2 hR
    obtain ⟨n, rfl⟩ : ∃ q, n = q + 1 := ⟨n - 1, by omega⟩
    show zBx _ _ _ = _
    unfold zBx
    rw [zAT (df (by omega)), zMv hR (by rw [hz.len]; omega)]
    rfl
  | succ m ih =>
    intro n k h1 h2 hR
    obtain ⟨n, rfl⟩ : ∃ q, n = q + 1 := ⟨n - 1, by omega⟩
    show zBx _ _ _ = _
    unfold zBx
    have hb := hz.bd k
    have hg := hz.get (k := k) (by omega)
    rw [zAl (dt (by omega)), show (0 : Int) = ((0 : Nat) : Int) from rfl, rl6 hz hr (by omega) rfl (lst z k).length zAC 0 (by omega) (by unfold zAC; omega) rfl]
    by_cases h0 : zJO z k none (lst z k) = 0
    · rw [if_pos h0]
      exact ih n (k + 1) (by omega) (by omega) (zL5 hR hg h0)
    · rw [if_neg h0]
      have hc : zEz z 0 z.free = zJO z k none (lst z k) := by
        obtain ⟨a1, a2⟩ := List.getElem?_eq_some_iff.1 hg
        rw [hR, List.drop_eq_getElem_cons a1, a2]
        unfold zEz
        rw [if_neg h0]
      rw [hc]
def zIS (s : List Int) (i : Nat) : Nat → List Int
  | 0 => s
  | n + 1 => zIS (s.set i (s.getD i 0 + 1)) (i + 1) n
def zIm (k : Nat) : List Int → List Int → List Int
  | s, [] => s
  | s, f :: r => zIm k (zIS s f.toNat (2 ^ k)) r
def zIC : Nat → List Int → List (List Int) → List Int
  | _, s, [] => s
  | k, s, l :: r => zIC (k + 1) (zIm k s l) r
def zP1 (z : zm) : List Int := zIC 0 (List.replicate 256 0) z.free
theorem zJ5 : ∀ (m i : Nat) (s : List Int), (zIS s i m).length = s.length
  | 0, _, _ => rfl
  | m + 1, i, s => by unfold zIS; rw [zJ5, List.length_set]
theorem zJ1 : ∀ (l : List Int) (k : Nat) (s : List Int), (zIm k s l).length = s.length
  | [], _, _ => rfl
  | x :: l, k, s => by unfold zIm; rw [zJ1 l, zJ5]
theorem zSu (l : List Int) (i g : Nat) (h : i < l.length) (x : Int) : (l.set i x).getD g 0 = if g = i then x else l.getD g 0 := by
  simp only [List.getD_eq_getElem?_getD, List.getElem?_set]
  by_cases hg : i = g
  · rw [if_pos hg, if_pos h, if_pos hg.symm]; rfl
  · rw [if_neg hg, if_neg (fun e => hg e.symm)]
theorem zKJ : ∀ (m i : Nat) (s : List Int) (g : Nat), i + m ≤ s.length → (zIS s i m).getD g 0 = if i ≤ g ∧ g < i + m then s.getD g 0 + 1 else s.getD g 0
  | 0, i, s, g, _ => by rw [if_neg (by omega)]; rfl
  | m + 1, i, s, g, h => by
    unfold zIS
    rw [zKJ m (i + 1) _ g (by rw [List.length_set]; omega), zSu s i g (by omega)]
    by_cases h2 : g = i
    · subst h2
      rw [if_neg (by omega), if_pos rfl, if_pos (by omega)]
    · rw [if_neg h2]
      by_cases h1 : i + 1 ≤ g ∧ g < i + 1 + m
      · rw [if_pos h1, if_pos (by omega)]
      · rw [if_neg h1, if_neg (by omega)]
theorem sl2 {se : Int → List Int → Option (List Int)} {i : Nat} {x : Int} (hk : k < 5) (hx : at_ (lst z k) (i : Int) = x) (hil : i < (lst z k).length) (h0 : 0 ≤ x) (h1 : x + 2 ^ k ≤ 256) (hi : i < 1000000) : ∀ (m n f : Nat) (s : List Int), (f : Int) + m = x + 2 ^ k → m < n → s.length = 256 → (∀ g, f ≤ g → 0 ≤ s.getD g 0 ∧ s.getD g 0 ≤ 1000000000) →
    zGo se z (k : Int) (i : Int) n (f : Int) s = se ((i + 1 : Nat) : Int) (zIS s f m) := by
  obtain ⟨e, p1, p2⟩ := zMa (k := k) (by omega)
  have ex : at_ (z.free.getD (k : Int).toNat []) (i : Int) = x := hx
  have el : i < (z.free.getD (k : Int).toNat []).length := hil
  intro m
  induction m with
  | zero =>
    intro n f s h2 h3 h4 h5
    obtain ⟨n, rfl⟩ : ∃ q, n = q + 1 := ⟨n - 1, by omega⟩
    show zEd _ _ _ _ _ _ _ = _
    unfold zEd zHg
    rw [e, ex, zw (zAs (by omega)), zw (zAs el), zw (dt (zKV (by omega) (by omega))), zw (zO3 (by omega)), zw (zAO (by omega)), zw (zAO (by omega)), zAT (df (by omega)), zw (zAO (by omega))]
    rfl
  | succ m ih =>
    intro n f s h2 h3 h4 h5
    obtain ⟨n, rfl⟩ : ∃ q, n = q + 1 := ⟨n - 1, by omega⟩
    show zEd _ _ _ _ _ _ _ = _
    unfold zEd
    have hf : f < s.length := by omega
    have ea : at_ s (f : Int) = s.getD f 0 := by rw [zIs hf, List.getD_eq_getElem?_getD, List.getElem?_eq_getElem hf]; rfl
    have hb := h5 f (Nat.le_refl _)
    rw [e, ex, zw (zAs (by omega)), zw (zAs el), zw (dt (zKV (by omega) (by omega))), zw (zO3 (by omega)), zw (zAO (by omega)), zw (zAO (by omega)), zAl (dt (by omega)), zw (zAs hf), ea, zw (zAO (by omega)), zw (zAO (by omega))]
    exact ih n (f + 1) (s.set f (s.getD f 0 + 1)) (by omega) (by omega) (by rw [List.length_set]; exact h4) (fun g hg => by
      rw [zSu s f g hf, if_neg (by omega)]
      exact h5 g (by omega))
theorem sl1 {se : Int → List Int → Option (List Int)} (hz : Zk z) (hr : zBn z = true) (hk : k < 5) (hl : lst z k = l) (hin : ∀ f, f ∈ l → zA6 z f k = true) : ∀ (m n i c : Nat) (s : List Int), i + m = l.length → m < n → s.length = 256 → (∀ g, 0 ≤ s.getD g 0 ∧ s.getD g 0 ≤ c) → c + m ≤ 1000000000 →
    zCa se z (k : Int) n (i : Int) s = se ((k + 1 : Nat) : Int) (zIm k s (l.drop i)) ∧ ∀ g, 0 ≤ (zIm k s (l.drop i)).getD g 0 ∧ (zIm k s (l.drop i)).getD g 0 ≤ ((c + m : Nat) : Int) := by
  have hb : l.length ≤ 1000000 := by rw [← hl]; exact hz.bd k
  have e : z.free.getD (k : Int).toNat [] = l := hl
  obtain ⟨e2, p1, p2⟩ := zMa (k := k) (by omega)
  have pn := zQO (k := k) (by omega)
  intro m
  induction m with
  | zero =>
    intro n i c s h1 h2 h3 h4 h5
    obtain ⟨n, rfl⟩ : ∃ q, n = q + 1 := ⟨n - 1, by omega⟩
    rw [List.drop_eq_nil_of_le (by omega)]
    refine ⟨?_, h4⟩
    show zEh _ _ _ _ _ _ = _
    unfold zEh zHl
    rw [e, zw (zAs (by omega)), zAT (df (by omega)), zw (zAO (by omega))]
    rfl
  | succ m ih =>
    intro n i c s h1 h2 h3 h4 h5
    obtain ⟨n, rfl⟩ : ∃ q, n = q + 1 := ⟨n - 1, by omega⟩
    have hi : i < l.length := by omega
    have hbd := zDd hr (hin _ (List.getElem_mem hi))
    have ha : at_ (lst z k) (i : Int) = l[i] := by rw [hl]; exact zIs hi
    obtain ⟨f, hf⟩ := Int.eq_ofNat_of_zero_le hbd.1
    rw [List.drop_eq_getElem_cons hi]
    have hbump : zIm k s (l[i] :: l.drop (i + 1)) = zIm k (zIS s f (2 ^ k)) (l.drop (i + 1)) := by
      show zIm k (zIS s l[i].toNat (2 ^ k)) (l.drop (i + 1)) = _
      rw [hf]
      rfl
    rw [hbump]
    have hg : ∀ g, 0 ≤ (zIS s f (2 ^ k)).getD g 0 ∧ (zIS s f (2 ^ k)).getD g 0 ≤ ((c + 1 : Nat) : Int) := fun g => by
      rw [zKJ _ _ _ _ (by omega)]
      have := h4 g
      split <;> omega
    obtain ⟨r1, r2⟩ := ih n (i + 1) (c + 1) (zIS s f (2 ^ k)) (by omega) (by omega) (by rw [zJ5]; exact h3) hg (by omega)
    refine ⟨?_, fun g => by have := r2 g; omega⟩
    rw [← r1]
    show zEh _ _ _ _ _ _ = _
    unfold zEh
    rw [e, zw (zAs (by omega)), zAl (dt (by omega)), zw (zAs hi), zIs hi]
    have hc := sl2 (se := zCa se z (k : Int) n) hk ha (by rw [hl]; exact hi) hbd.1 hbd.2.1 (by omega) (2 ^ k) zAC f s (by omega) (by unfold zAC; omega) h3 (fun g _ => by have := h4 g; omega)
    rw [← hf] at hc
    exact hc
theorem sl0 (hz : Zk z) (hr : zBn z = true) (hin : ∀ k, k < 5 → ∀ f, f ∈ lst z k → zA6 z f k = true) : ∀ (m n k c : Nat) (s : List Int), k + m = 5 → m < n → s.length = 256 → (∀ g, 0 ≤ s.getD g 0 ∧ s.getD g 0 ≤ c) → c + m * 1000000 ≤ 1000000000 →
    zBR z n (k : Int) s = some (zIC k s (z.free.drop k)) := by
  intro m
  induction m with
  | zero =>
    intro n k c s h1 h2 h3 h4 h5
    obtain ⟨n, rfl⟩ : ∃ q, n = q + 1 := ⟨n - 1, by omega⟩
    show zEb _ _ _ _ = _
    unfold zEb
    rw [zAT (df (by omega)), List.drop_eq_nil_of_le (by rw [hz.len]; omega)]
    rfl
  | succ m ih =>
    intro n k c s h1 h2 h3 h4 h5
    obtain ⟨n, rfl⟩ : ∃ q, n = q + 1 := ⟨n - 1, by omega⟩
    have hb := hz.bd k
    obtain ⟨a1, a2⟩ := List.getElem?_eq_some_iff.1 (hz.get (k := k) (by omega))
    obtain ⟨r1, r2⟩ := sl1 (se := zBR z n) hz hr (by omega) rfl (hin k (by omega)) (lst z k).length zAC 0 c s (by omega) (by unfold zAC; omega) h3 h4 (by omega)
    rw [List.drop_zero] at r1 r2
    show zEb _ _ _ _ = _
    unfold zEb
    rw [zAl (dt (by omega)), show (0 : Int) = ((0 : Nat) : Int) from rfl, r1, List.drop_eq_getElem_cons a1, a2]
    exact ih n (k + 1) (c + (lst z k).length) _ (by omega) (by omega) (by rw [zJ1]; exact h3) r2 (by omega)
theorem zQk (hz : Zk z) (hr : zBn z = true) (hin : ∀ k, k < 5 → ∀ f, f ∈ lst z k → zA6 z f k = true) : zIM z = some (zP1 z) := by
  unfold zIM
  rw [zw (by rfl), show (0 : Int) = ((0 : Nat) : Int) from rfl]
  exact sl0 hz hr hin 5 zAC 0 0 _ (by omega) (by unfold zAC; omega) (by rw [List.length_replicate]; rfl) (fun g => by
    rw [List.getD_eq_getElem?_getD, List.getElem?_replicate]
    split <;> simp) (by omega)
end
end Go.Proofs.YtplkliakhdkpcaaGreat
