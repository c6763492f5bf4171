/-
  The law of the buddy system on the program's own data: a zone's lists are determined by the set of its free frames. No program in sight.
-/
import Derived.Test.YtplkliakhdkpcaaGreatD
set_option linter.unusedVariables false
set_option linter.unusedSimpArgs false
namespace Go.Proofs.YtplkliakhdkpcaaGreat
open Go Go.RowKit Go.Am
def zE2 (f : Int) : Bool := decide (0 ≤ f) && decide (f < 256)
def zA6 (z : zm) (f : Int) (k : Nat) : Bool :=
  decide (z.start ≤ f) && decide (f.tmod (2 ^ k) = 0) && decide ((2 : Int) ^ k ≤ z.count) && decide (f ≤ z.start + z.count - 2 ^ k)
def zBn (z : zm) : Bool :=
  decide (0 ≤ z.node) && decide (z.node < 4) && (decide (z.kind = 0) || decide (z.kind = 1)) && decide (0 ≤ z.start) && decide (z.start < 256) && decide (1 ≤ z.count) && decide (z.count ≤ 256 - z.start) && decide (0 ≤ z.min) && decide (z.min ≤ z.count)
def Srt (l : List Int) : Prop := l.Pairwise (· < ·)
def lb (l : List Int) (t : Int) : Nat := l.countP (fun x => decide (x < t))
theorem Srt.nil : Srt [] := List.Pairwise.nil
theorem zKj {l : List Int} (h : Srt l) {i j : Nat} {x y : Int} (hi : l[i]? = some x) (hj : l[j]? = some y) (hij : i < j) : x < y := by
  obtain ⟨h1, rfl⟩ := List.getElem?_eq_some_iff.1 hi
  obtain ⟨h2, rfl⟩ := List.getElem?_eq_some_iff.1 hj
  exact List.pairwise_iff_getElem.1 h i j h1 h2 hij
theorem zTC {l : List Int} {t : Int} : ∀ {i : Nat}, i ≤ l.length → (∀ m x, m < i → l[m]? = some x → x < t) → (∀ m x, i ≤ m → l[m]? = some x → t ≤ x) → lb l t = i := by
  induction l with
  | nil => intro i hi _ _; simp at hi; simp [lb, hi]
  | cons a l ih =>
    intro i hi h1 h2
    unfold lb at *
    rw [List.countP_cons]
    cases i with
    | zero =>
      have ha := h2 0 a (Nat.le_refl _) rfl
      have hz := ih (i := 0) (Nat.zero_le _) (fun m x hm => by omega) (fun m x _ hx => h2 (m + 1) x (by omega) hx)
      rw [hz]
      have : ¬ a < t := by omega
      simp [this]
    | succ i =>
      have ha := h1 0 a (by omega) rfl
      have hz := ih (i := i) (by simp at hi; omega) (fun m x hm hx => h1 (m + 1) x (by omega) hx) (fun m x hm hx => h2 (m + 1) x (by omega) hx)
      rw [hz]
      simp [ha]
theorem zSs {l : List Int} {t : Int} {i : Nat} (h1 : ∀ m x, m < i → l[m]? = some x → x < t) (h2 : ∀ m x, i < m → l[m]? = some x → t < x) : (t ∈ l) ↔ l[i]? = some t := by
  constructor
  · intro h
    obtain ⟨m, hm, rfl⟩ := List.getElem_of_mem h
    have hx := List.getElem?_eq_getElem hm
    rcases Nat.lt_trichotomy m i with h | h | h
    · have := h1 m _ h hx; omega
    · rw [← h]; exact hx
    · have := h2 m _ h hx; omega
  · intro h; exact List.mem_of_getElem? h
theorem zQg {l : List Int} (hs : Srt l) {p : Nat} {x t : Int} (hx : l[p]? = some x) (h : x < t) : ∀ m y, m < p + 1 → l[m]? = some y → y < t := by
  intro m y hm hy
  rcases Nat.lt_or_ge m p with hlt | hge
  · have := zKj hs hy hx hlt; omega
  · have : m = p := by omega
    subst this
    rw [hx] at hy; cases hy; exact h
theorem zQE {l : List Int} (hs : Srt l) {p : Nat} {x t : Int} (hx : l[p]? = some x) (h : ¬ x < t) : ∀ m y, p ≤ m → l[m]? = some y → t ≤ y := by
  intro m y hm hy
  rcases Nat.lt_or_ge p m with hlt | hge
  · have := zKj hs hx hy hlt; omega
  · have : m = p := by omega
    subst this
    rw [hx] at hy; cases hy; omega
theorem zTP {l : List Int} {t : Int} {i : Nat} (h1 : ∀ m x, m < i → l[m]? = some x → x < t) (h : ¬ i < l.length) : (t ∈ l) ↔ False := by
  constructor
  · intro hm
    obtain ⟨m, hm', rfl⟩ := List.getElem_of_mem hm
    have := h1 m _ (by omega) (List.getElem?_eq_getElem hm')
    omega
  · exact False.elim
theorem zSw {l : List Int} {t x : Int} {i : Nat} (hs : Srt l) (h1 : ∀ m x, m < i → l[m]? = some x → x < t) (h2 : ∀ m x, i ≤ m → l[m]? = some x → t ≤ x) (hx : l[i]? = some x) : (t ∈ l) ↔ x = t := by
  rw [zSs h1 (fun m y hm hy => by
    have := h2 i x (Nat.le_refl _) hx
    have := zKj hs hx hy hm
    omega), hx]
  simp
def bud (f : Int) (k : Nat) : Int := ((f.toNat ^^^ 2 ^ k : Nat) : Int)
theorem zCH {z : zm} (h : zBn z = true) : 0 ≤ z.node ∧ z.node < 4 ∧ (z.kind = 0 ∨ z.kind = 1) ∧ 0 ≤ z.start ∧ z.start < 256 ∧ 1 ≤ z.count ∧ z.count ≤ 256 - z.start ∧ 0 ≤ z.min ∧ z.min ≤ z.count := by
  unfold zBn at h
  simp only [Bool.and_eq_true, Bool.or_eq_true, decide_eq_true_eq] at h
  omega
theorem zDd {z : zm} {f : Int} {k : Nat} (hz : zBn z = true) (h : zA6 z f k = true) : 0 ≤ f ∧ f + 2 ^ k ≤ 256 ∧ z.start ≤ f ∧ f + 2 ^ k ≤ z.start + z.count ∧ f.tmod (2 ^ k) = 0 := by
  have hb := zCH hz
  unfold zA6 at h
  simp only [Bool.and_eq_true, decide_eq_true_eq] at h
  omega
def lst (z : zm) (k : Nat) : List Int := z.free.getD k []
def zTV (z : zm) (k : Nat) (l : List Int) : zm := { z with free := z.free.set k l }
theorem zRG : ∀ k : Fin 4, ∀ x : Fin 256, x.val % 2 ^ k.val = 0 → (x.val ^^^ 2 ^ k.val) = if x.val % 2 ^ (k.val + 1) = 0 then x.val + 2 ^ k.val else x.val - 2 ^ k.val := by decide +kernel
theorem zGP {z : zm} (h : zBn z = true) {x : Int} {k : Nat} : zA6 z x k = true ↔ z.start ≤ x ∧ x % 2 ^ k = 0 ∧ (2 : Int) ^ k ≤ z.count ∧ x ≤ z.start + z.count - 2 ^ k := by
  have hr := zCH h
  unfold zA6
  simp only [Bool.and_eq_true, decide_eq_true_eq]
  constructor
  · rintro ⟨⟨⟨h1, h2⟩, h3⟩, h4⟩
    rw [Int.tmod_eq_emod_of_nonneg (by omega)] at h2
    exact ⟨h1, h2, h3, h4⟩
  · rintro ⟨h1, h2, h3, h4⟩
    rw [← Int.tmod_eq_emod_of_nonneg (by omega)] at h2
    exact ⟨⟨⟨h1, h2⟩, h3⟩, h4⟩
theorem pw0 : (2 : Int) ^ 0 = 1 := rfl
theorem pw1 : (2 : Int) ^ 1 = 2 := rfl
theorem pw2 : (2 : Int) ^ 2 = 4 := rfl
theorem pw3 : (2 : Int) ^ 3 = 8 := rfl
theorem pw4 : (2 : Int) ^ 4 = 16 := rfl
theorem zQu {x : Int} {k : Nat} (hk : k < 4) (h0 : 0 ≤ x) (h1 : x < 256) (ha : x % 2 ^ k = 0) : (x % 2 ^ (k + 1) = 0 ∧ bud x k = x + 2 ^ k) ∨ (x % 2 ^ (k + 1) = 2 ^ k ∧ bud x k = x - 2 ^ k) := by
  obtain ⟨m, rfl⟩ := Int.eq_ofNat_of_zero_le h0
  have hm : m < 256 := by omega
  have h := zRG ⟨k, hk⟩ ⟨m, hm⟩
  simp only at h
  have hb : bud (m : Int) k = ((m ^^^ 2 ^ k : Nat) : Int) := by simp [bud]
  have hk' : k = 0 ∨ k = 1 ∨ k = 2 ∨ k = 3 := by omega
  rw [hb]
  rcases hk' with rfl | rfl | rfl | rfl
  · have := h (by omega)
    simp only [Nat.reducePow, Nat.reduceAdd, pw0, pw1] at *
    split at this <;> omega
  · simp only [Nat.reducePow, Nat.reduceAdd, pw1, pw2] at *
    have := h (by omega)
    split at this <;> omega
  · simp only [Nat.reducePow, Nat.reduceAdd, pw2, pw3] at *
    have := h (by omega)
    split at this <;> omega
  · simp only [Nat.reducePow, Nat.reduceAdd, pw3, pw4] at *
    have := h (by omega)
    split at this <;> omega
theorem zOM {z : zm} (h : z.free.length = 5) {k : Nat} (hk : 5 ≤ k) : lst z k = [] := by
  unfold lst
  rw [List.getD_eq_getElem?_getD, List.getElem?_eq_none (by omega)]
  rfl
theorem zTM {z : zm} (h : z.free.length = 5) {k j : Nat} (hk : k < 5) {l : List Int} : lst (zTV z k l) j = if j = k then l else lst z j := by
  unfold lst zTV
  simp only [List.getD_eq_getElem?_getD, List.getElem?_set]
  by_cases hj : k = j
  · subst hj
    rw [if_pos rfl, if_pos rfl, if_pos (by omega)]
    rfl
  · rw [if_neg hj, if_neg (fun e => hj e.symm)]
theorem zRi {z : zm} (h : z.free.length = 5) {k : Nat} (hk : k < 5) : z.free[k]? = some (lst z k) := by
  unfold lst
  rw [List.getD_eq_getElem?_getD, List.getElem?_eq_getElem (by omega)]
  rfl
def cov (z : zm) (f : Int) : Prop := ∃ k x, x ∈ lst z k ∧ x ≤ f ∧ f < x + 2 ^ k
section
variable {z z1 z2 : zm}
theorem zQ3 (k : Nat) : (0 : Int) < 2 ^ k := Int.pow_pos (by omega)
theorem zRC (k : Nat) : (2 : Int) ^ (k + 1) = 2 ^ k + 2 ^ k := by rw [Int.pow_succ]; omega
end
end Go.Proofs.YtplkliakhdkpcaaGreat
