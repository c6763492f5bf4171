/-
  Free frames of a zone, and their number, on both sides. No program in sight.
-/
import Derived.Test.YtplkliakhdkpcaaGreatPh
set_option linter.unusedVariables false
set_option linter.unusedSimpArgs false
namespace Go.Proofs.YtplkliakhdkpcaaGreat
open Go Go.RowKit Go.Wk Go.Am
def zMj (z : zm) (f : Int) : Bool := decide (zFU z = 0) && zA6 z f 0 && decide (0 < (zP1 z).getD f.toNat 0)
theorem zP4 : ∀ k : Fin 5, ∀ x : Fin 256, zKK .andNot .i64 (x.val : Int) (2 ^ k.val - 1) = ((x.val / 2 ^ k.val * 2 ^ k.val : Nat) : Int) := by decide +kernel
section
variable {z : zm} {k : Nat} {l : List Int}
theorem zMB (hz : Zk z) (h : zFU z = 0) : zBn z = true ∧ (∀ k, k < 5 → ∀ f, f ∈ lst z k → zA6 z f k = true) ∧ (∀ k, Srt (lst z k)) := by
  have hr := zBb h
  have hc : zEz z 0 z.free = 0 := by
    unfold zFU at h
    rw [if_neg (by rw [hr]; simp)] at h
    by_cases h0 : zEz z 0 z.free = 0
    · exact h0
    · rw [if_neg h0] at h; exact h
  exact ⟨hr, fun k _ => (zKx hz hc k).1, fun k => (zKx hz hc k).2⟩
theorem zQA (hz : Zk z) (h : zFU z = 0) {f : Nat} (hf : f < 256) : ∀ (m n k : Nat), k + m = 5 → m < n → ∃ r, zC8 z (f : Int) n (k : Int) = some r ∧ (0 ≤ r.1 ↔ ∃ j, k ≤ j ∧ j < 5 ∧ ((f / 2 ^ j * 2 ^ j : Nat) : Int) ∈ lst z j) := by
  obtain ⟨hr, hin, hs⟩ := zMB hz h
  intro m
  induction m with
  | zero =>
    intro n k h1 h2
    obtain ⟨n, rfl⟩ : ∃ q, n = q + 1 := ⟨n - 1, by omega⟩
    refine ⟨(-1, 0), ?_, ⟨fun hh => absurd hh (by decide), fun ⟨j, a, b, _⟩ => by omega⟩⟩
    show zDP _ _ _ _ = _
    unfold zDP
    rw [zAT (df (by omega))]
    rfl
  | succ m ih =>
    intro n k h1 h2
    obtain ⟨n, rfl⟩ : ∃ q, n = q + 1 := ⟨n - 1, by omega⟩
    obtain ⟨e2, p1, p2⟩ := zMa (k := k) (by omega)
    have e : z.free.getD (k : Int).toNat [] = lst z k := rfl
    have ha := zP4 ⟨k, by omega⟩ ⟨f, hf⟩
    simp only at ha
    have ee : zC8 z (f : Int) (n + 1) (k : Int) = cnd (decide (((f / 2 ^ k * 2 ^ k : Nat) : Int) ∈ lst z k)) (some ((k : Int), ((f / 2 ^ k * 2 ^ k : Nat) : Int))) (zC8 z (f : Int) n ((k + 1 : Nat) : Int)) := by
      show zDP _ _ _ _ = _
      unfold zDP
      rw [zAl (dt (by omega)), zw (zO3 (by omega)), e2, zw (zAO (by omega)), zw (zAO (by omega)), zw (zAs (by omega)), e, ha, zSc (hs k) (hz.bd k), zEy, zw (zAO (by omega))]
      rfl
    rw [ee]
    by_cases hm : ((f / 2 ^ k * 2 ^ k : Nat) : Int) ∈ lst z k
    · rw [zAl (dt hm)]
      exact ⟨_, rfl, ⟨fun _ => ⟨k, Nat.le_refl _, by omega, hm⟩, fun _ => Int.natCast_nonneg k⟩⟩
    · rw [zAT (df hm)]
      obtain ⟨r, r1, r2⟩ := ih n (k + 1) (by omega) (by omega)
      refine ⟨r, r1, r2.trans ⟨fun ⟨j, a, b, c⟩ => ⟨j, by omega, b, c⟩, fun ⟨j, a, b, c⟩ => ⟨j, ?_, b, c⟩⟩⟩
      by_cases hjk : j = k
      · subst hjk; exact absurd c hm
      · omega
theorem zO8 {s : List Int} {i m g : Nat} (h : i + m ≤ s.length) (hg : 0 ≤ s.getD g 0) : 0 < (zIS s i m).getD g 0 ↔ 0 < s.getD g 0 ∨ (i ≤ g ∧ g < i + m) := by
  rw [zKJ _ _ _ _ h]
  split
  · rename_i hq
    exact ⟨fun _ => .inr hq, fun _ => by omega⟩
  · rename_i hq
    exact ⟨.inl, fun h => h.resolve_right hq⟩
theorem zNI (hr : zBn z = true) (hk : k < 5) {g : Nat} : ∀ (l : List Int) {s : List Int}, s.length = 256 → (∀ f, f ∈ l → zA6 z f k = true) → 0 ≤ s.getD g 0 → (0 < (zIm k s l).getD g 0 ↔ 0 < s.getD g 0 ∨ ∃ x, x ∈ l ∧ x ≤ (g : Int) ∧ (g : Int) < x + 2 ^ k)
  | [], s, _, _, _ => by unfold zIm; simp
  | x :: l, s, hs, hin, h0 => by
    have hbd := zDd hr (hin x (by simp))
    have pn := zQO (k := k) (by omega)
    have hle := zMR (2 ^ k) x.toNat s g
    unfold zIm
    rw [zNI hr hk l (by rw [zJ5]; exact hs) (fun f hf => hin f (by simp [hf])) (by omega), zO8 (by rw [hs]; omega) h0]
    constructor
    · rintro ((h | h) | ⟨y, h1, h2⟩)
      · exact .inl h
      · exact .inr ⟨x, by simp, by omega, by omega⟩
      · exact .inr ⟨y, by simp [h1], h2⟩
    · rintro (h | ⟨y, h1, h2, h3⟩)
      · exact .inl (.inl h)
      · rcases List.mem_cons.1 h1 with rfl | h1
        · exact .inl (.inr (by omega))
        · exact .inr ⟨y, h1, h2, h3⟩
theorem zL9 (hr : zBn z = true) {g : Nat} : ∀ (ls : List (List Int)) (k : Nat) {s : List Int}, k + ls.length = 5 → s.length = 256 → (∀ j l, ls[j]? = some l → ∀ f, f ∈ l → zA6 z f (k + j) = true) → 0 ≤ s.getD g 0 →
    (0 < (zIC k s ls).getD g 0 ↔ 0 < s.getD g 0 ∨ ∃ j l x, ls[j]? = some l ∧ x ∈ l ∧ x ≤ (g : Int) ∧ (g : Int) < x + 2 ^ (k + j))
  | [], k, s, _, _, _, _ => by unfold zIC; simp
  | l :: ls, k, s, hk, hs, hin, h0 => by
    have hk' : k + (ls.length + 1) = 5 := hk
    have hle := zKv l k s g
    unfold zIC
    rw [zL9 hr ls (k + 1) (by omega) (by rw [zJ1]; exact hs) (fun j l' hj f hf => by
        have := hin (j + 1) l' hj f hf
        rwa [show k + (j + 1) = k + 1 + j by omega] at this) (by omega), zNI hr (by omega) l hs (fun f hf => by have := hin 0 l rfl f hf; rwa [Nat.add_zero] at this) h0]
    constructor
    · rintro ((h | ⟨x, h1, h2, h3⟩) | ⟨j, l', x, h1, h2, h3, h4⟩)
      · exact .inl h
      · exact .inr ⟨0, l, x, rfl, h1, h2, h3⟩
      · exact .inr ⟨j + 1, l', x, h1, h2, h3, by rw [show k + (j + 1) = k + 1 + j by omega]; exact h4⟩
    · rintro (h | ⟨j, l', x, h1, h2, h3, h4⟩)
      · exact .inl (.inl h)
      · cases j with
        | zero =>
          simp at h1
          subst h1
          exact .inl (.inr ⟨x, h2, h3, h4⟩)
        | succ j => exact .inr ⟨j, l', x, by simpa using h1, h2, h3, by rw [show k + 1 + j = k + (j + 1) by omega]; exact h4⟩
theorem zQ8 (hz : Zk z) (hr : zBn z = true) (hin : ∀ k, k < 5 → ∀ f, f ∈ lst z k → zA6 z f k = true) (g : Nat) : 0 < (zP1 z).getD g 0 ↔ cov z g := by
  unfold zP1
  have h0 : (List.replicate 256 (0 : Int)).getD g 0 = 0 := by
    rw [List.getD_eq_getElem?_getD, List.getElem?_replicate]
    split <;> rfl
  rw [zL9 hr z.free 0 (by rw [hz.len]) (by rw [List.length_replicate]) (fun j l hj f hf => by
    have hj5 : j < 5 := by rw [← hz.len]; exact (List.getElem?_eq_some_iff.1 hj).1
    rw [hz.get hj5] at hj
    cases hj
    rw [Nat.zero_add]
    exact hin j hj5 f hf) (by rw [h0]; decide), h0]
  constructor
  · rintro (h | ⟨j, l, x, h1, h2, h3, h4⟩)
    · exact absurd h (by decide)
    · have hj5 : j < 5 := by rw [← hz.len]; exact (List.getElem?_eq_some_iff.1 h1).1
      rw [hz.get hj5] at h1
      cases h1
      rw [Nat.zero_add] at h4
      exact ⟨j, x, h2, h3, h4⟩
  · rintro ⟨j, x, h2, h3, h4⟩
    rcases Nat.lt_or_ge j 5 with hj | hj
    · exact .inr ⟨j, lst z j, x, hz.get hj, h2, h3, by rw [Nat.zero_add]; exact h4⟩
    · rw [zOM hz.len hj] at h2; exact absurd h2 (by simp)
theorem zQs {f : Nat} {x : Int} (hk : k < 5) (h0 : 0 ≤ x) (ha : x % 2 ^ k = 0) : (x ≤ (f : Int) ∧ (f : Int) < x + 2 ^ k) ↔ x = ((f / 2 ^ k * 2 ^ k : Nat) : Int) := by
  have hk' : k = 0 ∨ k = 1 ∨ k = 2 ∨ k = 3 ∨ k = 4 := by omega
  rcases hk' with rfl | rfl | rfl | rfl | rfl <;> simp only [pw0, pw1, pw2, pw3, pw4, Nat.reducePow] at * <;> omega
theorem zS1 (hz : Zk z) (f : Int) : zFX z f = some (zMj z f) := by
  unfold zFX zMj
  rw [zQr hz, zEy]
  by_cases h : zFU z = 0
  · obtain ⟨hr, hin, _⟩ := zMB hz h
    have hbl : zCp z f 0 = some (zA6 z f 0) := zLc (k := 0) hr (by omega)
    rw [dt h, zAl rfl, hbl, zEy]
    cases hi : zA6 z f 0 with
    | false => rfl
    | true =>
      have hb := zDd hr hi
      rw [pw0] at hb
      obtain ⟨m, rfl⟩ := Int.eq_ofNat_of_zero_le hb.1
      have hm : m < (zP1 z).length := by rw [zPy]; omega
      rw [Bool.and_true, zAl rfl, zQk hz hr hin, zEy, zw (zLj (zAs hm)), zIs hm, Int.toNat_natCast, List.getD_eq_getElem?_getD, List.getElem?_eq_getElem hm]
      rfl
  · rw [df h]
    rfl
theorem zSW (hz : Zk z) (hI : inI z.start = true) (f : Int) : zFY z f = some (zMj z f) := by
  unfold zFY zMj
  rw [zPU hz hI, zEy]
  by_cases h : zFU z = 0
  · obtain ⟨hr, hin, _⟩ := zMB hz h
    have hie : zCI z f 0 = some (zA6 z f 0) := zK3 (k := 0) hr (by omega)
    rw [dt h, Bool.not_true, Bool.not_false, zAl rfl, hie, zEy]
    cases hi : zA6 z f 0 with
    | false => rfl
    | true =>
      have hb := zDd hr hi
      rw [pw0] at hb
      obtain ⟨m, rfl⟩ := Int.eq_ofNat_of_zero_le hb.1
      refine (zAT (by rfl)).trans ?_
      unfold zHa
      obtain ⟨r, r1, r2⟩ := zQA hz h (f := m) (by omega) 5 zAC 0 (by omega) (by unfold zAC; omega)
      rw [show (0 : Int) = ((0 : Nat) : Int) from rfl, r1, zEy]
      congr 1
      rw [Bool.true_and, Bool.true_and, decide_eq_decide, Int.toNat_natCast]
      refine Iff.trans r2 (Iff.trans ?_ (zQ8 hz hr hin m).symm)
      constructor
      · rintro ⟨j, _, hj, hm⟩
        have hbj := zDd hr (hin j hj _ hm)
        have haj := (zGP hr).1 (hin j hj _ hm)
        have := (zQs (f := m) hj hbj.1 haj.2.1).2 rfl
        exact ⟨j, _, hm, this.1, this.2⟩
      · rintro ⟨j, x, hx, h1, h2⟩
        rcases Nat.lt_or_ge j 5 with hj | hj
        · have hbj := zDd hr (hin j hj _ hx)
          have haj := (zGP hr).1 (hin j hj _ hx)
          have := (zQs (f := m) hj hbj.1 haj.2.1).1 ⟨h1, h2⟩
          exact ⟨j, Nat.zero_le _, hj, this ▸ hx⟩
        · rw [zOM hz.len hj] at hx; exact absurd hx (by simp)
  · rw [df h]
    rfl
def zSB (z : zm) : Int := zNw 0 z.free
theorem zQ4 (hk : k < 5) {n : Nat} (hn : n ≤ 1000000) : 0 ≤ (n : Int) * 2 ^ k ∧ (n : Int) * 2 ^ k ≤ 16000000 := by
  have hk' : k = 0 ∨ k = 1 ∨ k = 2 ∨ k = 3 ∨ k = 4 := by omega
  rcases hk' with rfl | rfl | rfl | rfl | rfl <;> simp only [pw0, pw1, pw2, pw3, pw4] <;> omega
theorem zRV (hz : Zk z) : ∀ (m n k : Nat) (acc : Int), k + m = 4 → m < n → 0 ≤ acc ∧ acc ≤ k * 16000000 → ∃ r, zDe z 4 n acc (k : Int) = some r ∧ r = acc + zNw k ((z.free.take 4).drop k) ∧ 0 ≤ r ∧ r ≤ 64000000 := by
  have hl4 : (z.free.take 4).length = 4 := by rw [List.length_take, hz.len]; rfl
  have hcut : zJW z.free 0 4 = z.free.take 4 := rfl
  intro m
  induction m with
  | zero =>
    intro n k acc h1 h2 h3
    obtain ⟨n, rfl⟩ : ∃ q, n = q + 1 := ⟨n - 1, by omega⟩
    refine ⟨acc, ?_, ?_, by omega, by omega⟩
    · show zB7 _ _ _ _ _ = _
      unfold zB7
      rw [hcut, zAT (df (by omega))]
      rfl
    · rw [List.drop_eq_nil_of_le (by omega)]
      show acc = acc + 0
      omega
  | succ m ih =>
    intro n k acc h1 h2 h3
    obtain ⟨n, rfl⟩ : ∃ q, n = q + 1 := ⟨n - 1, by omega⟩
    have hk : k < (z.free.take 4).length := by omega
    have hg := zLC (hz.get (k := k) (by omega)) (show k < 4 by omega)
    obtain ⟨a1, a2⟩ := List.getElem?_eq_some_iff.1 hg
    have hb := zQ4 (k := k) (by omega) (hz.bd k)
    obtain ⟨r, r1, r2, r3, r4⟩ := ih n (k + 1) (acc + ((lst z k).length : Int) * 2 ^ k) (by omega) (by omega) (by omega)
    refine ⟨r, ?_, ?_, r3, r4⟩
    · rw [← r1]
      show zB7 _ _ _ _ _ = _
      unfold zB7
      rw [hcut, zAl (dt (by omega)), zw (zAs hk), zIs hk, a2, Int.toNat_natCast, zw (zO3 (by omega)), zw (zAO (by omega)), zw (zAO (by omega)), zw (zAO (by omega))]
      rfl
    · rw [r2, List.drop_eq_getElem_cons a1, a2]
      conv => rhs; unfold zNw
      omega
theorem zOL : ∀ (ls : List (List Int)) (k : Nat) (l : List Int), zNw k (ls ++ [l]) = zNw k ls + (l.length : Int) * 2 ^ (k + ls.length)
  | [], k, l => by simp [zNw]
  | a :: ls, k, l => by
    show zNw k (a :: (ls ++ [l])) = _
    unfold zNw
    rw [zOL ls (k + 1) l, show k + 1 + ls.length = k + (a :: ls).length by simp; omega]
    omega
theorem zSX (hz : Zk z) (hI : inI z.start = true) (h : zFU z = 0) : zHU z = some (zSB z) ∧ 0 ≤ zSB z ∧ zSB z ≤ 80000000 := by
  have h4 := hz.bd 4
  have hb := zQ4 (k := 4) (by omega) h4
  obtain ⟨r, r1, r2, r3, r4⟩ := zRV hz 4 zAC 0 0 (by omega) (by unfold zAC; omega) (by omega)
  have hfr : z.free = z.free.take 4 ++ [lst z 4] := by
    match hq : z.free, hz.len with
    | [a, b, c, d, e], _ => unfold lst; rw [hq]; rfl
  have hnum : zSB z = r + ((lst z 4).length : Int) * 2 ^ 4 := by
    unfold zSB
    rw [hfr, zOL, r2, List.length_take, hz.len]
    show _ = 0 + zNw 0 (z.free.take 4) + _
    rw [Int.zero_add]
    rfl
  refine ⟨?_, by omega, by omega⟩
  unfold zHU zGb zJP
  rw [zPU hz hI, zEy, zEy, dt h]
  refine (congrArg (fun q => Option.bind q _) ((zAT (by rfl)).trans ((zw (by rfl)).trans ((zw (dt hz.len)).trans r1)))).trans ?_
  rw [zEy]
  have e4 : (z.free.getD (4 : Int).toNat []).length = (lst z 4).length := rfl
  have e16 : (2 : Int) ^ (4 : Int).toNat = 2 ^ 4 := rfl
  rw [e4, e16]
  refine (congrArg (fun q => Option.bind q _) ((zAT (by rfl)).trans (zw (zAO (by omega))))).trans ?_
  rw [zEy, zw (zAO (by omega)), hnum]
end
end Go.Proofs.YtplkliakhdkpcaaGreat
