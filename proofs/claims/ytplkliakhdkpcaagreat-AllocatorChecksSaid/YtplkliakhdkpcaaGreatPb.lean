/-
  What the printed functions of the layer buddy give, in plain words: part one, up to New. No program in sight.
-/
import Derived.Test.YtplkliakhdkpcaaGreatPa
set_option linter.unusedVariables false
set_option linter.unusedSimpArgs false
namespace Go.Proofs.YtplkliakhdkpcaaGreat
open Go Go.RowKit Go.Wk Go.Am
section
variable {α β : Type} {b : Bool} {x y : Option α} {a : α} {f : α → Option β}
theorem zw (h : b = true) : chk b x = x := by subst h; rfl
theorem zAl (h : b = true) : cnd b x y = x := by subst h; rfl
theorem zAT (h : b = false) : cnd b x y = y := by subst h; rfl
theorem zEy : (some a).bind f = f a := rfl
end
theorem zAO {a : Int} (h : -9223372036854775808 ≤ a ∧ a ≤ 9223372036854775807) : inI a = true := by simp [inI, h]
theorem zTF {i : Int} {n : Nat} (h : 0 ≤ i ∧ i < (n : Int)) : inb i n = true := by simp [inb, h]
theorem zAs {i n : Nat} (h : i < n) : inb (i : Int) n = true := zTF (by omega)
theorem zLj {a b : Bool} (h : b = true) : (a || b) = true := by rw [h, Bool.or_true]
theorem dt {p : Prop} [Decidable p] (h : p) : decide p = true := decide_eq_true h
theorem df {p : Prop} [Decidable p] (h : ¬ p) : decide p = false := decide_eq_false h
theorem zIs {α : Type} [Inhabited α] {l : List α} {i : Nat} (h : i < l.length) : at_ l (i : Int) = l[i] := by
  unfold at_
  rw [Int.toNat_natCast, List.getD_eq_getElem?_getD, List.getElem?_eq_getElem h]
  rfl
theorem zSj (i j : Nat) : ((i : Int) + (j : Int)).fdiv (2 ^ (1 : Int).toNat) = (((i + j) / 2 : Nat) : Int) := by
  show ((i : Int) + (j : Int)).fdiv 2 = _
  rw [Int.fdiv_eq_ediv_of_nonneg _ (by omega)]
  omega
theorem zQS (x y : Int) : zGt x y = some (decide (x < y)) := by
  unfold zGt zDr
  simp [cnd]
theorem zQw {l : List Int} {t : Int} {i : Nat} (hs : Srt l) (hi : i ≤ l.length) (h1 : ∀ p x, p < i → l[p]? = some x → x < t) (h2 : ∀ p x, i ≤ p → l[p]? = some x → t ≤ x) :
    zA2 l t (i : Int) = some ((lb l t : Int), decide (t ∈ l)) := by
  rw [zTC hi h1 h2]
  unfold zA2 zD3
  rcases Nat.lt_or_ge i l.length with h | h
  · have hx : l[i]? = some l[i] := List.getElem?_eq_getElem h
    have hb : inb (i : Int) l.length = true := zAs h
    have hd : decide ((i : Int) < (l.length : Int)) = true := dt (by omega)
    have hm : decide (t ∈ l) = decide (l[i] = t) := by rw [decide_eq_decide]; exact zSw hs h1 h2 hx
    rw [zw (zLj hb), zw (zLj hb), zIs h, hd, hm]
    cases hq : decide (l[i] = t) <;> simp [cnd]
  · have hd : decide ((i : Int) < (l.length : Int)) = false := df (by omega)
    have hm : decide (t ∈ l) = false := df (fun hh => (zTP h1 (by omega)).1 hh)
    rw [hd, hm]
    rfl
theorem zRP {l : List Int} {t : Int} (hs : Srt l) (hl : l.length ≤ 1000000) : ∀ (m n i j : Nat), j - i ≤ m → m < n → i ≤ j → j ≤ l.length → (∀ p x, p < i → l[p]? = some x → x < t) → (∀ p x, j ≤ p → l[p]? = some x → t ≤ x) →
    zA1 l t n (i : Int) (j : Int) = some ((lb l t : Int), decide (t ∈ l)) := by
  intro m
  induction m with
  | zero =>
    intro n i j h1 h2 h3 h4 ha hb
    obtain ⟨n, rfl⟩ : ∃ k, n = k + 1 := ⟨n - 1, by omega⟩
    show zAX _ _ _ _ _ = _
    unfold zAX
    rw [zAT (df (by omega))]
    have : j = i := by omega
    subst this
    exact zQw hs h4 ha hb
  | succ m ih =>
    intro n i j h1 h2 h3 h4 ha hb
    obtain ⟨n, rfl⟩ : ∃ k, n = k + 1 := ⟨n - 1, by omega⟩
    show zAX _ _ _ _ _ = _
    unfold zAX
    by_cases hij : i < j
    · have hm : (i + j) / 2 < l.length := by omega
      rw [zAl (dt (by omega)), zSj, zw (zAO (by omega)), zw (dt (zKV (by omega) (by omega))), zw (dt (zRA (by omega) (by omega))), zw (zAs hm), zQS, zEy, zIs hm]
      have hx : l[(i + j) / 2]? = some l[(i + j) / 2] := List.getElem?_eq_getElem hm
      by_cases hlt : l[(i + j) / 2] < t
      · rw [zAl (dt hlt), zw (zAO (by omega))]
        exact ih n ((i + j) / 2 + 1) j (by omega) (by omega) (by omega) h4 (zQg hs hx hlt) hb
      · rw [zAT (df hlt)]
        exact ih n i ((i + j) / 2) (by omega) (by omega) (by omega) (by omega) ha (zQE hs hx hlt)
    · rw [zAT (df (by omega))]
      have : j = i := by omega
      subst this
      exact zQw hs h4 ha hb
theorem zSc {l : List Int} {t : Int} (hs : Srt l) (hl : l.length ≤ 1000000) : zAW l t = some ((lb l t : Int), decide (t ∈ l)) :=
  zRP hs hl l.length zAC 0 l.length (by omega) (by unfold zAC; omega) (by omega) (by omega) (fun p x hp => by omega) (fun p x hp hx => by
    rw [List.getElem?_eq_none (by omega)] at hx; cases hx)
theorem zMa {k : Nat} (h : k ≤ 5) : (1 : Int) * 2 ^ (k : Int).toNat = 2 ^ k ∧ (1 : Int) ≤ 2 ^ k ∧ (2 : Int) ^ k ≤ 32 := by
  rw [Int.one_mul, Int.toNat_natCast]
  refine ⟨rfl, ?_⟩
  have : k = 0 ∨ k = 1 ∨ k = 2 ∨ k = 3 ∨ k = 4 ∨ k = 5 := by omega
  rcases this with rfl | rfl | rfl | rfl | rfl | rfl <;> decide
theorem zO3 {k : Nat} (h : k ≤ 5) : zMt (k : Int) = true := by
  unfold zMt
  rw [dt (by omega), dt (by omega)]
  rfl
theorem zK3 {z : zm} {f : Int} {k : Nat} (hr : zBn z = true) (hk : k ≤ 5) : zCI z f (k : Int) = some (zA6 z f k) := by
  have hb := zCH hr
  obtain ⟨e, h1, h2⟩ := zMa hk
  unfold zCI zA6
  rw [e, zw (zO3 hk), zw (zAO (by omega)), zw (zLj (by rw [df (by omega)]; rfl)), zw (zLj (zAO (by omega))), zw (zLj (zAO (by omega)))]
theorem zRR : ∀ k : Fin 4, ∀ x : Fin 256, zKK .xor .i64 (x.val : Int) (2 ^ k.val) = ((x.val ^^^ 2 ^ k.val : Nat) : Int) := by decide +kernel
theorem zSN {f : Int} {k : Nat} (h0 : 0 ≤ f) (h1 : f < 256) (hk : k < 4) : zKK .xor .i64 f (2 ^ k) = bud f k := by
  obtain ⟨m, rfl⟩ := Int.eq_ofNat_of_zero_le h0
  exact zRR ⟨k, hk⟩ ⟨m, by omega⟩
theorem zKz {l : List (List Int)} {i : Nat} (hi : i < l.length) : l.set i (l.getD i []) = l := by
  apply List.ext_getElem?
  intro j
  rw [List.getElem?_set]
  split
  · rename_i h
    subst h
    simp [hi]
  · rfl
theorem zPo (z : zm) (h : inI z.start = true) : zFZ z = some (zBn z) := by
  unfold zFZ zBn
  by_cases hs : 0 ≤ z.start ∧ z.start < 256
  · rw [zw (zLj (zAO (by omega)))]
  · have : (((((((decide (0 ≤ z.node)) && (decide (z.node < 4))) && ((decide (z.kind = 0)) || (decide (z.kind = 1)))) && (decide (0 ≤ z.start))) && (decide (z.start < 256))) && (decide (1 ≤ z.count)))) = false := by
      rcases Classical.not_and_iff_not_or_not.1 hs with hs | hs <;> simp [hs]
    rw [this]
    rfl
theorem zOi (z : zm) : zF7 z = some (zBn z) := by
  unfold zF7
  by_cases h : (((decide (z.node < 0)) || (decide (4 ≤ z.node))) || ((!decide (z.kind = 0)) && (!decide (z.kind = 1)))) = true
  · rw [zAl h]
    have : zBn z = false := by
      cases hr : zBn z with
      | false => rfl
      | true =>
        have hb := zCH hr
        simp at h
        omega
    rw [this]
  · have h' := Bool.eq_false_iff.2 h
    rw [zAT h']
    have hc : (!(((decide (0 ≤ z.start)) && (decide (1 ≤ z.count))) && (decide (z.count ≤ 256))) || inI (256 - z.count)) = true := by
      by_cases hq : 1 ≤ z.count ∧ z.count ≤ 256
      · exact zLj (zAO (by omega))
      · have : (decide (0 ≤ z.start) && decide (1 ≤ z.count) && decide (z.count ≤ 256)) = false := by
          rcases Classical.not_and_iff_not_or_not.1 hq with hq | hq <;> simp [hq]
        rw [this]
        rfl
    rw [zw hc]
    congr 1
    rw [Bool.eq_iff_iff]
    unfold zBn
    simp at h ⊢
    omega
theorem zQT {z : zm} {f : Int} {k : Nat} (hr : zBn z = true) (hk : k ≤ 4) (h0 : z.start ≤ f) (h1 : f < z.start + z.count) : zCp z f (k : Int) = some (zA6 z f k) := by
  have hb := zCH hr
  obtain ⟨e, p1, p2⟩ := zMa (k := k) (by omega)
  unfold zCp
  rw [zw (zLj (zAO (by omega))), df (p := (k : Int) < 0) (by omega), df (p := 4 < (k : Int)) (by omega), df (p := f < z.start) (by omega), df (p := z.start + z.count ≤ f) (by omega)]
  refine (zAT (by rfl)).trans ?_
  rw [e, zw (dt (zKV (by omega) (by omega))), zw (zO3 (by omega)), zw (zAO (by omega)), zw (by rw [df (by omega)]; rfl), zw (zLj (zAO (by omega))), zw (zLj (zAO (by omega)))]
  congr 1
  unfold zA6
  rw [Bool.eq_iff_iff]
  simp
  omega
theorem zQO {k : Nat} (h : k ≤ 5) : (2 : Int) ^ k = ((2 ^ k : Nat) : Int) := by norm_cast
theorem zQJ {l : List Int} {f : Int → Option Bool} {p : Int → Bool} (hf : ∀ x, f x = some (p x)) (hl : l.length ≤ 1099511627776) : ∀ (m n i : Nat), i + m = l.length → m < n → ∃ r, zAU l f n (i : Int) = some r ∧ decide (0 ≤ r) = (l.drop i).any p := by
  intro m
  induction m with
  | zero =>
    intro n i h1 h2
    obtain ⟨n, rfl⟩ : ∃ q, n = q + 1 := ⟨n - 1, by omega⟩
    refine ⟨-1, ?_, ?_⟩
    · show zAh _ _ _ _ = _
      unfold zAh
      rw [zAT (df (by omega))]
      rfl
    · rw [List.drop_eq_nil_of_le (by omega)]
      rfl
  | succ m ih =>
    intro n i h1 h2
    obtain ⟨n, rfl⟩ : ∃ q, n = q + 1 := ⟨n - 1, by omega⟩
    have hi : i < l.length := by omega
    have hs : zAU l f (n + 1) (i : Int) = cnd (p l[i]) (some (i : Int)) (zAU l f n ((i + 1 : Nat) : Int)) := by
      show zAh _ _ _ _ = _
      unfold zAh
      rw [zAl (dt (by omega)), zw (zAs hi), hf, zEy, zIs hi, zw (zAO (by omega))]
      rfl
    rw [hs, List.drop_eq_getElem_cons hi, List.any_cons]
    cases hp : p l[i] with
    | true => exact ⟨i, rfl, by rw [dt (by omega)]; rfl⟩
    | false => simpa [cnd] using ih n (i + 1) (by omega) (by omega)
def zK2 (n : Int) : Bool := decide (n < 0) || decide (4 ≤ n)
def zIk (k b h z : Int) : Bool := decide (k < 1) || decide (4 < k) || decide (64 < h) || decide (b < 1) || decide (h < b) || decide (z < 1) || decide (6 < z)
def zQt (nodes : List Int) (b h z : Int) : Bool := !zIk (nodes.length : Int) b h z && !nodes.any zK2
theorem zOe {a : zL} (hl : a.nodes.length ≤ 1099511627776) : zCb a = some (zQt a.nodes a.batch a.high (a.zones.length : Int)) := by
  unfold zCb zQt
  show cnd (zIk (a.nodes.length : Int) a.batch a.high (a.zones.length : Int)) _ _ = _
  cases zIk (a.nodes.length : Int) a.batch a.high (a.zones.length : Int) with
  | true => rfl
  | false =>
    obtain ⟨r, h1, h2⟩ := zQJ (l := a.nodes) (f := fun y => zCh y) (p := zK2) (fun x => rfl) hl a.nodes.length zAC 0 (by omega) (by unfold zAC; omega)
    unfold zBc zCD
    show (((zAU a.nodes (fun y => zCh y) zAC ((0 : Nat) : Int)).bind _).bind _) = _
    rw [h1, zEy, zEy, h2]
    rfl
theorem zOn {l : List Int} (hl : l.length ≤ 1099511627776) : ∀ (m n i : Nat), i + m = l.length → m < n → zDz l n (i : Int) = some (!(l.drop i).any zK2) := by
  intro m
  induction m with
  | zero =>
    intro n i h1 h2
    obtain ⟨n, rfl⟩ : ∃ q, n = q + 1 := ⟨n - 1, by omega⟩
    show zCO _ _ _ = _
    unfold zCO
    rw [zAT (df (by omega)), List.drop_eq_nil_of_le (by omega)]
    rfl
  | succ m ih =>
    intro n i h1 h2
    obtain ⟨n, rfl⟩ : ∃ q, n = q + 1 := ⟨n - 1, by omega⟩
    have hi : i < l.length := by omega
    show zCO _ _ _ = _
    unfold zCO
    rw [zAl (dt (by omega)), zw (zAs hi), zIs hi, zw (zAO (by omega)), List.drop_eq_getElem_cons hi, List.any_cons]
    show cnd (zK2 l[i]) _ _ = _
    cases zK2 l[i] with
    | true => rfl
    | false => exact ih n (i + 1) (by omega) (by omega)
theorem zQG {nodes : List Int} {b h z : Int} (hl : nodes.length ≤ 1099511627776) : zFc nodes b h z = some (zQt nodes b h z) := by
  unfold zFc zQt
  have e : (((((((decide ((nodes.length : Int) < 1)) || (decide (4 < (nodes.length : Int)))) || (decide (b < 1))) || (decide (h < b))) || (decide (64 < h))) || (decide (z < 1))) || (decide (6 < z))) = zIk (nodes.length : Int) b h z := by
    rw [Bool.eq_iff_iff]
    unfold zIk
    simp only [Bool.or_eq_true, decide_eq_true_eq]
    omega
  rw [e]
  cases zIk (nodes.length : Int) b h z with
  | true => rfl
  | false => exact zOn hl nodes.length zAC 0 (by omega) (by unfold zAC; omega)
set_option maxRecDepth 100000 in
theorem zRW : zHM = some true := by kernel_rfl
end Go.Proofs.YtplkliakhdkpcaaGreat
