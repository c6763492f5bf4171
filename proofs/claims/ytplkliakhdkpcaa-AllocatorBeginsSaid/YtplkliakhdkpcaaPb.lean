/-
  What the printed functions of the layer buddy give, in plain words: part one, up to New. No program in sight.
-/
import Derived.Test.YtplkliakhdkpcaaPa
set_option linter.unusedVariables false
set_option linter.unusedSimpArgs false
namespace Go.Proofs.Ytplkliakhdkpcaa
open Go Go.RowKit Go.Wk Go.Am
section
variable {α β : Type} {b : Bool} {x y : Option α} {a : α} {f : α → Option β}
theorem chk_t (h : b = true) : chk b x = x := by subst h; rfl
theorem cnd_1 (h : b = true) : cnd b x y = x := by subst h; rfl
theorem cnd_0 (h : b = false) : cnd b x y = y := by subst h; rfl
theorem bnd1 : (some a).bind f = f a := rfl
end
theorem inI_t {a : Int} (h : -9223372036854775808 ≤ a ∧ a ≤ 9223372036854775807) : inI a = true := by simp [inI, h]
theorem inb_t {i : Int} {n : Nat} (h : 0 ≤ i ∧ i < (n : Int)) : inb i n = true := by simp [inb, h]
theorem inb_n {i n : Nat} (h : i < n) : inb (i : Int) n = true := inb_t (by omega)
theorem or_t {a b : Bool} (h : b = true) : (a || b) = true := by rw [h, Bool.or_true]
theorem dt {p : Prop} [Decidable p] (h : p) : decide p = true := decide_eq_true h
theorem df {p : Prop} [Decidable p] (h : ¬ p) : decide p = false := decide_eq_false h
theorem at_n {α : Type} [Inhabited α] {l : List α} {i : Nat} (h : i < l.length) : at_ l (i : Int) = l[i] := by
  unfold at_
  rw [Int.toNat_natCast, List.getD_eq_getElem?_getD, List.getElem?_eq_getElem h]
  rfl
theorem half_n (i j : Nat) : ((i : Int) + (j : Int)).fdiv (2 ^ (1 : Int).toNat) = (((i + j) / 2 : Nat) : Int) := by
  show ((i : Int) + (j : Int)).fdiv 2 = _
  rw [Int.fdiv_eq_ediv_of_nonneg _ (by omega)]
  omega
theorem less_int (x y : Int) : cmp_Less_int x y = some (decide (x < y)) := by
  unfold cmp_Less_int cmp_isNaN_int
  simp [cnd]
theorem bs_end {l : List Int} {t : Int} {i : Nat} (hs : Srt l) (hi : i ≤ l.length) (h1 : ∀ p x, p < i → l[p]? = some x → x < t) (h2 : ∀ p x, i ≤ p → l[p]? = some x → t ≤ x) :
    slices_BinarySearch_Lint_int_j0 l t (i : Int) = some ((lb l t : Int), decide (t ∈ l)) := by
  rw [lb_of hi h1 h2]
  unfold slices_BinarySearch_Lint_int_j0 slices_isNaN_int
  rcases Nat.lt_or_ge i l.length with h | h
  · have hx : l[i]? = some l[i] := List.getElem?_eq_getElem h
    have hb : inb (i : Int) l.length = true := inb_n h
    have hd : decide ((i : Int) < (l.length : Int)) = true := dt (by omega)
    have hm : decide (t ∈ l) = decide (l[i] = t) := by rw [decide_eq_decide]; exact bs_yes hs h1 h2 hx
    rw [chk_t (or_t hb), chk_t (or_t hb), at_n h, hd, hm]
    cases hq : decide (l[i] = t) <;> simp [cnd]
  · have hd : decide ((i : Int) < (l.length : Int)) = false := df (by omega)
    have hm : decide (t ∈ l) = false := df (fun hh => (bs_no h1 (by omega)).1 hh)
    rw [hd, hm]
    rfl
theorem bs_loop {l : List Int} {t : Int} (hs : Srt l) (hl : l.length ≤ 1000000) : ∀ (m n i j : Nat), j - i ≤ m → m < n → i ≤ j → j ≤ l.length → (∀ p x, p < i → l[p]? = some x → x < t) → (∀ p x, j ≤ p → l[p]? = some x → t ≤ x) →
    slices_BinarySearch_Lint_int_l0 l t n (i : Int) (j : Int) = some ((lb l t : Int), decide (t ∈ l)) := by
  intro m
  induction m with
  | zero =>
    intro n i j h1 h2 h3 h4 ha hb
    obtain ⟨n, rfl⟩ : ∃ k, n = k + 1 := ⟨n - 1, by omega⟩
    show slices_BinarySearch_Lint_int_b0 _ _ _ _ _ = _
    unfold slices_BinarySearch_Lint_int_b0
    rw [cnd_0 (df (by omega))]
    have : j = i := by omega
    subst this
    exact bs_end hs h4 ha hb
  | succ m ih =>
    intro n i j h1 h2 h3 h4 ha hb
    obtain ⟨n, rfl⟩ : ∃ k, n = k + 1 := ⟨n - 1, by omega⟩
    show slices_BinarySearch_Lint_int_b0 _ _ _ _ _ = _
    unfold slices_BinarySearch_Lint_int_b0
    by_cases hij : i < j
    · have hm : (i + j) / 2 < l.length := by omega
      rw [cnd_1 (dt (by omega)), half_n, chk_t (inI_t (by omega)), chk_t (dt (wrapU64 (by omega) (by omega))), chk_t (dt (wrapI64 (by omega) (by omega))), chk_t (inb_n hm), less_int, bnd1, at_n hm]
      have hx : l[(i + j) / 2]? = some l[(i + j) / 2] := List.getElem?_eq_getElem hm
      by_cases hlt : l[(i + j) / 2] < t
      · rw [cnd_1 (dt hlt), chk_t (inI_t (by omega))]
        exact ih n ((i + j) / 2 + 1) j (by omega) (by omega) (by omega) h4 (srt_upto hs hx hlt) hb
      · rw [cnd_0 (df hlt)]
        exact ih n i ((i + j) / 2) (by omega) (by omega) (by omega) (by omega) ha (srt_from hs hx hlt)
    · rw [cnd_0 (df (by omega))]
      have : j = i := by omega
      subst this
      exact bs_end hs h4 ha hb
theorem bs_eq {l : List Int} {t : Int} (hs : Srt l) (hl : l.length ≤ 1000000) : slices_BinarySearch_Lint_int l t = some ((lb l t : Int), decide (t ∈ l)) :=
  bs_loop hs hl l.length FUEL 0 l.length (by omega) (by unfold FUEL; omega) (by omega) (by omega) (fun p x hp => by omega) (fun p x hp hx => by
    rw [List.getElem?_eq_none (by omega)] at hx; cases hx)
theorem pow_i {k : Nat} (h : k ≤ 5) : (1 : Int) * 2 ^ (k : Int).toNat = 2 ^ k ∧ (1 : Int) ≤ 2 ^ k ∧ (2 : Int) ^ k ≤ 32 := by
  rw [Int.one_mul, Int.toNat_natCast]
  refine ⟨rfl, ?_⟩
  have : k = 0 ∨ k = 1 ∨ k = 2 ∨ k = 3 ∨ k = 4 ∨ k = 5 := by omega
  rcases this with rfl | rfl | rfl | rfl | rfl | rfl <;> decide
theorem sh_n {k : Nat} (h : k ≤ 5) : shOk (k : Int) = true := by
  unfold shOk
  rw [dt (by omega), dt (by omega)]
  rfl
theorem inside_eq {z : Zone} {f : Int} {k : Nat} (hr : ranges z = true) (hk : k ≤ 5) : buddy_inside z f (k : Int) = some (inside z f k) := by
  have hb := ranges_bd hr
  obtain ⟨e, h1, h2⟩ := pow_i hk
  unfold buddy_inside inside
  rw [e, chk_t (sh_n hk), chk_t (inI_t (by omega)), chk_t (or_t (by rw [df (by omega)]; rfl)), chk_t (or_t (inI_t (by omega))), chk_t (or_t (inI_t (by omega)))]
theorem xor_dec : ∀ k : Fin 4, ∀ x : Fin 256, bitF .xor .i64 (x.val : Int) (2 ^ k.val) = ((x.val ^^^ 2 ^ k.val : Nat) : Int) := by decide +kernel
theorem xor_eq {f : Int} {k : Nat} (h0 : 0 ≤ f) (h1 : f < 256) (hk : k < 4) : bitF .xor .i64 f (2 ^ k) = bud f k := by
  obtain ⟨m, rfl⟩ := Int.eq_ofNat_of_zero_le h0
  exact xor_dec ⟨k, hk⟩ ⟨m, by omega⟩
theorem setA_eq {l : List (List Int)} (hl : l.length = 5) {i : Nat} (hi : i < 5) (x : List Int) : setA 5 [] l i x = l.set i x := by
  match l, hl with
  | [a, b, c, d, e], _ =>
    have : i = 0 ∨ i = 1 ∨ i = 2 ∨ i = 3 ∨ i = 4 := by omega
    rcases this with rfl | rfl | rfl | rfl | rfl <;> rfl
theorem set_self {l : List (List Int)} {i : Nat} (hi : i < l.length) : l.set i (l.getD i []) = l := by
  apply List.ext_getElem?
  intro j
  rw [List.getElem?_set]
  split
  · rename_i h
    subst h
    simp [hi]
  · rfl
theorem PutI.srt' {z : Zone} (h : PutI z) (k : Nat) : Srt (lst z k) := by
  rcases Nat.lt_or_ge k 5 with hk | hk
  · exact h.srt k _ (lst_get h.len hk)
  · rw [lst_ge h.len hk]; exact Srt.nil
theorem PutI.len' {z : Zone} (h : PutI z) (k : Nat) : (lst z k).length ≤ 256 := by
  rcases Nat.lt_or_ge k 5 with hk | hk
  · exact h.lenl (lst_get h.len hk)
  · rw [lst_ge h.len hk]; simp
theorem put_end {z : Zone} (h : PutI z) {f : Int} {k : Nat} (hk : k < 5) {a : Zone} (ha : same5 a z) : buddy_put_j0 a f (k : Int) z.free = some (insZ z f k) := by
  unfold buddy_put_j0
  have e : z.free.getD (k : Int).toNat [] = lst z k := rfl
  have h5 := h.len
  rw [chk_t (inb_n hk), chk_t (dt (by omega)), e, bs_eq (h.srt' k) (by have := h.len' k; omega), bnd1]
  have hok : insOk (lst z k) (lb (lst z k) f : Int) = true := by
    have h1 := lb_le (lst z k) f
    have h2 := h.len' k
    unfold insOk
    rw [dt (by omega), dt (by omega), dt (by omega)]
    rfl
  rw [chk_t hok]
  show some (Zone.mk _ _ _ _ _ _) = _
  rw [setA_eq h5 (by omega), ha.1, ha.2.1, ha.2.2.1, ha.2.2.2.1, ha.2.2.2.2]
  rfl
theorem put_loop : ∀ (m n : Nat) {z a : Zone} {f : Int} {k : Nat}, m + k = 4 → m < n → PutI z → same5 a z → 0 ≤ f → f < 256 →
    buddy_put_l0 a n f (k : Int) z.free = some (putZ m z f k) := by
  intro m
  induction m with
  | zero =>
    intro n z a f k hk hn h ha h0 h1
    obtain ⟨n, rfl⟩ : ∃ q, n = q + 1 := ⟨n - 1, by omega⟩
    show buddy_put_b0 _ _ _ _ _ = _
    unfold buddy_put_b0
    rw [cnd_0 (df (by omega))]
    exact put_end h (by omega) ha
  | succ m ih =>
    intro n z a f k hk hn h ha h0 h1
    obtain ⟨n, rfl⟩ : ∃ q, n = q + 1 := ⟨n - 1, by omega⟩
    show buddy_put_b0 _ _ _ _ _ = _
    unfold buddy_put_b0
    have e : z.free.getD (k : Int).toNat [] = lst z k := rfl
    have h5 := h.len
    obtain ⟨e1, p1, p2⟩ := pow_i (k := k) (by omega)
    have e3 : setA 5 [] z.free (k : Int).toNat (lst z k) = z.free := by
      rw [setA_eq h5 (by omega)]
      exact set_self (by omega)
    have e4 : (⟨a.node, a.kind, a.start, a.count, a.min, z.free⟩ : Zone) = z := by rw [ha.1, ha.2.1, ha.2.2.1, ha.2.2.2.1, ha.2.2.2.2]
    rw [cnd_1 (dt (by omega)), chk_t (sh_n (by omega)), e1, chk_t (inI_t (by omega)), chk_t (inb_n (by omega)), chk_t (dt (by omega)), e, xor_eq h0 h1 (by omega), bs_eq (h.srt' k) (by have := h.len' k; omega), bnd1]
    rw [chk_t (or_t (inI_t (by omega))), e3, e4]
    have hin : buddy_inside z (min f (bud f k)) ((k : Int) + 1) = some (inside z (min f (bud f k)) (k + 1)) := inside_eq (k := k + 1) h.ranges (by omega)
    rw [hin]
    conv => rhs; unfold putZ
    by_cases hm : bud f k ∈ lst z k
    · have hb := h.bd k _ (lst_get h5 (by omega)) _ hm
      show ((cnd (!!decide (bud f k ∈ lst z k)) _ _).bind _) = _
      rw [dt hm, Bool.not_true, Bool.not_false, cnd_1 rfl, bnd1]
      by_cases hi : inside z (min f (bud f k)) (k + 1) = true
      · have hj : joins z f k = true := by unfold joins; rw [hi, dt hm]; rfl
        rw [if_pos hj, hi]
        refine (cnd_0 (by rfl)).trans ?_
        have hdel : delOk (z.free.getD (k : Int).toNat []) (lb (lst z k) (bud f k) : Int) ((lb (lst z k) (bud f k) : Int) + 1) = true := by
          have := lb_lt hm
          rw [e]
          unfold delOk
          rw [dt (by omega), dt (by omega), dt rfl]
          rfl
        rw [chk_t (inI_t (by have := lb_le (lst z k) (bud f k); have := h.len' k; omega)), chk_t hdel, chk_t (inI_t (by omega))]
        have hz : (delZ z (bud f k) k).free = setA 5 [] z.free (k : Int).toNat (delL (z.free.getD (k : Int).toNat []) (lb (lst z k) (bud f k) : Int)) := by
          rw [setA_eq h5 (by omega)]
          rfl
        rw [← hz]
        exact ih n (k := k + 1) (by omega) (by omega) (h.del (lst_get h5 (by omega))) (show same5 a (delZ z (bud f k) k) from ha) (by omega) (by omega)
      · have hj : ¬ joins z f k = true := by unfold joins; rw [Bool.and_eq_true]; exact fun q => hi q.2
        have hi' : inside z (min f (bud f k)) (k + 1) = false := by simpa using hi
        rw [if_neg hj, hi']
        refine (cnd_1 (by rfl)).trans ?_
        exact put_end h (by omega) ha
    · have hj : ¬ joins z f k = true := by unfold joins; rw [Bool.and_eq_true, decide_eq_true_eq]; exact fun q => hm q.1
      show ((cnd (!!decide (bud f k ∈ lst z k)) _ _).bind _) = _
      rw [if_neg hj, df hm, Bool.not_false, Bool.not_true, cnd_0 rfl, bnd1]
      refine (cnd_1 (by rfl)).trans ?_
      exact put_end h (by omega) ha
theorem put_eq {z : Zone} {f : Int} {k : Nat} (h : PutI z) (hk : k ≤ 4) (h0 : 0 ≤ f) (h1 : f < 256) : buddy_put z f (k : Int) = some (putZ (4 - k) z f k) :=
  put_loop (4 - k) FUEL (by omega) (by unfold FUEL; omega) h ⟨rfl, rfl, rfl, rfl, rfl⟩ h0 h1
theorem ranges_eq (z : Zone) (h : inI z.start = true) : buddy_ranges z = some (ranges z) := by
  unfold buddy_ranges ranges
  by_cases hs : 0 ≤ z.start ∧ z.start < 256
  · rw [chk_t (or_t (inI_t (by omega)))]
  · have : (((((((decide (0 ≤ z.node)) && (decide (z.node < 4))) && ((decide (z.kind = 0)) || (decide (z.kind = 1)))) && (decide (0 ≤ z.start))) && (decide (z.start < 256))) && (decide (1 ≤ z.count)))) = false := by
      rcases Classical.not_and_iff_not_or_not.1 hs with hs | hs <;> simp [hs]
    rw [this]
    rfl
theorem newL_loop {z : Zone} (hr : ranges z = true) (hf : z.free = [[], [], [], [], []]) : ∀ (m n i : Nat), (i : Int) + m = z.count → m < n → ∀ a : Zone, a = fillZ z i →
    buddy_New_l0 z.start z.count n (z.start + i) a.node a.kind a.start a.count a.min a.free = some (fillZ z z.count.toNat, 0) := by
  intro m
  have hb := ranges_bd hr
  induction m with
  | zero =>
    intro n i hi hn a ha
    obtain ⟨n, rfl⟩ : ∃ q, n = q + 1 := ⟨n - 1, by omega⟩
    show buddy_New_b0 _ _ _ _ _ _ _ _ _ _ = _
    unfold buddy_New_b0
    rw [chk_t (inI_t (by omega)), cnd_0 (df (by omega))]
    have : z.count.toNat = i := by omega
    rw [this, ← ha]
    rfl
  | succ m ih =>
    intro n i hi hn a ha
    obtain ⟨n, rfl⟩ : ∃ q, n = q + 1 := ⟨n - 1, by omega⟩
    show buddy_New_b0 _ _ _ _ _ _ _ _ _ _ = _
    unfold buddy_New_b0
    rw [chk_t (inI_t (by omega)), cnd_1 (dt (by omega))]
    show ((buddy_put a (z.start + i) (0 : Nat)).bind _) = _
    rw [ha, put_eq (fill_in hr hf (by omega)).1 (by omega) (by omega) (by omega), bnd1, chk_t (inI_t (by omega))]
    have := ih n (i + 1) (by omega) (by omega) (fillZ z (i + 1)) rfl
    rw [show z.start + ((i + 1 : Nat) : Int) = z.start + i + 1 by omega] at this
    exact this
theorem bnew_eq {node kind start count least : Int} (h : inI start = true) : buddy_New node kind start count least = some (newR node kind start count least) := by
  unfold buddy_New newR
  have e : (⟨node, kind, start, count, least, List.replicate 5 ([] : List Int)⟩ : Zone) = emptyZ node kind start count least := rfl
  rw [e, ranges_eq _ h, bnd1]
  by_cases hr : ranges (emptyZ node kind start count least) = true
  · rw [if_pos hr, hr]
    refine (cnd_0 (by rfl)).trans ?_
    have hb := ranges_bd hr
    have hc : (emptyZ node kind start count least).count = count := rfl
    have := newL_loop hr rfl count.toNat FUEL 0 (by omega) (by unfold FUEL; omega) _ rfl
    have e0 : (emptyZ node kind start count least).start + ((0 : Nat) : Int) = start := by show start + 0 = start; omega
    rw [e0] at this
    exact this
  · rw [if_neg hr, cnd_1 (by simpa using hr)]
    rfl
end Go.Proofs.Ytplkliakhdkpcaa
