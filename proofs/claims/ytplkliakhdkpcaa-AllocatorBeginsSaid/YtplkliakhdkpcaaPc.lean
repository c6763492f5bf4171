/-
  What the printed functions of the reference's layer 12 give: the canonical lists of a set. No program in sight.
-/
import Derived.Test.YtplkliakhdkpcaaPb
set_option linter.unusedVariables false
set_option linter.unusedSimpArgs false
namespace Go.Proofs.Ytplkliakhdkpcaa
open Go Go.RowKit Go.Wk Go.Am
theorem inRange_eq (z : Zone) : ref12_InRange z = some (ranges z) := by
  unfold ref12_InRange
  by_cases h : (((decide (z.node < 0)) || (decide (4 ≤ z.node))) || ((!decide (z.kind = 0)) && (!decide (z.kind = 1)))) = true
  · rw [cnd_1 h]
    have : ranges z = false := by
      cases hr : ranges z with
      | false => rfl
      | true =>
        have hb := ranges_bd hr
        simp at h
        omega
    rw [this]
  · have h' := Bool.eq_false_iff.2 h
    rw [cnd_0 h']
    have hc : (!(((decide (0 ≤ z.start)) && (decide (1 ≤ z.count))) && (decide (z.count ≤ 256))) || inI (256 - z.count)) = true := by
      by_cases hq : 1 ≤ z.count ∧ z.count ≤ 256
      · exact or_t (inI_t (by omega))
      · have : (decide (0 ≤ z.start) && decide (1 ≤ z.count) && decide (z.count ≤ 256)) = false := by
          rcases Classical.not_and_iff_not_or_not.1 hq with hq | hq <;> simp [hq]
        rw [this]
        rfl
    rw [chk_t hc]
    congr 1
    rw [Bool.eq_iff_iff]
    unfold ranges
    simp at h ⊢
    omega
theorem block_eq {z : Zone} {f : Int} {k : Nat} (hr : ranges z = true) (hk : k ≤ 4) (h0 : z.start ≤ f) (h1 : f < z.start + z.count) : ref12_Block z f (k : Int) = some (inside z f k) := by
  have hb := ranges_bd hr
  obtain ⟨e, p1, p2⟩ := pow_i (k := k) (by omega)
  unfold ref12_Block
  rw [chk_t (or_t (inI_t (by omega))), df (p := (k : Int) < 0) (by omega), df (p := 4 < (k : Int)) (by omega), df (p := f < z.start) (by omega), df (p := z.start + z.count ≤ f) (by omega)]
  refine (cnd_0 (by rfl)).trans ?_
  rw [e, chk_t (dt (wrapU64 (by omega) (by omega))), chk_t (sh_n (by omega)), chk_t (inI_t (by omega)), chk_t (by rw [df (by omega)]; rfl), chk_t (or_t (inI_t (by omega))), chk_t (or_t (inI_t (by omega)))]
  congr 1
  unfold inside
  rw [Bool.eq_iff_iff]
  simp
  omega
theorem pow_n {k : Nat} (h : k ≤ 5) : (2 : Int) ^ k = ((2 ^ k : Nat) : Int) := by norm_cast
theorem all_loop {s : List Int} {f k : Nat} (hk : k ≤ 4) (hs : f + 2 ^ k ≤ s.length) (hl : s.length = 256) : ∀ (m n i : Nat), i + m = f + 2 ^ k → m < n → f ≤ i → (∀ g, f ≤ g → g < i → s.getD g 0 ≠ 0) →
    ref12_all_l0 s (f : Int) (k : Int) n (i : Int) = some (decide (∀ g, g < 2 ^ k → s.getD (f + g) 0 ≠ 0)) := by
  intro m
  obtain ⟨e, p1, p2⟩ := pow_i (k := k) (by omega)
  have pn := pow_n (k := k) (by omega)
  induction m with
  | zero =>
    intro n i h1 h2 h3 h4
    obtain ⟨n, rfl⟩ : ∃ q, n = q + 1 := ⟨n - 1, by omega⟩
    show ref12_all_b0 _ _ _ _ _ = _
    unfold ref12_all_b0
    rw [e, chk_t (dt (wrapU64 (by omega) (by omega))), chk_t (sh_n (by omega)), chk_t (inI_t (by omega)), chk_t (inI_t (by omega)), cnd_0 (df (by omega))]
    rw [dt (p := ∀ g, g < 2 ^ k → s.getD (f + g) 0 ≠ 0) (fun g hg => h4 (f + g) (by omega) (by omega))]
    rfl
  | succ m ih =>
    intro n i h1 h2 h3 h4
    obtain ⟨n, rfl⟩ : ∃ q, n = q + 1 := ⟨n - 1, by omega⟩
    show ref12_all_b0 _ _ _ _ _ = _
    unfold ref12_all_b0
    have hi : i < s.length := by omega
    have hg : s.getD i 0 = s[i] := by rw [List.getD_eq_getElem?_getD, List.getElem?_eq_getElem hi]; rfl
    rw [e, chk_t (dt (wrapU64 (by omega) (by omega))), chk_t (sh_n (by omega)), chk_t (inI_t (by omega)), chk_t (inI_t (by omega)), cnd_1 (dt (by omega)), chk_t (inb_n hi), at_n hi]
    by_cases hz : s[i] = 0
    · rw [cnd_1 (dt hz), df]
      intro hh
      have := hh (i - f) (by omega)
      rw [show f + (i - f) = i by omega, hg] at this
      exact this hz
    · rw [cnd_0 (df hz), chk_t (inI_t (by omega))]
      refine ih n (i + 1) (by omega) (by omega) (by omega) (fun g h5 h6 => ?_)
      by_cases hgi : g = i
      · rw [hgi, hg]; exact hz
      · exact h4 g h5 (by omega)
theorem all_eq {s : List Int} {f k : Nat} (hk : k ≤ 4) (hs : f + 2 ^ k ≤ s.length) (hl : s.length = 256) : ref12_all s (f : Int) (k : Int) = some (decide (∀ g, g < 2 ^ k → s.getD (f + g) 0 ≠ 0)) :=
  all_loop hk hs hl (2 ^ k) FUEL f (by omega) (by have := (pow_i (k := k) (by omega)).2.2; have := pow_n (k := k) (by omega); unfold FUEL; omega) (by omega) (fun g h1 h2 => by omega)
def zl (z : Zone) (l : List (List Int)) : Zone := { z with free := l }
def zer (l : List Int) (i : Nat) : Nat → List Int
  | 0 => l
  | m + 1 => zer (l.set i 0) (i + 1) m
theorem zer_len : ∀ (m i : Nat) (l : List Int), (zer l i m).length = l.length
  | 0, _, _ => rfl
  | m + 1, i, l => by unfold zer; rw [zer_len]; exact List.length_set ..
theorem getD_set (l : List Int) (i g : Nat) (h : i < l.length) (x : Int) : (l.set i x).getD g 0 = if g = i then x else l.getD g 0 := by
  simp only [List.getD_eq_getElem?_getD, List.getElem?_set]
  by_cases hg : i = g
  · rw [if_pos hg, if_pos h, if_pos hg.symm]; rfl
  · rw [if_neg hg, if_neg (fun e => hg e.symm)]
theorem zer_get : ∀ (m i : Nat) (l : List Int) (g : Nat), i + m ≤ l.length → (zer l i m).getD g 0 = if i ≤ g ∧ g < i + m then 0 else l.getD g 0
  | 0, i, l, g, _ => by rw [if_neg (by omega)]; rfl
  | m + 1, i, l, g, h => by
    unfold zer
    rw [zer_get m (i + 1) _ g (by rw [List.length_set]; omega), getD_set l i g (by omega)]
    by_cases h1 : i + 1 ≤ g ∧ g < i + 1 + m
    · rw [if_pos h1, if_pos (by omega)]
    · rw [if_neg h1]
      by_cases h2 : g = i
      · rw [if_pos h2, if_pos (by omega)]
      · rw [if_neg h2, if_neg (by omega)]
theorem with_l2 {se : Int → (List (List Int)) → (List Int) → Option Zone} {k f : Nat} {l : List (List Int)} (hk : k ≤ 4) (h5 : l.length = 5) (hf : f + 2 ^ k ≤ 256) : ∀ (m n i : Nat) (s : List Int), i + m = f + 2 ^ k → m < n → s.length = 256 →
    ref12_with_l2 se (k : Int) (f : Int) l n (i : Int) s = ref12_with_j3 se (f : Int) (l.set k (l.getD k [] ++ [(f : Int)])) (zer s i m) := by
  intro m
  obtain ⟨e, p1, p2⟩ := pow_i (k := k) (by omega)
  have pn := pow_n (k := k) (by omega)
  induction m with
  | zero =>
    intro n i s h1 h2 h3
    obtain ⟨n, rfl⟩ : ∃ q, n = q + 1 := ⟨n - 1, by omega⟩
    show ref12_with_b2 _ _ _ _ _ _ _ = _
    unfold ref12_with_b2
    rw [e, chk_t (dt (wrapU64 (by omega) (by omega))), chk_t (sh_n (by omega)), chk_t (inI_t (by omega)), chk_t (inI_t (by omega)), cnd_0 (df (by omega)), setA_eq h5 (by omega)]
    rfl
  | succ m ih =>
    intro n i s h1 h2 h3
    obtain ⟨n, rfl⟩ : ∃ q, n = q + 1 := ⟨n - 1, by omega⟩
    show ref12_with_b2 _ _ _ _ _ _ _ = _
    unfold ref12_with_b2
    rw [e, chk_t (dt (wrapU64 (by omega) (by omega))), chk_t (sh_n (by omega)), chk_t (inI_t (by omega)), chk_t (inI_t (by omega)), cnd_1 (dt (by omega)), chk_t (inb_n (by omega)), chk_t (inI_t (by omega))]
    exact ih n (i + 1) (s.set i 0) (by omega) (by omega) (by rw [List.length_set]; exact h3)
structure WI (z : Zone) (s : List Int) (D : Nat → Int → Prop) (l : List (List Int)) (left : List Int) : Prop where
  len : l.length = 5
  llen : left.length = 256
  srt : ∀ k, Srt (lst (zl z l) k)
  ins : ∀ k x, x ∈ lst (zl z l) k → inside z x k = true ∧ D k x
  dis : ∀ k x j y g, x ∈ lst (zl z l) k → y ∈ lst (zl z l) j → x ≤ g → g < x + 2 ^ k → y ≤ g → g < y + 2 ^ j → k = j ∧ x = y
  lft : ∀ g : Nat, g < 256 → (left.getD g 0 ≠ 0 ↔ s.getD g 0 ≠ 0 ∧ ¬ cov (zl z l) g)
  sub : ∀ g, cov (zl z l) g → s.getD g.toNat 0 ≠ 0
  max : ∀ j x, D j x → j ≤ 4 → inside z x j = true → ∃ g, x ≤ g ∧ g < x + 2 ^ j ∧ (s.getD g.toNat 0 = 0 ∨ ∃ i y, j ≤ i ∧ y ∈ lst (zl z l) i ∧ y ≤ g ∧ g < y + 2 ^ i)
section
variable {z : Zone} {s left left' : List Int} {D D' : Nat → Int → Prop} {l : List (List Int)} {k : Nat} {f : Int}
theorem WI.mono (h : WI z s D l left) (h1 : ∀ j x, inside z x j = true → D j x → D' j x) (h2 : ∀ j x, inside z x j = true → j ≤ 4 → D' j x → D j x) : WI z s D' l left :=
  ⟨h.len, h.llen, h.srt, fun k x hx => ⟨(h.ins k x hx).1, h1 k x (h.ins k x hx).1 (h.ins k x hx).2⟩, h.dis, h.lft, h.sub, fun j x hd hj hi => h.max j x (h2 j x hi hj hd) hj hi⟩
theorem WI.skip (h : WI z s D l left) (hr : ranges z = true) (hk : k ≤ 4) (hD : ∀ j x, D j x → k ≤ j) (hn : inside z f k = true → ∃ g, f ≤ g ∧ g < f + 2 ^ k ∧ left.getD g.toNat 0 = 0) : WI z s (fun j x => D j x ∨ (j = k ∧ x = f)) l left := by
  refine ⟨h.len, h.llen, h.srt, fun k x hx => ⟨(h.ins k x hx).1, .inl (h.ins k x hx).2⟩, h.dis, h.lft, h.sub, ?_⟩
  rintro j x (hd | ⟨rfl, rfl⟩) hj hi
  · exact h.max j x hd hj hi
  · obtain ⟨g, g1, g2, g3⟩ := hn hi
    have hb := inside_bd hr hi
    refine ⟨g, g1, g2, ?_⟩
    have hl := h.lft g.toNat (by omega)
    rw [Int.toNat_of_nonneg (by omega)] at hl
    by_cases hs : s.getD g.toNat 0 = 0
    · exact .inl hs
    · have hc : cov (zl z l) g := by
        refine Classical.byContradiction fun hc => ?_
        exact hl.2 ⟨hs, hc⟩ g3
      obtain ⟨i, y, hy, y1, y2⟩ := hc
      exact .inr ⟨i, y, hD _ _ (h.ins i y hy).2, hy, y1, y2⟩
theorem WI.add (h : WI z s D l left) (hr : ranges z = true) (hk : k ≤ 4) (hi : inside z f k = true) (hD : ∀ j x, D j x → k < j ∨ (j = k ∧ x < f)) (hall : ∀ g : Nat, f ≤ g → (g : Int) < f + 2 ^ k → left.getD g 0 ≠ 0)
    (hl' : left'.length = 256) (hg' : ∀ g : Nat, left'.getD g 0 = if f ≤ (g : Int) ∧ (g : Int) < f + 2 ^ k then 0 else left.getD g 0) : WI z s (fun j x => D j x ∨ (j = k ∧ x = f)) (l.set k (l.getD k [] ++ [f])) left' := by
  have hb := inside_bd hr hi
  have hls : ∀ j, lst (zl z (l.set k (l.getD k [] ++ [f]))) j = if j = k then lst (zl z l) k ++ [f] else lst (zl z l) j := fun j => lst_set (z := zl z l) h.len (by omega)
  have hm : ∀ j y, y ∈ lst (zl z (l.set k (l.getD k [] ++ [f]))) j ↔ y ∈ lst (zl z l) j ∨ (j = k ∧ y = f) := by
    intro j y
    rw [hls]
    by_cases hjk : j = k
    · subst hjk
      rw [if_pos rfl, List.mem_append]
      simp
    · rw [if_neg hjk]
      simp [hjk]
  have hf : ∀ g, f ≤ g → g < f + 2 ^ k → s.getD g.toNat 0 ≠ 0 ∧ ¬ cov (zl z l) g := by
    intro g g1 g2
    have e : ((g.toNat : Nat) : Int) = g := Int.toNat_of_nonneg (by omega)
    have := (h.lft g.toNat (by omega)).1 (hall g.toNat (by omega) (by omega))
    rw [e] at this
    exact this
  have hc : ∀ g, cov (zl z (l.set k (l.getD k [] ++ [f]))) g ↔ cov (zl z l) g ∨ (f ≤ g ∧ g < f + 2 ^ k) := by
    intro g
    constructor
    · rintro ⟨j, y, hy, h1, h2⟩
      rcases (hm j y).1 hy with hy | ⟨rfl, rfl⟩
      · exact .inl ⟨j, y, hy, h1, h2⟩
      · exact .inr ⟨h1, h2⟩
    · rintro (⟨j, y, hy, h1, h2⟩ | ⟨h1, h2⟩)
      · exact ⟨j, y, (hm j y).2 (.inl hy), h1, h2⟩
      · exact ⟨k, f, (hm k f).2 (.inr ⟨rfl, rfl⟩), h1, h2⟩
  refine ⟨by simpa using h.len, hl', fun j => ?_, fun j y hy => ?_, fun j y i u g hy hu h1 h2 h3 h4 => ?_, fun g hg => ?_, fun g hg => ?_, fun j x hd hj hij => ?_⟩
  · rw [hls]
    split
    · refine List.pairwise_append.2 ⟨h.srt k, List.pairwise_singleton .., fun a ha b hb' => ?_⟩
      simp only [List.mem_singleton] at hb'
      subst hb'
      rcases hD _ _ (h.ins k a ha).2 with hq | hq <;> omega
    · exact h.srt j
  · rcases (hm j y).1 hy with hy | ⟨rfl, rfl⟩
    · exact ⟨(h.ins j y hy).1, .inl (h.ins j y hy).2⟩
    · exact ⟨hi, .inr ⟨rfl, rfl⟩⟩
  · rcases (hm j y).1 hy with hy' | ⟨e1, e2⟩
    · rcases (hm i u).1 hu with hu' | ⟨e3, e4⟩
      · exact h.dis j y i u g hy' hu' h1 h2 h3 h4
      · rw [e4] at h3 h4
        rw [e3] at h4
        exact absurd ⟨j, y, hy', h1, h2⟩ (hf g h3 h4).2
    · rw [e2] at h1 h2
      rw [e1] at h2
      rcases (hm i u).1 hu with hu' | ⟨e3, e4⟩
      · exact absurd ⟨i, u, hu', h3, h4⟩ (hf g h1 h2).2
      · exact ⟨e1.trans e3.symm, e2.trans e4.symm⟩
  · rw [hg', hc]
    by_cases hq : f ≤ (g : Int) ∧ (g : Int) < f + 2 ^ k
    · rw [if_pos hq]
      simp [hq]
    · rw [if_neg hq, h.lft g hg]
      simp only [hq, or_false]
  · rcases (hc g).1 hg with hg | hg
    · exact h.sub g hg
    · exact (hf g hg.1 hg.2).1
  · rcases hd with hd | ⟨rfl, rfl⟩
    · obtain ⟨g, g1, g2, g3⟩ := h.max j x hd hj hij
      refine ⟨g, g1, g2, g3.imp id ?_⟩
      rintro ⟨i, y, hy, hy2, hy3⟩
      exact ⟨i, y, hy, (hm i y).2 (.inl hy2), hy3⟩
    · have hp := pw_pos j
      exact ⟨x, Int.le_refl _, by omega, .inr ⟨j, x, Nat.le_refl _, (hm j x).2 (.inr ⟨rfl, rfl⟩), Int.le_refl _, by omega⟩⟩
theorem WI.len' (h : WI z s D l left) (hr : ranges z = true) (k : Nat) : (lst (zl z l) k).length ≤ 256 := by
  refine srt_len (h.srt k) (fun f hf => ?_)
  have := inside_bd hr (h.ins k f hf).1
  have := pw_pos k
  omega
theorem WI.ok (h : WI z s (fun _ _ => True) l left) (hr : ranges z = true) : OkZ (zl z l) ∧ ∀ g, cov (zl z l) g ↔ z.start ≤ g ∧ g < z.start + z.count ∧ s.getD g.toNat 0 ≠ 0 := by
  refine ⟨⟨hr, h.len, h.srt, fun k x hx => (h.ins k x hx).1, h.dis, fun k x hk hx hb => ?_⟩, fun g => ⟨fun hg => ?_, fun hg => ?_⟩⟩
  · refine Bool.eq_false_iff.2 fun hi => ?_
    have hbx := inside_bd hr (h.ins k x hx).1
    have hax := (inside_iff hr).1 (h.ins k x hx).1
    have hp := pw_pos k
    have hps := pw_succ k
    obtain ⟨g, g1, g2, g3⟩ := h.max (k + 1) _ trivial (by omega) hi
    have hcov : (x ≤ g ∧ g < x + 2 ^ k) ∨ (bud x k ≤ g ∧ g < bud x k + 2 ^ k) := by
      clear g3
      rcases bud_eq hk hbx.1 (by omega) hax.2.1 with ⟨_, e⟩ | ⟨_, e⟩ <;> rw [e] at g1 g2 ⊢ <;> omega
    have hno : ∀ y, y ∈ lst (zl z l) k → y ≤ g → g < y + 2 ^ k → False := by
      intro y hy y1 y2
      rcases g3 with g3 | ⟨i, u, hu, hu1, hu2, hu3⟩
      · exact h.sub g ⟨k, y, hy, y1, y2⟩ g3
      · have := (h.dis k y i u g hy hu1 y1 y2 hu2 hu3).1
        omega
    rcases hcov with hq | hq
    · exact hno x hx hq.1 hq.2
    · exact hno _ hb hq.1 hq.2
  · obtain ⟨k, x, hx, h1, h2⟩ := hg
    have := inside_bd hr (h.ins k x hx).1
    exact ⟨by omega, by omega, h.sub g ⟨k, x, hx, h1, h2⟩⟩
  · have hb := ranges_bd hr
    obtain ⟨g', g1, g2, g3⟩ := h.max 0 g trivial (by omega) ((inside_iff hr).2 (by rw [pw0]; omega))
    rw [pw0] at g2
    have e : g' = g := by omega
    subst e
    rcases g3 with g3 | ⟨i, y, _, hy, hy2, hy3⟩
    · exact absurd g3 hg.2.2
    · exact ⟨i, y, hy, hy2, hy3⟩
end
section
variable {z : Zone} {s : List Int}
def Nx (z : Zone) (s : List Int) (k : Nat) (se : Int → (List (List Int)) → (List Int) → Option Zone) : Prop :=
  ∀ l left, WI z s (fun j _ => k ≤ j) l left → ∃ l', se ((k : Int) - 1) l left = some (zl z l') ∧ ∃ left', WI z s (fun _ _ => True) l' left'
theorem with_l1 (hr : ranges z = true) {k : Nat} {se : Int → (List (List Int)) → (List Int) → Option Zone} (hk : k ≤ 4) (hn : Nx z s k se) : ∀ (m n f : Nat) (l : List (List Int)) (left : List Int), (f : Int) + m = z.start + z.count → m < n → z.start ≤ f →
    WI z s (fun j x => k < j ∨ (j = k ∧ x < f)) l left → ∃ l', ref12_with_l1 se z (k : Int) n (f : Int) l left = some (zl z l') ∧ ∃ left', WI z s (fun _ _ => True) l' left' := by
  have hb := ranges_bd hr
  intro m
  induction m with
  | zero =>
    intro n f l left h1 h2 h3 h
    obtain ⟨n, rfl⟩ : ∃ q, n = q + 1 := ⟨n - 1, by omega⟩
    show ∃ l', ref12_with_b1 _ _ _ _ _ _ _ = _ ∧ _
    unfold ref12_with_b1
    rw [chk_t (inI_t (by omega)), cnd_0 (df (by omega))]
    unfold ref12_with_j2
    rw [chk_t (inI_t (by omega))]
    refine hn l left (h.mono (fun j x _ hd => by rcases hd with hd | hd <;> omega) (fun j x hi _ hd => ?_))
    have := inside_bd hr hi
    have := pw_pos j
    have hd : k ≤ j := hd
    by_cases hjk : j = k
    · exact .inr ⟨hjk, by omega⟩
    · exact .inl (by omega)
  | succ m ih =>
    intro n f l left h1 h2 h3 h
    obtain ⟨n, rfl⟩ : ∃ q, n = q + 1 := ⟨n - 1, by omega⟩
    obtain ⟨e, p1, p2⟩ := pow_i (k := k) (by omega)
    have pn := pow_n (k := k) (by omega)
    have hstep : ∀ l2 left2, WI z s (fun j x => (k < j ∨ (j = k ∧ x < f)) ∨ (j = k ∧ x = f)) l2 left2 → ∃ l', ref12_with_j3 (ref12_with_l1 se z (k : Int) n) (f : Int) l2 left2 = some (zl z l') ∧ ∃ left', WI z s (fun _ _ => True) l' left' := by
      intro l2 left2 hw
      unfold ref12_with_j3
      rw [chk_t (inI_t (by omega))]
      exact ih n (f + 1) l2 left2 (by omega) (by omega) (by omega) (hw.mono (fun j x _ hd => by omega) (fun j x _ _ hd => by omega))
    show ∃ l', ref12_with_b1 _ _ _ _ _ _ _ = _ ∧ _
    unfold ref12_with_b1
    rw [chk_t (inI_t (by omega)), cnd_1 (dt (by omega)), block_eq hr hk h3 (by omega), bnd1]
    by_cases hi : inside z f k = true
    · have hbi := inside_bd hr hi
      rw [hi, cnd_1 rfl, all_eq hk (by rw [h.llen]; omega) h.llen, bnd1]
      by_cases ha : ∀ g, g < 2 ^ k → left.getD (f + g) 0 ≠ 0
      · have hlen : (l.getD (k : Int).toNat []).length ≤ 256 := h.len' hr k
        rw [dt ha, Bool.and_true, cnd_1 rfl, chk_t (inb_n (by omega)), chk_t (dt (by omega)), chk_t (dt (by show (_ + 1) * 8 ≤ 4294967296; omega)), with_l2 hk h.len (by omega) (2 ^ k) FUEL f left (by omega) (by unfold FUEL; omega) h.llen]
        refine hstep _ _ (h.add hr hk hi (fun j x hd => hd) (fun g g1 g2 => ?_) (by rw [zer_len]; exact h.llen) (fun g => ?_))
        · have := ha (g - f) (by omega)
          rw [show f + (g - f) = g by omega] at this
          exact this
        · rw [zer_get (2 ^ k) f left g (by rw [h.llen]; omega)]
          by_cases hq : f ≤ g ∧ g < f + 2 ^ k
          · rw [if_pos hq, if_pos (by omega)]
          · rw [if_neg hq, if_neg (by omega)]
      · rw [df ha, Bool.and_false, cnd_0 rfl]
        refine hstep _ _ (h.skip hr hk (fun j x hd => by omega) (fun _ => ?_))
        refine Classical.byContradiction fun hno => ha (fun g hg hz => hno ⟨((f + g : Nat) : Int), by omega, by omega, ?_⟩)
        rw [Int.toNat_natCast]
        exact hz
    · have hi' := Bool.eq_false_iff.2 hi
      rw [hi', cnd_0 rfl, bnd1, Bool.false_and, cnd_0 rfl]
      exact hstep _ _ (h.skip hr hk (fun j x hd => by omega) (fun hq => absurd hq hi))
theorem with_l0 (hr : ranges z = true) : ∀ (q n : Nat) (l : List (List Int)) (left : List Int), q ≤ 5 → q < n → WI z s (fun j _ => q ≤ j) l left →
    ∃ l', ref12_with_l0 z n ((q : Int) - 1) l left = some (zl z l') ∧ ∃ left', WI z s (fun _ _ => True) l' left' := by
  have hb := ranges_bd hr
  intro q
  induction q with
  | zero =>
    intro n l left hq hn h
    obtain ⟨n, rfl⟩ : ∃ q, n = q + 1 := ⟨n - 1, by omega⟩
    show ∃ l', ref12_with_b0 _ _ _ _ _ = _ ∧ _
    unfold ref12_with_b0
    rw [cnd_0 (df (by omega))]
    exact ⟨l, rfl, left, h.mono (fun _ _ _ _ => trivial) (fun j x _ _ _ => Nat.zero_le j)⟩
  | succ q ih =>
    intro n l left hq hn h
    obtain ⟨n, rfl⟩ : ∃ q, n = q + 1 := ⟨n - 1, by omega⟩
    show ∃ l', ref12_with_b0 _ _ _ _ _ = _ ∧ _
    unfold ref12_with_b0
    obtain ⟨st, hst⟩ := Int.eq_ofNat_of_zero_le hb.2.2.2.1
    rw [show (((q + 1 : Nat) : Int) - 1) = (q : Int) by omega, cnd_1 (dt (by omega))]
    have := with_l1 (s := s) (k := q) (se := ref12_with_l0 z n) hr (by omega) (fun l2 left2 h2 => ih n l2 left2 (by omega) (by omega) h2) z.count.toNat FUEL st l left (by omega) (by unfold FUEL; omega) (by omega)
      (h.mono (fun j x _ hd => .inl hd) (fun j x hi _ hd => by
        have := inside_bd hr hi
        show q + 1 ≤ j
        omega))
    rw [← hst] at this
    exact this
theorem with_l3 {s : List Int} (hs : s.length = 256) : ∀ (m n i : Nat) (l : List Int), i + m = 256 → m < n → l.length = 256 → (∀ g : Nat, g < i → l.getD g 0 = s.getD g 0) → ref12_with_l3 z s n (i : Int) l = ref12_with_j0 z s := by
  intro m
  induction m with
  | zero =>
    intro n i l h1 h2 h3 h4
    obtain ⟨n, rfl⟩ : ∃ q, n = q + 1 := ⟨n - 1, by omega⟩
    show ref12_with_b3 _ _ _ _ _ = _
    unfold ref12_with_b3
    rw [cnd_0 (df (by omega))]
    congr 1
    apply List.ext_getElem?
    intro g
    rcases Nat.lt_or_ge g 256 with hg | hg
    · have := h4 g (by omega)
      rw [List.getD_eq_getElem?_getD, List.getD_eq_getElem?_getD, List.getElem?_eq_getElem (by omega), List.getElem?_eq_getElem (by omega)] at this
      rw [List.getElem?_eq_getElem (by omega), List.getElem?_eq_getElem (by omega)]
      exact congrArg some this
    · rw [List.getElem?_eq_none (by omega), List.getElem?_eq_none (by omega)]
  | succ m ih =>
    intro n i l h1 h2 h3 h4
    obtain ⟨n, rfl⟩ : ∃ q, n = q + 1 := ⟨n - 1, by omega⟩
    show ref12_with_b3 _ _ _ _ _ = _
    unfold ref12_with_b3
    have hi : i < s.length := by omega
    rw [cnd_1 (dt (by omega)), chk_t (inb_n hi), chk_t (inb_n (by omega)), chk_t (inI_t (by omega)), at_n hi]
    refine ih n (i + 1) _ (by omega) (by omega) (by rw [List.length_set]; exact h3) (fun g hg => ?_)
    rw [Int.toNat_natCast, getD_set _ _ _ (by omega)]
    by_cases hgi : g = i
    · rw [if_pos hgi, hgi, List.getD_eq_getElem?_getD, List.getElem?_eq_getElem hi]
      rfl
    · rw [if_neg hgi]
      exact h4 g (by omega)
theorem with_ok (hr : ranges z = true) (hs : s.length = 256) : ∃ y, ref12_with z s = some y ∧ OkZ y ∧ same5 y z ∧ ∀ g, cov y g ↔ z.start ≤ g ∧ g < z.start + z.count ∧ s.getD g.toNat 0 ≠ 0 := by
  unfold ref12_with
  rw [chk_t (by rw [hs]; rfl), show (0 : Int) = ((0 : Nat) : Int) from rfl, with_l3 hs 256 FUEL 0 _ (by omega) (by unfold FUEL; omega) (by rw [List.length_replicate, hs]; rfl) (fun g hg => by omega)]
  unfold ref12_with_j0
  have he := okZ_empty (z := zl z (List.replicate 5 [])) hr rfl
  obtain ⟨l', e, left', hw⟩ := with_l0 (s := s) hr 5 FUEL (List.replicate 5 []) s (by omega) (by unfold FUEL; omega)
    ⟨rfl, hs, he.1.srt, fun k x hx => absurd (show x ∈ [] from (lst_empty (z := zl z (List.replicate 5 [])) rfl k) ▸ hx) (by simp), he.1.dis, fun g hg => ⟨fun h => ⟨h, he.2 g⟩, fun h => h.1⟩, fun g hg => absurd hg (he.2 g), fun j x hd hj _ => by exact absurd (show 5 ≤ j from hd) (by omega)⟩
  have ho := hw.ok hr
  exact ⟨zl z l', e, ho.1, ⟨rfl, rfl, rfl, rfl, rfl⟩, ho.2⟩
theorem with_eq {y : Zone} (hs : s.length = 256) (ho : OkZ y) (hy : same5 y z) (hc : ∀ g, cov y g ↔ z.start ≤ g ∧ g < z.start + z.count ∧ s.getD g.toNat 0 ≠ 0) : ref12_with z s = some y := by
  have hr : ranges z = true := by rw [← hy.ranges]; exact ho.ranges
  obtain ⟨x, e, h1, h2, h3⟩ := with_ok hr hs
  have hxy : same5 x y := h2.trans ⟨hy.1.symm, hy.2.1.symm, hy.2.2.1.symm, hy.2.2.2.1.symm, hy.2.2.2.2.symm⟩
  rw [e, h1.ext ho hxy.1 hxy.2.1 hxy.2.2.1 hxy.2.2.2.1 hxy.2.2.2.2 (fun f => by rw [h3, hc])]
end
theorem new_set {node kind start count least : Int} {r : Zone × Int} (hr : 0 ≤ start ∧ 1 ≤ count ∧ start + count ≤ 256) (h : ∀ s : List Int, s.length = 256 → (∀ g : Nat, s.getD g 0 = if start ≤ (g : Int) ∧ (g : Int) < start + count then 1 else 0) → ref12_New_j0 node kind start count least s = some r) : ∀ (m n i : Nat) (s : List Int), (i : Int) + m = start + count → m < n → start ≤ i → s.length = 256 →
    (∀ g : Nat, s.getD g 0 = if start ≤ (g : Int) ∧ (g : Int) < i then 1 else 0) → ref12_New_l0 node kind start count least n (i : Int) s = some r := by
  intro m
  induction m with
  | zero =>
    intro n i s h1 h2 h3 h4 h5
    obtain ⟨n, rfl⟩ : ∃ q, n = q + 1 := ⟨n - 1, by omega⟩
    show ref12_New_b0 _ _ _ _ _ _ _ _ = _
    unfold ref12_New_b0
    rw [chk_t (inI_t (by omega)), cnd_0 (df (by omega))]
    refine h s h4 (fun g => ?_)
    rw [h5, show (i : Int) = start + count by omega]
  | succ m ih =>
    intro n i s h1 h2 h3 h4 h5
    obtain ⟨n, rfl⟩ : ∃ q, n = q + 1 := ⟨n - 1, by omega⟩
    show ref12_New_b0 _ _ _ _ _ _ _ _ = _
    unfold ref12_New_b0
    rw [chk_t (inI_t (by omega)), cnd_1 (dt (by omega)), chk_t (inb_n (by omega)), chk_t (inI_t (by omega))]
    refine ih n (i + 1) _ (by omega) (by omega) (by omega) (by rw [List.length_set]; exact h4) (fun g => ?_)
    rw [Int.toNat_natCast, getD_set _ _ _ (by omega), h5]
    by_cases hgi : g = i
    · rw [if_pos hgi, if_pos (by omega)]
    · rw [if_neg hgi]
      by_cases hq : start ≤ (g : Int) ∧ (g : Int) < i
      · rw [if_pos hq, if_pos (by omega)]
      · rw [if_neg hq, if_neg (by omega)]
theorem rnew_eq (node kind start count least : Int) : ref12_New node kind start count least = some (newR node kind start count least) := by
  unfold ref12_New newR
  have e : (⟨node, kind, start, count, least, List.replicate 5 ([] : List Int)⟩ : Zone) = emptyZ node kind start count least := rfl
  rw [e, inRange_eq, bnd1]
  by_cases hr : ranges (emptyZ node kind start count least) = true
  · rw [if_pos hr, hr]
    refine (cnd_0 (by rfl)).trans ?_
    rw [chk_t (by rfl)]
    have hb : 0 ≤ node ∧ node < 4 ∧ (kind = 0 ∨ kind = 1) ∧ 0 ≤ start ∧ start < 256 ∧ 1 ≤ count ∧ count ≤ 256 - start ∧ 0 ≤ least ∧ least ≤ count := ranges_bd hr
    obtain ⟨st, hst⟩ := Int.eq_ofNat_of_zero_le hb.2.2.2.1
    obtain ⟨f1, f2, f3⟩ := fill_ok hr rfl count.toNat (by show _ ≤ count; omega)
    have := new_set (node := node) (kind := kind) (least := least) (r := (fillZ (emptyZ node kind start count least) count.toNat, 0)) (start := start) (count := count) (by omega) (fun s hs hg => by
      unfold ref12_New_j0
      rw [e, with_eq hs f1 f3 (fun g => ?_), bnd1, bnd1]
      rw [f2 g]
      show start ≤ g ∧ g < start + (count.toNat : Int) ↔ start ≤ g ∧ g < start + count ∧ s.getD g.toNat 0 ≠ 0
      rw [hg]
      constructor
      · rintro ⟨h1, h2⟩
        refine ⟨h1, by omega, ?_⟩
        rw [if_pos (by omega)]
        decide
      · rintro ⟨h1, h2, h3⟩
        omega) count.toNat FUEL st (List.replicate 256 0) (by omega) (by unfold FUEL; omega) (by omega) (by rw [List.length_replicate]) (fun g => by
      rw [if_neg (by omega), List.getD_eq_getElem?_getD, List.getElem?_replicate]
      split <;> rfl)
    rw [← hst] at this
    exact this
  · have hr' := Bool.eq_false_iff.2 hr
    rw [if_neg hr, hr']
    rfl
end Go.Proofs.Ytplkliakhdkpcaa
