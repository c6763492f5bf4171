/-
  The program's Check of a zone gives 'check'. No program in sight.
-/
import Derived.Test.YtplkliakhdkpcaaGreatPe
set_option linter.unusedVariables false
set_option linter.unusedSimpArgs false
namespace Go.Proofs.YtplkliakhdkpcaaGreat
open Go Go.RowKit Go.Wk Go.Am
structure Zk (z : zm) : Prop where
  len : z.free.length = 5
  bd : ∀ k, (lst z k).length ≤ 1000000
section
variable {z : zm} {k : Nat} {l : List Int}
theorem Zk.get (h : Zk z) (hk : k < 5) : z.free[k]? = some (lst z k) := zRi h.len hk
theorem zOA {i : Nat} (h : i < l.length) : l[i]? = some (at_ l (i : Int)) := by rw [zIs h, List.getElem?_eq_getElem h]
theorem zM3 {i : Nat} (h0 : 0 < i) : (i : Int) - 1 = ((i - 1 : Nat) : Int) := by omega
theorem cl6 {se : Int → Option Int} (hz : Zk z) (hr : zBn z = true) (hk : k < 5) (hl : lst z k = l) : ∀ (m n i : Nat), i + m = l.length → m < n → zJO z k none l = zJO z k (zJV l i) (l.drop i) →
    zE8 se z (k : Int) n (i : Int) = if zJO z k none l = 0 then se ((k + 1 : Nat) : Int) else some (zJO z k none l) := by
  have hb : l.length ≤ 1000000 := by rw [← hl]; exact hz.bd k
  have e : z.free.getD (k : Int).toNat [] = l := hl
  intro m
  induction m with
  | zero =>
    intro n i h1 h2 hI
    obtain ⟨n, rfl⟩ : ∃ q, n = q + 1 := ⟨n - 1, by omega⟩
    show zDB _ _ _ _ _ = _
    unfold zDB zGj
    rw [e, zAT (df (by omega)), zw (zAO (by omega)), if_pos (zOD hI (by omega))]
    rfl
  | succ m ih =>
    intro n i h1 h2 hI
    obtain ⟨n, rfl⟩ : ∃ q, n = q + 1 := ⟨n - 1, by omega⟩
    have hi : i < l.length := by omega
    have hx := zOA hi
    show zDB _ _ _ _ _ = _
    unfold zDB
    rw [e, zAl (dt (by omega)), zw (zAs hi), zK3 hr (by omega), zEy]
    generalize at_ l (i : Int) = x at *
    cases hin : zA6 z x k with
    | false =>
      rw [Bool.not_false, zAl rfl, zNO hI hx hin]
      rfl
    | true =>
      rw [Bool.not_true, zAT rfl]
      by_cases h0 : 0 < i
      · rw [zw (zLj (zAO (by omega))), zM3 h0, zw (zLj (zAs (by omega))), dt (p := 0 < (i : Int)) (by omega), Bool.true_and]
        have hy := zOA (l := l) (i := i - 1) (by omega)
        have hg : geP (zJV l i) x = decide (x ≤ at_ l ((i - 1 : Nat) : Int)) := zS0 h0 (by rw [zM3 h0, Int.toNat_natCast]; exact hy)
        by_cases hle : x ≤ at_ l ((i - 1 : Nat) : Int)
        · rw [zAl (dt hle), zL8 hI hx hin (by rw [hg, dt hle])]
          rfl
        · rw [zAT (df hle), zw (zAO (by omega))]
          exact ih n (i + 1) (by omega) (by omega) (zJ7 hI hx hin (by rw [hg, df hle]))
      · rw [df (p := 0 < (i : Int)) (by omega)]
        refine (zw (by rfl)).trans ((zw (by rfl)).trans ((zAT (by rfl)).trans ?_))
        rw [zw (zAO (by omega))]
        exact ih n (i + 1) (by omega) (by omega) (zJ7 hI hx hin (zSV h0))
theorem cl5 (hz : Zk z) (hr : zBn z = true) : ∀ (m n k : Nat), k + m = 5 → m < n → zEz z 0 z.free = zEz z k (z.free.drop k) →
    zCE z n (k : Int) = if zEz z 0 z.free = 0 then zE3 z else some (zEz z 0 z.free) := by
  intro m
  induction m with
  | zero =>
    intro n k h1 h2 hR
    obtain ⟨n, rfl⟩ : ∃ q, n = q + 1 := ⟨n - 1, by omega⟩
    show zDL _ _ _ = _
    unfold zDL
    rw [zAT (df (by omega)), if_pos (zMv hR (by rw [hz.len]; omega))]
  | succ m ih =>
    intro n k h1 h2 hR
    obtain ⟨n, rfl⟩ : ∃ q, n = q + 1 := ⟨n - 1, by omega⟩
    show zDL _ _ _ = _
    unfold zDL
    have hb := hz.bd k
    have hg := hz.get (k := k) (by omega)
    rw [zAl (dt (by omega)), zw (zAs (by omega)), show (0 : Int) = ((0 : Nat) : Int) from rfl, cl6 hz hr (by omega) rfl (lst z k).length zAC 0 (by omega) (by unfold zAC; omega) rfl]
    by_cases h0 : zJO z k none (lst z k) = 0
    · rw [if_pos h0]
      exact ih n (k + 1) (by omega) (by omega) (zL5 hR hg h0)
    · rw [if_neg h0]
      have hc : zEz z 0 z.free = zJO z k none (lst z k) := by
        obtain ⟨a1, a2⟩ := List.getElem?_eq_some_iff.1 hg
        rw [hR, List.drop_eq_getElem_cons a1, a2]
        unfold zEz
        rw [if_neg h0]
      rw [if_neg (by rw [hc]; exact h0), hc]
theorem zSx {l : List Bool} {n i : Nat} (hl : l.length = n) (hi : i < n) (x : Bool) : zEO n false l i x = l.set i x := by
  unfold zEO
  apply List.ext_getElem?
  intro j
  rw [List.getElem?_map, List.getElem?_set]
  by_cases hj : j < n
  · rw [List.getElem?_range hj]
    by_cases hij : i = j
    · subst hij
      rw [if_pos rfl, if_pos (by omega)]
      simp
    · rw [if_neg hij, List.getElem?_eq_getElem (by omega)]
      simp [show ¬ j = i from fun e => hij e.symm, List.getElem?_eq_getElem (show j < l.length by omega)]
  · rw [List.getElem?_eq_none (by simp; omega)]
    by_cases hij : i = j
    · omega
    · rw [if_neg hij, List.getElem?_eq_none (by omega)]
      rfl
theorem zLa : ∀ {m f : Nat} {d d' : List Bool}, zLQ d f m = some d' → d'.length = d.length
  | 0, _, _, _, h => by unfold zLQ at h; cases h; rfl
  | m + 1, f, d, d', h => by
    unfold zLQ at h
    split at h
    · cases h
    · rw [zLa h, List.length_set]
theorem cl4 {se : Int → List Bool → Option Int} {i : Nat} {x : Int} (hk : k < 5) (hx : at_ (lst z k) (i : Int) = x) (h0 : 0 ≤ x) (h1 : x + 2 ^ k ≤ 256) (hi : i < 1000000) : ∀ (m n f : Nat) (d : List Bool), (f : Int) + m = x + 2 ^ k → m < n → d.length = 256 →
    zE6 se z (k : Int) (i : Int) n (f : Int) d = match zLQ d f m with | none => some 7 | some d' => se ((i + 1 : Nat) : Int) d' := by
  obtain ⟨e, p1, p2⟩ := zMa (k := k) (by omega)
  have ex : at_ (z.free.getD (k : Int).toNat []) (i : Int) = x := hx
  intro m
  induction m with
  | zero =>
    intro n f d h2 h3 h4
    obtain ⟨n, rfl⟩ : ∃ q, n = q + 1 := ⟨n - 1, by omega⟩
    show zDI _ _ _ _ _ _ _ = _
    unfold zDI zGm
    rw [e, ex, zw (zO3 (by omega)), zw (zAO (by omega)), zw (zAO (by omega)), zAT (df (by omega)), zw (zAO (by omega))]
    rfl
  | succ m ih =>
    intro n f d h2 h3 h4
    obtain ⟨n, rfl⟩ : ∃ q, n = q + 1 := ⟨n - 1, by omega⟩
    show zDI _ _ _ _ _ _ _ = _
    unfold zDI
    rw [e, ex, zw (zO3 (by omega)), zw (zAO (by omega)), zw (zAO (by omega)), zAl (dt (by omega)), zw (zAs (by omega))]
    have ed : d.getD (f : Int).toNat false = d.getD f false := rfl
    unfold zLQ
    cases hd : d.getD f false with
    | true => rw [ed, hd, zAl rfl, if_pos rfl]
    | false =>
      rw [ed, hd, zAT rfl, if_neg (by simp), zw (zAO (by omega)), zSx h4 (by omega)]
      exact ih n (f + 1) (d.set f true) (by omega) (by omega) (by rw [List.length_set]; exact h4)
theorem cl3 {se : Int → List Bool → Option Int} (hz : Zk z) (hr : zBn z = true) (hk : k < 5) (hl : lst z k = l) (hin : ∀ f, f ∈ l → zA6 z f k = true) : ∀ (m n i : Nat) (d : List Bool), i + m = l.length → m < n → d.length = 256 →
    zBk se z (k : Int) n (i : Int) d = match zK0 k d (l.drop i) with | none => some 7 | some d' => se ((k + 1 : Nat) : Int) d' := by
  have hb : l.length ≤ 1000000 := by rw [← hl]; exact hz.bd k
  have e : z.free.getD (k : Int).toNat [] = l := hl
  obtain ⟨e2, p1, p2⟩ := zMa (k := k) (by omega)
  have pn := zQO (k := k) (by omega)
  intro m
  induction m with
  | zero =>
    intro n i d h1 h2 h3
    obtain ⟨n, rfl⟩ : ∃ q, n = q + 1 := ⟨n - 1, by omega⟩
    show zDF _ _ _ _ _ _ = _
    unfold zDF zGe
    rw [e, zAT (df (by omega)), zw (zAO (by omega)), List.drop_eq_nil_of_le (by omega)]
    rfl
  | succ m ih =>
    intro n i d h1 h2 h3
    obtain ⟨n, rfl⟩ : ∃ q, n = q + 1 := ⟨n - 1, by omega⟩
    have hi : i < l.length := by omega
    show zDF _ _ _ _ _ _ = _
    unfold zDF
    have hbd := zDd hr (hin _ (List.getElem_mem hi))
    have ha : at_ (lst z k) (i : Int) = l[i] := by rw [hl]; exact zIs hi
    obtain ⟨f, hf⟩ := Int.eq_ofNat_of_zero_le hbd.1
    rw [e, zAl (dt (by omega)), zw (zAs hi), zIs hi, List.drop_eq_getElem_cons hi]
    have hc := cl4 (se := zBk se z (k : Int) n) hk ha hbd.1 hbd.2.1 (by omega) (2 ^ k) zAC f d (by omega) (by unfold zAC; omega) h3
    unfold zK0
    rw [hf, hc, show ((f : Int)).toNat = f from rfl]
    cases hm : zLQ d f (2 ^ k) with
    | none => rfl
    | some d' => exact ih n (i + 1) d' (by omega) (by omega) (by rw [zLa hm]; exact h3)
theorem zNB : ∀ {l : List Int} {k : Nat} {d d' : List Bool}, zK0 k d l = some d' → d'.length = d.length
  | [], _, _, _, h => by unfold zK0 at h; cases h; rfl
  | x :: l, k, d, d', h => by
    unfold zK0 at h
    split at h
    · cases h
    · rename_i q hq
      rw [zNB h, zLa hq]
theorem cl2 (hz : Zk z) (hr : zBn z = true) (hin : ∀ k, k < 5 → ∀ f, f ∈ lst z k → zA6 z f k = true) : ∀ (m n k : Nat) (d : List Bool), k + m = 5 → m < n → d.length = 256 →
    zBA z n (k : Int) d = match zJc k d (z.free.drop k) with | none => some 7 | some _ => zDD z := by
  intro m
  induction m with
  | zero =>
    intro n k d h1 h2 h3
    obtain ⟨n, rfl⟩ : ∃ q, n = q + 1 := ⟨n - 1, by omega⟩
    show zDN _ _ _ _ = _
    unfold zDN
    rw [zAT (df (by omega)), List.drop_eq_nil_of_le (by rw [hz.len]; omega)]
    rfl
  | succ m ih =>
    intro n k d h1 h2 h3
    obtain ⟨n, rfl⟩ : ∃ q, n = q + 1 := ⟨n - 1, by omega⟩
    show zDN _ _ _ _ = _
    unfold zDN
    have hb := hz.bd k
    obtain ⟨a1, a2⟩ := List.getElem?_eq_some_iff.1 (hz.get (k := k) (by omega))
    rw [zAl (dt (by omega)), zw (zAs (by omega)), show (0 : Int) = ((0 : Nat) : Int) from rfl, cl3 hz hr (by omega) rfl (hin k (by omega)) (lst z k).length zAC 0 d (by omega) (by unfold zAC; omega) h3, List.drop_eq_getElem_cons a1, a2]
    conv => rhs; unfold zJc
    rw [List.drop_zero]
    cases hm : zK0 k d (lst z k) with
    | none => rfl
    | some d' => exact ih n (k + 1) d' (by omega) (by omega) (by rw [zNB hm]; exact h3)
theorem cl1 {se : Int → Option Int} (hz : Zk z) (hr : zBn z = true) (hk : k < 4) (hl : lst z k = l) (hin : ∀ f, f ∈ l → zA6 z f k = true) (hs : Srt l) : ∀ (m n i : Nat), i + m = l.length → m < n →
    zFA se z (k : Int) n (i : Int) = if zPz z k l (l.drop i) = true then some 11 else se ((k + 1 : Nat) : Int) := by
  have hb : l.length ≤ 1000000 := by rw [← hl]; exact hz.bd k
  have e : z.free.getD (k : Int).toNat [] = l := hl
  obtain ⟨e2, p1, p2⟩ := zMa (k := k) (by omega)
  intro m
  induction m with
  | zero =>
    intro n i h1 h2
    obtain ⟨n, rfl⟩ : ∃ q, n = q + 1 := ⟨n - 1, by omega⟩
    show zDR _ _ _ _ _ = _
    unfold zDR zGi
    rw [e, zAT (df (by omega)), zw (zAO (by omega)), List.drop_eq_nil_of_le (by omega)]
    rfl
  | succ m ih =>
    intro n i h1 h2
    obtain ⟨n, rfl⟩ : ∃ q, n = q + 1 := ⟨n - 1, by omega⟩
    have hi : i < l.length := by omega
    show zDR _ _ _ _ _ = _
    unfold zDR
    have hbd := zDd hr (hin _ (List.getElem_mem hi))
    rw [e, e2, zAl (dt (by omega)), zw (zAs hi), zw (zO3 (by omega)), zw (zAO (by omega)), zw (zAs (by omega)), zIs hi, List.drop_eq_getElem_cons hi, zSN hbd.1 (by omega) hk, zSc hs hb, zEy, zw (zLj (zAO (by omega)))]
    conv => rhs; unfold zPz
    show ((cnd (decide (bud l[i] k ∈ l)) _ _).bind _) = _
    have hie : zCI z (min l[i] (bud l[i] k)) ((k : Int) + 1) = some (zA6 z (min l[i] (bud l[i] k)) (k + 1)) := zK3 (k := k + 1) hr (by omega)
    rw [hie, zw (zAO (by omega))]
    cases hm : decide (bud l[i] k ∈ l) with
    | false =>
      rw [zAT rfl, zEy, Bool.false_and, Bool.false_and, if_neg Bool.false_ne_true]
      exact ih n (i + 1) (by omega) (by omega)
    | true =>
      rw [zAl rfl, zEy]
      cases hq : zA6 z (min l[i] (bud l[i] k)) (k + 1) with
      | false =>
        rw [Bool.and_false, if_neg Bool.false_ne_true]
        exact ih n (i + 1) (by omega) (by omega)
      | true => rfl
theorem cl0 (hz : Zk z) (hr : zBn z = true) (hin : ∀ k, k < 5 → ∀ f, f ∈ lst z k → zA6 z f k = true) (hs : ∀ k, Srt (lst z k)) : ∀ (m n k : Nat), k + m = 4 → m < n →
    zCC z n (k : Int) = if zOc z k ((z.free.take 4).drop k) = true then some 11 else some 0 := by
  intro m
  induction m with
  | zero =>
    intro n k h1 h2
    obtain ⟨n, rfl⟩ : ∃ q, n = q + 1 := ⟨n - 1, by omega⟩
    show zDE _ _ _ = _
    unfold zDE
    rw [zAT (df (by omega)), List.drop_eq_nil_of_le (by rw [List.length_take, hz.len]; omega)]
    rfl
  | succ m ih =>
    intro n k h1 h2
    obtain ⟨n, rfl⟩ : ∃ q, n = q + 1 := ⟨n - 1, by omega⟩
    show zDE _ _ _ = _
    unfold zDE
    have hb := hz.bd k
    obtain ⟨a1, a2⟩ := List.getElem?_eq_some_iff.1 (zLC (hz.get (k := k) (by omega)) (show k < 4 by omega))
    rw [zAl (dt (by omega)), zw (zAs (by omega)), show (0 : Int) = ((0 : Nat) : Int) from rfl, cl1 hz hr (by omega) rfl (hin k (by omega)) (hs k) (lst z k).length zAC 0 (by omega) (by unfold zAC; omega), List.drop_eq_getElem_cons a1, a2]
    conv => rhs; unfold zOc
    rw [List.drop_zero]
    by_cases hq : zPz z k (lst z k) (lst z k) = true
    · rw [if_pos hq, if_pos hq, if_pos rfl]
    · rw [if_neg hq, if_neg hq]
      exact ih n (k + 1) (by omega) (by omega)
theorem zKx (hz : Zk z) (h : zEz z 0 z.free = 0) (k : Nat) : (∀ f, f ∈ lst z k → zA6 z f k = true) ∧ Srt (lst z k) := by
  rcases Nat.lt_or_ge k 5 with hk | hk
  · have := zQV h k _ (hz.get hk)
    rwa [Nat.zero_add] at this
  · rw [zOM hz.len hk]
    exact ⟨fun f hf => absurd hf (by simp), Srt.nil⟩
theorem zPU (hz : Zk z) (hI : inI z.start = true) : zDS z = some (zFU z) := by
  unfold zDS zFU
  rw [zPo _ hI, zEy]
  cases hr : zBn z with
  | false => rfl
  | true =>
    rw [Bool.not_true, zAT rfl, if_neg (by simp), show (0 : Int) = ((0 : Nat) : Int) from rfl, cl5 hz hr 5 zAC 0 (by omega) (by unfold zAC; omega) rfl]
    show (if zEz z 0 z.free = 0 then _ else _) = some (if zEz z 0 z.free = 0 then _ else _)
    by_cases h0 : zEz z 0 z.free = 0
    · rw [if_pos h0, if_pos h0]
      have hl := fun k => zKx hz h0 k
      unfold zE3
      rw [show (0 : Int) = ((0 : Nat) : Int) from rfl, cl2 hz hr (fun k _ => (hl k).1) 5 zAC 0 _ (by omega) (by unfold zAC; omega) (by rw [List.length_replicate]), List.drop_zero]
      show (match zJc 0 zGM z.free with | none => some 7 | some _ => zDD z) = _
      cases hm : zJc 0 zGM z.free with
      | none => rfl
      | some d =>
        rw [if_neg (by simp)]
        show zDD z = _
        unfold zDD
        rw [show (0 : Int) = ((0 : Nat) : Int) from rfl, cl0 hz hr (fun k _ => (hl k).1) (fun k => (hl k).2) 4 zAC 0 (by omega) (by unfold zAC; omega), List.drop_zero]
        split <;> rfl
    · rw [if_neg h0, if_neg h0]
end
end Go.Proofs.YtplkliakhdkpcaaGreat
