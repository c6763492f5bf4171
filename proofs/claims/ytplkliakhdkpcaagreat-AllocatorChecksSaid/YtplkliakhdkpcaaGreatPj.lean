/-
  The checks of a processor's cache on both sides. No program in sight.
-/
import Derived.Test.YtplkliakhdkpcaaGreatPi
set_option linter.unusedVariables false
set_option linter.unusedSimpArgs false
namespace Go.Proofs.YtplkliakhdkpcaaGreat
open Go Go.RowKit Go.Wk Go.Am
structure Ck (c : zK) : Prop where
  n : c.lists.length ≤ 1000
  l : ∀ x, x ∈ c.lists → x.length ≤ 1000
def pcR (c : zK) (zn : Int) : Int :=
  if zn < 1 ∨ 6 < zn then 1 else if (c.lists.length : Int) = zn then (if c.lists.flatten.all zE2 = true then (if c.lists.flatten.Nodup then 0 else 7) else 2) else 3
section
variable {c : zK}
theorem Ck.le (h : Ck c) {i : Nat} (hi : i < c.lists.length) : c.lists[i].length ≤ 1000 := h.l _ (List.getElem_mem hi)
theorem zMX {i : Nat} (hi : i < c.lists.length) : (c.lists.drop i).flatten = c.lists[i] ++ (c.lists.drop (i + 1)).flatten := by
  rw [List.drop_eq_getElem_cons hi]
  rfl
theorem zOQ {i : Nat} (hi : c.lists.length ≤ i) : (c.lists.drop i).flatten = [] := by rw [List.drop_eq_nil_of_le hi]; rfl
theorem pl1 {se : Int → Int → Option Int} {acc : Int} {j : Nat} {l : List Int} (hc : Ck c) (hj : j < c.lists.length) (hl : c.lists[j] = l) (h0 : 0 ≤ acc ∧ acc ≤ 1000000000) : ∀ (m n i : Nat), i + m = l.length → m < n →
    zEU se c acc (j : Int) n (i : Int) = if (l.drop i).all zE2 = true then se (acc + l.length) ((j + 1 : Nat) : Int) else some 2 := by
  have hb : l.length ≤ 1000 := by rw [← hl]; exact hc.le hj
  have hn := hc.n
  have e : at_ c.lists (j : Int) = l := by rw [zIs hj, hl]
  intro m
  induction m with
  | zero =>
    intro n i h1 h2
    obtain ⟨n, rfl⟩ : ∃ q, n = q + 1 := ⟨n - 1, by omega⟩
    show zCc _ _ _ _ _ _ = _
    unfold zCc zF2 zFq
    rw [e, zAT (df (by omega)), zw (zAO (by omega)), zw (zAO (by omega)), List.drop_eq_nil_of_le (by omega)]
    rfl
  | succ m ih =>
    intro n i h1 h2
    obtain ⟨n, rfl⟩ : ∃ q, n = q + 1 := ⟨n - 1, by omega⟩
    have hi : i < l.length := by omega
    show zCc _ _ _ _ _ _ = _
    unfold zCc
    rw [e, zAl (dt (by omega)), zw (zAs hi), zIs hi, List.drop_eq_getElem_cons hi, List.all_cons, zw (zAO (by omega))]
    show cnd (!zE2 l[i]) _ _ = _
    cases hf : zE2 l[i] with
    | false => rfl
    | true => exact ih n (i + 1) (by omega) (by omega)
theorem pl0 (hc : Ck c) : ∀ (m n i acc : Nat), i + m = c.lists.length → m < n → acc ≤ i * 1000 →
    zBX c n (acc : Int) (i : Int) = if ((c.lists.drop i).flatten).all zE2 = true then zER c ((acc + (c.lists.drop i).flatten.length : Nat) : Int) else some 2 := by
  have hn := hc.n
  intro m
  induction m with
  | zero =>
    intro n i acc h1 h2 h3
    obtain ⟨n, rfl⟩ : ∃ q, n = q + 1 := ⟨n - 1, by omega⟩
    show zCm _ _ _ _ = _
    unfold zCm
    rw [zAT (df (by omega)), zOQ (by omega)]
    rfl
  | succ m ih =>
    intro n i acc h1 h2 h3
    obtain ⟨n, rfl⟩ : ∃ q, n = q + 1 := ⟨n - 1, by omega⟩
    have hi : i < c.lists.length := by omega
    have hb := hc.le hi
    show zCm _ _ _ _ = _
    unfold zCm
    rw [zAl (dt (by omega)), zw (zAs hi), show (0 : Int) = ((0 : Nat) : Int) from rfl, pl1 hc hi rfl (by omega) c.lists[i].length zAC 0 (by omega) (by unfold zAC; omega), List.drop_zero, zMX hi, List.all_append, List.length_append]
    cases hf : c.lists[i].all zE2 with
    | false => rfl
    | true =>
      rw [if_pos rfl, Bool.true_and]
      have := ih n (i + 1) (acc + c.lists[i].length) (by omega) (by omega) (by omega)
      rw [show acc + c.lists[i].length + ((c.lists.drop (i + 1)).flatten).length = acc + (c.lists[i].length + ((c.lists.drop (i + 1)).flatten).length) by omega] at this
      rw [← this]
      congr 1
def zM7 (m : List (Int × Bool)) (l : List Int) : List (Int × Bool) := l.foldl (fun q f => zIt q f true) m
theorem fm1 {se : Int → List (Int × Bool) → Option (List (Int × Bool))} {j : Nat} {l : List Int} (hc : Ck c) (hj : j < c.lists.length) (hl : c.lists[j] = l) : ∀ (m n i : Nat) (q : List (Int × Bool)), i + m = l.length → m < n →
    zDx se c (j : Int) n (i : Int) q = se ((j + 1 : Nat) : Int) (zM7 q (l.drop i)) := by
  have hb : l.length ≤ 1000 := by rw [← hl]; exact hc.le hj
  have hn := hc.n
  have e : at_ c.lists (j : Int) = l := by rw [zIs hj, hl]
  intro m
  induction m with
  | zero =>
    intro n i q h1 h2
    obtain ⟨n, rfl⟩ : ∃ q, n = q + 1 := ⟨n - 1, by omega⟩
    show zCS _ _ _ _ _ _ = _
    unfold zCS zFO
    rw [e, zAT (df (by omega)), zw (zAO (by omega)), List.drop_eq_nil_of_le (by omega)]
    rfl
  | succ m ih =>
    intro n i q h1 h2
    obtain ⟨n, rfl⟩ : ∃ q, n = q + 1 := ⟨n - 1, by omega⟩
    have hi : i < l.length := by omega
    show zCS _ _ _ _ _ _ = _
    unfold zCS
    rw [e, zAl (dt (by omega)), zw (zAs hi), zIs hi, List.drop_eq_getElem_cons hi, zw (zAO (by omega))]
    exact ih n (i + 1) (zIt q l[i] true) (by omega) (by omega)
theorem fm0 (hc : Ck c) : ∀ (m n i : Nat) (q : List (Int × Bool)), i + m = c.lists.length → m < n → zBY c n (i : Int) q = some (zM7 q (c.lists.drop i).flatten) := by
  have hn := hc.n
  intro m
  induction m with
  | zero =>
    intro n i q h1 h2
    obtain ⟨n, rfl⟩ : ∃ q, n = q + 1 := ⟨n - 1, by omega⟩
    show zCR _ _ _ _ = _
    unfold zCR
    rw [zAT (df (by omega)), zOQ (by omega)]
    rfl
  | succ m ih =>
    intro n i q h1 h2
    obtain ⟨n, rfl⟩ : ∃ q, n = q + 1 := ⟨n - 1, by omega⟩
    have hi : i < c.lists.length := by omega
    have hb := hc.le hi
    show zCR _ _ _ _ = _
    unfold zCR
    rw [zAl (dt (by omega)), zw (zAs hi), show (0 : Int) = ((0 : Nat) : Int) from rfl, fm1 hc hi rfl c.lists[i].length zAC 0 q (by omega) (by unfold zAC; omega), List.drop_zero, zMX hi, ih n (i + 1) _ (by omega) (by omega)]
    unfold zM7
    rw [List.foldl_append]
theorem zM9 (k : Int) : ∀ (q : List (Int × Bool)) (x : Int), x ∈ (zIt q k true).map (·.1) ↔ x = k ∨ x ∈ q.map (·.1)
  | [], x => by simp [zIt]
  | p :: q, x => by
    unfold zIt
    by_cases h : p.1 = k
    · rw [if_pos h]
      simp [h]
    · rw [if_neg h]
      simp only [List.map_cons, List.mem_cons, zM9 k q x]
      constructor
      · rintro (h1 | h1 | h1)
        · exact .inr (.inl h1)
        · exact .inl h1
        · exact .inr (.inr h1)
      · rintro (h1 | h1 | h1)
        · exact .inr (.inl h1)
        · exact .inl h1
        · exact .inr (.inr h1)
theorem zNy (k : Int) : ∀ (q : List (Int × Bool)), (k ∈ q.map (·.1) → (zIt q k true).length = q.length) ∧ (k ∉ q.map (·.1) → (zIt q k true).length = q.length + 1)
  | [] => by simp [zIt]
  | p :: q => by
    have ih := zNy k q
    unfold zIt
    by_cases h : p.1 = k
    · rw [if_pos h]
      exact ⟨fun _ => rfl, fun hn => absurd (by simp [h]) hn⟩
    · rw [if_neg h]
      refine ⟨fun hm => ?_, fun hn => ?_⟩
      · have hm' : k ∈ q.map (·.1) := by
          rcases List.mem_cons.1 hm with e | e
          · exact absurd e.symm h
          · exact e
        show (zIt q k true).length + 1 = q.length + 1
        rw [ih.1 hm']
      · show (zIt q k true).length + 1 = q.length + 1 + 1
        rw [ih.2 (fun hm => hn (List.mem_cons_of_mem _ hm))]
theorem zM1 : ∀ (l : List Int) (q : List (Int × Bool)), (zM7 q l).length ≤ q.length + l.length ∧ ((zM7 q l).length = q.length + l.length ↔ l.Nodup ∧ ∀ x, x ∈ l → x ∉ q.map (·.1))
  | [], q => ⟨Nat.le_refl _, by simp [zM7]⟩
  | a :: l, q => by
    obtain ⟨h1, h2⟩ := zM1 l (zIt q a true)
    have e : zM7 q (a :: l) = zM7 (zIt q a true) l := rfl
    rw [e]
    have hk := zM9 a q
    have hl := zNy a q
    by_cases ha : a ∈ q.map (·.1)
    · rw [hl.1 ha] at h1 h2
      refine ⟨by simp; omega, ⟨fun h => by simp at h; omega, fun h => absurd ha (h.2 a (by simp))⟩⟩
    · rw [hl.2 ha] at h1 h2
      refine ⟨by simp; omega, ?_⟩
      rw [show q.length + (a :: l).length = q.length + 1 + l.length by simp; omega, h2, List.nodup_cons]
      constructor
      · rintro ⟨n1, n2⟩
        refine ⟨⟨fun hm => n2 a hm ((hk a).2 (.inl rfl)), n1⟩, fun x hx => ?_⟩
        rcases List.mem_cons.1 hx with rfl | hx
        · exact ha
        · exact fun hq => n2 x hx ((hk x).2 (.inr hq))
      · rintro ⟨⟨n0, n1⟩, n2⟩
        refine ⟨n1, fun x hx hq => ?_⟩
        rcases (hk x).1 hq with rfl | hq
        · exact n0 hx
        · exact n2 x (by simp [hx]) hq
theorem zST (hc : Ck c) {zn : Int} : zFW c zn = some (pcR c zn) := by
  unfold zFW pcR
  by_cases h1 : zn < 1 ∨ 6 < zn
  · rw [if_pos h1]
    refine zAl ?_
    rcases h1 with h1 | h1 <;> simp [h1]
  · have h1a : ¬ zn < 1 := fun h => h1 (.inl h)
    have h1b : ¬ 6 < zn := fun h => h1 (.inr h)
    rw [if_neg h1, df h1a, df h1b]
    refine (zAT (by rfl)).trans ?_
    by_cases h2 : (c.lists.length : Int) = zn
    · rw [if_pos h2, dt h2]
      refine (zAT (by rfl)).trans ?_
      have hp := pl0 hc c.lists.length zAC 0 0 (by omega) (by have := hc.n; unfold zAC; omega) (by omega)
      rw [List.drop_zero, Nat.zero_add] at hp
      refine Eq.trans hp ?_
      cases hf : c.lists.flatten.all zE2 with
      | false => rfl
      | true =>
        rw [if_pos rfl, if_pos rfl]
        unfold zER zEw
        rw [show (0 : Int) = ((0 : Nat) : Int) from rfl, fm0 hc c.lists.length zAC 0 [] (by omega) (by have := hc.n; unfold zAC; omega), zEy, List.drop_zero]
        have hm := (zM1 c.lists.flatten []).2
        simp only [List.length_nil, Nat.zero_add, List.map_nil, List.not_mem_nil, not_false_eq_true, implies_true, and_true] at hm
        by_cases hd : c.lists.flatten.Nodup
        · rw [if_pos hd, dt (by have := hm.2 hd; omega)]
          rfl
        · rw [if_neg hd, df (fun h => hd (hm.1 (by omega)))]
          rfl
    · rw [if_neg h2, df h2]
      rfl
def zIh : List Bool → List Int → Option (List Bool)
  | d, [] => some d
  | d, f :: r => if d.getD f.toNat false = true then none else zIh (d.set f.toNat true) r
theorem zM6 : ∀ {l : List Int} {d d' : List Bool}, zIh d l = some d' → d'.length = d.length
  | [], _, _, h => by unfold zIh at h; cases h; rfl
  | x :: l, d, d', h => by
    unfold zIh at h
    split at h
    · cases h
    · rw [zM6 h, List.length_set]
theorem zNL : ∀ (l r : List Int) (d : List Bool), zIh d (l ++ r) = (zIh d l).bind fun d' => zIh d' r
  | [], _, _ => rfl
  | x :: l, r, d => by
    show (if d.getD x.toNat false = true then none else zIh (d.set x.toNat true) (l ++ r)) = (if d.getD x.toNat false = true then none else zIh (d.set x.toNat true) l).bind fun d' => zIh d' r
    split
    · rfl
    · exact zNL l r _
theorem zNF : ∀ (l : List Int) (d : List Bool), d.length = 256 → (∀ f, f ∈ l → 0 ≤ f ∧ f < 256) → (zIh d l ≠ none ↔ l.Nodup ∧ ∀ f, f ∈ l → d.getD f.toNat false = false)
  | [], d, _, _ => by simp [zIh]
  | x :: l, d, hd, hin => by
    have hx := hin x (by simp)
    unfold zIh
    cases hq : d.getD x.toNat false with
    | true =>
      rw [if_pos rfl]
      exact ⟨fun h => absurd rfl h, fun h => by have := h.2 x (by simp); rw [hq] at this; cases this⟩
    | false =>
      rw [if_neg (by simp), zNF l _ (by rw [List.length_set]; exact hd) (fun f hf => hin f (by simp [hf])), List.nodup_cons]
      constructor
      · rintro ⟨h1, h2⟩
        refine ⟨⟨fun hm => ?_, h1⟩, fun f hf => ?_⟩
        · have := h2 x hm
          rw [zCr _ _ _ (by omega), if_pos rfl] at this
          cases this
        · rcases List.mem_cons.1 hf with rfl | hf
          · exact hq
          · have := h2 f hf
            rw [zCr _ _ _ (by omega)] at this
            split at this
            · cases this
            · exact this
      · rintro ⟨⟨h0, h1⟩, h2⟩
        refine ⟨h1, fun f hf => ?_⟩
        have hfb := hin f (by simp [hf])
        rw [zCr _ _ _ (by omega), if_neg]
        · exact h2 f (by simp [hf])
        · intro e
          have : f = x := by omega
          exact h0 (this ▸ hf)
theorem ql3 {se : Int → Option Int} {j : Nat} {l : List Int} (hc : Ck c) (hj : j < c.lists.length) (hl : c.lists[j] = l) : ∀ (m n i : Nat), i + m = l.length → m < n →
    zFD se c (j : Int) n (i : Int) = if (l.drop i).all zE2 = true then se ((j + 1 : Nat) : Int) else some 2 := by
  have hb : l.length ≤ 1000 := by rw [← hl]; exact hc.le hj
  have hn := hc.n
  have e : at_ c.lists (j : Int) = l := by rw [zIs hj, hl]
  intro m
  induction m with
  | zero =>
    intro n i h1 h2
    obtain ⟨n, rfl⟩ : ∃ q, n = q + 1 := ⟨n - 1, by omega⟩
    show zDH _ _ _ _ _ = _
    unfold zDH zGh
    rw [e, zAT (df (by omega)), zw (zAO (by omega)), List.drop_eq_nil_of_le (by omega)]
    rfl
  | succ m ih =>
    intro n i h1 h2
    obtain ⟨n, rfl⟩ : ∃ q, n = q + 1 := ⟨n - 1, by omega⟩
    have hi : i < l.length := by omega
    show zDH _ _ _ _ _ = _
    unfold zDH
    have ho : zFf l[i] = some (!zE2 l[i]) := by
      unfold zFf zE2
      congr 1
      rw [Bool.eq_iff_iff]
      simp only [Bool.or_eq_true, decide_eq_true_eq, Bool.not_eq_true', Bool.and_eq_false_iff, decide_eq_false_iff_not]
      omega
    rw [e, zAl (dt (by omega)), zw (zAs hi), zIs hi, ho, zEy, List.drop_eq_getElem_cons hi, List.all_cons, zw (zAO (by omega))]
    cases hf : zE2 l[i] with
    | false => rfl
    | true => exact ih n (i + 1) (by omega) (by omega)
theorem ql2 (hc : Ck c) : ∀ (m n i : Nat), i + m = c.lists.length → m < n →
    zCF c n (i : Int) = if ((c.lists.drop i).flatten).all zE2 = true then zE5 c else some 2 := by
  have hn := hc.n
  intro m
  induction m with
  | zero =>
    intro n i h1 h2
    obtain ⟨n, rfl⟩ : ∃ q, n = q + 1 := ⟨n - 1, by omega⟩
    show zDQ _ _ _ = _
    unfold zDQ
    rw [zAT (df (by omega)), zOQ (by omega)]
    rfl
  | succ m ih =>
    intro n i h1 h2
    obtain ⟨n, rfl⟩ : ∃ q, n = q + 1 := ⟨n - 1, by omega⟩
    have hi : i < c.lists.length := by omega
    have hb := hc.le hi
    show zDQ _ _ _ = _
    unfold zDQ
    rw [zAl (dt (by omega)), zw (zAs hi), show (0 : Int) = ((0 : Nat) : Int) from rfl, ql3 hc hi rfl c.lists[i].length zAC 0 (by omega) (by unfold zAC; omega), List.drop_zero, zMX hi, List.all_append]
    cases hf : c.lists[i].all zE2 with
    | false => rfl
    | true =>
      rw [if_pos rfl, Bool.true_and]
      exact ih n (i + 1) (by omega) (by omega)
theorem ql1 {se : Int → List Bool → Option Int} {j : Nat} {l : List Int} (hc : Ck c) (hj : j < c.lists.length) (hl : c.lists[j] = l) (hin : ∀ f, f ∈ l → 0 ≤ f ∧ f < 256) : ∀ (m n i : Nat) (d : List Bool), i + m = l.length → m < n → d.length = 256 →
    zE9 se c (j : Int) n (i : Int) d = match zIh d (l.drop i) with | none => some 7 | some d' => se ((j + 1 : Nat) : Int) d' := by
  have hb : l.length ≤ 1000 := by rw [← hl]; exact hc.le hj
  have hn := hc.n
  have e : at_ c.lists (j : Int) = l := by rw [zIs hj, hl]
  intro m
  induction m with
  | zero =>
    intro n i d h1 h2 h3
    obtain ⟨n, rfl⟩ : ∃ q, n = q + 1 := ⟨n - 1, by omega⟩
    show zC7 _ _ _ _ _ _ = _
    unfold zC7 zGc
    rw [e, zAT (df (by omega)), zw (zAO (by omega)), List.drop_eq_nil_of_le (by omega)]
    rfl
  | succ m ih =>
    intro n i d h1 h2 h3
    obtain ⟨n, rfl⟩ : ∃ q, n = q + 1 := ⟨n - 1, by omega⟩
    have hi : i < l.length := by omega
    have hf := hin _ (List.getElem_mem hi)
    obtain ⟨f, hf2⟩ := Int.eq_ofNat_of_zero_le hf.1
    have hfl : f < d.length := by omega
    show zC7 _ _ _ _ _ _ = _
    unfold zC7
    have ed : at_ d (f : Int) = d.getD f false := by rw [zIs hfl, List.getD_eq_getElem?_getD, List.getElem?_eq_getElem hfl]; rfl
    rw [e, zAl (dt (by omega)), zw (zAs hi), zIs hi, List.drop_eq_getElem_cons hi, hf2, zw (zAs hfl), ed, zw (zAO (by omega)), Int.toNat_natCast]
    unfold zIh
    rw [Int.toNat_natCast]
    cases hd : d.getD f false with
    | true => rfl
    | false =>
      rw [zAT rfl, if_neg (by simp)]
      exact ih n (i + 1) (d.set f true) (by omega) (by omega) (by rw [List.length_set]; exact h3)
theorem ql0 (hc : Ck c) (hin : ∀ f, f ∈ c.lists.flatten → 0 ≤ f ∧ f < 256) : ∀ (m n i : Nat) (d : List Bool), i + m = c.lists.length → m < n → d.length = 256 →
    zCB c n (i : Int) d = match zIh d (c.lists.drop i).flatten with | none => some 7 | some _ => some 0 := by
  have hn := hc.n
  intro m
  induction m with
  | zero =>
    intro n i d h1 h2 h3
    obtain ⟨n, rfl⟩ : ∃ q, n = q + 1 := ⟨n - 1, by omega⟩
    show zDK _ _ _ _ = _
    unfold zDK
    rw [zAT (df (by omega)), zOQ (by omega)]
    rfl
  | succ m ih =>
    intro n i d h1 h2 h3
    obtain ⟨n, rfl⟩ : ∃ q, n = q + 1 := ⟨n - 1, by omega⟩
    have hi : i < c.lists.length := by omega
    have hb := hc.le hi
    show zDK _ _ _ _ = _
    unfold zDK
    rw [zAl (dt (by omega)), zw (zAs hi), show (0 : Int) = ((0 : Nat) : Int) from rfl, ql1 hc hi rfl (fun f hf => hin f (List.mem_flatten.2 ⟨_, List.getElem_mem hi, hf⟩)) c.lists[i].length zAC 0 d (by omega) (by unfold zAC; omega) h3, List.drop_zero, zMX hi, zNL]
    cases hm : zIh d c.lists[i] with
    | none => rfl
    | some d' => exact ih n (i + 1) d' (by omega) (by omega) (by rw [zM6 hm]; exact h3)
theorem zSQ (hc : Ck c) {zn : Int} : zHZ c zn = some (pcR c zn) := by
  unfold zHZ pcR
  by_cases h1 : zn < 1 ∨ 6 < zn
  · rw [if_pos h1]
    refine zAl ?_
    rcases h1 with h1 | h1 <;> simp [h1]
  · have h1a : ¬ zn < 1 := fun h => h1 (.inl h)
    have h1b : ¬ 6 < zn := fun h => h1 (.inr h)
    rw [if_neg h1, df h1a, df h1b]
    refine (zAT (by rfl)).trans ?_
    by_cases h2 : (c.lists.length : Int) = zn
    · rw [if_pos h2, dt h2]
      refine (zAT (by rfl)).trans ?_
      have hp := ql2 hc c.lists.length zAC 0 (by omega) (by have := hc.n; unfold zAC; omega)
      rw [List.drop_zero] at hp
      refine Eq.trans hp ?_
      cases hf : c.lists.flatten.all zE2 with
      | false => rfl
      | true =>
        rw [if_pos rfl, if_pos rfl]
        unfold zE5
        have hin : ∀ f, f ∈ c.lists.flatten → 0 ≤ f ∧ f < 256 := fun f hm => by
          have := List.all_eq_true.1 hf f hm
          unfold zE2 at this
          simpa using this
        rw [zw (by rfl), show (0 : Int) = ((0 : Nat) : Int) from rfl, ql0 hc hin c.lists.length zAC 0 _ (by omega) (by have := hc.n; unfold zAC; omega) (by rw [List.length_replicate]; rfl), List.drop_zero]
        have hm := zNF c.lists.flatten (List.replicate (256 : Int).toNat false) (by rw [List.length_replicate]; rfl) hin
        have hz : ∀ f : Int, f ∈ c.lists.flatten → (List.replicate (256 : Int).toNat false).getD f.toNat false = false := fun f _ => by
          rw [List.getD_eq_getElem?_getD, List.getElem?_replicate]
          split <;> rfl
        by_cases hd : c.lists.flatten.Nodup
        · rw [if_pos hd]
          have := hm.2 ⟨hd, hz⟩
          cases hq : zIh (List.replicate (256 : Int).toNat false) c.lists.flatten with
          | none => exact absurd hq this
          | some d => rfl
        · rw [if_neg hd]
          cases hq : zIh (List.replicate (256 : Int).toNat false) c.lists.flatten with
          | none => rfl
          | some d => exact absurd (hm.1 (by rw [hq]; simp)).1 hd
    · rw [if_neg h2, df h2]
      rfl
end
end Go.Proofs.YtplkliakhdkpcaaGreat
