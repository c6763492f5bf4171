/-
  The check of an allocator on both sides. No program in sight.
-/
import Derived.Test.YtplkliakhdkpcaaGreatPj
set_option linter.unusedVariables false
set_option linter.unusedSimpArgs false
namespace Go.Proofs.YtplkliakhdkpcaaGreat
open Go Go.RowKit Go.Wk Go.Am
structure Al (a : zL) : Prop where
  n : a.nodes.length ≤ 1000
  z : a.zones.length ≤ 1000
  c : a.caches.length ≤ 1000
  zk : ∀ z, z ∈ a.zones → Zk z ∧ inI z.start = true
  ck : ∀ c, c ∈ a.caches → Ck c
def inZ (z : zm) (f : Int) : Bool := decide (z.start ≤ f) && decide (f < z.start + z.count)
def zE : Int → List zm → Int
  | _, [] => 0
  | s, z :: r => if zFU z = 0 then (if z.start = s then zE (s + z.count) r else 10) else zFU z
def cE (h zn : Int) : List zK → Int
  | [] => 0
  | c :: r => if pcR c zn = 0 then (if (c.lists.any fun l => decide (h < (l.length : Int))) = true then 9 else cE h zn r) else pcR c zn
def feL (z : zm) : List Bool → List Int → Int × List Bool
  | d, [] => (0, d)
  | d, f :: r => if inZ z f = true then (if (d.getD f.toNat false || zMj z f) = true then (7, d) else feL z (d.set f.toNat true) r) else (2, d)
def feC : List Bool → List zm → List (List Int) → Int × List Bool
  | d, z :: zs, l :: ls => if (feL z d l).1 = 0 then feC (feL z d l).2 zs ls else feL z d l
  | d, _, _ => (0, d)
def feA (zs : List zm) : List Bool → List zK → Int
  | _, [] => 0
  | d, c :: cs => if (feC d zs c.lists).1 = 0 then feA zs (feC d zs c.lists).2 cs else (feC d zs c.lists).1
def zN2 (a : zL) : Int :=
  if zQt a.nodes a.batch a.high (a.zones.length : Int) = true then
    (if zE 0 a.zones = 0 then
      (if (a.caches.length : Int) = (a.nodes.length : Int) then
        (if cE a.high (a.zones.length : Int) a.caches = 0 then feA a.zones zGM a.caches else cE a.high (a.zones.length : Int) a.caches) else 3)
    else zE 0 a.zones) else 2
section
variable {a : zL}
theorem zB3 {α : Type} [Inhabited α] {l : List α} {i : Nat} (h : i < l.length) : at_ l (i : Int) ∈ l := by rw [zIs h]; exact List.getElem_mem h
theorem zCW {α : Type} [Inhabited α] {l : List α} {i : Nat} (h : i < l.length) : l.drop i = at_ l (i : Int) :: l.drop (i + 1) := by rw [zIs h]; exact List.drop_eq_getElem_cons h
theorem zl5 (h : Al a) : ∀ (m n i : Nat) (s : Int), i + m = a.zones.length → m < n → 0 ≤ s ∧ s ≤ i * 256 →
    zC0 a n s (i : Int) = if zE s (a.zones.drop i) = 0 then zCy a else some (zE s (a.zones.drop i)) := by
  have hz := h.z
  intro m
  induction m with
  | zero =>
    intro n i s h1 h2 h3
    obtain ⟨n, rfl⟩ : ∃ q, n = q + 1 := ⟨n - 1, by omega⟩
    show zBq _ _ _ _ = _
    unfold zBq
    rw [zAT (df (by omega)), List.drop_eq_nil_of_le (by omega)]
    rfl
  | succ m ih =>
    intro n i s h1 h2 h3
    obtain ⟨n, rfl⟩ : ∃ q, n = q + 1 := ⟨n - 1, by omega⟩
    have hi : i < a.zones.length := by omega
    have hk := h.zk _ (zB3 hi)
    show zBq _ _ _ _ = _
    unfold zBq
    rw [zAl (dt (by omega)), zw (zAs hi), zPU hk.1 hk.2, zEy, zCW hi]
    unfold zE
    generalize hz' : at_ a.zones (i : Int) = z at *
    by_cases hc : zFU z = 0
    · have hb := zCH (zBb hc)
      rw [dt hc, if_pos hc, Bool.not_true, zAT rfl]
      by_cases hs : z.start = s
      · rw [dt hs, if_pos hs, Bool.not_true, zAT rfl, zw (zAO (by omega)), zw (zAO (by omega))]
        exact ih n (i + 1) (s + z.count) (by omega) (by omega) (by omega)
      · rw [df hs, if_neg hs]
        rfl
    · rw [df hc, if_neg hc, if_neg hc]
      rfl
theorem zr0 (h : Al a) : ∀ (m n i : Nat) (s : Int), i + m = a.zones.length → m < n → 0 ≤ s ∧ s ≤ i * 256 →
    zFF a n s (i : Int) = if zE s (a.zones.drop i) = 0 then zFE a else some (zE s (a.zones.drop i)) := by
  have hz := h.z
  intro m
  induction m with
  | zero =>
    intro n i s h1 h2 h3
    obtain ⟨n, rfl⟩ : ∃ q, n = q + 1 := ⟨n - 1, by omega⟩
    show zDA _ _ _ _ = _
    unfold zDA
    rw [zAT (df (by omega)), List.drop_eq_nil_of_le (by omega)]
    rfl
  | succ m ih =>
    intro n i s h1 h2 h3
    obtain ⟨n, rfl⟩ : ∃ q, n = q + 1 := ⟨n - 1, by omega⟩
    have hi : i < a.zones.length := by omega
    have hk := h.zk _ (zB3 hi)
    show zDA _ _ _ _ = _
    unfold zDA
    rw [zAl (dt (by omega)), zw (zAs hi), zQr hk.1, zEy, zCW hi]
    unfold zE
    generalize hz' : at_ a.zones (i : Int) = z at *
    by_cases hc : zFU z = 0
    · have hb := zCH (zBb hc)
      rw [dt hc, if_pos hc, Bool.not_true, zAT rfl]
      by_cases hs : z.start = s
      · rw [dt hs, if_pos hs, Bool.not_true, zAT rfl, zw (zAO (by omega)), zw (zAO (by omega))]
        exact ih n (i + 1) (s + z.count) (by omega) (by omega) (by omega)
      · rw [df hs, if_neg hs]
        rfl
    · rw [df hc, if_neg hc, if_neg hc]
      rfl
theorem zOB {l : List (List Int)} {h : Int} {i : Nat} (hi : i < l.length) : ((l.drop i).any fun q => decide (h < (q.length : Int))) = (decide (h < ((at_ l (i : Int)).length : Int)) || (l.drop (i + 1)).any fun q => decide (h < (q.length : Int))) := by
  rw [zCW hi, List.any_cons]
theorem hl4 {se : Int → Option Int} {c : zK} {j : Nat} (hj : j < a.caches.length) (hc : at_ a.caches (j : Int) = c) (hk : Ck c) (ha : Al a) : ∀ (m n i : Nat), i + m = c.lists.length → m < n →
    zC6 se a (j : Int) n (i : Int) = if ((c.lists.drop i).any fun l => decide (a.high < (l.length : Int))) = true then some 9 else se ((j + 1 : Nat) : Int) := by
  have hn := hk.n
  have hcl := ha.c
  intro m
  induction m with
  | zero =>
    intro n i h1 h2
    obtain ⟨n, rfl⟩ : ∃ q, n = q + 1 := ⟨n - 1, by omega⟩
    show zBy _ _ _ _ _ = _
    unfold zBy zEL
    rw [hc, zAT (df (by omega)), zw (zAO (by omega)), List.drop_eq_nil_of_le (by omega)]
    rfl
  | succ m ih =>
    intro n i h1 h2
    obtain ⟨n, rfl⟩ : ∃ q, n = q + 1 := ⟨n - 1, by omega⟩
    have hi : i < c.lists.length := by omega
    show zBy _ _ _ _ _ = _
    unfold zBy
    rw [hc, zAl (dt (by omega)), zw (zAs hi), zOB hi, zw (zAO (by omega))]
    cases decide (a.high < ((at_ c.lists (i : Int)).length : Int)) with
    | true => rfl
    | false => exact ih n (i + 1) (by omega) (by omega)
theorem rl4 {se : Int → Option Int} {c : zK} {j : Nat} (hj : j < a.caches.length) (hc : at_ a.caches (j : Int) = c) (hk : Ck c) (ha : Al a) (hzl : c.lists.length = a.zones.length) : ∀ (m n i : Nat), i + m = c.lists.length → m < n →
    zCT se a (j : Int) n (i : Int) = if ((c.lists.drop i).any fun l => decide (a.high < (l.length : Int))) = true then some 9 else se ((j + 1 : Nat) : Int) := by
  have hn := hk.n
  have hcl := ha.c
  intro m
  induction m with
  | zero =>
    intro n i h1 h2
    obtain ⟨n, rfl⟩ : ∃ q, n = q + 1 := ⟨n - 1, by omega⟩
    show zBO _ _ _ _ _ = _
    unfold zBO zDV
    rw [zAT (df (by omega)), zw (zAO (by omega)), List.drop_eq_nil_of_le (by omega)]
    rfl
  | succ m ih =>
    intro n i h1 h2
    obtain ⟨n, rfl⟩ : ∃ q, n = q + 1 := ⟨n - 1, by omega⟩
    have hi : i < c.lists.length := by omega
    show zBO _ _ _ _ _ = _
    unfold zBO
    rw [hc, zAl (dt (by omega)), zw (zAs hj), zw (zAs hi), zOB hi, zw (zAO (by omega))]
    cases decide (a.high < ((at_ c.lists (i : Int)).length : Int)) with
    | true => rfl
    | false => exact ih n (i + 1) (by omega) (by omega)
theorem zPK {c : zK} {zn : Int} (h : pcR c zn = 0) : (c.lists.length : Int) = zn ∧ (∀ f, f ∈ c.lists.flatten → zE2 f = true) := by
  unfold pcR at h
  split at h
  · cases h
  · split at h
    · rename_i h2
      split at h
      · rename_i h3
        exact ⟨h2, fun f hf => List.all_eq_true.1 h3 f hf⟩
      · cases h
    · cases h
theorem hl3 (ha : Al a) : ∀ (m n i : Nat), i + m = a.caches.length → m < n →
    zBE a n (i : Int) = if cE a.high (a.zones.length : Int) (a.caches.drop i) = 0 then zC4 a else some (cE a.high (a.zones.length : Int) (a.caches.drop i)) := by
  have hcl := ha.c
  intro m
  induction m with
  | zero =>
    intro n i h1 h2
    obtain ⟨n, rfl⟩ : ∃ q, n = q + 1 := ⟨n - 1, by omega⟩
    show zBm _ _ _ = _
    unfold zBm
    rw [zAT (df (by omega)), List.drop_eq_nil_of_le (by omega)]
    rfl
  | succ m ih =>
    intro n i h1 h2
    obtain ⟨n, rfl⟩ : ∃ q, n = q + 1 := ⟨n - 1, by omega⟩
    have hi : i < a.caches.length := by omega
    have hk := ha.ck _ (zB3 hi)
    show zBm _ _ _ = _
    unfold zBm
    rw [zAl (dt (by omega)), zw (zAs hi), zST hk, zEy, zCW hi]
    unfold cE
    by_cases h0 : pcR (at_ a.caches (i : Int)) (a.zones.length : Int) = 0
    · rw [dt h0, if_pos h0, Bool.not_true, zAT rfl, show (0 : Int) = ((0 : Nat) : Int) from rfl, hl4 hi rfl hk ha _ zAC 0 (Nat.zero_add _) (by have := hk.n; unfold zAC; omega), List.drop_zero]
      cases hq : ((at_ a.caches (i : Int)).lists.any fun l => decide (a.high < (l.length : Int))) with
      | true => rfl
      | false =>
        rw [if_neg Bool.false_ne_true, if_neg Bool.false_ne_true]
        exact ih n (i + 1) (by omega) (by omega)
    · rw [df h0, if_neg h0, if_neg h0]
      rfl
theorem rl3 (ha : Al a) : ∀ (m n i : Nat), i + m = a.caches.length → m < n →
    zAv a n (i : Int) = if cE a.high (a.zones.length : Int) (a.caches.drop i) = 0 then zCU a else some (cE a.high (a.zones.length : Int) (a.caches.drop i)) := by
  have hcl := ha.c
  intro m
  induction m with
  | zero =>
    intro n i h1 h2
    obtain ⟨n, rfl⟩ : ∃ q, n = q + 1 := ⟨n - 1, by omega⟩
    show zBN _ _ _ = _
    unfold zBN
    rw [zAT (df (by omega)), List.drop_eq_nil_of_le (by omega)]
    rfl
  | succ m ih =>
    intro n i h1 h2
    obtain ⟨n, rfl⟩ : ∃ q, n = q + 1 := ⟨n - 1, by omega⟩
    have hi : i < a.caches.length := by omega
    have hk := ha.ck _ (zB3 hi)
    show zBN _ _ _ = _
    unfold zBN
    rw [zAl (dt (by omega)), zw (zAs hi), zSQ hk, zEy, zCW hi]
    unfold cE
    by_cases h0 : pcR (at_ a.caches (i : Int)) (a.zones.length : Int) = 0
    · have hlen := (zPK h0).1
      rw [dt h0, if_pos h0, Bool.not_true, zAT rfl, show (0 : Int) = ((0 : Nat) : Int) from rfl, rl4 hi rfl hk ha (by omega) _ zAC 0 (Nat.zero_add _) (by have := hk.n; unfold zAC; omega), List.drop_zero]
      cases hq : ((at_ a.caches (i : Int)).lists.any fun l => decide (a.high < (l.length : Int))) with
      | true => rfl
      | false =>
        rw [if_neg Bool.false_ne_true, if_neg Bool.false_ne_true]
        exact ih n (i + 1) (by omega) (by omega)
    · rw [df h0, if_neg h0, if_neg h0]
      rfl
def zIx (f : Int) : List zm → Nat → Int
  | [], _ => -1
  | z :: r, i => if inZ z f = true then (i : Int) else zIx f r (i + 1)
theorem zPk (f : Int) : ∀ (zs : List zm) (i : Nat), zIx f zs i = -1 ∨ ((i : Int) ≤ zIx f zs i ∧ zIx f zs i < ((i + zs.length : Nat) : Int))
  | [], _ => .inl rfl
  | z :: r, i => by
    unfold zIx
    split
    · exact .inr ⟨Int.le_refl _, by simp; omega⟩
    · rcases zPk f r (i + 1) with h | h
      · exact .inl h
      · exact .inr ⟨by omega, by simp; omega⟩
def zPC (zs : List zm) : Prop := zs.Pairwise fun x y => ∀ f, inZ x f = true → inZ y f = false
theorem zQz (f : Int) : ∀ (zs : List zm) (i p : Nat) (hp : p < zs.length), zPC zs → (zIx f zs i = ((i + p : Nat) : Int) ↔ inZ zs[p] f = true)
  | [], _, _, hp, _ => absurd hp (by simp)
  | z :: r, i, p, hp, ha => by
    have ha' := List.pairwise_cons.1 ha
    unfold zIx
    cases p with
    | zero =>
      show _ ↔ inZ z f = true
      by_cases h : inZ z f = true
      · rw [if_pos h]; simp [h]
      · rw [if_neg h]
        refine ⟨fun e => ?_, fun e => absurd e h⟩
        rcases zPk f r (i + 1) with h1 | h1 <;> omega
    | succ p =>
      have hp' : p < r.length := by simpa using hp
      show _ ↔ inZ r[p] f = true
      by_cases h : inZ z f = true
      · rw [if_pos h, ha'.1 _ (List.getElem_mem hp') f h]
        refine ⟨fun e => by omega, fun e => by cases e⟩
      · rw [if_neg h, show i + (p + 1) = i + 1 + p by omega]
        exact zQz f r (i + 1) p hp' ha'.2
theorem zQb : ∀ {zs : List zm} {s : Int}, zE s zs = 0 → (∀ z, z ∈ zs → zFU z = 0 ∧ s ≤ z.start) ∧ zPC zs
  | [], _, _ => ⟨fun z hz => absurd hz (by simp), List.Pairwise.nil⟩
  | z :: r, s, h => by
    unfold zE at h
    by_cases hc : zFU z = 0
    · rw [if_pos hc] at h
      by_cases hs : z.start = s
      · rw [if_pos hs] at h
        have hb := zCH (zBb hc)
        obtain ⟨h1, h2⟩ := zQb h
        refine ⟨fun y hy => ?_, List.pairwise_cons.2 ⟨fun y hy f hf => ?_, h2⟩⟩
        · rcases List.mem_cons.1 hy with rfl | hy
          · exact ⟨hc, by omega⟩
          · have := h1 y hy
            exact ⟨this.1, by omega⟩
        · have := (h1 y hy).2
          unfold inZ at hf ⊢
          simp only [Bool.and_eq_true, decide_eq_true_eq] at hf
          rw [df (by omega)]
          rfl
      · rw [if_neg hs] at h; cases h
    · rw [if_neg hc] at h; exact absurd h hc
theorem zRZ {f : Int} (ha : Al a) (hv : ∀ z, z ∈ a.zones → zFU z = 0) : ∀ (m n i : Nat), i + m = a.zones.length → m < n →
    zAd a.zones (fun y => zCN y f) n (i : Int) = some (zIx f (a.zones.drop i) i) := by
  have hzl := ha.z
  intro m
  induction m with
  | zero =>
    intro n i h1 h2
    obtain ⟨n, rfl⟩ : ∃ q, n = q + 1 := ⟨n - 1, by omega⟩
    show zAG _ _ _ _ = _
    unfold zAG
    rw [zAT (df (by omega)), List.drop_eq_nil_of_le (by omega)]
    rfl
  | succ m ih =>
    intro n i h1 h2
    obtain ⟨n, rfl⟩ : ∃ q, n = q + 1 := ⟨n - 1, by omega⟩
    have hi : i < a.zones.length := by omega
    have hb := zCH (zBb (hv _ (zB3 hi)))
    show zAG _ _ _ _ = _
    unfold zAG
    have hz1 : zCN (at_ a.zones (i : Int)) f = some (inZ (at_ a.zones (i : Int)) f) := by
      unfold zCN
      rw [zw (zLj (zAO (by omega)))]
      rfl
    rw [zAl (dt (by omega)), zw (zAs hi)]
    show ((zCN (at_ a.zones (i : Int)) f).bind _) = _
    rw [hz1, zEy, zCW hi, zw (zAO (by omega))]
    unfold zIx
    cases inZ (at_ a.zones (i : Int)) f with
    | true => rfl
    | false => exact ih n (i + 1) (by omega) (by omega)
theorem zRq {f : Int} (ha : Al a) (hv : ∀ z, z ∈ a.zones → zFU z = 0) : zCZ a f = some (zIx f a.zones 0) := by
  unfold zCZ zA4
  have := zRZ (f := f) ha hv a.zones.length zAC 0 (by omega) (by have := ha.z; unfold zAC; omega)
  rw [List.drop_zero] at this
  rw [show (0 : Int) = ((0 : Nat) : Int) from rfl, this]
  rfl
theorem zRa {f : Int} (ha : Al a) (hv : ∀ z, z ∈ a.zones → zFU z = 0) : ∀ (m n i : Nat), i + m = a.zones.length → m < n → zFh a f n (i : Int) = some (zIx f (a.zones.drop i) i) := by
  have hzl := ha.z
  intro m
  induction m with
  | zero =>
    intro n i h1 h2
    obtain ⟨n, rfl⟩ : ∃ q, n = q + 1 := ⟨n - 1, by omega⟩
    show zDl _ _ _ _ = _
    unfold zDl
    rw [zAT (df (by omega)), List.drop_eq_nil_of_le (by omega)]
    rfl
  | succ m ih =>
    intro n i h1 h2
    obtain ⟨n, rfl⟩ : ∃ q, n = q + 1 := ⟨n - 1, by omega⟩
    have hi : i < a.zones.length := by omega
    have hb := zCH (zBb (hv _ (zB3 hi)))
    show zDl _ _ _ _ = _
    unfold zDl
    rw [zAl (dt (by omega)), zw (zAs hi), zw (zLj (zAO (by omega))), zCW hi, zw (zAO (by omega))]
    unfold zIx
    show cnd (inZ (at_ a.zones (i : Int)) f) _ _ = _
    cases inZ (at_ a.zones (i : Int)) f with
    | true => rfl
    | false => exact ih n (i + 1) (by omega) (by omega)
theorem zTI {f : Int} (ha : Al a) (hv : ∀ z, z ∈ a.zones → zFU z = 0) : zIA a f = some (zIx f a.zones 0) := by
  unfold zIA
  have := zRa (f := f) ha hv a.zones.length zAC 0 (by omega) (by have := ha.z; unfold zAC; omega)
  rw [List.drop_zero] at this
  exact this
theorem zLS (z : zm) : ∀ (l : List Int) (d : List Bool), (feL z d l).2.length = d.length
  | [], _ => rfl
  | f :: l, d => by
    unfold feL
    split
    · split
      · rfl
      · rw [zLS z l, List.length_set]
    · rfl
theorem zNY : ∀ (zs : List zm) (ls : List (List Int)) (d : List Bool), (feC d zs ls).2.length = d.length
  | [], _, _ => by unfold feC; rfl
  | _ :: _, [], _ => by unfold feC; rfl
  | z :: zs, l :: ls, d => by
    unfold feC
    split
    · rw [zNY zs ls, zLS]
    · exact zLS z l d
def SM (q : List (Int × Bool)) (d : List Bool) : Prop := ∀ f : Nat, f < 256 → zJ6 false q (f : Int) = d.getD f false
theorem zNz (k f : Int) : ∀ (q : List (Int × Bool)), zJ6 false (zIt q k true) f = if f = k then true else zJ6 false q f
  | [] => by
    unfold zIt zJ6
    by_cases h : f = k
    · rw [if_pos h, h]; simp
    · rw [if_neg h]
      have : ¬ k = f := fun e => h e.symm
      simp [this]
  | p :: q => by
    have ih := zNz k f q
    unfold zIt
    by_cases hp : p.1 = k
    · rw [if_pos hp]
      unfold zJ6
      by_cases h : f = k
      · rw [if_pos h, h]; simp
      · rw [if_neg h]
        have h1 : ¬ k = f := fun e => h e.symm
        have h2 : ¬ p.1 = f := fun e => h (by rw [← e, hp])
        simp [h1, h2]
    · rw [if_neg hp]
      by_cases h2 : p.1 = f
      · have h1 : ¬ f = k := fun e => hp (by rw [h2, e])
        rw [if_neg h1]
        unfold zJ6
        simp [h2]
      · have e1 : ∀ r : List (Int × Bool), zJ6 false (p :: r) f = zJ6 false r f := fun r => by unfold zJ6; simp [h2]
        rw [e1, e1, ih]
theorem SM.set {q : List (Int × Bool)} {d : List Bool} {k : Nat} (h : SM q d) (hd : d.length = 256) (hk : k < 256) : SM (zIt q (k : Int) true) (d.set k true) := by
  intro f hf
  rw [zNz, zCr _ _ _ (by omega), h f hf]
  by_cases e : f = k
  · rw [if_pos e, if_pos (by omega)]
  · rw [if_neg e, if_neg (by omega)]
theorem zQ1 {z : zm} {f : Int} (hr : zBn z = true) (h : inZ z f = true) : 0 ≤ f ∧ f < 256 := by
  have hb := zCH hr
  unfold inZ at h
  simp only [Bool.and_eq_true, decide_eq_true_eq] at h
  omega
theorem zTT {α : Type} {b c : Bool} {x y : Option α} : (cnd (!b) (some c) (some default)).bind (fun q => cnd (b || q) x y) = cnd (b || c) x y := by
  cases b <;> rfl
theorem el2 {se : Int → List (Int × Bool) → Option Int} {c : zK} {j p : Nat} {z : zm} {l : List Int} (ha : Al a) (hv : ∀ z, z ∈ a.zones → zFU z = 0) (hap : zPC a.zones) (hj : j < a.caches.length) (hc : at_ a.caches (j : Int) = c) (hp : p < c.lists.length) (hpz : p < a.zones.length) (hz : at_ a.zones (p : Int) = z) (hl : at_ c.lists (p : Int) = l) (hll : l.length ≤ 1000) (hpb : p ≤ 1000) :
    ∀ (m n i : Nat) (q : List (Int × Bool)) (d : List Bool), i + m = l.length → m < n → d.length = 256 → SM q d → ∃ q', SM q' (feL z d (l.drop i)).2 ∧
      zBU se a (j : Int) (p : Int) n (i : Int) q = if (feL z d (l.drop i)).1 = 0 then se ((p + 1 : Nat) : Int) q' else some (feL z d (l.drop i)).1 := by
  have hkz := ha.zk z (hz ▸ zB3 hpz)
  have hcz := hv z (hz ▸ zB3 hpz)
  intro m
  induction m with
  | zero =>
    intro n i q d h1 h2 h3 h4
    obtain ⟨n, rfl⟩ : ∃ q, n = q + 1 := ⟨n - 1, by omega⟩
    rw [List.drop_eq_nil_of_le (by omega)]
    refine ⟨q, h4, ?_⟩
    show zBu _ _ _ _ _ _ _ = _
    unfold zBu zEG
    rw [hc, hl, zAT (df (by omega)), zw (zAO (by omega))]
    rfl
  | succ m ih =>
    intro n i q d h1 h2 h3 h4
    obtain ⟨n, rfl⟩ : ∃ q, n = q + 1 := ⟨n - 1, by omega⟩
    have hi : i < l.length := by omega
    have hx := zQz (at_ l (i : Int)) a.zones 0 p hpz hap
    rw [← zIs hpz, hz, Nat.zero_add] at hx
    have ee : zBU se a (j : Int) (p : Int) (n + 1) (i : Int) q = cnd (!decide (zIx (at_ l (i : Int)) a.zones 0 = (p : Int))) (some 2) (cnd (zJ6 false q (at_ l (i : Int)) || zMj z (at_ l (i : Int))) (some 7) (zBU se a (j : Int) (p : Int) n ((i + 1 : Nat) : Int) (zIt q (at_ l (i : Int)) true))) := by
      show zBu _ _ _ _ _ _ _ = _
      unfold zBu
      rw [hc, hl, zAl (dt (by omega)), zw (zAs hi), zRq ha hv, zEy, zw (zLj (zAs hpz)), hz, zSW hkz.1 hkz.2, zTT, zw (zAO (by omega))]
      rfl
    rw [ee, zCW hi]
    unfold feL
    generalize at_ l (i : Int) = f at *
    cases hq : inZ z f with
    | false =>
      rw [df (fun e => by rw [hx.1 e] at hq; cases hq)]
      exact ⟨q, h4, rfl⟩
    | true =>
      have hf := zQ1 (zBb hcz) hq
      obtain ⟨g, rfl⟩ := Int.eq_ofNat_of_zero_le hf.1
      rw [dt (hx.2 hq), Bool.not_true, zAT rfl, if_pos rfl, h4 g (by omega), Int.toNat_natCast]
      cases hr : (d.getD g false || zMj z (g : Int)) with
      | true => exact ⟨q, h4, rfl⟩
      | false =>
        rw [zAT rfl, if_neg Bool.false_ne_true]
        exact ih n (i + 1) _ _ (by omega) (by omega) (by rw [List.length_set]; exact h3) (h4.set h3 (by omega))
theorem el1 {se : Int → List (Int × Bool) → Option Int} {c : zK} {j : Nat} (ha : Al a) (hv : ∀ z, z ∈ a.zones → zFU z = 0) (hap : zPC a.zones) (hj : j < a.caches.length) (hc : at_ a.caches (j : Int) = c) (hlen : c.lists.length = a.zones.length) :
    ∀ (m n p : Nat) (q : List (Int × Bool)) (d : List Bool), p + m = c.lists.length → m < n → d.length = 256 → SM q d → ∃ q', SM q' (feC d (a.zones.drop p) (c.lists.drop p)).2 ∧
      zAj se a (j : Int) n (p : Int) q = if (feC d (a.zones.drop p) (c.lists.drop p)).1 = 0 then se ((j + 1 : Nat) : Int) q' else some (feC d (a.zones.drop p) (c.lists.drop p)).1 := by
  have hcl := ha.c
  have hck := ha.ck c (hc ▸ zB3 hj)
  have hn := hck.n
  intro m
  induction m with
  | zero =>
    intro n p q d h1 h2 h3 h4
    obtain ⟨n, rfl⟩ : ∃ q, n = q + 1 := ⟨n - 1, by omega⟩
    rw [List.drop_eq_nil_of_le (show a.zones.length ≤ p by omega)]
    unfold feC
    refine ⟨q, h4, ?_⟩
    show zBt _ _ _ _ _ _ = _
    unfold zBt zED
    rw [hc, zAT (df (by omega)), zw (zAO (by omega))]
    rfl
  | succ m ih =>
    intro n p q d h1 h2 h3 h4
    obtain ⟨n, rfl⟩ : ∃ q, n = q + 1 := ⟨n - 1, by omega⟩
    have hp : p < c.lists.length := by omega
    have hpz : p < a.zones.length := by omega
    have hll := hck.l _ (zB3 hp)
    obtain ⟨q1, s1, s2⟩ := el2 (se := zAj se a (j : Int) n) ha hv hap hj hc hp hpz rfl rfl hll (by omega) _ zAC 0 q d (Nat.zero_add _) (by unfold zAC; omega) h3 h4
    rw [List.drop_zero] at s1 s2
    have ee : zAj se a (j : Int) (n + 1) (p : Int) q = zBU (zAj se a (j : Int) n) a (j : Int) (p : Int) zAC ((0 : Nat) : Int) q := by
      show zBt _ _ _ _ _ _ = _
      unfold zBt
      rw [hc, zAl (dt (by omega)), zw (zAs hp)]
      rfl
    rw [ee, s2, zCW hp, zCW hpz]
    unfold feC
    by_cases h0 : (feL (at_ a.zones (p : Int)) d (at_ c.lists (p : Int))).1 = 0
    · rw [if_pos h0, if_pos h0]
      exact ih n (p + 1) q1 _ (by omega) (by omega) (by rw [zLS]; exact h3) s1
    · rw [if_neg h0, if_neg h0]
      exact ⟨q1, s1, (if_neg h0).symm⟩
theorem el0 (ha : Al a) (hv : ∀ z, z ∈ a.zones → zFU z = 0) (hap : zPC a.zones) (hlen : ∀ c, c ∈ a.caches → c.lists.length = a.zones.length) :
    ∀ (m n j : Nat) (q : List (Int × Bool)) (d : List Bool), j + m = a.caches.length → m < n → d.length = 256 → SM q d → zAV a n (j : Int) q = some (feA a.zones d (a.caches.drop j)) := by
  have hcl := ha.c
  intro m
  induction m with
  | zero =>
    intro n j q d h1 h2 h3 h4
    obtain ⟨n, rfl⟩ : ∃ q, n = q + 1 := ⟨n - 1, by omega⟩
    show zBv _ _ _ _ = _
    unfold zBv
    rw [zAT (df (by omega)), List.drop_eq_nil_of_le (by omega)]
    rfl
  | succ m ih =>
    intro n j q d h1 h2 h3 h4
    obtain ⟨n, rfl⟩ : ∃ q, n = q + 1 := ⟨n - 1, by omega⟩
    have hj : j < a.caches.length := by omega
    have hl := hlen _ (zB3 hj)
    obtain ⟨q1, s1, s2⟩ := el1 (se := zAV a n) ha hv hap hj rfl hl _ zAC 0 q d (Nat.zero_add _) (by have := (ha.ck _ (zB3 hj)).n; unfold zAC; omega) h3 h4
    rw [List.drop_zero, List.drop_zero] at s1 s2
    show zBv _ _ _ _ = _
    unfold zBv
    rw [zAl (dt (by omega)), zw (zAs hj), show (0 : Int) = ((0 : Nat) : Int) from rfl, s2, zCW hj]
    unfold feA
    by_cases h0 : (feC d a.zones (at_ a.caches (j : Int)).lists).1 = 0
    · rw [if_pos h0, if_pos h0]
      exact ih n (j + 1) q1 _ (by omega) (by omega) (by rw [zNY]; exact h3) s1
    · rw [if_neg h0, if_neg h0]
theorem fl2 {se : Int → List Bool → Option Int} {c : zK} {j p : Nat} {z : zm} {l : List Int} (ha : Al a) (hv : ∀ z, z ∈ a.zones → zFU z = 0) (hc : at_ a.caches (j : Int) = c) (hpz : p < a.zones.length) (hz : at_ a.zones (p : Int) = z) (hl : at_ c.lists (p : Int) = l) (hll : l.length ≤ 1000) (hpb : p ≤ 1000) :
    ∀ (m n i : Nat) (d : List Bool), i + m = l.length → m < n → d.length = 256 →
      zB2 se a (j : Int) (p : Int) n (i : Int) d = if (feL z d (l.drop i)).1 = 0 then se ((p + 1 : Nat) : Int) (feL z d (l.drop i)).2 else some (feL z d (l.drop i)).1 := by
  have hkz := ha.zk z (hz ▸ zB3 hpz)
  have hcz := hv z (hz ▸ zB3 hpz)
  have hb := zCH (zBb hcz)
  intro m
  induction m with
  | zero =>
    intro n i d h1 h2 h3
    obtain ⟨n, rfl⟩ : ∃ q, n = q + 1 := ⟨n - 1, by omega⟩
    rw [List.drop_eq_nil_of_le (by omega)]
    show zBP _ _ _ _ _ _ _ = _
    unfold zBP zDU
    rw [hc, hl, zAT (df (by omega)), zw (zAO (by omega))]
    rfl
  | succ m ih =>
    intro n i d h1 h2 h3
    obtain ⟨n, rfl⟩ : ∃ q, n = q + 1 := ⟨n - 1, by omega⟩
    have hi : i < l.length := by omega
    rw [zCW hi]
    show zBP _ _ _ _ _ _ _ = _
    unfold zBP
    rw [hc, hl, zAl (dt (by omega)), zw (zAs hi), zw (zAs hpz), hz, zw (zLj (zAO (by omega)))]
    unfold feL
    generalize at_ l (i : Int) = f at *
    have hin : ((decide (f < z.start)) || (decide ((z.start + z.count) ≤ f))) = !inZ z f := by
      unfold inZ
      rw [Bool.eq_iff_iff]
      simp only [Bool.or_eq_true, decide_eq_true_eq, Bool.not_eq_true', Bool.and_eq_false_iff, decide_eq_false_iff_not]
      omega
    rw [hin]
    cases hq : inZ z f with
    | false => rfl
    | true =>
      have hf := zQ1 (zBb hcz) hq
      obtain ⟨g, rfl⟩ := Int.eq_ofNat_of_zero_le hf.1
      have hg : g < d.length := by omega
      have ed : at_ d (g : Int) = d.getD g false := by rw [zIs hg, List.getD_eq_getElem?_getD, List.getElem?_eq_getElem hg]; rfl
      rw [Bool.not_true, zAT rfl, if_pos rfl, zw (zAs hg), ed, zS1 hkz.1, zTT, zw (zAO (by omega)), Int.toNat_natCast]
      cases hr : (d.getD g false || zMj z (g : Int)) with
      | true => rfl
      | false =>
        rw [zAT rfl, if_neg Bool.false_ne_true]
        exact ih n (i + 1) _ (by omega) (by omega) (by rw [List.length_set]; exact h3)
theorem fl1 {se : Int → List Bool → Option Int} {c : zK} {j : Nat} (ha : Al a) (hv : ∀ z, z ∈ a.zones → zFU z = 0) (hj : j < a.caches.length) (hc : at_ a.caches (j : Int) = c) (hlen : c.lists.length = a.zones.length) :
    ∀ (m n p : Nat) (d : List Bool), p + m = c.lists.length → m < n → d.length = 256 →
      zAY se a (j : Int) n (p : Int) d = if (feC d (a.zones.drop p) (c.lists.drop p)).1 = 0 then se ((j + 1 : Nat) : Int) (feC d (a.zones.drop p) (c.lists.drop p)).2 else some (feC d (a.zones.drop p) (c.lists.drop p)).1 := by
  have hcl := ha.c
  have hck := ha.ck c (hc ▸ zB3 hj)
  have hn := hck.n
  intro m
  induction m with
  | zero =>
    intro n p d h1 h2 h3
    obtain ⟨n, rfl⟩ : ∃ q, n = q + 1 := ⟨n - 1, by omega⟩
    rw [List.drop_eq_nil_of_le (show a.zones.length ≤ p by omega)]
    unfold feC
    show zBM _ _ _ _ _ _ = _
    unfold zBM zDW
    rw [zAT (df (by omega)), zw (zAO (by omega))]
    rfl
  | succ m ih =>
    intro n p d h1 h2 h3
    obtain ⟨n, rfl⟩ : ∃ q, n = q + 1 := ⟨n - 1, by omega⟩
    have hp : p < c.lists.length := by omega
    have hpz : p < a.zones.length := by omega
    have hll := hck.l _ (zB3 hp)
    have s2 := fl2 (se := zAY se a (j : Int) n) ha hv hc hpz rfl rfl hll (by omega) _ zAC 0 d (Nat.zero_add _) (by unfold zAC; omega) h3
    rw [List.drop_zero] at s2
    have ee : zAY se a (j : Int) (n + 1) (p : Int) d = zB2 (zAY se a (j : Int) n) a (j : Int) (p : Int) zAC ((0 : Nat) : Int) d := by
      show zBM _ _ _ _ _ _ = _
      unfold zBM
      rw [hc, zAl (dt (by omega)), zw (zAs hj), zw (zAs hp)]
      rfl
    rw [ee, s2, zCW hp, zCW hpz]
    unfold feC
    by_cases h0 : (feL (at_ a.zones (p : Int)) d (at_ c.lists (p : Int))).1 = 0
    · rw [if_pos h0, if_pos h0]
      exact ih n (p + 1) _ (by omega) (by omega) (by rw [zLS]; exact h3)
    · rw [if_neg h0, if_neg h0, if_neg h0]
theorem fl0 (ha : Al a) (hv : ∀ z, z ∈ a.zones → zFU z = 0) (hlen : ∀ c, c ∈ a.caches → c.lists.length = a.zones.length) :
    ∀ (m n j : Nat) (d : List Bool), j + m = a.caches.length → m < n → d.length = 256 → zAJ a n (j : Int) d = some (feA a.zones d (a.caches.drop j)) := by
  have hcl := ha.c
  intro m
  induction m with
  | zero =>
    intro n j d h1 h2 h3
    obtain ⟨n, rfl⟩ : ∃ q, n = q + 1 := ⟨n - 1, by omega⟩
    show zBL _ _ _ _ = _
    unfold zBL
    rw [zAT (df (by omega)), List.drop_eq_nil_of_le (by omega)]
    rfl
  | succ m ih =>
    intro n j d h1 h2 h3
    obtain ⟨n, rfl⟩ : ∃ q, n = q + 1 := ⟨n - 1, by omega⟩
    have hj : j < a.caches.length := by omega
    have hl := hlen _ (zB3 hj)
    have s2 := fl1 (se := zAJ a n) ha hv hj rfl hl _ zAC 0 d (Nat.zero_add _) (by have := (ha.ck _ (zB3 hj)).n; unfold zAC; omega) h3
    rw [List.drop_zero, List.drop_zero] at s2
    show zBL _ _ _ _ = _
    unfold zBL
    rw [zAl (dt (by omega)), show (0 : Int) = ((0 : Nat) : Int) from rfl, s2, zCW hj]
    unfold feA
    by_cases h0 : (feC d a.zones (at_ a.caches (j : Int)).lists).1 = 0
    · rw [if_pos h0, if_pos h0]
      exact ih n (j + 1) _ (by omega) (by omega) (by rw [zNY]; exact h3)
    · rw [if_neg h0, if_neg h0]
theorem zN3 : ∀ {cs : List zK} {h zn : Int}, cE h zn cs = 0 → ∀ c, c ∈ cs → (c.lists.length : Int) = zn
  | [], _, _, _, _, hc => absurd hc (by simp)
  | c :: cs, h, zn, he, x, hx => by
    unfold cE at he
    by_cases h0 : pcR c zn = 0
    · rw [if_pos h0] at he
      split at he
      · cases he
      · rcases List.mem_cons.1 hx with rfl | hx
        · exact (zPK h0).1
        · exact zN3 he x hx
    · rw [if_neg h0] at he; exact absurd he h0
theorem zL4 (ha : Al a) : zAk a = some (zN2 a) := by
  have h1 := ha.n
  have h2 := ha.z
  have h3 := ha.c
  unfold zAk zN2
  rw [zOe (by omega), zEy]
  cases zQt a.nodes a.batch a.high (a.zones.length : Int) with
  | false => rfl
  | true =>
    have hz := zl5 ha a.zones.length zAC 0 0 (by omega) (by unfold zAC; omega) (by omega)
    rw [List.drop_zero] at hz
    rw [Bool.not_true, zAT rfl, if_pos rfl]
    refine Eq.trans hz ?_
    by_cases h0 : zE 0 a.zones = 0
    · rw [if_pos h0, if_pos h0]
      obtain ⟨z1, z2⟩ := zQb h0
      unfold zCy
      by_cases hl : (a.caches.length : Int) = (a.nodes.length : Int)
      · rw [dt hl, if_pos hl, Bool.not_true, zAT rfl, show (0 : Int) = ((0 : Nat) : Int) from rfl, hl3 ha a.caches.length zAC 0 (by omega) (by unfold zAC; omega), List.drop_zero]
        show (if cE a.high (a.zones.length : Int) a.caches = 0 then _ else _) = some (if cE a.high (a.zones.length : Int) a.caches = 0 then _ else _)
        by_cases hc : cE a.high (a.zones.length : Int) a.caches = 0
        · rw [if_pos hc, if_pos hc]
          unfold zC4
          rw [show (0 : Int) = ((0 : Nat) : Int) from rfl, el0 ha (fun z hz => (z1 z hz).1) z2 (fun c hm => by have := zN3 hc c hm; omega) a.caches.length zAC 0 [] zGM (by omega) (by unfold zAC; omega) zJp (fun f hf => by
            unfold zGM zJ6
            rw [List.getD_eq_getElem?_getD, List.getElem?_replicate, if_pos hf]
            rfl), List.drop_zero]
        · rw [if_neg hc, if_neg hc]
      · rw [df hl, if_neg hl]
        rfl
    · rw [if_neg h0, if_neg h0]
theorem zK4 (ha : Al a) : zDo a = some (zN2 a) := by
  have h1 := ha.n
  have h2 := ha.z
  have h3 := ha.c
  unfold zDo zN2
  rw [zQG (by omega), zEy]
  cases zQt a.nodes a.batch a.high (a.zones.length : Int) with
  | false => rfl
  | true =>
    have hz := zr0 ha a.zones.length zAC 0 0 (by omega) (by unfold zAC; omega) (by omega)
    rw [List.drop_zero] at hz
    rw [Bool.not_true, zAT rfl, if_pos rfl]
    refine Eq.trans hz ?_
    by_cases h0 : zE 0 a.zones = 0
    · rw [if_pos h0, if_pos h0]
      obtain ⟨z1, z2⟩ := zQb h0
      unfold zFE zEt
      by_cases hl : (a.caches.length : Int) = (a.nodes.length : Int)
      · rw [dt hl, if_pos hl, Bool.not_true, zAT rfl, show (0 : Int) = ((0 : Nat) : Int) from rfl, rl3 ha a.caches.length zAC 0 (by omega) (by unfold zAC; omega), List.drop_zero]
        show (if cE a.high (a.zones.length : Int) a.caches = 0 then (_ : Option Int) else _).bind _ = some (if cE a.high (a.zones.length : Int) a.caches = 0 then _ else _)
        by_cases hc : cE a.high (a.zones.length : Int) a.caches = 0
        · rw [if_pos hc, if_pos hc]
          unfold zCU zEp
          rw [zw (by rfl), show List.replicate (256 : Int).toNat false = zGM from rfl, show (0 : Int) = ((0 : Nat) : Int) from rfl, fl0 ha (fun z hz => (z1 z hz).1) (fun c hm => by have := zN3 hc c hm; omega) a.caches.length zAC 0 zGM (by omega) (by unfold zAC; omega) zJp, List.drop_zero]
          rfl
        · rw [if_neg hc, if_neg hc]
          rfl
      · rw [df hl, if_neg hl]
        rfl
    · rw [if_neg h0, if_neg h0]
end
end Go.Proofs.YtplkliakhdkpcaaGreat
