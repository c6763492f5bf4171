/-
  The law AllocatorChecks on the printed functions. No program in sight.
-/
import Derived.Test.YtplkliakhdkpcaaGreatPk
set_option linter.unusedVariables false
set_option linter.unusedSimpArgs false
namespace Go.Proofs.YtplkliakhdkpcaaGreat
open Go Go.RowKit Go.Wk Go.Am
section
variable {a : zL}
structure Va (a : zL) : Prop where
  al : Al a
  z : zE 0 a.zones = 0
  len : ∀ c, c ∈ a.caches → c.lists.length = a.zones.length
  z1 : 1 ≤ a.zones.length
theorem zPG (ha : Al a) (h : zN2 a = 0) : Va a := by
  unfold zN2 at h
  split at h
  · rename_i hf
    have h16 : 1 ≤ a.zones.length := by
      unfold zQt zIk at hf
      simp at hf
      omega
    split at h
    · rename_i hz
      split at h
      · rename_i hl
        split at h
        · rename_i hc
          exact ⟨ha, hz, fun c hm => by have := zN3 hc c hm; omega, h16⟩
        · rename_i hc; exact absurd h hc
      · cases h
    · rename_i hz; exact absurd h hz
  · cases h
theorem Va.chk (h : Va a) {z : zm} (hz : z ∈ a.zones) : zFU z = 0 := ((zQb h.z).1 z hz).1
def zQI (cs : List zK) (i : Int) : Int := match cs with
  | [] => 0
  | c :: r => ((at_ c.lists i).length : Int) + zQI r i
def zP2 (a : zL) (i : Nat) : Int := zSB (at_ a.zones (i : Int)) + zQI a.caches (i : Int)
theorem zPj (h : Va a) {p : Nat} (hp : p < a.zones.length) : ∀ (m n j : Nat) (acc : Int), j + m = a.caches.length → m < n → 0 ≤ acc ∧ acc ≤ 80000000 + j * 1000 →
    (zCu a (p : Int) n acc (j : Int) = some (acc + zQI (a.caches.drop j) (p : Int)) ∧ zFC a (p : Int) n acc (j : Int) = some (acc + zQI (a.caches.drop j) (p : Int))) ∧ 0 ≤ acc + zQI (a.caches.drop j) (p : Int) ∧ acc + zQI (a.caches.drop j) (p : Int) ≤ 90000000 := by
  have hcl := h.al.c
  intro m
  induction m with
  | zero =>
    intro n j acc h1 h2 h3
    obtain ⟨n, rfl⟩ : ∃ q, n = q + 1 := ⟨n - 1, by omega⟩
    rw [List.drop_eq_nil_of_le (by omega)]
    have e : acc + zQI [] (p : Int) = acc := by unfold zQI; omega
    rw [e]
    refine ⟨⟨?_, ?_⟩, by omega, by omega⟩
    · show zBp _ _ _ _ _ = _
      unfold zBp
      rw [zAT (df (by omega))]
      rfl
    · show zDM _ _ _ _ _ = _
      unfold zDM
      rw [zAT (df (by omega))]
      rfl
  | succ m ih =>
    intro n j acc h1 h2 h3
    obtain ⟨n, rfl⟩ : ∃ q, n = q + 1 := ⟨n - 1, by omega⟩
    have hj : j < a.caches.length := by omega
    have hl := h.len _ (zB3 hj)
    have hck := h.al.ck _ (zB3 hj)
    have hb := hck.l _ (zB3 (show p < (at_ a.caches (j : Int)).lists.length by omega))
    have := ih n (j + 1) (acc + ((at_ (at_ a.caches (j : Int)).lists (p : Int)).length : Int)) (by omega) (by omega) (by omega)
    rw [zCW hj]
    unfold zQI
    rw [← Int.add_assoc]
    refine ⟨⟨?_, ?_⟩, this.2⟩
    · rw [← this.1.1]
      show zBp _ _ _ _ _ = _
      unfold zBp
      rw [zAl (dt (by omega)), zw (zAs hj), zw (zAs (by omega)), zw (zAO (by omega)), zw (zAO (by omega))]
      rfl
    · rw [← this.1.2]
      show zDM _ _ _ _ _ = _
      unfold zDM
      rw [zAl (dt (by omega)), zw (zAs hj), zw (zAs (by omega)), zw (zAO (by omega)), zw (zAO (by omega))]
      rfl
theorem zPs (h : Va a) {p : Nat} (hp : p < a.zones.length) : ∀ (m n k : Nat) (acc : Int), k + m = 5 → m < n → 0 ≤ acc ∧ acc ≤ k * 16000000 →
    zE4 a (p : Int) n acc (k : Int) = zGg a (p : Int) (acc + zNw k ((at_ a.zones (p : Int)).free.drop k)) := by
  have hzk := (h.al.zk _ (zB3 hp)).1
  intro m
  induction m with
  | zero =>
    intro n k acc h1 h2 h3
    obtain ⟨n, rfl⟩ : ∃ q, n = q + 1 := ⟨n - 1, by omega⟩
    rw [List.drop_eq_nil_of_le (by rw [hzk.len]; omega)]
    show zC9 _ _ _ _ _ = _
    unfold zC9
    rw [zAT (df (by omega)), show acc + zNw k [] = acc by unfold zNw; omega]
  | succ m ih =>
    intro n k acc h1 h2 h3
    obtain ⟨n, rfl⟩ : ∃ q, n = q + 1 := ⟨n - 1, by omega⟩
    have hb := zQ4 (k := k) (by omega) (hzk.bd k)
    obtain ⟨a1, a2⟩ := List.getElem?_eq_some_iff.1 (hzk.get (k := k) (by omega))
    have hi := ih n (k + 1) (acc + ((lst (at_ a.zones (p : Int)) k).length : Int) * 2 ^ k) (by omega) (by omega) (by omega)
    rw [List.drop_eq_getElem_cons a1, a2]
    unfold zNw
    rw [← Int.add_assoc, ← hi]
    show zC9 _ _ _ _ _ = _
    unfold zC9
    have e : (at_ a.zones (p : Int)).free.getD (k : Int).toNat [] = lst (at_ a.zones (p : Int)) k := rfl
    rw [e, Int.toNat_natCast, zAl (dt (by omega)), zw (zAs hp), zw (zAs (by omega)), zw (dt (zKV (by omega) (by omega))), zw (zO3 (by omega)), zw (zAO (by omega)), zw (zAO (by omega)), zw (zAO (by omega))]
    rfl
theorem zQ2 (h : Va a) {p : Nat} (hp : p < a.zones.length) : zCl a (p : Int) = some (zP2 a p) ∧ zGW a (p : Int) = some (zP2 a p) ∧ 0 ≤ zP2 a p ∧ zP2 a p ≤ 90000000 := by
  have hzk := h.al.zk _ (zB3 hp)
  have hcl := h.al.c
  obtain ⟨b1, b2, b3⟩ := zSX hzk.1 hzk.2 (h.chk (zB3 hp))
  have hc := zPj h hp a.caches.length zAC 0 (zSB (at_ a.zones (p : Int))) (by omega) (by unfold zAC; omega) (by omega)
  rw [List.drop_zero] at hc
  refine ⟨?_, ?_, hc.2⟩
  · unfold zCl
    rw [zw (zAs hp), b1, zEy]
    exact hc.1.1
  · unfold zGW
    have hr := zPs h hp 5 zAC 0 0 (by omega) (by unfold zAC; omega) (by omega)
    rw [List.drop_zero, Int.zero_add] at hr
    refine Eq.trans hr ?_
    exact hc.1.2
theorem zSb (h : Va a) {p : Nat} (hp : p < a.zones.length) : 0 ≤ (at_ a.zones (p : Int)).min ∧ (at_ a.zones (p : Int)).min ≤ 256 := by
  have := zCH (zBb (h.chk (zB3 hp)))
  omega
theorem zPZ (h : Va a) : ∀ (m n p : Nat) (x y : Int), p + m = a.zones.length → m < n → (-(p * 100000000 : Int) ≤ x ∧ x ≤ p * 100000000) → (-(p * 100000000 : Int) ≤ y ∧ y ≤ p * 100000000) →
    ∃ r, zAo a n x y (p : Int) = some r ∧ zBK a n x y (p : Int) = some r := by
  have hzl := h.al.z
  intro m
  induction m with
  | zero =>
    intro n p x y h1 h2 h3 h4
    obtain ⟨n, rfl⟩ : ∃ q, n = q + 1 := ⟨n - 1, by omega⟩
    refine ⟨(x, y), ?_, ?_⟩
    · show zBF _ _ _ _ _ = _
      unfold zBF
      rw [zAT (df (by omega))]
      rfl
    · show zB6 _ _ _ _ _ = _
      unfold zB6
      rw [zAT (df (by omega))]
      rfl
  | succ m ih =>
    intro n p x y h1 h2 h3 h4
    obtain ⟨n, rfl⟩ : ∃ q, n = q + 1 := ⟨n - 1, by omega⟩
    have hp : p < a.zones.length := by omega
    obtain ⟨c1, c2, c3, c4⟩ := zQ2 h hp
    have hm := zSb h hp
    have e1 : zAo a (n + 1) x y (p : Int) = cnd (decide ((at_ a.zones (p : Int)).kind = 0)) (zAo a n (x + (zP2 a p - (at_ a.zones (p : Int)).min)) (y + (zP2 a p - (at_ a.zones (p : Int)).min)) ((p + 1 : Nat) : Int)) (zAo a n x (y + (zP2 a p - (at_ a.zones (p : Int)).min)) ((p + 1 : Nat) : Int)) := by
      show zBF _ _ _ _ _ = _
      unfold zBF zD7 zCJ
      rw [zAl (dt (by omega)), zw (zAs hp), c1, zEy, zw (zAs hp), zw (zAO (by omega)), zEy, zw (zAO (by omega)), zw (zAO (by omega)), zw (zAO (by omega)), zw (zAO (by omega))]
      rfl
    have e2 : zBK a (n + 1) x y (p : Int) = cnd (decide ((at_ a.zones (p : Int)).kind = 0)) (zBK a n (x + (zP2 a p - (at_ a.zones (p : Int)).min)) (y + (zP2 a p - (at_ a.zones (p : Int)).min)) ((p + 1 : Nat) : Int)) (zBK a n x (y + (zP2 a p - (at_ a.zones (p : Int)).min)) ((p + 1 : Nat) : Int)) := by
      show zB6 _ _ _ _ _ = _
      unfold zB6 zDb
      rw [zAl (dt (by omega)), c2, zEy, zw (zAs hp), zw (zAO (by omega)), zw (zAO (by omega)), zw (zAO (by omega)), zw (zAO (by omega)), zw (zAO (by omega))]
      rfl
    rw [e1, e2]
    cases decide ((at_ a.zones (p : Int)).kind = 0) with
    | true => exact ih n (p + 1) _ _ (by omega) (by omega) (by omega) (by omega)
    | false => exact ih n (p + 1) _ _ (by omega) (by omega) (by omega) (by omega)
theorem zQW (ha : Al a) : ∃ r, zCM a = some r ∧ zE7 a = some r := by
  unfold zCM zE7
  rw [zL4 ha, zK4 ha, zEy, zEy]
  by_cases h : zN2 a = 0
  · rw [dt h, Bool.not_true, zAT rfl, zAT rfl]
    exact zPZ (zPG ha h) a.zones.length zAC 0 0 0 (by omega) (by have := ha.z; unfold zAC; omega) (by omega) (by omega)
  · rw [df h]
    exact ⟨_, rfl, rfl⟩
def zSH : List zm → Int
  | [] => 0
  | z :: r => z.count + zSH r
theorem zPT : ∀ (zs : List zm) (s : Int), zE s zs = 0 → ∀ n, zs.length = n + 1 → (at_ zs (n : Int)).start + (at_ zs (n : Int)).count = s + zSH zs
  | [], _, _, n, hn => by simp at hn
  | z :: r, s, h, n, hn => by
    unfold zE at h
    by_cases hc : zFU z = 0
    · rw [if_pos hc] at h
      by_cases hs : z.start = s
      · rw [if_pos hs] at h
        have hb := zCH (zBb hc)
        cases n with
        | zero =>
          have hr : r = [] := List.length_eq_zero_iff.1 (by simpa using hn)
          subst hr
          show z.start + z.count = s + (z.count + 0)
          omega
        | succ n =>
          have hr : r.length = n + 1 := by simpa using hn
          have := zPT r (s + z.count) h n hr
          have e : at_ (z :: r) ((n + 1 : Nat) : Int) = at_ r (n : Int) := by
            rw [zIs (by simp; omega), zIs (by omega)]
            rfl
          rw [e, this]
          show s + z.count + zSH r = s + (z.count + zSH r)
          omega
      · rw [if_neg hs] at h; cases h
    · rw [if_neg hc] at h; exact absurd h hc
theorem zP6 (h : Va a) : ∀ (m n p : Nat) (x : Int), p + m = a.zones.length → m < n → 0 ≤ x ∧ x ≤ p * 256 → zEj a n x (p : Int) = some (x + zSH (a.zones.drop p)) := by
  have hzl := h.al.z
  intro m
  induction m with
  | zero =>
    intro n p x h1 h2 h3
    obtain ⟨n, rfl⟩ : ∃ q, n = q + 1 := ⟨n - 1, by omega⟩
    show zCk _ _ _ _ = _
    unfold zCk
    rw [zAT (df (by omega)), List.drop_eq_nil_of_le (by omega)]
    show some x = some (x + 0)
    rw [Int.add_zero]
  | succ m ih =>
    intro n p x h1 h2 h3
    obtain ⟨n, rfl⟩ : ∃ q, n = q + 1 := ⟨n - 1, by omega⟩
    have hp : p < a.zones.length := by omega
    have hb := zCH (zBb (h.chk (zB3 hp)))
    have := ih n (p + 1) (x + (at_ a.zones (p : Int)).count) (by omega) (by omega) (by omega)
    show zCk _ _ _ _ = _
    unfold zCk
    rw [zAl (dt (by omega)), zw (zAs hp), zw (zAO (by omega)), zw (zAO (by omega)), zCW hp]
    show _ = some (x + ((at_ a.zones (p : Int)).count + zSH (a.zones.drop (p + 1))))
    rw [← Int.add_assoc]
    exact this
theorem zSR (ha : Al a) : ∃ r, zCt a = some r ∧ zGn a = some r := by
  unfold zCt zGn
  rw [zL4 ha, zK4 ha, zEy, zEy]
  by_cases h : zN2 a = 0
  · have hv := zPG ha h
    have hz := ha.z
    have h1 := hv.z1
    rw [dt h, Bool.not_true, zAT rfl, zAT rfl]
    have hs := zP6 hv a.zones.length zAC 0 0 (by omega) (by unfold zAC; omega) (by omega)
    rw [List.drop_zero, Int.zero_add] at hs
    have hl := zPT a.zones 0 hv.z (a.zones.length - 1) (by omega)
    have hp : a.zones.length - 1 < a.zones.length := by omega
    have hb := zCH (zBb (hv.chk (zB3 hp)))
    have e : (a.zones.length : Int) - 1 = ((a.zones.length - 1 : Nat) : Int) := by omega
    rw [e, zw (zAO (by omega)), zw (zAs hp), zw (zAO (by omega))]
    exact ⟨_, rfl, by rw [hl, Int.zero_add]; exact hs⟩
  · rw [df h]
    exact ⟨_, rfl, rfl⟩
theorem zNA {f : Int} (ha : Al a) : ∃ r, zD8 a f = some r ∧ zHL a f = some r ∧ (zN2 a = 0 → r = zIx f a.zones 0) ∧ (zN2 a ≠ 0 → r = -1) := by
  unfold zD8 zHL
  rw [zL4 ha, zK4 ha, zEy, zEy]
  by_cases h : zN2 a = 0
  · have hv := zPG ha h
    rw [dt h, Bool.not_true, zAT rfl, zAT rfl, zRq ha (fun z hz => hv.chk hz), zTI ha (fun z hz => hv.chk hz)]
    exact ⟨_, rfl, rfl, fun _ => rfl, fun h2 => absurd h h2⟩
  · rw [df h]
    exact ⟨_, rfl, rfl, fun h2 => absurd h2 h, fun _ => rfl⟩
theorem zSA {f : Int} {l : List Int} (hl : l.length ≤ 1000) : ∀ (m n i : Nat), i + m = l.length → m < n → ∃ r, zAx l f n (i : Int) = some r ∧ (0 ≤ r ↔ f ∈ l.drop i) := by
  intro m
  induction m with
  | zero =>
    intro n i h1 h2
    obtain ⟨n, rfl⟩ : ∃ q, n = q + 1 := ⟨n - 1, by omega⟩
    refine ⟨-1, ?_, ?_⟩
    · show zA0 _ _ _ _ = _
      unfold zA0
      rw [zAT (df (by omega))]
      rfl
    · rw [List.drop_eq_nil_of_le (by omega)]
      simp
  | succ m ih =>
    intro n i h1 h2
    obtain ⟨n, rfl⟩ : ∃ q, n = q + 1 := ⟨n - 1, by omega⟩
    have hi : i < l.length := by omega
    have ee : zAx l f (n + 1) (i : Int) = cnd (decide (f = at_ l (i : Int))) (some (i : Int)) (zAx l f n ((i + 1 : Nat) : Int)) := by
      show zA0 _ _ _ _ = _
      unfold zA0
      rw [zAl (dt (by omega)), zw (zAs hi), zw (zAO (by omega))]
      rfl
    rw [ee, zCW hi]
    by_cases h : f = at_ l (i : Int)
    · rw [zAl (dt h)]
      exact ⟨_, rfl, ⟨fun _ => by rw [h]; simp, fun _ => Int.natCast_nonneg i⟩⟩
    · rw [zAT (df h)]
      obtain ⟨r, r1, r2⟩ := ih n (i + 1) (by omega) (by omega)
      exact ⟨r, r1, by rw [r2, List.mem_cons]; exact ⟨.inr, fun q => q.resolve_left h⟩⟩
theorem contains {f : Int} {l : List Int} (hl : l.length ≤ 1000) : zBa l f = some (decide (f ∈ l)) := by
  unfold zBa zCv
  obtain ⟨r, r1, r2⟩ := zSA (f := f) hl l.length zAC 0 (by omega) (by unfold zAC; omega)
  rw [List.drop_zero] at r2
  rw [show (0 : Int) = ((0 : Nat) : Int) from rfl, r1, zEy]
  congr 1
  rw [decide_eq_decide]
  exact r2
theorem zRm (h : Va a) {f : Int} {p : Nat} (hp : p < a.zones.length) : ∀ (m n j : Nat), j + m = a.caches.length → m < n → ∃ r, zAB a.caches (fun y => zBB y (p : Int) f) n (j : Int) = some r ∧ (0 ≤ r ↔ ∃ c, c ∈ a.caches.drop j ∧ f ∈ at_ c.lists (p : Int)) := by
  have hcl := h.al.c
  intro m
  induction m with
  | zero =>
    intro n j h1 h2
    obtain ⟨n, rfl⟩ : ∃ q, n = q + 1 := ⟨n - 1, by omega⟩
    refine ⟨-1, ?_, ?_⟩
    · show zAA _ _ _ _ = _
      unfold zAA
      rw [zAT (df (by omega))]
      rfl
    · rw [List.drop_eq_nil_of_le (by omega)]
      simp
  | succ m ih =>
    intro n j h1 h2
    obtain ⟨n, rfl⟩ : ∃ q, n = q + 1 := ⟨n - 1, by omega⟩
    have hj : j < a.caches.length := by omega
    have hl := h.len _ (zB3 hj)
    have hb := (h.al.ck _ (zB3 hj)).l _ (zB3 (show p < (at_ a.caches (j : Int)).lists.length by omega))
    have h1c : zBB (at_ a.caches (j : Int)) (p : Int) f = some (decide (f ∈ at_ (at_ a.caches (j : Int)).lists (p : Int))) := by
      unfold zBB
      rw [zw (zAs (by omega)), contains hb]
      rfl
    have ee : zAB a.caches (fun y => zBB y (p : Int) f) (n + 1) (j : Int) = cnd (decide (f ∈ at_ (at_ a.caches (j : Int)).lists (p : Int))) (some (j : Int)) (zAB a.caches (fun y => zBB y (p : Int) f) n ((j + 1 : Nat) : Int)) := by
      show zAA _ _ _ _ = _
      unfold zAA
      rw [zAl (dt (by omega)), zw (zAs hj)]
      show ((zBB (at_ a.caches (j : Int)) (p : Int) f).bind _) = _
      rw [h1c, zEy, zw (zAO (by omega))]
      rfl
    rw [ee, zCW hj]
    by_cases hm : f ∈ at_ (at_ a.caches (j : Int)).lists (p : Int)
    · rw [zAl (dt hm)]
      exact ⟨_, rfl, ⟨fun _ => ⟨_, by simp, hm⟩, fun _ => Int.natCast_nonneg j⟩⟩
    · rw [zAT (df hm)]
      obtain ⟨r, r1, r2⟩ := ih n (j + 1) (by omega) (by omega)
      refine ⟨r, r1, r2.trans ⟨fun ⟨c, c1, c2⟩ => ⟨c, by simp [c1], c2⟩, fun ⟨c, c1, c2⟩ => ?_⟩⟩
      rcases List.mem_cons.1 c1 with rfl | c1
      · exact absurd c2 hm
      · exact ⟨c, c1, c2⟩
theorem zTG {se : Int → Option Int} {f : Int} {p j : Nat} {l : List Int} (h : Va a) (hp : p < a.zones.length) (hj : j < a.caches.length) (hl : at_ (at_ a.caches (j : Int)).lists (p : Int) = l) : ∀ (m n i : Nat), i + m = l.length → m < n →
    (f ∈ l.drop i → zBr se a (p : Int) f (j : Int) n (i : Int) = some (j : Int)) ∧ (f ∉ l.drop i → zBr se a (p : Int) f (j : Int) n (i : Int) = se ((j + 1 : Nat) : Int)) := by
  have hcl := h.al.c
  have hlen := h.len _ (zB3 hj)
  have hb := (h.al.ck _ (zB3 hj)).l _ (zB3 (show p < (at_ a.caches (j : Int)).lists.length by omega))
  rw [hl] at hb
  intro m
  induction m with
  | zero =>
    intro n i h1 h2
    obtain ⟨n, rfl⟩ : ∃ q, n = q + 1 := ⟨n - 1, by omega⟩
    rw [List.drop_eq_nil_of_le (by omega)]
    refine ⟨fun hm => absurd hm (by simp), fun _ => ?_⟩
    show zCe _ _ _ _ _ _ _ = _
    unfold zCe zFv
    rw [hl, zw (zAs hj), zw (zAs (by omega)), zAT (df (by omega)), zw (zAO (by omega))]
    rfl
  | succ m ih =>
    intro n i h1 h2
    obtain ⟨n, rfl⟩ : ∃ q, n = q + 1 := ⟨n - 1, by omega⟩
    have hi : i < l.length := by omega
    have ee : zBr se a (p : Int) f (j : Int) (n + 1) (i : Int) = cnd (decide (at_ l (i : Int) = f)) (some (j : Int)) (zBr se a (p : Int) f (j : Int) n ((i + 1 : Nat) : Int)) := by
      show zCe _ _ _ _ _ _ _ = _
      unfold zCe
      rw [hl, zw (zAs hj), zw (zAs (by omega)), zAl (dt (by omega)), zw (zAs hi), zw (zAO (by omega))]
      rfl
    rw [ee, zCW hi]
    by_cases hq : at_ l (i : Int) = f
    · rw [zAl (dt hq)]
      exact ⟨fun _ => rfl, fun hn => absurd (by rw [hq]; simp) hn⟩
    · rw [zAT (df hq)]
      obtain ⟨r1, r2⟩ := ih n (i + 1) (by omega) (by omega)
      refine ⟨fun hm => r1 ?_, fun hn => r2 (fun hm => hn (by simp [hm]))⟩
      rcases List.mem_cons.1 hm with e | e
      · exact absurd e.symm hq
      · exact e
theorem zR4 (h : Va a) {f : Int} {p : Nat} (hp : p < a.zones.length) : ∀ (m n j : Nat), j + m = a.caches.length → m < n → ∃ r, zA7 a (p : Int) f n (j : Int) = some r ∧ (0 ≤ r ↔ ∃ c, c ∈ a.caches.drop j ∧ f ∈ at_ c.lists (p : Int)) := by
  have hcl := h.al.c
  intro m
  induction m with
  | zero =>
    intro n j h1 h2
    obtain ⟨n, rfl⟩ : ∃ q, n = q + 1 := ⟨n - 1, by omega⟩
    refine ⟨-1, ?_, ?_⟩
    · show zCg _ _ _ _ _ = _
      unfold zCg
      rw [zAT (df (by omega))]
      rfl
    · rw [List.drop_eq_nil_of_le (by omega)]
      simp
  | succ m ih =>
    intro n j h1 h2
    obtain ⟨n, rfl⟩ : ∃ q, n = q + 1 := ⟨n - 1, by omega⟩
    have hj : j < a.caches.length := by omega
    have hlen := h.len _ (zB3 hj)
    have hb := (h.al.ck _ (zB3 hj)).l _ (zB3 (show p < (at_ a.caches (j : Int)).lists.length by omega))
    obtain ⟨i1, i2⟩ := zTG (se := zA7 a (p : Int) f n) (f := f) h hp hj rfl _ zAC 0 (Nat.zero_add _) (by unfold zAC; omega)
    rw [List.drop_zero] at i1 i2
    have ee : zA7 a (p : Int) f (n + 1) (j : Int) = zBr (zA7 a (p : Int) f n) a (p : Int) f (j : Int) zAC ((0 : Nat) : Int) := by
      show zCg _ _ _ _ _ = _
      unfold zCg
      rw [zAl (dt (by omega))]
      rfl
    rw [ee, zCW hj]
    by_cases hm : f ∈ at_ (at_ a.caches (j : Int)).lists (p : Int)
    · rw [i1 hm]
      exact ⟨_, rfl, ⟨fun _ => ⟨_, by simp, hm⟩, fun _ => Int.natCast_nonneg j⟩⟩
    · rw [i2 hm]
      obtain ⟨r, r1, r2⟩ := ih n (j + 1) (by omega) (by omega)
      refine ⟨r, r1, r2.trans ⟨fun ⟨c, c1, c2⟩ => ⟨c, by simp [c1], c2⟩, fun ⟨c, c1, c2⟩ => ?_⟩⟩
      rcases List.mem_cons.1 c1 with rfl | c1
      · exact absurd c2 hm
      · exact ⟨c, c1, c2⟩
theorem zTA (h : Va a) {f : Int} {p : Nat} (hp : p < a.zones.length) : ∃ b, zD5 a (p : Int) f = some b ∧ zIL a (p : Int) f = some b := by
  have hzk := h.al.zk _ (zB3 hp)
  have hcl := h.al.c
  obtain ⟨r1, q1, s1⟩ := zRm h (f := f) hp a.caches.length zAC 0 (by omega) (by unfold zAC; omega)
  obtain ⟨r2, q2, s2⟩ := zR4 h (f := f) hp a.caches.length zAC 0 (by omega) (by unfold zAC; omega)
  have ed : decide (0 ≤ r1) = decide (0 ≤ r2) := decide_eq_decide.2 (s1.trans s2.symm)
  have e1 : zD0 a (p : Int) f = some r1 := by
    unfold zD0 zAg
    rw [show (0 : Int) = ((0 : Nat) : Int) from rfl, q1]
    rfl
  have e2 : zHp a (p : Int) f = some r2 := q2
  unfold zD5 zIL
  rw [zw (zAs hp), zw (zAs hp), zSW hzk.1 hzk.2, zS1 hzk.1, zEy, zEy, e1, e2]
  cases zMj (at_ a.zones (p : Int)) f with
  | true => exact ⟨_, rfl, rfl⟩
  | false =>
    refine ⟨decide (0 ≤ r1), ?_, ?_⟩
    · show some (false || decide (0 ≤ r1)) = _
      rw [Bool.false_or]
    · show some (false || decide (0 ≤ r2)) = _
      rw [Bool.false_or, ed]
theorem zSd (ha : Al a) {f : Int} : ∃ b, zCQ a f = some b ∧ zGq a f = some b := by
  obtain ⟨r, _, z2, z3, z4⟩ := zNA (f := f) ha
  unfold zCQ zGq
  rw [zL4 ha, zEy, z2, zEy]
  by_cases h : zN2 a = 0
  · have hv := zPG ha h
    rw [dt h, Bool.not_true, zAT rfl, zRq ha (fun z hz => hv.chk hz), zEy, z3 h]
    rcases zPk f a.zones 0 with hq | hq
    · rw [hq]
      exact ⟨_, rfl, rfl⟩
    · obtain ⟨p, hp⟩ := Int.eq_ofNat_of_zero_le (show 0 ≤ zIx f a.zones 0 by omega)
      rw [hp] at hq ⊢
      obtain ⟨b, b1, b2⟩ := zTA hv (f := f) (p := p) (by omega)
      rw [dt (p := 0 ≤ (p : Int)) (by omega), zAl rfl, zAl rfl, b1, b2]
      exact ⟨_, rfl, rfl⟩
  · rw [df h, z4 h]
    exact ⟨_, rfl, rfl⟩
theorem zOZ (ha : Al a) {i : Int} : ∃ r, zDc a i = some r ∧ zHW a i = some r := by
  unfold zDc zHW
  rw [zL4 ha, zK4 ha, zEy, zEy]
  by_cases h : zN2 a = 0
  · have hv := zPG ha h
    by_cases hi : 0 ≤ i ∧ i < (a.zones.length : Int)
    · obtain ⟨p, rfl⟩ := Int.eq_ofNat_of_zero_le hi.1
      obtain ⟨c1, c2, _⟩ := zQ2 hv (p := p) (by omega)
      rw [dt h, df (p := (p : Int) < 0) (by omega), df (p := (a.zones.length : Int) ≤ (p : Int)) (by omega), c1, c2]
      exact ⟨_, rfl, rfl⟩
    · have : ((!decide (zN2 a = 0) || decide (i < 0)) || decide ((a.zones.length : Int) ≤ i)) = true := by
        rcases Classical.not_and_iff_not_or_not.1 hi with hi | hi
        · rw [dt (p := i < 0) (by omega), Bool.or_true]; rfl
        · rw [dt (p := (a.zones.length : Int) ≤ i) (by omega), Bool.or_true]
      rw [zAl this, zAl this]
      exact ⟨_, rfl, rfl⟩
  · rw [df h]
    exact ⟨_, rfl, rfl⟩
def Gz (z : zm) : Prop := z.free.length = 5 ∧ inI z.start = true
theorem zTJ {z : zm} : ∀ (m n k : Nat), k + m = 5 → m < n → ∃ b, zEY z n (k : Int) = some b ∧ (b = true → ∀ j, k ≤ j → j < 5 → (lst z j).length ≤ 300) := by
  intro m
  induction m with
  | zero =>
    intro n k h1 h2
    obtain ⟨n, rfl⟩ : ∃ q, n = q + 1 := ⟨n - 1, by omega⟩
    refine ⟨true, ?_, fun _ j h3 h4 => by omega⟩
    show zEc _ _ _ = _
    unfold zEc
    rw [zAT (df (by omega))]
    rfl
  | succ m ih =>
    intro n k h1 h2
    obtain ⟨n, rfl⟩ : ∃ q, n = q + 1 := ⟨n - 1, by omega⟩
    have ee : zEY z (n + 1) (k : Int) = cnd (decide (300 < ((lst z k).length : Int))) (some false) (zEY z n ((k + 1 : Nat) : Int)) := by
      show zEc _ _ _ = _
      unfold zEc
      rw [zAl (dt (by omega)), zw (zAs (by omega)), zw (zAO (by omega))]
      rfl
    rw [ee]
    by_cases h : 300 < ((lst z k).length : Int)
    · rw [zAl (dt h)]
      exact ⟨false, rfl, fun e => by cases e⟩
    · rw [zAT (df h)]
      obtain ⟨b, b1, b2⟩ := ih n (k + 1) (by omega) (by omega)
      refine ⟨b, b1, fun e j h3 h4 => ?_⟩
      by_cases hj : j = k
      · rw [hj]; omega
      · exact b2 e j (by omega) h4
theorem zTY {z : zm} (hg : Gz z) : ∃ b, zKF z = some b ∧ (b = true → Zk z) := by
  obtain ⟨b, b1, b2⟩ := zTJ (z := z) 5 zAC 0 (by omega) (by unfold zAC; omega)
  refine ⟨b, b1, fun e => ⟨hg.1, fun k => ?_⟩⟩
  rcases Nat.lt_or_ge k 5 with hk | hk
  · have := b2 e k (Nat.zero_le _) hk
    omega
  · rw [zOM hg.1 hk]; simp
theorem zTD {c : zK} (hn : c.lists.length ≤ 20) : ∀ (m n i : Nat), i + m = c.lists.length → m < n → ∃ b, zEf c n (i : Int) = some b ∧ (b = true → ∀ x, x ∈ c.lists.drop i → x.length ≤ 300) := by
  intro m
  induction m with
  | zero =>
    intro n i h1 h2
    obtain ⟨n, rfl⟩ : ∃ q, n = q + 1 := ⟨n - 1, by omega⟩
    rw [List.drop_eq_nil_of_le (by omega)]
    refine ⟨true, ?_, fun _ x hx => absurd hx (by simp)⟩
    show zEW _ _ _ = _
    unfold zEW
    rw [zAT (df (by omega))]
    rfl
  | succ m ih =>
    intro n i h1 h2
    obtain ⟨n, rfl⟩ : ∃ q, n = q + 1 := ⟨n - 1, by omega⟩
    have hi : i < c.lists.length := by omega
    have ee : zEf c (n + 1) (i : Int) = cnd (decide (300 < ((at_ c.lists (i : Int)).length : Int))) (some false) (zEf c n ((i + 1 : Nat) : Int)) := by
      show zEW _ _ _ = _
      unfold zEW
      rw [zAl (dt (by omega)), zw (zAs hi), zw (zAO (by omega))]
      rfl
    rw [ee, zCW hi]
    by_cases h : 300 < ((at_ c.lists (i : Int)).length : Int)
    · rw [zAl (dt h)]
      exact ⟨false, rfl, fun e => by cases e⟩
    · rw [zAT (df h)]
      obtain ⟨b, b1, b2⟩ := ih n (i + 1) (by omega) (by omega)
      refine ⟨b, b1, fun e x hx => ?_⟩
      rcases List.mem_cons.1 hx with rfl | hx
      · omega
      · exact b2 e x hx
theorem zTX {c : zK} : ∃ b, zI9 c = some b ∧ (b = true → Ck c) := by
  unfold zI9
  by_cases h : 20 < (c.lists.length : Int)
  · rw [zAl (dt h)]
    exact ⟨false, rfl, fun e => by cases e⟩
  · rw [zAT (df h)]
    obtain ⟨b, b1, b2⟩ := zTD (c := c) (by omega) c.lists.length zAC 0 (by omega) (by unfold zAC; omega)
    rw [List.drop_zero] at b2
    exact ⟨b, b1, fun e => ⟨by omega, fun x hx => by have := b2 e x hx; omega⟩⟩
theorem zSP (hn : a.caches.length ≤ 20) : ∀ (m n i : Nat), i + m = a.caches.length → m < n → ∃ b, zEV a n (i : Int) = some b ∧ (b = true → ∀ x, x ∈ a.caches.drop i → Ck x) := by
  intro m
  induction m with
  | zero =>
    intro n i h1 h2
    obtain ⟨n, rfl⟩ : ∃ q, n = q + 1 := ⟨n - 1, by omega⟩
    rw [List.drop_eq_nil_of_le (by omega)]
    refine ⟨true, ?_, fun _ x hx => absurd hx (by simp)⟩
    show zEg _ _ _ = _
    unfold zEg
    rw [zAT (df (by omega))]
    rfl
  | succ m ih =>
    intro n i h1 h2
    obtain ⟨n, rfl⟩ : ∃ q, n = q + 1 := ⟨n - 1, by omega⟩
    have hi : i < a.caches.length := by omega
    obtain ⟨b0, c1, c2⟩ := zTX (c := at_ a.caches (i : Int))
    have ee : zEV a (n + 1) (i : Int) = cnd (!b0) (some false) (zEV a n ((i + 1 : Nat) : Int)) := by
      show zEg _ _ _ = _
      unfold zEg
      rw [zAl (dt (by omega)), zw (zAs hi), c1, zEy, zw (zAO (by omega))]
      rfl
    rw [ee, zCW hi]
    cases b0 with
    | false => exact ⟨false, rfl, fun e => by cases e⟩
    | true =>
      obtain ⟨b, b1, b2⟩ := ih n (i + 1) (by omega) (by omega)
      refine ⟨b, b1, fun e x hx => ?_⟩
      rcases List.mem_cons.1 hx with rfl | hx
      · exact c2 rfl
      · exact b2 e x hx
theorem zSq (hg : ∀ z, z ∈ a.zones → Gz z) (hz : a.zones.length ≤ 20) (hn : a.caches.length ≤ 20) : ∀ (m n i : Nat), i + m = a.zones.length → m < n → ∃ b, zEi a n (i : Int) = some b ∧ (b = true → (∀ x, x ∈ a.zones.drop i → Zk x) ∧ ∀ x, x ∈ a.caches → Ck x) := by
  intro m
  induction m with
  | zero =>
    intro n i h1 h2
    obtain ⟨n, rfl⟩ : ∃ q, n = q + 1 := ⟨n - 1, by omega⟩
    obtain ⟨b, b1, b2⟩ := zSP hn a.caches.length zAC 0 (by omega) (by unfold zAC; omega)
    rw [List.drop_zero] at b2
    rw [List.drop_eq_nil_of_le (by omega)]
    refine ⟨b, ?_, fun e => ⟨fun x hx => absurd hx (by simp), b2 e⟩⟩
    show zEa _ _ _ = _
    unfold zEa
    rw [zAT (df (by omega))]
    exact b1
  | succ m ih =>
    intro n i h1 h2
    obtain ⟨n, rfl⟩ : ∃ q, n = q + 1 := ⟨n - 1, by omega⟩
    have hi : i < a.zones.length := by omega
    obtain ⟨b0, c1, c2⟩ := zTY (hg _ (zB3 hi))
    have ee : zEi a (n + 1) (i : Int) = cnd (!b0) (some false) (zEi a n ((i + 1 : Nat) : Int)) := by
      show zEa _ _ _ = _
      unfold zEa
      rw [zAl (dt (by omega)), zw (zAs hi), c1, zEy, zw (zAO (by omega))]
      rfl
    rw [ee, zCW hi]
    cases b0 with
    | false => exact ⟨false, rfl, fun e => by cases e⟩
    | true =>
      obtain ⟨b, b1, b2⟩ := ih n (i + 1) (by omega) (by omega)
      refine ⟨b, b1, fun e => ⟨fun x hx => ?_, (b2 e).2⟩⟩
      rcases List.mem_cons.1 hx with rfl | hx
      · exact c2 rfl
      · exact (b2 e).1 x hx
theorem few (hg : ∀ z, z ∈ a.zones → Gz z) : ∃ b, zJD a = some b ∧ (b = true → Al a) := by
  unfold zJD
  by_cases h : (((decide (20 < (a.nodes.length : Int))) || (decide (20 < (a.zones.length : Int)))) || (decide (20 < (a.caches.length : Int)))) = true
  · rw [zAl h]
    exact ⟨false, rfl, fun e => by cases e⟩
  · rw [zAT (Bool.eq_false_iff.2 h)]
    simp only [Bool.or_eq_true, decide_eq_true_eq] at h
    obtain ⟨b, b1, b2⟩ := zSq hg (by omega) (by omega) a.zones.length zAC 0 (by omega) (by unfold zAC; omega)
    rw [List.drop_zero] at b2
    exact ⟨b, b1, fun e => ⟨by omega, by omega, by omega, fun z hz => ⟨(b2 e).1 z hz, (hg z hz).2⟩, (b2 e).2⟩⟩
theorem zQF (hg : ∀ z, z ∈ a.zones → Gz z) (f : Int) : zCz a f = some true := by
  obtain ⟨b, b1, b2⟩ := few hg
  unfold zCz
  rw [zRW, zEy, Bool.not_true, Bool.not_false, zAl rfl, b1, zEy]
  cases b with
  | false => rfl
  | true =>
    have ha := b2 rfl
    obtain ⟨r1, p1, q1⟩ := zQW ha
    obtain ⟨r2, p2, q2⟩ := zSR ha
    obtain ⟨r3, p3, q3, _⟩ := zNA (f := f) ha
    obtain ⟨r4, p4, q4⟩ := zSd (f := f) ha
    obtain ⟨r5, p5, q5⟩ := zOZ (i := f) ha
    refine (zAT (by rfl)).trans ?_
    rw [p1, zEy, q1, zEy, zL4 ha, zEy, zK4 ha, zEy, dt rfl, dt rfl, dt rfl]
    refine (congrArg (fun q => Option.bind q _) ((zAl (by rfl)).trans p2)).trans ?_
    rw [zEy]
    refine (congrArg (fun q => Option.bind q _) ((zAl (by rfl)).trans q2)).trans ?_
    rw [zEy, dt rfl]
    refine (zAT (by rfl)).trans ?_
    rw [p3, zEy, q3, zEy, dt rfl, zAl rfl, p4, zEy, zAl rfl, q4, zEy, beq_self_eq_true]
    refine (congrArg (fun q => Option.bind q _) ((zAl (by rfl)).trans p5)).trans ?_
    rw [zEy]
    refine (congrArg (fun q => Option.bind q _) ((zAl (by rfl)).trans q5)).trans ?_
    rw [zEy, dt rfl]
    rfl
end
end Go.Proofs.YtplkliakhdkpcaaGreat
