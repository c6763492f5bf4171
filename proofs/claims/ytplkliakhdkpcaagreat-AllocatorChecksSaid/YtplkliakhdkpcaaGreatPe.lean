/-
  What the program's Check of a zone is, in plain words, and its laws. No program in sight.
-/
import Derived.Test.YtplkliakhdkpcaaGreatPb
set_option linter.unusedVariables false
set_option linter.unusedSimpArgs false
namespace Go.Proofs.YtplkliakhdkpcaaGreat
open Go Go.RowKit Go.Am
def geP : Option Int → Int → Bool
  | some q, f => decide (f ≤ q)
  | none, _ => false
def zJO (z : zm) (k : Nat) : Option Int → List Int → Int
  | _, [] => 0
  | p, f :: r => if zA6 z f k = false then 3 else if geP p f = true then 10 else zJO z k (some f) r
def zEz (z : zm) : Nat → List (List Int) → Int
  | _, [] => 0
  | k, l :: r => if zJO z k none l = 0 then zEz z (k + 1) r else zJO z k none l
def zLQ (s : List Bool) (i : Nat) : Nat → Option (List Bool)
  | 0 => some s
  | n + 1 => if s.getD i false = true then none else zLQ (s.set i true) (i + 1) n
def zK0 (k : Nat) : List Bool → List Int → Option (List Bool)
  | s, [] => some s
  | s, f :: r => match zLQ s f.toNat (2 ^ k) with
    | none => none
    | some s' => zK0 k s' r
def zJc : Nat → List Bool → List (List Int) → Option (List Bool)
  | _, s, [] => some s
  | k, s, l :: r => match zK0 k s l with
    | none => none
    | some s' => zJc (k + 1) s' r
def zPz (z : zm) (k : Nat) (l0 : List Int) : List Int → Bool
  | [] => false
  | f :: r => if (decide (bud f k ∈ l0) && zA6 z (min f (bud f k)) (k + 1)) = true then true else zPz z k l0 r
def zOc (z : zm) : Nat → List (List Int) → Bool
  | _, [] => false
  | k, l :: r => if zPz z k l l = true then true else zOc z (k + 1) r
def zGM : List Bool := List.replicate 256 false
theorem zJp : zGM.length = 256 := List.length_replicate
def zFU (z : zm) : Int :=
  if zBn z = false then 2 else if zEz z 0 z.free = 0 then
    (if zJc 0 zGM z.free = none then 7 else if zOc z 0 (z.free.take 4) = true then 11 else 0)
  else zEz z 0 z.free
theorem zPr {z : zm} {k : Nat} : ∀ {l : List Int} {p : Option Int}, zJO z k p l = 0 → (∀ f, f ∈ l → zA6 z f k = true) ∧ Srt l ∧ (∀ q f, p = some q → f ∈ l → q < f) := by
  intro l
  induction l with
  | nil => intro p _; exact ⟨fun f hf => by simp at hf, Srt.nil, fun q f _ hf => by simp at hf⟩
  | cons a l ih =>
    intro p h
    unfold zJO at h
    split at h
    · cases h
    · rename_i h1
      split at h
      · cases h
      · rename_i h2
        obtain ⟨i1, i2, i3⟩ := ih h
        have ha : zA6 z a k = true := by simpa using h1
        refine ⟨fun f hf => ?_, List.pairwise_cons.2 ⟨fun f hf => i3 a f rfl hf, i2⟩, fun q f hq hf => ?_⟩
        · rcases List.mem_cons.1 hf with rfl | hf
          · exact ha
          · exact i1 f hf
        · subst hq
          have h2 : q < a := by simpa [geP] using h2
          rcases List.mem_cons.1 hf with rfl | hf
          · exact h2
          · have := i3 a f rfl hf; omega
theorem zQV {z : zm} : ∀ {ls : List (List Int)} {k : Nat}, zEz z k ls = 0 → ∀ (j : Nat) (l : List Int), ls[j]? = some l → (∀ f, f ∈ l → zA6 z f (k + j) = true) ∧ Srt l := by
  intro ls
  induction ls with
  | nil => intro k _ j l hl; simp at hl
  | cons a ls ih =>
    intro k h j l hl
    unfold zEz at h
    split at h
    · rename_i h0
      cases j with
      | zero =>
        simp at hl; subst hl
        exact ⟨(zPr h0).1, (zPr h0).2.1⟩
      | succ j =>
        have := ih h j l (by simpa using hl)
        rw [show k + (j + 1) = k + 1 + j by omega]
        exact this
    · rename_i h0; exact absurd h h0
theorem zBb {z : zm} (h : zFU z = 0) : zBn z = true := by
  unfold zFU at h
  split at h
  · cases h
  · rename_i h1; simpa using h1
def zJV (l : List Int) (i : Nat) : Option Int := if i = 0 then none else l[i - 1]?
section
variable {z : zm} {k i : Nat} {l : List Int} {x y : Int}
theorem zNO (hI : zJO z k none l = zJO z k (zJV l i) (l.drop i)) (hx : l[i]? = some x) (h : zA6 z x k = false) : zJO z k none l = 3 := by
  obtain ⟨h1, h2⟩ := List.getElem?_eq_some_iff.1 hx
  rw [hI, List.drop_eq_getElem_cons h1, h2]
  unfold zJO
  simp [h]
theorem zJ7 (hI : zJO z k none l = zJO z k (zJV l i) (l.drop i)) (hx : l[i]? = some x) (h : zA6 z x k = true) (hg : geP (zJV l i) x = false) : zJO z k none l = zJO z k (zJV l (i + 1)) (l.drop (i + 1)) := by
  obtain ⟨h1, h2⟩ := List.getElem?_eq_some_iff.1 hx
  rw [hI, List.drop_eq_getElem_cons h1, h2]
  conv => lhs; unfold zJO
  have : zJV l (i + 1) = some x := by unfold zJV; simpa using hx
  simp [h, hg, this]
theorem zSV (h : ¬ 0 < i) : geP (zJV l i) x = false := by
  have : i = 0 := by omega
  subst this
  rfl
theorem zS0 (h : 0 < i) (hy : l[((i : Int) - 1).toNat]? = some y) : geP (zJV l i) x = decide (x ≤ y) := by
  have e : ((i : Int) - 1).toNat = i - 1 := by omega
  rw [e] at hy
  unfold zJV
  rw [if_neg (by omega), hy]
  rfl
theorem zL8 (hI : zJO z k none l = zJO z k (zJV l i) (l.drop i)) (hx : l[i]? = some x) (h : zA6 z x k = true) (hg : geP (zJV l i) x = true) : zJO z k none l = 10 := by
  obtain ⟨h1, h2⟩ := List.getElem?_eq_some_iff.1 hx
  rw [hI, List.drop_eq_getElem_cons h1, h2]
  unfold zJO
  simp [h, hg]
theorem zOD (hI : zJO z k none l = zJO z k (zJV l i) (l.drop i)) (h : l.length ≤ i) : zJO z k none l = 0 := by
  rw [hI, List.drop_eq_nil_of_le h]
  rfl
theorem zL5 (hR : zEz z 0 z.free = zEz z k (z.free.drop k)) (hl : z.free[k]? = some l) (e : zJO z k none l = 0) : zEz z 0 z.free = zEz z (k + 1) (z.free.drop (k + 1)) := by
  obtain ⟨h1, h2⟩ := List.getElem?_eq_some_iff.1 hl
  rw [hR, List.drop_eq_getElem_cons h1, h2]
  conv => lhs; unfold zEz
  simp [e]
theorem zMv (hR : zEz z 0 z.free = zEz z k (z.free.drop k)) (h : z.free.length ≤ k) : zEz z 0 z.free = 0 := by
  rw [hR, List.drop_eq_nil_of_le h]
  rfl
variable {s s0 s1 : List Bool} {m n : Nat}
variable {ls : List (List Int)}
variable {l0 : List Int}
theorem zLC {β : Type} {l : List β} {i m : Nat} {x : β} (h : l[i]? = some x) (hm : i < m) : (l.take m)[i]? = some x := by
  rw [List.getElem?_take, if_pos hm]; exact h
end
def zNw (k : Nat) : List (List Int) → Int
  | [] => 0
  | l :: r => (l.length : Int) * 2 ^ k + zNw (k + 1) r
end Go.Proofs.YtplkliakhdkpcaaGreat
