/-
  What the program's Check of a zone is, in plain words, and its laws. No program in sight.
-/
import Derived.Test.YtplkliakhdkpcaaGreatPb
set_option linter.unusedVariables false
set_option linter.unusedSimpArgs false
namespace Go.Proofs.YtplkliakhdkpcaaGreat
open Go Go.RowKit Go.Am
def geP:Option Int→Int→Bool
  | some q,f=>decide (f≤q)
  | none,_=>false
def zJ4 (z:zo) (k:Nat):Option Int→List Int→Int
  | _,[]=>0
  | p,f::r=>if inside z f k=false then 3 else if geP p f=true then 10 else zJ4 z k (some f) r
def zEw (z:zo):Nat→List (List Int)→Int
  | _,[]=>0
  | k,l::r=>if zJ4 z k none l=0 then zEw z (k+1) r else zJ4 z k none l
def zMK (s:List Bool) (i:Nat):Nat→Option (List Bool)
  | 0=>some s
  | n+1=>if s.getD i false=true then none else zMK (s.set i true) (i+1) n
def zMG (k:Nat):List Bool→List Int→Option (List Bool)
  | s,[]=>some s
  | s,f::r=>match zMK s f.toNat (2 ^ k) with
    | none=>none
    | some s'=>zMG k s' r
def zIv:Nat→List Bool→List (List Int)→Option (List Bool)
  | _,s,[]=>some s
  | k,s,l::r=>match zMG k s l with
    | none=>none
    | some s'=>zIv (k+1) s' r
def zPN (z:zo) (k:Nat) (l0:List Int):List Int→Bool
  | []=>false
  | f::r=>if (decide (bud f k∈l0)&&inside z (min f (bud f k)) (k+1))=true then true else zPN z k l0 r
def zMP (z:zo):Nat→List (List Int)→Bool
  | _,[]=>false
  | k,l::r=>if zPN z k l l=true then true else zMP z (k+1) r
def zFV:List Bool:=List.replicate 256 false
theorem zKI:zFV.length=256:=List.length_replicate
def zEr (z:zo):Int :=
  if ranges z=false then 2 else if zEw z 0 z.free=0 then
    (if zIv 0 zFV z.free=none then 7 else if zMP z 0 (z.free.take 4)=true then 11 else 0)
  else zEw z 0 z.free
theorem zQk {z:zo} {k:Nat}:∀ {l:List Int} {p:Option Int},zJ4 z k p l=0→(∀ f,f∈l→inside z f k=true)∧Srt l∧(∀ q f,p=some q→f∈l→q<f):=by
  intro l
  induction l with
  | nil=>intro p _; exact ⟨fun f hf=>by simp at hf,Srt.nil,fun q f _ hf=>by simp at hf⟩
  | cons a l ih =>
    intro p h
    unfold zJ4 at h
    split at h
    · cases h
    · rename_i h1
      split at h
      · cases h
      · rename_i h2
        obtain ⟨i1,i2,i3⟩:=ih h
        have ha:inside z a k=true:=by simpa using h1
        refine ⟨fun f hf => ?_,List.pairwise_cons.2 ⟨fun f hf=>i3 a f rfl hf,i2⟩,fun q f hq hf => ?_⟩
        · rcases List.mem_cons.1 hf with rfl | hf
          · exact ha
          · exact i1 f hf
        · subst hq
          have h2:q<a:=by simpa [geP] using h2
          rcases List.mem_cons.1 hf with rfl | hf
          · exact h2
          · have:=i3 a f rfl hf; omega
theorem zRU {z:zo}:∀ {ls:List (List Int)} {k:Nat},zEw z k ls=0 → ∀ (j:Nat) (l:List Int),ls[j]?=some l→(∀ f,f∈l→inside z f (k+j)=true)∧Srt l:=by
  intro ls
  induction ls with
  | nil=>intro k _ j l hl; simp at hl
  | cons a ls ih =>
    intro k h j l hl
    unfold zEw at h
    split at h
    · rename_i h0
      cases j with
      | zero =>
        simp at hl; subst hl
        exact ⟨(zQk h0).1,(zQk h0).2.1⟩
      | succ j =>
        have:=ih h j l (by simpa using hl)
        rw [show k+(j+1)=k+1+j by omega]
        exact this
    · rename_i h0; exact absurd h h0
theorem zC9 {z:zo} (h:zEr z=0):ranges z=true:=by
  unfold zEr at h
  split at h
  · cases h
  · rename_i h1; simpa using h1
def zJ7 (l:List Int) (i:Nat):Option Int:=if i=0 then none else l[i - 1]?
section
variable {z:zo} {k i:Nat} {l:List Int} {x y:Int}
theorem zOD (hI:zJ4 z k none l=zJ4 z k (zJ7 l i) (l.drop i)) (hx:l[i]?=some x) (h:inside z x k=false):zJ4 z k none l=3:=by
  obtain ⟨h1,h2⟩:=List.getElem?_eq_some_iff.1 hx
  rw [hI,List.drop_eq_getElem_cons h1,h2]
  unfold zJ4
  simp [h]
theorem zKi (hI:zJ4 z k none l=zJ4 z k (zJ7 l i) (l.drop i)) (hx:l[i]?=some x) (h:inside z x k=true) (hg:geP (zJ7 l i) x=false):zJ4 z k none l=zJ4 z k (zJ7 l (i+1)) (l.drop (i+1)):=by
  obtain ⟨h1,h2⟩:=List.getElem?_eq_some_iff.1 hx
  rw [hI,List.drop_eq_getElem_cons h1,h2]
  conv=>lhs; unfold zJ4
  have:zJ7 l (i+1)=some x:=by unfold zJ7; simpa using hx
  simp [h,hg,this]
theorem zTT (h:¬ 0<i):geP (zJ7 l i) x=false:=by
  have:i=0:=by omega
  subst this
  rfl
theorem zUA (h:0<i) (hy:l[((i:Int) - 1).toNat]?=some y):geP (zJ7 l i) x=decide (x≤y):=by
  have e:((i:Int) - 1).toNat=i - 1:=by omega
  rw [e] at hy
  unfold zJ7
  rw [if_neg (by omega),hy]
  rfl
theorem zMg (hI:zJ4 z k none l=zJ4 z k (zJ7 l i) (l.drop i)) (hx:l[i]?=some x) (h:inside z x k=true) (hg:geP (zJ7 l i) x=true):zJ4 z k none l=10:=by
  obtain ⟨h1,h2⟩:=List.getElem?_eq_some_iff.1 hx
  rw [hI,List.drop_eq_getElem_cons h1,h2]
  unfold zJ4
  simp [h,hg]
theorem zPV (hI:zJ4 z k none l=zJ4 z k (zJ7 l i) (l.drop i)) (h:l.length≤i):zJ4 z k none l=0:=by
  rw [hI,List.drop_eq_nil_of_le h]
  rfl
theorem zMk (hR:zEw z 0 z.free=zEw z k (z.free.drop k)) (hl:z.free[k]?=some l) (e:zJ4 z k none l=0):zEw z 0 z.free=zEw z (k+1) (z.free.drop (k+1)):=by
  obtain ⟨h1,h2⟩:=List.getElem?_eq_some_iff.1 hl
  rw [hR,List.drop_eq_getElem_cons h1,h2]
  conv=>lhs; unfold zEw
  simp [e]
theorem zNz (hR:zEw z 0 z.free=zEw z k (z.free.drop k)) (h:z.free.length≤k):zEw z 0 z.free=0:=by
  rw [hR,List.drop_eq_nil_of_le h]
  rfl
variable {s s0 s1:List Bool} {m n:Nat}
variable {ls:List (List Int)}
variable {l0:List Int}
theorem zMB {β:Type} {l:List β} {i m:Nat} {x:β} (h:l[i]?=some x) (hm:i<m):(l.take m)[i]?=some x:=by
  rw [List.getElem?_take,if_pos hm]; exact h
end
end Go.Proofs.YtplkliakhdkpcaaGreat
