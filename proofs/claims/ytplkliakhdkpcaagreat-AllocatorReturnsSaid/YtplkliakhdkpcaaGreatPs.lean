/-
  An allocator is the same as itself, by the reference's word. No program in sight.
-/
import Derived.Test.YtplkliakhdkpcaaGreatPb
set_option linter.unusedVariables false
set_option linter.unusedSimpArgs false
namespace Go.Proofs.YtplkliakhdkpcaaGreat
open Go Go.RowKit Go.Wk Go.Am
structure Sm (a:zJ):Prop where
  n:a.nodes.length≤1099511627776
  z:a.zones.length≤1099511627776
  c:a.caches.length≤1099511627776
  f:∀ z,z∈a.zones → ∀ k,(z.free.getD k []).length≤1099511627776
  l:∀ c,c∈a.caches→c.lists.length≤1099511627776 ∧ ∀ l,l∈c.lists→l.length≤1099511627776
theorem zUx {l:List Int} (hl:l.length≤1099511627776):∀ (m n i:Nat),i+m=l.length→m<n→zDt l l n (i:Int)=some true:=by
  intro m
  induction m with
  | zero =>
    intro n i h1 h2
    obtain ⟨n,rfl⟩:∃ q,n=q+1:=⟨n - 1,by omega⟩
    show zCI _ _ _ _=_
    unfold zCI
    rw [zAG (df (by omega))]
    rfl
  | succ m ih =>
    intro n i h1 h2
    obtain ⟨n,rfl⟩:∃ q,n=q+1:=⟨n - 1,by omega⟩
    show zCI _ _ _ _=_
    unfold zCI
    rw [zAY (dt (by omega)),zi (zAb (by omega)),zi (zAb (by omega)),dt rfl]
    refine (zAG (by rfl)).trans ?_
    rw [zi (zAE (by omega))]
    exact ih n (i+1) (by omega) (by omega)
theorem zNx {l:List Int} (hl:l.length≤1099511627776):zES l l=some true:=by
  unfold zES
  rw [dt rfl]
  exact zUx hl l.length z9 0 (by omega) (by unfold z9; omega)
theorem zU1 {l:List Int} (hl:l.length≤1099511627776):∀ (m n i:Nat),i+m=l.length→m<n→zDr l l n (i:Int)=some true:=by
  intro m
  induction m with
  | zero =>
    intro n i h1 h2
    obtain ⟨n,rfl⟩:∃ q,n=q+1:=⟨n - 1,by omega⟩
    show zCG _ _ _ _=_
    unfold zCG
    rw [zAG (df (by omega))]
    rfl
  | succ m ih =>
    intro n i h1 h2
    obtain ⟨n,rfl⟩:∃ q,n=q+1:=⟨n - 1,by omega⟩
    show zCG _ _ _ _=_
    unfold zCG
    rw [zAY (dt (by omega)),zi (zAb (by omega)),zi (zAb (by omega)),dt rfl]
    refine (zAG (by rfl)).trans ?_
    rw [zi (zAE (by omega))]
    exact ih n (i+1) (by omega) (by omega)
theorem zQx {l:List Int} (hl:l.length≤1099511627776):zFc l l=some true:=by
  unfold zFc
  rw [dt rfl]
  exact zU1 hl l.length z9 0 (by omega) (by unfold z9; omega)
theorem zOS {z:zo} (hz:∀ k,(z.free.getD k []).length≤1099511627776):∀ (m n i:Nat),i+m=5→m<n→zGf z z n (i:Int)=some true:=by
  intro m
  induction m with
  | zero =>
    intro n i h1 h2
    obtain ⟨n,rfl⟩:∃ q,n=q+1:=⟨n - 1,by omega⟩
    show zEE _ _ _ _=_
    unfold zEE
    rw [zAG (df (by omega))]
    rfl
  | succ m ih =>
    intro n i h1 h2
    obtain ⟨n,rfl⟩:∃ q,n=q+1:=⟨n - 1,by omega⟩
    show zEE _ _ _ _=_
    unfold zEE
    rw [zAY (dt (by omega)),zi (zAb (by omega)),zQx (hz _),zD0]
    refine (zAG (by rfl)).trans ?_
    rw [zi (zAE (by omega))]
    exact ih n (i+1) (by omega) (by omega)
theorem zTy {z:zo} (hz:∀ k,(z.free.getD k []).length≤1099511627776):zI1 z z=some true:=by
  unfold zI1
  rw [dt rfl,dt rfl,dt rfl,dt rfl,dt rfl]
  exact zOS hz 5 z9 0 (by omega) (by unfold z9; omega)
theorem zOX {c:zL} (h1:c.lists.length≤1099511627776) (h2:∀ l,l∈c.lists→l.length≤1099511627776):∀ (m n i:Nat),i+m=c.lists.length→m<n→zF9 c c n (i:Int)=some true:=by
  intro m
  induction m with
  | zero =>
    intro n i h3 h4
    obtain ⟨n,rfl⟩:∃ q,n=q+1:=⟨n - 1,by omega⟩
    show zD3 _ _ _ _=_
    unfold zD3
    rw [zAG (df (by omega))]
    rfl
  | succ m ih =>
    intro n i h3 h4
    obtain ⟨n,rfl⟩:∃ q,n=q+1:=⟨n - 1,by omega⟩
    show zD3 _ _ _ _=_
    unfold zD3
    have hi:i<c.lists.length:=by omega
    rw [zAY (dt (by omega)),zi (zAb hi),zi (zAb hi),zII hi,zNx (h2 _ (List.getElem_mem hi)),zD0]
    refine (zAG (by rfl)).trans ?_
    rw [zi (zAE (by omega))]
    exact ih n (i+1) (by omega) (by omega)
theorem zT0 {c:zL} (h1:c.lists.length≤1099511627776) (h2:∀ l,l∈c.lists→l.length≤1099511627776):zIs c c=some true:=by
  unfold zIs
  rw [dt rfl]
  exact zOX h1 h2 c.lists.length z9 0 (by omega) (by unfold z9; omega)
theorem zRM {a:zJ} (h:Sm a):∀ (m n i:Nat),i+m=a.caches.length→m<n→zGZ a a n (i:Int)=some true:=by
  have hc:=h.c
  intro m
  induction m with
  | zero =>
    intro n i h3 h4
    obtain ⟨n,rfl⟩:∃ q,n=q+1:=⟨n - 1,by omega⟩
    show zD8 _ _ _ _=_
    unfold zD8
    rw [zAG (df (by omega))]
    rfl
  | succ m ih =>
    intro n i h3 h4
    obtain ⟨n,rfl⟩:∃ q,n=q+1:=⟨n - 1,by omega⟩
    show zD8 _ _ _ _=_
    unfold zD8
    have hi:i<a.caches.length:=by omega
    have hl:=h.l _ (List.getElem_mem hi)
    rw [zAY (dt (by omega)),zi (zAb hi),zi (zAb hi),zII hi,zT0 hl.1 hl.2,zD0]
    refine (zAG (by rfl)).trans ?_
    rw [zi (zAE (by omega))]
    exact ih n (i+1) (by omega) (by omega)
theorem zRJ {a:zJ} (h:Sm a):∀ (m n i:Nat),i+m=a.zones.length→m<n→zGg a a n (i:Int)=some true:=by
  have hc:=h.z
  intro m
  induction m with
  | zero =>
    intro n i h3 h4
    obtain ⟨n,rfl⟩:∃ q,n=q+1:=⟨n - 1,by omega⟩
    show zD9 _ _ _ _=_
    unfold zD9
    rw [zAG (df (by omega))]
    exact zRM h a.caches.length z9 0 (by omega) (by have:=h.c; unfold z9; omega)
  | succ m ih =>
    intro n i h3 h4
    obtain ⟨n,rfl⟩:∃ q,n=q+1:=⟨n - 1,by omega⟩
    show zD9 _ _ _ _=_
    unfold zD9
    have hi:i<a.zones.length:=by omega
    rw [zAY (dt (by omega)),zi (zAb hi),zi (zAb hi),zII hi,zTy (h.f _ (List.getElem_mem hi)),zD0]
    refine (zAG (by rfl)).trans ?_
    rw [zi (zAE (by omega))]
    exact ih n (i+1) (by omega) (by omega)
theorem zT7 {a:zJ} (h:Sm a):zHy a a=some true:=by
  unfold zHy
  rw [zNx h.n,zD0,dt rfl,dt rfl,dt rfl,dt rfl]
  exact zRJ h a.zones.length z9 0 (by omega) (by have:=h.z; unfold z9; omega)
end Go.Proofs.YtplkliakhdkpcaaGreat
