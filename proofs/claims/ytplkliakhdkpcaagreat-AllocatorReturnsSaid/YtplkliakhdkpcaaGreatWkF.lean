/-
  The walker's own rules, part F: a region that draws its order: its head's operations in whatever order, its tail in the order of the text.
  Conditions: none: plain theorems over whatever program P.
-/
import Derived.Test.YtplkliakhdkpcaaGreatWkD
set_option linter.unusedVariables false
set_option linter.unusedSimpArgs false
namespace Go.Wk
open Go Go.RowKit
section
variable {P:Program} {n:Nat}
theorem zQq {o:Oper} {a:Act} {K:Act→World→Prop} {Q:Exit→Act→World→Prop} {K':Act→World→Prop} {r:Result Next} (h:o.upon P a K (Exit.then K' Q) r):o.upon P a K Q r:=by
  cases r with
  | ok x w =>
    cases x <;> exact h
  | halt x w=>cases x <;> exact h
theorem zPi {l:List Oper} {i:Nat} {o:Oper} {F:Env} {w:World} {k:Env→World→Prop} {Q:Exit→Act→World→Prop} {K:Act→World→Prop}
    (hi:l[i]?=some o) (h:LW P n l.toArray [o] k F w) (hk:∀ F w,k F w→K (fr n F) w):wpOp P l.toArray Q i K (fr n F) w:=by
  unfold LW at h
  have h1:=h (Exit.then K Q) (fun F w hh=>hk F w hh)
  unfold wpOp
  have hi':l.toArray[i]?=some o:=by simpa using hi
  rw [hi']
  simp only
  unfold wpList at h1
  split
  · rename_i hw
    rw [if_pos hw] at h1
    rcases h1 with h1 | h1
    · left
      unfold Oper.wp at h1 ⊢
      have h2:=zQq h1
      exact h2
    · right
      exact h1
  · rename_i hw
    rw [if_neg hw] at h1
    exact h1
end
def reach (l:List Oper):Nat→Nat→Nat→Bool
  | 0,_,_=>false
  | f+1,i,j=>match l[i]? with
    | none=>false
    | some o=>o.after.toList.any fun e=>Region.binds .any e&&(e.on == j||reach l f e.on j)
def zA6 (l:List Oper) (i:Nat):Nat:=match l[i]? with
  | some o=>o.dst.getD 1000000
  | none=>1000000
def zO6 (l:List Oper) (p:Nat):Bool :=
  decide (p≤l.length) &&
  (List.range l.length).all (fun i=>match l[i]? with | none=>true | some o=>o.after.toList.all fun e => !Region.binds .any e||decide (e.on<i)) &&
  (List.range p).all (fun i=>match l[i]? with | none=>false | some o=>o.dst.isSome&&(List.range i).all fun j=>zA6 l j != zA6 l i) &&
  (decide (l.length≤p)||(List.range p).all fun j=>reach l (l.length) p j) &&
  (List.range l.length).all (fun i=>decide (i≤p)||match l[i]? with | none=>false | some o=>o.after.toList.any fun e=>Region.binds .any e&&e.on+1 == i)
section
variable {P:Program} {n:Nat} {l:List Oper} {p:Nat}
structure HT (l:List Oper) (p:Nat):Prop where
  le:p≤l.length
  down:∀ i o,l[i]?=some o → ∀ e∈o.after.toList,Region.binds .any e=true→e.on<i
  dst:∀ i o,i<p→l[i]?=some o → ∃ d,o.dst=some d ∧ ∀ j,j<i→zA6 l j≠d
  all:p<l.length → ∀ j,j<p→reach l l.length p j=true
  chain:∀ i o,p<i→l[i]?=some o → ∃ e∈o.after.toList,Region.binds .any e=true∧e.on+1=i
theorem HT.of (h:zO6 l p=true):HT l p:=by
  unfold zO6 at h
  simp only [Bool.and_eq_true,Bool.or_eq_true,decide_eq_true_eq,List.all_eq_true,List.mem_range] at h
  obtain ⟨⟨⟨⟨h1,h2⟩,h3⟩,h4⟩,h5⟩:=h
  refine ⟨h1,?_,?_,?_,?_⟩
  · intro i o hi e he hb
    have:=h2 i (zAS hi)
    rw [hi] at this
    simp only [List.all_eq_true] at this
    have:=this e he
    simpa [hb] using this
  · intro i o hip hi
    have:=h3 i hip
    rw [hi] at this
    simp only [Bool.and_eq_true,List.all_eq_true,List.mem_range] at this
    obtain ⟨ha,hb⟩:=this
    obtain ⟨d,hd⟩:=Option.isSome_iff_exists.1 ha
    refine ⟨d,hd,fun j hj => ?_⟩
    have:=hb j hj
    have hdi:zA6 l i=d:=by unfold zA6; rw [hi]; simp [hd]
    rw [hdi] at this
    simpa using this
  · intro hp j hj
    rcases h4 with h4 | h4
    · omega
    · exact h4 j hj
  · intro i o hpi hi
    rcases h5 i (zAS hi) with h5 | h5
    · omega
    · rw [hi] at h5
      simp only [List.any_eq_true,Bool.and_eq_true,beq_iff_eq] at h5
      exact h5
def zLM (l:List Oper) (listed:Array Bool):Prop := ∀ i o,l[i]?=some o→listed.getD i false=true → ∀ e∈o.after.toList,Region.binds .any e=true→listed.getD e.on false=true
theorem zLM.reach {listed:Array Bool} (h:zLM l listed):∀ (f i j:Nat),reach l f i j=true→listed.getD i false=true→listed.getD j false=true:=by
  intro f
  induction f with
  | zero=>intro i j hr; simp [Wk.reach] at hr
  | succ f ih =>
    intro i j hr hl
    unfold Wk.reach at hr
    split at hr
    · cases hr
    · rename_i o ho
      simp only [List.any_eq_true,Bool.and_eq_true,Bool.or_eq_true,beq_iff_eq] at hr
      obtain ⟨e,he,hb,hj⟩:=hr
      have hon:=h i o ho hl e he hb
      rcases hj with rfl | hj
      · exact hon
      · exact ih _ _ hj hon
theorem zLj {listed:Array Bool} {i:Nat} (hsz:listed.size=l.length):i∈Region.ready .any l.toArray listed ↔ ∃ o,l[i]?=some o∧listed.getD i false=false ∧ ∀ e∈o.after.toList,Region.binds .any e=true→listed.getD e.on false=true:=by
  unfold Region.ready
  simp only [List.size_toArray,List.mem_filter,List.mem_range,Bool.and_eq_true,Bool.not_eq_true']
  constructor
  · rintro ⟨hi,h1,h2⟩
    have ho:=List.getElem?_eq_getElem hi
    refine ⟨l[i],ho,?_,?_⟩
    · have hlt:i<listed.size:=by omega
      simp [Array.getD,hlt] at h1 ⊢
      exact h1
    · intro e he hb
      have h3:(Option.map (fun x:Oper=>x.after.all fun e => !Region.binds .any e||listed.getD e.on false) l[i]?).getD false=true:=by simpa using h2
      rw [ho] at h3
      simp only [Option.map_some,Option.getD_some] at h3
      rw [← Array.all_toList,List.all_eq_true] at h3
      have:=h3 e he
      simpa [hb] using this
  · rintro ⟨o,ho,h1,h2⟩
    have hi:=zAS ho
    refine ⟨hi,?_,?_⟩
    · have hlt:i<listed.size:=by omega
      simp [Array.getD,hlt] at h1 ⊢
      exact h1
    · have h3:(Option.map (fun x:Oper=>x.after.all fun e => !Region.binds .any e||listed.getD e.on false) l[i]?).getD false=true:=by
        rw [ho]
        simp only [Option.map_some,Option.getD_some]
        rw [← Array.all_toList,List.all_eq_true]
        intro e he
        cases hb:Region.binds .any e with
        | false=>rfl
        | true=>simpa using h2 e he hb
      simpa using h3
def cnt (listed:Array Bool):Nat:=listed.toList.countP (fun b => !b)
theorem zSb {listed:Array Bool} {i:Nat} (hi:i<listed.size) (h:listed.getD i false=false):cnt (listed.setIfInBounds i true)+1=cnt listed:=by
  unfold cnt
  rw [Array.toList_setIfInBounds]
  have hl:listed.toList[i]'(by simpa using hi)=false:=by simpa [Array.getD,hi] using h
  have hlen:i<listed.toList.length:=by simpa using hi
  have hset:=List.countP_set (p:=fun b:Bool => !b) (a:=true) hlen
  simp only [hl,Bool.not_true,Bool.not_false,Bool.false_eq_true,if_false,if_true] at hset
  rw [hset]
  have hpos:0<listed.toList.countP (fun b => !b):=by
    rw [List.countP_pos_iff]
    exact ⟨false,by rw [← hl]; exact List.getElem_mem hlen,rfl⟩
  omega
theorem zRN {listed:Array Bool} (h:cnt listed=0) {i:Nat} (hi:i<listed.size):listed.getD i false=true:=by
  unfold cnt at h
  rw [List.countP_eq_zero] at h
  have hm:listed[i]∈listed.toList:=by
    rw [Array.mem_toList_iff]
    exact Array.getElem_mem hi
  have:=h _ hm
  simpa [Array.getD,hi] using this
theorem zC3 {listed:Array Bool} {i j:Nat} (hi:i<listed.size):(listed.setIfInBounds i true).getD j false=if j=i then true else listed.getD j false:=by
  by_cases h:j=i
  · subst h
    simp [Array.getD,hi]
  · have h':i≠j:=fun e=>h e.symm
    simp only [h,if_false]
    unfold Array.getD
    simp only [Array.size_setIfInBounds]
    split
    · rename_i hj
      show (listed.setIfInBounds i true)[j]'(by simpa using hj)=listed[j]
      rw [Array.getElem_setIfInBounds (by simpa using hj),if_neg h']
    · rfl
end
end Go.Wk
