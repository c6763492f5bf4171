/-
  The walker's own rules, part B: what stays of the memory over a step ('Kp'), a block known whole ('Blk'), cells in a row ('Cells'), data that are read ('rd').
  Conditions: none: plain theorems over whatever program P.
-/
import Derived.Test.YtplkliakhdkpcaaGreatWkA
import Derived.Laws.CopyRow
import Derived.Laws.Cells
set_option linter.unusedVariables false
set_option linter.unusedSimpArgs false
namespace Go.Wk
open Go Go.RowKit
structure Kp (D:List Nat) (w w':World):Prop where
  os:w'.os=w.os
  tape:w'.tape=w.tape
  output:w'.output=w.output
  size:w.heap.size≤w'.heap.size
  block:∀ b,b<w.heap.size→b ∉ D→w'.heap[b]?=w.heap[b]?
theorem Kp.refl (D:List Nat) (w:World):Kp D w w:=⟨rfl,rfl,rfl,Nat.le_refl _,fun _ _ _=>rfl⟩
theorem Kp.trans {D:List Nat} {a b c:World} (h:Kp D a b) (k:Kp D b c):Kp D a c :=
  ⟨k.os.trans h.os,k.tape.trans h.tape,k.output.trans h.output,Nat.le_trans h.size k.size,fun i hi hn=>(k.block i (Nat.lt_of_lt_of_le hi h.size) hn).trans (h.block i hi hn)⟩
theorem Kp.mono {D D':List Nat} {a b:World} (h:Kp D a b) (hD:∀ x,x∈D→x∈D'):Kp D' a b :=
  ⟨h.os,h.tape,h.output,h.size,fun i hi hn=>h.block i hi (fun hm=>hn (hD i hm))⟩
theorem Kp.to {a b:World} (D:List Nat) (h:Kp [] a b):Kp D a b:=h.mono (fun _ hx=>by cases hx)
theorem Kp.newer {D D':List Nat} {a b c:World} (h:Kp D a b) (k:Kp D' b c) (hn:∀ x,x∈D'→x∈D∨a.heap.size≤x):Kp D a c :=
  ⟨k.os.trans h.os,k.tape.trans h.tape,k.output.trans h.output,Nat.le_trans h.size k.size,fun i hi hd=>(k.block i (Nat.lt_of_lt_of_le hi h.size) (fun hm=>by
    rcases hn i hm with hx | hx
    · exact hd hx
    · omega)).trans (h.block i hi hd)⟩
theorem Kp.new1 {D:List Nat} {g:Nat} {a b c:World} (h:Kp D a b) (k:Kp [g] b c) (hn:a.heap.size≤g):Kp D a c :=
  h.newer k (fun x hx => .inr (by simp at hx; omega))
theorem Kp.alloc (w:World) (o:Obj):Kp [] w (w.alloc o):=⟨rfl,rfl,rfl,by simp,fun b hb _=>Below.heap_alloc w o b hb⟩
theorem Kp.drew (w:World):Kp [] w w.drew:=⟨rfl,rfl,rfl,Nat.le_refl _,fun _ _ _=>rfl⟩
theorem Kp.drawn (w:World) (k:Nat):Kp [] w { w with drawn:=k }:=⟨rfl,rfl,rfl,Nat.le_refl _,fun _ _ _=>rfl⟩
theorem Kp.setCell (w:World) (a:Addr) (v:Value):Kp [a.block] w (w.setCell a v) :=
  ⟨rfl,rfl,rfl,by simp [World.setCell],fun b _ hn=>Below.heap_setCell w a v b (by simpa using hn)⟩
theorem zK6 {w:World} {b:Nat} {o:Obj} (h:w.heap[b]?=some o):b<w.heap.size:=by
  rcases Nat.lt_or_ge b w.heap.size with hlt | hge
  · exact hlt
  · rw [Array.getElem?_eq_none hge] at h; cases h
def Blk (w:World) (b:Nat) (t:TypeId) (cs:List Value):Prop:=w.heap[b]?=some (.cells cs.toArray t (0,0))
theorem Blk.lt {w:World} {b:Nat} {t:TypeId} {cs:List Value} (h:Blk w b t cs):b<w.heap.size:=zK6 h
def Cells (w:World) (b o:Nat) (cs:List Value):Prop := ∀ j v,cs[j]?=some v→w.cell? ⟨b,o+j,none⟩=some v
theorem Blk.cells {w:World} {b:Nat} {t:TypeId} {cs:List Value} (h:Blk w b t cs):Cells w b 0 cs:=by
  intro j v hv
  unfold Blk at h
  simp [World.cell?,h,hv]
theorem Cells.agree {w w':World} {b o:Nat} {cs:List Value} (h:Cells w b o cs) (hb:w'.heap[b]?=w.heap[b]?):Cells w' b o cs :=
  fun j v hv=>(World.cell?_of_block (w:=w) (a:=⟨b,o+j,none⟩) hb).trans (h j v hv)
theorem zAS {β:Type} {l:List β} {i:Nat} {x:β} (h:l[i]?=some x):i<l.length:=(List.getElem?_eq_some_iff.1 h).1
theorem zQ9 {β:Type} {l:List β} {i:Nat} {x:β} (h:l[i]?=some x):l.drop i=x::l.drop (i+1):=by
  obtain ⟨h1,h2⟩:=List.getElem?_eq_some_iff.1 h
  rw [List.drop_eq_getElem_cons h1,h2]
end Go.Wk
