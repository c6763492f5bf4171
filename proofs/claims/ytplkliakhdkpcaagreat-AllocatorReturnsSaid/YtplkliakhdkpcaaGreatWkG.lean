/-
  The walker's own rules, part G: append, make, literal slices, copy, clear, nil; sets that are maps.
  Conditions: none: plain theorems over whatever program P.
-/
import Derived.Test.YtplkliakhdkpcaaGreatWkE
set_option linter.unusedVariables false
set_option linter.unusedSimpArgs false
namespace Go.Wk
open Go Go.RowKit
structure zKZ (P:Program) (e sz:Nat) (z:Value) (bytes:Nat):Prop where
  info:∃ i,P.info? e=some i∧i.zero=some z∧i.size=sz∧i.bytes=bytes
  cells:z.cells.size=sz
  pos:0<sz
  bpos:1≤bytes
theorem zKZ.of {P:Program} {e sz bytes:Nat} {z:Value} (h:(P.info? e).map (fun i=>(i.zero,i.size,i.bytes))=some (some z,sz,bytes)) (hc:z.cells.size=sz) (hp:0<sz) (hb:1≤bytes):zKZ P e sz z bytes:=⟨info_parts h,hc,hp,hb⟩
def Src (w:World) (sz:Nat) (v:Value) (rows:List (List Value)):Prop :=
  ∃ (a:Option Addr) (c:Nat),v = .slice a rows.length c∧rows.length≤c∧(∀ r,r∈rows→r.length=sz)∧(∀ r,r∈rows → ∀ u,u∈r→u.oneCell'=true)∧(rows.length=0 ∨ ∃ b o,a=some ⟨b,o,none⟩∧Cells w b o rows.flatten)
theorem zPs {w:World} {T sz:Nat} {g:Option Nat} {v:Value} {rows:List (List Value)} (h:zJN w T sz g v rows) (h1:∀ r,r∈rows → ∀ u,u∈r→u.oneCell'=true):Src w sz v rows:=by
  obtain ⟨a,c,hv,h2,h3⟩:=zJ2 h
  refine ⟨a,c,hv,h2,h.1,h1,?_⟩
  rcases Nat.eq_zero_or_pos rows.length with h0 | h0
  · exact .inl h0
  · obtain ⟨b,cap,sp,_,h2',_,_,h5,_⟩:=zLO h h0
    refine .inr ⟨b,0,?_,?_⟩
    · rw [h2'] at hv; injection hv with hv; exact hv.symm
    · intro j u hu
      have:=h5.cells j u (by rw [List.getElem?_append_left (zAS hu)]; exact hu)
      exact this
def zOq:Value→Bool
  | .slice none _ _=>true
  | _=>false
section
variable {P:Program} {n:Nat} {F:Env} {w:World}
theorem zQd {t e ty2:TypeId} {x:Operand} {v:Value} {a:Option Addr} {m c:Nat} (ht:P.underlying t=some (.slice e)) (hx:ev n F x=v) (hv:v = .slice a m c):Val P n F w (.binOp .eql t x (.const (.slice none 0 0)) ty2) (.bool (zOq v)) w:=by
  refine ⟨fun d t' p af g => ?_⟩
  subst hv
  have h1:(Op.equalIn (9999+1) t (.slice a m c) (.slice none 0 0)).run P w = .ok (zOq (.slice a m c)) w:=by
    unfold Op.equalIn
    simp only [Sem.run_bind,run_underlying ht,Result.andThen_ok]
    cases a <;> rfl
  have h:(binOp .eql t (.slice a m c) (.slice none 0 0)).run P w = .ok (.bool (zOq (.slice a m c))) w:=by
    simp only [binOp,Op.equal,Op.maxDepth,Sem.run_bind,h1,Result.andThen_ok,Sem.run_pure]
  simp only [execOp,hx,zM6,Sem.run_bind,eqGuard_at_slice,Sem.run_pure,Result.andThen_ok,h]
end
section
variable {P:Program} {n:Nat} {ops:Array Oper} {rest:List Oper} {k:Env→World→Prop} {F:Env} {w:World} {d:Nat} {ty:Nat} {p:String} {af:Array Edge}
theorem zQt {t e sz bytes:Nat} {z:Value} {s x:Operand} {v xv:Value} {g:Option Nat} {rows ns:List (List Value)} (hE:zKZ P e sz z bytes) (ht:P.underlying t=some (.slice e)) (hs:ev n F s=v) (hx:ev n F x=xv) (hown:zJN w e sz g v rows) (hsrc:Src w sz xv ns) (hbd:(rows.length+ns.length)*bytes≤4294967296)
    (hk:∀ v' g' w',zJN w' e sz g' v' (rows++ns)→Kp g.toList w w'→(g'=g ∨ ∃ b,g'=some b∧w.heap.size≤b)→LW P n ops rest k (upd F d v') w') :
    LW P n ops (⟨some d,.call { callee := .builtin .append,args := #[s,x],argTypes := #[t,t] },ty,p,af,none⟩::rest) k F w:=by
  obtain ⟨i,hi,hz,hsz,hby⟩:=hE.info
  obtain ⟨a,c,rfl,_,hr,h1,hc⟩:=hsrc
  obtain ⟨v',g',w',hrun,h2,h3,h4⟩:=zNj (P:=P) (ty:=ty) ht hi hz hsz hby hE.cells hE.pos hown (a:=a) (m:=ns.length) (c:=c) rfl hr h1 hc hbd hE.bpos
  refine zLi (v:=v') (w':=w') ⟨fun d t' p af g => ?_⟩ (hk v' g' w' h2 h3 h4)
  have hrun':(Builtin.append_ #[t,t] t' #[v,.slice a ns.length c]).run P w = .ok v' w':=hrun
  simp [execOp,hs,hx,resolve,invoke,builtin,hrun']
theorem zMV (z:Array Value) (c:Nat):madeCells z (c*z.size)=(List.replicate c z.toList).flatten.toArray:=by
  apply Array.ext
  · rw [size_madeCells]
    simp [List.length_flatten]
  · intro i h1 h2
    rw [size_madeCells] at h1
    have hz:0<z.size:=by
      rcases Nat.eq_zero_or_pos z.size with h | h
      · rw [h] at h1; simp at h1
      · exact h
    have hd:i/z.size<c:=by rw [Nat.div_lt_iff_lt_mul hz]; exact h1
    have hm:i%z.size<z.size:=Nat.mod_lt _ hz
    have hf:=zNb (rows:=List.replicate c z.toList) (sz:=z.size) (fun r hr=>by rw [List.eq_of_mem_replicate hr]; simp) (i:=i/z.size) (j:=i%z.size) (r:=z.toList) (by rw [List.getElem?_replicate,if_pos hd]) hm
    rw [Nat.div_add_mod'] at hf
    have e1:(madeCells z (c*z.size))[i]=z[i%z.size]:=by
      simp [madeCells,hm]
    have e2:(List.replicate c z.toList).flatten[i]?=some z[i%z.size]:=by rw [hf]; simp [hm]
    have e3:(List.replicate c z.toList).flatten.toArray[i]=(List.replicate c z.toList).flatten[i]'(by simpa using h2):=by simp
    rw [e1,e3]
    exact (List.getElem_eq_iff _).2 e2 |>.symm
theorem zSl {t e sz bytes:Nat} {z:Value} {x y:Operand} {kx ky:IntKind} {m c:Nat} (hE:zKZ P e sz z bytes) (ht:P.underlying t=some (.slice e)) (hx:ev n F x = .int kx (m:Int)) (hy:ev n F y = .int ky (c:Int)) (hmc:m≤c) (hbd:c*bytes≤4294967296)
    (hk:∀ b w',w.heap.size≤b→b<w'.heap.size→Kp [] w w'→zJN w' e sz (some b) (.slice (some ⟨b,0,none⟩) m c) (List.replicate m z.cells.toList)→LW P n ops rest k (upd F d (.slice (some ⟨b,0,none⟩) m c)) w') :
    LW P n ops (⟨some d,.makeSlice t x y,ty,p,af,none⟩::rest) k F w:=by
  obtain ⟨i,hi,hz,hsz,hby⟩:=hE.info
  have hc2:c≤4294967296:=by
    have:c*1≤c*bytes:=Nat.mul_le_mul_left _ hE.bpos
    omega
  have hb1:(i.bytes:Int)*(c:Int)≤281474976710656:=by
    rw [hby]
    have:((c*bytes:Nat):Int)≤4294967296:=by omega
    rw [Int.natCast_mul,Int.mul_comm] at this
    omega
  have hrun:=run_make (P:=P) w t e i z ht hi hz kx ky (m:Int) (c:Int) (by omega) (by omega) hb1 (by omega)
  simp only [Int.toNat_natCast] at hrun
  rw [hsz, ← hE.cells,zMV] at hrun
  have hzl:z.cells.toList.length=sz:=by simpa using hE.cells
  have hsplit:(List.replicate c z.cells.toList).flatten=(List.replicate m z.cells.toList).flatten++(List.replicate (c - m) z.cells.toList).flatten:=by
    rw [← List.flatten_append,List.replicate_append_replicate,Nat.add_sub_cancel' hmc]
  refine zLi (w':=w.alloc (.cells (List.replicate c z.cells.toList).flatten.toArray e)) (v := .slice (some ⟨w.heap.size,0,none⟩) m c) ⟨fun d t' p af g => ?_⟩ (hk w.heap.size _ (Nat.le_refl _) (by simp) (Kp.alloc _ _) ?_)
  · simp [execOp,hx,hy,hrun]
  · refine ⟨fun r hr=>by rw [List.eq_of_mem_replicate hr]; exact hzl,.inr ⟨w.heap.size,c,(List.replicate (c - m) z.cells.toList).flatten,rfl,by rw [List.length_replicate],by rw [List.length_replicate]; exact hmc,⟨by rw [List.length_replicate]; omega,by unfold maxLen; omega⟩,?_,?_⟩⟩
    · rw [← hsplit]
      exact zJU w e _
    · rw [← hsplit,zDn (sz:=sz) (fun r hr=>by rw [List.eq_of_mem_replicate hr]; exact hzl),List.length_replicate]
theorem zS1 {t e sz bytes:Nat} {z:Value} (hE:zKZ P e sz z bytes) (ht:P.underlying t=some (.slice e))
    (hk:∀ b w',w.heap.size≤b→b<w'.heap.size→Kp [] w w'→zJN w' e sz (some b) (.slice (some ⟨b,0,none⟩) 0 0) []→LW P n ops rest k (upd F d (.slice (some ⟨b,0,none⟩) 0 0)) w') :
    LW P n ops (⟨some d,.buildSlice t 0 #[],ty,p,af,none⟩::rest) k F w:=by
  obtain ⟨i,hi,hz,hsz,hby⟩:=hE.info
  have hrun:(Instr.buildSlice t 0 #[]).run P w = .ok (.slice (some ⟨w.heap.size,0,none⟩) 0 0) (w.alloc (.cells ([]:List Value).toArray e)):=by
    simp [Instr.buildSlice,run_underlying ht,sizeOf,typeInfo,hi,Instr.fill,newRow]
    congr 2
    simp [Array.range]
  refine zLi (w':=w.alloc (.cells ([]:List Value).toArray e)) (v := .slice (some ⟨w.heap.size,0,none⟩) 0 0) ⟨fun d t' p af g => ?_⟩ (hk w.heap.size _ (Nat.le_refl _) (by simp) (Kp.alloc _ _) (zOG (rows:=[]) (by simpa using zJU w e []) (fun r hr=>by simp at hr) (by simp)))
  simp [execOp,hrun]
theorem zSI {t e sz bytes:Nat} {z:Value} {x:Operand} {v:Value} {r:List Value} (hE:zKZ P e sz z bytes) (ht:P.underlying t=some (.slice e)) (hx:ev n F x=v) (hv:v.cells=r.toArray) (hr:r.length=sz) (hs:sz≤16)
    (hk:∀ b w',w.heap.size≤b→b<w'.heap.size→Kp [] w w'→zJN w' e sz (some b) (.slice (some ⟨b,0,none⟩) 1 1) [r]→LW P n ops rest k (upd F d (.slice (some ⟨b,0,none⟩) 1 1)) w') :
    LW P n ops (⟨some d,.buildSlice t 1 #[(0,x)],ty,p,af,none⟩::rest) k F w:=by
  obtain ⟨i,hi,hz,hsz,hby⟩:=hE.info
  have hpos:=hE.pos
  have hzc:=hE.cells
  have hrun:(Instr.buildSlice t 1 #[(0,v)]).run P w = .ok (.slice (some ⟨w.heap.size,0,none⟩) 1 1) (w.alloc (.cells r.toArray e)):=by
    have h0:¬ (sz=0):=by omega
    have hle:¬ (16777216<sz):=by omega
    have hfold:∀ (l:List Value) (k:Nat) (cs:Array Value),k+l.length=cs.size→(∀ j,j<k→cs[j]?=r[j]?)→(∀ j,l[j]?=r[k+j]?)→r.length=cs.size→(l.zipIdx k).foldl (fun cs (c,j)=>cs.setIfInBounds (0+j) c) cs=r.toArray:=by
      intro l
      induction l with
      | nil =>
        intro k cs hk h1 _ hrl
        simp only [List.zipIdx_nil,List.foldl_nil]
        apply Array.ext_getElem?
        intro j
        rcases Nat.lt_or_ge j k with hj | hj
        · rw [h1 j hj]; simp
        · simp at hk
          rw [Array.getElem?_eq_none (by omega),Array.getElem?_eq_none (by simp; omega)]
      | cons a l ih =>
        intro k cs hk h1 h2 hrl
        simp only [List.zipIdx_cons,List.foldl_cons]
        simp only [List.length_cons] at hk
        refine ih (k+1) _ (by simp; omega) ?_ ?_ (by simpa using hrl)
        · intro j hj
          rw [Array.getElem?_setIfInBounds]
          by_cases hjk:0+k=j
          · rw [if_pos hjk,if_pos (by omega)]
            have:=h2 0
            simp at this
            rw [← hjk,Nat.zero_add, ← this]
          · rw [if_neg hjk]
            exact h1 j (by omega)
        · intro j
          have:=h2 (j+1)
          simp only [List.getElem?_cons_succ] at this
          rw [this]
          congr 1
          omega
    have hf:=hfold r 0 ((Array.range sz).map (z.cells[· % z.cells.size]!)) (by simp [hr]) (fun j hj=>by omega) (fun j=>by simp) (by simp [hr])
    have hf2:r.zipIdx.foldl (fun cs (x:Value×Nat)=>cs.setIfInBounds x.2 x.1) ((Array.range sz).map (z.cells[· % z.cells.size]!))=r.toArray:=by
      simpa using hf
    simp [Instr.buildSlice,run_underlying ht,sizeOf,typeInfo,hi,hz,zeroValue,Instr.fill,newRow,hv,hr,hsz,h0,hle]
    rw [hf2]
  refine zLi (w':=w.alloc (.cells r.toArray e)) (v := .slice (some ⟨w.heap.size,0,none⟩) 1 1) ⟨fun d t' p af g => ?_⟩ (hk w.heap.size _ (Nat.le_refl _) (by simp) (Kp.alloc _ _) (zOG (rows:=[r]) (by simpa using zJU w e r) (fun q hq=>by simp at hq; subst hq; exact hr) (by simp)))
  simp [execOp,hx,hrun]
end
end Go.Wk
