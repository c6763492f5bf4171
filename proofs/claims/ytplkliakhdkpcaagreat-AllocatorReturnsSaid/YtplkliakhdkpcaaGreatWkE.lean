/-
  The walker's own rules, part E: rows that the call itself owns (made, appended to, written), sets that are maps.
  Conditions: none: plain theorems over whatever program P.
-/
import Derived.Test.YtplkliakhdkpcaaGreatWkF
import Derived.Maps.AppendAt
import Derived.Laws.MakeOwn
set_option linter.unusedVariables false
set_option linter.unusedSimpArgs false
namespace Go.Wk
open Go Go.RowKit
def zJN (w:World) (T sz:Nat) (g:Option Nat) (v:Value) (rows:List (List Value)):Prop :=
  (∀ r,r∈rows→r.length=sz) ∧
  ((g=none∧v = .slice none 0 0∧rows=[]) ∨
   ∃ b cap sp,g=some b∧v = .slice (some ⟨b,0,none⟩) rows.length cap∧rows.length≤cap∧(rows.length≤140737488355328∧cap≤maxLen)∧Blk w b T (rows.flatten++sp)∧(rows.flatten++sp).length=cap*sz)
def zL1 (xs:List Int):List (List Value):=xs.map (fun x=>[Value.int .i64 x])
theorem zJL (xs:List Int):(zL1 xs).length=xs.length:=by simp [zL1]
theorem zKh (xs:List Int):(zL1 xs).flatten=xs.map (Value.int .i64):=by
  induction xs with
  | nil=>rfl
  | cons x xs ih=>simpa [zL1] using ih
theorem zRe {xs:List Int} {r:List Value} (h:r∈zL1 xs):r.length=1:=by
  simp [zL1] at h
  obtain ⟨x,_,rfl⟩:=h
  rfl
theorem zDn {rows:List (List Value)} {sz:Nat} (h:∀ r,r∈rows→r.length=sz):rows.flatten.length=rows.length*sz:=by
  induction rows with
  | nil=>simp
  | cons r rows ih =>
    rw [List.flatten_cons,List.length_append,ih (fun r hr=>h r (by simp [hr])),h r (by simp),List.length_cons,Nat.succ_mul]
    omega
theorem zNb {rows:List (List Value)} {sz:Nat} (h:∀ r,r∈rows→r.length=sz) {i j:Nat} {r:List Value} (hr:rows[i]?=some r) (hj:j<sz):rows.flatten[i*sz+j]?=r[j]?:=by
  induction rows generalizing i with
  | nil=>simp at hr
  | cons a rows ih =>
    rw [List.flatten_cons]
    have ha:a.length=sz:=h a (by simp)
    cases i with
    | zero =>
      simp at hr; subst hr
      rw [Nat.zero_mul,Nat.zero_add,List.getElem?_append_left (by omega)]
    | succ i =>
      rw [List.getElem?_append_right (by rw [ha,Nat.succ_mul]; omega),ha]
      rw [show (i+1)*sz+j - sz=i*sz+j by rw [Nat.succ_mul]; omega]
      exact ih (fun r hr=>h r (by simp [hr])) (by simpa using hr)
theorem zPA {rows:List (List Value)} {sz:Nat} (h:∀ r,r∈rows→r.length=sz) {i j:Nat} {r:List Value} (hr:rows[i]?=some r) (hj:j<sz) (v:Value):(rows.flatten).set (i*sz+j) v=(rows.set i (r.set j v)).flatten:=by
  induction rows generalizing i with
  | nil=>simp at hr
  | cons a rows ih =>
    rw [List.flatten_cons]
    have ha:a.length=sz:=h a (by simp)
    cases i with
    | zero =>
      simp at hr; subst hr
      rw [Nat.zero_mul,Nat.zero_add,List.set_append_left _ _ (by omega)]
      rfl
    | succ i =>
      rw [List.set_append_right _ _ (by rw [ha,Nat.succ_mul]; omega),ha]
      rw [show (i+1)*sz+j - sz=i*sz+j by rw [Nat.succ_mul]; omega]
      rw [ih (fun r hr=>h r (by simp [hr])) (by simpa using hr)]
      rfl
theorem zPa {rows:List (List Value)} {sz:Nat} (h:∀ r,r∈rows→r.length=sz) {i:Nat} {vs:List Value} (hi:i<rows.length) (hv:vs.length=sz):zDF rows.flatten (i*sz) vs=(rows.set i vs).flatten:=by
  induction rows generalizing i with
  | nil=>simp at hi
  | cons a rows ih =>
    have ha:a.length=sz:=h a (by simp)
    cases i with
    | zero=>simp [zDF,hv, ← ha]
    | succ i =>
      have h1:=ih (fun r hr=>h r (by simp [hr])) (i:=i) (by simpa using hi)
      unfold zDF at h1 ⊢
      rw [List.flatten_cons,List.set_cons_succ,List.flatten_cons, ← h1]
      have e:(i+1)*sz=a.length+i*sz:=by rw [ha,Nat.succ_mul]; omega
      rw [e,List.take_length_add_append,Nat.add_assoc,List.drop_length_add_append]
      simp
section
variable {w w':World} {T sz:Nat} {g:Option Nat} {v:Value} {rows:List (List Value)}
theorem zQF (w:World) (T sz:Nat):zJN w T sz none (.slice none 0 0) []:=⟨fun r hr=>by simp at hr,.inl ⟨rfl,rfl,rfl⟩⟩
theorem zQy (h:zJN w T sz g v rows) {b:Nat} (hb:g=some b):b<w.heap.size:=by
  rcases h.2 with ⟨h1,_⟩ | ⟨b',cap,sp,h1,h2,h3,h4,h5,h6⟩
  · rw [h1] at hb; cases hb
  · rw [h1] at hb; cases hb; exact h5.lt
theorem zJ2 (h:zJN w T sz g v rows):∃ a c,v = .slice a rows.length c∧rows.length≤c∧(rows.length≤140737488355328∧c≤maxLen):=by
  rcases h.2 with ⟨_,h2,h3⟩ | ⟨b,cap,sp,h1,h2,h3,h4,h5,h6⟩
  · exact ⟨none,0,by rw [h2,h3]; rfl,by rw [h3]; simp,by rw [h3]; simp,by unfold maxLen; omega⟩
  · exact ⟨_,cap,h2,h3,h4⟩
theorem zLO (h:zJN w T sz g v rows) {i:Nat} (hi:i<rows.length):∃ b cap sp,g=some b∧v = .slice (some ⟨b,0,none⟩) rows.length cap∧rows.length≤cap∧(rows.length≤140737488355328∧cap≤maxLen)∧Blk w b T (rows.flatten++sp)∧(rows.flatten++sp).length=cap*sz:=by
  rcases h.2 with ⟨_,h2,h3⟩ | h
  · rw [h3] at hi; simp at hi
  · exact h
theorem zQZ (h:zJN w T sz g v rows) {i:Nat} {r:List Value} (hr:rows[i]?=some r) {b:Nat} (hb:g=some b):Cells w b (i*sz) r:=by
  obtain ⟨b',cap,sp,h1,h2,h3,h4,h5,h6⟩:=zLO h (zAS hr)
  rw [h1] at hb; cases hb
  intro j u hu
  have hl:r.length=sz:=h.1 r (List.mem_of_getElem? hr)
  have hj:j<sz:=by have:=zAS hu; omega
  have:=h5.cells (i*sz+j) u ?_
  · rw [Nat.zero_add] at this; exact this
  · have hf:=zDn h.1
    have hi:=zAS hr
    have hb:i*sz+j<rows.flatten.length:=by
      rw [hf]
      have:(i+1)*sz≤rows.length*sz:=Nat.mul_le_mul_right _ hi
      rw [Nat.succ_mul] at this
      omega
    rw [List.getElem?_append_left hb,zNb h.1 hr hj]
    exact hu
theorem zOG {b:Nat} (h:Blk w b T rows.flatten) (hr:∀ r,r∈rows→r.length=sz) (hn:rows.length≤140737488355328):zJN w T sz (some b) (.slice (some ⟨b,0,none⟩) rows.length rows.length) rows :=
  ⟨hr,.inr ⟨b,rows.length,[],rfl,rfl,Nat.le_refl _,⟨hn,by unfold maxLen; omega⟩,by simpa using h,by rw [List.append_nil,zDn hr]⟩⟩
end
section
variable {P:Program} {w:World} {T sz:Nat} {g:Option Nat} {v:Value} {rows:List (List Value)}
theorem zOU {base:Nat} (h:zJN w T sz g v rows) (hb:∀ b,g=some b→base≤b):w.ownsRow base T sz v rows.length rows.flatten:=by
  refine ⟨zDn h.1,?_⟩
  rcases h.2 with ⟨h1,h2,h3⟩ | ⟨b,cap,sp,h1,h2,h3,h4,h5,h6⟩
  · exact .inl ⟨h2,by rw [h3]; rfl⟩
  · refine .inr ⟨b,cap,(rows.flatten++sp).toArray,h2,hb b h1,h5,h3,h4.2,by simpa using h6,?_⟩
    have:=zDn h.1
    simp [← this]
theorem zOV {base n:Nat} {xs:List Value} {rows':List (List Value)} (h:w.ownsRow base T sz v n xs) (hx:rows'.flatten=xs) (hn:rows'.length=n) (hr:∀ r,r∈rows'→r.length=sz) (hc:n≤140737488355328):zJN w T sz v.ownBlock v rows':=by
  refine ⟨hr,?_⟩
  rcases h.2 with ⟨rfl,h2⟩ | ⟨b,cap,cur,rfl,hb,hh,h3,h4,h5,h6⟩
  · refine .inl ⟨rfl,rfl,?_⟩
    rw [h2] at hn
    exact List.length_eq_zero_iff.1 hn
  · refine .inr ⟨b,cap,cur.toList.drop (n*sz),rfl,by rw [hn],by omega,⟨by omega,h4⟩,?_,?_⟩
    · unfold Blk
      rw [hx, ← h6,List.take_append_drop]
      simpa using hh
    · rw [hx, ← h6,List.take_append_drop]
      simpa using h5
theorem zNj {t ty e:TypeId} {i:TypeInfo} {z:Value} {bytes:Nat} (ht:P.underlying t=some (.slice e)) (hi:P.info? e=some i) (hz:i.zero=some z) (hsize:i.size=sz) (hby:i.bytes=bytes) (hzs:z.cells.size=sz) (hsz:0<sz)
    (hown:zJN w e sz g v rows) {a:Option Addr} {m c:Nat} {ns:List (List Value)} (hm:ns.length=m) (hns:∀ r,r∈ns→r.length=sz) (h1:∀ r,r∈ns → ∀ u,u∈r→u.oneCell'=true)
    (hsrc:m=0 ∨ ∃ b o,a=some ⟨b,o,none⟩∧Cells w b o ns.flatten) (hbd:(rows.length+m)*bytes≤4294967296) (hb1:1≤bytes) :
    ∃ v' g' w',(Builtin.append_ #[t,t] ty #[v,.slice a m c]).run P w = .ok v' w'∧zJN w' e sz g' v' (rows++ns)∧Kp g.toList w w'∧(g'=g ∨ ∃ b,g'=some b∧w.heap.size≤b):=by
  have hlen:ns.flatten.length=m*sz:=by rw [zDn hns,hm]
  have hbb:rows.length+m≤4294967296:=by
    have:(rows.length+m)*1≤(rows.length+m)*bytes:=Nat.mul_le_mul_left _ hb1
    omega
  have hone:∀ u,u∈ns.flatten→u.oneCell'=true:=fun u hu=>by
    obtain ⟨r,hr,hu⟩:=List.mem_flatten.1 hu
    exact h1 r hr u hu
  have hob:∀ b,g=some b→v.ownBlock=some b:=fun b hb=>by
    rcases hown.2 with ⟨h,_⟩ | ⟨b',cap,sp,h1',h2',_⟩
    · rw [h] at hb; cases hb
    · rw [h1'] at hb; cases hb; rw [h2']; rfl
  have hon:g=none→v = .slice none 0 0∧rows=[]:=fun hg=>by
    rcases hown.2 with ⟨_,h2,h3⟩ | ⟨b',cap,sp,h1',_⟩
    · exact ⟨h2,h3⟩
    · rw [h1'] at hg; cases hg
  have hgO:v.ownBlock=g:=by
    cases g with
    | none=>rw [(hon rfl).1]; rfl
    | some b=>exact hob b rfl
  rcases Nat.eq_zero_or_pos m with h0 | h0
  ·
    have hnil:ns=[]:=List.length_eq_zero_iff.1 (by omega)
    subst hnil
    refine ⟨v,g,w,?_,by rw [List.append_nil]; exact hown,Kp.refl _ _,.inl rfl⟩
    subst h0
    obtain ⟨a',c',hv,hc1,hc2⟩:=zJ2 hown
    have hfc:∀ x:Option Addr,(Builtin.firstCells i.size 0 (.slice x 0 c)).run P w = .ok #[] w:=fun x=>by
      cases x with
      | none=>simp [Builtin.firstCells]
      | some x=>simp [Builtin.firstCells,loadCells,loadCellsFrom]
    subst hv
    have hfa:=hfc a
    cases a' with
    | none=>simp [Builtin.append_,run_underlying ht,sizeOf,typeInfo,hi,Builtin.lenOf,hc1,hfa]
    | some x=>simp [Builtin.append_,run_underlying ht,sizeOf,typeInfo,hi,Builtin.lenOf,hc1,hfa,storeCells]
  · rcases hsrc with h | ⟨b,o,rfl,hcell⟩
    · omega
    · obtain ⟨v',w',hrun,how,hgr,_,hbl⟩:=run_append_own_at (P:=P) w 0 t ty e i z sz bytes ht hi hz hsize hby hzs hsz v rows.length rows.flatten (zOU hown (fun _ _=>Nat.zero_le _)) ⟨b,o,none⟩ m c ns.flatten hlen
        (fun j u hu=>by rw [Addr.add_lit]; exact hcell j u hu) hone (by unfold maxLen; omega) (by omega) (Nat.zero_le _)
      refine ⟨v',v'.ownBlock,w',hrun,zOV how (by rw [List.flatten_append]) (by rw [List.length_append,hm]) (fun r hr=>by
        rcases List.mem_append.1 hr with h | h
        · exact hown.1 r h
        · exact hns r h) (by omega),?_,?_⟩
      · refine ⟨hgr.os,hgr.tape,hgr.output,hgr.size,fun b hb hn=>hgr.block b hb ?_⟩
        rw [hgO]
        cases g with
        | none=>simp
        | some y=>simp at hn; intro e; cases e; exact hn rfl
      · rcases hbl with h | h
        · exact .inl (by rw [h,hgO])
        · exact .inr ⟨_,h,Nat.le_refl _⟩
end
end Go.Wk
