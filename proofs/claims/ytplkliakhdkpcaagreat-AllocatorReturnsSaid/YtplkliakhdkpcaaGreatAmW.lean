/-
  Lists that are written down.
  Conditions: none: plain theorems over whatever program P.
-/
import Derived.Test.YtplkliakhdkpcaaGreatAmV
set_option linter.unusedVariables false
set_option linter.unusedSimpArgs false
namespace Go.Am
open Go Go.RowKit Go.Wk
theorem zMj {f g:Nat→Option (Nat×Nat)}:∀ {ps:List (Nat×Value)} {cs:Array Value},(∀ q,q∈ps→f q.1=g q.1)→Instr.fill f cs ps=Instr.fill g cs ps
  | [],_,_=>rfl
  | (i,v)::rest,cs,h=>by
    unfold Instr.fill
    rw [h (i,v) (by simp)]
    cases hg:g i with
    | none=>rfl
    | some q =>
      obtain ⟨off,size⟩:=q
      simp only
      split
      · rfl
      · exact zMj (fun q hq=>h q (by simp [hq]))
section
variable {P:Program} {n m:Nat} {e:zCH} {H:zAQ} {x:Operand} {k:Nat} {ops:Array Oper} {rest:List Oper} {kk:zCH→zAQ→Prop} {d ty:Nat} {p:String} {af:Array Edge}
theorem zTD {K:Env→World→Prop} {F:Env} {w:World} {t el sz bytes N:Nat} {z:Value} {parts:Array (Nat×Operand)} {vr:List (List Value)} (hE:zKZ P el sz z bytes) (ht:P.underlying t=some (.slice el)) (hN:0<N) (hs:N*sz≤64)
    (hfill:Instr.fill (fun i=>some (i*sz,sz)) ((Array.range (N*sz)).map (z.cells[· % z.cells.size]!)) (parts.toList.map fun q=>(q.1,ev n F q.2))=some vr.flatten.toArray) (hl:vr.length=N) (hr:∀ r,r∈vr→r.length=sz)
    (hk:∀ b w',w.heap.size≤b→b<w'.heap.size→Kp [] w w'→zJN w' el sz (some b) (.slice (some ⟨b,0,none⟩) N N) vr→LW P n ops rest K (upd F d (.slice (some ⟨b,0,none⟩) N N)) w') :
    LW P n ops (⟨some d,.buildSlice t N parts,ty,p,af,none⟩::rest) K F w:=by
  obtain ⟨i,hi,hz,hsz,hby⟩:=hE.info
  have hpos:=hE.pos
  have hparts:(parts.map fun (i,x)=>(i,ev n F x)).toList=parts.toList.map fun q=>(q.1,ev n F q.2):=by simp
  have hrun:(Instr.buildSlice t N (parts.map fun (i,x)=>(i,ev n F x))).run P w = .ok (.slice (some ⟨w.heap.size,0,none⟩) N N) (w.alloc (.cells vr.flatten.toArray el)):=by
    have h0:¬ (N*sz=0):=by
      intro h
      rcases Nat.mul_eq_zero.1 h with h | h <;> omega
    have hle:¬ (16777216<N*sz):=by omega
    simp only [Instr.buildSlice,hparts]
    simp [run_underlying ht,sizeOf,typeInfo,hi,hz,zeroValue,newRow,hsz,hle]
    rw [if_neg (by omega)]
    simp [hfill]
  refine zLi (w':=w.alloc (.cells vr.flatten.toArray el)) (v := .slice (some ⟨w.heap.size,0,none⟩) N N) ⟨fun d t' p af g => ?_⟩ (hk w.heap.size _ (Nat.le_refl _) (by simp) (Kp.alloc _ _) ?_)
  · simp only [execOp,Sem.run_bind,hrun,Result.andThen_ok]
    rfl
  · have:=zOG (rows:=vr) (zJU w el vr.flatten) hr (by rw [hl]; have:=Nat.le_mul_of_pos_right N hpos; omega)
    rw [hl] at this
    exact this
theorem zNs {w:World} {A:Nat→Prop} {κ:List Value}:∀ {rows:List (List AV)} {us:List Value},VRs w A κ rows.flatten us [] → ∃ vr,us=vr.flatten∧VRr w A κ rows vr []
  | [],us,h=>by
    simp only [List.flatten_nil] at h
    unfold VRs at h
    exact ⟨[],h.1,by unfold VRr; exact ⟨rfl,rfl⟩⟩
  | r::rows,us,h=>by
    simp only [List.flatten_cons] at h
    obtain ⟨v1,v2,f1,f2,rfl,hf,h1,h2⟩:=zFC.1 h
    obtain ⟨rfl,rfl⟩:=List.append_eq_nil_iff.1 hf.symm
    obtain ⟨vr,rfl,h3⟩:=zNs h2
    exact ⟨v1::vr,rfl,by unfold VRr; exact ⟨v1,vr,[],[],rfl,rfl,h1,h3⟩⟩
theorem zOw {w:World} {A:Nat→Prop} {κ:List Value} {sz:Nat}:∀ {rows:List (List AV)} {vr:List (List Value)} {fp:List Nat},VRr w A κ rows vr fp→(rows.all fun r=>Nat.beq r.length sz)=true → ∀ r,r∈vr→r.length=sz
  | [],_,_,h,_=>by unfold VRr at h; rw [h.1]; simp
  | r::rs,_,_,h,hr=>by
    unfold VRr at h
    simp only [List.all_cons,Bool.and_eq_true] at hr
    obtain ⟨u,vs',f1,f2,rfl,rfl,h4,h5⟩:=h
    intro q hq
    rcases List.mem_cons.1 hq with rfl | hq
    · rw [zEY h4]; exact Nat.eq_of_beq_eq_true hr.1
    · exact zOw h5 hr.2 q hq
theorem zQo {w:World} {A:Nat→Prop} {κ κ':List Value}:∀ {rows:List (List AV)} {vr:List (List Value)} {fp:List Nat},(rows.all fun r=>r.all nr)=true→VRr w A κ rows vr fp→VRr w A κ' rows vr fp
  | [],_,_,_,h=>by unfold VRr at *; exact h
  | r::rs,_,_,hn,h=>by
    simp only [List.all_cons,Bool.and_eq_true] at hn
    unfold VRr at *
    obtain ⟨u,vs',f1,f2,h1,h2,h4,h5⟩:=h
    exact ⟨u,vs',f1,f2,h1,h2,zKv hn.1 h4,zQo hn.2 h5⟩
theorem zO0 {t el sz bytes N:Nat} {z:Value} {parts:Array (Nat×Operand)} {pl:List (Nat×Nat)} {zs:List Value} {zc:List AV} {rows:List (List AV)} (hE:zKZ P el sz z bytes) (ht:P.underlying t=some (.slice el)) (hN:Nat.blt 0 N=true) (hs:Nat.ble (N*sz) 64=true)
    (hpl:(parts.toList.all fun q=>decide (pl[q.1]?=some (q.1*sz,sz)))=true) (hzs:(Array.range (N*sz)).map (z.cells[· % z.cells.size]!)=zs.toArray) (hz:zs.all (·.oneCell')=true) (hzc:zFR (zs.map .lit) zc) (hp:zPU n e H pl zc parts.toList rows.flatten)
    (hl:rows.length=N) (hr:(rows.all fun r=>Nat.beq r.length sz)=true) (hnr:(rows.all fun r=>r.all nr)=true)
    (hk:ALW P n m ops rest kk (zHr e d (.hd H.length)) (H++[.vec el sz rows])) :
    ALW P n m ops (⟨some d,.buildSlice t N parts,ty,p,af,none⟩::rest) kk e H:=by
  intro w A0 κ fp F h1 h2
  obtain ⟨us,u1,u2⟩:=zLo h1 h2 hp (hzc.vrs (zLK zs hz))
  obtain ⟨vr,rfl,q1⟩:=zNs u2
  rw [zMj (g:=fun i=>some (i*sz,sz)) (fun q hq=>by
    obtain ⟨q',hq',rfl⟩:=List.mem_map.1 hq
    have:=of_decide_eq_true (List.all_eq_true.1 hpl q' hq')
    simpa using this), ← hzs] at u1
  have hvl:=zE6 q1
  refine zTD hE ht (by simpa [Nat.blt_eq] using hN) (Nat.le_of_ble_eq_true hs) u1 (by rw [hvl,hl]) (zOw q1 hr) ?_
  intro b w' hb1 hb2 hkp hO
  have hs1:=h1.push (e2 := .vec el sz rows) (v2 := .slice (some ⟨b,0,none⟩) N N) (f2:=[b]) (w':=w') (KpS.of hkp (fun q hq=>by cases hq)) (by simp; omega) (by simp)
    (fun mv=>⟨some b,vr,[],hO,VRr.mv (κ':=[]) mv.nil _ _ _ (fun _ hq=>by cases hq) (zQo hnr q1),rfl⟩)
  refine zCW (hk w' A0 _ _ _ hs1.1 ((h2.mv (hs1.2.mv A0)).upd ?_)) (fun _ _=>zAr (hs1.2.m m))
  unfold VR
  exact ⟨by rw [← h1.len,List.getElem?_append_right (Nat.le_refl _)]; simp,rfl⟩
end
end Go.Am
