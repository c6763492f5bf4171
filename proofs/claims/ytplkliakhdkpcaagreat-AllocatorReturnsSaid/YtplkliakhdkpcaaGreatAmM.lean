/-
  Struct literals, functions as values, calls under two guards, own lists in variables.
  Conditions: none: plain theorems over whatever program P.
-/
import Derived.Test.YtplkliakhdkpcaaGreatAmL
set_option linter.unusedVariables false
set_option linter.unusedSimpArgs false
namespace Go.Am
open Go Go.RowKit Go.Wk
theorem zAJ {α:Type} {a b:α} {l l':List α} (h:a=b) (k:l=l'):a::l=b::l':=by rw [h,k]
theorem zL3:∀ (l:List Value) (k off:Nat) (cs:List Value),off+k+l.length≤cs.length→(l.zipIdx k).foldl (fun (cs:Array Value) (x:Value×Nat)=>cs.setIfInBounds (off+x.2) x.1) cs.toArray=(zDF cs (off+k) l).toArray
  | [],k,off,cs,_=>by simp [zME]
  | v::l,k,off,cs,h=>by
    simp only [List.length_cons] at h
    simp only [List.zipIdx_cons,List.foldl_cons]
    rw [zLG (by simp; omega)]
    have:=zL3 l (k+1) off (cs.set (off+k) v) (by simp; omega)
    rw [← Nat.add_assoc] at this
    rw [← this]
    simp
theorem zQU {place:Nat→Option (Nat×Nat)} {cells:List Value} {i off sz:Nat} {v:Value} {r:List Value} {rest:List (Nat×Value)} (hp:place i=some (off,sz)) (hv:v.cells=r.toArray) (hl:r.length=sz) (hb:off+sz≤cells.length) :
    Instr.fill place cells.toArray ((i,v)::rest)=Instr.fill place (zDF cells off r).toArray rest:=by
  have h1:=zL3 r 0 off cells (by omega)
  rw [Nat.add_zero] at h1
  rw [Instr.fill,hp]
  have h2:¬ (cells.length<off+sz):=by omega
  have h3:(r.zipIdx.foldl (fun (cs:Array Value) (x:Value×Nat)=>cs.setIfInBounds (off+x.2) x.1) cells.toArray)=(zDF cells off r).toArray:=by simpa using h1
  simp [hv,hl,h2,h3]
section
variable {P:Program} {n m:Nat} {e e':zCH} {H G:zAQ} {x y:Operand} {k j o:Nat} {t ty:TypeId} {ops:Array Oper} {rest:List Oper} {kk:zCH→zAQ→Prop} {d tt:Nat} {p:String} {af:Array Edge}
def zPU (n:Nat) (e:zCH) (H:zAQ) (pl:List (Nat×Nat)):List AV→List (Nat×Operand)→List AV→Prop
  | cells,[],res=>zFR cells res
  | cells,(i,x)::rest,res => ∃ (a:AV) (off sz:Nat),pl[i]?=some (off,sz)∧aev n e x=a∧((match a with | .agg _=>true | _=>zQO H a)=true)∧(zJM a).length=sz∧Nat.ble (off+sz) cells.length=true∧zPU n e H pl (zMw cells off (zJM a)) rest res
theorem zRl {w:World} {A0:Nat→Prop} {κ:List Value} {fp:Nat→List Nat} (h1:SH w A0 H κ fp) {a:AV} {v:Value} (h:(match a with | .agg _=>true | _=>zQO H a)=true) (hv:VR w (avd A0 fp) κ a v []):∃ r,v.cells=r.toArray∧VRs w (avd A0 fp) κ (zJM a) r []:=by
  have one:zQO H a=true→zJM a=[a] → ∃ r,v.cells=r.toArray∧VRs w (avd A0 fp) κ (zJM a) r []:=by
    intro h hc
    have h2:=zTE h1 h hv
    refine ⟨[v],zJR h2,?_⟩
    rw [hc]
    unfold VRs
    exact ⟨v,[],[],[],rfl,rfl,h2,hv,by unfold VRs; exact ⟨rfl,rfl⟩⟩
  cases a with
  | agg cs =>
    unfold VR at hv
    obtain ⟨vs,rfl,hv⟩:=hv
    exact ⟨vs,rfl,hv⟩
  | _=>exact one h rfl
theorem zP7 {w:World} {A:Nat→Prop} {κ:List Value} {cs la:List AV} {vs rs:List Value} {off:Nat} (h:VRs w A κ cs vs []) (k:VRs w A κ la rs []) (hb:off+la.length≤cs.length):VRs w A κ (zMw cs off la) (zDF vs off rs) []:=by
  obtain ⟨v1,v,v2,f1,f2,f3,rfl,hl,hlm,hfp,q1,q2,q3⟩:=zKN h hb
  obtain ⟨rfl,rfl,rfl⟩:=zUK hfp
  rw [zL8 hl (by rw [zEY k]; exact hlm)]
  exact zFC.2 ⟨v1,rs++v2,[],[],rfl,rfl,q1,zFC.2 ⟨rs,v2,[],[],rfl,rfl,k,q3⟩⟩
theorem zLo {w:World} {A0:Nat→Prop} {κ:List Value} {fp:Nat→List Nat} {F:Env} (h1:SH w A0 H κ fp) (h2:zJz w (avd A0 fp) κ n e F) {pl:List (Nat×Nat)}:∀ {ps:List (Nat×Operand)} {cells res:List AV} {vs:List Value},zPU n e H pl cells ps res→VRs w (avd A0 fp) κ cells vs [] →
    ∃ us,Instr.fill (pl.toArray[·]?) vs.toArray (ps.map fun q=>(q.1,ev n F q.2))=some us.toArray∧VRs w (avd A0 fp) κ res us []
  | [],cells,res,vs,hB,hv=>⟨vs,rfl,hB.vrs hv⟩
  | (i,x)::rest,cells,res,vs,hB,hv=>by
    obtain ⟨a,off,sz,g1,g2,g3,g4,g5,g6⟩:=hB
    have hx:=h2.ev x
    rw [g2] at hx
    obtain ⟨r,r1,r2⟩:=zRl h1 g3 hx
    have hle:=Nat.le_of_ble_eq_true g5
    obtain ⟨us,u1,u2⟩:=zLo h1 h2 g6 (zP7 hv r2 (by omega))
    refine ⟨us,?_,u2⟩
    simp only [List.map_cons]
    rw [zQU (off:=off) (sz:=sz) (by simpa using g1) r1 (by rw [zEY r2,g4]) (by rw [zEY hv]; exact hle)]
    exact u1
theorem z8 {parts:Array (Nat×Operand)} {pl:List (Nat×Nat)} {zs:List Value} {zc res:List AV} (hB:∀ ps,P.built ty ps=Instr.fill (pl.toArray[·]?) zs.toArray ps) (hz:zs.all (·.oneCell')=true) (hzc:zFR (zs.map .lit) zc) (hp:zPU n e H pl zc parts.toList res):zt P n e H (.build ty parts) (.agg res):=by
  intro w A0 κ fp F h1 h2
  obtain ⟨us,u1,u2⟩:=zLo h1 h2 hp (hzc.vrs (zLK zs hz))
  refine ⟨.agg us.toArray,?_,by unfold VR; exact ⟨us,rfl,u2⟩⟩
  refine ⟨fun d t' p af g => ?_⟩
  have hr:=run_build (P:=P) w ty (parts.map fun (i,x)=>(i,ev n F x)) us.toArray (by
    rw [hB]
    have:(parts.map fun (i,x)=>(i,ev n F x)).toList=parts.toList.map fun q=>(q.1,ev n F q.2):=by simp
    rw [this]
    exact u1)
  simp only [execOp,Sem.run_bind,hr,Result.andThen_ok]
  rfl
theorem zKg {f:FuncId} {cs:Array Operand} {la:List AV} (h:cs.toList.map (aev n e)=la):zt P n e H (.makeFunc (.func f) #[] cs) (.clo f la):=by
  intro w A0 κ fp F h1 h2
  refine ⟨.func (.func f) #[] (cs.toList.map (ev n F)).toArray,?_,?_⟩
  · refine ⟨fun d t p af g => ?_⟩
    simp [execOp,Instr.makeFunc,zOZ]
  · unfold VR
    refine ⟨cs.toList.map (ev n F),rfl,?_⟩
    rw [← h]
    exact zNa h2 _
theorem zLv {xs : Array Operand} {tys : Array TypeId} {r' : AV} {jj g : Nat} {s s' : Bool} (hj : (ops[jj]?).bind (·.dst) = some g) (hg : aev n e (.tmp g) = bif s' then .lit (.bool s) else .lit undef) (hcall : (s' && s) = true → ∃ (f : FuncId) (fn : Func) (code : Code) (caps la la' : List AV) (r : AV) (S : List Nat), P.funcs[f]? = some fn ∧ fn.body = some code ∧ (fn.name == "runtime.NumGoroutine") = false ∧ zHq n e x f caps ∧ xs.toList.map (aev n e) ++ caps = la ∧ zDh H S la la' ∧ PFn P f la' r ∧ okS S r ∧ frz r = r')
    (hk:ALW P n m ops rest kk (zHr e d (bif (s'&&s) then r' else .lit undef)) H):ALW P n m ops (⟨some d,.call { callee := .value x,args:=xs,argTypes:=tys },tt,p,af,some (jj,true)⟩::rest) kk e H:=by
  cases hs:s' with
  | true=>rw [hs] at hg hk hcall; exact zCl hj hg (by simpa using hcall) (by simpa using hk)
  | false =>
    rw [hs] at hg hk
    intro w A0 κ fp F h1 h2
    exact zNA hj (fun ⟨b,hb⟩=>by rw [zAg h2 hg] at hb; cases hb) (hk w A0 κ fp _ h1 (h2.upd (zHS _ _ _ _)))
theorem zOL {xs : Array Operand} {tys : Array TypeId} {r' : AV} {jj g : Nat} {s s' : Bool} (hj : (ops[jj]?).bind (·.dst) = some g) (hg : aev n e (.tmp g) = bif s' then .lit (.bool s) else .lit undef) (hcall : (s' && !s) = true → ∃ (f : FuncId) (fn : Func) (code : Code) (caps la la' : List AV) (r : AV) (S : List Nat), P.funcs[f]? = some fn ∧ fn.body = some code ∧ (fn.name == "runtime.NumGoroutine") = false ∧ zHq n e x f caps ∧ xs.toList.map (aev n e) ++ caps = la ∧ zDh H S la la' ∧ PFn P f la' r ∧ okS S r ∧ frz r = r')
    (hk:ALW P n m ops rest kk (zHr e d (bif (s' && !s) then r' else .lit undef)) H):ALW P n m ops (⟨some d,.call { callee := .value x,args:=xs,argTypes:=tys },tt,p,af,some (jj,false)⟩::rest) kk e H:=by
  cases hs:s' with
  | true=>rw [hs] at hg hk hcall; exact zBf hj hg (by simpa using hcall) (by simpa using hk)
  | false =>
    rw [hs] at hg hk
    intro w A0 κ fp F h1 h2
    exact zNA hj (fun ⟨b,hb⟩=>by rw [zAg h2 hg] at hb; cases hb) (hk w A0 κ fp _ h1 (h2.upd (zHS _ _ _ _)))
theorem zBV {cs:List AV} {t' sz:Nat} {rows rows':List (List AV)} (hk:H[k]?=some (.box t cs)) (hc:cs[o]?=some (.osl t' sz rows)) (hr:zO1 rows=rows'):Rep n m e H e (H.set k (.box t (cs.set o (.sl false rows')))):=by
  intro w A0 κ fp F h1 h2
  have hkl:k<κ.length:=by rw [h1.len]; exact zAS hk
  have hκ:=List.getElem?_eq_getElem hkl
  obtain ⟨b,vs,f',hv,hb,hvs,hfp⟩:=h1.ent k _ _ hk hκ
  obtain ⟨v1,v,v2,f1,f2,f3,rfl,hl,rfl,ho,q1,q2,q3⟩:=zJA hvs hc
  have hnd:=h1.nd k
  rw [hfp] at hnd
  have hsub:(b::(f1++([]++f3))).Sublist (b::(f1++(f2++f3))):=(zJF (List.nil_sublist _)).cons_cons b
  have hs:=h1.set1 (w':=w) (k:=k) (e1 := .box t (cs.set o (.sl false rows'))) (f1:=b::(f1++([]++f3))) (zAS hk) (KpS.refl _ _) (fun x hx => .inl (by rw [hfp]; exact hsub.mem hx)) (hnd.sublist hsub) (fun v' hv' mv=>by
    rw [hκ] at hv'
    cases hv'
    refine ⟨b,v1++v::v2,_,hv,hb,?_,rfl⟩
    rw [zIK _ (zAS hc)]
    refine zK0 (VRs.mv mv _ _ _ (fun _ _=>rfl) q1) ?_ ho (VRs.mv mv _ _ _ (fun _ _=>rfl) q3)
    have:=VR.frz (fun q hq=>(mv.av q hq).elim id (fun h=>absurd h (by
      rcases hq with hq | ⟨i,hq⟩
      · exact Nat.not_le.2 (h1.old q hq)
      · unfold zEv at hq
        split at hq
        · exact Nat.not_le.2 (h1.lt k q (by rw [hfp]; exact hsub.mem hq))
        · exact Nat.not_le.2 (h1.lt i q hq)))) _ _ _ (fun q hq hA=>by
      rcases hA with hA | ⟨i,hA⟩
      · exact h1.na k q (by rw [hfp]; simp [hq]) hA
      · unfold zEv at hA
        split at hA
        · simp only [List.nodup_cons,List.nodup_append,List.mem_append,List.mem_cons,List.nil_append] at hnd hA
          rcases hA with rfl | hA | hA
          · exact hnd.1 (.inr (.inl hq))
          · exact hnd.2.2.2 q hA q (.inl hq) rfl
          · exact hnd.2.2.1.2.2 q hq q hA rfl
        · rename_i hne; exact hne (h1.dj i k q hA (by rw [hfp]; simp [hq]))) q2
    unfold Go.Am.frz at this
    rw [hr] at this
    exact this)
  exact ⟨_,_,hs.1,h2.mv (hs.2.mv A0),hs.2.m m⟩
end
end Go.Am
