/-
  Rules, functions and laws for the last text, part b.
-/
import Derived.Test.YtfjeeggbdncodaaGreatGa
import Derived.Deep.AppendSrc
set_option linter.unusedVariables false
set_option linter.unusedSimpArgs false
set_option linter.constructorNameAsVariable false
namespace Go.Ls
open Go Go.Hm
def Mv (S:SS) (h:St) (E:En) {R:Type} (K:SV→SS→Option R) (r:R) (o:Option Rs):Prop := ∃ s v h' S' E',o=some (.val v h')∧Mem S' h' E'∧Gr S h E S' h' E'∧S'.env=S.env∧h'.env=h.env∧V E' s v∧K s S'=some r
def Ma (S:SS) (h:St) (E:En) {R:Type} (K:SS→Option R) (r:R) (o:Option Rs):Prop := ∃ h' S' E',o=some (.act h')∧Mem S' h' E'∧Gr S h E S' h' E'∧S'.env=S.env∧h'.env=h.env∧K S'=some r
section
variable {E:En} {S:SS} {h:St} {cy:Cy} {R:Type} {r:R} {K:SV→SS→Option R}
theorem Pu.mv (M:Mem S h E) {o:Option Rs} (p:Pu E h (fun v=>K v S) r o):Mv S h E K r o:=by
  obtain ⟨s,v,h1,h2,h3⟩:=p
  exact ⟨s,v,h,S,E,h1,M,Gr.refl,rfl,rfl,h2,h3⟩
theorem mb_new {hp':Tr Hm.Obj} {n:Nat} {o:Option Nat} {st:Tr Ent}:(mvE E hp' n o st).mb n=o:=by
  show (bif Nat.beq n n then o else E.mb n)=_
  rw [show Nat.beq n n=true by simp]; rfl
theorem new_fr (M:Mem S h E) {X:Hm.Obj} (b:Nat) (hb:h.nx+1≤b):(h.hp.set h.nx X).get b=none:=by
  rw [Tr.get_set,if_neg (by omega)]
  exact M.fr b (by omega)
theorem new_keep {X:Hm.Obj} (b:Nat) (hb:b<h.nx):(h.hp.set h.nx X).get b=h.hp.get b:=by
  rw [Tr.get_set,if_neg (by omega)]
theorem new_box (M:Mem S h E) {l:List SV} {c:List HV} {z:Nat} (hc:CRs E l c):∃ E',Mem (S.new (.box z l)) (h.new z c).2 E'∧Gr S h E (S.new (.box z l)) (h.new z c).2 E'∧E'.mb S.nx=some h.nx∧E'.nx=S.nx+1:=by
  have:=adopt_rel (st1:=S.st) (hp':=h.hp.set h.nx (.blk ⟨true,z,c.length,scatter .e 0 c⟩)) (nx':=h.nx+1) (o:=some h.nx) (e := .box z l) M (fun _ _ h=>h) (fun j h1 h2=>absurd h2 h1) (fun b hb => .inl (new_keep b hb)) (Nat.le_succ _) (fun b hb=>new_fr M b hb) (fun b hb=>by cases hb; exact ⟨Nat.lt_succ_self _,.inl (Nat.le_refl _)⟩) (fun _ g2=>⟨h.nx,_,c,mb_new,Tr.get_set_same _ _ _,rfl,rfl,by
    have:=gather_new (T:=(.e:Tr HV)) (w:=true) (z:=z) (n:=c.length) (p:=0) (c:=c) (by omega)
    exact this,g2 _ _ hc⟩)
  exact ⟨_,this.1,this.2,mb_new,rfl⟩
theorem new_row (M:Mem S h E) {e:U} {xs:List (D e)} {c:List HV} (hl:xs.length≤140737488355328) (hn:xs.length*e.size≤c.length) (hc:∀ i x,xs[i]?=some x → ∃ cs,gather ⟨true,e.size,c.length,scatter .e 0 c⟩ (i*e.size) e.size=some cs∧RdC E.hp E.Z e cs x):∃ E',Mem (S.new (.row e xs)) (h.new e.size c).2 E'∧Gr S h E (S.new (.row e xs)) (h.new e.size c).2 E'∧E'.mb S.nx=some h.nx∧E'.nx=S.nx+1∧E'.st.get S.nx=some (.row e xs):=by
  have:=adopt_rel (st1:=S.st) (hp':=h.hp.set h.nx (.blk ⟨true,e.size,c.length,scatter .e 0 c⟩)) (nx':=h.nx+1) (o:=some h.nx) (e := .row e xs) M (fun _ _ h=>h) (fun j h1 h2=>absurd h2 h1) (fun b hb => .inl (new_keep b hb)) (Nat.le_succ _) (fun b hb=>new_fr M b hb) (fun b hb=>by cases hb; exact ⟨Nat.lt_succ_self _,.inl (Nat.le_refl _)⟩) (fun g1 _=>⟨hl,by
    rw [mb_new]
    exact ⟨_,Tr.get_set_same _ _ _,rfl,rfl,hn,fun i x hx=>by
      obtain ⟨cs,k1,k2⟩:=hc i x hx
      exact ⟨cs,k1,g1 _ _ _ k2⟩⟩⟩)
  exact ⟨_,this.1,this.2,mb_new,rfl,Tr.get_set_same _ _ _⟩
theorem allocS_rel (M:Mem S h E) {t:Nat} {l:List SV} (hz:zeroI cy.cx t=some l) (hk:K (.box S.nx 0) (S.new (.box 0 l))=some r):Mv S h E K r (doAlloc cy.cx h t):=by
  unfold zeroI at hz
  split at hz
  · rename_i x hx
    split at hz
    · rename_i z hxz
      split at hz
      · rename_i c hc
        cases hz
        obtain ⟨E',g1,g2,g3,g4⟩:=new_box (z:=0) M (ofHVs_rel c)
        refine ⟨_,.ptr h.nx 0,_,_,E',?_,g1,g2,rfl,rfl,V_box.2 ⟨by rw [g4]; exact Nat.lt_succ_self _,h.nx,g3,rfl⟩,hk⟩
        unfold doAlloc
        rw [hx]; simp only; rw [hxz]; simp only; rw [hc]
      · cases hz
    · cases hz
  · cases hz
theorem boxS_rel (M:Mem S h E) {s:SV} {v:HV} {l:List SV} (hl:s.items=some l) (hv:V E s v) (hk:K (.box S.nx 0) (S.new (.box 0 l))=some r):Mv S h E K r (doBox h v):=by
  obtain ⟨c,h1,h2,_,_⟩:=items_rel hl hv
  obtain ⟨E',g1,g2,g3,g4⟩:=new_box (z:=0) M h2
  refine ⟨_,.ptr h.nx 0,_,_,E',?_,g1,g2,rfl,rfl,V_box.2 ⟨by rw [g4]; exact Nat.lt_succ_self _,h.nx,g3,rfl⟩,hk⟩
  unfold doBox
  rw [h1]
theorem repI_rel {l:List SV} {c:List HV} (hc:CRs E l c):∀ n,CRs E (repI l n) (repl c n)
  | 0=>by unfold repI repl CRs; rfl
  | n+1=>by
    unfold repI repl
    exact CRs_app.2 ⟨c,repl c n,rfl,hc,repI_rel hc n⟩
theorem buildSliceS_rel (M:Mem S h E) {t n:Nat} {ps:List (Nat×SV)} {qs:List (Nat×HV)} (hk:buildSliceS cy S t n ps K=some r) (hp:PV E ps qs):Mv S h E K r (doBuildSlice cy.cx h t n qs):=by
  unfold buildSliceS at hk
  split at hk
  · rename_i y hy
    rw [bif_eq] at hk
    split at hk
    · rename_i hcond
      split at hk
      · rename_i l hl
        obtain ⟨c,h1,h2⟩:=fillI_rel hl hp (repI_rel (ofHVs_rel y.zc) n)
        obtain ⟨E',g1,g2,g3,g4⟩:=new_box (z:=y.z) M h2
        refine ⟨_,.sl h.nx 0 n,_,_,E',?_,g1,g2,rfl,rfl,V_bsl.2 ⟨by rw [g4]; exact Nat.lt_succ_self _,h.nx,g3,rfl,?_⟩,hk⟩
        · unfold doBuildSlice
          rw [hy]; simp only; rw [hcond,h1]; rfl
        · simp only [Bool.and_eq_true,Nat.ble_eq] at hcond
          exact hcond.1
      · cases hk
    · cases hk
  · cases hk
theorem elem_len {cx:Cx} {e:Nat} {y:El} (h:cx.elem e=some y):y.zc.length=y.z∧cx.size e=some y.z∧1≤y.by_:=by
  unfold Cx.elem at h
  split at h
  · rename_i x hx
    split at h
    · split at h
      · rw [bif_eq] at h
        split at h
        · rename_i hc
          simp only [Bool.and_eq_true,Nat.ble_eq] at hc
          cases h
          exact ⟨Nat.eq_of_beq_eq_true hc.2.2,by unfold Cx.size; rw [hx],hc.2.1⟩
        · cases h
      · cases h
    · cases h
  · cases h
theorem sliceEl_len {cx:Cx} {t:Nat} {y:El} (h:cx.sliceEl t=some y):y.zc.length=y.z∧1≤y.by_:=by
  unfold Cx.sliceEl at h
  split at h
  · split at h
    · have:=elem_len h; exact ⟨this.1,this.2.2⟩
    · cases h
  · cases h
theorem elU_size {t:Nat} {y:El} {u:U} (hy:cy.cx.sliceEl t=some y) (hu:elU cy t=some u):y.z=u.size:=by
  unfold Cx.sliceEl at hy
  unfold elU at hu
  split at hy
  · rename_i x hx
    rw [hx] at hu
    simp only at hu
    split at hy
    · rename_i e he
      rw [he] at hu
      simp only at hu
      split at hu
      · rename_i u' _
        rw [(elem_len hy).2.1] at hu
        simp only at hu
        rw [bif_eq] at hu
        split at hu
        · rename_i hq
          cases hu
          exact (Nat.eq_of_beq_eq_true hq).symm
        · cases hu
      · cases hu
    · cases hy
  · cases hy
theorem rows_ofHVs:∀ c:List HV,rowsT (ofHVs c)=[]
  | []=>by unfold ofHVs; exact rowsT_nil
  | v::c=>by
    unfold ofHVs
    rw [rowsT_cons,rows_ofHVs c,List.append_nil]
    cases v <;> (unfold cell1 rows1; rfl)
theorem rep_RdA {α:Type} {Q:List HV→α→Prop} {c:List HV} {x:α} (h:Q c x):∀ n,RdA Q (repl c n) (List.replicate n x)
  | 0=>rfl
  | n+1=>by
    rw [List.replicate_succ]
    exact ⟨c,repl c n,rfl,h,rep_RdA h n⟩
theorem repl_length (l:List HV):∀ k,(repl l k).length=k*l.length
  | 0=>by simp [repl]
  | k+1=>by
    unfold repl
    rw [List.length_append,repl_length l k,Nat.succ_mul]; omega
theorem room_le {n b:Nat} (h:roomOk n b=true) (hb:1≤b):n≤140737488355328:=by
  unfold roomOk at h
  simp only [Nat.ble_eq] at h
  have h:n*b≤4294967296:=h
  have:n*1≤n*b:=Nat.mul_le_mul_left n hb
  omega
theorem rowsOf_some {u e:U} (h:rowsOf u=some e):u = .list e:=by
  unfold rowsOf at h
  split at h
  · cases h; rfl
  · cases h
theorem repl_get (v:HV):∀ (k i:Nat),i<k→(repl [v] k)[i]?=some v
  | 0,i,h=>by omega
  | k+1,i,h=>by
    unfold repl
    cases i with
    | zero=>rfl
    | succ i=>exact repl_get v k i (by omega)
theorem new_rows (M:Mem S h E) {e:U} {m k:Nat} (hm:m≤k) (hl:m≤140737488355328):∃ E',Mem (S.new (.rows S.nx e (List.replicate m ([]:List (D e))))) (h.new 1 (repl [.nils] k)).2 E'∧Gr S h E (S.new (.rows S.nx e (List.replicate m []))) (h.new 1 (repl [.nils] k)).2 E'∧E'.mb S.nx=some h.nx∧E'.nx=S.nx+1∧E'.st.get S.nx=some (.rows S.nx e (List.replicate m ([]:List (D e)))):=by
  have hk:(repl [HV.nils] k).length=k:=by rw [repl_length]; simp
  have:=adopt_rel (st1:=S.st) (hp':=h.hp.set h.nx (.blk ⟨true,1,(repl [HV.nils] k).length,scatter .e 0 (repl [.nils] k)⟩)) (nx':=h.nx+1) (o:=some h.nx) (e := .rows S.nx e (List.replicate m ([]:List (D e)))) M (fun _ _ h=>h) (fun j h1 h2=>absurd h2 h1) (fun b hb => .inl (new_keep b hb)) (Nat.le_succ _) (fun b hb=>new_fr M b hb) (fun b hb=>by cases hb; exact ⟨Nat.lt_succ_self _,.inl (Nat.le_refl _)⟩) (fun g1 _=>by
    have hib:∀ i,(mvE E (h.hp.set h.nx (.blk ⟨true,1,(repl [HV.nils] k).length,scatter .e 0 (repl [.nils] k)⟩)) S.nx (some h.nx) (S.st.set S.nx (.rows S.nx e (List.replicate m ([]:List (D e)))))).ib S.nx i=none:=fun i=>by
      show (bif Nat.beq S.nx S.nx then none else E.ib S.nx i)=_
      rw [show Nat.beq S.nx S.nx=true by simp]; rfl
    refine ⟨Nat.lt_succ_self _,by rw [List.length_replicate]; exact hl,h.nx,_,mb_new,Tr.get_set_same _ _ _,rfl,rfl,by rw [List.length_replicate]; show m≤(repl [HV.nils] k).length; omega,fun i l hi => ?_,fun i _=>hib i,fun i j c h1=>(by rw [hib] at h1; cases h1),fun i=>(by rw [hib]; simp)⟩
    have him:i<m:=by
      have:=(List.getElem?_eq_some_iff.1 hi).1
      simpa using this
    rw [List.getElem?_replicate,if_pos him] at hi
    cases hi
    refine ⟨by simp,⟨.nils,?_,?_⟩,?_⟩
    · rw [gather_char]
      refine ⟨rfl,fun q hq => ?_⟩
      have hq0:q=0:=by omega
      subst hq0
      refine ⟨by show i+0<(repl [HV.nils] k).length; omega,?_⟩
      show (scatter .e 0 (repl [HV.nils] k)).get (i+0)=_
      rw [scatter_get,if_pos (by omega),show i+0 - 0=i by omega,repl_get _ _ _ (by omega)]
      rfl
    · rw [hib]; exact ⟨rfl,.inl rfl⟩
    · rw [hib]; rfl)
  exact ⟨_,this.1,this.2,mb_new,rfl,Tr.get_set_same _ _ _⟩
theorem makeSliceS_rel (M:Mem S h E) {t:Nat} {l c:SV} {vl vc:HV} (hk:makeSliceS cy S t l c K=some r) (hl:V E l vl) (hc:V E c vc):Mv S h E K r (doMakeSlice cy.cx h t vl vc):=by
  unfold makeSliceS at hk
  split at hk
  · rename_i y u hy hu
    split at hk
    · rename_i l1 k1 m l2 k2 k
      rw [V_int] at hl hc
      subst hl; subst hc
      split at hk
      · rename_i x hx
        obtain ⟨h1,h2⟩:=chk_some hk
        unfold okMk at h1
        simp only [Bool.and_eq_true,decide_eq_true_eq] at h1
        obtain ⟨m',rfl⟩:∃ n:Nat,m=Int.ofNat n:=⟨_,natB h1.1⟩
        obtain ⟨k',rfl⟩:∃ n:Nat,k=Int.ofNat n:=⟨_,natB (by omega)⟩
        have hmk:m'≤k':=Int.ofNat_le.1 h1.2.1
        obtain ⟨hzl,hby⟩:=sliceEl_len hy
        have hz:=elU_size hy hu
        split at h2
        · rename_i el hel
          have hel:=rowsOf_some hel
          subst hel
          split at h2
          · rename_i hzc
            obtain ⟨E',q1,q2,q3,q4,q5⟩:=new_rows (e:=el) (m:=m') (k:=k') M hmk (Nat.le_trans hmk (room_le h1.2.2 hby))
            refine ⟨_,.sl h.nx 0 m',_,_,E',?_,q1,q2,rfl,rfl,V_row.2 ⟨by rw [q4]; exact Nat.lt_succ_self _,rfl,fun e xs hxs=>(by rw [q5] at hxs; cases hxs),fun g e xs hxs => ?_⟩,h2⟩
            · unfold doMakeSlice
              rw [hy]
              simp only [natOf]
              rw [show (Nat.ble m' k'&&roomOk k' y.by_)=true by rw [Bool.and_eq_true]; exact ⟨by simpa using hmk,h1.2.2⟩]
              rw [hzc,hz]; rfl
            · rw [q5] at hxs
              cases hxs
              rw [q3]
              show _=HV.sl h.nx 0 (List.replicate m' _).length
              rw [List.length_replicate]
          · cases h2
        obtain ⟨c',d',e1,g1,g2,_⟩:=rdI_rel (k:=0) (Q:=E.Z) (E:=E) (fun _ h=>h) (fun m e hm=>M.ent m e (by rw [← M.st]; exact hm)) (by rw [M.st]; exact hx) (ofHVs_rel y.zc) (by unfold Cov; exact rows_ofHVs _)
        unfold CRs at g2
        subst g2
        rw [List.append_nil] at e1
        subst e1
        have hlen:(repl y.zc k').length=k'*u.size:=by rw [repl_length,hzl,hz]
        have hroom:k'≤140737488355328:=room_le h1.2.2 hby
        have hbk:(List.replicate m' x).length=m':=by simp
        obtain ⟨E',q1,q2,q3,q4,q5⟩:=new_row (e:=u) (xs:=rep (Int.ofNat m') x) (c:=repl y.zc k') M (by show (List.replicate m' x).length≤_; rw [hbk]; omega) (by show (List.replicate m' x).length*_≤_; rw [hbk,hlen]; exact Nat.mul_le_mul_right _ hmk) (fun i w hw=>by
          have hw:(List.replicate m' x)[i]?=some w:=hw
          have him:i<m':=by
            have:=(List.getElem?_eq_some_iff.1 hw).1
            simpa using this
          have hwk:(List.replicate k' x)[i]?=some w:=by
            rw [List.getElem?_replicate,if_pos him] at hw
            rw [List.getElem?_replicate,if_pos (by omega)]; exact hw
          obtain ⟨c1,c2,c3,p1,p2,p3,p4⟩:=RdA_get (z:=u.size) (fun _ _ h=>h.len) (rep_RdA g1 k') hwk
          refine ⟨c2,?_,p4⟩
          have hg:=gather_new (T:=(.e:Tr HV)) (w:=true) (z:=u.size) (n:=(repl y.zc k').length) (p:=0) (c:=repl y.zc k') (by omega)
          have:=gather_sub hg p1 p2 p3
          rw [Nat.zero_add] at this
          exact this)
        refine ⟨_,.sl h.nx 0 m',_,_,E',?_,q1,q2,rfl,rfl,V_row.2 ⟨by rw [q4]; exact Nat.lt_succ_self _,rfl,fun e xs hxs => ?_,fun g e xs hxs=>by rw [q5] at hxs; cases hxs⟩,h2⟩
        · unfold doMakeSlice
          rw [hy]
          simp only [natOf]
          rw [show (Nat.ble m' k'&&roomOk k' y.by_)=true by rw [Bool.and_eq_true]; exact ⟨by simpa using hmk,h1.2.2⟩]
          rw [hz]; rfl
        · rw [q5] at hxs
          cases hxs
          rw [q3]
          show _=HV.sl h.nx 0 (List.replicate m' x).length
          rw [hbk]
      · cases hk
    · cases hk
  · cases hk
theorem write_of {b o:Nat} {y:Blk} {c:List HV} (hb:h.hp.get b=some (.blk y)) (ho:y.own=true) (hf:isIn b h.lk=false) (hn:o+c.length≤y.n):h.write b o c=some ⟨h.nt,h.env,h.hp.set b (.blk ⟨true,y.z,y.n,scatter y.c o c⟩),h.nx,h.lk,h.df⟩:=by
  unfold St.write
  rw [blk_of hb]
  simp only
  rw [show (y.own&&(h.free b&&Nat.ble (Nat.add o c.length) y.n))=true by
    rw [ho]
    unfold St.free
    rw [hf]
    simp only [Bool.true_and,Bool.not_false,Nat.ble_eq]
    exact hn]
  rfl
theorem not_lk (M:Mem S h E) {m b:Nat} {e:Ent} (hm:S.st.get m=some e) (hb:Bk E m b) (hl:isIn m S.lk=false):isIn b h.lk=false:=by
  cases hq:isIn b h.lk with
  | false=>rfl
  | true=>rw [(M.lk b hq).2 m e hm hb] at hl; cases hl
theorem canW_some {m:Nat} (hc:S.canW m=true):S.can m=true∧isIn m S.lk=false:=by
  unfold SS.canW at hc
  simp only [Bool.and_eq_true] at hc
  exact ⟨hc.1,by simpa using hc.2⟩
theorem rows_put {is js ks:List SV} {o z:Nat} (hp:putI is o z js=some ks) (m:Nat) (hm:m∈rowsT ks):m∈rowsT is∨m∈rowsT js:=by
  unfold putI at hp
  split at hp
  · rename_i a b h1
    split at hp
    · rename_i c d h2
      cases hp
      rw [rowsT_app,rowsT_app] at hm
      rw [rows_cut h1,rows_cut h2]
      simp only [List.mem_append] at hm ⊢
      rcases hm with hm | hm | hm
      · exact .inl (.inl hm)
      · exact .inr hm
      · exact .inl (.inr (.inr hm))
    · cases hp
  · cases hp
theorem RdA_set {α:Type} {R:List HV→α→Prop} {z:Nat} (hR:∀ c x,R c x→c.length=z):∀ {xs:List α} {cs d1 d2 d3 d:List HV} {k:Nat} {x:α},RdA R cs xs→cs=d1++(d2++d3)→d1.length=k*z→d2.length=z→k<xs.length→R d x→RdA R (d1++(d++d3)) (xs.set k x)
  | [],_,_,_,_,_,_,_,_,_,_,_,hk,_=>by cases hk
  | a::xs,cs,d1,d2,d3,d,0,x,⟨c,c',e,h1,h2⟩,e2,hd1,hd2,hk,hx=>by
    rw [Nat.zero_mul] at hd1
    have hd1:=List.length_eq_zero_iff.1 hd1
    subst hd1
    rw [e] at e2
    have e3:c++c'=d2++d3:=e2
    obtain ⟨rfl,rfl⟩:=List.append_inj e3 (by rw [hR _ _ h1,hd2])
    exact ⟨d,c',rfl,hx,h2⟩
  | a::xs,cs,d1,d2,d3,d,k+1,x,⟨c,c',e,h1,h2⟩,e2,hd1,hd2,hk,hx=>by
    have hc:=hR _ _ h1
    rw [Nat.succ_mul] at hd1
    obtain ⟨f1,f2,rfl,hf⟩:∃ f1 f2,d1=f1++f2∧f1.length=z:=⟨d1.take z,d1.drop z,(List.take_append_drop z d1).symm,by rw [List.length_take]; omega⟩
    rw [e,List.append_assoc] at e2
    obtain ⟨rfl,e3⟩:=List.append_inj e2 (by rw [hc,hf])
    rw [List.length_append,hf] at hd1
    have:=RdA_set (k:=k) hR h2 e3 (by omega) hd2 (by simpa using hk) hx
    refine ⟨c,f2++(d++d3),by rw [List.append_assoc],h1,this⟩
theorem give_store (M:Mem S h E) {m b j g:Nat} {e:U} {xs:List (List (D e))} {ys:List (D e)} {y:Blk} {v:HV} {o:Option Nat} {st1:Tr Ent}
    (h1:∀ a e',st1.get a=some e'→S.st.get a=some e') (h2:∀ a,S.st.get a≠none→st1.get a=none→S.can a=true)
    (hm1:st1.get m=some (.rows g e xs)) (hc:S.can m=true) (hb:E.mb m=some b) (hy:E.hp.get b=some (.blk y)) (hj:j<xs.length)
    (ho:∀ c,o=some c → ∃ a e',S.st.get a=some e'∧Bk E a c∧st1.get a=none∧isIn a S.lk=false)
    (hv:RowV o ys.length v) (hr:RowR E o e ys) (hl:ys.length≤140737488355328) :
    ∃ E',Mem (S.mem (st1.set m (.rows S.nx e (xs.set j ys))) (Nat.add S.nx 1)) ⟨h.nt,h.env,h.hp.set b (.blk ⟨true,y.z,y.n,scatter y.c j [v]⟩),h.nx,h.lk,h.df⟩ E'∧Gr S h E (S.mem (st1.set m (.rows S.nx e (xs.set j ys))) (Nat.add S.nx 1)) ⟨h.nt,h.env,h.hp.set b (.blk ⟨true,y.z,y.n,scatter y.c j [v]⟩),h.nx,h.lk,h.df⟩ E':=by
  have hm:=h1 m _ hm1
  obtain ⟨hg,hlen,b',y',p1,p2,p3,p4,p5,p6,p7,p8,p9⟩:=M.ent m _ hm
  rw [hb] at p1; cases p1
  rw [hy] at p2; cases p2
  let hp':=h.hp.set b (.blk ⟨true,y.z,y.n,scatter y.c j [v]⟩)
  let st':=st1.set m (.rows S.nx e (xs.set j ys))
  let ib':Nat→Nat→Option Nat:=fun a k=>if a=m∧k=j then o else E.ib a k
  have hibo:∀ a,a≠m → ∀ k,ib' a k=E.ib a k:=fun a ha k=>if_neg (fun h=>ha h.1)
  have hibj:ib' m j=o:=if_pos ⟨rfl,rfl⟩
  have hibk:∀ k,k≠j→ib' m k=E.ib m k:=fun k hk=>if_neg (fun h=>hk h.2)
  have hget:∀ a,st'.get a=if a=m then some (.rows S.nx e (xs.set j ys)) else st1.get a:=fun a=>Tr.get_set _ _ _ _
  have hst:∀ a e',st'.get a=some e'→(a=m∧e' = .rows S.nx e (xs.set j ys))∨(a≠m∧st1.get a=some e'∧S.st.get a=some e'):=by
    intro a e' ha
    rw [hget] at ha
    split at ha
    · cases ha; exact .inl ⟨by assumption,rfl⟩
    · exact .inr ⟨by assumption,ha,h1 a e' ha⟩
  let E':En:=⟨hp',E.Z,E.mb,ib',st',S.nx+1⟩
  have hbo:∀ a,a≠m → ∀ c,Bk E' a c↔Bk E a c:=by
    intro a ha c
    show (E.mb a=some c ∨ ∃ i,ib' a i=some c)↔_
    constructor
    · rintro (q | ⟨i,q⟩)
      · exact .inl q
      · rw [hibo a ha] at q; exact .inr ⟨i,q⟩
    · rintro (q | ⟨i,q⟩)
      · exact .inl q
      · exact .inr ⟨i,by rw [hibo a ha]; exact q⟩
  have hbm:∀ c,Bk E' m c→Bk E m c∨o=some c:=by
    rintro c (q | ⟨i,q⟩)
    · exact .inl (.inl q)
    · have q:ib' m i=some c:=q
      by_cases hi:i=j
      · subst hi; rw [hibj] at q; exact .inr q
      · rw [hibk i hi] at q; exact .inl (.inr ⟨i,q⟩)
  have hne:∀ c,o=some c → ¬ Bk E m c:=by
    intro c q w
    obtain ⟨a,e',k1,k2,k3,_⟩:=ho c q
    have:=M.inj a m e' _ c k1 hm k2 w
    subst this
    rw [hm1] at k3; cases k3
  have hhp:∀ c,c≠b→hp'.get c=E.hp.get c:=fun c hc=>by
    show (h.hp.set b _).get c=_
    rw [Tr.get_set_ne _ _ hc,M.hp]
  have hz:∀ c,E.Z c→hp'.get c=E.hp.get c:=fun c hzc=>hhp c (by
    rintro rfl
    exact (M.own m _ c hm (.inl hb)).1 hzc)
  have f:Fm E.nx E E':=by
    refine ⟨fun _ q=>q,hz,by rw [M.nx]; exact Nat.le_succ _,fun _ _=>rfl,fun a u xs' ha hx => ?_,fun a g' u xs' ha hx => ?_,fun a g' u xs' ha hg' hx => ?_⟩
    · rcases hst a _ hx with ⟨_,q⟩ | ⟨_,_,q⟩
      · cases q
      · exact ⟨xs',by rw [M.st]; exact q,rfl⟩
    · rcases hst a _ hx with ⟨rfl,q⟩ | ⟨_,_,q⟩
      · cases q
        exact ⟨g,xs,by rw [M.st]; exact hm,by simp⟩
      · exact ⟨g',xs',by rw [M.st]; exact q,rfl⟩
    · rcases hst a _ hx with ⟨rfl,q⟩ | ⟨q0,_,q⟩
      · cases q
        rw [M.nx] at hg'; omega
      · exact ⟨xs',by rw [M.st]; exact q,SameLen.refl,hibo a q0⟩
  refine ⟨E',⟨rfl,rfl,rfl,fun a e' ha => ?_,fun a e' ha => ?_,fun a a' e1 e2 c ha ha' b1 b2 => ?_,fun a e' c ha hac => ?_,M.z,fun c hc => ?_,fun c hlk=>⟨(M.lk c hlk).1,fun a e' ha hac => ?_⟩,fun a c hac => ?_,fun a e' ha hne' => ?_⟩,⟨rfl,rfl,rfl,rfl,rfl,rfl,rfl,rfl,Nat.le_refl _,Nat.le_succ _,fun _ q=>q,fun c hzc => .inl hzc,fun c hlt how => ?_,fun c how => ?_,fun _ _=>rfl,fun a ha hca => ?_,fun a ha hd => ?_,fun a u xs' ha hx => ?_,fun c a e' hlk ha hac => ?_,fun a g' u xs' ha hx => ?_,fun a g' u xs' ha hg' hx => ?_,fun a ha hca => ?_⟩⟩
  · rcases hst a _ ha with ⟨rfl,_⟩ | ⟨_,_,q⟩
    · exact Nat.lt_succ_of_lt (M.lt _ _ hm)
    · exact Nat.lt_succ_of_lt (M.lt _ _ q)
  · rcases hst a _ ha with ⟨rfl,rfl⟩ | ⟨q0,q1,q2⟩
    · refine ⟨Nat.lt_succ_self _,by simpa using hlen,b,_,hb,Tr.get_set_same _ _ _,rfl,p4,by simpa using p5,fun i l hil => ?_,fun i hi => ?_,fun i i' c k1 k2 => ?_,fun i k1 => ?_⟩
      · by_cases hij:i=j
        · subst hij
          rw [List.getElem?_set_self hj] at hil
          cases hil
          have e1:E'.ib a i=o:=hibj
          refine ⟨hl,⟨v,?_,by rw [e1]; exact hv⟩,?_⟩
          · have:=gather_new (T:=y.c) (w:=true) (z:=y.z) (n:=y.n) (p:=i) (c:=[v]) (by simp; omega)
            exact this
          · rw [e1]
            refine RowR.fm (E:=E) (E':=E') (fun _ q=>q) hz (fun c q=>hhp c ?_) hr
            rintro rfl
            exact hne c q (.inl hb)
        · rw [List.getElem?_set_ne (fun q=>hij q.symm)] at hil
          obtain ⟨k1,⟨w,k2,k3⟩,k4⟩:=p6 i l hil
          have hi:=(List.getElem?_eq_some_iff.1 hil).1
          have e1:E'.ib a i=E.ib a i:=hibk i hij
          refine ⟨k1,⟨w,gather_out k2 (by simp; omega) (by omega),by rw [e1]; exact k3⟩,?_⟩
          rw [e1]
          refine RowR.fm (E:=E) (E':=E') (fun _ q=>q) hz (fun c q=>hhp c ?_) k4
          rintro rfl
          exact p9 i q
      · rw [List.length_set] at hi
        show ib' a i=none
        rw [hibk i (by omega)]
        exact p7 i hi
      · have k1:ib' a i=some c:=k1
        have k2:ib' a i'=some c:=k2
        by_cases hi:i=j
        · by_cases hi':i'=j
          · rw [hi,hi']
          · subst hi
            rw [hibj] at k1
            rw [hibk i' hi'] at k2
            exact absurd (.inr ⟨i',k2⟩) (hne c k1)
        · have kk1:E.ib a i=some c:=(hibk i hi).symm.trans k1
          by_cases hi':i'=j
          · have kk2:o=some c:=by rw [hi',hibj] at k2; exact k2
            exact absurd (.inr ⟨i,kk1⟩) (hne c kk2)
          · have kk2:E.ib a i'=some c:=(hibk i' hi').symm.trans k2
            exact p8 i i' c kk1 kk2
      · have k1:ib' a i=some b:=k1
        by_cases hi:i=j
        · subst hi
          rw [hibj] at k1
          exact hne b k1 (.inl hb)
        · rw [hibk i hi] at k1
          exact p9 i k1
    · refine (M.ent a e' q2).fm f rfl (hibo a q0) (fun c hac=>hhp c ?_)
      rintro rfl
      exact q0 (M.inj a m e' _ c q2 hm hac (.inl hb))
  · have key:∀ a e',a≠m→st1.get a=some e'→S.st.get a=some e'→Bk E a c→Bk E' m c→False:=by
      intro a e' q0 q1 q2 k1 k2
      rcases hbm c k2 with w | w
      · exact q0 (M.inj a m e' _ c q2 hm k1 w)
      · obtain ⟨a2,e3,w1,w2,w3,_⟩:=ho c w
        have:=M.inj a a2 e' e3 c q2 w1 k1 w2
        subst this
        rw [w3] at q1; cases q1
    rcases hst a _ ha with ⟨rfl,rfl⟩ | ⟨q0,q1,q2⟩
    · rcases hst a' _ ha' with ⟨rfl,rfl⟩ | ⟨k0,k1,k2⟩
      · rfl
      · exact (key a' e2 k0 k1 k2 ((hbo a' k0 c).1 b2) b1).elim
    · rcases hst a' _ ha' with ⟨rfl,rfl⟩ | ⟨k0,k1,k2⟩
      · exact (key a e1 q0 q1 q2 ((hbo a q0 c).1 b1) b2).elim
      · exact M.inj a a' e1 e2 c q2 k2 ((hbo a q0 c).1 b1) ((hbo a' k0 c).1 b2)
  · rcases hst a _ ha with ⟨rfl,rfl⟩ | ⟨q0,q1,q2⟩
    · rcases hbm c hac with w | w
      · exact M.own _ _ c hm w
      · obtain ⟨a2,e3,w1,w2,_⟩:=ho c w
        exact M.own a2 e3 c w1 w2
    · exact M.own a e' c q2 ((hbo a q0 c).1 hac)
  · have hc:h.nx≤c:=hc
    show (h.hp.set b _).get c=none
    rw [Tr.get_set_ne]
    · exact M.fr c hc
    · rintro rfl
      have:=(M.own m _ c hm (.inl hb)).2
      omega
  · rcases hst a _ ha with ⟨rfl,rfl⟩ | ⟨q0,q1,q2⟩
    · rcases hbm c hac with w | w
      · exact (M.lk c hlk).2 _ _ hm w
      · obtain ⟨a2,e3,w1,w2,_,w4⟩:=ho c w
        have:=(M.lk c hlk).2 a2 e3 w1 w2
        rw [w4] at this; cases this
    · exact (M.lk c hlk).2 a e' q2 ((hbo a q0 c).1 hac)
  · by_cases ha:a=m
    · subst ha
      rcases hbm c hac with w | w
      · exact M.mbl _ c w
      · obtain ⟨a2,e3,w1,w2,_⟩:=ho c w
        exact M.mbl a2 c w2
    · exact M.mbl a c ((hbo a ha c).1 hac)
  · rcases hst a _ ha with ⟨rfl,rfl⟩ | ⟨q0,q1,q2⟩
    · exact absurd rfl (hne' _ _ _)
    · intro k
      show ib' a k=none
      rw [hibo a q0]
      exact M.noi a e' q2 hne' k
  · show (h.hp.set b _).get c=_
    rw [Tr.get_set_ne]
    rintro rfl
    exact how ⟨m,_,hm,.inl hb⟩
  · obtain ⟨a,e',ha,hac⟩:=how
    rcases hst a _ ha with ⟨rfl,rfl⟩ | ⟨q0,q1,q2⟩
    · rcases hbm c hac with w | w
      · exact .inl ⟨_,_,hm,w⟩
      · obtain ⟨a2,e3,w1,w2,_⟩:=ho c w
        exact .inl ⟨a2,e3,w1,w2⟩
    · exact .inl ⟨a,e',q2,(hbo a q0 c).1 hac⟩
  · show st'.get a=_
    have ham:a≠m:=by rintro rfl; rw [hc] at hca; cases hca
    rw [hget,if_neg ham]
    cases hq:st1.get a with
    | some e'=>exact (h1 a e' hq).symm
    | none =>
      cases hs:S.st.get a with
      | none=>rfl
      | some e' =>
        have:=h2 a (by rw [hs]; exact fun h=>by cases h) hq
        rw [hca] at this; cases this
  · show st'.get a=_
    have ham:a≠m:=by rintro rfl; rw [hm] at hd; cases hd
    rw [hget,if_neg ham]
    cases hq:st1.get a with
    | some e'=>have:=h1 a e' hq; rw [hd] at this; cases this
    | none=>rfl
  · rcases hst a _ hx with ⟨_,q⟩ | ⟨_,_,q⟩
    · cases q
    · exact ⟨xs',q,rfl⟩
  · rcases hst a _ ha with ⟨rfl,rfl⟩ | ⟨q0,q1,q2⟩
    · rcases hbm c hac with w | w
      · exact ⟨_,hm,w⟩
      · obtain ⟨a2,e3,w1,w2,_,w4⟩:=ho c w
        have:=(M.lk c hlk).2 a2 e3 w1 w2
        rw [w4] at this; cases this
    · exact ⟨e',q2,(hbo a q0 c).1 hac⟩
  · rcases hst a _ hx with ⟨rfl,q⟩ | ⟨_,_,q⟩
    · cases q
      exact ⟨g,xs,hm,by simp⟩
    · exact ⟨g',xs',q,rfl⟩
  · rcases hst a _ hx with ⟨rfl,q⟩ | ⟨q0,_,q⟩
    · cases q
      omega
    · exact ⟨xs',q,SameLen.refl,hibo a q0⟩
  · exact hibo a (by rintro rfl; rw [hc] at hca; cases hca)
theorem giveS_rel (M:Mem S h E) {e:U} {w:SV} {vc:List HV} {ys:List (D e)} {S1:SS} (hg:giveS S e w=some (ys,S1)) (hw:CR E w vc):∃ v o,vc=[v]∧RowV o ys.length v∧RowR E o e ys∧ys.length≤140737488355328∧S1=S.mem S1.st S.nx∧(∀ a e',S1.st.get a=some e'→S.st.get a=some e')∧(∀ a,S.st.get a≠none→S1.st.get a=none→S.can a=true) ∧ ∀ c,o=some c → ∃ a e',S.st.get a=some e'∧Bk E a c∧S1.st.get a=none∧isIn a S.lk=false:=by
  unfold giveS at hg
  split at hg
  · cases hg
    unfold CR at hw
    exact ⟨.nils,none,hw,⟨rfl,.inl rfl⟩,rfl,Nat.zero_le _,rfl,fun _ _ h=>h,fun _ h1 h2=>absurd h2 h1,fun c hc=>by cases hc⟩
  · rename_i m
    split at hg
    · rename_i u xs hm
      split at hg
      · rename_i ys' hys
        rw [bif_eq] at hg
        split at hg
        · rename_i hc
          cases hg
          obtain ⟨hcan,hlk⟩:=canW_some hc
          obtain ⟨e0,e1⟩:=castD_some hys
          cases e0
          have e1:xs=ys:=e1
          subst e1
          have hget:∀ j,(S.kill m).st.get j=if j=m then none else S.st.get j:=fun j=>Tr.get_del _ _ _
          unfold CR at hw
          obtain ⟨_,v,rfl,_,hv,_⟩:=hw
          obtain ⟨hl,hr⟩:=M.ent m _ hm
          refine ⟨v,E.mb m,rfl,hv _ xs (by rw [M.st]; exact hm),hr,hl,rfl,fun a e' ha => ?_,fun a h1 h2 => ?_,fun c hc=>⟨m,_,hm,.inl hc,by rw [hget,if_pos rfl],hlk⟩⟩
          · rw [hget] at ha
            split at ha
            · cases ha
            · exact ha
          · rw [hget] at h2
            split at h2
            · subst_vars; exact hcan
            · exact absurd h2 h1
        · cases hg
      · cases hg
    · cases hg
  · cases hg
theorem storeS_rel (M:Mem S h E) {t:Nat} {a s:SV} {va v:HV} {K:SS→Option R} (hk:storeS cy S t a s K=some r) (ha:V E a va) (hv:V E s v):Ma S h E K r (doStore cy.cx h t va v):=by
  unfold storeS at hk
  split at hk
  · rename_i x hx
    split at hk
    · rename_i c hc
      obtain ⟨vc,c1,c2,_,_⟩:=items_rel hc hv
      rw [bif_eq] at hk
      split at hk
      · rename_i hw
        have hw:=Nat.eq_of_beq_eq_true hw
        have hlen:vc.length=x.size:=by rw [c2.len,hw]
        have hd:∀ b o h',h.write b o vc=some h'→doStore cy.cx h t (.ptr b o) v=some (.act h'):=by
          intro b o h' hwr
          unfold doStore
          simp only
          rw [hx,c1]
          simp only
          rw [show Nat.beq vc.length x.size=true by simp [hlen],hwr]
          rfl
        split at hk
        · rename_i m o
          rw [V_box] at ha
          obtain ⟨_,b,hb,rfl⟩:=ha
          split at hk
          · rename_i z is hm
            rw [bif_eq] at hk
            split at hk
            · rename_i hcan
              obtain ⟨hcan,hlk⟩:=canW_some hcan
              split at hk
              · rename_i is' hput
                obtain ⟨b',y,cs,p1,p2,p3,p4,p5,p6⟩:=M.ent m _ hm
                rw [hb] at p1; cases p1
                obtain ⟨d1,d2,d3,rfl,w1,w2,w3⟩:=putI_rel hput p6 c2
                have hn:=gather_len p5
                simp only [List.length_append] at hn
                have p2':h.hp.get b=some (.blk y):=by rw [← M.hp]; exact p2
                have:=upd_rel (b:=b) (e := .box z is') (hp':=h.hp.set b (.blk ⟨true,y.z,y.n,scatter y.c o vc⟩)) M hm hcan (.inl hb) (fun c hc=>Tr.get_set_ne _ _ hc) (fun u xs he=>by cases he) (fun g u xs he=>by cases he) (fun _ g u xs he=>by cases he) (fun _ g2=>⟨b,_,d1++(vc++d3),hb,Tr.get_set_same _ _ _,rfl,p4,by
                  have:=gather_in (w:=true) (z:=y.z) (n:=y.n) (c:=vc) p5 (by rw [w2,hlen]) (Nat.le_refl _)
                  rw [Nat.zero_add,w1] at this
                  exact this,g2 _ _ w3⟩)
                exact ⟨_,_,_,hd b o _ (write_of p2' p3 (not_lk M hm (.inl hb) hlk) (by omega)),this.1,this.2,rfl,rfl,hk⟩
              · cases hk
            · cases hk
          · cases hk
        · rename_i m i o
          split at hk
          · rename_i e xs hm
            split at hk
            · rename_i L hL
              rw [bif_eq] at hk
              split at hk
              · rename_i hcan
                simp only [Bool.and_eq_true] at hcan
                obtain ⟨hcan,hmL⟩:=hcan
                have hmL:isIn m L=false:=by simpa using hmL
                obtain ⟨hcan,hlk⟩:=canW_some hcan
                split at hk
                · rename_i S1 hS1
                  obtain ⟨E1,M1,g1,e1,e2,e3,e4,e5,e6⟩:=freeze_rel M hS1
                  obtain ⟨x0,hx0,hk2⟩:=bnd_some hk
                  clear hk
                  split at hk2
                  · rename_i is' hput
                    split at hk2
                    · rename_i w hrd
                      rw [V_ept] at ha
                      obtain ⟨b,j,hb,rfl,hj,rfl⟩:=ha.2.2.1 e xs (by rw [M.st]; exact hm)
                      obtain ⟨n,hn,hxn⟩:=atL_some hx0
                      cases hn
                      obtain ⟨hl1,hr⟩:=M.ent m _ hm
                      unfold RowR at hr
                      rw [hb] at hr
                      obtain ⟨y,p1,p2,p3,p4,p5⟩:=hr
                      obtain ⟨cs,q1,q2⟩:=p5 j x0 hxn
                      obtain ⟨d1,d2,d3,rfl,w1,w2,w3⟩:=putI_rel hput (CRs_one.2 (CR_mk.2 q2)) c2
                      have hcov:Cov E E1.Z 3 is':=(rowsK_cov (E:=E) (Q:=E1.Z) (by rw [M.st]; exact hL) (fun m' e' b' hm' he' hb'=>e3 m' e' b' (isIn_iff.2 hm') (by rw [← M.st]; exact he') hb')).sub (fun m' hm'=>by
                        rcases rows_put hput m' hm' with g | g
                        · rw [rowsT_cons,rows_mk,rowsT_nil] at g; cases g
                        · exact g)
                      obtain ⟨c',d',e7,r1,r2,_⟩:=rdI_rel (E:=E) (Q:=E1.Z) g1.z (fun m e hm=>M.ent m e (by rw [← M.st]; exact hm)) (by rw [M.st]; exact hrd) w3 hcov
                      unfold CRs at r2
                      subst r2
                      rw [List.append_nil] at e7
                      subst e7
                      have hE1:E1.hp=E.hp:=by rw [M1.hp,M.hp]
                      have hm1:S1.st.get m=some (.row e xs):=by rw [e4 m hmL]; exact hm
                      have hb1:E1.mb m=some b:=by rw [e2.1]; exact hb
                      have p1':h.hp.get b=some (.blk y):=by rw [← M.hp]; exact p1
                      have hcan1:S1.can m=true:=by unfold SS.can at *; rw [g1.base,g1.wr]; exact hcan
                      have hlen2:=gather_len q1
                      simp only [List.length_append] at hlen2
                      have hjz:=mul_step (z:=e.size) hj
                      have:=upd_rel (b:=b) (e := .row e (setL xs (Int.ofNat j) w)) (hp':=h.hp.set b (.blk ⟨true,y.z,y.n,scatter y.c (j*e.size+o) vc⟩)) M1 hm1 hcan1 (.inl hb1) (fun c hc=>Tr.get_set_ne _ _ hc) (fun u xs' he=>by
                        cases he
                        exact ⟨xs,rfl,by show xs.length=(xs.set _ _).length; simp⟩) (fun g u xs' he=>by cases he) (fun _ g u xs' he=>by cases he) (fun k1 _=>⟨by show (xs.set _ _).length≤_; simpa using hl1,by
                        show RowR _ (E1.mb m) e (xs.set j w)
                        rw [hb1]
                        refine ⟨_,Tr.get_set_same _ _ _,rfl,p3,by simpa using p4,fun i x' hx' => ?_⟩
                        have h0:∀ i x,xs[i]?=some x → ∃ cs,gather y (i*e.size) e.size=some cs∧RdC (h.hp.set b (.blk ⟨true,y.z,y.n,scatter y.c (j*e.size+o) vc⟩)) E1.Z e cs x:=by
                          intro i x hx
                          obtain ⟨cs,k2,k3⟩:=p5 i x hx
                          exact ⟨cs,k2,k1 _ _ _ (k3.mono g1.z (fun _ _=>by rw [hE1]))⟩
                        exact row_set (w:=true) (z':=y.z) (n:=y.n) h0 hxn q1 w1 (by rw [w2,hlen]) (k1 _ _ _ (by rw [hE1]; exact r1)) (Nat.le_refl _) i x' hx'⟩)
                      refine ⟨_,_,_,hd b _ _ (write_of p1' p2 (not_lk M hm (.inl hb) hlk) (by omega)),this.1,g1.trans this.2,?_,rfl,hk2⟩
                      show S1.env=_
                      exact e1
                    · cases hk2
                  · cases hk2
                · cases hk
              · cases hk
            · cases hk
          · rename_i g e xs hm
            split at hk
            · rename_i w
              split at hk
              · rename_i ys S1 hgive
                rw [bif_eq] at hk
                split at hk
                · rename_i hcond
                  simp only [Bool.and_eq_true] at hcond
                  obtain ⟨hcw,ho0,hsome⟩:=hcond
                  have ho0:=Nat.eq_of_beq_eq_true ho0
                  subst ho0
                  obtain ⟨hin,hk2⟩:=chk_some hk
                  obtain ⟨v',o2,rfl,r1,r2,r3,r4,r5,r6,r7⟩:=giveS_rel M hgive (CRs_one.1 c2)
                  obtain ⟨hcan,hlk⟩:=canW_some hcw
                  have hcan:S.can m=true:=by rw [r4] at hcan; exact hcan
                  have hlk:isIn m S.lk=false:=by rw [r4] at hlk; exact hlk
                  have hm1:S1.st.get m=some (.rows g e xs):=by
                    cases hq:S1.st.get m with
                    | none=>rw [hq] at hsome; cases hsome
                    | some e'=>rw [r5 m e' hq] at hm; exact hm
                  rw [V_ept] at ha
                  obtain ⟨b,j,hb,rfl,hj,rfl⟩:=ha.2.2.2 g e xs (by rw [M.st]; exact hm)
                  obtain ⟨_,_,b',y,p1,p2,p3,p4,p5,_⟩:=M.ent m _ hm
                  rw [hb] at p1; cases p1
                  obtain ⟨E',q1,q2⟩:=give_store M r5 r6 hm1 hcan hb p2 hj r7 r1 r2 r3
                  have hS:(S1.upd m (.rows S1.nx e (setL xs (Int.ofNat j) ys))).tick=S.mem (S1.st.set m (.rows S.nx e (xs.set j ys))) (Nat.add S.nx 1):=by rw [r4]; rfl
                  rw [hS] at hk2
                  exact ⟨_,_,E',hd b _ _ (write_of (by rw [← M.hp]; exact p2) p3 (not_lk M hm (.inl hb) hlk) (by show j+0+1≤y.n; omega)),q1,q2,rfl,rfl,hk2⟩
                · cases hk
              · cases hk
            · cases hk
          · cases hk
        · rename_i m o n u j p
          rw [V_apt] at ha
          obtain ⟨_,b,k,hb,rfl,hkn,rfl⟩:=ha
          split at hk
          · rename_i z is hm
            rw [bif_eq] at hk
            split at hk
            · rename_i hcan
              simp only [Bool.and_eq_true] at hcan
              obtain ⟨hcan,hnc⟩:=hcan
              obtain ⟨hcan,hlk⟩:=canW_some hcan
              split at hk
              · rename_i d hgd
                split at hk
                · rename_i xs hrd
                  rw [bif_eq] at hk
                  split at hk
                  · rename_i hnd
                    obtain ⟨y0,hy0,hk2⟩:=bnd_some hk
                    clear hk
                    split at hk2
                    · rename_i is' hput
                      split at hk2
                      · rename_i w hrw
                        split at hk2
                        · rename_i is2 hput2
                          obtain ⟨b',y,cs,p1,p2,p3,p4,p5,p6⟩:=M.ent m _ hm
                          rw [hb] at p1; cases p1
                          obtain ⟨a1,a2,a3,rfl,q1,q2,q3⟩:=getI_rel hgd p6
                          obtain ⟨g1,g2⟩:=arr_rd M hrd q3 hnd
                          obtain ⟨n',hn,hxn⟩:=atL_some hy0
                          cases hn
                          obtain ⟨d1,d2,d3,rfl,w1,w2,w3⟩:=RdA_get (z:=u.size) (fun _ _ h=>h.len) g2 hxn
                          obtain ⟨f1,f2,f3,rfl,v1,v2,v3⟩:=putI_rel hput (CRs_one.2 (CR_mk.2 w3)) c2
                          have hno:rowsT is'=[]:=by
                            apply List.eq_nil_iff_forall_not_mem.2
                            intro m' hm'
                            rcases rows_put hput m' hm' with g | g
                            · rw [rowsT_cons,rows_mk,rowsT_nil] at g; cases g
                            · rw [noRows_some hnc] at g; cases g
                          obtain ⟨c',d',e7,r1,r2,_⟩:=rdI_rel (k:=0) (E:=E) (Q:=E.Z) (fun _ h=>h) (fun m e hm=>M.ent m e (by rw [← M.st]; exact hm)) (by rw [M.st]; exact hrw) v3 (by unfold Cov; exact hno)
                          unfold CRs at r2
                          subst r2
                          rw [List.append_nil] at e7
                          subst e7
                          have hA:=RdA_set (R:=RdC E.hp E.Z u) (z:=u.size) (k:=k) (fun _ _ h=>h.len) g2 rfl w1 w2 (by rw [g1]; exact hkn) r1
                          have hC:CR E (.val (.arr n u) (setL xs (Int.ofNat k) w)) (d1++((f1++(vc++f3))++d3)):=by
                            unfold CR RdC
                            exact ⟨by show (xs.set _ _).length=n; rw [List.length_set]; exact g1,hA⟩
                          obtain ⟨b1,b2,b3,e8,t1,t2,t3⟩:=putI_rel hput2 p6 (CRs_one.2 hC)
                          obtain ⟨rfl,e9⟩:=List.append_inj e8 (by rw [q1,t1])
                          obtain ⟨rfl,rfl⟩:=List.append_inj e9 (by rw [q2,t2])
                          have hn:=gather_len p5
                          simp only [List.length_append] at hn q2 w2
                          have p5':gather y 0 y.n=some ((a1++d1++f1)++(f2++(f3++d3++a3))):=by
                            rw [p5]; simp
                          have p2':h.hp.get b=some (.blk y):=by rw [← M.hp]; exact p2
                          have hpos:(a1++d1++f1).length=o+k*u.size+p:=by simp only [List.length_append]; omega
                          have:=upd_rel (b:=b) (e := .box z is2) (hp':=h.hp.set b (.blk ⟨true,y.z,y.n,scatter y.c (o+k*u.size+p) vc⟩)) M hm hcan (.inl hb) (fun c hc=>Tr.get_set_ne _ _ hc) (fun u xs he=>by cases he) (fun g u xs he=>by cases he) (fun _ g u xs he=>by cases he) (fun _ g2=>⟨b,_,a1++((d1++((f1++(vc++f3))++d3))++a3),hb,Tr.get_set_same _ _ _,rfl,p4,by
                            have:=gather_in (w:=true) (z:=y.z) (n:=y.n) (c:=vc) p5' (by rw [v2,hlen]) (Nat.le_refl _)
                            rw [Nat.zero_add,hpos] at this
                            rw [this]; simp,g2 _ _ t3⟩)
                          exact ⟨_,_,_,hd b _ _ (write_of p2' p3 (not_lk M hm (.inl hb) hlk) (by omega)),this.1,this.2,rfl,rfl,hk2⟩
                        · cases hk2
                      · cases hk2
                    · cases hk2
                  · cases hk
                · cases hk
              · cases hk
            · cases hk
          · cases hk
        · cases hk
      · cases hk
    · cases hk
  · cases hk
end
end Go.Ls
namespace Go.Ls
open Go Go.Hm
theorem RdC.flat {hp hp':Tr Hm.Obj} {Z Z':Nat→Prop}:∀ {u:U} {cs:List HV} {x:D u},u.flat=true→RdC hp Z u cs x→RdC hp' Z' u cs x
  | .int _,_,_,_,h=>h
  | .bool,_,_,_,h=>h
  | .str,_,_,_,h=>h
  | .un,_,_,_,h=>h
  | .nil,_,_,_,h=>h
  | .pair a b,_,_,hf,⟨c,d,e,h1,h2⟩=>by
    have hf:(a.flat&&b.flat)=true:=hf
    rw [Bool.and_eq_true] at hf
    exact ⟨c,d,e,h1.flat hf.1,h2.flat hf.2⟩
  | .arr n e,_,_,hf,⟨h1,h2⟩=>⟨h1,RdA_mono (fun _ _ h=>h.flat hf) h2⟩
  | .list e,_,_,hf,_=>by cases hf
theorem RdV.flat {hp hp':Tr Hm.Obj} {Z Z':Nat→Prop} {u:U} {v:HV} {x:D u} (hf:u.flat=true) (h:RdV hp Z u v x):RdV hp' Z' u v x:=by
  unfold RdV at *
  cases hu:u.ag with
  | true=>rw [hu] at h; obtain ⟨cs,h1,h2⟩:=h; exact ⟨cs,h1,h2.flat hf⟩
  | false=>rw [hu] at h; exact RdC.flat hf h
theorem RdArgs.flat {hp hp':Tr Hm.Obj} {Z Z':Nat→Prop}:∀ {u:U} {l:List HV} {x:D u},u.flat=true→RdArgs hp Z u l x→RdArgs hp' Z' u l x
  | .un,l,x,_,h=>h
  | .pair a b,l,x,hf,⟨v,r,e,h1,h2⟩=>by
    have hf:(a.flat&&b.flat)=true:=hf
    rw [Bool.and_eq_true] at hf
    exact ⟨v,r,e,h1.flat hf.1,RdArgs.flat hf.2 h2⟩
  | .int _,_,_,_,h=>h.elim
  | .bool,_,_,_,h=>h.elim
  | .str,_,_,_,h=>h.elim
  | .nil,_,_,_,h=>h.elim
  | .list _,_,_,_,h=>h.elim
  | .arr _ _,_,_,_,h=>h.elim
section
variable {E:En} {S:SS} {h:St} {cy:Cy} {R:Type} {r:R} {K:SV→SS→Option R}
theorem src_of {α:Type} {hp:Tr Hm.Obj} {Z:Nat→Prop} {z:Nat} {Q:List HV→α→Prop} {v:HV} {xs:List α} (hr:RdL hp Z z Q v xs) (hQ:∀ c x,Q c x→c.length=z) (hh:hp=h.hp):∃ cs,srcOf h z v=some (cs,xs.length)∧RdA Q cs xs ∧ ∀ s,v ≠ .str s:=by
  rcases hr with ⟨rfl,rfl | rfl | rfl⟩ | ⟨b,o,y,h1,h2,h3,h4,h5,h6⟩
  · exact ⟨[],rfl,rfl,fun s hs=>by cases hs⟩
  · exact ⟨[],rfl,rfl,fun s hs=>by cases hs⟩
  · exact ⟨[],rfl,rfl,fun s hs=>by cases hs⟩
  · obtain ⟨cs,g1,g2⟩:=RdA_of hQ h6
    have hb:h.blk b=some y:=blk_of (by rw [← hh]; exact h3)
    obtain ⟨rfl,_⟩:=h1
    refine ⟨cs,?_,g2,fun s hs=>by cases hs⟩
    unfold srcOf
    simp only [cellsOf,lenOf]
    rw [hb]; simp only
    rw [show Nat.mul xs.length z=xs.length*z from rfl,g1]
theorem isSrcS_rel {cx:Cx} {t:Nat} {x:SV} {v:HV} (hs:isSrcS cx t x=true) (hv:∀ s,v ≠ .str s):isSrc cx t v=true:=by
  obtain ⟨u,h1,h2⟩:=isSh_some hs
  unfold isSrc
  rw [h1]
  simp only
  cases hsh:u.sh with
  | slice e=>cases v <;> first | rfl | exact absurd rfl (hv _)
  | _=>rw [hsh] at h2; cases x <;> simp at h2
inductive OwnR (S S2:SS) (h:St) (E:En) (u:U):List (D u)→HV→Prop
  | nil (v:HV) (hv:v = .nils∨v = .esl):OwnR S S2 h E u [] v
  | blk (m b:Nat) (e:Ent) (y:Blk) (xs:List (D u)) (h1:S.st.get m=some e) (h2:E.mb m=some b) (h3:S2.st.get m=none) (h4:isIn m S.lk=false) (h5:h.hp.get b=some (.blk y)) (h6:y.own=true) (h7:y.z=u.size) (h8:xs.length*u.size≤y.n) (h9:∀ i x,xs[i]?=some x → ∃ cs,gather y (i*u.size) u.size=some cs∧RdC E.hp E.Z u cs x):OwnR S S2 h E u xs (.sl b 0 xs.length)
theorem ownOf_rel (M:Mem S h E) {u:U} {a:SV} {va:HV} {old:List (D u)} {S2:SS} (ho:ownOf S u a=some (old,S2)) (ha:V E a va):OwnR S S2 h E u old va∧S2=S.mem S2.st S.nx∧(∀ j e,S2.st.get j=some e→S.st.get j=some e)∧(∀ j,S.st.get j≠none→S2.st.get j=none→S.can j=true):=by
  unfold ownOf at ho
  split at ho
  · cases ho
    exact ⟨.nil _ (.inl (V_nils.1 ha)),rfl,fun _ _ h=>h,fun _ h1 h2=>absurd h2 h1⟩
  · cases ho
    exact ⟨.nil _ (V_esl.1 ha),rfl,fun _ _ h=>h,fun _ h1 h2=>absurd h2 h1⟩
  · rename_i m
    split at ho
    · rename_i e xs hm
      split at ho
      · rename_i ys hys
        rw [bif_eq] at ho
        split at ho
        · rename_i hc
          cases ho
          obtain ⟨hcan,hlk⟩:=canW_some hc
          have hget:∀ j,(S.kill m).st.get j=if j=m then none else S.st.get j:=fun j=>Tr.get_del _ _ _
          obtain ⟨e0,e1⟩:=castD_some hys
          cases e0
          have e1:xs=old:=e1
          subst e1
          rw [V_row] at ha
          have hv:=ha.2.2.1 u xs (by rw [M.st]; exact hm)
          obtain ⟨hl,hr⟩:=M.ent m _ hm
          refine ⟨?_,rfl,fun j e hj => ?_,fun j h1 h2 => ?_⟩
          · unfold RowV at hv
            unfold RowR at hr
            cases hb:E.mb m with
            | none =>
              rw [hb] at hv hr
              subst hr
              exact .nil _ hv.2
            | some b =>
              rw [hb] at hv hr
              subst hv
              obtain ⟨y,p1,p2,p3,p4,p5⟩:=hr
              exact .blk m b _ y xs hm hb (by rw [hget,if_pos rfl]) hlk (by rw [← M.hp]; exact p1) p2 p3 p4 p5
          · rw [hget] at hj
            split at hj
            · cases hj
            · exact hj
          · rw [hget] at h2
            split at h2
            · subst_vars; exact hcan
            · exact absurd h2 h1
        · cases ho
      · cases ho
    · cases ho
  · rename_i m q
    split at ho
    · rename_i e xs hm
      split at ho
      · rename_i ys hys
        rw [bif_eq] at ho
        split at ho
        · rename_i hc
          cases ho
          obtain ⟨hcan,hlk⟩:=canW_some hc
          have hget:∀ j,(S.kill m).st.get j=if j=m then none else S.st.get j:=fun j=>Tr.get_del _ _ _
          obtain ⟨e0,e1⟩:=castD_some hys
          cases e0
          have e1:xs=ys:=e1
          subst e1
          rw [V_vw] at ha
          obtain ⟨k,rfl,hk,hv⟩:=ha.2.2 _ xs (by rw [M.st]; exact hm)
          obtain ⟨hl,hr⟩:=M.ent m _ hm
          have hcl:(cutL xs 0 (Int.ofNat k)).length=k:=by
            show ((xs.drop 0).take (k - 0)).length=k
            simp; omega
          have hr:=row_pre hk hr
          refine ⟨?_,rfl,fun j e hj => ?_,fun j h1 h2 => ?_⟩
          · unfold RowV at hv
            unfold RowR at hr
            cases hb:E.mb m with
            | none =>
              rw [hb] at hv hr
              have hr:cutL xs 0 (Int.ofNat k)=[]:=hr
              rw [hr]
              exact .nil _ hv.2
            | some b =>
              rw [hb] at hv hr
              have hv:va = .sl b 0 k:=hv
              obtain ⟨y,p1,p2,p3,p4,p5⟩:=hr
              have:=OwnR.blk (S:=S) (S2:=S.kill m) (h:=h) (E:=E) (u:=_) m b _ y (cutL xs 0 (Int.ofNat k)) hm hb (by rw [hget,if_pos rfl]) hlk (by rw [← M.hp]; exact p1) p2 p3 p4 p5
              rw [hcl] at this
              rw [hv]
              exact this
          · rw [hget] at hj
            split at hj
            · cases hj
            · exact hj
          · rw [hget] at h2
            split at h2
            · subst_vars; exact hcan
            · exact absurd h2 h1
        · cases ho
      · cases ho
    · cases ho
  · cases ho
theorem appendTo_rel (M:Mem S h E) {u:U} {z:Nat} {S2:SS} {va:HV} {old new:List (D u)} {c:List HV} (ho:OwnR S S2 h E u old va) (e0:S2=S.mem S2.st S.nx) (s1:∀ j e,S2.st.get j=some e→S.st.get j=some e) (s2:∀ j,S.st.get j≠none→S2.st.get j=none→S.can j=true) (hz:z=u.size) (hc:RdA (RdC E.hp E.Z u) c new) (hlen:(old++new).length≤140737488355328) (hk:K (.row S2.nx) (S2.new (.row u (appL old new)))=some r):Mv S h E K r (appendTo h z va c new.length):=by
  subst hz
  have hcl:=RdA_len (z:=u.size) (fun _ _ h=>h.len) hc
  have hS2:S2.new (.row u (appL old new))=S.mem (S2.st.set S.nx (.row u (appL old new))) (Nat.add S.nx 1):=by rw [e0]; rfl
  have hn2:S2.nx=S.nx:=by rw [e0]; rfl
  rw [hS2,hn2] at hk
  have fin:∀ (hp':Tr Hm.Obj) (nx':Nat) (o:Option Nat) (v:HV),
      (∀ b,b<h.nx→hp'.get b=h.hp.get b ∨ ∃ j e,S.st.get j=some e∧Bk E j b∧S2.st.get j=none)→h.nx≤nx'→(∀ b,nx'≤b→hp'.get b=none) →
      (∀ b,o=some b→b<nx'∧(h.nx≤b ∨ ∃ j e,S.st.get j=some e∧Bk E j b∧S2.st.get j=none∧isIn j S.lk=false)) →
      ((∀ u cs x,RdC E.hp E.Z u cs x→RdC hp' E.Z u cs x)→RowR ⟨hp',E.Z,E.mb,E.ib,E.st,E.nx⟩ o u (old++new)) →
      RowV o (old++new).length v→bcells v=some [v] →
      appendTo h u.size va c new.length=some (.val v ⟨h.nt,h.env,hp',nx',h.lk,h.df⟩)→Mv S h E K r (appendTo h u.size va c new.length):=by
    intro hp' nx' o v b1 b2 b3 b4 b5 b6 b7 b8
    have:=adopt_rel (st1:=S2.st) (hp':=hp') (nx':=nx') (o:=o) (e := .row u (appL old new)) M s1 s2 b1 b2 b3 b4 (fun g1 _=>⟨hlen,by
      rw [mb_new]
      exact b5 g1⟩)
    refine ⟨_,v,_,_,_,b8,this.1,this.2,rfl,rfl,V_row.2 ⟨?_,b7,fun e xs hxs => ?_,fun g e xs hxs=>(by
      have hxs:(S2.st.set S.nx (.row u (appL old new))).get S.nx=some (.rows g e xs):=hxs
      rw [Tr.get_set_same] at hxs
      cases hxs)⟩,hk⟩
    · exact Nat.lt_succ_self _
    · have hxs:(S2.st.set S.nx (.row u (appL old new))).get S.nx=some (.row e xs):=hxs
      rw [Tr.get_set_same] at hxs
      cases hxs
      rw [mb_new]
      exact b6
  cases ho with
  | nil v hv =>
    by_cases hk0:new.length=0
    · have hnil:new=[]:=List.length_eq_zero_iff.1 hk0
      subst hnil
      refine fin h.hp h.nx none va (fun b hb => .inl rfl) (Nat.le_refl _) M.fr (fun b hb=>by cases hb) (fun _=>rfl) ⟨rfl,hv⟩ (by rcases hv with rfl | rfl <;> rfl) ?_
      rcases hv with rfl | rfl <;> rfl
    · have hk0':Nat.beq new.length 0=false:=beq_false hk0
      refine fin (h.hp.set h.nx (.blk ⟨true,u.size,c.length,scatter .e 0 c⟩)) (h.nx+1) (some h.nx) (.sl h.nx 0 new.length) (fun b hb => .inl (new_keep b hb)) (Nat.le_succ _) (new_fr M) (fun b hb=>by cases hb; exact ⟨Nat.lt_succ_self _,.inl (Nat.le_refl _)⟩) (fun g1 => ?_) rfl rfl ?_
      · refine ⟨_,Tr.get_set_same _ _ _,rfl,rfl,by show ([]++new).length*_≤c.length; rw [List.nil_append,hcl]; exact Nat.le_refl _,fun i x hx => ?_⟩
        rw [List.nil_append] at hx
        obtain ⟨c1,c2,c3,p1,p2,p3,p4⟩:=RdA_get (z:=u.size) (fun _ _ h=>h.len) hc hx
        refine ⟨c2,?_,g1 _ _ _ p4⟩
        have hg:=gather_new (T:=(.e:Tr HV)) (w:=true) (z:=u.size) (n:=c.length) (p:=0) (c:=c) (by omega)
        have:=gather_sub hg p1 p2 p3
        rw [Nat.zero_add] at this
        exact this
      · rcases hv with rfl | rfl
        · show (bif Nat.beq new.length 0 then _ else _)=_
          rw [hk0']; rfl
        · show (bif Nat.beq new.length 0 then _ else _)=_
          rw [hk0']; rfl
  | blk m b e y xs h1 h2 h3 h4 h5 h6 h7 h8 h9 =>
    have hf:=not_lk M h1 (.inl h2) h4
    have hbn:=(M.own m e b h1 (.inl h2)).2
    have hcond:(y.own&&(h.free b&&Nat.beq y.z u.size))=true:=by
      rw [h6,h7]
      unfold St.free
      rw [hf]
      simp
    have happ:appendTo h u.size (.sl b 0 old.length) c new.length=(bif Nat.ble (Nat.add 0 (Nat.mul (Nat.add old.length new.length) u.size)) y.n then
        (match h.write b (Nat.add 0 (Nat.mul old.length u.size)) c with
          | some s'=>some (.val (.sl b 0 (Nat.add old.length new.length)) s')
          | none=>none)
      else bif Nat.ble (Nat.add 0 (Nat.mul old.length u.size)) y.n then
        some (.val (.sl h.nx 0 (Nat.add old.length new.length)) ⟨h.nt,h.env,(h.hp.del b).set h.nx (.blk ⟨true,u.size,Nat.mul (Nat.add old.length new.length) u.size,scatter y.c (Nat.mul old.length u.size) c⟩),Nat.add h.nx 1,h.lk,h.df⟩) else none):=by
      show (match h.blk b with | some x=>_ | none=>none)=_
      rw [blk_of h5]
      simp only
      rw [hcond]
      rfl
    have hmul:(old.length+new.length)*u.size=old.length*u.size+c.length:=by rw [Nat.add_mul,hcl]
    by_cases hfit:old.length*u.size+c.length≤y.n
    · have hw:=write_of (o:=0+old.length*u.size) (c:=c) h5 h6 hf (by omega)
      refine fin (h.hp.set b (.blk ⟨true,y.z,y.n,scatter y.c (0+old.length*u.size) c⟩)) h.nx (some b) (.sl b 0 (old.length+new.length)) (fun d hd => ?_) (Nat.le_refl _) (fun d hd => ?_) (fun d hd => ?_) (fun g1 => ?_) (by show _=HV.sl b 0 (old++new).length; rw [List.length_append]) rfl ?_
      · by_cases hdb:d=b
        · subst hdb; exact .inr ⟨m,e,h1,.inl h2,h3⟩
        · exact .inl (Tr.get_set_ne _ _ hdb)
      · rw [Tr.get_set_ne _ _ (by omega)]
        exact M.fr d hd
      · cases hd
        exact ⟨hbn,.inr ⟨m,e,h1,.inl h2,h3,h4⟩⟩
      · rw [Nat.zero_add] at *
        refine ⟨_,Tr.get_set_same _ _ _,rfl,h7,by rw [List.length_append,hmul]; exact hfit,row_app (w:=true) (z':=y.z) (n:=y.n) (fun _ _ h=>h.len) (fun i x hx => ?_) (RdA_mono (fun _ _ h=>g1 _ _ _ h) hc) (by rw [hmul]; exact hfit)⟩
        obtain ⟨cs,k1,k2⟩:=h9 i x hx
        exact ⟨cs,k1,g1 _ _ _ k2⟩
      · rw [happ]
        rw [show Nat.ble (Nat.add 0 (Nat.mul (Nat.add old.length new.length) u.size)) y.n=true by
          rw [Nat.ble_eq]
          show 0+(old.length+new.length)*u.size≤y.n
          omega]
        show (match h.write b (0+old.length*u.size) c with | some s'=>_ | none=>none)=_
        rw [hw]
        rfl
    · refine fin ((h.hp.del b).set h.nx (.blk ⟨true,u.size,(old.length+new.length)*u.size,scatter y.c (old.length*u.size) c⟩)) (h.nx+1) (some h.nx) (.sl h.nx 0 (old.length+new.length)) (fun d hd => ?_) (Nat.le_succ _) (fun d hd => ?_) (fun d hd=>by cases hd; exact ⟨Nat.lt_succ_self _,.inl (Nat.le_refl _)⟩) (fun g1 => ?_) (by show _=HV.sl h.nx 0 (old++new).length; rw [List.length_append]) rfl ?_
      · by_cases hdb:d=b
        · subst hdb; exact .inr ⟨m,e,h1,.inl h2,h3⟩
        · exact .inl (by rw [Tr.get_set_ne _ _ (by omega),Tr.get_del,if_neg hdb])
      · rw [Tr.get_set_ne _ _ (by omega),Tr.get_del,if_neg (by omega)]
        exact M.fr d (by omega)
      · refine ⟨_,Tr.get_set_same _ _ _,rfl,rfl,by rw [List.length_append]; exact Nat.le_refl _,row_app (w:=true) (z':=u.size) (n:=(old.length+new.length)*u.size) (fun _ _ h=>h.len) (fun i x hx => ?_) (RdA_mono (fun _ _ h=>g1 _ _ _ h) hc) (Nat.le_refl _)⟩
        obtain ⟨cs,k1,k2⟩:=h9 i x hx
        exact ⟨cs,k1,g1 _ _ _ k2⟩
      · rw [happ]
        rw [show Nat.ble (Nat.add 0 (Nat.mul (Nat.add old.length new.length) u.size)) y.n=false by
          cases hq:Nat.ble (Nat.add 0 (Nat.mul (Nat.add old.length new.length) u.size)) y.n with
          | false=>rfl
          | true =>
            rw [Nat.ble_eq] at hq
            have hq:0+(old.length+new.length)*u.size≤y.n:=hq
            omega]
        rw [show Nat.ble (Nat.add 0 (Nat.mul old.length u.size)) y.n=true by
          rw [Nat.ble_eq]
          show 0+old.length*u.size≤y.n
          omega]
        rfl
theorem src_rel (M:Mem S h E) {u:U} {x:SV} {vx:HV} {new:List (D u)} {L:List Nat} {S1:SS} {E1:En} (hx:V E x vx) (hnew:rdV S.st (.list u) x=some new) (hL:rowsI S.st [x]=some L) (M1:Mem S1 h E1) (g1:Gr S h E S1 h E1) (e3:∀ m e b,isIn m (bif u.flat then [] else L)=true→S.st.get m=some e→Bk E m b→E1.Z b):∃ c,srcOf h u.size vx=some (c,new.length)∧RdA (RdC E1.hp E1.Z u) c new ∧ ∀ s,vx ≠ .str s:=by
  have hE1:E1.hp=E.hp:=by rw [M1.hp,M.hp]
  have hcov:u.flat=true∨Cov E E1.Z 3 [x]:=by
    cases hf:u.flat with
    | true=>exact .inl rfl
    | false =>
      rw [hf] at e3
      exact .inr (rowsK_cov (E:=E) (Q:=E1.Z) (by rw [M.st]; exact hL) (fun m' e' b' hm' he' hb'=>e3 m' e' b' (isIn_iff.2 hm') (by rw [← M.st]; exact he') hb'))
  have hent:∀ m e,E.st.get m=some e→EntR E m e:=fun m e hm=>M.ent m e (by rw [← M.st]; exact hm)
  rcases hcov with hf | hcov
  · have hbig:RdV E.hp (fun _=>True) (.list u) vx new:=rdV_rel (E:=E) (Q:=fun _=>True) (k:=3) (fun _ _=>trivial) hent (by rw [M.st]; exact hnew) hx (cov_all (fun _ _ _ _ _=>trivial) (by rw [M.st]; exact hL))
    have hbig:RdC E.hp (fun _=>True) (.list u) [vx] new:=hbig
    unfold RdC at hbig
    obtain ⟨v,hv,hbig⟩:=hbig
    cases hv
    obtain ⟨c,k1,k2,k3⟩:=src_of (h:=h) hbig (fun _ _ h=>h.len) M.hp
    exact ⟨c,k1,RdA_mono (fun _ _ h=>h.flat hf) k2,k3⟩
  · have hbig:RdV E.hp E1.Z (.list u) vx new:=rdV_rel (E:=E) (Q:=E1.Z) (k:=3) g1.z hent (by rw [M.st]; exact hnew) hx hcov
    have hbig:RdC E.hp E1.Z (.list u) [vx] new:=hbig
    unfold RdC at hbig
    obtain ⟨v,hv,hbig⟩:=hbig
    cases hv
    obtain ⟨c,k1,k2,k3⟩:=src_of (h:=h) hbig (fun _ _ h=>h.len) M.hp
    exact ⟨c,k1,by rw [hE1]; exact k2,k3⟩
theorem appendS_rel (M:Mem S h E) {t t2:Nat} {a x:SV} {va vx:HV} (hk:appendS cy S t t2 a x K=some r) (ha:V E a va) (hx:V E x vx):Mv S h E K r (doAppend cy.cx h t t2 va vx):=by
  unfold appendS at hk
  split at hk
  · rename_i y u hy hu
    rw [bif_eq] at hk
    split at hk
    · rename_i hsrc
      split at hk
      · rename_i new hnew
        split at hk
        · rename_i L hL
          split at hk
          · rename_i S1 hS1
            split at hk
            · rename_i old S2 hown
              obtain ⟨hroom,hk2⟩:=chk_some hk
              clear hk
              obtain ⟨E1,M1,g1,e1,e2,e3,e4,e5,e6⟩:=freeze_rel M hS1
              have hz:=elU_size hy hu
              have hE1:E1.hp=E.hp:=by rw [M1.hp,M.hp]
              obtain ⟨c,hsc,hRd,hns⟩:=src_rel M hx hnew hL M1 g1 e3
              have ha1:V E1 a va:=ha.gr g1 M M1
              obtain ⟨o1,o2,o3,o4⟩:=ownOf_rel M1 hown ha1
              have hlo:lenOf va=some old.length:=by
                cases o1 with
                | nil v hv=>rcases hv with rfl | rfl <;> rfl
                | blk=>rfl
              have hbig:(old++new).length≤140737488355328:=by
                rw [List.length_append]
                exact room_le hroom (sliceEl_len hy).2
              obtain ⟨s,v,h',S',E',q1,q2,q3,q4,q5,q6,q7⟩:=appendTo_rel (z:=y.z) M1 o1 o2 o3 o4 hz hRd hbig hk2
              refine ⟨s,v,h',S',E',?_,q2,g1.trans q3,q4.trans e1,q5,q6,q7⟩
              unfold doAppend
              rw [hy]
              simp only
              rw [isSrcS_rel hsrc hns,hz,hsc,hlo]
              simp only
              rw [show roomOk (Nat.add old.length new.length) y.by_=true from hroom, ← hz]
              exact q1
            · cases hk
          · cases hk
        · cases hk
      · cases hk
    · cases hk
  · cases hk
end
end Go.Ls
namespace Go.Ls
open Go Go.Hm
section
variable {E:En} {S:SS} {h:St} {cy:Cy} {R:Type} {r:R} {K:SV→SS→Option R}
def VO (E:En):Option SV→Option HV→Prop
  | none,o=>o=none
  | some s,o => ∃ v,o=some v∧V E s v
theorem evOS_rel (hE:Env S h E) {x:Option Operand} {o:Option SV} (hx:evOS S x=some o):∃ q,evO h x=some q∧VO E o q:=by
  unfold evOS at hx
  split at hx
  · cases hx; exact ⟨none,rfl,rfl⟩
  · split at hx
    · rename_i s hs
      cases hx
      obtain ⟨v,g1,g2⟩:=ev_rel hE hs
      exact ⟨some v,by unfold evO; simp only; rw [g1],v,rfl,g2⟩
    · cases hx
theorem boundS_rel {d:Nat} {o:Option SV} {q:Option HV} {x:Int} (hb:boundS (Int.ofNat d) o=some x) (hv:VO E o q) (h0:0≤x):∃ p,optNat q=some p∧orNat d p=x.toNat:=by
  unfold boundS at hb
  split at hb
  · cases hb
    have hv:q=none:=hv
    subst hv
    exact ⟨none,rfl,rfl⟩
  · cases hb
    obtain ⟨v,rfl,hv⟩:=hv
    rw [V_int] at hv
    subst hv
    obtain ⟨n,rfl⟩:∃ n:Nat,x=Int.ofNat n:=⟨_,natB h0⟩
    exact ⟨some n,rfl,rfl⟩
  · cases hb
theorem isZ_rel {o:Option SV} {q:Option HV} (hz:isZ o=true) (hv:VO E o q):∃ p,optNat q=some p∧orNat 0 p=0∧(o.isSome=true→p=some 0):=by
  unfold isZ at hz
  split at hz
  · have hv:q=none:=hv
    subst hv
    exact ⟨none,rfl,rfl,fun h=>by cases h⟩
  · rename_i k x
    have hz:x=0:=by simpa using hz
    subst hz
    obtain ⟨v,rfl,hv⟩:=hv
    rw [V_int] at hv
    subst hv
    exact ⟨some 0,rfl,rfl,fun _=>rfl⟩
  · cases hz
theorem okCut_some {lo hi n:Int} (h:okCut lo hi n=true):0≤lo∧lo≤hi∧hi≤n:=by
  unfold okCut at h
  simp only [Bool.and_eq_true,decide_eq_true_eq] at h
  exact ⟨h.1,h.2.1,h.2.2⟩
theorem cutL_get {α:Type} {xs:List α} {lo hi:Int} {i:Nat} {x:α} (h:(cutL xs lo hi)[i]?=some x):xs[lo.toNat+i]?=some x∧lo.toNat+i<hi.toNat:=by
  unfold cutL at h
  rw [List.getElem?_take] at h
  split at h
  · rw [List.getElem?_drop] at h
    exact ⟨h,by omega⟩
  · cases h
theorem cutL_len {α:Type} {xs:List α} {lo hi:Int} (h:okCut lo hi (lenL xs)=true):(cutL xs lo hi).length=hi.toNat - lo.toNat:=by
  obtain ⟨h1,h2,h3⟩:=okCut_some h
  unfold cutL
  unfold lenL at h3
  rw [List.length_take,List.length_drop]
  have:hi.toNat≤xs.length:=by
    obtain ⟨n,rfl⟩:∃ n:Nat,hi=Int.ofNat n:=⟨_,natB (by omega)⟩
    exact Int.ofNat_le.1 h3
  omega
theorem slice_list (M:Mem S h E) {t e z:Nat} {x:TInf} {u:U} {xs:List (D u)} {va:HV} {lo hi:Option SV} {l hh:Int} {ql qh:Option HV} (hx:cy.cx.ti.get t=some x) (hsh:x.sh = .slice e) (hz:cy.cx.size e=some z) (huz:u.size=z) (hz1:1≤z) (ha:V E (.val (.list u) xs) va) (hl:boundS 0 lo=some l) (hhi:boundS (lenL xs) hi=some hh) (hc:okCut l hh (lenL xs)=true) (vl:VO E lo ql) (vh:VO E hi qh):∃ v,doSlice cy.cx h t va ql qh none=some (.val v h)∧V E (.val (.list u) (cutL xs l hh)) v:=by
  subst huz
  obtain ⟨c1,c2,c3⟩:=okCut_some hc
  obtain ⟨pl,e1,e2⟩:=boundS_rel (d:=0) hl vl c1
  obtain ⟨ph,e3,e4⟩:=boundS_rel (d:=xs.length) hhi vh (by omega)
  have hlen:=cutL_len hc
  have hle:l.toNat≤hh.toNat:=by omega
  have hhl:hh.toNat≤xs.length:=by
    obtain ⟨n,rfl⟩:∃ n:Nat,hh=Int.ofNat n:=⟨_,natB (by omega)⟩
    exact Int.ofNat_le.1 c3
  have hd:∀ w,doSlice cy.cx h t w ql qh none=(match x.sh,w with
    | .slice e,.sl b o n=>(match cy.cx.size e,h.blk b with
      | some z,some y=>(match sliceSl y b o n z l.toNat ph none with
        | some v=>some (.val v h)
        | none=>none)
      | _,_=>none)
    | .slice e,.asl b o n=>(match cy.cx.size e,(none:Option Nat) with
      | some z,none=>(let h':=orNat n ph
        bif Nat.ble l.toNat h'&&Nat.ble h' n then some (.val (Hm.part HV.asl b o z l.toNat h') h) else none)
      | _,_=>none)
    | .slice e,v=>(match cy.cx.size e,sliceEmp v l.toNat ph none with
      | some _,some u=>some (.val u h)
      | _,_=>none)
    | .arr m e,.ptr b o=>(match cy.cx.size e,(none:Option Nat) with
      | some z,none=>(let h':=orNat m ph
        bif Nat.ble m 1000000&&(Nat.ble l.toNat h'&&Nat.ble h' m) then some (.val (Hm.part HV.asl b o z l.toNat h') h) else none)
      | _,_=>none)
    | .str,.str b=>(match (none:Option Nat) with
      | none=>(let h':=orNat b.size ph
        bif Nat.ble l.toNat h'&&Nat.ble h' b.size then some (.val (.str (b.extract l.toNat h')) h) else none)
      | some _=>none)
    | _,_=>none):=by
    intro w
    unfold doSlice
    rw [hx,e1,e3,show optNat none=some none from rfl]
    simp only
    rw [e2]
    rfl
  rw [V_list] at ha
  rcases ha with ⟨h0,h1⟩ | ⟨b,o,y,⟨h1,h1'⟩,h2,h3,h4,h5,h6⟩
  · subst h0
    have h00:hh.toNat=0:=by simpa using hhl
    have hl0:l.toNat=0:=by omega
    have hnil:cutL ([]:List (D u)) l hh=[]:=by
      apply List.length_eq_zero_iff.1
      rw [hlen]; omega
    have e4':orNat 0 ph=0:=by rw [h00] at e4; exact e4
    have hemp:(Nat.beq l.toNat 0&&(Nat.beq (orNat 0 ph) 0&&Nat.beq (orNat 0 (none:Option Nat)) 0))=true:=by
      rw [hl0,e4']; rfl
    refine ⟨va,?_,?_⟩
    · rw [hd]
      rw [hsh]
      rcases h1 with rfl | rfl | rfl
      · show (match cy.cx.size e,sliceEmp HV.nils l.toNat ph none with | some _,some u=>some (Rs.val u h) | _,_=>none)=_
        rw [hz]
        unfold sliceEmp
        rw [hemp]; rfl
      · show (match cy.cx.size e,sliceEmp HV.esl l.toNat ph none with | some _,some u=>some (Rs.val u h) | _,_=>none)=_
        rw [hz]
        unfold sliceEmp
        rw [hemp]; rfl
      · show (match cy.cx.size e,sliceEmp HV.emp l.toNat ph none with | some _,some u=>some (Rs.val u h) | _,_=>none)=_
        rw [hz]
        unfold sliceEmp
        rw [hemp]; rfl
    · rw [hnil,V_list]
      exact .inl ⟨rfl,h1⟩
  · subst h1
    have hmul:hh.toNat*u.size≤xs.length*u.size:=Nat.mul_le_mul_right _ hhl
    have hcond:((Nat.ble 1 u.size&&Nat.ble hh.toNat 140737488355328)&&(Nat.ble l.toNat hh.toNat&&(Nat.beq y.z u.size&&Nat.ble (Nat.add o (Nat.mul hh.toNat u.size)) y.n)))=true:=by
      simp only [Bool.and_eq_true,Nat.ble_eq]
      refine ⟨⟨hz1,by omega⟩,hle,by rw [h1']; simp,?_⟩
      show o+hh.toNat*u.size≤y.n
      omega
    have hsl:sliceSl y b o xs.length u.size l.toNat ph none=some (Hm.part HV.sl b o u.size l.toNat hh.toNat):=by
      unfold sliceSl
      simp only
      rw [e4,hcond]
      rfl
    have hb:h.blk b=some y:=blk_of (by rw [← M.hp]; exact h3)
    refine ⟨Hm.part HV.sl b o u.size l.toNat hh.toNat,?_,?_⟩
    · rw [hd,hsh]
      simp only
      rw [hz,hb]
      simp only
      rw [hsl]
    · rw [V_list]
      unfold Hm.part
      rw [bif_eq]
      split
      · rename_i hq
        simp only [Bool.and_eq_true] at hq
        have:=Nat.eq_of_beq_eq_true hq.1
        exact .inl ⟨List.length_eq_zero_iff.1 (by rw [hlen]; omega),.inr (.inr rfl)⟩
      · refine .inr ⟨b,o+l.toNat*u.size,y,⟨by rw [hlen]; rfl,h1'⟩,h2,h3,?_,by omega,fun i w hw => ?_⟩
        · rw [hlen]
          have:l.toNat*u.size+(hh.toNat - l.toNat)*u.size=hh.toNat*u.size:=by rw [← Nat.add_mul]; congr 1; omega
          omega
        · obtain ⟨k1,k2⟩:=cutL_get hw
          obtain ⟨cs,k3,k4⟩:=h6 _ w k1
          refine ⟨cs,?_,k4⟩
          rw [Nat.add_mul] at k3
          rw [Nat.add_assoc]; exact k3
theorem doSlice_emp {t e z:Nat} {x:TInf} {w u:HV} {ql qh qm:Option HV} {pl ph pm:Option Nat} (hx:cy.cx.ti.get t=some x) (hsh:x.sh = .slice e) (hz:cy.cx.size e=some z) (h1:optNat ql=some pl) (h2:optNat qh=some ph) (h3:optNat qm=some pm) (hw:w = .nils∨w = .esl∨w = .emp) (hs:sliceEmp w (orNat 0 pl) ph pm=some u):doSlice cy.cx h t w ql qh qm=some (.val u h):=by
  unfold doSlice
  rw [hx,h1,h2,h3]
  simp only
  rw [hsh]
  rcases hw with rfl | rfl | rfl
  · show (match cy.cx.size e,sliceEmp HV.nils (orNat 0 pl) ph pm with | some _,some u=>some (Rs.val u h) | _,_=>none)=_
    rw [hz,hs]
  · show (match cy.cx.size e,sliceEmp HV.esl (orNat 0 pl) ph pm with | some _,some u=>some (Rs.val u h) | _,_=>none)=_
    rw [hz,hs]
  · show (match cy.cx.size e,sliceEmp HV.emp (orNat 0 pl) ph pm with | some _,some u=>some (Rs.val u h) | _,_=>none)=_
    rw [hz,hs]
theorem doSlice_sl {t e z b o n:Nat} {x:TInf} {y:Blk} {v:HV} {ql qh qm:Option HV} {pl ph pm:Option Nat} (hx:cy.cx.ti.get t=some x) (hsh:x.sh = .slice e) (hz:cy.cx.size e=some z) (h1:optNat ql=some pl) (h2:optNat qh=some ph) (h3:optNat qm=some pm) (hb:h.blk b=some y) (hs:sliceSl y b o n z (orNat 0 pl) ph pm=some v):doSlice cy.cx h t (.sl b o n) ql qh qm=some (.val v h):=by
  unfold doSlice
  rw [hx,h1,h2,h3]
  simp only
  rw [hsh]
  simp only
  rw [hz,hb]
  simp only
  rw [hs]
theorem emp_ok {w:HV} {pl ph:Option Nat} (hl:orNat 0 pl=0) (hh:orNat 0 ph=0) (hw:w = .nils∨w = .esl∨w = .emp):sliceEmp w (orNat 0 pl) ph none=some w:=by
  unfold sliceEmp
  rw [hl,hh]
  rcases hw with rfl | rfl | rfl <;> rfl
theorem emp_ok3 {w:HV} {pl:Option Nat} (hl:orNat 0 pl=0) (hw:w = .nils∨w = .esl∨w = .emp):∃ u,sliceEmp w (orNat 0 pl) (some 0) (some 0)=some u∧(u = .nils∨u = .esl)∧(w = .nils→u = .nils):=by
  unfold sliceEmp
  rw [hl]
  rcases hw with rfl | rfl | rfl
  · exact ⟨_,rfl,.inl rfl,fun _=>rfl⟩
  · exact ⟨_,rfl,.inr rfl,fun h=>by cases h⟩
  · exact ⟨_,rfl,.inr rfl,fun h=>by cases h⟩
theorem litO_rel {d:Nat} {o:Option SV} {q:Option HV} {l:Nat} (hl:(match o with | none=>some d | some v=>litN v)=some l) (hv:VO E o q):∃ p,optNat q=some p∧orNat d p=l:=by
  cases o with
  | none =>
    cases hl
    have hv:q=none:=hv
    subst hv
    exact ⟨none,rfl,rfl⟩
  | some s =>
    obtain ⟨v,rfl,hv⟩:=hv
    obtain ⟨k,rfl⟩:=litN_some hl
    rw [V_int] at hv
    subst hv
    exact ⟨some l,rfl,rfl⟩
theorem VO.mono {E':En} (hf:∀ s v,V E s v→V E' s v):∀ {o:Option SV} {q:Option HV},VO E o q→VO E' o q
  | none,_,h=>h
  | some _,_,⟨v,h1,h2⟩=>⟨v,h1,hf _ _ h2⟩
theorem frz_mem (M:Mem S h E) (m:Nat):Mem (S.kill m) h (frz E S m)∧Fm E.nx E (frz E S m):=by
  have M0:Mem (⟨S.nt,S.env,S.st,S.nx,S.lk,0,S.wr,S.kp⟩:SS) h E:=⟨M.hp,M.st,M.nx,M.lt,M.ent,M.inj,M.own,M.z,M.fr,M.lk,M.mbl,M.noi⟩
  obtain ⟨M1,g1⟩:=kill_rel M0 (m:=m) (by unfold SS.can; show (Nat.ble 0 m||_)=true; simp)
  exact ⟨⟨M1.hp,M1.st,M1.nx,M1.lt,M1.ent,M1.inj,M1.own,M1.z,M1.fr,M1.lk,M1.mbl,M1.noi⟩,g1.fm M0 M1⟩
theorem slice_row (M:Mem S h E) {t e z m:Nat} {x:TInf} {u:U} {xs:List (D u)} {va:HV} {lo hi:Option SV} {l hh:Int} {ql qh:Option HV} (hx:cy.cx.ti.get t=some x) (hsh:x.sh = .slice e) (hz:cy.cx.size e=some z) (huz:u.size=z) (hz1:1≤z) (hm:S.st.get m=some (.row u xs)) (ha:V E (.row m) va) (hl:boundS 0 lo=some l) (hhi:boundS (lenL xs) hi=some hh) (hc:okCut l hh (lenL xs)=true) (vl:VO E lo ql) (vh:VO E hi qh):∃ v,doSlice cy.cx h t va ql qh none=some (.val v h)∧V (frz E S m) (.val (.list u) (cutL xs l hh)) v:=by
  obtain ⟨M1,f1⟩:=frz_mem M m
  have hf:∀ s v,V E s v→V (frz E S m) s v:=fun s v hv=>hv.fm f1 (.inl rfl)
  rw [V_row] at ha
  have hv:=ha.2.2.1 u xs (by rw [M.st]; exact hm)
  obtain ⟨hl1,hr⟩:=M.ent m _ hm
  have hV:V (frz E S m) (.val (.list u) xs) va:=by
    rw [V_list]
    exact row_rd (E:=E) (Q:=(frz E S m).Z) (fun c hc => .inr ⟨by rw [hm]; rfl,.inl hc⟩) (fun b hb => .inl hb) hl1 hv hr
  exact slice_list M1 hx hsh hz huz hz1 hV hl hhi hc (vl.mono hf) (vh.mono hf)
theorem sliceS_rel (M:Mem S h E) {t:Nat} {a:SV} {va:HV} {lo hi mx:Option SV} {ql qh qm:Option HV} (hk:sliceS cy S t a lo hi mx K=some r) (ha:V E a va) (vl:VO E lo ql) (vh:VO E hi qh) (vm:VO E mx qm):Mv S h E K r (doSlice cy.cx h t va ql qh qm):=by
  have stay:∀ s v,doSlice cy.cx h t va ql qh qm=some (.val v h)→V E s v→K s S=some r→Mv S h E K r (doSlice cy.cx h t va ql qh qm):=fun s v h1 h2 h3=>⟨s,v,h,S,E,h1,M,Gr.refl,rfl,rfl,h2,h3⟩
  unfold sliceS at hk
  split at hk
  · rename_i x hx
    split at hk
    · rename_i e hsh
      split at hk
      · rename_i z hz
        split at hk
        · rename_i u xs
          have vm:qm=none:=vm
          subst vm
          split at hk
          · rename_i l hh hl hhi
            rw [bif_eq] at hk
            split at hk
            · rename_i hc
              simp only [Bool.and_eq_true,Nat.ble_eq] at hc
              obtain ⟨h1,h2⟩:=chk_some hk
              obtain ⟨v,g1,g2⟩:=slice_list M hx hsh hz (Nat.eq_of_beq_eq_true hc.1) hc.2 ha hl hhi h1 vl vh
              exact stay _ v g1 g2 h2
            · cases hk
          · cases hk
        · rename_i u xs m
          rw [bif_eq] at hk
          split at hk
          · rename_i hc
            simp only [Bool.and_eq_true,Nat.ble_eq] at hc
            obtain ⟨pl,e1,e2,_⟩:=isZ_rel hc.1.1.1.2 vl
            obtain ⟨ph,e3,e4,e5⟩:=isZ_rel hc.1.1.2 vh
            obtain ⟨pm,e6,e7,e8⟩:=isZ_rel hc.1.2 vm
            have:=e5 hc.2; subst this
            have:=e8 rfl; subst this
            have huz:=Nat.eq_of_beq_eq_true hc.1.1.1.1.1
            subst huz
            rw [V_list] at ha
            rcases ha with ⟨h0,h1⟩ | ⟨b,o,y,⟨h1,h1'⟩,h2,h3,h4,h5,h6⟩
            · obtain ⟨w,g1,g2,_⟩:=emp_ok3 e2 h1
              exact stay _ w (doSlice_emp hx hsh hz e1 e3 e6 h1 g1) (V_esl.2 g2) hk
            · subst h1
              refine stay _ .esl (doSlice_sl hx hsh hz e1 e3 e6 (blk_of (by rw [← M.hp]; exact h3)) ?_) (V_esl.2 (.inr rfl)) hk
              unfold sliceSl
              simp only
              rw [e2]
              have c1:((Nat.ble 1 u.size&&Nat.ble (orNat xs.length (some 0)) 140737488355328)&&(Nat.ble 0 (orNat xs.length (some 0))&&(Nat.beq y.z u.size&&Nat.ble (Nat.add o (Nat.mul (orNat xs.length (some 0)) u.size)) y.n)))=true:=by
                simp only [Bool.and_eq_true,Nat.ble_eq]
                refine ⟨⟨hc.1.1.1.1.2,Nat.zero_le _⟩,Nat.zero_le _,by rw [h1']; simp,?_⟩
                show o+0*u.size≤y.n
                omega
              rw [c1]
              have c2:(Nat.ble (orNat xs.length (some 0)) 0&&Nat.ble (Nat.add o (Nat.mul 0 u.size)) y.n)=true:=by
                simp only [Bool.and_eq_true,Nat.ble_eq]
                refine ⟨Nat.le_refl _,?_⟩
                show o+0*u.size≤y.n
                omega
              show (bif (Nat.ble (orNat xs.length (some 0)) 0&&Nat.ble (Nat.add o (Nat.mul 0 u.size)) y.n) then _ else _)=_
              rw [c2]
              rfl
          · cases hk
        · have vm:qm=none:=vm
          subst vm
          rw [bif_eq] at hk
          split at hk
          · rename_i hc
            simp only [Bool.and_eq_true] at hc
            obtain ⟨pl,e1,e2,_⟩:=isZ_rel hc.1 vl
            obtain ⟨ph,e3,e4,e5⟩:=isZ_rel hc.2 vh
            have ha':=V_nils.1 ha
            exact stay _ va (doSlice_emp hx hsh hz e1 e3 rfl (.inl ha') (emp_ok e2 e4 (.inl ha'))) ha hk
          · split at hk
            · rename_i l hh hl hhi
              obtain ⟨h1,h2⟩:=chk_some hk
              obtain ⟨c1,c2,c3⟩:=okCut_some h1
              obtain ⟨pl,e1,e2⟩:=boundS_rel (d:=0) hl vl c1
              obtain ⟨ph,e3,e4⟩:=boundS_rel (d:=0) hhi vh (by omega)
              have ha':=V_nils.1 ha
              exact stay _ va (doSlice_emp hx hsh hz e1 e3 rfl (.inl ha') (emp_ok (by rw [e2]; omega) (by rw [e4]; omega) (.inl ha'))) ha h2
            · cases hk
        · rw [bif_eq] at hk
          split at hk
          · rename_i hc
            simp only [Bool.and_eq_true] at hc
            obtain ⟨pl,e1,e2,_⟩:=isZ_rel hc.1.1.1 vl
            obtain ⟨ph,e3,e4,e5⟩:=isZ_rel hc.1.1.2 vh
            obtain ⟨pm,e6,e7,e8⟩:=isZ_rel hc.1.2 vm
            have:=e5 hc.2; subst this
            have:=e8 rfl; subst this
            have ha':=V_nils.1 ha
            obtain ⟨w,g1,g2,g3⟩:=emp_ok3 e2 (.inl ha')
            exact stay _ w (doSlice_emp hx hsh hz e1 e3 e6 (.inl ha') g1) (V_nils.2 (g3 ha')) hk
          · cases hk
        · have vm:qm=none:=vm
          subst vm
          rw [bif_eq] at hk
          split at hk
          · rename_i hc
            simp only [Bool.and_eq_true] at hc
            obtain ⟨pl,e1,e2,_⟩:=isZ_rel hc.1 vl
            obtain ⟨ph,e3,e4,e5⟩:=isZ_rel hc.2 vh
            have ha':va = .nils∨va = .esl∨va = .emp:=(V_esl.1 ha).imp_right .inl
            exact stay _ va (doSlice_emp hx hsh hz e1 e3 rfl ha' (emp_ok e2 e4 ha')) ha hk
          · cases hk
        · rw [bif_eq] at hk
          split at hk
          · rename_i hc
            simp only [Bool.and_eq_true] at hc
            obtain ⟨pl,e1,e2,_⟩:=isZ_rel hc.1.1.1 vl
            obtain ⟨ph,e3,e4,e5⟩:=isZ_rel hc.1.1.2 vh
            obtain ⟨pm,e6,e7,e8⟩:=isZ_rel hc.1.2 vm
            have:=e5 hc.2; subst this
            have:=e8 rfl; subst this
            have ha':va = .nils∨va = .esl∨va = .emp:=(V_esl.1 ha).imp_right .inl
            obtain ⟨w,g1,g2,g3⟩:=emp_ok3 e2 ha'
            exact stay _ w (doSlice_emp hx hsh hz e1 e3 e6 ha' g1) (V_esl.2 g2) hk
          · cases hk
        · rename_i m
          have vm:qm=none:=vm
          subst vm
          split at hk
          · rename_i u xs hm
            split at hk
            · rename_i hh hhi
              rw [bif_eq] at hk
              split at hk
              · rename_i hc
                simp only [Bool.and_eq_true,Nat.ble_eq] at hc
                obtain ⟨huz,hz1⟩:=hc
                have huz:=Nat.eq_of_beq_eq_true huz
                rw [bif_eq] at hk
                split at hk
                · rename_i hlo
                  subst huz
                  obtain ⟨h1,h2⟩:=chk_some hk
                  obtain ⟨c1,c2,c3⟩:=okCut_some h1
                  obtain ⟨pl,e1,e2,_⟩:=isZ_rel hlo vl
                  obtain ⟨ph,e3,e4⟩:=boundS_rel (d:=xs.length) hhi vh (by omega)
                  have hhl:hh.toNat≤xs.length:=by
                    obtain ⟨n,rfl⟩:∃ n:Nat,hh=Int.ofNat n:=⟨_,natB (by omega)⟩
                    exact Int.ofNat_le.1 c3
                  obtain ⟨hl1,hr⟩:=M.ent m _ hm
                  rw [V_row] at ha
                  have hv:=ha.2.2.1 u xs (by rw [M.st]; exact hm)
                  have hhn:hh=Int.ofNat hh.toNat:=natB (by omega)
                  unfold RowV at hv
                  cases hb:E.mb m with
                  | none =>
                    rw [hb] at hv
                    have h0:hh.toNat=0:=by have:=hv.1; omega
                    have hw:va = .nils∨va = .esl∨va = .emp:=hv.2.imp_right .inl
                    have e4':orNat 0 ph=0:=by rw [hv.1] at e4; omega
                    refine stay _ va (doSlice_emp hx hsh hz e1 e3 rfl hw (emp_ok e2 e4' hw)) (V_vw.2 ⟨ha.1,ha.2.1,fun e xs' hxs => ?_⟩) h2
                    rw [M.st,hm] at hxs
                    cases hxs
                    exact ⟨hh.toNat,hhn,hhl,by rw [hb]; exact ⟨h0,hv.2⟩⟩
                  | some b =>
                    rw [hb] at hv
                    subst hv
                    unfold RowR at hr
                    rw [hb] at hr
                    obtain ⟨y,p1,p2,p3,p4,p5⟩:=hr
                    have hmul:=Nat.mul_le_mul_right u.size hhl
                    refine stay _ (.sl b 0 hh.toNat) (doSlice_sl hx hsh hz e1 e3 rfl (blk_of (by rw [← M.hp]; exact p1)) ?_) (V_vw.2 ⟨ha.1,rfl,fun e xs' hxs => ?_⟩) h2
                    · unfold sliceSl
                      simp only
                      rw [e2,e4]
                      have cc:((Nat.ble 1 u.size&&Nat.ble hh.toNat 140737488355328)&&(Nat.ble 0 hh.toNat&&(Nat.beq y.z u.size&&Nat.ble (Nat.add 0 (Nat.mul hh.toNat u.size)) y.n)))=true:=by
                        simp only [Bool.and_eq_true,Nat.ble_eq]
                        refine ⟨⟨hz1,by omega⟩,Nat.zero_le _,by rw [p3]; simp,?_⟩
                        show 0+hh.toNat*u.size≤y.n
                        omega
                      rw [cc]
                      show some (Hm.part HV.sl b 0 u.size 0 hh.toNat)=_
                      unfold Hm.part
                      rw [show (Nat.beq hh.toNat 0 && !Nat.beq 0 0)=false by simp]
                      show some (HV.sl b (0+0*u.size) (hh.toNat - 0))=_
                      rw [Nat.zero_mul,Nat.sub_zero]
                    · rw [M.st,hm] at hxs
                      cases hxs
                      exact ⟨hh.toNat,hhn,hhl,by rw [hb]; rfl⟩
                · split at hk
                  · rename_i l hl
                    rw [bif_eq] at hk
                    split at hk
                    · rw [bif_eq] at hk
                      split at hk
                      · rename_i hcan
                        obtain ⟨h1,h2⟩:=chk_some hk
                        obtain ⟨v,q1,q2⟩:=slice_row M hx hsh hz huz hz1 hm ha hl hhi h1 vl vh
                        obtain ⟨M1,g1⟩:=kill_rel M hcan
                        exact ⟨_,v,h,_,_,q1,M1,g1,rfl,rfl,q2,h2⟩
                      · cases hk
                    · obtain ⟨h1,h2⟩:=chk_some hk
                      obtain ⟨v,q1,q2⟩:=slice_row M hx hsh hz huz hz1 hm ha hl hhi h1 vl vh
                      exact stay _ v q1 V_any h2
                  · cases hk
              · cases hk
            · cases hk
          · cases hk
        · cases hk
      · cases hk
    · rename_i k e hsh
      split at hk
      · rename_i z m o hz
        have vm:qm=none:=vm
        subst vm
        split at hk
        · rename_i l hh hl hhi
          rw [bif_eq] at hk
          split at hk
          · rename_i hc
            simp only [Bool.and_eq_true,Nat.ble_eq,Nat.blt_eq] at hc
            rw [V_box] at ha
            obtain ⟨h1,b,hb,rfl⟩:=ha
            have e1:∃ p,optNat ql=some p∧orNat 0 p=l:=litO_rel (d:=0) hl vl
            have e3:∃ p,optNat qh=some p∧orNat k p=hh:=litO_rel (d:=k) hhi vh
            obtain ⟨pl,e1,e2⟩:=e1
            obtain ⟨ph,e3,e4⟩:=e3
            refine stay _ (.asl b (o+l*z) (hh - l)) ?_ (V_asl.2 ⟨h1,b,hb,rfl⟩) hk
            unfold doSlice
            rw [hx,e1,e3,show optNat none=some none from rfl]
            simp only
            rw [hsh]
            simp only
            rw [hz]
            simp only
            rw [e2,e4]
            rw [show (Nat.ble k 1000000&&(Nat.ble l hh&&Nat.ble hh k))=true by
              simp only [Bool.and_eq_true,Nat.ble_eq]
              exact ⟨hc.1,by omega,hc.2.2⟩]
            show some (Rs.val (Hm.part HV.asl b o z l hh) h)=_
            unfold Hm.part
            rw [show (Nat.beq hh l && !Nat.beq l 0)=false by
              rw [beq_false (by omega)]; rfl]
            rfl
          · cases hk
        · cases hk
      · cases hk
    · rename_i hsh
      split at hk
      · rename_i s
        have vm:qm=none:=vm
        subst vm
        split at hk
        · rename_i l hh hl hhi
          obtain ⟨h1,h2⟩:=chk_some hk
          obtain ⟨c1,c2,c3⟩:=okCut_some h1
          obtain ⟨pl,e1,e2⟩:=boundS_rel (d:=0) hl vl c1
          obtain ⟨ph,e3,e4⟩:=boundS_rel (d:=s.size) hhi vh (by omega)
          rw [V_str] at ha
          subst ha
          have hhl:hh.toNat≤s.size:=by
            obtain ⟨n,rfl⟩:∃ n:Nat,hh=Int.ofNat n:=⟨_,natB (by omega)⟩
            exact Int.ofNat_le.1 c3
          refine stay _ (.str (s.extract l.toNat hh.toNat)) ?_ (V_str.2 rfl) h2
          unfold doSlice
          rw [hx,e1,e3,show optNat none=some none from rfl]
          simp only
          rw [hsh]
          simp only
          rw [e2,e4]
          rw [show (Nat.ble l.toNat hh.toNat&&Nat.ble hh.toNat s.size)=true by
            simp only [Bool.and_eq_true,Nat.ble_eq]
            exact ⟨by omega,hhl⟩]
          rfl
        · cases hk
      · cases hk
    · cases hk
  · cases hk
end
end Go.Ls
namespace Go.Ls
open Go Go.Hm
def COk (cx:Cx) (f:FuncId) (c:Con):Prop := ∀ (h:St) (Z:Nat→Prop) (args:List HV) (x:D c.a) (y:D c.r),(∀ b,h.nx≤b→h.hp.get b=none)→(∀ b,isIn b h.lk=true→b<h.nx)→(∀ b,Z b→b<h.nx)→RdArgs h.hp Z c.a args x→c.F x=some y →
  ∃ l hp' nx' Z',(∃ k0, ∀ k,k0≤k→call cx (run cx k) f args h=some (one l,⟨h.nt,h.env,hp',nx',h.lk,h.df⟩))∧h.nx≤nx'∧(∀ b,b<h.nx→hp'.get b=h.hp.get b)∧(∀ b,nx'≤b→hp'.get b=none)∧(∀ b,Z b→Z' b)∧(∀ b,Z' b→Z b∨(h.nx≤b∧b<nx'))∧RdArgs hp' Z' c.r l y
def SymOk (cy:Cy) (ih:Sym):Prop := ∀ (R:Type) (H:Tr (List Hi)) (cur:Nat) (c:Code) (S:SS) (K:Ex→SS→Option R) (r:R),ih R H cur c S K=some r → ∀ (h:St) (E:En),Mem S h E→Env S h E →
  ∃ e h' S' E',(∃ k0, ∀ k,k0≤k→run cy.cx k c h=some (e,h'))∧Mem S' h' E'∧Env S' h' E'∧Gr S h E S' h' E'∧(∀ t,isIn t S.kp=true→S'.tmp t=S.tmp t)∧K e S'=some r
section
variable {E:En} {S:SS} {h:St} {cy:Cy} {R:Type} {r:R} {K:SV→SS→Option R}
theorem Mem.re {S S2:SS} {h h2:St} (M:Mem S h E) (e1:S2.st=S.st) (e2:S2.nx=S.nx) (e3:S2.lk=S.lk) (e4:h2.hp=h.hp) (e5:h2.nx=h.nx) (e6:h2.lk=h.lk):Mem S2 h2 E:=by
  refine ⟨by rw [e4]; exact M.hp,by rw [e1]; exact M.st,by rw [e2]; exact M.nx,fun m e hm => ?_,fun m e hm => ?_,fun m m' e e' b hm hm' => ?_,fun m e b hm hb => ?_,fun b hb => ?_,fun b hb => ?_,fun b hb => ?_,fun m b hb => ?_,fun m e hm => ?_⟩
  · rw [e1] at hm; rw [e2]; exact M.lt m e hm
  · rw [e1] at hm; exact M.ent m e hm
  · rw [e1] at hm hm'; exact M.inj m m' e e' b hm hm'
  · rw [e1] at hm; rw [e5]; exact M.own m e b hm hb
  · rw [e5]; exact M.z b hb
  · rw [e5] at hb; rw [e4]; exact M.fr b hb
  · rw [e6] at hb
    rw [e5,e3,e1]
    exact M.lk b hb
  · rw [e5]; exact M.mbl m b hb
  · rw [e1] at hm; exact M.noi m e hm
theorem Ow.re {S S2:SS} {b:Nat} (e1:S2.st=S.st):Ow S2 E b↔Ow S E b:=by
  unfold Ow; rw [e1]
theorem Gr.re {Sa S2 S':SS} {ha h2 h':St} {E':En} (g:Gr Sa ha E S' h' E') (e1:S.st=Sa.st) (e2:S.nx=Sa.nx) (e3:∀ m,m<Sa.nx→S.can m=false→Sa.can m=false) (a1:h.hp=ha.hp) (a2:h.nx=ha.nx) (a3:∀ b,isIn b h.lk=true→isIn b ha.lk=true) (hS:S2.st=S'.st) (hn:S2.nx=S'.nx) (b1:h2.hp=h'.hp) (b2:h2.nx=h'.nx)
    (c1:h2.nt=h.nt) (c2:h2.lk=h.lk) (c3:h2.df=h.df) (c4:S2.nt=S.nt) (c5:S2.lk=S.lk) (c6:S2.base=S.base) (c7:S2.wr=S.wr) (c8:S2.kp=S.kp):Gr S h E S2 h2 E' where
  nt:=c1
  lk:=c2
  df:=c3
  Snt:=c4
  Slk:=c5
  base:=c6
  wr:=c7
  kp:=c8
  nx:=by rw [a2,b2]; exact g.nx
  Snx:=by rw [e2,hn]; exact g.Snx
  z:=g.z
  z':=fun b hb=>by
    rw [a2,Ow.re e1]; exact g.z' b hb
  oth:=fun b hb ho=>by
    rw [a2] at hb
    rw [Ow.re e1] at ho
    rw [b1,a1]; exact g.oth b hb ho
  ow:=fun b hb=>by
    rw [Ow.re hS] at hb
    rw [a2,Ow.re e1]; exact g.ow b hb
  mb:=fun m hm=>g.mb m (by rw [← e2]; exact hm)
  cant:=fun m hm hc=>by
    rw [hS,e1]; exact g.cant m (by rw [← e2]; exact hm) (e3 m (by rw [← e2]; exact hm) hc)
  dead:=fun m hm hd=>by
    rw [hS]; exact g.dead m (by rw [← e2]; exact hm) (by rw [← e1]; exact hd)
  row:=fun m e xs hm hx=>by
    rw [hS] at hx
    rw [e1]; exact g.row m e xs (by rw [← e2]; exact hm) hx
  lkk:=fun b m e hb hm hmb=>by
    rw [hS] at hm
    rw [e1]; exact g.lkk b m e (a3 b hb) hm hmb
  rwl:=fun m g' e xs hm hx=>by
    rw [hS] at hx
    rw [e1]; exact g.rwl m g' e xs (by rw [← e2]; exact hm) hx
  rwg:=fun m g' e xs hm hg hx=>by
    rw [hS] at hx
    rw [e1]; exact g.rwg m g' e xs (by rw [← e2]; exact hm) (by rw [← e2]; exact hg) hx
  ci:=fun m hm hc=>g.ci m (by rw [← e2]; exact hm) (e3 m (by rw [← e2]; exact hm) hc)
theorem sOne_rel {l:List SV} {vs:List HV} (hv:Vs E l vs):V E (sOne l) (one vs):=by
  have hlen:vs.length=l.length:=by
    have:∀ (l:List SV) (vs:List HV),Vs E l vs→vs.length=l.length:=by
      intro l
      induction l with
      | nil=>intro vs h; unfold Vs at h; subst h; rfl
      | cons s l ih=>intro vs h; unfold Vs at h; obtain ⟨v,r,rfl,_,h2⟩:=h; simp [ih r h2]
    exact this l vs hv
  match l,vs,hlen with
  | [],[],_=>exact V_tup.2 ⟨[],rfl,hv⟩
  | [s],[v],_ =>
    unfold Vs at hv
    obtain ⟨v',r,e,h1,h2⟩:=hv
    cases e
    exact h1
  | s::s'::l,v::v'::vs,_=>exact V_tup.2 ⟨_,rfl,hv⟩
theorem Vs_len:∀ {l:List SV} {vs:List HV},Vs E l vs→vs.length=l.length
  | [],vs,h=>by unfold Vs at h; subst h; rfl
  | s::l,vs,h=>by unfold Vs at h; obtain ⟨v,r,rfl,_,h2⟩:=h; simp [Vs_len h2]
theorem envS_get:∀ (l:List SV) (i t:Nat) (T:Tr SV),(envS i l T).get t=if i≤t∧t<i+l.length then l[t - i]? else T.get t
  | [],i,t,T=>by
    unfold envS
    rw [if_neg (by rintro ⟨a,b⟩; simp only [List.length_nil] at b; omega)]
  | v::l,i,t,T=>by
    unfold envS
    rw [envS_get l (i+1) t]
    by_cases h:t=i
    · subst h
      rw [if_neg (by omega),Tr.get_set_same,if_pos (by simp)]
      simp
    · rw [Tr.get_set_ne _ _ h]
      by_cases h2:i+1≤t∧t<i+1+l.length
      · rw [if_pos h2,if_pos (by simp only [List.length_cons]; omega)]
        rw [show t - i=(t - (i+1))+1 by omega,List.getElem?_cons_succ]
      · rw [if_neg h2,if_neg (by simp only [List.length_cons]; omega)]
theorem envOf_get':∀ (l:List HV) (i t:Nat) (T:Tr HV),(envOf i l T).get t=if i≤t∧t<i+l.length then l[t - i]? else T.get t
  | [],i,t,T=>by
    unfold envOf
    rw [if_neg (by rintro ⟨a,b⟩; simp only [List.length_nil] at b; omega)]
  | v::l,i,t,T=>by
    unfold envOf
    rw [envOf_get' l (i+1) t]
    by_cases h:t=i
    · subst h
      rw [if_neg (by omega),Tr.get_set_same,if_pos (by simp)]
      simp
    · rw [Tr.get_set_ne _ _ h]
      by_cases h2:i+1≤t∧t<i+1+l.length
      · rw [if_pos h2,if_pos (by simp only [List.length_cons]; omega)]
        rw [show t - i=(t - (i+1))+1 by omega,List.getElem?_cons_succ]
      · rw [if_neg h2,if_neg (by simp only [List.length_cons]; omega)]
theorem args_env {l:List SV} {vs:List HV} (hv:Vs E l vs) {n nx:Nat} {hp:Tr Hm.Obj} {lk:List Nat} {st:Tr Ent} {snx:Nat} {slk:List Nat} {base:Nat} {wr:List Nat}:Env ⟨n,envS 0 l .e,st,snx,slk,base,wr,[]⟩ ⟨n,envOf 0 vs .e,hp,nx,lk,.undef⟩ E:=by
  refine ⟨rfl,fun t => ?_⟩
  unfold SS.tmp St.tmp
  simp only
  rw [envS_get,envOf_get',Vs_len hv]
  by_cases ht:0≤t∧t<0+l.length
  · rw [if_pos ht,if_pos ht]
    have hs:l[t - 0]?=some (l[t - 0]'(by omega)):=List.getElem?_eq_getElem (by omega)
    obtain ⟨v,g1,g2⟩:=Vs_get hv hs
    rw [hs,g1]
    exact g2
  · rw [if_neg ht,if_neg ht,Tr.get_e,Tr.get_e]
    exact V_any
theorem resS_rel {S:SS} {h:St} (M:Mem S h E) (hE:Env S h E):∀ {rs:List ResultVar} {K:List SV→Option R},resS cy S rs K=some r → ∃ l vs,resOf cy.cx h rs=some vs∧Vs E l vs∧K l=some r
  | [],K,hk=>⟨[],[],rfl,by unfold Vs; rfl,hk⟩
  | .tmp t::rs,K,hk=>by
    unfold resS at hk
    obtain ⟨l,vs,h1,h2,h3⟩:=resS_rel M hE hk
    exact ⟨S.tmp t::l,h.tmp t::vs,by unfold resOf; rw [h1],by unfold Vs; exact ⟨_,_,rfl,hE.v t,h2⟩,h3⟩
  | .cell a t::rs,K,hk=>by
    unfold resS at hk
    obtain ⟨s,v,g1,g2,g3⟩:=loadS_rel M hk (hE.v a)
    obtain ⟨l,vs,h1,h2,h3⟩:=resS_rel M hE g3
    exact ⟨s::l,v::vs,by unfold resOf; rw [g1]; simp only; rw [h1],by unfold Vs; exact ⟨_,_,rfl,g2,h2⟩,h3⟩
end
end Go.Ls
namespace Go.Ls
open Go Go.Hm
theorem isIn_cons {b a:Nat} {l:List Nat}:isIn b (a::l)=true↔b=a∨isIn b l=true:=by
  rw [isIn_iff,isIn_iff,List.mem_cons]
section
variable {E:En}
mutual
theorem CR_lt:∀ {s:SV} {cs:List HV},CR E s cs→ltS E.nx s=true
  | .any,_,_=>by unfold ltS; rfl
  | .undef,_,_=>by unfold ltS; rfl
  | .int _ _ _,_,_=>by unfold ltS; rfl
  | .bool _ _,_,_=>by unfold ltS; rfl
  | .val _ _,_,_=>by unfold ltS; rfl
  | .agg is,_,h=>by unfold CR at h; unfold ltS; exact CRs_lt h
  | .tup vs,_,h=>by unfold CR at h; obtain ⟨l,_,h⟩:=h; unfold ltS; exact Vs_lt h
  | .fn _ vs,_,h=>by unfold CR at h; obtain ⟨l,_,h⟩:=h; unfold ltS; exact Vs_lt h
  | .nilp,_,_=>by unfold ltS; rfl
  | .nils,_,_=>by unfold ltS; rfl
  | .esl,_,_=>by unfold ltS; rfl
  | .nilf,_,_=>by unfold ltS; rfl
  | .box m _,_,h=>by unfold CR at h; unfold ltS; rw [Nat.blt_eq]; exact h.1
  | .bsl m _ _,_,h=>by unfold CR at h; unfold ltS; rw [Nat.blt_eq]; exact h.1
  | .row m,_,h=>by unfold CR at h; unfold ltS; rw [Nat.blt_eq]; exact h.1
  | .ept m _ _,_,h=>by unfold CR at h; unfold ltS; rw [Nat.blt_eq]; exact h.1
  | .fpt _ _,_,_=>by unfold ltS; rfl
  | .apt m _ _ _ _ _,_,h=>by unfold CR at h; unfold ltS; rw [Nat.blt_eq]; exact h.1
  | .sub m g _,_,h=>by unfold CR at h; unfold ltS; rw [Bool.and_eq_true,Nat.blt_eq,Nat.blt_eq]; exact ⟨h.1,h.2.1⟩
  | .map m,_,h=>by unfold CR at h; unfold ltS; rw [Nat.blt_eq]; exact h.1
  | .asl m _ _,_,h=>by unfold CR at h; unfold ltS; rw [Nat.blt_eq]; exact h.1
  | .vw m _,_,h=>by unfold CR at h; unfold ltS; rw [Nat.blt_eq]; exact h.1
theorem CRs_lt:∀ {is:List SV} {cs:List HV},CRs E is cs→ltSs E.nx is=true
  | [],_,_=>by unfold ltSs; rfl
  | i::is,_,h=>by
    unfold CRs at h
    obtain ⟨c,d,_,h1,h2⟩:=h
    unfold ltSs
    rw [CR_lt h1,CRs_lt h2]; rfl
theorem Vs_lt:∀ {is:List SV} {cs:List HV},Vs E is cs→ltSs E.nx is=true
  | [],_,_=>by unfold ltSs; rfl
  | i::is,_,h=>by
    unfold Vs at h
    obtain ⟨c,d,_,h1,h2⟩:=h
    unfold ltSs
    have:ltS E.nx i=true:=by
      unfold lift at h1
      cases hi:i.ag with
      | true=>rw [hi] at h1; obtain ⟨cs,_,h3⟩:=h1; exact CR_lt h3
      | false=>rw [hi] at h1; exact CR_lt h1
    rw [this,Vs_lt h2]; rfl
end
theorem V_lt {s:SV} {v:HV} (h:V E s v):ltS E.nx s=true:=by
  unfold V lift at h
  cases hi:s.ag with
  | true=>rw [hi] at h; obtain ⟨cs,_,h3⟩:=h; exact CR_lt h3
  | false=>rw [hi] at h; exact CR_lt h
theorem put_ent {T:SS} {h:St} (M:Mem T h E) {j nx2:Nat} {mb2:Nat→Option Nat} {ib2:Nat→Nat→Option Nat} {e:Ent} (h0:T.st.get j=none) (h1:T.nx≤nx2) (h2:j<nx2) (h3:∀ i,i≠j→mb2 i=E.mb i) (h3':∀ i,i≠j → ∀ k,ib2 i k=E.ib i k) (h4:j<T.nx→mb2 j=E.mb j) (h5:j<T.nx → ∃ z is,e = .box z is)
    (h6:∀ b,(mb2 j=some b ∨ ∃ k,ib2 j k=some b)→b<h.nx ∧ ¬ E.Z b∧(∀ m e,T.st.get m=some e → ¬ Bk E m b)∧isIn b h.lk=false)
    (h7:(∀ g u xs,e ≠ .rows g u xs) → ∀ k,ib2 j k=none)
    (he:Fm E.nx E ⟨h.hp,E.Z,mb2,ib2,T.st.set j e,nx2⟩→EntR ⟨h.hp,E.Z,mb2,ib2,T.st.set j e,nx2⟩ j e) :
    Mem (T.mem (T.st.set j e) nx2) h ⟨h.hp,E.Z,mb2,ib2,T.st.set j e,nx2⟩∧Fm E.nx E ⟨h.hp,E.Z,mb2,ib2,T.st.set j e,nx2⟩:=by
  have hget:∀ i,(T.st.set j e).get i=if i=j then some e else T.st.get i:=fun i=>Tr.get_set _ _ _ _
  have hst:∀ i e',(T.st.set j e).get i=some e'→(i=j∧e'=e)∨(i≠j∧T.st.get i=some e'):=by
    intro i e' hi
    rw [hget] at hi
    split at hi
    · cases hi; exact .inl ⟨by assumption,rfl⟩
    · exact .inr ⟨by assumption,hi⟩
  have hbo:∀ i,i≠j → ∀ b,Bk ⟨h.hp,E.Z,mb2,ib2,T.st.set j e,nx2⟩ i b↔Bk E i b:=by
    intro i hi b
    show (mb2 i=some b ∨ ∃ k,ib2 i k=some b)↔(E.mb i=some b ∨ ∃ k,E.ib i k=some b)
    rw [h3 i hi]
    constructor
    · rintro (q | ⟨k,q⟩)
      · exact .inl q
      · rw [h3' i hi] at q; exact .inr ⟨k,q⟩
    · rintro (q | ⟨k,q⟩)
      · exact .inl q
      · exact .inr ⟨k,by rw [h3' i hi]; exact q⟩
  have f:Fm E.nx E ⟨h.hp,E.Z,mb2,ib2,T.st.set j e,nx2⟩:=⟨fun _ hb=>hb,fun _ _=>by rw [M.hp],by rw [M.nx]; exact h1,fun m hm=>by
    by_cases hmj:m=j
    · subst hmj; exact h4 (by rw [← M.nx]; exact hm)
    · exact h3 m hmj,fun m u xs hm hx=>by
    rcases hst m _ hx with ⟨rfl,g⟩ | ⟨_,g⟩
    · obtain ⟨z,is,q⟩:=h5 (by rw [← M.nx]; exact hm)
      rw [q] at g; cases g
    · exact ⟨xs,by rw [M.st]; exact g,rfl⟩,fun m g' u xs hm hx=>by
    rcases hst m _ hx with ⟨rfl,g⟩ | ⟨_,g⟩
    · obtain ⟨z,is,q⟩:=h5 (by rw [← M.nx]; exact hm)
      rw [q] at g; cases g
    · exact ⟨g',xs,by rw [M.st]; exact g,rfl⟩,fun m g' u xs hm _ hx=>by
    rcases hst m _ hx with ⟨rfl,g⟩ | ⟨hne,g⟩
    · obtain ⟨z,is,q⟩:=h5 (by rw [← M.nx]; exact hm)
      rw [q] at g; cases g
    · exact ⟨xs,by rw [M.st]; exact g,SameLen.refl,h3' m hne⟩⟩
  refine ⟨⟨rfl,rfl,rfl,fun m e' hm => ?_,fun m e' hm => ?_,fun m m' e1 e2 b hm hm' hb hb' => ?_,fun m e' b hm hb => ?_,M.z,M.fr,fun b hb=>⟨(M.lk b hb).1,fun m e' hm hmb => ?_⟩,fun m b hmb => ?_,fun m e' hm hne => ?_⟩,f⟩
  · rcases hst m _ hm with ⟨rfl,_⟩ | ⟨_,g⟩
    · exact h2
    · exact Nat.lt_of_lt_of_le (M.lt m e' g) h1
  · rcases hst m _ hm with ⟨rfl,rfl⟩ | ⟨hne,g⟩
    · exact he f
    · exact (M.ent m e' g).fm f (h3 m hne) (h3' m hne) (fun b _=>by rw [M.hp])
  · rcases hst m _ hm with ⟨rfl,rfl⟩ | ⟨hne,g⟩
    · rcases hst m' _ hm' with ⟨rfl,rfl⟩ | ⟨hne',g'⟩
      · rfl
      · rw [hbo m' hne'] at hb'
        exact absurd hb' ((h6 b hb).2.2.1 m' e2 g')
    · rw [hbo m hne] at hb
      rcases hst m' _ hm' with ⟨rfl,rfl⟩ | ⟨hne',g'⟩
      · exact absurd hb ((h6 b hb').2.2.1 m e1 g)
      · rw [hbo m' hne'] at hb'
        exact M.inj m m' e1 e2 b g g' hb hb'
  · rcases hst m _ hm with ⟨rfl,rfl⟩ | ⟨hne,g⟩
    · exact ⟨(h6 b hb).2.1,(h6 b hb).1⟩
    · rw [hbo m hne] at hb
      exact M.own m e' b g hb
  · rcases hst m _ hm with ⟨rfl,rfl⟩ | ⟨hne,g⟩
    · have:=(h6 b hmb).2.2.2
      rw [hb] at this; cases this
    · rw [hbo m hne] at hmb
      exact (M.lk b hb).2 m e' g hmb
  · by_cases hmj:m=j
    · subst hmj; exact (h6 b hmb).1
    · rw [hbo m hmj] at hmb
      exact M.mbl m b hmb
  · rcases hst m _ hm with ⟨rfl,rfl⟩ | ⟨hne',g⟩
    · exact h7 hne
    · intro k
      show ib2 m k=none
      rw [h3' m hne']
      exact M.noi m e' g hne k
theorem zgrow {T:SS} {h:St} (M:Mem T h E) {Z2:Nat→Prop} (h1:∀ b,E.Z b→Z2 b) (h2:∀ m e b,T.st.get m=some e→Bk E m b → ¬ Z2 b) (h3:∀ b,Z2 b→b<h.nx):Mem T h ⟨E.hp,Z2,E.mb,E.ib,E.st,E.nx⟩∧Fm E.nx E ⟨E.hp,Z2,E.mb,E.ib,E.st,E.nx⟩:=by
  have f:Fm E.nx E ⟨E.hp,Z2,E.mb,E.ib,E.st,E.nx⟩:=⟨h1,fun _ _=>rfl,Nat.le_refl _,fun _ _=>rfl,fun m u xs _ hx=>⟨xs,hx,rfl⟩,fun m g u xs _ hx=>⟨g,xs,hx,rfl⟩,fun m g u xs _ _ hx=>⟨xs,hx,SameLen.refl,fun _=>rfl⟩⟩
  exact ⟨⟨M.hp,M.st,M.nx,M.lt,fun m e hm=>(M.ent m e hm).fm f rfl (fun _=>rfl) (fun _ _=>rfl),M.inj,fun m e b hm hb=>⟨h2 m e b hm hb,(M.own m e b hm hb).2⟩,h3,M.fr,M.lk,M.mbl,M.noi⟩,f⟩
end
structure J (S0 S':SS) (h':St) (E':En) (wr P:List Nat) (T:SS) (E:En) (mv fr:List Nat):Prop where
  M:Mem T h' E
  f1:T.nt=S0.nt
  f2:T.lk=S0.lk
  f3:T.base=S0.base
  f4:T.wr=S0.wr
  f5:T.kp=S0.kp
  nx:S0.nx≤T.nx
  v:∀ t,V E (T.tmp t) (h'.tmp t)
  p:∀ t,isIn t P=true→T.tmp t=S0.tmp t
  mb:∀ m,m<S0.nx→E.mb m=E'.mb m
  ib:∀ m,m<S0.nx → ∀ k,E.ib m k=E'.ib m k
  z:∀ b,E'.Z b→E.Z b
  z':∀ b,E.Z b→E'.Z b ∨ ∃ m e,isIn m fr=true∧S'.st.get m=some e∧Bk E' m b
  src:∀ m e b,T.st.get m=some e→Bk E m b→(m<S0.nx∧isIn m wr=false∧S0.st.get m=some e) ∨ ∃ m' e',isIn m' mv=true∧S'.canW m'=true∧S'.st.get m'=some e'∧Bk E' m' b
  unw:∀ m,m<S0.nx→isIn m wr=false→T.st.get m=S0.st.get m
  box:∀ m e,m<S0.nx→isIn m wr=true→T.st.get m=some e→((∃ z is,e = .box z is) ∨ ∃ u xs xs0,e = .row u xs∧S0.st.get m=some (.row u xs0)∧xs0.length=xs.length)∧S0.st.get m≠none∧isIn m mv=true
section
variable {S0 S' T:SS} {h':St} {E' E:En} {wr P mv fr:List Nat}
structure JC (S0 S':SS) (h':St) (E':En) (wr:List Nat):Prop where
  M:Mem S' h' E'
  v:∀ t,V E' (S'.tmp t) (h'.tmp t)
  fbase:S'.base=S0.nx
  fwr:S'.wr=wr
  cant:∀ m,m<S0.nx→isIn m wr=false→S'.st.get m=S0.st.get m
theorem JC.old (C:JC S0 S' h' E' wr) {m:Nat} (hm:m<S0.nx) (hw:isIn m wr=false):S'.can m=false:=by
  unfold SS.can
  rw [C.fbase,C.fwr,hw]
  cases hq:Nat.ble S0.nx m with
  | false=>rfl
  | true=>rw [Nat.ble_eq] at hq; omega
theorem J.bk (j:J S0 S' h' E' wr P T E mv fr) {m:Nat} (hm:m<S0.nx) (b:Nat):Bk E m b↔Bk E' m b:=by
  unfold Bk
  rw [j.mb m hm]
  constructor
  · rintro (q | ⟨k,q⟩)
    · exact .inl q
    · rw [j.ib m hm] at q; exact .inr ⟨k,q⟩
  · rintro (q | ⟨k,q⟩)
    · exact .inl q
    · exact .inr ⟨k,by rw [j.ib m hm]; exact q⟩
theorem J.free (j:J S0 S' h' E' wr P T E mv fr) (C:JC S0 S' h' E' wr) {m b:Nat} {e:Ent} (hm:S'.st.get m=some e) (hb:Bk E' m b) (hc:S'.canW m=true) (h1:isIn m mv=false) (h2:isIn m fr=false):b<h'.nx ∧ ¬ E.Z b∧(∀ m e,T.st.get m=some e → ¬ Bk E m b)∧isIn b h'.lk=false:=by
  obtain ⟨hc1,hc2⟩:=canW_some hc
  refine ⟨(C.M.own m e b hm hb).2,fun hz => ?_,fun m1 e1 hm1 hb1 => ?_,not_lk C.M hm hb hc2⟩
  · rcases j.z' b hz with g | ⟨m2,e2,g1,g2,g3⟩
    · exact (C.M.own m e b hm hb).1 g
    · have:=C.M.inj m m2 e e2 b hm g2 hb g3
      subst this
      rw [h2] at g1; cases g1
  · rcases j.src m1 e1 b hm1 hb1 with ⟨g1,g2,g3⟩ | ⟨m2,e2,g1,_,g2,g3⟩
    · have hs:S'.st.get m1=some e1:=by rw [C.cant m1 g1 g2]; exact g3
      have:=C.M.inj m m1 e e1 b hm hs hb ((j.bk g1 b).1 hb1)
      subst this
      rw [C.old g1 g2] at hc1; cases hc1
    · have:=C.M.inj m m2 e e2 b hm g2 hb g3
      subst this
      rw [h1] at g1; cases g1
noncomputable def nwE (E:En) (hp:Tr Hm.Obj) (T:SS) (X:Ent) (o:Option Nat) (q:Nat→Option Nat):En:=⟨hp,E.Z,fun i=>if i=T.nx then o else E.mb i,fun i k=>if i=T.nx then q k else E.ib i k,T.st.set T.nx X,T.nx+1⟩
theorem nwE_mb {hp:Tr Hm.Obj} {X:Ent} {o:Option Nat} {q:Nat→Option Nat}:(nwE E hp T X o q).mb T.nx=o:=if_pos rfl
theorem nwE_ib {hp:Tr Hm.Obj} {X:Ent} {o:Option Nat} {q:Nat→Option Nat} {k:Nat}:(nwE E hp T X o q).ib T.nx k=q k:=if_pos rfl
theorem J.new (j:J S0 S' h' E' wr P T E mv fr) {X:Ent} {o:Option Nat} {q:Nat→Option Nat} {mv':List Nat} (hmv:∀ m,isIn m mv=true→isIn m mv'=true)
    (ho:∀ b,(o=some b ∨ ∃ i,q i=some b)→b<h'.nx ∧ ¬ E.Z b∧(∀ m e,T.st.get m=some e → ¬ Bk E m b)∧isIn b h'.lk=false)
    (hsrc:∀ b,(o=some b ∨ ∃ i,q i=some b) → ∃ m' e',isIn m' mv'=true∧S'.canW m'=true∧S'.st.get m'=some e'∧Bk E' m' b)
    (hq:(∀ g u xs,X ≠ .rows g u xs) → ∀ i,q i=none)
    (he:Fm E.nx E (nwE E h'.hp T X o q)→EntR (nwE E h'.hp T X o q) T.nx X) :
    J S0 S' h' E' wr P (T.new X) (nwE E h'.hp T X o q) mv' fr∧Fm E.nx E (nwE E h'.hp T X o q) ∧ ∀ i,i<S0.nx→(T.new X).st.get i=T.st.get i:=by
  have hTn:T.st.get T.nx=none:=by
    cases hq:T.st.get T.nx with
    | none=>rfl
    | some e'=>have:=j.M.lt _ _ hq; omega
  have hmb:∀ i,i≠T.nx→(nwE E h'.hp T X o q).mb i=E.mb i:=fun i hi=>if_neg hi
  have hib:∀ i,i≠T.nx → ∀ k,(nwE E h'.hp T X o q).ib i k=E.ib i k:=fun i hi k=>if_neg hi
  have hbn:∀ b,Bk (nwE E h'.hp T X o q) T.nx b↔(o=some b ∨ ∃ i,q i=some b):=by
    intro b
    unfold Bk
    rw [nwE_mb]
    constructor
    · rintro (w | ⟨k,w⟩)
      · exact .inl w
      · rw [nwE_ib] at w; exact .inr ⟨k,w⟩
    · rintro (w | ⟨k,w⟩)
      · exact .inl w
      · exact .inr ⟨k,by rw [nwE_ib]; exact w⟩
  have hbo:∀ i,i≠T.nx → ∀ b,Bk (nwE E h'.hp T X o q) i b↔Bk E i b:=by
    intro i hi b
    unfold Bk
    rw [hmb i hi]
    constructor
    · rintro (w | ⟨k,w⟩)
      · exact .inl w
      · rw [hib i hi] at w; exact .inr ⟨k,w⟩
    · rintro (w | ⟨k,w⟩)
      · exact .inl w
      · exact .inr ⟨k,by rw [hib i hi]; exact w⟩
  obtain ⟨M2,f2⟩:Mem (T.mem (T.st.set T.nx X) (T.nx+1)) h' (nwE E h'.hp T X o q)∧Fm E.nx E (nwE E h'.hp T X o q):=put_ent (j:=T.nx) (nx2:=T.nx+1) (e:=X) j.M hTn (Nat.le_succ _) (Nat.lt_succ_self _) hmb hib (fun h=>absurd h (Nat.lt_irrefl _)) (fun h=>absurd h (Nat.lt_irrefl _)) (fun b hb=>ho b ((hbn b).1 hb)) (fun hne k=>(if_pos rfl).trans (hq hne k)) he
  have hget:∀ i,(T.st.set T.nx X).get i=if i=T.nx then some X else T.st.get i:=fun i=>Tr.get_set _ _ _ _
  have hold:∀ i,i<S0.nx→(T.st.set T.nx X).get i=T.st.get i:=fun i hi=>by
    rw [hget,if_neg]; have:=j.nx; omega
  refine ⟨⟨M2,j.f1,j.f2,j.f3,j.f4,j.f5,Nat.le_trans j.nx (Nat.le_succ _),fun t=>(j.v t).fm f2 (.inl rfl),j.p,fun m hm => ?_,fun m hm k => ?_,j.z,j.z',fun m e1 b hm hb => ?_,fun m hm hw => ?_,fun m e1 hm hw hg => ?_⟩,f2,hold⟩
  · exact (hmb m (by have:=j.nx; omega)).trans (j.mb m hm)
  · exact (hib m (by have:=j.nx; omega) k).trans (j.ib m hm k)
  · have hm:(T.st.set T.nx X).get m=some e1:=hm
    rw [hget] at hm
    split at hm
    · rename_i hmn
      subst hmn
      exact .inr (hsrc b ((hbn b).1 hb))
    · rename_i hmn
      rcases j.src m e1 b hm ((hbo m hmn b).1 hb) with g | ⟨m',e',g1,g2⟩
      · exact .inl g
      · exact .inr ⟨m',e',hmv m' g1,g2⟩
  · exact (hold m hm).trans (j.unw m hm hw)
  · have hg:(T.st.set T.nx X).get m=some e1:=hg
    rw [hold m hm] at hg
    obtain ⟨q1,q2,q3⟩:=j.box m e1 hm hw hg
    exact ⟨q1,q2,hmv m q3⟩
theorem J.own (j:J S0 S' h' E' wr P T E mv fr) (C:JC S0 S' h' E' wr) {e:U} {s:SV} {v:HV} {xs:List (D e)} {mv':List Nat} (ho:ownH S' e s mv fr=some (xs,mv')) (hv:V E' s v) :
    ∃ E2,J S0 S' h' E' wr P (T.new (.row e xs)) E2 mv' fr∧Fm E.nx E E2∧V E2 (.row T.nx) v∧(∀ i,i<S0.nx→(T.new (.row e xs)).st.get i=T.st.get i)∧(∀ m,isIn m mv=true→isIn m mv'=true):=by
  have fin:∀ (o:Option Nat) (mv':List Nat),(∀ m,isIn m mv=true→isIn m mv'=true) →
      (∀ b,o=some b→b<h'.nx ∧ ¬ E.Z b∧(∀ m e,T.st.get m=some e → ¬ Bk E m b)∧isIn b h'.lk=false) →
      (∀ b,o=some b → ∃ m' e',isIn m' mv'=true∧S'.canW m'=true∧S'.st.get m'=some e'∧Bk E' m' b) →
      xs.length≤140737488355328→RowR E' o e xs→RowV o xs.length v→bcells v=some [v] →
      ∃ E2,J S0 S' h' E' wr P (T.new (.row e xs)) E2 mv' fr∧Fm E.nx E E2∧V E2 (.row T.nx) v∧(∀ i,i<S0.nx→(T.new (.row e xs)).st.get i=T.st.get i)∧(∀ m,isIn m mv=true→isIn m mv'=true):=by
    intro o mv' hmv ho hsrc hlen hr hrv hbc
    have hor:∀ b,(o=some b ∨ ∃ i,(fun _=>none:Nat→Option Nat) i=some b)→o=some b:=by
      rintro b (q | ⟨i,q⟩)
      · exact q
      · cases q
    obtain ⟨j2,f2,hold⟩:=j.new (X := .row e xs) (o:=o) (q:=fun _=>none) hmv (fun b hb=>ho b (hor b hb)) (fun b hb=>hsrc b (hor b hb)) (fun _ _=>rfl) (fun f=>⟨hlen,by
      rw [nwE_mb]
      exact RowR.fm (E:=E') (E':=nwE E h'.hp T (.row e xs) o (fun _=>none)) j.z (fun b _=>by show h'.hp.get b=_; rw [C.M.hp]) (fun b _=>by show h'.hp.get b=_; rw [C.M.hp]) hr⟩)
    refine ⟨_,j2,f2,V_row.2 ⟨Nat.lt_succ_self _,hbc,fun u ys hy => ?_,fun g u ys hy => ?_⟩,hold,hmv⟩
    · have hy:(T.st.set T.nx (.row e xs)).get T.nx=some (.row u ys):=hy
      rw [Tr.get_set_same] at hy
      cases hy
      rw [nwE_mb]; exact hrv
    · have hy:(T.st.set T.nx (.row e xs)).get T.nx=some (.rows g u ys):=hy
      rw [Tr.get_set_same] at hy
      cases hy
  unfold ownH at ho
  split at ho
  · rename_i m
    split at ho
    · rename_i u ys hm
      split at ho
      · rename_i zs hzs
        rw [bif_eq] at ho
        split at ho
        · rename_i hc
          simp only [Bool.and_eq_true] at hc
          obtain ⟨hc1,hc2,hc3⟩:=hc
          have hc2:isIn m mv=false:=by simpa using hc2
          have hc3:isIn m fr=false:=by simpa using hc3
          cases ho
          obtain ⟨e0,e1⟩:=castD_some hzs
          cases e0
          have e1:ys=xs:=e1
          subst e1
          rw [V_row] at hv
          have hrv:=hv.2.2.1 e ys (by rw [C.M.st]; exact hm)
          obtain ⟨hl,hr⟩:=C.M.ent m _ hm
          exact fin (E'.mb m) (m::mv) (fun m' h=>isIn_cons.2 (.inr h)) (fun b hb=>j.free C hm (.inl hb) hc1 hc2 hc3) (fun b hb=>⟨m,_,isIn_cons.2 (.inl rfl),hc1,hm,.inl hb⟩) hl hr hrv hv.2.1
        · cases ho
      · cases ho
    · cases ho
  · cases ho
    rw [V_nils] at hv
    subst hv
    exact fin none mv (fun _ h=>h) (fun b hb=>by cases hb) (fun b hb=>by cases hb) (Nat.zero_le _) rfl ⟨rfl,.inl rfl⟩ rfl
  · cases ho
    rw [V_esl] at hv
    exact fin none mv (fun _ h=>h) (fun b hb=>by cases hb) (fun b hb=>by cases hb) (Nat.zero_le _) rfl ⟨rfl,hv⟩ (by rcases hv with rfl | rfl <;> rfl)
  · rename_i m q
    split at ho
    · rename_i u ys hm
      split at ho
      · rename_i zs hzs
        rw [bif_eq] at ho
        split at ho
        · rename_i hc
          simp only [Bool.and_eq_true] at hc
          obtain ⟨hc1,hc2,hc3⟩:=hc
          have hc2:isIn m mv=false:=by simpa using hc2
          have hc3:isIn m fr=false:=by simpa using hc3
          cases ho
          obtain ⟨e0,e1⟩:=castD_some hzs
          cases e0
          have e1:ys=zs:=e1
          subst e1
          rw [V_vw] at hv
          obtain ⟨k,rfl,hk,hrv⟩:=hv.2.2 _ ys (by rw [C.M.st]; exact hm)
          obtain ⟨hl,hr⟩:=C.M.ent m _ hm
          have hcl:(cutL ys 0 (Int.ofNat k)).length=k:=by
            show ((ys.drop 0).take (k - 0)).length=k
            simp; omega
          exact fin (E'.mb m) (m::mv) (fun m' h=>isIn_cons.2 (.inr h)) (fun b hb=>j.free C hm (.inl hb) hc1 hc2 hc3) (fun b hb=>⟨m,_,isIn_cons.2 (.inl rfl),hc1,hm,.inl hb⟩) (by rw [hcl]; omega) (row_pre hk hr) (by rw [hcl]; exact hrv) hv.2.1
        · cases ho
      · cases ho
    · cases ho
  · cases ho
theorem J.owns (j:J S0 S' h' E' wr P T E mv fr) (C:JC S0 S' h' E' wr) {e:U} {s:SV} {v:HV} {xs:List (List (D e))} {mv':List Nat} (ho:ownsH S' e s mv fr=some (xs,mv')) (hv:V E' s v) :
    ∃ E2,J S0 S' h' E' wr P (T.new (.rows T.nx e xs)) E2 mv' fr∧Fm E.nx E E2∧V E2 (.row T.nx) v∧(∀ i,i<S0.nx→(T.new (.rows T.nx e xs)).st.get i=T.st.get i)∧(∀ m,isIn m mv=true→isIn m mv'=true):=by
  unfold ownsH at ho
  split at ho
  · rename_i m
    split at ho
    · rename_i g u ys hm
      split at ho
      · rename_i zs hzs
        rw [bif_eq] at ho
        split at ho
        · rename_i hc
          simp only [Bool.and_eq_true] at hc
          obtain ⟨hc1,hc2,hc3⟩:=hc
          have hc2:isIn m mv=false:=by simpa using hc2
          have hc3:isIn m fr=false:=by simpa using hc3
          cases ho
          obtain ⟨e0,e1⟩:=castD_some hzs
          cases e0
          have e1:ys=xs:=e1
          subst e1
          rw [V_row] at hv
          have hrv:=hv.2.2.2 g e ys (by rw [C.M.st]; exact hm)
          obtain ⟨_,hl,b,y,p1,p2,p3,p4,p5,p6,p7,p8,p9⟩:=C.M.ent m _ hm
          have hhp:∀ b,h'.hp.get b=E'.hp.get b:=fun b=>by rw [C.M.hp]
          obtain ⟨j2,f2,hold⟩:=j.new (X := .rows T.nx e ys) (o:=E'.mb m) (q:=E'.ib m) (mv':=m::mv) (fun m' h=>isIn_cons.2 (.inr h)) (fun b hb=>j.free C hm hb hc1 hc2 hc3) (fun b hb=>⟨m,_,isIn_cons.2 (.inl rfl),hc1,hm,hb⟩) (fun hne=>absurd rfl (hne _ _ _)) (fun f=>⟨Nat.lt_succ_self _,hl,b,y,by rw [nwE_mb]; exact p1,by show h'.hp.get b=_; rw [hhp]; exact p2,p3,p4,p5,fun i l hil=>by
            obtain ⟨k1,k2,k3⟩:=p6 i l hil
            refine ⟨k1,by rw [nwE_ib]; exact k2,?_⟩
            rw [nwE_ib]
            exact RowR.fm (E:=E') (E':=nwE E h'.hp T (.rows T.nx e ys) (E'.mb m) (E'.ib m)) j.z (fun b _=>hhp b) (fun b _=>hhp b) k3,fun i hi=>by rw [nwE_ib]; exact p7 i hi,fun i i' c k1 k2=>by rw [nwE_ib] at k1 k2; exact p8 i i' c k1 k2,fun i=>by rw [nwE_ib]; exact p9 i⟩)
          refine ⟨_,j2,f2,V_row.2 ⟨Nat.lt_succ_self _,hv.2.1,fun u ys' hy => ?_,fun g' u ys' hy => ?_⟩,hold,fun m' h=>isIn_cons.2 (.inr h)⟩
          · have hy:(T.st.set T.nx (.rows T.nx e ys)).get T.nx=some (.row u ys'):=hy
            rw [Tr.get_set_same] at hy
            cases hy
          · have hy:(T.st.set T.nx (.rows T.nx e ys)).get T.nx=some (.rows g' u ys'):=hy
            rw [Tr.get_set_same] at hy
            cases hy
            rw [nwE_mb]; exact hrv
        · cases ho
      · cases ho
    · cases ho
  · cases ho
theorem J.mp (j:J S0 S' h' E' wr P T E mv fr) (C:JC S0 S' h' E' wr) {s:SV} {v:HV} {kvs:List (Int×(Bool×Unit))} {mv':List Nat} (ho:mpH S' s mv fr=some (kvs,mv')) (hv:V E' s v) :
    ∃ E2,J S0 S' h' E' wr P (T.new (.map kvs)) E2 mv' fr∧Fm E.nx E E2∧V E2 (.map T.nx) v:=by
  unfold mpH at ho
  split at ho
  · rename_i m
    split at ho
    · rename_i ys hm
      rw [bif_eq] at ho
      split at ho
      · rename_i hc
        simp only [Bool.and_eq_true] at hc
        obtain ⟨hc1,hc2,hc3⟩:=hc
        have hc2:isIn m mv=false:=by simpa using hc2
        have hc3:isIn m fr=false:=by simpa using hc3
        cases ho
        rw [V_map] at hv
        obtain ⟨_,b,hb,rfl⟩:=hv
        obtain ⟨b',p1,p2⟩:=C.M.ent m _ hm
        rw [hb] at p1; cases p1
        have hor:∀ c,(some b=some c ∨ ∃ i,(fun _=>none:Nat→Option Nat) i=some c)→Bk E' m c:=by
          rintro c (q | ⟨i,q⟩)
          · cases q; exact .inl hb
          · cases q
        obtain ⟨j2,f2,hold⟩:=j.new (X := .map kvs) (o:=some b) (q:=fun _=>none) (mv':=m::mv) (fun m' h=>isIn_cons.2 (.inr h)) (fun c hc=>j.free C hm (hor c hc) hc1 hc2 hc3) (fun c hc=>⟨m,_,isIn_cons.2 (.inl rfl),hc1,hm,hor c hc⟩) (fun _ _=>rfl) (fun f=>⟨b,nwE_mb,by show h'.hp.get b=_; rw [← C.M.hp]; exact p2⟩)
        exact ⟨_,j2,f2,V_map.2 ⟨Nat.lt_succ_self _,b,nwE_mb,rfl⟩⟩
      · cases ho
    · cases ho
  · cases ho
theorem canAll_some {S:SS}:∀ {L:List Nat},canAll S L=true → ∀ m,m∈L→S.can m=true
  | [],_,m,hm=>by cases hm
  | a::L,h,m,hm=>by
    unfold canAll at h
    rw [Bool.and_eq_true] at h
    rcases List.mem_cons.1 hm with rfl | hm
    · exact h.1
    · exact canAll_some h.2 m hm
theorem disj_some {a:List Nat}:∀ {L:List Nat},disj a L=true → ∀ m,m∈L→isIn m a=false
  | [],_,m,hm=>by cases hm
  | b::L,h,m,hm=>by
    unfold disj at h
    rw [Bool.and_eq_true] at h
    rcases List.mem_cons.1 hm with rfl | hm
    · simpa using h.1
    · exact disj_some h.2 m hm
theorem J.val (j:J S0 S' h' E' wr P T E mv fr) (C:JC S0 S' h' E' wr) {u:U} {is rs:List SV} {cs:List HV} {x:D u} {k:List Nat} (hv:valH S' u is mv fr=some (x,rs,k)) (hc:CRs E' is cs) :
    ∃ E2,J S0 S' h' E' wr P T E2 mv (k++fr)∧Fm E.nx E E2∧((E2.mb=E.mb∧E2.ib=E.ib) ∧ ∀ m,isIn m mv=true→isIn m k=false) ∧ ∃ c d,cs=c++d∧RdC E2.hp E2.Z u c x∧CRs E' rs d:=by
  unfold valH at hv
  split at hv
  · rename_i x' r' hrd
    split at hv
    · rename_i L hL
      rw [bif_eq] at hv
      split at hv
      · rename_i hcond
        rw [Bool.and_eq_true] at hcond
        cases hv
        have hcan:=canAll_some hcond.1
        have hdj:=disj_some hcond.2
        obtain ⟨M2,f2⟩:=zgrow (Z2:=fun b=>E.Z b ∨ ∃ m e,m∈k∧S'.st.get m=some e∧Bk E' m b) j.M (fun b hb => .inl hb) (fun m e b hm hb hz=>by
          rcases hz with hz | ⟨m2,e2,q1,q2,q3⟩
          · exact (j.M.own m e b hm hb).1 hz
          · rcases j.src m e b hm hb with ⟨g1,g2,g3⟩ | ⟨m3,e3,g1,_,g2,g3⟩
            · have hs:S'.st.get m=some e:=by rw [C.cant m g1 g2]; exact g3
              have:=C.M.inj m m2 e e2 b hs q2 ((j.bk g1 b).1 hb) q3
              subst this
              have:=hcan m q1
              rw [C.old g1 g2] at this; cases this
            · have:=C.M.inj m3 m2 e3 e2 b g2 q2 g3 q3
              subst this
              rw [hdj m3 q1] at g1; cases g1) (fun b hz=>by
          rcases hz with hz | ⟨m2,e2,q1,q2,q3⟩
          · exact j.M.z b hz
          · exact (C.M.own m2 e2 b q2 q3).2)
        refine ⟨_,⟨M2,j.f1,j.f2,j.f3,j.f4,j.f5,j.nx,fun t=>(j.v t).fm f2 (.inl rfl),j.p,j.mb,j.ib,fun b hb => .inl (j.z b hb),fun b hb => ?_,j.src,j.unw,j.box⟩,f2,⟨⟨rfl,rfl⟩,fun m hm=>by
          cases hq:isIn m k with
          | false=>rfl
          | true =>
            have:=hdj m (isIn_iff.1 hq)
            rw [hm] at this; cases this⟩,?_⟩
        · rcases hb with hb | ⟨m2,e2,q1,q2,q3⟩
          · rcases j.z' b hb with g | ⟨m,e,g1,g2⟩
            · exact .inl g
            · exact .inr ⟨m,e,isIn_iff.2 (List.mem_append_right _ (isIn_iff.1 g1)),g2⟩
          · exact .inr ⟨m2,e2,isIn_iff.2 (List.mem_append_left _ q1),q2,q3⟩
        · obtain ⟨c,d,e1,g1,g2,_⟩:=rdI_rel (E:=E') (Q:=fun b=>E.Z b ∨ ∃ m e,m∈k∧S'.st.get m=some e∧Bk E' m b) (k:=3) (fun b hb => .inl (j.z b hb)) (fun m e hm=>C.M.ent m e (by rw [← C.M.st]; exact hm)) (by rw [C.M.st]; exact hrd) hc (rowsK_cov (by rw [C.M.st]; exact hL) (fun m e b hm he hb => .inr ⟨m,e,hm,by rw [← C.M.st]; exact he,hb⟩))
          exact ⟨c,d,e1,by
            have:E.hp=E'.hp:=by rw [j.M.hp,C.M.hp]
            show RdC E.hp _ u c x
            rw [this]; exact g1,g2⟩
      · cases hv
    · cases hv
  · cases hv
theorem Fm.trans {n:Nat} {E1 E2 E3:En} (a:Fm n E1 E2) (b:Fm E2.nx E2 E3):Fm n E1 E3:=⟨fun x hx=>b.z x (a.z x hx),fun x hx=>by rw [b.h x (a.z x hx),a.h x hx],Nat.le_trans a.nx b.nx,fun m hm=>by rw [b.mb m (Nat.lt_of_lt_of_le hm a.nx),a.mb m hm],fun m e xs hm hx=>by
  obtain ⟨ys,g1,g2⟩:=b.row m e xs (Nat.lt_of_lt_of_le hm a.nx) hx
  obtain ⟨zs,g3,g4⟩:=a.row m e ys hm g1
  exact ⟨zs,g3,g4.trans g2⟩,fun m g e xs hm hx=>by
  obtain ⟨g1,ys,q1,q2⟩:=b.rwl m g e xs (Nat.lt_of_lt_of_le hm a.nx) hx
  obtain ⟨g2,zs,q3,q4⟩:=a.rwl m g1 e ys hm q1
  exact ⟨g2,zs,q3,q4.trans q2⟩,fun m g e xs hm hg hx=>by
  obtain ⟨ys,q1,q2,q3⟩:=b.rwg m g e xs (Nat.lt_of_lt_of_le hm a.nx) (Nat.lt_of_lt_of_le hg a.nx) hx
  obtain ⟨zs,q4,q5,q6⟩:=a.rwg m g e ys hm hg q1
  refine ⟨zs,q4,fun k l hl => ?_,fun k=>(q3 k).trans (q6 k)⟩
  obtain ⟨l1,w1,w2⟩:=q5 k l hl
  obtain ⟨l2,w3,w4⟩:=q2 k l1 w1
  exact ⟨l2,w3,w4.trans w2⟩⟩
theorem Fm.refl {E:En}:Fm E.nx E E:=⟨fun _ h=>h,fun _ _=>rfl,Nat.le_refl _,fun _ _=>rfl,fun _ _ xs _ h=>⟨xs,h,rfl⟩,fun _ g _ xs _ h=>⟨g,xs,h,rfl⟩,fun _ _ _ xs _ _ h=>⟨xs,h,SameLen.refl,fun _=>rfl⟩⟩
theorem J.parts (C:JC S0 S' h' E' wr):∀ {ks:List Kd} {is:List SV} {cs:List HV} {T:SS} {E:En} {mv fr:List Nat} {x:D (kCode ks)} {mv' fr':List Nat},J S0 S' h' E' wr P T E mv fr→CRs E' is cs→absK S' ks is mv fr=some (x,mv',fr') →
    ∃ E2,J S0 S' h' E' wr P (conK ks x T).2 E2 mv' fr'∧Fm E.nx E E2∧CRs E2 (conK ks x T).1 cs∧(∀ i,i<S0.nx→(conK ks x T).2.st.get i=T.st.get i)∧(∀ t,(conK ks x T).2.tmp t=T.tmp t)
  | [],[],cs,T,E,mv,fr,x,mv',fr',j,hc,ha=>by
    cases ha
    exact ⟨E,j,Fm.refl,by unfold CRs at hc; subst hc; show CRs E [] []; unfold CRs; rfl,fun _ _=>rfl,fun _=>rfl⟩
  | [],_::_,_,_,_,_,_,_,_,_,_,_,ha=>by cases ha
  | .o e::ks,v::is,cs,T,E,mv,fr,x,mv',fr',j,hc,ha=>by
    unfold absK at ha
    split at ha
    · rename_i y mv1 ho
      split at ha
      · rename_i z q hr
        cases ha
        unfold CRs at hc
        obtain ⟨c,d,rfl,h1,h2⟩:=hc
        have hag:v.ag=false:=by
          unfold ownH at ho
          cases v <;> first | rfl | cases ho
        obtain ⟨w,rfl,hw⟩:=CR_one hag h1
        obtain ⟨E1,j1,f1,v1,o1,_⟩:=j.own C ho hw
        obtain ⟨E2,j2,f2,c2,o2,t2⟩:=J.parts C j1 h2 hr
        refine ⟨E2,j2,f1.trans f2,?_,fun i hi=>(o2 i hi).trans (o1 i hi),fun t=>t2 t⟩
        show CRs E2 (.row T.nx::_) _
        unfold CRs
        exact ⟨[w],d,rfl,(V.fm f2 (.inl rfl) v1),c2⟩
      · cases ha
    · cases ha
  | .o e::ks,[],_,_,_,_,_,_,_,_,_,_,ha=>by cases ha
  | .s e::ks,v::is,cs,T,E,mv,fr,x,mv',fr',j,hc,ha=>by
    unfold absK at ha
    split at ha
    · rename_i y mv1 ho
      split at ha
      · rename_i z q hr
        cases ha
        unfold CRs at hc
        obtain ⟨c,d,rfl,h1,h2⟩:=hc
        have hag:v.ag=false:=by
          unfold ownsH at ho
          cases v <;> first | rfl | cases ho
        obtain ⟨w,rfl,hw⟩:=CR_one hag h1
        obtain ⟨E1,j1,f1,v1,o1,_⟩:=j.owns C ho hw
        obtain ⟨E2,j2,f2,c2,o2,t2⟩:=J.parts C j1 h2 hr
        refine ⟨E2,j2,f1.trans f2,?_,fun i hi=>(o2 i hi).trans (o1 i hi),fun t=>t2 t⟩
        show CRs E2 (.row T.nx::_) _
        unfold CRs
        exact ⟨[w],d,rfl,(V.fm f2 (.inl rfl) v1),c2⟩
      · cases ha
    · cases ha
  | .s e::ks,[],_,_,_,_,_,_,_,_,_,_,ha=>by cases ha
  | .v u::ks,is,cs,T,E,mv,fr,x,mv',fr',j,hc,ha=>by
    unfold absK at ha
    split at ha
    · rename_i c d hcut
      split at ha
      · rename_i y k hval
        split at ha
        · rename_i z q hr
          cases ha
          obtain ⟨c1,c2,rfl,g1,g2,g3⟩:=cutI_rel hcut hc
          obtain ⟨E1,j1,f1,_,c3,c4,rfl,r1,r2⟩:=j.val C hval g2
          unfold CRs at r2
          subst r2
          obtain ⟨E2,j2,f2,q2,o2,t2⟩:=J.parts C j1 g3 hr
          refine ⟨E2,j2,f1.trans f2,?_,o2,t2⟩
          show CRs E2 (Ls.mk u y::_) _
          unfold CRs
          exact ⟨c3,c2,by simp,CR_mk.2 (r1.mono f2.z f2.h),q2⟩
        · cases ha
      · cases ha
    · cases ha
theorem J.setE (j:J S0 S' h' E' wr P T E mv fr) {t:Nat} {s:SV} (hs:V E s (h'.tmp t)) (ht:isIn t P=false):J S0 S' h' E' wr P (T.setE t s) E mv fr:=by
  refine ⟨j.M.re rfl rfl rfl rfl rfl rfl,j.f1,j.f2,j.f3,j.f4,j.f5,j.nx,fun i => ?_,fun i hi => ?_,j.mb,j.ib,j.z,j.z',j.src,j.unw,j.box⟩
  · unfold SS.setE SS.tmp
    simp only
    rw [Tr.get_set]
    by_cases h:i=t
    · rw [if_pos h,h]; exact hs
    · rw [if_neg h]; exact j.v i
  · unfold SS.setE SS.tmp
    simp only
    rw [Tr.get_set,if_neg]
    · exact j.p i hi
    · rintro rfl
      rw [hi] at ht; cases ht
theorem J.con (C:JC S0 S' h' E' wr) (hkp:∀ t,isIn t P=true→S'.tmp t=S0.tmp t):∀ {h:List Hi} {d:D (hCode h)} {T:SS} {E:En} {mv fr:List Nat} {S2:SS},J S0 S' h' E' wr P T E mv fr→absH S0 S' h mv fr=some d→conR S0 wr P h d T=some S2 → ∃ E2 mv2 fr2,J S0 S' h' E' wr P S2 E2 mv2 fr2
  | [],d,T,E,mv,fr,S2,j,ha,hk=>by
    cases hk
    exact ⟨E,mv,fr,j⟩
  | .keep t::h,d,T,E,mv,fr,S2,j,ha,hk=>J.con C hkp (h:=h) j ha hk
  | .val t u::h,d,T,E,mv,fr,S2,j,ha,hk=>by
    unfold conR at hk
    rw [bif_eq] at hk
    split at hk
    · cases hk
    · rename_i ht
      unfold absH at ha
      rw [bif_eq] at ha
      split at ha
      · rename_i hag
        have hag:(S'.tmp t).ag=u.ag:=by simpa using hag
        split at ha
        · rename_i is hits
          split at ha
          · rename_i x k hval
            split at ha
            · rename_i y hr
              cases ha
              obtain ⟨cs,q1,q2,q3,q4⟩:=items_rel hits (C.v t)
              obtain ⟨E1,j1,f1,_,c3,c4,rfl,r1,r2⟩:=j.val C hval q2
              unfold CRs at r2
              subst r2
              rw [List.append_nil] at *
              have hV:V E1 (Ls.mk u x) (h'.tmp t):=by
                rw [V_mk]
                unfold RdV
                cases hu:u.ag with
                | true=>exact ⟨c3,q3 (hag.trans hu),r1⟩
                | false=>rw [← q4 (hag.trans hu)]; exact r1
              exact J.con C hkp (h:=h) (d:=y) (j1.setE hV (by simpa using ht)) hr hk
            · cases ha
          · cases ha
        · cases ha
      · cases ha
  | .own t e::h,d,T,E,mv,fr,S2,j,ha,hk=>by
    unfold conR at hk
    rw [bif_eq] at hk
    split at hk
    · cases hk
    · rename_i ht
      unfold absH at ha
      split at ha
      · rename_i x mv1 ho
        split at ha
        · rename_i y hr
          cases ha
          obtain ⟨E1,j1,f1,v1,o1,_⟩:=j.own C ho (C.v t)
          exact J.con C hkp (h:=h) (d:=y) (j1.setE v1 (by simpa using ht)) hr hk
        · cases ha
      · cases ha
  | .owns t e::h,d,T,E,mv,fr,S2,j,ha,hk=>by
    unfold conR at hk
    rw [bif_eq] at hk
    split at hk
    · cases hk
    · rename_i ht
      unfold absH at ha
      split at ha
      · rename_i x mv1 ho
        split at ha
        · rename_i y hr
          cases ha
          obtain ⟨E1,j1,f1,v1,o1,_⟩:=j.owns C ho (C.v t)
          exact J.con C hkp (h:=h) (d:=y) (j1.setE v1 (by simpa using ht)) hr hk
        · cases ha
      · cases ha
  | .mp t::h,d,T,E,mv,fr,S2,j,ha,hk=>by
    unfold conR at hk
    rw [bif_eq] at hk
    split at hk
    · cases hk
    · rename_i ht
      unfold absH at ha
      split at ha
      · rename_i x mv1 ho
        split at ha
        · rename_i y hr
          cases ha
          obtain ⟨E1,j1,f1,v1⟩:=j.mp C ho (C.v t)
          exact J.con C hkp (h:=h) (d:=y) (j1.setE v1 (by simpa using ht)) hr hk
        · cases ha
      · cases ha
  | .rw t e::h,d,T,E,mv,fr,S2,j,ha,hk=>by cases hk
  | .cell t u::h,d,T,E,mv,fr,S2,j,ha,hk=>by
    unfold conR at hk
    rw [bif_eq] at hk
    split at hk
    · cases hk
    · rename_i ht
      unfold absH at ha
      split at ha
      · rename_i m hst
        split at ha
        · rename_i z is hm
          rw [bif_eq] at ha
          split at ha
          · rename_i hcc
            simp only [Bool.and_eq_true] at hcc
            obtain ⟨hz,hc1,hc2,hc3⟩:=hcc
            have hc2:isIn m mv=false:=by simpa using hc2
            have hc3:isIn m fr=false:=by simpa using hc3
            have hz:=Nat.eq_of_beq_eq_true hz
            subst hz
            split at ha
            · rename_i x k hval
              split at ha
              · rename_i y hr
                cases ha
                have hv:=C.v t
                rw [hst,V_box] at hv
                obtain ⟨_,b,hb,hvt⟩:=hv
                obtain ⟨b',bl,cs,p1,p2,p3,p4,p5,p6⟩:=C.M.ent m _ hm
                rw [hb] at p1; cases p1
                have jm:J S0 S' h' E' wr P T E (m::mv) fr:=⟨j.M,j.f1,j.f2,j.f3,j.f4,j.f5,j.nx,j.v,j.p,j.mb,j.ib,j.z,j.z',fun i e b' hi hb'=>by
                  rcases j.src i e b' hi hb' with g | ⟨m',e',g1,g2⟩
                  · exact .inl g
                  · exact .inr ⟨m',e',isIn_cons.2 (.inr g1),g2⟩,j.unw,fun i e hi hw hg=>by
                  obtain ⟨q1,q2,q3⟩:=j.box i e hi hw hg
                  exact ⟨q1,q2,isIn_cons.2 (.inr q3)⟩⟩
                obtain ⟨E1,j1,f1,⟨⟨v1,v2⟩,v3⟩,c3,c4,rfl,r1,r2⟩:=jm.val C hval p6
                unfold CRs at r2
                subst r2
                rw [List.append_nil] at *
                have hfr:=j.free C hm (.inl hb) hc1 hc2 hc3
                have hor:∀ c,(some b=some c ∨ ∃ i,(fun _=>none:Nat→Option Nat) i=some c)→c=b:=by
                  rintro c (q | ⟨i,q⟩)
                  · cases q; rfl
                  · cases q
                have hsep:∀ m2 e2,T.st.get m2=some e2 → ¬ Bk E1 m2 b:=by
                  intro m2 e2 h2 h3
                  refine hfr.2.2.1 m2 e2 h2 ?_
                  unfold Bk at h3 ⊢
                  rw [v1,v2] at h3
                  exact h3
                obtain ⟨j2,f2,hold⟩:=j1.new (X := .box 0 [Ls.mk u x]) (o:=some b) (q:=fun _=>none) (mv':=m::mv) (fun _ h=>h) (fun c hc=>by
                  have:=hor c hc
                  subst this
                  refine ⟨hfr.1,fun hz => ?_,hsep,hfr.2.2.2⟩
                  rcases j1.z' c hz with g | ⟨m2,e2,g1,g2,g3⟩
                  · exact (C.M.own m _ c hm (.inl hb)).1 g
                  · have:=C.M.inj m m2 _ e2 c hm g2 (.inl hb) g3
                    subst this
                    rw [isIn_iff,List.mem_append, ← isIn_iff, ← isIn_iff,v3 m (isIn_cons.2 (.inl rfl)),hc3] at g1
                    rcases g1 with g1 | g1 <;> cases g1) (fun c hc=>by
                  have:=hor c hc
                  subst this
                  exact ⟨m,_,isIn_cons.2 (.inl rfl),hc1,hm,.inl hb⟩) (fun _ _=>rfl) (fun f=>⟨b,bl,c3,nwE_mb,by show h'.hp.get b=_; rw [← C.M.hp]; exact p2,p3,p4,p5,CRs.fm f (.inl rfl) (CRs_one.2 (CR_mk.2 r1))⟩)
                refine J.con C hkp (h:=h) (d:=y) (j2.setE (V_box.2 ⟨Nat.lt_succ_self _,b,nwE_mb,hvt⟩) (by simpa using ht)) hr hk
              · cases ha
            · cases ha
          · cases ha
        · cases ha
      · cases ha
  | .box t ks::h,d,T,E,mv,fr,S2,j,ha,hk=>by
    unfold conR at hk
    unfold absH at ha
    split at hk
    · rename_i m o hst
      rw [hst] at ha
      try simp only at ha
      rw [bif_eq] at hk
      split at hk
      · rename_i hcond
        rw [Bool.and_eq_true] at hcond
        obtain ⟨hw,hlt⟩:=hcond
        have hlt:m<S0.nx:=by rw [Nat.blt_eq] at hlt; exact hlt
        split at hk
        · rename_i z is0 hm0
          rw [hm0] at ha
          try simp only at ha
          split at ha
          · rename_i z0 _ z' is hm0' hm'
            cases hm0'
            rw [bif_eq] at ha
            split at ha
            · rename_i hzz
              have hzz:=Nat.eq_of_beq_eq_true hzz
              subst hzz
              split at ha
              · rename_i x mv1 fr1 hab
                rw [bif_eq] at ha
                split at ha
                · rename_i hcc
                  simp only [Bool.and_eq_true] at hcc
                  obtain ⟨hc1,hc2,hc3⟩:=hcc
                  have hc2:isIn m mv1=false:=by simpa using hc2
                  have hc3:isIn m fr1=false:=by simpa using hc3
                  split at ha
                  · rename_i y hr
                    cases ha
                    obtain ⟨b,bl,cs,p1,p2,p3,p4,p5,p6⟩:=C.M.ent m _ hm'
                    obtain ⟨E1,j1,f1,c1,o1,t1⟩:=J.parts C j p6 hab
                    have hTm:(conK ks x T).2.st.get m=none:=by
                      cases hq:(conK ks x T).2.st.get m with
                      | none=>rfl
                      | some e=>have:=(j1.box m e hlt hw hq).2.2; rw [hc2] at this; cases this
                    obtain ⟨M2,f2⟩:=put_ent (j:=m) (nx2:=(conK ks x T).2.nx) (mb2:=E1.mb) (ib2:=E1.ib) (e := .box z (conK ks x T).1) j1.M hTm (Nat.le_refl _) (Nat.lt_of_lt_of_le hlt j1.nx) (fun _ _=>rfl) (fun _ _ _=>rfl) (fun _=>rfl) (fun _=>⟨_,_,rfl⟩) (fun b' hb'=>j1.free C hm' ((j1.bk hlt b').1 hb') hc1 hc2 hc3) (fun hne k=>(j1.ib m hlt k).trans (C.M.noi m _ hm' (fun _ _ _ h=>by cases h) k)) (fun f=>⟨b,bl,cs,(j1.mb m hlt).trans p1,by show h'.hp.get b=_; rw [← C.M.hp]; exact p2,p3,p4,p5,CRs.fm f (.inl rfl) c1⟩)
                    have hget:∀ i,((conK ks x T).2.st.set m (.box z (conK ks x T).1)).get i=if i=m then some (.box z (conK ks x T).1) else (conK ks x T).2.st.get i:=fun i=>Tr.get_set _ _ _ _
                    have j2:J S0 S' h' E' wr P ((conK ks x T).2.upd m (.box z (conK ks x T).1)) ⟨h'.hp,E1.Z,E1.mb,E1.ib,(conK ks x T).2.st.set m (.box z (conK ks x T).1),(conK ks x T).2.nx⟩ (m::mv1) fr1:=by
                      refine ⟨M2,j1.f1,j1.f2,j1.f3,j1.f4,j1.f5,j1.nx,fun t=>(j1.v t).fm f2 (.inl rfl),j1.p,j1.mb,j1.ib,j1.z,j1.z',fun i e b' hi hb' => ?_,fun i hi hwi => ?_,fun i e hi hwi hg => ?_⟩
                      · have hi:((conK ks x T).2.st.set m (.box z (conK ks x T).1)).get i=some e:=hi
                        rw [hget] at hi
                        split at hi
                        · rename_i him
                          subst him
                          exact .inr ⟨i,_,isIn_cons.2 (.inl rfl),hc1,hm',(j1.bk hlt b').1 hb'⟩
                        · rcases j1.src i e b' hi hb' with g | ⟨m',e',g1,g2⟩
                          · exact .inl g
                          · exact .inr ⟨m',e',isIn_cons.2 (.inr g1),g2⟩
                      · show ((conK ks x T).2.st.set m (.box z (conK ks x T).1)).get i=_
                        rw [hget,if_neg]
                        · exact j1.unw i hi hwi
                        · rintro rfl
                          rw [hw] at hwi; cases hwi
                      · have hg2:((conK ks x T).2.st.set m (.box z (conK ks x T).1)).get i=some e:=hg
                        clear hg
                        rw [hget] at hg2
                        split at hg2
                        · rename_i him
                          subst him
                          cases hg2
                          exact ⟨.inl ⟨_,_,rfl⟩,by rw [hm0]; exact fun h=>(by cases h),isIn_cons.2 (.inl rfl)⟩
                        · obtain ⟨q1,q2,q3⟩:=j1.box i e hi hwi hg2
                          exact ⟨q1,q2,isIn_cons.2 (.inr q3)⟩
                    exact J.con C hkp (h:=h) (d:=y) j2 hr hk
                  · cases ha
                · cases ha
              · cases ha
            · cases ha
          · cases ha
        · cases hk
      · cases hk
    · cases hk
end
end Go.Ls
namespace Go.Ls
open Go Go.Hm
section
theorem killAll_get (st:Tr Ent):∀ (wr:List Nat) (m:Nat),(killAll st wr).get m=if isIn m wr=true then none else st.get m
  | [],m=>by unfold killAll isIn; rw [if_neg (by simp)]
  | a::wr,m=>by
    unfold killAll
    rw [Tr.get_del,killAll_get st wr m]
    by_cases h:m=a
    · rw [if_pos h,if_pos (isIn_cons.2 (.inl h))]
    · rw [if_neg h]
      by_cases h2:isIn m wr=true
      · rw [if_pos h2,if_pos (isIn_cons.2 (.inr h2))]
      · rw [if_neg h2,if_neg (fun h3=>by
          rcases isIn_cons.1 h3 with h4 | h4
          · exact h h4
          · exact h2 h4)]
theorem keepE_get (S0:SS):∀ (P:List Nat) (t:Nat),(keepE S0 P).get t=if isIn t P=true then some (S0.tmp t) else none
  | [],t=>by unfold keepE isIn; rw [if_neg (by simp)]; rfl
  | a::P,t=>by
    unfold keepE
    rw [Tr.get_set,keepE_get S0 P t]
    by_cases h:t=a
    · rw [if_pos h,if_pos (isIn_cons.2 (.inl h)),h]
    · rw [if_neg h]
      by_cases h2:isIn t P=true
      · rw [if_pos h2,if_pos (isIn_cons.2 (.inr h2))]
      · rw [if_neg h2,if_neg (fun h3=>by
          rcases isIn_cons.1 h3 with h4 | h4
          · exact h h4
          · exact h2 h4)]
variable {S0 S' S2:SS} {h0 h':St} {E0 E':En} {hh:List Hi} {wr:List Nat} {d:D (hCode hh)}
theorem lock_can {m:Nat} (hm:m<S0.nx):(S0.lock S0.nx hh wr S0.kp).can m=isIn m wr:=by
  show (Nat.ble S0.nx m||isIn m wr)=_
  have:Nat.ble S0.nx m=false:=by
    cases hq:Nat.ble S0.nx m with
    | false=>rfl
    | true=>rw [Nat.ble_eq] at hq; omega
  rw [this]; rfl
theorem join_core (M0:Mem S0 h0 E0) (hE0:Env S0 h0 E0) (M':Mem S' h' E') (hE':Env S' h' E') (g:Gr (S0.lock S0.nx hh wr S0.kp) h0 E0 S' h' E') (hkp:∀ t,isIn t (hTmp hh++S0.kp)=true→S'.tmp t=S0.tmp t) {st1:Tr Ent} {mv0:List Nat} {h2:List Hi} {d2:D (hCode h2)}
    (hst1:∀ m e,st1.get m=some e→S'.st.get m=some e ∧ ∃ e0,S0.st.get m=some e0∧((isIn m wr=false∧e=e0)∨(isIn m wr=true∧isIn m mv0=true∧S'.canW m=true ∧ ∃ u xs xs0,e = .row u xs∧e0 = .row u xs0∧xs0.length=xs.length)))
    (hun:∀ m,m<S0.nx→isIn m wr=false→st1.get m=S0.st.get m) (ha:absH S0 S' h2 mv0 []=some d2) (hc:conR S0 wr (hTmp hh++S0.kp) h2 d2 ⟨S0.nt,keepE S0 (hTmp hh++S0.kp),st1,S0.nx,S0.lk,S0.base,S0.wr,S0.kp⟩=some S2) :
    ∃ E2,Mem S2 h' E2∧Env S2 h' E2∧Gr (S0.lock S0.nx hh wr S0.kp) h0 E0 (S2.lock S0.nx hh wr S0.kp) h' E2∧(∀ t,isIn t (hTmp hh++S0.kp)=true→S2.tmp t=S0.tmp t)∧S2.nt=S0.nt∧S2.lk=S0.lk∧S2.base=S0.base∧S2.wr=S0.wr∧S2.kp=S0.kp:=by
  have hcant:∀ m,m<S0.nx→isIn m wr=false→S'.st.get m=S0.st.get m:=fun m hm hw=>g.cant m hm (by rw [lock_can hm]; exact hw)
  have C:JC S0 S' h' E' wr:=⟨M',hE'.v,g.base,g.wr,hcant⟩
  have hlt:∀ m e,st1.get m=some e→m<S0.nx:=fun m e hm=>by
    obtain ⟨_,e0,h0,_⟩:=hst1 m e hm
    exact M0.lt m e0 h0
  have f:Fm S0.nx E' ⟨h'.hp,E'.Z,E'.mb,E'.ib,st1,S0.nx⟩:=⟨fun _ hb=>hb,fun _ _=>by rw [M'.hp],Nat.le_refl _,fun _ _=>rfl,fun m u xs _ hx=>⟨xs,by rw [M'.st]; exact (hst1 m _ hx).1,rfl⟩,fun m g u xs _ hx=>⟨g,xs,by rw [M'.st]; exact (hst1 m _ hx).1,rfl⟩,fun m g u xs _ _ hx=>⟨xs,by rw [M'.st]; exact (hst1 m _ hx).1,SameLen.refl,fun _=>rfl⟩⟩
  have M1:Mem ⟨S0.nt,keepE S0 (hTmp hh++S0.kp),st1,S0.nx,S0.lk,S0.base,S0.wr,S0.kp⟩ h' ⟨h'.hp,E'.Z,E'.mb,E'.ib,st1,S0.nx⟩:=by
    refine ⟨rfl,rfl,rfl,hlt,fun m e hm => ?_,fun m m' e e' b hm hm'=>M'.inj m m' e e' b (hst1 m e hm).1 (hst1 m' e' hm').1,fun m e b hm hb=>M'.own m e b (hst1 m e hm).1 hb,M'.z,M'.fr,fun b hb=>⟨(M'.lk b hb).1,fun m e hm hmb => ?_⟩,M'.mbl,fun m e hm=>M'.noi m e (hst1 m e hm).1⟩
    · obtain ⟨g2,e0,g1,g3⟩:=hst1 m e hm
      have q:=M'.ent m e g2
      have hhp:∀ b,h'.hp.get b=E'.hp.get b:=fun b=>by rw [M'.hp]
      cases e with
      | box z is =>
        have g3 : .box z is=e0:=by
          rcases g3 with ⟨_,g3⟩ | ⟨_,_,_,u,xs,xs0,g3,_⟩
          · exact g3
          · cases g3
        subst g3
        obtain ⟨b,y,cs,p1,p2,p3,p4,p5,p6⟩:=q
        obtain ⟨_,_,cs0,_,_,_,_,_,p0⟩:=M0.ent m _ g1
        exact ⟨b,y,cs,p1,by show h'.hp.get b=_; rw [← M'.hp]; exact p2,p3,p4,p5,CRs.fm f (.inr (by have:=CRs_lt p0; rw [M0.nx] at this; exact this)) p6⟩
      | row e xs =>
        obtain ⟨p1,p2⟩:=q
        exact ⟨p1,RowR.fm (E:=E') (E':=⟨h'.hp,E'.Z,E'.mb,E'.ib,st1,S0.nx⟩) (fun _ q=>q) (fun b _=>hhp b) (fun b _=>hhp b) p2⟩
      | rows g' e xs =>
        have g3 : .rows g' e xs=e0:=by
          rcases g3 with ⟨_,g3⟩ | ⟨_,_,_,u,xs,xs0,g3,_⟩
          · exact g3
          · cases g3
        subst g3
        obtain ⟨p0,p1,b,y,k1,k2,k3,k4,k5,k6,k7,k8,k9⟩:=q
        obtain ⟨q0,_⟩:=M0.ent m _ g1
        refine ⟨by rw [M0.nx] at q0; exact q0,p1,b,y,k1,by show h'.hp.get b=_; rw [hhp]; exact k2,k3,k4,k5,fun i l hl => ?_,k7,k8,k9⟩
        obtain ⟨w1,w2,w3⟩:=k6 i l hl
        exact ⟨w1,w2,RowR.fm (E:=E') (E':=⟨h'.hp,E'.Z,E'.mb,E'.ib,st1,S0.nx⟩) (fun _ q=>q) (fun b _=>hhp b) (fun b _=>hhp b) w3⟩
      | map kvs =>
        obtain ⟨b,p1,p2⟩:=q
        exact ⟨b,p1,by show h'.hp.get b=_; rw [hhp]; exact p2⟩
    · have:=(M'.lk b hb).2 m e (hst1 m e hm).1 hmb
      rw [g.Slk] at this
      exact this
  have htmp:∀ t,SS.tmp ⟨S0.nt,keepE S0 (hTmp hh++S0.kp),st1,S0.nx,S0.lk,S0.base,S0.wr,S0.kp⟩ t=if isIn t (hTmp hh++S0.kp)=true then S0.tmp t else .any:=by
    intro t
    unfold SS.tmp
    simp only
    rw [keepE_get]
    by_cases ht:isIn t (hTmp hh++S0.kp)=true
    · rw [if_pos ht,if_pos ht]; rfl
    · rw [if_neg ht,if_neg ht]
  have j:J S0 S' h' E' wr (hTmp hh++S0.kp) ⟨S0.nt,keepE S0 (hTmp hh++S0.kp),st1,S0.nx,S0.lk,S0.base,S0.wr,S0.kp⟩ ⟨h'.hp,E'.Z,E'.mb,E'.ib,st1,S0.nx⟩ mv0 []:=by
    refine ⟨M1,rfl,rfl,rfl,rfl,rfl,Nat.le_refl _,fun t => ?_,fun t ht => ?_,fun _ _=>rfl,fun _ _ _=>rfl,fun _ hb=>hb,fun _ hb => .inl hb,fun m e b hm hb => ?_,fun m hm hw => ?_,fun m e hm hw hg => ?_⟩
    · rw [htmp]
      by_cases ht:isIn t (hTmp hh++S0.kp)=true
      · rw [if_pos ht]
        have:=hE'.v t
        rw [hkp t ht] at this
        exact this.fm f (.inr (by have:=V_lt (hE0.v t); rw [M0.nx] at this; exact this))
      · rw [if_neg ht]; exact V_any
    · rw [htmp,if_pos ht]
    · obtain ⟨g2,e0,g1,g3⟩:=hst1 m e hm
      rcases g3 with ⟨g3,rfl⟩ | ⟨g3,g4,g5,_⟩
      · exact .inl ⟨M0.lt m e g1,g3,g1⟩
      · exact .inr ⟨m,e,g4,g5,g2,hb⟩
    · exact hun m hm hw
    · obtain ⟨g2,e0,g1,g3⟩:=hst1 m e hg
      rcases g3 with ⟨g3,_⟩ | ⟨_,g4,_,u,xs,xs0,rfl,rfl,g6⟩
      · rw [hw] at g3; cases g3
      · exact ⟨.inr ⟨u,xs,xs0,rfl,g1,g6⟩,by rw [g1]; exact fun h=>(by cases h),g4⟩
  obtain ⟨E2,mv2,fr2,j2⟩:=J.con C hkp (h:=h2) (d:=d2) j ha hc
  refine ⟨E2,j2.M,⟨j2.f1.trans (hE0.nt.trans g.nt.symm),j2.v⟩,⟨g.nt,g.lk,g.df,j2.f1,j2.f2,rfl,rfl,rfl,g.nx,j2.nx,fun b hb=>j2.z b (g.z b hb),fun b hb => ?_,g.oth,fun b hb => ?_,fun m hm=>(j2.mb m hm).trans (g.mb m hm),fun m hm hcan => ?_,fun m hm hd => ?_,fun m u xs hm hx => ?_,fun b m e hb hm hmb => ?_,fun m g' u xs hm hx => ?_,fun m g' u xs hm hg hx => ?_,fun m hm hcan k=>(j2.ib m hm k).trans (g.ci m hm hcan k)⟩,j2.p,j2.f1,j2.f2,j2.f3,j2.f4,j2.f5⟩
  · rcases j2.z' b hb with q | ⟨m,e,q1,q2,q3⟩
    · exact g.z' b q
    · rcases g.ow b ⟨m,e,q2,q3⟩ with q | q
      · exact .inr (.inl q)
      · exact .inr (.inr q)
  · obtain ⟨m,e,hm,hmb⟩:=hb
    rcases j2.src m e b hm hmb with ⟨q1,q2,q3⟩ | ⟨m',e',_,_,q3,q4⟩
    · exact g.ow b ⟨m,e,by rw [hcant m q1 q2]; exact q3,(j2.bk q1 b).1 hmb⟩
    · exact g.ow b ⟨m',e',q3,q4⟩
  · have hm:m<S0.nx:=hm
    rw [lock_can hm] at hcan
    exact j2.unw m hm hcan
  · have hm:m<S0.nx:=hm
    have hd:S0.st.get m=none:=hd
    by_cases hw:isIn m wr=true
    · show S2.st.get m=none
      cases hq:S2.st.get m with
      | none=>rfl
      | some e=>exact absurd hd (j2.box m e hm hw hq).2.1
    · exact (j2.unw m hm (by simpa using hw)).trans hd
  · have hm:m<S0.nx:=hm
    have hx:S2.st.get m=some (.row u xs):=hx
    by_cases hw:isIn m wr=true
    · rcases (j2.box m _ hm hw hx).1 with ⟨z,is,he⟩ | ⟨u',xs',xs0,he,h9,hl⟩
      · cases he
      · cases he; exact ⟨xs0,h9,hl⟩
    · rw [j2.unw m hm (by simpa using hw)] at hx
      exact ⟨xs,hx,rfl⟩
  · rcases j2.src m e b hm hmb with ⟨q1,q2,q3⟩ | ⟨m',e',_,q2,q3,q4⟩
    · refine ⟨e,q3,?_⟩
      have hb2:=(j2.bk q1 b).1 hmb
      unfold Bk at hb2 ⊢
      rw [g.mb m q1] at hb2
      rcases hb2 with w | ⟨k,w⟩
      · exact .inl w
      · exact .inr ⟨k,by rw [← g.ci m q1 (by rw [lock_can q1]; exact q2)]; exact w⟩
    · have:=(M'.lk b (by rw [g.lk]; exact hb)).2 m' e' q3 q4
      rw [(canW_some q2).2] at this; cases this
  · have hm:m<S0.nx:=hm
    have hx:S2.st.get m=some (.rows g' u xs):=hx
    by_cases hw:isIn m wr=true
    · rcases (j2.box m _ hm hw hx).1 with ⟨z,is,he⟩ | ⟨u',xs',xs0,he,_⟩ <;> cases he
    · rw [j2.unw m hm (by simpa using hw)] at hx
      exact ⟨g',xs,hx,rfl⟩
  · have hm:m<S0.nx:=hm
    have hx:S2.st.get m=some (.rows g' u xs):=hx
    by_cases hw:isIn m wr=true
    · rcases (j2.box m _ hm hw hx).1 with ⟨z,is,he⟩ | ⟨u',xs',xs0,he,_⟩ <;> cases he
    · rw [j2.unw m hm (by simpa using hw)] at hx
      exact ⟨xs,hx,SameLen.refl,fun k=>(j2.ib m hm k).trans (g.ci m hm (by rw [lock_can hm]; simpa using hw) k)⟩
theorem join_rel (M0:Mem S0 h0 E0) (hE0:Env S0 h0 E0) (M':Mem S' h' E') (hE':Env S' h' E') (g:Gr (S0.lock S0.nx hh wr S0.kp) h0 E0 S' h' E') (hkp:∀ t,isIn t (hTmp hh++S0.kp)=true→S'.tmp t=S0.tmp t) (ha:absH S0 S' hh [] []=some d) (hc:conH S0 hh wr d=some S2) :
    ∃ E2,Mem S2 h' E2∧Env S2 h' E2∧Gr (S0.lock S0.nx hh wr S0.kp) h0 E0 (S2.lock S0.nx hh wr S0.kp) h' E2∧(∀ t,isIn t (hTmp hh++S0.kp)=true→S2.tmp t=S0.tmp t)∧S2.nt=S0.nt∧S2.lk=S0.lk∧S2.base=S0.base∧S2.wr=S0.wr∧S2.kp=S0.kp:=by
  have hcant:∀ m,m<S0.nx→isIn m wr=false→S'.st.get m=S0.st.get m:=fun m hm hw=>g.cant m hm (by rw [lock_can hm]; exact hw)
  have hget:=killAll_get S0.st wr
  have hst:∀ m e,(killAll S0.st wr).get m=some e→isIn m wr=false∧S0.st.get m=some e∧S'.st.get m=some e:=by
    intro m e hm
    rw [hget] at hm
    split at hm
    · cases hm
    · rename_i hw
      have hw:isIn m wr=false:=by simpa using hw
      exact ⟨hw,hm,by rw [hcant m (M0.lt m e hm) hw]; exact hm⟩
  unfold conH at hc
  split at hc
  · rename_i t e r dd
    split at hc
    · rename_i m hst0
      split at hc
      · rename_i u xs0 hm0
        rw [bif_eq] at hc
        split at hc
        · rename_i hcond
          simp only [Bool.and_eq_true,decide_eq_true_eq,Nat.blt_eq] at hcond
          obtain ⟨hw,hlt,hue⟩:=hcond
          subst hue
          unfold absH at ha
          rw [hst0] at ha
          simp only at ha
          split at ha
          · rename_i x' mv' hown
            split at ha
            · rename_i y hr
              cases ha
              unfold ownH at hown
              simp only at hown
              split at hown
              · rename_i u' ys hm'
                split at hown
                · rename_i zs hzs
                  rw [bif_eq] at hown
                  split at hown
                  · rename_i hcc
                    simp only [Bool.and_eq_true] at hcc
                    cases hown
                    obtain ⟨e0,e1⟩:=castD_some hzs
                    cases e0
                    have e1:ys=x':=e1
                    subst e1
                    obtain ⟨xs1,g1,g2⟩:=g.row m u ys hlt hm'
                    have g1:S0.st.get m=some (.row u xs1):=g1
                    have hget2:∀ i,((killAll S0.st wr).set m (.row u ys)).get i=if i=m then some (.row u ys) else (killAll S0.st wr).get i:=fun i=>Tr.get_set _ _ _ _
                    refine join_core (hh := .rw t u::r) M0 hE0 M' hE' g hkp (st1:=(killAll S0.st wr).set m (.row u ys)) (mv0:=[m]) (h2:=r) (d2:=y) (fun i e hi => ?_) (fun i hi hwi => ?_) hr hc
                    · rw [hget2] at hi
                      split at hi
                      · rename_i him
                        subst him
                        cases hi
                        exact ⟨hm',_,g1,.inr ⟨hw,isIn_cons.2 (.inl rfl),hcc.1,u,ys,xs1,rfl,rfl,g2⟩⟩
                      · obtain ⟨w1,w2,w3⟩:=hst i e hi
                        exact ⟨w3,e,w2,.inl ⟨w1,rfl⟩⟩
                    · rw [hget2,if_neg (by rintro rfl; rw [hw] at hwi; cases hwi),hget,if_neg (by rw [hwi]; simp)]
                  · cases hown
                · cases hown
              · cases hown
            · cases ha
          · cases ha
        · cases hc
      · cases hc
    · cases hc
  · refine join_core M0 hE0 M' hE' g hkp (st1:=killAll S0.st wr) (mv0:=[]) (fun i e hi => ?_) (fun i hi hwi => ?_) ha hc
    · obtain ⟨w1,w2,w3⟩:=hst i e hi
      exact ⟨w3,e,w2,.inl ⟨w1,rfl⟩⟩
    · rw [hget,if_neg (by rw [hwi]; simp)]
theorem unlock (hca:canAll S0 wr=true) (g:Gr (S0.lock S0.nx hh wr S0.kp) h0 E0 S' h' E') (hS:S2.st=S'.st) (hn:S2.nx=S'.nx) (e1:S2.nt=S0.nt) (e2:S2.lk=S0.lk) (e3:S2.base=S0.base) (e4:S2.wr=S0.wr) (e5:S2.kp=S0.kp):Gr S0 h0 E0 S2 h' E' :=
  g.re rfl rfl (fun m hm hc=>by
    have hm:m<S0.nx:=hm
    rw [lock_can hm]
    cases hq:isIn m wr with
    | false=>rfl
    | true =>
      have:=canAll_some hca m (isIn_iff.1 hq)
      rw [hc] at this; cases this) rfl rfl (fun _ h=>h) hS hn rfl rfl g.nt g.lk g.df e1 e2 e3 e4 e5
end
theorem bndS_some {α β:Type} {o:Option (Sum α β)} {f:α→Option β} {r:β} (h:bndS o f=some r):(∃ x,o=some (.inl x)∧f x=some r)∨o=some (.inr r):=by
  unfold bndS at h
  split at h
  · exact .inl ⟨_,rfl,h⟩
  · cases h; exact .inr rfl
  · cases h
theorem inL_some {α β:Type} {o:Option α} {v:Sum α β} (h:inL o=some v):∃ x,o=some x∧v = .inl x:=by
  unfold inL at h
  split at h
  · cases h; exact ⟨_,rfl,rfl⟩
  · cases h
theorem inR_some {α β:Type} {o:Option β} {v:Sum α β} (h:inR o=some v):∃ x,o=some x∧v = .inr x:=by
  unfold inR at h
  split at h
  · cases h; exact ⟨_,rfl,rfl⟩
  · cases h
end Go.Ls
namespace Go.Ls
open Go Go.Hm
def DelOk (cx:Cx) (f:FuncId):Prop := ∀ (h:St) (b n i:Nat) (y:Blk) (cs:List HV),h.hp.get b=some (.blk y)→y.own=true→isIn b h.lk=false→y.z=1→gather y 0 n=some cs→n≤140737488355328→roomOk n 8=true→i<n →
  ∃ hp' y',(∃ k0, ∀ k,k0≤k→call cx (run cx k) f [.sl b 0 n,.int .i64 (Int.ofNat i),.int .i64 (Int.ofNat (i+1))] h=some (.sl b 0 (n - 1),⟨h.nt,h.env,hp',h.nx,h.lk,h.df⟩))∧(∀ c,c≠b→hp'.get c=h.hp.get c)∧hp'.get b=some (.blk y')∧y'.own=true∧y'.z=1∧gather y' 0 (n - 1)=some (cs.eraseIdx i)
def CloneOk (cx:Cx) (f:FuncId):Prop := ∀ (fn:Func) (t:Nat) (y:El),cx.fn.get f=some fn→fn.params.toList=[t]→cx.sliceEl t=some y → ∀ (h:St) (v:HV) (cs:List HV) (k:Nat),(∀ b,h.nx≤b→h.hp.get b=none)→(∀ b,isIn b h.lk=true→b<h.nx)→srcOf h y.z v=some (cs,k)→(v = .nils∨v = .esl∨v = .emp ∨ ∃ b o n,v = .sl b o n∧b<h.nx)→cs.length=k*y.z→roomOk k y.by_=true →
  ∃ v' hp' nx',(∃ k0, ∀ k,k0≤k→call cx (run cx k) f [v] h=some (v',⟨h.nt,h.env,hp',nx',h.lk,h.df⟩))∧h.nx≤nx'∧(∀ b,b<h.nx→hp'.get b=h.hp.get b)∧(∀ b,nx'≤b→hp'.get b=none)∧((v' = .nils∧k=0) ∨ ∃ b y',v' = .sl b 0 k∧h.nx≤b∧b<nx'∧hp'.get b=some (.blk y')∧y'.own=true∧y'.z=y.z∧gather y' 0 (k*y.z)=some cs)
def SpOk (cx:Cx) (f q:Nat):Prop:=(q=1→DelOk cx f)∧(q=2→CloneOk cx f)
section
variable {E:En} {S:SS} {h:St} {cy:Cy} {R:Type} {r:R} {K:SV→SS→Option R}
theorem ints_of {hp:Tr Hm.Obj} {Z:Nat→Prop} {k:IntKind}:∀ {xs:List Int} {cs:List HV},RdA (RdC hp Z (.int k)) cs xs→cs=xs.map (HV.int k)
  | [],_,h=>h
  | x::xs,_,⟨c,d,e,h1,h2⟩=>by
    have h1:c=[.int k x]:=h1
    rw [e,h1,ints_of h2]; rfl
theorem ints_row {y:Blk} {k:IntKind} {n:Nat} {xs:List Int} {hp:Tr Hm.Obj} {Z:Nat→Prop} (hg:gather y 0 n=some (xs.map (HV.int k))) (i:Nat) (x:Int) (hx:xs[i]?=some x):∃ cs,gather y (i*(U.int k).size) (U.int k).size=some cs∧RdC hp Z (.int k) cs x:=by
  refine ⟨[.int k x],?_,rfl⟩
  show gather y (i*1) 1=_
  have hl:=gather_len hg
  rw [List.length_map] at hl
  have hi:=(List.getElem?_eq_some_iff.1 hx).1
  rw [gather_char] at hg ⊢
  refine ⟨rfl,fun j hj => ?_⟩
  have:j=0:=by omega
  subst this
  obtain ⟨g1,g2⟩:=hg.2 i (by omega)
  rw [Nat.mul_one,Nat.add_zero]
  rw [Nat.zero_add] at g1 g2
  refine ⟨g1,?_⟩
  rw [g2,List.getElem?_map,hx]; rfl
theorem er_map {α β:Type} (f:α→β):∀ (l:List α) (i:Nat),(l.map f).eraseIdx i=(l.eraseIdx i).map f
  | [],_=>rfl
  | _::_,0=>rfl
  | a::l,i+1=>by
    show f a::(l.map f).eraseIdx i=f a::(l.eraseIdx i).map f
    rw [er_map f l i]
theorem add_one {i:Nat} (h:i≤140737488355328):addI .i64 (Int.ofNat i) 1=Int.ofNat (i+1):=by
  show wrapI .i64 ((i:Int)+1)=((i+1:Nat):Int)
  unfold wrapI intOk
  rw [decide_eq_true (by omega),decide_eq_true (by omega)]
  rfl
theorem src_kind (M:Mem S h E) {u:U} {x:SV} {vx:HV} {new:List (D u)} {L:List Nat} (hnew:rdV S.st (.list u) x=some new) (hx:V E x vx) (hL:rowsI S.st [x]=some L):vx = .nils∨vx = .esl∨vx = .emp ∨ ∃ b o n,vx = .sl b o n∧b<h.nx:=by
  have hent:∀ m e,E.st.get m=some e→EntR E m e:=fun m e hm=>M.ent m e (by rw [← M.st]; exact hm)
  have hbig:RdV E.hp (fun _=>True) (.list u) vx new:=rdV_rel (E:=E) (Q:=fun _=>True) (k:=3) (fun _ _=>trivial) hent (by rw [M.st]; exact hnew) hx (cov_all (fun _ _ _ _ _=>trivial) (by rw [M.st]; exact hL))
  have hbig:RdC E.hp (fun _=>True) (.list u) [vx] new:=hbig
  unfold RdC at hbig
  obtain ⟨v,hv,hbig⟩:=hbig
  cases hv
  rcases hbig with ⟨_,h | h | h⟩ | ⟨b,o,y,⟨h1,_⟩,_,h3,_⟩
  · exact .inl h
  · exact .inr (.inl h)
  · exact .inr (.inr (.inl h))
  · refine .inr (.inr (.inr ⟨b,o,_,h1,?_⟩))
    rcases Nat.lt_or_ge b h.nx with g | g
    · exact g
    · rw [M.hp,M.fr b g] at h3; cases h3
theorem specS_rel {f q:Nat} (hsp:SpOk cy.cx f q) {args:List SV} {vs:List HV} (hk:specS cy S f q args K=some r) (M:Mem S h E) (hv:Vs E args vs) :
    ∃ v h' s S' E',(∃ k0, ∀ k,k0≤k→call cy.cx (run cy.cx k) f vs h=some (v,h'))∧Mem S' h' E'∧Gr S h E S' h' E'∧S'.env=S.env∧h'.env=h.env∧V E' s v∧K s S'=some r:=by
  unfold specS at hk
  split at hk
  · rename_i a l1 i l2 j
    unfold Vs at hv
    obtain ⟨va,r1,rfl,ha,hv⟩:=hv
    unfold Vs at hv
    obtain ⟨vi,r2,rfl,hi,hv⟩:=hv
    unfold Vs at hv
    obtain ⟨vj,r3,rfl,hj,hv⟩:=hv
    unfold Vs at hv
    subst hv
    have hi:V E _ vi:=hi
    have hj:V E _ vj:=hj
    have ha:V E a va:=ha
    rw [V_int] at hi hj
    subst hi; subst hj
    unfold delS at hk
    split at hk
    · rename_i m _
      split at hk
      · rename_i e xs hm
        split at hk
        · rename_i ys hys
          rw [bif_eq] at hk
          split at hk
          · rename_i hcw
            obtain ⟨hcan,hlk⟩:=canW_some hcw
            obtain ⟨h1,hk2⟩:=chk_some hk
            obtain ⟨h2,hk2'⟩:=chk_some hk2
            obtain ⟨h3,hk3⟩:=chk_some hk2'
            obtain ⟨e0,e1⟩:=castD_some hys
            cases e0
            have e1:xs=ys:=e1
            subst e1
            have h3:roomOk (([]:List Int).length+xs.length) 8=true:=h3
            rw [List.length_nil,Nat.zero_add] at h3
            unfold inL? at h1
            simp only [Bool.and_eq_true,decide_eq_true_eq] at h1
            obtain ⟨n,rfl⟩:∃ n:Nat,i=Int.ofNat n:=⟨_,natB h1.1⟩
            have hlt:n<xs.length:=Int.ofNat_lt.1 h1.2
            obtain ⟨hl,hr⟩:=M.ent m _ hm
            have h2:j=addI .i64 (Int.ofNat n) 1:=of_decide_eq_true h2
            rw [add_one (by omega)] at h2
            subst h2
            rw [V_row] at ha
            have hrv:=ha.2.2.1 _ xs (by rw [M.st]; exact hm)
            unfold RowV at hrv
            unfold RowR at hr
            cases hb:E.mb m with
            | none=>rw [hb] at hr; rw [hr] at hlt; cases hlt
            | some b =>
              rw [hb] at hr hrv
              subst hrv
              obtain ⟨y,p1,p2,p3,p4,p5⟩:=hr
              obtain ⟨cs,g1,g2⟩:=RdA_of (R:=RdC E.hp E.Z (.int .i64)) (o:=0) (z:=(U.int .i64).size) (fun _ _ h=>RdC.len h) (fun i x hx=>by
                obtain ⟨cs,q1,q2⟩:=p5 i x hx
                exact ⟨cs,by rw [Nat.zero_add]; exact q1,q2⟩)
              have g1:gather y 0 (xs.length*1)=some cs:=g1
              rw [Nat.mul_one] at g1
              have hcs:=ints_of g2
              subst hcs
              obtain ⟨hp',y',hcall,d1,d2,d3,d4,d5⟩:=hsp.1 rfl h b xs.length n y _ (by rw [← M.hp]; exact p1) p2 (not_lk M hm (.inl hb) hlk) p3 g1 hl h3 hlt
              have hget:∀ j,(S.kill m).st.get j=if j=m then none else S.st.get j:=fun j=>Tr.get_del _ _ _
              have hdl:delL xs (Int.ofNat n)=xs.eraseIdx n:=rfl
              have hlen:(xs.eraseIdx n).length=xs.length - 1:=by rw [List.length_eraseIdx,if_pos hlt]
              have hd5:gather y' 0 (xs.length - 1)=some ((xs.eraseIdx n).map (HV.int .i64)):=by rw [d5,er_map]
              have hyn:xs.length - 1≤y'.n:=by
                by_cases h0:xs.length - 1=0
                · omega
                · rw [gather_char] at hd5
                  have:=(hd5.2 (xs.length - 2) (by omega)).1
                  omega
              have:=adopt_rel (st1:=(S.kill m).st) (hp':=hp') (nx':=h.nx) (o:=some b) (e := .row (.int .i64) (delL xs (Int.ofNat n))) M (fun j e hj=>by
                  rw [hget] at hj
                  split at hj
                  · cases hj
                  · exact hj) (fun j q1 q2=>by
                  rw [hget] at q2
                  split at q2
                  · rename_i hjm; rw [hjm]; exact hcan
                  · exact absurd q2 q1) (fun c hc=>by
                  by_cases hcb:c=b
                  · subst hcb; exact .inr ⟨m,_,hm,.inl hb,by rw [hget,if_pos rfl]⟩
                  · exact .inl (d1 c hcb)) (Nat.le_refl _) (fun c hc=>by
                  rw [d1 c (by have:=(M.own m _ b hm (.inl hb)).2; omega)]
                  exact M.fr c hc) (fun c hc=>by
                  cases hc
                  exact ⟨(M.own m _ b hm (.inl hb)).2,.inr ⟨m,_,hm,.inl hb,by rw [hget,if_pos rfl],hlk⟩⟩) (fun _ _=>⟨by rw [hdl,hlen]; omega,by
                  rw [mb_new]
                  refine ⟨y',d2,d3,d4,?_,fun i x hx=>ints_row hd5 i x hx⟩
                  rw [hdl,hlen]
                  show (xs.length - 1)*1≤y'.n
                  omega⟩)
              refine ⟨_,_,_,_,_,hcall,this.1,this.2,rfl,rfl,V_row.2 ⟨Nat.lt_succ_self _,rfl,fun u zs hz => ?_,fun g u zs hz => ?_⟩,hk3⟩
              · have hz:((S.kill m).st.set S.nx (.row (.int .i64) (delL xs (Int.ofNat n)))).get S.nx=some (.row u zs):=hz
                rw [Tr.get_set_same] at hz
                cases hz
                rw [mb_new]
                show _=HV.sl b 0 (delL xs (Int.ofNat n)).length
                rw [hdl,hlen]
              · have hz:((S.kill m).st.set S.nx (.row (.int .i64) (delL xs (Int.ofNat n)))).get S.nx=some (.rows g u zs):=hz
                rw [Tr.get_set_same] at hz
                cases hz
          · cases hk
        · cases hk
      · cases hk
    · cases hk
  · rename_i x
    unfold Vs at hv
    obtain ⟨vx,r1,rfl,hx,hv⟩:=hv
    unfold Vs at hv
    subst hv
    have hx:V E x vx:=hx
    split at hk
    · rename_i fn hfn
      split at hk
      · rename_i t ht
        unfold appendS at hk
        split at hk
        · rename_i y u hy hu
          rw [bif_eq] at hk
          split at hk
          · rename_i hsrc
            split at hk
            · rename_i new hnew
              split at hk
              · rename_i L hL
                split at hk
                · rename_i S1 hS1
                  split at hk
                  · rename_i old S2 hown
                    obtain ⟨hroom,hk2⟩:=chk_some hk
                    cases hown
                    obtain ⟨E1,M1,g1,e1,e2,e3,e4,e5,e6⟩:=freeze_rel M hS1
                    obtain ⟨c,hsc,hRd,hns⟩:=src_rel M hx hnew hL M1 g1 e3
                    have hz:=elU_size hy hu
                    have hcl:=RdA_len (z:=u.size) (fun _ _ h=>h.len) hRd
                    have hkind:=src_kind M hnew hx hL
                    obtain ⟨v',hp',nx',hcall,b1,b2,b3,b4⟩:=hsp.2 rfl fn t y hfn ht hy h vx c new.length M.fr (fun b hb=>(M.lk b hb).1) (by rw [hz]; exact hsc) hkind (by rw [hz]; exact hcl) (by
                      have:roomOk (([]:List (D u)).length+new.length) y.by_=true:=hroom
                      simpa using this)
                    have hbig:new.length≤140737488355328:=room_le (by
                      have:roomOk (([]:List (D u)).length+new.length) y.by_=true:=hroom
                      simpa using this) (sliceEl_len hy).2
                    have fin:∀ (o:Option Nat),(∀ b,o=some b→b<nx'∧h.nx≤b)→((∀ u cs x,RdC E1.hp E1.Z u cs x→RdC hp' E1.Z u cs x)→RowR ⟨hp',E1.Z,E1.mb,E1.ib,E1.st,E1.nx⟩ o u new)→RowV o new.length v' → ∃ v h' s S' E',(∃ k0, ∀ k,k0≤k→call cy.cx (run cy.cx k) f [vx] h=some (v,h'))∧Mem S' h' E'∧Gr S h E S' h' E'∧S'.env=S.env∧h'.env=h.env∧V E' s v∧K s S'=some r:=by
                      intro o ho hR hV
                      have:=adopt_rel (st1:=S1.st) (hp':=hp') (nx':=nx') (o:=o) (e := .row u (appL [] new)) M1 (fun _ _ h=>h) (fun j q1 q2=>absurd q2 q1) (fun b hb => .inl (b2 b hb)) b1 b3 (fun b hb=>⟨(ho b hb).1,.inl (ho b hb).2⟩) (fun g1 _=>⟨hbig,by rw [mb_new]; exact hR g1⟩)
                      refine ⟨v',_,_,_,_,hcall,this.1,g1.trans this.2,e1,rfl,V_row.2 ⟨Nat.lt_succ_self _,rowV_cell hV,fun w zs hz => ?_,fun g w zs hz => ?_⟩,hk2⟩
                      · have hz:(S1.st.set S1.nx (.row u (appL [] new))).get S1.nx=some (.row w zs):=hz
                        rw [Tr.get_set_same] at hz
                        cases hz
                        rw [mb_new]; exact hV
                      · have hz:(S1.st.set S1.nx (.row u (appL [] new))).get S1.nx=some (.rows g w zs):=hz
                        rw [Tr.get_set_same] at hz
                        cases hz
                    rcases b4 with ⟨rfl,h0⟩ | ⟨b,y',rfl,q1,q2,q3,q4,q5,q6⟩
                    · exact fin none (fun b hb=>by cases hb) (fun _=>List.length_eq_zero_iff.1 h0) ⟨h0,.inl rfl⟩
                    · rw [hz] at q5 q6
                      refine fin (some b) (fun c hc=>by cases hc; exact ⟨q2,q1⟩) (fun g1=>⟨y',q3,q4,q5,?_,fun i x hxi => ?_⟩) rfl
                      · by_cases h0:new.length*u.size=0
                        · omega
                        · have q6':=q6
                          rw [gather_char] at q6'
                          have:=(q6'.2 (new.length*u.size - 1) (by omega)).1
                          omega
                      · obtain ⟨c1,c2,c3,w1,w2,w3,w4⟩:=RdA_get (z:=u.size) (fun _ _ h=>h.len) hRd hxi
                        have:=gather_sub q6 w1 w2 w3
                        rw [Nat.zero_add] at this
                        exact ⟨c2,this,g1 _ _ _ w4⟩
                  · cases hk
                · cases hk
              · cases hk
            · cases hk
          · cases hk
        · cases hk
      · cases hk
    · cases hk
  · cases hk
theorem retJ_rel {ih:Sym} (hih:SymOk cy ih) {f:FuncId} {b:Code} {hh:List Hi} {S:SS} {h:St} {K:SS→Option R} (hk:retJ cy ih f b hh S K=some r) (M:Mem S h E) (hE:Env S h E) (hkp0:S.kp=[]) :
    ∃ e h1 S2 E2,(∃ k0, ∀ k,k0≤k→run cy.cx k b h=some (e,h1))∧(∀ id,e ≠ .exit id)∧Mem S2 h1 E2∧Env S2 h1 E2∧Gr S h E S2 h1 E2∧K S2=some r:=by
  unfold retJ at hk
  rw [bif_eq] at hk
  split at hk
  · rename_i hca
    obtain ⟨d,hd,hk2⟩:=bnd_some hk
    split at hk2
    · rename_i S2 hS2
      have Ml:Mem (S.lock S.nx hh (hWr S hh) S.kp) h E:=M.re rfl rfl rfl rfl rfl rfl
      obtain ⟨e,h1,S1,E1,q1,q2,q3,q4,q5,q6⟩:=hih _ _ _ _ _ _ _ hd h E Ml ⟨hE.nt,hE.v⟩
      have hne:∀ id,e ≠ .exit id:=by
        rintro id rfl
        cases q6
      have q6:absH S S1 hh [] []=some d:=by
        cases e with
        | exit id=>exact absurd rfl (hne id)
        | norm=>exact q6
        | ret=>exact q6
      obtain ⟨E2,w1,w2,w3,w4,w5,w6,w7,w8,w9⟩:=join_rel M hE q2 q3 q4 q5 q6 hS2
      exact ⟨e,h1,S2,E2,q1,hne,w1,w2,unlock hca w3 rfl rfl w5 w6 w7 w8 w9,hk2⟩
    · cases hk2
  · cases hk
theorem callS_rel (hct:∀ f c,cy.ct.get f=some c→COk cy.cx f c) (hsp:∀ f q,cy.sp.get f=some q→SpOk cy.cx f q) {ih:Sym} (hih:SymOk cy ih) {f:FuncId} {args:List SV} {vs:List HV} (hk:callS cy ih f args S K=some r) (M:Mem S h E) (hv:Vs E args vs) :
    ∃ v h' s S' E',(∃ k0, ∀ k,k0≤k→call cy.cx (run cy.cx k) f vs h=some (v,h'))∧Mem S' h' E'∧Gr S h E S' h' E'∧S'.env=S.env∧h'.env=h.env∧V E' s v∧K s S'=some r:=by
  unfold callS at hk
  split at hk
  · rename_i q hext
    rw [bif_eq] at hk
    split at hk
    · rename_i hq
      have hq:=Nat.eq_of_beq_eq_true hq
      subst hq
      split at hk
      · unfold Vs at hv
        subst hv
        exact ⟨.bool true,h,.bool true true,S,E,⟨0,fun k _=>by unfold call; rw [hext]; rfl⟩,M,Gr.refl,rfl,rfl,V_bool.2 rfl,hk⟩
      · cases hk
    · cases hk
  · rename_i hext
    split at hk
    · rename_i q hq
      exact specS_rel (hsp f q hq) hk M hv
    split at hk
    · rename_i c hc
      split at hk
      · rename_i x hx
        split at hk
        · rename_i L hL
          split at hk
          · rename_i S1 hS1
            obtain ⟨y,hy,hk2⟩:=bnd_some hk
            clear hk
            obtain ⟨E1,M1,g1,e1,e2,e3,e4,e5,e6⟩:=freeze_rel M hS1
            have hE1:E1.hp=E.hp:=by rw [M1.hp,M.hp]
            have hent:∀ m e,E.st.get m=some e→EntR E m e:=fun m e hm=>M.ent m e (by rw [← M.st]; exact hm)
            obtain ⟨l,hp',nx',Z',hcall,b1,b2,b3,b4,b5,b6⟩:∃ l hp' nx' Z',(∃ k0, ∀ k,k0≤k→call cy.cx (run cy.cx k) f vs h=some (one l,⟨h.nt,h.env,hp',nx',h.lk,h.df⟩))∧h.nx≤nx'∧(∀ b,b<h.nx→hp'.get b=h.hp.get b)∧(∀ b,nx'≤b→hp'.get b=none)∧(∀ b,E1.Z b→Z' b)∧(∀ b,Z' b→E1.Z b∨(h.nx≤b∧b<nx'))∧RdArgs hp' Z' c.r l y:=by
              cases hf:c.r.flat with
              | true =>
                have ha:RdArgs h.hp (fun b=>E.Z b∨Ow S E b) c.a vs x:=by
                  rw [← M.hp]
                  exact rdArgs_rel (E:=E) (Q:=fun b=>E.Z b∨Ow S E b) (k:=3) (fun b hb => .inl hb) hent (by rw [M.st]; exact hx) hv (cov_all (fun m e b hm hb => .inr ⟨m,e,by rw [← M.st]; exact hm,hb⟩) (by rw [M.st]; exact hL))
                obtain ⟨l,hp',nx',Z',q1,q2,q3,q4,q5,q6,q7⟩:=hct f c hc h _ vs x y M.fr (fun b hb=>(M.lk b hb).1) (fun b hb=>by
                  rcases hb with hb | ⟨m,e,hm,hb⟩
                  · exact M.z b hb
                  · exact (M.own m e b hm hb).2) ha hy
                exact ⟨l,hp',nx',E1.Z,q1,q2,q3,q4,fun b hb=>hb,fun b hb => .inl hb,q7.flat hf⟩
              | false =>
                rw [hf] at e3
                have ha:RdArgs h.hp E1.Z c.a vs x:=by
                  rw [← M.hp]
                  exact rdArgs_rel (E:=E) (Q:=E1.Z) (k:=3) g1.z hent (by rw [M.st]; exact hx) hv (rowsK_cov (E:=E) (Q:=E1.Z) (by rw [M.st]; exact hL) (fun m' e' b' hm' he' hb'=>e3 m' e' b' (isIn_iff.2 hm') (by rw [← M.st]; exact he') hb'))
                exact hct f c hc h _ vs x y M.fr (fun b hb=>(M.lk b hb).1) M1.z ha hy
            obtain ⟨M2,g2⟩:=more_rel M1 b2 b1 b3 b4 b5
            refine ⟨one l,_,_,_,_,hcall,M2,g1.trans g2,e1,rfl,?_,hk2⟩
            exact sOne_rel (mkArgs_rel (E:=⟨hp',Z',E1.mb,E1.ib,E1.st,E1.nx⟩) b6)
          · cases hk
        · cases hk
      · cases hk
    · split at hk
      · rename_i fn hfn
        split at hk
        · rename_i b hb
          rw [bif_eq] at hk
          split at hk
          · rename_i hle
            have hle':Nat.ble vs.length fn.ntmps=true:=by rw [Vs_len hv]; exact hle
            split at hk
            · rename_i hrj
              obtain ⟨e,h1,S1,E1,⟨k0,hrun⟩,M1,En1,g1,_,hk2⟩:=hih _ _ _ _ _ _ _ hk ⟨fn.ntmps,envOf 0 vs .e,h.hp,h.nx,h.lk,.undef⟩ E (M.re rfl rfl rfl rfl rfl rfl) (args_env hv)
              have key:∀ (hne:∀ id,e ≠ .exit id),resS cy S1 fn.results.toList (fun l=>K (sOne l) (S.mem S1.st S1.nx))=some r → ∃ v h' s S' E',(∃ k0, ∀ k,k0≤k→call cy.cx (run cy.cx k) f vs h=some (v,h'))∧Mem S' h' E'∧Gr S h E S' h' E'∧S'.env=S.env∧h'.env=h.env∧V E' s v∧K s S'=some r:=by
                intro hne hres
                obtain ⟨l,ws,q1,q2,q3⟩:=resS_rel M1 En1 hres
                refine ⟨one ws,⟨h.nt,h.env,h1.hp,h1.nx,h.lk,h.df⟩,sOne l,S.mem S1.st S1.nx,E1,⟨k0,fun k hkk => ?_⟩,?_,?_,rfl,rfl,sOne_rel q2,q3⟩
                · unfold call
                  rw [hext,hfn]
                  simp only
                  rw [hb]
                  simp only
                  rw [hle',hrun k hkk]
                  cases e with
                  | exit id=>exact absurd rfl (hne id)
                  | norm=>simp only [cond_true]; rw [q1]
                  | ret=>simp only [cond_true]; rw [q1]
                · exact M1.re rfl rfl g1.Slk.symm rfl rfl g1.lk.symm
                · exact g1.re rfl rfl (fun _ _ h=>h) rfl rfl (fun _ h=>h) rfl rfl rfl rfl rfl rfl rfl rfl rfl rfl rfl rfl
              cases e with
              | exit id=>cases hk2
              | norm=>exact key (fun id hid=>by cases hid) hk2
              | ret=>exact key (fun id hid=>by cases hid) hk2
            · rename_i hh hrj
              obtain ⟨e,h1,S2,E2,⟨k0,hrun⟩,hne,M2,En2,g2,hres⟩:=retJ_rel hih hk (h:=⟨fn.ntmps,envOf 0 vs .e,h.hp,h.nx,h.lk,.undef⟩) (M.re rfl rfl rfl rfl rfl rfl) (args_env hv) rfl
              obtain ⟨l,ws,q1,q2,q3⟩:=resS_rel M2 En2 hres
              refine ⟨one ws,⟨h.nt,h.env,h1.hp,h1.nx,h.lk,h.df⟩,sOne l,S.mem S2.st S2.nx,E2,⟨k0,fun k hkk => ?_⟩,?_,?_,rfl,rfl,sOne_rel q2,q3⟩
              · unfold call
                rw [hext,hfn]
                simp only
                rw [hb]
                simp only
                rw [hle',hrun k hkk]
                cases e with
                | exit id=>exact absurd rfl (hne id)
                | norm=>simp only [cond_true]; rw [q1]
                | ret=>simp only [cond_true]; rw [q1]
              · exact M2.re rfl rfl g2.Slk.symm rfl rfl g2.lk.symm
              · exact g2.re rfl rfl (fun _ _ h=>h) rfl rfl (fun _ h=>h) rfl rfl rfl rfl rfl rfl rfl rfl rfl rfl rfl rfl
          · cases hk
        · cases hk
      · cases hk
end
end Go.Ls
namespace Go.Ls
open Go Go.Hm
section
variable {α:Type} {Q:List HV→α→Prop}
theorem RdA_take {z:Nat} (hR:∀ c x,Q c x→c.length=z):∀ {xs:List α} {cs:List HV} (k:Nat),RdA Q cs xs→RdA Q (cs.take (k*z)) (xs.take k)
  | [],cs,k,h=>by
    have h:cs=[]:=h
    subst h
    rw [List.take_nil,List.take_nil]; rfl
  | x::xs,cs,0,_=>by
    rw [Nat.zero_mul,List.take_zero,List.take_zero]; rfl
  | x::xs,cs,k+1,⟨c,d,e,h1,h2⟩=>by
    rw [e,List.take_succ_cons]
    have hc:=hR _ _ h1
    refine ⟨c,d.take (k*z),?_,h1,RdA_take hR k h2⟩
    rw [show (k+1)*z=c.length+k*z by rw [Nat.succ_mul,hc]; omega,List.take_length_add_append]
theorem copy_len (xs new:List α):(copyL xs new).length=xs.length:=by
  unfold copyL
  rw [List.length_append,List.length_take,List.length_drop]
  omega
theorem copy_row {y:Blk} {w:Bool} {z z':Nat} {xs new:List α} {c:List HV} (hR:∀ c x,Q c x→c.length=z) (h:∀ i x,xs[i]?=some x → ∃ cs,gather y (i*z) z=some cs∧Q cs x) (hc:RdA Q c new) (hn:xs.length*z≤y.n) (i:Nat) (x:α) (hx:(copyL xs new)[i]?=some x):∃ cs,gather ⟨w,z',y.n,scatter y.c 0 (c.take (Nat.min new.length xs.length*z))⟩ (i*z) z=some cs∧Q cs x:=by
  have hk:Nat.min new.length xs.length≤new.length:=Nat.min_le_left _ _
  have hk2:Nat.min new.length xs.length≤xs.length:=Nat.min_le_right _ _
  have hk3:Nat.min new.length xs.length=new.length∨Nat.min new.length xs.length=xs.length:=by
    show min new.length xs.length=_∨min new.length xs.length=_
    omega
  generalize hke:Nat.min new.length xs.length=k at *
  have ht:=RdA_take hR k hc
  have hcl:=RdA_len hR ht
  rw [List.length_take (l:=new),Nat.min_eq_left hk] at hcl
  have hkz:k*z≤y.n:=Nat.le_trans (Nat.mul_le_mul_right z hk2) hn
  have hg:=gather_new (T:=y.c) (w:=w) (z:=z') (n:=y.n) (p:=0) (c:=c.take (k*z)) (by omega)
  have hix:i<xs.length:=by
    have:=(List.getElem?_eq_some_iff.1 hx).1
    rw [copy_len] at this; exact this
  unfold copyL at hx
  by_cases hik:i<k
  · have hx:(new.take k)[i]?=some x:=by
      rw [List.getElem?_append_left (by rw [List.length_take]; omega),List.getElem?_take,if_pos hix] at hx
      rw [List.getElem?_take,if_pos hik]; exact hx
    obtain ⟨c1,c2,c3,p1,p2,p3,p4⟩:=RdA_get hR ht hx
    have:=gather_sub hg p1 p2 p3
    rw [Nat.zero_add] at this
    exact ⟨c2,this,p4⟩
  · have hlen:(new.take xs.length).length=k:=by rw [List.length_take]; omega
    have hnk:new.length=k:=by omega
    rw [List.getElem?_append_right (by omega),hlen,List.getElem?_drop,hnk,show k+(i - k)=i by omega] at hx
    obtain ⟨cs,g1,g2⟩:=h i x hx
    refine ⟨cs,gather_out g1 (.inr ?_) ?_,g2⟩
    · rw [hcl,Nat.zero_add]
      exact Nat.mul_le_mul_right z (by omega)
    · exact Nat.le_trans (mul_step hix) hn
end
section
variable {E:En} {S:SS} {h:St} {cy:Cy} {R:Type} {r:R} {K:SV→SS→Option R}
theorem same_rel (M:Mem S h E) {st':Tr Ent} (hg:∀ j,st'.get j=S.st.get j):Mem (S.mem st' S.nx) h ⟨E.hp,E.Z,E.mb,E.ib,st',E.nx⟩∧Gr S h E (S.mem st' S.nx) h ⟨E.hp,E.Z,E.mb,E.ib,st',E.nx⟩:=by
  have f:Fm E.nx E ⟨E.hp,E.Z,E.mb,E.ib,st',E.nx⟩:=⟨fun _ h=>h,fun _ _=>rfl,Nat.le_refl _,fun _ _=>rfl,fun j u xs _ hx=>⟨xs,by rw [M.st, ← hg]; exact hx,rfl⟩,fun j g u xs _ hx=>⟨g,xs,by rw [M.st, ← hg]; exact hx,rfl⟩,fun j g u xs _ _ hx=>⟨xs,by rw [M.st, ← hg]; exact hx,SameLen.refl,fun _=>rfl⟩⟩
  have hbk:∀ j b,Bk ⟨E.hp,E.Z,E.mb,E.ib,st',E.nx⟩ j b↔Bk E j b:=fun _ _=>Iff.rfl
  have g:∀ j e,st'.get j=some e→S.st.get j=some e:=fun j e hj=>by rw [← hg]; exact hj
  refine ⟨⟨M.hp,rfl,M.nx,fun j e hj=>M.lt j e (g j e hj),fun j e hj=>(M.ent j e (g j e hj)).fm f rfl (fun _=>rfl) (fun _ _=>rfl),fun j j' e e' b h1 h2 h3 h4=>M.inj j j' e e' b (g j e h1) (g j' e' h2) h3 h4,fun j e b hj hb=>M.own j e b (g j e hj) hb,M.z,M.fr,fun b hb=>⟨(M.lk b hb).1,fun j e hj=>(M.lk b hb).2 j e (g j e hj)⟩,M.mbl,fun j e hj=>M.noi j e (g j e hj)⟩,⟨rfl,rfl,rfl,rfl,rfl,rfl,rfl,rfl,Nat.le_refl _,Nat.le_refl _,fun _ h=>h,fun _ h => .inl h,fun _ _ _=>rfl,?_,fun _ _=>rfl,fun j _ _=>hg j,fun j _ hd=>(hg j).trans hd,fun j e xs _ hx=>⟨xs,g j _ hx,rfl⟩,fun b j e _ hj hb=>⟨e,g j e hj,hb⟩,fun j g' e xs _ hx=>⟨g',xs,g j _ hx,rfl⟩,fun j g' e xs _ _ hx=>⟨xs,g j _ hx,SameLen.refl,fun _=>rfl⟩,fun _ _ _ _=>rfl⟩⟩
  rintro b ⟨j,e,hj,hb⟩
  exact .inl ⟨j,e,g j e hj,hb⟩
theorem set_same {st:Tr Ent} {m:Nat} {e:Ent} (hm:st.get m=some e) (j:Nat):(st.set m e).get j=st.get j:=by
  rw [Tr.get_set]
  split
  · rename_i hj; rw [hj,hm]
  · rfl
theorem bytes_rd {hp:Tr Hm.Obj} {Z:Nat→Prop}:∀ (l:List UInt8),RdA (RdC hp Z (.int .u8)) (l.map (fun c=>HV.int .u8 (Int.ofNat c.toNat))) (l.map (fun c=>Int.ofNat c.toNat))
  | []=>rfl
  | c::l=>⟨[.int .u8 (Int.ofNat c.toNat)],l.map (fun c=>HV.int .u8 (Int.ofNat c.toNat)),rfl,rfl,bytes_rd l⟩
theorem bytes_to {hp:Tr Hm.Obj} {Z:Nat→Prop}:∀ {l:List Int} {c:List HV},RdA (RdC hp Z (.int .u8)) c l→okB l=true→toBytes c=some (l.map (fun c=>UInt8.ofNat c.toNat))
  | [],c,h,_=>by
    have h:c=[]:=h
    rw [h]; rfl
  | x::l,c,h,hb=>by
    obtain ⟨c1,c2,rfl,h1,h2⟩:=h
    have h1:c1=[.int .u8 x]:=h1
    subst h1
    unfold okB at hb
    rw [List.all_cons,Bool.and_eq_true] at hb
    have:=bytes_to h2 hb.2
    obtain ⟨n,rfl⟩:∃ n:Nat,x=Int.ofNat n:=⟨x.toNat,(Int.toNat_of_nonneg (of_decide_eq_true hb.1)).symm⟩
    show (match toBytes c2 with | some l=>some (UInt8.ofNat n::l) | none=>none)=_
    rw [this]; rfl
theorem convertS_rel (M:Mem S h E) {a b:Nat} {s:SV} {v:HV} {K:SV→Option R} (hk:convertS cy S a b s K=some r) (hv:V E s v):Pu E h K r (doConvert cy.cx h a b v):=by
  unfold convertS at hk
  split at hk
  · rename_i x y hx hy
    split at hk
    · rename_i k l k' n hsh
      rw [V_int] at hv
      subst hv
      refine ⟨_,.int k (wrapI k n),?_,?_,hk⟩
      · unfold doConvert
        rw [hx,hy]; simp only; rw [hsh]
      · cases l
        · exact V_int.2 rfl
        · exact V_int.2 rfl
    · rename_i b hsh
      rw [V_str] at hv
      subst hv
      refine ⟨_,.str b,?_,V_str.2 rfl,hk⟩
      unfold doConvert
      rw [hx,hy]; simp only; rw [hsh]
    · rename_i hsh _
      rw [bif_eq] at hk
      split at hk
      · rename_i hu
        rw [Bool.and_eq_true] at hu
        obtain ⟨hu,hsrc⟩:=hu
        split at hk
        · rename_i L hL
          split at hk
          · rename_i xs hxs
            obtain ⟨hb,hk⟩:=chk_some hk
            obtain ⟨c,g1,g2,g3⟩:=src_rel M (u := .int .u8) hv hxs hL M Gr.refl (fun m e b hm=>by cases hm)
            refine ⟨_,.str (strS xs),?_,V_str.2 rfl,hk⟩
            have hcell:cellsOf h 1 v=some c:=by
              unfold srcOf at g1
              split at g1
              · exact absurd rfl (g3 _)
              · split at g1
                · rename_i l k h1 h2
                  cases g1
                  exact h1
                · cases g1
            unfold u8S at hu
            rw [hx] at hu
            simp only at hu
            split at hu
            · rename_i e hse
              split at hu
              · rename_i q hq
                split at hu
                · rename_i hqs
                  have hb2:=bytes_to g2 hb
                  unfold doConvert
                  rw [hx,hy]
                  simp only
                  rw [hsh]
                  cases v
                  case str s=>exact absurd rfl (g3 s)
                  all_goals (simp only; rw [hse]; simp only; rw [hq]; simp only; rw [hqs]; simp only; rw [hcell]; simp only; rw [hb2]; rfl)
                · cases hu
              · cases hu
            · cases hu
          · cases hk
        · cases hk
      · cases hk
    · cases hk
  · cases hk
theorem srcS_rel (M:Mem S h E) {u:U} {t2:Nat} {x:SV} {vx:HV} {new:List (D u)} (hs:srcS cy S u t2 x=some new) (hx:V E x vx):isSrc cy.cx t2 vx=true ∧ ∃ c,srcOf h u.size vx=some (c,new.length)∧RdA (RdC E.hp E.Z u) c new ∧ ∀ (m:Nat) (o:Option R),strLen x (lenL new) (Int.ofNat m) o=some r→strFits vx new.length m=true∧o=some r:=by
  unfold srcS at hs
  split at hs
  · rename_i b
    rw [bif_eq] at hs
    split at hs
    · rename_i hsh
      obtain ⟨e0,e1⟩:=castD_some hs
      cases e0
      have e1:bytesS b=new:=e1
      subst e1
      rw [V_str] at hx
      subst hx
      obtain ⟨w,h1,h2⟩:=isSh_some hsh
      have hl:(bytesS b).length=b.size:=by
        unfold bytesS
        rw [List.length_map]; rfl
      refine ⟨?_,b.data.toList.map (fun c=>HV.int .u8 (Int.ofNat c.toNat)),?_,bytes_rd _,fun m o ho => ?_⟩
      · unfold isSrc
        rw [h1]
        simp only
        cases hw:w.sh <;> rw [hw] at h2 <;> first | rfl | cases h2
      · rw [hl]; rfl
      · have ho:chk (leI (lenL (bytesS b)) (Int.ofNat m)) o=some r:=ho
        obtain ⟨g1,g2⟩:=chk_some ho
        refine ⟨?_,g2⟩
        have g1:Int.ofNat (bytesS b).length≤Int.ofNat m:=of_decide_eq_true g1
        show Nat.ble (bytesS b).length m=true
        rw [Nat.ble_eq]
        exact Int.ofNat_le.1 g1
    · cases hs
  · cases hs
  · rename_i hn1 hn2
    rw [bif_eq] at hs
    split at hs
    · rename_i hc
      simp only [Bool.and_eq_true] at hc
      obtain ⟨hsrc,hflat,hL⟩:=hc
      cases hLe:rowsI S.st [x] with
      | none=>rw [hLe] at hL; cases hL
      | some L =>
        obtain ⟨c,g1,g2,g3⟩:=src_rel M hx hs hLe M Gr.refl (fun m e b hm=>by rw [hflat] at hm; cases hm)
        refine ⟨isSrcS_rel hsrc g3,c,g1,g2,fun m o ho=>⟨?_,?_⟩⟩
        · unfold strFits
          split
          · rename_i s; exact absurd rfl (g3 s)
          · rfl
        · unfold strLen at ho
          split at ho
          · exact absurd rfl (hn1 _)
          · exact ho
    · cases hs
theorem copyS_rel (M:Mem S h E) {t t2:Nat} {a x:SV} {va vx:HV} (hk:copyS cy S t t2 a x K=some r) (ha:V E a va) (hx:V E x vx):Mv S h E K r (doCopy cy.cx h t t2 va vx):=by
  unfold copyS at hk
  split at hk
  · rename_i y u hy hu
    have hz:=elU_size hy hu
    split at hk
    · rename_i new hnew
      obtain ⟨hsrc,c,hsc,hRd,hstr⟩:=srcS_rel (R:=R) (r:=r) M hnew hx
      have hcl:=RdA_len (z:=u.size) (fun _ _ h=>h.len) hRd
      have base:∀ m,lenOf va=some m→strFits vx new.length m=true→doCopy cy.cx h t t2 va vx=(match (generalizing:=false) va with
          | .str _=>none
          | .sl b o _=>(match h.write b o (c.take (Nat.mul (Nat.min new.length m) u.size)) with
            | some s'=>some (.val (.int .i64 (Int.ofNat (Nat.min new.length m))) s')
            | none=>none)
          | .asl b o _=>(match h.write b o (c.take (Nat.mul (Nat.min new.length m) u.size)) with
            | some s'=>some (.val (.int .i64 (Int.ofNat (Nat.min new.length m))) s')
            | none=>none)
          | _=>some (.val (.int .i64 0) h)):=by
        intro m h1 h2
        unfold doCopy
        rw [hy]
        simp only
        rw [hsrc,hz,hsc,h1]
        simp only
        rw [h2]
        rfl
      have ctl:∀ m,m≤140737488355328→(c.take (Nat.min new.length m*u.size)).length=Nat.min new.length m*u.size:=by
        intro m _
        rw [List.length_take,hcl]
        have:Nat.min new.length m*u.size≤new.length*u.size:=Nat.mul_le_mul_right _ (Nat.min_le_left _ _)
        omega
      split at hk
      · rename_i m
        split at hk
        · rename_i e xs hm
          split at hk
          · rename_i ys hys
            rw [bif_eq] at hk
            split at hk
            · rename_i hcond
              simp only [Bool.and_eq_true] at hcond
              obtain ⟨hcan,hlk⟩:=canW_some hcond.1
              obtain ⟨e0,e1⟩:=castD_some hys
              cases e0
              have e1:xs=ys:=e1
              subst e1
              rw [V_row] at ha
              have hrv:=ha.2.2.1 _ xs (by rw [M.st]; exact hm)
              obtain ⟨hl,hr⟩:=M.ent m _ hm
              obtain ⟨hfit,hk2⟩:=hstr xs.length _ hk
              have hb:=base xs.length (rowV_len hrv) hfit
              rw [hb]
              unfold RowV at hrv
              unfold RowR at hr
              cases hmb:E.mb m with
              | none =>
                rw [hmb] at hr hrv
                have hr:xs=[]:=hr
                subst hr
                have hcp:copyL ([]:List (D u)) new=[]:=by
                  unfold copyL
                  simp
                rw [hcp] at hk2
                obtain ⟨q1,q2⟩:=same_rel M (st':=S.st.set m (.row u ([]:List (D u)))) (set_same hm)
                have hmin:takeN ([]:List (D u)) new=0:=by
                  show Int.ofNat (min new.length 0)=0
                  rw [Nat.min_zero]; rfl
                rw [hmin] at hk2
                refine ⟨_,.int .i64 0,_,_,_,?_,q1,q2,rfl,rfl,V_int.2 rfl,hk2⟩
                rcases hrv.2 with rfl | rfl <;> rfl
              | some b =>
                rw [hmb] at hr hrv
                subst hrv
                obtain ⟨y',p1,p2,p3,p4,p5⟩:=hr
                have p1':h.hp.get b=some (.blk y'):=by rw [← M.hp]; exact p1
                have htl:=ctl xs.length hl
                have hle:Nat.min new.length xs.length*u.size≤xs.length*u.size:=Nat.mul_le_mul_right _ (Nat.min_le_right _ _)
                have hw:=write_of (o:=0) (c:=c.take (Nat.min new.length xs.length*u.size)) p1' p2 (not_lk M hm (.inl hmb) hlk) (by rw [htl]; omega)
                have:=upd_rel (b:=b) (e := .row u (copyL xs new)) (hp':=h.hp.set b (.blk ⟨true,y'.z,y'.n,scatter y'.c 0 (c.take (Nat.min new.length xs.length*u.size))⟩)) M hm hcan (.inl hmb) (fun c hc=>Tr.get_set_ne _ _ hc) (fun u' xs' he=>by
                  cases he
                  exact ⟨xs,rfl,(copy_len xs new).symm⟩) (fun g u' xs' he=>by cases he) (fun _ g u' xs' he=>by cases he) (fun k1 _=>⟨by rw [copy_len]; exact hl,by
                  show RowR _ (E.mb m) u (copyL xs new)
                  rw [hmb]
                  refine ⟨_,Tr.get_set_same _ _ _,rfl,p3,by rw [copy_len]; exact p4,fun i x hxi => ?_⟩
                  obtain ⟨cs,w1,w2⟩:=copy_row (w:=true) (z':=y'.z) (fun _ _ h=>h.len) p5 hRd p4 i x hxi
                  exact ⟨cs,w1,k1 _ _ _ w2⟩⟩)
                refine ⟨_,.int .i64 (Int.ofNat (Nat.min new.length xs.length)),_,_,_,?_,this.1,this.2,rfl,rfl,V_int.2 rfl,hk2⟩
                show (match h.write b 0 (c.take (Nat.min new.length xs.length*u.size)) with | some s'=>_ | none=>none)=_
                rw [hw]
            · cases hk
          · cases hk
        · cases hk
      · rename_i m g j
        split at hk
        · rename_i g' e xs hm
          rw [bif_eq] at hk
          split at hk
          · rename_i hcond
            simp only [Bool.and_eq_true] at hcond
            obtain ⟨hg,hcw,hflat⟩:=hcond
            have hg:=Nat.eq_of_beq_eq_true hg
            subst hg
            obtain ⟨hcan,hlk⟩:=canW_some hcw
            obtain ⟨l,hl0,hk1⟩:=bnd_some hk
            clear hk
            split at hk1
            · rename_i ys hys
              split at hk1
              · rename_i zs hzs
                obtain ⟨e0,e1⟩:=castD_some hys
                cases e0
                have e1:l=ys:=e1
                subst e1
                obtain ⟨e2,e3⟩:=castD_some hzs
                have e3:copyL l new=zs:=e3
                subst e3
                rw [V_sub] at ha
                obtain ⟨k,l',rfl,hkl,hrv⟩:=ha.2.2.2 _ xs (by rw [M.st]; exact hm)
                obtain ⟨n,hn,hxn⟩:=atL_some hl0
                cases hn
                rw [hkl] at hxn
                cases hxn
                have hkx:=(List.getElem?_eq_some_iff.1 hkl).1
                obtain ⟨w0,hxl,b0,y0,w1,w2,w3,w4,w5,w6,w7,w8,w9⟩:=M.ent m _ hm
                obtain ⟨hl,hwv,hr⟩:=w6 k l hkl
                obtain ⟨hfit,hk2⟩:=hstr l.length _ hk1
                have hb:=base l.length (rowV_len hrv) hfit
                rw [hb]
                unfold RowV at hrv
                cases hib:E.ib m k with
                | none =>
                  rw [hib] at hr hrv
                  have hr:l=[]:=hr
                  subst hr
                  have hcp:copyL ([]:List (D u)) new=[]:=by
                    unfold copyL
                    simp
                  rw [hcp] at hk2
                  have hset:setL xs (Int.ofNat k) ([]:List (D u))=xs:=by
                    show xs.set k []=xs
                    obtain ⟨hlt,heq⟩:=List.getElem?_eq_some_iff.1 hkl
                    rw [← heq]
                    exact List.set_getElem_self hlt
                  rw [hset] at hk2
                  obtain ⟨q1,q2⟩:=same_rel M (st':=S.st.set m (.rows g u xs)) (set_same hm)
                  have hmin:takeN ([]:List (D u)) new=0:=by
                    show Int.ofNat (min new.length 0)=0
                    rw [Nat.min_zero]; rfl
                  rw [hmin] at hk2
                  refine ⟨_,.int .i64 0,_,_,_,?_,q1,q2,rfl,rfl,V_int.2 rfl,hk2⟩
                  rcases hrv.2 with rfl | rfl <;> rfl
                | some b =>
                  rw [hib] at hr hrv
                  subst hrv
                  obtain ⟨y',p1,p2,p3,p4,p5⟩:=hr
                  have p1':h.hp.get b=some (.blk y'):=by rw [← M.hp]; exact p1
                  have htl:=ctl l.length hl
                  have hle:Nat.min new.length l.length*u.size≤l.length*u.size:=Nat.mul_le_mul_right _ (Nat.min_le_right _ _)
                  have hw:=write_of (o:=0) (c:=c.take (Nat.min new.length l.length*u.size)) p1' p2 (not_lk M hm (.inr ⟨k,hib⟩) hlk) (by rw [htl]; omega)
                  have hbb:b0≠b:=by
                    rintro rfl
                    exact w9 k hib
                  have hset:∀ i l',(xs.set k (copyL l new))[i]?=some l'→(i=k∧l'=copyL l new)∨(i≠k∧xs[i]?=some l'):=by
                    intro i l' hi
                    by_cases hik:i=k
                    · subst hik
                      rw [List.getElem?_set_self hkx] at hi
                      cases hi
                      exact .inl ⟨rfl,rfl⟩
                    · rw [List.getElem?_set_ne (fun q=>hik q.symm)] at hi
                      exact .inr ⟨hik,hi⟩
                  have:=upd_rel (b:=b) (e := .rows g u (setL xs (Int.ofNat k) (copyL l new))) (hp':=h.hp.set b (.blk ⟨true,y'.z,y'.n,scatter y'.c 0 (c.take (Nat.min new.length l.length*u.size))⟩)) M hm hcan (.inr ⟨k,hib⟩) (fun c hc=>Tr.get_set_ne _ _ hc) (fun u' xs' he=>by cases he) (fun g' u' xs' he=>by
                    cases he
                    refine ⟨xs,rfl,by show xs.length=(xs.set k _).length; rw [List.length_set],fun i l' hi => ?_⟩
                    by_cases hik:i=k
                    · subst hik
                      rw [hkl] at hi
                      cases hi
                      exact ⟨copyL l new,List.getElem?_set_self hkx,copy_len l new⟩
                    · exact ⟨l',(List.getElem?_set_ne (fun q=>hik q.symm)).trans hi,rfl⟩) (fun hni=>absurd rfl (hni g u _)) (fun k1 _=>by
                    refine ⟨w0,by show (xs.set k _).length≤_; rw [List.length_set]; exact hxl,b0,y0,w1,?_,w3,w4,by show (xs.set k _).length≤_; rw [List.length_set]; exact w5,fun i l' hi => ?_,fun i hi=>w7 i (by have hi:(xs.set k _).length≤i:=hi; rw [List.length_set] at hi; exact hi),w8,w9⟩
                    · show (h.hp.set b _).get b0=_
                      rw [Tr.get_set_ne _ _ hbb, ← M.hp]; exact w2
                    · rcases hset i l' hi with ⟨rfl,rfl⟩ | ⟨hik,hi⟩
                      · refine ⟨by rw [copy_len]; exact hl,by rw [copy_len]; exact hwv,?_⟩
                        show RowR _ (E.ib m i) u (copyL l new)
                        rw [hib]
                        refine ⟨_,Tr.get_set_same _ _ _,rfl,p3,by rw [copy_len]; exact p4,fun i x hxi => ?_⟩
                        obtain ⟨cs,v1,v2⟩:=copy_row (w:=true) (z':=y'.z) (fun _ _ h=>h.len) p5 hRd p4 i x hxi
                        exact ⟨cs,v1,k1 _ _ _ v2⟩
                      · obtain ⟨v1,v2,v3⟩:=w6 i l' hi
                        refine ⟨v1,v2,?_⟩
                        show RowR _ (E.ib m i) u l'
                        unfold RowR at v3 ⊢
                        cases hic:E.ib m i with
                        | none=>rw [hic] at v3; exact v3
                        | some b2 =>
                          rw [hic] at v3
                          obtain ⟨y2,z1,z2,z3,z4,z5⟩:=v3
                          refine ⟨y2,?_,z2,z3,z4,fun i x hxi => ?_⟩
                          · show (h.hp.set b _).get b2=_
                            rw [Tr.get_set_ne _ _ (by rintro rfl; exact hik (w8 _ _ _ hic hib)), ← M.hp]; exact z1
                          · obtain ⟨cs,v1,v2⟩:=z5 i x hxi
                            exact ⟨cs,v1,k1 _ _ _ v2⟩)
                  refine ⟨_,.int .i64 (Int.ofNat (Nat.min new.length l.length)),_,_,_,?_,this.1,this.2,rfl,rfl,V_int.2 rfl,hk2⟩
                  show (match h.write b 0 (c.take (Nat.min new.length l.length*u.size)) with | some s'=>_ | none=>none)=_
                  rw [hw]
              · cases hk1
            · cases hk1
          · cases hk
        · cases hk
      · obtain ⟨hfit,hk2⟩:=hstr 0 _ hk
        rw [V_nils] at ha
        subst ha
        rw [base 0 rfl hfit]
        exact ⟨_,.int .i64 0,h,S,E,rfl,M,Gr.refl,rfl,rfl,V_int.2 rfl,hk2⟩
      · cases hk
    · cases hk
  · cases hk
theorem lenSub_rel (M:Mem S h E) {K:SV→Option R} {s:SV} {v:HV} (hk:lenSub S s K=some r) (hv:V E s v):∃ s' n,K s'=some r∧V E s' (.int .i64 (Int.ofNat n))∧((∀ m g j,s = .sub m g j→lenOf v=some n∧(v = .nils∨v = .esl ∨ ∃ b o l,v = .sl b o l)) ∧ ∀ m,s = .map m → ∃ b es,v = .map b∧h.hp.get b=some (.map es)∧es.length=n):=by
  unfold lenSub at hk
  split at hk
  · rename_i m g j
    split at hk
    · rename_i g' e xs hm
      rw [bif_eq] at hk
      split at hk
      · rename_i hg
        have hg:=Nat.eq_of_beq_eq_true hg
        subst hg
        obtain ⟨l,hl,hk2⟩:=bnd_some hk
        rw [V_sub] at hv
        obtain ⟨k,l',rfl,hkl,hrv⟩:=hv.2.2.2 _ xs (by rw [M.st]; exact hm)
        obtain ⟨n,hn,hxn⟩:=atL_some hl
        cases hn
        rw [hkl] at hxn
        cases hxn
        refine ⟨_,l.length,hk2,V_int.2 rfl,fun _ _ _ _=>⟨rowV_len hrv,?_⟩,fun m h=>(by cases h)⟩
        unfold RowV at hrv
        cases hib:E.ib m k with
        | none =>
          rw [hib] at hrv
          rcases hrv.2 with h | h
          · exact .inl h
          · exact .inr (.inl h)
        | some b=>rw [hib] at hrv; exact .inr (.inr ⟨_,_,_,hrv⟩)
      · cases hk
    · cases hk
  · rename_i m
    split at hk
    · rename_i kvs hm
      rw [V_map] at hv
      obtain ⟨_,b,hb,rfl⟩:=hv
      obtain ⟨b',g1,g2⟩:=M.ent m _ hm
      rw [hb] at g1; cases g1
      refine ⟨_,kvs.length,hk,V_int.2 rfl,fun m g j h=>(by cases h),fun _ _=>⟨b,_,rfl,by rw [← M.hp]; exact g2,?_⟩⟩
      unfold mHV
      rw [List.length_map]
    · cases hk
  · cases hk
theorem inKeys_m (k:Int):∀ (kvs:List (Int×(Bool×Unit))),inKeys .i64 k (mHV kvs)=some (bif mHas kvs k then some (.bool (mGet kvs k)) else none)∧(mHas kvs k=false→mGet kvs k=false)
  | []=>⟨rfl,fun _=>rfl⟩
  | (a,(b,u))::r=>by
    obtain ⟨h1,h2⟩:=inKeys_m k r
    have e:mHV ((a,(b,u))::r)=(.int .i64 a,.bool b)::mHV r:=rfl
    rw [e]
    unfold inKeys mHas mGet
    by_cases hk:k=a
    · simp [hk]
    · simp [hk]
      exact ⟨h1,h2⟩
theorem setKey_m (k:Int) (v:Bool):∀ (kvs:List (Int×(Bool×Unit))),setKey .i64 k (.bool v) (mHV kvs)=some (mHV (mPut kvs k v))
  | []=>rfl
  | (a,(b,u))::r=>by
    have h1:=setKey_m k v r
    have e:mHV ((a,(b,u))::r)=(.int .i64 a,.bool b)::mHV r:=rfl
    rw [e]
    unfold setKey mPut
    by_cases hk:k=a
    · simp [hk]; rfl
    · simp [hk]
      rw [h1]; rfl
theorem mapS_rel {m:SV} {K:List (Int×(Bool×Unit))→Nat→Option R} (hk:mapS S m K=some r) (M:Mem S h E) {v:HV} (hv:V E m v):∃ n kvs b,m = .map n∧S.st.get n=some (.map kvs)∧E.mb n=some b∧v = .map b∧h.hp.get b=some (.map (mHV kvs))∧K kvs n=some r:=by
  unfold mapS at hk
  split at hk
  · rename_i n
    split at hk
    · rename_i kvs hm
      rw [V_map] at hv
      obtain ⟨_,b,hb,rfl⟩:=hv
      obtain ⟨b',g1,g2⟩:=M.ent n _ hm
      rw [hb] at g1; cases g1
      exact ⟨n,kvs,b,rfl,hm,hb,rfl,by rw [← M.hp]; exact g2,hk⟩
    · cases hk
  · cases hk
theorem lookupS_rel (M:Mem S h E) {K:SV→Option R} {t:Nat} {m i:SV} {ok:Bool} {vm vi:HV} (hk:lookupS cy S t m i ok K=some r) (hm:V E m vm) (hi:V E i vi):Pu E h K r (doLookup cy.cx h t vm vi ok):=by
  unfold lookupS at hk
  split at hk
  · rename_i e l k he
    rw [bif_eq] at hk
    split at hk
    · rename_i hc
      rw [Bool.and_eq_true] at hc
      obtain ⟨n,kvs,b,rfl,h1,h2,rfl,h4,h5⟩:=mapS_rel hk M hm
      rw [V_int] at hi
      subst hi
      have hz:cy.cx.zeroAt e=some (.bool false):=by
        have:=hc.2
        unfold zeroF at this
        split at this
        · assumption
        · cases this
      obtain ⟨g1,g2⟩:=inKeys_m k kvs
      have key:doLookup cy.cx h t (.map b) (.int .i64 k) ok=some (.val (bif ok then .tup [.bool (mGet kvs k),.bool (mHas kvs k)] else .bool (mGet kvs k)) h):=by
        unfold doLookup
        rw [he]
        simp only [found]
        rw [h4]
        simp only
        rw [g1]
        cases hh:mHas kvs k with
        | true=>rfl
        | false =>
          simp only [cond_false]
          rw [hz,g2 hh]
      refine ⟨_,_,key,?_,h5⟩
      cases ok with
      | true=>exact V_tup.2 ⟨_,rfl,by unfold Vs; exact ⟨_,_,rfl,V_bool.2 rfl,by unfold Vs; exact ⟨_,_,rfl,V_bool.2 rfl,by unfold Vs; rfl⟩⟩⟩
      | false=>exact V_bool.2 rfl
    · cases hk
  · cases hk
theorem updateS_rel (M:Mem S h E) {K:SS→Option R} {t:Nat} {m i w:SV} {vm vi vw:HV} (hk:updateS cy S t m i w K=some r) (hm:V E m vm) (hi:V E i vi) (hw:V E w vw):Ma S h E K r (doUpdate cy.cx h t vm vi vw):=by
  unfold updateS at hk
  split at hk
  · rename_i e l k l2 b he
    obtain ⟨n,kvs,c,rfl,h1,h2,rfl,h4,h5⟩:=mapS_rel hk M hm
    rw [V_int] at hi
    subst hi
    rw [V_bool] at hw
    subst hw
    rw [bif_eq] at h5
    split at h5
    · rename_i hcw
      obtain ⟨hcan,hlk⟩:=canW_some hcw
      have hf:=not_lk M h1 (.inl h2) hlk
      have:=upd_rel (b:=c) (e := .map (mPut kvs k b)) (hp':=h.hp.set c (.map (mHV (mPut kvs k b)))) M h1 hcan (.inl h2) (fun c hc=>Tr.get_set_ne _ _ hc) (fun u xs he=>by cases he) (fun g u xs he=>by cases he) (fun _ g u xs he=>by cases he) (fun _ _=>⟨c,h2,Tr.get_set_same _ _ _⟩)
      refine ⟨_,_,_,?_,this.1,this.2,rfl,rfl,h5⟩
      unfold doUpdate
      rw [he]
      simp only
      unfold St.free
      rw [hf,h4]
      simp only [Bool.not_false,cond_true]
      rw [setKey_m]
    · cases h5
  · cases hk
theorem makeMap_rel (M:Mem S h E) (hk:K (.map S.nx) (S.new (.map []))=some r):Mv S h E K r (doMap h):=by
  have:=adopt_rel (st1:=S.st) (hp':=h.hp.set h.nx (.map [])) (nx':=h.nx+1) (o:=some h.nx) (e := .map []) M (fun _ _ h=>h) (fun j h1 h2=>absurd h2 h1) (fun b hb => .inl (new_keep b hb)) (Nat.le_succ _) (fun b hb=>new_fr M b hb) (fun b hb=>by cases hb; exact ⟨Nat.lt_succ_self _,.inl (Nat.le_refl _)⟩) (fun _ _=>⟨h.nx,mb_new,Tr.get_set_same _ _ _⟩)
  exact ⟨_,.map h.nx,_,_,_,rfl,this.1,this.2,rfl,rfl,V_map.2 ⟨Nat.lt_succ_self _,h.nx,mb_new,rfl⟩,hk⟩
end
end Go.Ls
namespace Go.Ls
open Go Go.Hm
def StepR (cx:Cx) (h:St) (o:Op) (v:HV) (h':St):Prop := ∃ k0, ∀ k,k0≤k→doOp cx h o=some (.val v h')∨(doOp cx h o=some (.act h')∧v = .undef) ∨ ∃ f args,doOp cx h o=some (.call f args)∧call cx (run cx k) f args h=some (v,h')
def OpR (cy:Cy) (S:SS) (h:St) (E:En) {R:Type} (K:SV→SS→Option R) (r:R) (o:Op):Prop := ∃ s v h' S' E',StepR cy.cx h o v h'∧Mem S' h' E'∧Gr S h E S' h' E'∧S'.env=S.env∧h'.env=h.env∧V E' s v∧K s S'=some r
section
variable {E:En} {S:SS} {h:St} {cy:Cy} {R:Type} {r:R} {K:SV→SS→Option R}
theorem ev1_of' {k:HV→Option Rs} {x:Operand} {v:HV} (g:h.ev x=some v):ev1 h k x=k v:=by
  unfold ev1; rw [g]
theorem ev1S_some {S:SS} {x:Operand} {K:SV→Option R} (hk:ev1S S x K=some r):∃ s,S.ev x=some s∧K s=some r:=by
  unfold ev1S at hk
  split at hk
  · exact ⟨_,by assumption,hk⟩
  · cases hk
theorem Mv.op {o:Op} {q:Option Rs} (m:Mv S h E K r q) (e:doOp cy.cx h o=q):OpR cy S h E K r o:=by
  obtain ⟨s,v,h',S',E',h1,h2,h3,h4,h5,h6,h7⟩:=m
  exact ⟨s,v,h',S',E',⟨0,fun k _ => .inl (by rw [e]; exact h1)⟩,h2,h3,h4,h5,h6,h7⟩
theorem Pu.op (M:Mem S h E) {o:Op} {q:Option Rs} (p:Pu E h (fun v=>K v S) r q) (e:doOp cy.cx h o=q):OpR cy S h E K r o:=(Pu.mv M p).op e
theorem Vs_app {a b:List SV}:∀ {u v:List HV},Vs E a u→Vs E b v→Vs E (a++b) (u++v):=by
  induction a with
  | nil=>intro u v h1 h2; unfold Vs at h1; subst h1; exact h2
  | cons s a ih =>
    intro u v h1 h2
    unfold Vs at h1
    obtain ⟨w,q,rfl,g1,g2⟩:=h1
    show Vs E (s::(a++b)) _
    unfold Vs
    exact ⟨w,q++v,rfl,g1,ih g2 h2⟩
theorem builtinS_rel (M:Mem S h E) {b:Builtin} {ts:List Nat} {args:List SV} {vs:List HV} (hk:builtinS cy S b ts args K=some r) (hv:Vs E args vs):Mv S h E K r (doBuiltin cy.cx h b ts vs):=by
  unfold builtinS at hk
  split at hk
  · unfold Vs at hv
    obtain ⟨v,q,rfl,h1,h2⟩:=hv
    unfold Vs at h2
    subst h2
    rw [bif_eq] at hk
    split at hk
    · rename_i t s hsub
      rw [bif_eq] at hk
      split at hk
      · rename_i hsh
        obtain ⟨x,hx,hp⟩:=isSh_some hsh
        obtain ⟨s',n,k1,k2,k3,k4⟩:=lenSub_rel M hk h1
        refine Pu.mv M ⟨s',_,?_,k2,k1⟩
        unfold doBuiltin
        simp only
        rw [hx]
        simp only
        split at hp
        · rename_i e m g j he
          obtain ⟨q1,q2⟩:=k3 m g j rfl
          rw [he]
          rcases q2 with rfl | rfl | ⟨b,o,l,rfl⟩
          · simp only; rw [q1]
          · simp only; rw [q1]
          · simp only; rw [q1]
        · rename_i e1 e2 m he
          obtain ⟨b,es,rfl,q2,q3⟩:=k4 m rfl
          rw [he]
          simp only
          rw [q2, ← q3]
        · cases hp
      · cases hk
    · exact Pu.mv M (lenS_rel M hk h1)
  · unfold Vs at hv
    obtain ⟨v,q,rfl,h1,h2⟩:=hv
    unfold Vs at h2
    obtain ⟨v',q',rfl,h3,h4⟩:=h2
    unfold Vs at h4
    subst h4
    exact copyS_rel M hk h1 h3
  · unfold Vs at hv
    obtain ⟨v,q,rfl,h1,h2⟩:=hv
    unfold Vs at h2
    obtain ⟨v',q',rfl,h3,h4⟩:=h2
    unfold Vs at h4
    subst h4
    exact appendS_rel M hk h1 h3
  · obtain ⟨s,h1,h2⟩:=opt_some hk
    obtain ⟨v,g1,g2⟩:=mmS_rel h1 hv
    refine Pu.mv M ⟨s,v,?_,g2,h2⟩
    unfold doBuiltin
    simp only
    rw [g1]
  · obtain ⟨s,h1,h2⟩:=opt_some hk
    obtain ⟨v,g1,g2⟩:=mmS_rel h1 hv
    refine Pu.mv M ⟨s,v,?_,g2,h2⟩
    unfold doBuiltin
    simp only
    rw [g1]
  · cases hk
theorem opS_rel (hct:∀ f c,cy.ct.get f=some c→COk cy.cx f c) (hsp:∀ f q,cy.sp.get f=some q→SpOk cy.cx f q) {ih:Sym} (hih:SymOk cy ih) {o:Op} (hk:opS cy ih S o K=some r) (M:Mem S h E) (hE:Env S h E):OpR cy S h E K r o:=by
  unfold opS at hk
  split at hk
  · obtain ⟨s,h1,h2⟩:=ev1S_some hk
    obtain ⟨v,g1,g2⟩:=ev_rel hE h1
    exact Pu.op M ⟨s,v,rfl,g2,h2⟩ (by show ev1 _ _ _=_; rw [ev1_of' g1])
  · obtain ⟨s,h1,h2⟩:=ev1S_some hk
    obtain ⟨v,g1,g2⟩:=ev_rel hE h1
    exact Pu.op M ⟨s,v,rfl,g2,h2⟩ (by show ev1 _ _ _=_; rw [ev1_of' g1])
  · obtain ⟨s,h1,h2⟩:=ev1S_some hk
    obtain ⟨v,g1,g2⟩:=ev_rel hE h1
    exact Pu.op M (pickS_rel h2 g2 (fun s hs=>ev_rel hE hs) (fun s hs=>ev_rel hE hs)) (by show ev1 _ _ _=_; rw [ev1_of' g1])
  · split at hk
    · rename_i l hl
      exact (allocS_rel M hl hk).op rfl
    · cases hk
  · obtain ⟨s,h1,h2⟩:=ev1S_some hk
    obtain ⟨v,g1,g2⟩:=ev_rel hE h1
    split at h2
    · rename_i l hl
      exact (boxS_rel M hl g2 h2).op (by show ev1 _ _ _=_; rw [ev1_of' g1])
    · cases h2
  · split at hk
    · rename_i l hl
      obtain ⟨q,g1,g2⟩:=evPS_rel hE hl
      exact Pu.op M (buildS_rel hk g2) (by show (match evParts _ _ with | some l=>_ | none=>_)=_; rw [g1])
    · cases hk
  · split at hk
    · rename_i l hl
      obtain ⟨q,g1,g2⟩:=evPS_rel hE hl
      exact (buildSliceS_rel M hk g2).op (by show (match evParts _ _ with | some l=>_ | none=>_)=_; rw [g1])
    · cases hk
  · obtain ⟨s,h1,h2⟩:=ev1S_some hk
    obtain ⟨v,g1,g2⟩:=ev_rel hE h1
    exact Pu.op M (loadS_rel M h2 g2) (by show ev1 _ _ _=_; rw [ev1_of' g1])
  · obtain ⟨s,h1,h2⟩:=ev1S_some hk
    obtain ⟨v,g1,g2⟩:=ev_rel hE h1
    obtain ⟨s',h3,h4⟩:=ev1S_some h2
    obtain ⟨v',g3,g4⟩:=ev_rel hE h3
    obtain ⟨h',S',E',q1,q2,q3,q4,q5,q6⟩:=storeS_rel M h4 g2 g4
    exact ⟨.undef,.undef,h',S',E',⟨0,fun k _ => .inr (.inl ⟨by show ev1 _ _ _=_; rw [ev1_of' g1,ev1_of' g3]; exact q1,rfl⟩)⟩,q2,q3,q4,q5,V_undef.2 rfl,q6⟩
  · obtain ⟨s,h1,h2⟩:=ev1S_some hk
    obtain ⟨v,g1,g2⟩:=ev_rel hE h1
    obtain ⟨s',h3,h4⟩:=opt_some h2
    obtain ⟨w,q1,q2⟩:=nilS_rel M h3 g2
    exact Pu.op M ⟨s',w,q1,q2,h4⟩ (by show ev1 _ _ _=_; rw [ev1_of' g1])
  · obtain ⟨s,h1,h2⟩:=ev1S_some hk
    obtain ⟨v,g1,g2⟩:=ev_rel hE h1
    obtain ⟨s',h3,h4⟩:=ev1S_some h2
    obtain ⟨v',g3,g4⟩:=ev_rel hE h3
    obtain ⟨s2,w,q1,q2,q3⟩:=binS_rel h4 g2 g4
    exact Pu.op M ⟨s2,w,rfl,q2,q3⟩ (by show ev1 _ _ _=_; rw [ev1_of' g1,ev1_of' g3,q1])
  · obtain ⟨s,h1,h2⟩:=ev1S_some hk
    obtain ⟨v,g1,g2⟩:=ev_rel hE h1
    obtain ⟨s',h3,h4⟩:=opt_some h2
    obtain ⟨w,q1,q2⟩:=unS_rel (h:=h) h3 g2
    exact Pu.op M ⟨s',w,q1,q2,h4⟩ (by show ev1 _ _ _=_; rw [ev1_of' g1])
  · obtain ⟨s,h1,h2⟩:=ev1S_some hk
    obtain ⟨v,g1,g2⟩:=ev_rel hE h1
    exact Pu.op M (convertS_rel M h2 g2) (by show ev1 _ _ _=_; rw [ev1_of' g1])
  · rename_i f first caps
    split at hk
    · rename_i l hf hl
      obtain ⟨vs,g1,g2⟩:=evs_rel hE hl
      exact Pu.op M ⟨_,.fn f vs,rfl,V_fn.2 ⟨vs,rfl,g2⟩,hk⟩ (by show (match first.toList,h.evs caps.toList with | [],some l=>_ | _,_=>_)=_; rw [hf,g1])
    · cases hk
  · split at hk
    · exact (makeMap_rel M hk).op rfl
    · cases hk
  · obtain ⟨s,h1,h2⟩:=ev1S_some hk
    obtain ⟨v,g1,g2⟩:=ev_rel hE h1
    obtain ⟨s',h3,h4⟩:=ev1S_some h2
    obtain ⟨v',g3,g4⟩:=ev_rel hE h3
    exact Pu.op M (lookupS_rel M h4 g2 g4) (by show ev1 _ _ _=_; rw [ev1_of' g1,ev1_of' g3])
  · obtain ⟨s,h1,h2⟩:=ev1S_some hk
    obtain ⟨v,g1,g2⟩:=ev_rel hE h1
    obtain ⟨s',h3,h4⟩:=ev1S_some h2
    obtain ⟨v',g3,g4⟩:=ev_rel hE h3
    obtain ⟨s'',h5,h6⟩:=ev1S_some h4
    obtain ⟨v'',g5,g6⟩:=ev_rel hE h5
    obtain ⟨h',S',E',q1,q2,q3,q4,q5,q6⟩:=updateS_rel M h6 g2 g4 g6
    exact ⟨.undef,.undef,h',S',E',⟨0,fun k _ => .inr (.inl ⟨by show ev1 _ _ _=_; rw [ev1_of' g1,ev1_of' g3,ev1_of' g5]; exact q1,rfl⟩)⟩,q2,q3,q4,q5,V_undef.2 rfl,q6⟩
  · obtain ⟨s,h1,h2⟩:=ev1S_some hk
    obtain ⟨v,g1,g2⟩:=ev_rel hE h1
    obtain ⟨s',h3,h4⟩:=ev1S_some h2
    obtain ⟨v',g3,g4⟩:=ev_rel hE h3
    exact (makeSliceS_rel M h4 g2 g4).op (by show ev1 _ _ _=_; rw [ev1_of' g1,ev1_of' g3])
  · rename_i t x lo hi mx
    obtain ⟨s,h1,h2⟩:=ev1S_some hk
    obtain ⟨v,g1,g2⟩:=ev_rel hE h1
    split at h2
    · rename_i l hh m hl hhh hm
      obtain ⟨ql,a1,a2⟩:=evOS_rel hE hl
      obtain ⟨qh,a3,a4⟩:=evOS_rel hE hhh
      obtain ⟨qm,a5,a6⟩:=evOS_rel hE hm
      exact (sliceS_rel M h2 g2 a2 a4 a6).op (by show (match h.ev x,evO h lo,evO h hi,evO h mx with | some v,some l,some hh,some m=>_ | _,_,_,_=>_)=_; rw [g1,a1,a3,a5])
    · cases h2
  · obtain ⟨s,h1,h2⟩:=ev1S_some hk
    obtain ⟨v,g1,g2⟩:=ev_rel hE h1
    exact Pu.op M (fieldS_rel M h2 g2) (by show ev1 _ _ _=_; rw [ev1_of' g1])
  · obtain ⟨s,h1,h2⟩:=ev1S_some hk
    obtain ⟨v,g1,g2⟩:=ev_rel hE h1
    obtain ⟨s',h3,h4⟩:=ev1S_some h2
    obtain ⟨v',g3,g4⟩:=ev_rel hE h3
    exact Pu.op M (indexAS_rel M h4 g2 g4) (by show ev1 _ _ _=_; rw [ev1_of' g1,ev1_of' g3])
  · obtain ⟨s,h1,h2⟩:=ev1S_some hk
    obtain ⟨v,g1,g2⟩:=ev_rel hE h1
    obtain ⟨s',h3,h4⟩:=ev1S_some h2
    obtain ⟨v',g3,g4⟩:=ev_rel hE h3
    exact Pu.op M (indexS_rel h4 g2 g4) (by show ev1 _ _ _=_; rw [ev1_of' g1,ev1_of' g3])
  · obtain ⟨s,h1,h2⟩:=ev1S_some hk
    obtain ⟨v,g1,g2⟩:=ev_rel hE h1
    obtain ⟨s',h3,h4⟩:=opt_some h2
    obtain ⟨w,q1,q2⟩:=extractS_rel (h:=h) h3 g2
    exact Pu.op M ⟨s',w,q1,q2,h4⟩ (by show ev1 _ _ _=_; rw [ev1_of' g1])
  · rename_i c
    split at hk
    · rename_i b hcal
      split at hk
      · rename_i l hl
        obtain ⟨vs,g1,g2⟩:=evs_rel hE hl
        exact (builtinS_rel M hk g2).op (by show (match c.callee with | .builtin b=>_ | .value f=>_ | _=>_)=_; rw [hcal]; simp only; rw [g1])
      · cases hk
    · rename_i f hcal
      split at hk
      · rename_i l hl
        obtain ⟨vs,g1,g2⟩:=evs_rel hE hl
        obtain ⟨s,h1,h2⟩:=ev1S_some hk
        obtain ⟨v,g3,g4⟩:=ev_rel hE h1
        split at h2
        · rename_i g caps
          obtain ⟨cs,rfl,g5⟩:=V_fn.1 g4
          obtain ⟨v,h',s',S',E',⟨k0,q1⟩,q2,q3,q4,q5,q6,q7⟩:=callS_rel hct hsp hih h2 M (Vs_app g2 g5)
          refine ⟨s',v,h',S',E',⟨k0,fun k hkk => .inr (.inr ⟨g,vs++cs,?_,q1 k hkk⟩)⟩,q2,q3,q4,q5,q6,q7⟩
          show (match c.callee with | .builtin b=>_ | .value f=>_ | _=>_)=_
          rw [hcal]
          simp only
          rw [g1]
          simp only
          rw [ev1_of' g3]
          rfl
        · cases h2
      · cases hk
    · cases hk
  · cases hk
def StR (S:SS) (h:St) (E:En) {R:Type} (K:SS→Option R) (r:R) (f:Nat→Option St):Prop := ∃ h' S' E',(∃ k0, ∀ k,k0≤k→f k=some h')∧Mem S' h' E'∧Env S' h' E'∧Gr S h E S' h' E'∧(∀ t,isIn t S.kp=true→S'.tmp t=S.tmp t)∧K S'=some r
theorem put_rel {S S':SS} {h:St} (M:Mem S h E) (hE:Env S h E) {d:Option Nat} {s:SV} {v:HV} (hp:S.put d s=some S') (hv:V E s v):Mem S' (h.put d v) E∧Env S' (h.put d v) E∧Gr S h E S' (h.put d v) E∧(∀ t,isIn t S.kp=true→S'.tmp t=S.tmp t):=by
  unfold SS.put at hp
  split at hp
  · rename_i t
    rw [bif_eq] at hp
    split at hp
    · rename_i hlt
      rw [bif_eq] at hp
      split at hp
      · cases hp
      · rename_i hkp
        cases hp
        have e:h.put (some t) v=⟨h.nt,h.env.set t v,h.hp,h.nx,h.lk,h.df⟩:=by
          unfold St.put
          simp only
          rw [← hE.nt,hlt]; rfl
        rw [e]
        refine ⟨M.re rfl rfl rfl rfl rfl rfl,⟨hE.nt,fun j => ?_⟩,Gr.refl.re rfl rfl (fun _ _ h=>h) rfl rfl (fun _ h=>h) rfl rfl rfl rfl rfl rfl rfl rfl rfl rfl rfl rfl,fun j hj => ?_⟩
        · unfold SS.tmp St.tmp
          simp only
          rw [Tr.get_set,Tr.get_set]
          by_cases hjt:j=t
          · rw [if_pos hjt,if_pos hjt]; exact hv
          · rw [if_neg hjt,if_neg hjt]; exact hE.v j
        · unfold SS.tmp
          simp only
          rw [Tr.get_set,if_neg]
          rintro rfl
          exact hkp hj
    · rename_i hlt
      cases hp
      have e:h.put (some t) v=h:=by
        unfold St.put
        simp only
        rw [← hE.nt]
        have:Nat.blt t S.nt=false:=by
          cases hq:Nat.blt t S.nt with
          | false=>rfl
          | true=>exact absurd hq hlt
        rw [this]; rfl
      rw [e]
      exact ⟨M,hE,Gr.refl,fun _ _=>rfl⟩
  · cases hp
    exact ⟨M,hE,Gr.refl,fun _ _=>rfl⟩
theorem putS_some {S:SS} {d:Option Nat} {s:SV} {K:SS→Option R} (hk:putS S d s K=some r):∃ S',S.put d s=some S'∧K S'=some r:=by
  unfold putS at hk
  split at hk
  · exact ⟨_,by assumption,hk⟩
  · cases hk
theorem skip_rel (M:Mem S h E) (hE:Env S h E) {K:SS→Option R} {ops:Array Oper} {o:Oper} (hk:putS S o.dst .undef K=some r) (ht:takes h ops o=some false):StR S h E K r (fun k=>step1 cy.cx (run cy.cx k) ops h o):=by
  obtain ⟨S',h1,h2⟩:=putS_some hk
  obtain ⟨g1,g2,g3,g4⟩:=put_rel M hE h1 (V_undef.2 rfl)
  refine ⟨h.put o.dst .undef,S',E,⟨0,fun k _ => ?_⟩,g1,g2,g3,g4,h2⟩
  unfold step1
  rw [ht]
theorem do_rel (hct:∀ f c,cy.ct.get f=some c→COk cy.cx f c) (hsp:∀ f q,cy.sp.get f=some q→SpOk cy.cx f q) {ih:Sym} (hih:SymOk cy ih) (M:Mem S h E) (hE:Env S h E) {K:SS→Option R} {ops:Array Oper} {o:Oper} (hk:opS cy ih S o.op (fun v S'=>putS S' o.dst v K)=some r) (ht:takes h ops o=some true):StR S h E K r (fun k=>step1 cy.cx (run cy.cx k) ops h o):=by
  obtain ⟨s,v,h1,S1,E1,⟨k0,hs⟩,M1,g1,e1,e2,hv,hk2⟩:=opS_rel hct hsp hih hk M hE
  obtain ⟨S2,h3,h4⟩:=putS_some hk2
  obtain ⟨q1,q2,q3,q4⟩:=put_rel M1 (hE.gr g1 M M1 e1 e2) h3 hv
  refine ⟨h1.put o.dst v,S2,E1,⟨k0,fun k hkk => ?_⟩,q1,q2,g1.trans q3,fun t ht => ?_,h4⟩
  · show step1 cy.cx (run cy.cx k) ops h o=_
    unfold step1
    rw [ht]
    simp only
    rcases hs k hkk with g | ⟨g,rfl⟩ | ⟨f,args,g,g'⟩
    · rw [g]
    · rw [g]
    · rw [g]; simp only; rw [g']
  · rw [q4 t (by rw [g1.kp]; exact ht)]
    unfold SS.tmp; rw [e1]
theorem setE_rel {S:SS} {h:St} (M:Mem S h E) (hE:Env S h E) {g:Nat} {s:SV} (hs:V E s (h.tmp g)):Mem (S.setE g s) h E∧Env (S.setE g s) h E∧Gr S h E (S.setE g s) h E:=by
  refine ⟨M.re rfl rfl rfl rfl rfl rfl,⟨hE.nt,fun j => ?_⟩,Gr.refl.re rfl rfl (fun _ _ h=>h) rfl rfl (fun _ h=>h) rfl rfl rfl rfl rfl rfl rfl rfl rfl rfl rfl rfl⟩
  unfold SS.setE SS.tmp
  simp only
  rw [Tr.get_set]
  by_cases hj:j=g
  · rw [if_pos hj,hj]; exact hs
  · rw [if_neg hj]; exact hE.v j
theorem StR.setE {S:SS} {h:St} {K:SS→Option R} {f:Nat→Option St} {g:Nat} {s:SV} (hg:Gr S h E (S.setE g s) h E) (hkp:isIn g S.kp=false) (p:StR (S.setE g s) h E K r f):StR S h E K r f:=by
  obtain ⟨h',S',E',q1,q2,q3,q4,q5,q6⟩:=p
  refine ⟨h',S',E',q1,q2,q3,hg.trans q4,fun t ht => ?_,q6⟩
  rw [q5 t ht]
  unfold SS.setE SS.tmp
  simp only
  rw [Tr.get_set,if_neg]
  rintro rfl
  rw [ht] at hkp; cases hkp
theorem stepS_rel (hct:∀ f c,cy.ct.get f=some c→COk cy.cx f c) (hsp:∀ f q,cy.sp.get f=some q→SpOk cy.cx f q) {ih:Sym} (hih:SymOk cy ih) (M:Mem S h E) (hE:Env S h E) {K:SS→Option R} {ops:Array Oper} {o:Oper} (hk:stepS cy ih ops S o K=some r):StR S h E K r (fun k=>step1 cy.cx (run cy.cx k) ops h o):=by
  unfold stepS at hk
  split at hk
  · rename_i hg
    exact do_rel hct hsp hih M hE hk (by unfold takes; rw [hg])
  · rename_i j w hg
    split at hk
    · rename_i g hd
      have ht:takes h ops o=(match h.tmp g with | .bool b=>some (b == w) | .any=>none | _=>some false):=by
        unfold takes
        rw [hg]
        simp only
        rw [hd]
        rfl
      split at hk
      · rename_i b hb
        have hv:=hE.v g
        rw [hb,V_bool] at hv
        rw [hv] at ht
        simp only at ht
        rw [bif_eq] at hk
        split at hk
        · rename_i hbw
          exact do_rel hct hsp hih M hE hk (by rw [ht,hbw])
        · rename_i hbw
          exact skip_rel M hE hk (by rw [ht]; simpa using hbw)
      · rename_i b hb
        have hv:=hE.v g
        rw [hb,V_bool] at hv
        rw [hv] at ht
        simp only at ht
        rw [bif_eq] at hk
        split at hk
        · cases hk
        · rename_i hkp
          have hkp:isIn g S.kp=false:=by simpa using hkp
          have hset:∀ b',b=b'→Mem (S.setE g (.bool true b')) h E∧Env (S.setE g (.bool true b')) h E∧Gr S h E (S.setE g (.bool true b')) h E:=by
            intro b' hbb
            exact setE_rel M hE (V_bool.2 (by rw [hv,hbb]))
          rw [bif_eq] at hk
          split at hk
          · rename_i hw
            rw [hw] at ht
            rcases cnd_some hk with ⟨hb1,hk1⟩ | ⟨hb1,hk1⟩
            · obtain ⟨m1,m2,m3⟩:=hset true hb1
              exact StR.setE m3 hkp (do_rel hct hsp hih m1 m2 hk1 (by rw [ht,hb1]; rfl))
            · obtain ⟨m1,m2,m3⟩:=hset false hb1
              exact StR.setE m3 hkp (skip_rel m1 m2 hk1 (by rw [ht,hb1]; rfl))
          · rename_i hw
            have hw:w=false:=by simpa using hw
            rw [hw] at ht
            rcases cnd_some hk with ⟨hb1,hk1⟩ | ⟨hb1,hk1⟩
            · obtain ⟨m1,m2,m3⟩:=hset true hb1
              exact StR.setE m3 hkp (skip_rel m1 m2 hk1 (by rw [ht,hb1]; rfl))
            · obtain ⟨m1,m2,m3⟩:=hset false hb1
              exact StR.setE m3 hkp (do_rel hct hsp hih m1 m2 hk1 (by rw [ht,hb1]; rfl))
      · rename_i hb
        have hv:=hE.v g
        rw [hb,V_undef] at hv
        rw [hv] at ht
        exact skip_rel M hE hk ht
      · cases hk
    · cases hk
theorem opsS_rel (hct:∀ f c,cy.ct.get f=some c→COk cy.cx f c) (hsp:∀ f q,cy.sp.get f=some q→SpOk cy.cx f q) {ih:Sym} (hih:SymOk cy ih) {ops:Array Oper}:∀ {l:List Oper} {S:SS} {h:St} {E:En} {K:SS→Option R},opsS cy ih ops S l K=some r→Mem S h E→Env S h E→StR S h E K r (fun k=>runOps cy.cx (run cy.cx k) ops h l)
  | [],S,h,E,K,hk,M,hE=>⟨h,S,E,⟨0,fun _ _=>rfl⟩,M,hE,Gr.refl,fun _ _=>rfl,hk⟩
  | o::l,S,h,E,K,hk,M,hE=>by
    unfold opsS at hk
    obtain ⟨h1,S1,E1,⟨k1,q1⟩,q2,q3,q4,q5,q6⟩:=stepS_rel hct hsp hih M hE hk
    obtain ⟨h2,S2,E2,⟨k2,p1⟩,p2,p3,p4,p5,p6⟩:=opsS_rel hct hsp hih q6 q2 q3
    refine ⟨h2,S2,E2,⟨max k1 k2,fun k hkk => ?_⟩,p2,p3,q4.trans p4,fun t ht=>by rw [p5 t (by rw [q4.kp]; exact ht),q5 t ht],p6⟩
    show (match step1 cy.cx (run cy.cx k) ops h o with | some s'=>runOps cy.cx (run cy.cx k) ops s' l | none=>none)=_
    have e:=q1 k (Nat.le_trans (Nat.le_max_left _ _) hkk)
    have e:step1 cy.cx (run cy.cx k) ops h o=some h1:=e
    rw [e]
    exact p1 k (Nat.le_trans (Nat.le_max_right _ _) hkk)
end
end Go.Ls
namespace Go.Ls
open Go Go.Hm
section
variable {E:En} {cy:Cy} {R:Type} {r:R}
def lockV (v:HV) (l:List Nat):Option (List Nat):=match v with
  | .ptr b _=>some (b::l)
  | .sl b _ _=>some (b::l)
  | .asl b _ _=>some (b::l)
  | .map _=>none
  | _=>some l
theorem lockAll_cons {h:St} {a:Operand} {axs:List Operand} {l L:List Nat} {v:HV} (h1:lockAll h axs=some l) (h2:h.ev a=some v) (h3:lockV v l=some L):lockAll h (a::axs)=some L:=by
  unfold lockAll
  rw [h1]
  simp only
  rw [h2]
  cases v <;> first | exact h3 | cases h3
def LkOk (S:SS) (h:St) (E:En) (l L:List Nat):Prop := ∀ b,isIn b L=true→b<h.nx ∧ ∀ m e,S.st.get m=some e→Bk E m b→isIn m l=true
theorem lk_own {S:SS} {h:St} (M:Mem S h E) {m b:Nat} {e0:Ent} {l L:List Nat} (hm:S.st.get m=some e0) (hb:Bk E m b) (g:LkOk S h E l L):LkOk S h E (m::l) (b::L):=by
  intro c hc
  rcases isIn_cons.1 hc with rfl | hc
  · refine ⟨M.mbl m c hb,fun m' e' hm' hb' => ?_⟩
    have:=M.inj m' m e' e0 c hm' hm hb' hb
    exact isIn_cons.2 (.inl this)
  · exact ⟨(g c hc).1,fun m' e' hm' hb'=>isIn_cons.2 (.inr ((g c hc).2 m' e' hm' hb'))⟩
theorem lk_more {S:SS} {h:St} {m:Nat} {l L:List Nat} (g:LkOk S h E l L):LkOk S h E (m::l) L:=fun c hc=>⟨(g c hc).1,fun m' e' hm' hb'=>isIn_cons.2 (.inr ((g c hc).2 m' e' hm' hb'))⟩
theorem lk_z {S:SS} {h:St} (M:Mem S h E) {b:Nat} {l L:List Nat} (hz:E.Z b) (g:LkOk S h E l L):LkOk S h E l (b::L):=by
  intro c hc
  rcases isIn_cons.1 hc with rfl | hc
  · exact ⟨M.z c hz,fun m' e' hm' hb'=>absurd hz (M.own m' e' c hm' hb').1⟩
  · exact g c hc
theorem lockS_rel {S:SS} {h:St} (M:Mem S h E) (hE:Env S h E):∀ {axs:List Operand} {l:List Nat},lockS S axs=some l → ∃ L,lockAll h axs=some L∧(∀ b,isIn b h.lk=true→isIn b L=true)∧LkOk S h E l L
  | [],l,hl=>by
    cases hl
    exact ⟨h.lk,rfl,fun _ hb=>hb,M.lk⟩
  | a::axs,l,hl=>by
    unfold lockS at hl
    split at hl
    · rename_i l0 h0
      obtain ⟨L,g1,g2,g3⟩:=lockS_rel M hE h0
      have fin:∀ v L',h.ev a=some v→lockV v L=some L'→(∀ b,isIn b L=true→isIn b L'=true)→LkOk S h E l L' → ∃ L,lockAll h (a::axs)=some L∧(∀ b,isIn b h.lk=true→isIn b L=true)∧LkOk S h E l L:=fun v L' e1 e2 e3 e4=>⟨L',lockAll_cons g1 e1 e2,fun b hb=>e3 b (g2 b hb),e4⟩
      have up:∀ b c,isIn b L=true→isIn b (c::L)=true:=fun b c hb=>isIn_cons.2 (.inr hb)
      have rv:∀ m e0 o n v,S.st.get m=some e0→(∀ b,o=some b→Bk E m b)→RowV o n v→h.ev a=some v→l=m::l0 → ∃ L,lockAll h (a::axs)=some L∧(∀ b,isIn b h.lk=true→isIn b L=true)∧LkOk S h E l L:=by
        intro m e0 o n v hm ho hv k1 hml
        subst hml
        unfold RowV at hv
        cases o with
        | none =>
          rcases hv.2 with rfl | rfl
          · exact fin _ L k1 rfl (fun _ hb=>hb) (lk_more g3)
          · exact fin _ L k1 rfl (fun _ hb=>hb) (lk_more g3)
        | some b =>
          subst hv
          exact fin _ (b::L) k1 rfl (fun c hc=>up c b hc) (lk_own M hm (ho b rfl) g3)
      split at hl
      · rename_i m o hs
        obtain ⟨v,k1,k2⟩:=ev_rel hE hs
        rw [V_box] at k2
        obtain ⟨_,b,hb,rfl⟩:=k2
        rw [bif_eq] at hl
        split at hl
        · rename_i ha
          cases hl
          obtain ⟨e0,ha⟩:=Option.isSome_iff_exists.1 ha
          exact fin _ (b::L) k1 rfl (fun c hc=>up c b hc) (lk_own M ha (.inl hb) g3)
        · cases hl
      · rename_i m o n hs
        obtain ⟨v,k1,k2⟩:=ev_rel hE hs
        rw [V_bsl] at k2
        obtain ⟨_,b,hb,rfl,_⟩:=k2
        rw [bif_eq] at hl
        split at hl
        · rename_i ha
          cases hl
          obtain ⟨e0,ha⟩:=Option.isSome_iff_exists.1 ha
          exact fin _ (b::L) k1 rfl (fun c hc=>up c b hc) (lk_own M ha (.inl hb) g3)
        · cases hl
      · rename_i m o n hs
        obtain ⟨v,k1,k2⟩:=ev_rel hE hs
        rw [V_asl] at k2
        obtain ⟨_,b,hb,rfl⟩:=k2
        rw [bif_eq] at hl
        split at hl
        · rename_i ha
          cases hl
          obtain ⟨e0,ha⟩:=Option.isSome_iff_exists.1 ha
          exact fin _ (b::L) k1 rfl (fun c hc=>up c b hc) (lk_own M ha (.inl hb) g3)
        · cases hl
      · rename_i m hs
        obtain ⟨v,k1,k2⟩:=ev_rel hE hs
        rw [V_row] at k2
        split at hl
        · rename_i e xs hm
          cases hl
          exact rv m _ _ _ v hm (fun b hb => .inl hb) (k2.2.2.1 e xs (by rw [M.st]; exact hm)) k1 rfl
        · rename_i g e xs hm
          cases hl
          exact rv m _ _ _ v hm (fun b hb => .inl hb) (k2.2.2.2 g e xs (by rw [M.st]; exact hm)) k1 rfl
        · cases hl
      · rename_i m i o hs
        obtain ⟨v,k1,k2⟩:=ev_rel hE hs
        rw [V_ept] at k2
        split at hl
        · rename_i e xs hm
          cases hl
          obtain ⟨b,j,hb,_,_,rfl⟩:=k2.2.2.1 e xs (by rw [M.st]; exact hm)
          exact fin _ (b::L) k1 rfl (fun c hc=>up c b hc) (lk_own M hm (.inl hb) g3)
        · rename_i g e xs hm
          cases hl
          obtain ⟨b,j,hb,_,_,rfl⟩:=k2.2.2.2 g e xs (by rw [M.st]; exact hm)
          exact fin _ (b::L) k1 rfl (fun c hc=>up c b hc) (lk_own M hm (.inl hb) g3)
        · cases hl
      · rename_i m o n u j p hs
        obtain ⟨v,k1,k2⟩:=ev_rel hE hs
        rw [V_apt] at k2
        obtain ⟨_,b,k,hb,_,_,rfl⟩:=k2
        rw [bif_eq] at hl
        split at hl
        · rename_i ha
          cases hl
          obtain ⟨e0,ha⟩:=Option.isSome_iff_exists.1 ha
          exact fin _ (b::L) k1 rfl (fun c hc=>up c b hc) (lk_own M ha (.inl hb) g3)
        · cases hl
      · rename_i m q hs
        obtain ⟨v,k1,k2⟩:=ev_rel hE hs
        rw [V_vw] at k2
        split at hl
        · rename_i e xs hm
          cases hl
          obtain ⟨k,_,_,k3⟩:=k2.2.2 e xs (by rw [M.st]; exact hm)
          exact rv m _ _ _ v hm (fun b hb => .inl hb) k3 k1 rfl
        · cases hl
      · rename_i m g j hs
        obtain ⟨v,k1,k2⟩:=ev_rel hE hs
        rw [V_sub] at k2
        split at hl
        · rename_i g' e xs hm
          rw [bif_eq] at hl
          split at hl
          · rename_i hg
            have hg:=Nat.eq_of_beq_eq_true hg
            subst hg
            cases hl
            obtain ⟨k,l',_,_,k3⟩:=k2.2.2.2 e xs (by rw [M.st]; exact hm)
            exact rv m _ _ _ v hm (fun b hb => .inr ⟨k,hb⟩) k3 k1 rfl
          · cases hl
        · cases hl
      · rename_i u x hs
        cases hl
        obtain ⟨v,k1,k2⟩:=ev_rel hE hs
        have ha:(SV.val u x).ag=u.ag:=rfl
        have k3:=k2
        unfold V lift at k3
        rw [ha] at k3
        cases u with
        | int _=>have k3:CR E _ [v]:=k3; unfold CR RdC at k3; cases k3; exact fin _ L k1 rfl (fun _ hb=>hb) g3
        | bool=>have k3:CR E _ [v]:=k3; unfold CR RdC at k3; cases k3; exact fin _ L k1 rfl (fun _ hb=>hb) g3
        | str=>have k3:CR E _ [v]:=k3; unfold CR RdC at k3; cases k3; exact fin _ L k1 rfl (fun _ hb=>hb) g3
        | un=>obtain ⟨cs,rfl,_⟩:=k3; exact fin _ L k1 rfl (fun _ hb=>hb) g3
        | nil=>have k3:CR E _ [v]:=k3; unfold CR RdC at k3; cases k3; exact fin _ L k1 rfl (fun _ hb=>hb) g3
        | pair _ _=>obtain ⟨cs,rfl,_⟩:=k3; exact fin _ L k1 rfl (fun _ hb=>hb) g3
        | arr _ _=>obtain ⟨cs,rfl,_⟩:=k3; exact fin _ L k1 rfl (fun _ hb=>hb) g3
        | list e =>
          rw [V_list] at k2
          rcases k2 with ⟨_,rfl | rfl | rfl⟩ | ⟨b,o,y,⟨rfl,_⟩,hz,_⟩
          · exact fin _ L k1 rfl (fun _ hb=>hb) g3
          · exact fin _ L k1 rfl (fun _ hb=>hb) g3
          · exact fin _ L k1 rfl (fun _ hb=>hb) g3
          · exact fin _ (b::L) k1 rfl (fun c hc=>up c b hc) (lk_z M hz g3)
      · rename_i u x hs
        cases hl
        obtain ⟨v,k1,k2⟩:=ev_rel hE hs
        rw [V_fpt] at k2
        obtain ⟨b,o,y,ds,rfl,hz,_⟩:=k2
        exact fin _ (b::L) k1 rfl (fun c hc=>up c b hc) (lk_z M hz g3)
      · rename_i hs
        cases hl
        obtain ⟨v,k1,k2⟩:=ev_rel hE hs
        rw [V_int] at k2
        subst k2
        exact fin _ L k1 rfl (fun _ hb=>hb) g3
      · rename_i hs
        cases hl
        obtain ⟨v,k1,k2⟩:=ev_rel hE hs
        rw [V_nils] at k2
        subst k2
        exact fin _ L k1 rfl (fun _ hb=>hb) g3
      · rename_i hs
        cases hl
        obtain ⟨v,k1,k2⟩:=ev_rel hE hs
        rw [V_esl] at k2
        rcases k2 with rfl | rfl
        · exact fin _ L k1 rfl (fun _ hb=>hb) g3
        · exact fin _ L k1 rfl (fun _ hb=>hb) g3
      · rename_i hs
        cases hl
        obtain ⟨v,k1,k2⟩:=ev_rel hE hs
        rw [V_undef] at k2
        subst k2
        exact fin _ L k1 rfl (fun _ hb=>hb) g3
      · cases hl
    · cases hl
theorem no_map {S:SS} {h:St} (M:Mem S h E) {s:SV} {b:Nat} (hv:V E s (.map b)):s = .any∨(∃ m i o,s = .ept m i o)∨(∃ m,s = .row m∧(∀ e xs,S.st.get m≠some (.row e xs)) ∧ ∀ g e xs,S.st.get m≠some (.rows g e xs))∨(∃ m,s = .map m)∨(∃ m g j,s = .sub m g j) ∨ ∃ m q,s = .vw m q ∧ ∀ e xs,S.st.get m≠some (.row e xs):=by
  have rv:∀ o n,RowV o n (.map b)→False:=by
    intro o n h
    unfold RowV at h
    cases o with
    | none=>rcases h.2 with k | k <;> cases k
    | some _=>cases h
  cases s with
  | any=>exact .inl rfl
  | undef=>rw [V_undef] at hv; cases hv
  | int _ _ _=>rw [V_int] at hv; cases hv
  | bool _ _=>rw [V_bool] at hv; cases hv
  | val u x =>
    exfalso
    cases u with
    | int _=>have k3:CR E _ [_]:=hv; unfold CR RdC at k3; cases k3
    | bool=>have k3:CR E _ [_]:=hv; unfold CR RdC at k3; cases k3
    | str=>have k3:CR E _ [_]:=hv; unfold CR RdC at k3; cases k3
    | un=>obtain ⟨cs,k,_⟩:=hv; cases k
    | nil=>have k3:CR E _ [_]:=hv; unfold CR RdC at k3; cases k3
    | pair _ _=>obtain ⟨cs,k,_⟩:=hv; cases k
    | arr _ _=>obtain ⟨cs,k,_⟩:=hv; cases k
    | list e =>
      rw [V_list] at hv
      rcases hv with ⟨_,k | k | k⟩ | ⟨b,o,y,⟨k,_⟩,hz,_⟩ <;> cases k
  | agg _=>rw [V_agg] at hv; obtain ⟨_,k,_⟩:=hv; cases k
  | tup _=>rw [V_tup] at hv; obtain ⟨_,k,_⟩:=hv; cases k
  | fn _ _=>rw [V_fn] at hv; obtain ⟨_,k,_⟩:=hv; cases k
  | nilp=>have k3:CR E _ [_]:=hv; unfold CR at k3; cases k3
  | nils=>rw [V_nils] at hv; cases hv
  | esl=>rw [V_esl] at hv; rcases hv with k | k <;> cases k
  | nilf=>have k3:CR E _ [_]:=hv; unfold CR at k3; cases k3
  | box _ _=>rw [V_box] at hv; obtain ⟨_,_,_,k⟩:=hv; cases k
  | bsl _ _ _=>rw [V_bsl] at hv; obtain ⟨_,_,_,k,_⟩:=hv; cases k
  | row m =>
    rw [V_row] at hv
    exact .inr (.inr (.inl ⟨m,rfl,fun e xs hm=>rv _ _ (hv.2.2.1 e xs (by rw [M.st]; exact hm)),fun g e xs hm=>rv _ _ (hv.2.2.2 g e xs (by rw [M.st]; exact hm))⟩))
  | vw m q =>
    rw [V_vw] at hv
    refine .inr (.inr (.inr (.inr (.inr ⟨m,q,rfl,fun e xs hm => ?_⟩))))
    obtain ⟨k,_,_,k3⟩:=hv.2.2 e xs (by rw [M.st]; exact hm)
    exact rv _ _ k3
  | map m=>exact .inr (.inr (.inr (.inl ⟨m,rfl⟩)))
  | sub m g j=>exact .inr (.inr (.inr (.inr (.inl ⟨m,g,j,rfl⟩))))
  | apt _ _ _ _ _ _=>rw [V_apt] at hv; obtain ⟨_,_,_,_,_,_,k⟩:=hv; cases k
  | asl _ _ _=>rw [V_asl] at hv; obtain ⟨_,_,_,k⟩:=hv; cases k
  | ept m i o=>exact .inr (.inl ⟨m,i,o,rfl⟩)
  | fpt _ _=>rw [V_fpt] at hv; obtain ⟨_,_,_,_,k,_⟩:=hv; cases k
theorem okLen_rel {S:SS} {h:St} (M:Mem S h E) (hE:Env S h E) {o:Op} (hk:okLen S o=true):mapLen h o=false:=by
  unfold mapLen
  split
  · rename_i c
    split
    · rename_i hcal
      split
      · rename_i b hev
        exfalso
        unfold okLen at hk
        simp only at hk
        rw [hcal] at hk
        simp only at hk
        cases hl:S.evs c.args.toList with
        | none=>rw [hl] at hk; cases hk
        | some l =>
          rw [hl] at hk
          obtain ⟨vs,g1,g2⟩:=evs_rel hE hl
          rw [hev] at g1
          cases g1
          cases l with
          | nil=>unfold Vs at g2; cases g2
          | cons s l =>
            unfold Vs at g2
            obtain ⟨v,q,e,h1,h2⟩:=g2
            cases e
            cases l with
            | cons s' l=>unfold Vs at h2; obtain ⟨_,_,e,_⟩:=h2; cases e
            | nil =>
              rcases no_map M h1 with rfl | ⟨m,i,o,rfl⟩ | ⟨m,rfl,hm,hm2⟩ | ⟨m,rfl⟩ | ⟨m,g,j,rfl⟩ | ⟨m,q,rfl,hm⟩
              · cases hk
              · cases hk
              · simp only at hk
                cases hk
              · cases hk
              · cases hk
              · simp only at hk
                cases hk
      · rfl
    · rfl
  · rfl
theorem cut_get {S:SS} {h:St}:∀ (l:List Operand) (t:Nat),((cutES S l).get t=some (S.tmp t)∧(cutEnv h l).get t=some (h.tmp t))∨((cutES S l).get t=none∧(cutEnv h l).get t=none)
  | [],t => .inr ⟨rfl,rfl⟩
  | .tmp j::l,t=>by
    unfold cutES cutEnv
    rw [Tr.get_set,Tr.get_set]
    by_cases hj:t=j
    · rw [if_pos hj,if_pos hj,hj]; exact .inl ⟨rfl,rfl⟩
    · rw [if_neg hj,if_neg hj]; exact cut_get l t
  | .const _::l,t=>cut_get l t
  | .func _::l,t=>cut_get l t
  | .global _::l,t=>cut_get l t
theorem splitG_rel {S:SS} {h:St} (M:Mem S h E) (hE:Env S h E) {ops:Array Oper} {o:Oper} {K:SS→Option R} (hk:splitG ops o S K=some r):∃ S2,K S2=some r∧Mem S2 h E∧Env S2 h E∧Gr S h E S2 h E ∧ ∀ t,isIn t S.kp=true→S2.tmp t=S.tmp t:=by
  have stay:K S=some r → ∃ S2,K S2=some r∧Mem S2 h E∧Env S2 h E∧Gr S h E S2 h E ∧ ∀ t,isIn t S.kp=true→S2.tmp t=S.tmp t:=fun hs=>⟨S,hs,M,hE,Gr.refl,fun _ _=>rfl⟩
  unfold splitG at hk
  split at hk
  · exact stay hk
  · split at hk
    · rename_i g _
      split at hk
      · rename_i b hb
        rw [bif_eq] at hk
        split at hk
        · cases hk
        · rename_i hkp
          have hv:=hE.v g
          rw [hb,V_bool] at hv
          have fin:∀ b',b=b'→K (S.setE g (.bool true b'))=some r → ∃ S2,K S2=some r∧Mem S2 h E∧Env S2 h E∧Gr S h E S2 h E ∧ ∀ t,isIn t S.kp=true→S2.tmp t=S.tmp t:=by
            intro b' hbb hs
            obtain ⟨m1,m2,m3⟩:=setE_rel M hE (g:=g) (s := .bool true b') (V_bool.2 (by rw [hv,hbb]))
            refine ⟨_,hs,m1,m2,m3,fun t ht => ?_⟩
            unfold SS.setE SS.tmp
            simp only
            rw [Tr.get_set,if_neg]
            rintro rfl
            exact hkp ht
          rcases cnd_some hk with ⟨h1,h2⟩ | ⟨h1,h2⟩
          · exact fin true h1 h2
          · exact fin false h1 h2
      · exact stay hk
    · exact stay hk
theorem StR.gr {S S2:SS} {h:St} {K:SS→Option R} {f:Nat→Option St} (hg:Gr S h E S2 h E) (hkp:∀ t,isIn t S.kp=true→S2.tmp t=S.tmp t) (p:StR S2 h E K r f):StR S h E K r f:=by
  obtain ⟨h',S',E',q1,q2,q3,q4,q5,q6⟩:=p
  exact ⟨h',S',E',q1,q2,q3,hg.trans q4,fun t ht=>(q5 t (by rw [hg.kp]; exact ht)).trans (hkp t ht),q6⟩
theorem itemsS_rel (hct:∀ f c,cy.ct.get f=some c→COk cy.cx f c) (hsp:∀ f q,cy.sp.get f=some q→SpOk cy.cx f q) {ih:Sym} (hih:SymOk cy ih) {ops:Array Oper}:∀ {l:List Hm.Item} {S:SS} {h:St} {E:En} {K:SS→Option R},itemsS cy ih ops S l K=some r→Mem S h E→Env S h E→StR S h E K r (fun k=>runItems cy.cx (run cy.cx k) ops h l)
  | [],S,h,E,K,hk,M,hE=>⟨h,S,E,⟨0,fun _ _=>rfl⟩,M,hE,Gr.refl,fun _ _=>rfl,hk⟩
  | x::l,S,h,E,K,hk,M,hE=>by
    unfold itemsS at hk
    obtain ⟨S2,hk,M,hE,gg,gk⟩:=splitG_rel M hE hk
    refine StR.gr gg gk ?_
    clear gg gk
    generalize S2=S at hk M hE
    split at hk
    · rename_i lk hlk
      rw [bif_eq] at hk
      split at hk
      · rename_i hcond
        simp only [Bool.and_eq_true] at hcond
        obtain ⟨L,g1,g2,g3⟩:=lockS_rel M hE hlk
        have Mc:Mem (S.cut ops x.o lk) (h.cut ops x.o L) E:=⟨M.hp,M.st,M.nx,M.lt,M.ent,M.inj,M.own,M.z,M.fr,g3,M.mbl,M.noi⟩
        have hEc:Env (S.cut ops x.o lk) (h.cut ops x.o L) E:=by
          refine ⟨hE.nt,fun t => ?_⟩
          unfold SS.cut St.cut SS.tmp St.tmp
          rcases cut_get (S:=S) (h:=h) (guardSlot ops x.o++x.o.op.operands.toList) t with ⟨a,b⟩ | ⟨a,b⟩
          · simp only [a,b]; exact hE.v t
          · simp only [a,b]; exact V_any
        obtain ⟨h1,S1,E1,⟨k1,q1⟩,q2,q3,q4,q5,q6⟩:=stepS_rel hct hsp hih Mc hEc hk
        have gt:Gr S h E (S.take x.o S1) (h.take x.o h1) E1:=q4.re rfl rfl (fun _ _ h=>h) rfl rfl g2 rfl rfl rfl rfl rfl rfl rfl rfl rfl rfl rfl rfl
        have Mt:Mem (S.take x.o S1) (h.take x.o h1) E1:=by
          refine ⟨q2.hp,q2.st,q2.nx,q2.lt,q2.ent,q2.inj,q2.own,q2.z,q2.fr,fun b hb=>⟨?_,fun m e hm hmb => ?_⟩,q2.mbl,q2.noi⟩
          · exact Nat.lt_of_lt_of_le (M.lk b hb).1 gt.nx
          · obtain ⟨e0,k1,k2⟩:=gt.lkk b m e hb hm hmb
            exact (M.lk b hb).2 m e0 k1 k2
        have hEt:Env (S.take x.o S1) (h.take x.o h1) E1:=by
          refine ⟨hE.nt,fun t => ?_⟩
          have old:V E1 (S.tmp t) (h.tmp t):=(hE.v t).gr gt M Mt
          unfold SS.take St.take SS.tmp St.tmp
          cases hd:x.o.dst with
          | none=>simp only; exact old
          | some d =>
            simp only
            rw [Tr.get_set,Tr.get_set]
            by_cases ht:t=d
            · rw [if_pos ht,if_pos ht]
              exact q3.v d
            · rw [if_neg ht,if_neg ht]; exact old
        obtain ⟨h2,S2,E2,⟨k2,p1⟩,p2,p3,p4,p5,p6⟩:=itemsS_rel hct hsp hih q6 Mt hEt
        refine ⟨h2,S2,E2,⟨max k1 k2,fun k hkk => ?_⟩,p2,p3,gt.trans p4,fun t ht => ?_,p6⟩
        · show (match lockAll h x.lk with | some l0=>(bif mapLen h x.o.op then none else (match step1 cy.cx (run cy.cx k) ops (h.cut ops x.o l0) x.o with | some t=>runItems cy.cx (run cy.cx k) ops (h.take x.o t) l | none=>none)) | none=>none)=_
          rw [g1]
          simp only
          rw [okLen_rel M hE hcond.1]
          have e:step1 cy.cx (run cy.cx k) ops (h.cut ops x.o L) x.o=some h1:=q1 k (Nat.le_trans (Nat.le_max_left _ _) hkk)
          rw [e]
          exact p1 k (Nat.le_trans (Nat.le_max_right _ _) hkk)
        · rw [p5 t ht]
          unfold SS.take SS.tmp
          cases hd:x.o.dst with
          | none=>rfl
          | some d =>
            rw [hd] at hcond
            simp only
            rw [Tr.get_set,if_neg]
            rintro rfl
            have h2:(!isIn t S.kp)=true:=hcond.2
            have ht:isIn t S.kp=true:=ht
            rw [ht] at h2; cases h2
      · cases hk
    · cases hk
end
end Go.Ls
namespace Go.Ls
open Go Go.Hm
section
variable {cy:Cy}
def Goal (cy:Cy) {R:Type} (c:Code) (S:SS) (K:Ex→SS→Option R) (r:R) (h:St) (E:En):Prop := ∃ e h' S' E',(∃ k0, ∀ k,k0≤k→run cy.cx k c h=some (e,h'))∧Mem S' h' E'∧Env S' h' E'∧Gr S h E S' h' E'∧(∀ t,isIn t S.kp=true→S'.tmp t=S.tmp t)∧K e S'=some r
theorem run_of {c:Code} {h:St} {q:Ex×St} {k0:Nat} (g:∀ k,k0≤k→stepC cy.cx (run cy.cx k) c h=some q):∃ k0, ∀ k,k0≤k→run cy.cx k c h=some q:=by
  refine ⟨k0+1,fun k hk => ?_⟩
  cases k with
  | zero=>omega
  | succ k=>exact g k (by omega)
theorem loopS_eq {α β:Type} (f:α→Option (Sum α β)) (n:Nat) (x:α):loopS f n x=loopT f n x:=by
  unfold loopS
  rw [(sealed (fun (α β:Type) (f:α→Option (Sum α β)) (n:Nat)=>loopT f n)).2]
theorem loop_rel {ih:Sym} (hih:SymOk cy ih) {R:Type} {H:Tr (List Hi)} {cur:Nat} {b:Code} {S:SS} {K:Ex→SS→Option R} {r:R} {h:St} {E:En} {hh:List Hi} (M:Mem S h E) (hE:Env S h E) (hca:canAll S (hWr S hh)=true):∀ (n:Nat) (d:D (hCode hh)) (S1:SS) (h1:St) (E1:En),loopT (fun d=>match conH S hh (hWr S hh) d with
        | some Sd=>ih (Sum (D (hCode hh)) R) H cur b (Sd.lock S.nx hh (hWr S hh) S.kp) (fun e S'=>match e with
          | .norm=>inL (absH S S' hh [] [])
          | e=>inR (K e (S'.back S)))
        | none=>none) n d=some r→Mem S1 h1 E1→Env S1 h1 E1→Gr (S.lock S.nx hh (hWr S hh) S.kp) h E S1 h1 E1→(∀ t,isIn t (hTmp hh++S.kp)=true→S1.tmp t=S.tmp t)→absH S S1 hh [] []=some d →
    ∃ e h' S' E',(∃ k0, ∀ k,k0≤k→run cy.cx k (.loop b) h1=some (e,h'))∧Mem S' h' E'∧Env S' h' E'∧Gr S h E S' h' E'∧(∀ t,isIn t S.kp=true→S'.tmp t=S.tmp t)∧K e S'=some r:=by
  intro n
  induction n with
  | zero=>intro d S1 h1 E1 hk; cases hk
  | succ n ihn =>
    intro d S1 h1 E1 hk M1 hE1 g1 hkp1 hab
    have hk:bndS ((fun d=>match conH S hh (hWr S hh) d with
        | some Sd=>ih (Sum (D (hCode hh)) R) H cur b (Sd.lock S.nx hh (hWr S hh) S.kp) (fun e S'=>match e with
          | .norm=>inL (absH S S' hh [] [])
          | e=>inR (K e (S'.back S)))
        | none=>none) d) (loopT (fun d=>match conH S hh (hWr S hh) d with
        | some Sd=>ih (Sum (D (hCode hh)) R) H cur b (Sd.lock S.nx hh (hWr S hh) S.kp) (fun e S'=>match e with
          | .norm=>inL (absH S S' hh [] [])
          | e=>inR (K e (S'.back S)))
        | none=>none) n)=some r:=hk
    have core:∀ (v:Sum (D (hCode hh)) R),(match conH S hh (hWr S hh) d with
        | some Sd=>ih (Sum (D (hCode hh)) R) H cur b (Sd.lock S.nx hh (hWr S hh) S.kp) (fun e S'=>match e with
          | .norm=>inL (absH S S' hh [] [])
          | e=>inR (K e (S'.back S)))
        | none=>none)=some v → ∃ e h2 S2 E2,(∃ k0, ∀ k,k0≤k→run cy.cx k b h1=some (e,h2))∧Mem S2 h2 E2∧Env S2 h2 E2∧Gr (S.lock S.nx hh (hWr S hh) S.kp) h E S2 h2 E2∧(∀ t,isIn t (hTmp hh++S.kp)=true→S2.tmp t=S.tmp t)∧(match (generalizing:=false) e with
          | .norm=>inL (absH S S2 hh [] [])
          | e=>inR (K e (S2.back S)))=some v:=by
      intro v hv
      split at hv
      · rename_i Sd hSd
        obtain ⟨Ed,Md,hEd,gd,kd,f1,f2,f3,f4,f5⟩:=join_rel M hE M1 hE1 g1 hkp1 hab hSd
        obtain ⟨e,h2,S2,E2,q1,q2,q3,q4,q5,q6⟩:=hih _ _ _ _ _ _ _ hv h1 Ed (Md.re rfl rfl rfl rfl rfl rfl) ⟨hEd.nt,hEd.v⟩
        exact ⟨e,h2,S2,E2,q1,q2,q3,gd.trans q4,fun t ht=>(q5 t ht).trans (kd t ht),q6⟩
      · cases hv
    rcases bndS_some hk with ⟨d',hd',hk2⟩ | hd'
    · obtain ⟨e,h2,S2,E2,⟨k0,q1⟩,q2,q3,q4,q5,q6⟩:=core _ hd'
      cases e with
      | norm =>
        obtain ⟨x,hx,he⟩:=inL_some q6
        cases he
        obtain ⟨e3,h3,S3,E3,⟨k3,p1⟩,p2⟩:=ihn d' S2 h2 E2 hk2 q2 q3 q4 q5 hx
        refine ⟨e3,h3,S3,E3,run_of (k0:=max k0 k3) (fun k hkk => ?_),p2⟩
        show (match run cy.cx k b h1 with | some (.norm,s')=>run cy.cx k (.loop b) s' | r=>r)=_
        rw [q1 k (Nat.le_trans (Nat.le_max_left _ _) hkk)]
        exact p1 k (Nat.le_trans (Nat.le_max_right _ _) hkk)
      | ret=>obtain ⟨x,_,he⟩:=inR_some q6; cases he
      | exit id=>obtain ⟨x,_,he⟩:=inR_some q6; cases he
    · obtain ⟨e,h2,S2,E2,⟨k0,q1⟩,q2,q3,q4,q5,q6⟩:=core _ hd'
      have fin:∀ (hne:e ≠ .norm),inR (α:=D (hCode hh)) (K e (S2.back S))=some (.inr r) → ∃ e h' S' E',(∃ k0, ∀ k,k0≤k→run cy.cx k (.loop b) h1=some (e,h'))∧Mem S' h' E'∧Env S' h' E'∧Gr S h E S' h' E'∧(∀ t,isIn t S.kp=true→S'.tmp t=S.tmp t)∧K e S'=some r:=by
        intro hne hr
        obtain ⟨x,hx,he⟩:=inR_some hr
        cases he
        refine ⟨e,h2,S2.back S,E2,run_of (k0:=k0) (fun k hkk => ?_),q2.re rfl rfl rfl rfl rfl rfl,⟨q3.nt,q3.v⟩,unlock hca q4 rfl rfl q4.Snt q4.Slk rfl rfl rfl,fun t ht=>q5 t (isIn_iff.2 (List.mem_append_right _ (isIn_iff.1 ht))),hx⟩
        show (match run cy.cx k b h1 with | some (.norm,s')=>run cy.cx k (.loop b) s' | r=>r)=_
        rw [q1 k hkk]
        cases e with
        | norm=>exact absurd rfl hne
        | ret=>rfl
        | exit _=>rfl
      cases e with
      | norm=>obtain ⟨x,_,he⟩:=inL_some q6; cases he
      | ret=>exact fin (fun h=>by cases h) q6
      | exit id=>exact fin (fun h=>by cases h) q6
theorem exC_ok (hct:∀ f c,cy.ct.get f=some c→COk cy.cx f c) (hsp:∀ f q,cy.sp.get f=some q→SpOk cy.cx f q) {ih:Sym} (hih:SymOk cy ih):SymOk cy (exC cy ih):=by
  intro R H cur c S K r hk h E M hE
  have st:∀ (c:Code) (f:Nat→Option St) (e:Ex) (q:StR S h E (fun S'=>K e S') r f) (hf:∀ k s,f k=some s→stepC cy.cx (run cy.cx k) c h=some (e,s)),Goal cy c S K r h E:=by
    intro c f e q hf
    obtain ⟨h',S',E',⟨k0,q1⟩,q2,q3,q4,q5,q6⟩:=q
    exact ⟨e,h',S',E',run_of (k0:=k0) (fun k hkk=>hf k h' (q1 k hkk)),q2,q3,q4,q5,q6⟩
  unfold exC at hk
  split at hk
  · exact ⟨.norm,h,S,E,run_of (k0:=0) (fun k _=>rfl),M,hE,Gr.refl,fun _ _=>rfl,hk⟩
  · exact st _ _ .norm (opsS_rel hct hsp hih hk M hE) (fun k s hs=>by
      show (match runOps _ _ _ _ _ with | some s'=>some (Ex.norm,s') | none=>none)=_
      rw [hs])
  · split at hk
    · rename_i l hl
      exact st _ _ .norm (itemsS_rel hct hsp hih hk M hE) (fun k s hs=>by
        show (match planOf _ with | some l=>(match runItems _ _ _ _ l with | some s'=>some (Ex.norm,s') | none=>none) | none=>none)=_
        rw [hl]
        simp only
        rw [hs])
    · cases hk
  · rename_i a b
    obtain ⟨e,h1,S1,E1,⟨k1,q1⟩,q2,q3,q4,q5,q6⟩:=hih _ _ _ _ _ _ _ hk h E M hE
    have oth:e ≠ .norm→K e S1=some r→Goal cy (.seq a b) S K r h E:=fun hne hr=>⟨e,h1,S1,E1,run_of (k0:=k1) (fun k hkk=>by
      show (match run cy.cx k a h with | some (.norm,s')=>run cy.cx k b s' | r=>r)=_
      rw [q1 k hkk]
      cases e with
      | norm=>exact absurd rfl hne
      | ret=>rfl
      | exit _=>rfl),q2,q3,q4,q5,hr⟩
    cases e with
    | ret=>exact oth (fun h=>by cases h) q6
    | exit id=>exact oth (fun h=>by cases h) q6
    | norm =>
      obtain ⟨e2,h2,S2,E2,⟨k2,p1⟩,p2,p3,p4,p5,p6⟩:=hih _ _ _ _ _ _ _ q6 h1 E1 q2 q3
      refine ⟨e2,h2,S2,E2,run_of (k0:=max k1 k2) (fun k hkk => ?_),p2,p3,q4.trans p4,fun t ht=>(p5 t (by rw [q4.kp]; exact ht)).trans (q5 t ht),p6⟩
      show (match run cy.cx k a h with | some (.norm,s')=>run cy.cx k b s' | r=>r)=_
      rw [q1 k (Nat.le_trans (Nat.le_max_left _ _) hkk)]
      exact p1 k (Nat.le_trans (Nat.le_max_right _ _) hkk)
  · rename_i x a b
    split at hk
    · rename_i l y hx
      obtain ⟨v,g1,g2⟩:=ev_rel hE hx
      rw [V_bool] at g2
      subst g2
      rcases cndL_some hk with ⟨rfl,hk2⟩ | ⟨rfl,hk2⟩
      · obtain ⟨e,h1,S1,E1,⟨k1,q1⟩,q2⟩:=hih _ _ _ _ _ _ _ hk2 h E M hE
        refine ⟨e,h1,S1,E1,run_of (k0:=k1) (fun k hkk => ?_),q2⟩
        show (match h.ev x with | some (.bool true)=>run cy.cx k a h | some (.bool false)=>run cy.cx k b h | _=>none)=_
        rw [g1]
        exact q1 k hkk
      · obtain ⟨e,h1,S1,E1,⟨k1,q1⟩,q2⟩:=hih _ _ _ _ _ _ _ hk2 h E M hE
        refine ⟨e,h1,S1,E1,run_of (k0:=k1) (fun k hkk => ?_),q2⟩
        show (match h.ev x with | some (.bool true)=>run cy.cx k a h | some (.bool false)=>run cy.cx k b h | _=>none)=_
        rw [g1]
        exact q1 k hkk
    · cases hk
  · rename_i id b
    have blk:∀ {e:Ex} {h1:St} {k0:Nat},(∀ k,k0≤k→run cy.cx k b h=some (e,h1)) → ∀ {e2:Ex},(match (generalizing:=false) e with | .exit j=>(bif Nat.beq j id then Ex.norm else .exit j) | e=>e)=e2 → ∃ k0, ∀ k,k0≤k→run cy.cx k (.block id b) h=some (e2,h1):=by
      intro e h1 k0 q1 e2 he
      refine run_of (k0:=k0) (fun k hkk => ?_)
      show (match run cy.cx k b h with | some (.exit j,s')=>(bif Nat.beq j id then some (Ex.norm,s') else some (.exit j,s')) | r=>r)=_
      rw [q1 k hkk]
      subst he
      cases e with
      | norm=>rfl
      | ret=>rfl
      | exit j=>show (bif Nat.beq j id then some (Ex.norm,h1) else some (.exit j,h1))=some ((bif Nat.beq j id then Ex.norm else .exit j),h1); cases Nat.beq j id <;> rfl
    split at hk
    · obtain ⟨e,h1,S1,E1,⟨k1,q1⟩,q2,q3,q4,q5,q6⟩:=hih _ _ _ _ _ _ _ hk h E M hE
      cases e with
      | norm=>exact ⟨.norm,h1,S1,E1,blk q1 rfl,q2,q3,q4,q5,q6⟩
      | ret=>exact ⟨.ret,h1,S1,E1,blk q1 rfl,q2,q3,q4,q5,q6⟩
      | exit j =>
        simp only at q6
        rw [bif_eq] at q6
        split at q6
        · rename_i hj
          exact ⟨.norm,h1,S1,E1,blk q1 (by simp only; rw [hj]; rfl),q2,q3,q4,q5,q6⟩
        · rename_i hj
          have hj:Nat.beq j id=false:=by
            cases hq:Nat.beq j id with
            | false=>rfl
            | true=>exact absurd hq hj
          exact ⟨.exit j,h1,S1,E1,blk q1 (by simp only; rw [hj]; rfl),q2,q3,q4,q5,q6⟩
    · rename_i hh _
      rw [bif_eq] at hk
      split at hk
      · rename_i hca
        have Ml:Mem (S.lock S.nx hh (hWr S hh) S.kp) h E:=M.re rfl rfl rfl rfl rfl rfl
        have El:Env (S.lock S.nx hh (hWr S hh) S.kp) h E:=⟨hE.nt,hE.v⟩
        have out:∀ {e:Ex} {h1:St} {S1:SS} {E1:En} {k1:Nat},(∀ k,k1≤k→run cy.cx k b h=some (e,h1))→Mem S1 h1 E1→Env S1 h1 E1→Gr (S.lock S.nx hh (hWr S hh) S.kp) h E S1 h1 E1→(∀ t,isIn t (hTmp hh++S.kp)=true→S1.tmp t=S.tmp t)→(match (generalizing:=false) e with | .exit j=>(bif Nat.beq j id then Ex.norm else .exit j) | e=>e)=e→K e (S1.back S)=some r→Goal cy (.block id b) S K r h E:=by
          intro e h1 S1 E1 k1 q1 q2 q3 q4 q5 he hr
          exact ⟨e,h1,S1.back S,E1,blk q1 he,q2.re rfl rfl rfl rfl rfl rfl,⟨q3.nt,q3.v⟩,unlock hca q4 rfl rfl q4.Snt q4.Slk rfl rfl rfl,fun t ht=>q5 t (isIn_iff.2 (List.mem_append_right _ (isIn_iff.1 ht))),hr⟩
        have inn:∀ {e:Ex} {h1:St} {S1:SS} {E1:En} {k1:Nat} {d:D (hCode hh)},(∀ k,k1≤k→run cy.cx k b h=some (e,h1))→Mem S1 h1 E1→Env S1 h1 E1→Gr (S.lock S.nx hh (hWr S hh) S.kp) h E S1 h1 E1→(∀ t,isIn t (hTmp hh++S.kp)=true→S1.tmp t=S.tmp t)→(match (generalizing:=false) e with | .exit j=>(bif Nat.beq j id then Ex.norm else .exit j) | e=>e) = .norm→absH S S1 hh [] []=some d→(match conH S hh (hWr S hh) d with | some S2=>K .norm S2 | none=>none)=some r→Goal cy (.block id b) S K r h E:=by
          intro e h1 S1 E1 k1 d q1 q2 q3 q4 q5 he ha hr
          split at hr
          · rename_i S2 hS2
            obtain ⟨E2,p2,p3,p4,p5,f1,f2,f3,f4,f5⟩:=join_rel M hE q2 q3 q4 q5 ha hS2
            exact ⟨.norm,h1,S2,E2,blk q1 he,p2,p3,unlock hca p4 rfl rfl f1 f2 f3 f4 f5,fun t ht=>p5 t (isIn_iff.2 (List.mem_append_right _ (isIn_iff.1 ht))),hr⟩
          · cases hr
        rcases bndS_some hk with ⟨d,hd,hk2⟩ | hd
        · obtain ⟨e,h1,S1,E1,⟨k1,q1⟩,q2,q3,q4,q5,q6⟩:=hih _ _ _ _ _ _ _ hd h E Ml El
          cases e with
          | norm =>
            obtain ⟨x,hx,he⟩:=inL_some q6
            cases he
            exact inn q1 q2 q3 q4 q5 rfl hx hk2
          | ret=>obtain ⟨x,_,he⟩:=inR_some q6; cases he
          | exit j =>
            simp only at q6
            rw [bif_eq] at q6
            split at q6
            · rename_i hj
              obtain ⟨x,hx,he⟩:=inL_some q6
              cases he
              exact inn q1 q2 q3 q4 q5 (by simp only; rw [hj]; rfl) hx hk2
            · obtain ⟨x,_,he⟩:=inR_some q6; cases he
        · obtain ⟨e,h1,S1,E1,⟨k1,q1⟩,q2,q3,q4,q5,q6⟩:=hih _ _ _ _ _ _ _ hd h E Ml El
          cases e with
          | norm=>obtain ⟨x,_,he⟩:=inL_some q6; cases he
          | ret =>
            obtain ⟨x,hx,he⟩:=inR_some q6
            cases he
            exact out q1 q2 q3 q4 q5 rfl hx
          | exit j =>
            simp only at q6
            rw [bif_eq] at q6
            split at q6
            · obtain ⟨x,_,he⟩:=inL_some q6; cases he
            · rename_i hj
              have hj:Nat.beq j id=false:=by
                cases hq:Nat.beq j id with
                | false=>rfl
                | true=>exact absurd hq hj
              obtain ⟨x,hx,he⟩:=inR_some q6
              cases he
              exact out q1 q2 q3 q4 q5 (by simp only; rw [hj]; rfl) hx
      · cases hk
  · rename_i b
    split at hk
    · obtain ⟨e,h1,S1,E1,⟨k1,q1⟩,q2,q3,q4,q5,q6⟩:=hih _ _ _ _ _ _ _ hk h E M hE
      have oth:e ≠ .norm→K e S1=some r→Goal cy (.loop b) S K r h E:=fun hne hr=>⟨e,h1,S1,E1,run_of (k0:=k1) (fun k hkk=>by
        show (match run cy.cx k b h with | some (.norm,s')=>run cy.cx k (.loop b) s' | r=>r)=_
        rw [q1 k hkk]
        cases e with
        | norm=>exact absurd rfl hne
        | ret=>rfl
        | exit _=>rfl),q2,q3,q4,q5,hr⟩
      cases e with
      | ret=>exact oth (fun h=>by cases h) q6
      | exit id=>exact oth (fun h=>by cases h) q6
      | norm =>
        obtain ⟨e2,h2,S2,E2,⟨k2,p1⟩,p2,p3,p4,p5,p6⟩:=hih _ _ _ _ _ _ _ q6 h1 E1 q2 q3
        refine ⟨e2,h2,S2,E2,run_of (k0:=max k1 k2) (fun k hkk => ?_),p2,p3,q4.trans p4,fun t ht=>(p5 t (by rw [q4.kp]; exact ht)).trans (q5 t ht),p6⟩
        show (match run cy.cx k b h with | some (.norm,s')=>run cy.cx k (.loop b) s' | r=>r)=_
        rw [q1 k (Nat.le_trans (Nat.le_max_left _ _) hkk)]
        exact p1 k (Nat.le_trans (Nat.le_max_right _ _) hkk)
    · rename_i hh _
      rw [bif_eq] at hk
      split at hk
      · rename_i hca
        split at hk
        · rename_i d0 hd0
          rw [loopS_eq] at hk
          exact loop_rel hih M hE hca _ d0 (S.lock S.nx hh (hWr S hh) S.kp) h E hk (M.re rfl rfl rfl rfl rfl rfl) ⟨hE.nt,hE.v⟩ Gr.refl (fun _ _=>rfl) hd0
        · cases hk
      · cases hk
  · exact ⟨_,h,S,E,run_of (k0:=0) (fun k _=>rfl),M,hE,Gr.refl,fun _ _=>rfl,hk⟩
  · exact ⟨_,h,S,E,run_of (k0:=0) (fun k _=>rfl),M,hE,Gr.refl,fun _ _=>rfl,hk⟩
  · cases hk
theorem ex_ok (hct:∀ f c,cy.ct.get f=some c→COk cy.cx f c) (hsp:∀ f q,cy.sp.get f=some q→SpOk cy.cx f q):∀ n,SymOk cy (ex cy n):=by
  intro n
  induction n with
  | zero=>intro R H cur c S K r hk; cases hk
  | succ n ih=>exact exC_ok hct hsp ih
theorem con_ok (hct:∀ f c,cy.ct.get f=some c→COk cy.cx f c) (hsp:∀ f q,cy.sp.get f=some q→SpOk cy.cx f q) {f:FuncId} {fn:Func} (hf:cy.cx.fn.get f=some fn) (hx:cy.cx.ext.get f=none) {a r:U} {H:Tr (List Hi)} {n:Nat} {F:D a→Option (D r)} (hF:∀ x,fnS cy n a r H fn x=F x):COk cy.cx f ⟨a,r,F⟩:=by
  intro h Z args x y hfr hlk hZ ha hy
  have hy:F x=some y:=hy
  rw [← hF x] at hy
  unfold fnS at hy
  split at hy
  · rename_i b hb
    rw [bif_eq] at hy
    split at hy
    · rename_i hle
      have hv:Vs (⟨h.hp,Z,fun _=>none,fun _ _=>none,.e,0⟩:En) (mkArgs a x) args:=mkArgs_rel (E:=⟨h.hp,Z,fun _=>none,fun _ _=>none,.e,0⟩) ha
      have hle':Nat.ble args.length fn.ntmps=true:=by rw [Vs_len hv]; exact hle
      have no:∀ (m:Nat) (e:Ent),(Tr.e:Tr Ent).get m=some e→False:=fun m e hm=>by rw [Tr.get_e] at hm; cases hm
      obtain ⟨e,h1,S1,E1,⟨k1,q1⟩,q2,q3,q4,_,q6⟩:=ex_ok hct hsp n _ _ _ _ _ _ _ hy ⟨fn.ntmps,envOf 0 args .e,h.hp,h.nx,h.lk,.undef⟩ ⟨h.hp,Z,fun _=>none,fun _ _=>none,.e,0⟩ ⟨rfl,rfl,rfl,fun m e hm=>(no m e hm).elim,fun m e hm=>(no m e hm).elim,fun m _ e _ _ hm=>(no m e hm).elim,fun m e _ hm=>(no m e hm).elim,hZ,hfr,fun b hb=>⟨hlk b hb,fun m e hm=>(no m e hm).elim⟩,fun _ _ hm=>(by rcases hm with hm | ⟨_,hm⟩ <;> cases hm),fun m e hm=>(no m e hm).elim⟩ (args_env hv)
      have noOw:∀ b,¬ Ow (⟨fn.ntmps,envS 0 (mkArgs a x) .e,.e,0,[],0,[],[]⟩:SS) (⟨h.hp,Z,fun _=>none,fun _ _=>none,.e,0⟩:En) b:=fun b ⟨m,e,hm,_⟩=>no m e hm
      have key:(∀ id,e ≠ .exit id)→resS cy S1 fn.results.toList (fun l=>match rowsI S1.st l with
        | some _=>rdArgs S1.st r l
        | none=>none)=some y → ∃ l hp' nx' Z',(∃ k0, ∀ k,k0≤k→call cy.cx (run cy.cx k) f args h=some (one l,⟨h.nt,h.env,hp',nx',h.lk,h.df⟩))∧h.nx≤nx'∧(∀ b,b<h.nx→hp'.get b=h.hp.get b)∧(∀ b,nx'≤b→hp'.get b=none)∧(∀ b,Z b→Z' b)∧(∀ b,Z' b→Z b∨(h.nx≤b∧b<nx'))∧RdArgs hp' Z' r l y:=by
        intro hne hres
        obtain ⟨l,vs,w1,w2,w3⟩:=resS_rel q2 q3 hres
        split at w3
        · rename_i L hL
          have hr:=rdArgs_rel (E:=E1) (Q:=fun b=>E1.Z b∨Ow S1 E1 b) (k:=3) (fun b hb => .inl hb) (fun m e hm=>q2.ent m e (by rw [← q2.st]; exact hm)) (by rw [q2.st]; exact w3) w2 (cov_all (fun m e b hm hb => .inr ⟨m,e,by rw [← q2.st]; exact hm,hb⟩) (by rw [q2.st]; exact hL))
          refine ⟨vs,h1.hp,h1.nx,fun b=>E1.Z b∨Ow S1 E1 b,⟨k1,fun k hkk => ?_⟩,q4.nx,fun b hb=>q4.oth b hb (noOw b),q2.fr,fun b hb => .inl (q4.z b hb),fun b hb => ?_,by rw [← q2.hp]; exact hr⟩
          · unfold call
            rw [hx,hf]
            simp only
            rw [hb]
            simp only
            rw [hle',q1 k hkk]
            cases e with
            | exit id=>exact absurd rfl (hne id)
            | norm=>simp only [cond_true]; rw [w1]
            | ret=>simp only [cond_true]; rw [w1]
          · rcases hb with hb | hb
            · rcases q4.z' b hb with g | g | g
              · exact .inl g
              · exact absurd g (noOw b)
              · exact .inr ⟨g,q2.z b hb⟩
            · obtain ⟨m,e,hm,hmb⟩:=hb
              rcases q4.ow b ⟨m,e,hm,hmb⟩ with g | g
              · exact absurd g (noOw b)
              · exact .inr ⟨g,(q2.own m e b hm hmb).2⟩
        · cases w3
      cases e with
      | exit id=>cases q6
      | norm=>exact key (fun id hid=>by cases hid) q6
      | ret=>exact key (fun id hid=>by cases hid) q6
    · cases hy
  · cases hy
end
end Go.Ls
namespace Go.Hm
open Go Go.RowKit Go.Wk
theorem blk_some {s:St} {b:Nat} {x:Blk} (h:s.blk b=some x):s.hp.get b=some (.blk x):=by
  unfold St.blk at h
  split at h
  · rename_i y hy; cases h; exact hy
  · cases h
section
variable {ρ:Rn} {s s':St} {w w':World}
theorem setCells_heap {c o:Nat} {xs:Array Value} {T:TypeId} {us:List Value} (h:w.heap[c]?=some (.cells xs T (0,0))) (hl:o+us.length≤xs.size) :
    ∃ ys,(w.setCells c o us).heap[c]?=some (.cells ys T (0,0))∧ys.size=xs.size:=by
  have hb:Wk.Blk w c T xs.toList:=by unfold Wk.Blk; simpa using h
  have:=setCells_blk us o xs.toList w hb (by simpa using hl)
  refine ⟨_,this,?_⟩
  simp [patch]
  omega
theorem setCells_in {c o i:Nat} {xs:Array Value} {T:TypeId} {us:List Value} {u:Value} (h:w.heap[c]?=some (.cells xs T (0,0))) (hl:o+us.length≤xs.size) (hu:us[i]?=some u) :
    (w.setCells c o us).cell? ⟨c,o+i,none⟩=some u:=by
  have hi:=lt_get hu
  rw [World.cell?_setCells_in c us o w (fun j hj=>by rw [cells_at h,Array.getElem?_eq_getElem (by omega)]; rfl) i hi]
  rw [List.getElem?_eq_getElem hi] at hu
  exact hu
theorem setCells_out {c o i:Nat} {us:List Value} (h:i<o∨o+us.length≤i):(w.setCells c o us).cell? ⟨c,i,none⟩=w.cell? ⟨c,i,none⟩ :=
  World.cell?_setCells_out c us o w _ (fun _ _=>h)
theorem Post.write {b o:Nat} {l:List HV} {us:List Value} {r:RI} (h:RelH ρ s.hp w) (hr:ρ b=some r) (hw:s.write b o l=some s') (hl:VRs ρ l us) (h1:∀ x,x∈us→x.oneCell'=true) :
    Post ρ s w ρ s' (w.setCells r.c (r.o+o) us) ∧ ∃ xs T,w.heap[r.c]?=some (.cells xs T (0,0))∧r.o+o+us.length≤xs.size:=by
  unfold St.write at hw
  cases hx:s.blk b with
  | none=>rw [hx] at hw; cases hw
  | some x =>
    rw [hx] at hw
    simp only [bif_eq] at hw
    split at hw
    · rename_i hc
      cases hw
      simp only [Bool.and_eq_true,Nat.ble_eq] at hc
      obtain ⟨hown,_,hle⟩:=hc
      have hg:=blk_some hx
      have hB:=h.blk b x r hg hr
      obtain ⟨g1,g2,g0,g3,g4⟩:=hB
      obtain ⟨xs,T,g5,g6,g7⟩:=g4 hown
      have hlen:=VRs_len hl
      have hle':o+l.length≤x.n:=hle
      have hfit:r.o+o+us.length≤xs.size:=by omega
      obtain ⟨ys,k1,k2⟩:=setCells_heap (us:=us) g5 hfit
      have hkp:=Kp.setCells r.c us (r.o+o) w
      have hold:∀ c,c<w.heap.size→c≠r.c→(w.setCells r.c (r.o+o) us).heap[c]?=w.heap[c]?:=fun c hc hne=>hkp.block c hc (by simpa using hne)
      have hne:∀ i,i≠b→(s.hp.set b (.blk ⟨true,x.z,x.n,scatter x.c o l⟩)).get i=s.hp.get i:=fun i hi=>Tr.get_set_ne _ _ hi
      refine ⟨⟨?_,fun _ _=>rfl,KpS.of hkp (fun c hc => ?_),?_,Nat.le_refl _⟩,xs,T,g5,hfit⟩
      · refine h.step (b:=b) (fun i hi=>rfl) (Ext.refl _) hkp.size (fun i hi q hq=>by rw [← hq]; exact (hne i hi).symm) ?_ ?_ ?_ ?_
        · intro i q r' hi hq hr' hlt
          refine hold _ hlt ?_
          have hq2:s.hp.get i=some q:=by rw [← hne i hi]; exact hq
          exact fun e=>h.inj b i _ q r r' (fun x=>hi x.symm) hg hown hq2 hr hr' e.symm
        · intro y r' hy hr'
          rw [hr] at hr'; cases hr'
          simp only at hy
          rw [Tr.get_set_same] at hy
          cases hy
          refine ⟨g1,g2,Nat.lt_of_lt_of_le g0 hkp.size,fun i v hi hv => ?_,fun _=>⟨ys,T,k1,by rw [k2]; exact g6,g7⟩⟩
          simp only at hv hi
          rw [scatter_get] at hv
          split at hv
          · rename_i hin
            obtain ⟨u,h5,h6⟩:=VRs_get hl _ v hv
            refine ⟨u,?_,h6,h1 u (List.mem_of_getElem? h5)⟩
            have:=setCells_in g5 hfit h5
            rw [show r.o+i=r.o+o+(i - o) by omega]
            exact this
          · rename_i hout
            obtain ⟨u,h5,h6,h7⟩:=g3 i v hi hv
            refine ⟨u,?_,h6,h7⟩
            rw [setCells_out (by omega)]
            exact h5
        · intro es r' hy hr'
          simp only at hy
          rw [Tr.get_set_same] at hy
          cases hy
        · intro i q q' r1 r2 hi hq hq' how hr1 hr2
          rw [hr] at hr2; cases hr2
          have hq2:s.hp.get i=some q:=by rw [← hne i hi]; exact hq
          exact fun e=>h.inj b i _ q r r1 (fun x=>hi x.symm) hg hown hq2 hr hr1 e.symm
      · have:c=r.c:=by simpa using hc
        subst this
        exact ⟨b,_,r,hg,hown,hr,rfl⟩
      · intro c hc
        obtain ⟨i,q,r',q1,q2,q3,rfl⟩:=hc
        left
        by_cases hi:i=b
        · subst hi; exact ⟨i,_,r',hg,hown,q3,rfl⟩
        · exact ⟨i,q,r',by rw [← hne i hi]; exact q1,q2,q3,rfl⟩
    · cases hw
theorem Post.grow {b o n k z:Nat} {x:Blk} {r r':RI} {c':Tr HV} {new:List HV} {us:List Value} {sn:St} (h:RelH ρ s.hp w) (hg:s.hp.get b=some (.blk x)) (hown:x.own=true) (hr:ρ b=some r) (u:ρ s.nx=none)
    (hl:VRs ρ new us) (h1:∀ y,y∈us→y.oneCell'=true) (hk:new.length=k*z)
    (hc':∀ i v,i<(n+k)*z→c'.get i=some v→(i<n*z∧o+i<x.n∧x.c.get (o+i)=some v)∨(n*z≤i∧new[i - n*z]?=some v))
    (hs':sn.hp=(s.hp.del b).set s.nx (.blk ⟨true,z,(n+k)*z,c'⟩)) (hsn:sn.nx=s.nx+1)
    (hr':r'.n=(n+k)*z∧r'.z=z)
    (how:(w'=w.setCells r.c (r.o+o+n*z) us∧r'.c=r.c∧r'.o=r.o+o∧r'.tot=r.tot∧r.o+o+(n+k)*z≤r.tot) ∨
      (Kp [] w w'∧r'.c=w.heap.size∧r'.o=0 ∧ ∃ (ys:Array Value) (T:TypeId) (olds:List Value),w'.heap[r'.c]?=some (.cells ys T (0,0))∧ys.size=r'.tot∧(n+k)*z≤r'.tot∧olds.length=n*z∧(∀ (i:Nat) (y:Value),(olds++us)[i]?=some y→ys[i]?=some y) ∧ ∀ (i:Nat) (y:Value),olds[i]?=some y→w.cell? ⟨r.c,r.o+o+i,none⟩=some y)) :
    Post ρ s w (updR ρ s.nx r') sn w':=by
  have hB:=h.blk b x r hg hr
  obtain ⟨g1,g2,g0,g3,g4⟩:=hB
  obtain ⟨xs,T,g5,g6,g7⟩:=g4 hown
  have hlen:=VRs_len hl
  have hx:=updR_ext (r:=r') u
  have hnk:(n+k)*z=n*z+k*z:=Nat.add_mul _ _ _
  have hbx:b≠s.nx:=by rintro rfl; rw [hr] at u; cases u
  have hget:∀ i,i≠s.nx → ∀ q,sn.hp.get i=some q→i≠b∧s.hp.get i=some q:=fun i hi q hq=>by
    rw [hs',Tr.get_set_ne _ _ hi,Tr.get_del] at hq
    split at hq
    · cases hq
    · rename_i hib; exact ⟨hib,hq⟩
  have hsame:sn.hp.get s.nx=some (.blk ⟨true,z,(n+k)*z,c'⟩):=by rw [hs',Tr.get_set_same]
  have hcne:∀ i q r1,i≠s.nx→sn.hp.get i=some q→ρ i=some r1→r1.c≠r.c:=fun i q r1 hi hq hr1=>by
    obtain ⟨hib,hq2⟩:=hget i hi q hq
    exact fun e=>h.inj b i _ q r r1 (fun x=>hib x.symm) hg hown hq2 hr hr1 e.symm
  have fin:∀ (hsz:w.heap.size≤w'.heap.size) (hkp:KpS (fun c=>c=r.c) w w') (hc:r'.c=r.c∨r'.c=w.heap.size)
      (hblk:BlkR (updR ρ s.nx r') w' r' ⟨true,z,(n+k)*z,c'⟩),Post ρ s w (updR ρ s.nx r') sn w':=by
    intro hsz hkp hc hblk
    refine ⟨?_,?_,⟨hkp.os,hkp.tape,hkp.output,hkp.size,fun c hc hD=>hkp.block c hc (fun e=>hD ?_)⟩,?_,by omega⟩
    · refine h.step (b:=s.nx) (fun i hi=>updR_ne _ _ hi) hx hsz (fun i hi q hq=>(hget i hi q hq).2) ?_ ?_ ?_ ?_
      · exact fun i q r1 hi hq hr1 hlt=>hkp.block _ hlt (hcne i q r1 hi hq hr1)
      · intro y r1 hy hr1
        rw [hsame] at hy; cases hy
        rw [updR_same] at hr1; cases hr1
        exact hblk
      · intro es r1 hy hr1
        rw [hsame] at hy; cases hy
      · intro i q q' r1 r2 hi hq hq' how hr1 hr2
        rw [updR_same] at hr2; cases hr2
        rcases hc with hc | hc
        · rw [hc]; exact hcne i q r1 hi hq hr1
        · have:=h.at (hget i hi q hq).2 hr1
          omega
    · intro i hi
      refine updR_ne _ _ ?_
      omega
    · subst e; exact ⟨b,_,r,hg,hown,hr,rfl⟩
    · intro c hcD
      obtain ⟨i,q,r1,q1,q2,q3,rfl⟩:=hcD
      by_cases hi:i=s.nx
      · subst hi
        rw [updR_same] at q3; cases q3
        rcases hc with hc | hc
        · left; rw [hc]; exact ⟨b,_,r,hg,hown,hr,rfl⟩
        · right; omega
      · rw [updR_ne _ _ hi] at q3
        obtain ⟨hib,hq2⟩:=hget i hi q q1
        exact .inl ⟨i,q,r1,hq2,q2,q3,rfl⟩
  rcases how with ⟨rfl,k1,k2,k3,k4⟩ | ⟨hkp,k1,k2,ys,T',olds,k3,k4,k5,k6,k7,k8⟩
  · have hfit:r.o+o+n*z+us.length≤xs.size:=by omega
    have hkp:=Kp.setCells r.c us (r.o+o+n*z) w
    obtain ⟨ys,k5,k6⟩:=setCells_heap (us:=us) g5 hfit
    refine fin hkp.size (KpS.of hkp (fun c hc=>by simpa using hc)) (.inl k1) ⟨hr'.1.symm,hr'.2.symm,by rw [k1]; exact Nat.lt_of_lt_of_le g0 hkp.size,fun i v hi hv => ?_,fun _=>⟨ys,T,by rw [k1]; exact k5,by rw [k6,k3]; exact g6,by rw [k2,k3,hr'.1]; omega⟩⟩
    simp only at hi hv
    rw [k1,k2]
    rcases hc' i v hi hv with ⟨q1,q2,q3⟩ | ⟨q1,q2⟩
    · obtain ⟨y,q4,q5,q6⟩:=g3 (o+i) v q2 q3
      refine ⟨y,?_,VR.ext hx _ _ q5,q6⟩
      rw [setCells_out (by omega),Nat.add_assoc]
      exact q4
    · obtain ⟨y,q4,q5⟩:=VRs_get hl _ v q2
      refine ⟨y,?_,VR.ext hx _ _ q5,h1 y (List.mem_of_getElem? q4)⟩
      have:=setCells_in g5 hfit q4
      rw [show r.o+o+i=r.o+o+n*z+(i - n*z) by omega]
      exact this
  · refine fin hkp.size ⟨hkp.os,hkp.tape,hkp.output,hkp.size,fun c hc _=>hkp.block c hc (by simp)⟩ (.inr k1) ⟨hr'.1.symm,hr'.2.symm,lt_of_heap k3,fun i v hi hv => ?_,fun _=>⟨ys,T',k3,k4,by rw [k2,hr'.1]; omega⟩⟩
    simp only at hi hv
    rw [cells_at k3,k2,Nat.zero_add]
    rcases hc' i v hi hv with ⟨q1,q2,q3⟩ | ⟨q1,q2⟩
    · obtain ⟨y,q4,q5,q6⟩:=g3 (o+i) v q2 q3
      have hoi:i<olds.length:=by omega
      have:=k8 i _ (List.getElem?_eq_getElem hoi)
      rw [show r.o+o+i=r.o+(o+i) by omega,q4] at this
      cases this
      exact ⟨_,k7 i _ (by rw [List.getElem?_append_left hoi,List.getElem?_eq_getElem hoi]),VR.ext hx _ _ q5,q6⟩
    · obtain ⟨y,q4,q5⟩:=VRs_get hl _ v q2
      refine ⟨y,k7 i y ?_,VR.ext hx _ _ q5,h1 y (List.mem_of_getElem? q4)⟩
      rw [List.getElem?_append_right (by omega),k6]
      exact q4
end
end Go.Hm
namespace Go.Hm
open Go Go.RowKit Go.Wk
section
variable {P:Program}
theorem mkTI_ok:∀ {n t:Nat} {x:TInf},(mkTI P n).get t=some x→tinfOf P t=some x
  | 0,t,x,h=>by cases h
  | i+1,t,x,h=>by
    unfold mkTI at h
    cases hi:tinfOf P i with
    | none=>rw [hi] at h; exact mkTI_ok h
    | some y =>
      rw [hi] at h
      simp only [Tr.get_set] at h
      split at h
      · rename_i ht; rw [ht, ← h]; exact hi
      · exact mkTI_ok h
theorem mkFn_ok:∀ {l:List Func} {i:Nat} {T:Tr Func} {f:Nat} {g:Func},(mkFn l i T).get f=some g→(i≤f∧l[f - i]?=some g)∨T.get f=some g
  | [],i,T,f,g,h => .inr h
  | a::l,i,T,f,g,h=>by
    unfold mkFn at h
    rcases mkFn_ok h with ⟨h1,h2⟩ | h1
    · left
      have h1:i+1≤f:=h1
      refine ⟨by omega,?_⟩
      have:f - i=(f - (Nat.add i 1))+1:=by show f - i=f - (i+1)+1; omega
      rw [this,List.getElem?_cons_succ]; exact h2
    · rw [Tr.get_set] at h1
      split at h1
      · rename_i hf; subst hf; left; refine ⟨Nat.le_refl _,?_⟩; rw [Nat.sub_self]; exact h1
      · exact .inr h1
theorem mkFn_get {f:Nat} {g:Func} (h:(mkFn P.funcs.toList 0 .e).get f=some g):P.funcs[f]?=some g:=by
  rcases mkFn_ok h with ⟨_,h2⟩ | h1
  · simpa using h2
  · cases h1
structure Ty (P:Program) (t:Nat) (x:TInf) (i:TypeInfo):Prop where
  info:P.info? t=some i
  size:i.size=x.size
  bytes:i.bytes=x.bytes
  zero:∀ z,x.zero=some z → ∃ v,i.zero=some v∧ofV v=some z
  agg:x.agg=aggOf P t
  sh:x.sh=shOf P t
  und:∃ d,P.underlying t=some d
theorem Ty.of {t:Nat} {x:TInf} (h:tinfOf P t=some x):∃ i,Ty P t x i:=by
  unfold tinfOf at h
  split at h
  · rename_i i hi
    split at h
    · cases h
    · rename_i d hd
      cases h
      refine ⟨i,hi,rfl,rfl,fun z hz => ?_,rfl,rfl,d,hd⟩
      simp only at hz
      split at hz
      · rename_i v hv; exact ⟨v,hv,hz⟩
      · cases hz
  · cases h
theorem sh_slice {t e:Nat} (h:shOf P t = .slice e):P.underlying t=some (.slice e):=by
  unfold shOf at h; split at h <;> first | (cases h; assumption) | (split at h <;> cases h) | cases h
theorem sh_arr {t n e:Nat} (h:shOf P t = .arr n e):P.underlying t=some (.array n e):=by
  unfold shOf at h; split at h <;> first | (cases h; assumption) | (split at h <;> cases h) | cases h
theorem sh_int {t:Nat} {k:IntKind} (h:shOf P t = .int k):P.underlying t=some (.int k):=by
  unfold shOf at h; split at h <;> first | (cases h; assumption) | (split at h <;> cases h) | cases h
theorem sh_bool {t:Nat} (h:shOf P t = .bool):P.underlying t=some .bool:=by
  unfold shOf at h; split at h <;> first | (cases h; assumption) | (split at h <;> cases h) | cases h
theorem sh_str {t:Nat} (h:shOf P t = .str):P.underlying t=some .string:=by
  unfold shOf at h; split at h <;> first | (cases h; assumption) | (split at h <;> cases h) | cases h
theorem sh_map {t k e:Nat} (h:shOf P t = .map k e):P.underlying t=some (.map k e):=by
  unfold shOf at h; split at h <;> first | (cases h; assumption) | (split at h <;> cases h) | cases h
theorem sh_struct {t:Nat} {l:List (Nat×Nat)} (h:shOf P t = .struct l):∃ fs,P.underlying t=some (.struct fs)∧fs.toList.mapM (fun f=>(P.info? f.type).map fun i=>(f.offset,i.size))=some l:=by
  unfold shOf at h
  split at h <;> first | cases h | skip
  rename_i fs hfs
  split at h
  · rename_i l' hl'
    cases h
    exact ⟨fs,hfs,hl'⟩
  · cases h
theorem mapM_get {α β:Type} {f:α→Option β}:∀ {l:List α} {r:List β},l.mapM f=some r → ∀ (i:Nat) (y:β),r[i]?=some y → ∃ x,l[i]?=some x∧f x=some y
  | [],r,h,i,y,hy=>by simp at h; subst h; simp at hy
  | a::l,r,h,i,y,hy=>by
    rw [List.mapM_cons] at h
    cases ha:f a with
    | none=>simp [ha] at h
    | some b =>
      cases hl:l.mapM f with
      | none=>simp [ha,hl] at h
      | some r' =>
        simp [ha,hl] at h
        subst h
        cases i with
        | zero=>simp at hy; subst hy; exact ⟨a,rfl,ha⟩
        | succ i=>simp at hy; obtain ⟨x,h1,h2⟩:=mapM_get hl i y hy; exact ⟨x,by simpa using h1,h2⟩
section
variable {t:Nat} {x:TInf} {i:TypeInfo} (T:Ty P t x i)
theorem Ty.sizeOf (T:Ty P t x i) (w:World):(Go.sizeOf t).run P w = .ok x.size w:=by
  simp [Go.sizeOf,typeInfo,T.info,T.size]
theorem Ty.isAgg (T:Ty P t x i) (w:World):(Go.isAgg t).run P w = .ok x.agg w:=by
  obtain ⟨d,hd⟩:=T.und
  rw [T.agg]
  unfold aggOf
  rw [hd]
  cases d <;> simp [Go.isAgg,run_underlying hd]
theorem Ty.zeroV (T:Ty P t x i) {z:HV} (hz:x.zero=some z):∃ v,ofV v=some z ∧ ∀ w,(zeroValue t).run P w = .ok v w:=by
  obtain ⟨v,h1,h2⟩:=T.zero z hz
  exact ⟨v,h2,fun w=>by simp [zeroValue,typeInfo,T.info,h1]⟩
end
def EnvR (ρ:Rn) (n:Nat) (s:St) (F:Env):Prop:=s.nt=n ∧ ∀ t,VR ρ (s.tmp t) (ev n F (.tmp t))
section
variable {ρ:Rn} {n:Nat} {s:St} {F:Env} {w:World}
theorem ev_rel (h:EnvR ρ n s F) {x:Operand} {v:HV} (hx:s.ev x=some v):VR ρ v (ev n F x):=by
  cases x with
  | tmp t=>cases hx; exact h.2 t
  | const c=>exact ofV_rel hx
  | func f=>cases hx; unfold VR; exact ⟨[],rfl,by unfold VRs; rfl⟩
  | global g=>cases hx
theorem evs_rel (h:EnvR ρ n s F):∀ {xs:List Operand} {l:List HV},s.evs xs=some l→VRs ρ l (xs.map (ev n F))
  | [],l,hl=>by cases hl; unfold VRs; rfl
  | x::xs,l,hl=>by
    unfold St.evs at hl
    cases hx:s.ev x with
    | none=>rw [hx] at hl; cases hl
    | some v =>
      rw [hx] at hl
      cases hxs:s.evs xs with
      | none=>rw [hxs] at hl; cases hl
      | some l' =>
        rw [hxs] at hl
        cases hl
        unfold VRs
        exact ⟨_,_,rfl,ev_rel h hx,evs_rel h hxs⟩
def OpOk (P:Program) (n:Nat) (F:Env) (ρ:Rn) (s:St) (w:World) (o:Op):Rs→Prop
  | .val v s'=>Undef ρ s.nx s'.nx → ∃ u w' ρ',Val P n F w o u w'∧VR ρ' v u∧Post ρ s w ρ' s' w'∧s'.nt=s.nt∧s'.env=s.env∧s'.lk=s.lk
  | .act s' => ∃ w',Acts P n F w o w'∧Post ρ s w ρ s' w'∧s'.nt=s.nt∧s'.env=s.env∧s'.lk=s.lk∧s'.nx=s.nx
  | .call f args => ∃ us:List Value,VRs ρ args us ∧ ∀ (d:Option Nat) (t:Nat) (p:String) (af:Array Edge) (g:Option (Nat×Bool)),(execOp (ev n F) ⟨d,o,t,p,af,g⟩).run P w=(callFunc f us.toArray).run P w
theorem Post.refl (h:RelH ρ s.hp w):Post ρ s w ρ s w:=⟨h,fun _ _=>rfl,KpS.refl _ _,fun _ h => .inl h,Nat.le_refl _⟩
theorem OpOk.pure {o:Op} {v:HV} {u:Value} (h:RelH ρ s.hp w) (hv:Val P n F w o u w) (hr:VR ρ v u):OpOk P n F ρ s w o (.val v s) :=
  fun _=>⟨u,w,ρ,hv,hr,Post.refl h,rfl,rfl,rfl⟩
end
end
end Go.Hm
namespace Go.Hm
open Go Go.RowKit Go.Wk
theorem wrapI_eq (k:IntKind) (n:Int):wrapI k n=k.wrap n:=by
  unfold wrapI
  rw [bif_eq]
  split
  · rename_i h
    cases k <;> simp only [intOk,Bool.and_eq_true,decide_eq_true_eq,Bool.false_eq_true] at h
    case i64=>rw [IntKind.wrap_i64]; omega
    all_goals
      unfold IntKind.wrap
      simp only [IntKind.bits,IntKind.signed,Bool.false_and,Bool.false_eq_true,if_false]
      omega
  · rfl
section
variable {P:Program} {n:Nat} {F:Env} {ρ:Rn} {s:St} {w:World}
theorem arith_val {op:BinOp} {k:IntKind} {a b:Int} {v:HV} {t t2:TypeId} {x y:Operand} (h:arith op k a b=some v) (hx:ev n F x = .int k a) (hy:ev n F y = .int k b) :
    ∃ u,Val P n F w (.binOp op t x y t2) u w∧VR ρ v u:=by
  cases op <;> simp only [arith,bif_eq] at h
  case quo =>
    split at h
    · cases h
    · rename_i hb
      have hb:¬ b=0:=by simpa using hb
      cases h
      refine ⟨_,⟨fun d t' p af g => ?_⟩,by unfold VR; rfl⟩
      simp [execOp,hx,hy,go_sem,hb,wrapI_eq]
  case rem =>
    split at h
    · cases h
    · rename_i hb
      have hb:¬ b=0:=by simpa using hb
      cases h
      refine ⟨_,⟨fun d t' p af g => ?_⟩,by unfold VR; rfl⟩
      simp [execOp,hx,hy,go_sem,hb]
  case shl=>cases h
  case shr=>cases h
  case eql =>
    cases h
    refine ⟨_,Val_eql hx hy,by unfold VR; rfl⟩
  case neq =>
    cases h
    refine ⟨_,Val_neq hx hy,by unfold VR; rfl⟩
  case lss=>cases h; exact ⟨_,Val_lss hx hy,by unfold VR; rfl⟩
  case leq=>cases h; exact ⟨_,Val_leq hx hy,by unfold VR; rfl⟩
  case gtr=>cases h; exact ⟨_,Val_gtr hx hy,by unfold VR; rfl⟩
  case geq=>cases h; exact ⟨_,Val_geq hx hy,by unfold VR; rfl⟩
  all_goals
    cases h
    refine ⟨_,⟨fun d t' p af g => ?_⟩,by unfold VR; rfl⟩
    simp [execOp,hx,hy,go_sem,wrapI_eq]
    try rfl
theorem shift_val {left:Bool} {k k':IntKind} {a b:Int} {v:HV} {t t2:TypeId} {x y:Operand} (h:shift left k a b=some v) (hx:ev n F x = .int k a) (hy:ev n F y = .int k' b) :
    ∃ u,Val P n F w (.binOp (bif left then .shl else .shr) t x y t2) u w∧VR ρ v u:=by
  cases b with
  | negSucc m=>cases h
  | ofNat m =>
    have hn:¬ (Int.ofNat m<0):=by simp
    have hm:(Int.ofNat m).toNat=m:=rfl
    have h2:Int.ofNat (Nat.pow 2 (Nat.min m k.bits))=(2:Int) ^ (min m k.bits):=by
      show ((2 ^ (min m k.bits):Nat):Int)=_
      rw [two_pow_nat]
    unfold shift at h
    cases h
    cases left
    · refine ⟨.int k (a.fdiv (2 ^ (min m k.bits))),⟨fun d t' p af g => ?_⟩,by unfold VR; simp only [cond_false,h2]⟩
      have hb:(binOp .shr t (.int k a) (.int k' (Int.ofNat m))).run P w = .ok (.int k (a.fdiv (2 ^ (min m k.bits)))) w:=by
        rw [binOp_shr]
        simp only [Op.shift,hn,if_false,hm]
        rfl
      simp only [cond_false,execOp,hx,hy,Sem.run_bind,eqGuard_shr,Sem.run_pure,Result.andThen_ok,hb]
    · refine ⟨.int k (k.wrap (a*2 ^ (min m k.bits))),⟨fun d t' p af g => ?_⟩,by unfold VR; simp only [cond_true,h2,wrapI_eq]; rfl⟩
      have hb:(binOp .shl t (.int k a) (.int k' (Int.ofNat m))).run P w = .ok (.int k (k.wrap (a*2 ^ (min m k.bits)))) w:=by
        rw [binOp_shl]
        simp only [Op.shift,hn,if_false,hm]
        rfl
      simp only [cond_true,execOp,hx,hy,Sem.run_bind,eqGuard_shl,Sem.run_pure,Result.andThen_ok,hb]
def sameV:Value→Value→Option Bool
  | .int k a,.int k' b=>if k=k' then some (decide (a=b)) else none
  | _,_=>none
def sameVs:List Value→List Value→Option Bool
  | [],[]=>some true
  | a::axs,b::bs=>match sameV a b with
    | some true=>sameVs axs bs
    | r=>r
  | _,_=>none
theorem sameC_rel {a b:HV} {u v:Value} {r:Bool} (ha:VR ρ a u) (hb:VR ρ b v) (h:sameC a b=some r):sameV u v=some r:=by
  unfold sameC at h
  split at h
  · unfold VR at ha hb
    subst ha hb
    rw [bif_eq] at h
    split at h
    · rename_i hk
      have hk:=of_decide_eq_true hk
      cases h
      simp [sameV,hk]
    · cases h
  · cases h
theorem sames_rel:∀ {a b:List HV} {u v:List Value} {r:Bool},VRs ρ a u→VRs ρ b v→sames a b=some r→sameVs u v=some r
  | [],[],u,v,r,ha,hb,h=>by unfold VRs at ha hb; subst ha hb; exact h
  | [],_::_,u,v,r,ha,hb,h=>by cases h
  | _::_,[],u,v,r,ha,hb,h=>by cases h
  | a::axs,b::bs,u,v,r,ha,hb,h=>by
    unfold VRs at ha hb
    obtain ⟨u1,us,rfl,h1,h2⟩:=ha
    obtain ⟨v1,vs,rfl,h3,h4⟩:=hb
    unfold sames at h
    unfold sameVs
    cases hs:sameC a b with
    | none=>rw [hs] at h; cases h
    | some q =>
      rw [hs] at h
      rw [sameC_rel h1 h3 hs]
      cases q with
      | true=>exact sames_rel h2 h4 h
      | false=>exact h
structure EqOk (P:Program) (t m:Nat):Prop where
  guard:P.eqGuardType P.depth t=false
  eq:∀ (us vs:List Value) (r:Bool) (w:World),us.length=m→vs.length=m→sameVs us vs=some r→(Op.equal t (.agg us.toArray) (.agg vs.toArray)).run P w = .ok r w
def ExtOk (P:Program) (f q:Nat):Prop := ∀ (args:List HV) (s s':St) (v:HV) (ρ:Rn) (w:World) (us:List Value),outer q args s=some (v,s')→RelH ρ s.hp w→Undef ρ s.nx s'.nx→VRs ρ args us →
  (∃ u w' ρ',(callFunc f us.toArray).run P w = .ok (.value u) w'∧VR ρ' v u∧Post ρ s w ρ' s' w')∨((callFunc f us.toArray).run P w = .ok (.enter f us.toArray) w∧FnC P f us.toArray w (fun u w' => ∃ ρ',VR ρ' v u∧Post ρ s w ρ' s' w'))
structure CxOk (P:Program) (cx:Cx):Prop where
  ti:∀ t x,cx.ti.get t=some x→tinfOf P t=some x
  fn:∀ f g,cx.fn.get f=some g→P.funcs[f]?=some g
  nm : ∀ f g, cx.fn.get f = some g → (g.name == "runtime.NumGoroutine") = false
  ext:∀ f q,cx.ext.get f=some q→ExtOk P f q
  eqs:∀ t m,cx.eqs.get t=some m→EqOk P t m
  mix:P.follows .mixedOrders=true
variable {cx:Cx}
theorem CxOk.ty (h:CxOk P cx) {t:Nat} {x:TInf} (hx:cx.ti.get t=some x):∃ i,Ty P t x i:=Ty.of (h.ti t x hx)
theorem CxOk.sizeOf (h:CxOk P cx) {t z:Nat} (hz:cx.size t=some z) (w:World):(Go.sizeOf t).run P w = .ok z w:=by
  unfold Cx.size at hz
  cases hx:cx.ti.get t with
  | none=>rw [hx] at hz; cases hz
  | some x =>
    rw [hx] at hz
    cases hz
    obtain ⟨i,T⟩:=h.ty hx
    exact T.sizeOf w
theorem eqOp_some {op:BinOp} {b:Bool} {v:HV} (h:eqOp op b=some v):(op = .eql∧v = .bool b)∨(op = .neq∧v = .bool (!b)):=by
  unfold eqOp at h
  split at h <;> cases h
  · exact .inl ⟨rfl,rfl⟩
  · exact .inr ⟨rfl,rfl⟩
theorem Val_eqR {op:BinOp} {r:Bool} {v:HV} {t t2:TypeId} {x y:Operand} {a b:Value} (h:eqOp op r=some v) (hx:ev n F x=a) (hy:ev n F y=b)
    (hg:∀ op w,(eqGuard op t x y a b).run P w = .ok () w) (he:∀ w,(binOp .eql t a b).run P w = .ok (.bool r) w) (he2:∀ w,(binOp .neq t a b).run P w = .ok (.bool (!r)) w):∃ u,Val P n F w (.binOp op t x y t2) u w∧VR ρ v u:=by
  rcases eqOp_some h with ⟨rfl,rfl⟩ | ⟨rfl,rfl⟩
  · refine ⟨.bool r,⟨fun d t' p af g => ?_⟩,by unfold VR; rfl⟩
    simp only [execOp,hx,hy,Sem.run_bind,hg,Result.andThen_ok,he,Sem.run_pure]
  · refine ⟨.bool (!r),⟨fun d t' p af g => ?_⟩,by unfold VR; rfl⟩
    simp only [execOp,hx,hy,Sem.run_bind,hg,Result.andThen_ok,he2,Sem.run_pure]
theorem binop_val (hc:CxOk P cx) {op:BinOp} {a b v:HV} {t t2:TypeId} {x y:Operand} (h:binop cx op t a b=some v) (hx:VR ρ a (ev n F x)) (hy:VR ρ b (ev n F y)) :
    ∃ u,Val P n F w (.binOp op t x y t2) u w∧VR ρ v u:=by
  unfold binop at h
  split at h
  ·
    unfold VR at hx hy
    split at h
    · exact shift_val (left:=true) h hx hy
    · exact shift_val (left:=false) h hx hy
    · rw [bif_eq] at h
      split at h
      · rename_i hk
        have hk:=of_decide_eq_true hk
        subst hk
        exact arith_val h hx hy
      · cases h
  ·
    rename_i sa sb
    unfold VR at hx hy
    split at h
    · rw [bif_eq] at h
      split at h
      · rename_i hle
        simp only [Nat.ble_eq] at hle
        have hle:sa.size+sb.size≤1000000000:=hle
        cases h
        refine ⟨.string (sa++sb),⟨fun d t' p af g => ?_⟩,by unfold VR; rfl⟩
        have:¬ (9223372036854775807<((sa.size:Int)+(sb.size:Int))):=by omega
        simp [execOp,hx,hy,eqGuard,binOp,Op.stringOp,IntKind.max,IntKind.signed,IntKind.bits,this]
      · cases h
    · refine Val_eqR h hx hy (fun op w => ?_) (fun w => ?_) (fun w => ?_)
      · unfold eqGuard; split <;> simp
      · simp [binOp,Op.stringOp]
      · simp [binOp,Op.stringOp]
  ·
    rename_i ba bb
    unfold VR at hx hy
    cases ht:cx.ti.get t with
    | none=>rw [ht] at h; cases h
    | some z =>
      rw [ht] at h
      simp only at h
      obtain ⟨i,T⟩:=hc.ty ht
      split at h
      · rename_i hs
        have hu:=sh_bool (T.sh.symm.trans hs)
        have he:∀ w,(Op.equal t (.bool ba) (.bool bb)).run P w = .ok (ba == bb) w:=fun w=>by
          unfold Op.equal Op.maxDepth Op.equalIn
          simp only [Sem.run_bind,run_underlying hu,Result.andThen_ok]
          rfl
        refine Val_eqR h hx hy (fun op w => ?_) (fun w => ?_) (fun w => ?_)
        · unfold eqGuard; split <;> simp
        · simp only [binOp,Sem.run_bind,he,Result.andThen_ok,Sem.run_pure]
        · simp only [binOp,Sem.run_bind,he,Result.andThen_ok,Sem.run_pure]
      · cases h
  ·
    unfold VR at hx hy
    obtain ⟨us,hx,h1,_⟩:=hx
    obtain ⟨vs,hy,h2,_⟩:=hy
    cases ht:cx.eqs.get t with
    | none=>rw [ht] at h; cases h
    | some m =>
      rw [ht] at h
      simp only [bif_eq] at h
      split at h
      · rename_i hm
        simp only [Bool.and_eq_true] at hm
        split at h
        · rename_i r hr
          have hE:=hc.eqs t m ht
          have he:∀ w,(Op.equal t (.agg us.toArray) (.agg vs.toArray)).run P w = .ok r w:=fun w=>hE.eq us vs r w (by rw [VRs_len h1]; exact Nat.eq_of_beq_eq_true hm.1) (by rw [VRs_len h2]; exact Nat.eq_of_beq_eq_true hm.2) (sames_rel h1 h2 hr)
          refine Val_eqR h hx hy (fun op w => ?_) (fun w => ?_) (fun w => ?_)
          · unfold eqGuard; split <;> simp [hE.guard]
          · simp only [binOp,Sem.run_bind,he,Result.andThen_ok,Sem.run_pure]
          · simp only [binOp,Sem.run_bind,he,Result.andThen_ok,Sem.run_pure]
        · cases h
      · cases h
  ·
    unfold VR at hy
    cases ht:cx.ti.get t with
    | none=>rw [ht] at h; cases h
    | some z =>
      rw [ht] at h
      simp only at h
      obtain ⟨i,T⟩:=hc.ty ht
      have key:∀ {e:Nat} {r:Bool} {q:Option Addr} {m c:Nat},z.sh = .slice e→ev n F x = .slice q m c→q.isNone=r→eqOp op r=some v → ∃ u,Val P n F w (.binOp op t x y t2) u w∧VR ρ v u:=by
        intro e r q m c hs hx hr h
        have hu:=sh_slice (T.sh.symm.trans hs)
        have he:∀ w,(Op.equal t (.slice q m c) (.slice none 0 0)).run P w = .ok r w:=fun w=>by
          rw [← hr]
          unfold Op.equal Op.maxDepth Op.equalIn
          simp only [Sem.run_bind,run_underlying hu,Result.andThen_ok]
          cases q <;> rfl
        refine Val_eqR h hx hy (fun op w => ?_) (fun w => ?_) (fun w => ?_)
        · unfold eqGuard; split <;> simp
        · simp only [binOp,Sem.run_bind,he,Result.andThen_ok,Sem.run_pure]
        · simp only [binOp,Sem.run_bind,he,Result.andThen_ok,Sem.run_pure]
      split at h
      · rename_i hs; unfold VR at hx; exact key hs hx rfl h
      · rename_i hs; unfold VR at hx; obtain ⟨r,cap,_,hx,_⟩:=hx; exact key hs hx rfl h
      · rename_i hs; unfold VR at hx; obtain ⟨r,cap,_,hx,_⟩:=hx; exact key hs hx rfl h
      · rename_i hs; unfold VR at hx; obtain ⟨a,hx⟩:=hx; exact key hs hx rfl h
      · rename_i hs; unfold VR at hx; obtain ⟨a,c,hx,_⟩:=hx; exact key hs hx rfl h
      · cases h
  · cases h
end
end Go.Hm
namespace Go.Hm
open Go Go.RowKit Go.Wk
section
variable {P:Program} {n:Nat} {F:Env} {ρ:Rn} {s:St} {w:World} {cx:Cx}
theorem gather_rel {r:RI} {x:Blk} (h:BlkR ρ w r x):∀ {k o:Nat} {l:List HV},gather x o k=some l → ∃ us,VRs ρ l us∧Cells w r.c (r.o+o) us∧(∀ u,u∈us→u.oneCell'=true)∧us.length=k
  | 0,o,l,hl=>by cases hl; exact ⟨[],by unfold VRs; rfl,(fun j v hv=>by simp at hv),(fun u hu=>by cases hu),rfl⟩
  | k+1,o,l,hl=>by
    unfold gather at hl
    cases hv:x.get o with
    | none=>rw [hv] at hl; cases hl
    | some v =>
      rw [hv] at hl
      cases hl2:gather x (Nat.add o 1) k with
      | none=>rw [hl2] at hl; cases hl
      | some l' =>
        rw [hl2] at hl
        cases hl
        obtain ⟨us,h1,h2,h3,h4⟩:=gather_rel h hl2
        rw [Blk.get_eq] at hv
        split at hv
        · rename_i ho
          obtain ⟨u,h5,h6,h7⟩:=h.2.2.2.1 o v ho hv
          refine ⟨u::us,by unfold VRs; exact ⟨u,us,rfl,h6,h1⟩,fun j z hz => ?_,fun z hz => ?_,by simp [h4]⟩
          · cases j with
            | zero=>simp at hz; subst hz; exact h5
            | succ j =>
              simp at hz
              have:=h2 j z hz
              rw [show r.o+o+(j+1)=r.o+Nat.add o 1+j by show _=r.o+(o+1)+j; omega]
              exact this
          · rcases List.mem_cons.1 hz with rfl | hz
            · exact h7
            · exact h3 z hz
        · cases hv
theorem blk_rel (hH:RelH ρ s.hp w) {b:Nat} {x:Blk} {r:RI} (h:s.blk b=some x) (hr:ρ b=some r):BlkR ρ w r x:=hH.blk b x r (blk_some h) hr
theorem cellsOf_rel (hH:RelH ρ s.hp w) {z m:Nat} {v:HV} {u:Value} {l:List HV} (h:cellsOf s z v=some l) (hm:lenOf v=some m) (hv:VR ρ v u) :
    ∃ us a c,u = .slice a m c∧m≤c∧c≤maxLen∧m≤140737488355328∧VRs ρ l us∧us.length=m*z∧(∀ y,y∈us→y.oneCell'=true)∧((m=0∧us=[]) ∨ ∃ b o,a=some ⟨b,o,none⟩∧Cells w b o us):=by
  unfold cellsOf at h
  split at h
  · cases h; cases hm; unfold VR at hv
    exact ⟨[],none,0,hv,Nat.le_refl _,Nat.zero_le _,Nat.zero_le _,by unfold VRs; rfl,by simp,(fun _ h=>by cases h),.inl ⟨rfl,rfl⟩⟩
  · cases h; cases hm; unfold VR at hv
    obtain ⟨a,hv⟩:=hv
    exact ⟨[],some a,0,hv,Nat.le_refl _,Nat.zero_le _,Nat.zero_le _,by unfold VRs; rfl,by simp,(fun _ h=>by cases h),.inl ⟨rfl,rfl⟩⟩
  · cases h; cases hm; unfold VR at hv
    obtain ⟨a,c,hv,hc⟩:=hv
    exact ⟨[],some a,c,hv,Nat.zero_le _,hc,Nat.zero_le _,by unfold VRs; rfl,by simp,(fun _ h=>by cases h),.inl ⟨rfl,rfl⟩⟩
  · cases hm
    unfold VR at hv
    obtain ⟨r,cap,h1,h2,h3,h4,h5,h6,h7⟩:=hv
    split at h
    · rename_i x hx
      obtain ⟨us,g1,g2,g3,g4⟩:=gather_rel (blk_rel hH hx h1) h
      exact ⟨us,_,cap,h2,h3,h6,h7,g1,g4,g3,.inr ⟨_,_,rfl,g2⟩⟩
    · cases h
  · cases hm
    unfold VR at hv
    obtain ⟨r,cap,h1,h2,h3,h4,h5⟩:=hv
    split at h
    · rename_i x hx
      obtain ⟨us,g1,g2,g3,g4⟩:=gather_rel (blk_rel hH hx h1) h
      exact ⟨us,_,cap,h2,h3,h4,h5,g1,g4,g3,.inr ⟨_,_,rfl,g2⟩⟩
    · cases h
  · cases h
theorem natOf_rel {v:HV} {u:Value} {m:Nat} (h:natOf v=some m) (hv:VR ρ v u):∃ k,u = .int k (m:Int):=by
  unfold natOf at h
  split at h
  · cases h; unfold VR at hv; exact ⟨_,hv⟩
  · cases h
theorem load_ok (hc:CxOk P cx) (hH:RelH ρ s.hp w) {t:Nat} {a:HV} {x:Operand} {r:Rs} (h:doLoad cx s t a=some r) (hx:VR ρ a (ev n F x)):∃ v,r = .val v s ∧ ∃ u,Val P n F w (.load t x) u w∧VR ρ v u:=by
  unfold doLoad at h
  split at h
  · rename_i b o
    unfold VR at hx
    obtain ⟨q,hq,hx⟩:=hx
    split at h
    · rename_i y hy
      obtain ⟨i,T⟩:=hc.ty hy
      split at h
      · rename_i z hz
        have hB:=blk_rel hH hz hq
        rw [bif_eq] at h
        split at h
        · rename_i ha
          split at h
          · rename_i l hl
            cases h
            obtain ⟨us,g1,g2,g3,g4⟩:=gather_rel hB hl
            refine ⟨_,rfl,.agg us.toArray,Val_loadA (fun w=>by rw [T.isAgg,ha]) (fun w=>by rw [T.sizeOf,g4]) hx g2,?_⟩
            unfold VR
            exact ⟨us,rfl,g1,g3⟩
          · cases h
        · rename_i ha
          split at h
          · rename_i v hv
            cases h
            rw [Blk.get_eq] at hv
            split at hv
            · rename_i ho
              obtain ⟨u,h5,h6,h7⟩:=hB.2.2.2.1 o v ho hv
              refine ⟨_,rfl,u,?_,h6⟩
              have ha:y.agg=false:=by simpa using ha
              refine Val_load1 (b:=q.c) (o:=q.o+o) (j:=0) (cs:=[u]) (fun w=>by rw [T.isAgg,ha]) hx (fun j z hz => ?_) rfl
              cases j with
              | zero=>simp at hz; subst hz; exact h5
              | succ j=>simp at hz
            · cases hv
          · cases h
      · cases h
    · cases h
  · cases h
theorem field_ok (hc:CxOk P cx) {t i:Nat} {a:HV} {x:Operand} {r:Rs} (h:doField cx s t a i=some r) (hx:VR ρ a (ev n F x)):∃ v,r = .val v s ∧ ∃ u,Val P n F w (.fieldAddr t x i) u w∧VR ρ v u:=by
  unfold doField at h
  split at h
  · rename_i b o
    unfold VR at hx
    obtain ⟨q,hq,hx⟩:=hx
    split at h
    · rename_i y hy
      obtain ⟨j,T⟩:=hc.ty hy
      split at h
      · rename_i offs hs
        obtain ⟨fs,hu,hfs⟩:=sh_struct (T.sh.symm.trans hs)
        split at h
        · rename_i p m hp
          cases h
          obtain ⟨f,hf,hp3⟩:=mapM_get hfs i _ hp
          cases hi:P.info? f.type with
          | none=>simp [hi] at hp3
          | some ti =>
            simp only [hi,Option.map_some,Option.some.injEq,Prod.mk.injEq] at hp3
            obtain ⟨rfl,hp4⟩:=hp3
            refine ⟨_,rfl,_,Val_field (z:=m) hu (by simpa using hf) (fun w=>by simp [Go.sizeOf,typeInfo,hi,hp4]) hx,?_⟩
            unfold VR
            exact ⟨q,hq,by rw [Nat.add_assoc]; rfl⟩
        · cases h
      · cases h
    · cases h
  · cases h
theorem indexA_ok (hc:CxOk P cx) {t:Nat} {a i:HV} {x y:Operand} {r:Rs} (h:doIndexA cx s t a i=some r) (hx:VR ρ a (ev n F x)) (hy:VR ρ i (ev n F y)):∃ v,r = .val v s ∧ ∃ u,Val P n F w (.indexAddr t x y) u w∧VR ρ v u:=by
  unfold doIndexA at h
  split at h
  · rename_i z hz
    obtain ⟨ti,T⟩:=hc.ty hz
    split at h
    · rename_i j hj
      obtain ⟨k,hk⟩:=natOf_rel hj hy
      split at h
      · rename_i m e b o hs
        have hu:=sh_arr (T.sh.symm.trans hs)
        unfold VR at hx
        obtain ⟨q,hq,hx⟩:=hx
        split at h
        · rename_i q2 hq2
          rw [bif_eq] at h
          split at h
          · rename_i hlt
            cases h
            refine ⟨_,rfl,_,Val_idxA hu (hc.sizeOf hq2) hx hk (blt_iff.1 hlt),?_⟩
            unfold VR
            exact ⟨q,hq,by rw [Nat.add_assoc]; rfl⟩
          · cases h
        · cases h
      · rename_i e b o m hs
        have hu:=sh_slice (T.sh.symm.trans hs)
        unfold VR at hx
        obtain ⟨q,cap,hq,hx,_⟩:=hx
        split at h
        · rename_i q2 hq2
          rw [bif_eq] at h
          split at h
          · rename_i hlt
            cases h
            refine ⟨_,rfl,_,Val_idxS hu (hc.sizeOf hq2) hx hk (blt_iff.1 hlt),?_⟩
            unfold VR
            exact ⟨q,hq,by rw [Nat.add_assoc]; rfl⟩
          · cases h
        · cases h
      · rename_i e b o m hs
        have hu:=sh_slice (T.sh.symm.trans hs)
        unfold VR at hx
        obtain ⟨q,cap,hq,hx,_⟩:=hx
        split at h
        · rename_i q2 hq2
          rw [bif_eq] at h
          split at h
          · rename_i hlt
            cases h
            refine ⟨_,rfl,_,Val_idxS hu (hc.sizeOf hq2) hx hk (blt_iff.1 hlt),?_⟩
            unfold VR
            exact ⟨q,hq,by rw [Nat.add_assoc]; rfl⟩
          · cases h
        · cases h
      · cases h
    · cases h
  · cases h
end
end Go.Hm
