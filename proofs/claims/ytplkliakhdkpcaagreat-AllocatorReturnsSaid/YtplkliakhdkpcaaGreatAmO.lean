/-
  Arrays within variables, slices cut, copy.
  Conditions: none: plain theorems over whatever program P.
-/
import Derived.Test.YtplkliakhdkpcaaGreatAmN
set_option linter.unusedVariables false
set_option linter.unusedSimpArgs false
namespace Go.Am
open Go Go.RowKit Go.Wk
def zCd {α:Type} (l l2:List α):List α:=l2.take l.length++l.drop l2.length
def zKK {α:Type} (l:List α) (lo hi:Int):List α:=(l.take hi.toNat).drop lo.toNat
def zNc (lo hi:Int) (n:Nat):Bool:=decide (0≤lo)&&decide (lo≤hi)&&decide (hi≤(n:Int))
theorem zNS {lo hi:Int} {n:Nat} (h:zNc lo hi n=true):0≤lo∧lo≤hi∧hi≤(n:Int)∧lo.toNat≤hi.toNat∧hi.toNat≤n:=by
  simp [zNc] at h; omega
section
variable {P:Program} {n m:Nat} {e e':zCH} {H G:zAQ} {x y z:Operand} {k j o:Nat} {t T:TypeId} {ops:Array Oper} {rest:List Oper} {kk:zCH→zAQ→Prop} {d tt:Nat} {p:String} {af:Array Edge}
variable {α:Type} {g:α→AV} {d0:α} {l:List α} {hd tl cs:List AV} {N i:Nat}
theorem zAp {a:AV} (ha:∀ w,(isAgg t).run P w = .ok false w) (hx:aev n e x = .ptr k o) (hk:H[k]?=some (.box T cs)) (hcs:cs=hd++(cA N g d0 l++tl)) (ho:o=hd.length+i) (hi:i<N) (hg:g (l.getD i d0)=a) (hE:isE a=true):zt P n e H (.load t x) a:=by
  subst hg
  exact zN ha hx hk (by rw [hcs,ho]; exact zQH hi hd tl) hE
theorem zM4 {a:AV} (ha:∀ w,(isAgg t).run P w = .ok false w) (hx:aev n e x = .ptr k o) (hk:H[k]?=some (.box T (cA N g d0 l))) (ho:o=0+i) (hi:i<N) (hg:g (l.getD i d0)=a) (hE:isE a=true):zt P n e H (.load t x) a:=by
  subst hg
  exact zN ha hx hk (by rw [ho,Nat.zero_add]; exact zOK hi) hE
theorem zMY {v:α} {a:AV} (hz:∀ w,(sizeOf t).run P w = .ok 1 w) (hx:aev n e x = .ptr k o) (hk:H[k]?=some (.box T (cA N g d0 l))) (ho:o=0+i) (hi:i<N) (hy:aev n e y=a) (hg:g v=a) (hc:zQO H a=true) :
    zPE P n e H (.store t x y) (H.set k (.box T (cA N g d0 (zDl N d0 l i v)))):=by
  subst hg
  rw [Nat.zero_add] at ho
  subst ho
  have:=zCZ hz hx hk (by simp [cA,Nat.blt_eq]; exact hi) hy hc
  have e1:=zQY (g:=g) (d:=d0) (l:=l) (x:=v) hi [] []
  simp only [List.nil_append,List.append_nil,List.length_nil,Nat.zero_add] at e1
  rw [e1] at this
  exact this
theorem zRQ {v:Value} (h:zf (.lit v) (g d0)):zFR ((List.replicate N v).map .lit) (cA N g d0 (List.replicate N d0)):=by
  have e1:cA N g d0 (List.replicate N d0)=List.replicate N (g d0):=by
    apply List.ext_getElem?
    intro i
    by_cases hi:i<N
    · simp [cA,hi,List.getElem?_replicate]
    · rw [List.getElem?_eq_none (by simp [cA]; omega),List.getElem?_eq_none (by simp; omega)]
  rw [e1,List.map_replicate]
  clear e1
  induction N with
  | zero=>exact trivial
  | succ N ih=>exact ⟨h,ih⟩
theorem zNW {a:AV} (ha:∀ w,(isAgg t).run P w = .ok false w) (hx:aev n e x = .rp cs o) (hcs:cs=hd++(cA N g d0 l++tl)) (ho:o=hd.length+i) (hi:i<N) (hg:g (l.getD i d0)=a):zt P n e H (.load t x) a:=by
  subst hg
  exact zW ha hx (by rw [hcs,ho]; exact zQH hi hd tl)
theorem zNB {v:α} {a:AV} (hz:∀ w,(sizeOf t).run P w = .ok 1 w) (hx:aev n e x = .ptr k o) (hk:H[k]?=some (.box T cs)) (hcs:cs=hd++(cA N g d0 l++tl)) (ho:o=hd.length+i) (hi:i<N) (hy:aev n e y=a) (hg:g v=a) (hc:zQO H a=true) :
    zPE P n e H (.store t x y) (H.set k (.box T (hd++(cA N g d0 (zDl N d0 l i v)++tl)))):=by
  subst hg
  have hlen:o<cs.length:=by rw [hcs,ho]; simp [cA]; omega
  have:=zCZ hz hx hk (by simpa [Nat.blt_eq] using hlen) hy hc
  rw [hcs,ho,zQY hi] at this
  exact this
end
section
variable {P:Program} {n m:Nat} {e e':zCH} {H G:zAQ} {x y z:Operand} {k j o:Nat} {t T:TypeId} {ops:Array Oper} {rest:List Oper} {kk:zCH→zAQ→Prop} {d tt:Nat} {p:String} {af:Array Edge}
theorem zN1 {F:Env} {w:World} {el s:TypeId} {a:Option Addr} {len cap lo hi mx:Nat} {low high max:Option Operand} (ht:P.underlying t=some (.slice el)) (hs:∀ w,(sizeOf el).run P w = .ok s w) (hx:ev n F x = .slice a len cap)
    (hb:(Instr.sliceBounds true len cap (low.map (ev n F)) (high.map (ev n F)) (max.map (ev n F))).run P w = .ok (lo,hi,mx) w) :
    Val P n F w (.slice t x low high max) (.slice (if mx=lo then a else a.map (·.add (lo*s))) (hi - lo) (mx - lo)) w:=by
  refine ⟨fun d t' p af g => ?_⟩
  have h:(Instr.slice t (.slice a len cap) (low.map (ev n F)) (high.map (ev n F)) (max.map (ev n F))).run P w = .ok (.slice (if mx=lo then a else a.map (·.add (lo*s))) (hi - lo) (mx - lo)) w:=by
    unfold Instr.slice
    simp only [Sem.run_bind,run_underlying ht,Result.andThen_ok,hb,hs,Sem.run_pure]
  cases low <;> cases high <;> cases max <;> simp_all [execOp,Instr.sliceAt,run_underlying ht]
theorem zIc {w:World} {kd:IntKind} {i:Int} {y:Nat} {code:BoundsCode} (h0:0≤i) (h1:i≤(y:Int)):(Instr.sliceBound (.int kd i) y code).run P w = .ok i.toNat w:=by
  unfold Instr.sliceBound
  simp [asIntOf,h0,h1]
theorem zQ2 {w:World} {A:Nat→Prop} {κ:List Value} {full:Bool} {rows:List (List AV)} {a:Option Addr} {c s lo hi mx:Nat} (hv:VR w A κ (.sl full rows) (.slice a rows.length c) []) (hlen:∀ r,r∈rows→r.length=s) (h1:lo≤hi) (h2:hi≤rows.length) (h3:hi≤mx) (h4:mx≤c) (f':Bool) (hf:f'=true→mx=hi) :
    VR w A κ (.sl f' ((rows.take hi).drop lo)) (.slice (if mx=lo then a else a.map (·.add (lo*s))) (hi - lo) (mx - lo)) []:=by
  unfold VR at hv ⊢
  obtain ⟨_,a',c',hv,q1,q2,q3,q4⟩:=hv
  injection hv with e1 e2 e3
  subst e1; subst e3
  have hl:((rows.take hi).drop lo).length=hi - lo:=by simp; omega
  refine ⟨rfl,_,_,by rw [hl],by omega,by omega,fun h=>by have:=hf h; omega,?_⟩
  by_cases hlo:hi=lo
  · left
    apply List.eq_nil_of_length_eq_zero
    omega
  · right
    rcases q4 with q4 | ⟨b,o',sz,vr,rfl,hA,hb,r1,r2,r3⟩
    · rw [q4] at h2; simp at h2; omega
    · have hm:mx≠lo:=by omega
      rw [if_neg hm]
      have hvl:=zE6 r1
      have e1:rows=rows.take lo++((rows.take hi).drop lo++rows.drop hi):=by
        have h5:(rows.take hi).take lo=rows.take lo:=by rw [List.take_take]; congr 1; omega
        rw [← List.append_assoc, ← h5,List.take_append_drop,List.take_append_drop]
      rw [e1] at r1
      obtain ⟨v1,v2,f1,f2,rfl,hf0,s1,s2⟩:=zH9.1 r1
      obtain ⟨v3,v4,f3,f4,rfl,hf1,s3,s4⟩:=zH9.1 s2
      obtain ⟨rfl,rfl⟩:=List.append_eq_nil_iff.1 hf0.symm
      obtain ⟨rfl,rfl⟩:=List.append_eq_nil_iff.1 hf1.symm
      have l1:=zE6 s1
      have l3:=zE6 s3
      have hl1:v1.length=lo:=by rw [l1,List.length_take]; omega
      have hsz:sz=s:=by
        have h6:0<v3.length:=by rw [l3,hl]; omega
        have h7:=zND s3 (fun r hr=>hlen r (List.mem_of_mem_take (List.mem_of_mem_drop hr))) v3[0] (List.getElem_mem h6)
        have h8:=r2 v3[0] (by simp)
        omega
      subst hsz
      refine ⟨b,o'+lo*sz,sz,v3,by simp [Addr.add_lit],hA,hb,s3,fun r hr=>r2 r (by simp [hr]),?_⟩
      intro q u hu
      have hf2:v1.flatten.length=lo*sz:=by rw [zDn (fun r hr=>r2 r (by simp [hr])),hl1]
      have:=r3 (lo*sz+q) u (by
        rw [List.flatten_append,List.flatten_append,List.getElem?_append_right (by omega),hf2,Nat.add_sub_cancel_left,List.getElem?_append_left (zAS hu)]
        exact hu)
      rw [← Nat.add_assoc] at this
      exact this
section
variable {α:Type} {f:α→List AV} {l l2:List α} {full:Bool} {el s:TypeId}
theorem zQB {kh:IntKind} {hi:Int} (ht:P.underlying t=some (.slice el)) (hs:∀ w,(sizeOf el).run P w = .ok s w) (hl:∀ x,(f x).length=s) (hx:aev n e x = .sl full (l.map f)) (hz:aev n e z = .lit (.int kh hi)) (hb:zNc 0 hi l.length=true) :
    zt P n e H (.slice t x none (some z) none) (.sl false ((zKK l 0 hi).map f)):=by
  intro w A0 κ fp F h1 h2
  have hv:=h2.ev x
  rw [hx] at hv
  have hv0:=hv
  unfold VR at hv
  obtain ⟨_,a,c,hv,h3,h4,h5,h6⟩:=hv
  rw [hv] at hv0
  rw [List.length_map] at hv h3 hv0
  have bd:=zNS hb
  refine ⟨_,zN1 ht hs hv (lo:=0) (hi:=hi.toNat) (mx:=c) ?_,?_⟩
  · simp only [Option.map_some,Option.map_none,zAg h2 hz,Instr.sliceBounds,Sem.run_bind,Sem.run_pure,Result.andThen_ok]
    rw [zIc (by omega) (by omega)]
    rfl
  · have:=zQ2 (full:=full) (rows:=l.map f) (s:=s) (lo:=0) (hi:=hi.toNat) (mx:=c) (by rw [List.length_map]; exact hv0) (zLZ hl) (by omega) (by rw [List.length_map]; exact bd.2.2.2.2) (by omega) (Nat.le_refl _) false (by simp)
    unfold zKK
    rw [List.map_drop,List.map_take]
    exact this
theorem zOC {kl:IntKind} {lo:Int} (ht:P.underlying t=some (.slice el)) (hs:∀ w,(sizeOf el).run P w = .ok s w) (hl:∀ x,(f x).length=s) (hx:aev n e x = .sl full (l.map f)) (hy:aev n e y = .lit (.int kl lo)) (hb:zNc lo (l.length:Int) l.length=true) :
    zt P n e H (.slice t x (some y) none none) (.sl false ((zKK l lo (l.length:Int)).map f)):=by
  intro w A0 κ fp F h1 h2
  have hv:=h2.ev x
  rw [hx] at hv
  have hv0:=hv
  unfold VR at hv
  obtain ⟨_,a,c,hv,h3,h4,h5,h6⟩:=hv
  rw [hv] at hv0
  rw [List.length_map] at hv h3 hv0
  have bd:=zNS hb
  refine ⟨_,zN1 ht hs hv (lo:=lo.toNat) (hi:=l.length) (mx:=c) ?_,?_⟩
  · simp only [Option.map_some,Option.map_none,zAg h2 hy,Instr.sliceBounds,Sem.run_bind,Sem.run_pure,Result.andThen_ok]
    rw [zIc (by omega) (by omega)]
    rfl
  · have:=zQ2 (full:=full) (rows:=l.map f) (s:=s) (lo:=lo.toNat) (hi:=l.length) (mx:=c) (by rw [List.length_map]; exact hv0) (zLZ hl) (by omega) (by rw [List.length_map]; exact Nat.le_refl _) (by omega) (Nat.le_refl _) false (by simp)
    unfold zKK
    rw [List.map_drop,List.map_take,Int.toNat_natCast]
    exact this
end
theorem zMR {w:World} {s q:Nat} {v:Value} {rows:List (List Value)} (h:Src w s v rows) (hq:q≤rows.length):(Builtin.firstCells s q v).run P w = .ok (rows.take q).flatten.toArray w:=by
  obtain ⟨a,c,rfl,h1,h2,h3,h4⟩:=h
  rcases Nat.eq_zero_or_pos q with h0 | h0
  · subst h0
    cases a with
    | none=>simp [Builtin.firstCells]
    | some x=>simp [Builtin.firstCells,loadCells,loadCellsFrom]
  · rcases h4 with h4 | ⟨b,o,rfl,hc⟩
    · omega
    · have hl:(rows.take q).flatten.length=q*s:=by
        rw [zDn (sz:=s) (fun r hr=>h2 r (List.mem_of_mem_take hr)),List.length_take]
        congr 1
        omega
      have:=run_loadCells_list (P:=P) w ⟨b,o,none⟩ (rows.take q).flatten (fun i u hu=>by
        rw [Addr.add_lit]
        refine hc i u ?_
        have e1:rows.flatten=(rows.take q).flatten++(rows.drop q).flatten:=by rw [← List.flatten_append,List.take_append_drop]
        rw [e1,List.getElem?_append_left (zAS hu)]
        exact hu)
      rw [hl] at this
      simp [Builtin.firstCells,this]
theorem zSy {w:World} {s:Nat} {v:Value} {rows:List (List Value)} (h:Src w s v rows):(Builtin.lenOf v).run P w = .ok rows.length w:=by
  obtain ⟨a,c,rfl,_⟩:=h
  simp [Builtin.lenOf]
theorem zN9 {w:World} {A0:Nat→Prop} {κ:List Value} {fp:Nat→List Nat} {F:Env} {el s:TypeId} {ty:TypeId} {rows ns:List (List AV)} (h1:SH w A0 H κ fp) (h2:zJz w (avd A0 fp) κ n e F) (ht:P.underlying t=some (.slice el)) (hs:∀ w,(sizeOf el).run P w = .ok s w)
    (hx:aev n e x = .hd k) (hk:H[k]?=some (.vec el s rows)) {yv:Value} (hy:ev n F y=yv) {vn:List (List Value)} (hsrc:Src w s yv vn) (hvn:VRr w (avd A0 fp) [] ns vn []) :
    ∃ w' κ' fp',Val P n F w (.call { callee := .builtin .copy,args := #[x,y],argTypes := #[t,ty] }) (.int .i64 ((min ns.length rows.length:Nat):Int)) w'∧SH w' A0 (H.set k (.vec el s (ns.take rows.length++rows.drop ns.length))) κ' fp'∧zKE w fp κ w' fp' κ':=by
  have hv:=h2.ev x
  rw [hx] at hv
  unfold VR at hv
  obtain ⟨g,vr,f',hO,hr,hfp,hlen⟩:=zIP h1 hk hv.1
  have hnl:=zE6 hvn
  obtain ⟨a,c,hform,_,_⟩:=zJ2 hO
  have hq:min vn.length vr.length≤vn.length:=Nat.min_le_left _ _
  have hfc:=zMR (P:=P) hsrc hq
  have hlo:=zSy (P:=P) hsrc
  rcases Nat.eq_zero_or_pos (min vn.length vr.length) with h0 | h0
  ·
    have hrows:ns.take rows.length++rows.drop ns.length=rows:=by
      rw [hnl,hlen] at h0
      rcases Nat.eq_zero_or_pos ns.length with q | q
      · have:ns=[]:=List.length_eq_zero_iff.1 q
        subst this; simp
      · have q2:rows.length=0:=by omega
        have:rows=[]:=List.length_eq_zero_iff.1 q2
        subst this; simp
    refine ⟨w,κ,fp,⟨fun d t' p af g' => ?_⟩,?_,zKE.refl _ _ _⟩
    · have hrun:(Builtin.copy_ #[t,ty] t' #[ev n F x,yv]).run P w = .ok (.int .i64 ((min ns.length rows.length:Nat):Int)) w:=by
        unfold Builtin.copy_
        rw [hform]
        have e1:Nat.min vn.length vr.length=0:=h0
        have e2:min ns.length rows.length=0:=by rw [← hnl, ← hlen]; exact h0
        rw [h0] at hfc
        cases a with
        | none=>simp [run_underlying ht,hlo,hs,e1,hfc,e2,goInt]
        | some b=>simp [run_underlying ht,hlo,hs,e1,hfc,e2,goInt,storeCells]
      simp [execOp,hy,resolve,invoke,builtin,hrun]
    · rw [hrows]
      have:H.set k (.vec el s rows)=H:=by
        apply List.ext_getElem?
        intro i
        by_cases hi:k=i
        · subst hi
          rw [List.getElem?_set_self (zAS hk),hk]
        · rw [List.getElem?_set_ne hi]
      rw [this]
      exact h1
  · obtain ⟨b,cap,sp,rfl,hv',h7,h8,h9,h10⟩:=zLO hO (i:=0) (by omega)
    have hls:=hO.1
    have hfl:(vn.take (min vn.length vr.length)).flatten.length=min vn.length vr.length*s:=by
      rw [zDn (sz:=s) (fun r hr=>by
        obtain ⟨_,_,_,_,h3,_⟩:=hsrc
        exact h3 r (List.mem_of_mem_take hr)),List.length_take]
      congr 1
      omega
    have hle:(vn.take (min vn.length vr.length)).flatten.length≤vr.flatten.length:=by
      rw [hfl,zDn hls]
      exact Nat.mul_le_mul_right _ (Nat.min_le_right _ _)
    have hone:∀ v∈(vn.take (min vn.length vr.length)).flatten,v.oneCell'=true:=fun v hv=>by
      obtain ⟨r,hr,hv⟩:=List.mem_flatten.1 hv
      obtain ⟨_,_,_,_,_,h3,_⟩:=hsrc
      exact h3 r (List.mem_of_mem_take hr) v hv
    obtain ⟨w',r1,hkp,_,r4⟩:=zGV (P:=P) (b:=b) (o:=0) (vn.take (min vn.length vr.length)).flatten 0 (vr.flatten++sp) w h9 (by simp only [List.length_append]; omega) hone
    have e3:zDF (vr.flatten++sp) (0+0) (vn.take (min vn.length vr.length)).flatten=(vn.take vr.length++vr.drop vn.length).flatten++sp:=by
      have q1:vn.take (min vn.length vr.length)=vn.take vr.length:=by
        rcases Nat.le_total vn.length vr.length with q | q
        · rw [Nat.min_eq_left q,List.take_of_length_le (Nat.le_refl _),List.take_of_length_le q]
        · rw [Nat.min_eq_right q]
      have q2:(vr.flatten).drop (vn.take (min vn.length vr.length)).flatten.length=(vr.drop vn.length).flatten:=by
        rw [hfl]
        have q3:vr.flatten=(vr.take (min vn.length vr.length)).flatten++(vr.drop (min vn.length vr.length)).flatten:=by rw [← List.flatten_append,List.take_append_drop]
        have q4:(vr.take (min vn.length vr.length)).flatten.length=min vn.length vr.length*s:=by
          rw [zDn (sz:=s) (fun r hr=>hls r (List.mem_of_mem_take hr)),List.length_take]; congr 1; omega
        rw [q3, ← q4,List.drop_left]
        rcases Nat.le_total vn.length vr.length with q | q
        · rw [Nat.min_eq_left q]
        · rw [Nat.min_eq_right q,List.drop_of_length_le (Nat.le_refl _),List.drop_of_length_le q]
      unfold zDF
      rw [List.drop_append_of_le_length (by omega)]
      simp only [Nat.add_zero,List.take_zero,List.nil_append,Nat.zero_add]
      rw [q2,List.flatten_append,q1,List.append_assoc]
    rw [e3] at r4
    have hnd:=h1.nd k
    rw [hfp] at hnd
    have hvr':∃ f'',VRr w (avd A0 fp) [] (rows.drop ns.length) (vr.drop vn.length) f''∧f''.Sublist f':=by
      have q1:rows=rows.take ns.length++rows.drop ns.length:=(List.take_append_drop _ _).symm
      rw [q1] at hr
      obtain ⟨v1,v2,f1,f2,q2,q3,q4,q5⟩:=zH9.1 hr
      have q6:=zE6 q4
      rw [List.length_take] at q6
      refine ⟨f2,?_,by rw [q3]; exact List.sublist_append_right _ _⟩
      have q7:vr.drop vn.length=v2:=by
        rw [q2]
        rcases Nat.le_total ns.length rows.length with q | q
        · have:v1.length=vn.length:=by rw [hnl]; omega
          rw [← this,List.drop_left]
        · have q8:=zE6 q5
          rw [List.length_drop] at q8
          have:v2=[]:=List.length_eq_zero_iff.1 (by omega)
          rw [this,List.append_nil,List.drop_of_length_le (by omega)]
      rw [q7]
      exact q5
    obtain ⟨f'',hvr',hsub'⟩:=hvr'
    have hsub:(b::f'').Sublist (b::f'):=hsub'.cons_cons b
    have hfp':fp k=b::f':=hfp
    have hnd':(b::f').Nodup:=hnd
    have hs1:=h1.set1 (w':=w') (k:=k) (e1 := .vec el s (ns.take rows.length++rows.drop ns.length)) (f1:=b::f'') (zAS hk) (KpS.of hkp (fun q hq=>by simp at hq; subst hq; rw [hfp']; simp)) (fun q hq => .inl (by rw [hfp']; exact hsub.mem hq)) (hnd'.sublist hsub) (fun v hv2 mv=>by
      rw [hv.1] at hv2
      cases hv2
      refine ⟨some b,vn.take vr.length++vr.drop vn.length,[]++f'',?_,?_,rfl⟩
      · refine zJ3 hv' h7 h8 r4 h10 hls (fun r hr => ?_) (by simp; omega)
        rcases List.mem_append.1 hr with hr | hr
        · obtain ⟨_,_,_,_,h3,_⟩:=hsrc
          exact h3 r (List.mem_of_mem_take hr)
        · exact hls r (List.mem_of_mem_drop hr)
      · refine zH9.2 ⟨_,_,[],f'',rfl,rfl,?_,VRr.mv mv.nil _ _ _ (fun q hq=>hkp.block q (h1.lt k q (by rw [hfp']; exact hsub.mem (List.mem_cons_of_mem _ hq))) (by
          simp
          rintro rfl
          exact (List.nodup_cons.1 hnd').1 (hsub'.mem hq))) hvr'⟩
        rw [hlen]
        have q1:ns=ns.take rows.length++ns.drop rows.length:=(List.take_append_drop _ _).symm
        have hvn2:=VRr.mv mv.nil _ _ _ (fun _ hq=>by cases hq) hvn
        rw [q1] at hvn2
        obtain ⟨v1,v2,f1,f2,q2,q3,q4,q5⟩:=zH9.1 hvn2
        obtain ⟨rfl,rfl⟩:=List.append_eq_nil_iff.1 q3.symm
        have q6:=zE6 q4
        rw [List.length_take] at q6
        have q7:vn.take rows.length=v1:=by
          rw [q2]
          rcases Nat.le_total rows.length ns.length with q | q
          · have:v1.length=rows.length:=by omega
            rw [← this,List.take_left]
          · have q8:=zE6 q5
            rw [List.length_drop] at q8
            have:v2=[]:=List.length_eq_zero_iff.1 (by omega)
            rw [this,List.append_nil,List.take_of_length_le (by omega)]
        rw [q7]
        exact q4)
    refine ⟨w',κ,_,⟨fun d t' p af g' => ?_⟩,hs1.1,hs1.2⟩
    have hrun:(Builtin.copy_ #[t,ty] t' #[ev n F x,yv]).run P w = .ok (.int .i64 ((min ns.length rows.length:Nat):Int)) w':=by
      unfold Builtin.copy_
      rw [hv']
      have e1:Nat.min vn.length vr.length=min vn.length vr.length:=rfl
      have e2:min ns.length rows.length=min vn.length vr.length:=by rw [← hnl, ← hlen]
      rw [e2]
      simp [run_underlying ht,hlo,hs,e1,hfc,goInt,r1]
    simp [execOp,hy,resolve,invoke,builtin,hrun]
section
variable {α:Type} {f:α→List AV} {l l2:List α} {full:Bool} {el s ty:TypeId}
theorem zMb {rows ns:List α}:(ns.map f).take (rows.map f).length++(rows.map f).drop (ns.map f).length=(zCd rows ns).map f:=by
  unfold zCd
  rw [List.map_append,List.map_take,List.map_drop,List.length_map,List.length_map]
theorem zJ5 (ht:P.underlying t=some (.slice el)) (hs:∀ w,(sizeOf el).run P w = .ok s w) (hl:∀ x,(f x).length=s) (hx:aev n e x = .hd k) (hk:H[k]?=some (.vec el s (l.map f))) (hy:aev n e y = .sl full (l2.map f)) :
    zLE P n e H (.call { callee := .builtin .copy,args := #[x,y],argTypes := #[t,ty] }) (eI ((min l2.length l.length:Nat):Int)) (H.set k (.vec el s ((zCd l l2).map f))):=by
  intro w A0 κ fp F h1 h2
  have hyv:=h2.ev y
  rw [hy] at hyv
  obtain ⟨vn,hs1,hs2⟩:=zRy hyv (zLZ hl)
  obtain ⟨w',κ',fp',r1,r2,r3⟩:=zN9 (ty:=ty) h1 h2 ht hs hx hk rfl hs1 hs2
  rw [zMb] at r2
  rw [List.length_map,List.length_map] at r1
  exact ⟨_,w',κ',fp',r1,r2,zHS _ _ _ _,r3⟩
theorem zOc {el':TypeId} (ht:P.underlying t=some (.slice el)) (hs:∀ w,(sizeOf el).run P w = .ok s w) (hf:∀ x,(f x).all isE=true) (hx:aev n e x = .hd k) (hk:H[k]?=some (.vec el s (l.map f))) (hy:aev n e y = .hd j) (hj:H[j]?=some (.vec el' s (l2.map f))) :
    zLE P n e H (.call { callee := .builtin .copy,args := #[x,y],argTypes := #[t,ty] }) (eI ((min l2.length l.length:Nat):Int)) (H.set k (.vec el s ((zCd l l2).map f))):=by
  intro w A0 κ fp F h1 h2
  have hyv:=h2.ev y
  rw [hy] at hyv
  unfold VR at hyv
  obtain ⟨g,vn,f',hO,hr,hfp,hlen⟩:=zIP h1 hj hyv.1
  have:=zSD (zPx hf) hr
  subst this
  obtain ⟨w',κ',fp',r1,r2,r3⟩:=zN9 (ty:=ty) h1 h2 ht hs hx hk rfl (zPs hO (zNV hr)) hr
  rw [zMb] at r2
  rw [List.length_map,List.length_map] at r1
  exact ⟨_,w',κ',fp',r1,r2,zHS _ _ _ _,r3⟩
end
end
end Go.Am
