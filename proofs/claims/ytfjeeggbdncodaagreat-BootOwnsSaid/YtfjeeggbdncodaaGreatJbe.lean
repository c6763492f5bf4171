/-
  The statement BootOwns: the configuration's law, of whatever arguments.
-/
import Derived.Test.YtfjeeggbdncodaaGreatGe
import Derived.Test.YtfjeeggbdncodaaGreatRows
set_option linter.unusedVariables false
set_option linter.unusedSimpArgs false
set_option maxHeartbeats 4000000
namespace Go.Bo
open Go Go.Ls
theorem oi_zero {c:D ty27} {k:Kn} {N:Int} (hc:Cfg c) (h:K0 c k N):OI k 0∧N≤256:=by
  obtain ⟨t,a,sl,ag,so,po,fi,bl,dv,e1,e2,e3,e4,e5,e6,q1,q2,q3,q4,q5,q6,q7,q8,q9,rfl⟩:=h
  have h4:List.length c.1≤4:=by
    have:=hc.nodes
    unfold nodesOk at this
    simp only [Bool.and_eq_true] at this
    have:=inR_le this.1
    omega
  have h6:List.length c.2.1≤6:=by
    have:=hc.zones
    unfold zonesOk at this
    simp only [Bool.and_eq_true] at this
    have:=inR_le this.1
    omega
  obtain ⟨y,g1,g2,g3⟩:=F45_ok c.1 c.2.2.1 c.2.2.2.1 c.2.1 h4 h6
  rw [q2] at g1
  cases g1
  have g2:MI a 256:=g2
  have g3:∀ c,c∈cch a → ∀ l,l∈c.1→l=[]:=g3
  obtain ⟨y,p1,p2,_⟩:=F46_ok a (g2.sz (by decide))
  rw [q3] at p1
  cases p1
  have noL:∀ (zi:Nat) (ls:List (List Int)) (l:List Int),(cch a)[0]?=some (ls,())→ls[zi]?=some l→l=[]:=fun zi ls l h1 h2=>g3 _ (List.mem_of_getElem? h1) l (List.mem_of_getElem? h2)
  refine ⟨⟨⟨fun zi z hz=>dj_of (g2.z z (List.mem_of_getElem? hz)).2,fun zi ls l h1 h2 => ?_,fun zi z ls l hz h1 h2 g hg => ?_⟩,rfl,fun j p hj=>(by cases hj),fun g f hg => ?_,?_⟩,p2.2⟩
  · rw [noL zi ls l h1 h2]; exact List.nodup_nil
  · rw [noL zi ls l h1 h2] at hg; cases hg
  · right
    have hg:(List.replicate N.toNat frF)[g]?=some f:=hg
    have:=List.mem_of_getElem? hg
    rw [(List.mem_replicate.1 this).2]
    exact ⟨rfl,rfl⟩
  · obtain ⟨_,hl,_⟩:=acc0 hc.acc
    cases hac:cacc c with
    | nil =>
      have:1≤List.length (cacc c):=hl
      rw [hac] at this
      exact absurd this (by decide)
    | cons a0 l =>
      refine ⟨a0,?_,?_⟩
      · show (cacc c)[0]?=some a0
        rw [hac]; rfl
      · have hu:noUse (cacc c)=true:=hc.use
        unfold noUse at hu
        rw [hac,List.all_cons,Bool.and_eq_true] at hu
        exact of_eq hu.1
theorem oi_run {c:D ty27} {k0:Kn} {N:Int} (hN:N≤256) (h0:OI k0 0) (hf:(kfr k0).length=N.toNat):∀ {i:Nat} {k:Kn},Run c k0 i k→i≤8→OI k i∧(kfr k).length=N.toNat:=by
  intro i k h
  induction h with
  | zero=>exact fun _=>⟨h0,hf⟩
  | @succ i k p ac a f t q e hr hp h1 h2 hT f0 f2 h3 ih =>
    intro hi
    obtain ⟨b1,b2⟩:=ih (by omega)
    exact ⟨oi_step b2 hN b1 (by omega) h1 hT f0 f2 h3,knext_fr.trans b2⟩
def Rts (ps:List Pcs) (i g:Nat):Prop := ∃ (j:Nat) (p:Pcs),j<i∧ps[j]?=some p∧rt p=(g:Int)
structure Cnt (ps:List Pcs) (n i:Nat) (r:List Int):Prop where
  len:r.length=n
  one:∀ g,g<n→Rts ps i g→r[g]?=some 1
  no:∀ g,g<n → ¬ Rts ps i g→r[g]?=some 0
theorem law7_true (c:D ty27) (g:Ls.Good ty27 c):F7 (c,())=some (true,()):=by
  obtain ⟨b,hb1,_⟩:=F10_eq c
  have key:Ok (F7 (c,())) (fun r=>r=(true,())):=by
    unfold F7
    refine ok_bnd (F14_ok c) (fun x0 h0=>ok_bnd' hb1 (ok_cnd (fun _=>ok_some rfl) (fun _=>ok_cnd (fun _=>ok_some rfl) (fun he => ?_))))
    obtain ⟨k,e,u⟩:=x0
    obtain ⟨h12,hc,ht,k0,N,hk0,hki⟩:=h0 (of_nen he)
    have hp8:=hc.np.2
    have hp8:(prgs c).length≤8:=hp8
    obtain ⟨z1,z2⟩:=oi_zero hc hk0
    have hf0:(kfr k0).length=N.toNat:=by
      obtain ⟨t,a,sl,ag,so,po,fi,bl,dv,e1,e2,e3,e4,e5,e6,q1,q2,q3,q4,q5,q6,q7,q8,q9,rfl⟩:=hk0
      exact List.length_replicate
    obtain ⟨oi,hfl⟩:=oi_run z2 z1 hf0 hki.run hp8
    have hfl:(kfr k).length=N.toNat:=hfl
    have oi:OI k (prgs c).length:=oi
    have hpl:=oi.len
    obtain ⟨a0,hu1,hu2⟩:=oi.us
    have hal:0<(kac k).length:=(List.getElem?_eq_some_iff.1 hu1).1
    have hsp:∀ (j j':Nat) (p p':Pcs),(kpr k)[j]?=some p→(kpr k)[j']?=some p'→rt p=rt p'→j=j':=by
      intro j j' p p' h1 h2 h3
      obtain ⟨_,_,f,b1,b2,b3,b4⟩:=oi.ps j p h1
      obtain ⟨_,_,f',d1,d2,d3,d4⟩:=oi.ps j' p' h2
      rw [h3,d1] at b1
      cases b1
      rw [d3] at b3
      omega
    refine ok_f ?_ (ok_f ?_ (ok_bnd' (at_nat hu1) (ok_f ?_ (ok_chk (mk_ok (by rw [lenL_eq]; omega) ?_ (by decide)) ?_))))
    · show neI (lenL (kpr k)) (lenL (prgs c))=false
      rw [lenL_eq,lenL_eq,hpl,ne_self]
    · show eqI (lenL (kac k)) 0=false
      rw [lenL_eq]
      exact decide_eq_false (by omega)
    · show neI a0.2.1 (lenL (kpr k))=false
      rw [lenL_eq,hpl,hu2,ne_self]
    · show lenL (kfr k)≤10000
      rw [lenL_eq,hfl]; omega
    refine ok_bndS (P:=fun s:List Int×Unit=>Cnt (kpr k) (kfr k).length (kpr k).length s.1) (ok_count (I:=fun i (s:List Int×(Int×Unit))=>s.2=((i:Int),())∧Cnt (kpr k) (kfr k).length i s.1) (m:=(kpr k).length) ⟨rfl,?_⟩ (by omega) ?_ ?_) ?_
    · refine ⟨?_,fun g hg h => ?_,fun g hg _ => ?_⟩
      · show (List.replicate _ _).length=_
        rw [List.length_replicate]; rfl
      · obtain ⟨j,p,hj,_⟩:=h; omega
      · show (List.replicate (Int.toNat (lenL (kfr k))) (0:Int))[g]?=_
        rw [lenL_eq,Int.toNat_natCast,List.getElem?_replicate,if_pos hg]
    · rintro i ⟨r,s2⟩ hi ⟨rfl,hr⟩
      have hr:Cnt (kpr k) (kfr k).length i r:=hr
      have hp:(kpr k)[i]?=some (kpr k)[i]:=List.getElem?_eq_getElem hi
      generalize (kpr k)[i]=p at hp
      obtain ⟨b1,b2,f,b3,b4,b5,b6⟩:=oi.ps i p hp
      have hfl2:(rt p).toNat<(kfr k).length:=(List.getElem?_eq_some_iff.1 b3).1
      have hrt:rt p=((rt p).toNat:Int):=by omega
      have hno:¬ Rts (kpr k) i (rt p).toNat:=by
        rintro ⟨j,p',hj,hp',e⟩
        have:=hsp j i p' p hp' hp (by omega)
        omega
      have hr0:=hr.no _ hfl2 hno
      have at3:atL (kfr k) (rt p)=some f:=by rw [hrt]; exact at_nat b3
      have atR:atL r (rt p)=some 0:=by rw [hrt]; exact at_nat hr0
      have inR0:inL? r (rt p)=true:=by rw [hrt]; exact in_n (by rw [hr.len]; exact hfl2)
      refine ok_t (lt_i (l:=kpr k) hi) (ok_bnd' (at_nat hp) (ok_f (lt_f b1) (ok_f (le_f ?_) (ok_bnd' at3 (ok_f ?_ (ok_bnd' at3 (ok_f ?_ (ok_bnd' at3 (ok_f ?_ (ok_chk inR0 (ok_bnd' atR (ok_chk inR0 (ok_bnd' atR ⟨_,rfl,?_,?_⟩)))))))))))))
      · show rt p<lenL r
        rw [lenL_eq,hr.len]; omega
      · show neI f.1 1=false
        rw [b4,ne_self]
      · show neI (fsp f) (i:Int)=false
        rw [b5,ne_self]
      · show neI (fac f) (pac p)=false
        rw [b6,ne_self]
      · show (addI .i64 (i:Int) 1,())=_
        rw [addN (by omega)]
      · show Cnt _ _ (i+1) (setL r (rt p) (addI .i64 0 1))
        have e:addI .i64 0 1=1:=by rfl
        rw [e,setL_tn]
        refine ⟨by rw [List.length_set]; exact hr.len,fun g hg h => ?_,fun g hg h => ?_⟩
        · by_cases hgr:g=(rt p).toNat
          · subst hgr
            exact List.getElem?_set_self (by rw [hr.len]; exact hfl2)
          · rw [List.getElem?_set_ne (fun e=>hgr e.symm)]
            obtain ⟨j,p',hj,hp',e⟩:=h
            refine hr.one g hg ⟨j,p',?_,hp',e⟩
            by_cases hji:j=i
            · subst hji
              rw [hp] at hp'
              cases hp'
              omega
            · omega
        · have hgr:g≠(rt p).toNat:=fun e=>h ⟨i,p,by omega,hp,by omega⟩
          rw [List.getElem?_set_ne (fun e=>hgr e.symm)]
          exact hr.no g hg (fun ⟨j,p',hj,hp',e⟩=>h ⟨j,p',by omega,hp',e⟩)
    · rintro ⟨r,s2⟩ ⟨rfl,hr⟩
      exact ok_f (lt_e (l:=kpr k)) ⟨_,rfl,hr⟩
    rintro ⟨r,u1⟩ hr
    have hr:Cnt (kpr k) (kfr k).length (kpr k).length r:=hr
    refine ok_bndS (P:=fun _=>True) (ok_count (I:=fun i s=>s=((i:Int),())) (m:=(kfr k).length) rfl (by omega) ?_ ?_) (fun _ _=>ok_some rfl)
    · rintro i s hi rfl
      have hf:(kfr k)[i]?=some (kfr k)[i]:=List.getElem?_eq_getElem hi
      generalize (kfr k)[i]=f at hf
      have inr:inL? r (i:Int)=true:=in_n (by rw [hr.len]; exact hi)
      have nx:∀ {β:Type} {A:β→Prop},Ok (some (.inl (addI .i64 (i:Int) 1,())):Option (Sum (Int×Unit) β)) (Two (fun s=>s=(((i+1:Nat):Int),())) A):=⟨_,rfl,by show (_,_)=_; rw [addN (by omega)]⟩
      by_cases h:Rts (kpr k) (kpr k).length i
      · have h1:=hr.one i hi h
        obtain ⟨j,p,_,hp,e⟩:=h
        obtain ⟨b1,b2,f',b3,b4,_⟩:=oi.ps j p hp
        rw [e,Int.toNat_natCast,hf] at b3
        cases b3
        refine ok_t (lt_i (l:=kfr k) hi) (ok_bnd' (at_nat hf) (ok_chk inr (ok_bnd' (at_nat h1) (ok_f rfl (ok_chk inr (ok_bnd' (at_nat h1) (ok_f ?_ (ok_chk inr (ok_bnd' (at_nat h1) (ok_f rfl nx))))))))))
        show notB (eqB (eqI 1 0) (eqI f.1 0))=false
        rw [b4]; rfl
      · have h1:=hr.no i hi h
        rcases oi.ot i f hf with ⟨j,p,hp,e⟩ | ⟨b1,b2⟩
        · exact absurd ⟨j,p,(List.getElem?_eq_some_iff.1 hp).1,hp,e⟩ h
        refine ok_t (lt_i (l:=kfr k) hi) (ok_bnd' (at_nat hf) (ok_chk inr (ok_bnd' (at_nat h1) (ok_f rfl (ok_chk inr (ok_bnd' (at_nat h1) (ok_f ?_ (ok_chk inr (ok_bnd' (at_nat h1) (ok_t rfl (ok_f ?_ nx)))))))))))
        · show notB (eqB (eqI 0 0) (eqI f.1 0))=false
          rw [b1]; rfl
        · show neI (fac f) (-1)=false
          rw [b2,ne_self]
    · rintro s rfl
      exact ok_f (lt_e (l:=kfr k)) ⟨_,rfl,trivial⟩
  obtain ⟨y,h1,h2⟩:=key
  rw [h1,h2]
end Go.Bo
namespace Go.Proofs.YtfjeeggbdncodaaGreat
open Go Go.Hm Go.Ls Go.Bo Go.ChangeShapes Go.WideShapes Go.ChangeAt Go.RowKit Go.Wk
theorem own:ownKnob Tryz.prog.godebug=none:=by kernel_rfl
theorem laidOut:laidOutB Tryz.prog=true:=by kernel_rfl
theorem r3:RdH Tryz.prog 3 (.int .i64):=rdH_int Tryz.underlying3
theorem r22:RdH Tryz.prog 22 (.list (.int .i64)):=rdH_slice Tryz.underlying22 (of_decide_eq_true (by kernel_rfl)) (by kernel_rfl) (of_decide_eq_true (by kernel_rfl)) r3
theorem r206:RdH Tryz.prog 206 (.pair (.int .i64) (.pair (.int .i64) (.pair (.int .i64) (.pair (.int .i64) .un)))):=rdH_struct (tot:=4) Tryz.underlying206 (by kernel_rfl) (rdHF_cons (s:=1) r3 rfl (by kernel_rfl) (rdHF_cons (s:=1) r3 rfl (by kernel_rfl) (rdHF_cons (s:=1) r3 rfl (by kernel_rfl) (rdHF_cons (s:=1) r3 rfl (by kernel_rfl) (rdHF_nil rfl)))))
theorem r23:RdH Tryz.prog 23 (.list (.pair (.int .i64) (.pair (.int .i64) (.pair (.int .i64) (.pair (.int .i64) .un))))):=rdH_slice Tryz.underlying23 (of_decide_eq_true (by kernel_rfl)) (by kernel_rfl) (of_decide_eq_true (by kernel_rfl)) r206
theorem r5:RdH Tryz.prog 5 (.int .u8):=rdH_int Tryz.underlying5
theorem r67:RdH Tryz.prog 67 (.list (.int .u8)):=rdH_slice Tryz.underlying67 (of_decide_eq_true (by kernel_rfl)) (by kernel_rfl) (of_decide_eq_true (by kernel_rfl)) r5
theorem r69:RdH Tryz.prog 69 (.pair (.int .i64) (.pair (.list (.int .u8)) .un)):=rdH_struct (tot:=2) Tryz.underlying69 (by kernel_rfl) (rdHF_cons (s:=1) r3 rfl (by kernel_rfl) (rdHF_cons (s:=1) r67 rfl (by kernel_rfl) (rdHF_nil rfl)))
theorem r24:RdH Tryz.prog 24 (.list (.pair (.int .i64) (.pair (.list (.int .u8)) .un))):=rdH_slice Tryz.underlying24 (of_decide_eq_true (by kernel_rfl)) (by kernel_rfl) (of_decide_eq_true (by kernel_rfl)) r69
theorem r71:RdH Tryz.prog 71 (.pair (.int .i64) (.pair (.int .i64) (.pair (.int .i64) (.pair (.int .i64) (.pair (.int .i64) .un))))):=rdH_struct (tot:=5) Tryz.underlying71 (by kernel_rfl) (rdHF_cons (s:=1) r3 rfl (by kernel_rfl) (rdHF_cons (s:=1) r3 rfl (by kernel_rfl) (rdHF_cons (s:=1) r3 rfl (by kernel_rfl) (rdHF_cons (s:=1) r3 rfl (by kernel_rfl) (rdHF_cons (s:=1) r3 rfl (by kernel_rfl) (rdHF_nil rfl))))))
theorem r25:RdH Tryz.prog 25 (.list (.pair (.int .i64) (.pair (.int .i64) (.pair (.int .i64) (.pair (.int .i64) (.pair (.int .i64) .un)))))):=rdH_slice Tryz.underlying25 (of_decide_eq_true (by kernel_rfl)) (by kernel_rfl) (of_decide_eq_true (by kernel_rfl)) r71
theorem r152:RdH Tryz.prog 152 (.pair (.int .i64) (.pair (.int .i64) (.pair (.int .i64) (.pair (.int .i64) (.pair (.int .i64) (.pair (.int .i64) (.pair (.int .i64) (.pair (.int .i64) .un)))))))):=rdH_struct (tot:=8) Tryz.underlying152 (by kernel_rfl) (rdHF_cons (s:=1) r3 rfl (by kernel_rfl) (rdHF_cons (s:=1) r3 rfl (by kernel_rfl) (rdHF_cons (s:=1) r3 rfl (by kernel_rfl) (rdHF_cons (s:=1) r3 rfl (by kernel_rfl) (rdHF_cons (s:=1) r3 rfl (by kernel_rfl) (rdHF_cons (s:=1) r3 rfl (by kernel_rfl) (rdHF_cons (s:=1) r3 rfl (by kernel_rfl) (rdHF_cons (s:=1) r3 rfl (by kernel_rfl) (rdHF_nil rfl)))))))))
theorem r72:RdH Tryz.prog 72 (.list (.pair (.int .i64) (.pair (.int .i64) (.pair (.int .i64) (.pair (.int .i64) (.pair (.int .i64) (.pair (.int .i64) (.pair (.int .i64) (.pair (.int .i64) .un))))))))):=rdH_slice Tryz.underlying72 (of_decide_eq_true (by kernel_rfl)) (by kernel_rfl) (of_decide_eq_true (by kernel_rfl)) r152
theorem r99:RdH Tryz.prog 99 (.pair (.int .i64) (.pair (.list (.pair (.int .i64) (.pair (.int .i64) (.pair (.int .i64) (.pair (.int .i64) (.pair (.int .i64) (.pair (.int .i64) (.pair (.int .i64) (.pair (.int .i64) .un))))))))) .un)):=rdH_struct (tot:=2) Tryz.underlying99 (by kernel_rfl) (rdHF_cons (s:=1) r3 rfl (by kernel_rfl) (rdHF_cons (s:=1) r72 rfl (by kernel_rfl) (rdHF_nil rfl)))
theorem r26:RdH Tryz.prog 26 (.list (.pair (.int .i64) (.pair (.list (.pair (.int .i64) (.pair (.int .i64) (.pair (.int .i64) (.pair (.int .i64) (.pair (.int .i64) (.pair (.int .i64) (.pair (.int .i64) (.pair (.int .i64) .un))))))))) .un))):=rdH_slice Tryz.underlying26 (of_decide_eq_true (by kernel_rfl)) (by kernel_rfl) (of_decide_eq_true (by kernel_rfl)) r99
theorem r28:RdH Tryz.prog 28 (.pair (.list (.int .i64)) (.pair (.list (.pair (.int .i64) (.pair (.int .i64) (.pair (.int .i64) (.pair (.int .i64) .un))))) (.pair (.int .i64) (.pair (.int .i64) (.pair (.int .i64) (.pair (.int .i64) (.pair (.int .i64) (.pair (.int .i64) (.pair (.int .i64) (.pair (.int .i64) (.pair (.list (.pair (.int .i64) (.pair (.list (.int .u8)) .un))) (.pair (.list (.pair (.int .i64) (.pair (.int .i64) (.pair (.int .i64) (.pair (.int .i64) (.pair (.int .i64) .un)))))) (.pair (.list (.pair (.int .i64) (.pair (.list (.pair (.int .i64) (.pair (.int .i64) (.pair (.int .i64) (.pair (.int .i64) (.pair (.int .i64) (.pair (.int .i64) (.pair (.int .i64) (.pair (.int .i64) .un))))))))) .un))) .un))))))))))))):=rdH_struct (tot:=13) Tryz.underlying28 (by kernel_rfl) (rdHF_cons (s:=1) r22 rfl (by kernel_rfl) (rdHF_cons (s:=1) r23 rfl (by kernel_rfl) (rdHF_cons (s:=1) r3 rfl (by kernel_rfl) (rdHF_cons (s:=1) r3 rfl (by kernel_rfl) (rdHF_cons (s:=1) r3 rfl (by kernel_rfl) (rdHF_cons (s:=1) r3 rfl (by kernel_rfl) (rdHF_cons (s:=1) r3 rfl (by kernel_rfl) (rdHF_cons (s:=1) r3 rfl (by kernel_rfl) (rdHF_cons (s:=1) r3 rfl (by kernel_rfl) (rdHF_cons (s:=1) r3 rfl (by kernel_rfl) (rdHF_cons (s:=1) r24 rfl (by kernel_rfl) (rdHF_cons (s:=1) r25 rfl (by kernel_rfl) (rdHF_cons (s:=1) r26 rfl (by kernel_rfl) (rdHF_nil rfl))))))))))))))
set_option maxRecDepth 100000 in
theorem bootOwns_lifted (os:Os) (started:os.Started) (H:Type) (enc:TypeId×Value→H) :
    ReturnsInHanded {} Tryz.checked os 7 .any (Rows.bootOwnsSpec.pre6 enc Tryz.prog Tryz.f7 Rows.bootOwnsRow.domain false) (Rows.bootOwnsSpec.post enc Tryz.prog Tryz.f7 false true false false):=by
  refine returnsInHanded_of_change_sized (C:=Tryz.checked) own started (by kernel_rfl) Tryz.func7
    (ChangeSpec.witness6 (enc:=enc) (C:=Tryz.checked) false ⟨#[], #[.agg #[.slice none 0 0,.slice none 0 0,.int .i64 0,.int .i64 0,.int .i64 0,.int .i64 0,.int .i64 0,.int .i64 0,.int .i64 0,.int .i64 0,.slice none 0 0,.slice none 0 0,.slice none 0 0]],[]⟩ 8 (by kernel_rfl) (by kernel_rfl) (by kernel_rfl) (by kernel_rfl)) ?_
  intro W base args ds gs before hval0 hW hcnd0 hsz0 _
  have hsz:(DataW.weightsEach Tryz.prog (Tryz.f7.params.toList++Rows.bootOwnsSpec.plain.varTypes Tryz.prog) (ds++gs)).all (· ≤ reachBytes)=true:=hsz0
  have hval:∀ (j:Nat) t v,Tryz.f7.params[j]?=some t→args[j]?=some v→Value.okWide Tryz.prog W .any base t v:=hval0
  clear hcnd0 hsz0 hval0
  have hW':=hW
  obtain ⟨p,q,hA0,hV,rfl,hfz,hnd⟩:=hW
  have hA:DataW.TrodAll enc Tryz.prog W 0 (fun _=>true) true Tryz.f7.params.toList args.toList ds p:=hA0
  clear hA0
  rw [Tryz.params7] at hA hval hsz
  obtain ⟨v0,d0,rfl,rfl,h0⟩:=trodAll_one hA
  obtain ⟨rfl,rfl⟩:=trodVars_none hV
  simp only [List.append_nil] at hW' hsz
  have hlt:=hW'.lt
  have hwt:∀ (j:Nat) (t:TypeId) (d:DataW H),([28]:List TypeId)[j]?=some t→[d0][j]?=some d → ∀ n,n∈d.weights Tryz.prog t→n≤reachBytes:=by
    intro j t d ht hd n hn
    have:=List.all_eq_true.1 hsz n (DataW.weights_mem_each (ts:=[28]++Rows.bootOwnsSpec.plain.varTypes Tryz.prog) (by rw [List.getElem?_append_left (by have:=(List.getElem?_eq_some_iff.1 ht).1; exact this)]; exact ht) hd n hn)
    simpa using this
  obtain ⟨xs0,rfl,hxs0⟩:=okWide_struct Tryz.underlying28 (hval 0 28 v0 rfl rfl)
  have i_0:=inv_empty W
  obtain ⟨hp1,nx1,ρ1,s0,a0,i_1,m0,y0,z0,g0⟩:=r28.arg h0 (hwt 0 28 d0 rfl rfl) (.inl ⟨rfl,_,rfl⟩) .e 0 (fun _=>none) i_0
  have hk:∀ (W':World),Below W.heap.size W W' → ∀ (t:TypeId) (v:Value) (d:DataW H) (ps:List MemPlace),Tryz.prog.readableRec t=true→t<Tryz.prog.types.size→DataW.Trod enc Tryz.prog W 0 (fun _=>true) true t v d ps→(∀ x∈ps,x.block<W.heap.size)→DataW.Trod enc Tryz.prog W' 0 (fun b=>decide (b<W.heap.size)) true t v d ps :=
    fun W' hb t v d ps hr hs h hl=>Below.trod laidOut hr hs h hb hl
  refine (law_fn cxC_ok n7 e7 (k7 7 _ (Tr.get_set_same _ _ _)) i_1 (args:=[s0]) (x:=(a0,())) (by unfold Hm.VRs; exact ⟨_,_,rfl,y0,by unfold Hm.VRs; rfl⟩) ⟨_,_,rfl,z0,rfl⟩ (law7_true a0 g0)).mono ?_
  rintro v W' ⟨rfl,kp⟩
  have hb:Below W.heap.size W W':=⟨kp.os,kp.tape,kp.output,kp.size,fun k hk=>kp.block k hk (by simp)⟩
  refine ⟨_,_,_,[],_,[],hW',trodAll_mk1 (shut_bool Tryz.underlying4 true),trodAll_mk1 (hk W' hb _ _ _ _ (by kernel_rfl) (of_decide_eq_true (by kernel_rfl)) h0 (fun x hx=>hlt x (by simp [hx]))),rfl,hb.frame _,fun h=>by cases h⟩
theorem and2 {a b:Bool} (h:a=true) (k:b=true):(a&&b)=true:=by rw [h,k]; rfl
theorem j0:(Rows.bootOwnsRow.wf (OpenSpec.ofChange Rows.bootOwnsSpec))=true:=by kernel_rfl
theorem j1:(laidOutB Tryz.pinned.checked.prog)=true:=by kernel_rfl
theorem j2:(mapsRowed Tryz.pinned.checked.prog)=true:=by kernel_rfl
theorem j3:(Tryz.f7.params.all (Tryz.pinned.checked.prog.readableRec ·))=true:=by kernel_rfl
theorem j4:(namedTie Tryz.pinned.checked.prog Rows.bootOwnsRow.named Rows.bootOwnsSpec.vars)=true:=by kernel_rfl
theorem j5:((Rows.bootOwnsRow.stops == []))=true:=by kernel_rfl
theorem j6:((Tryz.pinned.checked.prog.stops == []))=true:=by kernel_rfl
theorem j7:((Rows.bootOwnsRow.knobs == []))=true:=by kernel_rfl
theorem j8:((Tryz.pinned.checked.prog.stopKnobs == []))=true:=by kernel_rfl
theorem j9:((Rows.bootOwnsRow.inPlace == Tryz.pinned.checked.prog.inPlace 7))=true:=by kernel_rfl
theorem j10:((Rows.bootOwnsRow.unfollowed == Tryz.pinned.checked.prog.unfollowed 7))=true:=by kernel_rfl
theorem j11:((Rows.bootOwnsRow.recurses == Tryz.pinned.checked.prog.recurses 7))=true:=by kernel_rfl
theorem j12:((Rows.bootOwnsRow.named == Tryz.pinned.checked.prog.varsNamed 7))=true:=by kernel_rfl
theorem j13:((Rows.bootOwnsRow.maps == (Tryz.f7.params.toList++Rows.bootOwnsSpec.plain.varTypes Tryz.pinned.checked.prog).any (Tryz.pinned.checked.prog.mapsRec ·)))=true:=by kernel_rfl
theorem j14:((Rows.bootOwnsRow.ifaces == (Tryz.f7.params.toList++Rows.bootOwnsSpec.plain.varTypes Tryz.pinned.checked.prog).any (Tryz.pinned.checked.prog.ifacesRec ·)))=true:=by kernel_rfl
theorem j15:((Rows.bootOwnsRow.mapsOut == Tryz.pinned.checked.prog.mapsAmong Tryz.f7.resultTypes.toList))=true:=by kernel_rfl
theorem j16:((Rows.bootOwnsRow.loops == (Tryz.f7.params.toList++Rows.bootOwnsSpec.plain.varTypes Tryz.pinned.checked.prog).any (Tryz.pinned.checked.prog.loopsFrom ·)))=true:=by kernel_rfl
theorem j17:((Rows.bootOwnsRow.wideKeys == (Tryz.f7.params.toList++Rows.bootOwnsSpec.plain.varTypes Tryz.pinned.checked.prog++Tryz.f7.resultTypes.toList).any (Tryz.pinned.checked.prog.wideKeysFrom ·)))=true:=by kernel_rfl
theorem j18:(Rows.bootOwnsSpec.vars.all (Tryz.pinned.checked.prog.varReadable ·))=true:=by kernel_rfl
theorem j19:(Tryz.f7.resultTypes.all (fun t=>Tryz.pinned.checked.prog.readableRec t&&decide (t<Tryz.pinned.checked.prog.types.size)))=true:=by kernel_rfl
theorem j20:((Rows.bootOwnsRow.ifacesOut == Tryz.f7.resultTypes.toList.any (Tryz.pinned.checked.prog.ifacesRec ·)))=true:=by kernel_rfl
theorem j21:((Rows.bootOwnsRow.loopsOut == Tryz.f7.resultTypes.toList.any (Tryz.pinned.checked.prog.loopsFrom ·)))=true:=by kernel_rfl
theorem j22:((Rows.bootOwnsRow.plainKeys == Tryz.pinned.checked.prog.plainKeys))=true:=by kernel_rfl
theorem j23:(Rows.bootOwnsRow.shortTexts.isNone)=true:=by kernel_rfl
theorem j24:(Tryz.pinned.checked.prog.stopsHeard)=true:=by kernel_rfl
theorem j25:(Tryz.pinned.checked.prog.mayEnter)=true:=by kernel_rfl
theorem j26:((Rows.bootOwnsRow.lifted == Tryz.pinned.checked.prog.liftsFinal))=true:=by kernel_rfl
theorem j27:((Tryz.pinned.checked.prog.make == some Rows.bootOwnsRow.make))=true:=by kernel_rfl
theorem j29:((Rows.bootOwnsRow.pinned == Rows.bootOwnsRow.pinnedBy))=true:=by kernel_rfl
theorem j30:((Rows.bootOwnsRow.veiled == (Tryz.f7.params.toList++Rows.bootOwnsSpec.plain.varTypes Tryz.pinned.checked.prog++Tryz.f7.resultTypes.toList).any (Tryz.pinned.checked.prog.veiledRec ·)))=true:=by kernel_rfl
theorem j31:(Rows.bootOwnsRow.veiledFits Tryz.pinned.checked.prog Tryz.f7.params.toList (Tryz.f7.params.toList++Rows.bootOwnsSpec.plain.varTypes Tryz.pinned.checked.prog++Tryz.f7.resultTypes.toList))=true:=by kernel_rfl
theorem jn:Tryz.pinned.checked.prog.funcNamed Rows.bootOwnsRow.func=some 7:=by kernel_rfl
theorem ji:Tryz.f7.isInstance Tryz.pinned.checked.prog Rows.bootOwnsRow.origin Rows.bootOwnsRow.targs:=of_decide_eq_true (by kernel_rfl)
theorem jw:Tryz.f7.isWrapper Tryz.pinned.checked.prog Rows.bootOwnsRow.wrapper Rows.bootOwnsRow.mainSum:=by unfold Func.isWrapper; first | (rw [if_pos (by decide +kernel)]; kernel_rfl) | (rw [if_neg (by decide +kernel)]; exact ⟨rfl,rfl⟩)
theorem bootOwns_holds:Rows.BootOwnsSaid :=
  OpenClaim.holds_of_wide 7 Tryz.f7 rfl rfl rfl rfl rfl rfl rfl ⟨rfl,rfl,rfl,rfl,rfl⟩ rfl rfl rfl rfl rfl jn Tryz.func7 (and2 (and2 (and2 (and2 (and2 (and2 (and2 (and2 (and2 (and2 (and2 (and2 (and2 (and2 (and2 (and2 (and2 (and2 (and2 (and2 (and2 (and2 (and2 (and2 (and2 (and2 (and2 (and2 (and2 (and2 (and2 j0 j1) j2) j3) j4) j5) j6) j7) j8) j9) j10) j11) j12) j13) j14) j15) j16) j17) j18) j19) j20) j21) j22) j23) j24) j25) j26) j27) (by kernel_rfl)) j29) j30) j31)
    ji jw
    (fun os started H enc _=>bootOwns_lifted os started H enc)
end Go.Proofs.YtfjeeggbdncodaaGreat
