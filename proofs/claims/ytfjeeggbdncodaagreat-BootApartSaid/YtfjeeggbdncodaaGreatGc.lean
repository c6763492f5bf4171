/-
  Rules, functions and laws for the last text, part c.
-/
import Derived.Test.YtfjeeggbdncodaaGreatGb
import Derived.Laws.BytesString
import Derived.Deep.Upon
import Derived.Great.BuildSlice
import Derived.Lib.MakeNoZero
import Derived.Test.YtfjeeggbdncodaaGreatProg
import Derived.KernelRfl
import Derived.Laws.StructEq
import Derived.ChangeKeysEq
set_option linter.unusedVariables false
set_option linter.unusedSimpArgs false
set_option linter.constructorNameAsVariable false
set_option linter.unusedSectionVars false
namespace Go.Hm
open Go Go.RowKit Go.Wk
section
variable {P:Program} {n:Nat} {F:Env} {ρ:Rn} {s:St} {w:World} {cx:Cx}
theorem evO_rel (hE:EnvR ρ n s F) {o:Option Operand} {v:Option HV} {m:Option Nat} (h:evO s o=some v) (hm:optNat v=some m) :
    (m=none∧o.map (ev n F)=none) ∨ ∃ j k,m=some j∧o.map (ev n F)=some (.int k (j:Int)):=by
  cases o with
  | none=>cases h; cases hm; exact .inl ⟨rfl,rfl⟩
  | some x =>
    unfold evO at h
    simp only at h
    cases hx:s.ev x with
    | none=>rw [hx] at h; cases h
    | some v =>
      rw [hx] at h
      cases h
      unfold optNat at hm
      simp only at hm
      cases hj:natOf v with
      | none=>rw [hj] at hm; cases hm
      | some j =>
        rw [hj] at hm
        cases hm
        obtain ⟨k,hk⟩:=natOf_rel hj (ev_rel hE hx)
        exact .inr ⟨j,k,rfl,by simp [hk]⟩
theorem run_bounds {isS:Bool} {len cap l h m:Nat} {lo hi mx:Option Value} (hlo:(lo=none∧l=0) ∨ ∃ k,lo=some (.int k (l:Int))) (hhi:(hi=none∧h=len∧mx=none) ∨ ∃ k,hi=some (.int k (h:Int)))
    (hmx:(mx=none∧m=cap) ∨ ∃ k,mx=some (.int k (m:Int))) (h1:l≤h) (h2:h≤m) (h3:m≤cap):(Instr.sliceBounds isS len cap lo hi mx).run P w = .ok (l,h,m) w:=by
  have b:∀ (k:IntKind) (i y:Nat) (c:BoundsCode),i≤y→(Instr.sliceBound (.int k (i:Int)) y c).run P w = .ok i w:=fun k i y c hi=>by
    simp [Instr.sliceBound,asIntOf,hi]
  rcases hlo with ⟨rfl,rfl⟩ | ⟨k1,rfl⟩ <;> rcases hhi with ⟨rfl,rfl,rfl⟩ | ⟨k2,rfl⟩ <;> rcases hmx with ⟨hmx,rfl⟩ | ⟨k3,hmx⟩ <;>
    (first | (cases hmx; done) | skip) <;> (try subst hmx) <;> (try cases hmx) <;> simp [Instr.sliceBounds,b,h1,h2,h3]
theorem Val_sliceS {t e z:TypeId} {x:Operand} {lo hi mx:Option Operand} {a:Option Addr} {len cap l h m:Nat} (ht:P.underlying t=some (.slice e)) (hz:∀ w,(Go.sizeOf e).run P w = .ok z w) (hx:ev n F x = .slice a len cap)
    (hb:∀ w,(Instr.sliceBounds true len cap (lo.map (ev n F)) (hi.map (ev n F)) (mx.map (ev n F))).run P w = .ok (l,h,m) w) :
    Val P n F w (.slice t x lo hi mx) (.slice (if m=l then a else a.map (·.add (l*z))) (h - l) (m - l)) w:=by
  refine ⟨fun d t' p af g => ?_⟩
  simp [execOp,hx,Instr.sliceAt,Instr.slice,run_underlying ht,hb,hz]
theorem Val_sliceArr {t e z len:TypeId} {x:Operand} {lo hi mx:Option Operand} {a:Addr} {l h m:Nat} (ht:P.underlying t=some (.array len e)) (hz:∀ w,(Go.sizeOf e).run P w = .ok z w) (hx:ev n F x = .pointer (some a))
    (hb:∀ w,(Instr.sliceBounds false len len (lo.map (ev n F)) (hi.map (ev n F)) (mx.map (ev n F))).run P w = .ok (l,h,m) w) :
    Val P n F w (.slice t x lo hi mx) (.slice (some (if m=l then a else a.add (l*z))) (h - l) (m - l)) w:=by
  refine ⟨fun d t' p af g => ?_⟩
  simp [execOp,hx,Instr.sliceAt,run_underlying ht,Instr.sureAddr,hb,hz]
theorem Val_sliceStr {t:TypeId} {x:Operand} {lo hi:Option Operand} {b:ByteArray} {l h m:Nat} (ht:P.underlying t=some .string) (hx:ev n F x = .string b)
    (hb:∀ w,(Instr.sliceBounds false b.size b.size (lo.map (ev n F)) (hi.map (ev n F)) none).run P w = .ok (l,h,m) w) :
    Val P n F w (.slice t x lo hi none) (.string (b.extract l h)) w:=by
  refine ⟨fun d t' p af g => ?_⟩
  simp [execOp,hx,Instr.sliceAt,Instr.slice,run_underlying ht,hb]
theorem add_off (c o k:Nat):Addr.add ⟨c,o,none⟩ k=⟨c,o+k,none⟩:=Addr.add_lit c o k
theorem part_rel {b o z l h m c cap:Nat} {r:RI} {mk:Nat→Nat→Nat→HV} {a:Addr} (ha:a=⟨r.c,r.o+o,none⟩) (hl:l≤h) (hm:h≤m) (hmx:m≤maxLen)
    (hmk:l≠m∨l=0→VR ρ (mk b (o+l*z) (h - l)) (.slice (some ⟨r.c,r.o+(o+l*z),none⟩) (h - l) (m - l))) :
    VR ρ (part mk b o z l h) (.slice (some (if m=l then a else a.add (l*z))) (h - l) (m - l)):=by
  unfold part
  rw [bif_eq]
  split
  · rename_i hc
    simp only [Bool.and_eq_true,Bool.not_eq_true'] at hc
    have:=Nat.eq_of_beq_eq_true hc.1
    subst this
    unfold VR
    exact ⟨_,_,by rw [Nat.sub_self],by omega⟩
  · rename_i hc
    subst ha
    have hne:l≠m∨l=0:=by
      by_cases h0:l=0
      · exact .inr h0
      · left
        intro hlm
        apply hc
        have:h=l:=by omega
        subst this
        simp only [Bool.and_eq_true,Bool.not_eq_true',Nat.beq_refl,true_and]
        cases hb:Nat.beq h 0 with
        | false=>rfl
        | true=>exact absurd (Nat.eq_of_beq_eq_true hb) h0
    have:=hmk hne
    have e:(if m=l then (⟨r.c,r.o+o,none⟩:Addr) else Addr.add ⟨r.c,r.o+o,none⟩ (l*z))=⟨r.c,r.o+(o+l*z),none⟩:=by
      split
      · rename_i hml
        rcases hne with h | h
        · exact absurd hml.symm h
        · subst h; simp
      · rw [add_off,Nat.add_assoc]
    rw [e]
    exact this
theorem slice_ok (hc:CxOk P cx) (hH:RelH ρ s.hp w) (hE:EnvR ρ n s F) {t:Nat} {a:HV} {lo hi mx:Option HV} {x:Operand} {xlo xhi xmx:Option Operand} {r:Rs} (h:doSlice cx s t a lo hi mx=some r)
    (hx:VR ρ a (ev n F x)) (h1:evO s xlo=some lo) (h2:evO s xhi=some hi) (h3:evO s xmx=some mx):∃ v,r = .val v s ∧ ∃ u,Val P n F w (.slice t x xlo xhi xmx) u w∧VR ρ v u:=by
  unfold doSlice at h
  split at h
  · rename_i z l' h' m' hz hl' hh' hm'
    obtain ⟨ti,T⟩:=hc.ty hz
    have q1:=evO_rel hE h1 hl'
    have q2:=evO_rel hE h2 hh'
    have q3:=evO_rel hE h3 hm'
    have p1:(xlo.map (ev n F)=none∧orNat 0 l'=0) ∨ ∃ k,xlo.map (ev n F)=some (.int k (orNat 0 l':Nat)):=by
      rcases q1 with ⟨rfl,g⟩ | ⟨j,k,rfl,g⟩
      · exact .inl ⟨g,rfl⟩
      · exact .inr ⟨k,g⟩
    simp only at h
    generalize orNat 0 l'=l at h p1
    have p2:∀ d,m'=none→(xhi.map (ev n F)=none∧orNat d h'=d∧xmx.map (ev n F)=none) ∨ ∃ k,xhi.map (ev n F)=some (.int k (orNat d h':Nat)):=by
      intro d hmn
      rcases q2 with ⟨rfl,g⟩ | ⟨j,k,rfl,g⟩
      · left
        refine ⟨g,rfl,?_⟩
        rcases q3 with ⟨_,g⟩ | ⟨j,k,hj,_⟩
        · exact g
        · rw [hmn] at hj; cases hj
      · exact .inr ⟨k,g⟩
    have p3:m'=none→xmx.map (ev n F)=none:=fun hmn=>by
      rcases q3 with ⟨_,h⟩ | ⟨j,k,hj,_⟩
      · exact h
      · rw [hmn] at hj; cases hj
    have p4:∀ m,m'=some m → ∃ k,xmx.map (ev n F)=some (.int k (m:Int)):=fun m hm=>by
      rcases q3 with ⟨hn,_⟩ | ⟨j,k,hj,h⟩
      · rw [hm] at hn; cases hn
      · rw [hm] at hj; cases hj; exact ⟨k,h⟩
    have p5:∀ m,h'=some m → ∃ k,xhi.map (ev n F)=some (.int k (m:Int)):=fun m hm=>by
      rcases q2 with ⟨hn,_⟩ | ⟨j,k,hj,h⟩
      · rw [hm] at hn; cases hn
      · rw [hm] at hj; cases hj; exact ⟨k,h⟩
    split at h
    ·
      rename_i e b o len hs
      have hu:=sh_slice (T.sh.symm.trans hs)
      split at h
      · rename_i z2 y hz2 hy
        split at h
        · rename_i v hv
          cases h
          refine ⟨v,rfl,?_⟩
          unfold VR at hx
          obtain ⟨r,cap,hr,hx,c1,c2,c3,c4,c5⟩:=hx
          have hB:=blk_rel hH hy hr
          obtain ⟨g1,g2,_⟩:=hB
          unfold sliceSl at hv
          simp only [bif_eq] at hv
          split at hv
          · rename_i hcond
            simp only [Bool.and_eq_true,Nat.ble_eq] at hcond
            obtain ⟨⟨d1,d0⟩,d2,d3,d4⟩:=hcond
            have d3:=Nat.eq_of_beq_eq_true d3
            have hcap:∀ k,Nat.add o (Nat.mul k z2)≤y.n→k≤cap:=fun k hk=>by
              have hk:o+k*z2≤y.n:=hk
              have:k*z2≤cap*z2:=by rw [← d3,g2]; rw [← d3,g2] at hk; omega
              exact Nat.le_of_mul_le_mul_right this d1
            have hhc:=hcap _ d4
            split at hv
            ·
              cases hv
              refine ⟨_,Val_sliceS hu (hc.sizeOf hz2) hx (fun w=>run_bounds p1 (p2 len rfl) (.inl ⟨p3 rfl,rfl⟩) d2 hhc (Nat.le_refl _)),?_⟩
              have:=part_rel (ρ:=ρ) (b:=b) (z:=z2) (mk := .sl) (r:=r) (c:=0) (cap:=0) (a:=⟨r.c,r.o+o,none⟩) rfl d2 hhc c4 (fun hne=>by
                unfold VR
                have hm:(cap - l)*r.z+l*r.z=cap*r.z:=by rw [← Nat.add_mul]; congr 1; omega
                have:r.z=z2:=by rw [← g2,d3]
                rw [this] at hm c2 c3
                refine ⟨r,cap - l,hr,rfl,by omega,by rw [this]; omega,by rw [this]; omega,by omega,by omega⟩)
              split
              · rename_i hml; rw [if_pos hml] at this; exact this
              · rename_i hml; rw [if_neg hml] at this; exact this
            · cases hv
            · rename_i m hi2
              split at hv
              · rename_i hc2
                simp only [Bool.and_eq_true,Nat.ble_eq] at hc2
                obtain ⟨e1,e2⟩:=hc2
                have hmc:=hcap _ e2
                obtain ⟨k5,p5⟩:=p5 _ rfl
                obtain ⟨k4,p4⟩:=p4 _ rfl
                have d2':l≤hi2:=d2
                have e1':hi2≤m:=e1
                have d0':hi2≤140737488355328:=d0
                have hv1:=Val_sliceS (w:=w) hu (hc.sizeOf hz2) hx (fun w=>run_bounds p1 (.inr ⟨k5,p5⟩) (.inr ⟨k4,p4⟩) d2 e1 hmc)
                refine ⟨_,hv1,?_⟩
                split at hv
                · rename_i hml
                  have hml:=Nat.eq_of_beq_eq_true hml
                  cases hv
                  have:hi2=l:=by omega
                  unfold VR
                  refine ⟨⟨r.c,r.o+o,none⟩,?_⟩
                  have h0:hi2 - l=0:=by omega
                  have h1:m - l=0:=by omega
                  simp [h0,h1,hml]
                · rename_i hml
                  have hml:m≠l:=fun e=>hml (by rw [e]; exact Nat.beq_refl l)
                  split at hv
                  · rename_i hend
                    have hend:=Nat.eq_of_beq_eq_true hend
                    have hend:o+m*z2=y.n:=hend
                    cases hv
                    have hz:r.z=z2:=by rw [← g2,d3]
                    have hm:(m - l)*r.z+l*r.z=m*r.z:=by rw [← Nat.add_mul]; congr 1; omega
                    have hmm:m*z2≤cap*z2:=Nat.mul_le_mul_right _ hmc
                    rw [hz] at hm c2 c3
                    unfold VR
                    rw [if_neg hml]
                    simp only [orNat,Option.map_some,add_off]
                    refine ⟨r,m - l,hr,by rw [Nat.add_assoc]; rfl,by show hi2 - l≤m - l; omega,?_,?_,by omega,?_⟩
                    · rw [hz, ← g1]; show y.n≤o+l*z2+(m - l)*z2; omega
                    · rw [hz]; show r.o+(o+l*z2)+(m - l)*z2≤r.tot; omega
                    · show hi2 - l≤_; omega
                  · cases hv
                    unfold VR
                    trivial
              · cases hv
          · cases hv
        · cases h
      · cases h
    ·
      rename_i e b o len hs
      have hu:=sh_slice (T.sh.symm.trans hs)
      split at h
      · rename_i z2 hz2
        rw [bif_eq] at h
        split at h
        · rename_i hcond
          simp only [Bool.and_eq_true,Nat.ble_eq] at hcond
          cases h
          unfold VR at hx
          obtain ⟨r,cap,hr,hx,c1,c2,c3⟩:=hx
          refine ⟨_,rfl,_,Val_sliceS hu (hc.sizeOf hz2) hx (fun w=>run_bounds p1 (p2 len rfl) (.inl ⟨p3 rfl,rfl⟩) hcond.1 (Nat.le_trans hcond.2 c1) (Nat.le_refl _)),?_⟩
          have:=part_rel (ρ:=ρ) (b:=b) (z:=z2) (mk := .asl) (r:=r) (c:=0) (cap:=0) (a:=⟨r.c,r.o+o,none⟩) rfl hcond.1 (Nat.le_trans hcond.2 c1) c2 (fun hne=>by
            unfold VR
            exact ⟨r,cap - l,hr,rfl,by omega,by omega,by omega⟩)
          split
          · rename_i hml; rw [if_pos hml] at this; exact this
          · rename_i hml; rw [if_neg hml] at this; exact this
        · cases h
      · cases h
    ·
      rename_i e v0 hs hs2 hs3 hs4
      have hu:=sh_slice (T.sh.symm.trans hs2)
      split at h
      · rename_i z3 v hz3 hv
        cases h
        refine ⟨v,rfl,?_⟩
        have hz3:=fun w=>hc.sizeOf hz3 w
        unfold sliceEmp at hv
        simp only [bif_eq] at hv
        split at hv
        · rename_i hcond
          simp only [Bool.and_eq_true] at hcond
          have hl:=Nat.eq_of_beq_eq_true hcond.1
          have hh:=Nat.eq_of_beq_eq_true hcond.2.1
          have hm:=Nat.eq_of_beq_eq_true hcond.2.2
          subst hl
          have key:∀ (q:Option Addr) (c:Nat),ev n F x = .slice q 0 c→(m'=none ∨ ∃ j,m'=some j ∧ ∃ i,h'=some i) →
              Val P n F w (.slice t x xlo xhi xmx) (.slice q 0 (match m' with | none=>c | some _=>0)) w:=by
            intro q c hx how
            rcases how with rfl | ⟨j,rfl,i,rfl⟩
            · have:=Val_sliceS (w:=w) hu hz3 hx (fun w=>run_bounds p1 (p2 0 rfl) (.inl ⟨p3 rfl,rfl⟩) (Nat.zero_le _) (by rw [hh]; exact Nat.zero_le _) (Nat.le_refl _))
              rw [hh] at this
              have e:(if c=0 then q else q.map (·.add (0*z3)))=q:=by
                cases q with
                | none=>simp
                | some a=>simp [Addr.add]
              rw [e] at this
              exact this
            · obtain ⟨k5,p5⟩:=p5 _ rfl
              obtain ⟨k4,p4⟩:=p4 _ rfl
              simp only [orNat] at hh hm
              subst hh hm
              have:=Val_sliceS (w:=w) hu hz3 hx (fun w=>run_bounds p1 (.inr ⟨k5,p5⟩) (.inr ⟨k4,p4⟩) (Nat.zero_le _) (Nat.le_refl _) (Nat.zero_le _))
              simpa using this
          split at hv
          · cases hv; unfold VR at hx; exact ⟨_,key _ _ hx (.inl rfl),by unfold VR; rfl⟩
          · cases hv; unfold VR at hx; exact ⟨_,key _ _ hx (.inr ⟨_,rfl,_,rfl⟩),by unfold VR; rfl⟩
          · cases hv; unfold VR at hx; obtain ⟨a,hx⟩:=hx; exact ⟨_,key _ _ hx (.inl rfl),by unfold VR; exact ⟨a,rfl⟩⟩
          · cases hv; unfold VR at hx; obtain ⟨a,hx⟩:=hx; exact ⟨_,key _ _ hx (.inr ⟨_,rfl,_,rfl⟩),by unfold VR; exact ⟨a,rfl⟩⟩
          · cases hv; unfold VR at hx; obtain ⟨a,c,hx,hc⟩:=hx; exact ⟨_,key _ _ hx (.inl rfl),by unfold VR; exact ⟨a,c,rfl,hc⟩⟩
          · cases hv; unfold VR at hx; obtain ⟨a,c,hx,hc⟩:=hx; exact ⟨_,key _ _ hx (.inr ⟨_,rfl,_,rfl⟩),by unfold VR; exact ⟨a,rfl⟩⟩
          · cases hv
        · cases hv
      · cases h
    ·
      rename_i len e b o hs
      have hu:=sh_arr (T.sh.symm.trans hs)
      split at h
      · rename_i z2 hz2
        rw [bif_eq] at h
        split at h
        · rename_i hcond
          simp only [Bool.and_eq_true,Nat.ble_eq] at hcond
          cases h
          unfold VR at hx
          obtain ⟨r,hr,hx⟩:=hx
          have hmax:len≤maxLen:=by unfold maxLen; omega
          refine ⟨_,rfl,_,Val_sliceArr hu (hc.sizeOf hz2) hx (fun w=>run_bounds p1 (p2 len rfl) (.inl ⟨p3 rfl,rfl⟩) hcond.2.1 hcond.2.2 (Nat.le_refl _)),?_⟩
          exact part_rel (ρ:=ρ) (b:=b) (z:=z2) (mk := .asl) (r:=r) (c:=0) (cap:=0) (a:=⟨r.c,r.o+o,none⟩) rfl hcond.2.1 hcond.2.2 hmax (fun hne=>by
            unfold VR
            exact ⟨r,len - l,hr,rfl,by omega,by omega,by omega⟩)
        · cases h
      · cases h
    ·
      rename_i b hs
      have hu:=sh_str (T.sh.symm.trans hs)
      split at h
      · rw [bif_eq] at h
        split at h
        · rename_i hcond
          simp only [Bool.and_eq_true,Nat.ble_eq] at hcond
          cases h
          unfold VR at hx
          have hxm:xmx=none:=by
            have:=p3 rfl
            cases xmx with
            | none=>rfl
            | some y=>cases this
          subst hxm
          refine ⟨_,rfl,_,Val_sliceStr hu hx (fun w=>run_bounds p1 (p2 b.size rfl) (.inl ⟨rfl,rfl⟩) hcond.1 hcond.2 (Nat.le_refl _)),by unfold VR; rfl⟩
        · cases h
      · cases h
    · cases h
  · cases h
end
end Go.Hm
namespace Go.Hm
open Go Go.RowKit Go.Wk
theorem byteArray_of (l:List UInt8):∀ (b:ByteArray),(l.foldl (fun r n=>r.push n) b)=⟨⟨b.data.toList++l⟩⟩:=by
  induction l with
  | nil=>intro b; simp
  | cons a l ih=>intro b; rw [List.foldl_cons,ih]; simp [ByteArray.push]
section
variable {P:Program} {n:Nat} {F:Env} {ρ:Rn} {s:St} {w:World} {cx:Cx}
theorem toBytes_rel:∀ {l:List HV} {us:List Value} {bs:List UInt8},toBytes l=some bs→VRs ρ l us → ∃ ns:List Int,us=ns.map (Value.int .u8)∧bs=ns.map fun n=>UInt8.ofNat n.toNat
  | [],us,bs,h,hu=>by cases h; unfold VRs at hu; exact ⟨[],by simp [hu],rfl⟩
  | a::l,us,bs,h,hu=>by
    unfold toBytes at h
    split at h
    · rename_i he; cases he
    · rename_i m r he
      cases he
      unfold VRs at hu
      obtain ⟨u,us',rfl,h1,h2⟩:=hu
      split at h
      · rename_i l' hl
        cases h
        obtain ⟨ns,rfl,rfl⟩:=toBytes_rel hl h2
        unfold VR at h1
        exact ⟨Int.ofNat m::ns,by rw [h1]; rfl,rfl⟩
      · cases h
    · cases h
theorem lenOf_cells {z:Nat} {v:HV} {l:List HV} (h:cellsOf s z v=some l):∃ m,lenOf v=some m:=by
  cases v <;> first | exact ⟨_,rfl⟩ | cases h
theorem bytes_run {v:HV} {u:Value} {l:List HV} {bs:List UInt8} (hH:RelH ρ s.hp w) (hl:cellsOf s 1 v=some l) (hbs:toBytes l=some bs) (hx:VR ρ v u) :
    ∃ a m c,u = .slice a m c∧(Conv.bytesToString (.slice a m c)).run P w = .ok (.string ⟨⟨bs⟩⟩) w:=by
  obtain ⟨m,hm⟩:=lenOf_cells hl
  obtain ⟨us,ad,c,g1,g2,g3,g4,g5,g6,g7,g8⟩:=cellsOf_rel hH hl hm hx
  obtain ⟨ns,hus,rfl⟩:=toBytes_rel hbs g5
  refine ⟨ad,m,c,g1,?_⟩
  rw [hus,List.length_map,Nat.mul_one] at g6
  rcases g8 with ⟨_,h0⟩ | ⟨b,o,rfl,hcell⟩
  · rw [h0] at hus
    have hn:ns=[]:=by simpa using hus.symm
    subst hn
    have hm0:m=0:=g6.symm
    subst hm0
    cases ad with
    | none=>rfl
    | some q=>rw [run_bytesToString w q 0 c [] (by simp [loadCells,loadCellsFrom])]; rfl
  · rw [hus] at hcell
    have hl2:(loadCells ⟨b,o,none⟩ m).run P w = .ok (ns.map (Value.int .u8)).toArray w:=by
      have:=run_loadCells_list (P:=P) w ⟨b,o,none⟩ (ns.map (Value.int .u8)) (fun j v hv=>by rw [add_off]; exact hcell j v hv)
      rw [List.length_map,g6] at this
      exact this
    rw [run_bytesToString w _ m c ns hl2]
    have:=byteArray_of (ns.map fun n=>UInt8.ofNat n.toNat) ByteArray.empty
    rw [List.foldl_map] at this
    rw [this]
    rfl
theorem convert_ok (hc:CxOk P cx) (hH:RelH ρ s.hp w) {t1 t2:TypeId} {a:HV} {x:Operand} {r:Rs} (h:doConvert cx s t1 t2 a=some r) (hx:VR ρ a (ev n F x)):∃ v,r = .val v s ∧ ∃ u,Val P n F w (.convert t1 t2 x) u w∧VR ρ v u:=by
  unfold doConvert at h
  split at h
  · rename_i z1 z2 hz1 hz2
    obtain ⟨i1,T1⟩:=hc.ty hz1
    obtain ⟨i2,T2⟩:=hc.ty hz2
    obtain ⟨d1,hd1⟩:=T1.und
    split at h
    · rename_i k q m hs
      cases h
      have hu:=sh_int (T2.sh.symm.trans hs)
      unfold VR at hx
      exact ⟨_,rfl,_,Val_convw hd1 hu hx,by unfold VR; rw [wrapI_eq]⟩
    · rename_i b hs
      cases h
      have hu:=sh_str (T2.sh.symm.trans hs)
      unfold VR at hx
      refine ⟨_,rfl,.string b,⟨fun d t' p af g => ?_⟩,by unfold VR; rfl⟩
      cases d1 <;> simp [execOp,hx,convert,run_underlying hd1,run_underlying hu]
    · rename_i hs hne
      have hu:=sh_str (T2.sh.symm.trans hs)
      split at h
      · rename_i e hs1
        have hu1:=sh_slice (T1.sh.symm.trans hs1)
        split at h
        · rename_i q hq
          obtain ⟨i3,T3⟩:=hc.ty hq
          split at h
          · rename_i hs3
            have hu3:=sh_int (T3.sh.symm.trans hs3)
            split at h
            · rename_i l hl
              split at h
              · rename_i bs hbs
                cases h
                obtain ⟨ad,m,c,g1,g2⟩:=bytes_run (P:=P) hH hl hbs hx
                refine ⟨_,rfl,.string ⟨⟨bs⟩⟩,⟨fun d t' p af g => ?_⟩,by unfold VR; rfl⟩
                simp [execOp,g1,convert,run_underlying hu1,run_underlying hu,run_underlying hu3,g2]
              · cases h
            · cases h
          · cases h
        · cases h
      · cases h
    · cases h
  · cases h
theorem len_ok (hc:CxOk P cx) (hH:RelH ρ s.hp w) {t:TypeId} {x:Operand} {v:HV} {m:Nat} (hv:VR ρ v (ev n F x)) (hs:∃ z,cx.ti.get t=some z∧((∃ e,z.sh = .slice e∧(∀ b,v ≠ .str b))∨(z.sh = .str ∧ ∃ b,v = .str b))) (hm:lenOf v=some m) :
    Val P n F w (.call { callee := .builtin .len,args := #[x],argTypes := #[t] }) (.int .i64 (m:Int)) w:=by
  obtain ⟨z,hz,hs⟩:=hs
  obtain ⟨i,T⟩:=hc.ty hz
  rcases hs with ⟨e,hs,hne⟩ | ⟨hs,b,rfl⟩
  · have hu:=sh_slice (T.sh.symm.trans hs)
    have:∃ a c,ev n F x = .slice a m c:=by
      unfold lenOf at hm
      split at hm
      · cases hm; unfold VR at hv; exact ⟨_,_,hv⟩
      · cases hm; unfold VR at hv; obtain ⟨a,hv⟩:=hv; exact ⟨_,_,hv⟩
      · cases hm; unfold VR at hv; obtain ⟨a,c,hv,_⟩:=hv; exact ⟨_,_,hv⟩
      · cases hm; unfold VR at hv; obtain ⟨r,c,_,hv,_⟩:=hv; exact ⟨_,_,hv⟩
      · cases hm; unfold VR at hv; obtain ⟨r,c,_,hv,_⟩:=hv; exact ⟨_,_,hv⟩
      · rename_i b; exact absurd rfl (hne b)
      · cases hm
    obtain ⟨a,c,hx⟩:=this
    exact Val_len hu hx
  · have hu:=sh_str (T.sh.symm.trans hs)
    cases hm
    unfold VR at hv
    refine ⟨fun d t' p af g => ?_⟩
    simp [execOp,hv,resolve,invoke,builtin,Builtin.len_,run_underlying hu,goInt]
end
end Go.Hm
namespace Go.Hm
open Go Go.RowKit Go.Wk
section
variable {P:Program} {n:Nat} {F:Env} {ρ:Rn} {s:St} {w:World} {cx:Cx}
theorem index_ok (hc:CxOk P cx) {t:TypeId} {x i:Operand} {v0 j0:HV} {r:Rs} (h:doIndex cx s t v0 j0=some r) (hx:VR ρ v0 (ev n F x)) (hj:VR ρ j0 (ev n F i)):∃ v,r = .val v s ∧ ∃ u,Val P n F w (.index t x i) u w∧VR ρ v u:=by
  unfold doIndex at h
  split at h
  · rename_i j hj2
    obtain ⟨k,hk⟩:=natOf_rel hj2 hj
    split at h
    · rename_i b
      unfold VR at hx
      split at h
      · rename_i z hz
        obtain ⟨ti,T⟩:=hc.ty hz
        split at h
        · rename_i hs
          have hu:=sh_str (T.sh.symm.trans hs)
          split at h
          · rename_i c hc2
            cases h
            refine ⟨_,rfl,_,⟨fun d t' p af g => ?_⟩,by unfold VR; rfl⟩
            simp [execOp,hx,hk,Instr.index,asIntOf,run_underlying hu,hc2]
          · cases h
        · cases h
      · cases h
    · rename_i l
      unfold VR at hx
      obtain ⟨us,hx,h1,h2⟩:=hx
      split at h
      · rename_i z hz
        obtain ⟨ti,T⟩:=hc.ty hz
        split at h
        · rename_i m e hs
          have hu:=sh_arr (T.sh.symm.trans hs)
          split at h
          · rename_i y hy
            obtain ⟨tj,T2⟩:=hc.ty hy
            rw [bif_eq] at h
            split at h
            · rename_i hcond
              simp only [Bool.and_eq_true,Bool.not_eq_true'] at hcond
              obtain ⟨c1,c2,c3⟩:=hcond
              have c2:=Nat.eq_of_beq_eq_true c2
              split at h
              · rename_i v hv
                cases h
                obtain ⟨u,h3,h4⟩:=VRs_get h1 j v hv
                exact ⟨_,rfl,u,Val_index1 hu (fun w=>by rw [T2.sizeOf,c2]) (fun w=>by rw [T2.isAgg,c1]) hx hk (blt_iff.1 c3) h3,h4⟩
              · cases h
            · cases h
          · cases h
        · cases h
      · cases h
    · cases h
  · cases h
theorem intMap_some (hc:CxOk P cx) {t e:Nat} (h:cx.intMap t=some e):∃ k q,P.underlying t=some (.map k e)∧P.underlying k=some (.int q):=by
  unfold Cx.intMap at h
  split at h
  · rename_i x hx
    obtain ⟨i,T⟩:=hc.ty hx
    split at h
    · rename_i k e' hs
      split at h
      · rename_i y hy
        obtain ⟨j,T2⟩:=hc.ty hy
        split at h
        · rename_i q hq
          cases h
          exact ⟨k,q,sh_map (T.sh.symm.trans hs),sh_int (T2.sh.symm.trans hq)⟩
        · cases h
      · cases h
    · cases h
  · cases h
theorem inKeys_rel {q q0:IntKind} {k:Int}:∀ {es:List (HV×HV)} {en:List MapEntry} {r:Option HV} (i:Nat),MapsR ρ es en→inKeys q k es=some r →
    (r=none∧Instr.findNow (.int q0) (.int q k) en i=some none) ∨ ∃ v u j,r=some v∧Instr.findNow (.int q0) (.int q k) en i=some (some (j,u))∧VR ρ v u
  | [],en,r,i,hm,h=>by
    unfold MapsR at hm
    subst hm
    cases h
    exact .inl ⟨rfl,rfl⟩
  | (a,v)::es,en,r,i,hm,h=>by
    unfold MapsR at hm
    obtain ⟨e,en',rfl,⟨q',b,rfl⟩,h2,h3,h4⟩:=hm
    unfold VR at h2
    unfold inKeys at h
    simp only [bif_eq,decide_eq_true_eq] at h
    split at h
    · rename_i hq
      subst hq
      split at h
      · rename_i hk
        subst hk
        cases h
        right
        refine ⟨v,e.val,i,rfl,?_,h3⟩
        unfold Instr.findNow
        rw [h2]
        simp [Instr.sameNow]
      · rename_i hk
        have:=inKeys_rel (q0:=q0) (i+1) h4 h
        unfold Instr.findNow
        rw [h2]
        have hb:(k == b)=false:=by simpa using hk
        simp only [Instr.sameNow,if_true,hb]
        exact this
    · cases h
theorem checkKey_ok {k:TypeId} {q q1:IntKind} {a:Int} (hk:P.underlying k=some (.int q)) (em:Bool):(Instr.checkKey em 10000 k (.int q1 a)).run P w = .ok () w:=by
  unfold Instr.checkKey
  simp [run_underlying hk]
theorem lookup_ok (hc:CxOk P cx) (hH:RelH ρ s.hp w) {t:TypeId} {x i:Operand} {m i0:HV} {ok:Bool} {r:Rs} (h:doLookup cx s t m i0 ok=some r) (hm:VR ρ m (ev n F x)) (hk:VR ρ i0 (ev n F i)):∃ v,r = .val v s ∧ ∃ u,Val P n F w (.lookup t x i ok) u w∧VR ρ v u:=by
  unfold doLookup at h
  split at h
  · rename_i e q k he
    obtain ⟨kt,q0,hu,huk⟩:=intMap_some hc he
    unfold VR at hk
    have main:∀ (es:List (HV×HV)) (en:Array MapEntry) (o:Option HV),inKeys q k es=some o→MapsR ρ es en.toList →
        (∀ w':World,(ev n F x = .map none∧en = #[]) ∨ ∃ c clock,ev n F x = .map (some c)∧(getObj c).run P w = .ok (.map en clock) w) →
        ((o=none ∧ ∃ z,cx.zeroAt e=some z∧r = .val (bif ok then .tup [z,.bool false] else z) s) ∨ ∃ v,o=some v∧r = .val (bif ok then .tup [v,.bool true] else v) s) →
        ∃ v,r = .val v s ∧ ∃ u,Val P n F w (.lookup t x i ok) u w∧VR ρ v u:=by
      intro es en o ho hM hX how
      have hx:=hX w
      clear hX
      have fin:∀ (v:HV) (u:Value) (b:Bool) (hf:(Instr.findKey kt (.int q k) en.toList).run P w = .ok (if b then some (0,u) else none) w ∨ ∃ j,b=true∧(Instr.findKey kt (.int q k) en.toList).run P w = .ok (some (j,u)) w)
          (hz:b=false→(zeroValue e).run P w = .ok u w) (hv:VR ρ v u), ∃ u,Val P n F w (.lookup t x i ok) u w∧VR ρ (bif ok then .tup [v,.bool b] else v) u:=by
        intro v u b hf hz hv
        refine ⟨if ok then .tuple #[u,.bool b] else u,⟨fun d t' p af g => ?_⟩,?_⟩
        · cases b with
          | true =>
            have hf:∃ j,(Instr.findKey kt (.int q k) en.toList).run P w = .ok (some (j,u)) w:=by
              rcases hf with h | ⟨j,_,h⟩
              · exact ⟨0,h⟩
              · exact ⟨j,h⟩
            obtain ⟨j,hf⟩:=hf
            rcases hx with ⟨hx,rfl⟩ | ⟨c,clock,hx,hg⟩
            · simp [execOp,hx,hk,Instr.lookup,run_underlying hu,checkKey_ok huk,hf]
            · simp [execOp,hx,hk,Instr.lookup,run_underlying hu,checkKey_ok huk,hf,hg]
          | false =>
            have hf:(Instr.findKey kt (.int q k) en.toList).run P w = .ok none w:=by
              rcases hf with h | ⟨j,h,_⟩
              · exact h
              · cases h
            have hz:=hz rfl
            rcases hx with ⟨hx,rfl⟩ | ⟨c,clock,hx,hg⟩
            · simp [execOp,hx,hk,Instr.lookup,run_underlying hu,checkKey_ok huk,hf,hz]
            · simp [execOp,hx,hk,Instr.lookup,run_underlying hu,checkKey_ok huk,hf,hg,hz]
        · cases ok with
          | true =>
            show VR ρ (.tup [v,.bool b]) (.tuple #[u,.bool b])
            unfold VR
            refine ⟨[u,.bool b],rfl,?_⟩
            unfold VRs
            refine ⟨u,[.bool b],rfl,hv,?_⟩
            unfold VRs
            exact ⟨.bool b,[],rfl,by unfold VR; rfl,by unfold VRs; rfl⟩
          | false=>exact hv
      have hfk:∀ o',Instr.findNow (.int q0) (.int q k) en.toList 0=some o'→(Instr.findKey kt (.int q k) en.toList).run P w = .ok o' w:=fun o' ho'=>by
        simp [Instr.findKey,run_underlying huk,ho']
      rcases how with ⟨ho2,z,hz,hr⟩ | ⟨v,ho2,hr⟩
      · subst ho2
        rcases inKeys_rel (q0:=q0) 0 hM ho with ⟨_,h2⟩ | ⟨v,u,j,h1,_⟩
        · unfold Cx.zeroAt at hz
          split at hz
          · rename_i y hy
            obtain ⟨ty,T⟩:=hc.ty hy
            obtain ⟨u,hv1,hv2⟩:=T.zeroV hz
            exact ⟨_,hr,fin z u false (.inl (hfk _ h2)) (fun _=>hv2 w) (ofV_rel hv1)⟩
          · cases hz
        · cases h1
      · subst ho2
        rcases inKeys_rel (q0:=q0) 0 hM ho with ⟨h1,_⟩ | ⟨v',u,j,h1,h2,h3⟩
        · cases h1
        · cases h1
          exact ⟨_,hr,fin v u true (.inr ⟨j,rfl,hfk _ h2⟩) (fun h=>by cases h) h3⟩
    have here:∀ o,found s q k m=some o → ∃ es en,inKeys q k es=some o∧MapsR ρ es en.toList ∧ ∀ w':World,(ev n F x = .map none∧en = #[]) ∨ ∃ c clock,ev n F x = .map (some c)∧(getObj c).run P w = .ok (.map en clock) w:=by
      intro o ho
      unfold found at ho
      split at ho
      · rename_i b
        unfold VR at hm
        obtain ⟨rr,hr,hm⟩:=hm
        split at ho
        · rename_i es hes
          obtain ⟨en,cl,g1,g2⟩:=hH.map b es rr hes hr
          refine ⟨es,en,ho,g2,fun _ => .inr ⟨rr.c,cl,hm,?_⟩⟩
          simp [getObj,Sem.run,g1]
        · cases ho
      · cases ho
        unfold VR at hm
        exact ⟨[], #[],rfl,by unfold MapsR; rfl,fun _ => .inl ⟨hm,rfl⟩⟩
      · cases ho
    split at h
    · rename_i v hv
      cases h
      obtain ⟨es,en,g1,g2,g3⟩:=here _ hv
      exact main es en (some v) g1 g2 g3 (.inr ⟨v,rfl,rfl⟩)
    · rename_i hv
      obtain ⟨es,en,g1,g2,g3⟩:=here _ hv
      split at h
      · rename_i z hz
        cases h
        exact main es en none g1 g2 g3 (.inl ⟨rfl,z,hz,rfl⟩)
      · cases h
    · cases h
  · cases h
theorem minmax_ok {b:Bool} {args:List Operand} {l:List HV} {v:HV} {ts:Array TypeId} (hE:EnvR ρ n s F) (hl:s.evs args=some l) (h:minmax b l=some v) :
    ∃ u,Val P n F w (.call { callee := .builtin (bif b then .max else .min),args:=args.toArray,argTypes:=ts }) u w∧VR ρ v u:=by
  have hr:=evs_rel hE hl
  unfold minmax at h
  split at h
  · rename_i a c
    cases h
    unfold VRs at hr
    obtain ⟨u1,us,h1,h2,h3⟩:=hr
    unfold VRs at h3
    obtain ⟨u2,us2,rfl,h4,h5⟩:=h3
    unfold VRs at h5
    subst h5
    unfold VR at h2 h4
    match args,h1 with
    | [x,y],h1 =>
      simp only [List.map_cons,List.map_nil,List.cons.injEq,and_true] at h1
      rw [h2,h4] at h1
      cases b with
      | false =>
        refine ⟨_,Val_min h1.1 h1.2,?_⟩
        unfold VR
        simp only [cond_false,bif_eq,decide_eq_true_eq]
        congr 1
      | true =>
        refine ⟨_,Val_max h1.1 h1.2,?_⟩
        unfold VR
        simp only [cond_true,bif_eq,decide_eq_true_eq]
        congr 1
  · cases h
end
end Go.Hm
namespace Go.Hm
open Go Go.RowKit Go.Wk
section
variable {P:Program} {n:Nat} {F:Env} {ρ:Rn} {s:St} {w:World} {cx:Cx}
theorem elem_ok (hc:CxOk P cx) {e:Nat} {y:El} (h:cx.elem e=some y):∃ zv:Value,Elem P e y.z zv y.by_ ∧ ∀ ρ:Rn,VRs ρ y.zc zv.cells.toList ∧ ∀ u,u∈zv.cells.toList→u.oneCell'=true:=by
  unfold Cx.elem at h
  split at h
  · rename_i x hx
    obtain ⟨i,T⟩:=hc.ty hx
    split at h
    · rename_i v hv
      obtain ⟨zv,h1,h2⟩:=T.zero v hv
      split at h
      · rename_i c hcv
        rw [bif_eq] at h
        split at h
        · rename_i hcond
          cases h
          simp only [Bool.and_eq_true,Nat.ble_eq] at hcond
          obtain ⟨c1,c2,c3⟩:=hcond
          have c3:=Nat.eq_of_beq_eq_true c3
          have hr:∀ ρ:Rn,VRs ρ c zv.cells.toList ∧ ∀ u,u∈zv.cells.toList→u.oneCell'=true:=fun ρ=>bcells_rel hcv (ofV_rel h2)
          have hl:=VRs_len (hr (fun _=>none)).1
          refine ⟨zv,⟨⟨i,T.info,h1,T.size,T.bytes⟩,?_,c1,c2⟩,hr⟩
          show zv.cells.size=x.size
          rw [← c3, ← hl]; simp
        · cases h
      · cases h
    · cases h
  · cases h
theorem sliceEl_ok (hc:CxOk P cx) {t:Nat} {y:El} (h:cx.sliceEl t=some y):∃ e,P.underlying t=some (.slice e)∧cx.elem e=some y:=by
  unfold Cx.sliceEl at h
  split at h
  · rename_i x hx
    obtain ⟨i,T⟩:=hc.ty hx
    split at h
    · rename_i e hs
      exact ⟨e,sh_slice (T.sh.symm.trans hs),h⟩
    · cases h
  · cases h
theorem new_ok {o:Op} {v:HV} {u:Value} {z:Nat} {l:List HV} {us ex:List Value} {T:TypeId} (hH:RelH ρ s.hp w) (hv:Val P n F w o u (w.alloc (.cells (us++ex).toArray T))) (hl:VRs ρ l us) (h1:∀ x,x∈us→x.oneCell'=true)
    (hr:∀ ρ':Rn,ρ' s.nx=some ⟨w.heap.size,0,l.length,z,(us++ex).length⟩→VR ρ' v u):OpOk P n F ρ s w o (.val v (s.new z l).2):=by
  intro hU
  have u0:ρ s.nx=none:=hU s.nx (Nat.le_refl _) (Nat.lt_succ_self _)
  exact ⟨u,_,_,hv,hr _ (updR_same _ _ _),Post.new hH u0 hl h1 (Kp.refl _ w) rfl,rfl,rfl,rfl⟩
theorem alloc_ok (hc:CxOk P cx) (hH:RelH ρ s.hp w) {t:Nat} {r:Rs} (h:doAlloc cx s t=some r):OpOk P n F ρ s w (.alloc t) r:=by
  unfold doAlloc at h
  split at h
  · rename_i x hx
    obtain ⟨i,T⟩:=hc.ty hx
    split at h
    · rename_i z hz
      split at h
      · rename_i c hcv
        cases h
        obtain ⟨zv,h1,h2⟩:=T.zeroV hz
        obtain ⟨h3,h4⟩:=bcells_rel (ρ:=ρ) hcv (ofV_rel h1)
        refine new_ok (us:=zv.cells.toList) (ex:=[]) (T:=t) (u := .pointer (some ⟨w.heap.size,0,none⟩)) hH ?_ h3 h4 (fun ρ' hr => ?_)
        · rw [List.append_nil]
          exact Val_alloc h2 (by simp)
        · unfold VR
          exact ⟨_,hr,rfl⟩
      · cases h
    · cases h
  · cases h
theorem box_ok (hH:RelH ρ s.hp w) {t:TypeId} {x:Operand} {v:HV} {r:Rs} (h:doBox s v=some r) (hx:VR ρ v (ev n F x)):OpOk P n F ρ s w (.box t x) r:=by
  unfold doBox at h
  split at h
  · rename_i c hcv
    cases h
    obtain ⟨h3,h4⟩:=bcells_rel hcv hx
    refine new_ok (us:=(ev n F x).cells.toList) (ex:=[]) (T:=t) (u := .pointer (some ⟨w.heap.size,0,none⟩)) hH ⟨fun d t' p af g => ?_⟩ h3 h4 (fun ρ' hr => ?_)
    · simp [execOp,Instr.box,newVar,newRow]
    · unfold VR
      exact ⟨_,hr,rfl⟩
  · cases h
theorem repl_rel {l:List HV} {us:List Value} (h:VRs ρ l us):∀ k,VRs ρ (repl l k) (List.replicate k us).flatten
  | 0=>by unfold repl VRs; rfl
  | k+1=>by
    unfold repl
    rw [List.replicate_succ,List.flatten_cons]
    exact VRs_app h (repl_rel h k)
theorem repl_len (l:List HV):∀ k,(repl l k).length=k*l.length
  | 0=>by simp [repl]
  | k+1=>by unfold repl; rw [List.length_append,repl_len l k,Nat.add_mul]; omega
theorem repl_one {us:List Value} (h:∀ u,u∈us→u.oneCell'=true) (k:Nat):∀ u,u∈(List.replicate k us).flatten→u.oneCell'=true:=by
  intro u hu
  obtain ⟨r,hr,hu⟩:=List.mem_flatten.1 hu
  rw [List.eq_of_mem_replicate hr] at hu
  exact h u hu
theorem makeSlice_ok (hc:CxOk P cx) (hH:RelH ρ s.hp w) {t:Nat} {x y:Operand} {l c:HV} {r:Rs} (h:doMakeSlice cx s t l c=some r) (hx:VR ρ l (ev n F x)) (hy:VR ρ c (ev n F y)):OpOk P n F ρ s w (.makeSlice t x y) r:=by
  unfold doMakeSlice at h
  split at h
  · rename_i el m k hel hm hk
    rw [bif_eq] at h
    split at h
    · rename_i hcond
      simp only [Bool.and_eq_true,Nat.ble_eq,roomOk] at hcond
      cases h
      obtain ⟨c1,c2⟩:=hcond
      have c2:k*el.by_≤4294967296:=c2
      obtain ⟨kx,hx⟩:=natOf_rel hm hx
      obtain ⟨ky,hy⟩:=natOf_rel hk hy
      obtain ⟨e,hu,hel⟩:=sliceEl_ok hc hel
      obtain ⟨zv,hE,hz⟩:=elem_ok hc hel
      obtain ⟨i,hi,hz0,hsz,hby⟩:=hE.info
      have hc2:k≤4294967296:=by
        have:k*1≤k*el.by_:=Nat.mul_le_mul_left _ hE.bpos
        omega
      have hb1:(i.bytes:Int)*(k:Int)≤281474976710656:=by
        rw [hby]
        have:((k*el.by_:Nat):Int)≤4294967296:=by omega
        rw [Int.natCast_mul,Int.mul_comm] at this
        omega
      have hrun:=run_make (P:=P) w t e i zv hu hi hz0 kx ky (m:Int) (k:Int) (by omega) (by omega) hb1 (by omega)
      simp only [Int.toNat_natCast] at hrun
      rw [hsz, ← hE.cells,madeCells_rows] at hrun
      have hrep:=repl_rel (hz ρ).1 k
      have hlen:=VRs_len (hz ρ).1
      have hzl:el.zc.length=el.z:=by rw [← hlen]; simpa using hE.cells
      refine new_ok (us:=(List.replicate k zv.cells.toList).flatten) (ex:=[]) (T:=e) (u := .slice (some ⟨w.heap.size,0,none⟩) m k) hH ⟨fun d t' p af g => ?_⟩ hrep (repl_one (hz ρ).2 k) (fun ρ' hr => ?_)
      · simp [execOp,hx,hy,hrun]
      · unfold VR
        have hl:=repl_len el.zc k
        have hl2:=VRs_len hrep
        refine ⟨_,k,hr,rfl,c1,?_,?_,by unfold maxLen; omega,by omega⟩
        · simp only [hl,hzl]; omega
        · simp only [List.append_nil,hl2,hl,hzl]; omega
    · cases h
  · cases h
theorem store_ok (hc:CxOk P cx) (hH:RelH ρ s.hp w) {t:Nat} {x y:Operand} {a v:HV} {r:Rs} (h:doStore cx s t a v=some r) (hx:VR ρ a (ev n F x)) (hy:VR ρ v (ev n F y)):OpOk P n F ρ s w (.store t x y) r:=by
  unfold doStore at h
  split at h
  · rename_i b o
    split at h
    · rename_i z c hz hcv
      obtain ⟨i,T⟩:=hc.ty hz
      rw [bif_eq] at h
      split at h
      · rename_i hlen
        have hlen:=Nat.eq_of_beq_eq_true hlen
        split at h
        · rename_i s' hs'
          cases h
          unfold VR at hx
          obtain ⟨q,hq,hx⟩:=hx
          obtain ⟨h3,h4⟩:=bcells_rel hcv hy
          obtain ⟨hp,xs,T',g1,g2⟩:=Post.write hH hq hs' h3 h4
          have hl2:=VRs_len h3
          have hst:=run_storeCells_cells (P:=P) q.c (q.o+o) (ev n F y).cells.toList 0 w (fun j hj=>by
            rw [cells_at g1,Array.getElem?_eq_getElem (by omega)]; rfl) (fun j hj=>by simp [World.frozen?,g1]) h4
          simp only [Nat.add_zero] at hst
          have heq:s'.nt=s.nt∧s'.env=s.env∧s'.lk=s.lk∧s'.nx=s.nx:=by
            unfold St.write at hs'
            split at hs'
            · rw [bif_eq] at hs'
              split at hs'
              · cases hs'; exact ⟨rfl,rfl,rfl,rfl⟩
              · cases hs'
            · cases hs'
          refine ⟨_,⟨fun d t' p af g => ?_⟩,hp,heq.1,heq.2.1,heq.2.2.1,heq.2.2.2⟩
          have hsz:(ev n F y).cells.size=z.size:=by rw [← hlen, ← hl2]; simp
          simp [execOp,hx,Instr.storeAt,Instr.sureAddr,storeVar,T.sizeOf,hsz,hst]
        · cases h
      · cases h
    · cases h
  · cases h
theorem makeMap_ok (hH:RelH ρ s.hp w) {t:TypeId} {r:Rs} (h:doMap s=some r):OpOk P n F ρ s w (.makeMap t none) r:=by
  unfold doMap at h
  cases h
  intro hU
  have u0:ρ s.nx=none:=hU s.nx (Nat.le_refl _) (Nat.lt_succ_self _)
  have hold:∀ c,c<w.heap.size→(w.alloc (.map #[] 0)).heap[c]?=w.heap[c]?:=fun c hc=>(Kp.alloc w (.map #[] 0)).block c hc (by simp)
  have hne:∀ i,i≠s.nx→(s.hp.set s.nx (.map [])).get i=s.hp.get i:=fun i hi=>Tr.get_set_ne _ _ hi
  have hx:=updR_ext (r:=⟨w.heap.size,0,0,0,0⟩) u0
  refine ⟨.map (some w.heap.size),w.alloc (.map #[] 0),updR ρ s.nx ⟨w.heap.size,0,0,0,0⟩,⟨fun d t' p af g => ?_⟩,?_,⟨?_,?_,KpS.of (Kp.alloc w _) (fun _ h=>by cases h),?_,Nat.le_succ _⟩,rfl,rfl,rfl⟩
  · simp [execOp,Instr.makeMap]
  · unfold VR; exact ⟨_,updR_same _ _ _,rfl⟩
  · refine hH.step (b:=s.nx) (fun i hi=>updR_ne _ _ hi) hx (Kp.alloc w _).size (fun i hi o ho=>by rw [← ho]; exact (hne i hi).symm) (fun i o r hi ho hr hlt=>hold _ hlt) ?_ ?_ ?_
    · intro x r hx1 hr
      simp only [Tr.get_set_same] at hx1
      cases hx1
    · intro es r hx1 hr
      simp only [Tr.get_set_same] at hx1
      cases hx1
      rw [updR_same] at hr
      cases hr
      exact ⟨#[],0,heap_alloc_new w _,by unfold MapsR; rfl⟩
    · intro i o o' r r' hi ho ho' how hr hr'
      rw [updR_same] at hr'
      cases hr'
      have hlt:=hH.at (by rw [← hne i hi]; exact ho) hr
      simp only
      omega
  · intro b hb
    refine updR_ne _ _ ?_
    simp only [Nat.add_eq] at hb
    omega
  · intro c hcD
    obtain ⟨b,o,r,g1,g2,g3,rfl⟩:=hcD
    by_cases hb:b=s.nx
    · subst hb
      rw [updR_same] at g3
      cases g3
      exact .inr (Nat.le_refl _)
    · rw [updR_ne _ _ hb] at g3
      exact .inl ⟨b,o,r,by rw [← hne b hb]; exact g1,g2,g3,rfl⟩
end
end Go.Hm
namespace Go.Hm
open Go Go.RowKit Go.Wk
def setV (cs:List Value):Nat→List Value→List Value
  | _,[]=>cs
  | o,v::vs=>setV (cs.set o v) (o+1) vs
theorem fold_set (off:Nat):∀ (l:List Value) (k:Nat) (A:List Value),(l.zipIdx k).foldl (fun cs (c,j)=>cs.setIfInBounds (off+j) c) A.toArray=(setV A (off+k) l).toArray
  | [],k,A=>rfl
  | v::l,k,A=>by
    rw [List.zipIdx_cons,List.foldl_cons]
    have:A.toArray.setIfInBounds (off+k) v=(A.set (off+k) v).toArray:=by simp
    simp only [this]
    rw [fold_set off l (k+1),setV]
    rfl
theorem setV_len:∀ (l cs:List Value) (o:Nat),(setV cs o l).length=cs.length
  | [],cs,o=>rfl
  | v::l,cs,o=>by rw [setV,setV_len]; simp
section
variable {P:Program} {n:Nat} {F:Env} {ρ:Rn} {s:St} {w:World} {cx:Cx}
theorem VRs_set {cs:List HV} {us:List Value} {v:HV} {u:Value} (h:VRs ρ cs us) (o:Nat) (hv:VR ρ v u):VRs ρ (cs.set o v) (us.set o u):=by
  refine VRs_of (by simp [VRs_len h]) (fun i x y hx hy => ?_)
  rw [List.getElem?_set] at hx hy
  split at hx
  · rename_i ho
    rw [if_pos ho] at hy
    split at hx
    · split at hy
      · cases hx; cases hy; exact hv
      · cases hy
    · cases hx
  · rename_i ho
    rw [if_neg ho] at hy
    obtain ⟨z,h1,h2⟩:=VRs_get h i x hx
    rw [h1] at hy; cases hy; exact h2
theorem setAll_rel:∀ {l:List HV} {vs:List Value} {cs:List HV} {us:List Value} (o:Nat),VRs ρ cs us→VRs ρ l vs→VRs ρ (setAll cs o l) (setV us o vs)
  | [],vs,cs,us,o,h,hl=>by unfold VRs at hl; subst hl; exact h
  | a::l,vs,cs,us,o,h,hl=>by
    unfold VRs at hl
    obtain ⟨u,vs',rfl,h1,h2⟩:=hl
    rw [setAll,setV]
    exact setAll_rel (o+1) (VRs_set h o h1) h2
theorem setV_one:∀ {vs us:List Value} (o:Nat),(∀ u,u∈us→u.oneCell'=true)→(∀ u,u∈vs→u.oneCell'=true) → ∀ u,u∈setV us o vs→u.oneCell'=true
  | [],us,o,h,_,u,hu=>h u hu
  | v::vs,us,o,h,hv,u,hu=>by
    rw [setV] at hu
    refine setV_one (o+1) (fun y hy => ?_) (fun y hy=>hv y (List.mem_cons_of_mem _ hy)) u hu
    rcases List.mem_or_eq_of_mem_set hy with hy | rfl
    · exact h y hy
    · exact hv _ (List.mem_cons_self ..)
def PartsR (ρ:Rn):List (Nat×HV)→List (Nat×Value)→Prop
  | [],vs=>vs=[]
  | (i,a)::l,vs => ∃ u vs',vs=(i,u)::vs'∧VR ρ a u∧PartsR ρ l vs'
theorem evParts_rel (h:EnvR ρ n s F):∀ {ps:List (Nat×Operand)} {l:List (Nat×HV)},evParts s ps=some l→PartsR ρ l (ps.map fun (i,x)=>(i,ev n F x))
  | [],l,hl=>by cases hl; unfold PartsR; rfl
  | (i,x)::ps,l,hl=>by
    unfold evParts at hl
    cases hx:s.ev x with
    | none=>rw [hx] at hl; cases hl
    | some v =>
      rw [hx] at hl
      cases hxs:evParts s ps with
      | none=>rw [hxs] at hl; cases hl
      | some l' =>
        rw [hxs] at hl
        cases hl
        unfold PartsR
        exact ⟨_,_,rfl,ev_rel h hx,evParts_rel h hxs⟩
theorem fill_rel {place:Nat→Option (Nat×Nat)}:∀ {ps:List (Nat×HV)} {qs:List (Nat×Value)} {cs l:List HV} {us:List Value},fillS place cs ps=some l→PartsR ρ ps qs→VRs ρ cs us→(∀ u,u∈us→u.oneCell'=true) →
    ∃ us',Instr.fill place us.toArray qs=some us'.toArray∧VRs ρ l us'∧(∀ u,u∈us'→u.oneCell'=true)∧us'.length=us.length
  | [],qs,cs,l,us,h,hp,hr,h1=>by
    unfold PartsR at hp
    subst hp
    cases h
    exact ⟨us,rfl,hr,h1,rfl⟩
  | (i,v)::ps,qs,cs,l,us,h,hp,hr,h1=>by
    unfold PartsR at hp
    obtain ⟨u,qs',rfl,h2,h3⟩:=hp
    unfold fillS at h
    split at h
    · rename_i o z hpl
      split at h
      · rename_i c hcv
        rw [bif_eq] at h
        split at h
        · rename_i hcond
          simp only [Bool.and_eq_true,Nat.ble_eq] at hcond
          obtain ⟨c1,c2⟩:=hcond
          have c1:=Nat.eq_of_beq_eq_true c1
          have c2:o+z≤cs.length:=c2
          obtain ⟨h4,h5⟩:=bcells_rel hcv h2
          have hl1:=VRs_len h4
          have hl2:=VRs_len hr
          have hsz:u.cells.size=z:=by rw [← c1, ← hl1]; simp
          obtain ⟨us',g1,g2,g3,g4⟩:=fill_rel h h3 (setAll_rel o hr h4) (setV_one o h1 h5)
          refine ⟨us',?_,g2,g3,by rw [g4,setV_len]⟩
          unfold Instr.fill
          have hcnd:(decide (u.cells.size≠z)||decide (o+u.cells.size>us.toArray.size))=false:=by
            simp [hsz]
            omega
          simp only [hpl]
          have hnot:¬ ((decide (u.cells.size≠z)||decide (o+u.cells.size>us.toArray.size))=true):=by rw [hcnd]; simp
          have hfold:(u.cells.zipIdx.foldl (fun cs (c,j)=>cs.setIfInBounds (o+j) c) us.toArray)=(setV us o u.cells.toList).toArray:=by
            have:=fold_set o u.cells.toList 0 us
            simp only [Nat.add_zero] at this
            rw [← this, ← Array.foldl_toList,Array.toList_zipIdx]
          split
          · rename_i hbad
            exfalso
            rw [hsz] at hbad
            simp at hbad
            omega
          · rw [hfold]; exact g1
        · cases h
      · cases h
    · cases h
theorem build_ok (hc:CxOk P cx) (hH:RelH ρ s.hp w) (hE:EnvR ρ n s F) {t:Nat} {ps:Array (Nat×Operand)} {l:List (Nat×HV)} {r:Rs} (hl:evParts s ps.toList=some l) (h:doBuild cx s t l=some r):OpOk P n F ρ s w (.build t ps) r:=by
  have hP:=evParts_rel hE hl
  have hmap:(ps.map fun (i,x)=>(i,ev n F x)).toList=ps.toList.map fun (i,x)=>(i,ev n F x):=by simp
  unfold doBuild at h
  split at h
  · rename_i x hx
    obtain ⟨i,T⟩:=hc.ty hx
    split at h
    · rename_i z hz
      obtain ⟨zv,h1,h2⟩:=T.zeroV hz
      have hzr:=ofV_rel (ρ:=ρ) h1
      unfold VR at hzr
      obtain ⟨us,rfl,h3,h4⟩:=hzr
      split at h
      · rename_i offs hs
        obtain ⟨fs,hu,hfs⟩:=sh_struct (T.sh.symm.trans hs)
        split at h
        · rename_i q hq
          cases h
          obtain ⟨us',g1,g2,g3,g4⟩:=fill_rel hq hP h3 h4
          refine OpOk.pure hH (u := .agg us'.toArray) ⟨fun d t' p af g => ?_⟩ (by unfold VR; exact ⟨us',rfl,g2,g3⟩)
          have g1:Instr.fill (offs.toArray[·]?) us.toArray (ps.toList.map fun (i,x)=>(i,ev n F x))=some us'.toArray:=by
            rw [← g1]
            congr 1
            funext i
            simp
          have hb:P.built t (ps.toList.map fun (i,x)=>(i,ev n F x))=some us'.toArray:=by
            obtain ⟨v',q1,q2⟩:=T.zero _ hz
            have:v' = .agg us.toArray:=by
              have:=h2 w
              simp [zeroValue,typeInfo,T.info,q1] at this
              exact this
            subst this
            unfold Program.built
            rw [T.info,hu]
            simp only [q1,hfs]
            exact g1
          have:=run_build (P:=P) w t (ps.map fun (i,x)=>(i,ev n F x)) us'.toArray (by simpa using hb)
          simp [execOp,this]
        · cases h
      · rename_i m e hs
        have hu:=sh_arr (T.sh.symm.trans hs)
        split at h
        · rename_i q hq
          split at h
          · rename_i l' hl'
            cases h
            obtain ⟨us',g1,g2,g3,g4⟩:=fill_rel hl' hP h3 h4
            refine OpOk.pure hH (u := .agg us'.toArray) ⟨fun d t' p af g => ?_⟩ (by unfold VR; exact ⟨us',rfl,g2,g3⟩)
            have g1:Instr.fill (fun i=>some (i*q,q)) us.toArray (ps.toList.map fun (i,x)=>(i,ev n F x))=some us'.toArray:=g1
            simp [execOp,Instr.build,h2,run_underlying hu,hc.sizeOf hq,Value.cells,g1]
          · cases h
        · cases h
      · cases h
    · cases h
  · cases h
end
end Go.Hm
namespace Go.Hm
open Go Go.RowKit Go.Wk
section
variable {P:Program} {n:Nat} {F:Env} {ρ:Rn} {s:St} {w:World} {cx:Cx}
theorem buildSlice_ok (hc:CxOk P cx) (hH:RelH ρ s.hp w) (hE:EnvR ρ n s F) {t len:Nat} {ps:Array (Nat×Operand)} {l:List (Nat×HV)} {r:Rs} (hl:evParts s ps.toList=some l) (h:doBuildSlice cx s t len l=some r):OpOk P n F ρ s w (.buildSlice t len ps) r:=by
  have hP:=evParts_rel hE hl
  unfold doBuildSlice at h
  split at h
  · rename_i y hy
    obtain ⟨e,hu,hel⟩:=sliceEl_ok hc hy
    obtain ⟨zv,hEl,hz⟩:=elem_ok hc hel
    obtain ⟨i,hi,hz0,hsz,hby⟩:=hEl.info
    rw [bif_eq] at h
    split at h
    · rename_i hcond
      simp only [Bool.and_eq_true,Nat.ble_eq] at hcond
      split at h
      · rename_i l' hl'
        cases h
        have hzl:y.zc.length=y.z:=by rw [← VRs_len (hz ρ).1]; simpa using hEl.cells
        obtain ⟨us',g1,g2,g3,g4⟩:=fill_rel hl' hP (repl_rel (hz ρ).1 len) (repl_one (hz ρ).2 len)
        have hlen:us'.length=len*y.z:=by rw [g4,VRs_len (repl_rel (hz ρ).1 len),repl_len,hzl]
        have hb:len*y.z≤16000000:=by
          calc len*y.z≤4000*4000:=Nat.mul_le_mul hcond.1 hcond.2
            _=16000000:=by rfl
        refine new_ok (us:=us') (ex:=[]) (T:=e) (u := .slice (some ⟨w.heap.size,0,none⟩) len len) hH ⟨fun d t' p af g => ?_⟩ g2 g3 (fun ρ' hr => ?_)
        · have hrun:(Instr.buildSlice t len (ps.map fun (i,x)=>(i,ev n F x))).run P w = .ok (.slice (some ⟨w.heap.size,0,none⟩) len len) (w.alloc (.cells (us'++[]).toArray e)):=by
            rw [List.append_nil]
            by_cases h0:len=0
            · subst h0
              have:us'=[]:=by simpa using hlen
              subst this
              have g1:Instr.fill (fun i=>some (i*y.z,y.z)) #[] (ps.toList.map fun (i,x)=>(i,ev n F x))=some #[]:=by simpa using g1
              have g1:Instr.fill (fun i=>some (i*y.z,y.z)) #[] (ps.toList.map fun x=>(x.1,ev n F x.2))=some #[]:=g1
              have h0:Array.range 0 = #[]:=rfl
              simp [Instr.buildSlice,run_underlying hu,sizeOf,typeInfo,hi,hsz,h0,g1,newRow]
            · have hp:=hEl.pos
              have hne:¬ len*i.size=0:=by
                rw [hsz]; exact Nat.mul_ne_zero h0 (by omega)
              refine run_buildSlice w t e len _ us'.toArray i zv hu hi hz0 (by rw [hsz]; omega) hne ?_
              have hm:=madeCells_rows zv.cells len
              rw [hEl.cells] at hm
              unfold madeCells at hm
              rw [hsz,hm]
              have:(ps.map fun (i,x)=>(i,ev n F x)).toList=ps.toList.map fun (i,x)=>(i,ev n F x):=by simp
              rw [this]
              exact g1
          simp [execOp,hrun]
        · unfold VR
          have hl2:=VRs_len g2
          refine ⟨_,len,hr,rfl,Nat.le_refl _,?_,?_,by unfold maxLen; omega,by omega⟩
          · simp only; omega
          · simp only [List.append_nil]; omega
      · cases h
    · cases h
  · cases h
theorem src_ok (hc:CxOk P cx) (hH:RelH ρ s.hp w) {t z k:Nat} {x:HV} {u:Value} {l:List HV} (hi:isSrc cx t x=true) (h:srcOf s z x=some (l,k)) (hx:VR ρ x u) :
    ∃ us,_root_.Go.Src P z t u k us w∧VRs ρ l us∧l.length=k*z:=by
  unfold isSrc at hi
  split at hi
  · rename_i y hy
    obtain ⟨i,T⟩:=hc.ty hy
    have sl:∀ e,y.sh = .slice e→(∀ b,x ≠ .str b) → ∃ us,_root_.Go.Src P z t u k us w∧VRs ρ l us∧l.length=k*z:=by
      intro e hs hne
      have hu:=sh_slice (T.sh.symm.trans hs)
      have:∃ l' k',cellsOf s z x=some l'∧lenOf x=some k'∧l'=l∧k'=k:=by
        unfold srcOf at h
        split at h
        · rename_i b; exact absurd rfl (hne b)
        · split at h
          · rename_i l' k' h1 h2; cases h; exact ⟨_,_,h1,h2,rfl,rfl⟩
          · cases h
      obtain ⟨l',k',h1,h2,rfl,rfl⟩:=this
      obtain ⟨us,a,c,g1,g2,g3,g4,g5,g6,g7,g8⟩:=cellsOf_rel hH h1 h2 hx
      refine ⟨us,?_,g5,by rw [← VRs_len g5]; exact g6⟩
      rw [g1]
      rcases g8 with ⟨rfl,rfl⟩ | ⟨b,o,rfl,hcell⟩
      · cases a with
        | none=>exact ⟨.inl ⟨e,hu⟩,fun _=>rfl,run_firstCells_none w z 0 0 c,run_firstCells_none w.drew z 0 0 c,by simp,fun _ h=>by cases h⟩
        | some q=>exact _root_.Go.Src.ofSlice w hu q 0 c [] (by simp) (fun j u hu=>by simp at hu) (fun _ h=>by cases h)
      · exact _root_.Go.Src.ofSlice w hu ⟨b,o,none⟩ k' c us g6 (fun j u hu=>by rw [add_off]; exact hcell j u hu) g7
    split at hi
    · rename_i b hs
      have hu:=sh_str (T.sh.symm.trans hs)
      unfold srcOf at h
      simp only [bif_eq] at h
      split at h
      · rename_i hz
        have hz:=Nat.eq_of_beq_eq_true hz
        subst hz
        cases h
        unfold VR at hx
        subst hx
        refine ⟨_,_root_.Go.Src.ofString w hu b,?_,by simp⟩
        unfold byteCells
        refine VRs_of (by simp) (fun i x u hx hu => ?_)
        simp only [List.getElem?_map,Option.map_eq_some_iff] at hx hu
        obtain ⟨a,ha,rfl⟩:=hx
        obtain ⟨a',ha',rfl⟩:=hu
        rw [ha] at ha'
        cases ha'
        unfold VR
        rfl
      · cases h
    · cases hi
    · rename_i e hs hne
      exact sl e hs (fun b hb=>hne b hb)
    · cases hi
  · cases hi
end
end Go.Hm
namespace Go.Hm
open Go Go.RowKit Go.Wk
section
variable {P:Program} {n:Nat} {F:Env} {ρ:Rn} {s:St} {w:World} {cx:Cx}
theorem write_same {s':St} {b o:Nat} {l:List HV} (h:s.write b o l=some s'):s'.nt=s.nt∧s'.env=s.env∧s'.lk=s.lk∧s'.nx=s.nx:=by
  unfold St.write at h
  split at h
  · rw [bif_eq] at h
    split at h
    · cases h; exact ⟨rfl,rfl,rfl,rfl⟩
    · cases h
  · cases h
theorem Val_append {t t2:TypeId} {x1 x2:Operand} {v:Value} {w':World} (h:∀ ty,(Builtin.append_ #[t,t2] ty #[ev n F x1,ev n F x2]).run P w = .ok v w') :
    Val P n F w (.call { callee := .builtin .append,args := #[x1,x2],argTypes := #[t,t2] }) v w':=by
  refine ⟨fun d t' p af g => ?_⟩
  simp [execOp,resolve,invoke,builtin,h]
theorem grow_run {t t2 ty e:TypeId} {i:TypeInfo} {zv:Value} {z by_:Nat} (ht:P.underlying t=some (.slice e)) (hE:Elem P e z zv by_) {a:Option Addr} {m cap k:Nat} {x:Value} {olds news:List Value}
    (hold:(Builtin.firstCells z m (.slice a m cap)).run P w.drew = .ok olds.toArray w.drew) (hol:olds.length=m*z) (hs:_root_.Go.Src P z t2 x k news w) (hg:cap<m+k) (hb:(m+k)*by_≤4294967296) :
    ∃ c ex,(Builtin.append_ #[t,t2] ty #[.slice a m cap,x]).run P w = .ok (.slice (some ⟨w.heap.size,0,none⟩) (m+k) c) (w.drew.alloc (.cells ((olds++news)++ex).toArray e))∧m+k≤c∧c≤maxLen∧((olds++news)++ex).length=c*z:=by
  obtain ⟨i,hi,hz,hsz,hby⟩:=hE.info
  have hbd:m+k≤4294967296:=by
    have:(m+k)*1≤(m+k)*by_:=Nat.mul_le_mul_left _ hE.bpos
    omega
  have hfit:Builtin.nextslicecap (m+k) cap*i.bytes≤281474976710656:=by
    have h1:=nextslicecap_le hg
    rw [hby]
    calc Builtin.nextslicecap (m+k) cap*by_≤2*(m+k)*by_:=Nat.mul_le_mul_right _ h1
      _=2*((m+k)*by_):=by rw [Nat.mul_assoc]
      _≤281474976710656:=by omega
  have hrun:=run_append_grow_src (P:=P) w t t2 ty e i zv ht hi hz a m cap olds (by rw [hsz]; exact hold) x k news (by rw [hsz]; exact hs) hg (by omega) hfit
  have hge:=grownCap_ge w (m+k) cap e
  refine ⟨grownCap w (m+k) cap e,(Builtin.zeroCells zv.cells (grownCap w (m+k) cap e - (m+k))).toList,?_,hge,grownCap_le_maxLen w _ cap e (by unfold maxLen; omega),?_⟩
  · rw [hrun]
    have:(olds++news).toArray++Builtin.zeroCells zv.cells (grownCap w (m+k) cap e - (m+k))=((olds++news)++(Builtin.zeroCells zv.cells (grownCap w (m+k) cap e - (m+k))).toList).toArray:=by
      apply Array.ext'
      simp
    rw [this]
  · rw [List.length_append,List.length_append,hol,hs.newsLen,Array.length_toList,size_zeroCells,hE.cells, ← Nat.add_mul, ← Nat.add_mul]
    congr 1
    omega
theorem appendTo_ok {t t2:TypeId} {e:TypeId} {zv:Value} {z by_ k m:Nat} {x1 x2:Operand} {a:HV} {new:List HV} {r:Rs} {us:List Value} (hH:RelH ρ s.hp w) (ht:P.underlying t=some (.slice e)) (hE:Elem P e z zv by_)
    (hm:lenOf a=some m) (hb:(m+k)*by_≤4294967296) (h:appendTo s z a new k=some r) (hx:VR ρ a (ev n F x1)) (hs:_root_.Go.Src P z t2 (ev n F x2) k us w) (hl:VRs ρ new us) (hk:new.length=k*z) :
    OpOk P n F ρ s w (.call { callee := .builtin .append,args := #[x1,x2],argTypes := #[t,t2] }) r:=by
  obtain ⟨i,hi,hz0,hsz,hby⟩:=hE.info
  have hpos:=hE.pos
  have hbd:m+k≤4294967296:=by
    have:(m+k)*1≤(m+k)*by_:=Nat.mul_le_mul_left _ hE.bpos
    omega
  have hnew:new.length=us.length:=(VRs_len hl).symm
  have empty:∀ (q:Option Addr) (av:HV),ev n F x1 = .slice q 0 0→m=0→VR ρ av (.slice q 0 0)→(bif Nat.beq k 0 then some (Rs.val av s) else some (.val (.sl s.nx 0 k) (s.new z new).2))=some r →
      OpOk P n F ρ s w (.call { callee := .builtin .append,args := #[x1,x2],argTypes := #[t,t2] }) r:=by
    intro q av hx hm0 hav h'
    clear h
    subst hm0
    rw [bif_eq] at h'
    split at h'
    · rename_i hk0
      have hk0:=Nat.eq_of_beq_eq_true hk0
      subst hk0
      cases h'
      have hus:us=[]:=by
        have:=hs.newsLen
        simpa using this
      subst hus
      refine OpOk.pure hH (u := .slice q 0 0) (Val_append fun ty => ?_) hav
      rw [hx]
      exact run_append_nothing w t t2 ty e i ht hi q 0 0 (Nat.le_refl _) _ (by rw [hsz]; exact hs)
    · rename_i hk0
      have hk0:k≠0:=fun h0=>hk0 (by rw [h0]; rfl)
      cases h'
      intro hU
      have u0:ρ s.nx=none:=hU s.nx (Nat.le_refl _) (Nat.lt_succ_self _)
      have hold:(Builtin.firstCells z 0 (.slice q 0 0)).run P w.drew = .ok ([]:List Value).toArray w.drew:=by
        cases q with
        | none=>simp [Builtin.firstCells]
        | some q=>simp [Builtin.firstCells,loadCells,loadCellsFrom]
      have hrun:∀ ty, ∃ c ex,(Builtin.append_ #[t,t2] ty #[.slice q 0 0,ev n F x2]).run P w = .ok (.slice (some ⟨w.heap.size,0,none⟩) (0+k) c) (w.drew.alloc (.cells (([]++us)++ex).toArray e))∧0+k≤c∧c≤maxLen∧(([]++us)++ex).length=c*z :=
        fun ty=>grow_run (i:=i) ht hE hold (by simp) hs (by omega) hb
      obtain ⟨c,ex,h1,h2,h3,h4⟩:=hrun 0
      have hty:∀ ty,(Builtin.append_ #[t,t2] ty #[.slice q 0 0,ev n F x2]).run P w=(Builtin.append_ #[t,t2] 0 #[.slice q 0 0,ev n F x2]).run P w:=fun ty=>rfl
      simp only [List.nil_append,Nat.zero_add] at h1 h2 h4
      refine ⟨.slice (some ⟨w.heap.size,0,none⟩) k c,_,_,Val_append (fun ty=>by rw [hx,hty ty]; exact h1),?_,Post.new (z:=z) (us:=us) (ex:=ex) (w1:=w.drew) hH u0 hl (fun y hy=>hs.one y hy) (Kp.drew w) rfl,rfl,rfl,rfl⟩
      unfold VR
      refine ⟨_,c,updR_same _ _ _,rfl,h2,?_,?_,h3,by omega⟩
      · simp only [hk,Nat.zero_add]; exact Nat.mul_le_mul_right _ h2
      · simp only [Nat.zero_add]; rw [h4]; exact Nat.le_refl _
  unfold appendTo at h
  split at h
  ·
    rename_i b o len
    cases hm
    unfold VR at hx
    obtain ⟨q,cap,hq,hx,c1,c2,c3,c4,c5⟩:=hx
    split at h
    · rename_i y hy
      have hg:=blk_some hy
      have hB:=hH.blk b y q hg hq
      obtain ⟨g1,g2,g0,g3,g4⟩:=hB
      simp only [bif_eq] at h
      split at h
      · rename_i hcond
        simp only [Bool.and_eq_true] at hcond
        obtain ⟨hown,hfree,hz⟩:=hcond
        have hz:=Nat.eq_of_beq_eq_true hz
        obtain ⟨xs,T,g5,g6,g7⟩:=g4 hown
        have hqz:q.z=z:=by rw [← g2,hz]
        rw [hqz] at c2 c3
        have hmk:∀ j,j*z≤cap*z→j≤cap:=fun j hj=>Nat.le_of_mul_le_mul_right hj hpos
        have hnk:(m+k)*z=m*z+k*z:=Nat.add_mul _ _ _
        have hty:∀ ty,(Builtin.append_ #[t,t2] ty #[.slice (some ⟨q.c,q.o+o,none⟩) m cap,ev n F x2]).run P w=(Builtin.append_ #[t,t2] 0 #[.slice (some ⟨q.c,q.o+o,none⟩) m cap,ev n F x2]).run P w:=fun ty=>rfl
        have room:m+k≤cap → ∀ ty,(Builtin.append_ #[t,t2] ty #[.slice (some ⟨q.c,q.o+o,none⟩) m cap,ev n F x2]).run P w = .ok (.slice (some ⟨q.c,q.o+o,none⟩) (m+k) cap) (w.setCells q.c (q.o+o+m*z) us):=by
          intro hroom ty
          have hfit:q.o+o+m*z+us.length≤xs.size:=by
            have:=hs.newsLen
            have:(m+k)*z≤cap*z:=Nat.mul_le_mul_right _ hroom
            omega
          have:=run_append_room_src (P:=P) w t t2 ty e i ht hi q.c (q.o+o) m cap (ev n F x2) k us (by rw [hsz]; exact hs) hroom
            (fun j hj=>by rw [hsz,cells_at g5,Array.getElem?_eq_getElem (by omega)]; rfl) (fun j hj=>by simp [World.frozen?,g5])
          rw [hsz] at this
          exact this
        split at h
        · rename_i hin
          simp only [Nat.ble_eq] at hin
          have hin:o+(m+k)*z≤y.n:=hin
          have hroom:m+k≤cap:=hmk _ (by omega)
          split at h
          · rename_i s' hs'
            cases h
            obtain ⟨hp,_⟩:=Post.write hH hq hs' hl (fun y hy=>hs.one y hy)
            have heq:=write_same hs'
            intro _
            refine ⟨.slice (some ⟨q.c,q.o+o,none⟩) (m+k) cap,_,ρ,Val_append (fun ty=>by rw [hx]; exact room hroom ty),?_,?_,heq.1,heq.2.1,heq.2.2.1⟩
            · unfold VR
              exact ⟨q,cap,hq,rfl,hroom,by rw [hqz]; exact c2,by rw [hqz]; exact c3,c4,by show m+k≤_; omega⟩
            · have e1:q.o+Nat.add o (Nat.mul m z)=q.o+o+m*z:=by show q.o+(o+m*z)=_; omega
              rw [e1] at hp
              exact hp
          · cases h
        · split at h
          · rename_i hin
            simp only [Nat.ble_eq] at hin
            have hin:o+m*z≤y.n:=hin
            have key:∀ c',(∀ i v,i<(m+k)*z→c'.get i=some v→(i<m*z∧o+i<y.n∧y.c.get (o+i)=some v)∨(m*z≤i∧new[i - m*z]?=some v)) →
                r = .val (.sl s.nx 0 (m+k)) ⟨s.nt,s.env,(s.hp.del b).set s.nx (.blk ⟨true,z,(m+k)*z,c'⟩),s.nx+1,s.lk,s.df⟩→OpOk P n F ρ s w (.call { callee := .builtin .append,args := #[x1,x2],argTypes := #[t,t2] }) r:=by
              intro c' hc' hr
              subst hr
              intro hU
              have u0:ρ s.nx=none:=hU s.nx (Nat.le_refl _) (Nat.lt_succ_self _)
              by_cases hroom:m+k≤cap
              · refine ⟨_,_,updR ρ s.nx ⟨q.c,q.o+o,(m+k)*z,z,q.tot⟩,Val_append (fun ty=>by rw [hx]; exact room hroom ty),?_,Post.grow (r':=⟨q.c,q.o+o,(m+k)*z,z,q.tot⟩) (new:=new) (us:=us) hH hg hown hq u0 hl (fun y hy=>hs.one y hy) hk hc' rfl rfl ⟨rfl,rfl⟩ (.inl ⟨rfl,rfl,rfl,rfl,?_⟩),rfl,rfl,rfl⟩
                · unfold VR
                  refine ⟨_,cap,updR_same _ _ _,rfl,hroom,?_,?_,c4,by omega⟩
                  · simp only [Nat.zero_add]; exact Nat.mul_le_mul_right _ hroom
                  · simp only [Nat.add_zero]; exact c3
                · have:(m+k)*z≤cap*z:=Nat.mul_le_mul_right _ hroom
                  omega
              · have hcm:m*z≤cap*z:=Nat.mul_le_mul_right _ c1
                have hol:((xs.toList.drop (q.o+o)).take (m*z)).length=m*z:=by
                  rw [List.length_take,List.length_drop,Array.length_toList]; omega
                have hoc:∀ j u,((xs.toList.drop (q.o+o)).take (m*z))[j]?=some u→w.cell? ⟨q.c,q.o+o+j,none⟩=some u:=fun j u hu=>by
                  have hj:=lt_get hu
                  rw [hol] at hj
                  rw [List.getElem?_take,if_pos hj,List.getElem?_drop,Array.getElem?_toList] at hu
                  rw [cells_at g5]; exact hu
                have hold:=run_firstCells_some (P:=P) w.drew z m ⟨q.c,q.o+o,none⟩ m cap _ hol (fun j u hu=>by rw [add_off]; exact hoc j u hu)
                obtain ⟨c,ex,h1,h2,h3,h4⟩:=grow_run (ty:=0) (i:=i) ht hE hold hol hs (by omega) hb
                refine ⟨_,_,updR ρ s.nx ⟨w.heap.size,0,(m+k)*z,z,((((xs.toList.drop (q.o+o)).take (m*z))++us)++ex).length⟩,Val_append (fun ty=>by rw [hx,hty ty]; exact h1),?_,Post.grow (new:=new) (us:=us) hH hg hown hq u0 hl (fun y hy=>hs.one y hy) hk hc' rfl rfl ⟨rfl,rfl⟩ (.inr ⟨?_,rfl,rfl,(((((xs.toList.drop (q.o+o)).take (m*z))++us)++ex).toArray),e,_,?_,by simp only [List.size_toArray],?_,hol,?_,hoc⟩),rfl,rfl,rfl⟩
                · unfold VR
                  refine ⟨_,c,updR_same _ _ _,rfl,h2,?_,?_,h3,by omega⟩
                  · simp only [Nat.zero_add]; exact Nat.mul_le_mul_right _ h2
                  · simp only [Nat.zero_add]; rw [h4]; exact Nat.le_refl _
                · exact (Kp.drew w).trans (Kp.alloc _ _)
                · exact heap_alloc_new w.drew _
                · simp only; rw [h4]; exact Nat.mul_le_mul_right _ h2
                · intro j u hu
                  simp only [List.getElem?_toArray]
                  rw [List.getElem?_append_left (lt_get hu)]
                  exact hu
            split at h
            · rename_i ho
              have ho:=Nat.eq_of_beq_eq_true ho
              subst ho
              cases h
              refine key (scatter y.c (m*z) new) (fun i v hi hv => ?_) rfl
              rw [scatter_get] at hv
              split at hv
              · rename_i hin2
                exact .inr ⟨hin2.1,hv⟩
              · rename_i hout
                left
                have:i<m*z:=by omega
                exact ⟨this,by omega,by rw [Nat.zero_add]; exact hv⟩
            · split at h
              · rename_i old hold
                cases h
                obtain ⟨k1,k2⟩:=gather_get hold
                have k1:old.length=m*z:=k1
                refine key (scatter .e 0 (old++new)) (fun i v hi hv => ?_) rfl
                rw [scatter_get] at hv
                split at hv
                · rw [Nat.sub_zero] at hv
                  rcases Nat.lt_or_ge i old.length with h5 | h5
                  · rw [List.getElem?_append_left h5] at hv
                    obtain ⟨k3,k4⟩:=k2 i v hv
                    exact .inl ⟨by omega,k3,k4⟩
                  · rw [List.getElem?_append_right h5,k1] at hv
                    exact .inr ⟨by omega,hv⟩
                · rw [Tr.get_e] at hv; cases hv
              · cases h
          · cases h
      · cases h
    · cases h
  · cases hm
    unfold VR at hx
    exact empty none .nils hx rfl (by unfold VR; rfl) h
  · cases hm
    unfold VR at hx
    obtain ⟨a,hx⟩:=hx
    exact empty (some a) .esl hx rfl (by unfold VR; exact ⟨a,rfl⟩) h
  · cases h
theorem append_ok (hc:CxOk P cx) (hH:RelH ρ s.hp w) {t t2:TypeId} {x1 x2:Operand} {a x:HV} {r:Rs} (h:doAppend cx s t t2 a x=some r) (hx:VR ρ a (ev n F x1)) (hy:VR ρ x (ev n F x2)) :
    OpOk P n F ρ s w (.call { callee := .builtin .append,args := #[x1,x2],argTypes := #[t,t2] }) r:=by
  unfold doAppend at h
  split at h
  · rename_i el hel
    obtain ⟨e,hu,hel⟩:=sliceEl_ok hc hel
    obtain ⟨zv,hE,hz⟩:=elem_ok hc hel
    simp only [bif_eq] at h
    split at h
    · rename_i hsrc
      split at h
      · rename_i new k m hnew hm
        split at h
        · rename_i hroom
          simp only [roomOk,Nat.ble_eq] at hroom
          obtain ⟨us,g1,g2,g3⟩:=src_ok hc hH hsrc hnew hy
          exact appendTo_ok hH hu hE hm hroom h hx g1 g2 g3
        · cases h
      · cases h
    · cases h
  · cases h
end
end Go.Hm
namespace Go.Hm
open Go Go.RowKit Go.Wk
section
variable {P:Program} {n:Nat} {F:Env} {ρ:Rn} {s:St} {w:World} {cx:Cx}
theorem src_first (hc:CxOk P cx) (hH:RelH ρ s.hp w) {t z k m:Nat} {x:HV} {u:Value} {l:List HV} (hi:isSrc cx t x=true) (h:srcOf s z x=some (l,k)) (hx:VR ρ x u) (hf:strFits x k m=true) :
    ∃ us,(Builtin.firstCells z (Nat.min k m) u).run P w = .ok us.toArray w∧VRs ρ (l.take (Nat.min k m*z)) us∧(∀ y,y∈us→y.oneCell'=true)∧(∀ w':World,(Builtin.lenOf u).run P w' = .ok k w'):=by
  obtain ⟨us,g1,g2,g3⟩:=src_ok hc hH hi h hx
  have hle:Nat.min k m≤k:=Nat.min_le_left _ _
  have hone:∀ y,y∈us.take (Nat.min k m*z)→y.oneCell'=true:=fun y hy=>g1.one y (List.mem_of_mem_take hy)
  have hlen:us.length=k*z:=g1.newsLen
  refine ⟨us.take (Nat.min k m*z),?_,VRs_take _ g2,hone,g1.len⟩
  by_cases hstr:∃ b,x = .str b
  · obtain ⟨b,rfl⟩:=hstr
    have hkm:k≤m:=by simpa [strFits] using hf
    have hmin:Nat.min k m=k:=Nat.min_eq_left hkm
    rw [hmin, ← hlen,List.take_length]
    exact g1.cells
  · have:∃ l' k',cellsOf s z x=some l'∧lenOf x=some k'∧l'=l∧k'=k:=by
      unfold srcOf at h
      split at h
      · exact absurd ⟨_,rfl⟩ hstr
      · split at h
        · rename_i l' k' h1 h2; cases h; exact ⟨_,_,h1,h2,rfl,rfl⟩
        · cases h
    obtain ⟨l',k',h1,h2,rfl,rfl⟩:=this
    obtain ⟨us',a,c,q1,q2,q3,q4,q5,q6,q7,q8⟩:=cellsOf_rel hH h1 h2 hx
    have hcells:=g1.cells
    rw [q1] at hcells ⊢
    have hl:(us.take (Nat.min k' m*z)).length=Nat.min k' m*z:=by
      rw [List.length_take,hlen]
      exact Nat.min_eq_left (Nat.mul_le_mul_right _ hle)
    rcases q8 with ⟨rfl,rfl⟩ | ⟨b,o,rfl,hcell⟩
    · have h0:Nat.min 0 m=0:=Nat.min_eq_left (Nat.zero_le _)
      have hus:us=[]:=by simpa using hlen
      subst hus
      rw [h0,List.take_nil]
      cases a with
      | none=>exact run_firstCells_none w z 0 0 c
      | some q=>exact run_firstCells_some w z 0 q 0 c [] (by simp) (fun j v hv=>by simp at hv)
    · have hsame:us=us':=by
        have:=run_firstCells_some (P:=P) w z k' ⟨b,o,none⟩ k' c us' q6 (fun j v hv=>by rw [add_off]; exact hcell j v hv)
        rw [hcells] at this
        injection this with h5 h6
        simpa using h5
      subst hsame
      exact run_firstCells_some w z (Nat.min k' m) ⟨b,o,none⟩ k' c _ hl (fun j v hv=>by
        rw [add_off]
        have hj:=lt_get hv
        rw [hl] at hj
        rw [List.getElem?_take,if_pos hj] at hv
        exact hcell j v hv)
theorem Val_copy {t t2:TypeId} {x1 x2:Operand} {v:Value} {w':World} (h:∀ ty,(Builtin.copy_ #[t,t2] ty #[ev n F x1,ev n F x2]).run P w = .ok v w') :
    Val P n F w (.call { callee := .builtin .copy,args := #[x1,x2],argTypes := #[t,t2] }) v w':=by
  refine ⟨fun d t' p af g => ?_⟩
  simp [execOp,resolve,invoke,builtin,h]
theorem copy_ok (hc:CxOk P cx) (hH:RelH ρ s.hp w) {t t2:TypeId} {x1 x2:Operand} {a x:HV} {r:Rs} (h:doCopy cx s t t2 a x=some r) (hx:VR ρ a (ev n F x1)) (hy:VR ρ x (ev n F x2)) :
    OpOk P n F ρ s w (.call { callee := .builtin .copy,args := #[x1,x2],argTypes := #[t,t2] }) r:=by
  unfold doCopy at h
  split at h
  · rename_i el hel
    obtain ⟨e,hu,hel⟩:=sliceEl_ok hc hel
    obtain ⟨zv,hE,hz⟩:=elem_ok hc hel
    obtain ⟨i,hi,hz0,hsz,hby⟩:=hE.info
    simp only [bif_eq] at h
    split at h
    · rename_i hsrc
      split at h
      · rename_i l k m hl hm
        split at h
        · rename_i hfit
          obtain ⟨us,g1,g2,g3,g4⟩:=src_first hc hH hsrc hl hy hfit
          have wr:∀ (b o len cap:Nat) (q:RI) (s':St),ρ b=some q→ev n F x1 = .slice (some ⟨q.c,q.o+o,none⟩) m cap→s.write b o (l.take (Nat.min k m*el.z))=some s' →
              OpOk P n F ρ s w (.call { callee := .builtin .copy,args := #[x1,x2],argTypes := #[t,t2] }) (.val (.int .i64 (Int.ofNat (Nat.min k m))) s'):=by
            intro b o len cap q s' hq hx hs'
            obtain ⟨hp,xs,T,g5,g6⟩:=Post.write hH hq hs' g2 g3
            have heq:=write_same hs'
            have hst:=run_storeCells_cells (P:=P) q.c (q.o+o) us 0 w (fun j hj=>by rw [cells_at g5,Array.getElem?_eq_getElem (by omega)]; rfl) (fun j hj=>by simp [World.frozen?,g5]) g3
            simp only [Nat.add_zero] at hst
            intro _
            refine ⟨.int .i64 (Int.ofNat (Nat.min k m)),_,ρ,Val_copy (fun ty => ?_),by unfold VR; rfl,hp,heq.1,heq.2.1,heq.2.2.1⟩
            simp only [Builtin.copy_,hx]
            simp [run_underlying hu,g4,sizeOf,typeInfo,hi,hsz,g1,hst,goInt]
          split at h
          · cases h
          · rename_i b o len
            split at h
            · rename_i s' hs'
              cases h
              cases hm
              unfold VR at hx
              obtain ⟨q,cap,hq,hx,_⟩:=hx
              exact wr b o 0 cap q s' hq hx hs'
            · cases h
          · rename_i b o len
            split at h
            · rename_i s' hs'
              cases h
              cases hm
              unfold VR at hx
              obtain ⟨q,cap,hq,hx,_⟩:=hx
              exact wr b o 0 cap q s' hq hx hs'
            · cases h
          · rename_i hn1 hn2 hn3
            cases h
            have:∃ q c,ev n F x1 = .slice q 0 c∧m=0:=by
              cases a
              case nils=>cases hm; unfold VR at hx; exact ⟨_,_,hx,rfl⟩
              case esl=>cases hm; unfold VR at hx; obtain ⟨q,hx⟩:=hx; exact ⟨_,_,hx,rfl⟩
              case emp=>cases hm; unfold VR at hx; obtain ⟨q,c,hx,_⟩:=hx; exact ⟨_,_,hx,rfl⟩
              case str b=>exact absurd rfl (hn1 b)
              case sl b o len=>exact absurd rfl (hn2 b o len)
              case asl b o len=>exact absurd rfl (hn3 b o len)
              all_goals cases hm
            obtain ⟨q,c,hx,rfl⟩:=this
            have h0:Nat.min k 0=0:=Nat.min_eq_right (Nat.zero_le _)
            rw [h0] at g1
            have hus:us=[]:=by
              have:=VRs_len g2
              rw [h0] at this
              simpa using this
            subst hus
            refine OpOk.pure hH (u := .int .i64 0) (Val_copy fun ty => ?_) (by unfold VR; rfl)
            simp only [Builtin.copy_,hx]
            cases q <;> simp [run_underlying hu,g4,sizeOf,typeInfo,hi,hsz,h0,g1,storeCells,goInt]
        · cases h
      · cases h
    · cases h
  · cases h
theorem clear_ok (hc:CxOk P cx) (hH:RelH ρ s.hp w) {t:TypeId} {x1:Operand} {a:HV} {r:Rs} (h:doClear cx s t a=some r) (hx:VR ρ a (ev n F x1)) :
    OpOk P n F ρ s w (.call { callee := .builtin .clear,args := #[x1],argTypes := #[t] }) r:=by
  unfold doClear at h
  split at h
  · rename_i el hel
    obtain ⟨e,hu,hel⟩:=sliceEl_ok hc hel
    obtain ⟨zv,hE,hz⟩:=elem_ok hc hel
    obtain ⟨i,hi,hz0,hsz,hby⟩:=hE.info
    have nothing:∀ q c,ev n F x1 = .slice q 0 c→OpOk P n F ρ s w (.call { callee := .builtin .clear,args := #[x1],argTypes := #[t] }) (.val .undef s):=by
      intro q c hx
      refine OpOk.pure hH (u:=undef) ⟨fun d t' p af g => ?_⟩ (by unfold VR; rfl)
      cases q <;> simp [execOp,hx,resolve,invoke,builtin,Builtin.clear_,run_underlying hu,undef]
    split at h
    · rename_i b o len
      split at h
      · rename_i s' hs'
        cases h
        unfold VR at hx
        obtain ⟨q,cap,hq,hx,_⟩:=hx
        obtain ⟨hp,xs,T,g5,g6⟩:=Post.write hH hq hs' (repl_rel (hz ρ).1 len) (repl_one (hz ρ).2 len)
        have heq:=write_same hs'
        have hst:=run_storeCells_cells (P:=P) q.c (q.o+o) (List.replicate len zv.cells.toList).flatten 0 w (fun j hj=>by rw [cells_at g5,Array.getElem?_eq_getElem (by omega)]; rfl) (fun j hj=>by simp [World.frozen?,g5]) (repl_one (hz ρ).2 len)
        simp only [Nat.add_zero] at hst
        have hzc:Builtin.zeroCells zv.cells len=(List.replicate len zv.cells.toList).flatten.toArray:=by
          have:=madeCells_rows zv.cells len
          rw [← this]
          rfl
        intro _
        refine ⟨undef,_,ρ,⟨fun d t' p af g => ?_⟩,by unfold VR; rfl,hp,heq.1,heq.2.1,heq.2.2.1⟩
        cases len with
        | zero=>simp [execOp,hx,resolve,invoke,builtin,Builtin.clear_,run_underlying hu,undef,World.setCells]
        | succ len=>simp [execOp,hx,resolve,invoke,builtin,Builtin.clear_,run_underlying hu,zeroValue,typeInfo,hi,hz0,hzc,hst,undef]
      · cases h
    · cases h; unfold VR at hx; exact nothing _ _ hx
    · cases h; unfold VR at hx; obtain ⟨q,hx⟩:=hx; exact nothing _ _ hx
    · cases h; unfold VR at hx; obtain ⟨q,c,hx,_⟩:=hx; exact nothing _ _ hx
    · cases h
  · cases h
theorem setKey_rel {q q0:IntKind} {k:Int} {v:HV} {u:Value} (hv:VR ρ v u):∀ {es es':List (HV×HV)} {en:List MapEntry} (i:Nat) (born:Nat),MapsR ρ es en→setKey q k v es=some es' →
    (Instr.findNow (.int q0) (.int q k) en i=some none∧MapsR ρ es' (en++[{ key := .int q k,val:=u,born:=born }])) ∨
    ∃ j e,i≤j∧Instr.findNow (.int q0) (.int q k) en i=some (some (j,e.val))∧en[j - i]?=some e∧e.key = .int q k∧MapsR ρ es' (en.set (j - i) { e with key := .int q k,val:=u })
  | [],es',en,i,born,hm,h=>by
    unfold MapsR at hm
    subst hm
    cases h
    left
    refine ⟨rfl,?_⟩
    unfold MapsR
    exact ⟨_,[],rfl,⟨q,k,rfl⟩,by unfold VR; rfl,hv,by unfold MapsR; rfl⟩
  | (a,x)::es,es',en,i,born,hm,h=>by
    unfold MapsR at hm
    obtain ⟨e,en',rfl,⟨q',b,rfl⟩,h2,h3,h4⟩:=hm
    unfold VR at h2
    unfold setKey at h
    simp only [bif_eq,decide_eq_true_eq] at h
    split at h
    · rename_i hq
      subst hq
      split at h
      · rename_i hk
        subst hk
        cases h
        right
        refine ⟨i,e,Nat.le_refl _,?_,by simp,h2,?_⟩
        · unfold Instr.findNow
          rw [h2]
          simp [Instr.sameNow]
        · rw [Nat.sub_self,List.set_cons_zero]
          unfold MapsR
          exact ⟨_,en',rfl,⟨q,k,rfl⟩,by unfold VR; rfl,hv,h4⟩
      · rename_i hk
        split at h
        · rename_i l hl
          cases h
          have hb:(k == b)=false:=by simpa using hk
          have hstep:Instr.findNow (.int q0) (.int q k) (e::en') i=Instr.findNow (.int q0) (.int q k) en' (i+1):=by
            conv=>lhs; unfold Instr.findNow
            rw [h2]
            simp only [Instr.sameNow,if_true,hb]
          rcases setKey_rel hv (i+1) born h4 hl with ⟨g1,g2⟩ | ⟨j,e',g0,g1,g2,g3,g4⟩
          · left
            refine ⟨hstep.trans g1,?_⟩
            rw [List.cons_append]
            unfold MapsR
            exact ⟨e,_,rfl,⟨q,b,rfl⟩,by unfold VR; exact h2,h3,g2⟩
          · right
            have:j - i=(j - (i+1))+1:=by omega
            refine ⟨j,e',by omega,hstep.trans g1,by rw [this]; simpa using g2,g3,?_⟩
            rw [this,List.set_cons_succ]
            unfold MapsR
            exact ⟨e,_,rfl,⟨q,b,rfl⟩,by unfold VR; exact h2,h3,g4⟩
        · cases h
    · cases h
theorem update_ok (hc:CxOk P cx) (hH:RelH ρ s.hp w) {t:TypeId} {x y z:Operand} {m i v:HV} {r:Rs} (h:doUpdate cx s t m i v=some r) (hx:VR ρ m (ev n F x)) (hy:VR ρ i (ev n F y)) (hz:VR ρ v (ev n F z)) :
    OpOk P n F ρ s w (.mapUpdate t x y z) r:=by
  unfold doUpdate at h
  split at h
  · rename_i e b q k he
    obtain ⟨kt,q0,hu,huk⟩:=intMap_some hc he
    unfold VR at hx hy
    obtain ⟨rr,hr,hx⟩:=hx
    rw [bif_eq] at h
    split at h
    · split at h
      · rename_i es hes
        obtain ⟨en,cl,g1,g2⟩:=hH.map b es rr hes hr
        split at h
        · rename_i es' hes'
          cases h
          have hget:(getObj rr.c).run P w = .ok (.map en cl) w:=by simp [getObj,Sem.run,g1]
          have hlt:=lt_of_heap g1
          have fin:∀ (en':Array MapEntry) (cl':Nat),MapsR ρ es' en'.toList→Acts P n F w (.mapUpdate t x y z) { w with heap:=w.heap.setIfInBounds rr.c (.map en' cl') } →
              OpOk P n F ρ s w (.mapUpdate t x y z) (.act ⟨s.nt,s.env,s.hp.set b (.map es'),s.nx,s.lk,s.df⟩):=by
            intro en' cl' hM hA
            have hnew:({ w with heap:=w.heap.setIfInBounds rr.c (.map en' cl') }:World).heap[rr.c]?=some (.map en' cl'):=by simp [hlt]
            have hold:∀ c,c<w.heap.size→c≠rr.c→({ w with heap:=w.heap.setIfInBounds rr.c (.map en' cl') }:World).heap[c]?=w.heap[c]?:=fun c hc hne=>by
              simp only
              rw [Array.getElem?_setIfInBounds,if_neg (fun e=>hne e.symm)]
            have hne:∀ i,i≠b→(s.hp.set b (.map es')).get i=s.hp.get i:=fun i hi=>Tr.get_set_ne _ _ hi
            refine ⟨_,hA,⟨?_,fun _ _=>rfl,⟨rfl,rfl,rfl,by simp,fun c hc hD=>hold c hc (fun e=>hD ⟨b,_,rr,hes,rfl,hr,e.symm⟩)⟩,?_,Nat.le_refl _⟩,rfl,rfl,rfl,rfl⟩
            · refine hH.step (b:=b) (fun i hi=>rfl) (Ext.refl _) (by simp) (fun i hi o ho=>by rw [← ho]; exact (hne i hi).symm) ?_ ?_ ?_ ?_
              · intro i o r' hi ho hr' hlt'
                refine hold _ hlt' (fun e' => ?_)
                exact hH.inj b i _ o rr r' (fun x=>hi x.symm) hes rfl (by rw [← hne i hi]; exact ho) hr hr' e'.symm
              · intro y r' hy' hr'
                simp only [Tr.get_set_same] at hy'
                cases hy'
              · intro es2 r' hy' hr'
                simp only [Tr.get_set_same] at hy'
                cases hy'
                rw [hr] at hr'; cases hr'
                exact ⟨en',cl',hnew,hM⟩
              · intro i o o' r1 r2 hi ho ho' how hr1 hr2
                rw [hr] at hr2; cases hr2
                exact fun e'=>hH.inj b i _ o rr r1 (fun x=>hi x.symm) hes rfl (by rw [← hne i hi]; exact ho) hr hr1 e'.symm
            · intro c hcD
              obtain ⟨i,o,r',q1,q2,q3,rfl⟩:=hcD
              left
              by_cases hi:i=b
              · subst hi; exact ⟨i,_,r',hes,rfl,q3,rfl⟩
              · exact ⟨i,o,r',by rw [← hne i hi]; exact q1,q2,q3,rfl⟩
          have hset:∀ (en':Array MapEntry) (cl':Nat),(setObj rr.c (.map en' cl')).run P w = .ok () { w with heap:=w.heap.setIfInBounds rr.c (.map en' cl') }:=fun en' cl'=>by
            simp [setObj,Sem.run,g1]
          rcases setKey_rel (q0:=q0) hz 0 cl g2 hes' with ⟨k1,k2⟩ | ⟨j,e',k0,k1,k2,k3,k4⟩
          · refine fin (en.push { key := .int q k,val:=ev n F z,born:=cl }) (cl+1) (by simpa using k2) ⟨fun d t' p af g => ?_⟩
            have hf:(Instr.findKey kt (.int q k) en.toList).run P w = .ok none w:=by simp [Instr.findKey,run_underlying huk,k1]
            simp [execOp,hx,hy,Instr.mapUpdate,run_underlying hu,hget,checkKey_ok huk,hf,hset]
          · have hf:(Instr.findKey kt (.int q k) en.toList).run P w = .ok (some (j,e'.val)) w:=by simp [Instr.findKey,run_underlying huk,k1]
            rw [Nat.sub_zero] at k2 k4
            have k2':en[j]?=some e':=by simpa using k2
            have hlt:j<en.size:=by
              rcases Nat.lt_or_ge j en.size with h | h
              · exact h
              · rw [Array.getElem?_eq_none h] at k2'; cases k2'
            have hmod:(en.modify j fun e=>{ e with key := .int q k,val:=ev n F z }).toList=en.toList.set j { e' with key := .int q k,val:=ev n F z }:=by
              apply List.ext_getElem?
              intro i
              rw [Array.getElem?_toList,Array.getElem?_modify,List.getElem?_set]
              by_cases hij:j=i
              · subst hij
                rw [if_pos rfl,if_pos rfl,k2']
                simp [hlt]
              · rw [if_neg hij,if_neg hij]
                simp
            refine fin (en.modify j fun e=>{ e with key := .int q k,val:=ev n F z }) cl (by rw [hmod]; exact k4) ⟨fun d t' p af g => ?_⟩
            have hkey:(Instr.keyThatStays (.int q k) (.int q k)).run P w = .ok (.int q k) w:=by
              simp [Instr.keyThatStays,Instr.sameBits]
            simp [execOp,hx,hy,Instr.mapUpdate,run_underlying hu,hget,checkKey_ok huk,hf,k2',k3,hkey,hset]
        · cases h
      · cases h
    · cases h
  · cases h
end
end Go.Hm
namespace Go.Hm
open Go Go.RowKit Go.Wk
section
variable {P:Program} {n:Nat} {F:Env} {ρ:Rn} {s:St} {w:World} {cx:Cx}
theorem ev1_some {k:HV→Option Rs} {x:Operand} {r:Rs} (h:ev1 s k x=some r):∃ v,s.ev x=some v∧k v=some r:=by
  unfold ev1 at h
  split at h
  · rename_i v hv; exact ⟨v,hv,h⟩
  · cases h
theorem OpOk.of_pure {o:Op} {r:Rs} (hH:RelH ρ s.hp w) (h:∃ v,r = .val v s ∧ ∃ u,Val P n F w o u w∧VR ρ v u):OpOk P n F ρ s w o r:=by
  obtain ⟨v,rfl,u,h1,h2⟩:=h
  exact OpOk.pure hH h1 h2
theorem evs_one {xs:List Operand} {a:HV} (h:s.evs xs=some [a]):∃ x,xs=[x]∧s.ev x=some a:=by
  cases xs with
  | nil=>cases h
  | cons x xs =>
    unfold St.evs at h
    cases hx:s.ev x with
    | none=>rw [hx] at h; cases h
    | some v =>
      rw [hx] at h
      cases hxs:s.evs xs with
      | none=>rw [hxs] at h; cases h
      | some l =>
        rw [hxs] at h
        cases h
        cases xs with
        | nil=>exact ⟨x,rfl,hx⟩
        | cons y ys =>
          exfalso
          unfold St.evs at hxs
          split at hxs
          · split at hxs <;> cases hxs
          · cases hxs
theorem evs_two {xs:List Operand} {a b:HV} (h:s.evs xs=some [a,b]):∃ x y,xs=[x,y]∧s.ev x=some a∧s.ev y=some b:=by
  cases xs with
  | nil=>cases h
  | cons x xs =>
    unfold St.evs at h
    cases hx:s.ev x with
    | none=>rw [hx] at h; cases h
    | some v =>
      rw [hx] at h
      cases hxs:s.evs xs with
      | none=>rw [hxs] at h; cases h
      | some l =>
        rw [hxs] at h
        cases h
        obtain ⟨y,rfl,hy⟩:=evs_one hxs
        exact ⟨x,y,rfl,hx,hy⟩
theorem builtin_ok (hc:CxOk P cx) (hH:RelH ρ s.hp w) (hE:EnvR ρ n s F) {b:Builtin} {ts:List Nat} {xs:List Operand} {l:List HV} {r:Rs} (hl:s.evs xs=some l) (h:doBuiltin cx s b ts l=some r) :
    OpOk P n F ρ s w (.call { callee := .builtin b,args:=xs.toArray,argTypes:=ts.toArray }) r:=by
  unfold doBuiltin at h
  split at h
  ·
    rename_i t v
    obtain ⟨x,rfl,hx⟩:=evs_one hl
    clear hl
    replace hx:=ev_rel hE hx
    split at h
    · rename_i z hz
      obtain ⟨i,T⟩:=hc.ty hz
      split at h
      · rename_i k e hs
        cases h
        have hu:=sh_map (T.sh.symm.trans hs)
        unfold VR at hx
        refine OpOk.pure hH (u := .int .i64 0) ⟨fun d t' p af g => ?_⟩ (by unfold VR; rfl)
        simp [execOp,hx,resolve,invoke,builtin,Builtin.len_,run_underlying hu,goInt]
      · rename_i k e b hs
        split at h
        · rename_i es hes
          cases h
          have hu:=sh_map (T.sh.symm.trans hs)
          unfold VR at hx
          obtain ⟨q,hq,hx⟩:=hx
          obtain ⟨en,cl,g1,g2⟩:=hH.map b es q hes hq
          have hlen:∀ {es:List (HV×HV)} {en:List MapEntry},MapsR ρ es en→en.length=es.length:=by
            intro es
            induction es with
            | nil=>intro en h; unfold MapsR at h; rw [h]; rfl
            | cons a es ih=>intro en h; unfold MapsR at h; obtain ⟨e,en',rfl,_,_,_,h5⟩:=h; simp [ih h5]
          have hsz:en.size=es.length:=by rw [← hlen g2]; simp
          refine OpOk.pure hH (u := .int .i64 (es.length:Int)) ⟨fun d t' p af g => ?_⟩ (by unfold VR; rfl)
          have hget:(getObj q.c).run P w = .ok (.map en cl) w:=by simp [getObj,Sem.run,g1]
          simp [execOp,hx,resolve,invoke,builtin,Builtin.len_,run_underlying hu,goInt,hget,hsz]
        · cases h
      · rename_i b hs
        cases h
        exact OpOk.pure hH (len_ok hc hH hx ⟨z,hz,.inr ⟨hs,b,rfl⟩⟩ rfl) (by unfold VR; rfl)
      · cases h
      · rename_i v0 e hs hne
        split at h
        · rename_i m hm
          cases h
          exact OpOk.pure hH (len_ok hc hH hx ⟨z,hz,.inl ⟨e,hs,fun b hb=>hne b hb⟩⟩ hm) (by unfold VR; rfl)
        · cases h
      · cases h
    · cases h
  · obtain ⟨x,y,rfl,hx,hy⟩:=evs_two hl
    exact append_ok hc hH h (ev_rel hE hx) (ev_rel hE hy)
  · obtain ⟨x,y,rfl,hx,hy⟩:=evs_two hl
    exact copy_ok hc hH h (ev_rel hE hx) (ev_rel hE hy)
  · obtain ⟨x,rfl,hx⟩:=evs_one hl
    exact clear_ok hc hH h (ev_rel hE hx)
  · split at h
    · rename_i v hv
      cases h
      obtain ⟨u,h1,h2⟩:=minmax_ok (b:=false) (w:=w) (P:=P) (ts:=ts.toArray) hE hl hv
      exact OpOk.pure hH h1 h2
    · cases h
  · split at h
    · rename_i v hv
      cases h
      obtain ⟨u,h1,h2⟩:=minmax_ok (b:=true) (w:=w) (P:=P) (ts:=ts.toArray) hE hl hv
      exact OpOk.pure hH h1 h2
    · cases h
  · cases h
theorem un_ok {op:UnOp} {t:TypeId} {x:Operand} {v:HV} {r:Rs} (h:doUn s op v=some r) (hv:VR ρ v (ev n F x)):∃ v,r = .val v s ∧ ∃ u,Val P n F w (.unOp op t x) u w∧VR ρ v u:=by
  unfold doUn at h
  split at h
  · cases h
    unfold VR at hv
    exact ⟨_,rfl,_,Val_not hv,by unfold VR; rfl⟩
  · rename_i k m
    cases h
    unfold VR at hv
    refine ⟨_,rfl,.int k (k.wrap (0 - m)),⟨fun d t' p af g => ?_⟩,by unfold VR; rw [wrapI_eq]; rfl⟩
    simp [execOp,hv,Op.unary,Op.intArith]
  · cases h
theorem doOp_ok (hc:CxOk P cx) (hH:RelH ρ s.hp w) (hE:EnvR ρ n s F) {o:Op} {r:Rs} (h:doOp cx s o=some r):OpOk P n F ρ s w o r:=by
  unfold doOp at h
  split at h
  · obtain ⟨v,hv,h⟩:=ev1_some h
    cases h
    exact OpOk.pure hH (Val_move rfl) (ev_rel hE hv)
  · obtain ⟨v,hv,h⟩:=ev1_some h
    cases h
    exact OpOk.pure hH (Val_assign rfl) (ev_rel hE hv)
  · obtain ⟨v,hv,h⟩:=ev1_some h
    have hv:=ev_rel hE hv
    unfold doPick at h
    split at h
    · unfold VR at hv
      split at h
      · rename_i u hu
        cases h
        exact OpOk.pure hH (Val_pick_t hv rfl) (ev_rel hE hu)
      · cases h
    · unfold VR at hv
      split at h
      · rename_i u hu
        cases h
        exact OpOk.pure hH (Val_pick_f hv rfl) (ev_rel hE hu)
      · cases h
    · cases h
  · exact alloc_ok hc hH h
  · obtain ⟨v,hv,h⟩:=ev1_some h
    exact box_ok hH h (ev_rel hE hv)
  · split at h
    · rename_i l hl; exact build_ok hc hH hE hl h
    · cases h
  · split at h
    · rename_i l hl; exact buildSlice_ok hc hH hE hl h
    · cases h
  · obtain ⟨v,hv,h⟩:=ev1_some h
    exact OpOk.of_pure hH (load_ok hc hH h (ev_rel hE hv))
  · obtain ⟨v,hv,h⟩:=ev1_some h
    obtain ⟨u,hu,h⟩:=ev1_some h
    exact store_ok hc hH h (ev_rel hE hv) (ev_rel hE hu)
  · obtain ⟨v,hv,h⟩:=ev1_some h
    have hv:=ev_rel hE hv
    unfold doNil at h
    split at h
    · cases h
      have hv2:=hv
      unfold VR at hv2
      obtain ⟨q,hq,hx⟩:=hv2
      exact OpOk.pure hH (Val_nilCheck hx) (by rw [hx] at hv; exact hv)
    · cases h
  · obtain ⟨v,hv,h⟩:=ev1_some h
    obtain ⟨u,hu,h⟩:=ev1_some h
    split at h
    · rename_i q hq
      cases h
      obtain ⟨z,h1,h2⟩:=binop_val (P:=P) (w:=w) hc hq (ev_rel hE hv) (ev_rel hE hu)
      exact OpOk.pure hH h1 h2
    · cases h
  · obtain ⟨v,hv,h⟩:=ev1_some h
    exact OpOk.of_pure hH (un_ok h (ev_rel hE hv))
  · obtain ⟨v,hv,h⟩:=ev1_some h
    exact OpOk.of_pure hH (convert_ok hc hH h (ev_rel hE hv))
  · rename_i f first caps
    split at h
    · rename_i l hf hl
      cases h
      have hr:=evs_rel hE hl
      have hf:first = #[]:=by
        apply Array.ext'
        simpa using hf
      subst hf
      refine OpOk.pure hH (u := .func (.func f) #[] (caps.toList.map (ev n F)).toArray) (Val_func (by apply Array.ext'; simp)) ?_
      unfold VR
      exact ⟨_,rfl,hr⟩
    · cases h
  · exact makeMap_ok hH h
  · obtain ⟨v,hv,h⟩:=ev1_some h
    obtain ⟨u,hu,h⟩:=ev1_some h
    exact makeSlice_ok hc hH h (ev_rel hE hv) (ev_rel hE hu)
  · split at h
    · rename_i v l q m hv hl hq hm
      exact OpOk.of_pure hH (slice_ok hc hH hE h (ev_rel hE hv) hl hq hm)
    · cases h
  · obtain ⟨v,hv,h⟩:=ev1_some h
    exact OpOk.of_pure hH (field_ok hc h (ev_rel hE hv))
  · obtain ⟨v,hv,h⟩:=ev1_some h
    obtain ⟨u,hu,h⟩:=ev1_some h
    exact OpOk.of_pure hH (indexA_ok hc h (ev_rel hE hv) (ev_rel hE hu))
  · obtain ⟨v,hv,h⟩:=ev1_some h
    obtain ⟨u,hu,h⟩:=ev1_some h
    exact OpOk.of_pure hH (index_ok hc h (ev_rel hE hv) (ev_rel hE hu))
  · obtain ⟨v,hv,h⟩:=ev1_some h
    obtain ⟨u,hu,h⟩:=ev1_some h
    exact OpOk.of_pure hH (lookup_ok hc hH h (ev_rel hE hv) (ev_rel hE hu))
  · obtain ⟨v,hv,h⟩:=ev1_some h
    obtain ⟨u,hu,h⟩:=ev1_some h
    obtain ⟨z,hz,h⟩:=ev1_some h
    exact update_ok hc hH h (ev_rel hE hv) (ev_rel hE hu) (ev_rel hE hz)
  · obtain ⟨v,hv,h⟩:=ev1_some h
    have hv:=ev_rel hE hv
    unfold doExtract at h
    split at h
    · split at h
      · rename_i u hu
        cases h
        unfold VR at hv
        obtain ⟨us,hx,h1⟩:=hv
        obtain ⟨y,h2,h3⟩:=VRs_get h1 _ u hu
        exact OpOk.pure hH (Val_extract hx (by simpa using h2)) h3
      · cases h
    · cases h
  · rename_i c
    obtain ⟨callee,args,argTypes⟩:=c
    split at h
    · rename_i b hb
      simp only at hb
      subst hb
      split at h
      · rename_i l hl
        have:=builtin_ok (P:=P) hc hH hE hl h
        simpa using this
      · cases h
    · rename_i f hb
      simp only at hb
      subst hb
      split at h
      · rename_i l hl
        obtain ⟨v,hv,h⟩:=ev1_some h
        have hv:=ev_rel hE hv
        have hr:=evs_rel hE hl
        unfold doCall at h
        split at h
        · rename_i g caps
          cases h
          unfold VR at hv
          obtain ⟨us,hx,h1⟩:=hv
          refine ⟨args.toList.map (ev n F)++us,VRs_app hr h1,fun d t p af gg => ?_⟩
          have:(args.map (ev n F))++us.toArray=(args.toList.map (ev n F)++us).toArray:=by
            apply Array.ext'; simp
          simp only [execOp,resolve,hx,Deferred.ofValue,Sem.run_bind,Sem.run_pure,Result.andThen_ok,invoke]
          rw [← this]
          simp
        · cases h
      · cases h
    · cases h
  · cases h
end
end Go.Hm
namespace Go.Hm
open Go Go.RowKit Go.Wk
structure Grow (s s':St):Prop where
  nx:s.nx≤s'.nx
  keep:∀ b,b<s.nx→isIn b s.lk=true→s'.hp.get b=s.hp.get b
  nt:s'.nt=s.nt
  lk:s'.lk=s.lk
  df:s'.df=s.df
  weak:∀ b o,s'.hp.get b=some o→owned o=false→s.hp.get b=some o
  fresh:∀ b,s'.nx≤b→s.hp.get b=none→s'.hp.get b=none
theorem weak_set {hp:Tr Obj} {n:Nat} {x:Obj} (h:owned x=true):∀ b o,(hp.set n x).get b=some o→owned o=false→hp.get b=some o:=by
  intro b o hb ho
  rw [Tr.get_set] at hb
  split at hb
  · cases hb; rw [h] at ho; cases ho
  · exact hb
theorem fresh_set {hp:Tr Obj} {n:Nat} {x:Obj} {b:Nat} (h:b≠n) (hb:hp.get b=none):(hp.set n x).get b=none:=by
  rw [Tr.get_set_ne _ _ h]; exact hb
theorem Grow.refl (s:St):Grow s s:=⟨Nat.le_refl _,fun _ _ _=>rfl,rfl,rfl,rfl,fun _ _ h _=>h,fun _ _ h=>h⟩
theorem Grow.trans {a b c:St} (h:Grow a b) (k:Grow b c):Grow a c :=
  ⟨Nat.le_trans h.nx k.nx,fun x hx hl=>by rw [k.keep x (Nat.lt_of_lt_of_le hx h.nx) (by rw [h.lk]; exact hl),h.keep x hx hl],k.nt.trans h.nt,k.lk.trans h.lk,k.df.trans h.df,fun b o hb ho=>h.weak b o (k.weak b o hb ho) ho,fun b hb hs=>k.fresh b hb (h.fresh b (Nat.le_trans k.nx hb) hs)⟩
def Fr (s:St):Prop := ∀ b,s.nx≤b→s.hp.get b=none
theorem Grow.fr {s s':St} (g:Grow s s') (h:Fr s):Fr s':=fun b hb=>g.fresh b hb (h b (Nat.le_trans g.nx hb))
section
variable {s s':St} {cx:Cx}
theorem Grow.new (s:St) (z:Nat) (l:List HV):Grow s (s.new z l).2 :=
  ⟨Nat.le_succ _,fun b hb _=>Tr.get_set_ne _ _ (by omega),rfl,rfl,rfl,weak_set rfl,fun b hb=>fresh_set (by have hb:s.nx+1≤b:=hb; omega)⟩
theorem Grow.put (s:St) (d:Option Nat) (v:HV):Grow s (s.put d v):=by
  cases d with
  | none=>exact Grow.refl s
  | some d =>
    unfold St.put
    simp only [bif_eq]
    split
    · exact ⟨Nat.le_refl _,fun _ _ _=>rfl,rfl,rfl,rfl,fun _ _ h _=>h,fun _ _ h=>h⟩
    · exact Grow.refl s
theorem free_ne {b c:Nat} (h:s.free b=true) (hc:isIn c s.lk=true):c≠b:=by
  rintro rfl
  unfold St.free at h
  rw [hc] at h
  cases h
theorem Grow.write {b o:Nat} {l:List HV} (h:s.write b o l=some s'):Grow s s':=by
  unfold St.write at h
  split at h
  · rw [bif_eq] at h
    split at h
    · rename_i hc
      cases h
      simp only [Bool.and_eq_true] at hc
      exact ⟨Nat.le_refl _,fun c _ hl=>Tr.get_set_ne _ _ (free_ne hc.2.1 hl),rfl,rfl,rfl,weak_set rfl,fun c _ hn=>fresh_set (by
        rintro rfl
        rename_i hblk _
        unfold St.blk at hblk
        rw [hn] at hblk
        cases hblk) hn⟩
    · cases h
  · cases h
def GrowR (s:St):Rs→Prop
  | .val _ s'=>Grow s s'
  | .act s'=>Grow s s'
  | .call _ _=>True
theorem grow_row {b z k:Nat} {c:Tr HV} (h:s.free b=true):Grow s ⟨s.nt,s.env,(s.hp.del b).set s.nx (.blk ⟨true,z,k,c⟩),Nat.add s.nx 1,s.lk,s.df⟩ :=
  ⟨Nat.le_succ _,fun x hx hl=>by
    simp only
    rw [Tr.get_set_ne _ _ (by omega),Tr.get_del,if_neg (free_ne h hl)],rfl,rfl,rfl,fun x o hx ho=>by
    have:=weak_set (hp:=s.hp.del b) rfl x o hx ho
    rw [Tr.get_del] at this
    split at this
    · cases this
    · exact this,fun x hx hn=>fresh_set (by have hx:s.nx+1≤x:=hx; omega) (by rw [Tr.get_del]; split <;> first | rfl | exact hn)⟩
theorem appendTo_grow {z k:Nat} {a:HV} {new:List HV} {r:Rs} (h:appendTo s z a new k=some r):GrowR s r:=by
  unfold appendTo at h
  split at h
  · split at h
    · simp only [bif_eq] at h
      split at h
      · rename_i hc
        simp only [Bool.and_eq_true] at hc
        split at h
        · split at h
          · rename_i hs; cases h; exact Grow.write hs
          · cases h
        · split at h
          · split at h
            · cases h; exact grow_row hc.2.1
            · split at h
              · cases h; exact grow_row hc.2.1
              · cases h
          · cases h
      · cases h
    · cases h
  · rw [bif_eq] at h
    split at h
    · cases h; exact Grow.refl s
    · cases h; exact Grow.new s _ _
  · rw [bif_eq] at h
    split at h
    · cases h; exact Grow.refl s
    · cases h; exact Grow.new s _ _
  · cases h
theorem doBuiltin_grow {b:Builtin} {ts:List Nat} {l:List HV} {r:Rs} (h:doBuiltin cx s b ts l=some r):GrowR s r:=by
  unfold doBuiltin at h
  split at h
  · split at h
    · split at h
      · cases h; exact Grow.refl s
      · split at h
        · cases h; exact Grow.refl s
        · cases h
      · cases h; exact Grow.refl s
      · cases h
      · split at h
        · cases h; exact Grow.refl s
        · cases h
      · cases h
    · cases h
  · unfold doAppend at h
    split at h
    · rw [bif_eq] at h
      split at h
      · split at h
        · rw [bif_eq] at h
          split at h
          · exact appendTo_grow h
          · cases h
        · cases h
      · cases h
    · cases h
  · unfold doCopy at h
    split at h
    · rw [bif_eq] at h
      split at h
      · split at h
        · rw [bif_eq] at h
          split at h
          · split at h
            · cases h
            · split at h
              · rename_i hs; cases h; exact Grow.write hs
              · cases h
            · split at h
              · rename_i hs; cases h; exact Grow.write hs
              · cases h
            · cases h; exact Grow.refl s
          · cases h
        · cases h
      · cases h
    · cases h
  · unfold doClear at h
    split at h
    · split at h
      · split at h
        · rename_i hs; cases h; exact Grow.write hs
        · cases h
      · cases h; exact Grow.refl s
      · cases h; exact Grow.refl s
      · cases h; exact Grow.refl s
      · cases h
    · cases h
  · split at h
    · cases h; exact Grow.refl s
    · cases h
  · split at h
    · cases h; exact Grow.refl s
    · cases h
  · cases h
theorem doOp_grow {o:Op} {r:Rs} (h:doOp cx s o=some r):GrowR s r:=by
  unfold doOp at h
  split at h
  · obtain ⟨v,hv,h⟩:=ev1_some h; cases h; exact Grow.refl s
  · obtain ⟨v,hv,h⟩:=ev1_some h; cases h; exact Grow.refl s
  · obtain ⟨v,hv,h⟩:=ev1_some h
    unfold doPick at h
    split at h
    · split at h
      · cases h; exact Grow.refl s
      · cases h
    · split at h
      · cases h; exact Grow.refl s
      · cases h
    · cases h
  · unfold doAlloc at h
    split at h
    · split at h
      · split at h
        · cases h; exact Grow.new s _ _
        · cases h
      · cases h
    · cases h
  · obtain ⟨v,hv,h⟩:=ev1_some h
    unfold doBox at h
    split at h
    · cases h; exact Grow.new s _ _
    · cases h
  · split at h
    · unfold doBuild at h
      split at h
      · split at h
        · split at h
          · split at h
            · cases h; exact Grow.refl s
            · cases h
          · split at h
            · split at h
              · cases h; exact Grow.refl s
              · cases h
            · cases h
          · cases h
        · cases h
      · cases h
    · cases h
  · split at h
    · unfold doBuildSlice at h
      split at h
      · rw [bif_eq] at h
        split at h
        · split at h
          · cases h; exact Grow.new s _ _
          · cases h
        · cases h
      · cases h
    · cases h
  · obtain ⟨v,hv,h⟩:=ev1_some h
    unfold doLoad at h
    split at h
    · split at h
      · split at h
        · rw [bif_eq] at h
          split at h
          · split at h
            · cases h; exact Grow.refl s
            · cases h
          · split at h
            · cases h; exact Grow.refl s
            · cases h
        · cases h
      · cases h
    · cases h
  · obtain ⟨v,hv,h⟩:=ev1_some h
    obtain ⟨u,hu,h⟩:=ev1_some h
    unfold doStore at h
    split at h
    · split at h
      · rw [bif_eq] at h
        split at h
        · split at h
          · rename_i hs; cases h; exact Grow.write hs
          · cases h
        · cases h
      · cases h
    · cases h
  · obtain ⟨v,hv,h⟩:=ev1_some h
    unfold doNil at h
    split at h
    · cases h; exact Grow.refl s
    · cases h
  · obtain ⟨v,hv,h⟩:=ev1_some h
    obtain ⟨u,hu,h⟩:=ev1_some h
    split at h
    · cases h; exact Grow.refl s
    · cases h
  · obtain ⟨v,hv,h⟩:=ev1_some h
    unfold doUn at h
    split at h
    · cases h; exact Grow.refl s
    · cases h; exact Grow.refl s
    · cases h
  · obtain ⟨v,hv,h⟩:=ev1_some h
    unfold doConvert at h
    split at h
    · split at h
      · cases h; exact Grow.refl s
      · cases h; exact Grow.refl s
      · split at h
        · split at h
          · split at h
            · split at h
              · split at h
                · cases h; exact Grow.refl s
                · cases h
              · cases h
            · cases h
          · cases h
        · cases h
      · cases h
    · cases h
  · split at h
    · cases h; exact Grow.refl s
    · cases h
  · unfold doMap at h
    cases h
    exact ⟨Nat.le_succ _,fun b hb _=>Tr.get_set_ne _ _ (by omega),rfl,rfl,rfl,weak_set rfl,fun b hb=>fresh_set (by have hb:s.nx+1≤b:=hb; omega)⟩
  · obtain ⟨v,hv,h⟩:=ev1_some h
    obtain ⟨u,hu,h⟩:=ev1_some h
    unfold doMakeSlice at h
    split at h
    · rw [bif_eq] at h
      split at h
      · cases h; exact Grow.new s _ _
      · cases h
    · cases h
  · split at h
    · unfold doSlice at h
      split at h
      · simp only at h
        split at h
        · split at h
          · split at h
            · cases h; exact Grow.refl s
            · cases h
          · cases h
        · split at h
          · rw [bif_eq] at h
            split at h
            · cases h; exact Grow.refl s
            · cases h
          · cases h
        · split at h
          · cases h; exact Grow.refl s
          · cases h
        · split at h
          · rw [bif_eq] at h
            split at h
            · cases h; exact Grow.refl s
            · cases h
          · cases h
        · split at h
          · rw [bif_eq] at h
            split at h
            · cases h; exact Grow.refl s
            · cases h
          · cases h
        · cases h
      · cases h
    · cases h
  · obtain ⟨v,hv,h⟩:=ev1_some h
    unfold doField at h
    split at h
    · split at h
      · split at h
        · split at h
          · cases h; exact Grow.refl s
          · cases h
        · cases h
      · cases h
    · cases h
  · obtain ⟨v,hv,h⟩:=ev1_some h
    obtain ⟨u,hu,h⟩:=ev1_some h
    unfold doIndexA at h
    split at h
    · split at h
      · split at h
        · split at h
          · rw [bif_eq] at h
            split at h
            · cases h; exact Grow.refl s
            · cases h
          · cases h
        · split at h
          · rw [bif_eq] at h
            split at h
            · cases h; exact Grow.refl s
            · cases h
          · cases h
        · split at h
          · rw [bif_eq] at h
            split at h
            · cases h; exact Grow.refl s
            · cases h
          · cases h
        · cases h
      · cases h
    · cases h
  · obtain ⟨v,hv,h⟩:=ev1_some h
    obtain ⟨u,hu,h⟩:=ev1_some h
    unfold doIndex at h
    split at h
    · split at h
      · split at h
        · split at h
          · split at h
            · cases h; exact Grow.refl s
            · cases h
          · cases h
        · cases h
      · split at h
        · split at h
          · split at h
            · rw [bif_eq] at h
              split at h
              · split at h
                · cases h; exact Grow.refl s
                · cases h
              · cases h
            · cases h
          · cases h
        · cases h
      · cases h
    · cases h
  · obtain ⟨v,hv,h⟩:=ev1_some h
    obtain ⟨u,hu,h⟩:=ev1_some h
    unfold doLookup at h
    split at h
    · split at h
      · cases h; exact Grow.refl s
      · split at h
        · cases h; exact Grow.refl s
        · cases h
      · cases h
    · cases h
  · obtain ⟨v,hv,h⟩:=ev1_some h
    obtain ⟨u,hu,h⟩:=ev1_some h
    obtain ⟨z,hz,h⟩:=ev1_some h
    unfold doUpdate at h
    split at h
    · rw [bif_eq] at h
      split at h
      · rename_i hf
        split at h
        · split at h
          · cases h
            exact ⟨Nat.le_refl _,fun c _ hl=>Tr.get_set_ne _ _ (free_ne hf hl),rfl,rfl,rfl,weak_set rfl,fun c _ hn=>fresh_set (by
              rintro rfl
              simp_all) hn⟩
          · cases h
        · cases h
      · cases h
    · cases h
  · obtain ⟨v,hv,h⟩:=ev1_some h
    unfold doExtract at h
    split at h
    · split at h
      · cases h; exact Grow.refl s
      · cases h
    · cases h
  · split at h
    · split at h
      · exact doBuiltin_grow h
      · cases h
    · split at h
      · obtain ⟨v,hv,h⟩:=ev1_some h
        unfold doCall at h
        split at h
        · cases h; trivial
        · cases h
      · cases h
    · cases h
  · cases h
end
def GrowRun (ih:Run):Prop := ∀ c s e s',ih c s=some (e,s')→Grow s s'
section
variable {cx:Cx} {ih:Run}
theorem call_grow (hi:GrowRun ih) {f:FuncId} {args:List HV} {s s':St} {v:HV} (h:call cx ih f args s=some (v,s')):Grow s s':=by
  unfold call at h
  split at h
  · unfold outer at h
    split at h
    · rw [bif_eq] at h
      split at h
      · cases h; exact Grow.new _ _ _
      · cases h
    · cases h; exact Grow.refl _
    · cases h
  · split at h
    · split at h
      · rw [bif_eq] at h
        split at h
        · split at h
          · cases h
          · rename_i s1 hne hs
            split at h
            · cases h
              have:=hi _ _ _ _ hs
              exact ⟨this.nx,this.keep,rfl,rfl,rfl,this.weak,this.fresh⟩
            · cases h
          · cases h
        · cases h
      · cases h
    · cases h
theorem step1_grow (hi:GrowRun ih) {ops:Array Oper} {o:Oper} {s s':St} (h:step1 cx ih ops s o=some s'):Grow s s':=by
  unfold step1 at h
  split at h
  · split at h
    · rename_i v s1 hs
      cases h
      exact (doOp_grow hs:Grow s s1).trans (Grow.put _ _ _)
    · rename_i s1 hs
      cases h
      exact (doOp_grow hs:Grow s s1).trans (Grow.put _ _ _)
    · split at h
      · rename_i hs
        cases h
        exact (call_grow hi hs).trans (Grow.put _ _ _)
      · cases h
    · cases h
  · cases h; exact Grow.put _ _ _
  · cases h
theorem runOps_grow (hi:GrowRun ih) {ops:Array Oper}:∀ {l:List Oper} {s s':St},runOps cx ih ops s l=some s'→Grow s s'
  | [],s,s',h=>by cases h; exact Grow.refl s
  | o::l,s,s',h=>by
    unfold runOps at h
    split at h
    · rename_i s1 hs
      exact (step1_grow hi hs).trans (runOps_grow hi h)
    · cases h
theorem lockAll_in {s:St}:∀ {l:List Operand} {L:List Nat},lockAll s l=some L → ∀ b,isIn b s.lk=true→isIn b L=true
  | [],L,h,b,hb=>by cases h; exact hb
  | a::l,L,h,b,hb=>by
    unfold lockAll at h
    split at h
    · rename_i L' hL'
      have ih:=lockAll_in hL' b hb
      split at h <;> cases h <;> first | exact ih | (unfold isIn; rw [ih,Bool.or_true])
    · cases h
theorem runItems_grow (hi:GrowRun ih) {ops:Array Oper}:∀ {l:List Item} {s s':St},runItems cx ih ops s l=some s'→Grow s s'
  | [],s,s',h=>by cases h; exact Grow.refl s
  | x::l,s,s',h=>by
    unfold runItems at h
    split at h
    · rename_i L hL
      rw [bif_eq] at h
      split at h
      · cases h
      · split at h
        · rename_i s1 hs
          have g:=step1_grow hi hs
          have:Grow s (s.take x.o s1):=⟨g.nx,fun b hb hl=>g.keep b hb (lockAll_in hL b hl),rfl,rfl,rfl,g.weak,g.fresh⟩
          exact this.trans (runItems_grow hi h)
        · cases h
    · cases h
theorem stepC_grow (hi:GrowRun ih):GrowRun (stepC cx ih):=by
  intro c s e s' h
  unfold stepC at h
  split at h
  · cases h; exact Grow.refl s
  · split at h
    · rename_i hs; cases h; exact runOps_grow hi hs
    · cases h
  · split at h
    · split at h
      · rename_i hs; cases h; exact runItems_grow hi hs
      · cases h
    · cases h
  · split at h
    · rename_i s1 hs; exact (hi _ _ _ _ hs).trans (hi _ _ _ _ h)
    · exact hi _ _ _ _ h
  · split at h
    · exact hi _ _ _ _ h
    · exact hi _ _ _ _ h
    · cases h
  · split at h
    · rename_i hs
      rw [bif_eq] at h
      split at h <;> (cases h; exact hi _ _ _ _ hs)
    · exact hi _ _ _ _ h
  · split at h
    · rename_i s1 hs; exact (hi _ _ _ _ hs).trans (hi _ _ _ _ h)
    · exact hi _ _ _ _ h
  · cases h; exact Grow.refl s
  · cases h; exact Grow.refl s
  · cases h
theorem run_grow:∀ k,GrowRun (run cx k)
  | 0=>fun _ _ _ _ h=>by cases h
  | k+1=>stepC_grow (run_grow k)
end
end Go.Hm
namespace Go.Hm
open Go Go.RowKit Go.Wk
section
variable {P:Program} {n:Nat} {ops:Array Oper} {rest:List Oper} {k:Env→World→Prop} {F:Env} {w w':World} {o:Oper} {v:Value}
theorem LW_skipO (hw:Region.wanted o (yielded ops (fr n F).tmps)=false) (hk:Wk.LW P n ops rest k (updO F o.dst undef) w):Wk.LW P n ops (o::rest) k F w:=by
  unfold Wk.LW at *
  intro Q hq
  refine wpList_step (fun K hK => ?_)
  rw [hw]
  simp only [Bool.false_eq_true,if_false]
  rw [fr_putO]
  exact hK _ _ (hk Q hq)
theorem LW_valO (hw:Region.wanted o (yielded ops (fr n F).tmps)=true) (h:(execOp (ev n F) o).run P w = .ok (.value v) w') (hk:Wk.LW P n ops rest k (updO F o.dst v) w'):Wk.LW P n ops (o::rest) k F w:=by
  unfold Wk.LW at *
  intro Q hq
  refine wpList_step (fun K hK => ?_)
  rw [hw]
  simp only [if_true]
  unfold Oper.wp
  rw [fr_eval,h]
  show K ((fr n F).put o.dst v) w'
  rw [fr_putO]
  exact hK _ _ (hk Q hq)
theorem LW_actO (hw:Region.wanted o (yielded ops (fr n F).tmps)=true) (h:(execOp (ev n F) o).run P w = .ok .skip w') (hk:Wk.LW P n ops rest k (updO F o.dst undef) w'):Wk.LW P n ops (o::rest) k F w:=by
  unfold Wk.LW at *
  intro Q hq
  refine wpList_step (fun K hK => ?_)
  rw [hw]
  simp only [if_true]
  unfold Oper.wp
  rw [fr_eval,h]
  show K ((fr n F).put o.dst undef) w'
  rw [fr_putO]
  exact hK _ _ (hk Q hq)
theorem LW_callO {f:FuncId} {args:Array Value} {R:Value→World→Prop} (hw:Region.wanted o (yielded ops (fr n F).tmps)=true) (h:(execOp (ev n F) o).run P w = .ok (.enter f args) w) (hf:FnC P f args w R)
    (hk:∀ v w',R v w'→Wk.LW P n ops rest k (updO F o.dst v) w'):Wk.LW P n ops (o::rest) k F w:=by
  unfold Wk.LW at *
  intro Q hq
  refine wpList_step (fun K hK => ?_)
  rw [hw]
  simp only [if_true]
  unfold Oper.wp
  rw [fr_eval,h]
  refine Calls.mono hf ?_
  rintro e w' ⟨v,rfl,hR⟩
  show K ((fr n F).put o.dst v) w'
  rw [fr_putO]
  exact hK _ _ (hk v w' hR Q hq)
end
section
variable {P:Program} {n:Nat} {F:Env} {ρ ρ':Rn} {s s':St} {w w':World} {cx:Cx} {ih:Run}
theorem put_nx (s:St) (d:Option Nat) (v:HV):(s.put d v).nx=s.nx:=by
  cases d with
  | none=>rfl
  | some d=>unfold St.put; simp only [bif_eq]; split <;> rfl
theorem put_hp (s:St) (d:Option Nat) (v:HV):(s.put d v).hp=s.hp:=by
  cases d with
  | none=>rfl
  | some d=>unfold St.put; simp only [bif_eq]; split <;> rfl
theorem VR_bool {v:HV} {u:Value} (h:VR ρ v u) (h1:∀ b,v ≠ .bool b) (h2:v ≠ .any):∀ b,u ≠ .bool b:=by
  intro b hb
  subst hb
  cases v
  case any=>exact h2 rfl
  case bool c=>exact h1 c rfl
  all_goals
    unfold VR at h
    simp [undef] at h
theorem takes_wanted {ops:Array Oper} {o:Oper} {b:Bool} (hE:EnvR ρ n s F) (h:takes s ops o=some b):Region.wanted o (yielded ops (fr n F).tmps)=b:=by
  unfold takes at h
  unfold Region.wanted
  split at h
  · rename_i hg
    cases h
    rw [hg]
  · rename_i j want hg
    rw [hg]
    simp only
    split at h
    · rename_i g hj
      have hr:=hE.2 g
      split at h
      · rename_i c hc
        cases h
        rw [hc] at hr
        unfold VR at hr
        rw [yielded_fr hj hr]
        cases c <;> cases want <;> rfl
      · cases h
      · rename_i hn1 hn2
        cases h
        have hnb:=VR_bool hr (fun b hb=>hn1 b hb) (fun ha=>hn2 ha)
        have hy:yielded ops (fr n F).tmps j=none:=by
          unfold yielded
          rw [hj]
          simp only [Option.bind_some]
          have he:=fr_eval n F
          have hg':∀ b,(fr n F).tmps[g]?≠some (.bool b):=by
            intro b hb
            apply hnb b
            rw [← he]
            show (fr n F).tmps.getD g undef=_
            rw [Array.getD_eq_getD_getElem?,hb]
            rfl
          split
          · rename_i b hb; exact absurd hb (hg' b)
          · rfl
        rw [hy]
        rfl
    · cases h
theorem tmp_put (s:St) (d t:Nat) (v:HV):(s.put (some d) v).tmp t=if d<s.nt∧t=d then v else s.tmp t:=by
  unfold St.put
  simp only [bif_eq]
  split
  · rename_i h
    have h:=blt_iff.1 h
    unfold St.tmp
    simp only [Tr.get_set]
    by_cases ht:t=d
    · rw [if_pos ht,if_pos ⟨h,ht⟩]
    · rw [if_neg ht,if_neg (fun x=>ht x.2)]
  · rename_i h
    rw [if_neg (fun x=>h (blt_iff.2 x.1))]
theorem ev_upd (n:Nat) (F:Env) (d t:Nat) (u:Value):ev n (upd F d u) (.tmp t)=if d<n∧t=d then u else ev n F (.tmp t):=by
  show (bif Nat.blt t n then upd F d u t else undef)=if d<n∧t=d then u else (bif Nat.blt t n then F t else undef)
  by_cases ht:t=d
  · subst ht
    by_cases hn:t<n
    · rw [if_pos ⟨hn,rfl⟩,blt_iff.2 hn,upd_same]; rfl
    · have:Nat.blt t n=false:=by
        cases hb:Nat.blt t n with
        | false=>rfl
        | true=>exact absurd (blt_iff.1 hb) hn
      rw [if_neg (fun x=>hn x.1),this]; rfl
  · rw [if_neg (fun x=>ht x.2),upd_ne _ _ ht]
theorem EnvR.put (h:EnvR ρ n s F) (d:Option Nat) {v:HV} {u:Value} (hv:VR ρ v u):EnvR ρ n (s.put d v) (updO F d u):=by
  cases d with
  | none=>exact h
  | some d =>
    refine ⟨?_,fun t => ?_⟩
    · rw [← h.1]
      unfold St.put
      simp only [bif_eq]
      split <;> rfl
    · show VR ρ _ (ev n (upd F d u) (.tmp t))
      rw [tmp_put,ev_upd,h.1]
      split
      · exact hv
      · exact h.2 t
theorem EnvR.ext (h:EnvR ρ n s F) (e:Ext ρ ρ') (h1:s'.nt=s.nt) (h2:s'.env=s.env) (h3:s'.df=s.df):EnvR ρ' n s' F:=by
  refine ⟨h1.trans h.1,fun t => ?_⟩
  have:s'.tmp t=s.tmp t:=by unfold St.tmp; rw [h2,h3]
  rw [this]
  exact VR.ext e _ _ (h.2 t)
def Kat (K:Kont):Ex→Env→World→Prop
  | .norm=>K.norm
  | .ret=>K.ret
  | .exit id=>Wk.look id K.exits
def RunOk (P:Program) (ih:Run):Prop := ∀ c s e s',ih c s=some (e,s') → ∀ (n:Nat) (ρ:Rn) (F:Env) (w:World) (K:Kont),EnvR ρ n s F→RelH ρ s.hp w→Fr s→Undef ρ s.nx s'.nx →
  (∀ ρ' F' w',EnvR ρ' n s' F'→Post ρ s w ρ' s' w'→Kat K e F' w')→W P n c K F w
def Gives (ρ:Rn) (s:St) (w:World) (s':St) (v:HV) (u:Value) (w':World):Prop := ∃ ρ',VR ρ' v u∧Post ρ s w ρ' s' w'
theorem envOf_get:∀ (l:List HV) (i t:Nat) (T:Tr HV),(envOf i l T).get t=if i≤t∧t<i+l.length then l[t - i]? else T.get t
  | [],i,t,T=>by
    rw [if_neg (by simp only [List.length_nil]; omega)]; rfl
  | v::vs,i,t,T=>by
    show (envOf (i+1) vs (T.set i v)).get t=_
    rw [envOf_get vs,Tr.get_set,List.length_cons]
    by_cases h:t=i
    · subst h
      rw [if_neg (by omega),if_pos rfl,if_pos (by omega),Nat.sub_self]; rfl
    · rw [if_neg h]
      by_cases h2:i+1≤t∧t<i+1+vs.length
      · rw [if_pos h2,if_pos (by omega)]
        have:t - i=(t - (i+1))+1:=by omega
        rw [this,List.getElem?_cons_succ]
      · rw [if_neg h2,if_neg (by omega)]
theorem argEnv_rel {args:List HV} {us:List Value} {m:Nat} {hp:Tr Obj} {nx:Nat} {lk:List Nat} (h:VRs ρ args us) (hm:args.length≤m):EnvR ρ m ⟨m,envOf 0 args .e,hp,nx,lk,.undef⟩ (argEnv us.toArray):=by
  refine ⟨rfl,fun t => ?_⟩
  have hl:=VRs_len h
  unfold St.tmp
  simp only [envOf_get,Nat.zero_le,true_and,Nat.zero_add,Nat.sub_zero,Tr.get_e]
  show VR ρ _ (bif Nat.blt t m then argEnv us.toArray t else undef)
  by_cases ht:t<args.length
  · rw [if_pos ht,blt_iff.2 (by omega)]
    rw [List.getElem?_eq_getElem ht]
    obtain ⟨u,h1,h2⟩:=VRs_get h t _ (List.getElem?_eq_getElem ht)
    have:argEnv us.toArray t=u:=by
      unfold argEnv
      simp [Array.getD_eq_getD_getElem?,h1]
    simp only [cond_true,this]
    exact h2
  · rw [if_neg ht]
    have hu:argEnv us.toArray t=undef:=by
      unfold argEnv
      have:us[t]?=none:=List.getElem?_eq_none (by omega)
      simp [Array.getD_eq_getD_getElem?,this]
    simp only [hu]
    unfold VR
    cases Nat.blt t m <;> rfl
theorem res_ok {g:ResultVar→Sem Value} (hg1:∀ t,g (.tmp t)=pure ((fr n F).tmps.getD t undef)) (hg2:∀ a t,g (.cell a t)=(do loadVar t (← asAddr ((fr n F).tmps.getD a undef)))) (hc:CxOk P cx) (hH:RelH ρ s.hp w) (hE:EnvR ρ n s F):∀ {rs:List ResultVar} {l:List HV},resOf cx s rs=some l →
    ∃ us,(rs.mapM g).run P w = .ok us w∧VRs ρ l us
  | [],l,h=>by cases h; exact ⟨[],by simp,by unfold VRs; rfl⟩
  | .tmp t::rs,l,h=>by
    unfold resOf at h
    split at h
    · rename_i l' hl'
      cases h
      obtain ⟨us,h1,h2⟩:=res_ok hg1 hg2 hc hH hE hl'
      have he:(fr n F).tmps.getD t undef=ev n F (.tmp t):=congrFun (fr_eval n F) (.tmp t)
      refine ⟨ev n F (.tmp t)::us,?_,by unfold VRs; exact ⟨_,us,rfl,hE.2 t,h2⟩⟩
      simp only [List.mapM_cons,hg1,Sem.run_bind,Sem.run_pure,Result.andThen_ok,h1,he]
    · cases h
  | .cell a t::rs,l,h=>by
    unfold resOf at h
    split at h
    · rename_i u s1 hu
      split at h
      · rename_i l' hl'
        cases h
        obtain ⟨us,h1,h2⟩:=res_ok hg1 hg2 hc hH hE hl'
        have he:(fr n F).tmps.getD a undef=ev n F (.tmp a):=congrFun (fr_eval n F) (.tmp a)
        obtain ⟨v,hv,y,h3,h4⟩:=load_ok (P:=P) (n:=n) (F:=F) (w:=w) hc hH hu (hE.2 a) (x := .tmp a)
        cases hv
        have hp:∃ q,ev n F (.tmp a) = .pointer (some q):=by
          have:=hE.2 a
          unfold doLoad at hu
          split at hu
          · rename_i b o hb
            rw [hb] at this
            unfold VR at this
            obtain ⟨q,_,h⟩:=this
            exact ⟨_,h⟩
          · cases hu
        obtain ⟨q,hq⟩:=hp
        have hrun := h3.run none 0 "" #[] none
        simp only [execOp,hq,Instr.loadAt,Instr.sureAddr,Sem.run_bind,Sem.run_pure,Result.andThen_ok] at hrun
        have hlv:(loadVar t q).run P w = .ok y w:=by
          cases hr:(loadVar t q).run P w with
          | ok a b =>
            rw [hr] at hrun
            simp only [Result.andThen_ok] at hrun
            injection hrun with h5 h6
            injection h5 with h5
            rw [h5,h6]
          | halt a b=>rw [hr] at hrun; cases hrun
        refine ⟨y::us,?_,by unfold VRs; exact ⟨_,us,rfl,h4,h2⟩⟩
        simp only [List.mapM_cons,hg2,Sem.run_bind,Sem.run_pure,Result.andThen_ok,he,hq,asAddr,hlv,h1]
      · cases h
    · cases h
theorem results_ok (hc:CxOk P cx) (hH:RelH ρ s.hp w) (hE:EnvR ρ n s F) {rs:Array ResultVar} {l:List HV} (h:resOf cx s rs.toList=some l):∃ u,Res P rs n F w u∧VR ρ (one l) u:=by
  have hres:∃ us,(∀ fn:Func,fn.results=rs→(results fn (fr n F).tmps).run P w = .ok (if h:us.toArray.size=1 then us.toArray[0] else .tuple us.toArray) w)∧VRs ρ l us:=by
    let g0:ResultVar→Sem Value:=fun x=>match x with
      | .tmp t=>pure ((fr n F).tmps.getD t undef)
      | .cell a t=>do loadVar t (← asAddr ((fr n F).tmps.getD a undef))
    obtain ⟨us,h1,h2⟩:=res_ok (P:=P) (g:=g0) (fun _=>rfl) (fun _ _=>rfl) hc hH hE h
    have key:∀ g:ResultVar→Sem Value,(∀ t,g (.tmp t)=pure ((fr n F).tmps.getD t undef))→(∀ a t,g (.cell a t)=(do loadVar t (← asAddr ((fr n F).tmps.getD a undef))))→(rs.toList.mapM g).run P w = .ok us w:=by
      intro g q1 q2
      have:g=g0:=funext fun x=>by cases x <;> first | exact q1 _ | exact q2 _ _
      rw [this]; exact h1
    refine ⟨us,fun fn hr => ?_,h2⟩
    unfold results
    rw [hr]
    simp only [Sem.run_bind,Array.mapM_eq_mapM_toList,Sem.run_map]
    rw [key]
    · rfl
    · intro t; rfl
    · intro a t; rfl
  obtain ⟨us,h1,h2⟩:=hres
  have hl:=VRs_len h2
  refine ⟨if h:us.toArray.size=1 then us.toArray[0] else .tuple us.toArray,h1,?_⟩
  · match l,us,h2,hl with
    | [],[],_,_=>show VR ρ (.tup []) (.tuple #[]); unfold VR; exact ⟨[],rfl,by unfold VRs; rfl⟩
    | [a],[u],h2,_ =>
      unfold VRs at h2
      obtain ⟨u',us',h3,h4,h5⟩:=h2
      cases h3
      exact h4
    | a::b::l,u::u2::us,h2,_ =>
      show VR ρ (.tup (a::b::l)) _
      simp only [List.size_toArray,List.length_cons]
      rw [dif_neg (by omega)]
      unfold VR
      exact ⟨_,rfl,h2⟩
theorem call_ok (hc:CxOk P cx) (hi:RunOk P ih) (hg:GrowRun ih) {f:FuncId} {args:List HV} {v:HV} {us:List Value} (h:call cx ih f args s=some (v,s')) (hH:RelH ρ s.hp w) (hFr:Fr s) (hU:Undef ρ s.nx s'.nx) (hr:VRs ρ args us) :
    (∃ u w',(callFunc f us.toArray).run P w = .ok (.value u) w'∧Gives ρ s w s' v u w')∨((callFunc f us.toArray).run P w = .ok (.enter f us.toArray) w∧FnC P f us.toArray w (Gives ρ s w s' v)):=by
  unfold call at h
  split at h
  · rename_i q hq
    rcases hc.ext f q hq args s s' v ρ w us h hH hU hr with ⟨u,w',ρ',h1,h2,h3⟩ | h
    · exact .inl ⟨u,w',h1,ρ',h2,h3⟩
    · exact .inr h
  · split at h
    · rename_i fn hf
      have hfn:=hc.fn f fn hf
      have hnm:=hc.nm f fn hf
      split at h
      · rename_i c hb
        rw [bif_eq] at h
        split at h
        · rename_i hlen
          simp only [Nat.ble_eq] at hlen
          right
          have hl:=VRs_len hr
          refine ⟨?_,?_⟩
          · have : (fn.name == "runtime.NumGoroutine") = false := hnm
            have hne : ¬ fn.name = "runtime.NumGoroutine" := by simpa using this
            simp [callFunc,Sem.run,hfn,hne,hb,program]
          · split at h
            · cases h
            · rename_i e s1 hne hs
              split at h
              · rename_i l hl2
                cases h
                refine FnC_enter hfn hb rfl rfl (by simp; omega) ?_
                have K:∀ ρ' F' w',EnvR ρ' fn.ntmps s1 F'→Post ρ ⟨fn.ntmps,envOf 0 args .e,s.hp,s.nx,s.lk,.undef⟩ w ρ' s1 w' → ∃ u,Res P fn.results fn.ntmps F' w' u∧Gives ρ s w ⟨s.nt,s.env,s1.hp,s1.nx,s.lk,s.df⟩ (one l) u w':=by
                  intro ρ' F' w' hE' hp
                  obtain ⟨u,h1,h2⟩:=results_ok (P:=P) hc hp.rel hE' hl2
                  exact ⟨u,h1,ρ',h2,⟨hp.rel,hp.out,hp.kp,hp.dr,hp.nx⟩⟩
                refine hi c _ e s1 hs fn.ntmps ρ _ w _ (argEnv_rel hr hlen) hH hFr hU ?_
                intro ρ' F' w' hE' hp
                cases e with
                | norm=>exact K ρ' F' w' hE' hp
                | ret=>exact K ρ' F' w' hE' hp
                | exit id=>exact (hne id rfl).elim
              · cases h
            · cases h
        · cases h
      · cases h
    · cases h
theorem step1_ok (hc:CxOk P cx) (hi:RunOk P ih) (hg:GrowRun ih) {ops:Array Oper} {o:Oper} {rest:List Oper} {k:Env→World→Prop} (h:step1 cx ih ops s o=some s') (hE:EnvR ρ n s F) (hH:RelH ρ s.hp w) (hFr:takes s ops o=some true → ∀ f args,doOp cx s o.op=some (.call f args)→Fr s) (hU:Undef ρ s.nx s'.nx)
    (K:∀ ρ' u w',EnvR ρ' n s' (updO F o.dst u)→Post ρ s w ρ' s' w'→Wk.LW P n ops rest k (updO F o.dst u) w'):Wk.LW P n ops (o::rest) k F w:=by
  unfold step1 at h
  split at h
  · rename_i ht
    have hw:=takes_wanted hE ht
    split at h
    · rename_i v s1 hs
      cases h
      have hop:=doOp_ok (P:=P) (w:=w) hc hH hE hs
      have hnx:=put_nx s1 o.dst v
      have hhp:=put_hp s1 o.dst v
      rw [hnx] at hU
      obtain ⟨u,w',ρ',h1,h2,h3,h4,h5,h6⟩:=hop hU
      refine LW_valO hw (h1.run _ _ _ _ _) (K ρ' _ w' ?_ ?_)
      · exact (hE.ext (h3.ext hU) h4 h5 (doOp_grow hs:Grow s s1).df).put _ h2
      · exact ⟨by rw [hhp]; exact h3.rel,by rw [hnx]; exact h3.out,h3.kp,by rw [hhp]; exact h3.dr,by rw [hnx]; exact h3.nx⟩
    · rename_i s1 hs
      cases h
      obtain ⟨w',h1,h3,h4,h5,h6,h7⟩:=doOp_ok (P:=P) (w:=w) hc hH hE hs
      have hnx:=put_nx s1 o.dst .undef
      have hhp:=put_hp s1 o.dst .undef
      refine LW_actO hw (h1.run _ _ _ _ _) (K ρ _ w' ((hE.ext (Ext.refl _) h4 h5 (doOp_grow hs:Grow s s1).df).put _ (by unfold VR; rfl)) ?_)
      exact ⟨by rw [hhp]; exact h3.rel,by rw [hnx]; exact h3.out,h3.kp,by rw [hhp]; exact h3.dr,by rw [hnx]; exact h3.nx⟩
    · rename_i f args hs
      obtain ⟨us,h1,h2⟩:=doOp_ok (P:=P) (w:=w) hc hH hE hs
      split at h
      · rename_i v s1 hcall
        cases h
        have hnx:=put_nx s1 o.dst v
        have hhp:=put_hp s1 o.dst v
        rw [hnx] at hU
        have henv:s1.nt=s.nt∧s1.env=s.env:=by
          unfold call at hcall
          split at hcall
          · unfold outer at hcall
            split at hcall
            · rw [bif_eq] at hcall
              split at hcall
              · cases hcall; exact ⟨rfl,rfl⟩
              · cases hcall
            · cases hcall; exact ⟨rfl,rfl⟩
            · cases hcall
          · split at hcall
            · split at hcall
              · rw [bif_eq] at hcall
                split at hcall
                · split at hcall
                  · cases hcall
                  · split at hcall
                    · cases hcall; exact ⟨rfl,rfl⟩
                    · cases hcall
                  · cases hcall
                · cases hcall
              · cases hcall
            · cases hcall
        have fin:∀ u w',Gives ρ s w s1 v u w'→Wk.LW P n ops rest k (updO F o.dst u) w':=by
          rintro u w' ⟨ρ',h4,h5⟩
          refine K ρ' _ w' ((hE.ext (h5.ext hU) henv.1 henv.2 (call_grow hg hcall).df).put _ h4) ?_
          exact ⟨by rw [hhp]; exact h5.rel,by rw [hnx]; exact h5.out,h5.kp,by rw [hhp]; exact h5.dr,by rw [hnx]; exact h5.nx⟩
        rcases call_ok hc hi hg hcall hH (hFr ht _ _ hs) hU h1 with ⟨u,w',h3,h4⟩ | ⟨h3,h4⟩
        · exact LW_valO hw ((h2 _ _ _ _ _).trans h3) (fin u w' h4)
        · exact LW_callO hw ((h2 _ _ _ _ _).trans h3) h4 fin
      · cases h
    · cases h
  · rename_i ht
    have hw:=takes_wanted hE ht
    cases h
    refine LW_skipO hw (K ρ _ w (hE.put _ (by unfold VR; rfl)) ?_)
    have hnx:=put_nx s o.dst .undef
    have hhp:=put_hp s o.dst .undef
    exact ⟨by rw [hhp]; exact hH,fun _ _=>rfl,KpS.refl _ _,by rw [hhp]; exact fun _ h => .inl h,by rw [hnx]; exact Nat.le_refl _⟩
  · cases h
theorem runOps_ok (hc:CxOk P cx) (hi:RunOk P ih) (hg:GrowRun ih) {ops:Array Oper} {k:Env→World→Prop}:∀ {l:List Oper} {s s':St} {ρ:Rn} {F:Env} {w:World},runOps cx ih ops s l=some s'→EnvR ρ n s F→RelH ρ s.hp w→Fr s→Undef ρ s.nx s'.nx →
    (∀ ρ' F' w',EnvR ρ' n s' F'→Post ρ s w ρ' s' w'→k F' w')→Wk.LW P n ops l k F w
  | [],s,s',ρ,F,w,h,hE,hH,hFr,hU,K=>by
    cases h
    exact LW_nil (K ρ F w hE (Post.refl hH))
  | o::l,s,s',ρ,F,w,h,hE,hH,hFr,hU,K=>by
    unfold runOps at h
    split at h
    · rename_i s1 hs
      have g1:=step1_grow hg hs
      have g2:=runOps_grow hg h
      refine step1_ok hc hi hg hs hE hH (fun _ _ _ _=>hFr) (hU.sub (Nat.le_refl _) g2.nx) (fun ρ1 u1 w1 hE1 hp1 => ?_)
      exact runOps_ok hc hi hg h hE1 hp1.rel (g1.fr hFr) (hp1.undef hU) (fun ρ2 F2 w2 hE2 hp2=>K ρ2 F2 w2 hE2 (hp1.trans hp2))
    · cases h
end
end Go.Hm
namespace Go.Hm
open Go Go.RowKit Go.Wk
theorem hasBit_eq (m i:Nat):hasBit m i=m.testBit i:=by
  unfold hasBit bit
  rw [Nat.testBit_eq_decide_div_mod_eq]
  show Nat.beq (m/2 ^ i%2) 1=_
  by_cases h:m/2 ^ i%2=1
  · rw [h]; simp
  · rw [decide_eq_false h]
    cases hb:Nat.beq (m/2 ^ i%2) 1 with
    | false=>rfl
    | true=>exact absurd (Nat.eq_of_beq_eq_true hb) h
theorem hasBit_land (a b i:Nat):hasBit (Nat.land a b) i=(hasBit a i&&hasBit b i):=by
  simp only [hasBit_eq]; exact Nat.testBit_and a b i
theorem hasBit_lor (a b i:Nat):hasBit (Nat.lor a b) i=(hasBit a i||hasBit b i):=by
  simp only [hasBit_eq]; exact Nat.testBit_or a b i
theorem hasBit_bit (i j:Nat):hasBit (bit i) j=true↔i=j:=by
  rw [hasBit_eq]; unfold bit
  show (2 ^ i).testBit j=true↔_
  rw [Nat.testBit_two_pow]; simp
theorem hasBit_full (n i:Nat):hasBit (Nat.sub (bit n) 1) i=true↔i<n:=by
  rw [hasBit_eq]; unfold bit
  show (2 ^ n - 1).testBit i=true↔_
  rw [Nat.testBit_two_pow_sub_one]; simp
theorem hasBit_zero (i:Nat):hasBit 0 i=false:=by rw [hasBit_eq]; simp
theorem sub_has {a b:Nat} (h:sub a b=true) {i:Nat} (hi:hasBit a i=true):hasBit b i=true:=by
  unfold sub at h
  have h:=Nat.eq_of_beq_eq_true h
  rw [← h,hasBit_land] at hi
  simp only [Bool.and_eq_true] at hi
  exact hi.2
structure AncOk (T:Tr Nat) (i:Nat) (es:List Edge) (m0 m:Nat):Prop where
  mono:∀ j,hasBit m0 j=true→hasBit m j=true
  down:∀ e,e∈es→Region.binds .any e=true→e.on<i
  of:∀ j,hasBit m j=true→hasBit m0 j=true ∨ ∃ e,e∈es∧Region.binds .any e=true∧(e.on=j∨hasBit ((T.get e.on).getD 0) j=true)
theorem ancOf_ok {T:Tr Nat} {i:Nat}:∀ {es:List Edge} {m0 m:Nat},ancOf T i es m0=some m→AncOk T i es m0 m
  | [],m0,m,h=>by cases h; exact ⟨fun _ h=>h,fun _ h=>(by cases h),fun _ h => .inl h⟩
  | e::r,m0,m,h=>by
    unfold ancOf at h
    split at h
    · rename_i hb
      obtain ⟨h1,h2,h3⟩:=ancOf_ok h
      refine ⟨h1,fun e' he hb' => ?_,fun j hj => ?_⟩
      · rcases List.mem_cons.1 he with rfl | he
        · rw [hb] at hb'; cases hb'
        · exact h2 e' he hb'
      · rcases h3 j hj with h | ⟨e',h4,h5⟩
        · exact .inl h
        · exact .inr ⟨e',List.mem_cons_of_mem _ h4,h5⟩
    · rename_i hb
      rw [bif_eq] at h
      split at h
      · rename_i hlt
        obtain ⟨h1,h2,h3⟩:=ancOf_ok h
        refine ⟨fun j hj=>h1 j (by rw [hasBit_lor,hj]; rfl),fun e' he hb' => ?_,fun j hj => ?_⟩
        · rcases List.mem_cons.1 he with rfl | he
          · exact blt_iff.1 hlt
          · exact h2 e' he hb'
        · rcases h3 j hj with h | ⟨e',h4,h5⟩
          · rw [hasBit_lor,hasBit_lor,Bool.or_eq_true,Bool.or_eq_true] at h
            rcases h with h | h | h
            · exact .inl h
            · exact .inr ⟨e,List.mem_cons_self,hb,.inl ((hasBit_bit _ _).1 h)⟩
            · exact .inr ⟨e,List.mem_cons_self,hb,.inr h⟩
          · exact .inr ⟨e',List.mem_cons_of_mem _ h4,h5⟩
      · cases h
theorem ancs_ok:∀ {r:List Oper} {i:Nat} {T T':Tr Nat},ancs r i T=some T'→(∀ j,j<i→T'.get j=T.get j) ∧ ∀ (k:Nat) (o:Oper),r[k]?=some o → ∃ m,T'.get (i+k)=some m∧AncOk T' (i+k) o.after.toList 0 m
  | [],i,T,T',h=>by cases h; exact ⟨fun _ _=>rfl,fun k o hk=>by simp at hk⟩
  | o::r,i,T,T',h=>by
    unfold ancs at h
    split at h
    · rename_i m hm
      obtain ⟨h1,h2⟩:=ancs_ok h
      have h1':∀ j,j<i→T'.get j=T.get j:=fun j hj=>by
        rw [h1 j (Nat.lt_succ_of_lt hj),Tr.get_set_ne _ _ (by omega)]
      refine ⟨h1',fun k o' hk => ?_⟩
      cases k with
      | zero =>
        simp at hk
        subst hk
        refine ⟨m,by rw [Nat.add_zero,h1 i (Nat.lt_succ_self i),Tr.get_set_same],?_⟩
        obtain ⟨g1,g2,g3⟩:=ancOf_ok hm
        refine ⟨g1,g2,fun j hj => ?_⟩
        rcases g3 j hj with h | ⟨e,g4,g5,g6⟩
        · exact .inl h
        · exact .inr ⟨e,g4,g5,by rw [h1' e.on (g2 e g4 g5)]; exact g6⟩
      | succ k =>
        simp at hk
        have:=h2 k o' hk
        rw [show i+(k+1)=Nat.add i 1+k by show _=i+1+k; omega]
        exact this
    · cases h
theorem anc_closed {ops:List Oper} {T:Tr Nat} (h:ancs ops 0 .e=some T) {S:Array Bool} (hS:Closed ops S):∀ (i:Nat) (o:Oper),ops[i]?=some o→(∀ e∈o.after.toList,Region.binds .any e=true→S.getD e.on false=true) →
    ∀ j,hasBit ((T.get i).getD 0) j=true→S.getD j false=true:=by
  intro i
  induction i using Nat.strongRecOn with
  | _ i ih =>
    intro o ho he j hj
    obtain ⟨m,h1,h2⟩:=(ancs_ok h).2 i o ho
    rw [Nat.zero_add] at h1 h2
    rw [h1] at hj
    rcases h2.of j hj with h3 | ⟨e,h3,h4,h5⟩
    · rw [hasBit_zero] at h3; cases h3
    · have hlt:=h2.down e h3 h4
      have hs:=he e h3 h4
      rcases h5 with rfl | h5
      · exact hs
      · have hl:e.on<ops.length:=by have:=lt_get ho; omega
        exact ih e.on hlt _ (List.getElem?_eq_getElem hl) (fun e' he' hb'=>hS e.on _ (List.getElem?_eq_getElem hl) hs e' he' hb') j h5
def seen (e:Nat) (r:List (Nat×List Nat)) (q j:Nat):Prop:=hasBit e j=true ∨ ∃ (q':Nat) (x:Nat×List Nat),q'<q∧r[q']?=some x∧x.1=j
theorem seen_cons {e i q j:Nat} {lk:List Nat} {r:List (Nat×List Nat)}:seen e ((i,lk)::r) (q+1) j↔seen (Nat.lor e (bit i)) r q j:=by
  unfold seen
  rw [hasBit_lor,Bool.or_eq_true,hasBit_bit]
  constructor
  · rintro (h | ⟨q',x,h1,h2,h3⟩)
    · exact .inl (.inl h)
    · cases q' with
      | zero=>simp at h2; subst h2; exact .inl (.inr h3)
      | succ q'=>simp at h2; exact .inr ⟨q',x,by omega,h2,h3⟩
  · rintro ((h | h) | ⟨q',x,h1,h2,h3⟩)
    · exact .inl h
    · exact .inr ⟨0,(i,lk),by omega,rfl,h⟩
    · exact .inr ⟨q'+1,x,by omega,by simpa using h2,h3⟩
theorem maskL_mem:∀ {l:List Nat} {j:Nat},hasBit (maskL l) j=true→j∈l
  | [],j,h=>by
    have:hasBit 0 j=true:=h
    rw [hasBit_zero] at this; cases this
  | a::l,j,h=>by
    have h:hasBit (Nat.lor (bit a) (maskL l)) j=true:=h
    rw [hasBit_lor,Bool.or_eq_true,hasBit_bit] at h
    rcases h with rfl | h
    · exact List.mem_cons_self
    · exact List.mem_cons_of_mem _ (maskL_mem h)
theorem maskOf_has {p:Op→Bool}:∀ {l:List Oper} {i k:Nat} {o:Oper},l[k]?=some o→p o.op=true→hasBit (maskOf p l i) (i+k)=true
  | [],i,k,o,h,hp=>by simp at h
  | a::l,i,k,o,h,hp=>by
    show hasBit (Nat.lor _ (maskOf p l (i+1))) _=true
    rw [hasBit_lor,Bool.or_eq_true]
    cases k with
    | zero =>
      simp at h
      subst h
      left
      rw [hp]
      exact (hasBit_bit _ _).2 (Nat.add_zero i).symm
    | succ k =>
      simp at h
      right
      rw [show i+(k+1)=i+1+k by omega]
      exact maskOf_has h hp
theorem good_facts {p:PC}:∀ {r:List (Nat×List Nat)} {e:Nat},goodItems p e r=true→(∀ j,j<p.ops.length→seen e r r.length j) ∧
    ∀ (q:Nat) (x:Nat×List Nat),r[q]?=some x→x.1<p.ops.length ∧ ¬ seen e r q x.1∧(∀ j,hasBit (p.anc x.1) j=true→seen e r q j) ∧
      (hasBit p.ch x.1=true → ∀ j,seen e r q j→(hasBit p.ch j=true→hasBit (p.anc x.1) j=true)∧(hasBit p.fl j=true→hasBit (p.anc x.1) j=true)∧(hasBit p.ld j=true→hasBit (p.anc x.1) j=true∨j∈x.2)) ∧
      (hasBit p.ld x.1=true → ∀ j,seen e r q j→hasBit p.ch j=true→hasBit (p.anc x.1) j=true)
  | [],e,h=>by
    have h:=Nat.eq_of_beq_eq_true (show Nat.beq e (Nat.sub (bit p.ops.length) 1)=true from h)
    subst h
    exact ⟨fun j hj => .inl ((hasBit_full _ _).2 hj),fun q x hx=>by simp at hx⟩
  | (i,lk)::r,e,h=>by
    unfold goodItems at h
    simp only [Bool.and_eq_true,Bool.or_eq_true,Bool.not_eq_true'] at h
    obtain ⟨h1,h2,h3,h4,h5,h6⟩:=h
    obtain ⟨g1,g2⟩:=good_facts h6
    refine ⟨fun j hj=>seen_cons.2 (g1 j hj),fun q x hx => ?_⟩
    cases q with
    | zero =>
      simp at hx
      subst hx
      have s0:∀ j,seen e ((i,lk)::r) 0 j↔hasBit e j=true:=fun j=>⟨fun h=>by
        rcases h with h | ⟨q',x,h,_⟩
        · exact h
        · omega,.inl⟩
      refine ⟨blt_iff.1 h1,?_,fun j hj=>(s0 j).2 (sub_has h3 hj),fun hc j hj => ?_,fun hl j hj hcj => ?_⟩
      · rw [s0]; intro hb; rw [h2] at hb; cases hb
      · have hj:=(s0 j).1 hj
        rcases h4 with h4 | ⟨h4,h7,h8⟩
        · rw [hc] at h4; cases h4
        · refine ⟨fun hx=>sub_has h4 (by rw [hasBit_land,hj,hx]; rfl),fun hx=>sub_has h7 (by rw [hasBit_land,hj,hx]; rfl),fun hx => ?_⟩
          have:=sub_has h8 (i:=j) (by rw [hasBit_land,hj,hx]; rfl)
          rw [hasBit_lor,Bool.or_eq_true] at this
          exact this.imp id maskL_mem
      · have hj:=(s0 j).1 hj
        rcases h5 with h5 | h5
        · rw [hl] at h5; cases h5
        · exact sub_has h5 (by rw [hasBit_land,hj,hcj]; rfl)
    | succ q =>
      simp at hx
      obtain ⟨k1,k2,k3,k4,k5⟩:=g2 q x hx
      exact ⟨k1,fun h=>k2 (seen_cons.1 h),fun j hj=>seen_cons.2 (k3 j hj),fun hc j hj=>k4 hc j (seen_cons.1 hj),fun hc j hj=>k5 hc j (seen_cons.1 hj)⟩
theorem addrs_mem {ops:List Oper}:∀ {l:List Nat} {axs:List Operand},addrs ops l=some axs → ∀ j,j∈l → ∃ (o:Oper) (a:Operand),ops[j]?=some o∧addrOf o.op=some a∧a∈axs
  | [],axs,h,j,hj=>by cases hj
  | a::l,axs,h,j,hj=>by
    unfold addrs at h
    split at h
    · rename_i o ho
      split at h
      · rename_i x hx
        split at h
        · rename_i as' has
          cases h
          rcases List.mem_cons.1 hj with rfl | hj
          · exact ⟨o,x,ho,hx,List.mem_cons_self⟩
          · obtain ⟨o',a',h1,h2,h3⟩:=addrs_mem has j hj
            exact ⟨o',a',h1,h2,List.mem_cons_of_mem _ h3⟩
        · cases h
      · cases h
    · cases h
theorem mkItems_ok {ops:List Oper}:∀ {l:List (Nat×List Nat)} {its:List Item},mkItems ops l=some its→its.length=l.length ∧ ∀ (q:Nat) (x:Item),its[q]?=some x → ∃ lk,l[q]?=some (x.i,lk)∧ops[x.i]?=some x.o ∧ ∀ j,j∈lk → ∃ (o:Oper) (a:Operand),ops[j]?=some o∧addrOf o.op=some a∧a∈x.lk
  | [],its,h=>by cases h; exact ⟨rfl,fun q x hx=>by simp at hx⟩
  | (i,lk)::l,its,h=>by
    unfold mkItems at h
    split at h
    · rename_i o ho
      split at h
      · rename_i axs has
        split at h
        · rename_i l' hl'
          cases h
          obtain ⟨h1,h2⟩:=mkItems_ok hl'
          refine ⟨by simp [h1],fun q x hx => ?_⟩
          cases q with
          | zero=>simp at hx; subst hx; exact ⟨lk,rfl,ho,addrs_mem has⟩
          | succ q=>simp at hx; obtain ⟨lk',h3,h4⟩:=h2 q x hx; exact ⟨lk',by simpa using h3,h4⟩
        · cases h
      · cases h
    · cases h
theorem writers_ok:∀ {r:List Oper} {i:Nat} {W W':Tr Nat},writers r i W=some W'→(∀ d j,W.get d=some j→W'.get d=some j) ∧ ∀ (k:Nat) (o:Oper) (d:Nat),r[k]?=some o→o.dst=some d→W'.get d=some (i+k)
  | [],i,W,W',h=>by cases h; exact ⟨fun _ _ h=>h,fun k o d hk=>by simp at hk⟩
  | o::r,i,W,W',h=>by
    unfold writers at h
    split at h
    · rename_i d hd
      split at h
      · cases h
      · rename_i hn
        obtain ⟨h1,h2⟩:=writers_ok h
        refine ⟨fun d' j hj=>h1 d' j ?_,fun k o' d' hk ho => ?_⟩
        · rw [Tr.get_set_ne _ _ ?_]; exact hj
          rintro rfl; rw [hn] at hj; cases hj
        · cases k with
          | zero =>
            simp at hk; subst hk
            rw [hd] at ho; cases ho
            exact h1 _ _ (Tr.get_set_same _ _ _)
          | succ k =>
            simp at hk
            rw [show i+(k+1)=Nat.add i 1+k by show _=i+1+k; omega]
            exact h2 k o' d' hk ho
    · rename_i hd
      obtain ⟨h1,h2⟩:=writers_ok h
      refine ⟨h1,fun k o' d' hk ho => ?_⟩
      cases k with
      | zero=>simp at hk; subst hk; rw [hd] at ho; cases ho
      | succ k =>
        simp at hk
        rw [show i+(k+1)=Nat.add i 1+k by show _=i+1+k; omega]
        exact h2 k o' d' hk ho
theorem readsOk_mem {p:PC} {W:Tr Nat} {i:Nat}:∀ {l:List Operand},readsOk p W i l=true → ∀ t,Operand.tmp t∈l → ∀ j,W.get t=some j→j=i∨hasBit (p.anc i) j=true∨hasBit (p.anc j) i=true
  | [],h,t,ht,j,hj=>by cases ht
  | x::l,h,t,ht,j,hj=>by
    have hx:readsOk p W i l=true∧(x = .tmp t→j=i∨hasBit (p.anc i) j=true∨hasBit (p.anc j) i=true):=by
      cases x with
      | tmp u =>
        unfold readsOk at h
        rw [Bool.and_eq_true] at h
        refine ⟨h.2,fun hu => ?_⟩
        cases hu
        have h1:=h.1
        rw [hj] at h1
        simp only [Bool.or_eq_true] at h1
        exact h1.imp Nat.eq_of_beq_eq_true id
      | const c=>exact ⟨h,fun hu=>by cases hu⟩
      | func c=>exact ⟨h,fun hu=>by cases hu⟩
      | _ c=>exact ⟨h,fun hu=>by cases hu⟩
    rcases List.mem_cons.1 ht with h1 | h1
    · exact hx.2 h1.symm
    · exact readsOk_mem hx.1 t h1 j hj
theorem slotsOk_at {p:PC} {W:Tr Nat}:∀ {r:List Oper} {i:Nat},slotsOk p W r i=true → ∀ (k:Nat) (o:Oper),r[k]?=some o→knownOp o.op=true∧guardOk p (i+k) o.guard=true∧readsOk p W (i+k) o.op.operands.toList=true∧strictOk p W (i+k) (addrOf o.op)=true
  | [],i,h,k,o,hk=>by simp at hk
  | a::r,i,h,k,o,hk=>by
    unfold slotsOk at h
    simp only [Bool.and_eq_true] at h
    obtain ⟨h1,h2,h3,h4,h5⟩:=h
    cases k with
    | zero=>simp at hk; subst hk; exact ⟨h1,h2,h3,h4⟩
    | succ k =>
      simp at hk
      rw [show i+(k+1)=Nat.add i 1+k by show _=i+1+k; omega]
      exact slotsOk_at h5 k o hk
structure PlanOk (ops:List Oper) (its:List Item) (A:Nat→Nat→Prop):Prop where
  all:∀ i,i<ops.length → ∃ (q:Nat) (x:Item),its[q]?=some x∧x.i=i
  op:∀ (q:Nat) (x:Item),its[q]?=some x→ops[x.i]?=some x.o
  inj:∀ (q q':Nat) (x x':Item),its[q]?=some x→its[q']?=some x'→x.i=x'.i→q=q'
  before:∀ (q:Nat) (x:Item),its[q]?=some x → ∀ j,A x.i j → ∃ (q':Nat) (x':Item),q'<q∧its[q']?=some x'∧x'.i=j
  down:∀ (i:Nat) (o:Oper),ops[i]?=some o → ∀ e∈o.after.toList,Region.binds .any e=true→e.on<i
  anc:∀ S:Array Bool,Closed ops S → ∀ (i:Nat) (o:Oper),ops[i]?=some o→(∀ e∈o.after.toList,Region.binds .any e=true→S.getD e.on false=true) → ∀ j,A i j→S.getD j false=true
  ch:∀ (q:Nat) (x:Item),its[q]?=some x→chainOp x.o.op=true → ∀ (q':Nat) (x':Item),q'<q→its[q']?=some x'→(chainOp x'.o.op=true∨floatOp x'.o.op=true→A x.i x'.i)∧(loadOp x'.o.op=true→A x.i x'.i ∨ ∃ a,addrOf x'.o.op=some a∧a∈x.lk)
  ld:∀ (q:Nat) (x:Item),its[q]?=some x→loadOp x.o.op=true → ∀ (q':Nat) (x':Item),q'<q→its[q']?=some x'→chainOp x'.o.op=true→A x.i x'.i
  uniq:∀ (i j:Nat) (o o':Oper) (d:Nat),ops[i]?=some o→ops[j]?=some o'→o.dst=some d→o'.dst=some d→i=j
  known:∀ (i:Nat) (o:Oper),ops[i]?=some o→knownOp o.op=true
  reads:∀ (i:Nat) (o:Oper) (t:Nat),ops[i]?=some o→Operand.tmp t∈o.op.operands.toList → ∀ (j:Nat) (o':Oper),ops[j]?=some o'→o'.dst=some t→j=i∨A i j∨A j i
  guard:∀ (i:Nat) (o:Oper) (j:Nat) (w:Bool),ops[i]?=some o→o.guard=some (j,w)→A i j
  strict:∀ (i:Nat) (o:Oper) (t:Nat),ops[i]?=some o→addrOf o.op=some (.tmp t) → ∀ (j:Nat) (o':Oper),ops[j]?=some o'→o'.dst=some t→A i j
theorem planOf_ok {ops:List Oper} {its:List Item} (h:planOf ops=some its):∃ A,PlanOk ops its A:=by
  unfold planOf at h
  split at h
  · rename_i T hT
    split at h
    · rename_i W hW
      rw [bif_eq] at h
      split at h
      · rename_i hg
        rw [Bool.and_eq_true] at hg
        generalize hp:(⟨ops,T,maskOf chainOp ops 0,maskOf floatOp ops 0,maskOf loadOp ops 0⟩:PC)=p at h hg
        generalize stages p (idxs loadOp ops 0) 0 (idxs chainOp ops 0)=l at h hg
        have e1:p.ops=ops:=by rw [← hp]
        have e2:∀ i,p.anc i=(T.get i).getD 0:=fun i=>by rw [← hp]; rfl
        have e3:p.ch=maskOf chainOp ops 0:=by rw [← hp]
        have e4:p.fl=maskOf floatOp ops 0:=by rw [← hp]
        have e5:p.ld=maskOf loadOp ops 0:=by rw [← hp]
        obtain ⟨g1,g2⟩:=good_facts hg.1
        rw [e1] at g1 g2
        obtain ⟨m1,m2⟩:=mkItems_ok h
        have hs:=fun q j=>show seen 0 l q j ↔ ∃ (q':Nat) (x:Nat×List Nat),q'<q∧l[q']?=some x∧x.1=j from ⟨fun h=>by
          rcases h with h | h
          · rw [hasBit_zero] at h; cases h
          · exact h,.inr⟩
        have itm:∀ (q':Nat) (y:Nat×List Nat),l[q']?=some y → ∃ x:Item,its[q']?=some x∧x.i=y.1:=fun q' y hy=>by
          have hlt:q'<its.length:=by rw [m1]; exact lt_get hy
          obtain ⟨lk,h1,_⟩:=m2 q' _ (List.getElem?_eq_getElem hlt)
          rw [hy] at h1
          cases h1
          exact ⟨_,List.getElem?_eq_getElem hlt,rfl⟩
        have sn:∀ (q' q:Nat) (x':Item),q'<q→its[q']?=some x'→seen 0 l q x'.i:=fun q' q x' hlt hx'=>by
          obtain ⟨lk,h1,_⟩:=m2 q' x' hx'
          exact (hs q _).2 ⟨q',_,hlt,h1,rfl⟩
        have msk:∀ (pr:Op→Bool) (q:Nat) (x:Item),its[q]?=some x→pr x.o.op=true→hasBit (maskOf pr ops 0) x.i=true:=fun pr q x hx hpr=>by
          obtain ⟨lk,_,h2,_⟩:=m2 q x hx
          have:=maskOf_has (i:=0) h2 hpr
          rwa [Nat.zero_add] at this
        refine ⟨fun i j=>hasBit (p.anc i) j=true,?_,?_,?_,?_,?_,?_,?_,?_,?_,?_,?_,?_,?_⟩
        · intro i hi
          obtain ⟨q,y,_,h2,h3⟩:=(hs _ _).1 (g1 i hi)
          obtain ⟨x,h4,h5⟩:=itm q y h2
          exact ⟨q,x,h4,h5.trans h3⟩
        · intro q x hx
          obtain ⟨lk,_,h2,_⟩:=m2 q x hx
          exact h2
        · have key:∀ (q q':Nat) (x x':Item),q'<q→its[q]?=some x→its[q']?=some x'→x.i≠x'.i:=fun q q' x x' hlt hx hx' he=>by
            obtain ⟨lk,h1,_⟩:=m2 q x hx
            exact (g2 q _ h1).2.1 (by rw [show (x.i,lk).1=x'.i from he]; exact sn q' q x' hlt hx')
          intro q q' x x' hx hx' he
          rcases Nat.lt_trichotomy q q' with h | h | h
          · exact absurd he.symm (key q' q x' x h hx' hx)
          · exact h
          · exact absurd he (key q q' x x' h hx hx')
        · intro q x hx j hj
          obtain ⟨lk,h1,_⟩:=m2 q x hx
          obtain ⟨q',y,h2,h3,h4⟩:=(hs _ _).1 ((g2 q _ h1).2.2.1 j hj)
          obtain ⟨x',h5,h6⟩:=itm q' y h3
          exact ⟨q',x',h2,h5,h6.trans h4⟩
        · intro i o ho e he hb
          obtain ⟨m,h1,h2⟩:=(ancs_ok hT).2 i o ho
          rw [Nat.zero_add] at h2
          exact h2.down e he hb
        · intro S hS i o ho he j hj
          rw [e2] at hj
          exact anc_closed hT hS i o ho he j hj
        · intro q x hx hc q' x' hlt hx'
          obtain ⟨lk,h1,h2,h3⟩:=m2 q x hx
          obtain ⟨k1,k2,k3⟩:=(g2 q _ h1).2.2.2.1 (by rw [e3]; exact msk chainOp q x hx hc) x'.i (sn q' q x' hlt hx')
          refine ⟨fun h => ?_,fun h => ?_⟩
          · rcases h with h | h
            · exact k1 (by rw [e3]; exact msk _ q' x' hx' h)
            · exact k2 (by rw [e4]; exact msk _ q' x' hx' h)
          · rcases k3 (by rw [e5]; exact msk _ q' x' hx' h) with h | h
            · exact .inl h
            · obtain ⟨o',a,h4,h5,h6⟩:=h3 _ h
              obtain ⟨_,_,h7,_⟩:=m2 q' x' hx'
              rw [h7] at h4
              cases h4
              exact .inr ⟨a,h5,h6⟩
        · intro q x hx hl q' x' hlt hx' hc
          obtain ⟨lk,h1,_⟩:=m2 q x hx
          exact (g2 q _ h1).2.2.2.2 (by rw [e5]; exact msk _ q x hx hl) x'.i (sn q' q x' hlt hx') (by rw [e3]; exact msk _ q' x' hx' hc)
        · intro i j o o' d ho ho' hd hd'
          have h1:=(writers_ok hW).2 i o d ho hd
          have h2:=(writers_ok hW).2 j o' d ho' hd'
          rw [h1] at h2
          simp only [Option.some.injEq] at h2
          omega
        · intro i o ho; exact (slotsOk_at hg.2 i o ho).1
        · intro i o t ho ht j o' ho' hd
          obtain ⟨_,_,h3,_⟩:=slotsOk_at hg.2 i o ho
          have h1:=(writers_ok hW).2 j o' t ho' hd
          rw [Nat.zero_add] at h1 h3
          exact readsOk_mem h3 t ht j h1
        · intro i o j w ho hgd
          obtain ⟨_,h3,_⟩:=slotsOk_at hg.2 i o ho
          rw [hgd,Nat.zero_add] at h3
          exact h3
        · intro i o t ho ha j o' ho' hd
          obtain ⟨_,_,_,h3⟩:=slotsOk_at hg.2 i o ho
          have h1:=(writers_ok hW).2 j o' t ho' hd
          rw [ha,Nat.zero_add] at h3
          rw [Nat.zero_add] at h1
          unfold strictOk at h3
          simp only [h1] at h3
          exact h3
      · cases h
    · cases h
  · cases h
end Go.Hm
namespace Go.Hm
open Go Go.RowKit Go.Wk
def St.at (s:St) (h2:Tr Obj):St:=⟨s.nt,s.env,h2,s.nx,s.lk,s.df⟩
noncomputable def St.mk1 (s:St) (X:Obj):St:=⟨s.nt,s.env,s.hp.set s.nx X,Nat.add s.nx 1,s.lk,s.df⟩
inductive Loc (fl:Bool) (s:St) (h2:Tr Obj):Rs→Rs→Prop
  | same (v:HV):Loc fl s h2 (.val v s) (.val v (s.at h2))
  | new (v:HV) (X:Obj) (h:fl=true):Loc fl s h2 (.val v (s.mk1 X)) (.val v ((s.at h2).mk1 X))
def Rs.to (s:St):Rs→Rs
  | .val v _ => .val v s
  | _ => .val .undef s
section
variable {cx:Cx} {s:St} {h2:Tr Obj} {r:Rs}
theorem loc_of {fl:Bool} {f1 f2:Option Rs} (e1:f2=f1.map (Rs.to (s.at h2))) (e2:f1=f1.map (Rs.to s)) (h:f1=some r):∃ r2,f2=some r2∧Loc fl s h2 r r2:=by
  subst h
  simp only [Option.map_some,Option.some.injEq] at e1 e2
  refine ⟨_,e1,?_⟩
  rw [e2]
  cases r <;> exact .same _
theorem ev_at (x:Operand):(s.at h2).ev x=s.ev x:=by cases x <;> rfl
theorem evs_at:∀ xs:List Operand,(s.at h2).evs xs=s.evs xs
  | []=>rfl
  | x::xs=>by unfold St.evs; rw [ev_at,evs_at xs]
theorem evO_at (x:Option Operand):evO (s.at h2) x=evO s x:=by
  cases x with
  | none=>rfl
  | some x=>unfold evO; simp only [ev_at]
theorem evParts_at:∀ xs:List (Nat×Operand),evParts (s.at h2) xs=evParts s xs
  | []=>rfl
  | (i,x)::xs=>by unfold evParts; rw [ev_at,evParts_at xs]
theorem ev1_at {k:HV→Option Rs} {x:Operand} {v:HV} (h:s.ev x=some v):ev1 (s.at h2) k x=k v:=by
  unfold ev1; rw [ev_at,h]
theorem pick_to (a b:St) (c:HV) (x y:Option HV):doPick a c x y=(doPick b c x y).map (Rs.to a):=by unfold doPick; ((try simp only [bif_eq]); repeat' (first | rfl | split))
theorem build_to (a b:St) (t:Nat) (l:List (Nat×HV)):doBuild cx a t l=(doBuild cx b t l).map (Rs.to a):=by unfold doBuild; ((try simp only [bif_eq]); repeat' (first | rfl | split))
theorem nil_to (a b:St) (v:HV):doNil a v=(doNil b v).map (Rs.to a):=by unfold doNil; ((try simp only [bif_eq]); repeat' (first | rfl | split))
theorem un_to (a b:St) (op:UnOp) (v:HV):doUn a op v=(doUn b op v).map (Rs.to a):=by unfold doUn; ((try simp only [bif_eq]); repeat' (first | rfl | split))
theorem extract_to (a b:St) (v:HV) (i:Nat):doExtract a v i=(doExtract b v i).map (Rs.to a):=by unfold doExtract; ((try simp only [bif_eq]); repeat' (first | rfl | split))
theorem field_to (a b:St) (t:Nat) (v:HV) (i:Nat):doField cx a t v i=(doField cx b t v i).map (Rs.to a):=by unfold doField; ((try simp only [bif_eq]); repeat' (first | rfl | split))
theorem indexA_to (a b:St) (t:Nat) (v i:HV):doIndexA cx a t v i=(doIndexA cx b t v i).map (Rs.to a):=by unfold doIndexA; ((try simp only [bif_eq]); repeat' (first | rfl | split))
theorem index_to (a b:St) (t:Nat) (v i:HV):doIndex cx a t v i=(doIndex cx b t v i).map (Rs.to a):=by unfold doIndex; ((try simp only [bif_eq]); repeat' (first | rfl | split))
theorem bin_to (a b:St) (op:BinOp) (t:Nat) (v u:HV):(match binop cx op t v u with | some r=>some (Rs.val r a) | none=>none)=(match binop cx op t v u with | some r=>some (Rs.val r b) | none=>none).map (Rs.to a):=by
  cases binop cx op t v u <;> rfl
def into (b:Nat):HV→Prop
  | .ptr c _=>c=b
  | .sl c _ _=>c=b
  | .asl c _ _=>c=b
  | _=>False
theorem blk_at {b:Nat} (h:h2.get b=s.hp.get b):(s.at h2).blk b=s.blk b:=by unfold St.blk St.at; rw [h]
theorem load_to {t:Nat} {v:HV} (h:∀ b,into b v→h2.get b=s.hp.get b):doLoad cx (s.at h2) t v=(doLoad cx s t v).map (Rs.to (s.at h2)):=by
  unfold doLoad
  cases v with
  | ptr b o =>
    simp only
    rw [blk_at (h b rfl)]
    try simp only [bif_eq]
    repeat' (first | rfl | split)
  | _=>rfl
theorem load_to' {t:Nat} {v:HV}:doLoad cx s t v=(doLoad cx s t v).map (Rs.to s):=by unfold doLoad; ((try simp only [bif_eq]); repeat' (first | rfl | split))
theorem cells_at' {v:HV} {z:Nat} (h:∀ b,into b v→h2.get b=s.hp.get b):cellsOf (s.at h2) z v=cellsOf s z v:=by
  unfold cellsOf
  cases v with
  | sl b o n=>show (match (s.at h2).blk b with | some x=>_ | none=>_)=_; rw [blk_at (h b rfl)]; rfl
  | asl b o n=>show (match (s.at h2).blk b with | some x=>_ | none=>_)=_; rw [blk_at (h b rfl)]; rfl
  | _=>rfl
theorem convert_to {t t2:Nat} {v:HV} (h:∀ b,into b v→h2.get b=s.hp.get b):doConvert cx (s.at h2) t t2 v=(doConvert cx s t t2 v).map (Rs.to (s.at h2)):=by
  unfold doConvert
  repeat' (first | rfl | rw [cells_at' (by assumption)] | split)
theorem convert_to' {t t2:Nat} {v:HV}:doConvert cx s t t2 v=(doConvert cx s t t2 v).map (Rs.to s):=by
  unfold doConvert
  repeat' (first | rfl | split)
theorem slice_to {t:Nat} {v:HV} {lo hi mx:Option HV} (h:∀ b o n,v = .sl b o n→h2.get b=s.hp.get b):doSlice cx (s.at h2) t v lo hi mx=(doSlice cx s t v lo hi mx).map (Rs.to (s.at h2)):=by
  unfold doSlice
  cases cx.ti.get t with
  | none=>rfl
  | some x =>
    cases optNat lo with
    | none=>rfl
    | some lo =>
      cases optNat hi with
      | none=>rfl
      | some hi =>
        cases optNat mx with
        | none=>rfl
        | some mx =>
          obtain ⟨a,sz,by_,ze,sh⟩:=x
          cases sh <;> cases v <;> first | rfl | skip
          all_goals try simp only
          all_goals try rw [blk_at (h _ _ _ rfl)]
          all_goals try simp only [bif_eq]
          all_goals repeat' (first | rfl | split)
theorem slice_to' {t:Nat} {v:HV} {lo hi mx:Option HV}:doSlice cx s t v lo hi mx=(doSlice cx s t v lo hi mx).map (Rs.to s):=by
  unfold doSlice
  (try simp only [bif_eq]); repeat' (first | rfl | split)
theorem load_none {t b:Nat} {v:HV} (hb:into b v) (hn:s.hp.get b=none):doLoad cx s t v=none:=by
  cases v <;> first | exact hb.elim | rfl | skip
  cases hb
  unfold doLoad St.blk
  simp only [hn]
  split <;> rfl
theorem cells_none {z b:Nat} {v:HV} (hb:into b v) (hn:s.hp.get b=none):cellsOf s z v=none:=by
  cases v <;> first | exact hb.elim | rfl | skip
  all_goals
    cases hb
    show (match s.blk _ with | some x=>gather x _ _ | none=>none)=none
    unfold St.blk
    simp only [hn]
theorem convert_none {t t2 b:Nat} {v:HV} (hb:into b v) (hn:s.hp.get b=none):doConvert cx s t t2 v=none:=by
  unfold doConvert
  split
  · split
    · exact hb.elim
    · exact hb.elim
    · repeat' (first | rfl | (rw [cells_none hb hn]) | split)
    · rfl
  · rfl
theorem slice_none {t b o n:Nat} {lo hi mx:Option HV} (hn:s.hp.get b=none):doSlice cx s t (.sl b o n) lo hi mx=none:=by
  unfold doSlice
  cases cx.ti.get t with
  | none=>rfl
  | some x =>
    cases optNat lo with
    | none=>rfl
    | some lo =>
      cases optNat hi with
      | none=>rfl
      | some hi =>
        cases optNat mx with
        | none=>rfl
        | some mx =>
          obtain ⟨a,sz,by_,ze,sh⟩:=x
          cases sh <;> first | rfl | skip
          show (match cx.size _,s.blk b with | some z,some y=>_ | _,_=>none)=none
          unfold St.blk
          rw [hn]
          split <;> first | rfl | (rename_i h; cases h)
theorem alloc_loc {t:Nat} (h:doAlloc cx s t=some r):∃ r2,doAlloc cx (s.at h2) t=some r2∧Loc true s h2 r r2:=by
  unfold doAlloc at h ⊢
  split at h
  · rename_i hx
    split at h
    · rename_i hz
      split at h
      · rename_i hc; cases h; exact ⟨_,rfl,.new _ (.blk _) rfl⟩
      · cases h
    · cases h
  · cases h
theorem box_loc {v:HV} (h:doBox s v=some r):∃ r2,doBox (s.at h2) v=some r2∧Loc true s h2 r r2:=by
  unfold doBox at h ⊢
  split at h
  · rename_i hc; cases h; exact ⟨_,rfl,.new _ (.blk _) rfl⟩
  · cases h
theorem buildSlice_loc {t n:Nat} {l:List (Nat×HV)} (h:doBuildSlice cx s t n l=some r):∃ r2,doBuildSlice cx (s.at h2) t n l=some r2∧Loc true s h2 r r2:=by
  unfold doBuildSlice at h ⊢
  split at h
  · rename_i hx
    rw [bif_eq] at h
    split at h
    · rename_i hz
      split at h
      · rename_i hc; cases h; rw [hz]; exact ⟨_,rfl,.new _ (.blk _) rfl⟩
      · cases h
    · cases h
  · cases h
theorem makeSlice_loc {t:Nat} {l c:HV} (h:doMakeSlice cx s t l c=some r):∃ r2,doMakeSlice cx (s.at h2) t l c=some r2∧Loc true s h2 r r2:=by
  unfold doMakeSlice at h ⊢
  split at h
  · rename_i h1 h2 h3
    simp only [bif_eq] at h ⊢
    split at h
    · rename_i hz
      cases h
      rw [if_pos hz]
      exact ⟨_,rfl,.new _ (.blk _) rfl⟩
    · cases h
  · cases h
theorem doOp_loc {o:Op} (h:doOp cx s o=some r) (hc:chainOp o=false) (hk:knownOp o=true) (hm:mapLen s o=false)
    (ha:∀ a v b,addrOf o=some a→s.ev a=some v→into b v→s.hp.get b≠none→h2.get b=s.hp.get b):∃ r2,doOp cx (s.at h2) o=some r2∧Loc (floatOp o) s h2 r r2:=by
  cases o
  case move x =>
    obtain ⟨v,hv,h⟩:=ev1_some (h:ev1 s _ x=some r)
    refine ⟨_,ev1_at hv,?_⟩
    cases h; exact .same _
  case assign x =>
    obtain ⟨v,hv,h⟩:=ev1_some (h:ev1 s _ x=some r)
    refine ⟨_,ev1_at hv,?_⟩
    cases h; exact .same _
  case pick c a b =>
    obtain ⟨v,hv,h⟩:=ev1_some (h:ev1 s _ c=some r)
    show ∃ r2,ev1 (s.at h2) _ c=some r2∧_
    rw [ev1_at hv,ev_at,ev_at]
    exact loc_of (pick_to _ _ _ _ _) (pick_to _ _ _ _ _) h
  case alloc t=>exact alloc_loc h
  case box t x =>
    obtain ⟨v,hv,h⟩:=ev1_some (h:ev1 s _ x=some r)
    show ∃ r2,ev1 (s.at h2) _ x=some r2∧_
    rw [ev1_at hv]
    exact box_loc h
  case build t ps =>
    have h:(match evParts s ps.toList with | some l=>doBuild cx s t l | none=>none)=some r:=h
    show ∃ r2,(match evParts (s.at h2) ps.toList with | some l=>doBuild cx (s.at h2) t l | none=>none)=some r2∧_
    rw [evParts_at]
    split at h
    · rename_i l hl; exact loc_of (build_to _ _ _ _) (build_to _ _ _ _) h
    · cases h
  case buildSlice t n ps =>
    have h:(match evParts s ps.toList with | some l=>doBuildSlice cx s t n l | none=>none)=some r:=h
    show ∃ r2,(match evParts (s.at h2) ps.toList with | some l=>doBuildSlice cx (s.at h2) t n l | none=>none)=some r2∧_
    rw [evParts_at]
    split at h
    · rename_i l hl; exact buildSlice_loc h
    · cases h
  case load t x =>
    obtain ⟨v,hv,h⟩:=ev1_some (h:ev1 s _ x=some r)
    show ∃ r2,ev1 (s.at h2) _ x=some r2∧_
    rw [ev1_at hv]
    exact loc_of (load_to (fun b hb=>ha x v b rfl hv hb (fun hn=>by rw [load_none hb hn] at h; cases h))) load_to' h
  case nilCheck x =>
    obtain ⟨v,hv,h⟩:=ev1_some (h:ev1 s _ x=some r)
    show ∃ r2,ev1 (s.at h2) _ x=some r2∧_
    rw [ev1_at hv]
    exact loc_of (nil_to _ _ _) (nil_to _ _ _) h
  case binOp op t x y p =>
    obtain ⟨v,hv,h⟩:=ev1_some (h:ev1 s _ x=some r)
    obtain ⟨u,hu,h⟩:=ev1_some h
    show ∃ r2,ev1 (s.at h2) _ x=some r2∧_
    rw [ev1_at hv,ev1_at hu]
    exact loc_of (bin_to _ s _ _ _ _) (bin_to _ _ _ _ _ _) h
  case unOp op t x =>
    obtain ⟨v,hv,h⟩:=ev1_some (h:ev1 s _ x=some r)
    show ∃ r2,ev1 (s.at h2) _ x=some r2∧_
    rw [ev1_at hv]
    exact loc_of (un_to _ _ _ _) (un_to _ _ _ _) h
  case convert a b x =>
    obtain ⟨v,hv,h⟩:=ev1_some (h:ev1 s _ x=some r)
    show ∃ r2,ev1 (s.at h2) _ x=some r2∧_
    rw [ev1_at hv]
    exact loc_of (convert_to (fun b hb=>ha x v b rfl hv hb (fun hn=>by rw [convert_none hb hn] at h; cases h))) convert_to' h
  case makeFunc f first caps =>
    cases f with
    | func f =>
      have h:(match first.toList,s.evs caps.toList with | [],some l=>some (Rs.val (.fn f l) s) | _,_=>none)=some r:=h
      show ∃ r2,(match first.toList,(s.at h2).evs caps.toList with | [],some l=>some (Rs.val (.fn f l) (s.at h2)) | _,_=>none)=some r2∧_
      rw [evs_at]
      split at h
      · cases h; exact ⟨_,rfl,.same _⟩
      · cases h
    | _=>cases h
  case makeMap t m =>
    cases m with
    | none =>
      cases (h:some _=some r)
      exact ⟨_,rfl,.new _ (.map []) rfl⟩
    | some m=>cases h
  case makeSlice t l c =>
    obtain ⟨v,hv,h⟩:=ev1_some (h:ev1 s _ l=some r)
    obtain ⟨u,hu,h⟩:=ev1_some h
    show ∃ r2,ev1 (s.at h2) _ l=some r2∧_
    rw [ev1_at hv,ev1_at hu]
    exact makeSlice_loc h
  case slice t x lo hi mx =>
    have h:(match s.ev x,evO s lo,evO s hi,evO s mx with
    | some v,some l,some h,some m=>doSlice cx s t v l h m
    | _,_,_,_=>none)=some r:=h
    show ∃ r2,(match (s.at h2).ev x,evO (s.at h2) lo,evO (s.at h2) hi,evO (s.at h2) mx with
    | some v,some l,some h,some m=>doSlice cx (s.at h2) t v l h m
    | _,_,_,_=>none)=some r2∧_
    rw [ev_at,evO_at,evO_at,evO_at]
    split at h
    · rename_i v l hh m h1 h3 h4 h5
      exact loc_of (slice_to (fun b o n hb=>ha x v b rfl h1 (by rw [hb]; rfl) (fun hn=>by rw [hb,slice_none hn] at h; cases h))) slice_to' h
    · cases h
  case fieldAddr t x i =>
    obtain ⟨v,hv,h⟩:=ev1_some (h:ev1 s _ x=some r)
    show ∃ r2,ev1 (s.at h2) _ x=some r2∧_
    rw [ev1_at hv]
    exact loc_of (field_to _ s _ _ _) (field_to _ _ _ _ _) h
  case indexAddr t x i =>
    obtain ⟨v,hv,h⟩:=ev1_some (h:ev1 s _ x=some r)
    obtain ⟨u,hu,h⟩:=ev1_some h
    show ∃ r2,ev1 (s.at h2) _ x=some r2∧_
    rw [ev1_at hv,ev1_at hu]
    exact loc_of (indexA_to _ s _ _ _) (indexA_to _ _ _ _ _) h
  case index t x i =>
    obtain ⟨v,hv,h⟩:=ev1_some (h:ev1 s _ x=some r)
    obtain ⟨u,hu,h⟩:=ev1_some h
    show ∃ r2,ev1 (s.at h2) _ x=some r2∧_
    rw [ev1_at hv,ev1_at hu]
    exact loc_of (index_to _ s _ _ _) (index_to _ _ _ _ _) h
  case lookup=>cases hk
  case extract x i =>
    obtain ⟨v,hv,h⟩:=ev1_some (h:ev1 s _ x=some r)
    show ∃ r2,ev1 (s.at h2) _ x=some r2∧_
    rw [ev1_at hv]
    exact loc_of (extract_to _ s _ _) (extract_to _ _ _ _) h
  case call c =>
    obtain ⟨callee,args,ats⟩:=c
    cases callee with
    | builtin b =>
      have h:(match s.evs args.toList with | some l=>doBuiltin cx s b ats.toList l | none=>none)=some r:=h
      show ∃ r2,(match (s.at h2).evs args.toList with | some l=>doBuiltin cx (s.at h2) b ats.toList l | none=>none)=some r2∧_
      rw [evs_at]
      split at h
      · rename_i l hl
        rw [show mapLen s (.call ⟨.builtin b,args,ats⟩)=(match b with | .len=>(match s.evs args.toList with | some [.map _]=>true | _=>false) | _=>false) by cases b <;> rfl] at hm
        rw [hl] at hm
        have key:∀ a:St,(∀ d,b = .len→l≠[.map d])→chainOp (.call ⟨.builtin b,args,ats⟩)=false→doBuiltin cx a b ats.toList l=(doBuiltin cx s b ats.toList l).map (Rs.to a):=by
          intro a hl hc
          unfold doBuiltin
          split
          · split
            · split <;> first | rfl | skip
              · rename_i d _ _; exact absurd rfl (hl d rfl)
              · split <;> rfl
            · rfl
          · cases hc
          · cases hc
          · cases hc
          · split <;> rfl
          · split <;> rfl
          · rfl
        have hlen:∀ d,b = .len→l≠[.map d]:=by
          rintro d rfl rfl
          cases hm
        exact loc_of (key _ hlen hc) (key s hlen hc) h
      · cases h
    | _=>cases hc
  case store=>cases hc
  case mapUpdate=>cases hc
  all_goals cases h
end
end Go.Hm
namespace Go.Hm
open Go Go.RowKit Go.Wk
noncomputable def mkTr (f:Nat→Option Obj):Nat→Tr Obj
  | 0 => .e
  | k+1=>match f k with
    | some o=>(mkTr f k).set k o
    | none=>mkTr f k
theorem mkTr_get (f:Nat→Option Obj):∀ (n b:Nat),(mkTr f n).get b=if b<n then f b else none
  | 0,b=>by simp [mkTr,Tr.get_e]
  | n+1,b=>by
    unfold mkTr
    split
    · rename_i o ho
      rw [Tr.get_set]
      by_cases h:b=n
      · subst h; rw [if_pos rfl,if_pos (by omega),ho]
      · rw [if_neg h,mkTr_get f n b]
        by_cases h2:b<n
        · rw [if_pos h2,if_pos (by omega)]
        · rw [if_neg h2,if_neg (by omega)]
    · rename_i ho
      rw [mkTr_get f n b]
      by_cases h:b=n
      · subst h; rw [if_neg (by omega),if_pos (by omega),ho]
      · by_cases h2:b<n
        · rw [if_pos h2,if_pos (by omega)]
        · rw [if_neg h2,if_neg (by omega)]
section
variable {ρ ρ' ρ0:Rn} {s c t:St} {w w' w0:World} {H H' hp:Tr Obj}
theorem RelH.sub (h:RelH ρ H w) (k:∀ b o r,hp.get b=some o→ρ b=some r→H.get b=some o):RelH ρ hp w :=
  ⟨fun b x r h1 h2=>h.blk b x r (k b _ r h1 h2) h2,fun b es r h1 h2=>h.map b es r (k b _ r h1 h2) h2,fun b b' o o' r r' hne h1 ho h2 hr hr'=>h.inj b b' o o' r r' hne (k b _ r h1 hr) ho (k b' _ r' h2 hr') hr hr'⟩
theorem RelH.heap (h:RelH ρ H w) (hs:w'.heap=w.heap):RelH ρ H w' :=
  ⟨fun b x r h1 h2=>(h.blk b x r h1 h2).mv (Ext.refl _) (by rw [hs]; exact Nat.le_refl _) (by rw [hs]),fun b es r h1 h2=>by rw [hs]; exact h.map b es r h1 h2,h.inj⟩
theorem Dr.sub {b:Nat} (h:Dr ρ hp b) (k:∀ b o r,hp.get b=some o→ρ b=some r→H.get b=some o):Dr ρ H b:=by
  obtain ⟨i,o,r,h1,h2,h3,h4⟩:=h
  exact ⟨i,o,r,k i o r h1 h3,h2,h3,h4⟩
theorem Post.inner {sH:St} (h:Post ρ0 s w0 ρ sH w) (k:Post ρ c w ρ' t w') (hc:c.hp=sH.hp) (h1:s.nx≤c.nx) (h2:t.nx≤sH.nx):Post ρ0 s w0 ρ' (sH.at t.hp) w':=by
  refine ⟨k.rel,fun b hb => ?_,⟨k.kp.os.trans h.kp.os,k.kp.tape.trans h.kp.tape,k.kp.output.trans h.kp.output,Nat.le_trans h.kp.size k.kp.size,fun b hb hD => ?_⟩,fun b hb => ?_,h.nx⟩
  · have hb:b<s.nx∨sH.nx≤b:=hb
    rw [k.out b (by omega),h.out b hb]
  · have g1:=h.kp.size
    rw [k.kp.block b (by omega) (fun hD' => ?_),h.kp.block b hb hD]
    rw [hc] at hD'
    rcases h.dr b hD' with g2 | g2
    · exact hD g2
    · omega
  · have g1:=h.kp.size
    rcases k.dr b hb with g2 | g2
    · rw [hc] at g2; exact h.dr b g2
    · right; omega
theorem Post.widen (k:Post ρ c w ρ' t w') (hH:RelH ρ H w) (sub:∀ b o r,c.hp.get b=some o→ρ b=some r→H.get b=some o) (hfr:Fr c) (weak:∀ b o,t.hp.get b=some o→owned o=false→c.hp.get b=some o) (e:Ext ρ ρ')
    (hH':∀ b o,H'.get b=some o→(b<t.nx∧t.hp.get b=some o)∨(t.nx≤b∧H.get b=some o)):Post ρ (c.at H) w ρ' (t.at H') w':=by
  have hnx:=k.nx
  have out:∀ b,t.nx≤b→ρ' b=ρ b:=fun b hb=>k.out b (.inr hb)
  have lt:∀ b o,c.hp.get b=some o→b<c.nx:=fun b o hb=>by
    rcases Nat.lt_or_ge b c.nx with h | h
    · exact h
    · rw [hfr b h] at hb; cases hb
  have nd:∀ b o r,t.nx≤b→H.get b=some o→ρ b=some r → ¬ Dr ρ c.hp r.c:=by
    rintro b o r hb ho hr ⟨b0,o0,r0,g1,g2,g3,g4⟩
    have:=lt b0 o0 g1
    exact hH.inj b0 b o0 o r0 r (by omega) (sub b0 o0 r0 g1 g3) g2 ho g3 hr g4
  have same:∀ b o r,t.nx≤b→H.get b=some o→ρ b=some r→w'.heap[r.c]?=w.heap[r.c]?:=fun b o r hb ho hr=>k.kp.block _ (hH.at ho hr) (nd b o r hb ho hr)
  have cross:∀ b b' o o' r r',b<t.nx→t.hp.get b=some o→owned o=true→t.nx≤b'→H.get b'=some o'→ρ' b=some r→ρ b'=some r'→r.c≠r'.c:=by
    intro b b' o o' r r' hb ho hw hb' ho' hr hr' he
    rcases k.dr r.c ⟨b,o,r,ho,hw,hr,rfl⟩ with g | g
    · rw [he] at g; exact nd b' o' r' hb' ho' hr' g
    · have:=hH.at ho' hr'; omega
  refine ⟨⟨fun b x r h1 h2 => ?_,fun b es r h1 h2 => ?_,fun b b' o o' r r' hne h1 ho h2 hr hr' => ?_⟩,k.out,⟨k.kp.os,k.kp.tape,k.kp.output,k.kp.size,fun b hb hD=>k.kp.block b hb (fun h=>hD (h.sub sub))⟩,fun b hb => ?_,hnx⟩
  · rcases hH' b _ h1 with ⟨_,g⟩ | ⟨g1,g⟩
    · exact k.rel.blk b x r g h2
    · rw [out b g1] at h2
      exact (hH.blk b x r g h2).mv e k.kp.size (same b _ r g1 g h2)
  · rcases hH' b _ h1 with ⟨_,g⟩ | ⟨g1,g⟩
    · exact k.rel.map b es r g h2
    · rw [out b g1] at h2
      obtain ⟨en,cl,g3,g4⟩:=hH.map b es r g h2
      exact ⟨en,cl,by rw [same b _ r g1 g h2]; exact g3,g4.ext e⟩
  · rcases hH' b _ h1 with ⟨g1,g⟩ | ⟨g1,g⟩
    · rcases hH' b' _ h2 with ⟨g1',g'⟩ | ⟨g1',g'⟩
      · exact k.rel.inj b b' o o' r r' hne g ho g' hr hr'
      · rw [out b' g1'] at hr'
        exact cross b b' o o' r r' g1 g ho g1' g' hr hr'
    · rw [out b g1] at hr
      rcases hH' b' _ h2 with ⟨g1',g'⟩ | ⟨g1',g'⟩
      · cases hw:owned o' with
        | true=>exact fun he=>cross b' b o' o r' r g1' g' hw g1 g hr' hr he.symm
        | false =>
          have g2:=weak b' o' g' hw
          rw [k.out b' (.inl (lt b' o' g2))] at hr'
          exact hH.inj b b' o o' r r' hne g ho (sub b' o' r' g2 hr') hr hr'
      · rw [out b' g1'] at hr'
        exact hH.inj b b' o o' r r' hne g ho g' hr hr'
  · obtain ⟨i,o,r,g1,g2,g3,g4⟩:=hb
    rcases hH' i _ g1 with ⟨_,g⟩ | ⟨g5,g⟩
    · rcases k.dr b ⟨i,o,r,g,g2,g3,g4⟩ with g6 | g6
      · exact .inl (g6.sub sub)
      · exact .inr g6
    · rw [out i g5] at g3
      exact .inl ⟨i,o,r,g,g2,g3,g4⟩
open Classical in
theorem cutEnv_get {s:St}:∀ {l:List Operand} {t:Nat},(cutEnv s l).get t=if Operand.tmp t∈l then some (s.tmp t) else none
  | [],t=>by simp [cutEnv,Tr.get_e]
  | x::l,t=>by
    cases x with
    | tmp u =>
      show ((cutEnv s l).set u (s.tmp u)).get t=_
      rw [Tr.get_set,cutEnv_get]
      by_cases h:t=u
      · subst h; rw [if_pos rfl,if_pos List.mem_cons_self]
      · rw [if_neg h]
        have:(Operand.tmp t∈Operand.tmp u::l)↔Operand.tmp t∈l:=by
          simp [List.mem_cons,h]
        simp only [this]
    | const v=>show (cutEnv s l).get t=_; rw [cutEnv_get]; simp [List.mem_cons]
    | func v=>show (cutEnv s l).get t=_; rw [cutEnv_get]; simp [List.mem_cons]
    | _ v=>show (cutEnv s l).get t=_; rw [cutEnv_get]; simp [List.mem_cons]
open Classical in
theorem cut_tmp {s:St} {ops:Array Oper} {o:Oper} {l:List Nat} {t:Nat}:(s.cut ops o l).tmp t=if Operand.tmp t∈guardSlot ops o++o.op.operands.toList then s.tmp t else .any:=by
  unfold St.tmp St.cut
  simp only [cutEnv_get]
  split <;> rename_i h <;> split at h <;> first | (cases h; done) | skip
  · cases h; rw [if_pos (by assumption)]
    rfl
  · rw [if_neg (by assumption)]
theorem cut_ev {s:St} {ops:Array Oper} {o:Oper} {l:List Nat} {x:Operand} (hx:x∈o.op.operands.toList):(s.cut ops o l).ev x=s.ev x:=by
  cases x with
  | tmp t =>
    show some _=some _
    rw [cut_tmp,if_pos (List.mem_append_right _ hx)]
  | _=>rfl
theorem cut_evs {s:St} {ops:Array Oper} {o:Oper} {l:List Nat}:∀ {xs:List Operand},(∀ x,x∈xs→x∈o.op.operands.toList)→(s.cut ops o l).evs xs=s.evs xs
  | [],_=>rfl
  | x::xs,h=>by
    unfold St.evs
    rw [cut_ev (h x List.mem_cons_self),cut_evs (fun y hy=>h y (List.mem_cons_of_mem _ hy))]
theorem addrOf_mem {o:Op} {a:Operand} (h:addrOf o=some a):a∈o.operands.toList:=by
  cases o <;> first | (cases h; done) | skip
  all_goals
    cases h
    simp [Op.operands]
theorem addrOf_load {o:Op} {a:Operand} (h:addrOf o=some a):loadOp o=true:=by
  cases o <;> first | (cases h; done) | rfl
theorem mapLen_cut {s:St} {ops:Array Oper} {o:Oper} {l:List Nat} (h:mapLen s o.op=false):mapLen (s.cut ops o l) o.op=false:=by
  cases ho:o.op <;> try rfl
  rename_i c
  obtain ⟨callee,args,ats⟩:=c
  cases callee <;> try rfl
  rename_i b
  cases b <;> try rfl
  rw [ho] at h
  have h:(match s.evs args.toList with | some [.map _]=>true | _=>false)=false:=h
  show (match (s.cut ops o l).evs args.toList with | some [.map _]=>true | _=>false)=false
  rw [cut_evs (fun x hx => ?_)]
  · exact h
  · rw [ho]
    simp [Op.operands,Call.operands]
    simpa using hx
theorem lockAll_mem {s:St}:∀ {l:List Operand} {L:List Nat},lockAll s l=some L → ∀ a v b,a∈l→s.ev a=some v→into b v→isIn b L=true
  | [],L,h,a,v,b,ha,hv,hb=>by cases ha
  | x::l,L,h,a,v,b,ha,hv,hb=>by
    unfold lockAll at h
    split at h
    · rename_i L' hL'
      rcases List.mem_cons.1 ha with rfl | ha
      · rw [hv] at h
        cases v <;> first | exact hb.elim | skip
        all_goals
          cases hb
          cases h
          unfold isIn
          simp
      · have ih:=lockAll_mem hL' a v b ha hv hb
        split at h <;> cases h <;> first | exact ih | (unfold isIn; rw [ih,Bool.or_true])
    · cases h
end
theorem step1_loc {cx:Cx} {ih:Run} {ops:Array Oper} {o:Oper} {c t:St} {h2:Tr Obj} (h:step1 cx ih ops c o=some t) (hc:chainOp o.op=false) (hk:knownOp o.op=true) (hm:mapLen c o.op=false)
    (ha:∀ a v b,addrOf o.op=some a→c.ev a=some v→into b v→c.hp.get b≠none→h2.get b=c.hp.get b) :
    ∃ t2,step1 cx ih ops (c.at h2) o=some t2∧t2.nt=t.nt∧(∀ z,t2.tmp z=t.tmp z)∧(takes (c.at h2) ops o=some true → ∀ f args,doOp cx (c.at h2) o.op≠some (.call f args)) ∧
      ((t.hp=c.hp∧t.nx=c.nx∧t2.hp=h2∧t2.nx=c.nx)∨(floatOp o.op=true ∧ ∃ X,t.hp=c.hp.set c.nx X∧t.nx=c.nx+1∧t2.hp=h2.set c.nx X∧t2.nx=c.nx+1)):=by
  have hput:∀ (a b:St) (d:Option Nat) (v:HV),a.nt=b.nt→a.env=b.env→a.df=b.df→(a.put d v).nt=(b.put d v).nt ∧ ∀ z,(a.put d v).tmp z=(b.put d v).tmp z:=by
    intro a b d v h1 h2 h3
    cases d with
    | none=>exact ⟨h1,fun z=>by show a.tmp z=b.tmp z; unfold St.tmp; rw [h2,h3]⟩
    | some d =>
      refine ⟨?_,fun z => ?_⟩
      · unfold St.put; simp only [bif_eq]; split <;> split <;> exact h1
      · rw [tmp_put,tmp_put,h1]
        have:a.tmp z=b.tmp z:=by unfold St.tmp; rw [h2,h3]
        rw [this]
  have ht:takes (c.at h2) ops o=takes c ops o:=rfl
  have skip:takes c ops o=some false→t=c.put o.dst .undef:=fun hf=>by
    unfold step1 at h; rw [hf] at h; cases h; rfl
  cases hto:takes c ops o with
  | none=>unfold step1 at h; rw [hto] at h; cases h
  | some b =>
    cases b with
    | false =>
      have e:=skip hto
      subst e
      obtain ⟨p1,p2⟩:=hput (c.at h2) c o.dst .undef rfl rfl rfl
      refine ⟨(c.at h2).put o.dst .undef,?_,p1,p2,fun hh => ?_,.inl ⟨put_hp _ _ _,put_nx _ _ _,put_hp _ _ _,put_nx _ _ _⟩⟩
      · unfold step1; rw [ht,hto]
      · rw [ht,hto] at hh; cases hh
    | true =>
      unfold step1 at h
      rw [hto] at h
      simp only at h
      cases hop:doOp cx c o.op with
      | none=>rw [hop] at h; cases h
      | some r =>
        rw [hop] at h
        obtain ⟨r2,g1,g2⟩:=doOp_loc hop hc hk hm ha
        cases g2 with
        | same v =>
          cases h
          obtain ⟨p1,p2⟩:=hput (c.at h2) c o.dst v rfl rfl rfl
          refine ⟨(c.at h2).put o.dst v,?_,p1,p2,fun _ f args hh => ?_,.inl ⟨put_hp _ _ _,put_nx _ _ _,put_hp _ _ _,put_nx _ _ _⟩⟩
          · unfold step1; rw [ht,hto,g1]
          · rw [g1] at hh; cases hh
        | new v X hfl =>
          cases h
          obtain ⟨p1,p2⟩:=hput ((c.at h2).mk1 X) (c.mk1 X) o.dst v rfl rfl rfl
          refine ⟨((c.at h2).mk1 X).put o.dst v,?_,p1,p2,fun _ f args hh => ?_,.inr ⟨hfl,X,put_hp _ _ _,put_nx _ _ _,put_hp _ _ _,put_nx _ _ _⟩⟩
          · unfold step1; rw [ht,hto,g1]
          · rw [g1] at hh; cases hh
end Go.Hm
namespace Go.Hm
open Go Go.RowKit Go.Wk
section
variable {P:Program} {n:Nat}
theorem W_drawS {l:List Oper} {id:Nat} {K:Kont} {F:Env} {w:World} (Inv:Array Bool→Env→World→Prop) (hm:P.follows .mixedOrders=true)
    (hdown:∀ (i:Nat) (o:Oper),l[i]?=some o → ∀ e∈o.after.toList,Region.binds .any e=true→e.on<i)
    (h0:Inv (Array.replicate l.length false) F { w with drawn:=w.drawn+1 })
    (step:∀ listed i o F w,Closed l listed→listed.size=l.length→l[i]?=some o→listed.getD i false=false→(∀ e∈o.after.toList,Region.binds .any e=true→listed.getD e.on false=true)→Inv listed F w →
      LW P n l.toArray [o] (fun F' w'=>Inv (listed.setIfInBounds i true) F' w') F w)
    (hend:∀ listed F w,(∀ i,i<l.length→listed.getD i false=true)→Inv listed F w→K.norm F w):W P n (.region id l.toArray true) K F w:=by
  unfold W
  refine wp_region_any hm ?_
  have key:∀ (fuel:Nat) (listed:Array Bool) (F':Env) (w':World),listed.size=l.length→cnt listed=fuel→Closed l listed→Inv listed F' w' →
      wpAny P .any l.toArray (Lf n K) fuel listed (fr n F') w':=by
    intro fuel
    induction fuel with
    | zero =>
      intro listed F' w' hsz hc hcl hI
      have hall:∀ i,i<l.length→listed.getD i false=true:=fun i hi=>cnt_zero hc (by omega)
      have hnil:Region.ready .any l.toArray listed=[]:=by
        rw [List.eq_nil_iff_forall_not_mem]
        intro i hi
        obtain ⟨o,ho,h1,_⟩:=(ready_iff hsz).1 hi
        rw [hall i (lt_get ho)] at h1; cases h1
      exact ⟨hnil,F',rfl,hend listed F' w' hall hI⟩
    | succ fuel ih =>
      intro listed F' w' hsz hc hcl hI
      refine ⟨fun hnil => ?_,fun i hi => ?_⟩
      · exfalso
        have hall:∀ i,i<l.length→listed.getD i false=true:=by
          intro i
          induction i using Nat.strongRecOn with
          | _ i ihi =>
            intro hlt
            cases hb:listed.getD i false with
            | true=>rfl
            | false =>
              have ho:=List.getElem?_eq_getElem hlt
              have hr:i∈Region.ready .any l.toArray listed:=(ready_iff hsz).2 ⟨_,ho,hb,fun e he hbd=>by
                have:=hdown i _ ho e he hbd
                exact ihi e.on this (by omega)⟩
              rw [hnil] at hr
              cases hr
        have:cnt listed=0:=by
          unfold cnt
          rw [List.countP_eq_zero]
          intro b hb
          obtain ⟨i,hi,rfl⟩:=List.getElem_of_mem hb
          have hi':i<listed.size:=by simpa using hi
          have:=hall i (by omega)
          simp only [Array.getD,hi',dif_pos] at this
          simpa using this
        omega
      · obtain ⟨o,ho,h1,h2⟩:=(ready_iff hsz).1 hi
        have hil:=lt_get ho
        have hlt:i<listed.size:=by omega
        have hclosed:Closed l (listed.setIfInBounds i true):=by
          intro j oj hoj hj e he hb
          rw [set_getD hlt] at hj ⊢
          split
          · rfl
          · rename_i hne
            split at hj
            · rename_i hji; subst hji
              rw [ho] at hoj; cases hoj
              exact h2 e he hb
            · exact hcl j oj hoj hj e he hb
        exact wpOp_of_LW ho (step listed i o F' w' hcl hsz ho h1 h2 hI) (fun F'' w'' hI'=>ih _ _ _ (by simpa using hsz) (by have:=cnt_set hlt h1; omega) hclosed hI')
  refine key _ _ F _ (by simp) ?_ ?_ h0
  · unfold cnt
    simp [List.countP_replicate]
  · intro i o _ hl
    exfalso
    simp [Array.getD] at hl
end
section
variable {P:Program} {n:Nat} {cx:Cx} {ih:Run} {ops:Array Oper}
structure Trace (cx:Cx) (ih:Run) (ops:Array Oper) (its:List Item) (s s':St) (σ:Nat→St):Prop where
  first:σ 0=s
  last:σ its.length=s'
  step:∀ (q:Nat) (x:Item),its[q]?=some x → ∃ L t,lockAll (σ q) x.lk=some L∧mapLen (σ q) x.o.op=false∧step1 cx ih ops ((σ q).cut ops x.o L) x.o=some t∧σ (q+1)=(σ q).take x.o t
theorem runItems_trace:∀ {its:List Item} {s s':St},runItems cx ih ops s its=some s' → ∃ σ,Trace cx ih ops its s s' σ
  | [],s,s',h=>by cases h; exact ⟨fun _=>s,rfl,rfl,fun q x hx=>by simp at hx⟩
  | x::its,s,s',h=>by
    unfold runItems at h
    split at h
    · rename_i L hL
      rw [bif_eq] at h
      split at h
      · cases h
      · rename_i hm
        split at h
        · rename_i t ht
          obtain ⟨σ,h1,h2,h3⟩:=runItems_trace h
          refine ⟨fun q=>match q with | 0=>s | q+1=>σ q,rfl,h2,fun q y hy => ?_⟩
          cases q with
          | zero =>
            simp at hy
            subst hy
            exact ⟨L,t,hL,by simpa using hm,ht,h1⟩
          | succ q=>exact h3 q y (by simpa using hy)
        · cases h
    · cases h
section
variable {its:List Item} {s s':St} {σ:Nat→St} (T:Trace cx ih ops its s s' σ) (hg:GrowRun ih)
include T hg
theorem tr_grow {q:Nat} (hq:q<its.length):Grow (σ q) (σ (q+1)):=by
  obtain ⟨L,t,h1,_,h2,h3⟩:=T.step q _ (List.getElem?_eq_getElem hq)
  have g:=step1_grow hg h2
  rw [h3]
  exact ⟨g.nx,fun b hb hl=>g.keep b hb (lockAll_in h1 b hl),rfl,rfl,rfl,g.weak,g.fresh⟩
theorem tr_nx {q:Nat}:∀ {d:Nat},q+d≤its.length→(σ q).nx≤(σ (q+d)).nx
  | 0,_=>Nat.le_refl _
  | d+1,h=>Nat.le_trans (tr_nx (d:=d) (by omega)) (tr_grow T hg (q:=q+d) (by omega)).nx
theorem tr_mono {q q':Nat} (h:q≤q') (h':q'≤its.length):(σ q).nx≤(σ q').nx:=by
  have:=tr_nx T hg (q:=q) (d:=q' - q) (by omega)
  rwa [show q+(q' - q)=q' by omega] at this
theorem tr_fr (hF:Fr s):∀ {q:Nat},q≤its.length→Fr (σ q)
  | 0,_=>by rw [T.first]; exact hF
  | q+1,h=>(tr_grow T hg (q:=q) (by omega)).fr (tr_fr hF (by omega))
theorem tr_nt:∀ {q:Nat},q≤its.length→(σ q).nt=s.nt
  | 0,_=>by rw [T.first]
  | q+1,h=>(tr_grow T hg (q:=q) (by omega)).nt.trans (tr_nt (by omega))
theorem tr_tmp1 {q:Nat} {x:Item} {t:Nat} (hx:its[q]?=some x) (hd:x.o.dst≠some t):(σ (q+1)).tmp t=(σ q).tmp t:=by
  obtain ⟨L,u,h1,_,h2,h3⟩:=T.step q x hx
  rw [h3]
  unfold St.take St.tmp
  cases hdd:x.o.dst with
  | none=>rfl
  | some d =>
    simp only
    rw [Tr.get_set_ne _ _ (by rintro rfl; exact hd hdd)]
theorem tr_tmp {q t:Nat}:∀ {d:Nat},q+d≤its.length→(∀ (m:Nat) (x:Item),q≤m→m<q+d→its[m]?=some x→x.o.dst≠some t)→(σ (q+d)).tmp t=(σ q).tmp t
  | 0,_,_=>rfl
  | d+1,h,hn=>by
    have hx:=List.getElem?_eq_getElem (l:=its) (i:=q+d) (by omega)
    exact (tr_tmp1 T hg hx (hn (q+d) _ (by omega) (by omega) hx)).trans (tr_tmp (d:=d) (by omega) (fun m x h1 h2=>hn m x h1 (by omega)))
theorem tr_tmp' {q q' t:Nat} (h:q≤q') (h':q'≤its.length) (hn:∀ (m:Nat) (x:Item),q≤m→m<q'→its[m]?=some x→x.o.dst≠some t):(σ q').tmp t=(σ q).tmp t:=by
  have:=tr_tmp T hg (q:=q) (t:=t) (d:=q' - q) (by omega) (fun m x h1 h2=>hn m x h1 (by omega))
  rwa [show q+(q' - q)=q' by omega] at this
theorem tr_keep1 {A:Nat→Nat→Prop} (hP:PlanOk ops.toList its A) {q b:Nat} {x:Item} (hx:its[q]?=some x) (hb:b<(σ q).nx) (hc:chainOp x.o.op=true → ∀ L,lockAll (σ q) x.lk=some L→isIn b L=true):(σ (q+1)).hp.get b=(σ q).hp.get b:=by
  obtain ⟨L,t,h1,hm,h2,h3⟩:=T.step q x hx
  rw [h3]
  show t.hp.get b=(σ q).hp.get b
  cases hcc:chainOp x.o.op with
  | true=>exact (step1_grow hg h2).keep b hb (hc hcc L h1)
  | false =>
    obtain ⟨t2,_,_,_,_,h⟩:=step1_loc (h2:=(σ q).hp) h2 hcc (hP.known _ _ (hP.op q x hx)) (mapLen_cut hm) (fun _ _ _ _ _ _ _=>rfl)
    rcases h with ⟨h,_⟩ | ⟨_,X,h,_⟩
    · rw [h]; rfl
    · rw [h]; exact Tr.get_set_ne _ _ (by have:((σ q).cut ops x.o L).nx=(σ q).nx:=rfl; omega)
theorem tr_keep {A:Nat→Nat→Prop} (hP:PlanOk ops.toList its A) {q b:Nat}:∀ {d:Nat},q+d≤its.length→b<(σ q).nx→(∀ (m:Nat) (x:Item),q≤m→m<q+d→its[m]?=some x→chainOp x.o.op=true → ∀ L,lockAll (σ m) x.lk=some L→isIn b L=true)→(σ (q+d)).hp.get b=(σ q).hp.get b
  | 0,_,_,_=>rfl
  | d+1,h,hb,hc=>by
    have hx:=List.getElem?_eq_getElem (l:=its) (i:=q+d) (by omega)
    have hn:=tr_nx T hg (q:=q) (d:=d) (by omega)
    exact (tr_keep1 T hg hP hx (by omega) (fun h1=>hc (q+d) _ (by omega) (by omega) hx h1)).trans (tr_keep hP (d:=d) (by omega) hb (fun m x h1 h2=>hc m x h1 (by omega)))
theorem tr_keep' {A:Nat→Nat→Prop} (hP:PlanOk ops.toList its A) {q q' b:Nat} (h:q≤q') (h':q'≤its.length) (hb:b<(σ q).nx) (hc:∀ (m:Nat) (x:Item),q≤m→m<q'→its[m]?=some x→chainOp x.o.op=true → ∀ L,lockAll (σ m) x.lk=some L→isIn b L=true):(σ q').hp.get b=(σ q).hp.get b:=by
  have:=tr_keep T hg hP (q:=q) (b:=b) (d:=q' - q) (by omega) hb (fun m x h1 h2=>hc m x h1 (by omega))
  rwa [show q+(q' - q)=q' by omega] at this
theorem tr_maker {b:Nat}:∀ {q:Nat},q≤its.length→s.nx≤b→b<(σ q).nx → ∃ (m:Nat) (x:Item),m<q∧its[m]?=some x∧(σ m).nx≤b∧b<(σ (m+1)).nx
  | 0,_,h1,h2=>by rw [T.first] at h2; omega
  | q+1,h,h1,h2=>by
    rcases Nat.lt_or_ge b (σ q).nx with h3 | h3
    · obtain ⟨m,x,h4,h5⟩:=tr_maker (q:=q) (by omega) h1 h3
      exact ⟨m,x,by omega,h5⟩
    · exact ⟨q,_,Nat.lt_succ_self q,List.getElem?_eq_getElem (by omega),h3,h2⟩
end
structure Stg (its:List Item) (S:Array Bool) (τ:Nat):Prop where
  le:τ≤its.length
  before:∀ (q:Nat) (x:Item),q<τ→its[q]?=some x→chainOp x.o.op=true→S.getD x.i false=true
  at_:∀ x:Item,its[τ]?=some x→chainOp x.o.op=true∧S.getD x.i false=false
theorem stg_ex (its:List Item) (S:Array Bool):∃ τ,Stg its S τ:=by
  have key:∀ d τ,τ+d=its.length→(∀ (q:Nat) (x:Item),q<τ→its[q]?=some x→chainOp x.o.op=true→S.getD x.i false=true) → ∃ τ,Stg its S τ:=by
    intro d
    induction d with
    | zero =>
      intro τ hd hb
      refine ⟨τ,by omega,hb,fun x hx => ?_⟩
      have:=lt_get hx
      omega
    | succ d ih =>
      intro τ hd hb
      have hx:=List.getElem?_eq_getElem (l:=its) (i:=τ) (by omega)
      by_cases hc:chainOp (its[τ]'(by omega)).o.op=true∧S.getD (its[τ]'(by omega)).i false=false
      · exact ⟨τ,by omega,hb,fun x hx'=>by rw [hx] at hx'; cases hx'; exact hc⟩
      · refine ih (τ+1) (by omega) (fun q x hq hx' hcx => ?_)
        rcases Nat.lt_or_ge q τ with h | h
        · exact hb q x h hx' hcx
        · have:q=τ:=by omega
          subst this
          rw [hx] at hx'; cases hx'
          cases hs:S.getD (its[q]'(by omega)).i false with
          | true=>rfl
          | false=>exact absurd ⟨hcx,hs⟩ hc
  exact key its.length 0 (by omega) (fun q x hq=>by omega)
structure DInv (its:List Item) (n:Nat) (s s':St) (σ:Nat→St) (ρ0:Rn) (w0:World) (S:Array Bool) (F:Env) (w:World) (ρ:Rn) (H:Tr Obj) (τ:Nat):Prop where
  stg:Stg its S τ
  post:Post ρ0 s w0 ρ ⟨s.nt,s.env,H,s'.nx,s.lk,s.df⟩ w
  old:∀ b r,ρ b=some r→b<s.nx→H.get b=(σ τ).hp.get b
  made:∀ b r (q:Nat) (x:Item),ρ b=some r→its[q]?=some x→(σ q).nx≤b→b<(σ (q+1)).nx→H.get b=(σ (max τ (q+1))).hp.get b
  non:∀ b (q:Nat) (x:Item),its[q]?=some x→S.getD x.i false=false→(σ q).nx≤b→b<(σ (q+1)).nx→ρ b=none
  set:∀ t (q:Nat) (x:Item),its[q]?=some x→x.o.dst=some t→S.getD x.i false=true→VR ρ ((σ (q+1)).tmp t) (ev n F (.tmp t))
  unset:∀ t,(∀ (q:Nat) (x:Item),its[q]?=some x→x.o.dst=some t→S.getD x.i false=false)→VR ρ (s.tmp t) (ev n F (.tmp t))
end
end Go.Hm
namespace Go.Hm
open Go Go.RowKit Go.Wk
section
variable {P:Program} {n:Nat} {cx:Cx} {ih:Run} {ops:Array Oper} {its:List Item} {s s':St} {σ:Nat→St} {A:Nat→Nat→Prop} {ρ ρ' ρ0:Rn} {w w' w0:World} {S:Array Bool} {F:Env} {H:Tr Obj} {τ p:Nat} {x:Item}
theorem ev_updO (n:Nat) (F:Env) {d:Option Nat} {z:Nat} (u:Value) (h:d≠some z):ev n (updO F d u) (.tmp z)=ev n F (.tmp z):=by
  cases d with
  | none=>rfl
  | some d =>
    show ev n (upd F d u) (.tmp z)=_
    rw [ev_upd,if_neg]
    rintro ⟨_,rfl⟩
    exact h rfl
theorem draw_val (hP:PlanOk ops.toList its A) (T:Trace cx ih ops its s s' σ) (hg:GrowRun ih) (D:DInv its n s s' σ ρ0 w0 S F w ρ H τ) (hx:its[p]?=some x) (hS:S.getD x.i false=false) (hA:∀ j,A x.i j→S.getD j false=true)
    (hcl:∀ (q:Nat) (y:Item),its[q]?=some y→S.getD y.i false=true → ∀ j,A y.i j→S.getD j false=true) {t:Nat}
    (h:∀ (q:Nat) (y:Item),its[q]?=some y→y.o.dst=some t→y.i=x.i∨A x.i y.i∨A y.i x.i):VR ρ ((σ p).tmp t) (ev n F (.tmp t)):=by
  have hp:p<its.length:=lt_get hx
  by_cases hw:∃ (q:Nat) (y:Item),its[q]?=some y∧y.o.dst=some t
  · obtain ⟨q,y,hy,hd⟩:=hw
    have hq:q<its.length:=lt_get hy
    have uni:∀ (q':Nat) (y':Item),its[q']?=some y'→y'.o.dst=some t→q'=q:=fun q' y' hy' hd' =>
      hP.inj q' q y' y hy' hy (hP.uniq _ _ _ _ t (hP.op _ _ hy') (hP.op _ _ hy) hd' hd)
    have from0:p≤q→S.getD y.i false=false→VR ρ ((σ p).tmp t) (ev n F (.tmp t)):=fun hle hn=>by
      rw [tr_tmp' T hg (Nat.zero_le p) (by omega) (fun m z _ h2 hz hdz=>by have:=uni m z hz hdz; omega),T.first]
      refine D.unset t (fun q' y' hy' hd' => ?_)
      have:=uni q' y' hy' hd'
      subst this
      rw [hy] at hy'; cases hy'
      exact hn
    rcases h q y hy hd with h1 | h1 | h1
    · have:=hP.inj q p y x hy hx h1
      subst this
      exact from0 (Nat.le_refl _) (by rw [h1]; exact hS)
    · obtain ⟨q',x',h2,h3,h4⟩:=hP.before p x hx y.i h1
      have:=hP.inj q' q x' y h3 hy h4
      subst this
      rw [tr_tmp' T hg (q:=q'+1) (by omega) (by omega) (fun m z h5 h6 hz hdz=>by have:=uni m z hz hdz; omega)]
      exact D.set t q' y hy hd (hA _ h1)
    · obtain ⟨q',x',h2,h3,h4⟩:=hP.before q y hy x.i h1
      have:=hP.inj q' p x' x h3 hx h4
      subst this
      refine from0 (by omega) ?_
      cases hb:S.getD y.i false with
      | false=>rfl
      | true=>rw [hcl q y hy hb _ h1] at hS; cases hS
  · rw [tr_tmp' T hg (Nat.zero_le p) (by omega) (fun m z _ _ hz hdz=>hw ⟨m,z,hz,hdz⟩),T.first]
    exact D.unset t (fun q y hy hd=>absurd ⟨q,y,hy,hd⟩ hw)
theorem draw_env (hP:PlanOk ops.toList its A) (T:Trace cx ih ops its s s' σ) (hg:GrowRun ih) (hn:s.nt=n) (D:DInv its n s s' σ ρ0 w0 S F w ρ H τ) (hx:its[p]?=some x) (hS:S.getD x.i false=false) (hA:∀ j,A x.i j→S.getD j false=true)
    (hcl:∀ (q:Nat) (y:Item),its[q]?=some y→S.getD y.i false=true → ∀ j,A y.i j→S.getD j false=true) (L:List Nat):EnvR ρ n ((σ p).cut ops x.o L) F:=by
  have hp:p<its.length:=lt_get hx
  refine ⟨(tr_nt T hg (q:=p) (by omega)).trans hn,fun t => ?_⟩
  rw [cut_tmp]
  split
  · rename_i hm
    refine draw_val hP T hg D hx hS hA hcl (fun q y hy hd => ?_)
    rcases List.mem_append.1 hm with hm | hm
    · unfold guardSlot at hm
      split at hm
      · rename_i j b hgd
        split at hm
        · rename_i g hj
          simp at hm
          subst hm
          have hAj:=hP.guard x.i x.o j b (hP.op p x hx) hgd
          cases hoj:ops[j]? with
          | none=>rw [hoj] at hj; cases hj
          | some oj =>
            rw [hoj] at hj
            have hj:oj.dst=some t:=hj
            have:y.i=j:=hP.uniq _ _ _ _ t (hP.op q y hy) (by simpa using hoj) hd hj
            rw [this]
            exact .inr (.inl hAj)
        · cases hm
      · cases hm
    · exact hP.reads x.i x.o t (hP.op p x hx) hm y.i y.o (hP.op q y hy) hd
  · unfold VR; trivial
theorem draw_set (hP:PlanOk ops.toList its A) (D:DInv its n s s' σ ρ0 w0 S F w ρ H τ) (hx:its[p]?=some x) {tt:St} {u:Value} (ht:σ (p+1)=(σ p).take x.o tt) (hE:∀ z,VR ρ' (tt.tmp z) (ev n (updO F x.o.dst u) (.tmp z))) (e:Ext ρ ρ') (hi:x.i<S.size) :
    (∀ t (q:Nat) (y:Item),its[q]?=some y→y.o.dst=some t→(S.setIfInBounds x.i true).getD y.i false=true→VR ρ' ((σ (q+1)).tmp t) (ev n (updO F x.o.dst u) (.tmp t))) ∧
    (∀ t,(∀ (q:Nat) (y:Item),its[q]?=some y→y.o.dst=some t→(S.setIfInBounds x.i true).getD y.i false=false)→VR ρ' (s.tmp t) (ev n (updO F x.o.dst u) (.tmp t))):=by
  refine ⟨fun t q y hy hd hs => ?_,fun t hall => ?_⟩
  · by_cases he:y.i=x.i
    · have:=hP.inj q p y x hy hx he
      subst this
      rw [hx] at hy; cases hy
      rw [ht]
      have:((σ q).take x.o tt).tmp t=tt.tmp t:=by
        unfold St.take
        rw [hd]
        show (match ((σ q).env.set t (tt.tmp t)).get t with | some v=>v | none=>_)=_
        rw [Tr.get_set_same]
      rw [this]
      exact hE t
    · rw [set_getD hi,if_neg he] at hs
      rw [ev_updO]
      · exact VR.ext e _ _ (D.set t q y hy hd hs)
      · intro hdx
        exact he (hP.uniq _ _ _ _ t (hP.op q y hy) (hP.op p x hx) hd hdx)
  · rw [ev_updO]
    · refine VR.ext e _ _ (D.unset t (fun q y hy hd => ?_))
      have:=hall q y hy hd
      rw [set_getD hi] at this
      split at this
      · cases this
      · exact this
    · intro hdx
      have:=hall p x hx hdx
      rw [set_getD hi,if_pos rfl] at this
      cases this
theorem draw_chain (hc:CxOk P cx) (hi:RunOk P ih) (hP:PlanOk ops.toList its A) (T:Trace cx ih ops its s s' σ) (hg:GrowRun ih) (hF:Fr s) (hn:s.nt=n) (hU:Undef ρ0 s.nx s'.nx) (D:DInv its n s s' σ ρ0 w0 S F w ρ H τ) (hx:its[p]?=some x) (hsz:x.i<S.size) (hS:S.getD x.i false=false) (hA:∀ j,A x.i j→S.getD j false=true)
    (hcl:∀ (q:Nat) (y:Item),its[q]?=some y→S.getD y.i false=true → ∀ j,A y.i j→S.getD j false=true) (hch:chainOp x.o.op=true) :
    LW P n ops [x.o] (fun F' w' => ∃ ρ' H' τ',DInv its n s s' σ ρ0 w0 (S.setIfInBounds x.i true) F' w' ρ' H' τ') F w:=by
  have hp:p<its.length:=lt_get hx
  obtain ⟨L,t,hL,hm,hs,ht⟩:=T.step p x hx
  have gp:=step1_grow hg hs
  have hnx1:(σ (p+1)).nx=t.nx:=by rw [ht]; rfl
  have hhp1:(σ (p+1)).hp=t.hp:=by rw [ht]; rfl
  have nx0:s.nx≤(σ p).nx:=by have:=tr_mono T hg (Nat.zero_le p) (by omega); rwa [T.first] at this
  have nx1:(σ p).nx≤t.nx:=gp.nx
  have nx2:t.nx≤s'.nx:=by have:=tr_mono T hg (q:=p+1) (q':=its.length) (by omega) (Nat.le_refl _); rwa [T.last,hnx1] at this
  have fr:=tr_fr T hg hF (q:=p) (by omega)
  have lt:∀ b o,(σ p).hp.get b=some o→b<(σ p).nx:=fun b o hb=>by
    rcases Nat.lt_or_ge b (σ p).nx with h | h
    · exact h
    · rw [fr b h] at hb; cases hb
  have hτ:τ=p:=by
    rcases Nat.lt_trichotomy τ p with h | h | h
    · have hy:=List.getElem?_eq_getElem (l:=its) (i:=τ) (by omega)
      obtain ⟨h1,h2⟩:=D.stg.at_ _ hy
      have:=hA _ ((hP.ch p x hx hch τ _ h hy).1 (.inl h1))
      rw [this] at h2; cases h2
    · exact h
    · have:=D.stg.before p x h hx hch
      rw [this] at hS; cases hS
  subst hτ
  have sub:∀ b o r,(σ τ).hp.get b=some o→ρ b=some r→H.get b=some o:=by
    intro b o r hb hr
    have hbl:=lt b o hb
    rcases Nat.lt_or_ge b s.nx with h | h
    · rw [D.old b r hr h]; exact hb
    · obtain ⟨m,y,h1,h2,h3,h4⟩:=tr_maker T hg (q:=τ) (by omega) h hbl
      rw [D.made b r m y hr h2 h3 h4,Nat.max_eq_left (by omega)]; exact hb
  have und:Undef ρ (σ τ).nx t.nx:=fun b h1 h2=>D.non b τ x hx hS h1 (by omega)
  refine step1_ok hc hi hg hs (draw_env hP T hg hn D hx hS hA hcl L) (D.post.rel.sub sub) (fun _ _ _ _=>fr) und (fun ρ' u w' hE' hp'=>LW_nil ?_)
  have e:=hp'.ext und
  let f:Nat→Option Obj:=fun b=>if b<t.nx then t.hp.get b else H.get b
  have hf:∀ b,(mkTr f s'.nx).get b=if b<s'.nx then f b else none:=mkTr_get f s'.nx
  have hH':∀ b o,(mkTr f s'.nx).get b=some o→(b<t.nx∧t.hp.get b=some o)∨(t.nx≤b∧H.get b=some o):=by
    intro b o hb
    rw [hf] at hb
    split at hb
    · by_cases h:b<t.nx
      · simp only [f,if_pos h] at hb; exact .inl ⟨h,hb⟩
      · simp only [f,if_neg h] at hb; exact .inr ⟨by omega,hb⟩
    · cases hb
  have lowH:∀ b,b<t.nx→(mkTr f s'.nx).get b=t.hp.get b:=fun b hb=>by
    rw [hf,if_pos (by omega)]; simp only [f,if_pos hb]
  have highH:∀ b,t.nx≤b→b<s'.nx→(mkTr f s'.nx).get b=H.get b:=fun b hb hb'=>by
    rw [hf,if_pos hb']; simp only [f]; rw [if_neg (by omega)]
  have hw:=hp'.widen (H:=H) (H':=mkTr f s'.nx) D.post.rel sub fr gp.weak e hH'
  have hpost:=D.post.inner hw rfl nx0 nx2
  obtain ⟨τ',hst⟩:=stg_ex its (S.setIfInBounds x.i true)
  have noc:∀ (q:Nat) (y:Item),τ<q→its[q]?=some y→chainOp y.o.op=true→(S.setIfInBounds x.i true).getD y.i false=false:=by
    intro q y hq hy hcy
    have hne:y.i≠x.i:=fun h=>by have:=hP.inj q τ y x hy hx h; omega
    rw [set_getD hsz,if_neg hne]
    cases hb:S.getD y.i false with
    | false=>rfl
    | true =>
      have:=hcl q y hy hb _ ((hP.ch q y hy hcy τ x hq hx).1 (.inl hch))
      rw [this] at hS; cases hS
  have hτ':τ+1≤τ':=by
    rcases Nat.lt_or_ge τ τ' with h | h
    · exact h
    · exfalso
      have hy:=List.getElem?_eq_getElem (l:=its) (i:=τ') (by omega)
      obtain ⟨h1,h2⟩:=hst.at_ _ hy
      rcases Nat.lt_or_ge τ' τ with h3 | h3
      · have:=hA _ ((hP.ch τ x hx hch τ' _ h3 hy).1 (.inl h1))
        rw [set_getD hsz,this] at h2
        split at h2 <;> cases h2
      · have:τ'=τ:=by omega
        subst this
        have h2:=(hst.at_ x hx).2
        rw [set_getD hsz,if_pos rfl] at h2
        cases h2
  have keep:∀ q q' b,τ+1≤q→q≤q'→q'≤τ'→b<(σ q).nx→(σ q').hp.get b=(σ q).hp.get b:=fun q q' b h1 h2 h3 hb =>
    tr_keep' T hg hP h2 (by have:=hst.le; omega) hb (fun m y h4 h5 hy hcy=>by
      have:=hst.before m y (by omega) hy hcy
      rw [noc m y (by omega) hy hcy] at this; cases this)
  have sets:=draw_set hP D hx (u:=u) ht hE'.2 e hsz
  refine ⟨ρ',mkTr f s'.nx,τ',hst,hpost,?_,?_,?_,sets.1,sets.2⟩
  · intro b r hr hb
    rw [lowH b (by omega),keep (τ+1) τ' b (Nat.le_refl _) hτ' (Nat.le_refl _) (by omega),hhp1]
  · intro b r q y hr hy h1 h2
    have hq:q<its.length:=lt_get hy
    rcases Nat.lt_or_ge τ q with h | h
    · have g1:=tr_mono T hg (q:=τ+1) (q':=q) (by omega) (by omega)
      have g2:=tr_mono T hg (q:=q+1) (q':=its.length) (by omega) (Nat.le_refl _)
      rw [T.last] at g2
      rw [highH b (by omega) (by omega)]
      have hr':ρ b=some r:=by rw [← hp'.out b (.inr (by omega))]; exact hr
      rw [D.made b r q y hr' hy h1 h2,Nat.max_eq_right (by omega)]
      rcases Nat.le_total τ' (q+1) with h3 | h3
      · rw [Nat.max_eq_right h3]
      · rw [Nat.max_eq_left h3,keep (q+1) τ' b (by omega) h3 (Nat.le_refl _) h2]
    · have g1:=tr_mono T hg (q:=q+1) (q':=τ+1) (by omega) (by omega)
      rw [Nat.max_eq_left (by omega),lowH b (by omega),keep (τ+1) τ' b (Nat.le_refl _) hτ' (Nat.le_refl _) (by omega),hhp1]
  · intro b q y hy hny h1 h2
    have hq:q<its.length:=lt_get hy
    rw [set_getD hsz] at hny
    split at hny
    · cases hny
    · rename_i hne
      have hqp:q≠τ:=fun h=>by subst h; rw [hx] at hy; cases hy; exact hne rfl
      rw [hp'.out b ?_]
      · exact D.non b q y hy hny h1 h2
      · show b<(σ τ).nx∨t.nx≤b
        rcases Nat.lt_or_ge q τ with h | h
        · have:=tr_mono T hg (q:=q+1) (q':=τ) (by omega) (by omega); left; omega
        · have:=tr_mono T hg (q:=τ+1) (q':=q) (by omega) (by omega); right; omega
theorem draw_other (hc:CxOk P cx) (hi:RunOk P ih) (hP:PlanOk ops.toList its A) (T:Trace cx ih ops its s s' σ) (hg:GrowRun ih) (hF:Fr s) (hn:s.nt=n) (hU:Undef ρ0 s.nx s'.nx) (D:DInv its n s s' σ ρ0 w0 S F w ρ H τ) (hx:its[p]?=some x) (hsz:x.i<S.size) (hS:S.getD x.i false=false) (hA:∀ j,A x.i j→S.getD j false=true)
    (hcl:∀ (q:Nat) (y:Item),its[q]?=some y→S.getD y.i false=true → ∀ j,A y.i j→S.getD j false=true) (hch:chainOp x.o.op=false) :
    LW P n ops [x.o] (fun F' w' => ∃ ρ' H' τ',DInv its n s s' σ ρ0 w0 (S.setIfInBounds x.i true) F' w' ρ' H' τ') F w:=by
  have hp:p<its.length:=lt_get hx
  obtain ⟨L,t,hL,hm,hs,ht⟩:=T.step p x hx
  have gp:=step1_grow hg hs
  have hnx1:(σ (p+1)).nx=t.nx:=by rw [ht]; rfl
  have hhp1:(σ (p+1)).hp=t.hp:=by rw [ht]; rfl
  have nx0:s.nx≤(σ p).nx:=by have:=tr_mono T hg (Nat.zero_le p) (by omega); rwa [T.first] at this
  have nx1:(σ p).nx≤t.nx:=gp.nx
  have nx2:t.nx≤s'.nx:=by have:=tr_mono T hg (q:=p+1) (q':=its.length) (by omega) (Nat.le_refl _); rwa [T.last,hnx1] at this
  have fr:=tr_fr T hg hF (q:=p) (by omega)
  have hE:=draw_env hP T hg hn D hx hS hA hcl L
  have later:∀ (m:Nat) (y:Item),its[m]?=some y→A y.i x.i→S.getD y.i false=false:=by
    intro m y hy hA'
    cases hb:S.getD y.i false with
    | false=>rfl
    | true =>
      have:=hcl m y hy hb _ hA'
      rw [this] at hS; cases hS
  have agree:∀ a v b,addrOf x.o.op=some a→((σ p).cut ops x.o L).ev a=some v→into b v→((σ p).cut ops x.o L).hp.get b≠none→H.get b=((σ p).cut ops x.o L).hp.get b:=by
    intro a v b ha hv hb hne
    have hne:(σ p).hp.get b≠none:=hne
    show H.get b=(σ p).hp.get b
    have hld:=addrOf_load ha
    have hbl:b<(σ p).nx:=by
      rcases Nat.lt_or_ge b (σ p).nx with h | h
      · exact h
      · exact absurd (fr b h) hne
    have hr:∃ r,ρ b=some r:=by
      have:=ev_rel hE hv
      cases v <;> first | exact hb.elim | skip
      · cases hb; unfold VR at this; obtain ⟨r,h,_⟩:=this; exact ⟨r,h⟩
      · cases hb; unfold VR at this; obtain ⟨r,_,h,_⟩:=this; exact ⟨r,h⟩
      · cases hb; unfold VR at this; obtain ⟨r,_,h,_⟩:=this; exact ⟨r,h⟩
    obtain ⟨r,hr⟩:=hr
    have hτ:p<τ:=by
      rcases Nat.lt_or_ge p τ with h | h
      · exact h
      · exfalso
        have hy:=List.getElem?_eq_getElem (l:=its) (i:=τ) (by omega)
        obtain ⟨h1,h2⟩:=D.stg.at_ _ hy
        rcases Nat.lt_or_ge τ p with h3 | h3
        · have:=hA _ (hP.ld p x hx hld τ _ h3 hy h1)
          rw [this] at h2; cases h2
        · have:τ=p:=by omega
          subst this
          have:=(D.stg.at_ x hx).1
          rw [hch] at this; cases this
    have heq:(σ τ).hp.get b=(σ p).hp.get b:=by
      refine tr_keep' T hg hP (by omega) D.stg.le hbl (fun m y h4 h5 hy hcy Lm hLm => ?_)
      have hpm:p<m:=by
        rcases Nat.lt_or_ge p m with h | h
        · exact h
        · have:m=p:=by omega
          subst this
          rw [hx] at hy; cases hy
          rw [hch] at hcy; cases hcy
      rcases (hP.ch m y hy hcy p x hpm hx).2 hld with h6 | ⟨a',h6,h7⟩
      · have:=D.stg.before m y h5 hy hcy
        rw [later m y hy h6] at this; cases this
      · rw [ha] at h6
        cases h6
        refine lockAll_mem hLm a v b h7 ?_ hb
        rw [cut_ev (addrOf_mem ha)] at hv
        rw [← hv]
        cases a with
        | tmp z =>
          show some _=some _
          congr 1
          refine tr_tmp' T hg h4 (by have:=D.stg.le; omega) (fun m' y' h8 h9 hy' hd' => ?_)
          have h10:=hP.strict x.i x.o z (hP.op p x hx) ha y'.i y'.o (hP.op m' y' hy') hd'
          obtain ⟨q',x',h11,h12,h13⟩:=hP.before p x hx _ h10
          have:=hP.inj q' m' x' y' h12 hy' h13
          omega
        | _=>rfl
    rcases Nat.lt_or_ge b s.nx with h | h
    · rw [D.old b r hr h,heq]
    · obtain ⟨m,y,h1,h2,h3,h4⟩:=tr_maker T hg (q:=p) (by omega) h hbl
      rw [D.made b r m y hr h2 h3 h4,Nat.max_eq_left (by omega),heq]
  obtain ⟨t2,g1,g2,g3,g4,g5⟩:=step1_loc (h2:=H) hs hch (hP.known _ _ (hP.op p x hx)) (mapLen_cut hm) agree
  have cnx:((σ p).cut ops x.o L).nx=(σ p).nx:=rfl
  have cAnx:(((σ p).cut ops x.o L).at H).nx=(σ p).nx:=rfl
  have t2nx:t2.nx=t.nx:=by rcases g5 with ⟨_,h1,_,h2⟩ | ⟨_,X,_,h1,_,h2⟩ <;> rw [h1,h2]
  have und:Undef ρ (σ p).nx t2.nx:=fun b h1 h2=>D.non b p x hx hS h1 (by omega)
  refine step1_ok (s:=((σ p).cut ops x.o L).at H) hc hi hg g1 ⟨hE.1,hE.2⟩ D.post.rel (fun h f args hh=>absurd hh (g4 h f args)) und (fun ρ' u w' hE' hp'=>LW_nil ?_)
  have e:=hp'.ext und
  have hpost:=D.post.inner hp' rfl nx0 (by rw [t2nx]; exact nx2)
  have sets:=draw_set hP D hx (u:=u) ht (fun z=>by rw [← g3]; exact hE'.2 z) e hsz
  have hst:Stg its (S.setIfInBounds x.i true) τ:=by
    refine ⟨D.stg.le,fun q y hq hy hcy => ?_,fun y hy => ?_⟩
    · rw [set_getD hsz]
      split
      · rfl
      · exact D.stg.before q y hq hy hcy
    · obtain ⟨h1,h2⟩:=D.stg.at_ y hy
      refine ⟨h1,?_⟩
      rw [set_getD hsz,if_neg]
      · exact h2
      · intro he
        have:=hP.inj τ p y x hy hx he
        subst this
        rw [hx] at hy; cases hy
        rw [hch] at h1; cases h1
  have out:∀ b,b<(σ p).nx∨t.nx≤b→ρ' b=ρ b:=fun b hb=>hp'.out b (by rw [cAnx,t2nx]; exact hb)
  have hH':∀ b,b≠(σ p).nx∨t.nx=(σ p).nx→t2.hp.get b=H.get b:=by
    intro b hb
    rcases g5 with ⟨_,_,h1,_⟩ | ⟨_,X,_,h1,h2,_⟩
    · rw [h1]
    · rw [h2]
      rw [cnx] at h1 ⊢
      exact Tr.get_set_ne _ _ (by omega)
  refine ⟨ρ',t2.hp,τ,hst,hpost,?_,?_,?_,sets.1,sets.2⟩
  · intro b r hr hb
    rw [hH' b (.inl (by omega))]
    exact D.old b r (by rw [← out b (.inl (by omega))]; exact hr) hb
  · intro b r q y hr hy h1 h2
    have hq:q<its.length:=lt_get hy
    rcases Nat.lt_trichotomy q p with h | h | h
    · have:=tr_mono T hg (q:=q+1) (q':=p) (by omega) (by omega)
      rw [hH' b (.inl (by omega))]
      exact D.made b r q y (by rw [← out b (.inl (by omega))]; exact hr) hy h1 h2
    · subst h
      rw [hx] at hy; cases hy
      rcases g5 with ⟨_,h3,_⟩ | ⟨hfl,X,h3,h4,h5,_⟩
      · rw [cnx] at h3; omega
      · rw [cnx] at h3 h4 h5
        have hb:b=(σ q).nx:=by omega
        have hget:t2.hp.get b=some X:=by rw [h5,hb,Tr.get_set_same]
        have hget':(σ (q+1)).hp.get b=some X:=by
          rw [hhp1,h3,hb]
          exact Tr.get_set_same _ _ _
        rw [hget]
        rcases Nat.le_total τ (q+1) with h6 | h6
        · rw [Nat.max_eq_right h6,hget']
        · rw [Nat.max_eq_left h6,tr_keep' T hg hP h6 D.stg.le h2 (fun m y h7 h8 hy hcy => ?_),hget']
          have:=D.stg.before m y h8 hy hcy
          rw [later m y hy ((hP.ch m y hy hcy q x (by omega) hx).1 (.inr hfl))] at this
          cases this
    · have:=tr_mono T hg (q:=p+1) (q':=q) (by omega) (by omega)
      rw [hH' b (by omega)]
      exact D.made b r q y (by rw [← out b (.inr (by omega))]; exact hr) hy h1 h2
  · intro b q y hy hny h1 h2
    have hq:q<its.length:=lt_get hy
    rw [set_getD hsz] at hny
    split at hny
    · cases hny
    · rename_i hne
      have hqp:q≠p:=fun h=>by subst h; rw [hx] at hy; cases hy; exact hne rfl
      rw [out b ?_]
      · exact D.non b q y hy hny h1 h2
      · rcases Nat.lt_or_ge q p with h | h
        · have:=tr_mono T hg (q:=q+1) (q':=p) (by omega) (by omega); left; omega
        · have:=tr_mono T hg (q:=p+1) (q':=q) (by omega) (by omega); right; omega
theorem draw_ok (hc:CxOk P cx) (hi:RunOk P ih) (hg:GrowRun ih) {id:Nat} {l:List Item} {K:Kont} (hl:planOf ops.toList=some l) (h:runItems cx ih ops s l=some s') (hE:EnvR ρ n s F) (hH:RelH ρ s.hp w) (hFr:Fr s) (hU:Undef ρ s.nx s'.nx)
    (hK:∀ ρ' F' w',EnvR ρ' n s' F'→Post ρ s w ρ' s' w'→K.norm F' w'):W P n (.region id ops true) K F w:=by
  obtain ⟨A,hP⟩:=planOf_ok hl
  obtain ⟨σ,T⟩:=runItems_trace h
  have ho:ops=ops.toList.toArray:=by simp
  have ssnx:s.nx≤s'.nx:=by have:=tr_mono T hg (Nat.zero_le l.length) (Nat.le_refl _); rwa [T.first,T.last] at this
  have main:W P n (.region id ops.toList.toArray true) K F w:=by
    refine W_drawS (l:=ops.toList) (fun S F' w' => ∃ ρ' H' τ',DInv l n s s' σ ρ w S F' w' ρ' H' τ') hc.mix hP.down ?_ ?_ ?_
    · obtain ⟨τ,hst⟩:=stg_ex l (Array.replicate ops.toList.length false)
      have hno:∀ i,(Array.replicate ops.toList.length false).getD i false=false:=fun i=>by
        by_cases h:i<ops.toList.length
        · simp [Array.getD]
        · simp [Array.getD]
      have keep:∀ b,b<s.nx→(σ τ).hp.get b=s.hp.get b:=fun b hb=>by
        have:=tr_keep' T hg hP (Nat.zero_le τ) hst.le (b:=b) (by rw [T.first]; exact hb) (fun m y _ h2 hy hcy=>by
          have:=hst.before m y h2 hy hcy
          rw [hno] at this; cases this)
        rw [this,T.first]
      have rng:∀ (q:Nat) (y:Item) b,l[q]?=some y→(σ q).nx≤b→b<(σ (q+1)).nx→ρ b=none:=fun q y b hy h1 h2=>by
        have hq:q<l.length:=lt_get hy
        have g1:=tr_mono T hg (Nat.zero_le q) (by omega)
        have g2:=tr_mono T hg (q:=q+1) (q':=l.length) (by omega) (Nat.le_refl _)
        rw [T.first] at g1
        rw [T.last] at g2
        exact hU b (by omega) (by omega)
      refine ⟨ρ,s.hp,τ,hst,⟨hH.heap rfl,fun _ _=>rfl,⟨rfl,rfl,rfl,Nat.le_refl _,fun _ _ _=>rfl⟩,fun _ h => .inl h,ssnx⟩,?_,?_,?_,?_,?_⟩
      · intro b r _ hb; exact (keep b hb).symm
      · intro b r q y hr hy h1 h2; rw [rng q y b hy h1 h2] at hr; cases hr
      · intro b q y hy _ h1 h2; exact rng q y b hy h1 h2
      · intro t q y hy hd hs; rw [hno] at hs; cases hs
      · intro t _; exact hE.2 t
    · rintro S i o F' w' hclo hsz ho1 hS hdep ⟨ρ',H',τ',D⟩
      obtain ⟨p,x,hx,hxi⟩:=hP.all i (lt_get ho1)
      have hxo:=hP.op p x hx
      rw [hxi,ho1] at hxo
      cases hxo
      subst hxi
      have hA:=hP.anc S hclo x.i x.o ho1 hdep
      have hcl:∀ (q:Nat) (y:Item),l[q]?=some y→S.getD y.i false=true → ∀ j,A y.i j→S.getD j false=true:=fun q y hy hs=>hP.anc S hclo y.i y.o (hP.op q y hy) (hclo y.i y.o (hP.op q y hy) hs)
      have hlt:x.i<S.size:=by rw [hsz]; exact lt_get ho1
      rw [← ho]
      cases hch:chainOp x.o.op with
      | true=>exact draw_chain hc hi hP T hg hFr hE.1 hU D hx hlt hS hA hcl hch
      | false=>exact draw_other hc hi hP T hg hFr hE.1 hU D hx hlt hS hA hcl hch
    · rintro S F' w' hall ⟨ρ',H',τ',D⟩
      have hall':∀ (q:Nat) (y:Item),l[q]?=some y→S.getD y.i false=true:=fun q y hy=>hall y.i (lt_get (hP.op q y hy))
      have hτ:τ'=l.length:=by
        rcases Nat.lt_or_ge τ' l.length with h | h
        · have hy:=List.getElem?_eq_getElem h
          have:=(D.stg.at_ _ hy).2
          rw [hall' _ _ hy] at this; cases this
        · have:=D.stg.le; omega
      subst hτ
      have sub:∀ b o r,s'.hp.get b=some o→ρ' b=some r→H'.get b=some o:=by
        intro b o r hb hr
        have hfr:=tr_fr T hg hFr (q:=l.length) (Nat.le_refl _)
        rw [T.last] at hfr
        have hbl:b<s'.nx:=by
          rcases Nat.lt_or_ge b s'.nx with h | h
          · exact h
          · rw [hfr b h] at hb; cases hb
        rcases Nat.lt_or_ge b s.nx with h | h
        · rw [D.old b r hr h,T.last]; exact hb
        · obtain ⟨m,y,h1,h2,h3,h4⟩:=tr_maker T hg (q:=l.length) (Nat.le_refl _) h (by rw [T.last]; exact hbl)
          rw [D.made b r m y hr h2 h3 h4,Nat.max_eq_left (by omega),T.last]; exact hb
      refine hK ρ' F' w' ⟨?_,fun t => ?_⟩ ⟨D.post.rel.sub sub,D.post.out,D.post.kp,fun c hc=>D.post.dr c (hc.sub sub),ssnx⟩
      · have:=tr_nt T hg (q:=l.length) (Nat.le_refl _)
        rw [T.last] at this
        exact this.trans hE.1
      · by_cases hw:∃ (q:Nat) (y:Item),l[q]?=some y∧y.o.dst=some t
        · obtain ⟨q,y,hy,hd⟩:=hw
          have hq:q<l.length:=lt_get hy
          have:=D.set t q y hy hd (hall' q y hy)
          have heq:=tr_tmp' T hg (q:=q+1) (q':=l.length) (t:=t) (by omega) (Nat.le_refl _) (fun m z h1 h2 hz hdz=>by
            have:=hP.inj m q z y hz hy (hP.uniq _ _ _ _ t (hP.op _ _ hz) (hP.op _ _ hy) hdz hd)
            omega)
          rw [T.last] at heq
          rw [heq]; exact this
        · have:=D.unset t (fun q y hy hd=>absurd ⟨q,y,hy,hd⟩ hw)
          have heq:=tr_tmp' T hg (q:=0) (q':=l.length) (t:=t) (Nat.zero_le _) (Nat.le_refl _) (fun m z _ _ hz hdz=>hw ⟨m,z,hz,hdz⟩)
          rw [T.last,T.first] at heq
          rw [heq]; exact this
  rw [ho]
  exact main
end
end Go.Hm
namespace Go.Hm
open Go Go.RowKit Go.Wk
section
variable {P:Program} {cx:Cx}
theorem loop_ok {b:Code} {e:Ex} {s1:St} {n:Nat} {K:Kont} {F:Env} {w:World} (k:Nat) (hi:∀ j,j<k→RunOk P (run cx j)) (hg:∀ j,GrowRun (run cx j)) {s:St} {ρ:Rn} (h:run cx k (.loop b) s=some (e,s1)) (hE:EnvR ρ n s F) (hH:RelH ρ s.hp w) (hFr:Fr s) (hU:Undef ρ s.nx s1.nx)
    (hK:∀ ρ' F' w',EnvR ρ' n s1 F'→Post ρ s w ρ' s1 w'→Kat K e F' w'):W P n (.loop b) K F w:=by
  refine W_loop (σ:=Nat) (fun j=>j) (fun j F w=>j≤k ∧ ∃ s ρ,run cx j (.loop b) s=some (e,s1)∧EnvR ρ n s F∧RelH ρ s.hp w∧Fr s∧Undef ρ s.nx s1.nx ∧ ∀ ρ' F' w',EnvR ρ' n s1 F'→Post ρ s w ρ' s1 w'→Kat K e F' w') k ⟨Nat.le_refl _,s,ρ,h,hE,hH,hFr,hU,hK⟩ ?_
  rintro j F w ⟨hj,s,ρ,h,hE,hH,hFr,hU,hK⟩
  cases j with
  | zero=>cases h
  | succ j =>
    have h:(match run cx j b s with | some (.norm,s')=>run cx j (.loop b) s' | r=>r)=some (e,s1):=h
    split at h
    · rename_i s2 hs
      have g1:=hg j _ _ _ _ hs
      have g2:=hg j _ _ _ _ h
      refine hi j (by omega) b s .norm s2 hs n ρ F w _ hE hH hFr (hU.sub (Nat.le_refl _) g2.nx) (fun ρ1 F1 w1 hE1 hp1 => ?_)
      exact ⟨j,Nat.lt_succ_self j,by omega,s2,ρ1,h,hE1,hp1.rel,g1.fr hFr,hp1.undef hU,fun ρ2 F2 w2 hE2 hp2=>hK ρ2 F2 w2 hE2 (hp1.trans hp2)⟩
    · rename_i hne
      have hne:e ≠ .norm:=fun he=>by subst he; exact hne s1 h
      refine hi j (by omega) b s e s1 h n ρ F w _ hE hH hFr hU (fun ρ1 F1 w1 hE1 hp1 => ?_)
      have:=hK ρ1 F1 w1 hE1 hp1
      cases e with
      | norm=>exact absurd rfl hne
      | ret=>exact this
      | exit id=>exact this
theorem run_ok (hc:CxOk P cx):∀ k,RunOk P (run cx k):=by
  intro k
  induction k using Nat.strongRecOn with
  | _ k ih =>
    intro c s e s' h n ρ F w K hE hH hFr hU hK
    cases k with
    | zero=>cases h
    | succ k =>
      have hi:=ih k (Nat.lt_succ_self k)
      have hg:=run_grow (cx:=cx) k
      have h0:=h
      match c,h with
      | .skip,h =>
        cases h
        exact W_skip (hK ρ F w hE (Post.refl hH))
      | .region id ops false,h =>
        have h:(match runOps cx (run cx k) ops s ops.toList with | some s'=>some (Ex.norm,s') | none=>none)=some (e,s'):=h
        split at h
        · rename_i s1 hs
          cases h
          have:=runOps_ok (P:=P) (n:=n) (k:=K.norm) hc hi hg hs hE hH hFr hU hK
          have ho:ops=ops.toList.toArray:=by simp
          rw [ho]
          refine W_region ?_
          rw [← ho]
          exact this
        · cases h
      | .region id ops true,h =>
        have h:(match planOf ops.toList with | some l=>(match runItems cx (run cx k) ops s l with | some s'=>some (Ex.norm,s') | none=>none) | none=>none)=some (e,s'):=h
        split at h
        · rename_i l hl
          split at h
          · rename_i s1 hs
            cases h
            exact draw_ok hc hi hg hl hs hE hH hFr hU hK
          · cases h
        · cases h
      | .seq a b,h =>
        have h:(match run cx k a s with | some (.norm,s')=>run cx k b s' | r=>r)=some (e,s'):=h
        split at h
        · rename_i s1 hs
          have g1:=hg _ _ _ _ hs
          have g2:=hg _ _ _ _ h
          refine W_seq (hi _ _ _ _ hs n ρ F w _ hE hH hFr (hU.sub (Nat.le_refl _) g2.nx) (fun ρ1 F1 w1 hE1 hp1 => ?_))
          exact hi _ _ _ _ h n ρ1 F1 w1 K hE1 hp1.rel (g1.fr hFr) (hp1.undef hU) (fun ρ2 F2 w2 hE2 hp2=>hK ρ2 F2 w2 hE2 (hp1.trans hp2))
        · rename_i hne
          have hne:e ≠ .norm:=fun he=>by subst he; exact hne s' h
          refine W_seq (hi _ _ _ _ h n ρ F w _ hE hH hFr hU (fun ρ1 F1 w1 hE1 hp1 => ?_))
          have:=hK ρ1 F1 w1 hE1 hp1
          cases e with
          | norm=>exact absurd rfl hne
          | ret=>exact this
          | exit id=>exact this
      | .cond x a b,h =>
        have h:(match s.ev x with | some (.bool true)=>run cx k a s | some (.bool false)=>run cx k b s | _=>none)=some (e,s'):=h
        split at h
        · rename_i hev
          have:=ev_rel hE hev
          unfold VR at this
          exact W_cond_t this (hi _ _ _ _ h n ρ F w K hE hH hFr hU hK)
        · rename_i hev
          have:=ev_rel hE hev
          unfold VR at this
          exact W_cond_f this (hi _ _ _ _ h n ρ F w K hE hH hFr hU hK)
        · cases h
      | .block id b,h =>
        have h:(match run cx k b s with | some (.exit j,s')=>(bif Nat.beq j id then some (Ex.norm,s') else some (.exit j,s')) | r=>r)=some (e,s'):=h
        split at h
        · rename_i j s1 hs
          rw [bif_eq] at h
          split at h
          · rename_i hj
            cases h
            refine W_block (hi _ _ _ _ hs n ρ F w _ hE hH hFr hU (fun ρ1 F1 w1 hE1 hp1 => ?_))
            show Wk.look j ((id,K.norm)::K.exits) F1 w1
            unfold Wk.look
            rw [hj]
            exact hK ρ1 F1 w1 hE1 hp1
          · rename_i hj
            cases h
            refine W_block (hi _ _ _ _ hs n ρ F w _ hE hH hFr hU (fun ρ1 F1 w1 hE1 hp1 => ?_))
            show Wk.look j ((id,K.norm)::K.exits) F1 w1
            unfold Wk.look
            have hj:Nat.beq j id=false:=by
              cases hb:Nat.beq j id with
              | false=>rfl
              | true=>exact absurd hb hj
            rw [hj]
            exact hK ρ1 F1 w1 hE1 hp1
        · rename_i hne
          refine W_block (hi _ _ _ _ h n ρ F w _ hE hH hFr hU (fun ρ1 F1 w1 hE1 hp1 => ?_))
          have:=hK ρ1 F1 w1 hE1 hp1
          cases e with
          | norm=>exact this
          | ret=>exact this
          | exit j=>exact absurd h (hne j s')
      | .loop b,h=>exact loop_ok (k+1) (fun j hj=>ih j hj) run_grow h0 hE hH hFr hU hK
      | .exit id,h =>
        cases h
        exact W_exit (hK ρ F w hE (Post.refl hH))
      | .ret,h =>
        cases h
        exact W_ret (hK ρ F w hE (Post.refl hH))
      | .rangeFunc _ _ _ _,h=>cases h
      | .scope _,h=>cases h
      | .label _,h=>cases h
      | .goto _,h=>cases h
      | .refuse _,h=>cases h
theorem call_run (hc:CxOk P cx) (k:Nat) {f:FuncId} {fn:Func} {args:List HV} {s s':St} {v:HV} {us:List Value} {ρ:Rn} {w:World} (hf:cx.fn.get f=some fn) (hx:cx.ext.get f=none) (h:call cx (run cx k) f args s=some (v,s')) (hH:RelH ρ s.hp w) (hFr:Fr s) (hU:Undef ρ s.nx s'.nx) (hr:VRs ρ args us) :
    FnC P f us.toArray w (Gives ρ s w s' v):=by
  rcases call_ok hc (run_ok hc k) (run_grow k) h hH hFr hU hr with ⟨u,w',h1,_⟩ | ⟨_,h1⟩
  · exfalso
    unfold call at h
    rw [hx,hf] at h
    simp only at h
    cases hb:fn.body with
    | none=>rw [hb] at h; cases h
    | some c =>
      have hfn:=hc.fn f fn hf
      have hne : ¬ fn.name = "runtime.NumGoroutine" := by simpa using hc.nm f fn hf
      have:(callFunc f us.toArray).run P w = .ok (.enter f us.toArray) w:=by
        simp [callFunc,Sem.run,hfn,hne,hb,program]
      rw [this] at h1
      cases h1
  · exact h1
end
end Go.Hm
namespace Go.Hm
open Go Go.RowKit Go.Wk
theorem digits_one:∀ (n t:Nat) (acc:Array Value),(∀ x,x∈acc.toList→x.oneCell'=true) → ∀ x,x∈(Extern.BytealgMakeNoZero.digits n t acc).toList→x.oneCell'=true
  | 0,_,_,h=>h
  | n+1,t,acc,h=>by
    unfold Extern.BytealgMakeNoZero.digits
    refine digits_one n _ _ (fun x hx => ?_)
    rw [Array.toList_push,List.mem_append] at hx
    rcases hx with hx | hx
    · exact h x hx
    · simp at hx; subst hx; rfl
theorem run_mnzq {P:Program} {w:World} {t e:TypeId} (ht:P.underlying t=some (.slice e)) (n:Nat) (hn:n≤281474976710656) (q:Question) (hq:q.forced=false) :
    ((do
        let .slice elem ← underlying t | stuck "bytealg.MakeNoZero: slice type expected"
        if (n : Int) < 0 || (n : Int) > 2 ^ 48 then runtimePanic (.error "makeslice: len out of range")
        let cap ← choose (.appendCap (n:Int).toNat 0 elem)
        askRoom cap
        let bytes ← choose q
        let a ← newRow elem (Extern.BytealgMakeNoZero.digits cap bytes #[])
        pure (.slice (some a) (n:Int).toNat cap)):Sem Value).run P w = .ok (.slice (some ⟨w.heap.size,0,none⟩) n (Extern.BytealgMakeNoZero.digits (grownCap w n 0 e) (q.cut (w.tape (w.drawn+1) q)) #[]).size) (w.drew.drew.alloc (.cells (Extern.BytealgMakeNoZero.digits (grownCap w n 0 e) (q.cut (w.tape (w.drawn+1) q)) #[]) e)):=by
  have h1:¬ (n:Int)<0:=by omega
  have h2:¬ (281474976710656:Int)<(n:Int):=by omega
  have hq2:(Question.appendCap n 0 e).forced=false:=rfl
  simp [run_underlying ht,h1,h2,hq,hq2,newRow,Lib.size_digits,grownCap]
theorem run_mnz {P:Program} {w:World} {ps:Array TypeId} {t e:TypeId} (ht:P.underlying t=some (.slice e)) (n:Nat) (hn:n≤281474976710656) :
    ∃ cs:Array Value,(∀ x,x∈cs.toList→x.oneCell'=true)∧(Extern.BytealgMakeNoZero.makeNoZero ps #[t] #[.int .i64 n]).run P w = .ok (.slice (some ⟨w.heap.size,0,none⟩) n cs.size) (w.drew.drew.alloc (.cells cs e))∧n≤cs.size∧(n≤maxLen→cs.size≤maxLen):=by
  refine ⟨_,digits_one _ _ _ (fun x hx=>by simp at hx),run_mnzq ht n hn _ rfl,?_,?_⟩
  · rw [Lib.size_digits]
    simpa using grownCap_ge w n 0 e
  · intro hm
    rw [Lib.size_digits]
    simpa using grownCap_le_maxLen w n 0 e hm
theorem mnz_ok {P : Program} {f : Nat} {fn : Func} {ps : Array TypeId} {t e : TypeId} (hf : P.funcs[f]? = some fn) (hname : (fn.name == "runtime.NumGoroutine") = false) (hb : fn.body.isNone = true) (hn : Extern.findNext fn = none)
    (he:Extern.find fn=some (Extern.BytealgMakeNoZero.makeNoZero ps #[t])) (ht:P.underlying t=some (.slice e)):ExtOk P f 1:=by
  intro args s s' v ρ w us h hH hU hr
  unfold outer at h
  split at h
  · rename_i s _ _ _ n hq
    rw [bif_eq] at h
    split at h
    · rename_i hm
      simp only [Nat.ble_eq] at hm
      cases h
      unfold VRs at hr
      obtain ⟨u,us',rfl,h1,h2⟩:=hr
      unfold VRs at h2
      subst h2
      unfold VR at h1
      subst h1
      obtain ⟨cs,hone,g1,g2,g3⟩:=run_mnz (P:=P) (w:=w) (ps:=ps) ht n (by omega)
      have hrun:(callFunc f #[.int .i64 (Int.ofNat n)]).run P w = .ok (.value (.slice (some ⟨w.heap.size,0,none⟩) n cs.size)) (w.drew.drew.alloc (.cells cs e)):=by
        have hbb:fn.body=none:=by simpa using hb
        have:(Extern.BytealgMakeNoZero.makeNoZero ps #[t] #[.int .i64 (Int.ofNat n)]).run P w = .ok (.slice (some ⟨w.heap.size,0,none⟩) n cs.size) (w.drew.drew.alloc (.cells cs e)):=g1
        unfold callFunc
        simp only [Sem.run_bind,program,Sem.run,Result.andThen_ok,hf,hname,hbb,hn,he,mark]
        simp only [Bool.false_eq_true,if_false,Option.isNone_none,if_true,Sem.run_bind,Sem.run,Result.andThen_ok,this]
        rfl
      have hlen:(cs.toList.take n).length=n:=by simp; omega
      have u0:ρ s.nx=none:=hU s.nx (Nat.le_refl _) (Nat.lt_succ_self _)
      have hp:=Post.new (z:=1) (l:=List.replicate n .any) (us:=cs.toList.take n) (ex:=cs.toList.drop n) (T:=e) (w1:=w.drew.drew) hH u0 (VRs_of (by simp [hlen]) (fun i x u hx hu=>by
        rw [List.getElem?_replicate] at hx
        split at hx <;> cases hx
        unfold VR; trivial)) (fun x hx=>hone x (List.mem_of_mem_take hx)) ((Kp.drew w).trans (Kp.drew _)) rfl
      rw [List.take_append_drop] at hp
      have hcs:cs.toList.toArray=cs:=by simp
      rw [hcs] at hp
      refine .inl ⟨_,_,_,hrun,?_,hp⟩
      unfold VR
      refine ⟨_,cs.size,updR_same _ _ _,by simp,g2,?_,?_,g3 (by unfold maxLen; omega),by omega⟩
      · simp; omega
      · simp
    · cases h
  · exact absurd ‹1=2› (by decide)
  · cases h
theorem cx_ok {P : Program} {n : Nat} {ext eqs : Tr Nat} (hnm : P.funcs.toList.all (fun g => !(g.name == "runtime.NumGoroutine")) = true) (hx : ∀ f q, ext.get f = some q → ExtOk P f q) (he : ∀ t m, eqs.get t = some m → EqOk P t m) (hm : P.follows .mixedOrders = true) : CxOk P ⟨mkTI P n, mkFn P.funcs.toList 0 .e, ext, eqs⟩ := by
  refine ⟨fun t x h=>mkTI_ok h,fun f g h=>mkFn_get h,fun f g h => ?_,hx,he,hm⟩
  have h1:=mkFn_get h
  rw [List.all_eq_true] at hnm
  have h3:=hnm g (List.mem_of_getElem? (by rw [Array.getElem?_toList]; exact h1))
  simpa using h3
theorem none_ok {Q:Nat→Nat→Prop} (f q:Nat) (h:(Tr.e:Tr Nat).get f=some q):Q f q:=by
  rw [Tr.get_e] at h; cases h
theorem set_ok {Q:Nat→Nat→Prop} {t:Tr Nat} {a b:Nat} (ht:∀ f q,t.get f=some q→Q f q) (h:Q a b) (f q:Nat) (hq:(t.set a b).get f=some q):Q f q:=by
  rw [Tr.get_set] at hq
  split at hq
  · rename_i e; subst e; simp only [Option.some.injEq] at hq; subst hq; exact h
  · exact ht f q hq
theorem true_ok {P : Program} {f : Nat} {fn : Func} (hf : P.funcs[f]? = some fn) (hname : (fn.name == "runtime.NumGoroutine") = false) (hb : fn.body.isSome = true) (hw : ∀ w, FnC P f #[] w (fun v w' => v = .bool true ∧ Kp [] w w')) : ExtOk P f 2 := by
  intro args s s' v ρ w us h hH hU hr
  unfold outer at h
  split at h
  · rename_i hq; cases hq
  · cases h
    unfold VRs at hr
    subst hr
    refine .inr ⟨?_,FnC.mono (hw w) (fun u w' ⟨h1,h2⟩=>⟨ρ,by unfold VR; exact h1,⟨fun b x r hx hr => ?_,fun b es r hx hr => ?_,fun b b' o o' r r' hne ho ho1 ho'=>hH.inj b b' o o' r r' hne ho ho1 ho'⟩,fun _ _=>rfl,⟨h2.os,h2.tape,h2.output,h2.size,fun b hb _=>h2.block b hb (by simp)⟩,fun _ h => .inl h,Nat.le_refl _⟩)⟩
    · have hne : ¬ fn.name = "runtime.NumGoroutine" := by simpa using hname
      obtain ⟨c,hc⟩:=Option.isSome_iff_exists.1 hb
      simp [callFunc,Sem.run,hf,hne,hc,program]
    · exact (hH.blk b x r hx hr).mv (Ext.refl _) h2.size (h2.block _ (hH.at hx hr) (by simp))
    · obtain ⟨en,clock,g1,g2⟩:=hH.map b es r hx hr
      exact ⟨en,clock,by rw [h2.block _ (hH.at hx hr) (by simp)]; exact g1,g2⟩
  · cases h
end Go.Hm
namespace Go.Hm
open Go Go.RowKit Go.Wk Go.Proofs
noncomputable def cxB:Cx:=⟨mkTI Tryz.prog 371,mkFn Tryz.prog.funcs.toList 0 .e,Tr.e.set 104 1,.e⟩
theorem nmB : Tryz.prog.funcs.toList.all (fun g => !(g.name == "runtime.NumGoroutine")) = true := by kernel_rfl
noncomputable def fMnz:Func:=(Tryz.prog.funcs[104]?).getD default
theorem mnz_fn:Tryz.prog.funcs[104]?=some fMnz:=by kernel_rfl
theorem mnz_nm : (fMnz.name == "runtime.NumGoroutine") = false := by kernel_rfl
theorem mnz_body:fMnz.body.isNone=true:=by kernel_rfl
theorem mnz_next:Extern.findNext fMnz=none:=by kernel_rfl
theorem mnz_find:Extern.find fMnz=some (Extern.BytealgMakeNoZero.makeNoZero #[3] #[67]):=by kernel_rfl
noncomputable def eMnz:TypeId:=match Tryz.prog.underlying 67 with | some (.slice e)=>e | _=>0
theorem mnz_ty:Tryz.prog.underlying 67=some (.slice eMnz):=by kernel_rfl
theorem mixB:Tryz.prog.follows .mixedOrders=true:=by kernel_rfl
theorem mnzB:ExtOk Tryz.prog 104 1:=mnz_ok mnz_fn mnz_nm mnz_body mnz_next mnz_find mnz_ty
theorem cxB_ok:CxOk Tryz.prog cxB:=cx_ok nmB (set_ok none_ok mnzB) none_ok mixB
def st0:St:=⟨0,.e,.e,0,[],.undef⟩
def okB:Option (HV×St)→Bool
  | some (.bool b,_)=>b
  | _=>false
theorem awake_run:okB (call cxB (run cxB 100000) 11 [] st0)=true:=by kernel_rfl
theorem awake_in:(cxB.fn.get 11).isSome=true:=by kernel_rfl
theorem awake_ext:(cxB.ext.get 11).isNone=true:=by kernel_rfl
theorem no0 (b:Nat) (o:Obj) (h:st0.hp.get b=some o):False:=by
  rw [show st0.hp = .e from rfl,Tr.get_e] at h; cases h
theorem awake_ok (w:World):FnC Tryz.prog 11 #[] w (fun v w'=>v = .bool true∧Kp [] w w'):=by
  have h:=awake_run
  cases hc:call cxB (run cxB 100000) 11 [] st0 with
  | none=>rw [hc] at h; cases h
  | some r =>
    rw [hc] at h
    obtain ⟨v,s'⟩:=r
    cases v <;> first | (cases h; done) | skip
    rename_i b
    have hb:b=true:=h
    subst hb
    cases hf:cxB.fn.get 11 with
    | none=>have:=awake_in; rw [hf] at this; cases this
    | some fn =>
      have hx:cxB.ext.get 11=none:=by simpa using awake_ext
      refine Calls.mono (call_run (ρ:=fun _=>none) (w:=w) (us:=[]) cxB_ok 100000 hf hx hc ⟨fun b x r h=>(no0 b _ h).elim,fun b x r h=>(no0 b _ h).elim,fun b b' o o' r r' _ h=>(no0 b _ h).elim⟩ (fun b _=>Tr.get_e b) (fun _ _ _=>rfl) (by unfold VRs; rfl)) ?_
      rintro e w' ⟨v,rfl,ρ',h1,h2⟩
      unfold VR at h1
      refine ⟨v,rfl,h1,h2.kp.os,h2.kp.tape,h2.kp.output,h2.kp.size,fun b hb _=>h2.kp.block b hb ?_⟩
      rintro ⟨i,o,r,h3,_⟩
      exact no0 _ _ h3
end Go.Hm
namespace Go.Hm
open Go Go.RowKit Go.Wk
def fieldsOk (P:Program):Nat→List Field→Bool
  | _,[]=>true
  | o, f :: fs => (f.name != "_") && ((f.offset == o) && (P.plainKey f.type && ((match P.underlying f.type with | some (.int _) => true | _ => false) && fieldsOk P (o + 1) fs)))
theorem eqFields_ok {P:Program} (d:Nat):∀ (fs:List Field) (o:Nat) (us vs:List Value) (r:Bool) (w:World),fieldsOk P o fs=true→us.length=o+fs.length→vs.length=o+fs.length→sameVs (us.drop o) (vs.drop o)=some r→(Op.eqFields (d+1) us.toArray vs.toArray fs).run P w = .ok r w
  | [],o,us,vs,r,w,_,h1,h2,h3=>by
    rw [List.drop_eq_nil_of_le (by simp at h1; omega),List.drop_eq_nil_of_le (by simp at h2; omega)] at h3
    cases h3
    rfl
  | f::fs,o,us,vs,r,w,hf,h1,h2,h3=>by
    unfold fieldsOk at hf
    simp only [Bool.and_eq_true] at hf
    obtain ⟨hn,ho,hp,ht,hr⟩:=hf
    have ho:f.offset=o:=by simpa using ho
    simp only [List.length_cons] at h1 h2
    have hu:o<us.length:=by omega
    have hv:o<vs.length:=by omega
    rw [List.drop_eq_getElem_cons hu,List.drop_eq_getElem_cons hv] at h3
    unfold sameVs at h3
    cases hs:sameV us[o] vs[o] with
    | none=>rw [hs] at h3; cases h3
    | some q =>
      rw [hs] at h3
      unfold sameV at hs
      split at hs
      · rename_i k a k' b ea eb
        split at hs
        · rename_i hk
          subst hk
          simp only [Option.some.injEq] at hs
          obtain ⟨k2,hk2⟩:∃ k2,P.underlying f.type=some (.int k2):=by
            split at ht
            · exact ⟨_,by assumption⟩
            · cases ht
          have g1:(Go.part f.type us.toArray f.offset).run P w = .ok (.int k a) w:=run_part_plain w hp (by rw [ho]; simp [← ea,hu])
          have g2:(Go.part f.type vs.toArray f.offset).run P w = .ok (.int k b) w:=run_part_plain w hp (by rw [ho]; simp [← eb,hv])
          have g3:=run_equalIn_int (P:=P) w d f.type k k2 a b hk2
          have hne : f.name ≠ "_" := by simpa using hn
          simp only [Op.eqFields,hne,ne_eq,not_false_eq_true,if_true,Sem.run_bind,g1,Result.andThen_ok,g2,g3,Sem.run_ite]
          cases hab:(a == b) with
          | true =>
            have:a=b:=by simpa using hab
            subst this
            simp only [decide_true] at hs
            subst hs
            simp only [Bool.not_true,Bool.false_eq_true,if_false]
            exact eqFields_ok d fs (o+1) us vs r w hr (by omega) (by omega) h3
          | false =>
            have:a≠b:=by simpa using hab
            rw [decide_eq_false this] at hs
            subst hs
            cases h3
            simp only [Bool.not_false,if_true,Sem.run_pure]
        · cases hs
      · cases hs
theorem eq_ok {P:Program} {t m:Nat} (hg:P.eqGuardType P.depth t=false) (ht:P.underlying t=some (.struct (P.fieldsOf t))) (hp:P.stoodInHeld t=false) (hf:fieldsOk P 0 (P.fieldsOf t).toList=true) (hm:(P.fieldsOf t).toList.length=m):EqOk P t m:=by
  refine ⟨hg,fun us vs r w h1 h2 h3 => ?_⟩
  show (Op.equalIn (9999+1) t _ _).run P w=_
  rw [run_equalIn_struct w 9999 t _ _ ht hp]
  exact eqFields_ok 9998 _ 0 us vs r w hf (by omega) (by omega) h3
end Go.Hm
namespace Go.Bo
open Go Go.Hm Go.Ls Go.Proofs
noncomputable def tf {α:Type} (f:Nat→Option α) (d:Nat):Nat→Nat→Tr α:=Nat.rec (fun _ _ => .e) (fun _ ih a b => .n (ih (Nat.mul 2 a) (Nat.add a b)) (f b) (ih (Nat.mul 2 a) (Nat.add (Nat.mul 2 a) b))) d
theorem tf_get {α:Type} {f:Nat→Option α} {x:α}:∀ {d a b j:Nat},(tf f d a b).get j=some x→f (a*j+b)=some x
  | 0,a,b,j,h=>by
    have h:(Tr.e:Tr α).get j=some x:=h
    rw [Tr.get_e] at h; cases h
  | d+1,a,b,j,h=>by
    have h:(Tr.n (tf f d (2*a) (a+b)) (f b) (tf f d (2*a) (2*a+b))).get j=some x:=h
    rw [Tr.get_n] at h
    split at h
    · rename_i h0
      subst h0
      rw [Nat.mul_zero,Nat.zero_add]; exact h
    · split at h
      · rename_i h0 h1
        have:=tf_get h
        obtain ⟨i,rfl⟩:∃ i,j=2*i+1:=⟨(j - 1)/2,by omega⟩
        rw [show (2*i+1 - 1)/2=i by omega] at this
        rw [show a*(2*i+1)+b=2*a*i+(a+b) by rw [Nat.mul_add, ← Nat.mul_assoc,Nat.mul_comm a 2]; omega]
        exact this
      · rename_i h0 h1
        have:=tf_get h
        obtain ⟨i,rfl⟩:∃ i,j=2*i+2:=⟨(j - 1)/2,by omega⟩
        rw [show (2*i+2 - 1)/2=i by omega] at this
        rw [show a*(2*i+2)+b=2*a*i+(2*a+b) by rw [Nat.mul_add, ← Nat.mul_assoc,Nat.mul_comm a 2]; omega]
        exact this
noncomputable def cxC:Cx:=⟨tf (tinfOf Tryz.prog) 10 1 0,tf (fun i=>Tryz.prog.funcs[i]?) 10 1 0,(Tr.e.set 104 1).set 11 2,Tr.e.set 152 8⟩
noncomputable def fAw:Func:=(Tryz.prog.funcs[11]?).getD default
theorem aw_fn:Tryz.prog.funcs[11]?=some fAw:=by kernel_rfl
theorem aw_nm : (fAw.name == "runtime.NumGoroutine") = false := by kernel_rfl
theorem aw_body:fAw.body.isSome=true:=by kernel_rfl
theorem eqi_g:Tryz.prog.eqGuardType Tryz.prog.depth 152=false:=by kernel_rfl
theorem eqi_s:Tryz.prog.stoodInHeld 152=false:=by kernel_rfl
theorem eqi_f:fieldsOk Tryz.prog 0 (Tryz.prog.fieldsOf 152).toList=true:=by kernel_rfl
theorem eqi_n:(Tryz.prog.fieldsOf 152).toList.length=8:=by kernel_rfl
theorem eqi_i:(match Tryz.prog.underlying 152 with | some (.struct _)=>true | _=>false)=true:=by kernel_rfl
theorem eqi_t:Tryz.prog.underlying 152=some (.struct (Tryz.prog.fieldsOf 152)):=by
  have h:=eqi_i
  unfold Program.fieldsOf
  split at h
  · rename_i fs hfs
    rw [hfs]
  · cases h
theorem eqi:EqOk Tryz.prog 152 8:=eq_ok eqi_g eqi_t eqi_s eqi_f eqi_n
theorem cxC_ok:CxOk Tryz.prog cxC:=by
  refine ⟨fun t x h => ?_,fun f g h => ?_,fun f g h => ?_,set_ok (set_ok none_ok mnzB) (true_ok aw_fn aw_nm aw_body awake_ok),set_ok none_ok eqi,mixB⟩
  · have:=tf_get (f:=tinfOf Tryz.prog) (d:=10) (a:=1) (b:=0) h
    rw [Nat.one_mul,Nat.add_zero] at this; exact this
  · have:=tf_get (f:=fun i=>Tryz.prog.funcs[i]?) (d:=10) (a:=1) (b:=0) h
    rw [Nat.one_mul,Nat.add_zero] at this; exact this
  · have h1:=tf_get (f:=fun i=>Tryz.prog.funcs[i]?) (d:=10) (a:=1) (b:=0) h
    rw [Nat.one_mul,Nat.add_zero] at h1
    have hnm:=nmB
    rw [List.all_eq_true] at hnm
    have h3:=hnm g (List.mem_of_getElem? (by rw [Array.getElem?_toList]; exact h1))
    simpa using h3
end Go.Bo
namespace Go.Bo
open Go Go.Hm Go.Ls Go.Proofs
def Runs (cx:Cx) (c:Code) (h:St) (e:Ex) (h':St):Prop := ∃ k0, ∀ k,k0≤k→run cx k c h=some (e,h')
section
variable {cx:Cx} {h h1 h':St} {a c:Code} {e:Ex}
theorem runs_of {q:Ex×St} {k0:Nat} (g:∀ k,k0≤k→stepC cx (run cx k) c h=some q):Runs cx c h q.1 q.2:=by
  refine ⟨k0+1,fun k hk => ?_⟩
  cases k with
  | zero=>omega
  | succ k=>exact g k (by omega)
theorem runs_seq (p:Runs cx a h .norm h1) (q:Runs cx c h1 e h'):Runs cx (.seq a c) h e h':=by
  obtain ⟨k1,p⟩:=p
  obtain ⟨k2,q⟩:=q
  refine runs_of (q:=(e,h')) (k0:=max k1 k2) (fun k hk => ?_)
  show (match run cx k a h with | some (.norm,s')=>run cx k c s' | r=>r)=_
  rw [p k (Nat.le_trans (Nat.le_max_left _ _) hk)]
  exact q k (Nat.le_trans (Nat.le_max_right _ _) hk)
theorem runs_seqr (p:Runs cx a h .ret h1):Runs cx (.seq a c) h .ret h1:=by
  obtain ⟨k1,p⟩:=p
  refine runs_of (q:=(.ret,h1)) (k0:=k1) (fun k hk => ?_)
  show (match run cx k a h with | some (.norm,s')=>run cx k c s' | r=>r)=_
  rw [p k hk]
theorem runs_skip:Runs cx .skip h .norm h:=runs_of (q:=(.norm,h)) (k0:=0) (fun _ _=>rfl)
theorem runs_ret:Runs cx .ret h .ret h:=runs_of (q:=(.ret,h)) (k0:=0) (fun _ _=>rfl)
theorem runs_region {j:Nat} {ops:Array Oper} (p:∀ ih,runOps cx ih ops h ops.toList=some h1):Runs cx (.region j ops false) h .norm h1:=runs_of (q:=(.norm,h1)) (k0:=0) (fun k _=>by
  show (match runOps cx (run cx k) ops h ops.toList with | some s'=>some (Ex.norm,s') | none=>none)=_
  rw [p])
theorem runs_draw {j:Nat} {ops:Array Oper} {l:List Hm.Item} (hl:planOf ops.toList=some l) (p:∀ ih,runItems cx ih ops h l=some h1):Runs cx (.region j ops true) h .norm h1:=runs_of (q:=(.norm,h1)) (k0:=0) (fun k _=>by
  show (match planOf ops.toList with | some l=>(match runItems cx (run cx k) ops h l with | some s'=>some (Ex.norm,s') | none=>none) | none=>none)=_
  rw [hl]
  simp only
  rw [p])
theorem runs_cond {x:Operand} {b:Bool} (hx:h.ev x=some (.bool b)) (p:Runs cx (bif b then a else c) h e h'):Runs cx (.cond x a c) h e h':=by
  obtain ⟨k1,p⟩:=p
  refine runs_of (q:=(e,h')) (k0:=k1) (fun k hk => ?_)
  show (match h.ev x with | some (.bool true)=>run cx k a h | some (.bool false)=>run cx k c h | _=>none)=_
  rw [hx]
  cases b with
  | true=>exact p k hk
  | false=>exact p k hk
theorem ops_cons {ih:Run} {ops:Array Oper} {o:Oper} {l:List Oper} {v:HV} (hg:o.guard=none) (hd:doOp cx h o.op=some (.val v h1)) (p:runOps cx ih ops (h1.put o.dst v) l=some h'):runOps cx ih ops h (o::l)=some h':=by
  show (match step1 cx ih ops h o with | some s'=>runOps cx ih ops s' l | none=>none)=_
  unfold step1 takes
  rw [hg]
  simp only
  rw [hd]
  exact p
end
def cloneC (t:Nat) (a b c d:String):Code := .seq (.region 0 #[⟨some 2,.assign (.const (.slice none 0 0)),t,a, #[],none⟩] false)
  (.seq (.seq (.region 1 #[⟨some 3,.move (.tmp 0),t,b, #[],none⟩,⟨some 4,.binOp .eql t (.tmp 3) (.const (.slice none 0 0)) t,4,b, #[⟨0,.data⟩],none⟩] false)
    (.cond (.tmp 4) (.seq (.region 2 #[⟨some 2,.assign (.const (.slice none 0 0)),t,c, #[],none⟩] false) .ret) .skip))
  (.seq (.region 3 #[⟨some 5,.buildSlice t 0 #[],t,d, #[],none⟩,⟨some 6,.move (.tmp 0),t,d, #[],none⟩,⟨some 7,.call ⟨.builtin .append, #[.tmp 5,.tmp 6], #[t,t]⟩,t,d, #[⟨0,.data⟩,⟨1,.data⟩],none⟩,⟨some 2,.assign (.tmp 7),t,d, #[⟨2,.data⟩,⟨2,.chain⟩,⟨0,.phase⟩,⟨1,.phase⟩,⟨2,.phase⟩],none⟩] false) .ret))
theorem clone_ok {cx:Cx} {f:FuncId} {fn:Func} {a b c d:String} (hf:cx.fn.get f=some fn) (hx:cx.ext.get f=none) (hn:fn.ntmps=8) (hr:fn.results.toList=[.tmp 2]) (hc:∀ t,fn.params.toList=[t]→fn.body=some (cloneC t a b c d) ∧ ∀ y,cx.sliceEl t=some y→Nat.ble y.z 4000=true):CloneOk cx f:=by
  intro fn' t y hf' hp hy h v cs k hfr hlk hsrc hkind hlen hroom
  rw [hf] at hf'
  cases hf'
  obtain ⟨hb,hz4⟩:=hc t hp
  have hz4:=hz4 y hy
  obtain ⟨e,hte⟩:∃ x:TInf,cx.ti.get t=some x ∧ ∃ e,x.sh = .slice e:=by
    unfold Cx.sliceEl at hy
    split at hy
    · rename_i x hxx
      split at hy
      · exact ⟨x,hxx,_,by assumption⟩
      · cases hy
    · cases hy
  obtain ⟨ht,el,hsh⟩:=hte
  have hz1:1≤y.z:=by
    unfold Cx.sliceEl at hy
    rw [ht] at hy
    simp only at hy
    rw [hsh] at hy
    simp only at hy
    unfold Cx.elem at hy
    split at hy
    · split at hy
      · split at hy
        · rw [bif_eq] at hy
          split at hy
          · rename_i hcond
            simp only [Bool.and_eq_true,Nat.ble_eq] at hcond
            cases hy
            exact hcond.1
          · cases hy
        · cases hy
      · cases hy
    · cases hy
  let g0:St:=⟨8,envOf 0 [v] .e,h.hp,h.nx,h.lk,.undef⟩
  let g1:St:=((g0.put (some 2) .nils).put (some 3) v)
  have fin:∀ (e:Ex) (g:St),(∀ id,e ≠ .exit id)→Runs cx (cloneC t a b c d) g0 e g → ∃ k0, ∀ k,k0≤k→call cx (run cx k) f [v] h=some (g.tmp 2,⟨h.nt,h.env,g.hp,g.nx,h.lk,h.df⟩):=by
    intro e g he ⟨k0,hk0⟩
    refine ⟨k0,fun k hk => ?_⟩
    unfold call
    rw [hx,hf]
    simp only
    rw [hb]
    simp only
    rw [hn]
    show (match run cx k (cloneC t a b c d) g0 with | some (.exit _,_)=>none | some (_,s')=>_ | none=>none)=_
    rw [hk0 k hk,hr]
    cases e with
    | exit id=>exact absurd rfl (he id)
    | norm=>rfl
    | ret=>rfl
  have r0:Runs cx (.region 0 #[⟨some 2,.assign (.const (.slice none 0 0)),t,a, #[],none⟩] false) g0 .norm (g0.put (some 2) .nils):=runs_region (fun ih=>ops_cons rfl rfl rfl)
  have r1:∀ w:Bool,binop cx .eql t v .nils=some (.bool w)→Runs cx (.region 1 #[⟨some 3,.move (.tmp 0),t,b, #[],none⟩,⟨some 4,.binOp .eql t (.tmp 3) (.const (.slice none 0 0)) t,4,b, #[⟨0,.data⟩],none⟩] false) (g0.put (some 2) .nils) .norm (g1.put (some 4) (.bool w)):=by
    intro w hw
    refine runs_region (fun ih=>ops_cons rfl rfl (ops_cons (v := .bool w) rfl ?_ rfl))
    show (match binop cx .eql t v .nils with | some r=>some (Rs.val r g1) | none=>none)=_
    rw [hw]
  have hbin:∀ w:Bool,(w=true↔v = .nils)→(v = .nils∨v = .esl∨v = .emp ∨ ∃ b o n,v = .sl b o n∧b<h.nx)→binop cx .eql t v .nils=some (.bool w):=by
    intro w hw hv
    rcases hv with rfl | rfl | rfl | ⟨b,o,n,rfl,_⟩
    · have:w=true:=hw.2 rfl
      subst this
      show (match cx.ti.get t with | some u=>(match u.sh,HV.nils with | .slice _,.nils=>eqOp .eql true | .slice _,.sl _ _ _=>eqOp .eql false | .slice _,.asl _ _ _=>eqOp .eql false | .slice _,.esl=>eqOp .eql false | .slice _,.emp=>eqOp .eql false | _,_=>none) | none=>none)=_
      rw [ht]; simp only; rw [hsh]; rfl
    · have:w=false:=by
        cases w with
        | false=>rfl
        | true=>cases hw.1 rfl
      subst this
      show (match cx.ti.get t with | some u=>(match u.sh,HV.esl with | .slice _,.nils=>eqOp .eql true | .slice _,.sl _ _ _=>eqOp .eql false | .slice _,.asl _ _ _=>eqOp .eql false | .slice _,.esl=>eqOp .eql false | .slice _,.emp=>eqOp .eql false | _,_=>none) | none=>none)=_
      rw [ht]; simp only; rw [hsh]; rfl
    · have:w=false:=by
        cases w with
        | false=>rfl
        | true=>cases hw.1 rfl
      subst this
      show (match cx.ti.get t with | some u=>(match u.sh,HV.emp with | .slice _,.nils=>eqOp .eql true | .slice _,.sl _ _ _=>eqOp .eql false | .slice _,.asl _ _ _=>eqOp .eql false | .slice _,.esl=>eqOp .eql false | .slice _,.emp=>eqOp .eql false | _,_=>none) | none=>none)=_
      rw [ht]; simp only; rw [hsh]; rfl
    · have:w=false:=by
        cases w with
        | false=>rfl
        | true=>cases hw.1 rfl
      subst this
      show (match cx.ti.get t with | some u=>(match u.sh,HV.sl b o n with | .slice _,.nils=>eqOp .eql true | .slice _,.sl _ _ _=>eqOp .eql false | .slice _,.asl _ _ _=>eqOp .eql false | .slice _,.esl=>eqOp .eql false | .slice _,.emp=>eqOp .eql false | _,_=>none) | none=>none)=_
      rw [ht]; simp only; rw [hsh]; rfl
  by_cases hnil:v = .nils
  · subst hnil
    have hk:k=0:=by
      have:srcOf h y.z .nils=some ([],0):=rfl
      rw [this] at hsrc
      cases hsrc; rfl
    refine ⟨.nils,h.hp,h.nx,fin .ret ((g1.put (some 4) (.bool true)).put (some 2) .nils) (fun _ h=>by cases h) ?_,Nat.le_refl _,fun _ _=>rfl,hfr,.inl ⟨rfl,hk⟩⟩
    refine runs_seq r0 (runs_seqr ?_)
    refine runs_seq (r1 true (hbin true ⟨fun _=>rfl,fun _=>rfl⟩ hkind)) (runs_cond (b:=true) rfl ?_)
    exact runs_seq (runs_region (fun ih=>ops_cons rfl rfl rfl)) runs_ret
  ·
    let B:Blk:=⟨true,y.z,(repl y.zc 0).length,scatter .e 0 (repl y.zc 0)⟩
    let hp1:=h.hp.set h.nx (.blk B)
    let g2:St:=((g1.put (some 4) (.bool false)))
    let g3:St:=⟨8,g2.env.set 5 (.sl h.nx 0 0),hp1,h.nx+1,h.lk,.undef⟩
    let g4:St:=g3.put (some 6) v
    have hlk2:isIn h.nx h.lk=false:=by
      cases hq:isIn h.nx h.lk with
      | false=>rfl
      | true=>have:=hlk _ hq; omega
    have hsrc4:srcOf g4 y.z v=some (cs,k):=by
      rcases hkind with rfl | rfl | rfl | ⟨b,o,n,rfl,hb⟩
      · exact absurd rfl hnil
      · exact hsrc
      · exact hsrc
      · have e:g4.blk b=h.blk b:=by
          show (match hp1.get b with | some (.blk x)=>some x | _=>none)=_
          rw [show hp1.get b=h.hp.get b from Tr.get_set_ne _ _ (by omega)]
          rfl
        have e2:srcOf g4 y.z (.sl b o n)=srcOf h y.z (.sl b o n):=by
          unfold srcOf
          simp only [cellsOf]
          rw [e]
        rw [e2]; exact hsrc
    have hbk:g4.blk h.nx=some B:=by
      show (match hp1.get h.nx with | some (.blk x)=>some x | _=>none)=_
      rw [show hp1.get h.nx=_ from Tr.get_set_same _ _ _]
    have hiss:isSrc cx t v=true:=by
      unfold isSrc
      rw [ht]
      simp only
      rw [hsh]
      rcases hkind with rfl | rfl | rfl | ⟨b,o,n,rfl,hb⟩ <;> rfl
    have happ:doAppend cx g4 t t (.sl h.nx 0 0) v=appendTo g4 y.z (.sl h.nx 0 0) cs k:=by
      unfold doAppend
      rw [hy]
      simp only
      rw [hiss,hsrc4]
      simp only [lenOf]
      rw [show Nat.add 0 k=k from Nat.zero_add k,hroom]
      rfl
    have hcond:(B.own&&(g4.free h.nx&&Nat.beq B.z y.z))=true:=by
      show (true&&(!isIn h.nx h.lk&&Nat.beq y.z y.z))=true
      rw [hlk2]; simp
    have happ2:appendTo g4 y.z (.sl h.nx 0 0) cs k=(bif Nat.ble (Nat.add 0 (Nat.mul (Nat.add 0 k) y.z)) B.n then
        (match g4.write h.nx (Nat.add 0 (Nat.mul 0 y.z)) cs with
          | some s'=>some (.val (.sl h.nx 0 (Nat.add 0 k)) s')
          | none=>none)
      else bif Nat.ble (Nat.add 0 (Nat.mul 0 y.z)) B.n then
        some (.val (.sl g4.nx 0 (Nat.add 0 k)) ⟨g4.nt,g4.env,(g4.hp.del h.nx).set g4.nx (.blk ⟨true,y.z,Nat.mul (Nat.add 0 k) y.z,scatter B.c (Nat.mul 0 y.z) cs⟩),Nat.add g4.nx 1,g4.lk,g4.df⟩) else none):=by
      show (match g4.blk h.nx with | some x=>_ | none=>none)=_
      rw [hbk]
      simp only
      rw [hcond]
      rfl
    have hB0:B.n=0:=rfl
    have r3:∀ (w:HV) (g5:St),appendTo g4 y.z (.sl h.nx 0 0) cs k=some (.val w g5)→(g5.put (some 7) w).tmp 7=w→Runs cx (cloneC t a b c d) g0 .ret ((g5.put (some 7) w).put (some 2) w):=by
      intro w g5 hw htm
      refine runs_seq r0 (runs_seq (runs_seq (r1 false (hbin false ⟨fun h=>(by cases h),fun h=>absurd h hnil⟩ hkind)) (runs_cond (b:=false) rfl runs_skip)) (runs_seq (runs_region (fun ih => ?_)) runs_ret))
      refine ops_cons (v := .sl h.nx 0 0) (h1:=⟨8,g2.env,hp1,h.nx+1,h.lk,.undef⟩) rfl ?_ ?_
      · show doBuildSlice cx g2 t 0 []=_
        unfold doBuildSlice
        rw [hy]
        simp only
        rw [hz4]
        rfl
      · refine ops_cons (v:=v) (h1:=g3) rfl rfl ?_
        refine ops_cons (v:=w) (h1:=g5) rfl ?_ ?_
        · show doAppend cx g4 t t (.sl h.nx 0 0) v=_
          rw [happ,hw]
        · refine ops_cons (v:=w) (h1:=g5.put (some 7) w) rfl ?_ rfl
          show some (Rs.val ((g5.put (some 7) w).tmp 7) (g5.put (some 7) w))=_
          rw [htm]
    rw [happ2,hB0] at r3
    by_cases hk0:k=0
    · subst hk0
      have hcs:cs=[]:=List.length_eq_zero_iff.1 (by rw [hlen,Nat.zero_mul])
      subst hcs
      have hfit:Nat.ble (Nat.add 0 (Nat.mul (Nat.add 0 0) y.z)) 0=true:=by
        rw [Nat.ble_eq]
        show 0+0*y.z≤0
        rw [Nat.zero_mul]; exact Nat.le_refl _
      have hw:g4.write h.nx (Nat.add 0 (Nat.mul 0 y.z)) []=some ⟨8,g4.env,hp1.set h.nx (.blk ⟨true,y.z,0,B.c⟩),h.nx+1,h.lk,.undef⟩:=by
        unfold St.write
        rw [hbk]
        simp only
        have hm:Nat.add 0 (Nat.mul 0 y.z)=0:=by
          show 0+0*y.z=0
          rw [Nat.zero_mul]
        rw [hm]
        show (bif (true&&(!isIn h.nx h.lk&&true)) then _ else none)=_
        rw [hlk2]
        rfl
      have:=r3 (.sl h.nx 0 0) ⟨8,g4.env,hp1.set h.nx (.blk ⟨true,y.z,0,B.c⟩),h.nx+1,h.lk,.undef⟩ (by rw [hfit,hw]; rfl) rfl
      refine ⟨.sl h.nx 0 0,_,_,fin .ret _ (fun _ h=>by cases h) this,Nat.le_succ _,fun b hb => ?_,fun b hb => ?_,.inr ⟨h.nx,⟨true,y.z,0,B.c⟩,rfl,Nat.le_refl _,Nat.lt_succ_self _,Tr.get_set_same _ _ _,rfl,rfl,?_⟩⟩
      · show ((h.hp.set h.nx (.blk B)).set h.nx _).get b=_
        rw [Tr.get_set_ne _ _ (by omega),Tr.get_set_ne _ _ (by omega)]
      · have hb:h.nx+1≤b:=hb
        show ((h.hp.set h.nx (.blk B)).set h.nx _).get b=_
        rw [Tr.get_set_ne _ _ (by omega),Tr.get_set_ne _ _ (by omega)]
        exact hfr b (by omega)
      · rw [Nat.zero_mul]; rfl
    · have hkz:1≤k*y.z:=Nat.mul_pos (Nat.pos_of_ne_zero hk0) hz1
      have hfit:Nat.ble (Nat.add 0 (Nat.mul (Nat.add 0 k) y.z)) 0=false:=by
        cases hq:Nat.ble (Nat.add 0 (Nat.mul (Nat.add 0 k) y.z)) 0 with
        | false=>rfl
        | true =>
          rw [Nat.ble_eq] at hq
          have hq:0+(0+k)*y.z≤0:=hq
          rw [Nat.zero_add,Nat.zero_add] at hq
          omega
      have hm:Nat.mul 0 y.z=0:=Nat.zero_mul _
      have hk':Nat.add 0 k=k:=Nat.zero_add k
      have:=r3 (.sl (h.nx+1) 0 k) ⟨8,g4.env,(hp1.del h.nx).set (h.nx+1) (.blk ⟨true,y.z,k*y.z,scatter B.c 0 cs⟩),h.nx+1+1,h.lk,.undef⟩ (by rw [hfit,hm,hk']; rfl) rfl
      refine ⟨.sl (h.nx+1) 0 k,_,_,fin .ret _ (fun _ h=>by cases h) this,by show h.nx≤h.nx+1+1; omega,fun b hb => ?_,fun b hb => ?_,.inr ⟨h.nx+1,⟨true,y.z,k*y.z,scatter B.c 0 cs⟩,rfl,Nat.le_succ _,Nat.lt_succ_self _,Tr.get_set_same (hp1.del h.nx) (h.nx+1) _,rfl,rfl,?_⟩⟩
      · show (((h.hp.set h.nx (.blk B)).del h.nx).set (h.nx+1) _).get b=_
        rw [Tr.get_set_ne _ _ (by omega),Tr.get_del,if_neg (by omega),Tr.get_set_ne _ _ (by omega)]
      · have hb:h.nx+1+1≤b:=hb
        show (((h.hp.set h.nx (.blk B)).del h.nx).set (h.nx+1) _).get b=_
        rw [Tr.get_set_ne _ _ (by omega),Tr.get_del,if_neg (by omega),Tr.get_set_ne _ _ (by omega)]
        exact hfr b (by omega)
      · rw [← hlen]
        exact gather_new (by omega)
theorem el22:cxC.sliceEl 22=some ⟨[.int .i64 0],1,8⟩:=by kernel_rfl
theorem sz3:cxC.size 3=some 1:=by kernel_rfl
theorem sh22:(match cxC.ti.get 22 with | some x=>(match x.sh with | .slice e=>Nat.beq e 3 | _=>false) | none=>false)=true:=by kernel_rfl
theorem slice22 {h:St} {b n:Nat} {y:Blk} {lo hi mx:Option HV} {l:Option Nat} {u m:Option Nat} {v:HV} (hb:h.blk b=some y) (h1:optNat lo=some l) (h2:optNat hi=some u) (h3:optNat mx=some m) (hs:sliceSl y b 0 n 1 (orNat 0 l) u m=some v):doSlice cxC h 22 (.sl b 0 n) lo hi mx=some (.val v h):=by
  have hsh:=sh22
  unfold doSlice
  rw [h1,h2,h3]
  cases hx:cxC.ti.get 22 with
  | none=>rw [hx] at hsh; cases hsh
  | some x =>
    rw [hx] at hsh
    simp only at hsh ⊢
    cases hq:x.sh with
    | slice e =>
      rw [hq] at hsh
      have he:e=3:=Nat.eq_of_beq_eq_true hsh
      subst he
      simp only
      rw [sz3,hb]
      simp only
      rw [hs]
    | _=>rw [hq] at hsh; cases hsh
theorem sliceSl_of {y:Blk} {b n l:Nat} {hi:Option Nat} (hz:y.z=1) (hl:l≤orNat n hi) (hn:orNat n hi≤y.n) (hbig:orNat n hi≤140737488355328):sliceSl y b 0 n 1 l hi none=some (Hm.part HV.sl b 0 1 l (orNat n hi)):=by
  unfold sliceSl
  simp only
  rw [show ((Nat.ble 1 1&&Nat.ble (orNat n hi) 140737488355328)&&(Nat.ble l (orNat n hi)&&(Nat.beq y.z 1&&Nat.ble (Nat.add 0 (Nat.mul (orNat n hi) 1)) y.n)))=true by
    simp only [Bool.and_eq_true,Nat.ble_eq]
    refine ⟨⟨Nat.le_refl _,hbig⟩,hl,by rw [hz]; rfl,?_⟩
    show 0+orNat n hi*1≤y.n
    omega]
  rfl
theorem n233:cxC.fn.get 233=some Tryz.f233:=by kernel_rfl
theorem e233:cxC.ext.get 233=none:=by kernel_rfl
theorem ops_pure {cx:Cx} {h h':St} {ih:Run} {ops:Array Oper} {o:Oper} {l:List Oper} (v:HV) (hg:o.guard=none) (hd:doOp cx h o.op=some (.val v h)) (p:runOps cx ih ops (h.put o.dst v) l=some h'):runOps cx ih ops h (o::l)=some h':=ops_cons hg hd p
def IsOp (o:Oper) (op:Op) (d:Nat):Prop:=o.op=op∧o.dst=some d∧o.guard=none
theorem items_cons {cx:Cx} {h h1 h':St} {ih:Run} {ops:Array Oper} {x:Hm.Item} {l:List Hm.Item} {op:Op} {d:Nat} (v:HV) (hl:x.lk=[]) (ho:IsOp x.o op d) (hm:mapLen h op=false) (hd:doOp cx ⟨h.nt,cutEnv h op.operands.toList,h.hp,h.nx,h.lk,.any⟩ op=some (.val v h1)) (hn:h1.nt=h.nt) (hdn:Nat.blt d h.nt=true) (p:runItems cx ih ops ⟨h.nt,h.env.set d v,h1.hp,h1.nx,h.lk,h.df⟩ l=some h'):runItems cx ih ops h (x::l)=some h':=by
  obtain ⟨o1,o2,o3⟩:=ho
  show (match lockAll h x.lk with | some l0=>(bif mapLen h x.o.op then none else (match step1 cx ih ops (h.cut ops x.o l0) x.o with | some t=>runItems cx ih ops (h.take x.o t) l | none=>none)) | none=>none)=_
  rw [hl]
  show (bif mapLen h x.o.op then none else (match step1 cx ih ops (h.cut ops x.o h.lk) x.o with | some t=>runItems cx ih ops (h.take x.o t) l | none=>none))=_
  rw [o1,hm]
  have hcut:h.cut ops x.o h.lk=⟨h.nt,cutEnv h op.operands.toList,h.hp,h.nx,h.lk,.any⟩:=by
    unfold St.cut guardSlot
    rw [o3,o1]
    rfl
  have e:step1 cx ih ops (h.cut ops x.o h.lk) x.o=some (h1.put (some d) v):=by
    unfold step1 takes
    rw [o3]
    simp only
    rw [hcut,o1,hd,o2]
  rw [e]
  show runItems cx ih ops (h.take x.o (h1.put (some d) v)) l=_
  have et:h.take x.o (h1.put (some d) v)=⟨h.nt,h.env.set d v,h1.hp,h1.nx,h.lk,h.df⟩:=by
    unfold St.take St.put
    rw [o2]
    simp only
    rw [hn,hdn]
    unfold St.tmp
    simp only [cond_true]
    rw [Tr.get_set_same]
  rw [et]
  exact p
theorem items_pure {cx:Cx} {h h':St} {ih:Run} {ops:Array Oper} {x:Hm.Item} {l:List Hm.Item} {op:Op} {d:Nat} (v:HV) (hl:x.lk=[]) (ho:IsOp x.o op d) (hm:mapLen h op=false) (hd:doOp cx ⟨h.nt,cutEnv h op.operands.toList,h.hp,h.nx,h.lk,.any⟩ op=some (.val v ⟨h.nt,cutEnv h op.operands.toList,h.hp,h.nx,h.lk,.any⟩)) (hdn:Nat.blt d h.nt=true) (p:runItems cx ih ops ⟨h.nt,h.env.set d v,h.hp,h.nx,h.lk,h.df⟩ l=some h'):runItems cx ih ops h (x::l)=some h':=items_cons v hl ho hm hd rfl hdn p
theorem len22 {h:St} {b n:Nat}:doBuiltin cxC h .len [22] [.sl b 0 n]=some (.val (.int .i64 (Int.ofNat n)) h):=by
  have hsh:=sh22
  unfold doBuiltin
  simp only
  cases hx:cxC.ti.get 22 with
  | none=>rw [hx] at hsh; cases hsh
  | some x =>
    rw [hx] at hsh
    simp only at hsh ⊢
    cases hq:x.sh with
    | slice e=>rfl
    | _=>rw [hq] at hsh; cases hsh
theorem src22 {x:HV} (h:∀ s,x ≠ .str s):isSrc cxC 22 x=true:=by
  have hsh:=sh22
  unfold isSrc
  cases hx:cxC.ti.get 22 with
  | none=>rw [hx] at hsh; cases hsh
  | some t =>
    rw [hx] at hsh
    simp only at hsh ⊢
    cases hq:t.sh with
    | slice e=>cases x <;> first | rfl | exact absurd rfl (h _)
    | _=>rw [hq] at hsh; cases hsh
theorem app22 {h:St} {b i k:Nat} {y:Blk} {x:HV} {new:List HV} (hb:h.hp.get b=some (.blk y)) (ho:y.own=true) (hl:isIn b h.lk=false) (hz:y.z=1) (hx:∀ s,x ≠ .str s) (hsrc:srcOf h 1 x=some (new,k)) (hlen:new.length=k) (hroom:roomOk (i+k) 8=true) (hfit:i+k≤y.n):doAppend cxC h 22 22 (.sl b 0 i) x=some (.val (.sl b 0 (i+k)) ⟨h.nt,h.env,h.hp.set b (.blk ⟨true,y.z,y.n,scatter y.c i new⟩),h.nx,h.lk,h.df⟩):=by
  unfold doAppend
  rw [el22]
  simp only
  rw [src22 hx,hsrc]
  simp only [lenOf]
  rw [show roomOk (Nat.add i k) 8=true from hroom]
  show appendTo h 1 (.sl b 0 i) new k=_
  have hi:Nat.add 0 (Nat.mul i 1)=i:=by show 0+i*1=i; omega
  have hw:=write_of (o:=i) (c:=new) hb ho hl (by omega)
  show (match h.blk b with | some x=>_ | none=>none)=_
  rw [blk_of hb]
  simp only
  rw [show (y.own&&(h.free b&&Nat.beq y.z 1))=true by
    rw [ho,hz]
    unfold St.free
    rw [hl]; rfl]
  rw [show Nat.ble (Nat.add 0 (Nat.mul (Nat.add i k) 1)) y.n=true by
    rw [Nat.ble_eq]
    show 0+(i+k)*1≤y.n
    omega]
  rw [hi,hw]
  rfl
theorem clear22 {h:St} {b o m:Nat} {y:Blk} (hb:h.hp.get b=some (.blk y)) (ho:y.own=true) (hl:isIn b h.lk=false) (hfit:o+(repl [HV.int .i64 0] m).length≤y.n):doClear cxC h 22 (.sl b o m)=some (.val .undef ⟨h.nt,h.env,h.hp.set b (.blk ⟨true,y.z,y.n,scatter y.c o (repl [.int .i64 0] m)⟩),h.nx,h.lk,h.df⟩):=by
  unfold doClear
  rw [el22]
  simp only
  rw [write_of hb ho hl hfit]
theorem op_len {g:St} {k b n:Nat} (hv:g.tmp k = .sl b 0 n):doOp cxC g (.call ⟨.builtin .len, #[.tmp k], #[22]⟩)=some (.val (.int .i64 (Int.ofNat n)) g):=by
  show doBuiltin cxC g .len [22] [g.tmp k]=_
  rw [hv]
  exact len22
theorem op_slice {g:St} {k b n:Nat} {y:Blk} {lo hi mx:Option Operand} {lo' hi' mx':Option HV} {l u m:Option Nat} {v:HV} (hv:g.tmp k = .sl b 0 n) (e1:evO g lo=some lo') (e2:evO g hi=some hi') (e3:evO g mx=some mx') (hb:g.blk b=some y) (h1:optNat lo'=some l) (h2:optNat hi'=some u) (h3:optNat mx'=some m) (hs:sliceSl y b 0 n 1 (orNat 0 l) u m=some v):doOp cxC g (.slice 22 (.tmp k) lo hi mx)=some (.val v g):=by
  show (match some (g.tmp k),evO g lo,evO g hi,evO g mx with | some v,some l,some h,some m=>doSlice cxC g 22 v l h m | _,_,_,_=>none)=_
  rw [hv,e1,e2,e3]
  exact slice22 hb h1 h2 h3 hs
theorem op_app {g:St} {p q:Nat} {v x:HV} {r:Option Rs} (hv:g.tmp p=v) (hx:g.tmp q=x) (hr:doAppend cxC g 22 22 v x=r):doOp cxC g (.call ⟨.builtin .append, #[.tmp p,.tmp q], #[22,22]⟩)=r:=by
  show doAppend cxC g 22 22 (g.tmp p) (g.tmp q)=_
  rw [hv,hx,hr]
theorem op_clear {g:St} {p:Nat} {v:HV} {r:Option Rs} (hv:g.tmp p=v) (hr:doClear cxC g 22 v=r):doOp cxC g (.call ⟨.builtin .clear, #[.tmp p], #[22]⟩)=r:=by
  show doClear cxC g 22 (g.tmp p)=_
  rw [hv,hr]
noncomputable def del5:Array Oper:=match Tryz.f233.body with
  | some (.seq _ (.seq _ (.seq _ (.seq _ (.seq (.region _ o _) _)))))=>o
  | _ => #[]
noncomputable def delI (i : Nat) : Hm.Item := ⟨i, (del5.toList[i]?).getD ⟨none, .move (.tmp 0), 0, "", #[], none⟩, []⟩
theorem plan5:planOf del5.toList=some [delI 0,delI 1,delI 2,delI 3,delI 4,delI 5,delI 6,delI 7]:=by kernel_rfl
theorem di0:IsOp (delI 0).o (.move (.tmp 0)) 20:=⟨by kernel_rfl,by kernel_rfl,by kernel_rfl⟩
theorem di1:IsOp (delI 1).o (.move (.tmp 1)) 21:=⟨by kernel_rfl,by kernel_rfl,by kernel_rfl⟩
theorem di2:IsOp (delI 2).o (.slice 22 (.tmp 20) none (some (.tmp 21)) none) 22:=⟨by kernel_rfl,by kernel_rfl,by kernel_rfl⟩
theorem di3:IsOp (delI 3).o (.move (.tmp 0)) 23:=⟨by kernel_rfl,by kernel_rfl,by kernel_rfl⟩
theorem di4:IsOp (delI 4).o (.move (.tmp 2)) 24:=⟨by kernel_rfl,by kernel_rfl,by kernel_rfl⟩
theorem di5:IsOp (delI 5).o (.slice 22 (.tmp 23) (some (.tmp 24)) none none) 25:=⟨by kernel_rfl,by kernel_rfl,by kernel_rfl⟩
theorem di6:IsOp (delI 6).o (.call ⟨.builtin .append, #[.tmp 22,.tmp 25], #[22,22]⟩) 26:=⟨by kernel_rfl,by kernel_rfl,by kernel_rfl⟩
theorem di7:IsOp (delI 7).o (.assign (.tmp 26)) 0:=⟨by kernel_rfl,by kernel_rfl,by kernel_rfl⟩
theorem del_ok:DelOk cxC 233:=by
  intro h b n i y cs hb ho hlk hz hg hbig hroom hin
  have hlen:=gather_len hg
  have hyn:n≤y.n:=by
    rw [gather_char] at hg
    have:=(hg.2 (n - 1) (by omega)).1
    omega
  let Sv:HV := .sl b 0 n
  let Iv:HV := .int .i64 (Int.ofNat i)
  let Jv:HV := .int .i64 (Int.ofNat (i+1))
  let g0:St:=⟨33,envOf 0 [Sv,Iv,Jv] .e,h.hp,h.nx,h.lk,.undef⟩
  have hblk:∀ g:St,g.hp=h.hp→g.blk b=some y:=fun g e=>blk_of (by rw [e]; exact hb)
  obtain ⟨v13,h13⟩:∃ v,sliceSl y b 0 n 1 i (some (i+1)) (some n)=some v:=by
    unfold sliceSl
    simp only [orNat]
    rw [show ((Nat.ble 1 1&&Nat.ble (i+1) 140737488355328)&&(Nat.ble i (i+1)&&(Nat.beq y.z 1&&Nat.ble (Nat.add 0 (Nat.mul (i+1) 1)) y.n)))=true by
      simp only [Bool.and_eq_true,Nat.ble_eq]
      refine ⟨⟨Nat.le_refl _,by omega⟩,Nat.le_succ _,by rw [hz]; rfl,?_⟩
      show 0+(i+1)*1≤y.n
      omega]
    rw [show (Nat.ble (i+1) n&&Nat.ble (Nat.add 0 (Nat.mul n 1)) y.n)=true by
      simp only [Bool.and_eq_true,Nat.ble_eq]
      refine ⟨hin,?_⟩
      show 0+n*1≤y.n
      omega]
    simp only [cond_true]
    cases Nat.beq n i <;> cases Nat.beq (Nat.add 0 (Nat.mul n 1)) y.n <;> exact ⟨_,rfl⟩
  have hne:decide (Int.ofNat i=Int.ofNat (i+1))=false:=by
    rw [decide_eq_false_iff_not]
    intro h
    have:=Int.ofNat.inj h
    omega
  obtain ⟨x25,new,hx25,hxs,hsrc,hnew⟩:∃ x new,sliceSl y b 0 n 1 (i+1) none none=some x∧(∀ s,x ≠ .str s)∧(∀ g:St,g.hp=h.hp→srcOf g 1 x=some (new,n - (i+1)))∧new=cs.drop (i+1):=by
    have hs:=sliceSl_of (y:=y) (b:=b) (n:=n) (l:=i+1) (hi:=none) hz hin hyn hbig
    by_cases he:n=i+1
    · refine ⟨.emp,[],?_,(fun s h=>by cases h),(fun g _ => ?_),?_⟩
      · rw [hs]
        unfold Hm.part
        simp only [orNat]
        rw [show (Nat.beq n (i+1) && !Nat.beq (i+1) 0)=true by rw [he]; simp; rfl]
        rfl
      · rw [he,Nat.sub_self]; rfl
      · rw [List.drop_eq_nil_of_le (by omega)]
    · refine ⟨.sl b (i+1) (n - (i+1)),cs.drop (i+1),?_,(fun s h=>by cases h),(fun g hgh => ?_),rfl⟩
      · rw [hs]
        unfold Hm.part
        simp only [orNat]
        rw [show (Nat.beq n (i+1) && !Nat.beq (i+1) 0)=false by
          rw [Ls.beq_false he]; rfl]
        show some (HV.sl b (0+(i+1)*1) (n - (i+1)))=_
        rw [Nat.mul_one,Nat.zero_add]
      · unfold srcOf
        simp only [cellsOf,lenOf]
        rw [hblk g hgh]
        simp only
        have hm:Nat.mul (n - (i+1)) 1=n - (i+1):=Nat.mul_one _
        rw [hm]
        have:=gather_sub (c1:=cs.take (i+1)) (c2:=cs.drop (i+1)) (c3:=[]) hg (by rw [List.append_nil,List.take_append_drop]) (p:=i+1) (by rw [List.length_take,hlen]; omega) rfl
        rw [Nat.zero_add,List.length_drop,hlen] at this
        rw [this]
  have hnl:new.length=n - (i+1):=by rw [hnew,List.length_drop,hlen]
  have hin1:i+(n - (i+1))=n - 1:=by omega
  let y1:Blk:=⟨true,y.z,y.n,scatter y.c i new⟩
  let hp1:=h.hp.set b (.blk y1)
  let y2:Blk:=⟨true,y.z,y.n,scatter y1.c (n - 1) [.int .i64 0]⟩
  let hp2:=hp1.set b (.blk y2)
  have hb1:hp1.get b=some (.blk y1):=Tr.get_set_same _ _ _
  have s31:sliceSl y1 b 0 (n - 1) 1 (n - 1) (some n) none=some (.sl b (n - 1) 1):=by
    rw [sliceSl_of (y:=y1) (b:=b) (n:=n - 1) (l:=n - 1) (hi:=some n) hz (by show n - 1≤n; omega) hyn hbig]
    unfold Hm.part
    simp only [orNat]
    rw [show (Nat.beq n (n - 1) && !Nat.beq (n - 1) 0)=false by
      rw [Ls.beq_false (by omega)]; rfl]
    show some (HV.sl b (0+(n - 1)*1) (n - (n - 1)))=_
    rw [Nat.mul_one,Nat.zero_add,show n - (n - 1)=1 by omega]
  have s22:sliceSl y b 0 n 1 0 (some i) none=some (.sl b 0 i):=by
    rw [sliceSl_of (y:=y) (b:=b) (n:=n) (l:=0) (hi:=some i) hz (Nat.zero_le _) (by show i≤y.n; omega) (by show i≤_; omega)]
    unfold Hm.part
    simp only [orNat]
    rw [show (Nat.beq i 0 && !Nat.beq 0 0)=false by simp]
    show some (HV.sl b (0+0*1) (i - 0))=_
    rfl
  obtain ⟨c,hc⟩:∃ c,Tryz.f233.body=some c:=⟨_,rfl⟩
  let Nv:HV := .int .i64 (Int.ofNat n)
  let Rv:HV := .sl b 0 (n - 1)
  let s1:St:=((((((g0.put (some 6) .nils).put (some 8) Sv).put (some 9) Iv).put (some 10) Jv).put (some 11) Sv).put (some 12) Nv).put (some 13) v13
  let s2:St:=((s1.put (some 14) Iv).put (some 15) Jv).put (some 16) (.bool false)
  let s4:St:=((s2.put (some 18) Sv).put (some 19) Nv).put (some 7) Nv
  let s5:St:=⟨33,(((((((s4.env.set 20 Sv).set 21 Iv).set 22 (.sl b 0 i)).set 23 Sv).set 24 Jv).set 25 x25).set 26 Rv).set 0 Rv,hp1,h.nx,h.lk,.undef⟩
  let s6:St:=((((s5.put (some 27) Rv).put (some 28) Rv).put (some 29) (.int .i64 (Int.ofNat (n - 1)))).put (some 30) Nv).put (some 31) (.sl b (n - 1) 1)
  let s7:St:=⟨33,s6.env,hp2,h.nx,h.lk,.undef⟩
  have key:Runs cxC c g0 .ret ((s7.put (some 32) Rv).put (some 6) Rv):=by
    cases hc
    refine runs_seq (runs_region (fun ih=>ops_pure .nils rfl (by kernel_rfl) rfl)) (runs_seq (h1:=s1) ?_ (runs_seq (h1:=s2) ?_ (runs_seq (h1:=s4) ?_ (runs_seq (h1:=s5) ?_ (runs_seq (h1:=s7) ?_ (runs_seq (runs_region (fun ih=>ops_cons (v:=Rv) rfl rfl (ops_cons (v:=Rv) rfl rfl rfl))) runs_ret))))))
    · refine runs_region (fun ih=>ops_pure Sv rfl (by kernel_rfl) (ops_pure Iv rfl (by kernel_rfl) (ops_pure Jv rfl (by kernel_rfl) (ops_pure Sv rfl (by kernel_rfl) (ops_pure Nv rfl ?_ (ops_pure v13 rfl ?_ (by kernel_rfl)))))))
      · exact op_len (b:=b) (n:=n) (by kernel_rfl)
      · exact op_slice (b:=b) (n:=n) (lo':=some Iv) (hi':=some Jv) (mx':=some Nv) (by kernel_rfl) (by kernel_rfl) (by kernel_rfl) (by kernel_rfl) (hblk _ (by kernel_rfl)) rfl rfl rfl h13
    · refine runs_seq (h1:=s2) (runs_region (fun ih=>ops_pure Iv rfl (by kernel_rfl) (ops_pure Jv rfl (by kernel_rfl) (ops_pure (.bool false) rfl ?_ (by kernel_rfl))))) (runs_cond (b:=false) (by kernel_rfl) runs_skip)
      show (match some (HV.bool (decide (Int.ofNat i=Int.ofNat (i+1)))) with | some r=>some (Rs.val r _) | none=>none)=_
      rw [hne]
    · refine runs_region (fun ih=>ops_pure Sv rfl (by kernel_rfl) (ops_pure Nv rfl ?_ (ops_pure Nv rfl (by kernel_rfl) (by kernel_rfl))))
      exact op_len (b:=b) (n:=n) (by kernel_rfl)
    · refine runs_draw plan5 (fun ih=>items_pure Sv rfl di0 (by kernel_rfl) (by kernel_rfl) (by kernel_rfl) (items_pure Iv rfl di1 (by kernel_rfl) (by kernel_rfl) (by kernel_rfl) (items_pure (.sl b 0 i) rfl di2 (by kernel_rfl) (op_slice (b:=b) (n:=n) (lo':=none) (hi':=some Iv) (mx':=none) (by kernel_rfl) (by kernel_rfl) (by kernel_rfl) (by kernel_rfl) (hblk _ (by kernel_rfl)) rfl rfl rfl s22) (by kernel_rfl) (items_pure Sv rfl di3 (by kernel_rfl) (by kernel_rfl) (by kernel_rfl) (items_pure Jv rfl di4 (by kernel_rfl) (by kernel_rfl) (by kernel_rfl) (items_pure x25 rfl di5 (by kernel_rfl) (op_slice (b:=b) (n:=n) (lo':=some Jv) (hi':=none) (mx':=none) (by kernel_rfl) (by kernel_rfl) (by kernel_rfl) (by kernel_rfl) (hblk _ (by kernel_rfl)) rfl rfl rfl hx25) (by kernel_rfl) (items_cons (h1:=⟨33,(Tr.e.set 25 x25).set 22 (.sl b 0 i),hp1,h.nx,h.lk,.any⟩) Rv rfl di6 (by kernel_rfl) ?_ (by kernel_rfl) (by kernel_rfl) (items_pure Rv rfl di7 (by kernel_rfl) (by kernel_rfl) (by kernel_rfl) (by kernel_rfl)))))))))
      have:=app22 (h:=⟨33,(Tr.e.set 25 x25).set 22 (.sl b 0 i),h.hp,h.nx,h.lk,.any⟩) (b:=b) (i:=i) (k:=n - (i+1)) (y:=y) (x:=x25) (new:=new) hb ho hlk hz hxs (hsrc _ rfl) hnl (by
        rw [hin1]
        unfold roomOk at hroom ⊢
        rw [Nat.ble_eq] at hroom ⊢
        have hroom:n*8≤4294967296:=hroom
        show (n - 1)*8≤4294967296
        omega) (by omega)
      rw [hin1] at this
      have e:∀ g:St,g=⟨33,(Tr.e.set 25 x25).set 22 (.sl b 0 i),h.hp,h.nx,h.lk,.any⟩→doOp cxC g (.call ⟨.builtin .append, #[.tmp 22,.tmp 25], #[22,22]⟩)=some (.val Rv ⟨33,(Tr.e.set 25 x25).set 22 (.sl b 0 i),hp1,h.nx,h.lk,.any⟩):=by
        intro g hg
        subst hg
        exact op_app rfl rfl this
      exact e _ (by kernel_rfl)
    · refine runs_region (fun ih=>ops_pure Rv rfl (by kernel_rfl) (ops_pure Rv rfl (by kernel_rfl) (ops_pure (.int .i64 (Int.ofNat (n - 1))) rfl ?_ (ops_pure Nv rfl (by kernel_rfl) (ops_pure (.sl b (n - 1) 1) rfl ?_ (ops_cons (h1:=s7) (v := .undef) rfl ?_ (by kernel_rfl)))))))
      · exact op_len (b:=b) (n:=n - 1) (by kernel_rfl)
      · exact op_slice (b:=b) (n:=n - 1) (lo':=some (.int .i64 (Int.ofNat (n - 1)))) (hi':=some Nv) (mx':=none) (by kernel_rfl) (by kernel_rfl) (by kernel_rfl) (by kernel_rfl) (blk_of hb1) rfl rfl rfl s31
      · exact op_clear (v := .sl b (n - 1) 1) (by kernel_rfl) (clear22 (h:=s6) hb1 rfl hlk (by show n - 1+1≤y.n; omega))
  obtain ⟨k0,hk0⟩:=key
  refine ⟨hp2,y2,⟨k0,fun k hk => ?_⟩,fun d hd => ?_,Tr.get_set_same _ _ _,rfl,hz,?_⟩
  · unfold call
    rw [e233,n233]
    simp only
    rw [hc]
    simp only
    show (match run cxC k c g0 with | some (.exit _,_)=>none | some (_,s')=>_ | none=>none)=_
    rw [hk0 k hk]
    have e:∀ g:St,g.tmp 6=Rv→g.hp=hp2→g.nx=h.nx→(match resOf cxC g Tryz.f233.results.toList with | some l=>some (one l,(⟨h.nt,h.env,g.hp,g.nx,h.lk,h.df⟩:St)) | none=>none)=some (Rv,⟨h.nt,h.env,hp2,h.nx,h.lk,h.df⟩):=by
      intro g q1 q2 q3
      show some (g.tmp 6,(⟨h.nt,h.env,g.hp,g.nx,h.lk,h.df⟩:St))=_
      rw [q1,q2,q3]
    exact e _ (by kernel_rfl) (by kernel_rfl) (by kernel_rfl)
  · show ((h.hp.set b _).set b _).get d=_
    rw [Tr.get_set_ne _ _ hd,Tr.get_set_ne _ _ hd]
  · rw [gather_char]
    rw [gather_char] at hg
    refine ⟨by rw [List.length_eraseIdx,if_pos (by omega),hlen],fun j hj => ?_⟩
    rw [Nat.zero_add]
    refine ⟨by show j<y.n; omega,?_⟩
    show (scatter (scatter y.c i new) (n - 1) [.int .i64 0]).get j=_
    rw [scatter_get,if_neg (by simp only [List.length_cons,List.length_nil]; omega),scatter_get,List.getElem?_eraseIdx]
    by_cases hji:j<i
    · rw [if_neg (by omega),if_pos hji]
      have:=(hg.2 j (by omega)).2
      rw [Nat.zero_add] at this
      exact this
    · rw [if_pos (by omega),if_neg hji,hnew,List.getElem?_drop,show i+1+(j - i)=j+1 by omega]
theorem clz {t:Nat} (h:(match cxC.sliceEl t with | some y=>Nat.ble y.z 4000 | none=>true)=true) (y:El) (hy:cxC.sliceEl t=some y):Nat.ble y.z 4000=true:=by
  rw [hy] at h
  exact h
theorem c77 : CloneOk cxC 77 := clone_ok (fn := Tryz.f77) (a := "slices.go:355") (b := "slices.go:357") (c := "slices.go:358") (d := "slices.go:362") (by kernel_rfl) (by kernel_rfl) (by kernel_rfl) (by kernel_rfl) (fun t h => by
  have h : [22]=[t]:=h
  cases h
  exact ⟨by kernel_rfl,clz (by kernel_rfl)⟩)
theorem c118 : CloneOk cxC 118 := clone_ok (fn := Tryz.f118) (a := "slices.go:355") (b := "slices.go:357") (c := "slices.go:358") (d := "slices.go:362") (by kernel_rfl) (by kernel_rfl) (by kernel_rfl) (by kernel_rfl) (fun t h => by
  have h : [23]=[t]:=h
  cases h
  exact ⟨by kernel_rfl,clz (by kernel_rfl)⟩)
theorem c49 : CloneOk cxC 49 := clone_ok (fn := Tryz.f49) (a := "slices.go:355") (b := "slices.go:357") (c := "slices.go:358") (d := "slices.go:362") (by kernel_rfl) (by kernel_rfl) (by kernel_rfl) (by kernel_rfl) (fun t h => by
  have h : [25]=[t]:=h
  cases h
  exact ⟨by kernel_rfl,clz (by kernel_rfl)⟩)
theorem c121 : CloneOk cxC 121 := clone_ok (fn := Tryz.f121) (a := "slices.go:355") (b := "slices.go:357") (c := "slices.go:358") (d := "slices.go:362") (by kernel_rfl) (by kernel_rfl) (by kernel_rfl) (by kernel_rfl) (fun t h => by
  have h : [67]=[t]:=h
  cases h
  exact ⟨by kernel_rfl,clz (by kernel_rfl)⟩)
theorem c124 : CloneOk cxC 124 := clone_ok (fn := Tryz.f124) (a := "slices.go:355") (b := "slices.go:357") (c := "slices.go:358") (d := "slices.go:362") (by kernel_rfl) (by kernel_rfl) (by kernel_rfl) (by kernel_rfl) (fun t h => by
  have h : [72]=[t]:=h
  cases h
  exact ⟨by kernel_rfl,clz (by kernel_rfl)⟩)
theorem c197 : CloneOk cxC 197 := clone_ok (fn := Tryz.f197) (a := "bytes.go:1391") (b := "bytes.go:1392") (c := "bytes.go:1393") (d := "bytes.go:1395") (by kernel_rfl) (by kernel_rfl) (by kernel_rfl) (by kernel_rfl) (fun t h => by
  have h : [67]=[t]:=h
  cases h
  exact ⟨by kernel_rfl,clz (by kernel_rfl)⟩)
theorem c248 : CloneOk cxC 248 := clone_ok (fn := Tryz.f248) (a := "slices.go:355") (b := "slices.go:357") (c := "slices.go:358") (d := "slices.go:362") (by kernel_rfl) (by kernel_rfl) (by kernel_rfl) (by kernel_rfl) (fun t h => by
  have h : [34]=[t]:=h
  cases h
  exact ⟨by kernel_rfl,clz (by kernel_rfl)⟩)
theorem c249 : CloneOk cxC 249 := clone_ok (fn := Tryz.f249) (a := "slices.go:355") (b := "slices.go:357") (c := "slices.go:358") (d := "slices.go:362") (by kernel_rfl) (by kernel_rfl) (by kernel_rfl) (by kernel_rfl) (fun t h => by
  have h : [35]=[t]:=h
  cases h
  exact ⟨by kernel_rfl,clz (by kernel_rfl)⟩)
theorem c250 : CloneOk cxC 250 := clone_ok (fn := Tryz.f250) (a := "slices.go:355") (b := "slices.go:357") (c := "slices.go:358") (d := "slices.go:362") (by kernel_rfl) (by kernel_rfl) (by kernel_rfl) (by kernel_rfl) (fun t h => by
  have h : [43]=[t]:=h
  cases h
  exact ⟨by kernel_rfl,clz (by kernel_rfl)⟩)
noncomputable def spF:Tr Nat:=((((((((((Tr.e).set 77 2).set 118 2).set 49 2).set 121 2).set 124 2).set 197 2).set 248 2).set 249 2).set 250 2).set 233 1
theorem sp_set {t:Tr Nat} {g s:Nat} (h:∀ f q,t.get f=some q→SpOk cxC f q) (hc:SpOk cxC g s):∀ f q,(t.set g s).get f=some q→SpOk cxC f q:=by
  intro f q' hf
  rw [Tr.get_set] at hf
  split at hf
  · rename_i e; subst e; cases hf; exact hc
  · exact h f q' hf
theorem sp_cl {f:Nat} (h:CloneOk cxC f):SpOk cxC f 2:=⟨fun h=>(by cases h),fun _=>h⟩
theorem sp_no:∀ f q,(Tr.e:Tr Nat).get f=some q→SpOk cxC f q:=fun f q h=>by
  rw [Tr.get_e] at h; cases h
theorem spF_ok:∀ f q,spF.get f=some q→SpOk cxC f q:=sp_set (sp_set (sp_set (sp_set (sp_set (sp_set (sp_set (sp_set (sp_set (sp_set sp_no (sp_cl c77)) (sp_cl c118)) (sp_cl c49)) (sp_cl c121)) (sp_cl c124)) (sp_cl c197)) (sp_cl c248)) (sp_cl c249)) (sp_cl c250)) ⟨fun _=>del_ok,fun h=>(by cases h)⟩
end Go.Bo
namespace Go.Ls
open Go Go.Hm
noncomputable section
def markL:List Bool→List SV→List SV
  | true::m,.int _ k x::r => .int true k x::markL m r
  | true::m,.bool _ b::r => .bool true b::markL m r
  | _::m,v::r=>v::markL m r
  | _,l=>l
def fnL (cy:Cy) (ms:List Bool) (k:Nat) (a r:U) (H:Tr (List Hi)) (fn:Func) (x:D a):Option (D r):=match fn.body with
  | some b=>bif Nat.ble (markL ms (mkArgs a x)).length fn.ntmps then ex cy k (D r) H 0 b ⟨fn.ntmps,envS 0 (markL ms (mkArgs a x)) .e,.e,0,[],0,[],[]⟩ (fun e S'=>match e with
      | .exit _=>none
      | _=>resS cy S' fn.results.toList (fun l=>match rowsI S'.st l with
        | some _=>rdArgs S'.st r l
        | none=>none)) else none
  | none=>none
theorem mark_rel {E:En}:∀ {m:List Bool} {l:List SV} {args:List HV},Vs E l args→Vs E (markL m l) args
  | [],_,_,h=>by unfold markL; exact h
  | true::_,[],_,h=>h
  | false::_,[],_,h=>h
  | false::m,v::r,_,h=>by
    unfold markL
    unfold Vs at h ⊢
    obtain ⟨a,bs,rfl,h1,h2⟩:=h
    exact ⟨a,bs,rfl,h1,mark_rel h2⟩
  | true::m,v::r,_,h=>by
    unfold Vs at h
    obtain ⟨a,bs,rfl,h1,h2⟩:=h
    have h3:=mark_rel (m:=m) h2
    cases v
    case int l k x=>unfold markL Vs; exact ⟨a,bs,rfl,h1,h3⟩
    case bool l b=>unfold markL Vs; exact ⟨a,bs,rfl,h1,h3⟩
    all_goals (unfold markL Vs; exact ⟨a,bs,rfl,h1,h3⟩)
section
variable {cy:Cy}
theorem con_okL (hct:∀ f c,cy.ct.get f=some c→COk cy.cx f c) (hsp:∀ f q,cy.sp.get f=some q→SpOk cy.cx f q) {f:FuncId} {fn:Func} (hf:cy.cx.fn.get f=some fn) (hx:cy.cx.ext.get f=none) {a r:U} {H:Tr (List Hi)} {n:Nat} {F:D a→Option (D r)} {ms:List Bool} (hF:∀ x y,F x=some y→fnL cy ms n a r H fn x=some y):COk cy.cx f ⟨a,r,F⟩:=by
  intro h Z args x y hfr hlk hZ ha hy
  have hy:F x=some y:=hy
  have hy:=hF x y hy
  unfold fnL at hy
  split at hy
  · rename_i b hb
    rw [bif_eq] at hy
    split at hy
    · rename_i hle
      have hv:Vs (⟨h.hp,Z,fun _=>none,fun _ _=>none,.e,0⟩:En) (markL ms (mkArgs a x)) args:=mark_rel<|mkArgs_rel (E:=⟨h.hp,Z,fun _=>none,fun _ _=>none,.e,0⟩) ha
      have hle':Nat.ble args.length fn.ntmps=true:=by rw [Vs_len hv]; exact hle
      have no:∀ (m:Nat) (e:Ent),(Tr.e:Tr Ent).get m=some e→False:=fun m e hm=>by rw [Tr.get_e] at hm; cases hm
      obtain ⟨e,h1,S1,E1,⟨k1,q1⟩,q2,q3,q4,_,q6⟩:=ex_ok hct hsp n _ _ _ _ _ _ _ hy ⟨fn.ntmps,envOf 0 args .e,h.hp,h.nx,h.lk,.undef⟩ ⟨h.hp,Z,fun _=>none,fun _ _=>none,.e,0⟩ ⟨rfl,rfl,rfl,fun m e hm=>(no m e hm).elim,fun m e hm=>(no m e hm).elim,fun m _ e _ _ hm=>(no m e hm).elim,fun m e _ hm=>(no m e hm).elim,hZ,hfr,fun b hb=>⟨hlk b hb,fun m e hm=>(no m e hm).elim⟩,fun _ _ hm=>(by rcases hm with hm | ⟨_,hm⟩ <;> cases hm),fun m e hm=>(no m e hm).elim⟩ (args_env hv)
      have noOw:∀ b,¬ Ow (⟨fn.ntmps,envS 0 (markL ms (mkArgs a x)) .e,.e,0,[],0,[],[]⟩:SS) (⟨h.hp,Z,fun _=>none,fun _ _=>none,.e,0⟩:En) b:=fun b ⟨m,e,hm,_⟩=>no m e hm
      have key:(∀ id,e ≠ .exit id)→resS cy S1 fn.results.toList (fun l=>match rowsI S1.st l with
        | some _=>rdArgs S1.st r l
        | none=>none)=some y → ∃ l hp' nx' Z',(∃ k0, ∀ k,k0≤k→call cy.cx (run cy.cx k) f args h=some (one l,⟨h.nt,h.env,hp',nx',h.lk,h.df⟩))∧h.nx≤nx'∧(∀ b,b<h.nx→hp'.get b=h.hp.get b)∧(∀ b,nx'≤b→hp'.get b=none)∧(∀ b,Z b→Z' b)∧(∀ b,Z' b→Z b∨(h.nx≤b∧b<nx'))∧RdArgs hp' Z' r l y:=by
        intro hne hres
        obtain ⟨l,vs,w1,w2,w3⟩:=resS_rel q2 q3 hres
        split at w3
        · rename_i L hL
          have hr:=rdArgs_rel (E:=E1) (Q:=fun b=>E1.Z b∨Ow S1 E1 b) (k:=3) (fun b hb => .inl hb) (fun m e hm=>q2.ent m e (by rw [← q2.st]; exact hm)) (by rw [q2.st]; exact w3) w2 (cov_all (fun m e b hm hb => .inr ⟨m,e,by rw [← q2.st]; exact hm,hb⟩) (by rw [q2.st]; exact hL))
          refine ⟨vs,h1.hp,h1.nx,fun b=>E1.Z b∨Ow S1 E1 b,⟨k1,fun k hkk => ?_⟩,q4.nx,fun b hb=>q4.oth b hb (noOw b),q2.fr,fun b hb => .inl (q4.z b hb),fun b hb => ?_,by rw [← q2.hp]; exact hr⟩
          · unfold call
            rw [hx,hf]
            simp only
            rw [hb]
            simp only
            rw [hle',q1 k hkk]
            cases e with
            | exit id=>exact absurd rfl (hne id)
            | norm=>simp only [cond_true]; rw [w1]
            | ret=>simp only [cond_true]; rw [w1]
          · rcases hb with hb | hb
            · rcases q4.z' b hb with g | g | g
              · exact .inl g
              · exact absurd g (noOw b)
              · exact .inr ⟨g,q2.z b hb⟩
            · obtain ⟨m,e,hm,hmb⟩:=hb
              rcases q4.ow b ⟨m,e,hm,hmb⟩ with g | g
              · exact absurd g (noOw b)
              · exact .inr ⟨g,(q2.own m e b hm hmb).2⟩
        · cases w3
      cases e with
      | exit id=>cases q6
      | norm=>exact key (fun id hid=>by cases hid) q6
      | ret=>exact key (fun id hid=>by cases hid) q6
    · cases hy
  · cases hy
end
end
end Go.Ls
namespace Go.Bo
open Go Go.Hm Go.Ls Go.Proofs
noncomputable def rjF:Tr (List Hi):=((Tr.e).set 205 [.box 0 [.v (.list (.int .i64)),.v (.int .i64),.v (.int .i64),.o (.pair (.int .i64) (.pair (.int .i64) (.pair (.int .i64) (.pair (.int .i64) (.pair (.int .i64) (.pair (.arr 5 (.list (.int .i64))) .un)))))),.o (.pair (.list (.list (.int .i64))) .un)],.val 6 .bool]).set 252 [.cell 6 (.pair (.list (.list (.int .i64))) .un),.val 7 (.int .i64)]
noncomputable def cyF (ct:Tr Con) (hi:Tr (Tr (List Hi))):Cy:=⟨cxC,codeN Tryz.prog [75,186] 20,ct,hi,spF,rjF⟩
def CtOk (ct:Tr Con):Prop := ∀ f c,ct.get f=some c→COk cxC f c
theorem ct_set {ct:Tr Con} {g:Nat} {c:Con} (h:CtOk ct) (hc:COk cxC g c):CtOk (ct.set g c):=by
  intro f c' hf
  rw [Tr.get_set] at hf
  split at hf
  · rename_i e; subst e; cases hf; exact hc
  · exact h f c' hf
noncomputable def ct0:Tr Con:=Tr.e
theorem k0:CtOk ct0:=fun f c h=>by
  have h:(Tr.e:Tr Con).get f=some c:=h
  rw [Tr.get_e] at h; cases h
theorem conB {ct:Tr Con} {hi:Tr (Tr (List Hi))} (hct:CtOk ct) {f:FuncId} {fn:Func} (hf:cxC.fn.get f=some fn) (hx:cxC.ext.get f=none) {a r:U} {H:Tr (List Hi)} {n:Nat} {F:D a→Option (D r)} (hF:∀ x,fnS (cyF ct hi) n a r H fn x=F x):COk cxC f ⟨a,r,F⟩:=con_ok (cy:=cyF ct hi) hct spF_ok hf hx hF
theorem conL {ct:Tr Con} {hi:Tr (Tr (List Hi))} (hct:CtOk ct) {f:FuncId} {fn:Func} (hf:cxC.fn.get f=some fn) (hx:cxC.ext.get f=none) {a r:U} {H:Tr (List Hi)} {n:Nat} {F:D a→Option (D r)} {ms:List Bool} (hF:∀ x y,F x=some y→fnL (cyF ct hi) ms n a r H fn x=some y):COk cxC f ⟨a,r,F⟩:=con_okL (cy:=cyF ct hi) hct spF_ok hf hx hF
theorem litF {ct:Tr Con} {hi:Tr (Tr (List Hi))} {a r:U} {F:D a→Option (D r)} {fn:Func} {H:Tr (List Hi)} {n:Nat} {ms:List Bool} {b:D a→Bool} {q:D a→D a} (hb:∀ x,b x=true→q x=x) (hx:∀ x,fnL (cyF ct hi) ms n a r H fn (q x)=F x):∀ x y,cnd (b x) (F x) none=some y→fnL (cyF ct hi) ms n a r H fn x=some y:=by
  intro x y h
  cases hc:b x with
  | false=>rw [hc] at h; cases h
  | true =>
    rw [hc] at h
    have h:F x=some y:=h
    rw [← hx x,hb x hc] at h
    exact h
end Go.Bo
