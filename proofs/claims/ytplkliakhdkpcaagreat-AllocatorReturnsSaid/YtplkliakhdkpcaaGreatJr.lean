/-
  The statement AllocatorReturns.
-/
import Derived.Test.YtplkliakhdkpcaaGreatRows
import Derived.Test.YtplkliakhdkpcaaGreatWd
import Derived.Test.YtplkliakhdkpcaaGreatPn
import Derived.Test.YtplkliakhdkpcaaGreatRdA
set_option linter.unusedVariables false
set_option linter.unusedSimpArgs false
namespace Go.Proofs.YtplkliakhdkpcaaGreat
open Go Go.ChangeShapes Go.WideShapes Go.ChangeAt Go.RowKit Go.Wk Go.Am
theorem own:ownKnob Tryz.prog.godebug=none:=by kernel_rfl
theorem zSY:laidOutB Tryz.prog=true:=by kernel_rfl
theorem zT6 {n:Int} (h:(Lit.int .i64 n).wf=true):inI n=true:=by
  refine zAE ?_
  simp [Lit.wf,IntKind.min,IntKind.max,IntKind.signed,IntKind.bits] at h
  omega
theorem zMU:RdC Tryz.prog 3 cI (fun n=>inI n=true):=RdC.map (zS4 Tryz.underlying3) id (fun _=>rfl) (fun _ h=>zT6 h)
theorem zOf:RdC Tryz.prog 22 (cS cI) (fun l=>(∀ x,x∈l→inI x=true)∧l.length≤140737488351232):=zKk Tryz.underlying22 (of_decide_eq_true (by kernel_rfl)) (of_decide_eq_true (by kernel_rfl)) zMU
theorem zUG:RdC Tryz.prog 49 (cA 5 (eS cI) ([]:List Int)) (fun l=>l.length=5 ∧ ∀ x,x∈l→(∀ y,y∈x→inI y=true)∧x.length≤140737488351232):=zSP [] Tryz.underlying49 (by kernel_rfl) (by kernel_rfl) zOf
theorem zT9:RdC Tryz.prog 51 zO Gz :=
  RdC.map (zLJ (tot:=10) Tryz.underlying51 (by kernel_rfl) (zFr (s:=1) zMU rfl (by kernel_rfl) (zFr (s:=1) zMU rfl (by kernel_rfl) (zFr (s:=1) zMU rfl (by kernel_rfl) (zFr (s:=1) zMU rfl (by kernel_rfl) (zFr (s:=1) zMU rfl (by kernel_rfl) (zFr (s:=5) zUG rfl (by kernel_rfl) (zOd rfl))))))))
    (fun x=>⟨x.1,x.2.1,x.2.2.1,x.2.2.2.1,x.2.2.2.2.1,x.2.2.2.2.2.1⟩) (fun _=>rfl) (fun _ h=>⟨h.2.2.2.2.2.1.1,h.2.2.1⟩)
theorem zSN:RdC Tryz.prog 23 (cS zO) (fun l=>(∀ x,x∈l→Gz x)∧l.length≤140737488351232):=zKk Tryz.underlying23 (of_decide_eq_true (by kernel_rfl)) (of_decide_eq_true (by kernel_rfl)) zT9
theorem zS8:RdC Tryz.prog 53 (cS (cS cI)) (fun l=>(∀ x,x∈l→(∀ y,y∈x→inI y=true)∧x.length≤140737488351232)∧l.length≤140737488351232):=zKk Tryz.underlying53 (of_decide_eq_true (by kernel_rfl)) (of_decide_eq_true (by kernel_rfl)) zOf
theorem zSS:RdC Tryz.prog 55 zI (fun _=>True) :=
  RdC.map (zLJ (tot:=1) Tryz.underlying55 (by kernel_rfl) (zFr (s:=1) zS8 rfl (by kernel_rfl) (zOd rfl))) (fun x=>⟨x.1⟩) (fun _=>rfl) (fun _ _=>trivial)
theorem zRE:RdC Tryz.prog 24 (cS zI) (fun l=>(∀ x,x∈l→True)∧l.length≤140737488351232):=zKk Tryz.underlying24 (of_decide_eq_true (by kernel_rfl)) (of_decide_eq_true (by kernel_rfl)) zSS
theorem zS3:RdC Tryz.prog 26 zG (fun a => ∀ z,z∈a.zones→Gz z) :=
  RdC.map (zLJ (tot:=5) Tryz.underlying26 (by kernel_rfl) (zFr (s:=1) zOf rfl (by kernel_rfl) (zFr (s:=1) zMU rfl (by kernel_rfl) (zFr (s:=1) zMU rfl (by kernel_rfl) (zFr (s:=1) zSN rfl (by kernel_rfl) (zFr (s:=1) zRE rfl (by kernel_rfl) (zOd rfl)))))))
    (fun x=>⟨x.1,x.2.1,x.2.2.1,x.2.2.2.1,x.2.2.2.2.1⟩) (fun _=>rfl) (fun _ h=>h.2.2.2.1.1)
set_option maxRecDepth 100000 in
theorem zMQ (os:Os) (started:os.Started) (H:Type) (enc:TypeId×Value→H) :
    ReturnsInHanded {} Tryz.checked os 7 .any (Rows.allocatorReturnsSpec.pre6 enc Tryz.prog Tryz.f7 Rows.allocatorReturnsRow.domain false) (Rows.allocatorReturnsSpec.post enc Tryz.prog Tryz.f7 false true false false):=by
  refine returnsInHanded_of_change_sized (C:=Tryz.checked) own started (by kernel_rfl) Tryz.func7
    (ChangeSpec.witness6 (enc:=enc) (C:=Tryz.checked) false ⟨#[], #[.agg #[.slice none 0 0,.int .i64 0,.int .i64 0,.slice none 0 0,.slice none 0 0],.int .i64 0,.int .i64 0],[]⟩ 8 (by kernel_rfl) (by kernel_rfl) (by kernel_rfl) (by kernel_rfl)) ?_
  intro W base args ds gs before hval0 hW hcnd0 hsz0 _
  have hsz:(DataW.weightsEach Tryz.prog (Tryz.f7.params.toList++Rows.allocatorReturnsSpec.plain.varTypes Tryz.prog) (ds++gs)).all (· ≤ reachBytes)=true:=hsz0
  have hval:∀ (j:Nat) t v,Tryz.f7.params[j]?=some t→args[j]?=some v→Value.okWide Tryz.prog W .any base t v:=hval0
  clear hcnd0 hsz0 hval0
  have hW':=hW
  obtain ⟨p,q,hA0,hV,rfl,hfz,hnd⟩:=hW
  have hA:DataW.TrodAll enc Tryz.prog W 0 (fun _=>true) true Tryz.f7.params.toList args.toList ds p:=hA0
  clear hA0
  rw [Tryz.params7] at hA hval hsz
  obtain ⟨v0,v1,v2,d0,d1,d2,p0,p1,p2,rfl,rfl,rfl,h0,h1,h2⟩:=trodAll_three hA
  obtain ⟨rfl,rfl⟩:=trodVars_none hV
  simp only [List.append_nil] at hW' hsz
  have hlt:=hW'.lt
  have hwt:∀ (j:Nat) (t:TypeId) (d:DataW H),([26,3,3]:List TypeId)[j]?=some t→[d0,d1,d2][j]?=some d → ∀ n,n∈d.weights Tryz.prog t→n≤reachBytes:=by
    intro j t d ht hd n hn
    have:=List.all_eq_true.1 hsz n (DataW.weights_mem_each (ts:=[26,3,3]++Rows.allocatorReturnsSpec.plain.varTypes Tryz.prog) (by rw [List.getElem?_append_left (by have:=(List.getElem?_eq_some_iff.1 ht).1; exact this)]; exact ht) hd n hn)
    simpa using this
  obtain ⟨xs,rfl,hxs⟩:=okWide_struct Tryz.underlying26 (hval 0 26 v0 rfl rfl)
  obtain ⟨i1,rfl⟩:=okWide_int Tryz.underlying3 (hval 1 3 v1 rfl rfl)
  obtain ⟨i2,rfl⟩:=okWide_int Tryz.underlying3 (hval 2 3 v2 rfl rfl)
  obtain ⟨a,r0,hg⟩:=zS3.argA h0 (hwt 0 26 d0 rfl rfl) rfl
  obtain ⟨x1,r1,y1⟩:=zMU.arg1 (g:=eI) h1 (hwt 1 3 d1 rfl rfl) rfl
  obtain ⟨x2,r2,y2⟩:=zMU.arg1 (g:=eI) h2 (hwt 2 3 d2 rfl rfl) rfl
  have hk:∀ (W':World),Below W.heap.size W W' → ∀ (t:TypeId) (v:Value) (d:DataW H) (ps:List MemPlace),Tryz.prog.readableRec t=true→t<Tryz.prog.types.size→DataW.Trod enc Tryz.prog W 0 (fun _=>true) true t v d ps→(∀ x∈ps,x.block<W.heap.size)→DataW.Trod enc Tryz.prog W' 0 (fun b=>decide (b<W.heap.size)) true t v d ps :=
    fun W' hb t v d ps hr hs h hl=>Below.trod zSY hr hs h hb hl
  refine (zIh (zP5 hg x1 x2 y1) W noB _ (fun x h=>h.elim) (show VRt W noB [] _ [_,_,_] [] from ?_)).mono ?_
  · unfold VRt
    refine ⟨_,_,[],[],rfl,rfl,r0,?_⟩
    unfold VRt
    refine ⟨_,_,[],[],rfl,rfl,r1,?_⟩
    unfold VRt
    refine ⟨_,_,[],[],rfl,rfl,r2,?_⟩
    unfold VRt
    exact ⟨rfl,rfl⟩
  · rintro v W' ⟨fr,hv,_,_,kp⟩
    unfold VR at hv
    obtain ⟨rfl,_⟩:=hv
    have hb:Below W.heap.size W W':=⟨kp.os,kp.tape,kp.output,kp.size,fun k hk=>kp.block k hk id⟩
    refine ⟨_,_,_,[],_,[],hW',trodAll_mk1 (shut_bool Tryz.underlying4 true),trodAll_mk3 (hk W' hb _ _ _ _ (by kernel_rfl) (of_decide_eq_true (by kernel_rfl)) h0 (fun x hx=>hlt x (by simp [hx]))) (hk W' hb _ _ _ _ (by kernel_rfl) (of_decide_eq_true (by kernel_rfl)) h1 (fun x hx=>hlt x (by simp [hx]))) (hk W' hb _ _ _ _ (by kernel_rfl) (of_decide_eq_true (by kernel_rfl)) h2 (fun x hx=>hlt x (by simp [hx]))),rfl,hb.frame _,fun h=>by cases h⟩
theorem allocatorReturns_holds:Rows.AllocatorReturnsSaid :=
  OpenClaim.holds_of_wide 7 Tryz.f7 rfl rfl rfl rfl rfl rfl rfl ⟨rfl,rfl,rfl,rfl,rfl⟩ rfl rfl rfl rfl rfl (by kernel_rfl) Tryz.func7 (by kernel_rfl)
    (of_decide_eq_true (by kernel_rfl)) (by unfold Func.isWrapper; first | (rw [if_pos (by decide +kernel)]; kernel_rfl) | (rw [if_neg (by decide +kernel)]; exact ⟨rfl,rfl⟩))
    (fun os started H enc _=>zMQ os started H enc)
end Go.Proofs.YtplkliakhdkpcaaGreat
