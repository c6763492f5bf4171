/-
  Rules, functions and laws for the last text, part c.
-/
import Derived.Test.YtplkliakhdkpcaaGb
set_option linter.unusedVariables false
set_option linter.unusedSimpArgs false
namespace Go.Proofs.Ytplkliakhdkpcaa
open Go Go.RowKit Go.Wk Go.Am Go.Proofs
set_option maxHeartbeats 4000000
theorem zHR:zMm Try.prog 3 1 (.int .i64 0) 8:=zMm.of (by kernel_rfl) rfl (by decide) (by decide)
theorem zR9:zMm Try.prog 22 1 (.slice none 0 0) 24:=zMm.of (by kernel_rfl) rfl (by decide) (by decide)
theorem zSM:zMm Try.prog 46 10 (.agg #[.int .i64 0,.int .i64 0,.int .i64 0,.int .i64 0,.int .i64 0,.slice none 0 0,.slice none 0 0,.slice none 0 0,.slice none 0 0,.slice none 0 0]) 160:=zMm.of (by kernel_rfl) rfl (by decide) (by decide)
theorem zSk:zMm Try.prog 50 1 (.agg #[.slice none 0 0]) 24:=zMm.of (by kernel_rfl) rfl (by decide) (by decide)
theorem zUN:zMm Try.prog 65 4 (.agg #[.int .i64 0,.int .i64 0,.int .i64 0,.int .i64 0]) 32:=zMm.of (by kernel_rfl) rfl (by decide) (by decide)
theorem zAc {Q:List Int} {r:List Int} (h:zAu Q=some r):PFn Try.prog 24 [ls cI Q] (AV.osl 3 1 (List.map cI r)):=by
  refine zq Try.func24 rfl Try.ntmps24 Try.results24 rfl ?_
  unfold zAu at h
  refine zL h fun b1 h => ?_
  obtain rfl:=Option.some.inj h
  refine zI<|zC<|zA (a:=(.lit (.slice none 0 0))) (zD rfl)<|zG<|zI<|zI ?_
  refine zC<|zA (a:=(ls cI Q)) (zB rfl) ?_
  refine zL9 (full:=false) (rows:=List.map cI Q) Try.underlying22 rfl (fun b hb => ?_)
  refine zG ?_
  refine zNy b rfl (fun hbt => ?_) (fun hbt => ?_)
  · obtain rfl:Q=[]:=List.map_eq_nil_iff.1 (hb hbt)
    refine zI<|zC<|zA (a:=(.lit (.slice none 0 0))) (zD rfl)<|zG<|zd ?_
    exact zy (zI6 (zAl rfl rfl) zBC.nilo)
  · refine zS ?_
    refine zI<|zC<|zMV zHR Try.underlying22<|zA (a:=(ls cI Q)) (zB rfl)<|zHM (f:=cI) (k:=0) (l:=[]) (l':=Q) zHR (fun _=>rfl) Try.underlying22 rfl rfl rfl b1<|zA (a:=(.hd 1)) (zD rfl) ?_
    refine zG<|zd ?_
    exact zy (zZI (rows:=List.map cI ([]++Q)) rfl rfl)
theorem zFN {Q : List Int} {uB : Int → Option Bool} {g_a_f : FuncId} {cf_a_f : Func} {code_a_f : Code} {caps_a_f : List AV} (hcf_a_f : Try.prog.funcs[g_a_f]? = some cf_a_f) (hcb_a_f : cf_a_f.body = some code_a_f) (hcn_a_f : (cf_a_f.name == "runtime.NumGoroutine") = false) (hnr_a_f : caps_a_f.all nr = true) (hg_a_f : ∀ {x0 : Int} {y : Bool}, uB x0 = some y → PFn Try.prog g_a_f ((li x0) :: caps_a_f) (AV.lit (.bool y))) {r : Int} (h : zBY Q uB = some r) : PFn Try.prog 84 [(ls cI Q), (AV.clo g_a_f caps_a_f)] (li r) := by
 refine zq Try.func84 rfl Try.ntmps84 Try.results84 rfl ?_
 unfold zBY at h
 refine zI<|zC<|zA (zD rfl)<|zG ?_
 refine zAA (r:=r) (fun (_:Unit)=>mkE []) (fun _=>[]) (fun _=>zDO ) ?_ ?_
 ·
  refine zI<|zC<|zA (zB rfl)<|zA (ze Try.underlying22 rfl)<|zA (zB rfl)<|zG ?_
  refine zV<|z6 (σ:=Int) (fun i1=>mkE [(0,(ls cI Q)),(1,(AV.clo g_a_f caps_a_f)),(7,(li (Q.length:Int))),(8,(li i1))]) (fun i1=>[]) (fun n0 i1=>zAH Q uB n0 i1) 0 h (fun _=>rfl) (zBg (n:=19) (m:=0) [] (l:=[(0,(ls cI Q)),(1,(AV.clo g_a_f caps_a_f)),(7,(li (Q.length:Int))),(8,(li 0))]) ⟨⟨Sub.refl _,by kernel_rfl⟩,⟨zDz hnr_a_f,zD0 hnr_a_f⟩,⟨Sub.refl _,by kernel_rfl⟩,⟨Sub.refl _,by kernel_rfl⟩,trivial⟩ rfl rfl trivial) ?_
  clear h
  intro n0 i1 h
  replace h:zAW Q uB (zAH Q uB n0) i1=some r:=h
  unfold zAW at h
  refine zI<|zC<|zA (zi rfl rfl)<|zG<|zI ?_
  refine zY h rfl (fun b1 h => ?_) (fun b1 h => ?_)
  ·refine zS<|zI<|zV<|zI<|zC<|zA (zB rfl) ?_
   refine zA (zD rfl)<|zG<|zI<|zC<|zA (zB rfl)<|zA (zB rfl) ?_
   refine zA (zB rfl)<|zL h fun b2 h=>zA (zm Try.underlying22 Try.sizeOf3 (fun _=>rfl) rfl rfl b2)<|zA (zo (o:=0) Try.isAgg3 rfl rfl)<|zQ h fun x1 w1 h=>zAx (S:=[]) hcf_a_f hcb_a_f hcn_a_f (.clo (caps:=caps_a_f) rfl) rfl (zDw.c (zBI.nr rfl) (zDw.nrs hnr_a_f)) (hg_a_f w1) (.inl rfl) rfl ?_
   refine zG ?_
   refine zY h rfl (fun b3 h => ?_) (fun b3 h => ?_)
   ·refine zI<|zC<|zA (zB rfl)<|zA (zD rfl)<|zG<|zd ?_
    cases h
    exact zy (zAl rfl rfl)
   refine zS<|zC<|zL h fun b4 h=>zA (zg rfl rfl b4)<|zA (zB rfl)<|zG ?_
   exact ⟨(i1+1),zBg (n:=19) (m:=0) [] (l:=[(0,(ls cI Q)),(1,(AV.clo g_a_f caps_a_f)),(7,(li (Q.length:Int))),(8,(li (i1+1)))]) ⟨⟨Sub.refl _,by kernel_rfl⟩,⟨zDz hnr_a_f,zD0 hnr_a_f⟩,⟨Sub.refl _,by kernel_rfl⟩,⟨Sub.refl _,by kernel_rfl⟩,trivial⟩ rfl rfl trivial,h⟩
  refine zAC ?_
  exact ⟨(),zAZ [] rfl rfl (by kernel_rfl),h⟩
 clear h
 intro _ h
 unfold zDO at h
 refine zI<|zC<|zA (zD rfl)<|zG<|zd ?_
 cases h
 exact zy (zAl rfl rfl)
theorem zHU {Q : List Int} {uB : Int → Option Bool} {g_a_f : FuncId} {cf_a_f : Func} {code_a_f : Code} {caps_a_f : List AV} (hcf_a_f : Try.prog.funcs[g_a_f]? = some cf_a_f) (hcb_a_f : cf_a_f.body = some code_a_f) (hcn_a_f : (cf_a_f.name == "runtime.NumGoroutine") = false) (hnr_a_f : caps_a_f.all nr = true) (hg_a_f : ∀ {x0 : Int} {y : Bool}, uB x0 = some y → PFn Try.prog g_a_f ((li x0) :: caps_a_f) (AV.lit (.bool y))) {r : Bool} (h : zB6 Q uB = some r) : PFn Try.prog 49 [(ls cI Q), (AV.clo g_a_f caps_a_f)] (AV.lit (.bool r)) := by
 refine zq Try.func49 rfl Try.ntmps49 Try.results49 rfl ?_
 unfold zB6 at h
 refine zI<|zC<|zA (zD rfl)<|zG<|zI<|zC ?_
 refine zA (zB rfl)<|zA (zB rfl)<|zQ h fun x1 w1 h=>zAx (r':=(li x1)) (la:=[ls cI Q,AV.clo g_a_f caps_a_f]) (la':=[ls cI Q,AV.clo g_a_f caps_a_f]) (r:=(li x1)) (S:=[]) Try.func84 rfl (by kernel_rfl) (.fn 84) rfl ⟨zBI.nr rfl,zBI.clo (zDw.nrs hnr_a_f),trivial⟩ (zFN hcf_a_f hcb_a_f hcn_a_f hnr_a_f hg_a_f w1) (.inl rfl) rfl<|zA (zBp rfl rfl)<|zA (zD rfl) ?_
 refine zG<|zd ?_
 cases h
 exact zy (zAl rfl rfl)
theorem zKY {uA:Int} {r:Bool} (h:zDl uA=some r):PFn Try.prog 50 [li uA] (AV.lit (.bool r)):=by
 refine zq Try.func50 rfl Try.ntmps50 Try.results50 rfl ?_
 unfold zDl at h
 refine zI<|zC<|zA (zD rfl)<|zG<|zI<|zC ?_
 refine zA (zB rfl)<|zA (zi rfl rfl)<|zA (zB rfl)<|zZ rfl rfl (fun c1=>zv.step (zB rfl))<|zZ rfl rfl (fun c2=>zv.step (zBp (zAQ rfl c2) rfl))<|zA (zh rfl rfl) ?_
 refine zA (zD rfl)<|zG<|zd ?_
 cases h
 exact zy (zAl rfl rfl)
theorem zIE {C:zH} {r:Bool} (h:zDg C=some r):PFn Try.prog 25 [(AV.agg (zF C))] (AV.lit (.bool r)):=by
 refine zq Try.func25 rfl Try.ntmps25 Try.results25 rfl ?_
 unfold zDg at h
 refine zI<|zC<|zX (H':=[.box 29 (zF C)]) (z8 (t:=29) rfl)<|zA (zD rfl)<|zG<|zI ?_
 refine zI<|zC<|zA (zM Try.underlying29 rfl rfl Try.sizeOf22 rfl)<|zA (zN Try.isAgg22 rfl rfl rfl rfl)<|zA (ze Try.underlying22 rfl)<|zA (zi rfl rfl) ?_
 refine zA (zB rfl)<|zZ rfl rfl (fun c1=>zv.step (zM Try.underlying29 rfl rfl Try.sizeOf22 rfl))<|zZ rfl rfl (fun c2=>zv.step (zN Try.isAgg22 (zAQ rfl c2) rfl rfl rfl))<|zZ rfl rfl (fun c3=>zv.step (ze Try.underlying22 (zAQ rfl c3)))<|zZ rfl rfl (fun c4=>zv.step (zCf (zAQ rfl c4) rfl))<|zA (zh rfl rfl) ?_
 refine zA (zB rfl)<|zZ rfl rfl (fun c5=>zv.step (zM Try.underlying29 rfl rfl Try.sizeOf3 rfl))<|zZ rfl rfl (fun c6=>zv.step (zN Try.isAgg3 (zAQ rfl c6) rfl rfl rfl))<|zZ rfl rfl (fun c7=>zv.step (zCf (zAQ rfl c7) rfl))<|zA (zh rfl rfl)<|zA (zB rfl) ?_
 refine zZ rfl rfl (fun c8=>zv.step (zM Try.underlying29 rfl rfl Try.sizeOf3 rfl))<|zZ rfl rfl (fun c9=>zv.step (zN Try.isAgg3 (zAQ rfl c9) rfl rfl rfl))<|zZ rfl rfl (fun c10=>zv.step (zi (zAQ rfl c10) rfl))<|zA (zh rfl rfl)<|zA (zB rfl)<|zZ rfl rfl (fun c11=>zv.step (zM Try.underlying29 rfl rfl Try.sizeOf3 rfl)) ?_
 refine zZ rfl rfl (fun c12=>zv.step (zN Try.isAgg3 (zAQ rfl c12) rfl rfl rfl))<|zZ rfl rfl (fun c13=>zv.step (zM Try.underlying29 rfl rfl Try.sizeOf3 rfl))<|zZ rfl rfl (fun c14=>zv.step (zN Try.isAgg3 (zAQ rfl c14) rfl rfl rfl))<|zZ rfl rfl (fun c15=>zv.step (zCf (zAQ rfl c15) (zAQ rfl c15)))<|zA (zh rfl rfl)<|zA (zB rfl) ?_
 refine zZ rfl rfl (fun c16=>zv.step (zM Try.underlying29 rfl rfl Try.sizeOf26 rfl))<|zZ rfl rfl (fun c17=>zv.step (zN Try.isAgg26 (zAQ rfl c17) rfl rfl rfl))<|zZ rfl rfl (fun c18=>zv.step (ze Try.underlying26 (zAQ rfl c18)))<|zZ rfl rfl (fun c19=>zv.step (zi (zAQ rfl c19) rfl))<|zA (zh rfl rfl)<|zA (zB rfl) ?_
 refine zZ rfl rfl (fun c20=>zv.step (zM Try.underlying29 rfl rfl Try.sizeOf26 rfl))<|zZ rfl rfl (fun c21=>zv.step (zN Try.isAgg26 (zAQ rfl c21) rfl rfl rfl))<|zZ rfl rfl (fun c22=>zv.step (ze Try.underlying26 (zAQ rfl c22)))<|zZ rfl rfl (fun c23=>zv.step (zCf (zAQ rfl c23) rfl))<|zA (zh rfl rfl)<|zG ?_
 refine zY h rfl (fun b1 h => ?_) (fun b1 h => ?_)
 ·refine zI<|zC<|zA (zD rfl)<|zG<|zd ?_
  cases h
  exact zy (zAl rfl rfl)
 refine zS<|zI<|zC<|zA (zM Try.underlying29 rfl rfl Try.sizeOf22 rfl)<|zA (zN Try.isAgg22 rfl rfl rfl rfl)<|zQ h fun x1 w1 h => ?_
 refine zAx (r':=(AV.lit (.bool x1))) (la:=[ls cI C.nodes,(AV.clo 50 [])]) (la':=[ls cI C.nodes,(AV.clo 50 [])]) (r:=(AV.lit (.bool x1))) (S:=[]) Try.func49 rfl (by kernel_rfl) (.fn 49) rfl ⟨zBI.nr rfl,zBI.clo trivial,trivial⟩ (zHU Try.func50 rfl (by kernel_rfl) rfl (fun hy=>zKY  hy) w1) (.inl rfl) rfl<|zA (zBf (t:=x1) rfl)<|zA (zD rfl)<|zG<|zd ?_
 cases h
 exact zy (zAl rfl rfl)
theorem zK2 {D:zW} {r:Bool} (h:zGh D=some r):PFn Try.prog 51 [(AV.agg ([li D.node]++([li D.kind]++([li D.start]++([li D.count]++([li D.min]++([AV.any,AV.any,AV.any,AV.any,AV.any]++[])))))))] (AV.lit (.bool r)):=by
 refine zq Try.func51 rfl Try.ntmps51 Try.results51 rfl ?_
 unfold zGh at h
 refine zI<|zC<|zX (H':=[.box 46 ([li D.node,li D.kind,li D.start,li D.count,li D.min]++([AV.any,AV.any,AV.any,AV.any,AV.any]++[]))]) (z8 (t:=46) rfl)<|zA (zD rfl)<|zG<|zI ?_
 refine zC<|zA (zM Try.underlying46 rfl rfl Try.sizeOf3 rfl)<|zA (zN Try.isAgg3 rfl rfl rfl rfl)<|zA (zBp rfl rfl)<|zA (zB rfl)<|z9 rfl rfl (fun c1=>zv.step (zM Try.underlying46 rfl rfl Try.sizeOf3 rfl)) ?_
 refine z9 rfl rfl (fun c2=>zv.step (zN Try.isAgg3 (zAQ rfl c2) rfl rfl rfl))<|z9 rfl rfl (fun c3=>zv.step (zi (zAQ rfl c3) rfl))<|zA (zAL (j := .lit undef) rfl rfl)<|zA (zB rfl)<|z9 rfl rfl (fun c4=>zv.step (zM Try.underlying46 rfl rfl Try.sizeOf3 rfl))<|z9 rfl rfl (fun c5=>zv.step (zN Try.isAgg3 (zAQ rfl c5) rfl rfl rfl)) ?_
 refine z9 rfl rfl (fun c6=>zv.step (zBe (zAQ rfl c6) rfl))<|z9 rfl rfl (fun c7=>zv.step (zB (zAQ rfl c7)))<|zKQ (g:=15) (s':=(decide (0≤D.node))&&(decide (D.node<4))) (s:=decide (D.kind=0)) rfl rfl (fun c8=>zv.step (zM Try.underlying46 rfl rfl Try.sizeOf3 rfl))<|zKQ (g:=15) (s':=(decide (0≤D.node))&&(decide (D.node<4))) (s:=decide (D.kind=0)) rfl rfl (fun c9=>zv.step (zN Try.isAgg3 (zAQ rfl c9) rfl rfl rfl))<|zKQ (g:=15) (s':=(decide (0≤D.node))&&(decide (D.node<4))) (s:=decide (D.kind=0)) rfl rfl (fun c10=>zv.step (zBe (zAQ rfl c10) rfl))<|z9 rfl rfl (fun c11=>zv.step (zh (zAQ rfl c11) (zRu (c:=(decide (0≤D.node))&&(decide (D.node<4))) (d := !(decide (D.kind=0))) (a:=(AV.lit (.bool (decide (D.kind=1))))) (j := .lit undef) rfl c11))) ?_
 refine zA (zAL (j := .lit undef) rfl rfl)<|zA (zB rfl)<|z9 rfl rfl (fun c12=>zv.step (zM Try.underlying46 rfl rfl Try.sizeOf3 rfl))<|z9 rfl rfl (fun c13=>zv.step (zN Try.isAgg3 (zAQ rfl c13) rfl rfl rfl))<|z9 rfl rfl (fun c14=>zv.step (zBp (zAQ rfl c14) rfl))<|zA (zAL (j := .lit undef) rfl rfl) ?_
 refine zA (zB rfl)<|z9 rfl rfl (fun c15=>zv.step (zM Try.underlying46 rfl rfl Try.sizeOf3 rfl))<|z9 rfl rfl (fun c16=>zv.step (zN Try.isAgg3 (zAQ rfl c16) rfl rfl rfl))<|z9 rfl rfl (fun c17=>zv.step (zi (zAQ rfl c17) rfl))<|zA (zAL (j := .lit undef) rfl rfl)<|zA (zB rfl) ?_
 refine z9 rfl rfl (fun c18=>zv.step (zM Try.underlying46 rfl rfl Try.sizeOf3 rfl))<|z9 rfl rfl (fun c19=>zv.step (zN Try.isAgg3 (zAQ rfl c19) rfl rfl rfl))<|z9 rfl rfl (fun c20=>zv.step (zBp (zAQ rfl c20) rfl))<|zA (zAL (j := .lit undef) rfl rfl)<|zA (zB rfl)<|z9 rfl rfl (fun c21=>zv.step (zM Try.underlying46 rfl rfl Try.sizeOf3 rfl)) ?_
 refine z9 rfl rfl (fun c22=>zv.step (zN Try.isAgg3 (zAQ rfl c22) rfl rfl rfl))<|z9 rfl rfl (fun c23=>zv.step (zM Try.underlying46 rfl rfl Try.sizeOf3 rfl))<|z9 rfl rfl (fun c24=>zv.step (zN Try.isAgg3 (zAQ rfl c24) rfl rfl rfl))<|zL h fun b1 h=>z9 rfl rfl (fun c25=>zv.step (zDv rfl (zAQ rfl c25) (zKB b1 c25)))<|z9 rfl rfl (fun c26=>zv.step (zIQ (zAQ rfl c26) (zAQ rfl c26))) ?_
 refine zA (zAL (j := .lit undef) rfl rfl)<|zA (zB rfl)<|z9 rfl rfl (fun c27=>zv.step (zM Try.underlying46 rfl rfl Try.sizeOf3 rfl))<|z9 rfl rfl (fun c28=>zv.step (zN Try.isAgg3 (zAQ rfl c28) rfl rfl rfl))<|z9 rfl rfl (fun c29=>zv.step (zBp (zAQ rfl c29) rfl))<|zA (zAL (j := .lit undef) rfl rfl) ?_
 refine zA (zB rfl)<|z9 rfl rfl (fun c30=>zv.step (zM Try.underlying46 rfl rfl Try.sizeOf3 rfl))<|z9 rfl rfl (fun c31=>zv.step (zN Try.isAgg3 (zAQ rfl c31) rfl rfl rfl))<|z9 rfl rfl (fun c32=>zv.step (zM Try.underlying46 rfl rfl Try.sizeOf3 rfl))<|z9 rfl rfl (fun c33=>zv.step (zN Try.isAgg3 (zAQ rfl c33) rfl rfl rfl))<|z9 rfl rfl (fun c34=>zv.step (zIQ (zAQ rfl c34) (zAQ rfl c34))) ?_
 refine zA (zAL (j := .lit undef) rfl rfl)<|zA (zD rfl)<|zG<|zd ?_
 cases h
 exact zy (zAl rfl rfl)
theorem zGV {L:Int} {r:Bool} (h:zD9 L=some r):PFn Try.prog 95 [li L] (AV.lit (.bool r)):=by
 refine zq Try.func95 rfl Try.ntmps95 Try.results95 rfl ?_
 unfold zD9 at h
 refine zI<|zC<|zA (zD rfl)<|zG<|zI<|zC ?_
 refine zA (zB rfl)<|zA (zB rfl)<|zA (z7 rfl rfl)<|zA (zD rfl)<|zG<|zd ?_
 cases h
 exact zy (zAl rfl rfl)
theorem zNq {L:Int} {uU:Int} {r:Bool} (h:zHz L uU=some r):PFn Try.prog 91 [li L,li uU] (AV.lit (.bool r)):=by
 refine zq Try.func91 rfl Try.ntmps91 Try.results91 rfl ?_
 unfold zHz at h
 refine zI<|zC<|zA (zD rfl)<|zG<|zI<|zC ?_
 refine zA (zB rfl)<|zQ h fun x1 w1 h=>zb Try.func95 rfl (by kernel_rfl) (.fn 95) rfl rfl (zGV w1) rfl<|zA (zB rfl)<|z9 rfl rfl (fun c1=>zv.step (zB rfl))<|zQ h fun x2 w2 h => ?_
 refine zGc (g:=7) (s:=x1) (r':=(AV.lit (.bool x2))) rfl rfl (fun c2=>⟨95,_,_,[],[li uU],[li uU],(AV.lit (.bool x2)),[],Try.func95,rfl,by kernel_rfl,.fn 95,(zAe (zAQ rfl c2) rfl),⟨zBI.nr rfl,trivial⟩,zGV (zIL c2 w2),.inl rfl,rfl⟩)<|z9 rfl rfl (fun c3=>zv.step (zBf (t:=x2) (zAQ rfl c3)))<|zA (zAL (j := .lit undef) rfl rfl)<|zA (zB rfl)<|zZ rfl rfl (fun c4=>zv.step (zB rfl))<|zZ rfl rfl (fun c5=>zv.step (zB rfl)) ?_
 refine zZ rfl rfl (fun c6=>zv.step (zi (zAQ rfl c6) (zAQ rfl c6)))<|zA (zh rfl rfl)<|zA (zD rfl)<|zG<|zd ?_
 cases h
 exact zy (zAl rfl rfl)
theorem zIy {L:Int} {r:Bool} (h:zE8 L=some r):PFn Try.prog 92 [li L] (AV.lit (.bool r)):=by
 refine zq Try.func92 rfl Try.ntmps92 Try.results92 rfl ?_
 unfold zE8 at h
 refine zI<|zC<|zA (zD rfl)<|zG<|zI<|zC ?_
 refine zA (zB rfl)<|zA (zB rfl)<|zA (z7 rfl rfl)<|zA (zD rfl)<|zG<|zd ?_
 cases h
 exact zy (zAl rfl rfl)
theorem zAh {L:List Int} {uE:Int} {r:Int×Bool} (h:zAN L uE=some r):PFn Try.prog 63 [ls cI L,li uE] (AV.tup [li r.1,(AV.lit (.bool r.2))]):=by
 refine zq Try.func63 rfl Try.ntmps63 Try.results63 rfl ?_
 unfold zAN at h
 refine zI<|zC<|zA (zD rfl)<|zA (zD rfl)<|zG<|zI ?_
 refine zC<|zA (zB rfl)<|zA (ze Try.underlying22 rfl)<|zA (zD rfl)<|zG<|zI ?_
 refine zC<|zA (zB rfl)<|zA (zD rfl)<|zA (zD rfl)<|zG ?_
 refine zAA (r:=r) (fun (i1:Int)=>mkE [(0,(ls cI L)),(1,(li uE)),(6,(li (L.length:Int))),(7,(li i1))]) (fun i1=>[]) (fun i1=>zBG L uE i1) ?_ ?_
 ·
  refine zV<|z6 (σ:=Int×Int) (fun (i2,i3)=>mkE [(0,(ls cI L)),(1,(li uE)),(6,(li (L.length:Int))),(7,(li i2)),(8,(li i3))]) (fun (i2,i3)=>[]) (fun n0 (i2,i3)=>zBE L uE n0 i2 i3) (0,(L.length:Int)) h (fun _=>rfl) (zAZ [] rfl rfl (by kernel_rfl)) ?_
  clear h
  rintro n0 ⟨i2,i3⟩ h
  replace h:zAi L uE (zBE L uE n0) i2 i3=some r:=h
  unfold zAi at h
  refine zI<|zI<|zC<|zA (zB rfl)<|zA (zB rfl)<|zA (zi rfl rfl) ?_
  refine zG ?_
  refine zY h rfl (fun b3 h => ?_) (fun b3 h => ?_)
  ·refine zS<|zV<|zI<|zC<|zA (zB rfl)<|zA (zB rfl) ?_
   refine zL h fun b4 h=>zA (zg rfl rfl b4)<|zL h fun b5 h=>zA (zFr (k' := .u64) (a:=i2+i3) Try.underlying3 Try.underlying47 rfl b5)<|zA (zVb (k := .u64) (a:=i2+i3) (b:=1) rfl rfl (by decide))<|zL h fun b6 h => ?_
   refine zA (zFr (k' := .i64) (a:=(i2+i3).fdiv (2 ^ (1:Int).toNat)) Try.underlying47 Try.underlying3 rfl b6)<|zA (zD rfl)<|zG<|zI<|zC<|zA (zB rfl) ?_
   refine zA (zB rfl)<|zL h fun b7 h=>zA (zm Try.underlying22 Try.sizeOf3 (fun _=>rfl) rfl rfl b7)<|zA (zo (o:=0) Try.isAgg3 rfl rfl)<|zA (zB rfl)<|zQ h fun x3 w3 h => ?_
   refine zb Try.func91 rfl (by kernel_rfl) (.fn 91) rfl rfl (zNq w3) rfl<|zG ?_
   refine zY h rfl (fun b8 h => ?_) (fun b8 h => ?_)
   ·refine zC<|zA (zB rfl)<|zL h fun b9 h=>zA (zg rfl rfl b9)<|zA (zD rfl)<|zG ?_
    exact ⟨((((i2+i3).fdiv (2 ^ (1:Int).toNat))+1),i3),zAZ [] rfl rfl (by kernel_rfl),h⟩
   refine zC<|zA (zB rfl)<|zA (zD rfl)<|zG ?_
   exact ⟨(i2,((i2+i3).fdiv (2 ^ (1:Int).toNat))),zAZ [] rfl rfl (by kernel_rfl),h⟩
  refine zAC ?_
  exact ⟨i2,zAZ [] rfl rfl (by kernel_rfl),h⟩
 clear h
 intro i1 h
 unfold zBG at h
 refine zI<|zC<|zA (zB rfl)<|zA (zB rfl)<|zA (zB rfl)<|zA (zi rfl rfl) ?_
 refine zA (zB rfl)<|z9 rfl rfl (fun c1=>zv.step (zB rfl))<|z9 rfl rfl (fun c2=>zv.step (zB rfl))<|zL h fun b1 h=>z9 rfl rfl (fun c3=>zv.step (zm Try.underlying22 Try.sizeOf3 (fun _=>rfl) (zAQ rfl c3) (zAQ rfl c3) (zKB b1 c3)))<|z9 rfl rfl (fun c4=>zv.step (zo (o:=0) Try.isAgg3 (zAQ rfl c4) rfl)) ?_
 refine z9 rfl rfl (fun c5=>zv.step (zB rfl))<|z9 rfl rfl (fun c6=>zv.step (zBe (zAQ rfl c6) (zAQ rfl c6)))<|z9 rfl rfl (fun c7=>zv.step (zB (zAQ rfl c7)))<|zKQ (g:=42) (s':=decide (i1<(L.length:Int))) (s:=decide ((at_ L i1)=uE)) rfl rfl (fun c8=>zv.step (zB rfl))<|zKQ (g:=42) (s':=decide (i1<(L.length:Int))) (s:=decide ((at_ L i1)=uE)) rfl rfl (fun c9=>zv.step (zB rfl))<|zL h fun b2 h => ?_
 refine zKQ (g:=42) (s':=decide (i1<(L.length:Int))) (s:=decide ((at_ L i1)=uE)) rfl rfl (fun c10=>zv.step (zm Try.underlying22 Try.sizeOf3 (fun _=>rfl) (zAQ rfl c10) (zAQ rfl c10) (zKB b2 c10)))<|zKQ (g:=42) (s':=decide (i1<(L.length:Int))) (s:=decide ((at_ L i1)=uE)) rfl rfl (fun c11=>zv.step (zo (o:=0) Try.isAgg3 (zAQ rfl c11) rfl))<|zQ h fun x1 w1 h=>zRf (g:=42) (s':=decide (i1<(L.length:Int))) (s:=decide ((at_ L i1)=uE)) (r':=(AV.lit (.bool x1))) rfl rfl (fun c12=>⟨92,_,_,[],[(li (at_ L i1))],[(li (at_ L i1))],(AV.lit (.bool x1)),[],Try.func92,rfl,by kernel_rfl,.fn 92,(zAe (zAQ rfl c12) rfl),⟨zBI.nr rfl,trivial⟩,zIy (zIL c12 w1),.inl rfl,rfl⟩)<|zKQ (g:=42) (s':=decide (i1<(L.length:Int))) (s:=decide ((at_ L i1)=uE)) rfl rfl (fun c13=>zv.step (zB (zAQ rfl c13)))<|zPe (g:=48) (s':=(decide (i1<(L.length:Int)) && !(decide ((at_ L i1)=uE)))) (s:=x1) rfl rfl (fun c14=>zv.step (zB rfl)) ?_
 refine zQ h fun x2 w2 h=>zN1 (g:=48) (s':=(decide (i1<(L.length:Int)) && !(decide ((at_ L i1)=uE)))) (s:=x1) (r':=(AV.lit (.bool x2))) rfl rfl (fun c15=>⟨92,_,_,[],[li uE],[li uE],(AV.lit (.bool x2)),[],Try.func92,rfl,by kernel_rfl,.fn 92,(zAe (zAQ rfl c15) rfl),⟨zBI.nr rfl,trivial⟩,zIy (zIL c15 w2),.inl rfl,rfl⟩)<|zKQ (g:=42) (s':=decide (i1<(L.length:Int))) (s:=decide ((at_ L i1)=uE)) rfl rfl (fun c16=>zv.step (zAL (j := .lit undef) (zAQ rfl c16) (zRu (c:=(decide (i1<(L.length:Int)) && !(decide ((at_ L i1)=uE)))) (d:=x1) (a:=(AV.lit (.bool x2))) (j := .lit undef) rfl c16)))<|z9 rfl rfl (fun c17=>zv.step (zh (zAQ rfl c17) (zRu (c:=decide (i1<(L.length:Int))) (d := !(decide ((at_ L i1)=uE))) (a:=(AV.lit (.bool (x1&&x2)))) (j := .lit undef) rfl c17)))<|zA (zAL (j := .lit undef) rfl rfl)<|zA (zD rfl) ?_
 refine zA (zD rfl)<|zG<|zd ?_
 cases h
 exact zCF (zAl rfl rfl) (zAl rfl rfl) rfl
theorem zEk {D:zW} {X:Int} {E:Int} {r:Bool} (h:zBu D X E=some r):PFn Try.prog 62 [(AV.agg ([li D.node]++([li D.kind]++([li D.start]++([li D.count]++([li D.min]++([AV.any,AV.any,AV.any,AV.any,AV.any]++[]))))))),li X,li E] (AV.lit (.bool r)):=by
 refine zq Try.func62 rfl Try.ntmps62 Try.results62 rfl ?_
 unfold zBu at h
 refine zI<|zC<|zX (H':=[.box 46 ([li D.node,li D.kind,li D.start,li D.count,li D.min]++([AV.any,AV.any,AV.any,AV.any,AV.any]++[]))]) (z8 (t:=46) rfl)<|zA (zD rfl)<|zG<|zI ?_
 refine zC<|zA (zB rfl)<|zL h fun b1 h=>zL h fun b2 h=>zA (zGW (a:=1) (b:=E) rfl rfl b1 b2)<|zA (zD rfl) ?_
 refine zG<|zI<|zC<|zA (zB rfl)<|zA (zM Try.underlying46 rfl rfl Try.sizeOf3 rfl)<|zA (zN Try.isAgg3 rfl rfl rfl rfl) ?_
 refine zA (zBp rfl rfl)<|zA (zB rfl)<|z9 rfl rfl (fun c1=>zv.step (zB rfl))<|z9 rfl rfl (fun c2=>zv.step (zB rfl))<|zL h fun b3 h=>z9 rfl rfl (fun c3=>zv.step (zGq (k := .i64) (a:=X) (b:=(1:Int)*2 ^ E.toNat) (zAQ rfl c3) (zAQ rfl c3) (zKB b3 c3))) ?_
 refine z9 rfl rfl (fun c4=>zv.step (zBe (zAQ rfl c4) rfl))<|zA (zAL (j := .lit undef) rfl rfl)<|zA (zB rfl)<|z9 rfl rfl (fun c5=>zv.step (zB rfl))<|z9 rfl rfl (fun c6=>zv.step (zM Try.underlying46 rfl rfl Try.sizeOf3 rfl))<|z9 rfl rfl (fun c7=>zv.step (zN Try.isAgg3 (zAQ rfl c7) rfl rfl rfl)) ?_
 refine z9 rfl rfl (fun c8=>zv.step (zIQ (zAQ rfl c8) (zAQ rfl c8)))<|zA (zAL (j := .lit undef) rfl rfl)<|zA (zB rfl)<|z9 rfl rfl (fun c9=>zv.step (zB rfl))<|z9 rfl rfl (fun c10=>zv.step (zM Try.underlying46 rfl rfl Try.sizeOf3 rfl))<|z9 rfl rfl (fun c11=>zv.step (zN Try.isAgg3 (zAQ rfl c11) rfl rfl rfl)) ?_
 refine z9 rfl rfl (fun c12=>zv.step (zM Try.underlying46 rfl rfl Try.sizeOf3 rfl))<|z9 rfl rfl (fun c13=>zv.step (zN Try.isAgg3 (zAQ rfl c13) rfl rfl rfl))<|zL h fun b4 h=>z9 rfl rfl (fun c14=>zv.step (zg (zAQ rfl c14) (zAQ rfl c14) (zKB b4 c14)))<|z9 rfl rfl (fun c15=>zv.step (zB rfl))<|zL h fun b5 h => ?_
 refine z9 rfl rfl (fun c16=>zv.step (zDv (zAQ rfl c16) (zAQ rfl c16) (zKB b5 c16)))<|z9 rfl rfl (fun c17=>zv.step (zIQ (zAQ rfl c17) (zAQ rfl c17)))<|zA (zAL (j := .lit undef) rfl rfl)<|zA (zD rfl)<|zG<|zd ?_
 cases h
 exact zy (zAl rfl rfl)
theorem zNM {A:zW} {B:Int} {G:Int} {r:zW} (h:zIi A B G=some r):AFn Try.prog 52 [AV.ptr 0 0,li B,li G] [.box 46 ([li A.node]++([li A.kind]++([li A.start]++([li A.count]++([li A.min]++((cM 5 3 (5:Int) A.free)++[]))))))] (.tup []) [.box 46 ([li r.node]++([li r.kind]++([li r.start]++([li r.count]++([li r.min]++((cM 5 3 (5:Int) r.free)++[]))))))]:=by
 refine zGe Try.func52 rfl Try.ntmps52 Try.results52 rfl ?_
 unfold zIi at h
 refine zAA (r:=r) (fun ((i1,i2,l1):Int×Int×(List (List Int)))=>mkE [(0,(AV.ptr 0 0)),(1,(li i1)),(2,(li i2))]) (fun (i1,i2,l1)=>[.box 46 ([li A.node,li A.kind,li A.start,li A.count,li A.min]++((cM 5 3 (5:Int) l1)++[]))]) (fun (i1,i2,l1)=>zGl A i1 i2 l1) ?_ ?_
 ·
  refine zV<|z6 (σ:=Int×Int×(List (List Int))) (fun (i3,i4,l2)=>mkE [(0,(AV.ptr 0 0)),(1,(li i3)),(2,(li i4))]) (fun (i3,i4,l2)=>[.box 46 ([li A.node,li A.kind,li A.start,li A.count,li A.min]++((cM 5 3 (5:Int) l2)++[]))]) (fun n0 (i3,i4,l2)=>zHt A n0 i3 i4 l2) (B,G,A.free) h (fun _=>rfl) (zAZ [0] rfl rfl (by kernel_rfl)) ?_
  clear h
  rintro n0 ⟨i3,i4,l2⟩ h
  replace h:zFa A (zHt A n0) i3 i4 l2=some r:=h
  unfold zFa at h
  refine zI<|zI<|zC<|zA (zB rfl)<|zA (zi rfl rfl)<|zG ?_
  refine zY h rfl (fun b4 h => ?_) (fun b4 h => ?_)
  ·refine zS<|zV<|zI<|zC<|zA (zB rfl)<|zA (zB rfl) ?_
   refine zL h fun b5 h=>zL h fun b6 h=>zA (zGW (a:=1) (b:=i4) rfl rfl b5 b6)<|zA (zRk (k := .i64) (a:=i3) (b:=(1:Int)*2 ^ i4.toNat) rfl rfl)<|zA (zD rfl)<|zG ?_
   refine zI<|zC<|zA (zB rfl)<|zA (zB rfl)<|zA (zAd rfl)<|zA (zM Try.underlying46 rfl rfl Try.sizeOf44 rfl) ?_
   refine zL h fun b7 h=>zA (zAP (m:=5) (s:=1) (i:=i4) (k:=0) (o:=5) Try.underlying44 Try.sizeOf22 rfl rfl b7)<|zL h fun b8 h=>zAJ (zIr (k:=0) (cs:=([li A.node,li A.kind,li A.start,li A.count,li A.min]++((cM 5 3 (5:Int) l2)++[]))) (hd:=([li A.node]++[li A.kind]++[li A.start]++[li A.count]++[li A.min]++[])) (tl:=([])) (N:=5) (T:=3) (K:=5) (l:=l2) (i:=i4) rfl rfl b7 b8)<|zA (zDc (k:=0) (o:=(5+i4.toNat*1)) (cs:=([li A.node,li A.kind,li A.start,li A.count,li A.min]++((List.set (cM 5 3 (5:Int) l2) i4.toNat (AV.hd 1))++[]))) (hd:=([li A.node]++[li A.kind]++[li A.start]++[li A.count]++[li A.min]++[])) (tl:=([])) (s:=(cM 5 3 (5:Int) l2)) (i:=i4) (j:=1) Try.isAgg22 rfl rfl rfl (congrArg (fun q=>5+q) (Nat.mul_one _)) (zGi b7))<|zA (zB rfl) ?_
   refine zQ h fun x2 w2 h=>zAx (r':=(AV.tup [li x2.1,(AV.lit (.bool x2.2))])) (la:=[AV.hd 1,(li (zMk .xor .i64 i3 ((1:Int)*2 ^ i4.toNat)))]) (la':=[(ls cI (l2.getD i4.toNat [])),(li (zMk .xor .i64 i3 ((1:Int)*2 ^ i4.toNat)))]) (r:=(AV.tup [li x2.1,(AV.lit (.bool x2.2))])) (S:=[1]) Try.func63 rfl (by kernel_rfl) (.fn 63) rfl ⟨zGz (fun _=>rfl) rfl rfl,zBI.nr rfl,trivial⟩ (zAh w2) (.inr rfl) rfl<|zA (zB rfl)<|zA (zU rfl rfl)<|zA (zU rfl rfl)<|zA (zD rfl) ?_
   refine zA (zD rfl)<|zG<|zI<|zI<|zC<|zA (zB rfl) ?_
   refine zA (zBf (t:=x2.2) rfl)<|zA (zB rfl)<|zZ rfl rfl (fun c1=>zv.step (zB rfl))<|zZ rfl rfl (fun c2=>zv.step (zAd (zAQ rfl c2)))<|zAJ (zIV (j:=1) (l':=l2.getD i4.toNat []) (k:=0) (cs:=([li A.node,li A.kind,li A.start,li A.count,li A.min]++((List.set (cM 5 3 (5:Int) l2) i4.toNat (AV.hd 1))++[]))) (hd:=([li A.node]++[li A.kind]++[li A.start]++[li A.count]++[li A.min]++[])) (tl:=([])) (N:=5) (T:=3) (K:=5) (l:=l2) (i:=i4) rfl rfl b7 b8 rfl rfl)<|zZ rfl rfl (fun c3=>zv.step (zPC (k:=0) (o:=0) (m:=10) (la:=([li A.node,li A.kind,li A.start,li A.count,li A.min]++([AV.any,AV.any,AV.any,AV.any,AV.any]++[]))) Try.isAgg46 Try.sizeOf46 (zAQ rfl c3) rfl rfl rfl)) ?_
   refine zZ rfl rfl (fun c4=>zv.step (zB rfl))<|zZ rfl rfl (fun c5=>zv.step (zB rfl))<|zZ rfl rfl (fun c6=>zv.step (zPa (a:=i3) (b:=zMk .xor .i64 i3 ((1:Int)*2 ^ i4.toNat)) (zAQ rfl c6) (zAQ rfl c6)))<|zZ rfl rfl (fun c7=>zv.step (zB rfl))<|zL h fun b9 h=>zZ rfl rfl (fun c8=>zv.step (zg (zAQ rfl c8) rfl (zKB b9 c8))) ?_
   refine zQ h fun x3 w3 h=>zDa (g:=30) (s := !x2.2) (r':=(AV.lit (.bool x3))) rfl rfl (fun c9=>⟨62,_,_,[],[(AV.agg ([li A.node,li A.kind,li A.start,li A.count,li A.min]++([AV.any,AV.any,AV.any,AV.any,AV.any]++[]))),(li (min i3 (zMk .xor .i64 i3 ((1:Int)*2 ^ i4.toNat)))),(li (i4+1))],[(AV.agg ([(li ((⟨A.node,A.kind,A.start,A.count,A.min,zDY 5 [] l2 i4.toNat (l2.getD i4.toNat [])⟩:zW).node)),(li ((⟨A.node,A.kind,A.start,A.count,A.min,zDY 5 [] l2 i4.toNat (l2.getD i4.toNat [])⟩:zW).kind)),(li ((⟨A.node,A.kind,A.start,A.count,A.min,zDY 5 [] l2 i4.toNat (l2.getD i4.toNat [])⟩:zW).start)),(li ((⟨A.node,A.kind,A.start,A.count,A.min,zDY 5 [] l2 i4.toNat (l2.getD i4.toNat [])⟩:zW).count)),(li ((⟨A.node,A.kind,A.start,A.count,A.min,zDY 5 [] l2 i4.toNat (l2.getD i4.toNat [])⟩:zW).min))]++([AV.any,AV.any,AV.any,AV.any,AV.any]++[]))),(li (min i3 (zMk .xor .i64 i3 ((1:Int)*2 ^ i4.toNat)))),(li (i4+1))],(AV.lit (.bool x3)),[],Try.func62,rfl,by kernel_rfl,.fn 62,(zAe (zAQ rfl c9) (zAe (zAQ rfl c9) (zAe (zAQ rfl c9) rfl))),⟨zBI.nr rfl,zBI.nr rfl,zBI.nr rfl,trivial⟩,zEk (zIL c9 w3),.inl rfl,rfl⟩)<|zZ rfl rfl (fun c10=>zv.step (zBf (t:=x3) (zAQ rfl c10)))<|zA (zh rfl rfl)<|zG ?_
   refine zY h rfl (fun b10 h => ?_) (fun b10 h => ?_)
   ·refine zAC ?_
    exact ⟨(i3,i4,(zDY 5 [] l2 i4.toNat (l2.getD i4.toNat []))),zAZ [0] rfl rfl (by kernel_rfl),h⟩
   refine zS<|zI<|zA5 (zIr (k:=0) (cs:=([li A.node,li A.kind,li A.start,li A.count,li A.min]++((cM 5 3 (5:Int) (zDY 5 [] l2 i4.toNat (l2.getD i4.toNat [])))++[]))) (hd:=([li A.node]++[li A.kind]++[li A.start]++[li A.count]++[li A.min]++[])) (tl:=([])) (N:=5) (T:=3) (K:=5) (l:=zDY 5 [] l2 i4.toNat (l2.getD i4.toNat [])) (i:=i4) rfl rfl b7 b8)<|zL h fun b11 h=>zL h fun b12 h => ?_
   refine zBr (n:=88) (m:=1) [.head 0 1,.head 0 1,.head 0 0,.head 0 0,.head 0 0,.head 0 0,.head 0 0,.head 0 0,.head 0 0,.head 0 0,.head 0 0,.tail 0,.head 0 1,.head 0 1,.head 1 1,.tail 1] [11,15] [AV.ptr 0 0,li i4,AV.ptr 0 0,li i4,AV.ptr 0 0,AV.ptr 0 5,(AV.ptr 0 (5+i4.toNat*1)),AV.hd 2,li x2.1,li x2.1,(li (x2.1+1)),AV.hd 3,AV.ptr 0 0,AV.ptr 0 5,(AV.ptr 0 (5+i4.toNat*1)),.any] [[.box 46 ([li A.node,li A.kind,li A.start,li A.count,li A.min]++((List.set (cM 5 3 (5:Int) (zDY 5 [] l2 i4.toNat (l2.getD i4.toNat []))) i4.toNat (AV.hd 2))++[])),.dead,.vec 3 1 (List.map cI ((zDY 5 [] l2 i4.toNat (l2.getD i4.toNat [])).getD i4.toNat []))],[.box 46 ([li A.node,li A.kind,li A.start,li A.count,li A.min]++((List.set (cM 5 3 (5:Int) (zDY 5 [] l2 i4.toNat (l2.getD i4.toNat []))) i4.toNat (AV.hd 2))++[])),.dead,.dead,.vec 3 1 (List.map cI (zSE ((zDY 5 [] l2 i4.toNat (l2.getD i4.toNat [])).getD i4.toNat []) x2.1))],[.box 46 ([li A.node,li A.kind,li A.start,li A.count,li A.min]++((List.set (cM 5 3 (5:Int) (zDY 5 [] l2 i4.toNat (l2.getD i4.toNat []))) i4.toNat (AV.hd 3))++[])),.dead,.dead,.vec 3 1 (List.map cI (zSE ((zDY 5 [] l2 i4.toNat (l2.getD i4.toNat [])).getD i4.toNat []) x2.1))]] (by kernel_rfl) (by kernel_rfl) ⟨⟨D1 fun e s p=>zB (s 0 rfl),D1 fun e s p=>zB (s 0 rfl)⟩,⟨D1 fun e s p=>zB (s 2 rfl),D1 fun e s p=>zB (s 2 rfl)⟩,D1 fun e s p=>zB (s 0 rfl),D1 fun e s p=>zB (s 2 rfl),D1 fun e s p=>zAd p.1,D1 fun e s p=>zM (k:=0) (o:=0) (off:=5) Try.underlying46 rfl rfl Try.sizeOf44 p.1,D1 fun e s p=>zAP (m:=5) (s:=1) (i:=i4) (k:=0) (o:=5) Try.underlying44 Try.sizeOf22 p.1 p.2.1 b7,D1 fun e s p=>zDc (k:=0) (o:=(5+i4.toNat*1)) (cs:=([li A.node,li A.kind,li A.start,li A.count,li A.min]++((List.set (cM 5 3 (5:Int) (zDY 5 [] l2 i4.toNat (l2.getD i4.toNat []))) i4.toNat (AV.hd 2))++[]))) (hd:=([li A.node]++[li A.kind]++[li A.start]++[li A.count]++[li A.min]++[])) (tl:=([])) (s:=(cM 5 3 (5:Int) (zDY 5 [] l2 i4.toNat (l2.getD i4.toNat [])))) (i:=i4) (j:=2) Try.isAgg22 p.1 rfl rfl (congrArg (fun q=>5+q) (Nat.mul_one _)) (zGi b7),D1 fun e s p=>zB (s 7 rfl),D1 fun e s p=>zB (s 7 rfl),D1 fun e s p=>zg (a:=x2.1) (b:=1) p.1 rfl b11,?_,⟨D1 fun e s p=>zAd p.1,D1 fun e s p=>zAd p.1⟩,⟨D1 fun e s p=>zM (k:=0) (o:=0) (off:=5) Try.underlying46 rfl rfl Try.sizeOf44 p.1,D1 fun e s p=>zM (k:=0) (o:=0) (off:=5) Try.underlying46 rfl rfl Try.sizeOf44 p.1⟩,D1 fun e s p=>zAP (m:=5) (s:=1) (i:=i4) (k:=0) (o:=5) Try.underlying44 Try.sizeOf22 p.1 p.2.2.2.1 b7,?_,trivial⟩ ?_
   ·
    intro e46 s46 p45
    refine zPE (k:=2) (l:=(zDY 5 [] l2 i4.toNat (l2.getD i4.toNat [])).getD i4.toNat []) (i:=x2.1) (q:=x2.1+1) (fun a b=>zUW a b) Try.func85 rfl (by kernel_rfl) p45.1 rfl p45.2.1 p45.2.2.1 b12 ?_
    exact zG ⟨fun _=>rfl,rfl⟩
   ·
    intro e52 s52 p51
    refine za (H':=[.box 46 ([li A.node,li A.kind,li A.start,li A.count,li A.min]++((List.set (cM 5 3 (5:Int) (zDY 5 [] l2 i4.toNat (l2.getD i4.toNat []))) i4.toNat (AV.hd 3))++[])),.dead,.dead,.vec 3 1 (List.map cI (zSE ((zDY 5 [] l2 i4.toNat (l2.getD i4.toNat [])).getD i4.toNat []) x2.1))]) (zGj (k:=0) (o:=(5+i4.toNat*1)) (cs:=([li A.node,li A.kind,li A.start,li A.count,li A.min]++((List.set (cM 5 3 (5:Int) (zDY 5 [] l2 i4.toNat (l2.getD i4.toNat []))) i4.toNat (AV.hd 2))++[]))) (hd:=([li A.node]++[li A.kind]++[li A.start]++[li A.count]++[li A.min]++[])) (tl:=([])) (s:=(cM 5 3 (5:Int) (zDY 5 [] l2 i4.toNat (l2.getD i4.toNat [])))) (i:=i4) (a:=(AV.hd 3)) Try.sizeOf22 (by exact p51.1) rfl rfl (congrArg (fun q=>5+q) (Nat.mul_one _)) (zGi b7) (by exact p51.2.2.2.2.2.2.2.2.2.2.2.2.2.2.1) rfl) ?_
    exact zG ⟨fun _=>rfl,rfl⟩
   intro e53 s53 hq2
   refine zA5 (zCy (l:=[(0,(AV.ptr 0 0)),(1,(li i3)),(2,(li i4)),(6,(li (zMk .xor .i64 i3 ((1:Int)*2 ^ i4.toNat))))]) ⟨s53 0 rfl,s53 1 rfl,s53 2 rfl,s53 6 rfl,trivial⟩)<|zI<|zC<|zA (zB (av:=(li i3)) rfl)<|zA (zB (av:=(li (zMk .xor .i64 i3 ((1:Int)*2 ^ i4.toNat)))) rfl)<|zA (zPa (a:=i3) (b:=zMk .xor .i64 i3 ((1:Int)*2 ^ i4.toNat)) rfl rfl) ?_
   refine zA (zD rfl)<|zG<|zC<|zA (zB rfl)<|zL h fun b13 h=>zA (zg rfl rfl b13) ?_
   refine zA (zD rfl)<|zG ?_
   exact ⟨((min i3 (zMk .xor .i64 i3 ((1:Int)*2 ^ i4.toNat))),(i4+1),(zDY 5 [] (zDY 5 [] l2 i4.toNat (l2.getD i4.toNat [])) i4.toNat (zSE ((zDY 5 [] l2 i4.toNat (l2.getD i4.toNat [])).getD i4.toNat []) x2.1))),Rep.trans (zIV (j:=3) (l':=zSE ((zDY 5 [] l2 i4.toNat (l2.getD i4.toNat [])).getD i4.toNat []) x2.1) (k:=0) (cs:=([li A.node,li A.kind,li A.start,li A.count,li A.min]++((List.set (cM 5 3 (5:Int) (zDY 5 [] l2 i4.toNat (l2.getD i4.toNat []))) i4.toNat (AV.hd 3))++[]))) (hd:=([li A.node]++[li A.kind]++[li A.start]++[li A.count]++[li A.min]++[])) (tl:=([])) (N:=5) (T:=3) (K:=5) (l:=zDY 5 [] l2 i4.toNat (l2.getD i4.toNat [])) (i:=i4) rfl rfl b7 b8 rfl rfl) (zAZ [0] (l:=[(0,(AV.ptr 0 0)),(1,(li (min i3 (zMk .xor .i64 i3 ((1:Int)*2 ^ i4.toNat))))),(2,(li (i4+1)))]) rfl rfl (by kernel_rfl)),h⟩
  refine zAC ?_
  exact ⟨(i3,i4,l2),zAZ [0] rfl rfl (by kernel_rfl),h⟩
 clear h
 rintro ⟨i1,i2,l1⟩ h
 unfold zGl at h
 refine zI<|zC<|zA (zB rfl)<|zA (zB rfl)<|zA (zAd rfl)<|zA (zM Try.underlying46 rfl rfl Try.sizeOf44 rfl) ?_
 refine zL h fun b1 h=>zA (zAP (m:=5) (s:=1) (i:=i2) (k:=0) (o:=5) Try.underlying44 Try.sizeOf22 rfl rfl b1)<|zL h fun b2 h=>zAJ (zIr (k:=0) (cs:=([li A.node,li A.kind,li A.start,li A.count,li A.min]++((cM 5 3 (5:Int) l1)++[]))) (hd:=([li A.node]++[li A.kind]++[li A.start]++[li A.count]++[li A.min]++[])) (tl:=([])) (N:=5) (T:=3) (K:=5) (l:=l1) (i:=i2) rfl rfl b1 b2)<|zA (zDc (k:=0) (o:=(5+i2.toNat*1)) (cs:=([li A.node,li A.kind,li A.start,li A.count,li A.min]++((List.set (cM 5 3 (5:Int) l1) i2.toNat (AV.hd 1))++[]))) (hd:=([li A.node]++[li A.kind]++[li A.start]++[li A.count]++[li A.min]++[])) (tl:=([])) (s:=(cM 5 3 (5:Int) l1)) (i:=i2) (j:=1) Try.isAgg22 rfl rfl rfl (congrArg (fun q=>5+q) (Nat.mul_one _)) (zGi b1))<|zA (zB rfl) ?_
 refine zQ h fun x1 w1 h=>zAx (r':=(AV.tup [li x1.1,(AV.lit (.bool x1.2))])) (la:=[AV.hd 1,li i1]) (la':=[(ls cI (l1.getD i2.toNat [])),li i1]) (r:=(AV.tup [li x1.1,(AV.lit (.bool x1.2))])) (S:=[1]) Try.func63 rfl (by kernel_rfl) (.fn 63) rfl ⟨zGz (fun _=>rfl) rfl rfl,zBI.nr rfl,trivial⟩ (zAh w1) (.inr rfl) rfl<|zA (zB rfl)<|zA (zU rfl rfl)<|zA (zU rfl rfl)<|zA (zD rfl) ?_
 refine zA (zD rfl)<|zG<|zL h fun b3 h => ?_
 refine zBr (n:=88) (m:=1) [.head 0 2,.head 0 2,.head 0 1,.head 0 1,.head 0 1,.head 0 1,.head 0 1,.head 0 1,.head 0 1,.head 0 0,.tail 0,.tail 1,.head 0 2,.head 0 2,.head 2 2,.tail 2] [10,11,15] [AV.ptr 0 0,li i2,AV.ptr 0 0,li i2,AV.ptr 0 0,AV.ptr 0 5,(AV.ptr 0 (5+i2.toNat*1)),AV.hd 1,li x1.1,li i1,AV.hd 2,AV.hd 3,AV.ptr 0 0,AV.ptr 0 5,(AV.ptr 0 (5+i2.toNat*1)),.any] [[.box 46 ([li A.node,li A.kind,li A.start,li A.count,li A.min]++((List.set (cM 5 3 (5:Int) l1) i2.toNat (AV.hd 1))++[])),.vec 3 1 (List.map cI (l1.getD i2.toNat []))],[.box 46 ([li A.node,li A.kind,li A.start,li A.count,li A.min]++((List.set (cM 5 3 (5:Int) l1) i2.toNat (AV.hd 1))++[])),.vec 3 1 (List.map cI (l1.getD i2.toNat [])),.vec 3 1 (List.map cI [i1])],[.box 46 ([li A.node,li A.kind,li A.start,li A.count,li A.min]++((List.set (cM 5 3 (5:Int) l1) i2.toNat (AV.hd 1))++[])),.dead,.vec 3 1 (List.map cI [i1]),.vec 3 1 (List.map cI (zQ1 (l1.getD i2.toNat []) x1.1 i1))],[.box 46 ([li A.node,li A.kind,li A.start,li A.count,li A.min]++((List.set (cM 5 3 (5:Int) l1) i2.toNat (AV.hd 3))++[])),.dead,.vec 3 1 (List.map cI [i1]),.vec 3 1 (List.map cI (zQ1 (l1.getD i2.toNat []) x1.1 i1))]] (by kernel_rfl) (by kernel_rfl) ⟨⟨D1 fun e s p=>zB (s 0 rfl),D1 fun e s p=>zB (s 0 rfl),D1 fun e s p=>zB (s 0 rfl)⟩,⟨D1 fun e s p=>zB (s 2 rfl),D1 fun e s p=>zB (s 2 rfl),D1 fun e s p=>zB (s 2 rfl)⟩,⟨D1 fun e s p=>zB (s 0 rfl),D1 fun e s p=>zB (s 0 rfl)⟩,⟨D1 fun e s p=>zB (s 2 rfl),D1 fun e s p=>zB (s 2 rfl)⟩,⟨D1 fun e s p=>zAd p.1,D1 fun e s p=>zAd p.1⟩,⟨D1 fun e s p=>zM (k:=0) (o:=0) (off:=5) Try.underlying46 rfl rfl Try.sizeOf44 p.1,D1 fun e s p=>zM (k:=0) (o:=0) (off:=5) Try.underlying46 rfl rfl Try.sizeOf44 p.1⟩,⟨D1 fun e s p=>zAP (m:=5) (s:=1) (i:=i2) (k:=0) (o:=5) Try.underlying44 Try.sizeOf22 p.1 p.2.1 b1,D1 fun e s p=>zAP (m:=5) (s:=1) (i:=i2) (k:=0) (o:=5) Try.underlying44 Try.sizeOf22 p.1 p.2.1 b1⟩,⟨D1 fun e s p=>zDc (k:=0) (o:=(5+i2.toNat*1)) (cs:=([li A.node,li A.kind,li A.start,li A.count,li A.min]++((List.set (cM 5 3 (5:Int) l1) i2.toNat (AV.hd 1))++[]))) (hd:=([li A.node]++[li A.kind]++[li A.start]++[li A.count]++[li A.min]++[])) (tl:=([])) (s:=(cM 5 3 (5:Int) l1)) (i:=i2) (j:=1) Try.isAgg22 p.1 rfl rfl (congrArg (fun q=>5+q) (Nat.mul_one _)) (zGi b1),D1 fun e s p=>zDc (k:=0) (o:=(5+i2.toNat*1)) (cs:=([li A.node,li A.kind,li A.start,li A.count,li A.min]++((List.set (cM 5 3 (5:Int) l1) i2.toNat (AV.hd 1))++[]))) (hd:=([li A.node]++[li A.kind]++[li A.start]++[li A.count]++[li A.min]++[])) (tl:=([])) (s:=(cM 5 3 (5:Int) l1)) (i:=i2) (j:=1) Try.isAgg22 p.1 rfl rfl (congrArg (fun q=>5+q) (Nat.mul_one _)) (zGi b1)⟩,⟨D1 fun e s p=>zB (s 9 rfl),D1 fun e s p=>zB (s 9 rfl)⟩,D1 fun e s p=>zB (s 1 rfl),?_,?_,⟨D1 fun e s p=>zAd p.1,D1 fun e s p=>zAd p.1,D1 fun e s p=>zAd p.1⟩,⟨D1 fun e s p=>zM (k:=0) (o:=0) (off:=5) Try.underlying46 rfl rfl Try.sizeOf44 p.1,D1 fun e s p=>zM (k:=0) (o:=0) (off:=5) Try.underlying46 rfl rfl Try.sizeOf44 p.1,D1 fun e s p=>zM (k:=0) (o:=0) (off:=5) Try.underlying46 rfl rfl Try.sizeOf44 p.1⟩,D1 fun e s p=>zAP (m:=5) (s:=1) (i:=i2) (k:=0) (o:=5) Try.underlying44 Try.sizeOf22 p.1 p.2.2.2.1 b1,?_,trivial⟩ ?_
 ·
  intro e22 s22 p22
  refine zHF (a:=(li i1)) zHR Try.underlying22 p22.1 rfl rfl rfl ?_
  exact zG ⟨fun _=>rfl,rfl⟩
 ·
  intro e23 s23 p23
  refine zM3 (k:=1) (j:=2) (l:=l1.getD i2.toNat []) (i:=x1.1) (q:=i1) (fun a b c d e=>zRL a b c d e) Try.func83 rfl (by kernel_rfl) p23.1 rfl p23.2.1 p23.2.2.1 rfl rfl b3 ?_
  exact zG ⟨fun _=>rfl,rfl⟩
 ·
  intro e31 s31 p31
  refine za (H':=[.box 46 ([li A.node,li A.kind,li A.start,li A.count,li A.min]++((List.set (cM 5 3 (5:Int) l1) i2.toNat (AV.hd 3))++[])),.dead,.vec 3 1 (List.map cI [i1]),.vec 3 1 (List.map cI (zQ1 (l1.getD i2.toNat []) x1.1 i1))]) (zGj (k:=0) (o:=(5+i2.toNat*1)) (cs:=([li A.node,li A.kind,li A.start,li A.count,li A.min]++((List.set (cM 5 3 (5:Int) l1) i2.toNat (AV.hd 1))++[]))) (hd:=([li A.node]++[li A.kind]++[li A.start]++[li A.count]++[li A.min]++[])) (tl:=([])) (s:=(cM 5 3 (5:Int) l1)) (i:=i2) (a:=(AV.hd 3)) Try.sizeOf22 (by exact p31.1) rfl rfl (congrArg (fun q=>5+q) (Nat.mul_one _)) (zGi b1) (by exact p31.2.2.2.2.2.2.2.2.2.2.2.2.2.2.1) rfl) ?_
  exact zG ⟨fun _=>rfl,rfl⟩
 intro e32 s32 hq1
 cases h
 exact ⟨mkE [],[.box 46 ([li A.node,li A.kind,li A.start,li A.count,li A.min]++((cM 5 3 (5:Int) (zDY 5 [] l1 i2.toNat (zQ1 (l1.getD i2.toNat []) x1.1 i1)))++[]))],Rep.trans (zCy (l:=[]) trivial) (Rep.trans (zIV (j:=3) (l':=zQ1 (l1.getD i2.toNat []) x1.1 i1) (k:=0) (cs:=([li A.node,li A.kind,li A.start,li A.count,li A.min]++((List.set (cM 5 3 (5:Int) l1) i2.toNat (AV.hd 3))++[]))) (hd:=([li A.node]++[li A.kind]++[li A.start]++[li A.count]++[li A.min]++[])) (tl:=([])) (N:=5) (T:=3) (K:=5) (l:=l1) (i:=i2) rfl rfl b1 b2 rfl rfl) (zAZ [0] (l:=[]) rfl rfl (by kernel_rfl))),zON rfl⟩
theorem zQz {I:Int} {uO:Int} {uG:Int} {uI:Int} {uP:Int} {r:zW×Int} (h:zKw I uO uG uI uP=some r):PFn Try.prog 26 [li I,li uO,li uG,li uI,li uP] (AV.tup [(AV.agg (zO r.1)),li r.2]):=by
 refine zq Try.func26 rfl Try.ntmps26 Try.results26 rfl ?_
 unfold zKw at h
 refine zI<|zC<|zX (H':=[.box 46 ([li 0]++([li 0]++([li 0]++([li 0]++([li 0]++((cA 5 (eS cI) ([]:List Int) (List.replicate 5 ([]:List Int)))++[]))))))]) zv0<|zA (zD rfl)<|zG<|zI ?_
 refine zC<|zA (zB rfl)<|zA (zB rfl)<|zA (zB rfl)<|zA (zB rfl)<|zA (zB rfl) ?_
 refine zA (zCm (pl:=[(0,1),(1,1),(2,1),(3,1),(4,1),(5,5)]) (zs:=[.int .i64 0,.int .i64 0,.int .i64 0,.int .i64 0,.int .i64 0,.slice none 0 0,.slice none 0 0,.slice none 0 0,.slice none 0 0,.slice none 0 0]) (zc:=[.lit (.int .i64 0),.lit (.int .i64 0),.lit (.int .i64 0),.lit (.int .i64 0),.lit (.int .i64 0),.osl 3 1 [],.osl 3 1 [],.osl 3 1 [],.osl 3 1 [],.osl 3 1 []]) (res:=([li I]++([li uO]++([li uG]++([li uI]++([li uP]++((cM 5 3 (5:Int) (List.replicate 5 ([]:List Int)))++[]))))))) (fun _=>by kernel_rfl) rfl (⟨zBC.refl _,⟨zBC.refl _,⟨zBC.refl _,⟨zBC.refl _,⟨zBC.refl _,⟨zBC.nilo,⟨zBC.nilo,⟨zBC.nilo,⟨zBC.nilo,⟨zBC.nilo,trivial⟩⟩⟩⟩⟩⟩⟩⟩⟩⟩) ⟨li I,0,1,rfl,rfl,rfl,rfl,rfl,⟨li uO,1,1,rfl,rfl,rfl,rfl,rfl,⟨li uG,2,1,rfl,rfl,rfl,rfl,rfl,⟨li uI,3,1,rfl,rfl,rfl,rfl,rfl,⟨li uP,4,1,rfl,rfl,rfl,rfl,rfl,(by exact zLh.refl _)⟩⟩⟩⟩⟩)<|zX (H':=[.box 46 ([li 0]++([li 0]++([li 0]++([li 0]++([li 0]++((cA 5 (eS cI) ([]:List Int) (List.replicate 5 ([]:List Int)))++[])))))),.box 46 ([li 0]++([li 0]++([li 0]++([li 0]++([li 0]++((cA 5 (eS cI) ([]:List Int) (List.replicate 5 ([]:List Int)))++[]))))))]) zv0<|za (H':=[.box 46 ([li 0]++([li 0]++([li 0]++([li 0]++([li 0]++((cA 5 (eS cI) ([]:List Int) (List.replicate 5 ([]:List Int)))++[])))))),.box 46 ([li I]++([li uO]++([li uG]++([li uI]++([li uP]++((cM 5 3 (5:Int) (List.replicate 5 ([]:List Int)))++[]))))))]) (zT (k:=1) (o:=0) (cs:=([li 0]++([li 0]++([li 0]++([li 0]++([li 0]++((cA 5 (eS cI) ([]:List Int) (List.replicate 5 ([]:List Int)))++[]))))))) (la:=([li I]++([li uO]++([li uG]++([li uI]++([li uP]++((cM 5 3 (5:Int) (List.replicate 5 ([]:List Int)))++[]))))))) Try.sizeOf46 rfl rfl rfl rfl)<|zG<|zI<|zI ?_
 refine zC<|zA (zPC (k:=1) (o:=0) (m:=10) (la:=([li I]++([li uO]++([li uG]++([li uI]++([li uP]++([AV.any,AV.any,AV.any,AV.any,AV.any]++[]))))))) Try.isAgg46 Try.sizeOf46 rfl rfl rfl rfl)<|zQ h fun x1 w1 h=>zAx (r':=(AV.lit (.bool x1))) (la:=[(AV.agg ([li I]++([li uO]++([li uG]++([li uI]++([li uP]++([AV.any,AV.any,AV.any,AV.any,AV.any]++[])))))))]) (la':=[(AV.agg ([(li ((⟨I,uO,uG,uI,uP,(List.replicate 5 ([]:List Int))⟩:zW).node))]++([(li ((⟨I,uO,uG,uI,uP,(List.replicate 5 ([]:List Int))⟩:zW).kind))]++([(li ((⟨I,uO,uG,uI,uP,(List.replicate 5 ([]:List Int))⟩:zW).start))]++([(li ((⟨I,uO,uG,uI,uP,(List.replicate 5 ([]:List Int))⟩:zW).count))]++([(li ((⟨I,uO,uG,uI,uP,(List.replicate 5 ([]:List Int))⟩:zW).min))]++([AV.any,AV.any,AV.any,AV.any,AV.any]++[])))))))]) (r:=(AV.lit (.bool x1))) (S:=[]) Try.func51 rfl (by kernel_rfl) (.fn 51) rfl ⟨zBI.nr rfl,trivial⟩ (zK2 w1) (.inl rfl) rfl<|zA (zBf (t:=x1) rfl)<|zG ?_
 refine zY h rfl (fun b1 h => ?_) (fun b1 h => ?_)
 ·refine zI<|zC<|zA (zCm (pl:=[(0,1),(1,1),(2,1),(3,1),(4,1),(5,5)]) (zs:=[.int .i64 0,.int .i64 0,.int .i64 0,.int .i64 0,.int .i64 0,.slice none 0 0,.slice none 0 0,.slice none 0 0,.slice none 0 0,.slice none 0 0]) (zc:=[.lit (.int .i64 0),.lit (.int .i64 0),.lit (.int .i64 0),.lit (.int .i64 0),.lit (.int .i64 0),.osl 3 1 [],.osl 3 1 [],.osl 3 1 [],.osl 3 1 [],.osl 3 1 []]) (res:=([li 0]++([li 0]++([li 0]++([li 0]++([li 0]++((cM 5 3 (5:Int) (List.replicate 5 ([]:List Int)))++[]))))))) (fun _=>by kernel_rfl) rfl (⟨zBC.refl _,⟨zBC.refl _,⟨zBC.refl _,⟨zBC.refl _,⟨zBC.refl _,⟨zBC.nilo,⟨zBC.nilo,⟨zBC.nilo,⟨zBC.nilo,⟨zBC.nilo,trivial⟩⟩⟩⟩⟩⟩⟩⟩⟩⟩) (by exact zLh.refl _))<|za (H':=[.box 46 ([li 0]++([li 0]++([li 0]++([li 0]++([li 0]++((cM 5 3 (5:Int) (List.replicate 5 ([]:List Int)))++[])))))),.box 46 ([li I]++([li uO]++([li uG]++([li uI]++([li uP]++((cM 5 3 (5:Int) (List.replicate 5 ([]:List Int)))++[]))))))]) (zT (k:=0) (o:=0) (cs:=([li 0]++([li 0]++([li 0]++([li 0]++([li 0]++((cA 5 (eS cI) ([]:List Int) (List.replicate 5 ([]:List Int)))++[]))))))) (la:=([li 0]++([li 0]++([li 0]++([li 0]++([li 0]++((cM 5 3 (5:Int) (List.replicate 5 ([]:List Int)))++[]))))))) Try.sizeOf46 rfl rfl rfl rfl)<|zA (zD rfl)<|zG ?_
  refine zA5 (zKb (k:=0) (cs:=([li 0]++([li 0]++([li 0]++([li 0]++([li 0]++((cM 5 3 (5:Int) (List.replicate 5 ([]:List Int)))++[]))))))) (hd:=([li 0]++[li 0]++[li 0]++[li 0]++[li 0]++[])) (tl:=([])) (N:=5) (T:=3) (K:=5) (l:=(List.replicate 5 ([]:List Int))) rfl rfl)<|zd ?_
  cases h
  exact zCF (zGO Try.isAgg46 Try.sizeOf46 rfl rfl rfl rfl) (zAl rfl rfl) rfl
 refine zS ?_
 refine zAA (r:=r) (fun ((d1,d2,d3,d4,d5,l1):Int×Int×Int×Int×Int×(List (List Int)))=>mkE [(10,(AV.ptr 0 0)),(12,(AV.ptr 1 0))]) (fun (d1,d2,d3,d4,d5,l1)=>[.box 46 ([li 0]++([li 0]++([li 0]++([li 0]++([li 0]++((cA 5 (eS cI) ([]:List Int) (List.replicate 5 ([]:List Int)))++[])))))),.box 46 ([li d1]++([li d2]++([li d3]++([li d4]++([li d5]++((cM 5 3 (5:Int) l1)++[]))))))]) (fun (d1,d2,d3,d4,d5,l1)=>zKv d1 d2 d3 d4 d5 l1) ?_ ?_
 ·
  refine zI<|zC<|zA (zB rfl)<|zA (zD rfl)<|zG<|zV ?_
  refine z6 (σ:=Int×Int×Int×Int×Int×Int×(List (List Int))) (fun (i1,d6,d7,d8,d9,d10,l2)=>mkE [(2,(li uG)),(3,(li uI)),(10,(AV.ptr 0 0)),(12,(AV.ptr 1 0)),(13,(li i1))]) (fun (i1,d6,d7,d8,d9,d10,l2)=>[.box 46 ([li 0]++([li 0]++([li 0]++([li 0]++([li 0]++((cA 5 (eS cI) ([]:List Int) (List.replicate 5 ([]:List Int)))++[])))))),.box 46 ([li d6]++([li d7]++([li d8]++([li d9]++([li d10]++((cM 5 3 (5:Int) l2)++[]))))))]) (fun n0 (i1,d6,d7,d8,d9,d10,l2)=>zH0 uG uI n0 i1 d6 d7 d8 d9 d10 l2) (uG,I,uO,uG,uI,uP,(List.replicate 5 ([]:List Int))) h (fun _=>rfl) (zAZ [0,1] rfl rfl (by kernel_rfl)) ?_
  clear h
  rintro n0 ⟨i1,d6,d7,d8,d9,d10,l2⟩ h
  replace h:zFm uG uI (zH0 uG uI n0) i1 d6 d7 d8 d9 d10 l2=some r:=h
  unfold zFm at h
  refine zI<|zI<|zC<|zA (zB rfl)<|zA (zB rfl)<|zA (zB rfl) ?_
  refine zL h fun b2 h=>zA (zg rfl rfl b2)<|zA (zi rfl rfl)<|zG ?_
  refine zY h rfl (fun b3 h => ?_) (fun b3 h => ?_)
  ·refine zS<|zI<|zV<|zC<|zA (zB rfl)<|zQ h fun x2 w2 h => ?_
   refine zE6 (k:=1) (la:=[AV.ptr 1 0,li i1,li 0]) (la':=[AV.ptr 0 0,li i1,li 0]) (r:=(.tup [])) (S:=[]) (en' := .box 46 ([li x2.node]++([li x2.kind]++([li x2.start]++([li x2.count]++([li x2.min]++((cM 5 3 (5:Int) x2.free)++[]))))))) Try.func52 rfl (by kernel_rfl) (.fn 52) rfl ⟨zDQ.ptr,zDQ.of (zBI.nr rfl),zDQ.of (zBI.nr rfl),trivial⟩ rfl rfl (by kernel_rfl) (by kernel_rfl) (zNM w2) rfl (.inl rfl)<|zG<|zC<|zA (zB rfl)<|zL h fun b4 h=>zA (zg rfl rfl b4) ?_
   refine zA (zD rfl)<|zG ?_
   exact ⟨((i1+1),x2.node,x2.kind,x2.start,x2.count,x2.min,x2.free),zAZ [0,1] rfl rfl (by kernel_rfl),h⟩
  refine zAC ?_
  exact ⟨(d6,d7,d8,d9,d10,l2),zAZ [0,1] rfl rfl (by kernel_rfl),h⟩
 clear h
 rintro ⟨d1,d2,d3,d4,d5,l1⟩ h
 unfold zKv at h
 refine zI<|zC<|zAJ (zKb (k:=1) (cs:=([li d1]++([li d2]++([li d3]++([li d4]++([li d5]++((cM 5 3 (5:Int) l1)++[]))))))) (hd:=([li d1]++[li d2]++[li d3]++[li d4]++[li d5]++[])) (tl:=([])) (N:=5) (T:=3) (K:=5) (l:=l1) rfl rfl)<|zA (zR (k:=1) (o:=0) (m:=10) Try.isAgg46 Try.sizeOf46 rfl rfl rfl rfl rfl)<|za (H':=[.box 46 (zO (⟨d1,d2,d3,d4,d5,l1⟩:zW)),.box 46 ([li d1]++([li d2]++([li d3]++([li d4]++([li d5]++((cA 5 (eS cI) ([]:List Int) l1)++[]))))))]) (zT (k:=0) (o:=0) (cs:=([li 0]++([li 0]++([li 0]++([li 0]++([li 0]++((cA 5 (eS cI) ([]:List Int) (List.replicate 5 ([]:List Int)))++[]))))))) (la:=(zO (⟨d1,d2,d3,d4,d5,l1⟩:zW))) Try.sizeOf46 rfl rfl rfl rfl)<|zA (zD rfl) ?_
 refine zG<|zd ?_
 cases h
 exact zCF (zGO Try.isAgg46 Try.sizeOf46 rfl rfl rfl rfl) (zAl rfl rfl) rfl
theorem zPc {Y:Int} {r:zK×Int} (h:zJk Y=some r):PFn Try.prog 27 [li Y] (AV.tup [(AV.agg (zJ r.1)),li r.2]):=by
 refine zq Try.func27 rfl Try.ntmps27 Try.results27 rfl ?_
 unfold zJk at h
 refine zI<|zC<|zX (H':=[.box 50 [(ls (cS cI) ([]:List (List Int)))]]) zv1<|zA (zD rfl)<|zG<|zI ?_
 refine zI<|zC<|zA (zB rfl)<|zA (zi rfl rfl)<|zA (zB rfl)<|zZ rfl rfl (fun c1=>zv.step (zB rfl)) ?_
 refine zZ rfl rfl (fun c2=>zv.step (zCf (zAQ rfl c2) rfl))<|zA (zh rfl rfl)<|zG ?_
 refine zY h rfl (fun b1 h => ?_) (fun b1 h => ?_)
 ·refine zI<|zC<|zA zv2<|za (H':=[.box 50 (zJ (⟨([]:List (List Int))⟩:zK))]) (zT (k:=0) (o:=0) (cs:=[(ls (cS cI) ([]:List (List Int)))]) (la:=(zJ (⟨([]:List (List Int))⟩:zK))) Try.sizeOf50 rfl rfl rfl rfl)<|zA (zD rfl)<|zG ?_
  refine zd ?_
  cases h
  exact zCF (zGO Try.isAgg50 Try.sizeOf50 rfl rfl rfl rfl) (zAl rfl rfl) rfl
 refine zS<|zI<|zC<|zA (zB rfl)<|zL h fun b2 h=>zGs (f:=(cS cI)) (a:=Y) (c:=Y) (d0:=([]:List Int)) zR9 ⟨zBC.nils,trivial⟩ rfl Try.underlying48 rfl rfl b2 ?_
 refine zA (zCm (pl:=[(0,1)]) (zs:=[.slice none 0 0]) (zc:=[.sl false []]) (res:=[AV.hd 1]) (fun _=>by kernel_rfl) rfl (⟨zBC.nils,trivial⟩) ⟨AV.hd 1,0,1,rfl,rfl,rfl,rfl,rfl,(by exact zLh.refl _)⟩)<|za (H':=[.box 50 [AV.hd 1],.vec 22 1 (List.map (cS cI) (List.replicate Y.toNat ([]:List Int)))]) (zT (k:=0) (o:=0) (cs:=[(ls (cS cI) ([]:List (List Int)))]) (la:=[AV.hd 1]) Try.sizeOf50 rfl rfl rfl rfl)<|zA (zD rfl)<|zG<|zA5 (zAT (k:=0) (j:=1) (o:=0) rfl rfl rfl rfl)<|zA5 (zB7 (k:=0) (o:=0) (rows':=List.map (cS cI) (List.replicate Y.toNat ([]:List Int))) rfl rfl (zAb (fun _=>rfl))) ?_
 refine zd ?_
 cases h
 exact zCF (zGO Try.isAgg50 Try.sizeOf50 rfl rfl rfl rfl) (zAl rfl rfl) rfl
theorem zKW {A:List Int} {B:Int} {G:Int} {U:List zAf} {r:zH×Int} (h:zCs A B G U=some r):PFn Try.prog 9 [ls cI A,li B,li G,ls zAV U] (AV.tup [(AV.agg (zF r.1)),li r.2]):=by
 refine zq Try.func9 rfl Try.ntmps9 Try.results9 rfl ?_
 unfold zCs at h
 refine zI<|zC<|zX (H':=[.box 29 (zF ⟨[],0,0,[],[]⟩)]) zv3<|zA (zD rfl)<|zG ?_
 refine zAA (r:=r) (fun (d1:List Int)=>mkE [(0,(ls cI A)),(3,(ls zAV U)),(8,(AV.ptr 0 0)),(10,(AV.ptr 1 0))]) (fun d1=>[.box 29 (zF ⟨[],0,0,[],[]⟩),.box 29 [ls cI d1,li B,li G,AV.osl 46 10 (List.map zO (List.replicate (U.length:Int).toNat (zKK))),AV.osl 50 1 (List.map zJ ([]:List zK))]]) (fun d1=>zGX A B G U d1) ?_ ?_
 ·
  refine zQ h fun x4 w4 h=>zL h fun b11 h => ?_
  refine zU7 (n:=82) (m:=0) 6 8 [9] [6,7,8] [.head 0 2,.head 0 2,.head 0 2,.head 0 2,.head 0 0,.head 0 0,.tail 0,.head 1 2,.tail 1,.tail 2] [.head 0 2,.head 0 2,.head 0 2,.head 0 2,.head 0 1,.head 0 1,.tail 1,.head 2 2,.tail 0,.tail 2] [ls cI A,ls cI x4,li B,li G,ls zAV U,(li (U.length:Int)),AV.hd 1,(AV.agg [ls cI x4,li B,li G,AV.hd 1,AV.osl 50 1 (List.map zJ ([]:List zK))]),AV.ptr 2 0,.any] [ls cI A,ls cI x4,li B,li G,ls zAV U,(li (U.length:Int)),AV.hd 2,(AV.agg [ls cI x4,li B,li G,AV.hd 2,AV.osl 50 1 (List.map zJ ([]:List zK))]),AV.ptr 1 0,.any] [[.box 29 (zF ⟨[],0,0,[],[]⟩)],[.box 29 (zF ⟨[],0,0,[],[]⟩),.vec 46 10 (List.map zO (List.replicate (U.length:Int).toNat (zKK)))],[.box 29 (zF ⟨[],0,0,[],[]⟩),.vec 46 10 (List.map zO (List.replicate (U.length:Int).toNat (zKK))),.box 29 [AV.osl 3 1 (List.map cI ([]:List Int)),li 0,li 0,AV.osl 46 10 (List.map zO ([]:List zW)),AV.osl 50 1 (List.map zJ ([]:List zK))]],[.box 29 (zF ⟨[],0,0,[],[]⟩),.vec 46 10 (List.map zO (List.replicate (U.length:Int).toNat (zKK))),.box 29 [ls cI x4,li B,li G,AV.hd 1,AV.osl 50 1 (List.map zJ ([]:List zK))]]] [[.box 29 (zF ⟨[],0,0,[],[]⟩)],[.box 29 (zF ⟨[],0,0,[],[]⟩),.box 29 [AV.osl 3 1 (List.map cI ([]:List Int)),li 0,li 0,AV.osl 46 10 (List.map zO ([]:List zW)),AV.osl 50 1 (List.map zJ ([]:List zK))]],[.box 29 (zF ⟨[],0,0,[],[]⟩),.box 29 [AV.osl 3 1 (List.map cI ([]:List Int)),li 0,li 0,AV.osl 46 10 (List.map zO ([]:List zW)),AV.osl 50 1 (List.map zJ ([]:List zK))],.vec 46 10 (List.map zO (List.replicate (U.length:Int).toNat (zKK)))],[.box 29 (zF ⟨[],0,0,[],[]⟩),.box 29 [ls cI x4,li B,li G,AV.hd 2,AV.osl 50 1 (List.map zJ ([]:List zK))],.vec 46 10 (List.map zO (List.replicate (U.length:Int).toNat (zKK)))]] (by kernel_rfl) (by kernel_rfl) (by kernel_rfl) ⟨.inr rfl,⟨.inr rfl,⟨.inr rfl,⟨.inr rfl,⟨.inr rfl,⟨.inr rfl,⟨.inl rfl,⟨.inl rfl,⟨.inl rfl,⟨.inr rfl,trivial⟩⟩⟩⟩⟩⟩⟩⟩⟩⟩ (by kernel_rfl) rfl rfl ⟨⟨?_,?_,?_⟩,⟨?_,?_,?_⟩,⟨?_,?_,?_⟩,⟨?_,?_,?_⟩,?_,?_,?_,⟨?_,?_⟩,?_,?_,trivial⟩ ⟨⟨?_,?_,?_⟩,⟨?_,?_,?_⟩,⟨?_,?_,?_⟩,⟨?_,?_,?_⟩,⟨?_,?_⟩,⟨?_,?_⟩,?_,?_,?_,?_,trivial⟩ ?_ ?_
  ·exact D1 fun e s p=>zB (s 0 rfl)
  ·exact D1 fun e s p=>zB (s 0 rfl)
  ·exact D1 fun e s p=>zB (s 0 rfl)
  ·
   intro e4 s4 p4
   refine zAx (r':=(ls cI x4)) (la:=[ls cI A]) (la':=[ls cI A]) (r:=(AV.osl 3 1 (List.map cI x4))) (S:=[]) Try.func24 rfl (by kernel_rfl) (.fn 24) (zAe p4.1 rfl) ⟨zBI.nr rfl,trivial⟩ (zAc w4) (.inl rfl) (congrArg (AV.sl false) (zAb (fun _=>rfl))) ?_
   exact zG ⟨fun _=>rfl,rfl⟩
  ·
   intro e5 s5 p5
   refine zAx (r':=(ls cI x4)) (la:=[ls cI A]) (la':=[ls cI A]) (r:=(AV.osl 3 1 (List.map cI x4))) (S:=[]) Try.func24 rfl (by kernel_rfl) (.fn 24) (zAe p5.1 rfl) ⟨zBI.nr rfl,trivial⟩ (zAc w4) (.inl rfl) (congrArg (AV.sl false) (zAb (fun _=>rfl))) ?_
   exact zG ⟨fun _=>rfl,rfl⟩
  ·
   intro e6 s6 p6
   refine zAx (r':=(ls cI x4)) (la:=[ls cI A]) (la':=[ls cI A]) (r:=(AV.osl 3 1 (List.map cI x4))) (S:=[]) Try.func24 rfl (by kernel_rfl) (.fn 24) (zAe p6.1 rfl) ⟨zBI.nr rfl,trivial⟩ (zAc w4) (.inl rfl) (congrArg (AV.sl false) (zAb (fun _=>rfl))) ?_
   exact zG ⟨fun _=>rfl,rfl⟩
  ·exact D1 fun e s p=>zB (s 1 rfl)
  ·exact D1 fun e s p=>zB (s 1 rfl)
  ·exact D1 fun e s p=>zB (s 1 rfl)
  ·exact D1 fun e s p=>zB (s 2 rfl)
  ·exact D1 fun e s p=>zB (s 2 rfl)
  ·exact D1 fun e s p=>zB (s 2 rfl)
  ·exact D1 fun e s p=>zB (s 3 rfl)
  ·exact D1 fun e s p=>ze (f:=zAV) (l:=U) Try.underlying24 p.1
  ·
   intro e15 s15 p15
   refine zGs (f:=zO) (a:=(U.length:Int)) (c:=(U.length:Int)) (d0:=(zKK)) zSM ⟨zBC.refl _,⟨zBC.refl _,⟨zBC.refl _,⟨zBC.refl _,⟨zBC.refl _,⟨zBC.nils,⟨zBC.nils,⟨zBC.nils,⟨zBC.nils,⟨zBC.nils,trivial⟩⟩⟩⟩⟩⟩⟩⟩⟩⟩ rfl Try.underlying26 p15.2.1 p15.2.1 b11 ?_
   exact zG ⟨fun _=>rfl,rfl⟩
  ·exact D1 fun e s p=>zCm (pl:=[(0,1),(1,1),(2,1),(3,1),(4,1)]) (zs:=[.slice none 0 0,.int .i64 0,.int .i64 0,.slice none 0 0,.slice none 0 0]) (zc:=[.osl 3 1 [],.lit (.int .i64 0),.lit (.int .i64 0),.osl 46 10 [],.osl 50 1 []]) (res:=[ls cI x4,li B,li G,AV.hd 1,AV.osl 50 1 (List.map zJ ([]:List zK))]) (fun _=>by kernel_rfl) rfl (⟨zBC.nilo,⟨zBC.refl _,⟨zBC.refl _,⟨zBC.nilo,⟨zBC.nilo,trivial⟩⟩⟩⟩⟩) ⟨ls cI x4,0,1,rfl,p.1,rfl,rfl,rfl,⟨li B,1,1,rfl,p.2.1,rfl,rfl,rfl,⟨li G,2,1,rfl,p.2.2.1,rfl,rfl,rfl,⟨AV.hd 1,3,1,rfl,p.2.2.2.1,rfl,rfl,rfl,(by exact zLh.refl _)⟩⟩⟩⟩
  ·exact D1 fun e s p=>zCm (pl:=[(0,1),(1,1),(2,1),(3,1),(4,1)]) (zs:=[.slice none 0 0,.int .i64 0,.int .i64 0,.slice none 0 0,.slice none 0 0]) (zc:=[.osl 3 1 [],.lit (.int .i64 0),.lit (.int .i64 0),.osl 46 10 [],.osl 50 1 []]) (res:=[ls cI x4,li B,li G,AV.hd 1,AV.osl 50 1 (List.map zJ ([]:List zK))]) (fun _=>by kernel_rfl) rfl (⟨zBC.nilo,⟨zBC.refl _,⟨zBC.refl _,⟨zBC.nilo,⟨zBC.nilo,trivial⟩⟩⟩⟩⟩) ⟨ls cI x4,0,1,rfl,p.1,rfl,rfl,rfl,⟨li B,1,1,rfl,p.2.1,rfl,rfl,rfl,⟨li G,2,1,rfl,p.2.2.1,rfl,rfl,rfl,⟨AV.hd 1,3,1,rfl,p.2.2.2.1,rfl,rfl,rfl,(by exact zLh.refl _)⟩⟩⟩⟩
  ·
   intro e18 s18 p18
   refine zX (H':=[.box 29 (zF ⟨[],0,0,[],[]⟩),.vec 46 10 (List.map zO (List.replicate (U.length:Int).toNat (zKK))),.box 29 [AV.osl 3 1 (List.map cI ([]:List Int)),li 0,li 0,AV.osl 46 10 (List.map zO ([]:List zW)),AV.osl 50 1 (List.map zJ ([]:List zK))]]) zv4 ?_
   exact zG ⟨fun _=>rfl,rfl⟩
  ·
   intro e19 s19 p19
   refine za (H':=[.box 29 (zF ⟨[],0,0,[],[]⟩),.vec 46 10 (List.map zO (List.replicate (U.length:Int).toNat (zKK))),.box 29 [ls cI x4,li B,li G,AV.hd 1,AV.osl 50 1 (List.map zJ ([]:List zK))]]) (zT (k:=2) (o:=0) (cs:=[AV.osl 3 1 (List.map cI ([]:List Int)),li 0,li 0,AV.osl 46 10 (List.map zO ([]:List zW)),AV.osl 50 1 (List.map zJ ([]:List zK))]) (la:=[ls cI x4,li B,li G,AV.hd 1,AV.osl 50 1 (List.map zJ ([]:List zK))]) Try.sizeOf29 (by exact p19.2.2.2.2.2.2.2.2.2.2.2.1) rfl rfl (by exact p19.2.2.2.2.2.2.2.2.2.2.1)) ?_
   exact zG ⟨fun _=>rfl,rfl⟩
  ·exact D1 fun e s p=>zB (s 0 rfl)
  ·exact D1 fun e s p=>zB (s 0 rfl)
  ·exact D1 fun e s p=>zB (s 0 rfl)
  ·
   intro e23 s23 p23
   refine zAx (r':=(ls cI x4)) (la:=[ls cI A]) (la':=[ls cI A]) (r:=(AV.osl 3 1 (List.map cI x4))) (S:=[]) Try.func24 rfl (by kernel_rfl) (.fn 24) (zAe p23.1 rfl) ⟨zBI.nr rfl,trivial⟩ (zAc w4) (.inl rfl) (congrArg (AV.sl false) (zAb (fun _=>rfl))) ?_
   exact zG ⟨fun _=>rfl,rfl⟩
  ·
   intro e24 s24 p24
   refine zAx (r':=(ls cI x4)) (la:=[ls cI A]) (la':=[ls cI A]) (r:=(AV.osl 3 1 (List.map cI x4))) (S:=[]) Try.func24 rfl (by kernel_rfl) (.fn 24) (zAe p24.1 rfl) ⟨zBI.nr rfl,trivial⟩ (zAc w4) (.inl rfl) (congrArg (AV.sl false) (zAb (fun _=>rfl))) ?_
   exact zG ⟨fun _=>rfl,rfl⟩
  ·
   intro e25 s25 p25
   refine zAx (r':=(ls cI x4)) (la:=[ls cI A]) (la':=[ls cI A]) (r:=(AV.osl 3 1 (List.map cI x4))) (S:=[]) Try.func24 rfl (by kernel_rfl) (.fn 24) (zAe p25.1 rfl) ⟨zBI.nr rfl,trivial⟩ (zAc w4) (.inl rfl) (congrArg (AV.sl false) (zAb (fun _=>rfl))) ?_
   exact zG ⟨fun _=>rfl,rfl⟩
  ·exact D1 fun e s p=>zB (s 1 rfl)
  ·exact D1 fun e s p=>zB (s 1 rfl)
  ·exact D1 fun e s p=>zB (s 1 rfl)
  ·exact D1 fun e s p=>zB (s 2 rfl)
  ·exact D1 fun e s p=>zB (s 2 rfl)
  ·exact D1 fun e s p=>zB (s 2 rfl)
  ·exact D1 fun e s p=>zB (s 3 rfl)
  ·exact D1 fun e s p=>zB (s 3 rfl)
  ·exact D1 fun e s p=>ze (f:=zAV) (l:=U) Try.underlying24 p.1
  ·exact D1 fun e s p=>ze (f:=zAV) (l:=U) Try.underlying24 p.1
  ·
   intro e36 s36 p36
   refine zGs (f:=zO) (a:=(U.length:Int)) (c:=(U.length:Int)) (d0:=(zKK)) zSM ⟨zBC.refl _,⟨zBC.refl _,⟨zBC.refl _,⟨zBC.refl _,⟨zBC.refl _,⟨zBC.nils,⟨zBC.nils,⟨zBC.nils,⟨zBC.nils,⟨zBC.nils,trivial⟩⟩⟩⟩⟩⟩⟩⟩⟩⟩ rfl Try.underlying26 p36.2.1 p36.2.1 b11 ?_
   exact zG ⟨fun _=>rfl,rfl⟩
  ·exact D1 fun e s p=>zCm (pl:=[(0,1),(1,1),(2,1),(3,1),(4,1)]) (zs:=[.slice none 0 0,.int .i64 0,.int .i64 0,.slice none 0 0,.slice none 0 0]) (zc:=[.osl 3 1 [],.lit (.int .i64 0),.lit (.int .i64 0),.osl 46 10 [],.osl 50 1 []]) (res:=[ls cI x4,li B,li G,AV.hd 2,AV.osl 50 1 (List.map zJ ([]:List zK))]) (fun _=>by kernel_rfl) rfl (⟨zBC.nilo,⟨zBC.refl _,⟨zBC.refl _,⟨zBC.nilo,⟨zBC.nilo,trivial⟩⟩⟩⟩⟩) ⟨ls cI x4,0,1,rfl,p.1,rfl,rfl,rfl,⟨li B,1,1,rfl,p.2.1,rfl,rfl,rfl,⟨li G,2,1,rfl,p.2.2.1,rfl,rfl,rfl,⟨AV.hd 2,3,1,rfl,p.2.2.2.1,rfl,rfl,rfl,(by exact zLh.refl _)⟩⟩⟩⟩
  ·
   intro e38 s38 p38
   refine zX (H':=[.box 29 (zF ⟨[],0,0,[],[]⟩),.box 29 [AV.osl 3 1 (List.map cI ([]:List Int)),li 0,li 0,AV.osl 46 10 (List.map zO ([]:List zW)),AV.osl 50 1 (List.map zJ ([]:List zK))]]) zv4 ?_
   exact zG ⟨fun _=>rfl,rfl⟩
  ·
   intro e39 s39 p39
   refine za (H':=[.box 29 (zF ⟨[],0,0,[],[]⟩),.box 29 [ls cI x4,li B,li G,AV.hd 2,AV.osl 50 1 (List.map zJ ([]:List zK))],.vec 46 10 (List.map zO (List.replicate (U.length:Int).toNat (zKK)))]) (zT (k:=1) (o:=0) (cs:=[AV.osl 3 1 (List.map cI ([]:List Int)),li 0,li 0,AV.osl 46 10 (List.map zO ([]:List zW)),AV.osl 50 1 (List.map zJ ([]:List zK))]) (la:=[ls cI x4,li B,li G,AV.hd 2,AV.osl 50 1 (List.map zJ ([]:List zK))]) Try.sizeOf29 (by exact p39.2.2.2.2.2.2.2.2.2.2.2.1) rfl rfl (by exact p39.2.2.2.2.2.2.2.2.2.2.1)) ?_
   exact zG ⟨fun _=>rfl,rfl⟩
  ·
   intro e40 s40 hq1
   exact ⟨x4,Rep.trans (zCy (l:=[(0,(ls cI A)),(3,(ls zAV U)),(8,(AV.ptr 0 0)),(10,(AV.ptr 2 0))]) ⟨s40 0 rfl,s40 3 rfl,s40 8 rfl,(hq1 8 (by decide) (by decide)),trivial⟩) (Rep.trans (zAT (k:=2) (j:=1) (o:=3) (cs:=[ls cI x4,li B,li G,AV.hd 1,AV.osl 50 1 (List.map zJ ([]:List zK))]) rfl rfl rfl rfl) (zAZ [0,2] (l:=[(0,(ls cI A)),(3,(ls zAV U)),(8,(AV.ptr 0 0)),(10,(AV.ptr 1 0))]) rfl rfl (by kernel_rfl))),h⟩
  intro e41 s41 hq2
  exact ⟨x4,Rep.trans (zCy (l:=[(0,(ls cI A)),(3,(ls zAV U)),(8,(AV.ptr 0 0)),(10,(AV.ptr 1 0))]) ⟨s41 0 rfl,s41 3 rfl,s41 8 rfl,(hq2 8 (by decide) (by decide)),trivial⟩) (Rep.trans (zAT (k:=1) (j:=2) (o:=3) (cs:=[ls cI x4,li B,li G,AV.hd 2,AV.osl 50 1 (List.map zJ ([]:List zK))]) rfl rfl rfl rfl) (zAZ [0,1] (l:=[(0,(ls cI A)),(3,(ls zAV U)),(8,(AV.ptr 0 0)),(10,(AV.ptr 1 0))]) rfl rfl (by kernel_rfl))),h⟩
 clear h
 intro d1 h
 unfold zGX at h
 refine zI<|zI<|zC<|zAJ (zBz (k:=1) (o:=3) (t':=46) (sz:=10) (rows:=List.map zO (List.replicate (U.length:Int).toNat (zKK))) rfl rfl)<|zAJ (zBz (k:=1) (o:=4) (t':=50) (sz:=1) (rows:=List.map zJ ([]:List zK)) rfl rfl)<|zA (zR (k:=1) (o:=0) (m:=5) Try.isAgg29 Try.sizeOf29 rfl rfl rfl rfl rfl) ?_
 refine zQ h fun x1 w1 h=>zAx (r':=(AV.lit (.bool x1))) (la:=[(AV.agg [ls cI d1,li B,li G,AV.hd 2,AV.hd 3])]) (la':=[(AV.agg (zF ⟨d1,B,G,(List.replicate (U.length:Int).toNat (zKK)),[]⟩))]) (r:=(AV.lit (.bool x1))) (S:=[2,3]) Try.func25 rfl (by kernel_rfl) (.fn 25) rfl ⟨zBI.agg (by exact ⟨zBI.nr rfl,⟨zBI.nr rfl,⟨zBI.nr rfl,⟨zGz (fun _=>rfl) rfl rfl,⟨zGz (fun _=>rfl) rfl rfl,trivial⟩⟩⟩⟩⟩),trivial⟩ (zIE w1) (.inr trivial) rfl<|zA (zBf (t:=x1) rfl)<|zG ?_
 refine zY h rfl (fun b1 h => ?_) (fun b1 h => ?_)
 ·refine zI<|zC<|zA (zCm (pl:=[(0,1),(1,1),(2,1),(3,1),(4,1)]) (zs:=[.slice none 0 0,.int .i64 0,.int .i64 0,.slice none 0 0,.slice none 0 0]) (zc:=[.osl 3 1 [],.lit (.int .i64 0),.lit (.int .i64 0),.osl 46 10 [],.osl 50 1 []]) (res:=[AV.osl 3 1 (List.map cI ([]:List Int)),li 0,li 0,AV.osl 46 10 (List.map zO ([]:List zW)),AV.osl 50 1 (List.map zJ ([]:List zK))]) (fun _=>by kernel_rfl) rfl (⟨zBC.nilo,⟨zBC.refl _,⟨zBC.refl _,⟨zBC.nilo,⟨zBC.nilo,trivial⟩⟩⟩⟩⟩) (by exact zLh.refl _))<|za (H':=[.box 29 [AV.osl 3 1 (List.map cI ([]:List Int)),li 0,li 0,AV.osl 46 10 (List.map zO ([]:List zW)),AV.osl 50 1 (List.map zJ ([]:List zK))],.box 29 [ls cI d1,li B,li G,AV.hd 2,AV.hd 3],.vec 46 10 (List.map zO (List.replicate (U.length:Int).toNat (zKK))),.vec 50 1 (List.map zJ ([]:List zK))]) (zT (k:=0) (o:=0) (cs:=(zF ⟨[],0,0,[],[]⟩)) (la:=[AV.osl 3 1 (List.map cI ([]:List Int)),li 0,li 0,AV.osl 46 10 (List.map zO ([]:List zW)),AV.osl 50 1 (List.map zJ ([]:List zK))]) Try.sizeOf29 rfl rfl rfl rfl)<|zA (zD rfl)<|zG ?_
  refine zA5 (zB7 (k:=0) (o:=0) (rows':=List.map cI ([]:List Int)) rfl rfl (zAb (fun _=>rfl)))<|zA5 (zB7 (k:=0) (o:=3) (rows':=List.map zO ([]:List zW)) rfl rfl (zAb (fun _=>rfl)))<|zA5 (zB7 (k:=0) (o:=4) (rows':=List.map zJ ([]:List zK)) rfl rfl (zAb (fun _=>rfl)))<|zd ?_
  cases h
  exact zCF (zGO Try.isAgg29 Try.sizeOf29 rfl rfl rfl rfl) (zAl rfl rfl) rfl
 refine zS<|zI<|zC<|zA (zD rfl)<|zG ?_
 refine zAA (r:=r) (fun (l1:List zW)=>mkE [(0,(ls cI A)),(3,(ls zAV U)),(8,(AV.ptr 0 0)),(10,(AV.ptr 1 0))]) (fun l1=>[.box 29 (zF ⟨[],0,0,[],[]⟩),.box 29 [ls cI d1,li B,li G,AV.osl 46 10 (List.map zO l1),AV.osl 50 1 (List.map zJ ([]:List zK))]]) (fun l1=>zE2 A B G U d1 l1) ?_ ?_
 ·
  refine zI<|zC<|zA (zB rfl)<|zA (ze Try.underlying24 rfl)<|zA (zB rfl)<|zG ?_
  refine zV<|z6 (σ:=Int×Int×(List zW)) (fun (i2,i3,l4)=>mkE [(0,(ls cI A)),(3,(ls zAV U)),(8,(AV.ptr 0 0)),(10,(AV.ptr 1 0)),(11,(li i2)),(30,(ls zAV U)),(31,(li (U.length:Int))),(32,(li i3))]) (fun (i2,i3,l4)=>[.box 29 (zF ⟨[],0,0,[],[]⟩),.box 29 [ls cI d1,li B,li G,AV.osl 46 10 (List.map zO l4),AV.osl 50 1 (List.map zJ ([]:List zK))]]) (fun n1 (i2,i3,l4)=>zFA A B G U d1 n1 i2 i3 l4) (0,0,(List.replicate (U.length:Int).toNat (zKK))) h (fun _=>rfl) (Rep.trans (zAT (k:=1) (j:=2) (o:=3) rfl rfl rfl rfl) (Rep.trans (zAT (k:=1) (j:=3) (o:=4) rfl rfl rfl rfl) (zAZ [0,1] (l:=[(0,(ls cI A)),(3,(ls zAV U)),(8,(AV.ptr 0 0)),(10,(AV.ptr 1 0)),(11,(li 0)),(30,(ls zAV U)),(31,(li (U.length:Int))),(32,(li 0))]) rfl rfl (by kernel_rfl)))) ?_
  clear h
  rintro n1 ⟨i2,i3,l4⟩ h
  replace h:zDB A B G U d1 (zFA A B G U d1 n1) i2 i3 l4=some r:=h
  unfold zDB at h
  refine zI<|zC<|zA (zi rfl rfl)<|zG<|zI ?_
  refine zY h rfl (fun b5 h => ?_) (fun b5 h => ?_)
  ·refine zS<|zI<|zV<|zI<|zC<|zA (zB rfl) ?_
   refine zL h fun b6 h=>zA (zm Try.underlying24 Try.sizeOf65 (fun _=>rfl) rfl rfl b6)<|zA (zBB (row:=(zAV (at_ U i3))) (o:=0) (m:=4) (la:=(zAV (at_ U i3))) Try.isAgg65 Try.sizeOf65 rfl rfl rfl)<|zX (H':=[.box 29 (zF ⟨[],0,0,[],[]⟩),.box 29 [ls cI d1,li B,li G,AV.osl 46 10 (List.map zO l4),AV.osl 50 1 (List.map zJ ([]:List zK))],.box 65 [li 0,li 0,li 0,li 0]]) zv5<|zA (zD rfl)<|za (H':=[.box 29 (zF ⟨[],0,0,[],[]⟩),.box 29 [ls cI d1,li B,li G,AV.osl 46 10 (List.map zO l4),AV.osl 50 1 (List.map zJ ([]:List zK))],.box 65 (zAV (at_ U i3))]) (zT (k:=2) (o:=0) (cs:=[li 0,li 0,li 0,li 0]) (la:=(zAV (at_ U i3))) Try.sizeOf65 rfl rfl rfl rfl) ?_
   refine zG<|zI<|zC<|zA (zM Try.underlying65 rfl rfl Try.sizeOf3 rfl)<|zA (zN Try.isAgg3 rfl rfl rfl rfl)<|zA (zM Try.underlying65 rfl rfl Try.sizeOf3 rfl) ?_
   refine zA (zN Try.isAgg3 rfl rfl rfl rfl)<|zA (zB rfl)<|zA (zM Try.underlying65 rfl rfl Try.sizeOf3 rfl)<|zA (zN Try.isAgg3 rfl rfl rfl rfl)<|zA (zM Try.underlying65 rfl rfl Try.sizeOf3 rfl)<|zA (zN Try.isAgg3 rfl rfl rfl rfl) ?_
   refine zQ h fun x3 w3 h=>zb Try.func26 rfl (by kernel_rfl) (.fn 26) rfl rfl (zQz w3) rfl<|zA (zB rfl)<|zA (zU rfl rfl)<|zA (zU rfl rfl)<|zX (H':=[.box 29 (zF ⟨[],0,0,[],[]⟩),.box 29 [ls cI d1,li B,li G,AV.osl 46 10 (List.map zO l4),AV.osl 50 1 (List.map zJ ([]:List zK))],.box 65 (zAV (at_ U i3)),.box 46 (zO ⟨0,0,0,0,0,(List.replicate 5 ([]:List Int))⟩)]) zv0 ?_
   refine za (H':=[.box 29 (zF ⟨[],0,0,[],[]⟩),.box 29 [ls cI d1,li B,li G,AV.osl 46 10 (List.map zO l4),AV.osl 50 1 (List.map zJ ([]:List zK))],.box 65 (zAV (at_ U i3)),.box 46 (zO x3.1)]) (zT (k:=3) (o:=0) (cs:=(zO ⟨0,0,0,0,0,(List.replicate 5 ([]:List Int))⟩)) (la:=(zO x3.1)) Try.sizeOf46 rfl rfl rfl rfl)<|zA (zD rfl)<|zG<|zI<|zI<|zC ?_
   refine zA (zB rfl)<|zA (z7 rfl rfl)<|zG ?_
   refine zY h rfl (fun b7 h => ?_) (fun b7 h => ?_)
   ·refine zI<|zC<|zA (zCm (pl:=[(0,1),(1,1),(2,1),(3,1),(4,1)]) (zs:=[.slice none 0 0,.int .i64 0,.int .i64 0,.slice none 0 0,.slice none 0 0]) (zc:=[.osl 3 1 [],.lit (.int .i64 0),.lit (.int .i64 0),.osl 46 10 [],.osl 50 1 []]) (res:=[AV.osl 3 1 (List.map cI ([]:List Int)),li 0,li 0,AV.osl 46 10 (List.map zO ([]:List zW)),AV.osl 50 1 (List.map zJ ([]:List zK))]) (fun _=>by kernel_rfl) rfl (⟨zBC.nilo,⟨zBC.refl _,⟨zBC.refl _,⟨zBC.nilo,⟨zBC.nilo,trivial⟩⟩⟩⟩⟩) (by exact zLh.refl _))<|zA (zB rfl)<|za (H':=[.box 29 [AV.osl 3 1 (List.map cI ([]:List Int)),li 0,li 0,AV.osl 46 10 (List.map zO ([]:List zW)),AV.osl 50 1 (List.map zJ ([]:List zK))],.box 29 [ls cI d1,li B,li G,AV.osl 46 10 (List.map zO l4),AV.osl 50 1 (List.map zJ ([]:List zK))],.box 65 (zAV (at_ U i3)),.box 46 (zO x3.1)]) (zT (k:=0) (o:=0) (cs:=(zF ⟨[],0,0,[],[]⟩)) (la:=[AV.osl 3 1 (List.map cI ([]:List Int)),li 0,li 0,AV.osl 46 10 (List.map zO ([]:List zW)),AV.osl 50 1 (List.map zJ ([]:List zK))]) Try.sizeOf29 rfl rfl rfl rfl)<|zA (zD rfl) ?_
    refine zG<|zA5 (zB7 (k:=0) (o:=0) (rows':=List.map cI ([]:List Int)) rfl rfl (zAb (fun _=>rfl)))<|zA5 (zB7 (k:=0) (o:=3) (rows':=List.map zO ([]:List zW)) rfl rfl (zAb (fun _=>rfl)))<|zA5 (zB7 (k:=0) (o:=4) (rows':=List.map zJ ([]:List zK)) rfl rfl (zAb (fun _=>rfl)))<|zd ?_
    cases h
    exact zCF (zGO Try.isAgg29 Try.sizeOf29 rfl rfl rfl rfl) (zAl rfl rfl) rfl
   refine zS<|zI<|zC<|zA (zM Try.underlying29 rfl rfl Try.sizeOf26 rfl)<|zAJ (zBz (k:=1) (o:=3) (t':=46) (sz:=10) (rows:=List.map zO l4) rfl rfl)<|zA (zN Try.isAgg26 rfl rfl rfl rfl) ?_
   refine zA (zB rfl)<|zA (zR (k:=3) (o:=0) (m:=10) Try.isAgg46 Try.sizeOf46 rfl rfl rfl rfl rfl)<|zL h fun b8 h=>zA (zAR (f:=zO) (l:=l4) (i:=i3) Try.underlying26 Try.sizeOf46 rfl rfl rfl b8)<|za (H':=[.box 29 (zF ⟨[],0,0,[],[]⟩),.box 29 [ls cI d1,li B,li G,AV.hd 4,AV.osl 50 1 (List.map zJ ([]:List zK))],.box 65 (zAV (at_ U i3)),.box 46 (zO x3.1),.vec 46 10 (List.map zO (l4.set i3.toNat x3.1))]) (zDS (k:=4) (o:=(i3.toNat*10)) (f:=zO) (l:=l4) (i:=i3) (z:=x3.1) Try.sizeOf46 (fun _=>rfl) rfl rfl (by first | rfl | omega) b8 rfl rfl)<|zG ?_
   refine zC<|zA (zB rfl)<|zA (zM Try.underlying65 rfl rfl Try.sizeOf3 rfl)<|zA (zN Try.isAgg3 rfl rfl rfl rfl)<|zL h fun b9 h=>zA (zg rfl rfl b9) ?_
   refine zA (zD rfl)<|zG<|zC<|zL h fun b10 h=>zA (zg rfl rfl b10)<|zA (zB rfl) ?_
   refine zG ?_
   exact ⟨((i2+((at_ U i3).count)),(i3+1),(l4.set i3.toNat x3.1)),Rep.trans (zAT (k:=1) (j:=4) (o:=3) rfl rfl rfl rfl) (zAZ [0,1] (l:=[(0,(ls cI A)),(3,(ls zAV U)),(8,(AV.ptr 0 0)),(10,(AV.ptr 1 0)),(11,(li (i2+((at_ U i3).count)))),(30,(ls zAV U)),(31,(li (U.length:Int))),(32,(li (i3+1)))]) rfl rfl (by kernel_rfl)),h⟩
  refine zAC ?_
  exact ⟨l4,zAZ [0,1] rfl rfl (by kernel_rfl),h⟩
 clear h
 intro l1 h
 unfold zE2 at h
 refine zAA (r:=r) (fun (l2:List zK)=>mkE [(8,(AV.ptr 0 0)),(10,(AV.ptr 1 0))]) (fun l2=>[.box 29 (zF ⟨[],0,0,[],[]⟩),.box 29 [ls cI d1,li B,li G,AV.osl 46 10 (List.map zO l1),AV.osl 50 1 (List.map zJ l2)]]) (fun l2=>zH7 B G d1 l1 l2) ?_ ?_
 ·
  refine zI<|zC<|zA (zB rfl)<|zA (ze Try.underlying22 rfl)<|zA (zB rfl)<|zG ?_
  refine zV<|z6 (σ:=Int×(List zK)) (fun (i1,l3)=>mkE [(3,(ls zAV U)),(8,(AV.ptr 0 0)),(10,(AV.ptr 1 0)),(65,(li (A.length:Int))),(66,(li i1))]) (fun (i1,l3)=>[.box 29 (zF ⟨[],0,0,[],[]⟩),.box 29 [ls cI d1,li B,li G,AV.osl 46 10 (List.map zO l1),AV.osl 50 1 (List.map zJ l3)]]) (fun n0 (i1,l3)=>zE3 A B G U d1 l1 n0 i1 l3) (0,([]:List zK)) h (fun _=>rfl) (zAZ [0,1] rfl rfl (by kernel_rfl)) ?_
  clear h
  rintro n0 ⟨i1,l3⟩ h
  replace h:zDF A B G U d1 l1 (zE3 A B G U d1 l1 n0) i1 l3=some r:=h
  unfold zDF at h
  refine zI<|zC<|zA (zi rfl rfl)<|zG<|zI ?_
  refine zY h rfl (fun b2 h => ?_) (fun b2 h => ?_)
  ·refine zS<|zI<|zV<|zI<|zC<|zA (zB rfl) ?_
   refine zA (ze Try.underlying24 rfl)<|zQ h fun x2 w2 h=>zb Try.func27 rfl (by kernel_rfl) (.fn 27) rfl rfl (zPc w2) rfl<|zA (zB rfl)<|zA (zU rfl rfl)<|zA (zU rfl rfl) ?_
   refine zX (H':=[.box 29 (zF ⟨[],0,0,[],[]⟩),.box 29 [ls cI d1,li B,li G,AV.osl 46 10 (List.map zO l1),AV.osl 50 1 (List.map zJ l3)],.box 50 [AV.osl 22 1 (List.map (cS cI) ([]:List (List Int)))]]) zv6<|za (H':=[.box 29 (zF ⟨[],0,0,[],[]⟩),.box 29 [ls cI d1,li B,li G,AV.osl 46 10 (List.map zO l1),AV.osl 50 1 (List.map zJ l3)],.box 50 (zJ x2.1)]) (zT (k:=2) (o:=0) (cs:=[AV.osl 22 1 (List.map (cS cI) ([]:List (List Int)))]) (la:=(zJ x2.1)) Try.sizeOf50 rfl rfl rfl rfl)<|zA (zD rfl)<|zG<|zC<|zA (zM Try.underlying29 rfl rfl Try.sizeOf27 rfl) ?_
   refine zAJ (zBz (k:=1) (o:=4) (t':=50) (sz:=1) (rows:=List.map zJ l3) rfl rfl)<|zA (zN Try.isAgg27 rfl rfl rfl rfl)<|zA (zR (k:=2) (o:=0) (m:=1) Try.isAgg50 Try.sizeOf50 rfl rfl rfl rfl rfl)<|zHF (a:=(AV.agg (zJ x2.1))) zSk Try.underlying27 rfl rfl rfl rfl<|zL h fun b3 h=>zEq (f:=zJ) (k:=3) (j:=4) (l:=l3) (l':=[x2.1]) zSk (fun _=>rfl) Try.underlying27 rfl rfl rfl rfl b3 ?_
   refine zA (zM Try.underlying29 rfl rfl Try.sizeOf27 rfl)<|za (H':=[.box 29 (zF ⟨[],0,0,[],[]⟩),.box 29 [ls cI d1,li B,li G,AV.osl 46 10 (List.map zO l1),AV.hd 5],.box 50 (zJ x2.1),.dead,.vec 50 1 (List.map zJ [x2.1]),.vec 50 1 (List.map zJ (l3++[x2.1]))]) (zGY (k:=1) (o:=4) (cs:=[ls cI d1,li B,li G,AV.osl 46 10 (List.map zO l1),AV.hd 3]) (a:=(AV.hd 5)) Try.sizeOf27 rfl rfl rfl rfl rfl)<|zG<|zC<|zL h fun b4 h=>zA (zg rfl rfl b4) ?_
   refine zA (zB rfl)<|zG ?_
   exact ⟨((i1+1),(l3++[x2.1])),Rep.trans (zAT (k:=1) (j:=5) (o:=4) rfl rfl rfl rfl) (zAZ [0,1] (l:=[(3,(ls zAV U)),(8,(AV.ptr 0 0)),(10,(AV.ptr 1 0)),(65,(li (A.length:Int))),(66,(li (i1+1)))]) rfl rfl (by kernel_rfl)),h⟩
  refine zAC ?_
  exact ⟨l3,zAZ [0,1] rfl rfl (by kernel_rfl),h⟩
 clear h
 intro l2 h
 unfold zH7 at h
 refine zI<|zC<|zAJ (zB7 (k:=1) (o:=3) (rows':=List.map zO l1) rfl rfl (zAb (fun _=>rfl)))<|zAJ (zB7 (k:=1) (o:=4) (rows':=List.map zJ l2) rfl rfl (zAb (fun _=>rfl)))<|zA (zR (k:=1) (o:=0) (m:=5) Try.isAgg29 Try.sizeOf29 rfl rfl rfl rfl rfl)<|za (H':=[.box 29 (zF (⟨d1,B,G,l1,l2⟩:zH)),.box 29 (zF ⟨d1,B,G,l1,l2⟩)]) (zT (k:=0) (o:=0) (cs:=(zF ⟨[],0,0,[],[]⟩)) (la:=(zF (⟨d1,B,G,l1,l2⟩:zH))) Try.sizeOf29 rfl rfl rfl rfl) ?_
 refine zA (zD rfl)<|zG<|zd ?_
 cases h
 exact zCF (zGO Try.isAgg29 Try.sizeOf29 rfl rfl rfl rfl) (zAl rfl rfl) rfl
theorem zET {A:zW} {r:Int} (h:zDk A=some r):PFn Try.prog 36 [(AV.agg (zO A))] (li r):=by
 refine zq Try.func36 rfl Try.ntmps36 Try.results36 rfl ?_
 unfold zDk at h
 refine zI<|zC<|zX (H':=[.box 46 (zO A)]) (z8 (t:=46) rfl)<|zA (zD rfl)<|zG<|zI ?_
 refine zI<|zC<|zA (zR (k:=0) (o:=0) (m:=10) Try.isAgg46 Try.sizeOf46 rfl rfl rfl rfl rfl)<|zQ h fun x1 w1 h=>zAx (r':=(AV.lit (.bool x1))) (la:=[(AV.agg (zO A))]) (la':=[(AV.agg ([li A.node,li A.kind,li A.start,li A.count,li A.min]++([AV.any,AV.any,AV.any,AV.any,AV.any]++[])))]) (r:=(AV.lit (.bool x1))) (S:=[]) Try.func51 rfl (by kernel_rfl) (.fn 51) rfl ⟨zLI (hd:=([li A.node]++[li A.kind]++[li A.start]++[li A.count]++[li A.min])) (tl:=((cA 5 (eS cI) ([]:List Int) A.free))) rfl,trivial⟩ (zK2 w1) (.inl rfl) rfl<|zA (zBf (t:=x1) rfl) ?_
 refine zG ?_
 refine zY h rfl (fun b1 h => ?_) (fun b1 h => ?_)
 ·refine zI<|zC<|zA (zD rfl)<|zG<|zd ?_
  cases h
  exact zy (zAl rfl rfl)
 refine zS ?_
 refine zAA (r:=r) (fun (_:Unit)=>mkE [(1,(AV.ptr 0 0))]) (fun _=>[.box 46 (zO A)]) (fun _=>zF4 A) ?_ ?_
 ·
  refine zI<|zC<|zA (zM Try.underlying46 rfl rfl Try.sizeOf44 rfl)<|zA (zR (k:=0) (o:=5) (m:=5) Try.isAgg44 Try.sizeOf44 rfl rfl rfl rfl rfl)<|zA (zB rfl)<|zG ?_
  refine zV<|z6 (σ:=Int) (fun i6=>mkE [(1,(AV.ptr 0 0)),(23,(AV.agg (cA 5 (eS cI) ([]:List Int) A.free))),(24,(li i6))]) (fun i6=>[.box 46 (zO A)]) (fun n5 i6=>zCr A n5 i6) 0 h (fun _=>rfl) (zAZ [0] rfl rfl (by kernel_rfl)) ?_
  clear h
  intro n5 i6 h
  replace h:zEP A (zCr A n5) i6=some r:=h
  unfold zEP at h
  refine zI<|zC<|zA (zi rfl rfl)<|zG<|zI ?_
  refine zY h rfl (fun b26 h => ?_) (fun b26 h => ?_)
  ·refine zS ?_
   refine zAA (r:=r) (fun (_:Unit)=>mkE [(1,(AV.ptr 0 0)),(23,(AV.agg (cA 5 (eS cI) ([]:List Int) A.free))),(24,(li i6))]) (fun _=>[.box 46 (zO A)]) (fun _=>zHX (zCr A n5) i6) ?_ ?_
   ·
    refine zV<|zI<|zC<|zA (zB rfl)<|zL h fun b28 h=>zA (zNr (la:=cA 5 (eS cI) ([]:List Int) A.free) (i:=i6) (a:=(ls cI (A.free.getD i6.toNat ([]:List Int)))) Try.underlying44 Try.sizeOf22 Try.isAgg22 rfl rfl b28 (zQ6 (zBt b28).2) rfl) ?_
    refine zA (zD rfl)<|zA (zD rfl)<|zG<|zI<|zC<|zA (zB rfl) ?_
    refine zA (ze Try.underlying22 rfl)<|zA (zB rfl)<|zG<|zV<|z6 (σ:=Int) (fun i7=>mkE [(1,(AV.ptr 0 0)),(3,(li i6)),(4,(ls cI (A.free.getD i6.toNat ([]:List Int)))),(23,(AV.agg (cA 5 (eS cI) ([]:List Int) A.free))),(24,(li i6)),(28,(ls cI (A.free.getD i6.toNat ([]:List Int)))),(29,(li ((A.free.getD i6.toNat ([]:List Int)).length:Int))),(30,(li i7))]) (fun i7=>[.box 46 (zO A)]) (fun n6 i7=>zGR (zCr A n5) A i6 n6 i7) 0 h (fun _=>rfl) (zAZ [0] rfl rfl (by kernel_rfl)) ?_
    clear h
    intro n6 i7 h
    replace h:zEM (zCr A n5) A i6 (zGR (zCr A n5) A i6 n6) i7=some r:=h
    unfold zEM at h
    refine zI<|zC<|zA (zi rfl rfl)<|zG<|zI ?_
    refine zY h rfl (fun b29 h => ?_) (fun b29 h => ?_)
    ·refine zS<|zI<|zV<|zI<|zC<|zA (zB rfl) ?_
     refine zL h fun b30 h=>zA (zm Try.underlying22 Try.sizeOf3 (fun _=>rfl) rfl rfl b30)<|zA (zo (o:=0) Try.isAgg3 rfl rfl)<|zA (zD rfl)<|zA (zD rfl)<|zG ?_
     refine zI<|zI<|zC<|zA (zR (k:=0) (o:=0) (m:=10) Try.isAgg46 Try.sizeOf46 rfl rfl rfl rfl rfl)<|zA (zB rfl)<|zA (zB rfl) ?_
     refine zQ h fun x4 w4 h=>zAx (r':=(AV.lit (.bool x4))) (la:=[(AV.agg (zO A)),(li (at_ (A.free.getD i6.toNat ([]:List Int)) i7)),li i6]) (la':=[(AV.agg ([li A.node,li A.kind,li A.start,li A.count,li A.min]++([AV.any,AV.any,AV.any,AV.any,AV.any]++[]))),(li (at_ (A.free.getD i6.toNat ([]:List Int)) i7)),li i6]) (r:=(AV.lit (.bool x4))) (S:=[]) Try.func62 rfl (by kernel_rfl) (.fn 62) rfl ⟨zLI (hd:=([li A.node]++[li A.kind]++[li A.start]++[li A.count]++[li A.min])) (tl:=((cA 5 (eS cI) ([]:List Int) A.free))) rfl,zBI.nr rfl,zBI.nr rfl,trivial⟩ (zEk w4) (.inl rfl) rfl<|zA (zBf (t:=x4) rfl)<|zG ?_
     refine zY h rfl (fun b31 h => ?_) (fun b31 h => ?_)
     ·refine zI<|zC<|zA (zD rfl)<|zG<|zd ?_
      cases h
      exact zy (zAl rfl rfl)
     refine zS<|zI<|zC<|zA (zB rfl)<|zA (zCf rfl rfl)<|zA (zB rfl) ?_
     refine z9 rfl rfl (fun c8=>zv.step (zB rfl))<|z9 rfl rfl (fun c9=>zv.step (zB rfl))<|zL h fun b32 h=>z9 rfl rfl (fun c10=>zv.step (zDv (zAQ rfl c10) rfl (zKB b32 c10)))<|zL h fun b33 h=>z9 rfl rfl (fun c11=>zv.step (zm Try.underlying22 Try.sizeOf3 (fun _=>rfl) (zAQ rfl c11) (zAQ rfl c11) (zKB b33 c11))) ?_
     refine z9 rfl rfl (fun c12=>zv.step (zo (o:=0) Try.isAgg3 (zAQ rfl c12) rfl))<|z9 rfl rfl (fun c13=>zv.step (zB rfl))<|z9 rfl rfl (fun c14=>zv.step (zBp (zAQ rfl c14) (zAQ rfl c14)))<|zA (zAL (j := .lit undef) rfl rfl)<|zG ?_
     refine zY h rfl (fun b34 h => ?_) (fun b34 h => ?_)
     ·refine zI<|zC<|zA (zD rfl)<|zG<|zd ?_
      cases h
      exact zy (zAl rfl rfl)
     refine zS<|zC<|zL h fun b35 h=>zA (zg rfl rfl b35)<|zA (zB rfl)<|zG ?_
     exact ⟨(i7+1),zAZ [0] rfl rfl (by kernel_rfl),h⟩
    refine zAC ?_
    exact ⟨(),zAZ [0] rfl rfl (by kernel_rfl),h⟩
   clear h
   intro _ h
   unfold zHX at h
   refine zC<|zL h fun b27 h=>zA (zg rfl rfl b27)<|zA (zB rfl)<|zG ?_
   exact ⟨(i6+1),zAZ [0] rfl rfl (by kernel_rfl),h⟩
  refine zAC ?_
  exact ⟨(),zAZ [0] rfl rfl (by kernel_rfl),h⟩
 clear h
 intro _ h
 unfold zF4 at h
 refine zI<|zC<|zX (H':=[.box 46 (zO A),.box 109 (cA 256 eB false (List.replicate 256 false))]) zv7<|zG ?_
 refine zAA (r:=r) (fun (_:Unit)=>mkE [(1,(AV.ptr 0 0))]) (fun _=>[.box 46 (zO A)]) (fun _=>zES A) ?_ ?_
 ·
  refine zI<|zC<|zA (zM Try.underlying46 rfl rfl Try.sizeOf44 rfl)<|zA (zR (k:=0) (o:=5) (m:=5) Try.isAgg44 Try.sizeOf44 rfl rfl rfl rfl rfl)<|zA (zB rfl)<|zG ?_
  refine zV<|z6 (σ:=Int×(List Bool)) (fun (i3,d1)=>mkE [(1,(AV.ptr 0 0)),(7,(AV.ptr 1 0)),(54,(AV.agg (cA 5 (eS cI) ([]:List Int) A.free))),(55,(li i3))]) (fun (i3,d1)=>[.box 46 (zO A),.box 109 (cA 256 eB false d1)]) (fun n2 (i3,d1)=>zBX A n2 i3 d1) (0,(List.replicate 256 false)) h (fun _=>rfl) (zAZ [0,1] rfl rfl (by kernel_rfl)) ?_
  clear h
  rintro n2 ⟨i3,d1⟩ h
  replace h:zEI A (zBX A n2) i3 d1=some r:=h
  unfold zEI at h
  refine zI<|zC<|zA (zi rfl rfl)<|zG<|zI ?_
  refine zY h rfl (fun b13 h => ?_) (fun b13 h => ?_)
  ·refine zS ?_
   refine zAA (r:=r) (fun (d2:List Bool)=>mkE [(1,(AV.ptr 0 0)),(7,(AV.ptr 1 0)),(54,(AV.agg (cA 5 (eS cI) ([]:List Int) A.free))),(55,(li i3))]) (fun d2=>[.box 46 (zO A),.box 109 (cA 256 eB false d2)]) (fun d2=>zHg (zBX A n2) i3 d2) ?_ ?_
   ·
    refine zV<|zI<|zC<|zA (zB rfl)<|zL h fun b15 h=>zA (zNr (la:=cA 5 (eS cI) ([]:List Int) A.free) (i:=i3) (a:=(ls cI (A.free.getD i3.toNat ([]:List Int)))) Try.underlying44 Try.sizeOf22 Try.isAgg22 rfl rfl b15 (zQ6 (zBt b15).2) rfl) ?_
    refine zA (zD rfl)<|zA (zD rfl)<|zG<|zI<|zC<|zA (zB rfl) ?_
    refine zA (ze Try.underlying22 rfl)<|zA (zB rfl)<|zG<|zV<|z6 (σ:=Int×(List Bool)) (fun (i4,d3)=>mkE [(1,(AV.ptr 0 0)),(7,(AV.ptr 1 0)),(8,(li i3)),(54,(AV.agg (cA 5 (eS cI) ([]:List Int) A.free))),(55,(li i3)),(59,(ls cI (A.free.getD i3.toNat ([]:List Int)))),(60,(li ((A.free.getD i3.toNat ([]:List Int)).length:Int))),(61,(li i4))]) (fun (i4,d3)=>[.box 46 (zO A),.box 109 (cA 256 eB false d3)]) (fun n3 (i4,d3)=>zCB (zBX A n2) A i3 n3 i4 d3) (0,d1) h (fun _=>rfl) (zAZ [0,1] rfl rfl (by kernel_rfl)) ?_
    clear h
    rintro n3 ⟨i4,d3⟩ h
    replace h:zEL (zBX A n2) A i3 (zCB (zBX A n2) A i3 n3) i4 d3=some r:=h
    unfold zEL at h
    refine zI<|zC<|zA (zi rfl rfl)<|zG<|zI ?_
    refine zY h rfl (fun b16 h => ?_) (fun b16 h => ?_)
    ·refine zS ?_
     refine zAA (r:=r) (fun (d4:List Bool)=>mkE [(1,(AV.ptr 0 0)),(7,(AV.ptr 1 0)),(8,(li i3)),(54,(AV.agg (cA 5 (eS cI) ([]:List Int) A.free))),(55,(li i3)),(59,(ls cI (A.free.getD i3.toNat ([]:List Int)))),(60,(li ((A.free.getD i3.toNat ([]:List Int)).length:Int))),(61,(li i4))]) (fun d4=>[.box 46 (zO A),.box 109 (cA 256 eB false d4)]) (fun d4=>zHY (zCB (zBX A n2) A i3 n3) i4 d4) ?_ ?_
     ·
      refine zV<|zI<|zC<|zL h fun b18 h=>zA (zm Try.underlying22 Try.sizeOf3 (fun _=>rfl) rfl rfl b18)<|zA (zo (o:=0) Try.isAgg3 rfl rfl) ?_
      refine zA (zD rfl)<|zG<|zI<|zC<|zA (zB rfl)<|zA (zD rfl) ?_
      refine zG<|zV<|z6 (σ:=Int×(List Bool)) (fun (i5,d5)=>mkE [(1,(AV.ptr 0 0)),(7,(AV.ptr 1 0)),(8,(li i3)),(11,(li (at_ (A.free.getD i3.toNat ([]:List Int)) i4))),(12,(li i5)),(54,(AV.agg (cA 5 (eS cI) ([]:List Int) A.free))),(55,(li i3)),(59,(ls cI (A.free.getD i3.toNat ([]:List Int)))),(60,(li ((A.free.getD i3.toNat ([]:List Int)).length:Int))),(61,(li i4))]) (fun (i5,d5)=>[.box 46 (zO A),.box 109 (cA 256 eB false d5)]) (fun n4 (i5,d5)=>zGQ (zCB (zBX A n2) A i3 n3) A i3 i4 n4 i5 d5) ((at_ (A.free.getD i3.toNat ([]:List Int)) i4),d3) h (fun _=>rfl) (zAZ [0,1] rfl rfl (by kernel_rfl)) ?_
      clear h
      rintro n4 ⟨i5,d5⟩ h
      replace h:zEY (zCB (zBX A n2) A i3 n3) A i3 i4 (zGQ (zCB (zBX A n2) A i3 n3) A i3 i4 n4) i5 d5=some r:=h
      unfold zEY at h
      refine zI<|zI<|zC<|zA (zB rfl)<|zA (zB rfl)<|zA (zB rfl) ?_
      refine zL h fun b19 h=>zL h fun b20 h=>zA (zGW (a:=1) (b:=i3) rfl rfl b19 b20)<|zL h fun b21 h=>zA (zg rfl rfl b21)<|zA (zi rfl rfl) ?_
      refine zG ?_
      refine zY h rfl (fun b22 h => ?_) (fun b22 h => ?_)
      ·refine zS<|zI<|zV<|zI<|zI<|zC ?_
       refine zA (zB rfl)<|zL h fun b23 h=>zA (zAP (m:=256) (s:=1) (i:=i5) (k:=1) (o:=0) Try.underlying109 Try.sizeOf4 rfl rfl b23)<|zA (zG0 (k:=1) (o:=(0+i5.toNat*1)) (g:=eB) (d0:=false) (l:=d5) (N:=256) (i:=i5.toNat) (a:=(AV.lit (.bool (d5.getD i5.toNat false)))) Try.isAgg4 rfl rfl (congrArg (fun q=>0+q) (Nat.mul_one _)) (zBt b23).2 rfl rfl)<|zG ?_
       refine zY h rfl (fun b24 h => ?_) (fun b24 h => ?_)
       ·refine zI<|zC<|zA (zD rfl)<|zG<|zd ?_
        cases h
        exact zy (zAl rfl rfl)
       refine zS<|zC<|zA (zB rfl)<|zA (zAP (m:=256) (s:=1) (i:=i5) (k:=1) (o:=0) Try.underlying109 Try.sizeOf4 rfl rfl b23)<|za (H':=[.box 46 (zO A),.box 109 (cA 256 eB false (zDY 256 false d5 i5.toNat true))]) (zHl (k:=1) (o:=(0+i5.toNat*1)) (g:=eB) (d0:=false) (l:=d5) (N:=256) (i:=i5.toNat) (v:=true) (a:=(AV.lit (.bool true))) Try.sizeOf4 rfl rfl (congrArg (fun q=>0+q) (Nat.mul_one _)) (zBt b23).2 rfl rfl rfl)<|zG ?_
       refine zC<|zA (zB rfl)<|zL h fun b25 h=>zA (zg rfl rfl b25)<|zA (zD rfl)<|zG ?_
       exact ⟨((i5+1),(zDY 256 false d5 i5.toNat true)),zAZ [0,1] rfl rfl (by kernel_rfl),h⟩
      refine zAC ?_
      exact ⟨d5,zAZ [0,1] rfl rfl (by kernel_rfl),h⟩
     clear h
     intro d4 h
     unfold zHY at h
     refine zC<|zL h fun b17 h=>zA (zg rfl rfl b17)<|zA (zB rfl)<|zG ?_
     exact ⟨((i4+1),d4),zAZ [0,1] rfl rfl (by kernel_rfl),h⟩
    refine zAC ?_
    exact ⟨d3,zAZ [0,1] rfl rfl (by kernel_rfl),h⟩
   clear h
   intro d2 h
   unfold zHg at h
   refine zC<|zL h fun b14 h=>zA (zg rfl rfl b14)<|zA (zB rfl)<|zG ?_
   exact ⟨((i3+1),d2),zAZ [0,1] rfl rfl (by kernel_rfl),h⟩
  refine zAC ?_
  exact ⟨(),zAZ [0] rfl rfl (by kernel_rfl),h⟩
 clear h
 intro _ h
 unfold zES at h
 refine zAA (r:=r) (fun (_:Unit)=>mkE []) (fun _=>[]) (fun _=>zJi ) ?_ ?_
 ·
  refine zI<|zC<|zA (zB rfl)<|zG<|zV<|z6 (σ:=Int) (fun i1=>mkE [(1,(AV.ptr 0 0)),(81,(li i1))]) (fun i1=>[.box 46 (zO A)]) (fun n0 i1=>zCn A n0 i1) 0 h (fun _=>rfl) (zAZ [0] rfl rfl (by kernel_rfl)) ?_
  clear h
  intro n0 i1 h
  replace h:zEa A (zCn A n0) i1=some r:=h
  unfold zEa at h
  refine zI<|zC<|zA (zi rfl rfl)<|zG<|zI ?_
  refine zY h rfl (fun b2 h => ?_) (fun b2 h => ?_)
  ·refine zS ?_
   refine zAA (r:=r) (fun (_:Unit)=>mkE [(1,(AV.ptr 0 0)),(81,(li i1))]) (fun _=>[.box 46 (zO A)]) (fun _=>zHj (zCn A n0) i1) ?_ ?_
   ·
    refine zV<|zI<|zC<|zA (zB rfl)<|zA (zD rfl)<|zG ?_
    refine zI<|zC<|zA (zB rfl)<|zA (zM Try.underlying46 rfl rfl Try.sizeOf44 rfl)<|zL h fun b4 h=>zA (zAP (m:=5) (s:=1) (i:=i1) (k:=0) (o:=5) Try.underlying44 Try.sizeOf22 rfl rfl b4) ?_
    refine zA (zCx (k:=0) (o:=(5+i1.toNat*1)) (cs:=(zO A)) (hd:=([li A.node]++[li A.kind]++[li A.start]++[li A.count]++[li A.min]++[])) (tl:=([])) (g:=(eS cI)) (d0:=([]:List Int)) (l:=A.free) (N:=5) (i:=i1.toNat) (a:=(ls cI (A.free.getD i1.toNat ([]:List Int)))) Try.isAgg22 rfl rfl rfl (congrArg (fun q=>5+q) (Nat.mul_one _)) (zBt b4).2 rfl rfl)<|zA (ze Try.underlying22 rfl)<|zA (zB rfl)<|zG<|zV<|z6 (σ:=Int) (fun i2=>mkE [(1,(AV.ptr 0 0)),(13,(li i1)),(81,(li i1)),(87,(ls cI (A.free.getD i1.toNat ([]:List Int)))),(88,(li ((A.free.getD i1.toNat ([]:List Int)).length:Int))),(89,(li i2))]) (fun i2=>[.box 46 (zO A)]) (fun n1 i2=>zF9 (zCn A n0) A i1 n1 i2) 0 h (fun _=>rfl) (zAZ [0] rfl rfl (by kernel_rfl)) ?_
    clear h
    intro n1 i2 h
    replace h:zEQ (zCn A n0) A i1 (zF9 (zCn A n0) A i1 n1) i2=some r:=h
    unfold zEQ at h
    refine zI<|zC<|zA (zi rfl rfl)<|zG<|zI ?_
    refine zY h rfl (fun b5 h => ?_) (fun b5 h => ?_)
    ·refine zS<|zI<|zV<|zI<|zC<|zL h fun b6 h => ?_
     refine zA (zm Try.underlying22 Try.sizeOf3 (fun _=>rfl) rfl rfl b6)<|zA (zo (o:=0) Try.isAgg3 rfl rfl)<|zA (zD rfl)<|zG<|zI<|zC ?_
     refine zA (zB rfl)<|zA (zB rfl)<|zL h fun b7 h=>zL h fun b8 h=>zA (zGW (a:=1) (b:=i1) rfl rfl b7 b8)<|zA (zRk (k := .i64) (a:=at_ (A.free.getD i1.toNat ([]:List Int)) i2) (b:=(1:Int)*2 ^ i1.toNat) rfl rfl) ?_
     refine zA (zD rfl)<|zG<|zI<|zC<|zA (zB rfl)<|zA (zM Try.underlying46 rfl rfl Try.sizeOf44 rfl) ?_
     refine zL h fun b9 h=>zA (zAP (m:=5) (s:=1) (i:=i1) (k:=0) (o:=5) Try.underlying44 Try.sizeOf22 rfl rfl b9)<|zA (zCx (k:=0) (o:=(5+i1.toNat*1)) (cs:=(zO A)) (hd:=([li A.node]++[li A.kind]++[li A.start]++[li A.count]++[li A.min]++[])) (tl:=([])) (g:=(eS cI)) (d0:=([]:List Int)) (l:=A.free) (N:=5) (i:=i1.toNat) (a:=(ls cI (A.free.getD i1.toNat ([]:List Int)))) Try.isAgg22 rfl rfl rfl (congrArg (fun q=>5+q) (Nat.mul_one _)) (zBt b9).2 rfl rfl)<|zA (zB rfl)<|zQ h fun x2 w2 h=>zb Try.func63 rfl (by kernel_rfl) (.fn 63) rfl rfl (zAh w2) rfl ?_
     refine zA (zB rfl)<|zA (zU rfl rfl)<|zA (zU rfl rfl)<|zA (zD rfl)<|zA (zD rfl)<|zG ?_
     refine zI<|zC<|zA (zB rfl)<|zA (zB rfl)<|z9 rfl rfl (fun c1=>zv.step (zR (k:=0) (o:=0) (m:=10) Try.isAgg46 Try.sizeOf46 rfl rfl rfl rfl rfl))<|z9 rfl rfl (fun c2=>zv.step (zB rfl)) ?_
     refine z9 rfl rfl (fun c3=>zv.step (zB rfl))<|z9 rfl rfl (fun c4=>zv.step (zPa (a:=at_ (A.free.getD i1.toNat ([]:List Int)) i2) (b:=zMk .xor .i64 (at_ (A.free.getD i1.toNat ([]:List Int)) i2) ((1:Int)*2 ^ i1.toNat)) (zAQ rfl c4) (zAQ rfl c4)))<|z9 rfl rfl (fun c5=>zv.step (zB rfl))<|zL h fun b10 h=>z9 rfl rfl (fun c6=>zv.step (zg (zAQ rfl c6) rfl (zKB b10 c6)))<|zQ h fun x3 w3 h => ?_
     refine zGc (g:=107) (s:=x2.2) (r':=(AV.lit (.bool x3))) rfl rfl (fun c7=>⟨62,_,_,[],[(AV.agg (zO A)),(li (min (at_ (A.free.getD i1.toNat ([]:List Int)) i2) (zMk .xor .i64 (at_ (A.free.getD i1.toNat ([]:List Int)) i2) ((1:Int)*2 ^ i1.toNat)))),(li (i1+1))],[(AV.agg ([li A.node,li A.kind,li A.start,li A.count,li A.min]++([AV.any,AV.any,AV.any,AV.any,AV.any]++[]))),(li (min (at_ (A.free.getD i1.toNat ([]:List Int)) i2) (zMk .xor .i64 (at_ (A.free.getD i1.toNat ([]:List Int)) i2) ((1:Int)*2 ^ i1.toNat)))),(li (i1+1))],(AV.lit (.bool x3)),[],Try.func62,rfl,by kernel_rfl,.fn 62,(zAe (zAQ rfl c7) (zAe (zAQ rfl c7) (zAe (zAQ rfl c7) rfl))),⟨zLI (hd:=([li A.node]++[li A.kind]++[li A.start]++[li A.count]++[li A.min])) (tl:=((cA 5 (eS cI) ([]:List Int) A.free))) rfl,zBI.nr rfl,zBI.nr rfl,trivial⟩,zEk (zIL c7 w3),.inl rfl,rfl⟩)<|zA (zAL (j := .lit undef) rfl rfl)<|zG ?_
     refine zY h rfl (fun b11 h => ?_) (fun b11 h => ?_)
     ·refine zI<|zC<|zA (zD rfl)<|zG<|zd ?_
      cases h
      exact zy (zAl rfl rfl)
     refine zS<|zC<|zL h fun b12 h=>zA (zg rfl rfl b12)<|zA (zB rfl)<|zG ?_
     exact ⟨(i2+1),zAZ [0] rfl rfl (by kernel_rfl),h⟩
    refine zAC ?_
    exact ⟨(),zAZ [0] rfl rfl (by kernel_rfl),h⟩
   clear h
   intro _ h
   unfold zHj at h
   refine zC<|zL h fun b3 h=>zA (zg rfl rfl b3)<|zA (zB rfl)<|zG ?_
   exact ⟨(i1+1),zAZ [0] rfl rfl (by kernel_rfl),h⟩
  refine zAC ?_
  exact ⟨(),zAZ [] rfl rfl (by kernel_rfl),h⟩
 clear h
 intro _ h
 unfold zJi at h
 refine zI<|zC<|zA (zD rfl)<|zG<|zd ?_
 cases h
 exact zy (zAl rfl rfl)
theorem zHN {uB:Int} {r:Bool} (h:zCt uB=some r):PFn Try.prog 64 [li uB] (AV.lit (.bool r)):=by
 refine zq Try.func64 rfl Try.ntmps64 Try.results64 rfl ?_
 unfold zCt at h
 refine zI<|zC<|zA (zD rfl)<|zG<|zI<|zC ?_
 refine zA (zB rfl)<|zA (zBp rfl rfl)<|zA (zB rfl)<|z9 rfl rfl (fun c1=>zv.step (zB rfl))<|z9 rfl rfl (fun c2=>zv.step (zi (zAQ rfl c2) rfl))<|zA (zAL (j := .lit undef) rfl rfl) ?_
 refine zA (zD rfl)<|zG<|zd ?_
 cases h
 exact zy (zAl rfl rfl)
theorem zIA {J:zK} {r:List (Int×Bool)} (h:zED J=some r):PFn Try.prog 65 [(AV.agg (zJ J))] (AV.omap (mI Value.bool r)):=by
 refine zq Try.func65 rfl Try.ntmps65 Try.results65 rfl ?_
 unfold zED at h
 refine zI<|zC<|zX (H':=[.box 50 (zJ J)]) (z8 (t:=50) rfl)<|zA (zD rfl)<|zG<|zI ?_
 refine zC<|zX (H':=[.box 50 (zJ J),.map (mI Value.bool ([]:List (Int×Bool)))]) (zMC)<|zA (zD rfl)<|zG ?_
 refine zAA (r:=r) (fun (l1:List (Int×Bool))=>mkE [(3,(AV.hd 0))]) (fun l1=>[.map (mI Value.bool l1)]) (fun l1=>zH4 l1) ?_ ?_
 ·
  refine zI<|zC<|zA (zM Try.underlying50 rfl rfl Try.sizeOf48 rfl)<|zA (zN Try.isAgg48 rfl rfl rfl rfl)<|zA (ze Try.underlying48 rfl)<|zA (zB rfl) ?_
  refine zG<|zV<|z6 (σ:=Int×(List (Int×Bool))) (fun (i1,l2)=>mkE [(3,(AV.hd 0)),(10,(ls (cS cI) J.lists)),(11,(li (J.lists.length:Int))),(12,(li i1))]) (fun (i1,l2)=>[.map (mI Value.bool l2)]) (fun n0 (i1,l2)=>zB1 J n0 i1 l2) (0,([]:List (Int×Bool))) h (fun _=>rfl) (zAZ [1] rfl rfl (by kernel_rfl)) ?_
  clear h
  rintro n0 ⟨i1,l2⟩ h
  replace h:zDE J (zB1 J n0) i1 l2=some r:=h
  unfold zDE at h
  refine zI<|zC<|zA (zi rfl rfl)<|zG<|zI ?_
  refine zY h rfl (fun b1 h => ?_) (fun b1 h => ?_)
  ·refine zS ?_
   refine zAA (r:=r) (fun (l3:List (Int×Bool))=>mkE [(3,(AV.hd 0)),(10,(ls (cS cI) J.lists)),(11,(li (J.lists.length:Int))),(12,(li i1))]) (fun l3=>[.map (mI Value.bool l3)]) (fun l3=>zGT (zB1 J n0) i1 l3) ?_ ?_
   ·
    refine zV<|zI<|zC<|zL h fun b3 h=>zA (zm Try.underlying48 Try.sizeOf22 (fun _=>rfl) rfl rfl b3)<|zA (zo (o:=0) Try.isAgg22 rfl rfl) ?_
    refine zA (zD rfl)<|zG<|zI<|zC<|zA (zB rfl)<|zA (ze Try.underlying22 rfl) ?_
    refine zA (zB rfl)<|zG<|zV<|z6 (σ:=Int×(List (Int×Bool))) (fun (i2,l4)=>mkE [(3,(AV.hd 0)),(10,(ls (cS cI) J.lists)),(11,(li (J.lists.length:Int))),(12,(li i1)),(16,(ls cI (at_ J.lists i1))),(17,(li ((at_ J.lists i1).length:Int))),(18,(li i2))]) (fun (i2,l4)=>[.map (mI Value.bool l4)]) (fun n1 (i2,l4)=>zE5 (zB1 J n0) J i1 n1 i2 l4) (0,l2) h (fun _=>rfl) (zAZ [0] rfl rfl (by kernel_rfl)) ?_
    clear h
    rintro n1 ⟨i2,l4⟩ h
    replace h:zDA (zB1 J n0) J i1 (zE5 (zB1 J n0) J i1 n1) i2 l4=some r:=h
    unfold zDA at h
    refine zI<|zC<|zA (zi rfl rfl)<|zG<|zI ?_
    refine zY h rfl (fun b4 h => ?_) (fun b4 h => ?_)
    ·refine zS<|zI<|zV<|zI<|zC<|zL h fun b5 h => ?_
     refine zA (zm Try.underlying22 Try.sizeOf3 (fun _=>rfl) rfl rfl b5)<|zA (zo (o:=0) Try.isAgg3 rfl rfl)<|zA (zD rfl)<|zG<|zC<|zA (zB rfl) ?_
     refine zA (zB rfl)<|za (H':=[.map (mI Value.bool (zKa l4 (at_ (at_ J.lists i1) i2) true))]) (zOG (k:=0) (g:=Value.bool) (q:=at_ (at_ J.lists i1) i2) (l:=l4) (v:=true) Try.underlying83 Try.underlying3 rfl rfl rfl rfl)<|zG<|zC<|zL h fun b6 h=>zA (zg rfl rfl b6) ?_
     refine zA (zB rfl)<|zG ?_
     exact ⟨((i2+1),(zKa l4 (at_ (at_ J.lists i1) i2) true)),zAZ [0] rfl rfl (by kernel_rfl),h⟩
    refine zAC ?_
    exact ⟨l4,zAZ [0] rfl rfl (by kernel_rfl),h⟩
   clear h
   intro l3 h
   unfold zGT at h
   refine zC<|zL h fun b2 h=>zA (zg rfl rfl b2)<|zA (zB rfl)<|zG ?_
   exact ⟨((i1+1),l3),zAZ [0] rfl rfl (by kernel_rfl),h⟩
  refine zAC ?_
  exact ⟨l2,zAZ [0] rfl rfl (by kernel_rfl),h⟩
 clear h
 intro l1 h
 unfold zH4 at h
 refine zI<|zC<|zA (zB rfl)<|zA (zD rfl)<|zG<|zd ?_
 cases h
 exact zy (zZ2 rfl rfl)
theorem zK1 {J:zK} {Y:Int} {r:Int} (h:zGg J Y=some r):PFn Try.prog 37 [(AV.agg (zJ J)),li Y] (li r):=by
 refine zq Try.func37 rfl Try.ntmps37 Try.results37 rfl ?_
 unfold zGg at h
 refine zI<|zC<|zX (H':=[.box 50 (zJ J)]) (z8 (t:=50) rfl)<|zA (zD rfl)<|zG<|zI ?_
 refine zI<|zC<|zA (zB rfl)<|zA (zi rfl rfl)<|zA (zB rfl)<|zZ rfl rfl (fun c1=>zv.step (zB rfl)) ?_
 refine zZ rfl rfl (fun c2=>zv.step (zCf (zAQ rfl c2) rfl))<|zA (zh rfl rfl)<|zG ?_
 refine zY h rfl (fun b1 h => ?_) (fun b1 h => ?_)
 ·refine zI<|zC<|zA (zD rfl)<|zG<|zd ?_
  cases h
  exact zy (zAl rfl rfl)
 refine zS<|zI<|zI<|zC<|zA (zM Try.underlying50 rfl rfl Try.sizeOf48 rfl)<|zA (zN Try.isAgg48 rfl rfl rfl rfl) ?_
 refine zA (ze Try.underlying48 rfl)<|zA (zB rfl)<|zA (z7 rfl rfl)<|zG ?_
 refine zY h rfl (fun b2 h => ?_) (fun b2 h => ?_)
 ·refine zI<|zC<|zA (zD rfl)<|zG<|zd ?_
  cases h
  exact zy (zAl rfl rfl)
 refine zS<|zI<|zC<|zA (zD rfl)<|zG ?_
 refine zAA (r:=r) (fun (i1:Int)=>mkE [(2,(AV.ptr 0 0)),(5,(li i1))]) (fun i1=>[.box 50 (zJ J)]) (fun i1=>zFj J i1) ?_ ?_
 ·
  refine zI<|zC<|zA (zM Try.underlying50 rfl rfl Try.sizeOf48 rfl)<|zA (zN Try.isAgg48 rfl rfl rfl rfl)<|zA (ze Try.underlying48 rfl)<|zA (zB rfl) ?_
  refine zG<|zV<|z6 (σ:=Int×Int) (fun (i2,i3)=>mkE [(2,(AV.ptr 0 0)),(5,(li i2)),(22,(ls (cS cI) J.lists)),(23,(li (J.lists.length:Int))),(24,(li i3))]) (fun (i2,i3)=>[.box 50 (zJ J)]) (fun n0 (i2,i3)=>zBx J n0 i2 i3) (0,0) h (fun _=>rfl) (zAZ [0] rfl rfl (by kernel_rfl)) ?_
  clear h
  rintro n0 ⟨i2,i3⟩ h
  replace h:zDp J (zBx J n0) i2 i3=some r:=h
  unfold zDp at h
  refine zI<|zC<|zA (zi rfl rfl)<|zG<|zI ?_
  refine zY h rfl (fun b4 h => ?_) (fun b4 h => ?_)
  ·refine zS ?_
   refine zAA (r:=r) (fun (_:Unit)=>mkE [(2,(AV.ptr 0 0)),(5,(li (i2+((at_ J.lists i3).length:Int)))),(22,(ls (cS cI) J.lists)),(23,(li (J.lists.length:Int))),(24,(li i3))]) (fun _=>[.box 50 (zJ J)]) (fun _=>zGt (zBx J n0) J i2 i3) ?_ ?_
   ·
    refine zV<|zI<|zC<|zL h fun b6 h=>zA (zm Try.underlying48 Try.sizeOf22 (fun _=>rfl) rfl rfl b6)<|zA (zo (o:=0) Try.isAgg22 rfl rfl) ?_
    refine zA (zD rfl)<|zG ?_
    refine zAA (r:=r) (fun (_:Unit)=>mkE [(2,(AV.ptr 0 0)),(5,(li i2)),(7,(ls cI (at_ J.lists i3))),(22,(ls (cS cI) J.lists)),(23,(li (J.lists.length:Int))),(24,(li i3))]) (fun _=>[.box 50 (zJ J)]) (fun _=>zHA (zBx J n0) J i2 i3) ?_ ?_
    ·
     refine zI<|zC<|zA (zB rfl)<|zA (ze Try.underlying22 rfl)<|zA (zB rfl)<|zG ?_
     refine zV<|z6 (σ:=Int) (fun i4=>mkE [(2,(AV.ptr 0 0)),(5,(li i2)),(7,(ls cI (at_ J.lists i3))),(22,(ls (cS cI) J.lists)),(23,(li (J.lists.length:Int))),(24,(li i3)),(28,(ls cI (at_ J.lists i3))),(29,(li ((at_ J.lists i3).length:Int))),(30,(li i4))]) (fun i4=>[.box 50 (zJ J)]) (fun n1 i4=>zFe (zBx J n0) J i2 i3 n1 i4) 0 h (fun _=>rfl) (zAZ [0] rfl rfl (by kernel_rfl)) ?_
     clear h
     intro n1 i4 h
     replace h:zDo (zBx J n0) J i2 i3 (zFe (zBx J n0) J i2 i3 n1) i4=some r:=h
     unfold zDo at h
     refine zI<|zC<|zA (zi rfl rfl)<|zG<|zI ?_
     refine zY h rfl (fun b8 h => ?_) (fun b8 h => ?_)
     ·refine zS<|zI<|zV<|zI<|zC<|zL h fun b9 h => ?_
      refine zA (zm Try.underlying22 Try.sizeOf3 (fun _=>rfl) rfl rfl b9)<|zA (zo (o:=0) Try.isAgg3 rfl rfl)<|zA (zD rfl)<|zG<|zI<|zC ?_
      refine zA (zB rfl)<|zQ h fun x2 w2 h=>zb Try.func64 rfl (by kernel_rfl) (.fn 64) rfl rfl (zHN w2) rfl<|zA (zBf (t:=x2) rfl)<|zG ?_
      refine zY h rfl (fun b10 h => ?_) (fun b10 h => ?_)
      ·refine zI<|zC<|zA (zD rfl)<|zG<|zd ?_
       cases h
       exact zy (zAl rfl rfl)
      refine zS<|zC<|zL h fun b11 h=>zA (zg rfl rfl b11)<|zA (zB rfl)<|zG ?_
      exact ⟨(i4+1),zAZ [0] rfl rfl (by kernel_rfl),h⟩
     refine zAC ?_
     exact ⟨(),zAZ [0] rfl rfl (by kernel_rfl),h⟩
    clear h
    intro _ h
    unfold zHA at h
    refine zC<|zA (zB rfl)<|zA (zB rfl)<|zA (ze Try.underlying22 rfl)<|zL h fun b7 h=>zA (zg rfl rfl b7) ?_
    refine zA (zD rfl)<|zG ?_
    exact ⟨(),zAZ [0] rfl rfl (by kernel_rfl),h⟩
   clear h
   intro _ h
   unfold zGt at h
   refine zC<|zL h fun b5 h=>zA (zg rfl rfl b5)<|zA (zB rfl)<|zG ?_
   exact ⟨((i2+((at_ J.lists i3).length:Int)),(i3+1)),zAZ [0] rfl rfl (by kernel_rfl),h⟩
  refine zAC ?_
  exact ⟨i2,zAZ [0] rfl rfl (by kernel_rfl),h⟩
 clear h
 intro i1 h
 unfold zFj at h
 refine zI<|zI<|zC<|zA (zR (k:=0) (o:=0) (m:=1) Try.isAgg50 Try.sizeOf50 rfl rfl rfl rfl rfl)<|zQ h fun x1 w1 h=>zNt (es:=mI Value.bool x1) (la:=[(AV.agg (zJ J))]) (la':=[(AV.agg (zJ J))]) (S:=[]) Try.func65 rfl (by kernel_rfl) (.fn 65) rfl ⟨zBI.nr rfl,trivial⟩ (zIA w1) ?_
 refine zA (zTA (k:=1) (g:=Value.bool) (l:=x1) Try.underlying83 rfl rfl)<|zA (zB rfl)<|zA (z7 rfl rfl)<|zG ?_
 refine zY h rfl (fun b3 h => ?_) (fun b3 h => ?_)
 ·refine zI<|zC<|zA (zD rfl)<|zG<|zd ?_
  cases h
  exact zy (zAl rfl rfl)
 refine zS<|zI<|zC<|zA (zD rfl)<|zG<|zd ?_
 cases h
 exact zy (zAl rfl rfl)
theorem zLw {D:zW} {uF:Int} {r:Bool} (h:zC8 D uF=some r):PFn Try.prog 61 [(AV.agg (zO D)),(AV.rp [li uF] 0)] (AV.lit (.bool r)):=by
 refine zq Try.func61 rfl Try.ntmps61 Try.results61 rfl ?_
 unfold zC8 at h
 refine zI<|zC<|zX (H':=[.box 46 (zO D)]) (z8 (t:=46) rfl)<|zA (zD rfl)<|zG<|zI ?_
 refine zC<|zA (zo (o:=0) Try.isAgg3 rfl rfl)<|zA (zM Try.underlying46 rfl rfl Try.sizeOf3 rfl)<|zA (zN Try.isAgg3 rfl rfl rfl rfl)<|zA (zBp rfl rfl)<|zA (zB rfl) ?_
 refine z9 rfl rfl (fun c1=>zv.step (zo (o:=0) Try.isAgg3 rfl rfl))<|z9 rfl rfl (fun c2=>zv.step (zM Try.underlying46 rfl rfl Try.sizeOf3 rfl))<|z9 rfl rfl (fun c3=>zv.step (zN Try.isAgg3 (zAQ rfl c3) rfl rfl rfl))<|z9 rfl rfl (fun c4=>zv.step (zM Try.underlying46 rfl rfl Try.sizeOf3 rfl))<|z9 rfl rfl (fun c5=>zv.step (zN Try.isAgg3 (zAQ rfl c5) rfl rfl rfl))<|zL h fun b1 h => ?_
 refine z9 rfl rfl (fun c6=>zv.step (zg (zAQ rfl c6) (zAQ rfl c6) (zKB b1 c6)))<|z9 rfl rfl (fun c7=>zv.step (zi (zAQ rfl c7) (zAQ rfl c7)))<|zA (zAL (j := .lit undef) rfl rfl)<|zA (zD rfl)<|zG<|zd ?_
 cases h
 exact zy (zAl rfl rfl)
theorem zFv {Q : List zW} {uB : zW → Option Bool} {g_a_f : FuncId} {cf_a_f : Func} {code_a_f : Code} {caps_a_f : List AV} (hcf_a_f : Try.prog.funcs[g_a_f]? = some cf_a_f) (hcb_a_f : cf_a_f.body = some code_a_f) (hcn_a_f : (cf_a_f.name == "runtime.NumGoroutine") = false) (hnr_a_f : caps_a_f.all nr = true) (hg_a_f : ∀ {x0 : zW} {y : Bool}, uB x0 = some y → PFn Try.prog g_a_f ((AV.agg (zO x0)) :: caps_a_f) (AV.lit (.bool y))) {r : Int} (h : zBO Q uB = some r) : PFn Try.prog 60 [(ls zO Q), (AV.clo g_a_f caps_a_f)] (li r) := by
 refine zq Try.func60 rfl Try.ntmps60 Try.results60 rfl ?_
 unfold zBO at h
 refine zI<|zC<|zA (zD rfl)<|zG ?_
 refine zAA (r:=r) (fun (_:Unit)=>mkE []) (fun _=>[]) (fun _=>zBo ) ?_ ?_
 ·
  refine zI<|zC<|zA (zB rfl)<|zA (ze Try.underlying26 rfl)<|zA (zB rfl)<|zG ?_
  refine zV<|z6 (σ:=Int) (fun i1=>mkE [(0,(ls zO Q)),(1,(AV.clo g_a_f caps_a_f)),(7,(li (Q.length:Int))),(8,(li i1))]) (fun i1=>[]) (fun n0 i1=>zAq Q uB n0 i1) 0 h (fun _=>rfl) (zBg (n:=19) (m:=0) [] (l:=[(0,(ls zO Q)),(1,(AV.clo g_a_f caps_a_f)),(7,(li (Q.length:Int))),(8,(li 0))]) ⟨⟨Sub.refl _,by kernel_rfl⟩,⟨zDz hnr_a_f,zD0 hnr_a_f⟩,⟨Sub.refl _,by kernel_rfl⟩,⟨Sub.refl _,by kernel_rfl⟩,trivial⟩ rfl rfl trivial) ?_
  clear h
  intro n0 i1 h
  replace h:zAK Q uB (zAq Q uB n0) i1=some r:=h
  unfold zAK at h
  refine zI<|zC<|zA (zi rfl rfl)<|zG<|zI ?_
  refine zY h rfl (fun b1 h => ?_) (fun b1 h => ?_)
  ·refine zS<|zI<|zV<|zI<|zC<|zA (zB rfl) ?_
   refine zA (zD rfl)<|zG<|zI<|zC<|zA (zB rfl)<|zA (zB rfl) ?_
   refine zA (zB rfl)<|zL h fun b2 h=>zA (zm Try.underlying26 Try.sizeOf46 (fun _=>rfl) rfl rfl b2)<|zA (zBB (row:=(zO (at_ Q i1))) (o:=0) (m:=10) (la:=(zO (at_ Q i1))) Try.isAgg46 Try.sizeOf46 rfl rfl rfl)<|zQ h fun x1 w1 h=>zAx (S:=[]) hcf_a_f hcb_a_f hcn_a_f (.clo (caps:=caps_a_f) rfl) rfl (zDw.c (zBI.nr rfl) (zDw.nrs hnr_a_f)) (hg_a_f w1) (.inl rfl) rfl ?_
   refine zG ?_
   refine zY h rfl (fun b3 h => ?_) (fun b3 h => ?_)
   ·refine zI<|zC<|zA (zB rfl)<|zA (zD rfl)<|zG<|zd ?_
    cases h
    exact zy (zAl rfl rfl)
   refine zS<|zC<|zL h fun b4 h=>zA (zg rfl rfl b4)<|zA (zB rfl)<|zG ?_
   exact ⟨(i1+1),zBg (n:=19) (m:=0) [] (l:=[(0,(ls zO Q)),(1,(AV.clo g_a_f caps_a_f)),(7,(li (Q.length:Int))),(8,(li (i1+1)))]) ⟨⟨Sub.refl _,by kernel_rfl⟩,⟨zDz hnr_a_f,zD0 hnr_a_f⟩,⟨Sub.refl _,by kernel_rfl⟩,⟨Sub.refl _,by kernel_rfl⟩,trivial⟩ rfl rfl trivial,h⟩
  refine zAC ?_
  exact ⟨(),zAZ [] rfl rfl (by kernel_rfl),h⟩
 clear h
 intro _ h
 unfold zBo at h
 refine zI<|zC<|zA (zD rfl)<|zG<|zd ?_
 cases h
 exact zy (zAl rfl rfl)
theorem zEh {C:zH} {X:Int} {r:Int} (h:zCA C X=some r):PFn Try.prog 34 [(AV.agg (zF C)),li X] (li r):=by
 refine zq Try.func34 rfl Try.ntmps34 Try.results34 rfl ?_
 unfold zCA at h
 refine zI<|zC<|zX (H':=[.box 29 (zF C)]) (z8 (t:=29) rfl)<|zX (H':=[.box 29 (zF C),.box 3 [li X]]) (zIU (t:=3) (a:=(li X)) rfl rfl)<|zA (zD rfl)<|zG ?_
 refine zI<|zC<|zA (zM Try.underlying29 rfl rfl Try.sizeOf26 rfl)<|zA (zN Try.isAgg26 rfl rfl rfl rfl)<|zA (zKg (la:=[AV.ptr 1 0]) rfl)<|zQ h fun x1 w1 h => ?_
 refine zAx (r':=(li x1)) (la:=[ls zO C.zones,(AV.clo 61 [AV.ptr 1 0])]) (la':=[ls zO C.zones,(AV.clo 61 [(AV.rp [li X] 0)])]) (r:=(li x1)) (S:=[1]) Try.func60 rfl (by kernel_rfl) (.fn 60) rfl ⟨zBI.nr rfl,zBI.clo (⟨zBI.ptr (cs:=[li X]) rfl rfl rfl,trivial⟩),trivial⟩ (zFv Try.func61 rfl (by kernel_rfl) rfl (fun hy=>zLw  hy) w1) (.inr trivial) rfl<|zA (zD rfl)<|zG<|zd ?_
 cases h
 exact zy (zAl rfl rfl)
theorem zJN {D:zW} {X:Int} {r:Int×Int} (h:zFk D X=some r):PFn Try.prog 66 [(AV.agg (zO D)),li X] (AV.tup [li r.1,li r.2]):=by
 refine zq Try.func66 rfl Try.ntmps66 Try.results66 rfl ?_
 unfold zFk at h
 refine zI<|zC<|zX (H':=[.box 46 (zO D)]) (z8 (t:=46) rfl)<|zA (zD rfl)<|zA (zD rfl)<|zG ?_
 refine zAA (r:=r) (fun (_:Unit)=>mkE []) (fun _=>[]) (fun _=>zJM ) ?_ ?_
 ·
  refine zI<|zC<|zA (zB rfl)<|zG<|zV<|z6 (σ:=Int) (fun i1=>mkE [(1,(li X)),(2,(AV.ptr 0 0)),(10,(li i1))]) (fun i1=>[.box 46 (zO D)]) (fun n0 i1=>zB9 D X n0 i1) 0 h (fun _=>rfl) (zAZ [0] rfl rfl (by kernel_rfl)) ?_
  clear h
  intro n0 i1 h
  replace h:zCq D X (zB9 D X n0) i1=some r:=h
  unfold zCq at h
  refine zI<|zC<|zA (zi rfl rfl)<|zG<|zI ?_
  refine zY h rfl (fun b1 h => ?_) (fun b1 h => ?_)
  ·refine zS<|zI<|zV<|zI<|zC<|zA (zB rfl) ?_
   refine zA (zD rfl)<|zG<|zI<|zC<|zA (zB rfl)<|zA (zB rfl) ?_
   refine zL h fun b2 h=>zL h fun b3 h=>zA (zGW (a:=1) (b:=i1) rfl rfl b2 b3)<|zL h fun b4 h=>zA (zDv rfl rfl b4)<|zA (zRT (k := .i64) (a:=X) (b:=((1:Int)*2 ^ i1.toNat) - 1) rfl rfl) ?_
   refine zA (zD rfl)<|zG<|zI<|zC<|zA (zB rfl)<|zA (zM Try.underlying46 rfl rfl Try.sizeOf44 rfl) ?_
   refine zL h fun b5 h=>zA (zAP (m:=5) (s:=1) (i:=i1) (k:=0) (o:=5) Try.underlying44 Try.sizeOf22 rfl rfl b5)<|zA (zCx (k:=0) (o:=(5+i1.toNat*1)) (cs:=(zO D)) (hd:=([li D.node]++[li D.kind]++[li D.start]++[li D.count]++[li D.min]++[])) (tl:=([])) (g:=(eS cI)) (d0:=([]:List Int)) (l:=D.free) (N:=5) (i:=i1.toNat) (a:=(ls cI (D.free.getD i1.toNat ([]:List Int)))) Try.isAgg22 rfl rfl rfl (congrArg (fun q=>5+q) (Nat.mul_one _)) (zBt b5).2 rfl rfl)<|zA (zB rfl)<|zQ h fun x1 w1 h=>zb Try.func63 rfl (by kernel_rfl) (.fn 63) rfl rfl (zAh w1) rfl ?_
   refine zA (zB rfl)<|zA (zU rfl rfl)<|zA (zU rfl rfl)<|zA (zD rfl)<|zA (zD rfl)<|zG ?_
   refine zI<|zC<|zA (zB rfl)<|zG ?_
   refine zY h rfl (fun b6 h => ?_) (fun b6 h => ?_)
   ·refine zI<|zC<|zA (zB rfl)<|zA (zB rfl)<|zA (zD rfl)<|zA (zD rfl) ?_
    refine zG<|zd ?_
    cases h
    exact zCF (zAl rfl rfl) (zAl rfl rfl) rfl
   refine zS<|zC<|zL h fun b7 h=>zA (zg rfl rfl b7)<|zA (zB rfl)<|zG ?_
   exact ⟨(i1+1),zAZ [0] rfl rfl (by kernel_rfl),h⟩
  refine zAC ?_
  exact ⟨(),zAZ [] rfl rfl (by kernel_rfl),h⟩
 clear h
 intro _ h
 unfold zJM at h
 refine zI<|zC<|zA (zD rfl)<|zA (zD rfl)<|zG<|zd ?_
 cases h
 exact zCF (zAl rfl rfl) (zAl rfl rfl) rfl
theorem zKo {D:zW} {X:Int} {r:Bool} (h:zGd D X=some r):PFn Try.prog 38 [(AV.agg (zO D)),li X] (AV.lit (.bool r)):=by
 refine zq Try.func38 rfl Try.ntmps38 Try.results38 rfl ?_
 unfold zGd at h
 refine zI<|zC<|zX (H':=[.box 46 (zO D)]) (z8 (t:=46) rfl)<|zA (zD rfl)<|zG<|zI ?_
 refine zI<|zC<|zA (zR (k:=0) (o:=0) (m:=10) Try.isAgg46 Try.sizeOf46 rfl rfl rfl rfl rfl)<|zQ h fun x1 w1 h=>zb Try.func36 rfl (by kernel_rfl) (.fn 36) rfl rfl (zET w1) rfl<|zA (z7 rfl rfl) ?_
 refine zA (zB rfl)<|zZ rfl rfl (fun c1=>zv.step (zR (k:=0) (o:=0) (m:=10) Try.isAgg46 Try.sizeOf46 rfl rfl rfl rfl rfl))<|zZ rfl rfl (fun c2=>zv.step (zB rfl))<|zQ h fun x2 w2 h=>zDa (g:=10) (s := !decide (x1=0)) (r':=(AV.lit (.bool x2))) rfl rfl (fun c3=>⟨62,_,_,[],[(AV.agg (zO D)),li X,li 0],[(AV.agg ([li D.node,li D.kind,li D.start,li D.count,li D.min]++([AV.any,AV.any,AV.any,AV.any,AV.any]++[]))),li X,li 0],(AV.lit (.bool x2)),[],Try.func62,rfl,by kernel_rfl,.fn 62,(zAe (zAQ rfl c3) (zAe (zAQ rfl c3) (zAe rfl rfl))),⟨zLI (hd:=([li D.node]++[li D.kind]++[li D.start]++[li D.count]++[li D.min])) (tl:=((cA 5 (eS cI) ([]:List Int) D.free))) rfl,zBI.nr rfl,zBI.nr rfl,trivial⟩,zEk (zIL c3 w2),.inl rfl,rfl⟩)<|zZ rfl rfl (fun c4=>zv.step (zBf (t:=x2) (zAQ rfl c4))) ?_
 refine zA (zh rfl rfl)<|zG ?_
 refine zY h rfl (fun b1 h => ?_) (fun b1 h => ?_)
 ·refine zI<|zC<|zA (zD rfl)<|zG<|zd ?_
  cases h
  exact zy (zAl rfl rfl)
 refine zS<|zI<|zC<|zA (zR (k:=0) (o:=0) (m:=10) Try.isAgg46 Try.sizeOf46 rfl rfl rfl rfl rfl)<|zA (zB rfl)<|zQ h fun x3 w3 h => ?_
 refine zb Try.func66 rfl (by kernel_rfl) (.fn 66) rfl rfl (zJN w3) rfl<|zA (zB rfl)<|zA (zU rfl rfl)<|zA (zU rfl rfl)<|zA (zD rfl)<|zA (zD rfl) ?_
 refine zG<|zI<|zC<|zA (zB rfl)<|zA (zBp rfl rfl)<|zA (zD rfl) ?_
 refine zG<|zd ?_
 cases h
 exact zy (zAl rfl rfl)
theorem zA2 {A:zH} {r:Int} (h:zAm A=some r):PFn Try.prog 15 [(AV.agg (zF A))] (li r):=by
 refine zq Try.func15 rfl Try.ntmps15 Try.results15 rfl ?_
 unfold zAm at h
 refine zI<|zC<|zX (H':=[.box 29 (zF A)]) (z8 (t:=29) rfl)<|zA (zD rfl)<|zG<|zI ?_
 refine zI<|zC<|zA (zR (k:=0) (o:=0) (m:=5) Try.isAgg29 Try.sizeOf29 rfl rfl rfl rfl rfl)<|zQ h fun x1 w1 h=>zb Try.func25 rfl (by kernel_rfl) (.fn 25) rfl rfl (zIE w1) rfl<|zA (zBf (t:=x1) rfl) ?_
 refine zG ?_
 refine zY h rfl (fun b1 h => ?_) (fun b1 h => ?_)
 ·refine zI<|zC<|zA (zD rfl)<|zG<|zd ?_
  cases h
  exact zy (zAl rfl rfl)
 refine zS<|zI<|zC<|zA (zD rfl)<|zG ?_
 refine zAA (r:=r) (fun (_:Unit)=>mkE [(1,(AV.ptr 0 0))]) (fun _=>[.box 29 (zF A)]) (fun _=>zEA A) ?_ ?_
 ·
  refine zI<|zC<|zA (zM Try.underlying29 rfl rfl Try.sizeOf26 rfl)<|zA (zN Try.isAgg26 rfl rfl rfl rfl)<|zA (ze Try.underlying26 rfl)<|zA (zB rfl) ?_
  refine zG<|zV<|z6 (σ:=Int×Int) (fun (i6,i7)=>mkE [(1,(AV.ptr 0 0)),(3,(li i6)),(23,(ls zO A.zones)),(24,(li (A.zones.length:Int))),(25,(li i7))]) (fun (i6,i7)=>[.box 29 (zF A)]) (fun n5 (i6,i7)=>zEG A n5 i6 i7) (0,0) h (fun _=>rfl) (zAZ [0] rfl rfl (by kernel_rfl)) ?_
  clear h
  rintro n5 ⟨i6,i7⟩ h
  replace h:zCE A (zEG A n5) i6 i7=some r:=h
  unfold zCE at h
  refine zI<|zC<|zA (zi rfl rfl)<|zG<|zI ?_
  refine zY h rfl (fun b23 h => ?_) (fun b23 h => ?_)
  ·refine zS<|zI<|zV<|zI<|zC<|zL h fun b24 h => ?_
   refine zA (zm Try.underlying26 Try.sizeOf46 (fun _=>rfl) rfl rfl b24)<|zA (zBB (row:=(zO (at_ A.zones i7))) (o:=0) (m:=10) (la:=(zO (at_ A.zones i7))) Try.isAgg46 Try.sizeOf46 rfl rfl rfl)<|zX (H':=[.box 29 (zF A),.box 46 (zO ⟨0,0,0,0,0,(List.replicate 5 ([]:List Int))⟩)]) zv0<|za (H':=[.box 29 (zF A),.box 46 (zO (at_ A.zones i7))]) (zT (k:=1) (o:=0) (cs:=(zO ⟨0,0,0,0,0,(List.replicate 5 ([]:List Int))⟩)) (la:=(zO (at_ A.zones i7))) Try.sizeOf46 rfl rfl rfl rfl)<|zG<|zI ?_
   refine zI<|zC<|zA (zR (k:=1) (o:=0) (m:=10) Try.isAgg46 Try.sizeOf46 rfl rfl rfl rfl rfl)<|zQ h fun x5 w5 h=>zb Try.func36 rfl (by kernel_rfl) (.fn 36) rfl rfl (zET w5) rfl<|zA (zD rfl) ?_
   refine zG<|zI<|zC<|zA (zB rfl)<|zA (z7 rfl rfl)<|zG ?_
   refine zY h rfl (fun b25 h => ?_) (fun b25 h => ?_)
   ·refine zI<|zC<|zA (zB rfl)<|zA (zD rfl)<|zG<|zd ?_
    cases h
    exact zy (zAl rfl rfl)
   refine zS<|zI<|zI<|zC<|zA (zM Try.underlying46 rfl rfl Try.sizeOf3 rfl)<|zA (zN Try.isAgg3 rfl rfl rfl rfl) ?_
   refine zA (zB rfl)<|zA (z7 rfl rfl)<|zG ?_
   refine zY h rfl (fun b26 h => ?_) (fun b26 h => ?_)
   ·refine zI<|zC<|zA (zD rfl)<|zG<|zd ?_
    cases h
    exact zy (zAl rfl rfl)
   refine zS<|zC<|zA (zB rfl)<|zA (zM Try.underlying46 rfl rfl Try.sizeOf3 rfl)<|zA (zN Try.isAgg3 rfl rfl rfl rfl)<|zL h fun b27 h => ?_
   refine zA (zg rfl rfl b27)<|zA (zD rfl)<|zG<|zC<|zL h fun b28 h=>zA (zg rfl rfl b28) ?_
   refine zA (zB rfl)<|zG ?_
   exact ⟨((i6+((at_ A.zones i7).count)),(i7+1)),zAZ [0] rfl rfl (by kernel_rfl),h⟩
  refine zAC ?_
  exact ⟨(),zAZ [0] rfl rfl (by kernel_rfl),h⟩
 clear h
 intro _ h
 unfold zEA at h
 refine zI<|zI<|zC<|zA (zM Try.underlying29 rfl rfl Try.sizeOf27 rfl)<|zA (zN Try.isAgg27 rfl rfl rfl rfl)<|zA (ze Try.underlying27 rfl) ?_
 refine zA (zM Try.underlying29 rfl rfl Try.sizeOf22 rfl)<|zA (zN Try.isAgg22 rfl rfl rfl rfl)<|zA (ze Try.underlying22 rfl)<|zA (z7 rfl rfl)<|zG ?_
 refine zY h rfl (fun b2 h => ?_) (fun b2 h => ?_)
 ·refine zI<|zC<|zA (zD rfl)<|zG<|zd ?_
  cases h
  exact zy (zAl rfl rfl)
 refine zS ?_
 refine zAA (r:=r) (fun (_:Unit)=>mkE [(1,(AV.ptr 0 0))]) (fun _=>[.box 29 (zF A)]) (fun _=>zD3 A) ?_ ?_
 ·
  refine zI<|zC<|zA (zM Try.underlying29 rfl rfl Try.sizeOf27 rfl)<|zA (zN Try.isAgg27 rfl rfl rfl rfl)<|zA (ze Try.underlying27 rfl)<|zA (zB rfl) ?_
  refine zG<|zV<|z6 (σ:=Int) (fun i4=>mkE [(1,(AV.ptr 0 0)),(51,(ls zJ A.caches)),(52,(li (A.caches.length:Int))),(53,(li i4))]) (fun i4=>[.box 29 (zF A)]) (fun n3 i4=>zBa A n3 i4) 0 h (fun _=>rfl) (zAZ [0] rfl rfl (by kernel_rfl)) ?_
  clear h
  intro n3 i4 h
  replace h:zCS A (zBa A n3) i4=some r:=h
  unfold zCS at h
  refine zI<|zC<|zA (zi rfl rfl)<|zG<|zI ?_
  refine zY h rfl (fun b15 h => ?_) (fun b15 h => ?_)
  ·refine zS ?_
   refine zAA (r:=r) (fun (_:Unit)=>mkE [(1,(AV.ptr 0 0)),(51,(ls zJ A.caches)),(52,(li (A.caches.length:Int))),(53,(li i4))]) (fun _=>[.box 29 (zF A)]) (fun _=>zFJ (zBa A n3) i4) ?_ ?_
   ·
    refine zV<|zI<|zC<|zL h fun b17 h=>zA (zm Try.underlying27 Try.sizeOf50 (fun _=>rfl) rfl rfl b17)<|zA (zBB (row:=(zJ (at_ A.caches i4))) (o:=0) (m:=1) (la:=(zJ (at_ A.caches i4))) Try.isAgg50 Try.sizeOf50 rfl rfl rfl) ?_
    refine zX (H':=[.box 29 (zF A),.box 50 [(ls (cS cI) ([]:List (List Int)))]]) zv1<|za (H':=[.box 29 (zF A),.box 50 (zJ (at_ A.caches i4))]) (zT (k:=1) (o:=0) (cs:=[(ls (cS cI) ([]:List (List Int)))]) (la:=(zJ (at_ A.caches i4))) Try.sizeOf50 rfl rfl rfl rfl)<|zG<|zI<|zI<|zC ?_
    refine zA (zR (k:=1) (o:=0) (m:=1) Try.isAgg50 Try.sizeOf50 rfl rfl rfl rfl rfl)<|zA (zM Try.underlying29 rfl rfl Try.sizeOf26 rfl)<|zA (zN Try.isAgg26 rfl rfl rfl rfl)<|zA (ze Try.underlying26 rfl)<|zQ h fun x4 w4 h=>zb Try.func37 rfl (by kernel_rfl) (.fn 37) rfl rfl (zK1 w4) rfl ?_
    refine zA (zD rfl)<|zG<|zI<|zC<|zA (zB rfl)<|zA (z7 rfl rfl) ?_
    refine zG ?_
    refine zY h rfl (fun b18 h => ?_) (fun b18 h => ?_)
    ·refine zI<|zC<|zA (zB rfl)<|zA (zD rfl)<|zG<|zd ?_
     cases h
     exact zy (zAl rfl rfl)
    refine zS<|zI<|zC<|zA (zM Try.underlying50 rfl rfl Try.sizeOf48 rfl)<|zA (zN Try.isAgg48 rfl rfl rfl rfl)<|zA (ze Try.underlying48 rfl) ?_
    refine zA (zB rfl)<|zG<|zV<|z6 (σ:=Int) (fun i5=>mkE [(1,(AV.ptr 0 0)),(51,(ls zJ A.caches)),(52,(li (A.caches.length:Int))),(53,(li i4)),(66,(ls (cS cI) ((at_ A.caches i4).lists))),(67,(li (((at_ A.caches i4).lists).length:Int))),(68,(li i5))]) (fun i5=>[.box 29 (zF A)]) (fun n4 i5=>zEB (zBa A n3) A i4 n4 i5) 0 h (fun _=>rfl) (zAZ [0] rfl rfl (by kernel_rfl)) ?_
    clear h
    intro n4 i5 h
    replace h:zCT (zBa A n3) A i4 (zEB (zBa A n3) A i4 n4) i5=some r:=h
    unfold zCT at h
    refine zI<|zC<|zA (zi rfl rfl)<|zG<|zI ?_
    refine zY h rfl (fun b19 h => ?_) (fun b19 h => ?_)
    ·refine zS<|zI<|zV<|zI<|zC<|zL h fun b20 h => ?_
     refine zA (zm Try.underlying48 Try.sizeOf22 (fun _=>rfl) rfl rfl b20)<|zA (zo (o:=0) Try.isAgg22 rfl rfl)<|zA (zD rfl)<|zG<|zI<|zC ?_
     refine zA (zB rfl)<|zA (ze Try.underlying22 rfl)<|zA (zM Try.underlying29 rfl rfl Try.sizeOf3 rfl)<|zA (zN Try.isAgg3 rfl rfl rfl rfl)<|zA (zCf rfl rfl)<|zG ?_
     refine zY h rfl (fun b21 h => ?_) (fun b21 h => ?_)
     ·refine zI<|zC<|zA (zD rfl)<|zG<|zd ?_
      cases h
      exact zy (zAl rfl rfl)
     refine zS<|zC<|zL h fun b22 h=>zA (zg rfl rfl b22)<|zA (zB rfl)<|zG ?_
     exact ⟨(i5+1),zAZ [0] rfl rfl (by kernel_rfl),h⟩
    refine zAC ?_
    exact ⟨(),zAZ [0] rfl rfl (by kernel_rfl),h⟩
   clear h
   intro _ h
   unfold zFJ at h
   refine zC<|zL h fun b16 h=>zA (zg rfl rfl b16)<|zA (zB rfl)<|zG ?_
   exact ⟨(i4+1),zAZ [0] rfl rfl (by kernel_rfl),h⟩
  refine zAC ?_
  exact ⟨(),zAZ [0] rfl rfl (by kernel_rfl),h⟩
 clear h
 intro _ h
 unfold zD3 at h
 refine zI<|zC<|zX (H':=[.box 29 (zF A),.map (mI Value.bool ([]:List (Int×Bool)))]) (zMC)<|zA (zD rfl)<|zG ?_
 refine zAA (r:=r) (fun (_:Unit)=>mkE []) (fun _=>[]) (fun _=>zG2 ) ?_ ?_
 ·
  refine zI<|zC<|zA (zM Try.underlying29 rfl rfl Try.sizeOf27 rfl)<|zA (zN Try.isAgg27 rfl rfl rfl rfl)<|zA (ze Try.underlying27 rfl)<|zA (zB rfl) ?_
  refine zG<|zV<|z6 (σ:=Int×(List (Int×Bool))) (fun (i1,l1)=>mkE [(1,(AV.ptr 0 0)),(12,(AV.hd 1)),(81,(ls zJ A.caches)),(82,(li (A.caches.length:Int))),(83,(li i1))]) (fun (i1,l1)=>[.box 29 (zF A),.map (mI Value.bool l1)]) (fun n0 (i1,l1)=>zAg A n0 i1 l1) (0,([]:List (Int×Bool))) h (fun _=>rfl) (zAZ [0,1] rfl rfl (by kernel_rfl)) ?_
  clear h
  rintro n0 ⟨i1,l1⟩ h
  replace h:zCJ A (zAg A n0) i1 l1=some r:=h
  unfold zCJ at h
  refine zI<|zC<|zA (zi rfl rfl)<|zG<|zI ?_
  refine zY h rfl (fun b3 h => ?_) (fun b3 h => ?_)
  ·refine zS ?_
   refine zAA (r:=r) (fun (l2:List (Int×Bool))=>mkE [(1,(AV.ptr 0 0)),(12,(AV.hd 1)),(81,(ls zJ A.caches)),(82,(li (A.caches.length:Int))),(83,(li i1))]) (fun l2=>[.box 29 (zF A),.map (mI Value.bool l2)]) (fun l2=>zFT (zAg A n0) i1 l2) ?_ ?_
   ·
    refine zV<|zI<|zC<|zL h fun b5 h=>zA (zm Try.underlying27 Try.sizeOf50 (fun _=>rfl) rfl rfl b5)<|zA (zBB (row:=(zJ (at_ A.caches i1))) (o:=0) (m:=1) (la:=(zJ (at_ A.caches i1))) Try.isAgg50 Try.sizeOf50 rfl rfl rfl) ?_
    refine zX (H':=[.box 29 (zF A),.map (mI Value.bool l1),.box 50 [(ls (cS cI) ([]:List (List Int)))]]) zv1<|za (H':=[.box 29 (zF A),.map (mI Value.bool l1),.box 50 (zJ (at_ A.caches i1))]) (zT (k:=2) (o:=0) (cs:=[(ls (cS cI) ([]:List (List Int)))]) (la:=(zJ (at_ A.caches i1))) Try.sizeOf50 rfl rfl rfl rfl)<|zG<|zI<|zC<|zA (zM Try.underlying50 rfl rfl Try.sizeOf48 rfl) ?_
    refine zA (zN Try.isAgg48 rfl rfl rfl rfl)<|zA (ze Try.underlying48 rfl)<|zA (zB rfl)<|zG<|zV<|z6 (σ:=Int×(List (Int×Bool))) (fun (i2,l3)=>mkE [(1,(AV.ptr 0 0)),(12,(AV.hd 1)),(81,(ls zJ A.caches)),(82,(li (A.caches.length:Int))),(83,(li i1)),(88,(ls (cS cI) ((at_ A.caches i1).lists))),(89,(li (((at_ A.caches i1).lists).length:Int))),(90,(li i2))]) (fun (i2,l3)=>[.box 29 (zF A),.map (mI Value.bool l3)]) (fun n1 (i2,l3)=>zA1 (zAg A n0) A i1 n1 i2 l3) (0,l1) h (fun _=>rfl) (zAZ [0,1] rfl rfl (by kernel_rfl)) ?_
    clear h
    rintro n1 ⟨i2,l3⟩ h
    replace h:zCY (zAg A n0) A i1 (zA1 (zAg A n0) A i1 n1) i2 l3=some r:=h
    unfold zCY at h
    refine zI<|zC<|zA (zi rfl rfl)<|zG<|zI ?_
    refine zY h rfl (fun b6 h => ?_) (fun b6 h => ?_)
    ·refine zS ?_
     refine zAA (r:=r) (fun (l4:List (Int×Bool))=>mkE [(1,(AV.ptr 0 0)),(12,(AV.hd 1)),(81,(ls zJ A.caches)),(82,(li (A.caches.length:Int))),(83,(li i1)),(88,(ls (cS cI) ((at_ A.caches i1).lists))),(89,(li (((at_ A.caches i1).lists).length:Int))),(90,(li i2))]) (fun l4=>[.box 29 (zF A),.map (mI Value.bool l4)]) (fun l4=>zFS (zA1 (zAg A n0) A i1 n1) i2 l4) ?_ ?_
     ·
      refine zV<|zI<|zC<|zA (zB rfl)<|zL h fun b8 h=>zA (zm Try.underlying48 Try.sizeOf22 (fun _=>rfl) rfl rfl b8) ?_
      refine zA (zo (o:=0) Try.isAgg22 rfl rfl)<|zA (zD rfl)<|zA (zD rfl)<|zG<|zI<|zC ?_
      refine zA (zB rfl)<|zA (ze Try.underlying22 rfl)<|zA (zB rfl)<|zG<|zV<|z6 (σ:=Int×(List (Int×Bool))) (fun (i3,l5)=>mkE [(1,(AV.ptr 0 0)),(12,(AV.hd 1)),(15,(li i2)),(81,(ls zJ A.caches)),(82,(li (A.caches.length:Int))),(83,(li i1)),(88,(ls (cS cI) ((at_ A.caches i1).lists))),(89,(li (((at_ A.caches i1).lists).length:Int))),(90,(li i2)),(95,(ls cI (at_ ((at_ A.caches i1).lists) i2))),(96,(li ((at_ ((at_ A.caches i1).lists) i2).length:Int))),(97,(li i3))]) (fun (i3,l5)=>[.box 29 (zF A),.map (mI Value.bool l5)]) (fun n2 (i3,l5)=>zBs (zA1 (zAg A n0) A i1 n1) A i1 i2 n2 i3 l5) (0,l3) h (fun _=>rfl) (zAZ [0,1] rfl rfl (by kernel_rfl)) ?_
      clear h
      rintro n2 ⟨i3,l5⟩ h
      replace h:zCW (zA1 (zAg A n0) A i1 n1) A i1 i2 (zBs (zA1 (zAg A n0) A i1 n1) A i1 i2 n2) i3 l5=some r:=h
      unfold zCW at h
      refine zI<|zC<|zA (zi rfl rfl)<|zG<|zI ?_
      refine zY h rfl (fun b9 h => ?_) (fun b9 h => ?_)
      ·refine zS<|zI<|zV<|zI<|zC<|zL h fun b10 h => ?_
       refine zA (zm Try.underlying22 Try.sizeOf3 (fun _=>rfl) rfl rfl b10)<|zA (zo (o:=0) Try.isAgg3 rfl rfl)<|zA (zD rfl)<|zG<|zI<|zI ?_
       refine zC<|zA (zR (k:=0) (o:=0) (m:=5) Try.isAgg29 Try.sizeOf29 rfl rfl rfl rfl rfl)<|zA (zB rfl)<|zQ h fun x2 w2 h=>zb Try.func34 rfl (by kernel_rfl) (.fn 34) rfl rfl (zEh w2) rfl<|zA (zB rfl) ?_
       refine zA (z7 rfl rfl)<|zG ?_
       refine zY h rfl (fun b11 h => ?_) (fun b11 h => ?_)
       ·refine zI<|zC<|zA (zD rfl)<|zG<|zd ?_
        cases h
        exact zy (zAl rfl rfl)
       refine zS<|zI<|zI<|zC<|zA (zB rfl)<|zA (zB rfl) ?_
       refine zA (zN5 (k:=1) (g:=Value.bool) (q:=at_ (at_ ((at_ A.caches i1).lists) i2) i3) (l:=l5) (dflt:=false) (a:=(AV.lit (.bool (zMB false l5 (at_ (at_ ((at_ A.caches i1).lists) i2) i3))))) Try.underlying83 Try.underlying3 Try.zeroValue4 rfl rfl rfl rfl)<|zA (zB rfl)<|zZ rfl rfl (fun c1=>zv.step (zM Try.underlying29 rfl rfl Try.sizeOf26 rfl))<|zZ rfl rfl (fun c2=>zv.step (zN Try.isAgg26 (zAQ rfl c2) rfl rfl rfl))<|zZ rfl rfl (fun c3=>zv.step (zB rfl))<|zL h fun b12 h => ?_
       refine zZ rfl rfl (fun c4=>zv.step (zm Try.underlying26 Try.sizeOf46 (fun _=>rfl) (zAQ rfl c4) (zAQ rfl c4) (zKB b12 c4)))<|zZ rfl rfl (fun c5=>zv.step (zBB (row:=(zO (at_ A.zones i2))) (o:=0) (m:=10) (la:=(zO (at_ A.zones i2))) Try.isAgg46 Try.sizeOf46 (zAQ rfl c5) rfl rfl))<|zZ rfl rfl (fun c6=>zv.step (zB rfl))<|zQ h fun x3 w3 h=>zDa (g:=109) (s:=zMB false l5 (at_ (at_ ((at_ A.caches i1).lists) i2) i3)) (r':=(AV.lit (.bool x3))) rfl rfl (fun c7=>⟨38,_,_,[],[(AV.agg (zO (at_ A.zones i2))),(li (at_ (at_ ((at_ A.caches i1).lists) i2) i3))],[(AV.agg (zO (at_ A.zones i2))),(li (at_ (at_ ((at_ A.caches i1).lists) i2) i3))],(AV.lit (.bool x3)),[],Try.func38,rfl,by kernel_rfl,.fn 38,(zAe (zAQ rfl c7) (zAe (zAQ rfl c7) rfl)),⟨zBI.nr rfl,zBI.nr rfl,trivial⟩,zKo (zIL c7 w3),.inl rfl,rfl⟩)<|zA (zh rfl rfl) ?_
       refine zG ?_
       refine zY h rfl (fun b13 h => ?_) (fun b13 h => ?_)
       ·refine zI<|zC<|zA (zD rfl)<|zG<|zd ?_
        cases h
        exact zy (zAl rfl rfl)
       refine zS<|zC<|zA (zB rfl)<|zA (zB rfl)<|za (H':=[.box 29 (zF A),.map (mI Value.bool (zKa l5 (at_ (at_ ((at_ A.caches i1).lists) i2) i3) true))]) (zOG (k:=1) (g:=Value.bool) (q:=at_ (at_ ((at_ A.caches i1).lists) i2) i3) (l:=l5) (v:=true) Try.underlying83 Try.underlying3 rfl rfl rfl rfl)<|zG ?_
       refine zC<|zL h fun b14 h=>zA (zg rfl rfl b14)<|zA (zB rfl)<|zG ?_
       exact ⟨((i3+1),(zKa l5 (at_ (at_ ((at_ A.caches i1).lists) i2) i3) true)),zAZ [0,1] rfl rfl (by kernel_rfl),h⟩
      refine zAC ?_
      exact ⟨l5,zAZ [0,1] rfl rfl (by kernel_rfl),h⟩
     clear h
     intro l4 h
     unfold zFS at h
     refine zC<|zL h fun b7 h=>zA (zg rfl rfl b7)<|zA (zB rfl)<|zG ?_
     exact ⟨((i2+1),l4),zAZ [0,1] rfl rfl (by kernel_rfl),h⟩
    refine zAC ?_
    exact ⟨l3,zAZ [0,1] rfl rfl (by kernel_rfl),h⟩
   clear h
   intro l2 h
   unfold zFT at h
   refine zC<|zL h fun b4 h=>zA (zg rfl rfl b4)<|zA (zB rfl)<|zG ?_
   exact ⟨((i1+1),l2),zAZ [0,1] rfl rfl (by kernel_rfl),h⟩
  refine zAC ?_
  exact ⟨(),zAZ [] rfl rfl (by kernel_rfl),h⟩
 clear h
 intro _ h
 unfold zG2 at h
 refine zI<|zC<|zA (zD rfl)<|zG<|zd ?_
 cases h
 exact zy (zAl rfl rfl)
theorem zIt {C:zH} {r:Int} (h:zC6 C=some r):PFn Try.prog 13 [(AV.agg (zF C))] (li r):=by
 refine zq Try.func13 rfl Try.ntmps13 Try.results13 rfl ?_
 unfold zC6 at h
 refine zI<|zC<|zX (H':=[.box 29 (zF C)]) (z8 (t:=29) rfl)<|zA (zD rfl)<|zG<|zI ?_
 refine zI<|zC<|zA (zR (k:=0) (o:=0) (m:=5) Try.isAgg29 Try.sizeOf29 rfl rfl rfl rfl rfl)<|zQ h fun x1 w1 h=>zb Try.func15 rfl (by kernel_rfl) (.fn 15) rfl rfl (zA2 w1) rfl<|zA (z7 rfl rfl) ?_
 refine zG ?_
 refine zY h rfl (fun b1 h => ?_) (fun b1 h => ?_)
 ·refine zI<|zC<|zA (zD rfl)<|zG<|zd ?_
  cases h
  exact zy (zAl rfl rfl)
 refine zS<|zI<|zC<|zA (zM Try.underlying29 rfl rfl Try.sizeOf26 rfl)<|zA (zN Try.isAgg26 rfl rfl rfl rfl)<|zA (zM Try.underlying29 rfl rfl Try.sizeOf26 rfl) ?_
 refine zA (zN Try.isAgg26 rfl rfl rfl rfl)<|zA (ze Try.underlying26 rfl)<|zL h fun b2 h=>zA (zDv rfl rfl b2)<|zL h fun b3 h=>zA (zm Try.underlying26 Try.sizeOf46 (fun _=>rfl) rfl rfl b3) ?_
 refine zA (zBB (row:=(zO (at_ C.zones ((C.zones.length:Int) - 1)))) (o:=0) (m:=10) (la:=(zO (at_ C.zones ((C.zones.length:Int) - 1)))) Try.isAgg46 Try.sizeOf46 rfl rfl rfl)<|zX (H':=[.box 29 (zF C),.box 46 (zO ⟨0,0,0,0,0,(List.replicate 5 ([]:List Int))⟩)]) zv0<|za (H':=[.box 29 (zF C),.box 46 (zO (at_ C.zones ((C.zones.length:Int) - 1)))]) (zT (k:=1) (o:=0) (cs:=(zO ⟨0,0,0,0,0,(List.replicate 5 ([]:List Int))⟩)) (la:=(zO (at_ C.zones ((C.zones.length:Int) - 1)))) Try.sizeOf46 rfl rfl rfl rfl)<|zG<|zI<|zC ?_
 refine zA (zM Try.underlying46 rfl rfl Try.sizeOf3 rfl)<|zA (zN Try.isAgg3 rfl rfl rfl rfl)<|zA (zM Try.underlying46 rfl rfl Try.sizeOf3 rfl)<|zA (zN Try.isAgg3 rfl rfl rfl rfl)<|zL h fun b4 h=>zA (zg rfl rfl b4) ?_
 refine zA (zD rfl)<|zG<|zd ?_
 cases h
 exact zy (zAl rfl rfl)
theorem zMf {D:zW} {E:Int} {r:Int} (h:zHZ D E=some r):PFn Try.prog 96 [(AV.agg (zO D)),li E] (li r):=by
 refine zq Try.func96 rfl Try.ntmps96 Try.results96 rfl ?_
 unfold zHZ at h
 refine zI<|zC<|zX (H':=[.box 46 (zO D)]) (z8 (t:=46) rfl)<|zA (zD rfl)<|zG<|zI ?_
 refine zI<|zC<|zA (zR (k:=0) (o:=0) (m:=10) Try.isAgg46 Try.sizeOf46 rfl rfl rfl rfl rfl)<|zQ h fun x1 w1 h=>zb Try.func36 rfl (by kernel_rfl) (.fn 36) rfl rfl (zET w1) rfl<|zA (z7 rfl rfl) ?_
 refine zA (zB rfl)<|zZ rfl rfl (fun c1=>zv.step (zB rfl))<|zZ rfl rfl (fun c2=>zv.step (zi (zAQ rfl c2) rfl))<|zA (zh rfl rfl)<|zA (zB rfl)<|zZ rfl rfl (fun c3=>zv.step (zB rfl)) ?_
 refine zZ rfl rfl (fun c4=>zv.step (zCf (zAQ rfl c4) rfl))<|zA (zh rfl rfl)<|zG ?_
 refine zY h rfl (fun b1 h => ?_) (fun b1 h => ?_)
 ·refine zI<|zC<|zA (zD rfl)<|zG<|zd ?_
  cases h
  exact zy (zAl rfl rfl)
 refine zS<|zI<|zC<|zA (zD rfl)<|zG ?_
 refine zAA (r:=r) (fun (i1:Int)=>mkE [(5,(li i1))]) (fun i1=>[]) (fun i1=>zHT i1) ?_ ?_
 ·
  refine zI<|zC<|zA (zM Try.underlying46 rfl rfl Try.sizeOf44 rfl)<|zA (zB rfl)<|zAJ (zVa (k:=0) (cs:=(zO D)) (cs':=(zO D)) (ds:=[(2,0),(19,5)]) rfl rfl rfl ⟨rfl,rfl,trivial⟩)<|zL h fun b2 h => ?_
  refine zL h fun b3 h=>zA (zP2 (o:=5) (cs:=(zO D)) (hd:=([li D.node]++[li D.kind]++[li D.start]++[li D.count]++[li D.min]++[])) (tl:=([])) (g:=(eS cI)) (d0:=([]:List Int)) (l:=D.free) (hi:=E) (f:=(cS cI)) Try.underlying44 Try.sizeOf22 rfl rfl rfl (fun _=>rfl) rfl b2 b3 rfl)<|zA (ze Try.underlying48 rfl)<|zA (zB rfl)<|zG<|zV ?_
  refine z6 (σ:=Int×Int) (fun (i2,i3)=>mkE [(5,(li i2)),(21,(ls (cS cI) (zFX D.free 0 E))),(22,(li ((zFX D.free 0 E).length:Int))),(23,(li i3))]) (fun (i2,i3)=>[]) (fun n0 (i2,i3)=>zEn D E n0 i2 i3) (0,0) h (fun _=>rfl) (zAZ [] rfl rfl (by kernel_rfl)) ?_
  clear h
  rintro n0 ⟨i2,i3⟩ h
  replace h:zCk D E (zEn D E n0) i2 i3=some r:=h
  unfold zCk at h
  refine zI<|zC<|zA (zi rfl rfl)<|zG<|zI ?_
  refine zY h rfl (fun b4 h => ?_) (fun b4 h => ?_)
  ·refine zS<|zI<|zV<|zI<|zC<|zA (zB rfl) ?_
   refine zL h fun b5 h=>zA (zm Try.underlying48 Try.sizeOf22 (fun _=>rfl) rfl rfl b5)<|zA (zo (o:=0) Try.isAgg22 rfl rfl)<|zA (zD rfl)<|zA (zD rfl)<|zG ?_
   refine zC<|zA (zB rfl)<|zA (zB rfl)<|zA (ze Try.underlying22 rfl)<|zA (zB rfl)<|zL h fun b6 h => ?_
   refine zL h fun b7 h=>zA (zGW (a:=((at_ (zFX D.free 0 E) i3).length:Int)) (b:=i3) rfl rfl b6 b7)<|zL h fun b8 h=>zA (zg rfl rfl b8)<|zA (zD rfl)<|zG ?_
   refine zC<|zL h fun b9 h=>zA (zg rfl rfl b9)<|zA (zB rfl)<|zG ?_
   exact ⟨((i2+(((at_ (zFX D.free 0 E) i3).length:Int)*2 ^ i3.toNat)),(i3+1)),zAZ [] rfl rfl (by kernel_rfl),h⟩
  refine zAC ?_
  exact ⟨i2,zAZ [] rfl rfl (by kernel_rfl),h⟩
 clear h
 intro i1 h
 unfold zHT at h
 refine zI<|zC<|zA (zB rfl)<|zA (zD rfl)<|zG<|zd ?_
 cases h
 exact zy (zAl rfl rfl)
theorem zPf {D:zW} {r:Int} (h:zLG D=some r):PFn Try.prog 97 [(AV.agg (zO D))] (li r):=by
 refine zq Try.func97 rfl Try.ntmps97 Try.results97 rfl ?_
 unfold zLG at h
 refine zI<|zC<|zX (H':=[.box 46 (zO D)]) (z8 (t:=46) rfl)<|zA (zD rfl)<|zG<|zI ?_
 refine zI<|zC<|zA (zR (k:=0) (o:=0) (m:=10) Try.isAgg46 Try.sizeOf46 rfl rfl rfl rfl rfl)<|zQ h fun x1 w1 h=>zb Try.func36 rfl (by kernel_rfl) (.fn 36) rfl rfl (zET w1) rfl<|zA (z7 rfl rfl) ?_
 refine zG ?_
 refine zY h rfl (fun b1 h => ?_) (fun b1 h => ?_)
 ·refine zI<|zC<|zA (zD rfl)<|zG<|zd ?_
  cases h
  exact zy (zAl rfl rfl)
 refine zS<|zI<|zC<|zA (zM Try.underlying46 rfl rfl Try.sizeOf44 rfl)<|zA (zAP (m:=5) (s:=1) (i:=4) (k:=0) (o:=5) Try.underlying44 Try.sizeOf22 rfl rfl (by decide))<|zA (zCx (k:=0) (o:=9) (cs:=(zO D)) (hd:=([li D.node]++[li D.kind]++[li D.start]++[li D.count]++[li D.min]++[])) (tl:=([])) (g:=(eS cI)) (d0:=([]:List Int)) (l:=D.free) (N:=5) (i:=(4:Int).toNat) (a:=(ls cI (D.free.getD (4:Int).toNat ([]:List Int)))) Try.isAgg22 rfl rfl rfl rfl (by decide) rfl rfl) ?_
 refine zA (ze Try.underlying22 rfl)<|zL h fun b2 h=>zA (zGW (a:=((D.free.getD (4:Int).toNat ([]:List Int)).length:Int)) (b:=4) rfl rfl (by decide) b2)<|zA (zD rfl)<|zG<|zd ?_
 cases h
 exact zy (zAl rfl rfl)
theorem zOp {D:zW} {r:Int} (h:zIq D=some r):PFn Try.prog 73 [(AV.agg (zO D))] (li r):=by
 refine zq Try.func73 rfl Try.ntmps73 Try.results73 rfl ?_
 unfold zIq at h
 refine zI<|zC<|zX (H':=[.box 46 (zO D)]) (z8 (t:=46) rfl)<|zA (zD rfl)<|zG<|zI ?_
 refine zQ h fun x1 w1 h=>zQ h fun x2 w2 h=>zL h fun b1 h => ?_
 refine zBr (n:=8) (m:=0) [.head 0 0,.head 0 0,.head 0 0,.head 0 0,.head 0 0,.head 0 0] [] [(AV.agg (zO D)),li x1,(AV.agg (zO D)),li x2,(li (x1+x2)),(li (x1+x2))] [[.box 46 (zO D)]] (by kernel_rfl) (by kernel_rfl) ⟨D1 fun e s p=>zR (k:=0) (o:=0) (m:=10) Try.isAgg46 Try.sizeOf46 (s 1 rfl) rfl rfl rfl rfl,?_,D1 fun e s p=>zR (k:=0) (o:=0) (m:=10) Try.isAgg46 Try.sizeOf46 (s 1 rfl) rfl rfl rfl rfl,?_,D1 fun e s p=>zg (a:=x1) (b:=x2) p.1 p.2.1 b1,D1 fun e s p=>zD p.2.2.2.2.2.2.1,trivial⟩ ?_
 ·
  intro e2 s2 p2
  refine zb (r:=(li x1)) (la:=[(AV.agg (zO D)),li 4]) Try.func96 rfl (by kernel_rfl) (.fn 96) (zAe p2.1 (zAe rfl rfl)) rfl (zMf w1) rfl ?_
  exact zG ⟨fun _=>rfl,rfl⟩
 ·
  intro e4 s4 p4
  refine zb (r:=(li x2)) (la:=[(AV.agg (zO D))]) Try.func97 rfl (by kernel_rfl) (.fn 97) (zAe p4.1 rfl) rfl (zPf w2) rfl ?_
  exact zG ⟨fun _=>rfl,rfl⟩
 intro e7 s7 hq1
 refine zA5 (zCy (l:=[(2,(li (x1+x2)))]) ⟨(hq1 5 (by decide) (by decide)),trivial⟩)<|zd ?_
 cases h
 exact zy (zAl rfl rfl)
theorem zG6 {C:zH} {D:Int} {r:Int} (h:zDi C D=some r):PFn Try.prog 41 [(AV.agg (zF C)),li D] (li r):=by
 refine zq Try.func41 rfl Try.ntmps41 Try.results41 rfl ?_
 unfold zDi at h
 refine zI<|zC<|zX (H':=[.box 29 (zF C)]) (z8 (t:=29) rfl)<|zA (zD rfl)<|zG<|zI ?_
 refine zC<|zA (zM Try.underlying29 rfl rfl Try.sizeOf26 rfl)<|zA (zN Try.isAgg26 rfl rfl rfl rfl)<|zA (zB rfl)<|zL h fun b1 h=>zA (zm Try.underlying26 Try.sizeOf46 (fun _=>rfl) rfl rfl b1) ?_
 refine zA (zBB (row:=(zO (at_ C.zones D))) (o:=0) (m:=10) (la:=(zO (at_ C.zones D))) Try.isAgg46 Try.sizeOf46 rfl rfl rfl)<|zQ h fun x1 w1 h=>zb Try.func73 rfl (by kernel_rfl) (.fn 73) rfl rfl (zOp w1) rfl<|zA (zD rfl)<|zG ?_
 refine zAA (r:=r) (fun (i1:Int)=>mkE [(5,(li i1))]) (fun i1=>[]) (fun i1=>zHE i1) ?_ ?_
 ·
  refine zI<|zC<|zA (zM Try.underlying29 rfl rfl Try.sizeOf27 rfl)<|zA (zN Try.isAgg27 rfl rfl rfl rfl)<|zA (ze Try.underlying27 rfl)<|zA (zB rfl) ?_
  refine zG<|zV<|z6 (σ:=Int×Int) (fun (i2,i3)=>mkE [(1,(li D)),(5,(li i2)),(15,(ls zJ C.caches)),(16,(li (C.caches.length:Int))),(17,(li i3))]) (fun (i2,i3)=>[]) (fun n0 (i2,i3)=>zD2 C D n0 i2 i3) (x1,0) h (fun _=>rfl) (zAZ [] rfl rfl (by kernel_rfl)) ?_
  clear h
  rintro n0 ⟨i2,i3⟩ h
  replace h:zCc C D (zD2 C D n0) i2 i3=some r:=h
  unfold zCc at h
  refine zI<|zC<|zA (zi rfl rfl)<|zG<|zI ?_
  refine zY h rfl (fun b2 h => ?_) (fun b2 h => ?_)
  ·refine zS<|zI<|zV<|zI<|zC<|zL h fun b3 h => ?_
   refine zA (zm Try.underlying27 Try.sizeOf50 (fun _=>rfl) rfl rfl b3)<|zA (zBB (row:=(zJ (at_ C.caches i3))) (o:=0) (m:=1) (la:=(zJ (at_ C.caches i3))) Try.isAgg50 Try.sizeOf50 rfl rfl rfl)<|zX (H':=[.box 50 [(ls (cS cI) ([]:List (List Int)))]]) zv1<|za (H':=[.box 50 (zJ (at_ C.caches i3))]) (zT (k:=0) (o:=0) (cs:=[(ls (cS cI) ([]:List (List Int)))]) (la:=(zJ (at_ C.caches i3))) Try.sizeOf50 rfl rfl rfl rfl)<|zG<|zC ?_
   refine zA (zB rfl)<|zA (zM Try.underlying50 rfl rfl Try.sizeOf48 rfl)<|zA (zN Try.isAgg48 rfl rfl rfl rfl)<|zA (zB rfl)<|zL h fun b4 h=>zA (zm Try.underlying48 Try.sizeOf22 (fun _=>rfl) rfl rfl b4) ?_
   refine zA (zo (o:=0) Try.isAgg22 rfl rfl)<|zA (ze Try.underlying22 rfl)<|zL h fun b5 h=>zA (zg rfl rfl b5)<|zA (zD rfl)<|zG ?_
   refine zC<|zL h fun b6 h=>zA (zg rfl rfl b6)<|zA (zB rfl)<|zG ?_
   exact ⟨((i2+((at_ ((at_ C.caches i3).lists) D).length:Int)),(i3+1)),zAZ [] rfl rfl (by kernel_rfl),h⟩
  refine zAC ?_
  exact ⟨i2,zAZ [] rfl rfl (by kernel_rfl),h⟩
 clear h
 intro i1 h
 unfold zHE at h
 refine zI<|zC<|zA (zB rfl)<|zA (zD rfl)<|zG<|zd ?_
 cases h
 exact zy (zAl rfl rfl)
theorem zFu {C:zH} {D:Int} {r:Int} (h:zCu C D=some r):PFn Try.prog 39 [(AV.agg (zF C)),li D] (li r):=by
 refine zq Try.func39 rfl Try.ntmps39 Try.results39 rfl ?_
 unfold zCu at h
 refine zI<|zC<|zX (H':=[.box 29 (zF C)]) (z8 (t:=29) rfl)<|zA (zD rfl)<|zG<|zI ?_
 refine zQ h fun x1 w1 h=>zL h fun b1 h=>zL h fun b2 h => ?_
 refine zBr (n:=15) (m:=0) [.head 0 0,.head 0 0,.head 0 0,.head 0 0,.head 0 0,.head 0 0,.head 0 0,.head 0 0,.head 0 0,.head 0 0,.head 0 0] [] [(AV.agg (zF C)),li D,li x1,AV.ptr 0 3,ls zO C.zones,li D,(AV.rp (zO (at_ C.zones D)) 0),(AV.rp (zO (at_ C.zones D)) 4),(li ((at_ C.zones D).min)),(li (x1 - ((at_ C.zones D).min))),(li (x1 - ((at_ C.zones D).min)))] [[.box 29 (zF C)]] (by kernel_rfl) (by kernel_rfl) ⟨D1 fun e s p=>zR (k:=0) (o:=0) (m:=5) Try.isAgg29 Try.sizeOf29 (s 2 rfl) rfl rfl rfl rfl,D1 fun e s p=>zB (s 1 rfl),?_,D1 fun e s p=>zM (k:=0) (o:=0) (off:=3) Try.underlying29 rfl rfl Try.sizeOf26 (s 2 rfl),D1 fun e s p=>zN (k:=0) (o:=3) Try.isAgg26 p.1 rfl rfl rfl,D1 fun e s p=>zB (s 1 rfl),D1 fun e s p=>zm (f:=zO) (l:=C.zones) (i:=D) Try.underlying26 Try.sizeOf46 (fun _=>rfl) p.1 p.2.1 b1,D1 fun e s p=>zLo (row:=(zO (at_ C.zones D))) (o:=0) (off:=4) Try.underlying46 rfl rfl Try.sizeOf3 p.1,D1 fun e s p=>zo (o:=4) Try.isAgg3 p.1 rfl,D1 fun e s p=>zDv (a:=x1) (b:=(at_ C.zones D).min) p.1 p.2.1 b2,D1 fun e s p=>zD p.2.2.2.2.2.2.2.2.2.2.2.1,trivial⟩ ?_
 ·
  intro e3 s3 p3
  refine zb (r:=(li x1)) (la:=[(AV.agg (zF C)),li D]) Try.func41 rfl (by kernel_rfl) (.fn 41) (zAe p3.1 (zAe p3.2.1 rfl)) rfl (zG6 w1) rfl ?_
  exact zG ⟨fun _=>rfl,rfl⟩
 intro e12 s12 hq1
 refine zA5 (zCy (l:=[(4,(li (x1 - ((at_ C.zones D).min))))]) ⟨(hq1 10 (by decide) (by decide)),trivial⟩)<|zd ?_
 cases h
 exact zy (zAl rfl rfl)
theorem zKq {C:zH} {r:Int×Int} (h:zG1 C=some r):PFn Try.prog 16 [(AV.agg (zF C))] (AV.tup [li r.1,li r.2]):=by
 refine zq Try.func16 rfl Try.ntmps16 Try.results16 rfl ?_
 unfold zG1 at h
 refine zI<|zC<|zX (H':=[.box 29 (zF C)]) (z8 (t:=29) rfl)<|zA (zD rfl)<|zA (zD rfl)<|zG ?_
 refine zI<|zI<|zC<|zA (zR (k:=0) (o:=0) (m:=5) Try.isAgg29 Try.sizeOf29 rfl rfl rfl rfl rfl)<|zQ h fun x1 w1 h=>zb Try.func15 rfl (by kernel_rfl) (.fn 15) rfl rfl (zA2 w1) rfl ?_
 refine zA (z7 rfl rfl)<|zG ?_
 refine zY h rfl (fun b1 h => ?_) (fun b1 h => ?_)
 ·refine zI<|zC<|zA (zD rfl)<|zA (zD rfl)<|zG<|zd ?_
  cases h
  exact zCF (zAl rfl rfl) (zAl rfl rfl) rfl
 refine zS<|zI<|zC<|zA (zD rfl)<|zA (zD rfl)<|zG ?_
 refine zAA (r:=r) (fun ((i1,i2):Int×Int)=>mkE [(4,(li i1)),(5,(li i2))]) (fun (i1,i2)=>[]) (fun (i1,i2)=>zFf i1 i2) ?_ ?_
 ·
  refine zI<|zC<|zA (zM Try.underlying29 rfl rfl Try.sizeOf26 rfl)<|zA (zN Try.isAgg26 rfl rfl rfl rfl)<|zA (ze Try.underlying26 rfl)<|zA (zB rfl) ?_
  refine zG<|zV<|z6 (σ:=Int×Int×Int) (fun (i3,i4,i5)=>mkE [(1,(AV.ptr 0 0)),(4,(li i3)),(5,(li i4)),(13,(ls zO C.zones)),(14,(li (C.zones.length:Int))),(15,(li i5))]) (fun (i3,i4,i5)=>[.box 29 (zF C)]) (fun n0 (i3,i4,i5)=>zCz C n0 i3 i4 i5) (0,0,0) h (fun _=>rfl) (zAZ [0] rfl rfl (by kernel_rfl)) ?_
  clear h
  rintro n0 ⟨i3,i4,i5⟩ h
  replace h:zFi C (zCz C n0) i3 i4 i5=some r:=h
  unfold zFi at h
  refine zI<|zC<|zA (zi rfl rfl)<|zG<|zI ?_
  refine zY h rfl (fun b2 h => ?_) (fun b2 h => ?_)
  ·refine zS ?_
   refine zAA (r:=r) (fun ((i6,i7):Int×Int)=>mkE [(1,(AV.ptr 0 0)),(4,(li i6)),(5,(li i7)),(13,(ls zO C.zones)),(14,(li (C.zones.length:Int))),(15,(li i5))]) (fun (i6,i7)=>[.box 29 (zF C)]) (fun (i6,i7)=>zEF (zCz C n0) i5 i6 i7) ?_ ?_
   ·
    refine zV<|zI<|zC<|zA (zB rfl)<|zL h fun b4 h=>zA (zm Try.underlying26 Try.sizeOf46 (fun _=>rfl) rfl rfl b4) ?_
    refine zA (zBB (row:=(zO (at_ C.zones i5))) (o:=0) (m:=10) (la:=(zO (at_ C.zones i5))) Try.isAgg46 Try.sizeOf46 rfl rfl rfl)<|zX (H':=[.box 29 (zF C),.box 46 (zO ⟨0,0,0,0,0,(List.replicate 5 ([]:List Int))⟩)]) zv0<|zA (zD rfl)<|za (H':=[.box 29 (zF C),.box 46 (zO (at_ C.zones i5))]) (zT (k:=1) (o:=0) (cs:=(zO ⟨0,0,0,0,0,(List.replicate 5 ([]:List Int))⟩)) (la:=(zO (at_ C.zones i5))) Try.sizeOf46 rfl rfl rfl rfl)<|zG<|zI ?_
    refine zC<|zA (zR (k:=0) (o:=0) (m:=5) Try.isAgg29 Try.sizeOf29 rfl rfl rfl rfl rfl)<|zA (zB rfl)<|zQ h fun x2 w2 h=>zb Try.func39 rfl (by kernel_rfl) (.fn 39) rfl rfl (zFu w2) rfl<|zA (zD rfl) ?_
    refine zG<|zI<|zC<|zA (zB rfl)<|zA (zB rfl)<|zL h fun b5 h => ?_
    refine zA (zg rfl rfl b5)<|zA (zD rfl)<|zG<|zI<|zC<|zA (zM Try.underlying46 rfl rfl Try.sizeOf3 rfl) ?_
    refine zA (zN Try.isAgg3 rfl rfl rfl rfl)<|zA (zBe rfl rfl)<|zG ?_
    refine zY h rfl (fun b6 h => ?_) (fun b6 h => ?_)
    ·refine zC<|zA (zB rfl)<|zA (zB rfl)<|zL h fun b7 h=>zA (zg rfl rfl b7)<|zA (zD rfl) ?_
     refine zG ?_
     exact ⟨((i3+x2),(i4+x2)),zAZ [0] rfl rfl (by kernel_rfl),h⟩
    refine zS ?_
    exact ⟨(i3,(i4+x2)),zAZ [0] rfl rfl (by kernel_rfl),h⟩
   clear h
   rintro ⟨i6,i7⟩ h
   unfold zEF at h
   refine zC<|zL h fun b3 h=>zA (zg rfl rfl b3)<|zA (zB rfl)<|zG ?_
   exact ⟨(i6,i7,(i5+1)),zAZ [0] rfl rfl (by kernel_rfl),h⟩
  refine zAC ?_
  exact ⟨(i3,i4),zAZ [] rfl rfl (by kernel_rfl),h⟩
 clear h
 rintro ⟨i1,i2⟩ h
 unfold zFf at h
 refine zI<|zC<|zA (zB rfl)<|zA (zB rfl)<|zA (zD rfl)<|zA (zD rfl) ?_
 refine zG<|zd ?_
 cases h
 exact zCF (zAl rfl rfl) (zAl rfl rfl) rfl
theorem zM1 {Y:List zW} {r:Int} (h:zHb Y=some r):PFn Try.prog 93 [ls zO Y] (li r):=by
 refine zq Try.func93 rfl Try.ntmps93 Try.results93 rfl ?_
 unfold zHb at h
 refine zI<|zC<|zA (zD rfl)<|zG<|zI<|zI ?_
 refine zC<|zA (zB rfl)<|zA (ze Try.underlying26 rfl)<|zA (zCf rfl rfl)<|zG ?_
 refine zY h rfl (fun b1 h => ?_) (fun b1 h => ?_)
 ·refine zI<|zC<|zA (zD rfl)<|zG<|zd ?_
  cases h
  exact zy (zAl rfl rfl)
 refine zS ?_
 refine zAA (r:=r) (fun (_:Unit)=>mkE []) (fun _=>[]) (fun _=>zHI ) ?_ ?_
 ·
  refine zI<|zC<|zA (zB rfl)<|zA (ze Try.underlying26 rfl)<|zA (zB rfl)<|zG ?_
  refine zV<|z6 (σ:=Int) (fun i1=>mkE [(8,(ls zO Y)),(9,(li (Y.length:Int))),(10,(li i1))]) (fun i1=>[]) (fun n0 i1=>zEj Y n0 i1) 0 h (fun _=>rfl) (zAZ [] rfl rfl (by kernel_rfl)) ?_
  clear h
  intro n0 i1 h
  replace h:zCl Y (zEj Y n0) i1=some r:=h
  unfold zCl at h
  refine zI<|zC<|zA (zi rfl rfl)<|zG<|zI ?_
  refine zY h rfl (fun b2 h => ?_) (fun b2 h => ?_)
  ·refine zS<|zI<|zV<|zI<|zC<|zL h fun b3 h => ?_
   refine zA (zm Try.underlying26 Try.sizeOf46 (fun _=>rfl) rfl rfl b3)<|zA (zBB (row:=(zO (at_ Y i1))) (o:=0) (m:=10) (la:=(zO (at_ Y i1))) Try.isAgg46 Try.sizeOf46 rfl rfl rfl)<|zX (H':=[.box 46 (zO ⟨0,0,0,0,0,(List.replicate 5 ([]:List Int))⟩)]) zv0<|za (H':=[.box 46 (zO (at_ Y i1))]) (zT (k:=0) (o:=0) (cs:=(zO ⟨0,0,0,0,0,(List.replicate 5 ([]:List Int))⟩)) (la:=(zO (at_ Y i1))) Try.sizeOf46 rfl rfl rfl rfl)<|zG<|zI ?_
   refine zI<|zC<|zA (zM Try.underlying46 rfl rfl Try.sizeOf3 rfl)<|zA (zN Try.isAgg3 rfl rfl rfl rfl)<|zA (zi rfl rfl)<|zA (zB rfl) ?_
   refine zZ rfl rfl (fun c1=>zv.step (zM Try.underlying46 rfl rfl Try.sizeOf3 rfl))<|zZ rfl rfl (fun c2=>zv.step (zN Try.isAgg3 (zAQ rfl c2) rfl rfl rfl))<|zZ rfl rfl (fun c3=>zv.step (zBp (zAQ rfl c3) rfl))<|zA (zh rfl rfl)<|zG ?_
   refine zY h rfl (fun b4 h => ?_) (fun b4 h => ?_)
   ·refine zI<|zC<|zA (zD rfl)<|zG<|zd ?_
    cases h
    exact zy (zAl rfl rfl)
   refine zS<|zI<|zC<|zA (zM Try.underlying46 rfl rfl Try.sizeOf3 rfl)<|zA (zN Try.isAgg3 rfl rfl rfl rfl)<|zA (z7 rfl rfl) ?_
   refine zA (zB rfl)<|z9 rfl rfl (fun c4=>zv.step (zM Try.underlying46 rfl rfl Try.sizeOf3 rfl))<|z9 rfl rfl (fun c5=>zv.step (zN Try.isAgg3 (zAQ rfl c5) rfl rfl rfl))<|z9 rfl rfl (fun c6=>zv.step (z7 (zAQ rfl c6) rfl))<|zA (zAL (j := .lit undef) rfl rfl)<|zG ?_
   refine zY h rfl (fun b5 h => ?_) (fun b5 h => ?_)
   ·refine zI<|zC<|zA (zD rfl)<|zG<|zd ?_
    cases h
    exact zy (zAl rfl rfl)
   refine zS<|zC<|zL h fun b6 h=>zA (zg rfl rfl b6)<|zA (zB rfl)<|zG ?_
   exact ⟨(i1+1),zAZ [] rfl rfl (by kernel_rfl),h⟩
  refine zAC ?_
  exact ⟨(),zAZ [] rfl rfl (by kernel_rfl),h⟩
 clear h
 intro _ h
 unfold zHI at h
 refine zI<|zC<|zA (zD rfl)<|zG<|zd ?_
 cases h
 exact zy (zAl rfl rfl)
theorem zM7 {Y:List zW} {I:Int} {r:Int} (h:zHa Y I=some r):PFn Try.prog 67 [ls zO Y,li I] (li r):=by
 refine zq Try.func67 rfl Try.ntmps67 Try.results67 rfl ?_
 unfold zHa at h
 refine zI<|zC<|zA (zD rfl)<|zG<|zI<|zI ?_
 refine zC<|zA (zB rfl)<|zQ h fun x1 w1 h=>zb Try.func93 rfl (by kernel_rfl) (.fn 93) rfl rfl (zM1 w1) rfl<|zA (zD rfl)<|zG ?_
 refine zI<|zC<|zA (zB rfl)<|zA (z7 rfl rfl)<|zG ?_
 refine zY h rfl (fun b1 h => ?_) (fun b1 h => ?_)
 ·refine zI<|zC<|zA (zB rfl)<|zA (zD rfl)<|zG<|zd ?_
  cases h
  exact zy (zAl rfl rfl)
 refine zS<|zI<|zI<|zC<|zA (zB rfl)<|zA (zi rfl rfl) ?_
 refine zA (zB rfl)<|zZ rfl rfl (fun c1=>zv.step (zB rfl))<|zZ rfl rfl (fun c2=>zv.step (zBp (zAQ rfl c2) rfl))<|zA (zh rfl rfl)<|zG ?_
 refine zY h rfl (fun b2 h => ?_) (fun b2 h => ?_)
 ·refine zI<|zC<|zA (zD rfl)<|zG<|zd ?_
  cases h
  exact zy (zAl rfl rfl)
 refine zS<|zI<|zC<|zA (zD rfl)<|zG<|zd ?_
 cases h
 exact zy (zAl rfl rfl)
theorem zN8 {uW:Int} {I:Int} {r:Int} (h:zHq uW I=some r):PFn Try.prog 69 [li uW,li I] (li r):=by
 refine zq Try.func69 rfl Try.ntmps69 Try.results69 rfl ?_
 unfold zHq at h
 refine zI<|zC<|zA (zD rfl)<|zG<|zI<|zI ?_
 refine zC<|zA (zB rfl)<|zA (zB rfl)<|zA (zi rfl rfl)<|zG ?_
 refine zY h rfl (fun b1 h => ?_) (fun b1 h => ?_)
 ·refine zI<|zC<|zA (zB rfl)<|zA (zB rfl)<|zL h fun b2 h=>zA (zDv rfl rfl b2) ?_
  refine zL h fun b3 h=>zA (zMT (a:=2) (b:=uW - I) rfl rfl b3)<|zA (zD rfl)<|zG<|zd ?_
  cases h
  exact zy (zAl rfl rfl)
 refine zS<|zI<|zC<|zA (zB rfl)<|zA (zB rfl)<|zL h fun b4 h => ?_
 refine zA (zDv rfl rfl b4)<|zL h fun b5 h=>zA (zMT (a:=2) (b:=I - uW) rfl rfl b5)<|zL h fun b6 h=>zA (zg rfl rfl b6)<|zA (zD rfl) ?_
 refine zG<|zd ?_
 cases h
 exact zy (zAl rfl rfl)
theorem zL0 {uT:Int} {uF:Int} {uK:List zW} {r:Int} (h:zA3 uT uF uK=some r):PFn Try.prog 68 [li uT,(AV.rp [li uF] 0),(AV.rp [ls zO uK] 0)] (li r):=by
 refine zq Try.func68 rfl Try.ntmps68 Try.results68 rfl ?_
 unfold zA3 at h
 refine zI<|zC<|zA (zD rfl)<|zG<|zI<|zL h fun b1 h => ?_
 refine zQ h fun x1 w1 h=>zL h fun b2 h => ?_
 refine zBr (n:=23) (m:=0) [.head 0 0,.head 0 0,.head 0 0,.head 0 0,.head 0 0,.head 0 0,.head 0 0,.head 0 0,.head 0 0] [] [li uF,ls zO uK,li uT,(AV.rp (zO (at_ uK uT)) 0),(AV.rp (zO (at_ uK uT)) 0),(li ((at_ uK uT).node)),li x1,(li (2*x1)),(li (2*x1))] [[]] (by kernel_rfl) (by kernel_rfl) ⟨D1 fun e s p=>zo (o:=0) Try.isAgg3 (s 1 rfl) rfl,D1 fun e s p=>zo (o:=0) Try.isAgg26 (s 2 rfl) rfl,D1 fun e s p=>zB (s 0 rfl),D1 fun e s p=>zm (f:=zO) (l:=uK) (i:=uT) Try.underlying26 Try.sizeOf46 (fun _=>rfl) p.1 p.2.1 b1,D1 fun e s p=>zLo (row:=(zO (at_ uK uT))) (o:=0) (off:=0) Try.underlying46 rfl rfl Try.sizeOf3 p.1,D1 fun e s p=>zo (o:=0) Try.isAgg3 p.1 rfl,?_,D1 fun e s p=>zMT (a:=2) (b:=x1) rfl p.1 b2,D1 fun e s p=>zD p.2.2.2.2.2.2.2.2.2.1,trivial⟩ ?_
 ·
  intro e7 s7 p7
  refine zb (r:=(li x1)) (la:=[li uF,(li ((at_ uK uT).node))]) Try.func69 rfl (by kernel_rfl) (.fn 69) (zAe p7.1 (zAe p7.2.1 rfl)) rfl (zN8 w1) rfl ?_
  exact zG ⟨fun _=>rfl,rfl⟩
 intro e10 s10 hq1
 refine zA5 (zCy (l:=[(0,(li uT)),(2,(AV.rp [ls zO uK] 0)),(5,(li (2*x1)))]) ⟨s10 0 rfl,s10 2 rfl,(hq1 8 (by decide) (by decide)),trivial⟩) ?_
 refine zAA (r:=r) (fun (i1:Int)=>mkE [(5,(li i1))]) (fun i1=>[]) (fun i1=>zDt i1) ?_ ?_
 ·
  refine zI<|zC<|zA (zo (o:=0) Try.isAgg26 rfl rfl)<|zA (zB rfl)<|zA (zm Try.underlying26 Try.sizeOf46 (fun _=>rfl) rfl rfl b1)<|zA (zLo (row:=(zO (at_ uK uT))) (o:=0) (off:=1) Try.underlying46 rfl rfl Try.sizeOf3 rfl) ?_
  refine zA (zo (o:=1) Try.isAgg3 rfl rfl)<|zA (zBe rfl rfl)<|zG ?_
  refine zY h rfl (fun b3 h => ?_) (fun b3 h => ?_)
  ·refine zC<|zA (zB rfl)<|zL h fun b4 h=>zA (zg rfl rfl b4)<|zA (zD rfl)<|zG ?_
   exact ⟨((2*x1)+1),zAZ [] rfl rfl (by kernel_rfl),h⟩
  refine zS ?_
  exact ⟨(2*x1),zAZ [] rfl rfl (by kernel_rfl),h⟩
 clear h
 intro i1 h
 unfold zDt at h
 refine zI<|zC<|zA (zB rfl)<|zA (zD rfl)<|zG<|zd ?_
 cases h
 exact zy (zAl rfl rfl)
theorem zMR {L:Int} {uU:Int} {r:Int} (h:zG7 L uU=some r):PFn Try.prog 72 [li L,li uU] (li r):=by
 refine zq Try.func72 rfl Try.ntmps72 Try.results72 rfl ?_
 unfold zG7 at h
 refine zI<|zC<|zA (zD rfl)<|zG<|zI<|zC ?_
 refine zA (zB rfl)<|zQ h fun x1 w1 h=>zb Try.func95 rfl (by kernel_rfl) (.fn 95) rfl rfl (zGV w1) rfl<|zA (zD rfl)<|zG<|zI ?_
 refine zC<|zA (zB rfl)<|zQ h fun x2 w2 h=>zb Try.func95 rfl (by kernel_rfl) (.fn 95) rfl rfl (zGV w2) rfl<|zA (zD rfl)<|zG ?_
 refine zI<|zI<|zC<|zA (zB rfl)<|zG ?_
 refine zY h rfl (fun b1 h => ?_) (fun b1 h => ?_)
 ·refine zI<|zI<|zC<|zA (zB rfl)<|zG ?_
  refine zY h rfl (fun b2 h => ?_) (fun b2 h => ?_)
  ·refine zI<|zC<|zA (zD rfl)<|zG<|zd ?_
   cases h
   exact zy (zAl rfl rfl)
  refine zS<|zI<|zC<|zA (zD rfl)<|zG<|zd ?_
  cases h
  exact zy (zAl rfl rfl)
 refine zS<|zI<|zI<|zC<|zA (zB rfl)<|zG ?_
 refine zY h rfl (fun b3 h => ?_) (fun b3 h => ?_)
 ·refine zI<|zC<|zA (zD rfl)<|zG<|zd ?_
  cases h
  exact zy (zAl rfl rfl)
 refine zS<|zI<|zI<|zC<|zA (zB rfl)<|zA (zB rfl) ?_
 refine zA (zi rfl rfl)<|zG ?_
 refine zY h rfl (fun b4 h => ?_) (fun b4 h => ?_)
 ·refine zI<|zC<|zA (zD rfl)<|zG<|zd ?_
  cases h
  exact zy (zAl rfl rfl)
 refine zS<|zI<|zI<|zC<|zA (zB rfl)<|zA (zB rfl) ?_
 refine zA (zCf rfl rfl)<|zG ?_
 refine zY h rfl (fun b5 h => ?_) (fun b5 h => ?_)
 ·refine zI<|zC<|zA (zD rfl)<|zG<|zd ?_
  cases h
  exact zy (zAl rfl rfl)
 refine zS<|zI<|zC<|zA (zD rfl)<|zG<|zd ?_
 cases h
 exact zy (zAl rfl rfl)
theorem zLy {C : Int} {V : Int} {uF : Int → Option Int} {g_c_0 : FuncId} {cf_c_0 : Func} {code_c_0 : Code} {caps_c_0 : List AV} (hcf_c_0 : Try.prog.funcs[g_c_0]? = some cf_c_0) (hcb_c_0 : cf_c_0.body = some code_c_0) (hcn_c_0 : (cf_c_0.name == "runtime.NumGoroutine") = false) (hnr_c_0 : caps_c_0.all nr = true) (hg_c_0 : ∀ {x0 : Int} {y : Int}, uF x0 = some y → PFn Try.prog g_c_0 ((li x0) :: caps_c_0) (li y)) {r : Int} (h : zA7 C V uF = some r) : PFn Try.prog 71 [(li C), (li V), (AV.rp [(AV.clo g_c_0 caps_c_0)] 0)] (li r) := by
 refine zq Try.func71 rfl Try.ntmps71 Try.results71 rfl ?_
 unfold zA7 at h
 refine zI<|zC<|zA (zD rfl)<|zG<|zI<|zQ h fun x1 w1 h => ?_
 refine zQ h fun x2 w2 h=>zQ h fun x3 w3 h => ?_
 refine zBr (n:=13) (m:=0) [.head 0 0,.head 0 0,.head 0 0,.head 0 0,.head 0 0,.head 0 0,.head 0 0,.head 0 0] [] [AV.clo g_c_0 caps_c_0,li C,li x1,AV.clo g_c_0 caps_c_0,li V,li x2,li x3,li x3] [[]] (by kernel_rfl) (by kernel_rfl) ⟨D1 fun e s p=>zo (o:=0) Try.isAgg116 (s 2 rfl) rfl,D1 fun e s p=>zB (s 0 rfl),?_,D1 fun e s p=>zo (o:=0) Try.isAgg116 (s 2 rfl) rfl,D1 fun e s p=>zB (s 1 rfl),?_,?_,D1 fun e s p=>zD p.2.2.2.2.2.2.2.2.1,trivial⟩ ?_
 ·
  intro e3 s3 p3
  refine zAx (la:=(li C)::caps_c_0) (la':=(li C)::caps_c_0) (r:=(li x1)) (r':=(li x1)) (S:=[]) hcf_c_0 hcb_c_0 hcn_c_0 (.clo (caps:=caps_c_0) p3.1) (zAe p3.2.1 rfl) (zDw.c (zBI.nr rfl) (zDw.nrs hnr_c_0)) (hg_c_0 w1) (.inl rfl) rfl ?_
  exact zG ⟨fun _=>rfl,rfl⟩
 ·
  intro e6 s6 p6
  refine zAx (la:=(li V)::caps_c_0) (la':=(li V)::caps_c_0) (r:=(li x2)) (r':=(li x2)) (S:=[]) hcf_c_0 hcb_c_0 hcn_c_0 (.clo (caps:=caps_c_0) p6.1) (zAe p6.2.1 rfl) (zDw.c (zBI.nr rfl) (zDw.nrs hnr_c_0)) (hg_c_0 w2) (.inl rfl) rfl ?_
  exact zG ⟨fun _=>rfl,rfl⟩
 ·
  intro e7 s7 p7
  refine zb (r:=(li x3)) (la:=[li x1,li x2]) Try.func72 rfl (by kernel_rfl) (.fn 72) (zAe p7.1 (zAe p7.2.2.1 rfl)) rfl (zMR w3) rfl ?_
  exact zG ⟨fun _=>rfl,rfl⟩
 intro e9 s9 hq1
 refine zA5 (zCy (l:=[(5,(li x3))]) ⟨(hq1 7 (by decide) (by decide)),trivial⟩)<|zd ?_
 cases h
 exact zy (zAl rfl rfl)
theorem zDy {uY : List Int} {C : Int} {V : Int} {uC : Int → Int → Option Int} {g_a_cmp : FuncId} {cf_a_cmp : Func} {code_a_cmp : Code} {caps_a_cmp : List AV} (hcf_a_cmp : Try.prog.funcs[g_a_cmp]? = some cf_a_cmp) (hcb_a_cmp : cf_a_cmp.body = some code_a_cmp) (hcn_a_cmp : (cf_a_cmp.name == "runtime.NumGoroutine") = false) (hnr_a_cmp : caps_a_cmp.all nr = true) (hg_a_cmp : ∀ {x0 : Int} {x1 : Int} {y : Int}, uC x0 x1 = some y → PFn Try.prog g_a_cmp ((li x0) :: (li x1) :: caps_a_cmp) (li y)) {r : (List Int)} (h : zA0 uY C V uC = some r) : AFn Try.prog 101 [(AV.hd 0), (li C), (li V), (AV.clo g_a_cmp caps_a_cmp)] [.vec 3 1 (List.map cI uY)] (.tup []) [.vec 3 1 (List.map cI r)] := by
 refine zGe Try.func101 rfl Try.ntmps101 Try.results101 rfl ?_
 unfold zA0 at h
 refine zI<|zC<|zA (zB rfl)<|zL h fun b1 h=>zA (zg rfl rfl b1)<|zA (zD rfl) ?_
 refine zG<|zV<|z6 (σ:=Int×(List Int)) (fun (i1,l1)=>mkE [(0,(AV.hd 0)),(1,(li C)),(2,(li V)),(3,(AV.clo g_a_cmp caps_a_cmp)),(8,(li i1))]) (fun (i1,l1)=>[.vec 3 1 (List.map cI l1)]) (fun n0 (i1,l1)=>zAB C V uC n0 i1 l1) ((C+1),uY) h (fun _=>rfl) (zBg (n:=53) (m:=1) [0] (l:=[(0,(AV.hd 0)),(1,(li C)),(2,(li V)),(3,(AV.clo g_a_cmp caps_a_cmp)),(8,(li (C+1)))]) ⟨⟨Sub.refl _,by kernel_rfl⟩,⟨Sub.refl _,by kernel_rfl⟩,⟨Sub.refl _,by kernel_rfl⟩,⟨zDz hnr_a_cmp,zD0 hnr_a_cmp⟩,⟨Sub.refl _,by kernel_rfl⟩,trivial⟩ rfl rfl ⟨⟨rfl,by kernel_rfl⟩,trivial⟩) ?_
 clear h
 rintro n0 ⟨i1,l1⟩ h
 replace h:zAE C V uC (zAB C V uC n0) i1 l1=some r:=h
 unfold zAE at h
 refine zI<|zI<|zC<|zA (zB rfl)<|zA (zB rfl)<|zA (zi rfl rfl) ?_
 refine zG ?_
 refine zY h rfl (fun b2 h => ?_) (fun b2 h => ?_)
 ·refine zS ?_
  refine zAA (r:=r) (fun (l2:List Int)=>mkE [(0,(AV.hd 0)),(1,(li C)),(2,(li V)),(3,(AV.clo g_a_cmp caps_a_cmp)),(8,(li i1))]) (fun l2=>[.vec 3 1 (List.map cI l2)]) (fun l2=>zA6 (zAB C V uC n0) i1 l2) ?_ ?_
  ·
   refine zV<|zI<|zC<|zA (zB rfl)<|zA (zD rfl)<|zG ?_
   refine zV<|z6 (σ:=Int×(List Int)) (fun (i2,l3)=>mkE [(0,(AV.hd 0)),(1,(li C)),(2,(li V)),(3,(AV.clo g_a_cmp caps_a_cmp)),(8,(li i1)),(9,(li i2))]) (fun (i2,l3)=>[.vec 3 1 (List.map cI l3)]) (fun n1 (i2,l3)=>zAX (zAB C V uC n0) C uC i1 n1 i2 l3) (i1,l1) h (fun _=>rfl) (zBg (n:=53) (m:=1) [0] (l:=[(0,(AV.hd 0)),(1,(li C)),(2,(li V)),(3,(AV.clo g_a_cmp caps_a_cmp)),(8,(li i1)),(9,(li i1))]) ⟨⟨Sub.refl _,by kernel_rfl⟩,⟨Sub.refl _,by kernel_rfl⟩,⟨Sub.refl _,by kernel_rfl⟩,⟨zDz hnr_a_cmp,zD0 hnr_a_cmp⟩,⟨Sub.refl _,by kernel_rfl⟩,⟨Sub.refl _,by kernel_rfl⟩,trivial⟩ rfl rfl ⟨⟨rfl,by kernel_rfl⟩,trivial⟩) ?_
   clear h
   rintro n1 ⟨i2,l3⟩ h
   replace h:zAY (zAB C V uC n0) C uC i1 (zAX (zAB C V uC n0) C uC i1 n1) i2 l3=some r:=h
   unfold zAY at h
   refine zI<|zI<|zL h fun b4 h=>zL h fun b5 h=>zL h fun b6 h=>zQ h fun x1 w1 h => ?_
   refine zBr (n:=53) (m:=1) [.head 0 0,.head 0 0,.head 0 0,.head 0 0,.head 0 0,.head 0 0,.head 0 0,.head 0 0,.head 0 0,.head 0 0,.head 0 0,.head 0 0,.head 0 0,.head 0 0,.head 0 0,.head 0 0,.head 0 0] [] [li i2,li C,(AV.lit (.bool (decide (C<i2)))),(AV.lit (.bool (decide (C<i2)))),(bif decide (C<i2) then (AV.clo g_a_cmp caps_a_cmp) else .lit undef),(bif decide (C<i2) then (AV.hd 0) else .lit undef),(bif decide (C<i2) then (li i2) else .lit undef),(bif decide (C<i2) then (AV.ptr 0 (i2.toNat*1)) else .lit undef),(bif decide (C<i2) then (li (at_ l3 i2)) else .lit undef),(bif decide (C<i2) then (AV.hd 0) else .lit undef),(bif decide (C<i2) then (li i2) else .lit undef),(bif decide (C<i2) then (li (i2 - 1)) else .lit undef),(bif decide (C<i2) then (AV.ptr 0 ((i2 - 1).toNat*1)) else .lit undef),(bif decide (C<i2) then (li (at_ l3 (i2 - 1))) else .lit undef),(bif decide (C<i2) then (li x1) else .lit undef),(bif decide (C<i2) then (AV.lit (.bool (decide (x1<0)))) else .lit undef),(AV.lit (.bool ((decide (C<i2))&&(decide (x1<0)))))] [[.vec 3 1 (List.map cI l3)]] (by kernel_rfl) (by kernel_rfl) ⟨D1 fun e s p=>zB (s 9 rfl),D1 fun e s p=>zB (s 1 rfl),D1 fun e s p=>zCf (a:=i2) (b:=C) p.1 p.2.1,D1 fun e s p=>zB p.1,?_,?_,?_,?_,?_,?_,?_,?_,?_,?_,?_,?_,D1 fun e s p=>zAL (s:=decide (C<i2)) (q:=decide (x1<0)) (j := .lit undef) p.1 p.2.1,trivial⟩ ?_
   ·
    intro e5 s5 p5
    refine z9 (g:=21) (s:=decide (C<i2)) rfl p5.1 (fun c13=>zv.step (zB (av:=(AV.clo g_a_cmp caps_a_cmp)) (s5 3 rfl))) ?_
    exact zG ⟨fun _=>rfl,rfl⟩
   ·
    intro e6 s6 p6
    refine z9 (g:=21) (s:=decide (C<i2)) rfl p6.1 (fun c14=>zv.step (zB (av:=(AV.hd 0)) (s6 0 rfl))) ?_
    exact zG ⟨fun _=>rfl,rfl⟩
   ·
    intro e7 s7 p7
    refine z9 (g:=21) (s:=decide (C<i2)) rfl p7.1 (fun c15=>zv.step (zB (av:=(li i2)) (s7 9 rfl))) ?_
    exact zG ⟨fun _=>rfl,rfl⟩
   ·
    intro e8 s8 p8
    refine z9 (g:=21) (s:=decide (C<i2)) rfl p8.2.2.1 (fun c16=>zv.step (zAR (f:=cI) (l:=l3) (i:=i2) Try.underlying22 Try.sizeOf3 (zAQ p8.1 c16) rfl (zAQ p8.2.1 c16) (zKB b4 c16))) ?_
    exact zG ⟨fun _=>rfl,rfl⟩
   ·
    intro e9 s9 p9
    refine z9 (g:=21) (s:=decide (C<i2)) rfl p9.2.1 (fun c17=>zv.step (zDX (f:=cI) (l:=l3) (i:=i2) (c:=0) (a:=(li (at_ l3 i2))) Try.isAgg3 (zAQ p9.1 c17) rfl (by first | rfl | omega) (zKB b4 c17) rfl rfl)) ?_
    exact zG ⟨fun _=>rfl,rfl⟩
   ·
    intro e10 s10 p10
    refine z9 (g:=21) (s:=decide (C<i2)) rfl p10.1 (fun c18=>zv.step (zB (av:=(AV.hd 0)) (s10 0 rfl))) ?_
    exact zG ⟨fun _=>rfl,rfl⟩
   ·
    intro e11 s11 p11
    refine z9 (g:=21) (s:=decide (C<i2)) rfl p11.1 (fun c19=>zv.step (zB (av:=(li i2)) (s11 9 rfl))) ?_
    exact zG ⟨fun _=>rfl,rfl⟩
   ·
    intro e12 s12 p12
    refine z9 (g:=21) (s:=decide (C<i2)) rfl p12.2.1 (fun c20=>zv.step (zDv (a:=i2) (b:=1) (zAQ p12.1 c20) rfl (zKB b5 c20))) ?_
    exact zG ⟨fun _=>rfl,rfl⟩
   ·
    intro e13 s13 p13
    refine z9 (g:=21) (s:=decide (C<i2)) rfl p13.2.2.1 (fun c21=>zv.step (zAR (f:=cI) (l:=l3) (i:=i2 - 1) Try.underlying22 Try.sizeOf3 (zAQ p13.1 c21) rfl (zAQ p13.2.1 c21) (zKB b6 c21))) ?_
    exact zG ⟨fun _=>rfl,rfl⟩
   ·
    intro e14 s14 p14
    refine z9 (g:=21) (s:=decide (C<i2)) rfl p14.2.1 (fun c22=>zv.step (zDX (f:=cI) (l:=l3) (i:=i2 - 1) (c:=0) (a:=(li (at_ l3 (i2 - 1)))) Try.isAgg3 (zAQ p14.1 c22) rfl (by first | rfl | omega) (zKB b6 c22) rfl rfl)) ?_
    exact zG ⟨fun _=>rfl,rfl⟩
   ·
    intro e15 s15 p15
    refine zGc (g:=21) (s:=decide (C<i2)) (r':=(li x1)) rfl p15.2.2.2.2.1 (fun c23=>⟨g_a_cmp,cf_a_cmp,code_a_cmp,caps_a_cmp,(li (at_ l3 i2))::(li (at_ l3 (i2 - 1)))::caps_a_cmp,(li (at_ l3 i2))::(li (at_ l3 (i2 - 1)))::caps_a_cmp,li x1,[],hcf_a_cmp,hcb_a_cmp,hcn_a_cmp,.clo (zAQ p15.1 c23),(zAe (zAQ p15.2.1 c23) (zAe (zAQ p15.2.2.1 c23) rfl)),zDw.c (zBI.nr rfl) (zDw.c (zBI.nr rfl) (zDw.nrs hnr_a_cmp)),hg_a_cmp (zIL c23 w1),.inl rfl,rfl⟩) ?_
    exact zG ⟨fun _=>rfl,rfl⟩
   ·
    intro e16 s16 p16
    refine z9 (g:=21) (s:=decide (C<i2)) rfl p16.2.1 (fun c24=>zv.step (zi (a:=x1) (b:=0) (zAQ p16.1 c24) rfl)) ?_
    exact zG ⟨fun _=>rfl,rfl⟩
   intro e18 s18 hq1
   refine zA5 (zCy (l:=[(0,(AV.hd 0)),(1,(li C)),(2,(li V)),(3,(AV.clo g_a_cmp caps_a_cmp)),(8,(li i1)),(9,(li i2)),(34,(AV.lit (.bool ((decide (C<i2))&&(decide (x1<0))))))]) ⟨s18 0 rfl,s18 1 rfl,s18 2 rfl,s18 3 rfl,s18 8 rfl,s18 9 rfl,(hq1 16 (by decide) (by decide)),trivial⟩) ?_
   refine zY h rfl (fun b7 h => ?_) (fun b7 h => ?_)
   ·refine zS<|zI<|zV<|zL h fun b8 h=>zL h fun b9 h=>zL h fun b10 h => ?_
    refine zL h fun b11 h => ?_
    refine zBr (n:=53) (m:=1) [.head 0 0,.head 0 0,.head 0 1,.head 0 1,.head 0 1,.head 0 0,.head 0 0,.head 0 0,.head 0 0,.head 0 0,.head 0 0,.head 0 0,.head 0 0,.head 0 0,.head 0 0,.tail 0,.head 1 1,.tail 1] [15,17] [AV.hd 0,li i2,AV.hd 0,li i2,(li (i2 - 1)),AV.hd 0,li i2,(li (i2 - 1)),(AV.ptr 0 ((i2 - 1).toNat*1)),(li (at_ l3 (i2 - 1))),AV.hd 0,li i2,(AV.ptr 0 (i2.toNat*1)),(li (at_ l3 i2)),(AV.ptr 0 (i2.toNat*1)),.any,(AV.ptr 0 ((i2 - 1).toNat*1)),.any] [[.vec 3 1 (List.map cI l3)],[.vec 3 1 (List.map cI (l3.set i2.toNat (at_ l3 (i2 - 1))))],[.vec 3 1 (List.map cI ((l3.set i2.toNat (at_ l3 (i2 - 1))).set (i2 - 1).toNat (at_ l3 i2)))]] (by kernel_rfl) (by kernel_rfl) ⟨D1 fun e s p=>zB (s 0 rfl),D1 fun e s p=>zB (s 9 rfl),⟨D1 fun e s p=>zB (s 0 rfl),D1 fun e s p=>zB (s 0 rfl)⟩,⟨D1 fun e s p=>zB (s 9 rfl),D1 fun e s p=>zB (s 9 rfl)⟩,⟨D1 fun e s p=>zDv (a:=i2) (b:=1) p.1 rfl b8,D1 fun e s p=>zDv (a:=i2) (b:=1) p.1 rfl b8⟩,D1 fun e s p=>zB (s 0 rfl),D1 fun e s p=>zB (s 9 rfl),D1 fun e s p=>zDv (a:=i2) (b:=1) p.1 rfl b8,D1 fun e s p=>zAR (f:=cI) (l:=l3) (i:=i2 - 1) Try.underlying22 Try.sizeOf3 p.1 rfl p.2.1 b9,D1 fun e s p=>zDX (f:=cI) (l:=l3) (i:=i2 - 1) (c:=0) (a:=(li (at_ l3 (i2 - 1)))) Try.isAgg3 p.1 rfl (by first | rfl | omega) b9 rfl rfl,D1 fun e s p=>zB (s 0 rfl),D1 fun e s p=>zB (s 9 rfl),D1 fun e s p=>zAR (f:=cI) (l:=l3) (i:=i2) Try.underlying22 Try.sizeOf3 p.1 rfl p.2.1 b10,D1 fun e s p=>zDX (f:=cI) (l:=l3) (i:=i2) (c:=0) (a:=(li (at_ l3 i2))) Try.isAgg3 p.1 rfl (by first | rfl | omega) b10 rfl rfl,D1 fun e s p=>zAR (f:=cI) (l:=l3) (i:=i2) Try.underlying22 Try.sizeOf3 p.2.2.1 rfl p.2.2.2.1 b10,?_,D1 fun e s p=>zAR (f:=cI) (l:=l3.set i2.toNat (at_ l3 (i2 - 1))) (i:=i2 - 1) Try.underlying22 Try.sizeOf3 p.2.2.2.2.1 rfl p.2.2.2.2.2.2.1 b11,?_,trivial⟩ ?_
    ·
     intro e37 s37 p36
     refine za (H':=[.vec 3 1 (List.map cI (l3.set i2.toNat (at_ l3 (i2 - 1))))]) (zIP (k:=0) (o:=(i2.toNat*1)) (f:=cI) (l:=l3) (i:=i2) (c:=0) (a:=(li (at_ l3 (i2 - 1)))) (z:=at_ l3 (i2 - 1)) Try.sizeOf3 (by exact p36.1) rfl (by first | rfl | omega) b10 rfl (by exact p36.2.2.2.2.2.2.2.2.2.2.2.1) rfl rfl rfl) ?_
     exact zG ⟨fun _=>rfl,rfl⟩
    ·
     intro e39 s39 p38
     refine za (H':=[.vec 3 1 (List.map cI ((l3.set i2.toNat (at_ l3 (i2 - 1))).set (i2 - 1).toNat (at_ l3 i2)))]) (zIP (k:=0) (o:=((i2 - 1).toNat*1)) (f:=cI) (l:=l3.set i2.toNat (at_ l3 (i2 - 1))) (i:=i2 - 1) (c:=0) (a:=(li (at_ l3 i2))) (z:=at_ l3 i2) Try.sizeOf3 (by exact p38.1) rfl (by first | rfl | omega) b11 rfl (by exact p38.2.2.2.2.2.2.2.2.2.2.2.2.2.2.2.2.1) rfl rfl rfl) ?_
     exact zG ⟨fun _=>rfl,rfl⟩
    intro e40 s40 hq2
    refine zA5 (zCy (l:=[(0,(AV.hd 0)),(1,(li C)),(2,(li V)),(3,(AV.clo g_a_cmp caps_a_cmp)),(8,(li i1)),(9,(li i2))]) ⟨s40 0 rfl,s40 1 rfl,s40 2 rfl,s40 3 rfl,s40 8 rfl,s40 9 rfl,trivial⟩)<|zC<|zA (zB (av:=(li i2)) rfl)<|zA (zDv (a:=i2) (b:=1) rfl rfl b8)<|zA (zD (av:=(li (i2 - 1))) rfl)<|zG ?_
    exact ⟨((i2 - 1),((l3.set i2.toNat (at_ l3 (i2 - 1))).set (i2 - 1).toNat (at_ l3 i2))),zBg (n:=53) (m:=1) [0] (l:=[(0,(AV.hd 0)),(1,(li C)),(2,(li V)),(3,(AV.clo g_a_cmp caps_a_cmp)),(8,(li i1)),(9,(li (i2 - 1)))]) ⟨⟨Sub.refl _,by kernel_rfl⟩,⟨Sub.refl _,by kernel_rfl⟩,⟨Sub.refl _,by kernel_rfl⟩,⟨zDz hnr_a_cmp,zD0 hnr_a_cmp⟩,⟨Sub.refl _,by kernel_rfl⟩,⟨Sub.refl _,by kernel_rfl⟩,trivial⟩ rfl rfl ⟨⟨rfl,by kernel_rfl⟩,trivial⟩,h⟩
   refine zAC ?_
   exact ⟨l3,zBg (n:=53) (m:=1) [0] (l:=[(0,(AV.hd 0)),(1,(li C)),(2,(li V)),(3,(AV.clo g_a_cmp caps_a_cmp)),(8,(li i1))]) ⟨⟨Sub.refl _,by kernel_rfl⟩,⟨Sub.refl _,by kernel_rfl⟩,⟨Sub.refl _,by kernel_rfl⟩,⟨zDz hnr_a_cmp,zD0 hnr_a_cmp⟩,⟨Sub.refl _,by kernel_rfl⟩,trivial⟩ rfl rfl ⟨⟨rfl,by kernel_rfl⟩,trivial⟩,h⟩
  clear h
  intro l2 h
  unfold zA6 at h
  refine zC<|zA (zB rfl)<|zL h fun b3 h=>zA (zg rfl rfl b3)<|zA (zD rfl)<|zG ?_
  exact ⟨((i1+1),l2),zBg (n:=53) (m:=1) [0] (l:=[(0,(AV.hd 0)),(1,(li C)),(2,(li V)),(3,(AV.clo g_a_cmp caps_a_cmp)),(8,(li (i1+1)))]) ⟨⟨Sub.refl _,by kernel_rfl⟩,⟨Sub.refl _,by kernel_rfl⟩,⟨Sub.refl _,by kernel_rfl⟩,⟨zDz hnr_a_cmp,zD0 hnr_a_cmp⟩,⟨Sub.refl _,by kernel_rfl⟩,trivial⟩ rfl rfl ⟨⟨rfl,by kernel_rfl⟩,trivial⟩,h⟩
 refine zAC ?_
 obtain rfl:=Option.some.inj h
 exact ⟨mkE [],[.vec 3 1 (List.map cI l1)],zAZ [0] rfl rfl (by kernel_rfl),zON rfl⟩
theorem zIg {uY : List Int} {uA : Int} {uC : Int → Int → Option Int} {g_a_cmp : FuncId} {cf_a_cmp : Func} {code_a_cmp : Code} {caps_a_cmp : List AV} (hcf_a_cmp : Try.prog.funcs[g_a_cmp]? = some cf_a_cmp) (hcb_a_cmp : cf_a_cmp.body = some code_a_cmp) (hcn_a_cmp : (cf_a_cmp.name == "runtime.NumGoroutine") = false) (hnr_a_cmp : caps_a_cmp.all nr = true) (hg_a_cmp : ∀ {x0 : Int} {x1 : Int} {y : Int}, uC x0 x1 = some y → PFn Try.prog g_a_cmp ((li x0) :: (li x1) :: caps_a_cmp) (li y)) {r : (List Int)} (h : zC2 uY uA uC = some r) : AFn Try.prog 94 [(AV.hd 0), (li uA), (AV.clo g_a_cmp caps_a_cmp)] [.vec 3 1 (List.map cI uY)] (.tup []) [.vec 3 1 (List.map cI r)] := by
 refine zGe Try.func94 rfl Try.ntmps94 Try.results94 rfl ?_
 unfold zC2 at h
 refine zI<|zC<|zA (zD rfl)<|zG<|zI<|zC ?_
 refine zA (zB rfl)<|zA (zD rfl)<|zA (zD rfl)<|zG ?_
 refine zAA (r:=r) (fun ((i1,l1):Int×(List Int))=>mkE [(0,(AV.hd 0)),(1,(li uA)),(2,(AV.clo g_a_cmp caps_a_cmp)),(6,(li 20)),(7,(li i1))]) (fun (i1,l1)=>[.vec 3 1 (List.map cI l1)]) (fun (i1,l1)=>zCX uA uC i1 l1) ?_ ?_
 ·
  refine zV<|z6 (σ:=Int×Int×(List Int)) (fun (i3,i4,l2)=>mkE [(0,(AV.hd 0)),(1,(li uA)),(2,(AV.clo g_a_cmp caps_a_cmp)),(6,(li 20)),(7,(li i3)),(8,(li i4))]) (fun (i3,i4,l2)=>[.vec 3 1 (List.map cI l2)]) (fun n2 (i3,i4,l2)=>zBh uA uC n2 i3 i4 l2) (0,20,uY) h (fun _=>rfl) (zBg (n:=63) (m:=1) [0] (l:=[(0,(AV.hd 0)),(1,(li uA)),(2,(AV.clo g_a_cmp caps_a_cmp)),(6,(li 20)),(7,(li 0)),(8,(li 20))]) ⟨⟨Sub.refl _,by kernel_rfl⟩,⟨Sub.refl _,by kernel_rfl⟩,⟨zDz hnr_a_cmp,zD0 hnr_a_cmp⟩,⟨Sub.refl _,by kernel_rfl⟩,⟨Sub.refl _,by kernel_rfl⟩,⟨Sub.refl _,by kernel_rfl⟩,trivial⟩ rfl rfl ⟨⟨rfl,by kernel_rfl⟩,trivial⟩) ?_
  clear h
  rintro n2 ⟨i3,i4,l2⟩ h
  replace h:zBi uA uC (zBh uA uC n2) i3 i4 l2=some r:=h
  unfold zBi at h
  refine zI<|zI<|zC<|zA (zB rfl)<|zA (zB rfl)<|zA (zIQ rfl rfl) ?_
  refine zG ?_
  refine zY h rfl (fun b8 h => ?_) (fun b8 h => ?_)
  ·refine zS<|zV<|zI<|zC<|zA (zB rfl)<|zA (zB rfl) ?_
   refine zA (zB rfl)<|zA (zB rfl)<|zQ h fun x2 w2 h=>zE6 (k:=0) (la:=[AV.hd 0,li i3,li i4,AV.clo g_a_cmp caps_a_cmp]) (la':=[AV.hd 0,li i3,li i4,AV.clo g_a_cmp caps_a_cmp]) (r:=(.tup [])) (S:=[]) (en' := .vec 3 1 (List.map cI x2)) Try.func101 rfl (by kernel_rfl) (.fn 101) rfl ⟨zDQ.hd,zDQ.of (zBI.nr rfl),zDQ.of (zBI.nr rfl),zDQ.of (zBI.clo (zDw.nrs hnr_a_cmp)),trivial⟩ rfl rfl rfl rfl (zDy hcf_a_cmp hcb_a_cmp hcn_a_cmp hnr_a_cmp hg_a_cmp w2) rfl (.inl rfl)<|zG<|zI ?_
   refine zC<|zA (zB rfl)<|zA (zD rfl)<|zG<|zC<|zA (zB rfl) ?_
   refine zA (zB rfl)<|zL h fun b9 h=>zA (zg rfl rfl b9)<|zA (zD rfl)<|zG ?_
   exact ⟨(i4,(i4+20),x2),zBg (n:=63) (m:=1) [0] (l:=[(0,(AV.hd 0)),(1,(li uA)),(2,(AV.clo g_a_cmp caps_a_cmp)),(6,(li 20)),(7,(li i4)),(8,(li (i4+20)))]) ⟨⟨Sub.refl _,by kernel_rfl⟩,⟨Sub.refl _,by kernel_rfl⟩,⟨zDz hnr_a_cmp,zD0 hnr_a_cmp⟩,⟨Sub.refl _,by kernel_rfl⟩,⟨Sub.refl _,by kernel_rfl⟩,⟨Sub.refl _,by kernel_rfl⟩,trivial⟩ rfl rfl ⟨⟨rfl,by kernel_rfl⟩,trivial⟩,h⟩
  refine zAC ?_
  exact ⟨(i3,l2),zBg (n:=63) (m:=1) [0] (l:=[(0,(AV.hd 0)),(1,(li uA)),(2,(AV.clo g_a_cmp caps_a_cmp)),(6,(li 20)),(7,(li i3))]) ⟨⟨Sub.refl _,by kernel_rfl⟩,⟨Sub.refl _,by kernel_rfl⟩,⟨zDz hnr_a_cmp,zD0 hnr_a_cmp⟩,⟨Sub.refl _,by kernel_rfl⟩,⟨Sub.refl _,by kernel_rfl⟩,trivial⟩ rfl rfl ⟨⟨rfl,by kernel_rfl⟩,trivial⟩,h⟩
 clear h
 rintro ⟨i1,l1⟩ h
 unfold zCX at h
 refine zI<|zC<|zA (zB rfl)<|zA (zB rfl)<|zA (zB rfl)<|zA (zB rfl) ?_
 refine zQ h fun x1 w1 h=>zE6 (k:=0) (la:=[AV.hd 0,li i1,li uA,AV.clo g_a_cmp caps_a_cmp]) (la':=[AV.hd 0,li i1,li uA,AV.clo g_a_cmp caps_a_cmp]) (r:=(.tup [])) (S:=[]) (en' := .vec 3 1 (List.map cI x1)) Try.func101 rfl (by kernel_rfl) (.fn 101) rfl ⟨zDQ.hd,zDQ.of (zBI.nr rfl),zDQ.of (zBI.nr rfl),zDQ.of (zBI.clo (zDw.nrs hnr_a_cmp)),trivial⟩ rfl rfl rfl rfl (zDy hcf_a_cmp hcb_a_cmp hcn_a_cmp hnr_a_cmp hg_a_cmp w1) rfl (.inl rfl)<|zG<|zV<|z6 (σ:=Int) (fun i2=>mkE [(0,(AV.hd 0)),(1,(li uA)),(2,(AV.clo g_a_cmp caps_a_cmp)),(6,(li i2))]) (fun i2=>[.vec 3 1 (List.map cI x1)]) (fun n0 i2=>zAn uA x1 n0 i2) 20 h (fun _=>rfl) (zBg (n:=63) (m:=1) [0] (l:=[(0,(AV.hd 0)),(1,(li uA)),(2,(AV.clo g_a_cmp caps_a_cmp)),(6,(li 20))]) ⟨⟨Sub.refl _,by kernel_rfl⟩,⟨Sub.refl _,by kernel_rfl⟩,⟨zDz hnr_a_cmp,zD0 hnr_a_cmp⟩,⟨Sub.refl _,by kernel_rfl⟩,trivial⟩ rfl rfl ⟨⟨rfl,by kernel_rfl⟩,trivial⟩) ?_
 clear h
 intro n0 i2 h
 replace h:zBj uA x1 (zAn uA x1 n0) i2=some r:=h
 unfold zBj at h
 refine zI<|zI<|zC<|zA (zB rfl)<|zA (zB rfl)<|zA (zi rfl rfl) ?_
 refine zG ?_
 refine zY h rfl (fun b1 h => ?_) (fun b1 h => ?_)
 ·refine zS<|zV<|zI<|zC<|zA (zB rfl)<|zL h fun b2 h => ?_
  refine zA (zMT (a:=2) (b:=i2) rfl rfl b2)<|zA (zD rfl)<|zA (zD rfl)<|zG ?_
  refine zAA (r:=r) (fun (_:Unit)=>mkE [(0,(AV.hd 0)),(1,(li uA)),(2,(AV.clo g_a_cmp caps_a_cmp)),(6,(li i2)),(7,(li 0))]) (fun _=>[.vec 3 1 (List.map cI x1)]) (fun _=>zDn (zAn uA x1 n0) uA i2) ?_ ?_
  ·
   refine zV<|z6 (σ:=Unit) (fun _=>mkE [(0,(AV.hd 0)),(1,(li uA)),(2,(AV.clo g_a_cmp caps_a_cmp)),(6,(li i2)),(7,(li 0)),(8,(li (2*i2)))]) (fun _=>[.vec 3 1 (List.map cI x1)]) (fun n1 _=>zCL (zAn uA x1 n0) uA i2 n1) () h (fun _=>rfl) (zBg (n:=63) (m:=1) [0] (l:=[(0,(AV.hd 0)),(1,(li uA)),(2,(AV.clo g_a_cmp caps_a_cmp)),(6,(li i2)),(7,(li 0)),(8,(li (2*i2)))]) ⟨⟨Sub.refl _,by kernel_rfl⟩,⟨Sub.refl _,by kernel_rfl⟩,⟨zDz hnr_a_cmp,zD0 hnr_a_cmp⟩,⟨Sub.refl _,by kernel_rfl⟩,⟨Sub.refl _,by kernel_rfl⟩,⟨Sub.refl _,by kernel_rfl⟩,trivial⟩ rfl rfl ⟨⟨rfl,by kernel_rfl⟩,trivial⟩) ?_
   clear h
   intro n1 _ h
   replace h:zDq (zAn uA x1 n0) uA i2 (zCL (zAn uA x1 n0) uA i2 n1)=some r:=h
   unfold zDq at h
   refine zI<|zI<|zC<|zA (zB rfl)<|zA (zB rfl)<|zA (zIQ rfl rfl) ?_
   refine zG ?_
   refine zY h rfl (fun b6 h => ?_) (fun b6 h => ?_)
   ·refine zS<|zV<|zI<|zC<|zA (zB rfl)<|zA (zB rfl) ?_
    refine zA (zB rfl)<|zA (zB rfl)<|zL h fun b7 h=>zA (zg rfl rfl b7)<|zA (zB rfl)<|zA (zB rfl) ?_
    exact absurd h (by simp)
   refine zAC ?_
   exact ⟨(),zBg (n:=63) (m:=1) [0] (l:=[(0,(AV.hd 0)),(1,(li uA)),(2,(AV.clo g_a_cmp caps_a_cmp)),(6,(li i2)),(7,(li 0))]) ⟨⟨Sub.refl _,by kernel_rfl⟩,⟨Sub.refl _,by kernel_rfl⟩,⟨zDz hnr_a_cmp,zD0 hnr_a_cmp⟩,⟨Sub.refl _,by kernel_rfl⟩,⟨Sub.refl _,by kernel_rfl⟩,trivial⟩ rfl rfl ⟨⟨rfl,by kernel_rfl⟩,trivial⟩,h⟩
  clear h
  intro _ h
  unfold zDn at h
  refine zI<|zI<|zC<|zA (zB rfl)<|zA (zB rfl)<|zL h fun b3 h => ?_
  refine zA (zg rfl rfl b3)<|zA (zD rfl)<|zG<|zI<|zC<|zA (zB rfl) ?_
  refine zA (zB rfl)<|zA (zi rfl rfl)<|zG ?_
  refine zY h rfl (fun b4 h => ?_) (fun b4 h => ?_)
  ·refine zC<|zA (zB rfl)<|zA (zB rfl)<|zA (zB rfl)<|zA (zB rfl)<|zA (zB rfl) ?_
   exact absurd h (by simp)
  refine zS<|zC<|zA (zB rfl)<|zL h fun b5 h=>zA (zMT (a:=i2) (b:=2) rfl rfl b5)<|zA (zD rfl) ?_
  refine zG ?_
  exact ⟨(i2*2),zBg (n:=63) (m:=1) [0] (l:=[(0,(AV.hd 0)),(1,(li uA)),(2,(AV.clo g_a_cmp caps_a_cmp)),(6,(li (i2*2)))]) ⟨⟨Sub.refl _,by kernel_rfl⟩,⟨Sub.refl _,by kernel_rfl⟩,⟨zDz hnr_a_cmp,zD0 hnr_a_cmp⟩,⟨Sub.refl _,by kernel_rfl⟩,trivial⟩ rfl rfl ⟨⟨rfl,by kernel_rfl⟩,trivial⟩,h⟩
 refine zAC ?_
 obtain rfl:=Option.some.inj h
 exact ⟨mkE [],[.vec 3 1 (List.map cI x1)],zAZ [0] rfl rfl (by kernel_rfl),zON rfl⟩
theorem zG8 {L : List Int} {uC : Int → Int → Option Int} {g_a_cmp : FuncId} {cf_a_cmp : Func} {code_a_cmp : Code} {caps_a_cmp : List AV} (hcf_a_cmp : Try.prog.funcs[g_a_cmp]? = some cf_a_cmp) (hcb_a_cmp : cf_a_cmp.body = some code_a_cmp) (hcn_a_cmp : (cf_a_cmp.name == "runtime.NumGoroutine") = false) (hnr_a_cmp : caps_a_cmp.all nr = true) (hg_a_cmp : ∀ {x0 : Int} {x1 : Int} {y : Int}, uC x0 x1 = some y → PFn Try.prog g_a_cmp ((li x0) :: (li x1) :: caps_a_cmp) (li y)) {r : (List Int)} (h : zBK L uC = some r) : AFn Try.prog 70 [(AV.hd 0), (AV.clo g_a_cmp caps_a_cmp)] [.vec 3 1 (List.map cI L)] (.tup []) [.vec 3 1 (List.map cI r)] := by
 refine zGe Try.func70 rfl Try.ntmps70 Try.results70 rfl ?_
 unfold zBK at h
 refine zC<|zA (zB rfl)<|zA (zB rfl)<|zA (zD1 (f:=cI) (l:=L) Try.underlying22 rfl rfl)<|zA (zB rfl)<|zQ h fun x1 w1 h => ?_
 refine zE6 (k:=0) (la:=[AV.hd 0,(li (L.length:Int)),AV.clo g_a_cmp caps_a_cmp]) (la':=[AV.hd 0,(li (L.length:Int)),AV.clo g_a_cmp caps_a_cmp]) (r:=(.tup [])) (S:=[]) (en' := .vec 3 1 (List.map cI x1)) Try.func94 rfl (by kernel_rfl) (.fn 94) rfl ⟨zDQ.hd,zDQ.of (zBI.nr rfl),zDQ.of (zBI.clo (zDw.nrs hnr_a_cmp)),trivial⟩ rfl rfl rfl rfl (zIg hcf_a_cmp hcb_a_cmp hcn_a_cmp hnr_a_cmp hg_a_cmp w1) rfl (.inl rfl)<|zG ?_
 obtain rfl:=Option.some.inj h
 exact ⟨mkE [],[.vec 3 1 (List.map cI x1)],zAZ [0] rfl rfl (by kernel_rfl),zON rfl⟩
theorem zJl {Y:List zW} {I:Int} {uR:Bool} {r:(List Int)×Int} (h:zEX Y I uR=some r):PFn Try.prog 40 [ls zO Y,li I,(AV.lit (.bool uR))] (AV.tup [ls cI r.1,li r.2]):=by
 refine zq Try.func40 rfl Try.ntmps40 Try.results40 rfl ?_
 unfold zEX at h
 refine zI<|zC<|zX (H':=[.box 26 [ls zO Y]]) (zIU (t:=26) (a:=(ls zO Y)) rfl rfl)<|zX (H':=[.box 26 [ls zO Y],.box 3 [li I]]) (zIU (t:=3) (a:=(li I)) rfl rfl)<|zA (zD rfl)<|zA (zD rfl) ?_
 refine zG<|zI<|zI<|zC<|zA (zN Try.isAgg26 rfl rfl rfl rfl)<|zA (zN Try.isAgg3 rfl rfl rfl rfl) ?_
 refine zQ h fun x1 w1 h=>zb Try.func67 rfl (by kernel_rfl) (.fn 67) rfl rfl (zM7 w1) rfl<|zA (zD rfl)<|zG<|zI<|zC ?_
 refine zA (zB rfl)<|zA (z7 rfl rfl)<|zG ?_
 refine zY h rfl (fun b1 h => ?_) (fun b1 h => ?_)
 ·refine zI<|zC<|zA (zB rfl)<|zA (zD rfl)<|zA (zD rfl)<|zG ?_
  refine zd ?_
  cases h
  exact zCF (zI6 (zAl rfl rfl) zBC.nils) (zAl rfl rfl) rfl
 refine zS<|zI<|zC<|zA (zD rfl)<|zG ?_
 refine zAA (r:=r) (fun (l1:List Int)=>mkE [(3,(AV.ptr 0 0)),(4,(AV.ptr 1 0)),(9,(AV.hd 2))]) (fun l1=>[.box 26 [ls zO Y],.box 3 [li I],.vec 3 1 (List.map cI l1)]) (fun l1=>zFy Y I l1) ?_ ?_
 ·
  refine zI<|zC<|zA (zN Try.isAgg26 rfl rfl rfl rfl)<|zA (ze Try.underlying26 rfl)<|zA (zB rfl)<|zG ?_
  refine zV<|z6 (σ:=Int×(List Int)) (fun (i1,l2)=>mkE [(2,(AV.lit (.bool uR))),(3,(AV.ptr 0 0)),(4,(AV.ptr 1 0)),(9,(AV.hd 2)),(19,(ls zO Y)),(20,(li (Y.length:Int))),(21,(li i1))]) (fun (i1,l2)=>[.box 26 [ls zO Y],.box 3 [li I],.vec 3 1 (List.map cI l2)]) (fun n0 (i1,l2)=>zDb Y I uR n0 i1 l2) (0,[]) h (fun _=>rfl) (Rep.trans (zPo (d:=9) (el:=3) (sz:=1) rfl) (zAZ [0,1,2] (l:=[(2,(AV.lit (.bool uR))),(3,(AV.ptr 0 0)),(4,(AV.ptr 1 0)),(9,(AV.hd 2)),(19,(ls zO Y)),(20,(li (Y.length:Int))),(21,(li 0))]) rfl rfl (by kernel_rfl))) ?_
  clear h
  rintro n0 ⟨i1,l2⟩ h
  replace h:zBl Y I uR (zDb Y I uR n0) i1 l2=some r:=h
  unfold zBl at h
  refine zI<|zC<|zA (zi rfl rfl)<|zG<|zI ?_
  refine zY h rfl (fun b2 h => ?_) (fun b2 h => ?_)
  ·refine zS ?_
   refine zAA (r:=r) (fun (l3:List Int)=>mkE [(2,(AV.lit (.bool uR))),(3,(AV.ptr 0 0)),(4,(AV.ptr 1 0)),(9,(AV.hd 2)),(19,(ls zO Y)),(20,(li (Y.length:Int))),(21,(li i1))]) (fun l3=>[.box 26 [ls zO Y],.box 3 [li I],.vec 3 1 (List.map cI l3)]) (fun l3=>zDe (zDb Y I uR n0) i1 l3) ?_ ?_
   ·
    refine zV<|zI<|zC<|zA (zB rfl)<|zL h fun b4 h=>zA (zm Try.underlying26 Try.sizeOf46 (fun _=>rfl) rfl rfl b4) ?_
    refine zA (zBB (row:=(zO (at_ Y i1))) (o:=0) (m:=10) (la:=(zO (at_ Y i1))) Try.isAgg46 Try.sizeOf46 rfl rfl rfl)<|zX (H':=[.box 26 [ls zO Y],.box 3 [li I],.vec 3 1 (List.map cI l2),.box 46 (zO ⟨0,0,0,0,0,(List.replicate 5 ([]:List Int))⟩)]) zv0<|zA (zD rfl)<|za (H':=[.box 26 [ls zO Y],.box 3 [li I],.vec 3 1 (List.map cI l2),.box 46 (zO (at_ Y i1))]) (zT (k:=3) (o:=0) (cs:=(zO ⟨0,0,0,0,0,(List.replicate 5 ([]:List Int))⟩)) (la:=(zO (at_ Y i1))) Try.sizeOf46 rfl rfl rfl rfl)<|zG<|zI ?_
    refine zC<|zA (zB rfl)<|zA (zBf (t:=uR) rfl)<|zA (zB rfl)<|zZ rfl rfl (fun c1=>zv.step (zM Try.underlying46 rfl rfl Try.sizeOf3 rfl))<|zZ rfl rfl (fun c2=>zv.step (zN Try.isAgg3 (zAQ rfl c2) rfl rfl rfl)) ?_
    refine zZ rfl rfl (fun c3=>zv.step (zBe (zAQ rfl c3) rfl))<|zA (zh rfl rfl)<|zG ?_
    refine zY h rfl (fun b5 h => ?_) (fun b5 h => ?_)
    ·refine zC<|zA (zB rfl)<|zA (zB rfl)<|zHF (a:=(li i1)) zHR Try.underlying22 rfl rfl rfl rfl<|zL h fun b6 h=>zEq (f:=cI) (k:=2) (j:=4) (l:=l2) (l':=[i1]) zHR (fun _=>rfl) Try.underlying22 rfl rfl rfl rfl b6 ?_
     refine zA (zD rfl)<|zG ?_
     exact ⟨(l2++[i1]),zAZ [0,1,5] rfl rfl (by kernel_rfl),h⟩
    refine zS ?_
    exact ⟨l2,zAZ [0,1,2] rfl rfl (by kernel_rfl),h⟩
   clear h
   intro l3 h
   unfold zDe at h
   refine zC<|zL h fun b3 h=>zA (zg rfl rfl b3)<|zA (zB rfl)<|zG ?_
   exact ⟨((i1+1),l3),zAZ [0,1,2] rfl rfl (by kernel_rfl),h⟩
  refine zAC ?_
  exact ⟨l2,zAZ [0,1,2] rfl rfl (by kernel_rfl),h⟩
 clear h
 intro l1 h
 unfold zFy at h
 refine zI<|zC<|zA (zKg (la:=[AV.ptr 1 0,AV.ptr 0 0]) rfl)<|zX (H':=[.box 26 [ls zO Y],.box 3 [li I],.vec 3 1 (List.map cI l1),.box 116 [AV.lit .nilFunc]]) zv8<|za (H':=[.box 26 [ls zO Y],.box 3 [li I],.vec 3 1 (List.map cI l1),.box 116 [(AV.clo 68 [AV.ptr 1 0,AV.ptr 0 0])]]) (zGY (k:=3) (o:=0) (cs:=[AV.lit .nilFunc]) (a:=(AV.clo 68 [AV.ptr 1 0,AV.ptr 0 0])) Try.sizeOf116 rfl rfl rfl rfl rfl)<|zG ?_
 refine zI<|zC<|zA (zB rfl)<|zA (zKg (la:=[AV.ptr 3 0]) rfl)<|zQ h fun x2 w2 h=>zE6 (k:=2) (la:=[AV.hd 2,(AV.clo 71 [AV.ptr 3 0])]) (la':=[AV.hd 0,(AV.clo 71 [(AV.rp [(AV.clo 68 [(AV.rp [li I] 0),(AV.rp [ls zO Y] 0)])] 0)])]) (r:=(.tup [])) (S:=[0,1,3]) (en' := .vec 3 1 (List.map cI x2)) Try.func70 rfl (by kernel_rfl) (.fn 70) rfl ⟨zDQ.hd,zDQ.of (zBI.clo (⟨zBI.ptrV (cs:=[(AV.clo 68 [AV.ptr 1 0,AV.ptr 0 0])]) rfl rfl rfl ⟨zBI.clo (⟨zBI.ptr (cs:=[li I]) rfl rfl rfl,zBI.ptr (cs:=[ls zO Y]) rfl rfl rfl,trivial⟩),trivial⟩,trivial⟩)),trivial⟩ rfl rfl rfl rfl (zG8 Try.func71 rfl (by kernel_rfl) rfl (fun hy=>zLy Try.func68 rfl (by kernel_rfl) rfl (fun hy=>zL0  hy) hy) w2) rfl (.inr ⟨rfl,zT9⟩) ?_
 refine zG<|zI<|zC<|zA (zB rfl)<|zA (zD rfl)<|zA (zD rfl) ?_
 refine zG<|zA5 (zFP (j:=2) (ds:=[6,9,39,42]) (rows':=List.map cI x2) rfl (zAb (fun _=>rfl)) ⟨rfl,rfl,rfl,rfl,trivial⟩)<|zd ?_
 cases h
 exact zCF (zAl rfl rfl) (zAl rfl rfl) rfl
theorem zGn {Q:List zW} {r:List zW} (h:zBn Q=some r):PFn Try.prog 74 [ls zO Q] (AV.osl 46 10 (List.map zO r)):=by
  refine zq Try.func74 rfl Try.ntmps74 Try.results74 rfl ?_
  unfold zBn at h
  refine zL h fun b1 h => ?_
  obtain rfl:=Option.some.inj h
  refine zI<|zC<|zA (a:=(.lit (.slice none 0 0))) (zD rfl)<|zG<|zI<|zI ?_
  refine zC<|zA (a:=(ls zO Q)) (zB rfl) ?_
  refine zL9 (full:=false) (rows:=List.map zO Q) Try.underlying26 rfl (fun b hb => ?_)
  refine zG ?_
  refine zNy b rfl (fun hbt => ?_) (fun hbt => ?_)
  · obtain rfl:Q=[]:=List.map_eq_nil_iff.1 (hb hbt)
    refine zI<|zC<|zA (a:=(.lit (.slice none 0 0))) (zD rfl)<|zG<|zd ?_
    exact zy (zI6 (zAl rfl rfl) zBC.nilo)
  · refine zS ?_
    refine zI<|zC<|zMV zSM Try.underlying26<|zA (a:=(ls zO Q)) (zB rfl)<|zHM (f:=zO) (k:=0) (l:=[]) (l':=Q) zSM (fun _=>rfl) Try.underlying26 rfl rfl rfl b1<|zA (a:=(.hd 1)) (zD rfl) ?_
    refine zG<|zd ?_
    exact zy (zZI (rows:=List.map zO ([]++Q)) rfl rfl)
theorem zFC {Q:List zK} {r:List zK} (h:zBA Q=some r):PFn Try.prog 75 [ls zJ Q] (AV.osl 50 1 (List.map zJ r)):=by
  refine zq Try.func75 rfl Try.ntmps75 Try.results75 rfl ?_
  unfold zBA at h
  refine zL h fun b1 h => ?_
  obtain rfl:=Option.some.inj h
  refine zI<|zC<|zA (a:=(.lit (.slice none 0 0))) (zD rfl)<|zG<|zI<|zI ?_
  refine zC<|zA (a:=(ls zJ Q)) (zB rfl) ?_
  refine zL9 (full:=false) (rows:=List.map zJ Q) Try.underlying27 rfl (fun b hb => ?_)
  refine zG ?_
  refine zNy b rfl (fun hbt => ?_) (fun hbt => ?_)
  · obtain rfl:Q=[]:=List.map_eq_nil_iff.1 (hb hbt)
    refine zI<|zC<|zA (a:=(.lit (.slice none 0 0))) (zD rfl)<|zG<|zd ?_
    exact zy (zI6 (zAl rfl rfl) zBC.nilo)
  · refine zS ?_
    refine zI<|zC<|zMV zSk Try.underlying27<|zA (a:=(ls zJ Q)) (zB rfl)<|zHM (f:=zJ) (k:=0) (l:=[]) (l':=Q) zSk (fun _=>rfl) Try.underlying27 rfl rfl rfl b1<|zA (a:=(.hd 1)) (zD rfl) ?_
    refine zG<|zd ?_
    exact zy (zZI (rows:=List.map zJ ([]++Q)) rfl rfl)
theorem zJX {Q:List (List Int)} {r:List (List Int)} (h:zDu Q=some r):PFn Try.prog 76 [(ls (cS cI) Q)] (AV.osl 22 1 (List.map (cS cI) r)):=by
  refine zq Try.func76 rfl Try.ntmps76 Try.results76 rfl ?_
  unfold zDu at h
  refine zL h fun b1 h => ?_
  obtain rfl:=Option.some.inj h
  refine zI<|zC<|zA (a:=(.lit (.slice none 0 0))) (zD rfl)<|zG<|zI<|zI ?_
  refine zC<|zA (a:=(ls (cS cI) Q)) (zB rfl) ?_
  refine zL9 (full:=false) (rows:=List.map (cS cI) Q) Try.underlying48 rfl (fun b hb => ?_)
  refine zG ?_
  refine zNy b rfl (fun hbt => ?_) (fun hbt => ?_)
  · obtain rfl:Q=[]:=List.map_eq_nil_iff.1 (hb hbt)
    refine zI<|zC<|zA (a:=(.lit (.slice none 0 0))) (zD rfl)<|zG<|zd ?_
    exact zy (zI6 (zAl rfl rfl) zBC.nilo)
  · refine zS ?_
    refine zI<|zC<|zMV zR9 Try.underlying48<|zA (a:=(ls (cS cI) Q)) (zB rfl)<|zHM (f:=(cS cI)) (k:=0) (l:=[]) (l':=Q) zR9 (fun _=>rfl) Try.underlying48 rfl rfl rfl b1<|zA (a:=(.hd 1)) (zD rfl) ?_
    refine zG<|zd ?_
    exact zy (zZI (rows:=List.map (cS cI) ([]++Q)) rfl rfl)
theorem zD7 {A:zH} {r:zH} (h:zCO A=some r):PFn Try.prog 42 [(AV.agg (zF A))] (AV.agg ([ls cI r.nodes]++([li r.batch]++([li r.high]++([AV.osl 46 10 (List.map zO r.zones)]++([AV.osl 50 1 (List.map zAS r.caches)]++[])))))):=by
 refine zq Try.func42 rfl Try.ntmps42 Try.results42 rfl ?_
 unfold zCO at h
 refine zI<|zC<|zX (H':=[.box 29 (zF A)]) (z8 (t:=29) rfl)<|zX (H':=[.box 29 (zF A),.box 29 (zF ⟨[],0,0,[],[]⟩)]) zv3<|zG<|zI ?_
 refine zQ h fun x1 w1 h=>zQ h fun x2 w2 h=>zQ h fun x3 w3 h => ?_
 show AW _ _ _ _ _ _ [.box 29 (zF A),.box 29 (zF ⟨[],0,0,[],[]⟩)]
 refine zBr (n:=82) (m:=0) [.head 0 0,.head 0 0,.tail 0,.head 0 1,.head 0 1,.tail 1,.head 0 2,.head 0 2,.tail 2,.head 1 3,.tail 3,.head 4 4,.tail 4,.head 5 5,.tail 5] [2,5,8,10,12,14] [AV.ptr 0 0,ls cI A.nodes,AV.hd 2,AV.ptr 0 3,ls zO A.zones,AV.hd 3,AV.ptr 0 4,ls zJ A.caches,AV.hd 4,AV.ptr 0 0,.any,AV.ptr 0 3,.any,AV.ptr 0 4,.any] [[.box 29 (zF A),.box 29 (zF ⟨[],0,0,[],[]⟩)],[.box 29 (zF A),.box 29 (zF ⟨[],0,0,[],[]⟩),.vec 3 1 (List.map cI x1)],[.box 29 (zF A),.box 29 (zF ⟨[],0,0,[],[]⟩),.vec 3 1 (List.map cI x1),.vec 46 10 (List.map zO x2)],[.box 29 (zF A),.box 29 (zF ⟨[],0,0,[],[]⟩),.vec 3 1 (List.map cI x1),.vec 46 10 (List.map zO x2),.vec 50 1 (List.map zJ x3)],[.box 29 [AV.hd 2,li A.batch,li A.high,ls zO A.zones,ls zJ A.caches],.box 29 (zF ⟨[],0,0,[],[]⟩),.vec 3 1 (List.map cI x1),.vec 46 10 (List.map zO x2),.vec 50 1 (List.map zJ x3)],[.box 29 [AV.hd 2,li A.batch,li A.high,AV.hd 3,ls zJ A.caches],.box 29 (zF ⟨[],0,0,[],[]⟩),.vec 3 1 (List.map cI x1),.vec 46 10 (List.map zO x2),.vec 50 1 (List.map zJ x3)],[.box 29 [AV.hd 2,li A.batch,li A.high,AV.hd 3,AV.hd 4],.box 29 (zF ⟨[],0,0,[],[]⟩),.vec 3 1 (List.map cI x1),.vec 46 10 (List.map zO x2),.vec 50 1 (List.map zJ x3)]] (by kernel_rfl) (by kernel_rfl) ⟨?_,?_,?_,⟨?_,?_⟩,⟨?_,?_⟩,?_,⟨?_,?_,?_⟩,⟨?_,?_,?_⟩,?_,⟨?_,?_,?_⟩,?_,?_,?_,?_,?_,trivial⟩ ?_
 ·exact D1 fun e s p=>zM (k:=0) (o:=0) (off:=0) Try.underlying29 rfl rfl Try.sizeOf22 (s 1 rfl)
 ·exact D1 fun e s p=>zN (k:=0) (o:=0) Try.isAgg22 p.1 rfl rfl rfl
 ·
  intro e3 s3 p3
  refine zJo (T:=3) (sz:=1) (rows:=List.map cI x1) (la:=[ls cI A.nodes]) (la':=[ls cI A.nodes]) (S:=[]) Try.func24 rfl (by kernel_rfl) (.fn 24) (zAe p3.1 rfl) ⟨zBI.nr rfl,trivial⟩ (zAc w1) (.inl rfl) ?_
  exact zG ⟨fun _=>rfl,rfl⟩
 ·exact D1 fun e s p=>zM (k:=0) (o:=0) (off:=3) Try.underlying29 rfl rfl Try.sizeOf26 (s 1 rfl)
 ·exact D1 fun e s p=>zM (k:=0) (o:=0) (off:=3) Try.underlying29 rfl rfl Try.sizeOf26 (s 1 rfl)
 ·exact D1 fun e s p=>zN (k:=0) (o:=3) Try.isAgg26 p.1 rfl rfl rfl
 ·exact D1 fun e s p=>zN (k:=0) (o:=3) Try.isAgg26 p.1 rfl rfl rfl
 ·
  intro e8 s8 p8
  refine zJo (T:=46) (sz:=10) (rows:=List.map zO x2) (la:=[ls zO A.zones]) (la':=[ls zO A.zones]) (S:=[]) Try.func74 rfl (by kernel_rfl) (.fn 74) (zAe p8.1 rfl) ⟨zBI.nr rfl,trivial⟩ (zGn w2) (.inl rfl) ?_
  exact zG ⟨fun _=>rfl,rfl⟩
 ·exact D1 fun e s p=>zM (k:=0) (o:=0) (off:=4) Try.underlying29 rfl rfl Try.sizeOf27 (s 1 rfl)
 ·exact D1 fun e s p=>zM (k:=0) (o:=0) (off:=4) Try.underlying29 rfl rfl Try.sizeOf27 (s 1 rfl)
 ·exact D1 fun e s p=>zM (k:=0) (o:=0) (off:=4) Try.underlying29 rfl rfl Try.sizeOf27 (s 1 rfl)
 ·exact D1 fun e s p=>zN (k:=0) (o:=4) Try.isAgg27 p.1 rfl rfl rfl
 ·exact D1 fun e s p=>zN (k:=0) (o:=4) Try.isAgg27 p.1 rfl rfl rfl
 ·exact D1 fun e s p=>zN (k:=0) (o:=4) Try.isAgg27 p.1 rfl rfl rfl
 ·
  intro e15 s15 p15
  refine zJo (T:=50) (sz:=1) (rows:=List.map zJ x3) (la:=[ls zJ A.caches]) (la':=[ls zJ A.caches]) (S:=[]) Try.func75 rfl (by kernel_rfl) (.fn 75) (zAe p15.1 rfl) ⟨zBI.nr rfl,trivial⟩ (zFC w3) (.inl rfl) ?_
  exact zG ⟨fun _=>rfl,rfl⟩
 ·exact D1 fun e s p=>zM (k:=0) (o:=0) (off:=0) Try.underlying29 rfl rfl Try.sizeOf22 (s 1 rfl)
 ·exact D1 fun e s p=>zM (k:=0) (o:=0) (off:=0) Try.underlying29 rfl rfl Try.sizeOf22 (s 1 rfl)
 ·exact D1 fun e s p=>zM (k:=0) (o:=0) (off:=0) Try.underlying29 rfl rfl Try.sizeOf22 (s 1 rfl)
 ·
  intro e19 s19 p19
  refine za (H':=[.box 29 [AV.hd 2,li A.batch,li A.high,ls zO A.zones,ls zJ A.caches],.box 29 (zF ⟨[],0,0,[],[]⟩),.vec 3 1 (List.map cI x1),.vec 46 10 (List.map zO x2),.vec 50 1 (List.map zJ x3)]) (zGY (k:=0) (o:=0) (cs:=(zF A)) (a:=(AV.hd 2)) Try.sizeOf22 (by exact p19.1) rfl rfl (by exact p19.2.2.2.2.2.1) rfl) ?_
  exact zG ⟨fun _=>rfl,rfl⟩
 ·exact D1 fun e s p=>zM (k:=0) (o:=0) (off:=3) Try.underlying29 rfl rfl Try.sizeOf26 (s 1 rfl)
 ·
  intro e21 s21 p21
  refine za (H':=[.box 29 [AV.hd 2,li A.batch,li A.high,AV.hd 3,ls zJ A.caches],.box 29 (zF ⟨[],0,0,[],[]⟩),.vec 3 1 (List.map cI x1),.vec 46 10 (List.map zO x2),.vec 50 1 (List.map zJ x3)]) (zGY (k:=0) (o:=3) (cs:=[AV.hd 2,li A.batch,li A.high,ls zO A.zones,ls zJ A.caches]) (a:=(AV.hd 3)) Try.sizeOf26 (by exact p21.1) rfl rfl (by exact p21.2.2.2.2.2.2.2.2.1) rfl) ?_
  exact zG ⟨fun _=>rfl,rfl⟩
 ·exact D1 fun e s p=>zM (k:=0) (o:=0) (off:=4) Try.underlying29 rfl rfl Try.sizeOf27 (s 1 rfl)
 ·
  intro e23 s23 p23
  refine za (H':=[.box 29 [AV.hd 2,li A.batch,li A.high,AV.hd 3,AV.hd 4],.box 29 (zF ⟨[],0,0,[],[]⟩),.vec 3 1 (List.map cI x1),.vec 46 10 (List.map zO x2),.vec 50 1 (List.map zJ x3)]) (zGY (k:=0) (o:=4) (cs:=[AV.hd 2,li A.batch,li A.high,AV.hd 3,ls zJ A.caches]) (a:=(AV.hd 4)) Try.sizeOf27 (by exact p23.1) rfl rfl (by exact p23.2.2.2.2.2.2.2.2.2.2.2.1) rfl) ?_
  exact zG ⟨fun _=>rfl,rfl⟩
 intro e24 s24 hq1
 refine zA5 (zCy (l:=[(1,(AV.ptr 0 0)),(2,(AV.ptr 1 0))]) ⟨s24 1 rfl,s24 2 rfl,trivial⟩) ?_
 refine zMq (fun e' H' => ∃ (l1:List zW),Rep 82 0 e' H' (mkE [(1,(AV.ptr 0 0)),(2,(AV.ptr 1 0))]) [.box 29 [AV.osl 3 1 (List.map cI x1),li A.batch,li A.high,AV.osl 46 10 (List.map zO l1),AV.osl 50 1 (List.map zJ x3)],.box 29 (zF ⟨[],0,0,[],[]⟩)]∧zFL A x1 x3 l1=some r) ?_ ?_
 ·
  refine zI<|zC<|zA (zM Try.underlying29 rfl rfl Try.sizeOf26 rfl)<|zA (zN Try.isAgg26 rfl rfl rfl rfl)<|zA (zD1 (f:=zO) (l:=x2) Try.underlying26 rfl rfl)<|zA (zB rfl) ?_
  refine zG<|zV<|zOU (σ:=Nat×Int×(List zW)) (fun s=>s.1) (fun s e' H'=>match s with | (n2,i3,l7)=>Rep 82 0 e' H' (mkE [(1,(AV.ptr 0 0)),(2,(AV.ptr 1 0)),(22,(li (x2.length:Int))),(23,(li i3))]) [.box 29 [AV.osl 3 1 (List.map cI x1),li A.batch,li A.high,AV.osl 46 10 (List.map zO l7),AV.osl 50 1 (List.map zJ x3)],.box 29 (zF ⟨[],0,0,[],[]⟩)]∧zBb A x1 x2 x3 n2 i3 l7=some r) (z5,0,x2) ⟨Rep.trans (zAT (k:=0) (j:=2) (o:=0) rfl rfl rfl rfl) (Rep.trans (zAT (k:=0) (j:=3) (o:=3) rfl rfl rfl rfl) (Rep.trans (zAT (k:=0) (j:=4) (o:=4) rfl rfl rfl rfl) (zAZ [0,1] (l:=[(1,(AV.ptr 0 0)),(2,(AV.ptr 1 0)),(22,(li (x2.length:Int))),(23,(li 0))]) rfl rfl (by kernel_rfl)))),h⟩ ?_
  clear h
  rintro ⟨n2,i3,l7⟩ e' H' ⟨hrep,h⟩
  cases n2 with
  | zero=>exact absurd (show (none:Option _)=some r from h) (by simp)
  | succ n2 =>
   replace h:zCD A x1 x2 x3 (zBb A x1 x2 x3 n2) i3 l7=some r:=h
   unfold zCD at h
   refine zA5 hrep ?_
   clear hrep
   refine zI<|zC<|zA (zi rfl rfl)<|zG<|zI ?_
   refine zY h rfl (fun b8 h => ?_) (fun b8 h => ?_)
   ·refine zS ?_
    refine zMq (fun e' H' => ∃ (l8:List zW),Rep 82 0 e' H' (mkE [(1,(AV.ptr 0 0)),(2,(AV.ptr 1 0)),(22,(li (x2.length:Int))),(23,(li i3))]) [.box 29 [AV.osl 3 1 (List.map cI x1),li A.batch,li A.high,AV.osl 46 10 (List.map zO l8),AV.osl 50 1 (List.map zJ x3)],.box 29 (zF ⟨[],0,0,[],[]⟩)]∧zFR (zBb A x1 x2 x3 n2) i3 l8=some r) ?_ ?_
    ·
     refine zV<|zI<|zC<|zA (zB rfl)<|zA (zD rfl)<|zG ?_
     refine zI<|zC<|zA (zB rfl)<|zG<|zV<|zOU (σ:=Nat×Int×(List zW)) (fun s=>s.1) (fun s e' H'=>match s with | (n3,i4,l9)=>Rep 82 0 e' H' (mkE [(1,(AV.ptr 0 0)),(2,(AV.ptr 1 0)),(3,(li i3)),(22,(li (x2.length:Int))),(23,(li i3)),(26,(li i4))]) [.box 29 [AV.osl 3 1 (List.map cI x1),li A.batch,li A.high,AV.osl 46 10 (List.map zO l9),AV.osl 50 1 (List.map zJ x3)],.box 29 (zF ⟨[],0,0,[],[]⟩)]∧zC3 (zBb A x1 x2 x3 n2) i3 n3 i4 l9=some r) (z5,0,l7) ⟨zAZ [0,1] rfl rfl (by kernel_rfl),h⟩ ?_
     clear h
     rintro ⟨n3,i4,l9⟩ e' H' ⟨hrep,h⟩
     cases n3 with
     | zero=>exact absurd (show (none:Option _)=some r from h) (by simp)
     | succ n3 =>
      replace h:zCG (zBb A x1 x2 x3 n2) i3 (zC3 (zBb A x1 x2 x3 n2) i3 n3) i4 l9=some r:=h
      unfold zCG at h
      refine zA5 hrep ?_
      clear hrep
      refine zI<|zC<|zA (zi rfl rfl)<|zG<|zI ?_
      refine zY h rfl (fun b10 h => ?_) (fun b10 h => ?_)
      ·refine zS<|zI<|zV<|zI<|zC<|zA (zB rfl) ?_
       refine zA (zD rfl)<|zG<|zA5 (zBz (k:=0) (o:=3) (t':=46) (sz:=10) (rows:=List.map zO l9) rfl rfl)<|zL h fun b11 h=>zL h fun b12 h=>zQ h fun x6 w6 h => ?_
       show AW _ _ _ _ _ _ [.box 29 [AV.osl 3 1 (List.map cI x1),li A.batch,li A.high,AV.hd 2,AV.osl 50 1 (List.map zJ x3)],.box 29 (zF ⟨[],0,0,[],[]⟩),.vec 46 10 (List.map zO l9)]
       refine zBr (n:=82) (m:=0) [.head 0 0,.head 0 0,.head 0 0,.head 0 0,.head 0 0,.head 0 0,.head 0 0,.head 0 0,.head 0 0,.head 0 0,.head 0 0,.head 0 0,.head 0 0,.head 0 0,.head 0 0,.head 0 0,.tail 0] [16] [AV.ptr 0 3,AV.hd 2,li i3,li i4,AV.ptr 0 3,AV.hd 2,li i3,li i4,(AV.ptr 2 (i3.toNat*10)),(AV.ptr 2 (i3.toNat*10+5)),(AV.ptr 2 (i3.toNat*10+5+i4.toNat*1)),(ls cI (((at_ l9 i3).free).getD i4.toNat ([]:List Int))),ls cI x6,(AV.ptr 2 (i3.toNat*10)),(AV.ptr 2 (i3.toNat*10+5)),(AV.ptr 2 (i3.toNat*10+5+i4.toNat*1)),.any] [[.box 29 [AV.osl 3 1 (List.map cI x1),li A.batch,li A.high,AV.hd 2,AV.osl 50 1 (List.map zJ x3)],.box 29 (zF ⟨[],0,0,[],[]⟩),.vec 46 10 (List.map zO l9)],[.box 29 [AV.osl 3 1 (List.map cI x1),li A.batch,li A.high,AV.hd 2,AV.osl 50 1 (List.map zJ x3)],.box 29 (zF ⟨[],0,0,[],[]⟩),.vec 46 10 (List.map zO (l9.set i3.toNat ({ at_ l9 i3 with free:=zDY 5 ([]:List Int) ((at_ l9 i3).free) i4.toNat x6 })))]] (by kernel_rfl) (by kernel_rfl) ⟨?_,?_,?_,?_,?_,?_,?_,?_,?_,?_,?_,?_,?_,?_,?_,?_,?_,trivial⟩ ?_
       ·exact D1 fun e s p=>zM (k:=0) (o:=0) (off:=3) Try.underlying29 rfl rfl Try.sizeOf26 (s 1 rfl)
       ·exact D1 fun e s p=>zN (k:=0) (o:=3) Try.isAgg26 p.1 rfl rfl rfl
       ·exact D1 fun e s p=>zB (s 3 rfl)
       ·exact D1 fun e s p=>zB (s 4 rfl)
       ·exact D1 fun e s p=>zM (k:=0) (o:=0) (off:=3) Try.underlying29 rfl rfl Try.sizeOf26 (s 1 rfl)
       ·exact D1 fun e s p=>zN (k:=0) (o:=3) Try.isAgg26 p.1 rfl rfl rfl
       ·exact D1 fun e s p=>zB (s 3 rfl)
       ·exact D1 fun e s p=>zB (s 4 rfl)
       ·exact D1 fun e s p=>zAR (f:=zO) (l:=l9) (i:=i3) Try.underlying26 Try.sizeOf46 p.1 rfl p.2.1 b11
       ·exact D1 fun e s p=>zM (k:=2) (o:=(i3.toNat*10)) (off:=5) Try.underlying46 rfl rfl Try.sizeOf44 p.1
       ·exact D1 fun e s p=>zAP (m:=5) (s:=1) (i:=i4) (k:=2) (o:=(i3.toNat*10+5)) Try.underlying44 Try.sizeOf22 p.1 p.2.1 b12
       ·exact D1 fun e s p=>zDX (f:=zO) (l:=l9) (i:=i3) (c:=5+i4.toNat) (a:=(ls cI (((at_ l9 i3).free).getD i4.toNat ([]:List Int)))) Try.isAgg22 p.1 rfl (by first | rfl | omega) b11 (zVu (n:=5) (g:=(eS cI)) (d:=([]:List Int)) (l:=(at_ l9 i3).free) (i:=i4.toNat) (zBt b12).2 ([(li ((at_ l9 i3).node))]++[(li ((at_ l9 i3).kind))]++[(li ((at_ l9 i3).start))]++[(li ((at_ l9 i3).count))]++[(li ((at_ l9 i3).min))]++[]) ([])) rfl
       ·
        intro e37 s37 p36
        refine zAx (r':=(ls cI x6)) (la:=[(ls cI (((at_ l9 i3).free).getD i4.toNat ([]:List Int)))]) (la':=[(ls cI (((at_ l9 i3).free).getD i4.toNat ([]:List Int)))]) (r:=(AV.osl 3 1 (List.map cI x6))) (S:=[]) Try.func24 rfl (by kernel_rfl) (.fn 24) (zAe p36.1 rfl) ⟨zBI.nr rfl,trivial⟩ (zAc w6) (.inl rfl) (congrArg (AV.sl false) (zAb (fun _=>rfl))) ?_
        exact zG ⟨fun _=>rfl,rfl⟩
       ·exact D1 fun e s p=>zAR (f:=zO) (l:=l9) (i:=i3) Try.underlying26 Try.sizeOf46 p.1 rfl p.2.1 b11
       ·exact D1 fun e s p=>zM (k:=2) (o:=(i3.toNat*10)) (off:=5) Try.underlying46 rfl rfl Try.sizeOf44 p.1
       ·exact D1 fun e s p=>zAP (m:=5) (s:=1) (i:=i4) (k:=2) (o:=(i3.toNat*10+5)) Try.underlying44 Try.sizeOf22 p.1 p.2.2.2.2.2.1 b12
       ·
        intro e41 s41 p40
        refine za (H':=[.box 29 [AV.osl 3 1 (List.map cI x1),li A.batch,li A.high,AV.hd 2,AV.osl 50 1 (List.map zJ x3)],.box 29 (zF ⟨[],0,0,[],[]⟩),.vec 46 10 (List.map zO (l9.set i3.toNat ({ at_ l9 i3 with free:=zDY 5 ([]:List Int) ((at_ l9 i3).free) i4.toNat x6 })))]) (zIP (k:=2) (o:=(i3.toNat*10+5+i4.toNat*1)) (f:=zO) (l:=l9) (i:=i3) (c:=5+i4.toNat) (a:=(ls cI x6)) (z:={ at_ l9 i3 with free:=zDY 5 ([]:List Int) ((at_ l9 i3).free) i4.toNat x6 }) Try.sizeOf22 (by exact p40.1) rfl (by first | rfl | omega) b11 (zWY b12 rfl) (by exact p40.2.2.2.2.2.2.2.2.2.2.2.2.2.2.2.1) rfl rfl (zV9 (n:=5) (g:=(eS cI)) (d:=([]:List Int)) (l:=(at_ l9 i3).free) (i:=i4.toNat) (x:=x6) (zBt b12).2 ([(li ((at_ l9 i3).node))]++[(li ((at_ l9 i3).kind))]++[(li ((at_ l9 i3).start))]++[(li ((at_ l9 i3).count))]++[(li ((at_ l9 i3).min))]++[]) ([]))) ?_
        exact zG ⟨fun _=>rfl,rfl⟩
       intro e42 s42 hq2
       refine zA5 (zCy (l:=[(1,(AV.ptr 0 0)),(2,(AV.ptr 1 0)),(3,(li i3)),(22,(li (x2.length:Int))),(23,(li i3)),(26,(li i4))]) ⟨s42 1 rfl,s42 2 rfl,s42 3 rfl,s42 22 rfl,s42 23 rfl,s42 26 rfl,trivial⟩)<|zC<|zL h fun b13 h=>zA (zg (a:=i4) (b:=1) rfl rfl b13)<|zA (zB (av:=(li (i4+1))) rfl)<|zG ?_
       exact ⟨(n3,(i4+1),(l9.set i3.toNat ({ at_ l9 i3 with free:=zDY 5 ([]:List Int) ((at_ l9 i3).free) i4.toNat x6 }))),Nat.lt_succ_self _,Rep.trans (zAT (k:=0) (j:=2) (o:=3) rfl rfl rfl rfl) (zAZ [0,1] (l:=[(1,(AV.ptr 0 0)),(2,(AV.ptr 1 0)),(3,(li i3)),(22,(li (x2.length:Int))),(23,(li i3)),(26,(li (i4+1)))]) rfl rfl (by kernel_rfl)),h⟩
      refine zAC ?_
      exact ⟨l9,zAZ [0,1] rfl rfl (by kernel_rfl),h⟩
    clear h
    rintro e' H' ⟨l8,hrep,h⟩
    refine zA5 hrep ?_
    clear hrep
    unfold zFR at h
    refine zC<|zL h fun b9 h=>zA (zg rfl rfl b9)<|zA (zB rfl)<|zG ?_
    exact ⟨(n2,(i3+1),l8),Nat.lt_succ_self _,zAZ [0,1] rfl rfl (by kernel_rfl),h⟩
   refine zAC ?_
   exact ⟨l7,zAZ [0,1] rfl rfl (by kernel_rfl),h⟩
 clear h
 rintro e' H' ⟨l1,hrep,h⟩
 refine zA5 hrep ?_
 clear hrep
 unfold zFL at h
 refine zMq (fun e' H' => ∃ (l2:List zK),Rep 82 0 e' H' (mkE [(1,(AV.ptr 0 0)),(2,(AV.ptr 1 0))]) [.box 29 [AV.osl 3 1 (List.map cI x1),li A.batch,li A.high,AV.osl 46 10 (List.map zO l1),AV.osl 50 1 (List.map zAS l2)],.box 29 (zF ⟨[],0,0,[],[]⟩)]∧zGu A x1 l1 l2=some r) ?_ ?_
 ·
  refine zI<|zC<|zA (zM Try.underlying29 rfl rfl Try.sizeOf27 rfl)<|zAJ (zBz (k:=0) (o:=4) (t':=50) (sz:=1) (rows:=List.map zJ x3) rfl rfl)<|zA (zN Try.isAgg27 rfl rfl rfl rfl)<|zA (zD1 (f:=zJ) (l:=x3) Try.underlying27 rfl rfl) ?_
  refine zA (zB rfl)<|zG<|zV<|zOU (σ:=Nat×Int×(List zK)) (fun s=>s.1) (fun s e' H'=>match s with | (n0,i1,l3)=>Rep 82 0 e' H' (mkE [(1,(AV.ptr 0 0)),(2,(AV.ptr 1 0)),(49,(li (x3.length:Int))),(50,(li i1))]) [.box 29 [AV.osl 3 1 (List.map cI x1),li A.batch,li A.high,AV.osl 46 10 (List.map zO l1),AV.osl 50 1 (zNH zJ zAS i1 l3)],.box 29 (zF ⟨[],0,0,[],[]⟩)]∧l3.length=x3.length∧zBJ A x1 x3 l1 n0 i1 l3=some r) (z5,0,x3) ⟨Rep.trans (zAT (k:=0) (j:=2) (o:=4) rfl rfl rfl rfl) (zAZ [0,1] (l:=[(1,(AV.ptr 0 0)),(2,(AV.ptr 1 0)),(49,(li (x3.length:Int))),(50,(li 0))]) rfl rfl (by kernel_rfl)),rfl,h⟩ ?_
  clear h
  rintro ⟨n0,i1,l3⟩ e' H' ⟨hrep,hl3,h⟩
  cases n0 with
  | zero=>exact absurd (show (none:Option _)=some r from h) (by simp)
  | succ n0 =>
   replace h:zCH A x1 x3 l1 (zBJ A x1 x3 l1 n0) i1 l3=some r:=h
   unfold zCH at h
   refine zA5 hrep ?_
   clear hrep
   refine zI<|zC<|zA (zi rfl rfl)<|zG<|zI ?_
   refine zY h rfl (fun b1 h => ?_) (fun b1 h => ?_)
   ·refine zS ?_
    refine zMq (fun e' H' => ∃ (l4:List zK),Rep 82 0 e' H' (mkE [(1,(AV.ptr 0 0)),(2,(AV.ptr 1 0)),(49,(li (x3.length:Int))),(50,(li i1))]) [.box 29 [AV.osl 3 1 (List.map cI x1),li A.batch,li A.high,AV.osl 46 10 (List.map zO l1),AV.osl 50 1 (zNH zJ zAS (i1+1) l4)],.box 29 (zF ⟨[],0,0,[],[]⟩)]∧l4.length=x3.length∧zFU (zBJ A x1 x3 l1 n0) i1 l4=some r) ?_ ?_
    ·
     refine zV<|zI<|zC<|zA (zB rfl)<|zA (zD rfl)<|zG ?_
     refine zI<|zC<|zA (zM Try.underlying29 rfl rfl Try.sizeOf27 rfl)<|zAJ (zBz (k:=0) (o:=4) (t':=50) (sz:=1) (rows:=zNH zJ zAS i1 l3) rfl rfl)<|zA (zN Try.isAgg27 rfl rfl rfl rfl)<|zA (zB rfl) ?_
     refine zL h fun b3 h=>zA (zLA (rows:=zNH zJ zAS i1 l3) (i:=i1) Try.underlying27 Try.sizeOf50 rfl rfl rfl (zNe b3))<|zA (zM Try.underlying50 rfl rfl Try.sizeOf48 rfl)<|zA (zL4 (i:=i1.toNat) (j:=0) (row:=zJ (at_ l3 i1)) (a:=(ls (cS cI) ((at_ l3 i1).lists))) Try.isAgg48 rfl rfl (by first | rfl | omega) (zTP b3) rfl rfl)<|zQ h fun x4 w4 h=>zJo (T:=22) (sz:=1) (rows:=List.map (cS cI) x4) (la:=[(ls (cS cI) ((at_ l3 i1).lists))]) (la':=[(ls (cS cI) ((at_ l3 i1).lists))]) (S:=[]) Try.func76 rfl (by kernel_rfl) (.fn 76) rfl ⟨zBI.nr rfl,trivial⟩ (zJX w4) (.inl rfl) ?_
     refine zA (zD rfl)<|zG ?_
     refine zMq (fun e' H' => ∃ (l5:List (List Int)),Rep 82 0 e' H' (mkE [(1,(AV.ptr 0 0)),(2,(AV.ptr 1 0)),(5,(li i1)),(6,(AV.hd 2)),(49,(li (x3.length:Int))),(50,(li i1))]) [.box 29 [AV.osl 3 1 (List.map cI x1),li A.batch,li A.high,AV.osl 46 10 (List.map zO l1),AV.osl 50 1 (zNH zJ zAS i1 l3)],.box 29 (zF ⟨[],0,0,[],[]⟩),.vec 22 1 (List.map (cO 3 1 cI) l5)]∧zFQ (zBJ A x1 x3 l1 n0) i1 l3 l5=some r) ?_ ?_
     ·
      refine zI<|zC<|zA (zB rfl)<|zA (zD1 (f:=(cS cI)) (l:=x4) Try.underlying48 rfl rfl)<|zA (zB rfl)<|zG ?_
      refine zV<|zOU (σ:=Nat×Int×(List (List Int))) (fun s=>s.1) (fun s e' H'=>match s with | (n1,i2,l6)=>Rep 82 0 e' H' (mkE [(1,(AV.ptr 0 0)),(2,(AV.ptr 1 0)),(5,(li i1)),(6,(AV.hd 2)),(49,(li (x3.length:Int))),(50,(li i1)),(61,(li (x4.length:Int))),(62,(li i2))]) [.box 29 [AV.osl 3 1 (List.map cI x1),li A.batch,li A.high,AV.osl 46 10 (List.map zO l1),AV.osl 50 1 (zNH zJ zAS i1 l3)],.box 29 (zF ⟨[],0,0,[],[]⟩),.vec 22 1 (zNH (cS cI) (cO 3 1 cI) i2 l6)]∧l6.length=x4.length∧zD8 (zBJ A x1 x3 l1 n0) i1 l3 x4 n1 i2 l6=some r) (z5,0,x4) ⟨Rep.trans (zAT (k:=0) (j:=2) (o:=4) rfl rfl rfl rfl) (zAZ [0,1,3] (l:=[(1,(AV.ptr 0 0)),(2,(AV.ptr 1 0)),(5,(li i1)),(6,(AV.hd 2)),(49,(li (x3.length:Int))),(50,(li i1)),(61,(li (x4.length:Int))),(62,(li 0))]) rfl rfl (by kernel_rfl)),rfl,h⟩ ?_
      clear h
      rintro ⟨n1,i2,l6⟩ e' H' ⟨hrep,hl6,h⟩
      cases n1 with
      | zero=>exact absurd (show (none:Option _)=some r from h) (by simp)
      | succ n1 =>
       replace h:zCC (zBJ A x1 x3 l1 n0) i1 l3 x4 (zD8 (zBJ A x1 x3 l1 n0) i1 l3 x4 n1) i2 l6=some r:=h
       unfold zCC at h
       refine zA5 hrep ?_
       clear hrep
       refine zI<|zC<|zA (zi rfl rfl)<|zG<|zI ?_
       refine zY h rfl (fun b5 h => ?_) (fun b5 h => ?_)
       ·refine zS<|zI<|zV<|zI<|zC<|zA (zB rfl) ?_
        refine zA (zD rfl)<|zG<|zC<|zA (zB rfl)<|zA (zB rfl)<|zA (zB rfl) ?_
        refine zA (zB rfl)<|zL h fun b6 h=>zA (zLA (rows:=zNH (cS cI) (cO 3 1 cI) i2 l6) (i:=i2) Try.underlying48 Try.sizeOf22 rfl rfl rfl (zNe b6))<|zA (zL4 (i:=i2.toNat) (j:=0) (row:=(cS cI) (at_ l6 i2)) (a:=(ls cI (at_ l6 i2))) Try.isAgg22 rfl rfl (by first | rfl | omega) (zTP b6) rfl rfl)<|zQ h fun x5 w5 h=>zJo (T:=3) (sz:=1) (rows:=List.map cI x5) (la:=[(ls cI (at_ l6 i2))]) (la':=[(ls cI (at_ l6 i2))]) (S:=[]) Try.func24 rfl (by kernel_rfl) (.fn 24) rfl ⟨zBI.nr rfl,trivial⟩ (zAc w5) (.inl rfl) ?_
        refine zA (zLA (rows:=zNH (cS cI) (cO 3 1 cI) i2 l6) (i:=i2) Try.underlying48 Try.sizeOf22 rfl rfl rfl (zNe b6))<|za (H':=[.box 29 [AV.osl 3 1 (List.map cI x1),li A.batch,li A.high,AV.osl 46 10 (List.map zO l1),AV.osl 50 1 (zNH zJ zAS i1 l3)],.box 29 (zF ⟨[],0,0,[],[]⟩),.vopen 22 1 (zNH (cS cI) (cO 3 1 cI) i2 l6) i2.toNat [.hd 3],.vec 3 1 (List.map cI x5)]) (zLs (k:=2) (j:=3) (i:=i2.toNat) Try.sizeOf22 rfl rfl rfl (by rw [zPd]; exact (zBt b6).2) rfl rfl)<|zG<|zC<|zL h fun b7 h=>zA (zg rfl rfl b7) ?_
        refine zA (zB rfl)<|zG ?_
        exact ⟨(n1,(i2+1),(l6.set i2.toNat x5)),Nat.lt_succ_self _,Rep.trans (zNo (k:=2) (j:=3) (f:=cS cI) (g:=cO 3 1 cI) (l:=l6) (i:=i2) (z:=x5) rfl rfl rfl rfl b6) (zAZ [0,1,2] (l:=[(1,(AV.ptr 0 0)),(2,(AV.ptr 1 0)),(5,(li i1)),(6,(AV.hd 2)),(49,(li (x3.length:Int))),(50,(li i1)),(61,(li (x4.length:Int))),(62,(li (i2+1)))]) rfl rfl (by kernel_rfl)),by rw [List.length_set]; exact hl6,h⟩
       refine zAC ?_
       rw [zRp (f:=cS cI) (l:=l6) (by rw [hl6]; exact b5)]
       exact ⟨l6,zAZ [0,1,2] rfl rfl (by kernel_rfl),h⟩
     clear h
     rintro e' H' ⟨l5,hrep,h⟩
     refine zA5 hrep ?_
     clear hrep
     unfold zFQ at h
     refine zC<|zA (zM Try.underlying29 rfl rfl Try.sizeOf27 rfl)<|zAJ (zBz (k:=0) (o:=4) (t':=50) (sz:=1) (rows:=zNH zJ zAS i1 l3) rfl rfl)<|zA (zN Try.isAgg27 rfl rfl rfl rfl)<|zA (zB rfl)<|zA (zB rfl) ?_
     refine zL h fun b4 h=>zA (zLA (rows:=zNH zJ zAS i1 l3) (i:=i1) Try.underlying27 Try.sizeOf50 rfl rfl rfl (zNe b4))<|zA (zM Try.underlying50 rfl rfl Try.sizeOf48 rfl)<|za (H':=[.box 29 [AV.osl 3 1 (List.map cI x1),li A.batch,li A.high,AV.osl 46 10 (List.map zO l1),AV.hd 3],.box 29 (zF ⟨[],0,0,[],[]⟩),.vec 22 1 (List.map (cO 3 1 cI) l5),.vopen 50 1 (zNH zJ zAS i1 l3) i1.toNat [.hd 2]]) (zLs (k:=3) (j:=2) (i:=i1.toNat) Try.sizeOf48 rfl rfl rfl (by rw [zPd]; exact (zBt b4).2) rfl rfl)<|zG ?_
     exact ⟨(l3.set i1.toNat ({ at_ l3 i1 with lists:=l5 })),Rep.trans (zNo (k:=3) (j:=2) (f:=zJ) (g:=zAS) (l:=l3) (i:=i1) (z:={ at_ l3 i1 with lists:=l5 }) rfl rfl rfl rfl b4) (Rep.trans (zAT (k:=0) (j:=3) (o:=4) rfl rfl rfl rfl) (zAZ [0,1] (l:=[(1,(AV.ptr 0 0)),(2,(AV.ptr 1 0)),(49,(li (x3.length:Int))),(50,(li i1))]) rfl rfl (by kernel_rfl))),by rw [List.length_set]; exact hl3,h⟩
    clear h
    rintro e' H' ⟨l4,hrep,hl4,h⟩
    refine zA5 hrep ?_
    clear hrep
    unfold zFU at h
    refine zC<|zL h fun b2 h=>zA (zg rfl rfl b2)<|zA (zB rfl)<|zG ?_
    exact ⟨(n0,(i1+1),l4),Nat.lt_succ_self _,zAZ [0,1] rfl rfl (by kernel_rfl),hl4,h⟩
   refine zAC ?_
   rw [zRp (f:=zJ) (l:=l3) (by rw [hl3]; exact b1)]
   exact ⟨l3,zAZ [0,1] rfl rfl (by kernel_rfl),h⟩
 clear h
 rintro e' H' ⟨l2,hrep,h⟩
 refine zA5 hrep ?_
 clear hrep
 unfold zGu at h
 refine zI<|zC<|zAJ (zB7 (k:=0) (o:=0) (rows':=List.map cI x1) rfl rfl (zAb (fun _=>rfl)))<|zX (zOX (k:=0) (cs:=[ls cI x1,li A.batch,li A.high,AV.osl 46 10 (List.map zO l1),AV.osl 50 1 (List.map zAS l2)]) (m:=5) Try.isAgg29 Try.sizeOf29 rfl rfl rfl)<|za (H':=[.dead,.box 29 [ls cI x1,li A.batch,li A.high,AV.osl 46 10 (List.map zO l1),AV.osl 50 1 (List.map zAS l2)],.dead]) (zEN (k:=1) (o:=0) (j:=2) (cs:=(zF ⟨[],0,0,[],[]⟩)) (la:=[ls cI x1,li A.batch,li A.high,AV.osl 46 10 (List.map zO l1),AV.osl 50 1 (List.map zAS l2)]) Try.sizeOf29 rfl rfl rfl rfl rfl (by decide))<|zG ?_
 refine zd ?_
 cases h
 exact zy (zGO Try.isAgg29 Try.sizeOf29 rfl rfl rfl rfl)
theorem zJO {D:zW} {r:zW} (h:zHO D=some r):PFn Try.prog 82 [(AV.agg (zO D))] (AV.agg ([li r.node]++([li r.kind]++([li r.start]++([li r.count]++([li r.min]++((cM 5 3 (5:Int) r.free)++[]))))))):=by
 refine zq Try.func82 rfl Try.ntmps82 Try.results82 rfl ?_
 unfold zHO at h
 refine zI<|zC<|zX (H':=[.box 46 (zO D)]) (z8 (t:=46) rfl)<|zX (H':=[.box 46 (zO D),.box 46 (zO ⟨0,0,0,0,0,(List.replicate 5 ([]:List Int))⟩)]) zv0<|zG ?_
 refine zAA (r:=r) (fun ((l1,i1):(List (List Int))×Int)=>mkE [(1,(AV.ptr 0 0)),(2,(AV.ptr 1 0))]) (fun (l1,i1)=>[.box 46 ([li D.node,li D.kind,li D.start,li D.count,li D.min]++((cM 5 3 i1 l1)++[])),.box 46 (zO ⟨0,0,0,0,0,(List.replicate 5 ([]:List Int))⟩)]) (fun (l1,i1)=>zHi D l1 i1) ?_ ?_
 ·
  refine zI<|zC<|zA (zB rfl)<|zG<|zV<|z6 (σ:=Int×(List (List Int))) (fun (i2,l2)=>mkE [(1,(AV.ptr 0 0)),(2,(AV.ptr 1 0)),(4,(li i2))]) (fun (i2,l2)=>[.box 46 ([li D.node,li D.kind,li D.start,li D.count,li D.min]++((cM 5 3 i2 l2)++[])),.box 46 (zO ⟨0,0,0,0,0,(List.replicate 5 ([]:List Int))⟩)]) (fun n0 (i2,l2)=>zF7 D n0 i2 l2) (0,D.free) h (fun _=>rfl) (zAZ [0,1] rfl rfl (by kernel_rfl)) ?_
  clear h
  rintro n0 ⟨i2,l2⟩ h
  replace h:zEU D (zF7 D n0) i2 l2=some r:=h
  unfold zEU at h
  refine zI<|zC<|zA (zi rfl rfl)<|zG<|zI ?_
  refine zY h rfl (fun b2 h => ?_) (fun b2 h => ?_)
  ·refine zS<|zI<|zV<|zI<|zC<|zA (zB rfl) ?_
   refine zA (zD rfl)<|zG<|zC<|zA (zB rfl)<|zA (zB rfl)<|zA (zM Try.underlying46 rfl rfl Try.sizeOf44 rfl) ?_
   refine zL h fun b3 h=>zA (zAP (m:=5) (s:=1) (i:=i2) (k:=0) (o:=5) Try.underlying44 Try.sizeOf22 rfl rfl b3)<|zA (zRK (k:=0) (o:=(5+i2.toNat*1)) (cs:=([li D.node,li D.kind,li D.start,li D.count,li D.min]++((cM 5 3 i2 l2)++[]))) (hd:=([li D.node]++[li D.kind]++[li D.start]++[li D.count]++[li D.min]++[])) (tl:=([])) (N:=5) (T':=3) (K:=i2) (l:=l2) (i:=i2) Try.isAgg22 rfl rfl rfl (congrArg (fun q=>5+q) (Nat.mul_one _)) b3 (decide_eq_true (Int.le_refl _)))<|zQ h fun x1 w1 h=>zJo (T:=3) (sz:=1) (rows:=List.map cI x1) (la:=[(ls cI (l2.getD i2.toNat []))]) (la':=[(ls cI (l2.getD i2.toNat []))]) (S:=[]) Try.func24 rfl (by kernel_rfl) (.fn 24) rfl ⟨zBI.nr rfl,trivial⟩ (zAc w1) (.inl rfl)<|zA (zM Try.underlying46 rfl rfl Try.sizeOf44 rfl) ?_
   refine zA (zAP (m:=5) (s:=1) (i:=i2) (k:=0) (o:=5) Try.underlying44 Try.sizeOf22 rfl rfl b3)<|za (H':=[.box 46 ([li D.node,li D.kind,li D.start,li D.count,li D.min]++((List.set (cM 5 3 i2 l2) i2.toNat (AV.hd 2))++[])),.box 46 (zO ⟨0,0,0,0,0,(List.replicate 5 ([]:List Int))⟩),.vec 3 1 (List.map cI x1)]) (zNs (k:=0) (o:=(5+i2.toNat*1)) (cs:=([li D.node,li D.kind,li D.start,li D.count,li D.min]++((cM 5 3 i2 l2)++[]))) (hd:=([li D.node]++[li D.kind]++[li D.start]++[li D.count]++[li D.min]++[])) (tl:=([])) (s:=(cM 5 3 i2 l2)) (i:=i2) (a:=(AV.hd 2)) Try.sizeOf22 rfl rfl rfl (congrArg (fun q=>5+q) (Nat.mul_one _)) (zGi b3) rfl rfl)<|zG<|zC<|zL h fun b4 h=>zA (zg rfl rfl b4) ?_
   refine zA (zB rfl)<|zG ?_
   exact ⟨((i2+1),(zDY 5 [] l2 i2.toNat x1)),Rep.trans (zRb (K':=i2+1) (j:=2) (l':=x1) (k:=0) (cs:=([li D.node,li D.kind,li D.start,li D.count,li D.min]++((List.set (cM 5 3 i2 l2) i2.toNat (AV.hd 2))++[]))) (hd:=([li D.node]++[li D.kind]++[li D.start]++[li D.count]++[li D.min]++[])) (tl:=([])) (N:=5) (T:=3) (K:=i2) (l:=l2) (i:=i2) rfl rfl b3 (decide_eq_true rfl) rfl rfl rfl) (zBg (n:=17) (m:=0) [0,1] (l:=[(1,(AV.ptr 0 0)),(2,(AV.ptr 1 0)),(4,(li (i2+1)))]) ⟨⟨Sub.refl _,by kernel_rfl⟩,⟨Sub.refl _,by kernel_rfl⟩,⟨Sub.refl _,by kernel_rfl⟩,trivial⟩ rfl rfl ⟨⟨rfl,zUS (hd:=([li D.node]++[li D.kind]++[li D.start]++[li D.count]++[li D.min]++[])) (tl:=([])) (N:=5) (T:=3) (K:=i2+1) (l:=zDY 5 [] l2 i2.toNat x1) (by kernel_rfl) (by kernel_rfl) rfl⟩,⟨rfl,by kernel_rfl⟩,trivial⟩),h⟩
  refine zAC ?_
  exact ⟨(l2,i2),zBg (n:=17) (m:=0) [0,1] (l:=[(1,(AV.ptr 0 0)),(2,(AV.ptr 1 0))]) ⟨⟨Sub.refl _,by kernel_rfl⟩,⟨Sub.refl _,by kernel_rfl⟩,trivial⟩ rfl rfl ⟨⟨rfl,zUS (hd:=([li D.node]++[li D.kind]++[li D.start]++[li D.count]++[li D.min]++[])) (tl:=([])) (N:=5) (T:=3) (K:=i2) (l:=l2) (by kernel_rfl) (by kernel_rfl) rfl⟩,⟨rfl,by kernel_rfl⟩,trivial⟩,h⟩
 clear h
 rintro ⟨l1,i1⟩ h
 unfold zHi at h
 refine zI<|zC<|zL h fun b1 h=>zAJ (zT2 (k:=0) (cs:=([li D.node,li D.kind,li D.start,li D.count,li D.min]++((cM 5 3 i1 l1)++[]))) (hd:=([li D.node]++[li D.kind]++[li D.start]++[li D.count]++[li D.min]++[])) (tl:=([])) (N:=5) (T:=3) (K:=i1) (l:=l1) rfl rfl b1)<|zX (zOX (k:=0) (cs:=([li D.node,li D.kind,li D.start,li D.count,li D.min]++((cM 5 3 (5:Int) l1)++[]))) (m:=10) Try.isAgg46 Try.sizeOf46 rfl rfl rfl)<|za (H':=[.dead,.box 46 ([li D.node,li D.kind,li D.start,li D.count,li D.min]++((cM 5 3 (5:Int) l1)++[])),.dead]) (zEN (k:=1) (o:=0) (j:=2) (cs:=(zO ⟨0,0,0,0,0,(List.replicate 5 ([]:List Int))⟩)) (la:=([li D.node,li D.kind,li D.start,li D.count,li D.min]++((cM 5 3 (5:Int) l1)++[]))) Try.sizeOf46 rfl rfl rfl rfl rfl (by decide)) ?_
 refine zG<|zd ?_
 cases h
 exact zy (zGO Try.isAgg46 Try.sizeOf46 rfl rfl rfl rfl)
end Go.Proofs.Ytplkliakhdkpcaa
