/-
  Rules, functions and laws for the last text, part c.
-/
import Derived.Test.YtplkliakhdkpcaaGreatGb
set_option linter.unusedVariables false
set_option linter.unusedSimpArgs false
namespace Go.Proofs.YtplkliakhdkpcaaGreat
open Go Go.RowKit Go.Wk Go.Am Go.Proofs
set_option maxHeartbeats 4000000
theorem zE0:zLZ Tryz.prog 3 1 (.int .i64 0) 8:=zLZ.of (by kernel_rfl) rfl (by decide) (by decide)
theorem zOW:zLZ Tryz.prog 22 1 (.slice none 0 0) 24:=zLZ.of (by kernel_rfl) rfl (by decide) (by decide)
theorem zOc:zLZ Tryz.prog 51 10 (.agg #[.int .i64 0,.int .i64 0,.int .i64 0,.int .i64 0,.int .i64 0,.slice none 0 0,.slice none 0 0,.slice none 0 0,.slice none 0 0,.slice none 0 0]) 160:=zLZ.of (by kernel_rfl) rfl (by decide) (by decide)
theorem zOb:zLZ Tryz.prog 55 1 (.agg #[.slice none 0 0]) 24:=zLZ.of (by kernel_rfl) rfl (by decide) (by decide)
theorem zWw:zLZ Tryz.prog 46 4 (.agg #[.int .i64 0,.int .i64 0,.int .i64 0,.int .i64 0]) 32:=zLZ.of (by kernel_rfl) rfl (by decide) (by decide)
theorem zW8:zLZ Tryz.prog 4 1 (.bool false) 1:=zLZ.of (by kernel_rfl) rfl (by decide) (by decide)
theorem zAU {X:List Int} {r:List Int} (h:zA1 X=some r):PFn Tryz.prog 80 [ls cI X] (AV.osl 3 1 (List.map cI r)):=by
  refine zo Tryz.func80 rfl Tryz.ntmps80 Tryz.results80 rfl ?_
  unfold zA1 at h
  refine zM h fun b1 h => ?_
  obtain rfl:=Option.some.inj h
  refine zH<|zC<|zA (a:=(.lit (.slice none 0 0))) (zD rfl)<|zF<|zH<|zH ?_
  refine zC<|zA (a:=(ls cI X)) (zB rfl) ?_
  refine zL7 (full:=false) (rows:=List.map cI X) Tryz.underlying22 rfl (fun b hb => ?_)
  refine zF ?_
  refine zNe b rfl (fun hbt => ?_) (fun hbt => ?_)
  · obtain rfl:X=[]:=List.map_eq_nil_iff.1 (hb hbt)
    refine zH<|zC<|zA (a:=(.lit (.slice none 0 0))) (zD rfl)<|zF<|zd ?_
    exact zu (zJE (zAH rfl rfl) zAt.nilo)
  · refine zP ?_
    refine zH<|zC<|zNE zE0 Tryz.underlying22<|zA (a:=(ls cI X)) (zB rfl)<|zFr (f:=cI) (k:=0) (l:=[]) (l':=X) zE0 (fun _=>rfl) Tryz.underlying22 rfl rfl rfl b1<|zA (a:=(.hd 1)) (zD rfl) ?_
    refine zF<|zd ?_
    exact zu (zWy (rows:=List.map cI ([]++X)) rfl rfl)
theorem zIz {X : List Int} {uC : Int → Option Bool} {g_a_f : FuncId} {cf_a_f : Func} {code_a_f : Code} {caps_a_f : List AV} (hcf_a_f : Tryz.prog.funcs[g_a_f]? = some cf_a_f) (hcb_a_f : cf_a_f.body = some code_a_f) (hcn_a_f : (cf_a_f.name == "runtime.NumGoroutine") = false) (hnr_a_f : caps_a_f.all nr = true) (hg_a_f : ∀ {x0 : Int} {y : Bool}, uC x0 = some y → PFn Tryz.prog g_a_f ((li x0) :: caps_a_f) (AV.lit (.bool y))) {r : Int} (h : zCk X uC = some r) : PFn Tryz.prog 129 [(ls cI X), (AV.clo g_a_f caps_a_f)] (li r) := by
 refine zo Tryz.func129 rfl Tryz.ntmps129 Tryz.results129 rfl ?_
 unfold zCk at h
 refine zH<|zC<|zA (zD rfl)<|zF ?_
 refine zt (r:=r) (fun (_:Unit)=>mkE []) (fun _=>[]) (fun _=>zC8 ) ?_ ?_
 ·
  refine zH<|zC<|zA (zB rfl)<|zA (zV Tryz.underlying22 rfl)<|zA (zB rfl)<|zF ?_
  refine zQ<|zq (σ:=Int) (fun i1=>mkE [(0,(ls cI X)),(1,(AV.clo g_a_f caps_a_f)),(7,(li (X.length:Int))),(8,(li i1))]) (fun i1=>[]) (fun n0 i1=>zAW X uC n0 i1) 0 h (fun _=>rfl) (zB1 (n:=19) (m:=0) [] (l:=[(0,(ls cI X)),(1,(AV.clo g_a_f caps_a_f)),(7,(li (X.length:Int))),(8,(li 0))]) ⟨⟨Sub.refl _,by kernel_rfl⟩,⟨zFH hnr_a_f,zFI hnr_a_f⟩,⟨Sub.refl _,by kernel_rfl⟩,⟨Sub.refl _,by kernel_rfl⟩,trivial⟩ rfl rfl trivial) ?_
  clear h
  intro n0 i1 h
  replace h:zAk X uC (zAW X uC n0) i1=some r:=h
  unfold zAk at h
  refine zH<|zC<|zA (zf rfl rfl)<|zF<|zH ?_
  refine zX h rfl (fun b1 h => ?_) (fun b1 h => ?_)
  ·refine zP<|zH<|zQ<|zH<|zC<|zA (zB rfl) ?_
   refine zA (zD rfl)<|zF<|zH<|zC<|zA (zB rfl)<|zA (zB rfl) ?_
   refine zA (zB rfl)<|zM h fun b2 h=>zA (zT Tryz.underlying22 Tryz.sizeOf3 (fun _=>rfl) rfl rfl b2)<|zA (zU (o:=0) Tryz.isAgg3 rfl rfl)<|zR h fun x1 w1 h=>zA2 (S:=[]) hcf_a_f hcb_a_f hcn_a_f (.clo (caps:=caps_a_f) rfl) rfl (zEJ.c (zAs.nr rfl) (zEJ.nrs hnr_a_f)) (hg_a_f w1) (.inl rfl) rfl ?_
   refine zF ?_
   refine zX h rfl (fun b3 h => ?_) (fun b3 h => ?_)
   ·refine zH<|zC<|zA (zB rfl)<|zA (zD rfl)<|zF<|zd ?_
    cases h
    exact zu (zAH rfl rfl)
   refine zP<|zC<|zM h fun b4 h=>zA (ze rfl rfl b4)<|zA (zB rfl)<|zF ?_
   exact ⟨(i1+1),zB1 (n:=19) (m:=0) [] (l:=[(0,(ls cI X)),(1,(AV.clo g_a_f caps_a_f)),(7,(li (X.length:Int))),(8,(li (i1+1)))]) ⟨⟨Sub.refl _,by kernel_rfl⟩,⟨zFH hnr_a_f,zFI hnr_a_f⟩,⟨Sub.refl _,by kernel_rfl⟩,⟨Sub.refl _,by kernel_rfl⟩,trivial⟩ rfl rfl trivial,h⟩
  refine zw ?_
  exact ⟨(),z9 [] rfl rfl (by kernel_rfl),h⟩
 clear h
 intro _ h
 unfold zC8 at h
 refine zH<|zC<|zA (zD rfl)<|zF<|zd ?_
 cases h
 exact zu (zAH rfl rfl)
theorem zHl {X : List Int} {uC : Int → Option Bool} {g_a_f : FuncId} {cf_a_f : Func} {code_a_f : Code} {caps_a_f : List AV} (hcf_a_f : Tryz.prog.funcs[g_a_f]? = some cf_a_f) (hcb_a_f : cf_a_f.body = some code_a_f) (hcn_a_f : (cf_a_f.name == "runtime.NumGoroutine") = false) (hnr_a_f : caps_a_f.all nr = true) (hg_a_f : ∀ {x0 : Int} {y : Bool}, uC x0 = some y → PFn Tryz.prog g_a_f ((li x0) :: caps_a_f) (AV.lit (.bool y))) {r : Bool} (h : zB2 X uC = some r) : PFn Tryz.prog 83 [(ls cI X), (AV.clo g_a_f caps_a_f)] (AV.lit (.bool r)) := by
 refine zo Tryz.func83 rfl Tryz.ntmps83 Tryz.results83 rfl ?_
 unfold zB2 at h
 refine zH<|zC<|zA (zD rfl)<|zF<|zH<|zC ?_
 refine zA (zB rfl)<|zA (zB rfl)<|zR h fun x1 w1 h=>zA2 (r':=(li x1)) (la:=[ls cI X,AV.clo g_a_f caps_a_f]) (la':=[ls cI X,AV.clo g_a_f caps_a_f]) (r:=(li x1)) (S:=[]) Tryz.func129 rfl (by kernel_rfl) (.fn 129) rfl ⟨zAs.nr rfl,zAs.clo (zEJ.nrs hnr_a_f),trivial⟩ (zIz hcf_a_f hcb_a_f hcn_a_f hnr_a_f hg_a_f w1) (.inl rfl) rfl<|zA (zAw rfl rfl)<|zA (zD rfl) ?_
 refine zF<|zd ?_
 cases h
 exact zu (zAH rfl rfl)
theorem zKe {uB:Int} {r:Bool} (h:zDO uB=some r):PFn Tryz.prog 84 [li uB] (AV.lit (.bool r)):=by
 refine zo Tryz.func84 rfl Tryz.ntmps84 Tryz.results84 rfl ?_
 unfold zDO at h
 refine zH<|zC<|zA (zD rfl)<|zF<|zH<|zC ?_
 refine zA (zB rfl)<|zA (zf rfl rfl)<|zA (zB rfl)<|zW rfl rfl (fun c1=>zp.step (zB rfl))<|zW rfl rfl (fun c2=>zp.step (zAw (z6 rfl c2) rfl))<|zA (zg rfl rfl) ?_
 refine zA (zD rfl)<|zF<|zd ?_
 cases h
 exact zu (zAH rfl rfl)
theorem zIs {B:zJ} {r:Bool} (h:zDC B=some r):PFn Tryz.prog 41 [(AV.agg (zI B))] (AV.lit (.bool r)):=by
 refine zo Tryz.func41 rfl Tryz.ntmps41 Tryz.results41 rfl ?_
 unfold zDC at h
 refine zH<|zC<|za (H':=[.box 26 (zI B)]) (zv (t:=26) rfl)<|zA (zD rfl)<|zF<|zH ?_
 refine zH<|zC<|zA (zK Tryz.underlying26 rfl rfl Tryz.sizeOf22 rfl)<|zA (zN Tryz.isAgg22 rfl rfl rfl rfl)<|zA (zV Tryz.underlying22 rfl)<|zA (zf rfl rfl) ?_
 refine zA (zB rfl)<|zW rfl rfl (fun c1=>zp.step (zK Tryz.underlying26 rfl rfl Tryz.sizeOf22 rfl))<|zW rfl rfl (fun c2=>zp.step (zN Tryz.isAgg22 (z6 rfl c2) rfl rfl rfl))<|zW rfl rfl (fun c3=>zp.step (zV Tryz.underlying22 (z6 rfl c3)))<|zW rfl rfl (fun c4=>zp.step (zAh (z6 rfl c4) rfl))<|zA (zg rfl rfl) ?_
 refine zA (zB rfl)<|zW rfl rfl (fun c5=>zp.step (zK Tryz.underlying26 rfl rfl Tryz.sizeOf3 rfl))<|zW rfl rfl (fun c6=>zp.step (zN Tryz.isAgg3 (z6 rfl c6) rfl rfl rfl))<|zW rfl rfl (fun c7=>zp.step (zAh (z6 rfl c7) rfl))<|zA (zg rfl rfl)<|zA (zB rfl) ?_
 refine zW rfl rfl (fun c8=>zp.step (zK Tryz.underlying26 rfl rfl Tryz.sizeOf3 rfl))<|zW rfl rfl (fun c9=>zp.step (zN Tryz.isAgg3 (z6 rfl c9) rfl rfl rfl))<|zW rfl rfl (fun c10=>zp.step (zf (z6 rfl c10) rfl))<|zA (zg rfl rfl)<|zA (zB rfl)<|zW rfl rfl (fun c11=>zp.step (zK Tryz.underlying26 rfl rfl Tryz.sizeOf3 rfl)) ?_
 refine zW rfl rfl (fun c12=>zp.step (zN Tryz.isAgg3 (z6 rfl c12) rfl rfl rfl))<|zW rfl rfl (fun c13=>zp.step (zK Tryz.underlying26 rfl rfl Tryz.sizeOf3 rfl))<|zW rfl rfl (fun c14=>zp.step (zN Tryz.isAgg3 (z6 rfl c14) rfl rfl rfl))<|zW rfl rfl (fun c15=>zp.step (zAh (z6 rfl c15) (z6 rfl c15)))<|zA (zg rfl rfl)<|zA (zB rfl) ?_
 refine zW rfl rfl (fun c16=>zp.step (zK Tryz.underlying26 rfl rfl Tryz.sizeOf23 rfl))<|zW rfl rfl (fun c17=>zp.step (zN Tryz.isAgg23 (z6 rfl c17) rfl rfl rfl))<|zW rfl rfl (fun c18=>zp.step (zV Tryz.underlying23 (z6 rfl c18)))<|zW rfl rfl (fun c19=>zp.step (zf (z6 rfl c19) rfl))<|zA (zg rfl rfl)<|zA (zB rfl) ?_
 refine zW rfl rfl (fun c20=>zp.step (zK Tryz.underlying26 rfl rfl Tryz.sizeOf23 rfl))<|zW rfl rfl (fun c21=>zp.step (zN Tryz.isAgg23 (z6 rfl c21) rfl rfl rfl))<|zW rfl rfl (fun c22=>zp.step (zV Tryz.underlying23 (z6 rfl c22)))<|zW rfl rfl (fun c23=>zp.step (zAh (z6 rfl c23) rfl))<|zA (zg rfl rfl)<|zF ?_
 refine zX h rfl (fun b1 h => ?_) (fun b1 h => ?_)
 ·refine zH<|zC<|zA (zD rfl)<|zF<|zd ?_
  cases h
  exact zu (zAH rfl rfl)
 refine zP<|zH<|zC<|zA (zK Tryz.underlying26 rfl rfl Tryz.sizeOf22 rfl)<|zA (zN Tryz.isAgg22 rfl rfl rfl rfl)<|zR h fun x1 w1 h => ?_
 refine zA2 (r':=(AV.lit (.bool x1))) (la:=[ls cI B.nodes,(AV.clo 84 [])]) (la':=[ls cI B.nodes,(AV.clo 84 [])]) (r:=(AV.lit (.bool x1))) (S:=[]) Tryz.func83 rfl (by kernel_rfl) (.fn 83) rfl ⟨zAs.nr rfl,zAs.clo trivial,trivial⟩ (zHl Tryz.func84 rfl (by kernel_rfl) rfl (fun hy=>zKe  hy) w1) (.inl rfl) rfl<|zA (zBE (t:=x1) rfl)<|zA (zD rfl)<|zF<|zd ?_
 cases h
 exact zu (zAH rfl rfl)
theorem zLB {C:zi} {r:Bool} (h:zGq C=some r):PFn Tryz.prog 85 [(AV.agg ([li C.node]++([li C.kind]++([li C.start]++([li C.count]++([li C.min]++([AV.any,AV.any,AV.any,AV.any,AV.any]++[])))))))] (AV.lit (.bool r)):=by
 refine zo Tryz.func85 rfl Tryz.ntmps85 Tryz.results85 rfl ?_
 unfold zGq at h
 refine zH<|zC<|za (H':=[.box 51 ([li C.node,li C.kind,li C.start,li C.count,li C.min]++([AV.any,AV.any,AV.any,AV.any,AV.any]++[]))]) (zv (t:=51) rfl)<|zA (zD rfl)<|zF<|zH ?_
 refine zC<|zA (zK Tryz.underlying51 rfl rfl Tryz.sizeOf3 rfl)<|zA (zN Tryz.isAgg3 rfl rfl rfl rfl)<|zA (zAw rfl rfl)<|zA (zB rfl)<|zm rfl rfl (fun c1=>zp.step (zK Tryz.underlying51 rfl rfl Tryz.sizeOf3 rfl)) ?_
 refine zm rfl rfl (fun c2=>zp.step (zN Tryz.isAgg3 (z6 rfl c2) rfl rfl rfl))<|zm rfl rfl (fun c3=>zp.step (zf (z6 rfl c3) rfl))<|zA (zx (j := .lit undef) rfl rfl)<|zA (zB rfl)<|zm rfl rfl (fun c4=>zp.step (zK Tryz.underlying51 rfl rfl Tryz.sizeOf3 rfl))<|zm rfl rfl (fun c5=>zp.step (zN Tryz.isAgg3 (z6 rfl c5) rfl rfl rfl)) ?_
 refine zm rfl rfl (fun c6=>zp.step (zAv (z6 rfl c6) rfl))<|zm rfl rfl (fun c7=>zp.step (zB (z6 rfl c7)))<|zKH (g:=15) (s':=(decide (0≤C.node))&&(decide (C.node<4))) (s:=decide (C.kind=0)) rfl rfl (fun c8=>zp.step (zK Tryz.underlying51 rfl rfl Tryz.sizeOf3 rfl))<|zKH (g:=15) (s':=(decide (0≤C.node))&&(decide (C.node<4))) (s:=decide (C.kind=0)) rfl rfl (fun c9=>zp.step (zN Tryz.isAgg3 (z6 rfl c9) rfl rfl rfl))<|zKH (g:=15) (s':=(decide (0≤C.node))&&(decide (C.node<4))) (s:=decide (C.kind=0)) rfl rfl (fun c10=>zp.step (zAv (z6 rfl c10) rfl))<|zm rfl rfl (fun c11=>zp.step (zg (z6 rfl c11) (zPx (c:=(decide (0≤C.node))&&(decide (C.node<4))) (d := !(decide (C.kind=0))) (a:=(AV.lit (.bool (decide (C.kind=1))))) (j := .lit undef) rfl c11))) ?_
 refine zA (zx (j := .lit undef) rfl rfl)<|zA (zB rfl)<|zm rfl rfl (fun c12=>zp.step (zK Tryz.underlying51 rfl rfl Tryz.sizeOf3 rfl))<|zm rfl rfl (fun c13=>zp.step (zN Tryz.isAgg3 (z6 rfl c13) rfl rfl rfl))<|zm rfl rfl (fun c14=>zp.step (zAw (z6 rfl c14) rfl))<|zA (zx (j := .lit undef) rfl rfl) ?_
 refine zA (zB rfl)<|zm rfl rfl (fun c15=>zp.step (zK Tryz.underlying51 rfl rfl Tryz.sizeOf3 rfl))<|zm rfl rfl (fun c16=>zp.step (zN Tryz.isAgg3 (z6 rfl c16) rfl rfl rfl))<|zm rfl rfl (fun c17=>zp.step (zf (z6 rfl c17) rfl))<|zA (zx (j := .lit undef) rfl rfl)<|zA (zB rfl) ?_
 refine zm rfl rfl (fun c18=>zp.step (zK Tryz.underlying51 rfl rfl Tryz.sizeOf3 rfl))<|zm rfl rfl (fun c19=>zp.step (zN Tryz.isAgg3 (z6 rfl c19) rfl rfl rfl))<|zm rfl rfl (fun c20=>zp.step (zAw (z6 rfl c20) rfl))<|zA (zx (j := .lit undef) rfl rfl)<|zA (zB rfl)<|zm rfl rfl (fun c21=>zp.step (zK Tryz.underlying51 rfl rfl Tryz.sizeOf3 rfl)) ?_
 refine zm rfl rfl (fun c22=>zp.step (zN Tryz.isAgg3 (z6 rfl c22) rfl rfl rfl))<|zm rfl rfl (fun c23=>zp.step (zK Tryz.underlying51 rfl rfl Tryz.sizeOf3 rfl))<|zm rfl rfl (fun c24=>zp.step (zN Tryz.isAgg3 (z6 rfl c24) rfl rfl rfl))<|zM h fun b1 h=>zm rfl rfl (fun c25=>zp.step (zBS rfl (z6 rfl c25) (zGy b1 c25)))<|zm rfl rfl (fun c26=>zp.step (zCu (z6 rfl c26) (z6 rfl c26))) ?_
 refine zA (zx (j := .lit undef) rfl rfl)<|zA (zB rfl)<|zm rfl rfl (fun c27=>zp.step (zK Tryz.underlying51 rfl rfl Tryz.sizeOf3 rfl))<|zm rfl rfl (fun c28=>zp.step (zN Tryz.isAgg3 (z6 rfl c28) rfl rfl rfl))<|zm rfl rfl (fun c29=>zp.step (zAw (z6 rfl c29) rfl))<|zA (zx (j := .lit undef) rfl rfl) ?_
 refine zA (zB rfl)<|zm rfl rfl (fun c30=>zp.step (zK Tryz.underlying51 rfl rfl Tryz.sizeOf3 rfl))<|zm rfl rfl (fun c31=>zp.step (zN Tryz.isAgg3 (z6 rfl c31) rfl rfl rfl))<|zm rfl rfl (fun c32=>zp.step (zK Tryz.underlying51 rfl rfl Tryz.sizeOf3 rfl))<|zm rfl rfl (fun c33=>zp.step (zN Tryz.isAgg3 (z6 rfl c33) rfl rfl rfl))<|zm rfl rfl (fun c34=>zp.step (zCu (z6 rfl c34) (z6 rfl c34))) ?_
 refine zA (zx (j := .lit undef) rfl rfl)<|zA (zD rfl)<|zF<|zd ?_
 cases h
 exact zu (zAH rfl rfl)
theorem zGf {I:Int} {r:Bool} (h:zDa I=some r):PFn Tryz.prog 137 [li I] (AV.lit (.bool r)):=by
 refine zo Tryz.func137 rfl Tryz.ntmps137 Tryz.results137 rfl ?_
 unfold zDa at h
 refine zH<|zC<|zA (zD rfl)<|zF<|zH<|zC ?_
 refine zA (zB rfl)<|zA (zB rfl)<|zA (zz rfl rfl)<|zA (zD rfl)<|zF<|zd ?_
 cases h
 exact zu (zAH rfl rfl)
theorem zNh {I:Int} {uT:Int} {r:Bool} (h:zIR I uT=some r):PFn Tryz.prog 131 [li I,li uT] (AV.lit (.bool r)):=by
 refine zo Tryz.func131 rfl Tryz.ntmps131 Tryz.results131 rfl ?_
 unfold zIR at h
 refine zH<|zC<|zA (zD rfl)<|zF<|zH<|zC ?_
 refine zA (zB rfl)<|zR h fun x1 w1 h=>zh Tryz.func137 rfl (by kernel_rfl) (.fn 137) rfl rfl (zGf w1) rfl<|zA (zB rfl)<|zm rfl rfl (fun c1=>zp.step (zB rfl))<|zR h fun x2 w2 h => ?_
 refine zCy (g:=7) (s:=x1) (r':=(AV.lit (.bool x2))) rfl rfl (fun c2=>⟨137,_,_,[],[li uT],[li uT],(AV.lit (.bool x2)),[],Tryz.func137,rfl,by kernel_rfl,.fn 137,(zAM (z6 rfl c2) rfl),⟨zAs.nr rfl,trivial⟩,zGf (zGm c2 w2),.inl rfl,rfl⟩)<|zm rfl rfl (fun c3=>zp.step (zBE (t:=x2) (z6 rfl c3)))<|zA (zx (j := .lit undef) rfl rfl)<|zA (zB rfl)<|zW rfl rfl (fun c4=>zp.step (zB rfl))<|zW rfl rfl (fun c5=>zp.step (zB rfl)) ?_
 refine zW rfl rfl (fun c6=>zp.step (zf (z6 rfl c6) (z6 rfl c6)))<|zA (zg rfl rfl)<|zA (zD rfl)<|zF<|zd ?_
 cases h
 exact zu (zAH rfl rfl)
theorem zJI {I:Int} {r:Bool} (h:zEy I=some r):PFn Tryz.prog 132 [li I] (AV.lit (.bool r)):=by
 refine zo Tryz.func132 rfl Tryz.ntmps132 Tryz.results132 rfl ?_
 unfold zEy at h
 refine zH<|zC<|zA (zD rfl)<|zF<|zH<|zC ?_
 refine zA (zB rfl)<|zA (zB rfl)<|zA (zz rfl rfl)<|zA (zD rfl)<|zF<|zd ?_
 cases h
 exact zu (zAH rfl rfl)
theorem zBB {I:List Int} {uG:Int} {r:Int×Bool} (h:zAX I uG=some r):PFn Tryz.prog 87 [ls cI I,li uG] (AV.tup [li r.1,(AV.lit (.bool r.2))]):=by
 refine zo Tryz.func87 rfl Tryz.ntmps87 Tryz.results87 rfl ?_
 unfold zAX at h
 refine zH<|zC<|zA (zD rfl)<|zA (zD rfl)<|zF<|zH ?_
 refine zC<|zA (zB rfl)<|zA (zV Tryz.underlying22 rfl)<|zA (zD rfl)<|zF<|zH ?_
 refine zC<|zA (zB rfl)<|zA (zD rfl)<|zA (zD rfl)<|zF ?_
 refine zt (r:=r) (fun (i1:Int)=>mkE [(0,(ls cI I)),(1,(li uG)),(6,(li (I.length:Int))),(7,(li i1))]) (fun i1=>[]) (fun i1=>zA7 I uG i1) ?_ ?_
 ·
  refine zQ<|zq (σ:=Int×Int) (fun (i2,i3)=>mkE [(0,(ls cI I)),(1,(li uG)),(6,(li (I.length:Int))),(7,(li i2)),(8,(li i3))]) (fun (i2,i3)=>[]) (fun n0 (i2,i3)=>zBA I uG n0 i2 i3) (0,(I.length:Int)) h (fun _=>rfl) (z9 [] rfl rfl (by kernel_rfl)) ?_
  clear h
  rintro n0 ⟨i2,i3⟩ h
  replace h:zAY I uG (zBA I uG n0) i2 i3=some r:=h
  unfold zAY at h
  refine zH<|zH<|zC<|zA (zB rfl)<|zA (zB rfl)<|zA (zf rfl rfl) ?_
  refine zF ?_
  refine zX h rfl (fun b3 h => ?_) (fun b3 h => ?_)
  ·refine zP<|zQ<|zH<|zC<|zA (zB rfl)<|zA (zB rfl) ?_
   refine zM h fun b4 h=>zA (ze rfl rfl b4)<|zM h fun b5 h=>zA (zE1 (k' := .u64) (a:=i2+i3) Tryz.underlying3 Tryz.underlying74 rfl b5)<|zA (zT4 (k := .u64) (a:=i2+i3) (b:=1) rfl rfl (by decide))<|zM h fun b6 h => ?_
   refine zA (zE1 (k' := .i64) (a:=(i2+i3).fdiv (2 ^ (1:Int).toNat)) Tryz.underlying74 Tryz.underlying3 rfl b6)<|zA (zD rfl)<|zF<|zH<|zC<|zA (zB rfl) ?_
   refine zA (zB rfl)<|zM h fun b7 h=>zA (zT Tryz.underlying22 Tryz.sizeOf3 (fun _=>rfl) rfl rfl b7)<|zA (zU (o:=0) Tryz.isAgg3 rfl rfl)<|zA (zB rfl)<|zR h fun x3 w3 h => ?_
   refine zh Tryz.func131 rfl (by kernel_rfl) (.fn 131) rfl rfl (zNh w3) rfl<|zF ?_
   refine zX h rfl (fun b8 h => ?_) (fun b8 h => ?_)
   ·refine zC<|zA (zB rfl)<|zM h fun b9 h=>zA (ze rfl rfl b9)<|zA (zD rfl)<|zF ?_
    exact ⟨((((i2+i3).fdiv (2 ^ (1:Int).toNat))+1),i3),z9 [] rfl rfl (by kernel_rfl),h⟩
   refine zC<|zA (zB rfl)<|zA (zD rfl)<|zF ?_
   exact ⟨(i2,((i2+i3).fdiv (2 ^ (1:Int).toNat))),z9 [] rfl rfl (by kernel_rfl),h⟩
  refine zw ?_
  exact ⟨i2,z9 [] rfl rfl (by kernel_rfl),h⟩
 clear h
 intro i1 h
 unfold zA7 at h
 refine zH<|zC<|zA (zB rfl)<|zA (zB rfl)<|zA (zB rfl)<|zA (zf rfl rfl) ?_
 refine zA (zB rfl)<|zm rfl rfl (fun c1=>zp.step (zB rfl))<|zm rfl rfl (fun c2=>zp.step (zB rfl))<|zM h fun b1 h=>zm rfl rfl (fun c3=>zp.step (zT Tryz.underlying22 Tryz.sizeOf3 (fun _=>rfl) (z6 rfl c3) (z6 rfl c3) (zGy b1 c3)))<|zm rfl rfl (fun c4=>zp.step (zU (o:=0) Tryz.isAgg3 (z6 rfl c4) rfl)) ?_
 refine zm rfl rfl (fun c5=>zp.step (zB rfl))<|zm rfl rfl (fun c6=>zp.step (zAv (z6 rfl c6) (z6 rfl c6)))<|zm rfl rfl (fun c7=>zp.step (zB (z6 rfl c7)))<|zKH (g:=42) (s':=decide (i1<(I.length:Int))) (s:=decide ((at_ I i1)=uG)) rfl rfl (fun c8=>zp.step (zB rfl))<|zKH (g:=42) (s':=decide (i1<(I.length:Int))) (s:=decide ((at_ I i1)=uG)) rfl rfl (fun c9=>zp.step (zB rfl))<|zM h fun b2 h => ?_
 refine zKH (g:=42) (s':=decide (i1<(I.length:Int))) (s:=decide ((at_ I i1)=uG)) rfl rfl (fun c10=>zp.step (zT Tryz.underlying22 Tryz.sizeOf3 (fun _=>rfl) (z6 rfl c10) (z6 rfl c10) (zGy b2 c10)))<|zKH (g:=42) (s':=decide (i1<(I.length:Int))) (s:=decide ((at_ I i1)=uG)) rfl rfl (fun c11=>zp.step (zU (o:=0) Tryz.isAgg3 (z6 rfl c11) rfl))<|zR h fun x1 w1 h=>zQG (g:=42) (s':=decide (i1<(I.length:Int))) (s:=decide ((at_ I i1)=uG)) (r':=(AV.lit (.bool x1))) rfl rfl (fun c12=>⟨132,_,_,[],[(li (at_ I i1))],[(li (at_ I i1))],(AV.lit (.bool x1)),[],Tryz.func132,rfl,by kernel_rfl,.fn 132,(zAM (z6 rfl c12) rfl),⟨zAs.nr rfl,trivial⟩,zJI (zGm c12 w1),.inl rfl,rfl⟩)<|zKH (g:=42) (s':=decide (i1<(I.length:Int))) (s:=decide ((at_ I i1)=uG)) rfl rfl (fun c13=>zp.step (zB (z6 rfl c13)))<|zLp (g:=48) (s':=(decide (i1<(I.length:Int)) && !(decide ((at_ I i1)=uG)))) (s:=x1) rfl rfl (fun c14=>zp.step (zB rfl)) ?_
 refine zR h fun x2 w2 h=>zNu (g:=48) (s':=(decide (i1<(I.length:Int)) && !(decide ((at_ I i1)=uG)))) (s:=x1) (r':=(AV.lit (.bool x2))) rfl rfl (fun c15=>⟨132,_,_,[],[li uG],[li uG],(AV.lit (.bool x2)),[],Tryz.func132,rfl,by kernel_rfl,.fn 132,(zAM (z6 rfl c15) rfl),⟨zAs.nr rfl,trivial⟩,zJI (zGm c15 w2),.inl rfl,rfl⟩)<|zKH (g:=42) (s':=decide (i1<(I.length:Int))) (s:=decide ((at_ I i1)=uG)) rfl rfl (fun c16=>zp.step (zx (j := .lit undef) (z6 rfl c16) (zPx (c:=(decide (i1<(I.length:Int)) && !(decide ((at_ I i1)=uG)))) (d:=x1) (a:=(AV.lit (.bool x2))) (j := .lit undef) rfl c16)))<|zm rfl rfl (fun c17=>zp.step (zg (z6 rfl c17) (zPx (c:=decide (i1<(I.length:Int))) (d := !(decide ((at_ I i1)=uG))) (a:=(AV.lit (.bool (x1&&x2)))) (j := .lit undef) rfl c17)))<|zA (zx (j := .lit undef) rfl rfl)<|zA (zD rfl) ?_
 refine zA (zD rfl)<|zF<|zd ?_
 cases h
 exact zBy (zAH rfl rfl) (zAH rfl rfl) rfl
theorem zFk {C:zi} {U:Int} {V:Int} {r:Bool} (h:zCW C U V=some r):PFn Tryz.prog 86 [(AV.agg ([li C.node]++([li C.kind]++([li C.start]++([li C.count]++([li C.min]++([AV.any,AV.any,AV.any,AV.any,AV.any]++[]))))))),li U,li V] (AV.lit (.bool r)):=by
 refine zo Tryz.func86 rfl Tryz.ntmps86 Tryz.results86 rfl ?_
 unfold zCW at h
 refine zH<|zC<|za (H':=[.box 51 ([li C.node,li C.kind,li C.start,li C.count,li C.min]++([AV.any,AV.any,AV.any,AV.any,AV.any]++[]))]) (zv (t:=51) rfl)<|zA (zD rfl)<|zF<|zH ?_
 refine zC<|zA (zB rfl)<|zM h fun b1 h=>zM h fun b2 h=>zA (zCw (a:=1) (b:=V) rfl rfl b1 b2)<|zA (zD rfl) ?_
 refine zF<|zH<|zC<|zA (zB rfl)<|zA (zK Tryz.underlying51 rfl rfl Tryz.sizeOf3 rfl)<|zA (zN Tryz.isAgg3 rfl rfl rfl rfl) ?_
 refine zA (zAw rfl rfl)<|zA (zB rfl)<|zm rfl rfl (fun c1=>zp.step (zB rfl))<|zm rfl rfl (fun c2=>zp.step (zB rfl))<|zM h fun b3 h=>zm rfl rfl (fun c3=>zp.step (zRA (k := .i64) (a:=U) (b:=(1:Int)*2 ^ V.toNat) (z6 rfl c3) (z6 rfl c3) (zGy b3 c3))) ?_
 refine zm rfl rfl (fun c4=>zp.step (zAv (z6 rfl c4) rfl))<|zA (zx (j := .lit undef) rfl rfl)<|zA (zB rfl)<|zm rfl rfl (fun c5=>zp.step (zB rfl))<|zm rfl rfl (fun c6=>zp.step (zK Tryz.underlying51 rfl rfl Tryz.sizeOf3 rfl))<|zm rfl rfl (fun c7=>zp.step (zN Tryz.isAgg3 (z6 rfl c7) rfl rfl rfl)) ?_
 refine zm rfl rfl (fun c8=>zp.step (zCu (z6 rfl c8) (z6 rfl c8)))<|zA (zx (j := .lit undef) rfl rfl)<|zA (zB rfl)<|zm rfl rfl (fun c9=>zp.step (zB rfl))<|zm rfl rfl (fun c10=>zp.step (zK Tryz.underlying51 rfl rfl Tryz.sizeOf3 rfl))<|zm rfl rfl (fun c11=>zp.step (zN Tryz.isAgg3 (z6 rfl c11) rfl rfl rfl)) ?_
 refine zm rfl rfl (fun c12=>zp.step (zK Tryz.underlying51 rfl rfl Tryz.sizeOf3 rfl))<|zm rfl rfl (fun c13=>zp.step (zN Tryz.isAgg3 (z6 rfl c13) rfl rfl rfl))<|zM h fun b4 h=>zm rfl rfl (fun c14=>zp.step (ze (z6 rfl c14) (z6 rfl c14) (zGy b4 c14)))<|zm rfl rfl (fun c15=>zp.step (zB rfl))<|zM h fun b5 h => ?_
 refine zm rfl rfl (fun c16=>zp.step (zBS (z6 rfl c16) (z6 rfl c16) (zGy b5 c16)))<|zm rfl rfl (fun c17=>zp.step (zCu (z6 rfl c17) (z6 rfl c17)))<|zA (zx (j := .lit undef) rfl rfl)<|zA (zD rfl)<|zF<|zd ?_
 cases h
 exact zu (zAH rfl rfl)
theorem zM3 {A:zi} {D:Int} {G:Int} {r:zi} (h:zKF A D G=some r):AFn Tryz.prog 125 [AV.ptr 0 0,li D,li G] [.box 51 ([li A.node]++([li A.kind]++([li A.start]++([li A.count]++([li A.min]++((cM 5 3 (5:Int) A.free)++[]))))))] (.tup []) [.box 51 ([li r.node]++([li r.kind]++([li r.start]++([li r.count]++([li r.min]++((cM 5 3 (5:Int) r.free)++[]))))))]:=by
 refine zEX Tryz.func125 rfl Tryz.ntmps125 Tryz.results125 rfl ?_
 unfold zKF at h
 refine zt (r:=r) (fun ((i1,i2,l1):Int×Int×(List (List Int)))=>mkE [(0,(AV.ptr 0 0)),(1,(li i1)),(2,(li i2))]) (fun (i1,i2,l1)=>[.box 51 ([li A.node,li A.kind,li A.start,li A.count,li A.min]++((cM 5 3 (5:Int) l1)++[]))]) (fun (i1,i2,l1)=>zGp A i1 i2 l1) ?_ ?_
 ·
  refine zQ<|zq (σ:=Int×Int×(List (List Int))) (fun (i3,i4,l2)=>mkE [(0,(AV.ptr 0 0)),(1,(li i3)),(2,(li i4))]) (fun (i3,i4,l2)=>[.box 51 ([li A.node,li A.kind,li A.start,li A.count,li A.min]++((cM 5 3 (5:Int) l2)++[]))]) (fun n0 (i3,i4,l2)=>zIM A n0 i3 i4 l2) (D,G,A.free) h (fun _=>rfl) (z9 [0] rfl rfl (by kernel_rfl)) ?_
  clear h
  rintro n0 ⟨i3,i4,l2⟩ h
  replace h:zFc A (zIM A n0) i3 i4 l2=some r:=h
  unfold zFc at h
  refine zH<|zH<|zC<|zA (zB rfl)<|zA (zf rfl rfl)<|zF ?_
  refine zX h rfl (fun b4 h => ?_) (fun b4 h => ?_)
  ·refine zP<|zQ<|zH<|zC<|zA (zB rfl)<|zA (zB rfl) ?_
   refine zM h fun b5 h=>zM h fun b6 h=>zA (zCw (a:=1) (b:=i4) rfl rfl b5 b6)<|zA (zQt (k := .i64) (a:=i3) (b:=(1:Int)*2 ^ i4.toNat) rfl rfl)<|zA (zD rfl)<|zF ?_
   refine zH<|zC<|zA (zB rfl)<|zA (zB rfl)<|zA (zAB rfl)<|zA (zK Tryz.underlying51 rfl rfl Tryz.sizeOf49 rfl) ?_
   refine zM h fun b7 h=>zA (zAO (m:=5) (s:=1) (i:=i4) (k:=0) (o:=5) Tryz.underlying49 Tryz.sizeOf22 rfl rfl b7)<|zM h fun b8 h=>zAA (zKC (k:=0) (cs:=([li A.node,li A.kind,li A.start,li A.count,li A.min]++((cM 5 3 (5:Int) l2)++[]))) (hd:=([li A.node]++[li A.kind]++[li A.start]++[li A.count]++[li A.min]++[])) (tl:=([])) (N:=5) (T:=3) (K:=5) (l:=l2) (i:=i4) rfl rfl b7 b8)<|zA (zFD (k:=0) (o:=(5+i4.toNat*1)) (cs:=([li A.node,li A.kind,li A.start,li A.count,li A.min]++((List.set (cM 5 3 (5:Int) l2) i4.toNat (AV.hd 1))++[]))) (hd:=([li A.node]++[li A.kind]++[li A.start]++[li A.count]++[li A.min]++[])) (tl:=([])) (s:=(cM 5 3 (5:Int) l2)) (i:=i4) (j:=1) Tryz.isAgg22 rfl rfl rfl (congrArg (fun q=>5+q) (Nat.mul_one _)) (zIq b7))<|zA (zB rfl) ?_
   refine zR h fun x2 w2 h=>zA2 (r':=(AV.tup [li x2.1,(AV.lit (.bool x2.2))])) (la:=[AV.hd 1,(li (zMd .xor .i64 i3 ((1:Int)*2 ^ i4.toNat)))]) (la':=[(ls cI (l2.getD i4.toNat [])),(li (zMd .xor .i64 i3 ((1:Int)*2 ^ i4.toNat)))]) (r:=(AV.tup [li x2.1,(AV.lit (.bool x2.2))])) (S:=[1]) Tryz.func87 rfl (by kernel_rfl) (.fn 87) rfl ⟨zHy (fun _=>rfl) rfl rfl,zAs.nr rfl,trivial⟩ (zBB w2) (.inr rfl) rfl<|zA (zB rfl)<|zA (zb rfl rfl)<|zA (zb rfl rfl)<|zA (zD rfl) ?_
   refine zA (zD rfl)<|zF<|zH<|zH<|zC<|zA (zB rfl) ?_
   refine zA (zBE (t:=x2.2) rfl)<|zA (zB rfl)<|zW rfl rfl (fun c1=>zp.step (zB rfl))<|zW rfl rfl (fun c2=>zp.step (zAB (z6 rfl c2)))<|zAA (zKB (j:=1) (l':=l2.getD i4.toNat []) (k:=0) (cs:=([li A.node,li A.kind,li A.start,li A.count,li A.min]++((List.set (cM 5 3 (5:Int) l2) i4.toNat (AV.hd 1))++[]))) (hd:=([li A.node]++[li A.kind]++[li A.start]++[li A.count]++[li A.min]++[])) (tl:=([])) (N:=5) (T:=3) (K:=5) (l:=l2) (i:=i4) rfl rfl b7 b8 rfl rfl)<|zW rfl rfl (fun c3=>zp.step (zOa (k:=0) (o:=0) (m:=10) (la:=([li A.node,li A.kind,li A.start,li A.count,li A.min]++([AV.any,AV.any,AV.any,AV.any,AV.any]++[]))) Tryz.isAgg51 Tryz.sizeOf51 (z6 rfl c3) rfl rfl rfl)) ?_
   refine zW rfl rfl (fun c4=>zp.step (zB rfl))<|zW rfl rfl (fun c5=>zp.step (zB rfl))<|zW rfl rfl (fun c6=>zp.step (zOl (a:=i3) (b:=zMd .xor .i64 i3 ((1:Int)*2 ^ i4.toNat)) (z6 rfl c6) (z6 rfl c6)))<|zW rfl rfl (fun c7=>zp.step (zB rfl))<|zM h fun b9 h=>zW rfl rfl (fun c8=>zp.step (ze (z6 rfl c8) rfl (zGy b9 c8))) ?_
   refine zR h fun x3 w3 h=>zCv (g:=30) (s := !x2.2) (r':=(AV.lit (.bool x3))) rfl rfl (fun c9=>⟨86,_,_,[],[(AV.agg ([li A.node,li A.kind,li A.start,li A.count,li A.min]++([AV.any,AV.any,AV.any,AV.any,AV.any]++[]))),(li (min i3 (zMd .xor .i64 i3 ((1:Int)*2 ^ i4.toNat)))),(li (i4+1))],[(AV.agg ([(li ((⟨A.node,A.kind,A.start,A.count,A.min,zEN 5 [] l2 i4.toNat (l2.getD i4.toNat [])⟩:zi).node)),(li ((⟨A.node,A.kind,A.start,A.count,A.min,zEN 5 [] l2 i4.toNat (l2.getD i4.toNat [])⟩:zi).kind)),(li ((⟨A.node,A.kind,A.start,A.count,A.min,zEN 5 [] l2 i4.toNat (l2.getD i4.toNat [])⟩:zi).start)),(li ((⟨A.node,A.kind,A.start,A.count,A.min,zEN 5 [] l2 i4.toNat (l2.getD i4.toNat [])⟩:zi).count)),(li ((⟨A.node,A.kind,A.start,A.count,A.min,zEN 5 [] l2 i4.toNat (l2.getD i4.toNat [])⟩:zi).min))]++([AV.any,AV.any,AV.any,AV.any,AV.any]++[]))),(li (min i3 (zMd .xor .i64 i3 ((1:Int)*2 ^ i4.toNat)))),(li (i4+1))],(AV.lit (.bool x3)),[],Tryz.func86,rfl,by kernel_rfl,.fn 86,(zAM (z6 rfl c9) (zAM (z6 rfl c9) (zAM (z6 rfl c9) rfl))),⟨zAs.nr rfl,zAs.nr rfl,zAs.nr rfl,trivial⟩,zFk (zGm c9 w3),.inl rfl,rfl⟩)<|zW rfl rfl (fun c10=>zp.step (zBE (t:=x3) (z6 rfl c10)))<|zA (zg rfl rfl)<|zF ?_
   refine zX h rfl (fun b10 h => ?_) (fun b10 h => ?_)
   ·refine zw ?_
    exact ⟨(i3,i4,(zEN 5 [] l2 i4.toNat (l2.getD i4.toNat []))),z9 [0] rfl rfl (by kernel_rfl),h⟩
   refine zP<|zH<|zAT (zKC (k:=0) (cs:=([li A.node,li A.kind,li A.start,li A.count,li A.min]++((cM 5 3 (5:Int) (zEN 5 [] l2 i4.toNat (l2.getD i4.toNat [])))++[]))) (hd:=([li A.node]++[li A.kind]++[li A.start]++[li A.count]++[li A.min]++[])) (tl:=([])) (N:=5) (T:=3) (K:=5) (l:=zEN 5 [] l2 i4.toNat (l2.getD i4.toNat [])) (i:=i4) rfl rfl b7 b8)<|zM h fun b11 h=>zM h fun b12 h => ?_
   refine zAl (n:=88) (m:=1) [.head 0 1,.head 0 1,.head 0 0,.head 0 0,.head 0 0,.head 0 0,.head 0 0,.head 0 0,.head 0 0,.head 0 0,.head 0 0,.tail 0,.head 0 1,.head 0 1,.head 1 1,.tail 1] [11,15] [AV.ptr 0 0,li i4,AV.ptr 0 0,li i4,AV.ptr 0 0,AV.ptr 0 5,(AV.ptr 0 (5+i4.toNat*1)),AV.hd 2,li x2.1,li x2.1,(li (x2.1+1)),AV.hd 3,AV.ptr 0 0,AV.ptr 0 5,(AV.ptr 0 (5+i4.toNat*1)),.any] [[.box 51 ([li A.node,li A.kind,li A.start,li A.count,li A.min]++((List.set (cM 5 3 (5:Int) (zEN 5 [] l2 i4.toNat (l2.getD i4.toNat []))) i4.toNat (AV.hd 2))++[])),.dead,.vec 3 1 (List.map cI ((zEN 5 [] l2 i4.toNat (l2.getD i4.toNat [])).getD i4.toNat []))],[.box 51 ([li A.node,li A.kind,li A.start,li A.count,li A.min]++((List.set (cM 5 3 (5:Int) (zEN 5 [] l2 i4.toNat (l2.getD i4.toNat []))) i4.toNat (AV.hd 2))++[])),.dead,.dead,.vec 3 1 (List.map cI (zUJ ((zEN 5 [] l2 i4.toNat (l2.getD i4.toNat [])).getD i4.toNat []) x2.1))],[.box 51 ([li A.node,li A.kind,li A.start,li A.count,li A.min]++((List.set (cM 5 3 (5:Int) (zEN 5 [] l2 i4.toNat (l2.getD i4.toNat []))) i4.toNat (AV.hd 3))++[])),.dead,.dead,.vec 3 1 (List.map cI (zUJ ((zEN 5 [] l2 i4.toNat (l2.getD i4.toNat [])).getD i4.toNat []) x2.1))]] (by kernel_rfl) (by kernel_rfl) ⟨⟨D1 fun e s p=>zB (s 0 rfl),D1 fun e s p=>zB (s 0 rfl)⟩,⟨D1 fun e s p=>zB (s 2 rfl),D1 fun e s p=>zB (s 2 rfl)⟩,D1 fun e s p=>zB (s 0 rfl),D1 fun e s p=>zB (s 2 rfl),D1 fun e s p=>zAB p.1,D1 fun e s p=>zK (k:=0) (o:=0) (off:=5) Tryz.underlying51 rfl rfl Tryz.sizeOf49 p.1,D1 fun e s p=>zAO (m:=5) (s:=1) (i:=i4) (k:=0) (o:=5) Tryz.underlying49 Tryz.sizeOf22 p.1 p.2.1 b7,D1 fun e s p=>zFD (k:=0) (o:=(5+i4.toNat*1)) (cs:=([li A.node,li A.kind,li A.start,li A.count,li A.min]++((List.set (cM 5 3 (5:Int) (zEN 5 [] l2 i4.toNat (l2.getD i4.toNat []))) i4.toNat (AV.hd 2))++[]))) (hd:=([li A.node]++[li A.kind]++[li A.start]++[li A.count]++[li A.min]++[])) (tl:=([])) (s:=(cM 5 3 (5:Int) (zEN 5 [] l2 i4.toNat (l2.getD i4.toNat [])))) (i:=i4) (j:=2) Tryz.isAgg22 p.1 rfl rfl (congrArg (fun q=>5+q) (Nat.mul_one _)) (zIq b7),D1 fun e s p=>zB (s 7 rfl),D1 fun e s p=>zB (s 7 rfl),D1 fun e s p=>ze (a:=x2.1) (b:=1) p.1 rfl b11,?_,⟨D1 fun e s p=>zAB p.1,D1 fun e s p=>zAB p.1⟩,⟨D1 fun e s p=>zK (k:=0) (o:=0) (off:=5) Tryz.underlying51 rfl rfl Tryz.sizeOf49 p.1,D1 fun e s p=>zK (k:=0) (o:=0) (off:=5) Tryz.underlying51 rfl rfl Tryz.sizeOf49 p.1⟩,D1 fun e s p=>zAO (m:=5) (s:=1) (i:=i4) (k:=0) (o:=5) Tryz.underlying49 Tryz.sizeOf22 p.1 p.2.2.2.1 b7,?_,trivial⟩ ?_
   ·
    intro e46 s46 p45
    refine zR4 (k:=2) (l:=(zEN 5 [] l2 i4.toNat (l2.getD i4.toNat [])).getD i4.toNat []) (i:=x2.1) (q:=x2.1+1) (fun a b=>zVQ a b) Tryz.func130 rfl (by kernel_rfl) p45.1 rfl p45.2.1 p45.2.2.1 b12 ?_
    exact zF ⟨fun _=>rfl,rfl⟩
   ·
    intro e52 s52 p51
    refine zj (H':=[.box 51 ([li A.node,li A.kind,li A.start,li A.count,li A.min]++((List.set (cM 5 3 (5:Int) (zEN 5 [] l2 i4.toNat (l2.getD i4.toNat []))) i4.toNat (AV.hd 3))++[])),.dead,.dead,.vec 3 1 (List.map cI (zUJ ((zEN 5 [] l2 i4.toNat (l2.getD i4.toNat [])).getD i4.toNat []) x2.1))]) (zIV (k:=0) (o:=(5+i4.toNat*1)) (cs:=([li A.node,li A.kind,li A.start,li A.count,li A.min]++((List.set (cM 5 3 (5:Int) (zEN 5 [] l2 i4.toNat (l2.getD i4.toNat []))) i4.toNat (AV.hd 2))++[]))) (hd:=([li A.node]++[li A.kind]++[li A.start]++[li A.count]++[li A.min]++[])) (tl:=([])) (s:=(cM 5 3 (5:Int) (zEN 5 [] l2 i4.toNat (l2.getD i4.toNat [])))) (i:=i4) (a:=(AV.hd 3)) Tryz.sizeOf22 (by exact p51.1) rfl rfl (congrArg (fun q=>5+q) (Nat.mul_one _)) (zIq b7) (by exact p51.2.2.2.2.2.2.2.2.2.2.2.2.2.2.1) rfl) ?_
    exact zF ⟨fun _=>rfl,rfl⟩
   intro e53 s53 hq2
   refine zAT (zBM (l:=[(0,(AV.ptr 0 0)),(1,(li i3)),(2,(li i4)),(6,(li (zMd .xor .i64 i3 ((1:Int)*2 ^ i4.toNat))))]) ⟨s53 0 rfl,s53 1 rfl,s53 2 rfl,s53 6 rfl,trivial⟩)<|zH<|zC<|zA (zB (av:=(li i3)) rfl)<|zA (zB (av:=(li (zMd .xor .i64 i3 ((1:Int)*2 ^ i4.toNat)))) rfl)<|zA (zOl (a:=i3) (b:=zMd .xor .i64 i3 ((1:Int)*2 ^ i4.toNat)) rfl rfl) ?_
   refine zA (zD rfl)<|zF<|zC<|zA (zB rfl)<|zM h fun b13 h=>zA (ze rfl rfl b13) ?_
   refine zA (zD rfl)<|zF ?_
   exact ⟨((min i3 (zMd .xor .i64 i3 ((1:Int)*2 ^ i4.toNat))),(i4+1),(zEN 5 [] (zEN 5 [] l2 i4.toNat (l2.getD i4.toNat [])) i4.toNat (zUJ ((zEN 5 [] l2 i4.toNat (l2.getD i4.toNat [])).getD i4.toNat []) x2.1))),Rep.trans (zKB (j:=3) (l':=zUJ ((zEN 5 [] l2 i4.toNat (l2.getD i4.toNat [])).getD i4.toNat []) x2.1) (k:=0) (cs:=([li A.node,li A.kind,li A.start,li A.count,li A.min]++((List.set (cM 5 3 (5:Int) (zEN 5 [] l2 i4.toNat (l2.getD i4.toNat []))) i4.toNat (AV.hd 3))++[]))) (hd:=([li A.node]++[li A.kind]++[li A.start]++[li A.count]++[li A.min]++[])) (tl:=([])) (N:=5) (T:=3) (K:=5) (l:=zEN 5 [] l2 i4.toNat (l2.getD i4.toNat [])) (i:=i4) rfl rfl b7 b8 rfl rfl) (z9 [0] (l:=[(0,(AV.ptr 0 0)),(1,(li (min i3 (zMd .xor .i64 i3 ((1:Int)*2 ^ i4.toNat))))),(2,(li (i4+1)))]) rfl rfl (by kernel_rfl)),h⟩
  refine zw ?_
  exact ⟨(i3,i4,l2),z9 [0] rfl rfl (by kernel_rfl),h⟩
 clear h
 rintro ⟨i1,i2,l1⟩ h
 unfold zGp at h
 refine zH<|zC<|zA (zB rfl)<|zA (zB rfl)<|zA (zAB rfl)<|zA (zK Tryz.underlying51 rfl rfl Tryz.sizeOf49 rfl) ?_
 refine zM h fun b1 h=>zA (zAO (m:=5) (s:=1) (i:=i2) (k:=0) (o:=5) Tryz.underlying49 Tryz.sizeOf22 rfl rfl b1)<|zM h fun b2 h=>zAA (zKC (k:=0) (cs:=([li A.node,li A.kind,li A.start,li A.count,li A.min]++((cM 5 3 (5:Int) l1)++[]))) (hd:=([li A.node]++[li A.kind]++[li A.start]++[li A.count]++[li A.min]++[])) (tl:=([])) (N:=5) (T:=3) (K:=5) (l:=l1) (i:=i2) rfl rfl b1 b2)<|zA (zFD (k:=0) (o:=(5+i2.toNat*1)) (cs:=([li A.node,li A.kind,li A.start,li A.count,li A.min]++((List.set (cM 5 3 (5:Int) l1) i2.toNat (AV.hd 1))++[]))) (hd:=([li A.node]++[li A.kind]++[li A.start]++[li A.count]++[li A.min]++[])) (tl:=([])) (s:=(cM 5 3 (5:Int) l1)) (i:=i2) (j:=1) Tryz.isAgg22 rfl rfl rfl (congrArg (fun q=>5+q) (Nat.mul_one _)) (zIq b1))<|zA (zB rfl) ?_
 refine zR h fun x1 w1 h=>zA2 (r':=(AV.tup [li x1.1,(AV.lit (.bool x1.2))])) (la:=[AV.hd 1,li i1]) (la':=[(ls cI (l1.getD i2.toNat [])),li i1]) (r:=(AV.tup [li x1.1,(AV.lit (.bool x1.2))])) (S:=[1]) Tryz.func87 rfl (by kernel_rfl) (.fn 87) rfl ⟨zHy (fun _=>rfl) rfl rfl,zAs.nr rfl,trivial⟩ (zBB w1) (.inr rfl) rfl<|zA (zB rfl)<|zA (zb rfl rfl)<|zA (zb rfl rfl)<|zA (zD rfl) ?_
 refine zA (zD rfl)<|zF<|zM h fun b3 h => ?_
 refine zAl (n:=88) (m:=1) [.head 0 2,.head 0 2,.head 0 1,.head 0 1,.head 0 1,.head 0 1,.head 0 1,.head 0 1,.head 0 1,.head 0 0,.tail 0,.tail 1,.head 0 2,.head 0 2,.head 2 2,.tail 2] [10,11,15] [AV.ptr 0 0,li i2,AV.ptr 0 0,li i2,AV.ptr 0 0,AV.ptr 0 5,(AV.ptr 0 (5+i2.toNat*1)),AV.hd 1,li x1.1,li i1,AV.hd 2,AV.hd 3,AV.ptr 0 0,AV.ptr 0 5,(AV.ptr 0 (5+i2.toNat*1)),.any] [[.box 51 ([li A.node,li A.kind,li A.start,li A.count,li A.min]++((List.set (cM 5 3 (5:Int) l1) i2.toNat (AV.hd 1))++[])),.vec 3 1 (List.map cI (l1.getD i2.toNat []))],[.box 51 ([li A.node,li A.kind,li A.start,li A.count,li A.min]++((List.set (cM 5 3 (5:Int) l1) i2.toNat (AV.hd 1))++[])),.vec 3 1 (List.map cI (l1.getD i2.toNat [])),.vec 3 1 (List.map cI [i1])],[.box 51 ([li A.node,li A.kind,li A.start,li A.count,li A.min]++((List.set (cM 5 3 (5:Int) l1) i2.toNat (AV.hd 1))++[])),.dead,.vec 3 1 (List.map cI [i1]),.vec 3 1 (List.map cI (zR6 (l1.getD i2.toNat []) x1.1 i1))],[.box 51 ([li A.node,li A.kind,li A.start,li A.count,li A.min]++((List.set (cM 5 3 (5:Int) l1) i2.toNat (AV.hd 3))++[])),.dead,.vec 3 1 (List.map cI [i1]),.vec 3 1 (List.map cI (zR6 (l1.getD i2.toNat []) x1.1 i1))]] (by kernel_rfl) (by kernel_rfl) ⟨⟨D1 fun e s p=>zB (s 0 rfl),D1 fun e s p=>zB (s 0 rfl),D1 fun e s p=>zB (s 0 rfl)⟩,⟨D1 fun e s p=>zB (s 2 rfl),D1 fun e s p=>zB (s 2 rfl),D1 fun e s p=>zB (s 2 rfl)⟩,⟨D1 fun e s p=>zB (s 0 rfl),D1 fun e s p=>zB (s 0 rfl)⟩,⟨D1 fun e s p=>zB (s 2 rfl),D1 fun e s p=>zB (s 2 rfl)⟩,⟨D1 fun e s p=>zAB p.1,D1 fun e s p=>zAB p.1⟩,⟨D1 fun e s p=>zK (k:=0) (o:=0) (off:=5) Tryz.underlying51 rfl rfl Tryz.sizeOf49 p.1,D1 fun e s p=>zK (k:=0) (o:=0) (off:=5) Tryz.underlying51 rfl rfl Tryz.sizeOf49 p.1⟩,⟨D1 fun e s p=>zAO (m:=5) (s:=1) (i:=i2) (k:=0) (o:=5) Tryz.underlying49 Tryz.sizeOf22 p.1 p.2.1 b1,D1 fun e s p=>zAO (m:=5) (s:=1) (i:=i2) (k:=0) (o:=5) Tryz.underlying49 Tryz.sizeOf22 p.1 p.2.1 b1⟩,⟨D1 fun e s p=>zFD (k:=0) (o:=(5+i2.toNat*1)) (cs:=([li A.node,li A.kind,li A.start,li A.count,li A.min]++((List.set (cM 5 3 (5:Int) l1) i2.toNat (AV.hd 1))++[]))) (hd:=([li A.node]++[li A.kind]++[li A.start]++[li A.count]++[li A.min]++[])) (tl:=([])) (s:=(cM 5 3 (5:Int) l1)) (i:=i2) (j:=1) Tryz.isAgg22 p.1 rfl rfl (congrArg (fun q=>5+q) (Nat.mul_one _)) (zIq b1),D1 fun e s p=>zFD (k:=0) (o:=(5+i2.toNat*1)) (cs:=([li A.node,li A.kind,li A.start,li A.count,li A.min]++((List.set (cM 5 3 (5:Int) l1) i2.toNat (AV.hd 1))++[]))) (hd:=([li A.node]++[li A.kind]++[li A.start]++[li A.count]++[li A.min]++[])) (tl:=([])) (s:=(cM 5 3 (5:Int) l1)) (i:=i2) (j:=1) Tryz.isAgg22 p.1 rfl rfl (congrArg (fun q=>5+q) (Nat.mul_one _)) (zIq b1)⟩,⟨D1 fun e s p=>zB (s 9 rfl),D1 fun e s p=>zB (s 9 rfl)⟩,D1 fun e s p=>zB (s 1 rfl),?_,?_,⟨D1 fun e s p=>zAB p.1,D1 fun e s p=>zAB p.1,D1 fun e s p=>zAB p.1⟩,⟨D1 fun e s p=>zK (k:=0) (o:=0) (off:=5) Tryz.underlying51 rfl rfl Tryz.sizeOf49 p.1,D1 fun e s p=>zK (k:=0) (o:=0) (off:=5) Tryz.underlying51 rfl rfl Tryz.sizeOf49 p.1,D1 fun e s p=>zK (k:=0) (o:=0) (off:=5) Tryz.underlying51 rfl rfl Tryz.sizeOf49 p.1⟩,D1 fun e s p=>zAO (m:=5) (s:=1) (i:=i2) (k:=0) (o:=5) Tryz.underlying49 Tryz.sizeOf22 p.1 p.2.2.2.1 b1,?_,trivial⟩ ?_
 ·
  intro e22 s22 p22
  refine zEP (a:=(li i1)) zE0 Tryz.underlying22 p22.1 rfl rfl rfl ?_
  exact zF ⟨fun _=>rfl,rfl⟩
 ·
  intro e23 s23 p23
  refine zOH (k:=1) (j:=2) (l:=l1.getD i2.toNat []) (i:=x1.1) (q:=i1) (fun a b c d e=>zSO a b c d e) Tryz.func119 rfl (by kernel_rfl) p23.1 rfl p23.2.1 p23.2.2.1 rfl rfl b3 ?_
  exact zF ⟨fun _=>rfl,rfl⟩
 ·
  intro e31 s31 p31
  refine zj (H':=[.box 51 ([li A.node,li A.kind,li A.start,li A.count,li A.min]++((List.set (cM 5 3 (5:Int) l1) i2.toNat (AV.hd 3))++[])),.dead,.vec 3 1 (List.map cI [i1]),.vec 3 1 (List.map cI (zR6 (l1.getD i2.toNat []) x1.1 i1))]) (zIV (k:=0) (o:=(5+i2.toNat*1)) (cs:=([li A.node,li A.kind,li A.start,li A.count,li A.min]++((List.set (cM 5 3 (5:Int) l1) i2.toNat (AV.hd 1))++[]))) (hd:=([li A.node]++[li A.kind]++[li A.start]++[li A.count]++[li A.min]++[])) (tl:=([])) (s:=(cM 5 3 (5:Int) l1)) (i:=i2) (a:=(AV.hd 3)) Tryz.sizeOf22 (by exact p31.1) rfl rfl (congrArg (fun q=>5+q) (Nat.mul_one _)) (zIq b1) (by exact p31.2.2.2.2.2.2.2.2.2.2.2.2.2.2.1) rfl) ?_
  exact zF ⟨fun _=>rfl,rfl⟩
 intro e32 s32 hq1
 cases h
 exact ⟨mkE [],[.box 51 ([li A.node,li A.kind,li A.start,li A.count,li A.min]++((cM 5 3 (5:Int) (zEN 5 [] l1 i2.toNat (zR6 (l1.getD i2.toNat []) x1.1 i1)))++[]))],Rep.trans (zBM (l:=[]) trivial) (Rep.trans (zKB (j:=3) (l':=zR6 (l1.getD i2.toNat []) x1.1 i1) (k:=0) (cs:=([li A.node,li A.kind,li A.start,li A.count,li A.min]++((List.set (cM 5 3 (5:Int) l1) i2.toNat (AV.hd 3))++[]))) (hd:=([li A.node]++[li A.kind]++[li A.start]++[li A.count]++[li A.min]++[])) (tl:=([])) (N:=5) (T:=3) (K:=5) (l:=l1) (i:=i2) rfl rfl b1 b2 rfl rfl) (z9 [0] (l:=[]) rfl rfl (by kernel_rfl))),zLX rfl⟩
theorem zPR {R:Int} {uN:Int} {uH:Int} {uJ:Int} {uO:Int} {r:zi×Int} (h:zNV R uN uH uJ uO=some r):PFn Tryz.prog 81 [li R,li uN,li uH,li uJ,li uO] (AV.tup [(AV.agg (zO r.1)),li r.2]):=by
 refine zo Tryz.func81 rfl Tryz.ntmps81 Tryz.results81 rfl ?_
 unfold zNV at h
 refine zH<|zC<|za (H':=[.box 51 ([li 0]++([li 0]++([li 0]++([li 0]++([li 0]++((cA 5 (eS cI) ([]:List Int) (List.replicate 5 ([]:List Int)))++[]))))))]) zv0<|zA (zD rfl)<|zF<|zH ?_
 refine zC<|zA (zB rfl)<|zA (zB rfl)<|zA (zB rfl)<|zA (zB rfl)<|zA (zB rfl) ?_
 refine zA (zCV (pl:=[(0,1),(1,1),(2,1),(3,1),(4,1),(5,5)]) (zs:=[.int .i64 0,.int .i64 0,.int .i64 0,.int .i64 0,.int .i64 0,.slice none 0 0,.slice none 0 0,.slice none 0 0,.slice none 0 0,.slice none 0 0]) (zc:=[.lit (.int .i64 0),.lit (.int .i64 0),.lit (.int .i64 0),.lit (.int .i64 0),.lit (.int .i64 0),.osl 3 1 [],.osl 3 1 [],.osl 3 1 [],.osl 3 1 [],.osl 3 1 []]) (res:=([li R]++([li uN]++([li uH]++([li uJ]++([li uO]++((cM 5 3 (5:Int) (List.replicate 5 ([]:List Int)))++[]))))))) (fun _=>by kernel_rfl) rfl (⟨zAt.refl _,⟨zAt.refl _,⟨zAt.refl _,⟨zAt.refl _,⟨zAt.refl _,⟨zAt.nilo,⟨zAt.nilo,⟨zAt.nilo,⟨zAt.nilo,⟨zAt.nilo,trivial⟩⟩⟩⟩⟩⟩⟩⟩⟩⟩) ⟨li R,0,1,rfl,rfl,rfl,rfl,rfl,⟨li uN,1,1,rfl,rfl,rfl,rfl,rfl,⟨li uH,2,1,rfl,rfl,rfl,rfl,rfl,⟨li uJ,3,1,rfl,rfl,rfl,rfl,rfl,⟨li uO,4,1,rfl,rfl,rfl,rfl,rfl,(by exact zLT.refl _)⟩⟩⟩⟩⟩)<|za (H':=[.box 51 ([li 0]++([li 0]++([li 0]++([li 0]++([li 0]++((cA 5 (eS cI) ([]:List Int) (List.replicate 5 ([]:List Int)))++[])))))),.box 51 ([li 0]++([li 0]++([li 0]++([li 0]++([li 0]++((cA 5 (eS cI) ([]:List Int) (List.replicate 5 ([]:List Int)))++[]))))))]) zv0<|zj (H':=[.box 51 ([li 0]++([li 0]++([li 0]++([li 0]++([li 0]++((cA 5 (eS cI) ([]:List Int) (List.replicate 5 ([]:List Int)))++[])))))),.box 51 ([li R]++([li uN]++([li uH]++([li uJ]++([li uO]++((cM 5 3 (5:Int) (List.replicate 5 ([]:List Int)))++[]))))))]) (zY (k:=1) (o:=0) (cs:=([li 0]++([li 0]++([li 0]++([li 0]++([li 0]++((cA 5 (eS cI) ([]:List Int) (List.replicate 5 ([]:List Int)))++[]))))))) (la:=([li R]++([li uN]++([li uH]++([li uJ]++([li uO]++((cM 5 3 (5:Int) (List.replicate 5 ([]:List Int)))++[]))))))) Tryz.sizeOf51 rfl rfl rfl rfl)<|zF<|zH<|zH ?_
 refine zC<|zA (zOa (k:=1) (o:=0) (m:=10) (la:=([li R]++([li uN]++([li uH]++([li uJ]++([li uO]++([AV.any,AV.any,AV.any,AV.any,AV.any]++[]))))))) Tryz.isAgg51 Tryz.sizeOf51 rfl rfl rfl rfl)<|zR h fun x1 w1 h=>zA2 (r':=(AV.lit (.bool x1))) (la:=[(AV.agg ([li R]++([li uN]++([li uH]++([li uJ]++([li uO]++([AV.any,AV.any,AV.any,AV.any,AV.any]++[])))))))]) (la':=[(AV.agg ([(li ((⟨R,uN,uH,uJ,uO,(List.replicate 5 ([]:List Int))⟩:zi).node))]++([(li ((⟨R,uN,uH,uJ,uO,(List.replicate 5 ([]:List Int))⟩:zi).kind))]++([(li ((⟨R,uN,uH,uJ,uO,(List.replicate 5 ([]:List Int))⟩:zi).start))]++([(li ((⟨R,uN,uH,uJ,uO,(List.replicate 5 ([]:List Int))⟩:zi).count))]++([(li ((⟨R,uN,uH,uJ,uO,(List.replicate 5 ([]:List Int))⟩:zi).min))]++([AV.any,AV.any,AV.any,AV.any,AV.any]++[])))))))]) (r:=(AV.lit (.bool x1))) (S:=[]) Tryz.func85 rfl (by kernel_rfl) (.fn 85) rfl ⟨zAs.nr rfl,trivial⟩ (zLB w1) (.inl rfl) rfl<|zA (zBE (t:=x1) rfl)<|zF ?_
 refine zX h rfl (fun b1 h => ?_) (fun b1 h => ?_)
 ·refine zH<|zC<|zA (zCV (pl:=[(0,1),(1,1),(2,1),(3,1),(4,1),(5,5)]) (zs:=[.int .i64 0,.int .i64 0,.int .i64 0,.int .i64 0,.int .i64 0,.slice none 0 0,.slice none 0 0,.slice none 0 0,.slice none 0 0,.slice none 0 0]) (zc:=[.lit (.int .i64 0),.lit (.int .i64 0),.lit (.int .i64 0),.lit (.int .i64 0),.lit (.int .i64 0),.osl 3 1 [],.osl 3 1 [],.osl 3 1 [],.osl 3 1 [],.osl 3 1 []]) (res:=([li 0]++([li 0]++([li 0]++([li 0]++([li 0]++((cM 5 3 (5:Int) (List.replicate 5 ([]:List Int)))++[]))))))) (fun _=>by kernel_rfl) rfl (⟨zAt.refl _,⟨zAt.refl _,⟨zAt.refl _,⟨zAt.refl _,⟨zAt.refl _,⟨zAt.nilo,⟨zAt.nilo,⟨zAt.nilo,⟨zAt.nilo,⟨zAt.nilo,trivial⟩⟩⟩⟩⟩⟩⟩⟩⟩⟩) (by exact zLT.refl _))<|zj (H':=[.box 51 ([li 0]++([li 0]++([li 0]++([li 0]++([li 0]++((cM 5 3 (5:Int) (List.replicate 5 ([]:List Int)))++[])))))),.box 51 ([li R]++([li uN]++([li uH]++([li uJ]++([li uO]++((cM 5 3 (5:Int) (List.replicate 5 ([]:List Int)))++[]))))))]) (zY (k:=0) (o:=0) (cs:=([li 0]++([li 0]++([li 0]++([li 0]++([li 0]++((cA 5 (eS cI) ([]:List Int) (List.replicate 5 ([]:List Int)))++[]))))))) (la:=([li 0]++([li 0]++([li 0]++([li 0]++([li 0]++((cM 5 3 (5:Int) (List.replicate 5 ([]:List Int)))++[]))))))) Tryz.sizeOf51 rfl rfl rfl rfl)<|zA (zD rfl)<|zF ?_
  refine zAT (zK7 (k:=0) (cs:=([li 0]++([li 0]++([li 0]++([li 0]++([li 0]++((cM 5 3 (5:Int) (List.replicate 5 ([]:List Int)))++[]))))))) (hd:=([li 0]++[li 0]++[li 0]++[li 0]++[li 0]++[])) (tl:=([])) (N:=5) (T:=3) (K:=5) (l:=(List.replicate 5 ([]:List Int))) rfl rfl)<|zd ?_
  cases h
  exact zBy (zFM Tryz.isAgg51 Tryz.sizeOf51 rfl rfl rfl rfl) (zAH rfl rfl) rfl
 refine zP ?_
 refine zt (r:=r) (fun ((d1,d2,d3,d4,d5,l1):Int×Int×Int×Int×Int×(List (List Int)))=>mkE [(10,(AV.ptr 0 0)),(12,(AV.ptr 1 0))]) (fun (d1,d2,d3,d4,d5,l1)=>[.box 51 ([li 0]++([li 0]++([li 0]++([li 0]++([li 0]++((cA 5 (eS cI) ([]:List Int) (List.replicate 5 ([]:List Int)))++[])))))),.box 51 ([li d1]++([li d2]++([li d3]++([li d4]++([li d5]++((cM 5 3 (5:Int) l1)++[]))))))]) (fun (d1,d2,d3,d4,d5,l1)=>zKl d1 d2 d3 d4 d5 l1) ?_ ?_
 ·
  refine zH<|zC<|zA (zB rfl)<|zA (zD rfl)<|zF<|zQ ?_
  refine zq (σ:=Int×Int×Int×Int×Int×Int×(List (List Int))) (fun (i1,d6,d7,d8,d9,d10,l2)=>mkE [(2,(li uH)),(3,(li uJ)),(10,(AV.ptr 0 0)),(12,(AV.ptr 1 0)),(13,(li i1))]) (fun (i1,d6,d7,d8,d9,d10,l2)=>[.box 51 ([li 0]++([li 0]++([li 0]++([li 0]++([li 0]++((cA 5 (eS cI) ([]:List Int) (List.replicate 5 ([]:List Int)))++[])))))),.box 51 ([li d6]++([li d7]++([li d8]++([li d9]++([li d10]++((cM 5 3 (5:Int) l2)++[]))))))]) (fun n0 (i1,d6,d7,d8,d9,d10,l2)=>zJe uH uJ n0 i1 d6 d7 d8 d9 d10 l2) (uH,R,uN,uH,uJ,uO,(List.replicate 5 ([]:List Int))) h (fun _=>rfl) (z9 [0,1] rfl rfl (by kernel_rfl)) ?_
  clear h
  rintro n0 ⟨i1,d6,d7,d8,d9,d10,l2⟩ h
  replace h:zKh uH uJ (zJe uH uJ n0) i1 d6 d7 d8 d9 d10 l2=some r:=h
  unfold zKh at h
  refine zH<|zH<|zC<|zA (zB rfl)<|zA (zB rfl)<|zA (zB rfl) ?_
  refine zM h fun b2 h=>zA (ze rfl rfl b2)<|zA (zf rfl rfl)<|zF ?_
  refine zX h rfl (fun b3 h => ?_) (fun b3 h => ?_)
  ·refine zP<|zH<|zQ<|zC<|zA (zB rfl)<|zR h fun x2 w2 h => ?_
   refine zCt (k:=1) (la:=[AV.ptr 1 0,li i1,li 0]) (la':=[AV.ptr 0 0,li i1,li 0]) (r:=(.tup [])) (S:=[]) (en' := .box 51 ([li x2.node]++([li x2.kind]++([li x2.start]++([li x2.count]++([li x2.min]++((cM 5 3 (5:Int) x2.free)++[]))))))) Tryz.func125 rfl (by kernel_rfl) (.fn 125) rfl ⟨zB0.ptr,zB0.of (zAs.nr rfl),zB0.of (zAs.nr rfl),trivial⟩ rfl rfl (by kernel_rfl) (by kernel_rfl) (zM3 w2) rfl (.inl rfl)<|zF<|zC<|zA (zB rfl)<|zM h fun b4 h=>zA (ze rfl rfl b4) ?_
   refine zA (zD rfl)<|zF ?_
   exact ⟨((i1+1),x2.node,x2.kind,x2.start,x2.count,x2.min,x2.free),z9 [0,1] rfl rfl (by kernel_rfl),h⟩
  refine zw ?_
  exact ⟨(d6,d7,d8,d9,d10,l2),z9 [0,1] rfl rfl (by kernel_rfl),h⟩
 clear h
 rintro ⟨d1,d2,d3,d4,d5,l1⟩ h
 unfold zKl at h
 refine zH<|zC<|zAA (zK7 (k:=1) (cs:=([li d1]++([li d2]++([li d3]++([li d4]++([li d5]++((cM 5 3 (5:Int) l1)++[]))))))) (hd:=([li d1]++[li d2]++[li d3]++[li d4]++[li d5]++[])) (tl:=([])) (N:=5) (T:=3) (K:=5) (l:=l1) rfl rfl)<|zA (zS (k:=1) (o:=0) (m:=10) Tryz.isAgg51 Tryz.sizeOf51 rfl rfl rfl rfl rfl)<|zj (H':=[.box 51 (zO (⟨d1,d2,d3,d4,d5,l1⟩:zi)),.box 51 ([li d1]++([li d2]++([li d3]++([li d4]++([li d5]++((cA 5 (eS cI) ([]:List Int) l1)++[]))))))]) (zY (k:=0) (o:=0) (cs:=([li 0]++([li 0]++([li 0]++([li 0]++([li 0]++((cA 5 (eS cI) ([]:List Int) (List.replicate 5 ([]:List Int)))++[]))))))) (la:=(zO (⟨d1,d2,d3,d4,d5,l1⟩:zi))) Tryz.sizeOf51 rfl rfl rfl rfl)<|zA (zD rfl) ?_
 refine zF<|zd ?_
 cases h
 exact zBy (zFM Tryz.isAgg51 Tryz.sizeOf51 rfl rfl rfl rfl) (zAH rfl rfl) rfl
theorem zPD {W:Int} {r:zL×Int} (h:zMa W=some r):PFn Tryz.prog 82 [li W] (AV.tup [(AV.agg (zG r.1)),li r.2]):=by
 refine zo Tryz.func82 rfl Tryz.ntmps82 Tryz.results82 rfl ?_
 unfold zMa at h
 refine zH<|zC<|za (H':=[.box 55 [(ls (cS cI) ([]:List (List Int)))]]) zv1<|zA (zD rfl)<|zF<|zH ?_
 refine zH<|zC<|zA (zB rfl)<|zA (zf rfl rfl)<|zA (zB rfl)<|zW rfl rfl (fun c1=>zp.step (zB rfl)) ?_
 refine zW rfl rfl (fun c2=>zp.step (zAh (z6 rfl c2) rfl))<|zA (zg rfl rfl)<|zF ?_
 refine zX h rfl (fun b1 h => ?_) (fun b1 h => ?_)
 ·refine zH<|zC<|zA zv2<|zj (H':=[.box 55 (zG (⟨([]:List (List Int))⟩:zL))]) (zY (k:=0) (o:=0) (cs:=[(ls (cS cI) ([]:List (List Int)))]) (la:=(zG (⟨([]:List (List Int))⟩:zL))) Tryz.sizeOf55 rfl rfl rfl rfl)<|zA (zD rfl)<|zF ?_
  refine zd ?_
  cases h
  exact zBy (zFM Tryz.isAgg55 Tryz.sizeOf55 rfl rfl rfl rfl) (zAH rfl rfl) rfl
 refine zP<|zH<|zC<|zA (zB rfl)<|zM h fun b2 h=>zEa (f:=(cS cI)) (a:=W) (c:=W) (d0:=([]:List Int)) zOW ⟨zAt.nils,trivial⟩ rfl Tryz.underlying53 rfl rfl b2 ?_
 refine zA (zCV (pl:=[(0,1)]) (zs:=[.slice none 0 0]) (zc:=[.sl false []]) (res:=[AV.hd 1]) (fun _=>by kernel_rfl) rfl (⟨zAt.nils,trivial⟩) ⟨AV.hd 1,0,1,rfl,rfl,rfl,rfl,rfl,(by exact zLT.refl _)⟩)<|zj (H':=[.box 55 [AV.hd 1],.vec 22 1 (List.map (cS cI) (List.replicate W.toNat ([]:List Int)))]) (zY (k:=0) (o:=0) (cs:=[(ls (cS cI) ([]:List (List Int)))]) (la:=[AV.hd 1]) Tryz.sizeOf55 rfl rfl rfl rfl)<|zA (zD rfl)<|zF<|zAT (z7 (k:=0) (j:=1) (o:=0) rfl rfl rfl rfl)<|zAT (zBl (k:=0) (o:=0) (rows':=List.map (cS cI) (List.replicate W.toNat ([]:List Int))) rfl rfl (zAL (fun _=>rfl))) ?_
 refine zd ?_
 cases h
 exact zBy (zFM Tryz.isAgg55 Tryz.sizeOf55 rfl rfl rfl rfl) (zAH rfl rfl) rfl
theorem zM6 {A:List Int} {D:Int} {G:Int} {Y:List zCB} {r:zJ×Int} (h:zHV A D G Y=some r):PFn Tryz.prog 36 [ls cI A,li D,li G,ls zAf Y] (AV.tup [(AV.agg (zI r.1)),li r.2]):=by
 refine zo Tryz.func36 rfl Tryz.ntmps36 Tryz.results36 rfl ?_
 unfold zHV at h
 refine zH<|zC<|za (H':=[.box 26 (zI ⟨[],0,0,[],[]⟩)]) zv3<|zA (zD rfl)<|zF ?_
 refine zt (r:=r) (fun (d1:List Int)=>mkE [(0,(ls cI A)),(3,(ls zAf Y)),(8,(AV.ptr 0 0)),(10,(AV.ptr 1 0))]) (fun d1=>[.box 26 (zI ⟨[],0,0,[],[]⟩),.box 26 [ls cI d1,li D,li G,AV.osl 51 10 (List.map zO (List.replicate (Y.length:Int).toNat (zKv))),AV.osl 55 1 (List.map zG ([]:List zL))]]) (fun d1=>zIf A D G Y d1) ?_ ?_
 ·
  refine zR h fun x4 w4 h=>zM h fun b11 h => ?_
  refine zTU (n:=82) (m:=0) 6 8 [9] [6,7,8] [.head 0 2,.head 0 2,.head 0 2,.head 0 2,.head 0 0,.head 0 0,.tail 0,.head 1 2,.tail 1,.tail 2] [.head 0 2,.head 0 2,.head 0 2,.head 0 2,.head 0 1,.head 0 1,.tail 1,.head 2 2,.tail 0,.tail 2] [ls cI A,ls cI x4,li D,li G,ls zAf Y,(li (Y.length:Int)),AV.hd 1,(AV.agg [ls cI x4,li D,li G,AV.hd 1,AV.osl 55 1 (List.map zG ([]:List zL))]),AV.ptr 2 0,.any] [ls cI A,ls cI x4,li D,li G,ls zAf Y,(li (Y.length:Int)),AV.hd 2,(AV.agg [ls cI x4,li D,li G,AV.hd 2,AV.osl 55 1 (List.map zG ([]:List zL))]),AV.ptr 1 0,.any] [[.box 26 (zI ⟨[],0,0,[],[]⟩)],[.box 26 (zI ⟨[],0,0,[],[]⟩),.vec 51 10 (List.map zO (List.replicate (Y.length:Int).toNat (zKv)))],[.box 26 (zI ⟨[],0,0,[],[]⟩),.vec 51 10 (List.map zO (List.replicate (Y.length:Int).toNat (zKv))),.box 26 [AV.osl 3 1 (List.map cI ([]:List Int)),li 0,li 0,AV.osl 51 10 (List.map zO ([]:List zi)),AV.osl 55 1 (List.map zG ([]:List zL))]],[.box 26 (zI ⟨[],0,0,[],[]⟩),.vec 51 10 (List.map zO (List.replicate (Y.length:Int).toNat (zKv))),.box 26 [ls cI x4,li D,li G,AV.hd 1,AV.osl 55 1 (List.map zG ([]:List zL))]]] [[.box 26 (zI ⟨[],0,0,[],[]⟩)],[.box 26 (zI ⟨[],0,0,[],[]⟩),.box 26 [AV.osl 3 1 (List.map cI ([]:List Int)),li 0,li 0,AV.osl 51 10 (List.map zO ([]:List zi)),AV.osl 55 1 (List.map zG ([]:List zL))]],[.box 26 (zI ⟨[],0,0,[],[]⟩),.box 26 [AV.osl 3 1 (List.map cI ([]:List Int)),li 0,li 0,AV.osl 51 10 (List.map zO ([]:List zi)),AV.osl 55 1 (List.map zG ([]:List zL))],.vec 51 10 (List.map zO (List.replicate (Y.length:Int).toNat (zKv)))],[.box 26 (zI ⟨[],0,0,[],[]⟩),.box 26 [ls cI x4,li D,li G,AV.hd 2,AV.osl 55 1 (List.map zG ([]:List zL))],.vec 51 10 (List.map zO (List.replicate (Y.length:Int).toNat (zKv)))]] (by kernel_rfl) (by kernel_rfl) (by kernel_rfl) ⟨.inr rfl,⟨.inr rfl,⟨.inr rfl,⟨.inr rfl,⟨.inr rfl,⟨.inr rfl,⟨.inl rfl,⟨.inl rfl,⟨.inl rfl,⟨.inr rfl,trivial⟩⟩⟩⟩⟩⟩⟩⟩⟩⟩ (by kernel_rfl) rfl rfl ⟨⟨?_,?_,?_⟩,⟨?_,?_,?_⟩,⟨?_,?_,?_⟩,⟨?_,?_,?_⟩,?_,?_,?_,⟨?_,?_⟩,?_,?_,trivial⟩ ⟨⟨?_,?_,?_⟩,⟨?_,?_,?_⟩,⟨?_,?_,?_⟩,⟨?_,?_,?_⟩,⟨?_,?_⟩,⟨?_,?_⟩,?_,?_,?_,?_,trivial⟩ ?_ ?_
  ·exact D1 fun e s p=>zB (s 0 rfl)
  ·exact D1 fun e s p=>zB (s 0 rfl)
  ·exact D1 fun e s p=>zB (s 0 rfl)
  ·
   intro e4 s4 p4
   refine zA2 (r':=(ls cI x4)) (la:=[ls cI A]) (la':=[ls cI A]) (r:=(AV.osl 3 1 (List.map cI x4))) (S:=[]) Tryz.func80 rfl (by kernel_rfl) (.fn 80) (zAM p4.1 rfl) ⟨zAs.nr rfl,trivial⟩ (zAU w4) (.inl rfl) (congrArg (AV.sl false) (zAL (fun _=>rfl))) ?_
   exact zF ⟨fun _=>rfl,rfl⟩
  ·
   intro e5 s5 p5
   refine zA2 (r':=(ls cI x4)) (la:=[ls cI A]) (la':=[ls cI A]) (r:=(AV.osl 3 1 (List.map cI x4))) (S:=[]) Tryz.func80 rfl (by kernel_rfl) (.fn 80) (zAM p5.1 rfl) ⟨zAs.nr rfl,trivial⟩ (zAU w4) (.inl rfl) (congrArg (AV.sl false) (zAL (fun _=>rfl))) ?_
   exact zF ⟨fun _=>rfl,rfl⟩
  ·
   intro e6 s6 p6
   refine zA2 (r':=(ls cI x4)) (la:=[ls cI A]) (la':=[ls cI A]) (r:=(AV.osl 3 1 (List.map cI x4))) (S:=[]) Tryz.func80 rfl (by kernel_rfl) (.fn 80) (zAM p6.1 rfl) ⟨zAs.nr rfl,trivial⟩ (zAU w4) (.inl rfl) (congrArg (AV.sl false) (zAL (fun _=>rfl))) ?_
   exact zF ⟨fun _=>rfl,rfl⟩
  ·exact D1 fun e s p=>zB (s 1 rfl)
  ·exact D1 fun e s p=>zB (s 1 rfl)
  ·exact D1 fun e s p=>zB (s 1 rfl)
  ·exact D1 fun e s p=>zB (s 2 rfl)
  ·exact D1 fun e s p=>zB (s 2 rfl)
  ·exact D1 fun e s p=>zB (s 2 rfl)
  ·exact D1 fun e s p=>zB (s 3 rfl)
  ·exact D1 fun e s p=>zV (f:=zAf) (l:=Y) Tryz.underlying47 p.1
  ·
   intro e15 s15 p15
   refine zEa (f:=zO) (a:=(Y.length:Int)) (c:=(Y.length:Int)) (d0:=(zKv)) zOc ⟨zAt.refl _,⟨zAt.refl _,⟨zAt.refl _,⟨zAt.refl _,⟨zAt.refl _,⟨zAt.nils,⟨zAt.nils,⟨zAt.nils,⟨zAt.nils,⟨zAt.nils,trivial⟩⟩⟩⟩⟩⟩⟩⟩⟩⟩ rfl Tryz.underlying23 p15.2.1 p15.2.1 b11 ?_
   exact zF ⟨fun _=>rfl,rfl⟩
  ·exact D1 fun e s p=>zCV (pl:=[(0,1),(1,1),(2,1),(3,1),(4,1)]) (zs:=[.slice none 0 0,.int .i64 0,.int .i64 0,.slice none 0 0,.slice none 0 0]) (zc:=[.osl 3 1 [],.lit (.int .i64 0),.lit (.int .i64 0),.osl 51 10 [],.osl 55 1 []]) (res:=[ls cI x4,li D,li G,AV.hd 1,AV.osl 55 1 (List.map zG ([]:List zL))]) (fun _=>by kernel_rfl) rfl (⟨zAt.nilo,⟨zAt.refl _,⟨zAt.refl _,⟨zAt.nilo,⟨zAt.nilo,trivial⟩⟩⟩⟩⟩) ⟨ls cI x4,0,1,rfl,p.1,rfl,rfl,rfl,⟨li D,1,1,rfl,p.2.1,rfl,rfl,rfl,⟨li G,2,1,rfl,p.2.2.1,rfl,rfl,rfl,⟨AV.hd 1,3,1,rfl,p.2.2.2.1,rfl,rfl,rfl,(by exact zLT.refl _)⟩⟩⟩⟩
  ·exact D1 fun e s p=>zCV (pl:=[(0,1),(1,1),(2,1),(3,1),(4,1)]) (zs:=[.slice none 0 0,.int .i64 0,.int .i64 0,.slice none 0 0,.slice none 0 0]) (zc:=[.osl 3 1 [],.lit (.int .i64 0),.lit (.int .i64 0),.osl 51 10 [],.osl 55 1 []]) (res:=[ls cI x4,li D,li G,AV.hd 1,AV.osl 55 1 (List.map zG ([]:List zL))]) (fun _=>by kernel_rfl) rfl (⟨zAt.nilo,⟨zAt.refl _,⟨zAt.refl _,⟨zAt.nilo,⟨zAt.nilo,trivial⟩⟩⟩⟩⟩) ⟨ls cI x4,0,1,rfl,p.1,rfl,rfl,rfl,⟨li D,1,1,rfl,p.2.1,rfl,rfl,rfl,⟨li G,2,1,rfl,p.2.2.1,rfl,rfl,rfl,⟨AV.hd 1,3,1,rfl,p.2.2.2.1,rfl,rfl,rfl,(by exact zLT.refl _)⟩⟩⟩⟩
  ·
   intro e18 s18 p18
   refine za (H':=[.box 26 (zI ⟨[],0,0,[],[]⟩),.vec 51 10 (List.map zO (List.replicate (Y.length:Int).toNat (zKv))),.box 26 [AV.osl 3 1 (List.map cI ([]:List Int)),li 0,li 0,AV.osl 51 10 (List.map zO ([]:List zi)),AV.osl 55 1 (List.map zG ([]:List zL))]]) zv4 ?_
   exact zF ⟨fun _=>rfl,rfl⟩
  ·
   intro e19 s19 p19
   refine zj (H':=[.box 26 (zI ⟨[],0,0,[],[]⟩),.vec 51 10 (List.map zO (List.replicate (Y.length:Int).toNat (zKv))),.box 26 [ls cI x4,li D,li G,AV.hd 1,AV.osl 55 1 (List.map zG ([]:List zL))]]) (zY (k:=2) (o:=0) (cs:=[AV.osl 3 1 (List.map cI ([]:List Int)),li 0,li 0,AV.osl 51 10 (List.map zO ([]:List zi)),AV.osl 55 1 (List.map zG ([]:List zL))]) (la:=[ls cI x4,li D,li G,AV.hd 1,AV.osl 55 1 (List.map zG ([]:List zL))]) Tryz.sizeOf26 (by exact p19.2.2.2.2.2.2.2.2.2.2.2.1) rfl rfl (by exact p19.2.2.2.2.2.2.2.2.2.2.1)) ?_
   exact zF ⟨fun _=>rfl,rfl⟩
  ·exact D1 fun e s p=>zB (s 0 rfl)
  ·exact D1 fun e s p=>zB (s 0 rfl)
  ·exact D1 fun e s p=>zB (s 0 rfl)
  ·
   intro e23 s23 p23
   refine zA2 (r':=(ls cI x4)) (la:=[ls cI A]) (la':=[ls cI A]) (r:=(AV.osl 3 1 (List.map cI x4))) (S:=[]) Tryz.func80 rfl (by kernel_rfl) (.fn 80) (zAM p23.1 rfl) ⟨zAs.nr rfl,trivial⟩ (zAU w4) (.inl rfl) (congrArg (AV.sl false) (zAL (fun _=>rfl))) ?_
   exact zF ⟨fun _=>rfl,rfl⟩
  ·
   intro e24 s24 p24
   refine zA2 (r':=(ls cI x4)) (la:=[ls cI A]) (la':=[ls cI A]) (r:=(AV.osl 3 1 (List.map cI x4))) (S:=[]) Tryz.func80 rfl (by kernel_rfl) (.fn 80) (zAM p24.1 rfl) ⟨zAs.nr rfl,trivial⟩ (zAU w4) (.inl rfl) (congrArg (AV.sl false) (zAL (fun _=>rfl))) ?_
   exact zF ⟨fun _=>rfl,rfl⟩
  ·
   intro e25 s25 p25
   refine zA2 (r':=(ls cI x4)) (la:=[ls cI A]) (la':=[ls cI A]) (r:=(AV.osl 3 1 (List.map cI x4))) (S:=[]) Tryz.func80 rfl (by kernel_rfl) (.fn 80) (zAM p25.1 rfl) ⟨zAs.nr rfl,trivial⟩ (zAU w4) (.inl rfl) (congrArg (AV.sl false) (zAL (fun _=>rfl))) ?_
   exact zF ⟨fun _=>rfl,rfl⟩
  ·exact D1 fun e s p=>zB (s 1 rfl)
  ·exact D1 fun e s p=>zB (s 1 rfl)
  ·exact D1 fun e s p=>zB (s 1 rfl)
  ·exact D1 fun e s p=>zB (s 2 rfl)
  ·exact D1 fun e s p=>zB (s 2 rfl)
  ·exact D1 fun e s p=>zB (s 2 rfl)
  ·exact D1 fun e s p=>zB (s 3 rfl)
  ·exact D1 fun e s p=>zB (s 3 rfl)
  ·exact D1 fun e s p=>zV (f:=zAf) (l:=Y) Tryz.underlying47 p.1
  ·exact D1 fun e s p=>zV (f:=zAf) (l:=Y) Tryz.underlying47 p.1
  ·
   intro e36 s36 p36
   refine zEa (f:=zO) (a:=(Y.length:Int)) (c:=(Y.length:Int)) (d0:=(zKv)) zOc ⟨zAt.refl _,⟨zAt.refl _,⟨zAt.refl _,⟨zAt.refl _,⟨zAt.refl _,⟨zAt.nils,⟨zAt.nils,⟨zAt.nils,⟨zAt.nils,⟨zAt.nils,trivial⟩⟩⟩⟩⟩⟩⟩⟩⟩⟩ rfl Tryz.underlying23 p36.2.1 p36.2.1 b11 ?_
   exact zF ⟨fun _=>rfl,rfl⟩
  ·exact D1 fun e s p=>zCV (pl:=[(0,1),(1,1),(2,1),(3,1),(4,1)]) (zs:=[.slice none 0 0,.int .i64 0,.int .i64 0,.slice none 0 0,.slice none 0 0]) (zc:=[.osl 3 1 [],.lit (.int .i64 0),.lit (.int .i64 0),.osl 51 10 [],.osl 55 1 []]) (res:=[ls cI x4,li D,li G,AV.hd 2,AV.osl 55 1 (List.map zG ([]:List zL))]) (fun _=>by kernel_rfl) rfl (⟨zAt.nilo,⟨zAt.refl _,⟨zAt.refl _,⟨zAt.nilo,⟨zAt.nilo,trivial⟩⟩⟩⟩⟩) ⟨ls cI x4,0,1,rfl,p.1,rfl,rfl,rfl,⟨li D,1,1,rfl,p.2.1,rfl,rfl,rfl,⟨li G,2,1,rfl,p.2.2.1,rfl,rfl,rfl,⟨AV.hd 2,3,1,rfl,p.2.2.2.1,rfl,rfl,rfl,(by exact zLT.refl _)⟩⟩⟩⟩
  ·
   intro e38 s38 p38
   refine za (H':=[.box 26 (zI ⟨[],0,0,[],[]⟩),.box 26 [AV.osl 3 1 (List.map cI ([]:List Int)),li 0,li 0,AV.osl 51 10 (List.map zO ([]:List zi)),AV.osl 55 1 (List.map zG ([]:List zL))]]) zv4 ?_
   exact zF ⟨fun _=>rfl,rfl⟩
  ·
   intro e39 s39 p39
   refine zj (H':=[.box 26 (zI ⟨[],0,0,[],[]⟩),.box 26 [ls cI x4,li D,li G,AV.hd 2,AV.osl 55 1 (List.map zG ([]:List zL))],.vec 51 10 (List.map zO (List.replicate (Y.length:Int).toNat (zKv)))]) (zY (k:=1) (o:=0) (cs:=[AV.osl 3 1 (List.map cI ([]:List Int)),li 0,li 0,AV.osl 51 10 (List.map zO ([]:List zi)),AV.osl 55 1 (List.map zG ([]:List zL))]) (la:=[ls cI x4,li D,li G,AV.hd 2,AV.osl 55 1 (List.map zG ([]:List zL))]) Tryz.sizeOf26 (by exact p39.2.2.2.2.2.2.2.2.2.2.2.1) rfl rfl (by exact p39.2.2.2.2.2.2.2.2.2.2.1)) ?_
   exact zF ⟨fun _=>rfl,rfl⟩
  ·
   intro e40 s40 hq1
   exact ⟨x4,Rep.trans (zBM (l:=[(0,(ls cI A)),(3,(ls zAf Y)),(8,(AV.ptr 0 0)),(10,(AV.ptr 2 0))]) ⟨s40 0 rfl,s40 3 rfl,s40 8 rfl,(hq1 8 (by decide) (by decide)),trivial⟩) (Rep.trans (z7 (k:=2) (j:=1) (o:=3) (cs:=[ls cI x4,li D,li G,AV.hd 1,AV.osl 55 1 (List.map zG ([]:List zL))]) rfl rfl rfl rfl) (z9 [0,2] (l:=[(0,(ls cI A)),(3,(ls zAf Y)),(8,(AV.ptr 0 0)),(10,(AV.ptr 1 0))]) rfl rfl (by kernel_rfl))),h⟩
  intro e41 s41 hq2
  exact ⟨x4,Rep.trans (zBM (l:=[(0,(ls cI A)),(3,(ls zAf Y)),(8,(AV.ptr 0 0)),(10,(AV.ptr 1 0))]) ⟨s41 0 rfl,s41 3 rfl,s41 8 rfl,(hq2 8 (by decide) (by decide)),trivial⟩) (Rep.trans (z7 (k:=1) (j:=2) (o:=3) (cs:=[ls cI x4,li D,li G,AV.hd 2,AV.osl 55 1 (List.map zG ([]:List zL))]) rfl rfl rfl rfl) (z9 [0,1] (l:=[(0,(ls cI A)),(3,(ls zAf Y)),(8,(AV.ptr 0 0)),(10,(AV.ptr 1 0))]) rfl rfl (by kernel_rfl))),h⟩
 clear h
 intro d1 h
 unfold zIf at h
 refine zH<|zH<|zC<|zAA (zAd (k:=1) (o:=3) (t':=51) (sz:=10) (rows:=List.map zO (List.replicate (Y.length:Int).toNat (zKv))) rfl rfl)<|zAA (zAd (k:=1) (o:=4) (t':=55) (sz:=1) (rows:=List.map zG ([]:List zL)) rfl rfl)<|zA (zS (k:=1) (o:=0) (m:=5) Tryz.isAgg26 Tryz.sizeOf26 rfl rfl rfl rfl rfl) ?_
 refine zR h fun x1 w1 h=>zA2 (r':=(AV.lit (.bool x1))) (la:=[(AV.agg [ls cI d1,li D,li G,AV.hd 2,AV.hd 3])]) (la':=[(AV.agg (zI ⟨d1,D,G,(List.replicate (Y.length:Int).toNat (zKv)),[]⟩))]) (r:=(AV.lit (.bool x1))) (S:=[2,3]) Tryz.func41 rfl (by kernel_rfl) (.fn 41) rfl ⟨zAs.agg (by exact ⟨zAs.nr rfl,⟨zAs.nr rfl,⟨zAs.nr rfl,⟨zHy (fun _=>rfl) rfl rfl,⟨zHy (fun _=>rfl) rfl rfl,trivial⟩⟩⟩⟩⟩),trivial⟩ (zIs w1) (.inr trivial) rfl<|zA (zBE (t:=x1) rfl)<|zF ?_
 refine zX h rfl (fun b1 h => ?_) (fun b1 h => ?_)
 ·refine zH<|zC<|zA (zCV (pl:=[(0,1),(1,1),(2,1),(3,1),(4,1)]) (zs:=[.slice none 0 0,.int .i64 0,.int .i64 0,.slice none 0 0,.slice none 0 0]) (zc:=[.osl 3 1 [],.lit (.int .i64 0),.lit (.int .i64 0),.osl 51 10 [],.osl 55 1 []]) (res:=[AV.osl 3 1 (List.map cI ([]:List Int)),li 0,li 0,AV.osl 51 10 (List.map zO ([]:List zi)),AV.osl 55 1 (List.map zG ([]:List zL))]) (fun _=>by kernel_rfl) rfl (⟨zAt.nilo,⟨zAt.refl _,⟨zAt.refl _,⟨zAt.nilo,⟨zAt.nilo,trivial⟩⟩⟩⟩⟩) (by exact zLT.refl _))<|zj (H':=[.box 26 [AV.osl 3 1 (List.map cI ([]:List Int)),li 0,li 0,AV.osl 51 10 (List.map zO ([]:List zi)),AV.osl 55 1 (List.map zG ([]:List zL))],.box 26 [ls cI d1,li D,li G,AV.hd 2,AV.hd 3],.vec 51 10 (List.map zO (List.replicate (Y.length:Int).toNat (zKv))),.vec 55 1 (List.map zG ([]:List zL))]) (zY (k:=0) (o:=0) (cs:=(zI ⟨[],0,0,[],[]⟩)) (la:=[AV.osl 3 1 (List.map cI ([]:List Int)),li 0,li 0,AV.osl 51 10 (List.map zO ([]:List zi)),AV.osl 55 1 (List.map zG ([]:List zL))]) Tryz.sizeOf26 rfl rfl rfl rfl)<|zA (zD rfl)<|zF ?_
  refine zAT (zBl (k:=0) (o:=0) (rows':=List.map cI ([]:List Int)) rfl rfl (zAL (fun _=>rfl)))<|zAT (zBl (k:=0) (o:=3) (rows':=List.map zO ([]:List zi)) rfl rfl (zAL (fun _=>rfl)))<|zAT (zBl (k:=0) (o:=4) (rows':=List.map zG ([]:List zL)) rfl rfl (zAL (fun _=>rfl)))<|zd ?_
  cases h
  exact zBy (zFM Tryz.isAgg26 Tryz.sizeOf26 rfl rfl rfl rfl) (zAH rfl rfl) rfl
 refine zP<|zH<|zC<|zA (zD rfl)<|zF ?_
 refine zt (r:=r) (fun (l1:List zi)=>mkE [(0,(ls cI A)),(3,(ls zAf Y)),(8,(AV.ptr 0 0)),(10,(AV.ptr 1 0))]) (fun l1=>[.box 26 (zI ⟨[],0,0,[],[]⟩),.box 26 [ls cI d1,li D,li G,AV.osl 51 10 (List.map zO l1),AV.osl 55 1 (List.map zG ([]:List zL))]]) (fun l1=>zIj A D G Y d1 l1) ?_ ?_
 ·
  refine zH<|zC<|zA (zB rfl)<|zA (zV Tryz.underlying47 rfl)<|zA (zB rfl)<|zF ?_
  refine zQ<|zq (σ:=Int×Int×(List zi)) (fun (i2,i3,l4)=>mkE [(0,(ls cI A)),(3,(ls zAf Y)),(8,(AV.ptr 0 0)),(10,(AV.ptr 1 0)),(11,(li i2)),(30,(ls zAf Y)),(31,(li (Y.length:Int))),(32,(li i3))]) (fun (i2,i3,l4)=>[.box 26 (zI ⟨[],0,0,[],[]⟩),.box 26 [ls cI d1,li D,li G,AV.osl 51 10 (List.map zO l4),AV.osl 55 1 (List.map zG ([]:List zL))]]) (fun n1 (i2,i3,l4)=>zGX A D G Y d1 n1 i2 i3 l4) (0,0,(List.replicate (Y.length:Int).toNat (zKv))) h (fun _=>rfl) (Rep.trans (z7 (k:=1) (j:=2) (o:=3) rfl rfl rfl rfl) (Rep.trans (z7 (k:=1) (j:=3) (o:=4) rfl rfl rfl rfl) (z9 [0,1] (l:=[(0,(ls cI A)),(3,(ls zAf Y)),(8,(AV.ptr 0 0)),(10,(AV.ptr 1 0)),(11,(li 0)),(30,(ls zAf Y)),(31,(li (Y.length:Int))),(32,(li 0))]) rfl rfl (by kernel_rfl)))) ?_
  clear h
  rintro n1 ⟨i2,i3,l4⟩ h
  replace h:zIo A D G Y d1 (zGX A D G Y d1 n1) i2 i3 l4=some r:=h
  unfold zIo at h
  refine zH<|zC<|zA (zf rfl rfl)<|zF<|zH ?_
  refine zX h rfl (fun b5 h => ?_) (fun b5 h => ?_)
  ·refine zP<|zH<|zQ<|zH<|zC<|zA (zB rfl) ?_
   refine zM h fun b6 h=>zA (zT Tryz.underlying47 Tryz.sizeOf46 (fun _=>rfl) rfl rfl b6)<|zA (zAi (row:=(zAf (at_ Y i3))) (o:=0) (m:=4) (la:=(zAf (at_ Y i3))) Tryz.isAgg46 Tryz.sizeOf46 rfl rfl rfl)<|za (H':=[.box 26 (zI ⟨[],0,0,[],[]⟩),.box 26 [ls cI d1,li D,li G,AV.osl 51 10 (List.map zO l4),AV.osl 55 1 (List.map zG ([]:List zL))],.box 46 [li 0,li 0,li 0,li 0]]) zv5<|zA (zD rfl)<|zj (H':=[.box 26 (zI ⟨[],0,0,[],[]⟩),.box 26 [ls cI d1,li D,li G,AV.osl 51 10 (List.map zO l4),AV.osl 55 1 (List.map zG ([]:List zL))],.box 46 (zAf (at_ Y i3))]) (zY (k:=2) (o:=0) (cs:=[li 0,li 0,li 0,li 0]) (la:=(zAf (at_ Y i3))) Tryz.sizeOf46 rfl rfl rfl rfl) ?_
   refine zF<|zH<|zC<|zA (zK Tryz.underlying46 rfl rfl Tryz.sizeOf3 rfl)<|zA (zN Tryz.isAgg3 rfl rfl rfl rfl)<|zA (zK Tryz.underlying46 rfl rfl Tryz.sizeOf3 rfl) ?_
   refine zA (zN Tryz.isAgg3 rfl rfl rfl rfl)<|zA (zB rfl)<|zA (zK Tryz.underlying46 rfl rfl Tryz.sizeOf3 rfl)<|zA (zN Tryz.isAgg3 rfl rfl rfl rfl)<|zA (zK Tryz.underlying46 rfl rfl Tryz.sizeOf3 rfl)<|zA (zN Tryz.isAgg3 rfl rfl rfl rfl) ?_
   refine zR h fun x3 w3 h=>zh Tryz.func81 rfl (by kernel_rfl) (.fn 81) rfl rfl (zPR w3) rfl<|zA (zB rfl)<|zA (zb rfl rfl)<|zA (zb rfl rfl)<|za (H':=[.box 26 (zI ⟨[],0,0,[],[]⟩),.box 26 [ls cI d1,li D,li G,AV.osl 51 10 (List.map zO l4),AV.osl 55 1 (List.map zG ([]:List zL))],.box 46 (zAf (at_ Y i3)),.box 51 (zO ⟨0,0,0,0,0,(List.replicate 5 ([]:List Int))⟩)]) zv0 ?_
   refine zj (H':=[.box 26 (zI ⟨[],0,0,[],[]⟩),.box 26 [ls cI d1,li D,li G,AV.osl 51 10 (List.map zO l4),AV.osl 55 1 (List.map zG ([]:List zL))],.box 46 (zAf (at_ Y i3)),.box 51 (zO x3.1)]) (zY (k:=3) (o:=0) (cs:=(zO ⟨0,0,0,0,0,(List.replicate 5 ([]:List Int))⟩)) (la:=(zO x3.1)) Tryz.sizeOf51 rfl rfl rfl rfl)<|zA (zD rfl)<|zF<|zH<|zH<|zC ?_
   refine zA (zB rfl)<|zA (zz rfl rfl)<|zF ?_
   refine zX h rfl (fun b7 h => ?_) (fun b7 h => ?_)
   ·refine zH<|zC<|zA (zCV (pl:=[(0,1),(1,1),(2,1),(3,1),(4,1)]) (zs:=[.slice none 0 0,.int .i64 0,.int .i64 0,.slice none 0 0,.slice none 0 0]) (zc:=[.osl 3 1 [],.lit (.int .i64 0),.lit (.int .i64 0),.osl 51 10 [],.osl 55 1 []]) (res:=[AV.osl 3 1 (List.map cI ([]:List Int)),li 0,li 0,AV.osl 51 10 (List.map zO ([]:List zi)),AV.osl 55 1 (List.map zG ([]:List zL))]) (fun _=>by kernel_rfl) rfl (⟨zAt.nilo,⟨zAt.refl _,⟨zAt.refl _,⟨zAt.nilo,⟨zAt.nilo,trivial⟩⟩⟩⟩⟩) (by exact zLT.refl _))<|zA (zB rfl)<|zj (H':=[.box 26 [AV.osl 3 1 (List.map cI ([]:List Int)),li 0,li 0,AV.osl 51 10 (List.map zO ([]:List zi)),AV.osl 55 1 (List.map zG ([]:List zL))],.box 26 [ls cI d1,li D,li G,AV.osl 51 10 (List.map zO l4),AV.osl 55 1 (List.map zG ([]:List zL))],.box 46 (zAf (at_ Y i3)),.box 51 (zO x3.1)]) (zY (k:=0) (o:=0) (cs:=(zI ⟨[],0,0,[],[]⟩)) (la:=[AV.osl 3 1 (List.map cI ([]:List Int)),li 0,li 0,AV.osl 51 10 (List.map zO ([]:List zi)),AV.osl 55 1 (List.map zG ([]:List zL))]) Tryz.sizeOf26 rfl rfl rfl rfl)<|zA (zD rfl) ?_
    refine zF<|zAT (zBl (k:=0) (o:=0) (rows':=List.map cI ([]:List Int)) rfl rfl (zAL (fun _=>rfl)))<|zAT (zBl (k:=0) (o:=3) (rows':=List.map zO ([]:List zi)) rfl rfl (zAL (fun _=>rfl)))<|zAT (zBl (k:=0) (o:=4) (rows':=List.map zG ([]:List zL)) rfl rfl (zAL (fun _=>rfl)))<|zd ?_
    cases h
    exact zBy (zFM Tryz.isAgg26 Tryz.sizeOf26 rfl rfl rfl rfl) (zAH rfl rfl) rfl
   refine zP<|zH<|zC<|zA (zK Tryz.underlying26 rfl rfl Tryz.sizeOf23 rfl)<|zAA (zAd (k:=1) (o:=3) (t':=51) (sz:=10) (rows:=List.map zO l4) rfl rfl)<|zA (zN Tryz.isAgg23 rfl rfl rfl rfl) ?_
   refine zA (zB rfl)<|zA (zS (k:=3) (o:=0) (m:=10) Tryz.isAgg51 Tryz.sizeOf51 rfl rfl rfl rfl rfl)<|zM h fun b8 h=>zA (zy (f:=zO) (l:=l4) (i:=i3) Tryz.underlying23 Tryz.sizeOf51 rfl rfl rfl b8)<|zj (H':=[.box 26 (zI ⟨[],0,0,[],[]⟩),.box 26 [ls cI d1,li D,li G,AV.hd 4,AV.osl 55 1 (List.map zG ([]:List zL))],.box 46 (zAf (at_ Y i3)),.box 51 (zO x3.1),.vec 51 10 (List.map zO (l4.set i3.toNat x3.1))]) (zBR (k:=4) (o:=(i3.toNat*10)) (f:=zO) (l:=l4) (i:=i3) (z:=x3.1) Tryz.sizeOf51 (fun _=>rfl) rfl rfl (by first | rfl | omega) b8 rfl rfl)<|zF ?_
   refine zC<|zA (zB rfl)<|zA (zK Tryz.underlying46 rfl rfl Tryz.sizeOf3 rfl)<|zA (zN Tryz.isAgg3 rfl rfl rfl rfl)<|zM h fun b9 h=>zA (ze rfl rfl b9) ?_
   refine zA (zD rfl)<|zF<|zC<|zM h fun b10 h=>zA (ze rfl rfl b10)<|zA (zB rfl) ?_
   refine zF ?_
   exact ⟨((i2+((at_ Y i3).count)),(i3+1),(l4.set i3.toNat x3.1)),Rep.trans (z7 (k:=1) (j:=4) (o:=3) rfl rfl rfl rfl) (z9 [0,1] (l:=[(0,(ls cI A)),(3,(ls zAf Y)),(8,(AV.ptr 0 0)),(10,(AV.ptr 1 0)),(11,(li (i2+((at_ Y i3).count)))),(30,(ls zAf Y)),(31,(li (Y.length:Int))),(32,(li (i3+1)))]) rfl rfl (by kernel_rfl)),h⟩
  refine zw ?_
  exact ⟨l4,z9 [0,1] rfl rfl (by kernel_rfl),h⟩
 clear h
 intro l1 h
 unfold zIj at h
 refine zt (r:=r) (fun (l2:List zL)=>mkE [(8,(AV.ptr 0 0)),(10,(AV.ptr 1 0))]) (fun l2=>[.box 26 (zI ⟨[],0,0,[],[]⟩),.box 26 [ls cI d1,li D,li G,AV.osl 51 10 (List.map zO l1),AV.osl 55 1 (List.map zG l2)]]) (fun l2=>zIm D G d1 l1 l2) ?_ ?_
 ·
  refine zH<|zC<|zA (zB rfl)<|zA (zV Tryz.underlying22 rfl)<|zA (zB rfl)<|zF ?_
  refine zQ<|zq (σ:=Int×(List zL)) (fun (i1,l3)=>mkE [(3,(ls zAf Y)),(8,(AV.ptr 0 0)),(10,(AV.ptr 1 0)),(65,(li (A.length:Int))),(66,(li i1))]) (fun (i1,l3)=>[.box 26 (zI ⟨[],0,0,[],[]⟩),.box 26 [ls cI d1,li D,li G,AV.osl 51 10 (List.map zO l1),AV.osl 55 1 (List.map zG l3)]]) (fun n0 (i1,l3)=>zGh A D G Y d1 l1 n0 i1 l3) (0,([]:List zL)) h (fun _=>rfl) (z9 [0,1] rfl rfl (by kernel_rfl)) ?_
  clear h
  rintro n0 ⟨i1,l3⟩ h
  replace h:zId A D G Y d1 l1 (zGh A D G Y d1 l1 n0) i1 l3=some r:=h
  unfold zId at h
  refine zH<|zC<|zA (zf rfl rfl)<|zF<|zH ?_
  refine zX h rfl (fun b2 h => ?_) (fun b2 h => ?_)
  ·refine zP<|zH<|zQ<|zH<|zC<|zA (zB rfl) ?_
   refine zA (zV Tryz.underlying47 rfl)<|zR h fun x2 w2 h=>zh Tryz.func82 rfl (by kernel_rfl) (.fn 82) rfl rfl (zPD w2) rfl<|zA (zB rfl)<|zA (zb rfl rfl)<|zA (zb rfl rfl) ?_
   refine za (H':=[.box 26 (zI ⟨[],0,0,[],[]⟩),.box 26 [ls cI d1,li D,li G,AV.osl 51 10 (List.map zO l1),AV.osl 55 1 (List.map zG l3)],.box 55 [AV.osl 22 1 (List.map (cS cI) ([]:List (List Int)))]]) zv6<|zj (H':=[.box 26 (zI ⟨[],0,0,[],[]⟩),.box 26 [ls cI d1,li D,li G,AV.osl 51 10 (List.map zO l1),AV.osl 55 1 (List.map zG l3)],.box 55 (zG x2.1)]) (zY (k:=2) (o:=0) (cs:=[AV.osl 22 1 (List.map (cS cI) ([]:List (List Int)))]) (la:=(zG x2.1)) Tryz.sizeOf55 rfl rfl rfl rfl)<|zA (zD rfl)<|zF<|zC<|zA (zK Tryz.underlying26 rfl rfl Tryz.sizeOf24 rfl) ?_
   refine zAA (zAd (k:=1) (o:=4) (t':=55) (sz:=1) (rows:=List.map zG l3) rfl rfl)<|zA (zN Tryz.isAgg24 rfl rfl rfl rfl)<|zA (zS (k:=2) (o:=0) (m:=1) Tryz.isAgg55 Tryz.sizeOf55 rfl rfl rfl rfl rfl)<|zEP (a:=(AV.agg (zG x2.1))) zOb Tryz.underlying24 rfl rfl rfl rfl<|zM h fun b3 h=>zBp (f:=zG) (k:=3) (j:=4) (l:=l3) (l':=[x2.1]) zOb (fun _=>rfl) Tryz.underlying24 rfl rfl rfl rfl b3 ?_
   refine zA (zK Tryz.underlying26 rfl rfl Tryz.sizeOf24 rfl)<|zj (H':=[.box 26 (zI ⟨[],0,0,[],[]⟩),.box 26 [ls cI d1,li D,li G,AV.osl 51 10 (List.map zO l1),AV.hd 5],.box 55 (zG x2.1),.dead,.vec 55 1 (List.map zG [x2.1]),.vec 55 1 (List.map zG (l3++[x2.1]))]) (zC1 (k:=1) (o:=4) (cs:=[ls cI d1,li D,li G,AV.osl 51 10 (List.map zO l1),AV.hd 3]) (a:=(AV.hd 5)) Tryz.sizeOf24 rfl rfl rfl rfl rfl)<|zF<|zC<|zM h fun b4 h=>zA (ze rfl rfl b4) ?_
   refine zA (zB rfl)<|zF ?_
   exact ⟨((i1+1),(l3++[x2.1])),Rep.trans (z7 (k:=1) (j:=5) (o:=4) rfl rfl rfl rfl) (z9 [0,1] (l:=[(3,(ls zAf Y)),(8,(AV.ptr 0 0)),(10,(AV.ptr 1 0)),(65,(li (A.length:Int))),(66,(li (i1+1)))]) rfl rfl (by kernel_rfl)),h⟩
  refine zw ?_
  exact ⟨l3,z9 [0,1] rfl rfl (by kernel_rfl),h⟩
 clear h
 intro l2 h
 unfold zIm at h
 refine zH<|zC<|zAA (zBl (k:=1) (o:=3) (rows':=List.map zO l1) rfl rfl (zAL (fun _=>rfl)))<|zAA (zBl (k:=1) (o:=4) (rows':=List.map zG l2) rfl rfl (zAL (fun _=>rfl)))<|zA (zS (k:=1) (o:=0) (m:=5) Tryz.isAgg26 Tryz.sizeOf26 rfl rfl rfl rfl rfl)<|zj (H':=[.box 26 (zI (⟨d1,D,G,l1,l2⟩:zJ)),.box 26 (zI ⟨d1,D,G,l1,l2⟩)]) (zY (k:=0) (o:=0) (cs:=(zI ⟨[],0,0,[],[]⟩)) (la:=(zI (⟨d1,D,G,l1,l2⟩:zJ))) Tryz.sizeOf26 rfl rfl rfl rfl) ?_
 refine zA (zD rfl)<|zF<|zd ?_
 cases h
 exact zBy (zFM Tryz.isAgg26 Tryz.sizeOf26 rfl rfl rfl rfl) (zAH rfl rfl) rfl
theorem zFA {A:zi} {r:Int} (h:zED A=some r):PFn Tryz.prog 42 [(AV.agg (zO A))] (li r):=by
 refine zo Tryz.func42 rfl Tryz.ntmps42 Tryz.results42 rfl ?_
 unfold zED at h
 refine zH<|zC<|za (H':=[.box 51 (zO A)]) (zv (t:=51) rfl)<|zA (zD rfl)<|zF<|zH ?_
 refine zH<|zC<|zA (zS (k:=0) (o:=0) (m:=10) Tryz.isAgg51 Tryz.sizeOf51 rfl rfl rfl rfl rfl)<|zR h fun x1 w1 h=>zA2 (r':=(AV.lit (.bool x1))) (la:=[(AV.agg (zO A))]) (la':=[(AV.agg ([li A.node,li A.kind,li A.start,li A.count,li A.min]++([AV.any,AV.any,AV.any,AV.any,AV.any]++[])))]) (r:=(AV.lit (.bool x1))) (S:=[]) Tryz.func85 rfl (by kernel_rfl) (.fn 85) rfl ⟨zMO (hd:=([li A.node]++[li A.kind]++[li A.start]++[li A.count]++[li A.min])) (tl:=((cA 5 (eS cI) ([]:List Int) A.free))) rfl,trivial⟩ (zLB w1) (.inl rfl) rfl<|zA (zBE (t:=x1) rfl) ?_
 refine zF ?_
 refine zX h rfl (fun b1 h => ?_) (fun b1 h => ?_)
 ·refine zH<|zC<|zA (zD rfl)<|zF<|zd ?_
  cases h
  exact zu (zAH rfl rfl)
 refine zP ?_
 refine zt (r:=r) (fun (_:Unit)=>mkE [(1,(AV.ptr 0 0))]) (fun _=>[.box 51 (zO A)]) (fun _=>zGV A) ?_ ?_
 ·
  refine zH<|zC<|zA (zK Tryz.underlying51 rfl rfl Tryz.sizeOf49 rfl)<|zA (zS (k:=0) (o:=5) (m:=5) Tryz.isAgg49 Tryz.sizeOf49 rfl rfl rfl rfl rfl)<|zA (zB rfl)<|zF ?_
  refine zQ<|zq (σ:=Int) (fun i6=>mkE [(1,(AV.ptr 0 0)),(23,(AV.agg (cA 5 (eS cI) ([]:List Int) A.free))),(24,(li i6))]) (fun i6=>[.box 51 (zO A)]) (fun n5 i6=>zCj A n5 i6) 0 h (fun _=>rfl) (z9 [0] rfl rfl (by kernel_rfl)) ?_
  clear h
  intro n5 i6 h
  replace h:zD9 A (zCj A n5) i6=some r:=h
  unfold zD9 at h
  refine zH<|zC<|zA (zf rfl rfl)<|zF<|zH ?_
  refine zX h rfl (fun b26 h => ?_) (fun b26 h => ?_)
  ·refine zP ?_
   refine zt (r:=r) (fun (_:Unit)=>mkE [(1,(AV.ptr 0 0)),(23,(AV.agg (cA 5 (eS cI) ([]:List Int) A.free))),(24,(li i6))]) (fun _=>[.box 51 (zO A)]) (fun _=>zH0 (zCj A n5) i6) ?_ ?_
   ·
    refine zQ<|zH<|zC<|zA (zB rfl)<|zM h fun b28 h=>zA (zNJ (la:=cA 5 (eS cI) ([]:List Int) A.free) (i:=i6) (a:=(ls cI (A.free.getD i6.toNat ([]:List Int)))) Tryz.underlying49 Tryz.sizeOf22 Tryz.isAgg22 rfl rfl b28 (zQc (zBW b28).2) rfl) ?_
    refine zA (zD rfl)<|zA (zD rfl)<|zF<|zH<|zC<|zA (zB rfl) ?_
    refine zA (zV Tryz.underlying22 rfl)<|zA (zB rfl)<|zF<|zQ<|zq (σ:=Int) (fun i7=>mkE [(1,(AV.ptr 0 0)),(3,(li i6)),(4,(ls cI (A.free.getD i6.toNat ([]:List Int)))),(23,(AV.agg (cA 5 (eS cI) ([]:List Int) A.free))),(24,(li i6)),(28,(ls cI (A.free.getD i6.toNat ([]:List Int)))),(29,(li ((A.free.getD i6.toNat ([]:List Int)).length:Int))),(30,(li i7))]) (fun i7=>[.box 51 (zO A)]) (fun n6 i7=>zGU (zCj A n5) A i6 n6 i7) 0 h (fun _=>rfl) (z9 [0] rfl rfl (by kernel_rfl)) ?_
    clear h
    intro n6 i7 h
    replace h:zEI (zCj A n5) A i6 (zGU (zCj A n5) A i6 n6) i7=some r:=h
    unfold zEI at h
    refine zH<|zC<|zA (zf rfl rfl)<|zF<|zH ?_
    refine zX h rfl (fun b29 h => ?_) (fun b29 h => ?_)
    ·refine zP<|zH<|zQ<|zH<|zC<|zA (zB rfl) ?_
     refine zM h fun b30 h=>zA (zT Tryz.underlying22 Tryz.sizeOf3 (fun _=>rfl) rfl rfl b30)<|zA (zU (o:=0) Tryz.isAgg3 rfl rfl)<|zA (zD rfl)<|zA (zD rfl)<|zF ?_
     refine zH<|zH<|zC<|zA (zS (k:=0) (o:=0) (m:=10) Tryz.isAgg51 Tryz.sizeOf51 rfl rfl rfl rfl rfl)<|zA (zB rfl)<|zA (zB rfl) ?_
     refine zR h fun x4 w4 h=>zA2 (r':=(AV.lit (.bool x4))) (la:=[(AV.agg (zO A)),(li (at_ (A.free.getD i6.toNat ([]:List Int)) i7)),li i6]) (la':=[(AV.agg ([li A.node,li A.kind,li A.start,li A.count,li A.min]++([AV.any,AV.any,AV.any,AV.any,AV.any]++[]))),(li (at_ (A.free.getD i6.toNat ([]:List Int)) i7)),li i6]) (r:=(AV.lit (.bool x4))) (S:=[]) Tryz.func86 rfl (by kernel_rfl) (.fn 86) rfl ⟨zMO (hd:=([li A.node]++[li A.kind]++[li A.start]++[li A.count]++[li A.min])) (tl:=((cA 5 (eS cI) ([]:List Int) A.free))) rfl,zAs.nr rfl,zAs.nr rfl,trivial⟩ (zFk w4) (.inl rfl) rfl<|zA (zBE (t:=x4) rfl)<|zF ?_
     refine zX h rfl (fun b31 h => ?_) (fun b31 h => ?_)
     ·refine zH<|zC<|zA (zD rfl)<|zF<|zd ?_
      cases h
      exact zu (zAH rfl rfl)
     refine zP<|zH<|zC<|zA (zB rfl)<|zA (zAh rfl rfl)<|zA (zB rfl) ?_
     refine zm rfl rfl (fun c8=>zp.step (zB rfl))<|zm rfl rfl (fun c9=>zp.step (zB rfl))<|zM h fun b32 h=>zm rfl rfl (fun c10=>zp.step (zBS (z6 rfl c10) rfl (zGy b32 c10)))<|zM h fun b33 h=>zm rfl rfl (fun c11=>zp.step (zT Tryz.underlying22 Tryz.sizeOf3 (fun _=>rfl) (z6 rfl c11) (z6 rfl c11) (zGy b33 c11))) ?_
     refine zm rfl rfl (fun c12=>zp.step (zU (o:=0) Tryz.isAgg3 (z6 rfl c12) rfl))<|zm rfl rfl (fun c13=>zp.step (zB rfl))<|zm rfl rfl (fun c14=>zp.step (zAw (z6 rfl c14) (z6 rfl c14)))<|zA (zx (j := .lit undef) rfl rfl)<|zF ?_
     refine zX h rfl (fun b34 h => ?_) (fun b34 h => ?_)
     ·refine zH<|zC<|zA (zD rfl)<|zF<|zd ?_
      cases h
      exact zu (zAH rfl rfl)
     refine zP<|zC<|zM h fun b35 h=>zA (ze rfl rfl b35)<|zA (zB rfl)<|zF ?_
     exact ⟨(i7+1),z9 [0] rfl rfl (by kernel_rfl),h⟩
    refine zw ?_
    exact ⟨(),z9 [0] rfl rfl (by kernel_rfl),h⟩
   clear h
   intro _ h
   unfold zH0 at h
   refine zC<|zM h fun b27 h=>zA (ze rfl rfl b27)<|zA (zB rfl)<|zF ?_
   exact ⟨(i6+1),z9 [0] rfl rfl (by kernel_rfl),h⟩
  refine zw ?_
  exact ⟨(),z9 [0] rfl rfl (by kernel_rfl),h⟩
 clear h
 intro _ h
 unfold zGV at h
 refine zH<|zC<|za (H':=[.box 51 (zO A),.box 91 (cA 256 eB false (List.replicate 256 false))]) zv7<|zF ?_
 refine zt (r:=r) (fun (_:Unit)=>mkE [(1,(AV.ptr 0 0))]) (fun _=>[.box 51 (zO A)]) (fun _=>zD5 A) ?_ ?_
 ·
  refine zH<|zC<|zA (zK Tryz.underlying51 rfl rfl Tryz.sizeOf49 rfl)<|zA (zS (k:=0) (o:=5) (m:=5) Tryz.isAgg49 Tryz.sizeOf49 rfl rfl rfl rfl rfl)<|zA (zB rfl)<|zF ?_
  refine zQ<|zq (σ:=Int×(List Bool)) (fun (i3,d1)=>mkE [(1,(AV.ptr 0 0)),(7,(AV.ptr 1 0)),(54,(AV.agg (cA 5 (eS cI) ([]:List Int) A.free))),(55,(li i3))]) (fun (i3,d1)=>[.box 51 (zO A),.box 91 (cA 256 eB false d1)]) (fun n2 (i3,d1)=>zBN A n2 i3 d1) (0,(List.replicate 256 false)) h (fun _=>rfl) (z9 [0,1] rfl rfl (by kernel_rfl)) ?_
  clear h
  rintro n2 ⟨i3,d1⟩ h
  replace h:zEB A (zBN A n2) i3 d1=some r:=h
  unfold zEB at h
  refine zH<|zC<|zA (zf rfl rfl)<|zF<|zH ?_
  refine zX h rfl (fun b13 h => ?_) (fun b13 h => ?_)
  ·refine zP ?_
   refine zt (r:=r) (fun (d2:List Bool)=>mkE [(1,(AV.ptr 0 0)),(7,(AV.ptr 1 0)),(54,(AV.agg (cA 5 (eS cI) ([]:List Int) A.free))),(55,(li i3))]) (fun d2=>[.box 51 (zO A),.box 91 (cA 256 eB false d2)]) (fun d2=>zIJ (zBN A n2) i3 d2) ?_ ?_
   ·
    refine zQ<|zH<|zC<|zA (zB rfl)<|zM h fun b15 h=>zA (zNJ (la:=cA 5 (eS cI) ([]:List Int) A.free) (i:=i3) (a:=(ls cI (A.free.getD i3.toNat ([]:List Int)))) Tryz.underlying49 Tryz.sizeOf22 Tryz.isAgg22 rfl rfl b15 (zQc (zBW b15).2) rfl) ?_
    refine zA (zD rfl)<|zA (zD rfl)<|zF<|zH<|zC<|zA (zB rfl) ?_
    refine zA (zV Tryz.underlying22 rfl)<|zA (zB rfl)<|zF<|zQ<|zq (σ:=Int×(List Bool)) (fun (i4,d3)=>mkE [(1,(AV.ptr 0 0)),(7,(AV.ptr 1 0)),(8,(li i3)),(54,(AV.agg (cA 5 (eS cI) ([]:List Int) A.free))),(55,(li i3)),(59,(ls cI (A.free.getD i3.toNat ([]:List Int)))),(60,(li ((A.free.getD i3.toNat ([]:List Int)).length:Int))),(61,(li i4))]) (fun (i4,d3)=>[.box 51 (zO A),.box 91 (cA 256 eB false d3)]) (fun n3 (i4,d3)=>zB5 (zBN A n2) A i3 n3 i4 d3) (0,d1) h (fun _=>rfl) (z9 [0,1] rfl rfl (by kernel_rfl)) ?_
    clear h
    rintro n3 ⟨i4,d3⟩ h
    replace h:zDs (zBN A n2) A i3 (zB5 (zBN A n2) A i3 n3) i4 d3=some r:=h
    unfold zDs at h
    refine zH<|zC<|zA (zf rfl rfl)<|zF<|zH ?_
    refine zX h rfl (fun b16 h => ?_) (fun b16 h => ?_)
    ·refine zP ?_
     refine zt (r:=r) (fun (d4:List Bool)=>mkE [(1,(AV.ptr 0 0)),(7,(AV.ptr 1 0)),(8,(li i3)),(54,(AV.agg (cA 5 (eS cI) ([]:List Int) A.free))),(55,(li i3)),(59,(ls cI (A.free.getD i3.toNat ([]:List Int)))),(60,(li ((A.free.getD i3.toNat ([]:List Int)).length:Int))),(61,(li i4))]) (fun d4=>[.box 51 (zO A),.box 91 (cA 256 eB false d4)]) (fun d4=>zHt (zB5 (zBN A n2) A i3 n3) i4 d4) ?_ ?_
     ·
      refine zQ<|zH<|zC<|zM h fun b18 h=>zA (zT Tryz.underlying22 Tryz.sizeOf3 (fun _=>rfl) rfl rfl b18)<|zA (zU (o:=0) Tryz.isAgg3 rfl rfl) ?_
      refine zA (zD rfl)<|zF<|zH<|zC<|zA (zB rfl)<|zA (zD rfl) ?_
      refine zF<|zQ<|zq (σ:=Int×(List Bool)) (fun (i5,d5)=>mkE [(1,(AV.ptr 0 0)),(7,(AV.ptr 1 0)),(8,(li i3)),(11,(li (at_ (A.free.getD i3.toNat ([]:List Int)) i4))),(12,(li i5)),(54,(AV.agg (cA 5 (eS cI) ([]:List Int) A.free))),(55,(li i3)),(59,(ls cI (A.free.getD i3.toNat ([]:List Int)))),(60,(li ((A.free.getD i3.toNat ([]:List Int)).length:Int))),(61,(li i4))]) (fun (i5,d5)=>[.box 51 (zO A),.box 91 (cA 256 eB false d5)]) (fun n4 (i5,d5)=>zGI (zB5 (zBN A n2) A i3 n3) A i3 i4 n4 i5 d5) ((at_ (A.free.getD i3.toNat ([]:List Int)) i4),d3) h (fun _=>rfl) (z9 [0,1] rfl rfl (by kernel_rfl)) ?_
      clear h
      rintro n4 ⟨i5,d5⟩ h
      replace h:zDk (zB5 (zBN A n2) A i3 n3) A i3 i4 (zGI (zB5 (zBN A n2) A i3 n3) A i3 i4 n4) i5 d5=some r:=h
      unfold zDk at h
      refine zH<|zH<|zC<|zA (zB rfl)<|zA (zB rfl)<|zA (zB rfl) ?_
      refine zM h fun b19 h=>zM h fun b20 h=>zA (zCw (a:=1) (b:=i3) rfl rfl b19 b20)<|zM h fun b21 h=>zA (ze rfl rfl b21)<|zA (zf rfl rfl) ?_
      refine zF ?_
      refine zX h rfl (fun b22 h => ?_) (fun b22 h => ?_)
      ·refine zP<|zH<|zQ<|zH<|zH<|zC ?_
       refine zA (zB rfl)<|zM h fun b23 h=>zA (zAO (m:=256) (s:=1) (i:=i5) (k:=1) (o:=0) Tryz.underlying91 Tryz.sizeOf4 rfl rfl b23)<|zA (zO5 (k:=1) (o:=(0+i5.toNat*1)) (g:=eB) (d0:=false) (l:=d5) (N:=256) (i:=i5.toNat) (a:=(AV.lit (.bool (d5.getD i5.toNat false)))) Tryz.isAgg4 rfl rfl (congrArg (fun q=>0+q) (Nat.mul_one _)) (zBW b23).2 rfl rfl)<|zF ?_
       refine zX h rfl (fun b24 h => ?_) (fun b24 h => ?_)
       ·refine zH<|zC<|zA (zD rfl)<|zF<|zd ?_
        cases h
        exact zu (zAH rfl rfl)
       refine zP<|zC<|zA (zB rfl)<|zA (zAO (m:=256) (s:=1) (i:=i5) (k:=1) (o:=0) Tryz.underlying91 Tryz.sizeOf4 rfl rfl b23)<|zj (H':=[.box 51 (zO A),.box 91 (cA 256 eB false (zEN 256 false d5 i5.toNat true))]) (zN5 (k:=1) (o:=(0+i5.toNat*1)) (g:=eB) (d0:=false) (l:=d5) (N:=256) (i:=i5.toNat) (v:=true) (a:=(AV.lit (.bool true))) Tryz.sizeOf4 rfl rfl (congrArg (fun q=>0+q) (Nat.mul_one _)) (zBW b23).2 rfl rfl rfl)<|zF ?_
       refine zC<|zA (zB rfl)<|zM h fun b25 h=>zA (ze rfl rfl b25)<|zA (zD rfl)<|zF ?_
       exact ⟨((i5+1),(zEN 256 false d5 i5.toNat true)),z9 [0,1] rfl rfl (by kernel_rfl),h⟩
      refine zw ?_
      exact ⟨d5,z9 [0,1] rfl rfl (by kernel_rfl),h⟩
     clear h
     intro d4 h
     unfold zHt at h
     refine zC<|zM h fun b17 h=>zA (ze rfl rfl b17)<|zA (zB rfl)<|zF ?_
     exact ⟨((i4+1),d4),z9 [0,1] rfl rfl (by kernel_rfl),h⟩
    refine zw ?_
    exact ⟨d3,z9 [0,1] rfl rfl (by kernel_rfl),h⟩
   clear h
   intro d2 h
   unfold zIJ at h
   refine zC<|zM h fun b14 h=>zA (ze rfl rfl b14)<|zA (zB rfl)<|zF ?_
   exact ⟨((i3+1),d2),z9 [0,1] rfl rfl (by kernel_rfl),h⟩
  refine zw ?_
  exact ⟨(),z9 [0] rfl rfl (by kernel_rfl),h⟩
 clear h
 intro _ h
 unfold zD5 at h
 refine zt (r:=r) (fun (_:Unit)=>mkE []) (fun _=>[]) (fun _=>zJt ) ?_ ?_
 ·
  refine zH<|zC<|zA (zB rfl)<|zF<|zQ<|zq (σ:=Int) (fun i1=>mkE [(1,(AV.ptr 0 0)),(81,(li i1))]) (fun i1=>[.box 51 (zO A)]) (fun n0 i1=>zCp A n0 i1) 0 h (fun _=>rfl) (z9 [0] rfl rfl (by kernel_rfl)) ?_
  clear h
  intro n0 i1 h
  replace h:zEF A (zCp A n0) i1=some r:=h
  unfold zEF at h
  refine zH<|zC<|zA (zf rfl rfl)<|zF<|zH ?_
  refine zX h rfl (fun b2 h => ?_) (fun b2 h => ?_)
  ·refine zP ?_
   refine zt (r:=r) (fun (_:Unit)=>mkE [(1,(AV.ptr 0 0)),(81,(li i1))]) (fun _=>[.box 51 (zO A)]) (fun _=>zIC (zCp A n0) i1) ?_ ?_
   ·
    refine zQ<|zH<|zC<|zA (zB rfl)<|zA (zD rfl)<|zF ?_
    refine zH<|zC<|zA (zB rfl)<|zA (zK Tryz.underlying51 rfl rfl Tryz.sizeOf49 rfl)<|zM h fun b4 h=>zA (zAO (m:=5) (s:=1) (i:=i1) (k:=0) (o:=5) Tryz.underlying49 Tryz.sizeOf22 rfl rfl b4) ?_
    refine zA (zAm (k:=0) (o:=(5+i1.toNat*1)) (cs:=(zO A)) (hd:=([li A.node]++[li A.kind]++[li A.start]++[li A.count]++[li A.min]++[])) (tl:=([])) (g:=(eS cI)) (d0:=([]:List Int)) (l:=A.free) (N:=5) (i:=i1.toNat) (a:=(ls cI (A.free.getD i1.toNat ([]:List Int)))) Tryz.isAgg22 rfl rfl rfl (congrArg (fun q=>5+q) (Nat.mul_one _)) (zBW b4).2 rfl rfl)<|zA (zV Tryz.underlying22 rfl)<|zA (zB rfl)<|zF<|zQ<|zq (σ:=Int) (fun i2=>mkE [(1,(AV.ptr 0 0)),(13,(li i1)),(81,(li i1)),(87,(ls cI (A.free.getD i1.toNat ([]:List Int)))),(88,(li ((A.free.getD i1.toNat ([]:List Int)).length:Int))),(89,(li i2))]) (fun i2=>[.box 51 (zO A)]) (fun n1 i2=>zGH (zCp A n0) A i1 n1 i2) 0 h (fun _=>rfl) (z9 [0] rfl rfl (by kernel_rfl)) ?_
    clear h
    intro n1 i2 h
    replace h:zEH (zCp A n0) A i1 (zGH (zCp A n0) A i1 n1) i2=some r:=h
    unfold zEH at h
    refine zH<|zC<|zA (zf rfl rfl)<|zF<|zH ?_
    refine zX h rfl (fun b5 h => ?_) (fun b5 h => ?_)
    ·refine zP<|zH<|zQ<|zH<|zC<|zM h fun b6 h => ?_
     refine zA (zT Tryz.underlying22 Tryz.sizeOf3 (fun _=>rfl) rfl rfl b6)<|zA (zU (o:=0) Tryz.isAgg3 rfl rfl)<|zA (zD rfl)<|zF<|zH<|zC ?_
     refine zA (zB rfl)<|zA (zB rfl)<|zM h fun b7 h=>zM h fun b8 h=>zA (zCw (a:=1) (b:=i1) rfl rfl b7 b8)<|zA (zQt (k := .i64) (a:=at_ (A.free.getD i1.toNat ([]:List Int)) i2) (b:=(1:Int)*2 ^ i1.toNat) rfl rfl) ?_
     refine zA (zD rfl)<|zF<|zH<|zC<|zA (zB rfl)<|zA (zK Tryz.underlying51 rfl rfl Tryz.sizeOf49 rfl) ?_
     refine zM h fun b9 h=>zA (zAO (m:=5) (s:=1) (i:=i1) (k:=0) (o:=5) Tryz.underlying49 Tryz.sizeOf22 rfl rfl b9)<|zA (zAm (k:=0) (o:=(5+i1.toNat*1)) (cs:=(zO A)) (hd:=([li A.node]++[li A.kind]++[li A.start]++[li A.count]++[li A.min]++[])) (tl:=([])) (g:=(eS cI)) (d0:=([]:List Int)) (l:=A.free) (N:=5) (i:=i1.toNat) (a:=(ls cI (A.free.getD i1.toNat ([]:List Int)))) Tryz.isAgg22 rfl rfl rfl (congrArg (fun q=>5+q) (Nat.mul_one _)) (zBW b9).2 rfl rfl)<|zA (zB rfl)<|zR h fun x2 w2 h=>zh Tryz.func87 rfl (by kernel_rfl) (.fn 87) rfl rfl (zBB w2) rfl ?_
     refine zA (zB rfl)<|zA (zb rfl rfl)<|zA (zb rfl rfl)<|zA (zD rfl)<|zA (zD rfl)<|zF ?_
     refine zH<|zC<|zA (zB rfl)<|zA (zB rfl)<|zm rfl rfl (fun c1=>zp.step (zS (k:=0) (o:=0) (m:=10) Tryz.isAgg51 Tryz.sizeOf51 rfl rfl rfl rfl rfl))<|zm rfl rfl (fun c2=>zp.step (zB rfl)) ?_
     refine zm rfl rfl (fun c3=>zp.step (zB rfl))<|zm rfl rfl (fun c4=>zp.step (zOl (a:=at_ (A.free.getD i1.toNat ([]:List Int)) i2) (b:=zMd .xor .i64 (at_ (A.free.getD i1.toNat ([]:List Int)) i2) ((1:Int)*2 ^ i1.toNat)) (z6 rfl c4) (z6 rfl c4)))<|zm rfl rfl (fun c5=>zp.step (zB rfl))<|zM h fun b10 h=>zm rfl rfl (fun c6=>zp.step (ze (z6 rfl c6) rfl (zGy b10 c6)))<|zR h fun x3 w3 h => ?_
     refine zCy (g:=107) (s:=x2.2) (r':=(AV.lit (.bool x3))) rfl rfl (fun c7=>⟨86,_,_,[],[(AV.agg (zO A)),(li (min (at_ (A.free.getD i1.toNat ([]:List Int)) i2) (zMd .xor .i64 (at_ (A.free.getD i1.toNat ([]:List Int)) i2) ((1:Int)*2 ^ i1.toNat)))),(li (i1+1))],[(AV.agg ([li A.node,li A.kind,li A.start,li A.count,li A.min]++([AV.any,AV.any,AV.any,AV.any,AV.any]++[]))),(li (min (at_ (A.free.getD i1.toNat ([]:List Int)) i2) (zMd .xor .i64 (at_ (A.free.getD i1.toNat ([]:List Int)) i2) ((1:Int)*2 ^ i1.toNat)))),(li (i1+1))],(AV.lit (.bool x3)),[],Tryz.func86,rfl,by kernel_rfl,.fn 86,(zAM (z6 rfl c7) (zAM (z6 rfl c7) (zAM (z6 rfl c7) rfl))),⟨zMO (hd:=([li A.node]++[li A.kind]++[li A.start]++[li A.count]++[li A.min])) (tl:=((cA 5 (eS cI) ([]:List Int) A.free))) rfl,zAs.nr rfl,zAs.nr rfl,trivial⟩,zFk (zGm c7 w3),.inl rfl,rfl⟩)<|zA (zx (j := .lit undef) rfl rfl)<|zF ?_
     refine zX h rfl (fun b11 h => ?_) (fun b11 h => ?_)
     ·refine zH<|zC<|zA (zD rfl)<|zF<|zd ?_
      cases h
      exact zu (zAH rfl rfl)
     refine zP<|zC<|zM h fun b12 h=>zA (ze rfl rfl b12)<|zA (zB rfl)<|zF ?_
     exact ⟨(i2+1),z9 [0] rfl rfl (by kernel_rfl),h⟩
    refine zw ?_
    exact ⟨(),z9 [0] rfl rfl (by kernel_rfl),h⟩
   clear h
   intro _ h
   unfold zIC at h
   refine zC<|zM h fun b3 h=>zA (ze rfl rfl b3)<|zA (zB rfl)<|zF ?_
   exact ⟨(i1+1),z9 [0] rfl rfl (by kernel_rfl),h⟩
  refine zw ?_
  exact ⟨(),z9 [] rfl rfl (by kernel_rfl),h⟩
 clear h
 intro _ h
 unfold zJt at h
 refine zH<|zC<|zA (zD rfl)<|zF<|zd ?_
 cases h
 exact zu (zAH rfl rfl)
theorem zHs {uC:Int} {r:Bool} (h:zF8 uC=some r):PFn Tryz.prog 88 [li uC] (AV.lit (.bool r)):=by
 refine zo Tryz.func88 rfl Tryz.ntmps88 Tryz.results88 rfl ?_
 unfold zF8 at h
 refine zH<|zC<|zA (zD rfl)<|zF<|zH<|zC ?_
 refine zA (zB rfl)<|zA (zAw rfl rfl)<|zA (zB rfl)<|zm rfl rfl (fun c1=>zp.step (zB rfl))<|zm rfl rfl (fun c2=>zp.step (zf (z6 rfl c2) rfl))<|zA (zx (j := .lit undef) rfl rfl) ?_
 refine zA (zD rfl)<|zF<|zd ?_
 cases h
 exact zu (zAH rfl rfl)
theorem zIc {J:zL} {r:List (Int×Bool)} (h:zF1 J=some r):PFn Tryz.prog 89 [(AV.agg (zG J))] (AV.omap (mI Value.bool r)):=by
 refine zo Tryz.func89 rfl Tryz.ntmps89 Tryz.results89 rfl ?_
 unfold zF1 at h
 refine zH<|zC<|za (H':=[.box 55 (zG J)]) (zv (t:=55) rfl)<|zA (zD rfl)<|zF<|zH ?_
 refine zC<|za (H':=[.box 55 (zG J),.map (mI Value.bool ([]:List (Int×Bool)))]) (zMB)<|zA (zD rfl)<|zF ?_
 refine zt (r:=r) (fun (l1:List (Int×Bool))=>mkE [(3,(AV.hd 0))]) (fun l1=>[.map (mI Value.bool l1)]) (fun l1=>zIl l1) ?_ ?_
 ·
  refine zH<|zC<|zA (zK Tryz.underlying55 rfl rfl Tryz.sizeOf53 rfl)<|zA (zN Tryz.isAgg53 rfl rfl rfl rfl)<|zA (zV Tryz.underlying53 rfl)<|zA (zB rfl) ?_
  refine zF<|zQ<|zq (σ:=Int×(List (Int×Bool))) (fun (i1,l2)=>mkE [(3,(AV.hd 0)),(10,(ls (cS cI) J.lists)),(11,(li (J.lists.length:Int))),(12,(li i1))]) (fun (i1,l2)=>[.map (mI Value.bool l2)]) (fun n0 (i1,l2)=>zBu J n0 i1 l2) (0,([]:List (Int×Bool))) h (fun _=>rfl) (z9 [1] rfl rfl (by kernel_rfl)) ?_
  clear h
  rintro n0 ⟨i1,l2⟩ h
  replace h:zC4 J (zBu J n0) i1 l2=some r:=h
  unfold zC4 at h
  refine zH<|zC<|zA (zf rfl rfl)<|zF<|zH ?_
  refine zX h rfl (fun b1 h => ?_) (fun b1 h => ?_)
  ·refine zP ?_
   refine zt (r:=r) (fun (l3:List (Int×Bool))=>mkE [(3,(AV.hd 0)),(10,(ls (cS cI) J.lists)),(11,(li (J.lists.length:Int))),(12,(li i1))]) (fun l3=>[.map (mI Value.bool l3)]) (fun l3=>zGg (zBu J n0) i1 l3) ?_ ?_
   ·
    refine zQ<|zH<|zC<|zM h fun b3 h=>zA (zT Tryz.underlying53 Tryz.sizeOf22 (fun _=>rfl) rfl rfl b3)<|zA (zU (o:=0) Tryz.isAgg22 rfl rfl) ?_
    refine zA (zD rfl)<|zF<|zH<|zC<|zA (zB rfl)<|zA (zV Tryz.underlying22 rfl) ?_
    refine zA (zB rfl)<|zF<|zQ<|zq (σ:=Int×(List (Int×Bool))) (fun (i2,l4)=>mkE [(3,(AV.hd 0)),(10,(ls (cS cI) J.lists)),(11,(li (J.lists.length:Int))),(12,(li i1)),(16,(ls cI (at_ J.lists i1))),(17,(li ((at_ J.lists i1).length:Int))),(18,(li i2))]) (fun (i2,l4)=>[.map (mI Value.bool l4)]) (fun n1 (i2,l4)=>zEz (zBu J n0) J i1 n1 i2 l4) (0,l2) h (fun _=>rfl) (z9 [0] rfl rfl (by kernel_rfl)) ?_
    clear h
    rintro n1 ⟨i2,l4⟩ h
    replace h:zC2 (zBu J n0) J i1 (zEz (zBu J n0) J i1 n1) i2 l4=some r:=h
    unfold zC2 at h
    refine zH<|zC<|zA (zf rfl rfl)<|zF<|zH ?_
    refine zX h rfl (fun b4 h => ?_) (fun b4 h => ?_)
    ·refine zP<|zH<|zQ<|zH<|zC<|zM h fun b5 h => ?_
     refine zA (zT Tryz.underlying22 Tryz.sizeOf3 (fun _=>rfl) rfl rfl b5)<|zA (zU (o:=0) Tryz.isAgg3 rfl rfl)<|zA (zD rfl)<|zF<|zC<|zA (zB rfl) ?_
     refine zA (zB rfl)<|zj (H':=[.map (mI Value.bool (zKg l4 (at_ (at_ J.lists i1) i2) true))]) (zNn (k:=0) (g:=Value.bool) (q:=at_ (at_ J.lists i1) i2) (l:=l4) (v:=true) Tryz.underlying58 Tryz.underlying3 rfl rfl rfl rfl)<|zF<|zC<|zM h fun b6 h=>zA (ze rfl rfl b6) ?_
     refine zA (zB rfl)<|zF ?_
     exact ⟨((i2+1),(zKg l4 (at_ (at_ J.lists i1) i2) true)),z9 [0] rfl rfl (by kernel_rfl),h⟩
    refine zw ?_
    exact ⟨l4,z9 [0] rfl rfl (by kernel_rfl),h⟩
   clear h
   intro l3 h
   unfold zGg at h
   refine zC<|zM h fun b2 h=>zA (ze rfl rfl b2)<|zA (zB rfl)<|zF ?_
   exact ⟨((i1+1),l3),z9 [0] rfl rfl (by kernel_rfl),h⟩
  refine zw ?_
  exact ⟨l2,z9 [0] rfl rfl (by kernel_rfl),h⟩
 clear h
 intro l1 h
 unfold zIl at h
 refine zH<|zC<|zA (zB rfl)<|zA (zD rfl)<|zF<|zd ?_
 cases h
 exact zu (zX7 rfl rfl)
theorem zK6 {J:zL} {W:Int} {r:Int} (h:zGs J W=some r):PFn Tryz.prog 43 [(AV.agg (zG J)),li W] (li r):=by
 refine zo Tryz.func43 rfl Tryz.ntmps43 Tryz.results43 rfl ?_
 unfold zGs at h
 refine zH<|zC<|za (H':=[.box 55 (zG J)]) (zv (t:=55) rfl)<|zA (zD rfl)<|zF<|zH ?_
 refine zH<|zC<|zA (zB rfl)<|zA (zf rfl rfl)<|zA (zB rfl)<|zW rfl rfl (fun c1=>zp.step (zB rfl)) ?_
 refine zW rfl rfl (fun c2=>zp.step (zAh (z6 rfl c2) rfl))<|zA (zg rfl rfl)<|zF ?_
 refine zX h rfl (fun b1 h => ?_) (fun b1 h => ?_)
 ·refine zH<|zC<|zA (zD rfl)<|zF<|zd ?_
  cases h
  exact zu (zAH rfl rfl)
 refine zP<|zH<|zH<|zC<|zA (zK Tryz.underlying55 rfl rfl Tryz.sizeOf53 rfl)<|zA (zN Tryz.isAgg53 rfl rfl rfl rfl) ?_
 refine zA (zV Tryz.underlying53 rfl)<|zA (zB rfl)<|zA (zz rfl rfl)<|zF ?_
 refine zX h rfl (fun b2 h => ?_) (fun b2 h => ?_)
 ·refine zH<|zC<|zA (zD rfl)<|zF<|zd ?_
  cases h
  exact zu (zAH rfl rfl)
 refine zP<|zH<|zC<|zA (zD rfl)<|zF ?_
 refine zt (r:=r) (fun (i1:Int)=>mkE [(2,(AV.ptr 0 0)),(5,(li i1))]) (fun i1=>[.box 55 (zG J)]) (fun i1=>zFt J i1) ?_ ?_
 ·
  refine zH<|zC<|zA (zK Tryz.underlying55 rfl rfl Tryz.sizeOf53 rfl)<|zA (zN Tryz.isAgg53 rfl rfl rfl rfl)<|zA (zV Tryz.underlying53 rfl)<|zA (zB rfl) ?_
  refine zF<|zQ<|zq (σ:=Int×Int) (fun (i2,i3)=>mkE [(2,(AV.ptr 0 0)),(5,(li i2)),(22,(ls (cS cI) J.lists)),(23,(li (J.lists.length:Int))),(24,(li i3))]) (fun (i2,i3)=>[.box 55 (zG J)]) (fun n0 (i2,i3)=>zBs J n0 i2 i3) (0,0) h (fun _=>rfl) (z9 [0] rfl rfl (by kernel_rfl)) ?_
  clear h
  rintro n0 ⟨i2,i3⟩ h
  replace h:zDQ J (zBs J n0) i2 i3=some r:=h
  unfold zDQ at h
  refine zH<|zC<|zA (zf rfl rfl)<|zF<|zH ?_
  refine zX h rfl (fun b4 h => ?_) (fun b4 h => ?_)
  ·refine zP ?_
   refine zt (r:=r) (fun (_:Unit)=>mkE [(2,(AV.ptr 0 0)),(5,(li (i2+((at_ J.lists i3).length:Int)))),(22,(ls (cS cI) J.lists)),(23,(li (J.lists.length:Int))),(24,(li i3))]) (fun _=>[.box 55 (zG J)]) (fun _=>zHE (zBs J n0) J i2 i3) ?_ ?_
   ·
    refine zQ<|zH<|zC<|zM h fun b6 h=>zA (zT Tryz.underlying53 Tryz.sizeOf22 (fun _=>rfl) rfl rfl b6)<|zA (zU (o:=0) Tryz.isAgg22 rfl rfl) ?_
    refine zA (zD rfl)<|zF ?_
    refine zt (r:=r) (fun (_:Unit)=>mkE [(2,(AV.ptr 0 0)),(5,(li i2)),(7,(ls cI (at_ J.lists i3))),(22,(ls (cS cI) J.lists)),(23,(li (J.lists.length:Int))),(24,(li i3))]) (fun _=>[.box 55 (zG J)]) (fun _=>zHL (zBs J n0) J i2 i3) ?_ ?_
    ·
     refine zH<|zC<|zA (zB rfl)<|zA (zV Tryz.underlying22 rfl)<|zA (zB rfl)<|zF ?_
     refine zQ<|zq (σ:=Int) (fun i4=>mkE [(2,(AV.ptr 0 0)),(5,(li i2)),(7,(ls cI (at_ J.lists i3))),(22,(ls (cS cI) J.lists)),(23,(li (J.lists.length:Int))),(24,(li i3)),(28,(ls cI (at_ J.lists i3))),(29,(li ((at_ J.lists i3).length:Int))),(30,(li i4))]) (fun i4=>[.box 55 (zG J)]) (fun n1 i4=>zFs (zBs J n0) J i2 i3 n1 i4) 0 h (fun _=>rfl) (z9 [0] rfl rfl (by kernel_rfl)) ?_
     clear h
     intro n1 i4 h
     replace h:zDN (zBs J n0) J i2 i3 (zFs (zBs J n0) J i2 i3 n1) i4=some r:=h
     unfold zDN at h
     refine zH<|zC<|zA (zf rfl rfl)<|zF<|zH ?_
     refine zX h rfl (fun b8 h => ?_) (fun b8 h => ?_)
     ·refine zP<|zH<|zQ<|zH<|zC<|zM h fun b9 h => ?_
      refine zA (zT Tryz.underlying22 Tryz.sizeOf3 (fun _=>rfl) rfl rfl b9)<|zA (zU (o:=0) Tryz.isAgg3 rfl rfl)<|zA (zD rfl)<|zF<|zH<|zC ?_
      refine zA (zB rfl)<|zR h fun x2 w2 h=>zh Tryz.func88 rfl (by kernel_rfl) (.fn 88) rfl rfl (zHs w2) rfl<|zA (zBE (t:=x2) rfl)<|zF ?_
      refine zX h rfl (fun b10 h => ?_) (fun b10 h => ?_)
      ·refine zH<|zC<|zA (zD rfl)<|zF<|zd ?_
       cases h
       exact zu (zAH rfl rfl)
      refine zP<|zC<|zM h fun b11 h=>zA (ze rfl rfl b11)<|zA (zB rfl)<|zF ?_
      exact ⟨(i4+1),z9 [0] rfl rfl (by kernel_rfl),h⟩
     refine zw ?_
     exact ⟨(),z9 [0] rfl rfl (by kernel_rfl),h⟩
    clear h
    intro _ h
    unfold zHL at h
    refine zC<|zA (zB rfl)<|zA (zB rfl)<|zA (zV Tryz.underlying22 rfl)<|zM h fun b7 h=>zA (ze rfl rfl b7) ?_
    refine zA (zD rfl)<|zF ?_
    exact ⟨(),z9 [0] rfl rfl (by kernel_rfl),h⟩
   clear h
   intro _ h
   unfold zHE at h
   refine zC<|zM h fun b5 h=>zA (ze rfl rfl b5)<|zA (zB rfl)<|zF ?_
   exact ⟨((i2+((at_ J.lists i3).length:Int)),(i3+1)),z9 [0] rfl rfl (by kernel_rfl),h⟩
  refine zw ?_
  exact ⟨i2,z9 [0] rfl rfl (by kernel_rfl),h⟩
 clear h
 intro i1 h
 unfold zFt at h
 refine zH<|zH<|zC<|zA (zS (k:=0) (o:=0) (m:=1) Tryz.isAgg55 Tryz.sizeOf55 rfl rfl rfl rfl rfl)<|zR h fun x1 w1 h=>zNS (es:=mI Value.bool x1) (la:=[(AV.agg (zG J))]) (la':=[(AV.agg (zG J))]) (S:=[]) Tryz.func89 rfl (by kernel_rfl) (.fn 89) rfl ⟨zAs.nr rfl,trivial⟩ (zIc w1) ?_
 refine zA (zSM (k:=1) (g:=Value.bool) (l:=x1) Tryz.underlying58 rfl rfl)<|zA (zB rfl)<|zA (zz rfl rfl)<|zF ?_
 refine zX h rfl (fun b3 h => ?_) (fun b3 h => ?_)
 ·refine zH<|zC<|zA (zD rfl)<|zF<|zd ?_
  cases h
  exact zu (zAH rfl rfl)
 refine zP<|zH<|zC<|zA (zD rfl)<|zF<|zd ?_
 cases h
 exact zu (zAH rfl rfl)
theorem zLf {C:zi} {uI:Int} {r:Bool} (h:zC3 C uI=some r):PFn Tryz.prog 91 [(AV.agg (zO C)),(AV.rp [li uI] 0)] (AV.lit (.bool r)):=by
 refine zo Tryz.func91 rfl Tryz.ntmps91 Tryz.results91 rfl ?_
 unfold zC3 at h
 refine zH<|zC<|za (H':=[.box 51 (zO C)]) (zv (t:=51) rfl)<|zA (zD rfl)<|zF<|zH ?_
 refine zC<|zA (zU (o:=0) Tryz.isAgg3 rfl rfl)<|zA (zK Tryz.underlying51 rfl rfl Tryz.sizeOf3 rfl)<|zA (zN Tryz.isAgg3 rfl rfl rfl rfl)<|zA (zAw rfl rfl)<|zA (zB rfl) ?_
 refine zm rfl rfl (fun c1=>zp.step (zU (o:=0) Tryz.isAgg3 rfl rfl))<|zm rfl rfl (fun c2=>zp.step (zK Tryz.underlying51 rfl rfl Tryz.sizeOf3 rfl))<|zm rfl rfl (fun c3=>zp.step (zN Tryz.isAgg3 (z6 rfl c3) rfl rfl rfl))<|zm rfl rfl (fun c4=>zp.step (zK Tryz.underlying51 rfl rfl Tryz.sizeOf3 rfl))<|zm rfl rfl (fun c5=>zp.step (zN Tryz.isAgg3 (z6 rfl c5) rfl rfl rfl))<|zM h fun b1 h => ?_
 refine zm rfl rfl (fun c6=>zp.step (ze (z6 rfl c6) (z6 rfl c6) (zGy b1 c6)))<|zm rfl rfl (fun c7=>zp.step (zf (z6 rfl c7) (z6 rfl c7)))<|zA (zx (j := .lit undef) rfl rfl)<|zA (zD rfl)<|zF<|zd ?_
 cases h
 exact zu (zAH rfl rfl)
theorem zFy {X : List zi} {uC : zi → Option Bool} {g_a_f : FuncId} {cf_a_f : Func} {code_a_f : Code} {caps_a_f : List AV} (hcf_a_f : Tryz.prog.funcs[g_a_f]? = some cf_a_f) (hcb_a_f : cf_a_f.body = some code_a_f) (hcn_a_f : (cf_a_f.name == "runtime.NumGoroutine") = false) (hnr_a_f : caps_a_f.all nr = true) (hg_a_f : ∀ {x0 : zi} {y : Bool}, uC x0 = some y → PFn Tryz.prog g_a_f ((AV.agg (zO x0)) :: caps_a_f) (AV.lit (.bool y))) {r : Int} (h : zBH X uC = some r) : PFn Tryz.prog 90 [(ls zO X), (AV.clo g_a_f caps_a_f)] (li r) := by
 refine zo Tryz.func90 rfl Tryz.ntmps90 Tryz.results90 rfl ?_
 unfold zBH at h
 refine zH<|zC<|zA (zD rfl)<|zF ?_
 refine zt (r:=r) (fun (_:Unit)=>mkE []) (fun _=>[]) (fun _=>zBb ) ?_ ?_
 ·
  refine zH<|zC<|zA (zB rfl)<|zA (zV Tryz.underlying23 rfl)<|zA (zB rfl)<|zF ?_
  refine zQ<|zq (σ:=Int) (fun i1=>mkE [(0,(ls zO X)),(1,(AV.clo g_a_f caps_a_f)),(7,(li (X.length:Int))),(8,(li i1))]) (fun i1=>[]) (fun n0 i1=>zAg X uC n0 i1) 0 h (fun _=>rfl) (zB1 (n:=19) (m:=0) [] (l:=[(0,(ls zO X)),(1,(AV.clo g_a_f caps_a_f)),(7,(li (X.length:Int))),(8,(li 0))]) ⟨⟨Sub.refl _,by kernel_rfl⟩,⟨zFH hnr_a_f,zFI hnr_a_f⟩,⟨Sub.refl _,by kernel_rfl⟩,⟨Sub.refl _,by kernel_rfl⟩,trivial⟩ rfl rfl trivial) ?_
  clear h
  intro n0 i1 h
  replace h:zAJ X uC (zAg X uC n0) i1=some r:=h
  unfold zAJ at h
  refine zH<|zC<|zA (zf rfl rfl)<|zF<|zH ?_
  refine zX h rfl (fun b1 h => ?_) (fun b1 h => ?_)
  ·refine zP<|zH<|zQ<|zH<|zC<|zA (zB rfl) ?_
   refine zA (zD rfl)<|zF<|zH<|zC<|zA (zB rfl)<|zA (zB rfl) ?_
   refine zA (zB rfl)<|zM h fun b2 h=>zA (zT Tryz.underlying23 Tryz.sizeOf51 (fun _=>rfl) rfl rfl b2)<|zA (zAi (row:=(zO (at_ X i1))) (o:=0) (m:=10) (la:=(zO (at_ X i1))) Tryz.isAgg51 Tryz.sizeOf51 rfl rfl rfl)<|zR h fun x1 w1 h=>zA2 (S:=[]) hcf_a_f hcb_a_f hcn_a_f (.clo (caps:=caps_a_f) rfl) rfl (zEJ.c (zAs.nr rfl) (zEJ.nrs hnr_a_f)) (hg_a_f w1) (.inl rfl) rfl ?_
   refine zF ?_
   refine zX h rfl (fun b3 h => ?_) (fun b3 h => ?_)
   ·refine zH<|zC<|zA (zB rfl)<|zA (zD rfl)<|zF<|zd ?_
    cases h
    exact zu (zAH rfl rfl)
   refine zP<|zC<|zM h fun b4 h=>zA (ze rfl rfl b4)<|zA (zB rfl)<|zF ?_
   exact ⟨(i1+1),zB1 (n:=19) (m:=0) [] (l:=[(0,(ls zO X)),(1,(AV.clo g_a_f caps_a_f)),(7,(li (X.length:Int))),(8,(li (i1+1)))]) ⟨⟨Sub.refl _,by kernel_rfl⟩,⟨zFH hnr_a_f,zFI hnr_a_f⟩,⟨Sub.refl _,by kernel_rfl⟩,⟨Sub.refl _,by kernel_rfl⟩,trivial⟩ rfl rfl trivial,h⟩
  refine zw ?_
  exact ⟨(),z9 [] rfl rfl (by kernel_rfl),h⟩
 clear h
 intro _ h
 unfold zBb at h
 refine zH<|zC<|zA (zD rfl)<|zF<|zd ?_
 cases h
 exact zu (zAH rfl rfl)
theorem zFx {B:zJ} {U:Int} {r:Int} (h:zDB B U=some r):PFn Tryz.prog 44 [(AV.agg (zI B)),li U] (li r):=by
 refine zo Tryz.func44 rfl Tryz.ntmps44 Tryz.results44 rfl ?_
 unfold zDB at h
 refine zH<|zC<|za (H':=[.box 26 (zI B)]) (zv (t:=26) rfl)<|za (H':=[.box 26 (zI B),.box 3 [li U]]) (zJ4 (t:=3) (a:=(li U)) rfl rfl)<|zA (zD rfl)<|zF ?_
 refine zH<|zC<|zA (zK Tryz.underlying26 rfl rfl Tryz.sizeOf23 rfl)<|zA (zN Tryz.isAgg23 rfl rfl rfl rfl)<|zA (zMA (la:=[AV.ptr 1 0]) rfl)<|zR h fun x1 w1 h => ?_
 refine zA2 (r':=(li x1)) (la:=[ls zO B.zones,(AV.clo 91 [AV.ptr 1 0])]) (la':=[ls zO B.zones,(AV.clo 91 [(AV.rp [li U] 0)])]) (r:=(li x1)) (S:=[1]) Tryz.func90 rfl (by kernel_rfl) (.fn 90) rfl ⟨zAs.nr rfl,zAs.clo (⟨zAs.ptr (cs:=[li U]) rfl rfl rfl,trivial⟩),trivial⟩ (zFy Tryz.func91 rfl (by kernel_rfl) rfl (fun hy=>zLf  hy) w1) (.inr trivial) rfl<|zA (zD rfl)<|zF<|zd ?_
 cases h
 exact zu (zAH rfl rfl)
theorem zLa {C:zi} {U:Int} {r:Int×Int} (h:zHh C U=some r):PFn Tryz.prog 92 [(AV.agg (zO C)),li U] (AV.tup [li r.1,li r.2]):=by
 refine zo Tryz.func92 rfl Tryz.ntmps92 Tryz.results92 rfl ?_
 unfold zHh at h
 refine zH<|zC<|za (H':=[.box 51 (zO C)]) (zv (t:=51) rfl)<|zA (zD rfl)<|zA (zD rfl)<|zF ?_
 refine zt (r:=r) (fun (_:Unit)=>mkE []) (fun _=>[]) (fun _=>zJ0 ) ?_ ?_
 ·
  refine zH<|zC<|zA (zB rfl)<|zF<|zQ<|zq (σ:=Int) (fun i1=>mkE [(1,(li U)),(2,(AV.ptr 0 0)),(10,(li i1))]) (fun i1=>[.box 51 (zO C)]) (fun n0 i1=>zEK C U n0 i1) 0 h (fun _=>rfl) (z9 [0] rfl rfl (by kernel_rfl)) ?_
  clear h
  intro n0 i1 h
  replace h:zDr C U (zEK C U n0) i1=some r:=h
  unfold zDr at h
  refine zH<|zC<|zA (zf rfl rfl)<|zF<|zH ?_
  refine zX h rfl (fun b1 h => ?_) (fun b1 h => ?_)
  ·refine zP<|zH<|zQ<|zH<|zC<|zA (zB rfl) ?_
   refine zA (zD rfl)<|zF<|zH<|zC<|zA (zB rfl)<|zA (zB rfl) ?_
   refine zM h fun b2 h=>zM h fun b3 h=>zA (zCw (a:=1) (b:=i1) rfl rfl b2 b3)<|zM h fun b4 h=>zA (zBS rfl rfl b4)<|zA (zQW (k := .i64) (a:=U) (b:=((1:Int)*2 ^ i1.toNat) - 1) rfl rfl) ?_
   refine zA (zD rfl)<|zF<|zH<|zC<|zA (zB rfl)<|zA (zK Tryz.underlying51 rfl rfl Tryz.sizeOf49 rfl) ?_
   refine zM h fun b5 h=>zA (zAO (m:=5) (s:=1) (i:=i1) (k:=0) (o:=5) Tryz.underlying49 Tryz.sizeOf22 rfl rfl b5)<|zA (zAm (k:=0) (o:=(5+i1.toNat*1)) (cs:=(zO C)) (hd:=([li C.node]++[li C.kind]++[li C.start]++[li C.count]++[li C.min]++[])) (tl:=([])) (g:=(eS cI)) (d0:=([]:List Int)) (l:=C.free) (N:=5) (i:=i1.toNat) (a:=(ls cI (C.free.getD i1.toNat ([]:List Int)))) Tryz.isAgg22 rfl rfl rfl (congrArg (fun q=>5+q) (Nat.mul_one _)) (zBW b5).2 rfl rfl)<|zA (zB rfl)<|zR h fun x1 w1 h=>zh Tryz.func87 rfl (by kernel_rfl) (.fn 87) rfl rfl (zBB w1) rfl ?_
   refine zA (zB rfl)<|zA (zb rfl rfl)<|zA (zb rfl rfl)<|zA (zD rfl)<|zA (zD rfl)<|zF ?_
   refine zH<|zC<|zA (zB rfl)<|zF ?_
   refine zX h rfl (fun b6 h => ?_) (fun b6 h => ?_)
   ·refine zH<|zC<|zA (zB rfl)<|zA (zB rfl)<|zA (zD rfl)<|zA (zD rfl) ?_
    refine zF<|zd ?_
    cases h
    exact zBy (zAH rfl rfl) (zAH rfl rfl) rfl
   refine zP<|zC<|zM h fun b7 h=>zA (ze rfl rfl b7)<|zA (zB rfl)<|zF ?_
   exact ⟨(i1+1),z9 [0] rfl rfl (by kernel_rfl),h⟩
  refine zw ?_
  exact ⟨(),z9 [] rfl rfl (by kernel_rfl),h⟩
 clear h
 intro _ h
 unfold zJ0 at h
 refine zH<|zC<|zA (zD rfl)<|zA (zD rfl)<|zF<|zd ?_
 cases h
 exact zBy (zAH rfl rfl) (zAH rfl rfl) rfl
theorem zKk {C:zi} {U:Int} {r:Bool} (h:zGr C U=some r):PFn Tryz.prog 45 [(AV.agg (zO C)),li U] (AV.lit (.bool r)):=by
 refine zo Tryz.func45 rfl Tryz.ntmps45 Tryz.results45 rfl ?_
 unfold zGr at h
 refine zH<|zC<|za (H':=[.box 51 (zO C)]) (zv (t:=51) rfl)<|zA (zD rfl)<|zF<|zH ?_
 refine zH<|zC<|zA (zS (k:=0) (o:=0) (m:=10) Tryz.isAgg51 Tryz.sizeOf51 rfl rfl rfl rfl rfl)<|zR h fun x1 w1 h=>zh Tryz.func42 rfl (by kernel_rfl) (.fn 42) rfl rfl (zFA w1) rfl<|zA (zz rfl rfl) ?_
 refine zA (zB rfl)<|zW rfl rfl (fun c1=>zp.step (zS (k:=0) (o:=0) (m:=10) Tryz.isAgg51 Tryz.sizeOf51 rfl rfl rfl rfl rfl))<|zW rfl rfl (fun c2=>zp.step (zB rfl))<|zR h fun x2 w2 h=>zCv (g:=10) (s := !decide (x1=0)) (r':=(AV.lit (.bool x2))) rfl rfl (fun c3=>⟨86,_,_,[],[(AV.agg (zO C)),li U,li 0],[(AV.agg ([li C.node,li C.kind,li C.start,li C.count,li C.min]++([AV.any,AV.any,AV.any,AV.any,AV.any]++[]))),li U,li 0],(AV.lit (.bool x2)),[],Tryz.func86,rfl,by kernel_rfl,.fn 86,(zAM (z6 rfl c3) (zAM (z6 rfl c3) (zAM rfl rfl))),⟨zMO (hd:=([li C.node]++[li C.kind]++[li C.start]++[li C.count]++[li C.min])) (tl:=((cA 5 (eS cI) ([]:List Int) C.free))) rfl,zAs.nr rfl,zAs.nr rfl,trivial⟩,zFk (zGm c3 w2),.inl rfl,rfl⟩)<|zW rfl rfl (fun c4=>zp.step (zBE (t:=x2) (z6 rfl c4))) ?_
 refine zA (zg rfl rfl)<|zF ?_
 refine zX h rfl (fun b1 h => ?_) (fun b1 h => ?_)
 ·refine zH<|zC<|zA (zD rfl)<|zF<|zd ?_
  cases h
  exact zu (zAH rfl rfl)
 refine zP<|zH<|zC<|zA (zS (k:=0) (o:=0) (m:=10) Tryz.isAgg51 Tryz.sizeOf51 rfl rfl rfl rfl rfl)<|zA (zB rfl)<|zR h fun x3 w3 h => ?_
 refine zh Tryz.func92 rfl (by kernel_rfl) (.fn 92) rfl rfl (zLa w3) rfl<|zA (zB rfl)<|zA (zb rfl rfl)<|zA (zb rfl rfl)<|zA (zD rfl)<|zA (zD rfl) ?_
 refine zF<|zH<|zC<|zA (zB rfl)<|zA (zAw rfl rfl)<|zA (zD rfl) ?_
 refine zF<|zd ?_
 cases h
 exact zu (zAH rfl rfl)
theorem zBD {A:zJ} {r:Int} (h:zA0 A=some r):PFn Tryz.prog 13 [(AV.agg (zI A))] (li r):=by
 refine zo Tryz.func13 rfl Tryz.ntmps13 Tryz.results13 rfl ?_
 unfold zA0 at h
 refine zH<|zC<|za (H':=[.box 26 (zI A)]) (zv (t:=26) rfl)<|zA (zD rfl)<|zF<|zH ?_
 refine zH<|zC<|zA (zS (k:=0) (o:=0) (m:=5) Tryz.isAgg26 Tryz.sizeOf26 rfl rfl rfl rfl rfl)<|zR h fun x1 w1 h=>zh Tryz.func41 rfl (by kernel_rfl) (.fn 41) rfl rfl (zIs w1) rfl<|zA (zBE (t:=x1) rfl) ?_
 refine zF ?_
 refine zX h rfl (fun b1 h => ?_) (fun b1 h => ?_)
 ·refine zH<|zC<|zA (zD rfl)<|zF<|zd ?_
  cases h
  exact zu (zAH rfl rfl)
 refine zP<|zH<|zC<|zA (zD rfl)<|zF ?_
 refine zt (r:=r) (fun (_:Unit)=>mkE [(1,(AV.ptr 0 0))]) (fun _=>[.box 26 (zI A)]) (fun _=>zDf A) ?_ ?_
 ·
  refine zH<|zC<|zA (zK Tryz.underlying26 rfl rfl Tryz.sizeOf23 rfl)<|zA (zN Tryz.isAgg23 rfl rfl rfl rfl)<|zA (zV Tryz.underlying23 rfl)<|zA (zB rfl) ?_
  refine zF<|zQ<|zq (σ:=Int×Int) (fun (i6,i7)=>mkE [(1,(AV.ptr 0 0)),(3,(li i6)),(23,(ls zO A.zones)),(24,(li (A.zones.length:Int))),(25,(li i7))]) (fun (i6,i7)=>[.box 26 (zI A)]) (fun n5 (i6,i7)=>zDY A n5 i6 i7) (0,0) h (fun _=>rfl) (z9 [0] rfl rfl (by kernel_rfl)) ?_
  clear h
  rintro n5 ⟨i6,i7⟩ h
  replace h:zCP A (zDY A n5) i6 i7=some r:=h
  unfold zCP at h
  refine zH<|zC<|zA (zf rfl rfl)<|zF<|zH ?_
  refine zX h rfl (fun b23 h => ?_) (fun b23 h => ?_)
  ·refine zP<|zH<|zQ<|zH<|zC<|zM h fun b24 h => ?_
   refine zA (zT Tryz.underlying23 Tryz.sizeOf51 (fun _=>rfl) rfl rfl b24)<|zA (zAi (row:=(zO (at_ A.zones i7))) (o:=0) (m:=10) (la:=(zO (at_ A.zones i7))) Tryz.isAgg51 Tryz.sizeOf51 rfl rfl rfl)<|za (H':=[.box 26 (zI A),.box 51 (zO ⟨0,0,0,0,0,(List.replicate 5 ([]:List Int))⟩)]) zv0<|zj (H':=[.box 26 (zI A),.box 51 (zO (at_ A.zones i7))]) (zY (k:=1) (o:=0) (cs:=(zO ⟨0,0,0,0,0,(List.replicate 5 ([]:List Int))⟩)) (la:=(zO (at_ A.zones i7))) Tryz.sizeOf51 rfl rfl rfl rfl)<|zF<|zH ?_
   refine zH<|zC<|zA (zS (k:=1) (o:=0) (m:=10) Tryz.isAgg51 Tryz.sizeOf51 rfl rfl rfl rfl rfl)<|zR h fun x5 w5 h=>zh Tryz.func42 rfl (by kernel_rfl) (.fn 42) rfl rfl (zFA w5) rfl<|zA (zD rfl) ?_
   refine zF<|zH<|zC<|zA (zB rfl)<|zA (zz rfl rfl)<|zF ?_
   refine zX h rfl (fun b25 h => ?_) (fun b25 h => ?_)
   ·refine zH<|zC<|zA (zB rfl)<|zA (zD rfl)<|zF<|zd ?_
    cases h
    exact zu (zAH rfl rfl)
   refine zP<|zH<|zH<|zC<|zA (zK Tryz.underlying51 rfl rfl Tryz.sizeOf3 rfl)<|zA (zN Tryz.isAgg3 rfl rfl rfl rfl) ?_
   refine zA (zB rfl)<|zA (zz rfl rfl)<|zF ?_
   refine zX h rfl (fun b26 h => ?_) (fun b26 h => ?_)
   ·refine zH<|zC<|zA (zD rfl)<|zF<|zd ?_
    cases h
    exact zu (zAH rfl rfl)
   refine zP<|zC<|zA (zB rfl)<|zA (zK Tryz.underlying51 rfl rfl Tryz.sizeOf3 rfl)<|zA (zN Tryz.isAgg3 rfl rfl rfl rfl)<|zM h fun b27 h => ?_
   refine zA (ze rfl rfl b27)<|zA (zD rfl)<|zF<|zC<|zM h fun b28 h=>zA (ze rfl rfl b28) ?_
   refine zA (zB rfl)<|zF ?_
   exact ⟨((i6+((at_ A.zones i7).count)),(i7+1)),z9 [0] rfl rfl (by kernel_rfl),h⟩
  refine zw ?_
  exact ⟨(),z9 [0] rfl rfl (by kernel_rfl),h⟩
 clear h
 intro _ h
 unfold zDf at h
 refine zH<|zH<|zC<|zA (zK Tryz.underlying26 rfl rfl Tryz.sizeOf24 rfl)<|zA (zN Tryz.isAgg24 rfl rfl rfl rfl)<|zA (zV Tryz.underlying24 rfl) ?_
 refine zA (zK Tryz.underlying26 rfl rfl Tryz.sizeOf22 rfl)<|zA (zN Tryz.isAgg22 rfl rfl rfl rfl)<|zA (zV Tryz.underlying22 rfl)<|zA (zz rfl rfl)<|zF ?_
 refine zX h rfl (fun b2 h => ?_) (fun b2 h => ?_)
 ·refine zH<|zC<|zA (zD rfl)<|zF<|zd ?_
  cases h
  exact zu (zAH rfl rfl)
 refine zP ?_
 refine zt (r:=r) (fun (_:Unit)=>mkE [(1,(AV.ptr 0 0))]) (fun _=>[.box 26 (zI A)]) (fun _=>zDW A) ?_ ?_
 ·
  refine zH<|zC<|zA (zK Tryz.underlying26 rfl rfl Tryz.sizeOf24 rfl)<|zA (zN Tryz.isAgg24 rfl rfl rfl rfl)<|zA (zV Tryz.underlying24 rfl)<|zA (zB rfl) ?_
  refine zF<|zQ<|zq (σ:=Int) (fun i4=>mkE [(1,(AV.ptr 0 0)),(51,(ls zG A.caches)),(52,(li (A.caches.length:Int))),(53,(li i4))]) (fun i4=>[.box 26 (zI A)]) (fun n3 i4=>zBT A n3 i4) 0 h (fun _=>rfl) (z9 [0] rfl rfl (by kernel_rfl)) ?_
  clear h
  intro n3 i4 h
  replace h:zCC A (zBT A n3) i4=some r:=h
  unfold zCC at h
  refine zH<|zC<|zA (zf rfl rfl)<|zF<|zH ?_
  refine zX h rfl (fun b15 h => ?_) (fun b15 h => ?_)
  ·refine zP ?_
   refine zt (r:=r) (fun (_:Unit)=>mkE [(1,(AV.ptr 0 0)),(51,(ls zG A.caches)),(52,(li (A.caches.length:Int))),(53,(li i4))]) (fun _=>[.box 26 (zI A)]) (fun _=>zFJ (zBT A n3) i4) ?_ ?_
   ·
    refine zQ<|zH<|zC<|zM h fun b17 h=>zA (zT Tryz.underlying24 Tryz.sizeOf55 (fun _=>rfl) rfl rfl b17)<|zA (zAi (row:=(zG (at_ A.caches i4))) (o:=0) (m:=1) (la:=(zG (at_ A.caches i4))) Tryz.isAgg55 Tryz.sizeOf55 rfl rfl rfl) ?_
    refine za (H':=[.box 26 (zI A),.box 55 [(ls (cS cI) ([]:List (List Int)))]]) zv1<|zj (H':=[.box 26 (zI A),.box 55 (zG (at_ A.caches i4))]) (zY (k:=1) (o:=0) (cs:=[(ls (cS cI) ([]:List (List Int)))]) (la:=(zG (at_ A.caches i4))) Tryz.sizeOf55 rfl rfl rfl rfl)<|zF<|zH<|zH<|zC ?_
    refine zA (zS (k:=1) (o:=0) (m:=1) Tryz.isAgg55 Tryz.sizeOf55 rfl rfl rfl rfl rfl)<|zA (zK Tryz.underlying26 rfl rfl Tryz.sizeOf23 rfl)<|zA (zN Tryz.isAgg23 rfl rfl rfl rfl)<|zA (zV Tryz.underlying23 rfl)<|zR h fun x4 w4 h=>zh Tryz.func43 rfl (by kernel_rfl) (.fn 43) rfl rfl (zK6 w4) rfl ?_
    refine zA (zD rfl)<|zF<|zH<|zC<|zA (zB rfl)<|zA (zz rfl rfl) ?_
    refine zF ?_
    refine zX h rfl (fun b18 h => ?_) (fun b18 h => ?_)
    ·refine zH<|zC<|zA (zB rfl)<|zA (zD rfl)<|zF<|zd ?_
     cases h
     exact zu (zAH rfl rfl)
    refine zP<|zH<|zC<|zA (zK Tryz.underlying55 rfl rfl Tryz.sizeOf53 rfl)<|zA (zN Tryz.isAgg53 rfl rfl rfl rfl)<|zA (zV Tryz.underlying53 rfl) ?_
    refine zA (zB rfl)<|zF<|zQ<|zq (σ:=Int) (fun i5=>mkE [(1,(AV.ptr 0 0)),(51,(ls zG A.caches)),(52,(li (A.caches.length:Int))),(53,(li i4)),(66,(ls (cS cI) ((at_ A.caches i4).lists))),(67,(li (((at_ A.caches i4).lists).length:Int))),(68,(li i5))]) (fun i5=>[.box 26 (zI A)]) (fun n4 i5=>zDg (zBT A n3) A i4 n4 i5) 0 h (fun _=>rfl) (z9 [0] rfl rfl (by kernel_rfl)) ?_
    clear h
    intro n4 i5 h
    replace h:zCN (zBT A n3) A i4 (zDg (zBT A n3) A i4 n4) i5=some r:=h
    unfold zCN at h
    refine zH<|zC<|zA (zf rfl rfl)<|zF<|zH ?_
    refine zX h rfl (fun b19 h => ?_) (fun b19 h => ?_)
    ·refine zP<|zH<|zQ<|zH<|zC<|zM h fun b20 h => ?_
     refine zA (zT Tryz.underlying53 Tryz.sizeOf22 (fun _=>rfl) rfl rfl b20)<|zA (zU (o:=0) Tryz.isAgg22 rfl rfl)<|zA (zD rfl)<|zF<|zH<|zC ?_
     refine zA (zB rfl)<|zA (zV Tryz.underlying22 rfl)<|zA (zK Tryz.underlying26 rfl rfl Tryz.sizeOf3 rfl)<|zA (zN Tryz.isAgg3 rfl rfl rfl rfl)<|zA (zAh rfl rfl)<|zF ?_
     refine zX h rfl (fun b21 h => ?_) (fun b21 h => ?_)
     ·refine zH<|zC<|zA (zD rfl)<|zF<|zd ?_
      cases h
      exact zu (zAH rfl rfl)
     refine zP<|zC<|zM h fun b22 h=>zA (ze rfl rfl b22)<|zA (zB rfl)<|zF ?_
     exact ⟨(i5+1),z9 [0] rfl rfl (by kernel_rfl),h⟩
    refine zw ?_
    exact ⟨(),z9 [0] rfl rfl (by kernel_rfl),h⟩
   clear h
   intro _ h
   unfold zFJ at h
   refine zC<|zM h fun b16 h=>zA (ze rfl rfl b16)<|zA (zB rfl)<|zF ?_
   exact ⟨(i4+1),z9 [0] rfl rfl (by kernel_rfl),h⟩
  refine zw ?_
  exact ⟨(),z9 [0] rfl rfl (by kernel_rfl),h⟩
 clear h
 intro _ h
 unfold zDW at h
 refine zH<|zC<|za (H':=[.box 26 (zI A),.map (mI Value.bool ([]:List (Int×Bool)))]) (zMB)<|zA (zD rfl)<|zF ?_
 refine zt (r:=r) (fun (_:Unit)=>mkE []) (fun _=>[]) (fun _=>zHM ) ?_ ?_
 ·
  refine zH<|zC<|zA (zK Tryz.underlying26 rfl rfl Tryz.sizeOf24 rfl)<|zA (zN Tryz.isAgg24 rfl rfl rfl rfl)<|zA (zV Tryz.underlying24 rfl)<|zA (zB rfl) ?_
  refine zF<|zQ<|zq (σ:=Int×(List (Int×Bool))) (fun (i1,l1)=>mkE [(1,(AV.ptr 0 0)),(12,(AV.hd 1)),(81,(ls zG A.caches)),(82,(li (A.caches.length:Int))),(83,(li i1))]) (fun (i1,l1)=>[.box 26 (zI A),.map (mI Value.bool l1)]) (fun n0 (i1,l1)=>zAV A n0 i1 l1) (0,([]:List (Int×Bool))) h (fun _=>rfl) (z9 [0,1] rfl rfl (by kernel_rfl)) ?_
  clear h
  rintro n0 ⟨i1,l1⟩ h
  replace h:zCH A (zAV A n0) i1 l1=some r:=h
  unfold zCH at h
  refine zH<|zC<|zA (zf rfl rfl)<|zF<|zH ?_
  refine zX h rfl (fun b3 h => ?_) (fun b3 h => ?_)
  ·refine zP ?_
   refine zt (r:=r) (fun (l2:List (Int×Bool))=>mkE [(1,(AV.ptr 0 0)),(12,(AV.hd 1)),(81,(ls zG A.caches)),(82,(li (A.caches.length:Int))),(83,(li i1))]) (fun l2=>[.box 26 (zI A),.map (mI Value.bool l2)]) (fun l2=>zFT (zAV A n0) i1 l2) ?_ ?_
   ·
    refine zQ<|zH<|zC<|zM h fun b5 h=>zA (zT Tryz.underlying24 Tryz.sizeOf55 (fun _=>rfl) rfl rfl b5)<|zA (zAi (row:=(zG (at_ A.caches i1))) (o:=0) (m:=1) (la:=(zG (at_ A.caches i1))) Tryz.isAgg55 Tryz.sizeOf55 rfl rfl rfl) ?_
    refine za (H':=[.box 26 (zI A),.map (mI Value.bool l1),.box 55 [(ls (cS cI) ([]:List (List Int)))]]) zv1<|zj (H':=[.box 26 (zI A),.map (mI Value.bool l1),.box 55 (zG (at_ A.caches i1))]) (zY (k:=2) (o:=0) (cs:=[(ls (cS cI) ([]:List (List Int)))]) (la:=(zG (at_ A.caches i1))) Tryz.sizeOf55 rfl rfl rfl rfl)<|zF<|zH<|zC<|zA (zK Tryz.underlying55 rfl rfl Tryz.sizeOf53 rfl) ?_
    refine zA (zN Tryz.isAgg53 rfl rfl rfl rfl)<|zA (zV Tryz.underlying53 rfl)<|zA (zB rfl)<|zF<|zQ<|zq (σ:=Int×(List (Int×Bool))) (fun (i2,l3)=>mkE [(1,(AV.ptr 0 0)),(12,(AV.hd 1)),(81,(ls zG A.caches)),(82,(li (A.caches.length:Int))),(83,(li i1)),(88,(ls (cS cI) ((at_ A.caches i1).lists))),(89,(li (((at_ A.caches i1).lists).length:Int))),(90,(li i2))]) (fun (i2,l3)=>[.box 26 (zI A),.map (mI Value.bool l3)]) (fun n1 (i2,l3)=>zAp (zAV A n0) A i1 n1 i2 l3) (0,l1) h (fun _=>rfl) (z9 [0,1] rfl rfl (by kernel_rfl)) ?_
    clear h
    rintro n1 ⟨i2,l3⟩ h
    replace h:zCF (zAV A n0) A i1 (zAp (zAV A n0) A i1 n1) i2 l3=some r:=h
    unfold zCF at h
    refine zH<|zC<|zA (zf rfl rfl)<|zF<|zH ?_
    refine zX h rfl (fun b6 h => ?_) (fun b6 h => ?_)
    ·refine zP ?_
     refine zt (r:=r) (fun (l4:List (Int×Bool))=>mkE [(1,(AV.ptr 0 0)),(12,(AV.hd 1)),(81,(ls zG A.caches)),(82,(li (A.caches.length:Int))),(83,(li i1)),(88,(ls (cS cI) ((at_ A.caches i1).lists))),(89,(li (((at_ A.caches i1).lists).length:Int))),(90,(li i2))]) (fun l4=>[.box 26 (zI A),.map (mI Value.bool l4)]) (fun l4=>zFK (zAp (zAV A n0) A i1 n1) i2 l4) ?_ ?_
     ·
      refine zQ<|zH<|zC<|zA (zB rfl)<|zM h fun b8 h=>zA (zT Tryz.underlying53 Tryz.sizeOf22 (fun _=>rfl) rfl rfl b8) ?_
      refine zA (zU (o:=0) Tryz.isAgg22 rfl rfl)<|zA (zD rfl)<|zA (zD rfl)<|zF<|zH<|zC ?_
      refine zA (zB rfl)<|zA (zV Tryz.underlying22 rfl)<|zA (zB rfl)<|zF<|zQ<|zq (σ:=Int×(List (Int×Bool))) (fun (i3,l5)=>mkE [(1,(AV.ptr 0 0)),(12,(AV.hd 1)),(15,(li i2)),(81,(ls zG A.caches)),(82,(li (A.caches.length:Int))),(83,(li i1)),(88,(ls (cS cI) ((at_ A.caches i1).lists))),(89,(li (((at_ A.caches i1).lists).length:Int))),(90,(li i2)),(95,(ls cI (at_ ((at_ A.caches i1).lists) i2))),(96,(li ((at_ ((at_ A.caches i1).lists) i2).length:Int))),(97,(li i3))]) (fun (i3,l5)=>[.box 26 (zI A),.map (mI Value.bool l5)]) (fun n2 (i3,l5)=>zBq (zAp (zAV A n0) A i1 n1) A i1 i2 n2 i3 l5) (0,l3) h (fun _=>rfl) (z9 [0,1] rfl rfl (by kernel_rfl)) ?_
      clear h
      rintro n2 ⟨i3,l5⟩ h
      replace h:zCE (zAp (zAV A n0) A i1 n1) A i1 i2 (zBq (zAp (zAV A n0) A i1 n1) A i1 i2 n2) i3 l5=some r:=h
      unfold zCE at h
      refine zH<|zC<|zA (zf rfl rfl)<|zF<|zH ?_
      refine zX h rfl (fun b9 h => ?_) (fun b9 h => ?_)
      ·refine zP<|zH<|zQ<|zH<|zC<|zM h fun b10 h => ?_
       refine zA (zT Tryz.underlying22 Tryz.sizeOf3 (fun _=>rfl) rfl rfl b10)<|zA (zU (o:=0) Tryz.isAgg3 rfl rfl)<|zA (zD rfl)<|zF<|zH<|zH ?_
       refine zC<|zA (zS (k:=0) (o:=0) (m:=5) Tryz.isAgg26 Tryz.sizeOf26 rfl rfl rfl rfl rfl)<|zA (zB rfl)<|zR h fun x2 w2 h=>zh Tryz.func44 rfl (by kernel_rfl) (.fn 44) rfl rfl (zFx w2) rfl<|zA (zB rfl) ?_
       refine zA (zz rfl rfl)<|zF ?_
       refine zX h rfl (fun b11 h => ?_) (fun b11 h => ?_)
       ·refine zH<|zC<|zA (zD rfl)<|zF<|zd ?_
        cases h
        exact zu (zAH rfl rfl)
       refine zP<|zH<|zH<|zC<|zA (zB rfl)<|zA (zB rfl) ?_
       refine zA (zNp (k:=1) (g:=Value.bool) (q:=at_ (at_ ((at_ A.caches i1).lists) i2) i3) (l:=l5) (dflt:=false) (a:=(AV.lit (.bool (zM0 false l5 (at_ (at_ ((at_ A.caches i1).lists) i2) i3))))) Tryz.underlying58 Tryz.underlying3 Tryz.zeroValue4 rfl rfl rfl rfl)<|zA (zB rfl)<|zW rfl rfl (fun c1=>zp.step (zK Tryz.underlying26 rfl rfl Tryz.sizeOf23 rfl))<|zW rfl rfl (fun c2=>zp.step (zN Tryz.isAgg23 (z6 rfl c2) rfl rfl rfl))<|zW rfl rfl (fun c3=>zp.step (zB rfl))<|zM h fun b12 h => ?_
       refine zW rfl rfl (fun c4=>zp.step (zT Tryz.underlying23 Tryz.sizeOf51 (fun _=>rfl) (z6 rfl c4) (z6 rfl c4) (zGy b12 c4)))<|zW rfl rfl (fun c5=>zp.step (zAi (row:=(zO (at_ A.zones i2))) (o:=0) (m:=10) (la:=(zO (at_ A.zones i2))) Tryz.isAgg51 Tryz.sizeOf51 (z6 rfl c5) rfl rfl))<|zW rfl rfl (fun c6=>zp.step (zB rfl))<|zR h fun x3 w3 h=>zCv (g:=109) (s:=zM0 false l5 (at_ (at_ ((at_ A.caches i1).lists) i2) i3)) (r':=(AV.lit (.bool x3))) rfl rfl (fun c7=>⟨45,_,_,[],[(AV.agg (zO (at_ A.zones i2))),(li (at_ (at_ ((at_ A.caches i1).lists) i2) i3))],[(AV.agg (zO (at_ A.zones i2))),(li (at_ (at_ ((at_ A.caches i1).lists) i2) i3))],(AV.lit (.bool x3)),[],Tryz.func45,rfl,by kernel_rfl,.fn 45,(zAM (z6 rfl c7) (zAM (z6 rfl c7) rfl)),⟨zAs.nr rfl,zAs.nr rfl,trivial⟩,zKk (zGm c7 w3),.inl rfl,rfl⟩)<|zA (zg rfl rfl) ?_
       refine zF ?_
       refine zX h rfl (fun b13 h => ?_) (fun b13 h => ?_)
       ·refine zH<|zC<|zA (zD rfl)<|zF<|zd ?_
        cases h
        exact zu (zAH rfl rfl)
       refine zP<|zC<|zA (zB rfl)<|zA (zB rfl)<|zj (H':=[.box 26 (zI A),.map (mI Value.bool (zKg l5 (at_ (at_ ((at_ A.caches i1).lists) i2) i3) true))]) (zNn (k:=1) (g:=Value.bool) (q:=at_ (at_ ((at_ A.caches i1).lists) i2) i3) (l:=l5) (v:=true) Tryz.underlying58 Tryz.underlying3 rfl rfl rfl rfl)<|zF ?_
       refine zC<|zM h fun b14 h=>zA (ze rfl rfl b14)<|zA (zB rfl)<|zF ?_
       exact ⟨((i3+1),(zKg l5 (at_ (at_ ((at_ A.caches i1).lists) i2) i3) true)),z9 [0,1] rfl rfl (by kernel_rfl),h⟩
      refine zw ?_
      exact ⟨l5,z9 [0,1] rfl rfl (by kernel_rfl),h⟩
     clear h
     intro l4 h
     unfold zFK at h
     refine zC<|zM h fun b7 h=>zA (ze rfl rfl b7)<|zA (zB rfl)<|zF ?_
     exact ⟨((i2+1),l4),z9 [0,1] rfl rfl (by kernel_rfl),h⟩
    refine zw ?_
    exact ⟨l3,z9 [0,1] rfl rfl (by kernel_rfl),h⟩
   clear h
   intro l2 h
   unfold zFT at h
   refine zC<|zM h fun b4 h=>zA (ze rfl rfl b4)<|zA (zB rfl)<|zF ?_
   exact ⟨((i1+1),l2),z9 [0,1] rfl rfl (by kernel_rfl),h⟩
  refine zw ?_
  exact ⟨(),z9 [] rfl rfl (by kernel_rfl),h⟩
 clear h
 intro _ h
 unfold zHM at h
 refine zH<|zC<|zA (zD rfl)<|zF<|zd ?_
 cases h
 exact zu (zAH rfl rfl)
theorem zLm {B:zJ} {r:Int} (h:zIg B=some r):PFn Tryz.prog 15 [(AV.agg (zI B))] (li r):=by
 refine zo Tryz.func15 rfl Tryz.ntmps15 Tryz.results15 rfl ?_
 unfold zIg at h
 refine zH<|zC<|za (H':=[.box 26 (zI B)]) (zv (t:=26) rfl)<|zA (zD rfl)<|zF<|zH ?_
 refine zH<|zC<|zA (zS (k:=0) (o:=0) (m:=5) Tryz.isAgg26 Tryz.sizeOf26 rfl rfl rfl rfl rfl)<|zR h fun x1 w1 h=>zh Tryz.func13 rfl (by kernel_rfl) (.fn 13) rfl rfl (zBD w1) rfl<|zA (zz rfl rfl) ?_
 refine zF ?_
 refine zX h rfl (fun b1 h => ?_) (fun b1 h => ?_)
 ·refine zH<|zC<|zA (zD rfl)<|zF<|zd ?_
  cases h
  exact zu (zAH rfl rfl)
 refine zP<|zH<|zC<|zA (zK Tryz.underlying26 rfl rfl Tryz.sizeOf23 rfl)<|zA (zN Tryz.isAgg23 rfl rfl rfl rfl)<|zA (zK Tryz.underlying26 rfl rfl Tryz.sizeOf23 rfl) ?_
 refine zA (zN Tryz.isAgg23 rfl rfl rfl rfl)<|zA (zV Tryz.underlying23 rfl)<|zM h fun b2 h=>zA (zBS rfl rfl b2)<|zM h fun b3 h=>zA (zT Tryz.underlying23 Tryz.sizeOf51 (fun _=>rfl) rfl rfl b3) ?_
 refine zA (zAi (row:=(zO (at_ B.zones ((B.zones.length:Int) - 1)))) (o:=0) (m:=10) (la:=(zO (at_ B.zones ((B.zones.length:Int) - 1)))) Tryz.isAgg51 Tryz.sizeOf51 rfl rfl rfl)<|za (H':=[.box 26 (zI B),.box 51 (zO ⟨0,0,0,0,0,(List.replicate 5 ([]:List Int))⟩)]) zv0<|zj (H':=[.box 26 (zI B),.box 51 (zO (at_ B.zones ((B.zones.length:Int) - 1)))]) (zY (k:=1) (o:=0) (cs:=(zO ⟨0,0,0,0,0,(List.replicate 5 ([]:List Int))⟩)) (la:=(zO (at_ B.zones ((B.zones.length:Int) - 1)))) Tryz.sizeOf51 rfl rfl rfl rfl)<|zF<|zH<|zC ?_
 refine zA (zK Tryz.underlying51 rfl rfl Tryz.sizeOf3 rfl)<|zA (zN Tryz.isAgg3 rfl rfl rfl rfl)<|zA (zK Tryz.underlying51 rfl rfl Tryz.sizeOf3 rfl)<|zA (zN Tryz.isAgg3 rfl rfl rfl rfl)<|zM h fun b4 h=>zA (ze rfl rfl b4) ?_
 refine zA (zD rfl)<|zF<|zd ?_
 cases h
 exact zu (zAH rfl rfl)
theorem zMu {C:zi} {V:Int} {r:Int} (h:zH5 C V=some r):PFn Tryz.prog 133 [(AV.agg (zO C)),li V] (li r):=by
 refine zo Tryz.func133 rfl Tryz.ntmps133 Tryz.results133 rfl ?_
 unfold zH5 at h
 refine zH<|zC<|za (H':=[.box 51 (zO C)]) (zv (t:=51) rfl)<|zA (zD rfl)<|zF<|zH ?_
 refine zH<|zC<|zA (zS (k:=0) (o:=0) (m:=10) Tryz.isAgg51 Tryz.sizeOf51 rfl rfl rfl rfl rfl)<|zR h fun x1 w1 h=>zh Tryz.func42 rfl (by kernel_rfl) (.fn 42) rfl rfl (zFA w1) rfl<|zA (zz rfl rfl) ?_
 refine zA (zB rfl)<|zW rfl rfl (fun c1=>zp.step (zB rfl))<|zW rfl rfl (fun c2=>zp.step (zf (z6 rfl c2) rfl))<|zA (zg rfl rfl)<|zA (zB rfl)<|zW rfl rfl (fun c3=>zp.step (zB rfl)) ?_
 refine zW rfl rfl (fun c4=>zp.step (zAh (z6 rfl c4) rfl))<|zA (zg rfl rfl)<|zF ?_
 refine zX h rfl (fun b1 h => ?_) (fun b1 h => ?_)
 ·refine zH<|zC<|zA (zD rfl)<|zF<|zd ?_
  cases h
  exact zu (zAH rfl rfl)
 refine zP<|zH<|zC<|zA (zD rfl)<|zF ?_
 refine zt (r:=r) (fun (i1:Int)=>mkE [(5,(li i1))]) (fun i1=>[]) (fun i1=>zHi i1) ?_ ?_
 ·
  refine zH<|zC<|zA (zK Tryz.underlying51 rfl rfl Tryz.sizeOf49 rfl)<|zA (zB rfl)<|zAA (zT1 (k:=0) (cs:=(zO C)) (cs':=(zO C)) (ds:=[(2,0),(19,5)]) rfl rfl rfl ⟨rfl,rfl,trivial⟩)<|zM h fun b2 h => ?_
  refine zM h fun b3 h=>zA (zOg (o:=5) (cs:=(zO C)) (hd:=([li C.node]++[li C.kind]++[li C.start]++[li C.count]++[li C.min]++[])) (tl:=([])) (g:=(eS cI)) (d0:=([]:List Int)) (l:=C.free) (hi:=V) (f:=(cS cI)) Tryz.underlying49 Tryz.sizeOf22 rfl rfl rfl (fun _=>rfl) rfl b2 b3 rfl)<|zA (zV Tryz.underlying53 rfl)<|zA (zB rfl)<|zF<|zQ ?_
  refine zq (σ:=Int×Int) (fun (i2,i3)=>mkE [(5,(li i2)),(21,(ls (cS cI) (zIY C.free 0 V))),(22,(li ((zIY C.free 0 V).length:Int))),(23,(li i3))]) (fun (i2,i3)=>[]) (fun n0 (i2,i3)=>zEZ C V n0 i2 i3) (0,0) h (fun _=>rfl) (z9 [] rfl rfl (by kernel_rfl)) ?_
  clear h
  rintro n0 ⟨i2,i3⟩ h
  replace h:zCh C V (zEZ C V n0) i2 i3=some r:=h
  unfold zCh at h
  refine zH<|zC<|zA (zf rfl rfl)<|zF<|zH ?_
  refine zX h rfl (fun b4 h => ?_) (fun b4 h => ?_)
  ·refine zP<|zH<|zQ<|zH<|zC<|zA (zB rfl) ?_
   refine zM h fun b5 h=>zA (zT Tryz.underlying53 Tryz.sizeOf22 (fun _=>rfl) rfl rfl b5)<|zA (zU (o:=0) Tryz.isAgg22 rfl rfl)<|zA (zD rfl)<|zA (zD rfl)<|zF ?_
   refine zC<|zA (zB rfl)<|zA (zB rfl)<|zA (zV Tryz.underlying22 rfl)<|zA (zB rfl)<|zM h fun b6 h => ?_
   refine zM h fun b7 h=>zA (zCw (a:=((at_ (zIY C.free 0 V) i3).length:Int)) (b:=i3) rfl rfl b6 b7)<|zM h fun b8 h=>zA (ze rfl rfl b8)<|zA (zD rfl)<|zF ?_
   refine zC<|zM h fun b9 h=>zA (ze rfl rfl b9)<|zA (zB rfl)<|zF ?_
   exact ⟨((i2+(((at_ (zIY C.free 0 V) i3).length:Int)*2 ^ i3.toNat)),(i3+1)),z9 [] rfl rfl (by kernel_rfl),h⟩
  refine zw ?_
  exact ⟨i2,z9 [] rfl rfl (by kernel_rfl),h⟩
 clear h
 intro i1 h
 unfold zHi at h
 refine zH<|zC<|zA (zB rfl)<|zA (zD rfl)<|zF<|zd ?_
 cases h
 exact zu (zAH rfl rfl)
theorem zO0 {C:zi} {r:Int} (h:zLL C=some r):PFn Tryz.prog 134 [(AV.agg (zO C))] (li r):=by
 refine zo Tryz.func134 rfl Tryz.ntmps134 Tryz.results134 rfl ?_
 unfold zLL at h
 refine zH<|zC<|za (H':=[.box 51 (zO C)]) (zv (t:=51) rfl)<|zA (zD rfl)<|zF<|zH ?_
 refine zH<|zC<|zA (zS (k:=0) (o:=0) (m:=10) Tryz.isAgg51 Tryz.sizeOf51 rfl rfl rfl rfl rfl)<|zR h fun x1 w1 h=>zh Tryz.func42 rfl (by kernel_rfl) (.fn 42) rfl rfl (zFA w1) rfl<|zA (zz rfl rfl) ?_
 refine zF ?_
 refine zX h rfl (fun b1 h => ?_) (fun b1 h => ?_)
 ·refine zH<|zC<|zA (zD rfl)<|zF<|zd ?_
  cases h
  exact zu (zAH rfl rfl)
 refine zP<|zH<|zC<|zA (zK Tryz.underlying51 rfl rfl Tryz.sizeOf49 rfl)<|zA (zAO (m:=5) (s:=1) (i:=4) (k:=0) (o:=5) Tryz.underlying49 Tryz.sizeOf22 rfl rfl (by decide))<|zA (zAm (k:=0) (o:=9) (cs:=(zO C)) (hd:=([li C.node]++[li C.kind]++[li C.start]++[li C.count]++[li C.min]++[])) (tl:=([])) (g:=(eS cI)) (d0:=([]:List Int)) (l:=C.free) (N:=5) (i:=(4:Int).toNat) (a:=(ls cI (C.free.getD (4:Int).toNat ([]:List Int)))) Tryz.isAgg22 rfl rfl rfl rfl (by decide) rfl rfl) ?_
 refine zA (zV Tryz.underlying22 rfl)<|zM h fun b2 h=>zA (zCw (a:=((C.free.getD (4:Int).toNat ([]:List Int)).length:Int)) (b:=4) rfl rfl (by decide) b2)<|zA (zD rfl)<|zF<|zd ?_
 cases h
 exact zu (zAH rfl rfl)
theorem zN1 {C:zi} {r:Int} (h:zJA C=some r):PFn Tryz.prog 99 [(AV.agg (zO C))] (li r):=by
 refine zo Tryz.func99 rfl Tryz.ntmps99 Tryz.results99 rfl ?_
 unfold zJA at h
 refine zH<|zC<|za (H':=[.box 51 (zO C)]) (zv (t:=51) rfl)<|zA (zD rfl)<|zF<|zH ?_
 refine zR h fun x1 w1 h=>zR h fun x2 w2 h=>zM h fun b1 h => ?_
 refine zAl (n:=8) (m:=0) [.head 0 0,.head 0 0,.head 0 0,.head 0 0,.head 0 0,.head 0 0] [] [(AV.agg (zO C)),li x1,(AV.agg (zO C)),li x2,(li (x1+x2)),(li (x1+x2))] [[.box 51 (zO C)]] (by kernel_rfl) (by kernel_rfl) ⟨D1 fun e s p=>zS (k:=0) (o:=0) (m:=10) Tryz.isAgg51 Tryz.sizeOf51 (s 1 rfl) rfl rfl rfl rfl,?_,D1 fun e s p=>zS (k:=0) (o:=0) (m:=10) Tryz.isAgg51 Tryz.sizeOf51 (s 1 rfl) rfl rfl rfl rfl,?_,D1 fun e s p=>ze (a:=x1) (b:=x2) p.1 p.2.1 b1,D1 fun e s p=>zD p.2.2.2.2.2.2.1,trivial⟩ ?_
 ·
  intro e2 s2 p2
  refine zh (r:=(li x1)) (la:=[(AV.agg (zO C)),li 4]) Tryz.func133 rfl (by kernel_rfl) (.fn 133) (zAM p2.1 (zAM rfl rfl)) rfl (zMu w1) rfl ?_
  exact zF ⟨fun _=>rfl,rfl⟩
 ·
  intro e4 s4 p4
  refine zh (r:=(li x2)) (la:=[(AV.agg (zO C))]) Tryz.func134 rfl (by kernel_rfl) (.fn 134) (zAM p4.1 rfl) rfl (zO0 w2) rfl ?_
  exact zF ⟨fun _=>rfl,rfl⟩
 intro e7 s7 hq1
 refine zAT (zBM (l:=[(2,(li (x1+x2)))]) ⟨(hq1 5 (by decide) (by decide)),trivial⟩)<|zd ?_
 cases h
 exact zu (zAH rfl rfl)
theorem zG0 {B:zJ} {C:Int} {r:Int} (h:zDL B C=some r):PFn Tryz.prog 52 [(AV.agg (zI B)),li C] (li r):=by
 refine zo Tryz.func52 rfl Tryz.ntmps52 Tryz.results52 rfl ?_
 unfold zDL at h
 refine zH<|zC<|za (H':=[.box 26 (zI B)]) (zv (t:=26) rfl)<|zA (zD rfl)<|zF<|zH ?_
 refine zC<|zA (zK Tryz.underlying26 rfl rfl Tryz.sizeOf23 rfl)<|zA (zN Tryz.isAgg23 rfl rfl rfl rfl)<|zA (zB rfl)<|zM h fun b1 h=>zA (zT Tryz.underlying23 Tryz.sizeOf51 (fun _=>rfl) rfl rfl b1) ?_
 refine zA (zAi (row:=(zO (at_ B.zones C))) (o:=0) (m:=10) (la:=(zO (at_ B.zones C))) Tryz.isAgg51 Tryz.sizeOf51 rfl rfl rfl)<|zR h fun x1 w1 h=>zh Tryz.func99 rfl (by kernel_rfl) (.fn 99) rfl rfl (zN1 w1) rfl<|zA (zD rfl)<|zF ?_
 refine zt (r:=r) (fun (i1:Int)=>mkE [(5,(li i1))]) (fun i1=>[]) (fun i1=>zHQ i1) ?_ ?_
 ·
  refine zH<|zC<|zA (zK Tryz.underlying26 rfl rfl Tryz.sizeOf24 rfl)<|zA (zN Tryz.isAgg24 rfl rfl rfl rfl)<|zA (zV Tryz.underlying24 rfl)<|zA (zB rfl) ?_
  refine zF<|zQ<|zq (σ:=Int×Int) (fun (i2,i3)=>mkE [(1,(li C)),(5,(li i2)),(15,(ls zG B.caches)),(16,(li (B.caches.length:Int))),(17,(li i3))]) (fun (i2,i3)=>[]) (fun n0 (i2,i3)=>zDh B C n0 i2 i3) (x1,0) h (fun _=>rfl) (z9 [] rfl rfl (by kernel_rfl)) ?_
  clear h
  rintro n0 ⟨i2,i3⟩ h
  replace h:zCL B C (zDh B C n0) i2 i3=some r:=h
  unfold zCL at h
  refine zH<|zC<|zA (zf rfl rfl)<|zF<|zH ?_
  refine zX h rfl (fun b2 h => ?_) (fun b2 h => ?_)
  ·refine zP<|zH<|zQ<|zH<|zC<|zM h fun b3 h => ?_
   refine zA (zT Tryz.underlying24 Tryz.sizeOf55 (fun _=>rfl) rfl rfl b3)<|zA (zAi (row:=(zG (at_ B.caches i3))) (o:=0) (m:=1) (la:=(zG (at_ B.caches i3))) Tryz.isAgg55 Tryz.sizeOf55 rfl rfl rfl)<|za (H':=[.box 55 [(ls (cS cI) ([]:List (List Int)))]]) zv1<|zj (H':=[.box 55 (zG (at_ B.caches i3))]) (zY (k:=0) (o:=0) (cs:=[(ls (cS cI) ([]:List (List Int)))]) (la:=(zG (at_ B.caches i3))) Tryz.sizeOf55 rfl rfl rfl rfl)<|zF<|zC ?_
   refine zA (zB rfl)<|zA (zK Tryz.underlying55 rfl rfl Tryz.sizeOf53 rfl)<|zA (zN Tryz.isAgg53 rfl rfl rfl rfl)<|zA (zB rfl)<|zM h fun b4 h=>zA (zT Tryz.underlying53 Tryz.sizeOf22 (fun _=>rfl) rfl rfl b4) ?_
   refine zA (zU (o:=0) Tryz.isAgg22 rfl rfl)<|zA (zV Tryz.underlying22 rfl)<|zM h fun b5 h=>zA (ze rfl rfl b5)<|zA (zD rfl)<|zF ?_
   refine zC<|zM h fun b6 h=>zA (ze rfl rfl b6)<|zA (zB rfl)<|zF ?_
   exact ⟨((i2+((at_ ((at_ B.caches i3).lists) C).length:Int)),(i3+1)),z9 [] rfl rfl (by kernel_rfl),h⟩
  refine zw ?_
  exact ⟨i2,z9 [] rfl rfl (by kernel_rfl),h⟩
 clear h
 intro i1 h
 unfold zHQ at h
 refine zH<|zC<|zA (zB rfl)<|zA (zD rfl)<|zF<|zd ?_
 cases h
 exact zu (zAH rfl rfl)
theorem zHp {B:zJ} {C:Int} {r:Int} (h:zD1 B C=some r):PFn Tryz.prog 39 [(AV.agg (zI B)),li C] (li r):=by
 refine zo Tryz.func39 rfl Tryz.ntmps39 Tryz.results39 rfl ?_
 unfold zD1 at h
 refine zH<|zC<|za (H':=[.box 26 (zI B)]) (zv (t:=26) rfl)<|zA (zD rfl)<|zF<|zH ?_
 refine zR h fun x1 w1 h=>zM h fun b1 h=>zM h fun b2 h => ?_
 refine zAl (n:=15) (m:=0) [.head 0 0,.head 0 0,.head 0 0,.head 0 0,.head 0 0,.head 0 0,.head 0 0,.head 0 0,.head 0 0,.head 0 0,.head 0 0] [] [(AV.agg (zI B)),li C,li x1,AV.ptr 0 3,ls zO B.zones,li C,(AV.rp (zO (at_ B.zones C)) 0),(AV.rp (zO (at_ B.zones C)) 4),(li ((at_ B.zones C).min)),(li (x1 - ((at_ B.zones C).min))),(li (x1 - ((at_ B.zones C).min)))] [[.box 26 (zI B)]] (by kernel_rfl) (by kernel_rfl) ⟨D1 fun e s p=>zS (k:=0) (o:=0) (m:=5) Tryz.isAgg26 Tryz.sizeOf26 (s 2 rfl) rfl rfl rfl rfl,D1 fun e s p=>zB (s 1 rfl),?_,D1 fun e s p=>zK (k:=0) (o:=0) (off:=3) Tryz.underlying26 rfl rfl Tryz.sizeOf23 (s 2 rfl),D1 fun e s p=>zN (k:=0) (o:=3) Tryz.isAgg23 p.1 rfl rfl rfl,D1 fun e s p=>zB (s 1 rfl),D1 fun e s p=>zT (f:=zO) (l:=B.zones) (i:=C) Tryz.underlying23 Tryz.sizeOf51 (fun _=>rfl) p.1 p.2.1 b1,D1 fun e s p=>zAx (row:=(zO (at_ B.zones C))) (o:=0) (off:=4) Tryz.underlying51 rfl rfl Tryz.sizeOf3 p.1,D1 fun e s p=>zU (o:=4) Tryz.isAgg3 p.1 rfl,D1 fun e s p=>zBS (a:=x1) (b:=(at_ B.zones C).min) p.1 p.2.1 b2,D1 fun e s p=>zD p.2.2.2.2.2.2.2.2.2.2.2.1,trivial⟩ ?_
 ·
  intro e3 s3 p3
  refine zh (r:=(li x1)) (la:=[(AV.agg (zI B)),li C]) Tryz.func52 rfl (by kernel_rfl) (.fn 52) (zAM p3.1 (zAM p3.2.1 rfl)) rfl (zG0 w1) rfl ?_
  exact zF ⟨fun _=>rfl,rfl⟩
 intro e12 s12 hq1
 refine zAT (zBM (l:=[(4,(li (x1 - ((at_ B.zones C).min))))]) ⟨(hq1 10 (by decide) (by decide)),trivial⟩)<|zd ?_
 cases h
 exact zu (zAH rfl rfl)
theorem zK9 {B:zJ} {r:Int×Int} (h:zHD B=some r):PFn Tryz.prog 11 [(AV.agg (zI B))] (AV.tup [li r.1,li r.2]):=by
 refine zo Tryz.func11 rfl Tryz.ntmps11 Tryz.results11 rfl ?_
 unfold zHD at h
 refine zH<|zC<|za (H':=[.box 26 (zI B)]) (zv (t:=26) rfl)<|zA (zD rfl)<|zA (zD rfl)<|zF ?_
 refine zH<|zH<|zC<|zA (zS (k:=0) (o:=0) (m:=5) Tryz.isAgg26 Tryz.sizeOf26 rfl rfl rfl rfl rfl)<|zR h fun x1 w1 h=>zh Tryz.func13 rfl (by kernel_rfl) (.fn 13) rfl rfl (zBD w1) rfl ?_
 refine zA (zz rfl rfl)<|zF ?_
 refine zX h rfl (fun b1 h => ?_) (fun b1 h => ?_)
 ·refine zH<|zC<|zA (zD rfl)<|zA (zD rfl)<|zF<|zd ?_
  cases h
  exact zBy (zAH rfl rfl) (zAH rfl rfl) rfl
 refine zP<|zH<|zC<|zA (zD rfl)<|zA (zD rfl)<|zF ?_
 refine zt (r:=r) (fun ((i1,i2):Int×Int)=>mkE [(4,(li i1)),(5,(li i2))]) (fun (i1,i2)=>[]) (fun (i1,i2)=>zFe i1 i2) ?_ ?_
 ·
  refine zH<|zC<|zA (zK Tryz.underlying26 rfl rfl Tryz.sizeOf23 rfl)<|zA (zN Tryz.isAgg23 rfl rfl rfl rfl)<|zA (zV Tryz.underlying23 rfl)<|zA (zB rfl) ?_
  refine zF<|zQ<|zq (σ:=Int×Int×Int) (fun (i3,i4,i5)=>mkE [(1,(AV.ptr 0 0)),(4,(li i3)),(5,(li i4)),(13,(ls zO B.zones)),(14,(li (B.zones.length:Int))),(15,(li i5))]) (fun (i3,i4,i5)=>[.box 26 (zI B)]) (fun n0 (i3,i4,i5)=>zCr B n0 i3 i4 i5) (0,0,0) h (fun _=>rfl) (z9 [0] rfl rfl (by kernel_rfl)) ?_
  clear h
  rintro n0 ⟨i3,i4,i5⟩ h
  replace h:zFZ B (zCr B n0) i3 i4 i5=some r:=h
  unfold zFZ at h
  refine zH<|zC<|zA (zf rfl rfl)<|zF<|zH ?_
  refine zX h rfl (fun b2 h => ?_) (fun b2 h => ?_)
  ·refine zP ?_
   refine zt (r:=r) (fun ((i6,i7):Int×Int)=>mkE [(1,(AV.ptr 0 0)),(4,(li i6)),(5,(li i7)),(13,(ls zO B.zones)),(14,(li (B.zones.length:Int))),(15,(li i5))]) (fun (i6,i7)=>[.box 26 (zI B)]) (fun (i6,i7)=>zDi (zCr B n0) i5 i6 i7) ?_ ?_
   ·
    refine zQ<|zH<|zC<|zA (zB rfl)<|zM h fun b4 h=>zA (zT Tryz.underlying23 Tryz.sizeOf51 (fun _=>rfl) rfl rfl b4) ?_
    refine zA (zAi (row:=(zO (at_ B.zones i5))) (o:=0) (m:=10) (la:=(zO (at_ B.zones i5))) Tryz.isAgg51 Tryz.sizeOf51 rfl rfl rfl)<|za (H':=[.box 26 (zI B),.box 51 (zO ⟨0,0,0,0,0,(List.replicate 5 ([]:List Int))⟩)]) zv0<|zA (zD rfl)<|zj (H':=[.box 26 (zI B),.box 51 (zO (at_ B.zones i5))]) (zY (k:=1) (o:=0) (cs:=(zO ⟨0,0,0,0,0,(List.replicate 5 ([]:List Int))⟩)) (la:=(zO (at_ B.zones i5))) Tryz.sizeOf51 rfl rfl rfl rfl)<|zF<|zH ?_
    refine zC<|zA (zS (k:=0) (o:=0) (m:=5) Tryz.isAgg26 Tryz.sizeOf26 rfl rfl rfl rfl rfl)<|zA (zB rfl)<|zR h fun x2 w2 h=>zh Tryz.func39 rfl (by kernel_rfl) (.fn 39) rfl rfl (zHp w2) rfl<|zA (zD rfl) ?_
    refine zF<|zH<|zC<|zA (zB rfl)<|zA (zB rfl)<|zM h fun b5 h => ?_
    refine zA (ze rfl rfl b5)<|zA (zD rfl)<|zF<|zH<|zC<|zA (zK Tryz.underlying51 rfl rfl Tryz.sizeOf3 rfl) ?_
    refine zA (zN Tryz.isAgg3 rfl rfl rfl rfl)<|zA (zAv rfl rfl)<|zF ?_
    refine zX h rfl (fun b6 h => ?_) (fun b6 h => ?_)
    ·refine zC<|zA (zB rfl)<|zA (zB rfl)<|zM h fun b7 h=>zA (ze rfl rfl b7)<|zA (zD rfl) ?_
     refine zF ?_
     exact ⟨((i3+x2),(i4+x2)),z9 [0] rfl rfl (by kernel_rfl),h⟩
    refine zP ?_
    exact ⟨(i3,(i4+x2)),z9 [0] rfl rfl (by kernel_rfl),h⟩
   clear h
   rintro ⟨i6,i7⟩ h
   unfold zDi at h
   refine zC<|zM h fun b3 h=>zA (ze rfl rfl b3)<|zA (zB rfl)<|zF ?_
   exact ⟨(i6,i7,(i5+1)),z9 [0] rfl rfl (by kernel_rfl),h⟩
  refine zw ?_
  exact ⟨(i3,i4),z9 [] rfl rfl (by kernel_rfl),h⟩
 clear h
 rintro ⟨i1,i2⟩ h
 unfold zFe at h
 refine zH<|zC<|zA (zB rfl)<|zA (zB rfl)<|zA (zD rfl)<|zA (zD rfl) ?_
 refine zF<|zd ?_
 cases h
 exact zBy (zAH rfl rfl) (zAH rfl rfl) rfl
theorem zMt {W:List zi} {r:Int} (h:zH9 W=some r):PFn Tryz.prog 135 [ls zO W] (li r):=by
 refine zo Tryz.func135 rfl Tryz.ntmps135 Tryz.results135 rfl ?_
 unfold zH9 at h
 refine zH<|zC<|zA (zD rfl)<|zF<|zH<|zH ?_
 refine zC<|zA (zB rfl)<|zA (zV Tryz.underlying23 rfl)<|zA (zAh rfl rfl)<|zF ?_
 refine zX h rfl (fun b1 h => ?_) (fun b1 h => ?_)
 ·refine zH<|zC<|zA (zD rfl)<|zF<|zd ?_
  cases h
  exact zu (zAH rfl rfl)
 refine zP ?_
 refine zt (r:=r) (fun (_:Unit)=>mkE []) (fun _=>[]) (fun _=>zHq ) ?_ ?_
 ·
  refine zH<|zC<|zA (zB rfl)<|zA (zV Tryz.underlying23 rfl)<|zA (zB rfl)<|zF ?_
  refine zQ<|zq (σ:=Int) (fun i1=>mkE [(8,(ls zO W)),(9,(li (W.length:Int))),(10,(li i1))]) (fun i1=>[]) (fun n0 i1=>zEV W n0 i1) 0 h (fun _=>rfl) (z9 [] rfl rfl (by kernel_rfl)) ?_
  clear h
  intro n0 i1 h
  replace h:zCe W (zEV W n0) i1=some r:=h
  unfold zCe at h
  refine zH<|zC<|zA (zf rfl rfl)<|zF<|zH ?_
  refine zX h rfl (fun b2 h => ?_) (fun b2 h => ?_)
  ·refine zP<|zH<|zQ<|zH<|zC<|zM h fun b3 h => ?_
   refine zA (zT Tryz.underlying23 Tryz.sizeOf51 (fun _=>rfl) rfl rfl b3)<|zA (zAi (row:=(zO (at_ W i1))) (o:=0) (m:=10) (la:=(zO (at_ W i1))) Tryz.isAgg51 Tryz.sizeOf51 rfl rfl rfl)<|za (H':=[.box 51 (zO ⟨0,0,0,0,0,(List.replicate 5 ([]:List Int))⟩)]) zv0<|zj (H':=[.box 51 (zO (at_ W i1))]) (zY (k:=0) (o:=0) (cs:=(zO ⟨0,0,0,0,0,(List.replicate 5 ([]:List Int))⟩)) (la:=(zO (at_ W i1))) Tryz.sizeOf51 rfl rfl rfl rfl)<|zF<|zH ?_
   refine zH<|zC<|zA (zK Tryz.underlying51 rfl rfl Tryz.sizeOf3 rfl)<|zA (zN Tryz.isAgg3 rfl rfl rfl rfl)<|zA (zf rfl rfl)<|zA (zB rfl) ?_
   refine zW rfl rfl (fun c1=>zp.step (zK Tryz.underlying51 rfl rfl Tryz.sizeOf3 rfl))<|zW rfl rfl (fun c2=>zp.step (zN Tryz.isAgg3 (z6 rfl c2) rfl rfl rfl))<|zW rfl rfl (fun c3=>zp.step (zAw (z6 rfl c3) rfl))<|zA (zg rfl rfl)<|zF ?_
   refine zX h rfl (fun b4 h => ?_) (fun b4 h => ?_)
   ·refine zH<|zC<|zA (zD rfl)<|zF<|zd ?_
    cases h
    exact zu (zAH rfl rfl)
   refine zP<|zH<|zC<|zA (zK Tryz.underlying51 rfl rfl Tryz.sizeOf3 rfl)<|zA (zN Tryz.isAgg3 rfl rfl rfl rfl)<|zA (zz rfl rfl) ?_
   refine zA (zB rfl)<|zm rfl rfl (fun c4=>zp.step (zK Tryz.underlying51 rfl rfl Tryz.sizeOf3 rfl))<|zm rfl rfl (fun c5=>zp.step (zN Tryz.isAgg3 (z6 rfl c5) rfl rfl rfl))<|zm rfl rfl (fun c6=>zp.step (zz (z6 rfl c6) rfl))<|zA (zx (j := .lit undef) rfl rfl)<|zF ?_
   refine zX h rfl (fun b5 h => ?_) (fun b5 h => ?_)
   ·refine zH<|zC<|zA (zD rfl)<|zF<|zd ?_
    cases h
    exact zu (zAH rfl rfl)
   refine zP<|zC<|zM h fun b6 h=>zA (ze rfl rfl b6)<|zA (zB rfl)<|zF ?_
   exact ⟨(i1+1),z9 [] rfl rfl (by kernel_rfl),h⟩
  refine zw ?_
  exact ⟨(),z9 [] rfl rfl (by kernel_rfl),h⟩
 clear h
 intro _ h
 unfold zHq at h
 refine zH<|zC<|zA (zD rfl)<|zF<|zd ?_
 cases h
 exact zu (zAH rfl rfl)
theorem zMg {W:List zi} {R:Int} {r:Int} (h:zIH W R=some r):PFn Tryz.prog 100 [ls zO W,li R] (li r):=by
 refine zo Tryz.func100 rfl Tryz.ntmps100 Tryz.results100 rfl ?_
 unfold zIH at h
 refine zH<|zC<|zA (zD rfl)<|zF<|zH<|zH ?_
 refine zC<|zA (zB rfl)<|zR h fun x1 w1 h=>zh Tryz.func135 rfl (by kernel_rfl) (.fn 135) rfl rfl (zMt w1) rfl<|zA (zD rfl)<|zF ?_
 refine zH<|zC<|zA (zB rfl)<|zA (zz rfl rfl)<|zF ?_
 refine zX h rfl (fun b1 h => ?_) (fun b1 h => ?_)
 ·refine zH<|zC<|zA (zB rfl)<|zA (zD rfl)<|zF<|zd ?_
  cases h
  exact zu (zAH rfl rfl)
 refine zP<|zH<|zH<|zC<|zA (zB rfl)<|zA (zf rfl rfl) ?_
 refine zA (zB rfl)<|zW rfl rfl (fun c1=>zp.step (zB rfl))<|zW rfl rfl (fun c2=>zp.step (zAw (z6 rfl c2) rfl))<|zA (zg rfl rfl)<|zF ?_
 refine zX h rfl (fun b2 h => ?_) (fun b2 h => ?_)
 ·refine zH<|zC<|zA (zD rfl)<|zF<|zd ?_
  cases h
  exact zu (zAH rfl rfl)
 refine zP<|zH<|zC<|zA (zD rfl)<|zF<|zd ?_
 cases h
 exact zu (zAH rfl rfl)
theorem zNg {uU:Int} {R:Int} {r:Int} (h:zIQ uU R=some r):PFn Tryz.prog 102 [li uU,li R] (li r):=by
 refine zo Tryz.func102 rfl Tryz.ntmps102 Tryz.results102 rfl ?_
 unfold zIQ at h
 refine zH<|zC<|zA (zD rfl)<|zF<|zH<|zH ?_
 refine zC<|zA (zB rfl)<|zA (zB rfl)<|zA (zf rfl rfl)<|zF ?_
 refine zX h rfl (fun b1 h => ?_) (fun b1 h => ?_)
 ·refine zH<|zC<|zA (zB rfl)<|zA (zB rfl)<|zM h fun b2 h=>zA (zBS rfl rfl b2) ?_
  refine zM h fun b3 h=>zA (zLw (a:=2) (b:=uU - R) rfl rfl b3)<|zA (zD rfl)<|zF<|zd ?_
  cases h
  exact zu (zAH rfl rfl)
 refine zP<|zH<|zC<|zA (zB rfl)<|zA (zB rfl)<|zM h fun b4 h => ?_
 refine zA (zBS rfl rfl b4)<|zM h fun b5 h=>zA (zLw (a:=2) (b:=R - uU) rfl rfl b5)<|zM h fun b6 h=>zA (ze rfl rfl b6)<|zA (zD rfl) ?_
 refine zF<|zd ?_
 cases h
 exact zu (zAH rfl rfl)
theorem zLt {uS:Int} {uI:Int} {uM:List zi} {r:Int} (h:zAo uS uI uM=some r):PFn Tryz.prog 101 [li uS,(AV.rp [li uI] 0),(AV.rp [ls zO uM] 0)] (li r):=by
 refine zo Tryz.func101 rfl Tryz.ntmps101 Tryz.results101 rfl ?_
 unfold zAo at h
 refine zH<|zC<|zA (zD rfl)<|zF<|zH<|zM h fun b1 h => ?_
 refine zR h fun x1 w1 h=>zM h fun b2 h => ?_
 refine zAl (n:=23) (m:=0) [.head 0 0,.head 0 0,.head 0 0,.head 0 0,.head 0 0,.head 0 0,.head 0 0,.head 0 0,.head 0 0] [] [li uI,ls zO uM,li uS,(AV.rp (zO (at_ uM uS)) 0),(AV.rp (zO (at_ uM uS)) 0),(li ((at_ uM uS).node)),li x1,(li (2*x1)),(li (2*x1))] [[]] (by kernel_rfl) (by kernel_rfl) ⟨D1 fun e s p=>zU (o:=0) Tryz.isAgg3 (s 1 rfl) rfl,D1 fun e s p=>zU (o:=0) Tryz.isAgg23 (s 2 rfl) rfl,D1 fun e s p=>zB (s 0 rfl),D1 fun e s p=>zT (f:=zO) (l:=uM) (i:=uS) Tryz.underlying23 Tryz.sizeOf51 (fun _=>rfl) p.1 p.2.1 b1,D1 fun e s p=>zAx (row:=(zO (at_ uM uS))) (o:=0) (off:=0) Tryz.underlying51 rfl rfl Tryz.sizeOf3 p.1,D1 fun e s p=>zU (o:=0) Tryz.isAgg3 p.1 rfl,?_,D1 fun e s p=>zLw (a:=2) (b:=x1) rfl p.1 b2,D1 fun e s p=>zD p.2.2.2.2.2.2.2.2.2.1,trivial⟩ ?_
 ·
  intro e7 s7 p7
  refine zh (r:=(li x1)) (la:=[li uI,(li ((at_ uM uS).node))]) Tryz.func102 rfl (by kernel_rfl) (.fn 102) (zAM p7.1 (zAM p7.2.1 rfl)) rfl (zNg w1) rfl ?_
  exact zF ⟨fun _=>rfl,rfl⟩
 intro e10 s10 hq1
 refine zAT (zBM (l:=[(0,(li uS)),(2,(AV.rp [ls zO uM] 0)),(5,(li (2*x1)))]) ⟨s10 0 rfl,s10 2 rfl,(hq1 8 (by decide) (by decide)),trivial⟩) ?_
 refine zt (r:=r) (fun (i1:Int)=>mkE [(5,(li i1))]) (fun i1=>[]) (fun i1=>zDK i1) ?_ ?_
 ·
  refine zH<|zC<|zA (zU (o:=0) Tryz.isAgg23 rfl rfl)<|zA (zB rfl)<|zA (zT Tryz.underlying23 Tryz.sizeOf51 (fun _=>rfl) rfl rfl b1)<|zA (zAx (row:=(zO (at_ uM uS))) (o:=0) (off:=1) Tryz.underlying51 rfl rfl Tryz.sizeOf3 rfl) ?_
  refine zA (zU (o:=1) Tryz.isAgg3 rfl rfl)<|zA (zAv rfl rfl)<|zF ?_
  refine zX h rfl (fun b3 h => ?_) (fun b3 h => ?_)
  ·refine zC<|zA (zB rfl)<|zM h fun b4 h=>zA (ze rfl rfl b4)<|zA (zD rfl)<|zF ?_
   exact ⟨((2*x1)+1),z9 [] rfl rfl (by kernel_rfl),h⟩
  refine zP ?_
  exact ⟨(2*x1),z9 [] rfl rfl (by kernel_rfl),h⟩
 clear h
 intro i1 h
 unfold zDK at h
 refine zH<|zC<|zA (zB rfl)<|zA (zD rfl)<|zF<|zd ?_
 cases h
 exact zu (zAH rfl rfl)
theorem zLv {I:Int} {uT:Int} {r:Int} (h:zHP I uT=some r):PFn Tryz.prog 105 [li I,li uT] (li r):=by
 refine zo Tryz.func105 rfl Tryz.ntmps105 Tryz.results105 rfl ?_
 unfold zHP at h
 refine zH<|zC<|zA (zD rfl)<|zF<|zH<|zC ?_
 refine zA (zB rfl)<|zR h fun x1 w1 h=>zh Tryz.func137 rfl (by kernel_rfl) (.fn 137) rfl rfl (zGf w1) rfl<|zA (zD rfl)<|zF<|zH ?_
 refine zC<|zA (zB rfl)<|zR h fun x2 w2 h=>zh Tryz.func137 rfl (by kernel_rfl) (.fn 137) rfl rfl (zGf w2) rfl<|zA (zD rfl)<|zF ?_
 refine zH<|zH<|zC<|zA (zB rfl)<|zF ?_
 refine zX h rfl (fun b1 h => ?_) (fun b1 h => ?_)
 ·refine zH<|zH<|zC<|zA (zB rfl)<|zF ?_
  refine zX h rfl (fun b2 h => ?_) (fun b2 h => ?_)
  ·refine zH<|zC<|zA (zD rfl)<|zF<|zd ?_
   cases h
   exact zu (zAH rfl rfl)
  refine zP<|zH<|zC<|zA (zD rfl)<|zF<|zd ?_
  cases h
  exact zu (zAH rfl rfl)
 refine zP<|zH<|zH<|zC<|zA (zB rfl)<|zF ?_
 refine zX h rfl (fun b3 h => ?_) (fun b3 h => ?_)
 ·refine zH<|zC<|zA (zD rfl)<|zF<|zd ?_
  cases h
  exact zu (zAH rfl rfl)
 refine zP<|zH<|zH<|zC<|zA (zB rfl)<|zA (zB rfl) ?_
 refine zA (zf rfl rfl)<|zF ?_
 refine zX h rfl (fun b4 h => ?_) (fun b4 h => ?_)
 ·refine zH<|zC<|zA (zD rfl)<|zF<|zd ?_
  cases h
  exact zu (zAH rfl rfl)
 refine zP<|zH<|zH<|zC<|zA (zB rfl)<|zA (zB rfl) ?_
 refine zA (zAh rfl rfl)<|zF ?_
 refine zX h rfl (fun b5 h => ?_) (fun b5 h => ?_)
 ·refine zH<|zC<|zA (zD rfl)<|zF<|zd ?_
  cases h
  exact zu (zAH rfl rfl)
 refine zP<|zH<|zC<|zA (zD rfl)<|zF<|zd ?_
 cases h
 exact zu (zAH rfl rfl)
theorem zLs {B : Int} {L : Int} {uI : Int → Option Int} {g_c_0 : FuncId} {cf_c_0 : Func} {code_c_0 : Code} {caps_c_0 : List AV} (hcf_c_0 : Tryz.prog.funcs[g_c_0]? = some cf_c_0) (hcb_c_0 : cf_c_0.body = some code_c_0) (hcn_c_0 : (cf_c_0.name == "runtime.NumGoroutine") = false) (hnr_c_0 : caps_c_0.all nr = true) (hg_c_0 : ∀ {x0 : Int} {y : Int}, uI x0 = some y → PFn Tryz.prog g_c_0 ((li x0) :: caps_c_0) (li y)) {r : Int} (h : zAy B L uI = some r) : PFn Tryz.prog 104 [(li B), (li L), (AV.rp [(AV.clo g_c_0 caps_c_0)] 0)] (li r) := by
 refine zo Tryz.func104 rfl Tryz.ntmps104 Tryz.results104 rfl ?_
 unfold zAy at h
 refine zH<|zC<|zA (zD rfl)<|zF<|zH<|zR h fun x1 w1 h => ?_
 refine zR h fun x2 w2 h=>zR h fun x3 w3 h => ?_
 refine zAl (n:=13) (m:=0) [.head 0 0,.head 0 0,.head 0 0,.head 0 0,.head 0 0,.head 0 0,.head 0 0,.head 0 0] [] [AV.clo g_c_0 caps_c_0,li B,li x1,AV.clo g_c_0 caps_c_0,li L,li x2,li x3,li x3] [[]] (by kernel_rfl) (by kernel_rfl) ⟨D1 fun e s p=>zU (o:=0) Tryz.isAgg100 (s 2 rfl) rfl,D1 fun e s p=>zB (s 0 rfl),?_,D1 fun e s p=>zU (o:=0) Tryz.isAgg100 (s 2 rfl) rfl,D1 fun e s p=>zB (s 1 rfl),?_,?_,D1 fun e s p=>zD p.2.2.2.2.2.2.2.2.1,trivial⟩ ?_
 ·
  intro e3 s3 p3
  refine zA2 (la:=(li B)::caps_c_0) (la':=(li B)::caps_c_0) (r:=(li x1)) (r':=(li x1)) (S:=[]) hcf_c_0 hcb_c_0 hcn_c_0 (.clo (caps:=caps_c_0) p3.1) (zAM p3.2.1 rfl) (zEJ.c (zAs.nr rfl) (zEJ.nrs hnr_c_0)) (hg_c_0 w1) (.inl rfl) rfl ?_
  exact zF ⟨fun _=>rfl,rfl⟩
 ·
  intro e6 s6 p6
  refine zA2 (la:=(li L)::caps_c_0) (la':=(li L)::caps_c_0) (r:=(li x2)) (r':=(li x2)) (S:=[]) hcf_c_0 hcb_c_0 hcn_c_0 (.clo (caps:=caps_c_0) p6.1) (zAM p6.2.1 rfl) (zEJ.c (zAs.nr rfl) (zEJ.nrs hnr_c_0)) (hg_c_0 w2) (.inl rfl) rfl ?_
  exact zF ⟨fun _=>rfl,rfl⟩
 ·
  intro e7 s7 p7
  refine zh (r:=(li x3)) (la:=[li x1,li x2]) Tryz.func105 rfl (by kernel_rfl) (.fn 105) (zAM p7.1 (zAM p7.2.2.1 rfl)) rfl (zLv w3) rfl ?_
  exact zF ⟨fun _=>rfl,rfl⟩
 intro e9 s9 hq1
 refine zAT (zBM (l:=[(5,(li x3))]) ⟨(hq1 7 (by decide) (by decide)),trivial⟩)<|zd ?_
 cases h
 exact zu (zAH rfl rfl)
theorem zDU {uV : List Int} {B : Int} {L : Int} {uE : Int → Int → Option Int} {g_a_cmp : FuncId} {cf_a_cmp : Func} {code_a_cmp : Code} {caps_a_cmp : List AV} (hcf_a_cmp : Tryz.prog.funcs[g_a_cmp]? = some cf_a_cmp) (hcb_a_cmp : cf_a_cmp.body = some code_a_cmp) (hcn_a_cmp : (cf_a_cmp.name == "runtime.NumGoroutine") = false) (hnr_a_cmp : caps_a_cmp.all nr = true) (hg_a_cmp : ∀ {x0 : Int} {x1 : Int} {y : Int}, uE x0 x1 = some y → PFn Tryz.prog g_a_cmp ((li x0) :: (li x1) :: caps_a_cmp) (li y)) {r : (List Int)} (h : zAn uV B L uE = some r) : AFn Tryz.prog 145 [(AV.hd 0), (li B), (li L), (AV.clo g_a_cmp caps_a_cmp)] [.vec 3 1 (List.map cI uV)] (.tup []) [.vec 3 1 (List.map cI r)] := by
 refine zEX Tryz.func145 rfl Tryz.ntmps145 Tryz.results145 rfl ?_
 unfold zAn at h
 refine zH<|zC<|zA (zB rfl)<|zM h fun b1 h=>zA (ze rfl rfl b1)<|zA (zD rfl) ?_
 refine zF<|zQ<|zq (σ:=Int×(List Int)) (fun (i1,l1)=>mkE [(0,(AV.hd 0)),(1,(li B)),(2,(li L)),(3,(AV.clo g_a_cmp caps_a_cmp)),(8,(li i1))]) (fun (i1,l1)=>[.vec 3 1 (List.map cI l1)]) (fun n0 (i1,l1)=>zAC B L uE n0 i1 l1) ((B+1),uV) h (fun _=>rfl) (zB1 (n:=53) (m:=1) [0] (l:=[(0,(AV.hd 0)),(1,(li B)),(2,(li L)),(3,(AV.clo g_a_cmp caps_a_cmp)),(8,(li (B+1)))]) ⟨⟨Sub.refl _,by kernel_rfl⟩,⟨Sub.refl _,by kernel_rfl⟩,⟨Sub.refl _,by kernel_rfl⟩,⟨zFH hnr_a_cmp,zFI hnr_a_cmp⟩,⟨Sub.refl _,by kernel_rfl⟩,trivial⟩ rfl rfl ⟨⟨rfl,by kernel_rfl⟩,trivial⟩) ?_
 clear h
 rintro n0 ⟨i1,l1⟩ h
 replace h:zAE B L uE (zAC B L uE n0) i1 l1=some r:=h
 unfold zAE at h
 refine zH<|zH<|zC<|zA (zB rfl)<|zA (zB rfl)<|zA (zf rfl rfl) ?_
 refine zF ?_
 refine zX h rfl (fun b2 h => ?_) (fun b2 h => ?_)
 ·refine zP ?_
  refine zt (r:=r) (fun (l2:List Int)=>mkE [(0,(AV.hd 0)),(1,(li B)),(2,(li L)),(3,(AV.clo g_a_cmp caps_a_cmp)),(8,(li i1))]) (fun l2=>[.vec 3 1 (List.map cI l2)]) (fun l2=>zAu (zAC B L uE n0) i1 l2) ?_ ?_
  ·
   refine zQ<|zH<|zC<|zA (zB rfl)<|zA (zD rfl)<|zF ?_
   refine zQ<|zq (σ:=Int×(List Int)) (fun (i2,l3)=>mkE [(0,(AV.hd 0)),(1,(li B)),(2,(li L)),(3,(AV.clo g_a_cmp caps_a_cmp)),(8,(li i1)),(9,(li i2))]) (fun (i2,l3)=>[.vec 3 1 (List.map cI l3)]) (fun n1 (i2,l3)=>zAR (zAC B L uE n0) B uE i1 n1 i2 l3) (i1,l1) h (fun _=>rfl) (zB1 (n:=53) (m:=1) [0] (l:=[(0,(AV.hd 0)),(1,(li B)),(2,(li L)),(3,(AV.clo g_a_cmp caps_a_cmp)),(8,(li i1)),(9,(li i1))]) ⟨⟨Sub.refl _,by kernel_rfl⟩,⟨Sub.refl _,by kernel_rfl⟩,⟨Sub.refl _,by kernel_rfl⟩,⟨zFH hnr_a_cmp,zFI hnr_a_cmp⟩,⟨Sub.refl _,by kernel_rfl⟩,⟨Sub.refl _,by kernel_rfl⟩,trivial⟩ rfl rfl ⟨⟨rfl,by kernel_rfl⟩,trivial⟩) ?_
   clear h
   rintro n1 ⟨i2,l3⟩ h
   replace h:zAQ (zAC B L uE n0) B uE i1 (zAR (zAC B L uE n0) B uE i1 n1) i2 l3=some r:=h
   unfold zAQ at h
   refine zH<|zH<|zM h fun b4 h=>zM h fun b5 h=>zM h fun b6 h=>zR h fun x1 w1 h => ?_
   refine zAl (n:=53) (m:=1) [.head 0 0,.head 0 0,.head 0 0,.head 0 0,.head 0 0,.head 0 0,.head 0 0,.head 0 0,.head 0 0,.head 0 0,.head 0 0,.head 0 0,.head 0 0,.head 0 0,.head 0 0,.head 0 0,.head 0 0] [] [li i2,li B,(AV.lit (.bool (decide (B<i2)))),(AV.lit (.bool (decide (B<i2)))),(bif decide (B<i2) then (AV.clo g_a_cmp caps_a_cmp) else .lit undef),(bif decide (B<i2) then (AV.hd 0) else .lit undef),(bif decide (B<i2) then (li i2) else .lit undef),(bif decide (B<i2) then (AV.ptr 0 (i2.toNat*1)) else .lit undef),(bif decide (B<i2) then (li (at_ l3 i2)) else .lit undef),(bif decide (B<i2) then (AV.hd 0) else .lit undef),(bif decide (B<i2) then (li i2) else .lit undef),(bif decide (B<i2) then (li (i2 - 1)) else .lit undef),(bif decide (B<i2) then (AV.ptr 0 ((i2 - 1).toNat*1)) else .lit undef),(bif decide (B<i2) then (li (at_ l3 (i2 - 1))) else .lit undef),(bif decide (B<i2) then (li x1) else .lit undef),(bif decide (B<i2) then (AV.lit (.bool (decide (x1<0)))) else .lit undef),(AV.lit (.bool ((decide (B<i2))&&(decide (x1<0)))))] [[.vec 3 1 (List.map cI l3)]] (by kernel_rfl) (by kernel_rfl) ⟨D1 fun e s p=>zB (s 9 rfl),D1 fun e s p=>zB (s 1 rfl),D1 fun e s p=>zAh (a:=i2) (b:=B) p.1 p.2.1,D1 fun e s p=>zB p.1,?_,?_,?_,?_,?_,?_,?_,?_,?_,?_,?_,?_,D1 fun e s p=>zx (s:=decide (B<i2)) (q:=decide (x1<0)) (j := .lit undef) p.1 p.2.1,trivial⟩ ?_
   ·
    intro e5 s5 p5
    refine zm (g:=21) (s:=decide (B<i2)) rfl p5.1 (fun c13=>zp.step (zB (av:=(AV.clo g_a_cmp caps_a_cmp)) (s5 3 rfl))) ?_
    exact zF ⟨fun _=>rfl,rfl⟩
   ·
    intro e6 s6 p6
    refine zm (g:=21) (s:=decide (B<i2)) rfl p6.1 (fun c14=>zp.step (zB (av:=(AV.hd 0)) (s6 0 rfl))) ?_
    exact zF ⟨fun _=>rfl,rfl⟩
   ·
    intro e7 s7 p7
    refine zm (g:=21) (s:=decide (B<i2)) rfl p7.1 (fun c15=>zp.step (zB (av:=(li i2)) (s7 9 rfl))) ?_
    exact zF ⟨fun _=>rfl,rfl⟩
   ·
    intro e8 s8 p8
    refine zm (g:=21) (s:=decide (B<i2)) rfl p8.2.2.1 (fun c16=>zp.step (zy (f:=cI) (l:=l3) (i:=i2) Tryz.underlying22 Tryz.sizeOf3 (z6 p8.1 c16) rfl (z6 p8.2.1 c16) (zGy b4 c16))) ?_
    exact zF ⟨fun _=>rfl,rfl⟩
   ·
    intro e9 s9 p9
    refine zm (g:=21) (s:=decide (B<i2)) rfl p9.2.1 (fun c17=>zp.step (zAq (f:=cI) (l:=l3) (i:=i2) (c:=0) (a:=(li (at_ l3 i2))) Tryz.isAgg3 (z6 p9.1 c17) rfl (by first | rfl | omega) (zGy b4 c17) rfl rfl)) ?_
    exact zF ⟨fun _=>rfl,rfl⟩
   ·
    intro e10 s10 p10
    refine zm (g:=21) (s:=decide (B<i2)) rfl p10.1 (fun c18=>zp.step (zB (av:=(AV.hd 0)) (s10 0 rfl))) ?_
    exact zF ⟨fun _=>rfl,rfl⟩
   ·
    intro e11 s11 p11
    refine zm (g:=21) (s:=decide (B<i2)) rfl p11.1 (fun c19=>zp.step (zB (av:=(li i2)) (s11 9 rfl))) ?_
    exact zF ⟨fun _=>rfl,rfl⟩
   ·
    intro e12 s12 p12
    refine zm (g:=21) (s:=decide (B<i2)) rfl p12.2.1 (fun c20=>zp.step (zBS (a:=i2) (b:=1) (z6 p12.1 c20) rfl (zGy b5 c20))) ?_
    exact zF ⟨fun _=>rfl,rfl⟩
   ·
    intro e13 s13 p13
    refine zm (g:=21) (s:=decide (B<i2)) rfl p13.2.2.1 (fun c21=>zp.step (zy (f:=cI) (l:=l3) (i:=i2 - 1) Tryz.underlying22 Tryz.sizeOf3 (z6 p13.1 c21) rfl (z6 p13.2.1 c21) (zGy b6 c21))) ?_
    exact zF ⟨fun _=>rfl,rfl⟩
   ·
    intro e14 s14 p14
    refine zm (g:=21) (s:=decide (B<i2)) rfl p14.2.1 (fun c22=>zp.step (zAq (f:=cI) (l:=l3) (i:=i2 - 1) (c:=0) (a:=(li (at_ l3 (i2 - 1)))) Tryz.isAgg3 (z6 p14.1 c22) rfl (by first | rfl | omega) (zGy b6 c22) rfl rfl)) ?_
    exact zF ⟨fun _=>rfl,rfl⟩
   ·
    intro e15 s15 p15
    refine zCy (g:=21) (s:=decide (B<i2)) (r':=(li x1)) rfl p15.2.2.2.2.1 (fun c23=>⟨g_a_cmp,cf_a_cmp,code_a_cmp,caps_a_cmp,(li (at_ l3 i2))::(li (at_ l3 (i2 - 1)))::caps_a_cmp,(li (at_ l3 i2))::(li (at_ l3 (i2 - 1)))::caps_a_cmp,li x1,[],hcf_a_cmp,hcb_a_cmp,hcn_a_cmp,.clo (z6 p15.1 c23),(zAM (z6 p15.2.1 c23) (zAM (z6 p15.2.2.1 c23) rfl)),zEJ.c (zAs.nr rfl) (zEJ.c (zAs.nr rfl) (zEJ.nrs hnr_a_cmp)),hg_a_cmp (zGm c23 w1),.inl rfl,rfl⟩) ?_
    exact zF ⟨fun _=>rfl,rfl⟩
   ·
    intro e16 s16 p16
    refine zm (g:=21) (s:=decide (B<i2)) rfl p16.2.1 (fun c24=>zp.step (zf (a:=x1) (b:=0) (z6 p16.1 c24) rfl)) ?_
    exact zF ⟨fun _=>rfl,rfl⟩
   intro e18 s18 hq1
   refine zAT (zBM (l:=[(0,(AV.hd 0)),(1,(li B)),(2,(li L)),(3,(AV.clo g_a_cmp caps_a_cmp)),(8,(li i1)),(9,(li i2)),(34,(AV.lit (.bool ((decide (B<i2))&&(decide (x1<0))))))]) ⟨s18 0 rfl,s18 1 rfl,s18 2 rfl,s18 3 rfl,s18 8 rfl,s18 9 rfl,(hq1 16 (by decide) (by decide)),trivial⟩) ?_
   refine zX h rfl (fun b7 h => ?_) (fun b7 h => ?_)
   ·refine zP<|zH<|zQ<|zM h fun b8 h=>zM h fun b9 h=>zM h fun b10 h => ?_
    refine zM h fun b11 h => ?_
    refine zAl (n:=53) (m:=1) [.head 0 0,.head 0 0,.head 0 1,.head 0 1,.head 0 1,.head 0 0,.head 0 0,.head 0 0,.head 0 0,.head 0 0,.head 0 0,.head 0 0,.head 0 0,.head 0 0,.head 0 0,.tail 0,.head 1 1,.tail 1] [15,17] [AV.hd 0,li i2,AV.hd 0,li i2,(li (i2 - 1)),AV.hd 0,li i2,(li (i2 - 1)),(AV.ptr 0 ((i2 - 1).toNat*1)),(li (at_ l3 (i2 - 1))),AV.hd 0,li i2,(AV.ptr 0 (i2.toNat*1)),(li (at_ l3 i2)),(AV.ptr 0 (i2.toNat*1)),.any,(AV.ptr 0 ((i2 - 1).toNat*1)),.any] [[.vec 3 1 (List.map cI l3)],[.vec 3 1 (List.map cI (l3.set i2.toNat (at_ l3 (i2 - 1))))],[.vec 3 1 (List.map cI ((l3.set i2.toNat (at_ l3 (i2 - 1))).set (i2 - 1).toNat (at_ l3 i2)))]] (by kernel_rfl) (by kernel_rfl) ⟨D1 fun e s p=>zB (s 0 rfl),D1 fun e s p=>zB (s 9 rfl),⟨D1 fun e s p=>zB (s 0 rfl),D1 fun e s p=>zB (s 0 rfl)⟩,⟨D1 fun e s p=>zB (s 9 rfl),D1 fun e s p=>zB (s 9 rfl)⟩,⟨D1 fun e s p=>zBS (a:=i2) (b:=1) p.1 rfl b8,D1 fun e s p=>zBS (a:=i2) (b:=1) p.1 rfl b8⟩,D1 fun e s p=>zB (s 0 rfl),D1 fun e s p=>zB (s 9 rfl),D1 fun e s p=>zBS (a:=i2) (b:=1) p.1 rfl b8,D1 fun e s p=>zy (f:=cI) (l:=l3) (i:=i2 - 1) Tryz.underlying22 Tryz.sizeOf3 p.1 rfl p.2.1 b9,D1 fun e s p=>zAq (f:=cI) (l:=l3) (i:=i2 - 1) (c:=0) (a:=(li (at_ l3 (i2 - 1)))) Tryz.isAgg3 p.1 rfl (by first | rfl | omega) b9 rfl rfl,D1 fun e s p=>zB (s 0 rfl),D1 fun e s p=>zB (s 9 rfl),D1 fun e s p=>zy (f:=cI) (l:=l3) (i:=i2) Tryz.underlying22 Tryz.sizeOf3 p.1 rfl p.2.1 b10,D1 fun e s p=>zAq (f:=cI) (l:=l3) (i:=i2) (c:=0) (a:=(li (at_ l3 i2))) Tryz.isAgg3 p.1 rfl (by first | rfl | omega) b10 rfl rfl,D1 fun e s p=>zy (f:=cI) (l:=l3) (i:=i2) Tryz.underlying22 Tryz.sizeOf3 p.2.2.1 rfl p.2.2.2.1 b10,?_,D1 fun e s p=>zy (f:=cI) (l:=l3.set i2.toNat (at_ l3 (i2 - 1))) (i:=i2 - 1) Tryz.underlying22 Tryz.sizeOf3 p.2.2.2.2.1 rfl p.2.2.2.2.2.2.1 b11,?_,trivial⟩ ?_
    ·
     intro e37 s37 p36
     refine zj (H':=[.vec 3 1 (List.map cI (l3.set i2.toNat (at_ l3 (i2 - 1))))]) (zBt (k:=0) (o:=(i2.toNat*1)) (f:=cI) (l:=l3) (i:=i2) (c:=0) (a:=(li (at_ l3 (i2 - 1)))) (z:=at_ l3 (i2 - 1)) Tryz.sizeOf3 (by exact p36.1) rfl (by first | rfl | omega) b10 rfl (by exact p36.2.2.2.2.2.2.2.2.2.2.2.1) rfl rfl rfl) ?_
     exact zF ⟨fun _=>rfl,rfl⟩
    ·
     intro e39 s39 p38
     refine zj (H':=[.vec 3 1 (List.map cI ((l3.set i2.toNat (at_ l3 (i2 - 1))).set (i2 - 1).toNat (at_ l3 i2)))]) (zBt (k:=0) (o:=((i2 - 1).toNat*1)) (f:=cI) (l:=l3.set i2.toNat (at_ l3 (i2 - 1))) (i:=i2 - 1) (c:=0) (a:=(li (at_ l3 i2))) (z:=at_ l3 i2) Tryz.sizeOf3 (by exact p38.1) rfl (by first | rfl | omega) b11 rfl (by exact p38.2.2.2.2.2.2.2.2.2.2.2.2.2.2.2.2.1) rfl rfl rfl) ?_
     exact zF ⟨fun _=>rfl,rfl⟩
    intro e40 s40 hq2
    refine zAT (zBM (l:=[(0,(AV.hd 0)),(1,(li B)),(2,(li L)),(3,(AV.clo g_a_cmp caps_a_cmp)),(8,(li i1)),(9,(li i2))]) ⟨s40 0 rfl,s40 1 rfl,s40 2 rfl,s40 3 rfl,s40 8 rfl,s40 9 rfl,trivial⟩)<|zC<|zA (zB (av:=(li i2)) rfl)<|zA (zBS (a:=i2) (b:=1) rfl rfl b8)<|zA (zD (av:=(li (i2 - 1))) rfl)<|zF ?_
    exact ⟨((i2 - 1),((l3.set i2.toNat (at_ l3 (i2 - 1))).set (i2 - 1).toNat (at_ l3 i2))),zB1 (n:=53) (m:=1) [0] (l:=[(0,(AV.hd 0)),(1,(li B)),(2,(li L)),(3,(AV.clo g_a_cmp caps_a_cmp)),(8,(li i1)),(9,(li (i2 - 1)))]) ⟨⟨Sub.refl _,by kernel_rfl⟩,⟨Sub.refl _,by kernel_rfl⟩,⟨Sub.refl _,by kernel_rfl⟩,⟨zFH hnr_a_cmp,zFI hnr_a_cmp⟩,⟨Sub.refl _,by kernel_rfl⟩,⟨Sub.refl _,by kernel_rfl⟩,trivial⟩ rfl rfl ⟨⟨rfl,by kernel_rfl⟩,trivial⟩,h⟩
   refine zw ?_
   exact ⟨l3,zB1 (n:=53) (m:=1) [0] (l:=[(0,(AV.hd 0)),(1,(li B)),(2,(li L)),(3,(AV.clo g_a_cmp caps_a_cmp)),(8,(li i1))]) ⟨⟨Sub.refl _,by kernel_rfl⟩,⟨Sub.refl _,by kernel_rfl⟩,⟨Sub.refl _,by kernel_rfl⟩,⟨zFH hnr_a_cmp,zFI hnr_a_cmp⟩,⟨Sub.refl _,by kernel_rfl⟩,trivial⟩ rfl rfl ⟨⟨rfl,by kernel_rfl⟩,trivial⟩,h⟩
  clear h
  intro l2 h
  unfold zAu at h
  refine zC<|zA (zB rfl)<|zM h fun b3 h=>zA (ze rfl rfl b3)<|zA (zD rfl)<|zF ?_
  exact ⟨((i1+1),l2),zB1 (n:=53) (m:=1) [0] (l:=[(0,(AV.hd 0)),(1,(li B)),(2,(li L)),(3,(AV.clo g_a_cmp caps_a_cmp)),(8,(li (i1+1)))]) ⟨⟨Sub.refl _,by kernel_rfl⟩,⟨Sub.refl _,by kernel_rfl⟩,⟨Sub.refl _,by kernel_rfl⟩,⟨zFH hnr_a_cmp,zFI hnr_a_cmp⟩,⟨Sub.refl _,by kernel_rfl⟩,trivial⟩ rfl rfl ⟨⟨rfl,by kernel_rfl⟩,trivial⟩,h⟩
 refine zw ?_
 obtain rfl:=Option.some.inj h
 exact ⟨mkE [],[.vec 3 1 (List.map cI l1)],z9 [0] rfl rfl (by kernel_rfl),zLX rfl⟩
theorem zJN {uV : List Int} {uB : Int} {uE : Int → Int → Option Int} {g_a_cmp : FuncId} {cf_a_cmp : Func} {code_a_cmp : Code} {caps_a_cmp : List AV} (hcf_a_cmp : Tryz.prog.funcs[g_a_cmp]? = some cf_a_cmp) (hcb_a_cmp : cf_a_cmp.body = some code_a_cmp) (hcn_a_cmp : (cf_a_cmp.name == "runtime.NumGoroutine") = false) (hnr_a_cmp : caps_a_cmp.all nr = true) (hg_a_cmp : ∀ {x0 : Int} {x1 : Int} {y : Int}, uE x0 x1 = some y → PFn Tryz.prog g_a_cmp ((li x0) :: (li x1) :: caps_a_cmp) (li y)) {r : (List Int)} (h : zCz uV uB uE = some r) : AFn Tryz.prog 136 [(AV.hd 0), (li uB), (AV.clo g_a_cmp caps_a_cmp)] [.vec 3 1 (List.map cI uV)] (.tup []) [.vec 3 1 (List.map cI r)] := by
 refine zEX Tryz.func136 rfl Tryz.ntmps136 Tryz.results136 rfl ?_
 unfold zCz at h
 refine zH<|zC<|zA (zD rfl)<|zF<|zH<|zC ?_
 refine zA (zB rfl)<|zA (zD rfl)<|zA (zD rfl)<|zF ?_
 refine zt (r:=r) (fun ((i1,l1):Int×(List Int))=>mkE [(0,(AV.hd 0)),(1,(li uB)),(2,(AV.clo g_a_cmp caps_a_cmp)),(6,(li 20)),(7,(li i1))]) (fun (i1,l1)=>[.vec 3 1 (List.map cI l1)]) (fun (i1,l1)=>zCI uB uE i1 l1) ?_ ?_
 ·
  refine zQ<|zq (σ:=Int×Int×(List Int)) (fun (i3,i4,l2)=>mkE [(0,(AV.hd 0)),(1,(li uB)),(2,(AV.clo g_a_cmp caps_a_cmp)),(6,(li 20)),(7,(li i3)),(8,(li i4))]) (fun (i3,i4,l2)=>[.vec 3 1 (List.map cI l2)]) (fun n2 (i3,i4,l2)=>zBZ uB uE n2 i3 i4 l2) (0,20,uV) h (fun _=>rfl) (zB1 (n:=63) (m:=1) [0] (l:=[(0,(AV.hd 0)),(1,(li uB)),(2,(AV.clo g_a_cmp caps_a_cmp)),(6,(li 20)),(7,(li 0)),(8,(li 20))]) ⟨⟨Sub.refl _,by kernel_rfl⟩,⟨Sub.refl _,by kernel_rfl⟩,⟨zFH hnr_a_cmp,zFI hnr_a_cmp⟩,⟨Sub.refl _,by kernel_rfl⟩,⟨Sub.refl _,by kernel_rfl⟩,⟨Sub.refl _,by kernel_rfl⟩,trivial⟩ rfl rfl ⟨⟨rfl,by kernel_rfl⟩,trivial⟩) ?_
  clear h
  rintro n2 ⟨i3,i4,l2⟩ h
  replace h:zBa uB uE (zBZ uB uE n2) i3 i4 l2=some r:=h
  unfold zBa at h
  refine zH<|zH<|zC<|zA (zB rfl)<|zA (zB rfl)<|zA (zCu rfl rfl) ?_
  refine zF ?_
  refine zX h rfl (fun b8 h => ?_) (fun b8 h => ?_)
  ·refine zP<|zQ<|zH<|zC<|zA (zB rfl)<|zA (zB rfl) ?_
   refine zA (zB rfl)<|zA (zB rfl)<|zR h fun x2 w2 h=>zCt (k:=0) (la:=[AV.hd 0,li i3,li i4,AV.clo g_a_cmp caps_a_cmp]) (la':=[AV.hd 0,li i3,li i4,AV.clo g_a_cmp caps_a_cmp]) (r:=(.tup [])) (S:=[]) (en' := .vec 3 1 (List.map cI x2)) Tryz.func145 rfl (by kernel_rfl) (.fn 145) rfl ⟨zB0.hd,zB0.of (zAs.nr rfl),zB0.of (zAs.nr rfl),zB0.of (zAs.clo (zEJ.nrs hnr_a_cmp)),trivial⟩ rfl rfl rfl rfl (zDU hcf_a_cmp hcb_a_cmp hcn_a_cmp hnr_a_cmp hg_a_cmp w2) rfl (.inl rfl)<|zF<|zH ?_
   refine zC<|zA (zB rfl)<|zA (zD rfl)<|zF<|zC<|zA (zB rfl) ?_
   refine zA (zB rfl)<|zM h fun b9 h=>zA (ze rfl rfl b9)<|zA (zD rfl)<|zF ?_
   exact ⟨(i4,(i4+20),x2),zB1 (n:=63) (m:=1) [0] (l:=[(0,(AV.hd 0)),(1,(li uB)),(2,(AV.clo g_a_cmp caps_a_cmp)),(6,(li 20)),(7,(li i4)),(8,(li (i4+20)))]) ⟨⟨Sub.refl _,by kernel_rfl⟩,⟨Sub.refl _,by kernel_rfl⟩,⟨zFH hnr_a_cmp,zFI hnr_a_cmp⟩,⟨Sub.refl _,by kernel_rfl⟩,⟨Sub.refl _,by kernel_rfl⟩,⟨Sub.refl _,by kernel_rfl⟩,trivial⟩ rfl rfl ⟨⟨rfl,by kernel_rfl⟩,trivial⟩,h⟩
  refine zw ?_
  exact ⟨(i3,l2),zB1 (n:=63) (m:=1) [0] (l:=[(0,(AV.hd 0)),(1,(li uB)),(2,(AV.clo g_a_cmp caps_a_cmp)),(6,(li 20)),(7,(li i3))]) ⟨⟨Sub.refl _,by kernel_rfl⟩,⟨Sub.refl _,by kernel_rfl⟩,⟨zFH hnr_a_cmp,zFI hnr_a_cmp⟩,⟨Sub.refl _,by kernel_rfl⟩,⟨Sub.refl _,by kernel_rfl⟩,trivial⟩ rfl rfl ⟨⟨rfl,by kernel_rfl⟩,trivial⟩,h⟩
 clear h
 rintro ⟨i1,l1⟩ h
 unfold zCI at h
 refine zH<|zC<|zA (zB rfl)<|zA (zB rfl)<|zA (zB rfl)<|zA (zB rfl) ?_
 refine zR h fun x1 w1 h=>zCt (k:=0) (la:=[AV.hd 0,li i1,li uB,AV.clo g_a_cmp caps_a_cmp]) (la':=[AV.hd 0,li i1,li uB,AV.clo g_a_cmp caps_a_cmp]) (r:=(.tup [])) (S:=[]) (en' := .vec 3 1 (List.map cI x1)) Tryz.func145 rfl (by kernel_rfl) (.fn 145) rfl ⟨zB0.hd,zB0.of (zAs.nr rfl),zB0.of (zAs.nr rfl),zB0.of (zAs.clo (zEJ.nrs hnr_a_cmp)),trivial⟩ rfl rfl rfl rfl (zDU hcf_a_cmp hcb_a_cmp hcn_a_cmp hnr_a_cmp hg_a_cmp w1) rfl (.inl rfl)<|zF<|zQ<|zq (σ:=Int) (fun i2=>mkE [(0,(AV.hd 0)),(1,(li uB)),(2,(AV.clo g_a_cmp caps_a_cmp)),(6,(li i2))]) (fun i2=>[.vec 3 1 (List.map cI x1)]) (fun n0 i2=>zAc uB x1 n0 i2) 20 h (fun _=>rfl) (zB1 (n:=63) (m:=1) [0] (l:=[(0,(AV.hd 0)),(1,(li uB)),(2,(AV.clo g_a_cmp caps_a_cmp)),(6,(li 20))]) ⟨⟨Sub.refl _,by kernel_rfl⟩,⟨Sub.refl _,by kernel_rfl⟩,⟨zFH hnr_a_cmp,zFI hnr_a_cmp⟩,⟨Sub.refl _,by kernel_rfl⟩,trivial⟩ rfl rfl ⟨⟨rfl,by kernel_rfl⟩,trivial⟩) ?_
 clear h
 intro n0 i2 h
 replace h:zBY uB x1 (zAc uB x1 n0) i2=some r:=h
 unfold zBY at h
 refine zH<|zH<|zC<|zA (zB rfl)<|zA (zB rfl)<|zA (zf rfl rfl) ?_
 refine zF ?_
 refine zX h rfl (fun b1 h => ?_) (fun b1 h => ?_)
 ·refine zP<|zQ<|zH<|zC<|zA (zB rfl)<|zM h fun b2 h => ?_
  refine zA (zLw (a:=2) (b:=i2) rfl rfl b2)<|zA (zD rfl)<|zA (zD rfl)<|zF ?_
  refine zt (r:=r) (fun (_:Unit)=>mkE [(0,(AV.hd 0)),(1,(li uB)),(2,(AV.clo g_a_cmp caps_a_cmp)),(6,(li i2)),(7,(li 0))]) (fun _=>[.vec 3 1 (List.map cI x1)]) (fun _=>zDJ (zAc uB x1 n0) uB i2) ?_ ?_
  ·
   refine zQ<|zq (σ:=Unit) (fun _=>mkE [(0,(AV.hd 0)),(1,(li uB)),(2,(AV.clo g_a_cmp caps_a_cmp)),(6,(li i2)),(7,(li 0)),(8,(li (2*i2)))]) (fun _=>[.vec 3 1 (List.map cI x1)]) (fun n1 _=>zCD (zAc uB x1 n0) uB i2 n1) () h (fun _=>rfl) (zB1 (n:=63) (m:=1) [0] (l:=[(0,(AV.hd 0)),(1,(li uB)),(2,(AV.clo g_a_cmp caps_a_cmp)),(6,(li i2)),(7,(li 0)),(8,(li (2*i2)))]) ⟨⟨Sub.refl _,by kernel_rfl⟩,⟨Sub.refl _,by kernel_rfl⟩,⟨zFH hnr_a_cmp,zFI hnr_a_cmp⟩,⟨Sub.refl _,by kernel_rfl⟩,⟨Sub.refl _,by kernel_rfl⟩,⟨Sub.refl _,by kernel_rfl⟩,trivial⟩ rfl rfl ⟨⟨rfl,by kernel_rfl⟩,trivial⟩) ?_
   clear h
   intro n1 _ h
   replace h:zDP (zAc uB x1 n0) uB i2 (zCD (zAc uB x1 n0) uB i2 n1)=some r:=h
   unfold zDP at h
   refine zH<|zH<|zC<|zA (zB rfl)<|zA (zB rfl)<|zA (zCu rfl rfl) ?_
   refine zF ?_
   refine zX h rfl (fun b6 h => ?_) (fun b6 h => ?_)
   ·refine zP<|zQ<|zH<|zC<|zA (zB rfl)<|zA (zB rfl) ?_
    refine zA (zB rfl)<|zA (zB rfl)<|zM h fun b7 h=>zA (ze rfl rfl b7)<|zA (zB rfl)<|zA (zB rfl) ?_
    exact absurd h (by simp)
   refine zw ?_
   exact ⟨(),zB1 (n:=63) (m:=1) [0] (l:=[(0,(AV.hd 0)),(1,(li uB)),(2,(AV.clo g_a_cmp caps_a_cmp)),(6,(li i2)),(7,(li 0))]) ⟨⟨Sub.refl _,by kernel_rfl⟩,⟨Sub.refl _,by kernel_rfl⟩,⟨zFH hnr_a_cmp,zFI hnr_a_cmp⟩,⟨Sub.refl _,by kernel_rfl⟩,⟨Sub.refl _,by kernel_rfl⟩,trivial⟩ rfl rfl ⟨⟨rfl,by kernel_rfl⟩,trivial⟩,h⟩
  clear h
  intro _ h
  unfold zDJ at h
  refine zH<|zH<|zC<|zA (zB rfl)<|zA (zB rfl)<|zM h fun b3 h => ?_
  refine zA (ze rfl rfl b3)<|zA (zD rfl)<|zF<|zH<|zC<|zA (zB rfl) ?_
  refine zA (zB rfl)<|zA (zf rfl rfl)<|zF ?_
  refine zX h rfl (fun b4 h => ?_) (fun b4 h => ?_)
  ·refine zC<|zA (zB rfl)<|zA (zB rfl)<|zA (zB rfl)<|zA (zB rfl)<|zA (zB rfl) ?_
   exact absurd h (by simp)
  refine zP<|zC<|zA (zB rfl)<|zM h fun b5 h=>zA (zLw (a:=i2) (b:=2) rfl rfl b5)<|zA (zD rfl) ?_
  refine zF ?_
  exact ⟨(i2*2),zB1 (n:=63) (m:=1) [0] (l:=[(0,(AV.hd 0)),(1,(li uB)),(2,(AV.clo g_a_cmp caps_a_cmp)),(6,(li (i2*2)))]) ⟨⟨Sub.refl _,by kernel_rfl⟩,⟨Sub.refl _,by kernel_rfl⟩,⟨zFH hnr_a_cmp,zFI hnr_a_cmp⟩,⟨Sub.refl _,by kernel_rfl⟩,trivial⟩ rfl rfl ⟨⟨rfl,by kernel_rfl⟩,trivial⟩,h⟩
 refine zw ?_
 obtain rfl:=Option.some.inj h
 exact ⟨mkE [],[.vec 3 1 (List.map cI x1)],z9 [0] rfl rfl (by kernel_rfl),zLX rfl⟩
theorem zHd {I : List Int} {uE : Int → Int → Option Int} {g_a_cmp : FuncId} {cf_a_cmp : Func} {code_a_cmp : Code} {caps_a_cmp : List AV} (hcf_a_cmp : Tryz.prog.funcs[g_a_cmp]? = some cf_a_cmp) (hcb_a_cmp : cf_a_cmp.body = some code_a_cmp) (hcn_a_cmp : (cf_a_cmp.name == "runtime.NumGoroutine") = false) (hnr_a_cmp : caps_a_cmp.all nr = true) (hg_a_cmp : ∀ {x0 : Int} {x1 : Int} {y : Int}, uE x0 x1 = some y → PFn Tryz.prog g_a_cmp ((li x0) :: (li x1) :: caps_a_cmp) (li y)) {r : (List Int)} (h : zBF I uE = some r) : AFn Tryz.prog 103 [(AV.hd 0), (AV.clo g_a_cmp caps_a_cmp)] [.vec 3 1 (List.map cI I)] (.tup []) [.vec 3 1 (List.map cI r)] := by
 refine zEX Tryz.func103 rfl Tryz.ntmps103 Tryz.results103 rfl ?_
 unfold zBF at h
 refine zC<|zA (zB rfl)<|zA (zB rfl)<|zA (zDF (f:=cI) (l:=I) Tryz.underlying22 rfl rfl)<|zA (zB rfl)<|zR h fun x1 w1 h => ?_
 refine zCt (k:=0) (la:=[AV.hd 0,(li (I.length:Int)),AV.clo g_a_cmp caps_a_cmp]) (la':=[AV.hd 0,(li (I.length:Int)),AV.clo g_a_cmp caps_a_cmp]) (r:=(.tup [])) (S:=[]) (en' := .vec 3 1 (List.map cI x1)) Tryz.func136 rfl (by kernel_rfl) (.fn 136) rfl ⟨zB0.hd,zB0.of (zAs.nr rfl),zB0.of (zAs.clo (zEJ.nrs hnr_a_cmp)),trivial⟩ rfl rfl rfl rfl (zJN hcf_a_cmp hcb_a_cmp hcn_a_cmp hnr_a_cmp hg_a_cmp w1) rfl (.inl rfl)<|zF ?_
 obtain rfl:=Option.some.inj h
 exact ⟨mkE [],[.vec 3 1 (List.map cI x1)],z9 [0] rfl rfl (by kernel_rfl),zLX rfl⟩
theorem zJ9 {W:List zi} {R:Int} {uR:Bool} {r:(List Int)×Int} (h:zDn W R uR=some r):PFn Tryz.prog 53 [ls zO W,li R,(AV.lit (.bool uR))] (AV.tup [ls cI r.1,li r.2]):=by
 refine zo Tryz.func53 rfl Tryz.ntmps53 Tryz.results53 rfl ?_
 unfold zDn at h
 refine zH<|zC<|za (H':=[.box 23 [ls zO W]]) (zJ4 (t:=23) (a:=(ls zO W)) rfl rfl)<|za (H':=[.box 23 [ls zO W],.box 3 [li R]]) (zJ4 (t:=3) (a:=(li R)) rfl rfl)<|zA (zD rfl)<|zA (zD rfl) ?_
 refine zF<|zH<|zH<|zC<|zA (zN Tryz.isAgg23 rfl rfl rfl rfl)<|zA (zN Tryz.isAgg3 rfl rfl rfl rfl) ?_
 refine zR h fun x1 w1 h=>zh Tryz.func100 rfl (by kernel_rfl) (.fn 100) rfl rfl (zMg w1) rfl<|zA (zD rfl)<|zF<|zH<|zC ?_
 refine zA (zB rfl)<|zA (zz rfl rfl)<|zF ?_
 refine zX h rfl (fun b1 h => ?_) (fun b1 h => ?_)
 ·refine zH<|zC<|zA (zB rfl)<|zA (zD rfl)<|zA (zD rfl)<|zF ?_
  refine zd ?_
  cases h
  exact zBy (zJE (zAH rfl rfl) zAt.nils) (zAH rfl rfl) rfl
 refine zP<|zH<|zC<|zA (zD rfl)<|zF ?_
 refine zt (r:=r) (fun (l1:List Int)=>mkE [(3,(AV.ptr 0 0)),(4,(AV.ptr 1 0)),(9,(AV.hd 2))]) (fun l1=>[.box 23 [ls zO W],.box 3 [li R],.vec 3 1 (List.map cI l1)]) (fun l1=>zF3 W R l1) ?_ ?_
 ·
  refine zH<|zC<|zA (zN Tryz.isAgg23 rfl rfl rfl rfl)<|zA (zV Tryz.underlying23 rfl)<|zA (zB rfl)<|zF ?_
  refine zQ<|zq (σ:=Int×(List Int)) (fun (i1,l2)=>mkE [(2,(AV.lit (.bool uR))),(3,(AV.ptr 0 0)),(4,(AV.ptr 1 0)),(9,(AV.hd 2)),(19,(ls zO W)),(20,(li (W.length:Int))),(21,(li i1))]) (fun (i1,l2)=>[.box 23 [ls zO W],.box 3 [li R],.vec 3 1 (List.map cI l2)]) (fun n0 (i1,l2)=>zDH W R uR n0 i1 l2) (0,[]) h (fun _=>rfl) (Rep.trans (zKr (d:=9) (el:=3) (sz:=1) rfl) (z9 [0,1,2] (l:=[(2,(AV.lit (.bool uR))),(3,(AV.ptr 0 0)),(4,(AV.ptr 1 0)),(9,(AV.hd 2)),(19,(ls zO W)),(20,(li (W.length:Int))),(21,(li 0))]) rfl rfl (by kernel_rfl))) ?_
  clear h
  rintro n0 ⟨i1,l2⟩ h
  replace h:zBd W R uR (zDH W R uR n0) i1 l2=some r:=h
  unfold zBd at h
  refine zH<|zC<|zA (zf rfl rfl)<|zF<|zH ?_
  refine zX h rfl (fun b2 h => ?_) (fun b2 h => ?_)
  ·refine zP ?_
   refine zt (r:=r) (fun (l3:List Int)=>mkE [(2,(AV.lit (.bool uR))),(3,(AV.ptr 0 0)),(4,(AV.ptr 1 0)),(9,(AV.hd 2)),(19,(ls zO W)),(20,(li (W.length:Int))),(21,(li i1))]) (fun l3=>[.box 23 [ls zO W],.box 3 [li R],.vec 3 1 (List.map cI l3)]) (fun l3=>zDE (zDH W R uR n0) i1 l3) ?_ ?_
   ·
    refine zQ<|zH<|zC<|zA (zB rfl)<|zM h fun b4 h=>zA (zT Tryz.underlying23 Tryz.sizeOf51 (fun _=>rfl) rfl rfl b4) ?_
    refine zA (zAi (row:=(zO (at_ W i1))) (o:=0) (m:=10) (la:=(zO (at_ W i1))) Tryz.isAgg51 Tryz.sizeOf51 rfl rfl rfl)<|za (H':=[.box 23 [ls zO W],.box 3 [li R],.vec 3 1 (List.map cI l2),.box 51 (zO ⟨0,0,0,0,0,(List.replicate 5 ([]:List Int))⟩)]) zv0<|zA (zD rfl)<|zj (H':=[.box 23 [ls zO W],.box 3 [li R],.vec 3 1 (List.map cI l2),.box 51 (zO (at_ W i1))]) (zY (k:=3) (o:=0) (cs:=(zO ⟨0,0,0,0,0,(List.replicate 5 ([]:List Int))⟩)) (la:=(zO (at_ W i1))) Tryz.sizeOf51 rfl rfl rfl rfl)<|zF<|zH ?_
    refine zC<|zA (zB rfl)<|zA (zBE (t:=uR) rfl)<|zA (zB rfl)<|zW rfl rfl (fun c1=>zp.step (zK Tryz.underlying51 rfl rfl Tryz.sizeOf3 rfl))<|zW rfl rfl (fun c2=>zp.step (zN Tryz.isAgg3 (z6 rfl c2) rfl rfl rfl)) ?_
    refine zW rfl rfl (fun c3=>zp.step (zAv (z6 rfl c3) rfl))<|zA (zg rfl rfl)<|zF ?_
    refine zX h rfl (fun b5 h => ?_) (fun b5 h => ?_)
    ·refine zC<|zA (zB rfl)<|zA (zB rfl)<|zEP (a:=(li i1)) zE0 Tryz.underlying22 rfl rfl rfl rfl<|zM h fun b6 h=>zBp (f:=cI) (k:=2) (j:=4) (l:=l2) (l':=[i1]) zE0 (fun _=>rfl) Tryz.underlying22 rfl rfl rfl rfl b6 ?_
     refine zA (zD rfl)<|zF ?_
     exact ⟨(l2++[i1]),z9 [0,1,5] rfl rfl (by kernel_rfl),h⟩
    refine zP ?_
    exact ⟨l2,z9 [0,1,2] rfl rfl (by kernel_rfl),h⟩
   clear h
   intro l3 h
   unfold zDE at h
   refine zC<|zM h fun b3 h=>zA (ze rfl rfl b3)<|zA (zB rfl)<|zF ?_
   exact ⟨((i1+1),l3),z9 [0,1,2] rfl rfl (by kernel_rfl),h⟩
  refine zw ?_
  exact ⟨l2,z9 [0,1,2] rfl rfl (by kernel_rfl),h⟩
 clear h
 intro l1 h
 unfold zF3 at h
 refine zH<|zC<|zA (zMA (la:=[AV.ptr 1 0,AV.ptr 0 0]) rfl)<|za (H':=[.box 23 [ls zO W],.box 3 [li R],.vec 3 1 (List.map cI l1),.box 100 [AV.lit .nilFunc]]) zv8<|zj (H':=[.box 23 [ls zO W],.box 3 [li R],.vec 3 1 (List.map cI l1),.box 100 [(AV.clo 101 [AV.ptr 1 0,AV.ptr 0 0])]]) (zC1 (k:=3) (o:=0) (cs:=[AV.lit .nilFunc]) (a:=(AV.clo 101 [AV.ptr 1 0,AV.ptr 0 0])) Tryz.sizeOf100 rfl rfl rfl rfl rfl)<|zF ?_
 refine zH<|zC<|zA (zB rfl)<|zA (zMA (la:=[AV.ptr 3 0]) rfl)<|zR h fun x2 w2 h=>zCt (k:=2) (la:=[AV.hd 2,(AV.clo 104 [AV.ptr 3 0])]) (la':=[AV.hd 0,(AV.clo 104 [(AV.rp [(AV.clo 101 [(AV.rp [li R] 0),(AV.rp [ls zO W] 0)])] 0)])]) (r:=(.tup [])) (S:=[0,1,3]) (en' := .vec 3 1 (List.map cI x2)) Tryz.func103 rfl (by kernel_rfl) (.fn 103) rfl ⟨zB0.hd,zB0.of (zAs.clo (⟨zAs.ptrV (cs:=[(AV.clo 101 [AV.ptr 1 0,AV.ptr 0 0])]) rfl rfl rfl ⟨zAs.clo (⟨zAs.ptr (cs:=[li R]) rfl rfl rfl,zAs.ptr (cs:=[ls zO W]) rfl rfl rfl,trivial⟩),trivial⟩,trivial⟩)),trivial⟩ rfl rfl rfl rfl (zHd Tryz.func104 rfl (by kernel_rfl) rfl (fun hy=>zLs Tryz.func101 rfl (by kernel_rfl) rfl (fun hy=>zLt  hy) hy) w2) rfl (.inr ⟨rfl,zSd⟩) ?_
 refine zF<|zH<|zC<|zA (zB rfl)<|zA (zD rfl)<|zA (zD rfl) ?_
 refine zF<|zAT (zDR (j:=2) (ds:=[6,9,39,42]) (rows':=List.map cI x2) rfl (zAL (fun _=>rfl)) ⟨rfl,rfl,rfl,rfl,trivial⟩)<|zd ?_
 cases h
 exact zBy (zAH rfl rfl) (zAH rfl rfl) rfl
theorem zGt {X:List zi} {r:List zi} (h:zBf X=some r):PFn Tryz.prog 106 [ls zO X] (AV.osl 51 10 (List.map zO r)):=by
  refine zo Tryz.func106 rfl Tryz.ntmps106 Tryz.results106 rfl ?_
  unfold zBf at h
  refine zM h fun b1 h => ?_
  obtain rfl:=Option.some.inj h
  refine zH<|zC<|zA (a:=(.lit (.slice none 0 0))) (zD rfl)<|zF<|zH<|zH ?_
  refine zC<|zA (a:=(ls zO X)) (zB rfl) ?_
  refine zL7 (full:=false) (rows:=List.map zO X) Tryz.underlying23 rfl (fun b hb => ?_)
  refine zF ?_
  refine zNe b rfl (fun hbt => ?_) (fun hbt => ?_)
  · obtain rfl:X=[]:=List.map_eq_nil_iff.1 (hb hbt)
    refine zH<|zC<|zA (a:=(.lit (.slice none 0 0))) (zD rfl)<|zF<|zd ?_
    exact zu (zJE (zAH rfl rfl) zAt.nilo)
  · refine zP ?_
    refine zH<|zC<|zNE zOc Tryz.underlying23<|zA (a:=(ls zO X)) (zB rfl)<|zFr (f:=zO) (k:=0) (l:=[]) (l':=X) zOc (fun _=>rfl) Tryz.underlying23 rfl rfl rfl b1<|zA (a:=(.hd 1)) (zD rfl) ?_
    refine zF<|zd ?_
    exact zu (zWy (rows:=List.map zO ([]++X)) rfl rfl)
theorem zE4 {X:List zL} {r:List zL} (h:zAz X=some r):PFn Tryz.prog 107 [ls zG X] (AV.osl 55 1 (List.map zG r)):=by
  refine zo Tryz.func107 rfl Tryz.ntmps107 Tryz.results107 rfl ?_
  unfold zAz at h
  refine zM h fun b1 h => ?_
  obtain rfl:=Option.some.inj h
  refine zH<|zC<|zA (a:=(.lit (.slice none 0 0))) (zD rfl)<|zF<|zH<|zH ?_
  refine zC<|zA (a:=(ls zG X)) (zB rfl) ?_
  refine zL7 (full:=false) (rows:=List.map zG X) Tryz.underlying24 rfl (fun b hb => ?_)
  refine zF ?_
  refine zNe b rfl (fun hbt => ?_) (fun hbt => ?_)
  · obtain rfl:X=[]:=List.map_eq_nil_iff.1 (hb hbt)
    refine zH<|zC<|zA (a:=(.lit (.slice none 0 0))) (zD rfl)<|zF<|zd ?_
    exact zu (zJE (zAH rfl rfl) zAt.nilo)
  · refine zP ?_
    refine zH<|zC<|zNE zOb Tryz.underlying24<|zA (a:=(ls zG X)) (zB rfl)<|zFr (f:=zG) (k:=0) (l:=[]) (l':=X) zOb (fun _=>rfl) Tryz.underlying24 rfl rfl rfl b1<|zA (a:=(.hd 1)) (zD rfl) ?_
    refine zF<|zd ?_
    exact zu (zWy (rows:=List.map zG ([]++X)) rfl rfl)
theorem zJl {X:List (List Int)} {r:List (List Int)} (h:zDS X=some r):PFn Tryz.prog 108 [(ls (cS cI) X)] (AV.osl 22 1 (List.map (cS cI) r)):=by
  refine zo Tryz.func108 rfl Tryz.ntmps108 Tryz.results108 rfl ?_
  unfold zDS at h
  refine zM h fun b1 h => ?_
  obtain rfl:=Option.some.inj h
  refine zH<|zC<|zA (a:=(.lit (.slice none 0 0))) (zD rfl)<|zF<|zH<|zH ?_
  refine zC<|zA (a:=(ls (cS cI) X)) (zB rfl) ?_
  refine zL7 (full:=false) (rows:=List.map (cS cI) X) Tryz.underlying53 rfl (fun b hb => ?_)
  refine zF ?_
  refine zNe b rfl (fun hbt => ?_) (fun hbt => ?_)
  · obtain rfl:X=[]:=List.map_eq_nil_iff.1 (hb hbt)
    refine zH<|zC<|zA (a:=(.lit (.slice none 0 0))) (zD rfl)<|zF<|zd ?_
    exact zu (zJE (zAH rfl rfl) zAt.nilo)
  · refine zP ?_
    refine zH<|zC<|zNE zOW Tryz.underlying53<|zA (a:=(ls (cS cI) X)) (zB rfl)<|zFr (f:=(cS cI)) (k:=0) (l:=[]) (l':=X) zOW (fun _=>rfl) Tryz.underlying53 rfl rfl rfl b1<|zA (a:=(.hd 1)) (zD rfl) ?_
    refine zF<|zd ?_
    exact zu (zWy (rows:=List.map (cS cI) ([]++X)) rfl rfl)
theorem zFP {A:zJ} {r:zJ} (h:zCs A=some r):PFn Tryz.prog 54 [(AV.agg (zI A))] (AV.agg ([ls cI r.nodes]++([li r.batch]++([li r.high]++([AV.osl 51 10 (List.map zO r.zones)]++([AV.osl 55 1 (List.map zG r.caches)]++[])))))):=by
 refine zo Tryz.func54 rfl Tryz.ntmps54 Tryz.results54 rfl ?_
 unfold zCs at h
 refine zH<|zC<|za (H':=[.box 26 (zI A)]) (zv (t:=26) rfl)<|za (H':=[.box 26 (zI A),.box 26 (zI ⟨[],0,0,[],[]⟩)]) zv3<|zF<|zH ?_
 refine zR h fun x1 w1 h=>zR h fun x2 w2 h=>zR h fun x3 w3 h => ?_
 refine zAl (n:=82) (m:=0) [.head 0 0,.head 0 0,.tail 0,.head 0 1,.head 0 1,.tail 1,.head 0 2,.head 0 2,.tail 2,.head 1 3,.tail 3,.head 4 4,.tail 4,.head 5 5,.tail 5] [2,5,8,10,12,14] [AV.ptr 0 0,ls cI A.nodes,AV.hd 2,AV.ptr 0 3,ls zO A.zones,AV.hd 3,AV.ptr 0 4,ls zG A.caches,AV.hd 4,AV.ptr 0 0,.any,AV.ptr 0 3,.any,AV.ptr 0 4,.any] [[.box 26 (zI A),.box 26 (zI ⟨[],0,0,[],[]⟩)],[.box 26 (zI A),.box 26 (zI ⟨[],0,0,[],[]⟩),.vec 3 1 (List.map cI x1)],[.box 26 (zI A),.box 26 (zI ⟨[],0,0,[],[]⟩),.vec 3 1 (List.map cI x1),.vec 51 10 (List.map zO x2)],[.box 26 (zI A),.box 26 (zI ⟨[],0,0,[],[]⟩),.vec 3 1 (List.map cI x1),.vec 51 10 (List.map zO x2),.vec 55 1 (List.map zG x3)],[.box 26 [AV.hd 2,li A.batch,li A.high,ls zO A.zones,ls zG A.caches],.box 26 (zI ⟨[],0,0,[],[]⟩),.vec 3 1 (List.map cI x1),.vec 51 10 (List.map zO x2),.vec 55 1 (List.map zG x3)],[.box 26 [AV.hd 2,li A.batch,li A.high,AV.hd 3,ls zG A.caches],.box 26 (zI ⟨[],0,0,[],[]⟩),.vec 3 1 (List.map cI x1),.vec 51 10 (List.map zO x2),.vec 55 1 (List.map zG x3)],[.box 26 [AV.hd 2,li A.batch,li A.high,AV.hd 3,AV.hd 4],.box 26 (zI ⟨[],0,0,[],[]⟩),.vec 3 1 (List.map cI x1),.vec 51 10 (List.map zO x2),.vec 55 1 (List.map zG x3)]] (by kernel_rfl) (by kernel_rfl) ⟨D1 fun e s p=>zK (k:=0) (o:=0) (off:=0) Tryz.underlying26 rfl rfl Tryz.sizeOf22 (s 1 rfl),D1 fun e s p=>zN (k:=0) (o:=0) Tryz.isAgg22 p.1 rfl rfl rfl,?_,⟨D1 fun e s p=>zK (k:=0) (o:=0) (off:=3) Tryz.underlying26 rfl rfl Tryz.sizeOf23 (s 1 rfl),D1 fun e s p=>zK (k:=0) (o:=0) (off:=3) Tryz.underlying26 rfl rfl Tryz.sizeOf23 (s 1 rfl)⟩,⟨D1 fun e s p=>zN (k:=0) (o:=3) Tryz.isAgg23 p.1 rfl rfl rfl,D1 fun e s p=>zN (k:=0) (o:=3) Tryz.isAgg23 p.1 rfl rfl rfl⟩,?_,⟨D1 fun e s p=>zK (k:=0) (o:=0) (off:=4) Tryz.underlying26 rfl rfl Tryz.sizeOf24 (s 1 rfl),D1 fun e s p=>zK (k:=0) (o:=0) (off:=4) Tryz.underlying26 rfl rfl Tryz.sizeOf24 (s 1 rfl),D1 fun e s p=>zK (k:=0) (o:=0) (off:=4) Tryz.underlying26 rfl rfl Tryz.sizeOf24 (s 1 rfl)⟩,⟨D1 fun e s p=>zN (k:=0) (o:=4) Tryz.isAgg24 p.1 rfl rfl rfl,D1 fun e s p=>zN (k:=0) (o:=4) Tryz.isAgg24 p.1 rfl rfl rfl,D1 fun e s p=>zN (k:=0) (o:=4) Tryz.isAgg24 p.1 rfl rfl rfl⟩,?_,⟨D1 fun e s p=>zK (k:=0) (o:=0) (off:=0) Tryz.underlying26 rfl rfl Tryz.sizeOf22 (s 1 rfl),D1 fun e s p=>zK (k:=0) (o:=0) (off:=0) Tryz.underlying26 rfl rfl Tryz.sizeOf22 (s 1 rfl),D1 fun e s p=>zK (k:=0) (o:=0) (off:=0) Tryz.underlying26 rfl rfl Tryz.sizeOf22 (s 1 rfl)⟩,?_,D1 fun e s p=>zK (k:=0) (o:=0) (off:=3) Tryz.underlying26 rfl rfl Tryz.sizeOf23 (s 1 rfl),?_,D1 fun e s p=>zK (k:=0) (o:=0) (off:=4) Tryz.underlying26 rfl rfl Tryz.sizeOf24 (s 1 rfl),?_,trivial⟩ ?_
 ·
  intro e3 s3 p3
  refine zHI (T:=3) (sz:=1) (rows:=List.map cI x1) (la:=[ls cI A.nodes]) (la':=[ls cI A.nodes]) (S:=[]) Tryz.func80 rfl (by kernel_rfl) (.fn 80) (zAM p3.1 rfl) ⟨zAs.nr rfl,trivial⟩ (zAU w1) (.inl rfl) ?_
  exact zF ⟨fun _=>rfl,rfl⟩
 ·
  intro e8 s8 p8
  refine zHI (T:=51) (sz:=10) (rows:=List.map zO x2) (la:=[ls zO A.zones]) (la':=[ls zO A.zones]) (S:=[]) Tryz.func106 rfl (by kernel_rfl) (.fn 106) (zAM p8.1 rfl) ⟨zAs.nr rfl,trivial⟩ (zGt w2) (.inl rfl) ?_
  exact zF ⟨fun _=>rfl,rfl⟩
 ·
  intro e15 s15 p15
  refine zHI (T:=55) (sz:=1) (rows:=List.map zG x3) (la:=[ls zG A.caches]) (la':=[ls zG A.caches]) (S:=[]) Tryz.func107 rfl (by kernel_rfl) (.fn 107) (zAM p15.1 rfl) ⟨zAs.nr rfl,trivial⟩ (zE4 w3) (.inl rfl) ?_
  exact zF ⟨fun _=>rfl,rfl⟩
 ·
  intro e19 s19 p19
  refine zj (H':=[.box 26 [AV.hd 2,li A.batch,li A.high,ls zO A.zones,ls zG A.caches],.box 26 (zI ⟨[],0,0,[],[]⟩),.vec 3 1 (List.map cI x1),.vec 51 10 (List.map zO x2),.vec 55 1 (List.map zG x3)]) (zC1 (k:=0) (o:=0) (cs:=(zI A)) (a:=(AV.hd 2)) Tryz.sizeOf22 (by exact p19.1) rfl rfl (by exact p19.2.2.2.2.2.1) rfl) ?_
  exact zF ⟨fun _=>rfl,rfl⟩
 ·
  intro e21 s21 p21
  refine zj (H':=[.box 26 [AV.hd 2,li A.batch,li A.high,AV.hd 3,ls zG A.caches],.box 26 (zI ⟨[],0,0,[],[]⟩),.vec 3 1 (List.map cI x1),.vec 51 10 (List.map zO x2),.vec 55 1 (List.map zG x3)]) (zC1 (k:=0) (o:=3) (cs:=[AV.hd 2,li A.batch,li A.high,ls zO A.zones,ls zG A.caches]) (a:=(AV.hd 3)) Tryz.sizeOf23 (by exact p21.1) rfl rfl (by exact p21.2.2.2.2.2.2.2.2.1) rfl) ?_
  exact zF ⟨fun _=>rfl,rfl⟩
 ·
  intro e23 s23 p23
  refine zj (H':=[.box 26 [AV.hd 2,li A.batch,li A.high,AV.hd 3,AV.hd 4],.box 26 (zI ⟨[],0,0,[],[]⟩),.vec 3 1 (List.map cI x1),.vec 51 10 (List.map zO x2),.vec 55 1 (List.map zG x3)]) (zC1 (k:=0) (o:=4) (cs:=[AV.hd 2,li A.batch,li A.high,AV.hd 3,ls zG A.caches]) (a:=(AV.hd 4)) Tryz.sizeOf24 (by exact p23.1) rfl rfl (by exact p23.2.2.2.2.2.2.2.2.2.2.2.1) rfl) ?_
  exact zF ⟨fun _=>rfl,rfl⟩
 intro e24 s24 hq1
 refine zAT (zBM (l:=[(1,(AV.ptr 0 0)),(2,(AV.ptr 1 0))]) ⟨s24 1 rfl,s24 2 rfl,trivial⟩) ?_
 refine zt (r:=r) (fun (l1:List zi)=>mkE [(1,(AV.ptr 0 0)),(2,(AV.ptr 1 0))]) (fun l1=>[.box 26 [AV.osl 3 1 (List.map cI x1),li A.batch,li A.high,AV.osl 51 10 (List.map zO l1),AV.osl 55 1 (List.map zG x3)],.box 26 (zI ⟨[],0,0,[],[]⟩)]) (fun l1=>zFL A x1 x3 l1) ?_ ?_
 ·
  refine zH<|zC<|zA (zK Tryz.underlying26 rfl rfl Tryz.sizeOf23 rfl)<|zA (zN Tryz.isAgg23 rfl rfl rfl rfl)<|zA (zDF (f:=zO) (l:=x2) Tryz.underlying23 rfl rfl)<|zA (zB rfl) ?_
  refine zF<|zQ<|zq (σ:=Int×(List zi)) (fun (i3,l7)=>mkE [(1,(AV.ptr 0 0)),(2,(AV.ptr 1 0)),(22,(li (x2.length:Int))),(23,(li i3))]) (fun (i3,l7)=>[.box 26 [AV.osl 3 1 (List.map cI x1),li A.batch,li A.high,AV.osl 51 10 (List.map zO l7),AV.osl 55 1 (List.map zG x3)],.box 26 (zI ⟨[],0,0,[],[]⟩)]) (fun n2 (i3,l7)=>zBU A x1 x2 x3 n2 i3 l7) (0,x2) h (fun _=>rfl) (Rep.trans (z7 (k:=0) (j:=2) (o:=0) rfl rfl rfl rfl) (Rep.trans (z7 (k:=0) (j:=3) (o:=3) rfl rfl rfl rfl) (Rep.trans (z7 (k:=0) (j:=4) (o:=4) rfl rfl rfl rfl) (z9 [0,1] (l:=[(1,(AV.ptr 0 0)),(2,(AV.ptr 1 0)),(22,(li (x2.length:Int))),(23,(li 0))]) rfl rfl (by kernel_rfl))))) ?_
  clear h
  rintro n2 ⟨i3,l7⟩ h
  replace h:zCA A x1 x2 x3 (zBU A x1 x2 x3 n2) i3 l7=some r:=h
  unfold zCA at h
  refine zH<|zC<|zA (zf rfl rfl)<|zF<|zH ?_
  refine zX h rfl (fun b8 h => ?_) (fun b8 h => ?_)
  ·refine zP ?_
   refine zt (r:=r) (fun (l8:List zi)=>mkE [(1,(AV.ptr 0 0)),(2,(AV.ptr 1 0)),(22,(li (x2.length:Int))),(23,(li i3))]) (fun l8=>[.box 26 [AV.osl 3 1 (List.map cI x1),li A.batch,li A.high,AV.osl 51 10 (List.map zO l8),AV.osl 55 1 (List.map zG x3)],.box 26 (zI ⟨[],0,0,[],[]⟩)]) (fun l8=>zFO (zBU A x1 x2 x3 n2) i3 l8) ?_ ?_
   ·
    refine zQ<|zH<|zC<|zA (zB rfl)<|zA (zD rfl)<|zF ?_
    refine zH<|zC<|zA (zB rfl)<|zF<|zQ<|zq (σ:=Int×(List zi)) (fun (i4,l9)=>mkE [(1,(AV.ptr 0 0)),(2,(AV.ptr 1 0)),(3,(li i3)),(22,(li (x2.length:Int))),(23,(li i3)),(26,(li i4))]) (fun (i4,l9)=>[.box 26 [AV.osl 3 1 (List.map cI x1),li A.batch,li A.high,AV.osl 51 10 (List.map zO l9),AV.osl 55 1 (List.map zG x3)],.box 26 (zI ⟨[],0,0,[],[]⟩)]) (fun n3 (i4,l9)=>zCx (zBU A x1 x2 x3 n2) i3 n3 i4 l9) (0,l7) h (fun _=>rfl) (z9 [0,1] rfl rfl (by kernel_rfl)) ?_
    clear h
    rintro n3 ⟨i4,l9⟩ h
    replace h:zCK (zBU A x1 x2 x3 n2) i3 (zCx (zBU A x1 x2 x3 n2) i3 n3) i4 l9=some r:=h
    unfold zCK at h
    refine zH<|zC<|zA (zf rfl rfl)<|zF<|zH ?_
    refine zX h rfl (fun b10 h => ?_) (fun b10 h => ?_)
    ·refine zP<|zH<|zQ<|zH<|zC<|zA (zB rfl) ?_
     refine zA (zD rfl)<|zF<|zAT (zAd (k:=0) (o:=3) (t':=51) (sz:=10) (rows:=List.map zO l9) rfl rfl)<|zM h fun b11 h=>zM h fun b12 h=>zR h fun x6 w6 h => ?_
     refine zAl (n:=82) (m:=0) [.head 0 0,.head 0 0,.head 0 0,.head 0 0,.head 0 0,.head 0 0,.head 0 0,.head 0 0,.head 0 0,.head 0 0,.head 0 0,.head 0 0,.head 0 0,.head 0 0,.head 0 0,.head 0 0,.tail 0] [16] [AV.ptr 0 3,AV.hd 2,li i3,li i4,AV.ptr 0 3,AV.hd 2,li i3,li i4,(AV.ptr 2 (i3.toNat*10)),(AV.ptr 2 (i3.toNat*10+5)),(AV.ptr 2 (i3.toNat*10+5+i4.toNat*1)),(ls cI (((at_ l9 i3).free).getD i4.toNat ([]:List Int))),ls cI x6,(AV.ptr 2 (i3.toNat*10)),(AV.ptr 2 (i3.toNat*10+5)),(AV.ptr 2 (i3.toNat*10+5+i4.toNat*1)),.any] [[.box 26 [AV.osl 3 1 (List.map cI x1),li A.batch,li A.high,AV.hd 2,AV.osl 55 1 (List.map zG x3)],.box 26 (zI ⟨[],0,0,[],[]⟩),.vec 51 10 (List.map zO l9)],[.box 26 [AV.osl 3 1 (List.map cI x1),li A.batch,li A.high,AV.hd 2,AV.osl 55 1 (List.map zG x3)],.box 26 (zI ⟨[],0,0,[],[]⟩),.vec 51 10 (List.map zO (l9.set i3.toNat ({ at_ l9 i3 with free:=zEN 5 ([]:List Int) ((at_ l9 i3).free) i4.toNat x6 })))]] (by kernel_rfl) (by kernel_rfl) ⟨D1 fun e s p=>zK (k:=0) (o:=0) (off:=3) Tryz.underlying26 rfl rfl Tryz.sizeOf23 (s 1 rfl),D1 fun e s p=>zN (k:=0) (o:=3) Tryz.isAgg23 p.1 rfl rfl rfl,D1 fun e s p=>zB (s 3 rfl),D1 fun e s p=>zB (s 4 rfl),D1 fun e s p=>zK (k:=0) (o:=0) (off:=3) Tryz.underlying26 rfl rfl Tryz.sizeOf23 (s 1 rfl),D1 fun e s p=>zN (k:=0) (o:=3) Tryz.isAgg23 p.1 rfl rfl rfl,D1 fun e s p=>zB (s 3 rfl),D1 fun e s p=>zB (s 4 rfl),D1 fun e s p=>zy (f:=zO) (l:=l9) (i:=i3) Tryz.underlying23 Tryz.sizeOf51 p.1 rfl p.2.1 b11,D1 fun e s p=>zK (k:=2) (o:=(i3.toNat*10)) (off:=5) Tryz.underlying51 rfl rfl Tryz.sizeOf49 p.1,D1 fun e s p=>zAO (m:=5) (s:=1) (i:=i4) (k:=2) (o:=(i3.toNat*10+5)) Tryz.underlying49 Tryz.sizeOf22 p.1 p.2.1 b12,D1 fun e s p=>zAq (f:=zO) (l:=l9) (i:=i3) (c:=5+i4.toNat) (a:=(ls cI (((at_ l9 i3).free).getD i4.toNat ([]:List Int)))) Tryz.isAgg22 p.1 rfl (by first | rfl | omega) b11 (zSC (n:=5) (g:=(eS cI)) (d:=([]:List Int)) (l:=(at_ l9 i3).free) (i:=i4.toNat) (zBW b12).2 ([(li ((at_ l9 i3).node))]++[(li ((at_ l9 i3).kind))]++[(li ((at_ l9 i3).start))]++[(li ((at_ l9 i3).count))]++[(li ((at_ l9 i3).min))]++[]) ([])) rfl,?_,D1 fun e s p=>zy (f:=zO) (l:=l9) (i:=i3) Tryz.underlying23 Tryz.sizeOf51 p.1 rfl p.2.1 b11,D1 fun e s p=>zK (k:=2) (o:=(i3.toNat*10)) (off:=5) Tryz.underlying51 rfl rfl Tryz.sizeOf49 p.1,D1 fun e s p=>zAO (m:=5) (s:=1) (i:=i4) (k:=2) (o:=(i3.toNat*10+5)) Tryz.underlying49 Tryz.sizeOf22 p.1 p.2.2.2.2.2.1 b12,?_,trivial⟩ ?_
     ·
      intro e37 s37 p36
      refine zA2 (r':=(ls cI x6)) (la:=[(ls cI (((at_ l9 i3).free).getD i4.toNat ([]:List Int)))]) (la':=[(ls cI (((at_ l9 i3).free).getD i4.toNat ([]:List Int)))]) (r:=(AV.osl 3 1 (List.map cI x6))) (S:=[]) Tryz.func80 rfl (by kernel_rfl) (.fn 80) (zAM p36.1 rfl) ⟨zAs.nr rfl,trivial⟩ (zAU w6) (.inl rfl) (congrArg (AV.sl false) (zAL (fun _=>rfl))) ?_
      exact zF ⟨fun _=>rfl,rfl⟩
     ·
      intro e41 s41 p40
      refine zj (H':=[.box 26 [AV.osl 3 1 (List.map cI x1),li A.batch,li A.high,AV.hd 2,AV.osl 55 1 (List.map zG x3)],.box 26 (zI ⟨[],0,0,[],[]⟩),.vec 51 10 (List.map zO (l9.set i3.toNat ({ at_ l9 i3 with free:=zEN 5 ([]:List Int) ((at_ l9 i3).free) i4.toNat x6 })))]) (zBt (k:=2) (o:=(i3.toNat*10+5+i4.toNat*1)) (f:=zO) (l:=l9) (i:=i3) (c:=5+i4.toNat) (a:=(ls cI x6)) (z:={ at_ l9 i3 with free:=zEN 5 ([]:List Int) ((at_ l9 i3).free) i4.toNat x6 }) Tryz.sizeOf22 (by exact p40.1) rfl (by first | rfl | omega) b11 (zVq b12 rfl) (by exact p40.2.2.2.2.2.2.2.2.2.2.2.2.2.2.2.1) rfl rfl (zSi (n:=5) (g:=(eS cI)) (d:=([]:List Int)) (l:=(at_ l9 i3).free) (i:=i4.toNat) (x:=x6) (zBW b12).2 ([(li ((at_ l9 i3).node))]++[(li ((at_ l9 i3).kind))]++[(li ((at_ l9 i3).start))]++[(li ((at_ l9 i3).count))]++[(li ((at_ l9 i3).min))]++[]) ([]))) ?_
      exact zF ⟨fun _=>rfl,rfl⟩
     intro e42 s42 hq2
     refine zAT (zBM (l:=[(1,(AV.ptr 0 0)),(2,(AV.ptr 1 0)),(3,(li i3)),(22,(li (x2.length:Int))),(23,(li i3)),(26,(li i4))]) ⟨s42 1 rfl,s42 2 rfl,s42 3 rfl,s42 22 rfl,s42 23 rfl,s42 26 rfl,trivial⟩)<|zC<|zM h fun b13 h=>zA (ze (a:=i4) (b:=1) rfl rfl b13)<|zA (zB (av:=(li (i4+1))) rfl)<|zF ?_
     exact ⟨((i4+1),(l9.set i3.toNat ({ at_ l9 i3 with free:=zEN 5 ([]:List Int) ((at_ l9 i3).free) i4.toNat x6 }))),Rep.trans (z7 (k:=0) (j:=2) (o:=3) rfl rfl rfl rfl) (z9 [0,1] (l:=[(1,(AV.ptr 0 0)),(2,(AV.ptr 1 0)),(3,(li i3)),(22,(li (x2.length:Int))),(23,(li i3)),(26,(li (i4+1)))]) rfl rfl (by kernel_rfl)),h⟩
    refine zw ?_
    exact ⟨l9,z9 [0,1] rfl rfl (by kernel_rfl),h⟩
   clear h
   intro l8 h
   unfold zFO at h
   refine zC<|zM h fun b9 h=>zA (ze rfl rfl b9)<|zA (zB rfl)<|zF ?_
   exact ⟨((i3+1),l8),z9 [0,1] rfl rfl (by kernel_rfl),h⟩
  refine zw ?_
  exact ⟨l7,z9 [0,1] rfl rfl (by kernel_rfl),h⟩
 clear h
 intro l1 h
 unfold zFL at h
 refine zt (r:=r) (fun (l2:List zL)=>mkE [(1,(AV.ptr 0 0)),(2,(AV.ptr 1 0))]) (fun l2=>[.box 26 [AV.osl 3 1 (List.map cI x1),li A.batch,li A.high,AV.osl 51 10 (List.map zO l1),AV.osl 55 1 (List.map zG l2)],.box 26 (zI ⟨[],0,0,[],[]⟩)]) (fun l2=>zHX A x1 l1 l2) ?_ ?_
 ·
  refine zH<|zC<|zA (zK Tryz.underlying26 rfl rfl Tryz.sizeOf24 rfl)<|zAA (zAd (k:=0) (o:=4) (t':=55) (sz:=1) (rows:=List.map zG x3) rfl rfl)<|zA (zN Tryz.isAgg24 rfl rfl rfl rfl)<|zA (zDF (f:=zG) (l:=x3) Tryz.underlying24 rfl rfl) ?_
  refine zA (zB rfl)<|zF<|zQ<|zq (σ:=Int×(List zL)) (fun (i1,l3)=>mkE [(1,(AV.ptr 0 0)),(2,(AV.ptr 1 0)),(49,(li (x3.length:Int))),(50,(li i1))]) (fun (i1,l3)=>[.box 26 [AV.osl 3 1 (List.map cI x1),li A.batch,li A.high,AV.osl 51 10 (List.map zO l1),AV.osl 55 1 (List.map zG l3)],.box 26 (zI ⟨[],0,0,[],[]⟩)]) (fun n0 (i1,l3)=>zBC A x1 x3 l1 n0 i1 l3) (0,x3) h (fun _=>rfl) (Rep.trans (z7 (k:=0) (j:=2) (o:=4) rfl rfl rfl rfl) (z9 [0,1] (l:=[(1,(AV.ptr 0 0)),(2,(AV.ptr 1 0)),(49,(li (x3.length:Int))),(50,(li 0))]) rfl rfl (by kernel_rfl))) ?_
  clear h
  rintro n0 ⟨i1,l3⟩ h
  replace h:zCR A x1 x3 l1 (zBC A x1 x3 l1 n0) i1 l3=some r:=h
  unfold zCR at h
  refine zH<|zC<|zA (zf rfl rfl)<|zF<|zH ?_
  refine zX h rfl (fun b1 h => ?_) (fun b1 h => ?_)
  ·refine zP ?_
   refine zt (r:=r) (fun (l4:List zL)=>mkE [(1,(AV.ptr 0 0)),(2,(AV.ptr 1 0)),(49,(li (x3.length:Int))),(50,(li i1))]) (fun l4=>[.box 26 [AV.osl 3 1 (List.map cI x1),li A.batch,li A.high,AV.osl 51 10 (List.map zO l1),AV.osl 55 1 (List.map zG l4)],.box 26 (zI ⟨[],0,0,[],[]⟩)]) (fun l4=>zFN (zBC A x1 x3 l1 n0) i1 l4) ?_ ?_
   ·
    refine zQ<|zH<|zC<|zA (zB rfl)<|zA (zD rfl)<|zF ?_
    refine zH<|zC<|zA (zK Tryz.underlying26 rfl rfl Tryz.sizeOf24 rfl)<|zAA (zAd (k:=0) (o:=4) (t':=55) (sz:=1) (rows:=List.map zG l3) rfl rfl)<|zA (zN Tryz.isAgg24 rfl rfl rfl rfl)<|zA (zB rfl) ?_
    refine zM h fun b3 h=>zA (zy (f:=zG) (l:=l3) (i:=i1) Tryz.underlying24 Tryz.sizeOf55 rfl rfl rfl b3)<|zA (zK Tryz.underlying55 rfl rfl Tryz.sizeOf53 rfl)<|zA (zAq (f:=zG) (l:=l3) (i:=i1) (c:=0) (a:=(ls (cS cI) ((at_ l3 i1).lists))) Tryz.isAgg53 rfl rfl (by first | rfl | omega) b3 rfl rfl)<|zR h fun x4 w4 h=>zHI (T:=22) (sz:=1) (rows:=List.map (cS cI) x4) (la:=[(ls (cS cI) ((at_ l3 i1).lists))]) (la':=[(ls (cS cI) ((at_ l3 i1).lists))]) (S:=[]) Tryz.func108 rfl (by kernel_rfl) (.fn 108) rfl ⟨zAs.nr rfl,trivial⟩ (zJl w4) (.inl rfl) ?_
    refine zA (zD rfl)<|zF ?_
    refine zt (r:=r) (fun (l5:List (List Int))=>mkE [(1,(AV.ptr 0 0)),(2,(AV.ptr 1 0)),(5,(li i1)),(6,(AV.hd 2)),(49,(li (x3.length:Int))),(50,(li i1))]) (fun l5=>[.box 26 [AV.osl 3 1 (List.map cI x1),li A.batch,li A.high,AV.osl 51 10 (List.map zO l1),AV.osl 55 1 (List.map zG l3)],.box 26 (zI ⟨[],0,0,[],[]⟩),.vec 22 1 (List.map (cS cI) l5)]) (fun l5=>zFV (zBC A x1 x3 l1 n0) i1 l3 l5) ?_ ?_
    ·
     refine zH<|zC<|zA (zB rfl)<|zA (zDF (f:=(cS cI)) (l:=x4) Tryz.underlying53 rfl rfl)<|zA (zB rfl)<|zF ?_
     refine zQ<|zq (σ:=Int×(List (List Int))) (fun (i2,l6)=>mkE [(1,(AV.ptr 0 0)),(2,(AV.ptr 1 0)),(5,(li i1)),(6,(AV.hd 2)),(49,(li (x3.length:Int))),(50,(li i1)),(61,(li (x4.length:Int))),(62,(li i2))]) (fun (i2,l6)=>[.box 26 [AV.osl 3 1 (List.map cI x1),li A.batch,li A.high,AV.osl 51 10 (List.map zO l1),AV.osl 55 1 (List.map zG l3)],.box 26 (zI ⟨[],0,0,[],[]⟩),.vec 22 1 (List.map (cS cI) l6)]) (fun n1 (i2,l6)=>zDX (zBC A x1 x3 l1 n0) i1 l3 x4 n1 i2 l6) (0,x4) h (fun _=>rfl) (Rep.trans (z7 (k:=0) (j:=2) (o:=4) rfl rfl rfl rfl) (z9 [0,1,3] (l:=[(1,(AV.ptr 0 0)),(2,(AV.ptr 1 0)),(5,(li i1)),(6,(AV.hd 2)),(49,(li (x3.length:Int))),(50,(li i1)),(61,(li (x4.length:Int))),(62,(li 0))]) rfl rfl (by kernel_rfl))) ?_
     clear h
     rintro n1 ⟨i2,l6⟩ h
     replace h:zCQ (zBC A x1 x3 l1 n0) i1 l3 x4 (zDX (zBC A x1 x3 l1 n0) i1 l3 x4 n1) i2 l6=some r:=h
     unfold zCQ at h
     refine zH<|zC<|zA (zf rfl rfl)<|zF<|zH ?_
     refine zX h rfl (fun b5 h => ?_) (fun b5 h => ?_)
     ·refine zP<|zH<|zQ<|zH<|zC<|zA (zB rfl) ?_
      refine zA (zD rfl)<|zF<|zC<|zA (zB rfl)<|zA (zB rfl)<|zA (zB rfl) ?_
      refine zA (zB rfl)<|zM h fun b6 h=>zA (zy (f:=(cS cI)) (l:=l6) (i:=i2) Tryz.underlying53 Tryz.sizeOf22 rfl rfl rfl b6)<|zA (zAq (f:=(cS cI)) (l:=l6) (i:=i2) (c:=0) (a:=(ls cI (at_ l6 i2))) Tryz.isAgg22 rfl rfl (by first | rfl | omega) b6 rfl rfl)<|zR h fun x5 w5 h=>zHI (T:=3) (sz:=1) (rows:=List.map cI x5) (la:=[(ls cI (at_ l6 i2))]) (la':=[(ls cI (at_ l6 i2))]) (S:=[]) Tryz.func80 rfl (by kernel_rfl) (.fn 80) rfl ⟨zAs.nr rfl,trivial⟩ (zAU w5) (.inl rfl) ?_
      refine zA (zy (f:=(cS cI)) (l:=l6) (i:=i2) Tryz.underlying53 Tryz.sizeOf22 rfl rfl rfl b6)<|zj (H':=[.box 26 [AV.osl 3 1 (List.map cI x1),li A.batch,li A.high,AV.osl 51 10 (List.map zO l1),AV.osl 55 1 (List.map zG l3)],.box 26 (zI ⟨[],0,0,[],[]⟩),.vopen 22 1 (List.map (cS cI) l6) i2.toNat [.hd 3],.vec 3 1 (List.map cI x5)]) (zNd (k:=2) (j:=3) (i:=i2.toNat) Tryz.sizeOf22 rfl rfl rfl (by rw [List.length_map]; exact (zBW b6).2) rfl rfl)<|zF<|zC<|zM h fun b7 h=>zA (ze rfl rfl b7) ?_
      refine zA (zB rfl)<|zF ?_
      exact ⟨((i2+1),(l6.set i2.toNat x5)),Rep.trans (zNT (k:=2) (j:=3) (f:=cI) (l:=l6) (l':=x5) (fun _=>rfl) rfl rfl rfl) (z9 [0,1,2] (l:=[(1,(AV.ptr 0 0)),(2,(AV.ptr 1 0)),(5,(li i1)),(6,(AV.hd 2)),(49,(li (x3.length:Int))),(50,(li i1)),(61,(li (x4.length:Int))),(62,(li (i2+1)))]) rfl rfl (by kernel_rfl)),h⟩
     refine zw ?_
     exact ⟨l6,z9 [0,1,2] rfl rfl (by kernel_rfl),h⟩
    clear h
    intro l5 h
    unfold zFV at h
    refine zC<|zA (zK Tryz.underlying26 rfl rfl Tryz.sizeOf24 rfl)<|zAA (zAd (k:=0) (o:=4) (t':=55) (sz:=1) (rows:=List.map zG l3) rfl rfl)<|zA (zN Tryz.isAgg24 rfl rfl rfl rfl)<|zA (zB rfl)<|zA (zB rfl) ?_
    refine zM h fun b4 h=>zA (zy (f:=zG) (l:=l3) (i:=i1) Tryz.underlying24 Tryz.sizeOf55 rfl rfl rfl b4)<|zA (zK Tryz.underlying55 rfl rfl Tryz.sizeOf53 rfl)<|zAA (zDR (j:=2) (ds:=[6,77]) (rows':=List.map (cS cI) l5) rfl (zAL (fun _=>rfl)) ⟨rfl,rfl,trivial⟩)<|zj (H':=[.box 26 [AV.osl 3 1 (List.map cI x1),li A.batch,li A.high,AV.osl 51 10 (List.map zO l1),AV.hd 3],.box 26 (zI ⟨[],0,0,[],[]⟩),.dead,.vec 55 1 (List.map zG (l3.set i1.toNat ({ at_ l3 i1 with lists:=l5 })))]) (zBt (k:=3) (o:=(i1.toNat*1)) (f:=zG) (l:=l3) (i:=i1) (c:=0) (a:=(ls (cS cI) l5)) (z:={ at_ l3 i1 with lists:=l5 }) Tryz.sizeOf53 rfl rfl (by first | rfl | omega) b4 rfl rfl rfl rfl rfl)<|zF ?_
    exact ⟨(l3.set i1.toNat ({ at_ l3 i1 with lists:=l5 })),Rep.trans (z7 (k:=0) (j:=3) (o:=4) rfl rfl rfl rfl) (z9 [0,1] (l:=[(1,(AV.ptr 0 0)),(2,(AV.ptr 1 0)),(49,(li (x3.length:Int))),(50,(li i1))]) rfl rfl (by kernel_rfl)),h⟩
   clear h
   intro l4 h
   unfold zFN at h
   refine zC<|zM h fun b2 h=>zA (ze rfl rfl b2)<|zA (zB rfl)<|zF ?_
   exact ⟨((i1+1),l4),z9 [0,1] rfl rfl (by kernel_rfl),h⟩
  refine zw ?_
  exact ⟨l3,z9 [0,1] rfl rfl (by kernel_rfl),h⟩
 clear h
 intro l2 h
 unfold zHX at h
 refine zH<|zC<|zAA (zBl (k:=0) (o:=0) (rows':=List.map cI x1) rfl rfl (zAL (fun _=>rfl)))<|za (zKY (k:=0) (cs:=[ls cI x1,li A.batch,li A.high,AV.osl 51 10 (List.map zO l1),AV.osl 55 1 (List.map zG l2)]) (m:=5) Tryz.isAgg26 Tryz.sizeOf26 rfl rfl rfl)<|zj (H':=[.dead,.box 26 [ls cI x1,li A.batch,li A.high,AV.osl 51 10 (List.map zO l1),AV.osl 55 1 (List.map zG l2)],.dead]) (zCG (k:=1) (o:=0) (j:=2) (cs:=(zI ⟨[],0,0,[],[]⟩)) (la:=[ls cI x1,li A.batch,li A.high,AV.osl 51 10 (List.map zO l1),AV.osl 55 1 (List.map zG l2)]) Tryz.sizeOf26 rfl rfl rfl rfl rfl (by decide))<|zF ?_
 refine zd ?_
 cases h
 exact zu (zFM Tryz.isAgg26 Tryz.sizeOf26 rfl rfl rfl rfl)
theorem zLV {C:zi} {r:zi} (h:zJJ C=some r):PFn Tryz.prog 118 [(AV.agg (zO C))] (AV.agg ([li r.node]++([li r.kind]++([li r.start]++([li r.count]++([li r.min]++((cM 5 3 (5:Int) r.free)++[]))))))):=by
 refine zo Tryz.func118 rfl Tryz.ntmps118 Tryz.results118 rfl ?_
 unfold zJJ at h
 refine zH<|zC<|za (H':=[.box 51 (zO C)]) (zv (t:=51) rfl)<|za (H':=[.box 51 (zO C),.box 51 (zO ⟨0,0,0,0,0,(List.replicate 5 ([]:List Int))⟩)]) zv0<|zF ?_
 refine zt (r:=r) (fun ((l1,i1):(List (List Int))×Int)=>mkE [(1,(AV.ptr 0 0)),(2,(AV.ptr 1 0))]) (fun (l1,i1)=>[.box 51 ([li C.node,li C.kind,li C.start,li C.count,li C.min]++((cM 5 3 i1 l1)++[])),.box 51 (zO ⟨0,0,0,0,0,(List.replicate 5 ([]:List Int))⟩)]) (fun (l1,i1)=>zHx C l1 i1) ?_ ?_
 ·
  refine zH<|zC<|zA (zB rfl)<|zF<|zQ<|zq (σ:=Int×(List (List Int))) (fun (i2,l2)=>mkE [(1,(AV.ptr 0 0)),(2,(AV.ptr 1 0)),(4,(li i2))]) (fun (i2,l2)=>[.box 51 ([li C.node,li C.kind,li C.start,li C.count,li C.min]++((cM 5 3 i2 l2)++[])),.box 51 (zO ⟨0,0,0,0,0,(List.replicate 5 ([]:List Int))⟩)]) (fun n0 (i2,l2)=>zGA C n0 i2 l2) (0,C.free) h (fun _=>rfl) (z9 [0,1] rfl rfl (by kernel_rfl)) ?_
  clear h
  rintro n0 ⟨i2,l2⟩ h
  replace h:zD6 C (zGA C n0) i2 l2=some r:=h
  unfold zD6 at h
  refine zH<|zC<|zA (zf rfl rfl)<|zF<|zH ?_
  refine zX h rfl (fun b2 h => ?_) (fun b2 h => ?_)
  ·refine zP<|zH<|zQ<|zH<|zC<|zA (zB rfl) ?_
   refine zA (zD rfl)<|zF<|zC<|zA (zB rfl)<|zA (zB rfl)<|zA (zK Tryz.underlying51 rfl rfl Tryz.sizeOf49 rfl) ?_
   refine zM h fun b3 h=>zA (zAO (m:=5) (s:=1) (i:=i2) (k:=0) (o:=5) Tryz.underlying49 Tryz.sizeOf22 rfl rfl b3)<|zA (zQU (k:=0) (o:=(5+i2.toNat*1)) (cs:=([li C.node,li C.kind,li C.start,li C.count,li C.min]++((cM 5 3 i2 l2)++[]))) (hd:=([li C.node]++[li C.kind]++[li C.start]++[li C.count]++[li C.min]++[])) (tl:=([])) (N:=5) (T':=3) (K:=i2) (l:=l2) (i:=i2) Tryz.isAgg22 rfl rfl rfl (congrArg (fun q=>5+q) (Nat.mul_one _)) b3 (decide_eq_true (Int.le_refl _)))<|zR h fun x1 w1 h=>zHI (T:=3) (sz:=1) (rows:=List.map cI x1) (la:=[(ls cI (l2.getD i2.toNat []))]) (la':=[(ls cI (l2.getD i2.toNat []))]) (S:=[]) Tryz.func80 rfl (by kernel_rfl) (.fn 80) rfl ⟨zAs.nr rfl,trivial⟩ (zAU w1) (.inl rfl)<|zA (zK Tryz.underlying51 rfl rfl Tryz.sizeOf49 rfl) ?_
   refine zA (zAO (m:=5) (s:=1) (i:=i2) (k:=0) (o:=5) Tryz.underlying49 Tryz.sizeOf22 rfl rfl b3)<|zj (H':=[.box 51 ([li C.node,li C.kind,li C.start,li C.count,li C.min]++((List.set (cM 5 3 i2 l2) i2.toNat (AV.hd 2))++[])),.box 51 (zO ⟨0,0,0,0,0,(List.replicate 5 ([]:List Int))⟩),.vec 3 1 (List.map cI x1)]) (zNl (k:=0) (o:=(5+i2.toNat*1)) (cs:=([li C.node,li C.kind,li C.start,li C.count,li C.min]++((cM 5 3 i2 l2)++[]))) (hd:=([li C.node]++[li C.kind]++[li C.start]++[li C.count]++[li C.min]++[])) (tl:=([])) (s:=(cM 5 3 i2 l2)) (i:=i2) (a:=(AV.hd 2)) Tryz.sizeOf22 rfl rfl rfl (congrArg (fun q=>5+q) (Nat.mul_one _)) (zIq b3) rfl rfl)<|zF<|zC<|zM h fun b4 h=>zA (ze rfl rfl b4) ?_
   refine zA (zB rfl)<|zF ?_
   exact ⟨((i2+1),(zEN 5 [] l2 i2.toNat x1)),Rep.trans (zQN (K':=i2+1) (j:=2) (l':=x1) (k:=0) (cs:=([li C.node,li C.kind,li C.start,li C.count,li C.min]++((List.set (cM 5 3 i2 l2) i2.toNat (AV.hd 2))++[]))) (hd:=([li C.node]++[li C.kind]++[li C.start]++[li C.count]++[li C.min]++[])) (tl:=([])) (N:=5) (T:=3) (K:=i2) (l:=l2) (i:=i2) rfl rfl b3 (decide_eq_true rfl) rfl rfl rfl) (zB1 (n:=17) (m:=0) [0,1] (l:=[(1,(AV.ptr 0 0)),(2,(AV.ptr 1 0)),(4,(li (i2+1)))]) ⟨⟨Sub.refl _,by kernel_rfl⟩,⟨Sub.refl _,by kernel_rfl⟩,⟨Sub.refl _,by kernel_rfl⟩,trivial⟩ rfl rfl ⟨⟨rfl,zS7 (hd:=([li C.node]++[li C.kind]++[li C.start]++[li C.count]++[li C.min]++[])) (tl:=([])) (N:=5) (T:=3) (K:=i2+1) (l:=zEN 5 [] l2 i2.toNat x1) (by kernel_rfl) (by kernel_rfl) rfl⟩,⟨rfl,by kernel_rfl⟩,trivial⟩),h⟩
  refine zw ?_
  exact ⟨(l2,i2),zB1 (n:=17) (m:=0) [0,1] (l:=[(1,(AV.ptr 0 0)),(2,(AV.ptr 1 0))]) ⟨⟨Sub.refl _,by kernel_rfl⟩,⟨Sub.refl _,by kernel_rfl⟩,trivial⟩ rfl rfl ⟨⟨rfl,zS7 (hd:=([li C.node]++[li C.kind]++[li C.start]++[li C.count]++[li C.min]++[])) (tl:=([])) (N:=5) (T:=3) (K:=i2) (l:=l2) (by kernel_rfl) (by kernel_rfl) rfl⟩,⟨rfl,by kernel_rfl⟩,trivial⟩,h⟩
 clear h
 rintro ⟨l1,i1⟩ h
 unfold zHx at h
 refine zH<|zC<|zM h fun b1 h=>zAA (zSR (k:=0) (cs:=([li C.node,li C.kind,li C.start,li C.count,li C.min]++((cM 5 3 i1 l1)++[]))) (hd:=([li C.node]++[li C.kind]++[li C.start]++[li C.count]++[li C.min]++[])) (tl:=([])) (N:=5) (T:=3) (K:=i1) (l:=l1) rfl rfl b1)<|za (zKY (k:=0) (cs:=([li C.node,li C.kind,li C.start,li C.count,li C.min]++((cM 5 3 (5:Int) l1)++[]))) (m:=10) Tryz.isAgg51 Tryz.sizeOf51 rfl rfl rfl)<|zj (H':=[.dead,.box 51 ([li C.node,li C.kind,li C.start,li C.count,li C.min]++((cM 5 3 (5:Int) l1)++[])),.dead]) (zCG (k:=1) (o:=0) (j:=2) (cs:=(zO ⟨0,0,0,0,0,(List.replicate 5 ([]:List Int))⟩)) (la:=([li C.node,li C.kind,li C.start,li C.count,li C.min]++((cM 5 3 (5:Int) l1)++[]))) Tryz.sizeOf51 rfl rfl rfl rfl rfl (by decide)) ?_
 refine zF<|zd ?_
 cases h
 exact zu (zFM Tryz.isAgg51 Tryz.sizeOf51 rfl rfl rfl rfl)
end Go.Proofs.YtplkliakhdkpcaaGreat
