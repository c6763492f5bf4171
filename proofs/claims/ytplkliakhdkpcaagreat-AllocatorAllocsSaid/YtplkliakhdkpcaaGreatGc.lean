/-
  Rules, functions and laws for the last text, part c.
-/
import Derived.Test.YtplkliakhdkpcaaGreatGb
set_option linter.unusedVariables false
set_option linter.unusedSimpArgs false
namespace Go.Proofs.YtplkliakhdkpcaaGreat
open Go Go.RowKit Go.Wk Go.Am Go.Proofs
set_option maxHeartbeats 4000000
theorem zFK:zLb Tryz.prog 3 1 (.int .i64 0) 8:=zLb.of (by kernel_rfl) rfl (by decide) (by decide)
theorem zOg:zLb Tryz.prog 22 1 (.slice none 0 0) 24:=zLb.of (by kernel_rfl) rfl (by decide) (by decide)
theorem zOX:zLb Tryz.prog 51 10 (.agg #[.int .i64 0,.int .i64 0,.int .i64 0,.int .i64 0,.int .i64 0,.slice none 0 0,.slice none 0 0,.slice none 0 0,.slice none 0 0,.slice none 0 0]) 160:=zLb.of (by kernel_rfl) rfl (by decide) (by decide)
theorem zOl:zLb Tryz.prog 55 1 (.agg #[.slice none 0 0]) 24:=zLb.of (by kernel_rfl) rfl (by decide) (by decide)
theorem zXf:zLb Tryz.prog 46 4 (.agg #[.int .i64 0,.int .i64 0,.int .i64 0,.int .i64 0]) 32:=zLb.of (by kernel_rfl) rfl (by decide) (by decide)
theorem zXD:zLb Tryz.prog 4 1 (.bool false) 1:=zLb.of (by kernel_rfl) rfl (by decide) (by decide)
theorem zAS {Y:List Int} {r:List Int} (h:zA0 Y=some r):PFn Tryz.prog 80 [ls cI Y] (AV.osl 3 1 (List.map cI r)):=by
  refine zo Tryz.func80 rfl Tryz.ntmps80 Tryz.results80 rfl ?_
  unfold zA0 at h
  refine zM h fun b1 h => ?_
  obtain rfl:=Option.some.inj h
  refine zH<|zC<|zA (a:=(.lit (.slice none 0 0))) (zD rfl)<|zF<|zH<|zH ?_
  refine zC<|zA (a:=(ls cI Y)) (zB rfl) ?_
  refine zMC (full:=false) (rows:=List.map cI Y) Tryz.underlying22 rfl (fun b hb => ?_)
  refine zF ?_
  refine zNO b rfl (fun hbt => ?_) (fun hbt => ?_)
  · obtain rfl:Y=[]:=List.map_eq_nil_iff.1 (hb hbt)
    refine zH<|zC<|zA (a:=(.lit (.slice none 0 0))) (zD rfl)<|zF<|zb ?_
    exact zt (zJL (zAH rfl rfl) zAt.nilo)
  · refine zP ?_
    refine zH<|zC<|zNA zFK Tryz.underlying22<|zA (a:=(ls cI Y)) (zB rfl)<|zF6 (f:=cI) (k:=0) (l:=[]) (l':=Y) zFK (fun _=>rfl) Tryz.underlying22 rfl rfl rfl b1<|zA (a:=(.hd 1)) (zD rfl) ?_
    refine zF<|zb ?_
    exact zt (zW6 (rows:=List.map cI ([]++Y)) rfl rfl)
theorem zI7 {Y : List Int} {uC : Int → Option Bool} {g_a_f : FuncId} {cf_a_f : Func} {code_a_f : Code} {caps_a_f : List AV} (hcf_a_f : Tryz.prog.funcs[g_a_f]? = some cf_a_f) (hcb_a_f : cf_a_f.body = some code_a_f) (hcn_a_f : (cf_a_f.name == "runtime.NumGoroutine") = false) (hnr_a_f : caps_a_f.all nr = true) (hg_a_f : ∀ {x0 : Int} {y : Bool}, uC x0 = some y → PFn Tryz.prog g_a_f ((li x0) :: caps_a_f) (AV.lit (.bool y))) {r : Int} (h : zCg Y uC = some r) : PFn Tryz.prog 129 [(ls cI Y), (AV.clo g_a_f caps_a_f)] (li r) := by
 refine zo Tryz.func129 rfl Tryz.ntmps129 Tryz.results129 rfl ?_
 unfold zCg at h
 refine zH<|zC<|zA (zD rfl)<|zF ?_
 refine zu (r:=r) (fun (_:Unit)=>mkE []) (fun _=>[]) (fun _=>zDC ) ?_ ?_
 ·
  refine zH<|zC<|zA (zB rfl)<|zA (zW Tryz.underlying22 rfl)<|zA (zB rfl)<|zF ?_
  refine zQ<|zq (σ:=Int) (fun i1=>mkE [(0,(ls cI Y)),(1,(AV.clo g_a_f caps_a_f)),(7,(li (Y.length:Int))),(8,(li i1))]) (fun i1=>[]) (fun n0 i1=>zAU Y uC n0 i1) 0 h (fun _=>rfl) (zBz (n:=19) (m:=0) [] (l:=[(0,(ls cI Y)),(1,(AV.clo g_a_f caps_a_f)),(7,(li (Y.length:Int))),(8,(li 0))]) ⟨⟨Sub.refl _,by kernel_rfl⟩,⟨zFW hnr_a_f,zFX hnr_a_f⟩,⟨Sub.refl _,by kernel_rfl⟩,⟨Sub.refl _,by kernel_rfl⟩,trivial⟩ rfl rfl trivial) ?_
  clear h
  intro n0 i1 h
  replace h:zAj Y uC (zAU Y uC n0) i1=some r:=h
  unfold zAj at h
  refine zH<|zC<|zA (zf rfl rfl)<|zF<|zH ?_
  refine zY h rfl (fun b1 h => ?_) (fun b1 h => ?_)
  ·refine zP<|zH<|zQ<|zH<|zC<|zA (zB rfl) ?_
   refine zA (zD rfl)<|zF<|zH<|zC<|zA (zB rfl)<|zA (zB rfl) ?_
   refine zA (zB rfl)<|zM h fun b2 h=>zA (zS Tryz.underlying22 Tryz.sizeOf3 (fun _=>rfl) rfl rfl b2)<|zA (zU (o:=0) Tryz.isAgg3 rfl rfl)<|zR h fun x1 w1 h=>zA7 (S:=[]) hcf_a_f hcb_a_f hcn_a_f (.clo (caps:=caps_a_f) rfl) rfl (zD9.c (zAx.nr rfl) (zD9.nrs hnr_a_f)) (hg_a_f w1) (.inl rfl) rfl ?_
   refine zF ?_
   refine zY h rfl (fun b3 h => ?_) (fun b3 h => ?_)
   ·refine zH<|zC<|zA (zB rfl)<|zA (zD rfl)<|zF<|zb ?_
    cases h
    exact zt (zAH rfl rfl)
   refine zP<|zC<|zM h fun b4 h=>zA (ze rfl rfl b4)<|zA (zB rfl)<|zF ?_
   exact ⟨(i1+1),zBz (n:=19) (m:=0) [] (l:=[(0,(ls cI Y)),(1,(AV.clo g_a_f caps_a_f)),(7,(li (Y.length:Int))),(8,(li (i1+1)))]) ⟨⟨Sub.refl _,by kernel_rfl⟩,⟨zFW hnr_a_f,zFX hnr_a_f⟩,⟨Sub.refl _,by kernel_rfl⟩,⟨Sub.refl _,by kernel_rfl⟩,trivial⟩ rfl rfl trivial,h⟩
  refine zx ?_
  exact ⟨(),z8 [] rfl rfl (by kernel_rfl),h⟩
 clear h
 intro _ h
 unfold zDC at h
 refine zH<|zC<|zA (zD rfl)<|zF<|zb ?_
 cases h
 exact zt (zAH rfl rfl)
theorem zH0 {Y : List Int} {uC : Int → Option Bool} {g_a_f : FuncId} {cf_a_f : Func} {code_a_f : Code} {caps_a_f : List AV} (hcf_a_f : Tryz.prog.funcs[g_a_f]? = some cf_a_f) (hcb_a_f : cf_a_f.body = some code_a_f) (hcn_a_f : (cf_a_f.name == "runtime.NumGoroutine") = false) (hnr_a_f : caps_a_f.all nr = true) (hg_a_f : ∀ {x0 : Int} {y : Bool}, uC x0 = some y → PFn Tryz.prog g_a_f ((li x0) :: caps_a_f) (AV.lit (.bool y))) {r : Bool} (h : zBy Y uC = some r) : PFn Tryz.prog 83 [(ls cI Y), (AV.clo g_a_f caps_a_f)] (AV.lit (.bool r)) := by
 refine zo Tryz.func83 rfl Tryz.ntmps83 Tryz.results83 rfl ?_
 unfold zBy at h
 refine zH<|zC<|zA (zD rfl)<|zF<|zH<|zC ?_
 refine zA (zB rfl)<|zA (zB rfl)<|zR h fun x1 w1 h=>zA7 (r':=(li x1)) (la:=[ls cI Y,AV.clo g_a_f caps_a_f]) (la':=[ls cI Y,AV.clo g_a_f caps_a_f]) (r:=(li x1)) (S:=[]) Tryz.func129 rfl (by kernel_rfl) (.fn 129) rfl ⟨zAx.nr rfl,zAx.clo (zD9.nrs hnr_a_f),trivial⟩ (zI7 hcf_a_f hcb_a_f hcn_a_f hnr_a_f hg_a_f w1) (.inl rfl) rfl<|zA (zAv rfl rfl)<|zA (zD rfl) ?_
 refine zF<|zb ?_
 cases h
 exact zt (zAH rfl rfl)
theorem zKo {uB:Int} {r:Bool} (h:zDZ uB=some r):PFn Tryz.prog 84 [li uB] (AV.lit (.bool r)):=by
 refine zo Tryz.func84 rfl Tryz.ntmps84 Tryz.results84 rfl ?_
 unfold zDZ at h
 refine zH<|zC<|zA (zD rfl)<|zF<|zH<|zC ?_
 refine zA (zB rfl)<|zA (zf rfl rfl)<|zA (zB rfl)<|zX rfl rfl (fun c1=>zp.step (zB rfl))<|zX rfl rfl (fun c2=>zp.step (zAv (z6 rfl c2) rfl))<|zA (zg rfl rfl) ?_
 refine zA (zD rfl)<|zF<|zb ?_
 cases h
 exact zt (zAH rfl rfl)
theorem zI4 {B:zJ} {r:Bool} (h:zDK B=some r):PFn Tryz.prog 41 [(AV.agg (zI B))] (AV.lit (.bool r)):=by
 refine zo Tryz.func41 rfl Tryz.ntmps41 Tryz.results41 rfl ?_
 unfold zDK at h
 refine zH<|zC<|za (H':=[.box 26 (zI B)]) (zv (t:=26) rfl)<|zA (zD rfl)<|zF<|zH ?_
 refine zH<|zC<|zA (zK Tryz.underlying26 rfl rfl Tryz.sizeOf22 rfl)<|zA (zN Tryz.isAgg22 rfl rfl rfl rfl)<|zA (zW Tryz.underlying22 rfl)<|zA (zf rfl rfl) ?_
 refine zA (zB rfl)<|zX rfl rfl (fun c1=>zp.step (zK Tryz.underlying26 rfl rfl Tryz.sizeOf22 rfl))<|zX rfl rfl (fun c2=>zp.step (zN Tryz.isAgg22 (z6 rfl c2) rfl rfl rfl))<|zX rfl rfl (fun c3=>zp.step (zW Tryz.underlying22 (z6 rfl c3)))<|zX rfl rfl (fun c4=>zp.step (zAc (z6 rfl c4) rfl))<|zA (zg rfl rfl) ?_
 refine zA (zB rfl)<|zX rfl rfl (fun c5=>zp.step (zK Tryz.underlying26 rfl rfl Tryz.sizeOf3 rfl))<|zX rfl rfl (fun c6=>zp.step (zN Tryz.isAgg3 (z6 rfl c6) rfl rfl rfl))<|zX rfl rfl (fun c7=>zp.step (zAc (z6 rfl c7) rfl))<|zA (zg rfl rfl)<|zA (zB rfl) ?_
 refine zX rfl rfl (fun c8=>zp.step (zK Tryz.underlying26 rfl rfl Tryz.sizeOf3 rfl))<|zX rfl rfl (fun c9=>zp.step (zN Tryz.isAgg3 (z6 rfl c9) rfl rfl rfl))<|zX rfl rfl (fun c10=>zp.step (zf (z6 rfl c10) rfl))<|zA (zg rfl rfl)<|zA (zB rfl)<|zX rfl rfl (fun c11=>zp.step (zK Tryz.underlying26 rfl rfl Tryz.sizeOf3 rfl)) ?_
 refine zX rfl rfl (fun c12=>zp.step (zN Tryz.isAgg3 (z6 rfl c12) rfl rfl rfl))<|zX rfl rfl (fun c13=>zp.step (zK Tryz.underlying26 rfl rfl Tryz.sizeOf3 rfl))<|zX rfl rfl (fun c14=>zp.step (zN Tryz.isAgg3 (z6 rfl c14) rfl rfl rfl))<|zX rfl rfl (fun c15=>zp.step (zAc (z6 rfl c15) (z6 rfl c15)))<|zA (zg rfl rfl)<|zA (zB rfl) ?_
 refine zX rfl rfl (fun c16=>zp.step (zK Tryz.underlying26 rfl rfl Tryz.sizeOf23 rfl))<|zX rfl rfl (fun c17=>zp.step (zN Tryz.isAgg23 (z6 rfl c17) rfl rfl rfl))<|zX rfl rfl (fun c18=>zp.step (zW Tryz.underlying23 (z6 rfl c18)))<|zX rfl rfl (fun c19=>zp.step (zf (z6 rfl c19) rfl))<|zA (zg rfl rfl)<|zA (zB rfl) ?_
 refine zX rfl rfl (fun c20=>zp.step (zK Tryz.underlying26 rfl rfl Tryz.sizeOf23 rfl))<|zX rfl rfl (fun c21=>zp.step (zN Tryz.isAgg23 (z6 rfl c21) rfl rfl rfl))<|zX rfl rfl (fun c22=>zp.step (zW Tryz.underlying23 (z6 rfl c22)))<|zX rfl rfl (fun c23=>zp.step (zAc (z6 rfl c23) rfl))<|zA (zg rfl rfl)<|zF ?_
 refine zY h rfl (fun b1 h => ?_) (fun b1 h => ?_)
 ·refine zH<|zC<|zA (zD rfl)<|zF<|zb ?_
  cases h
  exact zt (zAH rfl rfl)
 refine zP<|zH<|zC<|zA (zK Tryz.underlying26 rfl rfl Tryz.sizeOf22 rfl)<|zA (zN Tryz.isAgg22 rfl rfl rfl rfl)<|zR h fun x1 w1 h => ?_
 refine zA7 (r':=(AV.lit (.bool x1))) (la:=[ls cI B.nodes,(AV.clo 84 [])]) (la':=[ls cI B.nodes,(AV.clo 84 [])]) (r:=(AV.lit (.bool x1))) (S:=[]) Tryz.func83 rfl (by kernel_rfl) (.fn 83) rfl ⟨zAx.nr rfl,zAx.clo trivial,trivial⟩ (zH0 Tryz.func84 rfl (by kernel_rfl) rfl (fun hy=>zKo  hy) w1) (.inl rfl) rfl<|zA (zBD (t:=x1) rfl)<|zA (zD rfl)<|zF<|zb ?_
 cases h
 exact zt (zAH rfl rfl)
theorem zKz {C:zj} {r:Bool} (h:zHA C=some r):PFn Tryz.prog 85 [(AV.agg ([li C.node]++([li C.kind]++([li C.start]++([li C.count]++([li C.min]++([AV.any,AV.any,AV.any,AV.any,AV.any]++[])))))))] (AV.lit (.bool r)):=by
 refine zo Tryz.func85 rfl Tryz.ntmps85 Tryz.results85 rfl ?_
 unfold zHA at h
 refine zH<|zC<|za (H':=[.box 51 ([li C.node,li C.kind,li C.start,li C.count,li C.min]++([AV.any,AV.any,AV.any,AV.any,AV.any]++[]))]) (zv (t:=51) rfl)<|zA (zD rfl)<|zF<|zH ?_
 refine zC<|zA (zK Tryz.underlying51 rfl rfl Tryz.sizeOf3 rfl)<|zA (zN Tryz.isAgg3 rfl rfl rfl rfl)<|zA (zAv rfl rfl)<|zA (zB rfl)<|zm rfl rfl (fun c1=>zp.step (zK Tryz.underlying51 rfl rfl Tryz.sizeOf3 rfl)) ?_
 refine zm rfl rfl (fun c2=>zp.step (zN Tryz.isAgg3 (z6 rfl c2) rfl rfl rfl))<|zm rfl rfl (fun c3=>zp.step (zf (z6 rfl c3) rfl))<|zA (zy (j := .lit undef) rfl rfl)<|zA (zB rfl)<|zm rfl rfl (fun c4=>zp.step (zK Tryz.underlying51 rfl rfl Tryz.sizeOf3 rfl))<|zm rfl rfl (fun c5=>zp.step (zN Tryz.isAgg3 (z6 rfl c5) rfl rfl rfl)) ?_
 refine zm rfl rfl (fun c6=>zp.step (zAz (z6 rfl c6) rfl))<|zm rfl rfl (fun c7=>zp.step (zB (z6 rfl c7)))<|zKg (g:=15) (s':=(decide (0≤C.node))&&(decide (C.node<4))) (s:=decide (C.kind=0)) rfl rfl (fun c8=>zp.step (zK Tryz.underlying51 rfl rfl Tryz.sizeOf3 rfl))<|zKg (g:=15) (s':=(decide (0≤C.node))&&(decide (C.node<4))) (s:=decide (C.kind=0)) rfl rfl (fun c9=>zp.step (zN Tryz.isAgg3 (z6 rfl c9) rfl rfl rfl))<|zKg (g:=15) (s':=(decide (0≤C.node))&&(decide (C.node<4))) (s:=decide (C.kind=0)) rfl rfl (fun c10=>zp.step (zAz (z6 rfl c10) rfl))<|zm rfl rfl (fun c11=>zp.step (zg (z6 rfl c11) (zOe (c:=(decide (0≤C.node))&&(decide (C.node<4))) (d := !(decide (C.kind=0))) (a:=(AV.lit (.bool (decide (C.kind=1))))) (j := .lit undef) rfl c11))) ?_
 refine zA (zy (j := .lit undef) rfl rfl)<|zA (zB rfl)<|zm rfl rfl (fun c12=>zp.step (zK Tryz.underlying51 rfl rfl Tryz.sizeOf3 rfl))<|zm rfl rfl (fun c13=>zp.step (zN Tryz.isAgg3 (z6 rfl c13) rfl rfl rfl))<|zm rfl rfl (fun c14=>zp.step (zAv (z6 rfl c14) rfl))<|zA (zy (j := .lit undef) rfl rfl) ?_
 refine zA (zB rfl)<|zm rfl rfl (fun c15=>zp.step (zK Tryz.underlying51 rfl rfl Tryz.sizeOf3 rfl))<|zm rfl rfl (fun c16=>zp.step (zN Tryz.isAgg3 (z6 rfl c16) rfl rfl rfl))<|zm rfl rfl (fun c17=>zp.step (zf (z6 rfl c17) rfl))<|zA (zy (j := .lit undef) rfl rfl)<|zA (zB rfl) ?_
 refine zm rfl rfl (fun c18=>zp.step (zK Tryz.underlying51 rfl rfl Tryz.sizeOf3 rfl))<|zm rfl rfl (fun c19=>zp.step (zN Tryz.isAgg3 (z6 rfl c19) rfl rfl rfl))<|zm rfl rfl (fun c20=>zp.step (zAv (z6 rfl c20) rfl))<|zA (zy (j := .lit undef) rfl rfl)<|zA (zB rfl)<|zm rfl rfl (fun c21=>zp.step (zK Tryz.underlying51 rfl rfl Tryz.sizeOf3 rfl)) ?_
 refine zm rfl rfl (fun c22=>zp.step (zN Tryz.isAgg3 (z6 rfl c22) rfl rfl rfl))<|zm rfl rfl (fun c23=>zp.step (zK Tryz.underlying51 rfl rfl Tryz.sizeOf3 rfl))<|zm rfl rfl (fun c24=>zp.step (zN Tryz.isAgg3 (z6 rfl c24) rfl rfl rfl))<|zM h fun b1 h=>zm rfl rfl (fun c25=>zp.step (zBU rfl (z6 rfl c25) (zHT b1 c25)))<|zm rfl rfl (fun c26=>zp.step (zCr (z6 rfl c26) (z6 rfl c26))) ?_
 refine zA (zy (j := .lit undef) rfl rfl)<|zA (zB rfl)<|zm rfl rfl (fun c27=>zp.step (zK Tryz.underlying51 rfl rfl Tryz.sizeOf3 rfl))<|zm rfl rfl (fun c28=>zp.step (zN Tryz.isAgg3 (z6 rfl c28) rfl rfl rfl))<|zm rfl rfl (fun c29=>zp.step (zAv (z6 rfl c29) rfl))<|zA (zy (j := .lit undef) rfl rfl) ?_
 refine zA (zB rfl)<|zm rfl rfl (fun c30=>zp.step (zK Tryz.underlying51 rfl rfl Tryz.sizeOf3 rfl))<|zm rfl rfl (fun c31=>zp.step (zN Tryz.isAgg3 (z6 rfl c31) rfl rfl rfl))<|zm rfl rfl (fun c32=>zp.step (zK Tryz.underlying51 rfl rfl Tryz.sizeOf3 rfl))<|zm rfl rfl (fun c33=>zp.step (zN Tryz.isAgg3 (z6 rfl c33) rfl rfl rfl))<|zm rfl rfl (fun c34=>zp.step (zCr (z6 rfl c34) (z6 rfl c34))) ?_
 refine zA (zy (j := .lit undef) rfl rfl)<|zA (zD rfl)<|zF<|zb ?_
 cases h
 exact zt (zAH rfl rfl)
theorem zGx {I:Int} {r:Bool} (h:zDn I=some r):PFn Tryz.prog 137 [li I] (AV.lit (.bool r)):=by
 refine zo Tryz.func137 rfl Tryz.ntmps137 Tryz.results137 rfl ?_
 unfold zDn at h
 refine zH<|zC<|zA (zD rfl)<|zF<|zH<|zC ?_
 refine zA (zB rfl)<|zA (zB rfl)<|zA (zz rfl rfl)<|zA (zD rfl)<|zF<|zb ?_
 cases h
 exact zt (zAH rfl rfl)
theorem zN0 {I:Int} {uU:Int} {r:Bool} (h:zIh I uU=some r):PFn Tryz.prog 131 [li I,li uU] (AV.lit (.bool r)):=by
 refine zo Tryz.func131 rfl Tryz.ntmps131 Tryz.results131 rfl ?_
 unfold zIh at h
 refine zH<|zC<|zA (zD rfl)<|zF<|zH<|zC ?_
 refine zA (zB rfl)<|zR h fun x1 w1 h=>zh Tryz.func137 rfl (by kernel_rfl) (.fn 137) rfl rfl (zGx w1) rfl<|zA (zB rfl)<|zm rfl rfl (fun c1=>zp.step (zB rfl))<|zR h fun x2 w2 h => ?_
 refine zCu (g:=7) (s:=x1) (r':=(AV.lit (.bool x2))) rfl rfl (fun c2=>⟨137,_,_,[],[li uU],[li uU],(AV.lit (.bool x2)),[],Tryz.func137,rfl,by kernel_rfl,.fn 137,(zAN (z6 rfl c2) rfl),⟨zAx.nr rfl,trivial⟩,zGx (zG3 c2 w2),.inl rfl,rfl⟩)<|zm rfl rfl (fun c3=>zp.step (zBD (t:=x2) (z6 rfl c3)))<|zA (zy (j := .lit undef) rfl rfl)<|zA (zB rfl)<|zX rfl rfl (fun c4=>zp.step (zB rfl))<|zX rfl rfl (fun c5=>zp.step (zB rfl)) ?_
 refine zX rfl rfl (fun c6=>zp.step (zf (z6 rfl c6) (z6 rfl c6)))<|zA (zg rfl rfl)<|zA (zD rfl)<|zF<|zb ?_
 cases h
 exact zt (zAH rfl rfl)
theorem zJU {I:Int} {r:Bool} (h:zFF I=some r):PFn Tryz.prog 132 [li I] (AV.lit (.bool r)):=by
 refine zo Tryz.func132 rfl Tryz.ntmps132 Tryz.results132 rfl ?_
 unfold zFF at h
 refine zH<|zC<|zA (zD rfl)<|zF<|zH<|zC ?_
 refine zA (zB rfl)<|zA (zB rfl)<|zA (zz rfl rfl)<|zA (zD rfl)<|zF<|zb ?_
 cases h
 exact zt (zAH rfl rfl)
theorem zBB {I:List Int} {uG:Int} {r:Int×Bool} (h:zAV I uG=some r):PFn Tryz.prog 87 [ls cI I,li uG] (AV.tup [li r.1,(AV.lit (.bool r.2))]):=by
 refine zo Tryz.func87 rfl Tryz.ntmps87 Tryz.results87 rfl ?_
 unfold zAV at h
 refine zH<|zC<|zA (zD rfl)<|zA (zD rfl)<|zF<|zH ?_
 refine zC<|zA (zB rfl)<|zA (zW Tryz.underlying22 rfl)<|zA (zD rfl)<|zF<|zH ?_
 refine zC<|zA (zB rfl)<|zA (zD rfl)<|zA (zD rfl)<|zF ?_
 refine zu (r:=r) (fun (i1:Int)=>mkE [(0,(ls cI I)),(1,(li uG)),(6,(li (I.length:Int))),(7,(li i1))]) (fun i1=>[]) (fun i1=>zA6 I uG i1) ?_ ?_
 ·
  refine zQ<|zq (σ:=Int×Int) (fun (i2,i3)=>mkE [(0,(ls cI I)),(1,(li uG)),(6,(li (I.length:Int))),(7,(li i2)),(8,(li i3))]) (fun (i2,i3)=>[]) (fun n0 (i2,i3)=>zA9 I uG n0 i2 i3) (0,(I.length:Int)) h (fun _=>rfl) (z8 [] rfl rfl (by kernel_rfl)) ?_
  clear h
  rintro n0 ⟨i2,i3⟩ h
  replace h:zAX I uG (zA9 I uG n0) i2 i3=some r:=h
  unfold zAX at h
  refine zH<|zH<|zC<|zA (zB rfl)<|zA (zB rfl)<|zA (zf rfl rfl) ?_
  refine zF ?_
  refine zY h rfl (fun b3 h => ?_) (fun b3 h => ?_)
  ·refine zP<|zQ<|zH<|zC<|zA (zB rfl)<|zA (zB rfl) ?_
   refine zM h fun b4 h=>zA (ze rfl rfl b4)<|zM h fun b5 h=>zA (zFr (k' := .u64) (a:=i2+i3) Tryz.underlying3 Tryz.underlying74 rfl b5)<|zA (zUG (k := .u64) (a:=i2+i3) (b:=1) rfl rfl (by decide))<|zM h fun b6 h => ?_
   refine zA (zFr (k' := .i64) (a:=(i2+i3).fdiv (2 ^ (1:Int).toNat)) Tryz.underlying74 Tryz.underlying3 rfl b6)<|zA (zD rfl)<|zF<|zH<|zC<|zA (zB rfl) ?_
   refine zA (zB rfl)<|zM h fun b7 h=>zA (zS Tryz.underlying22 Tryz.sizeOf3 (fun _=>rfl) rfl rfl b7)<|zA (zU (o:=0) Tryz.isAgg3 rfl rfl)<|zA (zB rfl)<|zR h fun x3 w3 h => ?_
   refine zh Tryz.func131 rfl (by kernel_rfl) (.fn 131) rfl rfl (zN0 w3) rfl<|zF ?_
   refine zY h rfl (fun b8 h => ?_) (fun b8 h => ?_)
   ·refine zC<|zA (zB rfl)<|zM h fun b9 h=>zA (ze rfl rfl b9)<|zA (zD rfl)<|zF ?_
    exact ⟨((((i2+i3).fdiv (2 ^ (1:Int).toNat))+1),i3),z8 [] rfl rfl (by kernel_rfl),h⟩
   refine zC<|zA (zB rfl)<|zA (zD rfl)<|zF ?_
   exact ⟨(i2,((i2+i3).fdiv (2 ^ (1:Int).toNat))),z8 [] rfl rfl (by kernel_rfl),h⟩
  refine zx ?_
  exact ⟨i2,z8 [] rfl rfl (by kernel_rfl),h⟩
 clear h
 intro i1 h
 unfold zA6 at h
 refine zH<|zC<|zA (zB rfl)<|zA (zB rfl)<|zA (zB rfl)<|zA (zf rfl rfl) ?_
 refine zA (zB rfl)<|zm rfl rfl (fun c1=>zp.step (zB rfl))<|zm rfl rfl (fun c2=>zp.step (zB rfl))<|zM h fun b1 h=>zm rfl rfl (fun c3=>zp.step (zS Tryz.underlying22 Tryz.sizeOf3 (fun _=>rfl) (z6 rfl c3) (z6 rfl c3) (zHT b1 c3)))<|zm rfl rfl (fun c4=>zp.step (zU (o:=0) Tryz.isAgg3 (z6 rfl c4) rfl)) ?_
 refine zm rfl rfl (fun c5=>zp.step (zB rfl))<|zm rfl rfl (fun c6=>zp.step (zAz (z6 rfl c6) (z6 rfl c6)))<|zm rfl rfl (fun c7=>zp.step (zB (z6 rfl c7)))<|zKg (g:=42) (s':=decide (i1<(I.length:Int))) (s:=decide ((at_ I i1)=uG)) rfl rfl (fun c8=>zp.step (zB rfl))<|zKg (g:=42) (s':=decide (i1<(I.length:Int))) (s:=decide ((at_ I i1)=uG)) rfl rfl (fun c9=>zp.step (zB rfl))<|zM h fun b2 h => ?_
 refine zKg (g:=42) (s':=decide (i1<(I.length:Int))) (s:=decide ((at_ I i1)=uG)) rfl rfl (fun c10=>zp.step (zS Tryz.underlying22 Tryz.sizeOf3 (fun _=>rfl) (z6 rfl c10) (z6 rfl c10) (zHT b2 c10)))<|zKg (g:=42) (s':=decide (i1<(I.length:Int))) (s:=decide ((at_ I i1)=uG)) rfl rfl (fun c11=>zp.step (zU (o:=0) Tryz.isAgg3 (z6 rfl c11) rfl))<|zR h fun x1 w1 h=>zQi (g:=42) (s':=decide (i1<(I.length:Int))) (s:=decide ((at_ I i1)=uG)) (r':=(AV.lit (.bool x1))) rfl rfl (fun c12=>⟨132,_,_,[],[(li (at_ I i1))],[(li (at_ I i1))],(AV.lit (.bool x1)),[],Tryz.func132,rfl,by kernel_rfl,.fn 132,(zAN (z6 rfl c12) rfl),⟨zAx.nr rfl,trivial⟩,zJU (zG3 c12 w1),.inl rfl,rfl⟩)<|zKg (g:=42) (s':=decide (i1<(I.length:Int))) (s:=decide ((at_ I i1)=uG)) rfl rfl (fun c13=>zp.step (zB (z6 rfl c13)))<|zKT (g:=48) (s':=(decide (i1<(I.length:Int)) && !(decide ((at_ I i1)=uG)))) (s:=x1) rfl rfl (fun c14=>zp.step (zB rfl)) ?_
 refine zR h fun x2 w2 h=>zNM (g:=48) (s':=(decide (i1<(I.length:Int)) && !(decide ((at_ I i1)=uG)))) (s:=x1) (r':=(AV.lit (.bool x2))) rfl rfl (fun c15=>⟨132,_,_,[],[li uG],[li uG],(AV.lit (.bool x2)),[],Tryz.func132,rfl,by kernel_rfl,.fn 132,(zAN (z6 rfl c15) rfl),⟨zAx.nr rfl,trivial⟩,zJU (zG3 c15 w2),.inl rfl,rfl⟩)<|zKg (g:=42) (s':=decide (i1<(I.length:Int))) (s:=decide ((at_ I i1)=uG)) rfl rfl (fun c16=>zp.step (zy (j := .lit undef) (z6 rfl c16) (zOe (c:=(decide (i1<(I.length:Int)) && !(decide ((at_ I i1)=uG)))) (d:=x1) (a:=(AV.lit (.bool x2))) (j := .lit undef) rfl c16)))<|zm rfl rfl (fun c17=>zp.step (zg (z6 rfl c17) (zOe (c:=decide (i1<(I.length:Int))) (d := !(decide ((at_ I i1)=uG))) (a:=(AV.lit (.bool (x1&&x2)))) (j := .lit undef) rfl c17)))<|zA (zy (j := .lit undef) rfl rfl)<|zA (zD rfl) ?_
 refine zA (zD rfl)<|zF<|zb ?_
 cases h
 exact zBx (zAH rfl rfl) (zAH rfl rfl) rfl
theorem zFx {C:zj} {U:Int} {V:Int} {r:Bool} (h:zCV C U V=some r):PFn Tryz.prog 86 [(AV.agg ([li C.node]++([li C.kind]++([li C.start]++([li C.count]++([li C.min]++([AV.any,AV.any,AV.any,AV.any,AV.any]++[]))))))),li U,li V] (AV.lit (.bool r)):=by
 refine zo Tryz.func86 rfl Tryz.ntmps86 Tryz.results86 rfl ?_
 unfold zCV at h
 refine zH<|zC<|za (H':=[.box 51 ([li C.node,li C.kind,li C.start,li C.count,li C.min]++([AV.any,AV.any,AV.any,AV.any,AV.any]++[]))]) (zv (t:=51) rfl)<|zA (zD rfl)<|zF<|zH ?_
 refine zC<|zA (zB rfl)<|zM h fun b1 h=>zM h fun b2 h=>zA (zDA (a:=1) (b:=V) rfl rfl b1 b2)<|zA (zD rfl) ?_
 refine zF<|zH<|zC<|zA (zB rfl)<|zA (zK Tryz.underlying51 rfl rfl Tryz.sizeOf3 rfl)<|zA (zN Tryz.isAgg3 rfl rfl rfl rfl) ?_
 refine zA (zAv rfl rfl)<|zA (zB rfl)<|zm rfl rfl (fun c1=>zp.step (zB rfl))<|zm rfl rfl (fun c2=>zp.step (zB rfl))<|zM h fun b3 h=>zm rfl rfl (fun c3=>zp.step (zRz (k := .i64) (a:=U) (b:=(1:Int)*2 ^ V.toNat) (z6 rfl c3) (z6 rfl c3) (zHT b3 c3))) ?_
 refine zm rfl rfl (fun c4=>zp.step (zAz (z6 rfl c4) rfl))<|zA (zy (j := .lit undef) rfl rfl)<|zA (zB rfl)<|zm rfl rfl (fun c5=>zp.step (zB rfl))<|zm rfl rfl (fun c6=>zp.step (zK Tryz.underlying51 rfl rfl Tryz.sizeOf3 rfl))<|zm rfl rfl (fun c7=>zp.step (zN Tryz.isAgg3 (z6 rfl c7) rfl rfl rfl)) ?_
 refine zm rfl rfl (fun c8=>zp.step (zCr (z6 rfl c8) (z6 rfl c8)))<|zA (zy (j := .lit undef) rfl rfl)<|zA (zB rfl)<|zm rfl rfl (fun c9=>zp.step (zB rfl))<|zm rfl rfl (fun c10=>zp.step (zK Tryz.underlying51 rfl rfl Tryz.sizeOf3 rfl))<|zm rfl rfl (fun c11=>zp.step (zN Tryz.isAgg3 (z6 rfl c11) rfl rfl rfl)) ?_
 refine zm rfl rfl (fun c12=>zp.step (zK Tryz.underlying51 rfl rfl Tryz.sizeOf3 rfl))<|zm rfl rfl (fun c13=>zp.step (zN Tryz.isAgg3 (z6 rfl c13) rfl rfl rfl))<|zM h fun b4 h=>zm rfl rfl (fun c14=>zp.step (ze (z6 rfl c14) (z6 rfl c14) (zHT b4 c14)))<|zm rfl rfl (fun c15=>zp.step (zB rfl))<|zM h fun b5 h => ?_
 refine zm rfl rfl (fun c16=>zp.step (zBU (z6 rfl c16) (z6 rfl c16) (zHT b5 c16)))<|zm rfl rfl (fun c17=>zp.step (zCr (z6 rfl c17) (z6 rfl c17)))<|zA (zy (j := .lit undef) rfl rfl)<|zA (zD rfl)<|zF<|zb ?_
 cases h
 exact zt (zAH rfl rfl)
theorem zM1 {A:zj} {D:Int} {G:Int} {r:zj} (h:zKH A D G=some r):AFn Tryz.prog 125 [AV.ptr 0 0,li D,li G] [.box 51 ([li A.node]++([li A.kind]++([li A.start]++([li A.count]++([li A.min]++((cM 5 3 (5:Int) A.free)++[]))))))] (.tup []) [.box 51 ([li r.node]++([li r.kind]++([li r.start]++([li r.count]++([li r.min]++((cM 5 3 (5:Int) r.free)++[]))))))]:=by
 refine zEp Tryz.func125 rfl Tryz.ntmps125 Tryz.results125 rfl ?_
 unfold zKH at h
 refine zu (r:=r) (fun ((i1,i2,l1):Int×Int×(List (List Int)))=>mkE [(0,(AV.ptr 0 0)),(1,(li i1)),(2,(li i2))]) (fun (i1,i2,l1)=>[.box 51 ([li A.node,li A.kind,li A.start,li A.count,li A.min]++((cM 5 3 (5:Int) l1)++[]))]) (fun (i1,i2,l1)=>zG9 A i1 i2 l1) ?_ ?_
 ·
  refine zQ<|zq (σ:=Int×Int×(List (List Int))) (fun (i3,i4,l2)=>mkE [(0,(AV.ptr 0 0)),(1,(li i3)),(2,(li i4))]) (fun (i3,i4,l2)=>[.box 51 ([li A.node,li A.kind,li A.start,li A.count,li A.min]++((cM 5 3 (5:Int) l2)++[]))]) (fun n0 (i3,i4,l2)=>zIc A n0 i3 i4 l2) (D,G,A.free) h (fun _=>rfl) (z8 [0] rfl rfl (by kernel_rfl)) ?_
  clear h
  rintro n0 ⟨i3,i4,l2⟩ h
  replace h:zGC A (zIc A n0) i3 i4 l2=some r:=h
  unfold zGC at h
  refine zH<|zH<|zC<|zA (zB rfl)<|zA (zf rfl rfl)<|zF ?_
  refine zY h rfl (fun b4 h => ?_) (fun b4 h => ?_)
  ·refine zP<|zQ<|zH<|zC<|zA (zB rfl)<|zA (zB rfl) ?_
   refine zM h fun b5 h=>zM h fun b6 h=>zA (zDA (a:=1) (b:=i4) rfl rfl b5 b6)<|zA (zQ9 (k := .i64) (a:=i3) (b:=(1:Int)*2 ^ i4.toNat) rfl rfl)<|zA (zD rfl)<|zF ?_
   refine zH<|zC<|zA (zB rfl)<|zA (zB rfl)<|zA (z9 rfl)<|zA (zK Tryz.underlying51 rfl rfl Tryz.sizeOf49 rfl) ?_
   refine zM h fun b7 h=>zA (zAO (m:=5) (s:=1) (i:=i4) (k:=0) (o:=5) Tryz.underlying49 Tryz.sizeOf22 rfl rfl b7)<|zM h fun b8 h=>zAC (zKF (k:=0) (cs:=([li A.node,li A.kind,li A.start,li A.count,li A.min]++((cM 5 3 (5:Int) l2)++[]))) (hd:=([li A.node]++[li A.kind]++[li A.start]++[li A.count]++[li A.min]++[])) (tl:=([])) (N:=5) (T:=3) (K:=5) (l:=l2) (i:=i4) rfl rfl b7 b8)<|zA (zFR (k:=0) (o:=(5+i4.toNat*1)) (cs:=([li A.node,li A.kind,li A.start,li A.count,li A.min]++((List.set (cM 5 3 (5:Int) l2) i4.toNat (AV.hd 1))++[]))) (hd:=([li A.node]++[li A.kind]++[li A.start]++[li A.count]++[li A.min]++[])) (tl:=([])) (s:=(cM 5 3 (5:Int) l2)) (i:=i4) (j:=1) Tryz.isAgg22 rfl rfl rfl (congrArg (fun q=>5+q) (Nat.mul_one _)) (zI1 b7))<|zA (zB rfl) ?_
   refine zR h fun x2 w2 h=>zA7 (r':=(AV.tup [li x2.1,(AV.lit (.bool x2.2))])) (la:=[AV.hd 1,(li (zKO .xor .i64 i3 ((1:Int)*2 ^ i4.toNat)))]) (la':=[(ls cI (l2.getD i4.toNat [])),(li (zKO .xor .i64 i3 ((1:Int)*2 ^ i4.toNat)))]) (r:=(AV.tup [li x2.1,(AV.lit (.bool x2.2))])) (S:=[1]) Tryz.func87 rfl (by kernel_rfl) (.fn 87) rfl ⟨zJc (fun _=>rfl) rfl rfl,zAx.nr rfl,trivial⟩ (zBB w2) (.inr rfl) rfl<|zA (zB rfl)<|zA (zd rfl rfl)<|zA (zd rfl rfl)<|zA (zD rfl) ?_
   refine zA (zD rfl)<|zF<|zH<|zH<|zC<|zA (zB rfl) ?_
   refine zA (zBD (t:=x2.2) rfl)<|zA (zB rfl)<|zX rfl rfl (fun c1=>zp.step (zB rfl))<|zX rfl rfl (fun c2=>zp.step (z9 (z6 rfl c2)))<|zAC (zKN (j:=1) (l':=l2.getD i4.toNat []) (k:=0) (cs:=([li A.node,li A.kind,li A.start,li A.count,li A.min]++((List.set (cM 5 3 (5:Int) l2) i4.toNat (AV.hd 1))++[]))) (hd:=([li A.node]++[li A.kind]++[li A.start]++[li A.count]++[li A.min]++[])) (tl:=([])) (N:=5) (T:=3) (K:=5) (l:=l2) (i:=i4) rfl rfl b7 b8 rfl rfl)<|zX rfl rfl (fun c3=>zp.step (zOS (k:=0) (o:=0) (m:=10) (la:=([li A.node,li A.kind,li A.start,li A.count,li A.min]++([AV.any,AV.any,AV.any,AV.any,AV.any]++[]))) Tryz.isAgg51 Tryz.sizeOf51 (z6 rfl c3) rfl rfl rfl)) ?_
   refine zX rfl rfl (fun c4=>zp.step (zB rfl))<|zX rfl rfl (fun c5=>zp.step (zB rfl))<|zX rfl rfl (fun c6=>zp.step (zPE (a:=i3) (b:=zKO .xor .i64 i3 ((1:Int)*2 ^ i4.toNat)) (z6 rfl c6) (z6 rfl c6)))<|zX rfl rfl (fun c7=>zp.step (zB rfl))<|zM h fun b9 h=>zX rfl rfl (fun c8=>zp.step (ze (z6 rfl c8) rfl (zHT b9 c8))) ?_
   refine zR h fun x3 w3 h=>zCt (g:=30) (s := !x2.2) (r':=(AV.lit (.bool x3))) rfl rfl (fun c9=>⟨86,_,_,[],[(AV.agg ([li A.node,li A.kind,li A.start,li A.count,li A.min]++([AV.any,AV.any,AV.any,AV.any,AV.any]++[]))),(li (min i3 (zKO .xor .i64 i3 ((1:Int)*2 ^ i4.toNat)))),(li (i4+1))],[(AV.agg ([(li ((⟨A.node,A.kind,A.start,A.count,A.min,zEc 5 [] l2 i4.toNat (l2.getD i4.toNat [])⟩:zj).node)),(li ((⟨A.node,A.kind,A.start,A.count,A.min,zEc 5 [] l2 i4.toNat (l2.getD i4.toNat [])⟩:zj).kind)),(li ((⟨A.node,A.kind,A.start,A.count,A.min,zEc 5 [] l2 i4.toNat (l2.getD i4.toNat [])⟩:zj).start)),(li ((⟨A.node,A.kind,A.start,A.count,A.min,zEc 5 [] l2 i4.toNat (l2.getD i4.toNat [])⟩:zj).count)),(li ((⟨A.node,A.kind,A.start,A.count,A.min,zEc 5 [] l2 i4.toNat (l2.getD i4.toNat [])⟩:zj).min))]++([AV.any,AV.any,AV.any,AV.any,AV.any]++[]))),(li (min i3 (zKO .xor .i64 i3 ((1:Int)*2 ^ i4.toNat)))),(li (i4+1))],(AV.lit (.bool x3)),[],Tryz.func86,rfl,by kernel_rfl,.fn 86,(zAN (z6 rfl c9) (zAN (z6 rfl c9) (zAN (z6 rfl c9) rfl))),⟨zAx.nr rfl,zAx.nr rfl,zAx.nr rfl,trivial⟩,zFx (zG3 c9 w3),.inl rfl,rfl⟩)<|zX rfl rfl (fun c10=>zp.step (zBD (t:=x3) (z6 rfl c10)))<|zA (zg rfl rfl)<|zF ?_
   refine zY h rfl (fun b10 h => ?_) (fun b10 h => ?_)
   ·refine zx ?_
    exact ⟨(i3,i4,(zEc 5 [] l2 i4.toNat (l2.getD i4.toNat []))),z8 [0] rfl rfl (by kernel_rfl),h⟩
   refine zP<|zH<|zAT (zKF (k:=0) (cs:=([li A.node,li A.kind,li A.start,li A.count,li A.min]++((cM 5 3 (5:Int) (zEc 5 [] l2 i4.toNat (l2.getD i4.toNat [])))++[]))) (hd:=([li A.node]++[li A.kind]++[li A.start]++[li A.count]++[li A.min]++[])) (tl:=([])) (N:=5) (T:=3) (K:=5) (l:=zEc 5 [] l2 i4.toNat (l2.getD i4.toNat [])) (i:=i4) rfl rfl b7 b8)<|zM h fun b11 h=>zM h fun b12 h => ?_
   refine zAl (n:=88) (m:=1) [.head 0 1,.head 0 1,.head 0 0,.head 0 0,.head 0 0,.head 0 0,.head 0 0,.head 0 0,.head 0 0,.head 0 0,.head 0 0,.tail 0,.head 0 1,.head 0 1,.head 1 1,.tail 1] [11,15] [AV.ptr 0 0,li i4,AV.ptr 0 0,li i4,AV.ptr 0 0,AV.ptr 0 5,(AV.ptr 0 (5+i4.toNat*1)),AV.hd 2,li x2.1,li x2.1,(li (x2.1+1)),AV.hd 3,AV.ptr 0 0,AV.ptr 0 5,(AV.ptr 0 (5+i4.toNat*1)),.any] [[.box 51 ([li A.node,li A.kind,li A.start,li A.count,li A.min]++((List.set (cM 5 3 (5:Int) (zEc 5 [] l2 i4.toNat (l2.getD i4.toNat []))) i4.toNat (AV.hd 2))++[])),.dead,.vec 3 1 (List.map cI ((zEc 5 [] l2 i4.toNat (l2.getD i4.toNat [])).getD i4.toNat []))],[.box 51 ([li A.node,li A.kind,li A.start,li A.count,li A.min]++((List.set (cM 5 3 (5:Int) (zEc 5 [] l2 i4.toNat (l2.getD i4.toNat []))) i4.toNat (AV.hd 2))++[])),.dead,.dead,.vec 3 1 (List.map cI (zU1 ((zEc 5 [] l2 i4.toNat (l2.getD i4.toNat [])).getD i4.toNat []) x2.1))],[.box 51 ([li A.node,li A.kind,li A.start,li A.count,li A.min]++((List.set (cM 5 3 (5:Int) (zEc 5 [] l2 i4.toNat (l2.getD i4.toNat []))) i4.toNat (AV.hd 3))++[])),.dead,.dead,.vec 3 1 (List.map cI (zU1 ((zEc 5 [] l2 i4.toNat (l2.getD i4.toNat [])).getD i4.toNat []) x2.1))]] (by kernel_rfl) (by kernel_rfl) ⟨⟨D1 fun e s p=>zB (s 0 rfl),D1 fun e s p=>zB (s 0 rfl)⟩,⟨D1 fun e s p=>zB (s 2 rfl),D1 fun e s p=>zB (s 2 rfl)⟩,D1 fun e s p=>zB (s 0 rfl),D1 fun e s p=>zB (s 2 rfl),D1 fun e s p=>z9 p.1,D1 fun e s p=>zK (k:=0) (o:=0) (off:=5) Tryz.underlying51 rfl rfl Tryz.sizeOf49 p.1,D1 fun e s p=>zAO (m:=5) (s:=1) (i:=i4) (k:=0) (o:=5) Tryz.underlying49 Tryz.sizeOf22 p.1 p.2.1 b7,D1 fun e s p=>zFR (k:=0) (o:=(5+i4.toNat*1)) (cs:=([li A.node,li A.kind,li A.start,li A.count,li A.min]++((List.set (cM 5 3 (5:Int) (zEc 5 [] l2 i4.toNat (l2.getD i4.toNat []))) i4.toNat (AV.hd 2))++[]))) (hd:=([li A.node]++[li A.kind]++[li A.start]++[li A.count]++[li A.min]++[])) (tl:=([])) (s:=(cM 5 3 (5:Int) (zEc 5 [] l2 i4.toNat (l2.getD i4.toNat [])))) (i:=i4) (j:=2) Tryz.isAgg22 p.1 rfl rfl (congrArg (fun q=>5+q) (Nat.mul_one _)) (zI1 b7),D1 fun e s p=>zB (s 7 rfl),D1 fun e s p=>zB (s 7 rfl),D1 fun e s p=>ze (a:=x2.1) (b:=1) p.1 rfl b11,?_,⟨D1 fun e s p=>z9 p.1,D1 fun e s p=>z9 p.1⟩,⟨D1 fun e s p=>zK (k:=0) (o:=0) (off:=5) Tryz.underlying51 rfl rfl Tryz.sizeOf49 p.1,D1 fun e s p=>zK (k:=0) (o:=0) (off:=5) Tryz.underlying51 rfl rfl Tryz.sizeOf49 p.1⟩,D1 fun e s p=>zAO (m:=5) (s:=1) (i:=i4) (k:=0) (o:=5) Tryz.underlying49 Tryz.sizeOf22 p.1 p.2.2.2.1 b7,?_,trivial⟩ ?_
   ·
    intro e46 s46 p45
    refine zSH (k:=2) (l:=(zEc 5 [] l2 i4.toNat (l2.getD i4.toNat [])).getD i4.toNat []) (i:=x2.1) (q:=x2.1+1) (fun a b=>zVJ a b) Tryz.func130 rfl (by kernel_rfl) p45.1 rfl p45.2.1 p45.2.2.1 b12 ?_
    exact zF ⟨fun _=>rfl,rfl⟩
   ·
    intro e52 s52 p51
    refine zi (H':=[.box 51 ([li A.node,li A.kind,li A.start,li A.count,li A.min]++((List.set (cM 5 3 (5:Int) (zEc 5 [] l2 i4.toNat (l2.getD i4.toNat []))) i4.toNat (AV.hd 3))++[])),.dead,.dead,.vec 3 1 (List.map cI (zU1 ((zEc 5 [] l2 i4.toNat (l2.getD i4.toNat [])).getD i4.toNat []) x2.1))]) (zIY (k:=0) (o:=(5+i4.toNat*1)) (cs:=([li A.node,li A.kind,li A.start,li A.count,li A.min]++((List.set (cM 5 3 (5:Int) (zEc 5 [] l2 i4.toNat (l2.getD i4.toNat []))) i4.toNat (AV.hd 2))++[]))) (hd:=([li A.node]++[li A.kind]++[li A.start]++[li A.count]++[li A.min]++[])) (tl:=([])) (s:=(cM 5 3 (5:Int) (zEc 5 [] l2 i4.toNat (l2.getD i4.toNat [])))) (i:=i4) (a:=(AV.hd 3)) Tryz.sizeOf22 (by exact p51.1) rfl rfl (congrArg (fun q=>5+q) (Nat.mul_one _)) (zI1 b7) (by exact p51.2.2.2.2.2.2.2.2.2.2.2.2.2.2.1) rfl) ?_
    exact zF ⟨fun _=>rfl,rfl⟩
   intro e53 s53 hq2
   refine zAT (zBL (l:=[(0,(AV.ptr 0 0)),(1,(li i3)),(2,(li i4)),(6,(li (zKO .xor .i64 i3 ((1:Int)*2 ^ i4.toNat))))]) ⟨s53 0 rfl,s53 1 rfl,s53 2 rfl,s53 6 rfl,trivial⟩)<|zH<|zC<|zA (zB (av:=(li i3)) rfl)<|zA (zB (av:=(li (zKO .xor .i64 i3 ((1:Int)*2 ^ i4.toNat)))) rfl)<|zA (zPE (a:=i3) (b:=zKO .xor .i64 i3 ((1:Int)*2 ^ i4.toNat)) rfl rfl) ?_
   refine zA (zD rfl)<|zF<|zC<|zA (zB rfl)<|zM h fun b13 h=>zA (ze rfl rfl b13) ?_
   refine zA (zD rfl)<|zF ?_
   exact ⟨((min i3 (zKO .xor .i64 i3 ((1:Int)*2 ^ i4.toNat))),(i4+1),(zEc 5 [] (zEc 5 [] l2 i4.toNat (l2.getD i4.toNat [])) i4.toNat (zU1 ((zEc 5 [] l2 i4.toNat (l2.getD i4.toNat [])).getD i4.toNat []) x2.1))),Rep.trans (zKN (j:=3) (l':=zU1 ((zEc 5 [] l2 i4.toNat (l2.getD i4.toNat [])).getD i4.toNat []) x2.1) (k:=0) (cs:=([li A.node,li A.kind,li A.start,li A.count,li A.min]++((List.set (cM 5 3 (5:Int) (zEc 5 [] l2 i4.toNat (l2.getD i4.toNat []))) i4.toNat (AV.hd 3))++[]))) (hd:=([li A.node]++[li A.kind]++[li A.start]++[li A.count]++[li A.min]++[])) (tl:=([])) (N:=5) (T:=3) (K:=5) (l:=zEc 5 [] l2 i4.toNat (l2.getD i4.toNat [])) (i:=i4) rfl rfl b7 b8 rfl rfl) (z8 [0] (l:=[(0,(AV.ptr 0 0)),(1,(li (min i3 (zKO .xor .i64 i3 ((1:Int)*2 ^ i4.toNat))))),(2,(li (i4+1)))]) rfl rfl (by kernel_rfl)),h⟩
  refine zx ?_
  exact ⟨(i3,i4,l2),z8 [0] rfl rfl (by kernel_rfl),h⟩
 clear h
 rintro ⟨i1,i2,l1⟩ h
 unfold zG9 at h
 refine zH<|zC<|zA (zB rfl)<|zA (zB rfl)<|zA (z9 rfl)<|zA (zK Tryz.underlying51 rfl rfl Tryz.sizeOf49 rfl) ?_
 refine zM h fun b1 h=>zA (zAO (m:=5) (s:=1) (i:=i2) (k:=0) (o:=5) Tryz.underlying49 Tryz.sizeOf22 rfl rfl b1)<|zM h fun b2 h=>zAC (zKF (k:=0) (cs:=([li A.node,li A.kind,li A.start,li A.count,li A.min]++((cM 5 3 (5:Int) l1)++[]))) (hd:=([li A.node]++[li A.kind]++[li A.start]++[li A.count]++[li A.min]++[])) (tl:=([])) (N:=5) (T:=3) (K:=5) (l:=l1) (i:=i2) rfl rfl b1 b2)<|zA (zFR (k:=0) (o:=(5+i2.toNat*1)) (cs:=([li A.node,li A.kind,li A.start,li A.count,li A.min]++((List.set (cM 5 3 (5:Int) l1) i2.toNat (AV.hd 1))++[]))) (hd:=([li A.node]++[li A.kind]++[li A.start]++[li A.count]++[li A.min]++[])) (tl:=([])) (s:=(cM 5 3 (5:Int) l1)) (i:=i2) (j:=1) Tryz.isAgg22 rfl rfl rfl (congrArg (fun q=>5+q) (Nat.mul_one _)) (zI1 b1))<|zA (zB rfl) ?_
 refine zR h fun x1 w1 h=>zA7 (r':=(AV.tup [li x1.1,(AV.lit (.bool x1.2))])) (la:=[AV.hd 1,li i1]) (la':=[(ls cI (l1.getD i2.toNat [])),li i1]) (r:=(AV.tup [li x1.1,(AV.lit (.bool x1.2))])) (S:=[1]) Tryz.func87 rfl (by kernel_rfl) (.fn 87) rfl ⟨zJc (fun _=>rfl) rfl rfl,zAx.nr rfl,trivial⟩ (zBB w1) (.inr rfl) rfl<|zA (zB rfl)<|zA (zd rfl rfl)<|zA (zd rfl rfl)<|zA (zD rfl) ?_
 refine zA (zD rfl)<|zF<|zM h fun b3 h => ?_
 refine zAl (n:=88) (m:=1) [.head 0 2,.head 0 2,.head 0 1,.head 0 1,.head 0 1,.head 0 1,.head 0 1,.head 0 1,.head 0 1,.head 0 0,.tail 0,.tail 1,.head 0 2,.head 0 2,.head 2 2,.tail 2] [10,11,15] [AV.ptr 0 0,li i2,AV.ptr 0 0,li i2,AV.ptr 0 0,AV.ptr 0 5,(AV.ptr 0 (5+i2.toNat*1)),AV.hd 1,li x1.1,li i1,AV.hd 2,AV.hd 3,AV.ptr 0 0,AV.ptr 0 5,(AV.ptr 0 (5+i2.toNat*1)),.any] [[.box 51 ([li A.node,li A.kind,li A.start,li A.count,li A.min]++((List.set (cM 5 3 (5:Int) l1) i2.toNat (AV.hd 1))++[])),.vec 3 1 (List.map cI (l1.getD i2.toNat []))],[.box 51 ([li A.node,li A.kind,li A.start,li A.count,li A.min]++((List.set (cM 5 3 (5:Int) l1) i2.toNat (AV.hd 1))++[])),.vec 3 1 (List.map cI (l1.getD i2.toNat [])),.vec 3 1 (List.map cI [i1])],[.box 51 ([li A.node,li A.kind,li A.start,li A.count,li A.min]++((List.set (cM 5 3 (5:Int) l1) i2.toNat (AV.hd 1))++[])),.dead,.vec 3 1 (List.map cI [i1]),.vec 3 1 (List.map cI (zSM (l1.getD i2.toNat []) x1.1 i1))],[.box 51 ([li A.node,li A.kind,li A.start,li A.count,li A.min]++((List.set (cM 5 3 (5:Int) l1) i2.toNat (AV.hd 3))++[])),.dead,.vec 3 1 (List.map cI [i1]),.vec 3 1 (List.map cI (zSM (l1.getD i2.toNat []) x1.1 i1))]] (by kernel_rfl) (by kernel_rfl) ⟨⟨D1 fun e s p=>zB (s 0 rfl),D1 fun e s p=>zB (s 0 rfl),D1 fun e s p=>zB (s 0 rfl)⟩,⟨D1 fun e s p=>zB (s 2 rfl),D1 fun e s p=>zB (s 2 rfl),D1 fun e s p=>zB (s 2 rfl)⟩,⟨D1 fun e s p=>zB (s 0 rfl),D1 fun e s p=>zB (s 0 rfl)⟩,⟨D1 fun e s p=>zB (s 2 rfl),D1 fun e s p=>zB (s 2 rfl)⟩,⟨D1 fun e s p=>z9 p.1,D1 fun e s p=>z9 p.1⟩,⟨D1 fun e s p=>zK (k:=0) (o:=0) (off:=5) Tryz.underlying51 rfl rfl Tryz.sizeOf49 p.1,D1 fun e s p=>zK (k:=0) (o:=0) (off:=5) Tryz.underlying51 rfl rfl Tryz.sizeOf49 p.1⟩,⟨D1 fun e s p=>zAO (m:=5) (s:=1) (i:=i2) (k:=0) (o:=5) Tryz.underlying49 Tryz.sizeOf22 p.1 p.2.1 b1,D1 fun e s p=>zAO (m:=5) (s:=1) (i:=i2) (k:=0) (o:=5) Tryz.underlying49 Tryz.sizeOf22 p.1 p.2.1 b1⟩,⟨D1 fun e s p=>zFR (k:=0) (o:=(5+i2.toNat*1)) (cs:=([li A.node,li A.kind,li A.start,li A.count,li A.min]++((List.set (cM 5 3 (5:Int) l1) i2.toNat (AV.hd 1))++[]))) (hd:=([li A.node]++[li A.kind]++[li A.start]++[li A.count]++[li A.min]++[])) (tl:=([])) (s:=(cM 5 3 (5:Int) l1)) (i:=i2) (j:=1) Tryz.isAgg22 p.1 rfl rfl (congrArg (fun q=>5+q) (Nat.mul_one _)) (zI1 b1),D1 fun e s p=>zFR (k:=0) (o:=(5+i2.toNat*1)) (cs:=([li A.node,li A.kind,li A.start,li A.count,li A.min]++((List.set (cM 5 3 (5:Int) l1) i2.toNat (AV.hd 1))++[]))) (hd:=([li A.node]++[li A.kind]++[li A.start]++[li A.count]++[li A.min]++[])) (tl:=([])) (s:=(cM 5 3 (5:Int) l1)) (i:=i2) (j:=1) Tryz.isAgg22 p.1 rfl rfl (congrArg (fun q=>5+q) (Nat.mul_one _)) (zI1 b1)⟩,⟨D1 fun e s p=>zB (s 9 rfl),D1 fun e s p=>zB (s 9 rfl)⟩,D1 fun e s p=>zB (s 1 rfl),?_,?_,⟨D1 fun e s p=>z9 p.1,D1 fun e s p=>z9 p.1,D1 fun e s p=>z9 p.1⟩,⟨D1 fun e s p=>zK (k:=0) (o:=0) (off:=5) Tryz.underlying51 rfl rfl Tryz.sizeOf49 p.1,D1 fun e s p=>zK (k:=0) (o:=0) (off:=5) Tryz.underlying51 rfl rfl Tryz.sizeOf49 p.1,D1 fun e s p=>zK (k:=0) (o:=0) (off:=5) Tryz.underlying51 rfl rfl Tryz.sizeOf49 p.1⟩,D1 fun e s p=>zAO (m:=5) (s:=1) (i:=i2) (k:=0) (o:=5) Tryz.underlying49 Tryz.sizeOf22 p.1 p.2.2.2.1 b1,?_,trivial⟩ ?_
 ·
  intro e22 s22 p22
  refine zEe (a:=(li i1)) zFK Tryz.underlying22 p22.1 rfl rfl rfl ?_
  exact zF ⟨fun _=>rfl,rfl⟩
 ·
  intro e23 s23 p23
  refine zOL (k:=1) (j:=2) (l:=l1.getD i2.toNat []) (i:=x1.1) (q:=i1) (fun a b c d e=>zSW a b c d e) Tryz.func119 rfl (by kernel_rfl) p23.1 rfl p23.2.1 p23.2.2.1 rfl rfl b3 ?_
  exact zF ⟨fun _=>rfl,rfl⟩
 ·
  intro e31 s31 p31
  refine zi (H':=[.box 51 ([li A.node,li A.kind,li A.start,li A.count,li A.min]++((List.set (cM 5 3 (5:Int) l1) i2.toNat (AV.hd 3))++[])),.dead,.vec 3 1 (List.map cI [i1]),.vec 3 1 (List.map cI (zSM (l1.getD i2.toNat []) x1.1 i1))]) (zIY (k:=0) (o:=(5+i2.toNat*1)) (cs:=([li A.node,li A.kind,li A.start,li A.count,li A.min]++((List.set (cM 5 3 (5:Int) l1) i2.toNat (AV.hd 1))++[]))) (hd:=([li A.node]++[li A.kind]++[li A.start]++[li A.count]++[li A.min]++[])) (tl:=([])) (s:=(cM 5 3 (5:Int) l1)) (i:=i2) (a:=(AV.hd 3)) Tryz.sizeOf22 (by exact p31.1) rfl rfl (congrArg (fun q=>5+q) (Nat.mul_one _)) (zI1 b1) (by exact p31.2.2.2.2.2.2.2.2.2.2.2.2.2.2.1) rfl) ?_
  exact zF ⟨fun _=>rfl,rfl⟩
 intro e32 s32 hq1
 cases h
 exact ⟨mkE [],[.box 51 ([li A.node,li A.kind,li A.start,li A.count,li A.min]++((cM 5 3 (5:Int) (zEc 5 [] l1 i2.toNat (zSM (l1.getD i2.toNat []) x1.1 i1)))++[]))],Rep.trans (zBL (l:=[]) trivial) (Rep.trans (zKN (j:=3) (l':=zSM (l1.getD i2.toNat []) x1.1 i1) (k:=0) (cs:=([li A.node,li A.kind,li A.start,li A.count,li A.min]++((List.set (cM 5 3 (5:Int) l1) i2.toNat (AV.hd 3))++[]))) (hd:=([li A.node]++[li A.kind]++[li A.start]++[li A.count]++[li A.min]++[])) (tl:=([])) (N:=5) (T:=3) (K:=5) (l:=l1) (i:=i2) rfl rfl b1 b2 rfl rfl) (z8 [0] (l:=[]) rfl rfl (by kernel_rfl))),zLZ rfl⟩
theorem zQD {R:Int} {uN:Int} {uH:Int} {uJ:Int} {uO:Int} {r:zj×Int} (h:zNo R uN uH uJ uO=some r):PFn Tryz.prog 81 [li R,li uN,li uH,li uJ,li uO] (AV.tup [(AV.agg (zO r.1)),li r.2]):=by
 refine zo Tryz.func81 rfl Tryz.ntmps81 Tryz.results81 rfl ?_
 unfold zNo at h
 refine zH<|zC<|za (H':=[.box 51 ([li 0]++([li 0]++([li 0]++([li 0]++([li 0]++((cA 5 (eS cI) ([]:List Int) (List.replicate 5 ([]:List Int)))++[]))))))]) zv0<|zA (zD rfl)<|zF<|zH ?_
 refine zC<|zA (zB rfl)<|zA (zB rfl)<|zA (zB rfl)<|zA (zB rfl)<|zA (zB rfl) ?_
 refine zA (zCU (pl:=[(0,1),(1,1),(2,1),(3,1),(4,1),(5,5)]) (zs:=[.int .i64 0,.int .i64 0,.int .i64 0,.int .i64 0,.int .i64 0,.slice none 0 0,.slice none 0 0,.slice none 0 0,.slice none 0 0,.slice none 0 0]) (zc:=[.lit (.int .i64 0),.lit (.int .i64 0),.lit (.int .i64 0),.lit (.int .i64 0),.lit (.int .i64 0),.osl 3 1 [],.osl 3 1 [],.osl 3 1 [],.osl 3 1 [],.osl 3 1 []]) (res:=([li R]++([li uN]++([li uH]++([li uJ]++([li uO]++((cM 5 3 (5:Int) (List.replicate 5 ([]:List Int)))++[]))))))) (fun _=>by kernel_rfl) rfl (⟨zAt.refl _,⟨zAt.refl _,⟨zAt.refl _,⟨zAt.refl _,⟨zAt.refl _,⟨zAt.nilo,⟨zAt.nilo,⟨zAt.nilo,⟨zAt.nilo,⟨zAt.nilo,trivial⟩⟩⟩⟩⟩⟩⟩⟩⟩⟩) ⟨li R,0,1,rfl,rfl,rfl,rfl,rfl,⟨li uN,1,1,rfl,rfl,rfl,rfl,rfl,⟨li uH,2,1,rfl,rfl,rfl,rfl,rfl,⟨li uJ,3,1,rfl,rfl,rfl,rfl,rfl,⟨li uO,4,1,rfl,rfl,rfl,rfl,rfl,(by exact zLY.refl _)⟩⟩⟩⟩⟩)<|za (H':=[.box 51 ([li 0]++([li 0]++([li 0]++([li 0]++([li 0]++((cA 5 (eS cI) ([]:List Int) (List.replicate 5 ([]:List Int)))++[])))))),.box 51 ([li 0]++([li 0]++([li 0]++([li 0]++([li 0]++((cA 5 (eS cI) ([]:List Int) (List.replicate 5 ([]:List Int)))++[]))))))]) zv0<|zi (H':=[.box 51 ([li 0]++([li 0]++([li 0]++([li 0]++([li 0]++((cA 5 (eS cI) ([]:List Int) (List.replicate 5 ([]:List Int)))++[])))))),.box 51 ([li R]++([li uN]++([li uH]++([li uJ]++([li uO]++((cM 5 3 (5:Int) (List.replicate 5 ([]:List Int)))++[]))))))]) (zZ (k:=1) (o:=0) (cs:=([li 0]++([li 0]++([li 0]++([li 0]++([li 0]++((cA 5 (eS cI) ([]:List Int) (List.replicate 5 ([]:List Int)))++[]))))))) (la:=([li R]++([li uN]++([li uH]++([li uJ]++([li uO]++((cM 5 3 (5:Int) (List.replicate 5 ([]:List Int)))++[]))))))) Tryz.sizeOf51 rfl rfl rfl rfl)<|zF<|zH<|zH ?_
 refine zC<|zA (zOS (k:=1) (o:=0) (m:=10) (la:=([li R]++([li uN]++([li uH]++([li uJ]++([li uO]++([AV.any,AV.any,AV.any,AV.any,AV.any]++[]))))))) Tryz.isAgg51 Tryz.sizeOf51 rfl rfl rfl rfl)<|zR h fun x1 w1 h=>zA7 (r':=(AV.lit (.bool x1))) (la:=[(AV.agg ([li R]++([li uN]++([li uH]++([li uJ]++([li uO]++([AV.any,AV.any,AV.any,AV.any,AV.any]++[])))))))]) (la':=[(AV.agg ([(li ((⟨R,uN,uH,uJ,uO,(List.replicate 5 ([]:List Int))⟩:zj).node))]++([(li ((⟨R,uN,uH,uJ,uO,(List.replicate 5 ([]:List Int))⟩:zj).kind))]++([(li ((⟨R,uN,uH,uJ,uO,(List.replicate 5 ([]:List Int))⟩:zj).start))]++([(li ((⟨R,uN,uH,uJ,uO,(List.replicate 5 ([]:List Int))⟩:zj).count))]++([(li ((⟨R,uN,uH,uJ,uO,(List.replicate 5 ([]:List Int))⟩:zj).min))]++([AV.any,AV.any,AV.any,AV.any,AV.any]++[])))))))]) (r:=(AV.lit (.bool x1))) (S:=[]) Tryz.func85 rfl (by kernel_rfl) (.fn 85) rfl ⟨zAx.nr rfl,trivial⟩ (zKz w1) (.inl rfl) rfl<|zA (zBD (t:=x1) rfl)<|zF ?_
 refine zY h rfl (fun b1 h => ?_) (fun b1 h => ?_)
 ·refine zH<|zC<|zA (zCU (pl:=[(0,1),(1,1),(2,1),(3,1),(4,1),(5,5)]) (zs:=[.int .i64 0,.int .i64 0,.int .i64 0,.int .i64 0,.int .i64 0,.slice none 0 0,.slice none 0 0,.slice none 0 0,.slice none 0 0,.slice none 0 0]) (zc:=[.lit (.int .i64 0),.lit (.int .i64 0),.lit (.int .i64 0),.lit (.int .i64 0),.lit (.int .i64 0),.osl 3 1 [],.osl 3 1 [],.osl 3 1 [],.osl 3 1 [],.osl 3 1 []]) (res:=([li 0]++([li 0]++([li 0]++([li 0]++([li 0]++((cM 5 3 (5:Int) (List.replicate 5 ([]:List Int)))++[]))))))) (fun _=>by kernel_rfl) rfl (⟨zAt.refl _,⟨zAt.refl _,⟨zAt.refl _,⟨zAt.refl _,⟨zAt.refl _,⟨zAt.nilo,⟨zAt.nilo,⟨zAt.nilo,⟨zAt.nilo,⟨zAt.nilo,trivial⟩⟩⟩⟩⟩⟩⟩⟩⟩⟩) (by exact zLY.refl _))<|zi (H':=[.box 51 ([li 0]++([li 0]++([li 0]++([li 0]++([li 0]++((cM 5 3 (5:Int) (List.replicate 5 ([]:List Int)))++[])))))),.box 51 ([li R]++([li uN]++([li uH]++([li uJ]++([li uO]++((cM 5 3 (5:Int) (List.replicate 5 ([]:List Int)))++[]))))))]) (zZ (k:=0) (o:=0) (cs:=([li 0]++([li 0]++([li 0]++([li 0]++([li 0]++((cA 5 (eS cI) ([]:List Int) (List.replicate 5 ([]:List Int)))++[]))))))) (la:=([li 0]++([li 0]++([li 0]++([li 0]++([li 0]++((cM 5 3 (5:Int) (List.replicate 5 ([]:List Int)))++[]))))))) Tryz.sizeOf51 rfl rfl rfl rfl)<|zA (zD rfl)<|zF ?_
  refine zAT (zK6 (k:=0) (cs:=([li 0]++([li 0]++([li 0]++([li 0]++([li 0]++((cM 5 3 (5:Int) (List.replicate 5 ([]:List Int)))++[]))))))) (hd:=([li 0]++[li 0]++[li 0]++[li 0]++[li 0]++[])) (tl:=([])) (N:=5) (T:=3) (K:=5) (l:=(List.replicate 5 ([]:List Int))) rfl rfl)<|zb ?_
  cases h
  exact zBx (zFc Tryz.isAgg51 Tryz.sizeOf51 rfl rfl rfl rfl) (zAH rfl rfl) rfl
 refine zP ?_
 refine zu (r:=r) (fun ((d1,d2,d3,d4,d5,l1):Int×Int×Int×Int×Int×(List (List Int)))=>mkE [(10,(AV.ptr 0 0)),(12,(AV.ptr 1 0))]) (fun (d1,d2,d3,d4,d5,l1)=>[.box 51 ([li 0]++([li 0]++([li 0]++([li 0]++([li 0]++((cA 5 (eS cI) ([]:List Int) (List.replicate 5 ([]:List Int)))++[])))))),.box 51 ([li d1]++([li d2]++([li d3]++([li d4]++([li d5]++((cM 5 3 (5:Int) l1)++[]))))))]) (fun (d1,d2,d3,d4,d5,l1)=>zK5 d1 d2 d3 d4 d5 l1) ?_ ?_
 ·
  refine zH<|zC<|zA (zB rfl)<|zA (zD rfl)<|zF<|zQ ?_
  refine zq (σ:=Int×Int×Int×Int×Int×Int×(List (List Int))) (fun (i1,d6,d7,d8,d9,d10,l2)=>mkE [(2,(li uH)),(3,(li uJ)),(10,(AV.ptr 0 0)),(12,(AV.ptr 1 0)),(13,(li i1))]) (fun (i1,d6,d7,d8,d9,d10,l2)=>[.box 51 ([li 0]++([li 0]++([li 0]++([li 0]++([li 0]++((cA 5 (eS cI) ([]:List Int) (List.replicate 5 ([]:List Int)))++[])))))),.box 51 ([li d6]++([li d7]++([li d8]++([li d9]++([li d10]++((cM 5 3 (5:Int) l2)++[]))))))]) (fun n0 (i1,d6,d7,d8,d9,d10,l2)=>zJe uH uJ n0 i1 d6 d7 d8 d9 d10 l2) (uH,R,uN,uH,uJ,uO,(List.replicate 5 ([]:List Int))) h (fun _=>rfl) (z8 [0,1] rfl rfl (by kernel_rfl)) ?_
  clear h
  rintro n0 ⟨i1,d6,d7,d8,d9,d10,l2⟩ h
  replace h:zKt uH uJ (zJe uH uJ n0) i1 d6 d7 d8 d9 d10 l2=some r:=h
  unfold zKt at h
  refine zH<|zH<|zC<|zA (zB rfl)<|zA (zB rfl)<|zA (zB rfl) ?_
  refine zM h fun b2 h=>zA (ze rfl rfl b2)<|zA (zf rfl rfl)<|zF ?_
  refine zY h rfl (fun b3 h => ?_) (fun b3 h => ?_)
  ·refine zP<|zH<|zQ<|zC<|zA (zB rfl)<|zR h fun x2 w2 h => ?_
   refine zCo (k:=1) (la:=[AV.ptr 1 0,li i1,li 0]) (la':=[AV.ptr 0 0,li i1,li 0]) (r:=(.tup [])) (S:=[]) (en' := .box 51 ([li x2.node]++([li x2.kind]++([li x2.start]++([li x2.count]++([li x2.min]++((cM 5 3 (5:Int) x2.free)++[]))))))) Tryz.func125 rfl (by kernel_rfl) (.fn 125) rfl ⟨zBv.ptr,zBv.of (zAx.nr rfl),zBv.of (zAx.nr rfl),trivial⟩ rfl rfl (by kernel_rfl) (by kernel_rfl) (zM1 w2) rfl (.inl rfl)<|zF<|zC<|zA (zB rfl)<|zM h fun b4 h=>zA (ze rfl rfl b4) ?_
   refine zA (zD rfl)<|zF ?_
   exact ⟨((i1+1),x2.node,x2.kind,x2.start,x2.count,x2.min,x2.free),z8 [0,1] rfl rfl (by kernel_rfl),h⟩
  refine zx ?_
  exact ⟨(d6,d7,d8,d9,d10,l2),z8 [0,1] rfl rfl (by kernel_rfl),h⟩
 clear h
 rintro ⟨d1,d2,d3,d4,d5,l1⟩ h
 unfold zK5 at h
 refine zH<|zC<|zAC (zK6 (k:=1) (cs:=([li d1]++([li d2]++([li d3]++([li d4]++([li d5]++((cM 5 3 (5:Int) l1)++[]))))))) (hd:=([li d1]++[li d2]++[li d3]++[li d4]++[li d5]++[])) (tl:=([])) (N:=5) (T:=3) (K:=5) (l:=l1) rfl rfl)<|zA (zT (k:=1) (o:=0) (m:=10) Tryz.isAgg51 Tryz.sizeOf51 rfl rfl rfl rfl rfl)<|zi (H':=[.box 51 (zO (⟨d1,d2,d3,d4,d5,l1⟩:zj)),.box 51 ([li d1]++([li d2]++([li d3]++([li d4]++([li d5]++((cA 5 (eS cI) ([]:List Int) l1)++[]))))))]) (zZ (k:=0) (o:=0) (cs:=([li 0]++([li 0]++([li 0]++([li 0]++([li 0]++((cA 5 (eS cI) ([]:List Int) (List.replicate 5 ([]:List Int)))++[]))))))) (la:=(zO (⟨d1,d2,d3,d4,d5,l1⟩:zj))) Tryz.sizeOf51 rfl rfl rfl rfl)<|zA (zD rfl) ?_
 refine zF<|zb ?_
 cases h
 exact zBx (zFc Tryz.isAgg51 Tryz.sizeOf51 rfl rfl rfl rfl) (zAH rfl rfl) rfl
theorem zO2 {W:Int} {r:zL×Int} (h:zMj W=some r):PFn Tryz.prog 82 [li W] (AV.tup [(AV.agg (zG r.1)),li r.2]):=by
 refine zo Tryz.func82 rfl Tryz.ntmps82 Tryz.results82 rfl ?_
 unfold zMj at h
 refine zH<|zC<|za (H':=[.box 55 [(ls (cS cI) ([]:List (List Int)))]]) zv1<|zA (zD rfl)<|zF<|zH ?_
 refine zH<|zC<|zA (zB rfl)<|zA (zf rfl rfl)<|zA (zB rfl)<|zX rfl rfl (fun c1=>zp.step (zB rfl)) ?_
 refine zX rfl rfl (fun c2=>zp.step (zAc (z6 rfl c2) rfl))<|zA (zg rfl rfl)<|zF ?_
 refine zY h rfl (fun b1 h => ?_) (fun b1 h => ?_)
 ·refine zH<|zC<|zA zv2<|zi (H':=[.box 55 (zG (⟨([]:List (List Int))⟩:zL))]) (zZ (k:=0) (o:=0) (cs:=[(ls (cS cI) ([]:List (List Int)))]) (la:=(zG (⟨([]:List (List Int))⟩:zL))) Tryz.sizeOf55 rfl rfl rfl rfl)<|zA (zD rfl)<|zF ?_
  refine zb ?_
  cases h
  exact zBx (zFc Tryz.isAgg55 Tryz.sizeOf55 rfl rfl rfl rfl) (zAH rfl rfl) rfl
 refine zP<|zH<|zC<|zA (zB rfl)<|zM h fun b2 h=>zEn (f:=(cS cI)) (a:=W) (c:=W) (d0:=([]:List Int)) zOg ⟨zAt.nils,trivial⟩ rfl Tryz.underlying53 rfl rfl b2 ?_
 refine zA (zCU (pl:=[(0,1)]) (zs:=[.slice none 0 0]) (zc:=[.sl false []]) (res:=[AV.hd 1]) (fun _=>by kernel_rfl) rfl (⟨zAt.nils,trivial⟩) ⟨AV.hd 1,0,1,rfl,rfl,rfl,rfl,rfl,(by exact zLY.refl _)⟩)<|zi (H':=[.box 55 [AV.hd 1],.vec 22 1 (List.map (cS cI) (List.replicate W.toNat ([]:List Int)))]) (zZ (k:=0) (o:=0) (cs:=[(ls (cS cI) ([]:List (List Int)))]) (la:=[AV.hd 1]) Tryz.sizeOf55 rfl rfl rfl rfl)<|zA (zD rfl)<|zF<|zAT (zAA (k:=0) (j:=1) (o:=0) rfl rfl rfl rfl)<|zAT (zBl (k:=0) (o:=0) (rows':=List.map (cS cI) (List.replicate W.toNat ([]:List Int))) rfl rfl (zAK (fun _=>rfl))) ?_
 refine zb ?_
 cases h
 exact zBx (zFc Tryz.isAgg55 Tryz.sizeOf55 rfl rfl rfl rfl) (zAH rfl rfl) rfl
theorem zM6 {A:List Int} {D:Int} {G:Int} {X:List zCB} {r:zJ×Int} (h:zHX A D G X=some r):PFn Tryz.prog 36 [ls cI A,li D,li G,ls zAe X] (AV.tup [(AV.agg (zI r.1)),li r.2]):=by
 refine zo Tryz.func36 rfl Tryz.ntmps36 Tryz.results36 rfl ?_
 unfold zHX at h
 refine zH<|zC<|za (H':=[.box 26 (zI ⟨[],0,0,[],[]⟩)]) zv3<|zA (zD rfl)<|zF ?_
 refine zu (r:=r) (fun (d1:List Int)=>mkE [(0,(ls cI A)),(3,(ls zAe X)),(8,(AV.ptr 0 0)),(10,(AV.ptr 1 0))]) (fun d1=>[.box 26 (zI ⟨[],0,0,[],[]⟩),.box 26 [ls cI d1,li D,li G,AV.osl 51 10 (List.map zO (List.replicate (X.length:Int).toNat (zKr))),AV.osl 55 1 (List.map zG ([]:List zL))]]) (fun d1=>zIt A D G X d1) ?_ ?_
 ·
  refine zR h fun x4 w4 h=>zM h fun b11 h => ?_
  refine zT1 (n:=82) (m:=0) 6 8 [9] [6,7,8] [.head 0 2,.head 0 2,.head 0 2,.head 0 2,.head 0 0,.head 0 0,.tail 0,.head 1 2,.tail 1,.tail 2] [.head 0 2,.head 0 2,.head 0 2,.head 0 2,.head 0 1,.head 0 1,.tail 1,.head 2 2,.tail 0,.tail 2] [ls cI A,ls cI x4,li D,li G,ls zAe X,(li (X.length:Int)),AV.hd 1,(AV.agg [ls cI x4,li D,li G,AV.hd 1,AV.osl 55 1 (List.map zG ([]:List zL))]),AV.ptr 2 0,.any] [ls cI A,ls cI x4,li D,li G,ls zAe X,(li (X.length:Int)),AV.hd 2,(AV.agg [ls cI x4,li D,li G,AV.hd 2,AV.osl 55 1 (List.map zG ([]:List zL))]),AV.ptr 1 0,.any] [[.box 26 (zI ⟨[],0,0,[],[]⟩)],[.box 26 (zI ⟨[],0,0,[],[]⟩),.vec 51 10 (List.map zO (List.replicate (X.length:Int).toNat (zKr)))],[.box 26 (zI ⟨[],0,0,[],[]⟩),.vec 51 10 (List.map zO (List.replicate (X.length:Int).toNat (zKr))),.box 26 [AV.osl 3 1 (List.map cI ([]:List Int)),li 0,li 0,AV.osl 51 10 (List.map zO ([]:List zj)),AV.osl 55 1 (List.map zG ([]:List zL))]],[.box 26 (zI ⟨[],0,0,[],[]⟩),.vec 51 10 (List.map zO (List.replicate (X.length:Int).toNat (zKr))),.box 26 [ls cI x4,li D,li G,AV.hd 1,AV.osl 55 1 (List.map zG ([]:List zL))]]] [[.box 26 (zI ⟨[],0,0,[],[]⟩)],[.box 26 (zI ⟨[],0,0,[],[]⟩),.box 26 [AV.osl 3 1 (List.map cI ([]:List Int)),li 0,li 0,AV.osl 51 10 (List.map zO ([]:List zj)),AV.osl 55 1 (List.map zG ([]:List zL))]],[.box 26 (zI ⟨[],0,0,[],[]⟩),.box 26 [AV.osl 3 1 (List.map cI ([]:List Int)),li 0,li 0,AV.osl 51 10 (List.map zO ([]:List zj)),AV.osl 55 1 (List.map zG ([]:List zL))],.vec 51 10 (List.map zO (List.replicate (X.length:Int).toNat (zKr)))],[.box 26 (zI ⟨[],0,0,[],[]⟩),.box 26 [ls cI x4,li D,li G,AV.hd 2,AV.osl 55 1 (List.map zG ([]:List zL))],.vec 51 10 (List.map zO (List.replicate (X.length:Int).toNat (zKr)))]] (by kernel_rfl) (by kernel_rfl) (by kernel_rfl) ⟨.inr rfl,⟨.inr rfl,⟨.inr rfl,⟨.inr rfl,⟨.inr rfl,⟨.inr rfl,⟨.inl rfl,⟨.inl rfl,⟨.inl rfl,⟨.inr rfl,trivial⟩⟩⟩⟩⟩⟩⟩⟩⟩⟩ (by kernel_rfl) rfl rfl ⟨⟨?_,?_,?_⟩,⟨?_,?_,?_⟩,⟨?_,?_,?_⟩,⟨?_,?_,?_⟩,?_,?_,?_,⟨?_,?_⟩,?_,?_,trivial⟩ ⟨⟨?_,?_,?_⟩,⟨?_,?_,?_⟩,⟨?_,?_,?_⟩,⟨?_,?_,?_⟩,⟨?_,?_⟩,⟨?_,?_⟩,?_,?_,?_,?_,trivial⟩ ?_ ?_
  ·exact D1 fun e s p=>zB (s 0 rfl)
  ·exact D1 fun e s p=>zB (s 0 rfl)
  ·exact D1 fun e s p=>zB (s 0 rfl)
  ·
   intro e4 s4 p4
   refine zA7 (r':=(ls cI x4)) (la:=[ls cI A]) (la':=[ls cI A]) (r:=(AV.osl 3 1 (List.map cI x4))) (S:=[]) Tryz.func80 rfl (by kernel_rfl) (.fn 80) (zAN p4.1 rfl) ⟨zAx.nr rfl,trivial⟩ (zAS w4) (.inl rfl) (congrArg (AV.sl false) (zAK (fun _=>rfl))) ?_
   exact zF ⟨fun _=>rfl,rfl⟩
  ·
   intro e5 s5 p5
   refine zA7 (r':=(ls cI x4)) (la:=[ls cI A]) (la':=[ls cI A]) (r:=(AV.osl 3 1 (List.map cI x4))) (S:=[]) Tryz.func80 rfl (by kernel_rfl) (.fn 80) (zAN p5.1 rfl) ⟨zAx.nr rfl,trivial⟩ (zAS w4) (.inl rfl) (congrArg (AV.sl false) (zAK (fun _=>rfl))) ?_
   exact zF ⟨fun _=>rfl,rfl⟩
  ·
   intro e6 s6 p6
   refine zA7 (r':=(ls cI x4)) (la:=[ls cI A]) (la':=[ls cI A]) (r:=(AV.osl 3 1 (List.map cI x4))) (S:=[]) Tryz.func80 rfl (by kernel_rfl) (.fn 80) (zAN p6.1 rfl) ⟨zAx.nr rfl,trivial⟩ (zAS w4) (.inl rfl) (congrArg (AV.sl false) (zAK (fun _=>rfl))) ?_
   exact zF ⟨fun _=>rfl,rfl⟩
  ·exact D1 fun e s p=>zB (s 1 rfl)
  ·exact D1 fun e s p=>zB (s 1 rfl)
  ·exact D1 fun e s p=>zB (s 1 rfl)
  ·exact D1 fun e s p=>zB (s 2 rfl)
  ·exact D1 fun e s p=>zB (s 2 rfl)
  ·exact D1 fun e s p=>zB (s 2 rfl)
  ·exact D1 fun e s p=>zB (s 3 rfl)
  ·exact D1 fun e s p=>zW (f:=zAe) (l:=X) Tryz.underlying47 p.1
  ·
   intro e15 s15 p15
   refine zEn (f:=zO) (a:=(X.length:Int)) (c:=(X.length:Int)) (d0:=(zKr)) zOX ⟨zAt.refl _,⟨zAt.refl _,⟨zAt.refl _,⟨zAt.refl _,⟨zAt.refl _,⟨zAt.nils,⟨zAt.nils,⟨zAt.nils,⟨zAt.nils,⟨zAt.nils,trivial⟩⟩⟩⟩⟩⟩⟩⟩⟩⟩ rfl Tryz.underlying23 p15.2.1 p15.2.1 b11 ?_
   exact zF ⟨fun _=>rfl,rfl⟩
  ·exact D1 fun e s p=>zCU (pl:=[(0,1),(1,1),(2,1),(3,1),(4,1)]) (zs:=[.slice none 0 0,.int .i64 0,.int .i64 0,.slice none 0 0,.slice none 0 0]) (zc:=[.osl 3 1 [],.lit (.int .i64 0),.lit (.int .i64 0),.osl 51 10 [],.osl 55 1 []]) (res:=[ls cI x4,li D,li G,AV.hd 1,AV.osl 55 1 (List.map zG ([]:List zL))]) (fun _=>by kernel_rfl) rfl (⟨zAt.nilo,⟨zAt.refl _,⟨zAt.refl _,⟨zAt.nilo,⟨zAt.nilo,trivial⟩⟩⟩⟩⟩) ⟨ls cI x4,0,1,rfl,p.1,rfl,rfl,rfl,⟨li D,1,1,rfl,p.2.1,rfl,rfl,rfl,⟨li G,2,1,rfl,p.2.2.1,rfl,rfl,rfl,⟨AV.hd 1,3,1,rfl,p.2.2.2.1,rfl,rfl,rfl,(by exact zLY.refl _)⟩⟩⟩⟩
  ·exact D1 fun e s p=>zCU (pl:=[(0,1),(1,1),(2,1),(3,1),(4,1)]) (zs:=[.slice none 0 0,.int .i64 0,.int .i64 0,.slice none 0 0,.slice none 0 0]) (zc:=[.osl 3 1 [],.lit (.int .i64 0),.lit (.int .i64 0),.osl 51 10 [],.osl 55 1 []]) (res:=[ls cI x4,li D,li G,AV.hd 1,AV.osl 55 1 (List.map zG ([]:List zL))]) (fun _=>by kernel_rfl) rfl (⟨zAt.nilo,⟨zAt.refl _,⟨zAt.refl _,⟨zAt.nilo,⟨zAt.nilo,trivial⟩⟩⟩⟩⟩) ⟨ls cI x4,0,1,rfl,p.1,rfl,rfl,rfl,⟨li D,1,1,rfl,p.2.1,rfl,rfl,rfl,⟨li G,2,1,rfl,p.2.2.1,rfl,rfl,rfl,⟨AV.hd 1,3,1,rfl,p.2.2.2.1,rfl,rfl,rfl,(by exact zLY.refl _)⟩⟩⟩⟩
  ·
   intro e18 s18 p18
   refine za (H':=[.box 26 (zI ⟨[],0,0,[],[]⟩),.vec 51 10 (List.map zO (List.replicate (X.length:Int).toNat (zKr))),.box 26 [AV.osl 3 1 (List.map cI ([]:List Int)),li 0,li 0,AV.osl 51 10 (List.map zO ([]:List zj)),AV.osl 55 1 (List.map zG ([]:List zL))]]) zv4 ?_
   exact zF ⟨fun _=>rfl,rfl⟩
  ·
   intro e19 s19 p19
   refine zi (H':=[.box 26 (zI ⟨[],0,0,[],[]⟩),.vec 51 10 (List.map zO (List.replicate (X.length:Int).toNat (zKr))),.box 26 [ls cI x4,li D,li G,AV.hd 1,AV.osl 55 1 (List.map zG ([]:List zL))]]) (zZ (k:=2) (o:=0) (cs:=[AV.osl 3 1 (List.map cI ([]:List Int)),li 0,li 0,AV.osl 51 10 (List.map zO ([]:List zj)),AV.osl 55 1 (List.map zG ([]:List zL))]) (la:=[ls cI x4,li D,li G,AV.hd 1,AV.osl 55 1 (List.map zG ([]:List zL))]) Tryz.sizeOf26 (by exact p19.2.2.2.2.2.2.2.2.2.2.2.1) rfl rfl (by exact p19.2.2.2.2.2.2.2.2.2.2.1)) ?_
   exact zF ⟨fun _=>rfl,rfl⟩
  ·exact D1 fun e s p=>zB (s 0 rfl)
  ·exact D1 fun e s p=>zB (s 0 rfl)
  ·exact D1 fun e s p=>zB (s 0 rfl)
  ·
   intro e23 s23 p23
   refine zA7 (r':=(ls cI x4)) (la:=[ls cI A]) (la':=[ls cI A]) (r:=(AV.osl 3 1 (List.map cI x4))) (S:=[]) Tryz.func80 rfl (by kernel_rfl) (.fn 80) (zAN p23.1 rfl) ⟨zAx.nr rfl,trivial⟩ (zAS w4) (.inl rfl) (congrArg (AV.sl false) (zAK (fun _=>rfl))) ?_
   exact zF ⟨fun _=>rfl,rfl⟩
  ·
   intro e24 s24 p24
   refine zA7 (r':=(ls cI x4)) (la:=[ls cI A]) (la':=[ls cI A]) (r:=(AV.osl 3 1 (List.map cI x4))) (S:=[]) Tryz.func80 rfl (by kernel_rfl) (.fn 80) (zAN p24.1 rfl) ⟨zAx.nr rfl,trivial⟩ (zAS w4) (.inl rfl) (congrArg (AV.sl false) (zAK (fun _=>rfl))) ?_
   exact zF ⟨fun _=>rfl,rfl⟩
  ·
   intro e25 s25 p25
   refine zA7 (r':=(ls cI x4)) (la:=[ls cI A]) (la':=[ls cI A]) (r:=(AV.osl 3 1 (List.map cI x4))) (S:=[]) Tryz.func80 rfl (by kernel_rfl) (.fn 80) (zAN p25.1 rfl) ⟨zAx.nr rfl,trivial⟩ (zAS w4) (.inl rfl) (congrArg (AV.sl false) (zAK (fun _=>rfl))) ?_
   exact zF ⟨fun _=>rfl,rfl⟩
  ·exact D1 fun e s p=>zB (s 1 rfl)
  ·exact D1 fun e s p=>zB (s 1 rfl)
  ·exact D1 fun e s p=>zB (s 1 rfl)
  ·exact D1 fun e s p=>zB (s 2 rfl)
  ·exact D1 fun e s p=>zB (s 2 rfl)
  ·exact D1 fun e s p=>zB (s 2 rfl)
  ·exact D1 fun e s p=>zB (s 3 rfl)
  ·exact D1 fun e s p=>zB (s 3 rfl)
  ·exact D1 fun e s p=>zW (f:=zAe) (l:=X) Tryz.underlying47 p.1
  ·exact D1 fun e s p=>zW (f:=zAe) (l:=X) Tryz.underlying47 p.1
  ·
   intro e36 s36 p36
   refine zEn (f:=zO) (a:=(X.length:Int)) (c:=(X.length:Int)) (d0:=(zKr)) zOX ⟨zAt.refl _,⟨zAt.refl _,⟨zAt.refl _,⟨zAt.refl _,⟨zAt.refl _,⟨zAt.nils,⟨zAt.nils,⟨zAt.nils,⟨zAt.nils,⟨zAt.nils,trivial⟩⟩⟩⟩⟩⟩⟩⟩⟩⟩ rfl Tryz.underlying23 p36.2.1 p36.2.1 b11 ?_
   exact zF ⟨fun _=>rfl,rfl⟩
  ·exact D1 fun e s p=>zCU (pl:=[(0,1),(1,1),(2,1),(3,1),(4,1)]) (zs:=[.slice none 0 0,.int .i64 0,.int .i64 0,.slice none 0 0,.slice none 0 0]) (zc:=[.osl 3 1 [],.lit (.int .i64 0),.lit (.int .i64 0),.osl 51 10 [],.osl 55 1 []]) (res:=[ls cI x4,li D,li G,AV.hd 2,AV.osl 55 1 (List.map zG ([]:List zL))]) (fun _=>by kernel_rfl) rfl (⟨zAt.nilo,⟨zAt.refl _,⟨zAt.refl _,⟨zAt.nilo,⟨zAt.nilo,trivial⟩⟩⟩⟩⟩) ⟨ls cI x4,0,1,rfl,p.1,rfl,rfl,rfl,⟨li D,1,1,rfl,p.2.1,rfl,rfl,rfl,⟨li G,2,1,rfl,p.2.2.1,rfl,rfl,rfl,⟨AV.hd 2,3,1,rfl,p.2.2.2.1,rfl,rfl,rfl,(by exact zLY.refl _)⟩⟩⟩⟩
  ·
   intro e38 s38 p38
   refine za (H':=[.box 26 (zI ⟨[],0,0,[],[]⟩),.box 26 [AV.osl 3 1 (List.map cI ([]:List Int)),li 0,li 0,AV.osl 51 10 (List.map zO ([]:List zj)),AV.osl 55 1 (List.map zG ([]:List zL))]]) zv4 ?_
   exact zF ⟨fun _=>rfl,rfl⟩
  ·
   intro e39 s39 p39
   refine zi (H':=[.box 26 (zI ⟨[],0,0,[],[]⟩),.box 26 [ls cI x4,li D,li G,AV.hd 2,AV.osl 55 1 (List.map zG ([]:List zL))],.vec 51 10 (List.map zO (List.replicate (X.length:Int).toNat (zKr)))]) (zZ (k:=1) (o:=0) (cs:=[AV.osl 3 1 (List.map cI ([]:List Int)),li 0,li 0,AV.osl 51 10 (List.map zO ([]:List zj)),AV.osl 55 1 (List.map zG ([]:List zL))]) (la:=[ls cI x4,li D,li G,AV.hd 2,AV.osl 55 1 (List.map zG ([]:List zL))]) Tryz.sizeOf26 (by exact p39.2.2.2.2.2.2.2.2.2.2.2.1) rfl rfl (by exact p39.2.2.2.2.2.2.2.2.2.2.1)) ?_
   exact zF ⟨fun _=>rfl,rfl⟩
  ·
   intro e40 s40 hq1
   exact ⟨x4,Rep.trans (zBL (l:=[(0,(ls cI A)),(3,(ls zAe X)),(8,(AV.ptr 0 0)),(10,(AV.ptr 2 0))]) ⟨s40 0 rfl,s40 3 rfl,s40 8 rfl,(hq1 8 (by decide) (by decide)),trivial⟩) (Rep.trans (zAA (k:=2) (j:=1) (o:=3) (cs:=[ls cI x4,li D,li G,AV.hd 1,AV.osl 55 1 (List.map zG ([]:List zL))]) rfl rfl rfl rfl) (z8 [0,2] (l:=[(0,(ls cI A)),(3,(ls zAe X)),(8,(AV.ptr 0 0)),(10,(AV.ptr 1 0))]) rfl rfl (by kernel_rfl))),h⟩
  intro e41 s41 hq2
  exact ⟨x4,Rep.trans (zBL (l:=[(0,(ls cI A)),(3,(ls zAe X)),(8,(AV.ptr 0 0)),(10,(AV.ptr 1 0))]) ⟨s41 0 rfl,s41 3 rfl,s41 8 rfl,(hq2 8 (by decide) (by decide)),trivial⟩) (Rep.trans (zAA (k:=1) (j:=2) (o:=3) (cs:=[ls cI x4,li D,li G,AV.hd 2,AV.osl 55 1 (List.map zG ([]:List zL))]) rfl rfl rfl rfl) (z8 [0,1] (l:=[(0,(ls cI A)),(3,(ls zAe X)),(8,(AV.ptr 0 0)),(10,(AV.ptr 1 0))]) rfl rfl (by kernel_rfl))),h⟩
 clear h
 intro d1 h
 unfold zIt at h
 refine zH<|zH<|zC<|zAC (zAo (k:=1) (o:=3) (t':=51) (sz:=10) (rows:=List.map zO (List.replicate (X.length:Int).toNat (zKr))) rfl rfl)<|zAC (zAo (k:=1) (o:=4) (t':=55) (sz:=1) (rows:=List.map zG ([]:List zL)) rfl rfl)<|zA (zT (k:=1) (o:=0) (m:=5) Tryz.isAgg26 Tryz.sizeOf26 rfl rfl rfl rfl rfl) ?_
 refine zR h fun x1 w1 h=>zA7 (r':=(AV.lit (.bool x1))) (la:=[(AV.agg [ls cI d1,li D,li G,AV.hd 2,AV.hd 3])]) (la':=[(AV.agg (zI ⟨d1,D,G,(List.replicate (X.length:Int).toNat (zKr)),[]⟩))]) (r:=(AV.lit (.bool x1))) (S:=[2,3]) Tryz.func41 rfl (by kernel_rfl) (.fn 41) rfl ⟨zAx.agg (by exact ⟨zAx.nr rfl,⟨zAx.nr rfl,⟨zAx.nr rfl,⟨zJc (fun _=>rfl) rfl rfl,⟨zJc (fun _=>rfl) rfl rfl,trivial⟩⟩⟩⟩⟩),trivial⟩ (zI4 w1) (.inr trivial) rfl<|zA (zBD (t:=x1) rfl)<|zF ?_
 refine zY h rfl (fun b1 h => ?_) (fun b1 h => ?_)
 ·refine zH<|zC<|zA (zCU (pl:=[(0,1),(1,1),(2,1),(3,1),(4,1)]) (zs:=[.slice none 0 0,.int .i64 0,.int .i64 0,.slice none 0 0,.slice none 0 0]) (zc:=[.osl 3 1 [],.lit (.int .i64 0),.lit (.int .i64 0),.osl 51 10 [],.osl 55 1 []]) (res:=[AV.osl 3 1 (List.map cI ([]:List Int)),li 0,li 0,AV.osl 51 10 (List.map zO ([]:List zj)),AV.osl 55 1 (List.map zG ([]:List zL))]) (fun _=>by kernel_rfl) rfl (⟨zAt.nilo,⟨zAt.refl _,⟨zAt.refl _,⟨zAt.nilo,⟨zAt.nilo,trivial⟩⟩⟩⟩⟩) (by exact zLY.refl _))<|zi (H':=[.box 26 [AV.osl 3 1 (List.map cI ([]:List Int)),li 0,li 0,AV.osl 51 10 (List.map zO ([]:List zj)),AV.osl 55 1 (List.map zG ([]:List zL))],.box 26 [ls cI d1,li D,li G,AV.hd 2,AV.hd 3],.vec 51 10 (List.map zO (List.replicate (X.length:Int).toNat (zKr))),.vec 55 1 (List.map zG ([]:List zL))]) (zZ (k:=0) (o:=0) (cs:=(zI ⟨[],0,0,[],[]⟩)) (la:=[AV.osl 3 1 (List.map cI ([]:List Int)),li 0,li 0,AV.osl 51 10 (List.map zO ([]:List zj)),AV.osl 55 1 (List.map zG ([]:List zL))]) Tryz.sizeOf26 rfl rfl rfl rfl)<|zA (zD rfl)<|zF ?_
  refine zAT (zBl (k:=0) (o:=0) (rows':=List.map cI ([]:List Int)) rfl rfl (zAK (fun _=>rfl)))<|zAT (zBl (k:=0) (o:=3) (rows':=List.map zO ([]:List zj)) rfl rfl (zAK (fun _=>rfl)))<|zAT (zBl (k:=0) (o:=4) (rows':=List.map zG ([]:List zL)) rfl rfl (zAK (fun _=>rfl)))<|zb ?_
  cases h
  exact zBx (zFc Tryz.isAgg26 Tryz.sizeOf26 rfl rfl rfl rfl) (zAH rfl rfl) rfl
 refine zP<|zH<|zC<|zA (zD rfl)<|zF ?_
 refine zu (r:=r) (fun (l1:List zj)=>mkE [(0,(ls cI A)),(3,(ls zAe X)),(8,(AV.ptr 0 0)),(10,(AV.ptr 1 0))]) (fun l1=>[.box 26 (zI ⟨[],0,0,[],[]⟩),.box 26 [ls cI d1,li D,li G,AV.osl 51 10 (List.map zO l1),AV.osl 55 1 (List.map zG ([]:List zL))]]) (fun l1=>zIq A D G X d1 l1) ?_ ?_
 ·
  refine zH<|zC<|zA (zB rfl)<|zA (zW Tryz.underlying47 rfl)<|zA (zB rfl)<|zF ?_
  refine zQ<|zq (σ:=Int×Int×(List zj)) (fun (i2,i3,l4)=>mkE [(0,(ls cI A)),(3,(ls zAe X)),(8,(AV.ptr 0 0)),(10,(AV.ptr 1 0)),(11,(li i2)),(30,(ls zAe X)),(31,(li (X.length:Int))),(32,(li i3))]) (fun (i2,i3,l4)=>[.box 26 (zI ⟨[],0,0,[],[]⟩),.box 26 [ls cI d1,li D,li G,AV.osl 51 10 (List.map zO l4),AV.osl 55 1 (List.map zG ([]:List zL))]]) (fun n1 (i2,i3,l4)=>zGt A D G X d1 n1 i2 i3 l4) (0,0,(List.replicate (X.length:Int).toNat (zKr))) h (fun _=>rfl) (Rep.trans (zAA (k:=1) (j:=2) (o:=3) rfl rfl rfl rfl) (Rep.trans (zAA (k:=1) (j:=3) (o:=4) rfl rfl rfl rfl) (z8 [0,1] (l:=[(0,(ls cI A)),(3,(ls zAe X)),(8,(AV.ptr 0 0)),(10,(AV.ptr 1 0)),(11,(li 0)),(30,(ls zAe X)),(31,(li (X.length:Int))),(32,(li 0))]) rfl rfl (by kernel_rfl)))) ?_
  clear h
  rintro n1 ⟨i2,i3,l4⟩ h
  replace h:zIs A D G X d1 (zGt A D G X d1 n1) i2 i3 l4=some r:=h
  unfold zIs at h
  refine zH<|zC<|zA (zf rfl rfl)<|zF<|zH ?_
  refine zY h rfl (fun b5 h => ?_) (fun b5 h => ?_)
  ·refine zP<|zH<|zQ<|zH<|zC<|zA (zB rfl) ?_
   refine zM h fun b6 h=>zA (zS Tryz.underlying47 Tryz.sizeOf46 (fun _=>rfl) rfl rfl b6)<|zA (zAh (row:=(zAe (at_ X i3))) (o:=0) (m:=4) (la:=(zAe (at_ X i3))) Tryz.isAgg46 Tryz.sizeOf46 rfl rfl rfl)<|za (H':=[.box 26 (zI ⟨[],0,0,[],[]⟩),.box 26 [ls cI d1,li D,li G,AV.osl 51 10 (List.map zO l4),AV.osl 55 1 (List.map zG ([]:List zL))],.box 46 [li 0,li 0,li 0,li 0]]) zv5<|zA (zD rfl)<|zi (H':=[.box 26 (zI ⟨[],0,0,[],[]⟩),.box 26 [ls cI d1,li D,li G,AV.osl 51 10 (List.map zO l4),AV.osl 55 1 (List.map zG ([]:List zL))],.box 46 (zAe (at_ X i3))]) (zZ (k:=2) (o:=0) (cs:=[li 0,li 0,li 0,li 0]) (la:=(zAe (at_ X i3))) Tryz.sizeOf46 rfl rfl rfl rfl) ?_
   refine zF<|zH<|zC<|zA (zK Tryz.underlying46 rfl rfl Tryz.sizeOf3 rfl)<|zA (zN Tryz.isAgg3 rfl rfl rfl rfl)<|zA (zK Tryz.underlying46 rfl rfl Tryz.sizeOf3 rfl) ?_
   refine zA (zN Tryz.isAgg3 rfl rfl rfl rfl)<|zA (zB rfl)<|zA (zK Tryz.underlying46 rfl rfl Tryz.sizeOf3 rfl)<|zA (zN Tryz.isAgg3 rfl rfl rfl rfl)<|zA (zK Tryz.underlying46 rfl rfl Tryz.sizeOf3 rfl)<|zA (zN Tryz.isAgg3 rfl rfl rfl rfl) ?_
   refine zR h fun x3 w3 h=>zh Tryz.func81 rfl (by kernel_rfl) (.fn 81) rfl rfl (zQD w3) rfl<|zA (zB rfl)<|zA (zd rfl rfl)<|zA (zd rfl rfl)<|za (H':=[.box 26 (zI ⟨[],0,0,[],[]⟩),.box 26 [ls cI d1,li D,li G,AV.osl 51 10 (List.map zO l4),AV.osl 55 1 (List.map zG ([]:List zL))],.box 46 (zAe (at_ X i3)),.box 51 (zO ⟨0,0,0,0,0,(List.replicate 5 ([]:List Int))⟩)]) zv0 ?_
   refine zi (H':=[.box 26 (zI ⟨[],0,0,[],[]⟩),.box 26 [ls cI d1,li D,li G,AV.osl 51 10 (List.map zO l4),AV.osl 55 1 (List.map zG ([]:List zL))],.box 46 (zAe (at_ X i3)),.box 51 (zO x3.1)]) (zZ (k:=3) (o:=0) (cs:=(zO ⟨0,0,0,0,0,(List.replicate 5 ([]:List Int))⟩)) (la:=(zO x3.1)) Tryz.sizeOf51 rfl rfl rfl rfl)<|zA (zD rfl)<|zF<|zH<|zH<|zC ?_
   refine zA (zB rfl)<|zA (zz rfl rfl)<|zF ?_
   refine zY h rfl (fun b7 h => ?_) (fun b7 h => ?_)
   ·refine zH<|zC<|zA (zCU (pl:=[(0,1),(1,1),(2,1),(3,1),(4,1)]) (zs:=[.slice none 0 0,.int .i64 0,.int .i64 0,.slice none 0 0,.slice none 0 0]) (zc:=[.osl 3 1 [],.lit (.int .i64 0),.lit (.int .i64 0),.osl 51 10 [],.osl 55 1 []]) (res:=[AV.osl 3 1 (List.map cI ([]:List Int)),li 0,li 0,AV.osl 51 10 (List.map zO ([]:List zj)),AV.osl 55 1 (List.map zG ([]:List zL))]) (fun _=>by kernel_rfl) rfl (⟨zAt.nilo,⟨zAt.refl _,⟨zAt.refl _,⟨zAt.nilo,⟨zAt.nilo,trivial⟩⟩⟩⟩⟩) (by exact zLY.refl _))<|zA (zB rfl)<|zi (H':=[.box 26 [AV.osl 3 1 (List.map cI ([]:List Int)),li 0,li 0,AV.osl 51 10 (List.map zO ([]:List zj)),AV.osl 55 1 (List.map zG ([]:List zL))],.box 26 [ls cI d1,li D,li G,AV.osl 51 10 (List.map zO l4),AV.osl 55 1 (List.map zG ([]:List zL))],.box 46 (zAe (at_ X i3)),.box 51 (zO x3.1)]) (zZ (k:=0) (o:=0) (cs:=(zI ⟨[],0,0,[],[]⟩)) (la:=[AV.osl 3 1 (List.map cI ([]:List Int)),li 0,li 0,AV.osl 51 10 (List.map zO ([]:List zj)),AV.osl 55 1 (List.map zG ([]:List zL))]) Tryz.sizeOf26 rfl rfl rfl rfl)<|zA (zD rfl) ?_
    refine zF<|zAT (zBl (k:=0) (o:=0) (rows':=List.map cI ([]:List Int)) rfl rfl (zAK (fun _=>rfl)))<|zAT (zBl (k:=0) (o:=3) (rows':=List.map zO ([]:List zj)) rfl rfl (zAK (fun _=>rfl)))<|zAT (zBl (k:=0) (o:=4) (rows':=List.map zG ([]:List zL)) rfl rfl (zAK (fun _=>rfl)))<|zb ?_
    cases h
    exact zBx (zFc Tryz.isAgg26 Tryz.sizeOf26 rfl rfl rfl rfl) (zAH rfl rfl) rfl
   refine zP<|zH<|zC<|zA (zK Tryz.underlying26 rfl rfl Tryz.sizeOf23 rfl)<|zAC (zAo (k:=1) (o:=3) (t':=51) (sz:=10) (rows:=List.map zO l4) rfl rfl)<|zA (zN Tryz.isAgg23 rfl rfl rfl rfl) ?_
   refine zA (zB rfl)<|zA (zT (k:=3) (o:=0) (m:=10) Tryz.isAgg51 Tryz.sizeOf51 rfl rfl rfl rfl rfl)<|zM h fun b8 h=>zA (z5 (f:=zO) (l:=l4) (i:=i3) Tryz.underlying23 Tryz.sizeOf51 rfl rfl rfl b8)<|zi (H':=[.box 26 (zI ⟨[],0,0,[],[]⟩),.box 26 [ls cI d1,li D,li G,AV.hd 4,AV.osl 55 1 (List.map zG ([]:List zL))],.box 46 (zAe (at_ X i3)),.box 51 (zO x3.1),.vec 51 10 (List.map zO (l4.set i3.toNat x3.1))]) (zBZ (k:=4) (o:=(i3.toNat*10)) (f:=zO) (l:=l4) (i:=i3) (z:=x3.1) Tryz.sizeOf51 (fun _=>rfl) rfl rfl (by first | rfl | omega) b8 rfl rfl)<|zF ?_
   refine zC<|zA (zB rfl)<|zA (zK Tryz.underlying46 rfl rfl Tryz.sizeOf3 rfl)<|zA (zN Tryz.isAgg3 rfl rfl rfl rfl)<|zM h fun b9 h=>zA (ze rfl rfl b9) ?_
   refine zA (zD rfl)<|zF<|zC<|zM h fun b10 h=>zA (ze rfl rfl b10)<|zA (zB rfl) ?_
   refine zF ?_
   exact ⟨((i2+((at_ X i3).count)),(i3+1),(l4.set i3.toNat x3.1)),Rep.trans (zAA (k:=1) (j:=4) (o:=3) rfl rfl rfl rfl) (z8 [0,1] (l:=[(0,(ls cI A)),(3,(ls zAe X)),(8,(AV.ptr 0 0)),(10,(AV.ptr 1 0)),(11,(li (i2+((at_ X i3).count)))),(30,(ls zAe X)),(31,(li (X.length:Int))),(32,(li (i3+1)))]) rfl rfl (by kernel_rfl)),h⟩
  refine zx ?_
  exact ⟨l4,z8 [0,1] rfl rfl (by kernel_rfl),h⟩
 clear h
 intro l1 h
 unfold zIq at h
 refine zu (r:=r) (fun (l2:List zL)=>mkE [(8,(AV.ptr 0 0)),(10,(AV.ptr 1 0))]) (fun l2=>[.box 26 (zI ⟨[],0,0,[],[]⟩),.box 26 [ls cI d1,li D,li G,AV.osl 51 10 (List.map zO l1),AV.osl 55 1 (List.map zG l2)]]) (fun l2=>zIv D G d1 l1 l2) ?_ ?_
 ·
  refine zH<|zC<|zA (zB rfl)<|zA (zW Tryz.underlying22 rfl)<|zA (zB rfl)<|zF ?_
  refine zQ<|zq (σ:=Int×(List zL)) (fun (i1,l3)=>mkE [(3,(ls zAe X)),(8,(AV.ptr 0 0)),(10,(AV.ptr 1 0)),(65,(li (A.length:Int))),(66,(li i1))]) (fun (i1,l3)=>[.box 26 (zI ⟨[],0,0,[],[]⟩),.box 26 [ls cI d1,li D,li G,AV.osl 51 10 (List.map zO l1),AV.osl 55 1 (List.map zG l3)]]) (fun n0 (i1,l3)=>zGy A D G X d1 l1 n0 i1 l3) (0,([]:List zL)) h (fun _=>rfl) (z8 [0,1] rfl rfl (by kernel_rfl)) ?_
  clear h
  rintro n0 ⟨i1,l3⟩ h
  replace h:zIn A D G X d1 l1 (zGy A D G X d1 l1 n0) i1 l3=some r:=h
  unfold zIn at h
  refine zH<|zC<|zA (zf rfl rfl)<|zF<|zH ?_
  refine zY h rfl (fun b2 h => ?_) (fun b2 h => ?_)
  ·refine zP<|zH<|zQ<|zH<|zC<|zA (zB rfl) ?_
   refine zA (zW Tryz.underlying47 rfl)<|zR h fun x2 w2 h=>zh Tryz.func82 rfl (by kernel_rfl) (.fn 82) rfl rfl (zO2 w2) rfl<|zA (zB rfl)<|zA (zd rfl rfl)<|zA (zd rfl rfl) ?_
   refine za (H':=[.box 26 (zI ⟨[],0,0,[],[]⟩),.box 26 [ls cI d1,li D,li G,AV.osl 51 10 (List.map zO l1),AV.osl 55 1 (List.map zG l3)],.box 55 [AV.osl 22 1 (List.map (cS cI) ([]:List (List Int)))]]) zv6<|zi (H':=[.box 26 (zI ⟨[],0,0,[],[]⟩),.box 26 [ls cI d1,li D,li G,AV.osl 51 10 (List.map zO l1),AV.osl 55 1 (List.map zG l3)],.box 55 (zG x2.1)]) (zZ (k:=2) (o:=0) (cs:=[AV.osl 22 1 (List.map (cS cI) ([]:List (List Int)))]) (la:=(zG x2.1)) Tryz.sizeOf55 rfl rfl rfl rfl)<|zA (zD rfl)<|zF<|zC<|zA (zK Tryz.underlying26 rfl rfl Tryz.sizeOf24 rfl) ?_
   refine zAC (zAo (k:=1) (o:=4) (t':=55) (sz:=1) (rows:=List.map zG l3) rfl rfl)<|zA (zN Tryz.isAgg24 rfl rfl rfl rfl)<|zA (zT (k:=2) (o:=0) (m:=1) Tryz.isAgg55 Tryz.sizeOf55 rfl rfl rfl rfl rfl)<|zEe (a:=(AV.agg (zG x2.1))) zOl Tryz.underlying24 rfl rfl rfl rfl<|zM h fun b3 h=>zBm (f:=zG) (k:=3) (j:=4) (l:=l3) (l':=[x2.1]) zOl (fun _=>rfl) Tryz.underlying24 rfl rfl rfl rfl b3 ?_
   refine zA (zK Tryz.underlying26 rfl rfl Tryz.sizeOf24 rfl)<|zi (H':=[.box 26 (zI ⟨[],0,0,[],[]⟩),.box 26 [ls cI d1,li D,li G,AV.osl 51 10 (List.map zO l1),AV.hd 5],.box 55 (zG x2.1),.dead,.vec 55 1 (List.map zG [x2.1]),.vec 55 1 (List.map zG (l3++[x2.1]))]) (zCz (k:=1) (o:=4) (cs:=[ls cI d1,li D,li G,AV.osl 51 10 (List.map zO l1),AV.hd 3]) (a:=(AV.hd 5)) Tryz.sizeOf24 rfl rfl rfl rfl rfl)<|zF<|zC<|zM h fun b4 h=>zA (ze rfl rfl b4) ?_
   refine zA (zB rfl)<|zF ?_
   exact ⟨((i1+1),(l3++[x2.1])),Rep.trans (zAA (k:=1) (j:=5) (o:=4) rfl rfl rfl rfl) (z8 [0,1] (l:=[(3,(ls zAe X)),(8,(AV.ptr 0 0)),(10,(AV.ptr 1 0)),(65,(li (A.length:Int))),(66,(li (i1+1)))]) rfl rfl (by kernel_rfl)),h⟩
  refine zx ?_
  exact ⟨l3,z8 [0,1] rfl rfl (by kernel_rfl),h⟩
 clear h
 intro l2 h
 unfold zIv at h
 refine zH<|zC<|zAC (zBl (k:=1) (o:=3) (rows':=List.map zO l1) rfl rfl (zAK (fun _=>rfl)))<|zAC (zBl (k:=1) (o:=4) (rows':=List.map zG l2) rfl rfl (zAK (fun _=>rfl)))<|zA (zT (k:=1) (o:=0) (m:=5) Tryz.isAgg26 Tryz.sizeOf26 rfl rfl rfl rfl rfl)<|zi (H':=[.box 26 (zI (⟨d1,D,G,l1,l2⟩:zJ)),.box 26 (zI ⟨d1,D,G,l1,l2⟩)]) (zZ (k:=0) (o:=0) (cs:=(zI ⟨[],0,0,[],[]⟩)) (la:=(zI (⟨d1,D,G,l1,l2⟩:zJ))) Tryz.sizeOf26 rfl rfl rfl rfl) ?_
 refine zA (zD rfl)<|zF<|zb ?_
 cases h
 exact zBx (zFc Tryz.isAgg26 Tryz.sizeOf26 rfl rfl rfl rfl) (zAH rfl rfl) rfl
theorem zFO {A:zj} {r:Int} (h:zEK A=some r):PFn Tryz.prog 42 [(AV.agg (zO A))] (li r):=by
 refine zo Tryz.func42 rfl Tryz.ntmps42 Tryz.results42 rfl ?_
 unfold zEK at h
 refine zH<|zC<|za (H':=[.box 51 (zO A)]) (zv (t:=51) rfl)<|zA (zD rfl)<|zF<|zH ?_
 refine zH<|zC<|zA (zT (k:=0) (o:=0) (m:=10) Tryz.isAgg51 Tryz.sizeOf51 rfl rfl rfl rfl rfl)<|zR h fun x1 w1 h=>zA7 (r':=(AV.lit (.bool x1))) (la:=[(AV.agg (zO A))]) (la':=[(AV.agg ([li A.node,li A.kind,li A.start,li A.count,li A.min]++([AV.any,AV.any,AV.any,AV.any,AV.any]++[])))]) (r:=(AV.lit (.bool x1))) (S:=[]) Tryz.func85 rfl (by kernel_rfl) (.fn 85) rfl ⟨zMH (hd:=([li A.node]++[li A.kind]++[li A.start]++[li A.count]++[li A.min])) (tl:=((cA 5 (eS cI) ([]:List Int) A.free))) rfl,trivial⟩ (zKz w1) (.inl rfl) rfl<|zA (zBD (t:=x1) rfl) ?_
 refine zF ?_
 refine zY h rfl (fun b1 h => ?_) (fun b1 h => ?_)
 ·refine zH<|zC<|zA (zD rfl)<|zF<|zb ?_
  cases h
  exact zt (zAH rfl rfl)
 refine zP ?_
 refine zu (r:=r) (fun (_:Unit)=>mkE [(1,(AV.ptr 0 0))]) (fun _=>[.box 51 (zO A)]) (fun _=>zGl A) ?_ ?_
 ·
  refine zH<|zC<|zA (zK Tryz.underlying51 rfl rfl Tryz.sizeOf49 rfl)<|zA (zT (k:=0) (o:=5) (m:=5) Tryz.isAgg49 Tryz.sizeOf49 rfl rfl rfl rfl rfl)<|zA (zB rfl)<|zF ?_
  refine zQ<|zq (σ:=Int) (fun i6=>mkE [(1,(AV.ptr 0 0)),(23,(AV.agg (cA 5 (eS cI) ([]:List Int) A.free))),(24,(li i6))]) (fun i6=>[.box 51 (zO A)]) (fun n5 i6=>zCl A n5 i6) 0 h (fun _=>rfl) (z8 [0] rfl rfl (by kernel_rfl)) ?_
  clear h
  intro n5 i6 h
  replace h:zD5 A (zCl A n5) i6=some r:=h
  unfold zD5 at h
  refine zH<|zC<|zA (zf rfl rfl)<|zF<|zH ?_
  refine zY h rfl (fun b26 h => ?_) (fun b26 h => ?_)
  ·refine zP ?_
   refine zu (r:=r) (fun (_:Unit)=>mkE [(1,(AV.ptr 0 0)),(23,(AV.agg (cA 5 (eS cI) ([]:List Int) A.free))),(24,(li i6))]) (fun _=>[.box 51 (zO A)]) (fun _=>zIP (zCl A n5) i6) ?_ ?_
   ·
    refine zQ<|zH<|zC<|zA (zB rfl)<|zM h fun b28 h=>zA (zNW (la:=cA 5 (eS cI) ([]:List Int) A.free) (i:=i6) (a:=(ls cI (A.free.getD i6.toNat ([]:List Int)))) Tryz.underlying49 Tryz.sizeOf22 Tryz.isAgg22 rfl rfl b28 (zQs (zBS b28).2) rfl) ?_
    refine zA (zD rfl)<|zA (zD rfl)<|zF<|zH<|zC<|zA (zB rfl) ?_
    refine zA (zW Tryz.underlying22 rfl)<|zA (zB rfl)<|zF<|zQ<|zq (σ:=Int) (fun i7=>mkE [(1,(AV.ptr 0 0)),(3,(li i6)),(4,(ls cI (A.free.getD i6.toNat ([]:List Int)))),(23,(AV.agg (cA 5 (eS cI) ([]:List Int) A.free))),(24,(li i6)),(28,(ls cI (A.free.getD i6.toNat ([]:List Int)))),(29,(li ((A.free.getD i6.toNat ([]:List Int)).length:Int))),(30,(li i7))]) (fun i7=>[.box 51 (zO A)]) (fun n6 i7=>zGq (zCl A n5) A i6 n6 i7) 0 h (fun _=>rfl) (z8 [0] rfl rfl (by kernel_rfl)) ?_
    clear h
    intro n6 i7 h
    replace h:zEM (zCl A n5) A i6 (zGq (zCl A n5) A i6 n6) i7=some r:=h
    unfold zEM at h
    refine zH<|zC<|zA (zf rfl rfl)<|zF<|zH ?_
    refine zY h rfl (fun b29 h => ?_) (fun b29 h => ?_)
    ·refine zP<|zH<|zQ<|zH<|zC<|zA (zB rfl) ?_
     refine zM h fun b30 h=>zA (zS Tryz.underlying22 Tryz.sizeOf3 (fun _=>rfl) rfl rfl b30)<|zA (zU (o:=0) Tryz.isAgg3 rfl rfl)<|zA (zD rfl)<|zA (zD rfl)<|zF ?_
     refine zH<|zH<|zC<|zA (zT (k:=0) (o:=0) (m:=10) Tryz.isAgg51 Tryz.sizeOf51 rfl rfl rfl rfl rfl)<|zA (zB rfl)<|zA (zB rfl) ?_
     refine zR h fun x4 w4 h=>zA7 (r':=(AV.lit (.bool x4))) (la:=[(AV.agg (zO A)),(li (at_ (A.free.getD i6.toNat ([]:List Int)) i7)),li i6]) (la':=[(AV.agg ([li A.node,li A.kind,li A.start,li A.count,li A.min]++([AV.any,AV.any,AV.any,AV.any,AV.any]++[]))),(li (at_ (A.free.getD i6.toNat ([]:List Int)) i7)),li i6]) (r:=(AV.lit (.bool x4))) (S:=[]) Tryz.func86 rfl (by kernel_rfl) (.fn 86) rfl ⟨zMH (hd:=([li A.node]++[li A.kind]++[li A.start]++[li A.count]++[li A.min])) (tl:=((cA 5 (eS cI) ([]:List Int) A.free))) rfl,zAx.nr rfl,zAx.nr rfl,trivial⟩ (zFx w4) (.inl rfl) rfl<|zA (zBD (t:=x4) rfl)<|zF ?_
     refine zY h rfl (fun b31 h => ?_) (fun b31 h => ?_)
     ·refine zH<|zC<|zA (zD rfl)<|zF<|zb ?_
      cases h
      exact zt (zAH rfl rfl)
     refine zP<|zH<|zC<|zA (zB rfl)<|zA (zAc rfl rfl)<|zA (zB rfl) ?_
     refine zm rfl rfl (fun c8=>zp.step (zB rfl))<|zm rfl rfl (fun c9=>zp.step (zB rfl))<|zM h fun b32 h=>zm rfl rfl (fun c10=>zp.step (zBU (z6 rfl c10) rfl (zHT b32 c10)))<|zM h fun b33 h=>zm rfl rfl (fun c11=>zp.step (zS Tryz.underlying22 Tryz.sizeOf3 (fun _=>rfl) (z6 rfl c11) (z6 rfl c11) (zHT b33 c11))) ?_
     refine zm rfl rfl (fun c12=>zp.step (zU (o:=0) Tryz.isAgg3 (z6 rfl c12) rfl))<|zm rfl rfl (fun c13=>zp.step (zB rfl))<|zm rfl rfl (fun c14=>zp.step (zAv (z6 rfl c14) (z6 rfl c14)))<|zA (zy (j := .lit undef) rfl rfl)<|zF ?_
     refine zY h rfl (fun b34 h => ?_) (fun b34 h => ?_)
     ·refine zH<|zC<|zA (zD rfl)<|zF<|zb ?_
      cases h
      exact zt (zAH rfl rfl)
     refine zP<|zC<|zM h fun b35 h=>zA (ze rfl rfl b35)<|zA (zB rfl)<|zF ?_
     exact ⟨(i7+1),z8 [0] rfl rfl (by kernel_rfl),h⟩
    refine zx ?_
    exact ⟨(),z8 [0] rfl rfl (by kernel_rfl),h⟩
   clear h
   intro _ h
   unfold zIP at h
   refine zC<|zM h fun b27 h=>zA (ze rfl rfl b27)<|zA (zB rfl)<|zF ?_
   exact ⟨(i6+1),z8 [0] rfl rfl (by kernel_rfl),h⟩
  refine zx ?_
  exact ⟨(),z8 [0] rfl rfl (by kernel_rfl),h⟩
 clear h
 intro _ h
 unfold zGl at h
 refine zH<|zC<|za (H':=[.box 51 (zO A),.box 91 (cA 256 eB false (List.replicate 256 false))]) zv7<|zF ?_
 refine zu (r:=r) (fun (_:Unit)=>mkE [(1,(AV.ptr 0 0))]) (fun _=>[.box 51 (zO A)]) (fun _=>zEU A) ?_ ?_
 ·
  refine zH<|zC<|zA (zK Tryz.underlying51 rfl rfl Tryz.sizeOf49 rfl)<|zA (zT (k:=0) (o:=5) (m:=5) Tryz.isAgg49 Tryz.sizeOf49 rfl rfl rfl rfl rfl)<|zA (zB rfl)<|zF ?_
  refine zQ<|zq (σ:=Int×(List Bool)) (fun (i3,d1)=>mkE [(1,(AV.ptr 0 0)),(7,(AV.ptr 1 0)),(54,(AV.agg (cA 5 (eS cI) ([]:List Int) A.free))),(55,(li i3))]) (fun (i3,d1)=>[.box 51 (zO A),.box 91 (cA 256 eB false d1)]) (fun n2 (i3,d1)=>zBJ A n2 i3 d1) (0,(List.replicate 256 false)) h (fun _=>rfl) (z8 [0,1] rfl rfl (by kernel_rfl)) ?_
  clear h
  rintro n2 ⟨i3,d1⟩ h
  replace h:zEZ A (zBJ A n2) i3 d1=some r:=h
  unfold zEZ at h
  refine zH<|zC<|zA (zf rfl rfl)<|zF<|zH ?_
  refine zY h rfl (fun b13 h => ?_) (fun b13 h => ?_)
  ·refine zP ?_
   refine zu (r:=r) (fun (d2:List Bool)=>mkE [(1,(AV.ptr 0 0)),(7,(AV.ptr 1 0)),(54,(AV.agg (cA 5 (eS cI) ([]:List Int) A.free))),(55,(li i3))]) (fun d2=>[.box 51 (zO A),.box 91 (cA 256 eB false d2)]) (fun d2=>zIO (zBJ A n2) i3 d2) ?_ ?_
   ·
    refine zQ<|zH<|zC<|zA (zB rfl)<|zM h fun b15 h=>zA (zNW (la:=cA 5 (eS cI) ([]:List Int) A.free) (i:=i3) (a:=(ls cI (A.free.getD i3.toNat ([]:List Int)))) Tryz.underlying49 Tryz.sizeOf22 Tryz.isAgg22 rfl rfl b15 (zQs (zBS b15).2) rfl) ?_
    refine zA (zD rfl)<|zA (zD rfl)<|zF<|zH<|zC<|zA (zB rfl) ?_
    refine zA (zW Tryz.underlying22 rfl)<|zA (zB rfl)<|zF<|zQ<|zq (σ:=Int×(List Bool)) (fun (i4,d3)=>mkE [(1,(AV.ptr 0 0)),(7,(AV.ptr 1 0)),(8,(li i3)),(54,(AV.agg (cA 5 (eS cI) ([]:List Int) A.free))),(55,(li i3)),(59,(ls cI (A.free.getD i3.toNat ([]:List Int)))),(60,(li ((A.free.getD i3.toNat ([]:List Int)).length:Int))),(61,(li i4))]) (fun (i4,d3)=>[.box 51 (zO A),.box 91 (cA 256 eB false d3)]) (fun n3 (i4,d3)=>zB4 (zBJ A n2) A i3 n3 i4 d3) (0,d1) h (fun _=>rfl) (z8 [0,1] rfl rfl (by kernel_rfl)) ?_
    clear h
    rintro n3 ⟨i4,d3⟩ h
    replace h:zES (zBJ A n2) A i3 (zB4 (zBJ A n2) A i3 n3) i4 d3=some r:=h
    unfold zES at h
    refine zH<|zC<|zA (zf rfl rfl)<|zF<|zH ?_
    refine zY h rfl (fun b16 h => ?_) (fun b16 h => ?_)
    ·refine zP ?_
     refine zu (r:=r) (fun (d4:List Bool)=>mkE [(1,(AV.ptr 0 0)),(7,(AV.ptr 1 0)),(8,(li i3)),(54,(AV.agg (cA 5 (eS cI) ([]:List Int) A.free))),(55,(li i3)),(59,(ls cI (A.free.getD i3.toNat ([]:List Int)))),(60,(li ((A.free.getD i3.toNat ([]:List Int)).length:Int))),(61,(li i4))]) (fun d4=>[.box 51 (zO A),.box 91 (cA 256 eB false d4)]) (fun d4=>zH8 (zB4 (zBJ A n2) A i3 n3) i4 d4) ?_ ?_
     ·
      refine zQ<|zH<|zC<|zM h fun b18 h=>zA (zS Tryz.underlying22 Tryz.sizeOf3 (fun _=>rfl) rfl rfl b18)<|zA (zU (o:=0) Tryz.isAgg3 rfl rfl) ?_
      refine zA (zD rfl)<|zF<|zH<|zC<|zA (zB rfl)<|zA (zD rfl) ?_
      refine zF<|zQ<|zq (σ:=Int×(List Bool)) (fun (i5,d5)=>mkE [(1,(AV.ptr 0 0)),(7,(AV.ptr 1 0)),(8,(li i3)),(11,(li (at_ (A.free.getD i3.toNat ([]:List Int)) i4))),(12,(li i5)),(54,(AV.agg (cA 5 (eS cI) ([]:List Int) A.free))),(55,(li i3)),(59,(ls cI (A.free.getD i3.toNat ([]:List Int)))),(60,(li ((A.free.getD i3.toNat ([]:List Int)).length:Int))),(61,(li i4))]) (fun (i5,d5)=>[.box 51 (zO A),.box 91 (cA 256 eB false d5)]) (fun n4 (i5,d5)=>zGW (zB4 (zBJ A n2) A i3 n3) A i3 i4 n4 i5 d5) ((at_ (A.free.getD i3.toNat ([]:List Int)) i4),d3) h (fun _=>rfl) (z8 [0,1] rfl rfl (by kernel_rfl)) ?_
      clear h
      rintro n4 ⟨i5,d5⟩ h
      replace h:zEG (zB4 (zBJ A n2) A i3 n3) A i3 i4 (zGW (zB4 (zBJ A n2) A i3 n3) A i3 i4 n4) i5 d5=some r:=h
      unfold zEG at h
      refine zH<|zH<|zC<|zA (zB rfl)<|zA (zB rfl)<|zA (zB rfl) ?_
      refine zM h fun b19 h=>zM h fun b20 h=>zA (zDA (a:=1) (b:=i3) rfl rfl b19 b20)<|zM h fun b21 h=>zA (ze rfl rfl b21)<|zA (zf rfl rfl) ?_
      refine zF ?_
      refine zY h rfl (fun b22 h => ?_) (fun b22 h => ?_)
      ·refine zP<|zH<|zQ<|zH<|zH<|zC ?_
       refine zA (zB rfl)<|zM h fun b23 h=>zA (zAO (m:=256) (s:=1) (i:=i5) (k:=1) (o:=0) Tryz.underlying91 Tryz.sizeOf4 rfl rfl b23)<|zA (zO5 (k:=1) (o:=(0+i5.toNat*1)) (g:=eB) (d0:=false) (l:=d5) (N:=256) (i:=i5.toNat) (a:=(AV.lit (.bool (d5.getD i5.toNat false)))) Tryz.isAgg4 rfl rfl (congrArg (fun q=>0+q) (Nat.mul_one _)) (zBS b23).2 rfl rfl)<|zF ?_
       refine zY h rfl (fun b24 h => ?_) (fun b24 h => ?_)
       ·refine zH<|zC<|zA (zD rfl)<|zF<|zb ?_
        cases h
        exact zt (zAH rfl rfl)
       refine zP<|zC<|zA (zB rfl)<|zA (zAO (m:=256) (s:=1) (i:=i5) (k:=1) (o:=0) Tryz.underlying91 Tryz.sizeOf4 rfl rfl b23)<|zi (H':=[.box 51 (zO A),.box 91 (cA 256 eB false (zEc 256 false d5 i5.toNat true))]) (zN5 (k:=1) (o:=(0+i5.toNat*1)) (g:=eB) (d0:=false) (l:=d5) (N:=256) (i:=i5.toNat) (v:=true) (a:=(AV.lit (.bool true))) Tryz.sizeOf4 rfl rfl (congrArg (fun q=>0+q) (Nat.mul_one _)) (zBS b23).2 rfl rfl rfl)<|zF ?_
       refine zC<|zA (zB rfl)<|zM h fun b25 h=>zA (ze rfl rfl b25)<|zA (zD rfl)<|zF ?_
       exact ⟨((i5+1),(zEc 256 false d5 i5.toNat true)),z8 [0,1] rfl rfl (by kernel_rfl),h⟩
      refine zx ?_
      exact ⟨d5,z8 [0,1] rfl rfl (by kernel_rfl),h⟩
     clear h
     intro d4 h
     unfold zH8 at h
     refine zC<|zM h fun b17 h=>zA (ze rfl rfl b17)<|zA (zB rfl)<|zF ?_
     exact ⟨((i4+1),d4),z8 [0,1] rfl rfl (by kernel_rfl),h⟩
    refine zx ?_
    exact ⟨d3,z8 [0,1] rfl rfl (by kernel_rfl),h⟩
   clear h
   intro d2 h
   unfold zIO at h
   refine zC<|zM h fun b14 h=>zA (ze rfl rfl b14)<|zA (zB rfl)<|zF ?_
   exact ⟨((i3+1),d2),z8 [0,1] rfl rfl (by kernel_rfl),h⟩
  refine zx ?_
  exact ⟨(),z8 [0] rfl rfl (by kernel_rfl),h⟩
 clear h
 intro _ h
 unfold zEU at h
 refine zu (r:=r) (fun (_:Unit)=>mkE []) (fun _=>[]) (fun _=>zJ0 ) ?_ ?_
 ·
  refine zH<|zC<|zA (zB rfl)<|zF<|zQ<|zq (σ:=Int) (fun i1=>mkE [(1,(AV.ptr 0 0)),(81,(li i1))]) (fun i1=>[.box 51 (zO A)]) (fun n0 i1=>zCm A n0 i1) 0 h (fun _=>rfl) (z8 [0] rfl rfl (by kernel_rfl)) ?_
  clear h
  intro n0 i1 h
  replace h:zD7 A (zCm A n0) i1=some r:=h
  unfold zD7 at h
  refine zH<|zC<|zA (zf rfl rfl)<|zF<|zH ?_
  refine zY h rfl (fun b2 h => ?_) (fun b2 h => ?_)
  ·refine zP ?_
   refine zu (r:=r) (fun (_:Unit)=>mkE [(1,(AV.ptr 0 0)),(81,(li i1))]) (fun _=>[.box 51 (zO A)]) (fun _=>zIF (zCm A n0) i1) ?_ ?_
   ·
    refine zQ<|zH<|zC<|zA (zB rfl)<|zA (zD rfl)<|zF ?_
    refine zH<|zC<|zA (zB rfl)<|zA (zK Tryz.underlying51 rfl rfl Tryz.sizeOf49 rfl)<|zM h fun b4 h=>zA (zAO (m:=5) (s:=1) (i:=i1) (k:=0) (o:=5) Tryz.underlying49 Tryz.sizeOf22 rfl rfl b4) ?_
    refine zA (zAk (k:=0) (o:=(5+i1.toNat*1)) (cs:=(zO A)) (hd:=([li A.node]++[li A.kind]++[li A.start]++[li A.count]++[li A.min]++[])) (tl:=([])) (g:=(eS cI)) (d0:=([]:List Int)) (l:=A.free) (N:=5) (i:=i1.toNat) (a:=(ls cI (A.free.getD i1.toNat ([]:List Int)))) Tryz.isAgg22 rfl rfl rfl (congrArg (fun q=>5+q) (Nat.mul_one _)) (zBS b4).2 rfl rfl)<|zA (zW Tryz.underlying22 rfl)<|zA (zB rfl)<|zF<|zQ<|zq (σ:=Int) (fun i2=>mkE [(1,(AV.ptr 0 0)),(13,(li i1)),(81,(li i1)),(87,(ls cI (A.free.getD i1.toNat ([]:List Int)))),(88,(li ((A.free.getD i1.toNat ([]:List Int)).length:Int))),(89,(li i2))]) (fun i2=>[.box 51 (zO A)]) (fun n1 i2=>zGZ (zCm A n0) A i1 n1 i2) 0 h (fun _=>rfl) (z8 [0] rfl rfl (by kernel_rfl)) ?_
    clear h
    intro n1 i2 h
    replace h:zET (zCm A n0) A i1 (zGZ (zCm A n0) A i1 n1) i2=some r:=h
    unfold zET at h
    refine zH<|zC<|zA (zf rfl rfl)<|zF<|zH ?_
    refine zY h rfl (fun b5 h => ?_) (fun b5 h => ?_)
    ·refine zP<|zH<|zQ<|zH<|zC<|zM h fun b6 h => ?_
     refine zA (zS Tryz.underlying22 Tryz.sizeOf3 (fun _=>rfl) rfl rfl b6)<|zA (zU (o:=0) Tryz.isAgg3 rfl rfl)<|zA (zD rfl)<|zF<|zH<|zC ?_
     refine zA (zB rfl)<|zA (zB rfl)<|zM h fun b7 h=>zM h fun b8 h=>zA (zDA (a:=1) (b:=i1) rfl rfl b7 b8)<|zA (zQ9 (k := .i64) (a:=at_ (A.free.getD i1.toNat ([]:List Int)) i2) (b:=(1:Int)*2 ^ i1.toNat) rfl rfl) ?_
     refine zA (zD rfl)<|zF<|zH<|zC<|zA (zB rfl)<|zA (zK Tryz.underlying51 rfl rfl Tryz.sizeOf49 rfl) ?_
     refine zM h fun b9 h=>zA (zAO (m:=5) (s:=1) (i:=i1) (k:=0) (o:=5) Tryz.underlying49 Tryz.sizeOf22 rfl rfl b9)<|zA (zAk (k:=0) (o:=(5+i1.toNat*1)) (cs:=(zO A)) (hd:=([li A.node]++[li A.kind]++[li A.start]++[li A.count]++[li A.min]++[])) (tl:=([])) (g:=(eS cI)) (d0:=([]:List Int)) (l:=A.free) (N:=5) (i:=i1.toNat) (a:=(ls cI (A.free.getD i1.toNat ([]:List Int)))) Tryz.isAgg22 rfl rfl rfl (congrArg (fun q=>5+q) (Nat.mul_one _)) (zBS b9).2 rfl rfl)<|zA (zB rfl)<|zR h fun x2 w2 h=>zh Tryz.func87 rfl (by kernel_rfl) (.fn 87) rfl rfl (zBB w2) rfl ?_
     refine zA (zB rfl)<|zA (zd rfl rfl)<|zA (zd rfl rfl)<|zA (zD rfl)<|zA (zD rfl)<|zF ?_
     refine zH<|zC<|zA (zB rfl)<|zA (zB rfl)<|zm rfl rfl (fun c1=>zp.step (zT (k:=0) (o:=0) (m:=10) Tryz.isAgg51 Tryz.sizeOf51 rfl rfl rfl rfl rfl))<|zm rfl rfl (fun c2=>zp.step (zB rfl)) ?_
     refine zm rfl rfl (fun c3=>zp.step (zB rfl))<|zm rfl rfl (fun c4=>zp.step (zPE (a:=at_ (A.free.getD i1.toNat ([]:List Int)) i2) (b:=zKO .xor .i64 (at_ (A.free.getD i1.toNat ([]:List Int)) i2) ((1:Int)*2 ^ i1.toNat)) (z6 rfl c4) (z6 rfl c4)))<|zm rfl rfl (fun c5=>zp.step (zB rfl))<|zM h fun b10 h=>zm rfl rfl (fun c6=>zp.step (ze (z6 rfl c6) rfl (zHT b10 c6)))<|zR h fun x3 w3 h => ?_
     refine zCu (g:=107) (s:=x2.2) (r':=(AV.lit (.bool x3))) rfl rfl (fun c7=>⟨86,_,_,[],[(AV.agg (zO A)),(li (min (at_ (A.free.getD i1.toNat ([]:List Int)) i2) (zKO .xor .i64 (at_ (A.free.getD i1.toNat ([]:List Int)) i2) ((1:Int)*2 ^ i1.toNat)))),(li (i1+1))],[(AV.agg ([li A.node,li A.kind,li A.start,li A.count,li A.min]++([AV.any,AV.any,AV.any,AV.any,AV.any]++[]))),(li (min (at_ (A.free.getD i1.toNat ([]:List Int)) i2) (zKO .xor .i64 (at_ (A.free.getD i1.toNat ([]:List Int)) i2) ((1:Int)*2 ^ i1.toNat)))),(li (i1+1))],(AV.lit (.bool x3)),[],Tryz.func86,rfl,by kernel_rfl,.fn 86,(zAN (z6 rfl c7) (zAN (z6 rfl c7) (zAN (z6 rfl c7) rfl))),⟨zMH (hd:=([li A.node]++[li A.kind]++[li A.start]++[li A.count]++[li A.min])) (tl:=((cA 5 (eS cI) ([]:List Int) A.free))) rfl,zAx.nr rfl,zAx.nr rfl,trivial⟩,zFx (zG3 c7 w3),.inl rfl,rfl⟩)<|zA (zy (j := .lit undef) rfl rfl)<|zF ?_
     refine zY h rfl (fun b11 h => ?_) (fun b11 h => ?_)
     ·refine zH<|zC<|zA (zD rfl)<|zF<|zb ?_
      cases h
      exact zt (zAH rfl rfl)
     refine zP<|zC<|zM h fun b12 h=>zA (ze rfl rfl b12)<|zA (zB rfl)<|zF ?_
     exact ⟨(i2+1),z8 [0] rfl rfl (by kernel_rfl),h⟩
    refine zx ?_
    exact ⟨(),z8 [0] rfl rfl (by kernel_rfl),h⟩
   clear h
   intro _ h
   unfold zIF at h
   refine zC<|zM h fun b3 h=>zA (ze rfl rfl b3)<|zA (zB rfl)<|zF ?_
   exact ⟨(i1+1),z8 [0] rfl rfl (by kernel_rfl),h⟩
  refine zx ?_
  exact ⟨(),z8 [] rfl rfl (by kernel_rfl),h⟩
 clear h
 intro _ h
 unfold zJ0 at h
 refine zH<|zC<|zA (zD rfl)<|zF<|zb ?_
 cases h
 exact zt (zAH rfl rfl)
theorem zHv {uC:Int} {r:Bool} (h:zD6 uC=some r):PFn Tryz.prog 88 [li uC] (AV.lit (.bool r)):=by
 refine zo Tryz.func88 rfl Tryz.ntmps88 Tryz.results88 rfl ?_
 unfold zD6 at h
 refine zH<|zC<|zA (zD rfl)<|zF<|zH<|zC ?_
 refine zA (zB rfl)<|zA (zAv rfl rfl)<|zA (zB rfl)<|zm rfl rfl (fun c1=>zp.step (zB rfl))<|zm rfl rfl (fun c2=>zp.step (zf (z6 rfl c2) rfl))<|zA (zy (j := .lit undef) rfl rfl) ?_
 refine zA (zD rfl)<|zF<|zb ?_
 cases h
 exact zt (zAH rfl rfl)
theorem zIr {J:zL} {r:List (Int×Bool)} (h:zDr J=some r):PFn Tryz.prog 89 [(AV.agg (zG J))] (AV.omap (mI Value.bool r)):=by
 refine zo Tryz.func89 rfl Tryz.ntmps89 Tryz.results89 rfl ?_
 unfold zDr at h
 refine zH<|zC<|za (H':=[.box 55 (zG J)]) (zv (t:=55) rfl)<|zA (zD rfl)<|zF<|zH ?_
 refine zC<|za (H':=[.box 55 (zG J),.map (mI Value.bool ([]:List (Int×Bool)))]) (zLy)<|zA (zD rfl)<|zF ?_
 refine zu (r:=r) (fun (l1:List (Int×Bool))=>mkE [(3,(AV.hd 0))]) (fun l1=>[.map (mI Value.bool l1)]) (fun l1=>zIp l1) ?_ ?_
 ·
  refine zH<|zC<|zA (zK Tryz.underlying55 rfl rfl Tryz.sizeOf53 rfl)<|zA (zN Tryz.isAgg53 rfl rfl rfl rfl)<|zA (zW Tryz.underlying53 rfl)<|zA (zB rfl) ?_
  refine zF<|zQ<|zq (σ:=Int×(List (Int×Bool))) (fun (i1,l2)=>mkE [(3,(AV.hd 0)),(10,(ls (cS cI) J.lists)),(11,(li (J.lists.length:Int))),(12,(li i1))]) (fun (i1,l2)=>[.map (mI Value.bool l2)]) (fun n0 (i1,l2)=>zBp J n0 i1 l2) (0,([]:List (Int×Bool))) h (fun _=>rfl) (z8 [1] rfl rfl (by kernel_rfl)) ?_
  clear h
  rintro n0 ⟨i1,l2⟩ h
  replace h:zC5 J (zBp J n0) i1 l2=some r:=h
  unfold zC5 at h
  refine zH<|zC<|zA (zf rfl rfl)<|zF<|zH ?_
  refine zY h rfl (fun b1 h => ?_) (fun b1 h => ?_)
  ·refine zP ?_
   refine zu (r:=r) (fun (l3:List (Int×Bool))=>mkE [(3,(AV.hd 0)),(10,(ls (cS cI) J.lists)),(11,(li (J.lists.length:Int))),(12,(li i1))]) (fun l3=>[.map (mI Value.bool l3)]) (fun l3=>zGs (zBp J n0) i1 l3) ?_ ?_
   ·
    refine zQ<|zH<|zC<|zM h fun b3 h=>zA (zS Tryz.underlying53 Tryz.sizeOf22 (fun _=>rfl) rfl rfl b3)<|zA (zU (o:=0) Tryz.isAgg22 rfl rfl) ?_
    refine zA (zD rfl)<|zF<|zH<|zC<|zA (zB rfl)<|zA (zW Tryz.underlying22 rfl) ?_
    refine zA (zB rfl)<|zF<|zQ<|zq (σ:=Int×(List (Int×Bool))) (fun (i2,l4)=>mkE [(3,(AV.hd 0)),(10,(ls (cS cI) J.lists)),(11,(li (J.lists.length:Int))),(12,(li i1)),(16,(ls cI (at_ J.lists i1))),(17,(li ((at_ J.lists i1).length:Int))),(18,(li i2))]) (fun (i2,l4)=>[.map (mI Value.bool l4)]) (fun n1 (i2,l4)=>zFI (zBp J n0) J i1 n1 i2 l4) (0,l2) h (fun _=>rfl) (z8 [0] rfl rfl (by kernel_rfl)) ?_
    clear h
    rintro n1 ⟨i2,l4⟩ h
    replace h:zC0 (zBp J n0) J i1 (zFI (zBp J n0) J i1 n1) i2 l4=some r:=h
    unfold zC0 at h
    refine zH<|zC<|zA (zf rfl rfl)<|zF<|zH ?_
    refine zY h rfl (fun b4 h => ?_) (fun b4 h => ?_)
    ·refine zP<|zH<|zQ<|zH<|zC<|zM h fun b5 h => ?_
     refine zA (zS Tryz.underlying22 Tryz.sizeOf3 (fun _=>rfl) rfl rfl b5)<|zA (zU (o:=0) Tryz.isAgg3 rfl rfl)<|zA (zD rfl)<|zF<|zC<|zA (zB rfl) ?_
     refine zA (zB rfl)<|zi (H':=[.map (mI Value.bool (zKn l4 (at_ (at_ J.lists i1) i2) true))]) (zNU (k:=0) (g:=Value.bool) (q:=at_ (at_ J.lists i1) i2) (l:=l4) (v:=true) Tryz.underlying58 Tryz.underlying3 rfl rfl rfl rfl)<|zF<|zC<|zM h fun b6 h=>zA (ze rfl rfl b6) ?_
     refine zA (zB rfl)<|zF ?_
     exact ⟨((i2+1),(zKn l4 (at_ (at_ J.lists i1) i2) true)),z8 [0] rfl rfl (by kernel_rfl),h⟩
    refine zx ?_
    exact ⟨l4,z8 [0] rfl rfl (by kernel_rfl),h⟩
   clear h
   intro l3 h
   unfold zGs at h
   refine zC<|zM h fun b2 h=>zA (ze rfl rfl b2)<|zA (zB rfl)<|zF ?_
   exact ⟨((i1+1),l3),z8 [0] rfl rfl (by kernel_rfl),h⟩
  refine zx ?_
  exact ⟨l2,z8 [0] rfl rfl (by kernel_rfl),h⟩
 clear h
 intro l1 h
 unfold zIp at h
 refine zH<|zC<|zA (zB rfl)<|zA (zD rfl)<|zF<|zb ?_
 cases h
 exact zt (zYa rfl rfl)
theorem zKx {J:zL} {W:Int} {r:Int} (h:zG6 J W=some r):PFn Tryz.prog 43 [(AV.agg (zG J)),li W] (li r):=by
 refine zo Tryz.func43 rfl Tryz.ntmps43 Tryz.results43 rfl ?_
 unfold zG6 at h
 refine zH<|zC<|za (H':=[.box 55 (zG J)]) (zv (t:=55) rfl)<|zA (zD rfl)<|zF<|zH ?_
 refine zH<|zC<|zA (zB rfl)<|zA (zf rfl rfl)<|zA (zB rfl)<|zX rfl rfl (fun c1=>zp.step (zB rfl)) ?_
 refine zX rfl rfl (fun c2=>zp.step (zAc (z6 rfl c2) rfl))<|zA (zg rfl rfl)<|zF ?_
 refine zY h rfl (fun b1 h => ?_) (fun b1 h => ?_)
 ·refine zH<|zC<|zA (zD rfl)<|zF<|zb ?_
  cases h
  exact zt (zAH rfl rfl)
 refine zP<|zH<|zH<|zC<|zA (zK Tryz.underlying55 rfl rfl Tryz.sizeOf53 rfl)<|zA (zN Tryz.isAgg53 rfl rfl rfl rfl) ?_
 refine zA (zW Tryz.underlying53 rfl)<|zA (zB rfl)<|zA (zz rfl rfl)<|zF ?_
 refine zY h rfl (fun b2 h => ?_) (fun b2 h => ?_)
 ·refine zH<|zC<|zA (zD rfl)<|zF<|zb ?_
  cases h
  exact zt (zAH rfl rfl)
 refine zP<|zH<|zC<|zA (zD rfl)<|zF ?_
 refine zu (r:=r) (fun (i1:Int)=>mkE [(2,(AV.ptr 0 0)),(5,(li i1))]) (fun i1=>[.box 55 (zG J)]) (fun i1=>zF8 J i1) ?_ ?_
 ·
  refine zH<|zC<|zA (zK Tryz.underlying55 rfl rfl Tryz.sizeOf53 rfl)<|zA (zN Tryz.isAgg53 rfl rfl rfl rfl)<|zA (zW Tryz.underlying53 rfl)<|zA (zB rfl) ?_
  refine zF<|zQ<|zq (σ:=Int×Int) (fun (i2,i3)=>mkE [(2,(AV.ptr 0 0)),(5,(li i2)),(22,(ls (cS cI) J.lists)),(23,(li (J.lists.length:Int))),(24,(li i3))]) (fun (i2,i3)=>[.box 55 (zG J)]) (fun n0 (i2,i3)=>zBn J n0 i2 i3) (0,0) h (fun _=>rfl) (z8 [0] rfl rfl (by kernel_rfl)) ?_
  clear h
  rintro n0 ⟨i2,i3⟩ h
  replace h:zDP J (zBn J n0) i2 i3=some r:=h
  unfold zDP at h
  refine zH<|zC<|zA (zf rfl rfl)<|zF<|zH ?_
  refine zY h rfl (fun b4 h => ?_) (fun b4 h => ?_)
  ·refine zP ?_
   refine zu (r:=r) (fun (_:Unit)=>mkE [(2,(AV.ptr 0 0)),(5,(li (i2+((at_ J.lists i3).length:Int)))),(22,(ls (cS cI) J.lists)),(23,(li (J.lists.length:Int))),(24,(li i3))]) (fun _=>[.box 55 (zG J)]) (fun _=>zHG (zBn J n0) J i2 i3) ?_ ?_
   ·
    refine zQ<|zH<|zC<|zM h fun b6 h=>zA (zS Tryz.underlying53 Tryz.sizeOf22 (fun _=>rfl) rfl rfl b6)<|zA (zU (o:=0) Tryz.isAgg22 rfl rfl) ?_
    refine zA (zD rfl)<|zF ?_
    refine zu (r:=r) (fun (_:Unit)=>mkE [(2,(AV.ptr 0 0)),(5,(li i2)),(7,(ls cI (at_ J.lists i3))),(22,(ls (cS cI) J.lists)),(23,(li (J.lists.length:Int))),(24,(li i3))]) (fun _=>[.box 55 (zG J)]) (fun _=>zHc (zBn J n0) J i2 i3) ?_ ?_
    ·
     refine zH<|zC<|zA (zB rfl)<|zA (zW Tryz.underlying22 rfl)<|zA (zB rfl)<|zF ?_
     refine zQ<|zq (σ:=Int) (fun i4=>mkE [(2,(AV.ptr 0 0)),(5,(li i2)),(7,(ls cI (at_ J.lists i3))),(22,(ls (cS cI) J.lists)),(23,(li (J.lists.length:Int))),(24,(li i3)),(28,(ls cI (at_ J.lists i3))),(29,(li ((at_ J.lists i3).length:Int))),(30,(li i4))]) (fun i4=>[.box 55 (zG J)]) (fun n1 i4=>zGH (zBn J n0) J i2 i3 n1 i4) 0 h (fun _=>rfl) (z8 [0] rfl rfl (by kernel_rfl)) ?_
     clear h
     intro n1 i4 h
     replace h:zDN (zBn J n0) J i2 i3 (zGH (zBn J n0) J i2 i3 n1) i4=some r:=h
     unfold zDN at h
     refine zH<|zC<|zA (zf rfl rfl)<|zF<|zH ?_
     refine zY h rfl (fun b8 h => ?_) (fun b8 h => ?_)
     ·refine zP<|zH<|zQ<|zH<|zC<|zM h fun b9 h => ?_
      refine zA (zS Tryz.underlying22 Tryz.sizeOf3 (fun _=>rfl) rfl rfl b9)<|zA (zU (o:=0) Tryz.isAgg3 rfl rfl)<|zA (zD rfl)<|zF<|zH<|zC ?_
      refine zA (zB rfl)<|zR h fun x2 w2 h=>zh Tryz.func88 rfl (by kernel_rfl) (.fn 88) rfl rfl (zHv w2) rfl<|zA (zBD (t:=x2) rfl)<|zF ?_
      refine zY h rfl (fun b10 h => ?_) (fun b10 h => ?_)
      ·refine zH<|zC<|zA (zD rfl)<|zF<|zb ?_
       cases h
       exact zt (zAH rfl rfl)
      refine zP<|zC<|zM h fun b11 h=>zA (ze rfl rfl b11)<|zA (zB rfl)<|zF ?_
      exact ⟨(i4+1),z8 [0] rfl rfl (by kernel_rfl),h⟩
     refine zx ?_
     exact ⟨(),z8 [0] rfl rfl (by kernel_rfl),h⟩
    clear h
    intro _ h
    unfold zHc at h
    refine zC<|zA (zB rfl)<|zA (zB rfl)<|zA (zW Tryz.underlying22 rfl)<|zM h fun b7 h=>zA (ze rfl rfl b7) ?_
    refine zA (zD rfl)<|zF ?_
    exact ⟨(),z8 [0] rfl rfl (by kernel_rfl),h⟩
   clear h
   intro _ h
   unfold zHG at h
   refine zC<|zM h fun b5 h=>zA (ze rfl rfl b5)<|zA (zB rfl)<|zF ?_
   exact ⟨((i2+((at_ J.lists i3).length:Int)),(i3+1)),z8 [0] rfl rfl (by kernel_rfl),h⟩
  refine zx ?_
  exact ⟨i2,z8 [0] rfl rfl (by kernel_rfl),h⟩
 clear h
 intro i1 h
 unfold zF8 at h
 refine zH<|zH<|zC<|zA (zT (k:=0) (o:=0) (m:=1) Tryz.isAgg55 Tryz.sizeOf55 rfl rfl rfl rfl rfl)<|zR h fun x1 w1 h=>zNp (es:=mI Value.bool x1) (la:=[(AV.agg (zG J))]) (la':=[(AV.agg (zG J))]) (S:=[]) Tryz.func89 rfl (by kernel_rfl) (.fn 89) rfl ⟨zAx.nr rfl,trivial⟩ (zIr w1) ?_
 refine zA (zSV (k:=1) (g:=Value.bool) (l:=x1) Tryz.underlying58 rfl rfl)<|zA (zB rfl)<|zA (zz rfl rfl)<|zF ?_
 refine zY h rfl (fun b3 h => ?_) (fun b3 h => ?_)
 ·refine zH<|zC<|zA (zD rfl)<|zF<|zb ?_
  cases h
  exact zt (zAH rfl rfl)
 refine zP<|zH<|zC<|zA (zD rfl)<|zF<|zb ?_
 cases h
 exact zt (zAH rfl rfl)
theorem zLu {C:zj} {uI:Int} {r:Bool} (h:zC4 C uI=some r):PFn Tryz.prog 91 [(AV.agg (zO C)),(AV.rp [li uI] 0)] (AV.lit (.bool r)):=by
 refine zo Tryz.func91 rfl Tryz.ntmps91 Tryz.results91 rfl ?_
 unfold zC4 at h
 refine zH<|zC<|za (H':=[.box 51 (zO C)]) (zv (t:=51) rfl)<|zA (zD rfl)<|zF<|zH ?_
 refine zC<|zA (zU (o:=0) Tryz.isAgg3 rfl rfl)<|zA (zK Tryz.underlying51 rfl rfl Tryz.sizeOf3 rfl)<|zA (zN Tryz.isAgg3 rfl rfl rfl rfl)<|zA (zAv rfl rfl)<|zA (zB rfl) ?_
 refine zm rfl rfl (fun c1=>zp.step (zU (o:=0) Tryz.isAgg3 rfl rfl))<|zm rfl rfl (fun c2=>zp.step (zK Tryz.underlying51 rfl rfl Tryz.sizeOf3 rfl))<|zm rfl rfl (fun c3=>zp.step (zN Tryz.isAgg3 (z6 rfl c3) rfl rfl rfl))<|zm rfl rfl (fun c4=>zp.step (zK Tryz.underlying51 rfl rfl Tryz.sizeOf3 rfl))<|zm rfl rfl (fun c5=>zp.step (zN Tryz.isAgg3 (z6 rfl c5) rfl rfl rfl))<|zM h fun b1 h => ?_
 refine zm rfl rfl (fun c6=>zp.step (ze (z6 rfl c6) (z6 rfl c6) (zHT b1 c6)))<|zm rfl rfl (fun c7=>zp.step (zf (z6 rfl c7) (z6 rfl c7)))<|zA (zy (j := .lit undef) rfl rfl)<|zA (zD rfl)<|zF<|zb ?_
 cases h
 exact zt (zAH rfl rfl)
theorem zGI {Y : List zj} {uC : zj → Option Bool} {g_a_f : FuncId} {cf_a_f : Func} {code_a_f : Code} {caps_a_f : List AV} (hcf_a_f : Tryz.prog.funcs[g_a_f]? = some cf_a_f) (hcb_a_f : cf_a_f.body = some code_a_f) (hcn_a_f : (cf_a_f.name == "runtime.NumGoroutine") = false) (hnr_a_f : caps_a_f.all nr = true) (hg_a_f : ∀ {x0 : zj} {y : Bool}, uC x0 = some y → PFn Tryz.prog g_a_f ((AV.agg (zO x0)) :: caps_a_f) (AV.lit (.bool y))) {r : Int} (h : zBH Y uC = some r) : PFn Tryz.prog 90 [(ls zO Y), (AV.clo g_a_f caps_a_f)] (li r) := by
 refine zo Tryz.func90 rfl Tryz.ntmps90 Tryz.results90 rfl ?_
 unfold zBH at h
 refine zH<|zC<|zA (zD rfl)<|zF ?_
 refine zu (r:=r) (fun (_:Unit)=>mkE []) (fun _=>[]) (fun _=>zBY ) ?_ ?_
 ·
  refine zH<|zC<|zA (zB rfl)<|zA (zW Tryz.underlying23 rfl)<|zA (zB rfl)<|zF ?_
  refine zQ<|zq (σ:=Int) (fun i1=>mkE [(0,(ls zO Y)),(1,(AV.clo g_a_f caps_a_f)),(7,(li (Y.length:Int))),(8,(li i1))]) (fun i1=>[]) (fun n0 i1=>zAg Y uC n0 i1) 0 h (fun _=>rfl) (zBz (n:=19) (m:=0) [] (l:=[(0,(ls zO Y)),(1,(AV.clo g_a_f caps_a_f)),(7,(li (Y.length:Int))),(8,(li 0))]) ⟨⟨Sub.refl _,by kernel_rfl⟩,⟨zFW hnr_a_f,zFX hnr_a_f⟩,⟨Sub.refl _,by kernel_rfl⟩,⟨Sub.refl _,by kernel_rfl⟩,trivial⟩ rfl rfl trivial) ?_
  clear h
  intro n0 i1 h
  replace h:zAI Y uC (zAg Y uC n0) i1=some r:=h
  unfold zAI at h
  refine zH<|zC<|zA (zf rfl rfl)<|zF<|zH ?_
  refine zY h rfl (fun b1 h => ?_) (fun b1 h => ?_)
  ·refine zP<|zH<|zQ<|zH<|zC<|zA (zB rfl) ?_
   refine zA (zD rfl)<|zF<|zH<|zC<|zA (zB rfl)<|zA (zB rfl) ?_
   refine zA (zB rfl)<|zM h fun b2 h=>zA (zS Tryz.underlying23 Tryz.sizeOf51 (fun _=>rfl) rfl rfl b2)<|zA (zAh (row:=(zO (at_ Y i1))) (o:=0) (m:=10) (la:=(zO (at_ Y i1))) Tryz.isAgg51 Tryz.sizeOf51 rfl rfl rfl)<|zR h fun x1 w1 h=>zA7 (S:=[]) hcf_a_f hcb_a_f hcn_a_f (.clo (caps:=caps_a_f) rfl) rfl (zD9.c (zAx.nr rfl) (zD9.nrs hnr_a_f)) (hg_a_f w1) (.inl rfl) rfl ?_
   refine zF ?_
   refine zY h rfl (fun b3 h => ?_) (fun b3 h => ?_)
   ·refine zH<|zC<|zA (zB rfl)<|zA (zD rfl)<|zF<|zb ?_
    cases h
    exact zt (zAH rfl rfl)
   refine zP<|zC<|zM h fun b4 h=>zA (ze rfl rfl b4)<|zA (zB rfl)<|zF ?_
   exact ⟨(i1+1),zBz (n:=19) (m:=0) [] (l:=[(0,(ls zO Y)),(1,(AV.clo g_a_f caps_a_f)),(7,(li (Y.length:Int))),(8,(li (i1+1)))]) ⟨⟨Sub.refl _,by kernel_rfl⟩,⟨zFW hnr_a_f,zFX hnr_a_f⟩,⟨Sub.refl _,by kernel_rfl⟩,⟨Sub.refl _,by kernel_rfl⟩,trivial⟩ rfl rfl trivial,h⟩
  refine zx ?_
  exact ⟨(),z8 [] rfl rfl (by kernel_rfl),h⟩
 clear h
 intro _ h
 unfold zBY at h
 refine zH<|zC<|zA (zD rfl)<|zF<|zb ?_
 cases h
 exact zt (zAH rfl rfl)
theorem zGL {B:zJ} {U:Int} {r:Int} (h:zDE B U=some r):PFn Tryz.prog 44 [(AV.agg (zI B)),li U] (li r):=by
 refine zo Tryz.func44 rfl Tryz.ntmps44 Tryz.results44 rfl ?_
 unfold zDE at h
 refine zH<|zC<|za (H':=[.box 26 (zI B)]) (zv (t:=26) rfl)<|za (H':=[.box 26 (zI B),.box 3 [li U]]) (zKL (t:=3) (a:=(li U)) rfl rfl)<|zA (zD rfl)<|zF ?_
 refine zH<|zC<|zA (zK Tryz.underlying26 rfl rfl Tryz.sizeOf23 rfl)<|zA (zN Tryz.isAgg23 rfl rfl rfl rfl)<|zA (zL3 (la:=[AV.ptr 1 0]) rfl)<|zR h fun x1 w1 h => ?_
 refine zA7 (r':=(li x1)) (la:=[ls zO B.zones,(AV.clo 91 [AV.ptr 1 0])]) (la':=[ls zO B.zones,(AV.clo 91 [(AV.rp [li U] 0)])]) (r:=(li x1)) (S:=[1]) Tryz.func90 rfl (by kernel_rfl) (.fn 90) rfl ⟨zAx.nr rfl,zAx.clo (⟨zAx.ptr (cs:=[li U]) rfl rfl rfl,trivial⟩),trivial⟩ (zGI Tryz.func91 rfl (by kernel_rfl) rfl (fun hy=>zLu  hy) w1) (.inr trivial) rfl<|zA (zD rfl)<|zF<|zb ?_
 cases h
 exact zt (zAH rfl rfl)
theorem zLa {C:zj} {U:Int} {r:Int×Int} (h:zHw C U=some r):PFn Tryz.prog 92 [(AV.agg (zO C)),li U] (AV.tup [li r.1,li r.2]):=by
 refine zo Tryz.func92 rfl Tryz.ntmps92 Tryz.results92 rfl ?_
 unfold zHw at h
 refine zH<|zC<|za (H':=[.box 51 (zO C)]) (zv (t:=51) rfl)<|zA (zD rfl)<|zA (zD rfl)<|zF ?_
 refine zu (r:=r) (fun (_:Unit)=>mkE []) (fun _=>[]) (fun _=>zJz ) ?_ ?_
 ·
  refine zH<|zC<|zA (zB rfl)<|zF<|zQ<|zq (σ:=Int) (fun i1=>mkE [(1,(li U)),(2,(AV.ptr 0 0)),(10,(li i1))]) (fun i1=>[.box 51 (zO C)]) (fun n0 i1=>zEI C U n0 i1) 0 h (fun _=>rfl) (z8 [0] rfl rfl (by kernel_rfl)) ?_
  clear h
  intro n0 i1 h
  replace h:zDx C U (zEI C U n0) i1=some r:=h
  unfold zDx at h
  refine zH<|zC<|zA (zf rfl rfl)<|zF<|zH ?_
  refine zY h rfl (fun b1 h => ?_) (fun b1 h => ?_)
  ·refine zP<|zH<|zQ<|zH<|zC<|zA (zB rfl) ?_
   refine zA (zD rfl)<|zF<|zH<|zC<|zA (zB rfl)<|zA (zB rfl) ?_
   refine zM h fun b2 h=>zM h fun b3 h=>zA (zDA (a:=1) (b:=i1) rfl rfl b2 b3)<|zM h fun b4 h=>zA (zBU rfl rfl b4)<|zA (zQo (k := .i64) (a:=U) (b:=((1:Int)*2 ^ i1.toNat) - 1) rfl rfl) ?_
   refine zA (zD rfl)<|zF<|zH<|zC<|zA (zB rfl)<|zA (zK Tryz.underlying51 rfl rfl Tryz.sizeOf49 rfl) ?_
   refine zM h fun b5 h=>zA (zAO (m:=5) (s:=1) (i:=i1) (k:=0) (o:=5) Tryz.underlying49 Tryz.sizeOf22 rfl rfl b5)<|zA (zAk (k:=0) (o:=(5+i1.toNat*1)) (cs:=(zO C)) (hd:=([li C.node]++[li C.kind]++[li C.start]++[li C.count]++[li C.min]++[])) (tl:=([])) (g:=(eS cI)) (d0:=([]:List Int)) (l:=C.free) (N:=5) (i:=i1.toNat) (a:=(ls cI (C.free.getD i1.toNat ([]:List Int)))) Tryz.isAgg22 rfl rfl rfl (congrArg (fun q=>5+q) (Nat.mul_one _)) (zBS b5).2 rfl rfl)<|zA (zB rfl)<|zR h fun x1 w1 h=>zh Tryz.func87 rfl (by kernel_rfl) (.fn 87) rfl rfl (zBB w1) rfl ?_
   refine zA (zB rfl)<|zA (zd rfl rfl)<|zA (zd rfl rfl)<|zA (zD rfl)<|zA (zD rfl)<|zF ?_
   refine zH<|zC<|zA (zB rfl)<|zF ?_
   refine zY h rfl (fun b6 h => ?_) (fun b6 h => ?_)
   ·refine zH<|zC<|zA (zB rfl)<|zA (zB rfl)<|zA (zD rfl)<|zA (zD rfl) ?_
    refine zF<|zb ?_
    cases h
    exact zBx (zAH rfl rfl) (zAH rfl rfl) rfl
   refine zP<|zC<|zM h fun b7 h=>zA (ze rfl rfl b7)<|zA (zB rfl)<|zF ?_
   exact ⟨(i1+1),z8 [0] rfl rfl (by kernel_rfl),h⟩
  refine zx ?_
  exact ⟨(),z8 [] rfl rfl (by kernel_rfl),h⟩
 clear h
 intro _ h
 unfold zJz at h
 refine zH<|zC<|zA (zD rfl)<|zA (zD rfl)<|zF<|zb ?_
 cases h
 exact zBx (zAH rfl rfl) (zAH rfl rfl) rfl
theorem zKs {C:zj} {U:Int} {r:Bool} (h:zG8 C U=some r):PFn Tryz.prog 45 [(AV.agg (zO C)),li U] (AV.lit (.bool r)):=by
 refine zo Tryz.func45 rfl Tryz.ntmps45 Tryz.results45 rfl ?_
 unfold zG8 at h
 refine zH<|zC<|za (H':=[.box 51 (zO C)]) (zv (t:=51) rfl)<|zA (zD rfl)<|zF<|zH ?_
 refine zH<|zC<|zA (zT (k:=0) (o:=0) (m:=10) Tryz.isAgg51 Tryz.sizeOf51 rfl rfl rfl rfl rfl)<|zR h fun x1 w1 h=>zh Tryz.func42 rfl (by kernel_rfl) (.fn 42) rfl rfl (zFO w1) rfl<|zA (zz rfl rfl) ?_
 refine zA (zB rfl)<|zX rfl rfl (fun c1=>zp.step (zT (k:=0) (o:=0) (m:=10) Tryz.isAgg51 Tryz.sizeOf51 rfl rfl rfl rfl rfl))<|zX rfl rfl (fun c2=>zp.step (zB rfl))<|zR h fun x2 w2 h=>zCt (g:=10) (s := !decide (x1=0)) (r':=(AV.lit (.bool x2))) rfl rfl (fun c3=>⟨86,_,_,[],[(AV.agg (zO C)),li U,li 0],[(AV.agg ([li C.node,li C.kind,li C.start,li C.count,li C.min]++([AV.any,AV.any,AV.any,AV.any,AV.any]++[]))),li U,li 0],(AV.lit (.bool x2)),[],Tryz.func86,rfl,by kernel_rfl,.fn 86,(zAN (z6 rfl c3) (zAN (z6 rfl c3) (zAN rfl rfl))),⟨zMH (hd:=([li C.node]++[li C.kind]++[li C.start]++[li C.count]++[li C.min])) (tl:=((cA 5 (eS cI) ([]:List Int) C.free))) rfl,zAx.nr rfl,zAx.nr rfl,trivial⟩,zFx (zG3 c3 w2),.inl rfl,rfl⟩)<|zX rfl rfl (fun c4=>zp.step (zBD (t:=x2) (z6 rfl c4))) ?_
 refine zA (zg rfl rfl)<|zF ?_
 refine zY h rfl (fun b1 h => ?_) (fun b1 h => ?_)
 ·refine zH<|zC<|zA (zD rfl)<|zF<|zb ?_
  cases h
  exact zt (zAH rfl rfl)
 refine zP<|zH<|zC<|zA (zT (k:=0) (o:=0) (m:=10) Tryz.isAgg51 Tryz.sizeOf51 rfl rfl rfl rfl rfl)<|zA (zB rfl)<|zR h fun x3 w3 h => ?_
 refine zh Tryz.func92 rfl (by kernel_rfl) (.fn 92) rfl rfl (zLa w3) rfl<|zA (zB rfl)<|zA (zd rfl rfl)<|zA (zd rfl rfl)<|zA (zD rfl)<|zA (zD rfl) ?_
 refine zF<|zH<|zC<|zA (zB rfl)<|zA (zAv rfl rfl)<|zA (zD rfl) ?_
 refine zF<|zb ?_
 cases h
 exact zt (zAH rfl rfl)
theorem zBE {A:zJ} {r:Int} (h:zAy A=some r):PFn Tryz.prog 13 [(AV.agg (zI A))] (li r):=by
 refine zo Tryz.func13 rfl Tryz.ntmps13 Tryz.results13 rfl ?_
 unfold zAy at h
 refine zH<|zC<|za (H':=[.box 26 (zI A)]) (zv (t:=26) rfl)<|zA (zD rfl)<|zF<|zH ?_
 refine zH<|zC<|zA (zT (k:=0) (o:=0) (m:=5) Tryz.isAgg26 Tryz.sizeOf26 rfl rfl rfl rfl rfl)<|zR h fun x1 w1 h=>zh Tryz.func41 rfl (by kernel_rfl) (.fn 41) rfl rfl (zI4 w1) rfl<|zA (zBD (t:=x1) rfl) ?_
 refine zF ?_
 refine zY h rfl (fun b1 h => ?_) (fun b1 h => ?_)
 ·refine zH<|zC<|zA (zD rfl)<|zF<|zb ?_
  cases h
  exact zt (zAH rfl rfl)
 refine zP<|zH<|zC<|zA (zD rfl)<|zF ?_
 refine zu (r:=r) (fun (_:Unit)=>mkE [(1,(AV.ptr 0 0))]) (fun _=>[.box 26 (zI A)]) (fun _=>zDo A) ?_ ?_
 ·
  refine zH<|zC<|zA (zK Tryz.underlying26 rfl rfl Tryz.sizeOf23 rfl)<|zA (zN Tryz.isAgg23 rfl rfl rfl rfl)<|zA (zW Tryz.underlying23 rfl)<|zA (zB rfl) ?_
  refine zF<|zQ<|zq (σ:=Int×Int) (fun (i6,i7)=>mkE [(1,(AV.ptr 0 0)),(3,(li i6)),(23,(ls zO A.zones)),(24,(li (A.zones.length:Int))),(25,(li i7))]) (fun (i6,i7)=>[.box 26 (zI A)]) (fun n5 (i6,i7)=>zDl A n5 i6 i7) (0,0) h (fun _=>rfl) (z8 [0] rfl rfl (by kernel_rfl)) ?_
  clear h
  rintro n5 ⟨i6,i7⟩ h
  replace h:zCD A (zDl A n5) i6 i7=some r:=h
  unfold zCD at h
  refine zH<|zC<|zA (zf rfl rfl)<|zF<|zH ?_
  refine zY h rfl (fun b23 h => ?_) (fun b23 h => ?_)
  ·refine zP<|zH<|zQ<|zH<|zC<|zM h fun b24 h => ?_
   refine zA (zS Tryz.underlying23 Tryz.sizeOf51 (fun _=>rfl) rfl rfl b24)<|zA (zAh (row:=(zO (at_ A.zones i7))) (o:=0) (m:=10) (la:=(zO (at_ A.zones i7))) Tryz.isAgg51 Tryz.sizeOf51 rfl rfl rfl)<|za (H':=[.box 26 (zI A),.box 51 (zO ⟨0,0,0,0,0,(List.replicate 5 ([]:List Int))⟩)]) zv0<|zi (H':=[.box 26 (zI A),.box 51 (zO (at_ A.zones i7))]) (zZ (k:=1) (o:=0) (cs:=(zO ⟨0,0,0,0,0,(List.replicate 5 ([]:List Int))⟩)) (la:=(zO (at_ A.zones i7))) Tryz.sizeOf51 rfl rfl rfl rfl)<|zF<|zH ?_
   refine zH<|zC<|zA (zT (k:=1) (o:=0) (m:=10) Tryz.isAgg51 Tryz.sizeOf51 rfl rfl rfl rfl rfl)<|zR h fun x5 w5 h=>zh Tryz.func42 rfl (by kernel_rfl) (.fn 42) rfl rfl (zFO w5) rfl<|zA (zD rfl) ?_
   refine zF<|zH<|zC<|zA (zB rfl)<|zA (zz rfl rfl)<|zF ?_
   refine zY h rfl (fun b25 h => ?_) (fun b25 h => ?_)
   ·refine zH<|zC<|zA (zB rfl)<|zA (zD rfl)<|zF<|zb ?_
    cases h
    exact zt (zAH rfl rfl)
   refine zP<|zH<|zH<|zC<|zA (zK Tryz.underlying51 rfl rfl Tryz.sizeOf3 rfl)<|zA (zN Tryz.isAgg3 rfl rfl rfl rfl) ?_
   refine zA (zB rfl)<|zA (zz rfl rfl)<|zF ?_
   refine zY h rfl (fun b26 h => ?_) (fun b26 h => ?_)
   ·refine zH<|zC<|zA (zD rfl)<|zF<|zb ?_
    cases h
    exact zt (zAH rfl rfl)
   refine zP<|zC<|zA (zB rfl)<|zA (zK Tryz.underlying51 rfl rfl Tryz.sizeOf3 rfl)<|zA (zN Tryz.isAgg3 rfl rfl rfl rfl)<|zM h fun b27 h => ?_
   refine zA (ze rfl rfl b27)<|zA (zD rfl)<|zF<|zC<|zM h fun b28 h=>zA (ze rfl rfl b28) ?_
   refine zA (zB rfl)<|zF ?_
   exact ⟨((i6+((at_ A.zones i7).count)),(i7+1)),z8 [0] rfl rfl (by kernel_rfl),h⟩
  refine zx ?_
  exact ⟨(),z8 [0] rfl rfl (by kernel_rfl),h⟩
 clear h
 intro _ h
 unfold zDo at h
 refine zH<|zH<|zC<|zA (zK Tryz.underlying26 rfl rfl Tryz.sizeOf24 rfl)<|zA (zN Tryz.isAgg24 rfl rfl rfl rfl)<|zA (zW Tryz.underlying24 rfl) ?_
 refine zA (zK Tryz.underlying26 rfl rfl Tryz.sizeOf22 rfl)<|zA (zN Tryz.isAgg22 rfl rfl rfl rfl)<|zA (zW Tryz.underlying22 rfl)<|zA (zz rfl rfl)<|zF ?_
 refine zY h rfl (fun b2 h => ?_) (fun b2 h => ?_)
 ·refine zH<|zC<|zA (zD rfl)<|zF<|zb ?_
  cases h
  exact zt (zAH rfl rfl)
 refine zP ?_
 refine zu (r:=r) (fun (_:Unit)=>mkE [(1,(AV.ptr 0 0))]) (fun _=>[.box 26 (zI A)]) (fun _=>zDp A) ?_ ?_
 ·
  refine zH<|zC<|zA (zK Tryz.underlying26 rfl rfl Tryz.sizeOf24 rfl)<|zA (zN Tryz.isAgg24 rfl rfl rfl rfl)<|zA (zW Tryz.underlying24 rfl)<|zA (zB rfl) ?_
  refine zF<|zQ<|zq (σ:=Int) (fun i4=>mkE [(1,(AV.ptr 0 0)),(51,(ls zG A.caches)),(52,(li (A.caches.length:Int))),(53,(li i4))]) (fun i4=>[.box 26 (zI A)]) (fun n3 i4=>zBN A n3 i4) 0 h (fun _=>rfl) (z8 [0] rfl rfl (by kernel_rfl)) ?_
  clear h
  intro n3 i4 h
  replace h:zCG A (zBN A n3) i4=some r:=h
  unfold zCG at h
  refine zH<|zC<|zA (zf rfl rfl)<|zF<|zH ?_
  refine zY h rfl (fun b15 h => ?_) (fun b15 h => ?_)
  ·refine zP ?_
   refine zu (r:=r) (fun (_:Unit)=>mkE [(1,(AV.ptr 0 0)),(51,(ls zG A.caches)),(52,(li (A.caches.length:Int))),(53,(li i4))]) (fun _=>[.box 26 (zI A)]) (fun _=>zFh (zBN A n3) i4) ?_ ?_
   ·
    refine zQ<|zH<|zC<|zM h fun b17 h=>zA (zS Tryz.underlying24 Tryz.sizeOf55 (fun _=>rfl) rfl rfl b17)<|zA (zAh (row:=(zG (at_ A.caches i4))) (o:=0) (m:=1) (la:=(zG (at_ A.caches i4))) Tryz.isAgg55 Tryz.sizeOf55 rfl rfl rfl) ?_
    refine za (H':=[.box 26 (zI A),.box 55 [(ls (cS cI) ([]:List (List Int)))]]) zv1<|zi (H':=[.box 26 (zI A),.box 55 (zG (at_ A.caches i4))]) (zZ (k:=1) (o:=0) (cs:=[(ls (cS cI) ([]:List (List Int)))]) (la:=(zG (at_ A.caches i4))) Tryz.sizeOf55 rfl rfl rfl rfl)<|zF<|zH<|zH<|zC ?_
    refine zA (zT (k:=1) (o:=0) (m:=1) Tryz.isAgg55 Tryz.sizeOf55 rfl rfl rfl rfl rfl)<|zA (zK Tryz.underlying26 rfl rfl Tryz.sizeOf23 rfl)<|zA (zN Tryz.isAgg23 rfl rfl rfl rfl)<|zA (zW Tryz.underlying23 rfl)<|zR h fun x4 w4 h=>zh Tryz.func43 rfl (by kernel_rfl) (.fn 43) rfl rfl (zKx w4) rfl ?_
    refine zA (zD rfl)<|zF<|zH<|zC<|zA (zB rfl)<|zA (zz rfl rfl) ?_
    refine zF ?_
    refine zY h rfl (fun b18 h => ?_) (fun b18 h => ?_)
    ·refine zH<|zC<|zA (zB rfl)<|zA (zD rfl)<|zF<|zb ?_
     cases h
     exact zt (zAH rfl rfl)
    refine zP<|zH<|zC<|zA (zK Tryz.underlying55 rfl rfl Tryz.sizeOf53 rfl)<|zA (zN Tryz.isAgg53 rfl rfl rfl rfl)<|zA (zW Tryz.underlying53 rfl) ?_
    refine zA (zB rfl)<|zF<|zQ<|zq (σ:=Int) (fun i5=>mkE [(1,(AV.ptr 0 0)),(51,(ls zG A.caches)),(52,(li (A.caches.length:Int))),(53,(li i4)),(66,(ls (cS cI) ((at_ A.caches i4).lists))),(67,(li (((at_ A.caches i4).lists).length:Int))),(68,(li i5))]) (fun i5=>[.box 26 (zI A)]) (fun n4 i5=>zDm (zBN A n3) A i4 n4 i5) 0 h (fun _=>rfl) (z8 [0] rfl rfl (by kernel_rfl)) ?_
    clear h
    intro n4 i5 h
    replace h:zCF (zBN A n3) A i4 (zDm (zBN A n3) A i4 n4) i5=some r:=h
    unfold zCF at h
    refine zH<|zC<|zA (zf rfl rfl)<|zF<|zH ?_
    refine zY h rfl (fun b19 h => ?_) (fun b19 h => ?_)
    ·refine zP<|zH<|zQ<|zH<|zC<|zM h fun b20 h => ?_
     refine zA (zS Tryz.underlying53 Tryz.sizeOf22 (fun _=>rfl) rfl rfl b20)<|zA (zU (o:=0) Tryz.isAgg22 rfl rfl)<|zA (zD rfl)<|zF<|zH<|zC ?_
     refine zA (zB rfl)<|zA (zW Tryz.underlying22 rfl)<|zA (zK Tryz.underlying26 rfl rfl Tryz.sizeOf3 rfl)<|zA (zN Tryz.isAgg3 rfl rfl rfl rfl)<|zA (zAc rfl rfl)<|zF ?_
     refine zY h rfl (fun b21 h => ?_) (fun b21 h => ?_)
     ·refine zH<|zC<|zA (zD rfl)<|zF<|zb ?_
      cases h
      exact zt (zAH rfl rfl)
     refine zP<|zC<|zM h fun b22 h=>zA (ze rfl rfl b22)<|zA (zB rfl)<|zF ?_
     exact ⟨(i5+1),z8 [0] rfl rfl (by kernel_rfl),h⟩
    refine zx ?_
    exact ⟨(),z8 [0] rfl rfl (by kernel_rfl),h⟩
   clear h
   intro _ h
   unfold zFh at h
   refine zC<|zM h fun b16 h=>zA (ze rfl rfl b16)<|zA (zB rfl)<|zF ?_
   exact ⟨(i4+1),z8 [0] rfl rfl (by kernel_rfl),h⟩
  refine zx ?_
  exact ⟨(),z8 [0] rfl rfl (by kernel_rfl),h⟩
 clear h
 intro _ h
 unfold zDp at h
 refine zH<|zC<|za (H':=[.box 26 (zI A),.map (mI Value.bool ([]:List (Int×Bool)))]) (zLy)<|zA (zD rfl)<|zF ?_
 refine zu (r:=r) (fun (_:Unit)=>mkE []) (fun _=>[]) (fun _=>zHl ) ?_ ?_
 ·
  refine zH<|zC<|zA (zK Tryz.underlying26 rfl rfl Tryz.sizeOf24 rfl)<|zA (zN Tryz.isAgg24 rfl rfl rfl rfl)<|zA (zW Tryz.underlying24 rfl)<|zA (zB rfl) ?_
  refine zF<|zQ<|zq (σ:=Int×(List (Int×Bool))) (fun (i1,l1)=>mkE [(1,(AV.ptr 0 0)),(12,(AV.hd 1)),(81,(ls zG A.caches)),(82,(li (A.caches.length:Int))),(83,(li i1))]) (fun (i1,l1)=>[.box 26 (zI A),.map (mI Value.bool l1)]) (fun n0 (i1,l1)=>zAW A n0 i1 l1) (0,([]:List (Int×Bool))) h (fun _=>rfl) (z8 [0,1] rfl rfl (by kernel_rfl)) ?_
  clear h
  rintro n0 ⟨i1,l1⟩ h
  replace h:zCR A (zAW A n0) i1 l1=some r:=h
  unfold zCR at h
  refine zH<|zC<|zA (zf rfl rfl)<|zF<|zH ?_
  refine zY h rfl (fun b3 h => ?_) (fun b3 h => ?_)
  ·refine zP ?_
   refine zu (r:=r) (fun (l2:List (Int×Bool))=>mkE [(1,(AV.ptr 0 0)),(12,(AV.hd 1)),(81,(ls zG A.caches)),(82,(li (A.caches.length:Int))),(83,(li i1))]) (fun l2=>[.box 26 (zI A),.map (mI Value.bool l2)]) (fun l2=>zFg (zAW A n0) i1 l2) ?_ ?_
   ·
    refine zQ<|zH<|zC<|zM h fun b5 h=>zA (zS Tryz.underlying24 Tryz.sizeOf55 (fun _=>rfl) rfl rfl b5)<|zA (zAh (row:=(zG (at_ A.caches i1))) (o:=0) (m:=1) (la:=(zG (at_ A.caches i1))) Tryz.isAgg55 Tryz.sizeOf55 rfl rfl rfl) ?_
    refine za (H':=[.box 26 (zI A),.map (mI Value.bool l1),.box 55 [(ls (cS cI) ([]:List (List Int)))]]) zv1<|zi (H':=[.box 26 (zI A),.map (mI Value.bool l1),.box 55 (zG (at_ A.caches i1))]) (zZ (k:=2) (o:=0) (cs:=[(ls (cS cI) ([]:List (List Int)))]) (la:=(zG (at_ A.caches i1))) Tryz.sizeOf55 rfl rfl rfl rfl)<|zF<|zH<|zC<|zA (zK Tryz.underlying55 rfl rfl Tryz.sizeOf53 rfl) ?_
    refine zA (zN Tryz.isAgg53 rfl rfl rfl rfl)<|zA (zW Tryz.underlying53 rfl)<|zA (zB rfl)<|zF<|zQ<|zq (σ:=Int×(List (Int×Bool))) (fun (i2,l3)=>mkE [(1,(AV.ptr 0 0)),(12,(AV.hd 1)),(81,(ls zG A.caches)),(82,(li (A.caches.length:Int))),(83,(li i1)),(88,(ls (cS cI) ((at_ A.caches i1).lists))),(89,(li (((at_ A.caches i1).lists).length:Int))),(90,(li i2))]) (fun (i2,l3)=>[.box 26 (zI A),.map (mI Value.bool l3)]) (fun n1 (i2,l3)=>zAp (zAW A n0) A i1 n1 i2 l3) (0,l1) h (fun _=>rfl) (z8 [0,1] rfl rfl (by kernel_rfl)) ?_
    clear h
    rintro n1 ⟨i2,l3⟩ h
    replace h:zCC (zAW A n0) A i1 (zAp (zAW A n0) A i1 n1) i2 l3=some r:=h
    unfold zCC at h
    refine zH<|zC<|zA (zf rfl rfl)<|zF<|zH ?_
    refine zY h rfl (fun b6 h => ?_) (fun b6 h => ?_)
    ·refine zP ?_
     refine zu (r:=r) (fun (l4:List (Int×Bool))=>mkE [(1,(AV.ptr 0 0)),(12,(AV.hd 1)),(81,(ls zG A.caches)),(82,(li (A.caches.length:Int))),(83,(li i1)),(88,(ls (cS cI) ((at_ A.caches i1).lists))),(89,(li (((at_ A.caches i1).lists).length:Int))),(90,(li i2))]) (fun l4=>[.box 26 (zI A),.map (mI Value.bool l4)]) (fun l4=>zFk (zAp (zAW A n0) A i1 n1) i2 l4) ?_ ?_
     ·
      refine zQ<|zH<|zC<|zA (zB rfl)<|zM h fun b8 h=>zA (zS Tryz.underlying53 Tryz.sizeOf22 (fun _=>rfl) rfl rfl b8) ?_
      refine zA (zU (o:=0) Tryz.isAgg22 rfl rfl)<|zA (zD rfl)<|zA (zD rfl)<|zF<|zH<|zC ?_
      refine zA (zB rfl)<|zA (zW Tryz.underlying22 rfl)<|zA (zB rfl)<|zF<|zQ<|zq (σ:=Int×(List (Int×Bool))) (fun (i3,l5)=>mkE [(1,(AV.ptr 0 0)),(12,(AV.hd 1)),(15,(li i2)),(81,(ls zG A.caches)),(82,(li (A.caches.length:Int))),(83,(li i1)),(88,(ls (cS cI) ((at_ A.caches i1).lists))),(89,(li (((at_ A.caches i1).lists).length:Int))),(90,(li i2)),(95,(ls cI (at_ ((at_ A.caches i1).lists) i2))),(96,(li ((at_ ((at_ A.caches i1).lists) i2).length:Int))),(97,(li i3))]) (fun (i3,l5)=>[.box 26 (zI A),.map (mI Value.bool l5)]) (fun n2 (i3,l5)=>zBk (zAp (zAW A n0) A i1 n1) A i1 i2 n2 i3 l5) (0,l3) h (fun _=>rfl) (z8 [0,1] rfl rfl (by kernel_rfl)) ?_
      clear h
      rintro n2 ⟨i3,l5⟩ h
      replace h:zCI (zAp (zAW A n0) A i1 n1) A i1 i2 (zBk (zAp (zAW A n0) A i1 n1) A i1 i2 n2) i3 l5=some r:=h
      unfold zCI at h
      refine zH<|zC<|zA (zf rfl rfl)<|zF<|zH ?_
      refine zY h rfl (fun b9 h => ?_) (fun b9 h => ?_)
      ·refine zP<|zH<|zQ<|zH<|zC<|zM h fun b10 h => ?_
       refine zA (zS Tryz.underlying22 Tryz.sizeOf3 (fun _=>rfl) rfl rfl b10)<|zA (zU (o:=0) Tryz.isAgg3 rfl rfl)<|zA (zD rfl)<|zF<|zH<|zH ?_
       refine zC<|zA (zT (k:=0) (o:=0) (m:=5) Tryz.isAgg26 Tryz.sizeOf26 rfl rfl rfl rfl rfl)<|zA (zB rfl)<|zR h fun x2 w2 h=>zh Tryz.func44 rfl (by kernel_rfl) (.fn 44) rfl rfl (zGL w2) rfl<|zA (zB rfl) ?_
       refine zA (zz rfl rfl)<|zF ?_
       refine zY h rfl (fun b11 h => ?_) (fun b11 h => ?_)
       ·refine zH<|zC<|zA (zD rfl)<|zF<|zb ?_
        cases h
        exact zt (zAH rfl rfl)
       refine zP<|zH<|zH<|zC<|zA (zB rfl)<|zA (zB rfl) ?_
       refine zA (zNd (k:=1) (g:=Value.bool) (q:=at_ (at_ ((at_ A.caches i1).lists) i2) i3) (l:=l5) (dflt:=false) (a:=(AV.lit (.bool (zMS false l5 (at_ (at_ ((at_ A.caches i1).lists) i2) i3))))) Tryz.underlying58 Tryz.underlying3 Tryz.zeroValue4 rfl rfl rfl rfl)<|zA (zB rfl)<|zX rfl rfl (fun c1=>zp.step (zK Tryz.underlying26 rfl rfl Tryz.sizeOf23 rfl))<|zX rfl rfl (fun c2=>zp.step (zN Tryz.isAgg23 (z6 rfl c2) rfl rfl rfl))<|zX rfl rfl (fun c3=>zp.step (zB rfl))<|zM h fun b12 h => ?_
       refine zX rfl rfl (fun c4=>zp.step (zS Tryz.underlying23 Tryz.sizeOf51 (fun _=>rfl) (z6 rfl c4) (z6 rfl c4) (zHT b12 c4)))<|zX rfl rfl (fun c5=>zp.step (zAh (row:=(zO (at_ A.zones i2))) (o:=0) (m:=10) (la:=(zO (at_ A.zones i2))) Tryz.isAgg51 Tryz.sizeOf51 (z6 rfl c5) rfl rfl))<|zX rfl rfl (fun c6=>zp.step (zB rfl))<|zR h fun x3 w3 h=>zCt (g:=109) (s:=zMS false l5 (at_ (at_ ((at_ A.caches i1).lists) i2) i3)) (r':=(AV.lit (.bool x3))) rfl rfl (fun c7=>⟨45,_,_,[],[(AV.agg (zO (at_ A.zones i2))),(li (at_ (at_ ((at_ A.caches i1).lists) i2) i3))],[(AV.agg (zO (at_ A.zones i2))),(li (at_ (at_ ((at_ A.caches i1).lists) i2) i3))],(AV.lit (.bool x3)),[],Tryz.func45,rfl,by kernel_rfl,.fn 45,(zAN (z6 rfl c7) (zAN (z6 rfl c7) rfl)),⟨zAx.nr rfl,zAx.nr rfl,trivial⟩,zKs (zG3 c7 w3),.inl rfl,rfl⟩)<|zA (zg rfl rfl) ?_
       refine zF ?_
       refine zY h rfl (fun b13 h => ?_) (fun b13 h => ?_)
       ·refine zH<|zC<|zA (zD rfl)<|zF<|zb ?_
        cases h
        exact zt (zAH rfl rfl)
       refine zP<|zC<|zA (zB rfl)<|zA (zB rfl)<|zi (H':=[.box 26 (zI A),.map (mI Value.bool (zKn l5 (at_ (at_ ((at_ A.caches i1).lists) i2) i3) true))]) (zNU (k:=1) (g:=Value.bool) (q:=at_ (at_ ((at_ A.caches i1).lists) i2) i3) (l:=l5) (v:=true) Tryz.underlying58 Tryz.underlying3 rfl rfl rfl rfl)<|zF ?_
       refine zC<|zM h fun b14 h=>zA (ze rfl rfl b14)<|zA (zB rfl)<|zF ?_
       exact ⟨((i3+1),(zKn l5 (at_ (at_ ((at_ A.caches i1).lists) i2) i3) true)),z8 [0,1] rfl rfl (by kernel_rfl),h⟩
      refine zx ?_
      exact ⟨l5,z8 [0,1] rfl rfl (by kernel_rfl),h⟩
     clear h
     intro l4 h
     unfold zFk at h
     refine zC<|zM h fun b7 h=>zA (ze rfl rfl b7)<|zA (zB rfl)<|zF ?_
     exact ⟨((i2+1),l4),z8 [0,1] rfl rfl (by kernel_rfl),h⟩
    refine zx ?_
    exact ⟨l3,z8 [0,1] rfl rfl (by kernel_rfl),h⟩
   clear h
   intro l2 h
   unfold zFg at h
   refine zC<|zM h fun b4 h=>zA (ze rfl rfl b4)<|zA (zB rfl)<|zF ?_
   exact ⟨((i1+1),l2),z8 [0,1] rfl rfl (by kernel_rfl),h⟩
  refine zx ?_
  exact ⟨(),z8 [] rfl rfl (by kernel_rfl),h⟩
 clear h
 intro _ h
 unfold zHl at h
 refine zH<|zC<|zA (zD rfl)<|zF<|zb ?_
 cases h
 exact zt (zAH rfl rfl)
theorem zLr {B:zJ} {r:Int} (h:zIu B=some r):PFn Tryz.prog 15 [(AV.agg (zI B))] (li r):=by
 refine zo Tryz.func15 rfl Tryz.ntmps15 Tryz.results15 rfl ?_
 unfold zIu at h
 refine zH<|zC<|za (H':=[.box 26 (zI B)]) (zv (t:=26) rfl)<|zA (zD rfl)<|zF<|zH ?_
 refine zH<|zC<|zA (zT (k:=0) (o:=0) (m:=5) Tryz.isAgg26 Tryz.sizeOf26 rfl rfl rfl rfl rfl)<|zR h fun x1 w1 h=>zh Tryz.func13 rfl (by kernel_rfl) (.fn 13) rfl rfl (zBE w1) rfl<|zA (zz rfl rfl) ?_
 refine zF ?_
 refine zY h rfl (fun b1 h => ?_) (fun b1 h => ?_)
 ·refine zH<|zC<|zA (zD rfl)<|zF<|zb ?_
  cases h
  exact zt (zAH rfl rfl)
 refine zP<|zH<|zC<|zA (zK Tryz.underlying26 rfl rfl Tryz.sizeOf23 rfl)<|zA (zN Tryz.isAgg23 rfl rfl rfl rfl)<|zA (zK Tryz.underlying26 rfl rfl Tryz.sizeOf23 rfl) ?_
 refine zA (zN Tryz.isAgg23 rfl rfl rfl rfl)<|zA (zW Tryz.underlying23 rfl)<|zM h fun b2 h=>zA (zBU rfl rfl b2)<|zM h fun b3 h=>zA (zS Tryz.underlying23 Tryz.sizeOf51 (fun _=>rfl) rfl rfl b3) ?_
 refine zA (zAh (row:=(zO (at_ B.zones ((B.zones.length:Int) - 1)))) (o:=0) (m:=10) (la:=(zO (at_ B.zones ((B.zones.length:Int) - 1)))) Tryz.isAgg51 Tryz.sizeOf51 rfl rfl rfl)<|za (H':=[.box 26 (zI B),.box 51 (zO ⟨0,0,0,0,0,(List.replicate 5 ([]:List Int))⟩)]) zv0<|zi (H':=[.box 26 (zI B),.box 51 (zO (at_ B.zones ((B.zones.length:Int) - 1)))]) (zZ (k:=1) (o:=0) (cs:=(zO ⟨0,0,0,0,0,(List.replicate 5 ([]:List Int))⟩)) (la:=(zO (at_ B.zones ((B.zones.length:Int) - 1)))) Tryz.sizeOf51 rfl rfl rfl rfl)<|zF<|zH<|zC ?_
 refine zA (zK Tryz.underlying51 rfl rfl Tryz.sizeOf3 rfl)<|zA (zN Tryz.isAgg3 rfl rfl rfl rfl)<|zA (zK Tryz.underlying51 rfl rfl Tryz.sizeOf3 rfl)<|zA (zN Tryz.isAgg3 rfl rfl rfl rfl)<|zM h fun b4 h=>zA (ze rfl rfl b4) ?_
 refine zA (zD rfl)<|zF<|zb ?_
 cases h
 exact zt (zAH rfl rfl)
theorem zMk {C:zj} {V:Int} {r:Int} (h:zII C V=some r):PFn Tryz.prog 133 [(AV.agg (zO C)),li V] (li r):=by
 refine zo Tryz.func133 rfl Tryz.ntmps133 Tryz.results133 rfl ?_
 unfold zII at h
 refine zH<|zC<|za (H':=[.box 51 (zO C)]) (zv (t:=51) rfl)<|zA (zD rfl)<|zF<|zH ?_
 refine zH<|zC<|zA (zT (k:=0) (o:=0) (m:=10) Tryz.isAgg51 Tryz.sizeOf51 rfl rfl rfl rfl rfl)<|zR h fun x1 w1 h=>zh Tryz.func42 rfl (by kernel_rfl) (.fn 42) rfl rfl (zFO w1) rfl<|zA (zz rfl rfl) ?_
 refine zA (zB rfl)<|zX rfl rfl (fun c1=>zp.step (zB rfl))<|zX rfl rfl (fun c2=>zp.step (zf (z6 rfl c2) rfl))<|zA (zg rfl rfl)<|zA (zB rfl)<|zX rfl rfl (fun c3=>zp.step (zB rfl)) ?_
 refine zX rfl rfl (fun c4=>zp.step (zAc (z6 rfl c4) rfl))<|zA (zg rfl rfl)<|zF ?_
 refine zY h rfl (fun b1 h => ?_) (fun b1 h => ?_)
 ·refine zH<|zC<|zA (zD rfl)<|zF<|zb ?_
  cases h
  exact zt (zAH rfl rfl)
 refine zP<|zH<|zC<|zA (zD rfl)<|zF ?_
 refine zu (r:=r) (fun (i1:Int)=>mkE [(5,(li i1))]) (fun i1=>[]) (fun i1=>zH1 i1) ?_ ?_
 ·
  refine zH<|zC<|zA (zK Tryz.underlying51 rfl rfl Tryz.sizeOf49 rfl)<|zA (zB rfl)<|zAC (zUD (k:=0) (cs:=(zO C)) (cs':=(zO C)) (ds:=[(2,0),(19,5)]) rfl rfl rfl ⟨rfl,rfl,trivial⟩)<|zM h fun b2 h => ?_
  refine zM h fun b3 h=>zA (zPR (o:=5) (cs:=(zO C)) (hd:=([li C.node]++[li C.kind]++[li C.start]++[li C.count]++[li C.min]++[])) (tl:=([])) (g:=(eS cI)) (d0:=([]:List Int)) (l:=C.free) (hi:=V) (f:=(cS cI)) Tryz.underlying49 Tryz.sizeOf22 rfl rfl rfl (fun _=>rfl) rfl b2 b3 rfl)<|zA (zW Tryz.underlying53 rfl)<|zA (zB rfl)<|zF<|zQ ?_
  refine zq (σ:=Int×Int) (fun (i2,i3)=>mkE [(5,(li i2)),(21,(ls (cS cI) (zHt C.free 0 V))),(22,(li ((zHt C.free 0 V).length:Int))),(23,(li i3))]) (fun (i2,i3)=>[]) (fun n0 (i2,i3)=>zEj C V n0 i2 i3) (0,0) h (fun _=>rfl) (z8 [] rfl rfl (by kernel_rfl)) ?_
  clear h
  rintro n0 ⟨i2,i3⟩ h
  replace h:zCZ C V (zEj C V n0) i2 i3=some r:=h
  unfold zCZ at h
  refine zH<|zC<|zA (zf rfl rfl)<|zF<|zH ?_
  refine zY h rfl (fun b4 h => ?_) (fun b4 h => ?_)
  ·refine zP<|zH<|zQ<|zH<|zC<|zA (zB rfl) ?_
   refine zM h fun b5 h=>zA (zS Tryz.underlying53 Tryz.sizeOf22 (fun _=>rfl) rfl rfl b5)<|zA (zU (o:=0) Tryz.isAgg22 rfl rfl)<|zA (zD rfl)<|zA (zD rfl)<|zF ?_
   refine zC<|zA (zB rfl)<|zA (zB rfl)<|zA (zW Tryz.underlying22 rfl)<|zA (zB rfl)<|zM h fun b6 h => ?_
   refine zM h fun b7 h=>zA (zDA (a:=((at_ (zHt C.free 0 V) i3).length:Int)) (b:=i3) rfl rfl b6 b7)<|zM h fun b8 h=>zA (ze rfl rfl b8)<|zA (zD rfl)<|zF ?_
   refine zC<|zM h fun b9 h=>zA (ze rfl rfl b9)<|zA (zB rfl)<|zF ?_
   exact ⟨((i2+(((at_ (zHt C.free 0 V) i3).length:Int)*2 ^ i3.toNat)),(i3+1)),z8 [] rfl rfl (by kernel_rfl),h⟩
  refine zx ?_
  exact ⟨i2,z8 [] rfl rfl (by kernel_rfl),h⟩
 clear h
 intro i1 h
 unfold zH1 at h
 refine zH<|zC<|zA (zB rfl)<|zA (zD rfl)<|zF<|zb ?_
 cases h
 exact zt (zAH rfl rfl)
theorem zO7 {C:zj} {r:Int} (h:zLP C=some r):PFn Tryz.prog 134 [(AV.agg (zO C))] (li r):=by
 refine zo Tryz.func134 rfl Tryz.ntmps134 Tryz.results134 rfl ?_
 unfold zLP at h
 refine zH<|zC<|za (H':=[.box 51 (zO C)]) (zv (t:=51) rfl)<|zA (zD rfl)<|zF<|zH ?_
 refine zH<|zC<|zA (zT (k:=0) (o:=0) (m:=10) Tryz.isAgg51 Tryz.sizeOf51 rfl rfl rfl rfl rfl)<|zR h fun x1 w1 h=>zh Tryz.func42 rfl (by kernel_rfl) (.fn 42) rfl rfl (zFO w1) rfl<|zA (zz rfl rfl) ?_
 refine zF ?_
 refine zY h rfl (fun b1 h => ?_) (fun b1 h => ?_)
 ·refine zH<|zC<|zA (zD rfl)<|zF<|zb ?_
  cases h
  exact zt (zAH rfl rfl)
 refine zP<|zH<|zC<|zA (zK Tryz.underlying51 rfl rfl Tryz.sizeOf49 rfl)<|zA (zAO (m:=5) (s:=1) (i:=4) (k:=0) (o:=5) Tryz.underlying49 Tryz.sizeOf22 rfl rfl (by decide))<|zA (zAk (k:=0) (o:=9) (cs:=(zO C)) (hd:=([li C.node]++[li C.kind]++[li C.start]++[li C.count]++[li C.min]++[])) (tl:=([])) (g:=(eS cI)) (d0:=([]:List Int)) (l:=C.free) (N:=5) (i:=(4:Int).toNat) (a:=(ls cI (C.free.getD (4:Int).toNat ([]:List Int)))) Tryz.isAgg22 rfl rfl rfl rfl (by decide) rfl rfl) ?_
 refine zA (zW Tryz.underlying22 rfl)<|zM h fun b2 h=>zA (zDA (a:=((C.free.getD (4:Int).toNat ([]:List Int)).length:Int)) (b:=4) rfl rfl (by decide) b2)<|zA (zD rfl)<|zF<|zb ?_
 cases h
 exact zt (zAH rfl rfl)
theorem zOG {C:zj} {r:Int} (h:zJZ C=some r):PFn Tryz.prog 99 [(AV.agg (zO C))] (li r):=by
 refine zo Tryz.func99 rfl Tryz.ntmps99 Tryz.results99 rfl ?_
 unfold zJZ at h
 refine zH<|zC<|za (H':=[.box 51 (zO C)]) (zv (t:=51) rfl)<|zA (zD rfl)<|zF<|zH ?_
 refine zR h fun x1 w1 h=>zR h fun x2 w2 h=>zM h fun b1 h => ?_
 refine zAl (n:=8) (m:=0) [.head 0 0,.head 0 0,.head 0 0,.head 0 0,.head 0 0,.head 0 0] [] [(AV.agg (zO C)),li x1,(AV.agg (zO C)),li x2,(li (x1+x2)),(li (x1+x2))] [[.box 51 (zO C)]] (by kernel_rfl) (by kernel_rfl) ⟨D1 fun e s p=>zT (k:=0) (o:=0) (m:=10) Tryz.isAgg51 Tryz.sizeOf51 (s 1 rfl) rfl rfl rfl rfl,?_,D1 fun e s p=>zT (k:=0) (o:=0) (m:=10) Tryz.isAgg51 Tryz.sizeOf51 (s 1 rfl) rfl rfl rfl rfl,?_,D1 fun e s p=>ze (a:=x1) (b:=x2) p.1 p.2.1 b1,D1 fun e s p=>zD p.2.2.2.2.2.2.1,trivial⟩ ?_
 ·
  intro e2 s2 p2
  refine zh (r:=(li x1)) (la:=[(AV.agg (zO C)),li 4]) Tryz.func133 rfl (by kernel_rfl) (.fn 133) (zAN p2.1 (zAN rfl rfl)) rfl (zMk w1) rfl ?_
  exact zF ⟨fun _=>rfl,rfl⟩
 ·
  intro e4 s4 p4
  refine zh (r:=(li x2)) (la:=[(AV.agg (zO C))]) Tryz.func134 rfl (by kernel_rfl) (.fn 134) (zAN p4.1 rfl) rfl (zO7 w2) rfl ?_
  exact zF ⟨fun _=>rfl,rfl⟩
 intro e7 s7 hq1
 refine zAT (zBL (l:=[(2,(li (x1+x2)))]) ⟨(hq1 5 (by decide) (by decide)),trivial⟩)<|zb ?_
 cases h
 exact zt (zAH rfl rfl)
theorem zHP {B:zJ} {C:Int} {r:Int} (h:zDW B C=some r):PFn Tryz.prog 52 [(AV.agg (zI B)),li C] (li r):=by
 refine zo Tryz.func52 rfl Tryz.ntmps52 Tryz.results52 rfl ?_
 unfold zDW at h
 refine zH<|zC<|za (H':=[.box 26 (zI B)]) (zv (t:=26) rfl)<|zA (zD rfl)<|zF<|zH ?_
 refine zC<|zA (zK Tryz.underlying26 rfl rfl Tryz.sizeOf23 rfl)<|zA (zN Tryz.isAgg23 rfl rfl rfl rfl)<|zA (zB rfl)<|zM h fun b1 h=>zA (zS Tryz.underlying23 Tryz.sizeOf51 (fun _=>rfl) rfl rfl b1) ?_
 refine zA (zAh (row:=(zO (at_ B.zones C))) (o:=0) (m:=10) (la:=(zO (at_ B.zones C))) Tryz.isAgg51 Tryz.sizeOf51 rfl rfl rfl)<|zR h fun x1 w1 h=>zh Tryz.func99 rfl (by kernel_rfl) (.fn 99) rfl rfl (zOG w1) rfl<|zA (zD rfl)<|zF ?_
 refine zu (r:=r) (fun (i1:Int)=>mkE [(5,(li i1))]) (fun i1=>[]) (fun i1=>zHJ i1) ?_ ?_
 ·
  refine zH<|zC<|zA (zK Tryz.underlying26 rfl rfl Tryz.sizeOf24 rfl)<|zA (zN Tryz.isAgg24 rfl rfl rfl rfl)<|zA (zW Tryz.underlying24 rfl)<|zA (zB rfl) ?_
  refine zF<|zQ<|zq (σ:=Int×Int) (fun (i2,i3)=>mkE [(1,(li C)),(5,(li i2)),(15,(ls zG B.caches)),(16,(li (B.caches.length:Int))),(17,(li i3))]) (fun (i2,i3)=>[]) (fun n0 (i2,i3)=>zDw B C n0 i2 i3) (x1,0) h (fun _=>rfl) (z8 [] rfl rfl (by kernel_rfl)) ?_
  clear h
  rintro n0 ⟨i2,i3⟩ h
  replace h:zCO B C (zDw B C n0) i2 i3=some r:=h
  unfold zCO at h
  refine zH<|zC<|zA (zf rfl rfl)<|zF<|zH ?_
  refine zY h rfl (fun b2 h => ?_) (fun b2 h => ?_)
  ·refine zP<|zH<|zQ<|zH<|zC<|zM h fun b3 h => ?_
   refine zA (zS Tryz.underlying24 Tryz.sizeOf55 (fun _=>rfl) rfl rfl b3)<|zA (zAh (row:=(zG (at_ B.caches i3))) (o:=0) (m:=1) (la:=(zG (at_ B.caches i3))) Tryz.isAgg55 Tryz.sizeOf55 rfl rfl rfl)<|za (H':=[.box 55 [(ls (cS cI) ([]:List (List Int)))]]) zv1<|zi (H':=[.box 55 (zG (at_ B.caches i3))]) (zZ (k:=0) (o:=0) (cs:=[(ls (cS cI) ([]:List (List Int)))]) (la:=(zG (at_ B.caches i3))) Tryz.sizeOf55 rfl rfl rfl rfl)<|zF<|zC ?_
   refine zA (zB rfl)<|zA (zK Tryz.underlying55 rfl rfl Tryz.sizeOf53 rfl)<|zA (zN Tryz.isAgg53 rfl rfl rfl rfl)<|zA (zB rfl)<|zM h fun b4 h=>zA (zS Tryz.underlying53 Tryz.sizeOf22 (fun _=>rfl) rfl rfl b4) ?_
   refine zA (zU (o:=0) Tryz.isAgg22 rfl rfl)<|zA (zW Tryz.underlying22 rfl)<|zM h fun b5 h=>zA (ze rfl rfl b5)<|zA (zD rfl)<|zF ?_
   refine zC<|zM h fun b6 h=>zA (ze rfl rfl b6)<|zA (zB rfl)<|zF ?_
   exact ⟨((i2+((at_ ((at_ B.caches i3).lists) C).length:Int)),(i3+1)),z8 [] rfl rfl (by kernel_rfl),h⟩
  refine zx ?_
  exact ⟨i2,z8 [] rfl rfl (by kernel_rfl),h⟩
 clear h
 intro i1 h
 unfold zHJ at h
 refine zH<|zC<|zA (zB rfl)<|zA (zD rfl)<|zF<|zb ?_
 cases h
 exact zt (zAH rfl rfl)
theorem zH4 {B:zJ} {C:Int} {r:Int} (h:zEC B C=some r):PFn Tryz.prog 39 [(AV.agg (zI B)),li C] (li r):=by
 refine zo Tryz.func39 rfl Tryz.ntmps39 Tryz.results39 rfl ?_
 unfold zEC at h
 refine zH<|zC<|za (H':=[.box 26 (zI B)]) (zv (t:=26) rfl)<|zA (zD rfl)<|zF<|zH ?_
 refine zR h fun x1 w1 h=>zM h fun b1 h=>zM h fun b2 h => ?_
 refine zAl (n:=15) (m:=0) [.head 0 0,.head 0 0,.head 0 0,.head 0 0,.head 0 0,.head 0 0,.head 0 0,.head 0 0,.head 0 0,.head 0 0,.head 0 0] [] [(AV.agg (zI B)),li C,li x1,AV.ptr 0 3,ls zO B.zones,li C,(AV.rp (zO (at_ B.zones C)) 0),(AV.rp (zO (at_ B.zones C)) 4),(li ((at_ B.zones C).min)),(li (x1 - ((at_ B.zones C).min))),(li (x1 - ((at_ B.zones C).min)))] [[.box 26 (zI B)]] (by kernel_rfl) (by kernel_rfl) ⟨D1 fun e s p=>zT (k:=0) (o:=0) (m:=5) Tryz.isAgg26 Tryz.sizeOf26 (s 2 rfl) rfl rfl rfl rfl,D1 fun e s p=>zB (s 1 rfl),?_,D1 fun e s p=>zK (k:=0) (o:=0) (off:=3) Tryz.underlying26 rfl rfl Tryz.sizeOf23 (s 2 rfl),D1 fun e s p=>zN (k:=0) (o:=3) Tryz.isAgg23 p.1 rfl rfl rfl,D1 fun e s p=>zB (s 1 rfl),D1 fun e s p=>zS (f:=zO) (l:=B.zones) (i:=C) Tryz.underlying23 Tryz.sizeOf51 (fun _=>rfl) p.1 p.2.1 b1,D1 fun e s p=>zAr (row:=(zO (at_ B.zones C))) (o:=0) (off:=4) Tryz.underlying51 rfl rfl Tryz.sizeOf3 p.1,D1 fun e s p=>zU (o:=4) Tryz.isAgg3 p.1 rfl,D1 fun e s p=>zBU (a:=x1) (b:=(at_ B.zones C).min) p.1 p.2.1 b2,D1 fun e s p=>zD p.2.2.2.2.2.2.2.2.2.2.2.1,trivial⟩ ?_
 ·
  intro e3 s3 p3
  refine zh (r:=(li x1)) (la:=[(AV.agg (zI B)),li C]) Tryz.func52 rfl (by kernel_rfl) (.fn 52) (zAN p3.1 (zAN p3.2.1 rfl)) rfl (zHP w1) rfl ?_
  exact zF ⟨fun _=>rfl,rfl⟩
 intro e12 s12 hq1
 refine zAT (zBL (l:=[(4,(li (x1 - ((at_ B.zones C).min))))]) ⟨(hq1 10 (by decide) (by decide)),trivial⟩)<|zb ?_
 cases h
 exact zt (zAH rfl rfl)
theorem zLM {B:zJ} {r:Int×Int} (h:zHh B=some r):PFn Tryz.prog 11 [(AV.agg (zI B))] (AV.tup [li r.1,li r.2]):=by
 refine zo Tryz.func11 rfl Tryz.ntmps11 Tryz.results11 rfl ?_
 unfold zHh at h
 refine zH<|zC<|za (H':=[.box 26 (zI B)]) (zv (t:=26) rfl)<|zA (zD rfl)<|zA (zD rfl)<|zF ?_
 refine zH<|zH<|zC<|zA (zT (k:=0) (o:=0) (m:=5) Tryz.isAgg26 Tryz.sizeOf26 rfl rfl rfl rfl rfl)<|zR h fun x1 w1 h=>zh Tryz.func13 rfl (by kernel_rfl) (.fn 13) rfl rfl (zBE w1) rfl ?_
 refine zA (zz rfl rfl)<|zF ?_
 refine zY h rfl (fun b1 h => ?_) (fun b1 h => ?_)
 ·refine zH<|zC<|zA (zD rfl)<|zA (zD rfl)<|zF<|zb ?_
  cases h
  exact zBx (zAH rfl rfl) (zAH rfl rfl) rfl
 refine zP<|zH<|zC<|zA (zD rfl)<|zA (zD rfl)<|zF ?_
 refine zu (r:=r) (fun ((i1,i2):Int×Int)=>mkE [(4,(li i1)),(5,(li i2))]) (fun (i1,i2)=>[]) (fun (i1,i2)=>zFq i1 i2) ?_ ?_
 ·
  refine zH<|zC<|zA (zK Tryz.underlying26 rfl rfl Tryz.sizeOf23 rfl)<|zA (zN Tryz.isAgg23 rfl rfl rfl rfl)<|zA (zW Tryz.underlying23 rfl)<|zA (zB rfl) ?_
  refine zF<|zQ<|zq (σ:=Int×Int×Int) (fun (i3,i4,i5)=>mkE [(1,(AV.ptr 0 0)),(4,(li i3)),(5,(li i4)),(13,(ls zO B.zones)),(14,(li (B.zones.length:Int))),(15,(li i5))]) (fun (i3,i4,i5)=>[.box 26 (zI B)]) (fun n0 (i3,i4,i5)=>zCq B n0 i3 i4 i5) (0,0,0) h (fun _=>rfl) (z8 [0] rfl rfl (by kernel_rfl)) ?_
  clear h
  rintro n0 ⟨i3,i4,i5⟩ h
  replace h:zFp B (zCq B n0) i3 i4 i5=some r:=h
  unfold zFp at h
  refine zH<|zC<|zA (zf rfl rfl)<|zF<|zH ?_
  refine zY h rfl (fun b2 h => ?_) (fun b2 h => ?_)
  ·refine zP ?_
   refine zu (r:=r) (fun ((i6,i7):Int×Int)=>mkE [(1,(AV.ptr 0 0)),(4,(li i6)),(5,(li i7)),(13,(ls zO B.zones)),(14,(li (B.zones.length:Int))),(15,(li i5))]) (fun (i6,i7)=>[.box 26 (zI B)]) (fun (i6,i7)=>zDi (zCq B n0) i5 i6 i7) ?_ ?_
   ·
    refine zQ<|zH<|zC<|zA (zB rfl)<|zM h fun b4 h=>zA (zS Tryz.underlying23 Tryz.sizeOf51 (fun _=>rfl) rfl rfl b4) ?_
    refine zA (zAh (row:=(zO (at_ B.zones i5))) (o:=0) (m:=10) (la:=(zO (at_ B.zones i5))) Tryz.isAgg51 Tryz.sizeOf51 rfl rfl rfl)<|za (H':=[.box 26 (zI B),.box 51 (zO ⟨0,0,0,0,0,(List.replicate 5 ([]:List Int))⟩)]) zv0<|zA (zD rfl)<|zi (H':=[.box 26 (zI B),.box 51 (zO (at_ B.zones i5))]) (zZ (k:=1) (o:=0) (cs:=(zO ⟨0,0,0,0,0,(List.replicate 5 ([]:List Int))⟩)) (la:=(zO (at_ B.zones i5))) Tryz.sizeOf51 rfl rfl rfl rfl)<|zF<|zH ?_
    refine zC<|zA (zT (k:=0) (o:=0) (m:=5) Tryz.isAgg26 Tryz.sizeOf26 rfl rfl rfl rfl rfl)<|zA (zB rfl)<|zR h fun x2 w2 h=>zh Tryz.func39 rfl (by kernel_rfl) (.fn 39) rfl rfl (zH4 w2) rfl<|zA (zD rfl) ?_
    refine zF<|zH<|zC<|zA (zB rfl)<|zA (zB rfl)<|zM h fun b5 h => ?_
    refine zA (ze rfl rfl b5)<|zA (zD rfl)<|zF<|zH<|zC<|zA (zK Tryz.underlying51 rfl rfl Tryz.sizeOf3 rfl) ?_
    refine zA (zN Tryz.isAgg3 rfl rfl rfl rfl)<|zA (zAz rfl rfl)<|zF ?_
    refine zY h rfl (fun b6 h => ?_) (fun b6 h => ?_)
    ·refine zC<|zA (zB rfl)<|zA (zB rfl)<|zM h fun b7 h=>zA (ze rfl rfl b7)<|zA (zD rfl) ?_
     refine zF ?_
     exact ⟨((i3+x2),(i4+x2)),z8 [0] rfl rfl (by kernel_rfl),h⟩
    refine zP ?_
    exact ⟨(i3,(i4+x2)),z8 [0] rfl rfl (by kernel_rfl),h⟩
   clear h
   rintro ⟨i6,i7⟩ h
   unfold zDi at h
   refine zC<|zM h fun b3 h=>zA (ze rfl rfl b3)<|zA (zB rfl)<|zF ?_
   exact ⟨(i6,i7,(i5+1)),z8 [0] rfl rfl (by kernel_rfl),h⟩
  refine zx ?_
  exact ⟨(i3,i4),z8 [] rfl rfl (by kernel_rfl),h⟩
 clear h
 rintro ⟨i1,i2⟩ h
 unfold zFq at h
 refine zH<|zC<|zA (zB rfl)<|zA (zB rfl)<|zA (zD rfl)<|zA (zD rfl) ?_
 refine zF<|zb ?_
 cases h
 exact zBx (zAH rfl rfl) (zAH rfl rfl) rfl
theorem zMo {W:List zj} {r:Int} (h:zH7 W=some r):PFn Tryz.prog 135 [ls zO W] (li r):=by
 refine zo Tryz.func135 rfl Tryz.ntmps135 Tryz.results135 rfl ?_
 unfold zH7 at h
 refine zH<|zC<|zA (zD rfl)<|zF<|zH<|zH ?_
 refine zC<|zA (zB rfl)<|zA (zW Tryz.underlying23 rfl)<|zA (zAc rfl rfl)<|zF ?_
 refine zY h rfl (fun b1 h => ?_) (fun b1 h => ?_)
 ·refine zH<|zC<|zA (zD rfl)<|zF<|zb ?_
  cases h
  exact zt (zAH rfl rfl)
 refine zP ?_
 refine zu (r:=r) (fun (_:Unit)=>mkE []) (fun _=>[]) (fun _=>zH3 ) ?_ ?_
 ·
  refine zH<|zC<|zA (zB rfl)<|zA (zW Tryz.underlying23 rfl)<|zA (zB rfl)<|zF ?_
  refine zQ<|zq (σ:=Int) (fun i1=>mkE [(8,(ls zO W)),(9,(li (W.length:Int))),(10,(li i1))]) (fun i1=>[]) (fun n0 i1=>zEo W n0 i1) 0 h (fun _=>rfl) (z8 [] rfl rfl (by kernel_rfl)) ?_
  clear h
  intro n0 i1 h
  replace h:zCY W (zEo W n0) i1=some r:=h
  unfold zCY at h
  refine zH<|zC<|zA (zf rfl rfl)<|zF<|zH ?_
  refine zY h rfl (fun b2 h => ?_) (fun b2 h => ?_)
  ·refine zP<|zH<|zQ<|zH<|zC<|zM h fun b3 h => ?_
   refine zA (zS Tryz.underlying23 Tryz.sizeOf51 (fun _=>rfl) rfl rfl b3)<|zA (zAh (row:=(zO (at_ W i1))) (o:=0) (m:=10) (la:=(zO (at_ W i1))) Tryz.isAgg51 Tryz.sizeOf51 rfl rfl rfl)<|za (H':=[.box 51 (zO ⟨0,0,0,0,0,(List.replicate 5 ([]:List Int))⟩)]) zv0<|zi (H':=[.box 51 (zO (at_ W i1))]) (zZ (k:=0) (o:=0) (cs:=(zO ⟨0,0,0,0,0,(List.replicate 5 ([]:List Int))⟩)) (la:=(zO (at_ W i1))) Tryz.sizeOf51 rfl rfl rfl rfl)<|zF<|zH ?_
   refine zH<|zC<|zA (zK Tryz.underlying51 rfl rfl Tryz.sizeOf3 rfl)<|zA (zN Tryz.isAgg3 rfl rfl rfl rfl)<|zA (zf rfl rfl)<|zA (zB rfl) ?_
   refine zX rfl rfl (fun c1=>zp.step (zK Tryz.underlying51 rfl rfl Tryz.sizeOf3 rfl))<|zX rfl rfl (fun c2=>zp.step (zN Tryz.isAgg3 (z6 rfl c2) rfl rfl rfl))<|zX rfl rfl (fun c3=>zp.step (zAv (z6 rfl c3) rfl))<|zA (zg rfl rfl)<|zF ?_
   refine zY h rfl (fun b4 h => ?_) (fun b4 h => ?_)
   ·refine zH<|zC<|zA (zD rfl)<|zF<|zb ?_
    cases h
    exact zt (zAH rfl rfl)
   refine zP<|zH<|zC<|zA (zK Tryz.underlying51 rfl rfl Tryz.sizeOf3 rfl)<|zA (zN Tryz.isAgg3 rfl rfl rfl rfl)<|zA (zz rfl rfl) ?_
   refine zA (zB rfl)<|zm rfl rfl (fun c4=>zp.step (zK Tryz.underlying51 rfl rfl Tryz.sizeOf3 rfl))<|zm rfl rfl (fun c5=>zp.step (zN Tryz.isAgg3 (z6 rfl c5) rfl rfl rfl))<|zm rfl rfl (fun c6=>zp.step (zz (z6 rfl c6) rfl))<|zA (zy (j := .lit undef) rfl rfl)<|zF ?_
   refine zY h rfl (fun b5 h => ?_) (fun b5 h => ?_)
   ·refine zH<|zC<|zA (zD rfl)<|zF<|zb ?_
    cases h
    exact zt (zAH rfl rfl)
   refine zP<|zC<|zM h fun b6 h=>zA (ze rfl rfl b6)<|zA (zB rfl)<|zF ?_
   exact ⟨(i1+1),z8 [] rfl rfl (by kernel_rfl),h⟩
  refine zx ?_
  exact ⟨(),z8 [] rfl rfl (by kernel_rfl),h⟩
 clear h
 intro _ h
 unfold zH3 at h
 refine zH<|zC<|zA (zD rfl)<|zF<|zb ?_
 cases h
 exact zt (zAH rfl rfl)
theorem zMe {W:List zj} {R:Int} {r:Int} (h:zH6 W R=some r):PFn Tryz.prog 100 [ls zO W,li R] (li r):=by
 refine zo Tryz.func100 rfl Tryz.ntmps100 Tryz.results100 rfl ?_
 unfold zH6 at h
 refine zH<|zC<|zA (zD rfl)<|zF<|zH<|zH ?_
 refine zC<|zA (zB rfl)<|zR h fun x1 w1 h=>zh Tryz.func135 rfl (by kernel_rfl) (.fn 135) rfl rfl (zMo w1) rfl<|zA (zD rfl)<|zF ?_
 refine zH<|zC<|zA (zB rfl)<|zA (zz rfl rfl)<|zF ?_
 refine zY h rfl (fun b1 h => ?_) (fun b1 h => ?_)
 ·refine zH<|zC<|zA (zB rfl)<|zA (zD rfl)<|zF<|zb ?_
  cases h
  exact zt (zAH rfl rfl)
 refine zP<|zH<|zH<|zC<|zA (zB rfl)<|zA (zf rfl rfl) ?_
 refine zA (zB rfl)<|zX rfl rfl (fun c1=>zp.step (zB rfl))<|zX rfl rfl (fun c2=>zp.step (zAv (z6 rfl c2) rfl))<|zA (zg rfl rfl)<|zF ?_
 refine zY h rfl (fun b2 h => ?_) (fun b2 h => ?_)
 ·refine zH<|zC<|zA (zD rfl)<|zF<|zb ?_
  cases h
  exact zt (zAH rfl rfl)
 refine zP<|zH<|zC<|zA (zD rfl)<|zF<|zb ?_
 cases h
 exact zt (zAH rfl rfl)
theorem zNz {uV:Int} {R:Int} {r:Int} (h:zIm uV R=some r):PFn Tryz.prog 102 [li uV,li R] (li r):=by
 refine zo Tryz.func102 rfl Tryz.ntmps102 Tryz.results102 rfl ?_
 unfold zIm at h
 refine zH<|zC<|zA (zD rfl)<|zF<|zH<|zH ?_
 refine zC<|zA (zB rfl)<|zA (zB rfl)<|zA (zf rfl rfl)<|zF ?_
 refine zY h rfl (fun b1 h => ?_) (fun b1 h => ?_)
 ·refine zH<|zC<|zA (zB rfl)<|zA (zB rfl)<|zM h fun b2 h=>zA (zBU rfl rfl b2) ?_
  refine zM h fun b3 h=>zA (zMO (a:=2) (b:=uV - R) rfl rfl b3)<|zA (zD rfl)<|zF<|zb ?_
  cases h
  exact zt (zAH rfl rfl)
 refine zP<|zH<|zC<|zA (zB rfl)<|zA (zB rfl)<|zM h fun b4 h => ?_
 refine zA (zBU rfl rfl b4)<|zM h fun b5 h=>zA (zMO (a:=2) (b:=R - uV) rfl rfl b5)<|zM h fun b6 h=>zA (ze rfl rfl b6)<|zA (zD rfl) ?_
 refine zF<|zb ?_
 cases h
 exact zt (zAH rfl rfl)
theorem zLp {uT:Int} {uI:Int} {uM:List zj} {r:Int} (h:zAn uT uI uM=some r):PFn Tryz.prog 101 [li uT,(AV.rp [li uI] 0),(AV.rp [ls zO uM] 0)] (li r):=by
 refine zo Tryz.func101 rfl Tryz.ntmps101 Tryz.results101 rfl ?_
 unfold zAn at h
 refine zH<|zC<|zA (zD rfl)<|zF<|zH<|zM h fun b1 h => ?_
 refine zR h fun x1 w1 h=>zM h fun b2 h => ?_
 refine zAl (n:=23) (m:=0) [.head 0 0,.head 0 0,.head 0 0,.head 0 0,.head 0 0,.head 0 0,.head 0 0,.head 0 0,.head 0 0] [] [li uI,ls zO uM,li uT,(AV.rp (zO (at_ uM uT)) 0),(AV.rp (zO (at_ uM uT)) 0),(li ((at_ uM uT).node)),li x1,(li (2*x1)),(li (2*x1))] [[]] (by kernel_rfl) (by kernel_rfl) ⟨D1 fun e s p=>zU (o:=0) Tryz.isAgg3 (s 1 rfl) rfl,D1 fun e s p=>zU (o:=0) Tryz.isAgg23 (s 2 rfl) rfl,D1 fun e s p=>zB (s 0 rfl),D1 fun e s p=>zS (f:=zO) (l:=uM) (i:=uT) Tryz.underlying23 Tryz.sizeOf51 (fun _=>rfl) p.1 p.2.1 b1,D1 fun e s p=>zAr (row:=(zO (at_ uM uT))) (o:=0) (off:=0) Tryz.underlying51 rfl rfl Tryz.sizeOf3 p.1,D1 fun e s p=>zU (o:=0) Tryz.isAgg3 p.1 rfl,?_,D1 fun e s p=>zMO (a:=2) (b:=x1) rfl p.1 b2,D1 fun e s p=>zD p.2.2.2.2.2.2.2.2.2.1,trivial⟩ ?_
 ·
  intro e7 s7 p7
  refine zh (r:=(li x1)) (la:=[li uI,(li ((at_ uM uT).node))]) Tryz.func102 rfl (by kernel_rfl) (.fn 102) (zAN p7.1 (zAN p7.2.1 rfl)) rfl (zNz w1) rfl ?_
  exact zF ⟨fun _=>rfl,rfl⟩
 intro e10 s10 hq1
 refine zAT (zBL (l:=[(0,(li uT)),(2,(AV.rp [ls zO uM] 0)),(5,(li (2*x1)))]) ⟨s10 0 rfl,s10 2 rfl,(hq1 8 (by decide) (by decide)),trivial⟩) ?_
 refine zu (r:=r) (fun (i1:Int)=>mkE [(5,(li i1))]) (fun i1=>[]) (fun i1=>zDX i1) ?_ ?_
 ·
  refine zH<|zC<|zA (zU (o:=0) Tryz.isAgg23 rfl rfl)<|zA (zB rfl)<|zA (zS Tryz.underlying23 Tryz.sizeOf51 (fun _=>rfl) rfl rfl b1)<|zA (zAr (row:=(zO (at_ uM uT))) (o:=0) (off:=1) Tryz.underlying51 rfl rfl Tryz.sizeOf3 rfl) ?_
  refine zA (zU (o:=1) Tryz.isAgg3 rfl rfl)<|zA (zAz rfl rfl)<|zF ?_
  refine zY h rfl (fun b3 h => ?_) (fun b3 h => ?_)
  ·refine zC<|zA (zB rfl)<|zM h fun b4 h=>zA (ze rfl rfl b4)<|zA (zD rfl)<|zF ?_
   exact ⟨((2*x1)+1),z8 [] rfl rfl (by kernel_rfl),h⟩
  refine zP ?_
  exact ⟨(2*x1),z8 [] rfl rfl (by kernel_rfl),h⟩
 clear h
 intro i1 h
 unfold zDX at h
 refine zH<|zC<|zA (zB rfl)<|zA (zD rfl)<|zF<|zb ?_
 cases h
 exact zt (zAH rfl rfl)
theorem zMQ {I:Int} {uU:Int} {r:Int} (h:zHo I uU=some r):PFn Tryz.prog 105 [li I,li uU] (li r):=by
 refine zo Tryz.func105 rfl Tryz.ntmps105 Tryz.results105 rfl ?_
 unfold zHo at h
 refine zH<|zC<|zA (zD rfl)<|zF<|zH<|zC ?_
 refine zA (zB rfl)<|zR h fun x1 w1 h=>zh Tryz.func137 rfl (by kernel_rfl) (.fn 137) rfl rfl (zGx w1) rfl<|zA (zD rfl)<|zF<|zH ?_
 refine zC<|zA (zB rfl)<|zR h fun x2 w2 h=>zh Tryz.func137 rfl (by kernel_rfl) (.fn 137) rfl rfl (zGx w2) rfl<|zA (zD rfl)<|zF ?_
 refine zH<|zH<|zC<|zA (zB rfl)<|zF ?_
 refine zY h rfl (fun b1 h => ?_) (fun b1 h => ?_)
 ·refine zH<|zH<|zC<|zA (zB rfl)<|zF ?_
  refine zY h rfl (fun b2 h => ?_) (fun b2 h => ?_)
  ·refine zH<|zC<|zA (zD rfl)<|zF<|zb ?_
   cases h
   exact zt (zAH rfl rfl)
  refine zP<|zH<|zC<|zA (zD rfl)<|zF<|zb ?_
  cases h
  exact zt (zAH rfl rfl)
 refine zP<|zH<|zH<|zC<|zA (zB rfl)<|zF ?_
 refine zY h rfl (fun b3 h => ?_) (fun b3 h => ?_)
 ·refine zH<|zC<|zA (zD rfl)<|zF<|zb ?_
  cases h
  exact zt (zAH rfl rfl)
 refine zP<|zH<|zH<|zC<|zA (zB rfl)<|zA (zB rfl) ?_
 refine zA (zf rfl rfl)<|zF ?_
 refine zY h rfl (fun b4 h => ?_) (fun b4 h => ?_)
 ·refine zH<|zC<|zA (zD rfl)<|zF<|zb ?_
  cases h
  exact zt (zAH rfl rfl)
 refine zP<|zH<|zH<|zC<|zA (zB rfl)<|zA (zB rfl) ?_
 refine zA (zAc rfl rfl)<|zF ?_
 refine zY h rfl (fun b5 h => ?_) (fun b5 h => ?_)
 ·refine zH<|zC<|zA (zD rfl)<|zF<|zb ?_
  cases h
  exact zt (zAH rfl rfl)
 refine zP<|zH<|zC<|zA (zD rfl)<|zF<|zb ?_
 cases h
 exact zt (zAH rfl rfl)
theorem zLn {B : Int} {L : Int} {uI : Int → Option Int} {g_c_0 : FuncId} {cf_c_0 : Func} {code_c_0 : Code} {caps_c_0 : List AV} (hcf_c_0 : Tryz.prog.funcs[g_c_0]? = some cf_c_0) (hcb_c_0 : cf_c_0.body = some code_c_0) (hcn_c_0 : (cf_c_0.name == "runtime.NumGoroutine") = false) (hnr_c_0 : caps_c_0.all nr = true) (hg_c_0 : ∀ {x0 : Int} {y : Int}, uI x0 = some y → PFn Tryz.prog g_c_0 ((li x0) :: caps_c_0) (li y)) {r : Int} (h : zAw B L uI = some r) : PFn Tryz.prog 104 [(li B), (li L), (AV.rp [(AV.clo g_c_0 caps_c_0)] 0)] (li r) := by
 refine zo Tryz.func104 rfl Tryz.ntmps104 Tryz.results104 rfl ?_
 unfold zAw at h
 refine zH<|zC<|zA (zD rfl)<|zF<|zH<|zR h fun x1 w1 h => ?_
 refine zR h fun x2 w2 h=>zR h fun x3 w3 h => ?_
 refine zAl (n:=13) (m:=0) [.head 0 0,.head 0 0,.head 0 0,.head 0 0,.head 0 0,.head 0 0,.head 0 0,.head 0 0] [] [AV.clo g_c_0 caps_c_0,li B,li x1,AV.clo g_c_0 caps_c_0,li L,li x2,li x3,li x3] [[]] (by kernel_rfl) (by kernel_rfl) ⟨D1 fun e s p=>zU (o:=0) Tryz.isAgg100 (s 2 rfl) rfl,D1 fun e s p=>zB (s 0 rfl),?_,D1 fun e s p=>zU (o:=0) Tryz.isAgg100 (s 2 rfl) rfl,D1 fun e s p=>zB (s 1 rfl),?_,?_,D1 fun e s p=>zD p.2.2.2.2.2.2.2.2.1,trivial⟩ ?_
 ·
  intro e3 s3 p3
  refine zA7 (la:=(li B)::caps_c_0) (la':=(li B)::caps_c_0) (r:=(li x1)) (r':=(li x1)) (S:=[]) hcf_c_0 hcb_c_0 hcn_c_0 (.clo (caps:=caps_c_0) p3.1) (zAN p3.2.1 rfl) (zD9.c (zAx.nr rfl) (zD9.nrs hnr_c_0)) (hg_c_0 w1) (.inl rfl) rfl ?_
  exact zF ⟨fun _=>rfl,rfl⟩
 ·
  intro e6 s6 p6
  refine zA7 (la:=(li L)::caps_c_0) (la':=(li L)::caps_c_0) (r:=(li x2)) (r':=(li x2)) (S:=[]) hcf_c_0 hcb_c_0 hcn_c_0 (.clo (caps:=caps_c_0) p6.1) (zAN p6.2.1 rfl) (zD9.c (zAx.nr rfl) (zD9.nrs hnr_c_0)) (hg_c_0 w2) (.inl rfl) rfl ?_
  exact zF ⟨fun _=>rfl,rfl⟩
 ·
  intro e7 s7 p7
  refine zh (r:=(li x3)) (la:=[li x1,li x2]) Tryz.func105 rfl (by kernel_rfl) (.fn 105) (zAN p7.1 (zAN p7.2.2.1 rfl)) rfl (zMQ w3) rfl ?_
  exact zF ⟨fun _=>rfl,rfl⟩
 intro e9 s9 hq1
 refine zAT (zBL (l:=[(5,(li x3))]) ⟨(hq1 7 (by decide) (by decide)),trivial⟩)<|zb ?_
 cases h
 exact zt (zAH rfl rfl)
theorem zDe {uW : List Int} {B : Int} {L : Int} {uE : Int → Int → Option Int} {g_a_cmp : FuncId} {cf_a_cmp : Func} {code_a_cmp : Code} {caps_a_cmp : List AV} (hcf_a_cmp : Tryz.prog.funcs[g_a_cmp]? = some cf_a_cmp) (hcb_a_cmp : cf_a_cmp.body = some code_a_cmp) (hcn_a_cmp : (cf_a_cmp.name == "runtime.NumGoroutine") = false) (hnr_a_cmp : caps_a_cmp.all nr = true) (hg_a_cmp : ∀ {x0 : Int} {x1 : Int} {y : Int}, uE x0 x1 = some y → PFn Tryz.prog g_a_cmp ((li x0) :: (li x1) :: caps_a_cmp) (li y)) {r : (List Int)} (h : zAm uW B L uE = some r) : AFn Tryz.prog 145 [(AV.hd 0), (li B), (li L), (AV.clo g_a_cmp caps_a_cmp)] [.vec 3 1 (List.map cI uW)] (.tup []) [.vec 3 1 (List.map cI r)] := by
 refine zEp Tryz.func145 rfl Tryz.ntmps145 Tryz.results145 rfl ?_
 unfold zAm at h
 refine zH<|zC<|zA (zB rfl)<|zM h fun b1 h=>zA (ze rfl rfl b1)<|zA (zD rfl) ?_
 refine zF<|zQ<|zq (σ:=Int×(List Int)) (fun (i1,l1)=>mkE [(0,(AV.hd 0)),(1,(li B)),(2,(li L)),(3,(AV.clo g_a_cmp caps_a_cmp)),(8,(li i1))]) (fun (i1,l1)=>[.vec 3 1 (List.map cI l1)]) (fun n0 (i1,l1)=>zAB B L uE n0 i1 l1) ((B+1),uW) h (fun _=>rfl) (zBz (n:=53) (m:=1) [0] (l:=[(0,(AV.hd 0)),(1,(li B)),(2,(li L)),(3,(AV.clo g_a_cmp caps_a_cmp)),(8,(li (B+1)))]) ⟨⟨Sub.refl _,by kernel_rfl⟩,⟨Sub.refl _,by kernel_rfl⟩,⟨Sub.refl _,by kernel_rfl⟩,⟨zFW hnr_a_cmp,zFX hnr_a_cmp⟩,⟨Sub.refl _,by kernel_rfl⟩,trivial⟩ rfl rfl ⟨⟨rfl,by kernel_rfl⟩,trivial⟩) ?_
 clear h
 rintro n0 ⟨i1,l1⟩ h
 replace h:zAG B L uE (zAB B L uE n0) i1 l1=some r:=h
 unfold zAG at h
 refine zH<|zH<|zC<|zA (zB rfl)<|zA (zB rfl)<|zA (zf rfl rfl) ?_
 refine zF ?_
 refine zY h rfl (fun b2 h => ?_) (fun b2 h => ?_)
 ·refine zP ?_
  refine zu (r:=r) (fun (l2:List Int)=>mkE [(0,(AV.hd 0)),(1,(li B)),(2,(li L)),(3,(AV.clo g_a_cmp caps_a_cmp)),(8,(li i1))]) (fun l2=>[.vec 3 1 (List.map cI l2)]) (fun l2=>zAu (zAB B L uE n0) i1 l2) ?_ ?_
  ·
   refine zQ<|zH<|zC<|zA (zB rfl)<|zA (zD rfl)<|zF ?_
   refine zQ<|zq (σ:=Int×(List Int)) (fun (i2,l3)=>mkE [(0,(AV.hd 0)),(1,(li B)),(2,(li L)),(3,(AV.clo g_a_cmp caps_a_cmp)),(8,(li i1)),(9,(li i2))]) (fun (i2,l3)=>[.vec 3 1 (List.map cI l3)]) (fun n1 (i2,l3)=>zAR (zAB B L uE n0) B uE i1 n1 i2 l3) (i1,l1) h (fun _=>rfl) (zBz (n:=53) (m:=1) [0] (l:=[(0,(AV.hd 0)),(1,(li B)),(2,(li L)),(3,(AV.clo g_a_cmp caps_a_cmp)),(8,(li i1)),(9,(li i1))]) ⟨⟨Sub.refl _,by kernel_rfl⟩,⟨Sub.refl _,by kernel_rfl⟩,⟨Sub.refl _,by kernel_rfl⟩,⟨zFW hnr_a_cmp,zFX hnr_a_cmp⟩,⟨Sub.refl _,by kernel_rfl⟩,⟨Sub.refl _,by kernel_rfl⟩,trivial⟩ rfl rfl ⟨⟨rfl,by kernel_rfl⟩,trivial⟩) ?_
   clear h
   rintro n1 ⟨i2,l3⟩ h
   replace h:zAQ (zAB B L uE n0) B uE i1 (zAR (zAB B L uE n0) B uE i1 n1) i2 l3=some r:=h
   unfold zAQ at h
   refine zH<|zH<|zM h fun b4 h=>zM h fun b5 h=>zM h fun b6 h=>zR h fun x1 w1 h => ?_
   refine zAl (n:=53) (m:=1) [.head 0 0,.head 0 0,.head 0 0,.head 0 0,.head 0 0,.head 0 0,.head 0 0,.head 0 0,.head 0 0,.head 0 0,.head 0 0,.head 0 0,.head 0 0,.head 0 0,.head 0 0,.head 0 0,.head 0 0] [] [li i2,li B,(AV.lit (.bool (decide (B<i2)))),(AV.lit (.bool (decide (B<i2)))),(bif decide (B<i2) then (AV.clo g_a_cmp caps_a_cmp) else .lit undef),(bif decide (B<i2) then (AV.hd 0) else .lit undef),(bif decide (B<i2) then (li i2) else .lit undef),(bif decide (B<i2) then (AV.ptr 0 (i2.toNat*1)) else .lit undef),(bif decide (B<i2) then (li (at_ l3 i2)) else .lit undef),(bif decide (B<i2) then (AV.hd 0) else .lit undef),(bif decide (B<i2) then (li i2) else .lit undef),(bif decide (B<i2) then (li (i2 - 1)) else .lit undef),(bif decide (B<i2) then (AV.ptr 0 ((i2 - 1).toNat*1)) else .lit undef),(bif decide (B<i2) then (li (at_ l3 (i2 - 1))) else .lit undef),(bif decide (B<i2) then (li x1) else .lit undef),(bif decide (B<i2) then (AV.lit (.bool (decide (x1<0)))) else .lit undef),(AV.lit (.bool ((decide (B<i2))&&(decide (x1<0)))))] [[.vec 3 1 (List.map cI l3)]] (by kernel_rfl) (by kernel_rfl) ⟨D1 fun e s p=>zB (s 9 rfl),D1 fun e s p=>zB (s 1 rfl),D1 fun e s p=>zAc (a:=i2) (b:=B) p.1 p.2.1,D1 fun e s p=>zB p.1,?_,?_,?_,?_,?_,?_,?_,?_,?_,?_,?_,?_,D1 fun e s p=>zy (s:=decide (B<i2)) (q:=decide (x1<0)) (j := .lit undef) p.1 p.2.1,trivial⟩ ?_
   ·
    intro e5 s5 p5
    refine zm (g:=21) (s:=decide (B<i2)) rfl p5.1 (fun c13=>zp.step (zB (av:=(AV.clo g_a_cmp caps_a_cmp)) (s5 3 rfl))) ?_
    exact zF ⟨fun _=>rfl,rfl⟩
   ·
    intro e6 s6 p6
    refine zm (g:=21) (s:=decide (B<i2)) rfl p6.1 (fun c14=>zp.step (zB (av:=(AV.hd 0)) (s6 0 rfl))) ?_
    exact zF ⟨fun _=>rfl,rfl⟩
   ·
    intro e7 s7 p7
    refine zm (g:=21) (s:=decide (B<i2)) rfl p7.1 (fun c15=>zp.step (zB (av:=(li i2)) (s7 9 rfl))) ?_
    exact zF ⟨fun _=>rfl,rfl⟩
   ·
    intro e8 s8 p8
    refine zm (g:=21) (s:=decide (B<i2)) rfl p8.2.2.1 (fun c16=>zp.step (z5 (f:=cI) (l:=l3) (i:=i2) Tryz.underlying22 Tryz.sizeOf3 (z6 p8.1 c16) rfl (z6 p8.2.1 c16) (zHT b4 c16))) ?_
    exact zF ⟨fun _=>rfl,rfl⟩
   ·
    intro e9 s9 p9
    refine zm (g:=21) (s:=decide (B<i2)) rfl p9.2.1 (fun c17=>zp.step (zA1 (f:=cI) (l:=l3) (i:=i2) (c:=0) (a:=(li (at_ l3 i2))) Tryz.isAgg3 (z6 p9.1 c17) rfl (by first | rfl | omega) (zHT b4 c17) rfl rfl)) ?_
    exact zF ⟨fun _=>rfl,rfl⟩
   ·
    intro e10 s10 p10
    refine zm (g:=21) (s:=decide (B<i2)) rfl p10.1 (fun c18=>zp.step (zB (av:=(AV.hd 0)) (s10 0 rfl))) ?_
    exact zF ⟨fun _=>rfl,rfl⟩
   ·
    intro e11 s11 p11
    refine zm (g:=21) (s:=decide (B<i2)) rfl p11.1 (fun c19=>zp.step (zB (av:=(li i2)) (s11 9 rfl))) ?_
    exact zF ⟨fun _=>rfl,rfl⟩
   ·
    intro e12 s12 p12
    refine zm (g:=21) (s:=decide (B<i2)) rfl p12.2.1 (fun c20=>zp.step (zBU (a:=i2) (b:=1) (z6 p12.1 c20) rfl (zHT b5 c20))) ?_
    exact zF ⟨fun _=>rfl,rfl⟩
   ·
    intro e13 s13 p13
    refine zm (g:=21) (s:=decide (B<i2)) rfl p13.2.2.1 (fun c21=>zp.step (z5 (f:=cI) (l:=l3) (i:=i2 - 1) Tryz.underlying22 Tryz.sizeOf3 (z6 p13.1 c21) rfl (z6 p13.2.1 c21) (zHT b6 c21))) ?_
    exact zF ⟨fun _=>rfl,rfl⟩
   ·
    intro e14 s14 p14
    refine zm (g:=21) (s:=decide (B<i2)) rfl p14.2.1 (fun c22=>zp.step (zA1 (f:=cI) (l:=l3) (i:=i2 - 1) (c:=0) (a:=(li (at_ l3 (i2 - 1)))) Tryz.isAgg3 (z6 p14.1 c22) rfl (by first | rfl | omega) (zHT b6 c22) rfl rfl)) ?_
    exact zF ⟨fun _=>rfl,rfl⟩
   ·
    intro e15 s15 p15
    refine zCu (g:=21) (s:=decide (B<i2)) (r':=(li x1)) rfl p15.2.2.2.2.1 (fun c23=>⟨g_a_cmp,cf_a_cmp,code_a_cmp,caps_a_cmp,(li (at_ l3 i2))::(li (at_ l3 (i2 - 1)))::caps_a_cmp,(li (at_ l3 i2))::(li (at_ l3 (i2 - 1)))::caps_a_cmp,li x1,[],hcf_a_cmp,hcb_a_cmp,hcn_a_cmp,.clo (z6 p15.1 c23),(zAN (z6 p15.2.1 c23) (zAN (z6 p15.2.2.1 c23) rfl)),zD9.c (zAx.nr rfl) (zD9.c (zAx.nr rfl) (zD9.nrs hnr_a_cmp)),hg_a_cmp (zG3 c23 w1),.inl rfl,rfl⟩) ?_
    exact zF ⟨fun _=>rfl,rfl⟩
   ·
    intro e16 s16 p16
    refine zm (g:=21) (s:=decide (B<i2)) rfl p16.2.1 (fun c24=>zp.step (zf (a:=x1) (b:=0) (z6 p16.1 c24) rfl)) ?_
    exact zF ⟨fun _=>rfl,rfl⟩
   intro e18 s18 hq1
   refine zAT (zBL (l:=[(0,(AV.hd 0)),(1,(li B)),(2,(li L)),(3,(AV.clo g_a_cmp caps_a_cmp)),(8,(li i1)),(9,(li i2)),(34,(AV.lit (.bool ((decide (B<i2))&&(decide (x1<0))))))]) ⟨s18 0 rfl,s18 1 rfl,s18 2 rfl,s18 3 rfl,s18 8 rfl,s18 9 rfl,(hq1 16 (by decide) (by decide)),trivial⟩) ?_
   refine zY h rfl (fun b7 h => ?_) (fun b7 h => ?_)
   ·refine zP<|zH<|zQ<|zM h fun b8 h=>zM h fun b9 h=>zM h fun b10 h => ?_
    refine zM h fun b11 h => ?_
    refine zAl (n:=53) (m:=1) [.head 0 0,.head 0 0,.head 0 1,.head 0 1,.head 0 1,.head 0 0,.head 0 0,.head 0 0,.head 0 0,.head 0 0,.head 0 0,.head 0 0,.head 0 0,.head 0 0,.head 0 0,.tail 0,.head 1 1,.tail 1] [15,17] [AV.hd 0,li i2,AV.hd 0,li i2,(li (i2 - 1)),AV.hd 0,li i2,(li (i2 - 1)),(AV.ptr 0 ((i2 - 1).toNat*1)),(li (at_ l3 (i2 - 1))),AV.hd 0,li i2,(AV.ptr 0 (i2.toNat*1)),(li (at_ l3 i2)),(AV.ptr 0 (i2.toNat*1)),.any,(AV.ptr 0 ((i2 - 1).toNat*1)),.any] [[.vec 3 1 (List.map cI l3)],[.vec 3 1 (List.map cI (l3.set i2.toNat (at_ l3 (i2 - 1))))],[.vec 3 1 (List.map cI ((l3.set i2.toNat (at_ l3 (i2 - 1))).set (i2 - 1).toNat (at_ l3 i2)))]] (by kernel_rfl) (by kernel_rfl) ⟨D1 fun e s p=>zB (s 0 rfl),D1 fun e s p=>zB (s 9 rfl),⟨D1 fun e s p=>zB (s 0 rfl),D1 fun e s p=>zB (s 0 rfl)⟩,⟨D1 fun e s p=>zB (s 9 rfl),D1 fun e s p=>zB (s 9 rfl)⟩,⟨D1 fun e s p=>zBU (a:=i2) (b:=1) p.1 rfl b8,D1 fun e s p=>zBU (a:=i2) (b:=1) p.1 rfl b8⟩,D1 fun e s p=>zB (s 0 rfl),D1 fun e s p=>zB (s 9 rfl),D1 fun e s p=>zBU (a:=i2) (b:=1) p.1 rfl b8,D1 fun e s p=>z5 (f:=cI) (l:=l3) (i:=i2 - 1) Tryz.underlying22 Tryz.sizeOf3 p.1 rfl p.2.1 b9,D1 fun e s p=>zA1 (f:=cI) (l:=l3) (i:=i2 - 1) (c:=0) (a:=(li (at_ l3 (i2 - 1)))) Tryz.isAgg3 p.1 rfl (by first | rfl | omega) b9 rfl rfl,D1 fun e s p=>zB (s 0 rfl),D1 fun e s p=>zB (s 9 rfl),D1 fun e s p=>z5 (f:=cI) (l:=l3) (i:=i2) Tryz.underlying22 Tryz.sizeOf3 p.1 rfl p.2.1 b10,D1 fun e s p=>zA1 (f:=cI) (l:=l3) (i:=i2) (c:=0) (a:=(li (at_ l3 i2))) Tryz.isAgg3 p.1 rfl (by first | rfl | omega) b10 rfl rfl,D1 fun e s p=>z5 (f:=cI) (l:=l3) (i:=i2) Tryz.underlying22 Tryz.sizeOf3 p.2.2.1 rfl p.2.2.2.1 b10,?_,D1 fun e s p=>z5 (f:=cI) (l:=l3.set i2.toNat (at_ l3 (i2 - 1))) (i:=i2 - 1) Tryz.underlying22 Tryz.sizeOf3 p.2.2.2.2.1 rfl p.2.2.2.2.2.2.1 b11,?_,trivial⟩ ?_
    ·
     intro e37 s37 p36
     refine zi (H':=[.vec 3 1 (List.map cI (l3.set i2.toNat (at_ l3 (i2 - 1))))]) (zBq (k:=0) (o:=(i2.toNat*1)) (f:=cI) (l:=l3) (i:=i2) (c:=0) (a:=(li (at_ l3 (i2 - 1)))) (z:=at_ l3 (i2 - 1)) Tryz.sizeOf3 (by exact p36.1) rfl (by first | rfl | omega) b10 rfl (by exact p36.2.2.2.2.2.2.2.2.2.2.2.1) rfl rfl rfl) ?_
     exact zF ⟨fun _=>rfl,rfl⟩
    ·
     intro e39 s39 p38
     refine zi (H':=[.vec 3 1 (List.map cI ((l3.set i2.toNat (at_ l3 (i2 - 1))).set (i2 - 1).toNat (at_ l3 i2)))]) (zBq (k:=0) (o:=((i2 - 1).toNat*1)) (f:=cI) (l:=l3.set i2.toNat (at_ l3 (i2 - 1))) (i:=i2 - 1) (c:=0) (a:=(li (at_ l3 i2))) (z:=at_ l3 i2) Tryz.sizeOf3 (by exact p38.1) rfl (by first | rfl | omega) b11 rfl (by exact p38.2.2.2.2.2.2.2.2.2.2.2.2.2.2.2.2.1) rfl rfl rfl) ?_
     exact zF ⟨fun _=>rfl,rfl⟩
    intro e40 s40 hq2
    refine zAT (zBL (l:=[(0,(AV.hd 0)),(1,(li B)),(2,(li L)),(3,(AV.clo g_a_cmp caps_a_cmp)),(8,(li i1)),(9,(li i2))]) ⟨s40 0 rfl,s40 1 rfl,s40 2 rfl,s40 3 rfl,s40 8 rfl,s40 9 rfl,trivial⟩)<|zC<|zA (zB (av:=(li i2)) rfl)<|zA (zBU (a:=i2) (b:=1) rfl rfl b8)<|zA (zD (av:=(li (i2 - 1))) rfl)<|zF ?_
    exact ⟨((i2 - 1),((l3.set i2.toNat (at_ l3 (i2 - 1))).set (i2 - 1).toNat (at_ l3 i2))),zBz (n:=53) (m:=1) [0] (l:=[(0,(AV.hd 0)),(1,(li B)),(2,(li L)),(3,(AV.clo g_a_cmp caps_a_cmp)),(8,(li i1)),(9,(li (i2 - 1)))]) ⟨⟨Sub.refl _,by kernel_rfl⟩,⟨Sub.refl _,by kernel_rfl⟩,⟨Sub.refl _,by kernel_rfl⟩,⟨zFW hnr_a_cmp,zFX hnr_a_cmp⟩,⟨Sub.refl _,by kernel_rfl⟩,⟨Sub.refl _,by kernel_rfl⟩,trivial⟩ rfl rfl ⟨⟨rfl,by kernel_rfl⟩,trivial⟩,h⟩
   refine zx ?_
   exact ⟨l3,zBz (n:=53) (m:=1) [0] (l:=[(0,(AV.hd 0)),(1,(li B)),(2,(li L)),(3,(AV.clo g_a_cmp caps_a_cmp)),(8,(li i1))]) ⟨⟨Sub.refl _,by kernel_rfl⟩,⟨Sub.refl _,by kernel_rfl⟩,⟨Sub.refl _,by kernel_rfl⟩,⟨zFW hnr_a_cmp,zFX hnr_a_cmp⟩,⟨Sub.refl _,by kernel_rfl⟩,trivial⟩ rfl rfl ⟨⟨rfl,by kernel_rfl⟩,trivial⟩,h⟩
  clear h
  intro l2 h
  unfold zAu at h
  refine zC<|zA (zB rfl)<|zM h fun b3 h=>zA (ze rfl rfl b3)<|zA (zD rfl)<|zF ?_
  exact ⟨((i1+1),l2),zBz (n:=53) (m:=1) [0] (l:=[(0,(AV.hd 0)),(1,(li B)),(2,(li L)),(3,(AV.clo g_a_cmp caps_a_cmp)),(8,(li (i1+1)))]) ⟨⟨Sub.refl _,by kernel_rfl⟩,⟨Sub.refl _,by kernel_rfl⟩,⟨Sub.refl _,by kernel_rfl⟩,⟨zFW hnr_a_cmp,zFX hnr_a_cmp⟩,⟨Sub.refl _,by kernel_rfl⟩,trivial⟩ rfl rfl ⟨⟨rfl,by kernel_rfl⟩,trivial⟩,h⟩
 refine zx ?_
 obtain rfl:=Option.some.inj h
 exact ⟨mkE [],[.vec 3 1 (List.map cI l1)],z8 [0] rfl rfl (by kernel_rfl),zLZ rfl⟩
theorem zJS {uW : List Int} {uB : Int} {uE : Int → Int → Option Int} {g_a_cmp : FuncId} {cf_a_cmp : Func} {code_a_cmp : Code} {caps_a_cmp : List AV} (hcf_a_cmp : Tryz.prog.funcs[g_a_cmp]? = some cf_a_cmp) (hcb_a_cmp : cf_a_cmp.body = some code_a_cmp) (hcn_a_cmp : (cf_a_cmp.name == "runtime.NumGoroutine") = false) (hnr_a_cmp : caps_a_cmp.all nr = true) (hg_a_cmp : ∀ {x0 : Int} {x1 : Int} {y : Int}, uE x0 x1 = some y → PFn Tryz.prog g_a_cmp ((li x0) :: (li x1) :: caps_a_cmp) (li y)) {r : (List Int)} (h : zCs uW uB uE = some r) : AFn Tryz.prog 136 [(AV.hd 0), (li uB), (AV.clo g_a_cmp caps_a_cmp)] [.vec 3 1 (List.map cI uW)] (.tup []) [.vec 3 1 (List.map cI r)] := by
 refine zEp Tryz.func136 rfl Tryz.ntmps136 Tryz.results136 rfl ?_
 unfold zCs at h
 refine zH<|zC<|zA (zD rfl)<|zF<|zH<|zC ?_
 refine zA (zB rfl)<|zA (zD rfl)<|zA (zD rfl)<|zF ?_
 refine zu (r:=r) (fun ((i1,l1):Int×(List Int))=>mkE [(0,(AV.hd 0)),(1,(li uB)),(2,(AV.clo g_a_cmp caps_a_cmp)),(6,(li 20)),(7,(li i1))]) (fun (i1,l1)=>[.vec 3 1 (List.map cI l1)]) (fun (i1,l1)=>zB8 uB uE i1 l1) ?_ ?_
 ·
  refine zQ<|zq (σ:=Int×Int×(List Int)) (fun (i3,i4,l2)=>mkE [(0,(AV.hd 0)),(1,(li uB)),(2,(AV.clo g_a_cmp caps_a_cmp)),(6,(li 20)),(7,(li i3)),(8,(li i4))]) (fun (i3,i4,l2)=>[.vec 3 1 (List.map cI l2)]) (fun n2 (i3,i4,l2)=>zBW uB uE n2 i3 i4 l2) (0,20,uW) h (fun _=>rfl) (zBz (n:=63) (m:=1) [0] (l:=[(0,(AV.hd 0)),(1,(li uB)),(2,(AV.clo g_a_cmp caps_a_cmp)),(6,(li 20)),(7,(li 0)),(8,(li 20))]) ⟨⟨Sub.refl _,by kernel_rfl⟩,⟨Sub.refl _,by kernel_rfl⟩,⟨zFW hnr_a_cmp,zFX hnr_a_cmp⟩,⟨Sub.refl _,by kernel_rfl⟩,⟨Sub.refl _,by kernel_rfl⟩,⟨Sub.refl _,by kernel_rfl⟩,trivial⟩ rfl rfl ⟨⟨rfl,by kernel_rfl⟩,trivial⟩) ?_
  clear h
  rintro n2 ⟨i3,i4,l2⟩ h
  replace h:zBX uB uE (zBW uB uE n2) i3 i4 l2=some r:=h
  unfold zBX at h
  refine zH<|zH<|zC<|zA (zB rfl)<|zA (zB rfl)<|zA (zCr rfl rfl) ?_
  refine zF ?_
  refine zY h rfl (fun b8 h => ?_) (fun b8 h => ?_)
  ·refine zP<|zQ<|zH<|zC<|zA (zB rfl)<|zA (zB rfl) ?_
   refine zA (zB rfl)<|zA (zB rfl)<|zR h fun x2 w2 h=>zCo (k:=0) (la:=[AV.hd 0,li i3,li i4,AV.clo g_a_cmp caps_a_cmp]) (la':=[AV.hd 0,li i3,li i4,AV.clo g_a_cmp caps_a_cmp]) (r:=(.tup [])) (S:=[]) (en' := .vec 3 1 (List.map cI x2)) Tryz.func145 rfl (by kernel_rfl) (.fn 145) rfl ⟨zBv.hd,zBv.of (zAx.nr rfl),zBv.of (zAx.nr rfl),zBv.of (zAx.clo (zD9.nrs hnr_a_cmp)),trivial⟩ rfl rfl rfl rfl (zDe hcf_a_cmp hcb_a_cmp hcn_a_cmp hnr_a_cmp hg_a_cmp w2) rfl (.inl rfl)<|zF<|zH ?_
   refine zC<|zA (zB rfl)<|zA (zD rfl)<|zF<|zC<|zA (zB rfl) ?_
   refine zA (zB rfl)<|zM h fun b9 h=>zA (ze rfl rfl b9)<|zA (zD rfl)<|zF ?_
   exact ⟨(i4,(i4+20),x2),zBz (n:=63) (m:=1) [0] (l:=[(0,(AV.hd 0)),(1,(li uB)),(2,(AV.clo g_a_cmp caps_a_cmp)),(6,(li 20)),(7,(li i4)),(8,(li (i4+20)))]) ⟨⟨Sub.refl _,by kernel_rfl⟩,⟨Sub.refl _,by kernel_rfl⟩,⟨zFW hnr_a_cmp,zFX hnr_a_cmp⟩,⟨Sub.refl _,by kernel_rfl⟩,⟨Sub.refl _,by kernel_rfl⟩,⟨Sub.refl _,by kernel_rfl⟩,trivial⟩ rfl rfl ⟨⟨rfl,by kernel_rfl⟩,trivial⟩,h⟩
  refine zx ?_
  exact ⟨(i3,l2),zBz (n:=63) (m:=1) [0] (l:=[(0,(AV.hd 0)),(1,(li uB)),(2,(AV.clo g_a_cmp caps_a_cmp)),(6,(li 20)),(7,(li i3))]) ⟨⟨Sub.refl _,by kernel_rfl⟩,⟨Sub.refl _,by kernel_rfl⟩,⟨zFW hnr_a_cmp,zFX hnr_a_cmp⟩,⟨Sub.refl _,by kernel_rfl⟩,⟨Sub.refl _,by kernel_rfl⟩,trivial⟩ rfl rfl ⟨⟨rfl,by kernel_rfl⟩,trivial⟩,h⟩
 clear h
 rintro ⟨i1,l1⟩ h
 unfold zB8 at h
 refine zH<|zC<|zA (zB rfl)<|zA (zB rfl)<|zA (zB rfl)<|zA (zB rfl) ?_
 refine zR h fun x1 w1 h=>zCo (k:=0) (la:=[AV.hd 0,li i1,li uB,AV.clo g_a_cmp caps_a_cmp]) (la':=[AV.hd 0,li i1,li uB,AV.clo g_a_cmp caps_a_cmp]) (r:=(.tup [])) (S:=[]) (en' := .vec 3 1 (List.map cI x1)) Tryz.func145 rfl (by kernel_rfl) (.fn 145) rfl ⟨zBv.hd,zBv.of (zAx.nr rfl),zBv.of (zAx.nr rfl),zBv.of (zAx.clo (zD9.nrs hnr_a_cmp)),trivial⟩ rfl rfl rfl rfl (zDe hcf_a_cmp hcb_a_cmp hcn_a_cmp hnr_a_cmp hg_a_cmp w1) rfl (.inl rfl)<|zF<|zQ<|zq (σ:=Int) (fun i2=>mkE [(0,(AV.hd 0)),(1,(li uB)),(2,(AV.clo g_a_cmp caps_a_cmp)),(6,(li i2))]) (fun i2=>[.vec 3 1 (List.map cI x1)]) (fun n0 i2=>zAb uB x1 n0 i2) 20 h (fun _=>rfl) (zBz (n:=63) (m:=1) [0] (l:=[(0,(AV.hd 0)),(1,(li uB)),(2,(AV.clo g_a_cmp caps_a_cmp)),(6,(li 20))]) ⟨⟨Sub.refl _,by kernel_rfl⟩,⟨Sub.refl _,by kernel_rfl⟩,⟨zFW hnr_a_cmp,zFX hnr_a_cmp⟩,⟨Sub.refl _,by kernel_rfl⟩,trivial⟩ rfl rfl ⟨⟨rfl,by kernel_rfl⟩,trivial⟩) ?_
 clear h
 intro n0 i2 h
 replace h:zBV uB x1 (zAb uB x1 n0) i2=some r:=h
 unfold zBV at h
 refine zH<|zH<|zC<|zA (zB rfl)<|zA (zB rfl)<|zA (zf rfl rfl) ?_
 refine zF ?_
 refine zY h rfl (fun b1 h => ?_) (fun b1 h => ?_)
 ·refine zP<|zQ<|zH<|zC<|zA (zB rfl)<|zM h fun b2 h => ?_
  refine zA (zMO (a:=2) (b:=i2) rfl rfl b2)<|zA (zD rfl)<|zA (zD rfl)<|zF ?_
  refine zu (r:=r) (fun (_:Unit)=>mkE [(0,(AV.hd 0)),(1,(li uB)),(2,(AV.clo g_a_cmp caps_a_cmp)),(6,(li i2)),(7,(li 0))]) (fun _=>[.vec 3 1 (List.map cI x1)]) (fun _=>zDQ (zAb uB x1 n0) uB i2) ?_ ?_
  ·
   refine zQ<|zq (σ:=Unit) (fun _=>mkE [(0,(AV.hd 0)),(1,(li uB)),(2,(AV.clo g_a_cmp caps_a_cmp)),(6,(li i2)),(7,(li 0)),(8,(li (2*i2)))]) (fun _=>[.vec 3 1 (List.map cI x1)]) (fun n1 _=>zCP (zAb uB x1 n0) uB i2 n1) () h (fun _=>rfl) (zBz (n:=63) (m:=1) [0] (l:=[(0,(AV.hd 0)),(1,(li uB)),(2,(AV.clo g_a_cmp caps_a_cmp)),(6,(li i2)),(7,(li 0)),(8,(li (2*i2)))]) ⟨⟨Sub.refl _,by kernel_rfl⟩,⟨Sub.refl _,by kernel_rfl⟩,⟨zFW hnr_a_cmp,zFX hnr_a_cmp⟩,⟨Sub.refl _,by kernel_rfl⟩,⟨Sub.refl _,by kernel_rfl⟩,⟨Sub.refl _,by kernel_rfl⟩,trivial⟩ rfl rfl ⟨⟨rfl,by kernel_rfl⟩,trivial⟩) ?_
   clear h
   intro n1 _ h
   replace h:zDU (zAb uB x1 n0) uB i2 (zCP (zAb uB x1 n0) uB i2 n1)=some r:=h
   unfold zDU at h
   refine zH<|zH<|zC<|zA (zB rfl)<|zA (zB rfl)<|zA (zCr rfl rfl) ?_
   refine zF ?_
   refine zY h rfl (fun b6 h => ?_) (fun b6 h => ?_)
   ·refine zP<|zQ<|zH<|zC<|zA (zB rfl)<|zA (zB rfl) ?_
    refine zA (zB rfl)<|zA (zB rfl)<|zM h fun b7 h=>zA (ze rfl rfl b7)<|zA (zB rfl)<|zA (zB rfl) ?_
    exact absurd h (by simp)
   refine zx ?_
   exact ⟨(),zBz (n:=63) (m:=1) [0] (l:=[(0,(AV.hd 0)),(1,(li uB)),(2,(AV.clo g_a_cmp caps_a_cmp)),(6,(li i2)),(7,(li 0))]) ⟨⟨Sub.refl _,by kernel_rfl⟩,⟨Sub.refl _,by kernel_rfl⟩,⟨zFW hnr_a_cmp,zFX hnr_a_cmp⟩,⟨Sub.refl _,by kernel_rfl⟩,⟨Sub.refl _,by kernel_rfl⟩,trivial⟩ rfl rfl ⟨⟨rfl,by kernel_rfl⟩,trivial⟩,h⟩
  clear h
  intro _ h
  unfold zDQ at h
  refine zH<|zH<|zC<|zA (zB rfl)<|zA (zB rfl)<|zM h fun b3 h => ?_
  refine zA (ze rfl rfl b3)<|zA (zD rfl)<|zF<|zH<|zC<|zA (zB rfl) ?_
  refine zA (zB rfl)<|zA (zf rfl rfl)<|zF ?_
  refine zY h rfl (fun b4 h => ?_) (fun b4 h => ?_)
  ·refine zC<|zA (zB rfl)<|zA (zB rfl)<|zA (zB rfl)<|zA (zB rfl)<|zA (zB rfl) ?_
   exact absurd h (by simp)
  refine zP<|zC<|zA (zB rfl)<|zM h fun b5 h=>zA (zMO (a:=i2) (b:=2) rfl rfl b5)<|zA (zD rfl) ?_
  refine zF ?_
  exact ⟨(i2*2),zBz (n:=63) (m:=1) [0] (l:=[(0,(AV.hd 0)),(1,(li uB)),(2,(AV.clo g_a_cmp caps_a_cmp)),(6,(li (i2*2)))]) ⟨⟨Sub.refl _,by kernel_rfl⟩,⟨Sub.refl _,by kernel_rfl⟩,⟨zFW hnr_a_cmp,zFX hnr_a_cmp⟩,⟨Sub.refl _,by kernel_rfl⟩,trivial⟩ rfl rfl ⟨⟨rfl,by kernel_rfl⟩,trivial⟩,h⟩
 refine zx ?_
 obtain rfl:=Option.some.inj h
 exact ⟨mkE [],[.vec 3 1 (List.map cI x1)],z8 [0] rfl rfl (by kernel_rfl),zLZ rfl⟩
theorem zHL {I : List Int} {uE : Int → Int → Option Int} {g_a_cmp : FuncId} {cf_a_cmp : Func} {code_a_cmp : Code} {caps_a_cmp : List AV} (hcf_a_cmp : Tryz.prog.funcs[g_a_cmp]? = some cf_a_cmp) (hcb_a_cmp : cf_a_cmp.body = some code_a_cmp) (hcn_a_cmp : (cf_a_cmp.name == "runtime.NumGoroutine") = false) (hnr_a_cmp : caps_a_cmp.all nr = true) (hg_a_cmp : ∀ {x0 : Int} {x1 : Int} {y : Int}, uE x0 x1 = some y → PFn Tryz.prog g_a_cmp ((li x0) :: (li x1) :: caps_a_cmp) (li y)) {r : (List Int)} (h : zBF I uE = some r) : AFn Tryz.prog 103 [(AV.hd 0), (AV.clo g_a_cmp caps_a_cmp)] [.vec 3 1 (List.map cI I)] (.tup []) [.vec 3 1 (List.map cI r)] := by
 refine zEp Tryz.func103 rfl Tryz.ntmps103 Tryz.results103 rfl ?_
 unfold zBF at h
 refine zC<|zA (zB rfl)<|zA (zB rfl)<|zA (zDf (f:=cI) (l:=I) Tryz.underlying22 rfl rfl)<|zA (zB rfl)<|zR h fun x1 w1 h => ?_
 refine zCo (k:=0) (la:=[AV.hd 0,(li (I.length:Int)),AV.clo g_a_cmp caps_a_cmp]) (la':=[AV.hd 0,(li (I.length:Int)),AV.clo g_a_cmp caps_a_cmp]) (r:=(.tup [])) (S:=[]) (en' := .vec 3 1 (List.map cI x1)) Tryz.func136 rfl (by kernel_rfl) (.fn 136) rfl ⟨zBv.hd,zBv.of (zAx.nr rfl),zBv.of (zAx.clo (zD9.nrs hnr_a_cmp)),trivial⟩ rfl rfl rfl rfl (zJS hcf_a_cmp hcb_a_cmp hcn_a_cmp hnr_a_cmp hg_a_cmp w1) rfl (.inl rfl)<|zF ?_
 obtain rfl:=Option.some.inj h
 exact ⟨mkE [],[.vec 3 1 (List.map cI x1)],z8 [0] rfl rfl (by kernel_rfl),zLZ rfl⟩
theorem zKD {W:List zj} {R:Int} {uR:Bool} {r:(List Int)×Int} (h:zEA W R uR=some r):PFn Tryz.prog 53 [ls zO W,li R,(AV.lit (.bool uR))] (AV.tup [ls cI r.1,li r.2]):=by
 refine zo Tryz.func53 rfl Tryz.ntmps53 Tryz.results53 rfl ?_
 unfold zEA at h
 refine zH<|zC<|za (H':=[.box 23 [ls zO W]]) (zKL (t:=23) (a:=(ls zO W)) rfl rfl)<|za (H':=[.box 23 [ls zO W],.box 3 [li R]]) (zKL (t:=3) (a:=(li R)) rfl rfl)<|zA (zD rfl)<|zA (zD rfl) ?_
 refine zF<|zH<|zH<|zC<|zA (zN Tryz.isAgg23 rfl rfl rfl rfl)<|zA (zN Tryz.isAgg3 rfl rfl rfl rfl) ?_
 refine zR h fun x1 w1 h=>zh Tryz.func100 rfl (by kernel_rfl) (.fn 100) rfl rfl (zMe w1) rfl<|zA (zD rfl)<|zF<|zH<|zC ?_
 refine zA (zB rfl)<|zA (zz rfl rfl)<|zF ?_
 refine zY h rfl (fun b1 h => ?_) (fun b1 h => ?_)
 ·refine zH<|zC<|zA (zB rfl)<|zA (zD rfl)<|zA (zD rfl)<|zF ?_
  refine zb ?_
  cases h
  exact zBx (zJL (zAH rfl rfl) zAt.nils) (zAH rfl rfl) rfl
 refine zP<|zH<|zC<|zA (zD rfl)<|zF ?_
 refine zu (r:=r) (fun (l1:List Int)=>mkE [(3,(AV.ptr 0 0)),(4,(AV.ptr 1 0)),(9,(AV.hd 2))]) (fun l1=>[.box 23 [ls zO W],.box 3 [li R],.vec 3 1 (List.map cI l1)]) (fun l1=>zGJ W R l1) ?_ ?_
 ·
  refine zH<|zC<|zA (zN Tryz.isAgg23 rfl rfl rfl rfl)<|zA (zW Tryz.underlying23 rfl)<|zA (zB rfl)<|zF ?_
  refine zQ<|zq (σ:=Int×(List Int)) (fun (i1,l2)=>mkE [(2,(AV.lit (.bool uR))),(3,(AV.ptr 0 0)),(4,(AV.ptr 1 0)),(9,(AV.hd 2)),(19,(ls zO W)),(20,(li (W.length:Int))),(21,(li i1))]) (fun (i1,l2)=>[.box 23 [ls zO W],.box 3 [li R],.vec 3 1 (List.map cI l2)]) (fun n0 (i1,l2)=>zDH W R uR n0 i1 l2) (0,[]) h (fun _=>rfl) (Rep.trans (zLK (d:=9) (el:=3) (sz:=1) rfl) (z8 [0,1,2] (l:=[(2,(AV.lit (.bool uR))),(3,(AV.ptr 0 0)),(4,(AV.ptr 1 0)),(9,(AV.hd 2)),(19,(ls zO W)),(20,(li (W.length:Int))),(21,(li 0))]) rfl rfl (by kernel_rfl))) ?_
  clear h
  rintro n0 ⟨i1,l2⟩ h
  replace h:zBa W R uR (zDH W R uR n0) i1 l2=some r:=h
  unfold zBa at h
  refine zH<|zC<|zA (zf rfl rfl)<|zF<|zH ?_
  refine zY h rfl (fun b2 h => ?_) (fun b2 h => ?_)
  ·refine zP ?_
   refine zu (r:=r) (fun (l3:List Int)=>mkE [(2,(AV.lit (.bool uR))),(3,(AV.ptr 0 0)),(4,(AV.ptr 1 0)),(9,(AV.hd 2)),(19,(ls zO W)),(20,(li (W.length:Int))),(21,(li i1))]) (fun l3=>[.box 23 [ls zO W],.box 3 [li R],.vec 3 1 (List.map cI l3)]) (fun l3=>zDI (zDH W R uR n0) i1 l3) ?_ ?_
   ·
    refine zQ<|zH<|zC<|zA (zB rfl)<|zM h fun b4 h=>zA (zS Tryz.underlying23 Tryz.sizeOf51 (fun _=>rfl) rfl rfl b4) ?_
    refine zA (zAh (row:=(zO (at_ W i1))) (o:=0) (m:=10) (la:=(zO (at_ W i1))) Tryz.isAgg51 Tryz.sizeOf51 rfl rfl rfl)<|za (H':=[.box 23 [ls zO W],.box 3 [li R],.vec 3 1 (List.map cI l2),.box 51 (zO ⟨0,0,0,0,0,(List.replicate 5 ([]:List Int))⟩)]) zv0<|zA (zD rfl)<|zi (H':=[.box 23 [ls zO W],.box 3 [li R],.vec 3 1 (List.map cI l2),.box 51 (zO (at_ W i1))]) (zZ (k:=3) (o:=0) (cs:=(zO ⟨0,0,0,0,0,(List.replicate 5 ([]:List Int))⟩)) (la:=(zO (at_ W i1))) Tryz.sizeOf51 rfl rfl rfl rfl)<|zF<|zH ?_
    refine zC<|zA (zB rfl)<|zA (zBD (t:=uR) rfl)<|zA (zB rfl)<|zX rfl rfl (fun c1=>zp.step (zK Tryz.underlying51 rfl rfl Tryz.sizeOf3 rfl))<|zX rfl rfl (fun c2=>zp.step (zN Tryz.isAgg3 (z6 rfl c2) rfl rfl rfl)) ?_
    refine zX rfl rfl (fun c3=>zp.step (zAz (z6 rfl c3) rfl))<|zA (zg rfl rfl)<|zF ?_
    refine zY h rfl (fun b5 h => ?_) (fun b5 h => ?_)
    ·refine zC<|zA (zB rfl)<|zA (zB rfl)<|zEe (a:=(li i1)) zFK Tryz.underlying22 rfl rfl rfl rfl<|zM h fun b6 h=>zBm (f:=cI) (k:=2) (j:=4) (l:=l2) (l':=[i1]) zFK (fun _=>rfl) Tryz.underlying22 rfl rfl rfl rfl b6 ?_
     refine zA (zD rfl)<|zF ?_
     exact ⟨(l2++[i1]),z8 [0,1,5] rfl rfl (by kernel_rfl),h⟩
    refine zP ?_
    exact ⟨l2,z8 [0,1,2] rfl rfl (by kernel_rfl),h⟩
   clear h
   intro l3 h
   unfold zDI at h
   refine zC<|zM h fun b3 h=>zA (ze rfl rfl b3)<|zA (zB rfl)<|zF ?_
   exact ⟨((i1+1),l3),z8 [0,1,2] rfl rfl (by kernel_rfl),h⟩
  refine zx ?_
  exact ⟨l2,z8 [0,1,2] rfl rfl (by kernel_rfl),h⟩
 clear h
 intro l1 h
 unfold zGJ at h
 refine zH<|zC<|zA (zL3 (la:=[AV.ptr 1 0,AV.ptr 0 0]) rfl)<|za (H':=[.box 23 [ls zO W],.box 3 [li R],.vec 3 1 (List.map cI l1),.box 100 [AV.lit .nilFunc]]) zv8<|zi (H':=[.box 23 [ls zO W],.box 3 [li R],.vec 3 1 (List.map cI l1),.box 100 [(AV.clo 101 [AV.ptr 1 0,AV.ptr 0 0])]]) (zCz (k:=3) (o:=0) (cs:=[AV.lit .nilFunc]) (a:=(AV.clo 101 [AV.ptr 1 0,AV.ptr 0 0])) Tryz.sizeOf100 rfl rfl rfl rfl rfl)<|zF ?_
 refine zH<|zC<|zA (zB rfl)<|zA (zL3 (la:=[AV.ptr 3 0]) rfl)<|zR h fun x2 w2 h=>zCo (k:=2) (la:=[AV.hd 2,(AV.clo 104 [AV.ptr 3 0])]) (la':=[AV.hd 0,(AV.clo 104 [(AV.rp [(AV.clo 101 [(AV.rp [li R] 0),(AV.rp [ls zO W] 0)])] 0)])]) (r:=(.tup [])) (S:=[0,1,3]) (en' := .vec 3 1 (List.map cI x2)) Tryz.func103 rfl (by kernel_rfl) (.fn 103) rfl ⟨zBv.hd,zBv.of (zAx.clo (⟨zAx.ptrV (cs:=[(AV.clo 101 [AV.ptr 1 0,AV.ptr 0 0])]) rfl rfl rfl ⟨zAx.clo (⟨zAx.ptr (cs:=[li R]) rfl rfl rfl,zAx.ptr (cs:=[ls zO W]) rfl rfl rfl,trivial⟩),trivial⟩,trivial⟩)),trivial⟩ rfl rfl rfl rfl (zHL Tryz.func104 rfl (by kernel_rfl) rfl (fun hy=>zLn Tryz.func101 rfl (by kernel_rfl) rfl (fun hy=>zLp  hy) hy) w2) rfl (.inr ⟨rfl,zS4⟩) ?_
 refine zF<|zH<|zC<|zA (zB rfl)<|zA (zD rfl)<|zA (zD rfl) ?_
 refine zF<|zAT (zDc (j:=2) (ds:=[6,9,39,42]) (rows':=List.map cI x2) rfl (zAK (fun _=>rfl)) ⟨rfl,rfl,rfl,rfl,trivial⟩)<|zb ?_
 cases h
 exact zBx (zAH rfl rfl) (zAH rfl rfl) rfl
theorem zHC {Y:List zj} {r:List zj} (h:zBb Y=some r):PFn Tryz.prog 106 [ls zO Y] (AV.osl 51 10 (List.map zO r)):=by
  refine zo Tryz.func106 rfl Tryz.ntmps106 Tryz.results106 rfl ?_
  unfold zBb at h
  refine zM h fun b1 h => ?_
  obtain rfl:=Option.some.inj h
  refine zH<|zC<|zA (a:=(.lit (.slice none 0 0))) (zD rfl)<|zF<|zH<|zH ?_
  refine zC<|zA (a:=(ls zO Y)) (zB rfl) ?_
  refine zMC (full:=false) (rows:=List.map zO Y) Tryz.underlying23 rfl (fun b hb => ?_)
  refine zF ?_
  refine zNO b rfl (fun hbt => ?_) (fun hbt => ?_)
  · obtain rfl:Y=[]:=List.map_eq_nil_iff.1 (hb hbt)
    refine zH<|zC<|zA (a:=(.lit (.slice none 0 0))) (zD rfl)<|zF<|zb ?_
    exact zt (zJL (zAH rfl rfl) zAt.nilo)
  · refine zP ?_
    refine zH<|zC<|zNA zOX Tryz.underlying23<|zA (a:=(ls zO Y)) (zB rfl)<|zF6 (f:=zO) (k:=0) (l:=[]) (l':=Y) zOX (fun _=>rfl) Tryz.underlying23 rfl rfl rfl b1<|zA (a:=(.hd 1)) (zD rfl) ?_
    refine zF<|zb ?_
    exact zt (zW6 (rows:=List.map zO ([]++Y)) rfl rfl)
theorem zFH {Y:List zL} {r:List zL} (h:zA2 Y=some r):PFn Tryz.prog 107 [ls zG Y] (AV.osl 55 1 (List.map zG r)):=by
  refine zo Tryz.func107 rfl Tryz.ntmps107 Tryz.results107 rfl ?_
  unfold zA2 at h
  refine zM h fun b1 h => ?_
  obtain rfl:=Option.some.inj h
  refine zH<|zC<|zA (a:=(.lit (.slice none 0 0))) (zD rfl)<|zF<|zH<|zH ?_
  refine zC<|zA (a:=(ls zG Y)) (zB rfl) ?_
  refine zMC (full:=false) (rows:=List.map zG Y) Tryz.underlying24 rfl (fun b hb => ?_)
  refine zF ?_
  refine zNO b rfl (fun hbt => ?_) (fun hbt => ?_)
  · obtain rfl:Y=[]:=List.map_eq_nil_iff.1 (hb hbt)
    refine zH<|zC<|zA (a:=(.lit (.slice none 0 0))) (zD rfl)<|zF<|zb ?_
    exact zt (zJL (zAH rfl rfl) zAt.nilo)
  · refine zP ?_
    refine zH<|zC<|zNA zOl Tryz.underlying24<|zA (a:=(ls zG Y)) (zB rfl)<|zF6 (f:=zG) (k:=0) (l:=[]) (l':=Y) zOl (fun _=>rfl) Tryz.underlying24 rfl rfl rfl b1<|zA (a:=(.hd 1)) (zD rfl) ?_
    refine zF<|zb ?_
    exact zt (zW6 (rows:=List.map zG ([]++Y)) rfl rfl)
theorem zJ3 {Y:List (List Int)} {r:List (List Int)} (h:zDb Y=some r):PFn Tryz.prog 108 [(ls (cS cI) Y)] (AV.osl 22 1 (List.map (cS cI) r)):=by
  refine zo Tryz.func108 rfl Tryz.ntmps108 Tryz.results108 rfl ?_
  unfold zDb at h
  refine zM h fun b1 h => ?_
  obtain rfl:=Option.some.inj h
  refine zH<|zC<|zA (a:=(.lit (.slice none 0 0))) (zD rfl)<|zF<|zH<|zH ?_
  refine zC<|zA (a:=(ls (cS cI) Y)) (zB rfl) ?_
  refine zMC (full:=false) (rows:=List.map (cS cI) Y) Tryz.underlying53 rfl (fun b hb => ?_)
  refine zF ?_
  refine zNO b rfl (fun hbt => ?_) (fun hbt => ?_)
  · obtain rfl:Y=[]:=List.map_eq_nil_iff.1 (hb hbt)
    refine zH<|zC<|zA (a:=(.lit (.slice none 0 0))) (zD rfl)<|zF<|zb ?_
    exact zt (zJL (zAH rfl rfl) zAt.nilo)
  · refine zP ?_
    refine zH<|zC<|zNA zOg Tryz.underlying53<|zA (a:=(ls (cS cI) Y)) (zB rfl)<|zF6 (f:=(cS cI)) (k:=0) (l:=[]) (l':=Y) zOg (fun _=>rfl) Tryz.underlying53 rfl rfl rfl b1<|zA (a:=(.hd 1)) (zD rfl) ?_
    refine zF<|zb ?_
    exact zt (zW6 (rows:=List.map (cS cI) ([]++Y)) rfl rfl)
theorem zFi {A:zJ} {r:zJ} (h:zCn A=some r):PFn Tryz.prog 54 [(AV.agg (zI A))] (AV.agg ([ls cI r.nodes]++([li r.batch]++([li r.high]++([AV.osl 51 10 (List.map zO r.zones)]++([AV.osl 55 1 (List.map zG r.caches)]++[])))))):=by
 refine zo Tryz.func54 rfl Tryz.ntmps54 Tryz.results54 rfl ?_
 unfold zCn at h
 refine zH<|zC<|za (H':=[.box 26 (zI A)]) (zv (t:=26) rfl)<|za (H':=[.box 26 (zI A),.box 26 (zI ⟨[],0,0,[],[]⟩)]) zv3<|zF<|zH ?_
 refine zR h fun x1 w1 h=>zR h fun x2 w2 h=>zR h fun x3 w3 h => ?_
 refine zAl (n:=82) (m:=0) [.head 0 0,.head 0 0,.tail 0,.head 0 1,.head 0 1,.tail 1,.head 0 2,.head 0 2,.tail 2,.head 1 3,.tail 3,.head 4 4,.tail 4,.head 5 5,.tail 5] [2,5,8,10,12,14] [AV.ptr 0 0,ls cI A.nodes,AV.hd 2,AV.ptr 0 3,ls zO A.zones,AV.hd 3,AV.ptr 0 4,ls zG A.caches,AV.hd 4,AV.ptr 0 0,.any,AV.ptr 0 3,.any,AV.ptr 0 4,.any] [[.box 26 (zI A),.box 26 (zI ⟨[],0,0,[],[]⟩)],[.box 26 (zI A),.box 26 (zI ⟨[],0,0,[],[]⟩),.vec 3 1 (List.map cI x1)],[.box 26 (zI A),.box 26 (zI ⟨[],0,0,[],[]⟩),.vec 3 1 (List.map cI x1),.vec 51 10 (List.map zO x2)],[.box 26 (zI A),.box 26 (zI ⟨[],0,0,[],[]⟩),.vec 3 1 (List.map cI x1),.vec 51 10 (List.map zO x2),.vec 55 1 (List.map zG x3)],[.box 26 [AV.hd 2,li A.batch,li A.high,ls zO A.zones,ls zG A.caches],.box 26 (zI ⟨[],0,0,[],[]⟩),.vec 3 1 (List.map cI x1),.vec 51 10 (List.map zO x2),.vec 55 1 (List.map zG x3)],[.box 26 [AV.hd 2,li A.batch,li A.high,AV.hd 3,ls zG A.caches],.box 26 (zI ⟨[],0,0,[],[]⟩),.vec 3 1 (List.map cI x1),.vec 51 10 (List.map zO x2),.vec 55 1 (List.map zG x3)],[.box 26 [AV.hd 2,li A.batch,li A.high,AV.hd 3,AV.hd 4],.box 26 (zI ⟨[],0,0,[],[]⟩),.vec 3 1 (List.map cI x1),.vec 51 10 (List.map zO x2),.vec 55 1 (List.map zG x3)]] (by kernel_rfl) (by kernel_rfl) ⟨D1 fun e s p=>zK (k:=0) (o:=0) (off:=0) Tryz.underlying26 rfl rfl Tryz.sizeOf22 (s 1 rfl),D1 fun e s p=>zN (k:=0) (o:=0) Tryz.isAgg22 p.1 rfl rfl rfl,?_,⟨D1 fun e s p=>zK (k:=0) (o:=0) (off:=3) Tryz.underlying26 rfl rfl Tryz.sizeOf23 (s 1 rfl),D1 fun e s p=>zK (k:=0) (o:=0) (off:=3) Tryz.underlying26 rfl rfl Tryz.sizeOf23 (s 1 rfl)⟩,⟨D1 fun e s p=>zN (k:=0) (o:=3) Tryz.isAgg23 p.1 rfl rfl rfl,D1 fun e s p=>zN (k:=0) (o:=3) Tryz.isAgg23 p.1 rfl rfl rfl⟩,?_,⟨D1 fun e s p=>zK (k:=0) (o:=0) (off:=4) Tryz.underlying26 rfl rfl Tryz.sizeOf24 (s 1 rfl),D1 fun e s p=>zK (k:=0) (o:=0) (off:=4) Tryz.underlying26 rfl rfl Tryz.sizeOf24 (s 1 rfl),D1 fun e s p=>zK (k:=0) (o:=0) (off:=4) Tryz.underlying26 rfl rfl Tryz.sizeOf24 (s 1 rfl)⟩,⟨D1 fun e s p=>zN (k:=0) (o:=4) Tryz.isAgg24 p.1 rfl rfl rfl,D1 fun e s p=>zN (k:=0) (o:=4) Tryz.isAgg24 p.1 rfl rfl rfl,D1 fun e s p=>zN (k:=0) (o:=4) Tryz.isAgg24 p.1 rfl rfl rfl⟩,?_,⟨D1 fun e s p=>zK (k:=0) (o:=0) (off:=0) Tryz.underlying26 rfl rfl Tryz.sizeOf22 (s 1 rfl),D1 fun e s p=>zK (k:=0) (o:=0) (off:=0) Tryz.underlying26 rfl rfl Tryz.sizeOf22 (s 1 rfl),D1 fun e s p=>zK (k:=0) (o:=0) (off:=0) Tryz.underlying26 rfl rfl Tryz.sizeOf22 (s 1 rfl)⟩,?_,D1 fun e s p=>zK (k:=0) (o:=0) (off:=3) Tryz.underlying26 rfl rfl Tryz.sizeOf23 (s 1 rfl),?_,D1 fun e s p=>zK (k:=0) (o:=0) (off:=4) Tryz.underlying26 rfl rfl Tryz.sizeOf24 (s 1 rfl),?_,trivial⟩ ?_
 ·
  intro e3 s3 p3
  refine zHd (T:=3) (sz:=1) (rows:=List.map cI x1) (la:=[ls cI A.nodes]) (la':=[ls cI A.nodes]) (S:=[]) Tryz.func80 rfl (by kernel_rfl) (.fn 80) (zAN p3.1 rfl) ⟨zAx.nr rfl,trivial⟩ (zAS w1) (.inl rfl) ?_
  exact zF ⟨fun _=>rfl,rfl⟩
 ·
  intro e8 s8 p8
  refine zHd (T:=51) (sz:=10) (rows:=List.map zO x2) (la:=[ls zO A.zones]) (la':=[ls zO A.zones]) (S:=[]) Tryz.func106 rfl (by kernel_rfl) (.fn 106) (zAN p8.1 rfl) ⟨zAx.nr rfl,trivial⟩ (zHC w2) (.inl rfl) ?_
  exact zF ⟨fun _=>rfl,rfl⟩
 ·
  intro e15 s15 p15
  refine zHd (T:=55) (sz:=1) (rows:=List.map zG x3) (la:=[ls zG A.caches]) (la':=[ls zG A.caches]) (S:=[]) Tryz.func107 rfl (by kernel_rfl) (.fn 107) (zAN p15.1 rfl) ⟨zAx.nr rfl,trivial⟩ (zFH w3) (.inl rfl) ?_
  exact zF ⟨fun _=>rfl,rfl⟩
 ·
  intro e19 s19 p19
  refine zi (H':=[.box 26 [AV.hd 2,li A.batch,li A.high,ls zO A.zones,ls zG A.caches],.box 26 (zI ⟨[],0,0,[],[]⟩),.vec 3 1 (List.map cI x1),.vec 51 10 (List.map zO x2),.vec 55 1 (List.map zG x3)]) (zCz (k:=0) (o:=0) (cs:=(zI A)) (a:=(AV.hd 2)) Tryz.sizeOf22 (by exact p19.1) rfl rfl (by exact p19.2.2.2.2.2.1) rfl) ?_
  exact zF ⟨fun _=>rfl,rfl⟩
 ·
  intro e21 s21 p21
  refine zi (H':=[.box 26 [AV.hd 2,li A.batch,li A.high,AV.hd 3,ls zG A.caches],.box 26 (zI ⟨[],0,0,[],[]⟩),.vec 3 1 (List.map cI x1),.vec 51 10 (List.map zO x2),.vec 55 1 (List.map zG x3)]) (zCz (k:=0) (o:=3) (cs:=[AV.hd 2,li A.batch,li A.high,ls zO A.zones,ls zG A.caches]) (a:=(AV.hd 3)) Tryz.sizeOf23 (by exact p21.1) rfl rfl (by exact p21.2.2.2.2.2.2.2.2.1) rfl) ?_
  exact zF ⟨fun _=>rfl,rfl⟩
 ·
  intro e23 s23 p23
  refine zi (H':=[.box 26 [AV.hd 2,li A.batch,li A.high,AV.hd 3,AV.hd 4],.box 26 (zI ⟨[],0,0,[],[]⟩),.vec 3 1 (List.map cI x1),.vec 51 10 (List.map zO x2),.vec 55 1 (List.map zG x3)]) (zCz (k:=0) (o:=4) (cs:=[AV.hd 2,li A.batch,li A.high,AV.hd 3,ls zG A.caches]) (a:=(AV.hd 4)) Tryz.sizeOf24 (by exact p23.1) rfl rfl (by exact p23.2.2.2.2.2.2.2.2.2.2.2.1) rfl) ?_
  exact zF ⟨fun _=>rfl,rfl⟩
 intro e24 s24 hq1
 refine zAT (zBL (l:=[(1,(AV.ptr 0 0)),(2,(AV.ptr 1 0))]) ⟨s24 1 rfl,s24 2 rfl,trivial⟩) ?_
 refine zu (r:=r) (fun (l1:List zj)=>mkE [(1,(AV.ptr 0 0)),(2,(AV.ptr 1 0))]) (fun l1=>[.box 26 [AV.osl 3 1 (List.map cI x1),li A.batch,li A.high,AV.osl 51 10 (List.map zO l1),AV.osl 55 1 (List.map zG x3)],.box 26 (zI ⟨[],0,0,[],[]⟩)]) (fun l1=>zFf A x1 x3 l1) ?_ ?_
 ·
  refine zH<|zC<|zA (zK Tryz.underlying26 rfl rfl Tryz.sizeOf23 rfl)<|zA (zN Tryz.isAgg23 rfl rfl rfl rfl)<|zA (zDf (f:=zO) (l:=x2) Tryz.underlying23 rfl rfl)<|zA (zB rfl) ?_
  refine zF<|zQ<|zq (σ:=Int×(List zj)) (fun (i3,l7)=>mkE [(1,(AV.ptr 0 0)),(2,(AV.ptr 1 0)),(22,(li (x2.length:Int))),(23,(li i3))]) (fun (i3,l7)=>[.box 26 [AV.osl 3 1 (List.map cI x1),li A.batch,li A.high,AV.osl 51 10 (List.map zO l7),AV.osl 55 1 (List.map zG x3)],.box 26 (zI ⟨[],0,0,[],[]⟩)]) (fun n2 (i3,l7)=>zBP A x1 x2 x3 n2 i3 l7) (0,x2) h (fun _=>rfl) (Rep.trans (zAA (k:=0) (j:=2) (o:=0) rfl rfl rfl rfl) (Rep.trans (zAA (k:=0) (j:=3) (o:=3) rfl rfl rfl rfl) (Rep.trans (zAA (k:=0) (j:=4) (o:=4) rfl rfl rfl rfl) (z8 [0,1] (l:=[(1,(AV.ptr 0 0)),(2,(AV.ptr 1 0)),(22,(li (x2.length:Int))),(23,(li 0))]) rfl rfl (by kernel_rfl))))) ?_
  clear h
  rintro n2 ⟨i3,l7⟩ h
  replace h:zCQ A x1 x2 x3 (zBP A x1 x2 x3 n2) i3 l7=some r:=h
  unfold zCQ at h
  refine zH<|zC<|zA (zf rfl rfl)<|zF<|zH ?_
  refine zY h rfl (fun b8 h => ?_) (fun b8 h => ?_)
  ·refine zP ?_
   refine zu (r:=r) (fun (l8:List zj)=>mkE [(1,(AV.ptr 0 0)),(2,(AV.ptr 1 0)),(22,(li (x2.length:Int))),(23,(li i3))]) (fun l8=>[.box 26 [AV.osl 3 1 (List.map cI x1),li A.batch,li A.high,AV.osl 51 10 (List.map zO l8),AV.osl 55 1 (List.map zG x3)],.box 26 (zI ⟨[],0,0,[],[]⟩)]) (fun l8=>zFZ (zBP A x1 x2 x3 n2) i3 l8) ?_ ?_
   ·
    refine zQ<|zH<|zC<|zA (zB rfl)<|zA (zD rfl)<|zF ?_
    refine zH<|zC<|zA (zB rfl)<|zF<|zQ<|zq (σ:=Int×(List zj)) (fun (i4,l9)=>mkE [(1,(AV.ptr 0 0)),(2,(AV.ptr 1 0)),(3,(li i3)),(22,(li (x2.length:Int))),(23,(li i3)),(26,(li i4))]) (fun (i4,l9)=>[.box 26 [AV.osl 3 1 (List.map cI x1),li A.batch,li A.high,AV.osl 51 10 (List.map zO l9),AV.osl 55 1 (List.map zG x3)],.box 26 (zI ⟨[],0,0,[],[]⟩)]) (fun n3 (i4,l9)=>zCv (zBP A x1 x2 x3 n2) i3 n3 i4 l9) (0,l7) h (fun _=>rfl) (z8 [0,1] rfl rfl (by kernel_rfl)) ?_
    clear h
    rintro n3 ⟨i4,l9⟩ h
    replace h:zCS (zBP A x1 x2 x3 n2) i3 (zCv (zBP A x1 x2 x3 n2) i3 n3) i4 l9=some r:=h
    unfold zCS at h
    refine zH<|zC<|zA (zf rfl rfl)<|zF<|zH ?_
    refine zY h rfl (fun b10 h => ?_) (fun b10 h => ?_)
    ·refine zP<|zH<|zQ<|zH<|zC<|zA (zB rfl) ?_
     refine zA (zD rfl)<|zF<|zAT (zAo (k:=0) (o:=3) (t':=51) (sz:=10) (rows:=List.map zO l9) rfl rfl)<|zM h fun b11 h=>zM h fun b12 h=>zR h fun x6 w6 h => ?_
     refine zAl (n:=82) (m:=0) [.head 0 0,.head 0 0,.head 0 0,.head 0 0,.head 0 0,.head 0 0,.head 0 0,.head 0 0,.head 0 0,.head 0 0,.head 0 0,.head 0 0,.head 0 0,.head 0 0,.head 0 0,.head 0 0,.tail 0] [16] [AV.ptr 0 3,AV.hd 2,li i3,li i4,AV.ptr 0 3,AV.hd 2,li i3,li i4,(AV.ptr 2 (i3.toNat*10)),(AV.ptr 2 (i3.toNat*10+5)),(AV.ptr 2 (i3.toNat*10+5+i4.toNat*1)),(ls cI (((at_ l9 i3).free).getD i4.toNat ([]:List Int))),ls cI x6,(AV.ptr 2 (i3.toNat*10)),(AV.ptr 2 (i3.toNat*10+5)),(AV.ptr 2 (i3.toNat*10+5+i4.toNat*1)),.any] [[.box 26 [AV.osl 3 1 (List.map cI x1),li A.batch,li A.high,AV.hd 2,AV.osl 55 1 (List.map zG x3)],.box 26 (zI ⟨[],0,0,[],[]⟩),.vec 51 10 (List.map zO l9)],[.box 26 [AV.osl 3 1 (List.map cI x1),li A.batch,li A.high,AV.hd 2,AV.osl 55 1 (List.map zG x3)],.box 26 (zI ⟨[],0,0,[],[]⟩),.vec 51 10 (List.map zO (l9.set i3.toNat ({ at_ l9 i3 with free:=zEc 5 ([]:List Int) ((at_ l9 i3).free) i4.toNat x6 })))]] (by kernel_rfl) (by kernel_rfl) ⟨D1 fun e s p=>zK (k:=0) (o:=0) (off:=3) Tryz.underlying26 rfl rfl Tryz.sizeOf23 (s 1 rfl),D1 fun e s p=>zN (k:=0) (o:=3) Tryz.isAgg23 p.1 rfl rfl rfl,D1 fun e s p=>zB (s 3 rfl),D1 fun e s p=>zB (s 4 rfl),D1 fun e s p=>zK (k:=0) (o:=0) (off:=3) Tryz.underlying26 rfl rfl Tryz.sizeOf23 (s 1 rfl),D1 fun e s p=>zN (k:=0) (o:=3) Tryz.isAgg23 p.1 rfl rfl rfl,D1 fun e s p=>zB (s 3 rfl),D1 fun e s p=>zB (s 4 rfl),D1 fun e s p=>z5 (f:=zO) (l:=l9) (i:=i3) Tryz.underlying23 Tryz.sizeOf51 p.1 rfl p.2.1 b11,D1 fun e s p=>zK (k:=2) (o:=(i3.toNat*10)) (off:=5) Tryz.underlying51 rfl rfl Tryz.sizeOf49 p.1,D1 fun e s p=>zAO (m:=5) (s:=1) (i:=i4) (k:=2) (o:=(i3.toNat*10+5)) Tryz.underlying49 Tryz.sizeOf22 p.1 p.2.1 b12,D1 fun e s p=>zA1 (f:=zO) (l:=l9) (i:=i3) (c:=5+i4.toNat) (a:=(ls cI (((at_ l9 i3).free).getD i4.toNat ([]:List Int)))) Tryz.isAgg22 p.1 rfl (by first | rfl | omega) b11 (zSS (n:=5) (g:=(eS cI)) (d:=([]:List Int)) (l:=(at_ l9 i3).free) (i:=i4.toNat) (zBS b12).2 ([(li ((at_ l9 i3).node))]++[(li ((at_ l9 i3).kind))]++[(li ((at_ l9 i3).start))]++[(li ((at_ l9 i3).count))]++[(li ((at_ l9 i3).min))]++[]) ([])) rfl,?_,D1 fun e s p=>z5 (f:=zO) (l:=l9) (i:=i3) Tryz.underlying23 Tryz.sizeOf51 p.1 rfl p.2.1 b11,D1 fun e s p=>zK (k:=2) (o:=(i3.toNat*10)) (off:=5) Tryz.underlying51 rfl rfl Tryz.sizeOf49 p.1,D1 fun e s p=>zAO (m:=5) (s:=1) (i:=i4) (k:=2) (o:=(i3.toNat*10+5)) Tryz.underlying49 Tryz.sizeOf22 p.1 p.2.2.2.2.2.1 b12,?_,trivial⟩ ?_
     ·
      intro e37 s37 p36
      refine zA7 (r':=(ls cI x6)) (la:=[(ls cI (((at_ l9 i3).free).getD i4.toNat ([]:List Int)))]) (la':=[(ls cI (((at_ l9 i3).free).getD i4.toNat ([]:List Int)))]) (r:=(AV.osl 3 1 (List.map cI x6))) (S:=[]) Tryz.func80 rfl (by kernel_rfl) (.fn 80) (zAN p36.1 rfl) ⟨zAx.nr rfl,trivial⟩ (zAS w6) (.inl rfl) (congrArg (AV.sl false) (zAK (fun _=>rfl))) ?_
      exact zF ⟨fun _=>rfl,rfl⟩
     ·
      intro e41 s41 p40
      refine zi (H':=[.box 26 [AV.osl 3 1 (List.map cI x1),li A.batch,li A.high,AV.hd 2,AV.osl 55 1 (List.map zG x3)],.box 26 (zI ⟨[],0,0,[],[]⟩),.vec 51 10 (List.map zO (l9.set i3.toNat ({ at_ l9 i3 with free:=zEc 5 ([]:List Int) ((at_ l9 i3).free) i4.toNat x6 })))]) (zBq (k:=2) (o:=(i3.toNat*10+5+i4.toNat*1)) (f:=zO) (l:=l9) (i:=i3) (c:=5+i4.toNat) (a:=(ls cI x6)) (z:={ at_ l9 i3 with free:=zEc 5 ([]:List Int) ((at_ l9 i3).free) i4.toNat x6 }) Tryz.sizeOf22 (by exact p40.1) rfl (by first | rfl | omega) b11 (zVc b12 rfl) (by exact p40.2.2.2.2.2.2.2.2.2.2.2.2.2.2.2.1) rfl rfl (zTU (n:=5) (g:=(eS cI)) (d:=([]:List Int)) (l:=(at_ l9 i3).free) (i:=i4.toNat) (x:=x6) (zBS b12).2 ([(li ((at_ l9 i3).node))]++[(li ((at_ l9 i3).kind))]++[(li ((at_ l9 i3).start))]++[(li ((at_ l9 i3).count))]++[(li ((at_ l9 i3).min))]++[]) ([]))) ?_
      exact zF ⟨fun _=>rfl,rfl⟩
     intro e42 s42 hq2
     refine zAT (zBL (l:=[(1,(AV.ptr 0 0)),(2,(AV.ptr 1 0)),(3,(li i3)),(22,(li (x2.length:Int))),(23,(li i3)),(26,(li i4))]) ⟨s42 1 rfl,s42 2 rfl,s42 3 rfl,s42 22 rfl,s42 23 rfl,s42 26 rfl,trivial⟩)<|zC<|zM h fun b13 h=>zA (ze (a:=i4) (b:=1) rfl rfl b13)<|zA (zB (av:=(li (i4+1))) rfl)<|zF ?_
     exact ⟨((i4+1),(l9.set i3.toNat ({ at_ l9 i3 with free:=zEc 5 ([]:List Int) ((at_ l9 i3).free) i4.toNat x6 }))),Rep.trans (zAA (k:=0) (j:=2) (o:=3) rfl rfl rfl rfl) (z8 [0,1] (l:=[(1,(AV.ptr 0 0)),(2,(AV.ptr 1 0)),(3,(li i3)),(22,(li (x2.length:Int))),(23,(li i3)),(26,(li (i4+1)))]) rfl rfl (by kernel_rfl)),h⟩
    refine zx ?_
    exact ⟨l9,z8 [0,1] rfl rfl (by kernel_rfl),h⟩
   clear h
   intro l8 h
   unfold zFZ at h
   refine zC<|zM h fun b9 h=>zA (ze rfl rfl b9)<|zA (zB rfl)<|zF ?_
   exact ⟨((i3+1),l8),z8 [0,1] rfl rfl (by kernel_rfl),h⟩
  refine zx ?_
  exact ⟨l7,z8 [0,1] rfl rfl (by kernel_rfl),h⟩
 clear h
 intro l1 h
 unfold zFf at h
 refine zu (r:=r) (fun (l2:List zL)=>mkE [(1,(AV.ptr 0 0)),(2,(AV.ptr 1 0))]) (fun l2=>[.box 26 [AV.osl 3 1 (List.map cI x1),li A.batch,li A.high,AV.osl 51 10 (List.map zO l1),AV.osl 55 1 (List.map zG l2)],.box 26 (zI ⟨[],0,0,[],[]⟩)]) (fun l2=>zHe A x1 l1 l2) ?_ ?_
 ·
  refine zH<|zC<|zA (zK Tryz.underlying26 rfl rfl Tryz.sizeOf24 rfl)<|zAC (zAo (k:=0) (o:=4) (t':=55) (sz:=1) (rows:=List.map zG x3) rfl rfl)<|zA (zN Tryz.isAgg24 rfl rfl rfl rfl)<|zA (zDf (f:=zG) (l:=x3) Tryz.underlying24 rfl rfl) ?_
  refine zA (zB rfl)<|zF<|zQ<|zq (σ:=Int×(List zL)) (fun (i1,l3)=>mkE [(1,(AV.ptr 0 0)),(2,(AV.ptr 1 0)),(49,(li (x3.length:Int))),(50,(li i1))]) (fun (i1,l3)=>[.box 26 [AV.osl 3 1 (List.map cI x1),li A.batch,li A.high,AV.osl 51 10 (List.map zO l1),AV.osl 55 1 (List.map zG l3)],.box 26 (zI ⟨[],0,0,[],[]⟩)]) (fun n0 (i1,l3)=>zBC A x1 x3 l1 n0 i1 l3) (0,x3) h (fun _=>rfl) (Rep.trans (zAA (k:=0) (j:=2) (o:=4) rfl rfl rfl rfl) (z8 [0,1] (l:=[(1,(AV.ptr 0 0)),(2,(AV.ptr 1 0)),(49,(li (x3.length:Int))),(50,(li 0))]) rfl rfl (by kernel_rfl))) ?_
  clear h
  rintro n0 ⟨i1,l3⟩ h
  replace h:zB7 A x1 x3 l1 (zBC A x1 x3 l1 n0) i1 l3=some r:=h
  unfold zB7 at h
  refine zH<|zC<|zA (zf rfl rfl)<|zF<|zH ?_
  refine zY h rfl (fun b1 h => ?_) (fun b1 h => ?_)
  ·refine zP ?_
   refine zu (r:=r) (fun (l4:List zL)=>mkE [(1,(AV.ptr 0 0)),(2,(AV.ptr 1 0)),(49,(li (x3.length:Int))),(50,(li i1))]) (fun l4=>[.box 26 [AV.osl 3 1 (List.map cI x1),li A.batch,li A.high,AV.osl 51 10 (List.map zO l1),AV.osl 55 1 (List.map zG l4)],.box 26 (zI ⟨[],0,0,[],[]⟩)]) (fun l4=>zFd (zBC A x1 x3 l1 n0) i1 l4) ?_ ?_
   ·
    refine zQ<|zH<|zC<|zA (zB rfl)<|zA (zD rfl)<|zF ?_
    refine zH<|zC<|zA (zK Tryz.underlying26 rfl rfl Tryz.sizeOf24 rfl)<|zAC (zAo (k:=0) (o:=4) (t':=55) (sz:=1) (rows:=List.map zG l3) rfl rfl)<|zA (zN Tryz.isAgg24 rfl rfl rfl rfl)<|zA (zB rfl) ?_
    refine zM h fun b3 h=>zA (z5 (f:=zG) (l:=l3) (i:=i1) Tryz.underlying24 Tryz.sizeOf55 rfl rfl rfl b3)<|zA (zK Tryz.underlying55 rfl rfl Tryz.sizeOf53 rfl)<|zA (zA1 (f:=zG) (l:=l3) (i:=i1) (c:=0) (a:=(ls (cS cI) ((at_ l3 i1).lists))) Tryz.isAgg53 rfl rfl (by first | rfl | omega) b3 rfl rfl)<|zR h fun x4 w4 h=>zHd (T:=22) (sz:=1) (rows:=List.map (cS cI) x4) (la:=[(ls (cS cI) ((at_ l3 i1).lists))]) (la':=[(ls (cS cI) ((at_ l3 i1).lists))]) (S:=[]) Tryz.func108 rfl (by kernel_rfl) (.fn 108) rfl ⟨zAx.nr rfl,trivial⟩ (zJ3 w4) (.inl rfl) ?_
    refine zA (zD rfl)<|zF ?_
    refine zu (r:=r) (fun (l5:List (List Int))=>mkE [(1,(AV.ptr 0 0)),(2,(AV.ptr 1 0)),(5,(li i1)),(6,(AV.hd 2)),(49,(li (x3.length:Int))),(50,(li i1))]) (fun l5=>[.box 26 [AV.osl 3 1 (List.map cI x1),li A.batch,li A.high,AV.osl 51 10 (List.map zO l1),AV.osl 55 1 (List.map zG l3)],.box 26 (zI ⟨[],0,0,[],[]⟩),.vec 22 1 (List.map (cS cI) l5)]) (fun l5=>zFj (zBC A x1 x3 l1 n0) i1 l3 l5) ?_ ?_
    ·
     refine zH<|zC<|zA (zB rfl)<|zA (zDf (f:=(cS cI)) (l:=x4) Tryz.underlying53 rfl rfl)<|zA (zB rfl)<|zF ?_
     refine zQ<|zq (σ:=Int×(List (List Int))) (fun (i2,l6)=>mkE [(1,(AV.ptr 0 0)),(2,(AV.ptr 1 0)),(5,(li i1)),(6,(AV.hd 2)),(49,(li (x3.length:Int))),(50,(li i1)),(61,(li (x4.length:Int))),(62,(li i2))]) (fun (i2,l6)=>[.box 26 [AV.osl 3 1 (List.map cI x1),li A.batch,li A.high,AV.osl 51 10 (List.map zO l1),AV.osl 55 1 (List.map zG l3)],.box 26 (zI ⟨[],0,0,[],[]⟩),.vec 22 1 (List.map (cS cI) l6)]) (fun n1 (i2,l6)=>zDu (zBC A x1 x3 l1 n0) i1 l3 x4 n1 i2 l6) (0,x4) h (fun _=>rfl) (Rep.trans (zAA (k:=0) (j:=2) (o:=4) rfl rfl rfl rfl) (z8 [0,1,3] (l:=[(1,(AV.ptr 0 0)),(2,(AV.ptr 1 0)),(5,(li i1)),(6,(AV.hd 2)),(49,(li (x3.length:Int))),(50,(li i1)),(61,(li (x4.length:Int))),(62,(li 0))]) rfl rfl (by kernel_rfl))) ?_
     clear h
     rintro n1 ⟨i2,l6⟩ h
     replace h:zB6 (zBC A x1 x3 l1 n0) i1 l3 x4 (zDu (zBC A x1 x3 l1 n0) i1 l3 x4 n1) i2 l6=some r:=h
     unfold zB6 at h
     refine zH<|zC<|zA (zf rfl rfl)<|zF<|zH ?_
     refine zY h rfl (fun b5 h => ?_) (fun b5 h => ?_)
     ·refine zP<|zH<|zQ<|zH<|zC<|zA (zB rfl) ?_
      refine zA (zD rfl)<|zF<|zC<|zA (zB rfl)<|zA (zB rfl)<|zA (zB rfl) ?_
      refine zA (zB rfl)<|zM h fun b6 h=>zA (z5 (f:=(cS cI)) (l:=l6) (i:=i2) Tryz.underlying53 Tryz.sizeOf22 rfl rfl rfl b6)<|zA (zA1 (f:=(cS cI)) (l:=l6) (i:=i2) (c:=0) (a:=(ls cI (at_ l6 i2))) Tryz.isAgg22 rfl rfl (by first | rfl | omega) b6 rfl rfl)<|zR h fun x5 w5 h=>zHd (T:=3) (sz:=1) (rows:=List.map cI x5) (la:=[(ls cI (at_ l6 i2))]) (la':=[(ls cI (at_ l6 i2))]) (S:=[]) Tryz.func80 rfl (by kernel_rfl) (.fn 80) rfl ⟨zAx.nr rfl,trivial⟩ (zAS w5) (.inl rfl) ?_
      refine zA (z5 (f:=(cS cI)) (l:=l6) (i:=i2) Tryz.underlying53 Tryz.sizeOf22 rfl rfl rfl b6)<|zi (H':=[.box 26 [AV.osl 3 1 (List.map cI x1),li A.batch,li A.high,AV.osl 51 10 (List.map zO l1),AV.osl 55 1 (List.map zG l3)],.box 26 (zI ⟨[],0,0,[],[]⟩),.vopen 22 1 (List.map (cS cI) l6) i2.toNat [.hd 3],.vec 3 1 (List.map cI x5)]) (zN1 (k:=2) (j:=3) (i:=i2.toNat) Tryz.sizeOf22 rfl rfl rfl (by rw [List.length_map]; exact (zBS b6).2) rfl rfl)<|zF<|zC<|zM h fun b7 h=>zA (ze rfl rfl b7) ?_
      refine zA (zB rfl)<|zF ?_
      exact ⟨((i2+1),(l6.set i2.toNat x5)),Rep.trans (zNX (k:=2) (j:=3) (f:=cI) (l:=l6) (l':=x5) (fun _=>rfl) rfl rfl rfl) (z8 [0,1,2] (l:=[(1,(AV.ptr 0 0)),(2,(AV.ptr 1 0)),(5,(li i1)),(6,(AV.hd 2)),(49,(li (x3.length:Int))),(50,(li i1)),(61,(li (x4.length:Int))),(62,(li (i2+1)))]) rfl rfl (by kernel_rfl)),h⟩
     refine zx ?_
     exact ⟨l6,z8 [0,1,2] rfl rfl (by kernel_rfl),h⟩
    clear h
    intro l5 h
    unfold zFj at h
    refine zC<|zA (zK Tryz.underlying26 rfl rfl Tryz.sizeOf24 rfl)<|zAC (zAo (k:=0) (o:=4) (t':=55) (sz:=1) (rows:=List.map zG l3) rfl rfl)<|zA (zN Tryz.isAgg24 rfl rfl rfl rfl)<|zA (zB rfl)<|zA (zB rfl) ?_
    refine zM h fun b4 h=>zA (z5 (f:=zG) (l:=l3) (i:=i1) Tryz.underlying24 Tryz.sizeOf55 rfl rfl rfl b4)<|zA (zK Tryz.underlying55 rfl rfl Tryz.sizeOf53 rfl)<|zAC (zDc (j:=2) (ds:=[6,77]) (rows':=List.map (cS cI) l5) rfl (zAK (fun _=>rfl)) ⟨rfl,rfl,trivial⟩)<|zi (H':=[.box 26 [AV.osl 3 1 (List.map cI x1),li A.batch,li A.high,AV.osl 51 10 (List.map zO l1),AV.hd 3],.box 26 (zI ⟨[],0,0,[],[]⟩),.dead,.vec 55 1 (List.map zG (l3.set i1.toNat ({ at_ l3 i1 with lists:=l5 })))]) (zBq (k:=3) (o:=(i1.toNat*1)) (f:=zG) (l:=l3) (i:=i1) (c:=0) (a:=(ls (cS cI) l5)) (z:={ at_ l3 i1 with lists:=l5 }) Tryz.sizeOf53 rfl rfl (by first | rfl | omega) b4 rfl rfl rfl rfl rfl)<|zF ?_
    exact ⟨(l3.set i1.toNat ({ at_ l3 i1 with lists:=l5 })),Rep.trans (zAA (k:=0) (j:=3) (o:=4) rfl rfl rfl rfl) (z8 [0,1] (l:=[(1,(AV.ptr 0 0)),(2,(AV.ptr 1 0)),(49,(li (x3.length:Int))),(50,(li i1))]) rfl rfl (by kernel_rfl)),h⟩
   clear h
   intro l4 h
   unfold zFd at h
   refine zC<|zM h fun b2 h=>zA (ze rfl rfl b2)<|zA (zB rfl)<|zF ?_
   exact ⟨((i1+1),l4),z8 [0,1] rfl rfl (by kernel_rfl),h⟩
  refine zx ?_
  exact ⟨l3,z8 [0,1] rfl rfl (by kernel_rfl),h⟩
 clear h
 intro l2 h
 unfold zHe at h
 refine zH<|zC<|zAC (zBl (k:=0) (o:=0) (rows':=List.map cI x1) rfl rfl (zAK (fun _=>rfl)))<|za (zKP (k:=0) (cs:=[ls cI x1,li A.batch,li A.high,AV.osl 51 10 (List.map zO l1),AV.osl 55 1 (List.map zG l2)]) (m:=5) Tryz.isAgg26 Tryz.sizeOf26 rfl rfl rfl)<|zi (H':=[.dead,.box 26 [ls cI x1,li A.batch,li A.high,AV.osl 51 10 (List.map zO l1),AV.osl 55 1 (List.map zG l2)],.dead]) (zCL (k:=1) (o:=0) (j:=2) (cs:=(zI ⟨[],0,0,[],[]⟩)) (la:=[ls cI x1,li A.batch,li A.high,AV.osl 51 10 (List.map zO l1),AV.osl 55 1 (List.map zG l2)]) Tryz.sizeOf26 rfl rfl rfl rfl rfl (by decide))<|zF ?_
 refine zb ?_
 cases h
 exact zt (zFc Tryz.isAgg26 Tryz.sizeOf26 rfl rfl rfl rfl)
theorem zLc {C:zj} {r:zj} (h:zJR C=some r):PFn Tryz.prog 118 [(AV.agg (zO C))] (AV.agg ([li r.node]++([li r.kind]++([li r.start]++([li r.count]++([li r.min]++((cM 5 3 (5:Int) r.free)++[]))))))):=by
 refine zo Tryz.func118 rfl Tryz.ntmps118 Tryz.results118 rfl ?_
 unfold zJR at h
 refine zH<|zC<|za (H':=[.box 51 (zO C)]) (zv (t:=51) rfl)<|za (H':=[.box 51 (zO C),.box 51 (zO ⟨0,0,0,0,0,(List.replicate 5 ([]:List Int))⟩)]) zv0<|zF ?_
 refine zu (r:=r) (fun ((l1,i1):(List (List Int))×Int)=>mkE [(1,(AV.ptr 0 0)),(2,(AV.ptr 1 0))]) (fun (l1,i1)=>[.box 51 ([li C.node,li C.kind,li C.start,li C.count,li C.min]++((cM 5 3 i1 l1)++[])),.box 51 (zO ⟨0,0,0,0,0,(List.replicate 5 ([]:List Int))⟩)]) (fun (l1,i1)=>zIB C l1 i1) ?_ ?_
 ·
  refine zH<|zC<|zA (zB rfl)<|zF<|zQ<|zq (σ:=Int×(List (List Int))) (fun (i2,l2)=>mkE [(1,(AV.ptr 0 0)),(2,(AV.ptr 1 0)),(4,(li i2))]) (fun (i2,l2)=>[.box 51 ([li C.node,li C.kind,li C.start,li C.count,li C.min]++((cM 5 3 i2 l2)++[])),.box 51 (zO ⟨0,0,0,0,0,(List.replicate 5 ([]:List Int))⟩)]) (fun n0 (i2,l2)=>zGn C n0 i2 l2) (0,C.free) h (fun _=>rfl) (z8 [0,1] rfl rfl (by kernel_rfl)) ?_
  clear h
  rintro n0 ⟨i2,l2⟩ h
  replace h:zEX C (zGn C n0) i2 l2=some r:=h
  unfold zEX at h
  refine zH<|zC<|zA (zf rfl rfl)<|zF<|zH ?_
  refine zY h rfl (fun b2 h => ?_) (fun b2 h => ?_)
  ·refine zP<|zH<|zQ<|zH<|zC<|zA (zB rfl) ?_
   refine zA (zD rfl)<|zF<|zC<|zA (zB rfl)<|zA (zB rfl)<|zA (zK Tryz.underlying51 rfl rfl Tryz.sizeOf49 rfl) ?_
   refine zM h fun b3 h=>zA (zAO (m:=5) (s:=1) (i:=i2) (k:=0) (o:=5) Tryz.underlying49 Tryz.sizeOf22 rfl rfl b3)<|zA (zQd (k:=0) (o:=(5+i2.toNat*1)) (cs:=([li C.node,li C.kind,li C.start,li C.count,li C.min]++((cM 5 3 i2 l2)++[]))) (hd:=([li C.node]++[li C.kind]++[li C.start]++[li C.count]++[li C.min]++[])) (tl:=([])) (N:=5) (T':=3) (K:=i2) (l:=l2) (i:=i2) Tryz.isAgg22 rfl rfl rfl (congrArg (fun q=>5+q) (Nat.mul_one _)) b3 (decide_eq_true (Int.le_refl _)))<|zR h fun x1 w1 h=>zHd (T:=3) (sz:=1) (rows:=List.map cI x1) (la:=[(ls cI (l2.getD i2.toNat []))]) (la':=[(ls cI (l2.getD i2.toNat []))]) (S:=[]) Tryz.func80 rfl (by kernel_rfl) (.fn 80) rfl ⟨zAx.nr rfl,trivial⟩ (zAS w1) (.inl rfl)<|zA (zK Tryz.underlying51 rfl rfl Tryz.sizeOf49 rfl) ?_
   refine zA (zAO (m:=5) (s:=1) (i:=i2) (k:=0) (o:=5) Tryz.underlying49 Tryz.sizeOf22 rfl rfl b3)<|zi (H':=[.box 51 ([li C.node,li C.kind,li C.start,li C.count,li C.min]++((List.set (cM 5 3 i2 l2) i2.toNat (AV.hd 2))++[])),.box 51 (zO ⟨0,0,0,0,0,(List.replicate 5 ([]:List Int))⟩),.vec 3 1 (List.map cI x1)]) (zNq (k:=0) (o:=(5+i2.toNat*1)) (cs:=([li C.node,li C.kind,li C.start,li C.count,li C.min]++((cM 5 3 i2 l2)++[]))) (hd:=([li C.node]++[li C.kind]++[li C.start]++[li C.count]++[li C.min]++[])) (tl:=([])) (s:=(cM 5 3 i2 l2)) (i:=i2) (a:=(AV.hd 2)) Tryz.sizeOf22 rfl rfl rfl (congrArg (fun q=>5+q) (Nat.mul_one _)) (zI1 b3) rfl rfl)<|zF<|zC<|zM h fun b4 h=>zA (ze rfl rfl b4) ?_
   refine zA (zB rfl)<|zF ?_
   exact ⟨((i2+1),(zEc 5 [] l2 i2.toNat x1)),Rep.trans (zQv (K':=i2+1) (j:=2) (l':=x1) (k:=0) (cs:=([li C.node,li C.kind,li C.start,li C.count,li C.min]++((List.set (cM 5 3 i2 l2) i2.toNat (AV.hd 2))++[]))) (hd:=([li C.node]++[li C.kind]++[li C.start]++[li C.count]++[li C.min]++[])) (tl:=([])) (N:=5) (T:=3) (K:=i2) (l:=l2) (i:=i2) rfl rfl b3 (decide_eq_true rfl) rfl rfl rfl) (zBz (n:=17) (m:=0) [0,1] (l:=[(1,(AV.ptr 0 0)),(2,(AV.ptr 1 0)),(4,(li (i2+1)))]) ⟨⟨Sub.refl _,by kernel_rfl⟩,⟨Sub.refl _,by kernel_rfl⟩,⟨Sub.refl _,by kernel_rfl⟩,trivial⟩ rfl rfl ⟨⟨rfl,zTQ (hd:=([li C.node]++[li C.kind]++[li C.start]++[li C.count]++[li C.min]++[])) (tl:=([])) (N:=5) (T:=3) (K:=i2+1) (l:=zEc 5 [] l2 i2.toNat x1) (by kernel_rfl) (by kernel_rfl) rfl⟩,⟨rfl,by kernel_rfl⟩,trivial⟩),h⟩
  refine zx ?_
  exact ⟨(l2,i2),zBz (n:=17) (m:=0) [0,1] (l:=[(1,(AV.ptr 0 0)),(2,(AV.ptr 1 0))]) ⟨⟨Sub.refl _,by kernel_rfl⟩,⟨Sub.refl _,by kernel_rfl⟩,trivial⟩ rfl rfl ⟨⟨rfl,zTQ (hd:=([li C.node]++[li C.kind]++[li C.start]++[li C.count]++[li C.min]++[])) (tl:=([])) (N:=5) (T:=3) (K:=i2) (l:=l2) (by kernel_rfl) (by kernel_rfl) rfl⟩,⟨rfl,by kernel_rfl⟩,trivial⟩,h⟩
 clear h
 rintro ⟨l1,i1⟩ h
 unfold zIB at h
 refine zH<|zC<|zM h fun b1 h=>zAC (zSd (k:=0) (cs:=([li C.node,li C.kind,li C.start,li C.count,li C.min]++((cM 5 3 i1 l1)++[]))) (hd:=([li C.node]++[li C.kind]++[li C.start]++[li C.count]++[li C.min]++[])) (tl:=([])) (N:=5) (T:=3) (K:=i1) (l:=l1) rfl rfl b1)<|za (zKP (k:=0) (cs:=([li C.node,li C.kind,li C.start,li C.count,li C.min]++((cM 5 3 (5:Int) l1)++[]))) (m:=10) Tryz.isAgg51 Tryz.sizeOf51 rfl rfl rfl)<|zi (H':=[.dead,.box 51 ([li C.node,li C.kind,li C.start,li C.count,li C.min]++((cM 5 3 (5:Int) l1)++[])),.dead]) (zCL (k:=1) (o:=0) (j:=2) (cs:=(zO ⟨0,0,0,0,0,(List.replicate 5 ([]:List Int))⟩)) (la:=([li C.node,li C.kind,li C.start,li C.count,li C.min]++((cM 5 3 (5:Int) l1)++[]))) Tryz.sizeOf51 rfl rfl rfl rfl rfl (by decide)) ?_
 refine zF<|zb ?_
 cases h
 exact zt (zFc Tryz.isAgg51 Tryz.sizeOf51 rfl rfl rfl rfl)
end Go.Proofs.YtplkliakhdkpcaaGreat
