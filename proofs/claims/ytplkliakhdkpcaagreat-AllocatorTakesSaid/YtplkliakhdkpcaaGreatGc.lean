/-
  Rules, functions and laws for the last text, part c.
-/
import Derived.Test.YtplkliakhdkpcaaGreatGb
set_option linter.unusedVariables false
set_option linter.unusedSimpArgs false
namespace Go.Proofs.YtplkliakhdkpcaaGreat
open Go Go.RowKit Go.Wk Go.Am Go.Proofs
set_option maxHeartbeats 4000000
theorem zGA:zLn Tryz.prog 3 1 (.int .i64 0) 8:=zLn.of (by kernel_rfl) rfl (by decide) (by decide)
theorem zOv:zLn Tryz.prog 22 1 (.slice none 0 0) 24:=zLn.of (by kernel_rfl) rfl (by decide) (by decide)
theorem zOk:zLn Tryz.prog 51 10 (.agg #[.int .i64 0,.int .i64 0,.int .i64 0,.int .i64 0,.int .i64 0,.slice none 0 0,.slice none 0 0,.slice none 0 0,.slice none 0 0,.slice none 0 0]) 160:=zLn.of (by kernel_rfl) rfl (by decide) (by decide)
theorem zO0:zLn Tryz.prog 55 1 (.agg #[.slice none 0 0]) 24:=zLn.of (by kernel_rfl) rfl (by decide) (by decide)
theorem zWk:zLn Tryz.prog 46 4 (.agg #[.int .i64 0,.int .i64 0,.int .i64 0,.int .i64 0]) 32:=zLn.of (by kernel_rfl) rfl (by decide) (by decide)
theorem zW3:zLn Tryz.prog 4 1 (.bool false) 1:=zLn.of (by kernel_rfl) rfl (by decide) (by decide)
theorem zAX {W:List Int} {r:List Int} (h:zA0 W=some r):PFn Tryz.prog 80 [ls cI W] (AV.osl 3 1 (List.map cI r)):=by
  refine zm Tryz.func80 rfl Tryz.ntmps80 Tryz.results80 rfl ?_
  unfold zA0 at h
  refine zM h fun b1 h => ?_
  obtain rfl:=Option.some.inj h
  refine zH<|zC<|zA (a:=(.lit (.slice none 0 0))) (zD rfl)<|zF<|zH<|zH ?_
  refine zC<|zA (a:=(ls cI W)) (zB rfl) ?_
  refine zMO (full:=false) (rows:=List.map cI W) Tryz.underlying22 rfl (fun b hb => ?_)
  refine zF ?_
  refine zOA b rfl (fun hbt => ?_) (fun hbt => ?_)
  · obtain rfl:W=[]:=List.map_eq_nil_iff.1 (hb hbt)
    refine zH<|zC<|zA (a:=(.lit (.slice none 0 0))) (zD rfl)<|zF<|zb ?_
    exact zv (zKr (zAI rfl rfl) zAx.nilo)
  · refine zQ ?_
    refine zH<|zC<|zNZ zGA Tryz.underlying22<|zA (a:=(ls cI W)) (zB rfl)<|zFn (f:=cI) (k:=0) (l:=[]) (l':=W) zGA (fun _=>rfl) Tryz.underlying22 rfl rfl rfl b1<|zA (a:=(.hd 1)) (zD rfl) ?_
    refine zF<|zb ?_
    exact zv (zWV (rows:=List.map cI ([]++W)) rfl rfl)
theorem zFV {W : List Int} {uC : Int → Option Bool} {g_a_f : FuncId} {cf_a_f : Func} {code_a_f : Code} {caps_a_f : List AV} (hcf_a_f : Tryz.prog.funcs[g_a_f]? = some cf_a_f) (hcb_a_f : cf_a_f.body = some code_a_f) (hcn_a_f : (cf_a_f.name == "runtime.NumGoroutine") = false) (hnr_a_f : caps_a_f.all nr = true) (hg_a_f : ∀ {x0 : Int} {y : Bool}, uC x0 = some y → PFn Tryz.prog g_a_f ((li x0) :: caps_a_f) (AV.lit (.bool y))) {r : Int} (h : zBN W uC = some r) : PFn Tryz.prog 129 [(ls cI W), (AV.clo g_a_f caps_a_f)] (li r) := by
 refine zm Tryz.func129 rfl Tryz.ntmps129 Tryz.results129 rfl ?_
 unfold zBN at h
 refine zH<|zC<|zA (zD rfl)<|zF ?_
 refine zx (r:=r) (fun (_:Unit)=>mkE []) (fun _=>[]) (fun _=>zDB ) ?_ ?_
 ·
  refine zH<|zC<|zA (zB rfl)<|zA (zY Tryz.underlying22 rfl)<|zA (zB rfl)<|zF ?_
  refine zR<|zt (σ:=Int) (fun i1=>mkE [(0,(ls cI W)),(1,(AV.clo g_a_f caps_a_f)),(7,(li (W.length:Int))),(8,(li i1))]) (fun i1=>[]) (fun n0 i1=>zAH W uC n0 i1) 0 h (fun _=>rfl) (zBV (n:=19) (m:=0) [] (l:=[(0,(ls cI W)),(1,(AV.clo g_a_f caps_a_f)),(7,(li (W.length:Int))),(8,(li 0))]) ⟨⟨Sub.refl _,by kernel_rfl⟩,⟨zDb hnr_a_f,zDa hnr_a_f⟩,⟨Sub.refl _,by kernel_rfl⟩,⟨Sub.refl _,by kernel_rfl⟩,trivial⟩ rfl rfl trivial) ?_
  clear h
  intro n0 i1 h
  replace h:zAU W uC (zAH W uC n0) i1=some r:=h
  unfold zAU at h
  refine zH<|zC<|zA (zh rfl rfl)<|zF<|zH ?_
  refine zW h rfl (fun b1 h => ?_) (fun b1 h => ?_)
  ·refine zQ<|zH<|zR<|zH<|zC<|zA (zB rfl) ?_
   refine zA (zD rfl)<|zF<|zH<|zC<|zA (zB rfl)<|zA (zB rfl) ?_
   refine zA (zB rfl)<|zM h fun b2 h=>zA (zV Tryz.underlying22 Tryz.sizeOf3 (fun _=>rfl) rfl rfl b2)<|zA (zU (o:=0) Tryz.isAgg3 rfl rfl)<|zP h fun x1 w1 h=>zAq (S:=[]) hcf_a_f hcb_a_f hcn_a_f (.clo (caps:=caps_a_f) rfl) rfl (zDY.c (zAl.nr rfl) (zDY.nrs hnr_a_f)) (hg_a_f w1) (.inl rfl) rfl ?_
   refine zF ?_
   refine zW h rfl (fun b3 h => ?_) (fun b3 h => ?_)
   ·refine zH<|zC<|zA (zB rfl)<|zA (zD rfl)<|zF<|zb ?_
    cases h
    exact zv (zAI rfl rfl)
   refine zQ<|zC<|zM h fun b4 h=>zA (zg rfl rfl b4)<|zA (zB rfl)<|zF ?_
   exact ⟨(i1+1),zBV (n:=19) (m:=0) [] (l:=[(0,(ls cI W)),(1,(AV.clo g_a_f caps_a_f)),(7,(li (W.length:Int))),(8,(li (i1+1)))]) ⟨⟨Sub.refl _,by kernel_rfl⟩,⟨zDb hnr_a_f,zDa hnr_a_f⟩,⟨Sub.refl _,by kernel_rfl⟩,⟨Sub.refl _,by kernel_rfl⟩,trivial⟩ rfl rfl trivial,h⟩
  refine zz ?_
  exact ⟨(),zAD [] rfl rfl (by kernel_rfl),h⟩
 clear h
 intro _ h
 unfold zDB at h
 refine zH<|zC<|zA (zD rfl)<|zF<|zb ?_
 cases h
 exact zv (zAI rfl rfl)
theorem zHx {W : List Int} {uC : Int → Option Bool} {g_a_f : FuncId} {cf_a_f : Func} {code_a_f : Code} {caps_a_f : List AV} (hcf_a_f : Tryz.prog.funcs[g_a_f]? = some cf_a_f) (hcb_a_f : cf_a_f.body = some code_a_f) (hcn_a_f : (cf_a_f.name == "runtime.NumGoroutine") = false) (hnr_a_f : caps_a_f.all nr = true) (hg_a_f : ∀ {x0 : Int} {y : Bool}, uC x0 = some y → PFn Tryz.prog g_a_f ((li x0) :: caps_a_f) (AV.lit (.bool y))) {r : Bool} (h : zBx W uC = some r) : PFn Tryz.prog 83 [(ls cI W), (AV.clo g_a_f caps_a_f)] (AV.lit (.bool r)) := by
 refine zm Tryz.func83 rfl Tryz.ntmps83 Tryz.results83 rfl ?_
 unfold zBx at h
 refine zH<|zC<|zA (zD rfl)<|zF<|zH<|zC ?_
 refine zA (zB rfl)<|zA (zB rfl)<|zP h fun x1 w1 h=>zAq (r':=(li x1)) (la:=[ls cI W,AV.clo g_a_f caps_a_f]) (la':=[ls cI W,AV.clo g_a_f caps_a_f]) (r:=(li x1)) (S:=[]) Tryz.func129 rfl (by kernel_rfl) (.fn 129) rfl ⟨zAl.nr rfl,zAl.clo (zDY.nrs hnr_a_f),trivial⟩ (zFV hcf_a_f hcb_a_f hcn_a_f hnr_a_f hg_a_f w1) (.inl rfl) rfl<|zA (zAu rfl rfl)<|zA (zD rfl) ?_
 refine zF<|zb ?_
 cases h
 exact zv (zAI rfl rfl)
theorem zKw {uB:Int} {r:Bool} (h:zDQ uB=some r):PFn Tryz.prog 84 [li uB] (AV.lit (.bool r)):=by
 refine zm Tryz.func84 rfl Tryz.ntmps84 Tryz.results84 rfl ?_
 unfold zDQ at h
 refine zH<|zC<|zA (zD rfl)<|zF<|zH<|zC ?_
 refine zA (zB rfl)<|zA (zh rfl rfl)<|zA (zB rfl)<|zZ rfl rfl (fun c1=>zq.step (zB rfl))<|zZ rfl rfl (fun c2=>zq.step (zAu (z8 rfl c2) rfl))<|zA (zj rfl rfl) ?_
 refine zA (zD rfl)<|zF<|zb ?_
 cases h
 exact zv (zAI rfl rfl)
theorem zIo {B:zJ} {r:Bool} (h:zDH B=some r):PFn Tryz.prog 41 [(AV.agg (zG B))] (AV.lit (.bool r)):=by
 refine zm Tryz.func41 rfl Tryz.ntmps41 Tryz.results41 rfl ?_
 unfold zDH at h
 refine zH<|zC<|zX (H':=[.box 26 (zG B)]) (zu (t:=26) rfl)<|zA (zD rfl)<|zF<|zH ?_
 refine zH<|zC<|zA (zK Tryz.underlying26 rfl rfl Tryz.sizeOf22 rfl)<|zA (zN Tryz.isAgg22 rfl rfl rfl rfl)<|zA (zY Tryz.underlying22 rfl)<|zA (zh rfl rfl) ?_
 refine zA (zB rfl)<|zZ rfl rfl (fun c1=>zq.step (zK Tryz.underlying26 rfl rfl Tryz.sizeOf22 rfl))<|zZ rfl rfl (fun c2=>zq.step (zN Tryz.isAgg22 (z8 rfl c2) rfl rfl rfl))<|zZ rfl rfl (fun c3=>zq.step (zY Tryz.underlying22 (z8 rfl c3)))<|zZ rfl rfl (fun c4=>zq.step (zAo (z8 rfl c4) rfl))<|zA (zj rfl rfl) ?_
 refine zA (zB rfl)<|zZ rfl rfl (fun c5=>zq.step (zK Tryz.underlying26 rfl rfl Tryz.sizeOf3 rfl))<|zZ rfl rfl (fun c6=>zq.step (zN Tryz.isAgg3 (z8 rfl c6) rfl rfl rfl))<|zZ rfl rfl (fun c7=>zq.step (zAo (z8 rfl c7) rfl))<|zA (zj rfl rfl)<|zA (zB rfl) ?_
 refine zZ rfl rfl (fun c8=>zq.step (zK Tryz.underlying26 rfl rfl Tryz.sizeOf3 rfl))<|zZ rfl rfl (fun c9=>zq.step (zN Tryz.isAgg3 (z8 rfl c9) rfl rfl rfl))<|zZ rfl rfl (fun c10=>zq.step (zh (z8 rfl c10) rfl))<|zA (zj rfl rfl)<|zA (zB rfl)<|zZ rfl rfl (fun c11=>zq.step (zK Tryz.underlying26 rfl rfl Tryz.sizeOf3 rfl)) ?_
 refine zZ rfl rfl (fun c12=>zq.step (zN Tryz.isAgg3 (z8 rfl c12) rfl rfl rfl))<|zZ rfl rfl (fun c13=>zq.step (zK Tryz.underlying26 rfl rfl Tryz.sizeOf3 rfl))<|zZ rfl rfl (fun c14=>zq.step (zN Tryz.isAgg3 (z8 rfl c14) rfl rfl rfl))<|zZ rfl rfl (fun c15=>zq.step (zAo (z8 rfl c15) (z8 rfl c15)))<|zA (zj rfl rfl)<|zA (zB rfl) ?_
 refine zZ rfl rfl (fun c16=>zq.step (zK Tryz.underlying26 rfl rfl Tryz.sizeOf23 rfl))<|zZ rfl rfl (fun c17=>zq.step (zN Tryz.isAgg23 (z8 rfl c17) rfl rfl rfl))<|zZ rfl rfl (fun c18=>zq.step (zY Tryz.underlying23 (z8 rfl c18)))<|zZ rfl rfl (fun c19=>zq.step (zh (z8 rfl c19) rfl))<|zA (zj rfl rfl)<|zA (zB rfl) ?_
 refine zZ rfl rfl (fun c20=>zq.step (zK Tryz.underlying26 rfl rfl Tryz.sizeOf23 rfl))<|zZ rfl rfl (fun c21=>zq.step (zN Tryz.isAgg23 (z8 rfl c21) rfl rfl rfl))<|zZ rfl rfl (fun c22=>zq.step (zY Tryz.underlying23 (z8 rfl c22)))<|zZ rfl rfl (fun c23=>zq.step (zAo (z8 rfl c23) rfl))<|zA (zj rfl rfl)<|zF ?_
 refine zW h rfl (fun b1 h => ?_) (fun b1 h => ?_)
 ·refine zH<|zC<|zA (zD rfl)<|zF<|zb ?_
  cases h
  exact zv (zAI rfl rfl)
 refine zQ<|zH<|zC<|zA (zK Tryz.underlying26 rfl rfl Tryz.sizeOf22 rfl)<|zA (zN Tryz.isAgg22 rfl rfl rfl rfl)<|zP h fun x1 w1 h => ?_
 refine zAq (r':=(AV.lit (.bool x1))) (la:=[ls cI B.nodes,(AV.clo 84 [])]) (la':=[ls cI B.nodes,(AV.clo 84 [])]) (r:=(AV.lit (.bool x1))) (S:=[]) Tryz.func83 rfl (by kernel_rfl) (.fn 83) rfl ⟨zAl.nr rfl,zAl.clo trivial,trivial⟩ (zHx Tryz.func84 rfl (by kernel_rfl) rfl (fun hy=>zKw  hy) w1) (.inl rfl) rfl<|zA (zAv (t:=x1) rfl)<|zA (zD rfl)<|zF<|zb ?_
 cases h
 exact zv (zAI rfl rfl)
theorem zK7 {C:zi} {r:Bool} (h:zGs C=some r):PFn Tryz.prog 85 [(AV.agg ([li C.node]++([li C.kind]++([li C.start]++([li C.count]++([li C.min]++([AV.any,AV.any,AV.any,AV.any,AV.any]++[])))))))] (AV.lit (.bool r)):=by
 refine zm Tryz.func85 rfl Tryz.ntmps85 Tryz.results85 rfl ?_
 unfold zGs at h
 refine zH<|zC<|zX (H':=[.box 51 ([li C.node,li C.kind,li C.start,li C.count,li C.min]++([AV.any,AV.any,AV.any,AV.any,AV.any]++[]))]) (zu (t:=51) rfl)<|zA (zD rfl)<|zF<|zH ?_
 refine zC<|zA (zK Tryz.underlying51 rfl rfl Tryz.sizeOf3 rfl)<|zA (zN Tryz.isAgg3 rfl rfl rfl rfl)<|zA (zAu rfl rfl)<|zA (zB rfl)<|zo rfl rfl (fun c1=>zq.step (zK Tryz.underlying51 rfl rfl Tryz.sizeOf3 rfl)) ?_
 refine zo rfl rfl (fun c2=>zq.step (zN Tryz.isAgg3 (z8 rfl c2) rfl rfl rfl))<|zo rfl rfl (fun c3=>zq.step (zh (z8 rfl c3) rfl))<|zA (z6 (j := .lit undef) rfl rfl)<|zA (zB rfl)<|zo rfl rfl (fun c4=>zq.step (zK Tryz.underlying51 rfl rfl Tryz.sizeOf3 rfl))<|zo rfl rfl (fun c5=>zq.step (zN Tryz.isAgg3 (z8 rfl c5) rfl rfl rfl)) ?_
 refine zo rfl rfl (fun c6=>zq.step (zA8 (z8 rfl c6) rfl))<|zo rfl rfl (fun c7=>zq.step (zB (z8 rfl c7)))<|zKY (g:=15) (s':=(decide (0≤C.node))&&(decide (C.node<4))) (s:=decide (C.kind=0)) rfl rfl (fun c8=>zq.step (zK Tryz.underlying51 rfl rfl Tryz.sizeOf3 rfl))<|zKY (g:=15) (s':=(decide (0≤C.node))&&(decide (C.node<4))) (s:=decide (C.kind=0)) rfl rfl (fun c9=>zq.step (zN Tryz.isAgg3 (z8 rfl c9) rfl rfl rfl))<|zKY (g:=15) (s':=(decide (0≤C.node))&&(decide (C.node<4))) (s:=decide (C.kind=0)) rfl rfl (fun c10=>zq.step (zA8 (z8 rfl c10) rfl))<|zo rfl rfl (fun c11=>zq.step (zj (z8 rfl c11) (zQB (c:=(decide (0≤C.node))&&(decide (C.node<4))) (d := !(decide (C.kind=0))) (a:=(AV.lit (.bool (decide (C.kind=1))))) (j := .lit undef) rfl c11))) ?_
 refine zA (z6 (j := .lit undef) rfl rfl)<|zA (zB rfl)<|zo rfl rfl (fun c12=>zq.step (zK Tryz.underlying51 rfl rfl Tryz.sizeOf3 rfl))<|zo rfl rfl (fun c13=>zq.step (zN Tryz.isAgg3 (z8 rfl c13) rfl rfl rfl))<|zo rfl rfl (fun c14=>zq.step (zAu (z8 rfl c14) rfl))<|zA (z6 (j := .lit undef) rfl rfl) ?_
 refine zA (zB rfl)<|zo rfl rfl (fun c15=>zq.step (zK Tryz.underlying51 rfl rfl Tryz.sizeOf3 rfl))<|zo rfl rfl (fun c16=>zq.step (zN Tryz.isAgg3 (z8 rfl c16) rfl rfl rfl))<|zo rfl rfl (fun c17=>zq.step (zh (z8 rfl c17) rfl))<|zA (z6 (j := .lit undef) rfl rfl)<|zA (zB rfl) ?_
 refine zo rfl rfl (fun c18=>zq.step (zK Tryz.underlying51 rfl rfl Tryz.sizeOf3 rfl))<|zo rfl rfl (fun c19=>zq.step (zN Tryz.isAgg3 (z8 rfl c19) rfl rfl rfl))<|zo rfl rfl (fun c20=>zq.step (zAu (z8 rfl c20) rfl))<|zA (z6 (j := .lit undef) rfl rfl)<|zA (zB rfl)<|zo rfl rfl (fun c21=>zq.step (zK Tryz.underlying51 rfl rfl Tryz.sizeOf3 rfl)) ?_
 refine zo rfl rfl (fun c22=>zq.step (zN Tryz.isAgg3 (z8 rfl c22) rfl rfl rfl))<|zo rfl rfl (fun c23=>zq.step (zK Tryz.underlying51 rfl rfl Tryz.sizeOf3 rfl))<|zo rfl rfl (fun c24=>zq.step (zN Tryz.isAgg3 (z8 rfl c24) rfl rfl rfl))<|zM h fun b1 h=>zo rfl rfl (fun c25=>zq.step (zBa rfl (z8 rfl c25) (zHd b1 c25)))<|zo rfl rfl (fun c26=>zq.step (zCj (z8 rfl c26) (z8 rfl c26))) ?_
 refine zA (z6 (j := .lit undef) rfl rfl)<|zA (zB rfl)<|zo rfl rfl (fun c27=>zq.step (zK Tryz.underlying51 rfl rfl Tryz.sizeOf3 rfl))<|zo rfl rfl (fun c28=>zq.step (zN Tryz.isAgg3 (z8 rfl c28) rfl rfl rfl))<|zo rfl rfl (fun c29=>zq.step (zAu (z8 rfl c29) rfl))<|zA (z6 (j := .lit undef) rfl rfl) ?_
 refine zA (zB rfl)<|zo rfl rfl (fun c30=>zq.step (zK Tryz.underlying51 rfl rfl Tryz.sizeOf3 rfl))<|zo rfl rfl (fun c31=>zq.step (zN Tryz.isAgg3 (z8 rfl c31) rfl rfl rfl))<|zo rfl rfl (fun c32=>zq.step (zK Tryz.underlying51 rfl rfl Tryz.sizeOf3 rfl))<|zo rfl rfl (fun c33=>zq.step (zN Tryz.isAgg3 (z8 rfl c33) rfl rfl rfl))<|zo rfl rfl (fun c34=>zq.step (zCj (z8 rfl c34) (z8 rfl c34))) ?_
 refine zA (z6 (j := .lit undef) rfl rfl)<|zA (zD rfl)<|zF<|zb ?_
 cases h
 exact zv (zAI rfl rfl)
theorem zGh {E:Int} {r:Bool} (h:zEl E=some r):PFn Tryz.prog 137 [li E] (AV.lit (.bool r)):=by
 refine zm Tryz.func137 rfl Tryz.ntmps137 Tryz.results137 rfl ?_
 unfold zEl at h
 refine zH<|zC<|zA (zD rfl)<|zF<|zH<|zC ?_
 refine zA (zB rfl)<|zA (zB rfl)<|zA (z7 rfl rfl)<|zA (zD rfl)<|zF<|zb ?_
 cases h
 exact zv (zAI rfl rfl)
theorem zNr {E:Int} {uT:Int} {r:Bool} (h:zIS E uT=some r):PFn Tryz.prog 131 [li E,li uT] (AV.lit (.bool r)):=by
 refine zm Tryz.func131 rfl Tryz.ntmps131 Tryz.results131 rfl ?_
 unfold zIS at h
 refine zH<|zC<|zA (zD rfl)<|zF<|zH<|zC ?_
 refine zA (zB rfl)<|zP h fun x1 w1 h=>ze Tryz.func137 rfl (by kernel_rfl) (.fn 137) rfl rfl (zGh w1) rfl<|zA (zB rfl)<|zo rfl rfl (fun c1=>zq.step (zB rfl))<|zP h fun x2 w2 h => ?_
 refine zCU (g:=7) (s:=x1) (r':=(AV.lit (.bool x2))) rfl rfl (fun c2=>⟨137,_,_,[],[li uT],[li uT],(AV.lit (.bool x2)),[],Tryz.func137,rfl,by kernel_rfl,.fn 137,(zAL (z8 rfl c2) rfl),⟨zAl.nr rfl,trivial⟩,zGh (zFy c2 w2),.inl rfl,rfl⟩)<|zo rfl rfl (fun c3=>zq.step (zAv (t:=x2) (z8 rfl c3)))<|zA (z6 (j := .lit undef) rfl rfl)<|zA (zB rfl)<|zZ rfl rfl (fun c4=>zq.step (zB rfl))<|zZ rfl rfl (fun c5=>zq.step (zB rfl)) ?_
 refine zZ rfl rfl (fun c6=>zq.step (zh (z8 rfl c6) (z8 rfl c6)))<|zA (zj rfl rfl)<|zA (zD rfl)<|zF<|zb ?_
 cases h
 exact zv (zAI rfl rfl)
theorem zJG {E:Int} {r:Bool} (h:zFB E=some r):PFn Tryz.prog 132 [li E] (AV.lit (.bool r)):=by
 refine zm Tryz.func132 rfl Tryz.ntmps132 Tryz.results132 rfl ?_
 unfold zFB at h
 refine zH<|zC<|zA (zD rfl)<|zF<|zH<|zC ?_
 refine zA (zB rfl)<|zA (zB rfl)<|zA (z7 rfl rfl)<|zA (zD rfl)<|zF<|zb ?_
 cases h
 exact zv (zAI rfl rfl)
theorem zAb {E:List Int} {uG:Int} {r:Int×Bool} (h:zAQ E uG=some r):PFn Tryz.prog 87 [ls cI E,li uG] (AV.tup [li r.1,(AV.lit (.bool r.2))]):=by
 refine zm Tryz.func87 rfl Tryz.ntmps87 Tryz.results87 rfl ?_
 unfold zAQ at h
 refine zH<|zC<|zA (zD rfl)<|zA (zD rfl)<|zF<|zH ?_
 refine zC<|zA (zB rfl)<|zA (zY Tryz.underlying22 rfl)<|zA (zD rfl)<|zF<|zH ?_
 refine zC<|zA (zB rfl)<|zA (zD rfl)<|zA (zD rfl)<|zF ?_
 refine zx (r:=r) (fun (i1:Int)=>mkE [(0,(ls cI E)),(1,(li uG)),(6,(li (E.length:Int))),(7,(li i1))]) (fun i1=>[]) (fun i1=>zA9 E uG i1) ?_ ?_
 ·
  refine zR<|zt (σ:=Int×Int) (fun (i2,i3)=>mkE [(0,(ls cI E)),(1,(li uG)),(6,(li (E.length:Int))),(7,(li i2)),(8,(li i3))]) (fun (i2,i3)=>[]) (fun n0 (i2,i3)=>zBC E uG n0 i2 i3) (0,(E.length:Int)) h (fun _=>rfl) (zAD [] rfl rfl (by kernel_rfl)) ?_
  clear h
  rintro n0 ⟨i2,i3⟩ h
  replace h:zAa E uG (zBC E uG n0) i2 i3=some r:=h
  unfold zAa at h
  refine zH<|zH<|zC<|zA (zB rfl)<|zA (zB rfl)<|zA (zh rfl rfl) ?_
  refine zF ?_
  refine zW h rfl (fun b3 h => ?_) (fun b3 h => ?_)
  ·refine zQ<|zR<|zH<|zC<|zA (zB rfl)<|zA (zB rfl) ?_
   refine zM h fun b4 h=>zA (zg rfl rfl b4)<|zM h fun b5 h=>zA (zFl (k' := .u64) (a:=i2+i3) Tryz.underlying3 Tryz.underlying74 rfl b5)<|zA (zUR (k := .u64) (a:=i2+i3) (b:=1) rfl rfl (by decide))<|zM h fun b6 h => ?_
   refine zA (zFl (k' := .i64) (a:=(i2+i3).fdiv (2 ^ (1:Int).toNat)) Tryz.underlying74 Tryz.underlying3 rfl b6)<|zA (zD rfl)<|zF<|zH<|zC<|zA (zB rfl) ?_
   refine zA (zB rfl)<|zM h fun b7 h=>zA (zV Tryz.underlying22 Tryz.sizeOf3 (fun _=>rfl) rfl rfl b7)<|zA (zU (o:=0) Tryz.isAgg3 rfl rfl)<|zA (zB rfl)<|zP h fun x3 w3 h => ?_
   refine ze Tryz.func131 rfl (by kernel_rfl) (.fn 131) rfl rfl (zNr w3) rfl<|zF ?_
   refine zW h rfl (fun b8 h => ?_) (fun b8 h => ?_)
   ·refine zC<|zA (zB rfl)<|zM h fun b9 h=>zA (zg rfl rfl b9)<|zA (zD rfl)<|zF ?_
    exact ⟨((((i2+i3).fdiv (2 ^ (1:Int).toNat))+1),i3),zAD [] rfl rfl (by kernel_rfl),h⟩
   refine zC<|zA (zB rfl)<|zA (zD rfl)<|zF ?_
   exact ⟨(i2,((i2+i3).fdiv (2 ^ (1:Int).toNat))),zAD [] rfl rfl (by kernel_rfl),h⟩
  refine zz ?_
  exact ⟨i2,zAD [] rfl rfl (by kernel_rfl),h⟩
 clear h
 intro i1 h
 unfold zA9 at h
 refine zH<|zC<|zA (zB rfl)<|zA (zB rfl)<|zA (zB rfl)<|zA (zh rfl rfl) ?_
 refine zA (zB rfl)<|zo rfl rfl (fun c1=>zq.step (zB rfl))<|zo rfl rfl (fun c2=>zq.step (zB rfl))<|zM h fun b1 h=>zo rfl rfl (fun c3=>zq.step (zV Tryz.underlying22 Tryz.sizeOf3 (fun _=>rfl) (z8 rfl c3) (z8 rfl c3) (zHd b1 c3)))<|zo rfl rfl (fun c4=>zq.step (zU (o:=0) Tryz.isAgg3 (z8 rfl c4) rfl)) ?_
 refine zo rfl rfl (fun c5=>zq.step (zB rfl))<|zo rfl rfl (fun c6=>zq.step (zA8 (z8 rfl c6) (z8 rfl c6)))<|zo rfl rfl (fun c7=>zq.step (zB (z8 rfl c7)))<|zKY (g:=42) (s':=decide (i1<(E.length:Int))) (s:=decide ((at_ E i1)=uG)) rfl rfl (fun c8=>zq.step (zB rfl))<|zKY (g:=42) (s':=decide (i1<(E.length:Int))) (s:=decide ((at_ E i1)=uG)) rfl rfl (fun c9=>zq.step (zB rfl))<|zM h fun b2 h => ?_
 refine zKY (g:=42) (s':=decide (i1<(E.length:Int))) (s:=decide ((at_ E i1)=uG)) rfl rfl (fun c10=>zq.step (zV Tryz.underlying22 Tryz.sizeOf3 (fun _=>rfl) (z8 rfl c10) (z8 rfl c10) (zHd b2 c10)))<|zKY (g:=42) (s':=decide (i1<(E.length:Int))) (s:=decide ((at_ E i1)=uG)) rfl rfl (fun c11=>zq.step (zU (o:=0) Tryz.isAgg3 (z8 rfl c11) rfl))<|zP h fun x1 w1 h=>zQu (g:=42) (s':=decide (i1<(E.length:Int))) (s:=decide ((at_ E i1)=uG)) (r':=(AV.lit (.bool x1))) rfl rfl (fun c12=>⟨132,_,_,[],[(li (at_ E i1))],[(li (at_ E i1))],(AV.lit (.bool x1)),[],Tryz.func132,rfl,by kernel_rfl,.fn 132,(zAL (z8 rfl c12) rfl),⟨zAl.nr rfl,trivial⟩,zJG (zFy c12 w1),.inl rfl,rfl⟩)<|zKY (g:=42) (s':=decide (i1<(E.length:Int))) (s:=decide ((at_ E i1)=uG)) rfl rfl (fun c13=>zq.step (zB (z8 rfl c13)))<|zL3 (g:=48) (s':=(decide (i1<(E.length:Int)) && !(decide ((at_ E i1)=uG)))) (s:=x1) rfl rfl (fun c14=>zq.step (zB rfl)) ?_
 refine zP h fun x2 w2 h=>zNk (g:=48) (s':=(decide (i1<(E.length:Int)) && !(decide ((at_ E i1)=uG)))) (s:=x1) (r':=(AV.lit (.bool x2))) rfl rfl (fun c15=>⟨132,_,_,[],[li uG],[li uG],(AV.lit (.bool x2)),[],Tryz.func132,rfl,by kernel_rfl,.fn 132,(zAL (z8 rfl c15) rfl),⟨zAl.nr rfl,trivial⟩,zJG (zFy c15 w2),.inl rfl,rfl⟩)<|zKY (g:=42) (s':=decide (i1<(E.length:Int))) (s:=decide ((at_ E i1)=uG)) rfl rfl (fun c16=>zq.step (z6 (j := .lit undef) (z8 rfl c16) (zQB (c:=(decide (i1<(E.length:Int)) && !(decide ((at_ E i1)=uG)))) (d:=x1) (a:=(AV.lit (.bool x2))) (j := .lit undef) rfl c16)))<|zo rfl rfl (fun c17=>zq.step (zj (z8 rfl c17) (zQB (c:=decide (i1<(E.length:Int))) (d := !(decide ((at_ E i1)=uG))) (a:=(AV.lit (.bool (x1&&x2)))) (j := .lit undef) rfl c17)))<|zA (z6 (j := .lit undef) rfl rfl)<|zA (zD rfl) ?_
 refine zA (zD rfl)<|zF<|zb ?_
 cases h
 exact zA5 (zAI rfl rfl) (zAI rfl rfl) rfl
theorem zEf {C:zi} {Q:Int} {V:Int} {r:Bool} (h:zBm C Q V=some r):PFn Tryz.prog 86 [(AV.agg ([li C.node]++([li C.kind]++([li C.start]++([li C.count]++([li C.min]++([AV.any,AV.any,AV.any,AV.any,AV.any]++[]))))))),li Q,li V] (AV.lit (.bool r)):=by
 refine zm Tryz.func86 rfl Tryz.ntmps86 Tryz.results86 rfl ?_
 unfold zBm at h
 refine zH<|zC<|zX (H':=[.box 51 ([li C.node,li C.kind,li C.start,li C.count,li C.min]++([AV.any,AV.any,AV.any,AV.any,AV.any]++[]))]) (zu (t:=51) rfl)<|zA (zD rfl)<|zF<|zH ?_
 refine zC<|zA (zB rfl)<|zM h fun b1 h=>zM h fun b2 h=>zA (zCx (a:=1) (b:=V) rfl rfl b1 b2)<|zA (zD rfl) ?_
 refine zF<|zH<|zC<|zA (zB rfl)<|zA (zK Tryz.underlying51 rfl rfl Tryz.sizeOf3 rfl)<|zA (zN Tryz.isAgg3 rfl rfl rfl rfl) ?_
 refine zA (zAu rfl rfl)<|zA (zB rfl)<|zo rfl rfl (fun c1=>zq.step (zB rfl))<|zo rfl rfl (fun c2=>zq.step (zB rfl))<|zM h fun b3 h=>zo rfl rfl (fun c3=>zq.step (zRK (k := .i64) (a:=Q) (b:=(1:Int)*2 ^ V.toNat) (z8 rfl c3) (z8 rfl c3) (zHd b3 c3))) ?_
 refine zo rfl rfl (fun c4=>zq.step (zA8 (z8 rfl c4) rfl))<|zA (z6 (j := .lit undef) rfl rfl)<|zA (zB rfl)<|zo rfl rfl (fun c5=>zq.step (zB rfl))<|zo rfl rfl (fun c6=>zq.step (zK Tryz.underlying51 rfl rfl Tryz.sizeOf3 rfl))<|zo rfl rfl (fun c7=>zq.step (zN Tryz.isAgg3 (z8 rfl c7) rfl rfl rfl)) ?_
 refine zo rfl rfl (fun c8=>zq.step (zCj (z8 rfl c8) (z8 rfl c8)))<|zA (z6 (j := .lit undef) rfl rfl)<|zA (zB rfl)<|zo rfl rfl (fun c9=>zq.step (zB rfl))<|zo rfl rfl (fun c10=>zq.step (zK Tryz.underlying51 rfl rfl Tryz.sizeOf3 rfl))<|zo rfl rfl (fun c11=>zq.step (zN Tryz.isAgg3 (z8 rfl c11) rfl rfl rfl)) ?_
 refine zo rfl rfl (fun c12=>zq.step (zK Tryz.underlying51 rfl rfl Tryz.sizeOf3 rfl))<|zo rfl rfl (fun c13=>zq.step (zN Tryz.isAgg3 (z8 rfl c13) rfl rfl rfl))<|zM h fun b4 h=>zo rfl rfl (fun c14=>zq.step (zg (z8 rfl c14) (z8 rfl c14) (zHd b4 c14)))<|zo rfl rfl (fun c15=>zq.step (zB rfl))<|zM h fun b5 h => ?_
 refine zo rfl rfl (fun c16=>zq.step (zBa (z8 rfl c16) (z8 rfl c16) (zHd b5 c16)))<|zo rfl rfl (fun c17=>zq.step (zCj (z8 rfl c17) (z8 rfl c17)))<|zA (z6 (j := .lit undef) rfl rfl)<|zA (zD rfl)<|zF<|zb ?_
 cases h
 exact zv (zAI rfl rfl)
theorem zNK {A:zi} {D:Int} {G:Int} {r:zi} (h:zKM A D G=some r):AFn Tryz.prog 125 [AV.ptr 0 0,li D,li G] [.box 51 ([li A.node]++([li A.kind]++([li A.start]++([li A.count]++([li A.min]++((cM 5 3 (5:Int) A.free)++[]))))))] (.tup []) [.box 51 ([li r.node]++([li r.kind]++([li r.start]++([li r.count]++([li r.min]++((cM 5 3 (5:Int) r.free)++[]))))))]:=by
 refine zDe Tryz.func125 rfl Tryz.ntmps125 Tryz.results125 rfl ?_
 unfold zKM at h
 refine zx (r:=r) (fun ((i1,i2,l1):Int×Int×(List (List Int)))=>mkE [(0,(AV.ptr 0 0)),(1,(li i1)),(2,(li i2))]) (fun (i1,i2,l1)=>[.box 51 ([li A.node,li A.kind,li A.start,li A.count,li A.min]++((cM 5 3 (5:Int) l1)++[]))]) (fun (i1,i2,l1)=>zGt A i1 i2 l1) ?_ ?_
 ·
  refine zR<|zt (σ:=Int×Int×(List (List Int))) (fun (i3,i4,l2)=>mkE [(0,(AV.ptr 0 0)),(1,(li i3)),(2,(li i4))]) (fun (i3,i4,l2)=>[.box 51 ([li A.node,li A.kind,li A.start,li A.count,li A.min]++((cM 5 3 (5:Int) l2)++[]))]) (fun n0 (i3,i4,l2)=>zIK A n0 i3 i4 l2) (D,G,A.free) h (fun _=>rfl) (zAD [0] rfl rfl (by kernel_rfl)) ?_
  clear h
  rintro n0 ⟨i3,i4,l2⟩ h
  replace h:zFh A (zIK A n0) i3 i4 l2=some r:=h
  unfold zFh at h
  refine zH<|zH<|zC<|zA (zB rfl)<|zA (zh rfl rfl)<|zF ?_
  refine zW h rfl (fun b4 h => ?_) (fun b4 h => ?_)
  ·refine zQ<|zR<|zH<|zC<|zA (zB rfl)<|zA (zB rfl) ?_
   refine zM h fun b5 h=>zM h fun b6 h=>zA (zCx (a:=1) (b:=i4) rfl rfl b5 b6)<|zA (zRR (k := .i64) (a:=i3) (b:=(1:Int)*2 ^ i4.toNat) rfl rfl)<|zA (zD rfl)<|zF ?_
   refine zH<|zC<|zA (zB rfl)<|zA (zB rfl)<|zA (zAC rfl)<|zA (zK Tryz.underlying51 rfl rfl Tryz.sizeOf49 rfl) ?_
   refine zM h fun b7 h=>zA (zAG (m:=5) (s:=1) (i:=i4) (k:=0) (o:=5) Tryz.underlying49 Tryz.sizeOf22 rfl rfl b7)<|zM h fun b8 h=>z5 (zIQ (k:=0) (cs:=([li A.node,li A.kind,li A.start,li A.count,li A.min]++((cM 5 3 (5:Int) l2)++[]))) (hd:=([li A.node]++[li A.kind]++[li A.start]++[li A.count]++[li A.min]++[])) (tl:=([])) (N:=5) (T:=3) (K:=5) (l:=l2) (i:=i4) rfl rfl b7 b8)<|zA (zCw (k:=0) (o:=(5+i4.toNat*1)) (cs:=([li A.node,li A.kind,li A.start,li A.count,li A.min]++((List.set (cM 5 3 (5:Int) l2) i4.toNat (AV.hd 1))++[]))) (hd:=([li A.node]++[li A.kind]++[li A.start]++[li A.count]++[li A.min]++[])) (tl:=([])) (s:=(cM 5 3 (5:Int) l2)) (i:=i4) (j:=1) Tryz.isAgg22 rfl rfl rfl (congrArg (fun q=>5+q) (Nat.mul_one _)) (zF9 b7))<|zA (zB rfl) ?_
   refine zP h fun x2 w2 h=>zAq (r':=(AV.tup [li x2.1,(AV.lit (.bool x2.2))])) (la:=[AV.hd 1,(li (zMv .xor .i64 i3 ((1:Int)*2 ^ i4.toNat)))]) (la':=[(ls cI (l2.getD i4.toNat [])),(li (zMv .xor .i64 i3 ((1:Int)*2 ^ i4.toNat)))]) (r:=(AV.tup [li x2.1,(AV.lit (.bool x2.2))])) (S:=[1]) Tryz.func87 rfl (by kernel_rfl) (.fn 87) rfl ⟨zGf (fun _=>rfl) rfl rfl,zAl.nr rfl,trivial⟩ (zAb w2) (.inr rfl) rfl<|zA (zB rfl)<|zA (za rfl rfl)<|zA (za rfl rfl)<|zA (zD rfl) ?_
   refine zA (zD rfl)<|zF<|zH<|zH<|zC<|zA (zB rfl) ?_
   refine zA (zAv (t:=x2.2) rfl)<|zA (zB rfl)<|zZ rfl rfl (fun c1=>zq.step (zB rfl))<|zZ rfl rfl (fun c2=>zq.step (zAC (z8 rfl c2)))<|z5 (zHv (j:=1) (l':=l2.getD i4.toNat []) (k:=0) (cs:=([li A.node,li A.kind,li A.start,li A.count,li A.min]++((List.set (cM 5 3 (5:Int) l2) i4.toNat (AV.hd 1))++[]))) (hd:=([li A.node]++[li A.kind]++[li A.start]++[li A.count]++[li A.min]++[])) (tl:=([])) (N:=5) (T:=3) (K:=5) (l:=l2) (i:=i4) rfl rfl b7 b8 rfl rfl)<|zZ rfl rfl (fun c3=>zq.step (zOo (k:=0) (o:=0) (m:=10) (la:=([li A.node,li A.kind,li A.start,li A.count,li A.min]++([AV.any,AV.any,AV.any,AV.any,AV.any]++[]))) Tryz.isAgg51 Tryz.sizeOf51 (z8 rfl c3) rfl rfl rfl)) ?_
   refine zZ rfl rfl (fun c4=>zq.step (zB rfl))<|zZ rfl rfl (fun c5=>zq.step (zB rfl))<|zZ rfl rfl (fun c6=>zq.step (zPX (a:=i3) (b:=zMv .xor .i64 i3 ((1:Int)*2 ^ i4.toNat)) (z8 rfl c6) (z8 rfl c6)))<|zZ rfl rfl (fun c7=>zq.step (zB rfl))<|zM h fun b9 h=>zZ rfl rfl (fun c8=>zq.step (zg (z8 rfl c8) rfl (zHd b9 c8))) ?_
   refine zP h fun x3 w3 h=>zCX (g:=30) (s := !x2.2) (r':=(AV.lit (.bool x3))) rfl rfl (fun c9=>⟨86,_,_,[],[(AV.agg ([li A.node,li A.kind,li A.start,li A.count,li A.min]++([AV.any,AV.any,AV.any,AV.any,AV.any]++[]))),(li (min i3 (zMv .xor .i64 i3 ((1:Int)*2 ^ i4.toNat)))),(li (i4+1))],[(AV.agg ([(li ((⟨A.node,A.kind,A.start,A.count,A.min,zDc 5 [] l2 i4.toNat (l2.getD i4.toNat [])⟩:zi).node)),(li ((⟨A.node,A.kind,A.start,A.count,A.min,zDc 5 [] l2 i4.toNat (l2.getD i4.toNat [])⟩:zi).kind)),(li ((⟨A.node,A.kind,A.start,A.count,A.min,zDc 5 [] l2 i4.toNat (l2.getD i4.toNat [])⟩:zi).start)),(li ((⟨A.node,A.kind,A.start,A.count,A.min,zDc 5 [] l2 i4.toNat (l2.getD i4.toNat [])⟩:zi).count)),(li ((⟨A.node,A.kind,A.start,A.count,A.min,zDc 5 [] l2 i4.toNat (l2.getD i4.toNat [])⟩:zi).min))]++([AV.any,AV.any,AV.any,AV.any,AV.any]++[]))),(li (min i3 (zMv .xor .i64 i3 ((1:Int)*2 ^ i4.toNat)))),(li (i4+1))],(AV.lit (.bool x3)),[],Tryz.func86,rfl,by kernel_rfl,.fn 86,(zAL (z8 rfl c9) (zAL (z8 rfl c9) (zAL (z8 rfl c9) rfl))),⟨zAl.nr rfl,zAl.nr rfl,zAl.nr rfl,trivial⟩,zEf (zFy c9 w3),.inl rfl,rfl⟩)<|zZ rfl rfl (fun c10=>zq.step (zAv (t:=x3) (z8 rfl c10)))<|zA (zj rfl rfl)<|zF ?_
   refine zW h rfl (fun b10 h => ?_) (fun b10 h => ?_)
   ·refine zz ?_
    exact ⟨(i3,i4,(zDc 5 [] l2 i4.toNat (l2.getD i4.toNat []))),zAD [0] rfl rfl (by kernel_rfl),h⟩
   refine zQ<|zH<|zAS (zIQ (k:=0) (cs:=([li A.node,li A.kind,li A.start,li A.count,li A.min]++((cM 5 3 (5:Int) (zDc 5 [] l2 i4.toNat (l2.getD i4.toNat [])))++[]))) (hd:=([li A.node]++[li A.kind]++[li A.start]++[li A.count]++[li A.min]++[])) (tl:=([])) (N:=5) (T:=3) (K:=5) (l:=zDc 5 [] l2 i4.toNat (l2.getD i4.toNat [])) (i:=i4) rfl rfl b7 b8)<|zM h fun b11 h=>zM h fun b12 h => ?_
   refine zAm (n:=88) (m:=1) [.head 0 1,.head 0 1,.head 0 0,.head 0 0,.head 0 0,.head 0 0,.head 0 0,.head 0 0,.head 0 0,.head 0 0,.head 0 0,.tail 0,.head 0 1,.head 0 1,.head 1 1,.tail 1] [11,15] [AV.ptr 0 0,li i4,AV.ptr 0 0,li i4,AV.ptr 0 0,AV.ptr 0 5,(AV.ptr 0 (5+i4.toNat*1)),AV.hd 2,li x2.1,li x2.1,(li (x2.1+1)),AV.hd 3,AV.ptr 0 0,AV.ptr 0 5,(AV.ptr 0 (5+i4.toNat*1)),.any] [[.box 51 ([li A.node,li A.kind,li A.start,li A.count,li A.min]++((List.set (cM 5 3 (5:Int) (zDc 5 [] l2 i4.toNat (l2.getD i4.toNat []))) i4.toNat (AV.hd 2))++[])),.dead,.vec 3 1 (List.map cI ((zDc 5 [] l2 i4.toNat (l2.getD i4.toNat [])).getD i4.toNat []))],[.box 51 ([li A.node,li A.kind,li A.start,li A.count,li A.min]++((List.set (cM 5 3 (5:Int) (zDc 5 [] l2 i4.toNat (l2.getD i4.toNat []))) i4.toNat (AV.hd 2))++[])),.dead,.dead,.vec 3 1 (List.map cI (zRh ((zDc 5 [] l2 i4.toNat (l2.getD i4.toNat [])).getD i4.toNat []) x2.1))],[.box 51 ([li A.node,li A.kind,li A.start,li A.count,li A.min]++((List.set (cM 5 3 (5:Int) (zDc 5 [] l2 i4.toNat (l2.getD i4.toNat []))) i4.toNat (AV.hd 3))++[])),.dead,.dead,.vec 3 1 (List.map cI (zRh ((zDc 5 [] l2 i4.toNat (l2.getD i4.toNat [])).getD i4.toNat []) x2.1))]] (by kernel_rfl) (by kernel_rfl) ⟨⟨D1 fun e s p=>zB (s 0 rfl),D1 fun e s p=>zB (s 0 rfl)⟩,⟨D1 fun e s p=>zB (s 2 rfl),D1 fun e s p=>zB (s 2 rfl)⟩,D1 fun e s p=>zB (s 0 rfl),D1 fun e s p=>zB (s 2 rfl),D1 fun e s p=>zAC p.1,D1 fun e s p=>zK (k:=0) (o:=0) (off:=5) Tryz.underlying51 rfl rfl Tryz.sizeOf49 p.1,D1 fun e s p=>zAG (m:=5) (s:=1) (i:=i4) (k:=0) (o:=5) Tryz.underlying49 Tryz.sizeOf22 p.1 p.2.1 b7,D1 fun e s p=>zCw (k:=0) (o:=(5+i4.toNat*1)) (cs:=([li A.node,li A.kind,li A.start,li A.count,li A.min]++((List.set (cM 5 3 (5:Int) (zDc 5 [] l2 i4.toNat (l2.getD i4.toNat []))) i4.toNat (AV.hd 2))++[]))) (hd:=([li A.node]++[li A.kind]++[li A.start]++[li A.count]++[li A.min]++[])) (tl:=([])) (s:=(cM 5 3 (5:Int) (zDc 5 [] l2 i4.toNat (l2.getD i4.toNat [])))) (i:=i4) (j:=2) Tryz.isAgg22 p.1 rfl rfl (congrArg (fun q=>5+q) (Nat.mul_one _)) (zF9 b7),D1 fun e s p=>zB (s 7 rfl),D1 fun e s p=>zB (s 7 rfl),D1 fun e s p=>zg (a:=x2.1) (b:=1) p.1 rfl b11,?_,⟨D1 fun e s p=>zAC p.1,D1 fun e s p=>zAC p.1⟩,⟨D1 fun e s p=>zK (k:=0) (o:=0) (off:=5) Tryz.underlying51 rfl rfl Tryz.sizeOf49 p.1,D1 fun e s p=>zK (k:=0) (o:=0) (off:=5) Tryz.underlying51 rfl rfl Tryz.sizeOf49 p.1⟩,D1 fun e s p=>zAG (m:=5) (s:=1) (i:=i4) (k:=0) (o:=5) Tryz.underlying49 Tryz.sizeOf22 p.1 p.2.2.2.1 b7,?_,trivial⟩ ?_
   ·
    intro e46 s46 p45
    refine zOw (k:=2) (l:=(zDc 5 [] l2 i4.toNat (l2.getD i4.toNat [])).getD i4.toNat []) (i:=x2.1) (q:=x2.1+1) (fun a b=>zTK a b) Tryz.func130 rfl (by kernel_rfl) p45.1 rfl p45.2.1 p45.2.2.1 b12 ?_
    exact zF ⟨fun _=>rfl,rfl⟩
   ·
    intro e52 s52 p51
    refine zd (H':=[.box 51 ([li A.node,li A.kind,li A.start,li A.count,li A.min]++((List.set (cM 5 3 (5:Int) (zDc 5 [] l2 i4.toNat (l2.getD i4.toNat []))) i4.toNat (AV.hd 3))++[])),.dead,.dead,.vec 3 1 (List.map cI (zRh ((zDc 5 [] l2 i4.toNat (l2.getD i4.toNat [])).getD i4.toNat []) x2.1))]) (zFo (k:=0) (o:=(5+i4.toNat*1)) (cs:=([li A.node,li A.kind,li A.start,li A.count,li A.min]++((List.set (cM 5 3 (5:Int) (zDc 5 [] l2 i4.toNat (l2.getD i4.toNat []))) i4.toNat (AV.hd 2))++[]))) (hd:=([li A.node]++[li A.kind]++[li A.start]++[li A.count]++[li A.min]++[])) (tl:=([])) (s:=(cM 5 3 (5:Int) (zDc 5 [] l2 i4.toNat (l2.getD i4.toNat [])))) (i:=i4) (a:=(AV.hd 3)) Tryz.sizeOf22 (by exact p51.1) rfl rfl (congrArg (fun q=>5+q) (Nat.mul_one _)) (zF9 b7) (by exact p51.2.2.2.2.2.2.2.2.2.2.2.2.2.2.1) rfl) ?_
    exact zF ⟨fun _=>rfl,rfl⟩
   intro e53 s53 hq2
   refine zAS (zBI (l:=[(0,(AV.ptr 0 0)),(1,(li i3)),(2,(li i4)),(6,(li (zMv .xor .i64 i3 ((1:Int)*2 ^ i4.toNat))))]) ⟨s53 0 rfl,s53 1 rfl,s53 2 rfl,s53 6 rfl,trivial⟩)<|zH<|zC<|zA (zB (av:=(li i3)) rfl)<|zA (zB (av:=(li (zMv .xor .i64 i3 ((1:Int)*2 ^ i4.toNat)))) rfl)<|zA (zPX (a:=i3) (b:=zMv .xor .i64 i3 ((1:Int)*2 ^ i4.toNat)) rfl rfl) ?_
   refine zA (zD rfl)<|zF<|zC<|zA (zB rfl)<|zM h fun b13 h=>zA (zg rfl rfl b13) ?_
   refine zA (zD rfl)<|zF ?_
   exact ⟨((min i3 (zMv .xor .i64 i3 ((1:Int)*2 ^ i4.toNat))),(i4+1),(zDc 5 [] (zDc 5 [] l2 i4.toNat (l2.getD i4.toNat [])) i4.toNat (zRh ((zDc 5 [] l2 i4.toNat (l2.getD i4.toNat [])).getD i4.toNat []) x2.1))),Rep.trans (zHv (j:=3) (l':=zRh ((zDc 5 [] l2 i4.toNat (l2.getD i4.toNat [])).getD i4.toNat []) x2.1) (k:=0) (cs:=([li A.node,li A.kind,li A.start,li A.count,li A.min]++((List.set (cM 5 3 (5:Int) (zDc 5 [] l2 i4.toNat (l2.getD i4.toNat []))) i4.toNat (AV.hd 3))++[]))) (hd:=([li A.node]++[li A.kind]++[li A.start]++[li A.count]++[li A.min]++[])) (tl:=([])) (N:=5) (T:=3) (K:=5) (l:=zDc 5 [] l2 i4.toNat (l2.getD i4.toNat [])) (i:=i4) rfl rfl b7 b8 rfl rfl) (zAD [0] (l:=[(0,(AV.ptr 0 0)),(1,(li (min i3 (zMv .xor .i64 i3 ((1:Int)*2 ^ i4.toNat))))),(2,(li (i4+1)))]) rfl rfl (by kernel_rfl)),h⟩
  refine zz ?_
  exact ⟨(i3,i4,l2),zAD [0] rfl rfl (by kernel_rfl),h⟩
 clear h
 rintro ⟨i1,i2,l1⟩ h
 unfold zGt at h
 refine zH<|zC<|zA (zB rfl)<|zA (zB rfl)<|zA (zAC rfl)<|zA (zK Tryz.underlying51 rfl rfl Tryz.sizeOf49 rfl) ?_
 refine zM h fun b1 h=>zA (zAG (m:=5) (s:=1) (i:=i2) (k:=0) (o:=5) Tryz.underlying49 Tryz.sizeOf22 rfl rfl b1)<|zM h fun b2 h=>z5 (zIQ (k:=0) (cs:=([li A.node,li A.kind,li A.start,li A.count,li A.min]++((cM 5 3 (5:Int) l1)++[]))) (hd:=([li A.node]++[li A.kind]++[li A.start]++[li A.count]++[li A.min]++[])) (tl:=([])) (N:=5) (T:=3) (K:=5) (l:=l1) (i:=i2) rfl rfl b1 b2)<|zA (zCw (k:=0) (o:=(5+i2.toNat*1)) (cs:=([li A.node,li A.kind,li A.start,li A.count,li A.min]++((List.set (cM 5 3 (5:Int) l1) i2.toNat (AV.hd 1))++[]))) (hd:=([li A.node]++[li A.kind]++[li A.start]++[li A.count]++[li A.min]++[])) (tl:=([])) (s:=(cM 5 3 (5:Int) l1)) (i:=i2) (j:=1) Tryz.isAgg22 rfl rfl rfl (congrArg (fun q=>5+q) (Nat.mul_one _)) (zF9 b1))<|zA (zB rfl) ?_
 refine zP h fun x1 w1 h=>zAq (r':=(AV.tup [li x1.1,(AV.lit (.bool x1.2))])) (la:=[AV.hd 1,li i1]) (la':=[(ls cI (l1.getD i2.toNat [])),li i1]) (r:=(AV.tup [li x1.1,(AV.lit (.bool x1.2))])) (S:=[1]) Tryz.func87 rfl (by kernel_rfl) (.fn 87) rfl ⟨zGf (fun _=>rfl) rfl rfl,zAl.nr rfl,trivial⟩ (zAb w1) (.inr rfl) rfl<|zA (zB rfl)<|zA (za rfl rfl)<|zA (za rfl rfl)<|zA (zD rfl) ?_
 refine zA (zD rfl)<|zF<|zM h fun b3 h => ?_
 refine zAm (n:=88) (m:=1) [.head 0 2,.head 0 2,.head 0 1,.head 0 1,.head 0 1,.head 0 1,.head 0 1,.head 0 1,.head 0 1,.head 0 0,.tail 0,.tail 1,.head 0 2,.head 0 2,.head 2 2,.tail 2] [10,11,15] [AV.ptr 0 0,li i2,AV.ptr 0 0,li i2,AV.ptr 0 0,AV.ptr 0 5,(AV.ptr 0 (5+i2.toNat*1)),AV.hd 1,li x1.1,li i1,AV.hd 2,AV.hd 3,AV.ptr 0 0,AV.ptr 0 5,(AV.ptr 0 (5+i2.toNat*1)),.any] [[.box 51 ([li A.node,li A.kind,li A.start,li A.count,li A.min]++((List.set (cM 5 3 (5:Int) l1) i2.toNat (AV.hd 1))++[])),.vec 3 1 (List.map cI (l1.getD i2.toNat []))],[.box 51 ([li A.node,li A.kind,li A.start,li A.count,li A.min]++((List.set (cM 5 3 (5:Int) l1) i2.toNat (AV.hd 1))++[])),.vec 3 1 (List.map cI (l1.getD i2.toNat [])),.vec 3 1 (List.map cI [i1])],[.box 51 ([li A.node,li A.kind,li A.start,li A.count,li A.min]++((List.set (cM 5 3 (5:Int) l1) i2.toNat (AV.hd 1))++[])),.dead,.vec 3 1 (List.map cI [i1]),.vec 3 1 (List.map cI (zQU (l1.getD i2.toNat []) x1.1 i1))],[.box 51 ([li A.node,li A.kind,li A.start,li A.count,li A.min]++((List.set (cM 5 3 (5:Int) l1) i2.toNat (AV.hd 3))++[])),.dead,.vec 3 1 (List.map cI [i1]),.vec 3 1 (List.map cI (zQU (l1.getD i2.toNat []) x1.1 i1))]] (by kernel_rfl) (by kernel_rfl) ⟨⟨D1 fun e s p=>zB (s 0 rfl),D1 fun e s p=>zB (s 0 rfl),D1 fun e s p=>zB (s 0 rfl)⟩,⟨D1 fun e s p=>zB (s 2 rfl),D1 fun e s p=>zB (s 2 rfl),D1 fun e s p=>zB (s 2 rfl)⟩,⟨D1 fun e s p=>zB (s 0 rfl),D1 fun e s p=>zB (s 0 rfl)⟩,⟨D1 fun e s p=>zB (s 2 rfl),D1 fun e s p=>zB (s 2 rfl)⟩,⟨D1 fun e s p=>zAC p.1,D1 fun e s p=>zAC p.1⟩,⟨D1 fun e s p=>zK (k:=0) (o:=0) (off:=5) Tryz.underlying51 rfl rfl Tryz.sizeOf49 p.1,D1 fun e s p=>zK (k:=0) (o:=0) (off:=5) Tryz.underlying51 rfl rfl Tryz.sizeOf49 p.1⟩,⟨D1 fun e s p=>zAG (m:=5) (s:=1) (i:=i2) (k:=0) (o:=5) Tryz.underlying49 Tryz.sizeOf22 p.1 p.2.1 b1,D1 fun e s p=>zAG (m:=5) (s:=1) (i:=i2) (k:=0) (o:=5) Tryz.underlying49 Tryz.sizeOf22 p.1 p.2.1 b1⟩,⟨D1 fun e s p=>zCw (k:=0) (o:=(5+i2.toNat*1)) (cs:=([li A.node,li A.kind,li A.start,li A.count,li A.min]++((List.set (cM 5 3 (5:Int) l1) i2.toNat (AV.hd 1))++[]))) (hd:=([li A.node]++[li A.kind]++[li A.start]++[li A.count]++[li A.min]++[])) (tl:=([])) (s:=(cM 5 3 (5:Int) l1)) (i:=i2) (j:=1) Tryz.isAgg22 p.1 rfl rfl (congrArg (fun q=>5+q) (Nat.mul_one _)) (zF9 b1),D1 fun e s p=>zCw (k:=0) (o:=(5+i2.toNat*1)) (cs:=([li A.node,li A.kind,li A.start,li A.count,li A.min]++((List.set (cM 5 3 (5:Int) l1) i2.toNat (AV.hd 1))++[]))) (hd:=([li A.node]++[li A.kind]++[li A.start]++[li A.count]++[li A.min]++[])) (tl:=([])) (s:=(cM 5 3 (5:Int) l1)) (i:=i2) (j:=1) Tryz.isAgg22 p.1 rfl rfl (congrArg (fun q=>5+q) (Nat.mul_one _)) (zF9 b1)⟩,⟨D1 fun e s p=>zB (s 9 rfl),D1 fun e s p=>zB (s 9 rfl)⟩,D1 fun e s p=>zB (s 1 rfl),?_,?_,⟨D1 fun e s p=>zAC p.1,D1 fun e s p=>zAC p.1,D1 fun e s p=>zAC p.1⟩,⟨D1 fun e s p=>zK (k:=0) (o:=0) (off:=5) Tryz.underlying51 rfl rfl Tryz.sizeOf49 p.1,D1 fun e s p=>zK (k:=0) (o:=0) (off:=5) Tryz.underlying51 rfl rfl Tryz.sizeOf49 p.1,D1 fun e s p=>zK (k:=0) (o:=0) (off:=5) Tryz.underlying51 rfl rfl Tryz.sizeOf49 p.1⟩,D1 fun e s p=>zAG (m:=5) (s:=1) (i:=i2) (k:=0) (o:=5) Tryz.underlying49 Tryz.sizeOf22 p.1 p.2.2.2.1 b1,?_,trivial⟩ ?_
 ·
  intro e22 s22 p22
  refine zF6 (a:=(li i1)) zGA Tryz.underlying22 p22.1 rfl rfl rfl ?_
  exact zF ⟨fun _=>rfl,rfl⟩
 ·
  intro e23 s23 p23
  refine zNH (k:=1) (j:=2) (l:=l1.getD i2.toNat []) (i:=x1.1) (q:=i1) (fun a b c d e=>zQl a b c d e) Tryz.func119 rfl (by kernel_rfl) p23.1 rfl p23.2.1 p23.2.2.1 rfl rfl b3 ?_
  exact zF ⟨fun _=>rfl,rfl⟩
 ·
  intro e31 s31 p31
  refine zd (H':=[.box 51 ([li A.node,li A.kind,li A.start,li A.count,li A.min]++((List.set (cM 5 3 (5:Int) l1) i2.toNat (AV.hd 3))++[])),.dead,.vec 3 1 (List.map cI [i1]),.vec 3 1 (List.map cI (zQU (l1.getD i2.toNat []) x1.1 i1))]) (zFo (k:=0) (o:=(5+i2.toNat*1)) (cs:=([li A.node,li A.kind,li A.start,li A.count,li A.min]++((List.set (cM 5 3 (5:Int) l1) i2.toNat (AV.hd 1))++[]))) (hd:=([li A.node]++[li A.kind]++[li A.start]++[li A.count]++[li A.min]++[])) (tl:=([])) (s:=(cM 5 3 (5:Int) l1)) (i:=i2) (a:=(AV.hd 3)) Tryz.sizeOf22 (by exact p31.1) rfl rfl (congrArg (fun q=>5+q) (Nat.mul_one _)) (zF9 b1) (by exact p31.2.2.2.2.2.2.2.2.2.2.2.2.2.2.1) rfl) ?_
  exact zF ⟨fun _=>rfl,rfl⟩
 intro e32 s32 hq1
 cases h
 exact ⟨mkE [],[.box 51 ([li A.node,li A.kind,li A.start,li A.count,li A.min]++((cM 5 3 (5:Int) (zDc 5 [] l1 i2.toNat (zQU (l1.getD i2.toNat []) x1.1 i1)))++[]))],Rep.trans (zBI (l:=[]) trivial) (Rep.trans (zHv (j:=3) (l':=zQU (l1.getD i2.toNat []) x1.1 i1) (k:=0) (cs:=([li A.node,li A.kind,li A.start,li A.count,li A.min]++((List.set (cM 5 3 (5:Int) l1) i2.toNat (AV.hd 3))++[]))) (hd:=([li A.node]++[li A.kind]++[li A.start]++[li A.count]++[li A.min]++[])) (tl:=([])) (N:=5) (T:=3) (K:=5) (l:=l1) (i:=i2) rfl rfl b1 b2 rfl rfl) (zAD [0] (l:=[]) rfl rfl (by kernel_rfl))),zLt rfl⟩
theorem zP5 {uA:Int} {uN:Int} {uI:Int} {uJ:Int} {uO:Int} {r:zi×Int} (h:zNm uA uN uI uJ uO=some r):PFn Tryz.prog 81 [li uA,li uN,li uI,li uJ,li uO] (AV.tup [(AV.agg (zO r.1)),li r.2]):=by
 refine zm Tryz.func81 rfl Tryz.ntmps81 Tryz.results81 rfl ?_
 unfold zNm at h
 refine zH<|zC<|zX (H':=[.box 51 ([li 0]++([li 0]++([li 0]++([li 0]++([li 0]++((cA 5 (eS cI) ([]:List Int) (List.replicate 5 ([]:List Int)))++[]))))))]) zv0<|zA (zD rfl)<|zF<|zH ?_
 refine zC<|zA (zB rfl)<|zA (zB rfl)<|zA (zB rfl)<|zA (zB rfl)<|zA (zB rfl) ?_
 refine zA (zCT (pl:=[(0,1),(1,1),(2,1),(3,1),(4,1),(5,5)]) (zs:=[.int .i64 0,.int .i64 0,.int .i64 0,.int .i64 0,.int .i64 0,.slice none 0 0,.slice none 0 0,.slice none 0 0,.slice none 0 0,.slice none 0 0]) (zc:=[.lit (.int .i64 0),.lit (.int .i64 0),.lit (.int .i64 0),.lit (.int .i64 0),.lit (.int .i64 0),.osl 3 1 [],.osl 3 1 [],.osl 3 1 [],.osl 3 1 [],.osl 3 1 []]) (res:=([li uA]++([li uN]++([li uI]++([li uJ]++([li uO]++((cM 5 3 (5:Int) (List.replicate 5 ([]:List Int)))++[]))))))) (fun _=>by kernel_rfl) rfl (⟨zAx.refl _,⟨zAx.refl _,⟨zAx.refl _,⟨zAx.refl _,⟨zAx.refl _,⟨zAx.nilo,⟨zAx.nilo,⟨zAx.nilo,⟨zAx.nilo,⟨zAx.nilo,trivial⟩⟩⟩⟩⟩⟩⟩⟩⟩⟩) ⟨li uA,0,1,rfl,rfl,rfl,rfl,rfl,⟨li uN,1,1,rfl,rfl,rfl,rfl,rfl,⟨li uI,2,1,rfl,rfl,rfl,rfl,rfl,⟨li uJ,3,1,rfl,rfl,rfl,rfl,rfl,⟨li uO,4,1,rfl,rfl,rfl,rfl,rfl,(by exact zLu.refl _)⟩⟩⟩⟩⟩)<|zX (H':=[.box 51 ([li 0]++([li 0]++([li 0]++([li 0]++([li 0]++((cA 5 (eS cI) ([]:List Int) (List.replicate 5 ([]:List Int)))++[])))))),.box 51 ([li 0]++([li 0]++([li 0]++([li 0]++([li 0]++((cA 5 (eS cI) ([]:List Int) (List.replicate 5 ([]:List Int)))++[]))))))]) zv0<|zd (H':=[.box 51 ([li 0]++([li 0]++([li 0]++([li 0]++([li 0]++((cA 5 (eS cI) ([]:List Int) (List.replicate 5 ([]:List Int)))++[])))))),.box 51 ([li uA]++([li uN]++([li uI]++([li uJ]++([li uO]++((cM 5 3 (5:Int) (List.replicate 5 ([]:List Int)))++[]))))))]) (zT (k:=1) (o:=0) (cs:=([li 0]++([li 0]++([li 0]++([li 0]++([li 0]++((cA 5 (eS cI) ([]:List Int) (List.replicate 5 ([]:List Int)))++[]))))))) (la:=([li uA]++([li uN]++([li uI]++([li uJ]++([li uO]++((cM 5 3 (5:Int) (List.replicate 5 ([]:List Int)))++[]))))))) Tryz.sizeOf51 rfl rfl rfl rfl)<|zF<|zH<|zH ?_
 refine zC<|zA (zOo (k:=1) (o:=0) (m:=10) (la:=([li uA]++([li uN]++([li uI]++([li uJ]++([li uO]++([AV.any,AV.any,AV.any,AV.any,AV.any]++[]))))))) Tryz.isAgg51 Tryz.sizeOf51 rfl rfl rfl rfl)<|zP h fun x1 w1 h=>zAq (r':=(AV.lit (.bool x1))) (la:=[(AV.agg ([li uA]++([li uN]++([li uI]++([li uJ]++([li uO]++([AV.any,AV.any,AV.any,AV.any,AV.any]++[])))))))]) (la':=[(AV.agg ([(li ((⟨uA,uN,uI,uJ,uO,(List.replicate 5 ([]:List Int))⟩:zi).node))]++([(li ((⟨uA,uN,uI,uJ,uO,(List.replicate 5 ([]:List Int))⟩:zi).kind))]++([(li ((⟨uA,uN,uI,uJ,uO,(List.replicate 5 ([]:List Int))⟩:zi).start))]++([(li ((⟨uA,uN,uI,uJ,uO,(List.replicate 5 ([]:List Int))⟩:zi).count))]++([(li ((⟨uA,uN,uI,uJ,uO,(List.replicate 5 ([]:List Int))⟩:zi).min))]++([AV.any,AV.any,AV.any,AV.any,AV.any]++[])))))))]) (r:=(AV.lit (.bool x1))) (S:=[]) Tryz.func85 rfl (by kernel_rfl) (.fn 85) rfl ⟨zAl.nr rfl,trivial⟩ (zK7 w1) (.inl rfl) rfl<|zA (zAv (t:=x1) rfl)<|zF ?_
 refine zW h rfl (fun b1 h => ?_) (fun b1 h => ?_)
 ·refine zH<|zC<|zA (zCT (pl:=[(0,1),(1,1),(2,1),(3,1),(4,1),(5,5)]) (zs:=[.int .i64 0,.int .i64 0,.int .i64 0,.int .i64 0,.int .i64 0,.slice none 0 0,.slice none 0 0,.slice none 0 0,.slice none 0 0,.slice none 0 0]) (zc:=[.lit (.int .i64 0),.lit (.int .i64 0),.lit (.int .i64 0),.lit (.int .i64 0),.lit (.int .i64 0),.osl 3 1 [],.osl 3 1 [],.osl 3 1 [],.osl 3 1 [],.osl 3 1 []]) (res:=([li 0]++([li 0]++([li 0]++([li 0]++([li 0]++((cM 5 3 (5:Int) (List.replicate 5 ([]:List Int)))++[]))))))) (fun _=>by kernel_rfl) rfl (⟨zAx.refl _,⟨zAx.refl _,⟨zAx.refl _,⟨zAx.refl _,⟨zAx.refl _,⟨zAx.nilo,⟨zAx.nilo,⟨zAx.nilo,⟨zAx.nilo,⟨zAx.nilo,trivial⟩⟩⟩⟩⟩⟩⟩⟩⟩⟩) (by exact zLu.refl _))<|zd (H':=[.box 51 ([li 0]++([li 0]++([li 0]++([li 0]++([li 0]++((cM 5 3 (5:Int) (List.replicate 5 ([]:List Int)))++[])))))),.box 51 ([li uA]++([li uN]++([li uI]++([li uJ]++([li uO]++((cM 5 3 (5:Int) (List.replicate 5 ([]:List Int)))++[]))))))]) (zT (k:=0) (o:=0) (cs:=([li 0]++([li 0]++([li 0]++([li 0]++([li 0]++((cA 5 (eS cI) ([]:List Int) (List.replicate 5 ([]:List Int)))++[]))))))) (la:=([li 0]++([li 0]++([li 0]++([li 0]++([li 0]++((cM 5 3 (5:Int) (List.replicate 5 ([]:List Int)))++[]))))))) Tryz.sizeOf51 rfl rfl rfl rfl)<|zA (zD rfl)<|zF ?_
  refine zAS (zKT (k:=0) (cs:=([li 0]++([li 0]++([li 0]++([li 0]++([li 0]++((cM 5 3 (5:Int) (List.replicate 5 ([]:List Int)))++[]))))))) (hd:=([li 0]++[li 0]++[li 0]++[li 0]++[li 0]++[])) (tl:=([])) (N:=5) (T:=3) (K:=5) (l:=(List.replicate 5 ([]:List Int))) rfl rfl)<|zb ?_
  cases h
  exact zA5 (zDV Tryz.isAgg51 Tryz.sizeOf51 rfl rfl rfl rfl) (zAI rfl rfl) rfl
 refine zQ ?_
 refine zx (r:=r) (fun ((d1,d2,d3,d4,d5,l1):Int×Int×Int×Int×Int×(List (List Int)))=>mkE [(10,(AV.ptr 0 0)),(12,(AV.ptr 1 0))]) (fun (d1,d2,d3,d4,d5,l1)=>[.box 51 ([li 0]++([li 0]++([li 0]++([li 0]++([li 0]++((cA 5 (eS cI) ([]:List Int) (List.replicate 5 ([]:List Int)))++[])))))),.box 51 ([li d1]++([li d2]++([li d3]++([li d4]++([li d5]++((cM 5 3 (5:Int) l1)++[]))))))]) (fun (d1,d2,d3,d4,d5,l1)=>zLN d1 d2 d3 d4 d5 l1) ?_ ?_
 ·
  refine zH<|zC<|zA (zB rfl)<|zA (zD rfl)<|zF<|zR ?_
  refine zt (σ:=Int×Int×Int×Int×Int×Int×(List (List Int))) (fun (i1,d6,d7,d8,d9,d10,l2)=>mkE [(2,(li uI)),(3,(li uJ)),(10,(AV.ptr 0 0)),(12,(AV.ptr 1 0)),(13,(li i1))]) (fun (i1,d6,d7,d8,d9,d10,l2)=>[.box 51 ([li 0]++([li 0]++([li 0]++([li 0]++([li 0]++((cA 5 (eS cI) ([]:List Int) (List.replicate 5 ([]:List Int)))++[])))))),.box 51 ([li d6]++([li d7]++([li d8]++([li d9]++([li d10]++((cM 5 3 (5:Int) l2)++[]))))))]) (fun n0 (i1,d6,d7,d8,d9,d10,l2)=>zJY uI uJ n0 i1 d6 d7 d8 d9 d10 l2) (uI,uA,uN,uI,uJ,uO,(List.replicate 5 ([]:List Int))) h (fun _=>rfl) (zAD [0,1] rfl rfl (by kernel_rfl)) ?_
  clear h
  rintro n0 ⟨i1,d6,d7,d8,d9,d10,l2⟩ h
  replace h:zLf uI uJ (zJY uI uJ n0) i1 d6 d7 d8 d9 d10 l2=some r:=h
  unfold zLf at h
  refine zH<|zH<|zC<|zA (zB rfl)<|zA (zB rfl)<|zA (zB rfl) ?_
  refine zM h fun b2 h=>zA (zg rfl rfl b2)<|zA (zh rfl rfl)<|zF ?_
  refine zW h rfl (fun b3 h => ?_) (fun b3 h => ?_)
  ·refine zQ<|zH<|zR<|zC<|zA (zB rfl)<|zP h fun x2 w2 h => ?_
   refine zCu (k:=1) (la:=[AV.ptr 1 0,li i1,li 0]) (la':=[AV.ptr 0 0,li i1,li 0]) (r:=(.tup [])) (S:=[]) (en' := .box 51 ([li x2.node]++([li x2.kind]++([li x2.start]++([li x2.count]++([li x2.min]++((cM 5 3 (5:Int) x2.free)++[]))))))) Tryz.func125 rfl (by kernel_rfl) (.fn 125) rfl ⟨zBs.ptr,zBs.of (zAl.nr rfl),zBs.of (zAl.nr rfl),trivial⟩ rfl rfl (by kernel_rfl) (by kernel_rfl) (zNK w2) rfl (.inl rfl)<|zF<|zC<|zA (zB rfl)<|zM h fun b4 h=>zA (zg rfl rfl b4) ?_
   refine zA (zD rfl)<|zF ?_
   exact ⟨((i1+1),x2.node,x2.kind,x2.start,x2.count,x2.min,x2.free),zAD [0,1] rfl rfl (by kernel_rfl),h⟩
  refine zz ?_
  exact ⟨(d6,d7,d8,d9,d10,l2),zAD [0,1] rfl rfl (by kernel_rfl),h⟩
 clear h
 rintro ⟨d1,d2,d3,d4,d5,l1⟩ h
 unfold zLN at h
 refine zH<|zC<|z5 (zKT (k:=1) (cs:=([li d1]++([li d2]++([li d3]++([li d4]++([li d5]++((cM 5 3 (5:Int) l1)++[]))))))) (hd:=([li d1]++[li d2]++[li d3]++[li d4]++[li d5]++[])) (tl:=([])) (N:=5) (T:=3) (K:=5) (l:=l1) rfl rfl)<|zA (zS (k:=1) (o:=0) (m:=10) Tryz.isAgg51 Tryz.sizeOf51 rfl rfl rfl rfl rfl)<|zd (H':=[.box 51 (zO (⟨d1,d2,d3,d4,d5,l1⟩:zi)),.box 51 ([li d1]++([li d2]++([li d3]++([li d4]++([li d5]++((cA 5 (eS cI) ([]:List Int) l1)++[]))))))]) (zT (k:=0) (o:=0) (cs:=([li 0]++([li 0]++([li 0]++([li 0]++([li 0]++((cA 5 (eS cI) ([]:List Int) (List.replicate 5 ([]:List Int)))++[]))))))) (la:=(zO (⟨d1,d2,d3,d4,d5,l1⟩:zi))) Tryz.sizeOf51 rfl rfl rfl rfl)<|zA (zD rfl) ?_
 refine zF<|zb ?_
 cases h
 exact zA5 (zDV Tryz.isAgg51 Tryz.sizeOf51 rfl rfl rfl rfl) (zAI rfl rfl) rfl
theorem zPh {R:Int} {r:zL×Int} (h:zMs R=some r):PFn Tryz.prog 82 [li R] (AV.tup [(AV.agg (zI r.1)),li r.2]):=by
 refine zm Tryz.func82 rfl Tryz.ntmps82 Tryz.results82 rfl ?_
 unfold zMs at h
 refine zH<|zC<|zX (H':=[.box 55 [(ls (cS cI) ([]:List (List Int)))]]) zv1<|zA (zD rfl)<|zF<|zH ?_
 refine zH<|zC<|zA (zB rfl)<|zA (zh rfl rfl)<|zA (zB rfl)<|zZ rfl rfl (fun c1=>zq.step (zB rfl)) ?_
 refine zZ rfl rfl (fun c2=>zq.step (zAo (z8 rfl c2) rfl))<|zA (zj rfl rfl)<|zF ?_
 refine zW h rfl (fun b1 h => ?_) (fun b1 h => ?_)
 ·refine zH<|zC<|zA zv2<|zd (H':=[.box 55 (zI (⟨([]:List (List Int))⟩:zL))]) (zT (k:=0) (o:=0) (cs:=[(ls (cS cI) ([]:List (List Int)))]) (la:=(zI (⟨([]:List (List Int))⟩:zL))) Tryz.sizeOf55 rfl rfl rfl rfl)<|zA (zD rfl)<|zF ?_
  refine zb ?_
  cases h
  exact zA5 (zDV Tryz.isAgg55 Tryz.sizeOf55 rfl rfl rfl rfl) (zAI rfl rfl) rfl
 refine zQ<|zH<|zC<|zA (zB rfl)<|zM h fun b2 h=>zEU (f:=(cS cI)) (a:=R) (c:=R) (d0:=([]:List Int)) zOv ⟨zAx.nils,trivial⟩ rfl Tryz.underlying53 rfl rfl b2 ?_
 refine zA (zCT (pl:=[(0,1)]) (zs:=[.slice none 0 0]) (zc:=[.sl false []]) (res:=[AV.hd 1]) (fun _=>by kernel_rfl) rfl (⟨zAx.nils,trivial⟩) ⟨AV.hd 1,0,1,rfl,rfl,rfl,rfl,rfl,(by exact zLu.refl _)⟩)<|zd (H':=[.box 55 [AV.hd 1],.vec 22 1 (List.map (cS cI) (List.replicate R.toNat ([]:List Int)))]) (zT (k:=0) (o:=0) (cs:=[(ls (cS cI) ([]:List (List Int)))]) (la:=[AV.hd 1]) Tryz.sizeOf55 rfl rfl rfl rfl)<|zA (zD rfl)<|zF<|zAS (z9 (k:=0) (j:=1) (o:=0) rfl rfl rfl rfl)<|zAS (zA4 (k:=0) (o:=0) (rows':=List.map (cS cI) (List.replicate R.toNat ([]:List Int))) rfl rfl (zAM (fun _=>rfl))) ?_
 refine zb ?_
 cases h
 exact zA5 (zDV Tryz.isAgg55 Tryz.sizeOf55 rfl rfl rfl rfl) (zAI rfl rfl) rfl
theorem zNW {A:List Int} {D:Int} {G:Int} {X:List zCH} {r:zJ×Int} (h:zGy A D G X=some r):PFn Tryz.prog 36 [ls cI A,li D,li G,ls zAh X] (AV.tup [(AV.agg (zG r.1)),li r.2]):=by
 refine zm Tryz.func36 rfl Tryz.ntmps36 Tryz.results36 rfl ?_
 unfold zGy at h
 refine zH<|zC<|zX (H':=[.box 26 (zG ⟨[],0,0,[],[]⟩)]) zv3<|zA (zD rfl)<|zF ?_
 refine zx (r:=r) (fun (d1:List Int)=>mkE [(0,(ls cI A)),(3,(ls zAh X)),(8,(AV.ptr 0 0)),(10,(AV.ptr 1 0))]) (fun d1=>[.box 26 (zG ⟨[],0,0,[],[]⟩),.box 26 [ls cI d1,li D,li G,AV.osl 51 10 (List.map zO (List.replicate (X.length:Int).toNat (zK1))),AV.osl 55 1 (List.map zI ([]:List zL))]]) (fun d1=>zIf A D G X d1) ?_ ?_
 ·
  refine zP h fun x4 w4 h=>zM h fun b11 h => ?_
  refine zUF (n:=82) (m:=0) 6 8 [9] [6,7,8] [.head 0 2,.head 0 2,.head 0 2,.head 0 2,.head 0 0,.head 0 0,.tail 0,.head 1 2,.tail 1,.tail 2] [.head 0 2,.head 0 2,.head 0 2,.head 0 2,.head 0 1,.head 0 1,.tail 1,.head 2 2,.tail 0,.tail 2] [ls cI A,ls cI x4,li D,li G,ls zAh X,(li (X.length:Int)),AV.hd 1,(AV.agg [ls cI x4,li D,li G,AV.hd 1,AV.osl 55 1 (List.map zI ([]:List zL))]),AV.ptr 2 0,.any] [ls cI A,ls cI x4,li D,li G,ls zAh X,(li (X.length:Int)),AV.hd 2,(AV.agg [ls cI x4,li D,li G,AV.hd 2,AV.osl 55 1 (List.map zI ([]:List zL))]),AV.ptr 1 0,.any] [[.box 26 (zG ⟨[],0,0,[],[]⟩)],[.box 26 (zG ⟨[],0,0,[],[]⟩),.vec 51 10 (List.map zO (List.replicate (X.length:Int).toNat (zK1)))],[.box 26 (zG ⟨[],0,0,[],[]⟩),.vec 51 10 (List.map zO (List.replicate (X.length:Int).toNat (zK1))),.box 26 [AV.osl 3 1 (List.map cI ([]:List Int)),li 0,li 0,AV.osl 51 10 (List.map zO ([]:List zi)),AV.osl 55 1 (List.map zI ([]:List zL))]],[.box 26 (zG ⟨[],0,0,[],[]⟩),.vec 51 10 (List.map zO (List.replicate (X.length:Int).toNat (zK1))),.box 26 [ls cI x4,li D,li G,AV.hd 1,AV.osl 55 1 (List.map zI ([]:List zL))]]] [[.box 26 (zG ⟨[],0,0,[],[]⟩)],[.box 26 (zG ⟨[],0,0,[],[]⟩),.box 26 [AV.osl 3 1 (List.map cI ([]:List Int)),li 0,li 0,AV.osl 51 10 (List.map zO ([]:List zi)),AV.osl 55 1 (List.map zI ([]:List zL))]],[.box 26 (zG ⟨[],0,0,[],[]⟩),.box 26 [AV.osl 3 1 (List.map cI ([]:List Int)),li 0,li 0,AV.osl 51 10 (List.map zO ([]:List zi)),AV.osl 55 1 (List.map zI ([]:List zL))],.vec 51 10 (List.map zO (List.replicate (X.length:Int).toNat (zK1)))],[.box 26 (zG ⟨[],0,0,[],[]⟩),.box 26 [ls cI x4,li D,li G,AV.hd 2,AV.osl 55 1 (List.map zI ([]:List zL))],.vec 51 10 (List.map zO (List.replicate (X.length:Int).toNat (zK1)))]] (by kernel_rfl) (by kernel_rfl) (by kernel_rfl) ⟨.inr rfl,⟨.inr rfl,⟨.inr rfl,⟨.inr rfl,⟨.inr rfl,⟨.inr rfl,⟨.inl rfl,⟨.inl rfl,⟨.inl rfl,⟨.inr rfl,trivial⟩⟩⟩⟩⟩⟩⟩⟩⟩⟩ (by kernel_rfl) rfl rfl ⟨⟨?_,?_,?_⟩,⟨?_,?_,?_⟩,⟨?_,?_,?_⟩,⟨?_,?_,?_⟩,?_,?_,?_,⟨?_,?_⟩,?_,?_,trivial⟩ ⟨⟨?_,?_,?_⟩,⟨?_,?_,?_⟩,⟨?_,?_,?_⟩,⟨?_,?_,?_⟩,⟨?_,?_⟩,⟨?_,?_⟩,?_,?_,?_,?_,trivial⟩ ?_ ?_
  ·exact D1 fun e s p=>zB (s 0 rfl)
  ·exact D1 fun e s p=>zB (s 0 rfl)
  ·exact D1 fun e s p=>zB (s 0 rfl)
  ·
   intro e4 s4 p4
   refine zAq (r':=(ls cI x4)) (la:=[ls cI A]) (la':=[ls cI A]) (r:=(AV.osl 3 1 (List.map cI x4))) (S:=[]) Tryz.func80 rfl (by kernel_rfl) (.fn 80) (zAL p4.1 rfl) ⟨zAl.nr rfl,trivial⟩ (zAX w4) (.inl rfl) (congrArg (AV.sl false) (zAM (fun _=>rfl))) ?_
   exact zF ⟨fun _=>rfl,rfl⟩
  ·
   intro e5 s5 p5
   refine zAq (r':=(ls cI x4)) (la:=[ls cI A]) (la':=[ls cI A]) (r:=(AV.osl 3 1 (List.map cI x4))) (S:=[]) Tryz.func80 rfl (by kernel_rfl) (.fn 80) (zAL p5.1 rfl) ⟨zAl.nr rfl,trivial⟩ (zAX w4) (.inl rfl) (congrArg (AV.sl false) (zAM (fun _=>rfl))) ?_
   exact zF ⟨fun _=>rfl,rfl⟩
  ·
   intro e6 s6 p6
   refine zAq (r':=(ls cI x4)) (la:=[ls cI A]) (la':=[ls cI A]) (r:=(AV.osl 3 1 (List.map cI x4))) (S:=[]) Tryz.func80 rfl (by kernel_rfl) (.fn 80) (zAL p6.1 rfl) ⟨zAl.nr rfl,trivial⟩ (zAX w4) (.inl rfl) (congrArg (AV.sl false) (zAM (fun _=>rfl))) ?_
   exact zF ⟨fun _=>rfl,rfl⟩
  ·exact D1 fun e s p=>zB (s 1 rfl)
  ·exact D1 fun e s p=>zB (s 1 rfl)
  ·exact D1 fun e s p=>zB (s 1 rfl)
  ·exact D1 fun e s p=>zB (s 2 rfl)
  ·exact D1 fun e s p=>zB (s 2 rfl)
  ·exact D1 fun e s p=>zB (s 2 rfl)
  ·exact D1 fun e s p=>zB (s 3 rfl)
  ·exact D1 fun e s p=>zY (f:=zAh) (l:=X) Tryz.underlying47 p.1
  ·
   intro e15 s15 p15
   refine zEU (f:=zO) (a:=(X.length:Int)) (c:=(X.length:Int)) (d0:=(zK1)) zOk ⟨zAx.refl _,⟨zAx.refl _,⟨zAx.refl _,⟨zAx.refl _,⟨zAx.refl _,⟨zAx.nils,⟨zAx.nils,⟨zAx.nils,⟨zAx.nils,⟨zAx.nils,trivial⟩⟩⟩⟩⟩⟩⟩⟩⟩⟩ rfl Tryz.underlying23 p15.2.1 p15.2.1 b11 ?_
   exact zF ⟨fun _=>rfl,rfl⟩
  ·exact D1 fun e s p=>zCT (pl:=[(0,1),(1,1),(2,1),(3,1),(4,1)]) (zs:=[.slice none 0 0,.int .i64 0,.int .i64 0,.slice none 0 0,.slice none 0 0]) (zc:=[.osl 3 1 [],.lit (.int .i64 0),.lit (.int .i64 0),.osl 51 10 [],.osl 55 1 []]) (res:=[ls cI x4,li D,li G,AV.hd 1,AV.osl 55 1 (List.map zI ([]:List zL))]) (fun _=>by kernel_rfl) rfl (⟨zAx.nilo,⟨zAx.refl _,⟨zAx.refl _,⟨zAx.nilo,⟨zAx.nilo,trivial⟩⟩⟩⟩⟩) ⟨ls cI x4,0,1,rfl,p.1,rfl,rfl,rfl,⟨li D,1,1,rfl,p.2.1,rfl,rfl,rfl,⟨li G,2,1,rfl,p.2.2.1,rfl,rfl,rfl,⟨AV.hd 1,3,1,rfl,p.2.2.2.1,rfl,rfl,rfl,(by exact zLu.refl _)⟩⟩⟩⟩
  ·exact D1 fun e s p=>zCT (pl:=[(0,1),(1,1),(2,1),(3,1),(4,1)]) (zs:=[.slice none 0 0,.int .i64 0,.int .i64 0,.slice none 0 0,.slice none 0 0]) (zc:=[.osl 3 1 [],.lit (.int .i64 0),.lit (.int .i64 0),.osl 51 10 [],.osl 55 1 []]) (res:=[ls cI x4,li D,li G,AV.hd 1,AV.osl 55 1 (List.map zI ([]:List zL))]) (fun _=>by kernel_rfl) rfl (⟨zAx.nilo,⟨zAx.refl _,⟨zAx.refl _,⟨zAx.nilo,⟨zAx.nilo,trivial⟩⟩⟩⟩⟩) ⟨ls cI x4,0,1,rfl,p.1,rfl,rfl,rfl,⟨li D,1,1,rfl,p.2.1,rfl,rfl,rfl,⟨li G,2,1,rfl,p.2.2.1,rfl,rfl,rfl,⟨AV.hd 1,3,1,rfl,p.2.2.2.1,rfl,rfl,rfl,(by exact zLu.refl _)⟩⟩⟩⟩
  ·
   intro e18 s18 p18
   refine zX (H':=[.box 26 (zG ⟨[],0,0,[],[]⟩),.vec 51 10 (List.map zO (List.replicate (X.length:Int).toNat (zK1))),.box 26 [AV.osl 3 1 (List.map cI ([]:List Int)),li 0,li 0,AV.osl 51 10 (List.map zO ([]:List zi)),AV.osl 55 1 (List.map zI ([]:List zL))]]) zv4 ?_
   exact zF ⟨fun _=>rfl,rfl⟩
  ·
   intro e19 s19 p19
   refine zd (H':=[.box 26 (zG ⟨[],0,0,[],[]⟩),.vec 51 10 (List.map zO (List.replicate (X.length:Int).toNat (zK1))),.box 26 [ls cI x4,li D,li G,AV.hd 1,AV.osl 55 1 (List.map zI ([]:List zL))]]) (zT (k:=2) (o:=0) (cs:=[AV.osl 3 1 (List.map cI ([]:List Int)),li 0,li 0,AV.osl 51 10 (List.map zO ([]:List zi)),AV.osl 55 1 (List.map zI ([]:List zL))]) (la:=[ls cI x4,li D,li G,AV.hd 1,AV.osl 55 1 (List.map zI ([]:List zL))]) Tryz.sizeOf26 (by exact p19.2.2.2.2.2.2.2.2.2.2.2.1) rfl rfl (by exact p19.2.2.2.2.2.2.2.2.2.2.1)) ?_
   exact zF ⟨fun _=>rfl,rfl⟩
  ·exact D1 fun e s p=>zB (s 0 rfl)
  ·exact D1 fun e s p=>zB (s 0 rfl)
  ·exact D1 fun e s p=>zB (s 0 rfl)
  ·
   intro e23 s23 p23
   refine zAq (r':=(ls cI x4)) (la:=[ls cI A]) (la':=[ls cI A]) (r:=(AV.osl 3 1 (List.map cI x4))) (S:=[]) Tryz.func80 rfl (by kernel_rfl) (.fn 80) (zAL p23.1 rfl) ⟨zAl.nr rfl,trivial⟩ (zAX w4) (.inl rfl) (congrArg (AV.sl false) (zAM (fun _=>rfl))) ?_
   exact zF ⟨fun _=>rfl,rfl⟩
  ·
   intro e24 s24 p24
   refine zAq (r':=(ls cI x4)) (la:=[ls cI A]) (la':=[ls cI A]) (r:=(AV.osl 3 1 (List.map cI x4))) (S:=[]) Tryz.func80 rfl (by kernel_rfl) (.fn 80) (zAL p24.1 rfl) ⟨zAl.nr rfl,trivial⟩ (zAX w4) (.inl rfl) (congrArg (AV.sl false) (zAM (fun _=>rfl))) ?_
   exact zF ⟨fun _=>rfl,rfl⟩
  ·
   intro e25 s25 p25
   refine zAq (r':=(ls cI x4)) (la:=[ls cI A]) (la':=[ls cI A]) (r:=(AV.osl 3 1 (List.map cI x4))) (S:=[]) Tryz.func80 rfl (by kernel_rfl) (.fn 80) (zAL p25.1 rfl) ⟨zAl.nr rfl,trivial⟩ (zAX w4) (.inl rfl) (congrArg (AV.sl false) (zAM (fun _=>rfl))) ?_
   exact zF ⟨fun _=>rfl,rfl⟩
  ·exact D1 fun e s p=>zB (s 1 rfl)
  ·exact D1 fun e s p=>zB (s 1 rfl)
  ·exact D1 fun e s p=>zB (s 1 rfl)
  ·exact D1 fun e s p=>zB (s 2 rfl)
  ·exact D1 fun e s p=>zB (s 2 rfl)
  ·exact D1 fun e s p=>zB (s 2 rfl)
  ·exact D1 fun e s p=>zB (s 3 rfl)
  ·exact D1 fun e s p=>zB (s 3 rfl)
  ·exact D1 fun e s p=>zY (f:=zAh) (l:=X) Tryz.underlying47 p.1
  ·exact D1 fun e s p=>zY (f:=zAh) (l:=X) Tryz.underlying47 p.1
  ·
   intro e36 s36 p36
   refine zEU (f:=zO) (a:=(X.length:Int)) (c:=(X.length:Int)) (d0:=(zK1)) zOk ⟨zAx.refl _,⟨zAx.refl _,⟨zAx.refl _,⟨zAx.refl _,⟨zAx.refl _,⟨zAx.nils,⟨zAx.nils,⟨zAx.nils,⟨zAx.nils,⟨zAx.nils,trivial⟩⟩⟩⟩⟩⟩⟩⟩⟩⟩ rfl Tryz.underlying23 p36.2.1 p36.2.1 b11 ?_
   exact zF ⟨fun _=>rfl,rfl⟩
  ·exact D1 fun e s p=>zCT (pl:=[(0,1),(1,1),(2,1),(3,1),(4,1)]) (zs:=[.slice none 0 0,.int .i64 0,.int .i64 0,.slice none 0 0,.slice none 0 0]) (zc:=[.osl 3 1 [],.lit (.int .i64 0),.lit (.int .i64 0),.osl 51 10 [],.osl 55 1 []]) (res:=[ls cI x4,li D,li G,AV.hd 2,AV.osl 55 1 (List.map zI ([]:List zL))]) (fun _=>by kernel_rfl) rfl (⟨zAx.nilo,⟨zAx.refl _,⟨zAx.refl _,⟨zAx.nilo,⟨zAx.nilo,trivial⟩⟩⟩⟩⟩) ⟨ls cI x4,0,1,rfl,p.1,rfl,rfl,rfl,⟨li D,1,1,rfl,p.2.1,rfl,rfl,rfl,⟨li G,2,1,rfl,p.2.2.1,rfl,rfl,rfl,⟨AV.hd 2,3,1,rfl,p.2.2.2.1,rfl,rfl,rfl,(by exact zLu.refl _)⟩⟩⟩⟩
  ·
   intro e38 s38 p38
   refine zX (H':=[.box 26 (zG ⟨[],0,0,[],[]⟩),.box 26 [AV.osl 3 1 (List.map cI ([]:List Int)),li 0,li 0,AV.osl 51 10 (List.map zO ([]:List zi)),AV.osl 55 1 (List.map zI ([]:List zL))]]) zv4 ?_
   exact zF ⟨fun _=>rfl,rfl⟩
  ·
   intro e39 s39 p39
   refine zd (H':=[.box 26 (zG ⟨[],0,0,[],[]⟩),.box 26 [ls cI x4,li D,li G,AV.hd 2,AV.osl 55 1 (List.map zI ([]:List zL))],.vec 51 10 (List.map zO (List.replicate (X.length:Int).toNat (zK1)))]) (zT (k:=1) (o:=0) (cs:=[AV.osl 3 1 (List.map cI ([]:List Int)),li 0,li 0,AV.osl 51 10 (List.map zO ([]:List zi)),AV.osl 55 1 (List.map zI ([]:List zL))]) (la:=[ls cI x4,li D,li G,AV.hd 2,AV.osl 55 1 (List.map zI ([]:List zL))]) Tryz.sizeOf26 (by exact p39.2.2.2.2.2.2.2.2.2.2.2.1) rfl rfl (by exact p39.2.2.2.2.2.2.2.2.2.2.1)) ?_
   exact zF ⟨fun _=>rfl,rfl⟩
  ·
   intro e40 s40 hq1
   exact ⟨x4,Rep.trans (zBI (l:=[(0,(ls cI A)),(3,(ls zAh X)),(8,(AV.ptr 0 0)),(10,(AV.ptr 2 0))]) ⟨s40 0 rfl,s40 3 rfl,s40 8 rfl,(hq1 8 (by decide) (by decide)),trivial⟩) (Rep.trans (z9 (k:=2) (j:=1) (o:=3) (cs:=[ls cI x4,li D,li G,AV.hd 1,AV.osl 55 1 (List.map zI ([]:List zL))]) rfl rfl rfl rfl) (zAD [0,2] (l:=[(0,(ls cI A)),(3,(ls zAh X)),(8,(AV.ptr 0 0)),(10,(AV.ptr 1 0))]) rfl rfl (by kernel_rfl))),h⟩
  intro e41 s41 hq2
  exact ⟨x4,Rep.trans (zBI (l:=[(0,(ls cI A)),(3,(ls zAh X)),(8,(AV.ptr 0 0)),(10,(AV.ptr 1 0))]) ⟨s41 0 rfl,s41 3 rfl,s41 8 rfl,(hq2 8 (by decide) (by decide)),trivial⟩) (Rep.trans (z9 (k:=1) (j:=2) (o:=3) (cs:=[ls cI x4,li D,li G,AV.hd 2,AV.osl 55 1 (List.map zI ([]:List zL))]) rfl rfl rfl rfl) (zAD [0,1] (l:=[(0,(ls cI A)),(3,(ls zAh X)),(8,(AV.ptr 0 0)),(10,(AV.ptr 1 0))]) rfl rfl (by kernel_rfl))),h⟩
 clear h
 intro d1 h
 unfold zIf at h
 refine zH<|zH<|zC<|z5 (zAZ (k:=1) (o:=3) (t':=51) (sz:=10) (rows:=List.map zO (List.replicate (X.length:Int).toNat (zK1))) rfl rfl)<|z5 (zAZ (k:=1) (o:=4) (t':=55) (sz:=1) (rows:=List.map zI ([]:List zL)) rfl rfl)<|zA (zS (k:=1) (o:=0) (m:=5) Tryz.isAgg26 Tryz.sizeOf26 rfl rfl rfl rfl rfl) ?_
 refine zP h fun x1 w1 h=>zAq (r':=(AV.lit (.bool x1))) (la:=[(AV.agg [ls cI d1,li D,li G,AV.hd 2,AV.hd 3])]) (la':=[(AV.agg (zG ⟨d1,D,G,(List.replicate (X.length:Int).toNat (zK1)),[]⟩))]) (r:=(AV.lit (.bool x1))) (S:=[2,3]) Tryz.func41 rfl (by kernel_rfl) (.fn 41) rfl ⟨zAl.agg (by exact ⟨zAl.nr rfl,⟨zAl.nr rfl,⟨zAl.nr rfl,⟨zGf (fun _=>rfl) rfl rfl,⟨zGf (fun _=>rfl) rfl rfl,trivial⟩⟩⟩⟩⟩),trivial⟩ (zIo w1) (.inr trivial) rfl<|zA (zAv (t:=x1) rfl)<|zF ?_
 refine zW h rfl (fun b1 h => ?_) (fun b1 h => ?_)
 ·refine zH<|zC<|zA (zCT (pl:=[(0,1),(1,1),(2,1),(3,1),(4,1)]) (zs:=[.slice none 0 0,.int .i64 0,.int .i64 0,.slice none 0 0,.slice none 0 0]) (zc:=[.osl 3 1 [],.lit (.int .i64 0),.lit (.int .i64 0),.osl 51 10 [],.osl 55 1 []]) (res:=[AV.osl 3 1 (List.map cI ([]:List Int)),li 0,li 0,AV.osl 51 10 (List.map zO ([]:List zi)),AV.osl 55 1 (List.map zI ([]:List zL))]) (fun _=>by kernel_rfl) rfl (⟨zAx.nilo,⟨zAx.refl _,⟨zAx.refl _,⟨zAx.nilo,⟨zAx.nilo,trivial⟩⟩⟩⟩⟩) (by exact zLu.refl _))<|zd (H':=[.box 26 [AV.osl 3 1 (List.map cI ([]:List Int)),li 0,li 0,AV.osl 51 10 (List.map zO ([]:List zi)),AV.osl 55 1 (List.map zI ([]:List zL))],.box 26 [ls cI d1,li D,li G,AV.hd 2,AV.hd 3],.vec 51 10 (List.map zO (List.replicate (X.length:Int).toNat (zK1))),.vec 55 1 (List.map zI ([]:List zL))]) (zT (k:=0) (o:=0) (cs:=(zG ⟨[],0,0,[],[]⟩)) (la:=[AV.osl 3 1 (List.map cI ([]:List Int)),li 0,li 0,AV.osl 51 10 (List.map zO ([]:List zi)),AV.osl 55 1 (List.map zI ([]:List zL))]) Tryz.sizeOf26 rfl rfl rfl rfl)<|zA (zD rfl)<|zF ?_
  refine zAS (zA4 (k:=0) (o:=0) (rows':=List.map cI ([]:List Int)) rfl rfl (zAM (fun _=>rfl)))<|zAS (zA4 (k:=0) (o:=3) (rows':=List.map zO ([]:List zi)) rfl rfl (zAM (fun _=>rfl)))<|zAS (zA4 (k:=0) (o:=4) (rows':=List.map zI ([]:List zL)) rfl rfl (zAM (fun _=>rfl)))<|zb ?_
  cases h
  exact zA5 (zDV Tryz.isAgg26 Tryz.sizeOf26 rfl rfl rfl rfl) (zAI rfl rfl) rfl
 refine zQ<|zH<|zC<|zA (zD rfl)<|zF ?_
 refine zx (r:=r) (fun (l1:List zi)=>mkE [(0,(ls cI A)),(3,(ls zAh X)),(8,(AV.ptr 0 0)),(10,(AV.ptr 1 0))]) (fun l1=>[.box 26 (zG ⟨[],0,0,[],[]⟩),.box 26 [ls cI d1,li D,li G,AV.osl 51 10 (List.map zO l1),AV.osl 55 1 (List.map zI ([]:List zL))]]) (fun l1=>zIl A D G X d1 l1) ?_ ?_
 ·
  refine zH<|zC<|zA (zB rfl)<|zA (zY Tryz.underlying47 rfl)<|zA (zB rfl)<|zF ?_
  refine zR<|zt (σ:=Int×Int×(List zi)) (fun (i2,i3,l4)=>mkE [(0,(ls cI A)),(3,(ls zAh X)),(8,(AV.ptr 0 0)),(10,(AV.ptr 1 0)),(11,(li i2)),(30,(ls zAh X)),(31,(li (X.length:Int))),(32,(li i3))]) (fun (i2,i3,l4)=>[.box 26 (zG ⟨[],0,0,[],[]⟩),.box 26 [ls cI d1,li D,li G,AV.osl 51 10 (List.map zO l4),AV.osl 55 1 (List.map zI ([]:List zL))]]) (fun n1 (i2,i3,l4)=>zGe A D G X d1 n1 i2 i3 l4) (0,0,(List.replicate (X.length:Int).toNat (zK1))) h (fun _=>rfl) (Rep.trans (z9 (k:=1) (j:=2) (o:=3) rfl rfl rfl rfl) (Rep.trans (z9 (k:=1) (j:=3) (o:=4) rfl rfl rfl rfl) (zAD [0,1] (l:=[(0,(ls cI A)),(3,(ls zAh X)),(8,(AV.ptr 0 0)),(10,(AV.ptr 1 0)),(11,(li 0)),(30,(ls zAh X)),(31,(li (X.length:Int))),(32,(li 0))]) rfl rfl (by kernel_rfl)))) ?_
  clear h
  rintro n1 ⟨i2,i3,l4⟩ h
  replace h:zIW A D G X d1 (zGe A D G X d1 n1) i2 i3 l4=some r:=h
  unfold zIW at h
  refine zH<|zC<|zA (zh rfl rfl)<|zF<|zH ?_
  refine zW h rfl (fun b5 h => ?_) (fun b5 h => ?_)
  ·refine zQ<|zH<|zR<|zH<|zC<|zA (zB rfl) ?_
   refine zM h fun b6 h=>zA (zV Tryz.underlying47 Tryz.sizeOf46 (fun _=>rfl) rfl rfl b6)<|zA (zAf (row:=(zAh (at_ X i3))) (o:=0) (m:=4) (la:=(zAh (at_ X i3))) Tryz.isAgg46 Tryz.sizeOf46 rfl rfl rfl)<|zX (H':=[.box 26 (zG ⟨[],0,0,[],[]⟩),.box 26 [ls cI d1,li D,li G,AV.osl 51 10 (List.map zO l4),AV.osl 55 1 (List.map zI ([]:List zL))],.box 46 [li 0,li 0,li 0,li 0]]) zv5<|zA (zD rfl)<|zd (H':=[.box 26 (zG ⟨[],0,0,[],[]⟩),.box 26 [ls cI d1,li D,li G,AV.osl 51 10 (List.map zO l4),AV.osl 55 1 (List.map zI ([]:List zL))],.box 46 (zAh (at_ X i3))]) (zT (k:=2) (o:=0) (cs:=[li 0,li 0,li 0,li 0]) (la:=(zAh (at_ X i3))) Tryz.sizeOf46 rfl rfl rfl rfl) ?_
   refine zF<|zH<|zC<|zA (zK Tryz.underlying46 rfl rfl Tryz.sizeOf3 rfl)<|zA (zN Tryz.isAgg3 rfl rfl rfl rfl)<|zA (zK Tryz.underlying46 rfl rfl Tryz.sizeOf3 rfl) ?_
   refine zA (zN Tryz.isAgg3 rfl rfl rfl rfl)<|zA (zB rfl)<|zA (zK Tryz.underlying46 rfl rfl Tryz.sizeOf3 rfl)<|zA (zN Tryz.isAgg3 rfl rfl rfl rfl)<|zA (zK Tryz.underlying46 rfl rfl Tryz.sizeOf3 rfl)<|zA (zN Tryz.isAgg3 rfl rfl rfl rfl) ?_
   refine zP h fun x3 w3 h=>ze Tryz.func81 rfl (by kernel_rfl) (.fn 81) rfl rfl (zP5 w3) rfl<|zA (zB rfl)<|zA (za rfl rfl)<|zA (za rfl rfl)<|zX (H':=[.box 26 (zG ⟨[],0,0,[],[]⟩),.box 26 [ls cI d1,li D,li G,AV.osl 51 10 (List.map zO l4),AV.osl 55 1 (List.map zI ([]:List zL))],.box 46 (zAh (at_ X i3)),.box 51 (zO ⟨0,0,0,0,0,(List.replicate 5 ([]:List Int))⟩)]) zv0 ?_
   refine zd (H':=[.box 26 (zG ⟨[],0,0,[],[]⟩),.box 26 [ls cI d1,li D,li G,AV.osl 51 10 (List.map zO l4),AV.osl 55 1 (List.map zI ([]:List zL))],.box 46 (zAh (at_ X i3)),.box 51 (zO x3.1)]) (zT (k:=3) (o:=0) (cs:=(zO ⟨0,0,0,0,0,(List.replicate 5 ([]:List Int))⟩)) (la:=(zO x3.1)) Tryz.sizeOf51 rfl rfl rfl rfl)<|zA (zD rfl)<|zF<|zH<|zH<|zC ?_
   refine zA (zB rfl)<|zA (z7 rfl rfl)<|zF ?_
   refine zW h rfl (fun b7 h => ?_) (fun b7 h => ?_)
   ·refine zH<|zC<|zA (zCT (pl:=[(0,1),(1,1),(2,1),(3,1),(4,1)]) (zs:=[.slice none 0 0,.int .i64 0,.int .i64 0,.slice none 0 0,.slice none 0 0]) (zc:=[.osl 3 1 [],.lit (.int .i64 0),.lit (.int .i64 0),.osl 51 10 [],.osl 55 1 []]) (res:=[AV.osl 3 1 (List.map cI ([]:List Int)),li 0,li 0,AV.osl 51 10 (List.map zO ([]:List zi)),AV.osl 55 1 (List.map zI ([]:List zL))]) (fun _=>by kernel_rfl) rfl (⟨zAx.nilo,⟨zAx.refl _,⟨zAx.refl _,⟨zAx.nilo,⟨zAx.nilo,trivial⟩⟩⟩⟩⟩) (by exact zLu.refl _))<|zA (zB rfl)<|zd (H':=[.box 26 [AV.osl 3 1 (List.map cI ([]:List Int)),li 0,li 0,AV.osl 51 10 (List.map zO ([]:List zi)),AV.osl 55 1 (List.map zI ([]:List zL))],.box 26 [ls cI d1,li D,li G,AV.osl 51 10 (List.map zO l4),AV.osl 55 1 (List.map zI ([]:List zL))],.box 46 (zAh (at_ X i3)),.box 51 (zO x3.1)]) (zT (k:=0) (o:=0) (cs:=(zG ⟨[],0,0,[],[]⟩)) (la:=[AV.osl 3 1 (List.map cI ([]:List Int)),li 0,li 0,AV.osl 51 10 (List.map zO ([]:List zi)),AV.osl 55 1 (List.map zI ([]:List zL))]) Tryz.sizeOf26 rfl rfl rfl rfl)<|zA (zD rfl) ?_
    refine zF<|zAS (zA4 (k:=0) (o:=0) (rows':=List.map cI ([]:List Int)) rfl rfl (zAM (fun _=>rfl)))<|zAS (zA4 (k:=0) (o:=3) (rows':=List.map zO ([]:List zi)) rfl rfl (zAM (fun _=>rfl)))<|zAS (zA4 (k:=0) (o:=4) (rows':=List.map zI ([]:List zL)) rfl rfl (zAM (fun _=>rfl)))<|zb ?_
    cases h
    exact zA5 (zDV Tryz.isAgg26 Tryz.sizeOf26 rfl rfl rfl rfl) (zAI rfl rfl) rfl
   refine zQ<|zH<|zC<|zA (zK Tryz.underlying26 rfl rfl Tryz.sizeOf23 rfl)<|z5 (zAZ (k:=1) (o:=3) (t':=51) (sz:=10) (rows:=List.map zO l4) rfl rfl)<|zA (zN Tryz.isAgg23 rfl rfl rfl rfl) ?_
   refine zA (zB rfl)<|zA (zS (k:=3) (o:=0) (m:=10) Tryz.isAgg51 Tryz.sizeOf51 rfl rfl rfl rfl rfl)<|zM h fun b8 h=>zA (zy (f:=zO) (l:=l4) (i:=i3) Tryz.underlying23 Tryz.sizeOf51 rfl rfl rfl b8)<|zd (H':=[.box 26 (zG ⟨[],0,0,[],[]⟩),.box 26 [ls cI d1,li D,li G,AV.hd 4,AV.osl 55 1 (List.map zI ([]:List zL))],.box 46 (zAh (at_ X i3)),.box 51 (zO x3.1),.vec 51 10 (List.map zO (l4.set i3.toNat x3.1))]) (zBG (k:=4) (o:=(i3.toNat*10)) (f:=zO) (l:=l4) (i:=i3) (z:=x3.1) Tryz.sizeOf51 (fun _=>rfl) rfl rfl (by first | rfl | omega) b8 rfl rfl)<|zF ?_
   refine zC<|zA (zB rfl)<|zA (zK Tryz.underlying46 rfl rfl Tryz.sizeOf3 rfl)<|zA (zN Tryz.isAgg3 rfl rfl rfl rfl)<|zM h fun b9 h=>zA (zg rfl rfl b9) ?_
   refine zA (zD rfl)<|zF<|zC<|zM h fun b10 h=>zA (zg rfl rfl b10)<|zA (zB rfl) ?_
   refine zF ?_
   exact ⟨((i2+((at_ X i3).count)),(i3+1),(l4.set i3.toNat x3.1)),Rep.trans (z9 (k:=1) (j:=4) (o:=3) rfl rfl rfl rfl) (zAD [0,1] (l:=[(0,(ls cI A)),(3,(ls zAh X)),(8,(AV.ptr 0 0)),(10,(AV.ptr 1 0)),(11,(li (i2+((at_ X i3).count)))),(30,(ls zAh X)),(31,(li (X.length:Int))),(32,(li (i3+1)))]) rfl rfl (by kernel_rfl)),h⟩
  refine zz ?_
  exact ⟨l4,zAD [0,1] rfl rfl (by kernel_rfl),h⟩
 clear h
 intro l1 h
 unfold zIl at h
 refine zx (r:=r) (fun (l2:List zL)=>mkE [(8,(AV.ptr 0 0)),(10,(AV.ptr 1 0))]) (fun l2=>[.box 26 (zG ⟨[],0,0,[],[]⟩),.box 26 [ls cI d1,li D,li G,AV.osl 51 10 (List.map zO l1),AV.osl 55 1 (List.map zI l2)]]) (fun l2=>zIk D G d1 l1 l2) ?_ ?_
 ·
  refine zH<|zC<|zA (zB rfl)<|zA (zY Tryz.underlying22 rfl)<|zA (zB rfl)<|zF ?_
  refine zR<|zt (σ:=Int×(List zL)) (fun (i1,l3)=>mkE [(3,(ls zAh X)),(8,(AV.ptr 0 0)),(10,(AV.ptr 1 0)),(65,(li (A.length:Int))),(66,(li i1))]) (fun (i1,l3)=>[.box 26 (zG ⟨[],0,0,[],[]⟩),.box 26 [ls cI d1,li D,li G,AV.osl 51 10 (List.map zO l1),AV.osl 55 1 (List.map zI l3)]]) (fun n0 (i1,l3)=>zGb A D G X d1 l1 n0 i1 l3) (0,([]:List zL)) h (fun _=>rfl) (zAD [0,1] rfl rfl (by kernel_rfl)) ?_
  clear h
  rintro n0 ⟨i1,l3⟩ h
  replace h:zIg A D G X d1 l1 (zGb A D G X d1 l1 n0) i1 l3=some r:=h
  unfold zIg at h
  refine zH<|zC<|zA (zh rfl rfl)<|zF<|zH ?_
  refine zW h rfl (fun b2 h => ?_) (fun b2 h => ?_)
  ·refine zQ<|zH<|zR<|zH<|zC<|zA (zB rfl) ?_
   refine zA (zY Tryz.underlying47 rfl)<|zP h fun x2 w2 h=>ze Tryz.func82 rfl (by kernel_rfl) (.fn 82) rfl rfl (zPh w2) rfl<|zA (zB rfl)<|zA (za rfl rfl)<|zA (za rfl rfl) ?_
   refine zX (H':=[.box 26 (zG ⟨[],0,0,[],[]⟩),.box 26 [ls cI d1,li D,li G,AV.osl 51 10 (List.map zO l1),AV.osl 55 1 (List.map zI l3)],.box 55 [AV.osl 22 1 (List.map (cS cI) ([]:List (List Int)))]]) zv6<|zd (H':=[.box 26 (zG ⟨[],0,0,[],[]⟩),.box 26 [ls cI d1,li D,li G,AV.osl 51 10 (List.map zO l1),AV.osl 55 1 (List.map zI l3)],.box 55 (zI x2.1)]) (zT (k:=2) (o:=0) (cs:=[AV.osl 22 1 (List.map (cS cI) ([]:List (List Int)))]) (la:=(zI x2.1)) Tryz.sizeOf55 rfl rfl rfl rfl)<|zA (zD rfl)<|zF<|zC<|zA (zK Tryz.underlying26 rfl rfl Tryz.sizeOf24 rfl) ?_
   refine z5 (zAZ (k:=1) (o:=4) (t':=55) (sz:=1) (rows:=List.map zI l3) rfl rfl)<|zA (zN Tryz.isAgg24 rfl rfl rfl rfl)<|zA (zS (k:=2) (o:=0) (m:=1) Tryz.isAgg55 Tryz.sizeOf55 rfl rfl rfl rfl rfl)<|zF6 (a:=(AV.agg (zI x2.1))) zO0 Tryz.underlying24 rfl rfl rfl rfl<|zM h fun b3 h=>zDE (f:=zI) (k:=3) (j:=4) (l:=l3) (l':=[x2.1]) zO0 (fun _=>rfl) Tryz.underlying24 rfl rfl rfl rfl b3 ?_
   refine zA (zK Tryz.underlying26 rfl rfl Tryz.sizeOf24 rfl)<|zd (H':=[.box 26 (zG ⟨[],0,0,[],[]⟩),.box 26 [ls cI d1,li D,li G,AV.osl 51 10 (List.map zO l1),AV.hd 5],.box 55 (zI x2.1),.dead,.vec 55 1 (List.map zI [x2.1]),.vec 55 1 (List.map zI (l3++[x2.1]))]) (zC3 (k:=1) (o:=4) (cs:=[ls cI d1,li D,li G,AV.osl 51 10 (List.map zO l1),AV.hd 3]) (a:=(AV.hd 5)) Tryz.sizeOf24 rfl rfl rfl rfl rfl)<|zF<|zC<|zM h fun b4 h=>zA (zg rfl rfl b4) ?_
   refine zA (zB rfl)<|zF ?_
   exact ⟨((i1+1),(l3++[x2.1])),Rep.trans (z9 (k:=1) (j:=5) (o:=4) rfl rfl rfl rfl) (zAD [0,1] (l:=[(3,(ls zAh X)),(8,(AV.ptr 0 0)),(10,(AV.ptr 1 0)),(65,(li (A.length:Int))),(66,(li (i1+1)))]) rfl rfl (by kernel_rfl)),h⟩
  refine zz ?_
  exact ⟨l3,zAD [0,1] rfl rfl (by kernel_rfl),h⟩
 clear h
 intro l2 h
 unfold zIk at h
 refine zH<|zC<|z5 (zA4 (k:=1) (o:=3) (rows':=List.map zO l1) rfl rfl (zAM (fun _=>rfl)))<|z5 (zA4 (k:=1) (o:=4) (rows':=List.map zI l2) rfl rfl (zAM (fun _=>rfl)))<|zA (zS (k:=1) (o:=0) (m:=5) Tryz.isAgg26 Tryz.sizeOf26 rfl rfl rfl rfl rfl)<|zd (H':=[.box 26 (zG (⟨d1,D,G,l1,l2⟩:zJ)),.box 26 (zG ⟨d1,D,G,l1,l2⟩)]) (zT (k:=0) (o:=0) (cs:=(zG ⟨[],0,0,[],[]⟩)) (la:=(zG (⟨d1,D,G,l1,l2⟩:zJ))) Tryz.sizeOf26 rfl rfl rfl rfl) ?_
 refine zA (zD rfl)<|zF<|zb ?_
 cases h
 exact zA5 (zDV Tryz.isAgg26 Tryz.sizeOf26 rfl rfl rfl rfl) (zAI rfl rfl) rfl
theorem zEC {A:zi} {r:Int} (h:zDP A=some r):PFn Tryz.prog 42 [(AV.agg (zO A))] (li r):=by
 refine zm Tryz.func42 rfl Tryz.ntmps42 Tryz.results42 rfl ?_
 unfold zDP at h
 refine zH<|zC<|zX (H':=[.box 51 (zO A)]) (zu (t:=51) rfl)<|zA (zD rfl)<|zF<|zH ?_
 refine zH<|zC<|zA (zS (k:=0) (o:=0) (m:=10) Tryz.isAgg51 Tryz.sizeOf51 rfl rfl rfl rfl rfl)<|zP h fun x1 w1 h=>zAq (r':=(AV.lit (.bool x1))) (la:=[(AV.agg (zO A))]) (la':=[(AV.agg ([li A.node,li A.kind,li A.start,li A.count,li A.min]++([AV.any,AV.any,AV.any,AV.any,AV.any]++[])))]) (r:=(AV.lit (.bool x1))) (S:=[]) Tryz.func85 rfl (by kernel_rfl) (.fn 85) rfl ⟨zLj (hd:=([li A.node]++[li A.kind]++[li A.start]++[li A.count]++[li A.min])) (tl:=((cA 5 (eS cI) ([]:List Int) A.free))) rfl,trivial⟩ (zK7 w1) (.inl rfl) rfl<|zA (zAv (t:=x1) rfl) ?_
 refine zF ?_
 refine zW h rfl (fun b1 h => ?_) (fun b1 h => ?_)
 ·refine zH<|zC<|zA (zD rfl)<|zF<|zb ?_
  cases h
  exact zv (zAI rfl rfl)
 refine zQ ?_
 refine zx (r:=r) (fun (_:Unit)=>mkE [(1,(AV.ptr 0 0))]) (fun _=>[.box 51 (zO A)]) (fun _=>zGF A) ?_ ?_
 ·
  refine zH<|zC<|zA (zK Tryz.underlying51 rfl rfl Tryz.sizeOf49 rfl)<|zA (zS (k:=0) (o:=5) (m:=5) Tryz.isAgg49 Tryz.sizeOf49 rfl rfl rfl rfl rfl)<|zA (zB rfl)<|zF ?_
  refine zR<|zt (σ:=Int) (fun i6=>mkE [(1,(AV.ptr 0 0)),(23,(AV.agg (cA 5 (eS cI) ([]:List Int) A.free))),(24,(li i6))]) (fun i6=>[.box 51 (zO A)]) (fun n5 i6=>zCp A n5 i6) 0 h (fun _=>rfl) (zAD [0] rfl rfl (by kernel_rfl)) ?_
  clear h
  intro n5 i6 h
  replace h:zD7 A (zCp A n5) i6=some r:=h
  unfold zD7 at h
  refine zH<|zC<|zA (zh rfl rfl)<|zF<|zH ?_
  refine zW h rfl (fun b26 h => ?_) (fun b26 h => ?_)
  ·refine zQ ?_
   refine zx (r:=r) (fun (_:Unit)=>mkE [(1,(AV.ptr 0 0)),(23,(AV.agg (cA 5 (eS cI) ([]:List Int) A.free))),(24,(li i6))]) (fun _=>[.box 51 (zO A)]) (fun _=>zH2 (zCp A n5) i6) ?_ ?_
   ·
    refine zR<|zH<|zC<|zA (zB rfl)<|zM h fun b28 h=>zA (zOC (la:=cA 5 (eS cI) ([]:List Int) A.free) (i:=i6) (a:=(ls cI (A.free.getD i6.toNat ([]:List Int)))) Tryz.underlying49 Tryz.sizeOf22 Tryz.isAgg22 rfl rfl b28 (zQZ (zBK b28).2) rfl) ?_
    refine zA (zD rfl)<|zA (zD rfl)<|zF<|zH<|zC<|zA (zB rfl) ?_
    refine zA (zY Tryz.underlying22 rfl)<|zA (zB rfl)<|zF<|zR<|zt (σ:=Int) (fun i7=>mkE [(1,(AV.ptr 0 0)),(3,(li i6)),(4,(ls cI (A.free.getD i6.toNat ([]:List Int)))),(23,(AV.agg (cA 5 (eS cI) ([]:List Int) A.free))),(24,(li i6)),(28,(ls cI (A.free.getD i6.toNat ([]:List Int)))),(29,(li ((A.free.getD i6.toNat ([]:List Int)).length:Int))),(30,(li i7))]) (fun i7=>[.box 51 (zO A)]) (fun n6 i7=>zGW (zCp A n5) A i6 n6 i7) 0 h (fun _=>rfl) (zAD [0] rfl rfl (by kernel_rfl)) ?_
    clear h
    intro n6 i7 h
    replace h:zEF (zCp A n5) A i6 (zGW (zCp A n5) A i6 n6) i7=some r:=h
    unfold zEF at h
    refine zH<|zC<|zA (zh rfl rfl)<|zF<|zH ?_
    refine zW h rfl (fun b29 h => ?_) (fun b29 h => ?_)
    ·refine zQ<|zH<|zR<|zH<|zC<|zA (zB rfl) ?_
     refine zM h fun b30 h=>zA (zV Tryz.underlying22 Tryz.sizeOf3 (fun _=>rfl) rfl rfl b30)<|zA (zU (o:=0) Tryz.isAgg3 rfl rfl)<|zA (zD rfl)<|zA (zD rfl)<|zF ?_
     refine zH<|zH<|zC<|zA (zS (k:=0) (o:=0) (m:=10) Tryz.isAgg51 Tryz.sizeOf51 rfl rfl rfl rfl rfl)<|zA (zB rfl)<|zA (zB rfl) ?_
     refine zP h fun x4 w4 h=>zAq (r':=(AV.lit (.bool x4))) (la:=[(AV.agg (zO A)),(li (at_ (A.free.getD i6.toNat ([]:List Int)) i7)),li i6]) (la':=[(AV.agg ([li A.node,li A.kind,li A.start,li A.count,li A.min]++([AV.any,AV.any,AV.any,AV.any,AV.any]++[]))),(li (at_ (A.free.getD i6.toNat ([]:List Int)) i7)),li i6]) (r:=(AV.lit (.bool x4))) (S:=[]) Tryz.func86 rfl (by kernel_rfl) (.fn 86) rfl ⟨zLj (hd:=([li A.node]++[li A.kind]++[li A.start]++[li A.count]++[li A.min])) (tl:=((cA 5 (eS cI) ([]:List Int) A.free))) rfl,zAl.nr rfl,zAl.nr rfl,trivial⟩ (zEf w4) (.inl rfl) rfl<|zA (zAv (t:=x4) rfl)<|zF ?_
     refine zW h rfl (fun b31 h => ?_) (fun b31 h => ?_)
     ·refine zH<|zC<|zA (zD rfl)<|zF<|zb ?_
      cases h
      exact zv (zAI rfl rfl)
     refine zQ<|zH<|zC<|zA (zB rfl)<|zA (zAo rfl rfl)<|zA (zB rfl) ?_
     refine zo rfl rfl (fun c8=>zq.step (zB rfl))<|zo rfl rfl (fun c9=>zq.step (zB rfl))<|zM h fun b32 h=>zo rfl rfl (fun c10=>zq.step (zBa (z8 rfl c10) rfl (zHd b32 c10)))<|zM h fun b33 h=>zo rfl rfl (fun c11=>zq.step (zV Tryz.underlying22 Tryz.sizeOf3 (fun _=>rfl) (z8 rfl c11) (z8 rfl c11) (zHd b33 c11))) ?_
     refine zo rfl rfl (fun c12=>zq.step (zU (o:=0) Tryz.isAgg3 (z8 rfl c12) rfl))<|zo rfl rfl (fun c13=>zq.step (zB rfl))<|zo rfl rfl (fun c14=>zq.step (zAu (z8 rfl c14) (z8 rfl c14)))<|zA (z6 (j := .lit undef) rfl rfl)<|zF ?_
     refine zW h rfl (fun b34 h => ?_) (fun b34 h => ?_)
     ·refine zH<|zC<|zA (zD rfl)<|zF<|zb ?_
      cases h
      exact zv (zAI rfl rfl)
     refine zQ<|zC<|zM h fun b35 h=>zA (zg rfl rfl b35)<|zA (zB rfl)<|zF ?_
     exact ⟨(i7+1),zAD [0] rfl rfl (by kernel_rfl),h⟩
    refine zz ?_
    exact ⟨(),zAD [0] rfl rfl (by kernel_rfl),h⟩
   clear h
   intro _ h
   unfold zH2 at h
   refine zC<|zM h fun b27 h=>zA (zg rfl rfl b27)<|zA (zB rfl)<|zF ?_
   exact ⟨(i6+1),zAD [0] rfl rfl (by kernel_rfl),h⟩
  refine zz ?_
  exact ⟨(),zAD [0] rfl rfl (by kernel_rfl),h⟩
 clear h
 intro _ h
 unfold zGF at h
 refine zH<|zC<|zX (H':=[.box 51 (zO A),.box 91 (cA 256 eB false (List.replicate 256 false))]) zv7<|zF ?_
 refine zx (r:=r) (fun (_:Unit)=>mkE [(1,(AV.ptr 0 0))]) (fun _=>[.box 51 (zO A)]) (fun _=>zDv A) ?_ ?_
 ·
  refine zH<|zC<|zA (zK Tryz.underlying51 rfl rfl Tryz.sizeOf49 rfl)<|zA (zS (k:=0) (o:=5) (m:=5) Tryz.isAgg49 Tryz.sizeOf49 rfl rfl rfl rfl rfl)<|zA (zB rfl)<|zF ?_
  refine zR<|zt (σ:=Int×(List Bool)) (fun (i3,d1)=>mkE [(1,(AV.ptr 0 0)),(7,(AV.ptr 1 0)),(54,(AV.agg (cA 5 (eS cI) ([]:List Int) A.free))),(55,(li i3))]) (fun (i3,d1)=>[.box 51 (zO A),.box 91 (cA 256 eB false d1)]) (fun n2 (i3,d1)=>zBM A n2 i3 d1) (0,(List.replicate 256 false)) h (fun _=>rfl) (zAD [0,1] rfl rfl (by kernel_rfl)) ?_
  clear h
  rintro n2 ⟨i3,d1⟩ h
  replace h:zD2 A (zBM A n2) i3 d1=some r:=h
  unfold zD2 at h
  refine zH<|zC<|zA (zh rfl rfl)<|zF<|zH ?_
  refine zW h rfl (fun b13 h => ?_) (fun b13 h => ?_)
  ·refine zQ ?_
   refine zx (r:=r) (fun (d2:List Bool)=>mkE [(1,(AV.ptr 0 0)),(7,(AV.ptr 1 0)),(54,(AV.agg (cA 5 (eS cI) ([]:List Int) A.free))),(55,(li i3))]) (fun d2=>[.box 51 (zO A),.box 91 (cA 256 eB false d2)]) (fun d2=>zHy (zBM A n2) i3 d2) ?_ ?_
   ·
    refine zR<|zH<|zC<|zA (zB rfl)<|zM h fun b15 h=>zA (zOC (la:=cA 5 (eS cI) ([]:List Int) A.free) (i:=i3) (a:=(ls cI (A.free.getD i3.toNat ([]:List Int)))) Tryz.underlying49 Tryz.sizeOf22 Tryz.isAgg22 rfl rfl b15 (zQZ (zBK b15).2) rfl) ?_
    refine zA (zD rfl)<|zA (zD rfl)<|zF<|zH<|zC<|zA (zB rfl) ?_
    refine zA (zY Tryz.underlying22 rfl)<|zA (zB rfl)<|zF<|zR<|zt (σ:=Int×(List Bool)) (fun (i4,d3)=>mkE [(1,(AV.ptr 0 0)),(7,(AV.ptr 1 0)),(8,(li i3)),(54,(AV.agg (cA 5 (eS cI) ([]:List Int) A.free))),(55,(li i3)),(59,(ls cI (A.free.getD i3.toNat ([]:List Int)))),(60,(li ((A.free.getD i3.toNat ([]:List Int)).length:Int))),(61,(li i4))]) (fun (i4,d3)=>[.box 51 (zO A),.box 91 (cA 256 eB false d3)]) (fun n3 (i4,d3)=>zB5 (zBM A n2) A i3 n3 i4 d3) (0,d1) h (fun _=>rfl) (zAD [0,1] rfl rfl (by kernel_rfl)) ?_
    clear h
    rintro n3 ⟨i4,d3⟩ h
    replace h:zEL (zBM A n2) A i3 (zB5 (zBM A n2) A i3 n3) i4 d3=some r:=h
    unfold zEL at h
    refine zH<|zC<|zA (zh rfl rfl)<|zF<|zH ?_
    refine zW h rfl (fun b16 h => ?_) (fun b16 h => ?_)
    ·refine zQ ?_
     refine zx (r:=r) (fun (d4:List Bool)=>mkE [(1,(AV.ptr 0 0)),(7,(AV.ptr 1 0)),(8,(li i3)),(54,(AV.agg (cA 5 (eS cI) ([]:List Int) A.free))),(55,(li i3)),(59,(ls cI (A.free.getD i3.toNat ([]:List Int)))),(60,(li ((A.free.getD i3.toNat ([]:List Int)).length:Int))),(61,(li i4))]) (fun d4=>[.box 51 (zO A),.box 91 (cA 256 eB false d4)]) (fun d4=>zH8 (zB5 (zBM A n2) A i3 n3) i4 d4) ?_ ?_
     ·
      refine zR<|zH<|zC<|zM h fun b18 h=>zA (zV Tryz.underlying22 Tryz.sizeOf3 (fun _=>rfl) rfl rfl b18)<|zA (zU (o:=0) Tryz.isAgg3 rfl rfl) ?_
      refine zA (zD rfl)<|zF<|zH<|zC<|zA (zB rfl)<|zA (zD rfl) ?_
      refine zF<|zR<|zt (σ:=Int×(List Bool)) (fun (i5,d5)=>mkE [(1,(AV.ptr 0 0)),(7,(AV.ptr 1 0)),(8,(li i3)),(11,(li (at_ (A.free.getD i3.toNat ([]:List Int)) i4))),(12,(li i5)),(54,(AV.agg (cA 5 (eS cI) ([]:List Int) A.free))),(55,(li i3)),(59,(ls cI (A.free.getD i3.toNat ([]:List Int)))),(60,(li ((A.free.getD i3.toNat ([]:List Int)).length:Int))),(61,(li i4))]) (fun (i5,d5)=>[.box 51 (zO A),.box 91 (cA 256 eB false d5)]) (fun n4 (i5,d5)=>zGY (zB5 (zBM A n2) A i3 n3) A i3 i4 n4 i5 d5) ((at_ (A.free.getD i3.toNat ([]:List Int)) i4),d3) h (fun _=>rfl) (zAD [0,1] rfl rfl (by kernel_rfl)) ?_
      clear h
      rintro n4 ⟨i5,d5⟩ h
      replace h:zEB (zB5 (zBM A n2) A i3 n3) A i3 i4 (zGY (zB5 (zBM A n2) A i3 n3) A i3 i4 n4) i5 d5=some r:=h
      unfold zEB at h
      refine zH<|zH<|zC<|zA (zB rfl)<|zA (zB rfl)<|zA (zB rfl) ?_
      refine zM h fun b19 h=>zM h fun b20 h=>zA (zCx (a:=1) (b:=i3) rfl rfl b19 b20)<|zM h fun b21 h=>zA (zg rfl rfl b21)<|zA (zh rfl rfl) ?_
      refine zF ?_
      refine zW h rfl (fun b22 h => ?_) (fun b22 h => ?_)
      ·refine zQ<|zH<|zR<|zH<|zH<|zC ?_
       refine zA (zB rfl)<|zM h fun b23 h=>zA (zAG (m:=256) (s:=1) (i:=i5) (k:=1) (o:=0) Tryz.underlying91 Tryz.sizeOf4 rfl rfl b23)<|zA (zPb (k:=1) (o:=(0+i5.toNat*1)) (g:=eB) (d0:=false) (l:=d5) (N:=256) (i:=i5.toNat) (a:=(AV.lit (.bool (d5.getD i5.toNat false)))) Tryz.isAgg4 rfl rfl (congrArg (fun q=>0+q) (Nat.mul_one _)) (zBK b23).2 rfl rfl)<|zF ?_
       refine zW h rfl (fun b24 h => ?_) (fun b24 h => ?_)
       ·refine zH<|zC<|zA (zD rfl)<|zF<|zb ?_
        cases h
        exact zv (zAI rfl rfl)
       refine zQ<|zC<|zA (zB rfl)<|zA (zAG (m:=256) (s:=1) (i:=i5) (k:=1) (o:=0) Tryz.underlying91 Tryz.sizeOf4 rfl rfl b23)<|zd (H':=[.box 51 (zO A),.box 91 (cA 256 eB false (zDc 256 false d5 i5.toNat true))]) (zOU (k:=1) (o:=(0+i5.toNat*1)) (g:=eB) (d0:=false) (l:=d5) (N:=256) (i:=i5.toNat) (v:=true) (a:=(AV.lit (.bool true))) Tryz.sizeOf4 rfl rfl (congrArg (fun q=>0+q) (Nat.mul_one _)) (zBK b23).2 rfl rfl rfl)<|zF ?_
       refine zC<|zA (zB rfl)<|zM h fun b25 h=>zA (zg rfl rfl b25)<|zA (zD rfl)<|zF ?_
       exact ⟨((i5+1),(zDc 256 false d5 i5.toNat true)),zAD [0,1] rfl rfl (by kernel_rfl),h⟩
      refine zz ?_
      exact ⟨d5,zAD [0,1] rfl rfl (by kernel_rfl),h⟩
     clear h
     intro d4 h
     unfold zH8 at h
     refine zC<|zM h fun b17 h=>zA (zg rfl rfl b17)<|zA (zB rfl)<|zF ?_
     exact ⟨((i4+1),d4),zAD [0,1] rfl rfl (by kernel_rfl),h⟩
    refine zz ?_
    exact ⟨d3,zAD [0,1] rfl rfl (by kernel_rfl),h⟩
   clear h
   intro d2 h
   unfold zHy at h
   refine zC<|zM h fun b14 h=>zA (zg rfl rfl b14)<|zA (zB rfl)<|zF ?_
   exact ⟨((i3+1),d2),zAD [0,1] rfl rfl (by kernel_rfl),h⟩
  refine zz ?_
  exact ⟨(),zAD [0] rfl rfl (by kernel_rfl),h⟩
 clear h
 intro _ h
 unfold zDv at h
 refine zx (r:=r) (fun (_:Unit)=>mkE []) (fun _=>[]) (fun _=>zJi ) ?_ ?_
 ·
  refine zH<|zC<|zA (zB rfl)<|zF<|zR<|zt (σ:=Int) (fun i1=>mkE [(1,(AV.ptr 0 0)),(81,(li i1))]) (fun i1=>[.box 51 (zO A)]) (fun n0 i1=>zCk A n0 i1) 0 h (fun _=>rfl) (zAD [0] rfl rfl (by kernel_rfl)) ?_
  clear h
  intro n0 i1 h
  replace h:zD6 A (zCk A n0) i1=some r:=h
  unfold zD6 at h
  refine zH<|zC<|zA (zh rfl rfl)<|zF<|zH ?_
  refine zW h rfl (fun b2 h => ?_) (fun b2 h => ?_)
  ·refine zQ ?_
   refine zx (r:=r) (fun (_:Unit)=>mkE [(1,(AV.ptr 0 0)),(81,(li i1))]) (fun _=>[.box 51 (zO A)]) (fun _=>zH3 (zCk A n0) i1) ?_ ?_
   ·
    refine zR<|zH<|zC<|zA (zB rfl)<|zA (zD rfl)<|zF ?_
    refine zH<|zC<|zA (zB rfl)<|zA (zK Tryz.underlying51 rfl rfl Tryz.sizeOf49 rfl)<|zM h fun b4 h=>zA (zAG (m:=5) (s:=1) (i:=i1) (k:=0) (o:=5) Tryz.underlying49 Tryz.sizeOf22 rfl rfl b4) ?_
    refine zA (zAr (k:=0) (o:=(5+i1.toNat*1)) (cs:=(zO A)) (hd:=([li A.node]++[li A.kind]++[li A.start]++[li A.count]++[li A.min]++[])) (tl:=([])) (g:=(eS cI)) (d0:=([]:List Int)) (l:=A.free) (N:=5) (i:=i1.toNat) (a:=(ls cI (A.free.getD i1.toNat ([]:List Int)))) Tryz.isAgg22 rfl rfl rfl (congrArg (fun q=>5+q) (Nat.mul_one _)) (zBK b4).2 rfl rfl)<|zA (zY Tryz.underlying22 rfl)<|zA (zB rfl)<|zF<|zR<|zt (σ:=Int) (fun i2=>mkE [(1,(AV.ptr 0 0)),(13,(li i1)),(81,(li i1)),(87,(ls cI (A.free.getD i1.toNat ([]:List Int)))),(88,(li ((A.free.getD i1.toNat ([]:List Int)).length:Int))),(89,(li i2))]) (fun i2=>[.box 51 (zO A)]) (fun n1 i2=>zGZ (zCk A n0) A i1 n1 i2) 0 h (fun _=>rfl) (zAD [0] rfl rfl (by kernel_rfl)) ?_
    clear h
    intro n1 i2 h
    replace h:zDx (zCk A n0) A i1 (zGZ (zCk A n0) A i1 n1) i2=some r:=h
    unfold zDx at h
    refine zH<|zC<|zA (zh rfl rfl)<|zF<|zH ?_
    refine zW h rfl (fun b5 h => ?_) (fun b5 h => ?_)
    ·refine zQ<|zH<|zR<|zH<|zC<|zM h fun b6 h => ?_
     refine zA (zV Tryz.underlying22 Tryz.sizeOf3 (fun _=>rfl) rfl rfl b6)<|zA (zU (o:=0) Tryz.isAgg3 rfl rfl)<|zA (zD rfl)<|zF<|zH<|zC ?_
     refine zA (zB rfl)<|zA (zB rfl)<|zM h fun b7 h=>zM h fun b8 h=>zA (zCx (a:=1) (b:=i1) rfl rfl b7 b8)<|zA (zRR (k := .i64) (a:=at_ (A.free.getD i1.toNat ([]:List Int)) i2) (b:=(1:Int)*2 ^ i1.toNat) rfl rfl) ?_
     refine zA (zD rfl)<|zF<|zH<|zC<|zA (zB rfl)<|zA (zK Tryz.underlying51 rfl rfl Tryz.sizeOf49 rfl) ?_
     refine zM h fun b9 h=>zA (zAG (m:=5) (s:=1) (i:=i1) (k:=0) (o:=5) Tryz.underlying49 Tryz.sizeOf22 rfl rfl b9)<|zA (zAr (k:=0) (o:=(5+i1.toNat*1)) (cs:=(zO A)) (hd:=([li A.node]++[li A.kind]++[li A.start]++[li A.count]++[li A.min]++[])) (tl:=([])) (g:=(eS cI)) (d0:=([]:List Int)) (l:=A.free) (N:=5) (i:=i1.toNat) (a:=(ls cI (A.free.getD i1.toNat ([]:List Int)))) Tryz.isAgg22 rfl rfl rfl (congrArg (fun q=>5+q) (Nat.mul_one _)) (zBK b9).2 rfl rfl)<|zA (zB rfl)<|zP h fun x2 w2 h=>ze Tryz.func87 rfl (by kernel_rfl) (.fn 87) rfl rfl (zAb w2) rfl ?_
     refine zA (zB rfl)<|zA (za rfl rfl)<|zA (za rfl rfl)<|zA (zD rfl)<|zA (zD rfl)<|zF ?_
     refine zH<|zC<|zA (zB rfl)<|zA (zB rfl)<|zo rfl rfl (fun c1=>zq.step (zS (k:=0) (o:=0) (m:=10) Tryz.isAgg51 Tryz.sizeOf51 rfl rfl rfl rfl rfl))<|zo rfl rfl (fun c2=>zq.step (zB rfl)) ?_
     refine zo rfl rfl (fun c3=>zq.step (zB rfl))<|zo rfl rfl (fun c4=>zq.step (zPX (a:=at_ (A.free.getD i1.toNat ([]:List Int)) i2) (b:=zMv .xor .i64 (at_ (A.free.getD i1.toNat ([]:List Int)) i2) ((1:Int)*2 ^ i1.toNat)) (z8 rfl c4) (z8 rfl c4)))<|zo rfl rfl (fun c5=>zq.step (zB rfl))<|zM h fun b10 h=>zo rfl rfl (fun c6=>zq.step (zg (z8 rfl c6) rfl (zHd b10 c6)))<|zP h fun x3 w3 h => ?_
     refine zCU (g:=107) (s:=x2.2) (r':=(AV.lit (.bool x3))) rfl rfl (fun c7=>⟨86,_,_,[],[(AV.agg (zO A)),(li (min (at_ (A.free.getD i1.toNat ([]:List Int)) i2) (zMv .xor .i64 (at_ (A.free.getD i1.toNat ([]:List Int)) i2) ((1:Int)*2 ^ i1.toNat)))),(li (i1+1))],[(AV.agg ([li A.node,li A.kind,li A.start,li A.count,li A.min]++([AV.any,AV.any,AV.any,AV.any,AV.any]++[]))),(li (min (at_ (A.free.getD i1.toNat ([]:List Int)) i2) (zMv .xor .i64 (at_ (A.free.getD i1.toNat ([]:List Int)) i2) ((1:Int)*2 ^ i1.toNat)))),(li (i1+1))],(AV.lit (.bool x3)),[],Tryz.func86,rfl,by kernel_rfl,.fn 86,(zAL (z8 rfl c7) (zAL (z8 rfl c7) (zAL (z8 rfl c7) rfl))),⟨zLj (hd:=([li A.node]++[li A.kind]++[li A.start]++[li A.count]++[li A.min])) (tl:=((cA 5 (eS cI) ([]:List Int) A.free))) rfl,zAl.nr rfl,zAl.nr rfl,trivial⟩,zEf (zFy c7 w3),.inl rfl,rfl⟩)<|zA (z6 (j := .lit undef) rfl rfl)<|zF ?_
     refine zW h rfl (fun b11 h => ?_) (fun b11 h => ?_)
     ·refine zH<|zC<|zA (zD rfl)<|zF<|zb ?_
      cases h
      exact zv (zAI rfl rfl)
     refine zQ<|zC<|zM h fun b12 h=>zA (zg rfl rfl b12)<|zA (zB rfl)<|zF ?_
     exact ⟨(i2+1),zAD [0] rfl rfl (by kernel_rfl),h⟩
    refine zz ?_
    exact ⟨(),zAD [0] rfl rfl (by kernel_rfl),h⟩
   clear h
   intro _ h
   unfold zH3 at h
   refine zC<|zM h fun b3 h=>zA (zg rfl rfl b3)<|zA (zB rfl)<|zF ?_
   exact ⟨(i1+1),zAD [0] rfl rfl (by kernel_rfl),h⟩
  refine zz ?_
  exact ⟨(),zAD [] rfl rfl (by kernel_rfl),h⟩
 clear h
 intro _ h
 unfold zJi at h
 refine zH<|zC<|zA (zD rfl)<|zF<|zb ?_
 cases h
 exact zv (zAI rfl rfl)
theorem zHn {uC:Int} {r:Bool} (h:zGI uC=some r):PFn Tryz.prog 88 [li uC] (AV.lit (.bool r)):=by
 refine zm Tryz.func88 rfl Tryz.ntmps88 Tryz.results88 rfl ?_
 unfold zGI at h
 refine zH<|zC<|zA (zD rfl)<|zF<|zH<|zC ?_
 refine zA (zB rfl)<|zA (zAu rfl rfl)<|zA (zB rfl)<|zo rfl rfl (fun c1=>zq.step (zB rfl))<|zo rfl rfl (fun c2=>zq.step (zh (z8 rfl c2) rfl))<|zA (z6 (j := .lit undef) rfl rfl) ?_
 refine zA (zD rfl)<|zF<|zb ?_
 cases h
 exact zv (zAI rfl rfl)
theorem zIa {J:zL} {r:List (Int×Bool)} (h:zFx J=some r):PFn Tryz.prog 89 [(AV.agg (zI J))] (AV.omap (mI Value.bool r)):=by
 refine zm Tryz.func89 rfl Tryz.ntmps89 Tryz.results89 rfl ?_
 unfold zFx at h
 refine zH<|zC<|zX (H':=[.box 55 (zI J)]) (zu (t:=55) rfl)<|zA (zD rfl)<|zF<|zH ?_
 refine zC<|zX (H':=[.box 55 (zI J),.map (mI Value.bool ([]:List (Int×Bool)))]) (zMc)<|zA (zD rfl)<|zF ?_
 refine zx (r:=r) (fun (l1:List (Int×Bool))=>mkE [(3,(AV.hd 0))]) (fun l1=>[.map (mI Value.bool l1)]) (fun l1=>zIj l1) ?_ ?_
 ·
  refine zH<|zC<|zA (zK Tryz.underlying55 rfl rfl Tryz.sizeOf53 rfl)<|zA (zN Tryz.isAgg53 rfl rfl rfl rfl)<|zA (zY Tryz.underlying53 rfl)<|zA (zB rfl) ?_
  refine zF<|zR<|zt (σ:=Int×(List (Int×Bool))) (fun (i1,l2)=>mkE [(3,(AV.hd 0)),(10,(ls (cS cI) J.lists)),(11,(li (J.lists.length:Int))),(12,(li i1))]) (fun (i1,l2)=>[.map (mI Value.bool l2)]) (fun n0 (i1,l2)=>zBq J n0 i1 l2) (0,([]:List (Int×Bool))) h (fun _=>rfl) (zAD [1] rfl rfl (by kernel_rfl)) ?_
  clear h
  rintro n0 ⟨i1,l2⟩ h
  replace h:zC2 J (zBq J n0) i1 l2=some r:=h
  unfold zC2 at h
  refine zH<|zC<|zA (zh rfl rfl)<|zF<|zH ?_
  refine zW h rfl (fun b1 h => ?_) (fun b1 h => ?_)
  ·refine zQ ?_
   refine zx (r:=r) (fun (l3:List (Int×Bool))=>mkE [(3,(AV.hd 0)),(10,(ls (cS cI) J.lists)),(11,(li (J.lists.length:Int))),(12,(li i1))]) (fun l3=>[.map (mI Value.bool l3)]) (fun l3=>zGi (zBq J n0) i1 l3) ?_ ?_
   ·
    refine zR<|zH<|zC<|zM h fun b3 h=>zA (zV Tryz.underlying53 Tryz.sizeOf22 (fun _=>rfl) rfl rfl b3)<|zA (zU (o:=0) Tryz.isAgg22 rfl rfl) ?_
    refine zA (zD rfl)<|zF<|zH<|zC<|zA (zB rfl)<|zA (zY Tryz.underlying22 rfl) ?_
    refine zA (zB rfl)<|zF<|zR<|zt (σ:=Int×(List (Int×Bool))) (fun (i2,l4)=>mkE [(3,(AV.hd 0)),(10,(ls (cS cI) J.lists)),(11,(li (J.lists.length:Int))),(12,(li i1)),(16,(ls cI (at_ J.lists i1))),(17,(li ((at_ J.lists i1).length:Int))),(18,(li i2))]) (fun (i2,l4)=>[.map (mI Value.bool l4)]) (fun n1 (i2,l4)=>zFC (zBq J n0) J i1 n1 i2 l4) (0,l2) h (fun _=>rfl) (zAD [0] rfl rfl (by kernel_rfl)) ?_
    clear h
    rintro n1 ⟨i2,l4⟩ h
    replace h:zC0 (zBq J n0) J i1 (zFC (zBq J n0) J i1 n1) i2 l4=some r:=h
    unfold zC0 at h
    refine zH<|zC<|zA (zh rfl rfl)<|zF<|zH ?_
    refine zW h rfl (fun b4 h => ?_) (fun b4 h => ?_)
    ·refine zQ<|zH<|zR<|zH<|zC<|zM h fun b5 h => ?_
     refine zA (zV Tryz.underlying22 Tryz.sizeOf3 (fun _=>rfl) rfl rfl b5)<|zA (zU (o:=0) Tryz.isAgg3 rfl rfl)<|zA (zD rfl)<|zF<|zC<|zA (zB rfl) ?_
     refine zA (zB rfl)<|zd (H':=[.map (mI Value.bool (zKx l4 (at_ (at_ J.lists i1) i2) true))]) (zNp (k:=0) (g:=Value.bool) (q:=at_ (at_ J.lists i1) i2) (l:=l4) (v:=true) Tryz.underlying58 Tryz.underlying3 rfl rfl rfl rfl)<|zF<|zC<|zM h fun b6 h=>zA (zg rfl rfl b6) ?_
     refine zA (zB rfl)<|zF ?_
     exact ⟨((i2+1),(zKx l4 (at_ (at_ J.lists i1) i2) true)),zAD [0] rfl rfl (by kernel_rfl),h⟩
    refine zz ?_
    exact ⟨l4,zAD [0] rfl rfl (by kernel_rfl),h⟩
   clear h
   intro l3 h
   unfold zGi at h
   refine zC<|zM h fun b2 h=>zA (zg rfl rfl b2)<|zA (zB rfl)<|zF ?_
   exact ⟨((i1+1),l3),zAD [0] rfl rfl (by kernel_rfl),h⟩
  refine zz ?_
  exact ⟨l2,zAD [0] rfl rfl (by kernel_rfl),h⟩
 clear h
 intro l1 h
 unfold zIj at h
 refine zH<|zC<|zA (zB rfl)<|zA (zD rfl)<|zF<|zb ?_
 cases h
 exact zv (zXz rfl rfl)
theorem zK8 {J:zL} {R:Int} {r:Int} (h:zGq J R=some r):PFn Tryz.prog 43 [(AV.agg (zI J)),li R] (li r):=by
 refine zm Tryz.func43 rfl Tryz.ntmps43 Tryz.results43 rfl ?_
 unfold zGq at h
 refine zH<|zC<|zX (H':=[.box 55 (zI J)]) (zu (t:=55) rfl)<|zA (zD rfl)<|zF<|zH ?_
 refine zH<|zC<|zA (zB rfl)<|zA (zh rfl rfl)<|zA (zB rfl)<|zZ rfl rfl (fun c1=>zq.step (zB rfl)) ?_
 refine zZ rfl rfl (fun c2=>zq.step (zAo (z8 rfl c2) rfl))<|zA (zj rfl rfl)<|zF ?_
 refine zW h rfl (fun b1 h => ?_) (fun b1 h => ?_)
 ·refine zH<|zC<|zA (zD rfl)<|zF<|zb ?_
  cases h
  exact zv (zAI rfl rfl)
 refine zQ<|zH<|zH<|zC<|zA (zK Tryz.underlying55 rfl rfl Tryz.sizeOf53 rfl)<|zA (zN Tryz.isAgg53 rfl rfl rfl rfl) ?_
 refine zA (zY Tryz.underlying53 rfl)<|zA (zB rfl)<|zA (z7 rfl rfl)<|zF ?_
 refine zW h rfl (fun b2 h => ?_) (fun b2 h => ?_)
 ·refine zH<|zC<|zA (zD rfl)<|zF<|zb ?_
  cases h
  exact zv (zAI rfl rfl)
 refine zQ<|zH<|zC<|zA (zD rfl)<|zF ?_
 refine zx (r:=r) (fun (i1:Int)=>mkE [(2,(AV.ptr 0 0)),(5,(li i1))]) (fun i1=>[.box 55 (zI J)]) (fun i1=>zFX J i1) ?_ ?_
 ·
  refine zH<|zC<|zA (zK Tryz.underlying55 rfl rfl Tryz.sizeOf53 rfl)<|zA (zN Tryz.isAgg53 rfl rfl rfl rfl)<|zA (zY Tryz.underlying53 rfl)<|zA (zB rfl) ?_
  refine zF<|zR<|zt (σ:=Int×Int) (fun (i2,i3)=>mkE [(2,(AV.ptr 0 0)),(5,(li i2)),(22,(ls (cS cI) J.lists)),(23,(li (J.lists.length:Int))),(24,(li i3))]) (fun (i2,i3)=>[.box 55 (zI J)]) (fun n0 (i2,i3)=>zBo J n0 i2 i3) (0,0) h (fun _=>rfl) (zAD [0] rfl rfl (by kernel_rfl)) ?_
  clear h
  rintro n0 ⟨i2,i3⟩ h
  replace h:zDT J (zBo J n0) i2 i3=some r:=h
  unfold zDT at h
  refine zH<|zC<|zA (zh rfl rfl)<|zF<|zH ?_
  refine zW h rfl (fun b4 h => ?_) (fun b4 h => ?_)
  ·refine zQ ?_
   refine zx (r:=r) (fun (_:Unit)=>mkE [(2,(AV.ptr 0 0)),(5,(li (i2+((at_ J.lists i3).length:Int)))),(22,(ls (cS cI) J.lists)),(23,(li (J.lists.length:Int))),(24,(li i3))]) (fun _=>[.box 55 (zI J)]) (fun _=>zHO (zBo J n0) J i2 i3) ?_ ?_
   ·
    refine zR<|zH<|zC<|zM h fun b6 h=>zA (zV Tryz.underlying53 Tryz.sizeOf22 (fun _=>rfl) rfl rfl b6)<|zA (zU (o:=0) Tryz.isAgg22 rfl rfl) ?_
    refine zA (zD rfl)<|zF ?_
    refine zx (r:=r) (fun (_:Unit)=>mkE [(2,(AV.ptr 0 0)),(5,(li i2)),(7,(ls cI (at_ J.lists i3))),(22,(ls (cS cI) J.lists)),(23,(li (J.lists.length:Int))),(24,(li i3))]) (fun _=>[.box 55 (zI J)]) (fun _=>zHW (zBo J n0) J i2 i3) ?_ ?_
    ·
     refine zH<|zC<|zA (zB rfl)<|zA (zY Tryz.underlying22 rfl)<|zA (zB rfl)<|zF ?_
     refine zR<|zt (σ:=Int) (fun i4=>mkE [(2,(AV.ptr 0 0)),(5,(li i2)),(7,(ls cI (at_ J.lists i3))),(22,(ls (cS cI) J.lists)),(23,(li (J.lists.length:Int))),(24,(li i3)),(28,(ls cI (at_ J.lists i3))),(29,(li ((at_ J.lists i3).length:Int))),(30,(li i4))]) (fun i4=>[.box 55 (zI J)]) (fun n1 i4=>zFv (zBo J n0) J i2 i3 n1 i4) 0 h (fun _=>rfl) (zAD [0] rfl rfl (by kernel_rfl)) ?_
     clear h
     intro n1 i4 h
     replace h:zDL (zBo J n0) J i2 i3 (zFv (zBo J n0) J i2 i3 n1) i4=some r:=h
     unfold zDL at h
     refine zH<|zC<|zA (zh rfl rfl)<|zF<|zH ?_
     refine zW h rfl (fun b8 h => ?_) (fun b8 h => ?_)
     ·refine zQ<|zH<|zR<|zH<|zC<|zM h fun b9 h => ?_
      refine zA (zV Tryz.underlying22 Tryz.sizeOf3 (fun _=>rfl) rfl rfl b9)<|zA (zU (o:=0) Tryz.isAgg3 rfl rfl)<|zA (zD rfl)<|zF<|zH<|zC ?_
      refine zA (zB rfl)<|zP h fun x2 w2 h=>ze Tryz.func88 rfl (by kernel_rfl) (.fn 88) rfl rfl (zHn w2) rfl<|zA (zAv (t:=x2) rfl)<|zF ?_
      refine zW h rfl (fun b10 h => ?_) (fun b10 h => ?_)
      ·refine zH<|zC<|zA (zD rfl)<|zF<|zb ?_
       cases h
       exact zv (zAI rfl rfl)
      refine zQ<|zC<|zM h fun b11 h=>zA (zg rfl rfl b11)<|zA (zB rfl)<|zF ?_
      exact ⟨(i4+1),zAD [0] rfl rfl (by kernel_rfl),h⟩
     refine zz ?_
     exact ⟨(),zAD [0] rfl rfl (by kernel_rfl),h⟩
    clear h
    intro _ h
    unfold zHW at h
    refine zC<|zA (zB rfl)<|zA (zB rfl)<|zA (zY Tryz.underlying22 rfl)<|zM h fun b7 h=>zA (zg rfl rfl b7) ?_
    refine zA (zD rfl)<|zF ?_
    exact ⟨(),zAD [0] rfl rfl (by kernel_rfl),h⟩
   clear h
   intro _ h
   unfold zHO at h
   refine zC<|zM h fun b5 h=>zA (zg rfl rfl b5)<|zA (zB rfl)<|zF ?_
   exact ⟨((i2+((at_ J.lists i3).length:Int)),(i3+1)),zAD [0] rfl rfl (by kernel_rfl),h⟩
  refine zz ?_
  exact ⟨i2,zAD [0] rfl rfl (by kernel_rfl),h⟩
 clear h
 intro i1 h
 unfold zFX at h
 refine zH<|zH<|zC<|zA (zS (k:=0) (o:=0) (m:=1) Tryz.isAgg55 Tryz.sizeOf55 rfl rfl rfl rfl rfl)<|zP h fun x1 w1 h=>zN0 (es:=mI Value.bool x1) (la:=[(AV.agg (zI J))]) (la':=[(AV.agg (zI J))]) (S:=[]) Tryz.func89 rfl (by kernel_rfl) (.fn 89) rfl ⟨zAl.nr rfl,trivial⟩ (zIa w1) ?_
 refine zA (zSZ (k:=1) (g:=Value.bool) (l:=x1) Tryz.underlying58 rfl rfl)<|zA (zB rfl)<|zA (z7 rfl rfl)<|zF ?_
 refine zW h rfl (fun b3 h => ?_) (fun b3 h => ?_)
 ·refine zH<|zC<|zA (zD rfl)<|zF<|zb ?_
  cases h
  exact zv (zAI rfl rfl)
 refine zQ<|zH<|zC<|zA (zD rfl)<|zF<|zb ?_
 cases h
 exact zv (zAI rfl rfl)
theorem zMD {C:zi} {uH:Int} {r:Bool} (h:zCz C uH=some r):PFn Tryz.prog 91 [(AV.agg (zO C)),(AV.rp [li uH] 0)] (AV.lit (.bool r)):=by
 refine zm Tryz.func91 rfl Tryz.ntmps91 Tryz.results91 rfl ?_
 unfold zCz at h
 refine zH<|zC<|zX (H':=[.box 51 (zO C)]) (zu (t:=51) rfl)<|zA (zD rfl)<|zF<|zH ?_
 refine zC<|zA (zU (o:=0) Tryz.isAgg3 rfl rfl)<|zA (zK Tryz.underlying51 rfl rfl Tryz.sizeOf3 rfl)<|zA (zN Tryz.isAgg3 rfl rfl rfl rfl)<|zA (zAu rfl rfl)<|zA (zB rfl) ?_
 refine zo rfl rfl (fun c1=>zq.step (zU (o:=0) Tryz.isAgg3 rfl rfl))<|zo rfl rfl (fun c2=>zq.step (zK Tryz.underlying51 rfl rfl Tryz.sizeOf3 rfl))<|zo rfl rfl (fun c3=>zq.step (zN Tryz.isAgg3 (z8 rfl c3) rfl rfl rfl))<|zo rfl rfl (fun c4=>zq.step (zK Tryz.underlying51 rfl rfl Tryz.sizeOf3 rfl))<|zo rfl rfl (fun c5=>zq.step (zN Tryz.isAgg3 (z8 rfl c5) rfl rfl rfl))<|zM h fun b1 h => ?_
 refine zo rfl rfl (fun c6=>zq.step (zg (z8 rfl c6) (z8 rfl c6) (zHd b1 c6)))<|zo rfl rfl (fun c7=>zq.step (zh (z8 rfl c7) (z8 rfl c7)))<|zA (z6 (j := .lit undef) rfl rfl)<|zA (zD rfl)<|zF<|zb ?_
 cases h
 exact zv (zAI rfl rfl)
theorem zF2 {W : List zi} {uC : zi → Option Bool} {g_a_f : FuncId} {cf_a_f : Func} {code_a_f : Code} {caps_a_f : List AV} (hcf_a_f : Tryz.prog.funcs[g_a_f]? = some cf_a_f) (hcb_a_f : cf_a_f.body = some code_a_f) (hcn_a_f : (cf_a_f.name == "runtime.NumGoroutine") = false) (hnr_a_f : caps_a_f.all nr = true) (hg_a_f : ∀ {x0 : zi} {y : Bool}, uC x0 = some y → PFn Tryz.prog g_a_f ((AV.agg (zO x0)) :: caps_a_f) (AV.lit (.bool y))) {r : Int} (h : zBH W uC = some r) : PFn Tryz.prog 90 [(ls zO W), (AV.clo g_a_f caps_a_f)] (li r) := by
 refine zm Tryz.func90 rfl Tryz.ntmps90 Tryz.results90 rfl ?_
 unfold zBH at h
 refine zH<|zC<|zA (zD rfl)<|zF ?_
 refine zx (r:=r) (fun (_:Unit)=>mkE []) (fun _=>[]) (fun _=>zBc ) ?_ ?_
 ·
  refine zH<|zC<|zA (zB rfl)<|zA (zY Tryz.underlying23 rfl)<|zA (zB rfl)<|zF ?_
  refine zR<|zt (σ:=Int) (fun i1=>mkE [(0,(ls zO W)),(1,(AV.clo g_a_f caps_a_f)),(7,(li (W.length:Int))),(8,(li i1))]) (fun i1=>[]) (fun n0 i1=>zAg W uC n0 i1) 0 h (fun _=>rfl) (zBV (n:=19) (m:=0) [] (l:=[(0,(ls zO W)),(1,(AV.clo g_a_f caps_a_f)),(7,(li (W.length:Int))),(8,(li 0))]) ⟨⟨Sub.refl _,by kernel_rfl⟩,⟨zDb hnr_a_f,zDa hnr_a_f⟩,⟨Sub.refl _,by kernel_rfl⟩,⟨Sub.refl _,by kernel_rfl⟩,trivial⟩ rfl rfl trivial) ?_
  clear h
  intro n0 i1 h
  replace h:zAO W uC (zAg W uC n0) i1=some r:=h
  unfold zAO at h
  refine zH<|zC<|zA (zh rfl rfl)<|zF<|zH ?_
  refine zW h rfl (fun b1 h => ?_) (fun b1 h => ?_)
  ·refine zQ<|zH<|zR<|zH<|zC<|zA (zB rfl) ?_
   refine zA (zD rfl)<|zF<|zH<|zC<|zA (zB rfl)<|zA (zB rfl) ?_
   refine zA (zB rfl)<|zM h fun b2 h=>zA (zV Tryz.underlying23 Tryz.sizeOf51 (fun _=>rfl) rfl rfl b2)<|zA (zAf (row:=(zO (at_ W i1))) (o:=0) (m:=10) (la:=(zO (at_ W i1))) Tryz.isAgg51 Tryz.sizeOf51 rfl rfl rfl)<|zP h fun x1 w1 h=>zAq (S:=[]) hcf_a_f hcb_a_f hcn_a_f (.clo (caps:=caps_a_f) rfl) rfl (zDY.c (zAl.nr rfl) (zDY.nrs hnr_a_f)) (hg_a_f w1) (.inl rfl) rfl ?_
   refine zF ?_
   refine zW h rfl (fun b3 h => ?_) (fun b3 h => ?_)
   ·refine zH<|zC<|zA (zB rfl)<|zA (zD rfl)<|zF<|zb ?_
    cases h
    exact zv (zAI rfl rfl)
   refine zQ<|zC<|zM h fun b4 h=>zA (zg rfl rfl b4)<|zA (zB rfl)<|zF ?_
   exact ⟨(i1+1),zBV (n:=19) (m:=0) [] (l:=[(0,(ls zO W)),(1,(AV.clo g_a_f caps_a_f)),(7,(li (W.length:Int))),(8,(li (i1+1)))]) ⟨⟨Sub.refl _,by kernel_rfl⟩,⟨zDb hnr_a_f,zDa hnr_a_f⟩,⟨Sub.refl _,by kernel_rfl⟩,⟨Sub.refl _,by kernel_rfl⟩,trivial⟩ rfl rfl trivial,h⟩
  refine zz ?_
  exact ⟨(),zAD [] rfl rfl (by kernel_rfl),h⟩
 clear h
 intro _ h
 unfold zBc at h
 refine zH<|zC<|zA (zD rfl)<|zF<|zb ?_
 cases h
 exact zv (zAI rfl rfl)
theorem zEZ {B:zJ} {Q:Int} {r:Int} (h:zCq B Q=some r):PFn Tryz.prog 44 [(AV.agg (zG B)),li Q] (li r):=by
 refine zm Tryz.func44 rfl Tryz.ntmps44 Tryz.results44 rfl ?_
 unfold zCq at h
 refine zH<|zC<|zX (H':=[.box 26 (zG B)]) (zu (t:=26) rfl)<|zX (H':=[.box 26 (zG B),.box 3 [li Q]]) (zIw (t:=3) (a:=(li Q)) rfl rfl)<|zA (zD rfl)<|zF ?_
 refine zH<|zC<|zA (zK Tryz.underlying26 rfl rfl Tryz.sizeOf23 rfl)<|zA (zN Tryz.isAgg23 rfl rfl rfl rfl)<|zA (zLP (la:=[AV.ptr 1 0]) rfl)<|zP h fun x1 w1 h => ?_
 refine zAq (r':=(li x1)) (la:=[ls zO B.zones,(AV.clo 91 [AV.ptr 1 0])]) (la':=[ls zO B.zones,(AV.clo 91 [(AV.rp [li Q] 0)])]) (r:=(li x1)) (S:=[1]) Tryz.func90 rfl (by kernel_rfl) (.fn 90) rfl ⟨zAl.nr rfl,zAl.clo (⟨zAl.ptr (cs:=[li Q]) rfl rfl rfl,trivial⟩),trivial⟩ (zF2 Tryz.func91 rfl (by kernel_rfl) rfl (fun hy=>zMD  hy) w1) (.inr trivial) rfl<|zA (zD rfl)<|zF<|zb ?_
 cases h
 exact zv (zAI rfl rfl)
theorem zJs {C:zi} {Q:Int} {r:Int×Int} (h:zFm C Q=some r):PFn Tryz.prog 92 [(AV.agg (zO C)),li Q] (AV.tup [li r.1,li r.2]):=by
 refine zm Tryz.func92 rfl Tryz.ntmps92 Tryz.results92 rfl ?_
 unfold zFm at h
 refine zH<|zC<|zX (H':=[.box 51 (zO C)]) (zu (t:=51) rfl)<|zA (zD rfl)<|zA (zD rfl)<|zF ?_
 refine zx (r:=r) (fun (_:Unit)=>mkE []) (fun _=>[]) (fun _=>zJn ) ?_ ?_
 ·
  refine zH<|zC<|zA (zB rfl)<|zF<|zR<|zt (σ:=Int) (fun i1=>mkE [(1,(li Q)),(2,(AV.ptr 0 0)),(10,(li i1))]) (fun i1=>[.box 51 (zO C)]) (fun n0 i1=>zB4 C Q n0 i1) 0 h (fun _=>rfl) (zAD [0] rfl rfl (by kernel_rfl)) ?_
  clear h
  intro n0 i1 h
  replace h:zCo C Q (zB4 C Q n0) i1=some r:=h
  unfold zCo at h
  refine zH<|zC<|zA (zh rfl rfl)<|zF<|zH ?_
  refine zW h rfl (fun b1 h => ?_) (fun b1 h => ?_)
  ·refine zQ<|zH<|zR<|zH<|zC<|zA (zB rfl) ?_
   refine zA (zD rfl)<|zF<|zH<|zC<|zA (zB rfl)<|zA (zB rfl) ?_
   refine zM h fun b2 h=>zM h fun b3 h=>zA (zCx (a:=1) (b:=i1) rfl rfl b2 b3)<|zM h fun b4 h=>zA (zBa rfl rfl b4)<|zA (zQ4 (k := .i64) (a:=Q) (b:=((1:Int)*2 ^ i1.toNat) - 1) rfl rfl) ?_
   refine zA (zD rfl)<|zF<|zH<|zC<|zA (zB rfl)<|zA (zK Tryz.underlying51 rfl rfl Tryz.sizeOf49 rfl) ?_
   refine zM h fun b5 h=>zA (zAG (m:=5) (s:=1) (i:=i1) (k:=0) (o:=5) Tryz.underlying49 Tryz.sizeOf22 rfl rfl b5)<|zA (zAr (k:=0) (o:=(5+i1.toNat*1)) (cs:=(zO C)) (hd:=([li C.node]++[li C.kind]++[li C.start]++[li C.count]++[li C.min]++[])) (tl:=([])) (g:=(eS cI)) (d0:=([]:List Int)) (l:=C.free) (N:=5) (i:=i1.toNat) (a:=(ls cI (C.free.getD i1.toNat ([]:List Int)))) Tryz.isAgg22 rfl rfl rfl (congrArg (fun q=>5+q) (Nat.mul_one _)) (zBK b5).2 rfl rfl)<|zA (zB rfl)<|zP h fun x1 w1 h=>ze Tryz.func87 rfl (by kernel_rfl) (.fn 87) rfl rfl (zAb w1) rfl ?_
   refine zA (zB rfl)<|zA (za rfl rfl)<|zA (za rfl rfl)<|zA (zD rfl)<|zA (zD rfl)<|zF ?_
   refine zH<|zC<|zA (zB rfl)<|zF ?_
   refine zW h rfl (fun b6 h => ?_) (fun b6 h => ?_)
   ·refine zH<|zC<|zA (zB rfl)<|zA (zB rfl)<|zA (zD rfl)<|zA (zD rfl) ?_
    refine zF<|zb ?_
    cases h
    exact zA5 (zAI rfl rfl) (zAI rfl rfl) rfl
   refine zQ<|zC<|zM h fun b7 h=>zA (zg rfl rfl b7)<|zA (zB rfl)<|zF ?_
   exact ⟨(i1+1),zAD [0] rfl rfl (by kernel_rfl),h⟩
  refine zz ?_
  exact ⟨(),zAD [] rfl rfl (by kernel_rfl),h⟩
 clear h
 intro _ h
 unfold zJn at h
 refine zH<|zC<|zA (zD rfl)<|zA (zD rfl)<|zF<|zb ?_
 cases h
 exact zA5 (zAI rfl rfl) (zAI rfl rfl) rfl
theorem zLZ {C:zi} {Q:Int} {r:Bool} (h:zGu C Q=some r):PFn Tryz.prog 45 [(AV.agg (zO C)),li Q] (AV.lit (.bool r)):=by
 refine zm Tryz.func45 rfl Tryz.ntmps45 Tryz.results45 rfl ?_
 unfold zGu at h
 refine zH<|zC<|zX (H':=[.box 51 (zO C)]) (zu (t:=51) rfl)<|zA (zD rfl)<|zF<|zH ?_
 refine zH<|zC<|zA (zS (k:=0) (o:=0) (m:=10) Tryz.isAgg51 Tryz.sizeOf51 rfl rfl rfl rfl rfl)<|zP h fun x1 w1 h=>ze Tryz.func42 rfl (by kernel_rfl) (.fn 42) rfl rfl (zEC w1) rfl<|zA (z7 rfl rfl) ?_
 refine zA (zB rfl)<|zZ rfl rfl (fun c1=>zq.step (zS (k:=0) (o:=0) (m:=10) Tryz.isAgg51 Tryz.sizeOf51 rfl rfl rfl rfl rfl))<|zZ rfl rfl (fun c2=>zq.step (zB rfl))<|zP h fun x2 w2 h=>zCX (g:=10) (s := !decide (x1=0)) (r':=(AV.lit (.bool x2))) rfl rfl (fun c3=>⟨86,_,_,[],[(AV.agg (zO C)),li Q,li 0],[(AV.agg ([li C.node,li C.kind,li C.start,li C.count,li C.min]++([AV.any,AV.any,AV.any,AV.any,AV.any]++[]))),li Q,li 0],(AV.lit (.bool x2)),[],Tryz.func86,rfl,by kernel_rfl,.fn 86,(zAL (z8 rfl c3) (zAL (z8 rfl c3) (zAL rfl rfl))),⟨zLj (hd:=([li C.node]++[li C.kind]++[li C.start]++[li C.count]++[li C.min])) (tl:=((cA 5 (eS cI) ([]:List Int) C.free))) rfl,zAl.nr rfl,zAl.nr rfl,trivial⟩,zEf (zFy c3 w2),.inl rfl,rfl⟩)<|zZ rfl rfl (fun c4=>zq.step (zAv (t:=x2) (z8 rfl c4))) ?_
 refine zA (zj rfl rfl)<|zF ?_
 refine zW h rfl (fun b1 h => ?_) (fun b1 h => ?_)
 ·refine zH<|zC<|zA (zD rfl)<|zF<|zb ?_
  cases h
  exact zv (zAI rfl rfl)
 refine zQ<|zH<|zC<|zA (zS (k:=0) (o:=0) (m:=10) Tryz.isAgg51 Tryz.sizeOf51 rfl rfl rfl rfl rfl)<|zA (zB rfl)<|zP h fun x3 w3 h => ?_
 refine ze Tryz.func92 rfl (by kernel_rfl) (.fn 92) rfl rfl (zJs w3) rfl<|zA (zB rfl)<|zA (za rfl rfl)<|zA (za rfl rfl)<|zA (zD rfl)<|zA (zD rfl) ?_
 refine zF<|zH<|zC<|zA (zB rfl)<|zA (zAu rfl rfl)<|zA (zD rfl) ?_
 refine zF<|zb ?_
 cases h
 exact zv (zAI rfl rfl)
theorem zA1 {A:zJ} {r:Int} (h:zAt A=some r):PFn Tryz.prog 13 [(AV.agg (zG A))] (li r):=by
 refine zm Tryz.func13 rfl Tryz.ntmps13 Tryz.results13 rfl ?_
 unfold zAt at h
 refine zH<|zC<|zX (H':=[.box 26 (zG A)]) (zu (t:=26) rfl)<|zA (zD rfl)<|zF<|zH ?_
 refine zH<|zC<|zA (zS (k:=0) (o:=0) (m:=5) Tryz.isAgg26 Tryz.sizeOf26 rfl rfl rfl rfl rfl)<|zP h fun x1 w1 h=>ze Tryz.func41 rfl (by kernel_rfl) (.fn 41) rfl rfl (zIo w1) rfl<|zA (zAv (t:=x1) rfl) ?_
 refine zF ?_
 refine zW h rfl (fun b1 h => ?_) (fun b1 h => ?_)
 ·refine zH<|zC<|zA (zD rfl)<|zF<|zb ?_
  cases h
  exact zv (zAI rfl rfl)
 refine zQ<|zH<|zC<|zA (zD rfl)<|zF ?_
 refine zx (r:=r) (fun (_:Unit)=>mkE [(1,(AV.ptr 0 0))]) (fun _=>[.box 26 (zG A)]) (fun _=>zDl A) ?_ ?_
 ·
  refine zH<|zC<|zA (zK Tryz.underlying26 rfl rfl Tryz.sizeOf23 rfl)<|zA (zN Tryz.isAgg23 rfl rfl rfl rfl)<|zA (zY Tryz.underlying23 rfl)<|zA (zB rfl) ?_
  refine zF<|zR<|zt (σ:=Int×Int) (fun (i6,i7)=>mkE [(1,(AV.ptr 0 0)),(3,(li i6)),(23,(ls zO A.zones)),(24,(li (A.zones.length:Int))),(25,(li i7))]) (fun (i6,i7)=>[.box 26 (zG A)]) (fun n5 (i6,i7)=>zDi A n5 i6 i7) (0,0) h (fun _=>rfl) (zAD [0] rfl rfl (by kernel_rfl)) ?_
  clear h
  rintro n5 ⟨i6,i7⟩ h
  replace h:zCD A (zDi A n5) i6 i7=some r:=h
  unfold zCD at h
  refine zH<|zC<|zA (zh rfl rfl)<|zF<|zH ?_
  refine zW h rfl (fun b23 h => ?_) (fun b23 h => ?_)
  ·refine zQ<|zH<|zR<|zH<|zC<|zM h fun b24 h => ?_
   refine zA (zV Tryz.underlying23 Tryz.sizeOf51 (fun _=>rfl) rfl rfl b24)<|zA (zAf (row:=(zO (at_ A.zones i7))) (o:=0) (m:=10) (la:=(zO (at_ A.zones i7))) Tryz.isAgg51 Tryz.sizeOf51 rfl rfl rfl)<|zX (H':=[.box 26 (zG A),.box 51 (zO ⟨0,0,0,0,0,(List.replicate 5 ([]:List Int))⟩)]) zv0<|zd (H':=[.box 26 (zG A),.box 51 (zO (at_ A.zones i7))]) (zT (k:=1) (o:=0) (cs:=(zO ⟨0,0,0,0,0,(List.replicate 5 ([]:List Int))⟩)) (la:=(zO (at_ A.zones i7))) Tryz.sizeOf51 rfl rfl rfl rfl)<|zF<|zH ?_
   refine zH<|zC<|zA (zS (k:=1) (o:=0) (m:=10) Tryz.isAgg51 Tryz.sizeOf51 rfl rfl rfl rfl rfl)<|zP h fun x5 w5 h=>ze Tryz.func42 rfl (by kernel_rfl) (.fn 42) rfl rfl (zEC w5) rfl<|zA (zD rfl) ?_
   refine zF<|zH<|zC<|zA (zB rfl)<|zA (z7 rfl rfl)<|zF ?_
   refine zW h rfl (fun b25 h => ?_) (fun b25 h => ?_)
   ·refine zH<|zC<|zA (zB rfl)<|zA (zD rfl)<|zF<|zb ?_
    cases h
    exact zv (zAI rfl rfl)
   refine zQ<|zH<|zH<|zC<|zA (zK Tryz.underlying51 rfl rfl Tryz.sizeOf3 rfl)<|zA (zN Tryz.isAgg3 rfl rfl rfl rfl) ?_
   refine zA (zB rfl)<|zA (z7 rfl rfl)<|zF ?_
   refine zW h rfl (fun b26 h => ?_) (fun b26 h => ?_)
   ·refine zH<|zC<|zA (zD rfl)<|zF<|zb ?_
    cases h
    exact zv (zAI rfl rfl)
   refine zQ<|zC<|zA (zB rfl)<|zA (zK Tryz.underlying51 rfl rfl Tryz.sizeOf3 rfl)<|zA (zN Tryz.isAgg3 rfl rfl rfl rfl)<|zM h fun b27 h => ?_
   refine zA (zg rfl rfl b27)<|zA (zD rfl)<|zF<|zC<|zM h fun b28 h=>zA (zg rfl rfl b28) ?_
   refine zA (zB rfl)<|zF ?_
   exact ⟨((i6+((at_ A.zones i7).count)),(i7+1)),zAD [0] rfl rfl (by kernel_rfl),h⟩
  refine zz ?_
  exact ⟨(),zAD [0] rfl rfl (by kernel_rfl),h⟩
 clear h
 intro _ h
 unfold zDl at h
 refine zH<|zH<|zC<|zA (zK Tryz.underlying26 rfl rfl Tryz.sizeOf24 rfl)<|zA (zN Tryz.isAgg24 rfl rfl rfl rfl)<|zA (zY Tryz.underlying24 rfl) ?_
 refine zA (zK Tryz.underlying26 rfl rfl Tryz.sizeOf22 rfl)<|zA (zN Tryz.isAgg22 rfl rfl rfl rfl)<|zA (zY Tryz.underlying22 rfl)<|zA (z7 rfl rfl)<|zF ?_
 refine zW h rfl (fun b2 h => ?_) (fun b2 h => ?_)
 ·refine zH<|zC<|zA (zD rfl)<|zF<|zb ?_
  cases h
  exact zv (zAI rfl rfl)
 refine zQ ?_
 refine zx (r:=r) (fun (_:Unit)=>mkE [(1,(AV.ptr 0 0))]) (fun _=>[.box 26 (zG A)]) (fun _=>zDh A) ?_ ?_
 ·
  refine zH<|zC<|zA (zK Tryz.underlying26 rfl rfl Tryz.sizeOf24 rfl)<|zA (zN Tryz.isAgg24 rfl rfl rfl rfl)<|zA (zY Tryz.underlying24 rfl)<|zA (zB rfl) ?_
  refine zF<|zR<|zt (σ:=Int) (fun i4=>mkE [(1,(AV.ptr 0 0)),(51,(ls zI A.caches)),(52,(li (A.caches.length:Int))),(53,(li i4))]) (fun i4=>[.box 26 (zG A)]) (fun n3 i4=>zBS A n3 i4) 0 h (fun _=>rfl) (zAD [0] rfl rfl (by kernel_rfl)) ?_
  clear h
  intro n3 i4 h
  replace h:zCK A (zBS A n3) i4=some r:=h
  unfold zCK at h
  refine zH<|zC<|zA (zh rfl rfl)<|zF<|zH ?_
  refine zW h rfl (fun b15 h => ?_) (fun b15 h => ?_)
  ·refine zQ ?_
   refine zx (r:=r) (fun (_:Unit)=>mkE [(1,(AV.ptr 0 0)),(51,(ls zI A.caches)),(52,(li (A.caches.length:Int))),(53,(li i4))]) (fun _=>[.box 26 (zG A)]) (fun _=>zFR (zBS A n3) i4) ?_ ?_
   ·
    refine zR<|zH<|zC<|zM h fun b17 h=>zA (zV Tryz.underlying24 Tryz.sizeOf55 (fun _=>rfl) rfl rfl b17)<|zA (zAf (row:=(zI (at_ A.caches i4))) (o:=0) (m:=1) (la:=(zI (at_ A.caches i4))) Tryz.isAgg55 Tryz.sizeOf55 rfl rfl rfl) ?_
    refine zX (H':=[.box 26 (zG A),.box 55 [(ls (cS cI) ([]:List (List Int)))]]) zv1<|zd (H':=[.box 26 (zG A),.box 55 (zI (at_ A.caches i4))]) (zT (k:=1) (o:=0) (cs:=[(ls (cS cI) ([]:List (List Int)))]) (la:=(zI (at_ A.caches i4))) Tryz.sizeOf55 rfl rfl rfl rfl)<|zF<|zH<|zH<|zC ?_
    refine zA (zS (k:=1) (o:=0) (m:=1) Tryz.isAgg55 Tryz.sizeOf55 rfl rfl rfl rfl rfl)<|zA (zK Tryz.underlying26 rfl rfl Tryz.sizeOf23 rfl)<|zA (zN Tryz.isAgg23 rfl rfl rfl rfl)<|zA (zY Tryz.underlying23 rfl)<|zP h fun x4 w4 h=>ze Tryz.func43 rfl (by kernel_rfl) (.fn 43) rfl rfl (zK8 w4) rfl ?_
    refine zA (zD rfl)<|zF<|zH<|zC<|zA (zB rfl)<|zA (z7 rfl rfl) ?_
    refine zF ?_
    refine zW h rfl (fun b18 h => ?_) (fun b18 h => ?_)
    ·refine zH<|zC<|zA (zB rfl)<|zA (zD rfl)<|zF<|zb ?_
     cases h
     exact zv (zAI rfl rfl)
    refine zQ<|zH<|zC<|zA (zK Tryz.underlying55 rfl rfl Tryz.sizeOf53 rfl)<|zA (zN Tryz.isAgg53 rfl rfl rfl rfl)<|zA (zY Tryz.underlying53 rfl) ?_
    refine zA (zB rfl)<|zF<|zR<|zt (σ:=Int) (fun i5=>mkE [(1,(AV.ptr 0 0)),(51,(ls zI A.caches)),(52,(li (A.caches.length:Int))),(53,(li i4)),(66,(ls (cS cI) ((at_ A.caches i4).lists))),(67,(li (((at_ A.caches i4).lists).length:Int))),(68,(li i5))]) (fun i5=>[.box 26 (zG A)]) (fun n4 i5=>zDk (zBS A n3) A i4 n4 i5) 0 h (fun _=>rfl) (zAD [0] rfl rfl (by kernel_rfl)) ?_
    clear h
    intro n4 i5 h
    replace h:zB7 (zBS A n3) A i4 (zDk (zBS A n3) A i4 n4) i5=some r:=h
    unfold zB7 at h
    refine zH<|zC<|zA (zh rfl rfl)<|zF<|zH ?_
    refine zW h rfl (fun b19 h => ?_) (fun b19 h => ?_)
    ·refine zQ<|zH<|zR<|zH<|zC<|zM h fun b20 h => ?_
     refine zA (zV Tryz.underlying53 Tryz.sizeOf22 (fun _=>rfl) rfl rfl b20)<|zA (zU (o:=0) Tryz.isAgg22 rfl rfl)<|zA (zD rfl)<|zF<|zH<|zC ?_
     refine zA (zB rfl)<|zA (zY Tryz.underlying22 rfl)<|zA (zK Tryz.underlying26 rfl rfl Tryz.sizeOf3 rfl)<|zA (zN Tryz.isAgg3 rfl rfl rfl rfl)<|zA (zAo rfl rfl)<|zF ?_
     refine zW h rfl (fun b21 h => ?_) (fun b21 h => ?_)
     ·refine zH<|zC<|zA (zD rfl)<|zF<|zb ?_
      cases h
      exact zv (zAI rfl rfl)
     refine zQ<|zC<|zM h fun b22 h=>zA (zg rfl rfl b22)<|zA (zB rfl)<|zF ?_
     exact ⟨(i5+1),zAD [0] rfl rfl (by kernel_rfl),h⟩
    refine zz ?_
    exact ⟨(),zAD [0] rfl rfl (by kernel_rfl),h⟩
   clear h
   intro _ h
   unfold zFR at h
   refine zC<|zM h fun b16 h=>zA (zg rfl rfl b16)<|zA (zB rfl)<|zF ?_
   exact ⟨(i4+1),zAD [0] rfl rfl (by kernel_rfl),h⟩
  refine zz ?_
  exact ⟨(),zAD [0] rfl rfl (by kernel_rfl),h⟩
 clear h
 intro _ h
 unfold zDh at h
 refine zH<|zC<|zX (H':=[.box 26 (zG A),.map (mI Value.bool ([]:List (Int×Bool)))]) (zMc)<|zA (zD rfl)<|zF ?_
 refine zx (r:=r) (fun (_:Unit)=>mkE []) (fun _=>[]) (fun _=>zHD ) ?_ ?_
 ·
  refine zH<|zC<|zA (zK Tryz.underlying26 rfl rfl Tryz.sizeOf24 rfl)<|zA (zN Tryz.isAgg24 rfl rfl rfl rfl)<|zA (zY Tryz.underlying24 rfl)<|zA (zB rfl) ?_
  refine zF<|zR<|zt (σ:=Int×(List (Int×Bool))) (fun (i1,l1)=>mkE [(1,(AV.ptr 0 0)),(12,(AV.hd 1)),(81,(ls zI A.caches)),(82,(li (A.caches.length:Int))),(83,(li i1))]) (fun (i1,l1)=>[.box 26 (zG A),.map (mI Value.bool l1)]) (fun n0 (i1,l1)=>zAY A n0 i1 l1) (0,([]:List (Int×Bool))) h (fun _=>rfl) (zAD [0,1] rfl rfl (by kernel_rfl)) ?_
  clear h
  rintro n0 ⟨i1,l1⟩ h
  replace h:zCI A (zAY A n0) i1 l1=some r:=h
  unfold zCI at h
  refine zH<|zC<|zA (zh rfl rfl)<|zF<|zH ?_
  refine zW h rfl (fun b3 h => ?_) (fun b3 h => ?_)
  ·refine zQ ?_
   refine zx (r:=r) (fun (l2:List (Int×Bool))=>mkE [(1,(AV.ptr 0 0)),(12,(AV.hd 1)),(81,(ls zI A.caches)),(82,(li (A.caches.length:Int))),(83,(li i1))]) (fun l2=>[.box 26 (zG A),.map (mI Value.bool l2)]) (fun l2=>zFM (zAY A n0) i1 l2) ?_ ?_
   ·
    refine zR<|zH<|zC<|zM h fun b5 h=>zA (zV Tryz.underlying24 Tryz.sizeOf55 (fun _=>rfl) rfl rfl b5)<|zA (zAf (row:=(zI (at_ A.caches i1))) (o:=0) (m:=1) (la:=(zI (at_ A.caches i1))) Tryz.isAgg55 Tryz.sizeOf55 rfl rfl rfl) ?_
    refine zX (H':=[.box 26 (zG A),.map (mI Value.bool l1),.box 55 [(ls (cS cI) ([]:List (List Int)))]]) zv1<|zd (H':=[.box 26 (zG A),.map (mI Value.bool l1),.box 55 (zI (at_ A.caches i1))]) (zT (k:=2) (o:=0) (cs:=[(ls (cS cI) ([]:List (List Int)))]) (la:=(zI (at_ A.caches i1))) Tryz.sizeOf55 rfl rfl rfl rfl)<|zF<|zH<|zC<|zA (zK Tryz.underlying55 rfl rfl Tryz.sizeOf53 rfl) ?_
    refine zA (zN Tryz.isAgg53 rfl rfl rfl rfl)<|zA (zY Tryz.underlying53 rfl)<|zA (zB rfl)<|zF<|zR<|zt (σ:=Int×(List (Int×Bool))) (fun (i2,l3)=>mkE [(1,(AV.ptr 0 0)),(12,(AV.hd 1)),(81,(ls zI A.caches)),(82,(li (A.caches.length:Int))),(83,(li i1)),(88,(ls (cS cI) ((at_ A.caches i1).lists))),(89,(li (((at_ A.caches i1).lists).length:Int))),(90,(li i2))]) (fun (i2,l3)=>[.box 26 (zG A),.map (mI Value.bool l3)]) (fun n1 (i2,l3)=>zAs (zAY A n0) A i1 n1 i2 l3) (0,l1) h (fun _=>rfl) (zAD [0,1] rfl rfl (by kernel_rfl)) ?_
    clear h
    rintro n1 ⟨i2,l3⟩ h
    replace h:zCO (zAY A n0) A i1 (zAs (zAY A n0) A i1 n1) i2 l3=some r:=h
    unfold zCO at h
    refine zH<|zC<|zA (zh rfl rfl)<|zF<|zH ?_
    refine zW h rfl (fun b6 h => ?_) (fun b6 h => ?_)
    ·refine zQ ?_
     refine zx (r:=r) (fun (l4:List (Int×Bool))=>mkE [(1,(AV.ptr 0 0)),(12,(AV.hd 1)),(81,(ls zI A.caches)),(82,(li (A.caches.length:Int))),(83,(li i1)),(88,(ls (cS cI) ((at_ A.caches i1).lists))),(89,(li (((at_ A.caches i1).lists).length:Int))),(90,(li i2))]) (fun l4=>[.box 26 (zG A),.map (mI Value.bool l4)]) (fun l4=>zFP (zAs (zAY A n0) A i1 n1) i2 l4) ?_ ?_
     ·
      refine zR<|zH<|zC<|zA (zB rfl)<|zM h fun b8 h=>zA (zV Tryz.underlying53 Tryz.sizeOf22 (fun _=>rfl) rfl rfl b8) ?_
      refine zA (zU (o:=0) Tryz.isAgg22 rfl rfl)<|zA (zD rfl)<|zA (zD rfl)<|zF<|zH<|zC ?_
      refine zA (zB rfl)<|zA (zY Tryz.underlying22 rfl)<|zA (zB rfl)<|zF<|zR<|zt (σ:=Int×(List (Int×Bool))) (fun (i3,l5)=>mkE [(1,(AV.ptr 0 0)),(12,(AV.hd 1)),(15,(li i2)),(81,(ls zI A.caches)),(82,(li (A.caches.length:Int))),(83,(li i1)),(88,(ls (cS cI) ((at_ A.caches i1).lists))),(89,(li (((at_ A.caches i1).lists).length:Int))),(90,(li i2)),(95,(ls cI (at_ ((at_ A.caches i1).lists) i2))),(96,(li ((at_ ((at_ A.caches i1).lists) i2).length:Int))),(97,(li i3))]) (fun (i3,l5)=>[.box 26 (zG A),.map (mI Value.bool l5)]) (fun n2 (i3,l5)=>zBl (zAs (zAY A n0) A i1 n1) A i1 i2 n2 i3 l5) (0,l3) h (fun _=>rfl) (zAD [0,1] rfl rfl (by kernel_rfl)) ?_
      clear h
      rintro n2 ⟨i3,l5⟩ h
      replace h:zCA (zAs (zAY A n0) A i1 n1) A i1 i2 (zBl (zAs (zAY A n0) A i1 n1) A i1 i2 n2) i3 l5=some r:=h
      unfold zCA at h
      refine zH<|zC<|zA (zh rfl rfl)<|zF<|zH ?_
      refine zW h rfl (fun b9 h => ?_) (fun b9 h => ?_)
      ·refine zQ<|zH<|zR<|zH<|zC<|zM h fun b10 h => ?_
       refine zA (zV Tryz.underlying22 Tryz.sizeOf3 (fun _=>rfl) rfl rfl b10)<|zA (zU (o:=0) Tryz.isAgg3 rfl rfl)<|zA (zD rfl)<|zF<|zH<|zH ?_
       refine zC<|zA (zS (k:=0) (o:=0) (m:=5) Tryz.isAgg26 Tryz.sizeOf26 rfl rfl rfl rfl rfl)<|zA (zB rfl)<|zP h fun x2 w2 h=>ze Tryz.func44 rfl (by kernel_rfl) (.fn 44) rfl rfl (zEZ w2) rfl<|zA (zB rfl) ?_
       refine zA (z7 rfl rfl)<|zF ?_
       refine zW h rfl (fun b11 h => ?_) (fun b11 h => ?_)
       ·refine zH<|zC<|zA (zD rfl)<|zF<|zb ?_
        cases h
        exact zv (zAI rfl rfl)
       refine zQ<|zH<|zH<|zC<|zA (zB rfl)<|zA (zB rfl) ?_
       refine zA (zON (k:=1) (g:=Value.bool) (q:=at_ (at_ ((at_ A.caches i1).lists) i2) i3) (l:=l5) (dflt:=false) (a:=(AV.lit (.bool (zNP false l5 (at_ (at_ ((at_ A.caches i1).lists) i2) i3))))) Tryz.underlying58 Tryz.underlying3 Tryz.zeroValue4 rfl rfl rfl rfl)<|zA (zB rfl)<|zZ rfl rfl (fun c1=>zq.step (zK Tryz.underlying26 rfl rfl Tryz.sizeOf23 rfl))<|zZ rfl rfl (fun c2=>zq.step (zN Tryz.isAgg23 (z8 rfl c2) rfl rfl rfl))<|zZ rfl rfl (fun c3=>zq.step (zB rfl))<|zM h fun b12 h => ?_
       refine zZ rfl rfl (fun c4=>zq.step (zV Tryz.underlying23 Tryz.sizeOf51 (fun _=>rfl) (z8 rfl c4) (z8 rfl c4) (zHd b12 c4)))<|zZ rfl rfl (fun c5=>zq.step (zAf (row:=(zO (at_ A.zones i2))) (o:=0) (m:=10) (la:=(zO (at_ A.zones i2))) Tryz.isAgg51 Tryz.sizeOf51 (z8 rfl c5) rfl rfl))<|zZ rfl rfl (fun c6=>zq.step (zB rfl))<|zP h fun x3 w3 h=>zCX (g:=109) (s:=zNP false l5 (at_ (at_ ((at_ A.caches i1).lists) i2) i3)) (r':=(AV.lit (.bool x3))) rfl rfl (fun c7=>⟨45,_,_,[],[(AV.agg (zO (at_ A.zones i2))),(li (at_ (at_ ((at_ A.caches i1).lists) i2) i3))],[(AV.agg (zO (at_ A.zones i2))),(li (at_ (at_ ((at_ A.caches i1).lists) i2) i3))],(AV.lit (.bool x3)),[],Tryz.func45,rfl,by kernel_rfl,.fn 45,(zAL (z8 rfl c7) (zAL (z8 rfl c7) rfl)),⟨zAl.nr rfl,zAl.nr rfl,trivial⟩,zLZ (zFy c7 w3),.inl rfl,rfl⟩)<|zA (zj rfl rfl) ?_
       refine zF ?_
       refine zW h rfl (fun b13 h => ?_) (fun b13 h => ?_)
       ·refine zH<|zC<|zA (zD rfl)<|zF<|zb ?_
        cases h
        exact zv (zAI rfl rfl)
       refine zQ<|zC<|zA (zB rfl)<|zA (zB rfl)<|zd (H':=[.box 26 (zG A),.map (mI Value.bool (zKx l5 (at_ (at_ ((at_ A.caches i1).lists) i2) i3) true))]) (zNp (k:=1) (g:=Value.bool) (q:=at_ (at_ ((at_ A.caches i1).lists) i2) i3) (l:=l5) (v:=true) Tryz.underlying58 Tryz.underlying3 rfl rfl rfl rfl)<|zF ?_
       refine zC<|zM h fun b14 h=>zA (zg rfl rfl b14)<|zA (zB rfl)<|zF ?_
       exact ⟨((i3+1),(zKx l5 (at_ (at_ ((at_ A.caches i1).lists) i2) i3) true)),zAD [0,1] rfl rfl (by kernel_rfl),h⟩
      refine zz ?_
      exact ⟨l5,zAD [0,1] rfl rfl (by kernel_rfl),h⟩
     clear h
     intro l4 h
     unfold zFP at h
     refine zC<|zM h fun b7 h=>zA (zg rfl rfl b7)<|zA (zB rfl)<|zF ?_
     exact ⟨((i2+1),l4),zAD [0,1] rfl rfl (by kernel_rfl),h⟩
    refine zz ?_
    exact ⟨l3,zAD [0,1] rfl rfl (by kernel_rfl),h⟩
   clear h
   intro l2 h
   unfold zFM at h
   refine zC<|zM h fun b4 h=>zA (zg rfl rfl b4)<|zA (zB rfl)<|zF ?_
   exact ⟨((i1+1),l2),zAD [0,1] rfl rfl (by kernel_rfl),h⟩
  refine zz ?_
  exact ⟨(),zAD [] rfl rfl (by kernel_rfl),h⟩
 clear h
 intro _ h
 unfold zHD at h
 refine zH<|zC<|zA (zD rfl)<|zF<|zb ?_
 cases h
 exact zv (zAI rfl rfl)
theorem zMG {B:zJ} {r:Int} (h:zIe B=some r):PFn Tryz.prog 15 [(AV.agg (zG B))] (li r):=by
 refine zm Tryz.func15 rfl Tryz.ntmps15 Tryz.results15 rfl ?_
 unfold zIe at h
 refine zH<|zC<|zX (H':=[.box 26 (zG B)]) (zu (t:=26) rfl)<|zA (zD rfl)<|zF<|zH ?_
 refine zH<|zC<|zA (zS (k:=0) (o:=0) (m:=5) Tryz.isAgg26 Tryz.sizeOf26 rfl rfl rfl rfl rfl)<|zP h fun x1 w1 h=>ze Tryz.func13 rfl (by kernel_rfl) (.fn 13) rfl rfl (zA1 w1) rfl<|zA (z7 rfl rfl) ?_
 refine zF ?_
 refine zW h rfl (fun b1 h => ?_) (fun b1 h => ?_)
 ·refine zH<|zC<|zA (zD rfl)<|zF<|zb ?_
  cases h
  exact zv (zAI rfl rfl)
 refine zQ<|zH<|zC<|zA (zK Tryz.underlying26 rfl rfl Tryz.sizeOf23 rfl)<|zA (zN Tryz.isAgg23 rfl rfl rfl rfl)<|zA (zK Tryz.underlying26 rfl rfl Tryz.sizeOf23 rfl) ?_
 refine zA (zN Tryz.isAgg23 rfl rfl rfl rfl)<|zA (zY Tryz.underlying23 rfl)<|zM h fun b2 h=>zA (zBa rfl rfl b2)<|zM h fun b3 h=>zA (zV Tryz.underlying23 Tryz.sizeOf51 (fun _=>rfl) rfl rfl b3) ?_
 refine zA (zAf (row:=(zO (at_ B.zones ((B.zones.length:Int) - 1)))) (o:=0) (m:=10) (la:=(zO (at_ B.zones ((B.zones.length:Int) - 1)))) Tryz.isAgg51 Tryz.sizeOf51 rfl rfl rfl)<|zX (H':=[.box 26 (zG B),.box 51 (zO ⟨0,0,0,0,0,(List.replicate 5 ([]:List Int))⟩)]) zv0<|zd (H':=[.box 26 (zG B),.box 51 (zO (at_ B.zones ((B.zones.length:Int) - 1)))]) (zT (k:=1) (o:=0) (cs:=(zO ⟨0,0,0,0,0,(List.replicate 5 ([]:List Int))⟩)) (la:=(zO (at_ B.zones ((B.zones.length:Int) - 1)))) Tryz.sizeOf51 rfl rfl rfl rfl)<|zF<|zH<|zC ?_
 refine zA (zK Tryz.underlying51 rfl rfl Tryz.sizeOf3 rfl)<|zA (zN Tryz.isAgg3 rfl rfl rfl rfl)<|zA (zK Tryz.underlying51 rfl rfl Tryz.sizeOf3 rfl)<|zA (zN Tryz.isAgg3 rfl rfl rfl rfl)<|zM h fun b4 h=>zA (zg rfl rfl b4) ?_
 refine zA (zD rfl)<|zF<|zb ?_
 cases h
 exact zv (zAI rfl rfl)
theorem zMp {C:zi} {V:Int} {r:Int} (h:zH7 C V=some r):PFn Tryz.prog 133 [(AV.agg (zO C)),li V] (li r):=by
 refine zm Tryz.func133 rfl Tryz.ntmps133 Tryz.results133 rfl ?_
 unfold zH7 at h
 refine zH<|zC<|zX (H':=[.box 51 (zO C)]) (zu (t:=51) rfl)<|zA (zD rfl)<|zF<|zH ?_
 refine zH<|zC<|zA (zS (k:=0) (o:=0) (m:=10) Tryz.isAgg51 Tryz.sizeOf51 rfl rfl rfl rfl rfl)<|zP h fun x1 w1 h=>ze Tryz.func42 rfl (by kernel_rfl) (.fn 42) rfl rfl (zEC w1) rfl<|zA (z7 rfl rfl) ?_
 refine zA (zB rfl)<|zZ rfl rfl (fun c1=>zq.step (zB rfl))<|zZ rfl rfl (fun c2=>zq.step (zh (z8 rfl c2) rfl))<|zA (zj rfl rfl)<|zA (zB rfl)<|zZ rfl rfl (fun c3=>zq.step (zB rfl)) ?_
 refine zZ rfl rfl (fun c4=>zq.step (zAo (z8 rfl c4) rfl))<|zA (zj rfl rfl)<|zF ?_
 refine zW h rfl (fun b1 h => ?_) (fun b1 h => ?_)
 ·refine zH<|zC<|zA (zD rfl)<|zF<|zb ?_
  cases h
  exact zv (zAI rfl rfl)
 refine zQ<|zH<|zC<|zA (zD rfl)<|zF ?_
 refine zx (r:=r) (fun (i1:Int)=>mkE [(5,(li i1))]) (fun i1=>[]) (fun i1=>zHs i1) ?_ ?_
 ·
  refine zH<|zC<|zA (zK Tryz.underlying51 rfl rfl Tryz.sizeOf49 rfl)<|zA (zB rfl)<|z5 (zTl (k:=0) (cs:=(zO C)) (cs':=(zO C)) (ds:=[(2,0),(19,5)]) rfl rfl rfl ⟨rfl,rfl,trivial⟩)<|zM h fun b2 h => ?_
  refine zM h fun b3 h=>zA (zPV (o:=5) (cs:=(zO C)) (hd:=([li C.node]++[li C.kind]++[li C.start]++[li C.count]++[li C.min]++[])) (tl:=([])) (g:=(eS cI)) (d0:=([]:List Int)) (l:=C.free) (hi:=V) (f:=(cS cI)) Tryz.underlying49 Tryz.sizeOf22 rfl rfl rfl (fun _=>rfl) rfl b2 b3 rfl)<|zA (zY Tryz.underlying53 rfl)<|zA (zB rfl)<|zF<|zR ?_
  refine zt (σ:=Int×Int) (fun (i2,i3)=>mkE [(5,(li i2)),(21,(ls (cS cI) (zH6 C.free 0 V))),(22,(li ((zH6 C.free 0 V).length:Int))),(23,(li i3))]) (fun (i2,i3)=>[]) (fun n0 (i2,i3)=>zEY C V n0 i2 i3) (0,0) h (fun _=>rfl) (zAD [] rfl rfl (by kernel_rfl)) ?_
  clear h
  rintro n0 ⟨i2,i3⟩ h
  replace h:zCa C V (zEY C V n0) i2 i3=some r:=h
  unfold zCa at h
  refine zH<|zC<|zA (zh rfl rfl)<|zF<|zH ?_
  refine zW h rfl (fun b4 h => ?_) (fun b4 h => ?_)
  ·refine zQ<|zH<|zR<|zH<|zC<|zA (zB rfl) ?_
   refine zM h fun b5 h=>zA (zV Tryz.underlying53 Tryz.sizeOf22 (fun _=>rfl) rfl rfl b5)<|zA (zU (o:=0) Tryz.isAgg22 rfl rfl)<|zA (zD rfl)<|zA (zD rfl)<|zF ?_
   refine zC<|zA (zB rfl)<|zA (zB rfl)<|zA (zY Tryz.underlying22 rfl)<|zA (zB rfl)<|zM h fun b6 h => ?_
   refine zM h fun b7 h=>zA (zCx (a:=((at_ (zH6 C.free 0 V) i3).length:Int)) (b:=i3) rfl rfl b6 b7)<|zM h fun b8 h=>zA (zg rfl rfl b8)<|zA (zD rfl)<|zF ?_
   refine zC<|zM h fun b9 h=>zA (zg rfl rfl b9)<|zA (zB rfl)<|zF ?_
   exact ⟨((i2+(((at_ (zH6 C.free 0 V) i3).length:Int)*2 ^ i3.toNat)),(i3+1)),zAD [] rfl rfl (by kernel_rfl),h⟩
  refine zz ?_
  exact ⟨i2,zAD [] rfl rfl (by kernel_rfl),h⟩
 clear h
 intro i1 h
 unfold zHs at h
 refine zH<|zC<|zA (zB rfl)<|zA (zD rfl)<|zF<|zb ?_
 cases h
 exact zv (zAI rfl rfl)
theorem zPg {C:zi} {r:Int} (h:zLl C=some r):PFn Tryz.prog 134 [(AV.agg (zO C))] (li r):=by
 refine zm Tryz.func134 rfl Tryz.ntmps134 Tryz.results134 rfl ?_
 unfold zLl at h
 refine zH<|zC<|zX (H':=[.box 51 (zO C)]) (zu (t:=51) rfl)<|zA (zD rfl)<|zF<|zH ?_
 refine zH<|zC<|zA (zS (k:=0) (o:=0) (m:=10) Tryz.isAgg51 Tryz.sizeOf51 rfl rfl rfl rfl rfl)<|zP h fun x1 w1 h=>ze Tryz.func42 rfl (by kernel_rfl) (.fn 42) rfl rfl (zEC w1) rfl<|zA (z7 rfl rfl) ?_
 refine zF ?_
 refine zW h rfl (fun b1 h => ?_) (fun b1 h => ?_)
 ·refine zH<|zC<|zA (zD rfl)<|zF<|zb ?_
  cases h
  exact zv (zAI rfl rfl)
 refine zQ<|zH<|zC<|zA (zK Tryz.underlying51 rfl rfl Tryz.sizeOf49 rfl)<|zA (zAG (m:=5) (s:=1) (i:=4) (k:=0) (o:=5) Tryz.underlying49 Tryz.sizeOf22 rfl rfl (by decide))<|zA (zAr (k:=0) (o:=9) (cs:=(zO C)) (hd:=([li C.node]++[li C.kind]++[li C.start]++[li C.count]++[li C.min]++[])) (tl:=([])) (g:=(eS cI)) (d0:=([]:List Int)) (l:=C.free) (N:=5) (i:=(4:Int).toNat) (a:=(ls cI (C.free.getD (4:Int).toNat ([]:List Int)))) Tryz.isAgg22 rfl rfl rfl rfl (by decide) rfl rfl) ?_
 refine zA (zY Tryz.underlying22 rfl)<|zM h fun b2 h=>zA (zCx (a:=((C.free.getD (4:Int).toNat ([]:List Int)).length:Int)) (b:=4) rfl rfl (by decide) b2)<|zA (zD rfl)<|zF<|zb ?_
 cases h
 exact zv (zAI rfl rfl)
theorem zOX {C:zi} {r:Int} (h:zI8 C=some r):PFn Tryz.prog 99 [(AV.agg (zO C))] (li r):=by
 refine zm Tryz.func99 rfl Tryz.ntmps99 Tryz.results99 rfl ?_
 unfold zI8 at h
 refine zH<|zC<|zX (H':=[.box 51 (zO C)]) (zu (t:=51) rfl)<|zA (zD rfl)<|zF<|zH ?_
 refine zP h fun x1 w1 h=>zP h fun x2 w2 h=>zM h fun b1 h => ?_
 refine zAm (n:=8) (m:=0) [.head 0 0,.head 0 0,.head 0 0,.head 0 0,.head 0 0,.head 0 0] [] [(AV.agg (zO C)),li x1,(AV.agg (zO C)),li x2,(li (x1+x2)),(li (x1+x2))] [[.box 51 (zO C)]] (by kernel_rfl) (by kernel_rfl) ⟨D1 fun e s p=>zS (k:=0) (o:=0) (m:=10) Tryz.isAgg51 Tryz.sizeOf51 (s 1 rfl) rfl rfl rfl rfl,?_,D1 fun e s p=>zS (k:=0) (o:=0) (m:=10) Tryz.isAgg51 Tryz.sizeOf51 (s 1 rfl) rfl rfl rfl rfl,?_,D1 fun e s p=>zg (a:=x1) (b:=x2) p.1 p.2.1 b1,D1 fun e s p=>zD p.2.2.2.2.2.2.1,trivial⟩ ?_
 ·
  intro e2 s2 p2
  refine ze (r:=(li x1)) (la:=[(AV.agg (zO C)),li 4]) Tryz.func133 rfl (by kernel_rfl) (.fn 133) (zAL p2.1 (zAL rfl rfl)) rfl (zMp w1) rfl ?_
  exact zF ⟨fun _=>rfl,rfl⟩
 ·
  intro e4 s4 p4
  refine ze (r:=(li x2)) (la:=[(AV.agg (zO C))]) Tryz.func134 rfl (by kernel_rfl) (.fn 134) (zAL p4.1 rfl) rfl (zPg w2) rfl ?_
  exact zF ⟨fun _=>rfl,rfl⟩
 intro e7 s7 hq1
 refine zAS (zBI (l:=[(2,(li (x1+x2)))]) ⟨(hq1 5 (by decide) (by decide)),trivial⟩)<|zb ?_
 cases h
 exact zv (zAI rfl rfl)
theorem zHe {B:zJ} {C:Int} {r:Int} (h:zDI B C=some r):PFn Tryz.prog 52 [(AV.agg (zG B)),li C] (li r):=by
 refine zm Tryz.func52 rfl Tryz.ntmps52 Tryz.results52 rfl ?_
 unfold zDI at h
 refine zH<|zC<|zX (H':=[.box 26 (zG B)]) (zu (t:=26) rfl)<|zA (zD rfl)<|zF<|zH ?_
 refine zC<|zA (zK Tryz.underlying26 rfl rfl Tryz.sizeOf23 rfl)<|zA (zN Tryz.isAgg23 rfl rfl rfl rfl)<|zA (zB rfl)<|zM h fun b1 h=>zA (zV Tryz.underlying23 Tryz.sizeOf51 (fun _=>rfl) rfl rfl b1) ?_
 refine zA (zAf (row:=(zO (at_ B.zones C))) (o:=0) (m:=10) (la:=(zO (at_ B.zones C))) Tryz.isAgg51 Tryz.sizeOf51 rfl rfl rfl)<|zP h fun x1 w1 h=>ze Tryz.func99 rfl (by kernel_rfl) (.fn 99) rfl rfl (zOX w1) rfl<|zA (zD rfl)<|zF ?_
 refine zx (r:=r) (fun (i1:Int)=>mkE [(5,(li i1))]) (fun i1=>[]) (fun i1=>zG4 i1) ?_ ?_
 ·
  refine zH<|zC<|zA (zK Tryz.underlying26 rfl rfl Tryz.sizeOf24 rfl)<|zA (zN Tryz.isAgg24 rfl rfl rfl rfl)<|zA (zY Tryz.underlying24 rfl)<|zA (zB rfl) ?_
  refine zF<|zR<|zt (σ:=Int×Int) (fun (i2,i3)=>mkE [(1,(li C)),(5,(li i2)),(15,(ls zI B.caches)),(16,(li (B.caches.length:Int))),(17,(li i3))]) (fun (i2,i3)=>[]) (fun n0 (i2,i3)=>zDm B C n0 i2 i3) (x1,0) h (fun _=>rfl) (zAD [] rfl rfl (by kernel_rfl)) ?_
  clear h
  rintro n0 ⟨i2,i3⟩ h
  replace h:zB8 B C (zDm B C n0) i2 i3=some r:=h
  unfold zB8 at h
  refine zH<|zC<|zA (zh rfl rfl)<|zF<|zH ?_
  refine zW h rfl (fun b2 h => ?_) (fun b2 h => ?_)
  ·refine zQ<|zH<|zR<|zH<|zC<|zM h fun b3 h => ?_
   refine zA (zV Tryz.underlying24 Tryz.sizeOf55 (fun _=>rfl) rfl rfl b3)<|zA (zAf (row:=(zI (at_ B.caches i3))) (o:=0) (m:=1) (la:=(zI (at_ B.caches i3))) Tryz.isAgg55 Tryz.sizeOf55 rfl rfl rfl)<|zX (H':=[.box 55 [(ls (cS cI) ([]:List (List Int)))]]) zv1<|zd (H':=[.box 55 (zI (at_ B.caches i3))]) (zT (k:=0) (o:=0) (cs:=[(ls (cS cI) ([]:List (List Int)))]) (la:=(zI (at_ B.caches i3))) Tryz.sizeOf55 rfl rfl rfl rfl)<|zF<|zC ?_
   refine zA (zB rfl)<|zA (zK Tryz.underlying55 rfl rfl Tryz.sizeOf53 rfl)<|zA (zN Tryz.isAgg53 rfl rfl rfl rfl)<|zA (zB rfl)<|zM h fun b4 h=>zA (zV Tryz.underlying53 Tryz.sizeOf22 (fun _=>rfl) rfl rfl b4) ?_
   refine zA (zU (o:=0) Tryz.isAgg22 rfl rfl)<|zA (zY Tryz.underlying22 rfl)<|zM h fun b5 h=>zA (zg rfl rfl b5)<|zA (zD rfl)<|zF ?_
   refine zC<|zM h fun b6 h=>zA (zg rfl rfl b6)<|zA (zB rfl)<|zF ?_
   exact ⟨((i2+((at_ ((at_ B.caches i3).lists) C).length:Int)),(i3+1)),zAD [] rfl rfl (by kernel_rfl),h⟩
  refine zz ?_
  exact ⟨i2,zAD [] rfl rfl (by kernel_rfl),h⟩
 clear h
 intro i1 h
 unfold zG4 at h
 refine zH<|zC<|zA (zB rfl)<|zA (zD rfl)<|zF<|zb ?_
 cases h
 exact zv (zAI rfl rfl)
theorem zF4 {B:zJ} {C:Int} {r:Int} (h:zDD B C=some r):PFn Tryz.prog 39 [(AV.agg (zG B)),li C] (li r):=by
 refine zm Tryz.func39 rfl Tryz.ntmps39 Tryz.results39 rfl ?_
 unfold zDD at h
 refine zH<|zC<|zX (H':=[.box 26 (zG B)]) (zu (t:=26) rfl)<|zA (zD rfl)<|zF<|zH ?_
 refine zP h fun x1 w1 h=>zM h fun b1 h=>zM h fun b2 h => ?_
 refine zAm (n:=15) (m:=0) [.head 0 0,.head 0 0,.head 0 0,.head 0 0,.head 0 0,.head 0 0,.head 0 0,.head 0 0,.head 0 0,.head 0 0,.head 0 0] [] [(AV.agg (zG B)),li C,li x1,AV.ptr 0 3,ls zO B.zones,li C,(AV.rp (zO (at_ B.zones C)) 0),(AV.rp (zO (at_ B.zones C)) 4),(li ((at_ B.zones C).min)),(li (x1 - ((at_ B.zones C).min))),(li (x1 - ((at_ B.zones C).min)))] [[.box 26 (zG B)]] (by kernel_rfl) (by kernel_rfl) ⟨D1 fun e s p=>zS (k:=0) (o:=0) (m:=5) Tryz.isAgg26 Tryz.sizeOf26 (s 2 rfl) rfl rfl rfl rfl,D1 fun e s p=>zB (s 1 rfl),?_,D1 fun e s p=>zK (k:=0) (o:=0) (off:=3) Tryz.underlying26 rfl rfl Tryz.sizeOf23 (s 2 rfl),D1 fun e s p=>zN (k:=0) (o:=3) Tryz.isAgg23 p.1 rfl rfl rfl,D1 fun e s p=>zB (s 1 rfl),D1 fun e s p=>zV (f:=zO) (l:=B.zones) (i:=C) Tryz.underlying23 Tryz.sizeOf51 (fun _=>rfl) p.1 p.2.1 b1,D1 fun e s p=>zAw (row:=(zO (at_ B.zones C))) (o:=0) (off:=4) Tryz.underlying51 rfl rfl Tryz.sizeOf3 p.1,D1 fun e s p=>zU (o:=4) Tryz.isAgg3 p.1 rfl,D1 fun e s p=>zBa (a:=x1) (b:=(at_ B.zones C).min) p.1 p.2.1 b2,D1 fun e s p=>zD p.2.2.2.2.2.2.2.2.2.2.2.1,trivial⟩ ?_
 ·
  intro e3 s3 p3
  refine ze (r:=(li x1)) (la:=[(AV.agg (zG B)),li C]) Tryz.func52 rfl (by kernel_rfl) (.fn 52) (zAL p3.1 (zAL p3.2.1 rfl)) rfl (zHe w1) rfl ?_
  exact zF ⟨fun _=>rfl,rfl⟩
 intro e12 s12 hq1
 refine zAS (zBI (l:=[(4,(li (x1 - ((at_ B.zones C).min))))]) ⟨(hq1 10 (by decide) (by decide)),trivial⟩)<|zb ?_
 cases h
 exact zv (zAI rfl rfl)
theorem zLQ {B:zJ} {r:Int×Int} (h:zHB B=some r):PFn Tryz.prog 11 [(AV.agg (zG B))] (AV.tup [li r.1,li r.2]):=by
 refine zm Tryz.func11 rfl Tryz.ntmps11 Tryz.results11 rfl ?_
 unfold zHB at h
 refine zH<|zC<|zX (H':=[.box 26 (zG B)]) (zu (t:=26) rfl)<|zA (zD rfl)<|zA (zD rfl)<|zF ?_
 refine zH<|zH<|zC<|zA (zS (k:=0) (o:=0) (m:=5) Tryz.isAgg26 Tryz.sizeOf26 rfl rfl rfl rfl rfl)<|zP h fun x1 w1 h=>ze Tryz.func13 rfl (by kernel_rfl) (.fn 13) rfl rfl (zA1 w1) rfl ?_
 refine zA (z7 rfl rfl)<|zF ?_
 refine zW h rfl (fun b1 h => ?_) (fun b1 h => ?_)
 ·refine zH<|zC<|zA (zD rfl)<|zA (zD rfl)<|zF<|zb ?_
  cases h
  exact zA5 (zAI rfl rfl) (zAI rfl rfl) rfl
 refine zQ<|zH<|zC<|zA (zD rfl)<|zA (zD rfl)<|zF ?_
 refine zx (r:=r) (fun ((i1,i2):Int×Int)=>mkE [(4,(li i1)),(5,(li i2))]) (fun (i1,i2)=>[]) (fun (i1,i2)=>zFg i1 i2) ?_ ?_
 ·
  refine zH<|zC<|zA (zK Tryz.underlying26 rfl rfl Tryz.sizeOf23 rfl)<|zA (zN Tryz.isAgg23 rfl rfl rfl rfl)<|zA (zY Tryz.underlying23 rfl)<|zA (zB rfl) ?_
  refine zF<|zR<|zt (σ:=Int×Int×Int) (fun (i3,i4,i5)=>mkE [(1,(AV.ptr 0 0)),(4,(li i3)),(5,(li i4)),(13,(ls zO B.zones)),(14,(li (B.zones.length:Int))),(15,(li i5))]) (fun (i3,i4,i5)=>[.box 26 (zG B)]) (fun n0 (i3,i4,i5)=>zCt B n0 i3 i4 i5) (0,0,0) h (fun _=>rfl) (zAD [0] rfl rfl (by kernel_rfl)) ?_
  clear h
  rintro n0 ⟨i3,i4,i5⟩ h
  replace h:zFq B (zCt B n0) i3 i4 i5=some r:=h
  unfold zFq at h
  refine zH<|zC<|zA (zh rfl rfl)<|zF<|zH ?_
  refine zW h rfl (fun b2 h => ?_) (fun b2 h => ?_)
  ·refine zQ ?_
   refine zx (r:=r) (fun ((i6,i7):Int×Int)=>mkE [(1,(AV.ptr 0 0)),(4,(li i6)),(5,(li i7)),(13,(ls zO B.zones)),(14,(li (B.zones.length:Int))),(15,(li i5))]) (fun (i6,i7)=>[.box 26 (zG B)]) (fun (i6,i7)=>zDr (zCt B n0) i5 i6 i7) ?_ ?_
   ·
    refine zR<|zH<|zC<|zA (zB rfl)<|zM h fun b4 h=>zA (zV Tryz.underlying23 Tryz.sizeOf51 (fun _=>rfl) rfl rfl b4) ?_
    refine zA (zAf (row:=(zO (at_ B.zones i5))) (o:=0) (m:=10) (la:=(zO (at_ B.zones i5))) Tryz.isAgg51 Tryz.sizeOf51 rfl rfl rfl)<|zX (H':=[.box 26 (zG B),.box 51 (zO ⟨0,0,0,0,0,(List.replicate 5 ([]:List Int))⟩)]) zv0<|zA (zD rfl)<|zd (H':=[.box 26 (zG B),.box 51 (zO (at_ B.zones i5))]) (zT (k:=1) (o:=0) (cs:=(zO ⟨0,0,0,0,0,(List.replicate 5 ([]:List Int))⟩)) (la:=(zO (at_ B.zones i5))) Tryz.sizeOf51 rfl rfl rfl rfl)<|zF<|zH ?_
    refine zC<|zA (zS (k:=0) (o:=0) (m:=5) Tryz.isAgg26 Tryz.sizeOf26 rfl rfl rfl rfl rfl)<|zA (zB rfl)<|zP h fun x2 w2 h=>ze Tryz.func39 rfl (by kernel_rfl) (.fn 39) rfl rfl (zF4 w2) rfl<|zA (zD rfl) ?_
    refine zF<|zH<|zC<|zA (zB rfl)<|zA (zB rfl)<|zM h fun b5 h => ?_
    refine zA (zg rfl rfl b5)<|zA (zD rfl)<|zF<|zH<|zC<|zA (zK Tryz.underlying51 rfl rfl Tryz.sizeOf3 rfl) ?_
    refine zA (zN Tryz.isAgg3 rfl rfl rfl rfl)<|zA (zA8 rfl rfl)<|zF ?_
    refine zW h rfl (fun b6 h => ?_) (fun b6 h => ?_)
    ·refine zC<|zA (zB rfl)<|zA (zB rfl)<|zM h fun b7 h=>zA (zg rfl rfl b7)<|zA (zD rfl) ?_
     refine zF ?_
     exact ⟨((i3+x2),(i4+x2)),zAD [0] rfl rfl (by kernel_rfl),h⟩
    refine zQ ?_
    exact ⟨(i3,(i4+x2)),zAD [0] rfl rfl (by kernel_rfl),h⟩
   clear h
   rintro ⟨i6,i7⟩ h
   unfold zDr at h
   refine zC<|zM h fun b3 h=>zA (zg rfl rfl b3)<|zA (zB rfl)<|zF ?_
   exact ⟨(i6,i7,(i5+1)),zAD [0] rfl rfl (by kernel_rfl),h⟩
  refine zz ?_
  exact ⟨(i3,i4),zAD [] rfl rfl (by kernel_rfl),h⟩
 clear h
 rintro ⟨i1,i2⟩ h
 unfold zFg at h
 refine zH<|zC<|zA (zB rfl)<|zA (zB rfl)<|zA (zD rfl)<|zA (zD rfl) ?_
 refine zF<|zb ?_
 cases h
 exact zA5 (zAI rfl rfl) (zAI rfl rfl) rfl
theorem zNC {R:List zi} {r:Int} (h:zJ8 R=some r):PFn Tryz.prog 135 [ls zO R] (li r):=by
 refine zm Tryz.func135 rfl Tryz.ntmps135 Tryz.results135 rfl ?_
 unfold zJ8 at h
 refine zH<|zC<|zA (zD rfl)<|zF<|zH<|zH ?_
 refine zC<|zA (zB rfl)<|zA (zY Tryz.underlying23 rfl)<|zA (zAo rfl rfl)<|zF ?_
 refine zW h rfl (fun b1 h => ?_) (fun b1 h => ?_)
 ·refine zH<|zC<|zA (zD rfl)<|zF<|zb ?_
  cases h
  exact zv (zAI rfl rfl)
 refine zQ ?_
 refine zx (r:=r) (fun (_:Unit)=>mkE []) (fun _=>[]) (fun _=>zHq ) ?_ ?_
 ·
  refine zH<|zC<|zA (zB rfl)<|zA (zY Tryz.underlying23 rfl)<|zA (zB rfl)<|zF ?_
  refine zR<|zt (σ:=Int) (fun i1=>mkE [(8,(ls zO R)),(9,(li (R.length:Int))),(10,(li i1))]) (fun i1=>[]) (fun n0 i1=>zF8 R n0 i1) 0 h (fun _=>rfl) (zAD [] rfl rfl (by kernel_rfl)) ?_
  clear h
  intro n0 i1 h
  replace h:zHp R (zF8 R n0) i1=some r:=h
  unfold zHp at h
  refine zH<|zC<|zA (zh rfl rfl)<|zF<|zH ?_
  refine zW h rfl (fun b2 h => ?_) (fun b2 h => ?_)
  ·refine zQ<|zH<|zR<|zH<|zC<|zM h fun b3 h => ?_
   refine zA (zV Tryz.underlying23 Tryz.sizeOf51 (fun _=>rfl) rfl rfl b3)<|zA (zAf (row:=(zO (at_ R i1))) (o:=0) (m:=10) (la:=(zO (at_ R i1))) Tryz.isAgg51 Tryz.sizeOf51 rfl rfl rfl)<|zX (H':=[.box 51 (zO ⟨0,0,0,0,0,(List.replicate 5 ([]:List Int))⟩)]) zv0<|zd (H':=[.box 51 (zO (at_ R i1))]) (zT (k:=0) (o:=0) (cs:=(zO ⟨0,0,0,0,0,(List.replicate 5 ([]:List Int))⟩)) (la:=(zO (at_ R i1))) Tryz.sizeOf51 rfl rfl rfl rfl)<|zF<|zH ?_
   refine zH<|zC<|zA (zK Tryz.underlying51 rfl rfl Tryz.sizeOf3 rfl)<|zA (zN Tryz.isAgg3 rfl rfl rfl rfl)<|zA (zh rfl rfl)<|zA (zB rfl) ?_
   refine zZ rfl rfl (fun c1=>zq.step (zK Tryz.underlying51 rfl rfl Tryz.sizeOf3 rfl))<|zZ rfl rfl (fun c2=>zq.step (zN Tryz.isAgg3 (z8 rfl c2) rfl rfl rfl))<|zZ rfl rfl (fun c3=>zq.step (zAu (z8 rfl c3) rfl))<|zA (zj rfl rfl)<|zF ?_
   refine zW h rfl (fun b4 h => ?_) (fun b4 h => ?_)
   ·refine zH<|zC<|zA (zD rfl)<|zF<|zb ?_
    cases h
    exact zv (zAI rfl rfl)
   refine zQ<|zH<|zC<|zA (zK Tryz.underlying51 rfl rfl Tryz.sizeOf3 rfl)<|zA (zN Tryz.isAgg3 rfl rfl rfl rfl)<|zA (z7 rfl rfl) ?_
   refine zA (zB rfl)<|zo rfl rfl (fun c4=>zq.step (zK Tryz.underlying51 rfl rfl Tryz.sizeOf3 rfl))<|zo rfl rfl (fun c5=>zq.step (zN Tryz.isAgg3 (z8 rfl c5) rfl rfl rfl))<|zo rfl rfl (fun c6=>zq.step (z7 (z8 rfl c6) rfl))<|zA (z6 (j := .lit undef) rfl rfl)<|zF ?_
   refine zW h rfl (fun b5 h => ?_) (fun b5 h => ?_)
   ·refine zH<|zC<|zA (zD rfl)<|zF<|zb ?_
    cases h
    exact zv (zAI rfl rfl)
   refine zQ<|zC<|zM h fun b6 h=>zA (zg rfl rfl b6)<|zA (zB rfl)<|zF ?_
   exact ⟨(i1+1),zAD [] rfl rfl (by kernel_rfl),h⟩
  refine zz ?_
  exact ⟨(),zAD [] rfl rfl (by kernel_rfl),h⟩
 clear h
 intro _ h
 unfold zHq at h
 refine zH<|zC<|zA (zD rfl)<|zF<|zb ?_
 cases h
 exact zv (zAI rfl rfl)
theorem zNG {R:List zi} {uA:Int} {r:Int} (h:zJ1 R uA=some r):PFn Tryz.prog 100 [ls zO R,li uA] (li r):=by
 refine zm Tryz.func100 rfl Tryz.ntmps100 Tryz.results100 rfl ?_
 unfold zJ1 at h
 refine zH<|zC<|zA (zD rfl)<|zF<|zH<|zH ?_
 refine zC<|zA (zB rfl)<|zP h fun x1 w1 h=>ze Tryz.func135 rfl (by kernel_rfl) (.fn 135) rfl rfl (zNC w1) rfl<|zA (zD rfl)<|zF ?_
 refine zH<|zC<|zA (zB rfl)<|zA (z7 rfl rfl)<|zF ?_
 refine zW h rfl (fun b1 h => ?_) (fun b1 h => ?_)
 ·refine zH<|zC<|zA (zB rfl)<|zA (zD rfl)<|zF<|zb ?_
  cases h
  exact zv (zAI rfl rfl)
 refine zQ<|zH<|zH<|zC<|zA (zB rfl)<|zA (zh rfl rfl) ?_
 refine zA (zB rfl)<|zZ rfl rfl (fun c1=>zq.step (zB rfl))<|zZ rfl rfl (fun c2=>zq.step (zAu (z8 rfl c2) rfl))<|zA (zj rfl rfl)<|zF ?_
 refine zW h rfl (fun b2 h => ?_) (fun b2 h => ?_)
 ·refine zH<|zC<|zA (zD rfl)<|zF<|zb ?_
  cases h
  exact zv (zAI rfl rfl)
 refine zQ<|zH<|zC<|zA (zD rfl)<|zF<|zb ?_
 cases h
 exact zv (zAI rfl rfl)
theorem zN7 {uV:Int} {uA:Int} {r:Int} (h:zLI uV uA=some r):PFn Tryz.prog 102 [li uV,li uA] (li r):=by
 refine zm Tryz.func102 rfl Tryz.ntmps102 Tryz.results102 rfl ?_
 unfold zLI at h
 refine zH<|zC<|zA (zD rfl)<|zF<|zH<|zH ?_
 refine zC<|zA (zB rfl)<|zA (zB rfl)<|zA (zh rfl rfl)<|zF ?_
 refine zW h rfl (fun b1 h => ?_) (fun b1 h => ?_)
 ·refine zH<|zC<|zA (zB rfl)<|zA (zB rfl)<|zM h fun b2 h=>zA (zBa rfl rfl b2) ?_
  refine zM h fun b3 h=>zA (zMh (a:=2) (b:=uV - uA) rfl rfl b3)<|zA (zD rfl)<|zF<|zb ?_
  cases h
  exact zv (zAI rfl rfl)
 refine zQ<|zH<|zC<|zA (zB rfl)<|zA (zB rfl)<|zM h fun b4 h => ?_
 refine zA (zBa rfl rfl b4)<|zM h fun b5 h=>zA (zMh (a:=2) (b:=uA - uV) rfl rfl b5)<|zM h fun b6 h=>zA (zg rfl rfl b6)<|zA (zD rfl) ?_
 refine zF<|zb ?_
 cases h
 exact zv (zAI rfl rfl)
theorem zMC {uS:Int} {uH:Int} {uM:List zi} {r:Int} (h:zIZ uS uH uM=some r):PFn Tryz.prog 101 [li uS,(AV.rp [li uH] 0),(AV.rp [ls zO uM] 0)] (li r):=by
 refine zm Tryz.func101 rfl Tryz.ntmps101 Tryz.results101 rfl ?_
 unfold zIZ at h
 refine zH<|zC<|zA (zD rfl)<|zF<|zH<|zM h fun b1 h => ?_
 refine zP h fun x1 w1 h=>zM h fun b2 h => ?_
 refine zAm (n:=23) (m:=0) [.head 0 0,.head 0 0,.head 0 0,.head 0 0,.head 0 0,.head 0 0,.head 0 0,.head 0 0,.head 0 0] [] [li uH,ls zO uM,li uS,(AV.rp (zO (at_ uM uS)) 0),(AV.rp (zO (at_ uM uS)) 0),(li ((at_ uM uS).node)),li x1,(li (2*x1)),(li (2*x1))] [[]] (by kernel_rfl) (by kernel_rfl) ⟨D1 fun e s p=>zU (o:=0) Tryz.isAgg3 (s 1 rfl) rfl,D1 fun e s p=>zU (o:=0) Tryz.isAgg23 (s 2 rfl) rfl,D1 fun e s p=>zB (s 0 rfl),D1 fun e s p=>zV (f:=zO) (l:=uM) (i:=uS) Tryz.underlying23 Tryz.sizeOf51 (fun _=>rfl) p.1 p.2.1 b1,D1 fun e s p=>zAw (row:=(zO (at_ uM uS))) (o:=0) (off:=0) Tryz.underlying51 rfl rfl Tryz.sizeOf3 p.1,D1 fun e s p=>zU (o:=0) Tryz.isAgg3 p.1 rfl,?_,D1 fun e s p=>zMh (a:=2) (b:=x1) rfl p.1 b2,D1 fun e s p=>zD p.2.2.2.2.2.2.2.2.2.1,trivial⟩ ?_
 ·
  intro e7 s7 p7
  refine ze (r:=(li x1)) (la:=[li uH,(li ((at_ uM uS).node))]) Tryz.func102 rfl (by kernel_rfl) (.fn 102) (zAL p7.1 (zAL p7.2.1 rfl)) rfl (zN7 w1) rfl ?_
  exact zF ⟨fun _=>rfl,rfl⟩
 intro e10 s10 hq1
 refine zAS (zBI (l:=[(0,(li uS)),(2,(AV.rp [ls zO uM] 0)),(5,(li (2*x1)))]) ⟨s10 0 rfl,s10 2 rfl,(hq1 8 (by decide) (by decide)),trivial⟩) ?_
 refine zx (r:=r) (fun (i1:Int)=>mkE [(5,(li i1))]) (fun i1=>[]) (fun i1=>zEt i1) ?_ ?_
 ·
  refine zH<|zC<|zA (zU (o:=0) Tryz.isAgg23 rfl rfl)<|zA (zB rfl)<|zA (zV Tryz.underlying23 Tryz.sizeOf51 (fun _=>rfl) rfl rfl b1)<|zA (zAw (row:=(zO (at_ uM uS))) (o:=0) (off:=1) Tryz.underlying51 rfl rfl Tryz.sizeOf3 rfl) ?_
  refine zA (zU (o:=1) Tryz.isAgg3 rfl rfl)<|zA (zA8 rfl rfl)<|zF ?_
  refine zW h rfl (fun b3 h => ?_) (fun b3 h => ?_)
  ·refine zC<|zA (zB rfl)<|zM h fun b4 h=>zA (zg rfl rfl b4)<|zA (zD rfl)<|zF ?_
   exact ⟨((2*x1)+1),zAD [] rfl rfl (by kernel_rfl),h⟩
  refine zQ ?_
  exact ⟨(2*x1),zAD [] rfl rfl (by kernel_rfl),h⟩
 clear h
 intro i1 h
 unfold zEt at h
 refine zH<|zC<|zA (zB rfl)<|zA (zD rfl)<|zF<|zb ?_
 cases h
 exact zv (zAI rfl rfl)
theorem zMX {E:Int} {uT:Int} {r:Int} (h:zJS E uT=some r):PFn Tryz.prog 105 [li E,li uT] (li r):=by
 refine zm Tryz.func105 rfl Tryz.ntmps105 Tryz.results105 rfl ?_
 unfold zJS at h
 refine zH<|zC<|zA (zD rfl)<|zF<|zH<|zC ?_
 refine zA (zB rfl)<|zP h fun x1 w1 h=>ze Tryz.func137 rfl (by kernel_rfl) (.fn 137) rfl rfl (zGh w1) rfl<|zA (zD rfl)<|zF<|zH ?_
 refine zC<|zA (zB rfl)<|zP h fun x2 w2 h=>ze Tryz.func137 rfl (by kernel_rfl) (.fn 137) rfl rfl (zGh w2) rfl<|zA (zD rfl)<|zF ?_
 refine zH<|zH<|zC<|zA (zB rfl)<|zF ?_
 refine zW h rfl (fun b1 h => ?_) (fun b1 h => ?_)
 ·refine zH<|zH<|zC<|zA (zB rfl)<|zF ?_
  refine zW h rfl (fun b2 h => ?_) (fun b2 h => ?_)
  ·refine zH<|zC<|zA (zD rfl)<|zF<|zb ?_
   cases h
   exact zv (zAI rfl rfl)
  refine zQ<|zH<|zC<|zA (zD rfl)<|zF<|zb ?_
  cases h
  exact zv (zAI rfl rfl)
 refine zQ<|zH<|zH<|zC<|zA (zB rfl)<|zF ?_
 refine zW h rfl (fun b3 h => ?_) (fun b3 h => ?_)
 ·refine zH<|zC<|zA (zD rfl)<|zF<|zb ?_
  cases h
  exact zv (zAI rfl rfl)
 refine zQ<|zH<|zH<|zC<|zA (zB rfl)<|zA (zB rfl) ?_
 refine zA (zh rfl rfl)<|zF ?_
 refine zW h rfl (fun b4 h => ?_) (fun b4 h => ?_)
 ·refine zH<|zC<|zA (zD rfl)<|zF<|zb ?_
  cases h
  exact zv (zAI rfl rfl)
 refine zQ<|zH<|zH<|zC<|zA (zB rfl)<|zA (zB rfl) ?_
 refine zA (zAo rfl rfl)<|zF ?_
 refine zW h rfl (fun b5 h => ?_) (fun b5 h => ?_)
 ·refine zH<|zC<|zA (zD rfl)<|zF<|zb ?_
  cases h
  exact zv (zAI rfl rfl)
 refine zQ<|zH<|zC<|zA (zD rfl)<|zF<|zb ?_
 cases h
 exact zv (zAI rfl rfl)
theorem zL7 {B : Int} {Y : Int} {uH : Int → Option Int} {g_c_0 : FuncId} {cf_c_0 : Func} {code_c_0 : Code} {caps_c_0 : List AV} (hcf_c_0 : Tryz.prog.funcs[g_c_0]? = some cf_c_0) (hcb_c_0 : cf_c_0.body = some code_c_0) (hcn_c_0 : (cf_c_0.name == "runtime.NumGoroutine") = false) (hnr_c_0 : caps_c_0.all nr = true) (hg_c_0 : ∀ {x0 : Int} {y : Int}, uH x0 = some y → PFn Tryz.prog g_c_0 ((li x0) :: caps_c_0) (li y)) {r : Int} (h : zIY B Y uH = some r) : PFn Tryz.prog 104 [(li B), (li Y), (AV.rp [(AV.clo g_c_0 caps_c_0)] 0)] (li r) := by
 refine zm Tryz.func104 rfl Tryz.ntmps104 Tryz.results104 rfl ?_
 unfold zIY at h
 refine zH<|zC<|zA (zD rfl)<|zF<|zH<|zP h fun x1 w1 h => ?_
 refine zP h fun x2 w2 h=>zP h fun x3 w3 h => ?_
 refine zAm (n:=13) (m:=0) [.head 0 0,.head 0 0,.head 0 0,.head 0 0,.head 0 0,.head 0 0,.head 0 0,.head 0 0] [] [AV.clo g_c_0 caps_c_0,li B,li x1,AV.clo g_c_0 caps_c_0,li Y,li x2,li x3,li x3] [[]] (by kernel_rfl) (by kernel_rfl) ⟨D1 fun e s p=>zU (o:=0) Tryz.isAgg100 (s 2 rfl) rfl,D1 fun e s p=>zB (s 0 rfl),?_,D1 fun e s p=>zU (o:=0) Tryz.isAgg100 (s 2 rfl) rfl,D1 fun e s p=>zB (s 1 rfl),?_,?_,D1 fun e s p=>zD p.2.2.2.2.2.2.2.2.1,trivial⟩ ?_
 ·
  intro e3 s3 p3
  refine zAq (la:=(li B)::caps_c_0) (la':=(li B)::caps_c_0) (r:=(li x1)) (r':=(li x1)) (S:=[]) hcf_c_0 hcb_c_0 hcn_c_0 (.clo (caps:=caps_c_0) p3.1) (zAL p3.2.1 rfl) (zDY.c (zAl.nr rfl) (zDY.nrs hnr_c_0)) (hg_c_0 w1) (.inl rfl) rfl ?_
  exact zF ⟨fun _=>rfl,rfl⟩
 ·
  intro e6 s6 p6
  refine zAq (la:=(li Y)::caps_c_0) (la':=(li Y)::caps_c_0) (r:=(li x2)) (r':=(li x2)) (S:=[]) hcf_c_0 hcb_c_0 hcn_c_0 (.clo (caps:=caps_c_0) p6.1) (zAL p6.2.1 rfl) (zDY.c (zAl.nr rfl) (zDY.nrs hnr_c_0)) (hg_c_0 w2) (.inl rfl) rfl ?_
  exact zF ⟨fun _=>rfl,rfl⟩
 ·
  intro e7 s7 p7
  refine ze (r:=(li x3)) (la:=[li x1,li x2]) Tryz.func105 rfl (by kernel_rfl) (.fn 105) (zAL p7.1 (zAL p7.2.2.1 rfl)) rfl (zMX w3) rfl ?_
  exact zF ⟨fun _=>rfl,rfl⟩
 intro e9 s9 hq1
 refine zAS (zBI (l:=[(5,(li x3))]) ⟨(hq1 7 (by decide) (by decide)),trivial⟩)<|zb ?_
 cases h
 exact zv (zAI rfl rfl)
theorem zDZ {uW : List Int} {B : Int} {Y : Int} {uD : Int → Int → Option Int} {g_a_cmp : FuncId} {cf_a_cmp : Func} {code_a_cmp : Code} {caps_a_cmp : List AV} (hcf_a_cmp : Tryz.prog.funcs[g_a_cmp]? = some cf_a_cmp) (hcb_a_cmp : cf_a_cmp.body = some code_a_cmp) (hcn_a_cmp : (cf_a_cmp.name == "runtime.NumGoroutine") = false) (hnr_a_cmp : caps_a_cmp.all nr = true) (hg_a_cmp : ∀ {x0 : Int} {x1 : Int} {y : Int}, uD x0 x1 = some y → PFn Tryz.prog g_a_cmp ((li x0) :: (li x1) :: caps_a_cmp) (li y)) {r : (List Int)} (h : zBd uW B Y uD = some r) : AFn Tryz.prog 145 [(AV.hd 0), (li B), (li Y), (AV.clo g_a_cmp caps_a_cmp)] [.vec 3 1 (List.map cI uW)] (.tup []) [.vec 3 1 (List.map cI r)] := by
 refine zDe Tryz.func145 rfl Tryz.ntmps145 Tryz.results145 rfl ?_
 unfold zBd at h
 refine zH<|zC<|zA (zB rfl)<|zM h fun b1 h=>zA (zg rfl rfl b1)<|zA (zD rfl) ?_
 refine zF<|zR<|zt (σ:=Int×(List Int)) (fun (i1,l1)=>mkE [(0,(AV.hd 0)),(1,(li B)),(2,(li Y)),(3,(AV.clo g_a_cmp caps_a_cmp)),(8,(li i1))]) (fun (i1,l1)=>[.vec 3 1 (List.map cI l1)]) (fun n0 (i1,l1)=>zAP B Y uD n0 i1 l1) ((B+1),uW) h (fun _=>rfl) (zBV (n:=53) (m:=1) [0] (l:=[(0,(AV.hd 0)),(1,(li B)),(2,(li Y)),(3,(AV.clo g_a_cmp caps_a_cmp)),(8,(li (B+1)))]) ⟨⟨Sub.refl _,by kernel_rfl⟩,⟨Sub.refl _,by kernel_rfl⟩,⟨Sub.refl _,by kernel_rfl⟩,⟨zDb hnr_a_cmp,zDa hnr_a_cmp⟩,⟨Sub.refl _,by kernel_rfl⟩,trivial⟩ rfl rfl ⟨⟨rfl,by kernel_rfl⟩,trivial⟩) ?_
 clear h
 rintro n0 ⟨i1,l1⟩ h
 replace h:zB0 B Y uD (zAP B Y uD n0) i1 l1=some r:=h
 unfold zB0 at h
 refine zH<|zH<|zC<|zA (zB rfl)<|zA (zB rfl)<|zA (zh rfl rfl) ?_
 refine zF ?_
 refine zW h rfl (fun b2 h => ?_) (fun b2 h => ?_)
 ·refine zQ ?_
  refine zx (r:=r) (fun (l2:List Int)=>mkE [(0,(AV.hd 0)),(1,(li B)),(2,(li Y)),(3,(AV.clo g_a_cmp caps_a_cmp)),(8,(li i1))]) (fun l2=>[.vec 3 1 (List.map cI l2)]) (fun l2=>zBz (zAP B Y uD n0) i1 l2) ?_ ?_
  ·
   refine zR<|zH<|zC<|zA (zB rfl)<|zA (zD rfl)<|zF ?_
   refine zR<|zt (σ:=Int×(List Int)) (fun (i2,l3)=>mkE [(0,(AV.hd 0)),(1,(li B)),(2,(li Y)),(3,(AV.clo g_a_cmp caps_a_cmp)),(8,(li i1)),(9,(li i2))]) (fun (i2,l3)=>[.vec 3 1 (List.map cI l3)]) (fun n1 (i2,l3)=>zBL (zAP B Y uD n0) B uD i1 n1 i2 l3) (i1,l1) h (fun _=>rfl) (zBV (n:=53) (m:=1) [0] (l:=[(0,(AV.hd 0)),(1,(li B)),(2,(li Y)),(3,(AV.clo g_a_cmp caps_a_cmp)),(8,(li i1)),(9,(li i1))]) ⟨⟨Sub.refl _,by kernel_rfl⟩,⟨Sub.refl _,by kernel_rfl⟩,⟨Sub.refl _,by kernel_rfl⟩,⟨zDb hnr_a_cmp,zDa hnr_a_cmp⟩,⟨Sub.refl _,by kernel_rfl⟩,⟨Sub.refl _,by kernel_rfl⟩,trivial⟩ rfl rfl ⟨⟨rfl,by kernel_rfl⟩,trivial⟩) ?_
   clear h
   rintro n1 ⟨i2,l3⟩ h
   replace h:zBy (zAP B Y uD n0) B uD i1 (zBL (zAP B Y uD n0) B uD i1 n1) i2 l3=some r:=h
   unfold zBy at h
   refine zH<|zH<|zM h fun b4 h=>zM h fun b5 h=>zM h fun b6 h=>zP h fun x1 w1 h => ?_
   refine zAm (n:=53) (m:=1) [.head 0 0,.head 0 0,.head 0 0,.head 0 0,.head 0 0,.head 0 0,.head 0 0,.head 0 0,.head 0 0,.head 0 0,.head 0 0,.head 0 0,.head 0 0,.head 0 0,.head 0 0,.head 0 0,.head 0 0] [] [li i2,li B,(AV.lit (.bool (decide (B<i2)))),(AV.lit (.bool (decide (B<i2)))),(bif decide (B<i2) then (AV.clo g_a_cmp caps_a_cmp) else .lit undef),(bif decide (B<i2) then (AV.hd 0) else .lit undef),(bif decide (B<i2) then (li i2) else .lit undef),(bif decide (B<i2) then (AV.ptr 0 (i2.toNat*1)) else .lit undef),(bif decide (B<i2) then (li (at_ l3 i2)) else .lit undef),(bif decide (B<i2) then (AV.hd 0) else .lit undef),(bif decide (B<i2) then (li i2) else .lit undef),(bif decide (B<i2) then (li (i2 - 1)) else .lit undef),(bif decide (B<i2) then (AV.ptr 0 ((i2 - 1).toNat*1)) else .lit undef),(bif decide (B<i2) then (li (at_ l3 (i2 - 1))) else .lit undef),(bif decide (B<i2) then (li x1) else .lit undef),(bif decide (B<i2) then (AV.lit (.bool (decide (x1<0)))) else .lit undef),(AV.lit (.bool ((decide (B<i2))&&(decide (x1<0)))))] [[.vec 3 1 (List.map cI l3)]] (by kernel_rfl) (by kernel_rfl) ⟨D1 fun e s p=>zB (s 9 rfl),D1 fun e s p=>zB (s 1 rfl),D1 fun e s p=>zAo (a:=i2) (b:=B) p.1 p.2.1,D1 fun e s p=>zB p.1,?_,?_,?_,?_,?_,?_,?_,?_,?_,?_,?_,?_,D1 fun e s p=>z6 (s:=decide (B<i2)) (q:=decide (x1<0)) (j := .lit undef) p.1 p.2.1,trivial⟩ ?_
   ·
    intro e5 s5 p5
    refine zo (g:=21) (s:=decide (B<i2)) rfl p5.1 (fun c13=>zq.step (zB (av:=(AV.clo g_a_cmp caps_a_cmp)) (s5 3 rfl))) ?_
    exact zF ⟨fun _=>rfl,rfl⟩
   ·
    intro e6 s6 p6
    refine zo (g:=21) (s:=decide (B<i2)) rfl p6.1 (fun c14=>zq.step (zB (av:=(AV.hd 0)) (s6 0 rfl))) ?_
    exact zF ⟨fun _=>rfl,rfl⟩
   ·
    intro e7 s7 p7
    refine zo (g:=21) (s:=decide (B<i2)) rfl p7.1 (fun c15=>zq.step (zB (av:=(li i2)) (s7 9 rfl))) ?_
    exact zF ⟨fun _=>rfl,rfl⟩
   ·
    intro e8 s8 p8
    refine zo (g:=21) (s:=decide (B<i2)) rfl p8.2.2.1 (fun c16=>zq.step (zy (f:=cI) (l:=l3) (i:=i2) Tryz.underlying22 Tryz.sizeOf3 (z8 p8.1 c16) rfl (z8 p8.2.1 c16) (zHd b4 c16))) ?_
    exact zF ⟨fun _=>rfl,rfl⟩
   ·
    intro e9 s9 p9
    refine zo (g:=21) (s:=decide (B<i2)) rfl p9.2.1 (fun c17=>zq.step (zA3 (f:=cI) (l:=l3) (i:=i2) (c:=0) (a:=(li (at_ l3 i2))) Tryz.isAgg3 (z8 p9.1 c17) rfl (by first | rfl | omega) (zHd b4 c17) rfl rfl)) ?_
    exact zF ⟨fun _=>rfl,rfl⟩
   ·
    intro e10 s10 p10
    refine zo (g:=21) (s:=decide (B<i2)) rfl p10.1 (fun c18=>zq.step (zB (av:=(AV.hd 0)) (s10 0 rfl))) ?_
    exact zF ⟨fun _=>rfl,rfl⟩
   ·
    intro e11 s11 p11
    refine zo (g:=21) (s:=decide (B<i2)) rfl p11.1 (fun c19=>zq.step (zB (av:=(li i2)) (s11 9 rfl))) ?_
    exact zF ⟨fun _=>rfl,rfl⟩
   ·
    intro e12 s12 p12
    refine zo (g:=21) (s:=decide (B<i2)) rfl p12.2.1 (fun c20=>zq.step (zBa (a:=i2) (b:=1) (z8 p12.1 c20) rfl (zHd b5 c20))) ?_
    exact zF ⟨fun _=>rfl,rfl⟩
   ·
    intro e13 s13 p13
    refine zo (g:=21) (s:=decide (B<i2)) rfl p13.2.2.1 (fun c21=>zq.step (zy (f:=cI) (l:=l3) (i:=i2 - 1) Tryz.underlying22 Tryz.sizeOf3 (z8 p13.1 c21) rfl (z8 p13.2.1 c21) (zHd b6 c21))) ?_
    exact zF ⟨fun _=>rfl,rfl⟩
   ·
    intro e14 s14 p14
    refine zo (g:=21) (s:=decide (B<i2)) rfl p14.2.1 (fun c22=>zq.step (zA3 (f:=cI) (l:=l3) (i:=i2 - 1) (c:=0) (a:=(li (at_ l3 (i2 - 1)))) Tryz.isAgg3 (z8 p14.1 c22) rfl (by first | rfl | omega) (zHd b6 c22) rfl rfl)) ?_
    exact zF ⟨fun _=>rfl,rfl⟩
   ·
    intro e15 s15 p15
    refine zCU (g:=21) (s:=decide (B<i2)) (r':=(li x1)) rfl p15.2.2.2.2.1 (fun c23=>⟨g_a_cmp,cf_a_cmp,code_a_cmp,caps_a_cmp,(li (at_ l3 i2))::(li (at_ l3 (i2 - 1)))::caps_a_cmp,(li (at_ l3 i2))::(li (at_ l3 (i2 - 1)))::caps_a_cmp,li x1,[],hcf_a_cmp,hcb_a_cmp,hcn_a_cmp,.clo (z8 p15.1 c23),(zAL (z8 p15.2.1 c23) (zAL (z8 p15.2.2.1 c23) rfl)),zDY.c (zAl.nr rfl) (zDY.c (zAl.nr rfl) (zDY.nrs hnr_a_cmp)),hg_a_cmp (zFy c23 w1),.inl rfl,rfl⟩) ?_
    exact zF ⟨fun _=>rfl,rfl⟩
   ·
    intro e16 s16 p16
    refine zo (g:=21) (s:=decide (B<i2)) rfl p16.2.1 (fun c24=>zq.step (zh (a:=x1) (b:=0) (z8 p16.1 c24) rfl)) ?_
    exact zF ⟨fun _=>rfl,rfl⟩
   intro e18 s18 hq1
   refine zAS (zBI (l:=[(0,(AV.hd 0)),(1,(li B)),(2,(li Y)),(3,(AV.clo g_a_cmp caps_a_cmp)),(8,(li i1)),(9,(li i2)),(34,(AV.lit (.bool ((decide (B<i2))&&(decide (x1<0))))))]) ⟨s18 0 rfl,s18 1 rfl,s18 2 rfl,s18 3 rfl,s18 8 rfl,s18 9 rfl,(hq1 16 (by decide) (by decide)),trivial⟩) ?_
   refine zW h rfl (fun b7 h => ?_) (fun b7 h => ?_)
   ·refine zQ<|zH<|zR<|zM h fun b8 h=>zM h fun b9 h=>zM h fun b10 h => ?_
    refine zM h fun b11 h => ?_
    refine zAm (n:=53) (m:=1) [.head 0 0,.head 0 0,.head 0 1,.head 0 1,.head 0 1,.head 0 0,.head 0 0,.head 0 0,.head 0 0,.head 0 0,.head 0 0,.head 0 0,.head 0 0,.head 0 0,.head 0 0,.tail 0,.head 1 1,.tail 1] [15,17] [AV.hd 0,li i2,AV.hd 0,li i2,(li (i2 - 1)),AV.hd 0,li i2,(li (i2 - 1)),(AV.ptr 0 ((i2 - 1).toNat*1)),(li (at_ l3 (i2 - 1))),AV.hd 0,li i2,(AV.ptr 0 (i2.toNat*1)),(li (at_ l3 i2)),(AV.ptr 0 (i2.toNat*1)),.any,(AV.ptr 0 ((i2 - 1).toNat*1)),.any] [[.vec 3 1 (List.map cI l3)],[.vec 3 1 (List.map cI (l3.set i2.toNat (at_ l3 (i2 - 1))))],[.vec 3 1 (List.map cI ((l3.set i2.toNat (at_ l3 (i2 - 1))).set (i2 - 1).toNat (at_ l3 i2)))]] (by kernel_rfl) (by kernel_rfl) ⟨D1 fun e s p=>zB (s 0 rfl),D1 fun e s p=>zB (s 9 rfl),⟨D1 fun e s p=>zB (s 0 rfl),D1 fun e s p=>zB (s 0 rfl)⟩,⟨D1 fun e s p=>zB (s 9 rfl),D1 fun e s p=>zB (s 9 rfl)⟩,⟨D1 fun e s p=>zBa (a:=i2) (b:=1) p.1 rfl b8,D1 fun e s p=>zBa (a:=i2) (b:=1) p.1 rfl b8⟩,D1 fun e s p=>zB (s 0 rfl),D1 fun e s p=>zB (s 9 rfl),D1 fun e s p=>zBa (a:=i2) (b:=1) p.1 rfl b8,D1 fun e s p=>zy (f:=cI) (l:=l3) (i:=i2 - 1) Tryz.underlying22 Tryz.sizeOf3 p.1 rfl p.2.1 b9,D1 fun e s p=>zA3 (f:=cI) (l:=l3) (i:=i2 - 1) (c:=0) (a:=(li (at_ l3 (i2 - 1)))) Tryz.isAgg3 p.1 rfl (by first | rfl | omega) b9 rfl rfl,D1 fun e s p=>zB (s 0 rfl),D1 fun e s p=>zB (s 9 rfl),D1 fun e s p=>zy (f:=cI) (l:=l3) (i:=i2) Tryz.underlying22 Tryz.sizeOf3 p.1 rfl p.2.1 b10,D1 fun e s p=>zA3 (f:=cI) (l:=l3) (i:=i2) (c:=0) (a:=(li (at_ l3 i2))) Tryz.isAgg3 p.1 rfl (by first | rfl | omega) b10 rfl rfl,D1 fun e s p=>zy (f:=cI) (l:=l3) (i:=i2) Tryz.underlying22 Tryz.sizeOf3 p.2.2.1 rfl p.2.2.2.1 b10,?_,D1 fun e s p=>zy (f:=cI) (l:=l3.set i2.toNat (at_ l3 (i2 - 1))) (i:=i2 - 1) Tryz.underlying22 Tryz.sizeOf3 p.2.2.2.2.1 rfl p.2.2.2.2.2.2.1 b11,?_,trivial⟩ ?_
    ·
     intro e37 s37 p36
     refine zd (H':=[.vec 3 1 (List.map cI (l3.set i2.toNat (at_ l3 (i2 - 1))))]) (zBZ (k:=0) (o:=(i2.toNat*1)) (f:=cI) (l:=l3) (i:=i2) (c:=0) (a:=(li (at_ l3 (i2 - 1)))) (z:=at_ l3 (i2 - 1)) Tryz.sizeOf3 (by exact p36.1) rfl (by first | rfl | omega) b10 rfl (by exact p36.2.2.2.2.2.2.2.2.2.2.2.1) rfl rfl rfl) ?_
     exact zF ⟨fun _=>rfl,rfl⟩
    ·
     intro e39 s39 p38
     refine zd (H':=[.vec 3 1 (List.map cI ((l3.set i2.toNat (at_ l3 (i2 - 1))).set (i2 - 1).toNat (at_ l3 i2)))]) (zBZ (k:=0) (o:=((i2 - 1).toNat*1)) (f:=cI) (l:=l3.set i2.toNat (at_ l3 (i2 - 1))) (i:=i2 - 1) (c:=0) (a:=(li (at_ l3 i2))) (z:=at_ l3 i2) Tryz.sizeOf3 (by exact p38.1) rfl (by first | rfl | omega) b11 rfl (by exact p38.2.2.2.2.2.2.2.2.2.2.2.2.2.2.2.2.1) rfl rfl rfl) ?_
     exact zF ⟨fun _=>rfl,rfl⟩
    intro e40 s40 hq2
    refine zAS (zBI (l:=[(0,(AV.hd 0)),(1,(li B)),(2,(li Y)),(3,(AV.clo g_a_cmp caps_a_cmp)),(8,(li i1)),(9,(li i2))]) ⟨s40 0 rfl,s40 1 rfl,s40 2 rfl,s40 3 rfl,s40 8 rfl,s40 9 rfl,trivial⟩)<|zC<|zA (zB (av:=(li i2)) rfl)<|zA (zBa (a:=i2) (b:=1) rfl rfl b8)<|zA (zD (av:=(li (i2 - 1))) rfl)<|zF ?_
    exact ⟨((i2 - 1),((l3.set i2.toNat (at_ l3 (i2 - 1))).set (i2 - 1).toNat (at_ l3 i2))),zBV (n:=53) (m:=1) [0] (l:=[(0,(AV.hd 0)),(1,(li B)),(2,(li Y)),(3,(AV.clo g_a_cmp caps_a_cmp)),(8,(li i1)),(9,(li (i2 - 1)))]) ⟨⟨Sub.refl _,by kernel_rfl⟩,⟨Sub.refl _,by kernel_rfl⟩,⟨Sub.refl _,by kernel_rfl⟩,⟨zDb hnr_a_cmp,zDa hnr_a_cmp⟩,⟨Sub.refl _,by kernel_rfl⟩,⟨Sub.refl _,by kernel_rfl⟩,trivial⟩ rfl rfl ⟨⟨rfl,by kernel_rfl⟩,trivial⟩,h⟩
   refine zz ?_
   exact ⟨l3,zBV (n:=53) (m:=1) [0] (l:=[(0,(AV.hd 0)),(1,(li B)),(2,(li Y)),(3,(AV.clo g_a_cmp caps_a_cmp)),(8,(li i1))]) ⟨⟨Sub.refl _,by kernel_rfl⟩,⟨Sub.refl _,by kernel_rfl⟩,⟨Sub.refl _,by kernel_rfl⟩,⟨zDb hnr_a_cmp,zDa hnr_a_cmp⟩,⟨Sub.refl _,by kernel_rfl⟩,trivial⟩ rfl rfl ⟨⟨rfl,by kernel_rfl⟩,trivial⟩,h⟩
  clear h
  intro l2 h
  unfold zBz at h
  refine zC<|zA (zB rfl)<|zM h fun b3 h=>zA (zg rfl rfl b3)<|zA (zD rfl)<|zF ?_
  exact ⟨((i1+1),l2),zBV (n:=53) (m:=1) [0] (l:=[(0,(AV.hd 0)),(1,(li B)),(2,(li Y)),(3,(AV.clo g_a_cmp caps_a_cmp)),(8,(li (i1+1)))]) ⟨⟨Sub.refl _,by kernel_rfl⟩,⟨Sub.refl _,by kernel_rfl⟩,⟨Sub.refl _,by kernel_rfl⟩,⟨zDb hnr_a_cmp,zDa hnr_a_cmp⟩,⟨Sub.refl _,by kernel_rfl⟩,trivial⟩ rfl rfl ⟨⟨rfl,by kernel_rfl⟩,trivial⟩,h⟩
 refine zz ?_
 obtain rfl:=Option.some.inj h
 exact ⟨mkE [],[.vec 3 1 (List.map cI l1)],zAD [0] rfl rfl (by kernel_rfl),zLt rfl⟩
theorem zJN {uW : List Int} {uB : Int} {uD : Int → Int → Option Int} {g_a_cmp : FuncId} {cf_a_cmp : Func} {code_a_cmp : Code} {caps_a_cmp : List AV} (hcf_a_cmp : Tryz.prog.funcs[g_a_cmp]? = some cf_a_cmp) (hcb_a_cmp : cf_a_cmp.body = some code_a_cmp) (hcn_a_cmp : (cf_a_cmp.name == "runtime.NumGoroutine") = false) (hnr_a_cmp : caps_a_cmp.all nr = true) (hg_a_cmp : ∀ {x0 : Int} {x1 : Int} {y : Int}, uD x0 x1 = some y → PFn Tryz.prog g_a_cmp ((li x0) :: (li x1) :: caps_a_cmp) (li y)) {r : (List Int)} (h : zEV uW uB uD = some r) : AFn Tryz.prog 136 [(AV.hd 0), (li uB), (AV.clo g_a_cmp caps_a_cmp)] [.vec 3 1 (List.map cI uW)] (.tup []) [.vec 3 1 (List.map cI r)] := by
 refine zDe Tryz.func136 rfl Tryz.ntmps136 Tryz.results136 rfl ?_
 unfold zEV at h
 refine zH<|zC<|zA (zD rfl)<|zF<|zH<|zC ?_
 refine zA (zB rfl)<|zA (zD rfl)<|zA (zD rfl)<|zF ?_
 refine zx (r:=r) (fun ((i1,l1):Int×(List Int))=>mkE [(0,(AV.hd 0)),(1,(li uB)),(2,(AV.clo g_a_cmp caps_a_cmp)),(6,(li 20)),(7,(li i1))]) (fun (i1,l1)=>[.vec 3 1 (List.map cI l1)]) (fun (i1,l1)=>zDM uB uD i1 l1) ?_ ?_
 ·
  refine zR<|zt (σ:=Int×Int×(List Int)) (fun (i3,i4,l2)=>mkE [(0,(AV.hd 0)),(1,(li uB)),(2,(AV.clo g_a_cmp caps_a_cmp)),(6,(li 20)),(7,(li i3)),(8,(li i4))]) (fun (i3,i4,l2)=>[.vec 3 1 (List.map cI l2)]) (fun n2 (i3,i4,l2)=>zCG uB uD n2 i3 i4 l2) (0,20,uW) h (fun _=>rfl) (zBV (n:=63) (m:=1) [0] (l:=[(0,(AV.hd 0)),(1,(li uB)),(2,(AV.clo g_a_cmp caps_a_cmp)),(6,(li 20)),(7,(li 0)),(8,(li 20))]) ⟨⟨Sub.refl _,by kernel_rfl⟩,⟨Sub.refl _,by kernel_rfl⟩,⟨zDb hnr_a_cmp,zDa hnr_a_cmp⟩,⟨Sub.refl _,by kernel_rfl⟩,⟨Sub.refl _,by kernel_rfl⟩,⟨Sub.refl _,by kernel_rfl⟩,trivial⟩ rfl rfl ⟨⟨rfl,by kernel_rfl⟩,trivial⟩) ?_
  clear h
  rintro n2 ⟨i3,i4,l2⟩ h
  replace h:zDR uB uD (zCG uB uD n2) i3 i4 l2=some r:=h
  unfold zDR at h
  refine zH<|zH<|zC<|zA (zB rfl)<|zA (zB rfl)<|zA (zCj rfl rfl) ?_
  refine zF ?_
  refine zW h rfl (fun b8 h => ?_) (fun b8 h => ?_)
  ·refine zQ<|zR<|zH<|zC<|zA (zB rfl)<|zA (zB rfl) ?_
   refine zA (zB rfl)<|zA (zB rfl)<|zP h fun x2 w2 h=>zCu (k:=0) (la:=[AV.hd 0,li i3,li i4,AV.clo g_a_cmp caps_a_cmp]) (la':=[AV.hd 0,li i3,li i4,AV.clo g_a_cmp caps_a_cmp]) (r:=(.tup [])) (S:=[]) (en' := .vec 3 1 (List.map cI x2)) Tryz.func145 rfl (by kernel_rfl) (.fn 145) rfl ⟨zBs.hd,zBs.of (zAl.nr rfl),zBs.of (zAl.nr rfl),zBs.of (zAl.clo (zDY.nrs hnr_a_cmp)),trivial⟩ rfl rfl rfl rfl (zDZ hcf_a_cmp hcb_a_cmp hcn_a_cmp hnr_a_cmp hg_a_cmp w2) rfl (.inl rfl)<|zF<|zH ?_
   refine zC<|zA (zB rfl)<|zA (zD rfl)<|zF<|zC<|zA (zB rfl) ?_
   refine zA (zB rfl)<|zM h fun b9 h=>zA (zg rfl rfl b9)<|zA (zD rfl)<|zF ?_
   exact ⟨(i4,(i4+20),x2),zBV (n:=63) (m:=1) [0] (l:=[(0,(AV.hd 0)),(1,(li uB)),(2,(AV.clo g_a_cmp caps_a_cmp)),(6,(li 20)),(7,(li i4)),(8,(li (i4+20)))]) ⟨⟨Sub.refl _,by kernel_rfl⟩,⟨Sub.refl _,by kernel_rfl⟩,⟨zDb hnr_a_cmp,zDa hnr_a_cmp⟩,⟨Sub.refl _,by kernel_rfl⟩,⟨Sub.refl _,by kernel_rfl⟩,⟨Sub.refl _,by kernel_rfl⟩,trivial⟩ rfl rfl ⟨⟨rfl,by kernel_rfl⟩,trivial⟩,h⟩
  refine zz ?_
  exact ⟨(i3,l2),zBV (n:=63) (m:=1) [0] (l:=[(0,(AV.hd 0)),(1,(li uB)),(2,(AV.clo g_a_cmp caps_a_cmp)),(6,(li 20)),(7,(li i3))]) ⟨⟨Sub.refl _,by kernel_rfl⟩,⟨Sub.refl _,by kernel_rfl⟩,⟨zDb hnr_a_cmp,zDa hnr_a_cmp⟩,⟨Sub.refl _,by kernel_rfl⟩,⟨Sub.refl _,by kernel_rfl⟩,trivial⟩ rfl rfl ⟨⟨rfl,by kernel_rfl⟩,trivial⟩,h⟩
 clear h
 rintro ⟨i1,l1⟩ h
 unfold zDM at h
 refine zH<|zC<|zA (zB rfl)<|zA (zB rfl)<|zA (zB rfl)<|zA (zB rfl) ?_
 refine zP h fun x1 w1 h=>zCu (k:=0) (la:=[AV.hd 0,li i1,li uB,AV.clo g_a_cmp caps_a_cmp]) (la':=[AV.hd 0,li i1,li uB,AV.clo g_a_cmp caps_a_cmp]) (r:=(.tup [])) (S:=[]) (en' := .vec 3 1 (List.map cI x1)) Tryz.func145 rfl (by kernel_rfl) (.fn 145) rfl ⟨zBs.hd,zBs.of (zAl.nr rfl),zBs.of (zAl.nr rfl),zBs.of (zAl.clo (zDY.nrs hnr_a_cmp)),trivial⟩ rfl rfl rfl rfl (zDZ hcf_a_cmp hcb_a_cmp hcn_a_cmp hnr_a_cmp hg_a_cmp w1) rfl (.inl rfl)<|zF<|zR<|zt (σ:=Int) (fun i2=>mkE [(0,(AV.hd 0)),(1,(li uB)),(2,(AV.clo g_a_cmp caps_a_cmp)),(6,(li i2))]) (fun i2=>[.vec 3 1 (List.map cI x1)]) (fun n0 i2=>zAe uB x1 n0 i2) 20 h (fun _=>rfl) (zBV (n:=63) (m:=1) [0] (l:=[(0,(AV.hd 0)),(1,(li uB)),(2,(AV.clo g_a_cmp caps_a_cmp)),(6,(li 20))]) ⟨⟨Sub.refl _,by kernel_rfl⟩,⟨Sub.refl _,by kernel_rfl⟩,⟨zDb hnr_a_cmp,zDa hnr_a_cmp⟩,⟨Sub.refl _,by kernel_rfl⟩,trivial⟩ rfl rfl ⟨⟨rfl,by kernel_rfl⟩,trivial⟩) ?_
 clear h
 intro n0 i2 h
 replace h:zDO uB x1 (zAe uB x1 n0) i2=some r:=h
 unfold zDO at h
 refine zH<|zH<|zC<|zA (zB rfl)<|zA (zB rfl)<|zA (zh rfl rfl) ?_
 refine zF ?_
 refine zW h rfl (fun b1 h => ?_) (fun b1 h => ?_)
 ·refine zQ<|zR<|zH<|zC<|zA (zB rfl)<|zM h fun b2 h => ?_
  refine zA (zMh (a:=2) (b:=i2) rfl rfl b2)<|zA (zD rfl)<|zA (zD rfl)<|zF ?_
  refine zx (r:=r) (fun (_:Unit)=>mkE [(0,(AV.hd 0)),(1,(li uB)),(2,(AV.clo g_a_cmp caps_a_cmp)),(6,(li i2)),(7,(li 0))]) (fun _=>[.vec 3 1 (List.map cI x1)]) (fun _=>zDK (zAe uB x1 n0) uB i2) ?_ ?_
  ·
   refine zR<|zt (σ:=Unit) (fun _=>mkE [(0,(AV.hd 0)),(1,(li uB)),(2,(AV.clo g_a_cmp caps_a_cmp)),(6,(li i2)),(7,(li 0)),(8,(li (2*i2)))]) (fun _=>[.vec 3 1 (List.map cI x1)]) (fun n1 _=>zCB (zAe uB x1 n0) uB i2 n1) () h (fun _=>rfl) (zBV (n:=63) (m:=1) [0] (l:=[(0,(AV.hd 0)),(1,(li uB)),(2,(AV.clo g_a_cmp caps_a_cmp)),(6,(li i2)),(7,(li 0)),(8,(li (2*i2)))]) ⟨⟨Sub.refl _,by kernel_rfl⟩,⟨Sub.refl _,by kernel_rfl⟩,⟨zDb hnr_a_cmp,zDa hnr_a_cmp⟩,⟨Sub.refl _,by kernel_rfl⟩,⟨Sub.refl _,by kernel_rfl⟩,⟨Sub.refl _,by kernel_rfl⟩,trivial⟩ rfl rfl ⟨⟨rfl,by kernel_rfl⟩,trivial⟩) ?_
   clear h
   intro n1 _ h
   replace h:zDN (zAe uB x1 n0) uB i2 (zCB (zAe uB x1 n0) uB i2 n1)=some r:=h
   unfold zDN at h
   refine zH<|zH<|zC<|zA (zB rfl)<|zA (zB rfl)<|zA (zCj rfl rfl) ?_
   refine zF ?_
   refine zW h rfl (fun b6 h => ?_) (fun b6 h => ?_)
   ·refine zQ<|zR<|zH<|zC<|zA (zB rfl)<|zA (zB rfl) ?_
    refine zA (zB rfl)<|zA (zB rfl)<|zM h fun b7 h=>zA (zg rfl rfl b7)<|zA (zB rfl)<|zA (zB rfl) ?_
    exact absurd h (by simp)
   refine zz ?_
   exact ⟨(),zBV (n:=63) (m:=1) [0] (l:=[(0,(AV.hd 0)),(1,(li uB)),(2,(AV.clo g_a_cmp caps_a_cmp)),(6,(li i2)),(7,(li 0))]) ⟨⟨Sub.refl _,by kernel_rfl⟩,⟨Sub.refl _,by kernel_rfl⟩,⟨zDb hnr_a_cmp,zDa hnr_a_cmp⟩,⟨Sub.refl _,by kernel_rfl⟩,⟨Sub.refl _,by kernel_rfl⟩,trivial⟩ rfl rfl ⟨⟨rfl,by kernel_rfl⟩,trivial⟩,h⟩
  clear h
  intro _ h
  unfold zDK at h
  refine zH<|zH<|zC<|zA (zB rfl)<|zA (zB rfl)<|zM h fun b3 h => ?_
  refine zA (zg rfl rfl b3)<|zA (zD rfl)<|zF<|zH<|zC<|zA (zB rfl) ?_
  refine zA (zB rfl)<|zA (zh rfl rfl)<|zF ?_
  refine zW h rfl (fun b4 h => ?_) (fun b4 h => ?_)
  ·refine zC<|zA (zB rfl)<|zA (zB rfl)<|zA (zB rfl)<|zA (zB rfl)<|zA (zB rfl) ?_
   exact absurd h (by simp)
  refine zQ<|zC<|zA (zB rfl)<|zM h fun b5 h=>zA (zMh (a:=i2) (b:=2) rfl rfl b5)<|zA (zD rfl) ?_
  refine zF ?_
  exact ⟨(i2*2),zBV (n:=63) (m:=1) [0] (l:=[(0,(AV.hd 0)),(1,(li uB)),(2,(AV.clo g_a_cmp caps_a_cmp)),(6,(li (i2*2)))]) ⟨⟨Sub.refl _,by kernel_rfl⟩,⟨Sub.refl _,by kernel_rfl⟩,⟨zDb hnr_a_cmp,zDa hnr_a_cmp⟩,⟨Sub.refl _,by kernel_rfl⟩,trivial⟩ rfl rfl ⟨⟨rfl,by kernel_rfl⟩,trivial⟩,h⟩
 refine zz ?_
 obtain rfl:=Option.some.inj h
 exact ⟨mkE [],[.vec 3 1 (List.map cI x1)],zAD [0] rfl rfl (by kernel_rfl),zLt rfl⟩
theorem zHN {E : List Int} {uD : Int → Int → Option Int} {g_a_cmp : FuncId} {cf_a_cmp : Func} {code_a_cmp : Code} {caps_a_cmp : List AV} (hcf_a_cmp : Tryz.prog.funcs[g_a_cmp]? = some cf_a_cmp) (hcb_a_cmp : cf_a_cmp.body = some code_a_cmp) (hcn_a_cmp : (cf_a_cmp.name == "runtime.NumGoroutine") = false) (hnr_a_cmp : caps_a_cmp.all nr = true) (hg_a_cmp : ∀ {x0 : Int} {x1 : Int} {y : Int}, uD x0 x1 = some y → PFn Tryz.prog g_a_cmp ((li x0) :: (li x1) :: caps_a_cmp) (li y)) {r : (List Int)} (h : zCv E uD = some r) : AFn Tryz.prog 103 [(AV.hd 0), (AV.clo g_a_cmp caps_a_cmp)] [.vec 3 1 (List.map cI E)] (.tup []) [.vec 3 1 (List.map cI r)] := by
 refine zDe Tryz.func103 rfl Tryz.ntmps103 Tryz.results103 rfl ?_
 unfold zCv at h
 refine zC<|zA (zB rfl)<|zA (zB rfl)<|zA (zCd (f:=cI) (l:=E) Tryz.underlying22 rfl rfl)<|zA (zB rfl)<|zP h fun x1 w1 h => ?_
 refine zCu (k:=0) (la:=[AV.hd 0,(li (E.length:Int)),AV.clo g_a_cmp caps_a_cmp]) (la':=[AV.hd 0,(li (E.length:Int)),AV.clo g_a_cmp caps_a_cmp]) (r:=(.tup [])) (S:=[]) (en' := .vec 3 1 (List.map cI x1)) Tryz.func136 rfl (by kernel_rfl) (.fn 136) rfl ⟨zBs.hd,zBs.of (zAl.nr rfl),zBs.of (zAl.clo (zDY.nrs hnr_a_cmp)),trivial⟩ rfl rfl rfl rfl (zJN hcf_a_cmp hcb_a_cmp hcn_a_cmp hnr_a_cmp hg_a_cmp w1) rfl (.inl rfl)<|zF ?_
 obtain rfl:=Option.some.inj h
 exact ⟨mkE [],[.vec 3 1 (List.map cI x1)],zAD [0] rfl rfl (by kernel_rfl),zLt rfl⟩
theorem zKD {R:List zi} {uA:Int} {uR:Bool} {r:(List Int)×Int} (h:zII R uA uR=some r):PFn Tryz.prog 53 [ls zO R,li uA,(AV.lit (.bool uR))] (AV.tup [ls cI r.1,li r.2]):=by
 refine zm Tryz.func53 rfl Tryz.ntmps53 Tryz.results53 rfl ?_
 unfold zII at h
 refine zH<|zC<|zX (H':=[.box 23 [ls zO R]]) (zIw (t:=23) (a:=(ls zO R)) rfl rfl)<|zX (H':=[.box 23 [ls zO R],.box 3 [li uA]]) (zIw (t:=3) (a:=(li uA)) rfl rfl)<|zA (zD rfl)<|zA (zD rfl) ?_
 refine zF<|zH<|zH<|zC<|zA (zN Tryz.isAgg23 rfl rfl rfl rfl)<|zA (zN Tryz.isAgg3 rfl rfl rfl rfl) ?_
 refine zP h fun x1 w1 h=>ze Tryz.func100 rfl (by kernel_rfl) (.fn 100) rfl rfl (zNG w1) rfl<|zA (zD rfl)<|zF<|zH<|zC ?_
 refine zA (zB rfl)<|zA (z7 rfl rfl)<|zF ?_
 refine zW h rfl (fun b1 h => ?_) (fun b1 h => ?_)
 ·refine zH<|zC<|zA (zB rfl)<|zA (zD rfl)<|zA (zD rfl)<|zF ?_
  refine zb ?_
  cases h
  exact zA5 (zKr (zAI rfl rfl) zAx.nils) (zAI rfl rfl) rfl
 refine zQ<|zH<|zC<|zA (zD rfl)<|zF ?_
 refine zx (r:=r) (fun (l1:List Int)=>mkE [(3,(AV.ptr 0 0)),(4,(AV.ptr 1 0)),(9,(AV.hd 2))]) (fun l1=>[.box 23 [ls zO R],.box 3 [li uA],.vec 3 1 (List.map cI l1)]) (fun l1=>zHu R uA l1) ?_ ?_
 ·
  refine zH<|zC<|zA (zN Tryz.isAgg23 rfl rfl rfl rfl)<|zA (zY Tryz.underlying23 rfl)<|zA (zB rfl)<|zF ?_
  refine zR<|zt (σ:=Int×(List Int)) (fun (i1,l2)=>mkE [(2,(AV.lit (.bool uR))),(3,(AV.ptr 0 0)),(4,(AV.ptr 1 0)),(9,(AV.hd 2)),(19,(ls zO R)),(20,(li (R.length:Int))),(21,(li i1))]) (fun (i1,l2)=>[.box 23 [ls zO R],.box 3 [li uA],.vec 3 1 (List.map cI l2)]) (fun n0 (i1,l2)=>zEX R uA uR n0 i1 l2) (0,[]) h (fun _=>rfl) (Rep.trans (zMI (d:=9) (el:=3) (sz:=1) rfl) (zAD [0,1,2] (l:=[(2,(AV.lit (.bool uR))),(3,(AV.ptr 0 0)),(4,(AV.ptr 1 0)),(9,(AV.hd 2)),(19,(ls zO R)),(20,(li (R.length:Int))),(21,(li 0))]) rfl rfl (by kernel_rfl))) ?_
  clear h
  rintro n0 ⟨i1,l2⟩ h
  replace h:zHl R uA uR (zEX R uA uR n0) i1 l2=some r:=h
  unfold zHl at h
  refine zH<|zC<|zA (zh rfl rfl)<|zF<|zH ?_
  refine zW h rfl (fun b2 h => ?_) (fun b2 h => ?_)
  ·refine zQ ?_
   refine zx (r:=r) (fun (l3:List Int)=>mkE [(2,(AV.lit (.bool uR))),(3,(AV.ptr 0 0)),(4,(AV.ptr 1 0)),(9,(AV.hd 2)),(19,(ls zO R)),(20,(li (R.length:Int))),(21,(li i1))]) (fun l3=>[.box 23 [ls zO R],.box 3 [li uA],.vec 3 1 (List.map cI l3)]) (fun l3=>zF3 (zEX R uA uR n0) i1 l3) ?_ ?_
   ·
    refine zR<|zH<|zC<|zA (zB rfl)<|zM h fun b4 h=>zA (zV Tryz.underlying23 Tryz.sizeOf51 (fun _=>rfl) rfl rfl b4) ?_
    refine zA (zAf (row:=(zO (at_ R i1))) (o:=0) (m:=10) (la:=(zO (at_ R i1))) Tryz.isAgg51 Tryz.sizeOf51 rfl rfl rfl)<|zX (H':=[.box 23 [ls zO R],.box 3 [li uA],.vec 3 1 (List.map cI l2),.box 51 (zO ⟨0,0,0,0,0,(List.replicate 5 ([]:List Int))⟩)]) zv0<|zA (zD rfl)<|zd (H':=[.box 23 [ls zO R],.box 3 [li uA],.vec 3 1 (List.map cI l2),.box 51 (zO (at_ R i1))]) (zT (k:=3) (o:=0) (cs:=(zO ⟨0,0,0,0,0,(List.replicate 5 ([]:List Int))⟩)) (la:=(zO (at_ R i1))) Tryz.sizeOf51 rfl rfl rfl rfl)<|zF<|zH ?_
    refine zC<|zA (zB rfl)<|zA (zAv (t:=uR) rfl)<|zA (zB rfl)<|zZ rfl rfl (fun c1=>zq.step (zK Tryz.underlying51 rfl rfl Tryz.sizeOf3 rfl))<|zZ rfl rfl (fun c2=>zq.step (zN Tryz.isAgg3 (z8 rfl c2) rfl rfl rfl)) ?_
    refine zZ rfl rfl (fun c3=>zq.step (zA8 (z8 rfl c3) rfl))<|zA (zj rfl rfl)<|zF ?_
    refine zW h rfl (fun b5 h => ?_) (fun b5 h => ?_)
    ·refine zC<|zA (zB rfl)<|zA (zB rfl)<|zF6 (a:=(li i1)) zGA Tryz.underlying22 rfl rfl rfl rfl<|zM h fun b6 h=>zDE (f:=cI) (k:=2) (j:=4) (l:=l2) (l':=[i1]) zGA (fun _=>rfl) Tryz.underlying22 rfl rfl rfl rfl b6 ?_
     refine zA (zD rfl)<|zF ?_
     exact ⟨(l2++[i1]),zAD [0,1,5] rfl rfl (by kernel_rfl),h⟩
    refine zQ ?_
    exact ⟨l2,zAD [0,1,2] rfl rfl (by kernel_rfl),h⟩
   clear h
   intro l3 h
   unfold zF3 at h
   refine zC<|zM h fun b3 h=>zA (zg rfl rfl b3)<|zA (zB rfl)<|zF ?_
   exact ⟨((i1+1),l3),zAD [0,1,2] rfl rfl (by kernel_rfl),h⟩
  refine zz ?_
  exact ⟨l2,zAD [0,1,2] rfl rfl (by kernel_rfl),h⟩
 clear h
 intro l1 h
 unfold zHu at h
 refine zH<|zC<|zA (zLP (la:=[AV.ptr 1 0,AV.ptr 0 0]) rfl)<|zX (H':=[.box 23 [ls zO R],.box 3 [li uA],.vec 3 1 (List.map cI l1),.box 100 [AV.lit .nilFunc]]) zv8<|zd (H':=[.box 23 [ls zO R],.box 3 [li uA],.vec 3 1 (List.map cI l1),.box 100 [(AV.clo 101 [AV.ptr 1 0,AV.ptr 0 0])]]) (zC3 (k:=3) (o:=0) (cs:=[AV.lit .nilFunc]) (a:=(AV.clo 101 [AV.ptr 1 0,AV.ptr 0 0])) Tryz.sizeOf100 rfl rfl rfl rfl rfl)<|zF ?_
 refine zH<|zC<|zA (zB rfl)<|zA (zLP (la:=[AV.ptr 3 0]) rfl)<|zP h fun x2 w2 h=>zCu (k:=2) (la:=[AV.hd 2,(AV.clo 104 [AV.ptr 3 0])]) (la':=[AV.hd 0,(AV.clo 104 [(AV.rp [(AV.clo 101 [(AV.rp [li uA] 0),(AV.rp [ls zO R] 0)])] 0)])]) (r:=(.tup [])) (S:=[0,1,3]) (en' := .vec 3 1 (List.map cI x2)) Tryz.func103 rfl (by kernel_rfl) (.fn 103) rfl ⟨zBs.hd,zBs.of (zAl.clo (⟨zAl.ptrV (cs:=[(AV.clo 101 [AV.ptr 1 0,AV.ptr 0 0])]) rfl rfl rfl ⟨zAl.clo (⟨zAl.ptr (cs:=[li uA]) rfl rfl rfl,zAl.ptr (cs:=[ls zO R]) rfl rfl rfl,trivial⟩),trivial⟩,trivial⟩)),trivial⟩ rfl rfl rfl rfl (zHN Tryz.func104 rfl (by kernel_rfl) rfl (fun hy=>zL7 Tryz.func101 rfl (by kernel_rfl) rfl (fun hy=>zMC  hy) hy) w2) rfl (.inr ⟨rfl,zSs⟩) ?_
 refine zF<|zH<|zC<|zA (zB rfl)<|zA (zD rfl)<|zA (zD rfl) ?_
 refine zF<|zAS (zES (j:=2) (ds:=[6,9,39,42]) (rows':=List.map cI x2) rfl (zAM (fun _=>rfl)) ⟨rfl,rfl,rfl,rfl,trivial⟩)<|zb ?_
 cases h
 exact zA5 (zAI rfl rfl) (zAI rfl rfl) rfl
theorem zGw {W:List zi} {r:List zi} (h:zBb W=some r):PFn Tryz.prog 106 [ls zO W] (AV.osl 51 10 (List.map zO r)):=by
  refine zm Tryz.func106 rfl Tryz.ntmps106 Tryz.results106 rfl ?_
  unfold zBb at h
  refine zM h fun b1 h => ?_
  obtain rfl:=Option.some.inj h
  refine zH<|zC<|zA (a:=(.lit (.slice none 0 0))) (zD rfl)<|zF<|zH<|zH ?_
  refine zC<|zA (a:=(ls zO W)) (zB rfl) ?_
  refine zMO (full:=false) (rows:=List.map zO W) Tryz.underlying23 rfl (fun b hb => ?_)
  refine zF ?_
  refine zOA b rfl (fun hbt => ?_) (fun hbt => ?_)
  · obtain rfl:W=[]:=List.map_eq_nil_iff.1 (hb hbt)
    refine zH<|zC<|zA (a:=(.lit (.slice none 0 0))) (zD rfl)<|zF<|zb ?_
    exact zv (zKr (zAI rfl rfl) zAx.nilo)
  · refine zQ ?_
    refine zH<|zC<|zNZ zOk Tryz.underlying23<|zA (a:=(ls zO W)) (zB rfl)<|zFn (f:=zO) (k:=0) (l:=[]) (l':=W) zOk (fun _=>rfl) Tryz.underlying23 rfl rfl rfl b1<|zA (a:=(.hd 1)) (zD rfl) ?_
    refine zF<|zb ?_
    exact zv (zWV (rows:=List.map zO ([]++W)) rfl rfl)
theorem zFD {W:List zL} {r:List zL} (h:zAz W=some r):PFn Tryz.prog 107 [ls zI W] (AV.osl 55 1 (List.map zI r)):=by
  refine zm Tryz.func107 rfl Tryz.ntmps107 Tryz.results107 rfl ?_
  unfold zAz at h
  refine zM h fun b1 h => ?_
  obtain rfl:=Option.some.inj h
  refine zH<|zC<|zA (a:=(.lit (.slice none 0 0))) (zD rfl)<|zF<|zH<|zH ?_
  refine zC<|zA (a:=(ls zI W)) (zB rfl) ?_
  refine zMO (full:=false) (rows:=List.map zI W) Tryz.underlying24 rfl (fun b hb => ?_)
  refine zF ?_
  refine zOA b rfl (fun hbt => ?_) (fun hbt => ?_)
  · obtain rfl:W=[]:=List.map_eq_nil_iff.1 (hb hbt)
    refine zH<|zC<|zA (a:=(.lit (.slice none 0 0))) (zD rfl)<|zF<|zb ?_
    exact zv (zKr (zAI rfl rfl) zAx.nilo)
  · refine zQ ?_
    refine zH<|zC<|zNZ zO0 Tryz.underlying24<|zA (a:=(ls zI W)) (zB rfl)<|zFn (f:=zI) (k:=0) (l:=[]) (l':=W) zO0 (fun _=>rfl) Tryz.underlying24 rfl rfl rfl b1<|zA (a:=(.hd 1)) (zD rfl) ?_
    refine zF<|zb ?_
    exact zv (zWV (rows:=List.map zI ([]++W)) rfl rfl)
theorem zKB {W:List (List Int)} {r:List (List Int)} (h:zDU W=some r):PFn Tryz.prog 108 [(ls (cS cI) W)] (AV.osl 22 1 (List.map (cS cI) r)):=by
  refine zm Tryz.func108 rfl Tryz.ntmps108 Tryz.results108 rfl ?_
  unfold zDU at h
  refine zM h fun b1 h => ?_
  obtain rfl:=Option.some.inj h
  refine zH<|zC<|zA (a:=(.lit (.slice none 0 0))) (zD rfl)<|zF<|zH<|zH ?_
  refine zC<|zA (a:=(ls (cS cI) W)) (zB rfl) ?_
  refine zMO (full:=false) (rows:=List.map (cS cI) W) Tryz.underlying53 rfl (fun b hb => ?_)
  refine zF ?_
  refine zOA b rfl (fun hbt => ?_) (fun hbt => ?_)
  · obtain rfl:W=[]:=List.map_eq_nil_iff.1 (hb hbt)
    refine zH<|zC<|zA (a:=(.lit (.slice none 0 0))) (zD rfl)<|zF<|zb ?_
    exact zv (zKr (zAI rfl rfl) zAx.nilo)
  · refine zQ ?_
    refine zH<|zC<|zNZ zOv Tryz.underlying53<|zA (a:=(ls (cS cI) W)) (zB rfl)<|zFn (f:=(cS cI)) (k:=0) (l:=[]) (l':=W) zOv (fun _=>rfl) Tryz.underlying53 rfl rfl rfl b1<|zA (a:=(.hd 1)) (zD rfl) ?_
    refine zF<|zb ?_
    exact zv (zWV (rows:=List.map (cS cI) ([]++W)) rfl rfl)
theorem zDp {A:zJ} {r:zJ} (h:zCL A=some r):PFn Tryz.prog 54 [(AV.agg (zG A))] (AV.agg ([ls cI r.nodes]++([li r.batch]++([li r.high]++([AV.osl 51 10 (List.map zO r.zones)]++([AV.osl 55 1 (List.map zp r.caches)]++[])))))):=by
 refine zm Tryz.func54 rfl Tryz.ntmps54 Tryz.results54 rfl ?_
 unfold zCL at h
 refine zH<|zC<|zX (H':=[.box 26 (zG A)]) (zu (t:=26) rfl)<|zX (H':=[.box 26 (zG A),.box 26 (zG ⟨[],0,0,[],[]⟩)]) zv3<|zF<|zH ?_
 refine zP h fun x1 w1 h=>zP h fun x2 w2 h=>zP h fun x3 w3 h => ?_
 show AW _ _ _ _ _ _ [.box 26 (zG A),.box 26 (zG ⟨[],0,0,[],[]⟩)]
 refine zAm (n:=82) (m:=0) [.head 0 0,.head 0 0,.tail 0,.head 0 1,.head 0 1,.tail 1,.head 0 2,.head 0 2,.tail 2,.head 1 3,.tail 3,.head 4 4,.tail 4,.head 5 5,.tail 5] [2,5,8,10,12,14] [AV.ptr 0 0,ls cI A.nodes,AV.hd 2,AV.ptr 0 3,ls zO A.zones,AV.hd 3,AV.ptr 0 4,ls zI A.caches,AV.hd 4,AV.ptr 0 0,.any,AV.ptr 0 3,.any,AV.ptr 0 4,.any] [[.box 26 (zG A),.box 26 (zG ⟨[],0,0,[],[]⟩)],[.box 26 (zG A),.box 26 (zG ⟨[],0,0,[],[]⟩),.vec 3 1 (List.map cI x1)],[.box 26 (zG A),.box 26 (zG ⟨[],0,0,[],[]⟩),.vec 3 1 (List.map cI x1),.vec 51 10 (List.map zO x2)],[.box 26 (zG A),.box 26 (zG ⟨[],0,0,[],[]⟩),.vec 3 1 (List.map cI x1),.vec 51 10 (List.map zO x2),.vec 55 1 (List.map zI x3)],[.box 26 [AV.hd 2,li A.batch,li A.high,ls zO A.zones,ls zI A.caches],.box 26 (zG ⟨[],0,0,[],[]⟩),.vec 3 1 (List.map cI x1),.vec 51 10 (List.map zO x2),.vec 55 1 (List.map zI x3)],[.box 26 [AV.hd 2,li A.batch,li A.high,AV.hd 3,ls zI A.caches],.box 26 (zG ⟨[],0,0,[],[]⟩),.vec 3 1 (List.map cI x1),.vec 51 10 (List.map zO x2),.vec 55 1 (List.map zI x3)],[.box 26 [AV.hd 2,li A.batch,li A.high,AV.hd 3,AV.hd 4],.box 26 (zG ⟨[],0,0,[],[]⟩),.vec 3 1 (List.map cI x1),.vec 51 10 (List.map zO x2),.vec 55 1 (List.map zI x3)]] (by kernel_rfl) (by kernel_rfl) ⟨?_,?_,?_,⟨?_,?_⟩,⟨?_,?_⟩,?_,⟨?_,?_,?_⟩,⟨?_,?_,?_⟩,?_,⟨?_,?_,?_⟩,?_,?_,?_,?_,?_,trivial⟩ ?_
 ·exact D1 fun e s p=>zK (k:=0) (o:=0) (off:=0) Tryz.underlying26 rfl rfl Tryz.sizeOf22 (s 1 rfl)
 ·exact D1 fun e s p=>zN (k:=0) (o:=0) Tryz.isAgg22 p.1 rfl rfl rfl
 ·
  intro e3 s3 p3
  refine zGJ (T:=3) (sz:=1) (rows:=List.map cI x1) (la:=[ls cI A.nodes]) (la':=[ls cI A.nodes]) (S:=[]) Tryz.func80 rfl (by kernel_rfl) (.fn 80) (zAL p3.1 rfl) ⟨zAl.nr rfl,trivial⟩ (zAX w1) (.inl rfl) ?_
  exact zF ⟨fun _=>rfl,rfl⟩
 ·exact D1 fun e s p=>zK (k:=0) (o:=0) (off:=3) Tryz.underlying26 rfl rfl Tryz.sizeOf23 (s 1 rfl)
 ·exact D1 fun e s p=>zK (k:=0) (o:=0) (off:=3) Tryz.underlying26 rfl rfl Tryz.sizeOf23 (s 1 rfl)
 ·exact D1 fun e s p=>zN (k:=0) (o:=3) Tryz.isAgg23 p.1 rfl rfl rfl
 ·exact D1 fun e s p=>zN (k:=0) (o:=3) Tryz.isAgg23 p.1 rfl rfl rfl
 ·
  intro e8 s8 p8
  refine zGJ (T:=51) (sz:=10) (rows:=List.map zO x2) (la:=[ls zO A.zones]) (la':=[ls zO A.zones]) (S:=[]) Tryz.func106 rfl (by kernel_rfl) (.fn 106) (zAL p8.1 rfl) ⟨zAl.nr rfl,trivial⟩ (zGw w2) (.inl rfl) ?_
  exact zF ⟨fun _=>rfl,rfl⟩
 ·exact D1 fun e s p=>zK (k:=0) (o:=0) (off:=4) Tryz.underlying26 rfl rfl Tryz.sizeOf24 (s 1 rfl)
 ·exact D1 fun e s p=>zK (k:=0) (o:=0) (off:=4) Tryz.underlying26 rfl rfl Tryz.sizeOf24 (s 1 rfl)
 ·exact D1 fun e s p=>zK (k:=0) (o:=0) (off:=4) Tryz.underlying26 rfl rfl Tryz.sizeOf24 (s 1 rfl)
 ·exact D1 fun e s p=>zN (k:=0) (o:=4) Tryz.isAgg24 p.1 rfl rfl rfl
 ·exact D1 fun e s p=>zN (k:=0) (o:=4) Tryz.isAgg24 p.1 rfl rfl rfl
 ·exact D1 fun e s p=>zN (k:=0) (o:=4) Tryz.isAgg24 p.1 rfl rfl rfl
 ·
  intro e15 s15 p15
  refine zGJ (T:=55) (sz:=1) (rows:=List.map zI x3) (la:=[ls zI A.caches]) (la':=[ls zI A.caches]) (S:=[]) Tryz.func107 rfl (by kernel_rfl) (.fn 107) (zAL p15.1 rfl) ⟨zAl.nr rfl,trivial⟩ (zFD w3) (.inl rfl) ?_
  exact zF ⟨fun _=>rfl,rfl⟩
 ·exact D1 fun e s p=>zK (k:=0) (o:=0) (off:=0) Tryz.underlying26 rfl rfl Tryz.sizeOf22 (s 1 rfl)
 ·exact D1 fun e s p=>zK (k:=0) (o:=0) (off:=0) Tryz.underlying26 rfl rfl Tryz.sizeOf22 (s 1 rfl)
 ·exact D1 fun e s p=>zK (k:=0) (o:=0) (off:=0) Tryz.underlying26 rfl rfl Tryz.sizeOf22 (s 1 rfl)
 ·
  intro e19 s19 p19
  refine zd (H':=[.box 26 [AV.hd 2,li A.batch,li A.high,ls zO A.zones,ls zI A.caches],.box 26 (zG ⟨[],0,0,[],[]⟩),.vec 3 1 (List.map cI x1),.vec 51 10 (List.map zO x2),.vec 55 1 (List.map zI x3)]) (zC3 (k:=0) (o:=0) (cs:=(zG A)) (a:=(AV.hd 2)) Tryz.sizeOf22 (by exact p19.1) rfl rfl (by exact p19.2.2.2.2.2.1) rfl) ?_
  exact zF ⟨fun _=>rfl,rfl⟩
 ·exact D1 fun e s p=>zK (k:=0) (o:=0) (off:=3) Tryz.underlying26 rfl rfl Tryz.sizeOf23 (s 1 rfl)
 ·
  intro e21 s21 p21
  refine zd (H':=[.box 26 [AV.hd 2,li A.batch,li A.high,AV.hd 3,ls zI A.caches],.box 26 (zG ⟨[],0,0,[],[]⟩),.vec 3 1 (List.map cI x1),.vec 51 10 (List.map zO x2),.vec 55 1 (List.map zI x3)]) (zC3 (k:=0) (o:=3) (cs:=[AV.hd 2,li A.batch,li A.high,ls zO A.zones,ls zI A.caches]) (a:=(AV.hd 3)) Tryz.sizeOf23 (by exact p21.1) rfl rfl (by exact p21.2.2.2.2.2.2.2.2.1) rfl) ?_
  exact zF ⟨fun _=>rfl,rfl⟩
 ·exact D1 fun e s p=>zK (k:=0) (o:=0) (off:=4) Tryz.underlying26 rfl rfl Tryz.sizeOf24 (s 1 rfl)
 ·
  intro e23 s23 p23
  refine zd (H':=[.box 26 [AV.hd 2,li A.batch,li A.high,AV.hd 3,AV.hd 4],.box 26 (zG ⟨[],0,0,[],[]⟩),.vec 3 1 (List.map cI x1),.vec 51 10 (List.map zO x2),.vec 55 1 (List.map zI x3)]) (zC3 (k:=0) (o:=4) (cs:=[AV.hd 2,li A.batch,li A.high,AV.hd 3,ls zI A.caches]) (a:=(AV.hd 4)) Tryz.sizeOf24 (by exact p23.1) rfl rfl (by exact p23.2.2.2.2.2.2.2.2.2.2.2.1) rfl) ?_
  exact zF ⟨fun _=>rfl,rfl⟩
 intro e24 s24 hq1
 refine zAS (zBI (l:=[(1,(AV.ptr 0 0)),(2,(AV.ptr 1 0))]) ⟨s24 1 rfl,s24 2 rfl,trivial⟩) ?_
 refine zM6 (fun e' H' => ∃ (l1:List zi),Rep 82 0 e' H' (mkE [(1,(AV.ptr 0 0)),(2,(AV.ptr 1 0))]) [.box 26 [AV.osl 3 1 (List.map cI x1),li A.batch,li A.high,AV.osl 51 10 (List.map zO l1),AV.osl 55 1 (List.map zI x3)],.box 26 (zG ⟨[],0,0,[],[]⟩)]∧zFS A x1 x3 l1=some r) ?_ ?_
 ·
  refine zH<|zC<|zA (zK Tryz.underlying26 rfl rfl Tryz.sizeOf23 rfl)<|zA (zN Tryz.isAgg23 rfl rfl rfl rfl)<|zA (zCd (f:=zO) (l:=x2) Tryz.underlying23 rfl rfl)<|zA (zB rfl) ?_
  refine zF<|zR<|zOG (σ:=Nat×Int×(List zi)) (fun s=>s.1) (fun s e' H'=>match s with | (n2,i3,l7)=>Rep 82 0 e' H' (mkE [(1,(AV.ptr 0 0)),(2,(AV.ptr 1 0)),(22,(li (x2.length:Int))),(23,(li i3))]) [.box 26 [AV.osl 3 1 (List.map cI x1),li A.batch,li A.high,AV.osl 51 10 (List.map zO l7),AV.osl 55 1 (List.map zI x3)],.box 26 (zG ⟨[],0,0,[],[]⟩)]∧zBT A x1 x2 x3 n2 i3 l7=some r) (zAF,0,x2) ⟨Rep.trans (z9 (k:=0) (j:=2) (o:=0) rfl rfl rfl rfl) (Rep.trans (z9 (k:=0) (j:=3) (o:=3) rfl rfl rfl rfl) (Rep.trans (z9 (k:=0) (j:=4) (o:=4) rfl rfl rfl rfl) (zAD [0,1] (l:=[(1,(AV.ptr 0 0)),(2,(AV.ptr 1 0)),(22,(li (x2.length:Int))),(23,(li 0))]) rfl rfl (by kernel_rfl)))),h⟩ ?_
  clear h
  rintro ⟨n2,i3,l7⟩ e' H' ⟨hrep,h⟩
  cases n2 with
  | zero=>exact absurd (show (none:Option _)=some r from h) (by simp)
  | succ n2 =>
   replace h:zCE A x1 x2 x3 (zBT A x1 x2 x3 n2) i3 l7=some r:=h
   unfold zCE at h
   refine zAS hrep ?_
   clear hrep
   refine zH<|zC<|zA (zh rfl rfl)<|zF<|zH ?_
   refine zW h rfl (fun b8 h => ?_) (fun b8 h => ?_)
   ·refine zQ ?_
    refine zM6 (fun e' H' => ∃ (l8:List zi),Rep 82 0 e' H' (mkE [(1,(AV.ptr 0 0)),(2,(AV.ptr 1 0)),(22,(li (x2.length:Int))),(23,(li i3))]) [.box 26 [AV.osl 3 1 (List.map cI x1),li A.batch,li A.high,AV.osl 51 10 (List.map zO l8),AV.osl 55 1 (List.map zI x3)],.box 26 (zG ⟨[],0,0,[],[]⟩)]∧zFL (zBT A x1 x2 x3 n2) i3 l8=some r) ?_ ?_
    ·
     refine zR<|zH<|zC<|zA (zB rfl)<|zA (zD rfl)<|zF ?_
     refine zH<|zC<|zA (zB rfl)<|zF<|zR<|zOG (σ:=Nat×Int×(List zi)) (fun s=>s.1) (fun s e' H'=>match s with | (n3,i4,l9)=>Rep 82 0 e' H' (mkE [(1,(AV.ptr 0 0)),(2,(AV.ptr 1 0)),(3,(li i3)),(22,(li (x2.length:Int))),(23,(li i3)),(26,(li i4))]) [.box 26 [AV.osl 3 1 (List.map cI x1),li A.batch,li A.high,AV.osl 51 10 (List.map zO l9),AV.osl 55 1 (List.map zI x3)],.box 26 (zG ⟨[],0,0,[],[]⟩)]∧zCy (zBT A x1 x2 x3 n2) i3 n3 i4 l9=some r) (zAF,0,l7) ⟨zAD [0,1] rfl rfl (by kernel_rfl),h⟩ ?_
     clear h
     rintro ⟨n3,i4,l9⟩ e' H' ⟨hrep,h⟩
     cases n3 with
     | zero=>exact absurd (show (none:Option _)=some r from h) (by simp)
     | succ n3 =>
      replace h:zCN (zBT A x1 x2 x3 n2) i3 (zCy (zBT A x1 x2 x3 n2) i3 n3) i4 l9=some r:=h
      unfold zCN at h
      refine zAS hrep ?_
      clear hrep
      refine zH<|zC<|zA (zh rfl rfl)<|zF<|zH ?_
      refine zW h rfl (fun b10 h => ?_) (fun b10 h => ?_)
      ·refine zQ<|zH<|zR<|zH<|zC<|zA (zB rfl) ?_
       refine zA (zD rfl)<|zF<|zAS (zAZ (k:=0) (o:=3) (t':=51) (sz:=10) (rows:=List.map zO l9) rfl rfl)<|zM h fun b11 h=>zM h fun b12 h=>zP h fun x6 w6 h => ?_
       show AW _ _ _ _ _ _ [.box 26 [AV.osl 3 1 (List.map cI x1),li A.batch,li A.high,AV.hd 2,AV.osl 55 1 (List.map zI x3)],.box 26 (zG ⟨[],0,0,[],[]⟩),.vec 51 10 (List.map zO l9)]
       refine zAm (n:=82) (m:=0) [.head 0 0,.head 0 0,.head 0 0,.head 0 0,.head 0 0,.head 0 0,.head 0 0,.head 0 0,.head 0 0,.head 0 0,.head 0 0,.head 0 0,.head 0 0,.head 0 0,.head 0 0,.head 0 0,.tail 0] [16] [AV.ptr 0 3,AV.hd 2,li i3,li i4,AV.ptr 0 3,AV.hd 2,li i3,li i4,(AV.ptr 2 (i3.toNat*10)),(AV.ptr 2 (i3.toNat*10+5)),(AV.ptr 2 (i3.toNat*10+5+i4.toNat*1)),(ls cI (((at_ l9 i3).free).getD i4.toNat ([]:List Int))),ls cI x6,(AV.ptr 2 (i3.toNat*10)),(AV.ptr 2 (i3.toNat*10+5)),(AV.ptr 2 (i3.toNat*10+5+i4.toNat*1)),.any] [[.box 26 [AV.osl 3 1 (List.map cI x1),li A.batch,li A.high,AV.hd 2,AV.osl 55 1 (List.map zI x3)],.box 26 (zG ⟨[],0,0,[],[]⟩),.vec 51 10 (List.map zO l9)],[.box 26 [AV.osl 3 1 (List.map cI x1),li A.batch,li A.high,AV.hd 2,AV.osl 55 1 (List.map zI x3)],.box 26 (zG ⟨[],0,0,[],[]⟩),.vec 51 10 (List.map zO (l9.set i3.toNat ({ at_ l9 i3 with free:=zDc 5 ([]:List Int) ((at_ l9 i3).free) i4.toNat x6 })))]] (by kernel_rfl) (by kernel_rfl) ⟨?_,?_,?_,?_,?_,?_,?_,?_,?_,?_,?_,?_,?_,?_,?_,?_,?_,trivial⟩ ?_
       ·exact D1 fun e s p=>zK (k:=0) (o:=0) (off:=3) Tryz.underlying26 rfl rfl Tryz.sizeOf23 (s 1 rfl)
       ·exact D1 fun e s p=>zN (k:=0) (o:=3) Tryz.isAgg23 p.1 rfl rfl rfl
       ·exact D1 fun e s p=>zB (s 3 rfl)
       ·exact D1 fun e s p=>zB (s 4 rfl)
       ·exact D1 fun e s p=>zK (k:=0) (o:=0) (off:=3) Tryz.underlying26 rfl rfl Tryz.sizeOf23 (s 1 rfl)
       ·exact D1 fun e s p=>zN (k:=0) (o:=3) Tryz.isAgg23 p.1 rfl rfl rfl
       ·exact D1 fun e s p=>zB (s 3 rfl)
       ·exact D1 fun e s p=>zB (s 4 rfl)
       ·exact D1 fun e s p=>zy (f:=zO) (l:=l9) (i:=i3) Tryz.underlying23 Tryz.sizeOf51 p.1 rfl p.2.1 b11
       ·exact D1 fun e s p=>zK (k:=2) (o:=(i3.toNat*10)) (off:=5) Tryz.underlying51 rfl rfl Tryz.sizeOf49 p.1
       ·exact D1 fun e s p=>zAG (m:=5) (s:=1) (i:=i4) (k:=2) (o:=(i3.toNat*10+5)) Tryz.underlying49 Tryz.sizeOf22 p.1 p.2.1 b12
       ·exact D1 fun e s p=>zA3 (f:=zO) (l:=l9) (i:=i3) (c:=5+i4.toNat) (a:=(ls cI (((at_ l9 i3).free).getD i4.toNat ([]:List Int)))) Tryz.isAgg22 p.1 rfl (by first | rfl | omega) b11 (zSK (n:=5) (g:=(eS cI)) (d:=([]:List Int)) (l:=(at_ l9 i3).free) (i:=i4.toNat) (zBK b12).2 ([(li ((at_ l9 i3).node))]++[(li ((at_ l9 i3).kind))]++[(li ((at_ l9 i3).start))]++[(li ((at_ l9 i3).count))]++[(li ((at_ l9 i3).min))]++[]) ([])) rfl
       ·
        intro e37 s37 p36
        refine zAq (r':=(ls cI x6)) (la:=[(ls cI (((at_ l9 i3).free).getD i4.toNat ([]:List Int)))]) (la':=[(ls cI (((at_ l9 i3).free).getD i4.toNat ([]:List Int)))]) (r:=(AV.osl 3 1 (List.map cI x6))) (S:=[]) Tryz.func80 rfl (by kernel_rfl) (.fn 80) (zAL p36.1 rfl) ⟨zAl.nr rfl,trivial⟩ (zAX w6) (.inl rfl) (congrArg (AV.sl false) (zAM (fun _=>rfl))) ?_
        exact zF ⟨fun _=>rfl,rfl⟩
       ·exact D1 fun e s p=>zy (f:=zO) (l:=l9) (i:=i3) Tryz.underlying23 Tryz.sizeOf51 p.1 rfl p.2.1 b11
       ·exact D1 fun e s p=>zK (k:=2) (o:=(i3.toNat*10)) (off:=5) Tryz.underlying51 rfl rfl Tryz.sizeOf49 p.1
       ·exact D1 fun e s p=>zAG (m:=5) (s:=1) (i:=i4) (k:=2) (o:=(i3.toNat*10+5)) Tryz.underlying49 Tryz.sizeOf22 p.1 p.2.2.2.2.2.1 b12
       ·
        intro e41 s41 p40
        refine zd (H':=[.box 26 [AV.osl 3 1 (List.map cI x1),li A.batch,li A.high,AV.hd 2,AV.osl 55 1 (List.map zI x3)],.box 26 (zG ⟨[],0,0,[],[]⟩),.vec 51 10 (List.map zO (l9.set i3.toNat ({ at_ l9 i3 with free:=zDc 5 ([]:List Int) ((at_ l9 i3).free) i4.toNat x6 })))]) (zBZ (k:=2) (o:=(i3.toNat*10+5+i4.toNat*1)) (f:=zO) (l:=l9) (i:=i3) (c:=5+i4.toNat) (a:=(ls cI x6)) (z:={ at_ l9 i3 with free:=zDc 5 ([]:List Int) ((at_ l9 i3).free) i4.toNat x6 }) Tryz.sizeOf22 (by exact p40.1) rfl (by first | rfl | omega) b11 (zVu b12 rfl) (by exact p40.2.2.2.2.2.2.2.2.2.2.2.2.2.2.2.1) rfl rfl (zSx (n:=5) (g:=(eS cI)) (d:=([]:List Int)) (l:=(at_ l9 i3).free) (i:=i4.toNat) (x:=x6) (zBK b12).2 ([(li ((at_ l9 i3).node))]++[(li ((at_ l9 i3).kind))]++[(li ((at_ l9 i3).start))]++[(li ((at_ l9 i3).count))]++[(li ((at_ l9 i3).min))]++[]) ([]))) ?_
        exact zF ⟨fun _=>rfl,rfl⟩
       intro e42 s42 hq2
       refine zAS (zBI (l:=[(1,(AV.ptr 0 0)),(2,(AV.ptr 1 0)),(3,(li i3)),(22,(li (x2.length:Int))),(23,(li i3)),(26,(li i4))]) ⟨s42 1 rfl,s42 2 rfl,s42 3 rfl,s42 22 rfl,s42 23 rfl,s42 26 rfl,trivial⟩)<|zC<|zM h fun b13 h=>zA (zg (a:=i4) (b:=1) rfl rfl b13)<|zA (zB (av:=(li (i4+1))) rfl)<|zF ?_
       exact ⟨(n3,(i4+1),(l9.set i3.toNat ({ at_ l9 i3 with free:=zDc 5 ([]:List Int) ((at_ l9 i3).free) i4.toNat x6 }))),Nat.lt_succ_self _,Rep.trans (z9 (k:=0) (j:=2) (o:=3) rfl rfl rfl rfl) (zAD [0,1] (l:=[(1,(AV.ptr 0 0)),(2,(AV.ptr 1 0)),(3,(li i3)),(22,(li (x2.length:Int))),(23,(li i3)),(26,(li (i4+1)))]) rfl rfl (by kernel_rfl)),h⟩
      refine zz ?_
      exact ⟨l9,zAD [0,1] rfl rfl (by kernel_rfl),h⟩
    clear h
    rintro e' H' ⟨l8,hrep,h⟩
    refine zAS hrep ?_
    clear hrep
    unfold zFL at h
    refine zC<|zM h fun b9 h=>zA (zg rfl rfl b9)<|zA (zB rfl)<|zF ?_
    exact ⟨(n2,(i3+1),l8),Nat.lt_succ_self _,zAD [0,1] rfl rfl (by kernel_rfl),h⟩
   refine zz ?_
   exact ⟨l7,zAD [0,1] rfl rfl (by kernel_rfl),h⟩
 clear h
 rintro e' H' ⟨l1,hrep,h⟩
 refine zAS hrep ?_
 clear hrep
 unfold zFS at h
 refine zM6 (fun e' H' => ∃ (l2:List zL),Rep 82 0 e' H' (mkE [(1,(AV.ptr 0 0)),(2,(AV.ptr 1 0))]) [.box 26 [AV.osl 3 1 (List.map cI x1),li A.batch,li A.high,AV.osl 51 10 (List.map zO l1),AV.osl 55 1 (List.map zp l2)],.box 26 (zG ⟨[],0,0,[],[]⟩)]∧zHK A x1 l1 l2=some r) ?_ ?_
 ·
  refine zH<|zC<|zA (zK Tryz.underlying26 rfl rfl Tryz.sizeOf24 rfl)<|z5 (zAZ (k:=0) (o:=4) (t':=55) (sz:=1) (rows:=List.map zI x3) rfl rfl)<|zA (zN Tryz.isAgg24 rfl rfl rfl rfl)<|zA (zCd (f:=zI) (l:=x3) Tryz.underlying24 rfl rfl) ?_
  refine zA (zB rfl)<|zF<|zR<|zOG (σ:=Nat×Int×(List zL)) (fun s=>s.1) (fun s e' H'=>match s with | (n0,i1,l3)=>Rep 82 0 e' H' (mkE [(1,(AV.ptr 0 0)),(2,(AV.ptr 1 0)),(49,(li (x3.length:Int))),(50,(li i1))]) [.box 26 [AV.osl 3 1 (List.map cI x1),li A.batch,li A.high,AV.osl 51 10 (List.map zO l1),AV.osl 55 1 (zNJ zI zp i1 l3)],.box 26 (zG ⟨[],0,0,[],[]⟩)]∧l3.length=x3.length∧zBD A x1 x3 l1 n0 i1 l3=some r) (zAF,0,x3) ⟨Rep.trans (z9 (k:=0) (j:=2) (o:=4) rfl rfl rfl rfl) (zAD [0,1] (l:=[(1,(AV.ptr 0 0)),(2,(AV.ptr 1 0)),(49,(li (x3.length:Int))),(50,(li 0))]) rfl rfl (by kernel_rfl)),rfl,h⟩ ?_
  clear h
  rintro ⟨n0,i1,l3⟩ e' H' ⟨hrep,hl3,h⟩
  cases n0 with
  | zero=>exact absurd (show (none:Option _)=some r from h) (by simp)
  | succ n0 =>
   replace h:zCP A x1 x3 l1 (zBD A x1 x3 l1 n0) i1 l3=some r:=h
   unfold zCP at h
   refine zAS hrep ?_
   clear hrep
   refine zH<|zC<|zA (zh rfl rfl)<|zF<|zH ?_
   refine zW h rfl (fun b1 h => ?_) (fun b1 h => ?_)
   ·refine zQ ?_
    refine zM6 (fun e' H' => ∃ (l4:List zL),Rep 82 0 e' H' (mkE [(1,(AV.ptr 0 0)),(2,(AV.ptr 1 0)),(49,(li (x3.length:Int))),(50,(li i1))]) [.box 26 [AV.osl 3 1 (List.map cI x1),li A.batch,li A.high,AV.osl 51 10 (List.map zO l1),AV.osl 55 1 (zNJ zI zp (i1+1) l4)],.box 26 (zG ⟨[],0,0,[],[]⟩)]∧l4.length=x3.length∧zFU (zBD A x1 x3 l1 n0) i1 l4=some r) ?_ ?_
    ·
     refine zR<|zH<|zC<|zA (zB rfl)<|zA (zD rfl)<|zF ?_
     refine zH<|zC<|zA (zK Tryz.underlying26 rfl rfl Tryz.sizeOf24 rfl)<|z5 (zAZ (k:=0) (o:=4) (t':=55) (sz:=1) (rows:=zNJ zI zp i1 l3) rfl rfl)<|zA (zN Tryz.isAgg24 rfl rfl rfl rfl)<|zA (zB rfl) ?_
     refine zM h fun b3 h=>zA (zLc (rows:=zNJ zI zp i1 l3) (i:=i1) Tryz.underlying24 Tryz.sizeOf55 rfl rfl rfl (zNa b3))<|zA (zK Tryz.underlying55 rfl rfl Tryz.sizeOf53 rfl)<|zA (zL5 (i:=i1.toNat) (j:=0) (row:=zI (at_ l3 i1)) (a:=(ls (cS cI) ((at_ l3 i1).lists))) Tryz.isAgg53 rfl rfl (by first | rfl | omega) (zTe b3) rfl rfl)<|zP h fun x4 w4 h=>zGJ (T:=22) (sz:=1) (rows:=List.map (cS cI) x4) (la:=[(ls (cS cI) ((at_ l3 i1).lists))]) (la':=[(ls (cS cI) ((at_ l3 i1).lists))]) (S:=[]) Tryz.func108 rfl (by kernel_rfl) (.fn 108) rfl ⟨zAl.nr rfl,trivial⟩ (zKB w4) (.inl rfl) ?_
     refine zA (zD rfl)<|zF ?_
     refine zM6 (fun e' H' => ∃ (l5:List (List Int)),Rep 82 0 e' H' (mkE [(1,(AV.ptr 0 0)),(2,(AV.ptr 1 0)),(5,(li i1)),(6,(AV.hd 2)),(49,(li (x3.length:Int))),(50,(li i1))]) [.box 26 [AV.osl 3 1 (List.map cI x1),li A.batch,li A.high,AV.osl 51 10 (List.map zO l1),AV.osl 55 1 (zNJ zI zp i1 l3)],.box 26 (zG ⟨[],0,0,[],[]⟩),.vec 22 1 (List.map (cO 3 1 cI) l5)]∧zFK (zBD A x1 x3 l1 n0) i1 l3 l5=some r) ?_ ?_
     ·
      refine zH<|zC<|zA (zB rfl)<|zA (zCd (f:=(cS cI)) (l:=x4) Tryz.underlying53 rfl rfl)<|zA (zB rfl)<|zF ?_
      refine zR<|zOG (σ:=Nat×Int×(List (List Int))) (fun s=>s.1) (fun s e' H'=>match s with | (n1,i2,l6)=>Rep 82 0 e' H' (mkE [(1,(AV.ptr 0 0)),(2,(AV.ptr 1 0)),(5,(li i1)),(6,(AV.hd 2)),(49,(li (x3.length:Int))),(50,(li i1)),(61,(li (x4.length:Int))),(62,(li i2))]) [.box 26 [AV.osl 3 1 (List.map cI x1),li A.batch,li A.high,AV.osl 51 10 (List.map zO l1),AV.osl 55 1 (zNJ zI zp i1 l3)],.box 26 (zG ⟨[],0,0,[],[]⟩),.vec 22 1 (zNJ (cS cI) (cO 3 1 cI) i2 l6)]∧l6.length=x4.length∧zDf (zBD A x1 x3 l1 n0) i1 l3 x4 n1 i2 l6=some r) (zAF,0,x4) ⟨Rep.trans (z9 (k:=0) (j:=2) (o:=4) rfl rfl rfl rfl) (zAD [0,1,3] (l:=[(1,(AV.ptr 0 0)),(2,(AV.ptr 1 0)),(5,(li i1)),(6,(AV.hd 2)),(49,(li (x3.length:Int))),(50,(li i1)),(61,(li (x4.length:Int))),(62,(li 0))]) rfl rfl (by kernel_rfl)),rfl,h⟩ ?_
      clear h
      rintro ⟨n1,i2,l6⟩ e' H' ⟨hrep,hl6,h⟩
      cases n1 with
      | zero=>exact absurd (show (none:Option _)=some r from h) (by simp)
      | succ n1 =>
       replace h:zB9 (zBD A x1 x3 l1 n0) i1 l3 x4 (zDf (zBD A x1 x3 l1 n0) i1 l3 x4 n1) i2 l6=some r:=h
       unfold zB9 at h
       refine zAS hrep ?_
       clear hrep
       refine zH<|zC<|zA (zh rfl rfl)<|zF<|zH ?_
       refine zW h rfl (fun b5 h => ?_) (fun b5 h => ?_)
       ·refine zQ<|zH<|zR<|zH<|zC<|zA (zB rfl) ?_
        refine zA (zD rfl)<|zF<|zC<|zA (zB rfl)<|zA (zB rfl)<|zA (zB rfl) ?_
        refine zA (zB rfl)<|zM h fun b6 h=>zA (zLc (rows:=zNJ (cS cI) (cO 3 1 cI) i2 l6) (i:=i2) Tryz.underlying53 Tryz.sizeOf22 rfl rfl rfl (zNa b6))<|zA (zL5 (i:=i2.toNat) (j:=0) (row:=(cS cI) (at_ l6 i2)) (a:=(ls cI (at_ l6 i2))) Tryz.isAgg22 rfl rfl (by first | rfl | omega) (zTe b6) rfl rfl)<|zP h fun x5 w5 h=>zGJ (T:=3) (sz:=1) (rows:=List.map cI x5) (la:=[(ls cI (at_ l6 i2))]) (la':=[(ls cI (at_ l6 i2))]) (S:=[]) Tryz.func80 rfl (by kernel_rfl) (.fn 80) rfl ⟨zAl.nr rfl,trivial⟩ (zAX w5) (.inl rfl) ?_
        refine zA (zLc (rows:=zNJ (cS cI) (cO 3 1 cI) i2 l6) (i:=i2) Tryz.underlying53 Tryz.sizeOf22 rfl rfl rfl (zNa b6))<|zd (H':=[.box 26 [AV.osl 3 1 (List.map cI x1),li A.batch,li A.high,AV.osl 51 10 (List.map zO l1),AV.osl 55 1 (zNJ zI zp i1 l3)],.box 26 (zG ⟨[],0,0,[],[]⟩),.vopen 22 1 (zNJ (cS cI) (cO 3 1 cI) i2 l6) i2.toNat [.hd 3],.vec 3 1 (List.map cI x5)]) (zMF (k:=2) (j:=3) (i:=i2.toNat) Tryz.sizeOf22 rfl rfl rfl (by rw [zO8]; exact (zBK b6).2) rfl rfl)<|zF<|zC<|zM h fun b7 h=>zA (zg rfl rfl b7) ?_
        refine zA (zB rfl)<|zF ?_
        exact ⟨(n1,(i2+1),(l6.set i2.toNat x5)),Nat.lt_succ_self _,Rep.trans (zOD (k:=2) (j:=3) (f:=cS cI) (g:=cO 3 1 cI) (l:=l6) (i:=i2) (z:=x5) rfl rfl rfl rfl b6) (zAD [0,1,2] (l:=[(1,(AV.ptr 0 0)),(2,(AV.ptr 1 0)),(5,(li i1)),(6,(AV.hd 2)),(49,(li (x3.length:Int))),(50,(li i1)),(61,(li (x4.length:Int))),(62,(li (i2+1)))]) rfl rfl (by kernel_rfl)),by rw [List.length_set]; exact hl6,h⟩
       refine zz ?_
       rw [zRj (f:=cS cI) (l:=l6) (by rw [hl6]; exact b5)]
       exact ⟨l6,zAD [0,1,2] rfl rfl (by kernel_rfl),h⟩
     clear h
     rintro e' H' ⟨l5,hrep,h⟩
     refine zAS hrep ?_
     clear hrep
     unfold zFK at h
     refine zC<|zA (zK Tryz.underlying26 rfl rfl Tryz.sizeOf24 rfl)<|z5 (zAZ (k:=0) (o:=4) (t':=55) (sz:=1) (rows:=zNJ zI zp i1 l3) rfl rfl)<|zA (zN Tryz.isAgg24 rfl rfl rfl rfl)<|zA (zB rfl)<|zA (zB rfl) ?_
     refine zM h fun b4 h=>zA (zLc (rows:=zNJ zI zp i1 l3) (i:=i1) Tryz.underlying24 Tryz.sizeOf55 rfl rfl rfl (zNa b4))<|zA (zK Tryz.underlying55 rfl rfl Tryz.sizeOf53 rfl)<|zd (H':=[.box 26 [AV.osl 3 1 (List.map cI x1),li A.batch,li A.high,AV.osl 51 10 (List.map zO l1),AV.hd 3],.box 26 (zG ⟨[],0,0,[],[]⟩),.vec 22 1 (List.map (cO 3 1 cI) l5),.vopen 55 1 (zNJ zI zp i1 l3) i1.toNat [.hd 2]]) (zMF (k:=3) (j:=2) (i:=i1.toNat) Tryz.sizeOf53 rfl rfl rfl (by rw [zO8]; exact (zBK b4).2) rfl rfl)<|zF ?_
     exact ⟨(l3.set i1.toNat ({ at_ l3 i1 with lists:=l5 })),Rep.trans (zOD (k:=3) (j:=2) (f:=zI) (g:=zp) (l:=l3) (i:=i1) (z:={ at_ l3 i1 with lists:=l5 }) rfl rfl rfl rfl b4) (Rep.trans (z9 (k:=0) (j:=3) (o:=4) rfl rfl rfl rfl) (zAD [0,1] (l:=[(1,(AV.ptr 0 0)),(2,(AV.ptr 1 0)),(49,(li (x3.length:Int))),(50,(li i1))]) rfl rfl (by kernel_rfl))),by rw [List.length_set]; exact hl3,h⟩
    clear h
    rintro e' H' ⟨l4,hrep,hl4,h⟩
    refine zAS hrep ?_
    clear hrep
    unfold zFU at h
    refine zC<|zM h fun b2 h=>zA (zg rfl rfl b2)<|zA (zB rfl)<|zF ?_
    exact ⟨(n0,(i1+1),l4),Nat.lt_succ_self _,zAD [0,1] rfl rfl (by kernel_rfl),hl4,h⟩
   refine zz ?_
   rw [zRj (f:=zI) (l:=l3) (by rw [hl3]; exact b1)]
   exact ⟨l3,zAD [0,1] rfl rfl (by kernel_rfl),h⟩
 clear h
 rintro e' H' ⟨l2,hrep,h⟩
 refine zAS hrep ?_
 clear hrep
 unfold zHK at h
 refine zH<|zC<|z5 (zA4 (k:=0) (o:=0) (rows':=List.map cI x1) rfl rfl (zAM (fun _=>rfl)))<|zX (zKj (k:=0) (cs:=[ls cI x1,li A.batch,li A.high,AV.osl 51 10 (List.map zO l1),AV.osl 55 1 (List.map zp l2)]) (m:=5) Tryz.isAgg26 Tryz.sizeOf26 rfl rfl rfl)<|zd (H':=[.dead,.box 26 [ls cI x1,li A.batch,li A.high,AV.osl 51 10 (List.map zO l1),AV.osl 55 1 (List.map zp l2)],.dead]) (zBW (k:=1) (o:=0) (j:=2) (cs:=(zG ⟨[],0,0,[],[]⟩)) (la:=[ls cI x1,li A.batch,li A.high,AV.osl 51 10 (List.map zO l1),AV.osl 55 1 (List.map zp l2)]) Tryz.sizeOf26 rfl rfl rfl rfl rfl (by decide))<|zF ?_
 refine zb ?_
 cases h
 exact zv (zDV Tryz.isAgg26 Tryz.sizeOf26 rfl rfl rfl rfl)
theorem zJt {C:zi} {r:zi} (h:zHh C=some r):PFn Tryz.prog 118 [(AV.agg (zO C))] (AV.agg ([li r.node]++([li r.kind]++([li r.start]++([li r.count]++([li r.min]++((cM 5 3 (5:Int) r.free)++[]))))))):=by
 refine zm Tryz.func118 rfl Tryz.ntmps118 Tryz.results118 rfl ?_
 unfold zHh at h
 refine zH<|zC<|zX (H':=[.box 51 (zO C)]) (zu (t:=51) rfl)<|zX (H':=[.box 51 (zO C),.box 51 (zO ⟨0,0,0,0,0,(List.replicate 5 ([]:List Int))⟩)]) zv0<|zF ?_
 refine zx (r:=r) (fun ((l1,i1):(List (List Int))×Int)=>mkE [(1,(AV.ptr 0 0)),(2,(AV.ptr 1 0))]) (fun (l1,i1)=>[.box 51 ([li C.node,li C.kind,li C.start,li C.count,li C.min]++((cM 5 3 i1 l1)++[])),.box 51 (zO ⟨0,0,0,0,0,(List.replicate 5 ([]:List Int))⟩)]) (fun (l1,i1)=>zIA C l1 i1) ?_ ?_
 ·
  refine zH<|zC<|zA (zB rfl)<|zF<|zR<|zt (σ:=Int×(List (List Int))) (fun (i2,l2)=>mkE [(1,(AV.ptr 0 0)),(2,(AV.ptr 1 0)),(4,(li i2))]) (fun (i2,l2)=>[.box 51 ([li C.node,li C.kind,li C.start,li C.count,li C.min]++((cM 5 3 i2 l2)++[])),.box 51 (zO ⟨0,0,0,0,0,(List.replicate 5 ([]:List Int))⟩)]) (fun n0 (i2,l2)=>zGH C n0 i2 l2) (0,C.free) h (fun _=>rfl) (zAD [0,1] rfl rfl (by kernel_rfl)) ?_
  clear h
  rintro n0 ⟨i2,l2⟩ h
  replace h:zEE C (zGH C n0) i2 l2=some r:=h
  unfold zEE at h
  refine zH<|zC<|zA (zh rfl rfl)<|zF<|zH ?_
  refine zW h rfl (fun b2 h => ?_) (fun b2 h => ?_)
  ·refine zQ<|zH<|zR<|zH<|zC<|zA (zB rfl) ?_
   refine zA (zD rfl)<|zF<|zC<|zA (zB rfl)<|zA (zB rfl)<|zA (zK Tryz.underlying51 rfl rfl Tryz.sizeOf49 rfl) ?_
   refine zM h fun b3 h=>zA (zAG (m:=5) (s:=1) (i:=i2) (k:=0) (o:=5) Tryz.underlying49 Tryz.sizeOf22 rfl rfl b3)<|zA (zQ3 (k:=0) (o:=(5+i2.toNat*1)) (cs:=([li C.node,li C.kind,li C.start,li C.count,li C.min]++((cM 5 3 i2 l2)++[]))) (hd:=([li C.node]++[li C.kind]++[li C.start]++[li C.count]++[li C.min]++[])) (tl:=([])) (N:=5) (T':=3) (K:=i2) (l:=l2) (i:=i2) Tryz.isAgg22 rfl rfl rfl (congrArg (fun q=>5+q) (Nat.mul_one _)) b3 (decide_eq_true (Int.le_refl _)))<|zP h fun x1 w1 h=>zGJ (T:=3) (sz:=1) (rows:=List.map cI x1) (la:=[(ls cI (l2.getD i2.toNat []))]) (la':=[(ls cI (l2.getD i2.toNat []))]) (S:=[]) Tryz.func80 rfl (by kernel_rfl) (.fn 80) rfl ⟨zAl.nr rfl,trivial⟩ (zAX w1) (.inl rfl)<|zA (zK Tryz.underlying51 rfl rfl Tryz.sizeOf49 rfl) ?_
   refine zA (zAG (m:=5) (s:=1) (i:=i2) (k:=0) (o:=5) Tryz.underlying49 Tryz.sizeOf22 rfl rfl b3)<|zd (H':=[.box 51 ([li C.node,li C.kind,li C.start,li C.count,li C.min]++((List.set (cM 5 3 i2 l2) i2.toNat (AV.hd 2))++[])),.box 51 (zO ⟨0,0,0,0,0,(List.replicate 5 ([]:List Int))⟩),.vec 3 1 (List.map cI x1)]) (zN2 (k:=0) (o:=(5+i2.toNat*1)) (cs:=([li C.node,li C.kind,li C.start,li C.count,li C.min]++((cM 5 3 i2 l2)++[]))) (hd:=([li C.node]++[li C.kind]++[li C.start]++[li C.count]++[li C.min]++[])) (tl:=([])) (s:=(cM 5 3 i2 l2)) (i:=i2) (a:=(AV.hd 2)) Tryz.sizeOf22 rfl rfl rfl (congrArg (fun q=>5+q) (Nat.mul_one _)) (zF9 b3) rfl rfl)<|zF<|zC<|zM h fun b4 h=>zA (zg rfl rfl b4) ?_
   refine zA (zB rfl)<|zF ?_
   exact ⟨((i2+1),(zDc 5 [] l2 i2.toNat x1)),Rep.trans (zQv (K':=i2+1) (j:=2) (l':=x1) (k:=0) (cs:=([li C.node,li C.kind,li C.start,li C.count,li C.min]++((List.set (cM 5 3 i2 l2) i2.toNat (AV.hd 2))++[]))) (hd:=([li C.node]++[li C.kind]++[li C.start]++[li C.count]++[li C.min]++[])) (tl:=([])) (N:=5) (T:=3) (K:=i2) (l:=l2) (i:=i2) rfl rfl b3 (decide_eq_true rfl) rfl rfl rfl) (zBV (n:=17) (m:=0) [0,1] (l:=[(1,(AV.ptr 0 0)),(2,(AV.ptr 1 0)),(4,(li (i2+1)))]) ⟨⟨Sub.refl _,by kernel_rfl⟩,⟨Sub.refl _,by kernel_rfl⟩,⟨Sub.refl _,by kernel_rfl⟩,trivial⟩ rfl rfl ⟨⟨rfl,zS3 (hd:=([li C.node]++[li C.kind]++[li C.start]++[li C.count]++[li C.min]++[])) (tl:=([])) (N:=5) (T:=3) (K:=i2+1) (l:=zDc 5 [] l2 i2.toNat x1) (by kernel_rfl) (by kernel_rfl) rfl⟩,⟨rfl,by kernel_rfl⟩,trivial⟩),h⟩
  refine zz ?_
  exact ⟨(l2,i2),zBV (n:=17) (m:=0) [0,1] (l:=[(1,(AV.ptr 0 0)),(2,(AV.ptr 1 0))]) ⟨⟨Sub.refl _,by kernel_rfl⟩,⟨Sub.refl _,by kernel_rfl⟩,trivial⟩ rfl rfl ⟨⟨rfl,zS3 (hd:=([li C.node]++[li C.kind]++[li C.start]++[li C.count]++[li C.min]++[])) (tl:=([])) (N:=5) (T:=3) (K:=i2) (l:=l2) (by kernel_rfl) (by kernel_rfl) rfl⟩,⟨rfl,by kernel_rfl⟩,trivial⟩,h⟩
 clear h
 rintro ⟨l1,i1⟩ h
 unfold zIA at h
 refine zH<|zC<|zM h fun b1 h=>z5 (zSr (k:=0) (cs:=([li C.node,li C.kind,li C.start,li C.count,li C.min]++((cM 5 3 i1 l1)++[]))) (hd:=([li C.node]++[li C.kind]++[li C.start]++[li C.count]++[li C.min]++[])) (tl:=([])) (N:=5) (T:=3) (K:=i1) (l:=l1) rfl rfl b1)<|zX (zKj (k:=0) (cs:=([li C.node,li C.kind,li C.start,li C.count,li C.min]++((cM 5 3 (5:Int) l1)++[]))) (m:=10) Tryz.isAgg51 Tryz.sizeOf51 rfl rfl rfl)<|zd (H':=[.dead,.box 51 ([li C.node,li C.kind,li C.start,li C.count,li C.min]++((cM 5 3 (5:Int) l1)++[])),.dead]) (zBW (k:=1) (o:=0) (j:=2) (cs:=(zO ⟨0,0,0,0,0,(List.replicate 5 ([]:List Int))⟩)) (la:=([li C.node,li C.kind,li C.start,li C.count,li C.min]++((cM 5 3 (5:Int) l1)++[]))) Tryz.sizeOf51 rfl rfl rfl rfl rfl (by decide)) ?_
 refine zF<|zb ?_
 cases h
 exact zv (zDV Tryz.isAgg51 Tryz.sizeOf51 rfl rfl rfl rfl)
end Go.Proofs.YtplkliakhdkpcaaGreat
