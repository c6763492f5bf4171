/-
  Rules, functions and laws for the last text, part c.
-/
import Derived.Test.YtplkliakhdkpcaaGreatGb
set_option linter.unusedVariables false
set_option linter.unusedSimpArgs false
namespace Go.Proofs.YtplkliakhdkpcaaGreat
open Go Go.RowKit Go.Wk Go.Am Go.Proofs Tryz
set_option maxHeartbeats 4000000
theorem zGe:zKL prog 3 1 (.int .i64 0) 8:=zKL.of (by kernel_rfl) rfl (by decide) (by decide)
theorem zM0:zKL prog 22 1 (.slice none 0 0) 24:=zKL.of (by kernel_rfl) rfl (by decide) (by decide)
theorem zNC:zKL prog 51 10 (.agg #[.int .i64 0,.int .i64 0,.int .i64 0,.int .i64 0,.int .i64 0,.slice none 0 0,.slice none 0 0,.slice none 0 0,.slice none 0 0,.slice none 0 0]) 160:=zKL.of (by kernel_rfl) rfl (by decide) (by decide)
theorem zM5:zKL prog 55 1 (.agg #[.slice none 0 0]) 24:=zKL.of (by kernel_rfl) rfl (by decide) (by decide)
theorem zUz:zKL prog 46 4 (.agg #[.int .i64 0,.int .i64 0,.int .i64 0,.int .i64 0]) 32:=zKL.of (by kernel_rfl) rfl (by decide) (by decide)
theorem zUT:zKL prog 4 1 (.bool false) 1:=zKL.of (by kernel_rfl) rfl (by decide) (by decide)
theorem zAS {a_s:List Int} {r:List Int} (h:zAo a_s=some r):PFn prog 80 [ls cI a_s] (AV.osl 3 1 (List.map cI r)):=by
  refine zq func80 rfl ntmps80 results80 rfl ?_
  unfold zAo at h
  refine zM h fun hb1 h => ?_
  obtain rfl:=Option.some.inj h
  refine zI<|zC<|zA (a:=(.lit (.slice none 0 0))) (zD rfl)<|zF<|zI<|zI ?_
  refine zC<|zA (a:=(ls cI a_s)) (zB rfl) ?_
  refine zK5 (full:=false) (rows:=List.map cI a_s) underlying22 rfl (fun b hb => ?_)
  refine zF ?_
  refine zMC b rfl (fun hbt => ?_) (fun hbt => ?_)
  · obtain rfl:a_s=[]:=List.map_eq_nil_iff.1 (hb hbt)
    refine zI<|zC<|zA (a:=(.lit (.slice none 0 0))) (zD rfl)<|zF<|zb ?_
    exact zu (zHs (zAM rfl rfl) zh.nilo)
  · refine zP ?_
    refine zI<|zC<|zLw zGe underlying22<|zA (a:=(ls cI a_s)) (zB rfl)<|zD8 (f:=cI) (k:=0) (l:=[]) (l':=a_s) zGe (fun _=>rfl) underlying22 rfl rfl rfl hb1<|zA (a:=(.hd 1)) (zD rfl) ?_
    refine zF<|zb ?_
    exact zu (zUO (rows:=List.map cI ([]++a_s)) rfl rfl)
theorem zH1 {a_s : List Int} {a_f : Int → Option Bool} {g_a_f : FuncId} {cf_a_f : Func} {code_a_f : Code} {caps_a_f : List AV} (hcf_a_f : Tryz.prog.funcs[g_a_f]? = some cf_a_f) (hcb_a_f : cf_a_f.body = some code_a_f) (hcn_a_f : (cf_a_f.name == "runtime.NumGoroutine") = false) (hnr_a_f : caps_a_f.all nr = true) (hg_a_f : ∀ {x0 : Int} {y : Bool}, a_f x0 = some y → PFn prog g_a_f ((li x0) :: caps_a_f) (AV.lit (.bool y))) {r : Int} (h : zCL a_s a_f = some r) : PFn prog 129 [(ls cI a_s), (AV.clo g_a_f caps_a_f)] (li r) := by
 refine zq func129 rfl ntmps129 results129 rfl ?_
 unfold zCL at h
 refine zI<|zC<|zA (zD rfl)<|zF ?_
 refine zx (fun e' H'=>Rep 19 0 e' H' (mkE []) []∧zCj  = some r) ?_ ?_
 ·
  refine zI<|zC<|zA (zB rfl)<|zA (zX underlying22 rfl)<|zA (zB rfl)<|zF ?_
  refine zQ<|z6 (σ:=Nat×Int) (fun s=>s.1) (fun s e' H'=>match s with | (n0,i1)=>Rep 19 0 e' H' (mkE [(0,(ls cI a_s)),(1,(AV.clo g_a_f caps_a_f)),(7,(li (a_s.length:Int))),(8,(li i1))]) []∧zAY a_s a_f n0 i1=some r) (z9,0) ⟨zBe (n:=19) (m:=0) [] (l:=[(0,(ls cI a_s)),(1,(AV.clo g_a_f caps_a_f)),(7,(li (a_s.length:Int))),(8,(li 0))]) ⟨⟨Sub.refl _,by kernel_rfl⟩,⟨zEj hnr_a_f,zEk hnr_a_f⟩,⟨Sub.refl _,by kernel_rfl⟩,⟨Sub.refl _,by kernel_rfl⟩,trivial⟩ rfl rfl trivial,h⟩ ?_
  clear h
  rintro ⟨n0,i1⟩ e' H' ⟨hrep,h⟩
  cases n0 with
  | zero=>exact absurd (show (none:Option _)=some r from h) (by simp)
  | succ n0 =>
   replace h:zAh a_s a_f (zAY a_s a_f n0) i1=some r:=h
   unfold zAh at h
   refine zV hrep ?_
   clear hrep
   refine zI<|zC<|zA (ze rfl rfl)<|zF<|zI ?_
   refine zY h rfl (fun hb1 h => ?_) (fun hb1 h => ?_)
   ·refine zP<|zI<|zQ<|zI<|zC<|zA (zB rfl) ?_
    refine zA (zD rfl)<|zF<|zI<|zC<|zA (zB rfl)<|zA (zB rfl) ?_
    refine zA (zB rfl)<|zM h fun hb2 h=>zA (zU underlying22 sizeOf3 (fun _=>rfl) rfl rfl hb2)<|zA (zW (o:=0) isAgg3 rfl rfl)<|zR h fun x1 hx1 h=>zAw (S:=[]) hcf_a_f hcb_a_f hcn_a_f (.clo (caps:=caps_a_f) rfl) rfl (zDY.c (zAt.nr rfl) (zDY.nrs hnr_a_f)) (hg_a_f hx1) (.inl rfl) rfl ?_
    refine zF ?_
    refine zY h rfl (fun hb3 h => ?_) (fun hb3 h => ?_)
    ·refine zI<|zC<|zA (zB rfl)<|zA (zD rfl)<|zF<|zb ?_
     show zAQ _ _ _ _ _ _
     obtain rfl:=Option.some.inj h
     exact zu (zAM rfl rfl)
    ·refine zP<|zC<|zM h fun hb4 h=>zA (zf rfl rfl hb4)<|zA (zB rfl)<|zF ?_
     exact ⟨(n0,(i1+1)),Nat.lt_succ_self _,zBe (n:=19) (m:=0) [] (l:=[(0,(ls cI a_s)),(1,(AV.clo g_a_f caps_a_f)),(7,(li (a_s.length:Int))),(8,(li (i1+1)))]) ⟨⟨Sub.refl _,by kernel_rfl⟩,⟨zEj hnr_a_f,zEk hnr_a_f⟩,⟨Sub.refl _,by kernel_rfl⟩,⟨Sub.refl _,by kernel_rfl⟩,trivial⟩ rfl rfl trivial,h⟩
   ·refine zy ?_
    exact ⟨zAE [] rfl rfl (by kernel_rfl),h⟩
 ·
  clear h
  rintro e' H' ⟨hrep,h⟩
  refine zV hrep ?_
  clear hrep
  unfold zCj at h
  refine zI<|zC<|zA (zD rfl)<|zF<|zb ?_
  show zAQ _ _ _ _ _ _
  obtain rfl:=Option.some.inj h
  exact zu (zAM rfl rfl)
theorem zGw {a_s : List Int} {a_f : Int → Option Bool} {g_a_f : FuncId} {cf_a_f : Func} {code_a_f : Code} {caps_a_f : List AV} (hcf_a_f : Tryz.prog.funcs[g_a_f]? = some cf_a_f) (hcb_a_f : cf_a_f.body = some code_a_f) (hcn_a_f : (cf_a_f.name == "runtime.NumGoroutine") = false) (hnr_a_f : caps_a_f.all nr = true) (hg_a_f : ∀ {x0 : Int} {y : Bool}, a_f x0 = some y → PFn prog g_a_f ((li x0) :: caps_a_f) (AV.lit (.bool y))) {r : Bool} (h : zBd a_s a_f = some r) : PFn prog 83 [(ls cI a_s), (AV.clo g_a_f caps_a_f)] (AV.lit (.bool r)) := by
 refine zq func83 rfl ntmps83 results83 rfl ?_
 unfold zBd at h
 refine zI<|zC<|zA (zD rfl)<|zF<|zI<|zC ?_
 refine zA (zB rfl)<|zA (zB rfl)<|zR h fun x1 hx1 h=>zAw (r':=(li x1)) (la:=[ls cI a_s,AV.clo g_a_f caps_a_f]) (la':=[ls cI a_s,AV.clo g_a_f caps_a_f]) (r:=(li x1)) (S:=[]) func129 rfl (by kernel_rfl) (.fn 129) rfl ⟨zAt.nr rfl,zAt.clo (zDY.nrs hnr_a_f),trivial⟩ (zH1 hcf_a_f hcb_a_f hcn_a_f hnr_a_f hg_a_f hx1) (.inl rfl) rfl<|zA (zAp rfl rfl)<|zA (zD rfl) ?_
 refine zF<|zb ?_
 show zAQ _ _ _ _ _ _
 obtain rfl:=Option.some.inj h
 exact zu (zAM rfl rfl)
theorem zJc {a_n:Int} {r:Bool} (h:zCv a_n=some r):PFn prog 84 [li a_n] (AV.lit (.bool r)):=by
 refine zq func84 rfl ntmps84 results84 rfl ?_
 unfold zCv at h
 refine zI<|zC<|zA (zD rfl)<|zF<|zI<|zC ?_
 refine zA (zB rfl)<|zA (ze rfl rfl)<|zA (zB rfl)<|zT rfl rfl (fun hc1=>zt.step (zB rfl))<|zT rfl rfl (fun hc2=>zt.step (zAp (z5 rfl hc2) rfl))<|zA (zd rfl rfl) ?_
 refine zA (zD rfl)<|zF<|zb ?_
 show zAQ _ _ _ _ _ _
 obtain rfl:=Option.some.inj h
 exact zu (zAM rfl rfl)
theorem zHw {a_a:zJ} {r:Bool} (h:zCs a_a=some r):PFn prog 41 [(AV.agg (zG a_a))] (AV.lit (.bool r)):=by
 refine zq func41 rfl ntmps41 results41 rfl ?_
 unfold zCs at h
 refine zI<|zC<|za (H':=[.box 26 (zG a_a)]) (zw (t:=26) rfl)<|zA (zD rfl)<|zF<|zI ?_
 refine zI<|zC<|zA (zK underlying26 rfl rfl sizeOf22 rfl)<|zA (zN isAgg22 rfl rfl rfl rfl)<|zA (zX underlying22 rfl)<|zA (ze rfl rfl) ?_
 refine zA (zB rfl)<|zT rfl rfl (fun hc1=>zt.step (zK underlying26 rfl rfl sizeOf22 rfl))<|zT rfl rfl (fun hc2=>zt.step (zN isAgg22 (z5 rfl hc2) rfl rfl rfl))<|zT rfl rfl (fun hc3=>zt.step (zX underlying22 (z5 rfl hc3)))<|zT rfl rfl (fun hc4=>zt.step (zAl (z5 rfl hc4) rfl))<|zA (zd rfl rfl) ?_
 refine zA (zB rfl)<|zT rfl rfl (fun hc5=>zt.step (zK underlying26 rfl rfl sizeOf3 rfl))<|zT rfl rfl (fun hc6=>zt.step (zN isAgg3 (z5 rfl hc6) rfl rfl rfl))<|zT rfl rfl (fun hc7=>zt.step (zAl (z5 rfl hc7) rfl))<|zA (zd rfl rfl)<|zA (zB rfl) ?_
 refine zT rfl rfl (fun hc8=>zt.step (zK underlying26 rfl rfl sizeOf3 rfl))<|zT rfl rfl (fun hc9=>zt.step (zN isAgg3 (z5 rfl hc9) rfl rfl rfl))<|zT rfl rfl (fun hc10=>zt.step (ze (z5 rfl hc10) rfl))<|zA (zd rfl rfl)<|zA (zB rfl)<|zT rfl rfl (fun hc11=>zt.step (zK underlying26 rfl rfl sizeOf3 rfl)) ?_
 refine zT rfl rfl (fun hc12=>zt.step (zN isAgg3 (z5 rfl hc12) rfl rfl rfl))<|zT rfl rfl (fun hc13=>zt.step (zK underlying26 rfl rfl sizeOf3 rfl))<|zT rfl rfl (fun hc14=>zt.step (zN isAgg3 (z5 rfl hc14) rfl rfl rfl))<|zT rfl rfl (fun hc15=>zt.step (zAl (z5 rfl hc15) (z5 rfl hc15)))<|zA (zd rfl rfl)<|zA (zB rfl) ?_
 refine zT rfl rfl (fun hc16=>zt.step (zK underlying26 rfl rfl sizeOf23 rfl))<|zT rfl rfl (fun hc17=>zt.step (zN isAgg23 (z5 rfl hc17) rfl rfl rfl))<|zT rfl rfl (fun hc18=>zt.step (zX underlying23 (z5 rfl hc18)))<|zT rfl rfl (fun hc19=>zt.step (ze (z5 rfl hc19) rfl))<|zA (zd rfl rfl)<|zA (zB rfl) ?_
 refine zT rfl rfl (fun hc20=>zt.step (zK underlying26 rfl rfl sizeOf23 rfl))<|zT rfl rfl (fun hc21=>zt.step (zN isAgg23 (z5 rfl hc21) rfl rfl rfl))<|zT rfl rfl (fun hc22=>zt.step (zX underlying23 (z5 rfl hc22)))<|zT rfl rfl (fun hc23=>zt.step (zAl (z5 rfl hc23) rfl))<|zA (zd rfl rfl)<|zF ?_
 refine zY h rfl (fun hb1 h => ?_) (fun hb1 h => ?_)
 ·refine zI<|zC<|zA (zD rfl)<|zF<|zb ?_
  show zAQ _ _ _ _ _ _
  obtain rfl:=Option.some.inj h
  exact zu (zAM rfl rfl)
 ·refine zP<|zI<|zC<|zA (zK underlying26 rfl rfl sizeOf22 rfl)<|zA (zN isAgg22 rfl rfl rfl rfl)<|zR h fun x1 hx1 h => ?_
  refine zAw (r':=(AV.lit (.bool x1))) (la:=[ls cI a_a.nodes,(AV.clo 84 [])]) (la':=[ls cI a_a.nodes,(AV.clo 84 [])]) (r:=(AV.lit (.bool x1))) (S:=[]) func83 rfl (by kernel_rfl) (.fn 83) rfl ⟨zAt.nr rfl,zAt.clo trivial,trivial⟩ (zGw func84 rfl (by kernel_rfl) rfl (fun hy=>zJc  hy) hx1) (.inl rfl) rfl<|zA (zA6 (t:=x1) rfl)<|zA (zD rfl)<|zF<|zb ?_
  show zAQ _ _ _ _ _ _
  obtain rfl:=Option.some.inj h
  exact zu (zAM rfl rfl)
theorem zKB {a_z:zp} {r:Bool} (h:zF5 a_z=some r):PFn prog 85 [(AV.agg ([li a_z.node]++([li a_z.kind]++([li a_z.start]++([li a_z.count]++([li a_z.min]++([AV.any,AV.any,AV.any,AV.any,AV.any]++[])))))))] (AV.lit (.bool r)):=by
 refine zq func85 rfl ntmps85 results85 rfl ?_
 unfold zF5 at h
 refine zI<|zC<|za (H':=[.box 51 ([li a_z.node,li a_z.kind,li a_z.start,li a_z.count,li a_z.min]++([AV.any,AV.any,AV.any,AV.any,AV.any]++[]))]) (zw (t:=51) rfl)<|zA (zD rfl)<|zF<|zI ?_
 refine zC<|zA (zK underlying51 rfl rfl sizeOf3 rfl)<|zA (zN isAgg3 rfl rfl rfl rfl)<|zA (zAp rfl rfl)<|zA (zB rfl)<|zo rfl rfl (fun hc1=>zt.step (zK underlying51 rfl rfl sizeOf3 rfl)) ?_
 refine zo rfl rfl (fun hc2=>zt.step (zN isAgg3 (z5 rfl hc2) rfl rfl rfl))<|zo rfl rfl (fun hc3=>zt.step (ze (z5 rfl hc3) rfl))<|zA (zz (j := .lit undef) rfl rfl)<|zA (zB rfl)<|zo rfl rfl (fun hc4=>zt.step (zK underlying51 rfl rfl sizeOf3 rfl))<|zo rfl rfl (fun hc5=>zt.step (zN isAgg3 (z5 rfl hc5) rfl rfl rfl)) ?_
 refine zo rfl rfl (fun hc6=>zt.step (zBR (z5 rfl hc6) rfl))<|zo rfl rfl (fun hc7=>zt.step (zB (z5 rfl hc7)))<|zJX (g:=15) (s':=(decide (0≤a_z.node))&&(decide (a_z.node<4))) (s:=decide (a_z.kind=0)) rfl rfl (fun hc8=>zt.step (zK underlying51 rfl rfl sizeOf3 rfl))<|zJX (g:=15) (s':=(decide (0≤a_z.node))&&(decide (a_z.node<4))) (s:=decide (a_z.kind=0)) rfl rfl (fun hc9=>zt.step (zN isAgg3 (z5 rfl hc9) rfl rfl rfl))<|zJX (g:=15) (s':=(decide (0≤a_z.node))&&(decide (a_z.node<4))) (s:=decide (a_z.kind=0)) rfl rfl (fun hc10=>zt.step (zBR (z5 rfl hc10) rfl))<|zo rfl rfl (fun hc11=>zt.step (zd (z5 rfl hc11) (zOI (c:=(decide (0≤a_z.node))&&(decide (a_z.node<4))) (d := !(decide (a_z.kind=0))) (a:=(AV.lit (.bool (decide (a_z.kind=1))))) (j := .lit undef) rfl hc11))) ?_
 refine zA (zz (j := .lit undef) rfl rfl)<|zA (zB rfl)<|zo rfl rfl (fun hc12=>zt.step (zK underlying51 rfl rfl sizeOf3 rfl))<|zo rfl rfl (fun hc13=>zt.step (zN isAgg3 (z5 rfl hc13) rfl rfl rfl))<|zo rfl rfl (fun hc14=>zt.step (zAp (z5 rfl hc14) rfl))<|zA (zz (j := .lit undef) rfl rfl) ?_
 refine zA (zB rfl)<|zo rfl rfl (fun hc15=>zt.step (zK underlying51 rfl rfl sizeOf3 rfl))<|zo rfl rfl (fun hc16=>zt.step (zN isAgg3 (z5 rfl hc16) rfl rfl rfl))<|zo rfl rfl (fun hc17=>zt.step (ze (z5 rfl hc17) rfl))<|zA (zz (j := .lit undef) rfl rfl)<|zA (zB rfl) ?_
 refine zo rfl rfl (fun hc18=>zt.step (zK underlying51 rfl rfl sizeOf3 rfl))<|zo rfl rfl (fun hc19=>zt.step (zN isAgg3 (z5 rfl hc19) rfl rfl rfl))<|zo rfl rfl (fun hc20=>zt.step (zAp (z5 rfl hc20) rfl))<|zA (zz (j := .lit undef) rfl rfl)<|zA (zB rfl)<|zo rfl rfl (fun hc21=>zt.step (zK underlying51 rfl rfl sizeOf3 rfl)) ?_
 refine zo rfl rfl (fun hc22=>zt.step (zN isAgg3 (z5 rfl hc22) rfl rfl rfl))<|zo rfl rfl (fun hc23=>zt.step (zK underlying51 rfl rfl sizeOf3 rfl))<|zo rfl rfl (fun hc24=>zt.step (zN isAgg3 (z5 rfl hc24) rfl rfl rfl))<|zM h fun hb1 h=>zo rfl rfl (fun hc25=>zt.step (zB8 rfl (z5 rfl hc25) (zGd hb1 hc25)))<|zo rfl rfl (fun hc26=>zt.step (zCi (z5 rfl hc26) (z5 rfl hc26))) ?_
 refine zA (zz (j := .lit undef) rfl rfl)<|zA (zB rfl)<|zo rfl rfl (fun hc27=>zt.step (zK underlying51 rfl rfl sizeOf3 rfl))<|zo rfl rfl (fun hc28=>zt.step (zN isAgg3 (z5 rfl hc28) rfl rfl rfl))<|zo rfl rfl (fun hc29=>zt.step (zAp (z5 rfl hc29) rfl))<|zA (zz (j := .lit undef) rfl rfl) ?_
 refine zA (zB rfl)<|zo rfl rfl (fun hc30=>zt.step (zK underlying51 rfl rfl sizeOf3 rfl))<|zo rfl rfl (fun hc31=>zt.step (zN isAgg3 (z5 rfl hc31) rfl rfl rfl))<|zo rfl rfl (fun hc32=>zt.step (zK underlying51 rfl rfl sizeOf3 rfl))<|zo rfl rfl (fun hc33=>zt.step (zN isAgg3 (z5 rfl hc33) rfl rfl rfl))<|zo rfl rfl (fun hc34=>zt.step (zCi (z5 rfl hc34) (z5 rfl hc34))) ?_
 refine zA (zz (j := .lit undef) rfl rfl)<|zA (zD rfl)<|zF<|zb ?_
 show zAQ _ _ _ _ _ _
 obtain rfl:=Option.some.inj h
 exact zu (zAM rfl rfl)
theorem zFu {a_x:Int} {r:Bool} (h:zD9 a_x=some r):PFn prog 137 [li a_x] (AV.lit (.bool r)):=by
 refine zq func137 rfl ntmps137 results137 rfl ?_
 unfold zD9 at h
 refine zI<|zC<|zA (zD rfl)<|zF<|zI<|zC ?_
 refine zA (zB rfl)<|zA (zB rfl)<|zA (z7 rfl rfl)<|zA (zD rfl)<|zF<|zb ?_
 show zAQ _ _ _ _ _ _
 obtain rfl:=Option.some.inj h
 exact zu (zAM rfl rfl)
theorem zMA {a_x:Int} {a_y:Int} {r:Bool} (h:zHQ a_x a_y=some r):PFn prog 131 [li a_x,li a_y] (AV.lit (.bool r)):=by
 refine zq func131 rfl ntmps131 results131 rfl ?_
 unfold zHQ at h
 refine zI<|zC<|zA (zD rfl)<|zF<|zI<|zC ?_
 refine zA (zB rfl)<|zR h fun x1 hx1 h=>zi func137 rfl (by kernel_rfl) (.fn 137) rfl rfl (zFu hx1) rfl<|zA (zB rfl)<|zo rfl rfl (fun hc1=>zt.step (zB rfl))<|zR h fun x2 hx2 h => ?_
 refine zCp (g:=7) (s:=x1) (r':=(AV.lit (.bool x2))) rfl rfl (fun hc2=>⟨137,_,_,[],[li a_y],[li a_y],(AV.lit (.bool x2)),[],func137,rfl,by kernel_rfl,.fn 137,(zAK (z5 rfl hc2) rfl),⟨zAt.nr rfl,trivial⟩,zFu (zF3 hc2 hx2),.inl rfl,rfl⟩)<|zo rfl rfl (fun hc3=>zt.step (zA6 (t:=x2) (z5 rfl hc3)))<|zA (zz (j := .lit undef) rfl rfl)<|zA (zB rfl)<|zT rfl rfl (fun hc4=>zt.step (zB rfl))<|zT rfl rfl (fun hc5=>zt.step (zB rfl)) ?_
 refine zT rfl rfl (fun hc6=>zt.step (ze (z5 rfl hc6) (z5 rfl hc6)))<|zA (zd rfl rfl)<|zA (zD rfl)<|zF<|zb ?_
 show zAQ _ _ _ _ _ _
 obtain rfl:=Option.some.inj h
 exact zu (zAM rfl rfl)
theorem zIO {a_x:Int} {r:Bool} (h:zEY a_x=some r):PFn prog 132 [li a_x] (AV.lit (.bool r)):=by
 refine zq func132 rfl ntmps132 results132 rfl ?_
 unfold zEY at h
 refine zI<|zC<|zA (zD rfl)<|zF<|zI<|zC ?_
 refine zA (zB rfl)<|zA (zB rfl)<|zA (z7 rfl rfl)<|zA (zD rfl)<|zF<|zb ?_
 show zAQ _ _ _ _ _ _
 obtain rfl:=Option.some.inj h
 exact zu (zAM rfl rfl)
theorem zAz {a_x:List Int} {a_target:Int} {r:Int×Bool} (h:zAW a_x a_target=some r):PFn prog 87 [ls cI a_x,li a_target] (AV.tup [li r.1,(AV.lit (.bool r.2))]):=by
 refine zq func87 rfl ntmps87 results87 rfl ?_
 unfold zAW at h
 refine zI<|zC<|zA (zD rfl)<|zA (zD rfl)<|zF<|zI ?_
 refine zC<|zA (zB rfl)<|zA (zX underlying22 rfl)<|zA (zD rfl)<|zF<|zI ?_
 refine zC<|zA (zB rfl)<|zA (zD rfl)<|zA (zD rfl)<|zF ?_
 refine zx (fun e' H' => ∃ (i1:Int),Rep 54 0 e' H' (mkE [(0,(ls cI a_x)),(1,(li a_target)),(6,(li (a_x.length:Int))),(7,(li i1))]) []∧zAy a_x a_target i1=some r) ?_ ?_
 ·
  refine zQ<|z6 (σ:=Nat×Int×Int) (fun s=>s.1) (fun s e' H'=>match s with | (n0,i2,i3)=>Rep 54 0 e' H' (mkE [(0,(ls cI a_x)),(1,(li a_target)),(6,(li (a_x.length:Int))),(7,(li i2)),(8,(li i3))]) []∧zAv a_x a_target n0 i2 i3=some r) (z9,0,(a_x.length:Int)) ⟨zAE [] rfl rfl (by kernel_rfl),h⟩ ?_
  clear h
  rintro ⟨n0,i2,i3⟩ e' H' ⟨hrep,h⟩
  cases n0 with
  | zero=>exact absurd (show (none:Option _)=some r from h) (by simp)
  | succ n0 =>
   replace h:zAZ a_x a_target (zAv a_x a_target n0) i2 i3=some r:=h
   unfold zAZ at h
   refine zV hrep ?_
   clear hrep
   refine zI<|zI<|zC<|zA (zB rfl)<|zA (zB rfl)<|zA (ze rfl rfl) ?_
   refine zF ?_
   refine zY h rfl (fun hb3 h => ?_) (fun hb3 h => ?_)
   ·refine zP<|zQ<|zI<|zC<|zA (zB rfl)<|zA (zB rfl) ?_
    refine zM h fun hb4 h=>zA (zf rfl rfl hb4)<|zM h fun hb5 h=>zA (zGX (k' := .u64) (a:=i2+i3) underlying3 underlying74 rfl hb5)<|zA (zSV (k := .u64) (a:=i2+i3) (b:=1) rfl rfl (by decide))<|zM h fun hb6 h => ?_
    refine zA (zGX (k' := .i64) (a:=(i2+i3).fdiv (2 ^ (1:Int).toNat)) underlying74 underlying3 rfl hb6)<|zA (zD rfl)<|zF<|zI<|zC<|zA (zB rfl) ?_
    refine zA (zB rfl)<|zM h fun hb7 h=>zA (zU underlying22 sizeOf3 (fun _=>rfl) rfl rfl hb7)<|zA (zW (o:=0) isAgg3 rfl rfl)<|zA (zB rfl)<|zR h fun x3 hx3 h => ?_
    refine zi func131 rfl (by kernel_rfl) (.fn 131) rfl rfl (zMA hx3) rfl<|zF ?_
    refine zY h rfl (fun hb8 h => ?_) (fun hb8 h => ?_)
    ·refine zC<|zA (zB rfl)<|zM h fun hb9 h=>zA (zf rfl rfl hb9)<|zA (zD rfl)<|zF ?_
     exact ⟨(n0,(((i2+i3).fdiv (2 ^ (1:Int).toNat))+1),i3),Nat.lt_succ_self _,zAE [] rfl rfl (by kernel_rfl),h⟩
    ·refine zC<|zA (zB rfl)<|zA (zD rfl)<|zF ?_
     exact ⟨(n0,i2,((i2+i3).fdiv (2 ^ (1:Int).toNat))),Nat.lt_succ_self _,zAE [] rfl rfl (by kernel_rfl),h⟩
   ·refine zy ?_
    exact ⟨i2,zAE [] rfl rfl (by kernel_rfl),h⟩
 ·
  clear h
  rintro e' H' ⟨i1,hrep,h⟩
  refine zV hrep ?_
  clear hrep
  unfold zAy at h
  refine zI<|zC<|zA (zB rfl)<|zA (zB rfl)<|zA (zB rfl)<|zA (ze rfl rfl) ?_
  refine zA (zB rfl)<|zo rfl rfl (fun hc1=>zt.step (zB rfl))<|zo rfl rfl (fun hc2=>zt.step (zB rfl))<|zM h fun hb1 h=>zo rfl rfl (fun hc3=>zt.step (zU underlying22 sizeOf3 (fun _=>rfl) (z5 rfl hc3) (z5 rfl hc3) (zGd hb1 hc3)))<|zo rfl rfl (fun hc4=>zt.step (zW (o:=0) isAgg3 (z5 rfl hc4) rfl)) ?_
  refine zo rfl rfl (fun hc5=>zt.step (zB rfl))<|zo rfl rfl (fun hc6=>zt.step (zBR (z5 rfl hc6) (z5 rfl hc6)))<|zo rfl rfl (fun hc7=>zt.step (zB (z5 rfl hc7)))<|zJX (g:=42) (s':=decide (i1<(a_x.length:Int))) (s:=decide ((at_ a_x i1)=a_target)) rfl rfl (fun hc8=>zt.step (zB rfl))<|zJX (g:=42) (s':=decide (i1<(a_x.length:Int))) (s:=decide ((at_ a_x i1)=a_target)) rfl rfl (fun hc9=>zt.step (zB rfl))<|zM h fun hb2 h => ?_
  refine zJX (g:=42) (s':=decide (i1<(a_x.length:Int))) (s:=decide ((at_ a_x i1)=a_target)) rfl rfl (fun hc10=>zt.step (zU underlying22 sizeOf3 (fun _=>rfl) (z5 rfl hc10) (z5 rfl hc10) (zGd hb2 hc10)))<|zJX (g:=42) (s':=decide (i1<(a_x.length:Int))) (s:=decide ((at_ a_x i1)=a_target)) rfl rfl (fun hc11=>zt.step (zW (o:=0) isAgg3 (z5 rfl hc11) rfl))<|zR h fun x1 hx1 h=>zO2 (g:=42) (s':=decide (i1<(a_x.length:Int))) (s:=decide ((at_ a_x i1)=a_target)) (r':=(AV.lit (.bool x1))) rfl rfl (fun hc12=>⟨132,_,_,[],[(li (at_ a_x i1))],[(li (at_ a_x i1))],(AV.lit (.bool x1)),[],func132,rfl,by kernel_rfl,.fn 132,(zAK (z5 rfl hc12) rfl),⟨zAt.nr rfl,trivial⟩,zIO (zF3 hc12 hx1),.inl rfl,rfl⟩)<|zJX (g:=42) (s':=decide (i1<(a_x.length:Int))) (s:=decide ((at_ a_x i1)=a_target)) rfl rfl (fun hc13=>zt.step (zB (z5 rfl hc13)))<|zKg (g:=48) (s':=(decide (i1<(a_x.length:Int)) && !(decide ((at_ a_x i1)=a_target)))) (s:=x1) rfl rfl (fun hc14=>zt.step (zB rfl)) ?_
  refine zR h fun x2 hx2 h=>zMf (g:=48) (s':=(decide (i1<(a_x.length:Int)) && !(decide ((at_ a_x i1)=a_target)))) (s:=x1) (r':=(AV.lit (.bool x2))) rfl rfl (fun hc15=>⟨132,_,_,[],[li a_target],[li a_target],(AV.lit (.bool x2)),[],func132,rfl,by kernel_rfl,.fn 132,(zAK (z5 rfl hc15) rfl),⟨zAt.nr rfl,trivial⟩,zIO (zF3 hc15 hx2),.inl rfl,rfl⟩)<|zJX (g:=42) (s':=decide (i1<(a_x.length:Int))) (s:=decide ((at_ a_x i1)=a_target)) rfl rfl (fun hc16=>zt.step (zz (j := .lit undef) (z5 rfl hc16) (zOI (c:=(decide (i1<(a_x.length:Int)) && !(decide ((at_ a_x i1)=a_target)))) (d:=x1) (a:=(AV.lit (.bool x2))) (j := .lit undef) rfl hc16)))<|zo rfl rfl (fun hc17=>zt.step (zd (z5 rfl hc17) (zOI (c:=decide (i1<(a_x.length:Int))) (d := !(decide ((at_ a_x i1)=a_target))) (a:=(AV.lit (.bool (x1&&x2)))) (j := .lit undef) rfl hc17)))<|zA (zz (j := .lit undef) rfl rfl)<|zA (zD rfl) ?_
  refine zA (zD rfl)<|zF<|zb ?_
  show zAQ _ _ _ _ _ _
  obtain rfl:=Option.some.inj h
  exact zCR (zAM rfl rfl) (zAM rfl rfl) rfl
theorem zFO {a_z:zp} {a_frame:Int} {a_order:Int} {r:Bool} (h:zB7 a_z a_frame a_order=some r):PFn prog 86 [(AV.agg ([li a_z.node]++([li a_z.kind]++([li a_z.start]++([li a_z.count]++([li a_z.min]++([AV.any,AV.any,AV.any,AV.any,AV.any]++[]))))))),li a_frame,li a_order] (AV.lit (.bool r)):=by
 refine zq func86 rfl ntmps86 results86 rfl ?_
 unfold zB7 at h
 refine zI<|zC<|za (H':=[.box 51 ([li a_z.node,li a_z.kind,li a_z.start,li a_z.count,li a_z.min]++([AV.any,AV.any,AV.any,AV.any,AV.any]++[]))]) (zw (t:=51) rfl)<|zA (zD rfl)<|zF<|zI ?_
 refine zC<|zA (zB rfl)<|zM h fun hb1 h=>zM h fun hb2 h=>zA (zDI (a:=1) (b:=a_order) rfl rfl hb1 hb2)<|zA (zD rfl) ?_
 refine zF<|zI<|zC<|zA (zB rfl)<|zA (zK underlying51 rfl rfl sizeOf3 rfl)<|zA (zN isAgg3 rfl rfl rfl rfl) ?_
 refine zA (zAp rfl rfl)<|zA (zB rfl)<|zo rfl rfl (fun hc1=>zt.step (zB rfl))<|zo rfl rfl (fun hc2=>zt.step (zB rfl))<|zM h fun hb3 h=>zo rfl rfl (fun hc3=>zt.step (zPd (k := .i64) (a:=a_frame) (b:=(1:Int)*2 ^ a_order.toNat) (z5 rfl hc3) (z5 rfl hc3) (zGd hb3 hc3))) ?_
 refine zo rfl rfl (fun hc4=>zt.step (zBR (z5 rfl hc4) rfl))<|zA (zz (j := .lit undef) rfl rfl)<|zA (zB rfl)<|zo rfl rfl (fun hc5=>zt.step (zB rfl))<|zo rfl rfl (fun hc6=>zt.step (zK underlying51 rfl rfl sizeOf3 rfl))<|zo rfl rfl (fun hc7=>zt.step (zN isAgg3 (z5 rfl hc7) rfl rfl rfl)) ?_
 refine zo rfl rfl (fun hc8=>zt.step (zCi (z5 rfl hc8) (z5 rfl hc8)))<|zA (zz (j := .lit undef) rfl rfl)<|zA (zB rfl)<|zo rfl rfl (fun hc9=>zt.step (zB rfl))<|zo rfl rfl (fun hc10=>zt.step (zK underlying51 rfl rfl sizeOf3 rfl))<|zo rfl rfl (fun hc11=>zt.step (zN isAgg3 (z5 rfl hc11) rfl rfl rfl)) ?_
 refine zo rfl rfl (fun hc12=>zt.step (zK underlying51 rfl rfl sizeOf3 rfl))<|zo rfl rfl (fun hc13=>zt.step (zN isAgg3 (z5 rfl hc13) rfl rfl rfl))<|zM h fun hb4 h=>zo rfl rfl (fun hc14=>zt.step (zf (z5 rfl hc14) (z5 rfl hc14) (zGd hb4 hc14)))<|zo rfl rfl (fun hc15=>zt.step (zB rfl))<|zM h fun hb5 h => ?_
 refine zo rfl rfl (fun hc16=>zt.step (zB8 (z5 rfl hc16) (z5 rfl hc16) (zGd hb5 hc16)))<|zo rfl rfl (fun hc17=>zt.step (zCi (z5 rfl hc17) (z5 rfl hc17)))<|zA (zz (j := .lit undef) rfl rfl)<|zA (zD rfl)<|zF<|zb ?_
 show zAQ _ _ _ _ _ _
 obtain rfl:=Option.some.inj h
 exact zu (zAM rfl rfl)
theorem zLg {a_p0:zp} {a_p1:Int} {a_p2:Int} {r:zp} (h:zJC a_p0 a_p1 a_p2=some r):AFn prog 125 [AV.ptr 0 0,li a_p1,li a_p2] [.box 51 ([li a_p0.node]++([li a_p0.kind]++([li a_p0.start]++([li a_p0.count]++([li a_p0.min]++((cM 5 3 (5:Int) a_p0.free)++[]))))))] (.tup []) [.box 51 ([li r.node]++([li r.kind]++([li r.start]++([li r.count]++([li r.min]++((cM 5 3 (5:Int) r.free)++[]))))))]:=by
 refine zF6 func125 rfl ntmps125 results125 rfl ?_
 unfold zJC at h
 refine zx (fun e' H' => ∃ (i1:Int) (i2:Int) (l1:List (List Int)),Rep 88 1 e' H' (mkE [(0,(AV.ptr 0 0)),(1,(li i1)),(2,(li i2))]) [.box 51 ([li a_p0.node,li a_p0.kind,li a_p0.start,li a_p0.count,li a_p0.min]++((cM 5 3 (5:Int) l1)++[]))]∧zF7 a_p0 i1 i2 l1=some r) ?_ ?_
 ·
  refine zQ<|z6 (σ:=Nat×Int×Int×(List (List Int))) (fun s=>s.1) (fun s e' H'=>match s with | (n0,i3,i4,l2)=>Rep 88 1 e' H' (mkE [(0,(AV.ptr 0 0)),(1,(li i3)),(2,(li i4))]) [.box 51 ([li a_p0.node,li a_p0.kind,li a_p0.start,li a_p0.count,li a_p0.min]++((cM 5 3 (5:Int) l2)++[]))]∧zHS a_p0 n0 i3 i4 l2=some r) (z9,a_p1,a_p2,a_p0.free) ⟨zAE [0] rfl rfl (by kernel_rfl),h⟩ ?_
  clear h
  rintro ⟨n0,i3,i4,l2⟩ e' H' ⟨hrep,h⟩
  cases n0 with
  | zero=>exact absurd (show (none:Option _)=some r from h) (by simp)
  | succ n0 =>
   replace h:zE7 a_p0 (zHS a_p0 n0) i3 i4 l2=some r:=h
   unfold zE7 at h
   refine zV hrep ?_
   clear hrep
   refine zI<|zI<|zC<|zA (zB rfl)<|zA (ze rfl rfl)<|zF ?_
   refine zY h rfl (fun hb4 h => ?_) (fun hb4 h => ?_)
   ·refine zP<|zQ<|zI<|zC<|zA (zB rfl)<|zA (zB rfl) ?_
    refine zM h fun hb5 h=>zM h fun hb6 h=>zA (zDI (a:=1) (b:=i4) rfl rfl hb5 hb6)<|zA (zP5 (k := .i64) (a:=i3) (b:=(1:Int)*2 ^ i4.toNat) rfl rfl)<|zA (zD rfl)<|zF ?_
    refine zI<|zC<|zA (zB rfl)<|zA (zB rfl)<|zA (zAU rfl)<|zA (zK underlying51 rfl rfl sizeOf49 rfl) ?_
    refine zM h fun hb7 h=>zA (zAO (m:=5) (s:=1) (i:=i4) (k:=0) (o:=5) underlying49 sizeOf22 rfl rfl hb7)<|zM h fun hb8 h=>zAF (zJD (k:=0) (cs:=([li a_p0.node,li a_p0.kind,li a_p0.start,li a_p0.count,li a_p0.min]++((cM 5 3 (5:Int) l2)++[]))) (hd:=([li a_p0.node]++[li a_p0.kind]++[li a_p0.start]++[li a_p0.count]++[li a_p0.min]++[])) (tl:=([])) (N:=5) (T:=3) (K:=5) (l:=l2) (i:=i4) rfl rfl hb7 hb8)<|zA (zEd (k:=0) (o:=(5+i4.toNat*1)) (cs:=([li a_p0.node,li a_p0.kind,li a_p0.start,li a_p0.count,li a_p0.min]++((List.set (cM 5 3 (5:Int) l2) i4.toNat (AV.hd 1))++[]))) (hd:=([li a_p0.node]++[li a_p0.kind]++[li a_p0.start]++[li a_p0.count]++[li a_p0.min]++[])) (tl:=([])) (s:=(cM 5 3 (5:Int) l2)) (i:=i4) (j:=1) isAgg22 rfl rfl rfl (congrArg (fun q=>5+q) (Nat.mul_one _)) (zHu hb7))<|zA (zB rfl) ?_
    refine zR h fun x2 hx2 h=>zAw (r':=(AV.tup [li x2.1,(AV.lit (.bool x2.2))])) (la:=[AV.hd 1,(li (zLO .xor .i64 i3 ((1:Int)*2 ^ i4.toNat)))]) (la':=[(ls cI (l2.getD i4.toNat [])),(li (zLO .xor .i64 i3 ((1:Int)*2 ^ i4.toNat)))]) (r:=(AV.tup [li x2.1,(AV.lit (.bool x2.2))])) (S:=[1]) func87 rfl (by kernel_rfl) (.fn 87) rfl ⟨zIZ (fun _=>rfl) rfl rfl,zAt.nr rfl,trivial⟩ (zAz hx2) (.inr rfl) rfl<|zA (zB rfl)<|zA (zg rfl rfl)<|zA (zg rfl rfl)<|zA (zD rfl) ?_
    refine zA (zD rfl)<|zF<|zI<|zI<|zC<|zA (zB rfl) ?_
    refine zA (zA6 (t:=x2.2) rfl)<|zA (zB rfl)<|zT rfl rfl (fun hc1=>zt.step (zB rfl))<|zT rfl rfl (fun hc2=>zt.step (zAU (z5 rfl hc2)))<|zAF (zIy (j:=1) (l':=l2.getD i4.toNat []) (k:=0) (cs:=([li a_p0.node,li a_p0.kind,li a_p0.start,li a_p0.count,li a_p0.min]++((List.set (cM 5 3 (5:Int) l2) i4.toNat (AV.hd 1))++[]))) (hd:=([li a_p0.node]++[li a_p0.kind]++[li a_p0.start]++[li a_p0.count]++[li a_p0.min]++[])) (tl:=([])) (N:=5) (T:=3) (K:=5) (l:=l2) (i:=i4) rfl rfl hb7 hb8 rfl rfl)<|zT rfl rfl (fun hc3=>zt.step (zMz (k:=0) (o:=0) (m:=10) (la:=([li a_p0.node,li a_p0.kind,li a_p0.start,li a_p0.count,li a_p0.min]++([AV.any,AV.any,AV.any,AV.any,AV.any]++[]))) isAgg51 sizeOf51 (z5 rfl hc3) rfl rfl rfl)) ?_
    refine zT rfl rfl (fun hc4=>zt.step (zB rfl))<|zT rfl rfl (fun hc5=>zt.step (zB rfl))<|zT rfl rfl (fun hc6=>zt.step (zNU (a:=i3) (b:=zLO .xor .i64 i3 ((1:Int)*2 ^ i4.toNat)) (z5 rfl hc6) (z5 rfl hc6)))<|zT rfl rfl (fun hc7=>zt.step (zB rfl))<|zM h fun hb9 h=>zT rfl rfl (fun hc8=>zt.step (zf (z5 rfl hc8) rfl (zGd hb9 hc8))) ?_
    refine zR h fun x3 hx3 h=>zCA (g:=30) (s := !x2.2) (r':=(AV.lit (.bool x3))) rfl rfl (fun hc9=>⟨86,_,_,[],[(AV.agg ([li a_p0.node,li a_p0.kind,li a_p0.start,li a_p0.count,li a_p0.min]++([AV.any,AV.any,AV.any,AV.any,AV.any]++[]))),(li (min i3 (zLO .xor .i64 i3 ((1:Int)*2 ^ i4.toNat)))),(li (i4+1))],[(AV.agg ([(li ((⟨a_p0.node,a_p0.kind,a_p0.start,a_p0.count,a_p0.min,zDo 5 [] l2 i4.toNat (l2.getD i4.toNat [])⟩:zp).node)),(li ((⟨a_p0.node,a_p0.kind,a_p0.start,a_p0.count,a_p0.min,zDo 5 [] l2 i4.toNat (l2.getD i4.toNat [])⟩:zp).kind)),(li ((⟨a_p0.node,a_p0.kind,a_p0.start,a_p0.count,a_p0.min,zDo 5 [] l2 i4.toNat (l2.getD i4.toNat [])⟩:zp).start)),(li ((⟨a_p0.node,a_p0.kind,a_p0.start,a_p0.count,a_p0.min,zDo 5 [] l2 i4.toNat (l2.getD i4.toNat [])⟩:zp).count)),(li ((⟨a_p0.node,a_p0.kind,a_p0.start,a_p0.count,a_p0.min,zDo 5 [] l2 i4.toNat (l2.getD i4.toNat [])⟩:zp).min))]++([AV.any,AV.any,AV.any,AV.any,AV.any]++[]))),(li (min i3 (zLO .xor .i64 i3 ((1:Int)*2 ^ i4.toNat)))),(li (i4+1))],(AV.lit (.bool x3)),[],func86,rfl,by kernel_rfl,.fn 86,(zAK (z5 rfl hc9) (zAK (z5 rfl hc9) (zAK (z5 rfl hc9) rfl))),⟨zAt.nr rfl,zAt.nr rfl,zAt.nr rfl,trivial⟩,zFO (zF3 hc9 hx3),.inl rfl,rfl⟩)<|zT rfl rfl (fun hc10=>zt.step (zA6 (t:=x3) (z5 rfl hc10)))<|zA (zd rfl rfl)<|zF ?_
    refine zY h rfl (fun hb10 h => ?_) (fun hb10 h => ?_)
    ·refine zy ?_
     exact ⟨i3,i4,(zDo 5 [] l2 i4.toNat (l2.getD i4.toNat [])),zAE [0] rfl rfl (by kernel_rfl),h⟩
    ·refine zP<|zI<|zV (zJD (k:=0) (cs:=([li a_p0.node,li a_p0.kind,li a_p0.start,li a_p0.count,li a_p0.min]++((cM 5 3 (5:Int) (zDo 5 [] l2 i4.toNat (l2.getD i4.toNat [])))++[]))) (hd:=([li a_p0.node]++[li a_p0.kind]++[li a_p0.start]++[li a_p0.count]++[li a_p0.min]++[])) (tl:=([])) (N:=5) (T:=3) (K:=5) (l:=zDo 5 [] l2 i4.toNat (l2.getD i4.toNat [])) (i:=i4) rfl rfl hb7 hb8)<|zM h fun hb11 h=>zM h fun hb12 h => ?_
     show AW _ _ _ _ _ _ [.box 51 ([li a_p0.node,li a_p0.kind,li a_p0.start,li a_p0.count,li a_p0.min]++((List.set (cM 5 3 (5:Int) (zDo 5 [] l2 i4.toNat (l2.getD i4.toNat []))) i4.toNat (AV.hd 2))++[])),.dead,.vec 3 1 (List.map cI ((zDo 5 [] l2 i4.toNat (l2.getD i4.toNat [])).getD i4.toNat []))]
     refine zAx (n:=88) (m:=1) [.head 0 1,.head 0 1,.head 0 0,.head 0 0,.head 0 0,.head 0 0,.head 0 0,.head 0 0,.head 0 0,.head 0 0,.head 0 0,.tail 0,.head 0 1,.head 0 1,.head 1 1,.tail 1] [11,15] [AV.ptr 0 0,li i4,AV.ptr 0 0,li i4,AV.ptr 0 0,AV.ptr 0 5,(AV.ptr 0 (5+i4.toNat*1)),AV.hd 2,li x2.1,li x2.1,(li (x2.1+1)),AV.hd 3,AV.ptr 0 0,AV.ptr 0 5,(AV.ptr 0 (5+i4.toNat*1)),.any] [[.box 51 ([li a_p0.node,li a_p0.kind,li a_p0.start,li a_p0.count,li a_p0.min]++((List.set (cM 5 3 (5:Int) (zDo 5 [] l2 i4.toNat (l2.getD i4.toNat []))) i4.toNat (AV.hd 2))++[])),.dead,.vec 3 1 (List.map cI ((zDo 5 [] l2 i4.toNat (l2.getD i4.toNat [])).getD i4.toNat []))],[.box 51 ([li a_p0.node,li a_p0.kind,li a_p0.start,li a_p0.count,li a_p0.min]++((List.set (cM 5 3 (5:Int) (zDo 5 [] l2 i4.toNat (l2.getD i4.toNat []))) i4.toNat (AV.hd 2))++[])),.dead,.dead,.vec 3 1 (List.map cI (zSn ((zDo 5 [] l2 i4.toNat (l2.getD i4.toNat [])).getD i4.toNat []) x2.1))],[.box 51 ([li a_p0.node,li a_p0.kind,li a_p0.start,li a_p0.count,li a_p0.min]++((List.set (cM 5 3 (5:Int) (zDo 5 [] l2 i4.toNat (l2.getD i4.toNat []))) i4.toNat (AV.hd 3))++[])),.dead,.dead,.vec 3 1 (List.map cI (zSn ((zDo 5 [] l2 i4.toNat (l2.getD i4.toNat [])).getD i4.toNat []) x2.1))]] (by kernel_rfl) (by kernel_rfl) ⟨⟨?_,?_⟩,⟨?_,?_⟩,?_,?_,?_,?_,?_,?_,?_,?_,?_,?_,⟨?_,?_⟩,⟨?_,?_⟩,?_,?_,trivial⟩ ?_
     ·exact D1 fun e s p=>zB (s 0 rfl)
     ·exact D1 fun e s p=>zB (s 0 rfl)
     ·exact D1 fun e s p=>zB (s 2 rfl)
     ·exact D1 fun e s p=>zB (s 2 rfl)
     ·exact D1 fun e s p=>zB (s 0 rfl)
     ·exact D1 fun e s p=>zB (s 2 rfl)
     ·exact D1 fun e s p=>zAU p.1
     ·exact D1 fun e s p=>zK (k:=0) (o:=0) (off:=5) underlying51 rfl rfl sizeOf49 p.1
     ·exact D1 fun e s p=>zAO (m:=5) (s:=1) (i:=i4) (k:=0) (o:=5) underlying49 sizeOf22 p.1 p.2.1 hb7
     ·exact D1 fun e s p=>zEd (k:=0) (o:=(5+i4.toNat*1)) (cs:=([li a_p0.node,li a_p0.kind,li a_p0.start,li a_p0.count,li a_p0.min]++((List.set (cM 5 3 (5:Int) (zDo 5 [] l2 i4.toNat (l2.getD i4.toNat []))) i4.toNat (AV.hd 2))++[]))) (hd:=([li a_p0.node]++[li a_p0.kind]++[li a_p0.start]++[li a_p0.count]++[li a_p0.min]++[])) (tl:=([])) (s:=(cM 5 3 (5:Int) (zDo 5 [] l2 i4.toNat (l2.getD i4.toNat [])))) (i:=i4) (j:=2) isAgg22 p.1 rfl rfl (congrArg (fun q=>5+q) (Nat.mul_one _)) (zHu hb7)
     ·exact D1 fun e s p=>zB (s 7 rfl)
     ·exact D1 fun e s p=>zB (s 7 rfl)
     ·exact D1 fun e s p=>zf (a:=x2.1) (b:=1) p.1 rfl hb11
     ·
      intro e46 hs46 hp45
      refine zQN (k:=2) (l:=(zDo 5 [] l2 i4.toNat (l2.getD i4.toNat [])).getD i4.toNat []) (i:=x2.1) (q:=x2.1+1) (fun a b=>zT5 a b) func130 rfl (by kernel_rfl) hp45.1 rfl hp45.2.1 hp45.2.2.1 hb12 ?_
      exact zF ⟨fun _=>rfl,rfl⟩
     ·exact D1 fun e s p=>zAU p.1
     ·exact D1 fun e s p=>zAU p.1
     ·exact D1 fun e s p=>zK (k:=0) (o:=0) (off:=5) underlying51 rfl rfl sizeOf49 p.1
     ·exact D1 fun e s p=>zK (k:=0) (o:=0) (off:=5) underlying51 rfl rfl sizeOf49 p.1
     ·exact D1 fun e s p=>zAO (m:=5) (s:=1) (i:=i4) (k:=0) (o:=5) underlying49 sizeOf22 p.1 p.2.2.2.1 hb7
     ·
      intro e52 hs52 hp51
      refine zm (H':=[.box 51 ([li a_p0.node,li a_p0.kind,li a_p0.start,li a_p0.count,li a_p0.min]++((List.set (cM 5 3 (5:Int) (zDo 5 [] l2 i4.toNat (l2.getD i4.toNat []))) i4.toNat (AV.hd 3))++[])),.dead,.dead,.vec 3 1 (List.map cI (zSn ((zDo 5 [] l2 i4.toNat (l2.getD i4.toNat [])).getD i4.toNat []) x2.1))]) (zHW (k:=0) (o:=(5+i4.toNat*1)) (cs:=([li a_p0.node,li a_p0.kind,li a_p0.start,li a_p0.count,li a_p0.min]++((List.set (cM 5 3 (5:Int) (zDo 5 [] l2 i4.toNat (l2.getD i4.toNat []))) i4.toNat (AV.hd 2))++[]))) (hd:=([li a_p0.node]++[li a_p0.kind]++[li a_p0.start]++[li a_p0.count]++[li a_p0.min]++[])) (tl:=([])) (s:=(cM 5 3 (5:Int) (zDo 5 [] l2 i4.toNat (l2.getD i4.toNat [])))) (i:=i4) (a:=(AV.hd 3)) sizeOf22 (by exact hp51.1) rfl rfl (congrArg (fun q=>5+q) (Nat.mul_one _)) (zHu hb7) (by exact hp51.2.2.2.2.2.2.2.2.2.2.2.2.2.2.1) rfl) ?_
      exact zF ⟨fun _=>rfl,rfl⟩
     intro e53 hs53 hq2
     refine zV (zBY (l:=[(0,(AV.ptr 0 0)),(1,(li i3)),(2,(li i4)),(6,(li (zLO .xor .i64 i3 ((1:Int)*2 ^ i4.toNat))))]) ⟨hs53 0 rfl,hs53 1 rfl,hs53 2 rfl,hs53 6 rfl,trivial⟩)<|zI<|zC<|zA (zB (av:=(li i3)) rfl)<|zA (zB (av:=(li (zLO .xor .i64 i3 ((1:Int)*2 ^ i4.toNat)))) rfl)<|zA (zNU (a:=i3) (b:=zLO .xor .i64 i3 ((1:Int)*2 ^ i4.toNat)) rfl rfl) ?_
     refine zA (zD rfl)<|zF<|zC<|zA (zB rfl)<|zM h fun hb13 h=>zA (zf rfl rfl hb13) ?_
     refine zA (zD rfl)<|zF ?_
     exact ⟨(n0,(min i3 (zLO .xor .i64 i3 ((1:Int)*2 ^ i4.toNat))),(i4+1),(zDo 5 [] (zDo 5 [] l2 i4.toNat (l2.getD i4.toNat [])) i4.toNat (zSn ((zDo 5 [] l2 i4.toNat (l2.getD i4.toNat [])).getD i4.toNat []) x2.1))),Nat.lt_succ_self _,Rep.trans (zIy (j:=3) (l':=zSn ((zDo 5 [] l2 i4.toNat (l2.getD i4.toNat [])).getD i4.toNat []) x2.1) (k:=0) (cs:=([li a_p0.node,li a_p0.kind,li a_p0.start,li a_p0.count,li a_p0.min]++((List.set (cM 5 3 (5:Int) (zDo 5 [] l2 i4.toNat (l2.getD i4.toNat []))) i4.toNat (AV.hd 3))++[]))) (hd:=([li a_p0.node]++[li a_p0.kind]++[li a_p0.start]++[li a_p0.count]++[li a_p0.min]++[])) (tl:=([])) (N:=5) (T:=3) (K:=5) (l:=zDo 5 [] l2 i4.toNat (l2.getD i4.toNat [])) (i:=i4) rfl rfl hb7 hb8 rfl rfl) (zAE [0] (l:=[(0,(AV.ptr 0 0)),(1,(li (min i3 (zLO .xor .i64 i3 ((1:Int)*2 ^ i4.toNat))))),(2,(li (i4+1)))]) rfl rfl (by kernel_rfl)),h⟩
   ·refine zy ?_
    exact ⟨i3,i4,l2,zAE [0] rfl rfl (by kernel_rfl),h⟩
 ·
  clear h
  rintro e' H' ⟨i1,i2,l1,hrep,h⟩
  refine zV hrep ?_
  clear hrep
  unfold zF7 at h
  refine zI<|zC<|zA (zB rfl)<|zA (zB rfl)<|zA (zAU rfl)<|zA (zK underlying51 rfl rfl sizeOf49 rfl) ?_
  refine zM h fun hb1 h=>zA (zAO (m:=5) (s:=1) (i:=i2) (k:=0) (o:=5) underlying49 sizeOf22 rfl rfl hb1)<|zM h fun hb2 h=>zAF (zJD (k:=0) (cs:=([li a_p0.node,li a_p0.kind,li a_p0.start,li a_p0.count,li a_p0.min]++((cM 5 3 (5:Int) l1)++[]))) (hd:=([li a_p0.node]++[li a_p0.kind]++[li a_p0.start]++[li a_p0.count]++[li a_p0.min]++[])) (tl:=([])) (N:=5) (T:=3) (K:=5) (l:=l1) (i:=i2) rfl rfl hb1 hb2)<|zA (zEd (k:=0) (o:=(5+i2.toNat*1)) (cs:=([li a_p0.node,li a_p0.kind,li a_p0.start,li a_p0.count,li a_p0.min]++((List.set (cM 5 3 (5:Int) l1) i2.toNat (AV.hd 1))++[]))) (hd:=([li a_p0.node]++[li a_p0.kind]++[li a_p0.start]++[li a_p0.count]++[li a_p0.min]++[])) (tl:=([])) (s:=(cM 5 3 (5:Int) l1)) (i:=i2) (j:=1) isAgg22 rfl rfl rfl (congrArg (fun q=>5+q) (Nat.mul_one _)) (zHu hb1))<|zA (zB rfl) ?_
  refine zR h fun x1 hx1 h=>zAw (r':=(AV.tup [li x1.1,(AV.lit (.bool x1.2))])) (la:=[AV.hd 1,li i1]) (la':=[(ls cI (l1.getD i2.toNat [])),li i1]) (r:=(AV.tup [li x1.1,(AV.lit (.bool x1.2))])) (S:=[1]) func87 rfl (by kernel_rfl) (.fn 87) rfl ⟨zIZ (fun _=>rfl) rfl rfl,zAt.nr rfl,trivial⟩ (zAz hx1) (.inr rfl) rfl<|zA (zB rfl)<|zA (zg rfl rfl)<|zA (zg rfl rfl)<|zA (zD rfl) ?_
  refine zA (zD rfl)<|zF<|zM h fun hb3 h => ?_
  show AW _ _ _ _ _ _ [.box 51 ([li a_p0.node,li a_p0.kind,li a_p0.start,li a_p0.count,li a_p0.min]++((List.set (cM 5 3 (5:Int) l1) i2.toNat (AV.hd 1))++[])),.vec 3 1 (List.map cI (l1.getD i2.toNat []))]
  refine zAx (n:=88) (m:=1) [.head 0 2,.head 0 2,.head 0 1,.head 0 1,.head 0 1,.head 0 1,.head 0 1,.head 0 1,.head 0 1,.head 0 0,.tail 0,.tail 1,.head 0 2,.head 0 2,.head 2 2,.tail 2] [10,11,15] [AV.ptr 0 0,li i2,AV.ptr 0 0,li i2,AV.ptr 0 0,AV.ptr 0 5,(AV.ptr 0 (5+i2.toNat*1)),AV.hd 1,li x1.1,li i1,AV.hd 2,AV.hd 3,AV.ptr 0 0,AV.ptr 0 5,(AV.ptr 0 (5+i2.toNat*1)),.any] [[.box 51 ([li a_p0.node,li a_p0.kind,li a_p0.start,li a_p0.count,li a_p0.min]++((List.set (cM 5 3 (5:Int) l1) i2.toNat (AV.hd 1))++[])),.vec 3 1 (List.map cI (l1.getD i2.toNat []))],[.box 51 ([li a_p0.node,li a_p0.kind,li a_p0.start,li a_p0.count,li a_p0.min]++((List.set (cM 5 3 (5:Int) l1) i2.toNat (AV.hd 1))++[])),.vec 3 1 (List.map cI (l1.getD i2.toNat [])),.vec 3 1 (List.map cI [i1])],[.box 51 ([li a_p0.node,li a_p0.kind,li a_p0.start,li a_p0.count,li a_p0.min]++((List.set (cM 5 3 (5:Int) l1) i2.toNat (AV.hd 1))++[])),.dead,.vec 3 1 (List.map cI [i1]),.vec 3 1 (List.map cI (zQT (l1.getD i2.toNat []) x1.1 i1))],[.box 51 ([li a_p0.node,li a_p0.kind,li a_p0.start,li a_p0.count,li a_p0.min]++((List.set (cM 5 3 (5:Int) l1) i2.toNat (AV.hd 3))++[])),.dead,.vec 3 1 (List.map cI [i1]),.vec 3 1 (List.map cI (zQT (l1.getD i2.toNat []) x1.1 i1))]] (by kernel_rfl) (by kernel_rfl) ⟨⟨?_,?_,?_⟩,⟨?_,?_,?_⟩,⟨?_,?_⟩,⟨?_,?_⟩,⟨?_,?_⟩,⟨?_,?_⟩,⟨?_,?_⟩,⟨?_,?_⟩,⟨?_,?_⟩,?_,?_,?_,⟨?_,?_,?_⟩,⟨?_,?_,?_⟩,?_,?_,trivial⟩ ?_
  ·exact D1 fun e s p=>zB (s 0 rfl)
  ·exact D1 fun e s p=>zB (s 0 rfl)
  ·exact D1 fun e s p=>zB (s 0 rfl)
  ·exact D1 fun e s p=>zB (s 2 rfl)
  ·exact D1 fun e s p=>zB (s 2 rfl)
  ·exact D1 fun e s p=>zB (s 2 rfl)
  ·exact D1 fun e s p=>zB (s 0 rfl)
  ·exact D1 fun e s p=>zB (s 0 rfl)
  ·exact D1 fun e s p=>zB (s 2 rfl)
  ·exact D1 fun e s p=>zB (s 2 rfl)
  ·exact D1 fun e s p=>zAU p.1
  ·exact D1 fun e s p=>zAU p.1
  ·exact D1 fun e s p=>zK (k:=0) (o:=0) (off:=5) underlying51 rfl rfl sizeOf49 p.1
  ·exact D1 fun e s p=>zK (k:=0) (o:=0) (off:=5) underlying51 rfl rfl sizeOf49 p.1
  ·exact D1 fun e s p=>zAO (m:=5) (s:=1) (i:=i2) (k:=0) (o:=5) underlying49 sizeOf22 p.1 p.2.1 hb1
  ·exact D1 fun e s p=>zAO (m:=5) (s:=1) (i:=i2) (k:=0) (o:=5) underlying49 sizeOf22 p.1 p.2.1 hb1
  ·exact D1 fun e s p=>zEd (k:=0) (o:=(5+i2.toNat*1)) (cs:=([li a_p0.node,li a_p0.kind,li a_p0.start,li a_p0.count,li a_p0.min]++((List.set (cM 5 3 (5:Int) l1) i2.toNat (AV.hd 1))++[]))) (hd:=([li a_p0.node]++[li a_p0.kind]++[li a_p0.start]++[li a_p0.count]++[li a_p0.min]++[])) (tl:=([])) (s:=(cM 5 3 (5:Int) l1)) (i:=i2) (j:=1) isAgg22 p.1 rfl rfl (congrArg (fun q=>5+q) (Nat.mul_one _)) (zHu hb1)
  ·exact D1 fun e s p=>zEd (k:=0) (o:=(5+i2.toNat*1)) (cs:=([li a_p0.node,li a_p0.kind,li a_p0.start,li a_p0.count,li a_p0.min]++((List.set (cM 5 3 (5:Int) l1) i2.toNat (AV.hd 1))++[]))) (hd:=([li a_p0.node]++[li a_p0.kind]++[li a_p0.start]++[li a_p0.count]++[li a_p0.min]++[])) (tl:=([])) (s:=(cM 5 3 (5:Int) l1)) (i:=i2) (j:=1) isAgg22 p.1 rfl rfl (congrArg (fun q=>5+q) (Nat.mul_one _)) (zHu hb1)
  ·exact D1 fun e s p=>zB (s 9 rfl)
  ·exact D1 fun e s p=>zB (s 9 rfl)
  ·exact D1 fun e s p=>zB (s 1 rfl)
  ·
   intro e22 hs22 hp22
   refine zGP (a:=(li i1)) zGe underlying22 hp22.1 rfl rfl rfl ?_
   exact zF ⟨fun _=>rfl,rfl⟩
  ·
   intro e23 hs23 hp23
   refine zM2 (k:=1) (j:=2) (l:=l1.getD i2.toNat []) (i:=x1.1) (q:=i1) (fun a b c d e=>zQo a b c d e) func119 rfl (by kernel_rfl) hp23.1 rfl hp23.2.1 hp23.2.2.1 rfl rfl hb3 ?_
   exact zF ⟨fun _=>rfl,rfl⟩
  ·exact D1 fun e s p=>zAU p.1
  ·exact D1 fun e s p=>zAU p.1
  ·exact D1 fun e s p=>zAU p.1
  ·exact D1 fun e s p=>zK (k:=0) (o:=0) (off:=5) underlying51 rfl rfl sizeOf49 p.1
  ·exact D1 fun e s p=>zK (k:=0) (o:=0) (off:=5) underlying51 rfl rfl sizeOf49 p.1
  ·exact D1 fun e s p=>zK (k:=0) (o:=0) (off:=5) underlying51 rfl rfl sizeOf49 p.1
  ·exact D1 fun e s p=>zAO (m:=5) (s:=1) (i:=i2) (k:=0) (o:=5) underlying49 sizeOf22 p.1 p.2.2.2.1 hb1
  ·
   intro e31 hs31 hp31
   refine zm (H':=[.box 51 ([li a_p0.node,li a_p0.kind,li a_p0.start,li a_p0.count,li a_p0.min]++((List.set (cM 5 3 (5:Int) l1) i2.toNat (AV.hd 3))++[])),.dead,.vec 3 1 (List.map cI [i1]),.vec 3 1 (List.map cI (zQT (l1.getD i2.toNat []) x1.1 i1))]) (zHW (k:=0) (o:=(5+i2.toNat*1)) (cs:=([li a_p0.node,li a_p0.kind,li a_p0.start,li a_p0.count,li a_p0.min]++((List.set (cM 5 3 (5:Int) l1) i2.toNat (AV.hd 1))++[]))) (hd:=([li a_p0.node]++[li a_p0.kind]++[li a_p0.start]++[li a_p0.count]++[li a_p0.min]++[])) (tl:=([])) (s:=(cM 5 3 (5:Int) l1)) (i:=i2) (a:=(AV.hd 3)) sizeOf22 (by exact hp31.1) rfl rfl (congrArg (fun q=>5+q) (Nat.mul_one _)) (zHu hb1) (by exact hp31.2.2.2.2.2.2.2.2.2.2.2.2.2.2.1) rfl) ?_
   exact zF ⟨fun _=>rfl,rfl⟩
  intro e32 hs32 hq1
  show zQU _ _ _ _ _ _ _ _
  obtain rfl:=Option.some.inj h
  exact ⟨mkE [],[.box 51 ([li a_p0.node,li a_p0.kind,li a_p0.start,li a_p0.count,li a_p0.min]++((cM 5 3 (5:Int) (zDo 5 [] l1 i2.toNat (zQT (l1.getD i2.toNat []) x1.1 i1)))++[]))],Rep.trans (zBY (l:=[]) trivial) (Rep.trans (zIy (j:=3) (l':=zQT (l1.getD i2.toNat []) x1.1 i1) (k:=0) (cs:=([li a_p0.node,li a_p0.kind,li a_p0.start,li a_p0.count,li a_p0.min]++((List.set (cM 5 3 (5:Int) l1) i2.toNat (AV.hd 3))++[]))) (hd:=([li a_p0.node]++[li a_p0.kind]++[li a_p0.start]++[li a_p0.count]++[li a_p0.min]++[])) (tl:=([])) (N:=5) (T:=3) (K:=5) (l:=l1) (i:=i2) rfl rfl hb1 hb2 rfl rfl) (zAE [0] (l:=[]) rfl rfl (by kernel_rfl))),zLf rfl⟩
theorem zOZ {a_node:Int} {a_kind:Int} {a_start:Int} {a_count:Int} {a_least:Int} {r:zp×Int} (h:zMP a_node a_kind a_start a_count a_least=some r):PFn prog 81 [li a_node,li a_kind,li a_start,li a_count,li a_least] (AV.tup [(AV.agg (zO r.1)),li r.2]):=by
 refine zq func81 rfl ntmps81 results81 rfl ?_
 unfold zMP at h
 refine zI<|zC<|za (H':=[.box 51 ([li 0]++([li 0]++([li 0]++([li 0]++([li 0]++((cA 5 (eS cI) ([]:List Int) (List.replicate 5 ([]:List Int)))++[]))))))]) (zv (t:=51) (vs:=[.int .i64 0,.int .i64 0,.int .i64 0,.int .i64 0,.int .i64 0,.slice none 0 0,.slice none 0 0,.slice none 0 0,.slice none 0 0,.slice none 0 0]) (cs:=[.lit (.int .i64 0),.lit (.int .i64 0),.lit (.int .i64 0),.lit (.int .i64 0),.lit (.int .i64 0),.sl false [],.sl false [],.sl false [],.sl false [],.sl false []]) zeroValue51 (by kernel_rfl) rfl ⟨zh.refl _,zh.refl _,zh.refl _,zh.refl _,zh.refl _,zh.nils,zh.nils,zh.nils,zh.nils,zh.nils,trivial⟩)<|zA (zD rfl)<|zF<|zI ?_
 refine zC<|zA (zB rfl)<|zA (zB rfl)<|zA (zB rfl)<|zA (zB rfl)<|zA (zB rfl) ?_
 refine zA (z8 (pl:=[(0,1),(1,1),(2,1),(3,1),(4,1),(5,5)]) (zs:=[.int .i64 0,.int .i64 0,.int .i64 0,.int .i64 0,.int .i64 0,.slice none 0 0,.slice none 0 0,.slice none 0 0,.slice none 0 0,.slice none 0 0]) (zc:=[.lit (.int .i64 0),.lit (.int .i64 0),.lit (.int .i64 0),.lit (.int .i64 0),.lit (.int .i64 0),.osl 3 1 [],.osl 3 1 [],.osl 3 1 [],.osl 3 1 [],.osl 3 1 []]) (res:=([li a_node]++([li a_kind]++([li a_start]++([li a_count]++([li a_least]++((cM 5 3 (5:Int) (List.replicate 5 ([]:List Int)))++[]))))))) (fun _=>by kernel_rfl) rfl (⟨zh.refl _,⟨zh.refl _,⟨zh.refl _,⟨zh.refl _,⟨zh.refl _,⟨zh.nilo,⟨zh.nilo,⟨zh.nilo,⟨zh.nilo,⟨zh.nilo,trivial⟩⟩⟩⟩⟩⟩⟩⟩⟩⟩) ⟨li a_node,0,1,rfl,rfl,rfl,rfl,rfl,⟨li a_kind,1,1,rfl,rfl,rfl,rfl,rfl,⟨li a_start,2,1,rfl,rfl,rfl,rfl,rfl,⟨li a_count,3,1,rfl,rfl,rfl,rfl,rfl,⟨li a_least,4,1,rfl,rfl,rfl,rfl,rfl,(by exact zFX.refl _)⟩⟩⟩⟩⟩)<|za (H':=[.box 51 ([li 0]++([li 0]++([li 0]++([li 0]++([li 0]++((cA 5 (eS cI) ([]:List Int) (List.replicate 5 ([]:List Int)))++[])))))),.box 51 ([li 0]++([li 0]++([li 0]++([li 0]++([li 0]++((cA 5 (eS cI) ([]:List Int) (List.replicate 5 ([]:List Int)))++[]))))))]) (zv (t:=51) (vs:=[.int .i64 0,.int .i64 0,.int .i64 0,.int .i64 0,.int .i64 0,.slice none 0 0,.slice none 0 0,.slice none 0 0,.slice none 0 0,.slice none 0 0]) (cs:=[.lit (.int .i64 0),.lit (.int .i64 0),.lit (.int .i64 0),.lit (.int .i64 0),.lit (.int .i64 0),.sl false [],.sl false [],.sl false [],.sl false [],.sl false []]) zeroValue51 (by kernel_rfl) rfl ⟨zh.refl _,zh.refl _,zh.refl _,zh.refl _,zh.refl _,zh.nils,zh.nils,zh.nils,zh.nils,zh.nils,trivial⟩)<|zm (H':=[.box 51 ([li 0]++([li 0]++([li 0]++([li 0]++([li 0]++((cA 5 (eS cI) ([]:List Int) (List.replicate 5 ([]:List Int)))++[])))))),.box 51 ([li a_node]++([li a_kind]++([li a_start]++([li a_count]++([li a_least]++((cM 5 3 (5:Int) (List.replicate 5 ([]:List Int)))++[]))))))]) (zZ (k:=1) (o:=0) (cs:=([li 0]++([li 0]++([li 0]++([li 0]++([li 0]++((cA 5 (eS cI) ([]:List Int) (List.replicate 5 ([]:List Int)))++[]))))))) (la:=([li a_node]++([li a_kind]++([li a_start]++([li a_count]++([li a_least]++((cM 5 3 (5:Int) (List.replicate 5 ([]:List Int)))++[]))))))) sizeOf51 rfl rfl rfl rfl)<|zF<|zI<|zI ?_
 refine zC<|zA (zMz (k:=1) (o:=0) (m:=10) (la:=([li a_node]++([li a_kind]++([li a_start]++([li a_count]++([li a_least]++([AV.any,AV.any,AV.any,AV.any,AV.any]++[]))))))) isAgg51 sizeOf51 rfl rfl rfl rfl)<|zR h fun x1 hx1 h=>zAw (r':=(AV.lit (.bool x1))) (la:=[(AV.agg ([li a_node]++([li a_kind]++([li a_start]++([li a_count]++([li a_least]++([AV.any,AV.any,AV.any,AV.any,AV.any]++[])))))))]) (la':=[(AV.agg ([(li ((⟨a_node,a_kind,a_start,a_count,a_least,(List.replicate 5 ([]:List Int))⟩:zp).node))]++([(li ((⟨a_node,a_kind,a_start,a_count,a_least,(List.replicate 5 ([]:List Int))⟩:zp).kind))]++([(li ((⟨a_node,a_kind,a_start,a_count,a_least,(List.replicate 5 ([]:List Int))⟩:zp).start))]++([(li ((⟨a_node,a_kind,a_start,a_count,a_least,(List.replicate 5 ([]:List Int))⟩:zp).count))]++([(li ((⟨a_node,a_kind,a_start,a_count,a_least,(List.replicate 5 ([]:List Int))⟩:zp).min))]++([AV.any,AV.any,AV.any,AV.any,AV.any]++[])))))))]) (r:=(AV.lit (.bool x1))) (S:=[]) func85 rfl (by kernel_rfl) (.fn 85) rfl ⟨zAt.nr rfl,trivial⟩ (zKB hx1) (.inl rfl) rfl<|zA (zA6 (t:=x1) rfl)<|zF ?_
 refine zY h rfl (fun hb1 h => ?_) (fun hb1 h => ?_)
 ·refine zI<|zC<|zA (z8 (pl:=[(0,1),(1,1),(2,1),(3,1),(4,1),(5,5)]) (zs:=[.int .i64 0,.int .i64 0,.int .i64 0,.int .i64 0,.int .i64 0,.slice none 0 0,.slice none 0 0,.slice none 0 0,.slice none 0 0,.slice none 0 0]) (zc:=[.lit (.int .i64 0),.lit (.int .i64 0),.lit (.int .i64 0),.lit (.int .i64 0),.lit (.int .i64 0),.osl 3 1 [],.osl 3 1 [],.osl 3 1 [],.osl 3 1 [],.osl 3 1 []]) (res:=([li 0]++([li 0]++([li 0]++([li 0]++([li 0]++((cM 5 3 (5:Int) (List.replicate 5 ([]:List Int)))++[]))))))) (fun _=>by kernel_rfl) rfl (⟨zh.refl _,⟨zh.refl _,⟨zh.refl _,⟨zh.refl _,⟨zh.refl _,⟨zh.nilo,⟨zh.nilo,⟨zh.nilo,⟨zh.nilo,⟨zh.nilo,trivial⟩⟩⟩⟩⟩⟩⟩⟩⟩⟩) (by exact zFX.refl _))<|zm (H':=[.box 51 ([li 0]++([li 0]++([li 0]++([li 0]++([li 0]++((cM 5 3 (5:Int) (List.replicate 5 ([]:List Int)))++[])))))),.box 51 ([li a_node]++([li a_kind]++([li a_start]++([li a_count]++([li a_least]++((cM 5 3 (5:Int) (List.replicate 5 ([]:List Int)))++[]))))))]) (zZ (k:=0) (o:=0) (cs:=([li 0]++([li 0]++([li 0]++([li 0]++([li 0]++((cA 5 (eS cI) ([]:List Int) (List.replicate 5 ([]:List Int)))++[]))))))) (la:=([li 0]++([li 0]++([li 0]++([li 0]++([li 0]++((cM 5 3 (5:Int) (List.replicate 5 ([]:List Int)))++[]))))))) sizeOf51 rfl rfl rfl rfl)<|zA (zD rfl)<|zF ?_
  refine zV (zJj (k:=0) (cs:=([li 0]++([li 0]++([li 0]++([li 0]++([li 0]++((cM 5 3 (5:Int) (List.replicate 5 ([]:List Int)))++[]))))))) (hd:=([li 0]++[li 0]++[li 0]++[li 0]++[li 0]++[])) (tl:=([])) (N:=5) (T:=3) (K:=5) (l:=(List.replicate 5 ([]:List Int))) rfl rfl)<|zb ?_
  show zAQ _ _ _ _ _ _
  obtain rfl:=Option.some.inj h
  exact zCR (zFa isAgg51 sizeOf51 rfl rfl rfl rfl) (zAM rfl rfl) rfl
 ·refine zP ?_
  refine zx (fun e' H' => ∃ (d1:Int) (d2:Int) (d3:Int) (d4:Int) (d5:Int) (l1:List (List Int)),Rep 35 0 e' H' (mkE [(10,(AV.ptr 0 0)),(12,(AV.ptr 1 0))]) [.box 51 ([li 0]++([li 0]++([li 0]++([li 0]++([li 0]++((cA 5 (eS cI) ([]:List Int) (List.replicate 5 ([]:List Int)))++[])))))),.box 51 ([li d1]++([li d2]++([li d3]++([li d4]++([li d5]++((cM 5 3 (5:Int) l1)++[]))))))]∧zJ5 d1 d2 d3 d4 d5 l1=some r) ?_ ?_
  ·
   refine zI<|zC<|zA (zB rfl)<|zA (zD rfl)<|zF<|zQ ?_
   refine z6 (σ:=Nat×Int×Int×Int×Int×Int×Int×(List (List Int))) (fun s=>s.1) (fun s e' H'=>match s with | (n0,i1,d6,d7,d8,d9,d10,l2)=>Rep 35 0 e' H' (mkE [(2,(li a_start)),(3,(li a_count)),(10,(AV.ptr 0 0)),(12,(AV.ptr 1 0)),(13,(li i1))]) [.box 51 ([li 0]++([li 0]++([li 0]++([li 0]++([li 0]++((cA 5 (eS cI) ([]:List Int) (List.replicate 5 ([]:List Int)))++[])))))),.box 51 ([li d6]++([li d7]++([li d8]++([li d9]++([li d10]++((cM 5 3 (5:Int) l2)++[]))))))]∧zIb a_start a_count n0 i1 d6 d7 d8 d9 d10 l2=some r) (z9,a_start,a_node,a_kind,a_start,a_count,a_least,(List.replicate 5 ([]:List Int))) ⟨zAE [0,1] rfl rfl (by kernel_rfl),h⟩ ?_
   clear h
   rintro ⟨n0,i1,d6,d7,d8,d9,d10,l2⟩ e' H' ⟨hrep,h⟩
   cases n0 with
   | zero=>exact absurd (show (none:Option _)=some r from h) (by simp)
   | succ n0 =>
    replace h:zJ3 a_start a_count (zIb a_start a_count n0) i1 d6 d7 d8 d9 d10 l2=some r:=h
    unfold zJ3 at h
    refine zV hrep ?_
    clear hrep
    refine zI<|zI<|zC<|zA (zB rfl)<|zA (zB rfl)<|zA (zB rfl) ?_
    refine zM h fun hb2 h=>zA (zf rfl rfl hb2)<|zA (ze rfl rfl)<|zF ?_
    refine zY h rfl (fun hb3 h => ?_) (fun hb3 h => ?_)
    ·refine zP<|zI<|zQ<|zC<|zA (zB rfl)<|zR h fun x2 hx2 h => ?_
     refine zDw (k:=1) (la:=[AV.ptr 1 0,li i1,li 0]) (la':=[AV.ptr 0 0,li i1,li 0]) (r:=(.tup [])) (S:=[]) (en' := .box 51 ([li x2.node]++([li x2.kind]++([li x2.start]++([li x2.count]++([li x2.min]++((cM 5 3 (5:Int) x2.free)++[]))))))) func125 rfl (by kernel_rfl) (.fn 125) rfl ⟨zCe.ptr,zCe.of (zAt.nr rfl),zCe.of (zAt.nr rfl),trivial⟩ rfl rfl (by kernel_rfl) (by kernel_rfl) (zLg hx2) rfl (.inl rfl)<|zF<|zC<|zA (zB rfl)<|zM h fun hb4 h=>zA (zf rfl rfl hb4) ?_
     refine zA (zD rfl)<|zF ?_
     exact ⟨(n0,(i1+1),x2.node,x2.kind,x2.start,x2.count,x2.min,x2.free),Nat.lt_succ_self _,zAE [0,1] rfl rfl (by kernel_rfl),h⟩
    ·refine zy ?_
     exact ⟨d6,d7,d8,d9,d10,l2,zAE [0,1] rfl rfl (by kernel_rfl),h⟩
  ·
   clear h
   rintro e' H' ⟨d1,d2,d3,d4,d5,l1,hrep,h⟩
   refine zV hrep ?_
   clear hrep
   unfold zJ5 at h
   refine zI<|zC<|zAF (zJj (k:=1) (cs:=([li d1]++([li d2]++([li d3]++([li d4]++([li d5]++((cM 5 3 (5:Int) l1)++[]))))))) (hd:=([li d1]++[li d2]++[li d3]++[li d4]++[li d5]++[])) (tl:=([])) (N:=5) (T:=3) (K:=5) (l:=l1) rfl rfl)<|zA (zS (k:=1) (o:=0) (m:=10) isAgg51 sizeOf51 rfl rfl rfl rfl rfl)<|zm (H':=[.box 51 (zO (⟨d1,d2,d3,d4,d5,l1⟩:zp)),.box 51 ([li d1]++([li d2]++([li d3]++([li d4]++([li d5]++((cA 5 (eS cI) ([]:List Int) l1)++[]))))))]) (zZ (k:=0) (o:=0) (cs:=([li 0]++([li 0]++([li 0]++([li 0]++([li 0]++((cA 5 (eS cI) ([]:List Int) (List.replicate 5 ([]:List Int)))++[]))))))) (la:=(zO (⟨d1,d2,d3,d4,d5,l1⟩:zp))) sizeOf51 rfl rfl rfl rfl)<|zA (zD rfl) ?_
   refine zF<|zb ?_
   show zAQ _ _ _ _ _ _
   obtain rfl:=Option.some.inj h
   exact zCR (zFa isAgg51 sizeOf51 rfl rfl rfl rfl) (zAM rfl rfl) rfl
theorem zNk {a_zones:Int} {r:zL×Int} (h:zLJ a_zones=some r):PFn prog 82 [li a_zones] (AV.tup [(AV.agg (zH r.1)),li r.2]):=by
 refine zq func82 rfl ntmps82 results82 rfl ?_
 unfold zLJ at h
 refine zI<|zC<|za (H':=[.box 55 [(ls (cS cI) ([]:List (List Int)))]]) (zv (t:=55) (vs:=[.slice none 0 0]) (cs:=[.sl false []]) zeroValue55 (by kernel_rfl) rfl ⟨zh.nils,trivial⟩)<|zA (zD rfl)<|zF<|zI ?_
 refine zI<|zC<|zA (zB rfl)<|zA (ze rfl rfl)<|zA (zB rfl)<|zT rfl rfl (fun hc1=>zt.step (zB rfl)) ?_
 refine zT rfl rfl (fun hc2=>zt.step (zAl (z5 rfl hc2) rfl))<|zA (zd rfl rfl)<|zF ?_
 refine zY h rfl (fun hb1 h => ?_) (fun hb1 h => ?_)
 ·refine zI<|zC<|zA (z8 (pl:=[(0,1)]) (zs:=[.slice none 0 0]) (zc:=[.sl false []]) (res:=(zH (⟨([]:List (List Int))⟩:zL))) (fun _=>by kernel_rfl) rfl (⟨zh.nils,trivial⟩) (by exact zFX.refl _))<|zm (H':=[.box 55 (zH (⟨([]:List (List Int))⟩:zL))]) (zZ (k:=0) (o:=0) (cs:=[(ls (cS cI) ([]:List (List Int)))]) (la:=(zH (⟨([]:List (List Int))⟩:zL))) sizeOf55 rfl rfl rfl rfl)<|zA (zD rfl)<|zF ?_
  refine zb ?_
  show zAQ _ _ _ _ _ _
  obtain rfl:=Option.some.inj h
  exact zCR (zFa isAgg55 sizeOf55 rfl rfl rfl rfl) (zAM rfl rfl) rfl
 ·refine zP<|zI<|zC<|zA (zB rfl)<|zM h fun hb2 h=>zDy (f:=(cS cI)) (a:=a_zones) (c:=a_zones) (d0:=([]:List Int)) zM0 ⟨zh.nils,trivial⟩ rfl underlying53 rfl rfl hb2 ?_
  refine zA (z8 (pl:=[(0,1)]) (zs:=[.slice none 0 0]) (zc:=[.sl false []]) (res:=[AV.hd 1]) (fun _=>by kernel_rfl) rfl (⟨zh.nils,trivial⟩) ⟨AV.hd 1,0,1,rfl,rfl,rfl,rfl,rfl,(by exact zFX.refl _)⟩)<|zm (H':=[.box 55 [AV.hd 1],.vec 22 1 (List.map (cS cI) (List.replicate a_zones.toNat ([]:List Int)))]) (zZ (k:=0) (o:=0) (cs:=[(ls (cS cI) ([]:List (List Int)))]) (la:=[AV.hd 1]) sizeOf55 rfl rfl rfl rfl)<|zA (zD rfl)<|zF<|zV (zAJ (k:=0) (j:=1) (o:=0) rfl rfl rfl rfl)<|zV (zBb (k:=0) (o:=0) (rows':=List.map (cS cI) (List.replicate a_zones.toNat ([]:List Int))) rfl rfl (zAP (fun _=>rfl))) ?_
  refine zb ?_
  show zAQ _ _ _ _ _ _
  obtain rfl:=Option.some.inj h
  exact zCR (zFa isAgg55 sizeOf55 rfl rfl rfl rfl) (zAM rfl rfl) rfl
theorem zLo {a_p0:List Int} {a_p1:Int} {a_p2:Int} {a_p3:List zBt} {r:zJ×Int} (h:zGg a_p0 a_p1 a_p2 a_p3=some r):PFn prog 36 [ls cI a_p0,li a_p1,li a_p2,ls zAf a_p3] (AV.tup [(AV.agg (zG r.1)),li r.2]):=by
 refine zq func36 rfl ntmps36 results36 rfl ?_
 unfold zGg at h
 refine zI<|zC<|za (H':=[.box 26 (zG ⟨[],0,0,[],[]⟩)]) (zv (t:=26) (vs:=[.slice none 0 0,.int .i64 0,.int .i64 0,.slice none 0 0,.slice none 0 0]) (cs:=[.sl false [],.lit (.int .i64 0),.lit (.int .i64 0),.sl false [],.sl false []]) zeroValue26 (by kernel_rfl) rfl ⟨zh.nils,zh.refl _,zh.refl _,zh.nils,zh.nils,trivial⟩)<|zA (zD rfl)<|zF ?_
 refine zx (fun e' H' => ∃ (d1:List Int),Rep 82 0 e' H' (mkE [(0,(ls cI a_p0)),(3,(ls zAf a_p3)),(8,(AV.ptr 0 0)),(10,(AV.ptr 1 0))]) [.box 26 (zG ⟨[],0,0,[],[]⟩),.box 26 [ls cI d1,li a_p1,li a_p2,AV.osl 51 10 (List.map zO (List.replicate (a_p3.length:Int).toNat (zJ8))),AV.osl 55 1 (List.map zH ([]:List zL))]]∧zHn a_p0 a_p1 a_p2 a_p3 d1=some r) ?_ ?_
 ·
  refine zR h fun x4 hx4 h=>zM h fun hb11 h => ?_
  show AW _ _ _ _ _ _ [.box 26 (zG ⟨[],0,0,[],[]⟩)]
  refine zRt (n:=82) (m:=0) 6 8 [9] [6,7,8] [.head 0 2,.head 0 2,.head 0 2,.head 0 2,.head 0 0,.head 0 0,.tail 0,.head 1 2,.tail 1,.tail 2] [.head 0 2,.head 0 2,.head 0 2,.head 0 2,.head 0 1,.head 0 1,.tail 1,.head 2 2,.tail 0,.tail 2] [ls cI a_p0,ls cI x4,li a_p1,li a_p2,ls zAf a_p3,(li (a_p3.length:Int)),AV.hd 1,(AV.agg [ls cI x4,li a_p1,li a_p2,AV.hd 1,AV.osl 55 1 (List.map zH ([]:List zL))]),AV.ptr 2 0,.any] [ls cI a_p0,ls cI x4,li a_p1,li a_p2,ls zAf a_p3,(li (a_p3.length:Int)),AV.hd 2,(AV.agg [ls cI x4,li a_p1,li a_p2,AV.hd 2,AV.osl 55 1 (List.map zH ([]:List zL))]),AV.ptr 1 0,.any] [[.box 26 (zG ⟨[],0,0,[],[]⟩)],[.box 26 (zG ⟨[],0,0,[],[]⟩),.vec 51 10 (List.map zO (List.replicate (a_p3.length:Int).toNat (zJ8)))],[.box 26 (zG ⟨[],0,0,[],[]⟩),.vec 51 10 (List.map zO (List.replicate (a_p3.length:Int).toNat (zJ8))),.box 26 [AV.osl 3 1 (List.map cI ([]:List Int)),li 0,li 0,AV.osl 51 10 (List.map zO ([]:List zp)),AV.osl 55 1 (List.map zH ([]:List zL))]],[.box 26 (zG ⟨[],0,0,[],[]⟩),.vec 51 10 (List.map zO (List.replicate (a_p3.length:Int).toNat (zJ8))),.box 26 [ls cI x4,li a_p1,li a_p2,AV.hd 1,AV.osl 55 1 (List.map zH ([]:List zL))]]] [[.box 26 (zG ⟨[],0,0,[],[]⟩)],[.box 26 (zG ⟨[],0,0,[],[]⟩),.box 26 [AV.osl 3 1 (List.map cI ([]:List Int)),li 0,li 0,AV.osl 51 10 (List.map zO ([]:List zp)),AV.osl 55 1 (List.map zH ([]:List zL))]],[.box 26 (zG ⟨[],0,0,[],[]⟩),.box 26 [AV.osl 3 1 (List.map cI ([]:List Int)),li 0,li 0,AV.osl 51 10 (List.map zO ([]:List zp)),AV.osl 55 1 (List.map zH ([]:List zL))],.vec 51 10 (List.map zO (List.replicate (a_p3.length:Int).toNat (zJ8)))],[.box 26 (zG ⟨[],0,0,[],[]⟩),.box 26 [ls cI x4,li a_p1,li a_p2,AV.hd 2,AV.osl 55 1 (List.map zH ([]:List zL))],.vec 51 10 (List.map zO (List.replicate (a_p3.length:Int).toNat (zJ8)))]] (by kernel_rfl) (by kernel_rfl) (by kernel_rfl) ⟨.inr rfl,⟨.inr rfl,⟨.inr rfl,⟨.inr rfl,⟨.inr rfl,⟨.inr rfl,⟨.inl rfl,⟨.inl rfl,⟨.inl rfl,⟨.inr rfl,trivial⟩⟩⟩⟩⟩⟩⟩⟩⟩⟩ (by kernel_rfl) rfl rfl ⟨⟨?_,?_,?_⟩,⟨?_,?_,?_⟩,⟨?_,?_,?_⟩,⟨?_,?_,?_⟩,?_,?_,?_,⟨?_,?_⟩,?_,?_,trivial⟩ ⟨⟨?_,?_,?_⟩,⟨?_,?_,?_⟩,⟨?_,?_,?_⟩,⟨?_,?_,?_⟩,⟨?_,?_⟩,⟨?_,?_⟩,?_,?_,?_,?_,trivial⟩ ?_ ?_
  ·exact D1 fun e s p=>zB (s 0 rfl)
  ·exact D1 fun e s p=>zB (s 0 rfl)
  ·exact D1 fun e s p=>zB (s 0 rfl)
  ·
   intro e4 hs4 hp4
   refine zAw (r':=(ls cI x4)) (la:=[ls cI a_p0]) (la':=[ls cI a_p0]) (r:=(AV.osl 3 1 (List.map cI x4))) (S:=[]) func80 rfl (by kernel_rfl) (.fn 80) (zAK hp4.1 rfl) ⟨zAt.nr rfl,trivial⟩ (zAS hx4) (.inl rfl) (congrArg (AV.sl false) (zAP (fun _=>rfl))) ?_
   exact zF ⟨fun _=>rfl,rfl⟩
  ·
   intro e5 hs5 hp5
   refine zAw (r':=(ls cI x4)) (la:=[ls cI a_p0]) (la':=[ls cI a_p0]) (r:=(AV.osl 3 1 (List.map cI x4))) (S:=[]) func80 rfl (by kernel_rfl) (.fn 80) (zAK hp5.1 rfl) ⟨zAt.nr rfl,trivial⟩ (zAS hx4) (.inl rfl) (congrArg (AV.sl false) (zAP (fun _=>rfl))) ?_
   exact zF ⟨fun _=>rfl,rfl⟩
  ·
   intro e6 hs6 hp6
   refine zAw (r':=(ls cI x4)) (la:=[ls cI a_p0]) (la':=[ls cI a_p0]) (r:=(AV.osl 3 1 (List.map cI x4))) (S:=[]) func80 rfl (by kernel_rfl) (.fn 80) (zAK hp6.1 rfl) ⟨zAt.nr rfl,trivial⟩ (zAS hx4) (.inl rfl) (congrArg (AV.sl false) (zAP (fun _=>rfl))) ?_
   exact zF ⟨fun _=>rfl,rfl⟩
  ·exact D1 fun e s p=>zB (s 1 rfl)
  ·exact D1 fun e s p=>zB (s 1 rfl)
  ·exact D1 fun e s p=>zB (s 1 rfl)
  ·exact D1 fun e s p=>zB (s 2 rfl)
  ·exact D1 fun e s p=>zB (s 2 rfl)
  ·exact D1 fun e s p=>zB (s 2 rfl)
  ·exact D1 fun e s p=>zB (s 3 rfl)
  ·exact D1 fun e s p=>zX (f:=zAf) (l:=a_p3) underlying47 p.1
  ·
   intro e15 hs15 hp15
   refine zDy (f:=zO) (a:=(a_p3.length:Int)) (c:=(a_p3.length:Int)) (d0:=(zJ8)) zNC ⟨zh.refl _,⟨zh.refl _,⟨zh.refl _,⟨zh.refl _,⟨zh.refl _,⟨zh.nils,⟨zh.nils,⟨zh.nils,⟨zh.nils,⟨zh.nils,trivial⟩⟩⟩⟩⟩⟩⟩⟩⟩⟩ rfl underlying23 hp15.2.1 hp15.2.1 hb11 ?_
   exact zF ⟨fun _=>rfl,rfl⟩
  ·exact D1 fun e s p=>z8 (pl:=[(0,1),(1,1),(2,1),(3,1),(4,1)]) (zs:=[.slice none 0 0,.int .i64 0,.int .i64 0,.slice none 0 0,.slice none 0 0]) (zc:=[.osl 3 1 [],.lit (.int .i64 0),.lit (.int .i64 0),.osl 51 10 [],.osl 55 1 []]) (res:=[ls cI x4,li a_p1,li a_p2,AV.hd 1,AV.osl 55 1 (List.map zH ([]:List zL))]) (fun _=>by kernel_rfl) rfl (⟨zh.nilo,⟨zh.refl _,⟨zh.refl _,⟨zh.nilo,⟨zh.nilo,trivial⟩⟩⟩⟩⟩) ⟨ls cI x4,0,1,rfl,p.1,rfl,rfl,rfl,⟨li a_p1,1,1,rfl,p.2.1,rfl,rfl,rfl,⟨li a_p2,2,1,rfl,p.2.2.1,rfl,rfl,rfl,⟨AV.hd 1,3,1,rfl,p.2.2.2.1,rfl,rfl,rfl,(by exact zFX.refl _)⟩⟩⟩⟩
  ·exact D1 fun e s p=>z8 (pl:=[(0,1),(1,1),(2,1),(3,1),(4,1)]) (zs:=[.slice none 0 0,.int .i64 0,.int .i64 0,.slice none 0 0,.slice none 0 0]) (zc:=[.osl 3 1 [],.lit (.int .i64 0),.lit (.int .i64 0),.osl 51 10 [],.osl 55 1 []]) (res:=[ls cI x4,li a_p1,li a_p2,AV.hd 1,AV.osl 55 1 (List.map zH ([]:List zL))]) (fun _=>by kernel_rfl) rfl (⟨zh.nilo,⟨zh.refl _,⟨zh.refl _,⟨zh.nilo,⟨zh.nilo,trivial⟩⟩⟩⟩⟩) ⟨ls cI x4,0,1,rfl,p.1,rfl,rfl,rfl,⟨li a_p1,1,1,rfl,p.2.1,rfl,rfl,rfl,⟨li a_p2,2,1,rfl,p.2.2.1,rfl,rfl,rfl,⟨AV.hd 1,3,1,rfl,p.2.2.2.1,rfl,rfl,rfl,(by exact zFX.refl _)⟩⟩⟩⟩
  ·
   intro e18 hs18 hp18
   refine za (H':=[.box 26 (zG ⟨[],0,0,[],[]⟩),.vec 51 10 (List.map zO (List.replicate (a_p3.length:Int).toNat (zJ8))),.box 26 [AV.osl 3 1 (List.map cI ([]:List Int)),li 0,li 0,AV.osl 51 10 (List.map zO ([]:List zp)),AV.osl 55 1 (List.map zH ([]:List zL))]]) (zv (t:=26) (vs:=[.slice none 0 0,.int .i64 0,.int .i64 0,.slice none 0 0,.slice none 0 0]) (cs:=[.osl 3 1 [],.lit (.int .i64 0),.lit (.int .i64 0),.osl 51 10 [],.osl 55 1 []]) zeroValue26 (by kernel_rfl) rfl ⟨zh.nilo,zh.refl _,zh.refl _,zh.nilo,zh.nilo,trivial⟩) ?_
   exact zF ⟨fun _=>rfl,rfl⟩
  ·
   intro e19 hs19 hp19
   refine zm (H':=[.box 26 (zG ⟨[],0,0,[],[]⟩),.vec 51 10 (List.map zO (List.replicate (a_p3.length:Int).toNat (zJ8))),.box 26 [ls cI x4,li a_p1,li a_p2,AV.hd 1,AV.osl 55 1 (List.map zH ([]:List zL))]]) (zZ (k:=2) (o:=0) (cs:=[AV.osl 3 1 (List.map cI ([]:List Int)),li 0,li 0,AV.osl 51 10 (List.map zO ([]:List zp)),AV.osl 55 1 (List.map zH ([]:List zL))]) (la:=[ls cI x4,li a_p1,li a_p2,AV.hd 1,AV.osl 55 1 (List.map zH ([]:List zL))]) sizeOf26 (by exact hp19.2.2.2.2.2.2.2.2.2.2.2.1) rfl rfl (by exact hp19.2.2.2.2.2.2.2.2.2.2.1)) ?_
   exact zF ⟨fun _=>rfl,rfl⟩
  ·exact D1 fun e s p=>zB (s 0 rfl)
  ·exact D1 fun e s p=>zB (s 0 rfl)
  ·exact D1 fun e s p=>zB (s 0 rfl)
  ·
   intro e23 hs23 hp23
   refine zAw (r':=(ls cI x4)) (la:=[ls cI a_p0]) (la':=[ls cI a_p0]) (r:=(AV.osl 3 1 (List.map cI x4))) (S:=[]) func80 rfl (by kernel_rfl) (.fn 80) (zAK hp23.1 rfl) ⟨zAt.nr rfl,trivial⟩ (zAS hx4) (.inl rfl) (congrArg (AV.sl false) (zAP (fun _=>rfl))) ?_
   exact zF ⟨fun _=>rfl,rfl⟩
  ·
   intro e24 hs24 hp24
   refine zAw (r':=(ls cI x4)) (la:=[ls cI a_p0]) (la':=[ls cI a_p0]) (r:=(AV.osl 3 1 (List.map cI x4))) (S:=[]) func80 rfl (by kernel_rfl) (.fn 80) (zAK hp24.1 rfl) ⟨zAt.nr rfl,trivial⟩ (zAS hx4) (.inl rfl) (congrArg (AV.sl false) (zAP (fun _=>rfl))) ?_
   exact zF ⟨fun _=>rfl,rfl⟩
  ·
   intro e25 hs25 hp25
   refine zAw (r':=(ls cI x4)) (la:=[ls cI a_p0]) (la':=[ls cI a_p0]) (r:=(AV.osl 3 1 (List.map cI x4))) (S:=[]) func80 rfl (by kernel_rfl) (.fn 80) (zAK hp25.1 rfl) ⟨zAt.nr rfl,trivial⟩ (zAS hx4) (.inl rfl) (congrArg (AV.sl false) (zAP (fun _=>rfl))) ?_
   exact zF ⟨fun _=>rfl,rfl⟩
  ·exact D1 fun e s p=>zB (s 1 rfl)
  ·exact D1 fun e s p=>zB (s 1 rfl)
  ·exact D1 fun e s p=>zB (s 1 rfl)
  ·exact D1 fun e s p=>zB (s 2 rfl)
  ·exact D1 fun e s p=>zB (s 2 rfl)
  ·exact D1 fun e s p=>zB (s 2 rfl)
  ·exact D1 fun e s p=>zB (s 3 rfl)
  ·exact D1 fun e s p=>zB (s 3 rfl)
  ·exact D1 fun e s p=>zX (f:=zAf) (l:=a_p3) underlying47 p.1
  ·exact D1 fun e s p=>zX (f:=zAf) (l:=a_p3) underlying47 p.1
  ·
   intro e36 hs36 hp36
   refine zDy (f:=zO) (a:=(a_p3.length:Int)) (c:=(a_p3.length:Int)) (d0:=(zJ8)) zNC ⟨zh.refl _,⟨zh.refl _,⟨zh.refl _,⟨zh.refl _,⟨zh.refl _,⟨zh.nils,⟨zh.nils,⟨zh.nils,⟨zh.nils,⟨zh.nils,trivial⟩⟩⟩⟩⟩⟩⟩⟩⟩⟩ rfl underlying23 hp36.2.1 hp36.2.1 hb11 ?_
   exact zF ⟨fun _=>rfl,rfl⟩
  ·exact D1 fun e s p=>z8 (pl:=[(0,1),(1,1),(2,1),(3,1),(4,1)]) (zs:=[.slice none 0 0,.int .i64 0,.int .i64 0,.slice none 0 0,.slice none 0 0]) (zc:=[.osl 3 1 [],.lit (.int .i64 0),.lit (.int .i64 0),.osl 51 10 [],.osl 55 1 []]) (res:=[ls cI x4,li a_p1,li a_p2,AV.hd 2,AV.osl 55 1 (List.map zH ([]:List zL))]) (fun _=>by kernel_rfl) rfl (⟨zh.nilo,⟨zh.refl _,⟨zh.refl _,⟨zh.nilo,⟨zh.nilo,trivial⟩⟩⟩⟩⟩) ⟨ls cI x4,0,1,rfl,p.1,rfl,rfl,rfl,⟨li a_p1,1,1,rfl,p.2.1,rfl,rfl,rfl,⟨li a_p2,2,1,rfl,p.2.2.1,rfl,rfl,rfl,⟨AV.hd 2,3,1,rfl,p.2.2.2.1,rfl,rfl,rfl,(by exact zFX.refl _)⟩⟩⟩⟩
  ·
   intro e38 hs38 hp38
   refine za (H':=[.box 26 (zG ⟨[],0,0,[],[]⟩),.box 26 [AV.osl 3 1 (List.map cI ([]:List Int)),li 0,li 0,AV.osl 51 10 (List.map zO ([]:List zp)),AV.osl 55 1 (List.map zH ([]:List zL))]]) (zv (t:=26) (vs:=[.slice none 0 0,.int .i64 0,.int .i64 0,.slice none 0 0,.slice none 0 0]) (cs:=[.osl 3 1 [],.lit (.int .i64 0),.lit (.int .i64 0),.osl 51 10 [],.osl 55 1 []]) zeroValue26 (by kernel_rfl) rfl ⟨zh.nilo,zh.refl _,zh.refl _,zh.nilo,zh.nilo,trivial⟩) ?_
   exact zF ⟨fun _=>rfl,rfl⟩
  ·
   intro e39 hs39 hp39
   refine zm (H':=[.box 26 (zG ⟨[],0,0,[],[]⟩),.box 26 [ls cI x4,li a_p1,li a_p2,AV.hd 2,AV.osl 55 1 (List.map zH ([]:List zL))],.vec 51 10 (List.map zO (List.replicate (a_p3.length:Int).toNat (zJ8)))]) (zZ (k:=1) (o:=0) (cs:=[AV.osl 3 1 (List.map cI ([]:List Int)),li 0,li 0,AV.osl 51 10 (List.map zO ([]:List zp)),AV.osl 55 1 (List.map zH ([]:List zL))]) (la:=[ls cI x4,li a_p1,li a_p2,AV.hd 2,AV.osl 55 1 (List.map zH ([]:List zL))]) sizeOf26 (by exact hp39.2.2.2.2.2.2.2.2.2.2.2.1) rfl rfl (by exact hp39.2.2.2.2.2.2.2.2.2.2.1)) ?_
   exact zF ⟨fun _=>rfl,rfl⟩
  ·
   intro e40 hs40 hq1
   exact ⟨x4,Rep.trans (zBY (l:=[(0,(ls cI a_p0)),(3,(ls zAf a_p3)),(8,(AV.ptr 0 0)),(10,(AV.ptr 2 0))]) ⟨hs40 0 rfl,hs40 3 rfl,hs40 8 rfl,(hq1 8 (by decide) (by decide)),trivial⟩) (Rep.trans (zAJ (k:=2) (j:=1) (o:=3) (cs:=[ls cI x4,li a_p1,li a_p2,AV.hd 1,AV.osl 55 1 (List.map zH ([]:List zL))]) rfl rfl rfl rfl) (zAE [0,2] (l:=[(0,(ls cI a_p0)),(3,(ls zAf a_p3)),(8,(AV.ptr 0 0)),(10,(AV.ptr 1 0))]) rfl rfl (by kernel_rfl))),h⟩
  ·
   intro e41 hs41 hq2
   exact ⟨x4,Rep.trans (zBY (l:=[(0,(ls cI a_p0)),(3,(ls zAf a_p3)),(8,(AV.ptr 0 0)),(10,(AV.ptr 1 0))]) ⟨hs41 0 rfl,hs41 3 rfl,hs41 8 rfl,(hq2 8 (by decide) (by decide)),trivial⟩) (Rep.trans (zAJ (k:=1) (j:=2) (o:=3) (cs:=[ls cI x4,li a_p1,li a_p2,AV.hd 2,AV.osl 55 1 (List.map zH ([]:List zL))]) rfl rfl rfl rfl) (zAE [0,1] (l:=[(0,(ls cI a_p0)),(3,(ls zAf a_p3)),(8,(AV.ptr 0 0)),(10,(AV.ptr 1 0))]) rfl rfl (by kernel_rfl))),h⟩
 ·
  clear h
  rintro e' H' ⟨d1,hrep,h⟩
  refine zV hrep ?_
  clear hrep
  unfold zHn at h
  refine zI<|zI<|zC<|zAF (zBA (k:=1) (o:=3) (t':=51) (sz:=10) (rows:=List.map zO (List.replicate (a_p3.length:Int).toNat (zJ8))) rfl rfl)<|zAF (zBA (k:=1) (o:=4) (t':=55) (sz:=1) (rows:=List.map zH ([]:List zL)) rfl rfl)<|zA (zS (k:=1) (o:=0) (m:=5) isAgg26 sizeOf26 rfl rfl rfl rfl rfl) ?_
  refine zR h fun x1 hx1 h=>zAw (r':=(AV.lit (.bool x1))) (la:=[(AV.agg [ls cI d1,li a_p1,li a_p2,AV.hd 2,AV.hd 3])]) (la':=[(AV.agg (zG ⟨d1,a_p1,a_p2,(List.replicate (a_p3.length:Int).toNat (zJ8)),[]⟩))]) (r:=(AV.lit (.bool x1))) (S:=[2,3]) func41 rfl (by kernel_rfl) (.fn 41) rfl ⟨zAt.agg (by exact ⟨zAt.nr rfl,⟨zAt.nr rfl,⟨zAt.nr rfl,⟨zIZ (fun _=>rfl) rfl rfl,⟨zIZ (fun _=>rfl) rfl rfl,trivial⟩⟩⟩⟩⟩),trivial⟩ (zHw hx1) (.inr trivial) rfl<|zA (zA6 (t:=x1) rfl)<|zF ?_
  refine zY h rfl (fun hb1 h => ?_) (fun hb1 h => ?_)
  ·refine zI<|zC<|zA (z8 (pl:=[(0,1),(1,1),(2,1),(3,1),(4,1)]) (zs:=[.slice none 0 0,.int .i64 0,.int .i64 0,.slice none 0 0,.slice none 0 0]) (zc:=[.osl 3 1 [],.lit (.int .i64 0),.lit (.int .i64 0),.osl 51 10 [],.osl 55 1 []]) (res:=[AV.osl 3 1 (List.map cI ([]:List Int)),li 0,li 0,AV.osl 51 10 (List.map zO ([]:List zp)),AV.osl 55 1 (List.map zH ([]:List zL))]) (fun _=>by kernel_rfl) rfl (⟨zh.nilo,⟨zh.refl _,⟨zh.refl _,⟨zh.nilo,⟨zh.nilo,trivial⟩⟩⟩⟩⟩) (by exact zFX.refl _))<|zm (H':=[.box 26 [AV.osl 3 1 (List.map cI ([]:List Int)),li 0,li 0,AV.osl 51 10 (List.map zO ([]:List zp)),AV.osl 55 1 (List.map zH ([]:List zL))],.box 26 [ls cI d1,li a_p1,li a_p2,AV.hd 2,AV.hd 3],.vec 51 10 (List.map zO (List.replicate (a_p3.length:Int).toNat (zJ8))),.vec 55 1 (List.map zH ([]:List zL))]) (zZ (k:=0) (o:=0) (cs:=(zG ⟨[],0,0,[],[]⟩)) (la:=[AV.osl 3 1 (List.map cI ([]:List Int)),li 0,li 0,AV.osl 51 10 (List.map zO ([]:List zp)),AV.osl 55 1 (List.map zH ([]:List zL))]) sizeOf26 rfl rfl rfl rfl)<|zA (zD rfl)<|zF ?_
   refine zV (zBb (k:=0) (o:=0) (rows':=List.map cI ([]:List Int)) rfl rfl (zAP (fun _=>rfl)))<|zV (zBb (k:=0) (o:=3) (rows':=List.map zO ([]:List zp)) rfl rfl (zAP (fun _=>rfl)))<|zV (zBb (k:=0) (o:=4) (rows':=List.map zH ([]:List zL)) rfl rfl (zAP (fun _=>rfl)))<|zb ?_
   show zAQ _ _ _ _ _ _
   obtain rfl:=Option.some.inj h
   exact zCR (zFa isAgg26 sizeOf26 rfl rfl rfl rfl) (zAM rfl rfl) rfl
  ·refine zP<|zI<|zC<|zA (zD rfl)<|zF ?_
   refine zx (fun e' H' => ∃ (l1:List zp),Rep 82 0 e' H' (mkE [(0,(ls cI a_p0)),(3,(ls zAf a_p3)),(8,(AV.ptr 0 0)),(10,(AV.ptr 1 0))]) [.box 26 (zG ⟨[],0,0,[],[]⟩),.box 26 [ls cI d1,li a_p1,li a_p2,AV.osl 51 10 (List.map zO l1),AV.osl 55 1 (List.map zH ([]:List zL))]]∧zHk a_p0 a_p1 a_p2 a_p3 d1 l1=some r) ?_ ?_
   ·
    refine zI<|zC<|zA (zB rfl)<|zA (zX underlying47 rfl)<|zA (zB rfl)<|zF ?_
    refine zQ<|z6 (σ:=Nat×Int×Int×(List zp)) (fun s=>s.1) (fun s e' H'=>match s with | (n1,i2,i3,l4)=>Rep 82 0 e' H' (mkE [(0,(ls cI a_p0)),(3,(ls zAf a_p3)),(8,(AV.ptr 0 0)),(10,(AV.ptr 1 0)),(11,(li i2)),(30,(ls zAf a_p3)),(31,(li (a_p3.length:Int))),(32,(li i3))]) [.box 26 (zG ⟨[],0,0,[],[]⟩),.box 26 [ls cI d1,li a_p1,li a_p2,AV.osl 51 10 (List.map zO l4),AV.osl 55 1 (List.map zH ([]:List zL))]]∧zF0 a_p0 a_p1 a_p2 a_p3 d1 n1 i2 i3 l4=some r) (z9,0,0,(List.replicate (a_p3.length:Int).toNat (zJ8))) ⟨Rep.trans (zAJ (k:=1) (j:=2) (o:=3) rfl rfl rfl rfl) (Rep.trans (zAJ (k:=1) (j:=3) (o:=4) rfl rfl rfl rfl) (zAE [0,1] (l:=[(0,(ls cI a_p0)),(3,(ls zAf a_p3)),(8,(AV.ptr 0 0)),(10,(AV.ptr 1 0)),(11,(li 0)),(30,(ls zAf a_p3)),(31,(li (a_p3.length:Int))),(32,(li 0))]) rfl rfl (by kernel_rfl))),h⟩ ?_
    clear h
    rintro ⟨n1,i2,i3,l4⟩ e' H' ⟨hrep,h⟩
    cases n1 with
    | zero=>exact absurd (show (none:Option _)=some r from h) (by simp)
    | succ n1 =>
     replace h:zHh a_p0 a_p1 a_p2 a_p3 d1 (zF0 a_p0 a_p1 a_p2 a_p3 d1 n1) i2 i3 l4=some r:=h
     unfold zHh at h
     refine zV hrep ?_
     clear hrep
     refine zI<|zC<|zA (ze rfl rfl)<|zF<|zI ?_
     refine zY h rfl (fun hb5 h => ?_) (fun hb5 h => ?_)
     ·refine zP<|zI<|zQ<|zI<|zC<|zA (zB rfl) ?_
      refine zM h fun hb6 h=>zA (zU underlying47 sizeOf46 (fun _=>rfl) rfl rfl hb6)<|zA (zAb (row:=(zAf (at_ a_p3 i3))) (o:=0) (m:=4) (la:=(zAf (at_ a_p3 i3))) isAgg46 sizeOf46 rfl rfl rfl)<|za (H':=[.box 26 (zG ⟨[],0,0,[],[]⟩),.box 26 [ls cI d1,li a_p1,li a_p2,AV.osl 51 10 (List.map zO l4),AV.osl 55 1 (List.map zH ([]:List zL))],.box 46 [li 0,li 0,li 0,li 0]]) (zv (t:=46) (vs:=[.int .i64 0,.int .i64 0,.int .i64 0,.int .i64 0]) (cs:=[.lit (.int .i64 0),.lit (.int .i64 0),.lit (.int .i64 0),.lit (.int .i64 0)]) zeroValue46 (by kernel_rfl) rfl ⟨zh.refl _,zh.refl _,zh.refl _,zh.refl _,trivial⟩)<|zA (zD rfl)<|zm (H':=[.box 26 (zG ⟨[],0,0,[],[]⟩),.box 26 [ls cI d1,li a_p1,li a_p2,AV.osl 51 10 (List.map zO l4),AV.osl 55 1 (List.map zH ([]:List zL))],.box 46 (zAf (at_ a_p3 i3))]) (zZ (k:=2) (o:=0) (cs:=[li 0,li 0,li 0,li 0]) (la:=(zAf (at_ a_p3 i3))) sizeOf46 rfl rfl rfl rfl) ?_
      refine zF<|zI<|zC<|zA (zK underlying46 rfl rfl sizeOf3 rfl)<|zA (zN isAgg3 rfl rfl rfl rfl)<|zA (zK underlying46 rfl rfl sizeOf3 rfl) ?_
      refine zA (zN isAgg3 rfl rfl rfl rfl)<|zA (zB rfl)<|zA (zK underlying46 rfl rfl sizeOf3 rfl)<|zA (zN isAgg3 rfl rfl rfl rfl)<|zA (zK underlying46 rfl rfl sizeOf3 rfl)<|zA (zN isAgg3 rfl rfl rfl rfl) ?_
      refine zR h fun x3 hx3 h=>zi func81 rfl (by kernel_rfl) (.fn 81) rfl rfl (zOZ hx3) rfl<|zA (zB rfl)<|zA (zg rfl rfl)<|zA (zg rfl rfl)<|za (H':=[.box 26 (zG ⟨[],0,0,[],[]⟩),.box 26 [ls cI d1,li a_p1,li a_p2,AV.osl 51 10 (List.map zO l4),AV.osl 55 1 (List.map zH ([]:List zL))],.box 46 (zAf (at_ a_p3 i3)),.box 51 (zO ⟨0,0,0,0,0,(List.replicate 5 ([]:List Int))⟩)]) (zv (t:=51) (vs:=[.int .i64 0,.int .i64 0,.int .i64 0,.int .i64 0,.int .i64 0,.slice none 0 0,.slice none 0 0,.slice none 0 0,.slice none 0 0,.slice none 0 0]) (cs:=[.lit (.int .i64 0),.lit (.int .i64 0),.lit (.int .i64 0),.lit (.int .i64 0),.lit (.int .i64 0),.sl false [],.sl false [],.sl false [],.sl false [],.sl false []]) zeroValue51 (by kernel_rfl) rfl ⟨zh.refl _,zh.refl _,zh.refl _,zh.refl _,zh.refl _,zh.nils,zh.nils,zh.nils,zh.nils,zh.nils,trivial⟩) ?_
      refine zm (H':=[.box 26 (zG ⟨[],0,0,[],[]⟩),.box 26 [ls cI d1,li a_p1,li a_p2,AV.osl 51 10 (List.map zO l4),AV.osl 55 1 (List.map zH ([]:List zL))],.box 46 (zAf (at_ a_p3 i3)),.box 51 (zO x3.1)]) (zZ (k:=3) (o:=0) (cs:=(zO ⟨0,0,0,0,0,(List.replicate 5 ([]:List Int))⟩)) (la:=(zO x3.1)) sizeOf51 rfl rfl rfl rfl)<|zA (zD rfl)<|zF<|zI<|zI<|zC ?_
      refine zA (zB rfl)<|zA (z7 rfl rfl)<|zF ?_
      refine zY h rfl (fun hb7 h => ?_) (fun hb7 h => ?_)
      ·refine zI<|zC<|zA (z8 (pl:=[(0,1),(1,1),(2,1),(3,1),(4,1)]) (zs:=[.slice none 0 0,.int .i64 0,.int .i64 0,.slice none 0 0,.slice none 0 0]) (zc:=[.osl 3 1 [],.lit (.int .i64 0),.lit (.int .i64 0),.osl 51 10 [],.osl 55 1 []]) (res:=[AV.osl 3 1 (List.map cI ([]:List Int)),li 0,li 0,AV.osl 51 10 (List.map zO ([]:List zp)),AV.osl 55 1 (List.map zH ([]:List zL))]) (fun _=>by kernel_rfl) rfl (⟨zh.nilo,⟨zh.refl _,⟨zh.refl _,⟨zh.nilo,⟨zh.nilo,trivial⟩⟩⟩⟩⟩) (by exact zFX.refl _))<|zA (zB rfl)<|zm (H':=[.box 26 [AV.osl 3 1 (List.map cI ([]:List Int)),li 0,li 0,AV.osl 51 10 (List.map zO ([]:List zp)),AV.osl 55 1 (List.map zH ([]:List zL))],.box 26 [ls cI d1,li a_p1,li a_p2,AV.osl 51 10 (List.map zO l4),AV.osl 55 1 (List.map zH ([]:List zL))],.box 46 (zAf (at_ a_p3 i3)),.box 51 (zO x3.1)]) (zZ (k:=0) (o:=0) (cs:=(zG ⟨[],0,0,[],[]⟩)) (la:=[AV.osl 3 1 (List.map cI ([]:List Int)),li 0,li 0,AV.osl 51 10 (List.map zO ([]:List zp)),AV.osl 55 1 (List.map zH ([]:List zL))]) sizeOf26 rfl rfl rfl rfl)<|zA (zD rfl) ?_
       refine zF<|zV (zBb (k:=0) (o:=0) (rows':=List.map cI ([]:List Int)) rfl rfl (zAP (fun _=>rfl)))<|zV (zBb (k:=0) (o:=3) (rows':=List.map zO ([]:List zp)) rfl rfl (zAP (fun _=>rfl)))<|zV (zBb (k:=0) (o:=4) (rows':=List.map zH ([]:List zL)) rfl rfl (zAP (fun _=>rfl)))<|zb ?_
       show zAQ _ _ _ _ _ _
       obtain rfl:=Option.some.inj h
       exact zCR (zFa isAgg26 sizeOf26 rfl rfl rfl rfl) (zAM rfl rfl) rfl
      ·refine zP<|zI<|zC<|zA (zK underlying26 rfl rfl sizeOf23 rfl)<|zAF (zBA (k:=1) (o:=3) (t':=51) (sz:=10) (rows:=List.map zO l4) rfl rfl)<|zA (zN isAgg23 rfl rfl rfl rfl) ?_
       refine zA (zB rfl)<|zA (zS (k:=3) (o:=0) (m:=10) isAgg51 sizeOf51 rfl rfl rfl rfl rfl)<|zM h fun hb8 h=>zA (zAC (f:=zO) (l:=l4) (i:=i3) underlying23 sizeOf51 rfl rfl rfl hb8)<|zm (H':=[.box 26 (zG ⟨[],0,0,[],[]⟩),.box 26 [ls cI d1,li a_p1,li a_p2,AV.hd 4,AV.osl 55 1 (List.map zH ([]:List zL))],.box 46 (zAf (at_ a_p3 i3)),.box 51 (zO x3.1),.vec 51 10 (List.map zO (l4.set i3.toNat x3.1))]) (zCM (k:=4) (o:=(i3.toNat*10)) (f:=zO) (l:=l4) (i:=i3) (z:=x3.1) sizeOf51 (fun _=>rfl) rfl rfl (by first | rfl | omega) hb8 rfl rfl)<|zF ?_
       refine zC<|zA (zB rfl)<|zA (zK underlying46 rfl rfl sizeOf3 rfl)<|zA (zN isAgg3 rfl rfl rfl rfl)<|zM h fun hb9 h=>zA (zf rfl rfl hb9) ?_
       refine zA (zD rfl)<|zF<|zC<|zM h fun hb10 h=>zA (zf rfl rfl hb10)<|zA (zB rfl) ?_
       refine zF ?_
       exact ⟨(n1,(i2+((at_ a_p3 i3).count)),(i3+1),(l4.set i3.toNat x3.1)),Nat.lt_succ_self _,Rep.trans (zAJ (k:=1) (j:=4) (o:=3) rfl rfl rfl rfl) (zAE [0,1] (l:=[(0,(ls cI a_p0)),(3,(ls zAf a_p3)),(8,(AV.ptr 0 0)),(10,(AV.ptr 1 0)),(11,(li (i2+((at_ a_p3 i3).count)))),(30,(ls zAf a_p3)),(31,(li (a_p3.length:Int))),(32,(li (i3+1)))]) rfl rfl (by kernel_rfl)),h⟩
     ·refine zy ?_
      exact ⟨l4,zAE [0,1] rfl rfl (by kernel_rfl),h⟩
   ·
    clear h
    rintro e' H' ⟨l1,hrep,h⟩
    refine zV hrep ?_
    clear hrep
    unfold zHk at h
    refine zx (fun e' H' => ∃ (l2:List zL),Rep 82 0 e' H' (mkE [(8,(AV.ptr 0 0)),(10,(AV.ptr 1 0))]) [.box 26 (zG ⟨[],0,0,[],[]⟩),.box 26 [ls cI d1,li a_p1,li a_p2,AV.osl 51 10 (List.map zO l1),AV.osl 55 1 (List.map zH l2)]]∧zHq a_p1 a_p2 d1 l1 l2=some r) ?_ ?_
    ·
     refine zI<|zC<|zA (zB rfl)<|zA (zX underlying22 rfl)<|zA (zB rfl)<|zF ?_
     refine zQ<|z6 (σ:=Nat×Int×(List zL)) (fun s=>s.1) (fun s e' H'=>match s with | (n0,i1,l3)=>Rep 82 0 e' H' (mkE [(3,(ls zAf a_p3)),(8,(AV.ptr 0 0)),(10,(AV.ptr 1 0)),(65,(li (a_p0.length:Int))),(66,(li i1))]) [.box 26 (zG ⟨[],0,0,[],[]⟩),.box 26 [ls cI d1,li a_p1,li a_p2,AV.osl 51 10 (List.map zO l1),AV.osl 55 1 (List.map zH l3)]]∧zFt a_p0 a_p1 a_p2 a_p3 d1 l1 n0 i1 l3=some r) (z9,0,([]:List zL)) ⟨zAE [0,1] rfl rfl (by kernel_rfl),h⟩ ?_
     clear h
     rintro ⟨n0,i1,l3⟩ e' H' ⟨hrep,h⟩
     cases n0 with
     | zero=>exact absurd (show (none:Option _)=some r from h) (by simp)
     | succ n0 =>
      replace h:zHc a_p0 a_p1 a_p2 a_p3 d1 l1 (zFt a_p0 a_p1 a_p2 a_p3 d1 l1 n0) i1 l3=some r:=h
      unfold zHc at h
      refine zV hrep ?_
      clear hrep
      refine zI<|zC<|zA (ze rfl rfl)<|zF<|zI ?_
      refine zY h rfl (fun hb2 h => ?_) (fun hb2 h => ?_)
      ·refine zP<|zI<|zQ<|zI<|zC<|zA (zB rfl) ?_
       refine zA (zX underlying47 rfl)<|zR h fun x2 hx2 h=>zi func82 rfl (by kernel_rfl) (.fn 82) rfl rfl (zNk hx2) rfl<|zA (zB rfl)<|zA (zg rfl rfl)<|zA (zg rfl rfl) ?_
       refine za (H':=[.box 26 (zG ⟨[],0,0,[],[]⟩),.box 26 [ls cI d1,li a_p1,li a_p2,AV.osl 51 10 (List.map zO l1),AV.osl 55 1 (List.map zH l3)],.box 55 [AV.osl 22 1 (List.map (cS cI) ([]:List (List Int)))]]) (zv (t:=55) (vs:=[.slice none 0 0]) (cs:=[.osl 22 1 []]) zeroValue55 (by kernel_rfl) rfl ⟨zh.nilo,trivial⟩)<|zm (H':=[.box 26 (zG ⟨[],0,0,[],[]⟩),.box 26 [ls cI d1,li a_p1,li a_p2,AV.osl 51 10 (List.map zO l1),AV.osl 55 1 (List.map zH l3)],.box 55 (zH x2.1)]) (zZ (k:=2) (o:=0) (cs:=[AV.osl 22 1 (List.map (cS cI) ([]:List (List Int)))]) (la:=(zH x2.1)) sizeOf55 rfl rfl rfl rfl)<|zA (zD rfl)<|zF<|zC<|zA (zK underlying26 rfl rfl sizeOf24 rfl) ?_
       refine zAF (zBA (k:=1) (o:=4) (t':=55) (sz:=1) (rows:=List.map zH l3) rfl rfl)<|zA (zN isAgg24 rfl rfl rfl rfl)<|zA (zS (k:=2) (o:=0) (m:=1) isAgg55 sizeOf55 rfl rfl rfl rfl rfl)<|zGP (a:=(AV.agg (zH x2.1))) zM5 underlying24 rfl rfl rfl rfl<|zM h fun hb3 h=>zDK (f:=zH) (k:=3) (j:=4) (l:=l3) (l':=[x2.1]) zM5 (fun _=>rfl) underlying24 rfl rfl rfl rfl hb3 ?_
       refine zA (zK underlying26 rfl rfl sizeOf24 rfl)<|zm (H':=[.box 26 (zG ⟨[],0,0,[],[]⟩),.box 26 [ls cI d1,li a_p1,li a_p2,AV.osl 51 10 (List.map zO l1),AV.hd 5],.box 55 (zH x2.1),.dead,.vec 55 1 (List.map zH [x2.1]),.vec 55 1 (List.map zH (l3++[x2.1]))]) (zCa (k:=1) (o:=4) (cs:=[ls cI d1,li a_p1,li a_p2,AV.osl 51 10 (List.map zO l1),AV.hd 3]) (a:=(AV.hd 5)) sizeOf24 rfl rfl rfl rfl rfl)<|zF<|zC<|zM h fun hb4 h=>zA (zf rfl rfl hb4) ?_
       refine zA (zB rfl)<|zF ?_
       exact ⟨(n0,(i1+1),(l3++[x2.1])),Nat.lt_succ_self _,Rep.trans (zAJ (k:=1) (j:=5) (o:=4) rfl rfl rfl rfl) (zAE [0,1] (l:=[(3,(ls zAf a_p3)),(8,(AV.ptr 0 0)),(10,(AV.ptr 1 0)),(65,(li (a_p0.length:Int))),(66,(li (i1+1)))]) rfl rfl (by kernel_rfl)),h⟩
      ·refine zy ?_
       exact ⟨l3,zAE [0,1] rfl rfl (by kernel_rfl),h⟩
    ·
     clear h
     rintro e' H' ⟨l2,hrep,h⟩
     refine zV hrep ?_
     clear hrep
     unfold zHq at h
     refine zI<|zC<|zAF (zBb (k:=1) (o:=3) (rows':=List.map zO l1) rfl rfl (zAP (fun _=>rfl)))<|zAF (zBb (k:=1) (o:=4) (rows':=List.map zH l2) rfl rfl (zAP (fun _=>rfl)))<|zA (zS (k:=1) (o:=0) (m:=5) isAgg26 sizeOf26 rfl rfl rfl rfl rfl)<|zm (H':=[.box 26 (zG (⟨d1,a_p1,a_p2,l1,l2⟩:zJ)),.box 26 (zG ⟨d1,a_p1,a_p2,l1,l2⟩)]) (zZ (k:=0) (o:=0) (cs:=(zG ⟨[],0,0,[],[]⟩)) (la:=(zG (⟨d1,a_p1,a_p2,l1,l2⟩:zJ))) sizeOf26 rfl rfl rfl rfl) ?_
     refine zA (zD rfl)<|zF<|zb ?_
     show zAQ _ _ _ _ _ _
     obtain rfl:=Option.some.inj h
     exact zCR (zFa isAgg26 sizeOf26 rfl rfl rfl rfl) (zAM rfl rfl) rfl
theorem zEi {a_p0:zp} {r:Int} (h:zDf a_p0=some r):PFn prog 42 [(AV.agg (zO a_p0))] (li r):=by
 refine zq func42 rfl ntmps42 results42 rfl ?_
 unfold zDf at h
 refine zI<|zC<|za (H':=[.box 51 (zO a_p0)]) (zw (t:=51) rfl)<|zA (zD rfl)<|zF<|zI ?_
 refine zI<|zC<|zA (zS (k:=0) (o:=0) (m:=10) isAgg51 sizeOf51 rfl rfl rfl rfl rfl)<|zR h fun x1 hx1 h=>zAw (r':=(AV.lit (.bool x1))) (la:=[(AV.agg (zO a_p0))]) (la':=[(AV.agg ([li a_p0.node,li a_p0.kind,li a_p0.start,li a_p0.count,li a_p0.min]++([AV.any,AV.any,AV.any,AV.any,AV.any]++[])))]) (r:=(AV.lit (.bool x1))) (S:=[]) func85 rfl (by kernel_rfl) (.fn 85) rfl ⟨zLD (hd:=([li a_p0.node]++[li a_p0.kind]++[li a_p0.start]++[li a_p0.count]++[li a_p0.min])) (tl:=((cA 5 (eS cI) ([]:List Int) a_p0.free))) rfl,trivial⟩ (zKB hx1) (.inl rfl) rfl<|zA (zA6 (t:=x1) rfl) ?_
 refine zF ?_
 refine zY h rfl (fun hb1 h => ?_) (fun hb1 h => ?_)
 ·refine zI<|zC<|zA (zD rfl)<|zF<|zb ?_
  show zAQ _ _ _ _ _ _
  obtain rfl:=Option.some.inj h
  exact zu (zAM rfl rfl)
 ·refine zP ?_
  refine zx (fun e' H'=>Rep 118 0 e' H' (mkE [(1,(AV.ptr 0 0))]) [.box 51 (zO a_p0)]∧zFj a_p0=some r) ?_ ?_
  ·
   refine zI<|zC<|zA (zK underlying51 rfl rfl sizeOf49 rfl)<|zA (zS (k:=0) (o:=5) (m:=5) isAgg49 sizeOf49 rfl rfl rfl rfl rfl)<|zA (zB rfl)<|zF ?_
   refine zQ<|z6 (σ:=Nat×Int) (fun s=>s.1) (fun s e' H'=>match s with | (n5,i6)=>Rep 118 0 e' H' (mkE [(1,(AV.ptr 0 0)),(23,(AV.agg (cA 5 (eS cI) ([]:List Int) a_p0.free))),(24,(li i6))]) [.box 51 (zO a_p0)]∧zCQ a_p0 n5 i6=some r) (z9,0) ⟨zAE [0] rfl rfl (by kernel_rfl),h⟩ ?_
   clear h
   rintro ⟨n5,i6⟩ e' H' ⟨hrep,h⟩
   cases n5 with
   | zero=>exact absurd (show (none:Option _)=some r from h) (by simp)
   | succ n5 =>
    replace h:zDl a_p0 (zCQ a_p0 n5) i6=some r:=h
    unfold zDl at h
    refine zV hrep ?_
    clear hrep
    refine zI<|zC<|zA (ze rfl rfl)<|zF<|zI ?_
    refine zY h rfl (fun hb26 h => ?_) (fun hb26 h => ?_)
    ·refine zP ?_
     refine zx (fun e' H'=>Rep 118 0 e' H' (mkE [(1,(AV.ptr 0 0)),(23,(AV.agg (cA 5 (eS cI) ([]:List Int) a_p0.free))),(24,(li i6))]) [.box 51 (zO a_p0)]∧zHO (zCQ a_p0 n5) i6=some r) ?_ ?_
     ·
      refine zQ<|zI<|zC<|zA (zB rfl)<|zM h fun hb28 h=>zA (zMR (la:=cA 5 (eS cI) ([]:List Int) a_p0.free) (i:=i6) (a:=(ls cI (a_p0.free.getD i6.toNat ([]:List Int)))) underlying49 sizeOf22 isAgg22 rfl rfl hb28 (zO6 (zBK hb28).2) rfl) ?_
      refine zA (zD rfl)<|zA (zD rfl)<|zF<|zI<|zC<|zA (zB rfl) ?_
      refine zA (zX underlying22 rfl)<|zA (zB rfl)<|zF<|zQ<|z6 (σ:=Nat×Int) (fun s=>s.1) (fun s e' H'=>match s with | (n6,i7)=>Rep 118 0 e' H' (mkE [(1,(AV.ptr 0 0)),(3,(li i6)),(4,(ls cI (a_p0.free.getD i6.toNat ([]:List Int)))),(23,(AV.agg (cA 5 (eS cI) ([]:List Int) a_p0.free))),(24,(li i6)),(28,(ls cI (a_p0.free.getD i6.toNat ([]:List Int)))),(29,(li ((a_p0.free.getD i6.toNat ([]:List Int)).length:Int))),(30,(li i7))]) [.box 51 (zO a_p0)]∧zFp (zCQ a_p0 n5) a_p0 i6 n6 i7=some r) (z9,0) ⟨zAE [0] rfl rfl (by kernel_rfl),h⟩ ?_
      clear h
      rintro ⟨n6,i7⟩ e' H' ⟨hrep,h⟩
      cases n6 with
      | zero=>exact absurd (show (none:Option _)=some r from h) (by simp)
      | succ n6 =>
       replace h:zDT (zCQ a_p0 n5) a_p0 i6 (zFp (zCQ a_p0 n5) a_p0 i6 n6) i7=some r:=h
       unfold zDT at h
       refine zV hrep ?_
       clear hrep
       refine zI<|zC<|zA (ze rfl rfl)<|zF<|zI ?_
       refine zY h rfl (fun hb29 h => ?_) (fun hb29 h => ?_)
       ·refine zP<|zI<|zQ<|zI<|zC<|zA (zB rfl) ?_
        refine zM h fun hb30 h=>zA (zU underlying22 sizeOf3 (fun _=>rfl) rfl rfl hb30)<|zA (zW (o:=0) isAgg3 rfl rfl)<|zA (zD rfl)<|zA (zD rfl)<|zF ?_
        refine zI<|zI<|zC<|zA (zS (k:=0) (o:=0) (m:=10) isAgg51 sizeOf51 rfl rfl rfl rfl rfl)<|zA (zB rfl)<|zA (zB rfl) ?_
        refine zR h fun x4 hx4 h=>zAw (r':=(AV.lit (.bool x4))) (la:=[(AV.agg (zO a_p0)),(li (at_ (a_p0.free.getD i6.toNat ([]:List Int)) i7)),li i6]) (la':=[(AV.agg ([li a_p0.node,li a_p0.kind,li a_p0.start,li a_p0.count,li a_p0.min]++([AV.any,AV.any,AV.any,AV.any,AV.any]++[]))),(li (at_ (a_p0.free.getD i6.toNat ([]:List Int)) i7)),li i6]) (r:=(AV.lit (.bool x4))) (S:=[]) func86 rfl (by kernel_rfl) (.fn 86) rfl ⟨zLD (hd:=([li a_p0.node]++[li a_p0.kind]++[li a_p0.start]++[li a_p0.count]++[li a_p0.min])) (tl:=((cA 5 (eS cI) ([]:List Int) a_p0.free))) rfl,zAt.nr rfl,zAt.nr rfl,trivial⟩ (zFO hx4) (.inl rfl) rfl<|zA (zA6 (t:=x4) rfl)<|zF ?_
        refine zY h rfl (fun hb31 h => ?_) (fun hb31 h => ?_)
        ·refine zI<|zC<|zA (zD rfl)<|zF<|zb ?_
         show zAQ _ _ _ _ _ _
         obtain rfl:=Option.some.inj h
         exact zu (zAM rfl rfl)
        ·refine zP<|zI<|zC<|zA (zB rfl)<|zA (zAl rfl rfl)<|zA (zB rfl) ?_
         refine zo rfl rfl (fun hc8=>zt.step (zB rfl))<|zo rfl rfl (fun hc9=>zt.step (zB rfl))<|zM h fun hb32 h=>zo rfl rfl (fun hc10=>zt.step (zB8 (z5 rfl hc10) rfl (zGd hb32 hc10)))<|zM h fun hb33 h=>zo rfl rfl (fun hc11=>zt.step (zU underlying22 sizeOf3 (fun _=>rfl) (z5 rfl hc11) (z5 rfl hc11) (zGd hb33 hc11))) ?_
         refine zo rfl rfl (fun hc12=>zt.step (zW (o:=0) isAgg3 (z5 rfl hc12) rfl))<|zo rfl rfl (fun hc13=>zt.step (zB rfl))<|zo rfl rfl (fun hc14=>zt.step (zAp (z5 rfl hc14) (z5 rfl hc14)))<|zA (zz (j := .lit undef) rfl rfl)<|zF ?_
         refine zY h rfl (fun hb34 h => ?_) (fun hb34 h => ?_)
         ·refine zI<|zC<|zA (zD rfl)<|zF<|zb ?_
          show zAQ _ _ _ _ _ _
          obtain rfl:=Option.some.inj h
          exact zu (zAM rfl rfl)
         ·refine zP<|zC<|zM h fun hb35 h=>zA (zf rfl rfl hb35)<|zA (zB rfl)<|zF ?_
          exact ⟨(n6,(i7+1)),Nat.lt_succ_self _,zAE [0] rfl rfl (by kernel_rfl),h⟩
       ·refine zy ?_
        exact ⟨zAE [0] rfl rfl (by kernel_rfl),h⟩
     ·
      clear h
      rintro e' H' ⟨hrep,h⟩
      refine zV hrep ?_
      clear hrep
      unfold zHO at h
      refine zC<|zM h fun hb27 h=>zA (zf rfl rfl hb27)<|zA (zB rfl)<|zF ?_
      exact ⟨(n5,(i6+1)),Nat.lt_succ_self _,zAE [0] rfl rfl (by kernel_rfl),h⟩
    ·refine zy ?_
     exact ⟨zAE [0] rfl rfl (by kernel_rfl),h⟩
  ·
   clear h
   rintro e' H' ⟨hrep,h⟩
   refine zV hrep ?_
   clear hrep
   unfold zFj at h
   refine zI<|zC<|za (H':=[.box 51 (zO a_p0),.box 91 (cA 256 eB false (List.replicate 256 false))]) (zv (t:=91) (vs:=List.replicate 256 (.bool false)) (cs:=(cA 256 eB false (List.replicate 256 false))) zeroValue91 (by kernel_rfl) (by kernel_rfl) (zSJ (zh.refl _)))<|zF ?_
   refine zx (fun e' H'=>Rep 118 0 e' H' (mkE [(1,(AV.ptr 0 0))]) [.box 51 (zO a_p0)]∧zDn a_p0=some r) ?_ ?_
   ·
    refine zI<|zC<|zA (zK underlying51 rfl rfl sizeOf49 rfl)<|zA (zS (k:=0) (o:=5) (m:=5) isAgg49 sizeOf49 rfl rfl rfl rfl rfl)<|zA (zB rfl)<|zF ?_
    refine zQ<|z6 (σ:=Nat×Int×(List Bool)) (fun s=>s.1) (fun s e' H'=>match s with | (n2,i3,d1)=>Rep 118 0 e' H' (mkE [(1,(AV.ptr 0 0)),(7,(AV.ptr 1 0)),(54,(AV.agg (cA 5 (eS cI) ([]:List Int) a_p0.free))),(55,(li i3))]) [.box 51 (zO a_p0),.box 91 (cA 256 eB false d1)]∧zBB a_p0 n2 i3 d1=some r) (z9,0,(List.replicate 256 false)) ⟨zAE [0,1] rfl rfl (by kernel_rfl),h⟩ ?_
    clear h
    rintro ⟨n2,i3,d1⟩ e' H' ⟨hrep,h⟩
    cases n2 with
    | zero=>exact absurd (show (none:Option _)=some r from h) (by simp)
    | succ n2 =>
     replace h:zDW a_p0 (zBB a_p0 n2) i3 d1=some r:=h
     unfold zDW at h
     refine zV hrep ?_
     clear hrep
     refine zI<|zC<|zA (ze rfl rfl)<|zF<|zI ?_
     refine zY h rfl (fun hb13 h => ?_) (fun hb13 h => ?_)
     ·refine zP ?_
      refine zx (fun e' H' => ∃ (d2:List Bool),Rep 118 0 e' H' (mkE [(1,(AV.ptr 0 0)),(7,(AV.ptr 1 0)),(54,(AV.agg (cA 5 (eS cI) ([]:List Int) a_p0.free))),(55,(li i3))]) [.box 51 (zO a_p0),.box 91 (cA 256 eB false d2)]∧zHP (zBB a_p0 n2) i3 d2=some r) ?_ ?_
      ·
       refine zQ<|zI<|zC<|zA (zB rfl)<|zM h fun hb15 h=>zA (zMR (la:=cA 5 (eS cI) ([]:List Int) a_p0.free) (i:=i3) (a:=(ls cI (a_p0.free.getD i3.toNat ([]:List Int)))) underlying49 sizeOf22 isAgg22 rfl rfl hb15 (zO6 (zBK hb15).2) rfl) ?_
       refine zA (zD rfl)<|zA (zD rfl)<|zF<|zI<|zC<|zA (zB rfl) ?_
       refine zA (zX underlying22 rfl)<|zA (zB rfl)<|zF<|zQ<|z6 (σ:=Nat×Int×(List Bool)) (fun s=>s.1) (fun s e' H'=>match s with | (n3,i4,d3)=>Rep 118 0 e' H' (mkE [(1,(AV.ptr 0 0)),(7,(AV.ptr 1 0)),(8,(li i3)),(54,(AV.agg (cA 5 (eS cI) ([]:List Int) a_p0.free))),(55,(li i3)),(59,(ls cI (a_p0.free.getD i3.toNat ([]:List Int)))),(60,(li ((a_p0.free.getD i3.toNat ([]:List Int)).length:Int))),(61,(li i4))]) [.box 51 (zO a_p0),.box 91 (cA 256 eB false d3)]∧zBi (zBB a_p0 n2) a_p0 i3 n3 i4 d3=some r) (z9,0,d1) ⟨zAE [0,1] rfl rfl (by kernel_rfl),h⟩ ?_
       clear h
       rintro ⟨n3,i4,d3⟩ e' H' ⟨hrep,h⟩
       cases n3 with
       | zero=>exact absurd (show (none:Option _)=some r from h) (by simp)
       | succ n3 =>
        replace h:zDR (zBB a_p0 n2) a_p0 i3 (zBi (zBB a_p0 n2) a_p0 i3 n3) i4 d3=some r:=h
        unfold zDR at h
        refine zV hrep ?_
        clear hrep
        refine zI<|zC<|zA (ze rfl rfl)<|zF<|zI ?_
        refine zY h rfl (fun hb16 h => ?_) (fun hb16 h => ?_)
        ·refine zP ?_
         refine zx (fun e' H' => ∃ (d4:List Bool),Rep 118 0 e' H' (mkE [(1,(AV.ptr 0 0)),(7,(AV.ptr 1 0)),(8,(li i3)),(54,(AV.agg (cA 5 (eS cI) ([]:List Int) a_p0.free))),(55,(li i3)),(59,(ls cI (a_p0.free.getD i3.toNat ([]:List Int)))),(60,(li ((a_p0.free.getD i3.toNat ([]:List Int)).length:Int))),(61,(li i4))]) [.box 51 (zO a_p0),.box 91 (cA 256 eB false d4)]∧zHK (zBi (zBB a_p0 n2) a_p0 i3 n3) i4 d4=some r) ?_ ?_
         ·
          refine zQ<|zI<|zC<|zM h fun hb18 h=>zA (zU underlying22 sizeOf3 (fun _=>rfl) rfl rfl hb18)<|zA (zW (o:=0) isAgg3 rfl rfl) ?_
          refine zA (zD rfl)<|zF<|zI<|zC<|zA (zB rfl)<|zA (zD rfl) ?_
          refine zF<|zQ<|z6 (σ:=Nat×Int×(List Bool)) (fun s=>s.1) (fun s e' H'=>match s with | (n4,i5,d5)=>Rep 118 0 e' H' (mkE [(1,(AV.ptr 0 0)),(7,(AV.ptr 1 0)),(8,(li i3)),(11,(li (at_ (a_p0.free.getD i3.toNat ([]:List Int)) i4))),(12,(li i5)),(54,(AV.agg (cA 5 (eS cI) ([]:List Int) a_p0.free))),(55,(li i3)),(59,(ls cI (a_p0.free.getD i3.toNat ([]:List Int)))),(60,(li ((a_p0.free.getD i3.toNat ([]:List Int)).length:Int))),(61,(li i4))]) [.box 51 (zO a_p0),.box 91 (cA 256 eB false d5)]∧zFc (zBi (zBB a_p0 n2) a_p0 i3 n3) a_p0 i3 i4 n4 i5 d5=some r) (z9,(at_ (a_p0.free.getD i3.toNat ([]:List Int)) i4),d3) ⟨zAE [0,1] rfl rfl (by kernel_rfl),h⟩ ?_
          clear h
          rintro ⟨n4,i5,d5⟩ e' H' ⟨hrep,h⟩
          cases n4 with
          | zero=>exact absurd (show (none:Option _)=some r from h) (by simp)
          | succ n4 =>
           replace h:zDk (zBi (zBB a_p0 n2) a_p0 i3 n3) a_p0 i3 i4 (zFc (zBi (zBB a_p0 n2) a_p0 i3 n3) a_p0 i3 i4 n4) i5 d5=some r:=h
           unfold zDk at h
           refine zV hrep ?_
           clear hrep
           refine zI<|zI<|zC<|zA (zB rfl)<|zA (zB rfl)<|zA (zB rfl) ?_
           refine zM h fun hb19 h=>zM h fun hb20 h=>zA (zDI (a:=1) (b:=i3) rfl rfl hb19 hb20)<|zM h fun hb21 h=>zA (zf rfl rfl hb21)<|zA (ze rfl rfl) ?_
           refine zF ?_
           refine zY h rfl (fun hb22 h => ?_) (fun hb22 h => ?_)
           ·refine zP<|zI<|zQ<|zI<|zI<|zC ?_
            refine zA (zB rfl)<|zM h fun hb23 h=>zA (zAO (m:=256) (s:=1) (i:=i5) (k:=1) (o:=0) underlying91 sizeOf4 rfl rfl hb23)<|zA (zNd (k:=1) (o:=(0+i5.toNat*1)) (g:=eB) (d0:=false) (l:=d5) (N:=256) (i:=i5.toNat) (a:=(AV.lit (.bool (d5.getD i5.toNat false)))) isAgg4 rfl rfl (congrArg (fun q=>0+q) (Nat.mul_one _)) (zBK hb23).2 rfl rfl)<|zF ?_
            refine zY h rfl (fun hb24 h => ?_) (fun hb24 h => ?_)
            ·refine zI<|zC<|zA (zD rfl)<|zF<|zb ?_
             show zAQ _ _ _ _ _ _
             obtain rfl:=Option.some.inj h
             exact zu (zAM rfl rfl)
            ·refine zP<|zC<|zA (zB rfl)<|zA (zAO (m:=256) (s:=1) (i:=i5) (k:=1) (o:=0) underlying91 sizeOf4 rfl rfl hb23)<|zm (H':=[.box 51 (zO a_p0),.box 91 (cA 256 eB false (zDo 256 false d5 i5.toNat true))]) (zMj (k:=1) (o:=(0+i5.toNat*1)) (g:=eB) (d0:=false) (l:=d5) (N:=256) (i:=i5.toNat) (v:=true) (a:=(AV.lit (.bool true))) sizeOf4 rfl rfl (congrArg (fun q=>0+q) (Nat.mul_one _)) (zBK hb23).2 rfl rfl rfl)<|zF ?_
             refine zC<|zA (zB rfl)<|zM h fun hb25 h=>zA (zf rfl rfl hb25)<|zA (zD rfl)<|zF ?_
             exact ⟨(n4,(i5+1),(zDo 256 false d5 i5.toNat true)),Nat.lt_succ_self _,zAE [0,1] rfl rfl (by kernel_rfl),h⟩
           ·refine zy ?_
            exact ⟨d5,zAE [0,1] rfl rfl (by kernel_rfl),h⟩
         ·
          clear h
          rintro e' H' ⟨d4,hrep,h⟩
          refine zV hrep ?_
          clear hrep
          unfold zHK at h
          refine zC<|zM h fun hb17 h=>zA (zf rfl rfl hb17)<|zA (zB rfl)<|zF ?_
          exact ⟨(n3,(i4+1),d4),Nat.lt_succ_self _,zAE [0,1] rfl rfl (by kernel_rfl),h⟩
        ·refine zy ?_
         exact ⟨d3,zAE [0,1] rfl rfl (by kernel_rfl),h⟩
      ·
       clear h
       rintro e' H' ⟨d2,hrep,h⟩
       refine zV hrep ?_
       clear hrep
       unfold zHP at h
       refine zC<|zM h fun hb14 h=>zA (zf rfl rfl hb14)<|zA (zB rfl)<|zF ?_
       exact ⟨(n2,(i3+1),d2),Nat.lt_succ_self _,zAE [0,1] rfl rfl (by kernel_rfl),h⟩
     ·refine zy ?_
      exact ⟨zAE [0] rfl rfl (by kernel_rfl),h⟩
   ·
    clear h
    rintro e' H' ⟨hrep,h⟩
    refine zV hrep ?_
    clear hrep
    unfold zDn at h
    refine zx (fun e' H'=>Rep 118 0 e' H' (mkE []) []∧zIl  = some r) ?_ ?_
    ·
     refine zI<|zC<|zA (zB rfl)<|zF<|zQ<|z6 (σ:=Nat×Int) (fun s=>s.1) (fun s e' H'=>match s with | (n0,i1)=>Rep 118 0 e' H' (mkE [(1,(AV.ptr 0 0)),(81,(li i1))]) [.box 51 (zO a_p0)]∧zCI a_p0 n0 i1=some r) (z9,0) ⟨zAE [0] rfl rfl (by kernel_rfl),h⟩ ?_
     clear h
     rintro ⟨n0,i1⟩ e' H' ⟨hrep,h⟩
     cases n0 with
     | zero=>exact absurd (show (none:Option _)=some r from h) (by simp)
     | succ n0 =>
      replace h:zDP a_p0 (zCI a_p0 n0) i1=some r:=h
      unfold zDP at h
      refine zV hrep ?_
      clear hrep
      refine zI<|zC<|zA (ze rfl rfl)<|zF<|zI ?_
      refine zY h rfl (fun hb2 h => ?_) (fun hb2 h => ?_)
      ·refine zP ?_
       refine zx (fun e' H'=>Rep 118 0 e' H' (mkE [(1,(AV.ptr 0 0)),(81,(li i1))]) [.box 51 (zO a_p0)]∧zHC (zCI a_p0 n0) i1=some r) ?_ ?_
       ·
        refine zQ<|zI<|zC<|zA (zB rfl)<|zA (zD rfl)<|zF ?_
        refine zI<|zC<|zA (zB rfl)<|zA (zK underlying51 rfl rfl sizeOf49 rfl)<|zM h fun hb4 h=>zA (zAO (m:=5) (s:=1) (i:=i1) (k:=0) (o:=5) underlying49 sizeOf22 rfl rfl hb4) ?_
        refine zA (zAr (k:=0) (o:=(5+i1.toNat*1)) (cs:=(zO a_p0)) (hd:=([li a_p0.node]++[li a_p0.kind]++[li a_p0.start]++[li a_p0.count]++[li a_p0.min]++[])) (tl:=([])) (g:=(eS cI)) (d0:=([]:List Int)) (l:=a_p0.free) (N:=5) (i:=i1.toNat) (a:=(ls cI (a_p0.free.getD i1.toNat ([]:List Int)))) isAgg22 rfl rfl rfl (congrArg (fun q=>5+q) (Nat.mul_one _)) (zBK hb4).2 rfl rfl)<|zA (zX underlying22 rfl)<|zA (zB rfl)<|zF<|zQ<|z6 (σ:=Nat×Int) (fun s=>s.1) (fun s e' H'=>match s with | (n1,i2)=>Rep 118 0 e' H' (mkE [(1,(AV.ptr 0 0)),(13,(li i1)),(81,(li i1)),(87,(ls cI (a_p0.free.getD i1.toNat ([]:List Int)))),(88,(li ((a_p0.free.getD i1.toNat ([]:List Int)).length:Int))),(89,(li i2))]) [.box 51 (zO a_p0)]∧zFf (zCI a_p0 n0) a_p0 i1 n1 i2=some r) (z9,0) ⟨zAE [0] rfl rfl (by kernel_rfl),h⟩ ?_
        clear h
        rintro ⟨n1,i2⟩ e' H' ⟨hrep,h⟩
        cases n1 with
        | zero=>exact absurd (show (none:Option _)=some r from h) (by simp)
        | succ n1 =>
         replace h:zDi (zCI a_p0 n0) a_p0 i1 (zFf (zCI a_p0 n0) a_p0 i1 n1) i2=some r:=h
         unfold zDi at h
         refine zV hrep ?_
         clear hrep
         refine zI<|zC<|zA (ze rfl rfl)<|zF<|zI ?_
         refine zY h rfl (fun hb5 h => ?_) (fun hb5 h => ?_)
         ·refine zP<|zI<|zQ<|zI<|zC<|zM h fun hb6 h => ?_
          refine zA (zU underlying22 sizeOf3 (fun _=>rfl) rfl rfl hb6)<|zA (zW (o:=0) isAgg3 rfl rfl)<|zA (zD rfl)<|zF<|zI<|zC ?_
          refine zA (zB rfl)<|zA (zB rfl)<|zM h fun hb7 h=>zM h fun hb8 h=>zA (zDI (a:=1) (b:=i1) rfl rfl hb7 hb8)<|zA (zP5 (k := .i64) (a:=at_ (a_p0.free.getD i1.toNat ([]:List Int)) i2) (b:=(1:Int)*2 ^ i1.toNat) rfl rfl) ?_
          refine zA (zD rfl)<|zF<|zI<|zC<|zA (zB rfl)<|zA (zK underlying51 rfl rfl sizeOf49 rfl) ?_
          refine zM h fun hb9 h=>zA (zAO (m:=5) (s:=1) (i:=i1) (k:=0) (o:=5) underlying49 sizeOf22 rfl rfl hb9)<|zA (zAr (k:=0) (o:=(5+i1.toNat*1)) (cs:=(zO a_p0)) (hd:=([li a_p0.node]++[li a_p0.kind]++[li a_p0.start]++[li a_p0.count]++[li a_p0.min]++[])) (tl:=([])) (g:=(eS cI)) (d0:=([]:List Int)) (l:=a_p0.free) (N:=5) (i:=i1.toNat) (a:=(ls cI (a_p0.free.getD i1.toNat ([]:List Int)))) isAgg22 rfl rfl rfl (congrArg (fun q=>5+q) (Nat.mul_one _)) (zBK hb9).2 rfl rfl)<|zA (zB rfl)<|zR h fun x2 hx2 h=>zi func87 rfl (by kernel_rfl) (.fn 87) rfl rfl (zAz hx2) rfl ?_
          refine zA (zB rfl)<|zA (zg rfl rfl)<|zA (zg rfl rfl)<|zA (zD rfl)<|zA (zD rfl)<|zF ?_
          refine zI<|zC<|zA (zB rfl)<|zA (zB rfl)<|zo rfl rfl (fun hc1=>zt.step (zS (k:=0) (o:=0) (m:=10) isAgg51 sizeOf51 rfl rfl rfl rfl rfl))<|zo rfl rfl (fun hc2=>zt.step (zB rfl)) ?_
          refine zo rfl rfl (fun hc3=>zt.step (zB rfl))<|zo rfl rfl (fun hc4=>zt.step (zNU (a:=at_ (a_p0.free.getD i1.toNat ([]:List Int)) i2) (b:=zLO .xor .i64 (at_ (a_p0.free.getD i1.toNat ([]:List Int)) i2) ((1:Int)*2 ^ i1.toNat)) (z5 rfl hc4) (z5 rfl hc4)))<|zo rfl rfl (fun hc5=>zt.step (zB rfl))<|zM h fun hb10 h=>zo rfl rfl (fun hc6=>zt.step (zf (z5 rfl hc6) rfl (zGd hb10 hc6)))<|zR h fun x3 hx3 h => ?_
          refine zCp (g:=107) (s:=x2.2) (r':=(AV.lit (.bool x3))) rfl rfl (fun hc7=>⟨86,_,_,[],[(AV.agg (zO a_p0)),(li (min (at_ (a_p0.free.getD i1.toNat ([]:List Int)) i2) (zLO .xor .i64 (at_ (a_p0.free.getD i1.toNat ([]:List Int)) i2) ((1:Int)*2 ^ i1.toNat)))),(li (i1+1))],[(AV.agg ([li a_p0.node,li a_p0.kind,li a_p0.start,li a_p0.count,li a_p0.min]++([AV.any,AV.any,AV.any,AV.any,AV.any]++[]))),(li (min (at_ (a_p0.free.getD i1.toNat ([]:List Int)) i2) (zLO .xor .i64 (at_ (a_p0.free.getD i1.toNat ([]:List Int)) i2) ((1:Int)*2 ^ i1.toNat)))),(li (i1+1))],(AV.lit (.bool x3)),[],func86,rfl,by kernel_rfl,.fn 86,(zAK (z5 rfl hc7) (zAK (z5 rfl hc7) (zAK (z5 rfl hc7) rfl))),⟨zLD (hd:=([li a_p0.node]++[li a_p0.kind]++[li a_p0.start]++[li a_p0.count]++[li a_p0.min])) (tl:=((cA 5 (eS cI) ([]:List Int) a_p0.free))) rfl,zAt.nr rfl,zAt.nr rfl,trivial⟩,zFO (zF3 hc7 hx3),.inl rfl,rfl⟩)<|zA (zz (j := .lit undef) rfl rfl)<|zF ?_
          refine zY h rfl (fun hb11 h => ?_) (fun hb11 h => ?_)
          ·refine zI<|zC<|zA (zD rfl)<|zF<|zb ?_
           show zAQ _ _ _ _ _ _
           obtain rfl:=Option.some.inj h
           exact zu (zAM rfl rfl)
          ·refine zP<|zC<|zM h fun hb12 h=>zA (zf rfl rfl hb12)<|zA (zB rfl)<|zF ?_
           exact ⟨(n1,(i2+1)),Nat.lt_succ_self _,zAE [0] rfl rfl (by kernel_rfl),h⟩
         ·refine zy ?_
          exact ⟨zAE [0] rfl rfl (by kernel_rfl),h⟩
       ·
        clear h
        rintro e' H' ⟨hrep,h⟩
        refine zV hrep ?_
        clear hrep
        unfold zHC at h
        refine zC<|zM h fun hb3 h=>zA (zf rfl rfl hb3)<|zA (zB rfl)<|zF ?_
        exact ⟨(n0,(i1+1)),Nat.lt_succ_self _,zAE [0] rfl rfl (by kernel_rfl),h⟩
      ·refine zy ?_
       exact ⟨zAE [] rfl rfl (by kernel_rfl),h⟩
    ·
     clear h
     rintro e' H' ⟨hrep,h⟩
     refine zV hrep ?_
     clear hrep
     unfold zIl at h
     refine zI<|zC<|zA (zD rfl)<|zF<|zb ?_
     show zAQ _ _ _ _ _ _
     obtain rfl:=Option.some.inj h
     exact zu (zAM rfl rfl)
theorem zHA {a_f:Int} {r:Bool} (h:zDh a_f=some r):PFn prog 88 [li a_f] (AV.lit (.bool r)):=by
 refine zq func88 rfl ntmps88 results88 rfl ?_
 unfold zDh at h
 refine zI<|zC<|zA (zD rfl)<|zF<|zI<|zC ?_
 refine zA (zB rfl)<|zA (zAp rfl rfl)<|zA (zB rfl)<|zo rfl rfl (fun hc1=>zt.step (zB rfl))<|zo rfl rfl (fun hc2=>zt.step (ze (z5 rfl hc2) rfl))<|zA (zz (j := .lit undef) rfl rfl) ?_
 refine zA (zD rfl)<|zF<|zb ?_
 show zAQ _ _ _ _ _ _
 obtain rfl:=Option.some.inj h
 exact zu (zAM rfl rfl)
theorem zHm {a_c:zL} {r:List (Int×Bool)} (h:zDM a_c=some r):PFn prog 89 [(AV.agg (zH a_c))] (AV.omap (mI Value.bool r)):=by
 refine zq func89 rfl ntmps89 results89 rfl ?_
 unfold zDM at h
 refine zI<|zC<|za (H':=[.box 55 (zH a_c)]) (zw (t:=55) rfl)<|zA (zD rfl)<|zF<|zI ?_
 refine zC<|za (H':=[.box 55 (zH a_c),.map (mI Value.bool ([]:List (Int×Bool)))]) (zKl)<|zA (zD rfl)<|zF ?_
 refine zx (fun e' H' => ∃ (l1:List (Int×Bool)),Rep 27 0 e' H' (mkE [(3,(AV.hd 0))]) [.map (mI Value.bool l1)]∧zHe l1=some r) ?_ ?_
 ·
  refine zI<|zC<|zA (zK underlying55 rfl rfl sizeOf53 rfl)<|zA (zN isAgg53 rfl rfl rfl rfl)<|zA (zX underlying53 rfl)<|zA (zB rfl) ?_
  refine zF<|zQ<|z6 (σ:=Nat×Int×(List (Int×Bool))) (fun s=>s.1) (fun s e' H'=>match s with | (n0,i1,l2)=>Rep 27 0 e' H' (mkE [(3,(AV.hd 0)),(10,(ls (cS cI) a_c.lists)),(11,(li (a_c.lists.length:Int))),(12,(li i1))]) [.map (mI Value.bool l2)]∧zBa a_c n0 i1 l2=some r) (z9,0,([]:List (Int×Bool))) ⟨zAE [1] rfl rfl (by kernel_rfl),h⟩ ?_
  clear h
  rintro ⟨n0,i1,l2⟩ e' H' ⟨hrep,h⟩
  cases n0 with
  | zero=>exact absurd (show (none:Option _)=some r from h) (by simp)
  | succ n0 =>
   replace h:zCc a_c (zBa a_c n0) i1 l2=some r:=h
   unfold zCc at h
   refine zV hrep ?_
   clear hrep
   refine zI<|zC<|zA (ze rfl rfl)<|zF<|zI ?_
   refine zY h rfl (fun hb1 h => ?_) (fun hb1 h => ?_)
   ·refine zP ?_
    refine zx (fun e' H' => ∃ (l3:List (Int×Bool)),Rep 27 0 e' H' (mkE [(3,(AV.hd 0)),(10,(ls (cS cI) a_c.lists)),(11,(li (a_c.lists.length:Int))),(12,(li i1))]) [.map (mI Value.bool l3)]∧zFw (zBa a_c n0) i1 l3=some r) ?_ ?_
    ·
     refine zQ<|zI<|zC<|zM h fun hb3 h=>zA (zU underlying53 sizeOf22 (fun _=>rfl) rfl rfl hb3)<|zA (zW (o:=0) isAgg22 rfl rfl) ?_
     refine zA (zD rfl)<|zF<|zI<|zC<|zA (zB rfl)<|zA (zX underlying22 rfl) ?_
     refine zA (zB rfl)<|zF<|zQ<|z6 (σ:=Nat×Int×(List (Int×Bool))) (fun s=>s.1) (fun s e' H'=>match s with | (n1,i2,l4)=>Rep 27 0 e' H' (mkE [(3,(AV.hd 0)),(10,(ls (cS cI) a_c.lists)),(11,(li (a_c.lists.length:Int))),(12,(li i1)),(16,(ls cI (at_ a_c.lists i1))),(17,(li ((at_ a_c.lists i1).length:Int))),(18,(li i2))]) [.map (mI Value.bool l4)]∧zEa (zBa a_c n0) a_c i1 n1 i2 l4=some r) (z9,0,l2) ⟨zAE [0] rfl rfl (by kernel_rfl),h⟩ ?_
     clear h
     rintro ⟨n1,i2,l4⟩ e' H' ⟨hrep,h⟩
     cases n1 with
     | zero=>exact absurd (show (none:Option _)=some r from h) (by simp)
     | succ n1 =>
      replace h:zCb (zBa a_c n0) a_c i1 (zEa (zBa a_c n0) a_c i1 n1) i2 l4=some r:=h
      unfold zCb at h
      refine zV hrep ?_
      clear hrep
      refine zI<|zC<|zA (ze rfl rfl)<|zF<|zI ?_
      refine zY h rfl (fun hb4 h => ?_) (fun hb4 h => ?_)
      ·refine zP<|zI<|zQ<|zI<|zC<|zM h fun hb5 h => ?_
       refine zA (zU underlying22 sizeOf3 (fun _=>rfl) rfl rfl hb5)<|zA (zW (o:=0) isAgg3 rfl rfl)<|zA (zD rfl)<|zF<|zC<|zA (zB rfl) ?_
       refine zA (zB rfl)<|zm (H':=[.map (mI Value.bool (zJd l4 (at_ (at_ a_c.lists i1) i2) true))]) (zMb (k:=0) (g:=Value.bool) (q:=at_ (at_ a_c.lists i1) i2) (l:=l4) (v:=true) underlying58 underlying3 rfl rfl rfl rfl)<|zF<|zC<|zM h fun hb6 h=>zA (zf rfl rfl hb6) ?_
       refine zA (zB rfl)<|zF ?_
       exact ⟨(n1,(i2+1),(zJd l4 (at_ (at_ a_c.lists i1) i2) true)),Nat.lt_succ_self _,zAE [0] rfl rfl (by kernel_rfl),h⟩
      ·refine zy ?_
       exact ⟨l4,zAE [0] rfl rfl (by kernel_rfl),h⟩
    ·
     clear h
     rintro e' H' ⟨l3,hrep,h⟩
     refine zV hrep ?_
     clear hrep
     unfold zFw at h
     refine zC<|zM h fun hb2 h=>zA (zf rfl rfl hb2)<|zA (zB rfl)<|zF ?_
     exact ⟨(n0,(i1+1),l3),Nat.lt_succ_self _,zAE [0] rfl rfl (by kernel_rfl),h⟩
   ·refine zy ?_
    exact ⟨l2,zAE [0] rfl rfl (by kernel_rfl),h⟩
 ·
  clear h
  rintro e' H' ⟨l1,hrep,h⟩
  refine zV hrep ?_
  clear hrep
  unfold zHe at h
  refine zI<|zC<|zA (zB rfl)<|zA (zD rfl)<|zF<|zb ?_
  show zAQ _ _ _ _ _ _
  obtain rfl:=Option.some.inj h
  exact zu (zVz rfl rfl)
theorem zJ9 {a_c:zL} {a_zones:Int} {r:Int} (h:zF9 a_c a_zones=some r):PFn prog 43 [(AV.agg (zH a_c)),li a_zones] (li r):=by
 refine zq func43 rfl ntmps43 results43 rfl ?_
 unfold zF9 at h
 refine zI<|zC<|za (H':=[.box 55 (zH a_c)]) (zw (t:=55) rfl)<|zA (zD rfl)<|zF<|zI ?_
 refine zI<|zC<|zA (zB rfl)<|zA (ze rfl rfl)<|zA (zB rfl)<|zT rfl rfl (fun hc1=>zt.step (zB rfl)) ?_
 refine zT rfl rfl (fun hc2=>zt.step (zAl (z5 rfl hc2) rfl))<|zA (zd rfl rfl)<|zF ?_
 refine zY h rfl (fun hb1 h => ?_) (fun hb1 h => ?_)
 ·refine zI<|zC<|zA (zD rfl)<|zF<|zb ?_
  show zAQ _ _ _ _ _ _
  obtain rfl:=Option.some.inj h
  exact zu (zAM rfl rfl)
 ·refine zP<|zI<|zI<|zC<|zA (zK underlying55 rfl rfl sizeOf53 rfl)<|zA (zN isAgg53 rfl rfl rfl rfl) ?_
  refine zA (zX underlying53 rfl)<|zA (zB rfl)<|zA (z7 rfl rfl)<|zF ?_
  refine zY h rfl (fun hb2 h => ?_) (fun hb2 h => ?_)
  ·refine zI<|zC<|zA (zD rfl)<|zF<|zb ?_
   show zAQ _ _ _ _ _ _
   obtain rfl:=Option.some.inj h
   exact zu (zAM rfl rfl)
  ·refine zP<|zI<|zC<|zA (zD rfl)<|zF ?_
   refine zx (fun e' H' => ∃ (i1:Int),Rep 48 0 e' H' (mkE [(2,(AV.ptr 0 0)),(5,(li i1))]) [.box 55 (zH a_c)]∧zFM a_c i1=some r) ?_ ?_
   ·
    refine zI<|zC<|zA (zK underlying55 rfl rfl sizeOf53 rfl)<|zA (zN isAgg53 rfl rfl rfl rfl)<|zA (zX underlying53 rfl)<|zA (zB rfl) ?_
    refine zF<|zQ<|z6 (σ:=Nat×Int×Int) (fun s=>s.1) (fun s e' H'=>match s with | (n0,i2,i3)=>Rep 48 0 e' H' (mkE [(2,(AV.ptr 0 0)),(5,(li i2)),(22,(ls (cS cI) a_c.lists)),(23,(li (a_c.lists.length:Int))),(24,(li i3))]) [.box 55 (zH a_c)]∧zBX a_c n0 i2 i3=some r) (z9,0,0) ⟨zAE [0] rfl rfl (by kernel_rfl),h⟩ ?_
    clear h
    rintro ⟨n0,i2,i3⟩ e' H' ⟨hrep,h⟩
    cases n0 with
    | zero=>exact absurd (show (none:Option _)=some r from h) (by simp)
    | succ n0 =>
     replace h:zCu a_c (zBX a_c n0) i2 i3=some r:=h
     unfold zCu at h
     refine zV hrep ?_
     clear hrep
     refine zI<|zC<|zA (ze rfl rfl)<|zF<|zI ?_
     refine zY h rfl (fun hb4 h => ?_) (fun hb4 h => ?_)
     ·refine zP ?_
      refine zx (fun e' H'=>Rep 48 0 e' H' (mkE [(2,(AV.ptr 0 0)),(5,(li (i2+((at_ a_c.lists i3).length:Int)))),(22,(ls (cS cI) a_c.lists)),(23,(li (a_c.lists.length:Int))),(24,(li i3))]) [.box 55 (zH a_c)]∧zGI (zBX a_c n0) a_c i2 i3=some r) ?_ ?_
      ·
       refine zQ<|zI<|zC<|zM h fun hb6 h=>zA (zU underlying53 sizeOf22 (fun _=>rfl) rfl rfl hb6)<|zA (zW (o:=0) isAgg22 rfl rfl) ?_
       refine zA (zD rfl)<|zF ?_
       refine zx (fun e' H'=>Rep 48 0 e' H' (mkE [(2,(AV.ptr 0 0)),(5,(li i2)),(7,(ls cI (at_ a_c.lists i3))),(22,(ls (cS cI) a_c.lists)),(23,(li (a_c.lists.length:Int))),(24,(li i3))]) [.box 55 (zH a_c)]∧zGr (zBX a_c n0) a_c i2 i3=some r) ?_ ?_
       ·
        refine zI<|zC<|zA (zB rfl)<|zA (zX underlying22 rfl)<|zA (zB rfl)<|zF ?_
        refine zQ<|z6 (σ:=Nat×Int) (fun s=>s.1) (fun s e' H'=>match s with | (n1,i4)=>Rep 48 0 e' H' (mkE [(2,(AV.ptr 0 0)),(5,(li i2)),(7,(ls cI (at_ a_c.lists i3))),(22,(ls (cS cI) a_c.lists)),(23,(li (a_c.lists.length:Int))),(24,(li i3)),(28,(ls cI (at_ a_c.lists i3))),(29,(li ((at_ a_c.lists i3).length:Int))),(30,(li i4))]) [.box 55 (zH a_c)]∧zE5 (zBX a_c n0) a_c i2 i3 n1 i4=some r) (z9,0) ⟨zAE [0] rfl rfl (by kernel_rfl),h⟩ ?_
        clear h
        rintro ⟨n1,i4⟩ e' H' ⟨hrep,h⟩
        cases n1 with
        | zero=>exact absurd (show (none:Option _)=some r from h) (by simp)
        | succ n1 =>
         replace h:zC2 (zBX a_c n0) a_c i2 i3 (zE5 (zBX a_c n0) a_c i2 i3 n1) i4=some r:=h
         unfold zC2 at h
         refine zV hrep ?_
         clear hrep
         refine zI<|zC<|zA (ze rfl rfl)<|zF<|zI ?_
         refine zY h rfl (fun hb8 h => ?_) (fun hb8 h => ?_)
         ·refine zP<|zI<|zQ<|zI<|zC<|zM h fun hb9 h => ?_
          refine zA (zU underlying22 sizeOf3 (fun _=>rfl) rfl rfl hb9)<|zA (zW (o:=0) isAgg3 rfl rfl)<|zA (zD rfl)<|zF<|zI<|zC ?_
          refine zA (zB rfl)<|zR h fun x2 hx2 h=>zi func88 rfl (by kernel_rfl) (.fn 88) rfl rfl (zHA hx2) rfl<|zA (zA6 (t:=x2) rfl)<|zF ?_
          refine zY h rfl (fun hb10 h => ?_) (fun hb10 h => ?_)
          ·refine zI<|zC<|zA (zD rfl)<|zF<|zb ?_
           show zAQ _ _ _ _ _ _
           obtain rfl:=Option.some.inj h
           exact zu (zAM rfl rfl)
          ·refine zP<|zC<|zM h fun hb11 h=>zA (zf rfl rfl hb11)<|zA (zB rfl)<|zF ?_
           exact ⟨(n1,(i4+1)),Nat.lt_succ_self _,zAE [0] rfl rfl (by kernel_rfl),h⟩
         ·refine zy ?_
          exact ⟨zAE [0] rfl rfl (by kernel_rfl),h⟩
       ·
        clear h
        rintro e' H' ⟨hrep,h⟩
        refine zV hrep ?_
        clear hrep
        unfold zGr at h
        refine zC<|zA (zB rfl)<|zA (zB rfl)<|zA (zX underlying22 rfl)<|zM h fun hb7 h=>zA (zf rfl rfl hb7) ?_
        refine zA (zD rfl)<|zF ?_
        exact ⟨zAE [0] rfl rfl (by kernel_rfl),h⟩
      ·
       clear h
       rintro e' H' ⟨hrep,h⟩
       refine zV hrep ?_
       clear hrep
       unfold zGI at h
       refine zC<|zM h fun hb5 h=>zA (zf rfl rfl hb5)<|zA (zB rfl)<|zF ?_
       exact ⟨(n0,(i2+((at_ a_c.lists i3).length:Int)),(i3+1)),Nat.lt_succ_self _,zAE [0] rfl rfl (by kernel_rfl),h⟩
     ·refine zy ?_
      exact ⟨i2,zAE [0] rfl rfl (by kernel_rfl),h⟩
   ·
    clear h
    rintro e' H' ⟨i1,hrep,h⟩
    refine zV hrep ?_
    clear hrep
    unfold zFM at h
    refine zI<|zI<|zC<|zA (zS (k:=0) (o:=0) (m:=1) isAgg55 sizeOf55 rfl rfl rfl rfl rfl)<|zR h fun x1 hx1 h=>zMT (es:=mI Value.bool x1) (la:=[(AV.agg (zH a_c))]) (la':=[(AV.agg (zH a_c))]) (S:=[]) func89 rfl (by kernel_rfl) (.fn 89) rfl ⟨zAt.nr rfl,trivial⟩ (zHm hx1) ?_
    refine zA (zQ6 (k:=1) (g:=Value.bool) (l:=x1) underlying58 rfl rfl)<|zA (zB rfl)<|zA (z7 rfl rfl)<|zF ?_
    refine zY h rfl (fun hb3 h => ?_) (fun hb3 h => ?_)
    ·refine zI<|zC<|zA (zD rfl)<|zF<|zb ?_
     show zAQ _ _ _ _ _ _
     obtain rfl:=Option.some.inj h
     exact zu (zAM rfl rfl)
    ·refine zP<|zI<|zC<|zA (zD rfl)<|zF<|zb ?_
     show zAQ _ _ _ _ _ _
     obtain rfl:=Option.some.inj h
     exact zu (zAM rfl rfl)
theorem zKT {a_z:zp} {c_0:Int} {r:Bool} (h:zCZ a_z c_0=some r):PFn prog 91 [(AV.agg (zO a_z)),(AV.rp [li c_0] 0)] (AV.lit (.bool r)):=by
 refine zq func91 rfl ntmps91 results91 rfl ?_
 unfold zCZ at h
 refine zI<|zC<|za (H':=[.box 51 (zO a_z)]) (zw (t:=51) rfl)<|zA (zD rfl)<|zF<|zI ?_
 refine zC<|zA (zW (o:=0) isAgg3 rfl rfl)<|zA (zK underlying51 rfl rfl sizeOf3 rfl)<|zA (zN isAgg3 rfl rfl rfl rfl)<|zA (zAp rfl rfl)<|zA (zB rfl) ?_
 refine zo rfl rfl (fun hc1=>zt.step (zW (o:=0) isAgg3 rfl rfl))<|zo rfl rfl (fun hc2=>zt.step (zK underlying51 rfl rfl sizeOf3 rfl))<|zo rfl rfl (fun hc3=>zt.step (zN isAgg3 (z5 rfl hc3) rfl rfl rfl))<|zo rfl rfl (fun hc4=>zt.step (zK underlying51 rfl rfl sizeOf3 rfl))<|zo rfl rfl (fun hc5=>zt.step (zN isAgg3 (z5 rfl hc5) rfl rfl rfl))<|zM h fun hb1 h => ?_
 refine zo rfl rfl (fun hc6=>zt.step (zf (z5 rfl hc6) (z5 rfl hc6) (zGd hb1 hc6)))<|zo rfl rfl (fun hc7=>zt.step (ze (z5 rfl hc7) (z5 rfl hc7)))<|zA (zz (j := .lit undef) rfl rfl)<|zA (zD rfl)<|zF<|zb ?_
 show zAQ _ _ _ _ _ _
 obtain rfl:=Option.some.inj h
 exact zu (zAM rfl rfl)
theorem zFU {a_s : List zp} {a_f : zp → Option Bool} {g_a_f : FuncId} {cf_a_f : Func} {code_a_f : Code} {caps_a_f : List AV} (hcf_a_f : Tryz.prog.funcs[g_a_f]? = some cf_a_f) (hcb_a_f : cf_a_f.body = some code_a_f) (hcn_a_f : (cf_a_f.name == "runtime.NumGoroutine") = false) (hnr_a_f : caps_a_f.all nr = true) (hg_a_f : ∀ {x0 : zp} {y : Bool}, a_f x0 = some y → PFn prog g_a_f ((AV.agg (zO x0)) :: caps_a_f) (AV.lit (.bool y))) {r : Int} (h : zA7 a_s a_f = some r) : PFn prog 90 [(ls zO a_s), (AV.clo g_a_f caps_a_f)] (li r) := by
 refine zq func90 rfl ntmps90 results90 rfl ?_
 unfold zA7 at h
 refine zI<|zC<|zA (zD rfl)<|zF ?_
 refine zx (fun e' H'=>Rep 19 0 e' H' (mkE []) []∧zBH  = some r) ?_ ?_
 ·
  refine zI<|zC<|zA (zB rfl)<|zA (zX underlying23 rfl)<|zA (zB rfl)<|zF ?_
  refine zQ<|z6 (σ:=Nat×Int) (fun s=>s.1) (fun s e' H'=>match s with | (n0,i1)=>Rep 19 0 e' H' (mkE [(0,(ls zO a_s)),(1,(AV.clo g_a_f caps_a_f)),(7,(li (a_s.length:Int))),(8,(li i1))]) []∧zAd a_s a_f n0 i1=some r) (z9,0) ⟨zBe (n:=19) (m:=0) [] (l:=[(0,(ls zO a_s)),(1,(AV.clo g_a_f caps_a_f)),(7,(li (a_s.length:Int))),(8,(li 0))]) ⟨⟨Sub.refl _,by kernel_rfl⟩,⟨zEj hnr_a_f,zEk hnr_a_f⟩,⟨Sub.refl _,by kernel_rfl⟩,⟨Sub.refl _,by kernel_rfl⟩,trivial⟩ rfl rfl trivial,h⟩ ?_
  clear h
  rintro ⟨n0,i1⟩ e' H' ⟨hrep,h⟩
  cases n0 with
  | zero=>exact absurd (show (none:Option _)=some r from h) (by simp)
  | succ n0 =>
   replace h:zAH a_s a_f (zAd a_s a_f n0) i1=some r:=h
   unfold zAH at h
   refine zV hrep ?_
   clear hrep
   refine zI<|zC<|zA (ze rfl rfl)<|zF<|zI ?_
   refine zY h rfl (fun hb1 h => ?_) (fun hb1 h => ?_)
   ·refine zP<|zI<|zQ<|zI<|zC<|zA (zB rfl) ?_
    refine zA (zD rfl)<|zF<|zI<|zC<|zA (zB rfl)<|zA (zB rfl) ?_
    refine zA (zB rfl)<|zM h fun hb2 h=>zA (zU underlying23 sizeOf51 (fun _=>rfl) rfl rfl hb2)<|zA (zAb (row:=(zO (at_ a_s i1))) (o:=0) (m:=10) (la:=(zO (at_ a_s i1))) isAgg51 sizeOf51 rfl rfl rfl)<|zR h fun x1 hx1 h=>zAw (S:=[]) hcf_a_f hcb_a_f hcn_a_f (.clo (caps:=caps_a_f) rfl) rfl (zDY.c (zAt.nr rfl) (zDY.nrs hnr_a_f)) (hg_a_f hx1) (.inl rfl) rfl ?_
    refine zF ?_
    refine zY h rfl (fun hb3 h => ?_) (fun hb3 h => ?_)
    ·refine zI<|zC<|zA (zB rfl)<|zA (zD rfl)<|zF<|zb ?_
     show zAQ _ _ _ _ _ _
     obtain rfl:=Option.some.inj h
     exact zu (zAM rfl rfl)
    ·refine zP<|zC<|zM h fun hb4 h=>zA (zf rfl rfl hb4)<|zA (zB rfl)<|zF ?_
     exact ⟨(n0,(i1+1)),Nat.lt_succ_self _,zBe (n:=19) (m:=0) [] (l:=[(0,(ls zO a_s)),(1,(AV.clo g_a_f caps_a_f)),(7,(li (a_s.length:Int))),(8,(li (i1+1)))]) ⟨⟨Sub.refl _,by kernel_rfl⟩,⟨zEj hnr_a_f,zEk hnr_a_f⟩,⟨Sub.refl _,by kernel_rfl⟩,⟨Sub.refl _,by kernel_rfl⟩,trivial⟩ rfl rfl trivial,h⟩
   ·refine zy ?_
    exact ⟨zAE [] rfl rfl (by kernel_rfl),h⟩
 ·
  clear h
  rintro e' H' ⟨hrep,h⟩
  refine zV hrep ?_
  clear hrep
  unfold zBH at h
  refine zI<|zC<|zA (zD rfl)<|zF<|zb ?_
  show zAQ _ _ _ _ _ _
  obtain rfl:=Option.some.inj h
  exact zu (zAM rfl rfl)
theorem zFW {a_a:zJ} {a_frame:Int} {r:Int} (h:zCn a_a a_frame=some r):PFn prog 44 [(AV.agg (zG a_a)),li a_frame] (li r):=by
 refine zq func44 rfl ntmps44 results44 rfl ?_
 unfold zCn at h
 refine zI<|zC<|za (H':=[.box 26 (zG a_a)]) (zw (t:=26) rfl)<|za (H':=[.box 26 (zG a_a),.box 3 [li a_frame]]) (zI6 (t:=3) (a:=(li a_frame)) rfl rfl)<|zA (zD rfl)<|zF ?_
 refine zI<|zC<|zA (zK underlying26 rfl rfl sizeOf23 rfl)<|zA (zN isAgg23 rfl rfl rfl rfl)<|zA (zK4 (la:=[AV.ptr 1 0]) rfl)<|zR h fun x1 hx1 h => ?_
 refine zAw (r':=(li x1)) (la:=[ls zO a_a.zones,(AV.clo 91 [AV.ptr 1 0])]) (la':=[ls zO a_a.zones,(AV.clo 91 [(AV.rp [li a_frame] 0)])]) (r:=(li x1)) (S:=[1]) func90 rfl (by kernel_rfl) (.fn 90) rfl ⟨zAt.nr rfl,zAt.clo (⟨zAt.ptr (cs:=[li a_frame]) rfl rfl rfl,trivial⟩),trivial⟩ (zFU func91 rfl (by kernel_rfl) rfl (fun hy=>zKT  hy) hx1) (.inr trivial) rfl<|zA (zD rfl)<|zF<|zb ?_
 show zAQ _ _ _ _ _ _
 obtain rfl:=Option.some.inj h
 exact zu (zAM rfl rfl)
theorem zKN {a_z:zp} {a_frame:Int} {r:Int×Int} (h:zG9 a_z a_frame=some r):PFn prog 92 [(AV.agg (zO a_z)),li a_frame] (AV.tup [li r.1,li r.2]):=by
 refine zq func92 rfl ntmps92 results92 rfl ?_
 unfold zG9 at h
 refine zI<|zC<|za (H':=[.box 51 (zO a_z)]) (zw (t:=51) rfl)<|zA (zD rfl)<|zA (zD rfl)<|zF ?_
 refine zx (fun e' H'=>Rep 31 0 e' H' (mkE []) []∧zIu  = some r) ?_ ?_
 ·
  refine zI<|zC<|zA (zB rfl)<|zF<|zQ<|z6 (σ:=Nat×Int) (fun s=>s.1) (fun s e' H'=>match s with | (n0,i1)=>Rep 31 0 e' H' (mkE [(1,(li a_frame)),(2,(AV.ptr 0 0)),(10,(li i1))]) [.box 51 (zO a_z)]∧zDe a_z a_frame n0 i1=some r) (z9,0) ⟨zAE [0] rfl rfl (by kernel_rfl),h⟩ ?_
  clear h
  rintro ⟨n0,i1⟩ e' H' ⟨hrep,h⟩
  cases n0 with
  | zero=>exact absurd (show (none:Option _)=some r from h) (by simp)
  | succ n0 =>
   replace h:zDQ a_z a_frame (zDe a_z a_frame n0) i1=some r:=h
   unfold zDQ at h
   refine zV hrep ?_
   clear hrep
   refine zI<|zC<|zA (ze rfl rfl)<|zF<|zI ?_
   refine zY h rfl (fun hb1 h => ?_) (fun hb1 h => ?_)
   ·refine zP<|zI<|zQ<|zI<|zC<|zA (zB rfl) ?_
    refine zA (zD rfl)<|zF<|zI<|zC<|zA (zB rfl)<|zA (zB rfl) ?_
    refine zM h fun hb2 h=>zM h fun hb3 h=>zA (zDI (a:=1) (b:=i1) rfl rfl hb2 hb3)<|zM h fun hb4 h=>zA (zB8 rfl rfl hb4)<|zA (zO1 (k := .i64) (a:=a_frame) (b:=((1:Int)*2 ^ i1.toNat) - 1) rfl rfl) ?_
    refine zA (zD rfl)<|zF<|zI<|zC<|zA (zB rfl)<|zA (zK underlying51 rfl rfl sizeOf49 rfl) ?_
    refine zM h fun hb5 h=>zA (zAO (m:=5) (s:=1) (i:=i1) (k:=0) (o:=5) underlying49 sizeOf22 rfl rfl hb5)<|zA (zAr (k:=0) (o:=(5+i1.toNat*1)) (cs:=(zO a_z)) (hd:=([li a_z.node]++[li a_z.kind]++[li a_z.start]++[li a_z.count]++[li a_z.min]++[])) (tl:=([])) (g:=(eS cI)) (d0:=([]:List Int)) (l:=a_z.free) (N:=5) (i:=i1.toNat) (a:=(ls cI (a_z.free.getD i1.toNat ([]:List Int)))) isAgg22 rfl rfl rfl (congrArg (fun q=>5+q) (Nat.mul_one _)) (zBK hb5).2 rfl rfl)<|zA (zB rfl)<|zR h fun x1 hx1 h=>zi func87 rfl (by kernel_rfl) (.fn 87) rfl rfl (zAz hx1) rfl ?_
    refine zA (zB rfl)<|zA (zg rfl rfl)<|zA (zg rfl rfl)<|zA (zD rfl)<|zA (zD rfl)<|zF ?_
    refine zI<|zC<|zA (zB rfl)<|zF ?_
    refine zY h rfl (fun hb6 h => ?_) (fun hb6 h => ?_)
    ·refine zI<|zC<|zA (zB rfl)<|zA (zB rfl)<|zA (zD rfl)<|zA (zD rfl) ?_
     refine zF<|zb ?_
     show zAQ _ _ _ _ _ _
     obtain rfl:=Option.some.inj h
     exact zCR (zAM rfl rfl) (zAM rfl rfl) rfl
    ·refine zP<|zC<|zM h fun hb7 h=>zA (zf rfl rfl hb7)<|zA (zB rfl)<|zF ?_
     exact ⟨(n0,(i1+1)),Nat.lt_succ_self _,zAE [0] rfl rfl (by kernel_rfl),h⟩
   ·refine zy ?_
    exact ⟨zAE [] rfl rfl (by kernel_rfl),h⟩
 ·
  clear h
  rintro e' H' ⟨hrep,h⟩
  refine zV hrep ?_
  clear hrep
  unfold zIu at h
  refine zI<|zC<|zA (zD rfl)<|zA (zD rfl)<|zF<|zb ?_
  show zAQ _ _ _ _ _ _
  obtain rfl:=Option.some.inj h
  exact zCR (zAM rfl rfl) (zAM rfl rfl) rfl
theorem zJn {a_z:zp} {a_frame:Int} {r:Bool} (h:zF8 a_z a_frame=some r):PFn prog 45 [(AV.agg (zO a_z)),li a_frame] (AV.lit (.bool r)):=by
 refine zq func45 rfl ntmps45 results45 rfl ?_
 unfold zF8 at h
 refine zI<|zC<|za (H':=[.box 51 (zO a_z)]) (zw (t:=51) rfl)<|zA (zD rfl)<|zF<|zI ?_
 refine zI<|zC<|zA (zS (k:=0) (o:=0) (m:=10) isAgg51 sizeOf51 rfl rfl rfl rfl rfl)<|zR h fun x1 hx1 h=>zi func42 rfl (by kernel_rfl) (.fn 42) rfl rfl (zEi hx1) rfl<|zA (z7 rfl rfl) ?_
 refine zA (zB rfl)<|zT rfl rfl (fun hc1=>zt.step (zS (k:=0) (o:=0) (m:=10) isAgg51 sizeOf51 rfl rfl rfl rfl rfl))<|zT rfl rfl (fun hc2=>zt.step (zB rfl))<|zR h fun x2 hx2 h=>zCA (g:=10) (s := !decide (x1=0)) (r':=(AV.lit (.bool x2))) rfl rfl (fun hc3=>⟨86,_,_,[],[(AV.agg (zO a_z)),li a_frame,li 0],[(AV.agg ([li a_z.node,li a_z.kind,li a_z.start,li a_z.count,li a_z.min]++([AV.any,AV.any,AV.any,AV.any,AV.any]++[]))),li a_frame,li 0],(AV.lit (.bool x2)),[],func86,rfl,by kernel_rfl,.fn 86,(zAK (z5 rfl hc3) (zAK (z5 rfl hc3) (zAK rfl rfl))),⟨zLD (hd:=([li a_z.node]++[li a_z.kind]++[li a_z.start]++[li a_z.count]++[li a_z.min])) (tl:=((cA 5 (eS cI) ([]:List Int) a_z.free))) rfl,zAt.nr rfl,zAt.nr rfl,trivial⟩,zFO (zF3 hc3 hx2),.inl rfl,rfl⟩)<|zT rfl rfl (fun hc4=>zt.step (zA6 (t:=x2) (z5 rfl hc4))) ?_
 refine zA (zd rfl rfl)<|zF ?_
 refine zY h rfl (fun hb1 h => ?_) (fun hb1 h => ?_)
 ·refine zI<|zC<|zA (zD rfl)<|zF<|zb ?_
  show zAQ _ _ _ _ _ _
  obtain rfl:=Option.some.inj h
  exact zu (zAM rfl rfl)
 ·refine zP<|zI<|zC<|zA (zS (k:=0) (o:=0) (m:=10) isAgg51 sizeOf51 rfl rfl rfl rfl rfl)<|zA (zB rfl)<|zR h fun x3 hx3 h => ?_
  refine zi func92 rfl (by kernel_rfl) (.fn 92) rfl rfl (zKN hx3) rfl<|zA (zB rfl)<|zA (zg rfl rfl)<|zA (zg rfl rfl)<|zA (zD rfl)<|zA (zD rfl) ?_
  refine zF<|zI<|zC<|zA (zB rfl)<|zA (zAp rfl rfl)<|zA (zD rfl) ?_
  refine zF<|zb ?_
  show zAQ _ _ _ _ _ _
  obtain rfl:=Option.some.inj h
  exact zu (zAM rfl rfl)
theorem zA3 {a_p0:zJ} {r:Int} (h:zAn a_p0=some r):PFn prog 13 [(AV.agg (zG a_p0))] (li r):=by
 refine zq func13 rfl ntmps13 results13 rfl ?_
 unfold zAn at h
 refine zI<|zC<|za (H':=[.box 26 (zG a_p0)]) (zw (t:=26) rfl)<|zA (zD rfl)<|zF<|zI ?_
 refine zI<|zC<|zA (zS (k:=0) (o:=0) (m:=5) isAgg26 sizeOf26 rfl rfl rfl rfl rfl)<|zR h fun x1 hx1 h=>zi func41 rfl (by kernel_rfl) (.fn 41) rfl rfl (zHw hx1) rfl<|zA (zA6 (t:=x1) rfl) ?_
 refine zF ?_
 refine zY h rfl (fun hb1 h => ?_) (fun hb1 h => ?_)
 ·refine zI<|zC<|zA (zD rfl)<|zF<|zb ?_
  show zAQ _ _ _ _ _ _
  obtain rfl:=Option.some.inj h
  exact zu (zAM rfl rfl)
 ·refine zP<|zI<|zC<|zA (zD rfl)<|zF ?_
  refine zx (fun e' H'=>Rep 123 0 e' H' (mkE [(1,(AV.ptr 0 0))]) [.box 26 (zG a_p0)]∧zDG a_p0=some r) ?_ ?_
  ·
   refine zI<|zC<|zA (zK underlying26 rfl rfl sizeOf23 rfl)<|zA (zN isAgg23 rfl rfl rfl rfl)<|zA (zX underlying23 rfl)<|zA (zB rfl) ?_
   refine zF<|zQ<|z6 (σ:=Nat×Int×Int) (fun s=>s.1) (fun s e' H'=>match s with | (n5,i6,i7)=>Rep 123 0 e' H' (mkE [(1,(AV.ptr 0 0)),(3,(li i6)),(23,(ls zO a_p0.zones)),(24,(li (a_p0.zones.length:Int))),(25,(li i7))]) [.box 26 (zG a_p0)]∧zC8 a_p0 n5 i6 i7=some r) (z9,0,0) ⟨zAE [0] rfl rfl (by kernel_rfl),h⟩ ?_
   clear h
   rintro ⟨n5,i6,i7⟩ e' H' ⟨hrep,h⟩
   cases n5 with
   | zero=>exact absurd (show (none:Option _)=some r from h) (by simp)
   | succ n5 =>
    replace h:zB2 a_p0 (zC8 a_p0 n5) i6 i7=some r:=h
    unfold zB2 at h
    refine zV hrep ?_
    clear hrep
    refine zI<|zC<|zA (ze rfl rfl)<|zF<|zI ?_
    refine zY h rfl (fun hb23 h => ?_) (fun hb23 h => ?_)
    ·refine zP<|zI<|zQ<|zI<|zC<|zM h fun hb24 h => ?_
     refine zA (zU underlying23 sizeOf51 (fun _=>rfl) rfl rfl hb24)<|zA (zAb (row:=(zO (at_ a_p0.zones i7))) (o:=0) (m:=10) (la:=(zO (at_ a_p0.zones i7))) isAgg51 sizeOf51 rfl rfl rfl)<|za (H':=[.box 26 (zG a_p0),.box 51 (zO ⟨0,0,0,0,0,(List.replicate 5 ([]:List Int))⟩)]) (zv (t:=51) (vs:=[.int .i64 0,.int .i64 0,.int .i64 0,.int .i64 0,.int .i64 0,.slice none 0 0,.slice none 0 0,.slice none 0 0,.slice none 0 0,.slice none 0 0]) (cs:=[.lit (.int .i64 0),.lit (.int .i64 0),.lit (.int .i64 0),.lit (.int .i64 0),.lit (.int .i64 0),.sl false [],.sl false [],.sl false [],.sl false [],.sl false []]) zeroValue51 (by kernel_rfl) rfl ⟨zh.refl _,zh.refl _,zh.refl _,zh.refl _,zh.refl _,zh.nils,zh.nils,zh.nils,zh.nils,zh.nils,trivial⟩)<|zm (H':=[.box 26 (zG a_p0),.box 51 (zO (at_ a_p0.zones i7))]) (zZ (k:=1) (o:=0) (cs:=(zO ⟨0,0,0,0,0,(List.replicate 5 ([]:List Int))⟩)) (la:=(zO (at_ a_p0.zones i7))) sizeOf51 rfl rfl rfl rfl)<|zF<|zI ?_
     refine zI<|zC<|zA (zS (k:=1) (o:=0) (m:=10) isAgg51 sizeOf51 rfl rfl rfl rfl rfl)<|zR h fun x5 hx5 h=>zi func42 rfl (by kernel_rfl) (.fn 42) rfl rfl (zEi hx5) rfl<|zA (zD rfl) ?_
     refine zF<|zI<|zC<|zA (zB rfl)<|zA (z7 rfl rfl)<|zF ?_
     refine zY h rfl (fun hb25 h => ?_) (fun hb25 h => ?_)
     ·refine zI<|zC<|zA (zB rfl)<|zA (zD rfl)<|zF<|zb ?_
      show zAQ _ _ _ _ _ _
      obtain rfl:=Option.some.inj h
      exact zu (zAM rfl rfl)
     ·refine zP<|zI<|zI<|zC<|zA (zK underlying51 rfl rfl sizeOf3 rfl)<|zA (zN isAgg3 rfl rfl rfl rfl) ?_
      refine zA (zB rfl)<|zA (z7 rfl rfl)<|zF ?_
      refine zY h rfl (fun hb26 h => ?_) (fun hb26 h => ?_)
      ·refine zI<|zC<|zA (zD rfl)<|zF<|zb ?_
       show zAQ _ _ _ _ _ _
       obtain rfl:=Option.some.inj h
       exact zu (zAM rfl rfl)
      ·refine zP<|zC<|zA (zB rfl)<|zA (zK underlying51 rfl rfl sizeOf3 rfl)<|zA (zN isAgg3 rfl rfl rfl rfl)<|zM h fun hb27 h => ?_
       refine zA (zf rfl rfl hb27)<|zA (zD rfl)<|zF<|zC<|zM h fun hb28 h=>zA (zf rfl rfl hb28) ?_
       refine zA (zB rfl)<|zF ?_
       exact ⟨(n5,(i6+((at_ a_p0.zones i7).count)),(i7+1)),Nat.lt_succ_self _,zAE [0] rfl rfl (by kernel_rfl),h⟩
    ·refine zy ?_
     exact ⟨zAE [0] rfl rfl (by kernel_rfl),h⟩
  ·
   clear h
   rintro e' H' ⟨hrep,h⟩
   refine zV hrep ?_
   clear hrep
   unfold zDG at h
   refine zI<|zI<|zC<|zA (zK underlying26 rfl rfl sizeOf24 rfl)<|zA (zN isAgg24 rfl rfl rfl rfl)<|zA (zX underlying24 rfl) ?_
   refine zA (zK underlying26 rfl rfl sizeOf22 rfl)<|zA (zN isAgg22 rfl rfl rfl rfl)<|zA (zX underlying22 rfl)<|zA (z7 rfl rfl)<|zF ?_
   refine zY h rfl (fun hb2 h => ?_) (fun hb2 h => ?_)
   ·refine zI<|zC<|zA (zD rfl)<|zF<|zb ?_
    show zAQ _ _ _ _ _ _
    obtain rfl:=Option.some.inj h
    exact zu (zAM rfl rfl)
   ·refine zP ?_
    refine zx (fun e' H'=>Rep 123 0 e' H' (mkE [(1,(AV.ptr 0 0))]) [.box 26 (zG a_p0)]∧zDL a_p0=some r) ?_ ?_
    ·
     refine zI<|zC<|zA (zK underlying26 rfl rfl sizeOf24 rfl)<|zA (zN isAgg24 rfl rfl rfl rfl)<|zA (zX underlying24 rfl)<|zA (zB rfl) ?_
     refine zF<|zQ<|z6 (σ:=Nat×Int) (fun s=>s.1) (fun s e' H'=>match s with | (n3,i4)=>Rep 123 0 e' H' (mkE [(1,(AV.ptr 0 0)),(51,(ls zH a_p0.caches)),(52,(li (a_p0.caches.length:Int))),(53,(li i4))]) [.box 26 (zG a_p0)]∧zBE a_p0 n3 i4=some r) (z9,0) ⟨zAE [0] rfl rfl (by kernel_rfl),h⟩ ?_
     clear h
     rintro ⟨n3,i4⟩ e' H' ⟨hrep,h⟩
     cases n3 with
     | zero=>exact absurd (show (none:Option _)=some r from h) (by simp)
     | succ n3 =>
      replace h:zBv a_p0 (zBE a_p0 n3) i4=some r:=h
      unfold zBv at h
      refine zV hrep ?_
      clear hrep
      refine zI<|zC<|zA (ze rfl rfl)<|zF<|zI ?_
      refine zY h rfl (fun hb15 h => ?_) (fun hb15 h => ?_)
      ·refine zP ?_
       refine zx (fun e' H'=>Rep 123 0 e' H' (mkE [(1,(AV.ptr 0 0)),(51,(ls zH a_p0.caches)),(52,(li (a_p0.caches.length:Int))),(53,(li i4))]) [.box 26 (zG a_p0)]∧zEu (zBE a_p0 n3) i4=some r) ?_ ?_
       ·
        refine zQ<|zI<|zC<|zM h fun hb17 h=>zA (zU underlying24 sizeOf55 (fun _=>rfl) rfl rfl hb17)<|zA (zAb (row:=(zH (at_ a_p0.caches i4))) (o:=0) (m:=1) (la:=(zH (at_ a_p0.caches i4))) isAgg55 sizeOf55 rfl rfl rfl) ?_
        refine za (H':=[.box 26 (zG a_p0),.box 55 [(ls (cS cI) ([]:List (List Int)))]]) (zv (t:=55) (vs:=[.slice none 0 0]) (cs:=[.sl false []]) zeroValue55 (by kernel_rfl) rfl ⟨zh.nils,trivial⟩)<|zm (H':=[.box 26 (zG a_p0),.box 55 (zH (at_ a_p0.caches i4))]) (zZ (k:=1) (o:=0) (cs:=[(ls (cS cI) ([]:List (List Int)))]) (la:=(zH (at_ a_p0.caches i4))) sizeOf55 rfl rfl rfl rfl)<|zF<|zI<|zI<|zC ?_
        refine zA (zS (k:=1) (o:=0) (m:=1) isAgg55 sizeOf55 rfl rfl rfl rfl rfl)<|zA (zK underlying26 rfl rfl sizeOf23 rfl)<|zA (zN isAgg23 rfl rfl rfl rfl)<|zA (zX underlying23 rfl)<|zR h fun x4 hx4 h=>zi func43 rfl (by kernel_rfl) (.fn 43) rfl rfl (zJ9 hx4) rfl ?_
        refine zA (zD rfl)<|zF<|zI<|zC<|zA (zB rfl)<|zA (z7 rfl rfl) ?_
        refine zF ?_
        refine zY h rfl (fun hb18 h => ?_) (fun hb18 h => ?_)
        ·refine zI<|zC<|zA (zB rfl)<|zA (zD rfl)<|zF<|zb ?_
         show zAQ _ _ _ _ _ _
         obtain rfl:=Option.some.inj h
         exact zu (zAM rfl rfl)
        ·refine zP<|zI<|zC<|zA (zK underlying55 rfl rfl sizeOf53 rfl)<|zA (zN isAgg53 rfl rfl rfl rfl)<|zA (zX underlying53 rfl) ?_
         refine zA (zB rfl)<|zF<|zQ<|z6 (σ:=Nat×Int) (fun s=>s.1) (fun s e' H'=>match s with | (n4,i5)=>Rep 123 0 e' H' (mkE [(1,(AV.ptr 0 0)),(51,(ls zH a_p0.caches)),(52,(li (a_p0.caches.length:Int))),(53,(li i4)),(66,(ls (cS cI) ((at_ a_p0.caches i4).lists))),(67,(li (((at_ a_p0.caches i4).lists).length:Int))),(68,(li i5))]) [.box 26 (zG a_p0)]∧zC9 (zBE a_p0 n3) a_p0 i4 n4 i5=some r) (z9,0) ⟨zAE [0] rfl rfl (by kernel_rfl),h⟩ ?_
         clear h
         rintro ⟨n4,i5⟩ e' H' ⟨hrep,h⟩
         cases n4 with
         | zero=>exact absurd (show (none:Option _)=some r from h) (by simp)
         | succ n4 =>
          replace h:zBx (zBE a_p0 n3) a_p0 i4 (zC9 (zBE a_p0 n3) a_p0 i4 n4) i5=some r:=h
          unfold zBx at h
          refine zV hrep ?_
          clear hrep
          refine zI<|zC<|zA (ze rfl rfl)<|zF<|zI ?_
          refine zY h rfl (fun hb19 h => ?_) (fun hb19 h => ?_)
          ·refine zP<|zI<|zQ<|zI<|zC<|zM h fun hb20 h => ?_
           refine zA (zU underlying53 sizeOf22 (fun _=>rfl) rfl rfl hb20)<|zA (zW (o:=0) isAgg22 rfl rfl)<|zA (zD rfl)<|zF<|zI<|zC ?_
           refine zA (zB rfl)<|zA (zX underlying22 rfl)<|zA (zK underlying26 rfl rfl sizeOf3 rfl)<|zA (zN isAgg3 rfl rfl rfl rfl)<|zA (zAl rfl rfl)<|zF ?_
           refine zY h rfl (fun hb21 h => ?_) (fun hb21 h => ?_)
           ·refine zI<|zC<|zA (zD rfl)<|zF<|zb ?_
            show zAQ _ _ _ _ _ _
            obtain rfl:=Option.some.inj h
            exact zu (zAM rfl rfl)
           ·refine zP<|zC<|zM h fun hb22 h=>zA (zf rfl rfl hb22)<|zA (zB rfl)<|zF ?_
            exact ⟨(n4,(i5+1)),Nat.lt_succ_self _,zAE [0] rfl rfl (by kernel_rfl),h⟩
          ·refine zy ?_
           exact ⟨zAE [0] rfl rfl (by kernel_rfl),h⟩
       ·
        clear h
        rintro e' H' ⟨hrep,h⟩
        refine zV hrep ?_
        clear hrep
        unfold zEu at h
        refine zC<|zM h fun hb16 h=>zA (zf rfl rfl hb16)<|zA (zB rfl)<|zF ?_
        exact ⟨(n3,(i4+1)),Nat.lt_succ_self _,zAE [0] rfl rfl (by kernel_rfl),h⟩
      ·refine zy ?_
       exact ⟨zAE [0] rfl rfl (by kernel_rfl),h⟩
    ·
     clear h
     rintro e' H' ⟨hrep,h⟩
     refine zV hrep ?_
     clear hrep
     unfold zDL at h
     refine zI<|zC<|za (H':=[.box 26 (zG a_p0),.map (mI Value.bool ([]:List (Int×Bool)))]) (zKl)<|zA (zD rfl)<|zF ?_
     refine zx (fun e' H'=>Rep 123 0 e' H' (mkE []) []∧zGT  = some r) ?_ ?_
     ·
      refine zI<|zC<|zA (zK underlying26 rfl rfl sizeOf24 rfl)<|zA (zN isAgg24 rfl rfl rfl rfl)<|zA (zX underlying24 rfl)<|zA (zB rfl) ?_
      refine zF<|zQ<|z6 (σ:=Nat×Int×(List (Int×Bool))) (fun s=>s.1) (fun s e' H'=>match s with | (n0,i1,l1)=>Rep 123 0 e' H' (mkE [(1,(AV.ptr 0 0)),(12,(AV.hd 1)),(81,(ls zH a_p0.caches)),(82,(li (a_p0.caches.length:Int))),(83,(li i1))]) [.box 26 (zG a_p0),.map (mI Value.bool l1)]∧zAX a_p0 n0 i1 l1=some r) (z9,0,([]:List (Int×Bool))) ⟨zAE [0,1] rfl rfl (by kernel_rfl),h⟩ ?_
      clear h
      rintro ⟨n0,i1,l1⟩ e' H' ⟨hrep,h⟩
      cases n0 with
      | zero=>exact absurd (show (none:Option _)=some r from h) (by simp)
      | succ n0 =>
       replace h:zB0 a_p0 (zAX a_p0 n0) i1 l1=some r:=h
       unfold zB0 at h
       refine zV hrep ?_
       clear hrep
       refine zI<|zC<|zA (ze rfl rfl)<|zF<|zI ?_
       refine zY h rfl (fun hb3 h => ?_) (fun hb3 h => ?_)
       ·refine zP ?_
        refine zx (fun e' H' => ∃ (l2:List (Int×Bool)),Rep 123 0 e' H' (mkE [(1,(AV.ptr 0 0)),(12,(AV.hd 1)),(81,(ls zH a_p0.caches)),(82,(li (a_p0.caches.length:Int))),(83,(li i1))]) [.box 26 (zG a_p0),.map (mI Value.bool l2)]∧zEr (zAX a_p0 n0) i1 l2=some r) ?_ ?_
        ·
         refine zQ<|zI<|zC<|zM h fun hb5 h=>zA (zU underlying24 sizeOf55 (fun _=>rfl) rfl rfl hb5)<|zA (zAb (row:=(zH (at_ a_p0.caches i1))) (o:=0) (m:=1) (la:=(zH (at_ a_p0.caches i1))) isAgg55 sizeOf55 rfl rfl rfl) ?_
         refine za (H':=[.box 26 (zG a_p0),.map (mI Value.bool l1),.box 55 [(ls (cS cI) ([]:List (List Int)))]]) (zv (t:=55) (vs:=[.slice none 0 0]) (cs:=[.sl false []]) zeroValue55 (by kernel_rfl) rfl ⟨zh.nils,trivial⟩)<|zm (H':=[.box 26 (zG a_p0),.map (mI Value.bool l1),.box 55 (zH (at_ a_p0.caches i1))]) (zZ (k:=2) (o:=0) (cs:=[(ls (cS cI) ([]:List (List Int)))]) (la:=(zH (at_ a_p0.caches i1))) sizeOf55 rfl rfl rfl rfl)<|zF<|zI<|zC<|zA (zK underlying55 rfl rfl sizeOf53 rfl) ?_
         refine zA (zN isAgg53 rfl rfl rfl rfl)<|zA (zX underlying53 rfl)<|zA (zB rfl)<|zF<|zQ<|z6 (σ:=Nat×Int×(List (Int×Bool))) (fun s=>s.1) (fun s e' H'=>match s with | (n1,i2,l3)=>Rep 123 0 e' H' (mkE [(1,(AV.ptr 0 0)),(12,(AV.hd 1)),(81,(ls zH a_p0.caches)),(82,(li (a_p0.caches.length:Int))),(83,(li i1)),(88,(ls (cS cI) ((at_ a_p0.caches i1).lists))),(89,(li (((at_ a_p0.caches i1).lists).length:Int))),(90,(li i2))]) [.box 26 (zG a_p0),.map (mI Value.bool l3)]∧zAk (zAX a_p0 n0) a_p0 i1 n1 i2 l3=some r) (z9,0,l1) ⟨zAE [0,1] rfl rfl (by kernel_rfl),h⟩ ?_
         clear h
         rintro ⟨n1,i2,l3⟩ e' H' ⟨hrep,h⟩
         cases n1 with
         | zero=>exact absurd (show (none:Option _)=some r from h) (by simp)
         | succ n1 =>
          replace h:zBz (zAX a_p0 n0) a_p0 i1 (zAk (zAX a_p0 n0) a_p0 i1 n1) i2 l3=some r:=h
          unfold zBz at h
          refine zV hrep ?_
          clear hrep
          refine zI<|zC<|zA (ze rfl rfl)<|zF<|zI ?_
          refine zY h rfl (fun hb6 h => ?_) (fun hb6 h => ?_)
          ·refine zP ?_
           refine zx (fun e' H' => ∃ (l4:List (Int×Bool)),Rep 123 0 e' H' (mkE [(1,(AV.ptr 0 0)),(12,(AV.hd 1)),(81,(ls zH a_p0.caches)),(82,(li (a_p0.caches.length:Int))),(83,(li i1)),(88,(ls (cS cI) ((at_ a_p0.caches i1).lists))),(89,(li (((at_ a_p0.caches i1).lists).length:Int))),(90,(li i2))]) [.box 26 (zG a_p0),.map (mI Value.bool l4)]∧zEy (zAk (zAX a_p0 n0) a_p0 i1 n1) i2 l4=some r) ?_ ?_
           ·
            refine zQ<|zI<|zC<|zA (zB rfl)<|zM h fun hb8 h=>zA (zU underlying53 sizeOf22 (fun _=>rfl) rfl rfl hb8) ?_
            refine zA (zW (o:=0) isAgg22 rfl rfl)<|zA (zD rfl)<|zA (zD rfl)<|zF<|zI<|zC ?_
            refine zA (zB rfl)<|zA (zX underlying22 rfl)<|zA (zB rfl)<|zF<|zQ<|z6 (σ:=Nat×Int×(List (Int×Bool))) (fun s=>s.1) (fun s e' H'=>match s with | (n2,i3,l5)=>Rep 123 0 e' H' (mkE [(1,(AV.ptr 0 0)),(12,(AV.hd 1)),(15,(li i2)),(81,(ls zH a_p0.caches)),(82,(li (a_p0.caches.length:Int))),(83,(li i1)),(88,(ls (cS cI) ((at_ a_p0.caches i1).lists))),(89,(li (((at_ a_p0.caches i1).lists).length:Int))),(90,(li i2)),(95,(ls cI (at_ ((at_ a_p0.caches i1).lists) i2))),(96,(li ((at_ ((at_ a_p0.caches i1).lists) i2).length:Int))),(97,(li i3))]) [.box 26 (zG a_p0),.map (mI Value.bool l5)]∧zBT (zAk (zAX a_p0 n0) a_p0 i1 n1) a_p0 i1 i2 n2 i3 l5=some r) (z9,0,l3) ⟨zAE [0,1] rfl rfl (by kernel_rfl),h⟩ ?_
            clear h
            rintro ⟨n2,i3,l5⟩ e' H' ⟨hrep,h⟩
            cases n2 with
            | zero=>exact absurd (show (none:Option _)=some r from h) (by simp)
            | succ n2 =>
             replace h:zB4 (zAk (zAX a_p0 n0) a_p0 i1 n1) a_p0 i1 i2 (zBT (zAk (zAX a_p0 n0) a_p0 i1 n1) a_p0 i1 i2 n2) i3 l5=some r:=h
             unfold zB4 at h
             refine zV hrep ?_
             clear hrep
             refine zI<|zC<|zA (ze rfl rfl)<|zF<|zI ?_
             refine zY h rfl (fun hb9 h => ?_) (fun hb9 h => ?_)
             ·refine zP<|zI<|zQ<|zI<|zC<|zM h fun hb10 h => ?_
              refine zA (zU underlying22 sizeOf3 (fun _=>rfl) rfl rfl hb10)<|zA (zW (o:=0) isAgg3 rfl rfl)<|zA (zD rfl)<|zF<|zI<|zI ?_
              refine zC<|zA (zS (k:=0) (o:=0) (m:=5) isAgg26 sizeOf26 rfl rfl rfl rfl rfl)<|zA (zB rfl)<|zR h fun x2 hx2 h=>zi func44 rfl (by kernel_rfl) (.fn 44) rfl rfl (zFW hx2) rfl<|zA (zB rfl) ?_
              refine zA (z7 rfl rfl)<|zF ?_
              refine zY h rfl (fun hb11 h => ?_) (fun hb11 h => ?_)
              ·refine zI<|zC<|zA (zD rfl)<|zF<|zb ?_
               show zAQ _ _ _ _ _ _
               obtain rfl:=Option.some.inj h
               exact zu (zAM rfl rfl)
              ·refine zP<|zI<|zI<|zC<|zA (zB rfl)<|zA (zB rfl) ?_
               refine zA (zMK (k:=1) (g:=Value.bool) (q:=at_ (at_ ((at_ a_p0.caches i1).lists) i2) i3) (l:=l5) (dflt:=false) (a:=(AV.lit (.bool (zLE false l5 (at_ (at_ ((at_ a_p0.caches i1).lists) i2) i3))))) underlying58 underlying3 zeroValue4 rfl rfl rfl rfl)<|zA (zB rfl)<|zT rfl rfl (fun hc1=>zt.step (zK underlying26 rfl rfl sizeOf23 rfl))<|zT rfl rfl (fun hc2=>zt.step (zN isAgg23 (z5 rfl hc2) rfl rfl rfl))<|zT rfl rfl (fun hc3=>zt.step (zB rfl))<|zM h fun hb12 h => ?_
               refine zT rfl rfl (fun hc4=>zt.step (zU underlying23 sizeOf51 (fun _=>rfl) (z5 rfl hc4) (z5 rfl hc4) (zGd hb12 hc4)))<|zT rfl rfl (fun hc5=>zt.step (zAb (row:=(zO (at_ a_p0.zones i2))) (o:=0) (m:=10) (la:=(zO (at_ a_p0.zones i2))) isAgg51 sizeOf51 (z5 rfl hc5) rfl rfl))<|zT rfl rfl (fun hc6=>zt.step (zB rfl))<|zR h fun x3 hx3 h=>zCA (g:=109) (s:=zLE false l5 (at_ (at_ ((at_ a_p0.caches i1).lists) i2) i3)) (r':=(AV.lit (.bool x3))) rfl rfl (fun hc7=>⟨45,_,_,[],[(AV.agg (zO (at_ a_p0.zones i2))),(li (at_ (at_ ((at_ a_p0.caches i1).lists) i2) i3))],[(AV.agg (zO (at_ a_p0.zones i2))),(li (at_ (at_ ((at_ a_p0.caches i1).lists) i2) i3))],(AV.lit (.bool x3)),[],func45,rfl,by kernel_rfl,.fn 45,(zAK (z5 rfl hc7) (zAK (z5 rfl hc7) rfl)),⟨zAt.nr rfl,zAt.nr rfl,trivial⟩,zJn (zF3 hc7 hx3),.inl rfl,rfl⟩)<|zA (zd rfl rfl) ?_
               refine zF ?_
               refine zY h rfl (fun hb13 h => ?_) (fun hb13 h => ?_)
               ·refine zI<|zC<|zA (zD rfl)<|zF<|zb ?_
                show zAQ _ _ _ _ _ _
                obtain rfl:=Option.some.inj h
                exact zu (zAM rfl rfl)
               ·refine zP<|zC<|zA (zB rfl)<|zA (zB rfl)<|zm (H':=[.box 26 (zG a_p0),.map (mI Value.bool (zJd l5 (at_ (at_ ((at_ a_p0.caches i1).lists) i2) i3) true))]) (zMb (k:=1) (g:=Value.bool) (q:=at_ (at_ ((at_ a_p0.caches i1).lists) i2) i3) (l:=l5) (v:=true) underlying58 underlying3 rfl rfl rfl rfl)<|zF ?_
                refine zC<|zM h fun hb14 h=>zA (zf rfl rfl hb14)<|zA (zB rfl)<|zF ?_
                exact ⟨(n2,(i3+1),(zJd l5 (at_ (at_ ((at_ a_p0.caches i1).lists) i2) i3) true)),Nat.lt_succ_self _,zAE [0,1] rfl rfl (by kernel_rfl),h⟩
             ·refine zy ?_
              exact ⟨l5,zAE [0,1] rfl rfl (by kernel_rfl),h⟩
           ·
            clear h
            rintro e' H' ⟨l4,hrep,h⟩
            refine zV hrep ?_
            clear hrep
            unfold zEy at h
            refine zC<|zM h fun hb7 h=>zA (zf rfl rfl hb7)<|zA (zB rfl)<|zF ?_
            exact ⟨(n1,(i2+1),l4),Nat.lt_succ_self _,zAE [0,1] rfl rfl (by kernel_rfl),h⟩
          ·refine zy ?_
           exact ⟨l3,zAE [0,1] rfl rfl (by kernel_rfl),h⟩
        ·
         clear h
         rintro e' H' ⟨l2,hrep,h⟩
         refine zV hrep ?_
         clear hrep
         unfold zEr at h
         refine zC<|zM h fun hb4 h=>zA (zf rfl rfl hb4)<|zA (zB rfl)<|zF ?_
         exact ⟨(n0,(i1+1),l2),Nat.lt_succ_self _,zAE [0,1] rfl rfl (by kernel_rfl),h⟩
       ·refine zy ?_
        exact ⟨zAE [] rfl rfl (by kernel_rfl),h⟩
     ·
      clear h
      rintro e' H' ⟨hrep,h⟩
      refine zV hrep ?_
      clear hrep
      unfold zGT at h
      refine zI<|zC<|zA (zD rfl)<|zF<|zb ?_
      show zAQ _ _ _ _ _ _
      obtain rfl:=Option.some.inj h
      exact zu (zAM rfl rfl)
theorem zKj {a_a:zJ} {r:Int} (h:zHf a_a=some r):PFn prog 15 [(AV.agg (zG a_a))] (li r):=by
 refine zq func15 rfl ntmps15 results15 rfl ?_
 unfold zHf at h
 refine zI<|zC<|za (H':=[.box 26 (zG a_a)]) (zw (t:=26) rfl)<|zA (zD rfl)<|zF<|zI ?_
 refine zI<|zC<|zA (zS (k:=0) (o:=0) (m:=5) isAgg26 sizeOf26 rfl rfl rfl rfl rfl)<|zR h fun x1 hx1 h=>zi func13 rfl (by kernel_rfl) (.fn 13) rfl rfl (zA3 hx1) rfl<|zA (z7 rfl rfl) ?_
 refine zF ?_
 refine zY h rfl (fun hb1 h => ?_) (fun hb1 h => ?_)
 ·refine zI<|zC<|zA (zD rfl)<|zF<|zb ?_
  show zAQ _ _ _ _ _ _
  obtain rfl:=Option.some.inj h
  exact zu (zAM rfl rfl)
 ·refine zP<|zI<|zC<|zA (zK underlying26 rfl rfl sizeOf23 rfl)<|zA (zN isAgg23 rfl rfl rfl rfl)<|zA (zK underlying26 rfl rfl sizeOf23 rfl) ?_
  refine zA (zN isAgg23 rfl rfl rfl rfl)<|zA (zX underlying23 rfl)<|zM h fun hb2 h=>zA (zB8 rfl rfl hb2)<|zM h fun hb3 h=>zA (zU underlying23 sizeOf51 (fun _=>rfl) rfl rfl hb3) ?_
  refine zA (zAb (row:=(zO (at_ a_a.zones ((a_a.zones.length:Int) - 1)))) (o:=0) (m:=10) (la:=(zO (at_ a_a.zones ((a_a.zones.length:Int) - 1)))) isAgg51 sizeOf51 rfl rfl rfl)<|za (H':=[.box 26 (zG a_a),.box 51 (zO ⟨0,0,0,0,0,(List.replicate 5 ([]:List Int))⟩)]) (zv (t:=51) (vs:=[.int .i64 0,.int .i64 0,.int .i64 0,.int .i64 0,.int .i64 0,.slice none 0 0,.slice none 0 0,.slice none 0 0,.slice none 0 0,.slice none 0 0]) (cs:=[.lit (.int .i64 0),.lit (.int .i64 0),.lit (.int .i64 0),.lit (.int .i64 0),.lit (.int .i64 0),.sl false [],.sl false [],.sl false [],.sl false [],.sl false []]) zeroValue51 (by kernel_rfl) rfl ⟨zh.refl _,zh.refl _,zh.refl _,zh.refl _,zh.refl _,zh.nils,zh.nils,zh.nils,zh.nils,zh.nils,trivial⟩)<|zm (H':=[.box 26 (zG a_a),.box 51 (zO (at_ a_a.zones ((a_a.zones.length:Int) - 1)))]) (zZ (k:=1) (o:=0) (cs:=(zO ⟨0,0,0,0,0,(List.replicate 5 ([]:List Int))⟩)) (la:=(zO (at_ a_a.zones ((a_a.zones.length:Int) - 1)))) sizeOf51 rfl rfl rfl rfl)<|zF<|zI<|zC ?_
  refine zA (zK underlying51 rfl rfl sizeOf3 rfl)<|zA (zN isAgg3 rfl rfl rfl rfl)<|zA (zK underlying51 rfl rfl sizeOf3 rfl)<|zA (zN isAgg3 rfl rfl rfl rfl)<|zM h fun hb4 h=>zA (zf rfl rfl hb4) ?_
  refine zA (zD rfl)<|zF<|zb ?_
  show zAQ _ _ _ _ _ _
  obtain rfl:=Option.some.inj h
  exact zu (zAM rfl rfl)
theorem zLS {a_z:zp} {a_order:Int} {r:Int} (h:zIq a_z a_order=some r):PFn prog 133 [(AV.agg (zO a_z)),li a_order] (li r):=by
 refine zq func133 rfl ntmps133 results133 rfl ?_
 unfold zIq at h
 refine zI<|zC<|za (H':=[.box 51 (zO a_z)]) (zw (t:=51) rfl)<|zA (zD rfl)<|zF<|zI ?_
 refine zI<|zC<|zA (zS (k:=0) (o:=0) (m:=10) isAgg51 sizeOf51 rfl rfl rfl rfl rfl)<|zR h fun x1 hx1 h=>zi func42 rfl (by kernel_rfl) (.fn 42) rfl rfl (zEi hx1) rfl<|zA (z7 rfl rfl) ?_
 refine zA (zB rfl)<|zT rfl rfl (fun hc1=>zt.step (zB rfl))<|zT rfl rfl (fun hc2=>zt.step (ze (z5 rfl hc2) rfl))<|zA (zd rfl rfl)<|zA (zB rfl)<|zT rfl rfl (fun hc3=>zt.step (zB rfl)) ?_
 refine zT rfl rfl (fun hc4=>zt.step (zAl (z5 rfl hc4) rfl))<|zA (zd rfl rfl)<|zF ?_
 refine zY h rfl (fun hb1 h => ?_) (fun hb1 h => ?_)
 ·refine zI<|zC<|zA (zD rfl)<|zF<|zb ?_
  show zAQ _ _ _ _ _ _
  obtain rfl:=Option.some.inj h
  exact zu (zAM rfl rfl)
 ·refine zP<|zI<|zC<|zA (zD rfl)<|zF ?_
  refine zx (fun e' H' => ∃ (i1:Int),Rep 36 0 e' H' (mkE [(5,(li i1))]) []∧zGx i1=some r) ?_ ?_
  ·
   refine zI<|zC<|zA (zK underlying51 rfl rfl sizeOf49 rfl)<|zA (zB rfl)<|zAF (zRu (k:=0) (cs:=(zO a_z)) (cs':=(zO a_z)) (ds:=[(2,0),(19,5)]) rfl rfl rfl ⟨rfl,rfl,trivial⟩)<|zM h fun hb2 h => ?_
   refine zM h fun hb3 h=>zA (zNw (o:=5) (cs:=(zO a_z)) (hd:=([li a_z.node]++[li a_z.kind]++[li a_z.start]++[li a_z.count]++[li a_z.min]++[])) (tl:=([])) (g:=(eS cI)) (d0:=([]:List Int)) (l:=a_z.free) (hi:=a_order) (f:=(cS cI)) underlying49 sizeOf22 rfl rfl rfl (fun _=>rfl) rfl hb2 hb3 rfl)<|zA (zX underlying53 rfl)<|zA (zB rfl)<|zF<|zQ ?_
   refine z6 (σ:=Nat×Int×Int) (fun s=>s.1) (fun s e' H'=>match s with | (n0,i2,i3)=>Rep 36 0 e' H' (mkE [(5,(li i2)),(21,(ls (cS cI) (zGB a_z.free 0 a_order))),(22,(li ((zGB a_z.free 0 a_order).length:Int))),(23,(li i3))]) []∧zFT a_z a_order n0 i2 i3=some r) (z9,0,0) ⟨zAE [] rfl rfl (by kernel_rfl),h⟩ ?_
   clear h
   rintro ⟨n0,i2,i3⟩ e' H' ⟨hrep,h⟩
   cases n0 with
   | zero=>exact absurd (show (none:Option _)=some r from h) (by simp)
   | succ n0 =>
    replace h:zG1 a_z a_order (zFT a_z a_order n0) i2 i3=some r:=h
    unfold zG1 at h
    refine zV hrep ?_
    clear hrep
    refine zI<|zC<|zA (ze rfl rfl)<|zF<|zI ?_
    refine zY h rfl (fun hb4 h => ?_) (fun hb4 h => ?_)
    ·refine zP<|zI<|zQ<|zI<|zC<|zA (zB rfl) ?_
     refine zM h fun hb5 h=>zA (zU underlying53 sizeOf22 (fun _=>rfl) rfl rfl hb5)<|zA (zW (o:=0) isAgg22 rfl rfl)<|zA (zD rfl)<|zA (zD rfl)<|zF ?_
     refine zC<|zA (zB rfl)<|zA (zB rfl)<|zA (zX underlying22 rfl)<|zA (zB rfl)<|zM h fun hb6 h => ?_
     refine zM h fun hb7 h=>zA (zDI (a:=((at_ (zGB a_z.free 0 a_order) i3).length:Int)) (b:=i3) rfl rfl hb6 hb7)<|zM h fun hb8 h=>zA (zf rfl rfl hb8)<|zA (zD rfl)<|zF ?_
     refine zC<|zM h fun hb9 h=>zA (zf rfl rfl hb9)<|zA (zB rfl)<|zF ?_
     exact ⟨(n0,(i2+(((at_ (zGB a_z.free 0 a_order) i3).length:Int)*2 ^ i3.toNat)),(i3+1)),Nat.lt_succ_self _,zAE [] rfl rfl (by kernel_rfl),h⟩
    ·refine zy ?_
     exact ⟨i2,zAE [] rfl rfl (by kernel_rfl),h⟩
  ·
   clear h
   rintro e' H' ⟨i1,hrep,h⟩
   refine zV hrep ?_
   clear hrep
   unfold zGx at h
   refine zI<|zC<|zA (zB rfl)<|zA (zD rfl)<|zF<|zb ?_
   show zAQ _ _ _ _ _ _
   obtain rfl:=Option.some.inj h
   exact zu (zAM rfl rfl)
theorem zNJ {a_z:zp} {r:Int} (h:zLU a_z=some r):PFn prog 134 [(AV.agg (zO a_z))] (li r):=by
 refine zq func134 rfl ntmps134 results134 rfl ?_
 unfold zLU at h
 refine zI<|zC<|za (H':=[.box 51 (zO a_z)]) (zw (t:=51) rfl)<|zA (zD rfl)<|zF<|zI ?_
 refine zI<|zC<|zA (zS (k:=0) (o:=0) (m:=10) isAgg51 sizeOf51 rfl rfl rfl rfl rfl)<|zR h fun x1 hx1 h=>zi func42 rfl (by kernel_rfl) (.fn 42) rfl rfl (zEi hx1) rfl<|zA (z7 rfl rfl) ?_
 refine zF ?_
 refine zY h rfl (fun hb1 h => ?_) (fun hb1 h => ?_)
 ·refine zI<|zC<|zA (zD rfl)<|zF<|zb ?_
  show zAQ _ _ _ _ _ _
  obtain rfl:=Option.some.inj h
  exact zu (zAM rfl rfl)
 ·refine zP<|zI<|zC<|zA (zK underlying51 rfl rfl sizeOf49 rfl)<|zA (zAO (m:=5) (s:=1) (i:=4) (k:=0) (o:=5) underlying49 sizeOf22 rfl rfl (by decide))<|zA (zAr (k:=0) (o:=9) (cs:=(zO a_z)) (hd:=([li a_z.node]++[li a_z.kind]++[li a_z.start]++[li a_z.count]++[li a_z.min]++[])) (tl:=([])) (g:=(eS cI)) (d0:=([]:List Int)) (l:=a_z.free) (N:=5) (i:=(4:Int).toNat) (a:=(ls cI (a_z.free.getD (4:Int).toNat ([]:List Int)))) isAgg22 rfl rfl rfl rfl (by decide) rfl rfl) ?_
  refine zA (zX underlying22 rfl)<|zM h fun hb2 h=>zA (zDI (a:=((a_z.free.getD (4:Int).toNat ([]:List Int)).length:Int)) (b:=4) rfl rfl (by decide) hb2)<|zA (zD rfl)<|zF<|zb ?_
  show zAQ _ _ _ _ _ _
  obtain rfl:=Option.some.inj h
  exact zu (zAM rfl rfl)
theorem zMg {a_z:zp} {r:Int} (h:zKi a_z=some r):PFn prog 99 [(AV.agg (zO a_z))] (li r):=by
 refine zq func99 rfl ntmps99 results99 rfl ?_
 unfold zKi at h
 refine zI<|zC<|za (H':=[.box 51 (zO a_z)]) (zw (t:=51) rfl)<|zA (zD rfl)<|zF<|zI ?_
 refine zR h fun x1 hx1 h=>zR h fun x2 hx2 h=>zM h fun hb1 h => ?_
 show AW _ _ _ _ _ _ [.box 51 (zO a_z)]
 refine zAx (n:=8) (m:=0) [.head 0 0,.head 0 0,.head 0 0,.head 0 0,.head 0 0,.head 0 0] [] [(AV.agg (zO a_z)),li x1,(AV.agg (zO a_z)),li x2,(li (x1+x2)),(li (x1+x2))] [[.box 51 (zO a_z)]] (by kernel_rfl) (by kernel_rfl) ⟨?_,?_,?_,?_,?_,?_,trivial⟩ ?_
 ·exact D1 fun e s p=>zS (k:=0) (o:=0) (m:=10) isAgg51 sizeOf51 (s 1 rfl) rfl rfl rfl rfl
 ·
  intro e2 hs2 hp2
  refine zi (r:=(li x1)) (la:=[(AV.agg (zO a_z)),li 4]) func133 rfl (by kernel_rfl) (.fn 133) (zAK hp2.1 (zAK rfl rfl)) rfl (zLS hx1) rfl ?_
  exact zF ⟨fun _=>rfl,rfl⟩
 ·exact D1 fun e s p=>zS (k:=0) (o:=0) (m:=10) isAgg51 sizeOf51 (s 1 rfl) rfl rfl rfl rfl
 ·
  intro e4 hs4 hp4
  refine zi (r:=(li x2)) (la:=[(AV.agg (zO a_z))]) func134 rfl (by kernel_rfl) (.fn 134) (zAK hp4.1 rfl) rfl (zNJ hx2) rfl ?_
  exact zF ⟨fun _=>rfl,rfl⟩
 ·exact D1 fun e s p=>zf (a:=x1) (b:=x2) p.1 p.2.1 hb1
 ·exact D1 fun e s p=>zD p.2.2.2.2.2.2.1
 intro e7 hs7 hq1
 refine zV (zBY (l:=[(2,(li (x1+x2)))]) ⟨(hq1 5 (by decide) (by decide)),trivial⟩)<|zb ?_
 show zAQ _ _ _ _ _ _
 obtain rfl:=Option.some.inj h
 exact zu (zAM rfl rfl)
theorem zGH {a_a:zJ} {a_z:Int} {r:Int} (h:zE8 a_a a_z=some r):PFn prog 52 [(AV.agg (zG a_a)),li a_z] (li r):=by
 refine zq func52 rfl ntmps52 results52 rfl ?_
 unfold zE8 at h
 refine zI<|zC<|za (H':=[.box 26 (zG a_a)]) (zw (t:=26) rfl)<|zA (zD rfl)<|zF<|zI ?_
 refine zC<|zA (zK underlying26 rfl rfl sizeOf23 rfl)<|zA (zN isAgg23 rfl rfl rfl rfl)<|zA (zB rfl)<|zM h fun hb1 h=>zA (zU underlying23 sizeOf51 (fun _=>rfl) rfl rfl hb1) ?_
 refine zA (zAb (row:=(zO (at_ a_a.zones a_z))) (o:=0) (m:=10) (la:=(zO (at_ a_a.zones a_z))) isAgg51 sizeOf51 rfl rfl rfl)<|zR h fun x1 hx1 h=>zi func99 rfl (by kernel_rfl) (.fn 99) rfl rfl (zMg hx1) rfl<|zA (zD rfl)<|zF ?_
 refine zx (fun e' H' => ∃ (i1:Int),Rep 31 0 e' H' (mkE [(5,(li i1))]) []∧zGN i1=some r) ?_ ?_
 ·
  refine zI<|zC<|zA (zK underlying26 rfl rfl sizeOf24 rfl)<|zA (zN isAgg24 rfl rfl rfl rfl)<|zA (zX underlying24 rfl)<|zA (zB rfl) ?_
  refine zF<|zQ<|z6 (σ:=Nat×Int×Int) (fun s=>s.1) (fun s e' H'=>match s with | (n0,i2,i3)=>Rep 31 0 e' H' (mkE [(1,(li a_z)),(5,(li i2)),(15,(ls zH a_a.caches)),(16,(li (a_a.caches.length:Int))),(17,(li i3))]) []∧zEp a_a a_z n0 i2 i3=some r) (z9,x1,0) ⟨zAE [] rfl rfl (by kernel_rfl),h⟩ ?_
  clear h
  rintro ⟨n0,i2,i3⟩ e' H' ⟨hrep,h⟩
  cases n0 with
  | zero=>exact absurd (show (none:Option _)=some r from h) (by simp)
  | succ n0 =>
   replace h:zGW a_a a_z (zEp a_a a_z n0) i2 i3=some r:=h
   unfold zGW at h
   refine zV hrep ?_
   clear hrep
   refine zI<|zC<|zA (ze rfl rfl)<|zF<|zI ?_
   refine zY h rfl (fun hb2 h => ?_) (fun hb2 h => ?_)
   ·refine zP<|zI<|zQ<|zI<|zC<|zM h fun hb3 h => ?_
    refine zA (zU underlying24 sizeOf55 (fun _=>rfl) rfl rfl hb3)<|zA (zAb (row:=(zH (at_ a_a.caches i3))) (o:=0) (m:=1) (la:=(zH (at_ a_a.caches i3))) isAgg55 sizeOf55 rfl rfl rfl)<|za (H':=[.box 55 [(ls (cS cI) ([]:List (List Int)))]]) (zv (t:=55) (vs:=[.slice none 0 0]) (cs:=[.sl false []]) zeroValue55 (by kernel_rfl) rfl ⟨zh.nils,trivial⟩)<|zm (H':=[.box 55 (zH (at_ a_a.caches i3))]) (zZ (k:=0) (o:=0) (cs:=[(ls (cS cI) ([]:List (List Int)))]) (la:=(zH (at_ a_a.caches i3))) sizeOf55 rfl rfl rfl rfl)<|zF<|zC ?_
    refine zA (zB rfl)<|zA (zK underlying55 rfl rfl sizeOf53 rfl)<|zA (zN isAgg53 rfl rfl rfl rfl)<|zA (zB rfl)<|zM h fun hb4 h=>zA (zU underlying53 sizeOf22 (fun _=>rfl) rfl rfl hb4) ?_
    refine zA (zW (o:=0) isAgg22 rfl rfl)<|zA (zX underlying22 rfl)<|zM h fun hb5 h=>zA (zf rfl rfl hb5)<|zA (zD rfl)<|zF ?_
    refine zC<|zM h fun hb6 h=>zA (zf rfl rfl hb6)<|zA (zB rfl)<|zF ?_
    exact ⟨(n0,(i2+((at_ ((at_ a_a.caches i3).lists) a_z).length:Int)),(i3+1)),Nat.lt_succ_self _,zAE [] rfl rfl (by kernel_rfl),h⟩
   ·refine zy ?_
    exact ⟨i2,zAE [] rfl rfl (by kernel_rfl),h⟩
 ·
  clear h
  rintro e' H' ⟨i1,hrep,h⟩
  refine zV hrep ?_
  clear hrep
  unfold zGN at h
  refine zI<|zC<|zA (zB rfl)<|zA (zD rfl)<|zF<|zb ?_
  show zAQ _ _ _ _ _ _
  obtain rfl:=Option.some.inj h
  exact zu (zAM rfl rfl)
theorem zG4 {a_a:zJ} {a_z:Int} {r:Int} (h:zFn a_a a_z=some r):PFn prog 39 [(AV.agg (zG a_a)),li a_z] (li r):=by
 refine zq func39 rfl ntmps39 results39 rfl ?_
 unfold zFn at h
 refine zI<|zC<|za (H':=[.box 26 (zG a_a)]) (zw (t:=26) rfl)<|zA (zD rfl)<|zF<|zI ?_
 refine zR h fun x1 hx1 h=>zM h fun hb1 h=>zM h fun hb2 h => ?_
 show AW _ _ _ _ _ _ [.box 26 (zG a_a)]
 refine zAx (n:=15) (m:=0) [.head 0 0,.head 0 0,.head 0 0,.head 0 0,.head 0 0,.head 0 0,.head 0 0,.head 0 0,.head 0 0,.head 0 0,.head 0 0] [] [(AV.agg (zG a_a)),li a_z,li x1,AV.ptr 0 3,ls zO a_a.zones,li a_z,(AV.rp (zO (at_ a_a.zones a_z)) 0),(AV.rp (zO (at_ a_a.zones a_z)) 4),(li ((at_ a_a.zones a_z).min)),(li (x1 - ((at_ a_a.zones a_z).min))),(li (x1 - ((at_ a_a.zones a_z).min)))] [[.box 26 (zG a_a)]] (by kernel_rfl) (by kernel_rfl) ⟨?_,?_,?_,?_,?_,?_,?_,?_,?_,?_,?_,trivial⟩ ?_
 ·exact D1 fun e s p=>zS (k:=0) (o:=0) (m:=5) isAgg26 sizeOf26 (s 2 rfl) rfl rfl rfl rfl
 ·exact D1 fun e s p=>zB (s 1 rfl)
 ·
  intro e3 hs3 hp3
  refine zi (r:=(li x1)) (la:=[(AV.agg (zG a_a)),li a_z]) func52 rfl (by kernel_rfl) (.fn 52) (zAK hp3.1 (zAK hp3.2.1 rfl)) rfl (zGH hx1) rfl ?_
  exact zF ⟨fun _=>rfl,rfl⟩
 ·exact D1 fun e s p=>zK (k:=0) (o:=0) (off:=3) underlying26 rfl rfl sizeOf23 (s 2 rfl)
 ·exact D1 fun e s p=>zN (k:=0) (o:=3) isAgg23 p.1 rfl rfl rfl
 ·exact D1 fun e s p=>zB (s 1 rfl)
 ·exact D1 fun e s p=>zU (f:=zO) (l:=a_a.zones) (i:=a_z) underlying23 sizeOf51 (fun _=>rfl) p.1 p.2.1 hb1
 ·exact D1 fun e s p=>zBQ (row:=(zO (at_ a_a.zones a_z))) (o:=0) (off:=4) underlying51 rfl rfl sizeOf3 p.1
 ·exact D1 fun e s p=>zW (o:=4) isAgg3 p.1 rfl
 ·exact D1 fun e s p=>zB8 (a:=x1) (b:=(at_ a_a.zones a_z).min) p.1 p.2.1 hb2
 ·exact D1 fun e s p=>zD p.2.2.2.2.2.2.2.2.2.2.2.1
 intro e12 hs12 hq1
 refine zV (zBY (l:=[(4,(li (x1 - ((at_ a_a.zones a_z).min))))]) ⟨(hq1 10 (by decide) (by decide)),trivial⟩)<|zb ?_
 show zAQ _ _ _ _ _ _
 obtain rfl:=Option.some.inj h
 exact zu (zAM rfl rfl)
theorem zJ7 {a_a:zJ} {r:Int×Int} (h:zGQ a_a=some r):PFn prog 11 [(AV.agg (zG a_a))] (AV.tup [li r.1,li r.2]):=by
 refine zq func11 rfl ntmps11 results11 rfl ?_
 unfold zGQ at h
 refine zI<|zC<|za (H':=[.box 26 (zG a_a)]) (zw (t:=26) rfl)<|zA (zD rfl)<|zA (zD rfl)<|zF ?_
 refine zI<|zI<|zC<|zA (zS (k:=0) (o:=0) (m:=5) isAgg26 sizeOf26 rfl rfl rfl rfl rfl)<|zR h fun x1 hx1 h=>zi func13 rfl (by kernel_rfl) (.fn 13) rfl rfl (zA3 hx1) rfl ?_
 refine zA (z7 rfl rfl)<|zF ?_
 refine zY h rfl (fun hb1 h => ?_) (fun hb1 h => ?_)
 ·refine zI<|zC<|zA (zD rfl)<|zA (zD rfl)<|zF<|zb ?_
  show zAQ _ _ _ _ _ _
  obtain rfl:=Option.some.inj h
  exact zCR (zAM rfl rfl) (zAM rfl rfl) rfl
 ·refine zP<|zI<|zC<|zA (zD rfl)<|zA (zD rfl)<|zF ?_
  refine zx (fun e' H' => ∃ (i1:Int) (i2:Int),Rep 35 0 e' H' (mkE [(4,(li i1)),(5,(li i2))]) []∧zE2 i1 i2=some r) ?_ ?_
  ·
   refine zI<|zC<|zA (zK underlying26 rfl rfl sizeOf23 rfl)<|zA (zN isAgg23 rfl rfl rfl rfl)<|zA (zX underlying23 rfl)<|zA (zB rfl) ?_
   refine zF<|zQ<|z6 (σ:=Nat×Int×Int×Int) (fun s=>s.1) (fun s e' H'=>match s with | (n0,i3,i4,i5)=>Rep 35 0 e' H' (mkE [(1,(AV.ptr 0 0)),(4,(li i3)),(5,(li i4)),(13,(ls zO a_a.zones)),(14,(li (a_a.zones.length:Int))),(15,(li i5))]) [.box 26 (zG a_a)]∧zCV a_a n0 i3 i4 i5=some r) (z9,0,0,0) ⟨zAE [0] rfl rfl (by kernel_rfl),h⟩ ?_
   clear h
   rintro ⟨n0,i3,i4,i5⟩ e' H' ⟨hrep,h⟩
   cases n0 with
   | zero=>exact absurd (show (none:Option _)=some r from h) (by simp)
   | succ n0 =>
    replace h:zFK a_a (zCV a_a n0) i3 i4 i5=some r:=h
    unfold zFK at h
    refine zV hrep ?_
    clear hrep
    refine zI<|zC<|zA (ze rfl rfl)<|zF<|zI ?_
    refine zY h rfl (fun hb2 h => ?_) (fun hb2 h => ?_)
    ·refine zP ?_
     refine zx (fun e' H' => ∃ (i6:Int) (i7:Int),Rep 35 0 e' H' (mkE [(1,(AV.ptr 0 0)),(4,(li i6)),(5,(li i7)),(13,(ls zO a_a.zones)),(14,(li (a_a.zones.length:Int))),(15,(li i5))]) [.box 26 (zG a_a)]∧zDB (zCV a_a n0) i5 i6 i7=some r) ?_ ?_
     ·
      refine zQ<|zI<|zC<|zA (zB rfl)<|zM h fun hb4 h=>zA (zU underlying23 sizeOf51 (fun _=>rfl) rfl rfl hb4) ?_
      refine zA (zAb (row:=(zO (at_ a_a.zones i5))) (o:=0) (m:=10) (la:=(zO (at_ a_a.zones i5))) isAgg51 sizeOf51 rfl rfl rfl)<|za (H':=[.box 26 (zG a_a),.box 51 (zO ⟨0,0,0,0,0,(List.replicate 5 ([]:List Int))⟩)]) (zv (t:=51) (vs:=[.int .i64 0,.int .i64 0,.int .i64 0,.int .i64 0,.int .i64 0,.slice none 0 0,.slice none 0 0,.slice none 0 0,.slice none 0 0,.slice none 0 0]) (cs:=[.lit (.int .i64 0),.lit (.int .i64 0),.lit (.int .i64 0),.lit (.int .i64 0),.lit (.int .i64 0),.sl false [],.sl false [],.sl false [],.sl false [],.sl false []]) zeroValue51 (by kernel_rfl) rfl ⟨zh.refl _,zh.refl _,zh.refl _,zh.refl _,zh.refl _,zh.nils,zh.nils,zh.nils,zh.nils,zh.nils,trivial⟩)<|zA (zD rfl)<|zm (H':=[.box 26 (zG a_a),.box 51 (zO (at_ a_a.zones i5))]) (zZ (k:=1) (o:=0) (cs:=(zO ⟨0,0,0,0,0,(List.replicate 5 ([]:List Int))⟩)) (la:=(zO (at_ a_a.zones i5))) sizeOf51 rfl rfl rfl rfl)<|zF<|zI ?_
      refine zC<|zA (zS (k:=0) (o:=0) (m:=5) isAgg26 sizeOf26 rfl rfl rfl rfl rfl)<|zA (zB rfl)<|zR h fun x2 hx2 h=>zi func39 rfl (by kernel_rfl) (.fn 39) rfl rfl (zG4 hx2) rfl<|zA (zD rfl) ?_
      refine zF<|zI<|zC<|zA (zB rfl)<|zA (zB rfl)<|zM h fun hb5 h => ?_
      refine zA (zf rfl rfl hb5)<|zA (zD rfl)<|zF<|zI<|zC<|zA (zK underlying51 rfl rfl sizeOf3 rfl) ?_
      refine zA (zN isAgg3 rfl rfl rfl rfl)<|zA (zBR rfl rfl)<|zF ?_
      refine zY h rfl (fun hb6 h => ?_) (fun hb6 h => ?_)
      ·refine zC<|zA (zB rfl)<|zA (zB rfl)<|zM h fun hb7 h=>zA (zf rfl rfl hb7)<|zA (zD rfl) ?_
       refine zF ?_
       exact ⟨(i3+x2),(i4+x2),zAE [0] rfl rfl (by kernel_rfl),h⟩
      ·refine zP ?_
       exact ⟨i3,(i4+x2),zAE [0] rfl rfl (by kernel_rfl),h⟩
     ·
      clear h
      rintro e' H' ⟨i6,i7,hrep,h⟩
      refine zV hrep ?_
      clear hrep
      unfold zDB at h
      refine zC<|zM h fun hb3 h=>zA (zf rfl rfl hb3)<|zA (zB rfl)<|zF ?_
      exact ⟨(n0,i6,i7,(i5+1)),Nat.lt_succ_self _,zAE [0] rfl rfl (by kernel_rfl),h⟩
    ·refine zy ?_
     exact ⟨i3,i4,zAE [] rfl rfl (by kernel_rfl),h⟩
  ·
   clear h
   rintro e' H' ⟨i1,i2,hrep,h⟩
   refine zV hrep ?_
   clear hrep
   unfold zE2 at h
   refine zI<|zC<|zA (zB rfl)<|zA (zB rfl)<|zA (zD rfl)<|zA (zD rfl) ?_
   refine zF<|zb ?_
   show zAQ _ _ _ _ _ _
   obtain rfl:=Option.some.inj h
   exact zCR (zAM rfl rfl) (zAM rfl rfl) rfl
theorem zLd {a_zones:List zp} {r:Int} (h:zIs a_zones=some r):PFn prog 135 [ls zO a_zones] (li r):=by
 refine zq func135 rfl ntmps135 results135 rfl ?_
 unfold zIs at h
 refine zI<|zC<|zA (zD rfl)<|zF<|zI<|zI ?_
 refine zC<|zA (zB rfl)<|zA (zX underlying23 rfl)<|zA (zAl rfl rfl)<|zF ?_
 refine zY h rfl (fun hb1 h => ?_) (fun hb1 h => ?_)
 ·refine zI<|zC<|zA (zD rfl)<|zF<|zb ?_
  show zAQ _ _ _ _ _ _
  obtain rfl:=Option.some.inj h
  exact zu (zAM rfl rfl)
 ·refine zP ?_
  refine zx (fun e' H'=>Rep 31 0 e' H' (mkE []) []∧zG5  = some r) ?_ ?_
  ·
   refine zI<|zC<|zA (zB rfl)<|zA (zX underlying23 rfl)<|zA (zB rfl)<|zF ?_
   refine zQ<|z6 (σ:=Nat×Int) (fun s=>s.1) (fun s e' H'=>match s with | (n0,i1)=>Rep 31 0 e' H' (mkE [(8,(ls zO a_zones)),(9,(li (a_zones.length:Int))),(10,(li i1))]) []∧zFS a_zones n0 i1=some r) (z9,0) ⟨zAE [] rfl rfl (by kernel_rfl),h⟩ ?_
   clear h
   rintro ⟨n0,i1⟩ e' H' ⟨hrep,h⟩
   cases n0 with
   | zero=>exact absurd (show (none:Option _)=some r from h) (by simp)
   | succ n0 =>
    replace h:zG3 a_zones (zFS a_zones n0) i1=some r:=h
    unfold zG3 at h
    refine zV hrep ?_
    clear hrep
    refine zI<|zC<|zA (ze rfl rfl)<|zF<|zI ?_
    refine zY h rfl (fun hb2 h => ?_) (fun hb2 h => ?_)
    ·refine zP<|zI<|zQ<|zI<|zC<|zM h fun hb3 h => ?_
     refine zA (zU underlying23 sizeOf51 (fun _=>rfl) rfl rfl hb3)<|zA (zAb (row:=(zO (at_ a_zones i1))) (o:=0) (m:=10) (la:=(zO (at_ a_zones i1))) isAgg51 sizeOf51 rfl rfl rfl)<|za (H':=[.box 51 (zO ⟨0,0,0,0,0,(List.replicate 5 ([]:List Int))⟩)]) (zv (t:=51) (vs:=[.int .i64 0,.int .i64 0,.int .i64 0,.int .i64 0,.int .i64 0,.slice none 0 0,.slice none 0 0,.slice none 0 0,.slice none 0 0,.slice none 0 0]) (cs:=[.lit (.int .i64 0),.lit (.int .i64 0),.lit (.int .i64 0),.lit (.int .i64 0),.lit (.int .i64 0),.sl false [],.sl false [],.sl false [],.sl false [],.sl false []]) zeroValue51 (by kernel_rfl) rfl ⟨zh.refl _,zh.refl _,zh.refl _,zh.refl _,zh.refl _,zh.nils,zh.nils,zh.nils,zh.nils,zh.nils,trivial⟩)<|zm (H':=[.box 51 (zO (at_ a_zones i1))]) (zZ (k:=0) (o:=0) (cs:=(zO ⟨0,0,0,0,0,(List.replicate 5 ([]:List Int))⟩)) (la:=(zO (at_ a_zones i1))) sizeOf51 rfl rfl rfl rfl)<|zF<|zI ?_
     refine zI<|zC<|zA (zK underlying51 rfl rfl sizeOf3 rfl)<|zA (zN isAgg3 rfl rfl rfl rfl)<|zA (ze rfl rfl)<|zA (zB rfl) ?_
     refine zT rfl rfl (fun hc1=>zt.step (zK underlying51 rfl rfl sizeOf3 rfl))<|zT rfl rfl (fun hc2=>zt.step (zN isAgg3 (z5 rfl hc2) rfl rfl rfl))<|zT rfl rfl (fun hc3=>zt.step (zAp (z5 rfl hc3) rfl))<|zA (zd rfl rfl)<|zF ?_
     refine zY h rfl (fun hb4 h => ?_) (fun hb4 h => ?_)
     ·refine zI<|zC<|zA (zD rfl)<|zF<|zb ?_
      show zAQ _ _ _ _ _ _
      obtain rfl:=Option.some.inj h
      exact zu (zAM rfl rfl)
     ·refine zP<|zI<|zC<|zA (zK underlying51 rfl rfl sizeOf3 rfl)<|zA (zN isAgg3 rfl rfl rfl rfl)<|zA (z7 rfl rfl) ?_
      refine zA (zB rfl)<|zo rfl rfl (fun hc4=>zt.step (zK underlying51 rfl rfl sizeOf3 rfl))<|zo rfl rfl (fun hc5=>zt.step (zN isAgg3 (z5 rfl hc5) rfl rfl rfl))<|zo rfl rfl (fun hc6=>zt.step (z7 (z5 rfl hc6) rfl))<|zA (zz (j := .lit undef) rfl rfl)<|zF ?_
      refine zY h rfl (fun hb5 h => ?_) (fun hb5 h => ?_)
      ·refine zI<|zC<|zA (zD rfl)<|zF<|zb ?_
       show zAQ _ _ _ _ _ _
       obtain rfl:=Option.some.inj h
       exact zu (zAM rfl rfl)
      ·refine zP<|zC<|zM h fun hb6 h=>zA (zf rfl rfl hb6)<|zA (zB rfl)<|zF ?_
       exact ⟨(n0,(i1+1)),Nat.lt_succ_self _,zAE [] rfl rfl (by kernel_rfl),h⟩
    ·refine zy ?_
     exact ⟨zAE [] rfl rfl (by kernel_rfl),h⟩
  ·
   clear h
   rintro e' H' ⟨hrep,h⟩
   refine zV hrep ?_
   clear hrep
   unfold zG5 at h
   refine zI<|zC<|zA (zD rfl)<|zF<|zb ?_
   show zAQ _ _ _ _ _ _
   obtain rfl:=Option.some.inj h
   exact zu (zAM rfl rfl)
theorem zLP {a_zones:List zp} {a_node:Int} {r:Int} (h:zIe a_zones a_node=some r):PFn prog 100 [ls zO a_zones,li a_node] (li r):=by
 refine zq func100 rfl ntmps100 results100 rfl ?_
 unfold zIe at h
 refine zI<|zC<|zA (zD rfl)<|zF<|zI<|zI ?_
 refine zC<|zA (zB rfl)<|zR h fun x1 hx1 h=>zi func135 rfl (by kernel_rfl) (.fn 135) rfl rfl (zLd hx1) rfl<|zA (zD rfl)<|zF ?_
 refine zI<|zC<|zA (zB rfl)<|zA (z7 rfl rfl)<|zF ?_
 refine zY h rfl (fun hb1 h => ?_) (fun hb1 h => ?_)
 ·refine zI<|zC<|zA (zB rfl)<|zA (zD rfl)<|zF<|zb ?_
  show zAQ _ _ _ _ _ _
  obtain rfl:=Option.some.inj h
  exact zu (zAM rfl rfl)
 ·refine zP<|zI<|zI<|zC<|zA (zB rfl)<|zA (ze rfl rfl) ?_
  refine zA (zB rfl)<|zT rfl rfl (fun hc1=>zt.step (zB rfl))<|zT rfl rfl (fun hc2=>zt.step (zAp (z5 rfl hc2) rfl))<|zA (zd rfl rfl)<|zF ?_
  refine zY h rfl (fun hb2 h => ?_) (fun hb2 h => ?_)
  ·refine zI<|zC<|zA (zD rfl)<|zF<|zb ?_
   show zAQ _ _ _ _ _ _
   obtain rfl:=Option.some.inj h
   exact zu (zAM rfl rfl)
  ·refine zP<|zI<|zC<|zA (zD rfl)<|zF<|zb ?_
   show zAQ _ _ _ _ _ _
   obtain rfl:=Option.some.inj h
   exact zu (zAM rfl rfl)
theorem zMW {a_from_:Int} {a_node:Int} {r:Int} (h:zJ2 a_from_ a_node=some r):PFn prog 102 [li a_from_,li a_node] (li r):=by
 refine zq func102 rfl ntmps102 results102 rfl ?_
 unfold zJ2 at h
 refine zI<|zC<|zA (zD rfl)<|zF<|zI<|zI ?_
 refine zC<|zA (zB rfl)<|zA (zB rfl)<|zA (ze rfl rfl)<|zF ?_
 refine zY h rfl (fun hb1 h => ?_) (fun hb1 h => ?_)
 ·refine zI<|zC<|zA (zB rfl)<|zA (zB rfl)<|zM h fun hb2 h=>zA (zB8 rfl rfl hb2) ?_
  refine zM h fun hb3 h=>zA (zKy (a:=2) (b:=a_from_ - a_node) rfl rfl hb3)<|zA (zD rfl)<|zF<|zb ?_
  show zAQ _ _ _ _ _ _
  obtain rfl:=Option.some.inj h
  exact zu (zAM rfl rfl)
 ·refine zP<|zI<|zC<|zA (zB rfl)<|zA (zB rfl)<|zM h fun hb4 h => ?_
  refine zA (zB8 rfl rfl hb4)<|zM h fun hb5 h=>zA (zKy (a:=2) (b:=a_node - a_from_) rfl rfl hb5)<|zM h fun hb6 h=>zA (zf rfl rfl hb6)<|zA (zD rfl) ?_
  refine zF<|zb ?_
  show zAQ _ _ _ _ _ _
  obtain rfl:=Option.some.inj h
  exact zu (zAM rfl rfl)
theorem zKa {a_i:Int} {c_0:Int} {c_1:List zp} {r:Int} (h:zHi a_i c_0 c_1=some r):PFn prog 101 [li a_i,(AV.rp [li c_0] 0),(AV.rp [ls zO c_1] 0)] (li r):=by
 refine zq func101 rfl ntmps101 results101 rfl ?_
 unfold zHi at h
 refine zI<|zC<|zA (zD rfl)<|zF<|zI<|zM h fun hb1 h => ?_
 refine zR h fun x1 hx1 h=>zM h fun hb2 h => ?_
 show AW _ _ _ _ _ _ []
 refine zAx (n:=23) (m:=0) [.head 0 0,.head 0 0,.head 0 0,.head 0 0,.head 0 0,.head 0 0,.head 0 0,.head 0 0,.head 0 0] [] [li c_0,ls zO c_1,li a_i,(AV.rp (zO (at_ c_1 a_i)) 0),(AV.rp (zO (at_ c_1 a_i)) 0),(li ((at_ c_1 a_i).node)),li x1,(li (2*x1)),(li (2*x1))] [[]] (by kernel_rfl) (by kernel_rfl) ⟨?_,?_,?_,?_,?_,?_,?_,?_,?_,trivial⟩ ?_
 ·exact D1 fun e s p=>zW (o:=0) isAgg3 (s 1 rfl) rfl
 ·exact D1 fun e s p=>zW (o:=0) isAgg23 (s 2 rfl) rfl
 ·exact D1 fun e s p=>zB (s 0 rfl)
 ·exact D1 fun e s p=>zU (f:=zO) (l:=c_1) (i:=a_i) underlying23 sizeOf51 (fun _=>rfl) p.1 p.2.1 hb1
 ·exact D1 fun e s p=>zBQ (row:=(zO (at_ c_1 a_i))) (o:=0) (off:=0) underlying51 rfl rfl sizeOf3 p.1
 ·exact D1 fun e s p=>zW (o:=0) isAgg3 p.1 rfl
 ·
  intro e7 hs7 hp7
  refine zi (r:=(li x1)) (la:=[li c_0,(li ((at_ c_1 a_i).node))]) func102 rfl (by kernel_rfl) (.fn 102) (zAK hp7.1 (zAK hp7.2.1 rfl)) rfl (zMW hx1) rfl ?_
  exact zF ⟨fun _=>rfl,rfl⟩
 ·exact D1 fun e s p=>zKy (a:=2) (b:=x1) rfl p.1 hb2
 ·exact D1 fun e s p=>zD p.2.2.2.2.2.2.2.2.2.1
 intro e10 hs10 hq1
 refine zV (zBY (l:=[(0,(li a_i)),(2,(AV.rp [ls zO c_1] 0)),(5,(li (2*x1)))]) ⟨hs10 0 rfl,hs10 2 rfl,(hq1 8 (by decide) (by decide)),trivial⟩) ?_
 refine zx (fun e' H' => ∃ (i1:Int),Rep 23 0 e' H' (mkE [(5,(li i1))]) []∧zD7 i1=some r) ?_ ?_
 ·
  refine zI<|zC<|zA (zW (o:=0) isAgg23 rfl rfl)<|zA (zB rfl)<|zA (zU underlying23 sizeOf51 (fun _=>rfl) rfl rfl hb1)<|zA (zBQ (row:=(zO (at_ c_1 a_i))) (o:=0) (off:=1) underlying51 rfl rfl sizeOf3 rfl) ?_
  refine zA (zW (o:=1) isAgg3 rfl rfl)<|zA (zBR rfl rfl)<|zF ?_
  refine zY h rfl (fun hb3 h => ?_) (fun hb3 h => ?_)
  ·refine zC<|zA (zB rfl)<|zM h fun hb4 h=>zA (zf rfl rfl hb4)<|zA (zD rfl)<|zF ?_
   exact ⟨((2*x1)+1),zAE [] rfl rfl (by kernel_rfl),h⟩
  ·refine zP ?_
   exact ⟨(2*x1),zAE [] rfl rfl (by kernel_rfl),h⟩
 ·
  clear h
  rintro e' H' ⟨i1,hrep,h⟩
  refine zV hrep ?_
  clear hrep
  unfold zD7 at h
  refine zI<|zC<|zA (zB rfl)<|zA (zD rfl)<|zF<|zb ?_
  show zAQ _ _ _ _ _ _
  obtain rfl:=Option.some.inj h
  exact zu (zAM rfl rfl)
theorem zK2 {a_x:Int} {a_y:Int} {r:Int} (h:zIS a_x a_y=some r):PFn prog 105 [li a_x,li a_y] (li r):=by
 refine zq func105 rfl ntmps105 results105 rfl ?_
 unfold zIS at h
 refine zI<|zC<|zA (zD rfl)<|zF<|zI<|zC ?_
 refine zA (zB rfl)<|zR h fun x1 hx1 h=>zi func137 rfl (by kernel_rfl) (.fn 137) rfl rfl (zFu hx1) rfl<|zA (zD rfl)<|zF<|zI ?_
 refine zC<|zA (zB rfl)<|zR h fun x2 hx2 h=>zi func137 rfl (by kernel_rfl) (.fn 137) rfl rfl (zFu hx2) rfl<|zA (zD rfl)<|zF ?_
 refine zI<|zI<|zC<|zA (zB rfl)<|zF ?_
 refine zY h rfl (fun hb1 h => ?_) (fun hb1 h => ?_)
 ·refine zI<|zI<|zC<|zA (zB rfl)<|zF ?_
  refine zY h rfl (fun hb2 h => ?_) (fun hb2 h => ?_)
  ·refine zI<|zC<|zA (zD rfl)<|zF<|zb ?_
   show zAQ _ _ _ _ _ _
   obtain rfl:=Option.some.inj h
   exact zu (zAM rfl rfl)
  ·refine zP<|zI<|zC<|zA (zD rfl)<|zF<|zb ?_
   show zAQ _ _ _ _ _ _
   obtain rfl:=Option.some.inj h
   exact zu (zAM rfl rfl)
 ·refine zP<|zI<|zI<|zC<|zA (zB rfl)<|zF ?_
  refine zY h rfl (fun hb3 h => ?_) (fun hb3 h => ?_)
  ·refine zI<|zC<|zA (zD rfl)<|zF<|zb ?_
   show zAQ _ _ _ _ _ _
   obtain rfl:=Option.some.inj h
   exact zu (zAM rfl rfl)
  ·refine zP<|zI<|zI<|zC<|zA (zB rfl)<|zA (zB rfl) ?_
   refine zA (ze rfl rfl)<|zF ?_
   refine zY h rfl (fun hb4 h => ?_) (fun hb4 h => ?_)
   ·refine zI<|zC<|zA (zD rfl)<|zF<|zb ?_
    show zAQ _ _ _ _ _ _
    obtain rfl:=Option.some.inj h
    exact zu (zAM rfl rfl)
   ·refine zP<|zI<|zI<|zC<|zA (zB rfl)<|zA (zB rfl) ?_
    refine zA (zAl rfl rfl)<|zF ?_
    refine zY h rfl (fun hb5 h => ?_) (fun hb5 h => ?_)
    ·refine zI<|zC<|zA (zD rfl)<|zF<|zb ?_
     show zAQ _ _ _ _ _ _
     obtain rfl:=Option.some.inj h
     exact zu (zAM rfl rfl)
    ·refine zP<|zI<|zC<|zA (zD rfl)<|zF<|zb ?_
     show zAQ _ _ _ _ _ _
     obtain rfl:=Option.some.inj h
     exact zu (zAM rfl rfl)
theorem zKS {a_a : Int} {a_b : Int} {c_0 : Int → Option Int} {g_c_0 : FuncId} {cf_c_0 : Func} {code_c_0 : Code} {caps_c_0 : List AV} (hcf_c_0 : Tryz.prog.funcs[g_c_0]? = some cf_c_0) (hcb_c_0 : cf_c_0.body = some code_c_0) (hcn_c_0 : (cf_c_0.name == "runtime.NumGoroutine") = false) (hnr_c_0 : caps_c_0.all nr = true) (hg_c_0 : ∀ {x0 : Int} {y : Int}, c_0 x0 = some y → PFn prog g_c_0 ((li x0) :: caps_c_0) (li y)) {r : Int} (h : zHj a_a a_b c_0 = some r) : PFn prog 104 [(li a_a), (li a_b), (AV.rp [(AV.clo g_c_0 caps_c_0)] 0)] (li r) := by
 refine zq func104 rfl ntmps104 results104 rfl ?_
 unfold zHj at h
 refine zI<|zC<|zA (zD rfl)<|zF<|zI<|zR h fun x1 hx1 h => ?_
 refine zR h fun x2 hx2 h=>zR h fun x3 hx3 h => ?_
 show AW _ _ _ _ _ _ []
 refine zAx (n:=13) (m:=0) [.head 0 0,.head 0 0,.head 0 0,.head 0 0,.head 0 0,.head 0 0,.head 0 0,.head 0 0] [] [AV.clo g_c_0 caps_c_0,li a_a,li x1,AV.clo g_c_0 caps_c_0,li a_b,li x2,li x3,li x3] [[]] (by kernel_rfl) (by kernel_rfl) ⟨?_,?_,?_,?_,?_,?_,?_,?_,trivial⟩ ?_
 ·exact D1 fun e s p=>zW (o:=0) isAgg100 (s 2 rfl) rfl
 ·exact D1 fun e s p=>zB (s 0 rfl)
 ·
  intro e3 hs3 hp3
  refine zAw (la:=(li a_a)::caps_c_0) (la':=(li a_a)::caps_c_0) (r:=(li x1)) (r':=(li x1)) (S:=[]) hcf_c_0 hcb_c_0 hcn_c_0 (.clo (caps:=caps_c_0) hp3.1) (zAK hp3.2.1 rfl) (zDY.c (zAt.nr rfl) (zDY.nrs hnr_c_0)) (hg_c_0 hx1) (.inl rfl) rfl ?_
  exact zF ⟨fun _=>rfl,rfl⟩
 ·exact D1 fun e s p=>zW (o:=0) isAgg100 (s 2 rfl) rfl
 ·exact D1 fun e s p=>zB (s 1 rfl)
 ·
  intro e6 hs6 hp6
  refine zAw (la:=(li a_b)::caps_c_0) (la':=(li a_b)::caps_c_0) (r:=(li x2)) (r':=(li x2)) (S:=[]) hcf_c_0 hcb_c_0 hcn_c_0 (.clo (caps:=caps_c_0) hp6.1) (zAK hp6.2.1 rfl) (zDY.c (zAt.nr rfl) (zDY.nrs hnr_c_0)) (hg_c_0 hx2) (.inl rfl) rfl ?_
  exact zF ⟨fun _=>rfl,rfl⟩
 ·
  intro e7 hs7 hp7
  refine zi (r:=(li x3)) (la:=[li x1,li x2]) func105 rfl (by kernel_rfl) (.fn 105) (zAK hp7.1 (zAK hp7.2.2.1 rfl)) rfl (zK2 hx3) rfl ?_
  exact zF ⟨fun _=>rfl,rfl⟩
 ·exact D1 fun e s p=>zD p.2.2.2.2.2.2.2.2.1
 intro e9 hs9 hq1
 refine zV (zBY (l:=[(5,(li x3))]) ⟨(hq1 7 (by decide) (by decide)),trivial⟩)<|zb ?_
 show zAQ _ _ _ _ _ _
 obtain rfl:=Option.some.inj h
 exact zu (zAM rfl rfl)
theorem zC5 {a_data : List Int} {a_a : Int} {a_b : Int} {a_cmp : Int → Int → Option Int} {g_a_cmp : FuncId} {cf_a_cmp : Func} {code_a_cmp : Code} {caps_a_cmp : List AV} (hcf_a_cmp : Tryz.prog.funcs[g_a_cmp]? = some cf_a_cmp) (hcb_a_cmp : cf_a_cmp.body = some code_a_cmp) (hcn_a_cmp : (cf_a_cmp.name == "runtime.NumGoroutine") = false) (hnr_a_cmp : caps_a_cmp.all nr = true) (hg_a_cmp : ∀ {x0 : Int} {x1 : Int} {y : Int}, a_cmp x0 x1 = some y → PFn prog g_a_cmp ((li x0) :: (li x1) :: caps_a_cmp) (li y)) {r : (List Int)} (h : zBJ a_data a_a a_b a_cmp = some r) : AFn prog 145 [(AV.hd 0), (li a_a), (li a_b), (AV.clo g_a_cmp caps_a_cmp)] [.vec 3 1 (List.map cI a_data)] (.tup []) [.vec 3 1 (List.map cI r)] := by
 refine zF6 func145 rfl ntmps145 results145 rfl ?_
 unfold zBJ at h
 refine zI<|zC<|zA (zB rfl)<|zM h fun hb1 h=>zA (zf rfl rfl hb1)<|zA (zD rfl) ?_
 refine zF<|zQ<|z6 (σ:=Nat×Int×(List Int)) (fun s=>s.1) (fun s e' H'=>match s with | (n0,i1,l1)=>Rep 53 1 e' H' (mkE [(0,(AV.hd 0)),(1,(li a_a)),(2,(li a_b)),(3,(AV.clo g_a_cmp caps_a_cmp)),(8,(li i1))]) [.vec 3 1 (List.map cI l1)]∧zAI a_a a_b a_cmp n0 i1 l1=some r) (z9,(a_a+1),a_data) ⟨zBe (n:=53) (m:=1) [0] (l:=[(0,(AV.hd 0)),(1,(li a_a)),(2,(li a_b)),(3,(AV.clo g_a_cmp caps_a_cmp)),(8,(li (a_a+1)))]) ⟨⟨Sub.refl _,by kernel_rfl⟩,⟨Sub.refl _,by kernel_rfl⟩,⟨Sub.refl _,by kernel_rfl⟩,⟨zEj hnr_a_cmp,zEk hnr_a_cmp⟩,⟨Sub.refl _,by kernel_rfl⟩,trivial⟩ rfl rfl ⟨⟨rfl,by kernel_rfl⟩,trivial⟩,h⟩ ?_
 clear h
 rintro ⟨n0,i1,l1⟩ e' H' ⟨hrep,h⟩
 cases n0 with
 | zero=>exact absurd (show (none:Option _)=some r from h) (by simp)
 | succ n0 =>
  replace h:zBh a_a a_b a_cmp (zAI a_a a_b a_cmp n0) i1 l1=some r:=h
  unfold zBh at h
  refine zV hrep ?_
  clear hrep
  refine zI<|zI<|zC<|zA (zB rfl)<|zA (zB rfl)<|zA (ze rfl rfl) ?_
  refine zF ?_
  refine zY h rfl (fun hb2 h => ?_) (fun hb2 h => ?_)
  ·refine zP ?_
   refine zx (fun e' H' => ∃ (l2:List Int),Rep 53 1 e' H' (mkE [(0,(AV.hd 0)),(1,(li a_a)),(2,(li a_b)),(3,(AV.clo g_a_cmp caps_a_cmp)),(8,(li i1))]) [.vec 3 1 (List.map cI l2)]∧zBf (zAI a_a a_b a_cmp n0) i1 l2=some r) ?_ ?_
   ·
    refine zQ<|zI<|zC<|zA (zB rfl)<|zA (zD rfl)<|zF ?_
    refine zQ<|z6 (σ:=Nat×Int×(List Int)) (fun s=>s.1) (fun s e' H'=>match s with | (n1,i2,l3)=>Rep 53 1 e' H' (mkE [(0,(AV.hd 0)),(1,(li a_a)),(2,(li a_b)),(3,(AV.clo g_a_cmp caps_a_cmp)),(8,(li i1)),(9,(li i2))]) [.vec 3 1 (List.map cI l3)]∧zA9 (zAI a_a a_b a_cmp n0) a_a a_cmp i1 n1 i2 l3=some r) (z9,i1,l1) ⟨zBe (n:=53) (m:=1) [0] (l:=[(0,(AV.hd 0)),(1,(li a_a)),(2,(li a_b)),(3,(AV.clo g_a_cmp caps_a_cmp)),(8,(li i1)),(9,(li i1))]) ⟨⟨Sub.refl _,by kernel_rfl⟩,⟨Sub.refl _,by kernel_rfl⟩,⟨Sub.refl _,by kernel_rfl⟩,⟨zEj hnr_a_cmp,zEk hnr_a_cmp⟩,⟨Sub.refl _,by kernel_rfl⟩,⟨Sub.refl _,by kernel_rfl⟩,trivial⟩ rfl rfl ⟨⟨rfl,by kernel_rfl⟩,trivial⟩,h⟩ ?_
    clear h
    rintro ⟨n1,i2,l3⟩ e' H' ⟨hrep,h⟩
    cases n1 with
    | zero=>exact absurd (show (none:Option _)=some r from h) (by simp)
    | succ n1 =>
     replace h:zBg (zAI a_a a_b a_cmp n0) a_a a_cmp i1 (zA9 (zAI a_a a_b a_cmp n0) a_a a_cmp i1 n1) i2 l3=some r:=h
     unfold zBg at h
     refine zV hrep ?_
     clear hrep
     refine zI<|zI<|zM h fun hb4 h=>zM h fun hb5 h=>zM h fun hb6 h=>zR h fun x1 hx1 h => ?_
     show AW _ _ _ _ _ _ [.vec 3 1 (List.map cI l3)]
     refine zAx (n:=53) (m:=1) [.head 0 0,.head 0 0,.head 0 0,.head 0 0,.head 0 0,.head 0 0,.head 0 0,.head 0 0,.head 0 0,.head 0 0,.head 0 0,.head 0 0,.head 0 0,.head 0 0,.head 0 0,.head 0 0,.head 0 0] [] [li i2,li a_a,(AV.lit (.bool (decide (a_a<i2)))),(AV.lit (.bool (decide (a_a<i2)))),(bif decide (a_a<i2) then (AV.clo g_a_cmp caps_a_cmp) else .lit undef),(bif decide (a_a<i2) then (AV.hd 0) else .lit undef),(bif decide (a_a<i2) then (li i2) else .lit undef),(bif decide (a_a<i2) then (AV.ptr 0 (i2.toNat*1)) else .lit undef),(bif decide (a_a<i2) then (li (at_ l3 i2)) else .lit undef),(bif decide (a_a<i2) then (AV.hd 0) else .lit undef),(bif decide (a_a<i2) then (li i2) else .lit undef),(bif decide (a_a<i2) then (li (i2 - 1)) else .lit undef),(bif decide (a_a<i2) then (AV.ptr 0 ((i2 - 1).toNat*1)) else .lit undef),(bif decide (a_a<i2) then (li (at_ l3 (i2 - 1))) else .lit undef),(bif decide (a_a<i2) then (li x1) else .lit undef),(bif decide (a_a<i2) then (AV.lit (.bool (decide (x1<0)))) else .lit undef),(AV.lit (.bool ((decide (a_a<i2))&&(decide (x1<0)))))] [[.vec 3 1 (List.map cI l3)]] (by kernel_rfl) (by kernel_rfl) ⟨?_,?_,?_,?_,?_,?_,?_,?_,?_,?_,?_,?_,?_,?_,?_,?_,?_,trivial⟩ ?_
     ·exact D1 fun e s p=>zB (s 9 rfl)
     ·exact D1 fun e s p=>zB (s 1 rfl)
     ·exact D1 fun e s p=>zAl (a:=i2) (b:=a_a) p.1 p.2.1
     ·exact D1 fun e s p=>zB p.1
     ·
      intro e5 hs5 hp5
      refine zo (g:=21) (s:=decide (a_a<i2)) rfl hp5.1 (fun hc13=>zt.step (zB (av:=(AV.clo g_a_cmp caps_a_cmp)) (hs5 3 rfl))) ?_
      exact zF ⟨fun _=>rfl,rfl⟩
     ·
      intro e6 hs6 hp6
      refine zo (g:=21) (s:=decide (a_a<i2)) rfl hp6.1 (fun hc14=>zt.step (zB (av:=(AV.hd 0)) (hs6 0 rfl))) ?_
      exact zF ⟨fun _=>rfl,rfl⟩
     ·
      intro e7 hs7 hp7
      refine zo (g:=21) (s:=decide (a_a<i2)) rfl hp7.1 (fun hc15=>zt.step (zB (av:=(li i2)) (hs7 9 rfl))) ?_
      exact zF ⟨fun _=>rfl,rfl⟩
     ·
      intro e8 hs8 hp8
      refine zo (g:=21) (s:=decide (a_a<i2)) rfl hp8.2.2.1 (fun hc16=>zt.step (zAC (f:=cI) (l:=l3) (i:=i2) underlying22 sizeOf3 (z5 hp8.1 hc16) rfl (z5 hp8.2.1 hc16) (zGd hb4 hc16))) ?_
      exact zF ⟨fun _=>rfl,rfl⟩
     ·
      intro e9 hs9 hp9
      refine zo (g:=21) (s:=decide (a_a<i2)) rfl hp9.2.1 (fun hc17=>zt.step (zBS (f:=cI) (l:=l3) (i:=i2) (c:=0) (a:=(li (at_ l3 i2))) isAgg3 (z5 hp9.1 hc17) rfl (by first | rfl | omega) (zGd hb4 hc17) rfl rfl)) ?_
      exact zF ⟨fun _=>rfl,rfl⟩
     ·
      intro e10 hs10 hp10
      refine zo (g:=21) (s:=decide (a_a<i2)) rfl hp10.1 (fun hc18=>zt.step (zB (av:=(AV.hd 0)) (hs10 0 rfl))) ?_
      exact zF ⟨fun _=>rfl,rfl⟩
     ·
      intro e11 hs11 hp11
      refine zo (g:=21) (s:=decide (a_a<i2)) rfl hp11.1 (fun hc19=>zt.step (zB (av:=(li i2)) (hs11 9 rfl))) ?_
      exact zF ⟨fun _=>rfl,rfl⟩
     ·
      intro e12 hs12 hp12
      refine zo (g:=21) (s:=decide (a_a<i2)) rfl hp12.2.1 (fun hc20=>zt.step (zB8 (a:=i2) (b:=1) (z5 hp12.1 hc20) rfl (zGd hb5 hc20))) ?_
      exact zF ⟨fun _=>rfl,rfl⟩
     ·
      intro e13 hs13 hp13
      refine zo (g:=21) (s:=decide (a_a<i2)) rfl hp13.2.2.1 (fun hc21=>zt.step (zAC (f:=cI) (l:=l3) (i:=i2 - 1) underlying22 sizeOf3 (z5 hp13.1 hc21) rfl (z5 hp13.2.1 hc21) (zGd hb6 hc21))) ?_
      exact zF ⟨fun _=>rfl,rfl⟩
     ·
      intro e14 hs14 hp14
      refine zo (g:=21) (s:=decide (a_a<i2)) rfl hp14.2.1 (fun hc22=>zt.step (zBS (f:=cI) (l:=l3) (i:=i2 - 1) (c:=0) (a:=(li (at_ l3 (i2 - 1)))) isAgg3 (z5 hp14.1 hc22) rfl (by first | rfl | omega) (zGd hb6 hc22) rfl rfl)) ?_
      exact zF ⟨fun _=>rfl,rfl⟩
     ·
      intro e15 hs15 hp15
      refine zCp (g:=21) (s:=decide (a_a<i2)) (r':=(li x1)) rfl hp15.2.2.2.2.1 (fun hc23=>⟨g_a_cmp,cf_a_cmp,code_a_cmp,caps_a_cmp,(li (at_ l3 i2))::(li (at_ l3 (i2 - 1)))::caps_a_cmp,(li (at_ l3 i2))::(li (at_ l3 (i2 - 1)))::caps_a_cmp,li x1,[],hcf_a_cmp,hcb_a_cmp,hcn_a_cmp,.clo (z5 hp15.1 hc23),(zAK (z5 hp15.2.1 hc23) (zAK (z5 hp15.2.2.1 hc23) rfl)),zDY.c (zAt.nr rfl) (zDY.c (zAt.nr rfl) (zDY.nrs hnr_a_cmp)),hg_a_cmp (zF3 hc23 hx1),.inl rfl,rfl⟩) ?_
      exact zF ⟨fun _=>rfl,rfl⟩
     ·
      intro e16 hs16 hp16
      refine zo (g:=21) (s:=decide (a_a<i2)) rfl hp16.2.1 (fun hc24=>zt.step (ze (a:=x1) (b:=0) (z5 hp16.1 hc24) rfl)) ?_
      exact zF ⟨fun _=>rfl,rfl⟩
     ·exact D1 fun e s p=>zz (s:=decide (a_a<i2)) (q:=decide (x1<0)) (j := .lit undef) p.1 p.2.1
     intro e18 hs18 hq1
     refine zV (zBY (l:=[(0,(AV.hd 0)),(1,(li a_a)),(2,(li a_b)),(3,(AV.clo g_a_cmp caps_a_cmp)),(8,(li i1)),(9,(li i2)),(34,(AV.lit (.bool ((decide (a_a<i2))&&(decide (x1<0))))))]) ⟨hs18 0 rfl,hs18 1 rfl,hs18 2 rfl,hs18 3 rfl,hs18 8 rfl,hs18 9 rfl,(hq1 16 (by decide) (by decide)),trivial⟩) ?_
     refine zY h rfl (fun hb7 h => ?_) (fun hb7 h => ?_)
     ·refine zP<|zI<|zQ<|zM h fun hb8 h=>zM h fun hb9 h=>zM h fun hb10 h => ?_
      refine zM h fun hb11 h => ?_
      show AW _ _ _ _ _ _ [.vec 3 1 (List.map cI l3)]
      refine zAx (n:=53) (m:=1) [.head 0 0,.head 0 0,.head 0 1,.head 0 1,.head 0 1,.head 0 0,.head 0 0,.head 0 0,.head 0 0,.head 0 0,.head 0 0,.head 0 0,.head 0 0,.head 0 0,.head 0 0,.tail 0,.head 1 1,.tail 1] [15,17] [AV.hd 0,li i2,AV.hd 0,li i2,(li (i2 - 1)),AV.hd 0,li i2,(li (i2 - 1)),(AV.ptr 0 ((i2 - 1).toNat*1)),(li (at_ l3 (i2 - 1))),AV.hd 0,li i2,(AV.ptr 0 (i2.toNat*1)),(li (at_ l3 i2)),(AV.ptr 0 (i2.toNat*1)),.any,(AV.ptr 0 ((i2 - 1).toNat*1)),.any] [[.vec 3 1 (List.map cI l3)],[.vec 3 1 (List.map cI (l3.set i2.toNat (at_ l3 (i2 - 1))))],[.vec 3 1 (List.map cI ((l3.set i2.toNat (at_ l3 (i2 - 1))).set (i2 - 1).toNat (at_ l3 i2)))]] (by kernel_rfl) (by kernel_rfl) ⟨?_,?_,⟨?_,?_⟩,⟨?_,?_⟩,⟨?_,?_⟩,?_,?_,?_,?_,?_,?_,?_,?_,?_,?_,?_,?_,?_,trivial⟩ ?_
      ·exact D1 fun e s p=>zB (s 0 rfl)
      ·exact D1 fun e s p=>zB (s 9 rfl)
      ·exact D1 fun e s p=>zB (s 0 rfl)
      ·exact D1 fun e s p=>zB (s 0 rfl)
      ·exact D1 fun e s p=>zB (s 9 rfl)
      ·exact D1 fun e s p=>zB (s 9 rfl)
      ·exact D1 fun e s p=>zB8 (a:=i2) (b:=1) p.1 rfl hb8
      ·exact D1 fun e s p=>zB8 (a:=i2) (b:=1) p.1 rfl hb8
      ·exact D1 fun e s p=>zB (s 0 rfl)
      ·exact D1 fun e s p=>zB (s 9 rfl)
      ·exact D1 fun e s p=>zB8 (a:=i2) (b:=1) p.1 rfl hb8
      ·exact D1 fun e s p=>zAC (f:=cI) (l:=l3) (i:=i2 - 1) underlying22 sizeOf3 p.1 rfl p.2.1 hb9
      ·exact D1 fun e s p=>zBS (f:=cI) (l:=l3) (i:=i2 - 1) (c:=0) (a:=(li (at_ l3 (i2 - 1)))) isAgg3 p.1 rfl (by first | rfl | omega) hb9 rfl rfl
      ·exact D1 fun e s p=>zB (s 0 rfl)
      ·exact D1 fun e s p=>zB (s 9 rfl)
      ·exact D1 fun e s p=>zAC (f:=cI) (l:=l3) (i:=i2) underlying22 sizeOf3 p.1 rfl p.2.1 hb10
      ·exact D1 fun e s p=>zBS (f:=cI) (l:=l3) (i:=i2) (c:=0) (a:=(li (at_ l3 i2))) isAgg3 p.1 rfl (by first | rfl | omega) hb10 rfl rfl
      ·exact D1 fun e s p=>zAC (f:=cI) (l:=l3) (i:=i2) underlying22 sizeOf3 p.2.2.1 rfl p.2.2.2.1 hb10
      ·
       intro e37 hs37 hp36
       refine zm (H':=[.vec 3 1 (List.map cI (l3.set i2.toNat (at_ l3 (i2 - 1))))]) (zCJ (k:=0) (o:=(i2.toNat*1)) (f:=cI) (l:=l3) (i:=i2) (c:=0) (a:=(li (at_ l3 (i2 - 1)))) (z:=at_ l3 (i2 - 1)) sizeOf3 (by exact hp36.1) rfl (by first | rfl | omega) hb10 rfl (by exact hp36.2.2.2.2.2.2.2.2.2.2.2.1) rfl rfl rfl) ?_
       exact zF ⟨fun _=>rfl,rfl⟩
      ·exact D1 fun e s p=>zAC (f:=cI) (l:=l3.set i2.toNat (at_ l3 (i2 - 1))) (i:=i2 - 1) underlying22 sizeOf3 p.2.2.2.2.1 rfl p.2.2.2.2.2.2.1 hb11
      ·
       intro e39 hs39 hp38
       refine zm (H':=[.vec 3 1 (List.map cI ((l3.set i2.toNat (at_ l3 (i2 - 1))).set (i2 - 1).toNat (at_ l3 i2)))]) (zCJ (k:=0) (o:=((i2 - 1).toNat*1)) (f:=cI) (l:=l3.set i2.toNat (at_ l3 (i2 - 1))) (i:=i2 - 1) (c:=0) (a:=(li (at_ l3 i2))) (z:=at_ l3 i2) sizeOf3 (by exact hp38.1) rfl (by first | rfl | omega) hb11 rfl (by exact hp38.2.2.2.2.2.2.2.2.2.2.2.2.2.2.2.2.1) rfl rfl rfl) ?_
       exact zF ⟨fun _=>rfl,rfl⟩
      intro e40 hs40 hq2
      refine zV (zBY (l:=[(0,(AV.hd 0)),(1,(li a_a)),(2,(li a_b)),(3,(AV.clo g_a_cmp caps_a_cmp)),(8,(li i1)),(9,(li i2))]) ⟨hs40 0 rfl,hs40 1 rfl,hs40 2 rfl,hs40 3 rfl,hs40 8 rfl,hs40 9 rfl,trivial⟩)<|zC<|zA (zB (av:=(li i2)) rfl)<|zA (zB8 (a:=i2) (b:=1) rfl rfl hb8)<|zA (zD (av:=(li (i2 - 1))) rfl)<|zF ?_
      exact ⟨(n1,(i2 - 1),((l3.set i2.toNat (at_ l3 (i2 - 1))).set (i2 - 1).toNat (at_ l3 i2))),Nat.lt_succ_self _,zBe (n:=53) (m:=1) [0] (l:=[(0,(AV.hd 0)),(1,(li a_a)),(2,(li a_b)),(3,(AV.clo g_a_cmp caps_a_cmp)),(8,(li i1)),(9,(li (i2 - 1)))]) ⟨⟨Sub.refl _,by kernel_rfl⟩,⟨Sub.refl _,by kernel_rfl⟩,⟨Sub.refl _,by kernel_rfl⟩,⟨zEj hnr_a_cmp,zEk hnr_a_cmp⟩,⟨Sub.refl _,by kernel_rfl⟩,⟨Sub.refl _,by kernel_rfl⟩,trivial⟩ rfl rfl ⟨⟨rfl,by kernel_rfl⟩,trivial⟩,h⟩
     ·refine zy ?_
      exact ⟨l3,zBe (n:=53) (m:=1) [0] (l:=[(0,(AV.hd 0)),(1,(li a_a)),(2,(li a_b)),(3,(AV.clo g_a_cmp caps_a_cmp)),(8,(li i1))]) ⟨⟨Sub.refl _,by kernel_rfl⟩,⟨Sub.refl _,by kernel_rfl⟩,⟨Sub.refl _,by kernel_rfl⟩,⟨zEj hnr_a_cmp,zEk hnr_a_cmp⟩,⟨Sub.refl _,by kernel_rfl⟩,trivial⟩ rfl rfl ⟨⟨rfl,by kernel_rfl⟩,trivial⟩,h⟩
   ·
    clear h
    rintro e' H' ⟨l2,hrep,h⟩
    refine zV hrep ?_
    clear hrep
    unfold zBf at h
    refine zC<|zA (zB rfl)<|zM h fun hb3 h=>zA (zf rfl rfl hb3)<|zA (zD rfl)<|zF ?_
    exact ⟨(n0,(i1+1),l2),Nat.lt_succ_self _,zBe (n:=53) (m:=1) [0] (l:=[(0,(AV.hd 0)),(1,(li a_a)),(2,(li a_b)),(3,(AV.clo g_a_cmp caps_a_cmp)),(8,(li (i1+1)))]) ⟨⟨Sub.refl _,by kernel_rfl⟩,⟨Sub.refl _,by kernel_rfl⟩,⟨Sub.refl _,by kernel_rfl⟩,⟨zEj hnr_a_cmp,zEk hnr_a_cmp⟩,⟨Sub.refl _,by kernel_rfl⟩,trivial⟩ rfl rfl ⟨⟨rfl,by kernel_rfl⟩,trivial⟩,h⟩
  ·refine zy ?_
   show zQU _ _ _ _ _ _ _ _
   obtain rfl:=Option.some.inj h
   exact ⟨mkE [],[.vec 3 1 (List.map cI l1)],zAE [0] rfl rfl (by kernel_rfl),zLf rfl⟩
theorem zH7 {a_data : List Int} {a_n : Int} {a_cmp : Int → Int → Option Int} {g_a_cmp : FuncId} {cf_a_cmp : Func} {code_a_cmp : Code} {caps_a_cmp : List AV} (hcf_a_cmp : Tryz.prog.funcs[g_a_cmp]? = some cf_a_cmp) (hcb_a_cmp : cf_a_cmp.body = some code_a_cmp) (hcn_a_cmp : (cf_a_cmp.name == "runtime.NumGoroutine") = false) (hnr_a_cmp : caps_a_cmp.all nr = true) (hg_a_cmp : ∀ {x0 : Int} {x1 : Int} {y : Int}, a_cmp x0 x1 = some y → PFn prog g_a_cmp ((li x0) :: (li x1) :: caps_a_cmp) (li y)) {r : (List Int)} (h : zD1 a_data a_n a_cmp = some r) : AFn prog 136 [(AV.hd 0), (li a_n), (AV.clo g_a_cmp caps_a_cmp)] [.vec 3 1 (List.map cI a_data)] (.tup []) [.vec 3 1 (List.map cI r)] := by
 refine zF6 func136 rfl ntmps136 results136 rfl ?_
 unfold zD1 at h
 refine zI<|zC<|zA (zD rfl)<|zF<|zI<|zC ?_
 refine zA (zB rfl)<|zA (zD rfl)<|zA (zD rfl)<|zF ?_
 refine zx (fun e' H' => ∃ (i1:Int) (l1:List Int),Rep 63 1 e' H' (mkE [(0,(AV.hd 0)),(1,(li a_n)),(2,(AV.clo g_a_cmp caps_a_cmp)),(6,(li 20)),(7,(li i1))]) [.vec 3 1 (List.map cI l1)]∧zCt a_n a_cmp i1 l1=some r) ?_ ?_
 ·
  refine zQ<|z6 (σ:=Nat×Int×Int×(List Int)) (fun s=>s.1) (fun s e' H'=>match s with | (n2,i3,i4,l2)=>Rep 63 1 e' H' (mkE [(0,(AV.hd 0)),(1,(li a_n)),(2,(AV.clo g_a_cmp caps_a_cmp)),(6,(li 20)),(7,(li i3)),(8,(li i4))]) [.vec 3 1 (List.map cI l2)]∧zB3 a_n a_cmp n2 i3 i4 l2=some r) (z9,0,20,a_data) ⟨zBe (n:=63) (m:=1) [0] (l:=[(0,(AV.hd 0)),(1,(li a_n)),(2,(AV.clo g_a_cmp caps_a_cmp)),(6,(li 20)),(7,(li 0)),(8,(li 20))]) ⟨⟨Sub.refl _,by kernel_rfl⟩,⟨Sub.refl _,by kernel_rfl⟩,⟨zEj hnr_a_cmp,zEk hnr_a_cmp⟩,⟨Sub.refl _,by kernel_rfl⟩,⟨Sub.refl _,by kernel_rfl⟩,⟨Sub.refl _,by kernel_rfl⟩,trivial⟩ rfl rfl ⟨⟨rfl,by kernel_rfl⟩,trivial⟩,h⟩ ?_
  clear h
  rintro ⟨n2,i3,i4,l2⟩ e' H' ⟨hrep,h⟩
  cases n2 with
  | zero=>exact absurd (show (none:Option _)=some r from h) (by simp)
  | succ n2 =>
   replace h:zC0 a_n a_cmp (zB3 a_n a_cmp n2) i3 i4 l2=some r:=h
   unfold zC0 at h
   refine zV hrep ?_
   clear hrep
   refine zI<|zI<|zC<|zA (zB rfl)<|zA (zB rfl)<|zA (zCi rfl rfl) ?_
   refine zF ?_
   refine zY h rfl (fun hb8 h => ?_) (fun hb8 h => ?_)
   ·refine zP<|zQ<|zI<|zC<|zA (zB rfl)<|zA (zB rfl) ?_
    refine zA (zB rfl)<|zA (zB rfl)<|zR h fun x2 hx2 h=>zDw (k:=0) (la:=[AV.hd 0,li i3,li i4,AV.clo g_a_cmp caps_a_cmp]) (la':=[AV.hd 0,li i3,li i4,AV.clo g_a_cmp caps_a_cmp]) (r:=(.tup [])) (S:=[]) (en' := .vec 3 1 (List.map cI x2)) func145 rfl (by kernel_rfl) (.fn 145) rfl ⟨zCe.hd,zCe.of (zAt.nr rfl),zCe.of (zAt.nr rfl),zCe.of (zAt.clo (zDY.nrs hnr_a_cmp)),trivial⟩ rfl rfl rfl rfl (zC5 hcf_a_cmp hcb_a_cmp hcn_a_cmp hnr_a_cmp hg_a_cmp hx2) rfl (.inl rfl)<|zF<|zI ?_
    refine zC<|zA (zB rfl)<|zA (zD rfl)<|zF<|zC<|zA (zB rfl) ?_
    refine zA (zB rfl)<|zM h fun hb9 h=>zA (zf rfl rfl hb9)<|zA (zD rfl)<|zF ?_
    exact ⟨(n2,i4,(i4+20),x2),Nat.lt_succ_self _,zBe (n:=63) (m:=1) [0] (l:=[(0,(AV.hd 0)),(1,(li a_n)),(2,(AV.clo g_a_cmp caps_a_cmp)),(6,(li 20)),(7,(li i4)),(8,(li (i4+20)))]) ⟨⟨Sub.refl _,by kernel_rfl⟩,⟨Sub.refl _,by kernel_rfl⟩,⟨zEj hnr_a_cmp,zEk hnr_a_cmp⟩,⟨Sub.refl _,by kernel_rfl⟩,⟨Sub.refl _,by kernel_rfl⟩,⟨Sub.refl _,by kernel_rfl⟩,trivial⟩ rfl rfl ⟨⟨rfl,by kernel_rfl⟩,trivial⟩,h⟩
   ·refine zy ?_
    exact ⟨i3,l2,zBe (n:=63) (m:=1) [0] (l:=[(0,(AV.hd 0)),(1,(li a_n)),(2,(AV.clo g_a_cmp caps_a_cmp)),(6,(li 20)),(7,(li i3))]) ⟨⟨Sub.refl _,by kernel_rfl⟩,⟨Sub.refl _,by kernel_rfl⟩,⟨zEj hnr_a_cmp,zEk hnr_a_cmp⟩,⟨Sub.refl _,by kernel_rfl⟩,⟨Sub.refl _,by kernel_rfl⟩,trivial⟩ rfl rfl ⟨⟨rfl,by kernel_rfl⟩,trivial⟩,h⟩
 ·
  clear h
  rintro e' H' ⟨i1,l1,hrep,h⟩
  refine zV hrep ?_
  clear hrep
  unfold zCt at h
  refine zI<|zC<|zA (zB rfl)<|zA (zB rfl)<|zA (zB rfl)<|zA (zB rfl) ?_
  refine zR h fun x1 hx1 h=>zDw (k:=0) (la:=[AV.hd 0,li i1,li a_n,AV.clo g_a_cmp caps_a_cmp]) (la':=[AV.hd 0,li i1,li a_n,AV.clo g_a_cmp caps_a_cmp]) (r:=(.tup [])) (S:=[]) (en' := .vec 3 1 (List.map cI x1)) func145 rfl (by kernel_rfl) (.fn 145) rfl ⟨zCe.hd,zCe.of (zAt.nr rfl),zCe.of (zAt.nr rfl),zCe.of (zAt.clo (zDY.nrs hnr_a_cmp)),trivial⟩ rfl rfl rfl rfl (zC5 hcf_a_cmp hcb_a_cmp hcn_a_cmp hnr_a_cmp hg_a_cmp hx1) rfl (.inl rfl)<|zF<|zQ<|z6 (σ:=Nat×Int) (fun s=>s.1) (fun s e' H'=>match s with | (n0,i2)=>Rep 63 1 e' H' (mkE [(0,(AV.hd 0)),(1,(li a_n)),(2,(AV.clo g_a_cmp caps_a_cmp)),(6,(li i2))]) [.vec 3 1 (List.map cI x1)]∧zAc a_n x1 n0 i2=some r) (z9,20) ⟨zBe (n:=63) (m:=1) [0] (l:=[(0,(AV.hd 0)),(1,(li a_n)),(2,(AV.clo g_a_cmp caps_a_cmp)),(6,(li 20))]) ⟨⟨Sub.refl _,by kernel_rfl⟩,⟨Sub.refl _,by kernel_rfl⟩,⟨zEj hnr_a_cmp,zEk hnr_a_cmp⟩,⟨Sub.refl _,by kernel_rfl⟩,trivial⟩ rfl rfl ⟨⟨rfl,by kernel_rfl⟩,trivial⟩,h⟩ ?_
  clear h
  rintro ⟨n0,i2⟩ e' H' ⟨hrep,h⟩
  cases n0 with
  | zero=>exact absurd (show (none:Option _)=some r from h) (by simp)
  | succ n0 =>
   replace h:zC3 a_n x1 (zAc a_n x1 n0) i2=some r:=h
   unfold zC3 at h
   refine zV hrep ?_
   clear hrep
   refine zI<|zI<|zC<|zA (zB rfl)<|zA (zB rfl)<|zA (ze rfl rfl) ?_
   refine zF ?_
   refine zY h rfl (fun hb1 h => ?_) (fun hb1 h => ?_)
   ·refine zP<|zQ<|zI<|zC<|zA (zB rfl)<|zM h fun hb2 h => ?_
    refine zA (zKy (a:=2) (b:=i2) rfl rfl hb2)<|zA (zD rfl)<|zA (zD rfl)<|zF ?_
    refine zx (fun e' H'=>Rep 63 1 e' H' (mkE [(0,(AV.hd 0)),(1,(li a_n)),(2,(AV.clo g_a_cmp caps_a_cmp)),(6,(li i2)),(7,(li 0))]) [.vec 3 1 (List.map cI x1)]∧zCy (zAc a_n x1 n0) a_n i2=some r) ?_ ?_
    ·
     refine zQ<|z6 (σ:=Nat) (fun s=>s) (fun s e' H'=>match s with | n1=>Rep 63 1 e' H' (mkE [(0,(AV.hd 0)),(1,(li a_n)),(2,(AV.clo g_a_cmp caps_a_cmp)),(6,(li i2)),(7,(li 0)),(8,(li (2*i2)))]) [.vec 3 1 (List.map cI x1)]∧zBr (zAc a_n x1 n0) a_n i2 n1=some r) (z9) ⟨zBe (n:=63) (m:=1) [0] (l:=[(0,(AV.hd 0)),(1,(li a_n)),(2,(AV.clo g_a_cmp caps_a_cmp)),(6,(li i2)),(7,(li 0)),(8,(li (2*i2)))]) ⟨⟨Sub.refl _,by kernel_rfl⟩,⟨Sub.refl _,by kernel_rfl⟩,⟨zEj hnr_a_cmp,zEk hnr_a_cmp⟩,⟨Sub.refl _,by kernel_rfl⟩,⟨Sub.refl _,by kernel_rfl⟩,⟨Sub.refl _,by kernel_rfl⟩,trivial⟩ rfl rfl ⟨⟨rfl,by kernel_rfl⟩,trivial⟩,h⟩ ?_
     clear h
     rintro n1 e' H' ⟨hrep,h⟩
     cases n1 with
     | zero=>exact absurd (show (none:Option _)=some r from h) (by simp)
     | succ n1 =>
      replace h:zC1 (zAc a_n x1 n0) a_n i2 (zBr (zAc a_n x1 n0) a_n i2 n1)=some r:=h
      unfold zC1 at h
      refine zV hrep ?_
      clear hrep
      refine zI<|zI<|zC<|zA (zB rfl)<|zA (zB rfl)<|zA (zCi rfl rfl) ?_
      refine zF ?_
      refine zY h rfl (fun hb6 h => ?_) (fun hb6 h => ?_)
      ·refine zP<|zQ<|zI<|zC<|zA (zB rfl)<|zA (zB rfl) ?_
       refine zA (zB rfl)<|zA (zB rfl)<|zM h fun hb7 h=>zA (zf rfl rfl hb7)<|zA (zB rfl)<|zA (zB rfl) ?_
       exact absurd h (by simp)
      ·refine zy ?_
       exact ⟨zBe (n:=63) (m:=1) [0] (l:=[(0,(AV.hd 0)),(1,(li a_n)),(2,(AV.clo g_a_cmp caps_a_cmp)),(6,(li i2)),(7,(li 0))]) ⟨⟨Sub.refl _,by kernel_rfl⟩,⟨Sub.refl _,by kernel_rfl⟩,⟨zEj hnr_a_cmp,zEk hnr_a_cmp⟩,⟨Sub.refl _,by kernel_rfl⟩,⟨Sub.refl _,by kernel_rfl⟩,trivial⟩ rfl rfl ⟨⟨rfl,by kernel_rfl⟩,trivial⟩,h⟩
    ·
     clear h
     rintro e' H' ⟨hrep,h⟩
     refine zV hrep ?_
     clear hrep
     unfold zCy at h
     refine zI<|zI<|zC<|zA (zB rfl)<|zA (zB rfl)<|zM h fun hb3 h => ?_
     refine zA (zf rfl rfl hb3)<|zA (zD rfl)<|zF<|zI<|zC<|zA (zB rfl) ?_
     refine zA (zB rfl)<|zA (ze rfl rfl)<|zF ?_
     refine zY h rfl (fun hb4 h => ?_) (fun hb4 h => ?_)
     ·refine zC<|zA (zB rfl)<|zA (zB rfl)<|zA (zB rfl)<|zA (zB rfl)<|zA (zB rfl) ?_
      exact absurd h (by simp)
     ·refine zP<|zC<|zA (zB rfl)<|zM h fun hb5 h=>zA (zKy (a:=i2) (b:=2) rfl rfl hb5)<|zA (zD rfl) ?_
      refine zF ?_
      exact ⟨(n0,(i2*2)),Nat.lt_succ_self _,zBe (n:=63) (m:=1) [0] (l:=[(0,(AV.hd 0)),(1,(li a_n)),(2,(AV.clo g_a_cmp caps_a_cmp)),(6,(li (i2*2)))]) ⟨⟨Sub.refl _,by kernel_rfl⟩,⟨Sub.refl _,by kernel_rfl⟩,⟨zEj hnr_a_cmp,zEk hnr_a_cmp⟩,⟨Sub.refl _,by kernel_rfl⟩,trivial⟩ rfl rfl ⟨⟨rfl,by kernel_rfl⟩,trivial⟩,h⟩
   ·refine zy ?_
    show zQU _ _ _ _ _ _ _ _
    obtain rfl:=Option.some.inj h
    exact ⟨mkE [],[.vec 3 1 (List.map cI x1)],zAE [0] rfl rfl (by kernel_rfl),zLf rfl⟩
theorem zGY {a_x : List Int} {a_cmp : Int → Int → Option Int} {g_a_cmp : FuncId} {cf_a_cmp : Func} {code_a_cmp : Code} {caps_a_cmp : List AV} (hcf_a_cmp : Tryz.prog.funcs[g_a_cmp]? = some cf_a_cmp) (hcb_a_cmp : cf_a_cmp.body = some code_a_cmp) (hcn_a_cmp : (cf_a_cmp.name == "runtime.NumGoroutine") = false) (hnr_a_cmp : caps_a_cmp.all nr = true) (hg_a_cmp : ∀ {x0 : Int} {x1 : Int} {y : Int}, a_cmp x0 x1 = some y → PFn prog g_a_cmp ((li x0) :: (li x1) :: caps_a_cmp) (li y)) {r : (List Int)} (h : zCS a_x a_cmp = some r) : AFn prog 103 [(AV.hd 0), (AV.clo g_a_cmp caps_a_cmp)] [.vec 3 1 (List.map cI a_x)] (.tup []) [.vec 3 1 (List.map cI r)] := by
 refine zF6 func103 rfl ntmps103 results103 rfl ?_
 unfold zCS at h
 refine zC<|zA (zB rfl)<|zA (zB rfl)<|zA (zDx (f:=cI) (l:=a_x) underlying22 rfl rfl)<|zA (zB rfl)<|zR h fun x1 hx1 h => ?_
 refine zDw (k:=0) (la:=[AV.hd 0,(li (a_x.length:Int)),AV.clo g_a_cmp caps_a_cmp]) (la':=[AV.hd 0,(li (a_x.length:Int)),AV.clo g_a_cmp caps_a_cmp]) (r:=(.tup [])) (S:=[]) (en' := .vec 3 1 (List.map cI x1)) func136 rfl (by kernel_rfl) (.fn 136) rfl ⟨zCe.hd,zCe.of (zAt.nr rfl),zCe.of (zAt.clo (zDY.nrs hnr_a_cmp)),trivial⟩ rfl rfl rfl rfl (zH7 hcf_a_cmp hcb_a_cmp hcn_a_cmp hnr_a_cmp hg_a_cmp hx1) rfl (.inl rfl)<|zF ?_
 show zQU _ _ _ _ _ _ _ _
 obtain rfl:=Option.some.inj h
 exact ⟨mkE [],[.vec 3 1 (List.map cI x1)],zAE [0] rfl rfl (by kernel_rfl),zLf rfl⟩
theorem zI4 {a_zones:List zp} {a_node:Int} {a_kernel:Bool} {r:(List Int)×Int} (h:zHG a_zones a_node a_kernel=some r):PFn prog 53 [ls zO a_zones,li a_node,(AV.lit (.bool a_kernel))] (AV.tup [ls cI r.1,li r.2]):=by
 refine zq func53 rfl ntmps53 results53 rfl ?_
 unfold zHG at h
 refine zI<|zC<|za (H':=[.box 23 [ls zO a_zones]]) (zI6 (t:=23) (a:=(ls zO a_zones)) rfl rfl)<|za (H':=[.box 23 [ls zO a_zones],.box 3 [li a_node]]) (zI6 (t:=3) (a:=(li a_node)) rfl rfl)<|zA (zD rfl)<|zA (zD rfl) ?_
 refine zF<|zI<|zI<|zC<|zA (zN isAgg23 rfl rfl rfl rfl)<|zA (zN isAgg3 rfl rfl rfl rfl) ?_
 refine zR h fun x1 hx1 h=>zi func100 rfl (by kernel_rfl) (.fn 100) rfl rfl (zLP hx1) rfl<|zA (zD rfl)<|zF<|zI<|zC ?_
 refine zA (zB rfl)<|zA (z7 rfl rfl)<|zF ?_
 refine zY h rfl (fun hb1 h => ?_) (fun hb1 h => ?_)
 ·refine zI<|zC<|zA (zB rfl)<|zA (zD rfl)<|zA (zD rfl)<|zF ?_
  refine zb ?_
  show zAQ _ _ _ _ _ _
  obtain rfl:=Option.some.inj h
  exact zCR (zHs (zAM rfl rfl) zh.nils) (zAM rfl rfl) rfl
 ·refine zP<|zI<|zC<|zA (zD rfl)<|zF ?_
  refine zx (fun e' H' => ∃ (l1:List Int),Rep 43 0 e' H' (mkE [(3,(AV.ptr 0 0)),(4,(AV.ptr 1 0)),(9,(AV.hd 2))]) [.box 23 [ls zO a_zones],.box 3 [li a_node],.vec 3 1 (List.map cI l1)]∧zG6 a_zones a_node l1=some r) ?_ ?_
  ·
   refine zI<|zC<|zA (zN isAgg23 rfl rfl rfl rfl)<|zA (zX underlying23 rfl)<|zA (zB rfl)<|zF ?_
   refine zQ<|z6 (σ:=Nat×Int×(List Int)) (fun s=>s.1) (fun s e' H'=>match s with | (n0,i1,l2)=>Rep 43 0 e' H' (mkE [(2,(AV.lit (.bool a_kernel))),(3,(AV.ptr 0 0)),(4,(AV.ptr 1 0)),(9,(AV.hd 2)),(19,(ls zO a_zones)),(20,(li (a_zones.length:Int))),(21,(li i1))]) [.box 23 [ls zO a_zones],.box 3 [li a_node],.vec 3 1 (List.map cI l2)]∧zDv a_zones a_node a_kernel n0 i1 l2=some r) (z9,0,[]) ⟨Rep.trans (zLN (d:=9) (el:=3) (sz:=1) rfl) (zAE [0,1,2] (l:=[(2,(AV.lit (.bool a_kernel))),(3,(AV.ptr 0 0)),(4,(AV.ptr 1 0)),(9,(AV.hd 2)),(19,(ls zO a_zones)),(20,(li (a_zones.length:Int))),(21,(li 0))]) rfl rfl (by kernel_rfl)),h⟩ ?_
   clear h
   rintro ⟨n0,i1,l2⟩ e' H' ⟨hrep,h⟩
   cases n0 with
   | zero=>exact absurd (show (none:Option _)=some r from h) (by simp)
   | succ n0 =>
    replace h:zG0 a_zones a_node a_kernel (zDv a_zones a_node a_kernel n0) i1 l2=some r:=h
    unfold zG0 at h
    refine zV hrep ?_
    clear hrep
    refine zI<|zC<|zA (ze rfl rfl)<|zF<|zI ?_
    refine zY h rfl (fun hb2 h => ?_) (fun hb2 h => ?_)
    ·refine zP ?_
     refine zx (fun e' H' => ∃ (l3:List Int),Rep 43 0 e' H' (mkE [(2,(AV.lit (.bool a_kernel))),(3,(AV.ptr 0 0)),(4,(AV.ptr 1 0)),(9,(AV.hd 2)),(19,(ls zO a_zones)),(20,(li (a_zones.length:Int))),(21,(li i1))]) [.box 23 [ls zO a_zones],.box 3 [li a_node],.vec 3 1 (List.map cI l3)]∧zFP (zDv a_zones a_node a_kernel n0) i1 l3=some r) ?_ ?_
     ·
      refine zQ<|zI<|zC<|zA (zB rfl)<|zM h fun hb4 h=>zA (zU underlying23 sizeOf51 (fun _=>rfl) rfl rfl hb4) ?_
      refine zA (zAb (row:=(zO (at_ a_zones i1))) (o:=0) (m:=10) (la:=(zO (at_ a_zones i1))) isAgg51 sizeOf51 rfl rfl rfl)<|za (H':=[.box 23 [ls zO a_zones],.box 3 [li a_node],.vec 3 1 (List.map cI l2),.box 51 (zO ⟨0,0,0,0,0,(List.replicate 5 ([]:List Int))⟩)]) (zv (t:=51) (vs:=[.int .i64 0,.int .i64 0,.int .i64 0,.int .i64 0,.int .i64 0,.slice none 0 0,.slice none 0 0,.slice none 0 0,.slice none 0 0,.slice none 0 0]) (cs:=[.lit (.int .i64 0),.lit (.int .i64 0),.lit (.int .i64 0),.lit (.int .i64 0),.lit (.int .i64 0),.sl false [],.sl false [],.sl false [],.sl false [],.sl false []]) zeroValue51 (by kernel_rfl) rfl ⟨zh.refl _,zh.refl _,zh.refl _,zh.refl _,zh.refl _,zh.nils,zh.nils,zh.nils,zh.nils,zh.nils,trivial⟩)<|zA (zD rfl)<|zm (H':=[.box 23 [ls zO a_zones],.box 3 [li a_node],.vec 3 1 (List.map cI l2),.box 51 (zO (at_ a_zones i1))]) (zZ (k:=3) (o:=0) (cs:=(zO ⟨0,0,0,0,0,(List.replicate 5 ([]:List Int))⟩)) (la:=(zO (at_ a_zones i1))) sizeOf51 rfl rfl rfl rfl)<|zF<|zI ?_
      refine zC<|zA (zB rfl)<|zA (zA6 (t:=a_kernel) rfl)<|zA (zB rfl)<|zT rfl rfl (fun hc1=>zt.step (zK underlying51 rfl rfl sizeOf3 rfl))<|zT rfl rfl (fun hc2=>zt.step (zN isAgg3 (z5 rfl hc2) rfl rfl rfl)) ?_
      refine zT rfl rfl (fun hc3=>zt.step (zBR (z5 rfl hc3) rfl))<|zA (zd rfl rfl)<|zF ?_
      refine zY h rfl (fun hb5 h => ?_) (fun hb5 h => ?_)
      ·refine zC<|zA (zB rfl)<|zA (zB rfl)<|zGP (a:=(li i1)) zGe underlying22 rfl rfl rfl rfl<|zM h fun hb6 h=>zDK (f:=cI) (k:=2) (j:=4) (l:=l2) (l':=[i1]) zGe (fun _=>rfl) underlying22 rfl rfl rfl rfl hb6 ?_
       refine zA (zD rfl)<|zF ?_
       exact ⟨(l2++[i1]),zAE [0,1,5] rfl rfl (by kernel_rfl),h⟩
      ·refine zP ?_
       exact ⟨l2,zAE [0,1,2] rfl rfl (by kernel_rfl),h⟩
     ·
      clear h
      rintro e' H' ⟨l3,hrep,h⟩
      refine zV hrep ?_
      clear hrep
      unfold zFP at h
      refine zC<|zM h fun hb3 h=>zA (zf rfl rfl hb3)<|zA (zB rfl)<|zF ?_
      exact ⟨(n0,(i1+1),l3),Nat.lt_succ_self _,zAE [0,1,2] rfl rfl (by kernel_rfl),h⟩
    ·refine zy ?_
     exact ⟨l2,zAE [0,1,2] rfl rfl (by kernel_rfl),h⟩
  ·
   clear h
   rintro e' H' ⟨l1,hrep,h⟩
   refine zV hrep ?_
   clear hrep
   unfold zG6 at h
   refine zI<|zC<|zA (zK4 (la:=[AV.ptr 1 0,AV.ptr 0 0]) rfl)<|za (H':=[.box 23 [ls zO a_zones],.box 3 [li a_node],.vec 3 1 (List.map cI l1),.box 100 [AV.lit .nilFunc]]) (zv (t:=100) (vs:=[.nilFunc]) (cs:=[.lit .nilFunc]) zeroValue100 (by kernel_rfl) rfl ⟨zh.refl _,trivial⟩)<|zm (H':=[.box 23 [ls zO a_zones],.box 3 [li a_node],.vec 3 1 (List.map cI l1),.box 100 [(AV.clo 101 [AV.ptr 1 0,AV.ptr 0 0])]]) (zCa (k:=3) (o:=0) (cs:=[AV.lit .nilFunc]) (a:=(AV.clo 101 [AV.ptr 1 0,AV.ptr 0 0])) sizeOf100 rfl rfl rfl rfl rfl)<|zF ?_
   refine zI<|zC<|zA (zB rfl)<|zA (zK4 (la:=[AV.ptr 3 0]) rfl)<|zR h fun x2 hx2 h=>zDw (k:=2) (la:=[AV.hd 2,(AV.clo 104 [AV.ptr 3 0])]) (la':=[AV.hd 0,(AV.clo 104 [(AV.rp [(AV.clo 101 [(AV.rp [li a_node] 0),(AV.rp [ls zO a_zones] 0)])] 0)])]) (r:=(.tup [])) (S:=[0,1,3]) (en' := .vec 3 1 (List.map cI x2)) func103 rfl (by kernel_rfl) (.fn 103) rfl ⟨zCe.hd,zCe.of (zAt.clo (⟨zAt.ptrV (cs:=[(AV.clo 101 [AV.ptr 1 0,AV.ptr 0 0])]) rfl rfl rfl ⟨zAt.clo (⟨zAt.ptr (cs:=[li a_node]) rfl rfl rfl,zAt.ptr (cs:=[ls zO a_zones]) rfl rfl rfl,trivial⟩),trivial⟩,trivial⟩)),trivial⟩ rfl rfl rfl rfl (zGY func104 rfl (by kernel_rfl) rfl (fun hy=>zKS func101 rfl (by kernel_rfl) rfl (fun hy=>zKa  hy) hy) hx2) rfl (.inr ⟨rfl,zRj⟩) ?_
   refine zF<|zI<|zC<|zA (zB rfl)<|zA (zD rfl)<|zA (zD rfl) ?_
   refine zF<|zV (zET (j:=2) (ds:=[6,9,39,42]) (rows':=List.map cI x2) rfl (zAP (fun _=>rfl)) ⟨rfl,rfl,rfl,rfl,trivial⟩)<|zb ?_
   show zAQ _ _ _ _ _ _
   obtain rfl:=Option.some.inj h
   exact zCR (zAM rfl rfl) (zAM rfl rfl) rfl
theorem zGA {a_s:List zp} {r:List zp} (h:zBI a_s=some r):PFn prog 106 [ls zO a_s] (AV.osl 51 10 (List.map zO r)):=by
  refine zq func106 rfl ntmps106 results106 rfl ?_
  unfold zBI at h
  refine zM h fun hb1 h => ?_
  obtain rfl:=Option.some.inj h
  refine zI<|zC<|zA (a:=(.lit (.slice none 0 0))) (zD rfl)<|zF<|zI<|zI ?_
  refine zC<|zA (a:=(ls zO a_s)) (zB rfl) ?_
  refine zK5 (full:=false) (rows:=List.map zO a_s) underlying23 rfl (fun b hb => ?_)
  refine zF ?_
  refine zMC b rfl (fun hbt => ?_) (fun hbt => ?_)
  · obtain rfl:a_s=[]:=List.map_eq_nil_iff.1 (hb hbt)
    refine zI<|zC<|zA (a:=(.lit (.slice none 0 0))) (zD rfl)<|zF<|zb ?_
    exact zu (zHs (zAM rfl rfl) zh.nilo)
  · refine zP ?_
    refine zI<|zC<|zLw zNC underlying23<|zA (a:=(ls zO a_s)) (zB rfl)<|zD8 (f:=zO) (k:=0) (l:=[]) (l':=a_s) zNC (fun _=>rfl) underlying23 rfl rfl rfl hb1<|zA (a:=(.hd 1)) (zD rfl) ?_
    refine zF<|zb ?_
    exact zu (zUO (rows:=List.map zO ([]++a_s)) rfl rfl)
theorem zEb {a_s:List zL} {r:List zL} (h:zAq a_s=some r):PFn prog 107 [ls zH a_s] (AV.osl 55 1 (List.map zH r)):=by
  refine zq func107 rfl ntmps107 results107 rfl ?_
  unfold zAq at h
  refine zM h fun hb1 h => ?_
  obtain rfl:=Option.some.inj h
  refine zI<|zC<|zA (a:=(.lit (.slice none 0 0))) (zD rfl)<|zF<|zI<|zI ?_
  refine zC<|zA (a:=(ls zH a_s)) (zB rfl) ?_
  refine zK5 (full:=false) (rows:=List.map zH a_s) underlying24 rfl (fun b hb => ?_)
  refine zF ?_
  refine zMC b rfl (fun hbt => ?_) (fun hbt => ?_)
  · obtain rfl:a_s=[]:=List.map_eq_nil_iff.1 (hb hbt)
    refine zI<|zC<|zA (a:=(.lit (.slice none 0 0))) (zD rfl)<|zF<|zb ?_
    exact zu (zHs (zAM rfl rfl) zh.nilo)
  · refine zP ?_
    refine zI<|zC<|zLw zM5 underlying24<|zA (a:=(ls zH a_s)) (zB rfl)<|zD8 (f:=zH) (k:=0) (l:=[]) (l':=a_s) zM5 (fun _=>rfl) underlying24 rfl rfl rfl hb1<|zA (a:=(.hd 1)) (zD rfl) ?_
    refine zF<|zb ?_
    exact zu (zUO (rows:=List.map zH ([]++a_s)) rfl rfl)
theorem zIt {a_s:List (List Int)} {r:List (List Int)} (h:zC4 a_s=some r):PFn prog 108 [(ls (cS cI) a_s)] (AV.osl 22 1 (List.map (cS cI) r)):=by
  refine zq func108 rfl ntmps108 results108 rfl ?_
  unfold zC4 at h
  refine zM h fun hb1 h => ?_
  obtain rfl:=Option.some.inj h
  refine zI<|zC<|zA (a:=(.lit (.slice none 0 0))) (zD rfl)<|zF<|zI<|zI ?_
  refine zC<|zA (a:=(ls (cS cI) a_s)) (zB rfl) ?_
  refine zK5 (full:=false) (rows:=List.map (cS cI) a_s) underlying53 rfl (fun b hb => ?_)
  refine zF ?_
  refine zMC b rfl (fun hbt => ?_) (fun hbt => ?_)
  · obtain rfl:a_s=[]:=List.map_eq_nil_iff.1 (hb hbt)
    refine zI<|zC<|zA (a:=(.lit (.slice none 0 0))) (zD rfl)<|zF<|zb ?_
    exact zu (zHs (zAM rfl rfl) zh.nilo)
  · refine zP ?_
    refine zI<|zC<|zLw zM0 underlying53<|zA (a:=(ls (cS cI) a_s)) (zB rfl)<|zD8 (f:=(cS cI)) (k:=0) (l:=[]) (l':=a_s) zM0 (fun _=>rfl) underlying53 rfl rfl rfl hb1<|zA (a:=(.hd 1)) (zD rfl) ?_
    refine zF<|zb ?_
    exact zu (zUO (rows:=List.map (cS cI) ([]++a_s)) rfl rfl)
end Go.Proofs.YtplkliakhdkpcaaGreat
