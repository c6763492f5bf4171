/-
  Rules, functions and laws for the last text, part e.
-/
import Derived.Test.YtplkliakhdkpcaaGreatGd
set_option linter.unusedVariables false
set_option linter.unusedSimpArgs false
namespace Go.Proofs.YtplkliakhdkpcaaGreat
open Go Go.RowKit Go.Wk Go.Am Go.Proofs Tryz
set_option maxHeartbeats 4000000
theorem zNq {a_a:zp} {a_b:zp} {r:Bool} (h:zI9 a_a a_b=some r):PFn prog 62 [(AV.agg (zO a_a)),(AV.agg (zO a_b))] (AV.lit (.bool r)):=by
 refine zq func62 rfl ntmps62 results62 rfl ?_
 unfold zI9 at h
 refine zI<|zC<|za (H':=[.box 51 (zO a_a)]) (zw (t:=51) rfl)<|za (H':=[.box 51 (zO a_a),.box 51 (zO a_b)]) (zw (t:=51) rfl)<|zA (zD rfl)<|zF ?_
 refine zI<|zI<|zC<|zA (zK underlying51 rfl rfl sizeOf3 rfl)<|zA (zN isAgg3 rfl rfl rfl rfl)<|zA (zK underlying51 rfl rfl sizeOf3 rfl) ?_
 refine zA (zN isAgg3 rfl rfl rfl rfl)<|zA (z7 rfl rfl)<|zA (zB rfl)<|zT rfl rfl (fun hc1=>zt.step (zK underlying51 rfl rfl sizeOf3 rfl))<|zT rfl rfl (fun hc2=>zt.step (zN isAgg3 (z5 rfl hc2) rfl rfl rfl))<|zT rfl rfl (fun hc3=>zt.step (zK underlying51 rfl rfl sizeOf3 rfl)) ?_
 refine zT rfl rfl (fun hc4=>zt.step (zN isAgg3 (z5 rfl hc4) rfl rfl rfl))<|zT rfl rfl (fun hc5=>zt.step (z7 (z5 rfl hc5) (z5 rfl hc5)))<|zA (zd rfl rfl)<|zA (zB rfl)<|zT rfl rfl (fun hc6=>zt.step (zK underlying51 rfl rfl sizeOf3 rfl))<|zT rfl rfl (fun hc7=>zt.step (zN isAgg3 (z5 rfl hc7) rfl rfl rfl)) ?_
 refine zT rfl rfl (fun hc8=>zt.step (zK underlying51 rfl rfl sizeOf3 rfl))<|zT rfl rfl (fun hc9=>zt.step (zN isAgg3 (z5 rfl hc9) rfl rfl rfl))<|zT rfl rfl (fun hc10=>zt.step (z7 (z5 rfl hc10) (z5 rfl hc10)))<|zA (zd rfl rfl)<|zA (zB rfl)<|zT rfl rfl (fun hc11=>zt.step (zK underlying51 rfl rfl sizeOf3 rfl)) ?_
 refine zT rfl rfl (fun hc12=>zt.step (zN isAgg3 (z5 rfl hc12) rfl rfl rfl))<|zT rfl rfl (fun hc13=>zt.step (zK underlying51 rfl rfl sizeOf3 rfl))<|zT rfl rfl (fun hc14=>zt.step (zN isAgg3 (z5 rfl hc14) rfl rfl rfl))<|zT rfl rfl (fun hc15=>zt.step (z7 (z5 rfl hc15) (z5 rfl hc15)))<|zA (zd rfl rfl)<|zA (zB rfl) ?_
 refine zT rfl rfl (fun hc16=>zt.step (zK underlying51 rfl rfl sizeOf3 rfl))<|zT rfl rfl (fun hc17=>zt.step (zN isAgg3 (z5 rfl hc17) rfl rfl rfl))<|zT rfl rfl (fun hc18=>zt.step (zK underlying51 rfl rfl sizeOf3 rfl))<|zT rfl rfl (fun hc19=>zt.step (zN isAgg3 (z5 rfl hc19) rfl rfl rfl))<|zT rfl rfl (fun hc20=>zt.step (z7 (z5 rfl hc20) (z5 rfl hc20)))<|zA (zd rfl rfl) ?_
 refine zF ?_
 refine zY h rfl (fun hb1 h => ?_) (fun hb1 h => ?_)
 ·refine zI<|zC<|zA (zD rfl)<|zF<|zb ?_
  show zAQ _ _ _ _ _ _
  obtain rfl:=Option.some.inj h
  exact zu (zAM rfl rfl)
 ·refine zP ?_
  refine zx (fun e' H'=>Rep 53 0 e' H' (mkE []) []∧zJY  = some r) ?_ ?_
  ·
   refine zI<|zC<|zA (zD rfl)<|zF<|zQ<|z6 (σ:=Nat×Int) (fun s=>s.1) (fun s e' H'=>match s with | (n0,i1)=>Rep 53 0 e' H' (mkE [(2,(AV.ptr 0 0)),(3,(AV.ptr 1 0)),(5,(li i1))]) [.box 51 (zO a_a),.box 51 (zO a_b)]∧zGR a_a a_b n0 i1=some r) (z9,0) ⟨zAE [0,1] rfl rfl (by kernel_rfl),h⟩ ?_
   clear h
   rintro ⟨n0,i1⟩ e' H' ⟨hrep,h⟩
   cases n0 with
   | zero=>exact absurd (show (none:Option _)=some r from h) (by simp)
   | succ n0 =>
    replace h:zEC a_a a_b (zGR a_a a_b n0) i1=some r:=h
    unfold zEC at h
    refine zV hrep ?_
    clear hrep
    refine zI<|zI<|zC<|zA (zB rfl)<|zA (zCi rfl rfl)<|zF ?_
    refine zY h rfl (fun hb2 h => ?_) (fun hb2 h => ?_)
    ·refine zP<|zI<|zQ<|zI<|zM h fun hb3 h=>zR h fun x1 hx1 h => ?_
     show AW _ _ _ _ _ _ [.box 51 (zO a_a),.box 51 (zO a_b)]
     refine zAx (n:=53) (m:=0) [.head 0 0,.head 0 0,.head 0 0,.head 0 0,.head 0 0,.head 0 0,.head 0 0,.head 0 0,.head 0 0,.head 0 0] [] [li i1,AV.ptr 0 5,(AV.ptr 0 (5+i1.toNat*1)),(ls cI (a_a.free.getD i1.toNat ([]:List Int))),li i1,AV.ptr 1 5,(AV.ptr 1 (5+i1.toNat*1)),(ls cI (a_b.free.getD i1.toNat ([]:List Int))),(AV.lit (.bool x1)),(AV.lit (.bool (!x1)))] [[.box 51 (zO a_a),.box 51 (zO a_b)]] (by kernel_rfl) (by kernel_rfl) ⟨?_,?_,?_,?_,?_,?_,?_,?_,?_,?_,trivial⟩ ?_
     ·exact D1 fun e s p=>zB (s 5 rfl)
     ·exact D1 fun e s p=>zK (k:=0) (o:=0) (off:=5) underlying51 rfl rfl sizeOf49 (s 2 rfl)
     ·exact D1 fun e s p=>zAO (m:=5) (s:=1) (i:=i1) (k:=0) (o:=5) underlying49 sizeOf22 p.1 p.2.1 hb3
     ·exact D1 fun e s p=>zAr (k:=0) (o:=(5+i1.toNat*1)) (cs:=(zO a_a)) (hd:=([li a_a.node]++[li a_a.kind]++[li a_a.start]++[li a_a.count]++[li a_a.min]++[])) (tl:=([])) (g:=(eS cI)) (d0:=([]:List Int)) (l:=a_a.free) (N:=5) (i:=i1.toNat) (a:=(ls cI (a_a.free.getD i1.toNat ([]:List Int)))) isAgg22 p.1 rfl rfl (congrArg (fun q=>5+q) (Nat.mul_one _)) (zBK hb3).2 rfl rfl
     ·exact D1 fun e s p=>zB (s 5 rfl)
     ·exact D1 fun e s p=>zK (k:=1) (o:=0) (off:=5) underlying51 rfl rfl sizeOf49 (s 3 rfl)
     ·exact D1 fun e s p=>zAO (m:=5) (s:=1) (i:=i1) (k:=1) (o:=5) underlying49 sizeOf22 p.1 p.2.1 hb3
     ·exact D1 fun e s p=>zAr (k:=1) (o:=(5+i1.toNat*1)) (cs:=(zO a_b)) (hd:=([li a_b.node]++[li a_b.kind]++[li a_b.start]++[li a_b.count]++[li a_b.min]++[])) (tl:=([])) (g:=(eS cI)) (d0:=([]:List Int)) (l:=a_b.free) (N:=5) (i:=i1.toNat) (a:=(ls cI (a_b.free.getD i1.toNat ([]:List Int)))) isAgg22 p.1 rfl rfl (congrArg (fun q=>5+q) (Nat.mul_one _)) (zBK hb3).2 rfl rfl
     ·
      intro e9 hs9 hp9
      refine zi (r:=(AV.lit (.bool x1))) (la:=[(ls cI (a_a.free.getD i1.toNat ([]:List Int))),(ls cI (a_b.free.getD i1.toNat ([]:List Int)))]) func117 rfl (by kernel_rfl) (.fn 117) (zAK hp9.1 (zAK hp9.2.1 rfl)) rfl (zLT hx1) rfl ?_
      exact zF ⟨fun _=>rfl,rfl⟩
     ·exact D1 fun e s p=>zA6 (t:=x1) p.1
     intro e11 hs11 hq1
     refine zV (zBY (l:=[(2,(AV.ptr 0 0)),(3,(AV.ptr 1 0)),(5,(li i1)),(52,(AV.lit (.bool (!x1))))]) ⟨hs11 2 rfl,hs11 3 rfl,hs11 5 rfl,(hq1 9 (by decide) (by decide)),trivial⟩) ?_
     refine zY h rfl (fun hb4 h => ?_) (fun hb4 h => ?_)
     ·refine zI<|zC<|zA (zD rfl)<|zF<|zb ?_
      show zAQ _ _ _ _ _ _
      obtain rfl:=Option.some.inj h
      exact zu (zAM rfl rfl)
     ·refine zP<|zC<|zA (zB rfl)<|zM h fun hb5 h=>zA (zf rfl rfl hb5)<|zA (zD rfl) ?_
      refine zF ?_
      exact ⟨(n0,(i1+1)),Nat.lt_succ_self _,zAE [0,1] rfl rfl (by kernel_rfl),h⟩
    ·refine zy ?_
     exact ⟨zAE [] rfl rfl (by kernel_rfl),h⟩
  ·
   clear h
   rintro e' H' ⟨hrep,h⟩
   refine zV hrep ?_
   clear hrep
   unfold zJY at h
   refine zI<|zC<|zA (zD rfl)<|zF<|zb ?_
   show zAQ _ _ _ _ _ _
   obtain rfl:=Option.some.inj h
   exact zu (zAM rfl rfl)
theorem zNo {a_a:zL} {a_b:zL} {r:Bool} (h:zJF a_a a_b=some r):PFn prog 63 [(AV.agg (zH a_a)),(AV.agg (zH a_b))] (AV.lit (.bool r)):=by
 refine zq func63 rfl ntmps63 results63 rfl ?_
 unfold zJF at h
 refine zI<|zC<|za (H':=[.box 55 (zH a_a)]) (zw (t:=55) rfl)<|za (H':=[.box 55 (zH a_a),.box 55 (zH a_b)]) (zw (t:=55) rfl)<|zA (zD rfl)<|zF ?_
 refine zI<|zI<|zC<|zA (zK underlying55 rfl rfl sizeOf53 rfl)<|zA (zN isAgg53 rfl rfl rfl rfl)<|zA (zX underlying53 rfl) ?_
 refine zA (zK underlying55 rfl rfl sizeOf53 rfl)<|zA (zN isAgg53 rfl rfl rfl rfl)<|zA (zX underlying53 rfl)<|zA (z7 rfl rfl)<|zF ?_
 refine zY h rfl (fun hb1 h => ?_) (fun hb1 h => ?_)
 ·refine zI<|zC<|zA (zD rfl)<|zF<|zb ?_
  show zAQ _ _ _ _ _ _
  obtain rfl:=Option.some.inj h
  exact zu (zAM rfl rfl)
 ·refine zP ?_
  refine zx (fun e' H'=>Rep 32 0 e' H' (mkE []) []∧zJN  = some r) ?_ ?_
  ·
   refine zI<|zC<|zA (zK underlying55 rfl rfl sizeOf53 rfl)<|zA (zN isAgg53 rfl rfl rfl rfl)<|zA (zX underlying53 rfl)<|zA (zB rfl) ?_
   refine zF<|zQ<|z6 (σ:=Nat×Int) (fun s=>s.1) (fun s e' H'=>match s with | (n0,i1)=>Rep 32 0 e' H' (mkE [(2,(AV.ptr 0 0)),(3,(AV.ptr 1 0)),(15,(li (a_a.lists.length:Int))),(16,(li i1))]) [.box 55 (zH a_a),.box 55 (zH a_b)]∧zGS a_a a_b n0 i1=some r) (z9,0) ⟨zAE [0,1] rfl rfl (by kernel_rfl),h⟩ ?_
   clear h
   rintro ⟨n0,i1⟩ e' H' ⟨hrep,h⟩
   cases n0 with
   | zero=>exact absurd (show (none:Option _)=some r from h) (by simp)
   | succ n0 =>
    replace h:zER a_a a_b (zGS a_a a_b n0) i1=some r:=h
    unfold zER at h
    refine zV hrep ?_
    clear hrep
    refine zI<|zC<|zA (ze rfl rfl)<|zF<|zI ?_
    refine zY h rfl (fun hb2 h => ?_) (fun hb2 h => ?_)
    ·refine zP<|zI<|zQ<|zI<|zC<|zA (zB rfl) ?_
     refine zA (zD rfl)<|zF<|zI<|zM h fun hb3 h=>zM h fun hb4 h=>zR h fun x1 hx1 h => ?_
     show AW _ _ _ _ _ _ [.box 55 (zH a_a),.box 55 (zH a_b)]
     refine zAx (n:=32) (m:=0) [.head 0 0,.head 0 0,.head 0 0,.head 0 0,.head 0 0,.head 0 0,.head 0 0,.head 0 0,.head 0 0,.head 0 0,.head 0 0,.head 0 0] [] [AV.ptr 0 0,(ls (cS cI) a_a.lists),li i1,(AV.rp ((cS cI) (at_ a_a.lists i1)) 0),(ls cI (at_ a_a.lists i1)),AV.ptr 1 0,(ls (cS cI) a_b.lists),li i1,(AV.rp ((cS cI) (at_ a_b.lists i1)) 0),(ls cI (at_ a_b.lists i1)),(AV.lit (.bool x1)),(AV.lit (.bool (!x1)))] [[.box 55 (zH a_a),.box 55 (zH a_b)]] (by kernel_rfl) (by kernel_rfl) ⟨?_,?_,?_,?_,?_,?_,?_,?_,?_,?_,?_,?_,trivial⟩ ?_
     ·exact D1 fun e s p=>zK (k:=0) (o:=0) (off:=0) underlying55 rfl rfl sizeOf53 (s 2 rfl)
     ·exact D1 fun e s p=>zN (k:=0) (o:=0) isAgg53 p.1 rfl rfl rfl
     ·exact D1 fun e s p=>zB (s 5 rfl)
     ·exact D1 fun e s p=>zU (f:=(cS cI)) (l:=a_a.lists) (i:=i1) underlying53 sizeOf22 (fun _=>rfl) p.1 p.2.1 hb3
     ·exact D1 fun e s p=>zW (o:=0) isAgg22 p.1 rfl
     ·exact D1 fun e s p=>zK (k:=1) (o:=0) (off:=0) underlying55 rfl rfl sizeOf53 (s 3 rfl)
     ·exact D1 fun e s p=>zN (k:=1) (o:=0) isAgg53 p.1 rfl rfl rfl
     ·exact D1 fun e s p=>zB (s 5 rfl)
     ·exact D1 fun e s p=>zU (f:=(cS cI)) (l:=a_b.lists) (i:=i1) underlying53 sizeOf22 (fun _=>rfl) p.1 p.2.1 hb4
     ·exact D1 fun e s p=>zW (o:=0) isAgg22 p.1 rfl
     ·
      intro e11 hs11 hp11
      refine zi (r:=(AV.lit (.bool x1))) (la:=[(ls cI (at_ a_a.lists i1)),(ls cI (at_ a_b.lists i1))]) func61 rfl (by kernel_rfl) (.fn 61) (zAK hp11.1 (zAK hp11.2.1 rfl)) rfl (zJB hx1) rfl ?_
      exact zF ⟨fun _=>rfl,rfl⟩
     ·exact D1 fun e s p=>zA6 (t:=x1) p.1
     intro e13 hs13 hq1
     refine zV (zBY (l:=[(2,(AV.ptr 0 0)),(3,(AV.ptr 1 0)),(15,(li (a_a.lists.length:Int))),(16,(li i1)),(30,(AV.lit (.bool (!x1))))]) ⟨hs13 2 rfl,hs13 3 rfl,hs13 15 rfl,hs13 16 rfl,(hq1 11 (by decide) (by decide)),trivial⟩) ?_
     refine zY h rfl (fun hb5 h => ?_) (fun hb5 h => ?_)
     ·refine zI<|zC<|zA (zD rfl)<|zF<|zb ?_
      show zAQ _ _ _ _ _ _
      obtain rfl:=Option.some.inj h
      exact zu (zAM rfl rfl)
     ·refine zP<|zC<|zM h fun hb6 h=>zA (zf rfl rfl hb6)<|zA (zB rfl)<|zF ?_
      exact ⟨(n0,(i1+1)),Nat.lt_succ_self _,zAE [0,1] rfl rfl (by kernel_rfl),h⟩
    ·refine zy ?_
     exact ⟨zAE [] rfl rfl (by kernel_rfl),h⟩
  ·
   clear h
   rintro e' H' ⟨hrep,h⟩
   refine zV hrep ?_
   clear hrep
   unfold zJN at h
   refine zI<|zC<|zA (zD rfl)<|zF<|zb ?_
   show zAQ _ _ _ _ _ _
   obtain rfl:=Option.some.inj h
   exact zu (zAM rfl rfl)
theorem zKk {a_p0:zJ} {a_p1:zJ} {r:Bool} (h:zH5 a_p0 a_p1=some r):PFn prog 25 [(AV.agg (zG a_p0)),(AV.agg (zG a_p1))] (AV.lit (.bool r)):=by
 refine zq func25 rfl ntmps25 results25 rfl ?_
 unfold zH5 at h
 refine zI<|zC<|za (H':=[.box 26 (zG a_p0)]) (zw (t:=26) rfl)<|za (H':=[.box 26 (zG a_p0),.box 26 (zG a_p1)]) (zw (t:=26) rfl)<|zA (zD rfl)<|zF ?_
 refine zI<|zI<|zC<|zA (zK underlying26 rfl rfl sizeOf22 rfl)<|zA (zN isAgg22 rfl rfl rfl rfl)<|zA (zK underlying26 rfl rfl sizeOf22 rfl) ?_
 refine zA (zN isAgg22 rfl rfl rfl rfl)<|zR h fun x1 hx1 h=>zi func61 rfl (by kernel_rfl) (.fn 61) rfl rfl (zJB hx1) rfl<|zA (zA6 (t:=x1) rfl)<|zA (zB rfl)<|zT rfl rfl (fun hc1=>zt.step (zK underlying26 rfl rfl sizeOf3 rfl)) ?_
 refine zT rfl rfl (fun hc2=>zt.step (zN isAgg3 (z5 rfl hc2) rfl rfl rfl))<|zT rfl rfl (fun hc3=>zt.step (zK underlying26 rfl rfl sizeOf3 rfl))<|zT rfl rfl (fun hc4=>zt.step (zN isAgg3 (z5 rfl hc4) rfl rfl rfl))<|zT rfl rfl (fun hc5=>zt.step (z7 (z5 rfl hc5) (z5 rfl hc5)))<|zA (zd rfl rfl)<|zA (zB rfl) ?_
 refine zT rfl rfl (fun hc6=>zt.step (zK underlying26 rfl rfl sizeOf3 rfl))<|zT rfl rfl (fun hc7=>zt.step (zN isAgg3 (z5 rfl hc7) rfl rfl rfl))<|zT rfl rfl (fun hc8=>zt.step (zK underlying26 rfl rfl sizeOf3 rfl))<|zT rfl rfl (fun hc9=>zt.step (zN isAgg3 (z5 rfl hc9) rfl rfl rfl))<|zT rfl rfl (fun hc10=>zt.step (z7 (z5 rfl hc10) (z5 rfl hc10)))<|zA (zd rfl rfl) ?_
 refine zA (zB rfl)<|zT rfl rfl (fun hc11=>zt.step (zK underlying26 rfl rfl sizeOf23 rfl))<|zT rfl rfl (fun hc12=>zt.step (zN isAgg23 (z5 rfl hc12) rfl rfl rfl))<|zT rfl rfl (fun hc13=>zt.step (zX underlying23 (z5 rfl hc13)))<|zT rfl rfl (fun hc14=>zt.step (zK underlying26 rfl rfl sizeOf23 rfl))<|zT rfl rfl (fun hc15=>zt.step (zN isAgg23 (z5 rfl hc15) rfl rfl rfl)) ?_
 refine zT rfl rfl (fun hc16=>zt.step (zX underlying23 (z5 rfl hc16)))<|zT rfl rfl (fun hc17=>zt.step (z7 (z5 rfl hc17) (z5 rfl hc17)))<|zA (zd rfl rfl)<|zA (zB rfl)<|zT rfl rfl (fun hc18=>zt.step (zK underlying26 rfl rfl sizeOf24 rfl))<|zT rfl rfl (fun hc19=>zt.step (zN isAgg24 (z5 rfl hc19) rfl rfl rfl)) ?_
 refine zT rfl rfl (fun hc20=>zt.step (zX underlying24 (z5 rfl hc20)))<|zT rfl rfl (fun hc21=>zt.step (zK underlying26 rfl rfl sizeOf24 rfl))<|zT rfl rfl (fun hc22=>zt.step (zN isAgg24 (z5 rfl hc22) rfl rfl rfl))<|zT rfl rfl (fun hc23=>zt.step (zX underlying24 (z5 rfl hc23)))<|zT rfl rfl (fun hc24=>zt.step (z7 (z5 rfl hc24) (z5 rfl hc24)))<|zA (zd rfl rfl) ?_
 refine zF ?_
 refine zY h rfl (fun hb1 h => ?_) (fun hb1 h => ?_)
 ·refine zI<|zC<|zA (zD rfl)<|zF<|zb ?_
  show zAQ _ _ _ _ _ _
  obtain rfl:=Option.some.inj h
  exact zu (zAM rfl rfl)
 ·refine zP ?_
  refine zx (fun e' H'=>Rep 83 0 e' H' (mkE [(2,(AV.ptr 0 0)),(3,(AV.ptr 1 0))]) [.box 26 (zG a_p0),.box 26 (zG a_p1)]∧zJS a_p0 a_p1=some r) ?_ ?_
  ·
   refine zI<|zC<|zA (zD rfl)<|zF<|zQ<|z6 (σ:=Nat×Int) (fun s=>s.1) (fun s e' H'=>match s with | (n1,i2)=>Rep 83 0 e' H' (mkE [(2,(AV.ptr 0 0)),(3,(AV.ptr 1 0)),(5,(li i2))]) [.box 26 (zG a_p0),.box 26 (zG a_p1)]∧zGK a_p0 a_p1 n1 i2=some r) (z9,0) ⟨zAE [0,1] rfl rfl (by kernel_rfl),h⟩ ?_
   clear h
   rintro ⟨n1,i2⟩ e' H' ⟨hrep,h⟩
   cases n1 with
   | zero=>exact absurd (show (none:Option _)=some r from h) (by simp)
   | succ n1 =>
    replace h:zEB a_p0 a_p1 (zGK a_p0 a_p1 n1) i2=some r:=h
    unfold zEB at h
    refine zV hrep ?_
    clear hrep
    refine zI<|zI<|zC<|zA (zB rfl)<|zA (zK underlying26 rfl rfl sizeOf23 rfl)<|zA (zN isAgg23 rfl rfl rfl rfl) ?_
    refine zA (zX underlying23 rfl)<|zA (ze rfl rfl)<|zF ?_
    refine zY h rfl (fun hb7 h => ?_) (fun hb7 h => ?_)
    ·refine zP<|zI<|zQ<|zI<|zM h fun hb8 h=>zM h fun hb9 h => ?_
     refine zR h fun x3 hx3 h => ?_
     show AW _ _ _ _ _ _ [.box 26 (zG a_p0),.box 26 (zG a_p1)]
     refine zAx (n:=83) (m:=0) [.head 0 0,.head 0 0,.head 0 0,.head 0 0,.head 0 0,.head 0 0,.head 0 0,.head 0 0,.head 0 0,.head 0 0,.head 0 0,.head 0 0] [] [AV.ptr 0 3,ls zO a_p0.zones,li i2,(AV.rp (zO (at_ a_p0.zones i2)) 0),(AV.agg (zO (at_ a_p0.zones i2))),AV.ptr 1 3,ls zO a_p1.zones,li i2,(AV.rp (zO (at_ a_p1.zones i2)) 0),(AV.agg (zO (at_ a_p1.zones i2))),(AV.lit (.bool x3)),(AV.lit (.bool (!x3)))] [[.box 26 (zG a_p0),.box 26 (zG a_p1)]] (by kernel_rfl) (by kernel_rfl) ⟨?_,?_,?_,?_,?_,?_,?_,?_,?_,?_,?_,?_,trivial⟩ ?_
     ·exact D1 fun e s p=>zK (k:=0) (o:=0) (off:=3) underlying26 rfl rfl sizeOf23 (s 2 rfl)
     ·exact D1 fun e s p=>zN (k:=0) (o:=3) isAgg23 p.1 rfl rfl rfl
     ·exact D1 fun e s p=>zB (s 5 rfl)
     ·exact D1 fun e s p=>zU (f:=zO) (l:=a_p0.zones) (i:=i2) underlying23 sizeOf51 (fun _=>rfl) p.1 p.2.1 hb8
     ·exact D1 fun e s p=>zAb (row:=(zO (at_ a_p0.zones i2))) (o:=0) (m:=10) (la:=(zO (at_ a_p0.zones i2))) isAgg51 sizeOf51 p.1 rfl rfl
     ·exact D1 fun e s p=>zK (k:=1) (o:=0) (off:=3) underlying26 rfl rfl sizeOf23 (s 3 rfl)
     ·exact D1 fun e s p=>zN (k:=1) (o:=3) isAgg23 p.1 rfl rfl rfl
     ·exact D1 fun e s p=>zB (s 5 rfl)
     ·exact D1 fun e s p=>zU (f:=zO) (l:=a_p1.zones) (i:=i2) underlying23 sizeOf51 (fun _=>rfl) p.1 p.2.1 hb9
     ·exact D1 fun e s p=>zAb (row:=(zO (at_ a_p1.zones i2))) (o:=0) (m:=10) (la:=(zO (at_ a_p1.zones i2))) isAgg51 sizeOf51 p.1 rfl rfl
     ·
      intro e24 hs24 hp23
      refine zi (r:=(AV.lit (.bool x3))) (la:=[(AV.agg (zO (at_ a_p0.zones i2))),(AV.agg (zO (at_ a_p1.zones i2)))]) func62 rfl (by kernel_rfl) (.fn 62) (zAK hp23.1 (zAK hp23.2.1 rfl)) rfl (zNq hx3) rfl ?_
      exact zF ⟨fun _=>rfl,rfl⟩
     ·exact D1 fun e s p=>zA6 (t:=x3) p.1
     intro e26 hs26 hq2
     refine zV (zBY (l:=[(2,(AV.ptr 0 0)),(3,(AV.ptr 1 0)),(5,(li i2)),(63,(AV.lit (.bool (!x3))))]) ⟨hs26 2 rfl,hs26 3 rfl,hs26 5 rfl,(hq2 11 (by decide) (by decide)),trivial⟩) ?_
     refine zY h rfl (fun hb10 h => ?_) (fun hb10 h => ?_)
     ·refine zI<|zC<|zA (zD rfl)<|zF<|zb ?_
      show zAQ _ _ _ _ _ _
      obtain rfl:=Option.some.inj h
      exact zu (zAM rfl rfl)
     ·refine zP<|zC<|zA (zB rfl)<|zM h fun hb11 h=>zA (zf rfl rfl hb11)<|zA (zD rfl) ?_
      refine zF ?_
      exact ⟨(n1,(i2+1)),Nat.lt_succ_self _,zAE [0,1] rfl rfl (by kernel_rfl),h⟩
    ·refine zy ?_
     exact ⟨zAE [0,1] rfl rfl (by kernel_rfl),h⟩
  ·
   clear h
   rintro e' H' ⟨hrep,h⟩
   refine zV hrep ?_
   clear hrep
   unfold zJS at h
   refine zx (fun e' H'=>Rep 83 0 e' H' (mkE []) []∧zJK  = some r) ?_ ?_
   ·
    refine zI<|zC<|zA (zD rfl)<|zF<|zQ<|z6 (σ:=Nat×Int) (fun s=>s.1) (fun s e' H'=>match s with | (n0,i1)=>Rep 83 0 e' H' (mkE [(2,(AV.ptr 0 0)),(3,(AV.ptr 1 0)),(6,(li i1))]) [.box 26 (zG a_p0),.box 26 (zG a_p1)]∧zGC a_p0 a_p1 n0 i1=some r) (z9,0) ⟨zAE [0,1] rfl rfl (by kernel_rfl),h⟩ ?_
    clear h
    rintro ⟨n0,i1⟩ e' H' ⟨hrep,h⟩
    cases n0 with
    | zero=>exact absurd (show (none:Option _)=some r from h) (by simp)
    | succ n0 =>
     replace h:zEL a_p0 a_p1 (zGC a_p0 a_p1 n0) i1=some r:=h
     unfold zEL at h
     refine zV hrep ?_
     clear hrep
     refine zI<|zI<|zC<|zA (zB rfl)<|zA (zK underlying26 rfl rfl sizeOf24 rfl)<|zA (zN isAgg24 rfl rfl rfl rfl) ?_
     refine zA (zX underlying24 rfl)<|zA (ze rfl rfl)<|zF ?_
     refine zY h rfl (fun hb2 h => ?_) (fun hb2 h => ?_)
     ·refine zP<|zI<|zQ<|zI<|zM h fun hb3 h=>zM h fun hb4 h => ?_
      refine zR h fun x2 hx2 h => ?_
      show AW _ _ _ _ _ _ [.box 26 (zG a_p0),.box 26 (zG a_p1)]
      refine zAx (n:=83) (m:=0) [.head 0 0,.head 0 0,.head 0 0,.head 0 0,.head 0 0,.head 0 0,.head 0 0,.head 0 0,.head 0 0,.head 0 0,.head 0 0,.head 0 0] [] [AV.ptr 0 4,ls zH a_p0.caches,li i1,(AV.rp (zH (at_ a_p0.caches i1)) 0),(AV.agg (zH (at_ a_p0.caches i1))),AV.ptr 1 4,ls zH a_p1.caches,li i1,(AV.rp (zH (at_ a_p1.caches i1)) 0),(AV.agg (zH (at_ a_p1.caches i1))),(AV.lit (.bool x2)),(AV.lit (.bool (!x2)))] [[.box 26 (zG a_p0),.box 26 (zG a_p1)]] (by kernel_rfl) (by kernel_rfl) ⟨?_,?_,?_,?_,?_,?_,?_,?_,?_,?_,?_,?_,trivial⟩ ?_
      ·exact D1 fun e s p=>zK (k:=0) (o:=0) (off:=4) underlying26 rfl rfl sizeOf24 (s 2 rfl)
      ·exact D1 fun e s p=>zN (k:=0) (o:=4) isAgg24 p.1 rfl rfl rfl
      ·exact D1 fun e s p=>zB (s 6 rfl)
      ·exact D1 fun e s p=>zU (f:=zH) (l:=a_p0.caches) (i:=i1) underlying24 sizeOf55 (fun _=>rfl) p.1 p.2.1 hb3
      ·exact D1 fun e s p=>zAb (row:=(zH (at_ a_p0.caches i1))) (o:=0) (m:=1) (la:=(zH (at_ a_p0.caches i1))) isAgg55 sizeOf55 p.1 rfl rfl
      ·exact D1 fun e s p=>zK (k:=1) (o:=0) (off:=4) underlying26 rfl rfl sizeOf24 (s 3 rfl)
      ·exact D1 fun e s p=>zN (k:=1) (o:=4) isAgg24 p.1 rfl rfl rfl
      ·exact D1 fun e s p=>zB (s 6 rfl)
      ·exact D1 fun e s p=>zU (f:=zH) (l:=a_p1.caches) (i:=i1) underlying24 sizeOf55 (fun _=>rfl) p.1 p.2.1 hb4
      ·exact D1 fun e s p=>zAb (row:=(zH (at_ a_p1.caches i1))) (o:=0) (m:=1) (la:=(zH (at_ a_p1.caches i1))) isAgg55 sizeOf55 p.1 rfl rfl
      ·
       intro e11 hs11 hp11
       refine zi (r:=(AV.lit (.bool x2))) (la:=[(AV.agg (zH (at_ a_p0.caches i1))),(AV.agg (zH (at_ a_p1.caches i1)))]) func63 rfl (by kernel_rfl) (.fn 63) (zAK hp11.1 (zAK hp11.2.1 rfl)) rfl (zNo hx2) rfl ?_
       exact zF ⟨fun _=>rfl,rfl⟩
      ·exact D1 fun e s p=>zA6 (t:=x2) p.1
      intro e13 hs13 hq1
      refine zV (zBY (l:=[(2,(AV.ptr 0 0)),(3,(AV.ptr 1 0)),(6,(li i1)),(82,(AV.lit (.bool (!x2))))]) ⟨hs13 2 rfl,hs13 3 rfl,hs13 6 rfl,(hq1 11 (by decide) (by decide)),trivial⟩) ?_
      refine zY h rfl (fun hb5 h => ?_) (fun hb5 h => ?_)
      ·refine zI<|zC<|zA (zD rfl)<|zF<|zb ?_
       show zAQ _ _ _ _ _ _
       obtain rfl:=Option.some.inj h
       exact zu (zAM rfl rfl)
      ·refine zP<|zC<|zA (zB rfl)<|zM h fun hb6 h=>zA (zf rfl rfl hb6)<|zA (zD rfl) ?_
       refine zF ?_
       exact ⟨(n0,(i1+1)),Nat.lt_succ_self _,zAE [0,1] rfl rfl (by kernel_rfl),h⟩
     ·refine zy ?_
      exact ⟨zAE [] rfl rfl (by kernel_rfl),h⟩
   ·
    clear h
    rintro e' H' ⟨hrep,h⟩
    refine zV hrep ?_
    clear hrep
    unfold zJK at h
    refine zI<|zC<|zA (zD rfl)<|zF<|zb ?_
    show zAQ _ _ _ _ _ _
    obtain rfl:=Option.some.inj h
    exact zu (zAM rfl rfl)
theorem zKO  {r:Bool} (h:zIC=some r):PFn prog 9 [] (AV.lit (.bool r)):=by
 refine zq func9 rfl ntmps9 results9 rfl ?_
 unfold zIC at h
 refine zI<|zC<|zA (zD (av:=(AV.lit (.bool false))) rfl)<|zF<|zI<|zC ?_
 refine zPw (N:=2) (pl:=[(0,1),(1,1)]) (zs:=[.int .i64 0,.int .i64 0]) (zc:=[.lit (.int .i64 0),.lit (.int .i64 0)]) (rows:=List.map cI [0,1]) zGe underlying22 rfl rfl rfl (by kernel_rfl) rfl (⟨zh.refl _,⟨zh.refl _,trivial⟩⟩) ⟨li 0,0,1,rfl,rfl,rfl,rfl,rfl,⟨li 1,1,1,rfl,rfl,rfl,rfl,rfl,(by exact zFX.refl _)⟩⟩ rfl rfl rfl<|zA (z8 (pl:=[(0,1),(1,1),(2,1),(3,1)]) (zs:=[.int .i64 0,.int .i64 0,.int .i64 0,.int .i64 0]) (zc:=[.lit (.int .i64 0),.lit (.int .i64 0),.lit (.int .i64 0),.lit (.int .i64 0)]) (res:=(zAf (⟨0,0,8,2⟩:zBt))) (fun _=>by kernel_rfl) rfl (⟨zh.refl _,⟨zh.refl _,⟨zh.refl _,⟨zh.refl _,trivial⟩⟩⟩⟩) ⟨li 0,0,1,rfl,rfl,rfl,rfl,rfl,⟨li 0,1,1,rfl,rfl,rfl,rfl,rfl,⟨li 8,2,1,rfl,rfl,rfl,rfl,rfl,⟨li 2,3,1,rfl,rfl,rfl,rfl,rfl,(by exact zFX.refl _)⟩⟩⟩⟩)<|zA (z8 (pl:=[(0,1),(1,1),(2,1),(3,1)]) (zs:=[.int .i64 0,.int .i64 0,.int .i64 0,.int .i64 0]) (zc:=[.lit (.int .i64 0),.lit (.int .i64 0),.lit (.int .i64 0),.lit (.int .i64 0)]) (res:=(zAf (⟨1,1,8,0⟩:zBt))) (fun _=>by kernel_rfl) rfl (⟨zh.refl _,⟨zh.refl _,⟨zh.refl _,⟨zh.refl _,trivial⟩⟩⟩⟩) ⟨li 1,0,1,rfl,rfl,rfl,rfl,rfl,⟨li 1,1,1,rfl,rfl,rfl,rfl,rfl,⟨li 8,2,1,rfl,rfl,rfl,rfl,rfl,⟨li 0,3,1,rfl,rfl,rfl,rfl,rfl,(by exact zFX.refl _)⟩⟩⟩⟩)<|zPw (N:=2) (pl:=[(0,4),(4,4)]) (zs:=[.int .i64 0,.int .i64 0,.int .i64 0,.int .i64 0,.int .i64 0,.int .i64 0,.int .i64 0,.int .i64 0]) (zc:=[.lit (.int .i64 0),.lit (.int .i64 0),.lit (.int .i64 0),.lit (.int .i64 0),.lit (.int .i64 0),.lit (.int .i64 0),.lit (.int .i64 0),.lit (.int .i64 0)]) (rows:=List.map zAf [(⟨0,0,8,2⟩:zBt),(⟨1,1,8,0⟩:zBt)]) zUz underlying47 rfl rfl rfl (by kernel_rfl) rfl (⟨zh.refl _,⟨zh.refl _,⟨zh.refl _,⟨zh.refl _,⟨zh.refl _,⟨zh.refl _,⟨zh.refl _,⟨zh.refl _,trivial⟩⟩⟩⟩⟩⟩⟩⟩) ⟨(AV.agg (zAf (⟨0,0,8,2⟩:zBt))),0,4,rfl,rfl,rfl,rfl,rfl,⟨(AV.agg (zAf (⟨1,1,8,0⟩:zBt))),4,4,rfl,rfl,rfl,rfl,rfl,(by exact zFX.refl _)⟩⟩ rfl rfl rfl<|zR h fun x1 hx1 h=>zAF (zET (j:=0) (ds:=[11]) (rows':=List.map cI [0,1]) rfl (zAP (fun _=>rfl)) ⟨rfl,trivial⟩) ?_
 refine zR h fun x2 hx2 h=>zAF (zET (j:=1) (ds:=[14]) (rows':=List.map zAf [(⟨0,0,8,2⟩:zBt),(⟨1,1,8,0⟩:zBt)]) rfl (zAP (fun _=>rfl)) ⟨rfl,trivial⟩)<|zR h fun x3 hx3 h=>zi func36 rfl (by kernel_rfl) (.fn 36) rfl rfl (zLo hx3) rfl<|zA (zB rfl)<|zA (zg rfl rfl) ?_
 refine zA (zg (la:=[(AV.agg (zG x3.1)),li x3.2]) rfl rfl)<|za (a:=(AV.ptr 2 0)) (H':=[.dead,.dead,.box 26 (zG ⟨[],0,0,[],[]⟩)]) (zv (t:=26) (vs:=[.slice none 0 0,.int .i64 0,.int .i64 0,.slice none 0 0,.slice none 0 0]) (cs:=[.sl false [],.lit (.int .i64 0),.lit (.int .i64 0),.sl false [],.sl false []]) zeroValue26 (by kernel_rfl) rfl ⟨zh.nils,zh.refl _,zh.refl _,zh.nils,zh.nils,trivial⟩)<|zm (H':=[.dead,.dead,.box 26 (zG x3.1)]) (zZ (k:=2) (o:=0) (cs:=(zG ⟨[],0,0,[],[]⟩)) (la:=(zG x3.1)) sizeOf26 rfl rfl rfl rfl)<|zA (zD (av:=(li x3.2)) rfl)<|zF<|zI ?_
 refine zI<|zC<|zA (zB rfl)<|zA (z7 rfl rfl)<|zA (zB rfl)<|zT rfl rfl (fun hc1=>zt.step (zK underlying26 rfl rfl sizeOf23 rfl)) ?_
 refine zT (g:=20) (s := !decide (x3.2=0)) rfl rfl (fun hc2=>zt.step (zN (k:=2) (o:=3) (a:=(ls zO x3.1.zones)) isAgg23 (z5 rfl hc2) rfl rfl rfl))<|zT (g:=20) (s := !decide (x3.2=0)) rfl rfl (fun hc3=>zt.step (zX (f:=zO) (l:=x3.1.zones) underlying23 (z5 rfl hc3)))<|zT (g:=20) (s := !decide (x3.2=0)) rfl rfl (fun hc4=>zt.step (z7 (a:=(x3.1.zones.length:Int)) (b:=2) (z5 rfl hc4) rfl))<|zA (zd (s := !decide (x3.2=0)) (q := !decide ((x3.1.zones.length:Int)=2)) (j := .lit undef) rfl rfl)<|zA (zB (av:=(AV.lit (.bool ((!decide (x3.2=0))||(!decide ((x3.1.zones.length:Int)=2)))))) rfl)<|zT (g:=26) (s:=(!decide (x3.2=0))||(!decide ((x3.1.zones.length:Int)=2))) rfl rfl (fun hc5=>zt.step (zK (k:=2) (o:=0) (off:=4) underlying26 rfl rfl sizeOf24 rfl)) ?_
 refine zT rfl rfl (fun hc6=>zt.step (zN isAgg24 (z5 rfl hc6) rfl rfl rfl))<|zT rfl rfl (fun hc7=>zt.step (zX underlying24 (z5 rfl hc7)))<|zT rfl rfl (fun hc8=>zt.step (z7 (z5 rfl hc8) rfl))<|zA (zd rfl rfl)<|zA (zB rfl)<|zT rfl rfl (fun hc9=>zt.step (zS (k:=2) (o:=0) (m:=5) isAgg26 sizeOf26 rfl rfl rfl rfl rfl)) ?_
 refine zR h fun x4 hx4 h=>zCA (g:=32) (s:=((!decide (x3.2=0))||(!decide ((x3.1.zones.length:Int)=2)))||(!decide ((x3.1.caches.length:Int)=2))) (r':=(li x4)) rfl rfl (fun hc10=>⟨13,_,_,[],[(AV.agg (zG x3.1))],[(AV.agg (zG x3.1))],li x4,[],func13,rfl,by kernel_rfl,.fn 13,(zAK (z5 rfl hc10) rfl),⟨zAt.nr rfl,trivial⟩,zA3 (zF3 hc10 hx4),.inl rfl,rfl⟩)<|zT (g:=32) (s:=((!decide (x3.2=0))||(!decide ((x3.1.zones.length:Int)=2)))||(!decide ((x3.1.caches.length:Int)=2))) rfl rfl (fun hc11=>zt.step (z7 (a:=x4) (b:=0) (z5 rfl hc11) rfl))<|zA (zd (s:=((!decide (x3.2=0))||(!decide ((x3.1.zones.length:Int)=2)))||(!decide ((x3.1.caches.length:Int)=2))) (q := !decide (x4=0)) (j := .lit undef) rfl rfl)<|zA (zB (av:=(AV.lit (.bool ((((!decide (x3.2=0))||(!decide ((x3.1.zones.length:Int)=2)))||(!decide ((x3.1.caches.length:Int)=2)))||(!decide (x4=0)))))) rfl)<|zT (g:=37) (s:=(((!decide (x3.2=0))||(!decide ((x3.1.zones.length:Int)=2)))||(!decide ((x3.1.caches.length:Int)=2)))||(!decide (x4=0))) rfl rfl (fun hc12=>zt.step (zS (k:=2) (o:=0) (m:=5) (la:=(zG x3.1)) isAgg26 sizeOf26 rfl rfl rfl rfl rfl)) ?_
 refine zR h fun x5 hx5 h=>zCA (g:=37) (s:=(((!decide (x3.2=0))||(!decide ((x3.1.zones.length:Int)=2)))||(!decide ((x3.1.caches.length:Int)=2)))||(!decide (x4=0))) (r':=(li x5)) rfl rfl (fun hc13=>⟨15,_,_,[],[(AV.agg (zG x3.1))],[(AV.agg (zG x3.1))],li x5,[],func15,rfl,by kernel_rfl,.fn 15,(zAK (z5 rfl hc13) rfl),⟨zAt.nr rfl,trivial⟩,zKj (zF3 hc13 hx5),.inl rfl,rfl⟩)<|zT rfl rfl (fun hc14=>zt.step (z7 (z5 rfl hc14) rfl))<|zA (zd rfl rfl)<|zF ?_
 refine zY h rfl (fun hb1 h => ?_) (fun hb1 h => ?_)
 ·refine zI<|zC<|zA (zD (av:=(AV.lit (.bool false))) rfl)<|zF<|zb ?_
  show zAQ _ _ _ _ _ _
  obtain rfl:=Option.some.inj h
  exact zu (zAM rfl rfl)
 ·refine zP<|zI<|zC<|zA (zS (k:=2) (o:=0) (m:=5) (la:=(zG x3.1)) isAgg26 sizeOf26 rfl rfl rfl rfl rfl)<|zR h fun x6 hx6 h=>zi (r:=(AV.tup [li x6.1,li x6.2])) (la:=[(AV.agg (zG x3.1))]) func11 rfl (by kernel_rfl) (.fn 11) rfl rfl (zJ7 hx6) rfl ?_
  refine zA (zB rfl)<|zA (zg rfl rfl)<|zA (zg rfl rfl)<|zA (zD rfl)<|zA (zD rfl)<|zF ?_
  refine zI<|zC<|zA (zS (k:=2) (o:=0) (m:=5) (la:=(zG x3.1)) isAgg26 sizeOf26 rfl rfl rfl rfl rfl)<|zR h fun x7 hx7 h=>zi (r:=(AV.tup [(AV.agg (zG x7.1)),li x7.2.1,li x7.2.2])) (la:=[(AV.agg (zG x3.1)),li 0,(AV.lit (.bool true)),(AV.lit (.bool false))]) func23 rfl (by kernel_rfl) (.fn 23) rfl rfl (zK1 hx7) rfl<|zA (zB (av:=(AV.tup [(AV.agg (zG x7.1)),li x7.2.1,li x7.2.2])) rfl) ?_
  refine zA (zg rfl rfl)<|zA (zg rfl rfl)<|zA (zg rfl rfl)<|za (H':=[.dead,.dead,.box 26 (zG x3.1),.box 26 (zG ⟨[],0,0,[],[]⟩)]) (zv (t:=26) (vs:=[.slice none 0 0,.int .i64 0,.int .i64 0,.slice none 0 0,.slice none 0 0]) (cs:=[.sl false [],.lit (.int .i64 0),.lit (.int .i64 0),.sl false [],.sl false []]) zeroValue26 (by kernel_rfl) rfl ⟨zh.nils,zh.refl _,zh.refl _,zh.nils,zh.nils,trivial⟩)<|zm (H':=[.dead,.dead,.box 26 (zG x3.1),.box 26 (zG x7.1)]) (zZ (k:=3) (o:=0) (cs:=(zG ⟨[],0,0,[],[]⟩)) (la:=(zG x7.1)) sizeOf26 rfl rfl rfl rfl)<|zA (zD rfl) ?_
  refine zA (zD (av:=(li x7.2.2)) rfl)<|zF<|zI<|zI<|zC<|zA (zB (av:=(li x6.1)) rfl) ?_
  refine zA (z7 rfl rfl)<|zA (zB rfl)<|zT rfl rfl (fun hc15=>zt.step (zB rfl))<|zT rfl rfl (fun hc16=>zt.step (z7 (z5 rfl hc16) rfl))<|zA (zd rfl rfl)<|zA (zB rfl) ?_
  refine zT (g:=59) (s:=(!decide (x6.1=6))||(!decide (x6.2=14))) rfl rfl (fun hc17=>zt.step (zB (av:=(li x7.2.2)) rfl))<|zT (g:=59) (s:=(!decide (x6.1=6))||(!decide (x6.2=14))) rfl rfl (fun hc18=>zt.step (z7 (a:=x7.2.2) (b:=0) (z5 rfl hc18) rfl))<|zA (zd (s:=(!decide (x6.1=6))||(!decide (x6.2=14))) (q := !decide (x7.2.2=0)) (j := .lit undef) rfl rfl)<|zA (zB (av:=(AV.lit (.bool (((!decide (x6.1=6))||(!decide (x6.2=14)))||(!decide (x7.2.2=0)))))) rfl)<|zT (g:=63) (s:=((!decide (x6.1=6))||(!decide (x6.2=14)))||(!decide (x7.2.2=0))) rfl rfl (fun hc19=>zt.step (zB (av:=(li x7.2.1)) rfl))<|zT (g:=63) (s:=((!decide (x6.1=6))||(!decide (x6.2=14)))||(!decide (x7.2.2=0))) rfl rfl (fun hc20=>zt.step (z7 (a:=x7.2.1) (b:=0) (z5 rfl hc20) rfl)) ?_
  refine zA (zd rfl rfl)<|zA (zB rfl)<|zT rfl rfl (fun hc21=>zt.step (zS (k:=3) (o:=0) (m:=5) isAgg26 sizeOf26 rfl rfl rfl rfl rfl))<|zR h fun x8 hx8 h=>zCA (g:=67) (s:=(((!decide (x6.1=6))||(!decide (x6.2=14)))||(!decide (x7.2.2=0)))||(!decide (x7.2.1=0))) (r':=(AV.lit (.bool x8))) rfl rfl (fun hc22=>⟨19,_,_,[],[(AV.agg (zG x7.1)),li 0],[(AV.agg (zG x7.1)),li 0],(AV.lit (.bool x8)),[],func19,rfl,by kernel_rfl,.fn 19,(zAK (z5 rfl hc22) (zAK rfl rfl)),⟨zAt.nr rfl,zAt.nr rfl,trivial⟩,zIM (zF3 hc22 hx8),.inl rfl,rfl⟩)<|zA (zd rfl rfl) ?_
  refine zA (zB (av:=(AV.lit (.bool (((((!decide (x6.1=6))||(!decide (x6.2=14)))||(!decide (x7.2.2=0)))||(!decide (x7.2.1=0)))||x8)))) rfl)<|zT (g:=71) (s:=((((!decide (x6.1=6))||(!decide (x6.2=14)))||(!decide (x7.2.2=0)))||(!decide (x7.2.1=0)))||x8) rfl rfl (fun hc23=>zt.step (zS (k:=3) (o:=0) (m:=5) (la:=(zG x7.1)) isAgg26 sizeOf26 rfl rfl rfl rfl rfl))<|zR h fun x9 hx9 h=>zCA (g:=71) (s:=((((!decide (x6.1=6))||(!decide (x6.2=14)))||(!decide (x7.2.2=0)))||(!decide (x7.2.1=0)))||x8) (r':=(AV.lit (.bool x9))) rfl rfl (fun hc24=>⟨19,_,_,[],[(AV.agg (zG x7.1)),li 1],[(AV.agg (zG x7.1)),li 1],(AV.lit (.bool x9)),[],func19,rfl,by kernel_rfl,.fn 19,(zAK (z5 rfl hc24) (zAK rfl rfl)),⟨zAt.nr rfl,zAt.nr rfl,trivial⟩,zIM (zF3 hc24 hx9),.inl rfl,rfl⟩)<|zT (g:=71) (s:=((((!decide (x6.1=6))||(!decide (x6.2=14)))||(!decide (x7.2.2=0)))||(!decide (x7.2.1=0)))||x8) rfl rfl (fun hc25=>zt.step (zA6 (t:=x9) (z5 rfl hc25)))<|zA (zd (s:=((((!decide (x6.1=6))||(!decide (x6.2=14)))||(!decide (x7.2.2=0)))||(!decide (x7.2.1=0)))||x8) (q := !x9) (j := .lit undef) rfl rfl) ?_
  refine zA (zB rfl)<|zT rfl rfl (fun hc26=>zt.step (zS (k:=3) (o:=0) (m:=5) isAgg26 sizeOf26 rfl rfl rfl rfl rfl))<|zR h fun x10 hx10 h=>zCA (g:=76) (s:=(((((!decide (x6.1=6))||(!decide (x6.2=14)))||(!decide (x7.2.2=0)))||(!decide (x7.2.1=0)))||x8)||(!x9)) (r':=(li x10)) rfl rfl (fun hc27=>⟨21,_,_,[],[(AV.agg (zG x7.1)),li 0],[(AV.agg (zG x7.1)),li 0],li x10,[],func21,rfl,by kernel_rfl,.fn 21,(zAK (z5 rfl hc27) (zAK rfl rfl)),⟨zAt.nr rfl,zAt.nr rfl,trivial⟩,zKm (zF3 hc27 hx10),.inl rfl,rfl⟩)<|zT rfl rfl (fun hc28=>zt.step (z7 (z5 rfl hc28) rfl))<|zA (zd rfl rfl) ?_
  refine zA (zB (av:=(AV.lit (.bool (((((((!decide (x6.1=6))||(!decide (x6.2=14)))||(!decide (x7.2.2=0)))||(!decide (x7.2.1=0)))||x8)||(!x9))||(!decide (x10=7)))))) rfl)<|zT (g:=81) (s:=((((((!decide (x6.1=6))||(!decide (x6.2=14)))||(!decide (x7.2.2=0)))||(!decide (x7.2.1=0)))||x8)||(!x9))||(!decide (x10=7))) rfl rfl (fun hc29=>zt.step (zS (k:=3) (o:=0) (m:=5) (la:=(zG x7.1)) isAgg26 sizeOf26 rfl rfl rfl rfl rfl))<|zR h fun x11 hx11 h=>zCA (g:=81) (s:=((((((!decide (x6.1=6))||(!decide (x6.2=14)))||(!decide (x7.2.2=0)))||(!decide (x7.2.1=0)))||x8)||(!x9))||(!decide (x10=7))) (r':=(li x11)) rfl rfl (fun hc30=>⟨17,_,_,[],[(AV.agg (zG x7.1)),li 8],[(AV.agg (zG x7.1)),li 8],li x11,[],func17,rfl,by kernel_rfl,.fn 17,(zAK (z5 rfl hc30) (zAK rfl rfl)),⟨zAt.nr rfl,zAt.nr rfl,trivial⟩,zLF (zF3 hc30 hx11),.inl rfl,rfl⟩)<|zT (g:=81) (s:=((((((!decide (x6.1=6))||(!decide (x6.2=14)))||(!decide (x7.2.2=0)))||(!decide (x7.2.1=0)))||x8)||(!x9))||(!decide (x10=7))) rfl rfl (fun hc31=>zt.step (z7 (a:=x11) (b:=1) (z5 rfl hc31) rfl))<|zA (zd (s:=((((((!decide (x6.1=6))||(!decide (x6.2=14)))||(!decide (x7.2.2=0)))||(!decide (x7.2.1=0)))||x8)||(!x9))||(!decide (x10=7))) (q := !decide (x11=1)) (j := .lit undef) rfl rfl) ?_
  refine zF ?_
  refine zY h rfl (fun hb2 h => ?_) (fun hb2 h => ?_)
  ·refine zI<|zC<|zA (zD rfl)<|zF<|zb ?_
   show zAQ _ _ _ _ _ _
   obtain rfl:=Option.some.inj h
   exact zu (zAM (r1:=(AV.lit (.bool false))) rfl rfl)
  ·refine zP<|zI<|zC<|zA (zS (k:=3) (o:=0) (m:=5) isAgg26 sizeOf26 rfl rfl rfl rfl rfl)<|zR h fun x12 hx12 h=>zi func28 rfl (by kernel_rfl) (.fn 28) rfl rfl (zI8 hx12) rfl ?_
   refine zA (zB (av:=(AV.tup [(AV.agg (zG x12.1)),li x12.2])) rfl)<|zA (zg (la:=[(AV.agg (zG x12.1)),li x12.2]) rfl rfl)<|zA (zg (la:=[(AV.agg (zG x12.1)),li x12.2]) rfl rfl)<|za (a:=(AV.ptr 4 0)) (H':=[.dead,.dead,.box 26 (zG x3.1),.box 26 (zG x7.1),.box 26 (zG ⟨[],0,0,[],[]⟩)]) (zv (t:=26) (vs:=[.slice none 0 0,.int .i64 0,.int .i64 0,.slice none 0 0,.slice none 0 0]) (cs:=[.sl false [],.lit (.int .i64 0),.lit (.int .i64 0),.sl false [],.sl false []]) zeroValue26 (by kernel_rfl) rfl ⟨zh.nils,zh.refl _,zh.refl _,zh.nils,zh.nils,trivial⟩)<|zm (H':=[.dead,.dead,.box 26 (zG x3.1),.box 26 (zG x7.1),.box 26 (zG x12.1)]) (zZ (k:=4) (o:=0) (cs:=(zG ⟨[],0,0,[],[]⟩)) (la:=(zG x12.1)) sizeOf26 rfl rfl rfl rfl)<|zA (zD (av:=(li x12.2)) rfl) ?_
   refine zF<|zI<|zI<|zC<|zA (zB rfl)<|zA (z7 rfl rfl) ?_
   refine zF ?_
   refine zY h rfl (fun hb3 h => ?_) (fun hb3 h => ?_)
   ·refine zI<|zC<|zA (zD (av:=(AV.lit (.bool false))) rfl)<|zF<|zb ?_
    show zAQ _ _ _ _ _ _
    obtain rfl:=Option.some.inj h
    exact zu (zAM rfl rfl)
   ·refine zP<|zI<|zC<|zA (zS (k:=2) (o:=0) (m:=5) (la:=(zG x3.1)) isAgg26 sizeOf26 rfl rfl rfl rfl rfl)<|zR h fun x13 hx13 h=>zi (r:=(AV.tup [(AV.agg (zG x13.1)),li x13.2.1,li x13.2.2])) (la:=[(AV.agg (zG x3.1)),li 1,li 3]) func26 rfl (by kernel_rfl) (.fn 26) rfl rfl (zJU hx13) rfl ?_
    refine zA (zB rfl)<|zA (zg rfl rfl)<|zA (zg rfl rfl)<|zA (zg rfl rfl)<|za (H':=[.dead,.dead,.box 26 (zG x3.1),.box 26 (zG x7.1),.box 26 (zG x12.1),.box 26 (zG ⟨[],0,0,[],[]⟩)]) (zv (t:=26) (vs:=[.slice none 0 0,.int .i64 0,.int .i64 0,.slice none 0 0,.slice none 0 0]) (cs:=[.sl false [],.lit (.int .i64 0),.lit (.int .i64 0),.sl false [],.sl false []]) zeroValue26 (by kernel_rfl) rfl ⟨zh.nils,zh.refl _,zh.refl _,zh.nils,zh.nils,trivial⟩)<|zm (H':=[.dead,.dead,.box 26 (zG x3.1),.box 26 (zG x7.1),.box 26 (zG x12.1),.box 26 (zG x13.1)]) (zZ (k:=5) (o:=0) (cs:=(zG ⟨[],0,0,[],[]⟩)) (la:=(zG x13.1)) sizeOf26 rfl rfl rfl rfl) ?_
    refine zA (zD (av:=(li x13.2.1)) rfl)<|zA (zD (av:=(li x13.2.2)) rfl)<|zF<|zI<|zR h fun x14 hx14 h=>zR h fun x15 hx15 h => ?_
    show AW _ _ _ _ _ _ [.dead,.dead,.box 26 (zG x3.1),.box 26 (zG x7.1),.box 26 (zG x12.1),.box 26 (zG x13.1)]
    refine zAx (n:=111) (m:=0) [.head 0 0,.head 0 0,.head 0 0,.head 0 0,.head 0 0,.head 0 0,.head 0 0,.head 0 0,.head 0 0,.head 0 0,.head 0 0,.head 0 0,.head 0 0] [] [li x13.2.2,(AV.lit (.bool (decide (x13.2.2=0)))),(AV.lit (.bool (decide (x13.2.2=0)))),(bif decide (x13.2.2=0) then (li x13.2.1) else .lit undef),(bif decide (x13.2.2=0) then (AV.lit (.bool (decide (x13.2.1=8)))) else .lit undef),(AV.lit (.bool ((decide (x13.2.2=0))&&(decide (x13.2.1=8))))),(AV.lit (.bool ((decide (x13.2.2=0))&&(decide (x13.2.1=8))))),(bif (decide (x13.2.2=0))&&(decide (x13.2.1=8)) then (AV.agg (zG x12.1)) else .lit undef),(bif (decide (x13.2.2=0))&&(decide (x13.2.1=8)) then (AV.agg (zG x14)) else .lit undef),(bif (decide (x13.2.2=0))&&(decide (x13.2.1=8)) then (AV.agg (zG x3.1)) else .lit undef),(bif (decide (x13.2.2=0))&&(decide (x13.2.1=8)) then (AV.lit (.bool x15)) else .lit undef),(AV.lit (.bool (((decide (x13.2.2=0))&&(decide (x13.2.1=8)))&&x15))),(AV.lit (.bool (((decide (x13.2.2=0))&&(decide (x13.2.1=8)))&&x15)))] [[.dead,.dead,.box 26 (zG x3.1),.box 26 (zG x7.1),.box 26 (zG x12.1),.box 26 (zG x13.1)]] (by kernel_rfl) (by kernel_rfl) ⟨?_,?_,?_,?_,?_,?_,?_,?_,?_,?_,?_,?_,?_,trivial⟩ ?_
    ·exact D1 fun e s p=>zB (s 2 rfl)
    ·exact D1 fun e s p=>zBR (a:=x13.2.2) (b:=0) p.1 rfl
    ·exact D1 fun e s p=>zB (av:=(AV.lit (.bool (decide (x13.2.2=0))))) p.1
    ·
     intro e4 hs4 hp4
     refine zo (g:=101) (s:=decide (x13.2.2=0)) rfl hp4.1 (fun hc38=>zt.step (zB (av:=(li x13.2.1)) (hs4 9 rfl))) ?_
     exact zF ⟨fun _=>rfl,rfl⟩
    ·
     intro e5 hs5 hp5
     refine zo (g:=101) (s:=decide (x13.2.2=0)) rfl hp5.2.1 (fun hc39=>zt.step (zBR (a:=x13.2.1) (b:=8) (z5 hp5.1 hc39) rfl)) ?_
     exact zF ⟨fun _=>rfl,rfl⟩
    ·exact D1 fun e s p=>zz (s:=decide (x13.2.2=0)) (q:=decide (x13.2.1=8)) (j := .lit undef) p.1 p.2.1
    ·exact D1 fun e s p=>zB p.1
    ·
     intro e8 hs8 hp8
     refine zo (g:=105) (s:=(decide (x13.2.2=0))&&(decide (x13.2.1=8))) rfl hp8.1 (fun hc40=>zt.step (zS (k:=4) (o:=0) (m:=5) (la:=(zG x12.1)) isAgg26 sizeOf26 (hs8 7 rfl) rfl rfl rfl rfl)) ?_
     exact zF ⟨fun _=>rfl,rfl⟩
    ·
     intro e9 hs9 hp9
     refine zCp (g:=105) (s:=(decide (x13.2.2=0))&&(decide (x13.2.1=8))) (r':=(AV.agg (zG x14))) rfl hp9.2.2.1 (fun hc41=>⟨34,_,_,[],[(AV.agg (zG x12.1))],[(AV.agg (zG x12.1))],(AV.agg (zG x14)),[],func34,rfl,by kernel_rfl,.fn 34,(zAK (z5 hp9.1 hc41) rfl),⟨zAt.nr rfl,trivial⟩,zLC (zF3 hc41 hx14),.inl rfl,rfl⟩) ?_
     exact zF ⟨fun _=>rfl,rfl⟩
    ·
     intro e10 hs10 hp10
     refine zo (g:=105) (s:=(decide (x13.2.2=0))&&(decide (x13.2.1=8))) rfl hp10.1 (fun hc42=>zt.step (zS (k:=2) (o:=0) (m:=5) (la:=(zG x3.1)) isAgg26 sizeOf26 (hs10 1 rfl) rfl rfl rfl rfl)) ?_
     exact zF ⟨fun _=>rfl,rfl⟩
    ·
     intro e11 hs11 hp11
     refine zCp (g:=105) (s:=(decide (x13.2.2=0))&&(decide (x13.2.1=8))) (r':=(AV.lit (.bool x15))) rfl hp11.2.2.2.1 (fun hc43=>⟨25,_,_,[],[(AV.agg (zG x14)),(AV.agg (zG x3.1))],[(AV.agg (zG x14)),(AV.agg (zG x3.1))],(AV.lit (.bool x15)),[],func25,rfl,by kernel_rfl,.fn 25,(zAK (z5 hp11.2.2.1 hc43) (zAK (z5 hp11.2.1 hc43) rfl)),⟨zAt.nr rfl,zAt.nr rfl,trivial⟩,zKk (zF3 hc43 hx15),.inl rfl,rfl⟩) ?_
     exact zF ⟨fun _=>rfl,rfl⟩
    ·exact D1 fun e s p=>zz (s:=(decide (x13.2.2=0))&&(decide (x13.2.1=8))) (q:=x15) (j := .lit undef) p.1 p.2.1
    ·exact D1 fun e s p=>zD (av:=(AV.lit (.bool (((decide (x13.2.2=0))&&(decide (x13.2.1=8)))&&x15)))) p.2.2.2.2.2.2.2.2.2.2.2.2.2.1
    intro e14 hs14 hq1
    refine zV (zBY (l:=[(0,(AV.lit (.bool (((decide (x13.2.2=0))&&(decide (x13.2.1=8)))&&x15))))]) ⟨(hq1 12 (by decide) (by decide)),trivial⟩)<|zb ?_
    show zAQ _ _ _ _ _ _
    obtain rfl:=Option.some.inj h
    exact zu (zAM rfl rfl)
theorem zOF {a_z:zp} {r:Bool} (h:zKp a_z=some r):PFn prog 37 [(AV.agg (zO a_z))] (AV.lit (.bool r)):=by
 refine zq func37 rfl ntmps37 results37 rfl ?_
 unfold zKp at h
 refine zI<|zC<|za (H':=[.box 51 (zO a_z)]) (zw (t:=51) rfl)<|zA (zD rfl)<|zF ?_
 refine zx (fun e' H'=>Rep 14 0 e' H' (mkE []) []∧zJl  = some r) ?_ ?_
 ·
  refine zI<|zC<|zA (zD rfl)<|zF<|zQ<|z6 (σ:=Nat×Int) (fun s=>s.1) (fun s e' H'=>match s with | (n0,i1)=>Rep 14 0 e' H' (mkE [(1,(AV.ptr 0 0)),(3,(li i1))]) [.box 51 (zO a_z)]∧zFA a_z n0 i1=some r) (z9,0) ⟨zAE [0] rfl rfl (by kernel_rfl),h⟩ ?_
  clear h
  rintro ⟨n0,i1⟩ e' H' ⟨hrep,h⟩
  cases n0 with
  | zero=>exact absurd (show (none:Option _)=some r from h) (by simp)
  | succ n0 =>
   replace h:zFE a_z (zFA a_z n0) i1=some r:=h
   unfold zFE at h
   refine zV hrep ?_
   clear hrep
   refine zI<|zI<|zC<|zA (zB rfl)<|zA (zCi rfl rfl)<|zF ?_
   refine zY h rfl (fun hb1 h => ?_) (fun hb1 h => ?_)
   ·refine zP<|zI<|zQ<|zI<|zC<|zA (zB rfl) ?_
    refine zA (zK underlying51 rfl rfl sizeOf49 rfl)<|zM h fun hb2 h=>zA (zAO (m:=5) (s:=1) (i:=i1) (k:=0) (o:=5) underlying49 sizeOf22 rfl rfl hb2)<|zA (zAr (k:=0) (o:=(5+i1.toNat*1)) (cs:=(zO a_z)) (hd:=([li a_z.node]++[li a_z.kind]++[li a_z.start]++[li a_z.count]++[li a_z.min]++[])) (tl:=([])) (g:=(eS cI)) (d0:=([]:List Int)) (l:=a_z.free) (N:=5) (i:=i1.toNat) (a:=(ls cI (a_z.free.getD i1.toNat ([]:List Int)))) isAgg22 rfl rfl rfl (congrArg (fun q=>5+q) (Nat.mul_one _)) (zBK hb2).2 rfl rfl)<|zA (zX underlying22 rfl)<|zA (zAl rfl rfl) ?_
    refine zF ?_
    refine zY h rfl (fun hb3 h => ?_) (fun hb3 h => ?_)
    ·refine zI<|zC<|zA (zD rfl)<|zF<|zb ?_
     show zAQ _ _ _ _ _ _
     obtain rfl:=Option.some.inj h
     exact zu (zAM rfl rfl)
    ·refine zP<|zC<|zA (zB rfl)<|zM h fun hb4 h=>zA (zf rfl rfl hb4)<|zA (zD rfl) ?_
     refine zF ?_
     exact ⟨(n0,(i1+1)),Nat.lt_succ_self _,zAE [0] rfl rfl (by kernel_rfl),h⟩
   ·refine zy ?_
    exact ⟨zAE [] rfl rfl (by kernel_rfl),h⟩
 ·
  clear h
  rintro e' H' ⟨hrep,h⟩
  refine zV hrep ?_
  clear hrep
  unfold zJl at h
  refine zI<|zC<|zA (zD rfl)<|zF<|zb ?_
  show zAQ _ _ _ _ _ _
  obtain rfl:=Option.some.inj h
  exact zu (zAM rfl rfl)
theorem zOY {a_c:zL} {r:Bool} (h:zJz a_c=some r):PFn prog 38 [(AV.agg (zH a_c))] (AV.lit (.bool r)):=by
 refine zq func38 rfl ntmps38 results38 rfl ?_
 unfold zJz at h
 refine zI<|zC<|za (H':=[.box 55 (zH a_c)]) (zw (t:=55) rfl)<|zA (zD rfl)<|zF<|zI ?_
 refine zI<|zC<|zA (zK underlying55 rfl rfl sizeOf53 rfl)<|zA (zN isAgg53 rfl rfl rfl rfl)<|zA (zX underlying53 rfl)<|zA (zAl rfl rfl) ?_
 refine zF ?_
 refine zY h rfl (fun hb1 h => ?_) (fun hb1 h => ?_)
 ·refine zI<|zC<|zA (zD rfl)<|zF<|zb ?_
  show zAQ _ _ _ _ _ _
  obtain rfl:=Option.some.inj h
  exact zu (zAM rfl rfl)
 ·refine zP ?_
  refine zx (fun e' H'=>Rep 20 0 e' H' (mkE []) []∧zJt  = some r) ?_ ?_
  ·
   refine zI<|zC<|zA (zK underlying55 rfl rfl sizeOf53 rfl)<|zA (zN isAgg53 rfl rfl rfl rfl)<|zA (zX underlying53 rfl)<|zA (zB rfl) ?_
   refine zF<|zQ<|z6 (σ:=Nat×Int) (fun s=>s.1) (fun s e' H'=>match s with | (n0,i1)=>Rep 20 0 e' H' (mkE [(10,(ls (cS cI) a_c.lists)),(11,(li (a_c.lists.length:Int))),(12,(li i1))]) []∧zFN a_c n0 i1=some r) (z9,0) ⟨zAE [] rfl rfl (by kernel_rfl),h⟩ ?_
   clear h
   rintro ⟨n0,i1⟩ e' H' ⟨hrep,h⟩
   cases n0 with
   | zero=>exact absurd (show (none:Option _)=some r from h) (by simp)
   | succ n0 =>
    replace h:zFD a_c (zFN a_c n0) i1=some r:=h
    unfold zFD at h
    refine zV hrep ?_
    clear hrep
    refine zI<|zC<|zA (ze rfl rfl)<|zF<|zI ?_
    refine zY h rfl (fun hb2 h => ?_) (fun hb2 h => ?_)
    ·refine zP<|zI<|zQ<|zI<|zC<|zM h fun hb3 h => ?_
     refine zA (zU underlying53 sizeOf22 (fun _=>rfl) rfl rfl hb3)<|zA (zW (o:=0) isAgg22 rfl rfl)<|zA (zD rfl)<|zF<|zI<|zC ?_
     refine zA (zB rfl)<|zA (zX underlying22 rfl)<|zA (zAl rfl rfl)<|zF ?_
     refine zY h rfl (fun hb4 h => ?_) (fun hb4 h => ?_)
     ·refine zI<|zC<|zA (zD rfl)<|zF<|zb ?_
      show zAQ _ _ _ _ _ _
      obtain rfl:=Option.some.inj h
      exact zu (zAM rfl rfl)
     ·refine zP<|zC<|zM h fun hb5 h=>zA (zf rfl rfl hb5)<|zA (zB rfl)<|zF ?_
      exact ⟨(n0,(i1+1)),Nat.lt_succ_self _,zAE [] rfl rfl (by kernel_rfl),h⟩
    ·refine zy ?_
     exact ⟨zAE [] rfl rfl (by kernel_rfl),h⟩
  ·
   clear h
   rintro e' H' ⟨hrep,h⟩
   refine zV hrep ?_
   clear hrep
   unfold zJt at h
   refine zI<|zC<|zA (zD rfl)<|zF<|zb ?_
   show zAQ _ _ _ _ _ _
   obtain rfl:=Option.some.inj h
   exact zu (zAM rfl rfl)
theorem zOe {a_a:zJ} {r:Bool} (h:zJx a_a=some r):PFn prog 10 [(AV.agg (zG a_a))] (AV.lit (.bool r)):=by
 refine zq func10 rfl ntmps10 results10 rfl ?_
 unfold zJx at h
 refine zI<|zC<|za (H':=[.box 26 (zG a_a)]) (zw (t:=26) rfl)<|zA (zD rfl)<|zF<|zI ?_
 refine zI<|zC<|zA (zK underlying26 rfl rfl sizeOf22 rfl)<|zA (zN isAgg22 rfl rfl rfl rfl)<|zA (zX underlying22 rfl)<|zA (zAl rfl rfl) ?_
 refine zA (zB rfl)<|zT rfl rfl (fun hc1=>zt.step (zK underlying26 rfl rfl sizeOf23 rfl))<|zT rfl rfl (fun hc2=>zt.step (zN isAgg23 (z5 rfl hc2) rfl rfl rfl))<|zT rfl rfl (fun hc3=>zt.step (zX underlying23 (z5 rfl hc3)))<|zT rfl rfl (fun hc4=>zt.step (zAl (z5 rfl hc4) rfl))<|zA (zd rfl rfl) ?_
 refine zA (zB rfl)<|zT rfl rfl (fun hc5=>zt.step (zK underlying26 rfl rfl sizeOf24 rfl))<|zT rfl rfl (fun hc6=>zt.step (zN isAgg24 (z5 rfl hc6) rfl rfl rfl))<|zT rfl rfl (fun hc7=>zt.step (zX underlying24 (z5 rfl hc7)))<|zT rfl rfl (fun hc8=>zt.step (zAl (z5 rfl hc8) rfl))<|zA (zd rfl rfl) ?_
 refine zF ?_
 refine zY h rfl (fun hb1 h => ?_) (fun hb1 h => ?_)
 ·refine zI<|zC<|zA (zD rfl)<|zF<|zb ?_
  show zAQ _ _ _ _ _ _
  obtain rfl:=Option.some.inj h
  exact zu (zAM rfl rfl)
 ·refine zP ?_
  refine zx (fun e' H'=>Rep 49 0 e' H' (mkE [(1,(AV.ptr 0 0))]) [.box 26 (zG a_a)]∧zJw a_a=some r) ?_ ?_
  ·
   refine zI<|zC<|zA (zD rfl)<|zF<|zQ<|z6 (σ:=Nat×Int) (fun s=>s.1) (fun s e' H'=>match s with | (n1,i2)=>Rep 49 0 e' H' (mkE [(1,(AV.ptr 0 0)),(3,(li i2))]) [.box 26 (zG a_a)]∧zFL a_a n1 i2=some r) (z9,0) ⟨zAE [0] rfl rfl (by kernel_rfl),h⟩ ?_
   clear h
   rintro ⟨n1,i2⟩ e' H' ⟨hrep,h⟩
   cases n1 with
   | zero=>exact absurd (show (none:Option _)=some r from h) (by simp)
   | succ n1 =>
    replace h:zFG a_a (zFL a_a n1) i2=some r:=h
    unfold zFG at h
    refine zV hrep ?_
    clear hrep
    refine zI<|zI<|zC<|zA (zB rfl)<|zA (zK underlying26 rfl rfl sizeOf23 rfl)<|zA (zN isAgg23 rfl rfl rfl rfl) ?_
    refine zA (zX underlying23 rfl)<|zA (ze rfl rfl)<|zF ?_
    refine zY h rfl (fun hb6 h => ?_) (fun hb6 h => ?_)
    ·refine zP<|zI<|zQ<|zI<|zC<|zA (zK underlying26 rfl rfl sizeOf23 rfl) ?_
     refine zA (zN isAgg23 rfl rfl rfl rfl)<|zA (zB rfl)<|zM h fun hb7 h=>zA (zU underlying23 sizeOf51 (fun _=>rfl) rfl rfl hb7)<|zA (zAb (row:=(zO (at_ a_a.zones i2))) (o:=0) (m:=10) (la:=(zO (at_ a_a.zones i2))) isAgg51 sizeOf51 rfl rfl rfl)<|zR h fun x2 hx2 h => ?_
     refine zi func37 rfl (by kernel_rfl) (.fn 37) rfl rfl (zOF hx2) rfl<|zA (zA6 (t:=x2) rfl)<|zF ?_
     refine zY h rfl (fun hb8 h => ?_) (fun hb8 h => ?_)
     ·refine zI<|zC<|zA (zD rfl)<|zF<|zb ?_
      show zAQ _ _ _ _ _ _
      obtain rfl:=Option.some.inj h
      exact zu (zAM rfl rfl)
     ·refine zP<|zC<|zA (zB rfl)<|zM h fun hb9 h=>zA (zf rfl rfl hb9)<|zA (zD rfl) ?_
      refine zF ?_
      exact ⟨(n1,(i2+1)),Nat.lt_succ_self _,zAE [0] rfl rfl (by kernel_rfl),h⟩
    ·refine zy ?_
     exact ⟨zAE [0] rfl rfl (by kernel_rfl),h⟩
  ·
   clear h
   rintro e' H' ⟨hrep,h⟩
   refine zV hrep ?_
   clear hrep
   unfold zJw at h
   refine zx (fun e' H'=>Rep 49 0 e' H' (mkE []) []∧zJ4  = some r) ?_ ?_
   ·
    refine zI<|zC<|zA (zD rfl)<|zF<|zQ<|z6 (σ:=Nat×Int) (fun s=>s.1) (fun s e' H'=>match s with | (n0,i1)=>Rep 49 0 e' H' (mkE [(1,(AV.ptr 0 0)),(4,(li i1))]) [.box 26 (zG a_a)]∧zE1 a_a n0 i1=some r) (z9,0) ⟨zAE [0] rfl rfl (by kernel_rfl),h⟩ ?_
    clear h
    rintro ⟨n0,i1⟩ e' H' ⟨hrep,h⟩
    cases n0 with
    | zero=>exact absurd (show (none:Option _)=some r from h) (by simp)
    | succ n0 =>
     replace h:zFF a_a (zE1 a_a n0) i1=some r:=h
     unfold zFF at h
     refine zV hrep ?_
     clear hrep
     refine zI<|zI<|zC<|zA (zB rfl)<|zA (zK underlying26 rfl rfl sizeOf24 rfl)<|zA (zN isAgg24 rfl rfl rfl rfl) ?_
     refine zA (zX underlying24 rfl)<|zA (ze rfl rfl)<|zF ?_
     refine zY h rfl (fun hb2 h => ?_) (fun hb2 h => ?_)
     ·refine zP<|zI<|zQ<|zI<|zC<|zA (zK underlying26 rfl rfl sizeOf24 rfl) ?_
      refine zA (zN isAgg24 rfl rfl rfl rfl)<|zA (zB rfl)<|zM h fun hb3 h=>zA (zU underlying24 sizeOf55 (fun _=>rfl) rfl rfl hb3)<|zA (zAb (row:=(zH (at_ a_a.caches i1))) (o:=0) (m:=1) (la:=(zH (at_ a_a.caches i1))) isAgg55 sizeOf55 rfl rfl rfl)<|zR h fun x1 hx1 h => ?_
      refine zi func38 rfl (by kernel_rfl) (.fn 38) rfl rfl (zOY hx1) rfl<|zA (zA6 (t:=x1) rfl)<|zF ?_
      refine zY h rfl (fun hb4 h => ?_) (fun hb4 h => ?_)
      ·refine zI<|zC<|zA (zD rfl)<|zF<|zb ?_
       show zAQ _ _ _ _ _ _
       obtain rfl:=Option.some.inj h
       exact zu (zAM rfl rfl)
      ·refine zP<|zC<|zA (zB rfl)<|zM h fun hb5 h=>zA (zf rfl rfl hb5)<|zA (zD rfl) ?_
       refine zF ?_
       exact ⟨(n0,(i1+1)),Nat.lt_succ_self _,zAE [0] rfl rfl (by kernel_rfl),h⟩
     ·refine zy ?_
      exact ⟨zAE [] rfl rfl (by kernel_rfl),h⟩
   ·
    clear h
    rintro e' H' ⟨hrep,h⟩
    refine zV hrep ?_
    clear hrep
    unfold zJ4 at h
    refine zI<|zC<|zA (zD rfl)<|zF<|zb ?_
    show zAQ _ _ _ _ _ _
    obtain rfl:=Option.some.inj h
    exact zu (zAM rfl rfl)
theorem zLp {a_nodes:List Int} {a_batch:Int} {a_high:Int} {a_zones:Int} {r:Bool} (h:zGu a_nodes a_batch a_high a_zones=some r):PFn prog 46 [ls cI a_nodes,li a_batch,li a_high,li a_zones] (AV.lit (.bool r)):=by
 refine zq func46 rfl ntmps46 results46 rfl ?_
 unfold zGu at h
 refine zI<|zC<|zA (zD rfl)<|zF<|zI<|zI ?_
 refine zC<|zA (zB rfl)<|zA (zX underlying22 rfl)<|zA (ze rfl rfl)<|zA (zB rfl)<|zT rfl rfl (fun hc1=>zt.step (zB rfl)) ?_
 refine zT rfl rfl (fun hc2=>zt.step (zX underlying22 (z5 rfl hc2)))<|zT rfl rfl (fun hc3=>zt.step (zAl (z5 rfl hc3) rfl))<|zA (zd rfl rfl)<|zA (zB rfl)<|zT rfl rfl (fun hc4=>zt.step (zB rfl))<|zT rfl rfl (fun hc5=>zt.step (ze (z5 rfl hc5) rfl)) ?_
 refine zA (zd rfl rfl)<|zA (zB rfl)<|zT rfl rfl (fun hc6=>zt.step (zB rfl))<|zT rfl rfl (fun hc7=>zt.step (zB rfl))<|zT rfl rfl (fun hc8=>zt.step (zAl (z5 rfl hc8) (z5 rfl hc8)))<|zA (zd rfl rfl) ?_
 refine zA (zB rfl)<|zT rfl rfl (fun hc9=>zt.step (zB rfl))<|zT rfl rfl (fun hc10=>zt.step (zAl (z5 rfl hc10) rfl))<|zA (zd rfl rfl)<|zA (zB rfl)<|zT rfl rfl (fun hc11=>zt.step (zB rfl)) ?_
 refine zT rfl rfl (fun hc12=>zt.step (ze (z5 rfl hc12) rfl))<|zA (zd rfl rfl)<|zA (zB rfl)<|zT rfl rfl (fun hc13=>zt.step (zB rfl))<|zT rfl rfl (fun hc14=>zt.step (zAl (z5 rfl hc14) rfl))<|zA (zd rfl rfl) ?_
 refine zF ?_
 refine zY h rfl (fun hb1 h => ?_) (fun hb1 h => ?_)
 ·refine zI<|zC<|zA (zD rfl)<|zF<|zb ?_
  show zAQ _ _ _ _ _ _
  obtain rfl:=Option.some.inj h
  exact zu (zAM rfl rfl)
 ·refine zP ?_
  refine zx (fun e' H'=>Rep 57 0 e' H' (mkE []) []∧zHp  = some r) ?_ ?_
  ·
   refine zI<|zC<|zA (zD rfl)<|zF<|zQ<|z6 (σ:=Nat×Int) (fun s=>s.1) (fun s e' H'=>match s with | (n0,i1)=>Rep 57 0 e' H' (mkE [(0,(ls cI a_nodes)),(9,(li i1))]) []∧zEX a_nodes n0 i1=some r) (z9,0) ⟨zAE [] rfl rfl (by kernel_rfl),h⟩ ?_
   clear h
   rintro ⟨n0,i1⟩ e' H' ⟨hrep,h⟩
   cases n0 with
   | zero=>exact absurd (show (none:Option _)=some r from h) (by simp)
   | succ n0 =>
    replace h:zCY a_nodes (zEX a_nodes n0) i1=some r:=h
    unfold zCY at h
    refine zV hrep ?_
    clear hrep
    refine zI<|zI<|zC<|zA (zB rfl)<|zA (zB rfl)<|zA (zX underlying22 rfl) ?_
    refine zA (ze rfl rfl)<|zF ?_
    refine zY h rfl (fun hb2 h => ?_) (fun hb2 h => ?_)
    ·refine zP<|zI<|zQ<|zI<|zC<|zA (zB rfl) ?_
     refine zA (zB rfl)<|zM h fun hb3 h=>zA (zU underlying22 sizeOf3 (fun _=>rfl) rfl rfl hb3)<|zA (zW (o:=0) isAgg3 rfl rfl)<|zA (ze rfl rfl)<|zA (zB rfl) ?_
     refine zT rfl rfl (fun hc15=>zt.step (zB rfl))<|zT rfl rfl (fun hc16=>zt.step (zB rfl))<|zT rfl rfl (fun hc17=>zt.step (zU underlying22 sizeOf3 (fun _=>rfl) (z5 rfl hc17) (z5 rfl hc17) hb3))<|zT rfl rfl (fun hc18=>zt.step (zW (o:=0) isAgg3 (z5 rfl hc18) rfl))<|zT rfl rfl (fun hc19=>zt.step (zAp (z5 rfl hc19) rfl))<|zA (zd rfl rfl) ?_
     refine zF ?_
     refine zY h rfl (fun hb4 h => ?_) (fun hb4 h => ?_)
     ·refine zI<|zC<|zA (zD rfl)<|zF<|zb ?_
      show zAQ _ _ _ _ _ _
      obtain rfl:=Option.some.inj h
      exact zu (zAM rfl rfl)
     ·refine zP<|zC<|zA (zB rfl)<|zM h fun hb5 h=>zA (zf rfl rfl hb5)<|zA (zD rfl) ?_
      refine zF ?_
      exact ⟨(n0,(i1+1)),Nat.lt_succ_self _,zAE [] rfl rfl (by kernel_rfl),h⟩
    ·refine zy ?_
     exact ⟨zAE [] rfl rfl (by kernel_rfl),h⟩
  ·
   clear h
   rintro e' H' ⟨hrep,h⟩
   refine zV hrep ?_
   clear hrep
   unfold zHp at h
   refine zI<|zC<|zA (zD rfl)<|zF<|zb ?_
   show zAQ _ _ _ _ _ _
   obtain rfl:=Option.some.inj h
   exact zu (zAM rfl rfl)
theorem zLq {a_z:zp} {r:Bool} (h:zGa a_z=some r):PFn prog 93 [(AV.agg (zO a_z))] (AV.lit (.bool r)):=by
 refine zq func93 rfl ntmps93 results93 rfl ?_
 unfold zGa at h
 refine zI<|zC<|za (H':=[.box 51 (zO a_z)]) (zw (t:=51) rfl)<|zA (zD rfl)<|zF<|zI ?_
 refine zI<|zC<|zA (zK underlying51 rfl rfl sizeOf3 rfl)<|zA (zN isAgg3 rfl rfl rfl rfl)<|zA (ze rfl rfl)<|zA (zB rfl) ?_
 refine zT rfl rfl (fun hc1=>zt.step (zK underlying51 rfl rfl sizeOf3 rfl))<|zT rfl rfl (fun hc2=>zt.step (zN isAgg3 (z5 rfl hc2) rfl rfl rfl))<|zT rfl rfl (fun hc3=>zt.step (zAp (z5 rfl hc3) rfl))<|zA (zd rfl rfl)<|zA (zB rfl)<|zT rfl rfl (fun hc4=>zt.step (zK underlying51 rfl rfl sizeOf3 rfl)) ?_
 refine zT rfl rfl (fun hc5=>zt.step (zN isAgg3 (z5 rfl hc5) rfl rfl rfl))<|zT rfl rfl (fun hc6=>zt.step (z7 (z5 rfl hc6) rfl))<|zT rfl rfl (fun hc7=>zt.step (zB (z5 rfl hc7)))<|zKg (g:=15) (s' := !((decide (a_z.node<0))||(decide (4≤a_z.node)))) (s := !decide (a_z.kind=0)) rfl rfl (fun hc8=>zt.step (zK underlying51 rfl rfl sizeOf3 rfl))<|zKg (g:=15) (s' := !((decide (a_z.node<0))||(decide (4≤a_z.node)))) (s := !decide (a_z.kind=0)) rfl rfl (fun hc9=>zt.step (zN isAgg3 (z5 rfl hc9) rfl rfl rfl))<|zKg (g:=15) (s' := !((decide (a_z.node<0))||(decide (4≤a_z.node)))) (s := !decide (a_z.kind=0)) rfl rfl (fun hc10=>zt.step (z7 (z5 rfl hc10) rfl)) ?_
 refine zT rfl rfl (fun hc11=>zt.step (zz (j := .lit undef) (z5 rfl hc11) (zOI (c := !((decide (a_z.node<0))||(decide (4≤a_z.node)))) (d := !decide (a_z.kind=0)) (a:=(AV.lit (.bool (!decide (a_z.kind=1))))) (j := .lit undef) rfl hc11)))<|zA (zd rfl rfl)<|zF ?_
 refine zY h rfl (fun hb1 h => ?_) (fun hb1 h => ?_)
 ·refine zI<|zC<|zA (zD rfl)<|zF<|zb ?_
  show zAQ _ _ _ _ _ _
  obtain rfl:=Option.some.inj h
  exact zu (zAM rfl rfl)
 ·refine zP<|zI<|zC<|zA (zK underlying51 rfl rfl sizeOf3 rfl)<|zA (zN isAgg3 rfl rfl rfl rfl)<|zA (zAp rfl rfl) ?_
  refine zA (zB rfl)<|zo rfl rfl (fun hc12=>zt.step (zK underlying51 rfl rfl sizeOf3 rfl))<|zo rfl rfl (fun hc13=>zt.step (zN isAgg3 (z5 rfl hc13) rfl rfl rfl))<|zo rfl rfl (fun hc14=>zt.step (zAp (z5 rfl hc14) rfl))<|zA (zz (j := .lit undef) rfl rfl)<|zA (zB rfl) ?_
  refine zo rfl rfl (fun hc15=>zt.step (zK underlying51 rfl rfl sizeOf3 rfl))<|zo rfl rfl (fun hc16=>zt.step (zN isAgg3 (z5 rfl hc16) rfl rfl rfl))<|zo rfl rfl (fun hc17=>zt.step (zCi (z5 rfl hc17) rfl))<|zA (zz (j := .lit undef) rfl rfl)<|zA (zB rfl)<|zo rfl rfl (fun hc18=>zt.step (zK underlying51 rfl rfl sizeOf3 rfl)) ?_
  refine zo rfl rfl (fun hc19=>zt.step (zN isAgg3 (z5 rfl hc19) rfl rfl rfl))<|zo rfl rfl (fun hc20=>zt.step (zK underlying51 rfl rfl sizeOf3 rfl))<|zo rfl rfl (fun hc21=>zt.step (zN isAgg3 (z5 rfl hc21) rfl rfl rfl))<|zM h fun hb2 h=>zo rfl rfl (fun hc22=>zt.step (zB8 rfl (z5 rfl hc22) (zGd hb2 hc22)))<|zo rfl rfl (fun hc23=>zt.step (zCi (z5 rfl hc23) (z5 rfl hc23))) ?_
  refine zA (zz (j := .lit undef) rfl rfl)<|zA (zB rfl)<|zo rfl rfl (fun hc24=>zt.step (zK underlying51 rfl rfl sizeOf3 rfl))<|zo rfl rfl (fun hc25=>zt.step (zN isAgg3 (z5 rfl hc25) rfl rfl rfl))<|zo rfl rfl (fun hc26=>zt.step (zAp (z5 rfl hc26) rfl))<|zA (zz (j := .lit undef) rfl rfl) ?_
  refine zA (zB rfl)<|zo rfl rfl (fun hc27=>zt.step (zK underlying51 rfl rfl sizeOf3 rfl))<|zo rfl rfl (fun hc28=>zt.step (zN isAgg3 (z5 rfl hc28) rfl rfl rfl))<|zo rfl rfl (fun hc29=>zt.step (zK underlying51 rfl rfl sizeOf3 rfl))<|zo rfl rfl (fun hc30=>zt.step (zN isAgg3 (z5 rfl hc30) rfl rfl rfl))<|zo rfl rfl (fun hc31=>zt.step (zCi (z5 rfl hc31) (z5 rfl hc31))) ?_
  refine zA (zz (j := .lit undef) rfl rfl)<|zA (zD rfl)<|zF<|zb ?_
  show zAQ _ _ _ _ _ _
  obtain rfl:=Option.some.inj h
  exact zu (zAM rfl rfl)
theorem zFk {a_z:zp} {a_frame:Int} {a_order:Int} {r:Bool} (h:zCG a_z a_frame a_order=some r):PFn prog 72 [(AV.agg (zO a_z)),li a_frame,li a_order] (AV.lit (.bool r)):=by
 refine zq func72 rfl ntmps72 results72 rfl ?_
 unfold zCG at h
 refine zI<|zC<|za (H':=[.box 51 (zO a_z)]) (zw (t:=51) rfl)<|zA (zD rfl)<|zF<|zI ?_
 refine zI<|zC<|zA (zB rfl)<|zA (ze rfl rfl)<|zA (zB rfl)<|zT rfl rfl (fun hc1=>zt.step (zB rfl)) ?_
 refine zT rfl rfl (fun hc2=>zt.step (zAl (z5 rfl hc2) rfl))<|zA (zd rfl rfl)<|zA (zB rfl)<|zT rfl rfl (fun hc3=>zt.step (zB rfl))<|zT rfl rfl (fun hc4=>zt.step (zK underlying51 rfl rfl sizeOf3 rfl))<|zT rfl rfl (fun hc5=>zt.step (zN isAgg3 (z5 rfl hc5) rfl rfl rfl)) ?_
 refine zT rfl rfl (fun hc6=>zt.step (ze (z5 rfl hc6) (z5 rfl hc6)))<|zA (zd rfl rfl)<|zA (zB rfl)<|zT rfl rfl (fun hc7=>zt.step (zB rfl))<|zT rfl rfl (fun hc8=>zt.step (zK underlying51 rfl rfl sizeOf3 rfl))<|zT rfl rfl (fun hc9=>zt.step (zN isAgg3 (z5 rfl hc9) rfl rfl rfl)) ?_
 refine zT rfl rfl (fun hc10=>zt.step (zK underlying51 rfl rfl sizeOf3 rfl))<|zT rfl rfl (fun hc11=>zt.step (zN isAgg3 (z5 rfl hc11) rfl rfl rfl))<|zM h fun hb1 h=>zT rfl rfl (fun hc12=>zt.step (zf (z5 rfl hc12) (z5 rfl hc12) (zGd hb1 hc12)))<|zT rfl rfl (fun hc13=>zt.step (zAp (z5 rfl hc13) (z5 rfl hc13)))<|zA (zd rfl rfl) ?_
 refine zF ?_
 refine zY h rfl (fun hb2 h => ?_) (fun hb2 h => ?_)
 ·refine zI<|zC<|zA (zD rfl)<|zF<|zb ?_
  show zAQ _ _ _ _ _ _
  obtain rfl:=Option.some.inj h
  exact zu (zAM rfl rfl)
 ·refine zP<|zI<|zC<|zA (zB rfl)<|zA (zB rfl)<|zM h fun hb3 h => ?_
  refine zA (zGX (k' := .u64) (a:=a_order) underlying3 underlying74 rfl hb3)<|zM h fun hb4 h=>zM h fun hb5 h=>zA (zDI (a:=1) (b:=a_order) rfl rfl hb4 hb5)<|zM h fun hb6 h=>zA (zPd (k := .i64) (a:=a_frame) (b:=(1:Int)*2 ^ a_order.toNat) rfl rfl hb6) ?_
  refine zA (zBR rfl rfl)<|zA (zB rfl)<|zo rfl rfl (fun hc14=>zt.step (zB rfl))<|zo rfl rfl (fun hc15=>zt.step (zB rfl))<|zo rfl rfl (fun hc16=>zt.step (zGX (k' := .u64) (a:=a_order) underlying3 underlying74 (z5 rfl hc16) hb3))<|zo rfl rfl (fun hc17=>zt.step (zDI (a:=1) (b:=a_order) rfl (z5 rfl hc17) hb4 hb5)) ?_
  refine zM h fun hb7 h=>zo rfl rfl (fun hc18=>zt.step (zf (z5 rfl hc18) (z5 rfl hc18) (zGd hb7 hc18)))<|zo rfl rfl (fun hc19=>zt.step (zK underlying51 rfl rfl sizeOf3 rfl))<|zo rfl rfl (fun hc20=>zt.step (zN isAgg3 (z5 rfl hc20) rfl rfl rfl))<|zo rfl rfl (fun hc21=>zt.step (zK underlying51 rfl rfl sizeOf3 rfl))<|zo rfl rfl (fun hc22=>zt.step (zN isAgg3 (z5 rfl hc22) rfl rfl rfl)) ?_
  refine zM h fun hb8 h=>zo rfl rfl (fun hc23=>zt.step (zf (z5 rfl hc23) (z5 rfl hc23) (zGd hb8 hc23)))<|zo rfl rfl (fun hc24=>zt.step (zCi (z5 rfl hc24) (z5 rfl hc24)))<|zA (zz (j := .lit undef) rfl rfl)<|zA (zD rfl)<|zF ?_
  refine zb ?_
  show zAQ _ _ _ _ _ _
  obtain rfl:=Option.some.inj h
  exact zu (zAM rfl rfl)
theorem zK9 {a_z:zp} {r:Int} (h:zGO a_z=some r):PFn prog 94 [(AV.agg (zO a_z))] (li r):=by
 refine zq func94 rfl ntmps94 results94 rfl ?_
 unfold zGO at h
 refine zI<|zC<|za (H':=[.box 51 (zO a_z)]) (zw (t:=51) rfl)<|zA (zD rfl)<|zF ?_
 refine zx (fun e' H'=>Rep 49 0 e' H' (mkE []) []∧zGj  = some r) ?_ ?_
 ·
  refine zI<|zC<|zA (zD rfl)<|zF<|zQ<|z6 (σ:=Nat×Int) (fun s=>s.1) (fun s e' H'=>match s with | (n0,i1)=>Rep 49 0 e' H' (mkE [(1,(AV.ptr 0 0)),(3,(li i1))]) [.box 51 (zO a_z)]∧zBD a_z n0 i1=some r) (z9,0) ⟨zAE [0] rfl rfl (by kernel_rfl),h⟩ ?_
  clear h
  rintro ⟨n0,i1⟩ e' H' ⟨hrep,h⟩
  cases n0 with
  | zero=>exact absurd (show (none:Option _)=some r from h) (by simp)
  | succ n0 =>
   replace h:zBp a_z (zBD a_z n0) i1=some r:=h
   unfold zBp at h
   refine zV hrep ?_
   clear hrep
   refine zI<|zI<|zC<|zA (zB rfl)<|zA (zCi rfl rfl)<|zF ?_
   refine zY h rfl (fun hb1 h => ?_) (fun hb1 h => ?_)
   ·refine zP ?_
    refine zx (fun e' H'=>Rep 49 0 e' H' (mkE [(1,(AV.ptr 0 0)),(3,(li i1))]) [.box 51 (zO a_z)]∧zEv (zBD a_z n0) i1=some r) ?_ ?_
    ·
     refine zQ<|zI<|zC<|zA (zD rfl)<|zF<|zQ ?_
     refine z6 (σ:=Nat×Int) (fun s=>s.1) (fun s e' H'=>match s with | (n1,i2)=>Rep 49 0 e' H' (mkE [(1,(AV.ptr 0 0)),(3,(li i1)),(4,(li i2))]) [.box 51 (zO a_z)]∧zDE (zBD a_z n0) a_z i1 n1 i2=some r) (z9,0) ⟨zAE [0] rfl rfl (by kernel_rfl),h⟩ ?_
     clear h
     rintro ⟨n1,i2⟩ e' H' ⟨hrep,h⟩
     cases n1 with
     | zero=>exact absurd (show (none:Option _)=some r from h) (by simp)
     | succ n1 =>
      replace h:zBu (zBD a_z n0) a_z i1 (zDE (zBD a_z n0) a_z i1 n1) i2=some r:=h
      unfold zBu at h
      refine zV hrep ?_
      clear hrep
      refine zI<|zI<|zC<|zA (zB rfl)<|zA (zB rfl)<|zA (zK underlying51 rfl rfl sizeOf49 rfl) ?_
      refine zM h fun hb3 h=>zA (zAO (m:=5) (s:=1) (i:=i1) (k:=0) (o:=5) underlying49 sizeOf22 rfl rfl hb3)<|zA (zAr (k:=0) (o:=(5+i1.toNat*1)) (cs:=(zO a_z)) (hd:=([li a_z.node]++[li a_z.kind]++[li a_z.start]++[li a_z.count]++[li a_z.min]++[])) (tl:=([])) (g:=(eS cI)) (d0:=([]:List Int)) (l:=a_z.free) (N:=5) (i:=i1.toNat) (a:=(ls cI (a_z.free.getD i1.toNat ([]:List Int)))) isAgg22 rfl rfl rfl (congrArg (fun q=>5+q) (Nat.mul_one _)) (zBK hb3).2 rfl rfl)<|zA (zX underlying22 rfl)<|zA (ze rfl rfl)<|zF ?_
      refine zY h rfl (fun hb4 h => ?_) (fun hb4 h => ?_)
      ·refine zP<|zI<|zQ<|zI<|zI<|zM h fun hb5 h => ?_
       refine zR h fun x1 hx1 h => ?_
       show AW _ _ _ _ _ _ [.box 51 (zO a_z)]
       refine zAx (n:=49) (m:=0) [.head 0 0,.head 0 0,.head 0 0,.head 0 0,.head 0 0,.head 0 0,.head 0 0,.head 0 0,.head 0 0,.head 0 0,.head 0 0] [] [(AV.agg (zO a_z)),li i1,AV.ptr 0 5,(AV.ptr 0 (5+i1.toNat*1)),(ls cI (a_z.free.getD i1.toNat ([]:List Int))),li i2,(AV.rp (cI (at_ (a_z.free.getD i1.toNat ([]:List Int)) i2)) 0),(li (at_ (a_z.free.getD i1.toNat ([]:List Int)) i2)),li i1,(AV.lit (.bool x1)),(AV.lit (.bool (!x1)))] [[.box 51 (zO a_z)]] (by kernel_rfl) (by kernel_rfl) ⟨?_,?_,?_,?_,?_,?_,?_,?_,?_,?_,?_,trivial⟩ ?_
       ·exact D1 fun e s p=>zS (k:=0) (o:=0) (m:=10) isAgg51 sizeOf51 (s 1 rfl) rfl rfl rfl rfl
       ·exact D1 fun e s p=>zB (s 3 rfl)
       ·exact D1 fun e s p=>zK (k:=0) (o:=0) (off:=5) underlying51 rfl rfl sizeOf49 (s 1 rfl)
       ·exact D1 fun e s p=>zAO (m:=5) (s:=1) (i:=i1) (k:=0) (o:=5) underlying49 sizeOf22 p.1 p.2.1 hb3
       ·exact D1 fun e s p=>zAr (k:=0) (o:=(5+i1.toNat*1)) (cs:=(zO a_z)) (hd:=([li a_z.node]++[li a_z.kind]++[li a_z.start]++[li a_z.count]++[li a_z.min]++[])) (tl:=([])) (g:=(eS cI)) (d0:=([]:List Int)) (l:=a_z.free) (N:=5) (i:=i1.toNat) (a:=(ls cI (a_z.free.getD i1.toNat ([]:List Int)))) isAgg22 p.1 rfl rfl (congrArg (fun q=>5+q) (Nat.mul_one _)) (zBK hb3).2 rfl rfl
       ·exact D1 fun e s p=>zB (s 4 rfl)
       ·exact D1 fun e s p=>zU (f:=cI) (l:=a_z.free.getD i1.toNat ([]:List Int)) (i:=i2) underlying22 sizeOf3 (fun _=>rfl) p.1 p.2.1 hb5
       ·exact D1 fun e s p=>zW (o:=0) isAgg3 p.1 rfl
       ·exact D1 fun e s p=>zB (s 3 rfl)
       ·
        intro e10 hs10 hp10
        refine zi (r:=(AV.lit (.bool x1))) (la:=[(AV.agg (zO a_z)),(li (at_ (a_z.free.getD i1.toNat ([]:List Int)) i2)),li i1]) func72 rfl (by kernel_rfl) (.fn 72) (zAK hp10.1 (zAK hp10.2.1 (zAK hp10.2.2.1 rfl))) rfl (zFk hx1) rfl ?_
        exact zF ⟨fun _=>rfl,rfl⟩
       ·exact D1 fun e s p=>zA6 (t:=x1) p.1
       intro e12 hs12 hq1
       refine zV (zBY (l:=[(1,(AV.ptr 0 0)),(3,(li i1)),(4,(li i2)),(28,(AV.lit (.bool (!x1))))]) ⟨hs12 1 rfl,hs12 3 rfl,hs12 4 rfl,(hq1 10 (by decide) (by decide)),trivial⟩) ?_
       refine zY h rfl (fun hb6 h => ?_) (fun hb6 h => ?_)
       ·refine zI<|zC<|zA (zD rfl)<|zF<|zb ?_
        show zAQ _ _ _ _ _ _
        obtain rfl:=Option.some.inj h
        exact zu (zAM rfl rfl)
       ·refine zP<|zI<|zM h fun hb7 h=>zM h fun hb8 h => ?_
        show AW _ _ _ _ _ _ [.box 51 (zO a_z)]
        refine zAx (n:=49) (m:=0) [.head 0 0,.head 0 0,.head 0 0,.head 0 0,.head 0 0,.head 0 0,.head 0 0,.head 0 0,.head 0 0,.head 0 0,.head 0 0,.head 0 0,.head 0 0,.head 0 0,.head 0 0,.head 0 0,.head 0 0,.head 0 0,.head 0 0,.head 0 0] [] [li i2,(AV.lit (.bool (decide (0<i2)))),(AV.lit (.bool (decide (0<i2)))),(bif decide (0<i2) then (li i1) else .lit undef),(bif decide (0<i2) then (AV.ptr 0 5) else .lit undef),(bif decide (0<i2) then (AV.ptr 0 (5+i1.toNat*1)) else .lit undef),(bif decide (0<i2) then (ls cI (a_z.free.getD i1.toNat ([]:List Int))) else .lit undef),(bif decide (0<i2) then (li i2) else .lit undef),(bif decide (0<i2) then (AV.rp (cI (at_ (a_z.free.getD i1.toNat ([]:List Int)) i2)) 0) else .lit undef),(bif decide (0<i2) then (li (at_ (a_z.free.getD i1.toNat ([]:List Int)) i2)) else .lit undef),(bif decide (0<i2) then (li i1) else .lit undef),(bif decide (0<i2) then (AV.ptr 0 5) else .lit undef),(bif decide (0<i2) then (AV.ptr 0 (5+i1.toNat*1)) else .lit undef),(bif decide (0<i2) then (ls cI (a_z.free.getD i1.toNat ([]:List Int))) else .lit undef),(bif decide (0<i2) then (li i2) else .lit undef),(bif decide (0<i2) then (li (i2 - 1)) else .lit undef),(bif decide (0<i2) then (AV.rp (cI (at_ (a_z.free.getD i1.toNat ([]:List Int)) (i2 - 1))) 0) else .lit undef),(bif decide (0<i2) then (li (at_ (a_z.free.getD i1.toNat ([]:List Int)) (i2 - 1))) else .lit undef),(bif decide (0<i2) then (AV.lit (.bool (decide ((at_ (a_z.free.getD i1.toNat ([]:List Int)) i2)≤(at_ (a_z.free.getD i1.toNat ([]:List Int)) (i2 - 1)))))) else .lit undef),(AV.lit (.bool ((decide (0<i2))&&(decide ((at_ (a_z.free.getD i1.toNat ([]:List Int)) i2)≤(at_ (a_z.free.getD i1.toNat ([]:List Int)) (i2 - 1)))))))] [[.box 51 (zO a_z)]] (by kernel_rfl) (by kernel_rfl) ⟨?_,?_,?_,?_,?_,?_,?_,?_,?_,?_,?_,?_,?_,?_,?_,?_,?_,?_,?_,?_,trivial⟩ ?_
        ·exact D1 fun e s p=>zB (s 4 rfl)
        ·exact D1 fun e s p=>zAl (a:=i2) (b:=0) p.1 rfl
        ·exact D1 fun e s p=>zB p.1
        ·
         intro e16 hs16 hp15
         refine zo (g:=31) (s:=decide (0<i2)) rfl hp15.1 (fun hc17=>zt.step (zB (av:=(li i1)) (hs16 3 rfl))) ?_
         exact zF ⟨fun _=>rfl,rfl⟩
        ·
         intro e17 hs17 hp16
         refine zo (g:=31) (s:=decide (0<i2)) rfl hp16.1 (fun hc18=>zt.step (zK (k:=0) (o:=0) (off:=5) underlying51 rfl rfl sizeOf49 (hs17 1 rfl))) ?_
         exact zF ⟨fun _=>rfl,rfl⟩
        ·
         intro e18 hs18 hp17
         refine zo (g:=31) (s:=decide (0<i2)) rfl hp17.2.2.1 (fun hc19=>zt.step (zAO (m:=5) (s:=1) (i:=i1) (k:=0) (o:=5) underlying49 sizeOf22 (z5 hp17.1 hc19) (z5 hp17.2.1 hc19) hb3)) ?_
         exact zF ⟨fun _=>rfl,rfl⟩
        ·
         intro e19 hs19 hp18
         refine zo (g:=31) (s:=decide (0<i2)) rfl hp18.2.1 (fun hc20=>zt.step (zAr (k:=0) (o:=(5+i1.toNat*1)) (cs:=(zO a_z)) (hd:=([li a_z.node]++[li a_z.kind]++[li a_z.start]++[li a_z.count]++[li a_z.min]++[])) (tl:=([])) (g:=(eS cI)) (d0:=([]:List Int)) (l:=a_z.free) (N:=5) (i:=i1.toNat) (a:=(ls cI (a_z.free.getD i1.toNat ([]:List Int)))) isAgg22 (z5 hp18.1 hc20) rfl rfl (congrArg (fun q=>5+q) (Nat.mul_one _)) (zBK hb3).2 rfl rfl)) ?_
         exact zF ⟨fun _=>rfl,rfl⟩
        ·
         intro e20 hs20 hp19
         refine zo (g:=31) (s:=decide (0<i2)) rfl hp19.1 (fun hc21=>zt.step (zB (av:=(li i2)) (hs20 4 rfl))) ?_
         exact zF ⟨fun _=>rfl,rfl⟩
        ·
         intro e21 hs21 hp20
         refine zo (g:=31) (s:=decide (0<i2)) rfl hp20.2.2.1 (fun hc22=>zt.step (zU (f:=cI) (l:=a_z.free.getD i1.toNat ([]:List Int)) (i:=i2) underlying22 sizeOf3 (fun _=>rfl) (z5 hp20.1 hc22) (z5 hp20.2.1 hc22) hb5)) ?_
         exact zF ⟨fun _=>rfl,rfl⟩
        ·
         intro e22 hs22 hp21
         refine zo (g:=31) (s:=decide (0<i2)) rfl hp21.2.1 (fun hc23=>zt.step (zW (row:=(cI (at_ (a_z.free.getD i1.toNat ([]:List Int)) i2))) (o:=0) (a:=(li (at_ (a_z.free.getD i1.toNat ([]:List Int)) i2))) isAgg3 (z5 hp21.1 hc23) rfl)) ?_
         exact zF ⟨fun _=>rfl,rfl⟩
        ·
         intro e23 hs23 hp22
         refine zo (g:=31) (s:=decide (0<i2)) rfl hp22.1 (fun hc24=>zt.step (zB (av:=(li i1)) (hs23 3 rfl))) ?_
         exact zF ⟨fun _=>rfl,rfl⟩
        ·
         intro e24 hs24 hp23
         refine zo (g:=31) (s:=decide (0<i2)) rfl hp23.1 (fun hc25=>zt.step (zK (k:=0) (o:=0) (off:=5) underlying51 rfl rfl sizeOf49 (hs24 1 rfl))) ?_
         exact zF ⟨fun _=>rfl,rfl⟩
        ·
         intro e25 hs25 hp24
         refine zo (g:=31) (s:=decide (0<i2)) rfl hp24.2.2.1 (fun hc26=>zt.step (zAO (m:=5) (s:=1) (i:=i1) (k:=0) (o:=5) underlying49 sizeOf22 (z5 hp24.1 hc26) (z5 hp24.2.1 hc26) hb3)) ?_
         exact zF ⟨fun _=>rfl,rfl⟩
        ·
         intro e26 hs26 hp25
         refine zo (g:=31) (s:=decide (0<i2)) rfl hp25.2.1 (fun hc27=>zt.step (zAr (k:=0) (o:=(5+i1.toNat*1)) (cs:=(zO a_z)) (hd:=([li a_z.node]++[li a_z.kind]++[li a_z.start]++[li a_z.count]++[li a_z.min]++[])) (tl:=([])) (g:=(eS cI)) (d0:=([]:List Int)) (l:=a_z.free) (N:=5) (i:=i1.toNat) (a:=(ls cI (a_z.free.getD i1.toNat ([]:List Int)))) isAgg22 (z5 hp25.1 hc27) rfl rfl (congrArg (fun q=>5+q) (Nat.mul_one _)) (zBK hb3).2 rfl rfl)) ?_
         exact zF ⟨fun _=>rfl,rfl⟩
        ·
         intro e27 hs27 hp26
         refine zo (g:=31) (s:=decide (0<i2)) rfl hp26.1 (fun hc28=>zt.step (zB (av:=(li i2)) (hs27 4 rfl))) ?_
         exact zF ⟨fun _=>rfl,rfl⟩
        ·
         intro e28 hs28 hp27
         refine zo (g:=31) (s:=decide (0<i2)) rfl hp27.2.1 (fun hc29=>zt.step (zB8 (a:=i2) (b:=1) (z5 hp27.1 hc29) rfl (zGd hb7 hc29))) ?_
         exact zF ⟨fun _=>rfl,rfl⟩
        ·
         intro e29 hs29 hp28
         refine zo (g:=31) (s:=decide (0<i2)) rfl hp28.2.2.1 (fun hc30=>zt.step (zU (f:=cI) (l:=a_z.free.getD i1.toNat ([]:List Int)) (i:=i2 - 1) underlying22 sizeOf3 (fun _=>rfl) (z5 hp28.1 hc30) (z5 hp28.2.1 hc30) (zGd hb8 hc30))) ?_
         exact zF ⟨fun _=>rfl,rfl⟩
        ·
         intro e30 hs30 hp29
         refine zo (g:=31) (s:=decide (0<i2)) rfl hp29.2.1 (fun hc31=>zt.step (zW (row:=(cI (at_ (a_z.free.getD i1.toNat ([]:List Int)) (i2 - 1)))) (o:=0) (a:=(li (at_ (a_z.free.getD i1.toNat ([]:List Int)) (i2 - 1)))) isAgg3 (z5 hp29.1 hc31) rfl)) ?_
         exact zF ⟨fun _=>rfl,rfl⟩
        ·
         intro e31 hs31 hp30
         refine zo (g:=31) (s:=decide (0<i2)) rfl hp30.2.2.1 (fun hc32=>zt.step (zCi (a:=at_ (a_z.free.getD i1.toNat ([]:List Int)) i2) (b:=at_ (a_z.free.getD i1.toNat ([]:List Int)) (i2 - 1)) (z5 hp30.1 hc32) (z5 hp30.2.1 hc32))) ?_
         exact zF ⟨fun _=>rfl,rfl⟩
        ·exact D1 fun e s p=>zz (s:=decide (0<i2)) (q:=decide ((at_ (a_z.free.getD i1.toNat ([]:List Int)) i2)≤(at_ (a_z.free.getD i1.toNat ([]:List Int)) (i2 - 1)))) (j := .lit undef) p.1 p.2.1
        intro e33 hs33 hq2
        refine zV (zBY (l:=[(1,(AV.ptr 0 0)),(3,(li i1)),(4,(li i2)),(48,(AV.lit (.bool ((decide (0<i2))&&(decide ((at_ (a_z.free.getD i1.toNat ([]:List Int)) i2)≤(at_ (a_z.free.getD i1.toNat ([]:List Int)) (i2 - 1))))))))]) ⟨hs33 1 rfl,hs33 3 rfl,hs33 4 rfl,(hq2 19 (by decide) (by decide)),trivial⟩) ?_
        refine zY h rfl (fun hb9 h => ?_) (fun hb9 h => ?_)
        ·refine zI<|zC<|zA (zD rfl)<|zF<|zb ?_
         show zAQ _ _ _ _ _ _
         obtain rfl:=Option.some.inj h
         exact zu (zAM rfl rfl)
        ·refine zP<|zC<|zA (zB rfl)<|zM h fun hb10 h=>zA (zf rfl rfl hb10)<|zA (zD rfl) ?_
         refine zF ?_
         exact ⟨(n1,(i2+1)),Nat.lt_succ_self _,zAE [0] rfl rfl (by kernel_rfl),h⟩
      ·refine zy ?_
       exact ⟨zAE [0] rfl rfl (by kernel_rfl),h⟩
    ·
     clear h
     rintro e' H' ⟨hrep,h⟩
     refine zV hrep ?_
     clear hrep
     unfold zEv at h
     refine zC<|zA (zB rfl)<|zM h fun hb2 h=>zA (zf rfl rfl hb2)<|zA (zD rfl)<|zF ?_
     exact ⟨(n0,(i1+1)),Nat.lt_succ_self _,zAE [0] rfl rfl (by kernel_rfl),h⟩
   ·refine zy ?_
    exact ⟨zAE [] rfl rfl (by kernel_rfl),h⟩
 ·
  clear h
  rintro e' H' ⟨hrep,h⟩
  refine zV hrep ?_
  clear hrep
  unfold zGj at h
  refine zI<|zC<|zA (zD rfl)<|zF<|zb ?_
  show zAQ _ _ _ _ _ _
  obtain rfl:=Option.some.inj h
  exact zu (zAM rfl rfl)
theorem zKC {a_z:zp} {r:List Int} (h:zII a_z=some r):PFn prog 95 [(AV.agg (zO a_z))] (AV.osl 3 1 (List.map cI r)):=by
 refine zq func95 rfl ntmps95 results95 rfl ?_
 unfold zII at h
 refine zI<|zC<|za (H':=[.box 51 (zO a_z)]) (zw (t:=51) rfl)<|zA (zD rfl)<|zF<|zI ?_
 refine zC<|zM h fun hb1 h=>zDy (f:=cI) (a:=256) (c:=256) (d0:=0) zGe ⟨zh.refl _,trivial⟩ rfl underlying22 rfl rfl hb1<|zA (zD rfl)<|zF ?_
 refine zx (fun e' H' => ∃ (l1:List Int),Rep 50 0 e' H' (mkE [(3,(AV.hd 0))]) [.vec 3 1 (List.map cI l1)]∧zJ1 l1=some r) ?_ ?_
 ·
  refine zI<|zC<|zA (zD rfl)<|zF<|zQ<|z6 (σ:=Nat×Int×(List Int)) (fun s=>s.1) (fun s e' H'=>match s with | (n0,i1,l2)=>Rep 50 0 e' H' (mkE [(1,(AV.ptr 0 0)),(3,(AV.hd 1)),(4,(li i1))]) [.box 51 (zO a_z),.vec 3 1 (List.map cI l2)]∧zBU a_z n0 i1 l2=some r) (z9,0,(List.replicate (256:Int).toNat 0)) ⟨zAE [0,1] rfl rfl (by kernel_rfl),h⟩ ?_
  clear h
  rintro ⟨n0,i1,l2⟩ e' H' ⟨hrep,h⟩
  cases n0 with
  | zero=>exact absurd (show (none:Option _)=some r from h) (by simp)
  | succ n0 =>
   replace h:zE0 a_z (zBU a_z n0) i1 l2=some r:=h
   unfold zE0 at h
   refine zV hrep ?_
   clear hrep
   refine zI<|zI<|zC<|zA (zB rfl)<|zA (zCi rfl rfl)<|zF ?_
   refine zY h rfl (fun hb2 h => ?_) (fun hb2 h => ?_)
   ·refine zP ?_
    refine zx (fun e' H' => ∃ (l3:List Int),Rep 50 0 e' H' (mkE [(1,(AV.ptr 0 0)),(3,(AV.hd 1)),(4,(li i1))]) [.box 51 (zO a_z),.vec 3 1 (List.map cI l3)]∧zIX (zBU a_z n0) i1 l3=some r) ?_ ?_
    ·
     refine zQ<|zI<|zC<|zA (zD rfl)<|zF<|zQ ?_
     refine z6 (σ:=Nat×Int×(List Int)) (fun s=>s.1) (fun s e' H'=>match s with | (n1,i2,l4)=>Rep 50 0 e' H' (mkE [(1,(AV.ptr 0 0)),(3,(AV.hd 1)),(4,(li i1)),(5,(li i2))]) [.box 51 (zO a_z),.vec 3 1 (List.map cI l4)]∧zCo (zBU a_z n0) a_z i1 n1 i2 l4=some r) (z9,0,l2) ⟨zAE [0,1] rfl rfl (by kernel_rfl),h⟩ ?_
     clear h
     rintro ⟨n1,i2,l4⟩ e' H' ⟨hrep,h⟩
     cases n1 with
     | zero=>exact absurd (show (none:Option _)=some r from h) (by simp)
     | succ n1 =>
      replace h:zE6 (zBU a_z n0) a_z i1 (zCo (zBU a_z n0) a_z i1 n1) i2 l4=some r:=h
      unfold zE6 at h
      refine zV hrep ?_
      clear hrep
      refine zI<|zI<|zC<|zA (zB rfl)<|zA (zB rfl)<|zA (zK underlying51 rfl rfl sizeOf49 rfl) ?_
      refine zM h fun hb4 h=>zA (zAO (m:=5) (s:=1) (i:=i1) (k:=0) (o:=5) underlying49 sizeOf22 rfl rfl hb4)<|zA (zAr (k:=0) (o:=(5+i1.toNat*1)) (cs:=(zO a_z)) (hd:=([li a_z.node]++[li a_z.kind]++[li a_z.start]++[li a_z.count]++[li a_z.min]++[])) (tl:=([])) (g:=(eS cI)) (d0:=([]:List Int)) (l:=a_z.free) (N:=5) (i:=i1.toNat) (a:=(ls cI (a_z.free.getD i1.toNat ([]:List Int)))) isAgg22 rfl rfl rfl (congrArg (fun q=>5+q) (Nat.mul_one _)) (zBK hb4).2 rfl rfl)<|zA (zX underlying22 rfl)<|zA (ze rfl rfl)<|zF ?_
      refine zY h rfl (fun hb5 h => ?_) (fun hb5 h => ?_)
      ·refine zP ?_
       refine zx (fun e' H' => ∃ (l5:List Int),Rep 50 0 e' H' (mkE [(1,(AV.ptr 0 0)),(3,(AV.hd 1)),(4,(li i1)),(5,(li i2))]) [.box 51 (zO a_z),.vec 3 1 (List.map cI l5)]∧zIa (zCo (zBU a_z n0) a_z i1 n1) i2 l5=some r) ?_ ?_
       ·
        refine zQ<|zI<|zC<|zA (zB rfl)<|zA (zK underlying51 rfl rfl sizeOf49 rfl)<|zA (zAO (m:=5) (s:=1) (i:=i1) (k:=0) (o:=5) underlying49 sizeOf22 rfl rfl hb4) ?_
        refine zA (zAr (k:=0) (o:=(5+i1.toNat*1)) (cs:=(zO a_z)) (hd:=([li a_z.node]++[li a_z.kind]++[li a_z.start]++[li a_z.count]++[li a_z.min]++[])) (tl:=([])) (g:=(eS cI)) (d0:=([]:List Int)) (l:=a_z.free) (N:=5) (i:=i1.toNat) (a:=(ls cI (a_z.free.getD i1.toNat ([]:List Int)))) isAgg22 rfl rfl rfl (congrArg (fun q=>5+q) (Nat.mul_one _)) (zBK hb4).2 rfl rfl)<|zA (zB rfl)<|zM h fun hb7 h=>zA (zU underlying22 sizeOf3 (fun _=>rfl) rfl rfl hb7)<|zA (zW (o:=0) isAgg3 rfl rfl)<|zA (zD rfl) ?_
        refine zF<|zQ<|z6 (σ:=Nat×Int×(List Int)) (fun s=>s.1) (fun s e' H'=>match s with | (n2,i3,l6)=>Rep 50 0 e' H' (mkE [(1,(AV.ptr 0 0)),(3,(AV.hd 1)),(4,(li i1)),(5,(li i2)),(6,(li i3))]) [.box 51 (zO a_z),.vec 3 1 (List.map cI l6)]∧zHY (zCo (zBU a_z n0) a_z i1 n1) a_z i1 i2 n2 i3 l6=some r) (z9,(at_ (a_z.free.getD i1.toNat ([]:List Int)) i2),l4) ⟨zAE [0,1] rfl rfl (by kernel_rfl),h⟩ ?_
        clear h
        rintro ⟨n2,i3,l6⟩ e' H' ⟨hrep,h⟩
        cases n2 with
        | zero=>exact absurd (show (none:Option _)=some r from h) (by simp)
        | succ n2 =>
         replace h:zFJ (zCo (zBU a_z n0) a_z i1 n1) a_z i1 i2 (zHY (zCo (zBU a_z n0) a_z i1 n1) a_z i1 i2 n2) i3 l6=some r:=h
         unfold zFJ at h
         refine zV hrep ?_
         clear hrep
         refine zI<|zI<|zC<|zA (zB rfl)<|zA (zB rfl)<|zA (zK underlying51 rfl rfl sizeOf49 rfl) ?_
         refine zM h fun hb8 h=>zA (zAO (m:=5) (s:=1) (i:=i1) (k:=0) (o:=5) underlying49 sizeOf22 rfl rfl hb8)<|zA (zAr (k:=0) (o:=(5+i1.toNat*1)) (cs:=(zO a_z)) (hd:=([li a_z.node]++[li a_z.kind]++[li a_z.start]++[li a_z.count]++[li a_z.min]++[])) (tl:=([])) (g:=(eS cI)) (d0:=([]:List Int)) (l:=a_z.free) (N:=5) (i:=i1.toNat) (a:=(ls cI (a_z.free.getD i1.toNat ([]:List Int)))) isAgg22 rfl rfl rfl (congrArg (fun q=>5+q) (Nat.mul_one _)) (zBK hb8).2 rfl rfl)<|zA (zB rfl)<|zM h fun hb9 h=>zA (zU underlying22 sizeOf3 (fun _=>rfl) rfl rfl hb9) ?_
         refine zA (zW (o:=0) isAgg3 rfl rfl)<|zA (zB rfl)<|zM h fun hb10 h=>zA (zGX (k' := .u64) (a:=i1) underlying3 underlying74 rfl hb10)<|zM h fun hb11 h=>zM h fun hb12 h => ?_
         refine zA (zDI (a:=1) (b:=i1) rfl rfl hb11 hb12)<|zM h fun hb13 h=>zA (zf rfl rfl hb13)<|zA (ze rfl rfl)<|zF ?_
         refine zY h rfl (fun hb14 h => ?_) (fun hb14 h => ?_)
         ·refine zP<|zI<|zQ<|zC<|zA (zB rfl)<|zA (zB rfl) ?_
          refine zM h fun hb15 h=>zA (zAC (f:=cI) (l:=l6) (i:=i3) underlying22 sizeOf3 rfl rfl rfl hb15)<|zA (zBS (f:=cI) (l:=l6) (i:=i3) (c:=0) (a:=(li (at_ l6 i3))) isAgg3 rfl rfl (by first | rfl | omega) hb15 rfl rfl)<|zM h fun hb16 h=>zA (zf rfl rfl hb16)<|zA (zAC (f:=cI) (l:=l6) (i:=i3) underlying22 sizeOf3 rfl rfl rfl hb15) ?_
          refine zm (H':=[.box 51 (zO a_z),.vec 3 1 (List.map cI (l6.set i3.toNat ((at_ l6 i3)+1)))]) (zCJ (k:=1) (o:=(i3.toNat*1)) (f:=cI) (l:=l6) (i:=i3) (c:=0) (a:=(li ((at_ l6 i3)+1))) (z:=(at_ l6 i3)+1) sizeOf3 rfl rfl (by first | rfl | omega) hb15 rfl rfl rfl rfl rfl)<|zF<|zC<|zA (zB rfl)<|zM h fun hb17 h=>zA (zf rfl rfl hb17) ?_
          refine zA (zD rfl)<|zF ?_
          exact ⟨(n2,(i3+1),(l6.set i3.toNat ((at_ l6 i3)+1))),Nat.lt_succ_self _,zAE [0,1] rfl rfl (by kernel_rfl),h⟩
         ·refine zy ?_
          exact ⟨l6,zAE [0,1] rfl rfl (by kernel_rfl),h⟩
       ·
        clear h
        rintro e' H' ⟨l5,hrep,h⟩
        refine zV hrep ?_
        clear hrep
        unfold zIa at h
        refine zC<|zA (zB rfl)<|zM h fun hb6 h=>zA (zf rfl rfl hb6)<|zA (zD rfl)<|zF ?_
        exact ⟨(n1,(i2+1),l5),Nat.lt_succ_self _,zAE [0,1] rfl rfl (by kernel_rfl),h⟩
      ·refine zy ?_
       exact ⟨l4,zAE [0,1] rfl rfl (by kernel_rfl),h⟩
    ·
     clear h
     rintro e' H' ⟨l3,hrep,h⟩
     refine zV hrep ?_
     clear hrep
     unfold zIX at h
     refine zC<|zA (zB rfl)<|zM h fun hb3 h=>zA (zf rfl rfl hb3)<|zA (zD rfl)<|zF ?_
     exact ⟨(n0,(i1+1),l3),Nat.lt_succ_self _,zAE [0,1] rfl rfl (by kernel_rfl),h⟩
   ·refine zy ?_
    exact ⟨l2,zAE [1] rfl rfl (by kernel_rfl),h⟩
 ·
  clear h
  rintro e' H' ⟨l1,hrep,h⟩
  refine zV hrep ?_
  clear hrep
  unfold zJ1 at h
  refine zI<|zC<|zA (zB rfl)<|zA (zD rfl)<|zF<|zb ?_
  show zAQ _ _ _ _ _ _
  obtain rfl:=Option.some.inj h
  exact zu (zUO rfl rfl)
theorem zIn {a_p0:zp} {r:Int} (h:zF2 a_p0=some r):PFn prog 47 [(AV.agg (zO a_p0))] (li r):=by
 refine zq func47 rfl ntmps47 results47 rfl ?_
 unfold zF2 at h
 refine zI<|zC<|za (H':=[.box 51 (zO a_p0)]) (zw (t:=51) rfl)<|zA (zD rfl)<|zF<|zI ?_
 refine zI<|zC<|zA (zS (k:=0) (o:=0) (m:=10) isAgg51 sizeOf51 rfl rfl rfl rfl rfl)<|zR h fun x1 hx1 h=>zi func93 rfl (by kernel_rfl) (.fn 93) rfl rfl (zLq hx1) rfl<|zA (zA6 (t:=x1) rfl) ?_
 refine zF ?_
 refine zY h rfl (fun hb1 h => ?_) (fun hb1 h => ?_)
 ·refine zI<|zC<|zA (zD rfl)<|zF<|zb ?_
  show zAQ _ _ _ _ _ _
  obtain rfl:=Option.some.inj h
  exact zu (zAM rfl rfl)
 ·refine zP<|zI<|zI<|zC<|zA (zS (k:=0) (o:=0) (m:=10) isAgg51 sizeOf51 rfl rfl rfl rfl rfl)<|zR h fun x2 hx2 h => ?_
  refine zi func94 rfl (by kernel_rfl) (.fn 94) rfl rfl (zK9 hx2) rfl<|zA (zD rfl)<|zF<|zI<|zC<|zA (zB rfl) ?_
  refine zA (z7 rfl rfl)<|zF ?_
  refine zY h rfl (fun hb2 h => ?_) (fun hb2 h => ?_)
  ·refine zI<|zC<|zA (zB rfl)<|zA (zD rfl)<|zF<|zb ?_
   show zAQ _ _ _ _ _ _
   obtain rfl:=Option.some.inj h
   exact zu (zAM rfl rfl)
  ·refine zP<|zI<|zC<|zA (zS (k:=0) (o:=0) (m:=10) isAgg51 sizeOf51 rfl rfl rfl rfl rfl)<|zR h fun x3 hx3 h=>zHV (T:=3) (sz:=1) (rows:=List.map cI x3) (la:=[(AV.agg (zO a_p0))]) (la':=[(AV.agg (zO a_p0))]) (S:=[]) func95 rfl (by kernel_rfl) (.fn 95) rfl ⟨zAt.nr rfl,trivial⟩ (zKC hx3) (.inl rfl) ?_
   refine zA (zD rfl)<|zF ?_
   refine zx (fun e' H'=>Rep 76 0 e' H' (mkE [(1,(AV.ptr 0 0))]) [.box 51 (zO a_p0)]∧zEf a_p0=some r) ?_ ?_
   ·
    refine zI<|zC<|zA (zD rfl)<|zF<|zQ<|z6 (σ:=Nat×Int) (fun s=>s.1) (fun s e' H'=>match s with | (n2,i3)=>Rep 76 0 e' H' (mkE [(1,(AV.ptr 0 0)),(4,(AV.hd 1)),(5,(li i3))]) [.box 51 (zO a_p0),.vec 3 1 (List.map cI x3)]∧zBl a_p0 x3 n2 i3=some r) (z9,0) ⟨zAE [0,1] rfl rfl (by kernel_rfl),h⟩ ?_
    clear h
    rintro ⟨n2,i3⟩ e' H' ⟨hrep,h⟩
    cases n2 with
    | zero=>exact absurd (show (none:Option _)=some r from h) (by simp)
    | succ n2 =>
     replace h:zDZ a_p0 x3 (zBl a_p0 x3 n2) i3=some r:=h
     unfold zDZ at h
     refine zV hrep ?_
     clear hrep
     refine zI<|zI<|zC<|zA (zB rfl)<|zA (zB rfl)<|zA (zDx (f:=cI) (l:=x3) underlying22 rfl rfl) ?_
     refine zA (ze rfl rfl)<|zF ?_
     refine zY h rfl (fun hb17 h => ?_) (fun hb17 h => ?_)
     ·refine zP<|zI<|zQ<|zI<|zC<|zA (zB rfl) ?_
      refine zA (zB rfl)<|zM h fun hb18 h=>zA (zAC (f:=cI) (l:=x3) (i:=i3) underlying22 sizeOf3 rfl rfl rfl hb18)<|zA (zBS (f:=cI) (l:=x3) (i:=i3) (c:=0) (a:=(li (at_ x3 i3))) isAgg3 rfl rfl (by first | rfl | omega) hb18 rfl rfl)<|zA (zAl rfl rfl)<|zF ?_
      refine zY h rfl (fun hb19 h => ?_) (fun hb19 h => ?_)
      ·refine zI<|zC<|zA (zD rfl)<|zF<|zb ?_
       show zAQ _ _ _ _ _ _
       obtain rfl:=Option.some.inj h
       exact zu (zAM rfl rfl)
      ·refine zP<|zC<|zA (zB rfl)<|zM h fun hb20 h=>zA (zf rfl rfl hb20)<|zA (zD rfl) ?_
       refine zF ?_
       exact ⟨(n2,(i3+1)),Nat.lt_succ_self _,zAE [0,1] rfl rfl (by kernel_rfl),h⟩
     ·refine zy ?_
      exact ⟨zAE [0] rfl rfl (by kernel_rfl),h⟩
   ·
    clear h
    rintro e' H' ⟨hrep,h⟩
    refine zV hrep ?_
    clear hrep
    unfold zEf at h
    refine zx (fun e' H'=>Rep 76 0 e' H' (mkE []) []∧zIi  = some r) ?_ ?_
    ·
     refine zI<|zC<|zA (zD rfl)<|zF<|zQ<|z6 (σ:=Nat×Int) (fun s=>s.1) (fun s e' H'=>match s with | (n0,i1)=>Rep 76 0 e' H' (mkE [(1,(AV.ptr 0 0)),(6,(li i1))]) [.box 51 (zO a_p0)]∧zBk a_p0 n0 i1=some r) (z9,0) ⟨zAE [0] rfl rfl (by kernel_rfl),h⟩ ?_
     clear h
     rintro ⟨n0,i1⟩ e' H' ⟨hrep,h⟩
     cases n0 with
     | zero=>exact absurd (show (none:Option _)=some r from h) (by simp)
     | succ n0 =>
      replace h:zDU a_p0 (zBk a_p0 n0) i1=some r:=h
      unfold zDU at h
      refine zV hrep ?_
      clear hrep
      refine zI<|zI<|zC<|zA (zB rfl)<|zA (ze rfl rfl)<|zF ?_
      refine zY h rfl (fun hb3 h => ?_) (fun hb3 h => ?_)
      ·refine zP ?_
       refine zx (fun e' H'=>Rep 76 0 e' H' (mkE [(1,(AV.ptr 0 0)),(6,(li i1))]) [.box 51 (zO a_p0)]∧zHL (zBk a_p0 n0) i1=some r) ?_ ?_
       ·
        refine zQ<|zI<|zC<|zA (zD rfl)<|zF<|zQ ?_
        refine z6 (σ:=Nat×Int) (fun s=>s.1) (fun s e' H'=>match s with | (n1,i2)=>Rep 76 0 e' H' (mkE [(1,(AV.ptr 0 0)),(6,(li i1)),(7,(li i2))]) [.box 51 (zO a_p0)]∧zBj (zBk a_p0 n0) a_p0 i1 n1 i2=some r) (z9,1) ⟨zAE [0] rfl rfl (by kernel_rfl),h⟩ ?_
        clear h
        rintro ⟨n1,i2⟩ e' H' ⟨hrep,h⟩
        cases n1 with
        | zero=>exact absurd (show (none:Option _)=some r from h) (by simp)
        | succ n1 =>
         replace h:zDV (zBk a_p0 n0) a_p0 i1 (zBj (zBk a_p0 n0) a_p0 i1 n1) i2=some r:=h
         unfold zDV at h
         refine zV hrep ?_
         clear hrep
         refine zI<|zI<|zC<|zA (zB rfl)<|zA (zB rfl)<|zA (zK underlying51 rfl rfl sizeOf49 rfl) ?_
         refine zM h fun hb5 h=>zA (zAO (m:=5) (s:=1) (i:=i1) (k:=0) (o:=5) underlying49 sizeOf22 rfl rfl hb5)<|zA (zAr (k:=0) (o:=(5+i1.toNat*1)) (cs:=(zO a_p0)) (hd:=([li a_p0.node]++[li a_p0.kind]++[li a_p0.start]++[li a_p0.count]++[li a_p0.min]++[])) (tl:=([])) (g:=(eS cI)) (d0:=([]:List Int)) (l:=a_p0.free) (N:=5) (i:=i1.toNat) (a:=(ls cI (a_p0.free.getD i1.toNat ([]:List Int)))) isAgg22 rfl rfl rfl (congrArg (fun q=>5+q) (Nat.mul_one _)) (zBK hb5).2 rfl rfl)<|zA (zX underlying22 rfl)<|zA (ze rfl rfl)<|zF ?_
         refine zY h rfl (fun hb6 h => ?_) (fun hb6 h => ?_)
         ·refine zP<|zI<|zQ<|zI<|zM h fun hb7 h=>zM h fun hb8 h => ?_
          refine zM h fun hb9 h=>zM h fun hb10 h=>zM h fun hb11 h=>zM h fun hb12 h=>zM h fun hb13 h=>zM h fun hb14 h => ?_
          refine zR h fun x4 hx4 h => ?_
          show AW _ _ _ _ _ _ [.box 51 (zO a_p0)]
          refine zAx (n:=76) (m:=0) [.head 0 0,.head 0 0,.head 0 0,.head 0 0,.head 0 0,.head 0 0,.head 0 0,.head 0 0,.head 0 0,.head 0 0,.head 0 0,.head 0 0,.head 0 0,.head 0 0,.head 0 0,.head 0 0,.head 0 0,.head 0 0,.head 0 0,.head 0 0,.head 0 0,.head 0 0,.head 0 0,.head 0 0,.head 0 0,.head 0 0,.head 0 0,.head 0 0,.head 0 0,.head 0 0,.head 0 0,.head 0 0,.head 0 0,.head 0 0] [] [li i1,AV.ptr 0 5,(AV.ptr 0 (5+i1.toNat*1)),(ls cI (a_p0.free.getD i1.toNat ([]:List Int))),li i2,(AV.rp (cI (at_ (a_p0.free.getD i1.toNat ([]:List Int)) i2)) 0),(li (at_ (a_p0.free.getD i1.toNat ([]:List Int)) i2)),li i1,AV.ptr 0 5,(AV.ptr 0 (5+i1.toNat*1)),(ls cI (a_p0.free.getD i1.toNat ([]:List Int))),li i2,(li (i2 - 1)),(AV.rp (cI (at_ (a_p0.free.getD i1.toNat ([]:List Int)) (i2 - 1))) 0),(li (at_ (a_p0.free.getD i1.toNat ([]:List Int)) (i2 - 1))),li i1,(AV.lit (.int .u64 i1)),(li ((1:Int)*2 ^ i1.toNat)),(li ((at_ (a_p0.free.getD i1.toNat ([]:List Int)) (i2 - 1))+((1:Int)*2 ^ i1.toNat))),(AV.lit (.bool (decide ((at_ (a_p0.free.getD i1.toNat ([]:List Int)) i2)=((at_ (a_p0.free.getD i1.toNat ([]:List Int)) (i2 - 1))+((1:Int)*2 ^ i1.toNat)))))),(AV.lit (.bool (decide ((at_ (a_p0.free.getD i1.toNat ([]:List Int)) i2)=((at_ (a_p0.free.getD i1.toNat ([]:List Int)) (i2 - 1))+((1:Int)*2 ^ i1.toNat)))))),(bif decide ((at_ (a_p0.free.getD i1.toNat ([]:List Int)) i2)=((at_ (a_p0.free.getD i1.toNat ([]:List Int)) (i2 - 1))+((1:Int)*2 ^ i1.toNat))) then (AV.agg (zO a_p0)) else .lit undef),(bif decide ((at_ (a_p0.free.getD i1.toNat ([]:List Int)) i2)=((at_ (a_p0.free.getD i1.toNat ([]:List Int)) (i2 - 1))+((1:Int)*2 ^ i1.toNat))) then (li i1) else .lit undef),(bif decide ((at_ (a_p0.free.getD i1.toNat ([]:List Int)) i2)=((at_ (a_p0.free.getD i1.toNat ([]:List Int)) (i2 - 1))+((1:Int)*2 ^ i1.toNat))) then (AV.ptr 0 5) else .lit undef),(bif decide ((at_ (a_p0.free.getD i1.toNat ([]:List Int)) i2)=((at_ (a_p0.free.getD i1.toNat ([]:List Int)) (i2 - 1))+((1:Int)*2 ^ i1.toNat))) then (AV.ptr 0 (5+i1.toNat*1)) else .lit undef),(bif decide ((at_ (a_p0.free.getD i1.toNat ([]:List Int)) i2)=((at_ (a_p0.free.getD i1.toNat ([]:List Int)) (i2 - 1))+((1:Int)*2 ^ i1.toNat))) then (ls cI (a_p0.free.getD i1.toNat ([]:List Int))) else .lit undef),(bif decide ((at_ (a_p0.free.getD i1.toNat ([]:List Int)) i2)=((at_ (a_p0.free.getD i1.toNat ([]:List Int)) (i2 - 1))+((1:Int)*2 ^ i1.toNat))) then (li i2) else .lit undef),(bif decide ((at_ (a_p0.free.getD i1.toNat ([]:List Int)) i2)=((at_ (a_p0.free.getD i1.toNat ([]:List Int)) (i2 - 1))+((1:Int)*2 ^ i1.toNat))) then (li (i2 - 1)) else .lit undef),(bif decide ((at_ (a_p0.free.getD i1.toNat ([]:List Int)) i2)=((at_ (a_p0.free.getD i1.toNat ([]:List Int)) (i2 - 1))+((1:Int)*2 ^ i1.toNat))) then (AV.rp (cI (at_ (a_p0.free.getD i1.toNat ([]:List Int)) (i2 - 1))) 0) else .lit undef),(bif decide ((at_ (a_p0.free.getD i1.toNat ([]:List Int)) i2)=((at_ (a_p0.free.getD i1.toNat ([]:List Int)) (i2 - 1))+((1:Int)*2 ^ i1.toNat))) then (li (at_ (a_p0.free.getD i1.toNat ([]:List Int)) (i2 - 1))) else .lit undef),(bif decide ((at_ (a_p0.free.getD i1.toNat ([]:List Int)) i2)=((at_ (a_p0.free.getD i1.toNat ([]:List Int)) (i2 - 1))+((1:Int)*2 ^ i1.toNat))) then (li i1) else .lit undef),(bif decide ((at_ (a_p0.free.getD i1.toNat ([]:List Int)) i2)=((at_ (a_p0.free.getD i1.toNat ([]:List Int)) (i2 - 1))+((1:Int)*2 ^ i1.toNat))) then (li (i1+1)) else .lit undef),(bif decide ((at_ (a_p0.free.getD i1.toNat ([]:List Int)) i2)=((at_ (a_p0.free.getD i1.toNat ([]:List Int)) (i2 - 1))+((1:Int)*2 ^ i1.toNat))) then (AV.lit (.bool x4)) else .lit undef),(AV.lit (.bool ((decide ((at_ (a_p0.free.getD i1.toNat ([]:List Int)) i2)=((at_ (a_p0.free.getD i1.toNat ([]:List Int)) (i2 - 1))+((1:Int)*2 ^ i1.toNat))))&&x4)))] [[.box 51 (zO a_p0)]] (by kernel_rfl) (by kernel_rfl) ⟨?_,?_,?_,?_,?_,?_,?_,?_,?_,?_,?_,?_,?_,?_,?_,?_,?_,?_,?_,?_,?_,?_,?_,?_,?_,?_,?_,?_,?_,?_,?_,?_,?_,?_,trivial⟩ ?_
          ·exact D1 fun e s p=>zB (s 6 rfl)
          ·exact D1 fun e s p=>zK (k:=0) (o:=0) (off:=5) underlying51 rfl rfl sizeOf49 (s 1 rfl)
          ·exact D1 fun e s p=>zAO (m:=5) (s:=1) (i:=i1) (k:=0) (o:=5) underlying49 sizeOf22 p.1 p.2.1 hb5
          ·exact D1 fun e s p=>zAr (k:=0) (o:=(5+i1.toNat*1)) (cs:=(zO a_p0)) (hd:=([li a_p0.node]++[li a_p0.kind]++[li a_p0.start]++[li a_p0.count]++[li a_p0.min]++[])) (tl:=([])) (g:=(eS cI)) (d0:=([]:List Int)) (l:=a_p0.free) (N:=5) (i:=i1.toNat) (a:=(ls cI (a_p0.free.getD i1.toNat ([]:List Int)))) isAgg22 p.1 rfl rfl (congrArg (fun q=>5+q) (Nat.mul_one _)) (zBK hb5).2 rfl rfl
          ·exact D1 fun e s p=>zB (s 7 rfl)
          ·exact D1 fun e s p=>zU (f:=cI) (l:=a_p0.free.getD i1.toNat ([]:List Int)) (i:=i2) underlying22 sizeOf3 (fun _=>rfl) p.1 p.2.1 hb7
          ·exact D1 fun e s p=>zW (o:=0) isAgg3 p.1 rfl
          ·exact D1 fun e s p=>zB (s 6 rfl)
          ·exact D1 fun e s p=>zK (k:=0) (o:=0) (off:=5) underlying51 rfl rfl sizeOf49 (s 1 rfl)
          ·exact D1 fun e s p=>zAO (m:=5) (s:=1) (i:=i1) (k:=0) (o:=5) underlying49 sizeOf22 p.1 p.2.1 hb5
          ·exact D1 fun e s p=>zAr (k:=0) (o:=(5+i1.toNat*1)) (cs:=(zO a_p0)) (hd:=([li a_p0.node]++[li a_p0.kind]++[li a_p0.start]++[li a_p0.count]++[li a_p0.min]++[])) (tl:=([])) (g:=(eS cI)) (d0:=([]:List Int)) (l:=a_p0.free) (N:=5) (i:=i1.toNat) (a:=(ls cI (a_p0.free.getD i1.toNat ([]:List Int)))) isAgg22 p.1 rfl rfl (congrArg (fun q=>5+q) (Nat.mul_one _)) (zBK hb5).2 rfl rfl
          ·exact D1 fun e s p=>zB (s 7 rfl)
          ·exact D1 fun e s p=>zB8 (a:=i2) (b:=1) p.1 rfl hb8
          ·exact D1 fun e s p=>zU (f:=cI) (l:=a_p0.free.getD i1.toNat ([]:List Int)) (i:=i2 - 1) underlying22 sizeOf3 (fun _=>rfl) p.1 p.2.1 hb9
          ·exact D1 fun e s p=>zW (o:=0) isAgg3 p.1 rfl
          ·exact D1 fun e s p=>zB (s 6 rfl)
          ·exact D1 fun e s p=>zGX (k' := .u64) (a:=i1) underlying3 underlying74 p.1 hb10
          ·exact D1 fun e s p=>zDI (a:=1) (b:=i1) rfl p.1 hb11 hb12
          ·exact D1 fun e s p=>zf (a:=at_ (a_p0.free.getD i1.toNat ([]:List Int)) (i2 - 1)) (b:=(1:Int)*2 ^ i1.toNat) p.1 p.2.1 hb13
          ·exact D1 fun e s p=>zBR (a:=at_ (a_p0.free.getD i1.toNat ([]:List Int)) i2) (b:=(at_ (a_p0.free.getD i1.toNat ([]:List Int)) (i2 - 1))+((1:Int)*2 ^ i1.toNat)) p.1 p.2.1
          ·exact D1 fun e s p=>zB p.1
          ·
           intro e22 hs22 hp22
           refine zo (g:=62) (s:=decide ((at_ (a_p0.free.getD i1.toNat ([]:List Int)) i2)=((at_ (a_p0.free.getD i1.toNat ([]:List Int)) (i2 - 1))+((1:Int)*2 ^ i1.toNat)))) rfl hp22.1 (fun hc13=>zt.step (zS (k:=0) (o:=0) (m:=10) (la:=(zO a_p0)) isAgg51 sizeOf51 (hs22 1 rfl) rfl rfl rfl rfl)) ?_
           exact zF ⟨fun _=>rfl,rfl⟩
          ·
           intro e23 hs23 hp23
           refine zo (g:=62) (s:=decide ((at_ (a_p0.free.getD i1.toNat ([]:List Int)) i2)=((at_ (a_p0.free.getD i1.toNat ([]:List Int)) (i2 - 1))+((1:Int)*2 ^ i1.toNat)))) rfl hp23.1 (fun hc14=>zt.step (zB (av:=(li i1)) (hs23 6 rfl))) ?_
           exact zF ⟨fun _=>rfl,rfl⟩
          ·
           intro e24 hs24 hp24
           refine zo (g:=62) (s:=decide ((at_ (a_p0.free.getD i1.toNat ([]:List Int)) i2)=((at_ (a_p0.free.getD i1.toNat ([]:List Int)) (i2 - 1))+((1:Int)*2 ^ i1.toNat)))) rfl hp24.1 (fun hc15=>zt.step (zK (k:=0) (o:=0) (off:=5) underlying51 rfl rfl sizeOf49 (hs24 1 rfl))) ?_
           exact zF ⟨fun _=>rfl,rfl⟩
          ·
           intro e25 hs25 hp25
           refine zo (g:=62) (s:=decide ((at_ (a_p0.free.getD i1.toNat ([]:List Int)) i2)=((at_ (a_p0.free.getD i1.toNat ([]:List Int)) (i2 - 1))+((1:Int)*2 ^ i1.toNat)))) rfl hp25.2.2.1 (fun hc16=>zt.step (zAO (m:=5) (s:=1) (i:=i1) (k:=0) (o:=5) underlying49 sizeOf22 (z5 hp25.1 hc16) (z5 hp25.2.1 hc16) hb5)) ?_
           exact zF ⟨fun _=>rfl,rfl⟩
          ·
           intro e26 hs26 hp26
           refine zo (g:=62) (s:=decide ((at_ (a_p0.free.getD i1.toNat ([]:List Int)) i2)=((at_ (a_p0.free.getD i1.toNat ([]:List Int)) (i2 - 1))+((1:Int)*2 ^ i1.toNat)))) rfl hp26.2.1 (fun hc17=>zt.step (zAr (k:=0) (o:=(5+i1.toNat*1)) (cs:=(zO a_p0)) (hd:=([li a_p0.node]++[li a_p0.kind]++[li a_p0.start]++[li a_p0.count]++[li a_p0.min]++[])) (tl:=([])) (g:=(eS cI)) (d0:=([]:List Int)) (l:=a_p0.free) (N:=5) (i:=i1.toNat) (a:=(ls cI (a_p0.free.getD i1.toNat ([]:List Int)))) isAgg22 (z5 hp26.1 hc17) rfl rfl (congrArg (fun q=>5+q) (Nat.mul_one _)) (zBK hb5).2 rfl rfl)) ?_
           exact zF ⟨fun _=>rfl,rfl⟩
          ·
           intro e27 hs27 hp27
           refine zo (g:=62) (s:=decide ((at_ (a_p0.free.getD i1.toNat ([]:List Int)) i2)=((at_ (a_p0.free.getD i1.toNat ([]:List Int)) (i2 - 1))+((1:Int)*2 ^ i1.toNat)))) rfl hp27.1 (fun hc18=>zt.step (zB (av:=(li i2)) (hs27 7 rfl))) ?_
           exact zF ⟨fun _=>rfl,rfl⟩
          ·
           intro e28 hs28 hp28
           refine zo (g:=62) (s:=decide ((at_ (a_p0.free.getD i1.toNat ([]:List Int)) i2)=((at_ (a_p0.free.getD i1.toNat ([]:List Int)) (i2 - 1))+((1:Int)*2 ^ i1.toNat)))) rfl hp28.2.1 (fun hc19=>zt.step (zB8 (a:=i2) (b:=1) (z5 hp28.1 hc19) rfl hb8)) ?_
           exact zF ⟨fun _=>rfl,rfl⟩
          ·
           intro e29 hs29 hp29
           refine zo (g:=62) (s:=decide ((at_ (a_p0.free.getD i1.toNat ([]:List Int)) i2)=((at_ (a_p0.free.getD i1.toNat ([]:List Int)) (i2 - 1))+((1:Int)*2 ^ i1.toNat)))) rfl hp29.2.2.1 (fun hc20=>zt.step (zU (f:=cI) (l:=a_p0.free.getD i1.toNat ([]:List Int)) (i:=i2 - 1) underlying22 sizeOf3 (fun _=>rfl) (z5 hp29.1 hc20) (z5 hp29.2.1 hc20) hb9)) ?_
           exact zF ⟨fun _=>rfl,rfl⟩
          ·
           intro e30 hs30 hp30
           refine zo (g:=62) (s:=decide ((at_ (a_p0.free.getD i1.toNat ([]:List Int)) i2)=((at_ (a_p0.free.getD i1.toNat ([]:List Int)) (i2 - 1))+((1:Int)*2 ^ i1.toNat)))) rfl hp30.2.1 (fun hc21=>zt.step (zW (row:=(cI (at_ (a_p0.free.getD i1.toNat ([]:List Int)) (i2 - 1)))) (o:=0) (a:=(li (at_ (a_p0.free.getD i1.toNat ([]:List Int)) (i2 - 1)))) isAgg3 (z5 hp30.1 hc21) rfl)) ?_
           exact zF ⟨fun _=>rfl,rfl⟩
          ·
           intro e31 hs31 hp31
           refine zo (g:=62) (s:=decide ((at_ (a_p0.free.getD i1.toNat ([]:List Int)) i2)=((at_ (a_p0.free.getD i1.toNat ([]:List Int)) (i2 - 1))+((1:Int)*2 ^ i1.toNat)))) rfl hp31.1 (fun hc22=>zt.step (zB (av:=(li i1)) (hs31 6 rfl))) ?_
           exact zF ⟨fun _=>rfl,rfl⟩
          ·
           intro e32 hs32 hp32
           refine zo (g:=62) (s:=decide ((at_ (a_p0.free.getD i1.toNat ([]:List Int)) i2)=((at_ (a_p0.free.getD i1.toNat ([]:List Int)) (i2 - 1))+((1:Int)*2 ^ i1.toNat)))) rfl hp32.2.1 (fun hc23=>zt.step (zf (a:=i1) (b:=1) (z5 hp32.1 hc23) rfl (zGd hb14 hc23))) ?_
           exact zF ⟨fun _=>rfl,rfl⟩
          ·
           intro e33 hs33 hp33
           refine zCp (g:=62) (s:=decide ((at_ (a_p0.free.getD i1.toNat ([]:List Int)) i2)=((at_ (a_p0.free.getD i1.toNat ([]:List Int)) (i2 - 1))+((1:Int)*2 ^ i1.toNat)))) (r':=(AV.lit (.bool x4))) rfl hp33.2.2.2.2.1 (fun hc24=>⟨72,_,_,[],[(AV.agg (zO a_p0)),(li (at_ (a_p0.free.getD i1.toNat ([]:List Int)) (i2 - 1))),(li (i1+1))],[(AV.agg (zO a_p0)),(li (at_ (a_p0.free.getD i1.toNat ([]:List Int)) (i2 - 1))),(li (i1+1))],(AV.lit (.bool x4)),[],func72,rfl,by kernel_rfl,.fn 72,(zAK (z5 hp33.1 hc24) (zAK (z5 hp33.2.1 hc24) (zAK (z5 hp33.2.2.1 hc24) rfl))),⟨zAt.nr rfl,zAt.nr rfl,zAt.nr rfl,trivial⟩,zFk (zF3 hc24 hx4),.inl rfl,rfl⟩) ?_
           exact zF ⟨fun _=>rfl,rfl⟩
          ·exact D1 fun e s p=>zz (s:=decide ((at_ (a_p0.free.getD i1.toNat ([]:List Int)) i2)=((at_ (a_p0.free.getD i1.toNat ([]:List Int)) (i2 - 1))+((1:Int)*2 ^ i1.toNat)))) (q:=x4) (j := .lit undef) p.1 p.2.1
          intro e35 hs35 hq1
          refine zV (zBY (l:=[(1,(AV.ptr 0 0)),(6,(li i1)),(7,(li i2)),(75,(AV.lit (.bool ((decide ((at_ (a_p0.free.getD i1.toNat ([]:List Int)) i2)=((at_ (a_p0.free.getD i1.toNat ([]:List Int)) (i2 - 1))+((1:Int)*2 ^ i1.toNat))))&&x4))))]) ⟨hs35 1 rfl,hs35 6 rfl,hs35 7 rfl,(hq1 33 (by decide) (by decide)),trivial⟩) ?_
          refine zY h rfl (fun hb15 h => ?_) (fun hb15 h => ?_)
          ·refine zI<|zC<|zA (zD rfl)<|zF<|zb ?_
           show zAQ _ _ _ _ _ _
           obtain rfl:=Option.some.inj h
           exact zu (zAM rfl rfl)
          ·refine zP<|zC<|zA (zB rfl)<|zM h fun hb16 h=>zA (zf rfl rfl hb16)<|zA (zD rfl) ?_
           refine zF ?_
           exact ⟨(n1,(i2+1)),Nat.lt_succ_self _,zAE [0] rfl rfl (by kernel_rfl),h⟩
         ·refine zy ?_
          exact ⟨zAE [0] rfl rfl (by kernel_rfl),h⟩
       ·
        clear h
        rintro e' H' ⟨hrep,h⟩
        refine zV hrep ?_
        clear hrep
        unfold zHL at h
        refine zC<|zA (zB rfl)<|zM h fun hb4 h=>zA (zf rfl rfl hb4)<|zA (zD rfl)<|zF ?_
        exact ⟨(n0,(i1+1)),Nat.lt_succ_self _,zAE [0] rfl rfl (by kernel_rfl),h⟩
      ·refine zy ?_
       exact ⟨zAE [] rfl rfl (by kernel_rfl),h⟩
    ·
     clear h
     rintro e' H' ⟨hrep,h⟩
     refine zV hrep ?_
     clear hrep
     unfold zIi at h
     refine zI<|zC<|zA (zD rfl)<|zF<|zb ?_
     show zAQ _ _ _ _ _ _
     obtain rfl:=Option.some.inj h
     exact zu (zAM rfl rfl)
theorem zJa {a_f:Int} {r:Bool} (h:zDH a_f=some r):PFn prog 123 [li a_f] (AV.lit (.bool r)):=by
 refine zq func123 rfl ntmps123 results123 rfl ?_
 unfold zDH at h
 refine zI<|zC<|zA (zD rfl)<|zF<|zI<|zC ?_
 refine zA (zB rfl)<|zA (ze rfl rfl)<|zA (zB rfl)<|zT rfl rfl (fun hc1=>zt.step (zB rfl))<|zT rfl rfl (fun hc2=>zt.step (zAp (z5 rfl hc2) rfl))<|zA (zd rfl rfl) ?_
 refine zA (zD rfl)<|zF<|zb ?_
 show zAQ _ _ _ _ _ _
 obtain rfl:=Option.some.inj h
 exact zu (zAM rfl rfl)
theorem zKR {a_p0:zL} {a_p1:Int} {r:Int} (h:zG7 a_p0 a_p1=some r):PFn prog 96 [(AV.agg (zH a_p0)),li a_p1] (li r):=by
 refine zq func96 rfl ntmps96 results96 rfl ?_
 unfold zG7 at h
 refine zI<|zC<|za (H':=[.box 55 (zH a_p0)]) (zw (t:=55) rfl)<|zA (zD rfl)<|zF<|zI ?_
 refine zI<|zC<|zA (zB rfl)<|zA (ze rfl rfl)<|zA (zB rfl)<|zT rfl rfl (fun hc1=>zt.step (zB rfl)) ?_
 refine zT rfl rfl (fun hc2=>zt.step (zAl (z5 rfl hc2) rfl))<|zA (zd rfl rfl)<|zF ?_
 refine zY h rfl (fun hb1 h => ?_) (fun hb1 h => ?_)
 ·refine zI<|zC<|zA (zD rfl)<|zF<|zb ?_
  show zAQ _ _ _ _ _ _
  obtain rfl:=Option.some.inj h
  exact zu (zAM rfl rfl)
 ·refine zP<|zI<|zI<|zC<|zA (zK underlying55 rfl rfl sizeOf53 rfl)<|zA (zN isAgg53 rfl rfl rfl rfl) ?_
  refine zA (zX underlying53 rfl)<|zA (zB rfl)<|zA (z7 rfl rfl)<|zF ?_
  refine zY h rfl (fun hb2 h => ?_) (fun hb2 h => ?_)
  ·refine zI<|zC<|zA (zD rfl)<|zF<|zb ?_
   show zAQ _ _ _ _ _ _
   obtain rfl:=Option.some.inj h
   exact zu (zAM rfl rfl)
  ·refine zP ?_
   refine zx (fun e' H'=>Rep 65 0 e' H' (mkE [(2,(AV.ptr 0 0))]) [.box 55 (zH a_p0)]∧zFq a_p0=some r) ?_ ?_
   ·
    refine zI<|zC<|zA (zK underlying55 rfl rfl sizeOf53 rfl)<|zA (zN isAgg53 rfl rfl rfl rfl)<|zA (zX underlying53 rfl)<|zA (zB rfl) ?_
    refine zF<|zQ<|z6 (σ:=Nat×Int) (fun s=>s.1) (fun s e' H'=>match s with | (n2,i3)=>Rep 65 0 e' H' (mkE [(2,(AV.ptr 0 0)),(26,(ls (cS cI) a_p0.lists)),(27,(li (a_p0.lists.length:Int))),(28,(li i3))]) [.box 55 (zH a_p0)]∧zCK a_p0 n2 i3=some r) (z9,0) ⟨zAE [0] rfl rfl (by kernel_rfl),h⟩ ?_
    clear h
    rintro ⟨n2,i3⟩ e' H' ⟨hrep,h⟩
    cases n2 with
    | zero=>exact absurd (show (none:Option _)=some r from h) (by simp)
    | succ n2 =>
     replace h:zDS a_p0 (zCK a_p0 n2) i3=some r:=h
     unfold zDS at h
     refine zV hrep ?_
     clear hrep
     refine zI<|zC<|zA (ze rfl rfl)<|zF<|zI ?_
     refine zY h rfl (fun hb12 h => ?_) (fun hb12 h => ?_)
     ·refine zP ?_
      refine zx (fun e' H'=>Rep 65 0 e' H' (mkE [(2,(AV.ptr 0 0)),(26,(ls (cS cI) a_p0.lists)),(27,(li (a_p0.lists.length:Int))),(28,(li i3))]) [.box 55 (zH a_p0)]∧zHJ (zCK a_p0 n2) i3=some r) ?_ ?_
      ·
       refine zQ<|zI<|zC<|zM h fun hb14 h=>zA (zU underlying53 sizeOf22 (fun _=>rfl) rfl rfl hb14)<|zA (zW (o:=0) isAgg22 rfl rfl) ?_
       refine zA (zD rfl)<|zF<|zI<|zC<|zA (zB rfl)<|zA (zX underlying22 rfl) ?_
       refine zA (zB rfl)<|zF<|zQ<|z6 (σ:=Nat×Int) (fun s=>s.1) (fun s e' H'=>match s with | (n3,i4)=>Rep 65 0 e' H' (mkE [(2,(AV.ptr 0 0)),(26,(ls (cS cI) a_p0.lists)),(27,(li (a_p0.lists.length:Int))),(28,(li i3)),(32,(ls cI (at_ a_p0.lists i3))),(33,(li ((at_ a_p0.lists i3).length:Int))),(34,(li i4))]) [.box 55 (zH a_p0)]∧zFm (zCK a_p0 n2) a_p0 i3 n3 i4=some r) (z9,0) ⟨zAE [0] rfl rfl (by kernel_rfl),h⟩ ?_
       clear h
       rintro ⟨n3,i4⟩ e' H' ⟨hrep,h⟩
       cases n3 with
       | zero=>exact absurd (show (none:Option _)=some r from h) (by simp)
       | succ n3 =>
        replace h:zDa (zCK a_p0 n2) a_p0 i3 (zFm (zCK a_p0 n2) a_p0 i3 n3) i4=some r:=h
        unfold zDa at h
        refine zV hrep ?_
        clear hrep
        refine zI<|zC<|zA (ze rfl rfl)<|zF<|zI ?_
        refine zY h rfl (fun hb15 h => ?_) (fun hb15 h => ?_)
        ·refine zP<|zI<|zQ<|zI<|zC<|zM h fun hb16 h => ?_
         refine zA (zU underlying22 sizeOf3 (fun _=>rfl) rfl rfl hb16)<|zA (zW (o:=0) isAgg3 rfl rfl)<|zA (zD rfl)<|zF<|zI<|zC ?_
         refine zA (zB rfl)<|zR h fun x1 hx1 h=>zi func123 rfl (by kernel_rfl) (.fn 123) rfl rfl (zJa hx1) rfl<|zF ?_
         refine zY h rfl (fun hb17 h => ?_) (fun hb17 h => ?_)
         ·refine zI<|zC<|zA (zD rfl)<|zF<|zb ?_
          show zAQ _ _ _ _ _ _
          obtain rfl:=Option.some.inj h
          exact zu (zAM rfl rfl)
         ·refine zP<|zC<|zM h fun hb18 h=>zA (zf rfl rfl hb18)<|zA (zB rfl)<|zF ?_
          exact ⟨(n3,(i4+1)),Nat.lt_succ_self _,zAE [0] rfl rfl (by kernel_rfl),h⟩
        ·refine zy ?_
         exact ⟨zAE [0] rfl rfl (by kernel_rfl),h⟩
      ·
       clear h
       rintro e' H' ⟨hrep,h⟩
       refine zV hrep ?_
       clear hrep
       unfold zHJ at h
       refine zC<|zM h fun hb13 h=>zA (zf rfl rfl hb13)<|zA (zB rfl)<|zF ?_
       exact ⟨(n2,(i3+1)),Nat.lt_succ_self _,zAE [0] rfl rfl (by kernel_rfl),h⟩
     ·refine zy ?_
      exact ⟨zAE [0] rfl rfl (by kernel_rfl),h⟩
   ·
    clear h
    rintro e' H' ⟨hrep,h⟩
    refine zV hrep ?_
    clear hrep
    unfold zFq at h
    refine zI<|zC<|zM h fun hb3 h=>zDy (f:=cB) (a:=256) (c:=256) (d0:=false) zUT ⟨zh.refl _,trivial⟩ rfl underlying121 rfl rfl hb3<|zA (zD rfl)<|zF ?_
    refine zx (fun e' H'=>Rep 65 0 e' H' (mkE []) []∧zIf  = some r) ?_ ?_
    ·
     refine zI<|zC<|zA (zK underlying55 rfl rfl sizeOf53 rfl)<|zA (zN isAgg53 rfl rfl rfl rfl)<|zA (zX underlying53 rfl)<|zA (zB rfl) ?_
     refine zF<|zQ<|z6 (σ:=Nat×Int×(List Bool)) (fun s=>s.1) (fun s e' H'=>match s with | (n0,i1,l1)=>Rep 65 0 e' H' (mkE [(9,(AV.hd 0)),(44,(ls (cS cI) a_p0.lists)),(45,(li (a_p0.lists.length:Int))),(46,(li i1))]) [.vec 4 1 (List.map cB l1)]∧zCN a_p0 n0 i1 l1=some r) (z9,0,(List.replicate (256:Int).toNat false)) ⟨zAE [1] rfl rfl (by kernel_rfl),h⟩ ?_
     clear h
     rintro ⟨n0,i1,l1⟩ e' H' ⟨hrep,h⟩
     cases n0 with
     | zero=>exact absurd (show (none:Option _)=some r from h) (by simp)
     | succ n0 =>
      replace h:zDc a_p0 (zCN a_p0 n0) i1 l1=some r:=h
      unfold zDc at h
      refine zV hrep ?_
      clear hrep
      refine zI<|zC<|zA (ze rfl rfl)<|zF<|zI ?_
      refine zY h rfl (fun hb4 h => ?_) (fun hb4 h => ?_)
      ·refine zP ?_
       refine zx (fun e' H' => ∃ (l2:List Bool),Rep 65 0 e' H' (mkE [(9,(AV.hd 0)),(44,(ls (cS cI) a_p0.lists)),(45,(li (a_p0.lists.length:Int))),(46,(li i1))]) [.vec 4 1 (List.map cB l2)]∧zHN (zCN a_p0 n0) i1 l2=some r) ?_ ?_
       ·
        refine zQ<|zI<|zC<|zM h fun hb6 h=>zA (zU underlying53 sizeOf22 (fun _=>rfl) rfl rfl hb6)<|zA (zW (o:=0) isAgg22 rfl rfl) ?_
        refine zA (zD rfl)<|zF<|zI<|zC<|zA (zB rfl)<|zA (zX underlying22 rfl) ?_
        refine zA (zB rfl)<|zF<|zQ<|z6 (σ:=Nat×Int×(List Bool)) (fun s=>s.1) (fun s e' H'=>match s with | (n1,i2,l3)=>Rep 65 0 e' H' (mkE [(9,(AV.hd 0)),(44,(ls (cS cI) a_p0.lists)),(45,(li (a_p0.lists.length:Int))),(46,(li i1)),(50,(ls cI (at_ a_p0.lists i1))),(51,(li ((at_ a_p0.lists i1).length:Int))),(52,(li i2))]) [.vec 4 1 (List.map cB l3)]∧zFh (zCN a_p0 n0) a_p0 i1 n1 i2 l3=some r) (z9,0,l1) ⟨zAE [0] rfl rfl (by kernel_rfl),h⟩ ?_
        clear h
        rintro ⟨n1,i2,l3⟩ e' H' ⟨hrep,h⟩
        cases n1 with
        | zero=>exact absurd (show (none:Option _)=some r from h) (by simp)
        | succ n1 =>
         replace h:zDd (zCN a_p0 n0) a_p0 i1 (zFh (zCN a_p0 n0) a_p0 i1 n1) i2 l3=some r:=h
         unfold zDd at h
         refine zV hrep ?_
         clear hrep
         refine zI<|zC<|zA (ze rfl rfl)<|zF<|zI ?_
         refine zY h rfl (fun hb7 h => ?_) (fun hb7 h => ?_)
         ·refine zP<|zI<|zQ<|zI<|zC<|zM h fun hb8 h => ?_
          refine zA (zU underlying22 sizeOf3 (fun _=>rfl) rfl rfl hb8)<|zA (zW (o:=0) isAgg3 rfl rfl)<|zA (zD rfl)<|zF<|zI<|zI ?_
          refine zC<|zA (zB rfl)<|zA (zB rfl)<|zM h fun hb9 h=>zA (zAC (f:=cB) (l:=l3) (i:=at_ (at_ a_p0.lists i1) i2) underlying121 sizeOf4 rfl rfl rfl hb9)<|zA (zBS (f:=cB) (l:=l3) (i:=at_ (at_ a_p0.lists i1) i2) (c:=0) (a:=(AV.lit (.bool (at_ l3 (at_ (at_ a_p0.lists i1) i2))))) isAgg4 rfl rfl (by first | rfl | omega) hb9 rfl rfl) ?_
          refine zF ?_
          refine zY h rfl (fun hb10 h => ?_) (fun hb10 h => ?_)
          ·refine zI<|zC<|zA (zD rfl)<|zF<|zb ?_
           show zAQ _ _ _ _ _ _
           obtain rfl:=Option.some.inj h
           exact zu (zAM rfl rfl)
          ·refine zP<|zC<|zA (zB rfl)<|zA (zB rfl)<|zA (zAC (f:=cB) (l:=l3) (i:=at_ (at_ a_p0.lists i1) i2) underlying121 sizeOf4 rfl rfl rfl hb9)<|zm (H':=[.vec 4 1 (List.map cB (l3.set (at_ (at_ a_p0.lists i1) i2).toNat true))]) (zCJ (k:=0) (o:=((at_ (at_ a_p0.lists i1) i2).toNat*1)) (f:=cB) (l:=l3) (i:=at_ (at_ a_p0.lists i1) i2) (c:=0) (a:=(AV.lit (.bool true))) (z:=true) sizeOf4 rfl rfl (by first | rfl | omega) hb9 rfl rfl rfl rfl rfl) ?_
           refine zF<|zC<|zM h fun hb11 h=>zA (zf rfl rfl hb11)<|zA (zB rfl)<|zF ?_
           exact ⟨(n1,(i2+1),(l3.set (at_ (at_ a_p0.lists i1) i2).toNat true)),Nat.lt_succ_self _,zAE [0] rfl rfl (by kernel_rfl),h⟩
         ·refine zy ?_
          exact ⟨l3,zAE [0] rfl rfl (by kernel_rfl),h⟩
       ·
        clear h
        rintro e' H' ⟨l2,hrep,h⟩
        refine zV hrep ?_
        clear hrep
        unfold zHN at h
        refine zC<|zM h fun hb5 h=>zA (zf rfl rfl hb5)<|zA (zB rfl)<|zF ?_
        exact ⟨(n0,(i1+1),l2),Nat.lt_succ_self _,zAE [0] rfl rfl (by kernel_rfl),h⟩
      ·refine zy ?_
       exact ⟨zAE [] rfl rfl (by kernel_rfl),h⟩
    ·
     clear h
     rintro e' H' ⟨hrep,h⟩
     refine zV hrep ?_
     clear hrep
     unfold zIf at h
     refine zI<|zC<|zA (zD rfl)<|zF<|zb ?_
     show zAQ _ _ _ _ _ _
     obtain rfl:=Option.some.inj h
     exact zu (zAM rfl rfl)
theorem zJy {a_z:zp} {a_frame:Int} {r:Bool} (h:zF4 a_z a_frame=some r):PFn prog 98 [(AV.agg (zO a_z)),li a_frame] (AV.lit (.bool r)):=by
 refine zq func98 rfl ntmps98 results98 rfl ?_
 unfold zF4 at h
 refine zI<|zC<|za (H':=[.box 51 (zO a_z)]) (zw (t:=51) rfl)<|zA (zD rfl)<|zF<|zI ?_
 refine zC<|zA (zS (k:=0) (o:=0) (m:=10) isAgg51 sizeOf51 rfl rfl rfl rfl rfl)<|zR h fun x1 hx1 h=>zi func47 rfl (by kernel_rfl) (.fn 47) rfl rfl (zIn hx1) rfl<|zA (zBR rfl rfl)<|zA (zB rfl) ?_
 refine zo rfl rfl (fun hc1=>zt.step (zS (k:=0) (o:=0) (m:=10) isAgg51 sizeOf51 rfl rfl rfl rfl rfl))<|zo rfl rfl (fun hc2=>zt.step (zB rfl))<|zR h fun x2 hx2 h=>zCp (g:=8) (s:=decide (x1=0)) (r':=(AV.lit (.bool x2))) rfl rfl (fun hc3=>⟨72,_,_,[],[(AV.agg (zO a_z)),li a_frame,li 0],[(AV.agg (zO a_z)),li a_frame,li 0],(AV.lit (.bool x2)),[],func72,rfl,by kernel_rfl,.fn 72,(zAK (z5 rfl hc3) (zAK (z5 rfl hc3) (zAK rfl rfl))),⟨zAt.nr rfl,zAt.nr rfl,zAt.nr rfl,trivial⟩,zFk (zF3 hc3 hx2),.inl rfl,rfl⟩)<|zA (zz (j := .lit undef) rfl rfl)<|zA (zB rfl) ?_
 refine zo rfl rfl (fun hc4=>zt.step (zS (k:=0) (o:=0) (m:=10) isAgg51 sizeOf51 rfl rfl rfl rfl rfl))<|zR h fun x3 hx3 h=>zCp (g:=13) (s:=(decide (x1=0))&&x2) (r':=(ls cI x3)) rfl rfl (fun hc5=>⟨95,_,_,[],[(AV.agg (zO a_z))],[(AV.agg (zO a_z))],(AV.osl 3 1 (List.map cI x3)),[],func95,rfl,by kernel_rfl,.fn 95,(zAK (z5 rfl hc5) rfl),⟨zAt.nr rfl,trivial⟩,zKC (zF3 hc5 hx3),.inl rfl,(congrArg (AV.sl false) (zAP (fun _=>rfl)))⟩)<|zo rfl rfl (fun hc6=>zt.step (zB rfl))<|zM h fun hb1 h=>zo rfl rfl (fun hc7=>zt.step (zU underlying22 sizeOf3 (fun _=>rfl) (z5 rfl hc7) (z5 rfl hc7) (zGd hb1 hc7))) ?_
 refine zo rfl rfl (fun hc8=>zt.step (zW (o:=0) isAgg3 (z5 rfl hc8) rfl))<|zo rfl rfl (fun hc9=>zt.step (zAl (z5 rfl hc9) rfl))<|zA (zz (j := .lit undef) rfl rfl)<|zA (zD rfl)<|zF<|zb ?_
 show zAQ _ _ _ _ _ _
 obtain rfl:=Option.some.inj h
 exact zu (zAM rfl rfl)
theorem zKK {a_p0:zJ} {r:Int} (h:zFR a_p0=some r):PFn prog 97 [(AV.agg (zG a_p0))] (li r):=by
 refine zq func97 rfl ntmps97 results97 rfl ?_
 unfold zFR at h
 refine zI<|zC<|za (H':=[.box 26 (zG a_p0)]) (zw (t:=26) rfl)<|zA (zD rfl)<|zF<|zI ?_
 refine zC<|zM h fun hb1 h=>zDy (f:=cB) (a:=256) (c:=256) (d0:=false) zUT ⟨zh.refl _,trivial⟩ rfl underlying121 rfl rfl hb1<|zA (zD rfl)<|zF ?_
 refine zx (fun e' H'=>Rep 94 0 e' H' (mkE []) []∧zFY  = some r) ?_ ?_
 ·
  refine zI<|zC<|zA (zD rfl)<|zF<|zQ<|z6 (σ:=Nat×Int×(List Bool)) (fun s=>s.1) (fun s e' H'=>match s with | (n0,i1,l1)=>Rep 94 0 e' H' (mkE [(1,(AV.ptr 0 0)),(3,(AV.hd 1)),(4,(li i1))]) [.box 26 (zG a_p0),.vec 4 1 (List.map cB l1)]∧zAN a_p0 n0 i1 l1=some r) (z9,0,(List.replicate (256:Int).toNat false)) ⟨zAE [0,1] rfl rfl (by kernel_rfl),h⟩ ?_
  clear h
  rintro ⟨n0,i1,l1⟩ e' H' ⟨hrep,h⟩
  cases n0 with
  | zero=>exact absurd (show (none:Option _)=some r from h) (by simp)
  | succ n0 =>
   replace h:zBM a_p0 (zAN a_p0 n0) i1 l1=some r:=h
   unfold zBM at h
   refine zV hrep ?_
   clear hrep
   refine zI<|zI<|zC<|zA (zB rfl)<|zA (zK underlying26 rfl rfl sizeOf24 rfl)<|zA (zN isAgg24 rfl rfl rfl rfl) ?_
   refine zA (zX underlying24 rfl)<|zA (ze rfl rfl)<|zF ?_
   refine zY h rfl (fun hb2 h => ?_) (fun hb2 h => ?_)
   ·refine zP ?_
    refine zx (fun e' H' => ∃ (l2:List Bool),Rep 94 0 e' H' (mkE [(1,(AV.ptr 0 0)),(3,(AV.hd 1)),(4,(li i1))]) [.box 26 (zG a_p0),.vec 4 1 (List.map cB l2)]∧zDs (zAN a_p0 n0) i1 l2=some r) ?_ ?_
    ·
     refine zQ<|zI<|zC<|zA (zD rfl)<|zF<|zQ ?_
     refine z6 (σ:=Nat×Int×(List Bool)) (fun s=>s.1) (fun s e' H'=>match s with | (n1,i2,l3)=>Rep 94 0 e' H' (mkE [(1,(AV.ptr 0 0)),(3,(AV.hd 1)),(4,(li i1)),(5,(li i2))]) [.box 26 (zG a_p0),.vec 4 1 (List.map cB l3)]∧zAa (zAN a_p0 n0) a_p0 i1 n1 i2 l3=some r) (z9,0,l1) ⟨zAE [0,1] rfl rfl (by kernel_rfl),h⟩ ?_
     clear h
     rintro ⟨n1,i2,l3⟩ e' H' ⟨hrep,h⟩
     cases n1 with
     | zero=>exact absurd (show (none:Option _)=some r from h) (by simp)
     | succ n1 =>
      replace h:zBN (zAN a_p0 n0) a_p0 i1 (zAa (zAN a_p0 n0) a_p0 i1 n1) i2 l3=some r:=h
      unfold zBN at h
      refine zV hrep ?_
      clear hrep
      refine zI<|zI<|zC<|zA (zB rfl)<|zA (zK underlying26 rfl rfl sizeOf23 rfl)<|zA (zN isAgg23 rfl rfl rfl rfl) ?_
      refine zA (zX underlying23 rfl)<|zA (ze rfl rfl)<|zF ?_
      refine zY h rfl (fun hb4 h => ?_) (fun hb4 h => ?_)
      ·refine zP ?_
       refine zx (fun e' H' => ∃ (l4:List Bool),Rep 94 0 e' H' (mkE [(1,(AV.ptr 0 0)),(3,(AV.hd 1)),(4,(li i1)),(5,(li i2))]) [.box 26 (zG a_p0),.vec 4 1 (List.map cB l4)]∧zDq (zAa (zAN a_p0 n0) a_p0 i1 n1) i2 l4=some r) ?_ ?_
       ·
        refine zQ<|zI<|zC<|zA (zK underlying26 rfl rfl sizeOf24 rfl)<|zA (zN isAgg24 rfl rfl rfl rfl)<|zA (zB rfl) ?_
        refine zM h fun hb6 h=>zA (zU underlying24 sizeOf55 (fun _=>rfl) rfl rfl hb6)<|zA (zBQ (row:=(zH (at_ a_p0.caches i1))) (o:=0) (off:=0) underlying55 rfl rfl sizeOf53 rfl)<|zA (zW (o:=0) isAgg53 rfl rfl)<|zA (zB rfl)<|zM h fun hb7 h => ?_
        refine zA (zU underlying53 sizeOf22 (fun _=>rfl) rfl rfl hb7)<|zA (zW (o:=0) isAgg22 rfl rfl)<|zA (zD rfl)<|zF<|zI<|zC ?_
        refine zA (zD rfl)<|zF<|zQ<|z6 (σ:=Nat×Int×(List Bool)) (fun s=>s.1) (fun s e' H'=>match s with | (n2,i3,l5)=>Rep 94 0 e' H' (mkE [(1,(AV.ptr 0 0)),(3,(AV.hd 1)),(4,(li i1)),(5,(li i2)),(6,(ls cI (at_ ((at_ a_p0.caches i1).lists) i2))),(7,(li i3))]) [.box 26 (zG a_p0),.vec 4 1 (List.map cB l5)]∧zB6 (zAa (zAN a_p0 n0) a_p0 i1 n1) a_p0 i1 i2 n2 i3 l5=some r) (z9,0,l3) ⟨zAE [0,1] rfl rfl (by kernel_rfl),h⟩ ?_
        clear h
        rintro ⟨n2,i3,l5⟩ e' H' ⟨hrep,h⟩
        cases n2 with
        | zero=>exact absurd (show (none:Option _)=some r from h) (by simp)
        | succ n2 =>
         replace h:zBP (zAa (zAN a_p0 n0) a_p0 i1 n1) a_p0 i1 i2 (zB6 (zAa (zAN a_p0 n0) a_p0 i1 n1) a_p0 i1 i2 n2) i3 l5=some r:=h
         unfold zBP at h
         refine zV hrep ?_
         clear hrep
         refine zI<|zI<|zC<|zA (zB rfl)<|zA (zB rfl)<|zA (zX underlying22 rfl) ?_
         refine zA (ze rfl rfl)<|zF ?_
         refine zY h rfl (fun hb8 h => ?_) (fun hb8 h => ?_)
         ·refine zP<|zI<|zQ<|zI<|zI<|zM h fun hb9 h => ?_
          refine zM h fun hb10 h=>zM h fun hb11 h => ?_
          show AW _ _ _ _ _ _ [.box 26 (zG a_p0),.vec 4 1 (List.map cB l5)]
          refine zAx (n:=94) (m:=0) [.head 0 0,.head 0 0,.head 0 0,.head 0 0,.head 0 0,.head 0 0,.head 0 0,.head 0 0,.head 0 0,.head 0 0,.head 0 0,.head 0 0,.head 0 0,.head 0 0,.head 0 0,.head 0 0,.head 0 0,.head 0 0,.head 0 0,.head 0 0,.head 0 0,.head 0 0,.head 0 0,.head 0 0,.head 0 0,.head 0 0,.head 0 0,.head 0 0,.head 0 0,.head 0 0,.head 0 0] [] [(ls cI (at_ ((at_ a_p0.caches i1).lists) i2)),li i3,(AV.rp (cI (at_ (at_ ((at_ a_p0.caches i1).lists) i2) i3)) 0),(li (at_ (at_ ((at_ a_p0.caches i1).lists) i2) i3)),AV.ptr 0 3,ls zO a_p0.zones,li i2,(AV.rp (zO (at_ a_p0.zones i2)) 0),(AV.rp (zO (at_ a_p0.zones i2)) 2),(li ((at_ a_p0.zones i2).start)),(AV.lit (.bool (decide ((at_ (at_ ((at_ a_p0.caches i1).lists) i2) i3)<((at_ a_p0.zones i2).start))))),(AV.lit (.bool (decide ((at_ (at_ ((at_ a_p0.caches i1).lists) i2) i3)<((at_ a_p0.zones i2).start))))),(bif !(decide ((at_ (at_ ((at_ a_p0.caches i1).lists) i2) i3)<((at_ a_p0.zones i2).start))) then (ls cI (at_ ((at_ a_p0.caches i1).lists) i2)) else .lit undef),(bif !(decide ((at_ (at_ ((at_ a_p0.caches i1).lists) i2) i3)<((at_ a_p0.zones i2).start))) then (li i3) else .lit undef),(bif !(decide ((at_ (at_ ((at_ a_p0.caches i1).lists) i2) i3)<((at_ a_p0.zones i2).start))) then (AV.rp (cI (at_ (at_ ((at_ a_p0.caches i1).lists) i2) i3)) 0) else .lit undef),(bif !(decide ((at_ (at_ ((at_ a_p0.caches i1).lists) i2) i3)<((at_ a_p0.zones i2).start))) then (li (at_ (at_ ((at_ a_p0.caches i1).lists) i2) i3)) else .lit undef),(bif !(decide ((at_ (at_ ((at_ a_p0.caches i1).lists) i2) i3)<((at_ a_p0.zones i2).start))) then (AV.ptr 0 3) else .lit undef),(bif !(decide ((at_ (at_ ((at_ a_p0.caches i1).lists) i2) i3)<((at_ a_p0.zones i2).start))) then (ls zO a_p0.zones) else .lit undef),(bif !(decide ((at_ (at_ ((at_ a_p0.caches i1).lists) i2) i3)<((at_ a_p0.zones i2).start))) then (li i2) else .lit undef),(bif !(decide ((at_ (at_ ((at_ a_p0.caches i1).lists) i2) i3)<((at_ a_p0.zones i2).start))) then (AV.rp (zO (at_ a_p0.zones i2)) 0) else .lit undef),(bif !(decide ((at_ (at_ ((at_ a_p0.caches i1).lists) i2) i3)<((at_ a_p0.zones i2).start))) then (AV.rp (zO (at_ a_p0.zones i2)) 2) else .lit undef),(bif !(decide ((at_ (at_ ((at_ a_p0.caches i1).lists) i2) i3)<((at_ a_p0.zones i2).start))) then (li ((at_ a_p0.zones i2).start)) else .lit undef),(bif !(decide ((at_ (at_ ((at_ a_p0.caches i1).lists) i2) i3)<((at_ a_p0.zones i2).start))) then (AV.ptr 0 3) else .lit undef),(bif !(decide ((at_ (at_ ((at_ a_p0.caches i1).lists) i2) i3)<((at_ a_p0.zones i2).start))) then (ls zO a_p0.zones) else .lit undef),(bif !(decide ((at_ (at_ ((at_ a_p0.caches i1).lists) i2) i3)<((at_ a_p0.zones i2).start))) then (li i2) else .lit undef),(bif !(decide ((at_ (at_ ((at_ a_p0.caches i1).lists) i2) i3)<((at_ a_p0.zones i2).start))) then (AV.rp (zO (at_ a_p0.zones i2)) 0) else .lit undef),(bif !(decide ((at_ (at_ ((at_ a_p0.caches i1).lists) i2) i3)<((at_ a_p0.zones i2).start))) then (AV.rp (zO (at_ a_p0.zones i2)) 3) else .lit undef),(bif !(decide ((at_ (at_ ((at_ a_p0.caches i1).lists) i2) i3)<((at_ a_p0.zones i2).start))) then (li ((at_ a_p0.zones i2).count)) else .lit undef),(bif !(decide ((at_ (at_ ((at_ a_p0.caches i1).lists) i2) i3)<((at_ a_p0.zones i2).start))) then (li (((at_ a_p0.zones i2).start)+((at_ a_p0.zones i2).count))) else .lit undef),(bif !(decide ((at_ (at_ ((at_ a_p0.caches i1).lists) i2) i3)<((at_ a_p0.zones i2).start))) then (AV.lit (.bool (decide ((((at_ a_p0.zones i2).start)+((at_ a_p0.zones i2).count))≤(at_ (at_ ((at_ a_p0.caches i1).lists) i2) i3))))) else .lit undef),(AV.lit (.bool ((decide ((at_ (at_ ((at_ a_p0.caches i1).lists) i2) i3)<((at_ a_p0.zones i2).start)))||(decide ((((at_ a_p0.zones i2).start)+((at_ a_p0.zones i2).count))≤(at_ (at_ ((at_ a_p0.caches i1).lists) i2) i3))))))] [[.box 26 (zG a_p0),.vec 4 1 (List.map cB l5)]] (by kernel_rfl) (by kernel_rfl) ⟨?_,?_,?_,?_,?_,?_,?_,?_,?_,?_,?_,?_,?_,?_,?_,?_,?_,?_,?_,?_,?_,?_,?_,?_,?_,?_,?_,?_,?_,?_,?_,trivial⟩ ?_
          ·exact D1 fun e s p=>zB (s 6 rfl)
          ·exact D1 fun e s p=>zB (s 7 rfl)
          ·exact D1 fun e s p=>zU (f:=cI) (l:=at_ ((at_ a_p0.caches i1).lists) i2) (i:=i3) underlying22 sizeOf3 (fun _=>rfl) p.1 p.2.1 hb9
          ·exact D1 fun e s p=>zW (o:=0) isAgg3 p.1 rfl
          ·exact D1 fun e s p=>zK (k:=0) (o:=0) (off:=3) underlying26 rfl rfl sizeOf23 (s 1 rfl)
          ·exact D1 fun e s p=>zN (k:=0) (o:=3) isAgg23 p.1 rfl rfl rfl
          ·exact D1 fun e s p=>zB (s 5 rfl)
          ·exact D1 fun e s p=>zU (f:=zO) (l:=a_p0.zones) (i:=i2) underlying23 sizeOf51 (fun _=>rfl) p.1 p.2.1 hb10
          ·exact D1 fun e s p=>zBQ (row:=(zO (at_ a_p0.zones i2))) (o:=0) (off:=2) underlying51 rfl rfl sizeOf3 p.1
          ·exact D1 fun e s p=>zW (o:=2) isAgg3 p.1 rfl
          ·exact D1 fun e s p=>ze (a:=at_ (at_ ((at_ a_p0.caches i1).lists) i2) i3) (b:=(at_ a_p0.zones i2).start) p.1 p.2.1
          ·exact D1 fun e s p=>zB p.1
          ·
           intro e13 hs13 hp13
           refine zT (g:=49) (s:=decide ((at_ (at_ ((at_ a_p0.caches i1).lists) i2) i3)<((at_ a_p0.zones i2).start))) rfl hp13.1 (fun hc19=>zt.step (zB (av:=(ls cI (at_ ((at_ a_p0.caches i1).lists) i2))) (hs13 6 rfl))) ?_
           exact zF ⟨fun _=>rfl,rfl⟩
          ·
           intro e14 hs14 hp14
           refine zT (g:=49) (s:=decide ((at_ (at_ ((at_ a_p0.caches i1).lists) i2) i3)<((at_ a_p0.zones i2).start))) rfl hp14.1 (fun hc20=>zt.step (zB (av:=(li i3)) (hs14 7 rfl))) ?_
           exact zF ⟨fun _=>rfl,rfl⟩
          ·
           intro e15 hs15 hp15
           refine zT (g:=49) (s:=decide ((at_ (at_ ((at_ a_p0.caches i1).lists) i2) i3)<((at_ a_p0.zones i2).start))) rfl hp15.2.2.1 (fun hc21=>zt.step (zU (f:=cI) (l:=at_ ((at_ a_p0.caches i1).lists) i2) (i:=i3) underlying22 sizeOf3 (fun _=>rfl) (z5 hp15.1 hc21) (z5 hp15.2.1 hc21) hb9)) ?_
           exact zF ⟨fun _=>rfl,rfl⟩
          ·
           intro e16 hs16 hp16
           refine zT (g:=49) (s:=decide ((at_ (at_ ((at_ a_p0.caches i1).lists) i2) i3)<((at_ a_p0.zones i2).start))) rfl hp16.2.1 (fun hc22=>zt.step (zW (row:=(cI (at_ (at_ ((at_ a_p0.caches i1).lists) i2) i3))) (o:=0) (a:=(li (at_ (at_ ((at_ a_p0.caches i1).lists) i2) i3))) isAgg3 (z5 hp16.1 hc22) rfl)) ?_
           exact zF ⟨fun _=>rfl,rfl⟩
          ·
           intro e17 hs17 hp17
           refine zT (g:=49) (s:=decide ((at_ (at_ ((at_ a_p0.caches i1).lists) i2) i3)<((at_ a_p0.zones i2).start))) rfl hp17.1 (fun hc23=>zt.step (zK (k:=0) (o:=0) (off:=3) underlying26 rfl rfl sizeOf23 (hs17 1 rfl))) ?_
           exact zF ⟨fun _=>rfl,rfl⟩
          ·
           intro e18 hs18 hp18
           refine zT (g:=49) (s:=decide ((at_ (at_ ((at_ a_p0.caches i1).lists) i2) i3)<((at_ a_p0.zones i2).start))) rfl hp18.2.1 (fun hc24=>zt.step (zN (k:=0) (o:=3) (a:=(ls zO a_p0.zones)) isAgg23 (z5 hp18.1 hc24) rfl rfl rfl)) ?_
           exact zF ⟨fun _=>rfl,rfl⟩
          ·
           intro e19 hs19 hp19
           refine zT (g:=49) (s:=decide ((at_ (at_ ((at_ a_p0.caches i1).lists) i2) i3)<((at_ a_p0.zones i2).start))) rfl hp19.1 (fun hc25=>zt.step (zB (av:=(li i2)) (hs19 5 rfl))) ?_
           exact zF ⟨fun _=>rfl,rfl⟩
          ·
           intro e20 hs20 hp20
           refine zT (g:=49) (s:=decide ((at_ (at_ ((at_ a_p0.caches i1).lists) i2) i3)<((at_ a_p0.zones i2).start))) rfl hp20.2.2.1 (fun hc26=>zt.step (zU (f:=zO) (l:=a_p0.zones) (i:=i2) underlying23 sizeOf51 (fun _=>rfl) (z5 hp20.1 hc26) (z5 hp20.2.1 hc26) hb10)) ?_
           exact zF ⟨fun _=>rfl,rfl⟩
          ·
           intro e21 hs21 hp21
           refine zT (g:=49) (s:=decide ((at_ (at_ ((at_ a_p0.caches i1).lists) i2) i3)<((at_ a_p0.zones i2).start))) rfl hp21.2.1 (fun hc27=>zt.step (zBQ (row:=(zO (at_ a_p0.zones i2))) (o:=0) (off:=2) underlying51 rfl rfl sizeOf3 (z5 hp21.1 hc27))) ?_
           exact zF ⟨fun _=>rfl,rfl⟩
          ·
           intro e22 hs22 hp22
           refine zT (g:=49) (s:=decide ((at_ (at_ ((at_ a_p0.caches i1).lists) i2) i3)<((at_ a_p0.zones i2).start))) rfl hp22.2.1 (fun hc28=>zt.step (zW (row:=(zO (at_ a_p0.zones i2))) (o:=2) (a:=(li ((at_ a_p0.zones i2).start))) isAgg3 (z5 hp22.1 hc28) rfl)) ?_
           exact zF ⟨fun _=>rfl,rfl⟩
          ·
           intro e23 hs23 hp23
           refine zT (g:=49) (s:=decide ((at_ (at_ ((at_ a_p0.caches i1).lists) i2) i3)<((at_ a_p0.zones i2).start))) rfl hp23.1 (fun hc29=>zt.step (zK (k:=0) (o:=0) (off:=3) underlying26 rfl rfl sizeOf23 (hs23 1 rfl))) ?_
           exact zF ⟨fun _=>rfl,rfl⟩
          ·
           intro e24 hs24 hp24
           refine zT (g:=49) (s:=decide ((at_ (at_ ((at_ a_p0.caches i1).lists) i2) i3)<((at_ a_p0.zones i2).start))) rfl hp24.2.1 (fun hc30=>zt.step (zN (k:=0) (o:=3) (a:=(ls zO a_p0.zones)) isAgg23 (z5 hp24.1 hc30) rfl rfl rfl)) ?_
           exact zF ⟨fun _=>rfl,rfl⟩
          ·
           intro e25 hs25 hp25
           refine zT (g:=49) (s:=decide ((at_ (at_ ((at_ a_p0.caches i1).lists) i2) i3)<((at_ a_p0.zones i2).start))) rfl hp25.1 (fun hc31=>zt.step (zB (av:=(li i2)) (hs25 5 rfl))) ?_
           exact zF ⟨fun _=>rfl,rfl⟩
          ·
           intro e26 hs26 hp26
           refine zT (g:=49) (s:=decide ((at_ (at_ ((at_ a_p0.caches i1).lists) i2) i3)<((at_ a_p0.zones i2).start))) rfl hp26.2.2.1 (fun hc32=>zt.step (zU (f:=zO) (l:=a_p0.zones) (i:=i2) underlying23 sizeOf51 (fun _=>rfl) (z5 hp26.1 hc32) (z5 hp26.2.1 hc32) hb10)) ?_
           exact zF ⟨fun _=>rfl,rfl⟩
          ·
           intro e27 hs27 hp27
           refine zT (g:=49) (s:=decide ((at_ (at_ ((at_ a_p0.caches i1).lists) i2) i3)<((at_ a_p0.zones i2).start))) rfl hp27.2.1 (fun hc33=>zt.step (zBQ (row:=(zO (at_ a_p0.zones i2))) (o:=0) (off:=3) underlying51 rfl rfl sizeOf3 (z5 hp27.1 hc33))) ?_
           exact zF ⟨fun _=>rfl,rfl⟩
          ·
           intro e28 hs28 hp28
           refine zT (g:=49) (s:=decide ((at_ (at_ ((at_ a_p0.caches i1).lists) i2) i3)<((at_ a_p0.zones i2).start))) rfl hp28.2.1 (fun hc34=>zt.step (zW (row:=(zO (at_ a_p0.zones i2))) (o:=3) (a:=(li ((at_ a_p0.zones i2).count))) isAgg3 (z5 hp28.1 hc34) rfl)) ?_
           exact zF ⟨fun _=>rfl,rfl⟩
          ·
           intro e29 hs29 hp29
           refine zT (g:=49) (s:=decide ((at_ (at_ ((at_ a_p0.caches i1).lists) i2) i3)<((at_ a_p0.zones i2).start))) rfl hp29.2.2.1 (fun hc35=>zt.step (zf (a:=(at_ a_p0.zones i2).start) (b:=(at_ a_p0.zones i2).count) (z5 hp29.1 hc35) (z5 hp29.2.1 hc35) (zGd hb11 hc35))) ?_
           exact zF ⟨fun _=>rfl,rfl⟩
          ·
           intro e30 hs30 hp30
           refine zT (g:=49) (s:=decide ((at_ (at_ ((at_ a_p0.caches i1).lists) i2) i3)<((at_ a_p0.zones i2).start))) rfl hp30.2.2.1 (fun hc36=>zt.step (zAp (a:=at_ (at_ ((at_ a_p0.caches i1).lists) i2) i3) (b:=((at_ a_p0.zones i2).start)+((at_ a_p0.zones i2).count)) (z5 hp30.1 hc36) (z5 hp30.2.1 hc36))) ?_
           exact zF ⟨fun _=>rfl,rfl⟩
          ·exact D1 fun e s p=>zd (s:=decide ((at_ (at_ ((at_ a_p0.caches i1).lists) i2) i3)<((at_ a_p0.zones i2).start))) (q:=decide ((((at_ a_p0.zones i2).start)+((at_ a_p0.zones i2).count))≤(at_ (at_ ((at_ a_p0.caches i1).lists) i2) i3))) (j := .lit undef) p.1 p.2.1
          intro e32 hs32 hq1
          refine zV (zBY (l:=[(1,(AV.ptr 0 0)),(3,(AV.hd 1)),(4,(li i1)),(5,(li i2)),(6,(ls cI (at_ ((at_ a_p0.caches i1).lists) i2))),(7,(li i3)),(68,(AV.lit (.bool ((decide ((at_ (at_ ((at_ a_p0.caches i1).lists) i2) i3)<((at_ a_p0.zones i2).start)))||(decide ((((at_ a_p0.zones i2).start)+((at_ a_p0.zones i2).count))≤(at_ (at_ ((at_ a_p0.caches i1).lists) i2) i3)))))))]) ⟨hs32 1 rfl,hs32 3 rfl,hs32 4 rfl,hs32 5 rfl,hs32 6 rfl,hs32 7 rfl,(hq1 30 (by decide) (by decide)),trivial⟩) ?_
          refine zY h rfl (fun hb12 h => ?_) (fun hb12 h => ?_)
          ·refine zI<|zC<|zA (zD rfl)<|zF<|zb ?_
           show zAQ _ _ _ _ _ _
           obtain rfl:=Option.some.inj h
           exact zu (zAM rfl rfl)
          ·refine zP<|zI<|zI<|zM h fun hb13 h=>zR h fun x1 hx1 h => ?_
           show AW _ _ _ _ _ _ [.box 26 (zG a_p0),.vec 4 1 (List.map cB l5)]
           refine zAx (n:=94) (m:=0) [.head 0 0,.head 0 0,.head 0 0,.head 0 0,.head 0 0,.head 0 0,.head 0 0,.head 0 0,.head 0 0,.head 0 0,.head 0 0,.head 0 0,.head 0 0,.head 0 0,.head 0 0,.head 0 0,.head 0 0,.head 0 0,.head 0 0] [] [AV.hd 1,(ls cI (at_ ((at_ a_p0.caches i1).lists) i2)),li i3,(AV.rp (cI (at_ (at_ ((at_ a_p0.caches i1).lists) i2) i3)) 0),(li (at_ (at_ ((at_ a_p0.caches i1).lists) i2) i3)),(AV.ptr 1 ((at_ (at_ ((at_ a_p0.caches i1).lists) i2) i3).toNat*1)),(AV.lit (.bool (at_ l5 (at_ (at_ ((at_ a_p0.caches i1).lists) i2) i3)))),(AV.lit (.bool (at_ l5 (at_ (at_ ((at_ a_p0.caches i1).lists) i2) i3)))),(bif !(at_ l5 (at_ (at_ ((at_ a_p0.caches i1).lists) i2) i3)) then (AV.ptr 0 3) else .lit undef),(bif !(at_ l5 (at_ (at_ ((at_ a_p0.caches i1).lists) i2) i3)) then (ls zO a_p0.zones) else .lit undef),(bif !(at_ l5 (at_ (at_ ((at_ a_p0.caches i1).lists) i2) i3)) then (li i2) else .lit undef),(bif !(at_ l5 (at_ (at_ ((at_ a_p0.caches i1).lists) i2) i3)) then (AV.rp (zO (at_ a_p0.zones i2)) 0) else .lit undef),(bif !(at_ l5 (at_ (at_ ((at_ a_p0.caches i1).lists) i2) i3)) then (AV.agg (zO (at_ a_p0.zones i2))) else .lit undef),(bif !(at_ l5 (at_ (at_ ((at_ a_p0.caches i1).lists) i2) i3)) then (ls cI (at_ ((at_ a_p0.caches i1).lists) i2)) else .lit undef),(bif !(at_ l5 (at_ (at_ ((at_ a_p0.caches i1).lists) i2) i3)) then (li i3) else .lit undef),(bif !(at_ l5 (at_ (at_ ((at_ a_p0.caches i1).lists) i2) i3)) then (AV.rp (cI (at_ (at_ ((at_ a_p0.caches i1).lists) i2) i3)) 0) else .lit undef),(bif !(at_ l5 (at_ (at_ ((at_ a_p0.caches i1).lists) i2) i3)) then (li (at_ (at_ ((at_ a_p0.caches i1).lists) i2) i3)) else .lit undef),(bif !(at_ l5 (at_ (at_ ((at_ a_p0.caches i1).lists) i2) i3)) then (AV.lit (.bool x1)) else .lit undef),(AV.lit (.bool ((at_ l5 (at_ (at_ ((at_ a_p0.caches i1).lists) i2) i3))||x1)))] [[.box 26 (zG a_p0),.vec 4 1 (List.map cB l5)]] (by kernel_rfl) (by kernel_rfl) ⟨?_,?_,?_,?_,?_,?_,?_,?_,?_,?_,?_,?_,?_,?_,?_,?_,?_,?_,?_,trivial⟩ ?_
           ·exact D1 fun e s p=>zB (s 3 rfl)
           ·exact D1 fun e s p=>zB (s 6 rfl)
           ·exact D1 fun e s p=>zB (s 7 rfl)
           ·exact D1 fun e s p=>zU (f:=cI) (l:=at_ ((at_ a_p0.caches i1).lists) i2) (i:=i3) underlying22 sizeOf3 (fun _=>rfl) p.1 p.2.1 hb9
           ·exact D1 fun e s p=>zW (o:=0) isAgg3 p.1 rfl
           ·exact D1 fun e s p=>zAC (f:=cB) (l:=l5) (i:=at_ (at_ ((at_ a_p0.caches i1).lists) i2) i3) underlying121 sizeOf4 p.1 rfl p.2.1 hb13
           ·exact D1 fun e s p=>zBS (f:=cB) (l:=l5) (i:=at_ (at_ ((at_ a_p0.caches i1).lists) i2) i3) (c:=0) (a:=(AV.lit (.bool (at_ l5 (at_ (at_ ((at_ a_p0.caches i1).lists) i2) i3))))) isAgg4 p.1 rfl (by first | rfl | omega) hb13 rfl rfl
           ·exact D1 fun e s p=>zB p.1
           ·
            intro e41 hs41 hp40
            refine zT (g:=76) (s:=at_ l5 (at_ (at_ ((at_ a_p0.caches i1).lists) i2) i3)) rfl hp40.1 (fun hc47=>zt.step (zK (k:=0) (o:=0) (off:=3) underlying26 rfl rfl sizeOf23 (hs41 1 rfl))) ?_
            exact zF ⟨fun _=>rfl,rfl⟩
           ·
            intro e42 hs42 hp41
            refine zT (g:=76) (s:=at_ l5 (at_ (at_ ((at_ a_p0.caches i1).lists) i2) i3)) rfl hp41.2.1 (fun hc48=>zt.step (zN (k:=0) (o:=3) (a:=(ls zO a_p0.zones)) isAgg23 (z5 hp41.1 hc48) rfl rfl rfl)) ?_
            exact zF ⟨fun _=>rfl,rfl⟩
           ·
            intro e43 hs43 hp42
            refine zT (g:=76) (s:=at_ l5 (at_ (at_ ((at_ a_p0.caches i1).lists) i2) i3)) rfl hp42.1 (fun hc49=>zt.step (zB (av:=(li i2)) (hs43 5 rfl))) ?_
            exact zF ⟨fun _=>rfl,rfl⟩
           ·
            intro e44 hs44 hp43
            refine zT (g:=76) (s:=at_ l5 (at_ (at_ ((at_ a_p0.caches i1).lists) i2) i3)) rfl hp43.2.2.1 (fun hc50=>zt.step (zU (f:=zO) (l:=a_p0.zones) (i:=i2) underlying23 sizeOf51 (fun _=>rfl) (z5 hp43.1 hc50) (z5 hp43.2.1 hc50) hb10)) ?_
            exact zF ⟨fun _=>rfl,rfl⟩
           ·
            intro e45 hs45 hp44
            refine zT (g:=76) (s:=at_ l5 (at_ (at_ ((at_ a_p0.caches i1).lists) i2) i3)) rfl hp44.2.1 (fun hc51=>zt.step (zAb (row:=(zO (at_ a_p0.zones i2))) (o:=0) (m:=10) (la:=(zO (at_ a_p0.zones i2))) isAgg51 sizeOf51 (z5 hp44.1 hc51) rfl rfl)) ?_
            exact zF ⟨fun _=>rfl,rfl⟩
           ·
            intro e46 hs46 hp45
            refine zT (g:=76) (s:=at_ l5 (at_ (at_ ((at_ a_p0.caches i1).lists) i2) i3)) rfl hp45.1 (fun hc52=>zt.step (zB (av:=(ls cI (at_ ((at_ a_p0.caches i1).lists) i2))) (hs46 6 rfl))) ?_
            exact zF ⟨fun _=>rfl,rfl⟩
           ·
            intro e47 hs47 hp46
            refine zT (g:=76) (s:=at_ l5 (at_ (at_ ((at_ a_p0.caches i1).lists) i2) i3)) rfl hp46.1 (fun hc53=>zt.step (zB (av:=(li i3)) (hs47 7 rfl))) ?_
            exact zF ⟨fun _=>rfl,rfl⟩
           ·
            intro e48 hs48 hp47
            refine zT (g:=76) (s:=at_ l5 (at_ (at_ ((at_ a_p0.caches i1).lists) i2) i3)) rfl hp47.2.2.1 (fun hc54=>zt.step (zU (f:=cI) (l:=at_ ((at_ a_p0.caches i1).lists) i2) (i:=i3) underlying22 sizeOf3 (fun _=>rfl) (z5 hp47.1 hc54) (z5 hp47.2.1 hc54) hb9)) ?_
            exact zF ⟨fun _=>rfl,rfl⟩
           ·
            intro e49 hs49 hp48
            refine zT (g:=76) (s:=at_ l5 (at_ (at_ ((at_ a_p0.caches i1).lists) i2) i3)) rfl hp48.2.1 (fun hc55=>zt.step (zW (row:=(cI (at_ (at_ ((at_ a_p0.caches i1).lists) i2) i3))) (o:=0) (a:=(li (at_ (at_ ((at_ a_p0.caches i1).lists) i2) i3))) isAgg3 (z5 hp48.1 hc55) rfl)) ?_
            exact zF ⟨fun _=>rfl,rfl⟩
           ·
            intro e50 hs50 hp49
            refine zCA (g:=76) (s:=at_ l5 (at_ (at_ ((at_ a_p0.caches i1).lists) i2) i3)) (r':=(AV.lit (.bool x1))) rfl hp49.2.2.2.1 (fun hc56=>⟨98,_,_,[],[(AV.agg (zO (at_ a_p0.zones i2))),(li (at_ (at_ ((at_ a_p0.caches i1).lists) i2) i3))],[(AV.agg (zO (at_ a_p0.zones i2))),(li (at_ (at_ ((at_ a_p0.caches i1).lists) i2) i3))],(AV.lit (.bool x1)),[],func98,rfl,by kernel_rfl,.fn 98,(zAK (z5 hp49.1 hc56) (zAK (z5 hp49.2.1 hc56) rfl)),⟨zAt.nr rfl,zAt.nr rfl,trivial⟩,zJy (zF3 hc56 hx1),.inl rfl,rfl⟩) ?_
            exact zF ⟨fun _=>rfl,rfl⟩
           ·exact D1 fun e s p=>zd (s:=at_ l5 (at_ (at_ ((at_ a_p0.caches i1).lists) i2) i3)) (q:=x1) (j := .lit undef) p.1 p.2.1
           intro e52 hs52 hq2
           refine zV (zBY (l:=[(1,(AV.ptr 0 0)),(3,(AV.hd 1)),(4,(li i1)),(5,(li i2)),(6,(ls cI (at_ ((at_ a_p0.caches i1).lists) i2))),(7,(li i3)),(87,(AV.lit (.bool ((at_ l5 (at_ (at_ ((at_ a_p0.caches i1).lists) i2) i3))||x1))))]) ⟨hs52 1 rfl,hs52 3 rfl,hs52 4 rfl,hs52 5 rfl,hs52 6 rfl,hs52 7 rfl,(hq2 18 (by decide) (by decide)),trivial⟩) ?_
           refine zY h rfl (fun hb14 h => ?_) (fun hb14 h => ?_)
           ·refine zI<|zC<|zA (zD rfl)<|zF<|zb ?_
            show zAQ _ _ _ _ _ _
            obtain rfl:=Option.some.inj h
            exact zu (zAM rfl rfl)
           ·refine zP<|zC<|zA (zB rfl)<|zA (zB rfl)<|zA (zB rfl)<|zA (zU underlying22 sizeOf3 (fun _=>rfl) rfl rfl hb9) ?_
            refine zA (zW (o:=0) isAgg3 rfl rfl)<|zA (zAC (f:=cB) (l:=l5) (i:=at_ (at_ ((at_ a_p0.caches i1).lists) i2) i3) underlying121 sizeOf4 rfl rfl rfl hb13)<|zm (H':=[.box 26 (zG a_p0),.vec 4 1 (List.map cB (l5.set (at_ (at_ ((at_ a_p0.caches i1).lists) i2) i3).toNat true))]) (zCJ (k:=1) (o:=((at_ (at_ ((at_ a_p0.caches i1).lists) i2) i3).toNat*1)) (f:=cB) (l:=l5) (i:=at_ (at_ ((at_ a_p0.caches i1).lists) i2) i3) (c:=0) (a:=(AV.lit (.bool true))) (z:=true) sizeOf4 rfl rfl (by first | rfl | omega) hb13 rfl rfl rfl rfl rfl)<|zF<|zC<|zA (zB rfl) ?_
            refine zM h fun hb15 h=>zA (zf rfl rfl hb15)<|zA (zD rfl)<|zF ?_
            exact ⟨(n2,(i3+1),(l5.set (at_ (at_ ((at_ a_p0.caches i1).lists) i2) i3).toNat true)),Nat.lt_succ_self _,zAE [0,1] rfl rfl (by kernel_rfl),h⟩
         ·refine zy ?_
          exact ⟨l5,zAE [0,1] rfl rfl (by kernel_rfl),h⟩
       ·
        clear h
        rintro e' H' ⟨l4,hrep,h⟩
        refine zV hrep ?_
        clear hrep
        unfold zDq at h
        refine zC<|zA (zB rfl)<|zM h fun hb5 h=>zA (zf rfl rfl hb5)<|zA (zD rfl)<|zF ?_
        exact ⟨(n1,(i2+1),l4),Nat.lt_succ_self _,zAE [0,1] rfl rfl (by kernel_rfl),h⟩
      ·refine zy ?_
       exact ⟨l3,zAE [0,1] rfl rfl (by kernel_rfl),h⟩
    ·
     clear h
     rintro e' H' ⟨l2,hrep,h⟩
     refine zV hrep ?_
     clear hrep
     unfold zDs at h
     refine zC<|zA (zB rfl)<|zM h fun hb3 h=>zA (zf rfl rfl hb3)<|zA (zD rfl)<|zF ?_
     exact ⟨(n0,(i1+1),l2),Nat.lt_succ_self _,zAE [0,1] rfl rfl (by kernel_rfl),h⟩
   ·refine zy ?_
    exact ⟨zAE [] rfl rfl (by kernel_rfl),h⟩
 ·
  clear h
  rintro e' H' ⟨hrep,h⟩
  refine zV hrep ?_
  clear hrep
  unfold zFY at h
  refine zI<|zC<|zA (zD rfl)<|zF<|zb ?_
  show zAQ _ _ _ _ _ _
  obtain rfl:=Option.some.inj h
  exact zu (zAM rfl rfl)
theorem zKJ {a_a:zJ} {r:Int} (h:zFV a_a=some r):PFn prog 48 [(AV.agg (zG a_a))] (li r):=by
 refine zq func48 rfl ntmps48 results48 rfl ?_
 unfold zFV at h
 refine zI<|zC<|za (H':=[.box 26 (zG a_a)]) (zw (t:=26) rfl)<|zA (zD rfl)<|zF<|zI ?_
 refine zI<|zC<|zA (zK underlying26 rfl rfl sizeOf24 rfl)<|zA (zN isAgg24 rfl rfl rfl rfl)<|zA (zX underlying24 rfl)<|zA (zK underlying26 rfl rfl sizeOf22 rfl) ?_
 refine zA (zN isAgg22 rfl rfl rfl rfl)<|zA (zX underlying22 rfl)<|zA (z7 rfl rfl)<|zF ?_
 refine zY h rfl (fun hb1 h => ?_) (fun hb1 h => ?_)
 ·refine zI<|zC<|zA (zD rfl)<|zF<|zb ?_
  show zAQ _ _ _ _ _ _
  obtain rfl:=Option.some.inj h
  exact zu (zAM rfl rfl)
 ·refine zP ?_
  refine zx (fun e' H'=>Rep 54 0 e' H' (mkE [(1,(AV.ptr 0 0))]) [.box 26 (zG a_a)]∧zCf a_a=some r) ?_ ?_
  ·
   refine zI<|zC<|zA (zD rfl)<|zF<|zQ<|z6 (σ:=Nat×Int) (fun s=>s.1) (fun s e' H'=>match s with | (n0,i1)=>Rep 54 0 e' H' (mkE [(1,(AV.ptr 0 0)),(3,(li i1))]) [.box 26 (zG a_a)]∧zAu a_a n0 i1=some r) (z9,0) ⟨zAE [0] rfl rfl (by kernel_rfl),h⟩ ?_
   clear h
   rintro ⟨n0,i1⟩ e' H' ⟨hrep,h⟩
   cases n0 with
   | zero=>exact absurd (show (none:Option _)=some r from h) (by simp)
   | succ n0 =>
    replace h:zBL a_a (zAu a_a n0) i1=some r:=h
    unfold zBL at h
    refine zV hrep ?_
    clear hrep
    refine zI<|zI<|zC<|zA (zB rfl)<|zA (zK underlying26 rfl rfl sizeOf24 rfl)<|zA (zN isAgg24 rfl rfl rfl rfl) ?_
    refine zA (zX underlying24 rfl)<|zA (ze rfl rfl)<|zF ?_
    refine zY h rfl (fun hb2 h => ?_) (fun hb2 h => ?_)
    ·refine zP ?_
     refine zx (fun e' H'=>Rep 54 0 e' H' (mkE [(1,(AV.ptr 0 0)),(3,(li i1))]) [.box 26 (zG a_a)]∧zDu (zAu a_a n0) i1=some r) ?_ ?_
     ·
      refine zQ<|zI<|zI<|zM h fun hb4 h=>zR h fun x2 hx2 h => ?_
      show AW _ _ _ _ _ _ [.box 26 (zG a_a)]
      refine zAx (n:=54) (m:=0) [.head 0 0,.head 0 0,.head 0 0,.head 0 0,.head 0 0,.head 0 0,.head 0 0,.head 0 0,.head 0 0,.head 0 0] [] [AV.ptr 0 4,ls zH a_a.caches,li i1,(AV.rp (zH (at_ a_a.caches i1)) 0),(AV.agg (zH (at_ a_a.caches i1))),AV.ptr 0 3,ls zO a_a.zones,(li (a_a.zones.length:Int)),li x2,li x2] [[.box 26 (zG a_a)]] (by kernel_rfl) (by kernel_rfl) ⟨?_,?_,?_,?_,?_,?_,?_,?_,?_,?_,trivial⟩ ?_
      ·exact D1 fun e s p=>zK (k:=0) (o:=0) (off:=4) underlying26 rfl rfl sizeOf24 (s 1 rfl)
      ·exact D1 fun e s p=>zN (k:=0) (o:=4) isAgg24 p.1 rfl rfl rfl
      ·exact D1 fun e s p=>zB (s 3 rfl)
      ·exact D1 fun e s p=>zU (f:=zH) (l:=a_a.caches) (i:=i1) underlying24 sizeOf55 (fun _=>rfl) p.1 p.2.1 hb4
      ·exact D1 fun e s p=>zAb (row:=(zH (at_ a_a.caches i1))) (o:=0) (m:=1) (la:=(zH (at_ a_a.caches i1))) isAgg55 sizeOf55 p.1 rfl rfl
      ·exact D1 fun e s p=>zK (k:=0) (o:=0) (off:=3) underlying26 rfl rfl sizeOf23 (s 1 rfl)
      ·exact D1 fun e s p=>zN (k:=0) (o:=3) isAgg23 p.1 rfl rfl rfl
      ·exact D1 fun e s p=>zX (f:=zO) (l:=a_a.zones) underlying23 p.1
      ·
       intro e9 hs9 hp9
       refine zi (r:=(li x2)) (la:=[(AV.agg (zH (at_ a_a.caches i1))),(li (a_a.zones.length:Int))]) func96 rfl (by kernel_rfl) (.fn 96) (zAK hp9.1 (zAK hp9.2.1 rfl)) rfl (zKR hx2) rfl ?_
       exact zF ⟨fun _=>rfl,rfl⟩
      ·exact D1 fun e s p=>zD p.2.2.2.2.2.2.2.2.2.2.1
      intro e11 hs11 hq1
      refine zV (zBY (l:=[(1,(AV.ptr 0 0)),(3,(li i1)),(4,(li x2))]) ⟨hs11 1 rfl,hs11 3 rfl,(hq1 9 (by decide) (by decide)),trivial⟩)<|zI<|zC<|zA (zB (av:=(li x2)) rfl)<|zA (z7 (a:=x2) (b:=0) rfl rfl)<|zF ?_
      refine zY h rfl (fun hb5 h => ?_) (fun hb5 h => ?_)
      ·refine zI<|zC<|zA (zB rfl)<|zA (zD rfl)<|zF<|zb ?_
       show zAQ _ _ _ _ _ _
       obtain rfl:=Option.some.inj h
       exact zu (zAM rfl rfl)
      ·refine zP<|zI<|zC<|zA (zD rfl)<|zF<|zQ ?_
       refine z6 (σ:=Nat×Int) (fun s=>s.1) (fun s e' H'=>match s with | (n1,i2)=>Rep 54 0 e' H' (mkE [(1,(AV.ptr 0 0)),(3,(li i1)),(5,(li i2))]) [.box 26 (zG a_a)]∧zCg (zAu a_a n0) a_a i1 n1 i2=some r) (z9,0) ⟨zAE [0] rfl rfl (by kernel_rfl),h⟩ ?_
       clear h
       rintro ⟨n1,i2⟩ e' H' ⟨hrep,h⟩
       cases n1 with
       | zero=>exact absurd (show (none:Option _)=some r from h) (by simp)
       | succ n1 =>
        replace h:zBO (zAu a_a n0) a_a i1 (zCg (zAu a_a n0) a_a i1 n1) i2=some r:=h
        unfold zBO at h
        refine zV hrep ?_
        clear hrep
        refine zI<|zI<|zC<|zA (zB rfl)<|zA (zK underlying26 rfl rfl sizeOf23 rfl)<|zA (zN isAgg23 rfl rfl rfl rfl) ?_
        refine zA (zX underlying23 rfl)<|zA (ze rfl rfl)<|zF ?_
        refine zY h rfl (fun hb6 h => ?_) (fun hb6 h => ?_)
        ·refine zP<|zI<|zQ<|zI<|zM h fun hb7 h=>zM h fun hb8 h => ?_
         show AW _ _ _ _ _ _ [.box 26 (zG a_a)]
         refine zAx (n:=54) (m:=0) [.head 0 0,.head 0 0,.head 0 0,.head 0 0,.head 0 0,.head 0 0,.head 0 0,.head 0 0,.head 0 0,.head 0 0,.head 0 0,.head 0 0,.head 0 0] [] [AV.ptr 0 4,ls zH a_a.caches,li i1,(AV.rp (zH (at_ a_a.caches i1)) 0),(AV.rp (zH (at_ a_a.caches i1)) 0),(ls (cS cI) ((at_ a_a.caches i1).lists)),li i2,(AV.rp ((cS cI) (at_ ((at_ a_a.caches i1).lists) i2)) 0),(ls cI (at_ ((at_ a_a.caches i1).lists) i2)),(li ((at_ ((at_ a_a.caches i1).lists) i2).length:Int)),AV.ptr 0 2,li a_a.high,(AV.lit (.bool (decide (a_a.high<((at_ ((at_ a_a.caches i1).lists) i2).length:Int)))))] [[.box 26 (zG a_a)]] (by kernel_rfl) (by kernel_rfl) ⟨?_,?_,?_,?_,?_,?_,?_,?_,?_,?_,?_,?_,?_,trivial⟩ ?_
         ·exact D1 fun e s p=>zK (k:=0) (o:=0) (off:=4) underlying26 rfl rfl sizeOf24 (s 1 rfl)
         ·exact D1 fun e s p=>zN (k:=0) (o:=4) isAgg24 p.1 rfl rfl rfl
         ·exact D1 fun e s p=>zB (s 3 rfl)
         ·exact D1 fun e s p=>zU (f:=zH) (l:=a_a.caches) (i:=i1) underlying24 sizeOf55 (fun _=>rfl) p.1 p.2.1 hb7
         ·exact D1 fun e s p=>zBQ (row:=(zH (at_ a_a.caches i1))) (o:=0) (off:=0) underlying55 rfl rfl sizeOf53 p.1
         ·exact D1 fun e s p=>zW (o:=0) isAgg53 p.1 rfl
         ·exact D1 fun e s p=>zB (s 5 rfl)
         ·exact D1 fun e s p=>zU (f:=(cS cI)) (l:=(at_ a_a.caches i1).lists) (i:=i2) underlying53 sizeOf22 (fun _=>rfl) p.1 p.2.1 hb8
         ·exact D1 fun e s p=>zW (o:=0) isAgg22 p.1 rfl
         ·exact D1 fun e s p=>zX (f:=cI) (l:=at_ ((at_ a_a.caches i1).lists) i2) underlying22 p.1
         ·exact D1 fun e s p=>zK (k:=0) (o:=0) (off:=2) underlying26 rfl rfl sizeOf3 (s 1 rfl)
         ·exact D1 fun e s p=>zN (k:=0) (o:=2) isAgg3 p.1 rfl rfl rfl
         ·exact D1 fun e s p=>zAl (a:=((at_ ((at_ a_a.caches i1).lists) i2).length:Int)) (b:=a_a.high) p.1 p.2.1
         intro e25 hs25 hq2
         refine zV (zBY (l:=[(1,(AV.ptr 0 0)),(3,(li i1)),(5,(li i2)),(51,(AV.lit (.bool (decide (a_a.high<((at_ ((at_ a_a.caches i1).lists) i2).length:Int))))))]) ⟨hs25 1 rfl,hs25 3 rfl,hs25 5 rfl,(hq2 12 (by decide) (by decide)),trivial⟩) ?_
         refine zY h rfl (fun hb9 h => ?_) (fun hb9 h => ?_)
         ·refine zI<|zC<|zA (zD rfl)<|zF<|zb ?_
          show zAQ _ _ _ _ _ _
          obtain rfl:=Option.some.inj h
          exact zu (zAM rfl rfl)
         ·refine zP<|zC<|zA (zB rfl)<|zM h fun hb10 h=>zA (zf rfl rfl hb10)<|zA (zD rfl) ?_
          refine zF ?_
          exact ⟨(n1,(i2+1)),Nat.lt_succ_self _,zAE [0] rfl rfl (by kernel_rfl),h⟩
        ·refine zy ?_
         exact ⟨zAE [0] rfl rfl (by kernel_rfl),h⟩
     ·
      clear h
      rintro e' H' ⟨hrep,h⟩
      refine zV hrep ?_
      clear hrep
      unfold zDu at h
      refine zC<|zA (zB rfl)<|zM h fun hb3 h=>zA (zf rfl rfl hb3)<|zA (zD rfl)<|zF ?_
      exact ⟨(n0,(i1+1)),Nat.lt_succ_self _,zAE [0] rfl rfl (by kernel_rfl),h⟩
    ·refine zy ?_
     exact ⟨zAE [0] rfl rfl (by kernel_rfl),h⟩
  ·
   clear h
   rintro e' H' ⟨hrep,h⟩
   refine zV hrep ?_
   clear hrep
   unfold zCf at h
   refine zI<|zC<|zA (zS (k:=0) (o:=0) (m:=5) isAgg26 sizeOf26 rfl rfl rfl rfl rfl)<|zR h fun x1 hx1 h=>zi func97 rfl (by kernel_rfl) (.fn 97) rfl rfl (zKK hx1) rfl<|zA (zD rfl) ?_
   refine zF<|zb ?_
   show zAQ _ _ _ _ _ _
   obtain rfl:=Option.some.inj h
   exact zu (zAM rfl rfl)
theorem zMp {a_a:zJ} {r:Int} (h:zH9 a_a=some r):PFn prog 14 [(AV.agg (zG a_a))] (li r):=by
 refine zq func14 rfl ntmps14 results14 rfl ?_
 unfold zH9 at h
 refine zI<|zC<|za (H':=[.box 26 (zG a_a)]) (zw (t:=26) rfl)<|zA (zD rfl)<|zF<|zI ?_
 refine zI<|zC<|zA (zK underlying26 rfl rfl sizeOf22 rfl)<|zA (zN isAgg22 rfl rfl rfl rfl)<|zA (zK underlying26 rfl rfl sizeOf3 rfl)<|zA (zN isAgg3 rfl rfl rfl rfl) ?_
 refine zA (zK underlying26 rfl rfl sizeOf3 rfl)<|zA (zN isAgg3 rfl rfl rfl rfl)<|zA (zK underlying26 rfl rfl sizeOf23 rfl)<|zA (zN isAgg23 rfl rfl rfl rfl)<|zA (zX underlying23 rfl)<|zR h fun x1 hx1 h => ?_
 refine zi func46 rfl (by kernel_rfl) (.fn 46) rfl rfl (zLp hx1) rfl<|zA (zA6 (t:=x1) rfl)<|zF ?_
 refine zY h rfl (fun hb1 h => ?_) (fun hb1 h => ?_)
 ·refine zI<|zC<|zA (zD rfl)<|zF<|zb ?_
  show zAQ _ _ _ _ _ _
  obtain rfl:=Option.some.inj h
  exact zu (zAM rfl rfl)
 ·refine zP<|zI<|zC<|zA (zD rfl)<|zF ?_
  refine zx (fun e' H'=>Rep 51 0 e' H' (mkE [(1,(AV.ptr 0 0))]) [.box 26 (zG a_a)]∧zFd a_a=some r) ?_ ?_
  ·
   refine zI<|zC<|zA (zD rfl)<|zF<|zQ<|z6 (σ:=Nat×Int×Int) (fun s=>s.1) (fun s e' H'=>match s with | (n0,i1,i2)=>Rep 51 0 e' H' (mkE [(1,(AV.ptr 0 0)),(3,(li i1)),(4,(li i2))]) [.box 26 (zG a_a)]∧zFl a_a n0 i1 i2=some r) (z9,0,0) ⟨zAE [0] rfl rfl (by kernel_rfl),h⟩ ?_
   clear h
   rintro ⟨n0,i1,i2⟩ e' H' ⟨hrep,h⟩
   cases n0 with
   | zero=>exact absurd (show (none:Option _)=some r from h) (by simp)
   | succ n0 =>
    replace h:zDO a_a (zFl a_a n0) i1 i2=some r:=h
    unfold zDO at h
    refine zV hrep ?_
    clear hrep
    refine zI<|zI<|zC<|zA (zB rfl)<|zA (zK underlying26 rfl rfl sizeOf23 rfl)<|zA (zN isAgg23 rfl rfl rfl rfl) ?_
    refine zA (zX underlying23 rfl)<|zA (ze rfl rfl)<|zF ?_
    refine zY h rfl (fun hb2 h => ?_) (fun hb2 h => ?_)
    ·refine zP<|zI<|zQ<|zI<|zI<|zC ?_
     refine zA (zK underlying26 rfl rfl sizeOf23 rfl)<|zA (zN isAgg23 rfl rfl rfl rfl)<|zA (zB rfl)<|zM h fun hb3 h=>zA (zU underlying23 sizeOf51 (fun _=>rfl) rfl rfl hb3)<|zA (zAb (row:=(zO (at_ a_a.zones i2))) (o:=0) (m:=10) (la:=(zO (at_ a_a.zones i2))) isAgg51 sizeOf51 rfl rfl rfl) ?_
     refine zR h fun x3 hx3 h=>zi func47 rfl (by kernel_rfl) (.fn 47) rfl rfl (zIn hx3) rfl<|zA (zD rfl)<|zF<|zI<|zC ?_
     refine zA (zB rfl)<|zA (z7 rfl rfl)<|zF ?_
     refine zY h rfl (fun hb4 h => ?_) (fun hb4 h => ?_)
     ·refine zI<|zC<|zA (zB rfl)<|zA (zD rfl)<|zF<|zb ?_
      show zAQ _ _ _ _ _ _
      obtain rfl:=Option.some.inj h
      exact zu (zAM rfl rfl)
     ·refine zP<|zI<|zI<|zC<|zA (zK underlying26 rfl rfl sizeOf23 rfl)<|zA (zN isAgg23 rfl rfl rfl rfl) ?_
      refine zA (zB rfl)<|zA (zU underlying23 sizeOf51 (fun _=>rfl) rfl rfl hb3)<|zA (zBQ (row:=(zO (at_ a_a.zones i2))) (o:=0) (off:=2) underlying51 rfl rfl sizeOf3 rfl)<|zA (zW (o:=2) isAgg3 rfl rfl)<|zA (zB rfl)<|zA (z7 rfl rfl) ?_
      refine zF ?_
      refine zY h rfl (fun hb5 h => ?_) (fun hb5 h => ?_)
      ·refine zI<|zC<|zA (zD rfl)<|zF<|zb ?_
       show zAQ _ _ _ _ _ _
       obtain rfl:=Option.some.inj h
       exact zu (zAM rfl rfl)
      ·refine zP<|zC<|zA (zB rfl)<|zA (zK underlying26 rfl rfl sizeOf23 rfl)<|zA (zN isAgg23 rfl rfl rfl rfl)<|zA (zB rfl) ?_
       refine zA (zU underlying23 sizeOf51 (fun _=>rfl) rfl rfl hb3)<|zA (zBQ (row:=(zO (at_ a_a.zones i2))) (o:=0) (off:=3) underlying51 rfl rfl sizeOf3 rfl)<|zA (zW (o:=3) isAgg3 rfl rfl)<|zM h fun hb6 h=>zA (zf rfl rfl hb6)<|zA (zD rfl) ?_
       refine zF<|zC<|zA (zB rfl)<|zM h fun hb7 h=>zA (zf rfl rfl hb7)<|zA (zD rfl) ?_
       refine zF ?_
       exact ⟨(n0,(i1+((at_ a_a.zones i2).count)),(i2+1)),Nat.lt_succ_self _,zAE [0] rfl rfl (by kernel_rfl),h⟩
    ·refine zy ?_
     exact ⟨zAE [0] rfl rfl (by kernel_rfl),h⟩
  ·
   clear h
   rintro e' H' ⟨hrep,h⟩
   refine zV hrep ?_
   clear hrep
   unfold zFd at h
   refine zI<|zC<|zA (zS (k:=0) (o:=0) (m:=5) isAgg26 sizeOf26 rfl rfl rfl rfl rfl)<|zR h fun x2 hx2 h=>zi func48 rfl (by kernel_rfl) (.fn 48) rfl rfl (zKJ hx2) rfl<|zA (zD rfl) ?_
   refine zF<|zb ?_
   show zAQ _ _ _ _ _ _
   obtain rfl:=Option.some.inj h
   exact zu (zAM rfl rfl)
theorem zNR {a_a:zJ} {a_frame:Int} {r:Int} (h:zI0 a_a a_frame=some r):PFn prog 49 [(AV.agg (zG a_a)),li a_frame] (li r):=by
 refine zq func49 rfl ntmps49 results49 rfl ?_
 unfold zI0 at h
 refine zI<|zC<|za (H':=[.box 26 (zG a_a)]) (zw (t:=26) rfl)<|zA (zD rfl)<|zF ?_
 refine zx (fun e' H'=>Rep 39 0 e' H' (mkE []) []∧zJO  = some r) ?_ ?_
 ·
  refine zI<|zC<|zA (zD rfl)<|zF<|zQ<|z6 (σ:=Nat×Int) (fun s=>s.1) (fun s e' H'=>match s with | (n0,i1)=>Rep 39 0 e' H' (mkE [(1,(li a_frame)),(2,(AV.ptr 0 0)),(5,(li i1))]) [.box 26 (zG a_a)]∧zGk a_a a_frame n0 i1=some r) (z9,0) ⟨zAE [0] rfl rfl (by kernel_rfl),h⟩ ?_
  clear h
  rintro ⟨n0,i1⟩ e' H' ⟨hrep,h⟩
  cases n0 with
  | zero=>exact absurd (show (none:Option _)=some r from h) (by simp)
  | succ n0 =>
   replace h:zEK a_a a_frame (zGk a_a a_frame n0) i1=some r:=h
   unfold zEK at h
   refine zV hrep ?_
   clear hrep
   refine zI<|zI<|zC<|zA (zB rfl)<|zA (zK underlying26 rfl rfl sizeOf23 rfl)<|zA (zN isAgg23 rfl rfl rfl rfl) ?_
   refine zA (zX underlying23 rfl)<|zA (ze rfl rfl)<|zF ?_
   refine zY h rfl (fun hb1 h => ?_) (fun hb1 h => ?_)
   ·refine zP<|zI<|zQ<|zI<|zM h fun hb2 h=>zM h fun hb3 h => ?_
    show AW _ _ _ _ _ _ [.box 26 (zG a_a)]
    refine zAx (n:=39) (m:=0) [.head 0 0,.head 0 0,.head 0 0,.head 0 0,.head 0 0,.head 0 0,.head 0 0,.head 0 0,.head 0 0,.head 0 0,.head 0 0,.head 0 0,.head 0 0,.head 0 0,.head 0 0,.head 0 0,.head 0 0,.head 0 0,.head 0 0,.head 0 0,.head 0 0,.head 0 0,.head 0 0,.head 0 0,.head 0 0] [] [li a_frame,AV.ptr 0 3,ls zO a_a.zones,li i1,(AV.rp (zO (at_ a_a.zones i1)) 0),(AV.rp (zO (at_ a_a.zones i1)) 2),(li ((at_ a_a.zones i1).start)),(AV.lit (.bool (decide (((at_ a_a.zones i1).start)≤a_frame)))),(AV.lit (.bool (decide (((at_ a_a.zones i1).start)≤a_frame)))),(bif decide (((at_ a_a.zones i1).start)≤a_frame) then (li a_frame) else .lit undef),(bif decide (((at_ a_a.zones i1).start)≤a_frame) then (AV.ptr 0 3) else .lit undef),(bif decide (((at_ a_a.zones i1).start)≤a_frame) then (ls zO a_a.zones) else .lit undef),(bif decide (((at_ a_a.zones i1).start)≤a_frame) then (li i1) else .lit undef),(bif decide (((at_ a_a.zones i1).start)≤a_frame) then (AV.rp (zO (at_ a_a.zones i1)) 0) else .lit undef),(bif decide (((at_ a_a.zones i1).start)≤a_frame) then (AV.rp (zO (at_ a_a.zones i1)) 2) else .lit undef),(bif decide (((at_ a_a.zones i1).start)≤a_frame) then (li ((at_ a_a.zones i1).start)) else .lit undef),(bif decide (((at_ a_a.zones i1).start)≤a_frame) then (AV.ptr 0 3) else .lit undef),(bif decide (((at_ a_a.zones i1).start)≤a_frame) then (ls zO a_a.zones) else .lit undef),(bif decide (((at_ a_a.zones i1).start)≤a_frame) then (li i1) else .lit undef),(bif decide (((at_ a_a.zones i1).start)≤a_frame) then (AV.rp (zO (at_ a_a.zones i1)) 0) else .lit undef),(bif decide (((at_ a_a.zones i1).start)≤a_frame) then (AV.rp (zO (at_ a_a.zones i1)) 3) else .lit undef),(bif decide (((at_ a_a.zones i1).start)≤a_frame) then (li ((at_ a_a.zones i1).count)) else .lit undef),(bif decide (((at_ a_a.zones i1).start)≤a_frame) then (li (((at_ a_a.zones i1).start)+((at_ a_a.zones i1).count))) else .lit undef),(bif decide (((at_ a_a.zones i1).start)≤a_frame) then (AV.lit (.bool (decide (a_frame<(((at_ a_a.zones i1).start)+((at_ a_a.zones i1).count)))))) else .lit undef),(AV.lit (.bool ((decide (((at_ a_a.zones i1).start)≤a_frame))&&(decide (a_frame<(((at_ a_a.zones i1).start)+((at_ a_a.zones i1).count)))))))] [[.box 26 (zG a_a)]] (by kernel_rfl) (by kernel_rfl) ⟨?_,?_,?_,?_,?_,?_,?_,?_,?_,?_,?_,?_,?_,?_,?_,?_,?_,?_,?_,?_,?_,?_,?_,?_,?_,trivial⟩ ?_
    ·exact D1 fun e s p=>zB (s 1 rfl)
    ·exact D1 fun e s p=>zK (k:=0) (o:=0) (off:=3) underlying26 rfl rfl sizeOf23 (s 2 rfl)
    ·exact D1 fun e s p=>zN (k:=0) (o:=3) isAgg23 p.1 rfl rfl rfl
    ·exact D1 fun e s p=>zB (s 5 rfl)
    ·exact D1 fun e s p=>zU (f:=zO) (l:=a_a.zones) (i:=i1) underlying23 sizeOf51 (fun _=>rfl) p.1 p.2.1 hb2
    ·exact D1 fun e s p=>zBQ (row:=(zO (at_ a_a.zones i1))) (o:=0) (off:=2) underlying51 rfl rfl sizeOf3 p.1
    ·exact D1 fun e s p=>zW (o:=2) isAgg3 p.1 rfl
    ·exact D1 fun e s p=>zAp (a:=a_frame) (b:=(at_ a_a.zones i1).start) p.1 p.2.1
    ·exact D1 fun e s p=>zB p.1
    ·
     intro e10 hs10 hp10
     refine zo (g:=21) (s:=decide (((at_ a_a.zones i1).start)≤a_frame)) rfl hp10.1 (fun hc16=>zt.step (zB (av:=(li a_frame)) (hs10 1 rfl))) ?_
     exact zF ⟨fun _=>rfl,rfl⟩
    ·
     intro e11 hs11 hp11
     refine zo (g:=21) (s:=decide (((at_ a_a.zones i1).start)≤a_frame)) rfl hp11.1 (fun hc17=>zt.step (zK (k:=0) (o:=0) (off:=3) underlying26 rfl rfl sizeOf23 (hs11 2 rfl))) ?_
     exact zF ⟨fun _=>rfl,rfl⟩
    ·
     intro e12 hs12 hp12
     refine zo (g:=21) (s:=decide (((at_ a_a.zones i1).start)≤a_frame)) rfl hp12.2.1 (fun hc18=>zt.step (zN (k:=0) (o:=3) (a:=(ls zO a_a.zones)) isAgg23 (z5 hp12.1 hc18) rfl rfl rfl)) ?_
     exact zF ⟨fun _=>rfl,rfl⟩
    ·
     intro e13 hs13 hp13
     refine zo (g:=21) (s:=decide (((at_ a_a.zones i1).start)≤a_frame)) rfl hp13.1 (fun hc19=>zt.step (zB (av:=(li i1)) (hs13 5 rfl))) ?_
     exact zF ⟨fun _=>rfl,rfl⟩
    ·
     intro e14 hs14 hp14
     refine zo (g:=21) (s:=decide (((at_ a_a.zones i1).start)≤a_frame)) rfl hp14.2.2.1 (fun hc20=>zt.step (zU (f:=zO) (l:=a_a.zones) (i:=i1) underlying23 sizeOf51 (fun _=>rfl) (z5 hp14.1 hc20) (z5 hp14.2.1 hc20) hb2)) ?_
     exact zF ⟨fun _=>rfl,rfl⟩
    ·
     intro e15 hs15 hp15
     refine zo (g:=21) (s:=decide (((at_ a_a.zones i1).start)≤a_frame)) rfl hp15.2.1 (fun hc21=>zt.step (zBQ (row:=(zO (at_ a_a.zones i1))) (o:=0) (off:=2) underlying51 rfl rfl sizeOf3 (z5 hp15.1 hc21))) ?_
     exact zF ⟨fun _=>rfl,rfl⟩
    ·
     intro e16 hs16 hp16
     refine zo (g:=21) (s:=decide (((at_ a_a.zones i1).start)≤a_frame)) rfl hp16.2.1 (fun hc22=>zt.step (zW (row:=(zO (at_ a_a.zones i1))) (o:=2) (a:=(li ((at_ a_a.zones i1).start))) isAgg3 (z5 hp16.1 hc22) rfl)) ?_
     exact zF ⟨fun _=>rfl,rfl⟩
    ·
     intro e17 hs17 hp17
     refine zo (g:=21) (s:=decide (((at_ a_a.zones i1).start)≤a_frame)) rfl hp17.1 (fun hc23=>zt.step (zK (k:=0) (o:=0) (off:=3) underlying26 rfl rfl sizeOf23 (hs17 2 rfl))) ?_
     exact zF ⟨fun _=>rfl,rfl⟩
    ·
     intro e18 hs18 hp18
     refine zo (g:=21) (s:=decide (((at_ a_a.zones i1).start)≤a_frame)) rfl hp18.2.1 (fun hc24=>zt.step (zN (k:=0) (o:=3) (a:=(ls zO a_a.zones)) isAgg23 (z5 hp18.1 hc24) rfl rfl rfl)) ?_
     exact zF ⟨fun _=>rfl,rfl⟩
    ·
     intro e19 hs19 hp19
     refine zo (g:=21) (s:=decide (((at_ a_a.zones i1).start)≤a_frame)) rfl hp19.1 (fun hc25=>zt.step (zB (av:=(li i1)) (hs19 5 rfl))) ?_
     exact zF ⟨fun _=>rfl,rfl⟩
    ·
     intro e20 hs20 hp20
     refine zo (g:=21) (s:=decide (((at_ a_a.zones i1).start)≤a_frame)) rfl hp20.2.2.1 (fun hc26=>zt.step (zU (f:=zO) (l:=a_a.zones) (i:=i1) underlying23 sizeOf51 (fun _=>rfl) (z5 hp20.1 hc26) (z5 hp20.2.1 hc26) hb2)) ?_
     exact zF ⟨fun _=>rfl,rfl⟩
    ·
     intro e21 hs21 hp21
     refine zo (g:=21) (s:=decide (((at_ a_a.zones i1).start)≤a_frame)) rfl hp21.2.1 (fun hc27=>zt.step (zBQ (row:=(zO (at_ a_a.zones i1))) (o:=0) (off:=3) underlying51 rfl rfl sizeOf3 (z5 hp21.1 hc27))) ?_
     exact zF ⟨fun _=>rfl,rfl⟩
    ·
     intro e22 hs22 hp22
     refine zo (g:=21) (s:=decide (((at_ a_a.zones i1).start)≤a_frame)) rfl hp22.2.1 (fun hc28=>zt.step (zW (row:=(zO (at_ a_a.zones i1))) (o:=3) (a:=(li ((at_ a_a.zones i1).count))) isAgg3 (z5 hp22.1 hc28) rfl)) ?_
     exact zF ⟨fun _=>rfl,rfl⟩
    ·
     intro e23 hs23 hp23
     refine zo (g:=21) (s:=decide (((at_ a_a.zones i1).start)≤a_frame)) rfl hp23.2.2.1 (fun hc29=>zt.step (zf (a:=(at_ a_a.zones i1).start) (b:=(at_ a_a.zones i1).count) (z5 hp23.1 hc29) (z5 hp23.2.1 hc29) (zGd hb3 hc29))) ?_
     exact zF ⟨fun _=>rfl,rfl⟩
    ·
     intro e24 hs24 hp24
     refine zo (g:=21) (s:=decide (((at_ a_a.zones i1).start)≤a_frame)) rfl hp24.2.2.1 (fun hc30=>zt.step (ze (a:=a_frame) (b:=((at_ a_a.zones i1).start)+((at_ a_a.zones i1).count)) (z5 hp24.1 hc30) (z5 hp24.2.1 hc30))) ?_
     exact zF ⟨fun _=>rfl,rfl⟩
    ·exact D1 fun e s p=>zz (s:=decide (((at_ a_a.zones i1).start)≤a_frame)) (q:=decide (a_frame<(((at_ a_a.zones i1).start)+((at_ a_a.zones i1).count)))) (j := .lit undef) p.1 p.2.1
    intro e26 hs26 hq1
    refine zV (zBY (l:=[(1,(li a_frame)),(2,(AV.ptr 0 0)),(5,(li i1)),(37,(AV.lit (.bool ((decide (((at_ a_a.zones i1).start)≤a_frame))&&(decide (a_frame<(((at_ a_a.zones i1).start)+((at_ a_a.zones i1).count))))))))]) ⟨hs26 1 rfl,hs26 2 rfl,hs26 5 rfl,(hq1 24 (by decide) (by decide)),trivial⟩) ?_
    refine zY h rfl (fun hb4 h => ?_) (fun hb4 h => ?_)
    ·refine zI<|zC<|zA (zB rfl)<|zA (zD rfl)<|zF<|zb ?_
     show zAQ _ _ _ _ _ _
     obtain rfl:=Option.some.inj h
     exact zu (zAM rfl rfl)
    ·refine zP<|zC<|zA (zB rfl)<|zM h fun hb5 h=>zA (zf rfl rfl hb5)<|zA (zD rfl) ?_
     refine zF ?_
     exact ⟨(n0,(i1+1)),Nat.lt_succ_self _,zAE [0] rfl rfl (by kernel_rfl),h⟩
   ·refine zy ?_
    exact ⟨zAE [] rfl rfl (by kernel_rfl),h⟩
 ·
  clear h
  rintro e' H' ⟨hrep,h⟩
  refine zV hrep ?_
  clear hrep
  unfold zJO at h
  refine zI<|zC<|zA (zD rfl)<|zF<|zb ?_
  show zAQ _ _ _ _ _ _
  obtain rfl:=Option.some.inj h
  exact zu (zAM rfl rfl)
theorem zMc {a_a:zJ} {a_zone:Int} {a_frame:Int} {r:Int} (h:zIc a_a a_zone a_frame=some r):PFn prog 78 [(AV.agg (zG a_a)),li a_zone,li a_frame] (li r):=by
 refine zq func78 rfl ntmps78 results78 rfl ?_
 unfold zIc at h
 refine zI<|zC<|za (H':=[.box 26 (zG a_a)]) (zw (t:=26) rfl)<|zA (zD rfl)<|zF ?_
 refine zx (fun e' H'=>Rep 45 0 e' H' (mkE []) []∧zIR  = some r) ?_ ?_
 ·
  refine zI<|zC<|zA (zD rfl)<|zF<|zQ<|z6 (σ:=Nat×Int) (fun s=>s.1) (fun s e' H'=>match s with | (n0,i1)=>Rep 45 0 e' H' (mkE [(1,(li a_zone)),(2,(li a_frame)),(3,(AV.ptr 0 0)),(7,(li i1))]) [.box 26 (zG a_a)]∧zA8 a_a a_zone a_frame n0 i1=some r) (z9,0) ⟨zAE [0] rfl rfl (by kernel_rfl),h⟩ ?_
  clear h
  rintro ⟨n0,i1⟩ e' H' ⟨hrep,h⟩
  cases n0 with
  | zero=>exact absurd (show (none:Option _)=some r from h) (by simp)
  | succ n0 =>
   replace h:zCx a_a a_zone a_frame (zA8 a_a a_zone a_frame n0) i1=some r:=h
   unfold zCx at h
   refine zV hrep ?_
   clear hrep
   refine zI<|zI<|zC<|zA (zB rfl)<|zA (zK underlying26 rfl rfl sizeOf24 rfl)<|zA (zN isAgg24 rfl rfl rfl rfl) ?_
   refine zA (zX underlying24 rfl)<|zA (ze rfl rfl)<|zF ?_
   refine zY h rfl (fun hb1 h => ?_) (fun hb1 h => ?_)
   ·refine zP ?_
    refine zx (fun e' H'=>Rep 45 0 e' H' (mkE [(1,(li a_zone)),(2,(li a_frame)),(3,(AV.ptr 0 0)),(7,(li i1))]) [.box 26 (zG a_a)]∧zGm (zA8 a_a a_zone a_frame n0) i1=some r) ?_ ?_
    ·
     refine zQ<|zI<|zC<|zA (zD rfl)<|zF<|zQ ?_
     refine z6 (σ:=Nat×Int) (fun s=>s.1) (fun s e' H'=>match s with | (n1,i2)=>Rep 45 0 e' H' (mkE [(1,(li a_zone)),(2,(li a_frame)),(3,(AV.ptr 0 0)),(7,(li i1)),(8,(li i2))]) [.box 26 (zG a_a)]∧zBy (zA8 a_a a_zone a_frame n0) a_a a_zone a_frame i1 n1 i2=some r) (z9,0) ⟨zAE [0] rfl rfl (by kernel_rfl),h⟩ ?_
     clear h
     rintro ⟨n1,i2⟩ e' H' ⟨hrep,h⟩
     cases n1 with
     | zero=>exact absurd (show (none:Option _)=some r from h) (by simp)
     | succ n1 =>
      replace h:zCw (zA8 a_a a_zone a_frame n0) a_a a_zone a_frame i1 (zBy (zA8 a_a a_zone a_frame n0) a_a a_zone a_frame i1 n1) i2=some r:=h
      unfold zCw at h
      refine zV hrep ?_
      clear hrep
      refine zI<|zI<|zC<|zA (zB rfl)<|zA (zK underlying26 rfl rfl sizeOf24 rfl)<|zA (zN isAgg24 rfl rfl rfl rfl) ?_
      refine zA (zB rfl)<|zM h fun hb3 h=>zA (zU underlying24 sizeOf55 (fun _=>rfl) rfl rfl hb3)<|zA (zBQ (row:=(zH (at_ a_a.caches i1))) (o:=0) (off:=0) underlying55 rfl rfl sizeOf53 rfl)<|zA (zW (o:=0) isAgg53 rfl rfl)<|zA (zB rfl) ?_
      refine zM h fun hb4 h=>zA (zU underlying53 sizeOf22 (fun _=>rfl) rfl rfl hb4)<|zA (zW (o:=0) isAgg22 rfl rfl)<|zA (zX underlying22 rfl)<|zA (ze rfl rfl)<|zF ?_
      refine zY h rfl (fun hb5 h => ?_) (fun hb5 h => ?_)
      ·refine zP<|zI<|zQ<|zI<|zC<|zA (zK underlying26 rfl rfl sizeOf24 rfl) ?_
       refine zA (zN isAgg24 rfl rfl rfl rfl)<|zA (zB rfl)<|zA (zU underlying24 sizeOf55 (fun _=>rfl) rfl rfl hb3)<|zA (zBQ (row:=(zH (at_ a_a.caches i1))) (o:=0) (off:=0) underlying55 rfl rfl sizeOf53 rfl)<|zA (zW (o:=0) isAgg53 rfl rfl)<|zA (zB rfl) ?_
       refine zA (zU underlying53 sizeOf22 (fun _=>rfl) rfl rfl hb4)<|zA (zW (o:=0) isAgg22 rfl rfl)<|zA (zB rfl)<|zM h fun hb6 h=>zA (zU underlying22 sizeOf3 (fun _=>rfl) rfl rfl hb6)<|zA (zW (o:=0) isAgg3 rfl rfl) ?_
       refine zA (zB rfl)<|zA (zBR rfl rfl)<|zF ?_
       refine zY h rfl (fun hb7 h => ?_) (fun hb7 h => ?_)
       ·refine zI<|zC<|zA (zB rfl)<|zA (zD rfl)<|zF<|zb ?_
        show zAQ _ _ _ _ _ _
        obtain rfl:=Option.some.inj h
        exact zu (zAM rfl rfl)
       ·refine zP<|zC<|zA (zB rfl)<|zM h fun hb8 h=>zA (zf rfl rfl hb8)<|zA (zD rfl) ?_
        refine zF ?_
        exact ⟨(n1,(i2+1)),Nat.lt_succ_self _,zAE [0] rfl rfl (by kernel_rfl),h⟩
      ·refine zy ?_
       exact ⟨zAE [0] rfl rfl (by kernel_rfl),h⟩
    ·
     clear h
     rintro e' H' ⟨hrep,h⟩
     refine zV hrep ?_
     clear hrep
     unfold zGm at h
     refine zC<|zA (zB rfl)<|zM h fun hb2 h=>zA (zf rfl rfl hb2)<|zA (zD rfl)<|zF ?_
     exact ⟨(n0,(i1+1)),Nat.lt_succ_self _,zAE [0] rfl rfl (by kernel_rfl),h⟩
   ·refine zy ?_
    exact ⟨zAE [] rfl rfl (by kernel_rfl),h⟩
 ·
  clear h
  rintro e' H' ⟨hrep,h⟩
  refine zV hrep ?_
  clear hrep
  unfold zIR at h
  refine zI<|zC<|zA (zD rfl)<|zF<|zb ?_
  show zAQ _ _ _ _ _ _
  obtain rfl:=Option.some.inj h
  exact zu (zAM rfl rfl)
theorem zNy {a_a:zJ} {a_zone:Int} {a_frame:Int} {r:Bool} (h:zIz a_a a_zone a_frame=some r):PFn prog 51 [(AV.agg (zG a_a)),li a_zone,li a_frame] (AV.lit (.bool r)):=by
 refine zq func51 rfl ntmps51 results51 rfl ?_
 unfold zIz at h
 refine zI<|zC<|za (H':=[.box 26 (zG a_a)]) (zw (t:=26) rfl)<|zA (zD rfl)<|zF<|zI ?_
 refine zC<|zA (zK underlying26 rfl rfl sizeOf23 rfl)<|zA (zN isAgg23 rfl rfl rfl rfl)<|zA (zB rfl)<|zM h fun hb1 h=>zA (zU underlying23 sizeOf51 (fun _=>rfl) rfl rfl hb1) ?_
 refine zA (zAb (row:=(zO (at_ a_a.zones a_zone))) (o:=0) (m:=10) (la:=(zO (at_ a_a.zones a_zone))) isAgg51 sizeOf51 rfl rfl rfl)<|zA (zB rfl)<|zR h fun x1 hx1 h=>zi func98 rfl (by kernel_rfl) (.fn 98) rfl rfl (zJy hx1) rfl<|zA (zB rfl)<|zT rfl rfl (fun hc1=>zt.step (zS (k:=0) (o:=0) (m:=5) isAgg26 sizeOf26 rfl rfl rfl rfl rfl)) ?_
 refine zT rfl rfl (fun hc2=>zt.step (zB rfl))<|zT rfl rfl (fun hc3=>zt.step (zB rfl))<|zR h fun x2 hx2 h=>zCA (g:=14) (s:=x1) (r':=(li x2)) rfl rfl (fun hc4=>⟨78,_,_,[],[(AV.agg (zG a_a)),li a_zone,li a_frame],[(AV.agg (zG a_a)),li a_zone,li a_frame],li x2,[],func78,rfl,by kernel_rfl,.fn 78,(zAK (z5 rfl hc4) (zAK (z5 rfl hc4) (zAK (z5 rfl hc4) rfl))),⟨zAt.nr rfl,zAt.nr rfl,zAt.nr rfl,trivial⟩,zMc (zF3 hc4 hx2),.inl rfl,rfl⟩)<|zT rfl rfl (fun hc5=>zt.step (zAp (z5 rfl hc5) rfl))<|zA (zd rfl rfl) ?_
 refine zA (zD rfl)<|zF<|zb ?_
 show zAQ _ _ _ _ _ _
 obtain rfl:=Option.some.inj h
 exact zu (zAM rfl rfl)
theorem zKQ {a_c:zL} {r:zL} (h:zIN a_c=some r):PFn prog 114 [(AV.agg (zH a_c))] (AV.agg ([AV.osl 22 1 (List.map (cO 3 1 cI) r.lists)]++[])):=by
 refine zq func114 rfl ntmps114 results114 rfl ?_
 unfold zIN at h
 refine zI<|zC<|za (H':=[.box 55 (zH a_c)]) (zw (t:=55) rfl)<|za (H':=[.box 55 (zH a_c),.box 55 [(ls (cS cI) ([]:List (List Int)))]]) (zv (t:=55) (vs:=[.slice none 0 0]) (cs:=[.sl false []]) zeroValue55 (by kernel_rfl) rfl ⟨zh.nils,trivial⟩)<|zF<|zI ?_
 refine zC<|za (H':=[.box 55 (zH a_c),.box 55 [(ls (cS cI) ([]:List (List Int)))],.box 55 [AV.osl 22 1 (List.map (cO 3 1 cI) ([]:List (List Int)))]]) (zv (t:=55) (vs:=[.slice none 0 0]) (cs:=[.osl 22 1 []]) zeroValue55 (by kernel_rfl) rfl ⟨zh.nilo,trivial⟩)<|zF ?_
 refine zx (fun e' H' => ∃ (l1:List (List Int)),Rep 25 0 e' H' (mkE [(2,(AV.ptr 0 0)),(3,(AV.ptr 1 0))]) [.box 55 [(ls (cS cI) ([]:List (List Int)))],.box 55 [AV.osl 22 1 (List.map (cO 3 1 cI) l1)]]∧zIm l1=some r) ?_ ?_
 ·
  refine zI<|zC<|zA (zK underlying55 rfl rfl sizeOf53 rfl)<|zA (zN isAgg53 rfl rfl rfl rfl)<|zA (zX underlying53 rfl)<|zA (zB rfl) ?_
  refine zF<|zQ<|z6 (σ:=Nat×Int×(List (List Int))) (fun s=>s.1) (fun s e' H'=>match s with | (n0,i1,l2)=>Rep 25 0 e' H' (mkE [(2,(AV.ptr 0 0)),(3,(AV.ptr 1 0)),(8,(ls (cS cI) a_c.lists)),(9,(li (a_c.lists.length:Int))),(10,(li i1))]) [.box 55 [(ls (cS cI) ([]:List (List Int)))],.box 55 [AV.osl 22 1 (List.map (cO 3 1 cI) l2)]]∧zFo a_c n0 i1 l2=some r) (z9,0,([]:List (List Int))) ⟨zAE [1,2] rfl rfl (by kernel_rfl),h⟩ ?_
  clear h
  rintro ⟨n0,i1,l2⟩ e' H' ⟨hrep,h⟩
  cases n0 with
  | zero=>exact absurd (show (none:Option _)=some r from h) (by simp)
  | succ n0 =>
   replace h:zDm a_c (zFo a_c n0) i1 l2=some r:=h
   unfold zDm at h
   refine zV hrep ?_
   clear hrep
   refine zI<|zC<|zA (ze rfl rfl)<|zF<|zI ?_
   refine zY h rfl (fun hb1 h => ?_) (fun hb1 h => ?_)
   ·refine zP<|zI<|zQ<|zI<|zC<|zM h fun hb2 h => ?_
    refine zA (zU underlying53 sizeOf22 (fun _=>rfl) rfl rfl hb2)<|zA (zW (o:=0) isAgg22 rfl rfl)<|zA (zD rfl)<|zF<|zI<|zC ?_
    refine zA (zD rfl)<|zF<|zI<|zC<|zA (zB rfl)<|zA (zB rfl) ?_
    refine zAF (zLN (d:=14) (el:=3) (sz:=1) rfl)<|zM h fun hb3 h=>zD8 (f:=cI) (k:=2) (l:=([]:List Int)) (l':=at_ a_c.lists i1) zGe (fun _=>rfl) underlying22 rfl rfl rfl hb3<|zA (zD rfl)<|zF<|zC ?_
    refine zA (zK underlying55 rfl rfl sizeOf53 rfl)<|zAF (zBA (k:=1) (o:=0) (t':=22) (sz:=1) (rows:=List.map (cO 3 1 cI) l2) rfl rfl)<|zA (zN isAgg53 rfl rfl rfl rfl)<|zA (zB rfl)<|zRl (j:=3) (t':=3) (s':=1) (rows:=List.map cI (([]:List Int)++(at_ a_c.lists i1))) zM0 underlying53 rfl rfl<|zM h fun hb4 h => ?_
    refine zNj (f:=(cO 3 1 cI)) (k:=4) (j:=5) (l:=l2) (l':=[([]:List Int)++(at_ a_c.lists i1)]) zM0 underlying53 rfl rfl rfl rfl rfl hb4<|zA (zK underlying55 rfl rfl sizeOf53 rfl)<|zm (H':=[.box 55 [(ls (cS cI) ([]:List (List Int)))],.box 55 [AV.hd 6],.dead,.dead,.dead,.dead,.vec 22 1 (List.map (cO 3 1 cI) (l2++[([]:List Int)++(at_ a_c.lists i1)]))]) (zCa (k:=1) (o:=0) (cs:=[AV.hd 4]) (a:=(AV.hd 6)) sizeOf53 rfl rfl rfl rfl rfl)<|zF<|zC<|zM h fun hb5 h => ?_
    refine zA (zf rfl rfl hb5)<|zA (zB rfl)<|zF ?_
    exact ⟨(n0,(i1+1),(l2++[([]:List Int)++(at_ a_c.lists i1)])),Nat.lt_succ_self _,Rep.trans (zAJ (k:=1) (j:=6) (o:=0) rfl rfl rfl rfl) (zAE [0,1] (l:=[(2,(AV.ptr 0 0)),(3,(AV.ptr 1 0)),(8,(ls (cS cI) a_c.lists)),(9,(li (a_c.lists.length:Int))),(10,(li (i1+1)))]) rfl rfl (by kernel_rfl)),h⟩
   ·refine zy ?_
    exact ⟨l2,zAE [0,1] rfl rfl (by kernel_rfl),h⟩
 ·
  clear h
  rintro e' H' ⟨l1,hrep,h⟩
  refine zV hrep ?_
  clear hrep
  unfold zIm at h
  refine zI<|zC<|za (zJH (k:=1) (cs:=[AV.osl 22 1 (List.map (cO 3 1 cI) l1)]) (m:=1) isAgg55 sizeOf55 rfl rfl rfl)<|zm (H':=[.box 55 [AV.osl 22 1 (List.map (cO 3 1 cI) l1)],.dead,.dead]) (zCd (k:=0) (o:=0) (j:=2) (cs:=[(ls (cS cI) ([]:List (List Int)))]) (la:=[AV.osl 22 1 (List.map (cO 3 1 cI) l1)]) sizeOf55 rfl rfl rfl rfl rfl (by decide))<|zF<|zb ?_
  show zAQ _ _ _ _ _ _
  obtain rfl:=Option.some.inj h
  exact zu (zFa isAgg55 sizeOf55 rfl rfl rfl rfl)
theorem zMq {a_p0:zJ} {r:zJ} (h:zIL a_p0=some r):PFn prog 59 [(AV.agg (zG a_p0))] (AV.agg ([ls cI r.nodes]++([li r.batch]++([li r.high]++([AV.osl 51 10 (List.map zO r.zones)]++([AV.osl 55 1 (List.map zH r.caches)]++[])))))):=by
 refine zq func59 rfl ntmps59 results59 rfl ?_
 unfold zIL at h
 refine zI<|zC<|za (H':=[.box 26 (zG a_p0)]) (zw (t:=26) rfl)<|za (H':=[.box 26 (zG a_p0),.box 26 (zG ⟨[],0,0,[],[]⟩)]) (zv (t:=26) (vs:=[.slice none 0 0,.int .i64 0,.int .i64 0,.slice none 0 0,.slice none 0 0]) (cs:=[.sl false [],.lit (.int .i64 0),.lit (.int .i64 0),.sl false [],.sl false []]) zeroValue26 (by kernel_rfl) rfl ⟨zh.nils,zh.refl _,zh.refl _,zh.nils,zh.nils,trivial⟩)<|zF<|zI ?_
 refine zC<|zA (zK underlying26 rfl rfl sizeOf3 rfl)<|zA (zN isAgg3 rfl rfl rfl rfl)<|zA (zK underlying26 rfl rfl sizeOf3 rfl)<|zA (zN isAgg3 rfl rfl rfl rfl)<|zA (z8 (pl:=[(0,1),(1,1),(2,1),(3,1),(4,1)]) (zs:=[.slice none 0 0,.int .i64 0,.int .i64 0,.slice none 0 0,.slice none 0 0]) (zc:=[.osl 3 1 [],.lit (.int .i64 0),.lit (.int .i64 0),.osl 51 10 [],.osl 55 1 []]) (res:=[AV.osl 3 1 (List.map cI ([]:List Int)),li a_p0.batch,li a_p0.high,AV.osl 51 10 (List.map zO ([]:List zp)),AV.osl 55 1 (List.map zH ([]:List zL))]) (fun _=>by kernel_rfl) rfl (⟨zh.nilo,⟨zh.refl _,⟨zh.refl _,⟨zh.nilo,⟨zh.nilo,trivial⟩⟩⟩⟩⟩) ⟨li a_p0.batch,1,1,rfl,rfl,rfl,rfl,rfl,⟨li a_p0.high,2,1,rfl,rfl,rfl,rfl,rfl,(by exact zFX.refl _)⟩⟩) ?_
 refine za (H':=[.box 26 (zG a_p0),.box 26 (zG ⟨[],0,0,[],[]⟩),.box 26 [AV.osl 3 1 (List.map cI ([]:List Int)),li 0,li 0,AV.osl 51 10 (List.map zO ([]:List zp)),AV.osl 55 1 (List.map zH ([]:List zL))]]) (zv (t:=26) (vs:=[.slice none 0 0,.int .i64 0,.int .i64 0,.slice none 0 0,.slice none 0 0]) (cs:=[.osl 3 1 [],.lit (.int .i64 0),.lit (.int .i64 0),.osl 51 10 [],.osl 55 1 []]) zeroValue26 (by kernel_rfl) rfl ⟨zh.nilo,zh.refl _,zh.refl _,zh.nilo,zh.nilo,trivial⟩)<|zm (H':=[.box 26 (zG a_p0),.box 26 (zG ⟨[],0,0,[],[]⟩),.box 26 [AV.osl 3 1 (List.map cI ([]:List Int)),li a_p0.batch,li a_p0.high,AV.osl 51 10 (List.map zO ([]:List zp)),AV.osl 55 1 (List.map zH ([]:List zL))]]) (zZ (k:=2) (o:=0) (cs:=[AV.osl 3 1 (List.map cI ([]:List Int)),li 0,li 0,AV.osl 51 10 (List.map zO ([]:List zp)),AV.osl 55 1 (List.map zH ([]:List zL))]) (la:=[AV.osl 3 1 (List.map cI ([]:List Int)),li a_p0.batch,li a_p0.high,AV.osl 51 10 (List.map zO ([]:List zp)),AV.osl 55 1 (List.map zH ([]:List zL))]) sizeOf26 rfl rfl rfl rfl)<|zF<|zI<|zC<|zA (zK underlying26 rfl rfl sizeOf22 rfl) ?_
 refine zAF (zBA (k:=2) (o:=0) (t':=3) (sz:=1) (rows:=List.map cI ([]:List Int)) rfl rfl)<|zA (zN isAgg22 rfl rfl rfl rfl)<|zA (zK underlying26 rfl rfl sizeOf22 rfl)<|zA (zN isAgg22 rfl rfl rfl rfl)<|zM h fun hb1 h=>zD8 (f:=cI) (k:=3) (l:=([]:List Int)) (l':=a_p0.nodes) zGe (fun _=>rfl) underlying22 rfl rfl rfl hb1 ?_
 refine zA (zK underlying26 rfl rfl sizeOf22 rfl)<|zm (H':=[.box 26 (zG a_p0),.box 26 (zG ⟨[],0,0,[],[]⟩),.box 26 [AV.hd 4,li a_p0.batch,li a_p0.high,AV.osl 51 10 (List.map zO ([]:List zp)),AV.osl 55 1 (List.map zH ([]:List zL))],.dead,.vec 3 1 (List.map cI (([]:List Int)++a_p0.nodes))]) (zCa (k:=2) (o:=0) (cs:=[AV.hd 3,li a_p0.batch,li a_p0.high,AV.osl 51 10 (List.map zO ([]:List zp)),AV.osl 55 1 (List.map zH ([]:List zL))]) (a:=(AV.hd 4)) sizeOf22 rfl rfl rfl rfl rfl)<|zF ?_
 refine zx (fun e' H' => ∃ (l1:List zp),Rep 75 0 e' H' (mkE [(1,(AV.ptr 0 0)),(2,(AV.ptr 1 0)),(3,(AV.ptr 2 0))]) [.box 26 (zG a_p0),.box 26 (zG ⟨[],0,0,[],[]⟩),.box 26 [AV.osl 3 1 (List.map cI (([]:List Int)++a_p0.nodes)),li a_p0.batch,li a_p0.high,AV.osl 51 10 (List.map zO l1),AV.osl 55 1 (List.map zH ([]:List zL))]]∧zHB a_p0 l1=some r) ?_ ?_
 ·
  refine zI<|zC<|zA (zD rfl)<|zF<|zQ<|z6 (σ:=Nat×Int×(List zp)) (fun s=>s.1) (fun s e' H'=>match s with | (n1,i2,l4)=>Rep 75 0 e' H' (mkE [(1,(AV.ptr 0 0)),(2,(AV.ptr 1 0)),(3,(AV.ptr 2 0)),(4,(li i2))]) [.box 26 (zG a_p0),.box 26 (zG ⟨[],0,0,[],[]⟩),.box 26 [AV.osl 3 1 (List.map cI (([]:List Int)++a_p0.nodes)),li a_p0.batch,li a_p0.high,AV.osl 51 10 (List.map zO l4),AV.osl 55 1 (List.map zH ([]:List zL))]]∧zBm a_p0 n1 i2 l4=some r) (z9,0,([]:List zp)) ⟨Rep.trans (zAJ (k:=2) (j:=4) (o:=0) rfl rfl rfl rfl) (zAE [0,1,2] (l:=[(1,(AV.ptr 0 0)),(2,(AV.ptr 1 0)),(3,(AV.ptr 2 0)),(4,(li 0))]) rfl rfl (by kernel_rfl)),h⟩ ?_
  clear h
  rintro ⟨n1,i2,l4⟩ e' H' ⟨hrep,h⟩
  cases n1 with
  | zero=>exact absurd (show (none:Option _)=some r from h) (by simp)
  | succ n1 =>
   replace h:zDb a_p0 (zBm a_p0 n1) i2 l4=some r:=h
   unfold zDb at h
   refine zV hrep ?_
   clear hrep
   refine zI<|zI<|zC<|zA (zB rfl)<|zA (zK underlying26 rfl rfl sizeOf23 rfl)<|zA (zN isAgg23 rfl rfl rfl rfl) ?_
   refine zA (zX underlying23 rfl)<|zA (ze rfl rfl)<|zF ?_
   refine zY h rfl (fun hb6 h => ?_) (fun hb6 h => ?_)
   ·refine zP ?_
    refine zx (fun e' H' => ∃ (l5:List zp),Rep 75 0 e' H' (mkE [(1,(AV.ptr 0 0)),(2,(AV.ptr 1 0)),(3,(AV.ptr 2 0)),(4,(li i2))]) [.box 26 (zG a_p0),.box 26 (zG ⟨[],0,0,[],[]⟩),.box 26 [AV.osl 3 1 (List.map cI (([]:List Int)++a_p0.nodes)),li a_p0.batch,li a_p0.high,AV.osl 51 10 (List.map zO l5),AV.osl 55 1 (List.map zH ([]:List zL))]]∧zHD (zBm a_p0 n1) i2 l5=some r) ?_ ?_
    ·
     refine zQ<|zI<|zC<|zA (zK underlying26 rfl rfl sizeOf23 rfl)<|zA (zN isAgg23 rfl rfl rfl rfl)<|zA (zB rfl) ?_
     refine zM h fun hb8 h=>zA (zU underlying23 sizeOf51 (fun _=>rfl) rfl rfl hb8)<|zA (zAb (row:=(zO (at_ a_p0.zones i2))) (o:=0) (m:=10) (la:=(zO (at_ a_p0.zones i2))) isAgg51 sizeOf51 rfl rfl rfl)<|za (H':=[.box 26 (zG a_p0),.box 26 (zG ⟨[],0,0,[],[]⟩),.box 26 [AV.osl 3 1 (List.map cI (([]:List Int)++a_p0.nodes)),li a_p0.batch,li a_p0.high,AV.osl 51 10 (List.map zO l4),AV.osl 55 1 (List.map zH ([]:List zL))],.box 51 (zO ⟨0,0,0,0,0,(List.replicate 5 ([]:List Int))⟩)]) (zv (t:=51) (vs:=[.int .i64 0,.int .i64 0,.int .i64 0,.int .i64 0,.int .i64 0,.slice none 0 0,.slice none 0 0,.slice none 0 0,.slice none 0 0,.slice none 0 0]) (cs:=[.lit (.int .i64 0),.lit (.int .i64 0),.lit (.int .i64 0),.lit (.int .i64 0),.lit (.int .i64 0),.sl false [],.sl false [],.sl false [],.sl false [],.sl false []]) zeroValue51 (by kernel_rfl) rfl ⟨zh.refl _,zh.refl _,zh.refl _,zh.refl _,zh.refl _,zh.nils,zh.nils,zh.nils,zh.nils,zh.nils,trivial⟩)<|zm (H':=[.box 26 (zG a_p0),.box 26 (zG ⟨[],0,0,[],[]⟩),.box 26 [AV.osl 3 1 (List.map cI (([]:List Int)++a_p0.nodes)),li a_p0.batch,li a_p0.high,AV.osl 51 10 (List.map zO l4),AV.osl 55 1 (List.map zH ([]:List zL))],.box 51 (zO (at_ a_p0.zones i2))]) (zZ (k:=3) (o:=0) (cs:=(zO ⟨0,0,0,0,0,(List.replicate 5 ([]:List Int))⟩)) (la:=(zO (at_ a_p0.zones i2))) sizeOf51 rfl rfl rfl rfl)<|zF ?_
     refine zx (fun e' H' => ∃ (d1:List (List Int)),Rep 75 0 e' H' (mkE [(1,(AV.ptr 0 0)),(2,(AV.ptr 1 0)),(3,(AV.ptr 2 0)),(4,(li i2)),(5,(AV.ptr 3 0))]) [.box 26 (zG a_p0),.box 26 (zG ⟨[],0,0,[],[]⟩),.box 26 [AV.osl 3 1 (List.map cI (([]:List Int)++a_p0.nodes)),li a_p0.batch,li a_p0.high,AV.osl 51 10 (List.map zO l4),AV.osl 55 1 (List.map zH ([]:List zL))],.box 51 (zO ⟨((at_ a_p0.zones i2).node),((at_ a_p0.zones i2).kind),((at_ a_p0.zones i2).start),((at_ a_p0.zones i2).count),((at_ a_p0.zones i2).min),d1⟩)]∧zHE (zBm a_p0 n1) a_p0 i2 l4 d1=some r) ?_ ?_
     ·
      refine zI<|zC<|zA (zD rfl)<|zF<|zQ<|z6 (σ:=Nat×Int×(List (List Int))) (fun s=>s.1) (fun s e' H'=>match s with | (n2,i3,d2)=>Rep 75 0 e' H' (mkE [(1,(AV.ptr 0 0)),(2,(AV.ptr 1 0)),(3,(AV.ptr 2 0)),(4,(li i2)),(5,(AV.ptr 3 0)),(6,(li i3))]) [.box 26 (zG a_p0),.box 26 (zG ⟨[],0,0,[],[]⟩),.box 26 [AV.osl 3 1 (List.map cI (([]:List Int)++a_p0.nodes)),li a_p0.batch,li a_p0.high,AV.osl 51 10 (List.map zO l4),AV.osl 55 1 (List.map zH ([]:List zL))],.box 51 (zO ⟨((at_ a_p0.zones i2).node),((at_ a_p0.zones i2).kind),((at_ a_p0.zones i2).start),((at_ a_p0.zones i2).count),((at_ a_p0.zones i2).min),d2⟩)]∧zFg (zBm a_p0 n1) a_p0 i2 l4 n2 i3 d2=some r) (z9,0,((at_ a_p0.zones i2).free)) ⟨zAE [0,1,2,3] rfl rfl (by kernel_rfl),h⟩ ?_
      clear h
      rintro ⟨n2,i3,d2⟩ e' H' ⟨hrep,h⟩
      cases n2 with
      | zero=>exact absurd (show (none:Option _)=some r from h) (by simp)
      | succ n2 =>
       replace h:zDg (zBm a_p0 n1) a_p0 i2 l4 (zFg (zBm a_p0 n1) a_p0 i2 l4 n2) i3 d2=some r:=h
       unfold zDg at h
       refine zV hrep ?_
       clear hrep
       refine zI<|zI<|zC<|zA (zB rfl)<|zA (zCi rfl rfl)<|zF ?_
       refine zY h rfl (fun hb10 h => ?_) (fun hb10 h => ?_)
       ·refine zP<|zI<|zQ<|zI<|zC<|zA (zD rfl) ?_
        refine zF<|zI<|zC<|zA (zB rfl)<|zA (zK underlying26 rfl rfl sizeOf23 rfl)<|zA (zN isAgg23 rfl rfl rfl rfl) ?_
        refine zA (zB rfl)<|zA (zB rfl)<|zM h fun hb11 h=>zA (zU underlying23 sizeOf51 (fun _=>rfl) rfl rfl hb11)<|zA (zBQ (row:=(zO (at_ a_p0.zones i2))) (o:=0) (off:=5) underlying51 rfl rfl sizeOf49 rfl)<|zM h fun hb12 h => ?_
        refine zA (zQS (m:=5) (s:=1) (i:=i3) (row:=(zO (at_ a_p0.zones i2))) (o:=5) underlying49 sizeOf22 rfl rfl hb12)<|zA (zNO (o:=(5+i3.toNat*1)) (cs:=zO (at_ a_p0.zones i2)) (hd:=([(li ((at_ a_p0.zones i2).node))]++[(li ((at_ a_p0.zones i2).kind))]++[(li ((at_ a_p0.zones i2).start))]++[(li ((at_ a_p0.zones i2).count))]++[(li ((at_ a_p0.zones i2).min))]++[])) (tl:=([])) (g:=(eS cI)) (d0:=([]:List Int)) (l:=(at_ a_p0.zones i2).free) (N:=5) (i:=i3.toNat) (a:=(ls cI (((at_ a_p0.zones i2).free).getD i3.toNat ([]:List Int)))) isAgg22 rfl rfl (congrArg (fun q=>5+q) (Nat.mul_one _)) (zBK hb12).2 rfl)<|zAF (zLN (d:=36) (el:=3) (sz:=1) rfl)<|zM h fun hb13 h=>zD8 (f:=cI) (k:=4) (l:=([]:List Int)) (l':=((at_ a_p0.zones i2).free).getD i3.toNat ([]:List Int)) zGe (fun _=>rfl) underlying22 rfl rfl rfl hb13<|zA (zD rfl) ?_
        refine zF<|zC<|zA (zB rfl)<|zA (zB rfl)<|zA (zK underlying51 rfl rfl sizeOf49 rfl)<|zA (zAO (m:=5) (s:=1) (i:=i3) (k:=3) (o:=5) underlying49 sizeOf22 rfl rfl hb12) ?_
        refine zAF (zET (j:=5) (ds:=[7,45,47]) (rows':=List.map cI (([]:List Int)++(((at_ a_p0.zones i2).free).getD i3.toNat ([]:List Int)))) rfl (zAP (fun _=>rfl)) ⟨rfl,rfl,rfl,trivial⟩)<|zm (H':=[.box 26 (zG a_p0),.box 26 (zG ⟨[],0,0,[],[]⟩),.box 26 [AV.osl 3 1 (List.map cI (([]:List Int)++a_p0.nodes)),li a_p0.batch,li a_p0.high,AV.osl 51 10 (List.map zO l4),AV.osl 55 1 (List.map zH ([]:List zL))],.box 51 (zO ⟨((at_ a_p0.zones i2).node),((at_ a_p0.zones i2).kind),((at_ a_p0.zones i2).start),((at_ a_p0.zones i2).count),((at_ a_p0.zones i2).min),(zDo 5 ([]:List Int) d2 i3.toNat (([]:List Int)++(((at_ a_p0.zones i2).free).getD i3.toNat ([]:List Int))))⟩),.dead,.dead]) (zNQ (k:=3) (o:=(5+i3.toNat*1)) (cs:=(zO ⟨((at_ a_p0.zones i2).node),((at_ a_p0.zones i2).kind),((at_ a_p0.zones i2).start),((at_ a_p0.zones i2).count),((at_ a_p0.zones i2).min),d2⟩)) (hd:=([(li ((at_ a_p0.zones i2).node))]++[(li ((at_ a_p0.zones i2).kind))]++[(li ((at_ a_p0.zones i2).start))]++[(li ((at_ a_p0.zones i2).count))]++[(li ((at_ a_p0.zones i2).min))]++[])) (tl:=([])) (g:=(eS cI)) (d0:=([]:List Int)) (l:=d2) (N:=5) (i:=i3.toNat) (v:=([]:List Int)++(((at_ a_p0.zones i2).free).getD i3.toNat ([]:List Int))) (a:=(ls cI (([]:List Int)++(((at_ a_p0.zones i2).free).getD i3.toNat ([]:List Int))))) sizeOf22 rfl rfl rfl (congrArg (fun q=>5+q) (Nat.mul_one _)) (zBK hb12).2 rfl rfl rfl)<|zF<|zC<|zA (zB rfl)<|zM h fun hb14 h => ?_
        refine zA (zf rfl rfl hb14)<|zA (zD rfl)<|zF ?_
        exact ⟨(n2,(i3+1),(zDo 5 ([]:List Int) d2 i3.toNat (([]:List Int)++(((at_ a_p0.zones i2).free).getD i3.toNat ([]:List Int))))),Nat.lt_succ_self _,zAE [0,1,2,3] rfl rfl (by kernel_rfl),h⟩
       ·refine zy ?_
        exact ⟨d2,zAE [0,1,2,3] rfl rfl (by kernel_rfl),h⟩
     ·
      clear h
      rintro e' H' ⟨d1,hrep,h⟩
      refine zV hrep ?_
      clear hrep
      unfold zHE at h
      refine zC<|zA (zK underlying26 rfl rfl sizeOf23 rfl)<|zAF (zBA (k:=2) (o:=3) (t':=51) (sz:=10) (rows:=List.map zO l4) rfl rfl)<|zA (zN isAgg23 rfl rfl rfl rfl)<|zA (zS (k:=3) (o:=0) (m:=10) isAgg51 sizeOf51 rfl rfl rfl rfl rfl)<|zGP (a:=(AV.agg (zO (⟨(at_ a_p0.zones i2).node,(at_ a_p0.zones i2).kind,(at_ a_p0.zones i2).start,(at_ a_p0.zones i2).count,(at_ a_p0.zones i2).min,d1⟩:zp)))) zNC underlying23 rfl rfl rfl rfl ?_
      refine zM h fun hb9 h=>zDK (f:=zO) (k:=4) (j:=5) (l:=l4) (l':=[(⟨(at_ a_p0.zones i2).node,(at_ a_p0.zones i2).kind,(at_ a_p0.zones i2).start,(at_ a_p0.zones i2).count,(at_ a_p0.zones i2).min,d1⟩:zp)]) zNC (fun _=>rfl) underlying23 rfl rfl rfl rfl hb9<|zA (zK underlying26 rfl rfl sizeOf23 rfl)<|zm (H':=[.box 26 (zG a_p0),.box 26 (zG ⟨[],0,0,[],[]⟩),.box 26 [AV.osl 3 1 (List.map cI (([]:List Int)++a_p0.nodes)),li a_p0.batch,li a_p0.high,AV.hd 6,AV.osl 55 1 (List.map zH ([]:List zL))],.box 51 (zO ⟨((at_ a_p0.zones i2).node),((at_ a_p0.zones i2).kind),((at_ a_p0.zones i2).start),((at_ a_p0.zones i2).count),((at_ a_p0.zones i2).min),d1⟩),.dead,.vec 51 10 (List.map zO [(⟨(at_ a_p0.zones i2).node,(at_ a_p0.zones i2).kind,(at_ a_p0.zones i2).start,(at_ a_p0.zones i2).count,(at_ a_p0.zones i2).min,d1⟩:zp)]),.vec 51 10 (List.map zO (l4++[(⟨(at_ a_p0.zones i2).node,(at_ a_p0.zones i2).kind,(at_ a_p0.zones i2).start,(at_ a_p0.zones i2).count,(at_ a_p0.zones i2).min,d1⟩:zp)]))]) (zCa (k:=2) (o:=3) (cs:=[AV.osl 3 1 (List.map cI (([]:List Int)++a_p0.nodes)),li a_p0.batch,li a_p0.high,AV.hd 4,AV.osl 55 1 (List.map zH ([]:List zL))]) (a:=(AV.hd 6)) sizeOf23 rfl rfl rfl rfl rfl)<|zF ?_
      exact ⟨(l4++[(⟨(at_ a_p0.zones i2).node,(at_ a_p0.zones i2).kind,(at_ a_p0.zones i2).start,(at_ a_p0.zones i2).count,(at_ a_p0.zones i2).min,d1⟩:zp)]),Rep.trans (zAJ (k:=2) (j:=6) (o:=3) rfl rfl rfl rfl) (zAE [0,1,2] (l:=[(1,(AV.ptr 0 0)),(2,(AV.ptr 1 0)),(3,(AV.ptr 2 0)),(4,(li i2))]) rfl rfl (by kernel_rfl)),h⟩
    ·
     clear h
     rintro e' H' ⟨l5,hrep,h⟩
     refine zV hrep ?_
     clear hrep
     unfold zHD at h
     refine zC<|zA (zB rfl)<|zM h fun hb7 h=>zA (zf rfl rfl hb7)<|zA (zD rfl)<|zF ?_
     exact ⟨(n1,(i2+1),l5),Nat.lt_succ_self _,zAE [0,1,2] rfl rfl (by kernel_rfl),h⟩
   ·refine zy ?_
    exact ⟨l4,zAE [0,1,2] rfl rfl (by kernel_rfl),h⟩
 ·
  clear h
  rintro e' H' ⟨l1,hrep,h⟩
  refine zV hrep ?_
  clear hrep
  unfold zHB at h
  refine zx (fun e' H' => ∃ (l2:List zL),Rep 75 0 e' H' (mkE [(2,(AV.ptr 0 0)),(3,(AV.ptr 1 0))]) [.box 26 (zG ⟨[],0,0,[],[]⟩),.box 26 [AV.osl 3 1 (List.map cI (([]:List Int)++a_p0.nodes)),li a_p0.batch,li a_p0.high,AV.osl 51 10 (List.map zO l1),AV.osl 55 1 (List.map zH l2)]]∧zIp a_p0 l1 l2=some r) ?_ ?_
  ·
   refine zI<|zC<|zA (zD rfl)<|zF<|zQ<|z6 (σ:=Nat×Int×(List zL)) (fun s=>s.1) (fun s e' H'=>match s with | (n0,i1,l3)=>Rep 75 0 e' H' (mkE [(1,(AV.ptr 0 0)),(2,(AV.ptr 1 0)),(3,(AV.ptr 2 0)),(8,(li i1))]) [.box 26 (zG a_p0),.box 26 (zG ⟨[],0,0,[],[]⟩),.box 26 [AV.osl 3 1 (List.map cI (([]:List Int)++a_p0.nodes)),li a_p0.batch,li a_p0.high,AV.osl 51 10 (List.map zO l1),AV.osl 55 1 (List.map zH l3)]]∧zFi a_p0 l1 n0 i1 l3=some r) (z9,0,([]:List zL)) ⟨zAE [0,1,2] rfl rfl (by kernel_rfl),h⟩ ?_
   clear h
   rintro ⟨n0,i1,l3⟩ e' H' ⟨hrep,h⟩
   cases n0 with
   | zero=>exact absurd (show (none:Option _)=some r from h) (by simp)
   | succ n0 =>
    replace h:zDj a_p0 l1 (zFi a_p0 l1 n0) i1 l3=some r:=h
    unfold zDj at h
    refine zV hrep ?_
    clear hrep
    refine zI<|zI<|zC<|zA (zB rfl)<|zA (zK underlying26 rfl rfl sizeOf24 rfl)<|zA (zN isAgg24 rfl rfl rfl rfl) ?_
    refine zA (zX underlying24 rfl)<|zA (ze rfl rfl)<|zF ?_
    refine zY h rfl (fun hb2 h => ?_) (fun hb2 h => ?_)
    ·refine zP<|zI<|zQ<|zV (zBA (k:=2) (o:=4) (t':=55) (sz:=1) (rows:=List.map zH l3) rfl rfl)<|zM h fun hb3 h=>zR h fun x1 hx1 h => ?_
     refine zM h fun hb4 h => ?_
     show AW _ _ _ _ _ _ [.box 26 (zG a_p0),.box 26 (zG ⟨[],0,0,[],[]⟩),.box 26 [AV.osl 3 1 (List.map cI (([]:List Int)++a_p0.nodes)),li a_p0.batch,li a_p0.high,AV.osl 51 10 (List.map zO l1),AV.hd 3],.vec 55 1 (List.map zH l3)]
     refine zAx (n:=75) (m:=0) [.head 0 2,.head 0 2,.head 0 0,.head 0 0,.head 0 0,.head 0 0,.head 0 0,.tail 0,.tail 1,.tail 2,.head 3 3,.tail 3] [7,8,9,11] [AV.ptr 2 4,AV.hd 3,AV.ptr 0 4,ls zH a_p0.caches,li i1,(AV.rp (zH (at_ a_p0.caches i1)) 0),(AV.agg (zH (at_ a_p0.caches i1))),(AV.agg (zH x1)),AV.hd 4,AV.hd 5,AV.ptr 2 4,.any] [[.box 26 (zG a_p0),.box 26 (zG ⟨[],0,0,[],[]⟩),.box 26 [AV.osl 3 1 (List.map cI (([]:List Int)++a_p0.nodes)),li a_p0.batch,li a_p0.high,AV.osl 51 10 (List.map zO l1),AV.hd 3],.vec 55 1 (List.map zH l3)],[.box 26 (zG a_p0),.box 26 (zG ⟨[],0,0,[],[]⟩),.box 26 [AV.osl 3 1 (List.map cI (([]:List Int)++a_p0.nodes)),li a_p0.batch,li a_p0.high,AV.osl 51 10 (List.map zO l1),AV.hd 3],.vec 55 1 (List.map zH l3)],[.box 26 (zG a_p0),.box 26 (zG ⟨[],0,0,[],[]⟩),.box 26 [AV.osl 3 1 (List.map cI (([]:List Int)++a_p0.nodes)),li a_p0.batch,li a_p0.high,AV.osl 51 10 (List.map zO l1),AV.hd 3],.vec 55 1 (List.map zH l3),.vec 55 1 (List.map zH [x1])],[.box 26 (zG a_p0),.box 26 (zG ⟨[],0,0,[],[]⟩),.box 26 [AV.osl 3 1 (List.map cI (([]:List Int)++a_p0.nodes)),li a_p0.batch,li a_p0.high,AV.osl 51 10 (List.map zO l1),AV.hd 3],.dead,.vec 55 1 (List.map zH [x1]),.vec 55 1 (List.map zH (l3++[x1]))],[.box 26 (zG a_p0),.box 26 (zG ⟨[],0,0,[],[]⟩),.box 26 [AV.osl 3 1 (List.map cI (([]:List Int)++a_p0.nodes)),li a_p0.batch,li a_p0.high,AV.osl 51 10 (List.map zO l1),AV.hd 5],.dead,.vec 55 1 (List.map zH [x1]),.vec 55 1 (List.map zH (l3++[x1]))]] (by kernel_rfl) (by kernel_rfl) ⟨⟨?_,?_,?_⟩,⟨?_,?_,?_⟩,?_,?_,?_,?_,?_,?_,?_,?_,?_,?_,trivial⟩ ?_
     ·exact D1 fun e s p=>zK (k:=2) (o:=0) (off:=4) underlying26 rfl rfl sizeOf24 (s 3 rfl)
     ·exact D1 fun e s p=>zK (k:=2) (o:=0) (off:=4) underlying26 rfl rfl sizeOf24 (s 3 rfl)
     ·exact D1 fun e s p=>zK (k:=2) (o:=0) (off:=4) underlying26 rfl rfl sizeOf24 (s 3 rfl)
     ·exact D1 fun e s p=>zN (k:=2) (o:=4) isAgg24 p.1 rfl rfl rfl
     ·exact D1 fun e s p=>zN (k:=2) (o:=4) isAgg24 p.1 rfl rfl rfl
     ·exact D1 fun e s p=>zN (k:=2) (o:=4) isAgg24 p.1 rfl rfl rfl
     ·exact D1 fun e s p=>zK (k:=0) (o:=0) (off:=4) underlying26 rfl rfl sizeOf24 (s 1 rfl)
     ·exact D1 fun e s p=>zN (k:=0) (o:=4) isAgg24 p.1 rfl rfl rfl
     ·exact D1 fun e s p=>zB (s 8 rfl)
     ·exact D1 fun e s p=>zU (f:=zH) (l:=a_p0.caches) (i:=i1) underlying24 sizeOf55 (fun _=>rfl) p.1 p.2.1 hb3
     ·exact D1 fun e s p=>zAb (row:=(zH (at_ a_p0.caches i1))) (o:=0) (m:=1) (la:=(zH (at_ a_p0.caches i1))) isAgg55 sizeOf55 p.1 rfl rfl
     ·
      intro e12 hs12 hp12
      refine zAw (r':=(AV.agg (zH x1))) (la:=[(AV.agg (zH (at_ a_p0.caches i1)))]) (la':=[(AV.agg (zH (at_ a_p0.caches i1)))]) (r:=(AV.agg [AV.osl 22 1 (List.map (cO 3 1 cI) x1.lists)])) (S:=[]) func114 rfl (by kernel_rfl) (.fn 114) (zAK hp12.1 rfl) ⟨zAt.nr rfl,trivial⟩ (zKQ hx1) (.inl rfl) (congrArg (fun q=>AV.agg [AV.sl false q]) (zMJ (fun x=>zRN (fun _=>rfl) x))) ?_
      exact zF ⟨fun _=>rfl,rfl⟩
     ·
      intro e13 hs13 hp13
      refine zGP (a:=(AV.agg (zH x1))) zM5 underlying24 hp13.1 rfl rfl rfl ?_
      exact zF ⟨fun _=>rfl,rfl⟩
     ·
      intro e14 hs14 hp14
      refine zDK (f:=zH) (k:=3) (j:=4) (l:=l3) (l':=[x1]) zM5 (fun _=>rfl) underlying24 hp14.1 rfl hp14.2.1 rfl hb4 ?_
      exact zF ⟨fun _=>rfl,rfl⟩
     ·exact D1 fun e s p=>zK (k:=2) (o:=0) (off:=4) underlying26 rfl rfl sizeOf24 (s 3 rfl)
     ·
      intro e16 hs16 hp16
      refine zm (H':=[.box 26 (zG a_p0),.box 26 (zG ⟨[],0,0,[],[]⟩),.box 26 [AV.osl 3 1 (List.map cI (([]:List Int)++a_p0.nodes)),li a_p0.batch,li a_p0.high,AV.osl 51 10 (List.map zO l1),AV.hd 5],.dead,.vec 55 1 (List.map zH [x1]),.vec 55 1 (List.map zH (l3++[x1]))]) (zCa (k:=2) (o:=4) (cs:=[AV.osl 3 1 (List.map cI (([]:List Int)++a_p0.nodes)),li a_p0.batch,li a_p0.high,AV.osl 51 10 (List.map zO l1),AV.hd 3]) (a:=(AV.hd 5)) sizeOf24 (by exact hp16.1) rfl rfl (by exact hp16.2.2.2.2.2.2.2.2.2.2.2.2.1) rfl) ?_
      exact zF ⟨fun _=>rfl,rfl⟩
     intro e17 hs17 hq1
     refine zV (zBY (l:=[(1,(AV.ptr 0 0)),(2,(AV.ptr 1 0)),(3,(AV.ptr 2 0)),(8,(li i1))]) ⟨hs17 1 rfl,hs17 2 rfl,hs17 3 rfl,hs17 8 rfl,trivial⟩)<|zC<|zA (zB (av:=(li i1)) rfl)<|zM h fun hb5 h=>zA (zf (a:=i1) (b:=1) rfl rfl hb5)<|zA (zD (av:=(li (i1+1))) rfl) ?_
     refine zF ?_
     exact ⟨(n0,(i1+1),(l3++[x1])),Nat.lt_succ_self _,Rep.trans (zAJ (k:=2) (j:=5) (o:=4) rfl rfl rfl rfl) (zAE [0,1,2] (l:=[(1,(AV.ptr 0 0)),(2,(AV.ptr 1 0)),(3,(AV.ptr 2 0)),(8,(li (i1+1)))]) rfl rfl (by kernel_rfl)),h⟩
    ·refine zy ?_
     exact ⟨l3,zAE [1,2] rfl rfl (by kernel_rfl),h⟩
  ·
   clear h
   rintro e' H' ⟨l2,hrep,h⟩
   refine zV hrep ?_
   clear hrep
   unfold zIp at h
   refine zI<|zC<|zAF (zBb (k:=1) (o:=0) (rows':=List.map cI (([]:List Int)++a_p0.nodes)) rfl rfl (zAP (fun _=>rfl)))<|za (zJH (k:=1) (cs:=[(ls cI (([]:List Int)++a_p0.nodes)),li a_p0.batch,li a_p0.high,AV.osl 51 10 (List.map zO l1),AV.osl 55 1 (List.map zH l2)]) (m:=5) isAgg26 sizeOf26 rfl rfl rfl)<|zm (H':=[.box 26 [(ls cI (([]:List Int)++a_p0.nodes)),li a_p0.batch,li a_p0.high,AV.osl 51 10 (List.map zO l1),AV.osl 55 1 (List.map zH l2)],.dead,.dead]) (zCd (k:=0) (o:=0) (j:=2) (cs:=(zG ⟨[],0,0,[],[]⟩)) (la:=[(ls cI (([]:List Int)++a_p0.nodes)),li a_p0.batch,li a_p0.high,AV.osl 51 10 (List.map zO l1),AV.osl 55 1 (List.map zH l2)]) sizeOf26 rfl rfl rfl rfl rfl (by decide))<|zF ?_
   refine zb ?_
   show zAQ _ _ _ _ _ _
   obtain rfl:=Option.some.inj h
   exact zu (zFa isAgg26 sizeOf26 rfl rfl rfl rfl)
theorem zMn {a_c:zL} {a_zone:Int} {r:Int} (h:zID a_c a_zone=some r):PFn prog 122 [(AV.agg (zH a_c)),li a_zone] (li r):=by
 refine zq func122 rfl ntmps122 results122 rfl ?_
 unfold zID at h
 refine zI<|zC<|za (H':=[.box 55 (zH a_c)]) (zw (t:=55) rfl)<|zA (zD rfl)<|zF<|zI ?_
 refine zI<|zC<|zA (zS (k:=0) (o:=0) (m:=1) isAgg55 sizeOf55 rfl rfl rfl rfl rfl)<|zA (zK underlying55 rfl rfl sizeOf53 rfl)<|zA (zN isAgg53 rfl rfl rfl rfl)<|zA (zX underlying53 rfl) ?_
 refine zR h fun x1 hx1 h=>zi func96 rfl (by kernel_rfl) (.fn 96) rfl rfl (zKR hx1) rfl<|zA (zD rfl)<|zF<|zI<|zC ?_
 refine zA (zB rfl)<|zA (z7 rfl rfl)<|zF ?_
 refine zY h rfl (fun hb1 h => ?_) (fun hb1 h => ?_)
 ·refine zI<|zC<|zA (zB rfl)<|zA (zD rfl)<|zF<|zb ?_
  show zAQ _ _ _ _ _ _
  obtain rfl:=Option.some.inj h
  exact zu (zAM rfl rfl)
 ·refine zP<|zI<|zI<|zC<|zA (zB rfl)<|zA (ze rfl rfl) ?_
  refine zA (zB rfl)<|zT rfl rfl (fun hc1=>zt.step (zB rfl))<|zT rfl rfl (fun hc2=>zt.step (zK underlying55 rfl rfl sizeOf53 rfl))<|zT rfl rfl (fun hc3=>zt.step (zN isAgg53 (z5 rfl hc3) rfl rfl rfl))<|zT rfl rfl (fun hc4=>zt.step (zX underlying53 (z5 rfl hc4)))<|zT rfl rfl (fun hc5=>zt.step (zAp (z5 rfl hc5) (z5 rfl hc5))) ?_
  refine zA (zd rfl rfl)<|zF ?_
  refine zY h rfl (fun hb2 h => ?_) (fun hb2 h => ?_)
  ·refine zI<|zC<|zA (zD rfl)<|zF<|zb ?_
   show zAQ _ _ _ _ _ _
   obtain rfl:=Option.some.inj h
   exact zu (zAM rfl rfl)
  ·refine zP<|zI<|zC<|zA (zD rfl)<|zF<|zb ?_
   show zAQ _ _ _ _ _ _
   obtain rfl:=Option.some.inj h
   exact zu (zAM rfl rfl)
theorem zOk {a_c:zL} {a_frame:Int} {r:Bool} (h:zK6 a_c a_frame=some r):PFn prog 124 [(AV.agg (zH a_c)),li a_frame] (AV.lit (.bool r)):=by
 refine zq func124 rfl ntmps124 results124 rfl ?_
 unfold zK6 at h
 refine zI<|zC<|za (H':=[.box 55 (zH a_c)]) (zw (t:=55) rfl)<|zA (zD rfl)<|zF ?_
 refine zx (fun e' H'=>Rep 27 0 e' H' (mkE []) []∧zIW  = some r) ?_ ?_
 ·
  refine zI<|zC<|zA (zK underlying55 rfl rfl sizeOf53 rfl)<|zA (zN isAgg53 rfl rfl rfl rfl)<|zA (zX underlying53 rfl)<|zA (zB rfl) ?_
  refine zF<|zQ<|z6 (σ:=Nat×Int) (fun s=>s.1) (fun s e' H'=>match s with | (n0,i1)=>Rep 27 0 e' H' (mkE [(1,(li a_frame)),(10,(ls (cS cI) a_c.lists)),(11,(li (a_c.lists.length:Int))),(12,(li i1))]) []∧zDD a_c a_frame n0 i1=some r) (z9,0) ⟨zAE [] rfl rfl (by kernel_rfl),h⟩ ?_
  clear h
  rintro ⟨n0,i1⟩ e' H' ⟨hrep,h⟩
  cases n0 with
  | zero=>exact absurd (show (none:Option _)=some r from h) (by simp)
  | succ n0 =>
   replace h:zFC a_c a_frame (zDD a_c a_frame n0) i1=some r:=h
   unfold zFC at h
   refine zV hrep ?_
   clear hrep
   refine zI<|zC<|zA (ze rfl rfl)<|zF<|zI ?_
   refine zY h rfl (fun hb1 h => ?_) (fun hb1 h => ?_)
   ·refine zP ?_
    refine zx (fun e' H'=>Rep 27 0 e' H' (mkE [(1,(li a_frame)),(10,(ls (cS cI) a_c.lists)),(11,(li (a_c.lists.length:Int))),(12,(li i1))]) []∧zIV (zDD a_c a_frame n0) i1=some r) ?_ ?_
    ·
     refine zQ<|zI<|zC<|zM h fun hb3 h=>zA (zU underlying53 sizeOf22 (fun _=>rfl) rfl rfl hb3)<|zA (zW (o:=0) isAgg22 rfl rfl) ?_
     refine zA (zD rfl)<|zF<|zI<|zC<|zA (zB rfl)<|zA (zX underlying22 rfl) ?_
     refine zA (zB rfl)<|zF<|zQ<|z6 (σ:=Nat×Int) (fun s=>s.1) (fun s e' H'=>match s with | (n1,i2)=>Rep 27 0 e' H' (mkE [(1,(li a_frame)),(10,(ls (cS cI) a_c.lists)),(11,(li (a_c.lists.length:Int))),(12,(li i1)),(16,(ls cI (at_ a_c.lists i1))),(17,(li ((at_ a_c.lists i1).length:Int))),(18,(li i2))]) []∧zHZ (zDD a_c a_frame n0) a_c a_frame i1 n1 i2=some r) (z9,0) ⟨zAE [] rfl rfl (by kernel_rfl),h⟩ ?_
     clear h
     rintro ⟨n1,i2⟩ e' H' ⟨hrep,h⟩
     cases n1 with
     | zero=>exact absurd (show (none:Option _)=some r from h) (by simp)
     | succ n1 =>
      replace h:zE3 (zDD a_c a_frame n0) a_c a_frame i1 (zHZ (zDD a_c a_frame n0) a_c a_frame i1 n1) i2=some r:=h
      unfold zE3 at h
      refine zV hrep ?_
      clear hrep
      refine zI<|zC<|zA (ze rfl rfl)<|zF<|zI ?_
      refine zY h rfl (fun hb4 h => ?_) (fun hb4 h => ?_)
      ·refine zP<|zI<|zQ<|zI<|zC<|zM h fun hb5 h => ?_
       refine zA (zU underlying22 sizeOf3 (fun _=>rfl) rfl rfl hb5)<|zA (zW (o:=0) isAgg3 rfl rfl)<|zA (zD rfl)<|zF<|zI<|zC ?_
       refine zA (zB rfl)<|zA (zB rfl)<|zA (zBR rfl rfl)<|zF ?_
       refine zY h rfl (fun hb6 h => ?_) (fun hb6 h => ?_)
       ·refine zI<|zC<|zA (zD rfl)<|zF<|zb ?_
        show zAQ _ _ _ _ _ _
        obtain rfl:=Option.some.inj h
        exact zu (zAM rfl rfl)
       ·refine zP<|zC<|zM h fun hb7 h=>zA (zf rfl rfl hb7)<|zA (zB rfl)<|zF ?_
        exact ⟨(n1,(i2+1)),Nat.lt_succ_self _,zAE [] rfl rfl (by kernel_rfl),h⟩
      ·refine zy ?_
       exact ⟨zAE [] rfl rfl (by kernel_rfl),h⟩
    ·
     clear h
     rintro e' H' ⟨hrep,h⟩
     refine zV hrep ?_
     clear hrep
     unfold zIV at h
     refine zC<|zM h fun hb2 h=>zA (zf rfl rfl hb2)<|zA (zB rfl)<|zF ?_
     exact ⟨(n0,(i1+1)),Nat.lt_succ_self _,zAE [] rfl rfl (by kernel_rfl),h⟩
   ·refine zy ?_
    exact ⟨zAE [] rfl rfl (by kernel_rfl),h⟩
 ·
  clear h
  rintro e' H' ⟨hrep,h⟩
  refine zV hrep ?_
  clear hrep
  unfold zIW at h
  refine zI<|zC<|zA (zD rfl)<|zF<|zb ?_
  show zAQ _ _ _ _ _ _
  obtain rfl:=Option.some.inj h
  exact zu (zAM rfl rfl)
theorem zLk {a_p0:zL} {a_p1:Int} {a_p2:Int} {a_p3:Int} {a_p4:Int} {r:zL×(List Int)×Int} (h:zI2 a_p0 a_p1 a_p2 a_p3 a_p4=some r):PFn prog 69 [(AV.agg (zH a_p0)),li a_p1,li a_p2,li a_p3,li a_p4] (AV.tup [(AV.agg (zH r.1)),ls cI r.2.1,li r.2.2]):=by
 refine zq func69 rfl ntmps69 results69 rfl ?_
 unfold zI2 at h
 refine zI<|zC<|za (a:=(AV.ptr 0 0)) (H':=[.box 55 (zH a_p0)]) (zw (t:=55) (cs:=(zH a_p0)) rfl)<|za (a:=(AV.ptr 1 0)) (H':=[.box 55 (zH a_p0),.box 55 [(ls (cS cI) ([]:List (List Int)))]]) (zv (t:=55) (vs:=[.slice none 0 0]) (cs:=[.sl false []]) zeroValue55 (by kernel_rfl) rfl ⟨zh.nils,trivial⟩)<|zA (zD (av:=(AV.lit (.slice none 0 0))) rfl)<|zA (zD (av:=(li 0)) rfl) ?_
 refine zF<|zI<|zI<|zC<|zA (zS (k:=0) (o:=0) (m:=1) isAgg55 sizeOf55 rfl rfl rfl rfl rfl)<|zA (zB rfl) ?_
 refine zR h fun x1 hx1 h=>zi (r:=(li x1)) (la:=[(AV.agg (zH a_p0)),li a_p1]) func122 rfl (by kernel_rfl) (.fn 122) rfl rfl (zMn hx1) rfl<|zA (zD (av:=(li x1)) rfl)<|zF<|zI<|zC ?_
 refine zA (zB rfl)<|zA (z7 rfl rfl)<|zF ?_
 refine zY h rfl (fun hb1 h => ?_) (fun hb1 h => ?_)
 ·refine zI<|zC<|zA (z8 (pl:=[(0,1)]) (zs:=[.slice none 0 0]) (zc:=[.sl false []]) (res:=(zH (⟨([]:List (List Int))⟩:zL))) (fun _=>by kernel_rfl) rfl (⟨zh.nils,trivial⟩) (by exact zFX.refl _))<|zA (zB (av:=(li x1)) rfl)<|zm (H':=[.box 55 (zH a_p0),.box 55 (zH (⟨([]:List (List Int))⟩:zL))]) (zZ (k:=1) (o:=0) (cs:=[(ls (cS cI) ([]:List (List Int)))]) (la:=(zH (⟨([]:List (List Int))⟩:zL))) sizeOf55 rfl rfl rfl rfl)<|zA (zD (av:=(AV.lit (.slice none 0 0))) rfl) ?_
  refine zA (zD rfl)<|zF<|zb ?_
  show zAQ _ _ _ _ _ _
  obtain rfl:=Option.some.inj h
  exact zC6 (zFa (cs:=(zH (⟨([]:List (List Int))⟩:zL))) isAgg55 sizeOf55 rfl rfl rfl rfl) (zHs (zAM (r1 := .lit (.slice none 0 0)) rfl rfl) zh.nils) (zAM (r1:=(li x1)) rfl rfl) rfl
 ·refine zP<|zI<|zI<|zC<|zA (zB rfl)<|zR h fun x2 hx2 h => ?_
  refine zi (r:=(AV.lit (.bool x2))) (la:=[li a_p2]) func123 rfl (by kernel_rfl) (.fn 123) rfl rfl (zJa hx2) rfl<|zF ?_
  refine zY h rfl (fun hb2 h => ?_) (fun hb2 h => ?_)
  ·refine zI<|zC<|zA (z8 (pl:=[(0,1)]) (zs:=[.slice none 0 0]) (zc:=[.sl false []]) (res:=(zH (⟨([]:List (List Int))⟩:zL))) (fun _=>by kernel_rfl) rfl (⟨zh.nils,trivial⟩) (by exact zFX.refl _))<|zm (H':=[.box 55 (zH a_p0),.box 55 (zH (⟨([]:List (List Int))⟩:zL))]) (zZ (k:=1) (o:=0) (cs:=[(ls (cS cI) ([]:List (List Int)))]) (la:=(zH (⟨([]:List (List Int))⟩:zL))) sizeOf55 rfl rfl rfl rfl)<|zA (zD rfl)<|zA (zD rfl) ?_
   refine zF<|zb ?_
   show zAQ _ _ _ _ _ _
   obtain rfl:=Option.some.inj h
   exact zC6 (zFa (cs:=(zH (⟨([]:List (List Int))⟩:zL))) isAgg55 sizeOf55 rfl rfl rfl rfl) (zHs (zAM (r1 := .lit (.slice none 0 0)) rfl rfl) zh.nils) (zAM (r1:=(li 2)) rfl rfl) rfl
  ·refine zP<|zI<|zI<|zC<|zA (zB rfl)<|zA (ze rfl rfl) ?_
   refine zA (zB (av:=(AV.lit (.bool (decide (a_p3<1))))) rfl)<|zT (g:=30) (s:=decide (a_p3<1)) rfl rfl (fun hc1=>zt.step (zB (av:=(li a_p3)) rfl))<|zT (g:=30) (s:=decide (a_p3<1)) rfl rfl (fun hc2=>zt.step (zB (av:=(li a_p4)) rfl))<|zT (g:=30) (s:=decide (a_p3<1)) rfl rfl (fun hc3=>zt.step (zAl (a:=a_p3) (b:=a_p4) (z5 rfl hc3) (z5 rfl hc3)))<|zA (zd (s:=decide (a_p3<1)) (q:=decide (a_p4<a_p3)) (j := .lit undef) rfl rfl)<|zF ?_
   refine zY h rfl (fun hb3 h => ?_) (fun hb3 h => ?_)
   ·refine zI<|zC<|zA (z8 (pl:=[(0,1)]) (zs:=[.slice none 0 0]) (zc:=[.sl false []]) (res:=(zH (⟨([]:List (List Int))⟩:zL))) (fun _=>by kernel_rfl) rfl (⟨zh.nils,trivial⟩) (by exact zFX.refl _))<|zm (H':=[.box 55 (zH a_p0),.box 55 (zH (⟨([]:List (List Int))⟩:zL))]) (zZ (k:=1) (o:=0) (cs:=[(ls (cS cI) ([]:List (List Int)))]) (la:=(zH (⟨([]:List (List Int))⟩:zL))) sizeOf55 rfl rfl rfl rfl)<|zA (zD rfl)<|zA (zD rfl) ?_
    refine zF<|zb ?_
    show zAQ _ _ _ _ _ _
    obtain rfl:=Option.some.inj h
    exact zC6 (zFa (cs:=(zH (⟨([]:List (List Int))⟩:zL))) isAgg55 sizeOf55 rfl rfl rfl rfl) (zHs (zAM (r1 := .lit (.slice none 0 0)) rfl rfl) zh.nils) (zAM (r1:=(li 1)) rfl rfl) rfl
   ·refine zP<|zI<|zI<|zC<|zA (zS (k:=0) (o:=0) (m:=1) isAgg55 sizeOf55 rfl rfl rfl rfl rfl)<|zA (zB rfl) ?_
    refine zR h fun x3 hx3 h=>zi (r:=(AV.lit (.bool x3))) (la:=[(AV.agg (zH a_p0)),li a_p2]) func124 rfl (by kernel_rfl) (.fn 124) rfl rfl (zOk hx3) rfl<|zF ?_
    refine zY h rfl (fun hb4 h => ?_) (fun hb4 h => ?_)
    ·refine zI<|zC<|zA (z8 (pl:=[(0,1)]) (zs:=[.slice none 0 0]) (zc:=[.sl false []]) (res:=(zH (⟨([]:List (List Int))⟩:zL))) (fun _=>by kernel_rfl) rfl (⟨zh.nils,trivial⟩) (by exact zFX.refl _))<|zm (H':=[.box 55 (zH a_p0),.box 55 (zH (⟨([]:List (List Int))⟩:zL))]) (zZ (k:=1) (o:=0) (cs:=[(ls (cS cI) ([]:List (List Int)))]) (la:=(zH (⟨([]:List (List Int))⟩:zL))) sizeOf55 rfl rfl rfl rfl)<|zA (zD rfl)<|zA (zD rfl) ?_
     refine zF<|zb ?_
     show zAQ _ _ _ _ _ _
     obtain rfl:=Option.some.inj h
     exact zC6 (zFa (cs:=(zH (⟨([]:List (List Int))⟩:zL))) isAgg55 sizeOf55 rfl rfl rfl rfl) (zHs (zAM (r1 := .lit (.slice none 0 0)) rfl rfl) zh.nils) (zAM (r1:=(li 7)) rfl rfl) rfl
    ·refine zP<|zI<|zC<|zA (zS (k:=0) (o:=0) (m:=1) isAgg55 sizeOf55 rfl rfl rfl rfl rfl)<|zR h fun x4 hx4 h=>zHU (cs:=[AV.osl 22 1 (List.map (cO 3 1 cI) x4.lists)]) (la:=[(AV.agg (zH a_p0))]) (la':=[(AV.agg (zH a_p0))]) (S:=[]) func114 rfl (by kernel_rfl) (.fn 114) rfl ⟨zAt.nr rfl,trivial⟩ (zKQ hx4) (.inl rfl) ?_
     refine za (a:=(AV.ptr 3 0)) (H':=[.box 55 (zH a_p0),.box 55 [(ls (cS cI) ([]:List (List Int)))],.val (.agg [AV.osl 22 1 (List.map (cO 3 1 cI) x4.lists)]),.box 55 [(ls (cS cI) ([]:List (List Int)))]]) (zv (t:=55) (vs:=[.slice none 0 0]) (cs:=[.sl false []]) zeroValue55 (by kernel_rfl) rfl ⟨zh.nils,trivial⟩)<|zm (H':=[.box 55 (zH a_p0),.box 55 [(ls (cS cI) ([]:List (List Int)))],.dead,.box 55 [AV.osl 22 1 (List.map (cO 3 1 cI) x4.lists)]]) (zCd (k:=3) (o:=0) (j:=2) (cs:=[(ls (cS cI) ([]:List (List Int)))]) (la:=[AV.osl 22 1 (List.map (cO 3 1 cI) x4.lists)]) sizeOf55 rfl rfl rfl rfl rfl (by decide))<|zF<|zI<|zC<|zA (zK (k:=3) (o:=0) (off:=0) underlying55 rfl rfl sizeOf53 rfl) ?_
     refine zAF (zBA (k:=3) (o:=0) (t':=22) (sz:=1) (rows:=List.map (cO 3 1 cI) x4.lists) rfl rfl)<|zA (zN isAgg53 rfl rfl rfl rfl)<|zA (zB rfl)<|zM h fun hb5 h=>zA (zAC (f:=(cO 3 1 cI)) (l:=x4.lists) (i:=a_p1) underlying53 sizeOf22 rfl rfl rfl hb5)<|zAF (zQJ (k:=4) (f:=cI) (l:=x4.lists) (i:=a_p1) rfl hb5) ?_
     refine zA (zM9 (k:=4) (i:=a_p1.toNat) (a := .hd 5) isAgg22 rfl rfl rfl rfl)<|zA (zB (av:=(li a_p2)) rfl)<|zGP (a:=(li a_p2)) zGe underlying22 rfl rfl rfl rfl<|zM h fun hb6 h=>zDK (f:=cI) (k:=5) (j:=6) (l:=at_ x4.lists a_p1) (l':=[a_p2]) zGe (fun _=>rfl) underlying22 rfl rfl rfl rfl hb6<|zA (zD (av:=(AV.hd 7)) rfl) ?_
     refine zF<|zI<|zI ?_
     show AW _ _ _ _ _ _ [.box 55 (zH a_p0),.box 55 [(ls (cS cI) ([]:List (List Int)))],.dead,.box 55 [AV.hd 4],.vopen 22 1 (List.map (cO 3 1 cI) x4.lists) a_p1.toNat [.hd 5],.dead,.vec 3 1 (List.map cI [a_p2]),.vec 3 1 (List.map cI ((at_ x4.lists a_p1)++[a_p2]))]
     refine zC<|zA (zB rfl)<|zA (zDx (f:=cI) (l:=(at_ x4.lists a_p1)++[a_p2]) underlying22 rfl rfl)<|zA (zB rfl)<|zA (zCi rfl rfl)<|zF ?_
     refine zY h rfl (fun hb7 h => ?_) (fun hb7 h => ?_)
     ·refine zI ?_
      show AW _ _ _ _ _ _ [.box 55 (zH a_p0),.box 55 [(ls (cS cI) ([]:List (List Int)))],.dead,.box 55 [AV.hd 4],.vopen 22 1 (List.map (cO 3 1 cI) x4.lists) a_p1.toNat [.hd 5],.dead,.vec 3 1 (List.map cI [a_p2]),.vec 3 1 (List.map cI ((at_ x4.lists a_p1)++[a_p2]))]
      refine zC<|zA (zK (k:=3) (o:=0) (off:=0) underlying55 rfl rfl sizeOf53 rfl)<|zA (zN (k:=3) (o:=0) (a:=(AV.hd 4)) isAgg53 rfl rfl rfl rfl)<|zA (zB (av:=(li a_p1)) rfl)<|zA (zB (av:=(AV.hd 7)) rfl)<|zA (zMX (row:=[]) (i:=a_p1) underlying53 sizeOf22 rfl rfl rfl (by rw [List.length_map]; exact hb5)) ?_
      refine zm (H':=[.box 55 (zH a_p0),.box 55 [(ls (cS cI) ([]:List (List Int)))],.dead,.box 55 [AV.hd 4],.vopen 22 1 (List.map (cO 3 1 cI) x4.lists) a_p1.toNat [.hd 7],.dead,.vec 3 1 (List.map cI [a_p2]),.vec 3 1 (List.map cI ((at_ x4.lists a_p1)++[a_p2]))]) (zLl (k:=4) (j:=7) (j0:=5) (i:=a_p1.toNat) sizeOf22 rfl rfl rfl rfl rfl)<|zF<|zI ?_
      show AW _ _ _ _ _ _ [.box 55 (zH a_p0),.box 55 [(ls (cS cI) ([]:List (List Int)))],.dead,.box 55 [AV.hd 4],.vopen 22 1 (List.map (cO 3 1 cI) x4.lists) a_p1.toNat [.hd 7],.dead,.vec 3 1 (List.map cI [a_p2]),.vec 3 1 (List.map cI ((at_ x4.lists a_p1)++[a_p2]))]
      refine zC<|zAF (zLj (k:=4) (j:=7) (f:=cI) (l:=x4.lists) (l':=(at_ x4.lists a_p1)++[a_p2]) rfl rfl rfl)<|zAF (zAJ (k:=3) (j:=4) (o:=0) rfl rfl rfl rfl)<|zAF (zBb (k:=3) (o:=0) (rows':=List.map (cS cI) (x4.lists.set a_p1.toNat ((at_ x4.lists a_p1)++[a_p2]))) rfl rfl (zMJ (fun x=>zRN (fun _=>rfl) x)))<|zA (zS (k:=3) (o:=0) (m:=1) isAgg55 sizeOf55 rfl rfl rfl rfl rfl)<|zm (H':=[.box 55 (zH a_p0),.box 55 (zH (⟨x4.lists.set a_p1.toNat ((at_ x4.lists a_p1)++[a_p2])⟩:zL)),.dead,.box 55 [(ls (cS cI) (x4.lists.set a_p1.toNat ((at_ x4.lists a_p1)++[a_p2])))],.dead,.dead,.vec 3 1 (List.map cI [a_p2]),.dead]) (zZ (k:=1) (o:=0) (cs:=[(ls (cS cI) ([]:List (List Int)))]) (la:=(zH (⟨x4.lists.set a_p1.toNat ((at_ x4.lists a_p1)++[a_p2])⟩:zL))) sizeOf55 rfl rfl rfl rfl) ?_
      refine zA (zD (av:=(AV.lit (.slice none 0 0))) rfl)<|zA (zD (av:=(li 0)) rfl)<|zF<|zb ?_
      show zAQ _ _ _ _ _ _
      obtain rfl:=Option.some.inj h
      exact zC6 (zFa isAgg55 sizeOf55 rfl rfl rfl rfl) (zHs (zAM rfl rfl) zh.nils) (zAM rfl rfl) rfl
     ·refine zP<|zI ?_
      show AW _ _ _ _ _ _ [.box 55 (zH a_p0),.box 55 [(ls (cS cI) ([]:List (List Int)))],.dead,.box 55 [AV.hd 4],.vopen 22 1 (List.map (cO 3 1 cI) x4.lists) a_p1.toNat [.hd 5],.dead,.vec 3 1 (List.map cI [a_p2]),.vec 3 1 (List.map cI ((at_ x4.lists a_p1)++[a_p2]))]
      refine zC<|zA (zD (av:=(AV.lit (.slice none 0 0))) rfl)<|zA (zD (av:=(AV.lit (.slice none 0 0))) rfl)<|zF<|zI ?_
      show AW _ _ _ _ _ _ [.box 55 (zH a_p0),.box 55 [(ls (cS cI) ([]:List (List Int)))],.dead,.box 55 [AV.hd 4],.vopen 22 1 (List.map (cO 3 1 cI) x4.lists) a_p1.toNat [.hd 5],.dead,.vec 3 1 (List.map cI [a_p2]),.vec 3 1 (List.map cI ((at_ x4.lists a_p1)++[a_p2]))]
      refine zC<|zA (zB rfl)<|zA (zB rfl)<|zA (zB rfl)<|zAF (zET (j:=7) (ds:=[15,49,50,61]) (rows':=List.map cI ((at_ x4.lists a_p1)++[a_p2])) rfl (zAP (fun _=>rfl)) ⟨rfl,rfl,rfl,rfl,trivial⟩)<|zM h fun hb8 h => ?_
      refine zA (zOf (hi:=a_p3) (f:=cI) (l:=(at_ x4.lists a_p1)++[a_p2]) underlying22 sizeOf3 (fun _=>rfl) rfl rfl hb8)<|zAF (zLN (d:=60) (el:=3) (sz:=1) rfl)<|zM h fun hb9 h=>zD8 (f:=cI) (k:=8) (l:=([]:List Int)) (l':=zGB ((at_ x4.lists a_p1)++[a_p2]) 0 a_p3) zGe (fun _=>rfl) underlying22 rfl rfl rfl hb9<|zA (zD (av:=(AV.hd 9)) rfl)<|zF ?_
      refine zI ?_
      show AW _ _ _ _ _ _ [.box 55 (zH a_p0),.box 55 [(ls (cS cI) ([]:List (List Int)))],.dead,.box 55 [AV.hd 4],.vopen 22 1 (List.map (cO 3 1 cI) x4.lists) a_p1.toNat [.hd 5],.dead,.vec 3 1 (List.map cI [a_p2]),.dead,.dead,.vec 3 1 (List.map cI (([]:List Int)++(zGB ((at_ x4.lists a_p1)++[a_p2]) 0 a_p3)))]
      refine zC<|zA (zB rfl)<|zA (zB rfl)<|zA (zB rfl)<|zM h fun hb10 h=>zA (zMQ (lo:=a_p3) (f:=cI) (l:=(at_ x4.lists a_p1)++[a_p2]) underlying22 sizeOf3 (fun _=>rfl) rfl rfl hb10) ?_
      refine zAF (zLN (d:=65) (el:=3) (sz:=1) rfl)<|zM h fun hb11 h=>zD8 (f:=cI) (k:=10) (l:=([]:List Int)) (l':=zGB ((at_ x4.lists a_p1)++[a_p2]) a_p3 (((at_ x4.lists a_p1)++[a_p2]).length:Int)) zGe (fun _=>rfl) underlying22 rfl rfl rfl hb11<|zA (zD (av:=(AV.hd 11)) rfl)<|zF<|zI ?_
      show AW _ _ _ _ _ _ [.box 55 (zH a_p0),.box 55 [(ls (cS cI) ([]:List (List Int)))],.dead,.box 55 [AV.hd 4],.vopen 22 1 (List.map (cO 3 1 cI) x4.lists) a_p1.toNat [.hd 5],.dead,.vec 3 1 (List.map cI [a_p2]),.dead,.dead,.vec 3 1 (List.map cI (([]:List Int)++(zGB ((at_ x4.lists a_p1)++[a_p2]) 0 a_p3))),.dead,.vec 3 1 (List.map cI (([]:List Int)++(zGB ((at_ x4.lists a_p1)++[a_p2]) a_p3 (((at_ x4.lists a_p1)++[a_p2]).length:Int))))]
      refine zC<|zA (zK underlying55 rfl rfl sizeOf53 rfl)<|zA (zN isAgg53 rfl rfl rfl rfl)<|zA (zB rfl)<|zA (zB rfl)<|zA (zMX (row:=[]) (i:=a_p1) underlying53 sizeOf22 rfl rfl rfl (by rw [List.length_map]; exact hb5)) ?_
      refine zm (H':=[.box 55 (zH a_p0),.box 55 [(ls (cS cI) ([]:List (List Int)))],.dead,.box 55 [AV.hd 4],.vopen 22 1 (List.map (cO 3 1 cI) x4.lists) a_p1.toNat [.hd 11],.dead,.vec 3 1 (List.map cI [a_p2]),.dead,.dead,.vec 3 1 (List.map cI (([]:List Int)++(zGB ((at_ x4.lists a_p1)++[a_p2]) 0 a_p3))),.dead,.vec 3 1 (List.map cI (([]:List Int)++(zGB ((at_ x4.lists a_p1)++[a_p2]) a_p3 (((at_ x4.lists a_p1)++[a_p2]).length:Int))))]) (zLl (k:=4) (j:=11) (j0:=5) (i:=a_p1.toNat) sizeOf22 rfl rfl rfl rfl rfl)<|zF<|zI ?_
      show AW _ _ _ _ _ _ [.box 55 (zH a_p0),.box 55 [(ls (cS cI) ([]:List (List Int)))],.dead,.box 55 [AV.hd 4],.vopen 22 1 (List.map (cO 3 1 cI) x4.lists) a_p1.toNat [.hd 11],.dead,.vec 3 1 (List.map cI [a_p2]),.dead,.dead,.vec 3 1 (List.map cI (([]:List Int)++(zGB ((at_ x4.lists a_p1)++[a_p2]) 0 a_p3))),.dead,.vec 3 1 (List.map cI (([]:List Int)++(zGB ((at_ x4.lists a_p1)++[a_p2]) a_p3 (((at_ x4.lists a_p1)++[a_p2]).length:Int))))]
      refine zC<|zAF (zLj (k:=4) (j:=11) (f:=cI) (l:=x4.lists) (l':=([]:List Int)++(zGB ((at_ x4.lists a_p1)++[a_p2]) a_p3 (((at_ x4.lists a_p1)++[a_p2]).length:Int))) rfl rfl rfl)<|zAF (zAJ (k:=3) (j:=4) (o:=0) (cs:=[AV.hd 4]) rfl rfl rfl rfl)<|zAF (zBb (k:=3) (o:=0) (cs:=[AV.osl 22 1 (List.map (cO 3 1 cI) (x4.lists.set a_p1.toNat (([]:List Int)++(zGB ((at_ x4.lists a_p1)++[a_p2]) a_p3 (((at_ x4.lists a_p1)++[a_p2]).length:Int)))))]) (rows':=List.map (cS cI) (x4.lists.set a_p1.toNat (([]:List Int)++(zGB ((at_ x4.lists a_p1)++[a_p2]) a_p3 (((at_ x4.lists a_p1)++[a_p2]).length:Int))))) rfl rfl (zMJ (fun x=>zRN (fun _=>rfl) x)))<|zA (zS (k:=3) (o:=0) (m:=1) (la:=[(ls (cS cI) (x4.lists.set a_p1.toNat (([]:List Int)++(zGB ((at_ x4.lists a_p1)++[a_p2]) a_p3 (((at_ x4.lists a_p1)++[a_p2]).length:Int)))))]) isAgg55 sizeOf55 rfl rfl rfl rfl rfl)<|zA (zB (av:=(AV.hd 9)) rfl) ?_
      refine zm (H':=[.box 55 (zH a_p0),.box 55 (zH (⟨x4.lists.set a_p1.toNat (([]:List Int)++(zGB ((at_ x4.lists a_p1)++[a_p2]) a_p3 (((at_ x4.lists a_p1)++[a_p2]).length:Int)))⟩:zL)),.dead,.box 55 [(ls (cS cI) (x4.lists.set a_p1.toNat (([]:List Int)++(zGB ((at_ x4.lists a_p1)++[a_p2]) a_p3 (((at_ x4.lists a_p1)++[a_p2]).length:Int)))))],.dead,.dead,.vec 3 1 (List.map cI [a_p2]),.dead,.dead,.vec 3 1 (List.map cI (([]:List Int)++(zGB ((at_ x4.lists a_p1)++[a_p2]) 0 a_p3))),.dead,.dead]) (zZ (k:=1) (o:=0) (cs:=[(ls (cS cI) ([]:List (List Int)))]) (la:=(zH (⟨x4.lists.set a_p1.toNat (([]:List Int)++(zGB ((at_ x4.lists a_p1)++[a_p2]) a_p3 (((at_ x4.lists a_p1)++[a_p2]).length:Int)))⟩:zL))) sizeOf55 rfl rfl rfl rfl)<|zA (zD rfl)<|zA (zD rfl)<|zF<|zV (zET (j:=9) (ds:=[11,16,64,76]) (rows':=List.map cI (([]:List Int)++(zGB ((at_ x4.lists a_p1)++[a_p2]) 0 a_p3))) rfl (zAP (fun _=>rfl)) ⟨rfl,rfl,rfl,rfl,trivial⟩)<|zb ?_
      show zAQ _ _ _ _ _ _
      obtain rfl:=Option.some.inj h
      exact zC6 (zFa (cs:=(zH (⟨x4.lists.set a_p1.toNat (([]:List Int)++(zGB ((at_ x4.lists a_p1)++[a_p2]) a_p3 (((at_ x4.lists a_p1)++[a_p2]).length:Int)))⟩:zL))) isAgg55 sizeOf55 rfl rfl rfl rfl) (zAM (r1:=(ls cI (([]:List Int)++(zGB ((at_ x4.lists a_p1)++[a_p2]) 0 a_p3)))) rfl rfl) (zAM (r1:=(li 0)) rfl rfl) rfl
theorem zOX {a_s:List Int} {a_frame:Int} {a_order:Int} {r:Bool} (h:zKs a_s a_frame a_order=some r):PFn prog 143 [ls cI a_s,li a_frame,li a_order] (AV.lit (.bool r)):=by
 refine zq func143 rfl ntmps143 results143 rfl ?_
 unfold zKs at h
 refine zI<|zC<|zA (zD rfl)<|zF ?_
 refine zx (fun e' H'=>Rep 23 0 e' H' (mkE []) []∧zJh  = some r) ?_ ?_
 ·
  refine zI<|zC<|zA (zB rfl)<|zA (zD rfl)<|zF<|zQ ?_
  refine z6 (σ:=Nat×Int) (fun s=>s.1) (fun s e' H'=>match s with | (n0,i1)=>Rep 23 0 e' H' (mkE [(0,(ls cI a_s)),(1,(li a_frame)),(2,(li a_order)),(7,(li i1))]) []∧zHR a_s a_frame a_order n0 i1=some r) (z9,a_frame) ⟨zAE [] rfl rfl (by kernel_rfl),h⟩ ?_
  clear h
  rintro ⟨n0,i1⟩ e' H' ⟨hrep,h⟩
  cases n0 with
  | zero=>exact absurd (show (none:Option _)=some r from h) (by simp)
  | succ n0 =>
   replace h:zE9 a_s a_frame a_order (zHR a_s a_frame a_order n0) i1=some r:=h
   unfold zE9 at h
   refine zV hrep ?_
   clear hrep
   refine zI<|zI<|zC<|zA (zB rfl)<|zA (zB rfl)<|zA (zB rfl) ?_
   refine zM h fun hb1 h=>zA (zGX (k' := .u64) (a:=a_order) underlying3 underlying74 rfl hb1)<|zM h fun hb2 h=>zM h fun hb3 h=>zA (zDI (a:=1) (b:=a_order) rfl rfl hb2 hb3)<|zM h fun hb4 h => ?_
   refine zA (zf rfl rfl hb4)<|zA (ze rfl rfl)<|zF ?_
   refine zY h rfl (fun hb5 h => ?_) (fun hb5 h => ?_)
   ·refine zP<|zI<|zQ<|zI<|zC<|zA (zB rfl) ?_
    refine zA (zB rfl)<|zM h fun hb6 h=>zA (zU underlying22 sizeOf3 (fun _=>rfl) rfl rfl hb6)<|zA (zW (o:=0) isAgg3 rfl rfl)<|zA (zBR rfl rfl)<|zF ?_
    refine zY h rfl (fun hb7 h => ?_) (fun hb7 h => ?_)
    ·refine zI<|zC<|zA (zD rfl)<|zF<|zb ?_
     show zAQ _ _ _ _ _ _
     obtain rfl:=Option.some.inj h
     exact zu (zAM rfl rfl)
    ·refine zP<|zC<|zA (zB rfl)<|zM h fun hb8 h=>zA (zf rfl rfl hb8)<|zA (zD rfl) ?_
     refine zF ?_
     exact ⟨(n0,(i1+1)),Nat.lt_succ_self _,zAE [] rfl rfl (by kernel_rfl),h⟩
   ·refine zy ?_
    exact ⟨zAE [] rfl rfl (by kernel_rfl),h⟩
 ·
  clear h
  rintro e' H' ⟨hrep,h⟩
  refine zV hrep ?_
  clear hrep
  unfold zJh at h
  refine zI<|zC<|zA (zD rfl)<|zF<|zb ?_
  show zAQ _ _ _ _ _ _
  obtain rfl:=Option.some.inj h
  exact zu (zAM rfl rfl)
end Go.Proofs.YtplkliakhdkpcaaGreat
namespace Go.Proofs.YtplkliakhdkpcaaGreat
open Go Go.RowKit Go.Wk Go.Am Go.Proofs Tryz
set_option maxHeartbeats 4000000
theorem zNu {a_p0:zp} {a_p1:List Int} {r:zp} (h:zG2 a_p0 a_p1=some r):PFn prog 121 [(AV.agg (zO a_p0)),ls cI a_p1] (AV.agg (zO r)):=by
 refine zq func121 rfl ntmps121 results121 rfl ?_
 unfold zG2 at h
 refine zI<|zC<|za (H':=[.box 51 (zO a_p0)]) (zw (t:=51) rfl)<|za (H':=[.box 51 (zO a_p0),.box 51 (zO ⟨0,0,0,0,0,(List.replicate 5 ([]:List Int))⟩)]) (zv (t:=51) (vs:=[.int .i64 0,.int .i64 0,.int .i64 0,.int .i64 0,.int .i64 0,.slice none 0 0,.slice none 0 0,.slice none 0 0,.slice none 0 0,.slice none 0 0]) (cs:=[.lit (.int .i64 0),.lit (.int .i64 0),.lit (.int .i64 0),.lit (.int .i64 0),.lit (.int .i64 0),.sl false [],.sl false [],.sl false [],.sl false [],.sl false []]) zeroValue51 (by kernel_rfl) rfl ⟨zh.refl _,zh.refl _,zh.refl _,zh.refl _,zh.refl _,zh.nils,zh.nils,zh.nils,zh.nils,zh.nils,trivial⟩)<|zF<|zI ?_
 refine zC<|zA (zK underlying51 rfl rfl sizeOf3 rfl)<|zA (zN isAgg3 rfl rfl rfl rfl)<|zA (zK underlying51 rfl rfl sizeOf3 rfl)<|zA (zN isAgg3 rfl rfl rfl rfl)<|zA (zK underlying51 rfl rfl sizeOf3 rfl) ?_
 refine zA (zN isAgg3 rfl rfl rfl rfl)<|zA (zK underlying51 rfl rfl sizeOf3 rfl)<|zA (zN isAgg3 rfl rfl rfl rfl)<|zA (zK underlying51 rfl rfl sizeOf3 rfl)<|zA (zN isAgg3 rfl rfl rfl rfl)<|zA (z8 (pl:=[(0,1),(1,1),(2,1),(3,1),(4,1),(5,5)]) (zs:=[.int .i64 0,.int .i64 0,.int .i64 0,.int .i64 0,.int .i64 0,.slice none 0 0,.slice none 0 0,.slice none 0 0,.slice none 0 0,.slice none 0 0]) (zc:=[.lit (.int .i64 0),.lit (.int .i64 0),.lit (.int .i64 0),.lit (.int .i64 0),.lit (.int .i64 0),.osl 3 1 [],.osl 3 1 [],.osl 3 1 [],.osl 3 1 [],.osl 3 1 []]) (res:=([li a_p0.node,li a_p0.kind,li a_p0.start,li a_p0.count,li a_p0.min]++((cM 5 3 (5:Int) (List.replicate 5 ([]:List Int)))++[]))) (fun _=>by kernel_rfl) rfl (⟨zh.refl _,⟨zh.refl _,⟨zh.refl _,⟨zh.refl _,⟨zh.refl _,⟨zh.nilo,⟨zh.nilo,⟨zh.nilo,⟨zh.nilo,⟨zh.nilo,trivial⟩⟩⟩⟩⟩⟩⟩⟩⟩⟩) ⟨li a_p0.node,0,1,rfl,rfl,rfl,rfl,rfl,⟨li a_p0.kind,1,1,rfl,rfl,rfl,rfl,rfl,⟨li a_p0.start,2,1,rfl,rfl,rfl,rfl,rfl,⟨li a_p0.count,3,1,rfl,rfl,rfl,rfl,rfl,⟨li a_p0.min,4,1,rfl,rfl,rfl,rfl,rfl,(by exact zFX.refl _)⟩⟩⟩⟩⟩) ?_
 refine za (H':=[.box 51 (zO a_p0),.box 51 (zO ⟨0,0,0,0,0,(List.replicate 5 ([]:List Int))⟩),.box 51 (zO ⟨0,0,0,0,0,(List.replicate 5 ([]:List Int))⟩)]) (zv (t:=51) (vs:=[.int .i64 0,.int .i64 0,.int .i64 0,.int .i64 0,.int .i64 0,.slice none 0 0,.slice none 0 0,.slice none 0 0,.slice none 0 0,.slice none 0 0]) (cs:=[.lit (.int .i64 0),.lit (.int .i64 0),.lit (.int .i64 0),.lit (.int .i64 0),.lit (.int .i64 0),.sl false [],.sl false [],.sl false [],.sl false [],.sl false []]) zeroValue51 (by kernel_rfl) rfl ⟨zh.refl _,zh.refl _,zh.refl _,zh.refl _,zh.refl _,zh.nils,zh.nils,zh.nils,zh.nils,zh.nils,trivial⟩)<|zm (H':=[.box 51 (zO a_p0),.box 51 (zO ⟨0,0,0,0,0,(List.replicate 5 ([]:List Int))⟩),.box 51 ([li a_p0.node,li a_p0.kind,li a_p0.start,li a_p0.count,li a_p0.min]++((cM 5 3 (5:Int) (List.replicate 5 ([]:List Int)))++[]))]) (zZ (k:=2) (o:=0) (cs:=(zO ⟨0,0,0,0,0,(List.replicate 5 ([]:List Int))⟩)) (la:=([li a_p0.node,li a_p0.kind,li a_p0.start,li a_p0.count,li a_p0.min]++((cM 5 3 (5:Int) (List.replicate 5 ([]:List Int)))++[]))) sizeOf51 rfl rfl rfl rfl)<|zF<|zI<|zC<|zA (zB rfl) ?_
 refine zA (zX underlying22 rfl)<|zM h fun hb1 h=>zDy (f:=cI) (a:=(a_p1.length:Int)) (c:=(a_p1.length:Int)) (d0:=0) zGe ⟨zh.refl _,trivial⟩ rfl underlying22 rfl rfl hb1<|zA (zD rfl)<|zF ?_
 refine zx (fun e' H' => ∃ (l1:List Int),Rep 87 0 e' H' (mkE [(2,(AV.ptr 0 0)),(4,(AV.ptr 1 0)),(5,(AV.ptr 2 0)),(6,(AV.hd 3))]) [.box 51 (zO a_p0),.box 51 (zO ⟨0,0,0,0,0,(List.replicate 5 ([]:List Int))⟩),.box 51 ([li a_p0.node,li a_p0.kind,li a_p0.start,li a_p0.count,li a_p0.min]++((cM 5 3 (5:Int) (List.replicate 5 ([]:List Int)))++[])),.vec 3 1 (List.map cI l1)]∧zGl a_p0 l1=some r) ?_ ?_
 ·
  refine zI<|zC<|zA (zD rfl)<|zF<|zQ<|z6 (σ:=Nat×Int×(List Int)) (fun s=>s.1) (fun s e' H'=>match s with | (n3,i4,l12)=>Rep 87 0 e' H' (mkE [(1,(ls cI a_p1)),(2,(AV.ptr 0 0)),(4,(AV.ptr 1 0)),(5,(AV.ptr 2 0)),(6,(AV.hd 3)),(7,(li i4))]) [.box 51 (zO a_p0),.box 51 (zO ⟨0,0,0,0,0,(List.replicate 5 ([]:List Int))⟩),.box 51 ([li a_p0.node,li a_p0.kind,li a_p0.start,li a_p0.count,li a_p0.min]++((cM 5 3 (5:Int) (List.replicate 5 ([]:List Int)))++[])),.vec 3 1 (List.map cI l12)]∧zGq a_p0 a_p1 n3 i4 l12=some r) (z9,0,(List.replicate (a_p1.length:Int).toNat 0)) ⟨zAE [0,1,2,3] rfl rfl (by kernel_rfl),h⟩ ?_
  clear h
  rintro ⟨n3,i4,l12⟩ e' H' ⟨hrep,h⟩
  cases n3 with
  | zero=>exact absurd (show (none:Option _)=some r from h) (by simp)
  | succ n3 =>
   replace h:zEG a_p0 a_p1 (zGq a_p0 a_p1 n3) i4 l12=some r:=h
   unfold zEG at h
   refine zV hrep ?_
   clear hrep
   refine zI<|zI<|zC<|zA (zB rfl)<|zA (zB rfl)<|zA (zX underlying22 rfl) ?_
   refine zA (ze rfl rfl)<|zF ?_
   refine zY h rfl (fun hb18 h => ?_) (fun hb18 h => ?_)
   ·refine zP<|zI<|zQ<|zC<|zA (zB rfl)<|zA (zB rfl) ?_
    refine zA (zB rfl)<|zA (zB rfl)<|zM h fun hb19 h=>zA (zU underlying22 sizeOf3 (fun _=>rfl) rfl rfl hb19)<|zA (zW (o:=0) isAgg3 rfl rfl)<|zM h fun hb20 h => ?_
    refine zA (zAC (f:=cI) (l:=l12) (i:=i4) underlying22 sizeOf3 rfl rfl rfl hb20)<|zm (H':=[.box 51 (zO a_p0),.box 51 (zO ⟨0,0,0,0,0,(List.replicate 5 ([]:List Int))⟩),.box 51 ([li a_p0.node,li a_p0.kind,li a_p0.start,li a_p0.count,li a_p0.min]++((cM 5 3 (5:Int) (List.replicate 5 ([]:List Int)))++[])),.vec 3 1 (List.map cI (l12.set i4.toNat (at_ a_p1 i4)))]) (zCJ (k:=3) (o:=(i4.toNat*1)) (f:=cI) (l:=l12) (i:=i4) (c:=0) (a:=(li (at_ a_p1 i4))) (z:=at_ a_p1 i4) sizeOf3 rfl rfl (by first | rfl | omega) hb20 rfl rfl rfl rfl rfl)<|zF<|zC<|zA (zB rfl)<|zM h fun hb21 h => ?_
    refine zA (zf rfl rfl hb21)<|zA (zD rfl)<|zF ?_
    exact ⟨(n3,(i4+1),(l12.set i4.toNat (at_ a_p1 i4))),Nat.lt_succ_self _,zAE [0,1,2,3] rfl rfl (by kernel_rfl),h⟩
   ·refine zy ?_
    exact ⟨l12,zAE [0,1,2,3] rfl rfl (by kernel_rfl),h⟩
 ·
  clear h
  rintro e' H' ⟨l1,hrep,h⟩
  refine zV hrep ?_
  clear hrep
  unfold zGl at h
  refine zx (fun e' H' => ∃ (l2:List (List Int)),Rep 87 0 e' H' (mkE [(4,(AV.ptr 0 0)),(5,(AV.ptr 1 0))]) [.box 51 (zO ⟨0,0,0,0,0,(List.replicate 5 ([]:List Int))⟩),.box 51 ([li a_p0.node,li a_p0.kind,li a_p0.start,li a_p0.count,li a_p0.min]++((cM 5 3 (5:Int) l2)++[]))]∧zJL a_p0 l2=some r) ?_ ?_
  ·
   refine zI<|zC<|zA (zD rfl)<|zF<|zQ<|z6 (σ:=Nat×Int×(List (List Int))×(List Int)) (fun s=>s.1) (fun s e' H'=>match s with | (n0,i1,l3,l4)=>Rep 87 0 e' H' (mkE [(2,(AV.ptr 0 0)),(4,(AV.ptr 1 0)),(5,(AV.ptr 2 0)),(6,(AV.hd 3)),(8,(li i1))]) [.box 51 (zO a_p0),.box 51 (zO ⟨0,0,0,0,0,(List.replicate 5 ([]:List Int))⟩),.box 51 ([li a_p0.node,li a_p0.kind,li a_p0.start,li a_p0.count,li a_p0.min]++((cM 5 3 (5:Int) l3)++[])),.vec 3 1 (List.map cI l4)]∧zBF a_p0 n0 i1 l3 l4=some r) (z9,4,(List.replicate 5 ([]:List Int)),l1) ⟨zAE [0,1,2,3] rfl rfl (by kernel_rfl),h⟩ ?_
   clear h
   rintro ⟨n0,i1,l3,l4⟩ e' H' ⟨hrep,h⟩
   cases n0 with
   | zero=>exact absurd (show (none:Option _)=some r from h) (by simp)
   | succ n0 =>
    replace h:zED a_p0 (zBF a_p0 n0) i1 l3 l4=some r:=h
    unfold zED at h
    refine zV hrep ?_
    clear hrep
    refine zI<|zI<|zC<|zA (zB rfl)<|zA (zAp rfl rfl)<|zF ?_
    refine zY h rfl (fun hb2 h => ?_) (fun hb2 h => ?_)
    ·refine zP ?_
     refine zx (fun e' H' => ∃ (l5:List (List Int)) (l6:List Int),Rep 87 0 e' H' (mkE [(2,(AV.ptr 0 0)),(4,(AV.ptr 1 0)),(5,(AV.ptr 2 0)),(6,(AV.hd 3)),(8,(li i1))]) [.box 51 (zO a_p0),.box 51 (zO ⟨0,0,0,0,0,(List.replicate 5 ([]:List Int))⟩),.box 51 ([li a_p0.node,li a_p0.kind,li a_p0.start,li a_p0.count,li a_p0.min]++((cM 5 3 (5:Int) l5)++[])),.vec 3 1 (List.map cI l6)]∧zH2 (zBF a_p0 n0) i1 l5 l6=some r) ?_ ?_
     ·
      refine zQ<|zI<|zC<|zA (zK underlying51 rfl rfl sizeOf3 rfl)<|zA (zN isAgg3 rfl rfl rfl rfl)<|zA (zD rfl) ?_
      refine zF<|zQ<|z6 (σ:=Nat×Int×(List (List Int))×(List Int)) (fun s=>s.1) (fun s e' H'=>match s with | (n1,i2,l7,l8)=>Rep 87 0 e' H' (mkE [(2,(AV.ptr 0 0)),(4,(AV.ptr 1 0)),(5,(AV.ptr 2 0)),(6,(AV.hd 3)),(8,(li i1)),(9,(li i2))]) [.box 51 (zO a_p0),.box 51 (zO ⟨0,0,0,0,0,(List.replicate 5 ([]:List Int))⟩),.box 51 ([li a_p0.node,li a_p0.kind,li a_p0.start,li a_p0.count,li a_p0.min]++((cM 5 3 (5:Int) l7)++[])),.vec 3 1 (List.map cI l8)]∧zCP (zBF a_p0 n0) a_p0 i1 n1 i2 l7 l8=some r) (z9,a_p0.start,l3,l4) ⟨zAE [0,1,2,3] rfl rfl (by kernel_rfl),h⟩ ?_
      clear h
      rintro ⟨n1,i2,l7,l8⟩ e' H' ⟨hrep,h⟩
      cases n1 with
      | zero=>exact absurd (show (none:Option _)=some r from h) (by simp)
      | succ n1 =>
       replace h:zEU (zBF a_p0 n0) a_p0 i1 (zCP (zBF a_p0 n0) a_p0 i1 n1) i2 l7 l8=some r:=h
       unfold zEU at h
       refine zV hrep ?_
       clear hrep
       refine zI<|zI<|zC<|zA (zB rfl)<|zA (zK underlying51 rfl rfl sizeOf3 rfl)<|zA (zN isAgg3 rfl rfl rfl rfl) ?_
       refine zA (zK underlying51 rfl rfl sizeOf3 rfl)<|zA (zN isAgg3 rfl rfl rfl rfl)<|zM h fun hb4 h=>zA (zf rfl rfl hb4)<|zA (ze rfl rfl)<|zF ?_
       refine zY h rfl (fun hb5 h => ?_) (fun hb5 h => ?_)
       ·refine zP ?_
        refine zx (fun e' H' => ∃ (l9:List (List Int)) (l10:List Int),Rep 87 0 e' H' (mkE [(2,(AV.ptr 0 0)),(4,(AV.ptr 1 0)),(5,(AV.ptr 2 0)),(6,(AV.hd 3)),(8,(li i1)),(9,(li i2))]) [.box 51 (zO a_p0),.box 51 (zO ⟨0,0,0,0,0,(List.replicate 5 ([]:List Int))⟩),.box 51 ([li a_p0.node,li a_p0.kind,li a_p0.start,li a_p0.count,li a_p0.min]++((cM 5 3 (5:Int) l9)++[])),.vec 3 1 (List.map cI l10)]∧zEV (zCP (zBF a_p0 n0) a_p0 i1 n1) i2 l9 l10=some r) ?_ ?_
        ·
         refine zQ<|zI<|zC<|zA (zS (k:=0) (o:=0) (m:=10) isAgg51 sizeOf51 rfl rfl rfl rfl rfl)<|zA (zB rfl)<|zA (zB rfl) ?_
         refine zR h fun x1 hx1 h=>zi func72 rfl (by kernel_rfl) (.fn 72) rfl rfl (zFk hx1) rfl<|zA (zB rfl)<|zo rfl rfl (fun hc1=>zt.step (zB rfl))<|zo rfl rfl (fun hc2=>zt.step (zB rfl))<|zo rfl rfl (fun hc3=>zt.step (zB rfl)) ?_
         refine zR h fun x2 hx2 h=>zCp (g:=57) (s:=x1) (r':=(AV.lit (.bool x2))) rfl rfl (fun hc4=>⟨143,_,_,[],[AV.hd 3,li i2,li i1],[ls cI l8,li i2,li i1],(AV.lit (.bool x2)),[3],func143,rfl,by kernel_rfl,.fn 143,(zAK (z5 rfl hc4) (zAK (z5 rfl hc4) (zAK (z5 rfl hc4) rfl))),⟨zIZ (fun _=>rfl) rfl rfl,zAt.nr rfl,zAt.nr rfl,trivial⟩,zOX (zF3 hc4 hx2),.inr trivial,rfl⟩)<|zA (zz (j := .lit undef) rfl rfl)<|zF ?_
         refine zY h rfl (fun hb7 h => ?_) (fun hb7 h => ?_)
         ·refine zI<|zC<|zA (zB rfl)<|zA (zB rfl)<|zA (zK underlying51 rfl rfl sizeOf49 rfl)<|zM h fun hb8 h => ?_
          refine zA (zAO (m:=5) (s:=1) (i:=i1) (k:=2) (o:=5) underlying49 sizeOf22 rfl rfl hb8)<|zM h fun hb9 h=>zAF (zJD (k:=2) (cs:=([li a_p0.node,li a_p0.kind,li a_p0.start,li a_p0.count,li a_p0.min]++((cM 5 3 (5:Int) l7)++[]))) (hd:=([li a_p0.node]++[li a_p0.kind]++[li a_p0.start]++[li a_p0.count]++[li a_p0.min]++[])) (tl:=([])) (N:=5) (T:=3) (K:=5) (l:=l7) (i:=i1) rfl rfl hb8 hb9)<|zA (zEd (k:=2) (o:=(5+i1.toNat*1)) (cs:=([li a_p0.node,li a_p0.kind,li a_p0.start,li a_p0.count,li a_p0.min]++((List.set (cM 5 3 (5:Int) l7) i1.toNat (AV.hd 4))++[]))) (hd:=([li a_p0.node]++[li a_p0.kind]++[li a_p0.start]++[li a_p0.count]++[li a_p0.min]++[])) (tl:=([])) (s:=(cM 5 3 (5:Int) l7)) (i:=i1) (j:=4) isAgg22 rfl rfl rfl (congrArg (fun q=>5+q) (Nat.mul_one _)) (zHu hb8))<|zA (zB rfl)<|zGP (a:=(li i2)) zGe underlying22 rfl rfl rfl rfl ?_
          refine zM h fun hb10 h=>zDK (f:=cI) (k:=4) (j:=5) (l:=l7.getD i1.toNat []) (l':=[i2]) zGe (fun _=>rfl) underlying22 rfl rfl rfl rfl hb10<|zA (zK underlying51 rfl rfl sizeOf49 rfl)<|zA (zAO (m:=5) (s:=1) (i:=i1) (k:=2) (o:=5) underlying49 sizeOf22 rfl rfl hb8)<|zm (H':=[.box 51 (zO a_p0),.box 51 (zO ⟨0,0,0,0,0,(List.replicate 5 ([]:List Int))⟩),.box 51 ([li a_p0.node,li a_p0.kind,li a_p0.start,li a_p0.count,li a_p0.min]++((List.set (cM 5 3 (5:Int) l7) i1.toNat (AV.hd 6))++[])),.vec 3 1 (List.map cI l8),.dead,.vec 3 1 (List.map cI [i2]),.vec 3 1 (List.map cI ((l7.getD i1.toNat [])++[i2]))]) (zHW (k:=2) (o:=(5+i1.toNat*1)) (cs:=([li a_p0.node,li a_p0.kind,li a_p0.start,li a_p0.count,li a_p0.min]++((List.set (cM 5 3 (5:Int) l7) i1.toNat (AV.hd 4))++[]))) (hd:=([li a_p0.node]++[li a_p0.kind]++[li a_p0.start]++[li a_p0.count]++[li a_p0.min]++[])) (tl:=([])) (s:=(cM 5 3 (5:Int) l7)) (i:=i1) (a:=(AV.hd 6)) sizeOf22 rfl rfl rfl (congrArg (fun q=>5+q) (Nat.mul_one _)) (zHu hb8) rfl rfl)<|zF ?_
          refine zI<|zC<|zA (zB rfl)<|zA (zD rfl)<|zF<|zQ ?_
          refine z6 (σ:=Nat×Int×(List Int)) (fun s=>s.1) (fun s e' H'=>match s with | (n2,i3,l11)=>Rep 87 0 e' H' (mkE [(2,(AV.ptr 0 0)),(4,(AV.ptr 1 0)),(5,(AV.ptr 2 0)),(6,(AV.hd 3)),(8,(li i1)),(9,(li i2)),(10,(li i3))]) [.box 51 (zO a_p0),.box 51 (zO ⟨0,0,0,0,0,(List.replicate 5 ([]:List Int))⟩),.box 51 ([li a_p0.node,li a_p0.kind,li a_p0.start,li a_p0.count,li a_p0.min]++((cM 5 3 (5:Int) (zDo 5 [] l7 i1.toNat ((l7.getD i1.toNat [])++[i2])))++[])),.vec 3 1 (List.map cI l11)]∧zGE (zCP (zBF a_p0 n0) a_p0 i1 n1) i1 i2 l7 n2 i3 l11=some r) (z9,i2,l8) ⟨Rep.trans (zIy (j:=6) (l':=(l7.getD i1.toNat [])++[i2]) (k:=2) (cs:=([li a_p0.node,li a_p0.kind,li a_p0.start,li a_p0.count,li a_p0.min]++((List.set (cM 5 3 (5:Int) l7) i1.toNat (AV.hd 6))++[]))) (hd:=([li a_p0.node]++[li a_p0.kind]++[li a_p0.start]++[li a_p0.count]++[li a_p0.min]++[])) (tl:=([])) (N:=5) (T:=3) (K:=5) (l:=l7) (i:=i1) rfl rfl hb8 hb9 rfl rfl) (zAE [0,1,2,3] (l:=[(2,(AV.ptr 0 0)),(4,(AV.ptr 1 0)),(5,(AV.ptr 2 0)),(6,(AV.hd 3)),(8,(li i1)),(9,(li i2)),(10,(li i2))]) rfl rfl (by kernel_rfl)),h⟩ ?_
          clear h
          rintro ⟨n2,i3,l11⟩ e' H' ⟨hrep,h⟩
          cases n2 with
          | zero=>exact absurd (show (none:Option _)=some r from h) (by simp)
          | succ n2 =>
           replace h:zEF (zCP (zBF a_p0 n0) a_p0 i1 n1) i1 i2 l7 (zGE (zCP (zBF a_p0 n0) a_p0 i1 n1) i1 i2 l7 n2) i3 l11=some r:=h
           unfold zEF at h
           refine zV hrep ?_
           clear hrep
           refine zI<|zI<|zC<|zA (zB rfl)<|zA (zB rfl)<|zA (zB rfl) ?_
           refine zM h fun hb11 h=>zA (zGX (k' := .u64) (a:=i1) underlying3 underlying74 rfl hb11)<|zM h fun hb12 h=>zM h fun hb13 h=>zA (zDI (a:=1) (b:=i1) rfl rfl hb12 hb13)<|zM h fun hb14 h => ?_
           refine zA (zf rfl rfl hb14)<|zA (ze rfl rfl)<|zF ?_
           refine zY h rfl (fun hb15 h => ?_) (fun hb15 h => ?_)
           ·refine zP<|zI<|zQ<|zC<|zA (zB rfl)<|zA (zB rfl) ?_
            refine zM h fun hb16 h=>zA (zAC (f:=cI) (l:=l11) (i:=i3) underlying22 sizeOf3 rfl rfl rfl hb16)<|zm (H':=[.box 51 (zO a_p0),.box 51 (zO ⟨0,0,0,0,0,(List.replicate 5 ([]:List Int))⟩),.box 51 ([li a_p0.node,li a_p0.kind,li a_p0.start,li a_p0.count,li a_p0.min]++((cM 5 3 (5:Int) (zDo 5 [] l7 i1.toNat ((l7.getD i1.toNat [])++[i2])))++[])),.vec 3 1 (List.map cI (l11.set i3.toNat 0))]) (zCJ (k:=3) (o:=(i3.toNat*1)) (f:=cI) (l:=l11) (i:=i3) (c:=0) (a:=(li 0)) (z:=0) sizeOf3 rfl rfl (by first | rfl | omega) hb16 rfl rfl rfl rfl rfl)<|zF<|zC<|zA (zB rfl) ?_
            refine zM h fun hb17 h=>zA (zf rfl rfl hb17)<|zA (zD rfl)<|zF ?_
            exact ⟨(n2,(i3+1),(l11.set i3.toNat 0)),Nat.lt_succ_self _,zAE [0,1,2,3] rfl rfl (by kernel_rfl),h⟩
           ·refine zy ?_
            exact ⟨(zDo 5 [] l7 i1.toNat ((l7.getD i1.toNat [])++[i2])),l11,zAE [0,1,2,3] rfl rfl (by kernel_rfl),h⟩
         ·refine zP ?_
          exact ⟨l7,l8,zAE [0,1,2,3] rfl rfl (by kernel_rfl),h⟩
        ·
         clear h
         rintro e' H' ⟨l9,l10,hrep,h⟩
         refine zV hrep ?_
         clear hrep
         unfold zEV at h
         refine zC<|zA (zB rfl)<|zM h fun hb6 h=>zA (zf rfl rfl hb6)<|zA (zD rfl)<|zF ?_
         exact ⟨(n1,(i2+1),l9,l10),Nat.lt_succ_self _,zAE [0,1,2,3] rfl rfl (by kernel_rfl),h⟩
       ·refine zy ?_
        exact ⟨l7,l8,zAE [0,1,2,3] rfl rfl (by kernel_rfl),h⟩
     ·
      clear h
      rintro e' H' ⟨l5,l6,hrep,h⟩
      refine zV hrep ?_
      clear hrep
      unfold zH2 at h
      refine zC<|zA (zB rfl)<|zM h fun hb3 h=>zA (zB8 rfl rfl hb3)<|zA (zD rfl)<|zF ?_
      exact ⟨(n0,(i1 - 1),l5,l6),Nat.lt_succ_self _,zAE [0,1,2,3] rfl rfl (by kernel_rfl),h⟩
    ·refine zy ?_
     exact ⟨l3,zAE [1,2] rfl rfl (by kernel_rfl),h⟩
  ·
   clear h
   rintro e' H' ⟨l2,hrep,h⟩
   refine zV hrep ?_
   clear hrep
   unfold zJL at h
   refine zI<|zC<|zAF (zJj (k:=1) (cs:=([li a_p0.node,li a_p0.kind,li a_p0.start,li a_p0.count,li a_p0.min]++((cM 5 3 (5:Int) l2)++[]))) (hd:=([li a_p0.node]++[li a_p0.kind]++[li a_p0.start]++[li a_p0.count]++[li a_p0.min]++[])) (tl:=([])) (N:=5) (T:=3) (K:=5) (l:=l2) rfl rfl)<|zA (zS (k:=1) (o:=0) (m:=10) isAgg51 sizeOf51 rfl rfl rfl rfl rfl)<|zm (H':=[.box 51 (zO (⟨a_p0.node,a_p0.kind,a_p0.start,a_p0.count,a_p0.min,l2⟩:zp)),.box 51 (zO ⟨a_p0.node,a_p0.kind,a_p0.start,a_p0.count,a_p0.min,l2⟩)]) (zZ (k:=0) (o:=0) (cs:=(zO ⟨0,0,0,0,0,(List.replicate 5 ([]:List Int))⟩)) (la:=(zO (⟨a_p0.node,a_p0.kind,a_p0.start,a_p0.count,a_p0.min,l2⟩:zp))) sizeOf51 rfl rfl rfl rfl)<|zF ?_
   refine zb ?_
   show zAQ _ _ _ _ _ _
   obtain rfl:=Option.some.inj h
   exact zu (zFa isAgg51 sizeOf51 rfl rfl rfl rfl)
theorem zNT {a_z:zp} {a_frame:Int} {a_order:Int} {r:zp×Int} (h:zH4 a_z a_frame a_order=some r):PFn prog 73 [(AV.agg (zO a_z)),li a_frame,li a_order] (AV.tup [(AV.agg (zO r.1)),li r.2]):=by
 refine zq func73 rfl ntmps73 results73 rfl ?_
 unfold zH4 at h
 refine zI<|zC<|za (H':=[.box 51 (zO a_z)]) (zw (t:=51) rfl)<|za (H':=[.box 51 (zO a_z),.box 51 (zO ⟨0,0,0,0,0,(List.replicate 5 ([]:List Int))⟩)]) (zv (t:=51) (vs:=[.int .i64 0,.int .i64 0,.int .i64 0,.int .i64 0,.int .i64 0,.slice none 0 0,.slice none 0 0,.slice none 0 0,.slice none 0 0,.slice none 0 0]) (cs:=[.lit (.int .i64 0),.lit (.int .i64 0),.lit (.int .i64 0),.lit (.int .i64 0),.lit (.int .i64 0),.sl false [],.sl false [],.sl false [],.sl false [],.sl false []]) zeroValue51 (by kernel_rfl) rfl ⟨zh.refl _,zh.refl _,zh.refl _,zh.refl _,zh.refl _,zh.nils,zh.nils,zh.nils,zh.nils,zh.nils,trivial⟩)<|zA (zD rfl)<|zF ?_
 refine zI<|zI<|zC<|zA (zS (k:=0) (o:=0) (m:=10) isAgg51 sizeOf51 rfl rfl rfl rfl rfl)<|zR h fun x1 hx1 h=>zi func47 rfl (by kernel_rfl) (.fn 47) rfl rfl (zIn hx1) rfl ?_
 refine zA (zD rfl)<|zF<|zI<|zC<|zA (zB rfl)<|zA (z7 rfl rfl) ?_
 refine zF ?_
 refine zY h rfl (fun hb1 h => ?_) (fun hb1 h => ?_)
 ·refine zI<|zC<|zA (z8 (pl:=[(0,1),(1,1),(2,1),(3,1),(4,1),(5,5)]) (zs:=[.int .i64 0,.int .i64 0,.int .i64 0,.int .i64 0,.int .i64 0,.slice none 0 0,.slice none 0 0,.slice none 0 0,.slice none 0 0,.slice none 0 0]) (zc:=[.lit (.int .i64 0),.lit (.int .i64 0),.lit (.int .i64 0),.lit (.int .i64 0),.lit (.int .i64 0),.sl false [],.sl false [],.sl false [],.sl false [],.sl false []]) (res:=(zO (⟨0,0,0,0,0,(List.replicate 5 ([]:List Int))⟩:zp))) (fun _=>by kernel_rfl) rfl (⟨zh.refl _,⟨zh.refl _,⟨zh.refl _,⟨zh.refl _,⟨zh.refl _,⟨zh.nils,⟨zh.nils,⟨zh.nils,⟨zh.nils,⟨zh.nils,trivial⟩⟩⟩⟩⟩⟩⟩⟩⟩⟩) (by exact zFX.refl _))<|zA (zB rfl)<|zm (H':=[.box 51 (zO a_z),.box 51 (zO (⟨0,0,0,0,0,(List.replicate 5 ([]:List Int))⟩:zp))]) (zZ (k:=1) (o:=0) (cs:=(zO ⟨0,0,0,0,0,(List.replicate 5 ([]:List Int))⟩)) (la:=(zO (⟨0,0,0,0,0,(List.replicate 5 ([]:List Int))⟩:zp))) sizeOf51 rfl rfl rfl rfl)<|zA (zD rfl) ?_
  refine zF<|zb ?_
  show zAQ _ _ _ _ _ _
  obtain rfl:=Option.some.inj h
  exact zCR (zFa isAgg51 sizeOf51 rfl rfl rfl rfl) (zAM rfl rfl) rfl
 ·refine zP<|zI<|zI<|zC<|zA (zS (k:=0) (o:=0) (m:=10) isAgg51 sizeOf51 rfl rfl rfl rfl rfl)<|zA (zB rfl) ?_
  refine zA (zB rfl)<|zR h fun x2 hx2 h=>zi func72 rfl (by kernel_rfl) (.fn 72) rfl rfl (zFk hx2) rfl<|zA (zA6 (t:=x2) rfl)<|zF ?_
  refine zY h rfl (fun hb2 h => ?_) (fun hb2 h => ?_)
  ·refine zI<|zC<|zA (z8 (pl:=[(0,1),(1,1),(2,1),(3,1),(4,1),(5,5)]) (zs:=[.int .i64 0,.int .i64 0,.int .i64 0,.int .i64 0,.int .i64 0,.slice none 0 0,.slice none 0 0,.slice none 0 0,.slice none 0 0,.slice none 0 0]) (zc:=[.lit (.int .i64 0),.lit (.int .i64 0),.lit (.int .i64 0),.lit (.int .i64 0),.lit (.int .i64 0),.sl false [],.sl false [],.sl false [],.sl false [],.sl false []]) (res:=(zO (⟨0,0,0,0,0,(List.replicate 5 ([]:List Int))⟩:zp))) (fun _=>by kernel_rfl) rfl (⟨zh.refl _,⟨zh.refl _,⟨zh.refl _,⟨zh.refl _,⟨zh.refl _,⟨zh.nils,⟨zh.nils,⟨zh.nils,⟨zh.nils,⟨zh.nils,trivial⟩⟩⟩⟩⟩⟩⟩⟩⟩⟩) (by exact zFX.refl _))<|zm (H':=[.box 51 (zO a_z),.box 51 (zO (⟨0,0,0,0,0,(List.replicate 5 ([]:List Int))⟩:zp))]) (zZ (k:=1) (o:=0) (cs:=(zO ⟨0,0,0,0,0,(List.replicate 5 ([]:List Int))⟩)) (la:=(zO (⟨0,0,0,0,0,(List.replicate 5 ([]:List Int))⟩:zp))) sizeOf51 rfl rfl rfl rfl)<|zA (zD rfl)<|zF ?_
   refine zb ?_
   show zAQ _ _ _ _ _ _
   obtain rfl:=Option.some.inj h
   exact zCR (zFa isAgg51 sizeOf51 rfl rfl rfl rfl) (zAM rfl rfl) rfl
  ·refine zP<|zI<|zC<|zA (zS (k:=0) (o:=0) (m:=10) isAgg51 sizeOf51 rfl rfl rfl rfl rfl)<|zR h fun x3 hx3 h=>zHV (T:=3) (sz:=1) (rows:=List.map cI x3) (la:=[(AV.agg (zO a_z))]) (la':=[(AV.agg (zO a_z))]) (S:=[]) func95 rfl (by kernel_rfl) (.fn 95) rfl ⟨zAt.nr rfl,trivial⟩ (zKC hx3) (.inl rfl) ?_
   refine zA (zD rfl)<|zF ?_
   refine zx (fun e' H' => ∃ (l1:List Int),Rep 47 0 e' H' (mkE [(3,(AV.ptr 0 0)),(6,(AV.ptr 1 0)),(9,(AV.hd 2))]) [.box 51 (zO a_z),.box 51 (zO ⟨0,0,0,0,0,(List.replicate 5 ([]:List Int))⟩),.vec 3 1 (List.map cI l1)]∧zHz a_z l1=some r) ?_ ?_
   ·
    refine zI<|zC<|zA (zB rfl)<|zA (zD rfl)<|zF<|zQ ?_
    refine z6 (σ:=Nat×Int×(List Int)) (fun s=>s.1) (fun s e' H'=>match s with | (n0,i1,l2)=>Rep 47 0 e' H' (mkE [(1,(li a_frame)),(2,(li a_order)),(3,(AV.ptr 0 0)),(6,(AV.ptr 1 0)),(9,(AV.hd 2)),(10,(li i1))]) [.box 51 (zO a_z),.box 51 (zO ⟨0,0,0,0,0,(List.replicate 5 ([]:List Int))⟩),.vec 3 1 (List.map cI l2)]∧zGf a_z a_frame a_order n0 i1 l2=some r) (z9,a_frame,x3) ⟨zAE [0,1,2] rfl rfl (by kernel_rfl),h⟩ ?_
    clear h
    rintro ⟨n0,i1,l2⟩ e' H' ⟨hrep,h⟩
    cases n0 with
    | zero=>exact absurd (show (none:Option _)=some r from h) (by simp)
    | succ n0 =>
     replace h:zEP a_z a_frame a_order (zGf a_z a_frame a_order n0) i1 l2=some r:=h
     unfold zEP at h
     refine zV hrep ?_
     clear hrep
     refine zI<|zI<|zC<|zA (zB rfl)<|zA (zB rfl)<|zA (zB rfl) ?_
     refine zM h fun hb3 h=>zA (zGX (k' := .u64) (a:=a_order) underlying3 underlying74 rfl hb3)<|zM h fun hb4 h=>zM h fun hb5 h=>zA (zDI (a:=1) (b:=a_order) rfl rfl hb4 hb5)<|zM h fun hb6 h => ?_
     refine zA (zf rfl rfl hb6)<|zA (ze rfl rfl)<|zF ?_
     refine zY h rfl (fun hb7 h => ?_) (fun hb7 h => ?_)
     ·refine zP<|zI<|zQ<|zI<|zI<|zC ?_
      refine zA (zB rfl)<|zA (zB rfl)<|zM h fun hb8 h=>zA (zAC (f:=cI) (l:=l2) (i:=i1) underlying22 sizeOf3 rfl rfl rfl hb8)<|zA (zBS (f:=cI) (l:=l2) (i:=i1) (c:=0) (a:=(li (at_ l2 i1))) isAgg3 rfl rfl (by first | rfl | omega) hb8 rfl rfl)<|zA (zAl rfl rfl) ?_
      refine zF ?_
      refine zY h rfl (fun hb9 h => ?_) (fun hb9 h => ?_)
      ·refine zI<|zC<|zA (z8 (pl:=[(0,1),(1,1),(2,1),(3,1),(4,1),(5,5)]) (zs:=[.int .i64 0,.int .i64 0,.int .i64 0,.int .i64 0,.int .i64 0,.slice none 0 0,.slice none 0 0,.slice none 0 0,.slice none 0 0,.slice none 0 0]) (zc:=[.lit (.int .i64 0),.lit (.int .i64 0),.lit (.int .i64 0),.lit (.int .i64 0),.lit (.int .i64 0),.sl false [],.sl false [],.sl false [],.sl false [],.sl false []]) (res:=(zO (⟨0,0,0,0,0,(List.replicate 5 ([]:List Int))⟩:zp))) (fun _=>by kernel_rfl) rfl (⟨zh.refl _,⟨zh.refl _,⟨zh.refl _,⟨zh.refl _,⟨zh.refl _,⟨zh.nils,⟨zh.nils,⟨zh.nils,⟨zh.nils,⟨zh.nils,trivial⟩⟩⟩⟩⟩⟩⟩⟩⟩⟩) (by exact zFX.refl _))<|zm (H':=[.box 51 (zO a_z),.box 51 (zO (⟨0,0,0,0,0,(List.replicate 5 ([]:List Int))⟩:zp)),.vec 3 1 (List.map cI l2)]) (zZ (k:=1) (o:=0) (cs:=(zO ⟨0,0,0,0,0,(List.replicate 5 ([]:List Int))⟩)) (la:=(zO (⟨0,0,0,0,0,(List.replicate 5 ([]:List Int))⟩:zp))) sizeOf51 rfl rfl rfl rfl)<|zA (zD rfl)<|zF ?_
       refine zb ?_
       show zAQ _ _ _ _ _ _
       obtain rfl:=Option.some.inj h
       exact zCR (zFa isAgg51 sizeOf51 rfl rfl rfl rfl) (zAM rfl rfl) rfl
      ·refine zP<|zC<|zA (zB rfl)<|zA (zB rfl)<|zA (zAC (f:=cI) (l:=l2) (i:=i1) underlying22 sizeOf3 rfl rfl rfl hb8)<|zm (H':=[.box 51 (zO a_z),.box 51 (zO ⟨0,0,0,0,0,(List.replicate 5 ([]:List Int))⟩),.vec 3 1 (List.map cI (l2.set i1.toNat 1))]) (zCJ (k:=2) (o:=(i1.toNat*1)) (f:=cI) (l:=l2) (i:=i1) (c:=0) (a:=(li 1)) (z:=1) sizeOf3 rfl rfl (by first | rfl | omega) hb8 rfl rfl rfl rfl rfl) ?_
       refine zF<|zC<|zA (zB rfl)<|zM h fun hb10 h=>zA (zf rfl rfl hb10)<|zA (zD rfl) ?_
       refine zF ?_
       exact ⟨(n0,(i1+1),(l2.set i1.toNat 1)),Nat.lt_succ_self _,zAE [0,1,2] rfl rfl (by kernel_rfl),h⟩
     ·refine zy ?_
      exact ⟨l2,zAE [0,1,2] rfl rfl (by kernel_rfl),h⟩
   ·
    clear h
    rintro e' H' ⟨l1,hrep,h⟩
    refine zV hrep ?_
    clear hrep
    unfold zHz at h
    refine zI<|zC<|zA (zS (k:=0) (o:=0) (m:=10) isAgg51 sizeOf51 rfl rfl rfl rfl rfl)<|zA (zB rfl)<|zR h fun x4 hx4 h=>zAF (zET (j:=2) (ds:=[9,45]) (rows':=List.map cI l1) rfl (zAP (fun _=>rfl)) ⟨rfl,rfl,trivial⟩) ?_
    refine zR h fun x5 hx5 h=>zi func121 rfl (by kernel_rfl) (.fn 121) rfl rfl (zNu hx5) rfl<|zm (H':=[.box 51 (zO a_z),.box 51 (zO x5),.dead]) (zZ (k:=1) (o:=0) (cs:=(zO ⟨0,0,0,0,0,(List.replicate 5 ([]:List Int))⟩)) (la:=(zO x5)) sizeOf51 rfl rfl rfl rfl)<|zA (zD rfl)<|zF<|zb ?_
    show zAQ _ _ _ _ _ _
    obtain rfl:=Option.some.inj h
    exact zCR (zFa isAgg51 sizeOf51 rfl rfl rfl rfl) (zAM rfl rfl) rfl
theorem zNr {a_a:zJ} {a_zone:Int} {a_l:List Int} {r:zJ} (h:zI3 a_a a_zone a_l=some r):AFn prog 70 [AV.ptr 0 0,li a_zone,ls cI a_l] [.box 26 ([ls cI a_a.nodes]++([li a_a.batch]++([li a_a.high]++([AV.osl 51 10 (List.map zO a_a.zones)]++([AV.osl 55 1 (List.map zH a_a.caches)]++[])))))] (.tup []) [.box 26 ([ls cI r.nodes]++([li r.batch]++([li r.high]++([AV.osl 51 10 (List.map zO r.zones)]++([AV.osl 55 1 (List.map zH r.caches)]++[])))))]:=by
 refine zF6 func70 rfl ntmps70 results70 rfl ?_
 unfold zI3 at h
 refine zI<|zC<|zA (zD rfl)<|zF<|zQ<|z6 (σ:=Nat×Int×(List zp)) (fun s=>s.1) (fun s e' H'=>match s with | (n0,i1,l1)=>Rep 34 1 e' H' (mkE [(0,(AV.ptr 0 0)),(1,(li a_zone)),(2,(ls cI a_l)),(6,(li i1))]) [.box 26 [ls cI a_a.nodes,li a_a.batch,li a_a.high,AV.osl 51 10 (List.map zO l1),AV.osl 55 1 (List.map zH a_a.caches)]]∧zGh a_a a_zone a_l n0 i1 l1=some r) (z9,0,a_a.zones) ⟨zAE [0] rfl rfl (by kernel_rfl),h⟩ ?_
 clear h
 rintro ⟨n0,i1,l1⟩ e' H' ⟨hrep,h⟩
 cases n0 with
 | zero=>exact absurd (show (none:Option _)=some r from h) (by simp)
 | succ n0 =>
  replace h:zEH a_a a_zone a_l (zGh a_a a_zone a_l n0) i1 l1=some r:=h
  unfold zEH at h
  refine zV hrep ?_
  clear hrep
  refine zI<|zI<|zC<|zA (zB rfl)<|zA (zB rfl)<|zA (zX underlying22 rfl) ?_
  refine zA (ze rfl rfl)<|zF ?_
  refine zY h rfl (fun hb1 h => ?_) (fun hb1 h => ?_)
  ·refine zP<|zI<|zQ<|zV (zBA (k:=0) (o:=3) (t':=51) (sz:=10) (rows:=List.map zO l1) rfl rfl)<|zM h fun hb2 h=>zM h fun hb3 h => ?_
   refine zR h fun x1 hx1 h => ?_
   show AW _ _ _ _ _ _ [.box 26 [ls cI a_a.nodes,li a_a.batch,li a_a.high,AV.hd 1,AV.osl 55 1 (List.map zH a_a.caches)],.vec 51 10 (List.map zO l1)]
   refine zAx (n:=34) (m:=1) [.head 0 0,.head 0 0,.head 0 0,.head 0 0,.head 0 0,.head 0 0,.head 0 0,.head 0 0,.head 0 0,.head 0 0,.head 0 0,.head 0 0,.head 0 0,.head 0 0,.head 0 0,.head 0 0,.head 0 0,.head 0 0,.head 0 0,.head 0 1,.head 0 0,.tail 0] [21] [AV.ptr 0 0,AV.ptr 0 0,AV.ptr 0 3,AV.hd 1,li a_zone,AV.ptr 0 0,AV.ptr 0 0,AV.ptr 0 3,AV.hd 1,li a_zone,(AV.ptr 1 (a_zone.toNat*10)),(AV.agg (zO (at_ l1 a_zone))),ls cI a_l,li i1,(AV.rp (cI (at_ a_l i1)) 0),(li (at_ a_l i1)),(AV.tup [(AV.agg (zO x1.1)),li x1.2]),(AV.tup [(AV.agg (zO x1.1)),li x1.2]),(AV.agg (zO x1.1)),li x1.2,(AV.ptr 1 (a_zone.toNat*10)),.any] [[.box 26 [ls cI a_a.nodes,li a_a.batch,li a_a.high,AV.hd 1,AV.osl 55 1 (List.map zH a_a.caches)],.vec 51 10 (List.map zO l1)],[.box 26 [ls cI a_a.nodes,li a_a.batch,li a_a.high,AV.hd 1,AV.osl 55 1 (List.map zH a_a.caches)],.vec 51 10 (List.map zO (l1.set a_zone.toNat x1.1))]] (by kernel_rfl) (by kernel_rfl) ⟨?_,?_,?_,?_,?_,?_,?_,?_,?_,?_,?_,?_,?_,?_,?_,?_,?_,?_,?_,⟨?_,?_⟩,?_,?_,trivial⟩ ?_
   ·exact D1 fun e s p=>zB (s 0 rfl)
   ·exact D1 fun e s p=>zAU p.1
   ·exact D1 fun e s p=>zK (k:=0) (o:=0) (off:=3) underlying26 rfl rfl sizeOf23 p.1
   ·exact D1 fun e s p=>zN (k:=0) (o:=3) isAgg23 p.1 rfl rfl rfl
   ·exact D1 fun e s p=>zB (s 1 rfl)
   ·exact D1 fun e s p=>zB (s 0 rfl)
   ·exact D1 fun e s p=>zAU p.1
   ·exact D1 fun e s p=>zK (k:=0) (o:=0) (off:=3) underlying26 rfl rfl sizeOf23 p.1
   ·exact D1 fun e s p=>zN (k:=0) (o:=3) isAgg23 p.1 rfl rfl rfl
   ·exact D1 fun e s p=>zB (s 1 rfl)
   ·exact D1 fun e s p=>zAC (f:=zO) (l:=l1) (i:=a_zone) underlying23 sizeOf51 p.1 rfl p.2.1 hb2
   ·exact D1 fun e s p=>zCT (f:=zO) (l:=l1) (i:=a_zone) (c:=0) (q:=10) (la:=(zO (at_ l1 a_zone))) isAgg51 sizeOf51 p.1 rfl (by first | rfl | omega) hb2 rfl rfl rfl
   ·exact D1 fun e s p=>zB (s 2 rfl)
   ·exact D1 fun e s p=>zB (s 6 rfl)
   ·exact D1 fun e s p=>zU (f:=cI) (l:=a_l) (i:=i1) underlying22 sizeOf3 (fun _=>rfl) p.1 p.2.1 hb3
   ·exact D1 fun e s p=>zW (o:=0) isAgg3 p.1 rfl
   ·
    intro e17 hs17 hp17
    refine zi (r:=(AV.tup [(AV.agg (zO x1.1)),li x1.2])) (la:=[(AV.agg (zO (at_ l1 a_zone))),(li (at_ a_l i1)),li 0]) func73 rfl (by kernel_rfl) (.fn 73) (zAK hp17.1 (zAK hp17.2.1 (zAK rfl rfl))) rfl (zNT hx1) rfl ?_
    exact zF ⟨fun _=>rfl,rfl⟩
   ·exact D1 fun e s p=>zB p.1
   ·exact D1 fun e s p=>zg p.1 rfl
   ·exact D1 fun e s p=>zg p.1 rfl
   ·exact D1 fun e s p=>zg p.1 rfl
   ·exact D1 fun e s p=>zAC (f:=zO) (l:=l1) (i:=a_zone) underlying23 sizeOf51 p.2.2.2.2.2.1 rfl p.2.2.2.2.2.2.1 hb2
   ·
    intro e23 hs23 hp23
    refine zm (H':=[.box 26 [ls cI a_a.nodes,li a_a.batch,li a_a.high,AV.hd 1,AV.osl 55 1 (List.map zH a_a.caches)],.vec 51 10 (List.map zO (l1.set a_zone.toNat x1.1))]) (zCM (k:=1) (o:=(a_zone.toNat*10)) (f:=zO) (l:=l1) (i:=a_zone) (z:=x1.1) sizeOf51 (fun _=>rfl) (by exact hp23.1) rfl (by first | rfl | omega) hb2 (by exact hp23.2.2.2.2.2.2.2.2.2.2.2.2.2.2.2.2.2.2.2.2.2.1) rfl) ?_
    exact zF ⟨fun _=>rfl,rfl⟩
   intro e24 hs24 hq1
   refine zV (zBY (l:=[(0,(AV.ptr 0 0)),(1,(li a_zone)),(2,(ls cI a_l)),(6,(li i1))]) ⟨hs24 0 rfl,hs24 1 rfl,hs24 2 rfl,hs24 6 rfl,trivial⟩)<|zC<|zA (zB (av:=(li i1)) rfl)<|zM h fun hb4 h=>zA (zf (a:=i1) (b:=1) rfl rfl hb4)<|zA (zD (av:=(li (i1+1))) rfl) ?_
   refine zF ?_
   exact ⟨(n0,(i1+1),(l1.set a_zone.toNat x1.1)),Nat.lt_succ_self _,Rep.trans (zAJ (k:=0) (j:=1) (o:=3) rfl rfl rfl rfl) (zAE [0] (l:=[(0,(AV.ptr 0 0)),(1,(li a_zone)),(2,(ls cI a_l)),(6,(li (i1+1)))]) rfl rfl (by kernel_rfl)),h⟩
  ·refine zy ?_
   show zQU _ _ _ _ _ _ _ _
   obtain rfl:=Option.some.inj h
   exact ⟨mkE [],[.box 26 [ls cI a_a.nodes,li a_a.batch,li a_a.high,AV.osl 51 10 (List.map zO l1),AV.osl 55 1 (List.map zH a_a.caches)]],zAE [0] rfl rfl (by kernel_rfl),zLf rfl⟩
theorem zNX {a_p0:zJ} {a_p1:Int} {a_p2:Int} {r:zJ×Int} (h:zI5 a_p0 a_p1 a_p2=some r):PFn prog 29 [(AV.agg (zG a_p0)),li a_p1,li a_p2] (AV.tup [(AV.agg (zG r.1)),li r.2]):=by
 refine zq func29 rfl ntmps29 results29 rfl ?_
 unfold zI5 at h
 refine zI<|zC<|za (H':=[.box 26 (zG a_p0)]) (zw (t:=26) rfl)<|za (H':=[.box 26 (zG a_p0),.box 26 (zG ⟨[],0,0,[],[]⟩)]) (zv (t:=26) (vs:=[.slice none 0 0,.int .i64 0,.int .i64 0,.slice none 0 0,.slice none 0 0]) (cs:=[.sl false [],.lit (.int .i64 0),.lit (.int .i64 0),.sl false [],.sl false []]) zeroValue26 (by kernel_rfl) rfl ⟨zh.nils,zh.refl _,zh.refl _,zh.nils,zh.nils,trivial⟩)<|zA (zD rfl)<|zF ?_
 refine zI<|zI<|zC<|zA (zS (k:=0) (o:=0) (m:=5) isAgg26 sizeOf26 rfl rfl rfl rfl rfl)<|zR h fun x1 hx1 h=>zi func14 rfl (by kernel_rfl) (.fn 14) rfl rfl (zMp hx1) rfl ?_
 refine zA (zD rfl)<|zF<|zI<|zC<|zA (zB rfl)<|zA (z7 rfl rfl) ?_
 refine zF ?_
 refine zY h rfl (fun hb1 h => ?_) (fun hb1 h => ?_)
 ·refine zI<|zC<|zA (z8 (pl:=[(0,1),(1,1),(2,1),(3,1),(4,1)]) (zs:=[.slice none 0 0,.int .i64 0,.int .i64 0,.slice none 0 0,.slice none 0 0]) (zc:=[.sl false [],.lit (.int .i64 0),.lit (.int .i64 0),.sl false [],.sl false []]) (res:=(zG (⟨([]:List Int),0,0,([]:List zp),([]:List zL)⟩:zJ))) (fun _=>by kernel_rfl) rfl (⟨zh.nils,⟨zh.refl _,⟨zh.refl _,⟨zh.nils,⟨zh.nils,trivial⟩⟩⟩⟩⟩) (by exact zFX.refl _))<|zA (zB rfl)<|zm (H':=[.box 26 (zG a_p0),.box 26 (zG (⟨([]:List Int),0,0,([]:List zp),([]:List zL)⟩:zJ))]) (zZ (k:=1) (o:=0) (cs:=(zG ⟨[],0,0,[],[]⟩)) (la:=(zG (⟨([]:List Int),0,0,([]:List zp),([]:List zL)⟩:zJ))) sizeOf26 rfl rfl rfl rfl)<|zA (zD rfl) ?_
  refine zF<|zb ?_
  show zAQ _ _ _ _ _ _
  obtain rfl:=Option.some.inj h
  exact zCR (zFa isAgg26 sizeOf26 rfl rfl rfl rfl) (zAM rfl rfl) rfl
 ·refine zP<|zI<|zC<|zA (zS (k:=0) (o:=0) (m:=5) isAgg26 sizeOf26 rfl rfl rfl rfl rfl)<|zA (zB rfl)<|zR h fun x2 hx2 h => ?_
  refine zi func49 rfl (by kernel_rfl) (.fn 49) rfl rfl (zNR hx2) rfl<|zA (zD rfl)<|zF<|zI<|zI<|zC ?_
  refine zA (zB rfl)<|zA (ze rfl rfl)<|zA (zB rfl)<|zT rfl rfl (fun hc1=>zt.step (zB rfl))<|zT rfl rfl (fun hc2=>zt.step (zK underlying26 rfl rfl sizeOf22 rfl))<|zT rfl rfl (fun hc3=>zt.step (zN isAgg22 (z5 rfl hc3) rfl rfl rfl)) ?_
  refine zT rfl rfl (fun hc4=>zt.step (zX underlying22 (z5 rfl hc4)))<|zT rfl rfl (fun hc5=>zt.step (zAp (z5 rfl hc5) (z5 rfl hc5)))<|zA (zd rfl rfl)<|zA (zB rfl)<|zT rfl rfl (fun hc6=>zt.step (zB rfl))<|zT rfl rfl (fun hc7=>zt.step (ze (z5 rfl hc7) rfl)) ?_
  refine zA (zd rfl rfl)<|zF ?_
  refine zY h rfl (fun hb2 h => ?_) (fun hb2 h => ?_)
  ·refine zI<|zC<|zA (z8 (pl:=[(0,1),(1,1),(2,1),(3,1),(4,1)]) (zs:=[.slice none 0 0,.int .i64 0,.int .i64 0,.slice none 0 0,.slice none 0 0]) (zc:=[.sl false [],.lit (.int .i64 0),.lit (.int .i64 0),.sl false [],.sl false []]) (res:=(zG (⟨([]:List Int),0,0,([]:List zp),([]:List zL)⟩:zJ))) (fun _=>by kernel_rfl) rfl (⟨zh.nils,⟨zh.refl _,⟨zh.refl _,⟨zh.nils,⟨zh.nils,trivial⟩⟩⟩⟩⟩) (by exact zFX.refl _))<|zm (H':=[.box 26 (zG a_p0),.box 26 (zG (⟨([]:List Int),0,0,([]:List zp),([]:List zL)⟩:zJ))]) (zZ (k:=1) (o:=0) (cs:=(zG ⟨[],0,0,[],[]⟩)) (la:=(zG (⟨([]:List Int),0,0,([]:List zp),([]:List zL)⟩:zJ))) sizeOf26 rfl rfl rfl rfl)<|zA (zD rfl)<|zF ?_
   refine zb ?_
   show zAQ _ _ _ _ _ _
   obtain rfl:=Option.some.inj h
   exact zCR (zFa isAgg26 sizeOf26 rfl rfl rfl rfl) (zAM rfl rfl) rfl
  ·refine zP<|zI<|zI<|zC<|zA (zS (k:=0) (o:=0) (m:=5) isAgg26 sizeOf26 rfl rfl rfl rfl rfl)<|zA (zB rfl) ?_
   refine zA (zB rfl)<|zR h fun x3 hx3 h=>zi func51 rfl (by kernel_rfl) (.fn 51) rfl rfl (zNy hx3) rfl<|zF ?_
   refine zY h rfl (fun hb3 h => ?_) (fun hb3 h => ?_)
   ·refine zI<|zC<|zA (z8 (pl:=[(0,1),(1,1),(2,1),(3,1),(4,1)]) (zs:=[.slice none 0 0,.int .i64 0,.int .i64 0,.slice none 0 0,.slice none 0 0]) (zc:=[.sl false [],.lit (.int .i64 0),.lit (.int .i64 0),.sl false [],.sl false []]) (res:=(zG (⟨([]:List Int),0,0,([]:List zp),([]:List zL)⟩:zJ))) (fun _=>by kernel_rfl) rfl (⟨zh.nils,⟨zh.refl _,⟨zh.refl _,⟨zh.nils,⟨zh.nils,trivial⟩⟩⟩⟩⟩) (by exact zFX.refl _))<|zm (H':=[.box 26 (zG a_p0),.box 26 (zG (⟨([]:List Int),0,0,([]:List zp),([]:List zL)⟩:zJ))]) (zZ (k:=1) (o:=0) (cs:=(zG ⟨[],0,0,[],[]⟩)) (la:=(zG (⟨([]:List Int),0,0,([]:List zp),([]:List zL)⟩:zJ))) sizeOf26 rfl rfl rfl rfl)<|zA (zD rfl)<|zF ?_
    refine zb ?_
    show zAQ _ _ _ _ _ _
    obtain rfl:=Option.some.inj h
    exact zCR (zFa isAgg26 sizeOf26 rfl rfl rfl rfl) (zAM rfl rfl) rfl
   ·refine zP<|zI<|zC<|zA (zS (k:=0) (o:=0) (m:=5) isAgg26 sizeOf26 rfl rfl rfl rfl rfl)<|zR h fun x4 hx4 h=>zHU (cs:=[ls cI x4.nodes,li x4.batch,li x4.high,AV.osl 51 10 (List.map zO x4.zones),AV.osl 55 1 (List.map zH x4.caches)]) (la:=[(AV.agg (zG a_p0))]) (la':=[(AV.agg (zG a_p0))]) (S:=[]) func59 rfl (by kernel_rfl) (.fn 59) rfl ⟨zAt.nr rfl,trivial⟩ (zMq hx4) (.inl rfl) ?_
    refine za (H':=[.box 26 (zG a_p0),.box 26 (zG ⟨[],0,0,[],[]⟩),.val (.agg [ls cI x4.nodes,li x4.batch,li x4.high,AV.osl 51 10 (List.map zO x4.zones),AV.osl 55 1 (List.map zH x4.caches)]),.box 26 (zG ⟨[],0,0,[],[]⟩)]) (zv (t:=26) (vs:=[.slice none 0 0,.int .i64 0,.int .i64 0,.slice none 0 0,.slice none 0 0]) (cs:=[.sl false [],.lit (.int .i64 0),.lit (.int .i64 0),.sl false [],.sl false []]) zeroValue26 (by kernel_rfl) rfl ⟨zh.nils,zh.refl _,zh.refl _,zh.nils,zh.nils,trivial⟩)<|zm (H':=[.box 26 (zG a_p0),.box 26 (zG ⟨[],0,0,[],[]⟩),.dead,.box 26 [ls cI x4.nodes,li x4.batch,li x4.high,AV.osl 51 10 (List.map zO x4.zones),AV.osl 55 1 (List.map zH x4.caches)]]) (zCd (k:=3) (o:=0) (j:=2) (cs:=(zG ⟨[],0,0,[],[]⟩)) (la:=[ls cI x4.nodes,li x4.batch,li x4.high,AV.osl 51 10 (List.map zO x4.zones),AV.osl 55 1 (List.map zH x4.caches)]) sizeOf26 rfl rfl rfl rfl rfl (by decide))<|zF<|zI<|zV (zBA (k:=3) (o:=4) (t':=55) (sz:=1) (rows:=List.map zH x4.caches) rfl rfl)<|zM h fun hb4 h => ?_
    refine zR h fun x5 hx5 h => ?_
    show AW _ _ _ _ _ _ [.box 26 (zG a_p0),.box 26 (zG ⟨[],0,0,[],[]⟩),.dead,.box 26 [ls cI x4.nodes,li x4.batch,li x4.high,AV.osl 51 10 (List.map zO x4.zones),AV.hd 4],.vec 55 1 (List.map zH x4.caches)]
    refine zAx (n:=69) (m:=0) [.head 0 1,.head 0 1,.head 0 1,.head 0 1,.head 0 1,.head 0 1,.head 0 1,.head 0 1,.head 0 1,.head 0 1,.head 0 1,.head 0 1,.head 0 1,.head 0 1,.head 0 2,.head 0 2,.tail 0,.tail 1,.head 2 2,.head 2 2] [16,17] [AV.ptr 3 4,AV.hd 4,li a_p1,(AV.ptr 4 (a_p1.toNat*1)),(AV.agg (zH (at_ x4.caches a_p1))),li x2,li a_p2,AV.ptr 3 1,li x4.batch,AV.ptr 3 2,li x4.high,(AV.tup [(AV.agg (zH x5.1)),ls cI x5.2.1,li x5.2.2]),(AV.tup [(AV.agg (zH x5.1)),ls cI x5.2.1,li x5.2.2]),(AV.agg (zH x5.1)),ls cI x5.2.1,li x5.2.2,AV.ptr 5 0,.any,ls cI x5.2.1,li x5.2.2] [[.box 26 (zG a_p0),.box 26 (zG ⟨[],0,0,[],[]⟩),.dead,.box 26 [ls cI x4.nodes,li x4.batch,li x4.high,AV.osl 51 10 (List.map zO x4.zones),AV.hd 4],.vec 55 1 (List.map zH x4.caches)],[.box 26 (zG a_p0),.box 26 (zG ⟨[],0,0,[],[]⟩),.dead,.box 26 [ls cI x4.nodes,li x4.batch,li x4.high,AV.osl 51 10 (List.map zO x4.zones),AV.hd 4],.vec 55 1 (List.map zH x4.caches),.box 55 [(ls (cS cI) ([]:List (List Int)))]],[.box 26 (zG a_p0),.box 26 (zG ⟨[],0,0,[],[]⟩),.dead,.box 26 [ls cI x4.nodes,li x4.batch,li x4.high,AV.osl 51 10 (List.map zO x4.zones),AV.hd 4],.vec 55 1 (List.map zH x4.caches),.box 55 (zH x5.1)]] (by kernel_rfl) (by kernel_rfl) ⟨⟨?_,?_⟩,⟨?_,?_⟩,⟨?_,?_⟩,⟨?_,?_⟩,⟨?_,?_⟩,⟨?_,?_⟩,⟨?_,?_⟩,⟨?_,?_⟩,⟨?_,?_⟩,⟨?_,?_⟩,⟨?_,?_⟩,⟨?_,?_⟩,⟨?_,?_⟩,⟨?_,?_⟩,⟨?_,?_,?_⟩,⟨?_,?_,?_⟩,?_,?_,?_,?_,trivial⟩ ?_
    ·exact D1 fun e s p=>zK (k:=3) (o:=0) (off:=4) underlying26 rfl rfl sizeOf24 (s 10 rfl)
    ·exact D1 fun e s p=>zK (k:=3) (o:=0) (off:=4) underlying26 rfl rfl sizeOf24 (s 10 rfl)
    ·exact D1 fun e s p=>zN (k:=3) (o:=4) isAgg24 p.1 rfl rfl rfl
    ·exact D1 fun e s p=>zN (k:=3) (o:=4) isAgg24 p.1 rfl rfl rfl
    ·exact D1 fun e s p=>zB (s 1 rfl)
    ·exact D1 fun e s p=>zB (s 1 rfl)
    ·exact D1 fun e s p=>zAC (f:=zH) (l:=x4.caches) (i:=a_p1) underlying24 sizeOf55 p.1 rfl p.2.1 hb4
    ·exact D1 fun e s p=>zAC (f:=zH) (l:=x4.caches) (i:=a_p1) underlying24 sizeOf55 p.1 rfl p.2.1 hb4
    ·exact D1 fun e s p=>zCT (f:=zH) (l:=x4.caches) (i:=a_p1) (c:=0) (q:=1) (la:=(zH (at_ x4.caches a_p1))) isAgg55 sizeOf55 p.1 rfl (by first | rfl | omega) hb4 rfl rfl rfl
    ·exact D1 fun e s p=>zCT (f:=zH) (l:=x4.caches) (i:=a_p1) (c:=0) (q:=1) (la:=(zH (at_ x4.caches a_p1))) isAgg55 sizeOf55 p.1 rfl (by first | rfl | omega) hb4 rfl rfl rfl
    ·exact D1 fun e s p=>zB (s 9 rfl)
    ·exact D1 fun e s p=>zB (s 9 rfl)
    ·exact D1 fun e s p=>zB (s 2 rfl)
    ·exact D1 fun e s p=>zB (s 2 rfl)
    ·exact D1 fun e s p=>zK (k:=3) (o:=0) (off:=1) underlying26 rfl rfl sizeOf3 (s 10 rfl)
    ·exact D1 fun e s p=>zK (k:=3) (o:=0) (off:=1) underlying26 rfl rfl sizeOf3 (s 10 rfl)
    ·exact D1 fun e s p=>zN (k:=3) (o:=1) isAgg3 p.1 rfl rfl rfl
    ·exact D1 fun e s p=>zN (k:=3) (o:=1) isAgg3 p.1 rfl rfl rfl
    ·exact D1 fun e s p=>zK (k:=3) (o:=0) (off:=2) underlying26 rfl rfl sizeOf3 (s 10 rfl)
    ·exact D1 fun e s p=>zK (k:=3) (o:=0) (off:=2) underlying26 rfl rfl sizeOf3 (s 10 rfl)
    ·exact D1 fun e s p=>zN (k:=3) (o:=2) isAgg3 p.1 rfl rfl rfl
    ·exact D1 fun e s p=>zN (k:=3) (o:=2) isAgg3 p.1 rfl rfl rfl
    ·
     intro e23 hs23 hp23
     refine zi (r:=(AV.tup [(AV.agg (zH x5.1)),ls cI x5.2.1,li x5.2.2])) (la:=[(AV.agg (zH (at_ x4.caches a_p1))),li x2,li a_p2,li x4.batch,li x4.high]) func69 rfl (by kernel_rfl) (.fn 69) (zAK hp23.1 (zAK hp23.2.1 (zAK hp23.2.2.1 (zAK hp23.2.2.2.1 (zAK hp23.2.2.2.2.1 rfl))))) rfl (zLk hx5) rfl ?_
     exact zF ⟨fun _=>rfl,rfl⟩
    ·
     intro e24 hs24 hp24
     refine zi (r:=(AV.tup [(AV.agg (zH x5.1)),ls cI x5.2.1,li x5.2.2])) (la:=[(AV.agg (zH (at_ x4.caches a_p1))),li x2,li a_p2,li x4.batch,li x4.high]) func69 rfl (by kernel_rfl) (.fn 69) (zAK hp24.1 (zAK hp24.2.1 (zAK hp24.2.2.1 (zAK hp24.2.2.2.1 (zAK hp24.2.2.2.2.1 rfl))))) rfl (zLk hx5) rfl ?_
     exact zF ⟨fun _=>rfl,rfl⟩
    ·exact D1 fun e s p=>zB p.1
    ·exact D1 fun e s p=>zB p.1
    ·exact D1 fun e s p=>zg p.1 rfl
    ·exact D1 fun e s p=>zg p.1 rfl
    ·exact D1 fun e s p=>zg p.1 rfl
    ·exact D1 fun e s p=>zg p.1 rfl
    ·exact D1 fun e s p=>zg p.1 rfl
    ·exact D1 fun e s p=>zg p.1 rfl
    ·exact D1 fun e s p=>zg p.1 rfl
    ·exact D1 fun e s p=>zg p.1 rfl
    ·
     intro e35 hs35 hp35
     refine za (H':=[.box 26 (zG a_p0),.box 26 (zG ⟨[],0,0,[],[]⟩),.dead,.box 26 [ls cI x4.nodes,li x4.batch,li x4.high,AV.osl 51 10 (List.map zO x4.zones),AV.hd 4],.vec 55 1 (List.map zH x4.caches),.box 55 [(ls (cS cI) ([]:List (List Int)))]]) (zv (t:=55) (vs:=[.slice none 0 0]) (cs:=[.sl false []]) zeroValue55 (by kernel_rfl) rfl ⟨zh.nils,trivial⟩) ?_
     exact zF ⟨fun _=>rfl,rfl⟩
    ·
     intro e36 hs36 hp36
     refine zm (H':=[.box 26 (zG a_p0),.box 26 (zG ⟨[],0,0,[],[]⟩),.dead,.box 26 [ls cI x4.nodes,li x4.batch,li x4.high,AV.osl 51 10 (List.map zO x4.zones),AV.hd 4],.vec 55 1 (List.map zH x4.caches),.box 55 (zH x5.1)]) (zZ (k:=5) (o:=0) (cs:=[(ls (cS cI) ([]:List (List Int)))]) (la:=(zH x5.1)) sizeOf55 (by exact hp36.2.2.2.2.2.2.2.2.2.2.2.2.2.2.2.2.2.2.2.1) rfl rfl (by exact hp36.2.2.2.2.2.2.2.2.2.2.2.2.2.2.2.2.1)) ?_
     exact zF ⟨fun _=>rfl,rfl⟩
    ·exact D1 fun e s p=>zD p.2.2.2.2.2.2.2.2.2.2.2.2.2.2.2.2.1
    ·exact D1 fun e s p=>zD p.2.2.2.2.2.2.2.2.2.2.2.2.2.2.2.2.2.1
    intro e39 hs39 hq1
    refine zV (zBY (l:=[(1,(li a_p1)),(6,(AV.ptr 1 0)),(9,(li x2)),(10,(AV.ptr 3 0)),(11,(AV.ptr 5 0)),(12,(ls cI x5.2.1))]) ⟨hs39 1 rfl,hs39 6 rfl,hs39 9 rfl,hs39 10 rfl,(hq1 16 (by decide) (by decide)),(hq1 18 (by decide) (by decide)),trivial⟩)<|zI<|zC<|zA (zK (k:=3) (o:=0) (off:=4) underlying26 rfl rfl sizeOf24 rfl)<|zA (zN (k:=3) (o:=4) (a:=(AV.hd 4)) isAgg24 rfl rfl rfl rfl)<|zA (zB (av:=(li a_p1)) rfl) ?_
    refine zA (zS (k:=5) (o:=0) (m:=1) isAgg55 sizeOf55 rfl rfl rfl rfl rfl)<|zA (zAC (f:=zH) (l:=x4.caches) (i:=a_p1) underlying24 sizeOf55 rfl rfl rfl hb4)<|zm (H':=[.box 26 (zG a_p0),.box 26 (zG ⟨[],0,0,[],[]⟩),.dead,.box 26 [ls cI x4.nodes,li x4.batch,li x4.high,AV.osl 51 10 (List.map zO x4.zones),AV.hd 4],.vec 55 1 (List.map zH (x4.caches.set a_p1.toNat x5.1)),.box 55 (zH x5.1)]) (zCM (k:=4) (o:=(a_p1.toNat*1)) (f:=zH) (l:=x4.caches) (i:=a_p1) (z:=x5.1) sizeOf55 (fun _=>rfl) rfl rfl (by first | rfl | omega) hb4 rfl rfl)<|zF<|zI<|zC ?_
    refine zA (zB rfl)<|zA (zB rfl)<|zAF (zAJ (k:=3) (j:=4) (o:=4) rfl rfl rfl rfl)<|zR h fun x6 hx6 h=>zDw (k:=3) (la:=[AV.ptr 3 0,li x2,ls cI x5.2.1]) (la':=[AV.ptr 0 0,li x2,ls cI x5.2.1]) (r:=(.tup [])) (S:=[]) (en' := .box 26 [ls cI x6.nodes,li x6.batch,li x6.high,AV.osl 51 10 (List.map zO x6.zones),AV.osl 55 1 (List.map zH x6.caches)]) func70 rfl (by kernel_rfl) (.fn 70) rfl ⟨zCe.ptr,zCe.of (zAt.nr rfl),zCe.of (zAt.nr rfl),trivial⟩ rfl rfl (by kernel_rfl) (by kernel_rfl) (zNr hx6) rfl (.inl rfl)<|zF ?_
    refine zI<|zC<|zAF (zBb (k:=3) (o:=3) (rows':=List.map zO x6.zones) rfl rfl (zAP (fun _=>rfl)))<|zAF (zBb (k:=3) (o:=4) (rows':=List.map zH x6.caches) rfl rfl (zAP (fun _=>rfl)))<|zA (zS (k:=3) (o:=0) (m:=5) isAgg26 sizeOf26 rfl rfl rfl rfl rfl)<|zm (H':=[.box 26 (zG a_p0),.box 26 (zG (⟨x6.nodes,x6.batch,x6.high,x6.zones,x6.caches⟩:zJ)),.dead,.box 26 (zG ⟨x6.nodes,x6.batch,x6.high,x6.zones,x6.caches⟩),.dead,.box 55 (zH x5.1)]) (zZ (k:=1) (o:=0) (cs:=(zG ⟨[],0,0,[],[]⟩)) (la:=(zG (⟨x6.nodes,x6.batch,x6.high,x6.zones,x6.caches⟩:zJ))) sizeOf26 rfl rfl rfl rfl) ?_
    refine zA (zD rfl)<|zF<|zb ?_
    show zAQ _ _ _ _ _ _
    obtain rfl:=Option.some.inj h
    exact zCR (zFa isAgg26 sizeOf26 rfl rfl rfl rfl) (zAM rfl rfl) rfl
theorem zJP {a_a:zJ} {a_cpu:Int} {a_frame:Int} {r:Bool} (h:zDr a_a a_cpu a_frame=some r):PFn prog 6 [(AV.agg (zG a_a)),li a_cpu,li a_frame] (AV.lit (.bool r)):=by
 refine zq func6 rfl ntmps6 results6 rfl ?_
 unfold zDr at h
 refine zI<|zC<|za (H':=[.box 26 (zG a_a)]) (zw (t:=26) rfl)<|zA (zD rfl)<|zF<|zI ?_
 refine zI<|zC<|zR h fun x1 hx1 h=>zi func9 rfl (by kernel_rfl) (.fn 9) rfl rfl (zKO hx1) rfl<|zA (zA6 (t:=x1) rfl)<|zA (zB rfl) ?_
 refine zT rfl rfl (fun hc1=>zt.step (zS (k:=0) (o:=0) (m:=5) isAgg26 sizeOf26 rfl rfl rfl rfl rfl))<|zR h fun x2 hx2 h=>zCA (g:=13) (s := !x1) (r':=(AV.lit (.bool x2))) rfl rfl (fun hc2=>⟨10,_,_,[],[(AV.agg (zG a_a))],[(AV.agg (zG a_a))],(AV.lit (.bool x2)),[],func10,rfl,by kernel_rfl,.fn 10,(zAK (z5 rfl hc2) rfl),⟨zAt.nr rfl,trivial⟩,zOe (zF3 hc2 hx2),.inl rfl,rfl⟩)<|zT rfl rfl (fun hc3=>zt.step (zA6 (t:=x2) (z5 rfl hc3)))<|zA (zd rfl rfl)<|zF ?_
 refine zY h rfl (fun hb1 h => ?_) (fun hb1 h => ?_)
 ·refine zI<|zC<|zR h fun x3 hx3 h=>zi func9 rfl (by kernel_rfl) (.fn 9) rfl rfl (zKO hx3) rfl<|zA (zD rfl)<|zF ?_
  refine zb ?_
  show zAQ _ _ _ _ _ _
  obtain rfl:=Option.some.inj h
  exact zu (zAM rfl rfl)
 ·refine zP<|zI<|zC<|zA (zS (k:=0) (o:=0) (m:=5) isAgg26 sizeOf26 rfl rfl rfl rfl rfl)<|zA (zB rfl)<|zA (zB rfl) ?_
  refine zR h fun x4 hx4 h=>zi func28 rfl (by kernel_rfl) (.fn 28) rfl rfl (zI8 hx4) rfl<|zA (zB rfl)<|zA (zg rfl rfl)<|zA (zg rfl rfl)<|za (H':=[.box 26 (zG a_a),.box 26 (zG ⟨[],0,0,[],[]⟩)]) (zv (t:=26) (vs:=[.slice none 0 0,.int .i64 0,.int .i64 0,.slice none 0 0,.slice none 0 0]) (cs:=[.sl false [],.lit (.int .i64 0),.lit (.int .i64 0),.sl false [],.sl false []]) zeroValue26 (by kernel_rfl) rfl ⟨zh.nils,zh.refl _,zh.refl _,zh.nils,zh.nils,trivial⟩) ?_
  refine zm (H':=[.box 26 (zG a_a),.box 26 (zG x4.1)]) (zZ (k:=1) (o:=0) (cs:=(zG ⟨[],0,0,[],[]⟩)) (la:=(zG x4.1)) sizeOf26 rfl rfl rfl rfl)<|zA (zD rfl)<|zF<|zI<|zC<|zA (zS (k:=0) (o:=0) (m:=5) isAgg26 sizeOf26 rfl rfl rfl rfl rfl) ?_
  refine zA (zB rfl)<|zA (zB rfl)<|zR h fun x5 hx5 h=>zi func29 rfl (by kernel_rfl) (.fn 29) rfl rfl (zNX hx5) rfl<|zA (zB rfl)<|zA (zg rfl rfl) ?_
  refine zA (zg rfl rfl)<|za (H':=[.box 26 (zG a_a),.box 26 (zG x4.1),.box 26 (zG ⟨[],0,0,[],[]⟩)]) (zv (t:=26) (vs:=[.slice none 0 0,.int .i64 0,.int .i64 0,.slice none 0 0,.slice none 0 0]) (cs:=[.sl false [],.lit (.int .i64 0),.lit (.int .i64 0),.sl false [],.sl false []]) zeroValue26 (by kernel_rfl) rfl ⟨zh.nils,zh.refl _,zh.refl _,zh.nils,zh.nils,trivial⟩)<|zm (H':=[.box 26 (zG a_a),.box 26 (zG x4.1),.box 26 (zG x5.1)]) (zZ (k:=2) (o:=0) (cs:=(zG ⟨[],0,0,[],[]⟩)) (la:=(zG x5.1)) sizeOf26 rfl rfl rfl rfl)<|zA (zD rfl)<|zF<|zI ?_
  refine zC<|zA (zB rfl)<|zA (zB rfl)<|zA (zBR rfl rfl)<|zA (zB rfl)<|zo rfl rfl (fun hc4=>zt.step (zS (k:=1) (o:=0) (m:=5) isAgg26 sizeOf26 rfl rfl rfl rfl rfl)) ?_
  refine zo rfl rfl (fun hc5=>zt.step (zS (k:=2) (o:=0) (m:=5) isAgg26 sizeOf26 rfl rfl rfl rfl rfl))<|zR h fun x6 hx6 h=>zCp (g:=36) (s:=decide (x4.2=x5.2)) (r':=(AV.lit (.bool x6))) rfl rfl (fun hc6=>⟨25,_,_,[],[(AV.agg (zG x4.1)),(AV.agg (zG x5.1))],[(AV.agg (zG x4.1)),(AV.agg (zG x5.1))],(AV.lit (.bool x6)),[],func25,rfl,by kernel_rfl,.fn 25,(zAK (z5 rfl hc6) (zAK (z5 rfl hc6) rfl)),⟨zAt.nr rfl,zAt.nr rfl,trivial⟩,zKk (zF3 hc6 hx6),.inl rfl,rfl⟩)<|zA (zz (j := .lit undef) rfl rfl)<|zA (zD rfl)<|zF ?_
  refine zb ?_
  show zAQ _ _ _ _ _ _
  obtain rfl:=Option.some.inj h
  exact zu (zAM rfl rfl)
end Go.Proofs.YtplkliakhdkpcaaGreat
namespace Go.Proofs.YtplkliakhdkpcaaGreat
open Go Go.RowKit Go.Am
def zCk (f:Int):Bool:=decide (0≤f)&&decide (f<256)
def inside (z:zp) (f:Int) (k:Nat):Bool :=
  decide (z.start≤f)&&decide (f.tmod (2 ^ k)=0)&&decide ((2:Int) ^ k≤z.count)&&decide (f≤z.start+z.count - 2 ^ k)
def ranges (z:zp):Bool :=
  decide (0≤z.node)&&decide (z.node<4)&&(decide (z.kind=0)||decide (z.kind=1))&&decide (0≤z.start)&&decide (z.start<256)&&decide (1≤z.count)&&decide (z.count≤256 - z.start)&&decide (0≤z.min)&&decide (z.min≤z.count)
def Srt (l:List Int):Prop:=l.Pairwise (· < ·)
def lb (l:List Int) (t:Int):Nat:=l.countP (fun x=>decide (x<t))
theorem Srt.nil:Srt []:=List.Pairwise.nil
theorem zJq {l:List Int} (h:Srt l) {i j:Nat} {x y:Int} (hi:l[i]?=some x) (hj:l[j]?=some y) (hij:i<j):x<y:=by
  obtain ⟨h1,rfl⟩:=List.getElem?_eq_some_iff.1 hi
  obtain ⟨h2,rfl⟩:=List.getElem?_eq_some_iff.1 hj
  exact List.pairwise_iff_getElem.1 h i j h1 h2 hij
theorem zVR {l:List Int} {t:Int}:∀ {i:Nat},i≤l.length→(∀ m x,m<i→l[m]?=some x→x<t)→(∀ m x,i≤m→l[m]?=some x→t≤x)→lb l t=i:=by
  induction l with
  | nil=>intro i hi _ _; simp at hi; simp [lb,hi]
  | cons a l ih =>
    intro i hi h1 h2
    unfold lb at *
    rw [List.countP_cons]
    cases i with
    | zero =>
      have ha:=h2 0 a (Nat.le_refl _) rfl
      have hz:=ih (i:=0) (Nat.zero_le _) (fun m x hm=>by omega) (fun m x _ hx=>h2 (m+1) x (by omega) hx)
      rw [hz]
      have:¬ a<t:=by omega
      simp [this]
    | succ i =>
      have ha:=h1 0 a (by omega) rfl
      have hz:=ih (i:=i) (by simp at hi; omega) (fun m x hm hx=>h1 (m+1) x (by omega) hx) (fun m x hm hx=>h2 (m+1) x (by omega) hx)
      rw [hz]
      simp [ha]
theorem zUg {l:List Int} {t:Int} {i:Nat} (h1:∀ m x,m<i→l[m]?=some x→x<t) (h2:∀ m x,i<m→l[m]?=some x→t<x):(t∈l)↔l[i]?=some t:=by
  constructor
  · intro h
    obtain ⟨m,hm,rfl⟩:=List.getElem_of_mem h
    have hx:=List.getElem?_eq_getElem hm
    rcases Nat.lt_trichotomy m i with h | h | h
    · have:=h1 m _ h hx; omega
    · rw [← h]; exact hx
    · have:=h2 m _ h hx; omega
  · intro h; exact List.mem_of_getElem? h
theorem zSH {l:List Int} (hs:Srt l) {p:Nat} {x t:Int} (hx:l[p]?=some x) (h:x<t):∀ m y,m<p+1→l[m]?=some y→y<t:=by
  intro m y hm hy
  rcases Nat.lt_or_ge m p with hlt | hge
  · have:=zJq hs hy hx hlt; omega
  · have:m=p:=by omega
    subst this
    rw [hx] at hy; cases hy; exact h
theorem zR1 {l:List Int} (hs:Srt l) {p:Nat} {x t:Int} (hx:l[p]?=some x) (h:¬ x<t):∀ m y,p≤m→l[m]?=some y→t≤y:=by
  intro m y hm hy
  rcases Nat.lt_or_ge p m with hlt | hge
  · have:=zJq hs hx hy hlt; omega
  · have:m=p:=by omega
    subst this
    rw [hx] at hy; cases hy; omega
theorem zVU {l:List Int} {t:Int} {i:Nat} (h1:∀ m x,m<i→l[m]?=some x→x<t) (h:¬ i<l.length):(t∈l)↔False:=by
  constructor
  · intro hm
    obtain ⟨m,hm',rfl⟩:=List.getElem_of_mem hm
    have:=h1 m _ (by omega) (List.getElem?_eq_getElem hm')
    omega
  · exact False.elim
theorem zUM {l:List Int} {t x:Int} {i:Nat} (hs:Srt l) (h1:∀ m x,m<i→l[m]?=some x→x<t) (h2:∀ m x,i≤m→l[m]?=some x→t≤x) (hx:l[i]?=some x):(t∈l)↔x=t:=by
  rw [zUg h1 (fun m y hm hy=>by
    have:=h2 i x (Nat.le_refl _) hx
    have:=zJq hs hx hy hm
    omega),hx]
  simp
def bud (f:Int) (k:Nat):Int:=((f.toNat ^^^ 2 ^ k:Nat):Int)
theorem zBs {z:zp} (h:ranges z=true):0≤z.node∧z.node<4∧(z.kind=0∨z.kind=1)∧0≤z.start∧z.start<256∧1≤z.count∧z.count≤256 - z.start∧0≤z.min∧z.min≤z.count:=by
  unfold ranges at h
  simp only [Bool.and_eq_true,Bool.or_eq_true,decide_eq_true_eq] at h
  omega
theorem zAe {z:zp} {f:Int} {k:Nat} (hz:ranges z=true) (h:inside z f k=true):0≤f∧f+2 ^ k≤256∧z.start≤f∧f+2 ^ k≤z.start+z.count∧f.tmod (2 ^ k)=0:=by
  have hb:=zBs hz
  unfold inside at h
  simp only [Bool.and_eq_true,decide_eq_true_eq] at h
  omega
theorem zTc {l:List Int}:∀ {a:Int},Srt l→(∀ f,f∈l→a≤f) → ∀ {i:Nat} {x:Int},l[i]?=some x→a+i≤x:=by
  induction l with
  | nil=>intro a _ _ i x hx; simp at hx
  | cons y l ih =>
    intro a hs ha i x hx
    cases i with
    | zero =>
      simp at hx; subst hx
      have:=ha y (by simp); simpa using this
    | succ i =>
      have hs':=List.pairwise_cons.1 hs
      have:=ih (a:=a+1) hs'.2 (fun f hf=>by have h1:=ha y (by simp); have h2:=hs'.1 f hf; omega) (i:=i) (x:=x) (by simpa using hx)
      omega
theorem zRL {l:List Int} (hs:Srt l) (h:∀ f,f∈l→0≤f∧f<256):l.length≤256:=by
  rcases Nat.eq_zero_or_pos l.length with h0 | h0
  · omega
  · have hl:l[l.length - 1]?=some l[l.length - 1]:=List.getElem?_eq_getElem (by omega)
    have h1:=zTc hs (fun f hf=>(h f hf).1) hl
    have h2:=(h _ (List.mem_of_getElem? hl)).2
    omega
def zRp (l:List Int) (t:Int):List Int:=l.take (lb l t)++t::l.drop (lb l t)
def lst (z:zp) (k:Nat):List Int:=z.free.getD k []
def zRm (z:zp) (k:Nat) (l:List Int):zp:={ z with free:=z.free.set k l }
def zRo (z:zp) (f:Int) (k:Nat):zp:=zRm z k (zRp (lst z k) f)
def zPl (z:zp) (f:Int) (k:Nat):zp:=zRm z k ((lst z k).eraseIdx (lb (lst z k) f))
def zLm (z:zp) (f:Int) (k:Nat):Bool:=decide (bud f k∈lst z k)&&inside z (min f (bud f k)) (k+1)
def zMk:Nat→zp→Int→Nat→zp
  | 0,z,f,k=>zRo z f k
  | n+1,z,f,k=>if zLm z f k=true then zMk n (zPl z (bud f k) k) (min f (bud f k)) (k+1) else zRo z f k
theorem zU0 {z:zp} {k:Nat} {l:List Int} (h:z.free[k]?=some l):lst z k=l:=by simp [lst,h]
theorem zUx (l:List Int) (t:Int):lb l t≤l.length:=List.countP_le_length
theorem zVW {l:List Int} {t:Int} (h:t∈l):lb l t<l.length:=by
  unfold lb
  rcases Nat.lt_or_ge (l.countP (fun x=>decide (x<t))) l.length with h1 | h1
  · exact h1
  · exfalso
    have:=List.countP_eq_length.1 (Nat.le_antisymm List.countP_le_length h1) t h
    simp at this
theorem zP0 {l:List Int} {t x:Int}:x∈zRp l t↔x=t∨x∈l:=by
  unfold zRp
  have:x∈l↔x∈l.take (lb l t)∨x∈l.drop (lb l t):=by
    rw [← List.mem_append,List.take_append_drop]
  rw [List.mem_append,List.mem_cons,this]
  constructor
  · rintro (h | h | h)
    · exact .inr (.inl h)
    · exact .inl h
    · exact .inr (.inr h)
  · rintro (h | h | h)
    · exact .inr (.inl h)
    · exact .inl h
    · exact .inr (.inr h)
structure zQO (z:zp):Prop where
  ranges:ranges z=true
  len:z.free.length=5
  srt:∀ (k:Nat) (l:List Int),z.free[k]?=some l→Srt l
  bd:∀ (k:Nat) (l:List Int),z.free[k]?=some l → ∀ x,x∈l→0≤x∧x<256
theorem zQO.lenl {z:zp} (h:zQO z) {k:Nat} {l:List Int} (hl:z.free[k]?=some l):l.length≤256:=zRL (h.srt k l hl) (h.bd k l hl)
theorem zQO.del {z:zp} (h:zQO z) {k:Nat} {f:Int} {l:List Int} (hl:z.free[k]?=some l):zQO (zPl z f k):=by
  have hlst:=zU0 hl
  refine ⟨h.ranges,by simpa [zPl,zRm] using h.len,?_,?_⟩
  · intro j l' hl'
    simp only [zPl,zRm,List.getElem?_set] at hl'
    split at hl'
    · split at hl'
      · cases hl'
        rw [hlst]
        exact (h.srt k l hl).sublist (List.eraseIdx_sublist ..)
      · cases hl'
    · exact h.srt j l' hl'
  · intro j l' hl' x hx
    simp only [zPl,zRm,List.getElem?_set] at hl'
    split at hl'
    · split at hl'
      · cases hl'
        rw [hlst] at hx
        exact h.bd k l hl x ((List.eraseIdx_sublist ..).subset hx)
      · cases hl'
    · exact h.bd j l' hl' x hx
theorem zS5:∀ k:Fin 4, ∀ x:Fin 256,x.val%2 ^ k.val=0→(x.val ^^^ 2 ^ k.val)=if x.val%2 ^ (k.val+1)=0 then x.val+2 ^ k.val else x.val - 2 ^ k.val:=by decide +kernel
theorem zBW {z:zp} (h:ranges z=true) {x:Int} {k:Nat}:inside z x k=true↔z.start≤x∧x%2 ^ k=0∧(2:Int) ^ k≤z.count∧x≤z.start+z.count - 2 ^ k:=by
  have hr:=zBs h
  unfold inside
  simp only [Bool.and_eq_true,decide_eq_true_eq]
  constructor
  · rintro ⟨⟨⟨h1,h2⟩,h3⟩,h4⟩
    rw [Int.tmod_eq_emod_of_nonneg (by omega)] at h2
    exact ⟨h1,h2,h3,h4⟩
  · rintro ⟨h1,h2,h3,h4⟩
    rw [← Int.tmod_eq_emod_of_nonneg (by omega)] at h2
    exact ⟨⟨⟨h1,h2⟩,h3⟩,h4⟩
theorem le4 {k:Nat} (h:k≤4):k=0∨k=1∨k=2∨k=3∨k=4:=by omega
theorem pw0:(2:Int) ^ 0=1:=rfl
theorem pw1:(2:Int) ^ 1=2:=rfl
theorem pw2:(2:Int) ^ 2=4:=rfl
theorem pw3:(2:Int) ^ 3=8:=rfl
theorem pw4:(2:Int) ^ 4=16:=rfl
theorem zMt {x:Int} {k:Nat} (hk:k<4) (h0:0≤x) (h1:x<256) (ha:x%2 ^ k=0):(x%2 ^ (k+1)=0∧bud x k=x+2 ^ k)∨(x%2 ^ (k+1)=2 ^ k∧bud x k=x - 2 ^ k):=by
  obtain ⟨m,rfl⟩:=Int.eq_ofNat_of_zero_le h0
  have hm:m<256:=by omega
  have h:=zS5 ⟨k,hk⟩ ⟨m,hm⟩
  simp only at h
  have hb:bud (m:Int) k=((m ^^^ 2 ^ k:Nat):Int):=by simp [bud]
  have hk':k=0∨k=1∨k=2∨k=3:=by omega
  rw [hb]
  rcases hk' with rfl | rfl | rfl | rfl
  · have:=h (by omega)
    simp only [Nat.reducePow,Nat.reduceAdd,pw0,pw1] at *
    split at this <;> omega
  · simp only [Nat.reducePow,Nat.reduceAdd,pw1,pw2] at *
    have:=h (by omega)
    split at this <;> omega
  · simp only [Nat.reducePow,Nat.reduceAdd,pw2,pw3] at *
    have:=h (by omega)
    split at this <;> omega
  · simp only [Nat.reducePow,Nat.reduceAdd,pw3,pw4] at *
    have:=h (by omega)
    split at this <;> omega
theorem zVg {x y f:Int} {k j:Nat} (hkj:k≤j) (hj:j≤4) (hx:x%2 ^ k=0) (hy:y%2 ^ j=0) (h1:x≤f) (h2:f<x+2 ^ k) (h3:y≤f) (h4:f<y+2 ^ j):y≤x∧x+2 ^ k≤y+2 ^ j:=by
  rcases le4 hj with rfl | rfl | rfl | rfl | rfl <;> rcases le4 (Nat.le_trans hkj hj) with rfl | rfl | rfl | rfl | rfl <;> simp only [pw0,pw1,pw2,pw3,pw4] at * <;> omega
theorem zKz {z:zp} (h:z.free.length=5) {k:Nat} (hk:5≤k):lst z k=[]:=by
  unfold lst
  rw [List.getD_eq_getElem?_getD,List.getElem?_eq_none (by omega)]
  rfl
theorem zO5 {z:zp} (h:z.free.length=5) {k j:Nat} (hk:k<5) {l:List Int}:lst (zRm z k l) j=if j=k then l else lst z j:=by
  unfold lst zRm
  simp only [List.getD_eq_getElem?_getD,List.getElem?_set]
  by_cases hj:k=j
  · subst hj
    rw [if_pos rfl,if_pos rfl,if_pos (by omega)]
    rfl
  · rw [if_neg hj,if_neg (fun e=>hj e.symm)]
theorem zJI {z:zp} (h:z.free.length=5) {k:Nat} (hk:k<5):z.free[k]?=some (lst z k):=by
  unfold lst
  rw [List.getD_eq_getElem?_getD,List.getElem?_eq_getElem (by omega)]
  rfl
def cov (z:zp) (f:Int):Prop := ∃ k x,x∈lst z k∧x≤f∧f<x+2 ^ k
structure OkZ (z:zp):Prop where
  ranges:ranges z=true
  len:z.free.length=5
  srt:∀ k,Srt (lst z k)
  ins:∀ k x,x∈lst z k→inside z x k=true
  dis:∀ k x j y f,x∈lst z k→y∈lst z j→x≤f→f<x+2 ^ k→y≤f→f<y+2 ^ j→k=j∧x=y
  can:∀ k x,k<4→x∈lst z k→bud x k∈lst z k→inside z (min x (bud x k)) (k+1)=false
section
variable {z z1 z2:zp}
theorem OkZ.le4 (h:OkZ z) {k:Nat} {x:Int} (hx:x∈lst z k):k≤4:=by
  rcases Nat.lt_or_ge k 5 with hk | hk
  · omega
  · rw [zKz h.len hk] at hx; cases hx
theorem OkZ.bds (h:OkZ z) {k:Nat} {x:Int} (hx:inside z x k=true):0≤x∧x+2 ^ k≤256∧z.start≤x∧x+2 ^ k≤z.start+z.count∧x%2 ^ k=0:=by
  have h1:=zAe h.ranges hx
  have h2:=(zBW h.ranges).1 hx
  exact ⟨h1.1,h1.2.1,h2.1,by omega,h2.2.1⟩
theorem zJv (k:Nat):(0:Int)<2 ^ k:=Int.pow_pos (by omega)
theorem zNc (k:Nat):(2:Int) ^ (k+1)=2 ^ k+2 ^ k:=by rw [Int.pow_succ]; omega
theorem zTT {x:Int} {k:Nat} (h:x%2 ^ (k+1)=0):x%2 ^ k=0∧(x+2 ^ k)%2 ^ k=0:=by
  obtain ⟨c,rfl⟩:=Int.dvd_of_emod_eq_zero h
  rw [Int.pow_succ,Int.mul_assoc]
  constructor
  · exact Int.mul_emod_right _ _
  · rw [show (2:Int) ^ k*(2*c)+2 ^ k=2 ^ k*(2*c+1) by rw [Int.mul_add,Int.mul_one]]
    exact Int.mul_emod_right _ _
theorem OkZ.holder (h:OkZ z):∀ (k:Nat) (x:Int),k≤4→inside z x k=true→(∀ f,x≤f→f<x+2 ^ k→cov z f) → ∃ j y,k≤j∧y∈lst z j∧y≤x∧x+2 ^ k≤y+2 ^ j:=by
  intro k
  induction k with
  | zero =>
    intro x _ hi hc
    obtain ⟨j,y,hy,h1,h2⟩:=hc x (Int.le_refl _) (by rw [pw0]; omega)
    exact ⟨j,y,Nat.zero_le _,hy,h1,by rw [pw0]; omega⟩
  | succ k ih =>
    intro x hk hi hc
    have hb:=h.bds hi
    have hi':=(zBW h.ranges).1 hi
    have hal:=zTT hb.2.2.2.2
    have hp:=zNc k
    have hp0:=zJv k
    have hin1:inside z x k=true:=(zBW h.ranges).2 ⟨by omega,hal.1,by omega,by omega⟩
    have hin2:inside z (x+2 ^ k) k=true:=(zBW h.ranges).2 ⟨by omega,hal.2,by omega,by omega⟩
    obtain ⟨j1,y1,a1,a2,a3,a4⟩:=ih x (by omega) hin1 (fun f h1 h2=>hc f h1 (by omega))
    obtain ⟨j2,y2,b1,b2,b3,b4⟩:=ih (x+2 ^ k) (by omega) hin2 (fun f h1 h2=>hc f (by omega) (by omega))
    have hj1:=h.le4 a2
    have hj2:=h.le4 b2
    have hy1:=(h.bds (h.ins _ _ a2)).2.2.2.2
    have hy2:=(h.bds (h.ins _ _ b2)).2.2.2.2
    by_cases hk1:k<j1
    · obtain ⟨n1,n2⟩:=zVg (f:=x) (show k+1≤j1 by omega) hj1 hb.2.2.2.2 hy1 (Int.le_refl _) (by omega) a3 (by omega)
      exact ⟨j1,y1,by omega,a2,n1,n2⟩
    · by_cases hk2:k<j2
      · obtain ⟨n1,n2⟩:=zVg (f:=x+2 ^ k) (show k+1≤j2 by omega) hj2 hb.2.2.2.2 hy2 (by omega) (by omega) b3 (by omega)
        exact ⟨j2,y2,by omega,b2,n1,n2⟩
      · exfalso
        have e1:j1=k:=by omega
        have e2:j2=k:=by omega
        subst e1
        subst e2
        have e3:y1=x:=by omega
        have e4:y2=x+2 ^ j2:=by omega
        subst e3
        subst e4
        have hbud:=zMt (x:=y1) (k:=j2) (by omega) (by omega) (by omega) hal.1
        rcases hbud with ⟨_,hb2⟩ | ⟨hb1,_⟩
        · have:=h.can j2 y1 (by omega) a2 (by rw [hb2]; exact b2)
          rw [hb2,Int.min_eq_left (by omega),hi] at this
          cases this
        · rw [hb.2.2.2.2] at hb1
          omega
theorem zRc:∀ {l m:List Int},Srt l→Srt m→(∀ x,x∈l↔x∈m)→l=m
  | [],[],_,_,_=>rfl
  | [],b::m,_,_,h=>by have:=(h b).2 (by simp); cases this
  | a::l,[],_,_,h=>by have:=(h a).1 (by simp); cases this
  | a::l,b::m,hl,hm,h=>by
    have ha:=List.pairwise_cons.1 hl
    have hb:=List.pairwise_cons.1 hm
    have hab:a=b:=by
      have h1:=(h a).1 (by simp)
      have h2:=(h b).2 (by simp)
      rcases List.mem_cons.1 h1 with e | e
      · exact e
      · rcases List.mem_cons.1 h2 with e2 | e2
        · exact e2.symm
        · have:=hb.1 a e
          have:=ha.1 b e2
          omega
    subst hab
    congr 1
    refine zRc ha.2 hb.2 (fun x => ?_)
    constructor
    · intro hx
      rcases List.mem_cons.1 ((h x).1 (by simp [hx])) with e | e
      · have:=ha.1 x hx; omega
      · exact e
    · intro hx
      rcases List.mem_cons.1 ((h x).2 (by simp [hx])) with e | e
      · have:=hb.1 x hx; omega
      · exact e
theorem OkZ.sub (h1:OkZ z1) (h2:OkZ z2) (hp:∀ x k,inside z1 x k=inside z2 x k) (hc:∀ f,cov z1 f↔cov z2 f):∀ k x,x∈lst z1 k→x∈lst z2 k:=by
  intro k x hx
  have hk:=h1.le4 hx
  have hi:=h1.ins k x hx
  have hp0:=zJv k
  obtain ⟨j,y,a1,a2,a3,a4⟩:=h2.holder k x hk (by rw [← hp]; exact hi) (fun f g1 g2=>(hc f).1 ⟨k,x,hx,g1,g2⟩)
  have hj:=h2.le4 a2
  have hiy:=h2.ins j y a2
  obtain ⟨i,u,b1,b2,b3,b4⟩:=h1.holder j y hj (by rw [hp]; exact hiy) (fun f g1 g2=>(hc f).2 ⟨j,y,a2,g1,g2⟩)
  obtain ⟨e1,e2⟩:=h1.dis k x i u x hx b2 (Int.le_refl _) (by omega) (by omega) (by omega)
  subst e2
  have e3:j=k:=by omega
  subst e3
  have e4:y=x:=by omega
  rw [← e4]
  exact a2
theorem OkZ.ext (h1:OkZ z1) (h2:OkZ z2) (e1:z1.node=z2.node) (e2:z1.kind=z2.kind) (e3:z1.start=z2.start) (e4:z1.count=z2.count) (e5:z1.min=z2.min) (hc:∀ f,cov z1 f↔cov z2 f):z1=z2:=by
  have hp:∀ x k,inside z1 x k=inside z2 x k:=fun x k=>by unfold inside; rw [e3,e4]
  have hl:∀ k,lst z1 k=lst z2 k:=fun k=>zRc (h1.srt k) (h2.srt k) (fun x=>⟨h1.sub h2 hp hc k x,h2.sub h1 (fun x k=>(hp x k).symm) (fun f=>(hc f).symm) k x⟩)
  have hf:z1.free=z2.free:=by
    apply List.ext_getElem?
    intro k
    rcases Nat.lt_or_ge k 5 with hk | hk
    · rw [zJI h1.len hk,zJI h2.len hk,hl]
    · rw [List.getElem?_eq_none (by have:=h1.len; omega),List.getElem?_eq_none (by have:=h2.len; omega)]
  cases z1; cases z2
  simp_all
end
theorem zQk (a:Int) (l:List Int) (t:Int):lb (a::l) t=lb l t+if a<t then 1 else 0:=by
  unfold lb
  rw [List.countP_cons]
  simp
theorem zQw {l:List Int} {t:Int} (h:∀ x,x∈l→t≤x):lb l t=0:=by
  unfold lb
  rw [List.countP_eq_zero]
  intro x hx
  have:=h x hx
  simp
  omega
theorem zRT {a:Int} {l:List Int} {t:Int} (hs:Srt (a::l)):zRp (a::l) t=if a<t then a::zRp l t else t::a::l:=by
  unfold zRp
  rw [zQk]
  have ha:=List.pairwise_cons.1 hs
  by_cases h:a<t
  · simp [h]
  · have:lb l t=0:=zQw (fun x hx=>by have:=ha.1 x hx; omega)
    simp [h,this]
theorem zPy:∀ {l:List Int} {t:Int},Srt l→t ∉ l→Srt (zRp l t)
  | [],t,_,_=>by simp [zRp,lb,Srt]
  | a::l,t,hs,hn=>by
    have ha:=List.pairwise_cons.1 hs
    rw [zRT hs]
    simp only [List.mem_cons,not_or] at hn
    by_cases h:a<t
    · rw [if_pos h]
      refine List.pairwise_cons.2 ⟨fun x hx => ?_,zPy ha.2 hn.2⟩
      rcases zP0.1 hx with rfl | hx
      · exact h
      · exact ha.1 x hx
    · rw [if_neg h]
      refine List.pairwise_cons.2 ⟨fun x hx => ?_,hs⟩
      rcases List.mem_cons.1 hx with rfl | hx
      · omega
      · have:=ha.1 x hx; omega
theorem zSi:∀ {l:List Int} {t:Int},Srt l→t∈l→l[lb l t]?=some t
  | [],_,_,h=>by cases h
  | a::l,t,hs,h=>by
    have ha:=List.pairwise_cons.1 hs
    rw [zQk]
    rcases List.mem_cons.1 h with rfl | h
    · have:lb l t=0:=zQw (fun x hx=>by have:=ha.1 x hx; omega)
      simp [this]
    · have:=ha.1 t h
      simp [this,zSi ha.2 h]
theorem zUN {l:List Int} {t x:Int} (hs:Srt l) (ht:t∈l):x∈l.eraseIdx (lb l t)↔x∈l∧x≠t:=by
  have hg:=zSi hs ht
  rw [List.mem_eraseIdx_iff_getElem?]
  constructor
  · rintro ⟨i,hi,hx⟩
    refine ⟨List.mem_of_getElem? hx,?_⟩
    rintro rfl
    rcases Nat.lt_or_gt_of_ne hi with h | h
    · have:=zJq hs hx hg h; omega
    · have:=zJq hs hg hx h; omega
  · rintro ⟨hx,hne⟩
    obtain ⟨i,hi,he⟩:=List.getElem_of_mem hx
    have hxi:l[i]?=some x:=by rw [List.getElem?_eq_getElem hi,he]
    refine ⟨i,?_,hxi⟩
    intro e
    rw [e,hg] at hxi
    exact hne (Option.some.inj hxi).symm
theorem zUh {l:List Int} {i:Nat} (hs:Srt l):Srt (l.eraseIdx i):=hs.sublist (List.eraseIdx_sublist ..)
def zIT (a b:zp):Prop:=a.node=b.node∧a.kind=b.kind∧a.start=b.start∧a.count=b.count∧a.min=b.min
theorem zIT.inside {a b:zp} (h:zIT a b) (x:Int) (k:Nat):inside a x k=inside b x k:=by unfold Go.Proofs.YtplkliakhdkpcaaGreat.inside; rw [h.2.2.1,h.2.2.2.1]
theorem zIT.ranges {a b:zp} (h:zIT a b):ranges a=ranges b:=by unfold Go.Proofs.YtplkliakhdkpcaaGreat.ranges; rw [h.1,h.2.1,h.2.2.1,h.2.2.2.1,h.2.2.2.2]
theorem zN4 (z:zp) (k:Nat) (l:List Int):zIT (zRm z k l) z:=⟨rfl,rfl,rfl,rfl,rfl⟩
theorem zIT.trans {a b c:zp} (h:zIT a b) (g:zIT b c):zIT a c:=⟨h.1.trans g.1,h.2.1.trans g.2.1,h.2.2.1.trans g.2.2.1,h.2.2.2.1.trans g.2.2.2.1,h.2.2.2.2.trans g.2.2.2.2⟩
theorem zT1 {x:Int} (k:Nat) (h:0≤x):bud (bud x k) k=x:=by
  unfold bud
  rw [Int.toNat_natCast,Nat.xor_assoc,Nat.xor_self,Nat.xor_zero,Int.toNat_of_nonneg h]
section
variable {z:zp}
theorem OkZ.del (h:OkZ z) {k:Nat} {x:Int} (hx:x∈lst z k):OkZ (zPl z x k)∧(∀ f,cov (zPl z x k) f↔cov z f ∧ ¬ (x≤f∧f<x+2 ^ k))∧zIT (zPl z x k) z:=by
  have hk:=h.le4 hx
  have hsame:zIT (zPl z x k) z:=zN4 z k ((lst z k).eraseIdx (lb (lst z k) x))
  have hls:∀ j,lst (zPl z x k) j=if j=k then (lst z k).eraseIdx (lb (lst z k) x) else lst z j:=fun j=>zO5 h.len (by omega)
  have hm:∀ j y,y∈lst (zPl z x k) j↔y∈lst z j ∧ ¬ (j=k∧y=x):=by
    intro j y
    rw [hls]
    by_cases hj:j=k
    · subst hj
      rw [if_pos rfl,zUN (h.srt j) hx]
      simp
    · rw [if_neg hj]
      simp [hj]
  refine ⟨⟨by rw [← h.ranges]; exact hsame.ranges,by simpa [zPl,zRm] using h.len,?_,?_,?_,?_⟩,?_,hsame⟩
  · intro j
    rw [hls]
    split
    · exact zUh (h.srt k)
    · exact h.srt j
  · intro j y hy
    rw [hsame.inside]
    exact h.ins j y ((hm j y).1 hy).1
  · intro j y i u f hy hu
    exact h.dis j y i u f ((hm j y).1 hy).1 ((hm i u).1 hu).1
  · intro j y hj hy hb
    rw [hsame.inside]
    exact h.can j y hj ((hm j y).1 hy).1 ((hm j _).1 hb).1
  · intro f
    constructor
    · rintro ⟨j,y,hy,h1,h2⟩
      have hy':=(hm j y).1 hy
      refine ⟨⟨j,y,hy'.1,h1,h2⟩,fun hf=>hy'.2 (h.dis j y k x f hy'.1 hx h1 h2 hf.1 hf.2)⟩
    · rintro ⟨⟨j,y,hy,h1,h2⟩,hf⟩
      refine ⟨j,y,(hm j y).2 ⟨hy,?_⟩,h1,h2⟩
      rintro ⟨rfl,rfl⟩
      exact hf ⟨h1,h2⟩
theorem OkZ.insert (h:OkZ z) {k:Nat} {f:Int} (hk:k≤4) (hi:inside z f k=true) (hf:∀ g,f≤g→g<f+2 ^ k → ¬ cov z g) (hj:k<4→zLm z f k=false):OkZ (zRo z f k)∧(∀ g,cov (zRo z f k) g↔cov z g∨(f≤g∧g<f+2 ^ k))∧zIT (zRo z f k) z:=by
  have hsame:zIT (zRo z f k) z:=zN4 z k (zRp (lst z k) f)
  have hp:=zJv k
  have hb:=h.bds hi
  have hn:f ∉ lst z k:=fun hm=>hf f (Int.le_refl _) (by omega) ⟨k,f,hm,Int.le_refl _,by omega⟩
  have hls:∀ j,lst (zRo z f k) j=if j=k then zRp (lst z k) f else lst z j:=fun j=>zO5 h.len (by omega)
  have hm:∀ j y,y∈lst (zRo z f k) j↔y∈lst z j∨(j=k∧y=f):=by
    intro j y
    rw [hls]
    by_cases hjk:j=k
    · subst hjk
      rw [if_pos rfl,zP0]
      simp
      exact Or.comm
    · rw [if_neg hjk]
      simp [hjk]
  refine ⟨⟨by rw [← h.ranges]; exact hsame.ranges,by simpa [zRo,zRm] using h.len,?_,?_,?_,?_⟩,?_,hsame⟩
  · intro j
    rw [hls]
    split
    · exact zPy (h.srt k) hn
    · exact h.srt j
  · intro j y hy
    rw [hsame.inside]
    rcases (hm j y).1 hy with hy | ⟨rfl,rfl⟩
    · exact h.ins j y hy
    · exact hi
  · intro j y i u g hy hu h1 h2 h3 h4
    rcases (hm j y).1 hy with hy' | ⟨e1,e2⟩
    · rcases (hm i u).1 hu with hu' | ⟨e3,e4⟩
      · exact h.dis j y i u g hy' hu' h1 h2 h3 h4
      · rw [e4] at h3 h4
        rw [e3] at h4
        exact absurd ⟨j,y,hy',h1,h2⟩ (hf g h3 h4)
    · rw [e2] at h1 h2
      rw [e1] at h2
      rcases (hm i u).1 hu with hu' | ⟨e3,e4⟩
      · exact absurd ⟨i,u,hu',h3,h4⟩ (hf g h1 h2)
      · exact ⟨e1.trans e3.symm,e2.trans e4.symm⟩
  · intro j y hj4 hy hbu
    rw [hsame.inside]
    have hno:∀ y,y∈lst z k→bud y k=f→k<4→inside z (min y (bud y k)) (k+1)=false:=by
      intro y hy he h4
      have hy0:=(h.bds (h.ins k y hy)).1
      have e2:bud f k=y:=by rw [← he,zT1 k hy0]
      have:=hj h4
      unfold zLm at this
      rw [e2] at this
      rw [he,Int.min_comm]
      simpa [hy] using this
    rcases (hm j y).1 hy with hy' | ⟨rfl,rfl⟩
    · rcases (hm j _).1 hbu with hbu' | ⟨e1,hbu'⟩
      · exact h.can j y hj4 hy' hbu'
      · rw [e1] at hy' hbu' hj4 ⊢
        exact hno y hy' hbu' hj4
    · rcases (hm j _).1 hbu with hbu | ⟨_,hbu⟩
      · have:=hj hj4
        unfold zLm at this
        simpa [hbu] using this
      · exfalso
        rcases zMt hj4 hb.1 (by omega) hb.2.2.2.2 with ⟨_,e⟩ | ⟨_,e⟩ <;> omega
  · intro g
    constructor
    · rintro ⟨j,y,hy,h1,h2⟩
      rcases (hm j y).1 hy with hy | ⟨rfl,rfl⟩
      · exact .inl ⟨j,y,hy,h1,h2⟩
      · exact .inr ⟨h1,h2⟩
    · rintro (⟨j,y,hy,h1,h2⟩ | ⟨h1,h2⟩)
      · exact ⟨j,y,(hm j y).2 (.inl hy),h1,h2⟩
      · exact ⟨k,f,(hm k f).2 (.inr ⟨rfl,rfl⟩),h1,h2⟩
theorem OkZ.put:∀ (n:Nat) {z:zp} {f:Int} {k:Nat},n+k=4→OkZ z→inside z f k=true→(∀ g,f≤g→g<f+2 ^ k → ¬ cov z g) →
    OkZ (zMk n z f k)∧(∀ g,cov (zMk n z f k) g↔cov z g∨(f≤g∧g<f+2 ^ k))∧zIT (zMk n z f k) z
  | 0,z,f,k,hn,h,hi,hf=>h.insert (by omega) hi hf (fun h4=>by omega)
  | n+1,z,f,k,hn,h,hi,hf=>by
    unfold zMk
    by_cases hj:zLm z f k=true
    · rw [if_pos hj]
      unfold zLm at hj
      simp only [Bool.and_eq_true,decide_eq_true_eq] at hj
      obtain ⟨hb,hi2⟩:=hj
      obtain ⟨d1,d2,d3⟩:=h.del hb
      have hbd:=h.bds hi
      have hbb:=h.bds (h.ins k _ hb)
      have hp:=zJv k
      have hps:=zNc k
      have hcase:=zMt (k:=k) (by omega) hbd.1 (by omega) hbd.2.2.2.2
      obtain ⟨r1,r2,r3⟩:=OkZ.put n (k:=k+1) (by omega) d1 (by rw [d3.inside]; exact hi2) (fun g g1 g2 hc=>by
        have hc':=(d2 g).1 hc
        by_cases hin:f≤g∧g<f+2 ^ k
        · exact hf g hin.1 hin.2 hc'.1
        · apply hc'.2
          rcases hcase with ⟨_,e⟩ | ⟨_,e⟩
          · rw [e] at g1 g2 ⊢
            omega
          · rw [e] at g1 g2 ⊢
            omega)
      refine ⟨r1,fun g => ?_,r3.trans d3⟩
      rw [r2 g,d2 g]
      have hcb:(bud f k≤g∧g<bud f k+2 ^ k)→cov z g:=fun hg=>⟨k,_,hb,hg.1,hg.2⟩
      rcases hcase with ⟨_,e⟩ | ⟨_,e⟩
      · rw [e] at hcb ⊢
        constructor
        · rintro (⟨h1,_⟩ | h1)
          · exact .inl h1
          · by_cases hin:f≤g∧g<f+2 ^ k
            · exact .inr hin
            · exact .inl (hcb (by omega))
        · rintro (h1 | h1)
          · by_cases hin:f+2 ^ k≤g∧g<f+2 ^ k+2 ^ k
            · exact .inr (by omega)
            · exact .inl ⟨h1,hin⟩
          · exact .inr (by omega)
      · rw [e] at hcb ⊢
        constructor
        · rintro (⟨h1,_⟩ | h1)
          · exact .inl h1
          · by_cases hin:f≤g∧g<f+2 ^ k
            · exact .inr hin
            · exact .inl (hcb (by omega))
        · rintro (h1 | h1)
          · by_cases hin:f - 2 ^ k≤g∧g<f - 2 ^ k+2 ^ k
            · exact .inr (by omega)
            · exact .inl ⟨h1,hin⟩
          · exact .inr (by omega)
    · rw [if_neg hj]
      exact h.insert (by omega) hi hf (fun _=>by simpa using hj)
theorem OkZ.putI (h:OkZ z):zQO z:=by
  have hl:∀ (k:Nat) (l:List Int),z.free[k]?=some l→l=lst z k:=fun k l hl=>by
    have hk:k<5:=by have:=(List.getElem?_eq_some_iff.1 hl).1; rw [h.len] at this; exact this
    rw [zJI h.len hk] at hl
    cases hl
    rfl
  refine ⟨h.ranges,h.len,fun k l hkl => ?_,fun k l hkl x hx => ?_⟩
  · rw [hl k l hkl]; exact h.srt k
  · rw [hl k l hkl] at hx
    have:=h.bds (h.ins k x hx)
    have:=zJv k
    omega
end
theorem zOl {z:zp} (hf:z.free=[[],[],[],[],[]]) (k:Nat):lst z k=[]:=by
  unfold lst
  rw [hf]
  match k with
  | 0=>rfl
  | 1=>rfl
  | 2=>rfl
  | 3=>rfl
  | 4=>rfl
  | k+5=>rfl
theorem zQZ {z:zp} (hr:ranges z=true) (hf:z.free=[[],[],[],[],[]]):OkZ z ∧ ∀ g,¬ cov z g:=by
  have hl:=zOl hf
  refine ⟨⟨hr,by rw [hf]; rfl,fun k=>by rw [hl]; exact Srt.nil,(fun k x hx=>by rw [hl] at hx; cases hx),(fun k x j y f hx=>by rw [hl] at hx; cases hx),(fun k x _ hx=>by rw [hl] at hx; cases hx)⟩,?_⟩
  rintro g ⟨k,x,hx,_⟩
  rw [hl] at hx
  cases hx
end Go.Proofs.YtplkliakhdkpcaaGreat
