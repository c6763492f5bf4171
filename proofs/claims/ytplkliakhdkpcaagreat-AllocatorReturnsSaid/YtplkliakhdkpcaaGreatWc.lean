/-
  The program computes what these functions give, part c.
-/
import Derived.Test.YtplkliakhdkpcaaGreatWb
set_option linter.unusedVariables false
set_option linter.unusedSimpArgs false
namespace Go.Proofs.YtplkliakhdkpcaaGreat
open Go Go.RowKit Go.Wk Go.Am Go.Proofs Tryz
set_option maxHeartbeats 4000000
theorem zMy {a_a:zo} {a_b:zo} {r:Bool} (h:zI1 a_a a_b=some r):PFn prog 62 [(AV.agg (zO a_a)),(AV.agg (zO a_b))] (AV.lit (.bool r)):=by
 refine zq func62 rfl ntmps62 results62 rfl ?_
 unfold zI1 at h
 refine zH<|zC<|za (H':=[.box 51 (zO a_a)]) (zw (t:=51) rfl)<|za (H':=[.box 51 (zO a_a),.box 51 (zO a_b)]) (zw (t:=51) rfl)<|zA (zD rfl)<|zF ?_
 refine zH<|zH<|zC<|zA (zK underlying51 rfl rfl sizeOf3 rfl)<|zA (zN isAgg3 rfl rfl rfl rfl)<|zA (zK underlying51 rfl rfl sizeOf3 rfl) ?_
 refine zA (zN isAgg3 rfl rfl rfl rfl)<|zA (z7 rfl rfl)<|zA (zB rfl)<|zT rfl rfl (fun hc1=>zt.step (zK underlying51 rfl rfl sizeOf3 rfl))<|zT rfl rfl (fun hc2=>zt.step (zN isAgg3 (z5 rfl hc2) rfl rfl rfl))<|zT rfl rfl (fun hc3=>zt.step (zK underlying51 rfl rfl sizeOf3 rfl)) ?_
 refine zT rfl rfl (fun hc4=>zt.step (zN isAgg3 (z5 rfl hc4) rfl rfl rfl))<|zT rfl rfl (fun hc5=>zt.step (z7 (z5 rfl hc5) (z5 rfl hc5)))<|zA (zb rfl rfl)<|zA (zB rfl)<|zT rfl rfl (fun hc6=>zt.step (zK underlying51 rfl rfl sizeOf3 rfl))<|zT rfl rfl (fun hc7=>zt.step (zN isAgg3 (z5 rfl hc7) rfl rfl rfl)) ?_
 refine zT rfl rfl (fun hc8=>zt.step (zK underlying51 rfl rfl sizeOf3 rfl))<|zT rfl rfl (fun hc9=>zt.step (zN isAgg3 (z5 rfl hc9) rfl rfl rfl))<|zT rfl rfl (fun hc10=>zt.step (z7 (z5 rfl hc10) (z5 rfl hc10)))<|zA (zb rfl rfl)<|zA (zB rfl)<|zT rfl rfl (fun hc11=>zt.step (zK underlying51 rfl rfl sizeOf3 rfl)) ?_
 refine zT rfl rfl (fun hc12=>zt.step (zN isAgg3 (z5 rfl hc12) rfl rfl rfl))<|zT rfl rfl (fun hc13=>zt.step (zK underlying51 rfl rfl sizeOf3 rfl))<|zT rfl rfl (fun hc14=>zt.step (zN isAgg3 (z5 rfl hc14) rfl rfl rfl))<|zT rfl rfl (fun hc15=>zt.step (z7 (z5 rfl hc15) (z5 rfl hc15)))<|zA (zb rfl rfl)<|zA (zB rfl) ?_
 refine zT rfl rfl (fun hc16=>zt.step (zK underlying51 rfl rfl sizeOf3 rfl))<|zT rfl rfl (fun hc17=>zt.step (zN isAgg3 (z5 rfl hc17) rfl rfl rfl))<|zT rfl rfl (fun hc18=>zt.step (zK underlying51 rfl rfl sizeOf3 rfl))<|zT rfl rfl (fun hc19=>zt.step (zN isAgg3 (z5 rfl hc19) rfl rfl rfl))<|zT rfl rfl (fun hc20=>zt.step (z7 (z5 rfl hc20) (z5 rfl hc20)))<|zA (zb rfl rfl) ?_
 refine zF ?_
 refine zY h rfl (fun hb1 h => ?_) (fun hb1 h => ?_)
 ·refine zH<|zC<|zA (zD rfl)<|zF<|zd ?_
  show zAP _ _ _ _ _ _
  obtain rfl:=Option.some.inj h
  exact zv (zAO rfl rfl)
 ·refine zP ?_
  refine zx (fun e' H'=>Rep 53 0 e' H' (mkE []) []∧zI5  = some r) ?_ ?_
  ·
   refine zH<|zC<|zA (zD rfl)<|zF<|zQ<|z6 (σ:=Nat×Int) (fun s=>s.1) (fun s e' H'=>match s with | (n0,i1)=>Rep 53 0 e' H' (mkE [(2,(AV.ptr 0 0)),(3,(AV.ptr 1 0)),(5,(li i1))]) [.box 51 (zO a_a),.box 51 (zO a_b)]∧zGf a_a a_b n0 i1=some r) (z9,0) ⟨zAD [0,1] rfl rfl (by kernel_rfl),h⟩ ?_
   clear h
   rintro ⟨n0,i1⟩ e' H' ⟨hrep,h⟩
   cases n0 with
   | zero=>exact absurd (show (none:Option _)=some r from h) (by simp)
   | succ n0 =>
    replace h:zEE a_a a_b (zGf a_a a_b n0) i1=some r:=h
    unfold zEE at h
    refine zV hrep ?_
    clear hrep
    refine zH<|zH<|zC<|zA (zB rfl)<|zA (zC0 rfl rfl)<|zF ?_
    refine zY h rfl (fun hb2 h => ?_) (fun hb2 h => ?_)
    ·refine zP<|zH<|zQ<|zH<|zM h fun hb3 h=>zR h fun x1 hx1 h => ?_
     show AW _ _ _ _ _ _ [.box 51 (zO a_a),.box 51 (zO a_b)]
     refine zA2 (n:=53) (m:=0) [.head 0 0,.head 0 0,.head 0 0,.head 0 0,.head 0 0,.head 0 0,.head 0 0,.head 0 0,.head 0 0,.head 0 0] [] [li i1,AV.ptr 0 5,(AV.ptr 0 (5+i1.toNat*1)),(ls cI (a_a.free.getD i1.toNat ([]:List Int))),li i1,AV.ptr 1 5,(AV.ptr 1 (5+i1.toNat*1)),(ls cI (a_b.free.getD i1.toNat ([]:List Int))),(AV.lit (.bool x1)),(AV.lit (.bool (!x1)))] [[.box 51 (zO a_a),.box 51 (zO a_b)]] (by kernel_rfl) (by kernel_rfl) ⟨?_,?_,?_,?_,?_,?_,?_,?_,?_,?_,trivial⟩ ?_
     ·exact D1 fun e s p=>zB (s 5 rfl)
     ·exact D1 fun e s p=>zK (k:=0) (o:=0) (off:=5) underlying51 rfl rfl sizeOf49 (s 2 rfl)
     ·exact D1 fun e s p=>zAN (m:=5) (s:=1) (i:=i1) (k:=0) (o:=5) underlying49 sizeOf22 p.1 p.2.1 hb3
     ·exact D1 fun e s p=>zAp (k:=0) (o:=(5+i1.toNat*1)) (cs:=(zO a_a)) (hd:=([li a_a.node]++[li a_a.kind]++[li a_a.start]++[li a_a.count]++[li a_a.min]++[])) (tl:=([])) (g:=(eS cI)) (d0:=([]:List Int)) (l:=a_a.free) (N:=5) (i:=i1.toNat) (a:=(ls cI (a_a.free.getD i1.toNat ([]:List Int)))) isAgg22 p.1 rfl rfl (congrArg (fun q=>5+q) (Nat.mul_one _)) (zBT hb3).2 rfl rfl
     ·exact D1 fun e s p=>zB (s 5 rfl)
     ·exact D1 fun e s p=>zK (k:=1) (o:=0) (off:=5) underlying51 rfl rfl sizeOf49 (s 3 rfl)
     ·exact D1 fun e s p=>zAN (m:=5) (s:=1) (i:=i1) (k:=1) (o:=5) underlying49 sizeOf22 p.1 p.2.1 hb3
     ·exact D1 fun e s p=>zAp (k:=1) (o:=(5+i1.toNat*1)) (cs:=(zO a_b)) (hd:=([li a_b.node]++[li a_b.kind]++[li a_b.start]++[li a_b.count]++[li a_b.min]++[])) (tl:=([])) (g:=(eS cI)) (d0:=([]:List Int)) (l:=a_b.free) (N:=5) (i:=i1.toNat) (a:=(ls cI (a_b.free.getD i1.toNat ([]:List Int)))) isAgg22 p.1 rfl rfl (congrArg (fun q=>5+q) (Nat.mul_one _)) (zBT hb3).2 rfl rfl
     ·
      intro e9 hs9 hp9
      refine zh (r:=(AV.lit (.bool x1))) (la:=[(ls cI (a_a.free.getD i1.toNat ([]:List Int))),(ls cI (a_b.free.getD i1.toNat ([]:List Int)))]) func117 rfl (by kernel_rfl) (.fn 117) (zAJ hp9.1 (zAJ hp9.2.1 rfl)) rfl (zLL hx1) rfl ?_
      exact zF ⟨fun _=>rfl,rfl⟩
     ·exact D1 fun e s p=>zA4 (t:=x1) p.1
     intro e11 hs11 hq1
     refine zV (zBa (l:=[(2,(AV.ptr 0 0)),(3,(AV.ptr 1 0)),(5,(li i1)),(52,(AV.lit (.bool (!x1))))]) ⟨hs11 2 rfl,hs11 3 rfl,hs11 5 rfl,(hq1 9 (by decide) (by decide)),trivial⟩) ?_
     refine zY h rfl (fun hb4 h => ?_) (fun hb4 h => ?_)
     ·refine zH<|zC<|zA (zD rfl)<|zF<|zd ?_
      show zAP _ _ _ _ _ _
      obtain rfl:=Option.some.inj h
      exact zv (zAO rfl rfl)
     ·refine zP<|zC<|zA (zB rfl)<|zM h fun hb5 h=>zA (ze rfl rfl hb5)<|zA (zD rfl) ?_
      refine zF ?_
      exact ⟨(n0,(i1+1)),Nat.lt_succ_self _,zAD [0,1] rfl rfl (by kernel_rfl),h⟩
    ·refine zy ?_
     exact ⟨zAD [] rfl rfl (by kernel_rfl),h⟩
  ·
   clear h
   rintro e' H' ⟨hrep,h⟩
   refine zV hrep ?_
   clear hrep
   unfold zI5 at h
   refine zH<|zC<|zA (zD rfl)<|zF<|zd ?_
   show zAP _ _ _ _ _ _
   obtain rfl:=Option.some.inj h
   exact zv (zAO rfl rfl)
theorem zNF {a_a:zL} {a_b:zL} {r:Bool} (h:zIs a_a a_b=some r):PFn prog 63 [(AV.agg (zI a_a)),(AV.agg (zI a_b))] (AV.lit (.bool r)):=by
 refine zq func63 rfl ntmps63 results63 rfl ?_
 unfold zIs at h
 refine zH<|zC<|za (H':=[.box 55 (zI a_a)]) (zw (t:=55) rfl)<|za (H':=[.box 55 (zI a_a),.box 55 (zI a_b)]) (zw (t:=55) rfl)<|zA (zD rfl)<|zF ?_
 refine zH<|zH<|zC<|zA (zK underlying55 rfl rfl sizeOf53 rfl)<|zA (zN isAgg53 rfl rfl rfl rfl)<|zA (zZ underlying53 rfl) ?_
 refine zA (zK underlying55 rfl rfl sizeOf53 rfl)<|zA (zN isAgg53 rfl rfl rfl rfl)<|zA (zZ underlying53 rfl)<|zA (z7 rfl rfl)<|zF ?_
 refine zY h rfl (fun hb1 h => ?_) (fun hb1 h => ?_)
 ·refine zH<|zC<|zA (zD rfl)<|zF<|zd ?_
  show zAP _ _ _ _ _ _
  obtain rfl:=Option.some.inj h
  exact zv (zAO rfl rfl)
 ·refine zP ?_
  refine zx (fun e' H'=>Rep 32 0 e' H' (mkE []) []∧zJJ  = some r) ?_ ?_
  ·
   refine zH<|zC<|zA (zK underlying55 rfl rfl sizeOf53 rfl)<|zA (zN isAgg53 rfl rfl rfl rfl)<|zA (zZ underlying53 rfl)<|zA (zB rfl) ?_
   refine zF<|zQ<|z6 (σ:=Nat×Int) (fun s=>s.1) (fun s e' H'=>match s with | (n0,i1)=>Rep 32 0 e' H' (mkE [(2,(AV.ptr 0 0)),(3,(AV.ptr 1 0)),(15,(li (a_a.lists.length:Int))),(16,(li i1))]) [.box 55 (zI a_a),.box 55 (zI a_b)]∧zF9 a_a a_b n0 i1=some r) (z9,0) ⟨zAD [0,1] rfl rfl (by kernel_rfl),h⟩ ?_
   clear h
   rintro ⟨n0,i1⟩ e' H' ⟨hrep,h⟩
   cases n0 with
   | zero=>exact absurd (show (none:Option _)=some r from h) (by simp)
   | succ n0 =>
    replace h:zD3 a_a a_b (zF9 a_a a_b n0) i1=some r:=h
    unfold zD3 at h
    refine zV hrep ?_
    clear hrep
    refine zH<|zC<|zA (zg rfl rfl)<|zF<|zH ?_
    refine zY h rfl (fun hb2 h => ?_) (fun hb2 h => ?_)
    ·refine zP<|zH<|zQ<|zH<|zC<|zA (zB rfl) ?_
     refine zA (zD rfl)<|zF<|zH<|zM h fun hb3 h=>zM h fun hb4 h=>zR h fun x1 hx1 h => ?_
     show AW _ _ _ _ _ _ [.box 55 (zI a_a),.box 55 (zI a_b)]
     refine zA2 (n:=32) (m:=0) [.head 0 0,.head 0 0,.head 0 0,.head 0 0,.head 0 0,.head 0 0,.head 0 0,.head 0 0,.head 0 0,.head 0 0,.head 0 0,.head 0 0] [] [AV.ptr 0 0,(ls (cS cI) a_a.lists),li i1,(AV.rp ((cS cI) (at_ a_a.lists i1)) 0),(ls cI (at_ a_a.lists i1)),AV.ptr 1 0,(ls (cS cI) a_b.lists),li i1,(AV.rp ((cS cI) (at_ a_b.lists i1)) 0),(ls cI (at_ a_b.lists i1)),(AV.lit (.bool x1)),(AV.lit (.bool (!x1)))] [[.box 55 (zI a_a),.box 55 (zI a_b)]] (by kernel_rfl) (by kernel_rfl) ⟨?_,?_,?_,?_,?_,?_,?_,?_,?_,?_,?_,?_,trivial⟩ ?_
     ·exact D1 fun e s p=>zK (k:=0) (o:=0) (off:=0) underlying55 rfl rfl sizeOf53 (s 2 rfl)
     ·exact D1 fun e s p=>zN (k:=0) (o:=0) isAgg53 p.1 rfl rfl rfl
     ·exact D1 fun e s p=>zB (s 5 rfl)
     ·exact D1 fun e s p=>zU (f:=(cS cI)) (l:=a_a.lists) (i:=i1) underlying53 sizeOf22 (fun _=>rfl) p.1 p.2.1 hb3
     ·exact D1 fun e s p=>zW (o:=0) isAgg22 p.1 rfl
     ·exact D1 fun e s p=>zK (k:=1) (o:=0) (off:=0) underlying55 rfl rfl sizeOf53 (s 3 rfl)
     ·exact D1 fun e s p=>zN (k:=1) (o:=0) isAgg53 p.1 rfl rfl rfl
     ·exact D1 fun e s p=>zB (s 5 rfl)
     ·exact D1 fun e s p=>zU (f:=(cS cI)) (l:=a_b.lists) (i:=i1) underlying53 sizeOf22 (fun _=>rfl) p.1 p.2.1 hb4
     ·exact D1 fun e s p=>zW (o:=0) isAgg22 p.1 rfl
     ·
      intro e11 hs11 hp11
      refine zh (r:=(AV.lit (.bool x1))) (la:=[(ls cI (at_ a_a.lists i1)),(ls cI (at_ a_b.lists i1))]) func61 rfl (by kernel_rfl) (.fn 61) (zAJ hp11.1 (zAJ hp11.2.1 rfl)) rfl (zI0 hx1) rfl ?_
      exact zF ⟨fun _=>rfl,rfl⟩
     ·exact D1 fun e s p=>zA4 (t:=x1) p.1
     intro e13 hs13 hq1
     refine zV (zBa (l:=[(2,(AV.ptr 0 0)),(3,(AV.ptr 1 0)),(15,(li (a_a.lists.length:Int))),(16,(li i1)),(30,(AV.lit (.bool (!x1))))]) ⟨hs13 2 rfl,hs13 3 rfl,hs13 15 rfl,hs13 16 rfl,(hq1 11 (by decide) (by decide)),trivial⟩) ?_
     refine zY h rfl (fun hb5 h => ?_) (fun hb5 h => ?_)
     ·refine zH<|zC<|zA (zD rfl)<|zF<|zd ?_
      show zAP _ _ _ _ _ _
      obtain rfl:=Option.some.inj h
      exact zv (zAO rfl rfl)
     ·refine zP<|zC<|zM h fun hb6 h=>zA (ze rfl rfl hb6)<|zA (zB rfl)<|zF ?_
      exact ⟨(n0,(i1+1)),Nat.lt_succ_self _,zAD [0,1] rfl rfl (by kernel_rfl),h⟩
    ·refine zy ?_
     exact ⟨zAD [] rfl rfl (by kernel_rfl),h⟩
  ·
   clear h
   rintro e' H' ⟨hrep,h⟩
   refine zV hrep ?_
   clear hrep
   unfold zJJ at h
   refine zH<|zC<|zA (zD rfl)<|zF<|zd ?_
   show zAP _ _ _ _ _ _
   obtain rfl:=Option.some.inj h
   exact zv (zAO rfl rfl)
theorem zKy {a_p0:zJ} {a_p1:zJ} {r:Bool} (h:zHy a_p0 a_p1=some r):PFn prog 25 [(AV.agg (zG a_p0)),(AV.agg (zG a_p1))] (AV.lit (.bool r)):=by
 refine zq func25 rfl ntmps25 results25 rfl ?_
 unfold zHy at h
 refine zH<|zC<|za (H':=[.box 26 (zG a_p0)]) (zw (t:=26) rfl)<|za (H':=[.box 26 (zG a_p0),.box 26 (zG a_p1)]) (zw (t:=26) rfl)<|zA (zD rfl)<|zF ?_
 refine zH<|zH<|zC<|zA (zK underlying26 rfl rfl sizeOf22 rfl)<|zA (zN isAgg22 rfl rfl rfl rfl)<|zA (zK underlying26 rfl rfl sizeOf22 rfl) ?_
 refine zA (zN isAgg22 rfl rfl rfl rfl)<|zR h fun x1 hx1 h=>zh func61 rfl (by kernel_rfl) (.fn 61) rfl rfl (zI0 hx1) rfl<|zA (zA4 (t:=x1) rfl)<|zA (zB rfl)<|zT rfl rfl (fun hc1=>zt.step (zK underlying26 rfl rfl sizeOf3 rfl)) ?_
 refine zT rfl rfl (fun hc2=>zt.step (zN isAgg3 (z5 rfl hc2) rfl rfl rfl))<|zT rfl rfl (fun hc3=>zt.step (zK underlying26 rfl rfl sizeOf3 rfl))<|zT rfl rfl (fun hc4=>zt.step (zN isAgg3 (z5 rfl hc4) rfl rfl rfl))<|zT rfl rfl (fun hc5=>zt.step (z7 (z5 rfl hc5) (z5 rfl hc5)))<|zA (zb rfl rfl)<|zA (zB rfl) ?_
 refine zT rfl rfl (fun hc6=>zt.step (zK underlying26 rfl rfl sizeOf3 rfl))<|zT rfl rfl (fun hc7=>zt.step (zN isAgg3 (z5 rfl hc7) rfl rfl rfl))<|zT rfl rfl (fun hc8=>zt.step (zK underlying26 rfl rfl sizeOf3 rfl))<|zT rfl rfl (fun hc9=>zt.step (zN isAgg3 (z5 rfl hc9) rfl rfl rfl))<|zT rfl rfl (fun hc10=>zt.step (z7 (z5 rfl hc10) (z5 rfl hc10)))<|zA (zb rfl rfl) ?_
 refine zA (zB rfl)<|zT rfl rfl (fun hc11=>zt.step (zK underlying26 rfl rfl sizeOf23 rfl))<|zT rfl rfl (fun hc12=>zt.step (zN isAgg23 (z5 rfl hc12) rfl rfl rfl))<|zT rfl rfl (fun hc13=>zt.step (zZ underlying23 (z5 rfl hc13)))<|zT rfl rfl (fun hc14=>zt.step (zK underlying26 rfl rfl sizeOf23 rfl))<|zT rfl rfl (fun hc15=>zt.step (zN isAgg23 (z5 rfl hc15) rfl rfl rfl)) ?_
 refine zT rfl rfl (fun hc16=>zt.step (zZ underlying23 (z5 rfl hc16)))<|zT rfl rfl (fun hc17=>zt.step (z7 (z5 rfl hc17) (z5 rfl hc17)))<|zA (zb rfl rfl)<|zA (zB rfl)<|zT rfl rfl (fun hc18=>zt.step (zK underlying26 rfl rfl sizeOf24 rfl))<|zT rfl rfl (fun hc19=>zt.step (zN isAgg24 (z5 rfl hc19) rfl rfl rfl)) ?_
 refine zT rfl rfl (fun hc20=>zt.step (zZ underlying24 (z5 rfl hc20)))<|zT rfl rfl (fun hc21=>zt.step (zK underlying26 rfl rfl sizeOf24 rfl))<|zT rfl rfl (fun hc22=>zt.step (zN isAgg24 (z5 rfl hc22) rfl rfl rfl))<|zT rfl rfl (fun hc23=>zt.step (zZ underlying24 (z5 rfl hc23)))<|zT rfl rfl (fun hc24=>zt.step (z7 (z5 rfl hc24) (z5 rfl hc24)))<|zA (zb rfl rfl) ?_
 refine zF ?_
 refine zY h rfl (fun hb1 h => ?_) (fun hb1 h => ?_)
 ·refine zH<|zC<|zA (zD rfl)<|zF<|zd ?_
  show zAP _ _ _ _ _ _
  obtain rfl:=Option.some.inj h
  exact zv (zAO rfl rfl)
 ·refine zP ?_
  refine zx (fun e' H'=>Rep 83 0 e' H' (mkE [(2,(AV.ptr 0 0)),(3,(AV.ptr 1 0))]) [.box 26 (zG a_p0),.box 26 (zG a_p1)]∧zJB a_p0 a_p1=some r) ?_ ?_
  ·
   refine zH<|zC<|zA (zD rfl)<|zF<|zQ<|z6 (σ:=Nat×Int) (fun s=>s.1) (fun s e' H'=>match s with | (n1,i2)=>Rep 83 0 e' H' (mkE [(2,(AV.ptr 0 0)),(3,(AV.ptr 1 0)),(5,(li i2))]) [.box 26 (zG a_p0),.box 26 (zG a_p1)]∧zGg a_p0 a_p1 n1 i2=some r) (z9,0) ⟨zAD [0,1] rfl rfl (by kernel_rfl),h⟩ ?_
   clear h
   rintro ⟨n1,i2⟩ e' H' ⟨hrep,h⟩
   cases n1 with
   | zero=>exact absurd (show (none:Option _)=some r from h) (by simp)
   | succ n1 =>
    replace h:zD9 a_p0 a_p1 (zGg a_p0 a_p1 n1) i2=some r:=h
    unfold zD9 at h
    refine zV hrep ?_
    clear hrep
    refine zH<|zH<|zC<|zA (zB rfl)<|zA (zK underlying26 rfl rfl sizeOf23 rfl)<|zA (zN isAgg23 rfl rfl rfl rfl) ?_
    refine zA (zZ underlying23 rfl)<|zA (zg rfl rfl)<|zF ?_
    refine zY h rfl (fun hb7 h => ?_) (fun hb7 h => ?_)
    ·refine zP<|zH<|zQ<|zH<|zM h fun hb8 h=>zM h fun hb9 h => ?_
     refine zR h fun x3 hx3 h => ?_
     show AW _ _ _ _ _ _ [.box 26 (zG a_p0),.box 26 (zG a_p1)]
     refine zA2 (n:=83) (m:=0) [.head 0 0,.head 0 0,.head 0 0,.head 0 0,.head 0 0,.head 0 0,.head 0 0,.head 0 0,.head 0 0,.head 0 0,.head 0 0,.head 0 0] [] [AV.ptr 0 3,ls zO a_p0.zones,li i2,(AV.rp (zO (at_ a_p0.zones i2)) 0),(AV.agg (zO (at_ a_p0.zones i2))),AV.ptr 1 3,ls zO a_p1.zones,li i2,(AV.rp (zO (at_ a_p1.zones i2)) 0),(AV.agg (zO (at_ a_p1.zones i2))),(AV.lit (.bool x3)),(AV.lit (.bool (!x3)))] [[.box 26 (zG a_p0),.box 26 (zG a_p1)]] (by kernel_rfl) (by kernel_rfl) ⟨?_,?_,?_,?_,?_,?_,?_,?_,?_,?_,?_,?_,trivial⟩ ?_
     ·exact D1 fun e s p=>zK (k:=0) (o:=0) (off:=3) underlying26 rfl rfl sizeOf23 (s 2 rfl)
     ·exact D1 fun e s p=>zN (k:=0) (o:=3) isAgg23 p.1 rfl rfl rfl
     ·exact D1 fun e s p=>zB (s 5 rfl)
     ·exact D1 fun e s p=>zU (f:=zO) (l:=a_p0.zones) (i:=i2) underlying23 sizeOf51 (fun _=>rfl) p.1 p.2.1 hb8
     ·exact D1 fun e s p=>zAX (row:=(zO (at_ a_p0.zones i2))) (o:=0) (m:=10) (la:=(zO (at_ a_p0.zones i2))) isAgg51 sizeOf51 p.1 rfl rfl
     ·exact D1 fun e s p=>zK (k:=1) (o:=0) (off:=3) underlying26 rfl rfl sizeOf23 (s 3 rfl)
     ·exact D1 fun e s p=>zN (k:=1) (o:=3) isAgg23 p.1 rfl rfl rfl
     ·exact D1 fun e s p=>zB (s 5 rfl)
     ·exact D1 fun e s p=>zU (f:=zO) (l:=a_p1.zones) (i:=i2) underlying23 sizeOf51 (fun _=>rfl) p.1 p.2.1 hb9
     ·exact D1 fun e s p=>zAX (row:=(zO (at_ a_p1.zones i2))) (o:=0) (m:=10) (la:=(zO (at_ a_p1.zones i2))) isAgg51 sizeOf51 p.1 rfl rfl
     ·
      intro e24 hs24 hp23
      refine zh (r:=(AV.lit (.bool x3))) (la:=[(AV.agg (zO (at_ a_p0.zones i2))),(AV.agg (zO (at_ a_p1.zones i2)))]) func62 rfl (by kernel_rfl) (.fn 62) (zAJ hp23.1 (zAJ hp23.2.1 rfl)) rfl (zMy hx3) rfl ?_
      exact zF ⟨fun _=>rfl,rfl⟩
     ·exact D1 fun e s p=>zA4 (t:=x3) p.1
     intro e26 hs26 hq2
     refine zV (zBa (l:=[(2,(AV.ptr 0 0)),(3,(AV.ptr 1 0)),(5,(li i2)),(63,(AV.lit (.bool (!x3))))]) ⟨hs26 2 rfl,hs26 3 rfl,hs26 5 rfl,(hq2 11 (by decide) (by decide)),trivial⟩) ?_
     refine zY h rfl (fun hb10 h => ?_) (fun hb10 h => ?_)
     ·refine zH<|zC<|zA (zD rfl)<|zF<|zd ?_
      show zAP _ _ _ _ _ _
      obtain rfl:=Option.some.inj h
      exact zv (zAO rfl rfl)
     ·refine zP<|zC<|zA (zB rfl)<|zM h fun hb11 h=>zA (ze rfl rfl hb11)<|zA (zD rfl) ?_
      refine zF ?_
      exact ⟨(n1,(i2+1)),Nat.lt_succ_self _,zAD [0,1] rfl rfl (by kernel_rfl),h⟩
    ·refine zy ?_
     exact ⟨zAD [0,1] rfl rfl (by kernel_rfl),h⟩
  ·
   clear h
   rintro e' H' ⟨hrep,h⟩
   refine zV hrep ?_
   clear hrep
   unfold zJB at h
   refine zx (fun e' H'=>Rep 83 0 e' H' (mkE []) []∧zJK  = some r) ?_ ?_
   ·
    refine zH<|zC<|zA (zD rfl)<|zF<|zQ<|z6 (σ:=Nat×Int) (fun s=>s.1) (fun s e' H'=>match s with | (n0,i1)=>Rep 83 0 e' H' (mkE [(2,(AV.ptr 0 0)),(3,(AV.ptr 1 0)),(6,(li i1))]) [.box 26 (zG a_p0),.box 26 (zG a_p1)]∧zGZ a_p0 a_p1 n0 i1=some r) (z9,0) ⟨zAD [0,1] rfl rfl (by kernel_rfl),h⟩ ?_
    clear h
    rintro ⟨n0,i1⟩ e' H' ⟨hrep,h⟩
    cases n0 with
    | zero=>exact absurd (show (none:Option _)=some r from h) (by simp)
    | succ n0 =>
     replace h:zD8 a_p0 a_p1 (zGZ a_p0 a_p1 n0) i1=some r:=h
     unfold zD8 at h
     refine zV hrep ?_
     clear hrep
     refine zH<|zH<|zC<|zA (zB rfl)<|zA (zK underlying26 rfl rfl sizeOf24 rfl)<|zA (zN isAgg24 rfl rfl rfl rfl) ?_
     refine zA (zZ underlying24 rfl)<|zA (zg rfl rfl)<|zF ?_
     refine zY h rfl (fun hb2 h => ?_) (fun hb2 h => ?_)
     ·refine zP<|zH<|zQ<|zH<|zM h fun hb3 h=>zM h fun hb4 h => ?_
      refine zR h fun x2 hx2 h => ?_
      show AW _ _ _ _ _ _ [.box 26 (zG a_p0),.box 26 (zG a_p1)]
      refine zA2 (n:=83) (m:=0) [.head 0 0,.head 0 0,.head 0 0,.head 0 0,.head 0 0,.head 0 0,.head 0 0,.head 0 0,.head 0 0,.head 0 0,.head 0 0,.head 0 0] [] [AV.ptr 0 4,ls zI a_p0.caches,li i1,(AV.rp (zI (at_ a_p0.caches i1)) 0),(AV.agg (zI (at_ a_p0.caches i1))),AV.ptr 1 4,ls zI a_p1.caches,li i1,(AV.rp (zI (at_ a_p1.caches i1)) 0),(AV.agg (zI (at_ a_p1.caches i1))),(AV.lit (.bool x2)),(AV.lit (.bool (!x2)))] [[.box 26 (zG a_p0),.box 26 (zG a_p1)]] (by kernel_rfl) (by kernel_rfl) ⟨?_,?_,?_,?_,?_,?_,?_,?_,?_,?_,?_,?_,trivial⟩ ?_
      ·exact D1 fun e s p=>zK (k:=0) (o:=0) (off:=4) underlying26 rfl rfl sizeOf24 (s 2 rfl)
      ·exact D1 fun e s p=>zN (k:=0) (o:=4) isAgg24 p.1 rfl rfl rfl
      ·exact D1 fun e s p=>zB (s 6 rfl)
      ·exact D1 fun e s p=>zU (f:=zI) (l:=a_p0.caches) (i:=i1) underlying24 sizeOf55 (fun _=>rfl) p.1 p.2.1 hb3
      ·exact D1 fun e s p=>zAX (row:=(zI (at_ a_p0.caches i1))) (o:=0) (m:=1) (la:=(zI (at_ a_p0.caches i1))) isAgg55 sizeOf55 p.1 rfl rfl
      ·exact D1 fun e s p=>zK (k:=1) (o:=0) (off:=4) underlying26 rfl rfl sizeOf24 (s 3 rfl)
      ·exact D1 fun e s p=>zN (k:=1) (o:=4) isAgg24 p.1 rfl rfl rfl
      ·exact D1 fun e s p=>zB (s 6 rfl)
      ·exact D1 fun e s p=>zU (f:=zI) (l:=a_p1.caches) (i:=i1) underlying24 sizeOf55 (fun _=>rfl) p.1 p.2.1 hb4
      ·exact D1 fun e s p=>zAX (row:=(zI (at_ a_p1.caches i1))) (o:=0) (m:=1) (la:=(zI (at_ a_p1.caches i1))) isAgg55 sizeOf55 p.1 rfl rfl
      ·
       intro e11 hs11 hp11
       refine zh (r:=(AV.lit (.bool x2))) (la:=[(AV.agg (zI (at_ a_p0.caches i1))),(AV.agg (zI (at_ a_p1.caches i1)))]) func63 rfl (by kernel_rfl) (.fn 63) (zAJ hp11.1 (zAJ hp11.2.1 rfl)) rfl (zNF hx2) rfl ?_
       exact zF ⟨fun _=>rfl,rfl⟩
      ·exact D1 fun e s p=>zA4 (t:=x2) p.1
      intro e13 hs13 hq1
      refine zV (zBa (l:=[(2,(AV.ptr 0 0)),(3,(AV.ptr 1 0)),(6,(li i1)),(82,(AV.lit (.bool (!x2))))]) ⟨hs13 2 rfl,hs13 3 rfl,hs13 6 rfl,(hq1 11 (by decide) (by decide)),trivial⟩) ?_
      refine zY h rfl (fun hb5 h => ?_) (fun hb5 h => ?_)
      ·refine zH<|zC<|zA (zD rfl)<|zF<|zd ?_
       show zAP _ _ _ _ _ _
       obtain rfl:=Option.some.inj h
       exact zv (zAO rfl rfl)
      ·refine zP<|zC<|zA (zB rfl)<|zM h fun hb6 h=>zA (ze rfl rfl hb6)<|zA (zD rfl) ?_
       refine zF ?_
       exact ⟨(n0,(i1+1)),Nat.lt_succ_self _,zAD [0,1] rfl rfl (by kernel_rfl),h⟩
     ·refine zy ?_
      exact ⟨zAD [] rfl rfl (by kernel_rfl),h⟩
   ·
    clear h
    rintro e' H' ⟨hrep,h⟩
    refine zV hrep ?_
    clear hrep
    unfold zJK at h
    refine zH<|zC<|zA (zD rfl)<|zF<|zd ?_
    show zAP _ _ _ _ _ _
    obtain rfl:=Option.some.inj h
    exact zv (zAO rfl rfl)
theorem zKC  {r:Bool} (h:zH3=some r):PFn prog 9 [] (AV.lit (.bool r)):=by
 refine zq func9 rfl ntmps9 results9 rfl ?_
 unfold zH3 at h
 refine zH<|zC<|zA (zD (av:=(AV.lit (.bool false))) rfl)<|zF<|zH<|zC ?_
 refine zO0 (N:=2) (pl:=[(0,1),(1,1)]) (zs:=[.int .i64 0,.int .i64 0]) (zc:=[.lit (.int .i64 0),.lit (.int .i64 0)]) (rows:=List.map cI [0,1]) zHX underlying22 rfl rfl rfl (by kernel_rfl) rfl (⟨zf.refl _,⟨zf.refl _,trivial⟩⟩) ⟨li 0,0,1,rfl,rfl,rfl,rfl,rfl,⟨li 1,1,1,rfl,rfl,rfl,rfl,rfl,(by exact zFR.refl _)⟩⟩ rfl rfl rfl<|zA (z8 (pl:=[(0,1),(1,1),(2,1),(3,1)]) (zs:=[.int .i64 0,.int .i64 0,.int .i64 0,.int .i64 0]) (zc:=[.lit (.int .i64 0),.lit (.int .i64 0),.lit (.int .i64 0),.lit (.int .i64 0)]) (res:=(zAc (⟨0,0,8,2⟩:zBz))) (fun _=>by kernel_rfl) rfl (⟨zf.refl _,⟨zf.refl _,⟨zf.refl _,⟨zf.refl _,trivial⟩⟩⟩⟩) ⟨li 0,0,1,rfl,rfl,rfl,rfl,rfl,⟨li 0,1,1,rfl,rfl,rfl,rfl,rfl,⟨li 8,2,1,rfl,rfl,rfl,rfl,rfl,⟨li 2,3,1,rfl,rfl,rfl,rfl,rfl,(by exact zFR.refl _)⟩⟩⟩⟩)<|zA (z8 (pl:=[(0,1),(1,1),(2,1),(3,1)]) (zs:=[.int .i64 0,.int .i64 0,.int .i64 0,.int .i64 0]) (zc:=[.lit (.int .i64 0),.lit (.int .i64 0),.lit (.int .i64 0),.lit (.int .i64 0)]) (res:=(zAc (⟨1,1,8,0⟩:zBz))) (fun _=>by kernel_rfl) rfl (⟨zf.refl _,⟨zf.refl _,⟨zf.refl _,⟨zf.refl _,trivial⟩⟩⟩⟩) ⟨li 1,0,1,rfl,rfl,rfl,rfl,rfl,⟨li 1,1,1,rfl,rfl,rfl,rfl,rfl,⟨li 8,2,1,rfl,rfl,rfl,rfl,rfl,⟨li 0,3,1,rfl,rfl,rfl,rfl,rfl,(by exact zFR.refl _)⟩⟩⟩⟩)<|zO0 (N:=2) (pl:=[(0,4),(4,4)]) (zs:=[.int .i64 0,.int .i64 0,.int .i64 0,.int .i64 0,.int .i64 0,.int .i64 0,.int .i64 0,.int .i64 0]) (zc:=[.lit (.int .i64 0),.lit (.int .i64 0),.lit (.int .i64 0),.lit (.int .i64 0),.lit (.int .i64 0),.lit (.int .i64 0),.lit (.int .i64 0),.lit (.int .i64 0)]) (rows:=List.map zAc [(⟨0,0,8,2⟩:zBz),(⟨1,1,8,0⟩:zBz)]) zTa underlying47 rfl rfl rfl (by kernel_rfl) rfl (⟨zf.refl _,⟨zf.refl _,⟨zf.refl _,⟨zf.refl _,⟨zf.refl _,⟨zf.refl _,⟨zf.refl _,⟨zf.refl _,trivial⟩⟩⟩⟩⟩⟩⟩⟩) ⟨(AV.agg (zAc (⟨0,0,8,2⟩:zBz))),0,4,rfl,rfl,rfl,rfl,rfl,⟨(AV.agg (zAc (⟨1,1,8,0⟩:zBz))),4,4,rfl,rfl,rfl,rfl,rfl,(by exact zFR.refl _)⟩⟩ rfl rfl rfl<|zR h fun x1 hx1 h=>zAF (zEl (j:=0) (ds:=[11]) (rows':=List.map cI [0,1]) rfl (zAL (fun _=>rfl)) ⟨rfl,trivial⟩) ?_
 refine zR h fun x2 hx2 h=>zAF (zEl (j:=1) (ds:=[14]) (rows':=List.map zAc [(⟨0,0,8,2⟩:zBz),(⟨1,1,8,0⟩:zBz)]) rfl (zAL (fun _=>rfl)) ⟨rfl,trivial⟩)<|zR h fun x3 hx3 h=>zh func36 rfl (by kernel_rfl) (.fn 36) rfl rfl (zLS hx3) rfl<|zA (zB rfl)<|zA (zj rfl rfl) ?_
 refine zA (zj (la:=[(AV.agg (zG x3.1)),li x3.2]) rfl rfl)<|za (a:=(AV.ptr 2 0)) (H':=[.dead,.dead,.box 26 (zG ⟨[],0,0,[],[]⟩)]) (zu (t:=26) (vs:=[.slice none 0 0,.int .i64 0,.int .i64 0,.slice none 0 0,.slice none 0 0]) (cs:=[.sl false [],.lit (.int .i64 0),.lit (.int .i64 0),.sl false [],.sl false []]) zeroValue26 (by kernel_rfl) rfl ⟨zf.nils,zf.refl _,zf.refl _,zf.nils,zf.nils,trivial⟩)<|zp (H':=[.dead,.dead,.box 26 (zG x3.1)]) (zX (k:=2) (o:=0) (cs:=(zG ⟨[],0,0,[],[]⟩)) (la:=(zG x3.1)) sizeOf26 rfl rfl rfl rfl)<|zA (zD (av:=(li x3.2)) rfl)<|zF<|zH ?_
 refine zH<|zC<|zA (zB rfl)<|zA (z7 rfl rfl)<|zA (zB rfl)<|zT rfl rfl (fun hc1=>zt.step (zK underlying26 rfl rfl sizeOf23 rfl)) ?_
 refine zT (g:=20) (s := !decide (x3.2=0)) rfl rfl (fun hc2=>zt.step (zN (k:=2) (o:=3) (a:=(ls zO x3.1.zones)) isAgg23 (z5 rfl hc2) rfl rfl rfl))<|zT (g:=20) (s := !decide (x3.2=0)) rfl rfl (fun hc3=>zt.step (zZ (f:=zO) (l:=x3.1.zones) underlying23 (z5 rfl hc3)))<|zT (g:=20) (s := !decide (x3.2=0)) rfl rfl (fun hc4=>zt.step (z7 (a:=(x3.1.zones.length:Int)) (b:=2) (z5 rfl hc4) rfl))<|zA (zb (s := !decide (x3.2=0)) (q := !decide ((x3.1.zones.length:Int)=2)) (j := .lit undef) rfl rfl)<|zA (zB (av:=(AV.lit (.bool ((!decide (x3.2=0))||(!decide ((x3.1.zones.length:Int)=2)))))) rfl)<|zT (g:=26) (s:=(!decide (x3.2=0))||(!decide ((x3.1.zones.length:Int)=2))) rfl rfl (fun hc5=>zt.step (zK (k:=2) (o:=0) (off:=4) underlying26 rfl rfl sizeOf24 rfl)) ?_
 refine zT rfl rfl (fun hc6=>zt.step (zN isAgg24 (z5 rfl hc6) rfl rfl rfl))<|zT rfl rfl (fun hc7=>zt.step (zZ underlying24 (z5 rfl hc7)))<|zT rfl rfl (fun hc8=>zt.step (z7 (z5 rfl hc8) rfl))<|zA (zb rfl rfl)<|zA (zB rfl)<|zT rfl rfl (fun hc9=>zt.step (zS (k:=2) (o:=0) (m:=5) isAgg26 sizeOf26 rfl rfl rfl rfl rfl)) ?_
 refine zR h fun x4 hx4 h=>zBf (g:=32) (s:=((!decide (x3.2=0))||(!decide ((x3.1.zones.length:Int)=2)))||(!decide ((x3.1.caches.length:Int)=2))) (r':=(li x4)) rfl rfl (fun hc10=>⟨13,_,_,[],[(AV.agg (zG x3.1))],[(AV.agg (zG x3.1))],li x4,[],func13,rfl,by kernel_rfl,.fn 13,(zAJ (z5 rfl hc10) rfl),⟨zAs.nr rfl,trivial⟩,zAq (zFU hc10 hx4),.inl rfl,rfl⟩)<|zT (g:=32) (s:=((!decide (x3.2=0))||(!decide ((x3.1.zones.length:Int)=2)))||(!decide ((x3.1.caches.length:Int)=2))) rfl rfl (fun hc11=>zt.step (z7 (a:=x4) (b:=0) (z5 rfl hc11) rfl))<|zA (zb (s:=((!decide (x3.2=0))||(!decide ((x3.1.zones.length:Int)=2)))||(!decide ((x3.1.caches.length:Int)=2))) (q := !decide (x4=0)) (j := .lit undef) rfl rfl)<|zA (zB (av:=(AV.lit (.bool ((((!decide (x3.2=0))||(!decide ((x3.1.zones.length:Int)=2)))||(!decide ((x3.1.caches.length:Int)=2)))||(!decide (x4=0)))))) rfl)<|zT (g:=37) (s:=(((!decide (x3.2=0))||(!decide ((x3.1.zones.length:Int)=2)))||(!decide ((x3.1.caches.length:Int)=2)))||(!decide (x4=0))) rfl rfl (fun hc12=>zt.step (zS (k:=2) (o:=0) (m:=5) (la:=(zG x3.1)) isAgg26 sizeOf26 rfl rfl rfl rfl rfl)) ?_
 refine zR h fun x5 hx5 h=>zBf (g:=37) (s:=(((!decide (x3.2=0))||(!decide ((x3.1.zones.length:Int)=2)))||(!decide ((x3.1.caches.length:Int)=2)))||(!decide (x4=0))) (r':=(li x5)) rfl rfl (fun hc13=>⟨15,_,_,[],[(AV.agg (zG x3.1))],[(AV.agg (zG x3.1))],li x5,[],func15,rfl,by kernel_rfl,.fn 15,(zAJ (z5 rfl hc13) rfl),⟨zAs.nr rfl,trivial⟩,zKL (zFU hc13 hx5),.inl rfl,rfl⟩)<|zT rfl rfl (fun hc14=>zt.step (z7 (z5 rfl hc14) rfl))<|zA (zb rfl rfl)<|zF ?_
 refine zY h rfl (fun hb1 h => ?_) (fun hb1 h => ?_)
 ·refine zH<|zC<|zA (zD (av:=(AV.lit (.bool false))) rfl)<|zF<|zd ?_
  show zAP _ _ _ _ _ _
  obtain rfl:=Option.some.inj h
  exact zv (zAO rfl rfl)
 ·refine zP<|zH<|zC<|zA (zS (k:=2) (o:=0) (m:=5) (la:=(zG x3.1)) isAgg26 sizeOf26 rfl rfl rfl rfl rfl)<|zR h fun x6 hx6 h=>zh (r:=(AV.tup [li x6.1,li x6.2])) (la:=[(AV.agg (zG x3.1))]) func11 rfl (by kernel_rfl) (.fn 11) rfl rfl (zJe hx6) rfl ?_
  refine zA (zB rfl)<|zA (zj rfl rfl)<|zA (zj rfl rfl)<|zA (zD rfl)<|zA (zD rfl)<|zF ?_
  refine zH<|zC<|zA (zS (k:=2) (o:=0) (m:=5) (la:=(zG x3.1)) isAgg26 sizeOf26 rfl rfl rfl rfl rfl)<|zR h fun x7 hx7 h=>zh (r:=(AV.tup [(AV.agg (zG x7.1)),li x7.2.1,li x7.2.2])) (la:=[(AV.agg (zG x3.1)),li 0,(AV.lit (.bool true)),(AV.lit (.bool false))]) func23 rfl (by kernel_rfl) (.fn 23) rfl rfl (zKs hx7) rfl<|zA (zB (av:=(AV.tup [(AV.agg (zG x7.1)),li x7.2.1,li x7.2.2])) rfl) ?_
  refine zA (zj rfl rfl)<|zA (zj rfl rfl)<|zA (zj rfl rfl)<|za (H':=[.dead,.dead,.box 26 (zG x3.1),.box 26 (zG ⟨[],0,0,[],[]⟩)]) (zu (t:=26) (vs:=[.slice none 0 0,.int .i64 0,.int .i64 0,.slice none 0 0,.slice none 0 0]) (cs:=[.sl false [],.lit (.int .i64 0),.lit (.int .i64 0),.sl false [],.sl false []]) zeroValue26 (by kernel_rfl) rfl ⟨zf.nils,zf.refl _,zf.refl _,zf.nils,zf.nils,trivial⟩)<|zp (H':=[.dead,.dead,.box 26 (zG x3.1),.box 26 (zG x7.1)]) (zX (k:=3) (o:=0) (cs:=(zG ⟨[],0,0,[],[]⟩)) (la:=(zG x7.1)) sizeOf26 rfl rfl rfl rfl)<|zA (zD rfl) ?_
  refine zA (zD (av:=(li x7.2.2)) rfl)<|zF<|zH<|zH<|zC<|zA (zB (av:=(li x6.1)) rfl) ?_
  refine zA (z7 rfl rfl)<|zA (zB rfl)<|zT rfl rfl (fun hc15=>zt.step (zB rfl))<|zT rfl rfl (fun hc16=>zt.step (z7 (z5 rfl hc16) rfl))<|zA (zb rfl rfl)<|zA (zB rfl) ?_
  refine zT (g:=59) (s:=(!decide (x6.1=6))||(!decide (x6.2=14))) rfl rfl (fun hc17=>zt.step (zB (av:=(li x7.2.2)) rfl))<|zT (g:=59) (s:=(!decide (x6.1=6))||(!decide (x6.2=14))) rfl rfl (fun hc18=>zt.step (z7 (a:=x7.2.2) (b:=0) (z5 rfl hc18) rfl))<|zA (zb (s:=(!decide (x6.1=6))||(!decide (x6.2=14))) (q := !decide (x7.2.2=0)) (j := .lit undef) rfl rfl)<|zA (zB (av:=(AV.lit (.bool (((!decide (x6.1=6))||(!decide (x6.2=14)))||(!decide (x7.2.2=0)))))) rfl)<|zT (g:=63) (s:=((!decide (x6.1=6))||(!decide (x6.2=14)))||(!decide (x7.2.2=0))) rfl rfl (fun hc19=>zt.step (zB (av:=(li x7.2.1)) rfl))<|zT (g:=63) (s:=((!decide (x6.1=6))||(!decide (x6.2=14)))||(!decide (x7.2.2=0))) rfl rfl (fun hc20=>zt.step (z7 (a:=x7.2.1) (b:=0) (z5 rfl hc20) rfl)) ?_
  refine zA (zb rfl rfl)<|zA (zB rfl)<|zT rfl rfl (fun hc21=>zt.step (zS (k:=3) (o:=0) (m:=5) isAgg26 sizeOf26 rfl rfl rfl rfl rfl))<|zR h fun x8 hx8 h=>zBf (g:=67) (s:=(((!decide (x6.1=6))||(!decide (x6.2=14)))||(!decide (x7.2.2=0)))||(!decide (x7.2.1=0))) (r':=(AV.lit (.bool x8))) rfl rfl (fun hc22=>⟨19,_,_,[],[(AV.agg (zG x7.1)),li 0],[(AV.agg (zG x7.1)),li 0],(AV.lit (.bool x8)),[],func19,rfl,by kernel_rfl,.fn 19,(zAJ (z5 rfl hc22) (zAJ rfl rfl)),⟨zAs.nr rfl,zAs.nr rfl,trivial⟩,zIA (zFU hc22 hx8),.inl rfl,rfl⟩)<|zA (zb rfl rfl) ?_
  refine zA (zB (av:=(AV.lit (.bool (((((!decide (x6.1=6))||(!decide (x6.2=14)))||(!decide (x7.2.2=0)))||(!decide (x7.2.1=0)))||x8)))) rfl)<|zT (g:=71) (s:=((((!decide (x6.1=6))||(!decide (x6.2=14)))||(!decide (x7.2.2=0)))||(!decide (x7.2.1=0)))||x8) rfl rfl (fun hc23=>zt.step (zS (k:=3) (o:=0) (m:=5) (la:=(zG x7.1)) isAgg26 sizeOf26 rfl rfl rfl rfl rfl))<|zR h fun x9 hx9 h=>zBf (g:=71) (s:=((((!decide (x6.1=6))||(!decide (x6.2=14)))||(!decide (x7.2.2=0)))||(!decide (x7.2.1=0)))||x8) (r':=(AV.lit (.bool x9))) rfl rfl (fun hc24=>⟨19,_,_,[],[(AV.agg (zG x7.1)),li 1],[(AV.agg (zG x7.1)),li 1],(AV.lit (.bool x9)),[],func19,rfl,by kernel_rfl,.fn 19,(zAJ (z5 rfl hc24) (zAJ rfl rfl)),⟨zAs.nr rfl,zAs.nr rfl,trivial⟩,zIA (zFU hc24 hx9),.inl rfl,rfl⟩)<|zT (g:=71) (s:=((((!decide (x6.1=6))||(!decide (x6.2=14)))||(!decide (x7.2.2=0)))||(!decide (x7.2.1=0)))||x8) rfl rfl (fun hc25=>zt.step (zA4 (t:=x9) (z5 rfl hc25)))<|zA (zb (s:=((((!decide (x6.1=6))||(!decide (x6.2=14)))||(!decide (x7.2.2=0)))||(!decide (x7.2.1=0)))||x8) (q := !x9) (j := .lit undef) rfl rfl) ?_
  refine zA (zB rfl)<|zT rfl rfl (fun hc26=>zt.step (zS (k:=3) (o:=0) (m:=5) isAgg26 sizeOf26 rfl rfl rfl rfl rfl))<|zR h fun x10 hx10 h=>zBf (g:=76) (s:=(((((!decide (x6.1=6))||(!decide (x6.2=14)))||(!decide (x7.2.2=0)))||(!decide (x7.2.1=0)))||x8)||(!x9)) (r':=(li x10)) rfl rfl (fun hc27=>⟨21,_,_,[],[(AV.agg (zG x7.1)),li 0],[(AV.agg (zG x7.1)),li 0],li x10,[],func21,rfl,by kernel_rfl,.fn 21,(zAJ (z5 rfl hc27) (zAJ rfl rfl)),⟨zAs.nr rfl,zAs.nr rfl,trivial⟩,zKe (zFU hc27 hx10),.inl rfl,rfl⟩)<|zT rfl rfl (fun hc28=>zt.step (z7 (z5 rfl hc28) rfl))<|zA (zb rfl rfl) ?_
  refine zA (zB (av:=(AV.lit (.bool (((((((!decide (x6.1=6))||(!decide (x6.2=14)))||(!decide (x7.2.2=0)))||(!decide (x7.2.1=0)))||x8)||(!x9))||(!decide (x10=7)))))) rfl)<|zT (g:=81) (s:=((((((!decide (x6.1=6))||(!decide (x6.2=14)))||(!decide (x7.2.2=0)))||(!decide (x7.2.1=0)))||x8)||(!x9))||(!decide (x10=7))) rfl rfl (fun hc29=>zt.step (zS (k:=3) (o:=0) (m:=5) (la:=(zG x7.1)) isAgg26 sizeOf26 rfl rfl rfl rfl rfl))<|zR h fun x11 hx11 h=>zBf (g:=81) (s:=((((((!decide (x6.1=6))||(!decide (x6.2=14)))||(!decide (x7.2.2=0)))||(!decide (x7.2.1=0)))||x8)||(!x9))||(!decide (x10=7))) (r':=(li x11)) rfl rfl (fun hc30=>⟨17,_,_,[],[(AV.agg (zG x7.1)),li 8],[(AV.agg (zG x7.1)),li 8],li x11,[],func17,rfl,by kernel_rfl,.fn 17,(zAJ (z5 rfl hc30) (zAJ rfl rfl)),⟨zAs.nr rfl,zAs.nr rfl,trivial⟩,zK8 (zFU hc30 hx11),.inl rfl,rfl⟩)<|zT (g:=81) (s:=((((((!decide (x6.1=6))||(!decide (x6.2=14)))||(!decide (x7.2.2=0)))||(!decide (x7.2.1=0)))||x8)||(!x9))||(!decide (x10=7))) rfl rfl (fun hc31=>zt.step (z7 (a:=x11) (b:=1) (z5 rfl hc31) rfl))<|zA (zb (s:=((((((!decide (x6.1=6))||(!decide (x6.2=14)))||(!decide (x7.2.2=0)))||(!decide (x7.2.1=0)))||x8)||(!x9))||(!decide (x10=7))) (q := !decide (x11=1)) (j := .lit undef) rfl rfl) ?_
  refine zF ?_
  refine zY h rfl (fun hb2 h => ?_) (fun hb2 h => ?_)
  ·refine zH<|zC<|zA (zD rfl)<|zF<|zd ?_
   show zAP _ _ _ _ _ _
   obtain rfl:=Option.some.inj h
   exact zv (zAO (r1:=(AV.lit (.bool false))) rfl rfl)
  ·refine zP<|zH<|zC<|zA (zS (k:=3) (o:=0) (m:=5) isAgg26 sizeOf26 rfl rfl rfl rfl rfl)<|zR h fun x12 hx12 h=>zh func28 rfl (by kernel_rfl) (.fn 28) rfl rfl (zLF hx12) rfl ?_
   refine zA (zB (av:=(AV.tup [(AV.agg (zG x12.1)),li x12.2])) rfl)<|zA (zj (la:=[(AV.agg (zG x12.1)),li x12.2]) rfl rfl)<|zA (zj (la:=[(AV.agg (zG x12.1)),li x12.2]) rfl rfl)<|za (a:=(AV.ptr 4 0)) (H':=[.dead,.dead,.box 26 (zG x3.1),.box 26 (zG x7.1),.box 26 (zG ⟨[],0,0,[],[]⟩)]) (zu (t:=26) (vs:=[.slice none 0 0,.int .i64 0,.int .i64 0,.slice none 0 0,.slice none 0 0]) (cs:=[.sl false [],.lit (.int .i64 0),.lit (.int .i64 0),.sl false [],.sl false []]) zeroValue26 (by kernel_rfl) rfl ⟨zf.nils,zf.refl _,zf.refl _,zf.nils,zf.nils,trivial⟩)<|zp (H':=[.dead,.dead,.box 26 (zG x3.1),.box 26 (zG x7.1),.box 26 (zG x12.1)]) (zX (k:=4) (o:=0) (cs:=(zG ⟨[],0,0,[],[]⟩)) (la:=(zG x12.1)) sizeOf26 rfl rfl rfl rfl)<|zA (zD (av:=(li x12.2)) rfl) ?_
   refine zF<|zH<|zH<|zC<|zA (zB rfl)<|zA (z7 rfl rfl) ?_
   refine zF ?_
   refine zY h rfl (fun hb3 h => ?_) (fun hb3 h => ?_)
   ·refine zH<|zC<|zA (zD (av:=(AV.lit (.bool false))) rfl)<|zF<|zd ?_
    show zAP _ _ _ _ _ _
    obtain rfl:=Option.some.inj h
    exact zv (zAO rfl rfl)
   ·refine zP<|zH<|zC<|zA (zS (k:=2) (o:=0) (m:=5) (la:=(zG x3.1)) isAgg26 sizeOf26 rfl rfl rfl rfl rfl)<|zR h fun x13 hx13 h=>zh (r:=(AV.tup [(AV.agg (zG x13.1)),li x13.2.1,li x13.2.2])) (la:=[(AV.agg (zG x3.1)),li 1,li 3]) func26 rfl (by kernel_rfl) (.fn 26) rfl rfl (zJC hx13) rfl ?_
    refine zA (zB rfl)<|zA (zj rfl rfl)<|zA (zj rfl rfl)<|zA (zj rfl rfl)<|za (H':=[.dead,.dead,.box 26 (zG x3.1),.box 26 (zG x7.1),.box 26 (zG x12.1),.box 26 (zG ⟨[],0,0,[],[]⟩)]) (zu (t:=26) (vs:=[.slice none 0 0,.int .i64 0,.int .i64 0,.slice none 0 0,.slice none 0 0]) (cs:=[.sl false [],.lit (.int .i64 0),.lit (.int .i64 0),.sl false [],.sl false []]) zeroValue26 (by kernel_rfl) rfl ⟨zf.nils,zf.refl _,zf.refl _,zf.nils,zf.nils,trivial⟩)<|zp (H':=[.dead,.dead,.box 26 (zG x3.1),.box 26 (zG x7.1),.box 26 (zG x12.1),.box 26 (zG x13.1)]) (zX (k:=5) (o:=0) (cs:=(zG ⟨[],0,0,[],[]⟩)) (la:=(zG x13.1)) sizeOf26 rfl rfl rfl rfl) ?_
    refine zA (zD (av:=(li x13.2.1)) rfl)<|zA (zD (av:=(li x13.2.2)) rfl)<|zF<|zH<|zR h fun x14 hx14 h=>zR h fun x15 hx15 h => ?_
    show AW _ _ _ _ _ _ [.dead,.dead,.box 26 (zG x3.1),.box 26 (zG x7.1),.box 26 (zG x12.1),.box 26 (zG x13.1)]
    refine zA2 (n:=111) (m:=0) [.head 0 0,.head 0 0,.head 0 0,.head 0 0,.head 0 0,.head 0 0,.head 0 0,.head 0 0,.head 0 0,.head 0 0,.head 0 0,.head 0 0,.head 0 0] [] [li x13.2.2,(AV.lit (.bool (decide (x13.2.2=0)))),(AV.lit (.bool (decide (x13.2.2=0)))),(bif decide (x13.2.2=0) then (li x13.2.1) else .lit undef),(bif decide (x13.2.2=0) then (AV.lit (.bool (decide (x13.2.1=8)))) else .lit undef),(AV.lit (.bool ((decide (x13.2.2=0))&&(decide (x13.2.1=8))))),(AV.lit (.bool ((decide (x13.2.2=0))&&(decide (x13.2.1=8))))),(bif (decide (x13.2.2=0))&&(decide (x13.2.1=8)) then (AV.agg (zG x12.1)) else .lit undef),(bif (decide (x13.2.2=0))&&(decide (x13.2.1=8)) then (AV.agg (zG x14)) else .lit undef),(bif (decide (x13.2.2=0))&&(decide (x13.2.1=8)) then (AV.agg (zG x3.1)) else .lit undef),(bif (decide (x13.2.2=0))&&(decide (x13.2.1=8)) then (AV.lit (.bool x15)) else .lit undef),(AV.lit (.bool (((decide (x13.2.2=0))&&(decide (x13.2.1=8)))&&x15))),(AV.lit (.bool (((decide (x13.2.2=0))&&(decide (x13.2.1=8)))&&x15)))] [[.dead,.dead,.box 26 (zG x3.1),.box 26 (zG x7.1),.box 26 (zG x12.1),.box 26 (zG x13.1)]] (by kernel_rfl) (by kernel_rfl) ⟨?_,?_,?_,?_,?_,?_,?_,?_,?_,?_,?_,?_,?_,trivial⟩ ?_
    ·exact D1 fun e s p=>zB (s 2 rfl)
    ·exact D1 fun e s p=>zBd (a:=x13.2.2) (b:=0) p.1 rfl
    ·exact D1 fun e s p=>zB (av:=(AV.lit (.bool (decide (x13.2.2=0))))) p.1
    ·
     intro e4 hs4 hp4
     refine zm (g:=101) (s:=decide (x13.2.2=0)) rfl hp4.1 (fun hc38=>zt.step (zB (av:=(li x13.2.1)) (hs4 9 rfl))) ?_
     exact zF ⟨fun _=>rfl,rfl⟩
    ·
     intro e5 hs5 hp5
     refine zm (g:=101) (s:=decide (x13.2.2=0)) rfl hp5.2.1 (fun hc39=>zt.step (zBd (a:=x13.2.1) (b:=8) (z5 hp5.1 hc39) rfl)) ?_
     exact zF ⟨fun _=>rfl,rfl⟩
    ·exact D1 fun e s p=>zz (s:=decide (x13.2.2=0)) (q:=decide (x13.2.1=8)) (j := .lit undef) p.1 p.2.1
    ·exact D1 fun e s p=>zB p.1
    ·
     intro e8 hs8 hp8
     refine zm (g:=105) (s:=(decide (x13.2.2=0))&&(decide (x13.2.1=8))) rfl hp8.1 (fun hc40=>zt.step (zS (k:=4) (o:=0) (m:=5) (la:=(zG x12.1)) isAgg26 sizeOf26 (hs8 7 rfl) rfl rfl rfl rfl)) ?_
     exact zF ⟨fun _=>rfl,rfl⟩
    ·
     intro e9 hs9 hp9
     refine zCl (g:=105) (s:=(decide (x13.2.2=0))&&(decide (x13.2.1=8))) (r':=(AV.agg (zG x14))) rfl hp9.2.2.1 (fun hc41=>⟨34,_,_,[],[(AV.agg (zG x12.1))],[(AV.agg (zG x12.1))],(AV.agg (zG x14)),[],func34,rfl,by kernel_rfl,.fn 34,(zAJ (z5 hp9.1 hc41) rfl),⟨zAs.nr rfl,trivial⟩,zKc (zFU hc41 hx14),.inl rfl,rfl⟩) ?_
     exact zF ⟨fun _=>rfl,rfl⟩
    ·
     intro e10 hs10 hp10
     refine zm (g:=105) (s:=(decide (x13.2.2=0))&&(decide (x13.2.1=8))) rfl hp10.1 (fun hc42=>zt.step (zS (k:=2) (o:=0) (m:=5) (la:=(zG x3.1)) isAgg26 sizeOf26 (hs10 1 rfl) rfl rfl rfl rfl)) ?_
     exact zF ⟨fun _=>rfl,rfl⟩
    ·
     intro e11 hs11 hp11
     refine zCl (g:=105) (s:=(decide (x13.2.2=0))&&(decide (x13.2.1=8))) (r':=(AV.lit (.bool x15))) rfl hp11.2.2.2.1 (fun hc43=>⟨25,_,_,[],[(AV.agg (zG x14)),(AV.agg (zG x3.1))],[(AV.agg (zG x14)),(AV.agg (zG x3.1))],(AV.lit (.bool x15)),[],func25,rfl,by kernel_rfl,.fn 25,(zAJ (z5 hp11.2.2.1 hc43) (zAJ (z5 hp11.2.1 hc43) rfl)),⟨zAs.nr rfl,zAs.nr rfl,trivial⟩,zKy (zFU hc43 hx15),.inl rfl,rfl⟩) ?_
     exact zF ⟨fun _=>rfl,rfl⟩
    ·exact D1 fun e s p=>zz (s:=(decide (x13.2.2=0))&&(decide (x13.2.1=8))) (q:=x15) (j := .lit undef) p.1 p.2.1
    ·exact D1 fun e s p=>zD (av:=(AV.lit (.bool (((decide (x13.2.2=0))&&(decide (x13.2.1=8)))&&x15)))) p.2.2.2.2.2.2.2.2.2.2.2.2.2.1
    intro e14 hs14 hq1
    refine zV (zBa (l:=[(0,(AV.lit (.bool (((decide (x13.2.2=0))&&(decide (x13.2.1=8)))&&x15))))]) ⟨(hq1 12 (by decide) (by decide)),trivial⟩)<|zd ?_
    show zAP _ _ _ _ _ _
    obtain rfl:=Option.some.inj h
    exact zv (zAO rfl rfl)
theorem zN6 {a_z:zo} {r:Bool} (h:zKf a_z=some r):PFn prog 37 [(AV.agg (zO a_z))] (AV.lit (.bool r)):=by
 refine zq func37 rfl ntmps37 results37 rfl ?_
 unfold zKf at h
 refine zH<|zC<|za (H':=[.box 51 (zO a_z)]) (zw (t:=51) rfl)<|zA (zD rfl)<|zF ?_
 refine zx (fun e' H'=>Rep 14 0 e' H' (mkE []) []∧zJk  = some r) ?_ ?_
 ·
  refine zH<|zC<|zA (zD rfl)<|zF<|zQ<|z6 (σ:=Nat×Int) (fun s=>s.1) (fun s e' H'=>match s with | (n0,i1)=>Rep 14 0 e' H' (mkE [(1,(AV.ptr 0 0)),(3,(li i1))]) [.box 51 (zO a_z)]∧zEy a_z n0 i1=some r) (z9,0) ⟨zAD [0] rfl rfl (by kernel_rfl),h⟩ ?_
  clear h
  rintro ⟨n0,i1⟩ e' H' ⟨hrep,h⟩
  cases n0 with
  | zero=>exact absurd (show (none:Option _)=some r from h) (by simp)
  | succ n0 =>
   replace h:zE9 a_z (zEy a_z n0) i1=some r:=h
   unfold zE9 at h
   refine zV hrep ?_
   clear hrep
   refine zH<|zH<|zC<|zA (zB rfl)<|zA (zC0 rfl rfl)<|zF ?_
   refine zY h rfl (fun hb1 h => ?_) (fun hb1 h => ?_)
   ·refine zP<|zH<|zQ<|zH<|zC<|zA (zB rfl) ?_
    refine zA (zK underlying51 rfl rfl sizeOf49 rfl)<|zM h fun hb2 h=>zA (zAN (m:=5) (s:=1) (i:=i1) (k:=0) (o:=5) underlying49 sizeOf22 rfl rfl hb2)<|zA (zAp (k:=0) (o:=(5+i1.toNat*1)) (cs:=(zO a_z)) (hd:=([li a_z.node]++[li a_z.kind]++[li a_z.start]++[li a_z.count]++[li a_z.min]++[])) (tl:=([])) (g:=(eS cI)) (d0:=([]:List Int)) (l:=a_z.free) (N:=5) (i:=i1.toNat) (a:=(ls cI (a_z.free.getD i1.toNat ([]:List Int)))) isAgg22 rfl rfl rfl (congrArg (fun q=>5+q) (Nat.mul_one _)) (zBT hb2).2 rfl rfl)<|zA (zZ underlying22 rfl)<|zA (zAm rfl rfl) ?_
    refine zF ?_
    refine zY h rfl (fun hb3 h => ?_) (fun hb3 h => ?_)
    ·refine zH<|zC<|zA (zD rfl)<|zF<|zd ?_
     show zAP _ _ _ _ _ _
     obtain rfl:=Option.some.inj h
     exact zv (zAO rfl rfl)
    ·refine zP<|zC<|zA (zB rfl)<|zM h fun hb4 h=>zA (ze rfl rfl hb4)<|zA (zD rfl) ?_
     refine zF ?_
     exact ⟨(n0,(i1+1)),Nat.lt_succ_self _,zAD [0] rfl rfl (by kernel_rfl),h⟩
   ·refine zy ?_
    exact ⟨zAD [] rfl rfl (by kernel_rfl),h⟩
 ·
  clear h
  rintro e' H' ⟨hrep,h⟩
  refine zV hrep ?_
  clear hrep
  unfold zJk at h
  refine zH<|zC<|zA (zD rfl)<|zF<|zd ?_
  show zAP _ _ _ _ _ _
  obtain rfl:=Option.some.inj h
  exact zv (zAO rfl rfl)
theorem zNe {a_c:zL} {r:Bool} (h:zJS a_c=some r):PFn prog 38 [(AV.agg (zI a_c))] (AV.lit (.bool r)):=by
 refine zq func38 rfl ntmps38 results38 rfl ?_
 unfold zJS at h
 refine zH<|zC<|za (H':=[.box 55 (zI a_c)]) (zw (t:=55) rfl)<|zA (zD rfl)<|zF<|zH ?_
 refine zH<|zC<|zA (zK underlying55 rfl rfl sizeOf53 rfl)<|zA (zN isAgg53 rfl rfl rfl rfl)<|zA (zZ underlying53 rfl)<|zA (zAm rfl rfl) ?_
 refine zF ?_
 refine zY h rfl (fun hb1 h => ?_) (fun hb1 h => ?_)
 ·refine zH<|zC<|zA (zD rfl)<|zF<|zd ?_
  show zAP _ _ _ _ _ _
  obtain rfl:=Option.some.inj h
  exact zv (zAO rfl rfl)
 ·refine zP ?_
  refine zx (fun e' H'=>Rep 20 0 e' H' (mkE []) []∧zJ0  = some r) ?_ ?_
  ·
   refine zH<|zC<|zA (zK underlying55 rfl rfl sizeOf53 rfl)<|zA (zN isAgg53 rfl rfl rfl rfl)<|zA (zZ underlying53 rfl)<|zA (zB rfl) ?_
   refine zF<|zQ<|z6 (σ:=Nat×Int) (fun s=>s.1) (fun s e' H'=>match s with | (n0,i1)=>Rep 20 0 e' H' (mkE [(10,(ls (cS cI) a_c.lists)),(11,(li (a_c.lists.length:Int))),(12,(li i1))]) []∧zE5 a_c n0 i1=some r) (z9,0) ⟨zAD [] rfl rfl (by kernel_rfl),h⟩ ?_
   clear h
   rintro ⟨n0,i1⟩ e' H' ⟨hrep,h⟩
   cases n0 with
   | zero=>exact absurd (show (none:Option _)=some r from h) (by simp)
   | succ n0 =>
    replace h:zFD a_c (zE5 a_c n0) i1=some r:=h
    unfold zFD at h
    refine zV hrep ?_
    clear hrep
    refine zH<|zC<|zA (zg rfl rfl)<|zF<|zH ?_
    refine zY h rfl (fun hb2 h => ?_) (fun hb2 h => ?_)
    ·refine zP<|zH<|zQ<|zH<|zC<|zM h fun hb3 h => ?_
     refine zA (zU underlying53 sizeOf22 (fun _=>rfl) rfl rfl hb3)<|zA (zW (o:=0) isAgg22 rfl rfl)<|zA (zD rfl)<|zF<|zH<|zC ?_
     refine zA (zB rfl)<|zA (zZ underlying22 rfl)<|zA (zAm rfl rfl)<|zF ?_
     refine zY h rfl (fun hb4 h => ?_) (fun hb4 h => ?_)
     ·refine zH<|zC<|zA (zD rfl)<|zF<|zd ?_
      show zAP _ _ _ _ _ _
      obtain rfl:=Option.some.inj h
      exact zv (zAO rfl rfl)
     ·refine zP<|zC<|zM h fun hb5 h=>zA (ze rfl rfl hb5)<|zA (zB rfl)<|zF ?_
      exact ⟨(n0,(i1+1)),Nat.lt_succ_self _,zAD [] rfl rfl (by kernel_rfl),h⟩
    ·refine zy ?_
     exact ⟨zAD [] rfl rfl (by kernel_rfl),h⟩
  ·
   clear h
   rintro e' H' ⟨hrep,h⟩
   refine zV hrep ?_
   clear hrep
   unfold zJ0 at h
   refine zH<|zC<|zA (zD rfl)<|zF<|zd ?_
   show zAP _ _ _ _ _ _
   obtain rfl:=Option.some.inj h
   exact zv (zAO rfl rfl)
theorem zNw {a_a:zJ} {r:Bool} (h:zJs a_a=some r):PFn prog 10 [(AV.agg (zG a_a))] (AV.lit (.bool r)):=by
 refine zq func10 rfl ntmps10 results10 rfl ?_
 unfold zJs at h
 refine zH<|zC<|za (H':=[.box 26 (zG a_a)]) (zw (t:=26) rfl)<|zA (zD rfl)<|zF<|zH ?_
 refine zH<|zC<|zA (zK underlying26 rfl rfl sizeOf22 rfl)<|zA (zN isAgg22 rfl rfl rfl rfl)<|zA (zZ underlying22 rfl)<|zA (zAm rfl rfl) ?_
 refine zA (zB rfl)<|zT rfl rfl (fun hc1=>zt.step (zK underlying26 rfl rfl sizeOf23 rfl))<|zT rfl rfl (fun hc2=>zt.step (zN isAgg23 (z5 rfl hc2) rfl rfl rfl))<|zT rfl rfl (fun hc3=>zt.step (zZ underlying23 (z5 rfl hc3)))<|zT rfl rfl (fun hc4=>zt.step (zAm (z5 rfl hc4) rfl))<|zA (zb rfl rfl) ?_
 refine zA (zB rfl)<|zT rfl rfl (fun hc5=>zt.step (zK underlying26 rfl rfl sizeOf24 rfl))<|zT rfl rfl (fun hc6=>zt.step (zN isAgg24 (z5 rfl hc6) rfl rfl rfl))<|zT rfl rfl (fun hc7=>zt.step (zZ underlying24 (z5 rfl hc7)))<|zT rfl rfl (fun hc8=>zt.step (zAm (z5 rfl hc8) rfl))<|zA (zb rfl rfl) ?_
 refine zF ?_
 refine zY h rfl (fun hb1 h => ?_) (fun hb1 h => ?_)
 ·refine zH<|zC<|zA (zD rfl)<|zF<|zd ?_
  show zAP _ _ _ _ _ _
  obtain rfl:=Option.some.inj h
  exact zv (zAO rfl rfl)
 ·refine zP ?_
  refine zx (fun e' H'=>Rep 49 0 e' H' (mkE [(1,(AV.ptr 0 0))]) [.box 26 (zG a_a)]∧zJf a_a=some r) ?_ ?_
  ·
   refine zH<|zC<|zA (zD rfl)<|zF<|zQ<|z6 (σ:=Nat×Int) (fun s=>s.1) (fun s e' H'=>match s with | (n1,i2)=>Rep 49 0 e' H' (mkE [(1,(AV.ptr 0 0)),(3,(li i2))]) [.box 26 (zG a_a)]∧zEt a_a n1 i2=some r) (z9,0) ⟨zAD [0] rfl rfl (by kernel_rfl),h⟩ ?_
   clear h
   rintro ⟨n1,i2⟩ e' H' ⟨hrep,h⟩
   cases n1 with
   | zero=>exact absurd (show (none:Option _)=some r from h) (by simp)
   | succ n1 =>
    replace h:zEu a_a (zEt a_a n1) i2=some r:=h
    unfold zEu at h
    refine zV hrep ?_
    clear hrep
    refine zH<|zH<|zC<|zA (zB rfl)<|zA (zK underlying26 rfl rfl sizeOf23 rfl)<|zA (zN isAgg23 rfl rfl rfl rfl) ?_
    refine zA (zZ underlying23 rfl)<|zA (zg rfl rfl)<|zF ?_
    refine zY h rfl (fun hb6 h => ?_) (fun hb6 h => ?_)
    ·refine zP<|zH<|zQ<|zH<|zC<|zA (zK underlying26 rfl rfl sizeOf23 rfl) ?_
     refine zA (zN isAgg23 rfl rfl rfl rfl)<|zA (zB rfl)<|zM h fun hb7 h=>zA (zU underlying23 sizeOf51 (fun _=>rfl) rfl rfl hb7)<|zA (zAX (row:=(zO (at_ a_a.zones i2))) (o:=0) (m:=10) (la:=(zO (at_ a_a.zones i2))) isAgg51 sizeOf51 rfl rfl rfl)<|zR h fun x2 hx2 h => ?_
     refine zh func37 rfl (by kernel_rfl) (.fn 37) rfl rfl (zN6 hx2) rfl<|zA (zA4 (t:=x2) rfl)<|zF ?_
     refine zY h rfl (fun hb8 h => ?_) (fun hb8 h => ?_)
     ·refine zH<|zC<|zA (zD rfl)<|zF<|zd ?_
      show zAP _ _ _ _ _ _
      obtain rfl:=Option.some.inj h
      exact zv (zAO rfl rfl)
     ·refine zP<|zC<|zA (zB rfl)<|zM h fun hb9 h=>zA (ze rfl rfl hb9)<|zA (zD rfl) ?_
      refine zF ?_
      exact ⟨(n1,(i2+1)),Nat.lt_succ_self _,zAD [0] rfl rfl (by kernel_rfl),h⟩
    ·refine zy ?_
     exact ⟨zAD [0] rfl rfl (by kernel_rfl),h⟩
  ·
   clear h
   rintro e' H' ⟨hrep,h⟩
   refine zV hrep ?_
   clear hrep
   unfold zJf at h
   refine zx (fun e' H'=>Rep 49 0 e' H' (mkE []) []∧zJw  = some r) ?_ ?_
   ·
    refine zH<|zC<|zA (zD rfl)<|zF<|zQ<|z6 (σ:=Nat×Int) (fun s=>s.1) (fun s e' H'=>match s with | (n0,i1)=>Rep 49 0 e' H' (mkE [(1,(AV.ptr 0 0)),(4,(li i1))]) [.box 26 (zG a_a)]∧zEs a_a n0 i1=some r) (z9,0) ⟨zAD [0] rfl rfl (by kernel_rfl),h⟩ ?_
    clear h
    rintro ⟨n0,i1⟩ e' H' ⟨hrep,h⟩
    cases n0 with
    | zero=>exact absurd (show (none:Option _)=some r from h) (by simp)
    | succ n0 =>
     replace h:zE0 a_a (zEs a_a n0) i1=some r:=h
     unfold zE0 at h
     refine zV hrep ?_
     clear hrep
     refine zH<|zH<|zC<|zA (zB rfl)<|zA (zK underlying26 rfl rfl sizeOf24 rfl)<|zA (zN isAgg24 rfl rfl rfl rfl) ?_
     refine zA (zZ underlying24 rfl)<|zA (zg rfl rfl)<|zF ?_
     refine zY h rfl (fun hb2 h => ?_) (fun hb2 h => ?_)
     ·refine zP<|zH<|zQ<|zH<|zC<|zA (zK underlying26 rfl rfl sizeOf24 rfl) ?_
      refine zA (zN isAgg24 rfl rfl rfl rfl)<|zA (zB rfl)<|zM h fun hb3 h=>zA (zU underlying24 sizeOf55 (fun _=>rfl) rfl rfl hb3)<|zA (zAX (row:=(zI (at_ a_a.caches i1))) (o:=0) (m:=1) (la:=(zI (at_ a_a.caches i1))) isAgg55 sizeOf55 rfl rfl rfl)<|zR h fun x1 hx1 h => ?_
      refine zh func38 rfl (by kernel_rfl) (.fn 38) rfl rfl (zNe hx1) rfl<|zA (zA4 (t:=x1) rfl)<|zF ?_
      refine zY h rfl (fun hb4 h => ?_) (fun hb4 h => ?_)
      ·refine zH<|zC<|zA (zD rfl)<|zF<|zd ?_
       show zAP _ _ _ _ _ _
       obtain rfl:=Option.some.inj h
       exact zv (zAO rfl rfl)
      ·refine zP<|zC<|zA (zB rfl)<|zM h fun hb5 h=>zA (ze rfl rfl hb5)<|zA (zD rfl) ?_
       refine zF ?_
       exact ⟨(n0,(i1+1)),Nat.lt_succ_self _,zAD [0] rfl rfl (by kernel_rfl),h⟩
     ·refine zy ?_
      exact ⟨zAD [] rfl rfl (by kernel_rfl),h⟩
   ·
    clear h
    rintro e' H' ⟨hrep,h⟩
    refine zV hrep ?_
    clear hrep
    unfold zJw at h
    refine zH<|zC<|zA (zD rfl)<|zF<|zd ?_
    show zAP _ _ _ _ _ _
    obtain rfl:=Option.some.inj h
    exact zv (zAO rfl rfl)
theorem zJP {a_p0:zJ} {a_p1:Int} {a_p2:Int} {r:zJ×Int} (h:zCv a_p0 a_p1 a_p2=some r):PFn prog 30 [(AV.agg (zG a_p0)),li a_p1,li a_p2] (AV.tup [(AV.agg (zG r.1)),li r.2]):=by
 refine zq func30 rfl ntmps30 results30 rfl ?_
 unfold zCv at h
 refine zH<|zC<|za (H':=[.box 26 (zG a_p0)]) (zw (t:=26) rfl)<|za (H':=[.box 26 (zG a_p0),.box 26 (zG ⟨[],0,0,[],[]⟩)]) (zu (t:=26) (vs:=[.slice none 0 0,.int .i64 0,.int .i64 0,.slice none 0 0,.slice none 0 0]) (cs:=[.sl false [],.lit (.int .i64 0),.lit (.int .i64 0),.sl false [],.sl false []]) zeroValue26 (by kernel_rfl) rfl ⟨zf.nils,zf.refl _,zf.refl _,zf.nils,zf.nils,trivial⟩)<|zA (zD rfl)<|zF ?_
 refine zH<|zH<|zC<|zA (zS (k:=0) (o:=0) (m:=5) isAgg26 sizeOf26 rfl rfl rfl rfl rfl)<|zR h fun x1 hx1 h=>zh func13 rfl (by kernel_rfl) (.fn 13) rfl rfl (zAq hx1) rfl ?_
 refine zA (zD rfl)<|zF<|zH<|zC<|zA (zB rfl)<|zA (z7 rfl rfl) ?_
 refine zF ?_
 refine zY h rfl (fun hb1 h => ?_) (fun hb1 h => ?_)
 ·refine zH<|zC<|zA (z8 (pl:=[(0,1),(1,1),(2,1),(3,1),(4,1)]) (zs:=[.slice none 0 0,.int .i64 0,.int .i64 0,.slice none 0 0,.slice none 0 0]) (zc:=[.sl false [],.lit (.int .i64 0),.lit (.int .i64 0),.sl false [],.sl false []]) (res:=(zG (⟨([]:List Int),0,0,([]:List zo),([]:List zL)⟩:zJ))) (fun _=>by kernel_rfl) rfl (⟨zf.nils,⟨zf.refl _,⟨zf.refl _,⟨zf.nils,⟨zf.nils,trivial⟩⟩⟩⟩⟩) (by exact zFR.refl _))<|zA (zB rfl)<|zp (H':=[.box 26 (zG a_p0),.box 26 (zG (⟨([]:List Int),0,0,([]:List zo),([]:List zL)⟩:zJ))]) (zX (k:=1) (o:=0) (cs:=(zG ⟨[],0,0,[],[]⟩)) (la:=(zG (⟨([]:List Int),0,0,([]:List zo),([]:List zL)⟩:zJ))) sizeOf26 rfl rfl rfl rfl)<|zA (zD rfl) ?_
  refine zF<|zd ?_
  show zAP _ _ _ _ _ _
  obtain rfl:=Option.some.inj h
  exact zBl (zFZ isAgg26 sizeOf26 rfl rfl rfl rfl) (zAO rfl rfl) rfl
 ·refine zP<|zH<|zC<|zA (zS (k:=0) (o:=0) (m:=5) isAgg26 sizeOf26 rfl rfl rfl rfl rfl)<|zA (zB rfl)<|zR h fun x2 hx2 h => ?_
  refine zh func44 rfl (by kernel_rfl) (.fn 44) rfl rfl (zCm hx2) rfl<|zA (zD rfl)<|zF<|zH<|zH<|zM h fun hb2 h => ?_
  refine zM h fun hb3 h=>zM h fun hb4 h=>zM h fun hb5 h=>zM h fun hb6 h=>zM h fun hb7 h=>zM h fun hb8 h => ?_
  refine zR h fun x3 hx3 h => ?_
  show AW _ _ _ _ _ _ [.box 26 (zG a_p0),.box 26 (zG ⟨[],0,0,[],[]⟩)]
  refine zA2 (n:=89) (m:=0) [.head 0 0,.head 0 0,.head 0 0,.head 0 0,.head 0 0,.head 0 0,.head 0 0,.head 0 0,.head 0 0,.head 0 0,.head 0 0,.head 0 0,.head 0 0,.head 0 0,.head 0 0,.head 0 0,.head 0 0,.head 0 0,.head 0 0,.head 0 0,.head 0 0,.head 0 0,.head 0 0,.head 0 0,.head 0 0,.head 0 0,.head 0 0,.head 0 0] [] [li a_p2,(AV.lit (.bool (decide (a_p2<0)))),(AV.lit (.bool (decide (a_p2<0)))),(bif !(decide (a_p2<0)) then (li a_p2) else .lit undef),(bif !(decide (a_p2<0)) then (AV.lit (.bool (decide (4<a_p2)))) else .lit undef),(AV.lit (.bool ((decide (a_p2<0))||(decide (4<a_p2))))),(AV.lit (.bool ((decide (a_p2<0))||(decide (4<a_p2))))),(bif !((decide (a_p2<0))||(decide (4<a_p2))) then (li x2) else .lit undef),(bif !((decide (a_p2<0))||(decide (4<a_p2))) then (AV.lit (.bool (decide (x2<0)))) else .lit undef),(AV.lit (.bool (((decide (a_p2<0))||(decide (4<a_p2)))||(decide (x2<0))))),(AV.lit (.bool (((decide (a_p2<0))||(decide (4<a_p2)))||(decide (x2<0))))),(bif !(((decide (a_p2<0))||(decide (4<a_p2)))||(decide (x2<0))) then (li a_p1) else .lit undef),(bif !(((decide (a_p2<0))||(decide (4<a_p2)))||(decide (x2<0))) then (li a_p2) else .lit undef),(bif !(((decide (a_p2<0))||(decide (4<a_p2)))||(decide (x2<0))) then (li ((1:Int)*2 ^ a_p2.toNat)) else .lit undef),(bif !(((decide (a_p2<0))||(decide (4<a_p2)))||(decide (x2<0))) then (li (a_p1.tmod ((1:Int)*2 ^ a_p2.toNat))) else .lit undef),(bif !(((decide (a_p2<0))||(decide (4<a_p2)))||(decide (x2<0))) then (AV.lit (.bool (!decide ((a_p1.tmod ((1:Int)*2 ^ a_p2.toNat))=0)))) else .lit undef),(AV.lit (.bool ((((decide (a_p2<0))||(decide (4<a_p2)))||(decide (x2<0)))||(!decide ((a_p1.tmod ((1:Int)*2 ^ a_p2.toNat))=0))))),(AV.lit (.bool ((((decide (a_p2<0))||(decide (4<a_p2)))||(decide (x2<0)))||(!decide ((a_p1.tmod ((1:Int)*2 ^ a_p2.toNat))=0))))),(bif !((((decide (a_p2<0))||(decide (4<a_p2)))||(decide (x2<0)))||(!decide ((a_p1.tmod ((1:Int)*2 ^ a_p2.toNat))=0))) then (AV.agg (zG a_p0)) else .lit undef),(bif !((((decide (a_p2<0))||(decide (4<a_p2)))||(decide (x2<0)))||(!decide ((a_p1.tmod ((1:Int)*2 ^ a_p2.toNat))=0))) then (li a_p1) else .lit undef),(bif !((((decide (a_p2<0))||(decide (4<a_p2)))||(decide (x2<0)))||(!decide ((a_p1.tmod ((1:Int)*2 ^ a_p2.toNat))=0))) then (li a_p2) else .lit undef),(bif !((((decide (a_p2<0))||(decide (4<a_p2)))||(decide (x2<0)))||(!decide ((a_p1.tmod ((1:Int)*2 ^ a_p2.toNat))=0))) then (li ((1:Int)*2 ^ a_p2.toNat)) else .lit undef),(bif !((((decide (a_p2<0))||(decide (4<a_p2)))||(decide (x2<0)))||(!decide ((a_p1.tmod ((1:Int)*2 ^ a_p2.toNat))=0))) then (li (a_p1+((1:Int)*2 ^ a_p2.toNat))) else .lit undef),(bif !((((decide (a_p2<0))||(decide (4<a_p2)))||(decide (x2<0)))||(!decide ((a_p1.tmod ((1:Int)*2 ^ a_p2.toNat))=0))) then (li ((a_p1+((1:Int)*2 ^ a_p2.toNat)) - 1)) else .lit undef),(bif !((((decide (a_p2<0))||(decide (4<a_p2)))||(decide (x2<0)))||(!decide ((a_p1.tmod ((1:Int)*2 ^ a_p2.toNat))=0))) then (li x3) else .lit undef),(bif !((((decide (a_p2<0))||(decide (4<a_p2)))||(decide (x2<0)))||(!decide ((a_p1.tmod ((1:Int)*2 ^ a_p2.toNat))=0))) then (li x2) else .lit undef),(bif !((((decide (a_p2<0))||(decide (4<a_p2)))||(decide (x2<0)))||(!decide ((a_p1.tmod ((1:Int)*2 ^ a_p2.toNat))=0))) then (AV.lit (.bool (!decide (x3=x2)))) else .lit undef),(AV.lit (.bool (((((decide (a_p2<0))||(decide (4<a_p2)))||(decide (x2<0)))||(!decide ((a_p1.tmod ((1:Int)*2 ^ a_p2.toNat))=0)))||(!decide (x3=x2)))))] [[.box 26 (zG a_p0),.box 26 (zG ⟨[],0,0,[],[]⟩)]] (by kernel_rfl) (by kernel_rfl) ⟨?_,?_,?_,?_,?_,?_,?_,?_,?_,?_,?_,?_,?_,?_,?_,?_,?_,?_,?_,?_,?_,?_,?_,?_,?_,?_,?_,?_,trivial⟩ ?_
  ·exact D1 fun e s p=>zB (s 2 rfl)
  ·exact D1 fun e s p=>zg (a:=a_p2) (b:=0) p.1 rfl
  ·exact D1 fun e s p=>zB p.1
  ·
   intro e4 hs4 hp4
   refine zT (g:=25) (s:=decide (a_p2<0)) rfl hp4.1 (fun hc19=>zt.step (zB (av:=(li a_p2)) (hs4 2 rfl))) ?_
   exact zF ⟨fun _=>rfl,rfl⟩
  ·
   intro e5 hs5 hp5
   refine zT (g:=25) (s:=decide (a_p2<0)) rfl hp5.2.1 (fun hc20=>zt.step (zAm (a:=a_p2) (b:=4) (z5 hp5.1 hc20) rfl)) ?_
   exact zF ⟨fun _=>rfl,rfl⟩
  ·exact D1 fun e s p=>zb (s:=decide (a_p2<0)) (q:=decide (4<a_p2)) (j := .lit undef) p.1 p.2.1
  ·exact D1 fun e s p=>zB p.1
  ·
   intro e8 hs8 hp8
   refine zT (g:=29) (s:=(decide (a_p2<0))||(decide (4<a_p2))) rfl hp8.1 (fun hc21=>zt.step (zB (av:=(li x2)) (hs8 9 rfl))) ?_
   exact zF ⟨fun _=>rfl,rfl⟩
  ·
   intro e9 hs9 hp9
   refine zT (g:=29) (s:=(decide (a_p2<0))||(decide (4<a_p2))) rfl hp9.2.1 (fun hc22=>zt.step (zg (a:=x2) (b:=0) (z5 hp9.1 hc22) rfl)) ?_
   exact zF ⟨fun _=>rfl,rfl⟩
  ·exact D1 fun e s p=>zb (s:=(decide (a_p2<0))||(decide (4<a_p2))) (q:=decide (x2<0)) (j := .lit undef) p.1 p.2.1
  ·exact D1 fun e s p=>zB p.1
  ·
   intro e12 hs12 hp12
   refine zT (g:=33) (s:=((decide (a_p2<0))||(decide (4<a_p2)))||(decide (x2<0))) rfl hp12.1 (fun hc23=>zt.step (zB (av:=(li a_p1)) (hs12 1 rfl))) ?_
   exact zF ⟨fun _=>rfl,rfl⟩
  ·
   intro e13 hs13 hp13
   refine zT (g:=33) (s:=((decide (a_p2<0))||(decide (4<a_p2)))||(decide (x2<0))) rfl hp13.1 (fun hc24=>zt.step (zB (av:=(li a_p2)) (hs13 2 rfl))) ?_
   exact zF ⟨fun _=>rfl,rfl⟩
  ·
   intro e14 hs14 hp14
   refine zT (g:=33) (s:=((decide (a_p2<0))||(decide (4<a_p2)))||(decide (x2<0))) rfl hp14.2.1 (fun hc25=>zt.step (zCP (a:=1) (b:=a_p2) rfl (z5 hp14.1 hc25) (zEb hb2 hc25) (zEb hb3 hc25))) ?_
   exact zF ⟨fun _=>rfl,rfl⟩
  ·
   intro e15 hs15 hp15
   refine zT (g:=33) (s:=((decide (a_p2<0))||(decide (4<a_p2)))||(decide (x2<0))) rfl hp15.2.2.1 (fun hc26=>zt.step (zNO (k := .i64) (a:=a_p1) (b:=(1:Int)*2 ^ a_p2.toNat) (z5 hp15.1 hc26) (z5 hp15.2.1 hc26) (zEb hb4 hc26))) ?_
   exact zF ⟨fun _=>rfl,rfl⟩
  ·
   intro e16 hs16 hp16
   refine zT (g:=33) (s:=((decide (a_p2<0))||(decide (4<a_p2)))||(decide (x2<0))) rfl hp16.2.1 (fun hc27=>zt.step (z7 (a:=a_p1.tmod ((1:Int)*2 ^ a_p2.toNat)) (b:=0) (z5 hp16.1 hc27) rfl)) ?_
   exact zF ⟨fun _=>rfl,rfl⟩
  ·exact D1 fun e s p=>zb (s:=((decide (a_p2<0))||(decide (4<a_p2)))||(decide (x2<0))) (q := !decide ((a_p1.tmod ((1:Int)*2 ^ a_p2.toNat))=0)) (j := .lit undef) p.1 p.2.1
  ·exact D1 fun e s p=>zB p.1
  ·
   intro e19 hs19 hp19
   refine zT (g:=40) (s:=(((decide (a_p2<0))||(decide (4<a_p2)))||(decide (x2<0)))||(!decide ((a_p1.tmod ((1:Int)*2 ^ a_p2.toNat))=0))) rfl hp19.1 (fun hc28=>zt.step (zS (k:=0) (o:=0) (m:=5) (la:=(zG a_p0)) isAgg26 sizeOf26 (hs19 3 rfl) rfl rfl rfl rfl)) ?_
   exact zF ⟨fun _=>rfl,rfl⟩
  ·
   intro e20 hs20 hp20
   refine zT (g:=40) (s:=(((decide (a_p2<0))||(decide (4<a_p2)))||(decide (x2<0)))||(!decide ((a_p1.tmod ((1:Int)*2 ^ a_p2.toNat))=0))) rfl hp20.1 (fun hc29=>zt.step (zB (av:=(li a_p1)) (hs20 1 rfl))) ?_
   exact zF ⟨fun _=>rfl,rfl⟩
  ·
   intro e21 hs21 hp21
   refine zT (g:=40) (s:=(((decide (a_p2<0))||(decide (4<a_p2)))||(decide (x2<0)))||(!decide ((a_p1.tmod ((1:Int)*2 ^ a_p2.toNat))=0))) rfl hp21.1 (fun hc30=>zt.step (zB (av:=(li a_p2)) (hs21 2 rfl))) ?_
   exact zF ⟨fun _=>rfl,rfl⟩
  ·
   intro e22 hs22 hp22
   refine zT (g:=40) (s:=(((decide (a_p2<0))||(decide (4<a_p2)))||(decide (x2<0)))||(!decide ((a_p1.tmod ((1:Int)*2 ^ a_p2.toNat))=0))) rfl hp22.2.1 (fun hc31=>zt.step (zCP (a:=1) (b:=a_p2) rfl (z5 hp22.1 hc31) (zEb hb5 hc31) (zEb hb6 hc31))) ?_
   exact zF ⟨fun _=>rfl,rfl⟩
  ·
   intro e23 hs23 hp23
   refine zT (g:=40) (s:=(((decide (a_p2<0))||(decide (4<a_p2)))||(decide (x2<0)))||(!decide ((a_p1.tmod ((1:Int)*2 ^ a_p2.toNat))=0))) rfl hp23.2.2.1 (fun hc32=>zt.step (ze (a:=a_p1) (b:=(1:Int)*2 ^ a_p2.toNat) (z5 hp23.1 hc32) (z5 hp23.2.1 hc32) (zEb hb7 hc32))) ?_
   exact zF ⟨fun _=>rfl,rfl⟩
  ·
   intro e24 hs24 hp24
   refine zT (g:=40) (s:=(((decide (a_p2<0))||(decide (4<a_p2)))||(decide (x2<0)))||(!decide ((a_p1.tmod ((1:Int)*2 ^ a_p2.toNat))=0))) rfl hp24.2.1 (fun hc33=>zt.step (zCB (a:=a_p1+((1:Int)*2 ^ a_p2.toNat)) (b:=1) (z5 hp24.1 hc33) rfl (zEb hb8 hc33))) ?_
   exact zF ⟨fun _=>rfl,rfl⟩
  ·
   intro e25 hs25 hp25
   refine zBf (g:=40) (s:=(((decide (a_p2<0))||(decide (4<a_p2)))||(decide (x2<0)))||(!decide ((a_p1.tmod ((1:Int)*2 ^ a_p2.toNat))=0))) (r':=(li x3)) rfl hp25.2.2.2.1 (fun hc34=>⟨44,_,_,[],[(AV.agg (zG a_p0)),(li ((a_p1+((1:Int)*2 ^ a_p2.toNat)) - 1))],[(AV.agg (zG a_p0)),(li ((a_p1+((1:Int)*2 ^ a_p2.toNat)) - 1))],li x3,[],func44,rfl,by kernel_rfl,.fn 44,(zAJ (z5 hp25.1 hc34) (zAJ (z5 hp25.2.1 hc34) rfl)),⟨zAs.nr rfl,zAs.nr rfl,trivial⟩,zCm (zFU hc34 hx3),.inl rfl,rfl⟩) ?_
   exact zF ⟨fun _=>rfl,rfl⟩
  ·
   intro e26 hs26 hp26
   refine zT (g:=40) (s:=(((decide (a_p2<0))||(decide (4<a_p2)))||(decide (x2<0)))||(!decide ((a_p1.tmod ((1:Int)*2 ^ a_p2.toNat))=0))) rfl hp26.1 (fun hc35=>zt.step (zB (av:=(li x2)) (hs26 9 rfl))) ?_
   exact zF ⟨fun _=>rfl,rfl⟩
  ·
   intro e27 hs27 hp27
   refine zT (g:=40) (s:=(((decide (a_p2<0))||(decide (4<a_p2)))||(decide (x2<0)))||(!decide ((a_p1.tmod ((1:Int)*2 ^ a_p2.toNat))=0))) rfl hp27.2.2.1 (fun hc36=>zt.step (z7 (a:=x3) (b:=x2) (z5 hp27.1 hc36) (z5 hp27.2.1 hc36))) ?_
   exact zF ⟨fun _=>rfl,rfl⟩
  ·exact D1 fun e s p=>zb (s:=(((decide (a_p2<0))||(decide (4<a_p2)))||(decide (x2<0)))||(!decide ((a_p1.tmod ((1:Int)*2 ^ a_p2.toNat))=0))) (q := !decide (x3=x2)) (j := .lit undef) p.1 p.2.1
  intro e29 hs29 hq1
  refine zV (zBa (l:=[(1,(li a_p1)),(2,(li a_p2)),(3,(AV.ptr 0 0)),(6,(AV.ptr 1 0)),(9,(li x2)),(50,(AV.lit (.bool (((((decide (a_p2<0))||(decide (4<a_p2)))||(decide (x2<0)))||(!decide ((a_p1.tmod ((1:Int)*2 ^ a_p2.toNat))=0)))||(!decide (x3=x2))))))]) ⟨hs29 1 rfl,hs29 2 rfl,hs29 3 rfl,hs29 6 rfl,hs29 9 rfl,(hq1 27 (by decide) (by decide)),trivial⟩) ?_
  refine zY h rfl (fun hb9 h => ?_) (fun hb9 h => ?_)
  ·refine zH<|zC<|zA (z8 (pl:=[(0,1),(1,1),(2,1),(3,1),(4,1)]) (zs:=[.slice none 0 0,.int .i64 0,.int .i64 0,.slice none 0 0,.slice none 0 0]) (zc:=[.sl false [],.lit (.int .i64 0),.lit (.int .i64 0),.sl false [],.sl false []]) (res:=(zG (⟨([]:List Int),0,0,([]:List zo),([]:List zL)⟩:zJ))) (fun _=>by kernel_rfl) rfl (⟨zf.nils,⟨zf.refl _,⟨zf.refl _,⟨zf.nils,⟨zf.nils,trivial⟩⟩⟩⟩⟩) (by exact zFR.refl _))<|zp (H':=[.box 26 (zG a_p0),.box 26 (zG (⟨([]:List Int),0,0,([]:List zo),([]:List zL)⟩:zJ))]) (zX (k:=1) (o:=0) (cs:=(zG ⟨[],0,0,[],[]⟩)) (la:=(zG (⟨([]:List Int),0,0,([]:List zo),([]:List zL)⟩:zJ))) sizeOf26 rfl rfl rfl rfl)<|zA (zD rfl)<|zF ?_
   refine zd ?_
   show zAP _ _ _ _ _ _
   obtain rfl:=Option.some.inj h
   exact zBl (zFZ isAgg26 sizeOf26 rfl rfl rfl rfl) (zAO rfl rfl) rfl
  ·refine zP ?_
   refine zx (fun e' H'=>Rep 89 0 e' H' (mkE [(1,(li a_p1)),(2,(li a_p2)),(3,(AV.ptr 0 0)),(6,(AV.ptr 1 0)),(9,(li x2))]) [.box 26 (zG a_p0),.box 26 (zG ⟨[],0,0,[],[]⟩)]∧zC2 a_p0 a_p1 a_p2 x2=some r) ?_ ?_
   ·
    refine zH<|zC<|zA (zB rfl)<|zA (zD rfl)<|zF<|zQ ?_
    refine z6 (σ:=Nat×Int) (fun s=>s.1) (fun s e' H'=>match s with | (n0,i1)=>Rep 89 0 e' H' (mkE [(1,(li a_p1)),(2,(li a_p2)),(3,(AV.ptr 0 0)),(6,(AV.ptr 1 0)),(9,(li x2)),(10,(li i1))]) [.box 26 (zG a_p0),.box 26 (zG ⟨[],0,0,[],[]⟩)]∧zAu a_p0 a_p1 a_p2 x2 n0 i1=some r) (z9,a_p1) ⟨zAD [0,1] rfl rfl (by kernel_rfl),h⟩ ?_
    clear h
    rintro ⟨n0,i1⟩ e' H' ⟨hrep,h⟩
    cases n0 with
    | zero=>exact absurd (show (none:Option _)=some r from h) (by simp)
    | succ n0 =>
     replace h:zBB a_p0 a_p1 a_p2 x2 (zAu a_p0 a_p1 a_p2 x2 n0) i1=some r:=h
     unfold zBB at h
     refine zV hrep ?_
     clear hrep
     refine zH<|zH<|zC<|zA (zB rfl)<|zA (zB rfl)<|zA (zB rfl) ?_
     refine zM h fun hb12 h=>zM h fun hb13 h=>zA (zCP (a:=1) (b:=a_p2) rfl rfl hb12 hb13)<|zM h fun hb14 h=>zA (ze rfl rfl hb14)<|zA (zg rfl rfl) ?_
     refine zF ?_
     refine zY h rfl (fun hb15 h => ?_) (fun hb15 h => ?_)
     ·refine zP<|zH<|zQ<|zH<|zC<|zA (zS (k:=0) (o:=0) (m:=5) isAgg26 sizeOf26 rfl rfl rfl rfl rfl) ?_
      refine zA (zB rfl)<|zA (zB rfl)<|zR h fun x6 hx6 h=>zh func50 rfl (by kernel_rfl) (.fn 50) rfl rfl (zG7 hx6) rfl<|zF ?_
      refine zY h rfl (fun hb16 h => ?_) (fun hb16 h => ?_)
      ·refine zH<|zC<|zA (z8 (pl:=[(0,1),(1,1),(2,1),(3,1),(4,1)]) (zs:=[.slice none 0 0,.int .i64 0,.int .i64 0,.slice none 0 0,.slice none 0 0]) (zc:=[.sl false [],.lit (.int .i64 0),.lit (.int .i64 0),.sl false [],.sl false []]) (res:=(zG (⟨([]:List Int),0,0,([]:List zo),([]:List zL)⟩:zJ))) (fun _=>by kernel_rfl) rfl (⟨zf.nils,⟨zf.refl _,⟨zf.refl _,⟨zf.nils,⟨zf.nils,trivial⟩⟩⟩⟩⟩) (by exact zFR.refl _))<|zp (H':=[.box 26 (zG a_p0),.box 26 (zG (⟨([]:List Int),0,0,([]:List zo),([]:List zL)⟩:zJ))]) (zX (k:=1) (o:=0) (cs:=(zG ⟨[],0,0,[],[]⟩)) (la:=(zG (⟨([]:List Int),0,0,([]:List zo),([]:List zL)⟩:zJ))) sizeOf26 rfl rfl rfl rfl)<|zA (zD rfl)<|zF ?_
       refine zd ?_
       show zAP _ _ _ _ _ _
       obtain rfl:=Option.some.inj h
       exact zBl (zFZ isAgg26 sizeOf26 rfl rfl rfl rfl) (zAO rfl rfl) rfl
      ·refine zP<|zC<|zA (zB rfl)<|zM h fun hb17 h=>zA (ze rfl rfl hb17)<|zA (zD rfl) ?_
       refine zF ?_
       exact ⟨(n0,(i1+1)),Nat.lt_succ_self _,zAD [0,1] rfl rfl (by kernel_rfl),h⟩
     ·refine zy ?_
      exact ⟨zAD [0,1] rfl rfl (by kernel_rfl),h⟩
   ·
    clear h
    rintro e' H' ⟨hrep,h⟩
    refine zV hrep ?_
    clear hrep
    unfold zC2 at h
    refine zH<|zC<|zA (zS (k:=0) (o:=0) (m:=5) isAgg26 sizeOf26 rfl rfl rfl rfl rfl)<|zR h fun x4 hx4 h=>zHP (cs:=[ls cI x4.nodes,li x4.batch,li x4.high,AV.osl 51 10 (List.map zO x4.zones),AV.osl 55 1 (List.map zI x4.caches)]) (la:=[(AV.agg (zG a_p0))]) (la':=[(AV.agg (zG a_p0))]) (S:=[]) func54 rfl (by kernel_rfl) (.fn 54) rfl ⟨zAs.nr rfl,trivial⟩ (zDH hx4) (.inl rfl)<|za (H':=[.box 26 (zG a_p0),.box 26 (zG ⟨[],0,0,[],[]⟩),.val (.agg [ls cI x4.nodes,li x4.batch,li x4.high,AV.osl 51 10 (List.map zO x4.zones),AV.osl 55 1 (List.map zI x4.caches)]),.box 26 (zG ⟨[],0,0,[],[]⟩)]) (zu (t:=26) (vs:=[.slice none 0 0,.int .i64 0,.int .i64 0,.slice none 0 0,.slice none 0 0]) (cs:=[.sl false [],.lit (.int .i64 0),.lit (.int .i64 0),.sl false [],.sl false []]) zeroValue26 (by kernel_rfl) rfl ⟨zf.nils,zf.refl _,zf.refl _,zf.nils,zf.nils,trivial⟩) ?_
    refine zp (H':=[.box 26 (zG a_p0),.box 26 (zG ⟨[],0,0,[],[]⟩),.dead,.box 26 [ls cI x4.nodes,li x4.batch,li x4.high,AV.osl 51 10 (List.map zO x4.zones),AV.osl 55 1 (List.map zI x4.caches)]]) (zCs (k:=3) (o:=0) (j:=2) (cs:=(zG ⟨[],0,0,[],[]⟩)) (la:=[ls cI x4.nodes,li x4.batch,li x4.high,AV.osl 51 10 (List.map zO x4.zones),AV.osl 55 1 (List.map zI x4.caches)]) sizeOf26 rfl rfl rfl rfl rfl (by decide))<|zF<|zH<|zC<|zA (zK underlying26 rfl rfl sizeOf23 rfl)<|zAF (zBE (k:=3) (o:=3) (t':=51) (sz:=10) (rows:=List.map zO x4.zones) rfl rfl) ?_
    refine zA (zN isAgg23 rfl rfl rfl rfl)<|zA (zB rfl)<|zM h fun hb10 h=>zA (zAC (f:=zO) (l:=x4.zones) (i:=x2) underlying23 sizeOf51 rfl rfl rfl hb10)<|zA (zCj (f:=zO) (l:=x4.zones) (i:=x2) (c:=0) (q:=10) (la:=(zO (at_ x4.zones x2))) isAgg51 sizeOf51 rfl rfl (by first | rfl | omega) hb10 rfl rfl rfl)<|zA (zB rfl) ?_
    refine zA (zB rfl)<|zR h fun x5 hx5 h=>zh func71 rfl (by kernel_rfl) (.fn 71) rfl rfl (zKn hx5) rfl<|zA (zB rfl)<|zA (zj rfl rfl)<|zA (zj rfl rfl) ?_
    refine za (H':=[.box 26 (zG a_p0),.box 26 (zG ⟨[],0,0,[],[]⟩),.dead,.box 26 [ls cI x4.nodes,li x4.batch,li x4.high,AV.hd 4,AV.osl 55 1 (List.map zI x4.caches)],.vec 51 10 (List.map zO x4.zones),.box 51 (zO ⟨0,0,0,0,0,(List.replicate 5 ([]:List Int))⟩)]) (zu (t:=51) (vs:=[.int .i64 0,.int .i64 0,.int .i64 0,.int .i64 0,.int .i64 0,.slice none 0 0,.slice none 0 0,.slice none 0 0,.slice none 0 0,.slice none 0 0]) (cs:=[.lit (.int .i64 0),.lit (.int .i64 0),.lit (.int .i64 0),.lit (.int .i64 0),.lit (.int .i64 0),.sl false [],.sl false [],.sl false [],.sl false [],.sl false []]) zeroValue51 (by kernel_rfl) rfl ⟨zf.refl _,zf.refl _,zf.refl _,zf.refl _,zf.refl _,zf.nils,zf.nils,zf.nils,zf.nils,zf.nils,trivial⟩)<|zp (H':=[.box 26 (zG a_p0),.box 26 (zG ⟨[],0,0,[],[]⟩),.dead,.box 26 [ls cI x4.nodes,li x4.batch,li x4.high,AV.hd 4,AV.osl 55 1 (List.map zI x4.caches)],.vec 51 10 (List.map zO x4.zones),.box 51 (zO x5.1)]) (zX (k:=5) (o:=0) (cs:=(zO ⟨0,0,0,0,0,(List.replicate 5 ([]:List Int))⟩)) (la:=(zO x5.1)) sizeOf51 rfl rfl rfl rfl)<|zA (zD rfl)<|zF<|zH<|zH ?_
    refine zC<|zA (zB rfl)<|zA (z7 rfl rfl)<|zF ?_
    refine zY h rfl (fun hb11 h => ?_) (fun hb11 h => ?_)
    ·refine zH<|zC<|zA (z8 (pl:=[(0,1),(1,1),(2,1),(3,1),(4,1)]) (zs:=[.slice none 0 0,.int .i64 0,.int .i64 0,.slice none 0 0,.slice none 0 0]) (zc:=[.sl false [],.lit (.int .i64 0),.lit (.int .i64 0),.sl false [],.sl false []]) (res:=(zG (⟨([]:List Int),0,0,([]:List zo),([]:List zL)⟩:zJ))) (fun _=>by kernel_rfl) rfl (⟨zf.nils,⟨zf.refl _,⟨zf.refl _,⟨zf.nils,⟨zf.nils,trivial⟩⟩⟩⟩⟩) (by exact zFR.refl _))<|zA (zB rfl)<|zp (H':=[.box 26 (zG a_p0),.box 26 (zG (⟨([]:List Int),0,0,([]:List zo),([]:List zL)⟩:zJ)),.dead,.box 26 [ls cI x4.nodes,li x4.batch,li x4.high,AV.hd 4,AV.osl 55 1 (List.map zI x4.caches)],.vec 51 10 (List.map zO x4.zones),.box 51 (zO x5.1)]) (zX (k:=1) (o:=0) (cs:=(zG ⟨[],0,0,[],[]⟩)) (la:=(zG (⟨([]:List Int),0,0,([]:List zo),([]:List zL)⟩:zJ))) sizeOf26 rfl rfl rfl rfl)<|zA (zD rfl) ?_
     refine zF<|zd ?_
     show zAP _ _ _ _ _ _
     obtain rfl:=Option.some.inj h
     exact zBl (zFZ isAgg26 sizeOf26 rfl rfl rfl rfl) (zAO rfl rfl) rfl
    ·refine zP<|zH<|zC<|zA (zK underlying26 rfl rfl sizeOf23 rfl)<|zA (zN isAgg23 rfl rfl rfl rfl)<|zA (zB rfl) ?_
     refine zA (zS (k:=5) (o:=0) (m:=10) isAgg51 sizeOf51 rfl rfl rfl rfl rfl)<|zA (zAC (f:=zO) (l:=x4.zones) (i:=x2) underlying23 sizeOf51 rfl rfl rfl hb10)<|zp (H':=[.box 26 (zG a_p0),.box 26 (zG ⟨[],0,0,[],[]⟩),.dead,.box 26 [ls cI x4.nodes,li x4.batch,li x4.high,AV.hd 4,AV.osl 55 1 (List.map zI x4.caches)],.vec 51 10 (List.map zO (x4.zones.set x2.toNat x5.1)),.box 51 (zO x5.1)]) (zCN (k:=4) (o:=(x2.toNat*10)) (f:=zO) (l:=x4.zones) (i:=x2) (z:=x5.1) sizeOf51 (fun _=>rfl) rfl rfl (by first | rfl | omega) hb10 rfl rfl)<|zF<|zH<|zC ?_
     refine zAF (zAK (k:=3) (j:=4) (o:=3) rfl rfl rfl rfl)<|zAF (zBV (k:=3) (o:=3) (rows':=List.map zO (x4.zones.set x2.toNat x5.1)) rfl rfl (zAL (fun _=>rfl)))<|zAF (zBV (k:=3) (o:=4) (rows':=List.map zI x4.caches) rfl rfl (zAL (fun _=>rfl)))<|zA (zS (k:=3) (o:=0) (m:=5) isAgg26 sizeOf26 rfl rfl rfl rfl rfl)<|zp (H':=[.box 26 (zG a_p0),.box 26 (zG (⟨x4.nodes,x4.batch,x4.high,x4.zones.set x2.toNat x5.1,x4.caches⟩:zJ)),.dead,.box 26 (zG ⟨x4.nodes,x4.batch,x4.high,x4.zones.set x2.toNat x5.1,x4.caches⟩),.dead,.box 51 (zO x5.1)]) (zX (k:=1) (o:=0) (cs:=(zG ⟨[],0,0,[],[]⟩)) (la:=(zG (⟨x4.nodes,x4.batch,x4.high,x4.zones.set x2.toNat x5.1,x4.caches⟩:zJ))) sizeOf26 rfl rfl rfl rfl)<|zA (zD rfl) ?_
     refine zF<|zd ?_
     show zAP _ _ _ _ _ _
     obtain rfl:=Option.some.inj h
     exact zBl (zFZ isAgg26 sizeOf26 rfl rfl rfl rfl) (zAO rfl rfl) rfl
theorem zLY {a_nodes:List Int} {a_batch:Int} {a_high:Int} {a_zones:Int} {r:Bool} (h:zGE a_nodes a_batch a_high a_zones=some r):PFn prog 46 [ls cI a_nodes,li a_batch,li a_high,li a_zones] (AV.lit (.bool r)):=by
 refine zq func46 rfl ntmps46 results46 rfl ?_
 unfold zGE at h
 refine zH<|zC<|zA (zD rfl)<|zF<|zH<|zH ?_
 refine zC<|zA (zB rfl)<|zA (zZ underlying22 rfl)<|zA (zg rfl rfl)<|zA (zB rfl)<|zT rfl rfl (fun hc1=>zt.step (zB rfl)) ?_
 refine zT rfl rfl (fun hc2=>zt.step (zZ underlying22 (z5 rfl hc2)))<|zT rfl rfl (fun hc3=>zt.step (zAm (z5 rfl hc3) rfl))<|zA (zb rfl rfl)<|zA (zB rfl)<|zT rfl rfl (fun hc4=>zt.step (zB rfl))<|zT rfl rfl (fun hc5=>zt.step (zg (z5 rfl hc5) rfl)) ?_
 refine zA (zb rfl rfl)<|zA (zB rfl)<|zT rfl rfl (fun hc6=>zt.step (zB rfl))<|zT rfl rfl (fun hc7=>zt.step (zB rfl))<|zT rfl rfl (fun hc8=>zt.step (zAm (z5 rfl hc8) (z5 rfl hc8)))<|zA (zb rfl rfl) ?_
 refine zA (zB rfl)<|zT rfl rfl (fun hc9=>zt.step (zB rfl))<|zT rfl rfl (fun hc10=>zt.step (zAm (z5 rfl hc10) rfl))<|zA (zb rfl rfl)<|zA (zB rfl)<|zT rfl rfl (fun hc11=>zt.step (zB rfl)) ?_
 refine zT rfl rfl (fun hc12=>zt.step (zg (z5 rfl hc12) rfl))<|zA (zb rfl rfl)<|zA (zB rfl)<|zT rfl rfl (fun hc13=>zt.step (zB rfl))<|zT rfl rfl (fun hc14=>zt.step (zAm (z5 rfl hc14) rfl))<|zA (zb rfl rfl) ?_
 refine zF ?_
 refine zY h rfl (fun hb1 h => ?_) (fun hb1 h => ?_)
 ·refine zH<|zC<|zA (zD rfl)<|zF<|zd ?_
  show zAP _ _ _ _ _ _
  obtain rfl:=Option.some.inj h
  exact zv (zAO rfl rfl)
 ·refine zP ?_
  refine zx (fun e' H'=>Rep 57 0 e' H' (mkE []) []∧zHk  = some r) ?_ ?_
  ·
   refine zH<|zC<|zA (zD rfl)<|zF<|zQ<|z6 (σ:=Nat×Int) (fun s=>s.1) (fun s e' H'=>match s with | (n0,i1)=>Rep 57 0 e' H' (mkE [(0,(ls cI a_nodes)),(9,(li i1))]) []∧zER a_nodes n0 i1=some r) (z9,0) ⟨zAD [] rfl rfl (by kernel_rfl),h⟩ ?_
   clear h
   rintro ⟨n0,i1⟩ e' H' ⟨hrep,h⟩
   cases n0 with
   | zero=>exact absurd (show (none:Option _)=some r from h) (by simp)
   | succ n0 =>
    replace h:zCa a_nodes (zER a_nodes n0) i1=some r:=h
    unfold zCa at h
    refine zV hrep ?_
    clear hrep
    refine zH<|zH<|zC<|zA (zB rfl)<|zA (zB rfl)<|zA (zZ underlying22 rfl) ?_
    refine zA (zg rfl rfl)<|zF ?_
    refine zY h rfl (fun hb2 h => ?_) (fun hb2 h => ?_)
    ·refine zP<|zH<|zQ<|zH<|zC<|zA (zB rfl) ?_
     refine zA (zB rfl)<|zM h fun hb3 h=>zA (zU underlying22 sizeOf3 (fun _=>rfl) rfl rfl hb3)<|zA (zW (o:=0) isAgg3 rfl rfl)<|zA (zg rfl rfl)<|zA (zB rfl) ?_
     refine zT rfl rfl (fun hc15=>zt.step (zB rfl))<|zT rfl rfl (fun hc16=>zt.step (zB rfl))<|zT rfl rfl (fun hc17=>zt.step (zU underlying22 sizeOf3 (fun _=>rfl) (z5 rfl hc17) (z5 rfl hc17) hb3))<|zT rfl rfl (fun hc18=>zt.step (zW (o:=0) isAgg3 (z5 rfl hc18) rfl))<|zT rfl rfl (fun hc19=>zt.step (zAv (z5 rfl hc19) rfl))<|zA (zb rfl rfl) ?_
     refine zF ?_
     refine zY h rfl (fun hb4 h => ?_) (fun hb4 h => ?_)
     ·refine zH<|zC<|zA (zD rfl)<|zF<|zd ?_
      show zAP _ _ _ _ _ _
      obtain rfl:=Option.some.inj h
      exact zv (zAO rfl rfl)
     ·refine zP<|zC<|zA (zB rfl)<|zM h fun hb5 h=>zA (ze rfl rfl hb5)<|zA (zD rfl) ?_
      refine zF ?_
      exact ⟨(n0,(i1+1)),Nat.lt_succ_self _,zAD [] rfl rfl (by kernel_rfl),h⟩
    ·refine zy ?_
     exact ⟨zAD [] rfl rfl (by kernel_rfl),h⟩
  ·
   clear h
   rintro e' H' ⟨hrep,h⟩
   refine zV hrep ?_
   clear hrep
   unfold zHk at h
   refine zH<|zC<|zA (zD rfl)<|zF<|zd ?_
   show zAP _ _ _ _ _ _
   obtain rfl:=Option.some.inj h
   exact zv (zAO rfl rfl)
theorem zLU {a_z:zo} {r:Bool} (h:zGY a_z=some r):PFn prog 93 [(AV.agg (zO a_z))] (AV.lit (.bool r)):=by
 refine zq func93 rfl ntmps93 results93 rfl ?_
 unfold zGY at h
 refine zH<|zC<|za (H':=[.box 51 (zO a_z)]) (zw (t:=51) rfl)<|zA (zD rfl)<|zF<|zH ?_
 refine zH<|zC<|zA (zK underlying51 rfl rfl sizeOf3 rfl)<|zA (zN isAgg3 rfl rfl rfl rfl)<|zA (zg rfl rfl)<|zA (zB rfl) ?_
 refine zT rfl rfl (fun hc1=>zt.step (zK underlying51 rfl rfl sizeOf3 rfl))<|zT rfl rfl (fun hc2=>zt.step (zN isAgg3 (z5 rfl hc2) rfl rfl rfl))<|zT rfl rfl (fun hc3=>zt.step (zAv (z5 rfl hc3) rfl))<|zA (zb rfl rfl)<|zA (zB rfl)<|zT rfl rfl (fun hc4=>zt.step (zK underlying51 rfl rfl sizeOf3 rfl)) ?_
 refine zT rfl rfl (fun hc5=>zt.step (zN isAgg3 (z5 rfl hc5) rfl rfl rfl))<|zT rfl rfl (fun hc6=>zt.step (z7 (z5 rfl hc6) rfl))<|zT rfl rfl (fun hc7=>zt.step (zB (z5 rfl hc7)))<|zKU (g:=15) (s' := !((decide (a_z.node<0))||(decide (4≤a_z.node)))) (s := !decide (a_z.kind=0)) rfl rfl (fun hc8=>zt.step (zK underlying51 rfl rfl sizeOf3 rfl))<|zKU (g:=15) (s' := !((decide (a_z.node<0))||(decide (4≤a_z.node)))) (s := !decide (a_z.kind=0)) rfl rfl (fun hc9=>zt.step (zN isAgg3 (z5 rfl hc9) rfl rfl rfl))<|zKU (g:=15) (s' := !((decide (a_z.node<0))||(decide (4≤a_z.node)))) (s := !decide (a_z.kind=0)) rfl rfl (fun hc10=>zt.step (z7 (z5 rfl hc10) rfl)) ?_
 refine zT rfl rfl (fun hc11=>zt.step (zz (j := .lit undef) (z5 rfl hc11) (zNg (c := !((decide (a_z.node<0))||(decide (4≤a_z.node)))) (d := !decide (a_z.kind=0)) (a:=(AV.lit (.bool (!decide (a_z.kind=1))))) (j := .lit undef) rfl hc11)))<|zA (zb rfl rfl)<|zF ?_
 refine zY h rfl (fun hb1 h => ?_) (fun hb1 h => ?_)
 ·refine zH<|zC<|zA (zD rfl)<|zF<|zd ?_
  show zAP _ _ _ _ _ _
  obtain rfl:=Option.some.inj h
  exact zv (zAO rfl rfl)
 ·refine zP<|zH<|zC<|zA (zK underlying51 rfl rfl sizeOf3 rfl)<|zA (zN isAgg3 rfl rfl rfl rfl)<|zA (zAv rfl rfl) ?_
  refine zA (zB rfl)<|zm rfl rfl (fun hc12=>zt.step (zK underlying51 rfl rfl sizeOf3 rfl))<|zm rfl rfl (fun hc13=>zt.step (zN isAgg3 (z5 rfl hc13) rfl rfl rfl))<|zm rfl rfl (fun hc14=>zt.step (zAv (z5 rfl hc14) rfl))<|zA (zz (j := .lit undef) rfl rfl)<|zA (zB rfl) ?_
  refine zm rfl rfl (fun hc15=>zt.step (zK underlying51 rfl rfl sizeOf3 rfl))<|zm rfl rfl (fun hc16=>zt.step (zN isAgg3 (z5 rfl hc16) rfl rfl rfl))<|zm rfl rfl (fun hc17=>zt.step (zC0 (z5 rfl hc17) rfl))<|zA (zz (j := .lit undef) rfl rfl)<|zA (zB rfl)<|zm rfl rfl (fun hc18=>zt.step (zK underlying51 rfl rfl sizeOf3 rfl)) ?_
  refine zm rfl rfl (fun hc19=>zt.step (zN isAgg3 (z5 rfl hc19) rfl rfl rfl))<|zm rfl rfl (fun hc20=>zt.step (zK underlying51 rfl rfl sizeOf3 rfl))<|zm rfl rfl (fun hc21=>zt.step (zN isAgg3 (z5 rfl hc21) rfl rfl rfl))<|zM h fun hb2 h=>zm rfl rfl (fun hc22=>zt.step (zCB rfl (z5 rfl hc22) (zEb hb2 hc22)))<|zm rfl rfl (fun hc23=>zt.step (zC0 (z5 rfl hc23) (z5 rfl hc23))) ?_
  refine zA (zz (j := .lit undef) rfl rfl)<|zA (zB rfl)<|zm rfl rfl (fun hc24=>zt.step (zK underlying51 rfl rfl sizeOf3 rfl))<|zm rfl rfl (fun hc25=>zt.step (zN isAgg3 (z5 rfl hc25) rfl rfl rfl))<|zm rfl rfl (fun hc26=>zt.step (zAv (z5 rfl hc26) rfl))<|zA (zz (j := .lit undef) rfl rfl) ?_
  refine zA (zB rfl)<|zm rfl rfl (fun hc27=>zt.step (zK underlying51 rfl rfl sizeOf3 rfl))<|zm rfl rfl (fun hc28=>zt.step (zN isAgg3 (z5 rfl hc28) rfl rfl rfl))<|zm rfl rfl (fun hc29=>zt.step (zK underlying51 rfl rfl sizeOf3 rfl))<|zm rfl rfl (fun hc30=>zt.step (zN isAgg3 (z5 rfl hc30) rfl rfl rfl))<|zm rfl rfl (fun hc31=>zt.step (zC0 (z5 rfl hc31) (z5 rfl hc31))) ?_
  refine zA (zz (j := .lit undef) rfl rfl)<|zA (zD rfl)<|zF<|zd ?_
  show zAP _ _ _ _ _ _
  obtain rfl:=Option.some.inj h
  exact zv (zAO rfl rfl)
theorem zEW {a_z:zo} {a_frame:Int} {a_order:Int} {r:Bool} (h:zBR a_z a_frame a_order=some r):PFn prog 72 [(AV.agg (zO a_z)),li a_frame,li a_order] (AV.lit (.bool r)):=by
 refine zq func72 rfl ntmps72 results72 rfl ?_
 unfold zBR at h
 refine zH<|zC<|za (H':=[.box 51 (zO a_z)]) (zw (t:=51) rfl)<|zA (zD rfl)<|zF<|zH ?_
 refine zH<|zC<|zA (zB rfl)<|zA (zg rfl rfl)<|zA (zB rfl)<|zT rfl rfl (fun hc1=>zt.step (zB rfl)) ?_
 refine zT rfl rfl (fun hc2=>zt.step (zAm (z5 rfl hc2) rfl))<|zA (zb rfl rfl)<|zA (zB rfl)<|zT rfl rfl (fun hc3=>zt.step (zB rfl))<|zT rfl rfl (fun hc4=>zt.step (zK underlying51 rfl rfl sizeOf3 rfl))<|zT rfl rfl (fun hc5=>zt.step (zN isAgg3 (z5 rfl hc5) rfl rfl rfl)) ?_
 refine zT rfl rfl (fun hc6=>zt.step (zg (z5 rfl hc6) (z5 rfl hc6)))<|zA (zb rfl rfl)<|zA (zB rfl)<|zT rfl rfl (fun hc7=>zt.step (zB rfl))<|zT rfl rfl (fun hc8=>zt.step (zK underlying51 rfl rfl sizeOf3 rfl))<|zT rfl rfl (fun hc9=>zt.step (zN isAgg3 (z5 rfl hc9) rfl rfl rfl)) ?_
 refine zT rfl rfl (fun hc10=>zt.step (zK underlying51 rfl rfl sizeOf3 rfl))<|zT rfl rfl (fun hc11=>zt.step (zN isAgg3 (z5 rfl hc11) rfl rfl rfl))<|zM h fun hb1 h=>zT rfl rfl (fun hc12=>zt.step (ze (z5 rfl hc12) (z5 rfl hc12) (zEb hb1 hc12)))<|zT rfl rfl (fun hc13=>zt.step (zAv (z5 rfl hc13) (z5 rfl hc13)))<|zA (zb rfl rfl) ?_
 refine zF ?_
 refine zY h rfl (fun hb2 h => ?_) (fun hb2 h => ?_)
 ·refine zH<|zC<|zA (zD rfl)<|zF<|zd ?_
  show zAP _ _ _ _ _ _
  obtain rfl:=Option.some.inj h
  exact zv (zAO rfl rfl)
 ·refine zP<|zH<|zC<|zA (zB rfl)<|zA (zB rfl)<|zM h fun hb3 h => ?_
  refine zA (zFm (k' := .u64) (a:=a_order) underlying3 underlying74 rfl hb3)<|zM h fun hb4 h=>zM h fun hb5 h=>zA (zCP (a:=1) (b:=a_order) rfl rfl hb4 hb5)<|zM h fun hb6 h=>zA (zNO (k := .i64) (a:=a_frame) (b:=(1:Int)*2 ^ a_order.toNat) rfl rfl hb6) ?_
  refine zA (zBd rfl rfl)<|zA (zB rfl)<|zm rfl rfl (fun hc14=>zt.step (zB rfl))<|zm rfl rfl (fun hc15=>zt.step (zB rfl))<|zm rfl rfl (fun hc16=>zt.step (zFm (k' := .u64) (a:=a_order) underlying3 underlying74 (z5 rfl hc16) hb3))<|zm rfl rfl (fun hc17=>zt.step (zCP (a:=1) (b:=a_order) rfl (z5 rfl hc17) hb4 hb5)) ?_
  refine zM h fun hb7 h=>zm rfl rfl (fun hc18=>zt.step (ze (z5 rfl hc18) (z5 rfl hc18) (zEb hb7 hc18)))<|zm rfl rfl (fun hc19=>zt.step (zK underlying51 rfl rfl sizeOf3 rfl))<|zm rfl rfl (fun hc20=>zt.step (zN isAgg3 (z5 rfl hc20) rfl rfl rfl))<|zm rfl rfl (fun hc21=>zt.step (zK underlying51 rfl rfl sizeOf3 rfl))<|zm rfl rfl (fun hc22=>zt.step (zN isAgg3 (z5 rfl hc22) rfl rfl rfl)) ?_
  refine zM h fun hb8 h=>zm rfl rfl (fun hc23=>zt.step (ze (z5 rfl hc23) (z5 rfl hc23) (zEb hb8 hc23)))<|zm rfl rfl (fun hc24=>zt.step (zC0 (z5 rfl hc24) (z5 rfl hc24)))<|zA (zz (j := .lit undef) rfl rfl)<|zA (zD rfl)<|zF ?_
  refine zd ?_
  show zAP _ _ _ _ _ _
  obtain rfl:=Option.some.inj h
  exact zv (zAO rfl rfl)
theorem zKz {a_z:zo} {r:Int} (h:zGF a_z=some r):PFn prog 94 [(AV.agg (zO a_z))] (li r):=by
 refine zq func94 rfl ntmps94 results94 rfl ?_
 unfold zGF at h
 refine zH<|zC<|za (H':=[.box 51 (zO a_z)]) (zw (t:=51) rfl)<|zA (zD rfl)<|zF ?_
 refine zx (fun e' H'=>Rep 49 0 e' H' (mkE []) []∧zGi  = some r) ?_ ?_
 ·
  refine zH<|zC<|zA (zD rfl)<|zF<|zQ<|z6 (σ:=Nat×Int) (fun s=>s.1) (fun s e' H'=>match s with | (n0,i1)=>Rep 49 0 e' H' (mkE [(1,(AV.ptr 0 0)),(3,(li i1))]) [.box 51 (zO a_z)]∧zBD a_z n0 i1=some r) (z9,0) ⟨zAD [0] rfl rfl (by kernel_rfl),h⟩ ?_
  clear h
  rintro ⟨n0,i1⟩ e' H' ⟨hrep,h⟩
  cases n0 with
  | zero=>exact absurd (show (none:Option _)=some r from h) (by simp)
  | succ n0 =>
   replace h:zB4 a_z (zBD a_z n0) i1=some r:=h
   unfold zB4 at h
   refine zV hrep ?_
   clear hrep
   refine zH<|zH<|zC<|zA (zB rfl)<|zA (zC0 rfl rfl)<|zF ?_
   refine zY h rfl (fun hb1 h => ?_) (fun hb1 h => ?_)
   ·refine zP ?_
    refine zx (fun e' H'=>Rep 49 0 e' H' (mkE [(1,(AV.ptr 0 0)),(3,(li i1))]) [.box 51 (zO a_z)]∧zEq (zBD a_z n0) i1=some r) ?_ ?_
    ·
     refine zQ<|zH<|zC<|zA (zD rfl)<|zF<|zQ ?_
     refine z6 (σ:=Nat×Int) (fun s=>s.1) (fun s e' H'=>match s with | (n1,i2)=>Rep 49 0 e' H' (mkE [(1,(AV.ptr 0 0)),(3,(li i1)),(4,(li i2))]) [.box 51 (zO a_z)]∧zDA (zBD a_z n0) a_z i1 n1 i2=some r) (z9,0) ⟨zAD [0] rfl rfl (by kernel_rfl),h⟩ ?_
     clear h
     rintro ⟨n1,i2⟩ e' H' ⟨hrep,h⟩
     cases n1 with
     | zero=>exact absurd (show (none:Option _)=some r from h) (by simp)
     | succ n1 =>
      replace h:zCC (zBD a_z n0) a_z i1 (zDA (zBD a_z n0) a_z i1 n1) i2=some r:=h
      unfold zCC at h
      refine zV hrep ?_
      clear hrep
      refine zH<|zH<|zC<|zA (zB rfl)<|zA (zB rfl)<|zA (zK underlying51 rfl rfl sizeOf49 rfl) ?_
      refine zM h fun hb3 h=>zA (zAN (m:=5) (s:=1) (i:=i1) (k:=0) (o:=5) underlying49 sizeOf22 rfl rfl hb3)<|zA (zAp (k:=0) (o:=(5+i1.toNat*1)) (cs:=(zO a_z)) (hd:=([li a_z.node]++[li a_z.kind]++[li a_z.start]++[li a_z.count]++[li a_z.min]++[])) (tl:=([])) (g:=(eS cI)) (d0:=([]:List Int)) (l:=a_z.free) (N:=5) (i:=i1.toNat) (a:=(ls cI (a_z.free.getD i1.toNat ([]:List Int)))) isAgg22 rfl rfl rfl (congrArg (fun q=>5+q) (Nat.mul_one _)) (zBT hb3).2 rfl rfl)<|zA (zZ underlying22 rfl)<|zA (zg rfl rfl)<|zF ?_
      refine zY h rfl (fun hb4 h => ?_) (fun hb4 h => ?_)
      ·refine zP<|zH<|zQ<|zH<|zH<|zM h fun hb5 h => ?_
       refine zR h fun x1 hx1 h => ?_
       show AW _ _ _ _ _ _ [.box 51 (zO a_z)]
       refine zA2 (n:=49) (m:=0) [.head 0 0,.head 0 0,.head 0 0,.head 0 0,.head 0 0,.head 0 0,.head 0 0,.head 0 0,.head 0 0,.head 0 0,.head 0 0] [] [(AV.agg (zO a_z)),li i1,AV.ptr 0 5,(AV.ptr 0 (5+i1.toNat*1)),(ls cI (a_z.free.getD i1.toNat ([]:List Int))),li i2,(AV.rp (cI (at_ (a_z.free.getD i1.toNat ([]:List Int)) i2)) 0),(li (at_ (a_z.free.getD i1.toNat ([]:List Int)) i2)),li i1,(AV.lit (.bool x1)),(AV.lit (.bool (!x1)))] [[.box 51 (zO a_z)]] (by kernel_rfl) (by kernel_rfl) ⟨?_,?_,?_,?_,?_,?_,?_,?_,?_,?_,?_,trivial⟩ ?_
       ·exact D1 fun e s p=>zS (k:=0) (o:=0) (m:=10) isAgg51 sizeOf51 (s 1 rfl) rfl rfl rfl rfl
       ·exact D1 fun e s p=>zB (s 3 rfl)
       ·exact D1 fun e s p=>zK (k:=0) (o:=0) (off:=5) underlying51 rfl rfl sizeOf49 (s 1 rfl)
       ·exact D1 fun e s p=>zAN (m:=5) (s:=1) (i:=i1) (k:=0) (o:=5) underlying49 sizeOf22 p.1 p.2.1 hb3
       ·exact D1 fun e s p=>zAp (k:=0) (o:=(5+i1.toNat*1)) (cs:=(zO a_z)) (hd:=([li a_z.node]++[li a_z.kind]++[li a_z.start]++[li a_z.count]++[li a_z.min]++[])) (tl:=([])) (g:=(eS cI)) (d0:=([]:List Int)) (l:=a_z.free) (N:=5) (i:=i1.toNat) (a:=(ls cI (a_z.free.getD i1.toNat ([]:List Int)))) isAgg22 p.1 rfl rfl (congrArg (fun q=>5+q) (Nat.mul_one _)) (zBT hb3).2 rfl rfl
       ·exact D1 fun e s p=>zB (s 4 rfl)
       ·exact D1 fun e s p=>zU (f:=cI) (l:=a_z.free.getD i1.toNat ([]:List Int)) (i:=i2) underlying22 sizeOf3 (fun _=>rfl) p.1 p.2.1 hb5
       ·exact D1 fun e s p=>zW (o:=0) isAgg3 p.1 rfl
       ·exact D1 fun e s p=>zB (s 3 rfl)
       ·
        intro e10 hs10 hp10
        refine zh (r:=(AV.lit (.bool x1))) (la:=[(AV.agg (zO a_z)),(li (at_ (a_z.free.getD i1.toNat ([]:List Int)) i2)),li i1]) func72 rfl (by kernel_rfl) (.fn 72) (zAJ hp10.1 (zAJ hp10.2.1 (zAJ hp10.2.2.1 rfl))) rfl (zEW hx1) rfl ?_
        exact zF ⟨fun _=>rfl,rfl⟩
       ·exact D1 fun e s p=>zA4 (t:=x1) p.1
       intro e12 hs12 hq1
       refine zV (zBa (l:=[(1,(AV.ptr 0 0)),(3,(li i1)),(4,(li i2)),(28,(AV.lit (.bool (!x1))))]) ⟨hs12 1 rfl,hs12 3 rfl,hs12 4 rfl,(hq1 10 (by decide) (by decide)),trivial⟩) ?_
       refine zY h rfl (fun hb6 h => ?_) (fun hb6 h => ?_)
       ·refine zH<|zC<|zA (zD rfl)<|zF<|zd ?_
        show zAP _ _ _ _ _ _
        obtain rfl:=Option.some.inj h
        exact zv (zAO rfl rfl)
       ·refine zP<|zH<|zM h fun hb7 h=>zM h fun hb8 h => ?_
        show AW _ _ _ _ _ _ [.box 51 (zO a_z)]
        refine zA2 (n:=49) (m:=0) [.head 0 0,.head 0 0,.head 0 0,.head 0 0,.head 0 0,.head 0 0,.head 0 0,.head 0 0,.head 0 0,.head 0 0,.head 0 0,.head 0 0,.head 0 0,.head 0 0,.head 0 0,.head 0 0,.head 0 0,.head 0 0,.head 0 0,.head 0 0] [] [li i2,(AV.lit (.bool (decide (0<i2)))),(AV.lit (.bool (decide (0<i2)))),(bif decide (0<i2) then (li i1) else .lit undef),(bif decide (0<i2) then (AV.ptr 0 5) else .lit undef),(bif decide (0<i2) then (AV.ptr 0 (5+i1.toNat*1)) else .lit undef),(bif decide (0<i2) then (ls cI (a_z.free.getD i1.toNat ([]:List Int))) else .lit undef),(bif decide (0<i2) then (li i2) else .lit undef),(bif decide (0<i2) then (AV.rp (cI (at_ (a_z.free.getD i1.toNat ([]:List Int)) i2)) 0) else .lit undef),(bif decide (0<i2) then (li (at_ (a_z.free.getD i1.toNat ([]:List Int)) i2)) else .lit undef),(bif decide (0<i2) then (li i1) else .lit undef),(bif decide (0<i2) then (AV.ptr 0 5) else .lit undef),(bif decide (0<i2) then (AV.ptr 0 (5+i1.toNat*1)) else .lit undef),(bif decide (0<i2) then (ls cI (a_z.free.getD i1.toNat ([]:List Int))) else .lit undef),(bif decide (0<i2) then (li i2) else .lit undef),(bif decide (0<i2) then (li (i2 - 1)) else .lit undef),(bif decide (0<i2) then (AV.rp (cI (at_ (a_z.free.getD i1.toNat ([]:List Int)) (i2 - 1))) 0) else .lit undef),(bif decide (0<i2) then (li (at_ (a_z.free.getD i1.toNat ([]:List Int)) (i2 - 1))) else .lit undef),(bif decide (0<i2) then (AV.lit (.bool (decide ((at_ (a_z.free.getD i1.toNat ([]:List Int)) i2)≤(at_ (a_z.free.getD i1.toNat ([]:List Int)) (i2 - 1)))))) else .lit undef),(AV.lit (.bool ((decide (0<i2))&&(decide ((at_ (a_z.free.getD i1.toNat ([]:List Int)) i2)≤(at_ (a_z.free.getD i1.toNat ([]:List Int)) (i2 - 1)))))))] [[.box 51 (zO a_z)]] (by kernel_rfl) (by kernel_rfl) ⟨?_,?_,?_,?_,?_,?_,?_,?_,?_,?_,?_,?_,?_,?_,?_,?_,?_,?_,?_,?_,trivial⟩ ?_
        ·exact D1 fun e s p=>zB (s 4 rfl)
        ·exact D1 fun e s p=>zAm (a:=i2) (b:=0) p.1 rfl
        ·exact D1 fun e s p=>zB p.1
        ·
         intro e16 hs16 hp15
         refine zm (g:=31) (s:=decide (0<i2)) rfl hp15.1 (fun hc17=>zt.step (zB (av:=(li i1)) (hs16 3 rfl))) ?_
         exact zF ⟨fun _=>rfl,rfl⟩
        ·
         intro e17 hs17 hp16
         refine zm (g:=31) (s:=decide (0<i2)) rfl hp16.1 (fun hc18=>zt.step (zK (k:=0) (o:=0) (off:=5) underlying51 rfl rfl sizeOf49 (hs17 1 rfl))) ?_
         exact zF ⟨fun _=>rfl,rfl⟩
        ·
         intro e18 hs18 hp17
         refine zm (g:=31) (s:=decide (0<i2)) rfl hp17.2.2.1 (fun hc19=>zt.step (zAN (m:=5) (s:=1) (i:=i1) (k:=0) (o:=5) underlying49 sizeOf22 (z5 hp17.1 hc19) (z5 hp17.2.1 hc19) hb3)) ?_
         exact zF ⟨fun _=>rfl,rfl⟩
        ·
         intro e19 hs19 hp18
         refine zm (g:=31) (s:=decide (0<i2)) rfl hp18.2.1 (fun hc20=>zt.step (zAp (k:=0) (o:=(5+i1.toNat*1)) (cs:=(zO a_z)) (hd:=([li a_z.node]++[li a_z.kind]++[li a_z.start]++[li a_z.count]++[li a_z.min]++[])) (tl:=([])) (g:=(eS cI)) (d0:=([]:List Int)) (l:=a_z.free) (N:=5) (i:=i1.toNat) (a:=(ls cI (a_z.free.getD i1.toNat ([]:List Int)))) isAgg22 (z5 hp18.1 hc20) rfl rfl (congrArg (fun q=>5+q) (Nat.mul_one _)) (zBT hb3).2 rfl rfl)) ?_
         exact zF ⟨fun _=>rfl,rfl⟩
        ·
         intro e20 hs20 hp19
         refine zm (g:=31) (s:=decide (0<i2)) rfl hp19.1 (fun hc21=>zt.step (zB (av:=(li i2)) (hs20 4 rfl))) ?_
         exact zF ⟨fun _=>rfl,rfl⟩
        ·
         intro e21 hs21 hp20
         refine zm (g:=31) (s:=decide (0<i2)) rfl hp20.2.2.1 (fun hc22=>zt.step (zU (f:=cI) (l:=a_z.free.getD i1.toNat ([]:List Int)) (i:=i2) underlying22 sizeOf3 (fun _=>rfl) (z5 hp20.1 hc22) (z5 hp20.2.1 hc22) hb5)) ?_
         exact zF ⟨fun _=>rfl,rfl⟩
        ·
         intro e22 hs22 hp21
         refine zm (g:=31) (s:=decide (0<i2)) rfl hp21.2.1 (fun hc23=>zt.step (zW (row:=(cI (at_ (a_z.free.getD i1.toNat ([]:List Int)) i2))) (o:=0) (a:=(li (at_ (a_z.free.getD i1.toNat ([]:List Int)) i2))) isAgg3 (z5 hp21.1 hc23) rfl)) ?_
         exact zF ⟨fun _=>rfl,rfl⟩
        ·
         intro e23 hs23 hp22
         refine zm (g:=31) (s:=decide (0<i2)) rfl hp22.1 (fun hc24=>zt.step (zB (av:=(li i1)) (hs23 3 rfl))) ?_
         exact zF ⟨fun _=>rfl,rfl⟩
        ·
         intro e24 hs24 hp23
         refine zm (g:=31) (s:=decide (0<i2)) rfl hp23.1 (fun hc25=>zt.step (zK (k:=0) (o:=0) (off:=5) underlying51 rfl rfl sizeOf49 (hs24 1 rfl))) ?_
         exact zF ⟨fun _=>rfl,rfl⟩
        ·
         intro e25 hs25 hp24
         refine zm (g:=31) (s:=decide (0<i2)) rfl hp24.2.2.1 (fun hc26=>zt.step (zAN (m:=5) (s:=1) (i:=i1) (k:=0) (o:=5) underlying49 sizeOf22 (z5 hp24.1 hc26) (z5 hp24.2.1 hc26) hb3)) ?_
         exact zF ⟨fun _=>rfl,rfl⟩
        ·
         intro e26 hs26 hp25
         refine zm (g:=31) (s:=decide (0<i2)) rfl hp25.2.1 (fun hc27=>zt.step (zAp (k:=0) (o:=(5+i1.toNat*1)) (cs:=(zO a_z)) (hd:=([li a_z.node]++[li a_z.kind]++[li a_z.start]++[li a_z.count]++[li a_z.min]++[])) (tl:=([])) (g:=(eS cI)) (d0:=([]:List Int)) (l:=a_z.free) (N:=5) (i:=i1.toNat) (a:=(ls cI (a_z.free.getD i1.toNat ([]:List Int)))) isAgg22 (z5 hp25.1 hc27) rfl rfl (congrArg (fun q=>5+q) (Nat.mul_one _)) (zBT hb3).2 rfl rfl)) ?_
         exact zF ⟨fun _=>rfl,rfl⟩
        ·
         intro e27 hs27 hp26
         refine zm (g:=31) (s:=decide (0<i2)) rfl hp26.1 (fun hc28=>zt.step (zB (av:=(li i2)) (hs27 4 rfl))) ?_
         exact zF ⟨fun _=>rfl,rfl⟩
        ·
         intro e28 hs28 hp27
         refine zm (g:=31) (s:=decide (0<i2)) rfl hp27.2.1 (fun hc29=>zt.step (zCB (a:=i2) (b:=1) (z5 hp27.1 hc29) rfl (zEb hb7 hc29))) ?_
         exact zF ⟨fun _=>rfl,rfl⟩
        ·
         intro e29 hs29 hp28
         refine zm (g:=31) (s:=decide (0<i2)) rfl hp28.2.2.1 (fun hc30=>zt.step (zU (f:=cI) (l:=a_z.free.getD i1.toNat ([]:List Int)) (i:=i2 - 1) underlying22 sizeOf3 (fun _=>rfl) (z5 hp28.1 hc30) (z5 hp28.2.1 hc30) (zEb hb8 hc30))) ?_
         exact zF ⟨fun _=>rfl,rfl⟩
        ·
         intro e30 hs30 hp29
         refine zm (g:=31) (s:=decide (0<i2)) rfl hp29.2.1 (fun hc31=>zt.step (zW (row:=(cI (at_ (a_z.free.getD i1.toNat ([]:List Int)) (i2 - 1)))) (o:=0) (a:=(li (at_ (a_z.free.getD i1.toNat ([]:List Int)) (i2 - 1)))) isAgg3 (z5 hp29.1 hc31) rfl)) ?_
         exact zF ⟨fun _=>rfl,rfl⟩
        ·
         intro e31 hs31 hp30
         refine zm (g:=31) (s:=decide (0<i2)) rfl hp30.2.2.1 (fun hc32=>zt.step (zC0 (a:=at_ (a_z.free.getD i1.toNat ([]:List Int)) i2) (b:=at_ (a_z.free.getD i1.toNat ([]:List Int)) (i2 - 1)) (z5 hp30.1 hc32) (z5 hp30.2.1 hc32))) ?_
         exact zF ⟨fun _=>rfl,rfl⟩
        ·exact D1 fun e s p=>zz (s:=decide (0<i2)) (q:=decide ((at_ (a_z.free.getD i1.toNat ([]:List Int)) i2)≤(at_ (a_z.free.getD i1.toNat ([]:List Int)) (i2 - 1)))) (j := .lit undef) p.1 p.2.1
        intro e33 hs33 hq2
        refine zV (zBa (l:=[(1,(AV.ptr 0 0)),(3,(li i1)),(4,(li i2)),(48,(AV.lit (.bool ((decide (0<i2))&&(decide ((at_ (a_z.free.getD i1.toNat ([]:List Int)) i2)≤(at_ (a_z.free.getD i1.toNat ([]:List Int)) (i2 - 1))))))))]) ⟨hs33 1 rfl,hs33 3 rfl,hs33 4 rfl,(hq2 19 (by decide) (by decide)),trivial⟩) ?_
        refine zY h rfl (fun hb9 h => ?_) (fun hb9 h => ?_)
        ·refine zH<|zC<|zA (zD rfl)<|zF<|zd ?_
         show zAP _ _ _ _ _ _
         obtain rfl:=Option.some.inj h
         exact zv (zAO rfl rfl)
        ·refine zP<|zC<|zA (zB rfl)<|zM h fun hb10 h=>zA (ze rfl rfl hb10)<|zA (zD rfl) ?_
         refine zF ?_
         exact ⟨(n1,(i2+1)),Nat.lt_succ_self _,zAD [0] rfl rfl (by kernel_rfl),h⟩
      ·refine zy ?_
       exact ⟨zAD [0] rfl rfl (by kernel_rfl),h⟩
    ·
     clear h
     rintro e' H' ⟨hrep,h⟩
     refine zV hrep ?_
     clear hrep
     unfold zEq at h
     refine zC<|zA (zB rfl)<|zM h fun hb2 h=>zA (ze rfl rfl hb2)<|zA (zD rfl)<|zF ?_
     exact ⟨(n0,(i1+1)),Nat.lt_succ_self _,zAD [0] rfl rfl (by kernel_rfl),h⟩
   ·refine zy ?_
    exact ⟨zAD [] rfl rfl (by kernel_rfl),h⟩
 ·
  clear h
  rintro e' H' ⟨hrep,h⟩
  refine zV hrep ?_
  clear hrep
  unfold zGi at h
  refine zH<|zC<|zA (zD rfl)<|zF<|zd ?_
  show zAP _ _ _ _ _ _
  obtain rfl:=Option.some.inj h
  exact zv (zAO rfl rfl)
theorem zJo {a_z:zo} {r:List Int} (h:zIB a_z=some r):PFn prog 95 [(AV.agg (zO a_z))] (AV.osl 3 1 (List.map cI r)):=by
 refine zq func95 rfl ntmps95 results95 rfl ?_
 unfold zIB at h
 refine zH<|zC<|za (H':=[.box 51 (zO a_z)]) (zw (t:=51) rfl)<|zA (zD rfl)<|zF<|zH ?_
 refine zC<|zM h fun hb1 h=>zDu (f:=cI) (a:=256) (c:=256) (d0:=0) zHX ⟨zf.refl _,trivial⟩ rfl underlying22 rfl rfl hb1<|zA (zD rfl)<|zF ?_
 refine zx (fun e' H' => ∃ (l1:List Int),Rep 50 0 e' H' (mkE [(3,(AV.hd 0))]) [.vec 3 1 (List.map cI l1)]∧zJp l1=some r) ?_ ?_
 ·
  refine zH<|zC<|zA (zD rfl)<|zF<|zQ<|z6 (σ:=Nat×Int×(List Int)) (fun s=>s.1) (fun s e' H'=>match s with | (n0,i1,l2)=>Rep 50 0 e' H' (mkE [(1,(AV.ptr 0 0)),(3,(AV.hd 1)),(4,(li i1))]) [.box 51 (zO a_z),.vec 3 1 (List.map cI l2)]∧zBU a_z n0 i1 l2=some r) (z9,0,(List.replicate (256:Int).toNat 0)) ⟨zAD [0,1] rfl rfl (by kernel_rfl),h⟩ ?_
  clear h
  rintro ⟨n0,i1,l2⟩ e' H' ⟨hrep,h⟩
  cases n0 with
  | zero=>exact absurd (show (none:Option _)=some r from h) (by simp)
  | succ n0 =>
   replace h:zE7 a_z (zBU a_z n0) i1 l2=some r:=h
   unfold zE7 at h
   refine zV hrep ?_
   clear hrep
   refine zH<|zH<|zC<|zA (zB rfl)<|zA (zC0 rfl rfl)<|zF ?_
   refine zY h rfl (fun hb2 h => ?_) (fun hb2 h => ?_)
   ·refine zP ?_
    refine zx (fun e' H' => ∃ (l3:List Int),Rep 50 0 e' H' (mkE [(1,(AV.ptr 0 0)),(3,(AV.hd 1)),(4,(li i1))]) [.box 51 (zO a_z),.vec 3 1 (List.map cI l3)]∧zIM (zBU a_z n0) i1 l3=some r) ?_ ?_
    ·
     refine zQ<|zH<|zC<|zA (zD rfl)<|zF<|zQ ?_
     refine z6 (σ:=Nat×Int×(List Int)) (fun s=>s.1) (fun s e' H'=>match s with | (n1,i2,l4)=>Rep 50 0 e' H' (mkE [(1,(AV.ptr 0 0)),(3,(AV.hd 1)),(4,(li i1)),(5,(li i2))]) [.box 51 (zO a_z),.vec 3 1 (List.map cI l4)]∧zCi (zBU a_z n0) a_z i1 n1 i2 l4=some r) (z9,0,l2) ⟨zAD [0,1] rfl rfl (by kernel_rfl),h⟩ ?_
     clear h
     rintro ⟨n1,i2,l4⟩ e' H' ⟨hrep,h⟩
     cases n1 with
     | zero=>exact absurd (show (none:Option _)=some r from h) (by simp)
     | succ n1 =>
      replace h:zFA (zBU a_z n0) a_z i1 (zCi (zBU a_z n0) a_z i1 n1) i2 l4=some r:=h
      unfold zFA at h
      refine zV hrep ?_
      clear hrep
      refine zH<|zH<|zC<|zA (zB rfl)<|zA (zB rfl)<|zA (zK underlying51 rfl rfl sizeOf49 rfl) ?_
      refine zM h fun hb4 h=>zA (zAN (m:=5) (s:=1) (i:=i1) (k:=0) (o:=5) underlying49 sizeOf22 rfl rfl hb4)<|zA (zAp (k:=0) (o:=(5+i1.toNat*1)) (cs:=(zO a_z)) (hd:=([li a_z.node]++[li a_z.kind]++[li a_z.start]++[li a_z.count]++[li a_z.min]++[])) (tl:=([])) (g:=(eS cI)) (d0:=([]:List Int)) (l:=a_z.free) (N:=5) (i:=i1.toNat) (a:=(ls cI (a_z.free.getD i1.toNat ([]:List Int)))) isAgg22 rfl rfl rfl (congrArg (fun q=>5+q) (Nat.mul_one _)) (zBT hb4).2 rfl rfl)<|zA (zZ underlying22 rfl)<|zA (zg rfl rfl)<|zF ?_
      refine zY h rfl (fun hb5 h => ?_) (fun hb5 h => ?_)
      ·refine zP ?_
       refine zx (fun e' H' => ∃ (l5:List Int),Rep 50 0 e' H' (mkE [(1,(AV.ptr 0 0)),(3,(AV.hd 1)),(4,(li i1)),(5,(li i2))]) [.box 51 (zO a_z),.vec 3 1 (List.map cI l5)]∧zIO (zCi (zBU a_z n0) a_z i1 n1) i2 l5=some r) ?_ ?_
       ·
        refine zQ<|zH<|zC<|zA (zB rfl)<|zA (zK underlying51 rfl rfl sizeOf49 rfl)<|zA (zAN (m:=5) (s:=1) (i:=i1) (k:=0) (o:=5) underlying49 sizeOf22 rfl rfl hb4) ?_
        refine zA (zAp (k:=0) (o:=(5+i1.toNat*1)) (cs:=(zO a_z)) (hd:=([li a_z.node]++[li a_z.kind]++[li a_z.start]++[li a_z.count]++[li a_z.min]++[])) (tl:=([])) (g:=(eS cI)) (d0:=([]:List Int)) (l:=a_z.free) (N:=5) (i:=i1.toNat) (a:=(ls cI (a_z.free.getD i1.toNat ([]:List Int)))) isAgg22 rfl rfl rfl (congrArg (fun q=>5+q) (Nat.mul_one _)) (zBT hb4).2 rfl rfl)<|zA (zB rfl)<|zM h fun hb7 h=>zA (zU underlying22 sizeOf3 (fun _=>rfl) rfl rfl hb7)<|zA (zW (o:=0) isAgg3 rfl rfl)<|zA (zD rfl) ?_
        refine zF<|zQ<|z6 (σ:=Nat×Int×(List Int)) (fun s=>s.1) (fun s e' H'=>match s with | (n2,i3,l6)=>Rep 50 0 e' H' (mkE [(1,(AV.ptr 0 0)),(3,(AV.hd 1)),(4,(li i1)),(5,(li i2)),(6,(li i3))]) [.box 51 (zO a_z),.vec 3 1 (List.map cI l6)]∧zHQ (zCi (zBU a_z n0) a_z i1 n1) a_z i1 i2 n2 i3 l6=some r) (z9,(at_ (a_z.free.getD i1.toNat ([]:List Int)) i2),l4) ⟨zAD [0,1] rfl rfl (by kernel_rfl),h⟩ ?_
        clear h
        rintro ⟨n2,i3,l6⟩ e' H' ⟨hrep,h⟩
        cases n2 with
        | zero=>exact absurd (show (none:Option _)=some r from h) (by simp)
        | succ n2 =>
         replace h:zFH (zCi (zBU a_z n0) a_z i1 n1) a_z i1 i2 (zHQ (zCi (zBU a_z n0) a_z i1 n1) a_z i1 i2 n2) i3 l6=some r:=h
         unfold zFH at h
         refine zV hrep ?_
         clear hrep
         refine zH<|zH<|zC<|zA (zB rfl)<|zA (zB rfl)<|zA (zK underlying51 rfl rfl sizeOf49 rfl) ?_
         refine zM h fun hb8 h=>zA (zAN (m:=5) (s:=1) (i:=i1) (k:=0) (o:=5) underlying49 sizeOf22 rfl rfl hb8)<|zA (zAp (k:=0) (o:=(5+i1.toNat*1)) (cs:=(zO a_z)) (hd:=([li a_z.node]++[li a_z.kind]++[li a_z.start]++[li a_z.count]++[li a_z.min]++[])) (tl:=([])) (g:=(eS cI)) (d0:=([]:List Int)) (l:=a_z.free) (N:=5) (i:=i1.toNat) (a:=(ls cI (a_z.free.getD i1.toNat ([]:List Int)))) isAgg22 rfl rfl rfl (congrArg (fun q=>5+q) (Nat.mul_one _)) (zBT hb8).2 rfl rfl)<|zA (zB rfl)<|zM h fun hb9 h=>zA (zU underlying22 sizeOf3 (fun _=>rfl) rfl rfl hb9) ?_
         refine zA (zW (o:=0) isAgg3 rfl rfl)<|zA (zB rfl)<|zM h fun hb10 h=>zA (zFm (k' := .u64) (a:=i1) underlying3 underlying74 rfl hb10)<|zM h fun hb11 h=>zM h fun hb12 h => ?_
         refine zA (zCP (a:=1) (b:=i1) rfl rfl hb11 hb12)<|zM h fun hb13 h=>zA (ze rfl rfl hb13)<|zA (zg rfl rfl)<|zF ?_
         refine zY h rfl (fun hb14 h => ?_) (fun hb14 h => ?_)
         ·refine zP<|zH<|zQ<|zC<|zA (zB rfl)<|zA (zB rfl) ?_
          refine zM h fun hb15 h=>zA (zAC (f:=cI) (l:=l6) (i:=i3) underlying22 sizeOf3 rfl rfl rfl hb15)<|zA (zBY (f:=cI) (l:=l6) (i:=i3) (c:=0) (a:=(li (at_ l6 i3))) isAgg3 rfl rfl (by first | rfl | omega) hb15 rfl rfl)<|zM h fun hb16 h=>zA (ze rfl rfl hb16)<|zA (zAC (f:=cI) (l:=l6) (i:=i3) underlying22 sizeOf3 rfl rfl rfl hb15) ?_
          refine zp (H':=[.box 51 (zO a_z),.vec 3 1 (List.map cI (l6.set i3.toNat ((at_ l6 i3)+1)))]) (zCR (k:=1) (o:=(i3.toNat*1)) (f:=cI) (l:=l6) (i:=i3) (c:=0) (a:=(li ((at_ l6 i3)+1))) (z:=(at_ l6 i3)+1) sizeOf3 rfl rfl (by first | rfl | omega) hb15 rfl rfl rfl rfl rfl)<|zF<|zC<|zA (zB rfl)<|zM h fun hb17 h=>zA (ze rfl rfl hb17) ?_
          refine zA (zD rfl)<|zF ?_
          exact ⟨(n2,(i3+1),(l6.set i3.toNat ((at_ l6 i3)+1))),Nat.lt_succ_self _,zAD [0,1] rfl rfl (by kernel_rfl),h⟩
         ·refine zy ?_
          exact ⟨l6,zAD [0,1] rfl rfl (by kernel_rfl),h⟩
       ·
        clear h
        rintro e' H' ⟨l5,hrep,h⟩
        refine zV hrep ?_
        clear hrep
        unfold zIO at h
        refine zC<|zA (zB rfl)<|zM h fun hb6 h=>zA (ze rfl rfl hb6)<|zA (zD rfl)<|zF ?_
        exact ⟨(n1,(i2+1),l5),Nat.lt_succ_self _,zAD [0,1] rfl rfl (by kernel_rfl),h⟩
      ·refine zy ?_
       exact ⟨l4,zAD [0,1] rfl rfl (by kernel_rfl),h⟩
    ·
     clear h
     rintro e' H' ⟨l3,hrep,h⟩
     refine zV hrep ?_
     clear hrep
     unfold zIM at h
     refine zC<|zA (zB rfl)<|zM h fun hb3 h=>zA (ze rfl rfl hb3)<|zA (zD rfl)<|zF ?_
     exact ⟨(n0,(i1+1),l3),Nat.lt_succ_self _,zAD [0,1] rfl rfl (by kernel_rfl),h⟩
   ·refine zy ?_
    exact ⟨l2,zAD [1] rfl rfl (by kernel_rfl),h⟩
 ·
  clear h
  rintro e' H' ⟨l1,hrep,h⟩
  refine zV hrep ?_
  clear hrep
  unfold zJp at h
  refine zH<|zC<|zA (zB rfl)<|zA (zD rfl)<|zF<|zd ?_
  show zAP _ _ _ _ _ _
  obtain rfl:=Option.some.inj h
  exact zv (zUI rfl rfl)
theorem zId {a_p0:zo} {r:Int} (h:zFz a_p0=some r):PFn prog 47 [(AV.agg (zO a_p0))] (li r):=by
 refine zq func47 rfl ntmps47 results47 rfl ?_
 unfold zFz at h
 refine zH<|zC<|za (H':=[.box 51 (zO a_p0)]) (zw (t:=51) rfl)<|zA (zD rfl)<|zF<|zH ?_
 refine zH<|zC<|zA (zS (k:=0) (o:=0) (m:=10) isAgg51 sizeOf51 rfl rfl rfl rfl rfl)<|zR h fun x1 hx1 h=>zh func93 rfl (by kernel_rfl) (.fn 93) rfl rfl (zLU hx1) rfl<|zA (zA4 (t:=x1) rfl) ?_
 refine zF ?_
 refine zY h rfl (fun hb1 h => ?_) (fun hb1 h => ?_)
 ·refine zH<|zC<|zA (zD rfl)<|zF<|zd ?_
  show zAP _ _ _ _ _ _
  obtain rfl:=Option.some.inj h
  exact zv (zAO rfl rfl)
 ·refine zP<|zH<|zH<|zC<|zA (zS (k:=0) (o:=0) (m:=10) isAgg51 sizeOf51 rfl rfl rfl rfl rfl)<|zR h fun x2 hx2 h => ?_
  refine zh func94 rfl (by kernel_rfl) (.fn 94) rfl rfl (zKz hx2) rfl<|zA (zD rfl)<|zF<|zH<|zC<|zA (zB rfl) ?_
  refine zA (z7 rfl rfl)<|zF ?_
  refine zY h rfl (fun hb2 h => ?_) (fun hb2 h => ?_)
  ·refine zH<|zC<|zA (zB rfl)<|zA (zD rfl)<|zF<|zd ?_
   show zAP _ _ _ _ _ _
   obtain rfl:=Option.some.inj h
   exact zv (zAO rfl rfl)
  ·refine zP<|zH<|zC<|zA (zS (k:=0) (o:=0) (m:=10) isAgg51 sizeOf51 rfl rfl rfl rfl rfl)<|zR h fun x3 hx3 h=>zHO (T:=3) (sz:=1) (rows:=List.map cI x3) (la:=[(AV.agg (zO a_p0))]) (la':=[(AV.agg (zO a_p0))]) (S:=[]) func95 rfl (by kernel_rfl) (.fn 95) rfl ⟨zAs.nr rfl,trivial⟩ (zJo hx3) (.inl rfl) ?_
   refine zA (zD rfl)<|zF ?_
   refine zx (fun e' H'=>Rep 76 0 e' H' (mkE [(1,(AV.ptr 0 0))]) [.box 51 (zO a_p0)]∧zET a_p0=some r) ?_ ?_
   ·
    refine zH<|zC<|zA (zD rfl)<|zF<|zQ<|z6 (σ:=Nat×Int) (fun s=>s.1) (fun s e' H'=>match s with | (n2,i3)=>Rep 76 0 e' H' (mkE [(1,(AV.ptr 0 0)),(4,(AV.hd 1)),(5,(li i3))]) [.box 51 (zO a_p0),.vec 3 1 (List.map cI x3)]∧zBn a_p0 x3 n2 i3=some r) (z9,0) ⟨zAD [0,1] rfl rfl (by kernel_rfl),h⟩ ?_
    clear h
    rintro ⟨n2,i3⟩ e' H' ⟨hrep,h⟩
    cases n2 with
    | zero=>exact absurd (show (none:Option _)=some r from h) (by simp)
    | succ n2 =>
     replace h:zDY a_p0 x3 (zBn a_p0 x3 n2) i3=some r:=h
     unfold zDY at h
     refine zV hrep ?_
     clear hrep
     refine zH<|zH<|zC<|zA (zB rfl)<|zA (zB rfl)<|zA (zEV (f:=cI) (l:=x3) underlying22 rfl rfl) ?_
     refine zA (zg rfl rfl)<|zF ?_
     refine zY h rfl (fun hb17 h => ?_) (fun hb17 h => ?_)
     ·refine zP<|zH<|zQ<|zH<|zC<|zA (zB rfl) ?_
      refine zA (zB rfl)<|zM h fun hb18 h=>zA (zAC (f:=cI) (l:=x3) (i:=i3) underlying22 sizeOf3 rfl rfl rfl hb18)<|zA (zBY (f:=cI) (l:=x3) (i:=i3) (c:=0) (a:=(li (at_ x3 i3))) isAgg3 rfl rfl (by first | rfl | omega) hb18 rfl rfl)<|zA (zAm rfl rfl)<|zF ?_
      refine zY h rfl (fun hb19 h => ?_) (fun hb19 h => ?_)
      ·refine zH<|zC<|zA (zD rfl)<|zF<|zd ?_
       show zAP _ _ _ _ _ _
       obtain rfl:=Option.some.inj h
       exact zv (zAO rfl rfl)
      ·refine zP<|zC<|zA (zB rfl)<|zM h fun hb20 h=>zA (ze rfl rfl hb20)<|zA (zD rfl) ?_
       refine zF ?_
       exact ⟨(n2,(i3+1)),Nat.lt_succ_self _,zAD [0,1] rfl rfl (by kernel_rfl),h⟩
     ·refine zy ?_
      exact ⟨zAD [0] rfl rfl (by kernel_rfl),h⟩
   ·
    clear h
    rintro e' H' ⟨hrep,h⟩
    refine zV hrep ?_
    clear hrep
    unfold zET at h
    refine zx (fun e' H'=>Rep 76 0 e' H' (mkE []) []∧zIX  = some r) ?_ ?_
    ·
     refine zH<|zC<|zA (zD rfl)<|zF<|zQ<|z6 (σ:=Nat×Int) (fun s=>s.1) (fun s e' H'=>match s with | (n0,i1)=>Rep 76 0 e' H' (mkE [(1,(AV.ptr 0 0)),(6,(li i1))]) [.box 51 (zO a_p0)]∧zBr a_p0 n0 i1=some r) (z9,0) ⟨zAD [0] rfl rfl (by kernel_rfl),h⟩ ?_
     clear h
     rintro ⟨n0,i1⟩ e' H' ⟨hrep,h⟩
     cases n0 with
     | zero=>exact absurd (show (none:Option _)=some r from h) (by simp)
     | succ n0 =>
      replace h:zDe a_p0 (zBr a_p0 n0) i1=some r:=h
      unfold zDe at h
      refine zV hrep ?_
      clear hrep
      refine zH<|zH<|zC<|zA (zB rfl)<|zA (zg rfl rfl)<|zF ?_
      refine zY h rfl (fun hb3 h => ?_) (fun hb3 h => ?_)
      ·refine zP ?_
       refine zx (fun e' H'=>Rep 76 0 e' H' (mkE [(1,(AV.ptr 0 0)),(6,(li i1))]) [.box 51 (zO a_p0)]∧zG9 (zBr a_p0 n0) i1=some r) ?_ ?_
       ·
        refine zQ<|zH<|zC<|zA (zD rfl)<|zF<|zQ ?_
        refine z6 (σ:=Nat×Int) (fun s=>s.1) (fun s e' H'=>match s with | (n1,i2)=>Rep 76 0 e' H' (mkE [(1,(AV.ptr 0 0)),(6,(li i1)),(7,(li i2))]) [.box 51 (zO a_p0)]∧zBo (zBr a_p0 n0) a_p0 i1 n1 i2=some r) (z9,1) ⟨zAD [0] rfl rfl (by kernel_rfl),h⟩ ?_
        clear h
        rintro ⟨n1,i2⟩ e' H' ⟨hrep,h⟩
        cases n1 with
        | zero=>exact absurd (show (none:Option _)=some r from h) (by simp)
        | succ n1 =>
         replace h:zDX (zBr a_p0 n0) a_p0 i1 (zBo (zBr a_p0 n0) a_p0 i1 n1) i2=some r:=h
         unfold zDX at h
         refine zV hrep ?_
         clear hrep
         refine zH<|zH<|zC<|zA (zB rfl)<|zA (zB rfl)<|zA (zK underlying51 rfl rfl sizeOf49 rfl) ?_
         refine zM h fun hb5 h=>zA (zAN (m:=5) (s:=1) (i:=i1) (k:=0) (o:=5) underlying49 sizeOf22 rfl rfl hb5)<|zA (zAp (k:=0) (o:=(5+i1.toNat*1)) (cs:=(zO a_p0)) (hd:=([li a_p0.node]++[li a_p0.kind]++[li a_p0.start]++[li a_p0.count]++[li a_p0.min]++[])) (tl:=([])) (g:=(eS cI)) (d0:=([]:List Int)) (l:=a_p0.free) (N:=5) (i:=i1.toNat) (a:=(ls cI (a_p0.free.getD i1.toNat ([]:List Int)))) isAgg22 rfl rfl rfl (congrArg (fun q=>5+q) (Nat.mul_one _)) (zBT hb5).2 rfl rfl)<|zA (zZ underlying22 rfl)<|zA (zg rfl rfl)<|zF ?_
         refine zY h rfl (fun hb6 h => ?_) (fun hb6 h => ?_)
         ·refine zP<|zH<|zQ<|zH<|zM h fun hb7 h=>zM h fun hb8 h => ?_
          refine zM h fun hb9 h=>zM h fun hb10 h=>zM h fun hb11 h=>zM h fun hb12 h=>zM h fun hb13 h=>zM h fun hb14 h => ?_
          refine zR h fun x4 hx4 h => ?_
          show AW _ _ _ _ _ _ [.box 51 (zO a_p0)]
          refine zA2 (n:=76) (m:=0) [.head 0 0,.head 0 0,.head 0 0,.head 0 0,.head 0 0,.head 0 0,.head 0 0,.head 0 0,.head 0 0,.head 0 0,.head 0 0,.head 0 0,.head 0 0,.head 0 0,.head 0 0,.head 0 0,.head 0 0,.head 0 0,.head 0 0,.head 0 0,.head 0 0,.head 0 0,.head 0 0,.head 0 0,.head 0 0,.head 0 0,.head 0 0,.head 0 0,.head 0 0,.head 0 0,.head 0 0,.head 0 0,.head 0 0,.head 0 0] [] [li i1,AV.ptr 0 5,(AV.ptr 0 (5+i1.toNat*1)),(ls cI (a_p0.free.getD i1.toNat ([]:List Int))),li i2,(AV.rp (cI (at_ (a_p0.free.getD i1.toNat ([]:List Int)) i2)) 0),(li (at_ (a_p0.free.getD i1.toNat ([]:List Int)) i2)),li i1,AV.ptr 0 5,(AV.ptr 0 (5+i1.toNat*1)),(ls cI (a_p0.free.getD i1.toNat ([]:List Int))),li i2,(li (i2 - 1)),(AV.rp (cI (at_ (a_p0.free.getD i1.toNat ([]:List Int)) (i2 - 1))) 0),(li (at_ (a_p0.free.getD i1.toNat ([]:List Int)) (i2 - 1))),li i1,(AV.lit (.int .u64 i1)),(li ((1:Int)*2 ^ i1.toNat)),(li ((at_ (a_p0.free.getD i1.toNat ([]:List Int)) (i2 - 1))+((1:Int)*2 ^ i1.toNat))),(AV.lit (.bool (decide ((at_ (a_p0.free.getD i1.toNat ([]:List Int)) i2)=((at_ (a_p0.free.getD i1.toNat ([]:List Int)) (i2 - 1))+((1:Int)*2 ^ i1.toNat)))))),(AV.lit (.bool (decide ((at_ (a_p0.free.getD i1.toNat ([]:List Int)) i2)=((at_ (a_p0.free.getD i1.toNat ([]:List Int)) (i2 - 1))+((1:Int)*2 ^ i1.toNat)))))),(bif decide ((at_ (a_p0.free.getD i1.toNat ([]:List Int)) i2)=((at_ (a_p0.free.getD i1.toNat ([]:List Int)) (i2 - 1))+((1:Int)*2 ^ i1.toNat))) then (AV.agg (zO a_p0)) else .lit undef),(bif decide ((at_ (a_p0.free.getD i1.toNat ([]:List Int)) i2)=((at_ (a_p0.free.getD i1.toNat ([]:List Int)) (i2 - 1))+((1:Int)*2 ^ i1.toNat))) then (li i1) else .lit undef),(bif decide ((at_ (a_p0.free.getD i1.toNat ([]:List Int)) i2)=((at_ (a_p0.free.getD i1.toNat ([]:List Int)) (i2 - 1))+((1:Int)*2 ^ i1.toNat))) then (AV.ptr 0 5) else .lit undef),(bif decide ((at_ (a_p0.free.getD i1.toNat ([]:List Int)) i2)=((at_ (a_p0.free.getD i1.toNat ([]:List Int)) (i2 - 1))+((1:Int)*2 ^ i1.toNat))) then (AV.ptr 0 (5+i1.toNat*1)) else .lit undef),(bif decide ((at_ (a_p0.free.getD i1.toNat ([]:List Int)) i2)=((at_ (a_p0.free.getD i1.toNat ([]:List Int)) (i2 - 1))+((1:Int)*2 ^ i1.toNat))) then (ls cI (a_p0.free.getD i1.toNat ([]:List Int))) else .lit undef),(bif decide ((at_ (a_p0.free.getD i1.toNat ([]:List Int)) i2)=((at_ (a_p0.free.getD i1.toNat ([]:List Int)) (i2 - 1))+((1:Int)*2 ^ i1.toNat))) then (li i2) else .lit undef),(bif decide ((at_ (a_p0.free.getD i1.toNat ([]:List Int)) i2)=((at_ (a_p0.free.getD i1.toNat ([]:List Int)) (i2 - 1))+((1:Int)*2 ^ i1.toNat))) then (li (i2 - 1)) else .lit undef),(bif decide ((at_ (a_p0.free.getD i1.toNat ([]:List Int)) i2)=((at_ (a_p0.free.getD i1.toNat ([]:List Int)) (i2 - 1))+((1:Int)*2 ^ i1.toNat))) then (AV.rp (cI (at_ (a_p0.free.getD i1.toNat ([]:List Int)) (i2 - 1))) 0) else .lit undef),(bif decide ((at_ (a_p0.free.getD i1.toNat ([]:List Int)) i2)=((at_ (a_p0.free.getD i1.toNat ([]:List Int)) (i2 - 1))+((1:Int)*2 ^ i1.toNat))) then (li (at_ (a_p0.free.getD i1.toNat ([]:List Int)) (i2 - 1))) else .lit undef),(bif decide ((at_ (a_p0.free.getD i1.toNat ([]:List Int)) i2)=((at_ (a_p0.free.getD i1.toNat ([]:List Int)) (i2 - 1))+((1:Int)*2 ^ i1.toNat))) then (li i1) else .lit undef),(bif decide ((at_ (a_p0.free.getD i1.toNat ([]:List Int)) i2)=((at_ (a_p0.free.getD i1.toNat ([]:List Int)) (i2 - 1))+((1:Int)*2 ^ i1.toNat))) then (li (i1+1)) else .lit undef),(bif decide ((at_ (a_p0.free.getD i1.toNat ([]:List Int)) i2)=((at_ (a_p0.free.getD i1.toNat ([]:List Int)) (i2 - 1))+((1:Int)*2 ^ i1.toNat))) then (AV.lit (.bool x4)) else .lit undef),(AV.lit (.bool ((decide ((at_ (a_p0.free.getD i1.toNat ([]:List Int)) i2)=((at_ (a_p0.free.getD i1.toNat ([]:List Int)) (i2 - 1))+((1:Int)*2 ^ i1.toNat))))&&x4)))] [[.box 51 (zO a_p0)]] (by kernel_rfl) (by kernel_rfl) ⟨?_,?_,?_,?_,?_,?_,?_,?_,?_,?_,?_,?_,?_,?_,?_,?_,?_,?_,?_,?_,?_,?_,?_,?_,?_,?_,?_,?_,?_,?_,?_,?_,?_,?_,trivial⟩ ?_
          ·exact D1 fun e s p=>zB (s 6 rfl)
          ·exact D1 fun e s p=>zK (k:=0) (o:=0) (off:=5) underlying51 rfl rfl sizeOf49 (s 1 rfl)
          ·exact D1 fun e s p=>zAN (m:=5) (s:=1) (i:=i1) (k:=0) (o:=5) underlying49 sizeOf22 p.1 p.2.1 hb5
          ·exact D1 fun e s p=>zAp (k:=0) (o:=(5+i1.toNat*1)) (cs:=(zO a_p0)) (hd:=([li a_p0.node]++[li a_p0.kind]++[li a_p0.start]++[li a_p0.count]++[li a_p0.min]++[])) (tl:=([])) (g:=(eS cI)) (d0:=([]:List Int)) (l:=a_p0.free) (N:=5) (i:=i1.toNat) (a:=(ls cI (a_p0.free.getD i1.toNat ([]:List Int)))) isAgg22 p.1 rfl rfl (congrArg (fun q=>5+q) (Nat.mul_one _)) (zBT hb5).2 rfl rfl
          ·exact D1 fun e s p=>zB (s 7 rfl)
          ·exact D1 fun e s p=>zU (f:=cI) (l:=a_p0.free.getD i1.toNat ([]:List Int)) (i:=i2) underlying22 sizeOf3 (fun _=>rfl) p.1 p.2.1 hb7
          ·exact D1 fun e s p=>zW (o:=0) isAgg3 p.1 rfl
          ·exact D1 fun e s p=>zB (s 6 rfl)
          ·exact D1 fun e s p=>zK (k:=0) (o:=0) (off:=5) underlying51 rfl rfl sizeOf49 (s 1 rfl)
          ·exact D1 fun e s p=>zAN (m:=5) (s:=1) (i:=i1) (k:=0) (o:=5) underlying49 sizeOf22 p.1 p.2.1 hb5
          ·exact D1 fun e s p=>zAp (k:=0) (o:=(5+i1.toNat*1)) (cs:=(zO a_p0)) (hd:=([li a_p0.node]++[li a_p0.kind]++[li a_p0.start]++[li a_p0.count]++[li a_p0.min]++[])) (tl:=([])) (g:=(eS cI)) (d0:=([]:List Int)) (l:=a_p0.free) (N:=5) (i:=i1.toNat) (a:=(ls cI (a_p0.free.getD i1.toNat ([]:List Int)))) isAgg22 p.1 rfl rfl (congrArg (fun q=>5+q) (Nat.mul_one _)) (zBT hb5).2 rfl rfl
          ·exact D1 fun e s p=>zB (s 7 rfl)
          ·exact D1 fun e s p=>zCB (a:=i2) (b:=1) p.1 rfl hb8
          ·exact D1 fun e s p=>zU (f:=cI) (l:=a_p0.free.getD i1.toNat ([]:List Int)) (i:=i2 - 1) underlying22 sizeOf3 (fun _=>rfl) p.1 p.2.1 hb9
          ·exact D1 fun e s p=>zW (o:=0) isAgg3 p.1 rfl
          ·exact D1 fun e s p=>zB (s 6 rfl)
          ·exact D1 fun e s p=>zFm (k' := .u64) (a:=i1) underlying3 underlying74 p.1 hb10
          ·exact D1 fun e s p=>zCP (a:=1) (b:=i1) rfl p.1 hb11 hb12
          ·exact D1 fun e s p=>ze (a:=at_ (a_p0.free.getD i1.toNat ([]:List Int)) (i2 - 1)) (b:=(1:Int)*2 ^ i1.toNat) p.1 p.2.1 hb13
          ·exact D1 fun e s p=>zBd (a:=at_ (a_p0.free.getD i1.toNat ([]:List Int)) i2) (b:=(at_ (a_p0.free.getD i1.toNat ([]:List Int)) (i2 - 1))+((1:Int)*2 ^ i1.toNat)) p.1 p.2.1
          ·exact D1 fun e s p=>zB p.1
          ·
           intro e22 hs22 hp22
           refine zm (g:=62) (s:=decide ((at_ (a_p0.free.getD i1.toNat ([]:List Int)) i2)=((at_ (a_p0.free.getD i1.toNat ([]:List Int)) (i2 - 1))+((1:Int)*2 ^ i1.toNat)))) rfl hp22.1 (fun hc13=>zt.step (zS (k:=0) (o:=0) (m:=10) (la:=(zO a_p0)) isAgg51 sizeOf51 (hs22 1 rfl) rfl rfl rfl rfl)) ?_
           exact zF ⟨fun _=>rfl,rfl⟩
          ·
           intro e23 hs23 hp23
           refine zm (g:=62) (s:=decide ((at_ (a_p0.free.getD i1.toNat ([]:List Int)) i2)=((at_ (a_p0.free.getD i1.toNat ([]:List Int)) (i2 - 1))+((1:Int)*2 ^ i1.toNat)))) rfl hp23.1 (fun hc14=>zt.step (zB (av:=(li i1)) (hs23 6 rfl))) ?_
           exact zF ⟨fun _=>rfl,rfl⟩
          ·
           intro e24 hs24 hp24
           refine zm (g:=62) (s:=decide ((at_ (a_p0.free.getD i1.toNat ([]:List Int)) i2)=((at_ (a_p0.free.getD i1.toNat ([]:List Int)) (i2 - 1))+((1:Int)*2 ^ i1.toNat)))) rfl hp24.1 (fun hc15=>zt.step (zK (k:=0) (o:=0) (off:=5) underlying51 rfl rfl sizeOf49 (hs24 1 rfl))) ?_
           exact zF ⟨fun _=>rfl,rfl⟩
          ·
           intro e25 hs25 hp25
           refine zm (g:=62) (s:=decide ((at_ (a_p0.free.getD i1.toNat ([]:List Int)) i2)=((at_ (a_p0.free.getD i1.toNat ([]:List Int)) (i2 - 1))+((1:Int)*2 ^ i1.toNat)))) rfl hp25.2.2.1 (fun hc16=>zt.step (zAN (m:=5) (s:=1) (i:=i1) (k:=0) (o:=5) underlying49 sizeOf22 (z5 hp25.1 hc16) (z5 hp25.2.1 hc16) hb5)) ?_
           exact zF ⟨fun _=>rfl,rfl⟩
          ·
           intro e26 hs26 hp26
           refine zm (g:=62) (s:=decide ((at_ (a_p0.free.getD i1.toNat ([]:List Int)) i2)=((at_ (a_p0.free.getD i1.toNat ([]:List Int)) (i2 - 1))+((1:Int)*2 ^ i1.toNat)))) rfl hp26.2.1 (fun hc17=>zt.step (zAp (k:=0) (o:=(5+i1.toNat*1)) (cs:=(zO a_p0)) (hd:=([li a_p0.node]++[li a_p0.kind]++[li a_p0.start]++[li a_p0.count]++[li a_p0.min]++[])) (tl:=([])) (g:=(eS cI)) (d0:=([]:List Int)) (l:=a_p0.free) (N:=5) (i:=i1.toNat) (a:=(ls cI (a_p0.free.getD i1.toNat ([]:List Int)))) isAgg22 (z5 hp26.1 hc17) rfl rfl (congrArg (fun q=>5+q) (Nat.mul_one _)) (zBT hb5).2 rfl rfl)) ?_
           exact zF ⟨fun _=>rfl,rfl⟩
          ·
           intro e27 hs27 hp27
           refine zm (g:=62) (s:=decide ((at_ (a_p0.free.getD i1.toNat ([]:List Int)) i2)=((at_ (a_p0.free.getD i1.toNat ([]:List Int)) (i2 - 1))+((1:Int)*2 ^ i1.toNat)))) rfl hp27.1 (fun hc18=>zt.step (zB (av:=(li i2)) (hs27 7 rfl))) ?_
           exact zF ⟨fun _=>rfl,rfl⟩
          ·
           intro e28 hs28 hp28
           refine zm (g:=62) (s:=decide ((at_ (a_p0.free.getD i1.toNat ([]:List Int)) i2)=((at_ (a_p0.free.getD i1.toNat ([]:List Int)) (i2 - 1))+((1:Int)*2 ^ i1.toNat)))) rfl hp28.2.1 (fun hc19=>zt.step (zCB (a:=i2) (b:=1) (z5 hp28.1 hc19) rfl hb8)) ?_
           exact zF ⟨fun _=>rfl,rfl⟩
          ·
           intro e29 hs29 hp29
           refine zm (g:=62) (s:=decide ((at_ (a_p0.free.getD i1.toNat ([]:List Int)) i2)=((at_ (a_p0.free.getD i1.toNat ([]:List Int)) (i2 - 1))+((1:Int)*2 ^ i1.toNat)))) rfl hp29.2.2.1 (fun hc20=>zt.step (zU (f:=cI) (l:=a_p0.free.getD i1.toNat ([]:List Int)) (i:=i2 - 1) underlying22 sizeOf3 (fun _=>rfl) (z5 hp29.1 hc20) (z5 hp29.2.1 hc20) hb9)) ?_
           exact zF ⟨fun _=>rfl,rfl⟩
          ·
           intro e30 hs30 hp30
           refine zm (g:=62) (s:=decide ((at_ (a_p0.free.getD i1.toNat ([]:List Int)) i2)=((at_ (a_p0.free.getD i1.toNat ([]:List Int)) (i2 - 1))+((1:Int)*2 ^ i1.toNat)))) rfl hp30.2.1 (fun hc21=>zt.step (zW (row:=(cI (at_ (a_p0.free.getD i1.toNat ([]:List Int)) (i2 - 1)))) (o:=0) (a:=(li (at_ (a_p0.free.getD i1.toNat ([]:List Int)) (i2 - 1)))) isAgg3 (z5 hp30.1 hc21) rfl)) ?_
           exact zF ⟨fun _=>rfl,rfl⟩
          ·
           intro e31 hs31 hp31
           refine zm (g:=62) (s:=decide ((at_ (a_p0.free.getD i1.toNat ([]:List Int)) i2)=((at_ (a_p0.free.getD i1.toNat ([]:List Int)) (i2 - 1))+((1:Int)*2 ^ i1.toNat)))) rfl hp31.1 (fun hc22=>zt.step (zB (av:=(li i1)) (hs31 6 rfl))) ?_
           exact zF ⟨fun _=>rfl,rfl⟩
          ·
           intro e32 hs32 hp32
           refine zm (g:=62) (s:=decide ((at_ (a_p0.free.getD i1.toNat ([]:List Int)) i2)=((at_ (a_p0.free.getD i1.toNat ([]:List Int)) (i2 - 1))+((1:Int)*2 ^ i1.toNat)))) rfl hp32.2.1 (fun hc23=>zt.step (ze (a:=i1) (b:=1) (z5 hp32.1 hc23) rfl (zEb hb14 hc23))) ?_
           exact zF ⟨fun _=>rfl,rfl⟩
          ·
           intro e33 hs33 hp33
           refine zCl (g:=62) (s:=decide ((at_ (a_p0.free.getD i1.toNat ([]:List Int)) i2)=((at_ (a_p0.free.getD i1.toNat ([]:List Int)) (i2 - 1))+((1:Int)*2 ^ i1.toNat)))) (r':=(AV.lit (.bool x4))) rfl hp33.2.2.2.2.1 (fun hc24=>⟨72,_,_,[],[(AV.agg (zO a_p0)),(li (at_ (a_p0.free.getD i1.toNat ([]:List Int)) (i2 - 1))),(li (i1+1))],[(AV.agg (zO a_p0)),(li (at_ (a_p0.free.getD i1.toNat ([]:List Int)) (i2 - 1))),(li (i1+1))],(AV.lit (.bool x4)),[],func72,rfl,by kernel_rfl,.fn 72,(zAJ (z5 hp33.1 hc24) (zAJ (z5 hp33.2.1 hc24) (zAJ (z5 hp33.2.2.1 hc24) rfl))),⟨zAs.nr rfl,zAs.nr rfl,zAs.nr rfl,trivial⟩,zEW (zFU hc24 hx4),.inl rfl,rfl⟩) ?_
           exact zF ⟨fun _=>rfl,rfl⟩
          ·exact D1 fun e s p=>zz (s:=decide ((at_ (a_p0.free.getD i1.toNat ([]:List Int)) i2)=((at_ (a_p0.free.getD i1.toNat ([]:List Int)) (i2 - 1))+((1:Int)*2 ^ i1.toNat)))) (q:=x4) (j := .lit undef) p.1 p.2.1
          intro e35 hs35 hq1
          refine zV (zBa (l:=[(1,(AV.ptr 0 0)),(6,(li i1)),(7,(li i2)),(75,(AV.lit (.bool ((decide ((at_ (a_p0.free.getD i1.toNat ([]:List Int)) i2)=((at_ (a_p0.free.getD i1.toNat ([]:List Int)) (i2 - 1))+((1:Int)*2 ^ i1.toNat))))&&x4))))]) ⟨hs35 1 rfl,hs35 6 rfl,hs35 7 rfl,(hq1 33 (by decide) (by decide)),trivial⟩) ?_
          refine zY h rfl (fun hb15 h => ?_) (fun hb15 h => ?_)
          ·refine zH<|zC<|zA (zD rfl)<|zF<|zd ?_
           show zAP _ _ _ _ _ _
           obtain rfl:=Option.some.inj h
           exact zv (zAO rfl rfl)
          ·refine zP<|zC<|zA (zB rfl)<|zM h fun hb16 h=>zA (ze rfl rfl hb16)<|zA (zD rfl) ?_
           refine zF ?_
           exact ⟨(n1,(i2+1)),Nat.lt_succ_self _,zAD [0] rfl rfl (by kernel_rfl),h⟩
         ·refine zy ?_
          exact ⟨zAD [0] rfl rfl (by kernel_rfl),h⟩
       ·
        clear h
        rintro e' H' ⟨hrep,h⟩
        refine zV hrep ?_
        clear hrep
        unfold zG9 at h
        refine zC<|zA (zB rfl)<|zM h fun hb4 h=>zA (ze rfl rfl hb4)<|zA (zD rfl)<|zF ?_
        exact ⟨(n0,(i1+1)),Nat.lt_succ_self _,zAD [0] rfl rfl (by kernel_rfl),h⟩
      ·refine zy ?_
       exact ⟨zAD [] rfl rfl (by kernel_rfl),h⟩
    ·
     clear h
     rintro e' H' ⟨hrep,h⟩
     refine zV hrep ?_
     clear hrep
     unfold zIX at h
     refine zH<|zC<|zA (zD rfl)<|zF<|zd ?_
     show zAP _ _ _ _ _ _
     obtain rfl:=Option.some.inj h
     exact zv (zAO rfl rfl)
theorem zLV {a_f:Int} {r:Bool} (h:zGC a_f=some r):PFn prog 123 [li a_f] (AV.lit (.bool r)):=by
 refine zq func123 rfl ntmps123 results123 rfl ?_
 unfold zGC at h
 refine zH<|zC<|zA (zD rfl)<|zF<|zH<|zC ?_
 refine zA (zB rfl)<|zA (zg rfl rfl)<|zA (zB rfl)<|zT rfl rfl (fun hc1=>zt.step (zB rfl))<|zT rfl rfl (fun hc2=>zt.step (zAv (z5 rfl hc2) rfl))<|zA (zb rfl rfl) ?_
 refine zA (zD rfl)<|zF<|zd ?_
 show zAP _ _ _ _ _ _
 obtain rfl:=Option.some.inj h
 exact zv (zAO rfl rfl)
theorem zMM {a_p0:zL} {a_p1:Int} {r:Int} (h:zID a_p0 a_p1=some r):PFn prog 96 [(AV.agg (zI a_p0)),li a_p1] (li r):=by
 refine zq func96 rfl ntmps96 results96 rfl ?_
 unfold zID at h
 refine zH<|zC<|za (H':=[.box 55 (zI a_p0)]) (zw (t:=55) rfl)<|zA (zD rfl)<|zF<|zH ?_
 refine zH<|zC<|zA (zB rfl)<|zA (zg rfl rfl)<|zA (zB rfl)<|zT rfl rfl (fun hc1=>zt.step (zB rfl)) ?_
 refine zT rfl rfl (fun hc2=>zt.step (zAm (z5 rfl hc2) rfl))<|zA (zb rfl rfl)<|zF ?_
 refine zY h rfl (fun hb1 h => ?_) (fun hb1 h => ?_)
 ·refine zH<|zC<|zA (zD rfl)<|zF<|zd ?_
  show zAP _ _ _ _ _ _
  obtain rfl:=Option.some.inj h
  exact zv (zAO rfl rfl)
 ·refine zP<|zH<|zH<|zC<|zA (zK underlying55 rfl rfl sizeOf53 rfl)<|zA (zN isAgg53 rfl rfl rfl rfl) ?_
  refine zA (zZ underlying53 rfl)<|zA (zB rfl)<|zA (z7 rfl rfl)<|zF ?_
  refine zY h rfl (fun hb2 h => ?_) (fun hb2 h => ?_)
  ·refine zH<|zC<|zA (zD rfl)<|zF<|zd ?_
   show zAP _ _ _ _ _ _
   obtain rfl:=Option.some.inj h
   exact zv (zAO rfl rfl)
  ·refine zP ?_
   refine zx (fun e' H'=>Rep 65 0 e' H' (mkE [(2,(AV.ptr 0 0))]) [.box 55 (zI a_p0)]∧zFb a_p0=some r) ?_ ?_
   ·
    refine zH<|zC<|zA (zK underlying55 rfl rfl sizeOf53 rfl)<|zA (zN isAgg53 rfl rfl rfl rfl)<|zA (zZ underlying53 rfl)<|zA (zB rfl) ?_
    refine zF<|zQ<|z6 (σ:=Nat×Int) (fun s=>s.1) (fun s e' H'=>match s with | (n2,i3)=>Rep 65 0 e' H' (mkE [(2,(AV.ptr 0 0)),(26,(ls (cS cI) a_p0.lists)),(27,(li (a_p0.lists.length:Int))),(28,(li i3))]) [.box 55 (zI a_p0)]∧zCL a_p0 n2 i3=some r) (z9,0) ⟨zAD [0] rfl rfl (by kernel_rfl),h⟩ ?_
    clear h
    rintro ⟨n2,i3⟩ e' H' ⟨hrep,h⟩
    cases n2 with
    | zero=>exact absurd (show (none:Option _)=some r from h) (by simp)
    | succ n2 =>
     replace h:zDV a_p0 (zCL a_p0 n2) i3=some r:=h
     unfold zDV at h
     refine zV hrep ?_
     clear hrep
     refine zH<|zC<|zA (zg rfl rfl)<|zF<|zH ?_
     refine zY h rfl (fun hb12 h => ?_) (fun hb12 h => ?_)
     ·refine zP ?_
      refine zx (fun e' H'=>Rep 65 0 e' H' (mkE [(2,(AV.ptr 0 0)),(26,(ls (cS cI) a_p0.lists)),(27,(li (a_p0.lists.length:Int))),(28,(li i3))]) [.box 55 (zI a_p0)]∧zHK (zCL a_p0 n2) i3=some r) ?_ ?_
      ·
       refine zQ<|zH<|zC<|zM h fun hb14 h=>zA (zU underlying53 sizeOf22 (fun _=>rfl) rfl rfl hb14)<|zA (zW (o:=0) isAgg22 rfl rfl) ?_
       refine zA (zD rfl)<|zF<|zH<|zC<|zA (zB rfl)<|zA (zZ underlying22 rfl) ?_
       refine zA (zB rfl)<|zF<|zQ<|z6 (σ:=Nat×Int) (fun s=>s.1) (fun s e' H'=>match s with | (n3,i4)=>Rep 65 0 e' H' (mkE [(2,(AV.ptr 0 0)),(26,(ls (cS cI) a_p0.lists)),(27,(li (a_p0.lists.length:Int))),(28,(li i3)),(32,(ls cI (at_ a_p0.lists i3))),(33,(li ((at_ a_p0.lists i3).length:Int))),(34,(li i4))]) [.box 55 (zI a_p0)]∧zFd (zCL a_p0 n2) a_p0 i3 n3 i4=some r) (z9,0) ⟨zAD [0] rfl rfl (by kernel_rfl),h⟩ ?_
       clear h
       rintro ⟨n3,i4⟩ e' H' ⟨hrep,h⟩
       cases n3 with
       | zero=>exact absurd (show (none:Option _)=some r from h) (by simp)
       | succ n3 =>
        replace h:zDg (zCL a_p0 n2) a_p0 i3 (zFd (zCL a_p0 n2) a_p0 i3 n3) i4=some r:=h
        unfold zDg at h
        refine zV hrep ?_
        clear hrep
        refine zH<|zC<|zA (zg rfl rfl)<|zF<|zH ?_
        refine zY h rfl (fun hb15 h => ?_) (fun hb15 h => ?_)
        ·refine zP<|zH<|zQ<|zH<|zC<|zM h fun hb16 h => ?_
         refine zA (zU underlying22 sizeOf3 (fun _=>rfl) rfl rfl hb16)<|zA (zW (o:=0) isAgg3 rfl rfl)<|zA (zD rfl)<|zF<|zH<|zC ?_
         refine zA (zB rfl)<|zR h fun x1 hx1 h=>zh func123 rfl (by kernel_rfl) (.fn 123) rfl rfl (zLV hx1) rfl<|zF ?_
         refine zY h rfl (fun hb17 h => ?_) (fun hb17 h => ?_)
         ·refine zH<|zC<|zA (zD rfl)<|zF<|zd ?_
          show zAP _ _ _ _ _ _
          obtain rfl:=Option.some.inj h
          exact zv (zAO rfl rfl)
         ·refine zP<|zC<|zM h fun hb18 h=>zA (ze rfl rfl hb18)<|zA (zB rfl)<|zF ?_
          exact ⟨(n3,(i4+1)),Nat.lt_succ_self _,zAD [0] rfl rfl (by kernel_rfl),h⟩
        ·refine zy ?_
         exact ⟨zAD [0] rfl rfl (by kernel_rfl),h⟩
      ·
       clear h
       rintro e' H' ⟨hrep,h⟩
       refine zV hrep ?_
       clear hrep
       unfold zHK at h
       refine zC<|zM h fun hb13 h=>zA (ze rfl rfl hb13)<|zA (zB rfl)<|zF ?_
       exact ⟨(n2,(i3+1)),Nat.lt_succ_self _,zAD [0] rfl rfl (by kernel_rfl),h⟩
     ·refine zy ?_
      exact ⟨zAD [0] rfl rfl (by kernel_rfl),h⟩
   ·
    clear h
    rintro e' H' ⟨hrep,h⟩
    refine zV hrep ?_
    clear hrep
    unfold zFb at h
    refine zH<|zC<|zM h fun hb3 h=>zDu (f:=cB) (a:=256) (c:=256) (d0:=false) zTq ⟨zf.refl _,trivial⟩ rfl underlying121 rfl rfl hb3<|zA (zD rfl)<|zF ?_
    refine zx (fun e' H'=>Rep 65 0 e' H' (mkE []) []∧zIi  = some r) ?_ ?_
    ·
     refine zH<|zC<|zA (zK underlying55 rfl rfl sizeOf53 rfl)<|zA (zN isAgg53 rfl rfl rfl rfl)<|zA (zZ underlying53 rfl)<|zA (zB rfl) ?_
     refine zF<|zQ<|z6 (σ:=Nat×Int×(List Bool)) (fun s=>s.1) (fun s e' H'=>match s with | (n0,i1,l1)=>Rep 65 0 e' H' (mkE [(9,(AV.hd 0)),(44,(ls (cS cI) a_p0.lists)),(45,(li (a_p0.lists.length:Int))),(46,(li i1))]) [.vec 4 1 (List.map cB l1)]∧zCJ a_p0 n0 i1 l1=some r) (z9,0,(List.replicate (256:Int).toNat false)) ⟨zAD [1] rfl rfl (by kernel_rfl),h⟩ ?_
     clear h
     rintro ⟨n0,i1,l1⟩ e' H' ⟨hrep,h⟩
     cases n0 with
     | zero=>exact absurd (show (none:Option _)=some r from h) (by simp)
     | succ n0 =>
      replace h:zDk a_p0 (zCJ a_p0 n0) i1 l1=some r:=h
      unfold zDk at h
      refine zV hrep ?_
      clear hrep
      refine zH<|zC<|zA (zg rfl rfl)<|zF<|zH ?_
      refine zY h rfl (fun hb4 h => ?_) (fun hb4 h => ?_)
      ·refine zP ?_
       refine zx (fun e' H' => ∃ (l2:List Bool),Rep 65 0 e' H' (mkE [(9,(AV.hd 0)),(44,(ls (cS cI) a_p0.lists)),(45,(li (a_p0.lists.length:Int))),(46,(li i1))]) [.vec 4 1 (List.map cB l2)]∧zHL (zCJ a_p0 n0) i1 l2=some r) ?_ ?_
       ·
        refine zQ<|zH<|zC<|zM h fun hb6 h=>zA (zU underlying53 sizeOf22 (fun _=>rfl) rfl rfl hb6)<|zA (zW (o:=0) isAgg22 rfl rfl) ?_
        refine zA (zD rfl)<|zF<|zH<|zC<|zA (zB rfl)<|zA (zZ underlying22 rfl) ?_
        refine zA (zB rfl)<|zF<|zQ<|z6 (σ:=Nat×Int×(List Bool)) (fun s=>s.1) (fun s e' H'=>match s with | (n1,i2,l3)=>Rep 65 0 e' H' (mkE [(9,(AV.hd 0)),(44,(ls (cS cI) a_p0.lists)),(45,(li (a_p0.lists.length:Int))),(46,(li i1)),(50,(ls cI (at_ a_p0.lists i1))),(51,(li ((at_ a_p0.lists i1).length:Int))),(52,(li i2))]) [.vec 4 1 (List.map cB l3)]∧zFn (zCJ a_p0 n0) a_p0 i1 n1 i2 l3=some r) (z9,0,l1) ⟨zAD [0] rfl rfl (by kernel_rfl),h⟩ ?_
        clear h
        rintro ⟨n1,i2,l3⟩ e' H' ⟨hrep,h⟩
        cases n1 with
        | zero=>exact absurd (show (none:Option _)=some r from h) (by simp)
        | succ n1 =>
         replace h:zDL (zCJ a_p0 n0) a_p0 i1 (zFn (zCJ a_p0 n0) a_p0 i1 n1) i2 l3=some r:=h
         unfold zDL at h
         refine zV hrep ?_
         clear hrep
         refine zH<|zC<|zA (zg rfl rfl)<|zF<|zH ?_
         refine zY h rfl (fun hb7 h => ?_) (fun hb7 h => ?_)
         ·refine zP<|zH<|zQ<|zH<|zC<|zM h fun hb8 h => ?_
          refine zA (zU underlying22 sizeOf3 (fun _=>rfl) rfl rfl hb8)<|zA (zW (o:=0) isAgg3 rfl rfl)<|zA (zD rfl)<|zF<|zH<|zH ?_
          refine zC<|zA (zB rfl)<|zA (zB rfl)<|zM h fun hb9 h=>zA (zAC (f:=cB) (l:=l3) (i:=at_ (at_ a_p0.lists i1) i2) underlying121 sizeOf4 rfl rfl rfl hb9)<|zA (zBY (f:=cB) (l:=l3) (i:=at_ (at_ a_p0.lists i1) i2) (c:=0) (a:=(AV.lit (.bool (at_ l3 (at_ (at_ a_p0.lists i1) i2))))) isAgg4 rfl rfl (by first | rfl | omega) hb9 rfl rfl) ?_
          refine zF ?_
          refine zY h rfl (fun hb10 h => ?_) (fun hb10 h => ?_)
          ·refine zH<|zC<|zA (zD rfl)<|zF<|zd ?_
           show zAP _ _ _ _ _ _
           obtain rfl:=Option.some.inj h
           exact zv (zAO rfl rfl)
          ·refine zP<|zC<|zA (zB rfl)<|zA (zB rfl)<|zA (zAC (f:=cB) (l:=l3) (i:=at_ (at_ a_p0.lists i1) i2) underlying121 sizeOf4 rfl rfl rfl hb9)<|zp (H':=[.vec 4 1 (List.map cB (l3.set (at_ (at_ a_p0.lists i1) i2).toNat true))]) (zCR (k:=0) (o:=((at_ (at_ a_p0.lists i1) i2).toNat*1)) (f:=cB) (l:=l3) (i:=at_ (at_ a_p0.lists i1) i2) (c:=0) (a:=(AV.lit (.bool true))) (z:=true) sizeOf4 rfl rfl (by first | rfl | omega) hb9 rfl rfl rfl rfl rfl) ?_
           refine zF<|zC<|zM h fun hb11 h=>zA (ze rfl rfl hb11)<|zA (zB rfl)<|zF ?_
           exact ⟨(n1,(i2+1),(l3.set (at_ (at_ a_p0.lists i1) i2).toNat true)),Nat.lt_succ_self _,zAD [0] rfl rfl (by kernel_rfl),h⟩
         ·refine zy ?_
          exact ⟨l3,zAD [0] rfl rfl (by kernel_rfl),h⟩
       ·
        clear h
        rintro e' H' ⟨l2,hrep,h⟩
        refine zV hrep ?_
        clear hrep
        unfold zHL at h
        refine zC<|zM h fun hb5 h=>zA (ze rfl rfl hb5)<|zA (zB rfl)<|zF ?_
        exact ⟨(n0,(i1+1),l2),Nat.lt_succ_self _,zAD [0] rfl rfl (by kernel_rfl),h⟩
      ·refine zy ?_
       exact ⟨zAD [] rfl rfl (by kernel_rfl),h⟩
    ·
     clear h
     rintro e' H' ⟨hrep,h⟩
     refine zV hrep ?_
     clear hrep
     unfold zIi at h
     refine zH<|zC<|zA (zD rfl)<|zF<|zd ?_
     show zAP _ _ _ _ _ _
     obtain rfl:=Option.some.inj h
     exact zv (zAO rfl rfl)
theorem zJu {a_z:zo} {a_frame:Int} {r:Bool} (h:zF6 a_z a_frame=some r):PFn prog 98 [(AV.agg (zO a_z)),li a_frame] (AV.lit (.bool r)):=by
 refine zq func98 rfl ntmps98 results98 rfl ?_
 unfold zF6 at h
 refine zH<|zC<|za (H':=[.box 51 (zO a_z)]) (zw (t:=51) rfl)<|zA (zD rfl)<|zF<|zH ?_
 refine zC<|zA (zS (k:=0) (o:=0) (m:=10) isAgg51 sizeOf51 rfl rfl rfl rfl rfl)<|zR h fun x1 hx1 h=>zh func47 rfl (by kernel_rfl) (.fn 47) rfl rfl (zId hx1) rfl<|zA (zBd rfl rfl)<|zA (zB rfl) ?_
 refine zm rfl rfl (fun hc1=>zt.step (zS (k:=0) (o:=0) (m:=10) isAgg51 sizeOf51 rfl rfl rfl rfl rfl))<|zm rfl rfl (fun hc2=>zt.step (zB rfl))<|zR h fun x2 hx2 h=>zCl (g:=8) (s:=decide (x1=0)) (r':=(AV.lit (.bool x2))) rfl rfl (fun hc3=>⟨72,_,_,[],[(AV.agg (zO a_z)),li a_frame,li 0],[(AV.agg (zO a_z)),li a_frame,li 0],(AV.lit (.bool x2)),[],func72,rfl,by kernel_rfl,.fn 72,(zAJ (z5 rfl hc3) (zAJ (z5 rfl hc3) (zAJ rfl rfl))),⟨zAs.nr rfl,zAs.nr rfl,zAs.nr rfl,trivial⟩,zEW (zFU hc3 hx2),.inl rfl,rfl⟩)<|zA (zz (j := .lit undef) rfl rfl)<|zA (zB rfl) ?_
 refine zm rfl rfl (fun hc4=>zt.step (zS (k:=0) (o:=0) (m:=10) isAgg51 sizeOf51 rfl rfl rfl rfl rfl))<|zR h fun x3 hx3 h=>zCl (g:=13) (s:=(decide (x1=0))&&x2) (r':=(ls cI x3)) rfl rfl (fun hc5=>⟨95,_,_,[],[(AV.agg (zO a_z))],[(AV.agg (zO a_z))],(AV.osl 3 1 (List.map cI x3)),[],func95,rfl,by kernel_rfl,.fn 95,(zAJ (z5 rfl hc5) rfl),⟨zAs.nr rfl,trivial⟩,zJo (zFU hc5 hx3),.inl rfl,(congrArg (AV.sl false) (zAL (fun _=>rfl)))⟩)<|zm rfl rfl (fun hc6=>zt.step (zB rfl))<|zM h fun hb1 h=>zm rfl rfl (fun hc7=>zt.step (zU underlying22 sizeOf3 (fun _=>rfl) (z5 rfl hc7) (z5 rfl hc7) (zEb hb1 hc7))) ?_
 refine zm rfl rfl (fun hc8=>zt.step (zW (o:=0) isAgg3 (z5 rfl hc8) rfl))<|zm rfl rfl (fun hc9=>zt.step (zAm (z5 rfl hc9) rfl))<|zA (zz (j := .lit undef) rfl rfl)<|zA (zD rfl)<|zF<|zd ?_
 show zAP _ _ _ _ _ _
 obtain rfl:=Option.some.inj h
 exact zv (zAO rfl rfl)
theorem zJ8 {a_p0:zJ} {r:Int} (h:zFL a_p0=some r):PFn prog 97 [(AV.agg (zG a_p0))] (li r):=by
 refine zq func97 rfl ntmps97 results97 rfl ?_
 unfold zFL at h
 refine zH<|zC<|za (H':=[.box 26 (zG a_p0)]) (zw (t:=26) rfl)<|zA (zD rfl)<|zF<|zH ?_
 refine zC<|zM h fun hb1 h=>zDu (f:=cB) (a:=256) (c:=256) (d0:=false) zTq ⟨zf.refl _,trivial⟩ rfl underlying121 rfl rfl hb1<|zA (zD rfl)<|zF ?_
 refine zx (fun e' H'=>Rep 94 0 e' H' (mkE []) []∧zFW  = some r) ?_ ?_
 ·
  refine zH<|zC<|zA (zD rfl)<|zF<|zQ<|z6 (σ:=Nat×Int×(List Bool)) (fun s=>s.1) (fun s e' H'=>match s with | (n0,i1,l1)=>Rep 94 0 e' H' (mkE [(1,(AV.ptr 0 0)),(3,(AV.hd 1)),(4,(li i1))]) [.box 26 (zG a_p0),.vec 4 1 (List.map cB l1)]∧zAM a_p0 n0 i1 l1=some r) (z9,0,(List.replicate (256:Int).toNat false)) ⟨zAD [0,1] rfl rfl (by kernel_rfl),h⟩ ?_
  clear h
  rintro ⟨n0,i1,l1⟩ e' H' ⟨hrep,h⟩
  cases n0 with
  | zero=>exact absurd (show (none:Option _)=some r from h) (by simp)
  | succ n0 =>
   replace h:zBN a_p0 (zAM a_p0 n0) i1 l1=some r:=h
   unfold zBN at h
   refine zV hrep ?_
   clear hrep
   refine zH<|zH<|zC<|zA (zB rfl)<|zA (zK underlying26 rfl rfl sizeOf24 rfl)<|zA (zN isAgg24 rfl rfl rfl rfl) ?_
   refine zA (zZ underlying24 rfl)<|zA (zg rfl rfl)<|zF ?_
   refine zY h rfl (fun hb2 h => ?_) (fun hb2 h => ?_)
   ·refine zP ?_
    refine zx (fun e' H' => ∃ (l2:List Bool),Rep 94 0 e' H' (mkE [(1,(AV.ptr 0 0)),(3,(AV.hd 1)),(4,(li i1))]) [.box 26 (zG a_p0),.vec 4 1 (List.map cB l2)]∧zDo (zAM a_p0 n0) i1 l2=some r) ?_ ?_
    ·
     refine zQ<|zH<|zC<|zA (zD rfl)<|zF<|zQ ?_
     refine z6 (σ:=Nat×Int×(List Bool)) (fun s=>s.1) (fun s e' H'=>match s with | (n1,i2,l3)=>Rep 94 0 e' H' (mkE [(1,(AV.ptr 0 0)),(3,(AV.hd 1)),(4,(li i1)),(5,(li i2))]) [.box 26 (zG a_p0),.vec 4 1 (List.map cB l3)]∧zAZ (zAM a_p0 n0) a_p0 i1 n1 i2 l3=some r) (z9,0,l1) ⟨zAD [0,1] rfl rfl (by kernel_rfl),h⟩ ?_
     clear h
     rintro ⟨n1,i2,l3⟩ e' H' ⟨hrep,h⟩
     cases n1 with
     | zero=>exact absurd (show (none:Option _)=some r from h) (by simp)
     | succ n1 =>
      replace h:zBS (zAM a_p0 n0) a_p0 i1 (zAZ (zAM a_p0 n0) a_p0 i1 n1) i2 l3=some r:=h
      unfold zBS at h
      refine zV hrep ?_
      clear hrep
      refine zH<|zH<|zC<|zA (zB rfl)<|zA (zK underlying26 rfl rfl sizeOf23 rfl)<|zA (zN isAgg23 rfl rfl rfl rfl) ?_
      refine zA (zZ underlying23 rfl)<|zA (zg rfl rfl)<|zF ?_
      refine zY h rfl (fun hb4 h => ?_) (fun hb4 h => ?_)
      ·refine zP ?_
       refine zx (fun e' H' => ∃ (l4:List Bool),Rep 94 0 e' H' (mkE [(1,(AV.ptr 0 0)),(3,(AV.hd 1)),(4,(li i1)),(5,(li i2))]) [.box 26 (zG a_p0),.vec 4 1 (List.map cB l4)]∧zDq (zAZ (zAM a_p0 n0) a_p0 i1 n1) i2 l4=some r) ?_ ?_
       ·
        refine zQ<|zH<|zC<|zA (zK underlying26 rfl rfl sizeOf24 rfl)<|zA (zN isAgg24 rfl rfl rfl rfl)<|zA (zB rfl) ?_
        refine zM h fun hb6 h=>zA (zU underlying24 sizeOf55 (fun _=>rfl) rfl rfl hb6)<|zA (zBP (row:=(zI (at_ a_p0.caches i1))) (o:=0) (off:=0) underlying55 rfl rfl sizeOf53 rfl)<|zA (zW (o:=0) isAgg53 rfl rfl)<|zA (zB rfl)<|zM h fun hb7 h => ?_
        refine zA (zU underlying53 sizeOf22 (fun _=>rfl) rfl rfl hb7)<|zA (zW (o:=0) isAgg22 rfl rfl)<|zA (zD rfl)<|zF<|zH<|zC ?_
        refine zA (zD rfl)<|zF<|zQ<|z6 (σ:=Nat×Int×(List Bool)) (fun s=>s.1) (fun s e' H'=>match s with | (n2,i3,l5)=>Rep 94 0 e' H' (mkE [(1,(AV.ptr 0 0)),(3,(AV.hd 1)),(4,(li i1)),(5,(li i2)),(6,(ls cI (at_ ((at_ a_p0.caches i1).lists) i2))),(7,(li i3))]) [.box 26 (zG a_p0),.vec 4 1 (List.map cB l5)]∧zCE (zAZ (zAM a_p0 n0) a_p0 i1 n1) a_p0 i1 i2 n2 i3 l5=some r) (z9,0,l3) ⟨zAD [0,1] rfl rfl (by kernel_rfl),h⟩ ?_
        clear h
        rintro ⟨n2,i3,l5⟩ e' H' ⟨hrep,h⟩
        cases n2 with
        | zero=>exact absurd (show (none:Option _)=some r from h) (by simp)
        | succ n2 =>
         replace h:zBQ (zAZ (zAM a_p0 n0) a_p0 i1 n1) a_p0 i1 i2 (zCE (zAZ (zAM a_p0 n0) a_p0 i1 n1) a_p0 i1 i2 n2) i3 l5=some r:=h
         unfold zBQ at h
         refine zV hrep ?_
         clear hrep
         refine zH<|zH<|zC<|zA (zB rfl)<|zA (zB rfl)<|zA (zZ underlying22 rfl) ?_
         refine zA (zg rfl rfl)<|zF ?_
         refine zY h rfl (fun hb8 h => ?_) (fun hb8 h => ?_)
         ·refine zP<|zH<|zQ<|zH<|zH<|zM h fun hb9 h => ?_
          refine zM h fun hb10 h=>zM h fun hb11 h => ?_
          show AW _ _ _ _ _ _ [.box 26 (zG a_p0),.vec 4 1 (List.map cB l5)]
          refine zA2 (n:=94) (m:=0) [.head 0 0,.head 0 0,.head 0 0,.head 0 0,.head 0 0,.head 0 0,.head 0 0,.head 0 0,.head 0 0,.head 0 0,.head 0 0,.head 0 0,.head 0 0,.head 0 0,.head 0 0,.head 0 0,.head 0 0,.head 0 0,.head 0 0,.head 0 0,.head 0 0,.head 0 0,.head 0 0,.head 0 0,.head 0 0,.head 0 0,.head 0 0,.head 0 0,.head 0 0,.head 0 0,.head 0 0] [] [(ls cI (at_ ((at_ a_p0.caches i1).lists) i2)),li i3,(AV.rp (cI (at_ (at_ ((at_ a_p0.caches i1).lists) i2) i3)) 0),(li (at_ (at_ ((at_ a_p0.caches i1).lists) i2) i3)),AV.ptr 0 3,ls zO a_p0.zones,li i2,(AV.rp (zO (at_ a_p0.zones i2)) 0),(AV.rp (zO (at_ a_p0.zones i2)) 2),(li ((at_ a_p0.zones i2).start)),(AV.lit (.bool (decide ((at_ (at_ ((at_ a_p0.caches i1).lists) i2) i3)<((at_ a_p0.zones i2).start))))),(AV.lit (.bool (decide ((at_ (at_ ((at_ a_p0.caches i1).lists) i2) i3)<((at_ a_p0.zones i2).start))))),(bif !(decide ((at_ (at_ ((at_ a_p0.caches i1).lists) i2) i3)<((at_ a_p0.zones i2).start))) then (ls cI (at_ ((at_ a_p0.caches i1).lists) i2)) else .lit undef),(bif !(decide ((at_ (at_ ((at_ a_p0.caches i1).lists) i2) i3)<((at_ a_p0.zones i2).start))) then (li i3) else .lit undef),(bif !(decide ((at_ (at_ ((at_ a_p0.caches i1).lists) i2) i3)<((at_ a_p0.zones i2).start))) then (AV.rp (cI (at_ (at_ ((at_ a_p0.caches i1).lists) i2) i3)) 0) else .lit undef),(bif !(decide ((at_ (at_ ((at_ a_p0.caches i1).lists) i2) i3)<((at_ a_p0.zones i2).start))) then (li (at_ (at_ ((at_ a_p0.caches i1).lists) i2) i3)) else .lit undef),(bif !(decide ((at_ (at_ ((at_ a_p0.caches i1).lists) i2) i3)<((at_ a_p0.zones i2).start))) then (AV.ptr 0 3) else .lit undef),(bif !(decide ((at_ (at_ ((at_ a_p0.caches i1).lists) i2) i3)<((at_ a_p0.zones i2).start))) then (ls zO a_p0.zones) else .lit undef),(bif !(decide ((at_ (at_ ((at_ a_p0.caches i1).lists) i2) i3)<((at_ a_p0.zones i2).start))) then (li i2) else .lit undef),(bif !(decide ((at_ (at_ ((at_ a_p0.caches i1).lists) i2) i3)<((at_ a_p0.zones i2).start))) then (AV.rp (zO (at_ a_p0.zones i2)) 0) else .lit undef),(bif !(decide ((at_ (at_ ((at_ a_p0.caches i1).lists) i2) i3)<((at_ a_p0.zones i2).start))) then (AV.rp (zO (at_ a_p0.zones i2)) 2) else .lit undef),(bif !(decide ((at_ (at_ ((at_ a_p0.caches i1).lists) i2) i3)<((at_ a_p0.zones i2).start))) then (li ((at_ a_p0.zones i2).start)) else .lit undef),(bif !(decide ((at_ (at_ ((at_ a_p0.caches i1).lists) i2) i3)<((at_ a_p0.zones i2).start))) then (AV.ptr 0 3) else .lit undef),(bif !(decide ((at_ (at_ ((at_ a_p0.caches i1).lists) i2) i3)<((at_ a_p0.zones i2).start))) then (ls zO a_p0.zones) else .lit undef),(bif !(decide ((at_ (at_ ((at_ a_p0.caches i1).lists) i2) i3)<((at_ a_p0.zones i2).start))) then (li i2) else .lit undef),(bif !(decide ((at_ (at_ ((at_ a_p0.caches i1).lists) i2) i3)<((at_ a_p0.zones i2).start))) then (AV.rp (zO (at_ a_p0.zones i2)) 0) else .lit undef),(bif !(decide ((at_ (at_ ((at_ a_p0.caches i1).lists) i2) i3)<((at_ a_p0.zones i2).start))) then (AV.rp (zO (at_ a_p0.zones i2)) 3) else .lit undef),(bif !(decide ((at_ (at_ ((at_ a_p0.caches i1).lists) i2) i3)<((at_ a_p0.zones i2).start))) then (li ((at_ a_p0.zones i2).count)) else .lit undef),(bif !(decide ((at_ (at_ ((at_ a_p0.caches i1).lists) i2) i3)<((at_ a_p0.zones i2).start))) then (li (((at_ a_p0.zones i2).start)+((at_ a_p0.zones i2).count))) else .lit undef),(bif !(decide ((at_ (at_ ((at_ a_p0.caches i1).lists) i2) i3)<((at_ a_p0.zones i2).start))) then (AV.lit (.bool (decide ((((at_ a_p0.zones i2).start)+((at_ a_p0.zones i2).count))≤(at_ (at_ ((at_ a_p0.caches i1).lists) i2) i3))))) else .lit undef),(AV.lit (.bool ((decide ((at_ (at_ ((at_ a_p0.caches i1).lists) i2) i3)<((at_ a_p0.zones i2).start)))||(decide ((((at_ a_p0.zones i2).start)+((at_ a_p0.zones i2).count))≤(at_ (at_ ((at_ a_p0.caches i1).lists) i2) i3))))))] [[.box 26 (zG a_p0),.vec 4 1 (List.map cB l5)]] (by kernel_rfl) (by kernel_rfl) ⟨?_,?_,?_,?_,?_,?_,?_,?_,?_,?_,?_,?_,?_,?_,?_,?_,?_,?_,?_,?_,?_,?_,?_,?_,?_,?_,?_,?_,?_,?_,?_,trivial⟩ ?_
          ·exact D1 fun e s p=>zB (s 6 rfl)
          ·exact D1 fun e s p=>zB (s 7 rfl)
          ·exact D1 fun e s p=>zU (f:=cI) (l:=at_ ((at_ a_p0.caches i1).lists) i2) (i:=i3) underlying22 sizeOf3 (fun _=>rfl) p.1 p.2.1 hb9
          ·exact D1 fun e s p=>zW (o:=0) isAgg3 p.1 rfl
          ·exact D1 fun e s p=>zK (k:=0) (o:=0) (off:=3) underlying26 rfl rfl sizeOf23 (s 1 rfl)
          ·exact D1 fun e s p=>zN (k:=0) (o:=3) isAgg23 p.1 rfl rfl rfl
          ·exact D1 fun e s p=>zB (s 5 rfl)
          ·exact D1 fun e s p=>zU (f:=zO) (l:=a_p0.zones) (i:=i2) underlying23 sizeOf51 (fun _=>rfl) p.1 p.2.1 hb10
          ·exact D1 fun e s p=>zBP (row:=(zO (at_ a_p0.zones i2))) (o:=0) (off:=2) underlying51 rfl rfl sizeOf3 p.1
          ·exact D1 fun e s p=>zW (o:=2) isAgg3 p.1 rfl
          ·exact D1 fun e s p=>zg (a:=at_ (at_ ((at_ a_p0.caches i1).lists) i2) i3) (b:=(at_ a_p0.zones i2).start) p.1 p.2.1
          ·exact D1 fun e s p=>zB p.1
          ·
           intro e13 hs13 hp13
           refine zT (g:=49) (s:=decide ((at_ (at_ ((at_ a_p0.caches i1).lists) i2) i3)<((at_ a_p0.zones i2).start))) rfl hp13.1 (fun hc19=>zt.step (zB (av:=(ls cI (at_ ((at_ a_p0.caches i1).lists) i2))) (hs13 6 rfl))) ?_
           exact zF ⟨fun _=>rfl,rfl⟩
          ·
           intro e14 hs14 hp14
           refine zT (g:=49) (s:=decide ((at_ (at_ ((at_ a_p0.caches i1).lists) i2) i3)<((at_ a_p0.zones i2).start))) rfl hp14.1 (fun hc20=>zt.step (zB (av:=(li i3)) (hs14 7 rfl))) ?_
           exact zF ⟨fun _=>rfl,rfl⟩
          ·
           intro e15 hs15 hp15
           refine zT (g:=49) (s:=decide ((at_ (at_ ((at_ a_p0.caches i1).lists) i2) i3)<((at_ a_p0.zones i2).start))) rfl hp15.2.2.1 (fun hc21=>zt.step (zU (f:=cI) (l:=at_ ((at_ a_p0.caches i1).lists) i2) (i:=i3) underlying22 sizeOf3 (fun _=>rfl) (z5 hp15.1 hc21) (z5 hp15.2.1 hc21) hb9)) ?_
           exact zF ⟨fun _=>rfl,rfl⟩
          ·
           intro e16 hs16 hp16
           refine zT (g:=49) (s:=decide ((at_ (at_ ((at_ a_p0.caches i1).lists) i2) i3)<((at_ a_p0.zones i2).start))) rfl hp16.2.1 (fun hc22=>zt.step (zW (row:=(cI (at_ (at_ ((at_ a_p0.caches i1).lists) i2) i3))) (o:=0) (a:=(li (at_ (at_ ((at_ a_p0.caches i1).lists) i2) i3))) isAgg3 (z5 hp16.1 hc22) rfl)) ?_
           exact zF ⟨fun _=>rfl,rfl⟩
          ·
           intro e17 hs17 hp17
           refine zT (g:=49) (s:=decide ((at_ (at_ ((at_ a_p0.caches i1).lists) i2) i3)<((at_ a_p0.zones i2).start))) rfl hp17.1 (fun hc23=>zt.step (zK (k:=0) (o:=0) (off:=3) underlying26 rfl rfl sizeOf23 (hs17 1 rfl))) ?_
           exact zF ⟨fun _=>rfl,rfl⟩
          ·
           intro e18 hs18 hp18
           refine zT (g:=49) (s:=decide ((at_ (at_ ((at_ a_p0.caches i1).lists) i2) i3)<((at_ a_p0.zones i2).start))) rfl hp18.2.1 (fun hc24=>zt.step (zN (k:=0) (o:=3) (a:=(ls zO a_p0.zones)) isAgg23 (z5 hp18.1 hc24) rfl rfl rfl)) ?_
           exact zF ⟨fun _=>rfl,rfl⟩
          ·
           intro e19 hs19 hp19
           refine zT (g:=49) (s:=decide ((at_ (at_ ((at_ a_p0.caches i1).lists) i2) i3)<((at_ a_p0.zones i2).start))) rfl hp19.1 (fun hc25=>zt.step (zB (av:=(li i2)) (hs19 5 rfl))) ?_
           exact zF ⟨fun _=>rfl,rfl⟩
          ·
           intro e20 hs20 hp20
           refine zT (g:=49) (s:=decide ((at_ (at_ ((at_ a_p0.caches i1).lists) i2) i3)<((at_ a_p0.zones i2).start))) rfl hp20.2.2.1 (fun hc26=>zt.step (zU (f:=zO) (l:=a_p0.zones) (i:=i2) underlying23 sizeOf51 (fun _=>rfl) (z5 hp20.1 hc26) (z5 hp20.2.1 hc26) hb10)) ?_
           exact zF ⟨fun _=>rfl,rfl⟩
          ·
           intro e21 hs21 hp21
           refine zT (g:=49) (s:=decide ((at_ (at_ ((at_ a_p0.caches i1).lists) i2) i3)<((at_ a_p0.zones i2).start))) rfl hp21.2.1 (fun hc27=>zt.step (zBP (row:=(zO (at_ a_p0.zones i2))) (o:=0) (off:=2) underlying51 rfl rfl sizeOf3 (z5 hp21.1 hc27))) ?_
           exact zF ⟨fun _=>rfl,rfl⟩
          ·
           intro e22 hs22 hp22
           refine zT (g:=49) (s:=decide ((at_ (at_ ((at_ a_p0.caches i1).lists) i2) i3)<((at_ a_p0.zones i2).start))) rfl hp22.2.1 (fun hc28=>zt.step (zW (row:=(zO (at_ a_p0.zones i2))) (o:=2) (a:=(li ((at_ a_p0.zones i2).start))) isAgg3 (z5 hp22.1 hc28) rfl)) ?_
           exact zF ⟨fun _=>rfl,rfl⟩
          ·
           intro e23 hs23 hp23
           refine zT (g:=49) (s:=decide ((at_ (at_ ((at_ a_p0.caches i1).lists) i2) i3)<((at_ a_p0.zones i2).start))) rfl hp23.1 (fun hc29=>zt.step (zK (k:=0) (o:=0) (off:=3) underlying26 rfl rfl sizeOf23 (hs23 1 rfl))) ?_
           exact zF ⟨fun _=>rfl,rfl⟩
          ·
           intro e24 hs24 hp24
           refine zT (g:=49) (s:=decide ((at_ (at_ ((at_ a_p0.caches i1).lists) i2) i3)<((at_ a_p0.zones i2).start))) rfl hp24.2.1 (fun hc30=>zt.step (zN (k:=0) (o:=3) (a:=(ls zO a_p0.zones)) isAgg23 (z5 hp24.1 hc30) rfl rfl rfl)) ?_
           exact zF ⟨fun _=>rfl,rfl⟩
          ·
           intro e25 hs25 hp25
           refine zT (g:=49) (s:=decide ((at_ (at_ ((at_ a_p0.caches i1).lists) i2) i3)<((at_ a_p0.zones i2).start))) rfl hp25.1 (fun hc31=>zt.step (zB (av:=(li i2)) (hs25 5 rfl))) ?_
           exact zF ⟨fun _=>rfl,rfl⟩
          ·
           intro e26 hs26 hp26
           refine zT (g:=49) (s:=decide ((at_ (at_ ((at_ a_p0.caches i1).lists) i2) i3)<((at_ a_p0.zones i2).start))) rfl hp26.2.2.1 (fun hc32=>zt.step (zU (f:=zO) (l:=a_p0.zones) (i:=i2) underlying23 sizeOf51 (fun _=>rfl) (z5 hp26.1 hc32) (z5 hp26.2.1 hc32) hb10)) ?_
           exact zF ⟨fun _=>rfl,rfl⟩
          ·
           intro e27 hs27 hp27
           refine zT (g:=49) (s:=decide ((at_ (at_ ((at_ a_p0.caches i1).lists) i2) i3)<((at_ a_p0.zones i2).start))) rfl hp27.2.1 (fun hc33=>zt.step (zBP (row:=(zO (at_ a_p0.zones i2))) (o:=0) (off:=3) underlying51 rfl rfl sizeOf3 (z5 hp27.1 hc33))) ?_
           exact zF ⟨fun _=>rfl,rfl⟩
          ·
           intro e28 hs28 hp28
           refine zT (g:=49) (s:=decide ((at_ (at_ ((at_ a_p0.caches i1).lists) i2) i3)<((at_ a_p0.zones i2).start))) rfl hp28.2.1 (fun hc34=>zt.step (zW (row:=(zO (at_ a_p0.zones i2))) (o:=3) (a:=(li ((at_ a_p0.zones i2).count))) isAgg3 (z5 hp28.1 hc34) rfl)) ?_
           exact zF ⟨fun _=>rfl,rfl⟩
          ·
           intro e29 hs29 hp29
           refine zT (g:=49) (s:=decide ((at_ (at_ ((at_ a_p0.caches i1).lists) i2) i3)<((at_ a_p0.zones i2).start))) rfl hp29.2.2.1 (fun hc35=>zt.step (ze (a:=(at_ a_p0.zones i2).start) (b:=(at_ a_p0.zones i2).count) (z5 hp29.1 hc35) (z5 hp29.2.1 hc35) (zEb hb11 hc35))) ?_
           exact zF ⟨fun _=>rfl,rfl⟩
          ·
           intro e30 hs30 hp30
           refine zT (g:=49) (s:=decide ((at_ (at_ ((at_ a_p0.caches i1).lists) i2) i3)<((at_ a_p0.zones i2).start))) rfl hp30.2.2.1 (fun hc36=>zt.step (zAv (a:=at_ (at_ ((at_ a_p0.caches i1).lists) i2) i3) (b:=((at_ a_p0.zones i2).start)+((at_ a_p0.zones i2).count)) (z5 hp30.1 hc36) (z5 hp30.2.1 hc36))) ?_
           exact zF ⟨fun _=>rfl,rfl⟩
          ·exact D1 fun e s p=>zb (s:=decide ((at_ (at_ ((at_ a_p0.caches i1).lists) i2) i3)<((at_ a_p0.zones i2).start))) (q:=decide ((((at_ a_p0.zones i2).start)+((at_ a_p0.zones i2).count))≤(at_ (at_ ((at_ a_p0.caches i1).lists) i2) i3))) (j := .lit undef) p.1 p.2.1
          intro e32 hs32 hq1
          refine zV (zBa (l:=[(1,(AV.ptr 0 0)),(3,(AV.hd 1)),(4,(li i1)),(5,(li i2)),(6,(ls cI (at_ ((at_ a_p0.caches i1).lists) i2))),(7,(li i3)),(68,(AV.lit (.bool ((decide ((at_ (at_ ((at_ a_p0.caches i1).lists) i2) i3)<((at_ a_p0.zones i2).start)))||(decide ((((at_ a_p0.zones i2).start)+((at_ a_p0.zones i2).count))≤(at_ (at_ ((at_ a_p0.caches i1).lists) i2) i3)))))))]) ⟨hs32 1 rfl,hs32 3 rfl,hs32 4 rfl,hs32 5 rfl,hs32 6 rfl,hs32 7 rfl,(hq1 30 (by decide) (by decide)),trivial⟩) ?_
          refine zY h rfl (fun hb12 h => ?_) (fun hb12 h => ?_)
          ·refine zH<|zC<|zA (zD rfl)<|zF<|zd ?_
           show zAP _ _ _ _ _ _
           obtain rfl:=Option.some.inj h
           exact zv (zAO rfl rfl)
          ·refine zP<|zH<|zH<|zM h fun hb13 h=>zR h fun x1 hx1 h => ?_
           show AW _ _ _ _ _ _ [.box 26 (zG a_p0),.vec 4 1 (List.map cB l5)]
           refine zA2 (n:=94) (m:=0) [.head 0 0,.head 0 0,.head 0 0,.head 0 0,.head 0 0,.head 0 0,.head 0 0,.head 0 0,.head 0 0,.head 0 0,.head 0 0,.head 0 0,.head 0 0,.head 0 0,.head 0 0,.head 0 0,.head 0 0,.head 0 0,.head 0 0] [] [AV.hd 1,(ls cI (at_ ((at_ a_p0.caches i1).lists) i2)),li i3,(AV.rp (cI (at_ (at_ ((at_ a_p0.caches i1).lists) i2) i3)) 0),(li (at_ (at_ ((at_ a_p0.caches i1).lists) i2) i3)),(AV.ptr 1 ((at_ (at_ ((at_ a_p0.caches i1).lists) i2) i3).toNat*1)),(AV.lit (.bool (at_ l5 (at_ (at_ ((at_ a_p0.caches i1).lists) i2) i3)))),(AV.lit (.bool (at_ l5 (at_ (at_ ((at_ a_p0.caches i1).lists) i2) i3)))),(bif !(at_ l5 (at_ (at_ ((at_ a_p0.caches i1).lists) i2) i3)) then (AV.ptr 0 3) else .lit undef),(bif !(at_ l5 (at_ (at_ ((at_ a_p0.caches i1).lists) i2) i3)) then (ls zO a_p0.zones) else .lit undef),(bif !(at_ l5 (at_ (at_ ((at_ a_p0.caches i1).lists) i2) i3)) then (li i2) else .lit undef),(bif !(at_ l5 (at_ (at_ ((at_ a_p0.caches i1).lists) i2) i3)) then (AV.rp (zO (at_ a_p0.zones i2)) 0) else .lit undef),(bif !(at_ l5 (at_ (at_ ((at_ a_p0.caches i1).lists) i2) i3)) then (AV.agg (zO (at_ a_p0.zones i2))) else .lit undef),(bif !(at_ l5 (at_ (at_ ((at_ a_p0.caches i1).lists) i2) i3)) then (ls cI (at_ ((at_ a_p0.caches i1).lists) i2)) else .lit undef),(bif !(at_ l5 (at_ (at_ ((at_ a_p0.caches i1).lists) i2) i3)) then (li i3) else .lit undef),(bif !(at_ l5 (at_ (at_ ((at_ a_p0.caches i1).lists) i2) i3)) then (AV.rp (cI (at_ (at_ ((at_ a_p0.caches i1).lists) i2) i3)) 0) else .lit undef),(bif !(at_ l5 (at_ (at_ ((at_ a_p0.caches i1).lists) i2) i3)) then (li (at_ (at_ ((at_ a_p0.caches i1).lists) i2) i3)) else .lit undef),(bif !(at_ l5 (at_ (at_ ((at_ a_p0.caches i1).lists) i2) i3)) then (AV.lit (.bool x1)) else .lit undef),(AV.lit (.bool ((at_ l5 (at_ (at_ ((at_ a_p0.caches i1).lists) i2) i3))||x1)))] [[.box 26 (zG a_p0),.vec 4 1 (List.map cB l5)]] (by kernel_rfl) (by kernel_rfl) ⟨?_,?_,?_,?_,?_,?_,?_,?_,?_,?_,?_,?_,?_,?_,?_,?_,?_,?_,?_,trivial⟩ ?_
           ·exact D1 fun e s p=>zB (s 3 rfl)
           ·exact D1 fun e s p=>zB (s 6 rfl)
           ·exact D1 fun e s p=>zB (s 7 rfl)
           ·exact D1 fun e s p=>zU (f:=cI) (l:=at_ ((at_ a_p0.caches i1).lists) i2) (i:=i3) underlying22 sizeOf3 (fun _=>rfl) p.1 p.2.1 hb9
           ·exact D1 fun e s p=>zW (o:=0) isAgg3 p.1 rfl
           ·exact D1 fun e s p=>zAC (f:=cB) (l:=l5) (i:=at_ (at_ ((at_ a_p0.caches i1).lists) i2) i3) underlying121 sizeOf4 p.1 rfl p.2.1 hb13
           ·exact D1 fun e s p=>zBY (f:=cB) (l:=l5) (i:=at_ (at_ ((at_ a_p0.caches i1).lists) i2) i3) (c:=0) (a:=(AV.lit (.bool (at_ l5 (at_ (at_ ((at_ a_p0.caches i1).lists) i2) i3))))) isAgg4 p.1 rfl (by first | rfl | omega) hb13 rfl rfl
           ·exact D1 fun e s p=>zB p.1
           ·
            intro e41 hs41 hp40
            refine zT (g:=76) (s:=at_ l5 (at_ (at_ ((at_ a_p0.caches i1).lists) i2) i3)) rfl hp40.1 (fun hc47=>zt.step (zK (k:=0) (o:=0) (off:=3) underlying26 rfl rfl sizeOf23 (hs41 1 rfl))) ?_
            exact zF ⟨fun _=>rfl,rfl⟩
           ·
            intro e42 hs42 hp41
            refine zT (g:=76) (s:=at_ l5 (at_ (at_ ((at_ a_p0.caches i1).lists) i2) i3)) rfl hp41.2.1 (fun hc48=>zt.step (zN (k:=0) (o:=3) (a:=(ls zO a_p0.zones)) isAgg23 (z5 hp41.1 hc48) rfl rfl rfl)) ?_
            exact zF ⟨fun _=>rfl,rfl⟩
           ·
            intro e43 hs43 hp42
            refine zT (g:=76) (s:=at_ l5 (at_ (at_ ((at_ a_p0.caches i1).lists) i2) i3)) rfl hp42.1 (fun hc49=>zt.step (zB (av:=(li i2)) (hs43 5 rfl))) ?_
            exact zF ⟨fun _=>rfl,rfl⟩
           ·
            intro e44 hs44 hp43
            refine zT (g:=76) (s:=at_ l5 (at_ (at_ ((at_ a_p0.caches i1).lists) i2) i3)) rfl hp43.2.2.1 (fun hc50=>zt.step (zU (f:=zO) (l:=a_p0.zones) (i:=i2) underlying23 sizeOf51 (fun _=>rfl) (z5 hp43.1 hc50) (z5 hp43.2.1 hc50) hb10)) ?_
            exact zF ⟨fun _=>rfl,rfl⟩
           ·
            intro e45 hs45 hp44
            refine zT (g:=76) (s:=at_ l5 (at_ (at_ ((at_ a_p0.caches i1).lists) i2) i3)) rfl hp44.2.1 (fun hc51=>zt.step (zAX (row:=(zO (at_ a_p0.zones i2))) (o:=0) (m:=10) (la:=(zO (at_ a_p0.zones i2))) isAgg51 sizeOf51 (z5 hp44.1 hc51) rfl rfl)) ?_
            exact zF ⟨fun _=>rfl,rfl⟩
           ·
            intro e46 hs46 hp45
            refine zT (g:=76) (s:=at_ l5 (at_ (at_ ((at_ a_p0.caches i1).lists) i2) i3)) rfl hp45.1 (fun hc52=>zt.step (zB (av:=(ls cI (at_ ((at_ a_p0.caches i1).lists) i2))) (hs46 6 rfl))) ?_
            exact zF ⟨fun _=>rfl,rfl⟩
           ·
            intro e47 hs47 hp46
            refine zT (g:=76) (s:=at_ l5 (at_ (at_ ((at_ a_p0.caches i1).lists) i2) i3)) rfl hp46.1 (fun hc53=>zt.step (zB (av:=(li i3)) (hs47 7 rfl))) ?_
            exact zF ⟨fun _=>rfl,rfl⟩
           ·
            intro e48 hs48 hp47
            refine zT (g:=76) (s:=at_ l5 (at_ (at_ ((at_ a_p0.caches i1).lists) i2) i3)) rfl hp47.2.2.1 (fun hc54=>zt.step (zU (f:=cI) (l:=at_ ((at_ a_p0.caches i1).lists) i2) (i:=i3) underlying22 sizeOf3 (fun _=>rfl) (z5 hp47.1 hc54) (z5 hp47.2.1 hc54) hb9)) ?_
            exact zF ⟨fun _=>rfl,rfl⟩
           ·
            intro e49 hs49 hp48
            refine zT (g:=76) (s:=at_ l5 (at_ (at_ ((at_ a_p0.caches i1).lists) i2) i3)) rfl hp48.2.1 (fun hc55=>zt.step (zW (row:=(cI (at_ (at_ ((at_ a_p0.caches i1).lists) i2) i3))) (o:=0) (a:=(li (at_ (at_ ((at_ a_p0.caches i1).lists) i2) i3))) isAgg3 (z5 hp48.1 hc55) rfl)) ?_
            exact zF ⟨fun _=>rfl,rfl⟩
           ·
            intro e50 hs50 hp49
            refine zBf (g:=76) (s:=at_ l5 (at_ (at_ ((at_ a_p0.caches i1).lists) i2) i3)) (r':=(AV.lit (.bool x1))) rfl hp49.2.2.2.1 (fun hc56=>⟨98,_,_,[],[(AV.agg (zO (at_ a_p0.zones i2))),(li (at_ (at_ ((at_ a_p0.caches i1).lists) i2) i3))],[(AV.agg (zO (at_ a_p0.zones i2))),(li (at_ (at_ ((at_ a_p0.caches i1).lists) i2) i3))],(AV.lit (.bool x1)),[],func98,rfl,by kernel_rfl,.fn 98,(zAJ (z5 hp49.1 hc56) (zAJ (z5 hp49.2.1 hc56) rfl)),⟨zAs.nr rfl,zAs.nr rfl,trivial⟩,zJu (zFU hc56 hx1),.inl rfl,rfl⟩) ?_
            exact zF ⟨fun _=>rfl,rfl⟩
           ·exact D1 fun e s p=>zb (s:=at_ l5 (at_ (at_ ((at_ a_p0.caches i1).lists) i2) i3)) (q:=x1) (j := .lit undef) p.1 p.2.1
           intro e52 hs52 hq2
           refine zV (zBa (l:=[(1,(AV.ptr 0 0)),(3,(AV.hd 1)),(4,(li i1)),(5,(li i2)),(6,(ls cI (at_ ((at_ a_p0.caches i1).lists) i2))),(7,(li i3)),(87,(AV.lit (.bool ((at_ l5 (at_ (at_ ((at_ a_p0.caches i1).lists) i2) i3))||x1))))]) ⟨hs52 1 rfl,hs52 3 rfl,hs52 4 rfl,hs52 5 rfl,hs52 6 rfl,hs52 7 rfl,(hq2 18 (by decide) (by decide)),trivial⟩) ?_
           refine zY h rfl (fun hb14 h => ?_) (fun hb14 h => ?_)
           ·refine zH<|zC<|zA (zD rfl)<|zF<|zd ?_
            show zAP _ _ _ _ _ _
            obtain rfl:=Option.some.inj h
            exact zv (zAO rfl rfl)
           ·refine zP<|zC<|zA (zB rfl)<|zA (zB rfl)<|zA (zB rfl)<|zA (zU underlying22 sizeOf3 (fun _=>rfl) rfl rfl hb9) ?_
            refine zA (zW (o:=0) isAgg3 rfl rfl)<|zA (zAC (f:=cB) (l:=l5) (i:=at_ (at_ ((at_ a_p0.caches i1).lists) i2) i3) underlying121 sizeOf4 rfl rfl rfl hb13)<|zp (H':=[.box 26 (zG a_p0),.vec 4 1 (List.map cB (l5.set (at_ (at_ ((at_ a_p0.caches i1).lists) i2) i3).toNat true))]) (zCR (k:=1) (o:=((at_ (at_ ((at_ a_p0.caches i1).lists) i2) i3).toNat*1)) (f:=cB) (l:=l5) (i:=at_ (at_ ((at_ a_p0.caches i1).lists) i2) i3) (c:=0) (a:=(AV.lit (.bool true))) (z:=true) sizeOf4 rfl rfl (by first | rfl | omega) hb13 rfl rfl rfl rfl rfl)<|zF<|zC<|zA (zB rfl) ?_
            refine zM h fun hb15 h=>zA (ze rfl rfl hb15)<|zA (zD rfl)<|zF ?_
            exact ⟨(n2,(i3+1),(l5.set (at_ (at_ ((at_ a_p0.caches i1).lists) i2) i3).toNat true)),Nat.lt_succ_self _,zAD [0,1] rfl rfl (by kernel_rfl),h⟩
         ·refine zy ?_
          exact ⟨l5,zAD [0,1] rfl rfl (by kernel_rfl),h⟩
       ·
        clear h
        rintro e' H' ⟨l4,hrep,h⟩
        refine zV hrep ?_
        clear hrep
        unfold zDq at h
        refine zC<|zA (zB rfl)<|zM h fun hb5 h=>zA (ze rfl rfl hb5)<|zA (zD rfl)<|zF ?_
        exact ⟨(n1,(i2+1),l4),Nat.lt_succ_self _,zAD [0,1] rfl rfl (by kernel_rfl),h⟩
      ·refine zy ?_
       exact ⟨l3,zAD [0,1] rfl rfl (by kernel_rfl),h⟩
    ·
     clear h
     rintro e' H' ⟨l2,hrep,h⟩
     refine zV hrep ?_
     clear hrep
     unfold zDo at h
     refine zC<|zA (zB rfl)<|zM h fun hb3 h=>zA (ze rfl rfl hb3)<|zA (zD rfl)<|zF ?_
     exact ⟨(n0,(i1+1),l2),Nat.lt_succ_self _,zAD [0,1] rfl rfl (by kernel_rfl),h⟩
   ·refine zy ?_
    exact ⟨zAD [] rfl rfl (by kernel_rfl),h⟩
 ·
  clear h
  rintro e' H' ⟨hrep,h⟩
  refine zV hrep ?_
  clear hrep
  unfold zFW at h
  refine zH<|zC<|zA (zD rfl)<|zF<|zd ?_
  show zAP _ _ _ _ _ _
  obtain rfl:=Option.some.inj h
  exact zv (zAO rfl rfl)
theorem zJ6 {a_a:zJ} {r:Int} (h:zFQ a_a=some r):PFn prog 48 [(AV.agg (zG a_a))] (li r):=by
 refine zq func48 rfl ntmps48 results48 rfl ?_
 unfold zFQ at h
 refine zH<|zC<|za (H':=[.box 26 (zG a_a)]) (zw (t:=26) rfl)<|zA (zD rfl)<|zF<|zH ?_
 refine zH<|zC<|zA (zK underlying26 rfl rfl sizeOf24 rfl)<|zA (zN isAgg24 rfl rfl rfl rfl)<|zA (zZ underlying24 rfl)<|zA (zK underlying26 rfl rfl sizeOf22 rfl) ?_
 refine zA (zN isAgg22 rfl rfl rfl rfl)<|zA (zZ underlying22 rfl)<|zA (z7 rfl rfl)<|zF ?_
 refine zY h rfl (fun hb1 h => ?_) (fun hb1 h => ?_)
 ·refine zH<|zC<|zA (zD rfl)<|zF<|zd ?_
  show zAP _ _ _ _ _ _
  obtain rfl:=Option.some.inj h
  exact zv (zAO rfl rfl)
 ·refine zP ?_
  refine zx (fun e' H'=>Rep 54 0 e' H' (mkE [(1,(AV.ptr 0 0))]) [.box 26 (zG a_a)]∧zCe a_a=some r) ?_ ?_
  ·
   refine zH<|zC<|zA (zD rfl)<|zF<|zQ<|z6 (σ:=Nat×Int) (fun s=>s.1) (fun s e' H'=>match s with | (n0,i1)=>Rep 54 0 e' H' (mkE [(1,(AV.ptr 0 0)),(3,(li i1))]) [.box 26 (zG a_a)]∧zAw a_a n0 i1=some r) (z9,0) ⟨zAD [0] rfl rfl (by kernel_rfl),h⟩ ?_
   clear h
   rintro ⟨n0,i1⟩ e' H' ⟨hrep,h⟩
   cases n0 with
   | zero=>exact absurd (show (none:Option _)=some r from h) (by simp)
   | succ n0 =>
    replace h:zBO a_a (zAw a_a n0) i1=some r:=h
    unfold zBO at h
    refine zV hrep ?_
    clear hrep
    refine zH<|zH<|zC<|zA (zB rfl)<|zA (zK underlying26 rfl rfl sizeOf24 rfl)<|zA (zN isAgg24 rfl rfl rfl rfl) ?_
    refine zA (zZ underlying24 rfl)<|zA (zg rfl rfl)<|zF ?_
    refine zY h rfl (fun hb2 h => ?_) (fun hb2 h => ?_)
    ·refine zP ?_
     refine zx (fun e' H'=>Rep 54 0 e' H' (mkE [(1,(AV.ptr 0 0)),(3,(li i1))]) [.box 26 (zG a_a)]∧zDp (zAw a_a n0) i1=some r) ?_ ?_
     ·
      refine zQ<|zH<|zH<|zM h fun hb4 h=>zR h fun x2 hx2 h => ?_
      show AW _ _ _ _ _ _ [.box 26 (zG a_a)]
      refine zA2 (n:=54) (m:=0) [.head 0 0,.head 0 0,.head 0 0,.head 0 0,.head 0 0,.head 0 0,.head 0 0,.head 0 0,.head 0 0,.head 0 0] [] [AV.ptr 0 4,ls zI a_a.caches,li i1,(AV.rp (zI (at_ a_a.caches i1)) 0),(AV.agg (zI (at_ a_a.caches i1))),AV.ptr 0 3,ls zO a_a.zones,(li (a_a.zones.length:Int)),li x2,li x2] [[.box 26 (zG a_a)]] (by kernel_rfl) (by kernel_rfl) ⟨?_,?_,?_,?_,?_,?_,?_,?_,?_,?_,trivial⟩ ?_
      ·exact D1 fun e s p=>zK (k:=0) (o:=0) (off:=4) underlying26 rfl rfl sizeOf24 (s 1 rfl)
      ·exact D1 fun e s p=>zN (k:=0) (o:=4) isAgg24 p.1 rfl rfl rfl
      ·exact D1 fun e s p=>zB (s 3 rfl)
      ·exact D1 fun e s p=>zU (f:=zI) (l:=a_a.caches) (i:=i1) underlying24 sizeOf55 (fun _=>rfl) p.1 p.2.1 hb4
      ·exact D1 fun e s p=>zAX (row:=(zI (at_ a_a.caches i1))) (o:=0) (m:=1) (la:=(zI (at_ a_a.caches i1))) isAgg55 sizeOf55 p.1 rfl rfl
      ·exact D1 fun e s p=>zK (k:=0) (o:=0) (off:=3) underlying26 rfl rfl sizeOf23 (s 1 rfl)
      ·exact D1 fun e s p=>zN (k:=0) (o:=3) isAgg23 p.1 rfl rfl rfl
      ·exact D1 fun e s p=>zZ (f:=zO) (l:=a_a.zones) underlying23 p.1
      ·
       intro e9 hs9 hp9
       refine zh (r:=(li x2)) (la:=[(AV.agg (zI (at_ a_a.caches i1))),(li (a_a.zones.length:Int))]) func96 rfl (by kernel_rfl) (.fn 96) (zAJ hp9.1 (zAJ hp9.2.1 rfl)) rfl (zMM hx2) rfl ?_
       exact zF ⟨fun _=>rfl,rfl⟩
      ·exact D1 fun e s p=>zD p.2.2.2.2.2.2.2.2.2.2.1
      intro e11 hs11 hq1
      refine zV (zBa (l:=[(1,(AV.ptr 0 0)),(3,(li i1)),(4,(li x2))]) ⟨hs11 1 rfl,hs11 3 rfl,(hq1 9 (by decide) (by decide)),trivial⟩)<|zH<|zC<|zA (zB (av:=(li x2)) rfl)<|zA (z7 (a:=x2) (b:=0) rfl rfl)<|zF ?_
      refine zY h rfl (fun hb5 h => ?_) (fun hb5 h => ?_)
      ·refine zH<|zC<|zA (zB rfl)<|zA (zD rfl)<|zF<|zd ?_
       show zAP _ _ _ _ _ _
       obtain rfl:=Option.some.inj h
       exact zv (zAO rfl rfl)
      ·refine zP<|zH<|zC<|zA (zD rfl)<|zF<|zQ ?_
       refine z6 (σ:=Nat×Int) (fun s=>s.1) (fun s e' H'=>match s with | (n1,i2)=>Rep 54 0 e' H' (mkE [(1,(AV.ptr 0 0)),(3,(li i1)),(5,(li i2))]) [.box 26 (zG a_a)]∧zCc (zAw a_a n0) a_a i1 n1 i2=some r) (z9,0) ⟨zAD [0] rfl rfl (by kernel_rfl),h⟩ ?_
       clear h
       rintro ⟨n1,i2⟩ e' H' ⟨hrep,h⟩
       cases n1 with
       | zero=>exact absurd (show (none:Option _)=some r from h) (by simp)
       | succ n1 =>
        replace h:zBM (zAw a_a n0) a_a i1 (zCc (zAw a_a n0) a_a i1 n1) i2=some r:=h
        unfold zBM at h
        refine zV hrep ?_
        clear hrep
        refine zH<|zH<|zC<|zA (zB rfl)<|zA (zK underlying26 rfl rfl sizeOf23 rfl)<|zA (zN isAgg23 rfl rfl rfl rfl) ?_
        refine zA (zZ underlying23 rfl)<|zA (zg rfl rfl)<|zF ?_
        refine zY h rfl (fun hb6 h => ?_) (fun hb6 h => ?_)
        ·refine zP<|zH<|zQ<|zH<|zM h fun hb7 h=>zM h fun hb8 h => ?_
         show AW _ _ _ _ _ _ [.box 26 (zG a_a)]
         refine zA2 (n:=54) (m:=0) [.head 0 0,.head 0 0,.head 0 0,.head 0 0,.head 0 0,.head 0 0,.head 0 0,.head 0 0,.head 0 0,.head 0 0,.head 0 0,.head 0 0,.head 0 0] [] [AV.ptr 0 4,ls zI a_a.caches,li i1,(AV.rp (zI (at_ a_a.caches i1)) 0),(AV.rp (zI (at_ a_a.caches i1)) 0),(ls (cS cI) ((at_ a_a.caches i1).lists)),li i2,(AV.rp ((cS cI) (at_ ((at_ a_a.caches i1).lists) i2)) 0),(ls cI (at_ ((at_ a_a.caches i1).lists) i2)),(li ((at_ ((at_ a_a.caches i1).lists) i2).length:Int)),AV.ptr 0 2,li a_a.high,(AV.lit (.bool (decide (a_a.high<((at_ ((at_ a_a.caches i1).lists) i2).length:Int)))))] [[.box 26 (zG a_a)]] (by kernel_rfl) (by kernel_rfl) ⟨?_,?_,?_,?_,?_,?_,?_,?_,?_,?_,?_,?_,?_,trivial⟩ ?_
         ·exact D1 fun e s p=>zK (k:=0) (o:=0) (off:=4) underlying26 rfl rfl sizeOf24 (s 1 rfl)
         ·exact D1 fun e s p=>zN (k:=0) (o:=4) isAgg24 p.1 rfl rfl rfl
         ·exact D1 fun e s p=>zB (s 3 rfl)
         ·exact D1 fun e s p=>zU (f:=zI) (l:=a_a.caches) (i:=i1) underlying24 sizeOf55 (fun _=>rfl) p.1 p.2.1 hb7
         ·exact D1 fun e s p=>zBP (row:=(zI (at_ a_a.caches i1))) (o:=0) (off:=0) underlying55 rfl rfl sizeOf53 p.1
         ·exact D1 fun e s p=>zW (o:=0) isAgg53 p.1 rfl
         ·exact D1 fun e s p=>zB (s 5 rfl)
         ·exact D1 fun e s p=>zU (f:=(cS cI)) (l:=(at_ a_a.caches i1).lists) (i:=i2) underlying53 sizeOf22 (fun _=>rfl) p.1 p.2.1 hb8
         ·exact D1 fun e s p=>zW (o:=0) isAgg22 p.1 rfl
         ·exact D1 fun e s p=>zZ (f:=cI) (l:=at_ ((at_ a_a.caches i1).lists) i2) underlying22 p.1
         ·exact D1 fun e s p=>zK (k:=0) (o:=0) (off:=2) underlying26 rfl rfl sizeOf3 (s 1 rfl)
         ·exact D1 fun e s p=>zN (k:=0) (o:=2) isAgg3 p.1 rfl rfl rfl
         ·exact D1 fun e s p=>zAm (a:=((at_ ((at_ a_a.caches i1).lists) i2).length:Int)) (b:=a_a.high) p.1 p.2.1
         intro e25 hs25 hq2
         refine zV (zBa (l:=[(1,(AV.ptr 0 0)),(3,(li i1)),(5,(li i2)),(51,(AV.lit (.bool (decide (a_a.high<((at_ ((at_ a_a.caches i1).lists) i2).length:Int))))))]) ⟨hs25 1 rfl,hs25 3 rfl,hs25 5 rfl,(hq2 12 (by decide) (by decide)),trivial⟩) ?_
         refine zY h rfl (fun hb9 h => ?_) (fun hb9 h => ?_)
         ·refine zH<|zC<|zA (zD rfl)<|zF<|zd ?_
          show zAP _ _ _ _ _ _
          obtain rfl:=Option.some.inj h
          exact zv (zAO rfl rfl)
         ·refine zP<|zC<|zA (zB rfl)<|zM h fun hb10 h=>zA (ze rfl rfl hb10)<|zA (zD rfl) ?_
          refine zF ?_
          exact ⟨(n1,(i2+1)),Nat.lt_succ_self _,zAD [0] rfl rfl (by kernel_rfl),h⟩
        ·refine zy ?_
         exact ⟨zAD [0] rfl rfl (by kernel_rfl),h⟩
     ·
      clear h
      rintro e' H' ⟨hrep,h⟩
      refine zV hrep ?_
      clear hrep
      unfold zDp at h
      refine zC<|zA (zB rfl)<|zM h fun hb3 h=>zA (ze rfl rfl hb3)<|zA (zD rfl)<|zF ?_
      exact ⟨(n0,(i1+1)),Nat.lt_succ_self _,zAD [0] rfl rfl (by kernel_rfl),h⟩
    ·refine zy ?_
     exact ⟨zAD [0] rfl rfl (by kernel_rfl),h⟩
  ·
   clear h
   rintro e' H' ⟨hrep,h⟩
   refine zV hrep ?_
   clear hrep
   unfold zCe at h
   refine zH<|zC<|zA (zS (k:=0) (o:=0) (m:=5) isAgg26 sizeOf26 rfl rfl rfl rfl rfl)<|zR h fun x1 hx1 h=>zh func97 rfl (by kernel_rfl) (.fn 97) rfl rfl (zJ8 hx1) rfl<|zA (zD rfl) ?_
   refine zF<|zd ?_
   show zAP _ _ _ _ _ _
   obtain rfl:=Option.some.inj h
   exact zv (zAO rfl rfl)
theorem zMX {a_a:zJ} {r:Int} (h:zIG a_a=some r):PFn prog 14 [(AV.agg (zG a_a))] (li r):=by
 refine zq func14 rfl ntmps14 results14 rfl ?_
 unfold zIG at h
 refine zH<|zC<|za (H':=[.box 26 (zG a_a)]) (zw (t:=26) rfl)<|zA (zD rfl)<|zF<|zH ?_
 refine zH<|zC<|zA (zK underlying26 rfl rfl sizeOf22 rfl)<|zA (zN isAgg22 rfl rfl rfl rfl)<|zA (zK underlying26 rfl rfl sizeOf3 rfl)<|zA (zN isAgg3 rfl rfl rfl rfl) ?_
 refine zA (zK underlying26 rfl rfl sizeOf3 rfl)<|zA (zN isAgg3 rfl rfl rfl rfl)<|zA (zK underlying26 rfl rfl sizeOf23 rfl)<|zA (zN isAgg23 rfl rfl rfl rfl)<|zA (zZ underlying23 rfl)<|zR h fun x1 hx1 h => ?_
 refine zh func46 rfl (by kernel_rfl) (.fn 46) rfl rfl (zLY hx1) rfl<|zA (zA4 (t:=x1) rfl)<|zF ?_
 refine zY h rfl (fun hb1 h => ?_) (fun hb1 h => ?_)
 ·refine zH<|zC<|zA (zD rfl)<|zF<|zd ?_
  show zAP _ _ _ _ _ _
  obtain rfl:=Option.some.inj h
  exact zv (zAO rfl rfl)
 ·refine zP<|zH<|zC<|zA (zD rfl)<|zF ?_
  refine zx (fun e' H'=>Rep 51 0 e' H' (mkE [(1,(AV.ptr 0 0))]) [.box 26 (zG a_a)]∧zFj a_a=some r) ?_ ?_
  ·
   refine zH<|zC<|zA (zD rfl)<|zF<|zQ<|z6 (σ:=Nat×Int×Int) (fun s=>s.1) (fun s e' H'=>match s with | (n0,i1,i2)=>Rep 51 0 e' H' (mkE [(1,(AV.ptr 0 0)),(3,(li i1)),(4,(li i2))]) [.box 26 (zG a_a)]∧zFk a_a n0 i1 i2=some r) (z9,0,0) ⟨zAD [0] rfl rfl (by kernel_rfl),h⟩ ?_
   clear h
   rintro ⟨n0,i1,i2⟩ e' H' ⟨hrep,h⟩
   cases n0 with
   | zero=>exact absurd (show (none:Option _)=some r from h) (by simp)
   | succ n0 =>
    replace h:zDj a_a (zFk a_a n0) i1 i2=some r:=h
    unfold zDj at h
    refine zV hrep ?_
    clear hrep
    refine zH<|zH<|zC<|zA (zB rfl)<|zA (zK underlying26 rfl rfl sizeOf23 rfl)<|zA (zN isAgg23 rfl rfl rfl rfl) ?_
    refine zA (zZ underlying23 rfl)<|zA (zg rfl rfl)<|zF ?_
    refine zY h rfl (fun hb2 h => ?_) (fun hb2 h => ?_)
    ·refine zP<|zH<|zQ<|zH<|zH<|zC ?_
     refine zA (zK underlying26 rfl rfl sizeOf23 rfl)<|zA (zN isAgg23 rfl rfl rfl rfl)<|zA (zB rfl)<|zM h fun hb3 h=>zA (zU underlying23 sizeOf51 (fun _=>rfl) rfl rfl hb3)<|zA (zAX (row:=(zO (at_ a_a.zones i2))) (o:=0) (m:=10) (la:=(zO (at_ a_a.zones i2))) isAgg51 sizeOf51 rfl rfl rfl) ?_
     refine zR h fun x3 hx3 h=>zh func47 rfl (by kernel_rfl) (.fn 47) rfl rfl (zId hx3) rfl<|zA (zD rfl)<|zF<|zH<|zC ?_
     refine zA (zB rfl)<|zA (z7 rfl rfl)<|zF ?_
     refine zY h rfl (fun hb4 h => ?_) (fun hb4 h => ?_)
     ·refine zH<|zC<|zA (zB rfl)<|zA (zD rfl)<|zF<|zd ?_
      show zAP _ _ _ _ _ _
      obtain rfl:=Option.some.inj h
      exact zv (zAO rfl rfl)
     ·refine zP<|zH<|zH<|zC<|zA (zK underlying26 rfl rfl sizeOf23 rfl)<|zA (zN isAgg23 rfl rfl rfl rfl) ?_
      refine zA (zB rfl)<|zA (zU underlying23 sizeOf51 (fun _=>rfl) rfl rfl hb3)<|zA (zBP (row:=(zO (at_ a_a.zones i2))) (o:=0) (off:=2) underlying51 rfl rfl sizeOf3 rfl)<|zA (zW (o:=2) isAgg3 rfl rfl)<|zA (zB rfl)<|zA (z7 rfl rfl) ?_
      refine zF ?_
      refine zY h rfl (fun hb5 h => ?_) (fun hb5 h => ?_)
      ·refine zH<|zC<|zA (zD rfl)<|zF<|zd ?_
       show zAP _ _ _ _ _ _
       obtain rfl:=Option.some.inj h
       exact zv (zAO rfl rfl)
      ·refine zP<|zC<|zA (zB rfl)<|zA (zK underlying26 rfl rfl sizeOf23 rfl)<|zA (zN isAgg23 rfl rfl rfl rfl)<|zA (zB rfl) ?_
       refine zA (zU underlying23 sizeOf51 (fun _=>rfl) rfl rfl hb3)<|zA (zBP (row:=(zO (at_ a_a.zones i2))) (o:=0) (off:=3) underlying51 rfl rfl sizeOf3 rfl)<|zA (zW (o:=3) isAgg3 rfl rfl)<|zM h fun hb6 h=>zA (ze rfl rfl hb6)<|zA (zD rfl) ?_
       refine zF<|zC<|zA (zB rfl)<|zM h fun hb7 h=>zA (ze rfl rfl hb7)<|zA (zD rfl) ?_
       refine zF ?_
       exact ⟨(n0,(i1+((at_ a_a.zones i2).count)),(i2+1)),Nat.lt_succ_self _,zAD [0] rfl rfl (by kernel_rfl),h⟩
    ·refine zy ?_
     exact ⟨zAD [0] rfl rfl (by kernel_rfl),h⟩
  ·
   clear h
   rintro e' H' ⟨hrep,h⟩
   refine zV hrep ?_
   clear hrep
   unfold zFj at h
   refine zH<|zC<|zA (zS (k:=0) (o:=0) (m:=5) isAgg26 sizeOf26 rfl rfl rfl rfl rfl)<|zR h fun x2 hx2 h=>zh func48 rfl (by kernel_rfl) (.fn 48) rfl rfl (zJ6 hx2) rfl<|zA (zD rfl) ?_
   refine zF<|zd ?_
   show zAP _ _ _ _ _ _
   obtain rfl:=Option.some.inj h
   exact zv (zAO rfl rfl)
theorem zNL {a_a:zJ} {a_frame:Int} {r:Int} (h:zIo a_a a_frame=some r):PFn prog 49 [(AV.agg (zG a_a)),li a_frame] (li r):=by
 refine zq func49 rfl ntmps49 results49 rfl ?_
 unfold zIo at h
 refine zH<|zC<|za (H':=[.box 26 (zG a_a)]) (zw (t:=26) rfl)<|zA (zD rfl)<|zF ?_
 refine zx (fun e' H'=>Rep 39 0 e' H' (mkE []) []∧zI6  = some r) ?_ ?_
 ·
  refine zH<|zC<|zA (zD rfl)<|zF<|zQ<|z6 (σ:=Nat×Int) (fun s=>s.1) (fun s e' H'=>match s with | (n0,i1)=>Rep 39 0 e' H' (mkE [(1,(li a_frame)),(2,(AV.ptr 0 0)),(5,(li i1))]) [.box 26 (zG a_a)]∧zGG a_a a_frame n0 i1=some r) (z9,0) ⟨zAD [0] rfl rfl (by kernel_rfl),h⟩ ?_
  clear h
  rintro ⟨n0,i1⟩ e' H' ⟨hrep,h⟩
  cases n0 with
  | zero=>exact absurd (show (none:Option _)=some r from h) (by simp)
  | succ n0 =>
   replace h:zEH a_a a_frame (zGG a_a a_frame n0) i1=some r:=h
   unfold zEH at h
   refine zV hrep ?_
   clear hrep
   refine zH<|zH<|zC<|zA (zB rfl)<|zA (zK underlying26 rfl rfl sizeOf23 rfl)<|zA (zN isAgg23 rfl rfl rfl rfl) ?_
   refine zA (zZ underlying23 rfl)<|zA (zg rfl rfl)<|zF ?_
   refine zY h rfl (fun hb1 h => ?_) (fun hb1 h => ?_)
   ·refine zP<|zH<|zQ<|zH<|zM h fun hb2 h=>zM h fun hb3 h => ?_
    show AW _ _ _ _ _ _ [.box 26 (zG a_a)]
    refine zA2 (n:=39) (m:=0) [.head 0 0,.head 0 0,.head 0 0,.head 0 0,.head 0 0,.head 0 0,.head 0 0,.head 0 0,.head 0 0,.head 0 0,.head 0 0,.head 0 0,.head 0 0,.head 0 0,.head 0 0,.head 0 0,.head 0 0,.head 0 0,.head 0 0,.head 0 0,.head 0 0,.head 0 0,.head 0 0,.head 0 0,.head 0 0] [] [li a_frame,AV.ptr 0 3,ls zO a_a.zones,li i1,(AV.rp (zO (at_ a_a.zones i1)) 0),(AV.rp (zO (at_ a_a.zones i1)) 2),(li ((at_ a_a.zones i1).start)),(AV.lit (.bool (decide (((at_ a_a.zones i1).start)≤a_frame)))),(AV.lit (.bool (decide (((at_ a_a.zones i1).start)≤a_frame)))),(bif decide (((at_ a_a.zones i1).start)≤a_frame) then (li a_frame) else .lit undef),(bif decide (((at_ a_a.zones i1).start)≤a_frame) then (AV.ptr 0 3) else .lit undef),(bif decide (((at_ a_a.zones i1).start)≤a_frame) then (ls zO a_a.zones) else .lit undef),(bif decide (((at_ a_a.zones i1).start)≤a_frame) then (li i1) else .lit undef),(bif decide (((at_ a_a.zones i1).start)≤a_frame) then (AV.rp (zO (at_ a_a.zones i1)) 0) else .lit undef),(bif decide (((at_ a_a.zones i1).start)≤a_frame) then (AV.rp (zO (at_ a_a.zones i1)) 2) else .lit undef),(bif decide (((at_ a_a.zones i1).start)≤a_frame) then (li ((at_ a_a.zones i1).start)) else .lit undef),(bif decide (((at_ a_a.zones i1).start)≤a_frame) then (AV.ptr 0 3) else .lit undef),(bif decide (((at_ a_a.zones i1).start)≤a_frame) then (ls zO a_a.zones) else .lit undef),(bif decide (((at_ a_a.zones i1).start)≤a_frame) then (li i1) else .lit undef),(bif decide (((at_ a_a.zones i1).start)≤a_frame) then (AV.rp (zO (at_ a_a.zones i1)) 0) else .lit undef),(bif decide (((at_ a_a.zones i1).start)≤a_frame) then (AV.rp (zO (at_ a_a.zones i1)) 3) else .lit undef),(bif decide (((at_ a_a.zones i1).start)≤a_frame) then (li ((at_ a_a.zones i1).count)) else .lit undef),(bif decide (((at_ a_a.zones i1).start)≤a_frame) then (li (((at_ a_a.zones i1).start)+((at_ a_a.zones i1).count))) else .lit undef),(bif decide (((at_ a_a.zones i1).start)≤a_frame) then (AV.lit (.bool (decide (a_frame<(((at_ a_a.zones i1).start)+((at_ a_a.zones i1).count)))))) else .lit undef),(AV.lit (.bool ((decide (((at_ a_a.zones i1).start)≤a_frame))&&(decide (a_frame<(((at_ a_a.zones i1).start)+((at_ a_a.zones i1).count)))))))] [[.box 26 (zG a_a)]] (by kernel_rfl) (by kernel_rfl) ⟨?_,?_,?_,?_,?_,?_,?_,?_,?_,?_,?_,?_,?_,?_,?_,?_,?_,?_,?_,?_,?_,?_,?_,?_,?_,trivial⟩ ?_
    ·exact D1 fun e s p=>zB (s 1 rfl)
    ·exact D1 fun e s p=>zK (k:=0) (o:=0) (off:=3) underlying26 rfl rfl sizeOf23 (s 2 rfl)
    ·exact D1 fun e s p=>zN (k:=0) (o:=3) isAgg23 p.1 rfl rfl rfl
    ·exact D1 fun e s p=>zB (s 5 rfl)
    ·exact D1 fun e s p=>zU (f:=zO) (l:=a_a.zones) (i:=i1) underlying23 sizeOf51 (fun _=>rfl) p.1 p.2.1 hb2
    ·exact D1 fun e s p=>zBP (row:=(zO (at_ a_a.zones i1))) (o:=0) (off:=2) underlying51 rfl rfl sizeOf3 p.1
    ·exact D1 fun e s p=>zW (o:=2) isAgg3 p.1 rfl
    ·exact D1 fun e s p=>zAv (a:=a_frame) (b:=(at_ a_a.zones i1).start) p.1 p.2.1
    ·exact D1 fun e s p=>zB p.1
    ·
     intro e10 hs10 hp10
     refine zm (g:=21) (s:=decide (((at_ a_a.zones i1).start)≤a_frame)) rfl hp10.1 (fun hc16=>zt.step (zB (av:=(li a_frame)) (hs10 1 rfl))) ?_
     exact zF ⟨fun _=>rfl,rfl⟩
    ·
     intro e11 hs11 hp11
     refine zm (g:=21) (s:=decide (((at_ a_a.zones i1).start)≤a_frame)) rfl hp11.1 (fun hc17=>zt.step (zK (k:=0) (o:=0) (off:=3) underlying26 rfl rfl sizeOf23 (hs11 2 rfl))) ?_
     exact zF ⟨fun _=>rfl,rfl⟩
    ·
     intro e12 hs12 hp12
     refine zm (g:=21) (s:=decide (((at_ a_a.zones i1).start)≤a_frame)) rfl hp12.2.1 (fun hc18=>zt.step (zN (k:=0) (o:=3) (a:=(ls zO a_a.zones)) isAgg23 (z5 hp12.1 hc18) rfl rfl rfl)) ?_
     exact zF ⟨fun _=>rfl,rfl⟩
    ·
     intro e13 hs13 hp13
     refine zm (g:=21) (s:=decide (((at_ a_a.zones i1).start)≤a_frame)) rfl hp13.1 (fun hc19=>zt.step (zB (av:=(li i1)) (hs13 5 rfl))) ?_
     exact zF ⟨fun _=>rfl,rfl⟩
    ·
     intro e14 hs14 hp14
     refine zm (g:=21) (s:=decide (((at_ a_a.zones i1).start)≤a_frame)) rfl hp14.2.2.1 (fun hc20=>zt.step (zU (f:=zO) (l:=a_a.zones) (i:=i1) underlying23 sizeOf51 (fun _=>rfl) (z5 hp14.1 hc20) (z5 hp14.2.1 hc20) hb2)) ?_
     exact zF ⟨fun _=>rfl,rfl⟩
    ·
     intro e15 hs15 hp15
     refine zm (g:=21) (s:=decide (((at_ a_a.zones i1).start)≤a_frame)) rfl hp15.2.1 (fun hc21=>zt.step (zBP (row:=(zO (at_ a_a.zones i1))) (o:=0) (off:=2) underlying51 rfl rfl sizeOf3 (z5 hp15.1 hc21))) ?_
     exact zF ⟨fun _=>rfl,rfl⟩
    ·
     intro e16 hs16 hp16
     refine zm (g:=21) (s:=decide (((at_ a_a.zones i1).start)≤a_frame)) rfl hp16.2.1 (fun hc22=>zt.step (zW (row:=(zO (at_ a_a.zones i1))) (o:=2) (a:=(li ((at_ a_a.zones i1).start))) isAgg3 (z5 hp16.1 hc22) rfl)) ?_
     exact zF ⟨fun _=>rfl,rfl⟩
    ·
     intro e17 hs17 hp17
     refine zm (g:=21) (s:=decide (((at_ a_a.zones i1).start)≤a_frame)) rfl hp17.1 (fun hc23=>zt.step (zK (k:=0) (o:=0) (off:=3) underlying26 rfl rfl sizeOf23 (hs17 2 rfl))) ?_
     exact zF ⟨fun _=>rfl,rfl⟩
    ·
     intro e18 hs18 hp18
     refine zm (g:=21) (s:=decide (((at_ a_a.zones i1).start)≤a_frame)) rfl hp18.2.1 (fun hc24=>zt.step (zN (k:=0) (o:=3) (a:=(ls zO a_a.zones)) isAgg23 (z5 hp18.1 hc24) rfl rfl rfl)) ?_
     exact zF ⟨fun _=>rfl,rfl⟩
    ·
     intro e19 hs19 hp19
     refine zm (g:=21) (s:=decide (((at_ a_a.zones i1).start)≤a_frame)) rfl hp19.1 (fun hc25=>zt.step (zB (av:=(li i1)) (hs19 5 rfl))) ?_
     exact zF ⟨fun _=>rfl,rfl⟩
    ·
     intro e20 hs20 hp20
     refine zm (g:=21) (s:=decide (((at_ a_a.zones i1).start)≤a_frame)) rfl hp20.2.2.1 (fun hc26=>zt.step (zU (f:=zO) (l:=a_a.zones) (i:=i1) underlying23 sizeOf51 (fun _=>rfl) (z5 hp20.1 hc26) (z5 hp20.2.1 hc26) hb2)) ?_
     exact zF ⟨fun _=>rfl,rfl⟩
    ·
     intro e21 hs21 hp21
     refine zm (g:=21) (s:=decide (((at_ a_a.zones i1).start)≤a_frame)) rfl hp21.2.1 (fun hc27=>zt.step (zBP (row:=(zO (at_ a_a.zones i1))) (o:=0) (off:=3) underlying51 rfl rfl sizeOf3 (z5 hp21.1 hc27))) ?_
     exact zF ⟨fun _=>rfl,rfl⟩
    ·
     intro e22 hs22 hp22
     refine zm (g:=21) (s:=decide (((at_ a_a.zones i1).start)≤a_frame)) rfl hp22.2.1 (fun hc28=>zt.step (zW (row:=(zO (at_ a_a.zones i1))) (o:=3) (a:=(li ((at_ a_a.zones i1).count))) isAgg3 (z5 hp22.1 hc28) rfl)) ?_
     exact zF ⟨fun _=>rfl,rfl⟩
    ·
     intro e23 hs23 hp23
     refine zm (g:=21) (s:=decide (((at_ a_a.zones i1).start)≤a_frame)) rfl hp23.2.2.1 (fun hc29=>zt.step (ze (a:=(at_ a_a.zones i1).start) (b:=(at_ a_a.zones i1).count) (z5 hp23.1 hc29) (z5 hp23.2.1 hc29) (zEb hb3 hc29))) ?_
     exact zF ⟨fun _=>rfl,rfl⟩
    ·
     intro e24 hs24 hp24
     refine zm (g:=21) (s:=decide (((at_ a_a.zones i1).start)≤a_frame)) rfl hp24.2.2.1 (fun hc30=>zt.step (zg (a:=a_frame) (b:=((at_ a_a.zones i1).start)+((at_ a_a.zones i1).count)) (z5 hp24.1 hc30) (z5 hp24.2.1 hc30))) ?_
     exact zF ⟨fun _=>rfl,rfl⟩
    ·exact D1 fun e s p=>zz (s:=decide (((at_ a_a.zones i1).start)≤a_frame)) (q:=decide (a_frame<(((at_ a_a.zones i1).start)+((at_ a_a.zones i1).count)))) (j := .lit undef) p.1 p.2.1
    intro e26 hs26 hq1
    refine zV (zBa (l:=[(1,(li a_frame)),(2,(AV.ptr 0 0)),(5,(li i1)),(37,(AV.lit (.bool ((decide (((at_ a_a.zones i1).start)≤a_frame))&&(decide (a_frame<(((at_ a_a.zones i1).start)+((at_ a_a.zones i1).count))))))))]) ⟨hs26 1 rfl,hs26 2 rfl,hs26 5 rfl,(hq1 24 (by decide) (by decide)),trivial⟩) ?_
    refine zY h rfl (fun hb4 h => ?_) (fun hb4 h => ?_)
    ·refine zH<|zC<|zA (zB rfl)<|zA (zD rfl)<|zF<|zd ?_
     show zAP _ _ _ _ _ _
     obtain rfl:=Option.some.inj h
     exact zv (zAO rfl rfl)
    ·refine zP<|zC<|zA (zB rfl)<|zM h fun hb5 h=>zA (ze rfl rfl hb5)<|zA (zD rfl) ?_
     refine zF ?_
     exact ⟨(n0,(i1+1)),Nat.lt_succ_self _,zAD [0] rfl rfl (by kernel_rfl),h⟩
   ·refine zy ?_
    exact ⟨zAD [] rfl rfl (by kernel_rfl),h⟩
 ·
  clear h
  rintro e' H' ⟨hrep,h⟩
  refine zV hrep ?_
  clear hrep
  unfold zI6 at h
  refine zH<|zC<|zA (zD rfl)<|zF<|zd ?_
  show zAP _ _ _ _ _ _
  obtain rfl:=Option.some.inj h
  exact zv (zAO rfl rfl)
theorem zMF {a_a:zJ} {a_zone:Int} {a_frame:Int} {r:Int} (h:zIR a_a a_zone a_frame=some r):PFn prog 78 [(AV.agg (zG a_a)),li a_zone,li a_frame] (li r):=by
 refine zq func78 rfl ntmps78 results78 rfl ?_
 unfold zIR at h
 refine zH<|zC<|za (H':=[.box 26 (zG a_a)]) (zw (t:=26) rfl)<|zA (zD rfl)<|zF ?_
 refine zx (fun e' H'=>Rep 45 0 e' H' (mkE []) []∧zH2  = some r) ?_ ?_
 ·
  refine zH<|zC<|zA (zD rfl)<|zF<|zQ<|z6 (σ:=Nat×Int) (fun s=>s.1) (fun s e' H'=>match s with | (n0,i1)=>Rep 45 0 e' H' (mkE [(1,(li a_zone)),(2,(li a_frame)),(3,(AV.ptr 0 0)),(7,(li i1))]) [.box 26 (zG a_a)]∧zA8 a_a a_zone a_frame n0 i1=some r) (z9,0) ⟨zAD [0] rfl rfl (by kernel_rfl),h⟩ ?_
  clear h
  rintro ⟨n0,i1⟩ e' H' ⟨hrep,h⟩
  cases n0 with
  | zero=>exact absurd (show (none:Option _)=some r from h) (by simp)
  | succ n0 =>
   replace h:zCu a_a a_zone a_frame (zA8 a_a a_zone a_frame n0) i1=some r:=h
   unfold zCu at h
   refine zV hrep ?_
   clear hrep
   refine zH<|zH<|zC<|zA (zB rfl)<|zA (zK underlying26 rfl rfl sizeOf24 rfl)<|zA (zN isAgg24 rfl rfl rfl rfl) ?_
   refine zA (zZ underlying24 rfl)<|zA (zg rfl rfl)<|zF ?_
   refine zY h rfl (fun hb1 h => ?_) (fun hb1 h => ?_)
   ·refine zP ?_
    refine zx (fun e' H'=>Rep 45 0 e' H' (mkE [(1,(li a_zone)),(2,(li a_frame)),(3,(AV.ptr 0 0)),(7,(li i1))]) [.box 26 (zG a_a)]∧zGT (zA8 a_a a_zone a_frame n0) i1=some r) ?_ ?_
    ·
     refine zQ<|zH<|zC<|zA (zD rfl)<|zF<|zQ ?_
     refine z6 (σ:=Nat×Int) (fun s=>s.1) (fun s e' H'=>match s with | (n1,i2)=>Rep 45 0 e' H' (mkE [(1,(li a_zone)),(2,(li a_frame)),(3,(AV.ptr 0 0)),(7,(li i1)),(8,(li i2))]) [.box 26 (zG a_a)]∧zB1 (zA8 a_a a_zone a_frame n0) a_a a_zone a_frame i1 n1 i2=some r) (z9,0) ⟨zAD [0] rfl rfl (by kernel_rfl),h⟩ ?_
     clear h
     rintro ⟨n1,i2⟩ e' H' ⟨hrep,h⟩
     cases n1 with
     | zero=>exact absurd (show (none:Option _)=some r from h) (by simp)
     | succ n1 =>
      replace h:zCt (zA8 a_a a_zone a_frame n0) a_a a_zone a_frame i1 (zB1 (zA8 a_a a_zone a_frame n0) a_a a_zone a_frame i1 n1) i2=some r:=h
      unfold zCt at h
      refine zV hrep ?_
      clear hrep
      refine zH<|zH<|zC<|zA (zB rfl)<|zA (zK underlying26 rfl rfl sizeOf24 rfl)<|zA (zN isAgg24 rfl rfl rfl rfl) ?_
      refine zA (zB rfl)<|zM h fun hb3 h=>zA (zU underlying24 sizeOf55 (fun _=>rfl) rfl rfl hb3)<|zA (zBP (row:=(zI (at_ a_a.caches i1))) (o:=0) (off:=0) underlying55 rfl rfl sizeOf53 rfl)<|zA (zW (o:=0) isAgg53 rfl rfl)<|zA (zB rfl) ?_
      refine zM h fun hb4 h=>zA (zU underlying53 sizeOf22 (fun _=>rfl) rfl rfl hb4)<|zA (zW (o:=0) isAgg22 rfl rfl)<|zA (zZ underlying22 rfl)<|zA (zg rfl rfl)<|zF ?_
      refine zY h rfl (fun hb5 h => ?_) (fun hb5 h => ?_)
      ·refine zP<|zH<|zQ<|zH<|zC<|zA (zK underlying26 rfl rfl sizeOf24 rfl) ?_
       refine zA (zN isAgg24 rfl rfl rfl rfl)<|zA (zB rfl)<|zA (zU underlying24 sizeOf55 (fun _=>rfl) rfl rfl hb3)<|zA (zBP (row:=(zI (at_ a_a.caches i1))) (o:=0) (off:=0) underlying55 rfl rfl sizeOf53 rfl)<|zA (zW (o:=0) isAgg53 rfl rfl)<|zA (zB rfl) ?_
       refine zA (zU underlying53 sizeOf22 (fun _=>rfl) rfl rfl hb4)<|zA (zW (o:=0) isAgg22 rfl rfl)<|zA (zB rfl)<|zM h fun hb6 h=>zA (zU underlying22 sizeOf3 (fun _=>rfl) rfl rfl hb6)<|zA (zW (o:=0) isAgg3 rfl rfl) ?_
       refine zA (zB rfl)<|zA (zBd rfl rfl)<|zF ?_
       refine zY h rfl (fun hb7 h => ?_) (fun hb7 h => ?_)
       ·refine zH<|zC<|zA (zB rfl)<|zA (zD rfl)<|zF<|zd ?_
        show zAP _ _ _ _ _ _
        obtain rfl:=Option.some.inj h
        exact zv (zAO rfl rfl)
       ·refine zP<|zC<|zA (zB rfl)<|zM h fun hb8 h=>zA (ze rfl rfl hb8)<|zA (zD rfl) ?_
        refine zF ?_
        exact ⟨(n1,(i2+1)),Nat.lt_succ_self _,zAD [0] rfl rfl (by kernel_rfl),h⟩
      ·refine zy ?_
       exact ⟨zAD [0] rfl rfl (by kernel_rfl),h⟩
    ·
     clear h
     rintro e' H' ⟨hrep,h⟩
     refine zV hrep ?_
     clear hrep
     unfold zGT at h
     refine zC<|zA (zB rfl)<|zM h fun hb2 h=>zA (ze rfl rfl hb2)<|zA (zD rfl)<|zF ?_
     exact ⟨(n0,(i1+1)),Nat.lt_succ_self _,zAD [0] rfl rfl (by kernel_rfl),h⟩
   ·refine zy ?_
    exact ⟨zAD [] rfl rfl (by kernel_rfl),h⟩
 ·
  clear h
  rintro e' H' ⟨hrep,h⟩
  refine zV hrep ?_
  clear hrep
  unfold zH2 at h
  refine zH<|zC<|zA (zD rfl)<|zF<|zd ?_
  show zAP _ _ _ _ _ _
  obtain rfl:=Option.some.inj h
  exact zv (zAO rfl rfl)
theorem zNJ {a_a:zJ} {a_zone:Int} {a_frame:Int} {r:Bool} (h:zI2 a_a a_zone a_frame=some r):PFn prog 51 [(AV.agg (zG a_a)),li a_zone,li a_frame] (AV.lit (.bool r)):=by
 refine zq func51 rfl ntmps51 results51 rfl ?_
 unfold zI2 at h
 refine zH<|zC<|za (H':=[.box 26 (zG a_a)]) (zw (t:=26) rfl)<|zA (zD rfl)<|zF<|zH ?_
 refine zC<|zA (zK underlying26 rfl rfl sizeOf23 rfl)<|zA (zN isAgg23 rfl rfl rfl rfl)<|zA (zB rfl)<|zM h fun hb1 h=>zA (zU underlying23 sizeOf51 (fun _=>rfl) rfl rfl hb1) ?_
 refine zA (zAX (row:=(zO (at_ a_a.zones a_zone))) (o:=0) (m:=10) (la:=(zO (at_ a_a.zones a_zone))) isAgg51 sizeOf51 rfl rfl rfl)<|zA (zB rfl)<|zR h fun x1 hx1 h=>zh func98 rfl (by kernel_rfl) (.fn 98) rfl rfl (zJu hx1) rfl<|zA (zB rfl)<|zT rfl rfl (fun hc1=>zt.step (zS (k:=0) (o:=0) (m:=5) isAgg26 sizeOf26 rfl rfl rfl rfl rfl)) ?_
 refine zT rfl rfl (fun hc2=>zt.step (zB rfl))<|zT rfl rfl (fun hc3=>zt.step (zB rfl))<|zR h fun x2 hx2 h=>zBf (g:=14) (s:=x1) (r':=(li x2)) rfl rfl (fun hc4=>⟨78,_,_,[],[(AV.agg (zG a_a)),li a_zone,li a_frame],[(AV.agg (zG a_a)),li a_zone,li a_frame],li x2,[],func78,rfl,by kernel_rfl,.fn 78,(zAJ (z5 rfl hc4) (zAJ (z5 rfl hc4) (zAJ (z5 rfl hc4) rfl))),⟨zAs.nr rfl,zAs.nr rfl,zAs.nr rfl,trivial⟩,zMF (zFU hc4 hx2),.inl rfl,rfl⟩)<|zT rfl rfl (fun hc5=>zt.step (zAv (z5 rfl hc5) rfl))<|zA (zb rfl rfl) ?_
 refine zA (zD rfl)<|zF<|zd ?_
 show zAP _ _ _ _ _ _
 obtain rfl:=Option.some.inj h
 exact zv (zAO rfl rfl)
theorem zMT {a_c:zL} {r:zL} (h:zI7 a_c=some r):PFn prog 114 [(AV.agg (zI a_c))] (AV.agg (zI r)):=by
 refine zq func114 rfl ntmps114 results114 rfl ?_
 unfold zI7 at h
 refine zH<|zC<|za (H':=[.box 55 (zI a_c)]) (zw (t:=55) rfl)<|za (H':=[.box 55 (zI a_c),.box 55 [(ls (cS cI) ([]:List (List Int)))]]) (zu (t:=55) (vs:=[.slice none 0 0]) (cs:=[.sl false []]) zeroValue55 (by kernel_rfl) rfl ⟨zf.nils,trivial⟩)<|zF<|zH ?_
 refine zC<|za (H':=[.box 55 (zI a_c),.box 55 [(ls (cS cI) ([]:List (List Int)))],.box 55 [AV.osl 22 1 (List.map (cS cI) ([]:List (List Int)))]]) (zu (t:=55) (vs:=[.slice none 0 0]) (cs:=[.osl 22 1 []]) zeroValue55 (by kernel_rfl) rfl ⟨zf.nilo,trivial⟩)<|zF ?_
 refine zx (fun e' H' => ∃ (l1:List (List Int)),Rep 25 0 e' H' (mkE [(2,(AV.ptr 0 0)),(3,(AV.ptr 1 0))]) [.box 55 [(ls (cS cI) ([]:List (List Int)))],.box 55 [AV.osl 22 1 (List.map (cS cI) l1)]]∧zIk l1=some r) ?_ ?_
 ·
  refine zH<|zC<|zA (zK underlying55 rfl rfl sizeOf53 rfl)<|zA (zN isAgg53 rfl rfl rfl rfl)<|zA (zZ underlying53 rfl)<|zA (zB rfl) ?_
  refine zF<|zQ<|z6 (σ:=Nat×Int×(List (List Int))) (fun s=>s.1) (fun s e' H'=>match s with | (n0,i1,l2)=>Rep 25 0 e' H' (mkE [(2,(AV.ptr 0 0)),(3,(AV.ptr 1 0)),(8,(ls (cS cI) a_c.lists)),(9,(li (a_c.lists.length:Int))),(10,(li i1))]) [.box 55 [(ls (cS cI) ([]:List (List Int)))],.box 55 [AV.osl 22 1 (List.map (cS cI) l2)]]∧zFh a_c n0 i1 l2=some r) (z9,0,([]:List (List Int))) ⟨zAD [1,2] rfl rfl (by kernel_rfl),h⟩ ?_
  clear h
  rintro ⟨n0,i1,l2⟩ e' H' ⟨hrep,h⟩
  cases n0 with
  | zero=>exact absurd (show (none:Option _)=some r from h) (by simp)
  | succ n0 =>
   replace h:zDc a_c (zFh a_c n0) i1 l2=some r:=h
   unfold zDc at h
   refine zV hrep ?_
   clear hrep
   refine zH<|zC<|zA (zg rfl rfl)<|zF<|zH ?_
   refine zY h rfl (fun hb1 h => ?_) (fun hb1 h => ?_)
   ·refine zP<|zH<|zQ<|zH<|zC<|zM h fun hb2 h => ?_
    refine zA (zU underlying53 sizeOf22 (fun _=>rfl) rfl rfl hb2)<|zA (zW (o:=0) isAgg22 rfl rfl)<|zA (zD rfl)<|zF<|zH<|zC ?_
    refine zA (zD rfl)<|zF<|zH<|zC<|zA (zB rfl)<|zA (zB rfl) ?_
    refine zAF (zNT (d:=14) (el:=3) (sz:=1) rfl)<|zM h fun hb3 h=>zF0 (f:=cI) (k:=2) (l:=([]:List Int)) (l':=at_ a_c.lists i1) zHX (fun _=>rfl) underlying22 rfl rfl rfl hb3<|zA (zD rfl)<|zF<|zC ?_
    refine zA (zK underlying55 rfl rfl sizeOf53 rfl)<|zAF (zBE (k:=1) (o:=0) (t':=22) (sz:=1) (rows:=List.map (cS cI) l2) rfl rfl)<|zA (zN isAgg53 rfl rfl rfl rfl)<|zA (zB rfl)<|zAF (zEl (j:=3) (ds:=[6,16,19]) (rows':=List.map cI (([]:List Int)++(at_ a_c.lists i1))) rfl (zAL (fun _=>rfl)) ⟨rfl,rfl,rfl,trivial⟩)<|zGR (a:=(ls cI (([]:List Int)++(at_ a_c.lists i1)))) zMm underlying53 rfl rfl rfl rfl ?_
    refine zM h fun hb4 h=>zDC (f:=(cS cI)) (k:=4) (j:=5) (l:=l2) (l':=[([]:List Int)++(at_ a_c.lists i1)]) zMm (fun _=>rfl) underlying53 rfl rfl rfl rfl hb4<|zA (zK underlying55 rfl rfl sizeOf53 rfl)<|zp (H':=[.box 55 [(ls (cS cI) ([]:List (List Int)))],.box 55 [AV.hd 6],.dead,.dead,.dead,.vec 22 1 (List.map (cS cI) [([]:List Int)++(at_ a_c.lists i1)]),.vec 22 1 (List.map (cS cI) (l2++[([]:List Int)++(at_ a_c.lists i1)]))]) (zCZ (k:=1) (o:=0) (cs:=[AV.hd 4]) (a:=(AV.hd 6)) sizeOf53 rfl rfl rfl rfl rfl)<|zF<|zC ?_
    refine zM h fun hb5 h=>zA (ze rfl rfl hb5)<|zA (zB rfl)<|zF ?_
    exact ⟨(n0,(i1+1),(l2++[([]:List Int)++(at_ a_c.lists i1)])),Nat.lt_succ_self _,Rep.trans (zAK (k:=1) (j:=6) (o:=0) rfl rfl rfl rfl) (zAD [0,1] (l:=[(2,(AV.ptr 0 0)),(3,(AV.ptr 1 0)),(8,(ls (cS cI) a_c.lists)),(9,(li (a_c.lists.length:Int))),(10,(li (i1+1)))]) rfl rfl (by kernel_rfl)),h⟩
   ·refine zy ?_
    exact ⟨l2,zAD [0,1] rfl rfl (by kernel_rfl),h⟩
 ·
  clear h
  rintro e' H' ⟨l1,hrep,h⟩
  refine zV hrep ?_
  clear hrep
  unfold zIk at h
  refine zH<|zC<|zAF (zBV (k:=1) (o:=0) (rows':=List.map (cS cI) l1) rfl rfl (zAL (fun _=>rfl)))<|zA (zS (k:=1) (o:=0) (m:=1) isAgg55 sizeOf55 rfl rfl rfl rfl rfl)<|zp (H':=[.box 55 (zI (⟨l1⟩:zL)),.box 55 [(ls (cS cI) l1)]]) (zX (k:=0) (o:=0) (cs:=[(ls (cS cI) ([]:List (List Int)))]) (la:=(zI (⟨l1⟩:zL))) sizeOf55 rfl rfl rfl rfl)<|zF ?_
  refine zd ?_
  show zAP _ _ _ _ _ _
  obtain rfl:=Option.some.inj h
  exact zv (zFZ isAgg55 sizeOf55 rfl rfl rfl rfl)
theorem zMS {a_p0:zJ} {r:zJ} (h:zH1 a_p0=some r):PFn prog 59 [(AV.agg (zG a_p0))] (AV.agg ([ls cI r.nodes]++([li r.batch]++([li r.high]++([AV.osl 51 10 (List.map zO r.zones)]++([AV.osl 55 1 (List.map zI r.caches)]++[])))))):=by
 refine zq func59 rfl ntmps59 results59 rfl ?_
 unfold zH1 at h
 refine zH<|zC<|za (H':=[.box 26 (zG a_p0)]) (zw (t:=26) rfl)<|za (H':=[.box 26 (zG a_p0),.box 26 (zG ⟨[],0,0,[],[]⟩)]) (zu (t:=26) (vs:=[.slice none 0 0,.int .i64 0,.int .i64 0,.slice none 0 0,.slice none 0 0]) (cs:=[.sl false [],.lit (.int .i64 0),.lit (.int .i64 0),.sl false [],.sl false []]) zeroValue26 (by kernel_rfl) rfl ⟨zf.nils,zf.refl _,zf.refl _,zf.nils,zf.nils,trivial⟩)<|zF<|zH ?_
 refine zC<|zA (zK underlying26 rfl rfl sizeOf3 rfl)<|zA (zN isAgg3 rfl rfl rfl rfl)<|zA (zK underlying26 rfl rfl sizeOf3 rfl)<|zA (zN isAgg3 rfl rfl rfl rfl)<|zA (z8 (pl:=[(0,1),(1,1),(2,1),(3,1),(4,1)]) (zs:=[.slice none 0 0,.int .i64 0,.int .i64 0,.slice none 0 0,.slice none 0 0]) (zc:=[.osl 3 1 [],.lit (.int .i64 0),.lit (.int .i64 0),.osl 51 10 [],.osl 55 1 []]) (res:=[AV.osl 3 1 (List.map cI ([]:List Int)),li a_p0.batch,li a_p0.high,AV.osl 51 10 (List.map zO ([]:List zo)),AV.osl 55 1 (List.map zI ([]:List zL))]) (fun _=>by kernel_rfl) rfl (⟨zf.nilo,⟨zf.refl _,⟨zf.refl _,⟨zf.nilo,⟨zf.nilo,trivial⟩⟩⟩⟩⟩) ⟨li a_p0.batch,1,1,rfl,rfl,rfl,rfl,rfl,⟨li a_p0.high,2,1,rfl,rfl,rfl,rfl,rfl,(by exact zFR.refl _)⟩⟩) ?_
 refine za (H':=[.box 26 (zG a_p0),.box 26 (zG ⟨[],0,0,[],[]⟩),.box 26 [AV.osl 3 1 (List.map cI ([]:List Int)),li 0,li 0,AV.osl 51 10 (List.map zO ([]:List zo)),AV.osl 55 1 (List.map zI ([]:List zL))]]) (zu (t:=26) (vs:=[.slice none 0 0,.int .i64 0,.int .i64 0,.slice none 0 0,.slice none 0 0]) (cs:=[.osl 3 1 [],.lit (.int .i64 0),.lit (.int .i64 0),.osl 51 10 [],.osl 55 1 []]) zeroValue26 (by kernel_rfl) rfl ⟨zf.nilo,zf.refl _,zf.refl _,zf.nilo,zf.nilo,trivial⟩)<|zp (H':=[.box 26 (zG a_p0),.box 26 (zG ⟨[],0,0,[],[]⟩),.box 26 [AV.osl 3 1 (List.map cI ([]:List Int)),li a_p0.batch,li a_p0.high,AV.osl 51 10 (List.map zO ([]:List zo)),AV.osl 55 1 (List.map zI ([]:List zL))]]) (zX (k:=2) (o:=0) (cs:=[AV.osl 3 1 (List.map cI ([]:List Int)),li 0,li 0,AV.osl 51 10 (List.map zO ([]:List zo)),AV.osl 55 1 (List.map zI ([]:List zL))]) (la:=[AV.osl 3 1 (List.map cI ([]:List Int)),li a_p0.batch,li a_p0.high,AV.osl 51 10 (List.map zO ([]:List zo)),AV.osl 55 1 (List.map zI ([]:List zL))]) sizeOf26 rfl rfl rfl rfl)<|zF<|zH<|zC<|zA (zK underlying26 rfl rfl sizeOf22 rfl) ?_
 refine zAF (zBE (k:=2) (o:=0) (t':=3) (sz:=1) (rows:=List.map cI ([]:List Int)) rfl rfl)<|zA (zN isAgg22 rfl rfl rfl rfl)<|zA (zK underlying26 rfl rfl sizeOf22 rfl)<|zA (zN isAgg22 rfl rfl rfl rfl)<|zM h fun hb1 h=>zF0 (f:=cI) (k:=3) (l:=([]:List Int)) (l':=a_p0.nodes) zHX (fun _=>rfl) underlying22 rfl rfl rfl hb1 ?_
 refine zA (zK underlying26 rfl rfl sizeOf22 rfl)<|zp (H':=[.box 26 (zG a_p0),.box 26 (zG ⟨[],0,0,[],[]⟩),.box 26 [AV.hd 4,li a_p0.batch,li a_p0.high,AV.osl 51 10 (List.map zO ([]:List zo)),AV.osl 55 1 (List.map zI ([]:List zL))],.dead,.vec 3 1 (List.map cI (([]:List Int)++a_p0.nodes))]) (zCZ (k:=2) (o:=0) (cs:=[AV.hd 3,li a_p0.batch,li a_p0.high,AV.osl 51 10 (List.map zO ([]:List zo)),AV.osl 55 1 (List.map zI ([]:List zL))]) (a:=(AV.hd 4)) sizeOf22 rfl rfl rfl rfl rfl)<|zF ?_
 refine zx (fun e' H' => ∃ (l1:List zo),Rep 75 0 e' H' (mkE [(1,(AV.ptr 0 0)),(2,(AV.ptr 1 0)),(3,(AV.ptr 2 0))]) [.box 26 (zG a_p0),.box 26 (zG ⟨[],0,0,[],[]⟩),.box 26 [AV.osl 3 1 (List.map cI (([]:List Int)++a_p0.nodes)),li a_p0.batch,li a_p0.high,AV.osl 51 10 (List.map zO l1),AV.osl 55 1 (List.map zI ([]:List zL))]]∧zHB a_p0 l1=some r) ?_ ?_
 ·
  refine zH<|zC<|zA (zD rfl)<|zF<|zQ<|z6 (σ:=Nat×Int×(List zo)) (fun s=>s.1) (fun s e' H'=>match s with | (n1,i2,l4)=>Rep 75 0 e' H' (mkE [(1,(AV.ptr 0 0)),(2,(AV.ptr 1 0)),(3,(AV.ptr 2 0)),(4,(li i2))]) [.box 26 (zG a_p0),.box 26 (zG ⟨[],0,0,[],[]⟩),.box 26 [AV.osl 3 1 (List.map cI (([]:List Int)++a_p0.nodes)),li a_p0.batch,li a_p0.high,AV.osl 51 10 (List.map zO l4),AV.osl 55 1 (List.map zI ([]:List zL))]]∧zBm a_p0 n1 i2 l4=some r) (z9,0,([]:List zo)) ⟨Rep.trans (zAK (k:=2) (j:=4) (o:=0) rfl rfl rfl rfl) (zAD [0,1,2] (l:=[(1,(AV.ptr 0 0)),(2,(AV.ptr 1 0)),(3,(AV.ptr 2 0)),(4,(li 0))]) rfl rfl (by kernel_rfl)),h⟩ ?_
  clear h
  rintro ⟨n1,i2,l4⟩ e' H' ⟨hrep,h⟩
  cases n1 with
  | zero=>exact absurd (show (none:Option _)=some r from h) (by simp)
  | succ n1 =>
   replace h:zDR a_p0 (zBm a_p0 n1) i2 l4=some r:=h
   unfold zDR at h
   refine zV hrep ?_
   clear hrep
   refine zH<|zH<|zC<|zA (zB rfl)<|zA (zK underlying26 rfl rfl sizeOf23 rfl)<|zA (zN isAgg23 rfl rfl rfl rfl) ?_
   refine zA (zZ underlying23 rfl)<|zA (zg rfl rfl)<|zF ?_
   refine zY h rfl (fun hb6 h => ?_) (fun hb6 h => ?_)
   ·refine zP ?_
    refine zx (fun e' H' => ∃ (l5:List zo),Rep 75 0 e' H' (mkE [(1,(AV.ptr 0 0)),(2,(AV.ptr 1 0)),(3,(AV.ptr 2 0)),(4,(li i2))]) [.box 26 (zG a_p0),.box 26 (zG ⟨[],0,0,[],[]⟩),.box 26 [AV.osl 3 1 (List.map cI (([]:List Int)++a_p0.nodes)),li a_p0.batch,li a_p0.high,AV.osl 51 10 (List.map zO l5),AV.osl 55 1 (List.map zI ([]:List zL))]]∧zHA (zBm a_p0 n1) i2 l5=some r) ?_ ?_
    ·
     refine zQ<|zH<|zC<|zA (zK underlying26 rfl rfl sizeOf23 rfl)<|zA (zN isAgg23 rfl rfl rfl rfl)<|zA (zB rfl) ?_
     refine zM h fun hb8 h=>zA (zU underlying23 sizeOf51 (fun _=>rfl) rfl rfl hb8)<|zA (zAX (row:=(zO (at_ a_p0.zones i2))) (o:=0) (m:=10) (la:=(zO (at_ a_p0.zones i2))) isAgg51 sizeOf51 rfl rfl rfl)<|za (H':=[.box 26 (zG a_p0),.box 26 (zG ⟨[],0,0,[],[]⟩),.box 26 [AV.osl 3 1 (List.map cI (([]:List Int)++a_p0.nodes)),li a_p0.batch,li a_p0.high,AV.osl 51 10 (List.map zO l4),AV.osl 55 1 (List.map zI ([]:List zL))],.box 51 (zO ⟨0,0,0,0,0,(List.replicate 5 ([]:List Int))⟩)]) (zu (t:=51) (vs:=[.int .i64 0,.int .i64 0,.int .i64 0,.int .i64 0,.int .i64 0,.slice none 0 0,.slice none 0 0,.slice none 0 0,.slice none 0 0,.slice none 0 0]) (cs:=[.lit (.int .i64 0),.lit (.int .i64 0),.lit (.int .i64 0),.lit (.int .i64 0),.lit (.int .i64 0),.sl false [],.sl false [],.sl false [],.sl false [],.sl false []]) zeroValue51 (by kernel_rfl) rfl ⟨zf.refl _,zf.refl _,zf.refl _,zf.refl _,zf.refl _,zf.nils,zf.nils,zf.nils,zf.nils,zf.nils,trivial⟩)<|zp (H':=[.box 26 (zG a_p0),.box 26 (zG ⟨[],0,0,[],[]⟩),.box 26 [AV.osl 3 1 (List.map cI (([]:List Int)++a_p0.nodes)),li a_p0.batch,li a_p0.high,AV.osl 51 10 (List.map zO l4),AV.osl 55 1 (List.map zI ([]:List zL))],.box 51 (zO (at_ a_p0.zones i2))]) (zX (k:=3) (o:=0) (cs:=(zO ⟨0,0,0,0,0,(List.replicate 5 ([]:List Int))⟩)) (la:=(zO (at_ a_p0.zones i2))) sizeOf51 rfl rfl rfl rfl)<|zF ?_
     refine zx (fun e' H' => ∃ (d1:List (List Int)),Rep 75 0 e' H' (mkE [(1,(AV.ptr 0 0)),(2,(AV.ptr 1 0)),(3,(AV.ptr 2 0)),(4,(li i2)),(5,(AV.ptr 3 0))]) [.box 26 (zG a_p0),.box 26 (zG ⟨[],0,0,[],[]⟩),.box 26 [AV.osl 3 1 (List.map cI (([]:List Int)++a_p0.nodes)),li a_p0.batch,li a_p0.high,AV.osl 51 10 (List.map zO l4),AV.osl 55 1 (List.map zI ([]:List zL))],.box 51 (zO ⟨((at_ a_p0.zones i2).node),((at_ a_p0.zones i2).kind),((at_ a_p0.zones i2).start),((at_ a_p0.zones i2).count),((at_ a_p0.zones i2).min),d1⟩)]∧zHJ (zBm a_p0 n1) a_p0 i2 l4 d1=some r) ?_ ?_
     ·
      refine zH<|zC<|zA (zD rfl)<|zF<|zQ<|z6 (σ:=Nat×Int×(List (List Int))) (fun s=>s.1) (fun s e' H'=>match s with | (n2,i3,d2)=>Rep 75 0 e' H' (mkE [(1,(AV.ptr 0 0)),(2,(AV.ptr 1 0)),(3,(AV.ptr 2 0)),(4,(li i2)),(5,(AV.ptr 3 0)),(6,(li i3))]) [.box 26 (zG a_p0),.box 26 (zG ⟨[],0,0,[],[]⟩),.box 26 [AV.osl 3 1 (List.map cI (([]:List Int)++a_p0.nodes)),li a_p0.batch,li a_p0.high,AV.osl 51 10 (List.map zO l4),AV.osl 55 1 (List.map zI ([]:List zL))],.box 51 (zO ⟨((at_ a_p0.zones i2).node),((at_ a_p0.zones i2).kind),((at_ a_p0.zones i2).start),((at_ a_p0.zones i2).count),((at_ a_p0.zones i2).min),d2⟩)]∧zFo (zBm a_p0 n1) a_p0 i2 l4 n2 i3 d2=some r) (z9,0,((at_ a_p0.zones i2).free)) ⟨zAD [0,1,2,3] rfl rfl (by kernel_rfl),h⟩ ?_
      clear h
      rintro ⟨n2,i3,d2⟩ e' H' ⟨hrep,h⟩
      cases n2 with
      | zero=>exact absurd (show (none:Option _)=some r from h) (by simp)
      | succ n2 =>
       replace h:zDf (zBm a_p0 n1) a_p0 i2 l4 (zFo (zBm a_p0 n1) a_p0 i2 l4 n2) i3 d2=some r:=h
       unfold zDf at h
       refine zV hrep ?_
       clear hrep
       refine zH<|zH<|zC<|zA (zB rfl)<|zA (zC0 rfl rfl)<|zF ?_
       refine zY h rfl (fun hb10 h => ?_) (fun hb10 h => ?_)
       ·refine zP<|zH<|zQ<|zH<|zC<|zA (zD rfl) ?_
        refine zF<|zH<|zC<|zA (zB rfl)<|zA (zK underlying26 rfl rfl sizeOf23 rfl)<|zA (zN isAgg23 rfl rfl rfl rfl) ?_
        refine zA (zB rfl)<|zA (zB rfl)<|zM h fun hb11 h=>zA (zU underlying23 sizeOf51 (fun _=>rfl) rfl rfl hb11)<|zA (zBP (row:=(zO (at_ a_p0.zones i2))) (o:=0) (off:=5) underlying51 rfl rfl sizeOf49 rfl)<|zM h fun hb12 h => ?_
        refine zA (zPf (m:=5) (s:=1) (i:=i3) (row:=(zO (at_ a_p0.zones i2))) (o:=5) underlying49 sizeOf22 rfl rfl hb12)<|zA (zNW (o:=(5+i3.toNat*1)) (cs:=zO (at_ a_p0.zones i2)) (hd:=([(li ((at_ a_p0.zones i2).node))]++[(li ((at_ a_p0.zones i2).kind))]++[(li ((at_ a_p0.zones i2).start))]++[(li ((at_ a_p0.zones i2).count))]++[(li ((at_ a_p0.zones i2).min))]++[])) (tl:=([])) (g:=(eS cI)) (d0:=([]:List Int)) (l:=(at_ a_p0.zones i2).free) (N:=5) (i:=i3.toNat) (a:=(ls cI (((at_ a_p0.zones i2).free).getD i3.toNat ([]:List Int)))) isAgg22 rfl rfl (congrArg (fun q=>5+q) (Nat.mul_one _)) (zBT hb12).2 rfl)<|zAF (zNT (d:=36) (el:=3) (sz:=1) rfl)<|zM h fun hb13 h=>zF0 (f:=cI) (k:=4) (l:=([]:List Int)) (l':=((at_ a_p0.zones i2).free).getD i3.toNat ([]:List Int)) zHX (fun _=>rfl) underlying22 rfl rfl rfl hb13<|zA (zD rfl) ?_
        refine zF<|zC<|zA (zB rfl)<|zA (zB rfl)<|zA (zK underlying51 rfl rfl sizeOf49 rfl)<|zA (zAN (m:=5) (s:=1) (i:=i3) (k:=3) (o:=5) underlying49 sizeOf22 rfl rfl hb12) ?_
        refine zAF (zEl (j:=5) (ds:=[7,45,47]) (rows':=List.map cI (([]:List Int)++(((at_ a_p0.zones i2).free).getD i3.toNat ([]:List Int)))) rfl (zAL (fun _=>rfl)) ⟨rfl,rfl,rfl,trivial⟩)<|zp (H':=[.box 26 (zG a_p0),.box 26 (zG ⟨[],0,0,[],[]⟩),.box 26 [AV.osl 3 1 (List.map cI (([]:List Int)++a_p0.nodes)),li a_p0.batch,li a_p0.high,AV.osl 51 10 (List.map zO l4),AV.osl 55 1 (List.map zI ([]:List zL))],.box 51 (zO ⟨((at_ a_p0.zones i2).node),((at_ a_p0.zones i2).kind),((at_ a_p0.zones i2).start),((at_ a_p0.zones i2).count),((at_ a_p0.zones i2).min),(zDl 5 ([]:List Int) d2 i3.toNat (([]:List Int)++(((at_ a_p0.zones i2).free).getD i3.toNat ([]:List Int))))⟩),.dead,.dead]) (zNB (k:=3) (o:=(5+i3.toNat*1)) (cs:=(zO ⟨((at_ a_p0.zones i2).node),((at_ a_p0.zones i2).kind),((at_ a_p0.zones i2).start),((at_ a_p0.zones i2).count),((at_ a_p0.zones i2).min),d2⟩)) (hd:=([(li ((at_ a_p0.zones i2).node))]++[(li ((at_ a_p0.zones i2).kind))]++[(li ((at_ a_p0.zones i2).start))]++[(li ((at_ a_p0.zones i2).count))]++[(li ((at_ a_p0.zones i2).min))]++[])) (tl:=([])) (g:=(eS cI)) (d0:=([]:List Int)) (l:=d2) (N:=5) (i:=i3.toNat) (v:=([]:List Int)++(((at_ a_p0.zones i2).free).getD i3.toNat ([]:List Int))) (a:=(ls cI (([]:List Int)++(((at_ a_p0.zones i2).free).getD i3.toNat ([]:List Int))))) sizeOf22 rfl rfl rfl (congrArg (fun q=>5+q) (Nat.mul_one _)) (zBT hb12).2 rfl rfl rfl)<|zF<|zC<|zA (zB rfl)<|zM h fun hb14 h => ?_
        refine zA (ze rfl rfl hb14)<|zA (zD rfl)<|zF ?_
        exact ⟨(n2,(i3+1),(zDl 5 ([]:List Int) d2 i3.toNat (([]:List Int)++(((at_ a_p0.zones i2).free).getD i3.toNat ([]:List Int))))),Nat.lt_succ_self _,zAD [0,1,2,3] rfl rfl (by kernel_rfl),h⟩
       ·refine zy ?_
        exact ⟨d2,zAD [0,1,2,3] rfl rfl (by kernel_rfl),h⟩
     ·
      clear h
      rintro e' H' ⟨d1,hrep,h⟩
      refine zV hrep ?_
      clear hrep
      unfold zHJ at h
      refine zC<|zA (zK underlying26 rfl rfl sizeOf23 rfl)<|zAF (zBE (k:=2) (o:=3) (t':=51) (sz:=10) (rows:=List.map zO l4) rfl rfl)<|zA (zN isAgg23 rfl rfl rfl rfl)<|zA (zS (k:=3) (o:=0) (m:=10) isAgg51 sizeOf51 rfl rfl rfl rfl rfl)<|zGR (a:=(AV.agg (zO (⟨(at_ a_p0.zones i2).node,(at_ a_p0.zones i2).kind,(at_ a_p0.zones i2).start,(at_ a_p0.zones i2).count,(at_ a_p0.zones i2).min,d1⟩:zo)))) zMo underlying23 rfl rfl rfl rfl ?_
      refine zM h fun hb9 h=>zDC (f:=zO) (k:=4) (j:=5) (l:=l4) (l':=[(⟨(at_ a_p0.zones i2).node,(at_ a_p0.zones i2).kind,(at_ a_p0.zones i2).start,(at_ a_p0.zones i2).count,(at_ a_p0.zones i2).min,d1⟩:zo)]) zMo (fun _=>rfl) underlying23 rfl rfl rfl rfl hb9<|zA (zK underlying26 rfl rfl sizeOf23 rfl)<|zp (H':=[.box 26 (zG a_p0),.box 26 (zG ⟨[],0,0,[],[]⟩),.box 26 [AV.osl 3 1 (List.map cI (([]:List Int)++a_p0.nodes)),li a_p0.batch,li a_p0.high,AV.hd 6,AV.osl 55 1 (List.map zI ([]:List zL))],.box 51 (zO ⟨((at_ a_p0.zones i2).node),((at_ a_p0.zones i2).kind),((at_ a_p0.zones i2).start),((at_ a_p0.zones i2).count),((at_ a_p0.zones i2).min),d1⟩),.dead,.vec 51 10 (List.map zO [(⟨(at_ a_p0.zones i2).node,(at_ a_p0.zones i2).kind,(at_ a_p0.zones i2).start,(at_ a_p0.zones i2).count,(at_ a_p0.zones i2).min,d1⟩:zo)]),.vec 51 10 (List.map zO (l4++[(⟨(at_ a_p0.zones i2).node,(at_ a_p0.zones i2).kind,(at_ a_p0.zones i2).start,(at_ a_p0.zones i2).count,(at_ a_p0.zones i2).min,d1⟩:zo)]))]) (zCZ (k:=2) (o:=3) (cs:=[AV.osl 3 1 (List.map cI (([]:List Int)++a_p0.nodes)),li a_p0.batch,li a_p0.high,AV.hd 4,AV.osl 55 1 (List.map zI ([]:List zL))]) (a:=(AV.hd 6)) sizeOf23 rfl rfl rfl rfl rfl)<|zF ?_
      exact ⟨(l4++[(⟨(at_ a_p0.zones i2).node,(at_ a_p0.zones i2).kind,(at_ a_p0.zones i2).start,(at_ a_p0.zones i2).count,(at_ a_p0.zones i2).min,d1⟩:zo)]),Rep.trans (zAK (k:=2) (j:=6) (o:=3) rfl rfl rfl rfl) (zAD [0,1,2] (l:=[(1,(AV.ptr 0 0)),(2,(AV.ptr 1 0)),(3,(AV.ptr 2 0)),(4,(li i2))]) rfl rfl (by kernel_rfl)),h⟩
    ·
     clear h
     rintro e' H' ⟨l5,hrep,h⟩
     refine zV hrep ?_
     clear hrep
     unfold zHA at h
     refine zC<|zA (zB rfl)<|zM h fun hb7 h=>zA (ze rfl rfl hb7)<|zA (zD rfl)<|zF ?_
     exact ⟨(n1,(i2+1),l5),Nat.lt_succ_self _,zAD [0,1,2] rfl rfl (by kernel_rfl),h⟩
   ·refine zy ?_
    exact ⟨l4,zAD [0,1,2] rfl rfl (by kernel_rfl),h⟩
 ·
  clear h
  rintro e' H' ⟨l1,hrep,h⟩
  refine zV hrep ?_
  clear hrep
  unfold zHB at h
  refine zx (fun e' H' => ∃ (l2:List zL),Rep 75 0 e' H' (mkE [(2,(AV.ptr 0 0)),(3,(AV.ptr 1 0))]) [.box 26 (zG ⟨[],0,0,[],[]⟩),.box 26 [AV.osl 3 1 (List.map cI (([]:List Int)++a_p0.nodes)),li a_p0.batch,li a_p0.high,AV.osl 51 10 (List.map zO l1),AV.osl 55 1 (List.map zI l2)]]∧zIm a_p0 l1 l2=some r) ?_ ?_
  ·
   refine zH<|zC<|zA (zD rfl)<|zF<|zQ<|z6 (σ:=Nat×Int×(List zL)) (fun s=>s.1) (fun s e' H'=>match s with | (n0,i1,l3)=>Rep 75 0 e' H' (mkE [(1,(AV.ptr 0 0)),(2,(AV.ptr 1 0)),(3,(AV.ptr 2 0)),(8,(li i1))]) [.box 26 (zG a_p0),.box 26 (zG ⟨[],0,0,[],[]⟩),.box 26 [AV.osl 3 1 (List.map cI (([]:List Int)++a_p0.nodes)),li a_p0.batch,li a_p0.high,AV.osl 51 10 (List.map zO l1),AV.osl 55 1 (List.map zI l3)]]∧zFi a_p0 l1 n0 i1 l3=some r) (z9,0,([]:List zL)) ⟨zAD [0,1,2] rfl rfl (by kernel_rfl),h⟩ ?_
   clear h
   rintro ⟨n0,i1,l3⟩ e' H' ⟨hrep,h⟩
   cases n0 with
   | zero=>exact absurd (show (none:Option _)=some r from h) (by simp)
   | succ n0 =>
    replace h:zDW a_p0 l1 (zFi a_p0 l1 n0) i1 l3=some r:=h
    unfold zDW at h
    refine zV hrep ?_
    clear hrep
    refine zH<|zH<|zC<|zA (zB rfl)<|zA (zK underlying26 rfl rfl sizeOf24 rfl)<|zA (zN isAgg24 rfl rfl rfl rfl) ?_
    refine zA (zZ underlying24 rfl)<|zA (zg rfl rfl)<|zF ?_
    refine zY h rfl (fun hb2 h => ?_) (fun hb2 h => ?_)
    ·refine zP<|zH<|zQ<|zV (zBE (k:=2) (o:=4) (t':=55) (sz:=1) (rows:=List.map zI l3) rfl rfl)<|zM h fun hb3 h=>zR h fun x1 hx1 h => ?_
     refine zM h fun hb4 h => ?_
     show AW _ _ _ _ _ _ [.box 26 (zG a_p0),.box 26 (zG ⟨[],0,0,[],[]⟩),.box 26 [AV.osl 3 1 (List.map cI (([]:List Int)++a_p0.nodes)),li a_p0.batch,li a_p0.high,AV.osl 51 10 (List.map zO l1),AV.hd 3],.vec 55 1 (List.map zI l3)]
     refine zA2 (n:=75) (m:=0) [.head 0 1,.head 0 1,.head 0 0,.head 0 0,.head 0 0,.head 0 0,.head 0 0,.head 0 0,.tail 0,.tail 1,.head 2 2,.tail 2] [8,9,11] [AV.ptr 2 4,AV.hd 3,AV.ptr 0 4,ls zI a_p0.caches,li i1,(AV.rp (zI (at_ a_p0.caches i1)) 0),(AV.agg (zI (at_ a_p0.caches i1))),(AV.agg (zI x1)),AV.hd 4,AV.hd 5,AV.ptr 2 4,.any] [[.box 26 (zG a_p0),.box 26 (zG ⟨[],0,0,[],[]⟩),.box 26 [AV.osl 3 1 (List.map cI (([]:List Int)++a_p0.nodes)),li a_p0.batch,li a_p0.high,AV.osl 51 10 (List.map zO l1),AV.hd 3],.vec 55 1 (List.map zI l3)],[.box 26 (zG a_p0),.box 26 (zG ⟨[],0,0,[],[]⟩),.box 26 [AV.osl 3 1 (List.map cI (([]:List Int)++a_p0.nodes)),li a_p0.batch,li a_p0.high,AV.osl 51 10 (List.map zO l1),AV.hd 3],.vec 55 1 (List.map zI l3),.vec 55 1 (List.map zI [x1])],[.box 26 (zG a_p0),.box 26 (zG ⟨[],0,0,[],[]⟩),.box 26 [AV.osl 3 1 (List.map cI (([]:List Int)++a_p0.nodes)),li a_p0.batch,li a_p0.high,AV.osl 51 10 (List.map zO l1),AV.hd 3],.dead,.vec 55 1 (List.map zI [x1]),.vec 55 1 (List.map zI (l3++[x1]))],[.box 26 (zG a_p0),.box 26 (zG ⟨[],0,0,[],[]⟩),.box 26 [AV.osl 3 1 (List.map cI (([]:List Int)++a_p0.nodes)),li a_p0.batch,li a_p0.high,AV.osl 51 10 (List.map zO l1),AV.hd 5],.dead,.vec 55 1 (List.map zI [x1]),.vec 55 1 (List.map zI (l3++[x1]))]] (by kernel_rfl) (by kernel_rfl) ⟨⟨?_,?_⟩,⟨?_,?_⟩,?_,?_,?_,?_,?_,?_,?_,?_,?_,?_,trivial⟩ ?_
     ·exact D1 fun e s p=>zK (k:=2) (o:=0) (off:=4) underlying26 rfl rfl sizeOf24 (s 3 rfl)
     ·exact D1 fun e s p=>zK (k:=2) (o:=0) (off:=4) underlying26 rfl rfl sizeOf24 (s 3 rfl)
     ·exact D1 fun e s p=>zN (k:=2) (o:=4) isAgg24 p.1 rfl rfl rfl
     ·exact D1 fun e s p=>zN (k:=2) (o:=4) isAgg24 p.1 rfl rfl rfl
     ·exact D1 fun e s p=>zK (k:=0) (o:=0) (off:=4) underlying26 rfl rfl sizeOf24 (s 1 rfl)
     ·exact D1 fun e s p=>zN (k:=0) (o:=4) isAgg24 p.1 rfl rfl rfl
     ·exact D1 fun e s p=>zB (s 8 rfl)
     ·exact D1 fun e s p=>zU (f:=zI) (l:=a_p0.caches) (i:=i1) underlying24 sizeOf55 (fun _=>rfl) p.1 p.2.1 hb3
     ·exact D1 fun e s p=>zAX (row:=(zI (at_ a_p0.caches i1))) (o:=0) (m:=1) (la:=(zI (at_ a_p0.caches i1))) isAgg55 sizeOf55 p.1 rfl rfl
     ·
      intro e10 hs10 hp10
      refine zh (r:=(AV.agg (zI x1))) (la:=[(AV.agg (zI (at_ a_p0.caches i1)))]) func114 rfl (by kernel_rfl) (.fn 114) (zAJ hp10.1 rfl) rfl (zMT hx1) rfl ?_
      exact zF ⟨fun _=>rfl,rfl⟩
     ·
      intro e11 hs11 hp11
      refine zGR (a:=(AV.agg (zI x1))) zMd underlying24 hp11.1 rfl rfl rfl ?_
      exact zF ⟨fun _=>rfl,rfl⟩
     ·
      intro e12 hs12 hp12
      refine zDC (f:=zI) (k:=3) (j:=4) (l:=l3) (l':=[x1]) zMd (fun _=>rfl) underlying24 hp12.1 rfl hp12.2.1 rfl hb4 ?_
      exact zF ⟨fun _=>rfl,rfl⟩
     ·exact D1 fun e s p=>zK (k:=2) (o:=0) (off:=4) underlying26 rfl rfl sizeOf24 (s 3 rfl)
     ·
      intro e14 hs14 hp14
      refine zp (H':=[.box 26 (zG a_p0),.box 26 (zG ⟨[],0,0,[],[]⟩),.box 26 [AV.osl 3 1 (List.map cI (([]:List Int)++a_p0.nodes)),li a_p0.batch,li a_p0.high,AV.osl 51 10 (List.map zO l1),AV.hd 5],.dead,.vec 55 1 (List.map zI [x1]),.vec 55 1 (List.map zI (l3++[x1]))]) (zCZ (k:=2) (o:=4) (cs:=[AV.osl 3 1 (List.map cI (([]:List Int)++a_p0.nodes)),li a_p0.batch,li a_p0.high,AV.osl 51 10 (List.map zO l1),AV.hd 3]) (a:=(AV.hd 5)) sizeOf24 (by exact hp14.1) rfl rfl (by exact hp14.2.2.2.2.2.2.2.2.2.2.2.2.1) rfl) ?_
      exact zF ⟨fun _=>rfl,rfl⟩
     intro e15 hs15 hq1
     refine zV (zBa (l:=[(1,(AV.ptr 0 0)),(2,(AV.ptr 1 0)),(3,(AV.ptr 2 0)),(8,(li i1))]) ⟨hs15 1 rfl,hs15 2 rfl,hs15 3 rfl,hs15 8 rfl,trivial⟩)<|zC<|zA (zB (av:=(li i1)) rfl)<|zM h fun hb5 h=>zA (ze (a:=i1) (b:=1) rfl rfl hb5)<|zA (zD (av:=(li (i1+1))) rfl) ?_
     refine zF ?_
     exact ⟨(n0,(i1+1),(l3++[x1])),Nat.lt_succ_self _,Rep.trans (zAK (k:=2) (j:=5) (o:=4) rfl rfl rfl rfl) (zAD [0,1,2] (l:=[(1,(AV.ptr 0 0)),(2,(AV.ptr 1 0)),(3,(AV.ptr 2 0)),(8,(li (i1+1)))]) rfl rfl (by kernel_rfl)),h⟩
    ·refine zy ?_
     exact ⟨l3,zAD [1,2] rfl rfl (by kernel_rfl),h⟩
  ·
   clear h
   rintro e' H' ⟨l2,hrep,h⟩
   refine zV hrep ?_
   clear hrep
   unfold zIm at h
   refine zH<|zC<|zAF (zBV (k:=1) (o:=0) (rows':=List.map cI (([]:List Int)++a_p0.nodes)) rfl rfl (zAL (fun _=>rfl)))<|za (zKF (k:=1) (cs:=[(ls cI (([]:List Int)++a_p0.nodes)),li a_p0.batch,li a_p0.high,AV.osl 51 10 (List.map zO l1),AV.osl 55 1 (List.map zI l2)]) (m:=5) isAgg26 sizeOf26 rfl rfl rfl)<|zp (H':=[.box 26 [(ls cI (([]:List Int)++a_p0.nodes)),li a_p0.batch,li a_p0.high,AV.osl 51 10 (List.map zO l1),AV.osl 55 1 (List.map zI l2)],.dead,.dead]) (zCs (k:=0) (o:=0) (j:=2) (cs:=(zG ⟨[],0,0,[],[]⟩)) (la:=[(ls cI (([]:List Int)++a_p0.nodes)),li a_p0.batch,li a_p0.high,AV.osl 51 10 (List.map zO l1),AV.osl 55 1 (List.map zI l2)]) sizeOf26 rfl rfl rfl rfl rfl (by decide))<|zF ?_
   refine zd ?_
   show zAP _ _ _ _ _ _
   obtain rfl:=Option.some.inj h
   exact zv (zFZ isAgg26 sizeOf26 rfl rfl rfl rfl)
theorem zNn {a_s:List Int} {a_frame:Int} {a_order:Int} {r:Bool} (h:zKm a_s a_frame a_order=some r):PFn prog 143 [ls cI a_s,li a_frame,li a_order] (AV.lit (.bool r)):=by
 refine zq func143 rfl ntmps143 results143 rfl ?_
 unfold zKm at h
 refine zH<|zC<|zA (zD rfl)<|zF ?_
 refine zx (fun e' H'=>Rep 23 0 e' H' (mkE []) []∧zJa  = some r) ?_ ?_
 ·
  refine zH<|zC<|zA (zB rfl)<|zA (zD rfl)<|zF<|zQ ?_
  refine z6 (σ:=Nat×Int) (fun s=>s.1) (fun s e' H'=>match s with | (n0,i1)=>Rep 23 0 e' H' (mkE [(0,(ls cI a_s)),(1,(li a_frame)),(2,(li a_order)),(7,(li i1))]) []∧zHR a_s a_frame a_order n0 i1=some r) (z9,a_frame) ⟨zAD [] rfl rfl (by kernel_rfl),h⟩ ?_
  clear h
  rintro ⟨n0,i1⟩ e' H' ⟨hrep,h⟩
  cases n0 with
  | zero=>exact absurd (show (none:Option _)=some r from h) (by simp)
  | succ n0 =>
   replace h:zE3 a_s a_frame a_order (zHR a_s a_frame a_order n0) i1=some r:=h
   unfold zE3 at h
   refine zV hrep ?_
   clear hrep
   refine zH<|zH<|zC<|zA (zB rfl)<|zA (zB rfl)<|zA (zB rfl) ?_
   refine zM h fun hb1 h=>zA (zFm (k' := .u64) (a:=a_order) underlying3 underlying74 rfl hb1)<|zM h fun hb2 h=>zM h fun hb3 h=>zA (zCP (a:=1) (b:=a_order) rfl rfl hb2 hb3)<|zM h fun hb4 h => ?_
   refine zA (ze rfl rfl hb4)<|zA (zg rfl rfl)<|zF ?_
   refine zY h rfl (fun hb5 h => ?_) (fun hb5 h => ?_)
   ·refine zP<|zH<|zQ<|zH<|zC<|zA (zB rfl) ?_
    refine zA (zB rfl)<|zM h fun hb6 h=>zA (zU underlying22 sizeOf3 (fun _=>rfl) rfl rfl hb6)<|zA (zW (o:=0) isAgg3 rfl rfl)<|zA (zBd rfl rfl)<|zF ?_
    refine zY h rfl (fun hb7 h => ?_) (fun hb7 h => ?_)
    ·refine zH<|zC<|zA (zD rfl)<|zF<|zd ?_
     show zAP _ _ _ _ _ _
     obtain rfl:=Option.some.inj h
     exact zv (zAO rfl rfl)
    ·refine zP<|zC<|zA (zB rfl)<|zM h fun hb8 h=>zA (ze rfl rfl hb8)<|zA (zD rfl) ?_
     refine zF ?_
     exact ⟨(n0,(i1+1)),Nat.lt_succ_self _,zAD [] rfl rfl (by kernel_rfl),h⟩
   ·refine zy ?_
    exact ⟨zAD [] rfl rfl (by kernel_rfl),h⟩
 ·
  clear h
  rintro e' H' ⟨hrep,h⟩
  refine zV hrep ?_
  clear hrep
  unfold zJa at h
  refine zH<|zC<|zA (zD rfl)<|zF<|zd ?_
  show zAP _ _ _ _ _ _
  obtain rfl:=Option.some.inj h
  exact zv (zAO rfl rfl)
end Go.Proofs.YtplkliakhdkpcaaGreat
