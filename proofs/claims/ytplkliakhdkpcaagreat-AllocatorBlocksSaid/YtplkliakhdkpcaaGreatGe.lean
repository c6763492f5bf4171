/-
  Rules, functions and laws for the last text, part e.
-/
import Derived.Test.YtplkliakhdkpcaaGreatGd
set_option linter.unusedVariables false
set_option linter.unusedSimpArgs false
namespace Go.Proofs.YtplkliakhdkpcaaGreat
open Go Go.RowKit Go.Wk Go.Am Go.Proofs
set_option maxHeartbeats 4000000
theorem zGG {C:zi} {U:Int} {V:Int} {r:Bool} (h:zCZ C U V=some r):PFn Tryz.prog 72 [(AV.agg (zO C)),li U,li V] (AV.lit (.bool r)):=by
 refine zo Tryz.func72 rfl Tryz.ntmps72 Tryz.results72 rfl ?_
 unfold zCZ at h
 refine zH<|zC<|za (H':=[.box 51 (zO C)]) (zv (t:=51) rfl)<|zA (zD rfl)<|zF<|zH ?_
 refine zH<|zC<|zA (zB rfl)<|zA (zf rfl rfl)<|zA (zB rfl)<|zW rfl rfl (fun c1=>zp.step (zB rfl)) ?_
 refine zW rfl rfl (fun c2=>zp.step (zAh (z6 rfl c2) rfl))<|zA (zg rfl rfl)<|zA (zB rfl)<|zW rfl rfl (fun c3=>zp.step (zB rfl))<|zW rfl rfl (fun c4=>zp.step (zK Tryz.underlying51 rfl rfl Tryz.sizeOf3 rfl))<|zW rfl rfl (fun c5=>zp.step (zN Tryz.isAgg3 (z6 rfl c5) rfl rfl rfl)) ?_
 refine zW rfl rfl (fun c6=>zp.step (zf (z6 rfl c6) (z6 rfl c6)))<|zA (zg rfl rfl)<|zA (zB rfl)<|zW rfl rfl (fun c7=>zp.step (zB rfl))<|zW rfl rfl (fun c8=>zp.step (zK Tryz.underlying51 rfl rfl Tryz.sizeOf3 rfl))<|zW rfl rfl (fun c9=>zp.step (zN Tryz.isAgg3 (z6 rfl c9) rfl rfl rfl)) ?_
 refine zW rfl rfl (fun c10=>zp.step (zK Tryz.underlying51 rfl rfl Tryz.sizeOf3 rfl))<|zW rfl rfl (fun c11=>zp.step (zN Tryz.isAgg3 (z6 rfl c11) rfl rfl rfl))<|zM h fun b1 h=>zW rfl rfl (fun c12=>zp.step (ze (z6 rfl c12) (z6 rfl c12) (zGy b1 c12)))<|zW rfl rfl (fun c13=>zp.step (zAw (z6 rfl c13) (z6 rfl c13)))<|zA (zg rfl rfl) ?_
 refine zF ?_
 refine zX h rfl (fun b2 h => ?_) (fun b2 h => ?_)
 ·refine zH<|zC<|zA (zD rfl)<|zF<|zd ?_
  cases h
  exact zu (zAH rfl rfl)
 refine zP<|zH<|zC<|zA (zB rfl)<|zA (zB rfl)<|zM h fun b3 h => ?_
 refine zA (zE1 (k' := .u64) (a:=V) Tryz.underlying3 Tryz.underlying74 rfl b3)<|zM h fun b4 h=>zM h fun b5 h=>zA (zCw (a:=1) (b:=V) rfl rfl b4 b5)<|zM h fun b6 h=>zA (zRA (k := .i64) (a:=U) (b:=(1:Int)*2 ^ V.toNat) rfl rfl b6) ?_
 refine zA (zAv rfl rfl)<|zA (zB rfl)<|zm rfl rfl (fun c14=>zp.step (zB rfl))<|zm rfl rfl (fun c15=>zp.step (zB rfl))<|zm rfl rfl (fun c16=>zp.step (zE1 (k' := .u64) (a:=V) Tryz.underlying3 Tryz.underlying74 (z6 rfl c16) b3))<|zm rfl rfl (fun c17=>zp.step (zCw (a:=1) (b:=V) rfl (z6 rfl c17) b4 b5)) ?_
 refine zM h fun b7 h=>zm rfl rfl (fun c18=>zp.step (ze (z6 rfl c18) (z6 rfl c18) (zGy b7 c18)))<|zm rfl rfl (fun c19=>zp.step (zK Tryz.underlying51 rfl rfl Tryz.sizeOf3 rfl))<|zm rfl rfl (fun c20=>zp.step (zN Tryz.isAgg3 (z6 rfl c20) rfl rfl rfl))<|zm rfl rfl (fun c21=>zp.step (zK Tryz.underlying51 rfl rfl Tryz.sizeOf3 rfl))<|zm rfl rfl (fun c22=>zp.step (zN Tryz.isAgg3 (z6 rfl c22) rfl rfl rfl)) ?_
 refine zM h fun b8 h=>zm rfl rfl (fun c23=>zp.step (ze (z6 rfl c23) (z6 rfl c23) (zGy b8 c23)))<|zm rfl rfl (fun c24=>zp.step (zCu (z6 rfl c24) (z6 rfl c24)))<|zA (zx (j := .lit undef) rfl rfl)<|zA (zD rfl)<|zF ?_
 refine zd ?_
 cases h
 exact zu (zAH rfl rfl)
theorem zL5 {C:zi} {r:Int} (h:zHf C=some r):PFn Tryz.prog 94 [(AV.agg (zO C))] (li r):=by
 refine zo Tryz.func94 rfl Tryz.ntmps94 Tryz.results94 rfl ?_
 unfold zHf at h
 refine zH<|zC<|za (H':=[.box 51 (zO C)]) (zv (t:=51) rfl)<|zA (zD rfl)<|zF ?_
 refine zt (r:=r) (fun (_:Unit)=>mkE []) (fun _=>[]) (fun _=>zG7 ) ?_ ?_
 ·
  refine zH<|zC<|zA (zD rfl)<|zF<|zQ<|zq (σ:=Int) (fun i1=>mkE [(1,(AV.ptr 0 0)),(3,(li i1))]) (fun i1=>[.box 51 (zO C)]) (fun n0 i1=>zBP C n0 i1) 0 h (fun _=>rfl) (z9 [0] rfl rfl (by kernel_rfl)) ?_
  clear h
  intro n0 i1 h
  replace h:zB9 C (zBP C n0) i1=some r:=h
  unfold zB9 at h
  refine zH<|zH<|zC<|zA (zB rfl)<|zA (zCu rfl rfl)<|zF ?_
  refine zX h rfl (fun b1 h => ?_) (fun b1 h => ?_)
  ·refine zP ?_
   refine zt (r:=r) (fun (_:Unit)=>mkE [(1,(AV.ptr 0 0)),(3,(li i1))]) (fun _=>[.box 51 (zO C)]) (fun _=>zFQ (zBP C n0) i1) ?_ ?_
   ·
    refine zQ<|zH<|zC<|zA (zD rfl)<|zF<|zQ ?_
    refine zq (σ:=Int) (fun i2=>mkE [(1,(AV.ptr 0 0)),(3,(li i1)),(4,(li i2))]) (fun i2=>[.box 51 (zO C)]) (fun n1 i2=>zDe (zBP C n0) C i1 n1 i2) 0 h (fun _=>rfl) (z9 [0] rfl rfl (by kernel_rfl)) ?_
    clear h
    intro n1 i2 h
    replace h:zCJ (zBP C n0) C i1 (zDe (zBP C n0) C i1 n1) i2=some r:=h
    unfold zCJ at h
    refine zH<|zH<|zC<|zA (zB rfl)<|zA (zB rfl)<|zA (zK Tryz.underlying51 rfl rfl Tryz.sizeOf49 rfl) ?_
    refine zM h fun b3 h=>zA (zAO (m:=5) (s:=1) (i:=i1) (k:=0) (o:=5) Tryz.underlying49 Tryz.sizeOf22 rfl rfl b3)<|zA (zAm (k:=0) (o:=(5+i1.toNat*1)) (cs:=(zO C)) (hd:=([li C.node]++[li C.kind]++[li C.start]++[li C.count]++[li C.min]++[])) (tl:=([])) (g:=(eS cI)) (d0:=([]:List Int)) (l:=C.free) (N:=5) (i:=i1.toNat) (a:=(ls cI (C.free.getD i1.toNat ([]:List Int)))) Tryz.isAgg22 rfl rfl rfl (congrArg (fun q=>5+q) (Nat.mul_one _)) (zBW b3).2 rfl rfl)<|zA (zV Tryz.underlying22 rfl)<|zA (zf rfl rfl)<|zF ?_
    refine zX h rfl (fun b4 h => ?_) (fun b4 h => ?_)
    ·refine zP<|zH<|zQ<|zH<|zH<|zM h fun b5 h => ?_
     refine zR h fun x1 w1 h => ?_
     refine zAl (n:=49) (m:=0) [.head 0 0,.head 0 0,.head 0 0,.head 0 0,.head 0 0,.head 0 0,.head 0 0,.head 0 0,.head 0 0,.head 0 0,.head 0 0] [] [(AV.agg (zO C)),li i1,AV.ptr 0 5,(AV.ptr 0 (5+i1.toNat*1)),(ls cI (C.free.getD i1.toNat ([]:List Int))),li i2,(AV.rp (cI (at_ (C.free.getD i1.toNat ([]:List Int)) i2)) 0),(li (at_ (C.free.getD i1.toNat ([]:List Int)) i2)),li i1,(AV.lit (.bool x1)),(AV.lit (.bool (!x1)))] [[.box 51 (zO C)]] (by kernel_rfl) (by kernel_rfl) ⟨D1 fun e s p=>zS (k:=0) (o:=0) (m:=10) Tryz.isAgg51 Tryz.sizeOf51 (s 1 rfl) rfl rfl rfl rfl,D1 fun e s p=>zB (s 3 rfl),D1 fun e s p=>zK (k:=0) (o:=0) (off:=5) Tryz.underlying51 rfl rfl Tryz.sizeOf49 (s 1 rfl),D1 fun e s p=>zAO (m:=5) (s:=1) (i:=i1) (k:=0) (o:=5) Tryz.underlying49 Tryz.sizeOf22 p.1 p.2.1 b3,D1 fun e s p=>zAm (k:=0) (o:=(5+i1.toNat*1)) (cs:=(zO C)) (hd:=([li C.node]++[li C.kind]++[li C.start]++[li C.count]++[li C.min]++[])) (tl:=([])) (g:=(eS cI)) (d0:=([]:List Int)) (l:=C.free) (N:=5) (i:=i1.toNat) (a:=(ls cI (C.free.getD i1.toNat ([]:List Int)))) Tryz.isAgg22 p.1 rfl rfl (congrArg (fun q=>5+q) (Nat.mul_one _)) (zBW b3).2 rfl rfl,D1 fun e s p=>zB (s 4 rfl),D1 fun e s p=>zT (f:=cI) (l:=C.free.getD i1.toNat ([]:List Int)) (i:=i2) Tryz.underlying22 Tryz.sizeOf3 (fun _=>rfl) p.1 p.2.1 b5,D1 fun e s p=>zU (o:=0) Tryz.isAgg3 p.1 rfl,D1 fun e s p=>zB (s 3 rfl),?_,D1 fun e s p=>zBE (t:=x1) p.1,trivial⟩ ?_
     ·
      intro e10 s10 p10
      refine zh (r:=(AV.lit (.bool x1))) (la:=[(AV.agg (zO C)),(li (at_ (C.free.getD i1.toNat ([]:List Int)) i2)),li i1]) Tryz.func72 rfl (by kernel_rfl) (.fn 72) (zAM p10.1 (zAM p10.2.1 (zAM p10.2.2.1 rfl))) rfl (zGG w1) rfl ?_
      exact zF ⟨fun _=>rfl,rfl⟩
     intro e12 s12 hq1
     refine zAT (zBM (l:=[(1,(AV.ptr 0 0)),(3,(li i1)),(4,(li i2)),(28,(AV.lit (.bool (!x1))))]) ⟨s12 1 rfl,s12 3 rfl,s12 4 rfl,(hq1 10 (by decide) (by decide)),trivial⟩) ?_
     refine zX h rfl (fun b6 h => ?_) (fun b6 h => ?_)
     ·refine zH<|zC<|zA (zD rfl)<|zF<|zd ?_
      cases h
      exact zu (zAH rfl rfl)
     refine zP<|zH<|zM h fun b7 h=>zM h fun b8 h => ?_
     refine zAl (n:=49) (m:=0) [.head 0 0,.head 0 0,.head 0 0,.head 0 0,.head 0 0,.head 0 0,.head 0 0,.head 0 0,.head 0 0,.head 0 0,.head 0 0,.head 0 0,.head 0 0,.head 0 0,.head 0 0,.head 0 0,.head 0 0,.head 0 0,.head 0 0,.head 0 0] [] [li i2,(AV.lit (.bool (decide (0<i2)))),(AV.lit (.bool (decide (0<i2)))),(bif decide (0<i2) then (li i1) else .lit undef),(bif decide (0<i2) then (AV.ptr 0 5) else .lit undef),(bif decide (0<i2) then (AV.ptr 0 (5+i1.toNat*1)) else .lit undef),(bif decide (0<i2) then (ls cI (C.free.getD i1.toNat ([]:List Int))) else .lit undef),(bif decide (0<i2) then (li i2) else .lit undef),(bif decide (0<i2) then (AV.rp (cI (at_ (C.free.getD i1.toNat ([]:List Int)) i2)) 0) else .lit undef),(bif decide (0<i2) then (li (at_ (C.free.getD i1.toNat ([]:List Int)) i2)) else .lit undef),(bif decide (0<i2) then (li i1) else .lit undef),(bif decide (0<i2) then (AV.ptr 0 5) else .lit undef),(bif decide (0<i2) then (AV.ptr 0 (5+i1.toNat*1)) else .lit undef),(bif decide (0<i2) then (ls cI (C.free.getD i1.toNat ([]:List Int))) else .lit undef),(bif decide (0<i2) then (li i2) else .lit undef),(bif decide (0<i2) then (li (i2 - 1)) else .lit undef),(bif decide (0<i2) then (AV.rp (cI (at_ (C.free.getD i1.toNat ([]:List Int)) (i2 - 1))) 0) else .lit undef),(bif decide (0<i2) then (li (at_ (C.free.getD i1.toNat ([]:List Int)) (i2 - 1))) else .lit undef),(bif decide (0<i2) then (AV.lit (.bool (decide ((at_ (C.free.getD i1.toNat ([]:List Int)) i2)≤(at_ (C.free.getD i1.toNat ([]:List Int)) (i2 - 1)))))) else .lit undef),(AV.lit (.bool ((decide (0<i2))&&(decide ((at_ (C.free.getD i1.toNat ([]:List Int)) i2)≤(at_ (C.free.getD i1.toNat ([]:List Int)) (i2 - 1)))))))] [[.box 51 (zO C)]] (by kernel_rfl) (by kernel_rfl) ⟨D1 fun e s p=>zB (s 4 rfl),D1 fun e s p=>zAh (a:=i2) (b:=0) p.1 rfl,D1 fun e s p=>zB p.1,?_,?_,?_,?_,?_,?_,?_,?_,?_,?_,?_,?_,?_,?_,?_,?_,D1 fun e s p=>zx (s:=decide (0<i2)) (q:=decide ((at_ (C.free.getD i1.toNat ([]:List Int)) i2)≤(at_ (C.free.getD i1.toNat ([]:List Int)) (i2 - 1)))) (j := .lit undef) p.1 p.2.1,trivial⟩ ?_
     ·
      intro e16 s16 p15
      refine zm (g:=31) (s:=decide (0<i2)) rfl p15.1 (fun c17=>zp.step (zB (av:=(li i1)) (s16 3 rfl))) ?_
      exact zF ⟨fun _=>rfl,rfl⟩
     ·
      intro e17 s17 p16
      refine zm (g:=31) (s:=decide (0<i2)) rfl p16.1 (fun c18=>zp.step (zK (k:=0) (o:=0) (off:=5) Tryz.underlying51 rfl rfl Tryz.sizeOf49 (s17 1 rfl))) ?_
      exact zF ⟨fun _=>rfl,rfl⟩
     ·
      intro e18 s18 p17
      refine zm (g:=31) (s:=decide (0<i2)) rfl p17.2.2.1 (fun c19=>zp.step (zAO (m:=5) (s:=1) (i:=i1) (k:=0) (o:=5) Tryz.underlying49 Tryz.sizeOf22 (z6 p17.1 c19) (z6 p17.2.1 c19) b3)) ?_
      exact zF ⟨fun _=>rfl,rfl⟩
     ·
      intro e19 s19 p18
      refine zm (g:=31) (s:=decide (0<i2)) rfl p18.2.1 (fun c20=>zp.step (zAm (k:=0) (o:=(5+i1.toNat*1)) (cs:=(zO C)) (hd:=([li C.node]++[li C.kind]++[li C.start]++[li C.count]++[li C.min]++[])) (tl:=([])) (g:=(eS cI)) (d0:=([]:List Int)) (l:=C.free) (N:=5) (i:=i1.toNat) (a:=(ls cI (C.free.getD i1.toNat ([]:List Int)))) Tryz.isAgg22 (z6 p18.1 c20) rfl rfl (congrArg (fun q=>5+q) (Nat.mul_one _)) (zBW b3).2 rfl rfl)) ?_
      exact zF ⟨fun _=>rfl,rfl⟩
     ·
      intro e20 s20 p19
      refine zm (g:=31) (s:=decide (0<i2)) rfl p19.1 (fun c21=>zp.step (zB (av:=(li i2)) (s20 4 rfl))) ?_
      exact zF ⟨fun _=>rfl,rfl⟩
     ·
      intro e21 s21 p20
      refine zm (g:=31) (s:=decide (0<i2)) rfl p20.2.2.1 (fun c22=>zp.step (zT (f:=cI) (l:=C.free.getD i1.toNat ([]:List Int)) (i:=i2) Tryz.underlying22 Tryz.sizeOf3 (fun _=>rfl) (z6 p20.1 c22) (z6 p20.2.1 c22) b5)) ?_
      exact zF ⟨fun _=>rfl,rfl⟩
     ·
      intro e22 s22 p21
      refine zm (g:=31) (s:=decide (0<i2)) rfl p21.2.1 (fun c23=>zp.step (zU (row:=(cI (at_ (C.free.getD i1.toNat ([]:List Int)) i2))) (o:=0) (a:=(li (at_ (C.free.getD i1.toNat ([]:List Int)) i2))) Tryz.isAgg3 (z6 p21.1 c23) rfl)) ?_
      exact zF ⟨fun _=>rfl,rfl⟩
     ·
      intro e23 s23 p22
      refine zm (g:=31) (s:=decide (0<i2)) rfl p22.1 (fun c24=>zp.step (zB (av:=(li i1)) (s23 3 rfl))) ?_
      exact zF ⟨fun _=>rfl,rfl⟩
     ·
      intro e24 s24 p23
      refine zm (g:=31) (s:=decide (0<i2)) rfl p23.1 (fun c25=>zp.step (zK (k:=0) (o:=0) (off:=5) Tryz.underlying51 rfl rfl Tryz.sizeOf49 (s24 1 rfl))) ?_
      exact zF ⟨fun _=>rfl,rfl⟩
     ·
      intro e25 s25 p24
      refine zm (g:=31) (s:=decide (0<i2)) rfl p24.2.2.1 (fun c26=>zp.step (zAO (m:=5) (s:=1) (i:=i1) (k:=0) (o:=5) Tryz.underlying49 Tryz.sizeOf22 (z6 p24.1 c26) (z6 p24.2.1 c26) b3)) ?_
      exact zF ⟨fun _=>rfl,rfl⟩
     ·
      intro e26 s26 p25
      refine zm (g:=31) (s:=decide (0<i2)) rfl p25.2.1 (fun c27=>zp.step (zAm (k:=0) (o:=(5+i1.toNat*1)) (cs:=(zO C)) (hd:=([li C.node]++[li C.kind]++[li C.start]++[li C.count]++[li C.min]++[])) (tl:=([])) (g:=(eS cI)) (d0:=([]:List Int)) (l:=C.free) (N:=5) (i:=i1.toNat) (a:=(ls cI (C.free.getD i1.toNat ([]:List Int)))) Tryz.isAgg22 (z6 p25.1 c27) rfl rfl (congrArg (fun q=>5+q) (Nat.mul_one _)) (zBW b3).2 rfl rfl)) ?_
      exact zF ⟨fun _=>rfl,rfl⟩
     ·
      intro e27 s27 p26
      refine zm (g:=31) (s:=decide (0<i2)) rfl p26.1 (fun c28=>zp.step (zB (av:=(li i2)) (s27 4 rfl))) ?_
      exact zF ⟨fun _=>rfl,rfl⟩
     ·
      intro e28 s28 p27
      refine zm (g:=31) (s:=decide (0<i2)) rfl p27.2.1 (fun c29=>zp.step (zBS (a:=i2) (b:=1) (z6 p27.1 c29) rfl (zGy b7 c29))) ?_
      exact zF ⟨fun _=>rfl,rfl⟩
     ·
      intro e29 s29 p28
      refine zm (g:=31) (s:=decide (0<i2)) rfl p28.2.2.1 (fun c30=>zp.step (zT (f:=cI) (l:=C.free.getD i1.toNat ([]:List Int)) (i:=i2 - 1) Tryz.underlying22 Tryz.sizeOf3 (fun _=>rfl) (z6 p28.1 c30) (z6 p28.2.1 c30) (zGy b8 c30))) ?_
      exact zF ⟨fun _=>rfl,rfl⟩
     ·
      intro e30 s30 p29
      refine zm (g:=31) (s:=decide (0<i2)) rfl p29.2.1 (fun c31=>zp.step (zU (row:=(cI (at_ (C.free.getD i1.toNat ([]:List Int)) (i2 - 1)))) (o:=0) (a:=(li (at_ (C.free.getD i1.toNat ([]:List Int)) (i2 - 1)))) Tryz.isAgg3 (z6 p29.1 c31) rfl)) ?_
      exact zF ⟨fun _=>rfl,rfl⟩
     ·
      intro e31 s31 p30
      refine zm (g:=31) (s:=decide (0<i2)) rfl p30.2.2.1 (fun c32=>zp.step (zCu (a:=at_ (C.free.getD i1.toNat ([]:List Int)) i2) (b:=at_ (C.free.getD i1.toNat ([]:List Int)) (i2 - 1)) (z6 p30.1 c32) (z6 p30.2.1 c32))) ?_
      exact zF ⟨fun _=>rfl,rfl⟩
     intro e33 s33 hq2
     refine zAT (zBM (l:=[(1,(AV.ptr 0 0)),(3,(li i1)),(4,(li i2)),(48,(AV.lit (.bool ((decide (0<i2))&&(decide ((at_ (C.free.getD i1.toNat ([]:List Int)) i2)≤(at_ (C.free.getD i1.toNat ([]:List Int)) (i2 - 1))))))))]) ⟨s33 1 rfl,s33 3 rfl,s33 4 rfl,(hq2 19 (by decide) (by decide)),trivial⟩) ?_
     refine zX h rfl (fun b9 h => ?_) (fun b9 h => ?_)
     ·refine zH<|zC<|zA (zD rfl)<|zF<|zd ?_
      cases h
      exact zu (zAH rfl rfl)
     refine zP<|zC<|zA (zB rfl)<|zM h fun b10 h=>zA (ze rfl rfl b10)<|zA (zD rfl) ?_
     refine zF ?_
     exact ⟨(i2+1),z9 [0] rfl rfl (by kernel_rfl),h⟩
    refine zw ?_
    exact ⟨(),z9 [0] rfl rfl (by kernel_rfl),h⟩
   clear h
   intro _ h
   unfold zFQ at h
   refine zC<|zA (zB rfl)<|zM h fun b2 h=>zA (ze rfl rfl b2)<|zA (zD rfl)<|zF ?_
   exact ⟨(i1+1),z9 [0] rfl rfl (by kernel_rfl),h⟩
  refine zw ?_
  exact ⟨(),z9 [] rfl rfl (by kernel_rfl),h⟩
 clear h
 intro _ h
 unfold zG7 at h
 refine zH<|zC<|zA (zD rfl)<|zF<|zd ?_
 cases h
 exact zu (zAH rfl rfl)
theorem zJd {C:zi} {r:List Int} (h:zIL C=some r):PFn Tryz.prog 95 [(AV.agg (zO C))] (AV.osl 3 1 (List.map cI r)):=by
 refine zo Tryz.func95 rfl Tryz.ntmps95 Tryz.results95 rfl ?_
 unfold zIL at h
 refine zH<|zC<|za (H':=[.box 51 (zO C)]) (zv (t:=51) rfl)<|zA (zD rfl)<|zF<|zH ?_
 refine zC<|zM h fun b1 h=>zEa (f:=cI) (a:=256) (c:=256) (d0:=0) zE0 ⟨zAt.refl _,trivial⟩ rfl Tryz.underlying22 rfl rfl b1<|zA (zD rfl)<|zF ?_
 refine zt (r:=r) (fun (l1:List Int)=>mkE [(3,(AV.hd 0))]) (fun l1=>[.vec 3 1 (List.map cI l1)]) (fun l1=>zKp l1) ?_ ?_
 ·
  refine zH<|zC<|zA (zD rfl)<|zF<|zQ<|zq (σ:=Int×(List Int)) (fun (i1,l2)=>mkE [(1,(AV.ptr 0 0)),(3,(AV.hd 1)),(4,(li i1))]) (fun (i1,l2)=>[.box 51 (zO C),.vec 3 1 (List.map cI l2)]) (fun n0 (i1,l2)=>zBo C n0 i1 l2) (0,(List.replicate (256:Int).toNat 0)) h (fun _=>rfl) (z9 [0,1] rfl rfl (by kernel_rfl)) ?_
  clear h
  rintro n0 ⟨i1,l2⟩ h
  replace h:zFn C (zBo C n0) i1 l2=some r:=h
  unfold zFn at h
  refine zH<|zH<|zC<|zA (zB rfl)<|zA (zCu rfl rfl)<|zF ?_
  refine zX h rfl (fun b2 h => ?_) (fun b2 h => ?_)
  ·refine zP ?_
   refine zt (r:=r) (fun (l3:List Int)=>mkE [(1,(AV.ptr 0 0)),(3,(AV.hd 1)),(4,(li i1))]) (fun l3=>[.box 51 (zO C),.vec 3 1 (List.map cI l3)]) (fun l3=>zJZ (zBo C n0) i1 l3) ?_ ?_
   ·
    refine zQ<|zH<|zC<|zA (zD rfl)<|zF<|zQ ?_
    refine zq (σ:=Int×(List Int)) (fun (i2,l4)=>mkE [(1,(AV.ptr 0 0)),(3,(AV.hd 1)),(4,(li i1)),(5,(li i2))]) (fun (i2,l4)=>[.box 51 (zO C),.vec 3 1 (List.map cI l4)]) (fun n1 (i2,l4)=>zDA (zBo C n0) C i1 n1 i2 l4) (0,l2) h (fun _=>rfl) (z9 [0,1] rfl rfl (by kernel_rfl)) ?_
    clear h
    rintro n1 ⟨i2,l4⟩ h
    replace h:zFg (zBo C n0) C i1 (zDA (zBo C n0) C i1 n1) i2 l4=some r:=h
    unfold zFg at h
    refine zH<|zH<|zC<|zA (zB rfl)<|zA (zB rfl)<|zA (zK Tryz.underlying51 rfl rfl Tryz.sizeOf49 rfl) ?_
    refine zM h fun b4 h=>zA (zAO (m:=5) (s:=1) (i:=i1) (k:=0) (o:=5) Tryz.underlying49 Tryz.sizeOf22 rfl rfl b4)<|zA (zAm (k:=0) (o:=(5+i1.toNat*1)) (cs:=(zO C)) (hd:=([li C.node]++[li C.kind]++[li C.start]++[li C.count]++[li C.min]++[])) (tl:=([])) (g:=(eS cI)) (d0:=([]:List Int)) (l:=C.free) (N:=5) (i:=i1.toNat) (a:=(ls cI (C.free.getD i1.toNat ([]:List Int)))) Tryz.isAgg22 rfl rfl rfl (congrArg (fun q=>5+q) (Nat.mul_one _)) (zBW b4).2 rfl rfl)<|zA (zV Tryz.underlying22 rfl)<|zA (zf rfl rfl)<|zF ?_
    refine zX h rfl (fun b5 h => ?_) (fun b5 h => ?_)
    ·refine zP ?_
     refine zt (r:=r) (fun (l5:List Int)=>mkE [(1,(AV.ptr 0 0)),(3,(AV.hd 1)),(4,(li i1)),(5,(li i2))]) (fun l5=>[.box 51 (zO C),.vec 3 1 (List.map cI l5)]) (fun l5=>zJg (zDA (zBo C n0) C i1 n1) i2 l5) ?_ ?_
     ·
      refine zQ<|zH<|zC<|zA (zB rfl)<|zA (zK Tryz.underlying51 rfl rfl Tryz.sizeOf49 rfl)<|zA (zAO (m:=5) (s:=1) (i:=i1) (k:=0) (o:=5) Tryz.underlying49 Tryz.sizeOf22 rfl rfl b4) ?_
      refine zA (zAm (k:=0) (o:=(5+i1.toNat*1)) (cs:=(zO C)) (hd:=([li C.node]++[li C.kind]++[li C.start]++[li C.count]++[li C.min]++[])) (tl:=([])) (g:=(eS cI)) (d0:=([]:List Int)) (l:=C.free) (N:=5) (i:=i1.toNat) (a:=(ls cI (C.free.getD i1.toNat ([]:List Int)))) Tryz.isAgg22 rfl rfl rfl (congrArg (fun q=>5+q) (Nat.mul_one _)) (zBW b4).2 rfl rfl)<|zA (zB rfl)<|zM h fun b7 h=>zA (zT Tryz.underlying22 Tryz.sizeOf3 (fun _=>rfl) rfl rfl b7)<|zA (zU (o:=0) Tryz.isAgg3 rfl rfl)<|zA (zD rfl) ?_
      refine zF<|zQ<|zq (σ:=Int×(List Int)) (fun (i3,l6)=>mkE [(1,(AV.ptr 0 0)),(3,(AV.hd 1)),(4,(li i1)),(5,(li i2)),(6,(li i3))]) (fun (i3,l6)=>[.box 51 (zO C),.vec 3 1 (List.map cI l6)]) (fun n2 (i3,l6)=>zIN (zDA (zBo C n0) C i1 n1) C i1 i2 n2 i3 l6) ((at_ (C.free.getD i1.toNat ([]:List Int)) i2),l4) h (fun _=>rfl) (z9 [0,1] rfl rfl (by kernel_rfl)) ?_
      clear h
      rintro n2 ⟨i3,l6⟩ h
      replace h:zFo (zDA (zBo C n0) C i1 n1) C i1 i2 (zIN (zDA (zBo C n0) C i1 n1) C i1 i2 n2) i3 l6=some r:=h
      unfold zFo at h
      refine zH<|zH<|zC<|zA (zB rfl)<|zA (zB rfl)<|zA (zK Tryz.underlying51 rfl rfl Tryz.sizeOf49 rfl) ?_
      refine zM h fun b8 h=>zA (zAO (m:=5) (s:=1) (i:=i1) (k:=0) (o:=5) Tryz.underlying49 Tryz.sizeOf22 rfl rfl b8)<|zA (zAm (k:=0) (o:=(5+i1.toNat*1)) (cs:=(zO C)) (hd:=([li C.node]++[li C.kind]++[li C.start]++[li C.count]++[li C.min]++[])) (tl:=([])) (g:=(eS cI)) (d0:=([]:List Int)) (l:=C.free) (N:=5) (i:=i1.toNat) (a:=(ls cI (C.free.getD i1.toNat ([]:List Int)))) Tryz.isAgg22 rfl rfl rfl (congrArg (fun q=>5+q) (Nat.mul_one _)) (zBW b8).2 rfl rfl)<|zA (zB rfl)<|zM h fun b9 h=>zA (zT Tryz.underlying22 Tryz.sizeOf3 (fun _=>rfl) rfl rfl b9) ?_
      refine zA (zU (o:=0) Tryz.isAgg3 rfl rfl)<|zA (zB rfl)<|zM h fun b10 h=>zA (zE1 (k' := .u64) (a:=i1) Tryz.underlying3 Tryz.underlying74 rfl b10)<|zM h fun b11 h=>zM h fun b12 h => ?_
      refine zA (zCw (a:=1) (b:=i1) rfl rfl b11 b12)<|zM h fun b13 h=>zA (ze rfl rfl b13)<|zA (zf rfl rfl)<|zF ?_
      refine zX h rfl (fun b14 h => ?_) (fun b14 h => ?_)
      ·refine zP<|zH<|zQ<|zC<|zA (zB rfl)<|zA (zB rfl) ?_
       refine zM h fun b15 h=>zA (zy (f:=cI) (l:=l6) (i:=i3) Tryz.underlying22 Tryz.sizeOf3 rfl rfl rfl b15)<|zA (zAq (f:=cI) (l:=l6) (i:=i3) (c:=0) (a:=(li (at_ l6 i3))) Tryz.isAgg3 rfl rfl (by first | rfl | omega) b15 rfl rfl)<|zM h fun b16 h=>zA (ze rfl rfl b16)<|zA (zy (f:=cI) (l:=l6) (i:=i3) Tryz.underlying22 Tryz.sizeOf3 rfl rfl rfl b15) ?_
       refine zj (H':=[.box 51 (zO C),.vec 3 1 (List.map cI (l6.set i3.toNat ((at_ l6 i3)+1)))]) (zBt (k:=1) (o:=(i3.toNat*1)) (f:=cI) (l:=l6) (i:=i3) (c:=0) (a:=(li ((at_ l6 i3)+1))) (z:=(at_ l6 i3)+1) Tryz.sizeOf3 rfl rfl (by first | rfl | omega) b15 rfl rfl rfl rfl rfl)<|zF<|zC<|zA (zB rfl)<|zM h fun b17 h=>zA (ze rfl rfl b17) ?_
       refine zA (zD rfl)<|zF ?_
       exact ⟨((i3+1),(l6.set i3.toNat ((at_ l6 i3)+1))),z9 [0,1] rfl rfl (by kernel_rfl),h⟩
      refine zw ?_
      exact ⟨l6,z9 [0,1] rfl rfl (by kernel_rfl),h⟩
     clear h
     intro l5 h
     unfold zJg at h
     refine zC<|zA (zB rfl)<|zM h fun b6 h=>zA (ze rfl rfl b6)<|zA (zD rfl)<|zF ?_
     exact ⟨((i2+1),l5),z9 [0,1] rfl rfl (by kernel_rfl),h⟩
    refine zw ?_
    exact ⟨l4,z9 [0,1] rfl rfl (by kernel_rfl),h⟩
   clear h
   intro l3 h
   unfold zJZ at h
   refine zC<|zA (zB rfl)<|zM h fun b3 h=>zA (ze rfl rfl b3)<|zA (zD rfl)<|zF ?_
   exact ⟨((i1+1),l3),z9 [0,1] rfl rfl (by kernel_rfl),h⟩
  refine zw ?_
  exact ⟨l2,z9 [1] rfl rfl (by kernel_rfl),h⟩
 clear h
 intro l1 h
 unfold zKp at h
 refine zH<|zC<|zA (zB rfl)<|zA (zD rfl)<|zF<|zd ?_
 cases h
 exact zu (zWy rfl rfl)
theorem zHw {A:zi} {r:Int} (h:zFm A=some r):PFn Tryz.prog 47 [(AV.agg (zO A))] (li r):=by
 refine zo Tryz.func47 rfl Tryz.ntmps47 Tryz.results47 rfl ?_
 unfold zFm at h
 refine zH<|zC<|za (H':=[.box 51 (zO A)]) (zv (t:=51) rfl)<|zA (zD rfl)<|zF<|zH ?_
 refine zH<|zC<|zA (zS (k:=0) (o:=0) (m:=10) Tryz.isAgg51 Tryz.sizeOf51 rfl rfl rfl rfl rfl)<|zR h fun x1 w1 h=>zh Tryz.func93 rfl (by kernel_rfl) (.fn 93) rfl rfl (zM9 w1) rfl<|zA (zBE (t:=x1) rfl) ?_
 refine zF ?_
 refine zX h rfl (fun b1 h => ?_) (fun b1 h => ?_)
 ·refine zH<|zC<|zA (zD rfl)<|zF<|zd ?_
  cases h
  exact zu (zAH rfl rfl)
 refine zP<|zH<|zH<|zC<|zA (zS (k:=0) (o:=0) (m:=10) Tryz.isAgg51 Tryz.sizeOf51 rfl rfl rfl rfl rfl)<|zR h fun x2 w2 h => ?_
 refine zh Tryz.func94 rfl (by kernel_rfl) (.fn 94) rfl rfl (zL5 w2) rfl<|zA (zD rfl)<|zF<|zH<|zC<|zA (zB rfl) ?_
 refine zA (zz rfl rfl)<|zF ?_
 refine zX h rfl (fun b2 h => ?_) (fun b2 h => ?_)
 ·refine zH<|zC<|zA (zB rfl)<|zA (zD rfl)<|zF<|zd ?_
  cases h
  exact zu (zAH rfl rfl)
 refine zP<|zH<|zC<|zA (zS (k:=0) (o:=0) (m:=10) Tryz.isAgg51 Tryz.sizeOf51 rfl rfl rfl rfl rfl)<|zR h fun x3 w3 h=>zHI (T:=3) (sz:=1) (rows:=List.map cI x3) (la:=[(AV.agg (zO A))]) (la':=[(AV.agg (zO A))]) (S:=[]) Tryz.func95 rfl (by kernel_rfl) (.fn 95) rfl ⟨zAs.nr rfl,trivial⟩ (zJd w3) (.inl rfl) ?_
 refine zA (zD rfl)<|zF ?_
 refine zt (r:=r) (fun (_:Unit)=>mkE [(1,(AV.ptr 0 0))]) (fun _=>[.box 51 (zO A)]) (fun _=>zE9 A) ?_ ?_
 ·
  refine zH<|zC<|zA (zD rfl)<|zF<|zQ<|zq (σ:=Int) (fun i3=>mkE [(1,(AV.ptr 0 0)),(4,(AV.hd 1)),(5,(li i3))]) (fun i3=>[.box 51 (zO A),.vec 3 1 (List.map cI x3)]) (fun n2 i3=>zB3 A x3 n2 i3) 0 h (fun _=>rfl) (z9 [0,1] rfl rfl (by kernel_rfl)) ?_
  clear h
  intro n2 i3 h
  replace h:zDo A x3 (zB3 A x3 n2) i3=some r:=h
  unfold zDo at h
  refine zH<|zH<|zC<|zA (zB rfl)<|zA (zB rfl)<|zA (zDF (f:=cI) (l:=x3) Tryz.underlying22 rfl rfl) ?_
  refine zA (zf rfl rfl)<|zF ?_
  refine zX h rfl (fun b17 h => ?_) (fun b17 h => ?_)
  ·refine zP<|zH<|zQ<|zH<|zC<|zA (zB rfl) ?_
   refine zA (zB rfl)<|zM h fun b18 h=>zA (zy (f:=cI) (l:=x3) (i:=i3) Tryz.underlying22 Tryz.sizeOf3 rfl rfl rfl b18)<|zA (zAq (f:=cI) (l:=x3) (i:=i3) (c:=0) (a:=(li (at_ x3 i3))) Tryz.isAgg3 rfl rfl (by first | rfl | omega) b18 rfl rfl)<|zA (zAh rfl rfl)<|zF ?_
   refine zX h rfl (fun b19 h => ?_) (fun b19 h => ?_)
   ·refine zH<|zC<|zA (zD rfl)<|zF<|zd ?_
    cases h
    exact zu (zAH rfl rfl)
   refine zP<|zC<|zA (zB rfl)<|zM h fun b20 h=>zA (ze rfl rfl b20)<|zA (zD rfl) ?_
   refine zF ?_
   exact ⟨(i3+1),z9 [0,1] rfl rfl (by kernel_rfl),h⟩
  refine zw ?_
  exact ⟨(),z9 [0] rfl rfl (by kernel_rfl),h⟩
 clear h
 intro _ h
 unfold zE9 at h
 refine zt (r:=r) (fun (_:Unit)=>mkE []) (fun _=>[]) (fun _=>zJs ) ?_ ?_
 ·
  refine zH<|zC<|zA (zD rfl)<|zF<|zQ<|zq (σ:=Int) (fun i1=>mkE [(1,(AV.ptr 0 0)),(6,(li i1))]) (fun i1=>[.box 51 (zO A)]) (fun n0 i1=>zB7 A n0 i1) 0 h (fun _=>rfl) (z9 [0] rfl rfl (by kernel_rfl)) ?_
  clear h
  intro n0 i1 h
  replace h:zDt A (zB7 A n0) i1=some r:=h
  unfold zDt at h
  refine zH<|zH<|zC<|zA (zB rfl)<|zA (zf rfl rfl)<|zF ?_
  refine zX h rfl (fun b3 h => ?_) (fun b3 h => ?_)
  ·refine zP ?_
   refine zt (r:=r) (fun (_:Unit)=>mkE [(1,(AV.ptr 0 0)),(6,(li i1))]) (fun _=>[.box 51 (zO A)]) (fun _=>zH8 (zB7 A n0) i1) ?_ ?_
   ·
    refine zQ<|zH<|zC<|zA (zD rfl)<|zF<|zQ ?_
    refine zq (σ:=Int) (fun i2=>mkE [(1,(AV.ptr 0 0)),(6,(li i1)),(7,(li i2))]) (fun i2=>[.box 51 (zO A)]) (fun n1 i2=>zB4 (zB7 A n0) A i1 n1 i2) 1 h (fun _=>rfl) (z9 [0] rfl rfl (by kernel_rfl)) ?_
    clear h
    intro n1 i2 h
    replace h:zEE (zB7 A n0) A i1 (zB4 (zB7 A n0) A i1 n1) i2=some r:=h
    unfold zEE at h
    refine zH<|zH<|zC<|zA (zB rfl)<|zA (zB rfl)<|zA (zK Tryz.underlying51 rfl rfl Tryz.sizeOf49 rfl) ?_
    refine zM h fun b5 h=>zA (zAO (m:=5) (s:=1) (i:=i1) (k:=0) (o:=5) Tryz.underlying49 Tryz.sizeOf22 rfl rfl b5)<|zA (zAm (k:=0) (o:=(5+i1.toNat*1)) (cs:=(zO A)) (hd:=([li A.node]++[li A.kind]++[li A.start]++[li A.count]++[li A.min]++[])) (tl:=([])) (g:=(eS cI)) (d0:=([]:List Int)) (l:=A.free) (N:=5) (i:=i1.toNat) (a:=(ls cI (A.free.getD i1.toNat ([]:List Int)))) Tryz.isAgg22 rfl rfl rfl (congrArg (fun q=>5+q) (Nat.mul_one _)) (zBW b5).2 rfl rfl)<|zA (zV Tryz.underlying22 rfl)<|zA (zf rfl rfl)<|zF ?_
    refine zX h rfl (fun b6 h => ?_) (fun b6 h => ?_)
    ·refine zP<|zH<|zQ<|zH<|zM h fun b7 h=>zM h fun b8 h => ?_
     refine zM h fun b9 h=>zM h fun b10 h=>zM h fun b11 h=>zM h fun b12 h=>zM h fun b13 h=>zM h fun b14 h => ?_
     refine zR h fun x4 w4 h => ?_
     refine zAl (n:=76) (m:=0) [.head 0 0,.head 0 0,.head 0 0,.head 0 0,.head 0 0,.head 0 0,.head 0 0,.head 0 0,.head 0 0,.head 0 0,.head 0 0,.head 0 0,.head 0 0,.head 0 0,.head 0 0,.head 0 0,.head 0 0,.head 0 0,.head 0 0,.head 0 0,.head 0 0,.head 0 0,.head 0 0,.head 0 0,.head 0 0,.head 0 0,.head 0 0,.head 0 0,.head 0 0,.head 0 0,.head 0 0,.head 0 0,.head 0 0,.head 0 0] [] [li i1,AV.ptr 0 5,(AV.ptr 0 (5+i1.toNat*1)),(ls cI (A.free.getD i1.toNat ([]:List Int))),li i2,(AV.rp (cI (at_ (A.free.getD i1.toNat ([]:List Int)) i2)) 0),(li (at_ (A.free.getD i1.toNat ([]:List Int)) i2)),li i1,AV.ptr 0 5,(AV.ptr 0 (5+i1.toNat*1)),(ls cI (A.free.getD i1.toNat ([]:List Int))),li i2,(li (i2 - 1)),(AV.rp (cI (at_ (A.free.getD i1.toNat ([]:List Int)) (i2 - 1))) 0),(li (at_ (A.free.getD i1.toNat ([]:List Int)) (i2 - 1))),li i1,(AV.lit (.int .u64 i1)),(li ((1:Int)*2 ^ i1.toNat)),(li ((at_ (A.free.getD i1.toNat ([]:List Int)) (i2 - 1))+((1:Int)*2 ^ i1.toNat))),(AV.lit (.bool (decide ((at_ (A.free.getD i1.toNat ([]:List Int)) i2)=((at_ (A.free.getD i1.toNat ([]:List Int)) (i2 - 1))+((1:Int)*2 ^ i1.toNat)))))),(AV.lit (.bool (decide ((at_ (A.free.getD i1.toNat ([]:List Int)) i2)=((at_ (A.free.getD i1.toNat ([]:List Int)) (i2 - 1))+((1:Int)*2 ^ i1.toNat)))))),(bif decide ((at_ (A.free.getD i1.toNat ([]:List Int)) i2)=((at_ (A.free.getD i1.toNat ([]:List Int)) (i2 - 1))+((1:Int)*2 ^ i1.toNat))) then (AV.agg (zO A)) else .lit undef),(bif decide ((at_ (A.free.getD i1.toNat ([]:List Int)) i2)=((at_ (A.free.getD i1.toNat ([]:List Int)) (i2 - 1))+((1:Int)*2 ^ i1.toNat))) then (li i1) else .lit undef),(bif decide ((at_ (A.free.getD i1.toNat ([]:List Int)) i2)=((at_ (A.free.getD i1.toNat ([]:List Int)) (i2 - 1))+((1:Int)*2 ^ i1.toNat))) then (AV.ptr 0 5) else .lit undef),(bif decide ((at_ (A.free.getD i1.toNat ([]:List Int)) i2)=((at_ (A.free.getD i1.toNat ([]:List Int)) (i2 - 1))+((1:Int)*2 ^ i1.toNat))) then (AV.ptr 0 (5+i1.toNat*1)) else .lit undef),(bif decide ((at_ (A.free.getD i1.toNat ([]:List Int)) i2)=((at_ (A.free.getD i1.toNat ([]:List Int)) (i2 - 1))+((1:Int)*2 ^ i1.toNat))) then (ls cI (A.free.getD i1.toNat ([]:List Int))) else .lit undef),(bif decide ((at_ (A.free.getD i1.toNat ([]:List Int)) i2)=((at_ (A.free.getD i1.toNat ([]:List Int)) (i2 - 1))+((1:Int)*2 ^ i1.toNat))) then (li i2) else .lit undef),(bif decide ((at_ (A.free.getD i1.toNat ([]:List Int)) i2)=((at_ (A.free.getD i1.toNat ([]:List Int)) (i2 - 1))+((1:Int)*2 ^ i1.toNat))) then (li (i2 - 1)) else .lit undef),(bif decide ((at_ (A.free.getD i1.toNat ([]:List Int)) i2)=((at_ (A.free.getD i1.toNat ([]:List Int)) (i2 - 1))+((1:Int)*2 ^ i1.toNat))) then (AV.rp (cI (at_ (A.free.getD i1.toNat ([]:List Int)) (i2 - 1))) 0) else .lit undef),(bif decide ((at_ (A.free.getD i1.toNat ([]:List Int)) i2)=((at_ (A.free.getD i1.toNat ([]:List Int)) (i2 - 1))+((1:Int)*2 ^ i1.toNat))) then (li (at_ (A.free.getD i1.toNat ([]:List Int)) (i2 - 1))) else .lit undef),(bif decide ((at_ (A.free.getD i1.toNat ([]:List Int)) i2)=((at_ (A.free.getD i1.toNat ([]:List Int)) (i2 - 1))+((1:Int)*2 ^ i1.toNat))) then (li i1) else .lit undef),(bif decide ((at_ (A.free.getD i1.toNat ([]:List Int)) i2)=((at_ (A.free.getD i1.toNat ([]:List Int)) (i2 - 1))+((1:Int)*2 ^ i1.toNat))) then (li (i1+1)) else .lit undef),(bif decide ((at_ (A.free.getD i1.toNat ([]:List Int)) i2)=((at_ (A.free.getD i1.toNat ([]:List Int)) (i2 - 1))+((1:Int)*2 ^ i1.toNat))) then (AV.lit (.bool x4)) else .lit undef),(AV.lit (.bool ((decide ((at_ (A.free.getD i1.toNat ([]:List Int)) i2)=((at_ (A.free.getD i1.toNat ([]:List Int)) (i2 - 1))+((1:Int)*2 ^ i1.toNat))))&&x4)))] [[.box 51 (zO A)]] (by kernel_rfl) (by kernel_rfl) ⟨D1 fun e s p=>zB (s 6 rfl),D1 fun e s p=>zK (k:=0) (o:=0) (off:=5) Tryz.underlying51 rfl rfl Tryz.sizeOf49 (s 1 rfl),D1 fun e s p=>zAO (m:=5) (s:=1) (i:=i1) (k:=0) (o:=5) Tryz.underlying49 Tryz.sizeOf22 p.1 p.2.1 b5,D1 fun e s p=>zAm (k:=0) (o:=(5+i1.toNat*1)) (cs:=(zO A)) (hd:=([li A.node]++[li A.kind]++[li A.start]++[li A.count]++[li A.min]++[])) (tl:=([])) (g:=(eS cI)) (d0:=([]:List Int)) (l:=A.free) (N:=5) (i:=i1.toNat) (a:=(ls cI (A.free.getD i1.toNat ([]:List Int)))) Tryz.isAgg22 p.1 rfl rfl (congrArg (fun q=>5+q) (Nat.mul_one _)) (zBW b5).2 rfl rfl,D1 fun e s p=>zB (s 7 rfl),D1 fun e s p=>zT (f:=cI) (l:=A.free.getD i1.toNat ([]:List Int)) (i:=i2) Tryz.underlying22 Tryz.sizeOf3 (fun _=>rfl) p.1 p.2.1 b7,D1 fun e s p=>zU (o:=0) Tryz.isAgg3 p.1 rfl,D1 fun e s p=>zB (s 6 rfl),D1 fun e s p=>zK (k:=0) (o:=0) (off:=5) Tryz.underlying51 rfl rfl Tryz.sizeOf49 (s 1 rfl),D1 fun e s p=>zAO (m:=5) (s:=1) (i:=i1) (k:=0) (o:=5) Tryz.underlying49 Tryz.sizeOf22 p.1 p.2.1 b5,D1 fun e s p=>zAm (k:=0) (o:=(5+i1.toNat*1)) (cs:=(zO A)) (hd:=([li A.node]++[li A.kind]++[li A.start]++[li A.count]++[li A.min]++[])) (tl:=([])) (g:=(eS cI)) (d0:=([]:List Int)) (l:=A.free) (N:=5) (i:=i1.toNat) (a:=(ls cI (A.free.getD i1.toNat ([]:List Int)))) Tryz.isAgg22 p.1 rfl rfl (congrArg (fun q=>5+q) (Nat.mul_one _)) (zBW b5).2 rfl rfl,D1 fun e s p=>zB (s 7 rfl),D1 fun e s p=>zBS (a:=i2) (b:=1) p.1 rfl b8,D1 fun e s p=>zT (f:=cI) (l:=A.free.getD i1.toNat ([]:List Int)) (i:=i2 - 1) Tryz.underlying22 Tryz.sizeOf3 (fun _=>rfl) p.1 p.2.1 b9,D1 fun e s p=>zU (o:=0) Tryz.isAgg3 p.1 rfl,D1 fun e s p=>zB (s 6 rfl),D1 fun e s p=>zE1 (k' := .u64) (a:=i1) Tryz.underlying3 Tryz.underlying74 p.1 b10,D1 fun e s p=>zCw (a:=1) (b:=i1) rfl p.1 b11 b12,D1 fun e s p=>ze (a:=at_ (A.free.getD i1.toNat ([]:List Int)) (i2 - 1)) (b:=(1:Int)*2 ^ i1.toNat) p.1 p.2.1 b13,D1 fun e s p=>zAv (a:=at_ (A.free.getD i1.toNat ([]:List Int)) i2) (b:=(at_ (A.free.getD i1.toNat ([]:List Int)) (i2 - 1))+((1:Int)*2 ^ i1.toNat)) p.1 p.2.1,D1 fun e s p=>zB p.1,?_,?_,?_,?_,?_,?_,?_,?_,?_,?_,?_,?_,D1 fun e s p=>zx (s:=decide ((at_ (A.free.getD i1.toNat ([]:List Int)) i2)=((at_ (A.free.getD i1.toNat ([]:List Int)) (i2 - 1))+((1:Int)*2 ^ i1.toNat)))) (q:=x4) (j := .lit undef) p.1 p.2.1,trivial⟩ ?_
     ·
      intro e22 s22 p22
      refine zm (g:=62) (s:=decide ((at_ (A.free.getD i1.toNat ([]:List Int)) i2)=((at_ (A.free.getD i1.toNat ([]:List Int)) (i2 - 1))+((1:Int)*2 ^ i1.toNat)))) rfl p22.1 (fun c13=>zp.step (zS (k:=0) (o:=0) (m:=10) (la:=(zO A)) Tryz.isAgg51 Tryz.sizeOf51 (s22 1 rfl) rfl rfl rfl rfl)) ?_
      exact zF ⟨fun _=>rfl,rfl⟩
     ·
      intro e23 s23 p23
      refine zm (g:=62) (s:=decide ((at_ (A.free.getD i1.toNat ([]:List Int)) i2)=((at_ (A.free.getD i1.toNat ([]:List Int)) (i2 - 1))+((1:Int)*2 ^ i1.toNat)))) rfl p23.1 (fun c14=>zp.step (zB (av:=(li i1)) (s23 6 rfl))) ?_
      exact zF ⟨fun _=>rfl,rfl⟩
     ·
      intro e24 s24 p24
      refine zm (g:=62) (s:=decide ((at_ (A.free.getD i1.toNat ([]:List Int)) i2)=((at_ (A.free.getD i1.toNat ([]:List Int)) (i2 - 1))+((1:Int)*2 ^ i1.toNat)))) rfl p24.1 (fun c15=>zp.step (zK (k:=0) (o:=0) (off:=5) Tryz.underlying51 rfl rfl Tryz.sizeOf49 (s24 1 rfl))) ?_
      exact zF ⟨fun _=>rfl,rfl⟩
     ·
      intro e25 s25 p25
      refine zm (g:=62) (s:=decide ((at_ (A.free.getD i1.toNat ([]:List Int)) i2)=((at_ (A.free.getD i1.toNat ([]:List Int)) (i2 - 1))+((1:Int)*2 ^ i1.toNat)))) rfl p25.2.2.1 (fun c16=>zp.step (zAO (m:=5) (s:=1) (i:=i1) (k:=0) (o:=5) Tryz.underlying49 Tryz.sizeOf22 (z6 p25.1 c16) (z6 p25.2.1 c16) b5)) ?_
      exact zF ⟨fun _=>rfl,rfl⟩
     ·
      intro e26 s26 p26
      refine zm (g:=62) (s:=decide ((at_ (A.free.getD i1.toNat ([]:List Int)) i2)=((at_ (A.free.getD i1.toNat ([]:List Int)) (i2 - 1))+((1:Int)*2 ^ i1.toNat)))) rfl p26.2.1 (fun c17=>zp.step (zAm (k:=0) (o:=(5+i1.toNat*1)) (cs:=(zO A)) (hd:=([li A.node]++[li A.kind]++[li A.start]++[li A.count]++[li A.min]++[])) (tl:=([])) (g:=(eS cI)) (d0:=([]:List Int)) (l:=A.free) (N:=5) (i:=i1.toNat) (a:=(ls cI (A.free.getD i1.toNat ([]:List Int)))) Tryz.isAgg22 (z6 p26.1 c17) rfl rfl (congrArg (fun q=>5+q) (Nat.mul_one _)) (zBW b5).2 rfl rfl)) ?_
      exact zF ⟨fun _=>rfl,rfl⟩
     ·
      intro e27 s27 p27
      refine zm (g:=62) (s:=decide ((at_ (A.free.getD i1.toNat ([]:List Int)) i2)=((at_ (A.free.getD i1.toNat ([]:List Int)) (i2 - 1))+((1:Int)*2 ^ i1.toNat)))) rfl p27.1 (fun c18=>zp.step (zB (av:=(li i2)) (s27 7 rfl))) ?_
      exact zF ⟨fun _=>rfl,rfl⟩
     ·
      intro e28 s28 p28
      refine zm (g:=62) (s:=decide ((at_ (A.free.getD i1.toNat ([]:List Int)) i2)=((at_ (A.free.getD i1.toNat ([]:List Int)) (i2 - 1))+((1:Int)*2 ^ i1.toNat)))) rfl p28.2.1 (fun c19=>zp.step (zBS (a:=i2) (b:=1) (z6 p28.1 c19) rfl b8)) ?_
      exact zF ⟨fun _=>rfl,rfl⟩
     ·
      intro e29 s29 p29
      refine zm (g:=62) (s:=decide ((at_ (A.free.getD i1.toNat ([]:List Int)) i2)=((at_ (A.free.getD i1.toNat ([]:List Int)) (i2 - 1))+((1:Int)*2 ^ i1.toNat)))) rfl p29.2.2.1 (fun c20=>zp.step (zT (f:=cI) (l:=A.free.getD i1.toNat ([]:List Int)) (i:=i2 - 1) Tryz.underlying22 Tryz.sizeOf3 (fun _=>rfl) (z6 p29.1 c20) (z6 p29.2.1 c20) b9)) ?_
      exact zF ⟨fun _=>rfl,rfl⟩
     ·
      intro e30 s30 p30
      refine zm (g:=62) (s:=decide ((at_ (A.free.getD i1.toNat ([]:List Int)) i2)=((at_ (A.free.getD i1.toNat ([]:List Int)) (i2 - 1))+((1:Int)*2 ^ i1.toNat)))) rfl p30.2.1 (fun c21=>zp.step (zU (row:=(cI (at_ (A.free.getD i1.toNat ([]:List Int)) (i2 - 1)))) (o:=0) (a:=(li (at_ (A.free.getD i1.toNat ([]:List Int)) (i2 - 1)))) Tryz.isAgg3 (z6 p30.1 c21) rfl)) ?_
      exact zF ⟨fun _=>rfl,rfl⟩
     ·
      intro e31 s31 p31
      refine zm (g:=62) (s:=decide ((at_ (A.free.getD i1.toNat ([]:List Int)) i2)=((at_ (A.free.getD i1.toNat ([]:List Int)) (i2 - 1))+((1:Int)*2 ^ i1.toNat)))) rfl p31.1 (fun c22=>zp.step (zB (av:=(li i1)) (s31 6 rfl))) ?_
      exact zF ⟨fun _=>rfl,rfl⟩
     ·
      intro e32 s32 p32
      refine zm (g:=62) (s:=decide ((at_ (A.free.getD i1.toNat ([]:List Int)) i2)=((at_ (A.free.getD i1.toNat ([]:List Int)) (i2 - 1))+((1:Int)*2 ^ i1.toNat)))) rfl p32.2.1 (fun c23=>zp.step (ze (a:=i1) (b:=1) (z6 p32.1 c23) rfl (zGy b14 c23))) ?_
      exact zF ⟨fun _=>rfl,rfl⟩
     ·
      intro e33 s33 p33
      refine zCy (g:=62) (s:=decide ((at_ (A.free.getD i1.toNat ([]:List Int)) i2)=((at_ (A.free.getD i1.toNat ([]:List Int)) (i2 - 1))+((1:Int)*2 ^ i1.toNat)))) (r':=(AV.lit (.bool x4))) rfl p33.2.2.2.2.1 (fun c24=>⟨72,_,_,[],[(AV.agg (zO A)),(li (at_ (A.free.getD i1.toNat ([]:List Int)) (i2 - 1))),(li (i1+1))],[(AV.agg (zO A)),(li (at_ (A.free.getD i1.toNat ([]:List Int)) (i2 - 1))),(li (i1+1))],(AV.lit (.bool x4)),[],Tryz.func72,rfl,by kernel_rfl,.fn 72,(zAM (z6 p33.1 c24) (zAM (z6 p33.2.1 c24) (zAM (z6 p33.2.2.1 c24) rfl))),⟨zAs.nr rfl,zAs.nr rfl,zAs.nr rfl,trivial⟩,zGG (zGm c24 w4),.inl rfl,rfl⟩) ?_
      exact zF ⟨fun _=>rfl,rfl⟩
     intro e35 s35 hq1
     refine zAT (zBM (l:=[(1,(AV.ptr 0 0)),(6,(li i1)),(7,(li i2)),(75,(AV.lit (.bool ((decide ((at_ (A.free.getD i1.toNat ([]:List Int)) i2)=((at_ (A.free.getD i1.toNat ([]:List Int)) (i2 - 1))+((1:Int)*2 ^ i1.toNat))))&&x4))))]) ⟨s35 1 rfl,s35 6 rfl,s35 7 rfl,(hq1 33 (by decide) (by decide)),trivial⟩) ?_
     refine zX h rfl (fun b15 h => ?_) (fun b15 h => ?_)
     ·refine zH<|zC<|zA (zD rfl)<|zF<|zd ?_
      cases h
      exact zu (zAH rfl rfl)
     refine zP<|zC<|zA (zB rfl)<|zM h fun b16 h=>zA (ze rfl rfl b16)<|zA (zD rfl) ?_
     refine zF ?_
     exact ⟨(i2+1),z9 [0] rfl rfl (by kernel_rfl),h⟩
    refine zw ?_
    exact ⟨(),z9 [0] rfl rfl (by kernel_rfl),h⟩
   clear h
   intro _ h
   unfold zH8 at h
   refine zC<|zA (zB rfl)<|zM h fun b4 h=>zA (ze rfl rfl b4)<|zA (zD rfl)<|zF ?_
   exact ⟨(i1+1),z9 [0] rfl rfl (by kernel_rfl),h⟩
  refine zw ?_
  exact ⟨(),z9 [] rfl rfl (by kernel_rfl),h⟩
 clear h
 intro _ h
 unfold zJs at h
 refine zH<|zC<|zA (zD rfl)<|zF<|zd ?_
 cases h
 exact zu (zAH rfl rfl)
theorem zKa {uC:Int} {r:Bool} (h:zFz uC=some r):PFn Tryz.prog 123 [li uC] (AV.lit (.bool r)):=by
 refine zo Tryz.func123 rfl Tryz.ntmps123 Tryz.results123 rfl ?_
 unfold zFz at h
 refine zH<|zC<|zA (zD rfl)<|zF<|zH<|zC ?_
 refine zA (zB rfl)<|zA (zf rfl rfl)<|zA (zB rfl)<|zW rfl rfl (fun c1=>zp.step (zB rfl))<|zW rfl rfl (fun c2=>zp.step (zAw (z6 rfl c2) rfl))<|zA (zg rfl rfl) ?_
 refine zA (zD rfl)<|zF<|zd ?_
 cases h
 exact zu (zAH rfl rfl)
theorem zLb {A:zL} {D:Int} {r:Int} (h:zHj A D=some r):PFn Tryz.prog 96 [(AV.agg (zG A)),li D] (li r):=by
 refine zo Tryz.func96 rfl Tryz.ntmps96 Tryz.results96 rfl ?_
 unfold zHj at h
 refine zH<|zC<|za (H':=[.box 55 (zG A)]) (zv (t:=55) rfl)<|zA (zD rfl)<|zF<|zH ?_
 refine zH<|zC<|zA (zB rfl)<|zA (zf rfl rfl)<|zA (zB rfl)<|zW rfl rfl (fun c1=>zp.step (zB rfl)) ?_
 refine zW rfl rfl (fun c2=>zp.step (zAh (z6 rfl c2) rfl))<|zA (zg rfl rfl)<|zF ?_
 refine zX h rfl (fun b1 h => ?_) (fun b1 h => ?_)
 ·refine zH<|zC<|zA (zD rfl)<|zF<|zd ?_
  cases h
  exact zu (zAH rfl rfl)
 refine zP<|zH<|zH<|zC<|zA (zK Tryz.underlying55 rfl rfl Tryz.sizeOf53 rfl)<|zA (zN Tryz.isAgg53 rfl rfl rfl rfl) ?_
 refine zA (zV Tryz.underlying53 rfl)<|zA (zB rfl)<|zA (zz rfl rfl)<|zF ?_
 refine zX h rfl (fun b2 h => ?_) (fun b2 h => ?_)
 ·refine zH<|zC<|zA (zD rfl)<|zF<|zd ?_
  cases h
  exact zu (zAH rfl rfl)
 refine zP ?_
 refine zt (r:=r) (fun (_:Unit)=>mkE [(2,(AV.ptr 0 0))]) (fun _=>[.box 55 (zG A)]) (fun _=>zGR A) ?_ ?_
 ·
  refine zH<|zC<|zA (zK Tryz.underlying55 rfl rfl Tryz.sizeOf53 rfl)<|zA (zN Tryz.isAgg53 rfl rfl rfl rfl)<|zA (zV Tryz.underlying53 rfl)<|zA (zB rfl) ?_
  refine zF<|zQ<|zq (σ:=Int) (fun i3=>mkE [(2,(AV.ptr 0 0)),(26,(ls (cS cI) A.lists)),(27,(li (A.lists.length:Int))),(28,(li i3))]) (fun i3=>[.box 55 (zG A)]) (fun n2 i3=>zCo A n2 i3) 0 h (fun _=>rfl) (z9 [0] rfl rfl (by kernel_rfl)) ?_
  clear h
  intro n2 i3 h
  replace h:zD2 A (zCo A n2) i3=some r:=h
  unfold zD2 at h
  refine zH<|zC<|zA (zf rfl rfl)<|zF<|zH ?_
  refine zX h rfl (fun b12 h => ?_) (fun b12 h => ?_)
  ·refine zP ?_
   refine zt (r:=r) (fun (_:Unit)=>mkE [(2,(AV.ptr 0 0)),(26,(ls (cS cI) A.lists)),(27,(li (A.lists.length:Int))),(28,(li i3))]) (fun _=>[.box 55 (zG A)]) (fun _=>zH3 (zCo A n2) i3) ?_ ?_
   ·
    refine zQ<|zH<|zC<|zM h fun b14 h=>zA (zT Tryz.underlying53 Tryz.sizeOf22 (fun _=>rfl) rfl rfl b14)<|zA (zU (o:=0) Tryz.isAgg22 rfl rfl) ?_
    refine zA (zD rfl)<|zF<|zH<|zC<|zA (zB rfl)<|zA (zV Tryz.underlying22 rfl) ?_
    refine zA (zB rfl)<|zF<|zQ<|zq (σ:=Int) (fun i4=>mkE [(2,(AV.ptr 0 0)),(26,(ls (cS cI) A.lists)),(27,(li (A.lists.length:Int))),(28,(li i3)),(32,(ls cI (at_ A.lists i3))),(33,(li ((at_ A.lists i3).length:Int))),(34,(li i4))]) (fun i4=>[.box 55 (zG A)]) (fun n3 i4=>zF9 (zCo A n2) A i3 n3 i4) 0 h (fun _=>rfl) (z9 [0] rfl rfl (by kernel_rfl)) ?_
    clear h
    intro n3 i4 h
    replace h:zDp (zCo A n2) A i3 (zF9 (zCo A n2) A i3 n3) i4=some r:=h
    unfold zDp at h
    refine zH<|zC<|zA (zf rfl rfl)<|zF<|zH ?_
    refine zX h rfl (fun b15 h => ?_) (fun b15 h => ?_)
    ·refine zP<|zH<|zQ<|zH<|zC<|zM h fun b16 h => ?_
     refine zA (zT Tryz.underlying22 Tryz.sizeOf3 (fun _=>rfl) rfl rfl b16)<|zA (zU (o:=0) Tryz.isAgg3 rfl rfl)<|zA (zD rfl)<|zF<|zH<|zC ?_
     refine zA (zB rfl)<|zR h fun x1 w1 h=>zh Tryz.func123 rfl (by kernel_rfl) (.fn 123) rfl rfl (zKa w1) rfl<|zF ?_
     refine zX h rfl (fun b17 h => ?_) (fun b17 h => ?_)
     ·refine zH<|zC<|zA (zD rfl)<|zF<|zd ?_
      cases h
      exact zu (zAH rfl rfl)
     refine zP<|zC<|zM h fun b18 h=>zA (ze rfl rfl b18)<|zA (zB rfl)<|zF ?_
     exact ⟨(i4+1),z9 [0] rfl rfl (by kernel_rfl),h⟩
    refine zw ?_
    exact ⟨(),z9 [0] rfl rfl (by kernel_rfl),h⟩
   clear h
   intro _ h
   unfold zH3 at h
   refine zC<|zM h fun b13 h=>zA (ze rfl rfl b13)<|zA (zB rfl)<|zF ?_
   exact ⟨(i3+1),z9 [0] rfl rfl (by kernel_rfl),h⟩
  refine zw ?_
  exact ⟨(),z9 [0] rfl rfl (by kernel_rfl),h⟩
 clear h
 intro _ h
 unfold zGR at h
 refine zH<|zC<|zM h fun b3 h=>zEa (f:=cB) (a:=256) (c:=256) (d0:=false) zW8 ⟨zAt.refl _,trivial⟩ rfl Tryz.underlying121 rfl rfl b3<|zA (zD rfl)<|zF ?_
 refine zt (r:=r) (fun (_:Unit)=>mkE []) (fun _=>[]) (fun _=>zJo ) ?_ ?_
 ·
  refine zH<|zC<|zA (zK Tryz.underlying55 rfl rfl Tryz.sizeOf53 rfl)<|zA (zN Tryz.isAgg53 rfl rfl rfl rfl)<|zA (zV Tryz.underlying53 rfl)<|zA (zB rfl) ?_
  refine zF<|zQ<|zq (σ:=Int×(List Bool)) (fun (i1,l1)=>mkE [(9,(AV.hd 0)),(44,(ls (cS cI) A.lists)),(45,(li (A.lists.length:Int))),(46,(li i1))]) (fun (i1,l1)=>[.vec 4 1 (List.map cB l1)]) (fun n0 (i1,l1)=>zCm A n0 i1 l1) (0,(List.replicate (256:Int).toNat false)) h (fun _=>rfl) (z9 [1] rfl rfl (by kernel_rfl)) ?_
  clear h
  rintro n0 ⟨i1,l1⟩ h
  replace h:zDv A (zCm A n0) i1 l1=some r:=h
  unfold zDv at h
  refine zH<|zC<|zA (zf rfl rfl)<|zF<|zH ?_
  refine zX h rfl (fun b4 h => ?_) (fun b4 h => ?_)
  ·refine zP ?_
   refine zt (r:=r) (fun (l2:List Bool)=>mkE [(9,(AV.hd 0)),(44,(ls (cS cI) A.lists)),(45,(li (A.lists.length:Int))),(46,(li i1))]) (fun l2=>[.vec 4 1 (List.map cB l2)]) (fun l2=>zH7 (zCm A n0) i1 l2) ?_ ?_
   ·
    refine zQ<|zH<|zC<|zM h fun b6 h=>zA (zT Tryz.underlying53 Tryz.sizeOf22 (fun _=>rfl) rfl rfl b6)<|zA (zU (o:=0) Tryz.isAgg22 rfl rfl) ?_
    refine zA (zD rfl)<|zF<|zH<|zC<|zA (zB rfl)<|zA (zV Tryz.underlying22 rfl) ?_
    refine zA (zB rfl)<|zF<|zQ<|zq (σ:=Int×(List Bool)) (fun (i2,l3)=>mkE [(9,(AV.hd 0)),(44,(ls (cS cI) A.lists)),(45,(li (A.lists.length:Int))),(46,(li i1)),(50,(ls cI (at_ A.lists i1))),(51,(li ((at_ A.lists i1).length:Int))),(52,(li i2))]) (fun (i2,l3)=>[.vec 4 1 (List.map cB l3)]) (fun n1 (i2,l3)=>zGC (zCm A n0) A i1 n1 i2 l3) (0,l1) h (fun _=>rfl) (z9 [0] rfl rfl (by kernel_rfl)) ?_
    clear h
    rintro n1 ⟨i2,l3⟩ h
    replace h:zEA (zCm A n0) A i1 (zGC (zCm A n0) A i1 n1) i2 l3=some r:=h
    unfold zEA at h
    refine zH<|zC<|zA (zf rfl rfl)<|zF<|zH ?_
    refine zX h rfl (fun b7 h => ?_) (fun b7 h => ?_)
    ·refine zP<|zH<|zQ<|zH<|zC<|zM h fun b8 h => ?_
     refine zA (zT Tryz.underlying22 Tryz.sizeOf3 (fun _=>rfl) rfl rfl b8)<|zA (zU (o:=0) Tryz.isAgg3 rfl rfl)<|zA (zD rfl)<|zF<|zH<|zH ?_
     refine zC<|zA (zB rfl)<|zA (zB rfl)<|zM h fun b9 h=>zA (zy (f:=cB) (l:=l3) (i:=at_ (at_ A.lists i1) i2) Tryz.underlying121 Tryz.sizeOf4 rfl rfl rfl b9)<|zA (zAq (f:=cB) (l:=l3) (i:=at_ (at_ A.lists i1) i2) (c:=0) (a:=(AV.lit (.bool (at_ l3 (at_ (at_ A.lists i1) i2))))) Tryz.isAgg4 rfl rfl (by first | rfl | omega) b9 rfl rfl) ?_
     refine zF ?_
     refine zX h rfl (fun b10 h => ?_) (fun b10 h => ?_)
     ·refine zH<|zC<|zA (zD rfl)<|zF<|zd ?_
      cases h
      exact zu (zAH rfl rfl)
     refine zP<|zC<|zA (zB rfl)<|zA (zB rfl)<|zA (zy (f:=cB) (l:=l3) (i:=at_ (at_ A.lists i1) i2) Tryz.underlying121 Tryz.sizeOf4 rfl rfl rfl b9)<|zj (H':=[.vec 4 1 (List.map cB (l3.set (at_ (at_ A.lists i1) i2).toNat true))]) (zBt (k:=0) (o:=((at_ (at_ A.lists i1) i2).toNat*1)) (f:=cB) (l:=l3) (i:=at_ (at_ A.lists i1) i2) (c:=0) (a:=(AV.lit (.bool true))) (z:=true) Tryz.sizeOf4 rfl rfl (by first | rfl | omega) b9 rfl rfl rfl rfl rfl) ?_
     refine zF<|zC<|zM h fun b11 h=>zA (ze rfl rfl b11)<|zA (zB rfl)<|zF ?_
     exact ⟨((i2+1),(l3.set (at_ (at_ A.lists i1) i2).toNat true)),z9 [0] rfl rfl (by kernel_rfl),h⟩
    refine zw ?_
    exact ⟨l3,z9 [0] rfl rfl (by kernel_rfl),h⟩
   clear h
   intro l2 h
   unfold zH7 at h
   refine zC<|zM h fun b5 h=>zA (ze rfl rfl b5)<|zA (zB rfl)<|zF ?_
   exact ⟨((i1+1),l2),z9 [0] rfl rfl (by kernel_rfl),h⟩
  refine zw ?_
  exact ⟨(),z9 [] rfl rfl (by kernel_rfl),h⟩
 clear h
 intro _ h
 unfold zJo at h
 refine zH<|zC<|zA (zD rfl)<|zF<|zd ?_
 cases h
 exact zu (zAH rfl rfl)
theorem zNW {C:zi} {U:Int} {r:Bool} (h:zIU C U=some r):PFn Tryz.prog 98 [(AV.agg (zO C)),li U] (AV.lit (.bool r)):=by
 refine zo Tryz.func98 rfl Tryz.ntmps98 Tryz.results98 rfl ?_
 unfold zIU at h
 refine zH<|zC<|za (H':=[.box 51 (zO C)]) (zv (t:=51) rfl)<|zA (zD rfl)<|zF<|zH ?_
 refine zC<|zA (zS (k:=0) (o:=0) (m:=10) Tryz.isAgg51 Tryz.sizeOf51 rfl rfl rfl rfl rfl)<|zR h fun x1 w1 h=>zh Tryz.func47 rfl (by kernel_rfl) (.fn 47) rfl rfl (zHw w1) rfl<|zA (zAv rfl rfl)<|zA (zB rfl) ?_
 refine zm rfl rfl (fun c1=>zp.step (zS (k:=0) (o:=0) (m:=10) Tryz.isAgg51 Tryz.sizeOf51 rfl rfl rfl rfl rfl))<|zm rfl rfl (fun c2=>zp.step (zB rfl))<|zR h fun x2 w2 h=>zCy (g:=8) (s:=decide (x1=0)) (r':=(AV.lit (.bool x2))) rfl rfl (fun c3=>⟨72,_,_,[],[(AV.agg (zO C)),li U,li 0],[(AV.agg (zO C)),li U,li 0],(AV.lit (.bool x2)),[],Tryz.func72,rfl,by kernel_rfl,.fn 72,(zAM (z6 rfl c3) (zAM (z6 rfl c3) (zAM rfl rfl))),⟨zAs.nr rfl,zAs.nr rfl,zAs.nr rfl,trivial⟩,zGG (zGm c3 w2),.inl rfl,rfl⟩)<|zA (zx (j := .lit undef) rfl rfl)<|zA (zB rfl) ?_
 refine zm rfl rfl (fun c4=>zp.step (zS (k:=0) (o:=0) (m:=10) Tryz.isAgg51 Tryz.sizeOf51 rfl rfl rfl rfl rfl))<|zR h fun x3 w3 h=>zCy (g:=13) (s:=(decide (x1=0))&&x2) (r':=(ls cI x3)) rfl rfl (fun c5=>⟨95,_,_,[],[(AV.agg (zO C))],[(AV.agg (zO C))],(AV.osl 3 1 (List.map cI x3)),[],Tryz.func95,rfl,by kernel_rfl,.fn 95,(zAM (z6 rfl c5) rfl),⟨zAs.nr rfl,trivial⟩,zJd (zGm c5 w3),.inl rfl,(congrArg (AV.sl false) (zAL (fun _=>rfl)))⟩)<|zm rfl rfl (fun c6=>zp.step (zB rfl))<|zM h fun b1 h=>zm rfl rfl (fun c7=>zp.step (zT Tryz.underlying22 Tryz.sizeOf3 (fun _=>rfl) (z6 rfl c7) (z6 rfl c7) (zGy b1 c7))) ?_
 refine zm rfl rfl (fun c8=>zp.step (zU (o:=0) Tryz.isAgg3 (z6 rfl c8) rfl))<|zm rfl rfl (fun c9=>zp.step (zAh (z6 rfl c9) rfl))<|zA (zx (j := .lit undef) rfl rfl)<|zA (zD rfl)<|zF<|zd ?_
 cases h
 exact zu (zAH rfl rfl)
theorem zLQ {A:zJ} {r:Int} (h:zF0 A=some r):PFn Tryz.prog 97 [(AV.agg (zI A))] (li r):=by
 refine zo Tryz.func97 rfl Tryz.ntmps97 Tryz.results97 rfl ?_
 unfold zF0 at h
 refine zH<|zC<|za (H':=[.box 26 (zI A)]) (zv (t:=26) rfl)<|zA (zD rfl)<|zF<|zH ?_
 refine zC<|zM h fun b1 h=>zEa (f:=cB) (a:=256) (c:=256) (d0:=false) zW8 ⟨zAt.refl _,trivial⟩ rfl Tryz.underlying121 rfl rfl b1<|zA (zD rfl)<|zF ?_
 refine zt (r:=r) (fun (_:Unit)=>mkE []) (fun _=>[]) (fun _=>zF5 ) ?_ ?_
 ·
  refine zH<|zC<|zA (zD rfl)<|zF<|zQ<|zq (σ:=Int×(List Bool)) (fun (i1,l1)=>mkE [(1,(AV.ptr 0 0)),(3,(AV.hd 1)),(4,(li i1))]) (fun (i1,l1)=>[.box 26 (zI A),.vec 4 1 (List.map cB l1)]) (fun n0 (i1,l1)=>zAP A n0 i1 l1) (0,(List.replicate (256:Int).toNat false)) h (fun _=>rfl) (z9 [0,1] rfl rfl (by kernel_rfl)) ?_
  clear h
  rintro n0 ⟨i1,l1⟩ h
  replace h:zBh A (zAP A n0) i1 l1=some r:=h
  unfold zBh at h
  refine zH<|zH<|zC<|zA (zB rfl)<|zA (zK Tryz.underlying26 rfl rfl Tryz.sizeOf24 rfl)<|zA (zN Tryz.isAgg24 rfl rfl rfl rfl) ?_
  refine zA (zV Tryz.underlying24 rfl)<|zA (zf rfl rfl)<|zF ?_
  refine zX h rfl (fun b2 h => ?_) (fun b2 h => ?_)
  ·refine zP ?_
   refine zt (r:=r) (fun (l2:List Bool)=>mkE [(1,(AV.ptr 0 0)),(3,(AV.hd 1)),(4,(li i1))]) (fun l2=>[.box 26 (zI A),.vec 4 1 (List.map cB l2)]) (fun l2=>zEO (zAP A n0) i1 l2) ?_ ?_
   ·
    refine zQ<|zH<|zC<|zA (zD rfl)<|zF<|zQ ?_
    refine zq (σ:=Int×(List Bool)) (fun (i2,l3)=>mkE [(1,(AV.ptr 0 0)),(3,(AV.hd 1)),(4,(li i1)),(5,(li i2))]) (fun (i2,l3)=>[.box 26 (zI A),.vec 4 1 (List.map cB l3)]) (fun n1 (i2,l3)=>zAa (zAP A n0) A i1 n1 i2 l3) (0,l1) h (fun _=>rfl) (z9 [0,1] rfl rfl (by kernel_rfl)) ?_
    clear h
    rintro n1 ⟨i2,l3⟩ h
    replace h:zBj (zAP A n0) A i1 (zAa (zAP A n0) A i1 n1) i2 l3=some r:=h
    unfold zBj at h
    refine zH<|zH<|zC<|zA (zB rfl)<|zA (zK Tryz.underlying26 rfl rfl Tryz.sizeOf23 rfl)<|zA (zN Tryz.isAgg23 rfl rfl rfl rfl) ?_
    refine zA (zV Tryz.underlying23 rfl)<|zA (zf rfl rfl)<|zF ?_
    refine zX h rfl (fun b4 h => ?_) (fun b4 h => ?_)
    ·refine zP ?_
     refine zt (r:=r) (fun (l4:List Bool)=>mkE [(1,(AV.ptr 0 0)),(3,(AV.hd 1)),(4,(li i1)),(5,(li i2))]) (fun l4=>[.box 26 (zI A),.vec 4 1 (List.map cB l4)]) (fun l4=>zEQ (zAa (zAP A n0) A i1 n1) i2 l4) ?_ ?_
     ·
      refine zQ<|zH<|zC<|zA (zK Tryz.underlying26 rfl rfl Tryz.sizeOf24 rfl)<|zA (zN Tryz.isAgg24 rfl rfl rfl rfl)<|zA (zB rfl) ?_
      refine zM h fun b6 h=>zA (zT Tryz.underlying24 Tryz.sizeOf55 (fun _=>rfl) rfl rfl b6)<|zA (zAx (row:=(zG (at_ A.caches i1))) (o:=0) (off:=0) Tryz.underlying55 rfl rfl Tryz.sizeOf53 rfl)<|zA (zU (o:=0) Tryz.isAgg53 rfl rfl)<|zA (zB rfl)<|zM h fun b7 h => ?_
      refine zA (zT Tryz.underlying53 Tryz.sizeOf22 (fun _=>rfl) rfl rfl b7)<|zA (zU (o:=0) Tryz.isAgg22 rfl rfl)<|zA (zD rfl)<|zF<|zH<|zC ?_
      refine zA (zD rfl)<|zF<|zQ<|zq (σ:=Int×(List Bool)) (fun (i3,l5)=>mkE [(1,(AV.ptr 0 0)),(3,(AV.hd 1)),(4,(li i1)),(5,(li i2)),(6,(ls cI (at_ ((at_ A.caches i1).lists) i2))),(7,(li i3))]) (fun (i3,l5)=>[.box 26 (zI A),.vec 4 1 (List.map cB l5)]) (fun n2 (i3,l5)=>zCT (zAa (zAP A n0) A i1 n1) A i1 i2 n2 i3 l5) (0,l3) h (fun _=>rfl) (z9 [0,1] rfl rfl (by kernel_rfl)) ?_
      clear h
      rintro n2 ⟨i3,l5⟩ h
      replace h:zBk (zAa (zAP A n0) A i1 n1) A i1 i2 (zCT (zAa (zAP A n0) A i1 n1) A i1 i2 n2) i3 l5=some r:=h
      unfold zBk at h
      refine zH<|zH<|zC<|zA (zB rfl)<|zA (zB rfl)<|zA (zV Tryz.underlying22 rfl) ?_
      refine zA (zf rfl rfl)<|zF ?_
      refine zX h rfl (fun b8 h => ?_) (fun b8 h => ?_)
      ·refine zP<|zH<|zQ<|zH<|zH<|zM h fun b9 h => ?_
       refine zM h fun b10 h=>zM h fun b11 h => ?_
       refine zAl (n:=94) (m:=0) [.head 0 0,.head 0 0,.head 0 0,.head 0 0,.head 0 0,.head 0 0,.head 0 0,.head 0 0,.head 0 0,.head 0 0,.head 0 0,.head 0 0,.head 0 0,.head 0 0,.head 0 0,.head 0 0,.head 0 0,.head 0 0,.head 0 0,.head 0 0,.head 0 0,.head 0 0,.head 0 0,.head 0 0,.head 0 0,.head 0 0,.head 0 0,.head 0 0,.head 0 0,.head 0 0,.head 0 0] [] [(ls cI (at_ ((at_ A.caches i1).lists) i2)),li i3,(AV.rp (cI (at_ (at_ ((at_ A.caches i1).lists) i2) i3)) 0),(li (at_ (at_ ((at_ A.caches i1).lists) i2) i3)),AV.ptr 0 3,ls zO A.zones,li i2,(AV.rp (zO (at_ A.zones i2)) 0),(AV.rp (zO (at_ A.zones i2)) 2),(li ((at_ A.zones i2).start)),(AV.lit (.bool (decide ((at_ (at_ ((at_ A.caches i1).lists) i2) i3)<((at_ A.zones i2).start))))),(AV.lit (.bool (decide ((at_ (at_ ((at_ A.caches i1).lists) i2) i3)<((at_ A.zones i2).start))))),(bif !(decide ((at_ (at_ ((at_ A.caches i1).lists) i2) i3)<((at_ A.zones i2).start))) then (ls cI (at_ ((at_ A.caches i1).lists) i2)) else .lit undef),(bif !(decide ((at_ (at_ ((at_ A.caches i1).lists) i2) i3)<((at_ A.zones i2).start))) then (li i3) else .lit undef),(bif !(decide ((at_ (at_ ((at_ A.caches i1).lists) i2) i3)<((at_ A.zones i2).start))) then (AV.rp (cI (at_ (at_ ((at_ A.caches i1).lists) i2) i3)) 0) else .lit undef),(bif !(decide ((at_ (at_ ((at_ A.caches i1).lists) i2) i3)<((at_ A.zones i2).start))) then (li (at_ (at_ ((at_ A.caches i1).lists) i2) i3)) else .lit undef),(bif !(decide ((at_ (at_ ((at_ A.caches i1).lists) i2) i3)<((at_ A.zones i2).start))) then (AV.ptr 0 3) else .lit undef),(bif !(decide ((at_ (at_ ((at_ A.caches i1).lists) i2) i3)<((at_ A.zones i2).start))) then (ls zO A.zones) else .lit undef),(bif !(decide ((at_ (at_ ((at_ A.caches i1).lists) i2) i3)<((at_ A.zones i2).start))) then (li i2) else .lit undef),(bif !(decide ((at_ (at_ ((at_ A.caches i1).lists) i2) i3)<((at_ A.zones i2).start))) then (AV.rp (zO (at_ A.zones i2)) 0) else .lit undef),(bif !(decide ((at_ (at_ ((at_ A.caches i1).lists) i2) i3)<((at_ A.zones i2).start))) then (AV.rp (zO (at_ A.zones i2)) 2) else .lit undef),(bif !(decide ((at_ (at_ ((at_ A.caches i1).lists) i2) i3)<((at_ A.zones i2).start))) then (li ((at_ A.zones i2).start)) else .lit undef),(bif !(decide ((at_ (at_ ((at_ A.caches i1).lists) i2) i3)<((at_ A.zones i2).start))) then (AV.ptr 0 3) else .lit undef),(bif !(decide ((at_ (at_ ((at_ A.caches i1).lists) i2) i3)<((at_ A.zones i2).start))) then (ls zO A.zones) else .lit undef),(bif !(decide ((at_ (at_ ((at_ A.caches i1).lists) i2) i3)<((at_ A.zones i2).start))) then (li i2) else .lit undef),(bif !(decide ((at_ (at_ ((at_ A.caches i1).lists) i2) i3)<((at_ A.zones i2).start))) then (AV.rp (zO (at_ A.zones i2)) 0) else .lit undef),(bif !(decide ((at_ (at_ ((at_ A.caches i1).lists) i2) i3)<((at_ A.zones i2).start))) then (AV.rp (zO (at_ A.zones i2)) 3) else .lit undef),(bif !(decide ((at_ (at_ ((at_ A.caches i1).lists) i2) i3)<((at_ A.zones i2).start))) then (li ((at_ A.zones i2).count)) else .lit undef),(bif !(decide ((at_ (at_ ((at_ A.caches i1).lists) i2) i3)<((at_ A.zones i2).start))) then (li (((at_ A.zones i2).start)+((at_ A.zones i2).count))) else .lit undef),(bif !(decide ((at_ (at_ ((at_ A.caches i1).lists) i2) i3)<((at_ A.zones i2).start))) then (AV.lit (.bool (decide ((((at_ A.zones i2).start)+((at_ A.zones i2).count))≤(at_ (at_ ((at_ A.caches i1).lists) i2) i3))))) else .lit undef),(AV.lit (.bool ((decide ((at_ (at_ ((at_ A.caches i1).lists) i2) i3)<((at_ A.zones i2).start)))||(decide ((((at_ A.zones i2).start)+((at_ A.zones i2).count))≤(at_ (at_ ((at_ A.caches i1).lists) i2) i3))))))] [[.box 26 (zI A),.vec 4 1 (List.map cB l5)]] (by kernel_rfl) (by kernel_rfl) ⟨D1 fun e s p=>zB (s 6 rfl),D1 fun e s p=>zB (s 7 rfl),D1 fun e s p=>zT (f:=cI) (l:=at_ ((at_ A.caches i1).lists) i2) (i:=i3) Tryz.underlying22 Tryz.sizeOf3 (fun _=>rfl) p.1 p.2.1 b9,D1 fun e s p=>zU (o:=0) Tryz.isAgg3 p.1 rfl,D1 fun e s p=>zK (k:=0) (o:=0) (off:=3) Tryz.underlying26 rfl rfl Tryz.sizeOf23 (s 1 rfl),D1 fun e s p=>zN (k:=0) (o:=3) Tryz.isAgg23 p.1 rfl rfl rfl,D1 fun e s p=>zB (s 5 rfl),D1 fun e s p=>zT (f:=zO) (l:=A.zones) (i:=i2) Tryz.underlying23 Tryz.sizeOf51 (fun _=>rfl) p.1 p.2.1 b10,D1 fun e s p=>zAx (row:=(zO (at_ A.zones i2))) (o:=0) (off:=2) Tryz.underlying51 rfl rfl Tryz.sizeOf3 p.1,D1 fun e s p=>zU (o:=2) Tryz.isAgg3 p.1 rfl,D1 fun e s p=>zf (a:=at_ (at_ ((at_ A.caches i1).lists) i2) i3) (b:=(at_ A.zones i2).start) p.1 p.2.1,D1 fun e s p=>zB p.1,?_,?_,?_,?_,?_,?_,?_,?_,?_,?_,?_,?_,?_,?_,?_,?_,?_,?_,D1 fun e s p=>zg (s:=decide ((at_ (at_ ((at_ A.caches i1).lists) i2) i3)<((at_ A.zones i2).start))) (q:=decide ((((at_ A.zones i2).start)+((at_ A.zones i2).count))≤(at_ (at_ ((at_ A.caches i1).lists) i2) i3))) (j := .lit undef) p.1 p.2.1,trivial⟩ ?_
       ·
        intro e13 s13 p13
        refine zW (g:=49) (s:=decide ((at_ (at_ ((at_ A.caches i1).lists) i2) i3)<((at_ A.zones i2).start))) rfl p13.1 (fun c19=>zp.step (zB (av:=(ls cI (at_ ((at_ A.caches i1).lists) i2))) (s13 6 rfl))) ?_
        exact zF ⟨fun _=>rfl,rfl⟩
       ·
        intro e14 s14 p14
        refine zW (g:=49) (s:=decide ((at_ (at_ ((at_ A.caches i1).lists) i2) i3)<((at_ A.zones i2).start))) rfl p14.1 (fun c20=>zp.step (zB (av:=(li i3)) (s14 7 rfl))) ?_
        exact zF ⟨fun _=>rfl,rfl⟩
       ·
        intro e15 s15 p15
        refine zW (g:=49) (s:=decide ((at_ (at_ ((at_ A.caches i1).lists) i2) i3)<((at_ A.zones i2).start))) rfl p15.2.2.1 (fun c21=>zp.step (zT (f:=cI) (l:=at_ ((at_ A.caches i1).lists) i2) (i:=i3) Tryz.underlying22 Tryz.sizeOf3 (fun _=>rfl) (z6 p15.1 c21) (z6 p15.2.1 c21) b9)) ?_
        exact zF ⟨fun _=>rfl,rfl⟩
       ·
        intro e16 s16 p16
        refine zW (g:=49) (s:=decide ((at_ (at_ ((at_ A.caches i1).lists) i2) i3)<((at_ A.zones i2).start))) rfl p16.2.1 (fun c22=>zp.step (zU (row:=(cI (at_ (at_ ((at_ A.caches i1).lists) i2) i3))) (o:=0) (a:=(li (at_ (at_ ((at_ A.caches i1).lists) i2) i3))) Tryz.isAgg3 (z6 p16.1 c22) rfl)) ?_
        exact zF ⟨fun _=>rfl,rfl⟩
       ·
        intro e17 s17 p17
        refine zW (g:=49) (s:=decide ((at_ (at_ ((at_ A.caches i1).lists) i2) i3)<((at_ A.zones i2).start))) rfl p17.1 (fun c23=>zp.step (zK (k:=0) (o:=0) (off:=3) Tryz.underlying26 rfl rfl Tryz.sizeOf23 (s17 1 rfl))) ?_
        exact zF ⟨fun _=>rfl,rfl⟩
       ·
        intro e18 s18 p18
        refine zW (g:=49) (s:=decide ((at_ (at_ ((at_ A.caches i1).lists) i2) i3)<((at_ A.zones i2).start))) rfl p18.2.1 (fun c24=>zp.step (zN (k:=0) (o:=3) (a:=(ls zO A.zones)) Tryz.isAgg23 (z6 p18.1 c24) rfl rfl rfl)) ?_
        exact zF ⟨fun _=>rfl,rfl⟩
       ·
        intro e19 s19 p19
        refine zW (g:=49) (s:=decide ((at_ (at_ ((at_ A.caches i1).lists) i2) i3)<((at_ A.zones i2).start))) rfl p19.1 (fun c25=>zp.step (zB (av:=(li i2)) (s19 5 rfl))) ?_
        exact zF ⟨fun _=>rfl,rfl⟩
       ·
        intro e20 s20 p20
        refine zW (g:=49) (s:=decide ((at_ (at_ ((at_ A.caches i1).lists) i2) i3)<((at_ A.zones i2).start))) rfl p20.2.2.1 (fun c26=>zp.step (zT (f:=zO) (l:=A.zones) (i:=i2) Tryz.underlying23 Tryz.sizeOf51 (fun _=>rfl) (z6 p20.1 c26) (z6 p20.2.1 c26) b10)) ?_
        exact zF ⟨fun _=>rfl,rfl⟩
       ·
        intro e21 s21 p21
        refine zW (g:=49) (s:=decide ((at_ (at_ ((at_ A.caches i1).lists) i2) i3)<((at_ A.zones i2).start))) rfl p21.2.1 (fun c27=>zp.step (zAx (row:=(zO (at_ A.zones i2))) (o:=0) (off:=2) Tryz.underlying51 rfl rfl Tryz.sizeOf3 (z6 p21.1 c27))) ?_
        exact zF ⟨fun _=>rfl,rfl⟩
       ·
        intro e22 s22 p22
        refine zW (g:=49) (s:=decide ((at_ (at_ ((at_ A.caches i1).lists) i2) i3)<((at_ A.zones i2).start))) rfl p22.2.1 (fun c28=>zp.step (zU (row:=(zO (at_ A.zones i2))) (o:=2) (a:=(li ((at_ A.zones i2).start))) Tryz.isAgg3 (z6 p22.1 c28) rfl)) ?_
        exact zF ⟨fun _=>rfl,rfl⟩
       ·
        intro e23 s23 p23
        refine zW (g:=49) (s:=decide ((at_ (at_ ((at_ A.caches i1).lists) i2) i3)<((at_ A.zones i2).start))) rfl p23.1 (fun c29=>zp.step (zK (k:=0) (o:=0) (off:=3) Tryz.underlying26 rfl rfl Tryz.sizeOf23 (s23 1 rfl))) ?_
        exact zF ⟨fun _=>rfl,rfl⟩
       ·
        intro e24 s24 p24
        refine zW (g:=49) (s:=decide ((at_ (at_ ((at_ A.caches i1).lists) i2) i3)<((at_ A.zones i2).start))) rfl p24.2.1 (fun c30=>zp.step (zN (k:=0) (o:=3) (a:=(ls zO A.zones)) Tryz.isAgg23 (z6 p24.1 c30) rfl rfl rfl)) ?_
        exact zF ⟨fun _=>rfl,rfl⟩
       ·
        intro e25 s25 p25
        refine zW (g:=49) (s:=decide ((at_ (at_ ((at_ A.caches i1).lists) i2) i3)<((at_ A.zones i2).start))) rfl p25.1 (fun c31=>zp.step (zB (av:=(li i2)) (s25 5 rfl))) ?_
        exact zF ⟨fun _=>rfl,rfl⟩
       ·
        intro e26 s26 p26
        refine zW (g:=49) (s:=decide ((at_ (at_ ((at_ A.caches i1).lists) i2) i3)<((at_ A.zones i2).start))) rfl p26.2.2.1 (fun c32=>zp.step (zT (f:=zO) (l:=A.zones) (i:=i2) Tryz.underlying23 Tryz.sizeOf51 (fun _=>rfl) (z6 p26.1 c32) (z6 p26.2.1 c32) b10)) ?_
        exact zF ⟨fun _=>rfl,rfl⟩
       ·
        intro e27 s27 p27
        refine zW (g:=49) (s:=decide ((at_ (at_ ((at_ A.caches i1).lists) i2) i3)<((at_ A.zones i2).start))) rfl p27.2.1 (fun c33=>zp.step (zAx (row:=(zO (at_ A.zones i2))) (o:=0) (off:=3) Tryz.underlying51 rfl rfl Tryz.sizeOf3 (z6 p27.1 c33))) ?_
        exact zF ⟨fun _=>rfl,rfl⟩
       ·
        intro e28 s28 p28
        refine zW (g:=49) (s:=decide ((at_ (at_ ((at_ A.caches i1).lists) i2) i3)<((at_ A.zones i2).start))) rfl p28.2.1 (fun c34=>zp.step (zU (row:=(zO (at_ A.zones i2))) (o:=3) (a:=(li ((at_ A.zones i2).count))) Tryz.isAgg3 (z6 p28.1 c34) rfl)) ?_
        exact zF ⟨fun _=>rfl,rfl⟩
       ·
        intro e29 s29 p29
        refine zW (g:=49) (s:=decide ((at_ (at_ ((at_ A.caches i1).lists) i2) i3)<((at_ A.zones i2).start))) rfl p29.2.2.1 (fun c35=>zp.step (ze (a:=(at_ A.zones i2).start) (b:=(at_ A.zones i2).count) (z6 p29.1 c35) (z6 p29.2.1 c35) (zGy b11 c35))) ?_
        exact zF ⟨fun _=>rfl,rfl⟩
       ·
        intro e30 s30 p30
        refine zW (g:=49) (s:=decide ((at_ (at_ ((at_ A.caches i1).lists) i2) i3)<((at_ A.zones i2).start))) rfl p30.2.2.1 (fun c36=>zp.step (zAw (a:=at_ (at_ ((at_ A.caches i1).lists) i2) i3) (b:=((at_ A.zones i2).start)+((at_ A.zones i2).count)) (z6 p30.1 c36) (z6 p30.2.1 c36))) ?_
        exact zF ⟨fun _=>rfl,rfl⟩
       intro e32 s32 hq1
       refine zAT (zBM (l:=[(1,(AV.ptr 0 0)),(3,(AV.hd 1)),(4,(li i1)),(5,(li i2)),(6,(ls cI (at_ ((at_ A.caches i1).lists) i2))),(7,(li i3)),(68,(AV.lit (.bool ((decide ((at_ (at_ ((at_ A.caches i1).lists) i2) i3)<((at_ A.zones i2).start)))||(decide ((((at_ A.zones i2).start)+((at_ A.zones i2).count))≤(at_ (at_ ((at_ A.caches i1).lists) i2) i3)))))))]) ⟨s32 1 rfl,s32 3 rfl,s32 4 rfl,s32 5 rfl,s32 6 rfl,s32 7 rfl,(hq1 30 (by decide) (by decide)),trivial⟩) ?_
       refine zX h rfl (fun b12 h => ?_) (fun b12 h => ?_)
       ·refine zH<|zC<|zA (zD rfl)<|zF<|zd ?_
        cases h
        exact zu (zAH rfl rfl)
       refine zP<|zH<|zH<|zM h fun b13 h=>zR h fun x1 w1 h => ?_
       refine zAl (n:=94) (m:=0) [.head 0 0,.head 0 0,.head 0 0,.head 0 0,.head 0 0,.head 0 0,.head 0 0,.head 0 0,.head 0 0,.head 0 0,.head 0 0,.head 0 0,.head 0 0,.head 0 0,.head 0 0,.head 0 0,.head 0 0,.head 0 0,.head 0 0] [] [AV.hd 1,(ls cI (at_ ((at_ A.caches i1).lists) i2)),li i3,(AV.rp (cI (at_ (at_ ((at_ A.caches i1).lists) i2) i3)) 0),(li (at_ (at_ ((at_ A.caches i1).lists) i2) i3)),(AV.ptr 1 ((at_ (at_ ((at_ A.caches i1).lists) i2) i3).toNat*1)),(AV.lit (.bool (at_ l5 (at_ (at_ ((at_ A.caches i1).lists) i2) i3)))),(AV.lit (.bool (at_ l5 (at_ (at_ ((at_ A.caches i1).lists) i2) i3)))),(bif !(at_ l5 (at_ (at_ ((at_ A.caches i1).lists) i2) i3)) then (AV.ptr 0 3) else .lit undef),(bif !(at_ l5 (at_ (at_ ((at_ A.caches i1).lists) i2) i3)) then (ls zO A.zones) else .lit undef),(bif !(at_ l5 (at_ (at_ ((at_ A.caches i1).lists) i2) i3)) then (li i2) else .lit undef),(bif !(at_ l5 (at_ (at_ ((at_ A.caches i1).lists) i2) i3)) then (AV.rp (zO (at_ A.zones i2)) 0) else .lit undef),(bif !(at_ l5 (at_ (at_ ((at_ A.caches i1).lists) i2) i3)) then (AV.agg (zO (at_ A.zones i2))) else .lit undef),(bif !(at_ l5 (at_ (at_ ((at_ A.caches i1).lists) i2) i3)) then (ls cI (at_ ((at_ A.caches i1).lists) i2)) else .lit undef),(bif !(at_ l5 (at_ (at_ ((at_ A.caches i1).lists) i2) i3)) then (li i3) else .lit undef),(bif !(at_ l5 (at_ (at_ ((at_ A.caches i1).lists) i2) i3)) then (AV.rp (cI (at_ (at_ ((at_ A.caches i1).lists) i2) i3)) 0) else .lit undef),(bif !(at_ l5 (at_ (at_ ((at_ A.caches i1).lists) i2) i3)) then (li (at_ (at_ ((at_ A.caches i1).lists) i2) i3)) else .lit undef),(bif !(at_ l5 (at_ (at_ ((at_ A.caches i1).lists) i2) i3)) then (AV.lit (.bool x1)) else .lit undef),(AV.lit (.bool ((at_ l5 (at_ (at_ ((at_ A.caches i1).lists) i2) i3))||x1)))] [[.box 26 (zI A),.vec 4 1 (List.map cB l5)]] (by kernel_rfl) (by kernel_rfl) ⟨D1 fun e s p=>zB (s 3 rfl),D1 fun e s p=>zB (s 6 rfl),D1 fun e s p=>zB (s 7 rfl),D1 fun e s p=>zT (f:=cI) (l:=at_ ((at_ A.caches i1).lists) i2) (i:=i3) Tryz.underlying22 Tryz.sizeOf3 (fun _=>rfl) p.1 p.2.1 b9,D1 fun e s p=>zU (o:=0) Tryz.isAgg3 p.1 rfl,D1 fun e s p=>zy (f:=cB) (l:=l5) (i:=at_ (at_ ((at_ A.caches i1).lists) i2) i3) Tryz.underlying121 Tryz.sizeOf4 p.1 rfl p.2.1 b13,D1 fun e s p=>zAq (f:=cB) (l:=l5) (i:=at_ (at_ ((at_ A.caches i1).lists) i2) i3) (c:=0) (a:=(AV.lit (.bool (at_ l5 (at_ (at_ ((at_ A.caches i1).lists) i2) i3))))) Tryz.isAgg4 p.1 rfl (by first | rfl | omega) b13 rfl rfl,D1 fun e s p=>zB p.1,?_,?_,?_,?_,?_,?_,?_,?_,?_,?_,D1 fun e s p=>zg (s:=at_ l5 (at_ (at_ ((at_ A.caches i1).lists) i2) i3)) (q:=x1) (j := .lit undef) p.1 p.2.1,trivial⟩ ?_
       ·
        intro e41 s41 p40
        refine zW (g:=76) (s:=at_ l5 (at_ (at_ ((at_ A.caches i1).lists) i2) i3)) rfl p40.1 (fun c47=>zp.step (zK (k:=0) (o:=0) (off:=3) Tryz.underlying26 rfl rfl Tryz.sizeOf23 (s41 1 rfl))) ?_
        exact zF ⟨fun _=>rfl,rfl⟩
       ·
        intro e42 s42 p41
        refine zW (g:=76) (s:=at_ l5 (at_ (at_ ((at_ A.caches i1).lists) i2) i3)) rfl p41.2.1 (fun c48=>zp.step (zN (k:=0) (o:=3) (a:=(ls zO A.zones)) Tryz.isAgg23 (z6 p41.1 c48) rfl rfl rfl)) ?_
        exact zF ⟨fun _=>rfl,rfl⟩
       ·
        intro e43 s43 p42
        refine zW (g:=76) (s:=at_ l5 (at_ (at_ ((at_ A.caches i1).lists) i2) i3)) rfl p42.1 (fun c49=>zp.step (zB (av:=(li i2)) (s43 5 rfl))) ?_
        exact zF ⟨fun _=>rfl,rfl⟩
       ·
        intro e44 s44 p43
        refine zW (g:=76) (s:=at_ l5 (at_ (at_ ((at_ A.caches i1).lists) i2) i3)) rfl p43.2.2.1 (fun c50=>zp.step (zT (f:=zO) (l:=A.zones) (i:=i2) Tryz.underlying23 Tryz.sizeOf51 (fun _=>rfl) (z6 p43.1 c50) (z6 p43.2.1 c50) b10)) ?_
        exact zF ⟨fun _=>rfl,rfl⟩
       ·
        intro e45 s45 p44
        refine zW (g:=76) (s:=at_ l5 (at_ (at_ ((at_ A.caches i1).lists) i2) i3)) rfl p44.2.1 (fun c51=>zp.step (zAi (row:=(zO (at_ A.zones i2))) (o:=0) (m:=10) (la:=(zO (at_ A.zones i2))) Tryz.isAgg51 Tryz.sizeOf51 (z6 p44.1 c51) rfl rfl)) ?_
        exact zF ⟨fun _=>rfl,rfl⟩
       ·
        intro e46 s46 p45
        refine zW (g:=76) (s:=at_ l5 (at_ (at_ ((at_ A.caches i1).lists) i2) i3)) rfl p45.1 (fun c52=>zp.step (zB (av:=(ls cI (at_ ((at_ A.caches i1).lists) i2))) (s46 6 rfl))) ?_
        exact zF ⟨fun _=>rfl,rfl⟩
       ·
        intro e47 s47 p46
        refine zW (g:=76) (s:=at_ l5 (at_ (at_ ((at_ A.caches i1).lists) i2) i3)) rfl p46.1 (fun c53=>zp.step (zB (av:=(li i3)) (s47 7 rfl))) ?_
        exact zF ⟨fun _=>rfl,rfl⟩
       ·
        intro e48 s48 p47
        refine zW (g:=76) (s:=at_ l5 (at_ (at_ ((at_ A.caches i1).lists) i2) i3)) rfl p47.2.2.1 (fun c54=>zp.step (zT (f:=cI) (l:=at_ ((at_ A.caches i1).lists) i2) (i:=i3) Tryz.underlying22 Tryz.sizeOf3 (fun _=>rfl) (z6 p47.1 c54) (z6 p47.2.1 c54) b9)) ?_
        exact zF ⟨fun _=>rfl,rfl⟩
       ·
        intro e49 s49 p48
        refine zW (g:=76) (s:=at_ l5 (at_ (at_ ((at_ A.caches i1).lists) i2) i3)) rfl p48.2.1 (fun c55=>zp.step (zU (row:=(cI (at_ (at_ ((at_ A.caches i1).lists) i2) i3))) (o:=0) (a:=(li (at_ (at_ ((at_ A.caches i1).lists) i2) i3))) Tryz.isAgg3 (z6 p48.1 c55) rfl)) ?_
        exact zF ⟨fun _=>rfl,rfl⟩
       ·
        intro e50 s50 p49
        refine zCv (g:=76) (s:=at_ l5 (at_ (at_ ((at_ A.caches i1).lists) i2) i3)) (r':=(AV.lit (.bool x1))) rfl p49.2.2.2.1 (fun c56=>⟨98,_,_,[],[(AV.agg (zO (at_ A.zones i2))),(li (at_ (at_ ((at_ A.caches i1).lists) i2) i3))],[(AV.agg (zO (at_ A.zones i2))),(li (at_ (at_ ((at_ A.caches i1).lists) i2) i3))],(AV.lit (.bool x1)),[],Tryz.func98,rfl,by kernel_rfl,.fn 98,(zAM (z6 p49.1 c56) (zAM (z6 p49.2.1 c56) rfl)),⟨zAs.nr rfl,zAs.nr rfl,trivial⟩,zNW (zGm c56 w1),.inl rfl,rfl⟩) ?_
        exact zF ⟨fun _=>rfl,rfl⟩
       intro e52 s52 hq2
       refine zAT (zBM (l:=[(1,(AV.ptr 0 0)),(3,(AV.hd 1)),(4,(li i1)),(5,(li i2)),(6,(ls cI (at_ ((at_ A.caches i1).lists) i2))),(7,(li i3)),(87,(AV.lit (.bool ((at_ l5 (at_ (at_ ((at_ A.caches i1).lists) i2) i3))||x1))))]) ⟨s52 1 rfl,s52 3 rfl,s52 4 rfl,s52 5 rfl,s52 6 rfl,s52 7 rfl,(hq2 18 (by decide) (by decide)),trivial⟩) ?_
       refine zX h rfl (fun b14 h => ?_) (fun b14 h => ?_)
       ·refine zH<|zC<|zA (zD rfl)<|zF<|zd ?_
        cases h
        exact zu (zAH rfl rfl)
       refine zP<|zC<|zA (zB rfl)<|zA (zB rfl)<|zA (zB rfl)<|zA (zT Tryz.underlying22 Tryz.sizeOf3 (fun _=>rfl) rfl rfl b9) ?_
       refine zA (zU (o:=0) Tryz.isAgg3 rfl rfl)<|zA (zy (f:=cB) (l:=l5) (i:=at_ (at_ ((at_ A.caches i1).lists) i2) i3) Tryz.underlying121 Tryz.sizeOf4 rfl rfl rfl b13)<|zj (H':=[.box 26 (zI A),.vec 4 1 (List.map cB (l5.set (at_ (at_ ((at_ A.caches i1).lists) i2) i3).toNat true))]) (zBt (k:=1) (o:=((at_ (at_ ((at_ A.caches i1).lists) i2) i3).toNat*1)) (f:=cB) (l:=l5) (i:=at_ (at_ ((at_ A.caches i1).lists) i2) i3) (c:=0) (a:=(AV.lit (.bool true))) (z:=true) Tryz.sizeOf4 rfl rfl (by first | rfl | omega) b13 rfl rfl rfl rfl rfl)<|zF<|zC<|zA (zB rfl) ?_
       refine zM h fun b15 h=>zA (ze rfl rfl b15)<|zA (zD rfl)<|zF ?_
       exact ⟨((i3+1),(l5.set (at_ (at_ ((at_ A.caches i1).lists) i2) i3).toNat true)),z9 [0,1] rfl rfl (by kernel_rfl),h⟩
      refine zw ?_
      exact ⟨l5,z9 [0,1] rfl rfl (by kernel_rfl),h⟩
     clear h
     intro l4 h
     unfold zEQ at h
     refine zC<|zA (zB rfl)<|zM h fun b5 h=>zA (ze rfl rfl b5)<|zA (zD rfl)<|zF ?_
     exact ⟨((i2+1),l4),z9 [0,1] rfl rfl (by kernel_rfl),h⟩
    refine zw ?_
    exact ⟨l3,z9 [0,1] rfl rfl (by kernel_rfl),h⟩
   clear h
   intro l2 h
   unfold zEO at h
   refine zC<|zA (zB rfl)<|zM h fun b3 h=>zA (ze rfl rfl b3)<|zA (zD rfl)<|zF ?_
   exact ⟨((i1+1),l2),z9 [0,1] rfl rfl (by kernel_rfl),h⟩
  refine zw ?_
  exact ⟨(),z9 [] rfl rfl (by kernel_rfl),h⟩
 clear h
 intro _ h
 unfold zF5 at h
 refine zH<|zC<|zA (zD rfl)<|zF<|zd ?_
 cases h
 exact zu (zAH rfl rfl)
theorem zLS {B:zJ} {r:Int} (h:zFw B=some r):PFn Tryz.prog 48 [(AV.agg (zI B))] (li r):=by
 refine zo Tryz.func48 rfl Tryz.ntmps48 Tryz.results48 rfl ?_
 unfold zFw at h
 refine zH<|zC<|za (H':=[.box 26 (zI B)]) (zv (t:=26) rfl)<|zA (zD rfl)<|zF<|zH ?_
 refine zH<|zC<|zA (zK Tryz.underlying26 rfl rfl Tryz.sizeOf24 rfl)<|zA (zN Tryz.isAgg24 rfl rfl rfl rfl)<|zA (zV Tryz.underlying24 rfl)<|zA (zK Tryz.underlying26 rfl rfl Tryz.sizeOf22 rfl) ?_
 refine zA (zN Tryz.isAgg22 rfl rfl rfl rfl)<|zA (zV Tryz.underlying22 rfl)<|zA (zz rfl rfl)<|zF ?_
 refine zX h rfl (fun b1 h => ?_) (fun b1 h => ?_)
 ·refine zH<|zC<|zA (zD rfl)<|zF<|zd ?_
  cases h
  exact zu (zAH rfl rfl)
 refine zP ?_
 refine zt (r:=r) (fun (_:Unit)=>mkE [(1,(AV.ptr 0 0))]) (fun _=>[.box 26 (zI B)]) (fun _=>zC6 B) ?_ ?_
 ·
  refine zH<|zC<|zA (zD rfl)<|zF<|zQ<|zq (σ:=Int) (fun i1=>mkE [(1,(AV.ptr 0 0)),(3,(li i1))]) (fun i1=>[.box 26 (zI B)]) (fun n0 i1=>zA5 B n0 i1) 0 h (fun _=>rfl) (z9 [0] rfl rfl (by kernel_rfl)) ?_
  clear h
  intro n0 i1 h
  replace h:zBg B (zA5 B n0) i1=some r:=h
  unfold zBg at h
  refine zH<|zH<|zC<|zA (zB rfl)<|zA (zK Tryz.underlying26 rfl rfl Tryz.sizeOf24 rfl)<|zA (zN Tryz.isAgg24 rfl rfl rfl rfl) ?_
  refine zA (zV Tryz.underlying24 rfl)<|zA (zf rfl rfl)<|zF ?_
  refine zX h rfl (fun b2 h => ?_) (fun b2 h => ?_)
  ·refine zP ?_
   refine zt (r:=r) (fun (_:Unit)=>mkE [(1,(AV.ptr 0 0)),(3,(li i1))]) (fun _=>[.box 26 (zI B)]) (fun _=>zES (zA5 B n0) i1) ?_ ?_
   ·
    refine zQ<|zH<|zH<|zM h fun b4 h=>zR h fun x2 w2 h => ?_
    refine zAl (n:=54) (m:=0) [.head 0 0,.head 0 0,.head 0 0,.head 0 0,.head 0 0,.head 0 0,.head 0 0,.head 0 0,.head 0 0,.head 0 0] [] [AV.ptr 0 4,ls zG B.caches,li i1,(AV.rp (zG (at_ B.caches i1)) 0),(AV.agg (zG (at_ B.caches i1))),AV.ptr 0 3,ls zO B.zones,(li (B.zones.length:Int)),li x2,li x2] [[.box 26 (zI B)]] (by kernel_rfl) (by kernel_rfl) ⟨D1 fun e s p=>zK (k:=0) (o:=0) (off:=4) Tryz.underlying26 rfl rfl Tryz.sizeOf24 (s 1 rfl),D1 fun e s p=>zN (k:=0) (o:=4) Tryz.isAgg24 p.1 rfl rfl rfl,D1 fun e s p=>zB (s 3 rfl),D1 fun e s p=>zT (f:=zG) (l:=B.caches) (i:=i1) Tryz.underlying24 Tryz.sizeOf55 (fun _=>rfl) p.1 p.2.1 b4,D1 fun e s p=>zAi (row:=(zG (at_ B.caches i1))) (o:=0) (m:=1) (la:=(zG (at_ B.caches i1))) Tryz.isAgg55 Tryz.sizeOf55 p.1 rfl rfl,D1 fun e s p=>zK (k:=0) (o:=0) (off:=3) Tryz.underlying26 rfl rfl Tryz.sizeOf23 (s 1 rfl),D1 fun e s p=>zN (k:=0) (o:=3) Tryz.isAgg23 p.1 rfl rfl rfl,D1 fun e s p=>zV (f:=zO) (l:=B.zones) Tryz.underlying23 p.1,?_,D1 fun e s p=>zD p.2.2.2.2.2.2.2.2.2.2.1,trivial⟩ ?_
    ·
     intro e9 s9 p9
     refine zh (r:=(li x2)) (la:=[(AV.agg (zG (at_ B.caches i1))),(li (B.zones.length:Int))]) Tryz.func96 rfl (by kernel_rfl) (.fn 96) (zAM p9.1 (zAM p9.2.1 rfl)) rfl (zLb w2) rfl ?_
     exact zF ⟨fun _=>rfl,rfl⟩
    intro e11 s11 hq1
    refine zAT (zBM (l:=[(1,(AV.ptr 0 0)),(3,(li i1)),(4,(li x2))]) ⟨s11 1 rfl,s11 3 rfl,(hq1 9 (by decide) (by decide)),trivial⟩)<|zH<|zC<|zA (zB (av:=(li x2)) rfl)<|zA (zz (a:=x2) (b:=0) rfl rfl)<|zF ?_
    refine zX h rfl (fun b5 h => ?_) (fun b5 h => ?_)
    ·refine zH<|zC<|zA (zB rfl)<|zA (zD rfl)<|zF<|zd ?_
     cases h
     exact zu (zAH rfl rfl)
    refine zP<|zH<|zC<|zA (zD rfl)<|zF<|zQ ?_
    refine zq (σ:=Int) (fun i2=>mkE [(1,(AV.ptr 0 0)),(3,(li i1)),(5,(li i2))]) (fun i2=>[.box 26 (zI B)]) (fun n1 i2=>zC5 (zA5 B n0) B i1 n1 i2) 0 h (fun _=>rfl) (z9 [0] rfl rfl (by kernel_rfl)) ?_
    clear h
    intro n1 i2 h
    replace h:zBi (zA5 B n0) B i1 (zC5 (zA5 B n0) B i1 n1) i2=some r:=h
    unfold zBi at h
    refine zH<|zH<|zC<|zA (zB rfl)<|zA (zK Tryz.underlying26 rfl rfl Tryz.sizeOf23 rfl)<|zA (zN Tryz.isAgg23 rfl rfl rfl rfl) ?_
    refine zA (zV Tryz.underlying23 rfl)<|zA (zf rfl rfl)<|zF ?_
    refine zX h rfl (fun b6 h => ?_) (fun b6 h => ?_)
    ·refine zP<|zH<|zQ<|zH<|zM h fun b7 h=>zM h fun b8 h => ?_
     refine zAl (n:=54) (m:=0) [.head 0 0,.head 0 0,.head 0 0,.head 0 0,.head 0 0,.head 0 0,.head 0 0,.head 0 0,.head 0 0,.head 0 0,.head 0 0,.head 0 0,.head 0 0] [] [AV.ptr 0 4,ls zG B.caches,li i1,(AV.rp (zG (at_ B.caches i1)) 0),(AV.rp (zG (at_ B.caches i1)) 0),(ls (cS cI) ((at_ B.caches i1).lists)),li i2,(AV.rp ((cS cI) (at_ ((at_ B.caches i1).lists) i2)) 0),(ls cI (at_ ((at_ B.caches i1).lists) i2)),(li ((at_ ((at_ B.caches i1).lists) i2).length:Int)),AV.ptr 0 2,li B.high,(AV.lit (.bool (decide (B.high<((at_ ((at_ B.caches i1).lists) i2).length:Int)))))] [[.box 26 (zI B)]] (by kernel_rfl) (by kernel_rfl) ⟨D1 fun e s p=>zK (k:=0) (o:=0) (off:=4) Tryz.underlying26 rfl rfl Tryz.sizeOf24 (s 1 rfl),D1 fun e s p=>zN (k:=0) (o:=4) Tryz.isAgg24 p.1 rfl rfl rfl,D1 fun e s p=>zB (s 3 rfl),D1 fun e s p=>zT (f:=zG) (l:=B.caches) (i:=i1) Tryz.underlying24 Tryz.sizeOf55 (fun _=>rfl) p.1 p.2.1 b7,D1 fun e s p=>zAx (row:=(zG (at_ B.caches i1))) (o:=0) (off:=0) Tryz.underlying55 rfl rfl Tryz.sizeOf53 p.1,D1 fun e s p=>zU (o:=0) Tryz.isAgg53 p.1 rfl,D1 fun e s p=>zB (s 5 rfl),D1 fun e s p=>zT (f:=(cS cI)) (l:=(at_ B.caches i1).lists) (i:=i2) Tryz.underlying53 Tryz.sizeOf22 (fun _=>rfl) p.1 p.2.1 b8,D1 fun e s p=>zU (o:=0) Tryz.isAgg22 p.1 rfl,D1 fun e s p=>zV (f:=cI) (l:=at_ ((at_ B.caches i1).lists) i2) Tryz.underlying22 p.1,D1 fun e s p=>zK (k:=0) (o:=0) (off:=2) Tryz.underlying26 rfl rfl Tryz.sizeOf3 (s 1 rfl),D1 fun e s p=>zN (k:=0) (o:=2) Tryz.isAgg3 p.1 rfl rfl rfl,D1 fun e s p=>zAh (a:=((at_ ((at_ B.caches i1).lists) i2).length:Int)) (b:=B.high) p.1 p.2.1,trivial⟩ ?_
     intro e25 s25 hq2
     refine zAT (zBM (l:=[(1,(AV.ptr 0 0)),(3,(li i1)),(5,(li i2)),(51,(AV.lit (.bool (decide (B.high<((at_ ((at_ B.caches i1).lists) i2).length:Int))))))]) ⟨s25 1 rfl,s25 3 rfl,s25 5 rfl,(hq2 12 (by decide) (by decide)),trivial⟩) ?_
     refine zX h rfl (fun b9 h => ?_) (fun b9 h => ?_)
     ·refine zH<|zC<|zA (zD rfl)<|zF<|zd ?_
      cases h
      exact zu (zAH rfl rfl)
     refine zP<|zC<|zA (zB rfl)<|zM h fun b10 h=>zA (ze rfl rfl b10)<|zA (zD rfl) ?_
     refine zF ?_
     exact ⟨(i2+1),z9 [0] rfl rfl (by kernel_rfl),h⟩
    refine zw ?_
    exact ⟨(),z9 [0] rfl rfl (by kernel_rfl),h⟩
   clear h
   intro _ h
   unfold zES at h
   refine zC<|zA (zB rfl)<|zM h fun b3 h=>zA (ze rfl rfl b3)<|zA (zD rfl)<|zF ?_
   exact ⟨(i1+1),z9 [0] rfl rfl (by kernel_rfl),h⟩
  refine zw ?_
  exact ⟨(),z9 [0] rfl rfl (by kernel_rfl),h⟩
 clear h
 intro _ h
 unfold zC6 at h
 refine zH<|zC<|zA (zS (k:=0) (o:=0) (m:=5) Tryz.isAgg26 Tryz.sizeOf26 rfl rfl rfl rfl rfl)<|zR h fun x1 w1 h=>zh Tryz.func97 rfl (by kernel_rfl) (.fn 97) rfl rfl (zLQ w1) rfl<|zA (zD rfl) ?_
 refine zF<|zd ?_
 cases h
 exact zu (zAH rfl rfl)
theorem zN6 {B:zJ} {r:Int} (h:zJK B=some r):PFn Tryz.prog 14 [(AV.agg (zI B))] (li r):=by
 refine zo Tryz.func14 rfl Tryz.ntmps14 Tryz.results14 rfl ?_
 unfold zJK at h
 refine zH<|zC<|za (H':=[.box 26 (zI B)]) (zv (t:=26) rfl)<|zA (zD rfl)<|zF<|zH ?_
 refine zH<|zC<|zA (zK Tryz.underlying26 rfl rfl Tryz.sizeOf22 rfl)<|zA (zN Tryz.isAgg22 rfl rfl rfl rfl)<|zA (zK Tryz.underlying26 rfl rfl Tryz.sizeOf3 rfl)<|zA (zN Tryz.isAgg3 rfl rfl rfl rfl) ?_
 refine zA (zK Tryz.underlying26 rfl rfl Tryz.sizeOf3 rfl)<|zA (zN Tryz.isAgg3 rfl rfl rfl rfl)<|zA (zK Tryz.underlying26 rfl rfl Tryz.sizeOf23 rfl)<|zA (zN Tryz.isAgg23 rfl rfl rfl rfl)<|zA (zV Tryz.underlying23 rfl)<|zR h fun x1 w1 h => ?_
 refine zh Tryz.func46 rfl (by kernel_rfl) (.fn 46) rfl rfl (zM4 w1) rfl<|zA (zBE (t:=x1) rfl)<|zF ?_
 refine zX h rfl (fun b1 h => ?_) (fun b1 h => ?_)
 ·refine zH<|zC<|zA (zD rfl)<|zF<|zd ?_
  cases h
  exact zu (zAH rfl rfl)
 refine zP<|zH<|zC<|zA (zD rfl)<|zF ?_
 refine zt (r:=r) (fun (_:Unit)=>mkE [(1,(AV.ptr 0 0))]) (fun _=>[.box 26 (zI B)]) (fun _=>zGD B) ?_ ?_
 ·
  refine zH<|zC<|zA (zD rfl)<|zF<|zQ<|zq (σ:=Int×Int) (fun (i1,i2)=>mkE [(1,(AV.ptr 0 0)),(3,(li i1)),(4,(li i2))]) (fun (i1,i2)=>[.box 26 (zI B)]) (fun n0 (i1,i2)=>zGM B n0 i1 i2) (0,0) h (fun _=>rfl) (z9 [0] rfl rfl (by kernel_rfl)) ?_
  clear h
  rintro n0 ⟨i1,i2⟩ h
  replace h:zDy B (zGM B n0) i1 i2=some r:=h
  unfold zDy at h
  refine zH<|zH<|zC<|zA (zB rfl)<|zA (zK Tryz.underlying26 rfl rfl Tryz.sizeOf23 rfl)<|zA (zN Tryz.isAgg23 rfl rfl rfl rfl) ?_
  refine zA (zV Tryz.underlying23 rfl)<|zA (zf rfl rfl)<|zF ?_
  refine zX h rfl (fun b2 h => ?_) (fun b2 h => ?_)
  ·refine zP<|zH<|zQ<|zH<|zH<|zC ?_
   refine zA (zK Tryz.underlying26 rfl rfl Tryz.sizeOf23 rfl)<|zA (zN Tryz.isAgg23 rfl rfl rfl rfl)<|zA (zB rfl)<|zM h fun b3 h=>zA (zT Tryz.underlying23 Tryz.sizeOf51 (fun _=>rfl) rfl rfl b3)<|zA (zAi (row:=(zO (at_ B.zones i2))) (o:=0) (m:=10) (la:=(zO (at_ B.zones i2))) Tryz.isAgg51 Tryz.sizeOf51 rfl rfl rfl) ?_
   refine zR h fun x3 w3 h=>zh Tryz.func47 rfl (by kernel_rfl) (.fn 47) rfl rfl (zHw w3) rfl<|zA (zD rfl)<|zF<|zH<|zC ?_
   refine zA (zB rfl)<|zA (zz rfl rfl)<|zF ?_
   refine zX h rfl (fun b4 h => ?_) (fun b4 h => ?_)
   ·refine zH<|zC<|zA (zB rfl)<|zA (zD rfl)<|zF<|zd ?_
    cases h
    exact zu (zAH rfl rfl)
   refine zP<|zH<|zH<|zC<|zA (zK Tryz.underlying26 rfl rfl Tryz.sizeOf23 rfl)<|zA (zN Tryz.isAgg23 rfl rfl rfl rfl) ?_
   refine zA (zB rfl)<|zA (zT Tryz.underlying23 Tryz.sizeOf51 (fun _=>rfl) rfl rfl b3)<|zA (zAx (row:=(zO (at_ B.zones i2))) (o:=0) (off:=2) Tryz.underlying51 rfl rfl Tryz.sizeOf3 rfl)<|zA (zU (o:=2) Tryz.isAgg3 rfl rfl)<|zA (zB rfl)<|zA (zz rfl rfl) ?_
   refine zF ?_
   refine zX h rfl (fun b5 h => ?_) (fun b5 h => ?_)
   ·refine zH<|zC<|zA (zD rfl)<|zF<|zd ?_
    cases h
    exact zu (zAH rfl rfl)
   refine zP<|zC<|zA (zB rfl)<|zA (zK Tryz.underlying26 rfl rfl Tryz.sizeOf23 rfl)<|zA (zN Tryz.isAgg23 rfl rfl rfl rfl)<|zA (zB rfl) ?_
   refine zA (zT Tryz.underlying23 Tryz.sizeOf51 (fun _=>rfl) rfl rfl b3)<|zA (zAx (row:=(zO (at_ B.zones i2))) (o:=0) (off:=3) Tryz.underlying51 rfl rfl Tryz.sizeOf3 rfl)<|zA (zU (o:=3) Tryz.isAgg3 rfl rfl)<|zM h fun b6 h=>zA (ze rfl rfl b6)<|zA (zD rfl) ?_
   refine zF<|zC<|zA (zB rfl)<|zM h fun b7 h=>zA (ze rfl rfl b7)<|zA (zD rfl) ?_
   refine zF ?_
   exact ⟨((i1+((at_ B.zones i2).count)),(i2+1)),z9 [0] rfl rfl (by kernel_rfl),h⟩
  refine zw ?_
  exact ⟨(),z9 [0] rfl rfl (by kernel_rfl),h⟩
 clear h
 intro _ h
 unfold zGD at h
 refine zH<|zC<|zA (zS (k:=0) (o:=0) (m:=5) Tryz.isAgg26 Tryz.sizeOf26 rfl rfl rfl rfl rfl)<|zR h fun x2 w2 h=>zh Tryz.func48 rfl (by kernel_rfl) (.fn 48) rfl rfl (zLS w2) rfl<|zA (zD rfl) ?_
 refine zF<|zd ?_
 cases h
 exact zu (zAH rfl rfl)
theorem zHv {J:zL} {r:zL} (h:zGi J=some r):PFn Tryz.prog 114 [(AV.agg (zG J))] (AV.agg ([AV.osl 22 1 (List.map (cO 3 1 cI) r.lists)]++[])):=by
 refine zo Tryz.func114 rfl Tryz.ntmps114 Tryz.results114 rfl ?_
 unfold zGi at h
 refine zH<|zC<|za (H':=[.box 55 (zG J)]) (zv (t:=55) rfl)<|za (H':=[.box 55 (zG J),.box 55 [(ls (cS cI) ([]:List (List Int)))]]) zv1<|zF<|zH ?_
 refine zC<|za (H':=[.box 55 (zG J),.box 55 [(ls (cS cI) ([]:List (List Int)))],.box 55 [AV.osl 22 1 (List.map (cO 3 1 cI) ([]:List (List Int)))]]) zv6<|zF ?_
 refine zt (r:=r) (fun (l1:List (List Int))=>mkE [(2,(AV.ptr 0 0)),(3,(AV.ptr 1 0))]) (fun l1=>[.box 55 [(ls (cS cI) ([]:List (List Int)))],.box 55 [AV.osl 22 1 (List.map (cO 3 1 cI) l1)]]) (fun l1=>zJp l1) ?_ ?_
 ·
  refine zH<|zC<|zA (zK Tryz.underlying55 rfl rfl Tryz.sizeOf53 rfl)<|zA (zN Tryz.isAgg53 rfl rfl rfl rfl)<|zA (zV Tryz.underlying53 rfl)<|zA (zB rfl) ?_
  refine zF<|zQ<|zq (σ:=Int×(List (List Int))) (fun (i1,l2)=>mkE [(2,(AV.ptr 0 0)),(3,(AV.ptr 1 0)),(8,(ls (cS cI) J.lists)),(9,(li (J.lists.length:Int))),(10,(li i1))]) (fun (i1,l2)=>[.box 55 [(ls (cS cI) ([]:List (List Int)))],.box 55 [AV.osl 22 1 (List.map (cO 3 1 cI) l2)]]) (fun n0 (i1,l2)=>zGP J n0 i1 l2) (0,([]:List (List Int))) h (fun _=>rfl) (z9 [1,2] rfl rfl (by kernel_rfl)) ?_
  clear h
  rintro n0 ⟨i1,l2⟩ h
  replace h:zD3 J (zGP J n0) i1 l2=some r:=h
  unfold zD3 at h
  refine zH<|zC<|zA (zf rfl rfl)<|zF<|zH ?_
  refine zX h rfl (fun b1 h => ?_) (fun b1 h => ?_)
  ·refine zP<|zH<|zQ<|zH<|zC<|zM h fun b2 h => ?_
   refine zA (zT Tryz.underlying53 Tryz.sizeOf22 (fun _=>rfl) rfl rfl b2)<|zA (zU (o:=0) Tryz.isAgg22 rfl rfl)<|zA (zD rfl)<|zF<|zH<|zC ?_
   refine zA (zD rfl)<|zF<|zH<|zC<|zA (zB rfl)<|zA (zB rfl) ?_
   refine zAA (zKr (d:=14) (el:=3) (sz:=1) rfl)<|zM h fun b3 h=>zFr (f:=cI) (k:=2) (l:=([]:List Int)) (l':=at_ J.lists i1) zE0 (fun _=>rfl) Tryz.underlying22 rfl rfl rfl b3<|zA (zD rfl)<|zF<|zC ?_
   refine zA (zK Tryz.underlying55 rfl rfl Tryz.sizeOf53 rfl)<|zAA (zAd (k:=1) (o:=0) (t':=22) (sz:=1) (rows:=List.map (cO 3 1 cI) l2) rfl rfl)<|zA (zN Tryz.isAgg53 rfl rfl rfl rfl)<|zA (zB rfl)<|zSU (j:=3) (t':=3) (s':=1) (rows:=List.map cI (([]:List Int)++(at_ J.lists i1))) zOW Tryz.underlying53 rfl rfl<|zM h fun b4 h => ?_
   refine zOf (f:=(cO 3 1 cI)) (k:=4) (j:=5) (l:=l2) (l':=[([]:List Int)++(at_ J.lists i1)]) zOW Tryz.underlying53 rfl rfl rfl rfl rfl b4<|zA (zK Tryz.underlying55 rfl rfl Tryz.sizeOf53 rfl)<|zj (H':=[.box 55 [(ls (cS cI) ([]:List (List Int)))],.box 55 [AV.hd 6],.dead,.dead,.dead,.dead,.vec 22 1 (List.map (cO 3 1 cI) (l2++[([]:List Int)++(at_ J.lists i1)]))]) (zC1 (k:=1) (o:=0) (cs:=[AV.hd 4]) (a:=(AV.hd 6)) Tryz.sizeOf53 rfl rfl rfl rfl rfl)<|zF<|zC<|zM h fun b5 h => ?_
   refine zA (ze rfl rfl b5)<|zA (zB rfl)<|zF ?_
   exact ⟨((i1+1),(l2++[([]:List Int)++(at_ J.lists i1)])),Rep.trans (z7 (k:=1) (j:=6) (o:=0) rfl rfl rfl rfl) (z9 [0,1] (l:=[(2,(AV.ptr 0 0)),(3,(AV.ptr 1 0)),(8,(ls (cS cI) J.lists)),(9,(li (J.lists.length:Int))),(10,(li (i1+1)))]) rfl rfl (by kernel_rfl)),h⟩
  refine zw ?_
  exact ⟨l2,z9 [0,1] rfl rfl (by kernel_rfl),h⟩
 clear h
 intro l1 h
 unfold zJp at h
 refine zH<|zC<|za (zKY (k:=1) (cs:=[AV.osl 22 1 (List.map (cO 3 1 cI) l1)]) (m:=1) Tryz.isAgg55 Tryz.sizeOf55 rfl rfl rfl)<|zj (H':=[.box 55 [AV.osl 22 1 (List.map (cO 3 1 cI) l1)],.dead,.dead]) (zCG (k:=0) (o:=0) (j:=2) (cs:=[(ls (cS cI) ([]:List (List Int)))]) (la:=[AV.osl 22 1 (List.map (cO 3 1 cI) l1)]) Tryz.sizeOf55 rfl rfl rfl rfl rfl (by decide))<|zF<|zd ?_
 cases h
 exact zu (zFM Tryz.isAgg55 Tryz.sizeOf55 rfl rfl rfl rfl)
theorem zOB {A:zJ} {r:zJ} (h:zI8 A=some r):PFn Tryz.prog 59 [(AV.agg (zI A))] (AV.agg ([ls cI r.nodes]++([li r.batch]++([li r.high]++([AV.osl 51 10 (List.map zO r.zones)]++([AV.osl 55 1 (List.map zG r.caches)]++[])))))):=by
 refine zo Tryz.func59 rfl Tryz.ntmps59 Tryz.results59 rfl ?_
 unfold zI8 at h
 refine zH<|zC<|za (H':=[.box 26 (zI A)]) (zv (t:=26) rfl)<|za (H':=[.box 26 (zI A),.box 26 (zI ⟨[],0,0,[],[]⟩)]) zv3<|zF<|zH ?_
 refine zC<|zA (zK Tryz.underlying26 rfl rfl Tryz.sizeOf3 rfl)<|zA (zN Tryz.isAgg3 rfl rfl rfl rfl)<|zA (zK Tryz.underlying26 rfl rfl Tryz.sizeOf3 rfl)<|zA (zN Tryz.isAgg3 rfl rfl rfl rfl)<|zA (zCV (pl:=[(0,1),(1,1),(2,1),(3,1),(4,1)]) (zs:=[.slice none 0 0,.int .i64 0,.int .i64 0,.slice none 0 0,.slice none 0 0]) (zc:=[.osl 3 1 [],.lit (.int .i64 0),.lit (.int .i64 0),.osl 51 10 [],.osl 55 1 []]) (res:=[AV.osl 3 1 (List.map cI ([]:List Int)),li A.batch,li A.high,AV.osl 51 10 (List.map zO ([]:List zi)),AV.osl 55 1 (List.map zG ([]:List zL))]) (fun _=>by kernel_rfl) rfl (⟨zAt.nilo,⟨zAt.refl _,⟨zAt.refl _,⟨zAt.nilo,⟨zAt.nilo,trivial⟩⟩⟩⟩⟩) ⟨li A.batch,1,1,rfl,rfl,rfl,rfl,rfl,⟨li A.high,2,1,rfl,rfl,rfl,rfl,rfl,(by exact zLT.refl _)⟩⟩) ?_
 refine za (H':=[.box 26 (zI A),.box 26 (zI ⟨[],0,0,[],[]⟩),.box 26 [AV.osl 3 1 (List.map cI ([]:List Int)),li 0,li 0,AV.osl 51 10 (List.map zO ([]:List zi)),AV.osl 55 1 (List.map zG ([]:List zL))]]) zv4<|zj (H':=[.box 26 (zI A),.box 26 (zI ⟨[],0,0,[],[]⟩),.box 26 [AV.osl 3 1 (List.map cI ([]:List Int)),li A.batch,li A.high,AV.osl 51 10 (List.map zO ([]:List zi)),AV.osl 55 1 (List.map zG ([]:List zL))]]) (zY (k:=2) (o:=0) (cs:=[AV.osl 3 1 (List.map cI ([]:List Int)),li 0,li 0,AV.osl 51 10 (List.map zO ([]:List zi)),AV.osl 55 1 (List.map zG ([]:List zL))]) (la:=[AV.osl 3 1 (List.map cI ([]:List Int)),li A.batch,li A.high,AV.osl 51 10 (List.map zO ([]:List zi)),AV.osl 55 1 (List.map zG ([]:List zL))]) Tryz.sizeOf26 rfl rfl rfl rfl)<|zF<|zH<|zC<|zA (zK Tryz.underlying26 rfl rfl Tryz.sizeOf22 rfl) ?_
 refine zAA (zAd (k:=2) (o:=0) (t':=3) (sz:=1) (rows:=List.map cI ([]:List Int)) rfl rfl)<|zA (zN Tryz.isAgg22 rfl rfl rfl rfl)<|zA (zK Tryz.underlying26 rfl rfl Tryz.sizeOf22 rfl)<|zA (zN Tryz.isAgg22 rfl rfl rfl rfl)<|zM h fun b1 h=>zFr (f:=cI) (k:=3) (l:=([]:List Int)) (l':=A.nodes) zE0 (fun _=>rfl) Tryz.underlying22 rfl rfl rfl b1 ?_
 refine zA (zK Tryz.underlying26 rfl rfl Tryz.sizeOf22 rfl)<|zj (H':=[.box 26 (zI A),.box 26 (zI ⟨[],0,0,[],[]⟩),.box 26 [AV.hd 4,li A.batch,li A.high,AV.osl 51 10 (List.map zO ([]:List zi)),AV.osl 55 1 (List.map zG ([]:List zL))],.dead,.vec 3 1 (List.map cI (([]:List Int)++A.nodes))]) (zC1 (k:=2) (o:=0) (cs:=[AV.hd 3,li A.batch,li A.high,AV.osl 51 10 (List.map zO ([]:List zi)),AV.osl 55 1 (List.map zG ([]:List zL))]) (a:=(AV.hd 4)) Tryz.sizeOf22 rfl rfl rfl rfl rfl)<|zF ?_
 refine zt (r:=r) (fun (l1:List zi)=>mkE [(1,(AV.ptr 0 0)),(2,(AV.ptr 1 0)),(3,(AV.ptr 2 0))]) (fun l1=>[.box 26 (zI A),.box 26 (zI ⟨[],0,0,[],[]⟩),.box 26 [AV.osl 3 1 (List.map cI (([]:List Int)++A.nodes)),li A.batch,li A.high,AV.osl 51 10 (List.map zO l1),AV.osl 55 1 (List.map zG ([]:List zL))]]) (fun l1=>zIE A l1) ?_ ?_
 ·
  refine zH<|zC<|zA (zD rfl)<|zF<|zQ<|zq (σ:=Int×(List zi)) (fun (i2,l4)=>mkE [(1,(AV.ptr 0 0)),(2,(AV.ptr 1 0)),(3,(AV.ptr 2 0)),(4,(li i2))]) (fun (i2,l4)=>[.box 26 (zI A),.box 26 (zI ⟨[],0,0,[],[]⟩),.box 26 [AV.osl 3 1 (List.map cI (([]:List Int)++A.nodes)),li A.batch,li A.high,AV.osl 51 10 (List.map zO l4),AV.osl 55 1 (List.map zG ([]:List zL))]]) (fun n1 (i2,l4)=>zB6 A n1 i2 l4) (0,([]:List zi)) h (fun _=>rfl) (Rep.trans (z7 (k:=2) (j:=4) (o:=0) rfl rfl rfl rfl) (z9 [0,1,2] (l:=[(1,(AV.ptr 0 0)),(2,(AV.ptr 1 0)),(3,(AV.ptr 2 0)),(4,(li 0))]) rfl rfl (by kernel_rfl))) ?_
  clear h
  rintro n1 ⟨i2,l4⟩ h
  replace h:zDl A (zB6 A n1) i2 l4=some r:=h
  unfold zDl at h
  refine zH<|zH<|zC<|zA (zB rfl)<|zA (zK Tryz.underlying26 rfl rfl Tryz.sizeOf23 rfl)<|zA (zN Tryz.isAgg23 rfl rfl rfl rfl) ?_
  refine zA (zV Tryz.underlying23 rfl)<|zA (zf rfl rfl)<|zF ?_
  refine zX h rfl (fun b6 h => ?_) (fun b6 h => ?_)
  ·refine zP ?_
   refine zt (r:=r) (fun (l5:List zi)=>mkE [(1,(AV.ptr 0 0)),(2,(AV.ptr 1 0)),(3,(AV.ptr 2 0)),(4,(li i2))]) (fun l5=>[.box 26 (zI A),.box 26 (zI ⟨[],0,0,[],[]⟩),.box 26 [AV.osl 3 1 (List.map cI (([]:List Int)++A.nodes)),li A.batch,li A.high,AV.osl 51 10 (List.map zO l5),AV.osl 55 1 (List.map zG ([]:List zL))]]) (fun l5=>zIA (zB6 A n1) i2 l5) ?_ ?_
   ·
    refine zQ<|zH<|zC<|zA (zK Tryz.underlying26 rfl rfl Tryz.sizeOf23 rfl)<|zA (zN Tryz.isAgg23 rfl rfl rfl rfl)<|zA (zB rfl) ?_
    refine zM h fun b8 h=>zA (zT Tryz.underlying23 Tryz.sizeOf51 (fun _=>rfl) rfl rfl b8)<|zA (zAi (row:=(zO (at_ A.zones i2))) (o:=0) (m:=10) (la:=(zO (at_ A.zones i2))) Tryz.isAgg51 Tryz.sizeOf51 rfl rfl rfl)<|za (H':=[.box 26 (zI A),.box 26 (zI ⟨[],0,0,[],[]⟩),.box 26 [AV.osl 3 1 (List.map cI (([]:List Int)++A.nodes)),li A.batch,li A.high,AV.osl 51 10 (List.map zO l4),AV.osl 55 1 (List.map zG ([]:List zL))],.box 51 (zO ⟨0,0,0,0,0,(List.replicate 5 ([]:List Int))⟩)]) zv0<|zj (H':=[.box 26 (zI A),.box 26 (zI ⟨[],0,0,[],[]⟩),.box 26 [AV.osl 3 1 (List.map cI (([]:List Int)++A.nodes)),li A.batch,li A.high,AV.osl 51 10 (List.map zO l4),AV.osl 55 1 (List.map zG ([]:List zL))],.box 51 (zO (at_ A.zones i2))]) (zY (k:=3) (o:=0) (cs:=(zO ⟨0,0,0,0,0,(List.replicate 5 ([]:List Int))⟩)) (la:=(zO (at_ A.zones i2))) Tryz.sizeOf51 rfl rfl rfl rfl)<|zF ?_
    refine zt (r:=r) (fun (d1:List (List Int))=>mkE [(1,(AV.ptr 0 0)),(2,(AV.ptr 1 0)),(3,(AV.ptr 2 0)),(4,(li i2)),(5,(AV.ptr 3 0))]) (fun d1=>[.box 26 (zI A),.box 26 (zI ⟨[],0,0,[],[]⟩),.box 26 [AV.osl 3 1 (List.map cI (([]:List Int)++A.nodes)),li A.batch,li A.high,AV.osl 51 10 (List.map zO l4),AV.osl 55 1 (List.map zG ([]:List zL))],.box 51 (zO ⟨((at_ A.zones i2).node),((at_ A.zones i2).kind),((at_ A.zones i2).start),((at_ A.zones i2).count),((at_ A.zones i2).min),d1⟩)]) (fun d1=>zIF (zB6 A n1) A i2 l4 d1) ?_ ?_
    ·
     refine zH<|zC<|zA (zD rfl)<|zF<|zQ<|zq (σ:=Int×(List (List Int))) (fun (i3,d2)=>mkE [(1,(AV.ptr 0 0)),(2,(AV.ptr 1 0)),(3,(AV.ptr 2 0)),(4,(li i2)),(5,(AV.ptr 3 0)),(6,(li i3))]) (fun (i3,d2)=>[.box 26 (zI A),.box 26 (zI ⟨[],0,0,[],[]⟩),.box 26 [AV.osl 3 1 (List.map cI (([]:List Int)++A.nodes)),li A.batch,li A.high,AV.osl 51 10 (List.map zO l4),AV.osl 55 1 (List.map zG ([]:List zL))],.box 51 (zO ⟨((at_ A.zones i2).node),((at_ A.zones i2).kind),((at_ A.zones i2).start),((at_ A.zones i2).count),((at_ A.zones i2).min),d2⟩)]) (fun n2 (i3,d2)=>zGS (zB6 A n1) A i2 l4 n2 i3 d2) (0,((at_ A.zones i2).free)) h (fun _=>rfl) (z9 [0,1,2,3] rfl rfl (by kernel_rfl)) ?_
     clear h
     rintro n2 ⟨i3,d2⟩ h
     replace h:zD8 (zB6 A n1) A i2 l4 (zGS (zB6 A n1) A i2 l4 n2) i3 d2=some r:=h
     unfold zD8 at h
     refine zH<|zH<|zC<|zA (zB rfl)<|zA (zCu rfl rfl)<|zF ?_
     refine zX h rfl (fun b10 h => ?_) (fun b10 h => ?_)
     ·refine zP<|zH<|zQ<|zH<|zC<|zA (zD rfl) ?_
      refine zF<|zH<|zC<|zA (zB rfl)<|zA (zK Tryz.underlying26 rfl rfl Tryz.sizeOf23 rfl)<|zA (zN Tryz.isAgg23 rfl rfl rfl rfl) ?_
      refine zA (zB rfl)<|zA (zB rfl)<|zM h fun b11 h=>zA (zT Tryz.underlying23 Tryz.sizeOf51 (fun _=>rfl) rfl rfl b11)<|zA (zAx (row:=(zO (at_ A.zones i2))) (o:=0) (off:=5) Tryz.underlying51 rfl rfl Tryz.sizeOf49 rfl)<|zM h fun b12 h => ?_
      refine zA (zOV (m:=5) (s:=1) (i:=i3) (row:=(zO (at_ A.zones i2))) (o:=5) Tryz.underlying49 Tryz.sizeOf22 rfl rfl b12)<|zA (zL8 (o:=(5+i3.toNat*1)) (cs:=zO (at_ A.zones i2)) (hd:=([(li ((at_ A.zones i2).node))]++[(li ((at_ A.zones i2).kind))]++[(li ((at_ A.zones i2).start))]++[(li ((at_ A.zones i2).count))]++[(li ((at_ A.zones i2).min))]++[])) (tl:=([])) (g:=(eS cI)) (d0:=([]:List Int)) (l:=(at_ A.zones i2).free) (N:=5) (i:=i3.toNat) (a:=(ls cI (((at_ A.zones i2).free).getD i3.toNat ([]:List Int)))) Tryz.isAgg22 rfl rfl (congrArg (fun q=>5+q) (Nat.mul_one _)) (zBW b12).2 rfl)<|zAA (zKr (d:=36) (el:=3) (sz:=1) rfl)<|zM h fun b13 h=>zFr (f:=cI) (k:=4) (l:=([]:List Int)) (l':=((at_ A.zones i2).free).getD i3.toNat ([]:List Int)) zE0 (fun _=>rfl) Tryz.underlying22 rfl rfl rfl b13<|zA (zD rfl) ?_
      refine zF<|zC<|zA (zB rfl)<|zA (zB rfl)<|zA (zK Tryz.underlying51 rfl rfl Tryz.sizeOf49 rfl)<|zA (zAO (m:=5) (s:=1) (i:=i3) (k:=3) (o:=5) Tryz.underlying49 Tryz.sizeOf22 rfl rfl b12) ?_
      refine zAA (zDR (j:=5) (ds:=[7,45,47]) (rows':=List.map cI (([]:List Int)++(((at_ A.zones i2).free).getD i3.toNat ([]:List Int)))) rfl (zAL (fun _=>rfl)) ⟨rfl,rfl,rfl,trivial⟩)<|zj (H':=[.box 26 (zI A),.box 26 (zI ⟨[],0,0,[],[]⟩),.box 26 [AV.osl 3 1 (List.map cI (([]:List Int)++A.nodes)),li A.batch,li A.high,AV.osl 51 10 (List.map zO l4),AV.osl 55 1 (List.map zG ([]:List zL))],.box 51 (zO ⟨((at_ A.zones i2).node),((at_ A.zones i2).kind),((at_ A.zones i2).start),((at_ A.zones i2).count),((at_ A.zones i2).min),(zEN 5 ([]:List Int) d2 i3.toNat (([]:List Int)++(((at_ A.zones i2).free).getD i3.toNat ([]:List Int))))⟩),.dead,.dead]) (zOm (k:=3) (o:=(5+i3.toNat*1)) (cs:=(zO ⟨((at_ A.zones i2).node),((at_ A.zones i2).kind),((at_ A.zones i2).start),((at_ A.zones i2).count),((at_ A.zones i2).min),d2⟩)) (hd:=([(li ((at_ A.zones i2).node))]++[(li ((at_ A.zones i2).kind))]++[(li ((at_ A.zones i2).start))]++[(li ((at_ A.zones i2).count))]++[(li ((at_ A.zones i2).min))]++[])) (tl:=([])) (g:=(eS cI)) (d0:=([]:List Int)) (l:=d2) (N:=5) (i:=i3.toNat) (v:=([]:List Int)++(((at_ A.zones i2).free).getD i3.toNat ([]:List Int))) (a:=(ls cI (([]:List Int)++(((at_ A.zones i2).free).getD i3.toNat ([]:List Int))))) Tryz.sizeOf22 rfl rfl rfl (congrArg (fun q=>5+q) (Nat.mul_one _)) (zBW b12).2 rfl rfl rfl)<|zF<|zC<|zA (zB rfl)<|zM h fun b14 h => ?_
      refine zA (ze rfl rfl b14)<|zA (zD rfl)<|zF ?_
      exact ⟨((i3+1),(zEN 5 ([]:List Int) d2 i3.toNat (([]:List Int)++(((at_ A.zones i2).free).getD i3.toNat ([]:List Int))))),z9 [0,1,2,3] rfl rfl (by kernel_rfl),h⟩
     refine zw ?_
     exact ⟨d2,z9 [0,1,2,3] rfl rfl (by kernel_rfl),h⟩
    clear h
    intro d1 h
    unfold zIF at h
    refine zC<|zA (zK Tryz.underlying26 rfl rfl Tryz.sizeOf23 rfl)<|zAA (zAd (k:=2) (o:=3) (t':=51) (sz:=10) (rows:=List.map zO l4) rfl rfl)<|zA (zN Tryz.isAgg23 rfl rfl rfl rfl)<|zA (zS (k:=3) (o:=0) (m:=10) Tryz.isAgg51 Tryz.sizeOf51 rfl rfl rfl rfl rfl)<|zEP (a:=(AV.agg (zO (⟨(at_ A.zones i2).node,(at_ A.zones i2).kind,(at_ A.zones i2).start,(at_ A.zones i2).count,(at_ A.zones i2).min,d1⟩:zi)))) zOc Tryz.underlying23 rfl rfl rfl rfl ?_
    refine zM h fun b9 h=>zBp (f:=zO) (k:=4) (j:=5) (l:=l4) (l':=[(⟨(at_ A.zones i2).node,(at_ A.zones i2).kind,(at_ A.zones i2).start,(at_ A.zones i2).count,(at_ A.zones i2).min,d1⟩:zi)]) zOc (fun _=>rfl) Tryz.underlying23 rfl rfl rfl rfl b9<|zA (zK Tryz.underlying26 rfl rfl Tryz.sizeOf23 rfl)<|zj (H':=[.box 26 (zI A),.box 26 (zI ⟨[],0,0,[],[]⟩),.box 26 [AV.osl 3 1 (List.map cI (([]:List Int)++A.nodes)),li A.batch,li A.high,AV.hd 6,AV.osl 55 1 (List.map zG ([]:List zL))],.box 51 (zO ⟨((at_ A.zones i2).node),((at_ A.zones i2).kind),((at_ A.zones i2).start),((at_ A.zones i2).count),((at_ A.zones i2).min),d1⟩),.dead,.vec 51 10 (List.map zO [(⟨(at_ A.zones i2).node,(at_ A.zones i2).kind,(at_ A.zones i2).start,(at_ A.zones i2).count,(at_ A.zones i2).min,d1⟩:zi)]),.vec 51 10 (List.map zO (l4++[(⟨(at_ A.zones i2).node,(at_ A.zones i2).kind,(at_ A.zones i2).start,(at_ A.zones i2).count,(at_ A.zones i2).min,d1⟩:zi)]))]) (zC1 (k:=2) (o:=3) (cs:=[AV.osl 3 1 (List.map cI (([]:List Int)++A.nodes)),li A.batch,li A.high,AV.hd 4,AV.osl 55 1 (List.map zG ([]:List zL))]) (a:=(AV.hd 6)) Tryz.sizeOf23 rfl rfl rfl rfl rfl)<|zF ?_
    exact ⟨(l4++[(⟨(at_ A.zones i2).node,(at_ A.zones i2).kind,(at_ A.zones i2).start,(at_ A.zones i2).count,(at_ A.zones i2).min,d1⟩:zi)]),Rep.trans (z7 (k:=2) (j:=6) (o:=3) rfl rfl rfl rfl) (z9 [0,1,2] (l:=[(1,(AV.ptr 0 0)),(2,(AV.ptr 1 0)),(3,(AV.ptr 2 0)),(4,(li i2))]) rfl rfl (by kernel_rfl)),h⟩
   clear h
   intro l5 h
   unfold zIA at h
   refine zC<|zA (zB rfl)<|zM h fun b7 h=>zA (ze rfl rfl b7)<|zA (zD rfl)<|zF ?_
   exact ⟨((i2+1),l5),z9 [0,1,2] rfl rfl (by kernel_rfl),h⟩
  refine zw ?_
  exact ⟨l4,z9 [0,1,2] rfl rfl (by kernel_rfl),h⟩
 clear h
 intro l1 h
 unfold zIE at h
 refine zt (r:=r) (fun (l2:List zL)=>mkE [(2,(AV.ptr 0 0)),(3,(AV.ptr 1 0))]) (fun l2=>[.box 26 (zI ⟨[],0,0,[],[]⟩),.box 26 [AV.osl 3 1 (List.map cI (([]:List Int)++A.nodes)),li A.batch,li A.high,AV.osl 51 10 (List.map zO l1),AV.osl 55 1 (List.map zG l2)]]) (fun l2=>zJr A l1 l2) ?_ ?_
 ·
  refine zH<|zC<|zA (zD rfl)<|zF<|zQ<|zq (σ:=Int×(List zL)) (fun (i1,l3)=>mkE [(1,(AV.ptr 0 0)),(2,(AV.ptr 1 0)),(3,(AV.ptr 2 0)),(8,(li i1))]) (fun (i1,l3)=>[.box 26 (zI A),.box 26 (zI ⟨[],0,0,[],[]⟩),.box 26 [AV.osl 3 1 (List.map cI (([]:List Int)++A.nodes)),li A.batch,li A.high,AV.osl 51 10 (List.map zO l1),AV.osl 55 1 (List.map zG l3)]]) (fun n0 (i1,l3)=>zF7 A l1 n0 i1 l3) (0,([]:List zL)) h (fun _=>rfl) (z9 [0,1,2] rfl rfl (by kernel_rfl)) ?_
  clear h
  rintro n0 ⟨i1,l3⟩ h
  replace h:zD0 A l1 (zF7 A l1 n0) i1 l3=some r:=h
  unfold zD0 at h
  refine zH<|zH<|zC<|zA (zB rfl)<|zA (zK Tryz.underlying26 rfl rfl Tryz.sizeOf24 rfl)<|zA (zN Tryz.isAgg24 rfl rfl rfl rfl) ?_
  refine zA (zV Tryz.underlying24 rfl)<|zA (zf rfl rfl)<|zF ?_
  refine zX h rfl (fun b2 h => ?_) (fun b2 h => ?_)
  ·refine zP<|zH<|zQ<|zAT (zAd (k:=2) (o:=4) (t':=55) (sz:=1) (rows:=List.map zG l3) rfl rfl)<|zM h fun b3 h=>zR h fun x1 w1 h => ?_
   refine zM h fun b4 h => ?_
   refine zAl (n:=75) (m:=0) [.head 0 2,.head 0 2,.head 0 0,.head 0 0,.head 0 0,.head 0 0,.head 0 0,.tail 0,.tail 1,.tail 2,.head 3 3,.tail 3] [7,8,9,11] [AV.ptr 2 4,AV.hd 3,AV.ptr 0 4,ls zG A.caches,li i1,(AV.rp (zG (at_ A.caches i1)) 0),(AV.agg (zG (at_ A.caches i1))),(AV.agg (zG x1)),AV.hd 4,AV.hd 5,AV.ptr 2 4,.any] [[.box 26 (zI A),.box 26 (zI ⟨[],0,0,[],[]⟩),.box 26 [AV.osl 3 1 (List.map cI (([]:List Int)++A.nodes)),li A.batch,li A.high,AV.osl 51 10 (List.map zO l1),AV.hd 3],.vec 55 1 (List.map zG l3)],[.box 26 (zI A),.box 26 (zI ⟨[],0,0,[],[]⟩),.box 26 [AV.osl 3 1 (List.map cI (([]:List Int)++A.nodes)),li A.batch,li A.high,AV.osl 51 10 (List.map zO l1),AV.hd 3],.vec 55 1 (List.map zG l3)],[.box 26 (zI A),.box 26 (zI ⟨[],0,0,[],[]⟩),.box 26 [AV.osl 3 1 (List.map cI (([]:List Int)++A.nodes)),li A.batch,li A.high,AV.osl 51 10 (List.map zO l1),AV.hd 3],.vec 55 1 (List.map zG l3),.vec 55 1 (List.map zG [x1])],[.box 26 (zI A),.box 26 (zI ⟨[],0,0,[],[]⟩),.box 26 [AV.osl 3 1 (List.map cI (([]:List Int)++A.nodes)),li A.batch,li A.high,AV.osl 51 10 (List.map zO l1),AV.hd 3],.dead,.vec 55 1 (List.map zG [x1]),.vec 55 1 (List.map zG (l3++[x1]))],[.box 26 (zI A),.box 26 (zI ⟨[],0,0,[],[]⟩),.box 26 [AV.osl 3 1 (List.map cI (([]:List Int)++A.nodes)),li A.batch,li A.high,AV.osl 51 10 (List.map zO l1),AV.hd 5],.dead,.vec 55 1 (List.map zG [x1]),.vec 55 1 (List.map zG (l3++[x1]))]] (by kernel_rfl) (by kernel_rfl) ⟨⟨D1 fun e s p=>zK (k:=2) (o:=0) (off:=4) Tryz.underlying26 rfl rfl Tryz.sizeOf24 (s 3 rfl),D1 fun e s p=>zK (k:=2) (o:=0) (off:=4) Tryz.underlying26 rfl rfl Tryz.sizeOf24 (s 3 rfl),D1 fun e s p=>zK (k:=2) (o:=0) (off:=4) Tryz.underlying26 rfl rfl Tryz.sizeOf24 (s 3 rfl)⟩,⟨D1 fun e s p=>zN (k:=2) (o:=4) Tryz.isAgg24 p.1 rfl rfl rfl,D1 fun e s p=>zN (k:=2) (o:=4) Tryz.isAgg24 p.1 rfl rfl rfl,D1 fun e s p=>zN (k:=2) (o:=4) Tryz.isAgg24 p.1 rfl rfl rfl⟩,D1 fun e s p=>zK (k:=0) (o:=0) (off:=4) Tryz.underlying26 rfl rfl Tryz.sizeOf24 (s 1 rfl),D1 fun e s p=>zN (k:=0) (o:=4) Tryz.isAgg24 p.1 rfl rfl rfl,D1 fun e s p=>zB (s 8 rfl),D1 fun e s p=>zT (f:=zG) (l:=A.caches) (i:=i1) Tryz.underlying24 Tryz.sizeOf55 (fun _=>rfl) p.1 p.2.1 b3,D1 fun e s p=>zAi (row:=(zG (at_ A.caches i1))) (o:=0) (m:=1) (la:=(zG (at_ A.caches i1))) Tryz.isAgg55 Tryz.sizeOf55 p.1 rfl rfl,?_,?_,?_,D1 fun e s p=>zK (k:=2) (o:=0) (off:=4) Tryz.underlying26 rfl rfl Tryz.sizeOf24 (s 3 rfl),?_,trivial⟩ ?_
   ·
    intro e12 s12 p12
    refine zA2 (r':=(AV.agg (zG x1))) (la:=[(AV.agg (zG (at_ A.caches i1)))]) (la':=[(AV.agg (zG (at_ A.caches i1)))]) (r:=(AV.agg [AV.osl 22 1 (List.map (cO 3 1 cI) x1.lists)])) (S:=[]) Tryz.func114 rfl (by kernel_rfl) (.fn 114) (zAM p12.1 rfl) ⟨zAs.nr rfl,trivial⟩ (zHv w1) (.inl rfl) (congrArg (fun q=>AV.agg [AV.sl false q]) (zL6 (fun x=>zRl (fun _=>rfl) x))) ?_
    exact zF ⟨fun _=>rfl,rfl⟩
   ·
    intro e13 s13 p13
    refine zEP (a:=(AV.agg (zG x1))) zOb Tryz.underlying24 p13.1 rfl rfl rfl ?_
    exact zF ⟨fun _=>rfl,rfl⟩
   ·
    intro e14 s14 p14
    refine zBp (f:=zG) (k:=3) (j:=4) (l:=l3) (l':=[x1]) zOb (fun _=>rfl) Tryz.underlying24 p14.1 rfl p14.2.1 rfl b4 ?_
    exact zF ⟨fun _=>rfl,rfl⟩
   ·
    intro e16 s16 p16
    refine zj (H':=[.box 26 (zI A),.box 26 (zI ⟨[],0,0,[],[]⟩),.box 26 [AV.osl 3 1 (List.map cI (([]:List Int)++A.nodes)),li A.batch,li A.high,AV.osl 51 10 (List.map zO l1),AV.hd 5],.dead,.vec 55 1 (List.map zG [x1]),.vec 55 1 (List.map zG (l3++[x1]))]) (zC1 (k:=2) (o:=4) (cs:=[AV.osl 3 1 (List.map cI (([]:List Int)++A.nodes)),li A.batch,li A.high,AV.osl 51 10 (List.map zO l1),AV.hd 3]) (a:=(AV.hd 5)) Tryz.sizeOf24 (by exact p16.1) rfl rfl (by exact p16.2.2.2.2.2.2.2.2.2.2.2.2.1) rfl) ?_
    exact zF ⟨fun _=>rfl,rfl⟩
   intro e17 s17 hq1
   refine zAT (zBM (l:=[(1,(AV.ptr 0 0)),(2,(AV.ptr 1 0)),(3,(AV.ptr 2 0)),(8,(li i1))]) ⟨s17 1 rfl,s17 2 rfl,s17 3 rfl,s17 8 rfl,trivial⟩)<|zC<|zA (zB (av:=(li i1)) rfl)<|zM h fun b5 h=>zA (ze (a:=i1) (b:=1) rfl rfl b5)<|zA (zD (av:=(li (i1+1))) rfl) ?_
   refine zF ?_
   exact ⟨((i1+1),(l3++[x1])),Rep.trans (z7 (k:=2) (j:=5) (o:=4) rfl rfl rfl rfl) (z9 [0,1,2] (l:=[(1,(AV.ptr 0 0)),(2,(AV.ptr 1 0)),(3,(AV.ptr 2 0)),(8,(li (i1+1)))]) rfl rfl (by kernel_rfl)),h⟩
  refine zw ?_
  exact ⟨l3,z9 [1,2] rfl rfl (by kernel_rfl),h⟩
 clear h
 intro l2 h
 unfold zJr at h
 refine zH<|zC<|zAA (zBl (k:=1) (o:=0) (rows':=List.map cI (([]:List Int)++A.nodes)) rfl rfl (zAL (fun _=>rfl)))<|za (zKY (k:=1) (cs:=[(ls cI (([]:List Int)++A.nodes)),li A.batch,li A.high,AV.osl 51 10 (List.map zO l1),AV.osl 55 1 (List.map zG l2)]) (m:=5) Tryz.isAgg26 Tryz.sizeOf26 rfl rfl rfl)<|zj (H':=[.box 26 [(ls cI (([]:List Int)++A.nodes)),li A.batch,li A.high,AV.osl 51 10 (List.map zO l1),AV.osl 55 1 (List.map zG l2)],.dead,.dead]) (zCG (k:=0) (o:=0) (j:=2) (cs:=(zI ⟨[],0,0,[],[]⟩)) (la:=[(ls cI (([]:List Int)++A.nodes)),li A.batch,li A.high,AV.osl 51 10 (List.map zO l1),AV.osl 55 1 (List.map zG l2)]) Tryz.sizeOf26 rfl rfl rfl rfl rfl (by decide))<|zF ?_
 refine zd ?_
 cases h
 exact zu (zFM Tryz.isAgg26 Tryz.sizeOf26 rfl rfl rfl rfl)
theorem zJj {J:zL} {M:Int} {r:Int} (h:zGn J M=some r):PFn Tryz.prog 122 [(AV.agg (zG J)),li M] (li r):=by
 refine zo Tryz.func122 rfl Tryz.ntmps122 Tryz.results122 rfl ?_
 unfold zGn at h
 refine zH<|zC<|za (H':=[.box 55 (zG J)]) (zv (t:=55) rfl)<|zA (zD rfl)<|zF<|zH ?_
 refine zH<|zC<|zA (zS (k:=0) (o:=0) (m:=1) Tryz.isAgg55 Tryz.sizeOf55 rfl rfl rfl rfl rfl)<|zA (zK Tryz.underlying55 rfl rfl Tryz.sizeOf53 rfl)<|zA (zN Tryz.isAgg53 rfl rfl rfl rfl)<|zA (zV Tryz.underlying53 rfl) ?_
 refine zR h fun x1 w1 h=>zh Tryz.func96 rfl (by kernel_rfl) (.fn 96) rfl rfl (zLb w1) rfl<|zA (zD rfl)<|zF<|zH<|zC ?_
 refine zA (zB rfl)<|zA (zz rfl rfl)<|zF ?_
 refine zX h rfl (fun b1 h => ?_) (fun b1 h => ?_)
 ·refine zH<|zC<|zA (zB rfl)<|zA (zD rfl)<|zF<|zd ?_
  cases h
  exact zu (zAH rfl rfl)
 refine zP<|zH<|zH<|zC<|zA (zB rfl)<|zA (zf rfl rfl) ?_
 refine zA (zB rfl)<|zW rfl rfl (fun c1=>zp.step (zB rfl))<|zW rfl rfl (fun c2=>zp.step (zK Tryz.underlying55 rfl rfl Tryz.sizeOf53 rfl))<|zW rfl rfl (fun c3=>zp.step (zN Tryz.isAgg53 (z6 rfl c3) rfl rfl rfl))<|zW rfl rfl (fun c4=>zp.step (zV Tryz.underlying53 (z6 rfl c4)))<|zW rfl rfl (fun c5=>zp.step (zAw (z6 rfl c5) (z6 rfl c5))) ?_
 refine zA (zg rfl rfl)<|zF ?_
 refine zX h rfl (fun b2 h => ?_) (fun b2 h => ?_)
 ·refine zH<|zC<|zA (zD rfl)<|zF<|zd ?_
  cases h
  exact zu (zAH rfl rfl)
 refine zP<|zH<|zC<|zA (zD rfl)<|zF<|zd ?_
 cases h
 exact zu (zAH rfl rfl)
theorem zP5 {J:zL} {U:Int} {r:Bool} (h:zNo J U=some r):PFn Tryz.prog 124 [(AV.agg (zG J)),li U] (AV.lit (.bool r)):=by
 refine zo Tryz.func124 rfl Tryz.ntmps124 Tryz.results124 rfl ?_
 unfold zNo at h
 refine zH<|zC<|za (H':=[.box 55 (zG J)]) (zv (t:=55) rfl)<|zA (zD rfl)<|zF ?_
 refine zt (r:=r) (fun (_:Unit)=>mkE []) (fun _=>[]) (fun _=>zKs ) ?_ ?_
 ·
  refine zH<|zC<|zA (zK Tryz.underlying55 rfl rfl Tryz.sizeOf53 rfl)<|zA (zN Tryz.isAgg53 rfl rfl rfl rfl)<|zA (zV Tryz.underlying53 rfl)<|zA (zB rfl) ?_
  refine zF<|zQ<|zq (σ:=Int) (fun i1=>mkE [(1,(li U)),(10,(ls (cS cI) J.lists)),(11,(li (J.lists.length:Int))),(12,(li i1))]) (fun i1=>[]) (fun n0 i1=>zEe J U n0 i1) 0 h (fun _=>rfl) (z9 [] rfl rfl (by kernel_rfl)) ?_
  clear h
  intro n0 i1 h
  replace h:zK8 J U (zEe J U n0) i1=some r:=h
  unfold zK8 at h
  refine zH<|zC<|zA (zf rfl rfl)<|zF<|zH ?_
  refine zX h rfl (fun b1 h => ?_) (fun b1 h => ?_)
  ·refine zP ?_
   refine zt (r:=r) (fun (_:Unit)=>mkE [(1,(li U)),(10,(ls (cS cI) J.lists)),(11,(li (J.lists.length:Int))),(12,(li i1))]) (fun _=>[]) (fun _=>zKi (zEe J U n0) i1) ?_ ?_
   ·
    refine zQ<|zH<|zC<|zM h fun b3 h=>zA (zT Tryz.underlying53 Tryz.sizeOf22 (fun _=>rfl) rfl rfl b3)<|zA (zU (o:=0) Tryz.isAgg22 rfl rfl) ?_
    refine zA (zD rfl)<|zF<|zH<|zC<|zA (zB rfl)<|zA (zV Tryz.underlying22 rfl) ?_
    refine zA (zB rfl)<|zF<|zQ<|zq (σ:=Int) (fun i2=>mkE [(1,(li U)),(10,(ls (cS cI) J.lists)),(11,(li (J.lists.length:Int))),(12,(li i1)),(16,(ls cI (at_ J.lists i1))),(17,(li ((at_ J.lists i1).length:Int))),(18,(li i2))]) (fun i2=>[]) (fun n1 i2=>zJc (zEe J U n0) J U i1 n1 i2) 0 h (fun _=>rfl) (z9 [] rfl rfl (by kernel_rfl)) ?_
    clear h
    intro n1 i2 h
    replace h:zKt (zEe J U n0) J U i1 (zJc (zEe J U n0) J U i1 n1) i2=some r:=h
    unfold zKt at h
    refine zH<|zC<|zA (zf rfl rfl)<|zF<|zH ?_
    refine zX h rfl (fun b4 h => ?_) (fun b4 h => ?_)
    ·refine zP<|zH<|zQ<|zH<|zC<|zM h fun b5 h => ?_
     refine zA (zT Tryz.underlying22 Tryz.sizeOf3 (fun _=>rfl) rfl rfl b5)<|zA (zU (o:=0) Tryz.isAgg3 rfl rfl)<|zA (zD rfl)<|zF<|zH<|zC ?_
     refine zA (zB rfl)<|zA (zB rfl)<|zA (zAv rfl rfl)<|zF ?_
     refine zX h rfl (fun b6 h => ?_) (fun b6 h => ?_)
     ·refine zH<|zC<|zA (zD rfl)<|zF<|zd ?_
      cases h
      exact zu (zAH rfl rfl)
     refine zP<|zC<|zM h fun b7 h=>zA (ze rfl rfl b7)<|zA (zB rfl)<|zF ?_
     exact ⟨(i2+1),z9 [] rfl rfl (by kernel_rfl),h⟩
    refine zw ?_
    exact ⟨(),z9 [] rfl rfl (by kernel_rfl),h⟩
   clear h
   intro _ h
   unfold zKi at h
   refine zC<|zM h fun b2 h=>zA (ze rfl rfl b2)<|zA (zB rfl)<|zF ?_
   exact ⟨(i1+1),z9 [] rfl rfl (by kernel_rfl),h⟩
  refine zw ?_
  exact ⟨(),z9 [] rfl rfl (by kernel_rfl),h⟩
 clear h
 intro _ h
 unfold zKs at h
 refine zH<|zC<|zA (zD rfl)<|zF<|zd ?_
 cases h
 exact zu (zAH rfl rfl)
theorem zPd {X:List Int} {U:Int} {V:Int} {r:Bool} (h:zMR X U V=some r):PFn Tryz.prog 143 [ls cI X,li U,li V] (AV.lit (.bool r)):=by
 refine zo Tryz.func143 rfl Tryz.ntmps143 Tryz.results143 rfl ?_
 unfold zMR at h
 refine zH<|zC<|zA (zD rfl)<|zF ?_
 refine zt (r:=r) (fun (_:Unit)=>mkE []) (fun _=>[]) (fun _=>zKu ) ?_ ?_
 ·
  refine zH<|zC<|zA (zB rfl)<|zA (zD rfl)<|zF<|zQ ?_
  refine zq (σ:=Int) (fun i1=>mkE [(0,(ls cI X)),(1,(li U)),(2,(li V)),(7,(li i1))]) (fun i1=>[]) (fun n0 i1=>zIP X U V n0 i1) U h (fun _=>rfl) (z9 [] rfl rfl (by kernel_rfl)) ?_
  clear h
  intro n0 i1 h
  replace h:zFu X U V (zIP X U V n0) i1=some r:=h
  unfold zFu at h
  refine zH<|zH<|zC<|zA (zB rfl)<|zA (zB rfl)<|zA (zB rfl) ?_
  refine zM h fun b1 h=>zA (zE1 (k' := .u64) (a:=V) Tryz.underlying3 Tryz.underlying74 rfl b1)<|zM h fun b2 h=>zM h fun b3 h=>zA (zCw (a:=1) (b:=V) rfl rfl b2 b3)<|zM h fun b4 h => ?_
  refine zA (ze rfl rfl b4)<|zA (zf rfl rfl)<|zF ?_
  refine zX h rfl (fun b5 h => ?_) (fun b5 h => ?_)
  ·refine zP<|zH<|zQ<|zH<|zC<|zA (zB rfl) ?_
   refine zA (zB rfl)<|zM h fun b6 h=>zA (zT Tryz.underlying22 Tryz.sizeOf3 (fun _=>rfl) rfl rfl b6)<|zA (zU (o:=0) Tryz.isAgg3 rfl rfl)<|zA (zAv rfl rfl)<|zF ?_
   refine zX h rfl (fun b7 h => ?_) (fun b7 h => ?_)
   ·refine zH<|zC<|zA (zD rfl)<|zF<|zd ?_
    cases h
    exact zu (zAH rfl rfl)
   refine zP<|zC<|zA (zB rfl)<|zM h fun b8 h=>zA (ze rfl rfl b8)<|zA (zD rfl) ?_
   refine zF ?_
   exact ⟨(i1+1),z9 [] rfl rfl (by kernel_rfl),h⟩
  refine zw ?_
  exact ⟨(),z9 [] rfl rfl (by kernel_rfl),h⟩
 clear h
 intro _ h
 unfold zKu at h
 refine zH<|zC<|zA (zD rfl)<|zF<|zd ?_
 cases h
 exact zu (zAH rfl rfl)
theorem zMM {A:zi} {D:List Int} {r:zi} (h:zF2 A D=some r):PFn Tryz.prog 121 [(AV.agg (zO A)),ls cI D] (AV.agg (zO r)):=by
 refine zo Tryz.func121 rfl Tryz.ntmps121 Tryz.results121 rfl ?_
 unfold zF2 at h
 refine zH<|zC<|za (H':=[.box 51 (zO A)]) (zv (t:=51) rfl)<|za (H':=[.box 51 (zO A),.box 51 (zO ⟨0,0,0,0,0,(List.replicate 5 ([]:List Int))⟩)]) zv0<|zF<|zH ?_
 refine zC<|zA (zK Tryz.underlying51 rfl rfl Tryz.sizeOf3 rfl)<|zA (zN Tryz.isAgg3 rfl rfl rfl rfl)<|zA (zK Tryz.underlying51 rfl rfl Tryz.sizeOf3 rfl)<|zA (zN Tryz.isAgg3 rfl rfl rfl rfl)<|zA (zK Tryz.underlying51 rfl rfl Tryz.sizeOf3 rfl) ?_
 refine zA (zN Tryz.isAgg3 rfl rfl rfl rfl)<|zA (zK Tryz.underlying51 rfl rfl Tryz.sizeOf3 rfl)<|zA (zN Tryz.isAgg3 rfl rfl rfl rfl)<|zA (zK Tryz.underlying51 rfl rfl Tryz.sizeOf3 rfl)<|zA (zN Tryz.isAgg3 rfl rfl rfl rfl)<|zA (zCV (pl:=[(0,1),(1,1),(2,1),(3,1),(4,1),(5,5)]) (zs:=[.int .i64 0,.int .i64 0,.int .i64 0,.int .i64 0,.int .i64 0,.slice none 0 0,.slice none 0 0,.slice none 0 0,.slice none 0 0,.slice none 0 0]) (zc:=[.lit (.int .i64 0),.lit (.int .i64 0),.lit (.int .i64 0),.lit (.int .i64 0),.lit (.int .i64 0),.osl 3 1 [],.osl 3 1 [],.osl 3 1 [],.osl 3 1 [],.osl 3 1 []]) (res:=([li A.node,li A.kind,li A.start,li A.count,li A.min]++((cM 5 3 (5:Int) (List.replicate 5 ([]:List Int)))++[]))) (fun _=>by kernel_rfl) rfl (⟨zAt.refl _,⟨zAt.refl _,⟨zAt.refl _,⟨zAt.refl _,⟨zAt.refl _,⟨zAt.nilo,⟨zAt.nilo,⟨zAt.nilo,⟨zAt.nilo,⟨zAt.nilo,trivial⟩⟩⟩⟩⟩⟩⟩⟩⟩⟩) ⟨li A.node,0,1,rfl,rfl,rfl,rfl,rfl,⟨li A.kind,1,1,rfl,rfl,rfl,rfl,rfl,⟨li A.start,2,1,rfl,rfl,rfl,rfl,rfl,⟨li A.count,3,1,rfl,rfl,rfl,rfl,rfl,⟨li A.min,4,1,rfl,rfl,rfl,rfl,rfl,(by exact zLT.refl _)⟩⟩⟩⟩⟩) ?_
 refine za (H':=[.box 51 (zO A),.box 51 (zO ⟨0,0,0,0,0,(List.replicate 5 ([]:List Int))⟩),.box 51 (zO ⟨0,0,0,0,0,(List.replicate 5 ([]:List Int))⟩)]) zv0<|zj (H':=[.box 51 (zO A),.box 51 (zO ⟨0,0,0,0,0,(List.replicate 5 ([]:List Int))⟩),.box 51 ([li A.node,li A.kind,li A.start,li A.count,li A.min]++((cM 5 3 (5:Int) (List.replicate 5 ([]:List Int)))++[]))]) (zY (k:=2) (o:=0) (cs:=(zO ⟨0,0,0,0,0,(List.replicate 5 ([]:List Int))⟩)) (la:=([li A.node,li A.kind,li A.start,li A.count,li A.min]++((cM 5 3 (5:Int) (List.replicate 5 ([]:List Int)))++[]))) Tryz.sizeOf51 rfl rfl rfl rfl)<|zF<|zH<|zC<|zA (zB rfl) ?_
 refine zA (zV Tryz.underlying22 rfl)<|zM h fun b1 h=>zEa (f:=cI) (a:=(D.length:Int)) (c:=(D.length:Int)) (d0:=0) zE0 ⟨zAt.refl _,trivial⟩ rfl Tryz.underlying22 rfl rfl b1<|zA (zD rfl)<|zF ?_
 refine zt (r:=r) (fun (l1:List Int)=>mkE [(2,(AV.ptr 0 0)),(4,(AV.ptr 1 0)),(5,(AV.ptr 2 0)),(6,(AV.hd 3))]) (fun l1=>[.box 51 (zO A),.box 51 (zO ⟨0,0,0,0,0,(List.replicate 5 ([]:List Int))⟩),.box 51 ([li A.node,li A.kind,li A.start,li A.count,li A.min]++((cM 5 3 (5:Int) (List.replicate 5 ([]:List Int)))++[])),.vec 3 1 (List.map cI l1)]) (fun l1=>zHO A l1) ?_ ?_
 ·
  refine zH<|zC<|zA (zD rfl)<|zF<|zQ<|zq (σ:=Int×(List Int)) (fun (i4,l12)=>mkE [(1,(ls cI D)),(2,(AV.ptr 0 0)),(4,(AV.ptr 1 0)),(5,(AV.ptr 2 0)),(6,(AV.hd 3)),(7,(li i4))]) (fun (i4,l12)=>[.box 51 (zO A),.box 51 (zO ⟨0,0,0,0,0,(List.replicate 5 ([]:List Int))⟩),.box 51 ([li A.node,li A.kind,li A.start,li A.count,li A.min]++((cM 5 3 (5:Int) (List.replicate 5 ([]:List Int)))++[])),.vec 3 1 (List.map cI l12)]) (fun n3 (i4,l12)=>zHT A D n3 i4 l12) (0,(List.replicate (D.length:Int).toNat 0)) h (fun _=>rfl) (z9 [0,1,2,3] rfl rfl (by kernel_rfl)) ?_
  clear h
  rintro n3 ⟨i4,l12⟩ h
  replace h:zEh A D (zHT A D n3) i4 l12=some r:=h
  unfold zEh at h
  refine zH<|zH<|zC<|zA (zB rfl)<|zA (zB rfl)<|zA (zV Tryz.underlying22 rfl) ?_
  refine zA (zf rfl rfl)<|zF ?_
  refine zX h rfl (fun b18 h => ?_) (fun b18 h => ?_)
  ·refine zP<|zH<|zQ<|zC<|zA (zB rfl)<|zA (zB rfl) ?_
   refine zA (zB rfl)<|zA (zB rfl)<|zM h fun b19 h=>zA (zT Tryz.underlying22 Tryz.sizeOf3 (fun _=>rfl) rfl rfl b19)<|zA (zU (o:=0) Tryz.isAgg3 rfl rfl)<|zM h fun b20 h => ?_
   refine zA (zy (f:=cI) (l:=l12) (i:=i4) Tryz.underlying22 Tryz.sizeOf3 rfl rfl rfl b20)<|zj (H':=[.box 51 (zO A),.box 51 (zO ⟨0,0,0,0,0,(List.replicate 5 ([]:List Int))⟩),.box 51 ([li A.node,li A.kind,li A.start,li A.count,li A.min]++((cM 5 3 (5:Int) (List.replicate 5 ([]:List Int)))++[])),.vec 3 1 (List.map cI (l12.set i4.toNat (at_ D i4)))]) (zBt (k:=3) (o:=(i4.toNat*1)) (f:=cI) (l:=l12) (i:=i4) (c:=0) (a:=(li (at_ D i4))) (z:=at_ D i4) Tryz.sizeOf3 rfl rfl (by first | rfl | omega) b20 rfl rfl rfl rfl rfl)<|zF<|zC<|zA (zB rfl)<|zM h fun b21 h => ?_
   refine zA (ze rfl rfl b21)<|zA (zD rfl)<|zF ?_
   exact ⟨((i4+1),(l12.set i4.toNat (at_ D i4))),z9 [0,1,2,3] rfl rfl (by kernel_rfl),h⟩
  refine zw ?_
  exact ⟨l12,z9 [0,1,2,3] rfl rfl (by kernel_rfl),h⟩
 clear h
 intro l1 h
 unfold zHO at h
 refine zt (r:=r) (fun (l2:List (List Int))=>mkE [(4,(AV.ptr 0 0)),(5,(AV.ptr 1 0))]) (fun l2=>[.box 51 (zO ⟨0,0,0,0,0,(List.replicate 5 ([]:List Int))⟩),.box 51 ([li A.node,li A.kind,li A.start,li A.count,li A.min]++((cM 5 3 (5:Int) l2)++[]))]) (fun l2=>zKW A l2) ?_ ?_
 ·
  refine zH<|zC<|zA (zD rfl)<|zF<|zQ<|zq (σ:=Int×(List (List Int))×(List Int)) (fun (i1,l3,l4)=>mkE [(2,(AV.ptr 0 0)),(4,(AV.ptr 1 0)),(5,(AV.ptr 2 0)),(6,(AV.hd 3)),(8,(li i1))]) (fun (i1,l3,l4)=>[.box 51 (zO A),.box 51 (zO ⟨0,0,0,0,0,(List.replicate 5 ([]:List Int))⟩),.box 51 ([li A.node,li A.kind,li A.start,li A.count,li A.min]++((cM 5 3 (5:Int) l3)++[])),.vec 3 1 (List.map cI l4)]) (fun n0 (i1,l3,l4)=>zBQ A n0 i1 l3 l4) (4,(List.replicate 5 ([]:List Int)),l1) h (fun _=>rfl) (z9 [0,1,2,3] rfl rfl (by kernel_rfl)) ?_
  clear h
  rintro n0 ⟨i1,l3,l4⟩ h
  replace h:zEn A (zBQ A n0) i1 l3 l4=some r:=h
  unfold zEn at h
  refine zH<|zH<|zC<|zA (zB rfl)<|zA (zAw rfl rfl)<|zF ?_
  refine zX h rfl (fun b2 h => ?_) (fun b2 h => ?_)
  ·refine zP ?_
   refine zt (r:=r) (fun ((l5,l6):(List (List Int))×(List Int))=>mkE [(2,(AV.ptr 0 0)),(4,(AV.ptr 1 0)),(5,(AV.ptr 2 0)),(6,(AV.hd 3)),(8,(li i1))]) (fun (l5,l6)=>[.box 51 (zO A),.box 51 (zO ⟨0,0,0,0,0,(List.replicate 5 ([]:List Int))⟩),.box 51 ([li A.node,li A.kind,li A.start,li A.count,li A.min]++((cM 5 3 (5:Int) l5)++[])),.vec 3 1 (List.map cI l6)]) (fun (l5,l6)=>zIw (zBQ A n0) i1 l5 l6) ?_ ?_
   ·
    refine zQ<|zH<|zC<|zA (zK Tryz.underlying51 rfl rfl Tryz.sizeOf3 rfl)<|zA (zN Tryz.isAgg3 rfl rfl rfl rfl)<|zA (zD rfl) ?_
    refine zF<|zQ<|zq (σ:=Int×(List (List Int))×(List Int)) (fun (i2,l7,l8)=>mkE [(2,(AV.ptr 0 0)),(4,(AV.ptr 1 0)),(5,(AV.ptr 2 0)),(6,(AV.hd 3)),(8,(li i1)),(9,(li i2))]) (fun (i2,l7,l8)=>[.box 51 (zO A),.box 51 (zO ⟨0,0,0,0,0,(List.replicate 5 ([]:List Int))⟩),.box 51 ([li A.node,li A.kind,li A.start,li A.count,li A.min]++((cM 5 3 (5:Int) l7)++[])),.vec 3 1 (List.map cI l8)]) (fun n1 (i2,l7,l8)=>zCn (zBQ A n0) A i1 n1 i2 l7 l8) (A.start,l3,l4) h (fun _=>rfl) (z9 [0,1,2,3] rfl rfl (by kernel_rfl)) ?_
    clear h
    rintro n1 ⟨i2,l7,l8⟩ h
    replace h:zEg (zBQ A n0) A i1 (zCn (zBQ A n0) A i1 n1) i2 l7 l8=some r:=h
    unfold zEg at h
    refine zH<|zH<|zC<|zA (zB rfl)<|zA (zK Tryz.underlying51 rfl rfl Tryz.sizeOf3 rfl)<|zA (zN Tryz.isAgg3 rfl rfl rfl rfl) ?_
    refine zA (zK Tryz.underlying51 rfl rfl Tryz.sizeOf3 rfl)<|zA (zN Tryz.isAgg3 rfl rfl rfl rfl)<|zM h fun b4 h=>zA (ze rfl rfl b4)<|zA (zf rfl rfl)<|zF ?_
    refine zX h rfl (fun b5 h => ?_) (fun b5 h => ?_)
    ·refine zP ?_
     refine zt (r:=r) (fun ((l9,l10):(List (List Int))×(List Int))=>mkE [(2,(AV.ptr 0 0)),(4,(AV.ptr 1 0)),(5,(AV.ptr 2 0)),(6,(AV.hd 3)),(8,(li i1)),(9,(li i2))]) (fun (l9,l10)=>[.box 51 (zO A),.box 51 (zO ⟨0,0,0,0,0,(List.replicate 5 ([]:List Int))⟩),.box 51 ([li A.node,li A.kind,li A.start,li A.count,li A.min]++((cM 5 3 (5:Int) l9)++[])),.vec 3 1 (List.map cI l10)]) (fun (l9,l10)=>zEr (zCn (zBQ A n0) A i1 n1) i2 l9 l10) ?_ ?_
     ·
      refine zQ<|zH<|zC<|zA (zS (k:=0) (o:=0) (m:=10) Tryz.isAgg51 Tryz.sizeOf51 rfl rfl rfl rfl rfl)<|zA (zB rfl)<|zA (zB rfl) ?_
      refine zR h fun x1 w1 h=>zh Tryz.func72 rfl (by kernel_rfl) (.fn 72) rfl rfl (zGG w1) rfl<|zA (zB rfl)<|zm rfl rfl (fun c1=>zp.step (zB rfl))<|zm rfl rfl (fun c2=>zp.step (zB rfl))<|zm rfl rfl (fun c3=>zp.step (zB rfl)) ?_
      refine zR h fun x2 w2 h=>zCy (g:=57) (s:=x1) (r':=(AV.lit (.bool x2))) rfl rfl (fun c4=>⟨143,_,_,[],[AV.hd 3,li i2,li i1],[ls cI l8,li i2,li i1],(AV.lit (.bool x2)),[3],Tryz.func143,rfl,by kernel_rfl,.fn 143,(zAM (z6 rfl c4) (zAM (z6 rfl c4) (zAM (z6 rfl c4) rfl))),⟨zHy (fun _=>rfl) rfl rfl,zAs.nr rfl,zAs.nr rfl,trivial⟩,zPd (zGm c4 w2),.inr trivial,rfl⟩)<|zA (zx (j := .lit undef) rfl rfl)<|zF ?_
      refine zX h rfl (fun b7 h => ?_) (fun b7 h => ?_)
      ·refine zH<|zC<|zA (zB rfl)<|zA (zB rfl)<|zA (zK Tryz.underlying51 rfl rfl Tryz.sizeOf49 rfl)<|zM h fun b8 h => ?_
       refine zA (zAO (m:=5) (s:=1) (i:=i1) (k:=2) (o:=5) Tryz.underlying49 Tryz.sizeOf22 rfl rfl b8)<|zM h fun b9 h=>zAA (zKC (k:=2) (cs:=([li A.node,li A.kind,li A.start,li A.count,li A.min]++((cM 5 3 (5:Int) l7)++[]))) (hd:=([li A.node]++[li A.kind]++[li A.start]++[li A.count]++[li A.min]++[])) (tl:=([])) (N:=5) (T:=3) (K:=5) (l:=l7) (i:=i1) rfl rfl b8 b9)<|zA (zFD (k:=2) (o:=(5+i1.toNat*1)) (cs:=([li A.node,li A.kind,li A.start,li A.count,li A.min]++((List.set (cM 5 3 (5:Int) l7) i1.toNat (AV.hd 4))++[]))) (hd:=([li A.node]++[li A.kind]++[li A.start]++[li A.count]++[li A.min]++[])) (tl:=([])) (s:=(cM 5 3 (5:Int) l7)) (i:=i1) (j:=4) Tryz.isAgg22 rfl rfl rfl (congrArg (fun q=>5+q) (Nat.mul_one _)) (zIq b8))<|zA (zB rfl)<|zEP (a:=(li i2)) zE0 Tryz.underlying22 rfl rfl rfl rfl ?_
       refine zM h fun b10 h=>zBp (f:=cI) (k:=4) (j:=5) (l:=l7.getD i1.toNat []) (l':=[i2]) zE0 (fun _=>rfl) Tryz.underlying22 rfl rfl rfl rfl b10<|zA (zK Tryz.underlying51 rfl rfl Tryz.sizeOf49 rfl)<|zA (zAO (m:=5) (s:=1) (i:=i1) (k:=2) (o:=5) Tryz.underlying49 Tryz.sizeOf22 rfl rfl b8)<|zj (H':=[.box 51 (zO A),.box 51 (zO ⟨0,0,0,0,0,(List.replicate 5 ([]:List Int))⟩),.box 51 ([li A.node,li A.kind,li A.start,li A.count,li A.min]++((List.set (cM 5 3 (5:Int) l7) i1.toNat (AV.hd 6))++[])),.vec 3 1 (List.map cI l8),.dead,.vec 3 1 (List.map cI [i2]),.vec 3 1 (List.map cI ((l7.getD i1.toNat [])++[i2]))]) (zIV (k:=2) (o:=(5+i1.toNat*1)) (cs:=([li A.node,li A.kind,li A.start,li A.count,li A.min]++((List.set (cM 5 3 (5:Int) l7) i1.toNat (AV.hd 4))++[]))) (hd:=([li A.node]++[li A.kind]++[li A.start]++[li A.count]++[li A.min]++[])) (tl:=([])) (s:=(cM 5 3 (5:Int) l7)) (i:=i1) (a:=(AV.hd 6)) Tryz.sizeOf22 rfl rfl rfl (congrArg (fun q=>5+q) (Nat.mul_one _)) (zIq b8) rfl rfl)<|zF ?_
       refine zH<|zC<|zA (zB rfl)<|zA (zD rfl)<|zF<|zQ ?_
       refine zq (σ:=Int×(List Int)) (fun (i3,l11)=>mkE [(2,(AV.ptr 0 0)),(4,(AV.ptr 1 0)),(5,(AV.ptr 2 0)),(6,(AV.hd 3)),(8,(li i1)),(9,(li i2)),(10,(li i3))]) (fun (i3,l11)=>[.box 51 (zO A),.box 51 (zO ⟨0,0,0,0,0,(List.replicate 5 ([]:List Int))⟩),.box 51 ([li A.node,li A.kind,li A.start,li A.count,li A.min]++((cM 5 3 (5:Int) (zEN 5 [] l7 i1.toNat ((l7.getD i1.toNat [])++[i2])))++[])),.vec 3 1 (List.map cI l11)]) (fun n2 (i3,l11)=>zGz (zCn (zBQ A n0) A i1 n1) i1 i2 l7 n2 i3 l11) (i2,l8) h (fun _=>rfl) (Rep.trans (zKB (j:=6) (l':=(l7.getD i1.toNat [])++[i2]) (k:=2) (cs:=([li A.node,li A.kind,li A.start,li A.count,li A.min]++((List.set (cM 5 3 (5:Int) l7) i1.toNat (AV.hd 6))++[]))) (hd:=([li A.node]++[li A.kind]++[li A.start]++[li A.count]++[li A.min]++[])) (tl:=([])) (N:=5) (T:=3) (K:=5) (l:=l7) (i:=i1) rfl rfl b8 b9 rfl rfl) (z9 [0,1,2,3] (l:=[(2,(AV.ptr 0 0)),(4,(AV.ptr 1 0)),(5,(AV.ptr 2 0)),(6,(AV.hd 3)),(8,(li i1)),(9,(li i2)),(10,(li i2))]) rfl rfl (by kernel_rfl))) ?_
       clear h
       rintro n2 ⟨i3,l11⟩ h
       replace h:zEu (zCn (zBQ A n0) A i1 n1) i1 i2 l7 (zGz (zCn (zBQ A n0) A i1 n1) i1 i2 l7 n2) i3 l11=some r:=h
       unfold zEu at h
       refine zH<|zH<|zC<|zA (zB rfl)<|zA (zB rfl)<|zA (zB rfl) ?_
       refine zM h fun b11 h=>zA (zE1 (k' := .u64) (a:=i1) Tryz.underlying3 Tryz.underlying74 rfl b11)<|zM h fun b12 h=>zM h fun b13 h=>zA (zCw (a:=1) (b:=i1) rfl rfl b12 b13)<|zM h fun b14 h => ?_
       refine zA (ze rfl rfl b14)<|zA (zf rfl rfl)<|zF ?_
       refine zX h rfl (fun b15 h => ?_) (fun b15 h => ?_)
       ·refine zP<|zH<|zQ<|zC<|zA (zB rfl)<|zA (zB rfl) ?_
        refine zM h fun b16 h=>zA (zy (f:=cI) (l:=l11) (i:=i3) Tryz.underlying22 Tryz.sizeOf3 rfl rfl rfl b16)<|zj (H':=[.box 51 (zO A),.box 51 (zO ⟨0,0,0,0,0,(List.replicate 5 ([]:List Int))⟩),.box 51 ([li A.node,li A.kind,li A.start,li A.count,li A.min]++((cM 5 3 (5:Int) (zEN 5 [] l7 i1.toNat ((l7.getD i1.toNat [])++[i2])))++[])),.vec 3 1 (List.map cI (l11.set i3.toNat 0))]) (zBt (k:=3) (o:=(i3.toNat*1)) (f:=cI) (l:=l11) (i:=i3) (c:=0) (a:=(li 0)) (z:=0) Tryz.sizeOf3 rfl rfl (by first | rfl | omega) b16 rfl rfl rfl rfl rfl)<|zF<|zC<|zA (zB rfl) ?_
        refine zM h fun b17 h=>zA (ze rfl rfl b17)<|zA (zD rfl)<|zF ?_
        exact ⟨((i3+1),(l11.set i3.toNat 0)),z9 [0,1,2,3] rfl rfl (by kernel_rfl),h⟩
       refine zw ?_
       exact ⟨((zEN 5 [] l7 i1.toNat ((l7.getD i1.toNat [])++[i2])),l11),z9 [0,1,2,3] rfl rfl (by kernel_rfl),h⟩
      refine zP ?_
      exact ⟨(l7,l8),z9 [0,1,2,3] rfl rfl (by kernel_rfl),h⟩
     clear h
     rintro ⟨l9,l10⟩ h
     unfold zEr at h
     refine zC<|zA (zB rfl)<|zM h fun b6 h=>zA (ze rfl rfl b6)<|zA (zD rfl)<|zF ?_
     exact ⟨((i2+1),l9,l10),z9 [0,1,2,3] rfl rfl (by kernel_rfl),h⟩
    refine zw ?_
    exact ⟨(l7,l8),z9 [0,1,2,3] rfl rfl (by kernel_rfl),h⟩
   clear h
   rintro ⟨l5,l6⟩ h
   unfold zIw at h
   refine zC<|zA (zB rfl)<|zM h fun b3 h=>zA (zBS rfl rfl b3)<|zA (zD rfl)<|zF ?_
   exact ⟨((i1 - 1),l5,l6),z9 [0,1,2,3] rfl rfl (by kernel_rfl),h⟩
  refine zw ?_
  exact ⟨l3,z9 [1,2] rfl rfl (by kernel_rfl),h⟩
 clear h
 intro l2 h
 unfold zKW at h
 refine zH<|zC<|zAA (zK7 (k:=1) (cs:=([li A.node,li A.kind,li A.start,li A.count,li A.min]++((cM 5 3 (5:Int) l2)++[]))) (hd:=([li A.node]++[li A.kind]++[li A.start]++[li A.count]++[li A.min]++[])) (tl:=([])) (N:=5) (T:=3) (K:=5) (l:=l2) rfl rfl)<|zA (zS (k:=1) (o:=0) (m:=10) Tryz.isAgg51 Tryz.sizeOf51 rfl rfl rfl rfl rfl)<|zj (H':=[.box 51 (zO (⟨A.node,A.kind,A.start,A.count,A.min,l2⟩:zi)),.box 51 (zO ⟨A.node,A.kind,A.start,A.count,A.min,l2⟩)]) (zY (k:=0) (o:=0) (cs:=(zO ⟨0,0,0,0,0,(List.replicate 5 ([]:List Int))⟩)) (la:=(zO (⟨A.node,A.kind,A.start,A.count,A.min,l2⟩:zi))) Tryz.sizeOf51 rfl rfl rfl rfl)<|zF ?_
 refine zd ?_
 cases h
 exact zu (zFM Tryz.isAgg51 Tryz.sizeOf51 rfl rfl rfl rfl)
theorem zO2 {C:zi} {U:Int} {V:Int} {r:zi×Int} (h:zI2 C U V=some r):PFn Tryz.prog 73 [(AV.agg (zO C)),li U,li V] (AV.tup [(AV.agg (zO r.1)),li r.2]):=by
 refine zo Tryz.func73 rfl Tryz.ntmps73 Tryz.results73 rfl ?_
 unfold zI2 at h
 refine zH<|zC<|za (H':=[.box 51 (zO C)]) (zv (t:=51) rfl)<|za (H':=[.box 51 (zO C),.box 51 (zO ⟨0,0,0,0,0,(List.replicate 5 ([]:List Int))⟩)]) zv0<|zA (zD rfl)<|zF ?_
 refine zH<|zH<|zC<|zA (zS (k:=0) (o:=0) (m:=10) Tryz.isAgg51 Tryz.sizeOf51 rfl rfl rfl rfl rfl)<|zR h fun x1 w1 h=>zh Tryz.func47 rfl (by kernel_rfl) (.fn 47) rfl rfl (zHw w1) rfl ?_
 refine zA (zD rfl)<|zF<|zH<|zC<|zA (zB rfl)<|zA (zz rfl rfl) ?_
 refine zF ?_
 refine zX h rfl (fun b1 h => ?_) (fun b1 h => ?_)
 ·refine zH<|zC<|zA zv9<|zA (zB rfl)<|zj (H':=[.box 51 (zO C),.box 51 (zO (⟨0,0,0,0,0,(List.replicate 5 ([]:List Int))⟩:zi))]) (zY (k:=1) (o:=0) (cs:=(zO ⟨0,0,0,0,0,(List.replicate 5 ([]:List Int))⟩)) (la:=(zO (⟨0,0,0,0,0,(List.replicate 5 ([]:List Int))⟩:zi))) Tryz.sizeOf51 rfl rfl rfl rfl)<|zA (zD rfl) ?_
  refine zF<|zd ?_
  cases h
  exact zBy (zFM Tryz.isAgg51 Tryz.sizeOf51 rfl rfl rfl rfl) (zAH rfl rfl) rfl
 refine zP<|zH<|zH<|zC<|zA (zS (k:=0) (o:=0) (m:=10) Tryz.isAgg51 Tryz.sizeOf51 rfl rfl rfl rfl rfl)<|zA (zB rfl) ?_
 refine zA (zB rfl)<|zR h fun x2 w2 h=>zh Tryz.func72 rfl (by kernel_rfl) (.fn 72) rfl rfl (zGG w2) rfl<|zA (zBE (t:=x2) rfl)<|zF ?_
 refine zX h rfl (fun b2 h => ?_) (fun b2 h => ?_)
 ·refine zH<|zC<|zA zv9<|zj (H':=[.box 51 (zO C),.box 51 (zO (⟨0,0,0,0,0,(List.replicate 5 ([]:List Int))⟩:zi))]) (zY (k:=1) (o:=0) (cs:=(zO ⟨0,0,0,0,0,(List.replicate 5 ([]:List Int))⟩)) (la:=(zO (⟨0,0,0,0,0,(List.replicate 5 ([]:List Int))⟩:zi))) Tryz.sizeOf51 rfl rfl rfl rfl)<|zA (zD rfl)<|zF ?_
  refine zd ?_
  cases h
  exact zBy (zFM Tryz.isAgg51 Tryz.sizeOf51 rfl rfl rfl rfl) (zAH rfl rfl) rfl
 refine zP<|zH<|zC<|zA (zS (k:=0) (o:=0) (m:=10) Tryz.isAgg51 Tryz.sizeOf51 rfl rfl rfl rfl rfl)<|zR h fun x3 w3 h=>zHI (T:=3) (sz:=1) (rows:=List.map cI x3) (la:=[(AV.agg (zO C))]) (la':=[(AV.agg (zO C))]) (S:=[]) Tryz.func95 rfl (by kernel_rfl) (.fn 95) rfl ⟨zAs.nr rfl,trivial⟩ (zJd w3) (.inl rfl) ?_
 refine zA (zD rfl)<|zF ?_
 refine zt (r:=r) (fun (l1:List Int)=>mkE [(3,(AV.ptr 0 0)),(6,(AV.ptr 1 0)),(9,(AV.hd 2))]) (fun l1=>[.box 51 (zO C),.box 51 (zO ⟨0,0,0,0,0,(List.replicate 5 ([]:List Int))⟩),.vec 3 1 (List.map cI l1)]) (fun l1=>zIv C l1) ?_ ?_
 ·
  refine zH<|zC<|zA (zB rfl)<|zA (zD rfl)<|zF<|zQ ?_
  refine zq (σ:=Int×(List Int)) (fun (i1,l2)=>mkE [(1,(li U)),(2,(li V)),(3,(AV.ptr 0 0)),(6,(AV.ptr 1 0)),(9,(AV.hd 2)),(10,(li i1))]) (fun (i1,l2)=>[.box 51 (zO C),.box 51 (zO ⟨0,0,0,0,0,(List.replicate 5 ([]:List Int))⟩),.vec 3 1 (List.map cI l2)]) (fun n0 (i1,l2)=>zHC C U V n0 i1 l2) (U,x3) h (fun _=>rfl) (z9 [0,1,2] rfl rfl (by kernel_rfl)) ?_
  clear h
  rintro n0 ⟨i1,l2⟩ h
  replace h:zEt C U V (zHC C U V n0) i1 l2=some r:=h
  unfold zEt at h
  refine zH<|zH<|zC<|zA (zB rfl)<|zA (zB rfl)<|zA (zB rfl) ?_
  refine zM h fun b3 h=>zA (zE1 (k' := .u64) (a:=V) Tryz.underlying3 Tryz.underlying74 rfl b3)<|zM h fun b4 h=>zM h fun b5 h=>zA (zCw (a:=1) (b:=V) rfl rfl b4 b5)<|zM h fun b6 h => ?_
  refine zA (ze rfl rfl b6)<|zA (zf rfl rfl)<|zF ?_
  refine zX h rfl (fun b7 h => ?_) (fun b7 h => ?_)
  ·refine zP<|zH<|zQ<|zH<|zH<|zC ?_
   refine zA (zB rfl)<|zA (zB rfl)<|zM h fun b8 h=>zA (zy (f:=cI) (l:=l2) (i:=i1) Tryz.underlying22 Tryz.sizeOf3 rfl rfl rfl b8)<|zA (zAq (f:=cI) (l:=l2) (i:=i1) (c:=0) (a:=(li (at_ l2 i1))) Tryz.isAgg3 rfl rfl (by first | rfl | omega) b8 rfl rfl)<|zA (zAh rfl rfl) ?_
   refine zF ?_
   refine zX h rfl (fun b9 h => ?_) (fun b9 h => ?_)
   ·refine zH<|zC<|zA zv9<|zj (H':=[.box 51 (zO C),.box 51 (zO (⟨0,0,0,0,0,(List.replicate 5 ([]:List Int))⟩:zi)),.vec 3 1 (List.map cI l2)]) (zY (k:=1) (o:=0) (cs:=(zO ⟨0,0,0,0,0,(List.replicate 5 ([]:List Int))⟩)) (la:=(zO (⟨0,0,0,0,0,(List.replicate 5 ([]:List Int))⟩:zi))) Tryz.sizeOf51 rfl rfl rfl rfl)<|zA (zD rfl)<|zF ?_
    refine zd ?_
    cases h
    exact zBy (zFM Tryz.isAgg51 Tryz.sizeOf51 rfl rfl rfl rfl) (zAH rfl rfl) rfl
   refine zP<|zC<|zA (zB rfl)<|zA (zB rfl)<|zA (zy (f:=cI) (l:=l2) (i:=i1) Tryz.underlying22 Tryz.sizeOf3 rfl rfl rfl b8)<|zj (H':=[.box 51 (zO C),.box 51 (zO ⟨0,0,0,0,0,(List.replicate 5 ([]:List Int))⟩),.vec 3 1 (List.map cI (l2.set i1.toNat 1))]) (zBt (k:=2) (o:=(i1.toNat*1)) (f:=cI) (l:=l2) (i:=i1) (c:=0) (a:=(li 1)) (z:=1) Tryz.sizeOf3 rfl rfl (by first | rfl | omega) b8 rfl rfl rfl rfl rfl) ?_
   refine zF<|zC<|zA (zB rfl)<|zM h fun b10 h=>zA (ze rfl rfl b10)<|zA (zD rfl) ?_
   refine zF ?_
   exact ⟨((i1+1),(l2.set i1.toNat 1)),z9 [0,1,2] rfl rfl (by kernel_rfl),h⟩
  refine zw ?_
  exact ⟨l2,z9 [0,1,2] rfl rfl (by kernel_rfl),h⟩
 clear h
 intro l1 h
 unfold zIv at h
 refine zH<|zC<|zA (zS (k:=0) (o:=0) (m:=10) Tryz.isAgg51 Tryz.sizeOf51 rfl rfl rfl rfl rfl)<|zA (zB rfl)<|zR h fun x4 w4 h=>zAA (zDR (j:=2) (ds:=[9,45]) (rows':=List.map cI l1) rfl (zAL (fun _=>rfl)) ⟨rfl,rfl,trivial⟩) ?_
 refine zR h fun x5 w5 h=>zh Tryz.func121 rfl (by kernel_rfl) (.fn 121) rfl rfl (zMM w5) rfl<|zj (H':=[.box 51 (zO C),.box 51 (zO x5),.dead]) (zY (k:=1) (o:=0) (cs:=(zO ⟨0,0,0,0,0,(List.replicate 5 ([]:List Int))⟩)) (la:=(zO x5)) Tryz.sizeOf51 rfl rfl rfl rfl)<|zA (zD rfl)<|zF<|zd ?_
 cases h
 exact zBy (zFM Tryz.isAgg51 Tryz.sizeOf51 rfl rfl rfl rfl) (zAH rfl rfl) rfl
theorem zO9 {B:zJ} {M:Int} {uF:List Int} {r:zJ} (h:zJ5 B M uF=some r):AFn Tryz.prog 70 [AV.ptr 0 0,li M,ls cI uF] [.box 26 ([ls cI B.nodes]++([li B.batch]++([li B.high]++([AV.osl 51 10 (List.map zO B.zones)]++([AV.osl 55 1 (List.map zG B.caches)]++[])))))] (.tup []) [.box 26 ([ls cI r.nodes]++([li r.batch]++([li r.high]++([AV.osl 51 10 (List.map zO r.zones)]++([AV.osl 55 1 (List.map zG r.caches)]++[])))))]:=by
 refine zEX Tryz.func70 rfl Tryz.ntmps70 Tryz.results70 rfl ?_
 unfold zJ5 at h
 refine zH<|zC<|zA (zD rfl)<|zF<|zQ<|zq (σ:=Int×(List zi)) (fun (i1,l1)=>mkE [(0,(AV.ptr 0 0)),(1,(li M)),(2,(ls cI uF)),(6,(li i1))]) (fun (i1,l1)=>[.box 26 [ls cI B.nodes,li B.batch,li B.high,AV.osl 51 10 (List.map zO l1),AV.osl 55 1 (List.map zG B.caches)]]) (fun n0 (i1,l1)=>zHU B M uF n0 i1 l1) (0,B.zones) h (fun _=>rfl) (z9 [0] rfl rfl (by kernel_rfl)) ?_
 clear h
 rintro n0 ⟨i1,l1⟩ h
 replace h:zEw B M uF (zHU B M uF n0) i1 l1=some r:=h
 unfold zEw at h
 refine zH<|zH<|zC<|zA (zB rfl)<|zA (zB rfl)<|zA (zV Tryz.underlying22 rfl) ?_
 refine zA (zf rfl rfl)<|zF ?_
 refine zX h rfl (fun b1 h => ?_) (fun b1 h => ?_)
 ·refine zP<|zH<|zQ<|zAT (zAd (k:=0) (o:=3) (t':=51) (sz:=10) (rows:=List.map zO l1) rfl rfl)<|zM h fun b2 h=>zM h fun b3 h => ?_
  refine zR h fun x1 w1 h => ?_
  refine zAl (n:=34) (m:=1) [.head 0 0,.head 0 0,.head 0 0,.head 0 0,.head 0 0,.head 0 0,.head 0 0,.head 0 0,.head 0 0,.head 0 0,.head 0 0,.head 0 0,.head 0 0,.head 0 0,.head 0 0,.head 0 0,.head 0 0,.head 0 0,.head 0 0,.head 0 1,.head 0 0,.tail 0] [21] [AV.ptr 0 0,AV.ptr 0 0,AV.ptr 0 3,AV.hd 1,li M,AV.ptr 0 0,AV.ptr 0 0,AV.ptr 0 3,AV.hd 1,li M,(AV.ptr 1 (M.toNat*10)),(AV.agg (zO (at_ l1 M))),ls cI uF,li i1,(AV.rp (cI (at_ uF i1)) 0),(li (at_ uF i1)),(AV.tup [(AV.agg (zO x1.1)),li x1.2]),(AV.tup [(AV.agg (zO x1.1)),li x1.2]),(AV.agg (zO x1.1)),li x1.2,(AV.ptr 1 (M.toNat*10)),.any] [[.box 26 [ls cI B.nodes,li B.batch,li B.high,AV.hd 1,AV.osl 55 1 (List.map zG B.caches)],.vec 51 10 (List.map zO l1)],[.box 26 [ls cI B.nodes,li B.batch,li B.high,AV.hd 1,AV.osl 55 1 (List.map zG B.caches)],.vec 51 10 (List.map zO (l1.set M.toNat x1.1))]] (by kernel_rfl) (by kernel_rfl) ⟨D1 fun e s p=>zB (s 0 rfl),D1 fun e s p=>zAB p.1,D1 fun e s p=>zK (k:=0) (o:=0) (off:=3) Tryz.underlying26 rfl rfl Tryz.sizeOf23 p.1,D1 fun e s p=>zN (k:=0) (o:=3) Tryz.isAgg23 p.1 rfl rfl rfl,D1 fun e s p=>zB (s 1 rfl),D1 fun e s p=>zB (s 0 rfl),D1 fun e s p=>zAB p.1,D1 fun e s p=>zK (k:=0) (o:=0) (off:=3) Tryz.underlying26 rfl rfl Tryz.sizeOf23 p.1,D1 fun e s p=>zN (k:=0) (o:=3) Tryz.isAgg23 p.1 rfl rfl rfl,D1 fun e s p=>zB (s 1 rfl),D1 fun e s p=>zy (f:=zO) (l:=l1) (i:=M) Tryz.underlying23 Tryz.sizeOf51 p.1 rfl p.2.1 b2,D1 fun e s p=>zBn (f:=zO) (l:=l1) (i:=M) (c:=0) (q:=10) (la:=(zO (at_ l1 M))) Tryz.isAgg51 Tryz.sizeOf51 p.1 rfl (by first | rfl | omega) b2 rfl rfl rfl,D1 fun e s p=>zB (s 2 rfl),D1 fun e s p=>zB (s 6 rfl),D1 fun e s p=>zT (f:=cI) (l:=uF) (i:=i1) Tryz.underlying22 Tryz.sizeOf3 (fun _=>rfl) p.1 p.2.1 b3,D1 fun e s p=>zU (o:=0) Tryz.isAgg3 p.1 rfl,?_,D1 fun e s p=>zB p.1,D1 fun e s p=>zb p.1 rfl,⟨D1 fun e s p=>zb p.1 rfl,D1 fun e s p=>zb p.1 rfl⟩,D1 fun e s p=>zy (f:=zO) (l:=l1) (i:=M) Tryz.underlying23 Tryz.sizeOf51 p.2.2.2.2.2.1 rfl p.2.2.2.2.2.2.1 b2,?_,trivial⟩ ?_
  ·
   intro e17 s17 p17
   refine zh (r:=(AV.tup [(AV.agg (zO x1.1)),li x1.2])) (la:=[(AV.agg (zO (at_ l1 M))),(li (at_ uF i1)),li 0]) Tryz.func73 rfl (by kernel_rfl) (.fn 73) (zAM p17.1 (zAM p17.2.1 (zAM rfl rfl))) rfl (zO2 w1) rfl ?_
   exact zF ⟨fun _=>rfl,rfl⟩
  ·
   intro e23 s23 p23
   refine zj (H':=[.box 26 [ls cI B.nodes,li B.batch,li B.high,AV.hd 1,AV.osl 55 1 (List.map zG B.caches)],.vec 51 10 (List.map zO (l1.set M.toNat x1.1))]) (zBR (k:=1) (o:=(M.toNat*10)) (f:=zO) (l:=l1) (i:=M) (z:=x1.1) Tryz.sizeOf51 (fun _=>rfl) (by exact p23.1) rfl (by first | rfl | omega) b2 (by exact p23.2.2.2.2.2.2.2.2.2.2.2.2.2.2.2.2.2.2.2.2.2.1) rfl) ?_
   exact zF ⟨fun _=>rfl,rfl⟩
  intro e24 s24 hq1
  refine zAT (zBM (l:=[(0,(AV.ptr 0 0)),(1,(li M)),(2,(ls cI uF)),(6,(li i1))]) ⟨s24 0 rfl,s24 1 rfl,s24 2 rfl,s24 6 rfl,trivial⟩)<|zC<|zA (zB (av:=(li i1)) rfl)<|zM h fun b4 h=>zA (ze (a:=i1) (b:=1) rfl rfl b4)<|zA (zD (av:=(li (i1+1))) rfl) ?_
  refine zF ?_
  exact ⟨((i1+1),(l1.set M.toNat x1.1)),Rep.trans (z7 (k:=0) (j:=1) (o:=3) rfl rfl rfl rfl) (z9 [0] (l:=[(0,(AV.ptr 0 0)),(1,(li M)),(2,(ls cI uF)),(6,(li (i1+1)))]) rfl rfl (by kernel_rfl)),h⟩
 refine zw ?_
 cases h
 exact ⟨mkE [],[.box 26 [ls cI B.nodes,li B.batch,li B.high,AV.osl 51 10 (List.map zO l1),AV.osl 55 1 (List.map zG B.caches)]],z9 [0] rfl rfl (by kernel_rfl),zLX rfl⟩
theorem zN7 {W:List zi} {r:Int} (h:zKR W=some r):PFn Tryz.prog 138 [ls zO W] (li r):=by
 refine zo Tryz.func138 rfl Tryz.ntmps138 Tryz.results138 rfl ?_
 unfold zKR at h
 refine zH<|zC<|zA (zD rfl)<|zF<|zH<|zH ?_
 refine zC<|zA (zB rfl)<|zA (zV Tryz.underlying23 rfl)<|zA (zAh rfl rfl)<|zF ?_
 refine zX h rfl (fun b1 h => ?_) (fun b1 h => ?_)
 ·refine zH<|zC<|zA (zD rfl)<|zF<|zd ?_
  cases h
  exact zu (zAH rfl rfl)
 refine zP ?_
 refine zt (r:=r) (fun (_:Unit)=>mkE []) (fun _=>[]) (fun _=>zJw ) ?_ ?_
 ·
  refine zH<|zC<|zA (zD rfl)<|zF<|zQ<|zq (σ:=Int) (fun i1=>mkE [(0,(ls zO W)),(3,(li i1))]) (fun i1=>[]) (fun n0 i1=>zGL W n0 i1) 0 h (fun _=>rfl) (z9 [] rfl rfl (by kernel_rfl)) ?_
  clear h
  intro n0 i1 h
  replace h:zD4 W (zGL W n0) i1=some r:=h
  unfold zD4 at h
  refine zH<|zH<|zC<|zA (zB rfl)<|zA (zB rfl)<|zA (zV Tryz.underlying23 rfl) ?_
  refine zA (zf rfl rfl)<|zF ?_
  refine zX h rfl (fun b2 h => ?_) (fun b2 h => ?_)
  ·refine zP<|zH<|zQ<|zH<|zH<|zC ?_
   refine zA (zB rfl)<|zA (zB rfl)<|zM h fun b3 h=>zA (zT Tryz.underlying23 Tryz.sizeOf51 (fun _=>rfl) rfl rfl b3)<|zA (zAx (row:=(zO (at_ W i1))) (o:=0) (off:=0) Tryz.underlying51 rfl rfl Tryz.sizeOf3 rfl)<|zA (zU (o:=0) Tryz.isAgg3 rfl rfl) ?_
   refine zA (zf rfl rfl)<|zA (zB rfl)<|zW rfl rfl (fun c1=>zp.step (zB rfl))<|zW rfl rfl (fun c2=>zp.step (zB rfl))<|zW rfl rfl (fun c3=>zp.step (zT Tryz.underlying23 Tryz.sizeOf51 (fun _=>rfl) (z6 rfl c3) (z6 rfl c3) b3))<|zW rfl rfl (fun c4=>zp.step (zAx (row:=(zO (at_ W i1))) (o:=0) (off:=0) Tryz.underlying51 rfl rfl Tryz.sizeOf3 (z6 rfl c4))) ?_
   refine zW rfl rfl (fun c5=>zp.step (zU (o:=0) Tryz.isAgg3 (z6 rfl c5) rfl))<|zW rfl rfl (fun c6=>zp.step (zAw (z6 rfl c6) rfl))<|zA (zg rfl rfl)<|zF ?_
   refine zX h rfl (fun b4 h => ?_) (fun b4 h => ?_)
   ·refine zH<|zC<|zA (zD rfl)<|zF<|zd ?_
    cases h
    exact zu (zAH rfl rfl)
   refine zP<|zH<|zC<|zA (zB rfl)<|zA (zB rfl)<|zA (zT Tryz.underlying23 Tryz.sizeOf51 (fun _=>rfl) rfl rfl b3) ?_
   refine zA (zAx (row:=(zO (at_ W i1))) (o:=0) (off:=1) Tryz.underlying51 rfl rfl Tryz.sizeOf3 rfl)<|zA (zU (o:=1) Tryz.isAgg3 rfl rfl)<|zA (zz rfl rfl)<|zA (zB rfl)<|zm rfl rfl (fun c7=>zp.step (zB rfl))<|zm rfl rfl (fun c8=>zp.step (zB rfl)) ?_
   refine zm rfl rfl (fun c9=>zp.step (zT Tryz.underlying23 Tryz.sizeOf51 (fun _=>rfl) (z6 rfl c9) (z6 rfl c9) b3))<|zm rfl rfl (fun c10=>zp.step (zAx (row:=(zO (at_ W i1))) (o:=0) (off:=1) Tryz.underlying51 rfl rfl Tryz.sizeOf3 (z6 rfl c10)))<|zm rfl rfl (fun c11=>zp.step (zU (o:=1) Tryz.isAgg3 (z6 rfl c11) rfl))<|zm rfl rfl (fun c12=>zp.step (zz (z6 rfl c12) rfl))<|zA (zx (j := .lit undef) rfl rfl)<|zF ?_
   refine zX h rfl (fun b5 h => ?_) (fun b5 h => ?_)
   ·refine zH<|zC<|zA (zD rfl)<|zF<|zd ?_
    cases h
    exact zu (zAH rfl rfl)
   refine zP<|zC<|zA (zB rfl)<|zM h fun b6 h=>zA (ze rfl rfl b6)<|zA (zD rfl) ?_
   refine zF ?_
   exact ⟨(i1+1),z9 [] rfl rfl (by kernel_rfl),h⟩
  refine zw ?_
  exact ⟨(),z9 [] rfl rfl (by kernel_rfl),h⟩
 clear h
 intro _ h
 unfold zJw at h
 refine zH<|zC<|zA (zD rfl)<|zF<|zd ?_
 cases h
 exact zu (zAH rfl rfl)
theorem zMy {W:List zi} {R:Int} {r:Bool} (h:zKA W R=some r):PFn Tryz.prog 139 [ls zO W,li R] (AV.lit (.bool r)):=by
 refine zo Tryz.func139 rfl Tryz.ntmps139 Tryz.results139 rfl ?_
 unfold zKA at h
 refine zH<|zC<|zA (zD rfl)<|zF ?_
 refine zt (r:=r) (fun (_:Unit)=>mkE []) (fun _=>[]) (fun _=>zLG ) ?_ ?_
 ·
  refine zH<|zC<|zA (zD rfl)<|zF<|zQ<|zq (σ:=Int) (fun i1=>mkE [(0,(ls zO W)),(1,(li R)),(5,(li i1))]) (fun i1=>[]) (fun n0 i1=>zIO W R n0 i1) 0 h (fun _=>rfl) (z9 [] rfl rfl (by kernel_rfl)) ?_
  clear h
  intro n0 i1 h
  replace h:zDV W R (zIO W R n0) i1=some r:=h
  unfold zDV at h
  refine zH<|zH<|zC<|zA (zB rfl)<|zA (zB rfl)<|zA (zV Tryz.underlying23 rfl) ?_
  refine zA (zf rfl rfl)<|zF ?_
  refine zX h rfl (fun b1 h => ?_) (fun b1 h => ?_)
  ·refine zP<|zH<|zQ<|zH<|zC<|zA (zB rfl) ?_
   refine zA (zB rfl)<|zM h fun b2 h=>zA (zT Tryz.underlying23 Tryz.sizeOf51 (fun _=>rfl) rfl rfl b2)<|zA (zAx (row:=(zO (at_ W i1))) (o:=0) (off:=0) Tryz.underlying51 rfl rfl Tryz.sizeOf3 rfl)<|zA (zU (o:=0) Tryz.isAgg3 rfl rfl)<|zA (zB rfl) ?_
   refine zA (zAv rfl rfl)<|zF ?_
   refine zX h rfl (fun b3 h => ?_) (fun b3 h => ?_)
   ·refine zH<|zC<|zA (zD rfl)<|zF<|zd ?_
    cases h
    exact zu (zAH rfl rfl)
   refine zP<|zC<|zA (zB rfl)<|zM h fun b4 h=>zA (ze rfl rfl b4)<|zA (zD rfl) ?_
   refine zF ?_
   exact ⟨(i1+1),z9 [] rfl rfl (by kernel_rfl),h⟩
  refine zw ?_
  exact ⟨(),z9 [] rfl rfl (by kernel_rfl),h⟩
 clear h
 intro _ h
 unfold zLG at h
 refine zH<|zC<|zA (zD rfl)<|zF<|zd ?_
 cases h
 exact zu (zAH rfl rfl)
theorem zNx {W:List zi} {R:Int} {r:(List Int)×Int} (h:zJQ W R=some r):PFn Tryz.prog 113 [ls zO W,li R] (AV.tup [ls cI r.1,li r.2]):=by
 refine zo Tryz.func113 rfl Tryz.ntmps113 Tryz.results113 rfl ?_
 unfold zJQ at h
 refine zH<|zC<|zA (zD rfl)<|zA (zD rfl)<|zF<|zH ?_
 refine zH<|zC<|zA (zB rfl)<|zR h fun x1 w1 h=>zh Tryz.func138 rfl (by kernel_rfl) (.fn 138) rfl rfl (zN7 w1) rfl<|zA (zD rfl) ?_
 refine zF<|zH<|zC<|zA (zB rfl)<|zA (zz rfl rfl)<|zF ?_
 refine zX h rfl (fun b1 h => ?_) (fun b1 h => ?_)
 ·refine zH<|zC<|zA (zB rfl)<|zA (zD rfl)<|zA (zD rfl)<|zF ?_
  refine zd ?_
  cases h
  exact zBy (zJE (zAH rfl rfl) zAt.nils) (zAH rfl rfl) rfl
 refine zP<|zH<|zH<|zC<|zA (zB rfl)<|zA (zf rfl rfl) ?_
 refine zA (zB rfl)<|zW rfl rfl (fun c1=>zp.step (zB rfl))<|zW rfl rfl (fun c2=>zp.step (zAw (z6 rfl c2) rfl))<|zA (zg rfl rfl)<|zF ?_
 refine zX h rfl (fun b2 h => ?_) (fun b2 h => ?_)
 ·refine zH<|zC<|zA (zD rfl)<|zA (zD rfl)<|zF<|zd ?_
  cases h
  exact zBy (zJE (zAH rfl rfl) zAt.nils) (zAH rfl rfl) rfl
 refine zP<|zH<|zC<|zA (zD rfl)<|zF ?_
 refine zt (r:=r) (fun (l1:List Int)=>mkE [(7,(AV.hd 0))]) (fun l1=>[.vec 3 1 (List.map cI l1)]) (fun l1=>zIG l1) ?_ ?_
 ·
  refine zH<|zC<|zA (zD rfl)<|zF<|zQ<|zq (σ:=Int×(List Int)) (fun (i1,l2)=>mkE [(0,(ls zO W)),(1,(li R)),(7,(AV.hd 0)),(8,(li i1))]) (fun (i1,l2)=>[.vec 3 1 (List.map cI l2)]) (fun n0 (i1,l2)=>zBO W R n0 i1 l2) (0,[]) h (fun _=>rfl) (Rep.trans (zKr (d:=7) (el:=3) (sz:=1) rfl) (z9 [0] (l:=[(0,(ls zO W)),(1,(li R)),(7,(AV.hd 0)),(8,(li 0))]) rfl rfl (by kernel_rfl))) ?_
  clear h
  rintro n0 ⟨i1,l2⟩ h
  replace h:zDx W R (zBO W R n0) i1 l2=some r:=h
  unfold zDx at h
  refine zH<|zH<|zC<|zA (zB rfl)<|zA (zf rfl rfl)<|zF ?_
  refine zX h rfl (fun b3 h => ?_) (fun b3 h => ?_)
  ·refine zP ?_
   refine zt (r:=r) (fun (l3:List Int)=>mkE [(0,(ls zO W)),(1,(li R)),(7,(AV.hd 0)),(8,(li i1))]) (fun l3=>[.vec 3 1 (List.map cI l3)]) (fun l3=>zGN (zBO W R n0) i1 l3) ?_ ?_
   ·
    refine zQ ?_
    refine zt (r:=r) (fun (l4:List Int)=>mkE [(0,(ls zO W)),(1,(li R)),(7,(AV.hd 0)),(8,(li i1))]) (fun l4=>[.vec 3 1 (List.map cI l4)]) (fun l4=>zFB (zBO W R n0) W R i1 l4) ?_ ?_
    ·
     refine zH<|zC<|zA (zB rfl)<|zA (zB rfl)<|zA (zB rfl)<|zM h fun b9 h => ?_
     refine zA (zBS rfl rfl b9)<|zR h fun x3 w3 h=>zh Tryz.func139 rfl (by kernel_rfl) (.fn 139) rfl rfl (zMy w3) rfl<|zF ?_
     refine zX h rfl (fun b10 h => ?_) (fun b10 h => ?_)
     ·refine zC<|zA (zB rfl)<|zA (zB rfl)<|zA (zB rfl)<|zA (zBS rfl rfl b9)<|zEP (a:=(li (R - i1))) zE0 Tryz.underlying22 rfl rfl rfl rfl ?_
      refine zM h fun b11 h=>zBp (f:=cI) (k:=0) (j:=1) (l:=l2) (l':=[R - i1]) zE0 (fun _=>rfl) Tryz.underlying22 rfl rfl rfl rfl b11<|zA (zD rfl)<|zF ?_
      exact ⟨(l2++[R - i1]),z9 [2] rfl rfl (by kernel_rfl),h⟩
     refine zP ?_
     exact ⟨l2,z9 [0] rfl rfl (by kernel_rfl),h⟩
    clear h
    intro l4 h
    unfold zFB at h
    refine zH<|zC<|zA (zB rfl)<|zA (zAh rfl rfl)<|zA (zB rfl)<|zm rfl rfl (fun c3=>zp.step (zB rfl)) ?_
    refine zm rfl rfl (fun c4=>zp.step (zB rfl))<|zm rfl rfl (fun c5=>zp.step (zB rfl))<|zM h fun b5 h=>zm rfl rfl (fun c6=>zp.step (ze (z6 rfl c6) (z6 rfl c6) (zGy b5 c6)))<|zR h fun x2 w2 h=>zCy (g:=37) (s:=decide (0<i1)) (r':=(AV.lit (.bool x2))) rfl rfl (fun c7=>⟨139,_,_,[],[ls zO W,(li (R+i1))],[ls zO W,(li (R+i1))],(AV.lit (.bool x2)),[],Tryz.func139,rfl,by kernel_rfl,.fn 139,(zAM (z6 rfl c7) (zAM (z6 rfl c7) rfl)),⟨zAs.nr rfl,zAs.nr rfl,trivial⟩,zMy (zGm c7 w2),.inl rfl,rfl⟩) ?_
    refine zA (zx (j := .lit undef) rfl rfl)<|zF ?_
    refine zX h rfl (fun b6 h => ?_) (fun b6 h => ?_)
    ·refine zC<|zA (zB rfl)<|zA (zB rfl)<|zA (zB rfl)<|zM h fun b7 h=>zA (ze rfl rfl b7) ?_
     refine zEP (a:=(li (R+i1))) zE0 Tryz.underlying22 rfl rfl rfl rfl<|zM h fun b8 h=>zBp (f:=cI) (k:=0) (j:=1) (l:=l4) (l':=[R+i1]) zE0 (fun _=>rfl) Tryz.underlying22 rfl rfl rfl rfl b8<|zA (zD rfl)<|zF ?_
     exact ⟨(l4++[R+i1]),z9 [2] rfl rfl (by kernel_rfl),h⟩
    refine zP ?_
    exact ⟨l4,z9 [0] rfl rfl (by kernel_rfl),h⟩
   clear h
   intro l3 h
   unfold zGN at h
   refine zC<|zA (zB rfl)<|zM h fun b4 h=>zA (ze rfl rfl b4)<|zA (zD rfl)<|zF ?_
   exact ⟨((i1+1),l3),z9 [0] rfl rfl (by kernel_rfl),h⟩
  refine zw ?_
  exact ⟨l2,z9 [0] rfl rfl (by kernel_rfl),h⟩
 clear h
 intro l1 h
 unfold zIG at h
 refine zH<|zC<|zA (zB rfl)<|zA (zD rfl)<|zA (zD rfl)<|zF ?_
 refine zAT (zDR (j:=0) (ds:=[4,7,50]) (rows':=List.map cI l1) rfl (zAL (fun _=>rfl)) ⟨rfl,rfl,rfl,trivial⟩)<|zd ?_
 cases h
 exact zBy (zAH rfl rfl) (zAH rfl rfl) rfl
theorem zN3 {A:List zi} {D:Int} {G:Bool} {r:(List Int)×Int} (h:zJT A D G=some r):PFn Tryz.prog 58 [ls zO A,li D,(AV.lit (.bool G))] (AV.tup [ls cI r.1,li r.2]):=by
 refine zo Tryz.func58 rfl Tryz.ntmps58 Tryz.results58 rfl ?_
 unfold zJT at h
 refine zH<|zC<|zA (zD rfl)<|zA (zD rfl)<|zF<|zH ?_
 refine zC<|zA (zB rfl)<|zA (zB rfl)<|zR h fun x1 w1 h=>zh Tryz.func113 rfl (by kernel_rfl) (.fn 113) rfl rfl (zNx w1) rfl<|zA (zB rfl) ?_
 refine zA (zb rfl rfl)<|zA (zb rfl rfl)<|zA (zD rfl)<|zA (zD rfl)<|zF<|zH ?_
 refine zH<|zC<|zA (zB rfl)<|zA (zz rfl rfl)<|zF ?_
 refine zX h rfl (fun b1 h => ?_) (fun b1 h => ?_)
 ·refine zH<|zC<|zA (zB rfl)<|zA (zD rfl)<|zA (zD rfl)<|zF ?_
  refine zd ?_
  cases h
  exact zBy (zJE (zAH rfl rfl) zAt.nils) (zAH rfl rfl) rfl
 refine zP<|zH<|zC<|zA (zD rfl)<|zF ?_
 refine zt (r:=r) (fun (l1:List Int)=>mkE [(10,(AV.hd 0))]) (fun l1=>[.vec 3 1 (List.map cI l1)]) (fun l1=>zII l1) ?_ ?_
 ·
  refine zH<|zC<|zA (zD rfl)<|zF<|zQ<|zq (σ:=Int×(List Int)) (fun (i1,l2)=>mkE [(0,(ls zO A)),(2,(AV.lit (.bool G))),(8,(ls cI x1.1)),(10,(AV.hd 0)),(11,(li i1))]) (fun (i1,l2)=>[.vec 3 1 (List.map cI l2)]) (fun n0 (i1,l2)=>zAb A G x1 n0 i1 l2) (0,[]) h (fun _=>rfl) (Rep.trans (zKr (d:=10) (el:=3) (sz:=1) rfl) (z9 [0] (l:=[(0,(ls zO A)),(2,(AV.lit (.bool G))),(8,(ls cI x1.1)),(10,(AV.hd 0)),(11,(li 0))]) rfl rfl (by kernel_rfl))) ?_
  clear h
  rintro n0 ⟨i1,l2⟩ h
  replace h:zEG A G x1 (zAb A G x1 n0) i1 l2=some r:=h
  unfold zEG at h
  refine zH<|zH<|zC<|zA (zB rfl)<|zA (zB rfl)<|zA (zV Tryz.underlying22 rfl) ?_
  refine zA (zf rfl rfl)<|zF ?_
  refine zX h rfl (fun b2 h => ?_) (fun b2 h => ?_)
  ·refine zP ?_
   refine zt (r:=r) (fun (l3:List Int)=>mkE [(0,(ls zO A)),(2,(AV.lit (.bool G))),(8,(ls cI x1.1)),(10,(AV.hd 0)),(11,(li i1))]) (fun l3=>[.vec 3 1 (List.map cI l3)]) (fun l3=>zH2 (zAb A G x1 n0) i1 l3) ?_ ?_
   ·
    refine zQ ?_
    refine zt (r:=r) (fun (l4:List Int)=>mkE [(0,(ls zO A)),(2,(AV.lit (.bool G))),(8,(ls cI x1.1)),(10,(AV.hd 0)),(11,(li i1))]) (fun l4=>[.vec 3 1 (List.map cI l4)]) (fun l4=>zGQ (zAb A G x1 n0) A x1 i1 l4) ?_ ?_
    ·
     refine zH<|zC<|zA (zD rfl)<|zF<|zQ<|zq (σ:=Int×(List Int)) (fun (i3,l7)=>mkE [(0,(ls zO A)),(2,(AV.lit (.bool G))),(8,(ls cI x1.1)),(10,(AV.hd 0)),(11,(li i1)),(12,(li i3))]) (fun (i3,l7)=>[.vec 3 1 (List.map cI l7)]) (fun n2 (i3,l7)=>zDz (zAb A G x1 n0) A G x1 i1 n2 i3 l7) (0,l2) h (fun _=>rfl) (z9 [0] rfl rfl (by kernel_rfl)) ?_
     clear h
     rintro n2 ⟨i3,l7⟩ h
     replace h:zCl (zAb A G x1 n0) A G x1 i1 (zDz (zAb A G x1 n0) A G x1 i1 n2) i3 l7=some r:=h
     unfold zCl at h
     refine zH<|zH<|zC<|zA (zB rfl)<|zA (zB rfl)<|zA (zV Tryz.underlying23 rfl) ?_
     refine zA (zf rfl rfl)<|zA (zB rfl)<|zm rfl rfl (fun c13=>zp.step (zB rfl))<|zm rfl rfl (fun c14=>zp.step (zBE (t:=G) (z6 rfl c14)))<|zA (zx (j := .lit undef) rfl rfl)<|zF ?_
     refine zX h rfl (fun b10 h => ?_) (fun b10 h => ?_)
     ·refine zP ?_
      refine zt (r:=r) (fun (l8:List Int)=>mkE [(0,(ls zO A)),(2,(AV.lit (.bool G))),(8,(ls cI x1.1)),(10,(AV.hd 0)),(11,(li i1)),(12,(li i3))]) (fun l8=>[.vec 3 1 (List.map cI l8)]) (fun l8=>zGE (zDz (zAb A G x1 n0) A G x1 i1 n2) i3 l8) ?_ ?_
      ·
       refine zQ<|zH<|zM h fun b12 h=>zM h fun b13 h => ?_
       refine zAl (n:=90) (m:=0) [.head 0 0,.head 0 0,.head 0 0,.head 0 0,.head 0 0,.head 0 0,.head 0 0,.head 0 0,.head 0 0,.head 0 0,.head 0 0,.head 0 0,.head 0 0,.head 0 0,.head 0 0,.head 0 0,.head 0 0,.head 0 0] [] [ls zO A,li i3,(AV.rp (zO (at_ A i3)) 0),(AV.rp (zO (at_ A i3)) 0),(li ((at_ A i3).node)),ls cI x1.1,li i1,(AV.rp (cI (at_ x1.1 i1)) 0),(li (at_ x1.1 i1)),(AV.lit (.bool (decide (((at_ A i3).node)=(at_ x1.1 i1))))),(AV.lit (.bool (decide (((at_ A i3).node)=(at_ x1.1 i1))))),(bif decide (((at_ A i3).node)=(at_ x1.1 i1)) then (ls zO A) else .lit undef),(bif decide (((at_ A i3).node)=(at_ x1.1 i1)) then (li i3) else .lit undef),(bif decide (((at_ A i3).node)=(at_ x1.1 i1)) then (AV.rp (zO (at_ A i3)) 0) else .lit undef),(bif decide (((at_ A i3).node)=(at_ x1.1 i1)) then (AV.rp (zO (at_ A i3)) 1) else .lit undef),(bif decide (((at_ A i3).node)=(at_ x1.1 i1)) then (li ((at_ A i3).kind)) else .lit undef),(bif decide (((at_ A i3).node)=(at_ x1.1 i1)) then (AV.lit (.bool (decide (((at_ A i3).kind)=1)))) else .lit undef),(AV.lit (.bool ((decide (((at_ A i3).node)=(at_ x1.1 i1)))&&(decide (((at_ A i3).kind)=1)))))] [[.vec 3 1 (List.map cI l7)]] (by kernel_rfl) (by kernel_rfl) ⟨D1 fun e s p=>zB (s 0 rfl),D1 fun e s p=>zB (s 12 rfl),D1 fun e s p=>zT (f:=zO) (l:=A) (i:=i3) Tryz.underlying23 Tryz.sizeOf51 (fun _=>rfl) p.1 p.2.1 b12,D1 fun e s p=>zAx (row:=(zO (at_ A i3))) (o:=0) (off:=0) Tryz.underlying51 rfl rfl Tryz.sizeOf3 p.1,D1 fun e s p=>zU (o:=0) Tryz.isAgg3 p.1 rfl,D1 fun e s p=>zB (s 8 rfl),D1 fun e s p=>zB (s 11 rfl),D1 fun e s p=>zT (f:=cI) (l:=x1.1) (i:=i1) Tryz.underlying22 Tryz.sizeOf3 (fun _=>rfl) p.1 p.2.1 b13,D1 fun e s p=>zU (o:=0) Tryz.isAgg3 p.1 rfl,D1 fun e s p=>zAv (a:=(at_ A i3).node) (b:=at_ x1.1 i1) p.1 p.2.1,D1 fun e s p=>zB p.1,?_,?_,?_,?_,?_,?_,D1 fun e s p=>zx (s:=decide (((at_ A i3).node)=(at_ x1.1 i1))) (q:=decide (((at_ A i3).kind)=1)) (j := .lit undef) p.1 p.2.1,trivial⟩ ?_
       ·
        intro e31 s31 p30
        refine zm (g:=49) (s:=decide (((at_ A i3).node)=(at_ x1.1 i1))) rfl p30.1 (fun c21=>zp.step (zB (av:=(ls zO A)) (s31 0 rfl))) ?_
        exact zF ⟨fun _=>rfl,rfl⟩
       ·
        intro e32 s32 p31
        refine zm (g:=49) (s:=decide (((at_ A i3).node)=(at_ x1.1 i1))) rfl p31.1 (fun c22=>zp.step (zB (av:=(li i3)) (s32 12 rfl))) ?_
        exact zF ⟨fun _=>rfl,rfl⟩
       ·
        intro e33 s33 p32
        refine zm (g:=49) (s:=decide (((at_ A i3).node)=(at_ x1.1 i1))) rfl p32.2.2.1 (fun c23=>zp.step (zT (f:=zO) (l:=A) (i:=i3) Tryz.underlying23 Tryz.sizeOf51 (fun _=>rfl) (z6 p32.1 c23) (z6 p32.2.1 c23) b12)) ?_
        exact zF ⟨fun _=>rfl,rfl⟩
       ·
        intro e34 s34 p33
        refine zm (g:=49) (s:=decide (((at_ A i3).node)=(at_ x1.1 i1))) rfl p33.2.1 (fun c24=>zp.step (zAx (row:=(zO (at_ A i3))) (o:=0) (off:=1) Tryz.underlying51 rfl rfl Tryz.sizeOf3 (z6 p33.1 c24))) ?_
        exact zF ⟨fun _=>rfl,rfl⟩
       ·
        intro e35 s35 p34
        refine zm (g:=49) (s:=decide (((at_ A i3).node)=(at_ x1.1 i1))) rfl p34.2.1 (fun c25=>zp.step (zU (row:=(zO (at_ A i3))) (o:=1) (a:=(li ((at_ A i3).kind))) Tryz.isAgg3 (z6 p34.1 c25) rfl)) ?_
        exact zF ⟨fun _=>rfl,rfl⟩
       ·
        intro e36 s36 p35
        refine zm (g:=49) (s:=decide (((at_ A i3).node)=(at_ x1.1 i1))) rfl p35.2.1 (fun c26=>zp.step (zAv (a:=(at_ A i3).kind) (b:=1) (z6 p35.1 c26) rfl)) ?_
        exact zF ⟨fun _=>rfl,rfl⟩
       intro e38 s38 hq2
       refine zAT (zBM (l:=[(0,(ls zO A)),(2,(AV.lit (.bool G))),(8,(ls cI x1.1)),(10,(AV.hd 0)),(11,(li i1)),(12,(li i3)),(56,(AV.lit (.bool ((decide (((at_ A i3).node)=(at_ x1.1 i1)))&&(decide (((at_ A i3).kind)=1))))))]) ⟨s38 0 rfl,s38 2 rfl,s38 8 rfl,s38 10 rfl,s38 11 rfl,s38 12 rfl,(hq2 17 (by decide) (by decide)),trivial⟩) ?_
       refine zX h rfl (fun b14 h => ?_) (fun b14 h => ?_)
       ·refine zC<|zA (zB rfl)<|zA (zB rfl)<|zEP (a:=(li i3)) zE0 Tryz.underlying22 rfl rfl rfl rfl<|zM h fun b15 h=>zBp (f:=cI) (k:=0) (j:=1) (l:=l7) (l':=[i3]) zE0 (fun _=>rfl) Tryz.underlying22 rfl rfl rfl rfl b15 ?_
        refine zA (zD rfl)<|zF ?_
        exact ⟨(l7++[i3]),z9 [2] rfl rfl (by kernel_rfl),h⟩
       refine zP ?_
       exact ⟨l7,z9 [0] rfl rfl (by kernel_rfl),h⟩
      clear h
      intro l8 h
      unfold zGE at h
      refine zC<|zA (zB rfl)<|zM h fun b11 h=>zA (ze rfl rfl b11)<|zA (zD rfl)<|zF ?_
      exact ⟨((i3+1),l8),z9 [0] rfl rfl (by kernel_rfl),h⟩
     refine zw ?_
     exact ⟨l7,z9 [0] rfl rfl (by kernel_rfl),h⟩
    clear h
    intro l4 h
    unfold zGQ at h
    refine zH<|zC<|zA (zD rfl)<|zF<|zQ<|zq (σ:=Int×(List Int)) (fun (i2,l5)=>mkE [(0,(ls zO A)),(2,(AV.lit (.bool G))),(8,(ls cI x1.1)),(10,(AV.hd 0)),(11,(li i1)),(13,(li i2))]) (fun (i2,l5)=>[.vec 3 1 (List.map cI l5)]) (fun n1 (i2,l5)=>zE6 (zAb A G x1 n0) A x1 i1 n1 i2 l5) (0,l4) h (fun _=>rfl) (z9 [0] rfl rfl (by kernel_rfl)) ?_
    clear h
    rintro n1 ⟨i2,l5⟩ h
    replace h:zDw (zAb A G x1 n0) A x1 i1 (zE6 (zAb A G x1 n0) A x1 i1 n1) i2 l5=some r:=h
    unfold zDw at h
    refine zH<|zH<|zC<|zA (zB rfl)<|zA (zB rfl)<|zA (zV Tryz.underlying23 rfl) ?_
    refine zA (zf rfl rfl)<|zF ?_
    refine zX h rfl (fun b4 h => ?_) (fun b4 h => ?_)
    ·refine zP ?_
     refine zt (r:=r) (fun (l6:List Int)=>mkE [(0,(ls zO A)),(2,(AV.lit (.bool G))),(8,(ls cI x1.1)),(10,(AV.hd 0)),(11,(li i1)),(13,(li i2))]) (fun l6=>[.vec 3 1 (List.map cI l6)]) (fun l6=>zGW (zE6 (zAb A G x1 n0) A x1 i1 n1) i2 l6) ?_ ?_
     ·
      refine zQ<|zH<|zM h fun b6 h=>zM h fun b7 h => ?_
      refine zAl (n:=90) (m:=0) [.head 0 0,.head 0 0,.head 0 0,.head 0 0,.head 0 0,.head 0 0,.head 0 0,.head 0 0,.head 0 0,.head 0 0,.head 0 0,.head 0 0,.head 0 0,.head 0 0,.head 0 0,.head 0 0,.head 0 0,.head 0 0] [] [ls zO A,li i2,(AV.rp (zO (at_ A i2)) 0),(AV.rp (zO (at_ A i2)) 0),(li ((at_ A i2).node)),ls cI x1.1,li i1,(AV.rp (cI (at_ x1.1 i1)) 0),(li (at_ x1.1 i1)),(AV.lit (.bool (decide (((at_ A i2).node)=(at_ x1.1 i1))))),(AV.lit (.bool (decide (((at_ A i2).node)=(at_ x1.1 i1))))),(bif decide (((at_ A i2).node)=(at_ x1.1 i1)) then (ls zO A) else .lit undef),(bif decide (((at_ A i2).node)=(at_ x1.1 i1)) then (li i2) else .lit undef),(bif decide (((at_ A i2).node)=(at_ x1.1 i1)) then (AV.rp (zO (at_ A i2)) 0) else .lit undef),(bif decide (((at_ A i2).node)=(at_ x1.1 i1)) then (AV.rp (zO (at_ A i2)) 1) else .lit undef),(bif decide (((at_ A i2).node)=(at_ x1.1 i1)) then (li ((at_ A i2).kind)) else .lit undef),(bif decide (((at_ A i2).node)=(at_ x1.1 i1)) then (AV.lit (.bool (decide (((at_ A i2).kind)=0)))) else .lit undef),(AV.lit (.bool ((decide (((at_ A i2).node)=(at_ x1.1 i1)))&&(decide (((at_ A i2).kind)=0)))))] [[.vec 3 1 (List.map cI l5)]] (by kernel_rfl) (by kernel_rfl) ⟨D1 fun e s p=>zB (s 0 rfl),D1 fun e s p=>zB (s 13 rfl),D1 fun e s p=>zT (f:=zO) (l:=A) (i:=i2) Tryz.underlying23 Tryz.sizeOf51 (fun _=>rfl) p.1 p.2.1 b6,D1 fun e s p=>zAx (row:=(zO (at_ A i2))) (o:=0) (off:=0) Tryz.underlying51 rfl rfl Tryz.sizeOf3 p.1,D1 fun e s p=>zU (o:=0) Tryz.isAgg3 p.1 rfl,D1 fun e s p=>zB (s 8 rfl),D1 fun e s p=>zB (s 11 rfl),D1 fun e s p=>zT (f:=cI) (l:=x1.1) (i:=i1) Tryz.underlying22 Tryz.sizeOf3 (fun _=>rfl) p.1 p.2.1 b7,D1 fun e s p=>zU (o:=0) Tryz.isAgg3 p.1 rfl,D1 fun e s p=>zAv (a:=(at_ A i2).node) (b:=at_ x1.1 i1) p.1 p.2.1,D1 fun e s p=>zB p.1,?_,?_,?_,?_,?_,?_,D1 fun e s p=>zx (s:=decide (((at_ A i2).node)=(at_ x1.1 i1))) (q:=decide (((at_ A i2).kind)=0)) (j := .lit undef) p.1 p.2.1,trivial⟩ ?_
      ·
       intro e12 s12 p12
       refine zm (g:=77) (s:=decide (((at_ A i2).node)=(at_ x1.1 i1))) rfl p12.1 (fun c7=>zp.step (zB (av:=(ls zO A)) (s12 0 rfl))) ?_
       exact zF ⟨fun _=>rfl,rfl⟩
      ·
       intro e13 s13 p13
       refine zm (g:=77) (s:=decide (((at_ A i2).node)=(at_ x1.1 i1))) rfl p13.1 (fun c8=>zp.step (zB (av:=(li i2)) (s13 13 rfl))) ?_
       exact zF ⟨fun _=>rfl,rfl⟩
      ·
       intro e14 s14 p14
       refine zm (g:=77) (s:=decide (((at_ A i2).node)=(at_ x1.1 i1))) rfl p14.2.2.1 (fun c9=>zp.step (zT (f:=zO) (l:=A) (i:=i2) Tryz.underlying23 Tryz.sizeOf51 (fun _=>rfl) (z6 p14.1 c9) (z6 p14.2.1 c9) b6)) ?_
       exact zF ⟨fun _=>rfl,rfl⟩
      ·
       intro e15 s15 p15
       refine zm (g:=77) (s:=decide (((at_ A i2).node)=(at_ x1.1 i1))) rfl p15.2.1 (fun c10=>zp.step (zAx (row:=(zO (at_ A i2))) (o:=0) (off:=1) Tryz.underlying51 rfl rfl Tryz.sizeOf3 (z6 p15.1 c10))) ?_
       exact zF ⟨fun _=>rfl,rfl⟩
      ·
       intro e16 s16 p16
       refine zm (g:=77) (s:=decide (((at_ A i2).node)=(at_ x1.1 i1))) rfl p16.2.1 (fun c11=>zp.step (zU (row:=(zO (at_ A i2))) (o:=1) (a:=(li ((at_ A i2).kind))) Tryz.isAgg3 (z6 p16.1 c11) rfl)) ?_
       exact zF ⟨fun _=>rfl,rfl⟩
      ·
       intro e17 s17 p17
       refine zm (g:=77) (s:=decide (((at_ A i2).node)=(at_ x1.1 i1))) rfl p17.2.1 (fun c12=>zp.step (zAv (a:=(at_ A i2).kind) (b:=0) (z6 p17.1 c12) rfl)) ?_
       exact zF ⟨fun _=>rfl,rfl⟩
      intro e19 s19 hq1
      refine zAT (zBM (l:=[(0,(ls zO A)),(2,(AV.lit (.bool G))),(8,(ls cI x1.1)),(10,(AV.hd 0)),(11,(li i1)),(13,(li i2)),(84,(AV.lit (.bool ((decide (((at_ A i2).node)=(at_ x1.1 i1)))&&(decide (((at_ A i2).kind)=0))))))]) ⟨s19 0 rfl,s19 2 rfl,s19 8 rfl,s19 10 rfl,s19 11 rfl,s19 13 rfl,(hq1 17 (by decide) (by decide)),trivial⟩) ?_
      refine zX h rfl (fun b8 h => ?_) (fun b8 h => ?_)
      ·refine zC<|zA (zB rfl)<|zA (zB rfl)<|zEP (a:=(li i2)) zE0 Tryz.underlying22 rfl rfl rfl rfl<|zM h fun b9 h=>zBp (f:=cI) (k:=0) (j:=1) (l:=l5) (l':=[i2]) zE0 (fun _=>rfl) Tryz.underlying22 rfl rfl rfl rfl b9 ?_
       refine zA (zD rfl)<|zF ?_
       exact ⟨(l5++[i2]),z9 [2] rfl rfl (by kernel_rfl),h⟩
      refine zP ?_
      exact ⟨l5,z9 [0] rfl rfl (by kernel_rfl),h⟩
     clear h
     intro l6 h
     unfold zGW at h
     refine zC<|zA (zB rfl)<|zM h fun b5 h=>zA (ze rfl rfl b5)<|zA (zD rfl)<|zF ?_
     exact ⟨((i2+1),l6),z9 [0] rfl rfl (by kernel_rfl),h⟩
    refine zw ?_
    exact ⟨l5,z9 [0] rfl rfl (by kernel_rfl),h⟩
   clear h
   intro l3 h
   unfold zH2 at h
   refine zC<|zA (zB rfl)<|zM h fun b3 h=>zA (ze rfl rfl b3)<|zA (zD rfl)<|zF ?_
   exact ⟨((i1+1),l3),z9 [0] rfl rfl (by kernel_rfl),h⟩
  refine zw ?_
  exact ⟨l2,z9 [0] rfl rfl (by kernel_rfl),h⟩
 clear h
 intro l1 h
 unfold zII at h
 refine zH<|zC<|zA (zB rfl)<|zA (zD rfl)<|zA (zD rfl)<|zF ?_
 refine zAT (zDR (j:=0) (ds:=[6,10,89]) (rows':=List.map cI l1) rfl (zAL (fun _=>rfl)) ⟨rfl,rfl,rfl,trivial⟩)<|zd ?_
 cases h
 exact zBy (zAH rfl rfl) (zAH rfl rfl) rfl
theorem zNz {B:zJ} {M:Int} {r:Int} (h:zJL B M=some r):PFn Tryz.prog 40 [(AV.agg (zI B)),li M] (li r):=by
 refine zo Tryz.func40 rfl Tryz.ntmps40 Tryz.results40 rfl ?_
 unfold zJL at h
 refine zH<|zC<|za (H':=[.box 26 (zI B)]) (zv (t:=26) rfl)<|zA (zD rfl)<|zF<|zH ?_
 refine zC<|zA (zD rfl)<|zF ?_
 refine zt (r:=r) (fun (i1:Int)=>mkE [(1,(li M)),(2,(AV.ptr 0 0)),(5,(li i1))]) (fun i1=>[.box 26 (zI B)]) (fun i1=>zHu B M i1) ?_ ?_
 ·
  refine zH<|zC<|zA (zD rfl)<|zF<|zQ<|zq (σ:=Int×Int) (fun (i5,i6)=>mkE [(1,(li M)),(2,(AV.ptr 0 0)),(5,(li i5)),(6,(li i6))]) (fun (i5,i6)=>[.box 26 (zI B)]) (fun n1 (i5,i6)=>zGJ B M n1 i5 i6) (0,0) h (fun _=>rfl) (z9 [0] rfl rfl (by kernel_rfl)) ?_
  clear h
  rintro n1 ⟨i5,i6⟩ h
  replace h:zEL B M (zGJ B M n1) i5 i6=some r:=h
  unfold zEL at h
  refine zH<|zH<|zC<|zA (zB rfl)<|zA (zCu rfl rfl)<|zF ?_
  refine zX h rfl (fun b6 h => ?_) (fun b6 h => ?_)
  ·refine zP<|zH<|zQ<|zC<|zA (zB rfl)<|zA (zK Tryz.underlying26 rfl rfl Tryz.sizeOf23 rfl) ?_
   refine zA (zN Tryz.isAgg23 rfl rfl rfl rfl)<|zA (zB rfl)<|zA (zB rfl)<|zM h fun b7 h=>zA (zT Tryz.underlying23 Tryz.sizeOf51 (fun _=>rfl) rfl rfl b7)<|zA (zAx (row:=(zO (at_ B.zones M))) (o:=0) (off:=5) Tryz.underlying51 rfl rfl Tryz.sizeOf49 rfl) ?_
   refine zM h fun b8 h=>zA (zOV (m:=5) (s:=1) (i:=i6) (row:=(zO (at_ B.zones M))) (o:=5) Tryz.underlying49 Tryz.sizeOf22 rfl rfl b8)<|zA (zL8 (o:=(5+i6.toNat*1)) (cs:=zO (at_ B.zones M)) (hd:=([(li ((at_ B.zones M).node))]++[(li ((at_ B.zones M).kind))]++[(li ((at_ B.zones M).start))]++[(li ((at_ B.zones M).count))]++[(li ((at_ B.zones M).min))]++[])) (tl:=([])) (g:=(eS cI)) (d0:=([]:List Int)) (l:=(at_ B.zones M).free) (N:=5) (i:=i6.toNat) (a:=(ls cI (((at_ B.zones M).free).getD i6.toNat ([]:List Int)))) Tryz.isAgg22 rfl rfl (congrArg (fun q=>5+q) (Nat.mul_one _)) (zBW b8).2 rfl)<|zA (zV Tryz.underlying22 rfl)<|zA (zB rfl)<|zM h fun b9 h => ?_
   refine zA (zE1 (k' := .u64) (a:=i6) Tryz.underlying3 Tryz.underlying74 rfl b9)<|zM h fun b10 h=>zM h fun b11 h=>zA (zCw (a:=((((at_ B.zones M).free).getD i6.toNat ([]:List Int)).length:Int)) (b:=i6) rfl rfl b10 b11)<|zM h fun b12 h=>zA (ze rfl rfl b12) ?_
   refine zA (zD rfl)<|zF<|zC<|zA (zB rfl)<|zM h fun b13 h=>zA (ze rfl rfl b13) ?_
   refine zA (zD rfl)<|zF ?_
   exact ⟨((i5+(((((at_ B.zones M).free).getD i6.toNat ([]:List Int)).length:Int)*2 ^ i6.toNat)),(i6+1)),z9 [0] rfl rfl (by kernel_rfl),h⟩
  refine zw ?_
  exact ⟨i5,z9 [0] rfl rfl (by kernel_rfl),h⟩
 clear h
 intro i1 h
 unfold zHu at h
 refine zt (r:=r) (fun (i2:Int)=>mkE [(5,(li i2))]) (fun i2=>[]) (fun i2=>zJq i2) ?_ ?_
 ·
  refine zH<|zC<|zA (zD rfl)<|zF<|zQ<|zq (σ:=Int×Int) (fun (i3,i4)=>mkE [(1,(li M)),(2,(AV.ptr 0 0)),(5,(li i3)),(7,(li i4))]) (fun (i3,i4)=>[.box 26 (zI B)]) (fun n0 (i3,i4)=>zGB B M n0 i3 i4) (i1,0) h (fun _=>rfl) (z9 [0] rfl rfl (by kernel_rfl)) ?_
  clear h
  rintro n0 ⟨i3,i4⟩ h
  replace h:zDu B M (zGB B M n0) i3 i4=some r:=h
  unfold zDu at h
  refine zH<|zH<|zC<|zA (zB rfl)<|zA (zK Tryz.underlying26 rfl rfl Tryz.sizeOf24 rfl)<|zA (zN Tryz.isAgg24 rfl rfl rfl rfl) ?_
  refine zA (zV Tryz.underlying24 rfl)<|zA (zf rfl rfl)<|zF ?_
  refine zX h rfl (fun b1 h => ?_) (fun b1 h => ?_)
  ·refine zP<|zH<|zQ<|zC<|zA (zB rfl)<|zA (zK Tryz.underlying26 rfl rfl Tryz.sizeOf24 rfl) ?_
   refine zA (zN Tryz.isAgg24 rfl rfl rfl rfl)<|zA (zB rfl)<|zM h fun b2 h=>zA (zT Tryz.underlying24 Tryz.sizeOf55 (fun _=>rfl) rfl rfl b2)<|zA (zAx (row:=(zG (at_ B.caches i4))) (o:=0) (off:=0) Tryz.underlying55 rfl rfl Tryz.sizeOf53 rfl)<|zA (zU (o:=0) Tryz.isAgg53 rfl rfl) ?_
   refine zA (zB rfl)<|zM h fun b3 h=>zA (zT Tryz.underlying53 Tryz.sizeOf22 (fun _=>rfl) rfl rfl b3)<|zA (zU (o:=0) Tryz.isAgg22 rfl rfl)<|zA (zV Tryz.underlying22 rfl)<|zM h fun b4 h => ?_
   refine zA (ze rfl rfl b4)<|zA (zD rfl)<|zF<|zC<|zA (zB rfl)<|zM h fun b5 h => ?_
   refine zA (ze rfl rfl b5)<|zA (zD rfl)<|zF ?_
   exact ⟨((i3+((at_ ((at_ B.caches i4).lists) M).length:Int)),(i4+1)),z9 [0] rfl rfl (by kernel_rfl),h⟩
  refine zw ?_
  exact ⟨i3,z9 [] rfl rfl (by kernel_rfl),h⟩
 clear h
 intro i2 h
 unfold zJq at h
 refine zH<|zC<|zA (zB rfl)<|zA (zD rfl)<|zF<|zd ?_
 cases h
 exact zu (zAH rfl rfl)
end Go.Proofs.YtplkliakhdkpcaaGreat
namespace Go.Proofs.YtplkliakhdkpcaaGreat
open Go Go.RowKit Go.Wk Go.Am Go.Proofs
set_option maxHeartbeats 4000000
theorem zLY {C:zi} {V:Int} {r:zi×Int×Int} (h:zHm C V=some r):PFn Tryz.prog 66 [(AV.agg (zO C)),li V] (AV.tup [(AV.agg (zO r.1)),li r.2.1,li r.2.2]):=by
 refine zo Tryz.func66 rfl Tryz.ntmps66 Tryz.results66 rfl ?_
 unfold zHm at h
 refine zH<|zC<|za (H':=[.box 51 (zO C)]) (zv (t:=51) rfl)<|za (H':=[.box 51 (zO C),.box 51 (zO ⟨0,0,0,0,0,(List.replicate 5 ([]:List Int))⟩)]) zv0<|zA (zD rfl)<|zA (zD rfl) ?_
 refine zF<|zH<|zH<|zC<|zA (zS (k:=0) (o:=0) (m:=10) Tryz.isAgg51 Tryz.sizeOf51 rfl rfl rfl rfl rfl)<|zR h fun x1 w1 h => ?_
 refine zh Tryz.func47 rfl (by kernel_rfl) (.fn 47) rfl rfl (zHw w1) rfl<|zA (zD rfl)<|zF<|zH<|zC<|zA (zB rfl) ?_
 refine zA (zz rfl rfl)<|zF ?_
 refine zX h rfl (fun b1 h => ?_) (fun b1 h => ?_)
 ·refine zH<|zC<|zA zv9<|zA (zB rfl)<|zj (H':=[.box 51 (zO C),.box 51 (zO (⟨0,0,0,0,0,(List.replicate 5 ([]:List Int))⟩:zi))]) (zY (k:=1) (o:=0) (cs:=(zO ⟨0,0,0,0,0,(List.replicate 5 ([]:List Int))⟩)) (la:=(zO (⟨0,0,0,0,0,(List.replicate 5 ([]:List Int))⟩:zi))) Tryz.sizeOf51 rfl rfl rfl rfl)<|zA (zD rfl) ?_
  refine zA (zD rfl)<|zF<|zd ?_
  cases h
  exact zCX (zFM Tryz.isAgg51 Tryz.sizeOf51 rfl rfl rfl rfl) (zAH rfl rfl) (zAH rfl rfl) rfl
 refine zP<|zH<|zH<|zC<|zA (zB rfl)<|zA (zf rfl rfl) ?_
 refine zA (zB rfl)<|zW rfl rfl (fun c1=>zp.step (zB rfl))<|zW rfl rfl (fun c2=>zp.step (zAh (z6 rfl c2) rfl))<|zA (zg rfl rfl)<|zF ?_
 refine zX h rfl (fun b2 h => ?_) (fun b2 h => ?_)
 ·refine zH<|zC<|zA zv9<|zj (H':=[.box 51 (zO C),.box 51 (zO (⟨0,0,0,0,0,(List.replicate 5 ([]:List Int))⟩:zi))]) (zY (k:=1) (o:=0) (cs:=(zO ⟨0,0,0,0,0,(List.replicate 5 ([]:List Int))⟩)) (la:=(zO (⟨0,0,0,0,0,(List.replicate 5 ([]:List Int))⟩:zi))) Tryz.sizeOf51 rfl rfl rfl rfl)<|zA (zD rfl)<|zA (zD rfl) ?_
  refine zF<|zd ?_
  cases h
  exact zCX (zFM Tryz.isAgg51 Tryz.sizeOf51 rfl rfl rfl rfl) (zAH rfl rfl) (zAH rfl rfl) rfl
 refine zP ?_
 refine zt (r:=r) (fun (_:Unit)=>mkE [(4,(AV.ptr 0 0))]) (fun _=>[.box 51 (zO ⟨0,0,0,0,0,(List.replicate 5 ([]:List Int))⟩)]) (fun _=>zH6 ) ?_ ?_
 ·
  refine zH<|zC<|zA (zB rfl)<|zA (zD rfl)<|zF<|zQ ?_
  refine zq (σ:=Int) (fun i1=>mkE [(1,(li V)),(2,(AV.ptr 0 0)),(4,(AV.ptr 1 0)),(8,(li i1))]) (fun i1=>[.box 51 (zO C),.box 51 (zO ⟨0,0,0,0,0,(List.replicate 5 ([]:List Int))⟩)]) (fun n0 i1=>zE5 C V n0 i1) V h (fun _=>rfl) (z9 [0,1] rfl rfl (by kernel_rfl)) ?_
  clear h
  intro n0 i1 h
  replace h:zDq C V (zE5 C V n0) i1=some r:=h
  unfold zDq at h
  refine zH<|zH<|zC<|zA (zB rfl)<|zA (zCu rfl rfl)<|zF ?_
  refine zX h rfl (fun b3 h => ?_) (fun b3 h => ?_)
  ·refine zP ?_
   refine zt (r:=r) (fun (_:Unit)=>mkE [(1,(li V)),(2,(AV.ptr 0 0)),(4,(AV.ptr 1 0)),(8,(li i1))]) (fun _=>[.box 51 (zO C),.box 51 (zO ⟨0,0,0,0,0,(List.replicate 5 ([]:List Int))⟩)]) (fun _=>zH4 (zE5 C V n0) i1) ?_ ?_
   ·
    refine zQ<|zH<|zC<|zA (zB rfl)<|zA (zK Tryz.underlying51 rfl rfl Tryz.sizeOf49 rfl)<|zM h fun b5 h => ?_
    refine zA (zAO (m:=5) (s:=1) (i:=i1) (k:=0) (o:=5) Tryz.underlying49 Tryz.sizeOf22 rfl rfl b5)<|zA (zAm (k:=0) (o:=(5+i1.toNat*1)) (cs:=(zO C)) (hd:=([li C.node]++[li C.kind]++[li C.start]++[li C.count]++[li C.min]++[])) (tl:=([])) (g:=(eS cI)) (d0:=([]:List Int)) (l:=C.free) (N:=5) (i:=i1.toNat) (a:=(ls cI (C.free.getD i1.toNat ([]:List Int)))) Tryz.isAgg22 rfl rfl rfl (congrArg (fun q=>5+q) (Nat.mul_one _)) (zBW b5).2 rfl rfl)<|zA (zV Tryz.underlying22 rfl)<|zA (zAh rfl rfl)<|zF ?_
    refine zX h rfl (fun b6 h => ?_) (fun b6 h => ?_)
    ·refine zH<|zC<|zA (zB rfl)<|zA (zK Tryz.underlying51 rfl rfl Tryz.sizeOf49 rfl)<|zA (zAO (m:=5) (s:=1) (i:=i1) (k:=0) (o:=5) Tryz.underlying49 Tryz.sizeOf22 rfl rfl b5)<|zA (zAm (k:=0) (o:=(5+i1.toNat*1)) (cs:=(zO C)) (hd:=([li C.node]++[li C.kind]++[li C.start]++[li C.count]++[li C.min]++[])) (tl:=([])) (g:=(eS cI)) (d0:=([]:List Int)) (l:=C.free) (N:=5) (i:=i1.toNat) (a:=(ls cI (C.free.getD i1.toNat ([]:List Int)))) Tryz.isAgg22 rfl rfl rfl (congrArg (fun q=>5+q) (Nat.mul_one _)) (zBW b5).2 rfl rfl) ?_
     refine zM h fun b7 h=>zA (zT Tryz.underlying22 Tryz.sizeOf3 (fun _=>rfl) rfl rfl b7)<|zA (zU (o:=0) Tryz.isAgg3 rfl rfl)<|zA (zD rfl)<|zF<|zH ?_
     refine zC<|zA (zS (k:=0) (o:=0) (m:=10) Tryz.isAgg51 Tryz.sizeOf51 rfl rfl rfl rfl rfl)<|zR h fun x2 w2 h=>zHI (T:=3) (sz:=1) (rows:=List.map cI x2) (la:=[(AV.agg (zO C))]) (la':=[(AV.agg (zO C))]) (S:=[]) Tryz.func95 rfl (by kernel_rfl) (.fn 95) rfl ⟨zAs.nr rfl,trivial⟩ (zJd w2) (.inl rfl)<|zA (zD rfl)<|zF ?_
     refine zt (r:=r) (fun (l1:List Int)=>mkE [(2,(AV.ptr 0 0)),(4,(AV.ptr 1 0)),(9,(li (at_ (C.free.getD i1.toNat ([]:List Int)) (0:Int)))),(10,(AV.hd 2))]) (fun l1=>[.box 51 (zO C),.box 51 (zO ⟨0,0,0,0,0,(List.replicate 5 ([]:List Int))⟩),.vec 3 1 (List.map cI l1)]) (fun l1=>zID C i1 l1) ?_ ?_
     ·
      refine zH<|zC<|zA (zB rfl)<|zA (zD rfl)<|zF<|zQ ?_
      refine zq (σ:=Int×(List Int)) (fun (i2,l2)=>mkE [(1,(li V)),(2,(AV.ptr 0 0)),(4,(AV.ptr 1 0)),(9,(li (at_ (C.free.getD i1.toNat ([]:List Int)) (0:Int)))),(10,(AV.hd 2)),(11,(li i2))]) (fun (i2,l2)=>[.box 51 (zO C),.box 51 (zO ⟨0,0,0,0,0,(List.replicate 5 ([]:List Int))⟩),.vec 3 1 (List.map cI l2)]) (fun n1 (i2,l2)=>zGT C V i1 n1 i2 l2) ((at_ (C.free.getD i1.toNat ([]:List Int)) (0:Int)),x2) h (fun _=>rfl) (z9 [0,1,2] rfl rfl (by kernel_rfl)) ?_
      clear h
      rintro n1 ⟨i2,l2⟩ h
      replace h:zD7 C V i1 (zGT C V i1 n1) i2 l2=some r:=h
      unfold zD7 at h
      refine zH<|zH<|zC<|zA (zB rfl)<|zA (zB rfl)<|zA (zB rfl) ?_
      refine zM h fun b8 h=>zA (zE1 (k' := .u64) (a:=V) Tryz.underlying3 Tryz.underlying74 rfl b8)<|zM h fun b9 h=>zM h fun b10 h=>zA (zCw (a:=1) (b:=V) rfl rfl b9 b10)<|zM h fun b11 h => ?_
      refine zA (ze rfl rfl b11)<|zA (zf rfl rfl)<|zF ?_
      refine zX h rfl (fun b12 h => ?_) (fun b12 h => ?_)
      ·refine zP<|zH<|zQ<|zC<|zA (zB rfl)<|zA (zB rfl) ?_
       refine zM h fun b13 h=>zA (zy (f:=cI) (l:=l2) (i:=i2) Tryz.underlying22 Tryz.sizeOf3 rfl rfl rfl b13)<|zj (H':=[.box 51 (zO C),.box 51 (zO ⟨0,0,0,0,0,(List.replicate 5 ([]:List Int))⟩),.vec 3 1 (List.map cI (l2.set i2.toNat 0))]) (zBt (k:=2) (o:=(i2.toNat*1)) (f:=cI) (l:=l2) (i:=i2) (c:=0) (a:=(li 0)) (z:=0) Tryz.sizeOf3 rfl rfl (by first | rfl | omega) b13 rfl rfl rfl rfl rfl)<|zF<|zC<|zA (zB rfl) ?_
       refine zM h fun b14 h=>zA (ze rfl rfl b14)<|zA (zD rfl)<|zF ?_
       exact ⟨((i2+1),(l2.set i2.toNat 0)),z9 [0,1,2] rfl rfl (by kernel_rfl),h⟩
      refine zw ?_
      exact ⟨l2,z9 [0,1,2] rfl rfl (by kernel_rfl),h⟩
     clear h
     intro l1 h
     unfold zID at h
     refine zH<|zC<|zA (zS (k:=0) (o:=0) (m:=10) Tryz.isAgg51 Tryz.sizeOf51 rfl rfl rfl rfl rfl)<|zA (zB rfl)<|zR h fun x3 w3 h=>zAA (zDR (j:=2) (ds:=[10,58]) (rows':=List.map cI l1) rfl (zAL (fun _=>rfl)) ⟨rfl,rfl,trivial⟩) ?_
     refine zR h fun x4 w4 h=>zh Tryz.func121 rfl (by kernel_rfl) (.fn 121) rfl rfl (zMM w4) rfl<|zA (zB rfl)<|zj (H':=[.box 51 (zO C),.box 51 (zO x4),.dead]) (zY (k:=1) (o:=0) (cs:=(zO ⟨0,0,0,0,0,(List.replicate 5 ([]:List Int))⟩)) (la:=(zO x4)) Tryz.sizeOf51 rfl rfl rfl rfl)<|zA (zD rfl)<|zA (zD rfl) ?_
     refine zF<|zd ?_
     cases h
     exact zCX (zFM Tryz.isAgg51 Tryz.sizeOf51 rfl rfl rfl rfl) (zAH rfl rfl) (zAH rfl rfl) rfl
    refine zP ?_
    exact ⟨(),z9 [0,1] rfl rfl (by kernel_rfl),h⟩
   clear h
   intro _ h
   unfold zH4 at h
   refine zC<|zA (zB rfl)<|zM h fun b4 h=>zA (ze rfl rfl b4)<|zA (zD rfl)<|zF ?_
   exact ⟨(i1+1),z9 [0,1] rfl rfl (by kernel_rfl),h⟩
  refine zw ?_
  exact ⟨(),z9 [1] rfl rfl (by kernel_rfl),h⟩
 clear h
 intro _ h
 unfold zH6 at h
 refine zH<|zC<|zA zv9<|zj (H':=[.box 51 (zO (⟨0,0,0,0,0,(List.replicate 5 ([]:List Int))⟩:zi))]) (zY (k:=0) (o:=0) (cs:=(zO ⟨0,0,0,0,0,(List.replicate 5 ([]:List Int))⟩)) (la:=(zO (⟨0,0,0,0,0,(List.replicate 5 ([]:List Int))⟩:zi))) Tryz.sizeOf51 rfl rfl rfl rfl)<|zA (zD rfl)<|zA (zD rfl) ?_
 refine zF<|zd ?_
 cases h
 exact zCX (zFM Tryz.isAgg51 Tryz.sizeOf51 rfl rfl rfl rfl) (zAH rfl rfl) (zAH rfl rfl) rfl
theorem zNt {A:zL} {D:Int} {G:List Int} {r:zL×Int} (h:zK1 A D G=some r):PFn Tryz.prog 140 [(AV.agg (zG A)),li D,ls cI G] (AV.tup [(AV.agg (zG r.1)),li r.2]):=by
 refine zo Tryz.func140 rfl Tryz.ntmps140 Tryz.results140 rfl ?_
 unfold zK1 at h
 refine zH<|zC<|za (H':=[.box 55 (zG A)]) (zv (t:=55) rfl)<|za (H':=[.box 55 (zG A),.box 55 [(ls (cS cI) ([]:List (List Int)))]]) zv1<|zA (zD rfl)<|zF ?_
 refine zH<|zH<|zC<|zA (zS (k:=0) (o:=0) (m:=1) Tryz.isAgg55 Tryz.sizeOf55 rfl rfl rfl rfl rfl)<|zA (zB rfl)<|zR h fun x1 w1 h => ?_
 refine zh Tryz.func122 rfl (by kernel_rfl) (.fn 122) rfl rfl (zJj w1) rfl<|zA (zD rfl)<|zF<|zH<|zC<|zA (zB rfl) ?_
 refine zA (zz rfl rfl)<|zF ?_
 refine zX h rfl (fun b1 h => ?_) (fun b1 h => ?_)
 ·refine zH<|zC<|zA zv2<|zA (zB rfl)<|zj (H':=[.box 55 (zG A),.box 55 (zG (⟨([]:List (List Int))⟩:zL))]) (zY (k:=1) (o:=0) (cs:=[(ls (cS cI) ([]:List (List Int)))]) (la:=(zG (⟨([]:List (List Int))⟩:zL))) Tryz.sizeOf55 rfl rfl rfl rfl)<|zA (zD rfl) ?_
  refine zF<|zd ?_
  cases h
  exact zBy (zFM Tryz.isAgg55 Tryz.sizeOf55 rfl rfl rfl rfl) (zAH rfl rfl) rfl
 refine zP ?_
 refine zt (r:=r) (fun (_:Unit)=>mkE [(1,(li D)),(2,(ls cI G)),(3,(AV.ptr 0 0)),(6,(AV.ptr 1 0))]) (fun _=>[.box 55 (zG A),.box 55 [(ls (cS cI) ([]:List (List Int)))]]) (fun _=>zI5 A D G) ?_ ?_
 ·
  refine zH<|zC<|zA (zB rfl)<|zA (zV Tryz.underlying22 rfl)<|zA (zB rfl)<|zF ?_
  refine zQ<|zq (σ:=Int) (fun i2=>mkE [(1,(li D)),(2,(ls cI G)),(3,(AV.ptr 0 0)),(6,(AV.ptr 1 0)),(22,(ls cI G)),(23,(li (G.length:Int))),(24,(li i2))]) (fun i2=>[.box 55 (zG A),.box 55 [(ls (cS cI) ([]:List (List Int)))]]) (fun n1 i2=>zCq A D G n1 i2) 0 h (fun _=>rfl) (z9 [0,1] rfl rfl (by kernel_rfl)) ?_
  clear h
  intro n1 i2 h
  replace h:zJS A D G (zCq A D G n1) i2=some r:=h
  unfold zJS at h
  refine zH<|zC<|zA (zf rfl rfl)<|zF<|zH ?_
  refine zX h rfl (fun b8 h => ?_) (fun b8 h => ?_)
  ·refine zP ?_
   refine zt (r:=r) (fun (_:Unit)=>mkE [(1,(li D)),(2,(ls cI G)),(3,(AV.ptr 0 0)),(6,(AV.ptr 1 0)),(22,(ls cI G)),(23,(li (G.length:Int))),(24,(li i2))]) (fun _=>[.box 55 (zG A),.box 55 [(ls (cS cI) ([]:List (List Int)))]]) (fun _=>zI6 (zCq A D G n1) i2) ?_ ?_
   ·
    refine zQ<|zH<|zC<|zA (zB rfl)<|zM h fun b10 h=>zA (zT Tryz.underlying22 Tryz.sizeOf3 (fun _=>rfl) rfl rfl b10) ?_
    refine zA (zU (o:=0) Tryz.isAgg3 rfl rfl)<|zA (zD rfl)<|zA (zD rfl)<|zF<|zH<|zH ?_
    refine zC<|zA (zB rfl)<|zR h fun x3 w3 h=>zh Tryz.func123 rfl (by kernel_rfl) (.fn 123) rfl rfl (zKa w3) rfl<|zF ?_
    refine zX h rfl (fun b11 h => ?_) (fun b11 h => ?_)
    ·refine zH<|zC<|zA zv2<|zj (H':=[.box 55 (zG A),.box 55 (zG (⟨([]:List (List Int))⟩:zL))]) (zY (k:=1) (o:=0) (cs:=[(ls (cS cI) ([]:List (List Int)))]) (la:=(zG (⟨([]:List (List Int))⟩:zL))) Tryz.sizeOf55 rfl rfl rfl rfl)<|zA (zD rfl)<|zF ?_
     refine zd ?_
     cases h
     exact zBy (zFM Tryz.isAgg55 Tryz.sizeOf55 rfl rfl rfl rfl) (zAH rfl rfl) rfl
    refine zP<|zH<|zH<|zC<|zA (zS (k:=0) (o:=0) (m:=1) Tryz.isAgg55 Tryz.sizeOf55 rfl rfl rfl rfl rfl)<|zA (zB rfl) ?_
    refine zR h fun x4 w4 h=>zh Tryz.func124 rfl (by kernel_rfl) (.fn 124) rfl rfl (zP5 w4) rfl<|zF ?_
    refine zX h rfl (fun b12 h => ?_) (fun b12 h => ?_)
    ·refine zH<|zC<|zA zv2<|zj (H':=[.box 55 (zG A),.box 55 (zG (⟨([]:List (List Int))⟩:zL))]) (zY (k:=1) (o:=0) (cs:=[(ls (cS cI) ([]:List (List Int)))]) (la:=(zG (⟨([]:List (List Int))⟩:zL))) Tryz.sizeOf55 rfl rfl rfl rfl)<|zA (zD rfl)<|zF ?_
     refine zd ?_
     cases h
     exact zBy (zFM Tryz.isAgg55 Tryz.sizeOf55 rfl rfl rfl rfl) (zAH rfl rfl) rfl
    refine zP<|zH<|zC<|zA (zB rfl)<|zA (zB rfl)<|zM h fun b13 h => ?_
    refine zA (zNX (hi:=i2) (f:=cI) (l:=G) Tryz.underlying22 Tryz.sizeOf3 (fun _=>rfl) rfl rfl b13)<|zA (zV Tryz.underlying22 rfl)<|zA (zB rfl)<|zF<|zQ<|zq (σ:=Int) (fun i3=>mkE [(1,(li D)),(2,(ls cI G)),(3,(AV.ptr 0 0)),(6,(AV.ptr 1 0)),(10,(li (at_ G i2))),(22,(ls cI G)),(23,(li (G.length:Int))),(24,(li i2)),(38,(ls cI (zIY G 0 i2))),(39,(li ((zIY G 0 i2).length:Int))),(40,(li i3))]) (fun i3=>[.box 55 (zG A),.box 55 [(ls (cS cI) ([]:List (List Int)))]]) (fun n2 i3=>zHN (zCq A D G n1) G i2 n2 i3) 0 h (fun _=>rfl) (z9 [0,1] rfl rfl (by kernel_rfl)) ?_
    clear h
    intro n2 i3 h
    replace h:zJM (zCq A D G n1) G i2 (zHN (zCq A D G n1) G i2 n2) i3=some r:=h
    unfold zJM at h
    refine zH<|zC<|zA (zf rfl rfl)<|zF<|zH ?_
    refine zX h rfl (fun b14 h => ?_) (fun b14 h => ?_)
    ·refine zP<|zH<|zQ<|zH<|zC<|zM h fun b15 h => ?_
     refine zA (zT Tryz.underlying22 Tryz.sizeOf3 (fun _=>rfl) rfl rfl b15)<|zA (zU (o:=0) Tryz.isAgg3 rfl rfl)<|zA (zD rfl)<|zF<|zH<|zC ?_
     refine zA (zB rfl)<|zA (zB rfl)<|zA (zAv rfl rfl)<|zF ?_
     refine zX h rfl (fun b16 h => ?_) (fun b16 h => ?_)
     ·refine zH<|zC<|zA zv2<|zj (H':=[.box 55 (zG A),.box 55 (zG (⟨([]:List (List Int))⟩:zL))]) (zY (k:=1) (o:=0) (cs:=[(ls (cS cI) ([]:List (List Int)))]) (la:=(zG (⟨([]:List (List Int))⟩:zL))) Tryz.sizeOf55 rfl rfl rfl rfl)<|zA (zD rfl)<|zF ?_
      refine zd ?_
      cases h
      exact zBy (zFM Tryz.isAgg55 Tryz.sizeOf55 rfl rfl rfl rfl) (zAH rfl rfl) rfl
     refine zP<|zC<|zM h fun b17 h=>zA (ze rfl rfl b17)<|zA (zB rfl)<|zF ?_
     exact ⟨(i3+1),z9 [0,1] rfl rfl (by kernel_rfl),h⟩
    refine zw ?_
    exact ⟨(),z9 [0,1] rfl rfl (by kernel_rfl),h⟩
   clear h
   intro _ h
   unfold zI6 at h
   refine zC<|zM h fun b9 h=>zA (ze rfl rfl b9)<|zA (zB rfl)<|zF ?_
   exact ⟨(i2+1),z9 [0,1] rfl rfl (by kernel_rfl),h⟩
  refine zw ?_
  exact ⟨(),z9 [0,1] rfl rfl (by kernel_rfl),h⟩
 clear h
 intro _ h
 unfold zI5 at h
 refine zH<|zC<|zA (zS (k:=0) (o:=0) (m:=1) Tryz.isAgg55 Tryz.sizeOf55 rfl rfl rfl rfl rfl)<|zR h fun x2 w2 h=>zGK (cs:=[AV.osl 22 1 (List.map (cO 3 1 cI) x2.lists)]) (la:=[(AV.agg (zG A))]) (la':=[(AV.agg (zG A))]) (S:=[]) Tryz.func114 rfl (by kernel_rfl) (.fn 114) rfl ⟨zAs.nr rfl,trivial⟩ (zHv w2) (.inl rfl)<|za (H':=[.box 55 (zG A),.box 55 [(ls (cS cI) ([]:List (List Int)))],.val (.agg [AV.osl 22 1 (List.map (cO 3 1 cI) x2.lists)]),.box 55 [(ls (cS cI) ([]:List (List Int)))]]) zv1 ?_
 refine zj (H':=[.box 55 (zG A),.box 55 [(ls (cS cI) ([]:List (List Int)))],.dead,.box 55 [AV.osl 22 1 (List.map (cO 3 1 cI) x2.lists)]]) (zCG (k:=3) (o:=0) (j:=2) (cs:=[(ls (cS cI) ([]:List (List Int)))]) (la:=[AV.osl 22 1 (List.map (cO 3 1 cI) x2.lists)]) Tryz.sizeOf55 rfl rfl rfl rfl rfl (by decide))<|zF ?_
 refine zt (r:=r) (fun (l1:List (List Int))=>mkE [(6,(AV.ptr 0 0)),(13,(AV.ptr 1 0))]) (fun l1=>[.box 55 [(ls (cS cI) ([]:List (List Int)))],.box 55 [AV.osl 22 1 (List.map (cO 3 1 cI) l1)]]) (fun l1=>zJU l1) ?_ ?_
 ·
  refine zH<|zC<|zA (zB rfl)<|zA (zV Tryz.underlying22 rfl)<|zM h fun b2 h=>zA (zBS rfl rfl b2) ?_
  refine zA (zD rfl)<|zF<|zQ<|zq (σ:=Int×(List (List Int))) (fun (i1,l2)=>mkE [(1,(li D)),(2,(ls cI G)),(6,(AV.ptr 0 0)),(13,(AV.ptr 1 0)),(14,(li i1))]) (fun (i1,l2)=>[.box 55 [(ls (cS cI) ([]:List (List Int)))],.box 55 [AV.osl 22 1 (List.map (cO 3 1 cI) l2)]]) (fun n0 (i1,l2)=>zG8 D G n0 i1 l2) (((G.length:Int) - 1),x2.lists) h (fun _=>rfl) (z9 [1,3] rfl rfl (by kernel_rfl)) ?_
  clear h
  rintro n0 ⟨i1,l2⟩ h
  replace h:zJC D G (zG8 D G n0) i1 l2=some r:=h
  unfold zJC at h
  refine zH<|zH<|zC<|zA (zB rfl)<|zA (zAw rfl rfl)<|zF ?_
  refine zX h rfl (fun b3 h => ?_) (fun b3 h => ?_)
  ·refine zP<|zH<|zQ<|zAT (zAd (k:=1) (o:=0) (t':=22) (sz:=1) (rows:=List.map (cO 3 1 cI) l2) rfl rfl)<|zM h fun b4 h=>zAT (zRv (k:=2) (f:=cI) (l:=l2) (i:=D) rfl b4) ?_
   refine zM h fun b5 h=>zM h fun b6 h => ?_
   refine zAl (n:=75) (m:=0) [.head 0 2,.head 0 2,.head 0 2,.head 0 1,.head 0 1,.head 0 1,.head 0 1,.head 0 1,.head 0 0,.head 0 0,.head 0 0,.head 0 0,.tail 0,.tail 1,.head 2 2,.tail 2] [12,13,15] [AV.ptr 1 0,AV.hd 2,li D,AV.ptr 1 0,AV.hd 2,li D,(AV.ptr 2 (D.toNat*1)),AV.hd 3,ls cI G,li i1,(AV.rp (cI (at_ G i1)) 0),(li (at_ G i1)),AV.hd 4,AV.hd 5,(AV.ptr 2 (D.toNat*1)),.any] [[.box 55 [(ls (cS cI) ([]:List (List Int)))],.box 55 [AV.hd 2],.vopen 22 1 (List.map (cO 3 1 cI) l2) D.toNat [.hd 3],.vec 3 1 (List.map cI (at_ l2 D))],[.box 55 [(ls (cS cI) ([]:List (List Int)))],.box 55 [AV.hd 2],.vopen 22 1 (List.map (cO 3 1 cI) l2) D.toNat [.hd 3],.vec 3 1 (List.map cI (at_ l2 D)),.vec 3 1 (List.map cI [at_ G i1])],[.box 55 [(ls (cS cI) ([]:List (List Int)))],.box 55 [AV.hd 2],.vopen 22 1 (List.map (cO 3 1 cI) l2) D.toNat [.hd 3],.dead,.vec 3 1 (List.map cI [at_ G i1]),.vec 3 1 (List.map cI ((at_ l2 D)++[at_ G i1]))],[.box 55 [(ls (cS cI) ([]:List (List Int)))],.box 55 [AV.hd 2],.vopen 22 1 (List.map (cO 3 1 cI) l2) D.toNat [.hd 5],.dead,.vec 3 1 (List.map cI [at_ G i1]),.vec 3 1 (List.map cI ((at_ l2 D)++[at_ G i1]))]] (by kernel_rfl) (by kernel_rfl) ⟨⟨D1 fun e s p=>zK (k:=1) (o:=0) (off:=0) Tryz.underlying55 rfl rfl Tryz.sizeOf53 (s 13 rfl),D1 fun e s p=>zK (k:=1) (o:=0) (off:=0) Tryz.underlying55 rfl rfl Tryz.sizeOf53 (s 13 rfl),D1 fun e s p=>zK (k:=1) (o:=0) (off:=0) Tryz.underlying55 rfl rfl Tryz.sizeOf53 (s 13 rfl)⟩,⟨D1 fun e s p=>zN (k:=1) (o:=0) Tryz.isAgg53 p.1 rfl rfl rfl,D1 fun e s p=>zN (k:=1) (o:=0) Tryz.isAgg53 p.1 rfl rfl rfl,D1 fun e s p=>zN (k:=1) (o:=0) Tryz.isAgg53 p.1 rfl rfl rfl⟩,⟨D1 fun e s p=>zB (s 1 rfl),D1 fun e s p=>zB (s 1 rfl),D1 fun e s p=>zB (s 1 rfl)⟩,⟨D1 fun e s p=>zK (k:=1) (o:=0) (off:=0) Tryz.underlying55 rfl rfl Tryz.sizeOf53 (s 13 rfl),D1 fun e s p=>zK (k:=1) (o:=0) (off:=0) Tryz.underlying55 rfl rfl Tryz.sizeOf53 (s 13 rfl)⟩,⟨D1 fun e s p=>zN (k:=1) (o:=0) Tryz.isAgg53 p.1 rfl rfl rfl,D1 fun e s p=>zN (k:=1) (o:=0) Tryz.isAgg53 p.1 rfl rfl rfl⟩,⟨D1 fun e s p=>zB (s 1 rfl),D1 fun e s p=>zB (s 1 rfl)⟩,⟨D1 fun e s p=>zMI (row:=[]) (i:=D) Tryz.underlying53 Tryz.sizeOf22 p.1 rfl p.2.1 (by rw [List.length_map]; exact b4),D1 fun e s p=>zMI (row:=[]) (i:=D) Tryz.underlying53 Tryz.sizeOf22 p.1 rfl p.2.1 (by rw [List.length_map]; exact b4)⟩,⟨D1 fun e s p=>zMT (k:=2) (i:=D.toNat) (a := .hd 3) Tryz.isAgg22 p.1 rfl rfl rfl,D1 fun e s p=>zMT (k:=2) (i:=D.toNat) (a := .hd 3) Tryz.isAgg22 p.1 rfl rfl rfl⟩,D1 fun e s p=>zB (s 2 rfl),D1 fun e s p=>zB (s 14 rfl),D1 fun e s p=>zT (f:=cI) (l:=G) (i:=i1) Tryz.underlying22 Tryz.sizeOf3 (fun _=>rfl) p.1 p.2.1 b5,D1 fun e s p=>zU (o:=0) Tryz.isAgg3 p.1 rfl,?_,?_,D1 fun e s p=>zMI (row:=[]) (i:=D) Tryz.underlying53 Tryz.sizeOf22 p.2.2.2.1 rfl p.2.2.2.2.1 (by rw [List.length_map]; exact b4),?_,trivial⟩ ?_
   ·
    intro e24 s24 p24
    refine zEP (a:=(li (at_ G i1))) zE0 Tryz.underlying22 p24.1 rfl rfl rfl ?_
    exact zF ⟨fun _=>rfl,rfl⟩
   ·
    intro e25 s25 p25
    refine zBp (f:=cI) (k:=3) (j:=4) (l:=at_ l2 D) (l':=[at_ G i1]) zE0 (fun _=>rfl) Tryz.underlying22 p25.1 rfl p25.2.1 rfl b6 ?_
    exact zF ⟨fun _=>rfl,rfl⟩
   ·
    intro e27 s27 p27
    refine zj (H':=[.box 55 [(ls (cS cI) ([]:List (List Int)))],.box 55 [AV.hd 2],.vopen 22 1 (List.map (cO 3 1 cI) l2) D.toNat [.hd 5],.dead,.vec 3 1 (List.map cI [at_ G i1]),.vec 3 1 (List.map cI ((at_ l2 D)++[at_ G i1]))]) (zPQ (k:=2) (j:=5) (j0:=3) (i:=D.toNat) Tryz.sizeOf22 (by exact p27.1) rfl rfl (by exact p27.2.2.2.2.2.2.2.2.2.2.2.2.2.2.2.2.1) rfl) ?_
    exact zF ⟨fun _=>rfl,rfl⟩
   intro e28 s28 hq1
   refine zAT (zBM (l:=[(1,(li D)),(2,(ls cI G)),(6,(AV.ptr 0 0)),(13,(AV.ptr 1 0)),(14,(li i1))]) ⟨s28 1 rfl,s28 2 rfl,s28 6 rfl,s28 13 rfl,s28 14 rfl,trivial⟩)<|zC<|zA (zB (av:=(li i1)) rfl)<|zM h fun b7 h=>zA (zBS (a:=i1) (b:=1) rfl rfl b7)<|zA (zD (av:=(li (i1 - 1))) rfl) ?_
   refine zF ?_
   exact ⟨((i1 - 1),(l2.set D.toNat ((at_ l2 D)++[at_ G i1]))),Rep.trans (zPS (k:=2) (j:=5) (f:=cI) (l:=l2) (l':=(at_ l2 D)++[at_ G i1]) rfl rfl rfl) (Rep.trans (z7 (k:=1) (j:=2) (o:=0) rfl rfl rfl rfl) (z9 [0,1] (l:=[(1,(li D)),(2,(ls cI G)),(6,(AV.ptr 0 0)),(13,(AV.ptr 1 0)),(14,(li (i1 - 1)))]) rfl rfl (by kernel_rfl))),h⟩
  refine zw ?_
  exact ⟨l2,z9 [0,1] rfl rfl (by kernel_rfl),h⟩
 clear h
 intro l1 h
 unfold zJU at h
 refine zH<|zC<|zAA (zBl (k:=1) (o:=0) (rows':=List.map (cS cI) l1) rfl rfl (zL6 (fun x=>zRl (fun _=>rfl) x)))<|zA (zS (k:=1) (o:=0) (m:=1) Tryz.isAgg55 Tryz.sizeOf55 rfl rfl rfl rfl rfl)<|zj (H':=[.box 55 (zG (⟨l1⟩:zL)),.box 55 [(ls (cS cI) l1)]]) (zY (k:=0) (o:=0) (cs:=[(ls (cS cI) ([]:List (List Int)))]) (la:=(zG (⟨l1⟩:zL))) Tryz.sizeOf55 rfl rfl rfl rfl)<|zA (zD rfl) ?_
 refine zF<|zd ?_
 cases h
 exact zBy (zFM Tryz.isAgg55 Tryz.sizeOf55 rfl rfl rfl rfl) (zAH rfl rfl) rfl
theorem zLH {B:zJ} {uA:Int} {M:Int} {r:zJ} (h:zJi B uA M=some r):AFn Tryz.prog 115 [AV.ptr 0 0,li uA,li M] [.box 26 ([ls cI B.nodes]++([li B.batch]++([li B.high]++([AV.osl 51 10 (List.map zO B.zones)]++([AV.osl 55 1 (List.map zG B.caches)]++[])))))] (.tup []) [.box 26 ([ls cI r.nodes]++([li r.batch]++([li r.high]++([AV.osl 51 10 (List.map zO r.zones)]++([AV.osl 55 1 (List.map zG r.caches)]++[])))))]:=by
 refine zEX Tryz.func115 rfl Tryz.ntmps115 Tryz.results115 rfl ?_
 unfold zJi at h
 refine zH<|zC<|zA (zD rfl)<|zF ?_
 refine zt (r:=r) (fun ((l1,l2):(List zi)×(List Int))=>mkE [(0,(AV.ptr 0 0)),(1,(li uA)),(2,(li M)),(6,(AV.hd 1))]) (fun (l1,l2)=>[.box 26 [ls cI B.nodes,li B.batch,li B.high,AV.osl 51 10 (List.map zO l1),AV.osl 55 1 (List.map zG B.caches)],.vec 3 1 (List.map cI l2)]) (fun (l1,l2)=>zHY B uA M l1 l2) ?_ ?_
 ·
  refine zQ<|zq (σ:=(List zi)×(List Int)) (fun (l3,l4)=>mkE [(0,(AV.ptr 0 0)),(1,(li uA)),(2,(li M)),(6,(AV.hd 1))]) (fun (l3,l4)=>[.box 26 [ls cI B.nodes,li B.batch,li B.high,AV.osl 51 10 (List.map zO l3),AV.osl 55 1 (List.map zG B.caches)],.vec 3 1 (List.map cI l4)]) (fun n0 (l3,l4)=>zHZ B uA M n0 l3 l4) (B.zones,[]) h (fun _=>rfl) (Rep.trans (zKr (d:=6) (el:=3) (sz:=1) rfl) (z9 [0,1] (l:=[(0,(AV.ptr 0 0)),(1,(li uA)),(2,(li M)),(6,(AV.hd 1))]) rfl rfl (by kernel_rfl))) ?_
  clear h
  rintro n0 ⟨l3,l4⟩ h
  replace h:zJG B uA M (zHZ B uA M n0) l3 l4=some r:=h
  unfold zJG at h
  refine zH<|zH<|zC<|zA (zB rfl)<|zA (zDF (f:=cI) (l:=l4) Tryz.underlying22 rfl rfl)<|zA (zB rfl) ?_
  refine zA (zAB rfl)<|zA (zK Tryz.underlying26 rfl rfl Tryz.sizeOf3 rfl)<|zA (zN Tryz.isAgg3 rfl rfl rfl rfl)<|zA (zf rfl rfl)<|zF ?_
  refine zX h rfl (fun b2 h => ?_) (fun b2 h => ?_)
  ·refine zP<|zQ<|zH<|zC<|zA (zB rfl)<|zA (zAB rfl) ?_
   refine zA (zK Tryz.underlying26 rfl rfl Tryz.sizeOf23 rfl)<|zAA (zAd (k:=0) (o:=3) (t':=51) (sz:=10) (rows:=List.map zO l3) rfl rfl)<|zA (zN Tryz.isAgg23 rfl rfl rfl rfl)<|zA (zB rfl)<|zM h fun b3 h=>zA (zy (f:=zO) (l:=l3) (i:=M) Tryz.underlying23 Tryz.sizeOf51 rfl rfl rfl b3) ?_
   refine zA (zBn (f:=zO) (l:=l3) (i:=M) (c:=0) (q:=10) (la:=(zO (at_ l3 M))) Tryz.isAgg51 Tryz.sizeOf51 rfl rfl (by first | rfl | omega) b3 rfl rfl rfl)<|zR h fun x2 w2 h=>zh Tryz.func66 rfl (by kernel_rfl) (.fn 66) rfl rfl (zLY w2) rfl<|zA (zB rfl)<|zA (zb rfl rfl)<|zA (zb rfl rfl) ?_
   refine zA (zb rfl rfl)<|za (H':=[.box 26 [ls cI B.nodes,li B.batch,li B.high,AV.hd 2,AV.osl 55 1 (List.map zG B.caches)],.vec 3 1 (List.map cI l4),.vec 51 10 (List.map zO l3),.box 51 (zO ⟨0,0,0,0,0,(List.replicate 5 ([]:List Int))⟩)]) zv0<|zj (H':=[.box 26 [ls cI B.nodes,li B.batch,li B.high,AV.hd 2,AV.osl 55 1 (List.map zG B.caches)],.vec 3 1 (List.map cI l4),.vec 51 10 (List.map zO l3),.box 51 (zO x2.1)]) (zY (k:=3) (o:=0) (cs:=(zO ⟨0,0,0,0,0,(List.replicate 5 ([]:List Int))⟩)) (la:=(zO x2.1)) Tryz.sizeOf51 rfl rfl rfl rfl)<|zA (zD rfl)<|zA (zD rfl)<|zF ?_
   refine zH<|zH<|zC<|zA (zB rfl)<|zA (zz rfl rfl)<|zF ?_
   refine zX h rfl (fun b4 h => ?_) (fun b4 h => ?_)
   ·refine zw ?_
    exact ⟨(l3,l4),Rep.trans (z7 (k:=0) (j:=2) (o:=3) rfl rfl rfl rfl) (z9 [0,1] (l:=[(0,(AV.ptr 0 0)),(1,(li uA)),(2,(li M)),(6,(AV.hd 1))]) rfl rfl (by kernel_rfl)),h⟩
   refine zP<|zH ?_
   refine zAl (n:=61) (m:=1) [.head 0 0,.head 0 0,.head 0 0,.head 0 0,.head 0 0,.head 0 0,.head 0 0,.tail 0] [7] [AV.ptr 0 0,AV.ptr 0 0,AV.ptr 0 3,AV.hd 2,li M,(AV.agg (zO x2.1)),(AV.ptr 2 (M.toNat*10)),.any] [[.box 26 [ls cI B.nodes,li B.batch,li B.high,AV.hd 2,AV.osl 55 1 (List.map zG B.caches)],.vec 3 1 (List.map cI l4),.vec 51 10 (List.map zO l3),.box 51 (zO x2.1)],[.box 26 [ls cI B.nodes,li B.batch,li B.high,AV.hd 2,AV.osl 55 1 (List.map zG B.caches)],.vec 3 1 (List.map cI l4),.vec 51 10 (List.map zO (l3.set M.toNat x2.1)),.box 51 (zO x2.1)]] (by kernel_rfl) (by kernel_rfl) ⟨D1 fun e s p=>zB (s 0 rfl),D1 fun e s p=>zAB p.1,D1 fun e s p=>zK (k:=0) (o:=0) (off:=3) Tryz.underlying26 rfl rfl Tryz.sizeOf23 p.1,D1 fun e s p=>zN (k:=0) (o:=3) Tryz.isAgg23 p.1 rfl rfl rfl,D1 fun e s p=>zB (s 2 rfl),D1 fun e s p=>zS (k:=3) (o:=0) (m:=10) Tryz.isAgg51 Tryz.sizeOf51 (s 7 rfl) rfl rfl rfl rfl,D1 fun e s p=>zy (f:=zO) (l:=l3) (i:=M) Tryz.underlying23 Tryz.sizeOf51 p.2.2.2.2.2.1 rfl p.2.2.2.2.2.2.1 b3,?_,trivial⟩ ?_
   ·
    intro e30 s30 p29
    refine zj (H':=[.box 26 [ls cI B.nodes,li B.batch,li B.high,AV.hd 2,AV.osl 55 1 (List.map zG B.caches)],.vec 3 1 (List.map cI l4),.vec 51 10 (List.map zO (l3.set M.toNat x2.1)),.box 51 (zO x2.1)]) (zBR (k:=2) (o:=(M.toNat*10)) (f:=zO) (l:=l3) (i:=M) (z:=x2.1) Tryz.sizeOf51 (fun _=>rfl) (by exact p29.1) rfl (by first | rfl | omega) b3 (by exact p29.2.2.2.2.2.2.2.1) rfl) ?_
    exact zF ⟨fun _=>rfl,rfl⟩
   intro e31 s31 hq2
   refine zAT (zBM (l:=[(0,(AV.ptr 0 0)),(1,(li uA)),(2,(li M)),(6,(AV.hd 1)),(8,(li x2.2.1))]) ⟨s31 0 rfl,s31 1 rfl,s31 2 rfl,s31 6 rfl,s31 8 rfl,trivial⟩)<|zC<|zA (zB (av:=(AV.hd 1)) rfl)<|zA (zB (av:=(li x2.2.1)) rfl)<|zEP (a:=(li x2.2.1)) zE0 Tryz.underlying22 rfl rfl rfl rfl<|zM h fun b5 h => ?_
   refine zBp (f:=cI) (k:=1) (j:=4) (l:=l4) (l':=[x2.2.1]) zE0 (fun _=>rfl) Tryz.underlying22 rfl rfl rfl rfl b5<|zA (zD rfl)<|zF ?_
   exact ⟨((l3.set M.toNat x2.1),(l4++[x2.2.1])),Rep.trans (z7 (k:=0) (j:=2) (o:=3) rfl rfl rfl rfl) (z9 [0,5] (l:=[(0,(AV.ptr 0 0)),(1,(li uA)),(2,(li M)),(6,(AV.hd 1))]) rfl rfl (by kernel_rfl)),h⟩
  refine zw ?_
  exact ⟨(l3,l4),z9 [0,1] rfl rfl (by kernel_rfl),h⟩
 clear h
 rintro ⟨l1,l2⟩ h
 unfold zHY at h
 refine zAT (zAd (k:=0) (o:=4) (t':=55) (sz:=1) (rows:=List.map zG B.caches) rfl rfl)<|zAT (zDR (j:=1) (ds:=[6]) (rows':=List.map cI l2) rfl (zAL (fun _=>rfl)) ⟨rfl,trivial⟩)<|zM h fun b1 h=>zR h fun x1 w1 h => ?_
 refine zAl (n:=61) (m:=1) [.head 0 0,.head 0 0,.head 0 0,.head 0 0,.head 0 0,.head 0 0,.head 0 0,.head 0 0,.head 0 0,.head 0 0,.head 0 0,.head 0 0,.head 0 0,.head 0 0,.head 0 0,.head 0 0,.head 0 0,.head 0 1,.head 0 0,.tail 0] [19] [AV.ptr 0 0,AV.ptr 0 0,AV.ptr 0 4,AV.hd 2,li uA,AV.ptr 0 0,AV.ptr 0 0,AV.ptr 0 4,AV.hd 2,li uA,(AV.ptr 2 (uA.toNat*1)),(AV.agg (zG (at_ B.caches uA))),li M,ls cI l2,(AV.tup [(AV.agg (zG x1.1)),li x1.2]),(AV.tup [(AV.agg (zG x1.1)),li x1.2]),(AV.agg (zG x1.1)),li x1.2,(AV.ptr 2 (uA.toNat*1)),.any] [[.box 26 [ls cI B.nodes,li B.batch,li B.high,AV.osl 51 10 (List.map zO l1),AV.hd 2],.dead,.vec 55 1 (List.map zG B.caches)],[.box 26 [ls cI B.nodes,li B.batch,li B.high,AV.osl 51 10 (List.map zO l1),AV.hd 2],.dead,.vec 55 1 (List.map zG (B.caches.set uA.toNat x1.1))]] (by kernel_rfl) (by kernel_rfl) ⟨D1 fun e s p=>zB (s 0 rfl),D1 fun e s p=>zAB p.1,D1 fun e s p=>zK (k:=0) (o:=0) (off:=4) Tryz.underlying26 rfl rfl Tryz.sizeOf24 p.1,D1 fun e s p=>zN (k:=0) (o:=4) Tryz.isAgg24 p.1 rfl rfl rfl,D1 fun e s p=>zB (s 1 rfl),D1 fun e s p=>zB (s 0 rfl),D1 fun e s p=>zAB p.1,D1 fun e s p=>zK (k:=0) (o:=0) (off:=4) Tryz.underlying26 rfl rfl Tryz.sizeOf24 p.1,D1 fun e s p=>zN (k:=0) (o:=4) Tryz.isAgg24 p.1 rfl rfl rfl,D1 fun e s p=>zB (s 1 rfl),D1 fun e s p=>zy (f:=zG) (l:=B.caches) (i:=uA) Tryz.underlying24 Tryz.sizeOf55 p.1 rfl p.2.1 b1,D1 fun e s p=>zBn (f:=zG) (l:=B.caches) (i:=uA) (c:=0) (q:=1) (la:=(zG (at_ B.caches uA))) Tryz.isAgg55 Tryz.sizeOf55 p.1 rfl (by first | rfl | omega) b1 rfl rfl rfl,D1 fun e s p=>zB (s 2 rfl),D1 fun e s p=>zB (s 6 rfl),?_,D1 fun e s p=>zB p.1,D1 fun e s p=>zb p.1 rfl,⟨D1 fun e s p=>zb p.1 rfl,D1 fun e s p=>zb p.1 rfl⟩,D1 fun e s p=>zy (f:=zG) (l:=B.caches) (i:=uA) Tryz.underlying24 Tryz.sizeOf55 p.2.2.2.2.2.1 rfl p.2.2.2.2.2.2.1 b1,?_,trivial⟩ ?_
 ·
  intro e15 s15 p15
  refine zh (r:=(AV.tup [(AV.agg (zG x1.1)),li x1.2])) (la:=[(AV.agg (zG (at_ B.caches uA))),li M,ls cI l2]) Tryz.func140 rfl (by kernel_rfl) (.fn 140) (zAM p15.1 (zAM p15.2.1 (zAM p15.2.2.1 rfl))) rfl (zNt w1) rfl ?_
  exact zF ⟨fun _=>rfl,rfl⟩
 ·
  intro e21 s21 p21
  refine zj (H':=[.box 26 [ls cI B.nodes,li B.batch,li B.high,AV.osl 51 10 (List.map zO l1),AV.hd 2],.dead,.vec 55 1 (List.map zG (B.caches.set uA.toNat x1.1))]) (zBR (k:=2) (o:=(uA.toNat*1)) (f:=zG) (l:=B.caches) (i:=uA) (z:=x1.1) Tryz.sizeOf55 (fun _=>rfl) (by exact p21.1) rfl (by first | rfl | omega) b1 (by exact p21.2.2.2.2.2.2.2.2.2.2.2.2.2.2.2.2.2.2.2.1) rfl) ?_
  exact zF ⟨fun _=>rfl,rfl⟩
 intro e22 s22 hq1
 cases h
 exact ⟨mkE [],[.box 26 [ls cI B.nodes,li B.batch,li B.high,AV.osl 51 10 (List.map zO l1),AV.osl 55 1 (List.map zG (B.caches.set uA.toNat x1.1))]],Rep.trans (zBM (l:=[]) trivial) (Rep.trans (z7 (k:=0) (j:=2) (o:=4) rfl rfl rfl rfl) (z9 [0] (l:=[]) rfl rfl (by kernel_rfl))),zLX rfl⟩
theorem zN2 {J:zL} {M:Int} {r:zL×(List Int)×Int} (h:zI3 J M=some r):PFn Tryz.prog 120 [(AV.agg (zG J)),li M] (AV.tup [(AV.agg (zG r.1)),ls cI r.2.1,li r.2.2]):=by
 refine zo Tryz.func120 rfl Tryz.ntmps120 Tryz.results120 rfl ?_
 unfold zI3 at h
 refine zH<|zC<|za (H':=[.box 55 (zG J)]) (zv (t:=55) rfl)<|za (H':=[.box 55 (zG J),.box 55 [(ls (cS cI) ([]:List (List Int)))]]) zv1<|zA (zD rfl)<|zA (zD rfl) ?_
 refine zF<|zH<|zH<|zC<|zA (zS (k:=0) (o:=0) (m:=1) Tryz.isAgg55 Tryz.sizeOf55 rfl rfl rfl rfl rfl)<|zA (zB rfl) ?_
 refine zR h fun x1 w1 h=>zh Tryz.func122 rfl (by kernel_rfl) (.fn 122) rfl rfl (zJj w1) rfl<|zA (zD rfl)<|zF<|zH<|zC ?_
 refine zA (zB rfl)<|zA (zz rfl rfl)<|zF ?_
 refine zX h rfl (fun b1 h => ?_) (fun b1 h => ?_)
 ·refine zH<|zC<|zA zv2<|zA (zB rfl)<|zj (H':=[.box 55 (zG J),.box 55 (zG (⟨([]:List (List Int))⟩:zL))]) (zY (k:=1) (o:=0) (cs:=[(ls (cS cI) ([]:List (List Int)))]) (la:=(zG (⟨([]:List (List Int))⟩:zL))) Tryz.sizeOf55 rfl rfl rfl rfl)<|zA (zD rfl) ?_
  refine zA (zD rfl)<|zF<|zd ?_
  cases h
  exact zCX (zFM Tryz.isAgg55 Tryz.sizeOf55 rfl rfl rfl rfl) (zJE (zAH rfl rfl) zAt.nils) (zAH rfl rfl) rfl
 refine zP<|zH<|zC<|zA (zS (k:=0) (o:=0) (m:=1) Tryz.isAgg55 Tryz.sizeOf55 rfl rfl rfl rfl rfl)<|zR h fun x2 w2 h=>zGK (cs:=[AV.osl 22 1 (List.map (cO 3 1 cI) x2.lists)]) (la:=[(AV.agg (zG J))]) (la':=[(AV.agg (zG J))]) (S:=[]) Tryz.func114 rfl (by kernel_rfl) (.fn 114) rfl ⟨zAs.nr rfl,trivial⟩ (zHv w2) (.inl rfl) ?_
 refine zAA (zPf (k:=2) (o:=0) (cs:=[AV.osl 22 1 (List.map (cO 3 1 cI) x2.lists)]) (rows':=List.map (cS cI) x2.lists) rfl rfl (zL6 (fun x=>zRl (fun _=>rfl) x)))<|za (H':=[.box 55 (zG J),.box 55 [(ls (cS cI) ([]:List (List Int)))],.val (.agg [AV.osl 22 1 (List.map (cS cI) x2.lists)]),.box 55 [(ls (cS cI) ([]:List (List Int)))]]) zv1<|zj (H':=[.box 55 (zG J),.box 55 [(ls (cS cI) ([]:List (List Int)))],.dead,.box 55 [AV.osl 22 1 (List.map (cS cI) x2.lists)]]) (zCG (k:=3) (o:=0) (j:=2) (cs:=[(ls (cS cI) ([]:List (List Int)))]) (la:=[AV.osl 22 1 (List.map (cS cI) x2.lists)]) Tryz.sizeOf55 rfl rfl rfl rfl rfl (by decide))<|zF<|zH<|zC ?_
 refine zA (zD rfl)<|zF<|zH<|zC<|zA (zB rfl)<|zA (zK Tryz.underlying55 rfl rfl Tryz.sizeOf53 rfl) ?_
 refine zAA (zAd (k:=3) (o:=0) (t':=22) (sz:=1) (rows:=List.map (cS cI) x2.lists) rfl rfl)<|zA (zN Tryz.isAgg53 rfl rfl rfl rfl)<|zA (zB rfl)<|zM h fun b2 h=>zA (zy (f:=(cS cI)) (l:=x2.lists) (i:=M) Tryz.underlying53 Tryz.sizeOf22 rfl rfl rfl b2)<|zA (zAq (f:=(cS cI)) (l:=x2.lists) (i:=M) (c:=0) (a:=(ls cI (at_ x2.lists M))) Tryz.isAgg22 rfl rfl (by first | rfl | omega) b2 rfl rfl) ?_
 refine zAA (zKr (d:=19) (el:=3) (sz:=1) rfl)<|zM h fun b3 h=>zFr (f:=cI) (k:=5) (l:=([]:List Int)) (l':=at_ x2.lists M) zE0 (fun _=>rfl) Tryz.underlying22 rfl rfl rfl b3<|zA (zD rfl)<|zF<|zH ?_
 refine zC<|zA (zK Tryz.underlying55 rfl rfl Tryz.sizeOf53 rfl)<|zA (zN Tryz.isAgg53 rfl rfl rfl rfl)<|zA (zB rfl)<|zA (zy (f:=(cS cI)) (l:=x2.lists) (i:=M) Tryz.underlying53 Tryz.sizeOf22 rfl rfl rfl b2)<|zj (H':=[.box 55 (zG J),.box 55 [(ls (cS cI) ([]:List (List Int)))],.dead,.box 55 [AV.hd 4],.vec 22 1 (List.map (cS cI) (x2.lists.set M.toNat ([]:List Int))),.dead,.vec 3 1 (List.map cI (([]:List Int)++(at_ x2.lists M)))]) (zOj (k:=4) (o:=(M.toNat*1)) (f:=(cS cI)) (l:=x2.lists) (i:=M) (c:=0) (a:=(ls cI ([]:List Int))) (z:=([]:List Int)) Tryz.sizeOf22 rfl rfl (by first | rfl | omega) b2 rfl (by exact zAt.sub zAt.nils) rfl rfl rfl) ?_
 refine zF<|zH<|zC<|zAA (z7 (k:=3) (j:=4) (o:=0) rfl rfl rfl rfl)<|zAA (zBl (k:=3) (o:=0) (rows':=List.map (cS cI) (x2.lists.set M.toNat ([]:List Int))) rfl rfl (zAL (fun _=>rfl)))<|zA (zS (k:=3) (o:=0) (m:=1) Tryz.isAgg55 Tryz.sizeOf55 rfl rfl rfl rfl rfl) ?_
 refine zA (zB rfl)<|zj (H':=[.box 55 (zG J),.box 55 (zG (⟨x2.lists.set M.toNat ([]:List Int)⟩:zL)),.dead,.box 55 [(ls (cS cI) (x2.lists.set M.toNat ([]:List Int)))],.dead,.dead,.vec 3 1 (List.map cI (([]:List Int)++(at_ x2.lists M)))]) (zY (k:=1) (o:=0) (cs:=[(ls (cS cI) ([]:List (List Int)))]) (la:=(zG (⟨x2.lists.set M.toNat ([]:List Int)⟩:zL))) Tryz.sizeOf55 rfl rfl rfl rfl)<|zA (zD rfl)<|zA (zD rfl)<|zF<|zAT (zDR (j:=6) (ds:=[5,9,25,31]) (rows':=List.map cI (([]:List Int)++(at_ x2.lists M))) rfl (zAL (fun _=>rfl)) ⟨rfl,rfl,rfl,rfl,trivial⟩) ?_
 refine zd ?_
 cases h
 exact zCX (zFM Tryz.isAgg55 Tryz.sizeOf55 rfl rfl rfl rfl) (zAH rfl rfl) (zAH rfl rfl) rfl
theorem zLU {B:zJ} {uA:Int} {M:Int} {r:zJ} (h:zHk B uA M=some r):AFn Tryz.prog 65 [AV.ptr 0 0,li uA,li M] [.box 26 ([ls cI B.nodes]++([li B.batch]++([li B.high]++([AV.osl 51 10 (List.map zO B.zones)]++([AV.osl 55 1 (List.map zG B.caches)]++[])))))] (.tup []) [.box 26 ([ls cI r.nodes]++([li r.batch]++([li r.high]++([AV.osl 51 10 (List.map zO r.zones)]++([AV.osl 55 1 (List.map zG r.caches)]++[])))))]:=by
 refine zEX Tryz.func65 rfl Tryz.ntmps65 Tryz.results65 rfl ?_
 unfold zHk at h
 refine zH<|zC<|zA (zB rfl)<|zA (zAB rfl)<|zA (zK Tryz.underlying26 rfl rfl Tryz.sizeOf24 rfl)<|zAA (zAd (k:=0) (o:=4) (t':=55) (sz:=1) (rows:=List.map zG B.caches) rfl rfl) ?_
 refine zA (zN Tryz.isAgg24 rfl rfl rfl rfl)<|zA (zB rfl)<|zM h fun b1 h=>zA (zy (f:=zG) (l:=B.caches) (i:=uA) Tryz.underlying24 Tryz.sizeOf55 rfl rfl rfl b1)<|zA (zBn (f:=zG) (l:=B.caches) (i:=uA) (c:=0) (q:=1) (la:=(zG (at_ B.caches uA))) Tryz.isAgg55 Tryz.sizeOf55 rfl rfl (by first | rfl | omega) b1 rfl rfl rfl)<|zA (zB rfl) ?_
 refine zR h fun x1 w1 h=>zh Tryz.func120 rfl (by kernel_rfl) (.fn 120) rfl rfl (zN2 w1) rfl<|zA (zB rfl)<|zA (zb rfl rfl)<|zA (zb rfl rfl)<|zA (zb rfl rfl) ?_
 refine za (H':=[.box 26 [ls cI B.nodes,li B.batch,li B.high,AV.osl 51 10 (List.map zO B.zones),AV.hd 1],.vec 55 1 (List.map zG B.caches),.box 55 [(ls (cS cI) ([]:List (List Int)))]]) zv1<|zj (H':=[.box 26 [ls cI B.nodes,li B.batch,li B.high,AV.osl 51 10 (List.map zO B.zones),AV.hd 1],.vec 55 1 (List.map zG B.caches),.box 55 (zG x1.1)]) (zY (k:=2) (o:=0) (cs:=[(ls (cS cI) ([]:List (List Int)))]) (la:=(zG x1.1)) Tryz.sizeOf55 rfl rfl rfl rfl)<|zA (zD rfl)<|zA (zD rfl)<|zF<|zH ?_
 refine zAl (n:=33) (m:=1) [.head 0 0,.head 0 0,.head 0 0,.head 0 0,.head 0 0,.head 0 0,.head 0 0,.tail 0] [7] [AV.ptr 0 0,AV.ptr 0 0,AV.ptr 0 4,AV.hd 1,li uA,(AV.agg (zG x1.1)),(AV.ptr 1 (uA.toNat*1)),.any] [[.box 26 [ls cI B.nodes,li B.batch,li B.high,AV.osl 51 10 (List.map zO B.zones),AV.hd 1],.vec 55 1 (List.map zG B.caches),.box 55 (zG x1.1)],[.box 26 [ls cI B.nodes,li B.batch,li B.high,AV.osl 51 10 (List.map zO B.zones),AV.hd 1],.vec 55 1 (List.map zG (B.caches.set uA.toNat x1.1)),.box 55 (zG x1.1)]] (by kernel_rfl) (by kernel_rfl) ⟨D1 fun e s p=>zB (s 0 rfl),D1 fun e s p=>zAB p.1,D1 fun e s p=>zK (k:=0) (o:=0) (off:=4) Tryz.underlying26 rfl rfl Tryz.sizeOf24 p.1,D1 fun e s p=>zN (k:=0) (o:=4) Tryz.isAgg24 p.1 rfl rfl rfl,D1 fun e s p=>zB (s 1 rfl),D1 fun e s p=>zS (k:=2) (o:=0) (m:=1) Tryz.isAgg55 Tryz.sizeOf55 (s 6 rfl) rfl rfl rfl rfl,D1 fun e s p=>zy (f:=zG) (l:=B.caches) (i:=uA) Tryz.underlying24 Tryz.sizeOf55 p.2.2.2.2.2.1 rfl p.2.2.2.2.2.2.1 b1,?_,trivial⟩ ?_
 ·
  intro e8 s8 p8
  refine zj (H':=[.box 26 [ls cI B.nodes,li B.batch,li B.high,AV.osl 51 10 (List.map zO B.zones),AV.hd 1],.vec 55 1 (List.map zG (B.caches.set uA.toNat x1.1)),.box 55 (zG x1.1)]) (zBR (k:=1) (o:=(uA.toNat*1)) (f:=zG) (l:=B.caches) (i:=uA) (z:=x1.1) Tryz.sizeOf55 (fun _=>rfl) (by exact p8.1) rfl (by first | rfl | omega) b1 (by exact p8.2.2.2.2.2.2.2.1) rfl) ?_
  exact zF ⟨fun _=>rfl,rfl⟩
 intro e9 s9 hq1
 refine zAT (zBM (l:=[(0,(AV.ptr 0 0)),(2,(li M)),(7,(ls cI x1.2.1))]) ⟨s9 0 rfl,s9 2 rfl,s9 7 rfl,trivial⟩)<|zC<|zA (zB (av:=(AV.ptr 0 0)) rfl)<|zA (zB (av:=(li M)) rfl)<|zA (zB (av:=(ls cI x1.2.1)) rfl)<|zAA (z7 (k:=0) (j:=1) (o:=4) (cs:=[ls cI B.nodes,li B.batch,li B.high,AV.osl 51 10 (List.map zO B.zones),AV.hd 1]) rfl rfl rfl rfl) ?_
 refine zR h fun x2 w2 h=>zCt (k:=0) (la:=[AV.ptr 0 0,li M,ls cI x1.2.1]) (la':=[AV.ptr 0 0,li M,ls cI x1.2.1]) (r:=(.tup [])) (S:=[]) (en' := .box 26 [ls cI x2.nodes,li x2.batch,li x2.high,AV.osl 51 10 (List.map zO x2.zones),AV.osl 55 1 (List.map zG x2.caches)]) Tryz.func70 rfl (by kernel_rfl) (.fn 70) rfl ⟨zB0.ptr,zB0.of (zAs.nr rfl),zB0.of (zAs.nr rfl),trivial⟩ rfl rfl (by kernel_rfl) (by kernel_rfl) (zO9 w2) rfl (.inl rfl)<|zF ?_
 cases h
 exact ⟨mkE [],[.box 26 [ls cI x2.nodes,li x2.batch,li x2.high,AV.osl 51 10 (List.map zO x2.zones),AV.osl 55 1 (List.map zG x2.caches)]],z9 [0] rfl rfl (by kernel_rfl),zLX rfl⟩
theorem zO6 {J:zL} {M:Int} {r:zL×Int×Int} (h:zMm J M=some r):PFn Tryz.prog 116 [(AV.agg (zG J)),li M] (AV.tup [(AV.agg (zG r.1)),li r.2.1,li r.2.2]):=by
 refine zo Tryz.func116 rfl Tryz.ntmps116 Tryz.results116 rfl ?_
 unfold zMm at h
 refine zH<|zC<|za (H':=[.box 55 (zG J)]) (zv (t:=55) rfl)<|za (H':=[.box 55 (zG J),.box 55 [(ls (cS cI) ([]:List (List Int)))]]) zv1<|zA (zD rfl)<|zA (zD rfl) ?_
 refine zF<|zH<|zH<|zC<|zA (zS (k:=0) (o:=0) (m:=1) Tryz.isAgg55 Tryz.sizeOf55 rfl rfl rfl rfl rfl)<|zA (zB rfl) ?_
 refine zR h fun x1 w1 h=>zh Tryz.func122 rfl (by kernel_rfl) (.fn 122) rfl rfl (zJj w1) rfl<|zA (zD rfl)<|zF<|zH<|zC ?_
 refine zA (zB rfl)<|zA (zz rfl rfl)<|zF ?_
 refine zX h rfl (fun b1 h => ?_) (fun b1 h => ?_)
 ·refine zH<|zC<|zA zv2<|zA (zB rfl)<|zj (H':=[.box 55 (zG J),.box 55 (zG (⟨([]:List (List Int))⟩:zL))]) (zY (k:=1) (o:=0) (cs:=[(ls (cS cI) ([]:List (List Int)))]) (la:=(zG (⟨([]:List (List Int))⟩:zL))) Tryz.sizeOf55 rfl rfl rfl rfl)<|zA (zD rfl) ?_
  refine zA (zD rfl)<|zF<|zd ?_
  cases h
  exact zCX (zFM Tryz.isAgg55 Tryz.sizeOf55 rfl rfl rfl rfl) (zAH rfl rfl) (zAH rfl rfl) rfl
 refine zP<|zH<|zC<|zA (zK Tryz.underlying55 rfl rfl Tryz.sizeOf53 rfl)<|zA (zN Tryz.isAgg53 rfl rfl rfl rfl)<|zA (zB rfl) ?_
 refine zM h fun b2 h=>zA (zT Tryz.underlying53 Tryz.sizeOf22 (fun _=>rfl) rfl rfl b2)<|zA (zU (o:=0) Tryz.isAgg22 rfl rfl)<|zA (zV Tryz.underlying22 rfl)<|zA (zD rfl)<|zF ?_
 refine zH<|zH<|zC<|zA (zB rfl)<|zA (zAv rfl rfl)<|zF ?_
 refine zX h rfl (fun b3 h => ?_) (fun b3 h => ?_)
 ·refine zH<|zC<|zA zv2<|zj (H':=[.box 55 (zG J),.box 55 (zG (⟨([]:List (List Int))⟩:zL))]) (zY (k:=1) (o:=0) (cs:=[(ls (cS cI) ([]:List (List Int)))]) (la:=(zG (⟨([]:List (List Int))⟩:zL))) Tryz.sizeOf55 rfl rfl rfl rfl)<|zA (zD rfl)<|zA (zD rfl) ?_
  refine zF<|zd ?_
  cases h
  exact zCX (zFM Tryz.isAgg55 Tryz.sizeOf55 rfl rfl rfl rfl) (zAH rfl rfl) (zAH rfl rfl) rfl
 refine zP<|zH<|zC<|zA (zS (k:=0) (o:=0) (m:=1) Tryz.isAgg55 Tryz.sizeOf55 rfl rfl rfl rfl rfl)<|zR h fun x2 w2 h=>zGK (cs:=[AV.osl 22 1 (List.map (cO 3 1 cI) x2.lists)]) (la:=[(AV.agg (zG J))]) (la':=[(AV.agg (zG J))]) (S:=[]) Tryz.func114 rfl (by kernel_rfl) (.fn 114) rfl ⟨zAs.nr rfl,trivial⟩ (zHv w2) (.inl rfl) ?_
 refine zAA (zPf (k:=2) (o:=0) (cs:=[AV.osl 22 1 (List.map (cO 3 1 cI) x2.lists)]) (rows':=List.map (cS cI) x2.lists) rfl rfl (zL6 (fun x=>zRl (fun _=>rfl) x)))<|za (H':=[.box 55 (zG J),.box 55 [(ls (cS cI) ([]:List (List Int)))],.val (.agg [AV.osl 22 1 (List.map (cS cI) x2.lists)]),.box 55 [(ls (cS cI) ([]:List (List Int)))]]) zv1<|zj (H':=[.box 55 (zG J),.box 55 [(ls (cS cI) ([]:List (List Int)))],.dead,.box 55 [AV.osl 22 1 (List.map (cS cI) x2.lists)]]) (zCG (k:=3) (o:=0) (j:=2) (cs:=[(ls (cS cI) ([]:List (List Int)))]) (la:=[AV.osl 22 1 (List.map (cS cI) x2.lists)]) Tryz.sizeOf55 rfl rfl rfl rfl rfl (by decide))<|zF<|zH<|zC ?_
 refine zA (zK Tryz.underlying55 rfl rfl Tryz.sizeOf53 rfl)<|zAA (zAd (k:=3) (o:=0) (t':=22) (sz:=1) (rows:=List.map (cS cI) x2.lists) rfl rfl)<|zA (zN Tryz.isAgg53 rfl rfl rfl rfl)<|zA (zB rfl)<|zM h fun b4 h=>zA (zy (f:=(cS cI)) (l:=x2.lists) (i:=M) Tryz.underlying53 Tryz.sizeOf22 rfl rfl rfl b4) ?_
 refine zA (zAq (f:=(cS cI)) (l:=x2.lists) (i:=M) (c:=0) (a:=(ls cI (at_ x2.lists M))) Tryz.isAgg22 rfl rfl (by first | rfl | omega) b4 rfl rfl)<|zA (zB rfl)<|zM h fun b5 h=>zA (zBS rfl rfl b5)<|zM h fun b6 h=>zA (zT Tryz.underlying22 Tryz.sizeOf3 (fun _=>rfl) rfl rfl b6) ?_
 refine zA (zU (o:=0) Tryz.isAgg3 rfl rfl)<|zA (zD rfl)<|zF<|zH<|zM h fun b7 h => ?_
 refine zAl (n:=52) (m:=0) [.head 0 0,.head 0 0,.head 0 0,.head 0 0,.head 0 0,.head 0 0,.head 0 0,.head 0 0,.head 0 0,.head 0 0,.head 0 0,.head 0 0,.tail 0] [12] [AV.ptr 3 0,AV.hd 4,li M,AV.ptr 3 0,AV.hd 4,li M,(AV.ptr 4 (M.toNat*1)),(ls cI (at_ x2.lists M)),(li ((at_ J.lists M).length:Int)),(li (((at_ J.lists M).length:Int) - 1)),(ls cI (zIY (at_ x2.lists M) 0 (((at_ J.lists M).length:Int) - 1))),(AV.ptr 4 (M.toNat*1)),.any] [[.box 55 (zG J),.box 55 [(ls (cS cI) ([]:List (List Int)))],.dead,.box 55 [AV.hd 4],.vec 22 1 (List.map (cS cI) x2.lists)],[.box 55 (zG J),.box 55 [(ls (cS cI) ([]:List (List Int)))],.dead,.box 55 [AV.hd 4],.vec 22 1 (List.map (cS cI) (x2.lists.set M.toNat (zIY (at_ x2.lists M) 0 (((at_ J.lists M).length:Int) - 1))))]] (by kernel_rfl) (by kernel_rfl) ⟨D1 fun e s p=>zK (k:=3) (o:=0) (off:=0) Tryz.underlying55 rfl rfl Tryz.sizeOf53 (s 9 rfl),D1 fun e s p=>zN (k:=3) (o:=0) Tryz.isAgg53 p.1 rfl rfl rfl,D1 fun e s p=>zB (s 1 rfl),D1 fun e s p=>zK (k:=3) (o:=0) (off:=0) Tryz.underlying55 rfl rfl Tryz.sizeOf53 (s 9 rfl),D1 fun e s p=>zN (k:=3) (o:=0) Tryz.isAgg53 p.1 rfl rfl rfl,D1 fun e s p=>zB (s 1 rfl),D1 fun e s p=>zy (f:=(cS cI)) (l:=x2.lists) (i:=M) Tryz.underlying53 Tryz.sizeOf22 p.1 rfl p.2.1 b4,D1 fun e s p=>zAq (f:=(cS cI)) (l:=x2.lists) (i:=M) (c:=0) (a:=(ls cI (at_ x2.lists M))) Tryz.isAgg22 p.1 rfl (by first | rfl | omega) b4 rfl rfl,D1 fun e s p=>zB (s 8 rfl),D1 fun e s p=>zBS (a:=((at_ J.lists M).length:Int)) (b:=1) p.1 rfl b5,D1 fun e s p=>zNX (hi:=((at_ J.lists M).length:Int) - 1) (f:=cI) (l:=at_ x2.lists M) Tryz.underlying22 Tryz.sizeOf3 (fun _=>rfl) p.1 p.2.1 b7,D1 fun e s p=>zy (f:=(cS cI)) (l:=x2.lists) (i:=M) Tryz.underlying53 Tryz.sizeOf22 p.2.2.2.1 rfl p.2.2.2.2.1 b4,?_,trivial⟩ ?_
 ·
  intro e13 s13 p13
  refine zj (H':=[.box 55 (zG J),.box 55 [(ls (cS cI) ([]:List (List Int)))],.dead,.box 55 [AV.hd 4],.vec 22 1 (List.map (cS cI) (x2.lists.set M.toNat (zIY (at_ x2.lists M) 0 (((at_ J.lists M).length:Int) - 1))))]) (zBt (k:=4) (o:=(M.toNat*1)) (f:=(cS cI)) (l:=x2.lists) (i:=M) (c:=0) (a:=(ls cI (zIY (at_ x2.lists M) 0 (((at_ J.lists M).length:Int) - 1)))) (z:=zIY (at_ x2.lists M) 0 (((at_ J.lists M).length:Int) - 1)) Tryz.sizeOf22 (by exact p13.1) rfl (by first | rfl | omega) b4 rfl (by exact p13.2.2.2.2.2.2.2.2.2.2.2.2.1) rfl rfl rfl) ?_
  exact zF ⟨fun _=>rfl,rfl⟩
 intro e14 s14 hq1
 refine zAT (zBM (l:=[(4,(AV.ptr 1 0)),(9,(AV.ptr 3 0)),(10,(li (at_ (at_ x2.lists M) (((at_ J.lists M).length:Int) - 1))))]) ⟨s14 4 rfl,s14 9 rfl,s14 10 rfl,trivial⟩)<|zH<|zC<|zAA (z7 (k:=3) (j:=4) (o:=0) (cs:=[AV.hd 4]) rfl rfl rfl rfl)<|zAA (zBl (k:=3) (o:=0) (cs:=[AV.osl 22 1 (List.map (cS cI) (x2.lists.set M.toNat (zIY (at_ x2.lists M) 0 (((at_ J.lists M).length:Int) - 1))))]) (rows':=List.map (cS cI) (x2.lists.set M.toNat (zIY (at_ x2.lists M) 0 (((at_ J.lists M).length:Int) - 1)))) rfl rfl (zAL (fun _=>rfl)))<|zA (zS (k:=3) (o:=0) (m:=1) (la:=[(ls (cS cI) (x2.lists.set M.toNat (zIY (at_ x2.lists M) 0 (((at_ J.lists M).length:Int) - 1))))]) Tryz.isAgg55 Tryz.sizeOf55 rfl rfl rfl rfl rfl) ?_
 refine zA (zB rfl)<|zj (H':=[.box 55 (zG J),.box 55 (zG (⟨x2.lists.set M.toNat (zIY (at_ x2.lists M) 0 (((at_ J.lists M).length:Int) - 1))⟩:zL)),.dead,.box 55 [(ls (cS cI) (x2.lists.set M.toNat (zIY (at_ x2.lists M) 0 (((at_ J.lists M).length:Int) - 1))))],.dead]) (zY (k:=1) (o:=0) (cs:=[(ls (cS cI) ([]:List (List Int)))]) (la:=(zG (⟨x2.lists.set M.toNat (zIY (at_ x2.lists M) 0 (((at_ J.lists M).length:Int) - 1))⟩:zL))) Tryz.sizeOf55 rfl rfl rfl rfl)<|zA (zD rfl)<|zA (zD rfl)<|zF<|zd ?_
 cases h
 exact zCX (zFM Tryz.isAgg55 Tryz.sizeOf55 rfl rfl rfl rfl) (zAH rfl rfl) (zAH rfl rfl) rfl
theorem zUh {A:zJ} {D:Int} {G:Int} {r:zJ×Int} (h:zPP A D G=some r):AFn Tryz.prog 60 [AV.ptr 0 0,li D,li G] [.box 26 ([ls cI A.nodes]++([li A.batch]++([li A.high]++([AV.osl 51 10 (List.map zO A.zones)]++([AV.osl 55 1 (List.map zG A.caches)]++[])))))] (li r.2) [.box 26 ([ls cI r.1.nodes]++([li r.1.batch]++([li r.1.high]++([AV.osl 51 10 (List.map zO r.1.zones)]++([AV.osl 55 1 (List.map zG r.1.caches)]++[])))))]:=by
 refine zEX Tryz.func60 rfl Tryz.ntmps60 Tryz.results60 rfl ?_
 unfold zPP at h
 refine zH<|zC<|zA (zD rfl)<|zF ?_
 refine zt (r:=r) (fun ((d1,d2,d3,l1,l2):(List Int)×Int×Int×(List zi)×(List zL))=>mkE [(0,(AV.ptr 0 0)),(1,(li D)),(2,(li G))]) (fun (d1,d2,d3,l1,l2)=>[.box 26 [ls cI d1,li d2,li d3,AV.osl 51 10 (List.map zO l1),AV.osl 55 1 (List.map zG l2)]]) (fun (d1,d2,d3,l1,l2)=>zJX D G d1 d2 d3 l1 l2) ?_ ?_
 ·
  refine zH<|zC<|zA (zB rfl)<|zA (zAB rfl)<|zA (zK Tryz.underlying26 rfl rfl Tryz.sizeOf24 rfl)<|zAA (zAd (k:=0) (o:=4) (t':=55) (sz:=1) (rows:=List.map zG A.caches) rfl rfl) ?_
  refine zA (zN Tryz.isAgg24 rfl rfl rfl rfl)<|zA (zB rfl)<|zM h fun b7 h=>zA (zy (f:=zG) (l:=A.caches) (i:=D) Tryz.underlying24 Tryz.sizeOf55 rfl rfl rfl b7)<|zA (zK Tryz.underlying55 rfl rfl Tryz.sizeOf53 rfl)<|zA (zAq (f:=zG) (l:=A.caches) (i:=D) (c:=0) (a:=(ls (cS cI) ((at_ A.caches D).lists))) Tryz.isAgg53 rfl rfl (by first | rfl | omega) b7 rfl rfl) ?_
  refine zA (zB rfl)<|zM h fun b8 h=>zA (zT Tryz.underlying53 Tryz.sizeOf22 (fun _=>rfl) rfl rfl b8)<|zA (zU (o:=0) Tryz.isAgg22 rfl rfl)<|zA (zV Tryz.underlying22 rfl)<|zA (zAv rfl rfl) ?_
  refine zF ?_
  refine zX h rfl (fun b9 h => ?_) (fun b9 h => ?_)
  ·refine zC<|zA (zB rfl)<|zA (zB rfl)<|zA (zB rfl)<|zAA (z7 (k:=0) (j:=1) (o:=4) rfl rfl rfl rfl)<|zR h fun x4 w4 h => ?_
   refine zCt (k:=0) (la:=[AV.ptr 0 0,li D,li G]) (la':=[AV.ptr 0 0,li D,li G]) (r:=(.tup [])) (S:=[]) (en' := .box 26 [ls cI x4.nodes,li x4.batch,li x4.high,AV.osl 51 10 (List.map zO x4.zones),AV.osl 55 1 (List.map zG x4.caches)]) Tryz.func115 rfl (by kernel_rfl) (.fn 115) rfl ⟨zB0.ptr,zB0.of (zAs.nr rfl),zB0.of (zAs.nr rfl),trivial⟩ rfl rfl (by kernel_rfl) (by kernel_rfl) (zLH w4) rfl (.inl rfl)<|zF ?_
   exact ⟨(x4.nodes,x4.batch,x4.high,x4.zones,x4.caches),z9 [0] rfl rfl (by kernel_rfl),h⟩
  refine zP ?_
  exact ⟨(A.nodes,A.batch,A.high,A.zones,A.caches),Rep.trans (z7 (k:=0) (j:=1) (o:=4) rfl rfl rfl rfl) (z9 [0] (l:=[(0,(AV.ptr 0 0)),(1,(li D)),(2,(li G))]) rfl rfl (by kernel_rfl)),h⟩
 clear h
 rintro ⟨d1,d2,d3,l1,l2⟩ h
 unfold zJX at h
 refine zt (r:=r) (fun ((d4,d5,d6,l3,l4):(List Int)×Int×Int×(List zi)×(List zL))=>mkE [(0,(AV.ptr 0 0)),(1,(li D)),(2,(li G))]) (fun (d4,d5,d6,l3,l4)=>[.box 26 [ls cI d4,li d5,li d6,AV.osl 51 10 (List.map zO l3),AV.osl 55 1 (List.map zG l4)]]) (fun (d4,d5,d6,l3,l4)=>zJf D G d4 d5 d6 l3 l4) ?_ ?_
 ·
  refine zH<|zC<|zA (zB rfl)<|zA (zAB rfl)<|zA (zK Tryz.underlying26 rfl rfl Tryz.sizeOf24 rfl)<|zAA (zAd (k:=0) (o:=4) (t':=55) (sz:=1) (rows:=List.map zG l2) rfl rfl) ?_
  refine zA (zN Tryz.isAgg24 rfl rfl rfl rfl)<|zA (zB rfl)<|zM h fun b2 h=>zA (zy (f:=zG) (l:=l2) (i:=D) Tryz.underlying24 Tryz.sizeOf55 rfl rfl rfl b2)<|zA (zK Tryz.underlying55 rfl rfl Tryz.sizeOf53 rfl)<|zA (zAq (f:=zG) (l:=l2) (i:=D) (c:=0) (a:=(ls (cS cI) ((at_ l2 D).lists))) Tryz.isAgg53 rfl rfl (by first | rfl | omega) b2 rfl rfl) ?_
  refine zA (zB rfl)<|zM h fun b3 h=>zA (zT Tryz.underlying53 Tryz.sizeOf22 (fun _=>rfl) rfl rfl b3)<|zA (zU (o:=0) Tryz.isAgg22 rfl rfl)<|zA (zV Tryz.underlying22 rfl)<|zA (zAv rfl rfl) ?_
  refine zF ?_
  refine zX h rfl (fun b4 h => ?_) (fun b4 h => ?_)
  ·refine zt (r:=r) (fun ((d7,d8,d9,l5,l6):(List Int)×Int×Int×(List zi)×(List zL))=>mkE [(0,(AV.ptr 0 0)),(1,(li D)),(2,(li G))]) (fun (d7,d8,d9,l5,l6)=>[.box 26 [ls cI d7,li d8,li d9,AV.osl 51 10 (List.map zO l5),AV.osl 55 1 (List.map zG l6)]]) (fun (d7,d8,d9,l5,l6)=>zKy D G d7 d8 d9 l5 l6) ?_ ?_
   ·
    refine zH<|zC<|zA (zD rfl)<|zF<|zQ<|zq (σ:=Int×(List Int)×Int×Int×(List zi)×(List zL)) (fun (i1,d10,d11,d12,l7,l8)=>mkE [(0,(AV.ptr 0 0)),(1,(li D)),(2,(li G)),(7,(li i1))]) (fun (i1,d10,d11,d12,l7,l8)=>[.box 26 [ls cI d10,li d11,li d12,AV.osl 51 10 (List.map zO l7),AV.osl 55 1 (List.map zG l8)]]) (fun n0 (i1,d10,d11,d12,l7,l8)=>zJa D G n0 i1 d10 d11 d12 l7 l8) (0,d1,d2,d3,l1,l2) h (fun _=>rfl) (Rep.trans (z7 (k:=0) (j:=1) (o:=4) rfl rfl rfl rfl) (z9 [0] (l:=[(0,(AV.ptr 0 0)),(1,(li D)),(2,(li G)),(7,(li 0))]) rfl rfl (by kernel_rfl))) ?_
    clear h
    rintro n0 ⟨i1,d10,d11,d12,l7,l8⟩ h
    replace h:zKz D G (zJa D G n0) i1 d10 d11 d12 l7 l8=some r:=h
    unfold zKz at h
    refine zH<|zH<|zC<|zA (zB rfl)<|zA (zB rfl)<|zA (zAB rfl) ?_
    refine zA (zK Tryz.underlying26 rfl rfl Tryz.sizeOf24 rfl)<|zAA (zAd (k:=0) (o:=4) (t':=55) (sz:=1) (rows:=List.map zG l8) rfl rfl)<|zA (zN Tryz.isAgg24 rfl rfl rfl rfl)<|zA (zDF (f:=zG) (l:=l8) Tryz.underlying24 rfl rfl)<|zA (zf rfl rfl)<|zF ?_
    refine zX h rfl (fun b5 h => ?_) (fun b5 h => ?_)
    ·refine zP<|zH<|zQ<|zC<|zA (zB rfl)<|zA (zB rfl) ?_
     refine zA (zB rfl)<|zAA (z7 (k:=0) (j:=1) (o:=4) rfl rfl rfl rfl)<|zR h fun x3 w3 h=>zCt (k:=0) (la:=[AV.ptr 0 0,li i1,li G]) (la':=[AV.ptr 0 0,li i1,li G]) (r:=(.tup [])) (S:=[]) (en' := .box 26 [ls cI x3.nodes,li x3.batch,li x3.high,AV.osl 51 10 (List.map zO x3.zones),AV.osl 55 1 (List.map zG x3.caches)]) Tryz.func65 rfl (by kernel_rfl) (.fn 65) rfl ⟨zB0.ptr,zB0.of (zAs.nr rfl),zB0.of (zAs.nr rfl),trivial⟩ rfl rfl (by kernel_rfl) (by kernel_rfl) (zLU w3) rfl (.inl rfl)<|zF<|zC ?_
     refine zA (zB rfl)<|zM h fun b6 h=>zA (ze rfl rfl b6)<|zA (zD rfl)<|zF ?_
     exact ⟨((i1+1),x3.nodes,x3.batch,x3.high,x3.zones,x3.caches),z9 [0] rfl rfl (by kernel_rfl),h⟩
    refine zw ?_
    exact ⟨(d10,d11,d12,l7,l8),Rep.trans (z7 (k:=0) (j:=1) (o:=4) rfl rfl rfl rfl) (z9 [0] (l:=[(0,(AV.ptr 0 0)),(1,(li D)),(2,(li G))]) rfl rfl (by kernel_rfl)),h⟩
   clear h
   rintro ⟨d7,d8,d9,l5,l6⟩ h
   unfold zKy at h
   refine zC<|zA (zB rfl)<|zA (zB rfl)<|zA (zB rfl)<|zR h fun x2 w2 h=>zCt (k:=0) (la:=[AV.ptr 0 0,li D,li G]) (la':=[AV.ptr 0 0,li D,li G]) (r:=(.tup [])) (S:=[]) (en' := .box 26 [ls cI x2.nodes,li x2.batch,li x2.high,AV.osl 51 10 (List.map zO x2.zones),AV.osl 55 1 (List.map zG x2.caches)]) Tryz.func115 rfl (by kernel_rfl) (.fn 115) rfl ⟨zB0.ptr,zB0.of (zAs.nr rfl),zB0.of (zAs.nr rfl),trivial⟩ rfl rfl (by kernel_rfl) (by kernel_rfl) (zLH w2) rfl (.inl rfl) ?_
   refine zF ?_
   exact ⟨(x2.nodes,x2.batch,x2.high,x2.zones,x2.caches),z9 [0] rfl rfl (by kernel_rfl),h⟩
  refine zP ?_
  exact ⟨(d1,d2,d3,l1,l2),Rep.trans (z7 (k:=0) (j:=1) (o:=4) rfl rfl rfl rfl) (z9 [0] (l:=[(0,(AV.ptr 0 0)),(1,(li D)),(2,(li G))]) rfl rfl (by kernel_rfl)),h⟩
 clear h
 rintro ⟨d4,d5,d6,l3,l4⟩ h
 unfold zJf at h
 refine zH<|zC<|zA (zB rfl)<|zA (zAB rfl)<|zA (zK Tryz.underlying26 rfl rfl Tryz.sizeOf24 rfl)<|zAA (zAd (k:=0) (o:=4) (t':=55) (sz:=1) (rows:=List.map zG l4) rfl rfl) ?_
 refine zA (zN Tryz.isAgg24 rfl rfl rfl rfl)<|zA (zB rfl)<|zM h fun b1 h=>zA (zy (f:=zG) (l:=l4) (i:=D) Tryz.underlying24 Tryz.sizeOf55 rfl rfl rfl b1)<|zA (zBn (f:=zG) (l:=l4) (i:=D) (c:=0) (q:=1) (la:=(zG (at_ l4 D))) Tryz.isAgg55 Tryz.sizeOf55 rfl rfl (by first | rfl | omega) b1 rfl rfl rfl)<|zA (zB rfl) ?_
 refine zR h fun x1 w1 h=>zh Tryz.func116 rfl (by kernel_rfl) (.fn 116) rfl rfl (zO6 w1) rfl<|zA (zB rfl)<|zA (zb rfl rfl)<|zA (zb rfl rfl)<|zA (zb rfl rfl) ?_
 refine za (H':=[.box 26 [ls cI d4,li d5,li d6,AV.osl 51 10 (List.map zO l3),AV.hd 1],.vec 55 1 (List.map zG l4),.box 55 [(ls (cS cI) ([]:List (List Int)))]]) zv1<|zj (H':=[.box 26 [ls cI d4,li d5,li d6,AV.osl 51 10 (List.map zO l3),AV.hd 1],.vec 55 1 (List.map zG l4),.box 55 (zG x1.1)]) (zY (k:=2) (o:=0) (cs:=[(ls (cS cI) ([]:List (List Int)))]) (la:=(zG x1.1)) Tryz.sizeOf55 rfl rfl rfl rfl)<|zA (zD rfl)<|zA (zD rfl)<|zF<|zH ?_
 refine zAl (n:=79) (m:=1) [.head 0 0,.head 0 0,.head 0 0,.head 0 0,.head 0 0,.head 0 0,.head 0 0,.tail 0] [7] [AV.ptr 0 0,AV.ptr 0 0,AV.ptr 0 4,AV.hd 1,li D,(AV.agg (zG x1.1)),(AV.ptr 1 (D.toNat*1)),.any] [[.box 26 [ls cI d4,li d5,li d6,AV.osl 51 10 (List.map zO l3),AV.hd 1],.vec 55 1 (List.map zG l4),.box 55 (zG x1.1)],[.box 26 [ls cI d4,li d5,li d6,AV.osl 51 10 (List.map zO l3),AV.hd 1],.vec 55 1 (List.map zG (l4.set D.toNat x1.1)),.box 55 (zG x1.1)]] (by kernel_rfl) (by kernel_rfl) ⟨D1 fun e s p=>zB (s 0 rfl),D1 fun e s p=>zAB p.1,D1 fun e s p=>zK (k:=0) (o:=0) (off:=4) Tryz.underlying26 rfl rfl Tryz.sizeOf24 p.1,D1 fun e s p=>zN (k:=0) (o:=4) Tryz.isAgg24 p.1 rfl rfl rfl,D1 fun e s p=>zB (s 1 rfl),D1 fun e s p=>zS (k:=2) (o:=0) (m:=1) Tryz.isAgg55 Tryz.sizeOf55 (s 8 rfl) rfl rfl rfl rfl,D1 fun e s p=>zy (f:=zG) (l:=l4) (i:=D) Tryz.underlying24 Tryz.sizeOf55 p.2.2.2.2.2.1 rfl p.2.2.2.2.2.2.1 b1,?_,trivial⟩ ?_
 ·
  intro e8 s8 p8
  refine zj (H':=[.box 26 [ls cI d4,li d5,li d6,AV.osl 51 10 (List.map zO l3),AV.hd 1],.vec 55 1 (List.map zG (l4.set D.toNat x1.1)),.box 55 (zG x1.1)]) (zBR (k:=1) (o:=(D.toNat*1)) (f:=zG) (l:=l4) (i:=D) (z:=x1.1) Tryz.sizeOf55 (fun _=>rfl) (by exact p8.1) rfl (by first | rfl | omega) b1 (by exact p8.2.2.2.2.2.2.2.1) rfl) ?_
  exact zF ⟨fun _=>rfl,rfl⟩
 intro e9 s9 hq1
 refine zAT (zBM (l:=[(9,(li x1.2.1))]) ⟨s9 9 rfl,trivial⟩)<|zH<|zC<|zA (zB (av:=(li x1.2.1)) rfl)<|zA (zD (av:=(li x1.2.1)) rfl)<|zF ?_
 refine zd ?_
 cases h
 exact ⟨mkE [(6,(li x1.2.1))],[.box 26 [ls cI d4,li d5,li d6,AV.osl 51 10 (List.map zO l3),AV.osl 55 1 (List.map zG (l4.set D.toNat x1.1))]],Rep.trans (z7 (k:=0) (j:=1) (o:=4) rfl rfl rfl rfl) (z9 [0] (l:=[(6,(li x1.2.1))]) rfl rfl (by kernel_rfl)),zUM rfl rfl⟩
theorem zLr {A:zJ} {D:Int} {G:Int} {r:zJ×Int×Int} (h:zEx A D G=some r):PFn Tryz.prog 27 [(AV.agg (zI A)),li D,li G] (AV.tup [(AV.agg (zI r.1)),li r.2.1,li r.2.2]):=by
 refine zo Tryz.func27 rfl Tryz.ntmps27 Tryz.results27 rfl ?_
 unfold zEx at h
 refine zH<|zC<|za (H':=[.box 26 (zI A)]) (zv (t:=26) rfl)<|za (H':=[.box 26 (zI A),.box 26 (zI ⟨[],0,0,[],[]⟩)]) zv3<|zA (zD rfl)<|zA (zD rfl) ?_
 refine zF<|zH<|zH<|zC<|zA (zS (k:=0) (o:=0) (m:=5) Tryz.isAgg26 Tryz.sizeOf26 rfl rfl rfl rfl rfl)<|zR h fun x1 w1 h => ?_
 refine zh Tryz.func14 rfl (by kernel_rfl) (.fn 14) rfl rfl (zN6 w1) rfl<|zA (zD rfl)<|zF<|zH<|zC<|zA (zB rfl) ?_
 refine zA (zz rfl rfl)<|zF ?_
 refine zX h rfl (fun b1 h => ?_) (fun b1 h => ?_)
 ·refine zH<|zC<|zA zQY<|zA (zB rfl)<|zj (H':=[.box 26 (zI A),.box 26 (zI (⟨([]:List Int),0,0,([]:List zi),([]:List zL)⟩:zJ))]) (zY (k:=1) (o:=0) (cs:=(zI ⟨[],0,0,[],[]⟩)) (la:=(zI (⟨([]:List Int),0,0,([]:List zi),([]:List zL)⟩:zJ))) Tryz.sizeOf26 rfl rfl rfl rfl)<|zA (zD rfl) ?_
  refine zA (zD rfl)<|zF<|zd ?_
  cases h
  exact zCX (zFM Tryz.isAgg26 Tryz.sizeOf26 rfl rfl rfl rfl) (zAH rfl rfl) (zAH rfl rfl) rfl
 refine zP<|zH<|zH<|zC<|zA (zB rfl)<|zA (zf rfl rfl) ?_
 refine zA (zB rfl)<|zW rfl rfl (fun c1=>zp.step (zB rfl))<|zW rfl rfl (fun c2=>zp.step (zK Tryz.underlying26 rfl rfl Tryz.sizeOf22 rfl))<|zW rfl rfl (fun c3=>zp.step (zN Tryz.isAgg22 (z6 rfl c3) rfl rfl rfl))<|zW rfl rfl (fun c4=>zp.step (zV Tryz.underlying22 (z6 rfl c4)))<|zW rfl rfl (fun c5=>zp.step (zAw (z6 rfl c5) (z6 rfl c5))) ?_
 refine zA (zg rfl rfl)<|zA (zB rfl)<|zW rfl rfl (fun c6=>zp.step (zB rfl))<|zW rfl rfl (fun c7=>zp.step (zf (z6 rfl c7) rfl))<|zA (zg rfl rfl)<|zA (zB rfl) ?_
 refine zW rfl rfl (fun c8=>zp.step (zB rfl))<|zW rfl rfl (fun c9=>zp.step (zAh (z6 rfl c9) rfl))<|zA (zg rfl rfl)<|zF ?_
 refine zX h rfl (fun b2 h => ?_) (fun b2 h => ?_)
 ·refine zH<|zC<|zA zQY<|zj (H':=[.box 26 (zI A),.box 26 (zI (⟨([]:List Int),0,0,([]:List zi),([]:List zL)⟩:zJ))]) (zY (k:=1) (o:=0) (cs:=(zI ⟨[],0,0,[],[]⟩)) (la:=(zI (⟨([]:List Int),0,0,([]:List zi),([]:List zL)⟩:zJ))) Tryz.sizeOf26 rfl rfl rfl rfl)<|zA (zD rfl)<|zA (zD rfl) ?_
  refine zF<|zd ?_
  cases h
  exact zCX (zFM Tryz.isAgg26 Tryz.sizeOf26 rfl rfl rfl rfl) (zAH rfl rfl) (zAH rfl rfl) rfl
 refine zP<|zH<|zM h fun b3 h=>zR h fun x2 w2 h => ?_
 refine zAl (n:=111) (m:=0) [.head 0 0,.head 0 0,.head 0 0,.head 0 0,.head 0 0,.head 0 0,.head 0 0,.head 0 0,.head 0 0,.head 0 0,.head 0 0,.head 0 0,.head 0 0] [] [AV.ptr 0 3,ls zO A.zones,AV.ptr 0 0,ls cI A.nodes,li D,(AV.rp (cI (at_ A.nodes D)) 0),(li (at_ A.nodes D)),(AV.tup [ls cI x2.1,li x2.2]),(AV.tup [ls cI x2.1,li x2.2]),ls cI x2.1,li x2.2,ls cI x2.1,li x2.2] [[.box 26 (zI A),.box 26 (zI ⟨[],0,0,[],[]⟩)]] (by kernel_rfl) (by kernel_rfl) ⟨D1 fun e s p=>zK (k:=0) (o:=0) (off:=3) Tryz.underlying26 rfl rfl Tryz.sizeOf23 (s 3 rfl),D1 fun e s p=>zN (k:=0) (o:=3) Tryz.isAgg23 p.1 rfl rfl rfl,D1 fun e s p=>zK (k:=0) (o:=0) (off:=0) Tryz.underlying26 rfl rfl Tryz.sizeOf22 (s 3 rfl),D1 fun e s p=>zN (k:=0) (o:=0) Tryz.isAgg22 p.1 rfl rfl rfl,D1 fun e s p=>zB (s 1 rfl),D1 fun e s p=>zT (f:=cI) (l:=A.nodes) (i:=D) Tryz.underlying22 Tryz.sizeOf3 (fun _=>rfl) p.1 p.2.1 b3,D1 fun e s p=>zU (o:=0) Tryz.isAgg3 p.1 rfl,?_,D1 fun e s p=>zB p.1,D1 fun e s p=>zb p.1 rfl,D1 fun e s p=>zb p.1 rfl,D1 fun e s p=>zD p.2.2.2.2.2.2.2.2.2.2.2.1,D1 fun e s p=>zD p.2.2.2.2.2.2.2.2.2.2.2.2.1,trivial⟩ ?_
 ·
  intro e8 s8 p8
  refine zh (r:=(AV.tup [ls cI x2.1,li x2.2])) (la:=[ls zO A.zones,(li (at_ A.nodes D)),(AV.lit (.bool false))]) Tryz.func58 rfl (by kernel_rfl) (.fn 58) (zAM p8.1 (zAM p8.2.1 (zAM rfl rfl))) rfl (zN3 w2) rfl ?_
  exact zF ⟨fun _=>rfl,rfl⟩
 intro e14 s14 hq1
 refine zAT (zBM (l:=[(2,(li G)),(3,(AV.ptr 0 0)),(6,(AV.ptr 1 0)),(10,(ls cI x2.1))]) ⟨s14 2 rfl,s14 3 rfl,s14 6 rfl,(hq1 11 (by decide) (by decide)),trivial⟩)<|zH<|zC<|zA (zS (k:=0) (o:=0) (m:=5) (la:=(zI A)) Tryz.isAgg26 Tryz.sizeOf26 rfl rfl rfl rfl rfl)<|zR h fun x3 w3 h=>zGK (cs:=[ls cI x3.nodes,li x3.batch,li x3.high,AV.osl 51 10 (List.map zO x3.zones),AV.osl 55 1 (List.map zG x3.caches)]) (la:=[(AV.agg (zI A))]) (la':=[(AV.agg (zI A))]) (S:=[]) Tryz.func59 rfl (by kernel_rfl) (.fn 59) rfl ⟨zAs.nr rfl,trivial⟩ (zOB w3) (.inl rfl) ?_
 refine za (H':=[.box 26 (zI A),.box 26 (zI ⟨[],0,0,[],[]⟩),.val (.agg [ls cI x3.nodes,li x3.batch,li x3.high,AV.osl 51 10 (List.map zO x3.zones),AV.osl 55 1 (List.map zG x3.caches)]),.box 26 (zI ⟨[],0,0,[],[]⟩)]) zv3<|zj (H':=[.box 26 (zI A),.box 26 (zI ⟨[],0,0,[],[]⟩),.dead,.box 26 [ls cI x3.nodes,li x3.batch,li x3.high,AV.osl 51 10 (List.map zO x3.zones),AV.osl 55 1 (List.map zG x3.caches)]]) (zCG (k:=3) (o:=0) (j:=2) (cs:=(zI ⟨[],0,0,[],[]⟩)) (la:=[ls cI x3.nodes,li x3.batch,li x3.high,AV.osl 51 10 (List.map zO x3.zones),AV.osl 55 1 (List.map zG x3.caches)]) Tryz.sizeOf26 rfl rfl rfl rfl rfl (by decide))<|zF ?_
 refine zt (r:=r) (fun (_:Unit)=>mkE [(6,(AV.ptr 0 0))]) (fun _=>[.box 26 (zI ⟨[],0,0,[],[]⟩)]) (fun _=>zGj ) ?_ ?_
 ·
  refine zH<|zC<|zA (zD rfl)<|zF<|zQ<|zq (σ:=Int×(List Int)×Int×Int×(List zi)×(List zL)) (fun (i1,d1,d2,d3,l1,l2)=>mkE [(2,(li G)),(6,(AV.ptr 0 0)),(10,(ls cI x2.1)),(12,(AV.ptr 1 0)),(13,(li i1))]) (fun (i1,d1,d2,d3,l1,l2)=>[.box 26 (zI ⟨[],0,0,[],[]⟩),.box 26 [ls cI d1,li d2,li d3,AV.osl 51 10 (List.map zO l1),AV.osl 55 1 (List.map zG l2)]]) (fun n0 (i1,d1,d2,d3,l1,l2)=>zAS G x2 n0 i1 d1 d2 d3 l1 l2) (0,x3.nodes,x3.batch,x3.high,x3.zones,x3.caches) h (fun _=>rfl) (z9 [1,3] rfl rfl (by kernel_rfl)) ?_
  clear h
  rintro n0 ⟨i1,d1,d2,d3,l1,l2⟩ h
  replace h:zBv G x2 (zAS G x2 n0) i1 d1 d2 d3 l1 l2=some r:=h
  unfold zBv at h
  refine zH<|zH<|zC<|zA (zB rfl)<|zA (zB rfl)<|zA (zV Tryz.underlying22 rfl) ?_
  refine zA (zf rfl rfl)<|zF ?_
  refine zX h rfl (fun b4 h => ?_) (fun b4 h => ?_)
  ·refine zP ?_
   refine zt (r:=r) (fun ((d4,d5,d6,l3,l4):(List Int)×Int×Int×(List zi)×(List zL))=>mkE [(2,(li G)),(6,(AV.ptr 0 0)),(10,(ls cI x2.1)),(12,(AV.ptr 1 0)),(13,(li i1))]) (fun (d4,d5,d6,l3,l4)=>[.box 26 (zI ⟨[],0,0,[],[]⟩),.box 26 [ls cI d4,li d5,li d6,AV.osl 51 10 (List.map zO l3),AV.osl 55 1 (List.map zG l4)]]) (fun (d4,d5,d6,l3,l4)=>zCg (zAS G x2 n0) i1 d4 d5 d6 l3 l4) ?_ ?_
   ·
    refine zQ<|zH<|zC<|zA (zB rfl)<|zA (zB rfl)<|zM h fun b6 h => ?_
    refine zA (zT Tryz.underlying22 Tryz.sizeOf3 (fun _=>rfl) rfl rfl b6)<|zA (zU (o:=0) Tryz.isAgg3 rfl rfl)<|zA (zD rfl)<|zF<|zH<|zH ?_
    refine zAT (zAd (k:=1) (o:=3) (t':=51) (sz:=10) (rows:=List.map zO l1) rfl rfl)<|zAT (zAd (k:=1) (o:=4) (t':=55) (sz:=1) (rows:=List.map zG l2) rfl rfl)<|zR h fun x4 w4 h=>zM h fun b7 h=>zM h fun b8 h=>zM h fun b9 h => ?_
    refine zM h fun b10 h=>zM h fun b11 h => ?_
    refine zAl (n:=111) (m:=0) [.head 0 0,.head 0 0,.head 0 0,.head 0 0,.head 0 0,.head 0 0,.head 0 0,.head 0 0,.head 0 0,.head 0 0,.head 0 0,.head 0 0,.head 0 0,.head 0 0] [] [(AV.agg [ls cI d1,li d2,li d3,AV.hd 2,AV.hd 3]),(li (at_ x2.1 i1)),li x4,li G,(AV.lit (.int .u64 G)),(li ((1:Int)*2 ^ G.toNat)),(li (x4 - ((1:Int)*2 ^ G.toNat))),AV.ptr 1 3,AV.hd 2,(li (at_ x2.1 i1)),(AV.ptr 2 ((at_ x2.1 i1).toNat*10)),(AV.ptr 2 ((at_ x2.1 i1).toNat*10+4)),(li ((at_ l1 (at_ x2.1 i1)).min)),(AV.lit (.bool (decide ((x4 - ((1:Int)*2 ^ G.toNat))<((at_ l1 (at_ x2.1 i1)).min)))))] [[.box 26 (zI ⟨[],0,0,[],[]⟩),.box 26 [ls cI d1,li d2,li d3,AV.hd 2,AV.hd 3],.vec 51 10 (List.map zO l1),.vec 55 1 (List.map zG l2)]] (by kernel_rfl) (by kernel_rfl) ⟨D1 fun e s p=>zS (k:=1) (o:=0) (m:=5) Tryz.isAgg26 Tryz.sizeOf26 (s 12 rfl) rfl rfl rfl rfl,D1 fun e s p=>zB (s 14 rfl),?_,D1 fun e s p=>zB (s 2 rfl),D1 fun e s p=>zE1 (k' := .u64) (a:=G) Tryz.underlying3 Tryz.underlying74 p.1 b7,D1 fun e s p=>zCw (a:=1) (b:=G) rfl p.1 b8 b9,D1 fun e s p=>zBS (a:=x4) (b:=(1:Int)*2 ^ G.toNat) p.1 p.2.1 b10,D1 fun e s p=>zK (k:=1) (o:=0) (off:=3) Tryz.underlying26 rfl rfl Tryz.sizeOf23 (s 12 rfl),D1 fun e s p=>zN (k:=1) (o:=3) Tryz.isAgg23 p.1 rfl rfl rfl,D1 fun e s p=>zB (s 14 rfl),D1 fun e s p=>zy (f:=zO) (l:=l1) (i:=at_ x2.1 i1) Tryz.underlying23 Tryz.sizeOf51 p.1 rfl p.2.1 b11,D1 fun e s p=>zK (k:=2) (o:=((at_ x2.1 i1).toNat*10)) (off:=4) Tryz.underlying51 rfl rfl Tryz.sizeOf3 p.1,D1 fun e s p=>zAq (f:=zO) (l:=l1) (i:=at_ x2.1 i1) (c:=4) (a:=(li ((at_ l1 (at_ x2.1 i1)).min))) Tryz.isAgg3 p.1 rfl (by first | rfl | omega) b11 rfl rfl,D1 fun e s p=>zf (a:=x4 - ((1:Int)*2 ^ G.toNat)) (b:=(at_ l1 (at_ x2.1 i1)).min) p.1 p.2.1,trivial⟩ ?_
    ·
     intro e17 s17 p16
     refine zA2 (r':=(li x4)) (la:=[(AV.agg [ls cI d1,li d2,li d3,AV.hd 2,AV.hd 3]),(li (at_ x2.1 i1))]) (la':=[(AV.agg (zI ⟨d1,d2,d3,l1,l2⟩)),(li (at_ x2.1 i1))]) (r:=(li x4)) (S:=[2,3]) Tryz.func40 rfl (by kernel_rfl) (.fn 40) (zAM p16.1 (zAM p16.2.1 rfl)) ⟨zAs.agg (by exact ⟨zAs.nr rfl,⟨zAs.nr rfl,⟨zAs.nr rfl,⟨zHy (fun _=>rfl) rfl rfl,⟨zHy (fun _=>rfl) rfl rfl,trivial⟩⟩⟩⟩⟩),zAs.nr rfl,trivial⟩ (zNz w4) (.inr trivial) rfl ?_
     exact zF ⟨fun _=>rfl,rfl⟩
    intro e29 s29 hq2
    refine zAT (zBM (l:=[(2,(li G)),(6,(AV.ptr 0 0)),(10,(ls cI x2.1)),(12,(AV.ptr 1 0)),(13,(li i1)),(14,(li (at_ x2.1 i1))),(79,(AV.lit (.bool (decide ((x4 - ((1:Int)*2 ^ G.toNat))<((at_ l1 (at_ x2.1 i1)).min))))))]) ⟨s29 2 rfl,s29 6 rfl,s29 10 rfl,s29 12 rfl,s29 13 rfl,s29 14 rfl,(hq2 13 (by decide) (by decide)),trivial⟩) ?_
    refine zX h rfl (fun b12 h => ?_) (fun b12 h => ?_)
    ·refine zw ?_
     exact ⟨(d1,d2,d3,l1,l2),Rep.trans (z7 (k:=1) (j:=2) (o:=3) rfl rfl rfl rfl) (Rep.trans (z7 (k:=1) (j:=3) (o:=4) rfl rfl rfl rfl) (z9 [0,1] (l:=[(2,(li G)),(6,(AV.ptr 0 0)),(10,(ls cI x2.1)),(12,(AV.ptr 1 0)),(13,(li i1))]) rfl rfl (by kernel_rfl))),h⟩
    refine zP ?_
    refine zt (r:=r) (fun ((d7,d8,d9,l5,l6):(List Int)×Int×Int×(List zi)×(List zL))=>mkE [(2,(li G)),(6,(AV.ptr 0 0)),(10,(ls cI x2.1)),(12,(AV.ptr 1 0)),(13,(li i1)),(14,(li (at_ x2.1 i1)))]) (fun (d7,d8,d9,l5,l6)=>[.box 26 (zI ⟨[],0,0,[],[]⟩),.box 26 [ls cI d7,li d8,li d9,AV.osl 51 10 (List.map zO l5),AV.osl 55 1 (List.map zG l6)]]) (fun (d7,d8,d9,l5,l6)=>zDM (zAS G x2 n0) G x2 i1 d7 d8 d9 l5 l6) ?_ ?_
    ·
     refine zH<|zC<|zA (zD rfl)<|zF<|zQ<|zq (σ:=Int×(List Int)×Int×Int×(List zi)×(List zL)) (fun (i2,d10,d11,d12,l7,l8)=>mkE [(2,(li G)),(6,(AV.ptr 0 0)),(10,(ls cI x2.1)),(12,(AV.ptr 1 0)),(13,(li i1)),(14,(li (at_ x2.1 i1))),(15,(li i2))]) (fun (i2,d10,d11,d12,l7,l8)=>[.box 26 (zI ⟨[],0,0,[],[]⟩),.box 26 [ls cI d10,li d11,li d12,AV.osl 51 10 (List.map zO l7),AV.osl 55 1 (List.map zG l8)]]) (fun n1 (i2,d10,d11,d12,l7,l8)=>zCi (zAS G x2 n0) G x2 i1 n1 i2 d10 d11 d12 l7 l8) (0,d1,d2,d3,l1,l2) h (fun _=>rfl) (Rep.trans (z7 (k:=1) (j:=2) (o:=3) rfl rfl rfl rfl) (Rep.trans (z7 (k:=1) (j:=3) (o:=4) rfl rfl rfl rfl) (z9 [0,1] (l:=[(2,(li G)),(6,(AV.ptr 0 0)),(10,(ls cI x2.1)),(12,(AV.ptr 1 0)),(13,(li i1)),(14,(li (at_ x2.1 i1))),(15,(li 0))]) rfl rfl (by kernel_rfl)))) ?_
     clear h
     rintro n1 ⟨i2,d10,d11,d12,l7,l8⟩ h
     replace h:zBw (zAS G x2 n0) G x2 i1 (zCi (zAS G x2 n0) G x2 i1 n1) i2 d10 d11 d12 l7 l8=some r:=h
     unfold zBw at h
     refine zH<|zH<|zC<|zA (zB rfl)<|zA (zK Tryz.underlying26 rfl rfl Tryz.sizeOf24 rfl)<|zAA (zAd (k:=1) (o:=4) (t':=55) (sz:=1) (rows:=List.map zG l8) rfl rfl) ?_
     refine zA (zN Tryz.isAgg24 rfl rfl rfl rfl)<|zA (zDF (f:=zG) (l:=l8) Tryz.underlying24 rfl rfl)<|zA (zf rfl rfl)<|zF ?_
     refine zX h rfl (fun b15 h => ?_) (fun b15 h => ?_)
     ·refine zP<|zH<|zQ<|zC<|zA (zB rfl)<|zA (zB rfl) ?_
      refine zAA (z7 (k:=1) (j:=2) (o:=4) rfl rfl rfl rfl)<|zR h fun x6 w6 h=>zCt (k:=1) (la:=[AV.ptr 1 0,li i2,(li (at_ x2.1 i1))]) (la':=[AV.ptr 0 0,li i2,(li (at_ x2.1 i1))]) (r:=(.tup [])) (S:=[]) (en' := .box 26 [ls cI x6.nodes,li x6.batch,li x6.high,AV.osl 51 10 (List.map zO x6.zones),AV.osl 55 1 (List.map zG x6.caches)]) Tryz.func65 rfl (by kernel_rfl) (.fn 65) rfl ⟨zB0.ptr,zB0.of (zAs.nr rfl),zB0.of (zAs.nr rfl),trivial⟩ rfl rfl (by kernel_rfl) (by kernel_rfl) (zLU w6) rfl (.inl rfl)<|zF<|zC<|zA (zB rfl) ?_
      refine zM h fun b16 h=>zA (ze rfl rfl b16)<|zA (zD rfl)<|zF ?_
      exact ⟨((i2+1),x6.nodes,x6.batch,x6.high,x6.zones,x6.caches),z9 [0,1] rfl rfl (by kernel_rfl),h⟩
     refine zw ?_
     exact ⟨(d10,d11,d12,l7,l8),Rep.trans (z7 (k:=1) (j:=2) (o:=4) rfl rfl rfl rfl) (z9 [0,1] (l:=[(2,(li G)),(6,(AV.ptr 0 0)),(10,(ls cI x2.1)),(12,(AV.ptr 1 0)),(13,(li i1)),(14,(li (at_ x2.1 i1)))]) rfl rfl (by kernel_rfl)),h⟩
    clear h
    rintro ⟨d7,d8,d9,l5,l6⟩ h
    unfold zDM at h
    refine zH<|zC<|zA (zK Tryz.underlying26 rfl rfl Tryz.sizeOf23 rfl)<|zAA (zAd (k:=1) (o:=3) (t':=51) (sz:=10) (rows:=List.map zO l5) rfl rfl)<|zA (zN Tryz.isAgg23 rfl rfl rfl rfl)<|zA (zB rfl) ?_
    refine zM h fun b13 h=>zA (zy (f:=zO) (l:=l5) (i:=at_ x2.1 i1) Tryz.underlying23 Tryz.sizeOf51 rfl rfl rfl b13)<|zA (zBn (f:=zO) (l:=l5) (i:=at_ x2.1 i1) (c:=0) (q:=10) (la:=(zO (at_ l5 (at_ x2.1 i1)))) Tryz.isAgg51 Tryz.sizeOf51 rfl rfl (by first | rfl | omega) b13 rfl rfl rfl)<|zA (zB rfl)<|zR h fun x5 w5 h=>zh Tryz.func66 rfl (by kernel_rfl) (.fn 66) rfl rfl (zLY w5) rfl ?_
    refine zA (zB rfl)<|zA (zb rfl rfl)<|zA (zb rfl rfl)<|zA (zb rfl rfl)<|za (H':=[.box 26 (zI ⟨[],0,0,[],[]⟩),.box 26 [ls cI d7,li d8,li d9,AV.hd 2,AV.osl 55 1 (List.map zG l6)],.vec 51 10 (List.map zO l5),.box 51 (zO ⟨0,0,0,0,0,(List.replicate 5 ([]:List Int))⟩)]) zv0<|zj (H':=[.box 26 (zI ⟨[],0,0,[],[]⟩),.box 26 [ls cI d7,li d8,li d9,AV.hd 2,AV.osl 55 1 (List.map zG l6)],.vec 51 10 (List.map zO l5),.box 51 (zO x5.1)]) (zY (k:=3) (o:=0) (cs:=(zO ⟨0,0,0,0,0,(List.replicate 5 ([]:List Int))⟩)) (la:=(zO x5.1)) Tryz.sizeOf51 rfl rfl rfl rfl) ?_
    refine zA (zD rfl)<|zA (zD rfl)<|zF<|zH<|zC<|zA (zB rfl) ?_
    refine zA (zAv rfl rfl)<|zF ?_
    refine zX h rfl (fun b14 h => ?_) (fun b14 h => ?_)
    ·refine zH<|zC<|zA (zK Tryz.underlying26 rfl rfl Tryz.sizeOf23 rfl)<|zA (zN Tryz.isAgg23 rfl rfl rfl rfl)<|zA (zB rfl)<|zA (zS (k:=3) (o:=0) (m:=10) Tryz.isAgg51 Tryz.sizeOf51 rfl rfl rfl rfl rfl) ?_
     refine zA (zy (f:=zO) (l:=l5) (i:=at_ x2.1 i1) Tryz.underlying23 Tryz.sizeOf51 rfl rfl rfl b13)<|zj (H':=[.box 26 (zI ⟨[],0,0,[],[]⟩),.box 26 [ls cI d7,li d8,li d9,AV.hd 2,AV.osl 55 1 (List.map zG l6)],.vec 51 10 (List.map zO (l5.set (at_ x2.1 i1).toNat x5.1)),.box 51 (zO x5.1)]) (zBR (k:=2) (o:=((at_ x2.1 i1).toNat*10)) (f:=zO) (l:=l5) (i:=at_ x2.1 i1) (z:=x5.1) Tryz.sizeOf51 (fun _=>rfl) rfl rfl (by first | rfl | omega) b13 rfl rfl)<|zF<|zH<|zC<|zAA (z7 (k:=1) (j:=2) (o:=3) rfl rfl rfl rfl) ?_
     refine zAA (zBl (k:=1) (o:=3) (rows':=List.map zO (l5.set (at_ x2.1 i1).toNat x5.1)) rfl rfl (zAL (fun _=>rfl)))<|zAA (zBl (k:=1) (o:=4) (rows':=List.map zG l6) rfl rfl (zAL (fun _=>rfl)))<|zA (zS (k:=1) (o:=0) (m:=5) Tryz.isAgg26 Tryz.sizeOf26 rfl rfl rfl rfl rfl)<|zA (zB rfl)<|zj (H':=[.box 26 (zI (⟨d7,d8,d9,l5.set (at_ x2.1 i1).toNat x5.1,l6⟩:zJ)),.box 26 (zI ⟨d7,d8,d9,(l5.set (at_ x2.1 i1).toNat x5.1),l6⟩),.dead,.box 51 (zO x5.1)]) (zY (k:=0) (o:=0) (cs:=(zI ⟨[],0,0,[],[]⟩)) (la:=(zI (⟨d7,d8,d9,l5.set (at_ x2.1 i1).toNat x5.1,l6⟩:zJ))) Tryz.sizeOf26 rfl rfl rfl rfl)<|zA (zD rfl) ?_
     refine zA (zD rfl)<|zF<|zd ?_
     cases h
     exact zCX (zFM Tryz.isAgg26 Tryz.sizeOf26 rfl rfl rfl rfl) (zAH rfl rfl) (zAH rfl rfl) rfl
    refine zP ?_
    exact ⟨(d7,d8,d9,l5,l6),Rep.trans (z7 (k:=1) (j:=2) (o:=3) rfl rfl rfl rfl) (z9 [0,1] (l:=[(2,(li G)),(6,(AV.ptr 0 0)),(10,(ls cI x2.1)),(12,(AV.ptr 1 0)),(13,(li i1))]) rfl rfl (by kernel_rfl)),h⟩
   clear h
   rintro ⟨d4,d5,d6,l3,l4⟩ h
   unfold zCg at h
   refine zC<|zA (zB rfl)<|zM h fun b5 h=>zA (ze rfl rfl b5)<|zA (zD rfl)<|zF ?_
   exact ⟨((i1+1),d4,d5,d6,l3,l4),z9 [0,1] rfl rfl (by kernel_rfl),h⟩
  refine zw ?_
  exact ⟨(),z9 [0] rfl rfl (by kernel_rfl),h⟩
 clear h
 intro _ h
 unfold zGj at h
 refine zH<|zC<|zA zQY<|zj (H':=[.box 26 (zI (⟨([]:List Int),0,0,([]:List zi),([]:List zL)⟩:zJ))]) (zY (k:=0) (o:=0) (cs:=(zI ⟨[],0,0,[],[]⟩)) (la:=(zI (⟨([]:List Int),0,0,([]:List zi),([]:List zL)⟩:zJ))) Tryz.sizeOf26 rfl rfl rfl rfl)<|zA (zD rfl)<|zA (zD rfl) ?_
 refine zF<|zd ?_
 cases h
 exact zCX (zFM Tryz.isAgg26 Tryz.sizeOf26 rfl rfl rfl rfl) (zAH rfl rfl) (zAH rfl rfl) rfl
theorem zKE {B:zJ} {uA:Int} {V:Int} {r:Bool} (h:zDd B uA V=some r):PFn Tryz.prog 5 [(AV.agg (zI B)),li uA,li V] (AV.lit (.bool r)):=by
 refine zo Tryz.func5 rfl Tryz.ntmps5 Tryz.results5 rfl ?_
 unfold zDd at h
 refine zH<|zC<|za (H':=[.box 26 (zI B)]) (zv (t:=26) rfl)<|zA (zD rfl)<|zF<|zH ?_
 refine zH<|zC<|zR h fun x1 w1 h=>zh Tryz.func9 rfl (by kernel_rfl) (.fn 9) rfl rfl (zLW w1) rfl<|zA (zBE (t:=x1) rfl)<|zA (zB rfl) ?_
 refine zW rfl rfl (fun c1=>zp.step (zS (k:=0) (o:=0) (m:=5) Tryz.isAgg26 Tryz.sizeOf26 rfl rfl rfl rfl rfl))<|zR h fun x2 w2 h=>zCv (g:=15) (s := !x1) (r':=(AV.lit (.bool x2))) rfl rfl (fun c2=>⟨10,_,_,[],[(AV.agg (zI B))],[(AV.agg (zI B))],(AV.lit (.bool x2)),[],Tryz.func10,rfl,by kernel_rfl,.fn 10,(zAM (z6 rfl c2) rfl),⟨zAs.nr rfl,trivial⟩,zPa (zGm c2 w2),.inl rfl,rfl⟩)<|zW rfl rfl (fun c3=>zp.step (zBE (t:=x2) (z6 rfl c3)))<|zA (zg rfl rfl)<|zF ?_
 refine zX h rfl (fun b1 h => ?_) (fun b1 h => ?_)
 ·refine zH<|zC<|zR h fun x3 w3 h=>zh Tryz.func9 rfl (by kernel_rfl) (.fn 9) rfl rfl (zLW w3) rfl<|zA (zD rfl)<|zF ?_
  refine zd ?_
  cases h
  exact zu (zAH rfl rfl)
 refine zP<|zH<|zC<|zA (zS (k:=0) (o:=0) (m:=5) Tryz.isAgg26 Tryz.sizeOf26 rfl rfl rfl rfl rfl)<|zA (zB rfl)<|zA (zB rfl) ?_
 refine zR h fun x4 w4 h=>zh Tryz.func26 rfl (by kernel_rfl) (.fn 26) rfl rfl (zHS w4) rfl<|zA (zB rfl)<|zA (zb rfl rfl)<|zA (zb rfl rfl)<|zA (zb rfl rfl) ?_
 refine za (H':=[.box 26 (zI B),.box 26 (zI ⟨[],0,0,[],[]⟩)]) zv3<|zj (H':=[.box 26 (zI B),.box 26 (zI x4.1)]) (zY (k:=1) (o:=0) (cs:=(zI ⟨[],0,0,[],[]⟩)) (la:=(zI x4.1)) Tryz.sizeOf26 rfl rfl rfl rfl)<|zA (zD rfl)<|zA (zD rfl)<|zF<|zH ?_
 refine zC<|zA (zS (k:=0) (o:=0) (m:=5) Tryz.isAgg26 Tryz.sizeOf26 rfl rfl rfl rfl rfl)<|zA (zB rfl)<|zA (zB rfl)<|zR h fun x5 w5 h=>zh Tryz.func27 rfl (by kernel_rfl) (.fn 27) rfl rfl (zLr w5) rfl ?_
 refine zA (zB rfl)<|zA (zb rfl rfl)<|zA (zb rfl rfl)<|zA (zb rfl rfl)<|za (H':=[.box 26 (zI B),.box 26 (zI x4.1),.box 26 (zI ⟨[],0,0,[],[]⟩)]) zv3<|zj (H':=[.box 26 (zI B),.box 26 (zI x4.1),.box 26 (zI x5.1)]) (zY (k:=2) (o:=0) (cs:=(zI ⟨[],0,0,[],[]⟩)) (la:=(zI x5.1)) Tryz.sizeOf26 rfl rfl rfl rfl) ?_
 refine zA (zD rfl)<|zA (zD rfl)<|zF<|zH<|zC<|zA (zB rfl) ?_
 refine zA (zB rfl)<|zA (zAv rfl rfl)<|zA (zB rfl)<|zm rfl rfl (fun c4=>zp.step (zB rfl))<|zm rfl rfl (fun c5=>zp.step (zB rfl))<|zm rfl rfl (fun c6=>zp.step (zAv (z6 rfl c6) (z6 rfl c6))) ?_
 refine zA (zx (j := .lit undef) rfl rfl)<|zA (zB rfl)<|zm rfl rfl (fun c7=>zp.step (zS (k:=1) (o:=0) (m:=5) Tryz.isAgg26 Tryz.sizeOf26 rfl rfl rfl rfl rfl))<|zm rfl rfl (fun c8=>zp.step (zS (k:=2) (o:=0) (m:=5) Tryz.isAgg26 Tryz.sizeOf26 rfl rfl rfl rfl rfl))<|zR h fun x6 w6 h=>zCy (g:=45) (s:=(decide (x4.2.2=x5.2.2))&&(decide (x4.2.1=x5.2.1))) (r':=(AV.lit (.bool x6))) rfl rfl (fun c9=>⟨25,_,_,[],[(AV.agg (zI x4.1)),(AV.agg (zI x5.1))],[(AV.agg (zI x4.1)),(AV.agg (zI x5.1))],(AV.lit (.bool x6)),[],Tryz.func25,rfl,by kernel_rfl,.fn 25,(zAM (z6 rfl c9) (zAM (z6 rfl c9) rfl)),⟨zAs.nr rfl,zAs.nr rfl,trivial⟩,zLz (zGm c9 w6),.inl rfl,rfl⟩) ?_
 refine zA (zx (j := .lit undef) rfl rfl)<|zA (zD rfl)<|zF<|zd ?_
 cases h
 exact zu (zAH rfl rfl)
end Go.Proofs.YtplkliakhdkpcaaGreat
namespace Go.Proofs.YtplkliakhdkpcaaGreat
open Go Go.RowKit Go.Am
theorem ex1 {m n:Nat} (h:m<n):∃ q,n=q+1:=⟨n - 1,by omega⟩
theorem z0i:(0:Int)=((0:Nat):Int):=rfl
def zFG (f:Int):Bool:=decide (0≤f)&&decide (f<256)
def inside (z:zi) (f:Int) (k:Nat):Bool :=
 decide (z.start≤f)&&decide (f.tmod (2 ^ k)=0)&&decide ((2:Int) ^ k≤z.count)&&decide (f≤z.start+z.count - 2 ^ k)
def ranges (z:zi):Bool :=
 decide (0≤z.node)&&decide (z.node<4)&&(decide (z.kind=0)||decide (z.kind=1))&&decide (0≤z.start)&&decide (z.start<256)&&decide (1≤z.count)&&decide (z.count≤256 - z.start)&&decide (0≤z.min)&&decide (z.min≤z.count)
def Srt (l:List Int):Prop:=l.Pairwise (· < ·)
def lb (l:List Int) (t:Int):Nat:=l.countP (fun x=>decide (x<t))
theorem Srt.nil:Srt []:=List.Pairwise.nil
theorem zKQ {l:List Int} (h:Srt l) {i j:Nat} {x y:Int} (hi:l[i]?=some x) (hj:l[j]?=some y) (hij:i<j):x<y:=by
 obtain ⟨h1,rfl⟩:=List.getElem?_eq_some_iff.1 hi
 obtain ⟨h2,rfl⟩:=List.getElem?_eq_some_iff.1 hj
 exact List.pairwise_iff_getElem.1 h i j h1 h2 hij
theorem zXh {l:List Int} {t:Int}:∀ {i:Nat},i≤l.length→(∀ m x,m<i→l[m]?=some x→x<t)→(∀ m x,i≤m→l[m]?=some x→t≤x)→lb l t=i:=by
 induction l with
 | nil=>intro i hi _ _; simp at hi; simp [lb,hi]
 | cons a l ih =>
  intro i hi h1 h2
  unfold lb at *
  rw [List.countP_cons]
  cases i with
  | zero =>
   have ha:=h2 0 a (Nat.le_refl _) rfl
   have hz:=ih (i:=0) (Nat.zero_le _) (fun m x hm=>by omega) (fun m x _ hx=>h2 (m+1) x (by omega) hx)
   rw [hz]
   have:¬ a<t:=by omega
   simp [this]
  | succ i =>
   have ha:=h1 0 a (by omega) rfl
   have hz:=ih (i:=i) (by simp at hi; omega) (fun m x hm hx=>h1 (m+1) x (by omega) hx) (fun m x hm hx=>h2 (m+1) x (by omega) hx)
   rw [hz]
   simp [ha]
theorem zWR {l:List Int} {t:Int} {i:Nat} (h1:∀ m x,m<i→l[m]?=some x→x<t) (h2:∀ m x,i<m→l[m]?=some x→t<x):(t∈l)↔l[i]?=some t:=by
 constructor
 ·intro h
  obtain ⟨m,hm,rfl⟩:=List.getElem_of_mem h
  have hx:=List.getElem?_eq_getElem hm
  rcases Nat.lt_trichotomy m i with h | h | h
  ·have:=h1 m _ h hx; omega
  ·rw [← h]; exact hx
  ·have:=h2 m _ h hx; omega
 ·intro h; exact List.mem_of_getElem? h
theorem zTh {l:List Int} (hs:Srt l) {p:Nat} {x t:Int} (hx:l[p]?=some x) (h:x<t):∀ m y,m<p+1→l[m]?=some y→y<t:=by
 intro m y hm hy
 rcases Nat.lt_or_ge m p with hlt | hge
 ·have:=zKQ hs hy hx hlt; omega
 ·have:m=p:=by omega
  subst this
  rw [hx] at hy; cases hy; exact h
theorem zT8 {l:List Int} (hs:Srt l) {p:Nat} {x t:Int} (hx:l[p]?=some x) (h:¬ x<t):∀ m y,p≤m→l[m]?=some y→t≤y:=by
 intro m y hm hy
 rcases Nat.lt_or_ge p m with hlt | hge
 ·have:=zKQ hs hx hy hlt; omega
 ·have:m=p:=by omega
  subst this
  rw [hx] at hy; cases hy; omega
theorem zXn {l:List Int} {t:Int} {i:Nat} (h1:∀ m x,m<i→l[m]?=some x→x<t) (h:¬ i<l.length):(t∈l)↔False:=by
 constructor
 ·intro hm
  obtain ⟨m,hm',rfl⟩:=List.getElem_of_mem hm
  have:=h1 m _ (by omega) (List.getElem?_eq_getElem hm')
  omega
 ·exact False.elim
theorem zW6 {l:List Int} {t x:Int} {i:Nat} (hs:Srt l) (h1:∀ m x,m<i→l[m]?=some x→x<t) (h2:∀ m x,i≤m→l[m]?=some x→t≤x) (hx:l[i]?=some x):(t∈l)↔x=t:=by
 rw [zWR h1 (fun m y hm hy=>by
  have:=h2 i x (Nat.le_refl _) hx
  have:=zKQ hs hx hy hm
  omega),hx]
 simp
def bud (f:Int) (k:Nat):Int:=((f.toNat ^^^ 2 ^ k:Nat):Int)
theorem zBV {z:zi} (h:ranges z=true):0≤z.node∧z.node<4∧(z.kind=0∨z.kind=1)∧0≤z.start∧z.start<256∧1≤z.count∧z.count≤256 - z.start∧0≤z.min∧z.min≤z.count:=by
 unfold ranges at h
 simp only [Bool.and_eq_true,Bool.or_eq_true,decide_eq_true_eq] at h
 omega
theorem zAZ {z:zi} {f:Int} {k:Nat} (hz:ranges z=true) (h:inside z f k=true):0≤f∧f+2 ^ k≤256∧z.start≤f∧f+2 ^ k≤z.start+z.count∧f.tmod (2 ^ k)=0:=by
 have hb:=zBV hz
 unfold inside at h
 simp only [Bool.and_eq_true,decide_eq_true_eq] at h
 omega
theorem zVK {l:List Int}:∀ {a:Int},Srt l→(∀ f,f∈l→a≤f) → ∀ {i:Nat} {x:Int},l[i]?=some x→a+i≤x:=by
 induction l with
 | nil=>intro a _ _ i x hx; simp at hx
 | cons y l ih =>
  intro a hs ha i x hx
  cases i with
  | zero =>
   simp at hx; subst hx
   have:=ha y (by simp); simpa using this
  | succ i =>
   have hs':=List.pairwise_cons.1 hs
   have:=ih (a:=a+1) hs'.2 (fun f hf=>by have h1:=ha y (by simp); have h2:=hs'.1 f hf; omega) (i:=i) (x:=x) (by simpa using hx)
   omega
theorem zQI {l:List Int} (hs:Srt l) (h:∀ f,f∈l→0≤f∧f<256):l.length≤256:=by
 rcases Nat.eq_zero_or_pos l.length with h0 | h0
 ·omega
 ·have hl:l[l.length - 1]?=some l[l.length - 1]:=List.getElem?_eq_getElem (by omega)
  have h1:=zVK hs (fun f hf=>(h f hf).1) hl
  have h2:=(h _ (List.mem_of_getElem? hl)).2
  omega
def zSG (l:List Int) (t:Int):List Int:=l.take (lb l t)++t::l.drop (lb l t)
def lst (z:zi) (k:Nat):List Int:=z.free.getD k []
def zR9 (z:zi) (k:Nat) (l:List Int):zi:={ z with free:=z.free.set k l }
def zPs (z:zi) (f:Int) (k:Nat):zi:=zR9 z k (zSG (lst z k) f)
def zNI (z:zi) (f:Int) (k:Nat):zi:=zR9 z k ((lst z k).eraseIdx (lb (lst z k) f))
def zMD (z:zi) (f:Int) (k:Nat):Bool:=decide (bud f k∈lst z k)&&inside z (min f (bud f k)) (k+1)
def zN9:Nat→zi→Int→Nat→zi
 | 0,z,f,k=>zPs z f k
 | n+1,z,f,k=>if zMD z f k=true then zN9 n (zNI z (bud f k) k) (min f (bud f k)) (k+1) else zPs z f k
theorem zW4 {z:zi} {k:Nat} {l:List Int} (h:z.free[k]?=some l):lst z k=l:=by simp [lst,h]
theorem zU0 (l:List Int) (t:Int):lb l t≤l.length:=List.countP_le_length
theorem zXg {l:List Int} {t:Int} (h:t∈l):lb l t<l.length:=by
 unfold lb
 rcases Nat.lt_or_ge (l.countP (fun x=>decide (x<t))) l.length with h1 | h1
 ·exact h1
 ·exfalso
  have:=List.countP_eq_length.1 (Nat.le_antisymm List.countP_le_length h1) t h
  simp at this
theorem zRU {l:List Int} {t x:Int}:x∈zSG l t↔x=t∨x∈l:=by
 unfold zSG
 have:x∈l↔x∈l.take (lb l t)∨x∈l.drop (lb l t):=by
  rw [← List.mem_append,List.take_append_drop]
 rw [List.mem_append,List.mem_cons,this]
 constructor
 ·rintro (h | h | h)
  ·exact .inr (.inl h)
  ·exact .inl h
  ·exact .inr (.inr h)
 ·rintro (h | h | h)
  ·exact .inr (.inl h)
  ·exact .inl h
  ·exact .inr (.inr h)
structure zR2 (z:zi):Prop where
 ranges:ranges z=true
 len:z.free.length=5
 srt:∀ (k:Nat) (l:List Int),z.free[k]?=some l→Srt l
 bd:∀ (k:Nat) (l:List Int),z.free[k]?=some l → ∀ x,x∈l→0≤x∧x<256
theorem zR2.lenl {z:zi} (h:zR2 z) {k:Nat} {l:List Int} (hl:z.free[k]?=some l):l.length≤256:=zQI (h.srt k l hl) (h.bd k l hl)
theorem zR2.del {z:zi} (h:zR2 z) {k:Nat} {f:Int} {l:List Int} (hl:z.free[k]?=some l):zR2 (zNI z f k):=by
 have hlst:=zW4 hl
 refine ⟨h.ranges,by simpa [zNI,zR9] using h.len,?_,?_⟩
 ·intro j l' hl'
  simp only [zNI,zR9,List.getElem?_set] at hl'
  split at hl'
  ·split at hl'
   ·cases hl'
    rw [hlst]
    exact (h.srt k l hl).sublist (List.eraseIdx_sublist ..)
   ·cases hl'
  ·exact h.srt j l' hl'
 ·intro j l' hl' x hx
  simp only [zNI,zR9,List.getElem?_set] at hl'
  split at hl'
  ·split at hl'
   ·cases hl'
    rw [hlst] at hx
    exact h.bd k l hl x ((List.eraseIdx_sublist ..).subset hx)
   ·cases hl'
  ·exact h.bd j l' hl' x hx
theorem zVc:∀ k:Fin 4, ∀ x:Fin 256,x.val%2 ^ k.val=0→(x.val ^^^ 2 ^ k.val)=if x.val%2 ^ (k.val+1)=0 then x.val+2 ^ k.val else x.val - 2 ^ k.val:=by decide +kernel
theorem zBX {z:zi} (h:ranges z=true) {x:Int} {k:Nat}:inside z x k=true↔z.start≤x∧x%2 ^ k=0∧(2:Int) ^ k≤z.count∧x≤z.start+z.count - 2 ^ k:=by
 have hr:=zBV h
 unfold inside
 simp only [Bool.and_eq_true,decide_eq_true_eq]
 constructor
 ·rintro ⟨⟨⟨h1,h2⟩,h3⟩,h4⟩
  rw [Int.tmod_eq_emod_of_nonneg (by omega)] at h2
  exact ⟨h1,h2,h3,h4⟩
 ·rintro ⟨h1,h2,h3,h4⟩
  rw [← Int.tmod_eq_emod_of_nonneg (by omega)] at h2
  exact ⟨⟨⟨h1,h2⟩,h3⟩,h4⟩
theorem le4 {k:Nat} (h:k≤4):k=0∨k=1∨k=2∨k=3∨k=4:=by omega
theorem pw0:(2:Int) ^ 0=1:=rfl
theorem pw1:(2:Int) ^ 1=2:=rfl
theorem pw2:(2:Int) ^ 2=4:=rfl
theorem pw3:(2:Int) ^ 3=8:=rfl
theorem pw4:(2:Int) ^ 4=16:=rfl
theorem zNP {x:Int} {k:Nat} (hk:k<4) (h0:0≤x) (h1:x<256) (ha:x%2 ^ k=0):(x%2 ^ (k+1)=0∧bud x k=x+2 ^ k)∨(x%2 ^ (k+1)=2 ^ k∧bud x k=x - 2 ^ k):=by
 obtain ⟨m,rfl⟩:=Int.eq_ofNat_of_zero_le h0
 have hm:m<256:=by omega
 have h:=zVc ⟨k,hk⟩ ⟨m,hm⟩
 simp only at h
 have hb:bud (m:Int) k=((m ^^^ 2 ^ k:Nat):Int):=by simp [bud]
 have hk':k=0∨k=1∨k=2∨k=3:=by omega
 rw [hb]
 rcases hk' with rfl | rfl | rfl | rfl
 ·have:=h (by omega)
  simp only [Nat.reducePow,Nat.reduceAdd,pw0,pw1] at *
  split at this <;> omega
 ·simp only [Nat.reducePow,Nat.reduceAdd,pw1,pw2] at *
  have:=h (by omega)
  split at this <;> omega
 ·simp only [Nat.reducePow,Nat.reduceAdd,pw2,pw3] at *
  have:=h (by omega)
  split at this <;> omega
 ·simp only [Nat.reducePow,Nat.reduceAdd,pw3,pw4] at *
  have:=h (by omega)
  split at this <;> omega
theorem zXv {x y f:Int} {k j:Nat} (hkj:k≤j) (hj:j≤4) (hx:x%2 ^ k=0) (hy:y%2 ^ j=0) (h1:x≤f) (h2:f<x+2 ^ k) (h3:y≤f) (h4:f<y+2 ^ j):y≤x∧x+2 ^ k≤y+2 ^ j:=by
 rcases le4 hj with rfl | rfl | rfl | rfl | rfl <;> rcases le4 (Nat.le_trans hkj hj) with rfl | rfl | rfl | rfl | rfl <;> simp only [pw0,pw1,pw2,pw3,pw4] at * <;> omega
theorem zL4 {z:zi} (h:z.free.length=5) {k:Nat} (hk:5≤k):lst z k=[]:=by
 unfold lst
 rw [List.getD_eq_getElem?_getD,List.getElem?_eq_none (by omega)]
 rfl
theorem zQg {z:zi} (h:z.free.length=5) {k j:Nat} (hk:k<5) {l:List Int}:lst (zR9 z k l) j=if j=k then l else lst z j:=by
 unfold lst zR9
 simp only [List.getD_eq_getElem?_getD,List.getElem?_set]
 by_cases hj:k=j
 ·subst hj
  rw [if_pos rfl,if_pos rfl,if_pos (by omega)]
  rfl
 ·rw [if_neg hj,if_neg (fun e=>hj e.symm)]
theorem zKO {z:zi} (h:z.free.length=5) {k:Nat} (hk:k<5):z.free[k]?=some (lst z k):=by
 unfold lst
 rw [List.getD_eq_getElem?_getD,List.getElem?_eq_getElem (by omega)]
 rfl
def cov (z:zi) (f:Int):Prop := ∃ k x,x∈lst z k∧x≤f∧f<x+2 ^ k
structure OkZ (z:zi):Prop where
 ranges:ranges z=true
 len:z.free.length=5
 srt:∀ k,Srt (lst z k)
 ins:∀ k x,x∈lst z k→inside z x k=true
 dis:∀ k x j y f,x∈lst z k→y∈lst z j→x≤f→f<x+2 ^ k→y≤f→f<y+2 ^ j→k=j∧x=y
 can:∀ k x,k<4→x∈lst z k→bud x k∈lst z k→inside z (min x (bud x k)) (k+1)=false
section
variable {z z1 z2:zi}
theorem OkZ.le4 (h:OkZ z) {k:Nat} {x:Int} (hx:x∈lst z k):k≤4:=by
 rcases Nat.lt_or_ge k 5 with hk | hk
 ·omega
 ·rw [zL4 h.len hk] at hx; cases hx
theorem OkZ.bds (h:OkZ z) {k:Nat} {x:Int} (hx:inside z x k=true):0≤x∧x+2 ^ k≤256∧z.start≤x∧x+2 ^ k≤z.start+z.count∧x%2 ^ k=0:=by
 have h1:=zAZ h.ranges hx
 have h2:=(zBX h.ranges).1 hx
 exact ⟨h1.1,h1.2.1,h2.1,by omega,h2.2.1⟩
theorem zIp (k:Nat):(0:Int)<2 ^ k:=Int.pow_pos (by omega)
theorem zLj (k:Nat):(2:Int) ^ (k+1)=2 ^ k+2 ^ k:=by rw [Int.pow_succ]; omega
theorem zSI {x:Int} {k:Nat} (h:x%2 ^ (k+1)=0):x%2 ^ k=0∧(x+2 ^ k)%2 ^ k=0:=by
 obtain ⟨c,rfl⟩:=Int.dvd_of_emod_eq_zero h
 rw [Int.pow_succ,Int.mul_assoc]
 constructor
 ·exact Int.mul_emod_right _ _
 ·rw [show (2:Int) ^ k*(2*c)+2 ^ k=2 ^ k*(2*c+1) by rw [Int.mul_add,Int.mul_one]]
  exact Int.mul_emod_right _ _
theorem OkZ.holder (h:OkZ z):∀ (k:Nat) (x:Int),k≤4→inside z x k=true→(∀ f,x≤f→f<x+2 ^ k→cov z f) → ∃ j y,k≤j∧y∈lst z j∧y≤x∧x+2 ^ k≤y+2 ^ j:=by
 intro k
 induction k with
 | zero =>
  intro x _ hi hc
  obtain ⟨j,y,hy,h1,h2⟩:=hc x (Int.le_refl _) (by rw [pw0]; omega)
  exact ⟨j,y,Nat.zero_le _,hy,h1,by rw [pw0]; omega⟩
 | succ k ih =>
  intro x hk hi hc
  have hb:=h.bds hi
  have hi':=(zBX h.ranges).1 hi
  have hal:=zSI hb.2.2.2.2
  have hp:=zLj k
  have hp0:=zIp k
  have hin1:inside z x k=true:=(zBX h.ranges).2 ⟨by omega,hal.1,by omega,by omega⟩
  have hin2:inside z (x+2 ^ k) k=true:=(zBX h.ranges).2 ⟨by omega,hal.2,by omega,by omega⟩
  obtain ⟨j1,y1,a1,a2,a3,a4⟩:=ih x (by omega) hin1 (fun f h1 h2=>hc f h1 (by omega))
  obtain ⟨j2,y2,b1,b2,b3,b4⟩:=ih (x+2 ^ k) (by omega) hin2 (fun f h1 h2=>hc f (by omega) (by omega))
  have hj1:=h.le4 a2
  have hj2:=h.le4 b2
  have hy1:=(h.bds (h.ins _ _ a2)).2.2.2.2
  have hy2:=(h.bds (h.ins _ _ b2)).2.2.2.2
  by_cases hk1:k<j1
  ·obtain ⟨n1,n2⟩:=zXv (f:=x) (show k+1≤j1 by omega) hj1 hb.2.2.2.2 hy1 (Int.le_refl _) (by omega) a3 (by omega)
   exact ⟨j1,y1,by omega,a2,n1,n2⟩
  ·by_cases hk2:k<j2
   ·obtain ⟨n1,n2⟩:=zXv (f:=x+2 ^ k) (show k+1≤j2 by omega) hj2 hb.2.2.2.2 hy2 (by omega) (by omega) b3 (by omega)
    exact ⟨j2,y2,by omega,b2,n1,n2⟩
   ·exfalso
    have e1:j1=k:=by omega
    have e2:j2=k:=by omega
    subst e1
    subst e2
    have e3:y1=x:=by omega
    have e4:y2=x+2 ^ j2:=by omega
    subst e3
    subst e4
    have hbud:=zNP (x:=y1) (k:=j2) (by omega) (by omega) (by omega) hal.1
    rcases hbud with ⟨_,hb2⟩ | ⟨hb1,_⟩
    ·have:=h.can j2 y1 (by omega) a2 (by rw [hb2]; exact b2)
     rw [hb2,Int.min_eq_left (by omega),hi] at this
     cases this
    ·rw [hb.2.2.2.2] at hb1
     omega
theorem zQa:∀ {l m:List Int},Srt l→Srt m→(∀ x,x∈l↔x∈m)→l=m
 | [],[],_,_,_=>rfl
 | [],b::m,_,_,h=>by have:=(h b).2 (by simp); cases this
 | a::l,[],_,_,h=>by have:=(h a).1 (by simp); cases this
 | a::l,b::m,hl,hm,h=>by
  have ha:=List.pairwise_cons.1 hl
  have hb:=List.pairwise_cons.1 hm
  have hab:a=b:=by
   have h1:=(h a).1 (by simp)
   have h2:=(h b).2 (by simp)
   rcases List.mem_cons.1 h1 with e | e
   ·exact e
   ·rcases List.mem_cons.1 h2 with e2 | e2
    ·exact e2.symm
    ·have:=hb.1 a e
     have:=ha.1 b e2
     omega
  subst hab
  congr 1
  refine zQa ha.2 hb.2 (fun x => ?_)
  constructor
  ·intro hx
   rcases List.mem_cons.1 ((h x).1 (by simp [hx])) with e | e
   ·have:=ha.1 x hx; omega
   ·exact e
  ·intro hx
   rcases List.mem_cons.1 ((h x).2 (by simp [hx])) with e | e
   ·have:=hb.1 x hx; omega
   ·exact e
theorem OkZ.sub (h1:OkZ z1) (h2:OkZ z2) (hp:∀ x k,inside z1 x k=inside z2 x k) (hc:∀ f,cov z1 f↔cov z2 f):∀ k x,x∈lst z1 k→x∈lst z2 k:=by
 intro k x hx
 have hk:=h1.le4 hx
 have hi:=h1.ins k x hx
 have hp0:=zIp k
 obtain ⟨j,y,a1,a2,a3,a4⟩:=h2.holder k x hk (by rw [← hp]; exact hi) (fun f g1 g2=>(hc f).1 ⟨k,x,hx,g1,g2⟩)
 have hj:=h2.le4 a2
 have hiy:=h2.ins j y a2
 obtain ⟨i,u,b1,b2,b3,b4⟩:=h1.holder j y hj (by rw [hp]; exact hiy) (fun f g1 g2=>(hc f).2 ⟨j,y,a2,g1,g2⟩)
 obtain ⟨e1,e2⟩:=h1.dis k x i u x hx b2 (Int.le_refl _) (by omega) (by omega) (by omega)
 subst e2
 have e3:j=k:=by omega
 subst e3
 have e4:y=x:=by omega
 rw [← e4]
 exact a2
theorem OkZ.ext (h1:OkZ z1) (h2:OkZ z2) (e1:z1.node=z2.node) (e2:z1.kind=z2.kind) (e3:z1.start=z2.start) (e4:z1.count=z2.count) (e5:z1.min=z2.min) (hc:∀ f,cov z1 f↔cov z2 f):z1=z2:=by
 have hp:∀ x k,inside z1 x k=inside z2 x k:=fun x k=>by unfold inside; rw [e3,e4]
 have hl:∀ k,lst z1 k=lst z2 k:=fun k=>zQa (h1.srt k) (h2.srt k) (fun x=>⟨h1.sub h2 hp hc k x,h2.sub h1 (fun x k=>(hp x k).symm) (fun f=>(hc f).symm) k x⟩)
 have hf:z1.free=z2.free:=by
  apply List.ext_getElem?
  intro k
  rcases Nat.lt_or_ge k 5 with hk | hk
  ·rw [zKO h1.len hk,zKO h2.len hk,hl]
  ·rw [List.getElem?_eq_none (by have:=h1.len; omega),List.getElem?_eq_none (by have:=h2.len; omega)]
 cases z1; cases z2
 simp_all
end
theorem zSQ (a:Int) (l:List Int) (t:Int):lb (a::l) t=lb l t+if a<t then 1 else 0:=by
 unfold lb
 rw [List.countP_cons]
 simp
theorem zQL {l:List Int} {t:Int} (h:∀ x,x∈l→t≤x):lb l t=0:=by
 unfold lb
 rw [List.countP_eq_zero]
 intro x hx
 have:=h x hx
 simp
 omega
theorem zSF {a:Int} {l:List Int} {t:Int} (hs:Srt (a::l)):zSG (a::l) t=if a<t then a::zSG l t else t::a::l:=by
 unfold zSG
 rw [zSQ]
 have ha:=List.pairwise_cons.1 hs
 by_cases h:a<t
 ·simp [h]
 ·have:lb l t=0:=zQL (fun x hx=>by have:=ha.1 x hx; omega)
  simp [h,this]
theorem zQ6:∀ {l:List Int} {t:Int},Srt l→t ∉ l→Srt (zSG l t)
 | [],t,_,_=>by simp [zSG,lb,Srt]
 | a::l,t,hs,hn=>by
  have ha:=List.pairwise_cons.1 hs
  rw [zSF hs]
  simp only [List.mem_cons,not_or] at hn
  by_cases h:a<t
  ·rw [if_pos h]
   refine List.pairwise_cons.2 ⟨fun x hx => ?_,zQ6 ha.2 hn.2⟩
   rcases zRU.1 hx with rfl | hx
   ·exact h
   ·exact ha.1 x hx
  ·rw [if_neg h]
   refine List.pairwise_cons.2 ⟨fun x hx => ?_,hs⟩
   rcases List.mem_cons.1 hx with rfl | hx
   ·omega
   ·have:=ha.1 x hx; omega
theorem zUS:∀ {l:List Int} {t:Int},Srt l→t∈l→l[lb l t]?=some t
 | [],_,_,h=>by cases h
 | a::l,t,hs,h=>by
  have ha:=List.pairwise_cons.1 hs
  rw [zSQ]
  rcases List.mem_cons.1 h with rfl | h
  ·have:lb l t=0:=zQL (fun x hx=>by have:=ha.1 x hx; omega)
   simp [this]
  ·have:=ha.1 t h
   simp [this,zUS ha.2 h]
theorem zWq {l:List Int} {t x:Int} (hs:Srt l) (ht:t∈l):x∈l.eraseIdx (lb l t)↔x∈l∧x≠t:=by
 have hg:=zUS hs ht
 rw [List.mem_eraseIdx_iff_getElem?]
 constructor
 ·rintro ⟨i,hi,hx⟩
  refine ⟨List.mem_of_getElem? hx,?_⟩
  rintro rfl
  rcases Nat.lt_or_gt_of_ne hi with h | h
  ·have:=zKQ hs hx hg h; omega
  ·have:=zKQ hs hg hx h; omega
 ·rintro ⟨hx,hne⟩
  obtain ⟨i,hi,he⟩:=List.getElem_of_mem hx
  have hxi:l[i]?=some x:=by rw [List.getElem?_eq_getElem hi,he]
  refine ⟨i,?_,hxi⟩
  intro e
  rw [e,hg] at hxi
  exact hne (Option.some.inj hxi).symm
theorem zWX {l:List Int} {i:Nat} (hs:Srt l):Srt (l.eraseIdx i):=hs.sublist (List.eraseIdx_sublist ..)
def zGw (a b:zi):Prop:=a.node=b.node∧a.kind=b.kind∧a.start=b.start∧a.count=b.count∧a.min=b.min
theorem zGw.inside {a b:zi} (h:zGw a b) (x:Int) (k:Nat):inside a x k=inside b x k:=by unfold Go.Proofs.YtplkliakhdkpcaaGreat.inside; rw [h.2.2.1,h.2.2.2.1]
theorem zGw.ranges {a b:zi} (h:zGw a b):ranges a=ranges b:=by unfold Go.Proofs.YtplkliakhdkpcaaGreat.ranges; rw [h.1,h.2.1,h.2.2.1,h.2.2.2.1,h.2.2.2.2]
theorem zP3 (z:zi) (k:Nat) (l:List Int):zGw (zR9 z k l) z:=⟨rfl,rfl,rfl,rfl,rfl⟩
theorem zGw.trans {a b c:zi} (h:zGw a b) (g:zGw b c):zGw a c:=⟨h.1.trans g.1,h.2.1.trans g.2.1,h.2.2.1.trans g.2.2.1,h.2.2.2.1.trans g.2.2.2.1,h.2.2.2.2.trans g.2.2.2.2⟩
theorem zVg {x:Int} (k:Nat) (h:0≤x):bud (bud x k) k=x:=by
 unfold bud
 rw [Int.toNat_natCast,Nat.xor_assoc,Nat.xor_self,Nat.xor_zero,Int.toNat_of_nonneg h]
section
variable {z:zi}
theorem OkZ.del (h:OkZ z) {k:Nat} {x:Int} (hx:x∈lst z k):OkZ (zNI z x k)∧(∀ f,cov (zNI z x k) f↔cov z f ∧ ¬ (x≤f∧f<x+2 ^ k))∧zGw (zNI z x k) z:=by
 have hk:=h.le4 hx
 have hsame:zGw (zNI z x k) z:=zP3 z k ((lst z k).eraseIdx (lb (lst z k) x))
 have hls:∀ j,lst (zNI z x k) j=if j=k then (lst z k).eraseIdx (lb (lst z k) x) else lst z j:=fun j=>zQg h.len (by omega)
 have hm:∀ j y,y∈lst (zNI z x k) j↔y∈lst z j ∧ ¬ (j=k∧y=x):=by
  intro j y
  rw [hls]
  by_cases hj:j=k
  ·subst hj
   rw [if_pos rfl,zWq (h.srt j) hx]
   simp
  ·rw [if_neg hj]
   simp [hj]
 refine ⟨⟨by rw [← h.ranges]; exact hsame.ranges,by simpa [zNI,zR9] using h.len,?_,?_,?_,?_⟩,?_,hsame⟩
 ·intro j
  rw [hls]
  split
  ·exact zWX (h.srt k)
  ·exact h.srt j
 ·intro j y hy
  rw [hsame.inside]
  exact h.ins j y ((hm j y).1 hy).1
 ·intro j y i u f hy hu
  exact h.dis j y i u f ((hm j y).1 hy).1 ((hm i u).1 hu).1
 ·intro j y hj hy hb
  rw [hsame.inside]
  exact h.can j y hj ((hm j y).1 hy).1 ((hm j _).1 hb).1
 ·intro f
  constructor
  ·rintro ⟨j,y,hy,h1,h2⟩
   have hy':=(hm j y).1 hy
   refine ⟨⟨j,y,hy'.1,h1,h2⟩,fun hf=>hy'.2 (h.dis j y k x f hy'.1 hx h1 h2 hf.1 hf.2)⟩
  ·rintro ⟨⟨j,y,hy,h1,h2⟩,hf⟩
   refine ⟨j,y,(hm j y).2 ⟨hy,?_⟩,h1,h2⟩
   rintro ⟨rfl,rfl⟩
   exact hf ⟨h1,h2⟩
theorem OkZ.insert (h:OkZ z) {k:Nat} {f:Int} (hk:k≤4) (hi:inside z f k=true) (hf:∀ g,f≤g→g<f+2 ^ k → ¬ cov z g) (hj:k<4→zMD z f k=false):OkZ (zPs z f k)∧(∀ g,cov (zPs z f k) g↔cov z g∨(f≤g∧g<f+2 ^ k))∧zGw (zPs z f k) z:=by
 have hsame:zGw (zPs z f k) z:=zP3 z k (zSG (lst z k) f)
 have hp:=zIp k
 have hb:=h.bds hi
 have hn:f ∉ lst z k:=fun hm=>hf f (Int.le_refl _) (by omega) ⟨k,f,hm,Int.le_refl _,by omega⟩
 have hls:∀ j,lst (zPs z f k) j=if j=k then zSG (lst z k) f else lst z j:=fun j=>zQg h.len (by omega)
 have hm:∀ j y,y∈lst (zPs z f k) j↔y∈lst z j∨(j=k∧y=f):=by
  intro j y
  rw [hls]
  by_cases hjk:j=k
  ·subst hjk
   rw [if_pos rfl,zRU]
   simp
   exact Or.comm
  ·rw [if_neg hjk]
   simp [hjk]
 refine ⟨⟨by rw [← h.ranges]; exact hsame.ranges,by simpa [zPs,zR9] using h.len,?_,?_,?_,?_⟩,?_,hsame⟩
 ·intro j
  rw [hls]
  split
  ·exact zQ6 (h.srt k) hn
  ·exact h.srt j
 ·intro j y hy
  rw [hsame.inside]
  rcases (hm j y).1 hy with hy | ⟨rfl,rfl⟩
  ·exact h.ins j y hy
  ·exact hi
 ·intro j y i u g hy hu h1 h2 h3 h4
  rcases (hm j y).1 hy with hy' | ⟨e1,e2⟩
  ·rcases (hm i u).1 hu with hu' | ⟨e3,e4⟩
   ·exact h.dis j y i u g hy' hu' h1 h2 h3 h4
   ·rw [e4] at h3 h4
    rw [e3] at h4
    exact absurd ⟨j,y,hy',h1,h2⟩ (hf g h3 h4)
  ·rw [e2] at h1 h2
   rw [e1] at h2
   rcases (hm i u).1 hu with hu' | ⟨e3,e4⟩
   ·exact absurd ⟨i,u,hu',h3,h4⟩ (hf g h1 h2)
   ·exact ⟨e1.trans e3.symm,e2.trans e4.symm⟩
 ·intro j y hj4 hy hbu
  rw [hsame.inside]
  have hno:∀ y,y∈lst z k→bud y k=f→k<4→inside z (min y (bud y k)) (k+1)=false:=by
   intro y hy he h4
   have hy0:=(h.bds (h.ins k y hy)).1
   have e2:bud f k=y:=by rw [← he,zVg k hy0]
   have:=hj h4
   unfold zMD at this
   rw [e2] at this
   rw [he,Int.min_comm]
   simpa [hy] using this
  rcases (hm j y).1 hy with hy' | ⟨rfl,rfl⟩
  ·rcases (hm j _).1 hbu with hbu' | ⟨e1,hbu'⟩
   ·exact h.can j y hj4 hy' hbu'
   ·rw [e1] at hy' hbu' hj4 ⊢
    exact hno y hy' hbu' hj4
  ·rcases (hm j _).1 hbu with hbu | ⟨_,hbu⟩
   ·have:=hj hj4
    unfold zMD at this
    simpa [hbu] using this
   ·exfalso
    rcases zNP hj4 hb.1 (by omega) hb.2.2.2.2 with ⟨_,e⟩ | ⟨_,e⟩ <;> omega
 ·intro g
  constructor
  ·rintro ⟨j,y,hy,h1,h2⟩
   rcases (hm j y).1 hy with hy | ⟨rfl,rfl⟩
   ·exact .inl ⟨j,y,hy,h1,h2⟩
   ·exact .inr ⟨h1,h2⟩
  ·rintro (⟨j,y,hy,h1,h2⟩ | ⟨h1,h2⟩)
   ·exact ⟨j,y,(hm j y).2 (.inl hy),h1,h2⟩
   ·exact ⟨k,f,(hm k f).2 (.inr ⟨rfl,rfl⟩),h1,h2⟩
theorem OkZ.put:∀ (n:Nat) {z:zi} {f:Int} {k:Nat},n+k=4→OkZ z→inside z f k=true→(∀ g,f≤g→g<f+2 ^ k → ¬ cov z g) →
  OkZ (zN9 n z f k)∧(∀ g,cov (zN9 n z f k) g↔cov z g∨(f≤g∧g<f+2 ^ k))∧zGw (zN9 n z f k) z
 | 0,z,f,k,hn,h,hi,hf=>h.insert (by omega) hi hf (fun h4=>by omega)
 | n+1,z,f,k,hn,h,hi,hf=>by
  unfold zN9
  by_cases hj:zMD z f k=true
  ·rw [if_pos hj]
   unfold zMD at hj
   simp only [Bool.and_eq_true,decide_eq_true_eq] at hj
   obtain ⟨hb,hi2⟩:=hj
   obtain ⟨d1,d2,d3⟩:=h.del hb
   have hbd:=h.bds hi
   have hbb:=h.bds (h.ins k _ hb)
   have hp:=zIp k
   have hps:=zLj k
   have hcase:=zNP (k:=k) (by omega) hbd.1 (by omega) hbd.2.2.2.2
   obtain ⟨r1,r2,r3⟩:=OkZ.put n (k:=k+1) (by omega) d1 (by rw [d3.inside]; exact hi2) (fun g g1 g2 hc=>by
    have hc':=(d2 g).1 hc
    by_cases hin:f≤g∧g<f+2 ^ k
    ·exact hf g hin.1 hin.2 hc'.1
    ·apply hc'.2
     rcases hcase with ⟨_,e⟩ | ⟨_,e⟩
     ·rw [e] at g1 g2 ⊢
      omega
     ·rw [e] at g1 g2 ⊢
      omega)
   refine ⟨r1,fun g => ?_,r3.trans d3⟩
   rw [r2 g,d2 g]
   have hcb:(bud f k≤g∧g<bud f k+2 ^ k)→cov z g:=fun hg=>⟨k,_,hb,hg.1,hg.2⟩
   rcases hcase with ⟨_,e⟩ | ⟨_,e⟩
   ·rw [e] at hcb ⊢
    constructor
    ·rintro (⟨h1,_⟩ | h1)
     ·exact .inl h1
     ·by_cases hin:f≤g∧g<f+2 ^ k
      ·exact .inr hin
      ·exact .inl (hcb (by omega))
    ·rintro (h1 | h1)
     ·by_cases hin:f+2 ^ k≤g∧g<f+2 ^ k+2 ^ k
      ·exact .inr (by omega)
      ·exact .inl ⟨h1,hin⟩
     ·exact .inr (by omega)
   ·rw [e] at hcb ⊢
    constructor
    ·rintro (⟨h1,_⟩ | h1)
     ·exact .inl h1
     ·by_cases hin:f≤g∧g<f+2 ^ k
      ·exact .inr hin
      ·exact .inl (hcb (by omega))
    ·rintro (h1 | h1)
     ·by_cases hin:f - 2 ^ k≤g∧g<f - 2 ^ k+2 ^ k
      ·exact .inr (by omega)
      ·exact .inl ⟨h1,hin⟩
     ·exact .inr (by omega)
  ·rw [if_neg hj]
   exact h.insert (by omega) hi hf (fun _=>by simpa using hj)
theorem OkZ.putI (h:OkZ z):zR2 z:=by
 have hl:∀ (k:Nat) (l:List Int),z.free[k]?=some l→l=lst z k:=fun k l hl=>by
  have hk:k<5:=by have:=(List.getElem?_eq_some_iff.1 hl).1; rw [h.len] at this; exact this
  rw [zKO h.len hk] at hl
  cases hl
  rfl
 refine ⟨h.ranges,h.len,fun k l hkl => ?_,fun k l hkl x hx => ?_⟩
 ·rw [hl k l hkl]; exact h.srt k
 ·rw [hl k l hkl] at hx
  have:=h.bds (h.ins k x hx)
  have:=zIp k
  omega
end
theorem zPi {z:zi} (hf:z.free=[[],[],[],[],[]]) (k:Nat):lst z k=[]:=by
 unfold lst
 rw [hf]
 match k with
 | 0=>rfl
 | 1=>rfl
 | 2=>rfl
 | 3=>rfl
 | 4=>rfl
 | k+5=>rfl
theorem zSK {z:zi} (hr:ranges z=true) (hf:z.free=[[],[],[],[],[]]):OkZ z ∧ ∀ g,¬ cov z g:=by
 have hl:=zPi hf
 refine ⟨⟨hr,by rw [hf]; rfl,fun k=>by rw [hl]; exact Srt.nil,(fun k x hx=>by rw [hl] at hx; cases hx),(fun k x j y f hx=>by rw [hl] at hx; cases hx),(fun k x _ hx=>by rw [hl] at hx; cases hx)⟩,?_⟩
 rintro g ⟨k,x,hx,_⟩
 rw [hl] at hx
 cases hx
end Go.Proofs.YtplkliakhdkpcaaGreat
namespace Go.Proofs.YtplkliakhdkpcaaGreat
open Go Go.RowKit Go.Wk Go.Am
section
variable {α β:Type} {b:Bool} {x y:Option α} {a:α} {f:α→Option β}
theorem zZ (h:b=true):chk b x=x:=by subst h; rfl
theorem zAG (h:b=true):cnd b x y=x:=by subst h; rfl
theorem z5 (h:b=false):cnd b x y=y:=by subst h; rfl
theorem zB8:(some a).bind f=f a:=rfl
end
theorem z8 {a:Int} (h : -9223372036854775808≤a∧a≤9223372036854775807):inI a=true:=by simp [inI,h]
theorem zUB {i:Int} {n:Nat} (h:0≤i∧i<(n:Int)):inb i n=true:=by simp [inb,h]
theorem zAI {i n:Nat} (h:i<n):inb (i:Int) n=true:=zUB (by omega)
theorem zMv {a b:Bool} (h:b=true):(a||b)=true:=by rw [h,Bool.or_true]
theorem dt {p:Prop} [Decidable p] (h:p):decide p=true:=decide_eq_true h
theorem df {p:Prop} [Decidable p] (h:¬ p):decide p=false:=decide_eq_false h
theorem zHb {α:Type} [Inhabited α] {l:List α} {i:Nat} (h:i<l.length):at_ l (i:Int)=l[i]:=by
 unfold at_
 rw [Int.toNat_natCast,List.getD_eq_getElem?_getD,List.getElem?_eq_getElem h]
 rfl
theorem zWZ (i j:Nat):((i:Int)+(j:Int)).fdiv (2 ^ (1:Int).toNat)=(((i+j)/2:Nat):Int):=by
 show ((i:Int)+(j:Int)).fdiv 2=_
 rw [Int.fdiv_eq_ediv_of_nonneg _ (by omega)]
 omega
theorem zTx (x y:Int):zIR x y=some (decide (x<y)):=by
 unfold zIR zDa
 simp [cnd]
theorem zUZ {l:List Int} {t:Int} {i:Nat} (hs:Srt l) (hi:i≤l.length) (h1:∀ p x,p<i→l[p]?=some x→x<t) (h2:∀ p x,i≤p→l[p]?=some x→t≤x) :
  zA7 l t (i:Int)=some ((lb l t:Int),decide (t∈l)):=by
 rw [zXh hi h1 h2]
 unfold zA7 zEy
 rcases Nat.lt_or_ge i l.length with h | h
 ·have hx:l[i]?=some l[i]:=List.getElem?_eq_getElem h
  have hb:inb (i:Int) l.length=true:=zAI h
  have hd:decide ((i:Int)<(l.length:Int))=true:=dt (by omega)
  have hm:decide (t∈l)=decide (l[i]=t):=by rw [decide_eq_decide]; exact zW6 hs h1 h2 hx
  rw [zZ (zMv hb),zZ (zMv hb),zHb h,hd,hm]
  cases hq:decide (l[i]=t) <;> simp [cnd]
 ·have hd:decide ((i:Int)<(l.length:Int))=false:=df (by omega)
  have hm:decide (t∈l)=false:=df (fun hh=>(zXn h1 (by omega)).1 hh)
  rw [hd,hm]
  rfl
theorem zUy {l:List Int} {t:Int} (hs:Srt l) (hl:l.length≤1000000):∀ (m n i j:Nat),j - i≤m→m<n→i≤j→j≤l.length→(∀ p x,p<i→l[p]?=some x→x<t)→(∀ p x,j≤p→l[p]?=some x→t≤x) →
  zBA l t n (i:Int) (j:Int)=some ((lb l t:Int),decide (t∈l)):=by
 intro m
 induction m with
 | zero =>
  intro n i j h1 h2 h3 h4 ha hb
  obtain ⟨n,rfl⟩:∃ k,n=k+1:=⟨n - 1,by omega⟩
  show zAY _ _ _ _ _=_
  unfold zAY
  rw [z5 (df (by omega))]
  have:j=i:=by omega
  subst this
  exact zUZ hs h4 ha hb
 | succ m ih =>
  intro n i j h1 h2 h3 h4 ha hb
  obtain ⟨n,rfl⟩:∃ k,n=k+1:=⟨n - 1,by omega⟩
  show zAY _ _ _ _ _=_
  unfold zAY
  by_cases hij:i<j
  ·have hm:(i+j)/2<l.length:=by omega
   rw [zAG (dt (by omega)),zWZ,zZ (z8 (by omega)),zZ (dt (zGo (by omega) (by omega))),zZ (dt (zVs (by omega) (by omega))),zZ (zAI hm),zTx,zB8,zHb hm]
   have hx:l[(i+j)/2]?=some l[(i+j)/2]:=List.getElem?_eq_getElem hm
   by_cases hlt:l[(i+j)/2]<t
   ·rw [zAG (dt hlt),zZ (z8 (by omega))]
    exact ih n ((i+j)/2+1) j (by omega) (by omega) (by omega) h4 (zTh hs hx hlt) hb
   ·rw [z5 (df hlt)]
    exact ih n i ((i+j)/2) (by omega) (by omega) (by omega) (by omega) ha (zT8 hs hx hlt)
  ·rw [z5 (df (by omega))]
   have:j=i:=by omega
   subst this
   exact zUZ hs h4 ha hb
theorem zS5 {l:List Int} {t:Int} (hs:Srt l) (hl:l.length≤1000000):zAX l t=some ((lb l t:Int),decide (t∈l)) :=
 zUy hs hl l.length zAD 0 l.length (by omega) (by unfold zAD; omega) (by omega) (by omega) (fun p x hp=>by omega) (fun p x hp hx=>by
  rw [List.getElem?_eq_none (by omega)] at hx; cases hx)
theorem zJW {k:Nat} (h:k≤5):(1:Int)*2 ^ (k:Int).toNat=2 ^ k∧(1:Int)≤2 ^ k∧(2:Int) ^ k≤32:=by
 rw [Int.one_mul,Int.toNat_natCast]
 refine ⟨rfl,?_⟩
 have:k=0∨k=1∨k=2∨k=3∨k=4∨k=5:=by omega
 rcases this with rfl | rfl | rfl | rfl | rfl | rfl <;> decide
theorem zM7 {k:Nat} (h:k≤5):zNM (k:Int)=true:=by
 unfold zNM
 rw [dt (by omega),dt (by omega)]
 rfl
theorem zK5 {z:zi} {f:Int} {k:Nat} (hr:ranges z=true) (hk:k≤5):zCW z f (k:Int)=some (inside z f k):=by
 have hb:=zBV hr
 obtain ⟨e,h1,h2⟩:=zJW hk
 unfold zCW inside
 rw [e,zZ (zM7 hk),zZ (z8 (by omega)),zZ (zMv (by rw [df (by omega)]; rfl)),zZ (zMv (z8 (by omega))),zZ (zMv (z8 (by omega)))]
theorem zWC:∀ k:Fin 4, ∀ x:Fin 256,zMd .xor .i64 (x.val:Int) (2 ^ k.val)=((x.val ^^^ 2 ^ k.val:Nat):Int):=by decide +kernel
theorem zUc {f:Int} {k:Nat} (h0:0≤f) (h1:f<256) (hk:k<4):zMd .xor .i64 f (2 ^ k)=bud f k:=by
 obtain ⟨m,rfl⟩:=Int.eq_ofNat_of_zero_le h0
 exact zWC ⟨k,hk⟩ ⟨m,by omega⟩
theorem zKJ {l:List (List Int)} (hl:l.length=5) {i:Nat} (hi:i<5) (x:List Int):zEN 5 [] l i x=l.set i x:=by
 match l,hl with
 | [a,b,c,d,e],_ =>
  have:i=0∨i=1∨i=2∨i=3∨i=4:=by omega
  rcases this with rfl | rfl | rfl | rfl | rfl <;> rfl
theorem zJb {l:List (List Int)} {i:Nat} (hi:i<l.length):l.set i (l.getD i [])=l:=by
 apply List.ext_getElem?
 intro j
 rw [List.getElem?_set]
 split
 ·rename_i h
  subst h
  simp [hi]
 ·rfl
theorem zR2.srt' {z:zi} (h:zR2 z) (k:Nat):Srt (lst z k):=by
 rcases Nat.lt_or_ge k 5 with hk | hk
 ·exact h.srt k _ (zKO h.len hk)
 ·rw [zL4 h.len hk]; exact Srt.nil
theorem zR2.len' {z:zi} (h:zR2 z) (k:Nat):(lst z k).length≤256:=by
 rcases Nat.lt_or_ge k 5 with hk | hk
 ·exact h.lenl (zKO h.len hk)
 ·rw [zL4 h.len hk]; simp
theorem zQj {z:zi} (h:zR2 z) {f:Int} {k:Nat} (hk:k<5) {a:zi} (ha:zGw a z):zGp a f (k:Int) z.free=some (zPs z f k):=by
 unfold zGp
 have e:z.free.getD (k:Int).toNat []=lst z k:=rfl
 have h5:=h.len
 rw [zZ (zAI hk),zZ (dt (by omega)),e,zS5 (h.srt' k) (by have:=h.len' k; omega),zB8]
 have hok:zP2 (lst z k) (lb (lst z k) f:Int)=true:=by
  have h1:=zU0 (lst z k) f
  have h2:=h.len' k
  unfold zP2
  rw [dt (by omega),dt (by omega),dt (by omega)]
  rfl
 rw [zZ hok]
 show some (zi.mk _ _ _ _ _ _)=_
 rw [zKJ h5 (by omega),ha.1,ha.2.1,ha.2.2.1,ha.2.2.2.1,ha.2.2.2.2]
 rfl
theorem zTq:∀ (m n:Nat) {z a:zi} {f:Int} {k:Nat},m+k=4→m<n→zR2 z→zGw a z→0≤f→f<256 →
  zIM a n f (k:Int) z.free=some (zN9 m z f k):=by
 intro m
 induction m with
 | zero =>
  intro n z a f k hk hn h ha h0 h1
  obtain ⟨n,rfl⟩:=ex1 ‹_<n›
  show zFc _ _ _ _ _=_
  unfold zFc
  rw [z5 (df (by omega))]
  exact zQj h (by omega) ha
 | succ m ih =>
  intro n z a f k hk hn h ha h0 h1
  obtain ⟨n,rfl⟩:=ex1 ‹_<n›
  show zFc _ _ _ _ _=_
  unfold zFc
  have e:z.free.getD (k:Int).toNat []=lst z k:=rfl
  have h5:=h.len
  obtain ⟨e1,p1,p2⟩:=zJW (k:=k) (by omega)
  have e3:zEN 5 [] z.free (k:Int).toNat (lst z k)=z.free:=by
   rw [zKJ h5 (by omega)]
   exact zJb (by omega)
  have e4:(⟨a.node,a.kind,a.start,a.count,a.min,z.free⟩:zi)=z:=by rw [ha.1,ha.2.1,ha.2.2.1,ha.2.2.2.1,ha.2.2.2.2]
  rw [zAG (dt (by omega)),zZ (zM7 (by omega)),e1,zZ (z8 (by omega)),zZ (zAI (by omega)),zZ (dt (by omega)),e,zUc h0 h1 (by omega),zS5 (h.srt' k) (by have:=h.len' k; omega),zB8]
  rw [zZ (zMv (z8 (by omega))),e3,e4]
  have hin:zCW z (min f (bud f k)) ((k:Int)+1)=some (inside z (min f (bud f k)) (k+1)):=zK5 (k:=k+1) h.ranges (by omega)
  rw [hin]
  conv=>rhs; unfold zN9
  by_cases hm:bud f k∈lst z k
  ·have hb:=h.bd k _ (zKO h5 (by omega)) _ hm
   show ((cnd (!!decide (bud f k∈lst z k)) _ _).bind _)=_
   rw [dt hm,Bool.not_true,Bool.not_false,zAG rfl,zB8]
   by_cases hi:inside z (min f (bud f k)) (k+1)=true
   ·have hj:zMD z f k=true:=by unfold zMD; rw [hi,dt hm]; rfl
    rw [if_pos hj,hi]
    refine (z5 (by rfl)).trans ?_
    have hdel:zSZ (z.free.getD (k:Int).toNat []) (lb (lst z k) (bud f k):Int) ((lb (lst z k) (bud f k):Int)+1)=true:=by
     have:=zXg hm
     rw [e]
     unfold zSZ
     rw [dt (by omega),dt (by omega),dt rfl]
     rfl
    rw [zZ (z8 (by have:=zU0 (lst z k) (bud f k); have:=h.len' k; omega)),zZ hdel,zZ (z8 (by omega))]
    have hz:(zNI z (bud f k) k).free=zEN 5 [] z.free (k:Int).toNat (zUJ (z.free.getD (k:Int).toNat []) (lb (lst z k) (bud f k):Int)):=by
     rw [zKJ h5 (by omega)]
     rfl
    rw [← hz]
    exact ih n (k:=k+1) (by omega) (by omega) (h.del (zKO h5 (by omega))) (show zGw a (zNI z (bud f k) k) from ha) (by omega) (by omega)
   ·have hj:¬ zMD z f k=true:=by unfold zMD; rw [Bool.and_eq_true]; exact fun q=>hi q.2
    have hi':inside z (min f (bud f k)) (k+1)=false:=by simpa using hi
    rw [if_neg hj,hi']
    refine (zAG (by rfl)).trans ?_
    exact zQj h (by omega) ha
  ·have hj:¬ zMD z f k=true:=by unfold zMD; rw [Bool.and_eq_true,decide_eq_true_eq]; exact fun q=>hm q.1
   show ((cnd (!!decide (bud f k∈lst z k)) _ _).bind _)=_
   rw [if_neg hj,df hm,Bool.not_false,Bool.not_true,z5 rfl,zB8]
   refine (zAG (by rfl)).trans ?_
   exact zQj h (by omega) ha
theorem zXJ {z:zi} {f:Int} {k:Nat} (h:zR2 z) (hk:k≤4) (h0:0≤f) (h1:f<256):zKF z f (k:Int)=some (zN9 (4 - k) z f k) :=
 zTq (4 - k) zAD (by omega) (by unfold zAD; omega) h ⟨rfl,rfl,rfl,rfl,rfl⟩ h0 h1
theorem zSb (z:zi) (h:inI z.start=true):zGq z=some (ranges z):=by
 unfold zGq ranges
 by_cases hs:0≤z.start∧z.start<256
 ·rw [zZ (zMv (z8 (by omega)))]
 ·have:(((((((decide (0≤z.node))&&(decide (z.node<4)))&&((decide (z.kind=0))||(decide (z.kind=1))))&&(decide (0≤z.start)))&&(decide (z.start<256)))&&(decide (1≤z.count))))=false:=by
   rcases Classical.not_and_iff_not_or_not.1 hs with hs | hs <;> simp [hs]
  rw [this]
  rfl
theorem zR1 (z:zi):zG1 z=some (ranges z):=by
 unfold zG1
 by_cases h:(((decide (z.node<0))||(decide (4≤z.node)))||((!decide (z.kind=0))&&(!decide (z.kind=1))))=true
 ·rw [zAG h]
  have:ranges z=false:=by
   cases hr:ranges z with
   | false=>rfl
   | true =>
    have hb:=zBV hr
    simp at h
    omega
  rw [this]
 ·have h':=Bool.eq_false_iff.2 h
  rw [z5 h']
  have hc:(!(((decide (0≤z.start))&&(decide (1≤z.count)))&&(decide (z.count≤256)))||inI (256 - z.count))=true:=by
   by_cases hq:1≤z.count∧z.count≤256
   ·exact zMv (z8 (by omega))
   ·have:(decide (0≤z.start)&&decide (1≤z.count)&&decide (z.count≤256))=false:=by
     rcases Classical.not_and_iff_not_or_not.1 hq with hq | hq <;> simp [hq]
    rw [this]
    rfl
  rw [zZ hc]
  congr 1
  rw [Bool.eq_iff_iff]
  unfold ranges
  simp at h ⊢
  omega
theorem zRY {z:zi} {f:Int} {k:Nat} (hr:ranges z=true) (hk:k≤4) (h0:z.start≤f) (h1:f<z.start+z.count):zCZ z f (k:Int)=some (inside z f k):=by
 have hb:=zBV hr
 obtain ⟨e,p1,p2⟩:=zJW (k:=k) (by omega)
 unfold zCZ
 rw [zZ (zMv (z8 (by omega))),df (p:=(k:Int)<0) (by omega),df (p:=4<(k:Int)) (by omega),df (p:=f<z.start) (by omega),df (p:=z.start+z.count≤f) (by omega)]
 refine (z5 (by rfl)).trans ?_
 rw [e,zZ (dt (zGo (by omega) (by omega))),zZ (zM7 (by omega)),zZ (z8 (by omega)),zZ (by rw [df (by omega)]; rfl),zZ (zMv (z8 (by omega))),zZ (zMv (z8 (by omega)))]
 congr 1
 unfold inside
 rw [Bool.eq_iff_iff]
 simp
 omega
theorem zMj {k:Nat} (h:k≤5):(2:Int) ^ k=((2 ^ k:Nat):Int):=by norm_cast
theorem zUC {l:List Int} {f:Int→Option Bool} {p:Int→Bool} (hf:∀ x,f x=some (p x)) (hl:l.length≤1099511627776):∀ (m n i:Nat),i+m=l.length→m<n → ∃ r,zAW l f n (i:Int)=some r∧decide (0≤r)=(l.drop i).any p:=by
 intro m
 induction m with
 | zero =>
  intro n i h1 h2
  obtain ⟨n,rfl⟩:=ex1 ‹_<n›
  refine ⟨-1,?_,?_⟩
  ·show zAk _ _ _ _=_
   unfold zAk
   rw [z5 (df (by omega))]
   rfl
  ·rw [List.drop_eq_nil_of_le (by omega)]
   rfl
 | succ m ih =>
  intro n i h1 h2
  obtain ⟨n,rfl⟩:=ex1 ‹_<n›
  have hi:i<l.length:=by omega
  have hs:zAW l f (n+1) (i:Int)=cnd (p l[i]) (some (i:Int)) (zAW l f n ((i+1:Nat):Int)):=by
   show zAk _ _ _ _=_
   unfold zAk
   rw [zAG (dt (by omega)),zZ (zAI hi),hf,zB8,zHb hi,zZ (z8 (by omega))]
   rfl
  rw [hs,List.drop_eq_getElem_cons hi,List.any_cons]
  cases hp:p l[i] with
  | true=>exact ⟨i,rfl,by rw [dt (by omega)]; rfl⟩
  | false=>simpa [cnd] using ih n (i+1) (by omega) (by omega)
def zMn (n:Int):Bool:=decide (n<0)||decide (4≤n)
def zJh (k b h z:Int):Bool:=decide (k<1)||decide (4<k)||decide (64<h)||decide (b<1)||decide (h<b)||decide (z<1)||decide (6<z)
def zTS (nodes:List Int) (b h z:Int):Bool := !zJh (nodes.length:Int) b h z && !nodes.any zMn
theorem zRz {a:zJ} (hl:a.nodes.length≤1099511627776):zDC a=some (zTS a.nodes a.batch a.high (a.zones.length:Int)):=by
 unfold zDC zTS
 show cnd (zJh (a.nodes.length:Int) a.batch a.high (a.zones.length:Int)) _ _=_
 cases zJh (a.nodes.length:Int) a.batch a.high (a.zones.length:Int) with
 | true=>rfl
 | false =>
  obtain ⟨r,h1,h2⟩:=zUC (l:=a.nodes) (f:=fun y=>zDO y) (p:=zMn) (fun x=>rfl) hl a.nodes.length zAD 0 (by omega) (by unfold zAD; omega)
  unfold zB2 zCk
  show (((zAW a.nodes (fun y=>zDO y) zAD ((0:Nat):Int)).bind _).bind _)=_
  rw [h1,zB8,zB8,h2]
  rfl
theorem zRp {l:List Int} (hl:l.length≤1099511627776):∀ (m n i:Nat),i+m=l.length→m<n→zE3 l n (i:Int)=some (!(l.drop i).any zMn):=by
 intro m
 induction m with
 | zero =>
  intro n i h1 h2
  obtain ⟨n,rfl⟩:=ex1 ‹_<n›
  show zC0 _ _ _=_
  unfold zC0
  rw [z5 (df (by omega)),List.drop_eq_nil_of_le (by omega)]
  rfl
 | succ m ih =>
  intro n i h1 h2
  obtain ⟨n,rfl⟩:=ex1 ‹_<n›
  have hi:i<l.length:=by omega
  show zC0 _ _ _=_
  unfold zC0
  rw [zAG (dt (by omega)),zZ (zAI hi),zHb hi,zZ (z8 (by omega)),List.drop_eq_getElem_cons hi,List.any_cons]
  show cnd (zMn l[i]) _ _=_
  cases zMn l[i] with
  | true=>rfl
  | false=>exact ih n (i+1) (by omega) (by omega)
theorem zT9 {nodes:List Int} {b h z:Int} (hl:nodes.length≤1099511627776):zG5 nodes b h z=some (zTS nodes b h z):=by
 unfold zG5 zTS
 have e:(((((((decide ((nodes.length:Int)<1))||(decide (4<(nodes.length:Int))))||(decide (b<1)))||(decide (h<b)))||(decide (64<h)))||(decide (z<1)))||(decide (6<z)))=zJh (nodes.length:Int) b h z:=by
  rw [Bool.eq_iff_iff]
  unfold zJh
  simp only [Bool.or_eq_true,decide_eq_true_eq]
  omega
 rw [e]
 cases zJh (nodes.length:Int) b h z with
 | true=>rfl
 | false=>exact zRp hl nodes.length zAD 0 (by omega) (by unfold zAD; omega)
set_option maxRecDepth 100000 in
theorem zWE:zI9=some true:=by kernel_rfl
end Go.Proofs.YtplkliakhdkpcaaGreat
