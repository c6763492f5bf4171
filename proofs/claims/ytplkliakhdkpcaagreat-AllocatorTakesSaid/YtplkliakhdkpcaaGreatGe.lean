/-
  Rules, functions and laws for the last text, part e.
-/
import Derived.Test.YtplkliakhdkpcaaGreatGd
set_option linter.unusedVariables false
set_option linter.unusedSimpArgs false
namespace Go.Proofs.YtplkliakhdkpcaaGreat
open Go Go.RowKit Go.Wk Go.Am Go.Proofs
set_option maxHeartbeats 4000000
theorem zFF {C:zi} {Q:Int} {V:Int} {r:Bool} (h:zBu C Q V=some r):PFn Tryz.prog 72 [(AV.agg (zO C)),li Q,li V] (AV.lit (.bool r)):=by
 refine zm Tryz.func72 rfl Tryz.ntmps72 Tryz.results72 rfl ?_
 unfold zBu at h
 refine zH<|zC<|zX (H':=[.box 51 (zO C)]) (zu (t:=51) rfl)<|zA (zD rfl)<|zF<|zH ?_
 refine zH<|zC<|zA (zB rfl)<|zA (zh rfl rfl)<|zA (zB rfl)<|zZ rfl rfl (fun c1=>zq.step (zB rfl)) ?_
 refine zZ rfl rfl (fun c2=>zq.step (zAo (z8 rfl c2) rfl))<|zA (zj rfl rfl)<|zA (zB rfl)<|zZ rfl rfl (fun c3=>zq.step (zB rfl))<|zZ rfl rfl (fun c4=>zq.step (zK Tryz.underlying51 rfl rfl Tryz.sizeOf3 rfl))<|zZ rfl rfl (fun c5=>zq.step (zN Tryz.isAgg3 (z8 rfl c5) rfl rfl rfl)) ?_
 refine zZ rfl rfl (fun c6=>zq.step (zh (z8 rfl c6) (z8 rfl c6)))<|zA (zj rfl rfl)<|zA (zB rfl)<|zZ rfl rfl (fun c7=>zq.step (zB rfl))<|zZ rfl rfl (fun c8=>zq.step (zK Tryz.underlying51 rfl rfl Tryz.sizeOf3 rfl))<|zZ rfl rfl (fun c9=>zq.step (zN Tryz.isAgg3 (z8 rfl c9) rfl rfl rfl)) ?_
 refine zZ rfl rfl (fun c10=>zq.step (zK Tryz.underlying51 rfl rfl Tryz.sizeOf3 rfl))<|zZ rfl rfl (fun c11=>zq.step (zN Tryz.isAgg3 (z8 rfl c11) rfl rfl rfl))<|zM h fun b1 h=>zZ rfl rfl (fun c12=>zq.step (zg (z8 rfl c12) (z8 rfl c12) (zHd b1 c12)))<|zZ rfl rfl (fun c13=>zq.step (zAu (z8 rfl c13) (z8 rfl c13)))<|zA (zj rfl rfl) ?_
 refine zF ?_
 refine zW h rfl (fun b2 h => ?_) (fun b2 h => ?_)
 ·refine zH<|zC<|zA (zD rfl)<|zF<|zb ?_
  cases h
  exact zv (zAI rfl rfl)
 refine zQ<|zH<|zC<|zA (zB rfl)<|zA (zB rfl)<|zM h fun b3 h => ?_
 refine zA (zFl (k' := .u64) (a:=V) Tryz.underlying3 Tryz.underlying74 rfl b3)<|zM h fun b4 h=>zM h fun b5 h=>zA (zCx (a:=1) (b:=V) rfl rfl b4 b5)<|zM h fun b6 h=>zA (zRK (k := .i64) (a:=Q) (b:=(1:Int)*2 ^ V.toNat) rfl rfl b6) ?_
 refine zA (zA8 rfl rfl)<|zA (zB rfl)<|zo rfl rfl (fun c14=>zq.step (zB rfl))<|zo rfl rfl (fun c15=>zq.step (zB rfl))<|zo rfl rfl (fun c16=>zq.step (zFl (k' := .u64) (a:=V) Tryz.underlying3 Tryz.underlying74 (z8 rfl c16) b3))<|zo rfl rfl (fun c17=>zq.step (zCx (a:=1) (b:=V) rfl (z8 rfl c17) b4 b5)) ?_
 refine zM h fun b7 h=>zo rfl rfl (fun c18=>zq.step (zg (z8 rfl c18) (z8 rfl c18) (zHd b7 c18)))<|zo rfl rfl (fun c19=>zq.step (zK Tryz.underlying51 rfl rfl Tryz.sizeOf3 rfl))<|zo rfl rfl (fun c20=>zq.step (zN Tryz.isAgg3 (z8 rfl c20) rfl rfl rfl))<|zo rfl rfl (fun c21=>zq.step (zK Tryz.underlying51 rfl rfl Tryz.sizeOf3 rfl))<|zo rfl rfl (fun c22=>zq.step (zN Tryz.isAgg3 (z8 rfl c22) rfl rfl rfl)) ?_
 refine zM h fun b8 h=>zo rfl rfl (fun c23=>zq.step (zg (z8 rfl c23) (z8 rfl c23) (zHd b8 c23)))<|zo rfl rfl (fun c24=>zq.step (zCj (z8 rfl c24) (z8 rfl c24)))<|zA (z6 (j := .lit undef) rfl rfl)<|zA (zD rfl)<|zF ?_
 refine zb ?_
 cases h
 exact zv (zAI rfl rfl)
theorem zMW {C:zi} {r:Int} (h:zHP C=some r):PFn Tryz.prog 94 [(AV.agg (zO C))] (li r):=by
 refine zm Tryz.func94 rfl Tryz.ntmps94 Tryz.results94 rfl ?_
 unfold zHP at h
 refine zH<|zC<|zX (H':=[.box 51 (zO C)]) (zu (t:=51) rfl)<|zA (zD rfl)<|zF ?_
 refine zx (r:=r) (fun (_:Unit)=>mkE []) (fun _=>[]) (fun _=>zHX ) ?_ ?_
 ·
  refine zH<|zC<|zA (zD rfl)<|zF<|zR<|zt (σ:=Int) (fun i1=>mkE [(1,(AV.ptr 0 0)),(3,(li i1))]) (fun i1=>[.box 51 (zO C)]) (fun n0 i1=>zBU C n0 i1) 0 h (fun _=>rfl) (zAD [0] rfl rfl (by kernel_rfl)) ?_
  clear h
  intro n0 i1 h
  replace h:zCF C (zBU C n0) i1=some r:=h
  unfold zCF at h
  refine zH<|zH<|zC<|zA (zB rfl)<|zA (zCj rfl rfl)<|zF ?_
  refine zW h rfl (fun b1 h => ?_) (fun b1 h => ?_)
  ·refine zQ ?_
   refine zx (r:=r) (fun (_:Unit)=>mkE [(1,(AV.ptr 0 0)),(3,(li i1))]) (fun _=>[.box 51 (zO C)]) (fun _=>zFO (zBU C n0) i1) ?_ ?_
   ·
    refine zR<|zH<|zC<|zA (zD rfl)<|zF<|zR ?_
    refine zt (σ:=Int) (fun i2=>mkE [(1,(AV.ptr 0 0)),(3,(li i1)),(4,(li i2))]) (fun i2=>[.box 51 (zO C)]) (fun n1 i2=>zDq (zBU C n0) C i1 n1 i2) 0 h (fun _=>rfl) (zAD [0] rfl rfl (by kernel_rfl)) ?_
    clear h
    intro n1 i2 h
    replace h:zCM (zBU C n0) C i1 (zDq (zBU C n0) C i1 n1) i2=some r:=h
    unfold zCM at h
    refine zH<|zH<|zC<|zA (zB rfl)<|zA (zB rfl)<|zA (zK Tryz.underlying51 rfl rfl Tryz.sizeOf49 rfl) ?_
    refine zM h fun b3 h=>zA (zAG (m:=5) (s:=1) (i:=i1) (k:=0) (o:=5) Tryz.underlying49 Tryz.sizeOf22 rfl rfl b3)<|zA (zAr (k:=0) (o:=(5+i1.toNat*1)) (cs:=(zO C)) (hd:=([li C.node]++[li C.kind]++[li C.start]++[li C.count]++[li C.min]++[])) (tl:=([])) (g:=(eS cI)) (d0:=([]:List Int)) (l:=C.free) (N:=5) (i:=i1.toNat) (a:=(ls cI (C.free.getD i1.toNat ([]:List Int)))) Tryz.isAgg22 rfl rfl rfl (congrArg (fun q=>5+q) (Nat.mul_one _)) (zBK b3).2 rfl rfl)<|zA (zY Tryz.underlying22 rfl)<|zA (zh rfl rfl)<|zF ?_
    refine zW h rfl (fun b4 h => ?_) (fun b4 h => ?_)
    ·refine zQ<|zH<|zR<|zH<|zH<|zM h fun b5 h => ?_
     refine zP h fun x1 w1 h => ?_
     refine zAm (n:=49) (m:=0) [.head 0 0,.head 0 0,.head 0 0,.head 0 0,.head 0 0,.head 0 0,.head 0 0,.head 0 0,.head 0 0,.head 0 0,.head 0 0] [] [(AV.agg (zO C)),li i1,AV.ptr 0 5,(AV.ptr 0 (5+i1.toNat*1)),(ls cI (C.free.getD i1.toNat ([]:List Int))),li i2,(AV.rp (cI (at_ (C.free.getD i1.toNat ([]:List Int)) i2)) 0),(li (at_ (C.free.getD i1.toNat ([]:List Int)) i2)),li i1,(AV.lit (.bool x1)),(AV.lit (.bool (!x1)))] [[.box 51 (zO C)]] (by kernel_rfl) (by kernel_rfl) ⟨D1 fun e s p=>zS (k:=0) (o:=0) (m:=10) Tryz.isAgg51 Tryz.sizeOf51 (s 1 rfl) rfl rfl rfl rfl,D1 fun e s p=>zB (s 3 rfl),D1 fun e s p=>zK (k:=0) (o:=0) (off:=5) Tryz.underlying51 rfl rfl Tryz.sizeOf49 (s 1 rfl),D1 fun e s p=>zAG (m:=5) (s:=1) (i:=i1) (k:=0) (o:=5) Tryz.underlying49 Tryz.sizeOf22 p.1 p.2.1 b3,D1 fun e s p=>zAr (k:=0) (o:=(5+i1.toNat*1)) (cs:=(zO C)) (hd:=([li C.node]++[li C.kind]++[li C.start]++[li C.count]++[li C.min]++[])) (tl:=([])) (g:=(eS cI)) (d0:=([]:List Int)) (l:=C.free) (N:=5) (i:=i1.toNat) (a:=(ls cI (C.free.getD i1.toNat ([]:List Int)))) Tryz.isAgg22 p.1 rfl rfl (congrArg (fun q=>5+q) (Nat.mul_one _)) (zBK b3).2 rfl rfl,D1 fun e s p=>zB (s 4 rfl),D1 fun e s p=>zV (f:=cI) (l:=C.free.getD i1.toNat ([]:List Int)) (i:=i2) Tryz.underlying22 Tryz.sizeOf3 (fun _=>rfl) p.1 p.2.1 b5,D1 fun e s p=>zU (o:=0) Tryz.isAgg3 p.1 rfl,D1 fun e s p=>zB (s 3 rfl),?_,D1 fun e s p=>zAv (t:=x1) p.1,trivial⟩ ?_
     ·
      intro e10 s10 p10
      refine ze (r:=(AV.lit (.bool x1))) (la:=[(AV.agg (zO C)),(li (at_ (C.free.getD i1.toNat ([]:List Int)) i2)),li i1]) Tryz.func72 rfl (by kernel_rfl) (.fn 72) (zAL p10.1 (zAL p10.2.1 (zAL p10.2.2.1 rfl))) rfl (zFF w1) rfl ?_
      exact zF ⟨fun _=>rfl,rfl⟩
     intro e12 s12 hq1
     refine zAS (zBI (l:=[(1,(AV.ptr 0 0)),(3,(li i1)),(4,(li i2)),(28,(AV.lit (.bool (!x1))))]) ⟨s12 1 rfl,s12 3 rfl,s12 4 rfl,(hq1 10 (by decide) (by decide)),trivial⟩) ?_
     refine zW h rfl (fun b6 h => ?_) (fun b6 h => ?_)
     ·refine zH<|zC<|zA (zD rfl)<|zF<|zb ?_
      cases h
      exact zv (zAI rfl rfl)
     refine zQ<|zH<|zM h fun b7 h=>zM h fun b8 h => ?_
     refine zAm (n:=49) (m:=0) [.head 0 0,.head 0 0,.head 0 0,.head 0 0,.head 0 0,.head 0 0,.head 0 0,.head 0 0,.head 0 0,.head 0 0,.head 0 0,.head 0 0,.head 0 0,.head 0 0,.head 0 0,.head 0 0,.head 0 0,.head 0 0,.head 0 0,.head 0 0] [] [li i2,(AV.lit (.bool (decide (0<i2)))),(AV.lit (.bool (decide (0<i2)))),(bif decide (0<i2) then (li i1) else .lit undef),(bif decide (0<i2) then (AV.ptr 0 5) else .lit undef),(bif decide (0<i2) then (AV.ptr 0 (5+i1.toNat*1)) else .lit undef),(bif decide (0<i2) then (ls cI (C.free.getD i1.toNat ([]:List Int))) else .lit undef),(bif decide (0<i2) then (li i2) else .lit undef),(bif decide (0<i2) then (AV.rp (cI (at_ (C.free.getD i1.toNat ([]:List Int)) i2)) 0) else .lit undef),(bif decide (0<i2) then (li (at_ (C.free.getD i1.toNat ([]:List Int)) i2)) else .lit undef),(bif decide (0<i2) then (li i1) else .lit undef),(bif decide (0<i2) then (AV.ptr 0 5) else .lit undef),(bif decide (0<i2) then (AV.ptr 0 (5+i1.toNat*1)) else .lit undef),(bif decide (0<i2) then (ls cI (C.free.getD i1.toNat ([]:List Int))) else .lit undef),(bif decide (0<i2) then (li i2) else .lit undef),(bif decide (0<i2) then (li (i2 - 1)) else .lit undef),(bif decide (0<i2) then (AV.rp (cI (at_ (C.free.getD i1.toNat ([]:List Int)) (i2 - 1))) 0) else .lit undef),(bif decide (0<i2) then (li (at_ (C.free.getD i1.toNat ([]:List Int)) (i2 - 1))) else .lit undef),(bif decide (0<i2) then (AV.lit (.bool (decide ((at_ (C.free.getD i1.toNat ([]:List Int)) i2)≤(at_ (C.free.getD i1.toNat ([]:List Int)) (i2 - 1)))))) else .lit undef),(AV.lit (.bool ((decide (0<i2))&&(decide ((at_ (C.free.getD i1.toNat ([]:List Int)) i2)≤(at_ (C.free.getD i1.toNat ([]:List Int)) (i2 - 1)))))))] [[.box 51 (zO C)]] (by kernel_rfl) (by kernel_rfl) ⟨D1 fun e s p=>zB (s 4 rfl),D1 fun e s p=>zAo (a:=i2) (b:=0) p.1 rfl,D1 fun e s p=>zB p.1,?_,?_,?_,?_,?_,?_,?_,?_,?_,?_,?_,?_,?_,?_,?_,?_,D1 fun e s p=>z6 (s:=decide (0<i2)) (q:=decide ((at_ (C.free.getD i1.toNat ([]:List Int)) i2)≤(at_ (C.free.getD i1.toNat ([]:List Int)) (i2 - 1)))) (j := .lit undef) p.1 p.2.1,trivial⟩ ?_
     ·
      intro e16 s16 p15
      refine zo (g:=31) (s:=decide (0<i2)) rfl p15.1 (fun c17=>zq.step (zB (av:=(li i1)) (s16 3 rfl))) ?_
      exact zF ⟨fun _=>rfl,rfl⟩
     ·
      intro e17 s17 p16
      refine zo (g:=31) (s:=decide (0<i2)) rfl p16.1 (fun c18=>zq.step (zK (k:=0) (o:=0) (off:=5) Tryz.underlying51 rfl rfl Tryz.sizeOf49 (s17 1 rfl))) ?_
      exact zF ⟨fun _=>rfl,rfl⟩
     ·
      intro e18 s18 p17
      refine zo (g:=31) (s:=decide (0<i2)) rfl p17.2.2.1 (fun c19=>zq.step (zAG (m:=5) (s:=1) (i:=i1) (k:=0) (o:=5) Tryz.underlying49 Tryz.sizeOf22 (z8 p17.1 c19) (z8 p17.2.1 c19) b3)) ?_
      exact zF ⟨fun _=>rfl,rfl⟩
     ·
      intro e19 s19 p18
      refine zo (g:=31) (s:=decide (0<i2)) rfl p18.2.1 (fun c20=>zq.step (zAr (k:=0) (o:=(5+i1.toNat*1)) (cs:=(zO C)) (hd:=([li C.node]++[li C.kind]++[li C.start]++[li C.count]++[li C.min]++[])) (tl:=([])) (g:=(eS cI)) (d0:=([]:List Int)) (l:=C.free) (N:=5) (i:=i1.toNat) (a:=(ls cI (C.free.getD i1.toNat ([]:List Int)))) Tryz.isAgg22 (z8 p18.1 c20) rfl rfl (congrArg (fun q=>5+q) (Nat.mul_one _)) (zBK b3).2 rfl rfl)) ?_
      exact zF ⟨fun _=>rfl,rfl⟩
     ·
      intro e20 s20 p19
      refine zo (g:=31) (s:=decide (0<i2)) rfl p19.1 (fun c21=>zq.step (zB (av:=(li i2)) (s20 4 rfl))) ?_
      exact zF ⟨fun _=>rfl,rfl⟩
     ·
      intro e21 s21 p20
      refine zo (g:=31) (s:=decide (0<i2)) rfl p20.2.2.1 (fun c22=>zq.step (zV (f:=cI) (l:=C.free.getD i1.toNat ([]:List Int)) (i:=i2) Tryz.underlying22 Tryz.sizeOf3 (fun _=>rfl) (z8 p20.1 c22) (z8 p20.2.1 c22) b5)) ?_
      exact zF ⟨fun _=>rfl,rfl⟩
     ·
      intro e22 s22 p21
      refine zo (g:=31) (s:=decide (0<i2)) rfl p21.2.1 (fun c23=>zq.step (zU (row:=(cI (at_ (C.free.getD i1.toNat ([]:List Int)) i2))) (o:=0) (a:=(li (at_ (C.free.getD i1.toNat ([]:List Int)) i2))) Tryz.isAgg3 (z8 p21.1 c23) rfl)) ?_
      exact zF ⟨fun _=>rfl,rfl⟩
     ·
      intro e23 s23 p22
      refine zo (g:=31) (s:=decide (0<i2)) rfl p22.1 (fun c24=>zq.step (zB (av:=(li i1)) (s23 3 rfl))) ?_
      exact zF ⟨fun _=>rfl,rfl⟩
     ·
      intro e24 s24 p23
      refine zo (g:=31) (s:=decide (0<i2)) rfl p23.1 (fun c25=>zq.step (zK (k:=0) (o:=0) (off:=5) Tryz.underlying51 rfl rfl Tryz.sizeOf49 (s24 1 rfl))) ?_
      exact zF ⟨fun _=>rfl,rfl⟩
     ·
      intro e25 s25 p24
      refine zo (g:=31) (s:=decide (0<i2)) rfl p24.2.2.1 (fun c26=>zq.step (zAG (m:=5) (s:=1) (i:=i1) (k:=0) (o:=5) Tryz.underlying49 Tryz.sizeOf22 (z8 p24.1 c26) (z8 p24.2.1 c26) b3)) ?_
      exact zF ⟨fun _=>rfl,rfl⟩
     ·
      intro e26 s26 p25
      refine zo (g:=31) (s:=decide (0<i2)) rfl p25.2.1 (fun c27=>zq.step (zAr (k:=0) (o:=(5+i1.toNat*1)) (cs:=(zO C)) (hd:=([li C.node]++[li C.kind]++[li C.start]++[li C.count]++[li C.min]++[])) (tl:=([])) (g:=(eS cI)) (d0:=([]:List Int)) (l:=C.free) (N:=5) (i:=i1.toNat) (a:=(ls cI (C.free.getD i1.toNat ([]:List Int)))) Tryz.isAgg22 (z8 p25.1 c27) rfl rfl (congrArg (fun q=>5+q) (Nat.mul_one _)) (zBK b3).2 rfl rfl)) ?_
      exact zF ⟨fun _=>rfl,rfl⟩
     ·
      intro e27 s27 p26
      refine zo (g:=31) (s:=decide (0<i2)) rfl p26.1 (fun c28=>zq.step (zB (av:=(li i2)) (s27 4 rfl))) ?_
      exact zF ⟨fun _=>rfl,rfl⟩
     ·
      intro e28 s28 p27
      refine zo (g:=31) (s:=decide (0<i2)) rfl p27.2.1 (fun c29=>zq.step (zBa (a:=i2) (b:=1) (z8 p27.1 c29) rfl (zHd b7 c29))) ?_
      exact zF ⟨fun _=>rfl,rfl⟩
     ·
      intro e29 s29 p28
      refine zo (g:=31) (s:=decide (0<i2)) rfl p28.2.2.1 (fun c30=>zq.step (zV (f:=cI) (l:=C.free.getD i1.toNat ([]:List Int)) (i:=i2 - 1) Tryz.underlying22 Tryz.sizeOf3 (fun _=>rfl) (z8 p28.1 c30) (z8 p28.2.1 c30) (zHd b8 c30))) ?_
      exact zF ⟨fun _=>rfl,rfl⟩
     ·
      intro e30 s30 p29
      refine zo (g:=31) (s:=decide (0<i2)) rfl p29.2.1 (fun c31=>zq.step (zU (row:=(cI (at_ (C.free.getD i1.toNat ([]:List Int)) (i2 - 1)))) (o:=0) (a:=(li (at_ (C.free.getD i1.toNat ([]:List Int)) (i2 - 1)))) Tryz.isAgg3 (z8 p29.1 c31) rfl)) ?_
      exact zF ⟨fun _=>rfl,rfl⟩
     ·
      intro e31 s31 p30
      refine zo (g:=31) (s:=decide (0<i2)) rfl p30.2.2.1 (fun c32=>zq.step (zCj (a:=at_ (C.free.getD i1.toNat ([]:List Int)) i2) (b:=at_ (C.free.getD i1.toNat ([]:List Int)) (i2 - 1)) (z8 p30.1 c32) (z8 p30.2.1 c32))) ?_
      exact zF ⟨fun _=>rfl,rfl⟩
     intro e33 s33 hq2
     refine zAS (zBI (l:=[(1,(AV.ptr 0 0)),(3,(li i1)),(4,(li i2)),(48,(AV.lit (.bool ((decide (0<i2))&&(decide ((at_ (C.free.getD i1.toNat ([]:List Int)) i2)≤(at_ (C.free.getD i1.toNat ([]:List Int)) (i2 - 1))))))))]) ⟨s33 1 rfl,s33 3 rfl,s33 4 rfl,(hq2 19 (by decide) (by decide)),trivial⟩) ?_
     refine zW h rfl (fun b9 h => ?_) (fun b9 h => ?_)
     ·refine zH<|zC<|zA (zD rfl)<|zF<|zb ?_
      cases h
      exact zv (zAI rfl rfl)
     refine zQ<|zC<|zA (zB rfl)<|zM h fun b10 h=>zA (zg rfl rfl b10)<|zA (zD rfl) ?_
     refine zF ?_
     exact ⟨(i2+1),zAD [0] rfl rfl (by kernel_rfl),h⟩
    refine zz ?_
    exact ⟨(),zAD [0] rfl rfl (by kernel_rfl),h⟩
   clear h
   intro _ h
   unfold zFO at h
   refine zC<|zA (zB rfl)<|zM h fun b2 h=>zA (zg rfl rfl b2)<|zA (zD rfl)<|zF ?_
   exact ⟨(i1+1),zAD [0] rfl rfl (by kernel_rfl),h⟩
  refine zz ?_
  exact ⟨(),zAD [] rfl rfl (by kernel_rfl),h⟩
 clear h
 intro _ h
 unfold zHX at h
 refine zH<|zC<|zA (zD rfl)<|zF<|zb ?_
 cases h
 exact zv (zAI rfl rfl)
theorem zIM {C:zi} {r:List Int} (h:zHS C=some r):PFn Tryz.prog 95 [(AV.agg (zO C))] (AV.osl 3 1 (List.map cI r)):=by
 refine zm Tryz.func95 rfl Tryz.ntmps95 Tryz.results95 rfl ?_
 unfold zHS at h
 refine zH<|zC<|zX (H':=[.box 51 (zO C)]) (zu (t:=51) rfl)<|zA (zD rfl)<|zF<|zH ?_
 refine zC<|zM h fun b1 h=>zEU (f:=cI) (a:=256) (c:=256) (d0:=0) zGA ⟨zAx.refl _,trivial⟩ rfl Tryz.underlying22 rfl rfl b1<|zA (zD rfl)<|zF ?_
 refine zx (r:=r) (fun (l1:List Int)=>mkE [(3,(AV.hd 0))]) (fun l1=>[.vec 3 1 (List.map cI l1)]) (fun l1=>zKz l1) ?_ ?_
 ·
  refine zH<|zC<|zA (zD rfl)<|zF<|zR<|zt (σ:=Int×(List Int)) (fun (i1,l2)=>mkE [(1,(AV.ptr 0 0)),(3,(AV.hd 1)),(4,(li i1))]) (fun (i1,l2)=>[.box 51 (zO C),.vec 3 1 (List.map cI l2)]) (fun n0 (i1,l2)=>zBk C n0 i1 l2) (0,(List.replicate (256:Int).toNat 0)) h (fun _=>rfl) (zAD [0,1] rfl rfl (by kernel_rfl)) ?_
  clear h
  rintro n0 ⟨i1,l2⟩ h
  replace h:zFd C (zBk C n0) i1 l2=some r:=h
  unfold zFd at h
  refine zH<|zH<|zC<|zA (zB rfl)<|zA (zCj rfl rfl)<|zF ?_
  refine zW h rfl (fun b2 h => ?_) (fun b2 h => ?_)
  ·refine zQ ?_
   refine zx (r:=r) (fun (l3:List Int)=>mkE [(1,(AV.ptr 0 0)),(3,(AV.hd 1)),(4,(li i1))]) (fun l3=>[.box 51 (zO C),.vec 3 1 (List.map cI l3)]) (fun l3=>zJX (zBk C n0) i1 l3) ?_ ?_
   ·
    refine zR<|zH<|zC<|zA (zD rfl)<|zF<|zR ?_
    refine zt (σ:=Int×(List Int)) (fun (i2,l4)=>mkE [(1,(AV.ptr 0 0)),(3,(AV.hd 1)),(4,(li i1)),(5,(li i2))]) (fun (i2,l4)=>[.box 51 (zO C),.vec 3 1 (List.map cI l4)]) (fun n1 (i2,l4)=>zDC (zBk C n0) C i1 n1 i2 l4) (0,l2) h (fun _=>rfl) (zAD [0,1] rfl rfl (by kernel_rfl)) ?_
    clear h
    rintro n1 ⟨i2,l4⟩ h
    replace h:zFs (zBk C n0) C i1 (zDC (zBk C n0) C i1 n1) i2 l4=some r:=h
    unfold zFs at h
    refine zH<|zH<|zC<|zA (zB rfl)<|zA (zB rfl)<|zA (zK Tryz.underlying51 rfl rfl Tryz.sizeOf49 rfl) ?_
    refine zM h fun b4 h=>zA (zAG (m:=5) (s:=1) (i:=i1) (k:=0) (o:=5) Tryz.underlying49 Tryz.sizeOf22 rfl rfl b4)<|zA (zAr (k:=0) (o:=(5+i1.toNat*1)) (cs:=(zO C)) (hd:=([li C.node]++[li C.kind]++[li C.start]++[li C.count]++[li C.min]++[])) (tl:=([])) (g:=(eS cI)) (d0:=([]:List Int)) (l:=C.free) (N:=5) (i:=i1.toNat) (a:=(ls cI (C.free.getD i1.toNat ([]:List Int)))) Tryz.isAgg22 rfl rfl rfl (congrArg (fun q=>5+q) (Nat.mul_one _)) (zBK b4).2 rfl rfl)<|zA (zY Tryz.underlying22 rfl)<|zA (zh rfl rfl)<|zF ?_
    refine zW h rfl (fun b5 h => ?_) (fun b5 h => ?_)
    ·refine zQ ?_
     refine zx (r:=r) (fun (l5:List Int)=>mkE [(1,(AV.ptr 0 0)),(3,(AV.hd 1)),(4,(li i1)),(5,(li i2))]) (fun l5=>[.box 51 (zO C),.vec 3 1 (List.map cI l5)]) (fun l5=>zJT (zDC (zBk C n0) C i1 n1) i2 l5) ?_ ?_
     ·
      refine zR<|zH<|zC<|zA (zB rfl)<|zA (zK Tryz.underlying51 rfl rfl Tryz.sizeOf49 rfl)<|zA (zAG (m:=5) (s:=1) (i:=i1) (k:=0) (o:=5) Tryz.underlying49 Tryz.sizeOf22 rfl rfl b4) ?_
      refine zA (zAr (k:=0) (o:=(5+i1.toNat*1)) (cs:=(zO C)) (hd:=([li C.node]++[li C.kind]++[li C.start]++[li C.count]++[li C.min]++[])) (tl:=([])) (g:=(eS cI)) (d0:=([]:List Int)) (l:=C.free) (N:=5) (i:=i1.toNat) (a:=(ls cI (C.free.getD i1.toNat ([]:List Int)))) Tryz.isAgg22 rfl rfl rfl (congrArg (fun q=>5+q) (Nat.mul_one _)) (zBK b4).2 rfl rfl)<|zA (zB rfl)<|zM h fun b7 h=>zA (zV Tryz.underlying22 Tryz.sizeOf3 (fun _=>rfl) rfl rfl b7)<|zA (zU (o:=0) Tryz.isAgg3 rfl rfl)<|zA (zD rfl) ?_
      refine zF<|zR<|zt (σ:=Int×(List Int)) (fun (i3,l6)=>mkE [(1,(AV.ptr 0 0)),(3,(AV.hd 1)),(4,(li i1)),(5,(li i2)),(6,(li i3))]) (fun (i3,l6)=>[.box 51 (zO C),.vec 3 1 (List.map cI l6)]) (fun n2 (i3,l6)=>zIO (zDC (zBk C n0) C i1 n1) C i1 i2 n2 i3 l6) ((at_ (C.free.getD i1.toNat ([]:List Int)) i2),l4) h (fun _=>rfl) (zAD [0,1] rfl rfl (by kernel_rfl)) ?_
      clear h
      rintro n2 ⟨i3,l6⟩ h
      replace h:zFk (zDC (zBk C n0) C i1 n1) C i1 i2 (zIO (zDC (zBk C n0) C i1 n1) C i1 i2 n2) i3 l6=some r:=h
      unfold zFk at h
      refine zH<|zH<|zC<|zA (zB rfl)<|zA (zB rfl)<|zA (zK Tryz.underlying51 rfl rfl Tryz.sizeOf49 rfl) ?_
      refine zM h fun b8 h=>zA (zAG (m:=5) (s:=1) (i:=i1) (k:=0) (o:=5) Tryz.underlying49 Tryz.sizeOf22 rfl rfl b8)<|zA (zAr (k:=0) (o:=(5+i1.toNat*1)) (cs:=(zO C)) (hd:=([li C.node]++[li C.kind]++[li C.start]++[li C.count]++[li C.min]++[])) (tl:=([])) (g:=(eS cI)) (d0:=([]:List Int)) (l:=C.free) (N:=5) (i:=i1.toNat) (a:=(ls cI (C.free.getD i1.toNat ([]:List Int)))) Tryz.isAgg22 rfl rfl rfl (congrArg (fun q=>5+q) (Nat.mul_one _)) (zBK b8).2 rfl rfl)<|zA (zB rfl)<|zM h fun b9 h=>zA (zV Tryz.underlying22 Tryz.sizeOf3 (fun _=>rfl) rfl rfl b9) ?_
      refine zA (zU (o:=0) Tryz.isAgg3 rfl rfl)<|zA (zB rfl)<|zM h fun b10 h=>zA (zFl (k' := .u64) (a:=i1) Tryz.underlying3 Tryz.underlying74 rfl b10)<|zM h fun b11 h=>zM h fun b12 h => ?_
      refine zA (zCx (a:=1) (b:=i1) rfl rfl b11 b12)<|zM h fun b13 h=>zA (zg rfl rfl b13)<|zA (zh rfl rfl)<|zF ?_
      refine zW h rfl (fun b14 h => ?_) (fun b14 h => ?_)
      ·refine zQ<|zH<|zR<|zC<|zA (zB rfl)<|zA (zB rfl) ?_
       refine zM h fun b15 h=>zA (zy (f:=cI) (l:=l6) (i:=i3) Tryz.underlying22 Tryz.sizeOf3 rfl rfl rfl b15)<|zA (zA3 (f:=cI) (l:=l6) (i:=i3) (c:=0) (a:=(li (at_ l6 i3))) Tryz.isAgg3 rfl rfl (by first | rfl | omega) b15 rfl rfl)<|zM h fun b16 h=>zA (zg rfl rfl b16)<|zA (zy (f:=cI) (l:=l6) (i:=i3) Tryz.underlying22 Tryz.sizeOf3 rfl rfl rfl b15) ?_
       refine zd (H':=[.box 51 (zO C),.vec 3 1 (List.map cI (l6.set i3.toNat ((at_ l6 i3)+1)))]) (zBZ (k:=1) (o:=(i3.toNat*1)) (f:=cI) (l:=l6) (i:=i3) (c:=0) (a:=(li ((at_ l6 i3)+1))) (z:=(at_ l6 i3)+1) Tryz.sizeOf3 rfl rfl (by first | rfl | omega) b15 rfl rfl rfl rfl rfl)<|zF<|zC<|zA (zB rfl)<|zM h fun b17 h=>zA (zg rfl rfl b17) ?_
       refine zA (zD rfl)<|zF ?_
       exact ⟨((i3+1),(l6.set i3.toNat ((at_ l6 i3)+1))),zAD [0,1] rfl rfl (by kernel_rfl),h⟩
      refine zz ?_
      exact ⟨l6,zAD [0,1] rfl rfl (by kernel_rfl),h⟩
     clear h
     intro l5 h
     unfold zJT at h
     refine zC<|zA (zB rfl)<|zM h fun b6 h=>zA (zg rfl rfl b6)<|zA (zD rfl)<|zF ?_
     exact ⟨((i2+1),l5),zAD [0,1] rfl rfl (by kernel_rfl),h⟩
    refine zz ?_
    exact ⟨l4,zAD [0,1] rfl rfl (by kernel_rfl),h⟩
   clear h
   intro l3 h
   unfold zJX at h
   refine zC<|zA (zB rfl)<|zM h fun b3 h=>zA (zg rfl rfl b3)<|zA (zD rfl)<|zF ?_
   exact ⟨((i1+1),l3),zAD [0,1] rfl rfl (by kernel_rfl),h⟩
  refine zz ?_
  exact ⟨l2,zAD [1] rfl rfl (by kernel_rfl),h⟩
 clear h
 intro l1 h
 unfold zKz at h
 refine zH<|zC<|zA (zB rfl)<|zA (zD rfl)<|zF<|zb ?_
 cases h
 exact zv (zWV rfl rfl)
theorem zGL {A:zi} {r:Int} (h:zE8 A=some r):PFn Tryz.prog 47 [(AV.agg (zO A))] (li r):=by
 refine zm Tryz.func47 rfl Tryz.ntmps47 Tryz.results47 rfl ?_
 unfold zE8 at h
 refine zH<|zC<|zX (H':=[.box 51 (zO A)]) (zu (t:=51) rfl)<|zA (zD rfl)<|zF<|zH ?_
 refine zH<|zC<|zA (zS (k:=0) (o:=0) (m:=10) Tryz.isAgg51 Tryz.sizeOf51 rfl rfl rfl rfl rfl)<|zP h fun x1 w1 h=>ze Tryz.func93 rfl (by kernel_rfl) (.fn 93) rfl rfl (zNV w1) rfl<|zA (zAv (t:=x1) rfl) ?_
 refine zF ?_
 refine zW h rfl (fun b1 h => ?_) (fun b1 h => ?_)
 ·refine zH<|zC<|zA (zD rfl)<|zF<|zb ?_
  cases h
  exact zv (zAI rfl rfl)
 refine zQ<|zH<|zH<|zC<|zA (zS (k:=0) (o:=0) (m:=10) Tryz.isAgg51 Tryz.sizeOf51 rfl rfl rfl rfl rfl)<|zP h fun x2 w2 h => ?_
 refine ze Tryz.func94 rfl (by kernel_rfl) (.fn 94) rfl rfl (zMW w2) rfl<|zA (zD rfl)<|zF<|zH<|zC<|zA (zB rfl) ?_
 refine zA (z7 rfl rfl)<|zF ?_
 refine zW h rfl (fun b2 h => ?_) (fun b2 h => ?_)
 ·refine zH<|zC<|zA (zB rfl)<|zA (zD rfl)<|zF<|zb ?_
  cases h
  exact zv (zAI rfl rfl)
 refine zQ<|zH<|zC<|zA (zS (k:=0) (o:=0) (m:=10) Tryz.isAgg51 Tryz.sizeOf51 rfl rfl rfl rfl rfl)<|zP h fun x3 w3 h=>zGJ (T:=3) (sz:=1) (rows:=List.map cI x3) (la:=[(AV.agg (zO A))]) (la':=[(AV.agg (zO A))]) (S:=[]) Tryz.func95 rfl (by kernel_rfl) (.fn 95) rfl ⟨zAl.nr rfl,trivial⟩ (zIM w3) (.inl rfl) ?_
 refine zA (zD rfl)<|zF ?_
 refine zx (r:=r) (fun (_:Unit)=>mkE [(1,(AV.ptr 0 0))]) (fun _=>[.box 51 (zO A)]) (fun _=>zFE A) ?_ ?_
 ·
  refine zH<|zC<|zA (zD rfl)<|zF<|zR<|zt (σ:=Int) (fun i3=>mkE [(1,(AV.ptr 0 0)),(4,(AV.hd 1)),(5,(li i3))]) (fun i3=>[.box 51 (zO A),.vec 3 1 (List.map cI x3)]) (fun n2 i3=>zB6 A x3 n2 i3) 0 h (fun _=>rfl) (zAD [0,1] rfl rfl (by kernel_rfl)) ?_
  clear h
  intro n2 i3 h
  replace h:zD1 A x3 (zB6 A x3 n2) i3=some r:=h
  unfold zD1 at h
  refine zH<|zH<|zC<|zA (zB rfl)<|zA (zB rfl)<|zA (zCd (f:=cI) (l:=x3) Tryz.underlying22 rfl rfl) ?_
  refine zA (zh rfl rfl)<|zF ?_
  refine zW h rfl (fun b17 h => ?_) (fun b17 h => ?_)
  ·refine zQ<|zH<|zR<|zH<|zC<|zA (zB rfl) ?_
   refine zA (zB rfl)<|zM h fun b18 h=>zA (zy (f:=cI) (l:=x3) (i:=i3) Tryz.underlying22 Tryz.sizeOf3 rfl rfl rfl b18)<|zA (zA3 (f:=cI) (l:=x3) (i:=i3) (c:=0) (a:=(li (at_ x3 i3))) Tryz.isAgg3 rfl rfl (by first | rfl | omega) b18 rfl rfl)<|zA (zAo rfl rfl)<|zF ?_
   refine zW h rfl (fun b19 h => ?_) (fun b19 h => ?_)
   ·refine zH<|zC<|zA (zD rfl)<|zF<|zb ?_
    cases h
    exact zv (zAI rfl rfl)
   refine zQ<|zC<|zA (zB rfl)<|zM h fun b20 h=>zA (zg rfl rfl b20)<|zA (zD rfl) ?_
   refine zF ?_
   exact ⟨(i3+1),zAD [0,1] rfl rfl (by kernel_rfl),h⟩
  refine zz ?_
  exact ⟨(),zAD [0] rfl rfl (by kernel_rfl),h⟩
 clear h
 intro _ h
 unfold zFE at h
 refine zx (r:=r) (fun (_:Unit)=>mkE []) (fun _=>[]) (fun _=>zJ5 ) ?_ ?_
 ·
  refine zH<|zC<|zA (zD rfl)<|zF<|zR<|zt (σ:=Int) (fun i1=>mkE [(1,(AV.ptr 0 0)),(6,(li i1))]) (fun i1=>[.box 51 (zO A)]) (fun n0 i1=>zB3 A n0 i1) 0 h (fun _=>rfl) (zAD [0] rfl rfl (by kernel_rfl)) ?_
  clear h
  intro n0 i1 h
  replace h:zEG A (zB3 A n0) i1=some r:=h
  unfold zEG at h
  refine zH<|zH<|zC<|zA (zB rfl)<|zA (zh rfl rfl)<|zF ?_
  refine zW h rfl (fun b3 h => ?_) (fun b3 h => ?_)
  ·refine zQ ?_
   refine zx (r:=r) (fun (_:Unit)=>mkE [(1,(AV.ptr 0 0)),(6,(li i1))]) (fun _=>[.box 51 (zO A)]) (fun _=>zIF (zB3 A n0) i1) ?_ ?_
   ·
    refine zR<|zH<|zC<|zA (zD rfl)<|zF<|zR ?_
    refine zt (σ:=Int) (fun i2=>mkE [(1,(AV.ptr 0 0)),(6,(li i1)),(7,(li i2))]) (fun i2=>[.box 51 (zO A)]) (fun n1 i2=>zB1 (zB3 A n0) A i1 n1 i2) 1 h (fun _=>rfl) (zAD [0] rfl rfl (by kernel_rfl)) ?_
    clear h
    intro n1 i2 h
    replace h:zD9 (zB3 A n0) A i1 (zB1 (zB3 A n0) A i1 n1) i2=some r:=h
    unfold zD9 at h
    refine zH<|zH<|zC<|zA (zB rfl)<|zA (zB rfl)<|zA (zK Tryz.underlying51 rfl rfl Tryz.sizeOf49 rfl) ?_
    refine zM h fun b5 h=>zA (zAG (m:=5) (s:=1) (i:=i1) (k:=0) (o:=5) Tryz.underlying49 Tryz.sizeOf22 rfl rfl b5)<|zA (zAr (k:=0) (o:=(5+i1.toNat*1)) (cs:=(zO A)) (hd:=([li A.node]++[li A.kind]++[li A.start]++[li A.count]++[li A.min]++[])) (tl:=([])) (g:=(eS cI)) (d0:=([]:List Int)) (l:=A.free) (N:=5) (i:=i1.toNat) (a:=(ls cI (A.free.getD i1.toNat ([]:List Int)))) Tryz.isAgg22 rfl rfl rfl (congrArg (fun q=>5+q) (Nat.mul_one _)) (zBK b5).2 rfl rfl)<|zA (zY Tryz.underlying22 rfl)<|zA (zh rfl rfl)<|zF ?_
    refine zW h rfl (fun b6 h => ?_) (fun b6 h => ?_)
    ·refine zQ<|zH<|zR<|zH<|zM h fun b7 h=>zM h fun b8 h => ?_
     refine zM h fun b9 h=>zM h fun b10 h=>zM h fun b11 h=>zM h fun b12 h=>zM h fun b13 h=>zM h fun b14 h => ?_
     refine zP h fun x4 w4 h => ?_
     refine zAm (n:=76) (m:=0) [.head 0 0,.head 0 0,.head 0 0,.head 0 0,.head 0 0,.head 0 0,.head 0 0,.head 0 0,.head 0 0,.head 0 0,.head 0 0,.head 0 0,.head 0 0,.head 0 0,.head 0 0,.head 0 0,.head 0 0,.head 0 0,.head 0 0,.head 0 0,.head 0 0,.head 0 0,.head 0 0,.head 0 0,.head 0 0,.head 0 0,.head 0 0,.head 0 0,.head 0 0,.head 0 0,.head 0 0,.head 0 0,.head 0 0,.head 0 0] [] [li i1,AV.ptr 0 5,(AV.ptr 0 (5+i1.toNat*1)),(ls cI (A.free.getD i1.toNat ([]:List Int))),li i2,(AV.rp (cI (at_ (A.free.getD i1.toNat ([]:List Int)) i2)) 0),(li (at_ (A.free.getD i1.toNat ([]:List Int)) i2)),li i1,AV.ptr 0 5,(AV.ptr 0 (5+i1.toNat*1)),(ls cI (A.free.getD i1.toNat ([]:List Int))),li i2,(li (i2 - 1)),(AV.rp (cI (at_ (A.free.getD i1.toNat ([]:List Int)) (i2 - 1))) 0),(li (at_ (A.free.getD i1.toNat ([]:List Int)) (i2 - 1))),li i1,(AV.lit (.int .u64 i1)),(li ((1:Int)*2 ^ i1.toNat)),(li ((at_ (A.free.getD i1.toNat ([]:List Int)) (i2 - 1))+((1:Int)*2 ^ i1.toNat))),(AV.lit (.bool (decide ((at_ (A.free.getD i1.toNat ([]:List Int)) i2)=((at_ (A.free.getD i1.toNat ([]:List Int)) (i2 - 1))+((1:Int)*2 ^ i1.toNat)))))),(AV.lit (.bool (decide ((at_ (A.free.getD i1.toNat ([]:List Int)) i2)=((at_ (A.free.getD i1.toNat ([]:List Int)) (i2 - 1))+((1:Int)*2 ^ i1.toNat)))))),(bif decide ((at_ (A.free.getD i1.toNat ([]:List Int)) i2)=((at_ (A.free.getD i1.toNat ([]:List Int)) (i2 - 1))+((1:Int)*2 ^ i1.toNat))) then (AV.agg (zO A)) else .lit undef),(bif decide ((at_ (A.free.getD i1.toNat ([]:List Int)) i2)=((at_ (A.free.getD i1.toNat ([]:List Int)) (i2 - 1))+((1:Int)*2 ^ i1.toNat))) then (li i1) else .lit undef),(bif decide ((at_ (A.free.getD i1.toNat ([]:List Int)) i2)=((at_ (A.free.getD i1.toNat ([]:List Int)) (i2 - 1))+((1:Int)*2 ^ i1.toNat))) then (AV.ptr 0 5) else .lit undef),(bif decide ((at_ (A.free.getD i1.toNat ([]:List Int)) i2)=((at_ (A.free.getD i1.toNat ([]:List Int)) (i2 - 1))+((1:Int)*2 ^ i1.toNat))) then (AV.ptr 0 (5+i1.toNat*1)) else .lit undef),(bif decide ((at_ (A.free.getD i1.toNat ([]:List Int)) i2)=((at_ (A.free.getD i1.toNat ([]:List Int)) (i2 - 1))+((1:Int)*2 ^ i1.toNat))) then (ls cI (A.free.getD i1.toNat ([]:List Int))) else .lit undef),(bif decide ((at_ (A.free.getD i1.toNat ([]:List Int)) i2)=((at_ (A.free.getD i1.toNat ([]:List Int)) (i2 - 1))+((1:Int)*2 ^ i1.toNat))) then (li i2) else .lit undef),(bif decide ((at_ (A.free.getD i1.toNat ([]:List Int)) i2)=((at_ (A.free.getD i1.toNat ([]:List Int)) (i2 - 1))+((1:Int)*2 ^ i1.toNat))) then (li (i2 - 1)) else .lit undef),(bif decide ((at_ (A.free.getD i1.toNat ([]:List Int)) i2)=((at_ (A.free.getD i1.toNat ([]:List Int)) (i2 - 1))+((1:Int)*2 ^ i1.toNat))) then (AV.rp (cI (at_ (A.free.getD i1.toNat ([]:List Int)) (i2 - 1))) 0) else .lit undef),(bif decide ((at_ (A.free.getD i1.toNat ([]:List Int)) i2)=((at_ (A.free.getD i1.toNat ([]:List Int)) (i2 - 1))+((1:Int)*2 ^ i1.toNat))) then (li (at_ (A.free.getD i1.toNat ([]:List Int)) (i2 - 1))) else .lit undef),(bif decide ((at_ (A.free.getD i1.toNat ([]:List Int)) i2)=((at_ (A.free.getD i1.toNat ([]:List Int)) (i2 - 1))+((1:Int)*2 ^ i1.toNat))) then (li i1) else .lit undef),(bif decide ((at_ (A.free.getD i1.toNat ([]:List Int)) i2)=((at_ (A.free.getD i1.toNat ([]:List Int)) (i2 - 1))+((1:Int)*2 ^ i1.toNat))) then (li (i1+1)) else .lit undef),(bif decide ((at_ (A.free.getD i1.toNat ([]:List Int)) i2)=((at_ (A.free.getD i1.toNat ([]:List Int)) (i2 - 1))+((1:Int)*2 ^ i1.toNat))) then (AV.lit (.bool x4)) else .lit undef),(AV.lit (.bool ((decide ((at_ (A.free.getD i1.toNat ([]:List Int)) i2)=((at_ (A.free.getD i1.toNat ([]:List Int)) (i2 - 1))+((1:Int)*2 ^ i1.toNat))))&&x4)))] [[.box 51 (zO A)]] (by kernel_rfl) (by kernel_rfl) ⟨D1 fun e s p=>zB (s 6 rfl),D1 fun e s p=>zK (k:=0) (o:=0) (off:=5) Tryz.underlying51 rfl rfl Tryz.sizeOf49 (s 1 rfl),D1 fun e s p=>zAG (m:=5) (s:=1) (i:=i1) (k:=0) (o:=5) Tryz.underlying49 Tryz.sizeOf22 p.1 p.2.1 b5,D1 fun e s p=>zAr (k:=0) (o:=(5+i1.toNat*1)) (cs:=(zO A)) (hd:=([li A.node]++[li A.kind]++[li A.start]++[li A.count]++[li A.min]++[])) (tl:=([])) (g:=(eS cI)) (d0:=([]:List Int)) (l:=A.free) (N:=5) (i:=i1.toNat) (a:=(ls cI (A.free.getD i1.toNat ([]:List Int)))) Tryz.isAgg22 p.1 rfl rfl (congrArg (fun q=>5+q) (Nat.mul_one _)) (zBK b5).2 rfl rfl,D1 fun e s p=>zB (s 7 rfl),D1 fun e s p=>zV (f:=cI) (l:=A.free.getD i1.toNat ([]:List Int)) (i:=i2) Tryz.underlying22 Tryz.sizeOf3 (fun _=>rfl) p.1 p.2.1 b7,D1 fun e s p=>zU (o:=0) Tryz.isAgg3 p.1 rfl,D1 fun e s p=>zB (s 6 rfl),D1 fun e s p=>zK (k:=0) (o:=0) (off:=5) Tryz.underlying51 rfl rfl Tryz.sizeOf49 (s 1 rfl),D1 fun e s p=>zAG (m:=5) (s:=1) (i:=i1) (k:=0) (o:=5) Tryz.underlying49 Tryz.sizeOf22 p.1 p.2.1 b5,D1 fun e s p=>zAr (k:=0) (o:=(5+i1.toNat*1)) (cs:=(zO A)) (hd:=([li A.node]++[li A.kind]++[li A.start]++[li A.count]++[li A.min]++[])) (tl:=([])) (g:=(eS cI)) (d0:=([]:List Int)) (l:=A.free) (N:=5) (i:=i1.toNat) (a:=(ls cI (A.free.getD i1.toNat ([]:List Int)))) Tryz.isAgg22 p.1 rfl rfl (congrArg (fun q=>5+q) (Nat.mul_one _)) (zBK b5).2 rfl rfl,D1 fun e s p=>zB (s 7 rfl),D1 fun e s p=>zBa (a:=i2) (b:=1) p.1 rfl b8,D1 fun e s p=>zV (f:=cI) (l:=A.free.getD i1.toNat ([]:List Int)) (i:=i2 - 1) Tryz.underlying22 Tryz.sizeOf3 (fun _=>rfl) p.1 p.2.1 b9,D1 fun e s p=>zU (o:=0) Tryz.isAgg3 p.1 rfl,D1 fun e s p=>zB (s 6 rfl),D1 fun e s p=>zFl (k' := .u64) (a:=i1) Tryz.underlying3 Tryz.underlying74 p.1 b10,D1 fun e s p=>zCx (a:=1) (b:=i1) rfl p.1 b11 b12,D1 fun e s p=>zg (a:=at_ (A.free.getD i1.toNat ([]:List Int)) (i2 - 1)) (b:=(1:Int)*2 ^ i1.toNat) p.1 p.2.1 b13,D1 fun e s p=>zA8 (a:=at_ (A.free.getD i1.toNat ([]:List Int)) i2) (b:=(at_ (A.free.getD i1.toNat ([]:List Int)) (i2 - 1))+((1:Int)*2 ^ i1.toNat)) p.1 p.2.1,D1 fun e s p=>zB p.1,?_,?_,?_,?_,?_,?_,?_,?_,?_,?_,?_,?_,D1 fun e s p=>z6 (s:=decide ((at_ (A.free.getD i1.toNat ([]:List Int)) i2)=((at_ (A.free.getD i1.toNat ([]:List Int)) (i2 - 1))+((1:Int)*2 ^ i1.toNat)))) (q:=x4) (j := .lit undef) p.1 p.2.1,trivial⟩ ?_
     ·
      intro e22 s22 p22
      refine zo (g:=62) (s:=decide ((at_ (A.free.getD i1.toNat ([]:List Int)) i2)=((at_ (A.free.getD i1.toNat ([]:List Int)) (i2 - 1))+((1:Int)*2 ^ i1.toNat)))) rfl p22.1 (fun c13=>zq.step (zS (k:=0) (o:=0) (m:=10) (la:=(zO A)) Tryz.isAgg51 Tryz.sizeOf51 (s22 1 rfl) rfl rfl rfl rfl)) ?_
      exact zF ⟨fun _=>rfl,rfl⟩
     ·
      intro e23 s23 p23
      refine zo (g:=62) (s:=decide ((at_ (A.free.getD i1.toNat ([]:List Int)) i2)=((at_ (A.free.getD i1.toNat ([]:List Int)) (i2 - 1))+((1:Int)*2 ^ i1.toNat)))) rfl p23.1 (fun c14=>zq.step (zB (av:=(li i1)) (s23 6 rfl))) ?_
      exact zF ⟨fun _=>rfl,rfl⟩
     ·
      intro e24 s24 p24
      refine zo (g:=62) (s:=decide ((at_ (A.free.getD i1.toNat ([]:List Int)) i2)=((at_ (A.free.getD i1.toNat ([]:List Int)) (i2 - 1))+((1:Int)*2 ^ i1.toNat)))) rfl p24.1 (fun c15=>zq.step (zK (k:=0) (o:=0) (off:=5) Tryz.underlying51 rfl rfl Tryz.sizeOf49 (s24 1 rfl))) ?_
      exact zF ⟨fun _=>rfl,rfl⟩
     ·
      intro e25 s25 p25
      refine zo (g:=62) (s:=decide ((at_ (A.free.getD i1.toNat ([]:List Int)) i2)=((at_ (A.free.getD i1.toNat ([]:List Int)) (i2 - 1))+((1:Int)*2 ^ i1.toNat)))) rfl p25.2.2.1 (fun c16=>zq.step (zAG (m:=5) (s:=1) (i:=i1) (k:=0) (o:=5) Tryz.underlying49 Tryz.sizeOf22 (z8 p25.1 c16) (z8 p25.2.1 c16) b5)) ?_
      exact zF ⟨fun _=>rfl,rfl⟩
     ·
      intro e26 s26 p26
      refine zo (g:=62) (s:=decide ((at_ (A.free.getD i1.toNat ([]:List Int)) i2)=((at_ (A.free.getD i1.toNat ([]:List Int)) (i2 - 1))+((1:Int)*2 ^ i1.toNat)))) rfl p26.2.1 (fun c17=>zq.step (zAr (k:=0) (o:=(5+i1.toNat*1)) (cs:=(zO A)) (hd:=([li A.node]++[li A.kind]++[li A.start]++[li A.count]++[li A.min]++[])) (tl:=([])) (g:=(eS cI)) (d0:=([]:List Int)) (l:=A.free) (N:=5) (i:=i1.toNat) (a:=(ls cI (A.free.getD i1.toNat ([]:List Int)))) Tryz.isAgg22 (z8 p26.1 c17) rfl rfl (congrArg (fun q=>5+q) (Nat.mul_one _)) (zBK b5).2 rfl rfl)) ?_
      exact zF ⟨fun _=>rfl,rfl⟩
     ·
      intro e27 s27 p27
      refine zo (g:=62) (s:=decide ((at_ (A.free.getD i1.toNat ([]:List Int)) i2)=((at_ (A.free.getD i1.toNat ([]:List Int)) (i2 - 1))+((1:Int)*2 ^ i1.toNat)))) rfl p27.1 (fun c18=>zq.step (zB (av:=(li i2)) (s27 7 rfl))) ?_
      exact zF ⟨fun _=>rfl,rfl⟩
     ·
      intro e28 s28 p28
      refine zo (g:=62) (s:=decide ((at_ (A.free.getD i1.toNat ([]:List Int)) i2)=((at_ (A.free.getD i1.toNat ([]:List Int)) (i2 - 1))+((1:Int)*2 ^ i1.toNat)))) rfl p28.2.1 (fun c19=>zq.step (zBa (a:=i2) (b:=1) (z8 p28.1 c19) rfl b8)) ?_
      exact zF ⟨fun _=>rfl,rfl⟩
     ·
      intro e29 s29 p29
      refine zo (g:=62) (s:=decide ((at_ (A.free.getD i1.toNat ([]:List Int)) i2)=((at_ (A.free.getD i1.toNat ([]:List Int)) (i2 - 1))+((1:Int)*2 ^ i1.toNat)))) rfl p29.2.2.1 (fun c20=>zq.step (zV (f:=cI) (l:=A.free.getD i1.toNat ([]:List Int)) (i:=i2 - 1) Tryz.underlying22 Tryz.sizeOf3 (fun _=>rfl) (z8 p29.1 c20) (z8 p29.2.1 c20) b9)) ?_
      exact zF ⟨fun _=>rfl,rfl⟩
     ·
      intro e30 s30 p30
      refine zo (g:=62) (s:=decide ((at_ (A.free.getD i1.toNat ([]:List Int)) i2)=((at_ (A.free.getD i1.toNat ([]:List Int)) (i2 - 1))+((1:Int)*2 ^ i1.toNat)))) rfl p30.2.1 (fun c21=>zq.step (zU (row:=(cI (at_ (A.free.getD i1.toNat ([]:List Int)) (i2 - 1)))) (o:=0) (a:=(li (at_ (A.free.getD i1.toNat ([]:List Int)) (i2 - 1)))) Tryz.isAgg3 (z8 p30.1 c21) rfl)) ?_
      exact zF ⟨fun _=>rfl,rfl⟩
     ·
      intro e31 s31 p31
      refine zo (g:=62) (s:=decide ((at_ (A.free.getD i1.toNat ([]:List Int)) i2)=((at_ (A.free.getD i1.toNat ([]:List Int)) (i2 - 1))+((1:Int)*2 ^ i1.toNat)))) rfl p31.1 (fun c22=>zq.step (zB (av:=(li i1)) (s31 6 rfl))) ?_
      exact zF ⟨fun _=>rfl,rfl⟩
     ·
      intro e32 s32 p32
      refine zo (g:=62) (s:=decide ((at_ (A.free.getD i1.toNat ([]:List Int)) i2)=((at_ (A.free.getD i1.toNat ([]:List Int)) (i2 - 1))+((1:Int)*2 ^ i1.toNat)))) rfl p32.2.1 (fun c23=>zq.step (zg (a:=i1) (b:=1) (z8 p32.1 c23) rfl (zHd b14 c23))) ?_
      exact zF ⟨fun _=>rfl,rfl⟩
     ·
      intro e33 s33 p33
      refine zCU (g:=62) (s:=decide ((at_ (A.free.getD i1.toNat ([]:List Int)) i2)=((at_ (A.free.getD i1.toNat ([]:List Int)) (i2 - 1))+((1:Int)*2 ^ i1.toNat)))) (r':=(AV.lit (.bool x4))) rfl p33.2.2.2.2.1 (fun c24=>⟨72,_,_,[],[(AV.agg (zO A)),(li (at_ (A.free.getD i1.toNat ([]:List Int)) (i2 - 1))),(li (i1+1))],[(AV.agg (zO A)),(li (at_ (A.free.getD i1.toNat ([]:List Int)) (i2 - 1))),(li (i1+1))],(AV.lit (.bool x4)),[],Tryz.func72,rfl,by kernel_rfl,.fn 72,(zAL (z8 p33.1 c24) (zAL (z8 p33.2.1 c24) (zAL (z8 p33.2.2.1 c24) rfl))),⟨zAl.nr rfl,zAl.nr rfl,zAl.nr rfl,trivial⟩,zFF (zFy c24 w4),.inl rfl,rfl⟩) ?_
      exact zF ⟨fun _=>rfl,rfl⟩
     intro e35 s35 hq1
     refine zAS (zBI (l:=[(1,(AV.ptr 0 0)),(6,(li i1)),(7,(li i2)),(75,(AV.lit (.bool ((decide ((at_ (A.free.getD i1.toNat ([]:List Int)) i2)=((at_ (A.free.getD i1.toNat ([]:List Int)) (i2 - 1))+((1:Int)*2 ^ i1.toNat))))&&x4))))]) ⟨s35 1 rfl,s35 6 rfl,s35 7 rfl,(hq1 33 (by decide) (by decide)),trivial⟩) ?_
     refine zW h rfl (fun b15 h => ?_) (fun b15 h => ?_)
     ·refine zH<|zC<|zA (zD rfl)<|zF<|zb ?_
      cases h
      exact zv (zAI rfl rfl)
     refine zQ<|zC<|zA (zB rfl)<|zM h fun b16 h=>zA (zg rfl rfl b16)<|zA (zD rfl) ?_
     refine zF ?_
     exact ⟨(i2+1),zAD [0] rfl rfl (by kernel_rfl),h⟩
    refine zz ?_
    exact ⟨(),zAD [0] rfl rfl (by kernel_rfl),h⟩
   clear h
   intro _ h
   unfold zIF at h
   refine zC<|zA (zB rfl)<|zM h fun b4 h=>zA (zg rfl rfl b4)<|zA (zD rfl)<|zF ?_
   exact ⟨(i1+1),zAD [0] rfl rfl (by kernel_rfl),h⟩
  refine zz ?_
  exact ⟨(),zAD [] rfl rfl (by kernel_rfl),h⟩
 clear h
 intro _ h
 unfold zJ5 at h
 refine zH<|zC<|zA (zD rfl)<|zF<|zb ?_
 cases h
 exact zv (zAI rfl rfl)
theorem zKs {uC:Int} {r:Bool} (h:zFw uC=some r):PFn Tryz.prog 123 [li uC] (AV.lit (.bool r)):=by
 refine zm Tryz.func123 rfl Tryz.ntmps123 Tryz.results123 rfl ?_
 unfold zFw at h
 refine zH<|zC<|zA (zD rfl)<|zF<|zH<|zC ?_
 refine zA (zB rfl)<|zA (zh rfl rfl)<|zA (zB rfl)<|zZ rfl rfl (fun c1=>zq.step (zB rfl))<|zZ rfl rfl (fun c2=>zq.step (zAu (z8 rfl c2) rfl))<|zA (zj rfl rfl) ?_
 refine zA (zD rfl)<|zF<|zb ?_
 cases h
 exact zv (zAI rfl rfl)
theorem zLw {A:zL} {D:Int} {r:Int} (h:zHr A D=some r):PFn Tryz.prog 96 [(AV.agg (zI A)),li D] (li r):=by
 refine zm Tryz.func96 rfl Tryz.ntmps96 Tryz.results96 rfl ?_
 unfold zHr at h
 refine zH<|zC<|zX (H':=[.box 55 (zI A)]) (zu (t:=55) rfl)<|zA (zD rfl)<|zF<|zH ?_
 refine zH<|zC<|zA (zB rfl)<|zA (zh rfl rfl)<|zA (zB rfl)<|zZ rfl rfl (fun c1=>zq.step (zB rfl)) ?_
 refine zZ rfl rfl (fun c2=>zq.step (zAo (z8 rfl c2) rfl))<|zA (zj rfl rfl)<|zF ?_
 refine zW h rfl (fun b1 h => ?_) (fun b1 h => ?_)
 ·refine zH<|zC<|zA (zD rfl)<|zF<|zb ?_
  cases h
  exact zv (zAI rfl rfl)
 refine zQ<|zH<|zH<|zC<|zA (zK Tryz.underlying55 rfl rfl Tryz.sizeOf53 rfl)<|zA (zN Tryz.isAgg53 rfl rfl rfl rfl) ?_
 refine zA (zY Tryz.underlying53 rfl)<|zA (zB rfl)<|zA (z7 rfl rfl)<|zF ?_
 refine zW h rfl (fun b2 h => ?_) (fun b2 h => ?_)
 ·refine zH<|zC<|zA (zD rfl)<|zF<|zb ?_
  cases h
  exact zv (zAI rfl rfl)
 refine zQ ?_
 refine zx (r:=r) (fun (_:Unit)=>mkE [(2,(AV.ptr 0 0))]) (fun _=>[.box 55 (zI A)]) (fun _=>zGP A) ?_ ?_
 ·
  refine zH<|zC<|zA (zK Tryz.underlying55 rfl rfl Tryz.sizeOf53 rfl)<|zA (zN Tryz.isAgg53 rfl rfl rfl rfl)<|zA (zY Tryz.underlying53 rfl)<|zA (zB rfl) ?_
  refine zF<|zR<|zt (σ:=Int) (fun i3=>mkE [(2,(AV.ptr 0 0)),(26,(ls (cS cI) A.lists)),(27,(li (A.lists.length:Int))),(28,(li i3))]) (fun i3=>[.box 55 (zI A)]) (fun n2 i3=>zCm A n2 i3) 0 h (fun _=>rfl) (zAD [0] rfl rfl (by kernel_rfl)) ?_
  clear h
  intro n2 i3 h
  replace h:zD4 A (zCm A n2) i3=some r:=h
  unfold zD4 at h
  refine zH<|zC<|zA (zh rfl rfl)<|zF<|zH ?_
  refine zW h rfl (fun b12 h => ?_) (fun b12 h => ?_)
  ·refine zQ ?_
   refine zx (r:=r) (fun (_:Unit)=>mkE [(2,(AV.ptr 0 0)),(26,(ls (cS cI) A.lists)),(27,(li (A.lists.length:Int))),(28,(li i3))]) (fun _=>[.box 55 (zI A)]) (fun _=>zIG (zCm A n2) i3) ?_ ?_
   ·
    refine zR<|zH<|zC<|zM h fun b14 h=>zA (zV Tryz.underlying53 Tryz.sizeOf22 (fun _=>rfl) rfl rfl b14)<|zA (zU (o:=0) Tryz.isAgg22 rfl rfl) ?_
    refine zA (zD rfl)<|zF<|zH<|zC<|zA (zB rfl)<|zA (zY Tryz.underlying22 rfl) ?_
    refine zA (zB rfl)<|zF<|zR<|zt (σ:=Int) (fun i4=>mkE [(2,(AV.ptr 0 0)),(26,(ls (cS cI) A.lists)),(27,(li (A.lists.length:Int))),(28,(li i3)),(32,(ls cI (at_ A.lists i3))),(33,(li ((at_ A.lists i3).length:Int))),(34,(li i4))]) (fun i4=>[.box 55 (zI A)]) (fun n3 i4=>zGS (zCm A n2) A i3 n3 i4) 0 h (fun _=>rfl) (zAD [0] rfl rfl (by kernel_rfl)) ?_
    clear h
    intro n3 i4 h
    replace h:zD0 (zCm A n2) A i3 (zGS (zCm A n2) A i3 n3) i4=some r:=h
    unfold zD0 at h
    refine zH<|zC<|zA (zh rfl rfl)<|zF<|zH ?_
    refine zW h rfl (fun b15 h => ?_) (fun b15 h => ?_)
    ·refine zQ<|zH<|zR<|zH<|zC<|zM h fun b16 h => ?_
     refine zA (zV Tryz.underlying22 Tryz.sizeOf3 (fun _=>rfl) rfl rfl b16)<|zA (zU (o:=0) Tryz.isAgg3 rfl rfl)<|zA (zD rfl)<|zF<|zH<|zC ?_
     refine zA (zB rfl)<|zP h fun x1 w1 h=>ze Tryz.func123 rfl (by kernel_rfl) (.fn 123) rfl rfl (zKs w1) rfl<|zF ?_
     refine zW h rfl (fun b17 h => ?_) (fun b17 h => ?_)
     ·refine zH<|zC<|zA (zD rfl)<|zF<|zb ?_
      cases h
      exact zv (zAI rfl rfl)
     refine zQ<|zC<|zM h fun b18 h=>zA (zg rfl rfl b18)<|zA (zB rfl)<|zF ?_
     exact ⟨(i4+1),zAD [0] rfl rfl (by kernel_rfl),h⟩
    refine zz ?_
    exact ⟨(),zAD [0] rfl rfl (by kernel_rfl),h⟩
   clear h
   intro _ h
   unfold zIG at h
   refine zC<|zM h fun b13 h=>zA (zg rfl rfl b13)<|zA (zB rfl)<|zF ?_
   exact ⟨(i3+1),zAD [0] rfl rfl (by kernel_rfl),h⟩
  refine zz ?_
  exact ⟨(),zAD [0] rfl rfl (by kernel_rfl),h⟩
 clear h
 intro _ h
 unfold zGP at h
 refine zH<|zC<|zM h fun b3 h=>zEU (f:=cB) (a:=256) (c:=256) (d0:=false) zW3 ⟨zAx.refl _,trivial⟩ rfl Tryz.underlying121 rfl rfl b3<|zA (zD rfl)<|zF ?_
 refine zx (r:=r) (fun (_:Unit)=>mkE []) (fun _=>[]) (fun _=>zJ9 ) ?_ ?_
 ·
  refine zH<|zC<|zA (zK Tryz.underlying55 rfl rfl Tryz.sizeOf53 rfl)<|zA (zN Tryz.isAgg53 rfl rfl rfl rfl)<|zA (zY Tryz.underlying53 rfl)<|zA (zB rfl) ?_
  refine zF<|zR<|zt (σ:=Int×(List Bool)) (fun (i1,l1)=>mkE [(9,(AV.hd 0)),(44,(ls (cS cI) A.lists)),(45,(li (A.lists.length:Int))),(46,(li i1))]) (fun (i1,l1)=>[.vec 4 1 (List.map cB l1)]) (fun n0 (i1,l1)=>zCi A n0 i1 l1) (0,(List.replicate (256:Int).toNat false)) h (fun _=>rfl) (zAD [1] rfl rfl (by kernel_rfl)) ?_
  clear h
  rintro n0 ⟨i1,l1⟩ h
  replace h:zEJ A (zCi A n0) i1 l1=some r:=h
  unfold zEJ at h
  refine zH<|zC<|zA (zh rfl rfl)<|zF<|zH ?_
  refine zW h rfl (fun b4 h => ?_) (fun b4 h => ?_)
  ·refine zQ ?_
   refine zx (r:=r) (fun (l2:List Bool)=>mkE [(9,(AV.hd 0)),(44,(ls (cS cI) A.lists)),(45,(li (A.lists.length:Int))),(46,(li i1))]) (fun l2=>[.vec 4 1 (List.map cB l2)]) (fun l2=>zID (zCi A n0) i1 l2) ?_ ?_
   ·
    refine zR<|zH<|zC<|zM h fun b6 h=>zA (zV Tryz.underlying53 Tryz.sizeOf22 (fun _=>rfl) rfl rfl b6)<|zA (zU (o:=0) Tryz.isAgg22 rfl rfl) ?_
    refine zA (zD rfl)<|zF<|zH<|zC<|zA (zB rfl)<|zA (zY Tryz.underlying22 rfl) ?_
    refine zA (zB rfl)<|zF<|zR<|zt (σ:=Int×(List Bool)) (fun (i2,l3)=>mkE [(9,(AV.hd 0)),(44,(ls (cS cI) A.lists)),(45,(li (A.lists.length:Int))),(46,(li i1)),(50,(ls cI (at_ A.lists i1))),(51,(li ((at_ A.lists i1).length:Int))),(52,(li i2))]) (fun (i2,l3)=>[.vec 4 1 (List.map cB l3)]) (fun n1 (i2,l3)=>zGG (zCi A n0) A i1 n1 i2 l3) (0,l1) h (fun _=>rfl) (zAD [0] rfl rfl (by kernel_rfl)) ?_
    clear h
    rintro n1 ⟨i2,l3⟩ h
    replace h:zDz (zCi A n0) A i1 (zGG (zCi A n0) A i1 n1) i2 l3=some r:=h
    unfold zDz at h
    refine zH<|zC<|zA (zh rfl rfl)<|zF<|zH ?_
    refine zW h rfl (fun b7 h => ?_) (fun b7 h => ?_)
    ·refine zQ<|zH<|zR<|zH<|zC<|zM h fun b8 h => ?_
     refine zA (zV Tryz.underlying22 Tryz.sizeOf3 (fun _=>rfl) rfl rfl b8)<|zA (zU (o:=0) Tryz.isAgg3 rfl rfl)<|zA (zD rfl)<|zF<|zH<|zH ?_
     refine zC<|zA (zB rfl)<|zA (zB rfl)<|zM h fun b9 h=>zA (zy (f:=cB) (l:=l3) (i:=at_ (at_ A.lists i1) i2) Tryz.underlying121 Tryz.sizeOf4 rfl rfl rfl b9)<|zA (zA3 (f:=cB) (l:=l3) (i:=at_ (at_ A.lists i1) i2) (c:=0) (a:=(AV.lit (.bool (at_ l3 (at_ (at_ A.lists i1) i2))))) Tryz.isAgg4 rfl rfl (by first | rfl | omega) b9 rfl rfl) ?_
     refine zF ?_
     refine zW h rfl (fun b10 h => ?_) (fun b10 h => ?_)
     ·refine zH<|zC<|zA (zD rfl)<|zF<|zb ?_
      cases h
      exact zv (zAI rfl rfl)
     refine zQ<|zC<|zA (zB rfl)<|zA (zB rfl)<|zA (zy (f:=cB) (l:=l3) (i:=at_ (at_ A.lists i1) i2) Tryz.underlying121 Tryz.sizeOf4 rfl rfl rfl b9)<|zd (H':=[.vec 4 1 (List.map cB (l3.set (at_ (at_ A.lists i1) i2).toNat true))]) (zBZ (k:=0) (o:=((at_ (at_ A.lists i1) i2).toNat*1)) (f:=cB) (l:=l3) (i:=at_ (at_ A.lists i1) i2) (c:=0) (a:=(AV.lit (.bool true))) (z:=true) Tryz.sizeOf4 rfl rfl (by first | rfl | omega) b9 rfl rfl rfl rfl rfl) ?_
     refine zF<|zC<|zM h fun b11 h=>zA (zg rfl rfl b11)<|zA (zB rfl)<|zF ?_
     exact ⟨((i2+1),(l3.set (at_ (at_ A.lists i1) i2).toNat true)),zAD [0] rfl rfl (by kernel_rfl),h⟩
    refine zz ?_
    exact ⟨l3,zAD [0] rfl rfl (by kernel_rfl),h⟩
   clear h
   intro l2 h
   unfold zID at h
   refine zC<|zM h fun b5 h=>zA (zg rfl rfl b5)<|zA (zB rfl)<|zF ?_
   exact ⟨((i1+1),l2),zAD [0] rfl rfl (by kernel_rfl),h⟩
  refine zz ?_
  exact ⟨(),zAD [] rfl rfl (by kernel_rfl),h⟩
 clear h
 intro _ h
 unfold zJ9 at h
 refine zH<|zC<|zA (zD rfl)<|zF<|zb ?_
 cases h
 exact zv (zAI rfl rfl)
theorem zLW {C:zi} {Q:Int} {r:Bool} (h:zGp C Q=some r):PFn Tryz.prog 98 [(AV.agg (zO C)),li Q] (AV.lit (.bool r)):=by
 refine zm Tryz.func98 rfl Tryz.ntmps98 Tryz.results98 rfl ?_
 unfold zGp at h
 refine zH<|zC<|zX (H':=[.box 51 (zO C)]) (zu (t:=51) rfl)<|zA (zD rfl)<|zF<|zH ?_
 refine zC<|zA (zS (k:=0) (o:=0) (m:=10) Tryz.isAgg51 Tryz.sizeOf51 rfl rfl rfl rfl rfl)<|zP h fun x1 w1 h=>ze Tryz.func47 rfl (by kernel_rfl) (.fn 47) rfl rfl (zGL w1) rfl<|zA (zA8 rfl rfl)<|zA (zB rfl) ?_
 refine zo rfl rfl (fun c1=>zq.step (zS (k:=0) (o:=0) (m:=10) Tryz.isAgg51 Tryz.sizeOf51 rfl rfl rfl rfl rfl))<|zo rfl rfl (fun c2=>zq.step (zB rfl))<|zP h fun x2 w2 h=>zCU (g:=8) (s:=decide (x1=0)) (r':=(AV.lit (.bool x2))) rfl rfl (fun c3=>⟨72,_,_,[],[(AV.agg (zO C)),li Q,li 0],[(AV.agg (zO C)),li Q,li 0],(AV.lit (.bool x2)),[],Tryz.func72,rfl,by kernel_rfl,.fn 72,(zAL (z8 rfl c3) (zAL (z8 rfl c3) (zAL rfl rfl))),⟨zAl.nr rfl,zAl.nr rfl,zAl.nr rfl,trivial⟩,zFF (zFy c3 w2),.inl rfl,rfl⟩)<|zA (z6 (j := .lit undef) rfl rfl)<|zA (zB rfl) ?_
 refine zo rfl rfl (fun c4=>zq.step (zS (k:=0) (o:=0) (m:=10) Tryz.isAgg51 Tryz.sizeOf51 rfl rfl rfl rfl rfl))<|zP h fun x3 w3 h=>zCU (g:=13) (s:=(decide (x1=0))&&x2) (r':=(ls cI x3)) rfl rfl (fun c5=>⟨95,_,_,[],[(AV.agg (zO C))],[(AV.agg (zO C))],(AV.osl 3 1 (List.map cI x3)),[],Tryz.func95,rfl,by kernel_rfl,.fn 95,(zAL (z8 rfl c5) rfl),⟨zAl.nr rfl,trivial⟩,zIM (zFy c5 w3),.inl rfl,(congrArg (AV.sl false) (zAM (fun _=>rfl)))⟩)<|zo rfl rfl (fun c6=>zq.step (zB rfl))<|zM h fun b1 h=>zo rfl rfl (fun c7=>zq.step (zV Tryz.underlying22 Tryz.sizeOf3 (fun _=>rfl) (z8 rfl c7) (z8 rfl c7) (zHd b1 c7))) ?_
 refine zo rfl rfl (fun c8=>zq.step (zU (o:=0) Tryz.isAgg3 (z8 rfl c8) rfl))<|zo rfl rfl (fun c9=>zq.step (zAo (z8 rfl c9) rfl))<|zA (z6 (j := .lit undef) rfl rfl)<|zA (zD rfl)<|zF<|zb ?_
 cases h
 exact zv (zAI rfl rfl)
theorem zLm {A:zJ} {r:Int} (h:zFz A=some r):PFn Tryz.prog 97 [(AV.agg (zG A))] (li r):=by
 refine zm Tryz.func97 rfl Tryz.ntmps97 Tryz.results97 rfl ?_
 unfold zFz at h
 refine zH<|zC<|zX (H':=[.box 26 (zG A)]) (zu (t:=26) rfl)<|zA (zD rfl)<|zF<|zH ?_
 refine zC<|zM h fun b1 h=>zEU (f:=cB) (a:=256) (c:=256) (d0:=false) zW3 ⟨zAx.refl _,trivial⟩ rfl Tryz.underlying121 rfl rfl b1<|zA (zD rfl)<|zF ?_
 refine zx (r:=r) (fun (_:Unit)=>mkE []) (fun _=>[]) (fun _=>zGB ) ?_ ?_
 ·
  refine zH<|zC<|zA (zD rfl)<|zF<|zR<|zt (σ:=Int×(List Bool)) (fun (i1,l1)=>mkE [(1,(AV.ptr 0 0)),(3,(AV.hd 1)),(4,(li i1))]) (fun (i1,l1)=>[.box 26 (zG A),.vec 4 1 (List.map cB l1)]) (fun n0 (i1,l1)=>zAT A n0 i1 l1) (0,(List.replicate (256:Int).toNat false)) h (fun _=>rfl) (zAD [0,1] rfl rfl (by kernel_rfl)) ?_
  clear h
  rintro n0 ⟨i1,l1⟩ h
  replace h:zBj A (zAT A n0) i1 l1=some r:=h
  unfold zBj at h
  refine zH<|zH<|zC<|zA (zB rfl)<|zA (zK Tryz.underlying26 rfl rfl Tryz.sizeOf24 rfl)<|zA (zN Tryz.isAgg24 rfl rfl rfl rfl) ?_
  refine zA (zY Tryz.underlying24 rfl)<|zA (zh rfl rfl)<|zF ?_
  refine zW h rfl (fun b2 h => ?_) (fun b2 h => ?_)
  ·refine zQ ?_
   refine zx (r:=r) (fun (l2:List Bool)=>mkE [(1,(AV.ptr 0 0)),(3,(AV.hd 1)),(4,(li i1))]) (fun l2=>[.box 26 (zG A),.vec 4 1 (List.map cB l2)]) (fun l2=>zEO (zAT A n0) i1 l2) ?_ ?_
   ·
    refine zR<|zH<|zC<|zA (zD rfl)<|zF<|zR ?_
    refine zt (σ:=Int×(List Bool)) (fun (i2,l3)=>mkE [(1,(AV.ptr 0 0)),(3,(AV.hd 1)),(4,(li i1)),(5,(li i2))]) (fun (i2,l3)=>[.box 26 (zG A),.vec 4 1 (List.map cB l3)]) (fun n1 (i2,l3)=>zAc (zAT A n0) A i1 n1 i2 l3) (0,l1) h (fun _=>rfl) (zAD [0,1] rfl rfl (by kernel_rfl)) ?_
    clear h
    rintro n1 ⟨i2,l3⟩ h
    replace h:zBi (zAT A n0) A i1 (zAc (zAT A n0) A i1 n1) i2 l3=some r:=h
    unfold zBi at h
    refine zH<|zH<|zC<|zA (zB rfl)<|zA (zK Tryz.underlying26 rfl rfl Tryz.sizeOf23 rfl)<|zA (zN Tryz.isAgg23 rfl rfl rfl rfl) ?_
    refine zA (zY Tryz.underlying23 rfl)<|zA (zh rfl rfl)<|zF ?_
    refine zW h rfl (fun b4 h => ?_) (fun b4 h => ?_)
    ·refine zQ ?_
     refine zx (r:=r) (fun (l4:List Bool)=>mkE [(1,(AV.ptr 0 0)),(3,(AV.hd 1)),(4,(li i1)),(5,(li i2))]) (fun l4=>[.box 26 (zG A),.vec 4 1 (List.map cB l4)]) (fun l4=>zER (zAc (zAT A n0) A i1 n1) i2 l4) ?_ ?_
     ·
      refine zR<|zH<|zC<|zA (zK Tryz.underlying26 rfl rfl Tryz.sizeOf24 rfl)<|zA (zN Tryz.isAgg24 rfl rfl rfl rfl)<|zA (zB rfl) ?_
      refine zM h fun b6 h=>zA (zV Tryz.underlying24 Tryz.sizeOf55 (fun _=>rfl) rfl rfl b6)<|zA (zAw (row:=(zI (at_ A.caches i1))) (o:=0) (off:=0) Tryz.underlying55 rfl rfl Tryz.sizeOf53 rfl)<|zA (zU (o:=0) Tryz.isAgg53 rfl rfl)<|zA (zB rfl)<|zM h fun b7 h => ?_
      refine zA (zV Tryz.underlying53 Tryz.sizeOf22 (fun _=>rfl) rfl rfl b7)<|zA (zU (o:=0) Tryz.isAgg22 rfl rfl)<|zA (zD rfl)<|zF<|zH<|zC ?_
      refine zA (zD rfl)<|zF<|zR<|zt (σ:=Int×(List Bool)) (fun (i3,l5)=>mkE [(1,(AV.ptr 0 0)),(3,(AV.hd 1)),(4,(li i1)),(5,(li i2)),(6,(ls cI (at_ ((at_ A.caches i1).lists) i2))),(7,(li i3))]) (fun (i3,l5)=>[.box 26 (zG A),.vec 4 1 (List.map cB l5)]) (fun n2 (i3,l5)=>zCV (zAc (zAT A n0) A i1 n1) A i1 i2 n2 i3 l5) (0,l3) h (fun _=>rfl) (zAD [0,1] rfl rfl (by kernel_rfl)) ?_
      clear h
      rintro n2 ⟨i3,l5⟩ h
      replace h:zBg (zAc (zAT A n0) A i1 n1) A i1 i2 (zCV (zAc (zAT A n0) A i1 n1) A i1 i2 n2) i3 l5=some r:=h
      unfold zBg at h
      refine zH<|zH<|zC<|zA (zB rfl)<|zA (zB rfl)<|zA (zY Tryz.underlying22 rfl) ?_
      refine zA (zh rfl rfl)<|zF ?_
      refine zW h rfl (fun b8 h => ?_) (fun b8 h => ?_)
      ·refine zQ<|zH<|zR<|zH<|zH<|zM h fun b9 h => ?_
       refine zM h fun b10 h=>zM h fun b11 h => ?_
       refine zAm (n:=94) (m:=0) [.head 0 0,.head 0 0,.head 0 0,.head 0 0,.head 0 0,.head 0 0,.head 0 0,.head 0 0,.head 0 0,.head 0 0,.head 0 0,.head 0 0,.head 0 0,.head 0 0,.head 0 0,.head 0 0,.head 0 0,.head 0 0,.head 0 0,.head 0 0,.head 0 0,.head 0 0,.head 0 0,.head 0 0,.head 0 0,.head 0 0,.head 0 0,.head 0 0,.head 0 0,.head 0 0,.head 0 0] [] [(ls cI (at_ ((at_ A.caches i1).lists) i2)),li i3,(AV.rp (cI (at_ (at_ ((at_ A.caches i1).lists) i2) i3)) 0),(li (at_ (at_ ((at_ A.caches i1).lists) i2) i3)),AV.ptr 0 3,ls zO A.zones,li i2,(AV.rp (zO (at_ A.zones i2)) 0),(AV.rp (zO (at_ A.zones i2)) 2),(li ((at_ A.zones i2).start)),(AV.lit (.bool (decide ((at_ (at_ ((at_ A.caches i1).lists) i2) i3)<((at_ A.zones i2).start))))),(AV.lit (.bool (decide ((at_ (at_ ((at_ A.caches i1).lists) i2) i3)<((at_ A.zones i2).start))))),(bif !(decide ((at_ (at_ ((at_ A.caches i1).lists) i2) i3)<((at_ A.zones i2).start))) then (ls cI (at_ ((at_ A.caches i1).lists) i2)) else .lit undef),(bif !(decide ((at_ (at_ ((at_ A.caches i1).lists) i2) i3)<((at_ A.zones i2).start))) then (li i3) else .lit undef),(bif !(decide ((at_ (at_ ((at_ A.caches i1).lists) i2) i3)<((at_ A.zones i2).start))) then (AV.rp (cI (at_ (at_ ((at_ A.caches i1).lists) i2) i3)) 0) else .lit undef),(bif !(decide ((at_ (at_ ((at_ A.caches i1).lists) i2) i3)<((at_ A.zones i2).start))) then (li (at_ (at_ ((at_ A.caches i1).lists) i2) i3)) else .lit undef),(bif !(decide ((at_ (at_ ((at_ A.caches i1).lists) i2) i3)<((at_ A.zones i2).start))) then (AV.ptr 0 3) else .lit undef),(bif !(decide ((at_ (at_ ((at_ A.caches i1).lists) i2) i3)<((at_ A.zones i2).start))) then (ls zO A.zones) else .lit undef),(bif !(decide ((at_ (at_ ((at_ A.caches i1).lists) i2) i3)<((at_ A.zones i2).start))) then (li i2) else .lit undef),(bif !(decide ((at_ (at_ ((at_ A.caches i1).lists) i2) i3)<((at_ A.zones i2).start))) then (AV.rp (zO (at_ A.zones i2)) 0) else .lit undef),(bif !(decide ((at_ (at_ ((at_ A.caches i1).lists) i2) i3)<((at_ A.zones i2).start))) then (AV.rp (zO (at_ A.zones i2)) 2) else .lit undef),(bif !(decide ((at_ (at_ ((at_ A.caches i1).lists) i2) i3)<((at_ A.zones i2).start))) then (li ((at_ A.zones i2).start)) else .lit undef),(bif !(decide ((at_ (at_ ((at_ A.caches i1).lists) i2) i3)<((at_ A.zones i2).start))) then (AV.ptr 0 3) else .lit undef),(bif !(decide ((at_ (at_ ((at_ A.caches i1).lists) i2) i3)<((at_ A.zones i2).start))) then (ls zO A.zones) else .lit undef),(bif !(decide ((at_ (at_ ((at_ A.caches i1).lists) i2) i3)<((at_ A.zones i2).start))) then (li i2) else .lit undef),(bif !(decide ((at_ (at_ ((at_ A.caches i1).lists) i2) i3)<((at_ A.zones i2).start))) then (AV.rp (zO (at_ A.zones i2)) 0) else .lit undef),(bif !(decide ((at_ (at_ ((at_ A.caches i1).lists) i2) i3)<((at_ A.zones i2).start))) then (AV.rp (zO (at_ A.zones i2)) 3) else .lit undef),(bif !(decide ((at_ (at_ ((at_ A.caches i1).lists) i2) i3)<((at_ A.zones i2).start))) then (li ((at_ A.zones i2).count)) else .lit undef),(bif !(decide ((at_ (at_ ((at_ A.caches i1).lists) i2) i3)<((at_ A.zones i2).start))) then (li (((at_ A.zones i2).start)+((at_ A.zones i2).count))) else .lit undef),(bif !(decide ((at_ (at_ ((at_ A.caches i1).lists) i2) i3)<((at_ A.zones i2).start))) then (AV.lit (.bool (decide ((((at_ A.zones i2).start)+((at_ A.zones i2).count))≤(at_ (at_ ((at_ A.caches i1).lists) i2) i3))))) else .lit undef),(AV.lit (.bool ((decide ((at_ (at_ ((at_ A.caches i1).lists) i2) i3)<((at_ A.zones i2).start)))||(decide ((((at_ A.zones i2).start)+((at_ A.zones i2).count))≤(at_ (at_ ((at_ A.caches i1).lists) i2) i3))))))] [[.box 26 (zG A),.vec 4 1 (List.map cB l5)]] (by kernel_rfl) (by kernel_rfl) ⟨D1 fun e s p=>zB (s 6 rfl),D1 fun e s p=>zB (s 7 rfl),D1 fun e s p=>zV (f:=cI) (l:=at_ ((at_ A.caches i1).lists) i2) (i:=i3) Tryz.underlying22 Tryz.sizeOf3 (fun _=>rfl) p.1 p.2.1 b9,D1 fun e s p=>zU (o:=0) Tryz.isAgg3 p.1 rfl,D1 fun e s p=>zK (k:=0) (o:=0) (off:=3) Tryz.underlying26 rfl rfl Tryz.sizeOf23 (s 1 rfl),D1 fun e s p=>zN (k:=0) (o:=3) Tryz.isAgg23 p.1 rfl rfl rfl,D1 fun e s p=>zB (s 5 rfl),D1 fun e s p=>zV (f:=zO) (l:=A.zones) (i:=i2) Tryz.underlying23 Tryz.sizeOf51 (fun _=>rfl) p.1 p.2.1 b10,D1 fun e s p=>zAw (row:=(zO (at_ A.zones i2))) (o:=0) (off:=2) Tryz.underlying51 rfl rfl Tryz.sizeOf3 p.1,D1 fun e s p=>zU (o:=2) Tryz.isAgg3 p.1 rfl,D1 fun e s p=>zh (a:=at_ (at_ ((at_ A.caches i1).lists) i2) i3) (b:=(at_ A.zones i2).start) p.1 p.2.1,D1 fun e s p=>zB p.1,?_,?_,?_,?_,?_,?_,?_,?_,?_,?_,?_,?_,?_,?_,?_,?_,?_,?_,D1 fun e s p=>zj (s:=decide ((at_ (at_ ((at_ A.caches i1).lists) i2) i3)<((at_ A.zones i2).start))) (q:=decide ((((at_ A.zones i2).start)+((at_ A.zones i2).count))≤(at_ (at_ ((at_ A.caches i1).lists) i2) i3))) (j := .lit undef) p.1 p.2.1,trivial⟩ ?_
       ·
        intro e13 s13 p13
        refine zZ (g:=49) (s:=decide ((at_ (at_ ((at_ A.caches i1).lists) i2) i3)<((at_ A.zones i2).start))) rfl p13.1 (fun c19=>zq.step (zB (av:=(ls cI (at_ ((at_ A.caches i1).lists) i2))) (s13 6 rfl))) ?_
        exact zF ⟨fun _=>rfl,rfl⟩
       ·
        intro e14 s14 p14
        refine zZ (g:=49) (s:=decide ((at_ (at_ ((at_ A.caches i1).lists) i2) i3)<((at_ A.zones i2).start))) rfl p14.1 (fun c20=>zq.step (zB (av:=(li i3)) (s14 7 rfl))) ?_
        exact zF ⟨fun _=>rfl,rfl⟩
       ·
        intro e15 s15 p15
        refine zZ (g:=49) (s:=decide ((at_ (at_ ((at_ A.caches i1).lists) i2) i3)<((at_ A.zones i2).start))) rfl p15.2.2.1 (fun c21=>zq.step (zV (f:=cI) (l:=at_ ((at_ A.caches i1).lists) i2) (i:=i3) Tryz.underlying22 Tryz.sizeOf3 (fun _=>rfl) (z8 p15.1 c21) (z8 p15.2.1 c21) b9)) ?_
        exact zF ⟨fun _=>rfl,rfl⟩
       ·
        intro e16 s16 p16
        refine zZ (g:=49) (s:=decide ((at_ (at_ ((at_ A.caches i1).lists) i2) i3)<((at_ A.zones i2).start))) rfl p16.2.1 (fun c22=>zq.step (zU (row:=(cI (at_ (at_ ((at_ A.caches i1).lists) i2) i3))) (o:=0) (a:=(li (at_ (at_ ((at_ A.caches i1).lists) i2) i3))) Tryz.isAgg3 (z8 p16.1 c22) rfl)) ?_
        exact zF ⟨fun _=>rfl,rfl⟩
       ·
        intro e17 s17 p17
        refine zZ (g:=49) (s:=decide ((at_ (at_ ((at_ A.caches i1).lists) i2) i3)<((at_ A.zones i2).start))) rfl p17.1 (fun c23=>zq.step (zK (k:=0) (o:=0) (off:=3) Tryz.underlying26 rfl rfl Tryz.sizeOf23 (s17 1 rfl))) ?_
        exact zF ⟨fun _=>rfl,rfl⟩
       ·
        intro e18 s18 p18
        refine zZ (g:=49) (s:=decide ((at_ (at_ ((at_ A.caches i1).lists) i2) i3)<((at_ A.zones i2).start))) rfl p18.2.1 (fun c24=>zq.step (zN (k:=0) (o:=3) (a:=(ls zO A.zones)) Tryz.isAgg23 (z8 p18.1 c24) rfl rfl rfl)) ?_
        exact zF ⟨fun _=>rfl,rfl⟩
       ·
        intro e19 s19 p19
        refine zZ (g:=49) (s:=decide ((at_ (at_ ((at_ A.caches i1).lists) i2) i3)<((at_ A.zones i2).start))) rfl p19.1 (fun c25=>zq.step (zB (av:=(li i2)) (s19 5 rfl))) ?_
        exact zF ⟨fun _=>rfl,rfl⟩
       ·
        intro e20 s20 p20
        refine zZ (g:=49) (s:=decide ((at_ (at_ ((at_ A.caches i1).lists) i2) i3)<((at_ A.zones i2).start))) rfl p20.2.2.1 (fun c26=>zq.step (zV (f:=zO) (l:=A.zones) (i:=i2) Tryz.underlying23 Tryz.sizeOf51 (fun _=>rfl) (z8 p20.1 c26) (z8 p20.2.1 c26) b10)) ?_
        exact zF ⟨fun _=>rfl,rfl⟩
       ·
        intro e21 s21 p21
        refine zZ (g:=49) (s:=decide ((at_ (at_ ((at_ A.caches i1).lists) i2) i3)<((at_ A.zones i2).start))) rfl p21.2.1 (fun c27=>zq.step (zAw (row:=(zO (at_ A.zones i2))) (o:=0) (off:=2) Tryz.underlying51 rfl rfl Tryz.sizeOf3 (z8 p21.1 c27))) ?_
        exact zF ⟨fun _=>rfl,rfl⟩
       ·
        intro e22 s22 p22
        refine zZ (g:=49) (s:=decide ((at_ (at_ ((at_ A.caches i1).lists) i2) i3)<((at_ A.zones i2).start))) rfl p22.2.1 (fun c28=>zq.step (zU (row:=(zO (at_ A.zones i2))) (o:=2) (a:=(li ((at_ A.zones i2).start))) Tryz.isAgg3 (z8 p22.1 c28) rfl)) ?_
        exact zF ⟨fun _=>rfl,rfl⟩
       ·
        intro e23 s23 p23
        refine zZ (g:=49) (s:=decide ((at_ (at_ ((at_ A.caches i1).lists) i2) i3)<((at_ A.zones i2).start))) rfl p23.1 (fun c29=>zq.step (zK (k:=0) (o:=0) (off:=3) Tryz.underlying26 rfl rfl Tryz.sizeOf23 (s23 1 rfl))) ?_
        exact zF ⟨fun _=>rfl,rfl⟩
       ·
        intro e24 s24 p24
        refine zZ (g:=49) (s:=decide ((at_ (at_ ((at_ A.caches i1).lists) i2) i3)<((at_ A.zones i2).start))) rfl p24.2.1 (fun c30=>zq.step (zN (k:=0) (o:=3) (a:=(ls zO A.zones)) Tryz.isAgg23 (z8 p24.1 c30) rfl rfl rfl)) ?_
        exact zF ⟨fun _=>rfl,rfl⟩
       ·
        intro e25 s25 p25
        refine zZ (g:=49) (s:=decide ((at_ (at_ ((at_ A.caches i1).lists) i2) i3)<((at_ A.zones i2).start))) rfl p25.1 (fun c31=>zq.step (zB (av:=(li i2)) (s25 5 rfl))) ?_
        exact zF ⟨fun _=>rfl,rfl⟩
       ·
        intro e26 s26 p26
        refine zZ (g:=49) (s:=decide ((at_ (at_ ((at_ A.caches i1).lists) i2) i3)<((at_ A.zones i2).start))) rfl p26.2.2.1 (fun c32=>zq.step (zV (f:=zO) (l:=A.zones) (i:=i2) Tryz.underlying23 Tryz.sizeOf51 (fun _=>rfl) (z8 p26.1 c32) (z8 p26.2.1 c32) b10)) ?_
        exact zF ⟨fun _=>rfl,rfl⟩
       ·
        intro e27 s27 p27
        refine zZ (g:=49) (s:=decide ((at_ (at_ ((at_ A.caches i1).lists) i2) i3)<((at_ A.zones i2).start))) rfl p27.2.1 (fun c33=>zq.step (zAw (row:=(zO (at_ A.zones i2))) (o:=0) (off:=3) Tryz.underlying51 rfl rfl Tryz.sizeOf3 (z8 p27.1 c33))) ?_
        exact zF ⟨fun _=>rfl,rfl⟩
       ·
        intro e28 s28 p28
        refine zZ (g:=49) (s:=decide ((at_ (at_ ((at_ A.caches i1).lists) i2) i3)<((at_ A.zones i2).start))) rfl p28.2.1 (fun c34=>zq.step (zU (row:=(zO (at_ A.zones i2))) (o:=3) (a:=(li ((at_ A.zones i2).count))) Tryz.isAgg3 (z8 p28.1 c34) rfl)) ?_
        exact zF ⟨fun _=>rfl,rfl⟩
       ·
        intro e29 s29 p29
        refine zZ (g:=49) (s:=decide ((at_ (at_ ((at_ A.caches i1).lists) i2) i3)<((at_ A.zones i2).start))) rfl p29.2.2.1 (fun c35=>zq.step (zg (a:=(at_ A.zones i2).start) (b:=(at_ A.zones i2).count) (z8 p29.1 c35) (z8 p29.2.1 c35) (zHd b11 c35))) ?_
        exact zF ⟨fun _=>rfl,rfl⟩
       ·
        intro e30 s30 p30
        refine zZ (g:=49) (s:=decide ((at_ (at_ ((at_ A.caches i1).lists) i2) i3)<((at_ A.zones i2).start))) rfl p30.2.2.1 (fun c36=>zq.step (zAu (a:=at_ (at_ ((at_ A.caches i1).lists) i2) i3) (b:=((at_ A.zones i2).start)+((at_ A.zones i2).count)) (z8 p30.1 c36) (z8 p30.2.1 c36))) ?_
        exact zF ⟨fun _=>rfl,rfl⟩
       intro e32 s32 hq1
       refine zAS (zBI (l:=[(1,(AV.ptr 0 0)),(3,(AV.hd 1)),(4,(li i1)),(5,(li i2)),(6,(ls cI (at_ ((at_ A.caches i1).lists) i2))),(7,(li i3)),(68,(AV.lit (.bool ((decide ((at_ (at_ ((at_ A.caches i1).lists) i2) i3)<((at_ A.zones i2).start)))||(decide ((((at_ A.zones i2).start)+((at_ A.zones i2).count))≤(at_ (at_ ((at_ A.caches i1).lists) i2) i3)))))))]) ⟨s32 1 rfl,s32 3 rfl,s32 4 rfl,s32 5 rfl,s32 6 rfl,s32 7 rfl,(hq1 30 (by decide) (by decide)),trivial⟩) ?_
       refine zW h rfl (fun b12 h => ?_) (fun b12 h => ?_)
       ·refine zH<|zC<|zA (zD rfl)<|zF<|zb ?_
        cases h
        exact zv (zAI rfl rfl)
       refine zQ<|zH<|zH<|zM h fun b13 h=>zP h fun x1 w1 h => ?_
       refine zAm (n:=94) (m:=0) [.head 0 0,.head 0 0,.head 0 0,.head 0 0,.head 0 0,.head 0 0,.head 0 0,.head 0 0,.head 0 0,.head 0 0,.head 0 0,.head 0 0,.head 0 0,.head 0 0,.head 0 0,.head 0 0,.head 0 0,.head 0 0,.head 0 0] [] [AV.hd 1,(ls cI (at_ ((at_ A.caches i1).lists) i2)),li i3,(AV.rp (cI (at_ (at_ ((at_ A.caches i1).lists) i2) i3)) 0),(li (at_ (at_ ((at_ A.caches i1).lists) i2) i3)),(AV.ptr 1 ((at_ (at_ ((at_ A.caches i1).lists) i2) i3).toNat*1)),(AV.lit (.bool (at_ l5 (at_ (at_ ((at_ A.caches i1).lists) i2) i3)))),(AV.lit (.bool (at_ l5 (at_ (at_ ((at_ A.caches i1).lists) i2) i3)))),(bif !(at_ l5 (at_ (at_ ((at_ A.caches i1).lists) i2) i3)) then (AV.ptr 0 3) else .lit undef),(bif !(at_ l5 (at_ (at_ ((at_ A.caches i1).lists) i2) i3)) then (ls zO A.zones) else .lit undef),(bif !(at_ l5 (at_ (at_ ((at_ A.caches i1).lists) i2) i3)) then (li i2) else .lit undef),(bif !(at_ l5 (at_ (at_ ((at_ A.caches i1).lists) i2) i3)) then (AV.rp (zO (at_ A.zones i2)) 0) else .lit undef),(bif !(at_ l5 (at_ (at_ ((at_ A.caches i1).lists) i2) i3)) then (AV.agg (zO (at_ A.zones i2))) else .lit undef),(bif !(at_ l5 (at_ (at_ ((at_ A.caches i1).lists) i2) i3)) then (ls cI (at_ ((at_ A.caches i1).lists) i2)) else .lit undef),(bif !(at_ l5 (at_ (at_ ((at_ A.caches i1).lists) i2) i3)) then (li i3) else .lit undef),(bif !(at_ l5 (at_ (at_ ((at_ A.caches i1).lists) i2) i3)) then (AV.rp (cI (at_ (at_ ((at_ A.caches i1).lists) i2) i3)) 0) else .lit undef),(bif !(at_ l5 (at_ (at_ ((at_ A.caches i1).lists) i2) i3)) then (li (at_ (at_ ((at_ A.caches i1).lists) i2) i3)) else .lit undef),(bif !(at_ l5 (at_ (at_ ((at_ A.caches i1).lists) i2) i3)) then (AV.lit (.bool x1)) else .lit undef),(AV.lit (.bool ((at_ l5 (at_ (at_ ((at_ A.caches i1).lists) i2) i3))||x1)))] [[.box 26 (zG A),.vec 4 1 (List.map cB l5)]] (by kernel_rfl) (by kernel_rfl) ⟨D1 fun e s p=>zB (s 3 rfl),D1 fun e s p=>zB (s 6 rfl),D1 fun e s p=>zB (s 7 rfl),D1 fun e s p=>zV (f:=cI) (l:=at_ ((at_ A.caches i1).lists) i2) (i:=i3) Tryz.underlying22 Tryz.sizeOf3 (fun _=>rfl) p.1 p.2.1 b9,D1 fun e s p=>zU (o:=0) Tryz.isAgg3 p.1 rfl,D1 fun e s p=>zy (f:=cB) (l:=l5) (i:=at_ (at_ ((at_ A.caches i1).lists) i2) i3) Tryz.underlying121 Tryz.sizeOf4 p.1 rfl p.2.1 b13,D1 fun e s p=>zA3 (f:=cB) (l:=l5) (i:=at_ (at_ ((at_ A.caches i1).lists) i2) i3) (c:=0) (a:=(AV.lit (.bool (at_ l5 (at_ (at_ ((at_ A.caches i1).lists) i2) i3))))) Tryz.isAgg4 p.1 rfl (by first | rfl | omega) b13 rfl rfl,D1 fun e s p=>zB p.1,?_,?_,?_,?_,?_,?_,?_,?_,?_,?_,D1 fun e s p=>zj (s:=at_ l5 (at_ (at_ ((at_ A.caches i1).lists) i2) i3)) (q:=x1) (j := .lit undef) p.1 p.2.1,trivial⟩ ?_
       ·
        intro e41 s41 p40
        refine zZ (g:=76) (s:=at_ l5 (at_ (at_ ((at_ A.caches i1).lists) i2) i3)) rfl p40.1 (fun c47=>zq.step (zK (k:=0) (o:=0) (off:=3) Tryz.underlying26 rfl rfl Tryz.sizeOf23 (s41 1 rfl))) ?_
        exact zF ⟨fun _=>rfl,rfl⟩
       ·
        intro e42 s42 p41
        refine zZ (g:=76) (s:=at_ l5 (at_ (at_ ((at_ A.caches i1).lists) i2) i3)) rfl p41.2.1 (fun c48=>zq.step (zN (k:=0) (o:=3) (a:=(ls zO A.zones)) Tryz.isAgg23 (z8 p41.1 c48) rfl rfl rfl)) ?_
        exact zF ⟨fun _=>rfl,rfl⟩
       ·
        intro e43 s43 p42
        refine zZ (g:=76) (s:=at_ l5 (at_ (at_ ((at_ A.caches i1).lists) i2) i3)) rfl p42.1 (fun c49=>zq.step (zB (av:=(li i2)) (s43 5 rfl))) ?_
        exact zF ⟨fun _=>rfl,rfl⟩
       ·
        intro e44 s44 p43
        refine zZ (g:=76) (s:=at_ l5 (at_ (at_ ((at_ A.caches i1).lists) i2) i3)) rfl p43.2.2.1 (fun c50=>zq.step (zV (f:=zO) (l:=A.zones) (i:=i2) Tryz.underlying23 Tryz.sizeOf51 (fun _=>rfl) (z8 p43.1 c50) (z8 p43.2.1 c50) b10)) ?_
        exact zF ⟨fun _=>rfl,rfl⟩
       ·
        intro e45 s45 p44
        refine zZ (g:=76) (s:=at_ l5 (at_ (at_ ((at_ A.caches i1).lists) i2) i3)) rfl p44.2.1 (fun c51=>zq.step (zAf (row:=(zO (at_ A.zones i2))) (o:=0) (m:=10) (la:=(zO (at_ A.zones i2))) Tryz.isAgg51 Tryz.sizeOf51 (z8 p44.1 c51) rfl rfl)) ?_
        exact zF ⟨fun _=>rfl,rfl⟩
       ·
        intro e46 s46 p45
        refine zZ (g:=76) (s:=at_ l5 (at_ (at_ ((at_ A.caches i1).lists) i2) i3)) rfl p45.1 (fun c52=>zq.step (zB (av:=(ls cI (at_ ((at_ A.caches i1).lists) i2))) (s46 6 rfl))) ?_
        exact zF ⟨fun _=>rfl,rfl⟩
       ·
        intro e47 s47 p46
        refine zZ (g:=76) (s:=at_ l5 (at_ (at_ ((at_ A.caches i1).lists) i2) i3)) rfl p46.1 (fun c53=>zq.step (zB (av:=(li i3)) (s47 7 rfl))) ?_
        exact zF ⟨fun _=>rfl,rfl⟩
       ·
        intro e48 s48 p47
        refine zZ (g:=76) (s:=at_ l5 (at_ (at_ ((at_ A.caches i1).lists) i2) i3)) rfl p47.2.2.1 (fun c54=>zq.step (zV (f:=cI) (l:=at_ ((at_ A.caches i1).lists) i2) (i:=i3) Tryz.underlying22 Tryz.sizeOf3 (fun _=>rfl) (z8 p47.1 c54) (z8 p47.2.1 c54) b9)) ?_
        exact zF ⟨fun _=>rfl,rfl⟩
       ·
        intro e49 s49 p48
        refine zZ (g:=76) (s:=at_ l5 (at_ (at_ ((at_ A.caches i1).lists) i2) i3)) rfl p48.2.1 (fun c55=>zq.step (zU (row:=(cI (at_ (at_ ((at_ A.caches i1).lists) i2) i3))) (o:=0) (a:=(li (at_ (at_ ((at_ A.caches i1).lists) i2) i3))) Tryz.isAgg3 (z8 p48.1 c55) rfl)) ?_
        exact zF ⟨fun _=>rfl,rfl⟩
       ·
        intro e50 s50 p49
        refine zCX (g:=76) (s:=at_ l5 (at_ (at_ ((at_ A.caches i1).lists) i2) i3)) (r':=(AV.lit (.bool x1))) rfl p49.2.2.2.1 (fun c56=>⟨98,_,_,[],[(AV.agg (zO (at_ A.zones i2))),(li (at_ (at_ ((at_ A.caches i1).lists) i2) i3))],[(AV.agg (zO (at_ A.zones i2))),(li (at_ (at_ ((at_ A.caches i1).lists) i2) i3))],(AV.lit (.bool x1)),[],Tryz.func98,rfl,by kernel_rfl,.fn 98,(zAL (z8 p49.1 c56) (zAL (z8 p49.2.1 c56) rfl)),⟨zAl.nr rfl,zAl.nr rfl,trivial⟩,zLW (zFy c56 w1),.inl rfl,rfl⟩) ?_
        exact zF ⟨fun _=>rfl,rfl⟩
       intro e52 s52 hq2
       refine zAS (zBI (l:=[(1,(AV.ptr 0 0)),(3,(AV.hd 1)),(4,(li i1)),(5,(li i2)),(6,(ls cI (at_ ((at_ A.caches i1).lists) i2))),(7,(li i3)),(87,(AV.lit (.bool ((at_ l5 (at_ (at_ ((at_ A.caches i1).lists) i2) i3))||x1))))]) ⟨s52 1 rfl,s52 3 rfl,s52 4 rfl,s52 5 rfl,s52 6 rfl,s52 7 rfl,(hq2 18 (by decide) (by decide)),trivial⟩) ?_
       refine zW h rfl (fun b14 h => ?_) (fun b14 h => ?_)
       ·refine zH<|zC<|zA (zD rfl)<|zF<|zb ?_
        cases h
        exact zv (zAI rfl rfl)
       refine zQ<|zC<|zA (zB rfl)<|zA (zB rfl)<|zA (zB rfl)<|zA (zV Tryz.underlying22 Tryz.sizeOf3 (fun _=>rfl) rfl rfl b9) ?_
       refine zA (zU (o:=0) Tryz.isAgg3 rfl rfl)<|zA (zy (f:=cB) (l:=l5) (i:=at_ (at_ ((at_ A.caches i1).lists) i2) i3) Tryz.underlying121 Tryz.sizeOf4 rfl rfl rfl b13)<|zd (H':=[.box 26 (zG A),.vec 4 1 (List.map cB (l5.set (at_ (at_ ((at_ A.caches i1).lists) i2) i3).toNat true))]) (zBZ (k:=1) (o:=((at_ (at_ ((at_ A.caches i1).lists) i2) i3).toNat*1)) (f:=cB) (l:=l5) (i:=at_ (at_ ((at_ A.caches i1).lists) i2) i3) (c:=0) (a:=(AV.lit (.bool true))) (z:=true) Tryz.sizeOf4 rfl rfl (by first | rfl | omega) b13 rfl rfl rfl rfl rfl)<|zF<|zC<|zA (zB rfl) ?_
       refine zM h fun b15 h=>zA (zg rfl rfl b15)<|zA (zD rfl)<|zF ?_
       exact ⟨((i3+1),(l5.set (at_ (at_ ((at_ A.caches i1).lists) i2) i3).toNat true)),zAD [0,1] rfl rfl (by kernel_rfl),h⟩
      refine zz ?_
      exact ⟨l5,zAD [0,1] rfl rfl (by kernel_rfl),h⟩
     clear h
     intro l4 h
     unfold zER at h
     refine zC<|zA (zB rfl)<|zM h fun b5 h=>zA (zg rfl rfl b5)<|zA (zD rfl)<|zF ?_
     exact ⟨((i2+1),l4),zAD [0,1] rfl rfl (by kernel_rfl),h⟩
    refine zz ?_
    exact ⟨l3,zAD [0,1] rfl rfl (by kernel_rfl),h⟩
   clear h
   intro l2 h
   unfold zEO at h
   refine zC<|zA (zB rfl)<|zM h fun b3 h=>zA (zg rfl rfl b3)<|zA (zD rfl)<|zF ?_
   exact ⟨((i1+1),l2),zAD [0,1] rfl rfl (by kernel_rfl),h⟩
  refine zz ?_
  exact ⟨(),zAD [] rfl rfl (by kernel_rfl),h⟩
 clear h
 intro _ h
 unfold zGB at h
 refine zH<|zC<|zA (zD rfl)<|zF<|zb ?_
 cases h
 exact zv (zAI rfl rfl)
theorem zLp {B:zJ} {r:Int} (h:zF1 B=some r):PFn Tryz.prog 48 [(AV.agg (zG B))] (li r):=by
 refine zm Tryz.func48 rfl Tryz.ntmps48 Tryz.results48 rfl ?_
 unfold zF1 at h
 refine zH<|zC<|zX (H':=[.box 26 (zG B)]) (zu (t:=26) rfl)<|zA (zD rfl)<|zF<|zH ?_
 refine zH<|zC<|zA (zK Tryz.underlying26 rfl rfl Tryz.sizeOf24 rfl)<|zA (zN Tryz.isAgg24 rfl rfl rfl rfl)<|zA (zY Tryz.underlying24 rfl)<|zA (zK Tryz.underlying26 rfl rfl Tryz.sizeOf22 rfl) ?_
 refine zA (zN Tryz.isAgg22 rfl rfl rfl rfl)<|zA (zY Tryz.underlying22 rfl)<|zA (z7 rfl rfl)<|zF ?_
 refine zW h rfl (fun b1 h => ?_) (fun b1 h => ?_)
 ·refine zH<|zC<|zA (zD rfl)<|zF<|zb ?_
  cases h
  exact zv (zAI rfl rfl)
 refine zQ ?_
 refine zx (r:=r) (fun (_:Unit)=>mkE [(1,(AV.ptr 0 0))]) (fun _=>[.box 26 (zG B)]) (fun _=>zC6 B) ?_ ?_
 ·
  refine zH<|zC<|zA (zD rfl)<|zF<|zR<|zt (σ:=Int) (fun i1=>mkE [(1,(AV.ptr 0 0)),(3,(li i1))]) (fun i1=>[.box 26 (zG B)]) (fun n0 i1=>zA7 B n0 i1) 0 h (fun _=>rfl) (zAD [0] rfl rfl (by kernel_rfl)) ?_
  clear h
  intro n0 i1 h
  replace h:zBf B (zA7 B n0) i1=some r:=h
  unfold zBf at h
  refine zH<|zH<|zC<|zA (zB rfl)<|zA (zK Tryz.underlying26 rfl rfl Tryz.sizeOf24 rfl)<|zA (zN Tryz.isAgg24 rfl rfl rfl rfl) ?_
  refine zA (zY Tryz.underlying24 rfl)<|zA (zh rfl rfl)<|zF ?_
  refine zW h rfl (fun b2 h => ?_) (fun b2 h => ?_)
  ·refine zQ ?_
   refine zx (r:=r) (fun (_:Unit)=>mkE [(1,(AV.ptr 0 0)),(3,(li i1))]) (fun _=>[.box 26 (zG B)]) (fun _=>zEQ (zA7 B n0) i1) ?_ ?_
   ·
    refine zR<|zH<|zH<|zM h fun b4 h=>zP h fun x2 w2 h => ?_
    refine zAm (n:=54) (m:=0) [.head 0 0,.head 0 0,.head 0 0,.head 0 0,.head 0 0,.head 0 0,.head 0 0,.head 0 0,.head 0 0,.head 0 0] [] [AV.ptr 0 4,ls zI B.caches,li i1,(AV.rp (zI (at_ B.caches i1)) 0),(AV.agg (zI (at_ B.caches i1))),AV.ptr 0 3,ls zO B.zones,(li (B.zones.length:Int)),li x2,li x2] [[.box 26 (zG B)]] (by kernel_rfl) (by kernel_rfl) ⟨D1 fun e s p=>zK (k:=0) (o:=0) (off:=4) Tryz.underlying26 rfl rfl Tryz.sizeOf24 (s 1 rfl),D1 fun e s p=>zN (k:=0) (o:=4) Tryz.isAgg24 p.1 rfl rfl rfl,D1 fun e s p=>zB (s 3 rfl),D1 fun e s p=>zV (f:=zI) (l:=B.caches) (i:=i1) Tryz.underlying24 Tryz.sizeOf55 (fun _=>rfl) p.1 p.2.1 b4,D1 fun e s p=>zAf (row:=(zI (at_ B.caches i1))) (o:=0) (m:=1) (la:=(zI (at_ B.caches i1))) Tryz.isAgg55 Tryz.sizeOf55 p.1 rfl rfl,D1 fun e s p=>zK (k:=0) (o:=0) (off:=3) Tryz.underlying26 rfl rfl Tryz.sizeOf23 (s 1 rfl),D1 fun e s p=>zN (k:=0) (o:=3) Tryz.isAgg23 p.1 rfl rfl rfl,D1 fun e s p=>zY (f:=zO) (l:=B.zones) Tryz.underlying23 p.1,?_,D1 fun e s p=>zD p.2.2.2.2.2.2.2.2.2.2.1,trivial⟩ ?_
    ·
     intro e9 s9 p9
     refine ze (r:=(li x2)) (la:=[(AV.agg (zI (at_ B.caches i1))),(li (B.zones.length:Int))]) Tryz.func96 rfl (by kernel_rfl) (.fn 96) (zAL p9.1 (zAL p9.2.1 rfl)) rfl (zLw w2) rfl ?_
     exact zF ⟨fun _=>rfl,rfl⟩
    intro e11 s11 hq1
    refine zAS (zBI (l:=[(1,(AV.ptr 0 0)),(3,(li i1)),(4,(li x2))]) ⟨s11 1 rfl,s11 3 rfl,(hq1 9 (by decide) (by decide)),trivial⟩)<|zH<|zC<|zA (zB (av:=(li x2)) rfl)<|zA (z7 (a:=x2) (b:=0) rfl rfl)<|zF ?_
    refine zW h rfl (fun b5 h => ?_) (fun b5 h => ?_)
    ·refine zH<|zC<|zA (zB rfl)<|zA (zD rfl)<|zF<|zb ?_
     cases h
     exact zv (zAI rfl rfl)
    refine zQ<|zH<|zC<|zA (zD rfl)<|zF<|zR ?_
    refine zt (σ:=Int) (fun i2=>mkE [(1,(AV.ptr 0 0)),(3,(li i1)),(5,(li i2))]) (fun i2=>[.box 26 (zG B)]) (fun n1 i2=>zC5 (zA7 B n0) B i1 n1 i2) 0 h (fun _=>rfl) (zAD [0] rfl rfl (by kernel_rfl)) ?_
    clear h
    intro n1 i2 h
    replace h:zBh (zA7 B n0) B i1 (zC5 (zA7 B n0) B i1 n1) i2=some r:=h
    unfold zBh at h
    refine zH<|zH<|zC<|zA (zB rfl)<|zA (zK Tryz.underlying26 rfl rfl Tryz.sizeOf23 rfl)<|zA (zN Tryz.isAgg23 rfl rfl rfl rfl) ?_
    refine zA (zY Tryz.underlying23 rfl)<|zA (zh rfl rfl)<|zF ?_
    refine zW h rfl (fun b6 h => ?_) (fun b6 h => ?_)
    ·refine zQ<|zH<|zR<|zH<|zM h fun b7 h=>zM h fun b8 h => ?_
     refine zAm (n:=54) (m:=0) [.head 0 0,.head 0 0,.head 0 0,.head 0 0,.head 0 0,.head 0 0,.head 0 0,.head 0 0,.head 0 0,.head 0 0,.head 0 0,.head 0 0,.head 0 0] [] [AV.ptr 0 4,ls zI B.caches,li i1,(AV.rp (zI (at_ B.caches i1)) 0),(AV.rp (zI (at_ B.caches i1)) 0),(ls (cS cI) ((at_ B.caches i1).lists)),li i2,(AV.rp ((cS cI) (at_ ((at_ B.caches i1).lists) i2)) 0),(ls cI (at_ ((at_ B.caches i1).lists) i2)),(li ((at_ ((at_ B.caches i1).lists) i2).length:Int)),AV.ptr 0 2,li B.high,(AV.lit (.bool (decide (B.high<((at_ ((at_ B.caches i1).lists) i2).length:Int)))))] [[.box 26 (zG B)]] (by kernel_rfl) (by kernel_rfl) ⟨D1 fun e s p=>zK (k:=0) (o:=0) (off:=4) Tryz.underlying26 rfl rfl Tryz.sizeOf24 (s 1 rfl),D1 fun e s p=>zN (k:=0) (o:=4) Tryz.isAgg24 p.1 rfl rfl rfl,D1 fun e s p=>zB (s 3 rfl),D1 fun e s p=>zV (f:=zI) (l:=B.caches) (i:=i1) Tryz.underlying24 Tryz.sizeOf55 (fun _=>rfl) p.1 p.2.1 b7,D1 fun e s p=>zAw (row:=(zI (at_ B.caches i1))) (o:=0) (off:=0) Tryz.underlying55 rfl rfl Tryz.sizeOf53 p.1,D1 fun e s p=>zU (o:=0) Tryz.isAgg53 p.1 rfl,D1 fun e s p=>zB (s 5 rfl),D1 fun e s p=>zV (f:=(cS cI)) (l:=(at_ B.caches i1).lists) (i:=i2) Tryz.underlying53 Tryz.sizeOf22 (fun _=>rfl) p.1 p.2.1 b8,D1 fun e s p=>zU (o:=0) Tryz.isAgg22 p.1 rfl,D1 fun e s p=>zY (f:=cI) (l:=at_ ((at_ B.caches i1).lists) i2) Tryz.underlying22 p.1,D1 fun e s p=>zK (k:=0) (o:=0) (off:=2) Tryz.underlying26 rfl rfl Tryz.sizeOf3 (s 1 rfl),D1 fun e s p=>zN (k:=0) (o:=2) Tryz.isAgg3 p.1 rfl rfl rfl,D1 fun e s p=>zAo (a:=((at_ ((at_ B.caches i1).lists) i2).length:Int)) (b:=B.high) p.1 p.2.1,trivial⟩ ?_
     intro e25 s25 hq2
     refine zAS (zBI (l:=[(1,(AV.ptr 0 0)),(3,(li i1)),(5,(li i2)),(51,(AV.lit (.bool (decide (B.high<((at_ ((at_ B.caches i1).lists) i2).length:Int))))))]) ⟨s25 1 rfl,s25 3 rfl,s25 5 rfl,(hq2 12 (by decide) (by decide)),trivial⟩) ?_
     refine zW h rfl (fun b9 h => ?_) (fun b9 h => ?_)
     ·refine zH<|zC<|zA (zD rfl)<|zF<|zb ?_
      cases h
      exact zv (zAI rfl rfl)
     refine zQ<|zC<|zA (zB rfl)<|zM h fun b10 h=>zA (zg rfl rfl b10)<|zA (zD rfl) ?_
     refine zF ?_
     exact ⟨(i2+1),zAD [0] rfl rfl (by kernel_rfl),h⟩
    refine zz ?_
    exact ⟨(),zAD [0] rfl rfl (by kernel_rfl),h⟩
   clear h
   intro _ h
   unfold zEQ at h
   refine zC<|zA (zB rfl)<|zM h fun b3 h=>zA (zg rfl rfl b3)<|zA (zD rfl)<|zF ?_
   exact ⟨(i1+1),zAD [0] rfl rfl (by kernel_rfl),h⟩
  refine zz ?_
  exact ⟨(),zAD [0] rfl rfl (by kernel_rfl),h⟩
 clear h
 intro _ h
 unfold zC6 at h
 refine zH<|zC<|zA (zS (k:=0) (o:=0) (m:=5) Tryz.isAgg26 Tryz.sizeOf26 rfl rfl rfl rfl rfl)<|zP h fun x1 w1 h=>ze Tryz.func97 rfl (by kernel_rfl) (.fn 97) rfl rfl (zLm w1) rfl<|zA (zD rfl) ?_
 refine zF<|zb ?_
 cases h
 exact zv (zAI rfl rfl)
theorem zLx {B:zJ} {r:Int} (h:zHt B=some r):PFn Tryz.prog 14 [(AV.agg (zG B))] (li r):=by
 refine zm Tryz.func14 rfl Tryz.ntmps14 Tryz.results14 rfl ?_
 unfold zHt at h
 refine zH<|zC<|zX (H':=[.box 26 (zG B)]) (zu (t:=26) rfl)<|zA (zD rfl)<|zF<|zH ?_
 refine zH<|zC<|zA (zK Tryz.underlying26 rfl rfl Tryz.sizeOf22 rfl)<|zA (zN Tryz.isAgg22 rfl rfl rfl rfl)<|zA (zK Tryz.underlying26 rfl rfl Tryz.sizeOf3 rfl)<|zA (zN Tryz.isAgg3 rfl rfl rfl rfl) ?_
 refine zA (zK Tryz.underlying26 rfl rfl Tryz.sizeOf3 rfl)<|zA (zN Tryz.isAgg3 rfl rfl rfl rfl)<|zA (zK Tryz.underlying26 rfl rfl Tryz.sizeOf23 rfl)<|zA (zN Tryz.isAgg23 rfl rfl rfl rfl)<|zA (zY Tryz.underlying23 rfl)<|zP h fun x1 w1 h => ?_
 refine ze Tryz.func46 rfl (by kernel_rfl) (.fn 46) rfl rfl (zNX w1) rfl<|zA (zAv (t:=x1) rfl)<|zF ?_
 refine zW h rfl (fun b1 h => ?_) (fun b1 h => ?_)
 ·refine zH<|zC<|zA (zD rfl)<|zF<|zb ?_
  cases h
  exact zv (zAI rfl rfl)
 refine zQ<|zH<|zC<|zA (zD rfl)<|zF ?_
 refine zx (r:=r) (fun (_:Unit)=>mkE [(1,(AV.ptr 0 0))]) (fun _=>[.box 26 (zG B)]) (fun _=>zGV B) ?_ ?_
 ·
  refine zH<|zC<|zA (zD rfl)<|zF<|zR<|zt (σ:=Int×Int) (fun (i1,i2)=>mkE [(1,(AV.ptr 0 0)),(3,(li i1)),(4,(li i2))]) (fun (i1,i2)=>[.box 26 (zG B)]) (fun n0 (i1,i2)=>zGR B n0 i1 i2) (0,0) h (fun _=>rfl) (zAD [0] rfl rfl (by kernel_rfl)) ?_
  clear h
  rintro n0 ⟨i1,i2⟩ h
  replace h:zEK B (zGR B n0) i1 i2=some r:=h
  unfold zEK at h
  refine zH<|zH<|zC<|zA (zB rfl)<|zA (zK Tryz.underlying26 rfl rfl Tryz.sizeOf23 rfl)<|zA (zN Tryz.isAgg23 rfl rfl rfl rfl) ?_
  refine zA (zY Tryz.underlying23 rfl)<|zA (zh rfl rfl)<|zF ?_
  refine zW h rfl (fun b2 h => ?_) (fun b2 h => ?_)
  ·refine zQ<|zH<|zR<|zH<|zH<|zC ?_
   refine zA (zK Tryz.underlying26 rfl rfl Tryz.sizeOf23 rfl)<|zA (zN Tryz.isAgg23 rfl rfl rfl rfl)<|zA (zB rfl)<|zM h fun b3 h=>zA (zV Tryz.underlying23 Tryz.sizeOf51 (fun _=>rfl) rfl rfl b3)<|zA (zAf (row:=(zO (at_ B.zones i2))) (o:=0) (m:=10) (la:=(zO (at_ B.zones i2))) Tryz.isAgg51 Tryz.sizeOf51 rfl rfl rfl) ?_
   refine zP h fun x3 w3 h=>ze Tryz.func47 rfl (by kernel_rfl) (.fn 47) rfl rfl (zGL w3) rfl<|zA (zD rfl)<|zF<|zH<|zC ?_
   refine zA (zB rfl)<|zA (z7 rfl rfl)<|zF ?_
   refine zW h rfl (fun b4 h => ?_) (fun b4 h => ?_)
   ·refine zH<|zC<|zA (zB rfl)<|zA (zD rfl)<|zF<|zb ?_
    cases h
    exact zv (zAI rfl rfl)
   refine zQ<|zH<|zH<|zC<|zA (zK Tryz.underlying26 rfl rfl Tryz.sizeOf23 rfl)<|zA (zN Tryz.isAgg23 rfl rfl rfl rfl) ?_
   refine zA (zB rfl)<|zA (zV Tryz.underlying23 Tryz.sizeOf51 (fun _=>rfl) rfl rfl b3)<|zA (zAw (row:=(zO (at_ B.zones i2))) (o:=0) (off:=2) Tryz.underlying51 rfl rfl Tryz.sizeOf3 rfl)<|zA (zU (o:=2) Tryz.isAgg3 rfl rfl)<|zA (zB rfl)<|zA (z7 rfl rfl) ?_
   refine zF ?_
   refine zW h rfl (fun b5 h => ?_) (fun b5 h => ?_)
   ·refine zH<|zC<|zA (zD rfl)<|zF<|zb ?_
    cases h
    exact zv (zAI rfl rfl)
   refine zQ<|zC<|zA (zB rfl)<|zA (zK Tryz.underlying26 rfl rfl Tryz.sizeOf23 rfl)<|zA (zN Tryz.isAgg23 rfl rfl rfl rfl)<|zA (zB rfl) ?_
   refine zA (zV Tryz.underlying23 Tryz.sizeOf51 (fun _=>rfl) rfl rfl b3)<|zA (zAw (row:=(zO (at_ B.zones i2))) (o:=0) (off:=3) Tryz.underlying51 rfl rfl Tryz.sizeOf3 rfl)<|zA (zU (o:=3) Tryz.isAgg3 rfl rfl)<|zM h fun b6 h=>zA (zg rfl rfl b6)<|zA (zD rfl) ?_
   refine zF<|zC<|zA (zB rfl)<|zM h fun b7 h=>zA (zg rfl rfl b7)<|zA (zD rfl) ?_
   refine zF ?_
   exact ⟨((i1+((at_ B.zones i2).count)),(i2+1)),zAD [0] rfl rfl (by kernel_rfl),h⟩
  refine zz ?_
  exact ⟨(),zAD [0] rfl rfl (by kernel_rfl),h⟩
 clear h
 intro _ h
 unfold zGV at h
 refine zH<|zC<|zA (zS (k:=0) (o:=0) (m:=5) Tryz.isAgg26 Tryz.sizeOf26 rfl rfl rfl rfl rfl)<|zP h fun x2 w2 h=>ze Tryz.func48 rfl (by kernel_rfl) (.fn 48) rfl rfl (zLp w2) rfl<|zA (zD rfl) ?_
 refine zF<|zb ?_
 cases h
 exact zv (zAI rfl rfl)
theorem zPa {B:zJ} {Q:Int} {r:Int} (h:zKE B Q=some r):PFn Tryz.prog 49 [(AV.agg (zG B)),li Q] (li r):=by
 refine zm Tryz.func49 rfl Tryz.ntmps49 Tryz.results49 rfl ?_
 unfold zKE at h
 refine zH<|zC<|zX (H':=[.box 26 (zG B)]) (zu (t:=26) rfl)<|zA (zD rfl)<|zF ?_
 refine zx (r:=r) (fun (_:Unit)=>mkE []) (fun _=>[]) (fun _=>zKW ) ?_ ?_
 ·
  refine zH<|zC<|zA (zD rfl)<|zF<|zR<|zt (σ:=Int) (fun i1=>mkE [(1,(li Q)),(2,(AV.ptr 0 0)),(5,(li i1))]) (fun i1=>[.box 26 (zG B)]) (fun n0 i1=>zHQ B Q n0 i1) 0 h (fun _=>rfl) (zAD [0] rfl rfl (by kernel_rfl)) ?_
  clear h
  intro n0 i1 h
  replace h:zEz B Q (zHQ B Q n0) i1=some r:=h
  unfold zEz at h
  refine zH<|zH<|zC<|zA (zB rfl)<|zA (zK Tryz.underlying26 rfl rfl Tryz.sizeOf23 rfl)<|zA (zN Tryz.isAgg23 rfl rfl rfl rfl) ?_
  refine zA (zY Tryz.underlying23 rfl)<|zA (zh rfl rfl)<|zF ?_
  refine zW h rfl (fun b1 h => ?_) (fun b1 h => ?_)
  ·refine zQ<|zH<|zR<|zH<|zM h fun b2 h=>zM h fun b3 h => ?_
   refine zAm (n:=39) (m:=0) [.head 0 0,.head 0 0,.head 0 0,.head 0 0,.head 0 0,.head 0 0,.head 0 0,.head 0 0,.head 0 0,.head 0 0,.head 0 0,.head 0 0,.head 0 0,.head 0 0,.head 0 0,.head 0 0,.head 0 0,.head 0 0,.head 0 0,.head 0 0,.head 0 0,.head 0 0,.head 0 0,.head 0 0,.head 0 0] [] [li Q,AV.ptr 0 3,ls zO B.zones,li i1,(AV.rp (zO (at_ B.zones i1)) 0),(AV.rp (zO (at_ B.zones i1)) 2),(li ((at_ B.zones i1).start)),(AV.lit (.bool (decide (((at_ B.zones i1).start)≤Q)))),(AV.lit (.bool (decide (((at_ B.zones i1).start)≤Q)))),(bif decide (((at_ B.zones i1).start)≤Q) then (li Q) else .lit undef),(bif decide (((at_ B.zones i1).start)≤Q) then (AV.ptr 0 3) else .lit undef),(bif decide (((at_ B.zones i1).start)≤Q) then (ls zO B.zones) else .lit undef),(bif decide (((at_ B.zones i1).start)≤Q) then (li i1) else .lit undef),(bif decide (((at_ B.zones i1).start)≤Q) then (AV.rp (zO (at_ B.zones i1)) 0) else .lit undef),(bif decide (((at_ B.zones i1).start)≤Q) then (AV.rp (zO (at_ B.zones i1)) 2) else .lit undef),(bif decide (((at_ B.zones i1).start)≤Q) then (li ((at_ B.zones i1).start)) else .lit undef),(bif decide (((at_ B.zones i1).start)≤Q) then (AV.ptr 0 3) else .lit undef),(bif decide (((at_ B.zones i1).start)≤Q) then (ls zO B.zones) else .lit undef),(bif decide (((at_ B.zones i1).start)≤Q) then (li i1) else .lit undef),(bif decide (((at_ B.zones i1).start)≤Q) then (AV.rp (zO (at_ B.zones i1)) 0) else .lit undef),(bif decide (((at_ B.zones i1).start)≤Q) then (AV.rp (zO (at_ B.zones i1)) 3) else .lit undef),(bif decide (((at_ B.zones i1).start)≤Q) then (li ((at_ B.zones i1).count)) else .lit undef),(bif decide (((at_ B.zones i1).start)≤Q) then (li (((at_ B.zones i1).start)+((at_ B.zones i1).count))) else .lit undef),(bif decide (((at_ B.zones i1).start)≤Q) then (AV.lit (.bool (decide (Q<(((at_ B.zones i1).start)+((at_ B.zones i1).count)))))) else .lit undef),(AV.lit (.bool ((decide (((at_ B.zones i1).start)≤Q))&&(decide (Q<(((at_ B.zones i1).start)+((at_ B.zones i1).count)))))))] [[.box 26 (zG B)]] (by kernel_rfl) (by kernel_rfl) ⟨D1 fun e s p=>zB (s 1 rfl),D1 fun e s p=>zK (k:=0) (o:=0) (off:=3) Tryz.underlying26 rfl rfl Tryz.sizeOf23 (s 2 rfl),D1 fun e s p=>zN (k:=0) (o:=3) Tryz.isAgg23 p.1 rfl rfl rfl,D1 fun e s p=>zB (s 5 rfl),D1 fun e s p=>zV (f:=zO) (l:=B.zones) (i:=i1) Tryz.underlying23 Tryz.sizeOf51 (fun _=>rfl) p.1 p.2.1 b2,D1 fun e s p=>zAw (row:=(zO (at_ B.zones i1))) (o:=0) (off:=2) Tryz.underlying51 rfl rfl Tryz.sizeOf3 p.1,D1 fun e s p=>zU (o:=2) Tryz.isAgg3 p.1 rfl,D1 fun e s p=>zAu (a:=Q) (b:=(at_ B.zones i1).start) p.1 p.2.1,D1 fun e s p=>zB p.1,?_,?_,?_,?_,?_,?_,?_,?_,?_,?_,?_,?_,?_,?_,?_,D1 fun e s p=>z6 (s:=decide (((at_ B.zones i1).start)≤Q)) (q:=decide (Q<(((at_ B.zones i1).start)+((at_ B.zones i1).count)))) (j := .lit undef) p.1 p.2.1,trivial⟩ ?_
   ·
    intro e10 s10 p10
    refine zo (g:=21) (s:=decide (((at_ B.zones i1).start)≤Q)) rfl p10.1 (fun c16=>zq.step (zB (av:=(li Q)) (s10 1 rfl))) ?_
    exact zF ⟨fun _=>rfl,rfl⟩
   ·
    intro e11 s11 p11
    refine zo (g:=21) (s:=decide (((at_ B.zones i1).start)≤Q)) rfl p11.1 (fun c17=>zq.step (zK (k:=0) (o:=0) (off:=3) Tryz.underlying26 rfl rfl Tryz.sizeOf23 (s11 2 rfl))) ?_
    exact zF ⟨fun _=>rfl,rfl⟩
   ·
    intro e12 s12 p12
    refine zo (g:=21) (s:=decide (((at_ B.zones i1).start)≤Q)) rfl p12.2.1 (fun c18=>zq.step (zN (k:=0) (o:=3) (a:=(ls zO B.zones)) Tryz.isAgg23 (z8 p12.1 c18) rfl rfl rfl)) ?_
    exact zF ⟨fun _=>rfl,rfl⟩
   ·
    intro e13 s13 p13
    refine zo (g:=21) (s:=decide (((at_ B.zones i1).start)≤Q)) rfl p13.1 (fun c19=>zq.step (zB (av:=(li i1)) (s13 5 rfl))) ?_
    exact zF ⟨fun _=>rfl,rfl⟩
   ·
    intro e14 s14 p14
    refine zo (g:=21) (s:=decide (((at_ B.zones i1).start)≤Q)) rfl p14.2.2.1 (fun c20=>zq.step (zV (f:=zO) (l:=B.zones) (i:=i1) Tryz.underlying23 Tryz.sizeOf51 (fun _=>rfl) (z8 p14.1 c20) (z8 p14.2.1 c20) b2)) ?_
    exact zF ⟨fun _=>rfl,rfl⟩
   ·
    intro e15 s15 p15
    refine zo (g:=21) (s:=decide (((at_ B.zones i1).start)≤Q)) rfl p15.2.1 (fun c21=>zq.step (zAw (row:=(zO (at_ B.zones i1))) (o:=0) (off:=2) Tryz.underlying51 rfl rfl Tryz.sizeOf3 (z8 p15.1 c21))) ?_
    exact zF ⟨fun _=>rfl,rfl⟩
   ·
    intro e16 s16 p16
    refine zo (g:=21) (s:=decide (((at_ B.zones i1).start)≤Q)) rfl p16.2.1 (fun c22=>zq.step (zU (row:=(zO (at_ B.zones i1))) (o:=2) (a:=(li ((at_ B.zones i1).start))) Tryz.isAgg3 (z8 p16.1 c22) rfl)) ?_
    exact zF ⟨fun _=>rfl,rfl⟩
   ·
    intro e17 s17 p17
    refine zo (g:=21) (s:=decide (((at_ B.zones i1).start)≤Q)) rfl p17.1 (fun c23=>zq.step (zK (k:=0) (o:=0) (off:=3) Tryz.underlying26 rfl rfl Tryz.sizeOf23 (s17 2 rfl))) ?_
    exact zF ⟨fun _=>rfl,rfl⟩
   ·
    intro e18 s18 p18
    refine zo (g:=21) (s:=decide (((at_ B.zones i1).start)≤Q)) rfl p18.2.1 (fun c24=>zq.step (zN (k:=0) (o:=3) (a:=(ls zO B.zones)) Tryz.isAgg23 (z8 p18.1 c24) rfl rfl rfl)) ?_
    exact zF ⟨fun _=>rfl,rfl⟩
   ·
    intro e19 s19 p19
    refine zo (g:=21) (s:=decide (((at_ B.zones i1).start)≤Q)) rfl p19.1 (fun c25=>zq.step (zB (av:=(li i1)) (s19 5 rfl))) ?_
    exact zF ⟨fun _=>rfl,rfl⟩
   ·
    intro e20 s20 p20
    refine zo (g:=21) (s:=decide (((at_ B.zones i1).start)≤Q)) rfl p20.2.2.1 (fun c26=>zq.step (zV (f:=zO) (l:=B.zones) (i:=i1) Tryz.underlying23 Tryz.sizeOf51 (fun _=>rfl) (z8 p20.1 c26) (z8 p20.2.1 c26) b2)) ?_
    exact zF ⟨fun _=>rfl,rfl⟩
   ·
    intro e21 s21 p21
    refine zo (g:=21) (s:=decide (((at_ B.zones i1).start)≤Q)) rfl p21.2.1 (fun c27=>zq.step (zAw (row:=(zO (at_ B.zones i1))) (o:=0) (off:=3) Tryz.underlying51 rfl rfl Tryz.sizeOf3 (z8 p21.1 c27))) ?_
    exact zF ⟨fun _=>rfl,rfl⟩
   ·
    intro e22 s22 p22
    refine zo (g:=21) (s:=decide (((at_ B.zones i1).start)≤Q)) rfl p22.2.1 (fun c28=>zq.step (zU (row:=(zO (at_ B.zones i1))) (o:=3) (a:=(li ((at_ B.zones i1).count))) Tryz.isAgg3 (z8 p22.1 c28) rfl)) ?_
    exact zF ⟨fun _=>rfl,rfl⟩
   ·
    intro e23 s23 p23
    refine zo (g:=21) (s:=decide (((at_ B.zones i1).start)≤Q)) rfl p23.2.2.1 (fun c29=>zq.step (zg (a:=(at_ B.zones i1).start) (b:=(at_ B.zones i1).count) (z8 p23.1 c29) (z8 p23.2.1 c29) (zHd b3 c29))) ?_
    exact zF ⟨fun _=>rfl,rfl⟩
   ·
    intro e24 s24 p24
    refine zo (g:=21) (s:=decide (((at_ B.zones i1).start)≤Q)) rfl p24.2.2.1 (fun c30=>zq.step (zh (a:=Q) (b:=((at_ B.zones i1).start)+((at_ B.zones i1).count)) (z8 p24.1 c30) (z8 p24.2.1 c30))) ?_
    exact zF ⟨fun _=>rfl,rfl⟩
   intro e26 s26 hq1
   refine zAS (zBI (l:=[(1,(li Q)),(2,(AV.ptr 0 0)),(5,(li i1)),(37,(AV.lit (.bool ((decide (((at_ B.zones i1).start)≤Q))&&(decide (Q<(((at_ B.zones i1).start)+((at_ B.zones i1).count))))))))]) ⟨s26 1 rfl,s26 2 rfl,s26 5 rfl,(hq1 24 (by decide) (by decide)),trivial⟩) ?_
   refine zW h rfl (fun b4 h => ?_) (fun b4 h => ?_)
   ·refine zH<|zC<|zA (zB rfl)<|zA (zD rfl)<|zF<|zb ?_
    cases h
    exact zv (zAI rfl rfl)
   refine zQ<|zC<|zA (zB rfl)<|zM h fun b5 h=>zA (zg rfl rfl b5)<|zA (zD rfl) ?_
   refine zF ?_
   exact ⟨(i1+1),zAD [0] rfl rfl (by kernel_rfl),h⟩
  refine zz ?_
  exact ⟨(),zAD [] rfl rfl (by kernel_rfl),h⟩
 clear h
 intro _ h
 unfold zKW at h
 refine zH<|zC<|zA (zD rfl)<|zF<|zb ?_
 cases h
 exact zv (zAI rfl rfl)
theorem zLG {B:zJ} {M:Int} {Q:Int} {r:Int} (h:zGr B M Q=some r):PFn Tryz.prog 78 [(AV.agg (zG B)),li M,li Q] (li r):=by
 refine zm Tryz.func78 rfl Tryz.ntmps78 Tryz.results78 rfl ?_
 unfold zGr at h
 refine zH<|zC<|zX (H':=[.box 26 (zG B)]) (zu (t:=26) rfl)<|zA (zD rfl)<|zF ?_
 refine zx (r:=r) (fun (_:Unit)=>mkE []) (fun _=>[]) (fun _=>zJD ) ?_ ?_
 ·
  refine zH<|zC<|zA (zD rfl)<|zF<|zR<|zt (σ:=Int) (fun i1=>mkE [(1,(li M)),(2,(li Q)),(3,(AV.ptr 0 0)),(7,(li i1))]) (fun i1=>[.box 26 (zG B)]) (fun n0 i1=>zA2 B M Q n0 i1) 0 h (fun _=>rfl) (zAD [0] rfl rfl (by kernel_rfl)) ?_
  clear h
  intro n0 i1 h
  replace h:zBX B M Q (zA2 B M Q n0) i1=some r:=h
  unfold zBX at h
  refine zH<|zH<|zC<|zA (zB rfl)<|zA (zK Tryz.underlying26 rfl rfl Tryz.sizeOf24 rfl)<|zA (zN Tryz.isAgg24 rfl rfl rfl rfl) ?_
  refine zA (zY Tryz.underlying24 rfl)<|zA (zh rfl rfl)<|zF ?_
  refine zW h rfl (fun b1 h => ?_) (fun b1 h => ?_)
  ·refine zQ ?_
   refine zx (r:=r) (fun (_:Unit)=>mkE [(1,(li M)),(2,(li Q)),(3,(AV.ptr 0 0)),(7,(li i1))]) (fun _=>[.box 26 (zG B)]) (fun _=>zHR (zA2 B M Q n0) i1) ?_ ?_
   ·
    refine zR<|zH<|zC<|zA (zD rfl)<|zF<|zR ?_
    refine zt (σ:=Int) (fun i2=>mkE [(1,(li M)),(2,(li Q)),(3,(AV.ptr 0 0)),(7,(li i1)),(8,(li i2))]) (fun i2=>[.box 26 (zG B)]) (fun n1 i2=>zCJ (zA2 B M Q n0) B M Q i1 n1 i2) 0 h (fun _=>rfl) (zAD [0] rfl rfl (by kernel_rfl)) ?_
    clear h
    intro n1 i2 h
    replace h:zDJ (zA2 B M Q n0) B M Q i1 (zCJ (zA2 B M Q n0) B M Q i1 n1) i2=some r:=h
    unfold zDJ at h
    refine zH<|zH<|zC<|zA (zB rfl)<|zA (zK Tryz.underlying26 rfl rfl Tryz.sizeOf24 rfl)<|zA (zN Tryz.isAgg24 rfl rfl rfl rfl) ?_
    refine zA (zB rfl)<|zM h fun b3 h=>zA (zV Tryz.underlying24 Tryz.sizeOf55 (fun _=>rfl) rfl rfl b3)<|zA (zAw (row:=(zI (at_ B.caches i1))) (o:=0) (off:=0) Tryz.underlying55 rfl rfl Tryz.sizeOf53 rfl)<|zA (zU (o:=0) Tryz.isAgg53 rfl rfl)<|zA (zB rfl) ?_
    refine zM h fun b4 h=>zA (zV Tryz.underlying53 Tryz.sizeOf22 (fun _=>rfl) rfl rfl b4)<|zA (zU (o:=0) Tryz.isAgg22 rfl rfl)<|zA (zY Tryz.underlying22 rfl)<|zA (zh rfl rfl)<|zF ?_
    refine zW h rfl (fun b5 h => ?_) (fun b5 h => ?_)
    ·refine zQ<|zH<|zR<|zH<|zC<|zA (zK Tryz.underlying26 rfl rfl Tryz.sizeOf24 rfl) ?_
     refine zA (zN Tryz.isAgg24 rfl rfl rfl rfl)<|zA (zB rfl)<|zA (zV Tryz.underlying24 Tryz.sizeOf55 (fun _=>rfl) rfl rfl b3)<|zA (zAw (row:=(zI (at_ B.caches i1))) (o:=0) (off:=0) Tryz.underlying55 rfl rfl Tryz.sizeOf53 rfl)<|zA (zU (o:=0) Tryz.isAgg53 rfl rfl)<|zA (zB rfl) ?_
     refine zA (zV Tryz.underlying53 Tryz.sizeOf22 (fun _=>rfl) rfl rfl b4)<|zA (zU (o:=0) Tryz.isAgg22 rfl rfl)<|zA (zB rfl)<|zM h fun b6 h=>zA (zV Tryz.underlying22 Tryz.sizeOf3 (fun _=>rfl) rfl rfl b6)<|zA (zU (o:=0) Tryz.isAgg3 rfl rfl) ?_
     refine zA (zB rfl)<|zA (zA8 rfl rfl)<|zF ?_
     refine zW h rfl (fun b7 h => ?_) (fun b7 h => ?_)
     ·refine zH<|zC<|zA (zB rfl)<|zA (zD rfl)<|zF<|zb ?_
      cases h
      exact zv (zAI rfl rfl)
     refine zQ<|zC<|zA (zB rfl)<|zM h fun b8 h=>zA (zg rfl rfl b8)<|zA (zD rfl) ?_
     refine zF ?_
     exact ⟨(i2+1),zAD [0] rfl rfl (by kernel_rfl),h⟩
    refine zz ?_
    exact ⟨(),zAD [0] rfl rfl (by kernel_rfl),h⟩
   clear h
   intro _ h
   unfold zHR at h
   refine zC<|zA (zB rfl)<|zM h fun b2 h=>zA (zg rfl rfl b2)<|zA (zD rfl)<|zF ?_
   exact ⟨(i1+1),zAD [0] rfl rfl (by kernel_rfl),h⟩
  refine zz ?_
  exact ⟨(),zAD [] rfl rfl (by kernel_rfl),h⟩
 clear h
 intro _ h
 unfold zJD at h
 refine zH<|zC<|zA (zD rfl)<|zF<|zb ?_
 cases h
 exact zv (zAI rfl rfl)
theorem zPW {B:zJ} {M:Int} {Q:Int} {r:Bool} (h:zKF B M Q=some r):PFn Tryz.prog 51 [(AV.agg (zG B)),li M,li Q] (AV.lit (.bool r)):=by
 refine zm Tryz.func51 rfl Tryz.ntmps51 Tryz.results51 rfl ?_
 unfold zKF at h
 refine zH<|zC<|zX (H':=[.box 26 (zG B)]) (zu (t:=26) rfl)<|zA (zD rfl)<|zF<|zH ?_
 refine zC<|zA (zK Tryz.underlying26 rfl rfl Tryz.sizeOf23 rfl)<|zA (zN Tryz.isAgg23 rfl rfl rfl rfl)<|zA (zB rfl)<|zM h fun b1 h=>zA (zV Tryz.underlying23 Tryz.sizeOf51 (fun _=>rfl) rfl rfl b1) ?_
 refine zA (zAf (row:=(zO (at_ B.zones M))) (o:=0) (m:=10) (la:=(zO (at_ B.zones M))) Tryz.isAgg51 Tryz.sizeOf51 rfl rfl rfl)<|zA (zB rfl)<|zP h fun x1 w1 h=>ze Tryz.func98 rfl (by kernel_rfl) (.fn 98) rfl rfl (zLW w1) rfl<|zA (zB rfl)<|zZ rfl rfl (fun c1=>zq.step (zS (k:=0) (o:=0) (m:=5) Tryz.isAgg26 Tryz.sizeOf26 rfl rfl rfl rfl rfl)) ?_
 refine zZ rfl rfl (fun c2=>zq.step (zB rfl))<|zZ rfl rfl (fun c3=>zq.step (zB rfl))<|zP h fun x2 w2 h=>zCX (g:=14) (s:=x1) (r':=(li x2)) rfl rfl (fun c4=>⟨78,_,_,[],[(AV.agg (zG B)),li M,li Q],[(AV.agg (zG B)),li M,li Q],li x2,[],Tryz.func78,rfl,by kernel_rfl,.fn 78,(zAL (z8 rfl c4) (zAL (z8 rfl c4) (zAL (z8 rfl c4) rfl))),⟨zAl.nr rfl,zAl.nr rfl,zAl.nr rfl,trivial⟩,zLG (zFy c4 w2),.inl rfl,rfl⟩)<|zZ rfl rfl (fun c5=>zq.step (zAu (z8 rfl c5) rfl))<|zA (zj rfl rfl) ?_
 refine zA (zD rfl)<|zF<|zb ?_
 cases h
 exact zv (zAI rfl rfl)
theorem zHz {J:zL} {r:zL} (h:zGm J=some r):PFn Tryz.prog 114 [(AV.agg (zI J))] (AV.agg ([AV.osl 22 1 (List.map (cO 3 1 cI) r.lists)]++[])):=by
 refine zm Tryz.func114 rfl Tryz.ntmps114 Tryz.results114 rfl ?_
 unfold zGm at h
 refine zH<|zC<|zX (H':=[.box 55 (zI J)]) (zu (t:=55) rfl)<|zX (H':=[.box 55 (zI J),.box 55 [(ls (cS cI) ([]:List (List Int)))]]) zv1<|zF<|zH ?_
 refine zC<|zX (H':=[.box 55 (zI J),.box 55 [(ls (cS cI) ([]:List (List Int)))],.box 55 [AV.osl 22 1 (List.map (cO 3 1 cI) ([]:List (List Int)))]]) zv6<|zF ?_
 refine zx (r:=r) (fun (l1:List (List Int))=>mkE [(2,(AV.ptr 0 0)),(3,(AV.ptr 1 0))]) (fun l1=>[.box 55 [(ls (cS cI) ([]:List (List Int)))],.box 55 [AV.osl 22 1 (List.map (cO 3 1 cI) l1)]]) (fun l1=>zJ4 l1) ?_ ?_
 ·
  refine zH<|zC<|zA (zK Tryz.underlying55 rfl rfl Tryz.sizeOf53 rfl)<|zA (zN Tryz.isAgg53 rfl rfl rfl rfl)<|zA (zY Tryz.underlying53 rfl)<|zA (zB rfl) ?_
  refine zF<|zR<|zt (σ:=Int×(List (List Int))) (fun (i1,l2)=>mkE [(2,(AV.ptr 0 0)),(3,(AV.ptr 1 0)),(8,(ls (cS cI) J.lists)),(9,(li (J.lists.length:Int))),(10,(li i1))]) (fun (i1,l2)=>[.box 55 [(ls (cS cI) ([]:List (List Int)))],.box 55 [AV.osl 22 1 (List.map (cO 3 1 cI) l2)]]) (fun n0 (i1,l2)=>zGE J n0 i1 l2) (0,([]:List (List Int))) h (fun _=>rfl) (zAD [1,2] rfl rfl (by kernel_rfl)) ?_
  clear h
  rintro n0 ⟨i1,l2⟩ h
  replace h:zD8 J (zGE J n0) i1 l2=some r:=h
  unfold zD8 at h
  refine zH<|zC<|zA (zh rfl rfl)<|zF<|zH ?_
  refine zW h rfl (fun b1 h => ?_) (fun b1 h => ?_)
  ·refine zQ<|zH<|zR<|zH<|zC<|zM h fun b2 h => ?_
   refine zA (zV Tryz.underlying53 Tryz.sizeOf22 (fun _=>rfl) rfl rfl b2)<|zA (zU (o:=0) Tryz.isAgg22 rfl rfl)<|zA (zD rfl)<|zF<|zH<|zC ?_
   refine zA (zD rfl)<|zF<|zH<|zC<|zA (zB rfl)<|zA (zB rfl) ?_
   refine z5 (zMI (d:=14) (el:=3) (sz:=1) rfl)<|zM h fun b3 h=>zFn (f:=cI) (k:=2) (l:=([]:List Int)) (l':=at_ J.lists i1) zGA (fun _=>rfl) Tryz.underlying22 rfl rfl rfl b3<|zA (zD rfl)<|zF<|zC ?_
   refine zA (zK Tryz.underlying55 rfl rfl Tryz.sizeOf53 rfl)<|z5 (zAZ (k:=1) (o:=0) (t':=22) (sz:=1) (rows:=List.map (cO 3 1 cI) l2) rfl rfl)<|zA (zN Tryz.isAgg53 rfl rfl rfl rfl)<|zA (zB rfl)<|zTO (j:=3) (t':=3) (s':=1) (rows:=List.map cI (([]:List Int)++(at_ J.lists i1))) zOv Tryz.underlying53 rfl rfl<|zM h fun b4 h => ?_
   refine zMS (f:=(cO 3 1 cI)) (k:=4) (j:=5) (l:=l2) (l':=[([]:List Int)++(at_ J.lists i1)]) zOv Tryz.underlying53 rfl rfl rfl rfl rfl b4<|zA (zK Tryz.underlying55 rfl rfl Tryz.sizeOf53 rfl)<|zd (H':=[.box 55 [(ls (cS cI) ([]:List (List Int)))],.box 55 [AV.hd 6],.dead,.dead,.dead,.dead,.vec 22 1 (List.map (cO 3 1 cI) (l2++[([]:List Int)++(at_ J.lists i1)]))]) (zC3 (k:=1) (o:=0) (cs:=[AV.hd 4]) (a:=(AV.hd 6)) Tryz.sizeOf53 rfl rfl rfl rfl rfl)<|zF<|zC<|zM h fun b5 h => ?_
   refine zA (zg rfl rfl b5)<|zA (zB rfl)<|zF ?_
   exact ⟨((i1+1),(l2++[([]:List Int)++(at_ J.lists i1)])),Rep.trans (z9 (k:=1) (j:=6) (o:=0) rfl rfl rfl rfl) (zAD [0,1] (l:=[(2,(AV.ptr 0 0)),(3,(AV.ptr 1 0)),(8,(ls (cS cI) J.lists)),(9,(li (J.lists.length:Int))),(10,(li (i1+1)))]) rfl rfl (by kernel_rfl)),h⟩
  refine zz ?_
  exact ⟨l2,zAD [0,1] rfl rfl (by kernel_rfl),h⟩
 clear h
 intro l1 h
 unfold zJ4 at h
 refine zH<|zC<|zX (zKj (k:=1) (cs:=[AV.osl 22 1 (List.map (cO 3 1 cI) l1)]) (m:=1) Tryz.isAgg55 Tryz.sizeOf55 rfl rfl rfl)<|zd (H':=[.box 55 [AV.osl 22 1 (List.map (cO 3 1 cI) l1)],.dead,.dead]) (zBW (k:=0) (o:=0) (j:=2) (cs:=[(ls (cS cI) ([]:List (List Int)))]) (la:=[AV.osl 22 1 (List.map (cO 3 1 cI) l1)]) Tryz.sizeOf55 rfl rfl rfl rfl rfl (by decide))<|zF<|zb ?_
 cases h
 exact zv (zDV Tryz.isAgg55 Tryz.sizeOf55 rfl rfl rfl rfl)
theorem zL0 {A:zJ} {r:zJ} (h:zHw A=some r):PFn Tryz.prog 59 [(AV.agg (zG A))] (AV.agg ([ls cI r.nodes]++([li r.batch]++([li r.high]++([AV.osl 51 10 (List.map zO r.zones)]++([AV.osl 55 1 (List.map zp r.caches)]++[])))))):=by
 refine zm Tryz.func59 rfl Tryz.ntmps59 Tryz.results59 rfl ?_
 unfold zHw at h
 refine zH<|zC<|zX (H':=[.box 26 (zG A)]) (zu (t:=26) rfl)<|zX (H':=[.box 26 (zG A),.box 26 (zG ⟨[],0,0,[],[]⟩)]) zv3<|zF<|zH ?_
 refine zC<|zA (zK Tryz.underlying26 rfl rfl Tryz.sizeOf3 rfl)<|zA (zN Tryz.isAgg3 rfl rfl rfl rfl)<|zA (zK Tryz.underlying26 rfl rfl Tryz.sizeOf3 rfl)<|zA (zN Tryz.isAgg3 rfl rfl rfl rfl)<|zA (zCT (pl:=[(0,1),(1,1),(2,1),(3,1),(4,1)]) (zs:=[.slice none 0 0,.int .i64 0,.int .i64 0,.slice none 0 0,.slice none 0 0]) (zc:=[.osl 3 1 [],.lit (.int .i64 0),.lit (.int .i64 0),.osl 51 10 [],.osl 55 1 []]) (res:=[AV.osl 3 1 (List.map cI ([]:List Int)),li A.batch,li A.high,AV.osl 51 10 (List.map zO ([]:List zi)),AV.osl 55 1 (List.map zp ([]:List zL))]) (fun _=>by kernel_rfl) rfl (⟨zAx.nilo,⟨zAx.refl _,⟨zAx.refl _,⟨zAx.nilo,⟨zAx.nilo,trivial⟩⟩⟩⟩⟩) ⟨li A.batch,1,1,rfl,rfl,rfl,rfl,rfl,⟨li A.high,2,1,rfl,rfl,rfl,rfl,rfl,(by exact zLu.refl _)⟩⟩) ?_
 refine zX (H':=[.box 26 (zG A),.box 26 (zG ⟨[],0,0,[],[]⟩),.box 26 [AV.osl 3 1 (List.map cI ([]:List Int)),li 0,li 0,AV.osl 51 10 (List.map zO ([]:List zi)),AV.osl 55 1 (List.map zp ([]:List zL))]]) zv4<|zd (H':=[.box 26 (zG A),.box 26 (zG ⟨[],0,0,[],[]⟩),.box 26 [AV.osl 3 1 (List.map cI ([]:List Int)),li A.batch,li A.high,AV.osl 51 10 (List.map zO ([]:List zi)),AV.osl 55 1 (List.map zp ([]:List zL))]]) (zT (k:=2) (o:=0) (cs:=[AV.osl 3 1 (List.map cI ([]:List Int)),li 0,li 0,AV.osl 51 10 (List.map zO ([]:List zi)),AV.osl 55 1 (List.map zp ([]:List zL))]) (la:=[AV.osl 3 1 (List.map cI ([]:List Int)),li A.batch,li A.high,AV.osl 51 10 (List.map zO ([]:List zi)),AV.osl 55 1 (List.map zp ([]:List zL))]) Tryz.sizeOf26 rfl rfl rfl rfl)<|zF<|zH<|zC<|zA (zK Tryz.underlying26 rfl rfl Tryz.sizeOf22 rfl) ?_
 refine z5 (zAZ (k:=2) (o:=0) (t':=3) (sz:=1) (rows:=List.map cI ([]:List Int)) rfl rfl)<|zA (zN Tryz.isAgg22 rfl rfl rfl rfl)<|zA (zK Tryz.underlying26 rfl rfl Tryz.sizeOf22 rfl)<|zA (zN Tryz.isAgg22 rfl rfl rfl rfl)<|zM h fun b1 h=>zFn (f:=cI) (k:=3) (l:=([]:List Int)) (l':=A.nodes) zGA (fun _=>rfl) Tryz.underlying22 rfl rfl rfl b1 ?_
 refine zA (zK Tryz.underlying26 rfl rfl Tryz.sizeOf22 rfl)<|zd (H':=[.box 26 (zG A),.box 26 (zG ⟨[],0,0,[],[]⟩),.box 26 [AV.hd 4,li A.batch,li A.high,AV.osl 51 10 (List.map zO ([]:List zi)),AV.osl 55 1 (List.map zp ([]:List zL))],.dead,.vec 3 1 (List.map cI (([]:List Int)++A.nodes))]) (zC3 (k:=2) (o:=0) (cs:=[AV.hd 3,li A.batch,li A.high,AV.osl 51 10 (List.map zO ([]:List zi)),AV.osl 55 1 (List.map zp ([]:List zL))]) (a:=(AV.hd 4)) Tryz.sizeOf22 rfl rfl rfl rfl rfl)<|zF ?_
 refine zx (r:=r) (fun (l1:List zi)=>mkE [(1,(AV.ptr 0 0)),(2,(AV.ptr 1 0)),(3,(AV.ptr 2 0))]) (fun l1=>[.box 26 (zG A),.box 26 (zG ⟨[],0,0,[],[]⟩),.box 26 [AV.osl 3 1 (List.map cI (([]:List Int)++A.nodes)),li A.batch,li A.high,AV.osl 51 10 (List.map zO l1),AV.osl 55 1 (List.map zp ([]:List zL))]]) (fun l1=>zIH A l1) ?_ ?_
 ·
  refine zH<|zC<|zA (zD rfl)<|zF<|zR<|zt (σ:=Int×(List zi)) (fun (i2,l4)=>mkE [(1,(AV.ptr 0 0)),(2,(AV.ptr 1 0)),(3,(AV.ptr 2 0)),(4,(li i2))]) (fun (i2,l4)=>[.box 26 (zG A),.box 26 (zG ⟨[],0,0,[],[]⟩),.box 26 [AV.osl 3 1 (List.map cI (([]:List Int)++A.nodes)),li A.batch,li A.high,AV.osl 51 10 (List.map zO l4),AV.osl 55 1 (List.map zp ([]:List zL))]]) (fun n1 (i2,l4)=>zB2 A n1 i2 l4) (0,([]:List zi)) h (fun _=>rfl) (Rep.trans (z9 (k:=2) (j:=4) (o:=0) rfl rfl rfl rfl) (zAD [0,1,2] (l:=[(1,(AV.ptr 0 0)),(2,(AV.ptr 1 0)),(3,(AV.ptr 2 0)),(4,(li 0))]) rfl rfl (by kernel_rfl))) ?_
  clear h
  rintro n1 ⟨i2,l4⟩ h
  replace h:zED A (zB2 A n1) i2 l4=some r:=h
  unfold zED at h
  refine zH<|zH<|zC<|zA (zB rfl)<|zA (zK Tryz.underlying26 rfl rfl Tryz.sizeOf23 rfl)<|zA (zN Tryz.isAgg23 rfl rfl rfl rfl) ?_
  refine zA (zY Tryz.underlying23 rfl)<|zA (zh rfl rfl)<|zF ?_
  refine zW h rfl (fun b6 h => ?_) (fun b6 h => ?_)
  ·refine zQ ?_
   refine zx (r:=r) (fun (l5:List zi)=>mkE [(1,(AV.ptr 0 0)),(2,(AV.ptr 1 0)),(3,(AV.ptr 2 0)),(4,(li i2))]) (fun l5=>[.box 26 (zG A),.box 26 (zG ⟨[],0,0,[],[]⟩),.box 26 [AV.osl 3 1 (List.map cI (([]:List Int)++A.nodes)),li A.batch,li A.high,AV.osl 51 10 (List.map zO l5),AV.osl 55 1 (List.map zp ([]:List zL))]]) (fun l5=>zIB (zB2 A n1) i2 l5) ?_ ?_
   ·
    refine zR<|zH<|zC<|zA (zK Tryz.underlying26 rfl rfl Tryz.sizeOf23 rfl)<|zA (zN Tryz.isAgg23 rfl rfl rfl rfl)<|zA (zB rfl) ?_
    refine zM h fun b8 h=>zA (zV Tryz.underlying23 Tryz.sizeOf51 (fun _=>rfl) rfl rfl b8)<|zA (zAf (row:=(zO (at_ A.zones i2))) (o:=0) (m:=10) (la:=(zO (at_ A.zones i2))) Tryz.isAgg51 Tryz.sizeOf51 rfl rfl rfl)<|zX (H':=[.box 26 (zG A),.box 26 (zG ⟨[],0,0,[],[]⟩),.box 26 [AV.osl 3 1 (List.map cI (([]:List Int)++A.nodes)),li A.batch,li A.high,AV.osl 51 10 (List.map zO l4),AV.osl 55 1 (List.map zp ([]:List zL))],.box 51 (zO ⟨0,0,0,0,0,(List.replicate 5 ([]:List Int))⟩)]) zv0<|zd (H':=[.box 26 (zG A),.box 26 (zG ⟨[],0,0,[],[]⟩),.box 26 [AV.osl 3 1 (List.map cI (([]:List Int)++A.nodes)),li A.batch,li A.high,AV.osl 51 10 (List.map zO l4),AV.osl 55 1 (List.map zp ([]:List zL))],.box 51 (zO (at_ A.zones i2))]) (zT (k:=3) (o:=0) (cs:=(zO ⟨0,0,0,0,0,(List.replicate 5 ([]:List Int))⟩)) (la:=(zO (at_ A.zones i2))) Tryz.sizeOf51 rfl rfl rfl rfl)<|zF ?_
    refine zx (r:=r) (fun (d1:List (List Int))=>mkE [(1,(AV.ptr 0 0)),(2,(AV.ptr 1 0)),(3,(AV.ptr 2 0)),(4,(li i2)),(5,(AV.ptr 3 0))]) (fun d1=>[.box 26 (zG A),.box 26 (zG ⟨[],0,0,[],[]⟩),.box 26 [AV.osl 3 1 (List.map cI (([]:List Int)++A.nodes)),li A.batch,li A.high,AV.osl 51 10 (List.map zO l4),AV.osl 55 1 (List.map zp ([]:List zL))],.box 51 (zO ⟨((at_ A.zones i2).node),((at_ A.zones i2).kind),((at_ A.zones i2).start),((at_ A.zones i2).count),((at_ A.zones i2).min),d1⟩)]) (fun d1=>zH0 (zB2 A n1) A i2 l4 d1) ?_ ?_
    ·
     refine zH<|zC<|zA (zD rfl)<|zF<|zR<|zt (σ:=Int×(List (List Int))) (fun (i3,d2)=>mkE [(1,(AV.ptr 0 0)),(2,(AV.ptr 1 0)),(3,(AV.ptr 2 0)),(4,(li i2)),(5,(AV.ptr 3 0)),(6,(li i3))]) (fun (i3,d2)=>[.box 26 (zG A),.box 26 (zG ⟨[],0,0,[],[]⟩),.box 26 [AV.osl 3 1 (List.map cI (([]:List Int)++A.nodes)),li A.batch,li A.high,AV.osl 51 10 (List.map zO l4),AV.osl 55 1 (List.map zp ([]:List zL))],.box 51 (zO ⟨((at_ A.zones i2).node),((at_ A.zones i2).kind),((at_ A.zones i2).start),((at_ A.zones i2).count),((at_ A.zones i2).min),d2⟩)]) (fun n2 (i3,d2)=>zGX (zB2 A n1) A i2 l4 n2 i3 d2) (0,((at_ A.zones i2).free)) h (fun _=>rfl) (zAD [0,1,2,3] rfl rfl (by kernel_rfl)) ?_
     clear h
     rintro n2 ⟨i3,d2⟩ h
     replace h:zEA (zB2 A n1) A i2 l4 (zGX (zB2 A n1) A i2 l4 n2) i3 d2=some r:=h
     unfold zEA at h
     refine zH<|zH<|zC<|zA (zB rfl)<|zA (zCj rfl rfl)<|zF ?_
     refine zW h rfl (fun b10 h => ?_) (fun b10 h => ?_)
     ·refine zQ<|zH<|zR<|zH<|zC<|zA (zD rfl) ?_
      refine zF<|zH<|zC<|zA (zB rfl)<|zA (zK Tryz.underlying26 rfl rfl Tryz.sizeOf23 rfl)<|zA (zN Tryz.isAgg23 rfl rfl rfl rfl) ?_
      refine zA (zB rfl)<|zA (zB rfl)<|zM h fun b11 h=>zA (zV Tryz.underlying23 Tryz.sizeOf51 (fun _=>rfl) rfl rfl b11)<|zA (zAw (row:=(zO (at_ A.zones i2))) (o:=0) (off:=5) Tryz.underlying51 rfl rfl Tryz.sizeOf49 rfl)<|zM h fun b12 h => ?_
      refine zA (zOj (m:=5) (s:=1) (i:=i3) (row:=(zO (at_ A.zones i2))) (o:=5) Tryz.underlying49 Tryz.sizeOf22 rfl rfl b12)<|zA (zMi (o:=(5+i3.toNat*1)) (cs:=zO (at_ A.zones i2)) (hd:=([(li ((at_ A.zones i2).node))]++[(li ((at_ A.zones i2).kind))]++[(li ((at_ A.zones i2).start))]++[(li ((at_ A.zones i2).count))]++[(li ((at_ A.zones i2).min))]++[])) (tl:=([])) (g:=(eS cI)) (d0:=([]:List Int)) (l:=(at_ A.zones i2).free) (N:=5) (i:=i3.toNat) (a:=(ls cI (((at_ A.zones i2).free).getD i3.toNat ([]:List Int)))) Tryz.isAgg22 rfl rfl (congrArg (fun q=>5+q) (Nat.mul_one _)) (zBK b12).2 rfl)<|z5 (zMI (d:=36) (el:=3) (sz:=1) rfl)<|zM h fun b13 h=>zFn (f:=cI) (k:=4) (l:=([]:List Int)) (l':=((at_ A.zones i2).free).getD i3.toNat ([]:List Int)) zGA (fun _=>rfl) Tryz.underlying22 rfl rfl rfl b13<|zA (zD rfl) ?_
      refine zF<|zC<|zA (zB rfl)<|zA (zB rfl)<|zA (zK Tryz.underlying51 rfl rfl Tryz.sizeOf49 rfl)<|zA (zAG (m:=5) (s:=1) (i:=i3) (k:=3) (o:=5) Tryz.underlying49 Tryz.sizeOf22 rfl rfl b12) ?_
      refine z5 (zES (j:=5) (ds:=[7,45,47]) (rows':=List.map cI (([]:List Int)++(((at_ A.zones i2).free).getD i3.toNat ([]:List Int)))) rfl (zAM (fun _=>rfl)) ⟨rfl,rfl,rfl,trivial⟩)<|zd (H':=[.box 26 (zG A),.box 26 (zG ⟨[],0,0,[],[]⟩),.box 26 [AV.osl 3 1 (List.map cI (([]:List Int)++A.nodes)),li A.batch,li A.high,AV.osl 51 10 (List.map zO l4),AV.osl 55 1 (List.map zp ([]:List zL))],.box 51 (zO ⟨((at_ A.zones i2).node),((at_ A.zones i2).kind),((at_ A.zones i2).start),((at_ A.zones i2).count),((at_ A.zones i2).min),(zDc 5 ([]:List Int) d2 i3.toNat (([]:List Int)++(((at_ A.zones i2).free).getD i3.toNat ([]:List Int))))⟩),.dead,.dead]) (zPA (k:=3) (o:=(5+i3.toNat*1)) (cs:=(zO ⟨((at_ A.zones i2).node),((at_ A.zones i2).kind),((at_ A.zones i2).start),((at_ A.zones i2).count),((at_ A.zones i2).min),d2⟩)) (hd:=([(li ((at_ A.zones i2).node))]++[(li ((at_ A.zones i2).kind))]++[(li ((at_ A.zones i2).start))]++[(li ((at_ A.zones i2).count))]++[(li ((at_ A.zones i2).min))]++[])) (tl:=([])) (g:=(eS cI)) (d0:=([]:List Int)) (l:=d2) (N:=5) (i:=i3.toNat) (v:=([]:List Int)++(((at_ A.zones i2).free).getD i3.toNat ([]:List Int))) (a:=(ls cI (([]:List Int)++(((at_ A.zones i2).free).getD i3.toNat ([]:List Int))))) Tryz.sizeOf22 rfl rfl rfl (congrArg (fun q=>5+q) (Nat.mul_one _)) (zBK b12).2 rfl rfl rfl)<|zF<|zC<|zA (zB rfl)<|zM h fun b14 h => ?_
      refine zA (zg rfl rfl b14)<|zA (zD rfl)<|zF ?_
      exact ⟨((i3+1),(zDc 5 ([]:List Int) d2 i3.toNat (([]:List Int)++(((at_ A.zones i2).free).getD i3.toNat ([]:List Int))))),zAD [0,1,2,3] rfl rfl (by kernel_rfl),h⟩
     refine zz ?_
     exact ⟨d2,zAD [0,1,2,3] rfl rfl (by kernel_rfl),h⟩
    clear h
    intro d1 h
    unfold zH0 at h
    refine zC<|zA (zK Tryz.underlying26 rfl rfl Tryz.sizeOf23 rfl)<|z5 (zAZ (k:=2) (o:=3) (t':=51) (sz:=10) (rows:=List.map zO l4) rfl rfl)<|zA (zN Tryz.isAgg23 rfl rfl rfl rfl)<|zA (zS (k:=3) (o:=0) (m:=10) Tryz.isAgg51 Tryz.sizeOf51 rfl rfl rfl rfl rfl)<|zF6 (a:=(AV.agg (zO (⟨(at_ A.zones i2).node,(at_ A.zones i2).kind,(at_ A.zones i2).start,(at_ A.zones i2).count,(at_ A.zones i2).min,d1⟩:zi)))) zOk Tryz.underlying23 rfl rfl rfl rfl ?_
    refine zM h fun b9 h=>zDE (f:=zO) (k:=4) (j:=5) (l:=l4) (l':=[(⟨(at_ A.zones i2).node,(at_ A.zones i2).kind,(at_ A.zones i2).start,(at_ A.zones i2).count,(at_ A.zones i2).min,d1⟩:zi)]) zOk (fun _=>rfl) Tryz.underlying23 rfl rfl rfl rfl b9<|zA (zK Tryz.underlying26 rfl rfl Tryz.sizeOf23 rfl)<|zd (H':=[.box 26 (zG A),.box 26 (zG ⟨[],0,0,[],[]⟩),.box 26 [AV.osl 3 1 (List.map cI (([]:List Int)++A.nodes)),li A.batch,li A.high,AV.hd 6,AV.osl 55 1 (List.map zp ([]:List zL))],.box 51 (zO ⟨((at_ A.zones i2).node),((at_ A.zones i2).kind),((at_ A.zones i2).start),((at_ A.zones i2).count),((at_ A.zones i2).min),d1⟩),.dead,.vec 51 10 (List.map zO [(⟨(at_ A.zones i2).node,(at_ A.zones i2).kind,(at_ A.zones i2).start,(at_ A.zones i2).count,(at_ A.zones i2).min,d1⟩:zi)]),.vec 51 10 (List.map zO (l4++[(⟨(at_ A.zones i2).node,(at_ A.zones i2).kind,(at_ A.zones i2).start,(at_ A.zones i2).count,(at_ A.zones i2).min,d1⟩:zi)]))]) (zC3 (k:=2) (o:=3) (cs:=[AV.osl 3 1 (List.map cI (([]:List Int)++A.nodes)),li A.batch,li A.high,AV.hd 4,AV.osl 55 1 (List.map zp ([]:List zL))]) (a:=(AV.hd 6)) Tryz.sizeOf23 rfl rfl rfl rfl rfl)<|zF ?_
    exact ⟨(l4++[(⟨(at_ A.zones i2).node,(at_ A.zones i2).kind,(at_ A.zones i2).start,(at_ A.zones i2).count,(at_ A.zones i2).min,d1⟩:zi)]),Rep.trans (z9 (k:=2) (j:=6) (o:=3) rfl rfl rfl rfl) (zAD [0,1,2] (l:=[(1,(AV.ptr 0 0)),(2,(AV.ptr 1 0)),(3,(AV.ptr 2 0)),(4,(li i2))]) rfl rfl (by kernel_rfl)),h⟩
   clear h
   intro l5 h
   unfold zIB at h
   refine zC<|zA (zB rfl)<|zM h fun b7 h=>zA (zg rfl rfl b7)<|zA (zD rfl)<|zF ?_
   exact ⟨((i2+1),l5),zAD [0,1,2] rfl rfl (by kernel_rfl),h⟩
  refine zz ?_
  exact ⟨l4,zAD [0,1,2] rfl rfl (by kernel_rfl),h⟩
 clear h
 intro l1 h
 unfold zIH at h
 refine zx (r:=r) (fun (l2:List zL)=>mkE [(2,(AV.ptr 0 0)),(3,(AV.ptr 1 0))]) (fun l2=>[.box 26 (zG ⟨[],0,0,[],[]⟩),.box 26 [AV.osl 3 1 (List.map cI (([]:List Int)++A.nodes)),li A.batch,li A.high,AV.osl 51 10 (List.map zO l1),AV.osl 55 1 (List.map zp l2)]]) (fun l2=>zJv A l1 l2) ?_ ?_
 ·
  refine zH<|zC<|zA (zD rfl)<|zF<|zR<|zt (σ:=Int×(List zL)) (fun (i1,l3)=>mkE [(1,(AV.ptr 0 0)),(2,(AV.ptr 1 0)),(3,(AV.ptr 2 0)),(8,(li i1))]) (fun (i1,l3)=>[.box 26 (zG A),.box 26 (zG ⟨[],0,0,[],[]⟩),.box 26 [AV.osl 3 1 (List.map cI (([]:List Int)++A.nodes)),li A.batch,li A.high,AV.osl 51 10 (List.map zO l1),AV.osl 55 1 (List.map zp l3)]]) (fun n0 (i1,l3)=>zGD A l1 n0 i1 l3) (0,([]:List zL)) h (fun _=>rfl) (zAD [0,1,2] rfl rfl (by kernel_rfl)) ?_
  clear h
  rintro n0 ⟨i1,l3⟩ h
  replace h:zEI A l1 (zGD A l1 n0) i1 l3=some r:=h
  unfold zEI at h
  refine zH<|zH<|zC<|zA (zB rfl)<|zA (zK Tryz.underlying26 rfl rfl Tryz.sizeOf24 rfl)<|zA (zN Tryz.isAgg24 rfl rfl rfl rfl) ?_
  refine zA (zY Tryz.underlying24 rfl)<|zA (zh rfl rfl)<|zF ?_
  refine zW h rfl (fun b2 h => ?_) (fun b2 h => ?_)
  ·refine zQ<|zH<|zR<|zAS (zAZ (k:=2) (o:=4) (t':=55) (sz:=1) (rows:=List.map zp l3) rfl rfl)<|zM h fun b3 h=>zP h fun x1 w1 h => ?_
   refine zM h fun b4 h => ?_
   refine zAm (n:=75) (m:=0) [.head 0 2,.head 0 2,.head 0 0,.head 0 0,.head 0 0,.head 0 0,.head 0 0,.tail 0,.tail 1,.tail 2,.head 3 3,.tail 3] [7,8,9,11] [AV.ptr 2 4,AV.hd 3,AV.ptr 0 4,ls zI A.caches,li i1,(AV.rp (zI (at_ A.caches i1)) 0),(AV.agg (zI (at_ A.caches i1))),AV.hd 4,AV.hd 5,AV.hd 6,AV.ptr 2 4,.any] [[.box 26 (zG A),.box 26 (zG ⟨[],0,0,[],[]⟩),.box 26 [AV.osl 3 1 (List.map cI (([]:List Int)++A.nodes)),li A.batch,li A.high,AV.osl 51 10 (List.map zO l1),AV.hd 3],.vec 55 1 (List.map zp l3)],[.box 26 (zG A),.box 26 (zG ⟨[],0,0,[],[]⟩),.box 26 [AV.osl 3 1 (List.map cI (([]:List Int)++A.nodes)),li A.batch,li A.high,AV.osl 51 10 (List.map zO l1),AV.hd 3],.vec 55 1 (List.map zp l3),.val (.agg [AV.osl 22 1 (List.map (cO 3 1 cI) x1.lists)])],[.box 26 (zG A),.box 26 (zG ⟨[],0,0,[],[]⟩),.box 26 [AV.osl 3 1 (List.map cI (([]:List Int)++A.nodes)),li A.batch,li A.high,AV.osl 51 10 (List.map zO l1),AV.hd 3],.vec 55 1 (List.map zp l3),.dead,.vec 55 1 (List.map zp [x1])],[.box 26 (zG A),.box 26 (zG ⟨[],0,0,[],[]⟩),.box 26 [AV.osl 3 1 (List.map cI (([]:List Int)++A.nodes)),li A.batch,li A.high,AV.osl 51 10 (List.map zO l1),AV.hd 3],.dead,.dead,.dead,.vec 55 1 (List.map zp (l3++[x1]))],[.box 26 (zG A),.box 26 (zG ⟨[],0,0,[],[]⟩),.box 26 [AV.osl 3 1 (List.map cI (([]:List Int)++A.nodes)),li A.batch,li A.high,AV.osl 51 10 (List.map zO l1),AV.hd 6],.dead,.dead,.dead,.vec 55 1 (List.map zp (l3++[x1]))]] (by kernel_rfl) (by kernel_rfl) ⟨⟨D1 fun e s p=>zK (k:=2) (o:=0) (off:=4) Tryz.underlying26 rfl rfl Tryz.sizeOf24 (s 3 rfl),D1 fun e s p=>zK (k:=2) (o:=0) (off:=4) Tryz.underlying26 rfl rfl Tryz.sizeOf24 (s 3 rfl),D1 fun e s p=>zK (k:=2) (o:=0) (off:=4) Tryz.underlying26 rfl rfl Tryz.sizeOf24 (s 3 rfl)⟩,⟨D1 fun e s p=>zN (k:=2) (o:=4) Tryz.isAgg24 p.1 rfl rfl rfl,D1 fun e s p=>zN (k:=2) (o:=4) Tryz.isAgg24 p.1 rfl rfl rfl,D1 fun e s p=>zN (k:=2) (o:=4) Tryz.isAgg24 p.1 rfl rfl rfl⟩,D1 fun e s p=>zK (k:=0) (o:=0) (off:=4) Tryz.underlying26 rfl rfl Tryz.sizeOf24 (s 1 rfl),D1 fun e s p=>zN (k:=0) (o:=4) Tryz.isAgg24 p.1 rfl rfl rfl,D1 fun e s p=>zB (s 8 rfl),D1 fun e s p=>zV (f:=zI) (l:=A.caches) (i:=i1) Tryz.underlying24 Tryz.sizeOf55 (fun _=>rfl) p.1 p.2.1 b3,D1 fun e s p=>zAf (row:=(zI (at_ A.caches i1))) (o:=0) (m:=1) (la:=(zI (at_ A.caches i1))) Tryz.isAgg55 Tryz.sizeOf55 p.1 rfl rfl,?_,?_,?_,D1 fun e s p=>zK (k:=2) (o:=0) (off:=4) Tryz.underlying26 rfl rfl Tryz.sizeOf24 (s 3 rfl),?_,trivial⟩ ?_
   ·
    intro e12 s12 p12
    refine zDg (cs:=[AV.osl 22 1 (List.map (cO 3 1 cI) x1.lists)]) (la:=[(AV.agg (zI (at_ A.caches i1)))]) (la':=[(AV.agg (zI (at_ A.caches i1)))]) (S:=[]) Tryz.func114 rfl (by kernel_rfl) (.fn 114) (zAL p12.1 rfl) ⟨zAl.nr rfl,trivial⟩ (zHz w1) (.inl rfl) ?_
    exact zF ⟨fun _=>rfl,rfl⟩
   ·
    intro e13 s13 p13
    refine zTA (j:=4) (cs:=[AV.osl 22 1 (List.map (cO 3 1 cI) x1.lists)]) zO0 Tryz.underlying24 p13.1 rfl rfl rfl rfl ?_
    exact zF ⟨fun _=>rfl,rfl⟩
   ·
    intro e14 s14 p14
    refine zMS (f:=zp) (k:=3) (j:=5) (l:=l3) (l':=[x1]) zO0 Tryz.underlying24 p14.1 rfl p14.2.1 rfl rfl b4 ?_
    exact zF ⟨fun _=>rfl,rfl⟩
   ·
    intro e16 s16 p16
    refine zd (H':=[.box 26 (zG A),.box 26 (zG ⟨[],0,0,[],[]⟩),.box 26 [AV.osl 3 1 (List.map cI (([]:List Int)++A.nodes)),li A.batch,li A.high,AV.osl 51 10 (List.map zO l1),AV.hd 6],.dead,.dead,.dead,.vec 55 1 (List.map zp (l3++[x1]))]) (zC3 (k:=2) (o:=4) (cs:=[AV.osl 3 1 (List.map cI (([]:List Int)++A.nodes)),li A.batch,li A.high,AV.osl 51 10 (List.map zO l1),AV.hd 3]) (a:=(AV.hd 6)) Tryz.sizeOf24 (by exact p16.1) rfl rfl (by exact p16.2.2.2.2.2.2.2.2.2.2.2.2.1) rfl) ?_
    exact zF ⟨fun _=>rfl,rfl⟩
   intro e17 s17 hq1
   refine zAS (zBI (l:=[(1,(AV.ptr 0 0)),(2,(AV.ptr 1 0)),(3,(AV.ptr 2 0)),(8,(li i1))]) ⟨s17 1 rfl,s17 2 rfl,s17 3 rfl,s17 8 rfl,trivial⟩)<|zC<|zA (zB (av:=(li i1)) rfl)<|zM h fun b5 h=>zA (zg (a:=i1) (b:=1) rfl rfl b5)<|zA (zD (av:=(li (i1+1))) rfl) ?_
   refine zF ?_
   exact ⟨((i1+1),(l3++[x1])),Rep.trans (z9 (k:=2) (j:=6) (o:=4) rfl rfl rfl rfl) (zAD [0,1,2] (l:=[(1,(AV.ptr 0 0)),(2,(AV.ptr 1 0)),(3,(AV.ptr 2 0)),(8,(li (i1+1)))]) rfl rfl (by kernel_rfl)),h⟩
  refine zz ?_
  exact ⟨l3,zAD [1,2] rfl rfl (by kernel_rfl),h⟩
 clear h
 intro l2 h
 unfold zJv at h
 refine zH<|zC<|z5 (zA4 (k:=1) (o:=0) (rows':=List.map cI (([]:List Int)++A.nodes)) rfl rfl (zAM (fun _=>rfl)))<|zX (zKj (k:=1) (cs:=[(ls cI (([]:List Int)++A.nodes)),li A.batch,li A.high,AV.osl 51 10 (List.map zO l1),AV.osl 55 1 (List.map zp l2)]) (m:=5) Tryz.isAgg26 Tryz.sizeOf26 rfl rfl rfl)<|zd (H':=[.box 26 [(ls cI (([]:List Int)++A.nodes)),li A.batch,li A.high,AV.osl 51 10 (List.map zO l1),AV.osl 55 1 (List.map zp l2)],.dead,.dead]) (zBW (k:=0) (o:=0) (j:=2) (cs:=(zG ⟨[],0,0,[],[]⟩)) (la:=[(ls cI (([]:List Int)++A.nodes)),li A.batch,li A.high,AV.osl 51 10 (List.map zO l1),AV.osl 55 1 (List.map zp l2)]) Tryz.sizeOf26 rfl rfl rfl rfl rfl (by decide))<|zF ?_
 refine zb ?_
 cases h
 exact zv (zDV Tryz.isAgg26 Tryz.sizeOf26 rfl rfl rfl rfl)
theorem zJy {J:zL} {M:Int} {r:Int} (h:zGo J M=some r):PFn Tryz.prog 122 [(AV.agg (zI J)),li M] (li r):=by
 refine zm Tryz.func122 rfl Tryz.ntmps122 Tryz.results122 rfl ?_
 unfold zGo at h
 refine zH<|zC<|zX (H':=[.box 55 (zI J)]) (zu (t:=55) rfl)<|zA (zD rfl)<|zF<|zH ?_
 refine zH<|zC<|zA (zS (k:=0) (o:=0) (m:=1) Tryz.isAgg55 Tryz.sizeOf55 rfl rfl rfl rfl rfl)<|zA (zK Tryz.underlying55 rfl rfl Tryz.sizeOf53 rfl)<|zA (zN Tryz.isAgg53 rfl rfl rfl rfl)<|zA (zY Tryz.underlying53 rfl) ?_
 refine zP h fun x1 w1 h=>ze Tryz.func96 rfl (by kernel_rfl) (.fn 96) rfl rfl (zLw w1) rfl<|zA (zD rfl)<|zF<|zH<|zC ?_
 refine zA (zB rfl)<|zA (z7 rfl rfl)<|zF ?_
 refine zW h rfl (fun b1 h => ?_) (fun b1 h => ?_)
 ·refine zH<|zC<|zA (zB rfl)<|zA (zD rfl)<|zF<|zb ?_
  cases h
  exact zv (zAI rfl rfl)
 refine zQ<|zH<|zH<|zC<|zA (zB rfl)<|zA (zh rfl rfl) ?_
 refine zA (zB rfl)<|zZ rfl rfl (fun c1=>zq.step (zB rfl))<|zZ rfl rfl (fun c2=>zq.step (zK Tryz.underlying55 rfl rfl Tryz.sizeOf53 rfl))<|zZ rfl rfl (fun c3=>zq.step (zN Tryz.isAgg53 (z8 rfl c3) rfl rfl rfl))<|zZ rfl rfl (fun c4=>zq.step (zY Tryz.underlying53 (z8 rfl c4)))<|zZ rfl rfl (fun c5=>zq.step (zAu (z8 rfl c5) (z8 rfl c5))) ?_
 refine zA (zj rfl rfl)<|zF ?_
 refine zW h rfl (fun b2 h => ?_) (fun b2 h => ?_)
 ·refine zH<|zC<|zA (zD rfl)<|zF<|zb ?_
  cases h
  exact zv (zAI rfl rfl)
 refine zQ<|zH<|zC<|zA (zD rfl)<|zF<|zb ?_
 cases h
 exact zv (zAI rfl rfl)
theorem zP2 {J:zL} {Q:Int} {r:Bool} (h:zOK J Q=some r):PFn Tryz.prog 124 [(AV.agg (zI J)),li Q] (AV.lit (.bool r)):=by
 refine zm Tryz.func124 rfl Tryz.ntmps124 Tryz.results124 rfl ?_
 unfold zOK at h
 refine zH<|zC<|zX (H':=[.box 55 (zI J)]) (zu (t:=55) rfl)<|zA (zD rfl)<|zF ?_
 refine zx (r:=r) (fun (_:Unit)=>mkE []) (fun _=>[]) (fun _=>zLJ ) ?_ ?_
 ·
  refine zH<|zC<|zA (zK Tryz.underlying55 rfl rfl Tryz.sizeOf53 rfl)<|zA (zN Tryz.isAgg53 rfl rfl rfl rfl)<|zA (zY Tryz.underlying53 rfl)<|zA (zB rfl) ?_
  refine zF<|zR<|zt (σ:=Int) (fun i1=>mkE [(1,(li Q)),(10,(ls (cS cI) J.lists)),(11,(li (J.lists.length:Int))),(12,(li i1))]) (fun i1=>[]) (fun n0 i1=>zEh J Q n0 i1) 0 h (fun _=>rfl) (zAD [] rfl rfl (by kernel_rfl)) ?_
  clear h
  intro n0 i1 h
  replace h:zLS J Q (zEh J Q n0) i1=some r:=h
  unfold zLS at h
  refine zH<|zC<|zA (zh rfl rfl)<|zF<|zH ?_
  refine zW h rfl (fun b1 h => ?_) (fun b1 h => ?_)
  ·refine zQ ?_
   refine zx (r:=r) (fun (_:Unit)=>mkE [(1,(li Q)),(10,(ls (cS cI) J.lists)),(11,(li (J.lists.length:Int))),(12,(li i1))]) (fun _=>[]) (fun _=>zLg (zEh J Q n0) i1) ?_ ?_
   ·
    refine zR<|zH<|zC<|zM h fun b3 h=>zA (zV Tryz.underlying53 Tryz.sizeOf22 (fun _=>rfl) rfl rfl b3)<|zA (zU (o:=0) Tryz.isAgg22 rfl rfl) ?_
    refine zA (zD rfl)<|zF<|zH<|zC<|zA (zB rfl)<|zA (zY Tryz.underlying22 rfl) ?_
    refine zA (zB rfl)<|zF<|zR<|zt (σ:=Int) (fun i2=>mkE [(1,(li Q)),(10,(ls (cS cI) J.lists)),(11,(li (J.lists.length:Int))),(12,(li i1)),(16,(ls cI (at_ J.lists i1))),(17,(li ((at_ J.lists i1).length:Int))),(18,(li i2))]) (fun i2=>[]) (fun n1 i2=>zJb (zEh J Q n0) J Q i1 n1 i2) 0 h (fun _=>rfl) (zAD [] rfl rfl (by kernel_rfl)) ?_
    clear h
    intro n1 i2 h
    replace h:zLE (zEh J Q n0) J Q i1 (zJb (zEh J Q n0) J Q i1 n1) i2=some r:=h
    unfold zLE at h
    refine zH<|zC<|zA (zh rfl rfl)<|zF<|zH ?_
    refine zW h rfl (fun b4 h => ?_) (fun b4 h => ?_)
    ·refine zQ<|zH<|zR<|zH<|zC<|zM h fun b5 h => ?_
     refine zA (zV Tryz.underlying22 Tryz.sizeOf3 (fun _=>rfl) rfl rfl b5)<|zA (zU (o:=0) Tryz.isAgg3 rfl rfl)<|zA (zD rfl)<|zF<|zH<|zC ?_
     refine zA (zB rfl)<|zA (zB rfl)<|zA (zA8 rfl rfl)<|zF ?_
     refine zW h rfl (fun b6 h => ?_) (fun b6 h => ?_)
     ·refine zH<|zC<|zA (zD rfl)<|zF<|zb ?_
      cases h
      exact zv (zAI rfl rfl)
     refine zQ<|zC<|zM h fun b7 h=>zA (zg rfl rfl b7)<|zA (zB rfl)<|zF ?_
     exact ⟨(i2+1),zAD [] rfl rfl (by kernel_rfl),h⟩
    refine zz ?_
    exact ⟨(),zAD [] rfl rfl (by kernel_rfl),h⟩
   clear h
   intro _ h
   unfold zLg at h
   refine zC<|zM h fun b2 h=>zA (zg rfl rfl b2)<|zA (zB rfl)<|zF ?_
   exact ⟨(i1+1),zAD [] rfl rfl (by kernel_rfl),h⟩
  refine zz ?_
  exact ⟨(),zAD [] rfl rfl (by kernel_rfl),h⟩
 clear h
 intro _ h
 unfold zLJ at h
 refine zH<|zC<|zA (zD rfl)<|zF<|zb ?_
 cases h
 exact zv (zAI rfl rfl)
theorem zPz {W:List Int} {Q:Int} {V:Int} {r:Bool} (h:zMj W Q V=some r):PFn Tryz.prog 143 [ls cI W,li Q,li V] (AV.lit (.bool r)):=by
 refine zm Tryz.func143 rfl Tryz.ntmps143 Tryz.results143 rfl ?_
 unfold zMj at h
 refine zH<|zC<|zA (zD rfl)<|zF ?_
 refine zx (r:=r) (fun (_:Unit)=>mkE []) (fun _=>[]) (fun _=>zK6 ) ?_ ?_
 ·
  refine zH<|zC<|zA (zB rfl)<|zA (zD rfl)<|zF<|zR ?_
  refine zt (σ:=Int) (fun i1=>mkE [(0,(ls cI W)),(1,(li Q)),(2,(li V)),(7,(li i1))]) (fun i1=>[]) (fun n0 i1=>zIN W Q V n0 i1) Q h (fun _=>rfl) (zAD [] rfl rfl (by kernel_rfl)) ?_
  clear h
  intro n0 i1 h
  replace h:zFZ W Q V (zIN W Q V n0) i1=some r:=h
  unfold zFZ at h
  refine zH<|zH<|zC<|zA (zB rfl)<|zA (zB rfl)<|zA (zB rfl) ?_
  refine zM h fun b1 h=>zA (zFl (k' := .u64) (a:=V) Tryz.underlying3 Tryz.underlying74 rfl b1)<|zM h fun b2 h=>zM h fun b3 h=>zA (zCx (a:=1) (b:=V) rfl rfl b2 b3)<|zM h fun b4 h => ?_
  refine zA (zg rfl rfl b4)<|zA (zh rfl rfl)<|zF ?_
  refine zW h rfl (fun b5 h => ?_) (fun b5 h => ?_)
  ·refine zQ<|zH<|zR<|zH<|zC<|zA (zB rfl) ?_
   refine zA (zB rfl)<|zM h fun b6 h=>zA (zV Tryz.underlying22 Tryz.sizeOf3 (fun _=>rfl) rfl rfl b6)<|zA (zU (o:=0) Tryz.isAgg3 rfl rfl)<|zA (zA8 rfl rfl)<|zF ?_
   refine zW h rfl (fun b7 h => ?_) (fun b7 h => ?_)
   ·refine zH<|zC<|zA (zD rfl)<|zF<|zb ?_
    cases h
    exact zv (zAI rfl rfl)
   refine zQ<|zC<|zA (zB rfl)<|zM h fun b8 h=>zA (zg rfl rfl b8)<|zA (zD rfl) ?_
   refine zF ?_
   exact ⟨(i1+1),zAD [] rfl rfl (by kernel_rfl),h⟩
  refine zz ?_
  exact ⟨(),zAD [] rfl rfl (by kernel_rfl),h⟩
 clear h
 intro _ h
 unfold zK6 at h
 refine zH<|zC<|zA (zD rfl)<|zF<|zb ?_
 cases h
 exact zv (zAI rfl rfl)
theorem zKg {A:zi} {D:List Int} {r:zi} (h:zDd A D=some r):PFn Tryz.prog 121 [(AV.agg (zO A)),ls cI D] (AV.agg (zO r)):=by
 refine zm Tryz.func121 rfl Tryz.ntmps121 Tryz.results121 rfl ?_
 unfold zDd at h
 refine zH<|zC<|zX (H':=[.box 51 (zO A)]) (zu (t:=51) rfl)<|zX (H':=[.box 51 (zO A),.box 51 (zO ⟨0,0,0,0,0,(List.replicate 5 ([]:List Int))⟩)]) zv0<|zF<|zH ?_
 refine zC<|zA (zK Tryz.underlying51 rfl rfl Tryz.sizeOf3 rfl)<|zA (zN Tryz.isAgg3 rfl rfl rfl rfl)<|zA (zK Tryz.underlying51 rfl rfl Tryz.sizeOf3 rfl)<|zA (zN Tryz.isAgg3 rfl rfl rfl rfl)<|zA (zK Tryz.underlying51 rfl rfl Tryz.sizeOf3 rfl) ?_
 refine zA (zN Tryz.isAgg3 rfl rfl rfl rfl)<|zA (zK Tryz.underlying51 rfl rfl Tryz.sizeOf3 rfl)<|zA (zN Tryz.isAgg3 rfl rfl rfl rfl)<|zA (zK Tryz.underlying51 rfl rfl Tryz.sizeOf3 rfl)<|zA (zN Tryz.isAgg3 rfl rfl rfl rfl)<|zA (zCT (pl:=[(0,1),(1,1),(2,1),(3,1),(4,1),(5,5)]) (zs:=[.int .i64 0,.int .i64 0,.int .i64 0,.int .i64 0,.int .i64 0,.slice none 0 0,.slice none 0 0,.slice none 0 0,.slice none 0 0,.slice none 0 0]) (zc:=[.lit (.int .i64 0),.lit (.int .i64 0),.lit (.int .i64 0),.lit (.int .i64 0),.lit (.int .i64 0),.osl 3 1 [],.osl 3 1 [],.osl 3 1 [],.osl 3 1 [],.osl 3 1 []]) (res:=([li A.node,li A.kind,li A.start,li A.count,li A.min]++((cM 5 3 (5:Int) (List.replicate 5 ([]:List Int)))++[]))) (fun _=>by kernel_rfl) rfl (⟨zAx.refl _,⟨zAx.refl _,⟨zAx.refl _,⟨zAx.refl _,⟨zAx.refl _,⟨zAx.nilo,⟨zAx.nilo,⟨zAx.nilo,⟨zAx.nilo,⟨zAx.nilo,trivial⟩⟩⟩⟩⟩⟩⟩⟩⟩⟩) ⟨li A.node,0,1,rfl,rfl,rfl,rfl,rfl,⟨li A.kind,1,1,rfl,rfl,rfl,rfl,rfl,⟨li A.start,2,1,rfl,rfl,rfl,rfl,rfl,⟨li A.count,3,1,rfl,rfl,rfl,rfl,rfl,⟨li A.min,4,1,rfl,rfl,rfl,rfl,rfl,(by exact zLu.refl _)⟩⟩⟩⟩⟩) ?_
 refine zX (H':=[.box 51 (zO A),.box 51 (zO ⟨0,0,0,0,0,(List.replicate 5 ([]:List Int))⟩),.box 51 (zO ⟨0,0,0,0,0,(List.replicate 5 ([]:List Int))⟩)]) zv0<|zd (H':=[.box 51 (zO A),.box 51 (zO ⟨0,0,0,0,0,(List.replicate 5 ([]:List Int))⟩),.box 51 ([li A.node,li A.kind,li A.start,li A.count,li A.min]++((cM 5 3 (5:Int) (List.replicate 5 ([]:List Int)))++[]))]) (zT (k:=2) (o:=0) (cs:=(zO ⟨0,0,0,0,0,(List.replicate 5 ([]:List Int))⟩)) (la:=([li A.node,li A.kind,li A.start,li A.count,li A.min]++((cM 5 3 (5:Int) (List.replicate 5 ([]:List Int)))++[]))) Tryz.sizeOf51 rfl rfl rfl rfl)<|zF<|zH<|zC<|zA (zB rfl) ?_
 refine zA (zY Tryz.underlying22 rfl)<|zM h fun b1 h=>zEU (f:=cI) (a:=(D.length:Int)) (c:=(D.length:Int)) (d0:=0) zGA ⟨zAx.refl _,trivial⟩ rfl Tryz.underlying22 rfl rfl b1<|zA (zD rfl)<|zF ?_
 refine zx (r:=r) (fun (l1:List Int)=>mkE [(2,(AV.ptr 0 0)),(4,(AV.ptr 1 0)),(5,(AV.ptr 2 0)),(6,(AV.hd 3))]) (fun l1=>[.box 51 (zO A),.box 51 (zO ⟨0,0,0,0,0,(List.replicate 5 ([]:List Int))⟩),.box 51 ([li A.node,li A.kind,li A.start,li A.count,li A.min]++((cM 5 3 (5:Int) (List.replicate 5 ([]:List Int)))++[])),.vec 3 1 (List.map cI l1)]) (fun l1=>zHF A l1) ?_ ?_
 ·
  refine zH<|zC<|zA (zD rfl)<|zF<|zR<|zt (σ:=Int×(List Int)) (fun (i4,l12)=>mkE [(1,(ls cI D)),(2,(AV.ptr 0 0)),(4,(AV.ptr 1 0)),(5,(AV.ptr 2 0)),(6,(AV.hd 3)),(7,(li i4))]) (fun (i4,l12)=>[.box 51 (zO A),.box 51 (zO ⟨0,0,0,0,0,(List.replicate 5 ([]:List Int))⟩),.box 51 ([li A.node,li A.kind,li A.start,li A.count,li A.min]++((cM 5 3 (5:Int) (List.replicate 5 ([]:List Int)))++[])),.vec 3 1 (List.map cI l12)]) (fun n3 (i4,l12)=>zG7 A D n3 i4 l12) (0,(List.replicate (D.length:Int).toNat 0)) h (fun _=>rfl) (zAD [0,1,2,3] rfl rfl (by kernel_rfl)) ?_
  clear h
  rintro n3 ⟨i4,l12⟩ h
  replace h:zE4 A D (zG7 A D n3) i4 l12=some r:=h
  unfold zE4 at h
  refine zH<|zH<|zC<|zA (zB rfl)<|zA (zB rfl)<|zA (zY Tryz.underlying22 rfl) ?_
  refine zA (zh rfl rfl)<|zF ?_
  refine zW h rfl (fun b18 h => ?_) (fun b18 h => ?_)
  ·refine zQ<|zH<|zR<|zC<|zA (zB rfl)<|zA (zB rfl) ?_
   refine zA (zB rfl)<|zA (zB rfl)<|zM h fun b19 h=>zA (zV Tryz.underlying22 Tryz.sizeOf3 (fun _=>rfl) rfl rfl b19)<|zA (zU (o:=0) Tryz.isAgg3 rfl rfl)<|zM h fun b20 h => ?_
   refine zA (zy (f:=cI) (l:=l12) (i:=i4) Tryz.underlying22 Tryz.sizeOf3 rfl rfl rfl b20)<|zd (H':=[.box 51 (zO A),.box 51 (zO ⟨0,0,0,0,0,(List.replicate 5 ([]:List Int))⟩),.box 51 ([li A.node,li A.kind,li A.start,li A.count,li A.min]++((cM 5 3 (5:Int) (List.replicate 5 ([]:List Int)))++[])),.vec 3 1 (List.map cI (l12.set i4.toNat (at_ D i4)))]) (zBZ (k:=3) (o:=(i4.toNat*1)) (f:=cI) (l:=l12) (i:=i4) (c:=0) (a:=(li (at_ D i4))) (z:=at_ D i4) Tryz.sizeOf3 rfl rfl (by first | rfl | omega) b20 rfl rfl rfl rfl rfl)<|zF<|zC<|zA (zB rfl)<|zM h fun b21 h => ?_
   refine zA (zg rfl rfl b21)<|zA (zD rfl)<|zF ?_
   exact ⟨((i4+1),(l12.set i4.toNat (at_ D i4))),zAD [0,1,2,3] rfl rfl (by kernel_rfl),h⟩
  refine zz ?_
  exact ⟨l12,zAD [0,1,2,3] rfl rfl (by kernel_rfl),h⟩
 clear h
 intro l1 h
 unfold zHF at h
 refine zx (r:=r) (fun (l2:List (List Int))=>mkE [(4,(AV.ptr 0 0)),(5,(AV.ptr 1 0))]) (fun l2=>[.box 51 (zO ⟨0,0,0,0,0,(List.replicate 5 ([]:List Int))⟩),.box 51 ([li A.node,li A.kind,li A.start,li A.count,li A.min]++((cM 5 3 (5:Int) l2)++[]))]) (fun l2=>zKo A l2) ?_ ?_
 ·
  refine zH<|zC<|zA (zD rfl)<|zF<|zR<|zt (σ:=Int×(List (List Int))×(List Int)) (fun (i1,l3,l4)=>mkE [(2,(AV.ptr 0 0)),(4,(AV.ptr 1 0)),(5,(AV.ptr 2 0)),(6,(AV.hd 3)),(8,(li i1))]) (fun (i1,l3,l4)=>[.box 51 (zO A),.box 51 (zO ⟨0,0,0,0,0,(List.replicate 5 ([]:List Int))⟩),.box 51 ([li A.node,li A.kind,li A.start,li A.count,li A.min]++((cM 5 3 (5:Int) l3)++[])),.vec 3 1 (List.map cI l4)]) (fun n0 (i1,l3,l4)=>zBP A n0 i1 l3 l4) (4,(List.replicate 5 ([]:List Int)),l1) h (fun _=>rfl) (zAD [0,1,2,3] rfl rfl (by kernel_rfl)) ?_
  clear h
  rintro n0 ⟨i1,l3,l4⟩ h
  replace h:zE5 A (zBP A n0) i1 l3 l4=some r:=h
  unfold zE5 at h
  refine zH<|zH<|zC<|zA (zB rfl)<|zA (zAu rfl rfl)<|zF ?_
  refine zW h rfl (fun b2 h => ?_) (fun b2 h => ?_)
  ·refine zQ ?_
   refine zx (r:=r) (fun ((l5,l6):(List (List Int))×(List Int))=>mkE [(2,(AV.ptr 0 0)),(4,(AV.ptr 1 0)),(5,(AV.ptr 2 0)),(6,(AV.hd 3)),(8,(li i1))]) (fun (l5,l6)=>[.box 51 (zO A),.box 51 (zO ⟨0,0,0,0,0,(List.replicate 5 ([]:List Int))⟩),.box 51 ([li A.node,li A.kind,li A.start,li A.count,li A.min]++((cM 5 3 (5:Int) l5)++[])),.vec 3 1 (List.map cI l6)]) (fun (l5,l6)=>zIq (zBP A n0) i1 l5 l6) ?_ ?_
   ·
    refine zR<|zH<|zC<|zA (zK Tryz.underlying51 rfl rfl Tryz.sizeOf3 rfl)<|zA (zN Tryz.isAgg3 rfl rfl rfl rfl)<|zA (zD rfl) ?_
    refine zF<|zR<|zt (σ:=Int×(List (List Int))×(List Int)) (fun (i2,l7,l8)=>mkE [(2,(AV.ptr 0 0)),(4,(AV.ptr 1 0)),(5,(AV.ptr 2 0)),(6,(AV.hd 3)),(8,(li i1)),(9,(li i2))]) (fun (i2,l7,l8)=>[.box 51 (zO A),.box 51 (zO ⟨0,0,0,0,0,(List.replicate 5 ([]:List Int))⟩),.box 51 ([li A.node,li A.kind,li A.start,li A.count,li A.min]++((cM 5 3 (5:Int) l7)++[])),.vec 3 1 (List.map cI l8)]) (fun n1 (i2,l7,l8)=>zCn (zBP A n0) A i1 n1 i2 l7 l8) (A.start,l3,l4) h (fun _=>rfl) (zAD [0,1,2,3] rfl rfl (by kernel_rfl)) ?_
    clear h
    rintro n1 ⟨i2,l7,l8⟩ h
    replace h:zEs (zBP A n0) A i1 (zCn (zBP A n0) A i1 n1) i2 l7 l8=some r:=h
    unfold zEs at h
    refine zH<|zH<|zC<|zA (zB rfl)<|zA (zK Tryz.underlying51 rfl rfl Tryz.sizeOf3 rfl)<|zA (zN Tryz.isAgg3 rfl rfl rfl rfl) ?_
    refine zA (zK Tryz.underlying51 rfl rfl Tryz.sizeOf3 rfl)<|zA (zN Tryz.isAgg3 rfl rfl rfl rfl)<|zM h fun b4 h=>zA (zg rfl rfl b4)<|zA (zh rfl rfl)<|zF ?_
    refine zW h rfl (fun b5 h => ?_) (fun b5 h => ?_)
    ·refine zQ ?_
     refine zx (r:=r) (fun ((l9,l10):(List (List Int))×(List Int))=>mkE [(2,(AV.ptr 0 0)),(4,(AV.ptr 1 0)),(5,(AV.ptr 2 0)),(6,(AV.hd 3)),(8,(li i1)),(9,(li i2))]) (fun (l9,l10)=>[.box 51 (zO A),.box 51 (zO ⟨0,0,0,0,0,(List.replicate 5 ([]:List Int))⟩),.box 51 ([li A.node,li A.kind,li A.start,li A.count,li A.min]++((cM 5 3 (5:Int) l9)++[])),.vec 3 1 (List.map cI l10)]) (fun (l9,l10)=>zEj (zCn (zBP A n0) A i1 n1) i2 l9 l10) ?_ ?_
     ·
      refine zR<|zH<|zC<|zA (zS (k:=0) (o:=0) (m:=10) Tryz.isAgg51 Tryz.sizeOf51 rfl rfl rfl rfl rfl)<|zA (zB rfl)<|zA (zB rfl) ?_
      refine zP h fun x1 w1 h=>ze Tryz.func72 rfl (by kernel_rfl) (.fn 72) rfl rfl (zFF w1) rfl<|zA (zB rfl)<|zo rfl rfl (fun c1=>zq.step (zB rfl))<|zo rfl rfl (fun c2=>zq.step (zB rfl))<|zo rfl rfl (fun c3=>zq.step (zB rfl)) ?_
      refine zP h fun x2 w2 h=>zCU (g:=57) (s:=x1) (r':=(AV.lit (.bool x2))) rfl rfl (fun c4=>⟨143,_,_,[],[AV.hd 3,li i2,li i1],[ls cI l8,li i2,li i1],(AV.lit (.bool x2)),[3],Tryz.func143,rfl,by kernel_rfl,.fn 143,(zAL (z8 rfl c4) (zAL (z8 rfl c4) (zAL (z8 rfl c4) rfl))),⟨zGf (fun _=>rfl) rfl rfl,zAl.nr rfl,zAl.nr rfl,trivial⟩,zPz (zFy c4 w2),.inr trivial,rfl⟩)<|zA (z6 (j := .lit undef) rfl rfl)<|zF ?_
      refine zW h rfl (fun b7 h => ?_) (fun b7 h => ?_)
      ·refine zH<|zC<|zA (zB rfl)<|zA (zB rfl)<|zA (zK Tryz.underlying51 rfl rfl Tryz.sizeOf49 rfl)<|zM h fun b8 h => ?_
       refine zA (zAG (m:=5) (s:=1) (i:=i1) (k:=2) (o:=5) Tryz.underlying49 Tryz.sizeOf22 rfl rfl b8)<|zM h fun b9 h=>z5 (zIQ (k:=2) (cs:=([li A.node,li A.kind,li A.start,li A.count,li A.min]++((cM 5 3 (5:Int) l7)++[]))) (hd:=([li A.node]++[li A.kind]++[li A.start]++[li A.count]++[li A.min]++[])) (tl:=([])) (N:=5) (T:=3) (K:=5) (l:=l7) (i:=i1) rfl rfl b8 b9)<|zA (zCw (k:=2) (o:=(5+i1.toNat*1)) (cs:=([li A.node,li A.kind,li A.start,li A.count,li A.min]++((List.set (cM 5 3 (5:Int) l7) i1.toNat (AV.hd 4))++[]))) (hd:=([li A.node]++[li A.kind]++[li A.start]++[li A.count]++[li A.min]++[])) (tl:=([])) (s:=(cM 5 3 (5:Int) l7)) (i:=i1) (j:=4) Tryz.isAgg22 rfl rfl rfl (congrArg (fun q=>5+q) (Nat.mul_one _)) (zF9 b8))<|zA (zB rfl)<|zF6 (a:=(li i2)) zGA Tryz.underlying22 rfl rfl rfl rfl ?_
       refine zM h fun b10 h=>zDE (f:=cI) (k:=4) (j:=5) (l:=l7.getD i1.toNat []) (l':=[i2]) zGA (fun _=>rfl) Tryz.underlying22 rfl rfl rfl rfl b10<|zA (zK Tryz.underlying51 rfl rfl Tryz.sizeOf49 rfl)<|zA (zAG (m:=5) (s:=1) (i:=i1) (k:=2) (o:=5) Tryz.underlying49 Tryz.sizeOf22 rfl rfl b8)<|zd (H':=[.box 51 (zO A),.box 51 (zO ⟨0,0,0,0,0,(List.replicate 5 ([]:List Int))⟩),.box 51 ([li A.node,li A.kind,li A.start,li A.count,li A.min]++((List.set (cM 5 3 (5:Int) l7) i1.toNat (AV.hd 6))++[])),.vec 3 1 (List.map cI l8),.dead,.vec 3 1 (List.map cI [i2]),.vec 3 1 (List.map cI ((l7.getD i1.toNat [])++[i2]))]) (zFo (k:=2) (o:=(5+i1.toNat*1)) (cs:=([li A.node,li A.kind,li A.start,li A.count,li A.min]++((List.set (cM 5 3 (5:Int) l7) i1.toNat (AV.hd 4))++[]))) (hd:=([li A.node]++[li A.kind]++[li A.start]++[li A.count]++[li A.min]++[])) (tl:=([])) (s:=(cM 5 3 (5:Int) l7)) (i:=i1) (a:=(AV.hd 6)) Tryz.sizeOf22 rfl rfl rfl (congrArg (fun q=>5+q) (Nat.mul_one _)) (zF9 b8) rfl rfl)<|zF ?_
       refine zH<|zC<|zA (zB rfl)<|zA (zD rfl)<|zF<|zR ?_
       refine zt (σ:=Int×(List Int)) (fun (i3,l11)=>mkE [(2,(AV.ptr 0 0)),(4,(AV.ptr 1 0)),(5,(AV.ptr 2 0)),(6,(AV.hd 3)),(8,(li i1)),(9,(li i2)),(10,(li i3))]) (fun (i3,l11)=>[.box 51 (zO A),.box 51 (zO ⟨0,0,0,0,0,(List.replicate 5 ([]:List Int))⟩),.box 51 ([li A.node,li A.kind,li A.start,li A.count,li A.min]++((cM 5 3 (5:Int) (zDc 5 [] l7 i1.toNat ((l7.getD i1.toNat [])++[i2])))++[])),.vec 3 1 (List.map cI l11)]) (fun n2 (i3,l11)=>zHV (zCn (zBP A n0) A i1 n1) i1 i2 l7 n2 i3 l11) (i2,l8) h (fun _=>rfl) (Rep.trans (zHv (j:=6) (l':=(l7.getD i1.toNat [])++[i2]) (k:=2) (cs:=([li A.node,li A.kind,li A.start,li A.count,li A.min]++((List.set (cM 5 3 (5:Int) l7) i1.toNat (AV.hd 6))++[]))) (hd:=([li A.node]++[li A.kind]++[li A.start]++[li A.count]++[li A.min]++[])) (tl:=([])) (N:=5) (T:=3) (K:=5) (l:=l7) (i:=i1) rfl rfl b8 b9 rfl rfl) (zAD [0,1,2,3] (l:=[(2,(AV.ptr 0 0)),(4,(AV.ptr 1 0)),(5,(AV.ptr 2 0)),(6,(AV.hd 3)),(8,(li i1)),(9,(li i2)),(10,(li i2))]) rfl rfl (by kernel_rfl))) ?_
       clear h
       rintro n2 ⟨i3,l11⟩ h
       replace h:zEm (zCn (zBP A n0) A i1 n1) i1 i2 l7 (zHV (zCn (zBP A n0) A i1 n1) i1 i2 l7 n2) i3 l11=some r:=h
       unfold zEm at h
       refine zH<|zH<|zC<|zA (zB rfl)<|zA (zB rfl)<|zA (zB rfl) ?_
       refine zM h fun b11 h=>zA (zFl (k' := .u64) (a:=i1) Tryz.underlying3 Tryz.underlying74 rfl b11)<|zM h fun b12 h=>zM h fun b13 h=>zA (zCx (a:=1) (b:=i1) rfl rfl b12 b13)<|zM h fun b14 h => ?_
       refine zA (zg rfl rfl b14)<|zA (zh rfl rfl)<|zF ?_
       refine zW h rfl (fun b15 h => ?_) (fun b15 h => ?_)
       ·refine zQ<|zH<|zR<|zC<|zA (zB rfl)<|zA (zB rfl) ?_
        refine zM h fun b16 h=>zA (zy (f:=cI) (l:=l11) (i:=i3) Tryz.underlying22 Tryz.sizeOf3 rfl rfl rfl b16)<|zd (H':=[.box 51 (zO A),.box 51 (zO ⟨0,0,0,0,0,(List.replicate 5 ([]:List Int))⟩),.box 51 ([li A.node,li A.kind,li A.start,li A.count,li A.min]++((cM 5 3 (5:Int) (zDc 5 [] l7 i1.toNat ((l7.getD i1.toNat [])++[i2])))++[])),.vec 3 1 (List.map cI (l11.set i3.toNat 0))]) (zBZ (k:=3) (o:=(i3.toNat*1)) (f:=cI) (l:=l11) (i:=i3) (c:=0) (a:=(li 0)) (z:=0) Tryz.sizeOf3 rfl rfl (by first | rfl | omega) b16 rfl rfl rfl rfl rfl)<|zF<|zC<|zA (zB rfl) ?_
        refine zM h fun b17 h=>zA (zg rfl rfl b17)<|zA (zD rfl)<|zF ?_
        exact ⟨((i3+1),(l11.set i3.toNat 0)),zAD [0,1,2,3] rfl rfl (by kernel_rfl),h⟩
       refine zz ?_
       exact ⟨((zDc 5 [] l7 i1.toNat ((l7.getD i1.toNat [])++[i2])),l11),zAD [0,1,2,3] rfl rfl (by kernel_rfl),h⟩
      refine zQ ?_
      exact ⟨(l7,l8),zAD [0,1,2,3] rfl rfl (by kernel_rfl),h⟩
     clear h
     rintro ⟨l9,l10⟩ h
     unfold zEj at h
     refine zC<|zA (zB rfl)<|zM h fun b6 h=>zA (zg rfl rfl b6)<|zA (zD rfl)<|zF ?_
     exact ⟨((i2+1),l9,l10),zAD [0,1,2,3] rfl rfl (by kernel_rfl),h⟩
    refine zz ?_
    exact ⟨(l7,l8),zAD [0,1,2,3] rfl rfl (by kernel_rfl),h⟩
   clear h
   rintro ⟨l5,l6⟩ h
   unfold zIq at h
   refine zC<|zA (zB rfl)<|zM h fun b3 h=>zA (zBa rfl rfl b3)<|zA (zD rfl)<|zF ?_
   exact ⟨((i1 - 1),l5,l6),zAD [0,1,2,3] rfl rfl (by kernel_rfl),h⟩
  refine zz ?_
  exact ⟨l3,zAD [1,2] rfl rfl (by kernel_rfl),h⟩
 clear h
 intro l2 h
 unfold zKo at h
 refine zH<|zC<|z5 (zKT (k:=1) (cs:=([li A.node,li A.kind,li A.start,li A.count,li A.min]++((cM 5 3 (5:Int) l2)++[]))) (hd:=([li A.node]++[li A.kind]++[li A.start]++[li A.count]++[li A.min]++[])) (tl:=([])) (N:=5) (T:=3) (K:=5) (l:=l2) rfl rfl)<|zA (zS (k:=1) (o:=0) (m:=10) Tryz.isAgg51 Tryz.sizeOf51 rfl rfl rfl rfl rfl)<|zd (H':=[.box 51 (zO (⟨A.node,A.kind,A.start,A.count,A.min,l2⟩:zi)),.box 51 (zO ⟨A.node,A.kind,A.start,A.count,A.min,l2⟩)]) (zT (k:=0) (o:=0) (cs:=(zO ⟨0,0,0,0,0,(List.replicate 5 ([]:List Int))⟩)) (la:=(zO (⟨A.node,A.kind,A.start,A.count,A.min,l2⟩:zi))) Tryz.sizeOf51 rfl rfl rfl rfl)<|zF ?_
 refine zb ?_
 cases h
 exact zv (zDV Tryz.isAgg51 Tryz.sizeOf51 rfl rfl rfl rfl)
theorem zPH {C:zi} {Q:Int} {V:Int} {r:zi×Int} (h:zIz C Q V=some r):PFn Tryz.prog 73 [(AV.agg (zO C)),li Q,li V] (AV.tup [(AV.agg (zO r.1)),li r.2]):=by
 refine zm Tryz.func73 rfl Tryz.ntmps73 Tryz.results73 rfl ?_
 unfold zIz at h
 refine zH<|zC<|zX (H':=[.box 51 (zO C)]) (zu (t:=51) rfl)<|zX (H':=[.box 51 (zO C),.box 51 (zO ⟨0,0,0,0,0,(List.replicate 5 ([]:List Int))⟩)]) zv0<|zA (zD rfl)<|zF ?_
 refine zH<|zH<|zC<|zA (zS (k:=0) (o:=0) (m:=10) Tryz.isAgg51 Tryz.sizeOf51 rfl rfl rfl rfl rfl)<|zP h fun x1 w1 h=>ze Tryz.func47 rfl (by kernel_rfl) (.fn 47) rfl rfl (zGL w1) rfl ?_
 refine zA (zD rfl)<|zF<|zH<|zC<|zA (zB rfl)<|zA (z7 rfl rfl) ?_
 refine zF ?_
 refine zW h rfl (fun b1 h => ?_) (fun b1 h => ?_)
 ·refine zH<|zC<|zA zv9<|zA (zB rfl)<|zd (H':=[.box 51 (zO C),.box 51 (zO (⟨0,0,0,0,0,(List.replicate 5 ([]:List Int))⟩:zi))]) (zT (k:=1) (o:=0) (cs:=(zO ⟨0,0,0,0,0,(List.replicate 5 ([]:List Int))⟩)) (la:=(zO (⟨0,0,0,0,0,(List.replicate 5 ([]:List Int))⟩:zi))) Tryz.sizeOf51 rfl rfl rfl rfl)<|zA (zD rfl) ?_
  refine zF<|zb ?_
  cases h
  exact zA5 (zDV Tryz.isAgg51 Tryz.sizeOf51 rfl rfl rfl rfl) (zAI rfl rfl) rfl
 refine zQ<|zH<|zH<|zC<|zA (zS (k:=0) (o:=0) (m:=10) Tryz.isAgg51 Tryz.sizeOf51 rfl rfl rfl rfl rfl)<|zA (zB rfl) ?_
 refine zA (zB rfl)<|zP h fun x2 w2 h=>ze Tryz.func72 rfl (by kernel_rfl) (.fn 72) rfl rfl (zFF w2) rfl<|zA (zAv (t:=x2) rfl)<|zF ?_
 refine zW h rfl (fun b2 h => ?_) (fun b2 h => ?_)
 ·refine zH<|zC<|zA zv9<|zd (H':=[.box 51 (zO C),.box 51 (zO (⟨0,0,0,0,0,(List.replicate 5 ([]:List Int))⟩:zi))]) (zT (k:=1) (o:=0) (cs:=(zO ⟨0,0,0,0,0,(List.replicate 5 ([]:List Int))⟩)) (la:=(zO (⟨0,0,0,0,0,(List.replicate 5 ([]:List Int))⟩:zi))) Tryz.sizeOf51 rfl rfl rfl rfl)<|zA (zD rfl)<|zF ?_
  refine zb ?_
  cases h
  exact zA5 (zDV Tryz.isAgg51 Tryz.sizeOf51 rfl rfl rfl rfl) (zAI rfl rfl) rfl
 refine zQ<|zH<|zC<|zA (zS (k:=0) (o:=0) (m:=10) Tryz.isAgg51 Tryz.sizeOf51 rfl rfl rfl rfl rfl)<|zP h fun x3 w3 h=>zGJ (T:=3) (sz:=1) (rows:=List.map cI x3) (la:=[(AV.agg (zO C))]) (la':=[(AV.agg (zO C))]) (S:=[]) Tryz.func95 rfl (by kernel_rfl) (.fn 95) rfl ⟨zAl.nr rfl,trivial⟩ (zIM w3) (.inl rfl) ?_
 refine zA (zD rfl)<|zF ?_
 refine zx (r:=r) (fun (l1:List Int)=>mkE [(3,(AV.ptr 0 0)),(6,(AV.ptr 1 0)),(9,(AV.hd 2))]) (fun l1=>[.box 51 (zO C),.box 51 (zO ⟨0,0,0,0,0,(List.replicate 5 ([]:List Int))⟩),.vec 3 1 (List.map cI l1)]) (fun l1=>zIu C l1) ?_ ?_
 ·
  refine zH<|zC<|zA (zB rfl)<|zA (zD rfl)<|zF<|zR ?_
  refine zt (σ:=Int×(List Int)) (fun (i1,l2)=>mkE [(1,(li Q)),(2,(li V)),(3,(AV.ptr 0 0)),(6,(AV.ptr 1 0)),(9,(AV.hd 2)),(10,(li i1))]) (fun (i1,l2)=>[.box 51 (zO C),.box 51 (zO ⟨0,0,0,0,0,(List.replicate 5 ([]:List Int))⟩),.vec 3 1 (List.map cI l2)]) (fun n0 (i1,l2)=>zHJ C Q V n0 i1 l2) (Q,x3) h (fun _=>rfl) (zAD [0,1,2] rfl rfl (by kernel_rfl)) ?_
  clear h
  rintro n0 ⟨i1,l2⟩ h
  replace h:zEr C Q V (zHJ C Q V n0) i1 l2=some r:=h
  unfold zEr at h
  refine zH<|zH<|zC<|zA (zB rfl)<|zA (zB rfl)<|zA (zB rfl) ?_
  refine zM h fun b3 h=>zA (zFl (k' := .u64) (a:=V) Tryz.underlying3 Tryz.underlying74 rfl b3)<|zM h fun b4 h=>zM h fun b5 h=>zA (zCx (a:=1) (b:=V) rfl rfl b4 b5)<|zM h fun b6 h => ?_
  refine zA (zg rfl rfl b6)<|zA (zh rfl rfl)<|zF ?_
  refine zW h rfl (fun b7 h => ?_) (fun b7 h => ?_)
  ·refine zQ<|zH<|zR<|zH<|zH<|zC ?_
   refine zA (zB rfl)<|zA (zB rfl)<|zM h fun b8 h=>zA (zy (f:=cI) (l:=l2) (i:=i1) Tryz.underlying22 Tryz.sizeOf3 rfl rfl rfl b8)<|zA (zA3 (f:=cI) (l:=l2) (i:=i1) (c:=0) (a:=(li (at_ l2 i1))) Tryz.isAgg3 rfl rfl (by first | rfl | omega) b8 rfl rfl)<|zA (zAo rfl rfl) ?_
   refine zF ?_
   refine zW h rfl (fun b9 h => ?_) (fun b9 h => ?_)
   ·refine zH<|zC<|zA zv9<|zd (H':=[.box 51 (zO C),.box 51 (zO (⟨0,0,0,0,0,(List.replicate 5 ([]:List Int))⟩:zi)),.vec 3 1 (List.map cI l2)]) (zT (k:=1) (o:=0) (cs:=(zO ⟨0,0,0,0,0,(List.replicate 5 ([]:List Int))⟩)) (la:=(zO (⟨0,0,0,0,0,(List.replicate 5 ([]:List Int))⟩:zi))) Tryz.sizeOf51 rfl rfl rfl rfl)<|zA (zD rfl)<|zF ?_
    refine zb ?_
    cases h
    exact zA5 (zDV Tryz.isAgg51 Tryz.sizeOf51 rfl rfl rfl rfl) (zAI rfl rfl) rfl
   refine zQ<|zC<|zA (zB rfl)<|zA (zB rfl)<|zA (zy (f:=cI) (l:=l2) (i:=i1) Tryz.underlying22 Tryz.sizeOf3 rfl rfl rfl b8)<|zd (H':=[.box 51 (zO C),.box 51 (zO ⟨0,0,0,0,0,(List.replicate 5 ([]:List Int))⟩),.vec 3 1 (List.map cI (l2.set i1.toNat 1))]) (zBZ (k:=2) (o:=(i1.toNat*1)) (f:=cI) (l:=l2) (i:=i1) (c:=0) (a:=(li 1)) (z:=1) Tryz.sizeOf3 rfl rfl (by first | rfl | omega) b8 rfl rfl rfl rfl rfl) ?_
   refine zF<|zC<|zA (zB rfl)<|zM h fun b10 h=>zA (zg rfl rfl b10)<|zA (zD rfl) ?_
   refine zF ?_
   exact ⟨((i1+1),(l2.set i1.toNat 1)),zAD [0,1,2] rfl rfl (by kernel_rfl),h⟩
  refine zz ?_
  exact ⟨l2,zAD [0,1,2] rfl rfl (by kernel_rfl),h⟩
 clear h
 intro l1 h
 unfold zIu at h
 refine zH<|zC<|zA (zS (k:=0) (o:=0) (m:=10) Tryz.isAgg51 Tryz.sizeOf51 rfl rfl rfl rfl rfl)<|zA (zB rfl)<|zP h fun x4 w4 h=>z5 (zES (j:=2) (ds:=[9,45]) (rows':=List.map cI l1) rfl (zAM (fun _=>rfl)) ⟨rfl,rfl,trivial⟩) ?_
 refine zP h fun x5 w5 h=>ze Tryz.func121 rfl (by kernel_rfl) (.fn 121) rfl rfl (zKg w5) rfl<|zd (H':=[.box 51 (zO C),.box 51 (zO x5),.dead]) (zT (k:=1) (o:=0) (cs:=(zO ⟨0,0,0,0,0,(List.replicate 5 ([]:List Int))⟩)) (la:=(zO x5)) Tryz.sizeOf51 rfl rfl rfl rfl)<|zA (zD rfl)<|zF<|zb ?_
 cases h
 exact zA5 (zDV Tryz.isAgg51 Tryz.sizeOf51 rfl rfl rfl rfl) (zAI rfl rfl) rfl
theorem zPJ {B:zJ} {M:Int} {uF:List Int} {r:zJ} (h:zKL B M uF=some r):AFn Tryz.prog 70 [AV.ptr 0 0,li M,ls cI uF] [.box 26 ([ls cI B.nodes]++([li B.batch]++([li B.high]++([AV.osl 51 10 (List.map zO B.zones)]++([AV.osl 55 1 (List.map zI B.caches)]++[])))))] (.tup []) [.box 26 ([ls cI r.nodes]++([li r.batch]++([li r.high]++([AV.osl 51 10 (List.map zO r.zones)]++([AV.osl 55 1 (List.map zI r.caches)]++[])))))]:=by
 refine zDe Tryz.func70 rfl Tryz.ntmps70 Tryz.results70 rfl ?_
 unfold zKL at h
 refine zH<|zC<|zA (zD rfl)<|zF<|zR<|zt (σ:=Int×(List zi)) (fun (i1,l1)=>mkE [(0,(AV.ptr 0 0)),(1,(li M)),(2,(ls cI uF)),(6,(li i1))]) (fun (i1,l1)=>[.box 26 [ls cI B.nodes,li B.batch,li B.high,AV.osl 51 10 (List.map zO l1),AV.osl 55 1 (List.map zI B.caches)]]) (fun n0 (i1,l1)=>zHC B M uF n0 i1 l1) (0,B.zones) h (fun _=>rfl) (zAD [0] rfl rfl (by kernel_rfl)) ?_
 clear h
 rintro n0 ⟨i1,l1⟩ h
 replace h:zEv B M uF (zHC B M uF n0) i1 l1=some r:=h
 unfold zEv at h
 refine zH<|zH<|zC<|zA (zB rfl)<|zA (zB rfl)<|zA (zY Tryz.underlying22 rfl) ?_
 refine zA (zh rfl rfl)<|zF ?_
 refine zW h rfl (fun b1 h => ?_) (fun b1 h => ?_)
 ·refine zQ<|zH<|zR<|zAS (zAZ (k:=0) (o:=3) (t':=51) (sz:=10) (rows:=List.map zO l1) rfl rfl)<|zM h fun b2 h=>zM h fun b3 h => ?_
  refine zP h fun x1 w1 h => ?_
  refine zAm (n:=34) (m:=1) [.head 0 0,.head 0 0,.head 0 0,.head 0 0,.head 0 0,.head 0 0,.head 0 0,.head 0 0,.head 0 0,.head 0 0,.head 0 0,.head 0 0,.head 0 0,.head 0 0,.head 0 0,.head 0 0,.head 0 0,.head 0 0,.head 0 0,.head 0 1,.head 0 0,.tail 0] [21] [AV.ptr 0 0,AV.ptr 0 0,AV.ptr 0 3,AV.hd 1,li M,AV.ptr 0 0,AV.ptr 0 0,AV.ptr 0 3,AV.hd 1,li M,(AV.ptr 1 (M.toNat*10)),(AV.agg (zO (at_ l1 M))),ls cI uF,li i1,(AV.rp (cI (at_ uF i1)) 0),(li (at_ uF i1)),(AV.tup [(AV.agg (zO x1.1)),li x1.2]),(AV.tup [(AV.agg (zO x1.1)),li x1.2]),(AV.agg (zO x1.1)),li x1.2,(AV.ptr 1 (M.toNat*10)),.any] [[.box 26 [ls cI B.nodes,li B.batch,li B.high,AV.hd 1,AV.osl 55 1 (List.map zI B.caches)],.vec 51 10 (List.map zO l1)],[.box 26 [ls cI B.nodes,li B.batch,li B.high,AV.hd 1,AV.osl 55 1 (List.map zI B.caches)],.vec 51 10 (List.map zO (l1.set M.toNat x1.1))]] (by kernel_rfl) (by kernel_rfl) ⟨D1 fun e s p=>zB (s 0 rfl),D1 fun e s p=>zAC p.1,D1 fun e s p=>zK (k:=0) (o:=0) (off:=3) Tryz.underlying26 rfl rfl Tryz.sizeOf23 p.1,D1 fun e s p=>zN (k:=0) (o:=3) Tryz.isAgg23 p.1 rfl rfl rfl,D1 fun e s p=>zB (s 1 rfl),D1 fun e s p=>zB (s 0 rfl),D1 fun e s p=>zAC p.1,D1 fun e s p=>zK (k:=0) (o:=0) (off:=3) Tryz.underlying26 rfl rfl Tryz.sizeOf23 p.1,D1 fun e s p=>zN (k:=0) (o:=3) Tryz.isAgg23 p.1 rfl rfl rfl,D1 fun e s p=>zB (s 1 rfl),D1 fun e s p=>zy (f:=zO) (l:=l1) (i:=M) Tryz.underlying23 Tryz.sizeOf51 p.1 rfl p.2.1 b2,D1 fun e s p=>zBO (f:=zO) (l:=l1) (i:=M) (c:=0) (q:=10) (la:=(zO (at_ l1 M))) Tryz.isAgg51 Tryz.sizeOf51 p.1 rfl (by first | rfl | omega) b2 rfl rfl rfl,D1 fun e s p=>zB (s 2 rfl),D1 fun e s p=>zB (s 6 rfl),D1 fun e s p=>zV (f:=cI) (l:=uF) (i:=i1) Tryz.underlying22 Tryz.sizeOf3 (fun _=>rfl) p.1 p.2.1 b3,D1 fun e s p=>zU (o:=0) Tryz.isAgg3 p.1 rfl,?_,D1 fun e s p=>zB p.1,D1 fun e s p=>za p.1 rfl,⟨D1 fun e s p=>za p.1 rfl,D1 fun e s p=>za p.1 rfl⟩,D1 fun e s p=>zy (f:=zO) (l:=l1) (i:=M) Tryz.underlying23 Tryz.sizeOf51 p.2.2.2.2.2.1 rfl p.2.2.2.2.2.2.1 b2,?_,trivial⟩ ?_
  ·
   intro e17 s17 p17
   refine ze (r:=(AV.tup [(AV.agg (zO x1.1)),li x1.2])) (la:=[(AV.agg (zO (at_ l1 M))),(li (at_ uF i1)),li 0]) Tryz.func73 rfl (by kernel_rfl) (.fn 73) (zAL p17.1 (zAL p17.2.1 (zAL rfl rfl))) rfl (zPH w1) rfl ?_
   exact zF ⟨fun _=>rfl,rfl⟩
  ·
   intro e23 s23 p23
   refine zd (H':=[.box 26 [ls cI B.nodes,li B.batch,li B.high,AV.hd 1,AV.osl 55 1 (List.map zI B.caches)],.vec 51 10 (List.map zO (l1.set M.toNat x1.1))]) (zBG (k:=1) (o:=(M.toNat*10)) (f:=zO) (l:=l1) (i:=M) (z:=x1.1) Tryz.sizeOf51 (fun _=>rfl) (by exact p23.1) rfl (by first | rfl | omega) b2 (by exact p23.2.2.2.2.2.2.2.2.2.2.2.2.2.2.2.2.2.2.2.2.2.1) rfl) ?_
   exact zF ⟨fun _=>rfl,rfl⟩
  intro e24 s24 hq1
  refine zAS (zBI (l:=[(0,(AV.ptr 0 0)),(1,(li M)),(2,(ls cI uF)),(6,(li i1))]) ⟨s24 0 rfl,s24 1 rfl,s24 2 rfl,s24 6 rfl,trivial⟩)<|zC<|zA (zB (av:=(li i1)) rfl)<|zM h fun b4 h=>zA (zg (a:=i1) (b:=1) rfl rfl b4)<|zA (zD (av:=(li (i1+1))) rfl) ?_
  refine zF ?_
  exact ⟨((i1+1),(l1.set M.toNat x1.1)),Rep.trans (z9 (k:=0) (j:=1) (o:=3) rfl rfl rfl rfl) (zAD [0] (l:=[(0,(AV.ptr 0 0)),(1,(li M)),(2,(ls cI uF)),(6,(li (i1+1)))]) rfl rfl (by kernel_rfl)),h⟩
 refine zz ?_
 cases h
 exact ⟨mkE [],[.box 26 [ls cI B.nodes,li B.batch,li B.high,AV.osl 51 10 (List.map zO l1),AV.osl 55 1 (List.map zI B.caches)]],zAD [0] rfl rfl (by kernel_rfl),zLt rfl⟩
theorem zOS {B:zJ} {M:Int} {r:Int} (h:zJL B M=some r):PFn Tryz.prog 40 [(AV.agg (zG B)),li M] (li r):=by
 refine zm Tryz.func40 rfl Tryz.ntmps40 Tryz.results40 rfl ?_
 unfold zJL at h
 refine zH<|zC<|zX (H':=[.box 26 (zG B)]) (zu (t:=26) rfl)<|zA (zD rfl)<|zF<|zH ?_
 refine zC<|zA (zD rfl)<|zF ?_
 refine zx (r:=r) (fun (i1:Int)=>mkE [(1,(li M)),(2,(AV.ptr 0 0)),(5,(li i1))]) (fun i1=>[.box 26 (zG B)]) (fun i1=>zH5 B M i1) ?_ ?_
 ·
  refine zH<|zC<|zA (zD rfl)<|zF<|zR<|zt (σ:=Int×Int) (fun (i5,i6)=>mkE [(1,(li M)),(2,(AV.ptr 0 0)),(5,(li i5)),(6,(li i6))]) (fun (i5,i6)=>[.box 26 (zG B)]) (fun n1 (i5,i6)=>zGM B M n1 i5 i6) (0,0) h (fun _=>rfl) (zAD [0] rfl rfl (by kernel_rfl)) ?_
  clear h
  rintro n1 ⟨i5,i6⟩ h
  replace h:zDw B M (zGM B M n1) i5 i6=some r:=h
  unfold zDw at h
  refine zH<|zH<|zC<|zA (zB rfl)<|zA (zCj rfl rfl)<|zF ?_
  refine zW h rfl (fun b6 h => ?_) (fun b6 h => ?_)
  ·refine zQ<|zH<|zR<|zC<|zA (zB rfl)<|zA (zK Tryz.underlying26 rfl rfl Tryz.sizeOf23 rfl) ?_
   refine zA (zN Tryz.isAgg23 rfl rfl rfl rfl)<|zA (zB rfl)<|zA (zB rfl)<|zM h fun b7 h=>zA (zV Tryz.underlying23 Tryz.sizeOf51 (fun _=>rfl) rfl rfl b7)<|zA (zAw (row:=(zO (at_ B.zones M))) (o:=0) (off:=5) Tryz.underlying51 rfl rfl Tryz.sizeOf49 rfl) ?_
   refine zM h fun b8 h=>zA (zOj (m:=5) (s:=1) (i:=i6) (row:=(zO (at_ B.zones M))) (o:=5) Tryz.underlying49 Tryz.sizeOf22 rfl rfl b8)<|zA (zMi (o:=(5+i6.toNat*1)) (cs:=zO (at_ B.zones M)) (hd:=([(li ((at_ B.zones M).node))]++[(li ((at_ B.zones M).kind))]++[(li ((at_ B.zones M).start))]++[(li ((at_ B.zones M).count))]++[(li ((at_ B.zones M).min))]++[])) (tl:=([])) (g:=(eS cI)) (d0:=([]:List Int)) (l:=(at_ B.zones M).free) (N:=5) (i:=i6.toNat) (a:=(ls cI (((at_ B.zones M).free).getD i6.toNat ([]:List Int)))) Tryz.isAgg22 rfl rfl (congrArg (fun q=>5+q) (Nat.mul_one _)) (zBK b8).2 rfl)<|zA (zY Tryz.underlying22 rfl)<|zA (zB rfl)<|zM h fun b9 h => ?_
   refine zA (zFl (k' := .u64) (a:=i6) Tryz.underlying3 Tryz.underlying74 rfl b9)<|zM h fun b10 h=>zM h fun b11 h=>zA (zCx (a:=((((at_ B.zones M).free).getD i6.toNat ([]:List Int)).length:Int)) (b:=i6) rfl rfl b10 b11)<|zM h fun b12 h=>zA (zg rfl rfl b12) ?_
   refine zA (zD rfl)<|zF<|zC<|zA (zB rfl)<|zM h fun b13 h=>zA (zg rfl rfl b13) ?_
   refine zA (zD rfl)<|zF ?_
   exact ⟨((i5+(((((at_ B.zones M).free).getD i6.toNat ([]:List Int)).length:Int)*2 ^ i6.toNat)),(i6+1)),zAD [0] rfl rfl (by kernel_rfl),h⟩
  refine zz ?_
  exact ⟨i5,zAD [0] rfl rfl (by kernel_rfl),h⟩
 clear h
 intro i1 h
 unfold zH5 at h
 refine zx (r:=r) (fun (i2:Int)=>mkE [(5,(li i2))]) (fun i2=>[]) (fun i2=>zJ0 i2) ?_ ?_
 ·
  refine zH<|zC<|zA (zD rfl)<|zF<|zR<|zt (σ:=Int×Int) (fun (i3,i4)=>mkE [(1,(li M)),(2,(AV.ptr 0 0)),(5,(li i3)),(7,(li i4))]) (fun (i3,i4)=>[.box 26 (zG B)]) (fun n0 (i3,i4)=>zGQ B M n0 i3 i4) (i1,0) h (fun _=>rfl) (zAD [0] rfl rfl (by kernel_rfl)) ?_
  clear h
  rintro n0 ⟨i3,i4⟩ h
  replace h:zDy B M (zGQ B M n0) i3 i4=some r:=h
  unfold zDy at h
  refine zH<|zH<|zC<|zA (zB rfl)<|zA (zK Tryz.underlying26 rfl rfl Tryz.sizeOf24 rfl)<|zA (zN Tryz.isAgg24 rfl rfl rfl rfl) ?_
  refine zA (zY Tryz.underlying24 rfl)<|zA (zh rfl rfl)<|zF ?_
  refine zW h rfl (fun b1 h => ?_) (fun b1 h => ?_)
  ·refine zQ<|zH<|zR<|zC<|zA (zB rfl)<|zA (zK Tryz.underlying26 rfl rfl Tryz.sizeOf24 rfl) ?_
   refine zA (zN Tryz.isAgg24 rfl rfl rfl rfl)<|zA (zB rfl)<|zM h fun b2 h=>zA (zV Tryz.underlying24 Tryz.sizeOf55 (fun _=>rfl) rfl rfl b2)<|zA (zAw (row:=(zI (at_ B.caches i4))) (o:=0) (off:=0) Tryz.underlying55 rfl rfl Tryz.sizeOf53 rfl)<|zA (zU (o:=0) Tryz.isAgg53 rfl rfl) ?_
   refine zA (zB rfl)<|zM h fun b3 h=>zA (zV Tryz.underlying53 Tryz.sizeOf22 (fun _=>rfl) rfl rfl b3)<|zA (zU (o:=0) Tryz.isAgg22 rfl rfl)<|zA (zY Tryz.underlying22 rfl)<|zM h fun b4 h => ?_
   refine zA (zg rfl rfl b4)<|zA (zD rfl)<|zF<|zC<|zA (zB rfl)<|zM h fun b5 h => ?_
   refine zA (zg rfl rfl b5)<|zA (zD rfl)<|zF ?_
   exact ⟨((i3+((at_ ((at_ B.caches i4).lists) M).length:Int)),(i4+1)),zAD [0] rfl rfl (by kernel_rfl),h⟩
  refine zz ?_
  exact ⟨i3,zAD [] rfl rfl (by kernel_rfl),h⟩
 clear h
 intro i2 h
 unfold zJ0 at h
 refine zH<|zC<|zA (zB rfl)<|zA (zD rfl)<|zF<|zb ?_
 cases h
 exact zv (zAI rfl rfl)
end Go.Proofs.YtplkliakhdkpcaaGreat
namespace Go.Proofs.YtplkliakhdkpcaaGreat
open Go Go.RowKit Go.Wk Go.Am Go.Proofs
set_option maxHeartbeats 4000000
theorem zOW {C:zi} {V:Int} {r:zi×Int×Int} (h:zMH C V=some r):PFn Tryz.prog 66 [(AV.agg (zO C)),li V] (AV.tup [(AV.agg (zO r.1)),li r.2.1,li r.2.2]):=by
 refine zm Tryz.func66 rfl Tryz.ntmps66 Tryz.results66 rfl ?_
 unfold zMH at h
 refine zH<|zC<|zX (H':=[.box 51 (zO C)]) (zu (t:=51) rfl)<|zX (H':=[.box 51 (zO C),.box 51 (zO ⟨0,0,0,0,0,(List.replicate 5 ([]:List Int))⟩)]) zv0<|zA (zD rfl)<|zA (zD rfl) ?_
 refine zF<|zH<|zH<|zC<|zA (zS (k:=0) (o:=0) (m:=10) Tryz.isAgg51 Tryz.sizeOf51 rfl rfl rfl rfl rfl)<|zP h fun x1 w1 h => ?_
 refine ze Tryz.func47 rfl (by kernel_rfl) (.fn 47) rfl rfl (zGL w1) rfl<|zA (zD rfl)<|zF<|zH<|zC<|zA (zB rfl) ?_
 refine zA (z7 rfl rfl)<|zF ?_
 refine zW h rfl (fun b1 h => ?_) (fun b1 h => ?_)
 ·refine zH<|zC<|zA zv9<|zA (zB rfl)<|zd (H':=[.box 51 (zO C),.box 51 (zO (⟨0,0,0,0,0,(List.replicate 5 ([]:List Int))⟩:zi))]) (zT (k:=1) (o:=0) (cs:=(zO ⟨0,0,0,0,0,(List.replicate 5 ([]:List Int))⟩)) (la:=(zO (⟨0,0,0,0,0,(List.replicate 5 ([]:List Int))⟩:zi))) Tryz.sizeOf51 rfl rfl rfl rfl)<|zA (zD rfl) ?_
  refine zA (zD rfl)<|zF<|zb ?_
  cases h
  exact zC7 (zDV Tryz.isAgg51 Tryz.sizeOf51 rfl rfl rfl rfl) (zAI rfl rfl) (zAI rfl rfl) rfl
 refine zQ<|zH<|zH<|zC<|zA (zB rfl)<|zA (zh rfl rfl) ?_
 refine zA (zB rfl)<|zZ rfl rfl (fun c1=>zq.step (zB rfl))<|zZ rfl rfl (fun c2=>zq.step (zAo (z8 rfl c2) rfl))<|zA (zj rfl rfl)<|zF ?_
 refine zW h rfl (fun b2 h => ?_) (fun b2 h => ?_)
 ·refine zH<|zC<|zA zv9<|zd (H':=[.box 51 (zO C),.box 51 (zO (⟨0,0,0,0,0,(List.replicate 5 ([]:List Int))⟩:zi))]) (zT (k:=1) (o:=0) (cs:=(zO ⟨0,0,0,0,0,(List.replicate 5 ([]:List Int))⟩)) (la:=(zO (⟨0,0,0,0,0,(List.replicate 5 ([]:List Int))⟩:zi))) Tryz.sizeOf51 rfl rfl rfl rfl)<|zA (zD rfl)<|zA (zD rfl) ?_
  refine zF<|zb ?_
  cases h
  exact zC7 (zDV Tryz.isAgg51 Tryz.sizeOf51 rfl rfl rfl rfl) (zAI rfl rfl) (zAI rfl rfl) rfl
 refine zQ ?_
 refine zx (r:=r) (fun (_:Unit)=>mkE [(4,(AV.ptr 0 0))]) (fun _=>[.box 51 (zO ⟨0,0,0,0,0,(List.replicate 5 ([]:List Int))⟩)]) (fun _=>zJm ) ?_ ?_
 ·
  refine zH<|zC<|zA (zB rfl)<|zA (zD rfl)<|zF<|zR ?_
  refine zt (σ:=Int) (fun i1=>mkE [(1,(li V)),(2,(AV.ptr 0 0)),(4,(AV.ptr 1 0)),(8,(li i1))]) (fun i1=>[.box 51 (zO C),.box 51 (zO ⟨0,0,0,0,0,(List.replicate 5 ([]:List Int))⟩)]) (fun n0 i1=>zGK C V n0 i1) V h (fun _=>rfl) (zAD [0,1] rfl rfl (by kernel_rfl)) ?_
  clear h
  intro n0 i1 h
  replace h:zJx C V (zGK C V n0) i1=some r:=h
  unfold zJx at h
  refine zH<|zH<|zC<|zA (zB rfl)<|zA (zCj rfl rfl)<|zF ?_
  refine zW h rfl (fun b3 h => ?_) (fun b3 h => ?_)
  ·refine zQ ?_
   refine zx (r:=r) (fun (_:Unit)=>mkE [(1,(li V)),(2,(AV.ptr 0 0)),(4,(AV.ptr 1 0)),(8,(li i1))]) (fun _=>[.box 51 (zO C),.box 51 (zO ⟨0,0,0,0,0,(List.replicate 5 ([]:List Int))⟩)]) (fun _=>zJw (zGK C V n0) i1) ?_ ?_
   ·
    refine zR<|zH<|zC<|zA (zB rfl)<|zA (zK Tryz.underlying51 rfl rfl Tryz.sizeOf49 rfl)<|zM h fun b5 h => ?_
    refine zA (zAG (m:=5) (s:=1) (i:=i1) (k:=0) (o:=5) Tryz.underlying49 Tryz.sizeOf22 rfl rfl b5)<|zA (zAr (k:=0) (o:=(5+i1.toNat*1)) (cs:=(zO C)) (hd:=([li C.node]++[li C.kind]++[li C.start]++[li C.count]++[li C.min]++[])) (tl:=([])) (g:=(eS cI)) (d0:=([]:List Int)) (l:=C.free) (N:=5) (i:=i1.toNat) (a:=(ls cI (C.free.getD i1.toNat ([]:List Int)))) Tryz.isAgg22 rfl rfl rfl (congrArg (fun q=>5+q) (Nat.mul_one _)) (zBK b5).2 rfl rfl)<|zA (zY Tryz.underlying22 rfl)<|zA (zAo rfl rfl)<|zF ?_
    refine zW h rfl (fun b6 h => ?_) (fun b6 h => ?_)
    ·refine zH<|zC<|zA (zB rfl)<|zA (zK Tryz.underlying51 rfl rfl Tryz.sizeOf49 rfl)<|zA (zAG (m:=5) (s:=1) (i:=i1) (k:=0) (o:=5) Tryz.underlying49 Tryz.sizeOf22 rfl rfl b5)<|zA (zAr (k:=0) (o:=(5+i1.toNat*1)) (cs:=(zO C)) (hd:=([li C.node]++[li C.kind]++[li C.start]++[li C.count]++[li C.min]++[])) (tl:=([])) (g:=(eS cI)) (d0:=([]:List Int)) (l:=C.free) (N:=5) (i:=i1.toNat) (a:=(ls cI (C.free.getD i1.toNat ([]:List Int)))) Tryz.isAgg22 rfl rfl rfl (congrArg (fun q=>5+q) (Nat.mul_one _)) (zBK b5).2 rfl rfl) ?_
     refine zM h fun b7 h=>zA (zV Tryz.underlying22 Tryz.sizeOf3 (fun _=>rfl) rfl rfl b7)<|zA (zU (o:=0) Tryz.isAgg3 rfl rfl)<|zA (zD rfl)<|zF<|zH ?_
     refine zC<|zA (zS (k:=0) (o:=0) (m:=10) Tryz.isAgg51 Tryz.sizeOf51 rfl rfl rfl rfl rfl)<|zP h fun x2 w2 h=>zGJ (T:=3) (sz:=1) (rows:=List.map cI x2) (la:=[(AV.agg (zO C))]) (la':=[(AV.agg (zO C))]) (S:=[]) Tryz.func95 rfl (by kernel_rfl) (.fn 95) rfl ⟨zAl.nr rfl,trivial⟩ (zIM w2) (.inl rfl)<|zA (zD rfl)<|zF ?_
     refine zx (r:=r) (fun (l1:List Int)=>mkE [(2,(AV.ptr 0 0)),(4,(AV.ptr 1 0)),(9,(li (at_ (C.free.getD i1.toNat ([]:List Int)) (0:Int)))),(10,(AV.hd 2))]) (fun l1=>[.box 51 (zO C),.box 51 (zO ⟨0,0,0,0,0,(List.replicate 5 ([]:List Int))⟩),.vec 3 1 (List.map cI l1)]) (fun l1=>zJ2 C i1 l1) ?_ ?_
     ·
      refine zH<|zC<|zA (zB rfl)<|zA (zD rfl)<|zF<|zR ?_
      refine zt (σ:=Int×(List Int)) (fun (i2,l2)=>mkE [(1,(li V)),(2,(AV.ptr 0 0)),(4,(AV.ptr 1 0)),(9,(li (at_ (C.free.getD i1.toNat ([]:List Int)) (0:Int)))),(10,(AV.hd 2)),(11,(li i2))]) (fun (i2,l2)=>[.box 51 (zO C),.box 51 (zO ⟨0,0,0,0,0,(List.replicate 5 ([]:List Int))⟩),.vec 3 1 (List.map cI l2)]) (fun n1 (i2,l2)=>zIE C V i1 n1 i2 l2) ((at_ (C.free.getD i1.toNat ([]:List Int)) (0:Int)),x2) h (fun _=>rfl) (zAD [0,1,2] rfl rfl (by kernel_rfl)) ?_
      clear h
      rintro n1 ⟨i2,l2⟩ h
      replace h:zJr C V i1 (zIE C V i1 n1) i2 l2=some r:=h
      unfold zJr at h
      refine zH<|zH<|zC<|zA (zB rfl)<|zA (zB rfl)<|zA (zB rfl) ?_
      refine zM h fun b8 h=>zA (zFl (k' := .u64) (a:=V) Tryz.underlying3 Tryz.underlying74 rfl b8)<|zM h fun b9 h=>zM h fun b10 h=>zA (zCx (a:=1) (b:=V) rfl rfl b9 b10)<|zM h fun b11 h => ?_
      refine zA (zg rfl rfl b11)<|zA (zh rfl rfl)<|zF ?_
      refine zW h rfl (fun b12 h => ?_) (fun b12 h => ?_)
      ·refine zQ<|zH<|zR<|zC<|zA (zB rfl)<|zA (zB rfl) ?_
       refine zM h fun b13 h=>zA (zy (f:=cI) (l:=l2) (i:=i2) Tryz.underlying22 Tryz.sizeOf3 rfl rfl rfl b13)<|zd (H':=[.box 51 (zO C),.box 51 (zO ⟨0,0,0,0,0,(List.replicate 5 ([]:List Int))⟩),.vec 3 1 (List.map cI (l2.set i2.toNat 0))]) (zBZ (k:=2) (o:=(i2.toNat*1)) (f:=cI) (l:=l2) (i:=i2) (c:=0) (a:=(li 0)) (z:=0) Tryz.sizeOf3 rfl rfl (by first | rfl | omega) b13 rfl rfl rfl rfl rfl)<|zF<|zC<|zA (zB rfl) ?_
       refine zM h fun b14 h=>zA (zg rfl rfl b14)<|zA (zD rfl)<|zF ?_
       exact ⟨((i2+1),(l2.set i2.toNat 0)),zAD [0,1,2] rfl rfl (by kernel_rfl),h⟩
      refine zz ?_
      exact ⟨l2,zAD [0,1,2] rfl rfl (by kernel_rfl),h⟩
     clear h
     intro l1 h
     unfold zJ2 at h
     refine zH<|zC<|zA (zS (k:=0) (o:=0) (m:=10) Tryz.isAgg51 Tryz.sizeOf51 rfl rfl rfl rfl rfl)<|zA (zB rfl)<|zP h fun x3 w3 h=>z5 (zES (j:=2) (ds:=[10,58]) (rows':=List.map cI l1) rfl (zAM (fun _=>rfl)) ⟨rfl,rfl,trivial⟩) ?_
     refine zP h fun x4 w4 h=>ze Tryz.func121 rfl (by kernel_rfl) (.fn 121) rfl rfl (zKg w4) rfl<|zA (zB rfl)<|zd (H':=[.box 51 (zO C),.box 51 (zO x4),.dead]) (zT (k:=1) (o:=0) (cs:=(zO ⟨0,0,0,0,0,(List.replicate 5 ([]:List Int))⟩)) (la:=(zO x4)) Tryz.sizeOf51 rfl rfl rfl rfl)<|zA (zD rfl)<|zA (zD rfl) ?_
     refine zF<|zb ?_
     cases h
     exact zC7 (zDV Tryz.isAgg51 Tryz.sizeOf51 rfl rfl rfl rfl) (zAI rfl rfl) (zAI rfl rfl) rfl
    refine zQ ?_
    exact ⟨(),zAD [0,1] rfl rfl (by kernel_rfl),h⟩
   clear h
   intro _ h
   unfold zJw at h
   refine zC<|zA (zB rfl)<|zM h fun b4 h=>zA (zg rfl rfl b4)<|zA (zD rfl)<|zF ?_
   exact ⟨(i1+1),zAD [0,1] rfl rfl (by kernel_rfl),h⟩
  refine zz ?_
  exact ⟨(),zAD [1] rfl rfl (by kernel_rfl),h⟩
 clear h
 intro _ h
 unfold zJm at h
 refine zH<|zC<|zA zv9<|zd (H':=[.box 51 (zO (⟨0,0,0,0,0,(List.replicate 5 ([]:List Int))⟩:zi))]) (zT (k:=0) (o:=0) (cs:=(zO ⟨0,0,0,0,0,(List.replicate 5 ([]:List Int))⟩)) (la:=(zO (⟨0,0,0,0,0,(List.replicate 5 ([]:List Int))⟩:zi))) Tryz.sizeOf51 rfl rfl rfl rfl)<|zA (zD rfl)<|zA (zD rfl) ?_
 refine zF<|zb ?_
 cases h
 exact zC7 (zDV Tryz.isAgg51 Tryz.sizeOf51 rfl rfl rfl rfl) (zAI rfl rfl) (zAI rfl rfl) rfl
theorem zN9 {A:zL} {D:Int} {G:List Int} {r:zL×Int} (h:zLD A D G=some r):PFn Tryz.prog 140 [(AV.agg (zI A)),li D,ls cI G] (AV.tup [(AV.agg (zI r.1)),li r.2]):=by
 refine zm Tryz.func140 rfl Tryz.ntmps140 Tryz.results140 rfl ?_
 unfold zLD at h
 refine zH<|zC<|zX (H':=[.box 55 (zI A)]) (zu (t:=55) rfl)<|zX (H':=[.box 55 (zI A),.box 55 [(ls (cS cI) ([]:List (List Int)))]]) zv1<|zA (zD rfl)<|zF ?_
 refine zH<|zH<|zC<|zA (zS (k:=0) (o:=0) (m:=1) Tryz.isAgg55 Tryz.sizeOf55 rfl rfl rfl rfl rfl)<|zA (zB rfl)<|zP h fun x1 w1 h => ?_
 refine ze Tryz.func122 rfl (by kernel_rfl) (.fn 122) rfl rfl (zJy w1) rfl<|zA (zD rfl)<|zF<|zH<|zC<|zA (zB rfl) ?_
 refine zA (z7 rfl rfl)<|zF ?_
 refine zW h rfl (fun b1 h => ?_) (fun b1 h => ?_)
 ·refine zH<|zC<|zA zv2<|zA (zB rfl)<|zd (H':=[.box 55 (zI A),.box 55 (zI (⟨([]:List (List Int))⟩:zL))]) (zT (k:=1) (o:=0) (cs:=[(ls (cS cI) ([]:List (List Int)))]) (la:=(zI (⟨([]:List (List Int))⟩:zL))) Tryz.sizeOf55 rfl rfl rfl rfl)<|zA (zD rfl) ?_
  refine zF<|zb ?_
  cases h
  exact zA5 (zDV Tryz.isAgg55 Tryz.sizeOf55 rfl rfl rfl rfl) (zAI rfl rfl) rfl
 refine zQ ?_
 refine zx (r:=r) (fun (_:Unit)=>mkE [(1,(li D)),(2,(ls cI G)),(3,(AV.ptr 0 0)),(6,(AV.ptr 1 0))]) (fun _=>[.box 55 (zI A),.box 55 [(ls (cS cI) ([]:List (List Int)))]]) (fun _=>zJA A D G) ?_ ?_
 ·
  refine zH<|zC<|zA (zB rfl)<|zA (zY Tryz.underlying22 rfl)<|zA (zB rfl)<|zF ?_
  refine zR<|zt (σ:=Int) (fun i2=>mkE [(1,(li D)),(2,(ls cI G)),(3,(AV.ptr 0 0)),(6,(AV.ptr 1 0)),(22,(ls cI G)),(23,(li (G.length:Int))),(24,(li i2))]) (fun i2=>[.box 55 (zI A),.box 55 [(ls (cS cI) ([]:List (List Int)))]]) (fun n1 i2=>zCr A D G n1 i2) 0 h (fun _=>rfl) (zAD [0,1] rfl rfl (by kernel_rfl)) ?_
  clear h
  intro n1 i2 h
  replace h:zJK A D G (zCr A D G n1) i2=some r:=h
  unfold zJK at h
  refine zH<|zC<|zA (zh rfl rfl)<|zF<|zH ?_
  refine zW h rfl (fun b8 h => ?_) (fun b8 h => ?_)
  ·refine zQ ?_
   refine zx (r:=r) (fun (_:Unit)=>mkE [(1,(li D)),(2,(ls cI G)),(3,(AV.ptr 0 0)),(6,(AV.ptr 1 0)),(22,(ls cI G)),(23,(li (G.length:Int))),(24,(li i2))]) (fun _=>[.box 55 (zI A),.box 55 [(ls (cS cI) ([]:List (List Int)))]]) (fun _=>zJH (zCr A D G n1) i2) ?_ ?_
   ·
    refine zR<|zH<|zC<|zA (zB rfl)<|zM h fun b10 h=>zA (zV Tryz.underlying22 Tryz.sizeOf3 (fun _=>rfl) rfl rfl b10) ?_
    refine zA (zU (o:=0) Tryz.isAgg3 rfl rfl)<|zA (zD rfl)<|zA (zD rfl)<|zF<|zH<|zH ?_
    refine zC<|zA (zB rfl)<|zP h fun x3 w3 h=>ze Tryz.func123 rfl (by kernel_rfl) (.fn 123) rfl rfl (zKs w3) rfl<|zF ?_
    refine zW h rfl (fun b11 h => ?_) (fun b11 h => ?_)
    ·refine zH<|zC<|zA zv2<|zd (H':=[.box 55 (zI A),.box 55 (zI (⟨([]:List (List Int))⟩:zL))]) (zT (k:=1) (o:=0) (cs:=[(ls (cS cI) ([]:List (List Int)))]) (la:=(zI (⟨([]:List (List Int))⟩:zL))) Tryz.sizeOf55 rfl rfl rfl rfl)<|zA (zD rfl)<|zF ?_
     refine zb ?_
     cases h
     exact zA5 (zDV Tryz.isAgg55 Tryz.sizeOf55 rfl rfl rfl rfl) (zAI rfl rfl) rfl
    refine zQ<|zH<|zH<|zC<|zA (zS (k:=0) (o:=0) (m:=1) Tryz.isAgg55 Tryz.sizeOf55 rfl rfl rfl rfl rfl)<|zA (zB rfl) ?_
    refine zP h fun x4 w4 h=>ze Tryz.func124 rfl (by kernel_rfl) (.fn 124) rfl rfl (zP2 w4) rfl<|zF ?_
    refine zW h rfl (fun b12 h => ?_) (fun b12 h => ?_)
    ·refine zH<|zC<|zA zv2<|zd (H':=[.box 55 (zI A),.box 55 (zI (⟨([]:List (List Int))⟩:zL))]) (zT (k:=1) (o:=0) (cs:=[(ls (cS cI) ([]:List (List Int)))]) (la:=(zI (⟨([]:List (List Int))⟩:zL))) Tryz.sizeOf55 rfl rfl rfl rfl)<|zA (zD rfl)<|zF ?_
     refine zb ?_
     cases h
     exact zA5 (zDV Tryz.isAgg55 Tryz.sizeOf55 rfl rfl rfl rfl) (zAI rfl rfl) rfl
    refine zQ<|zH<|zC<|zA (zB rfl)<|zA (zB rfl)<|zM h fun b13 h => ?_
    refine zA (zNt (hi:=i2) (f:=cI) (l:=G) Tryz.underlying22 Tryz.sizeOf3 (fun _=>rfl) rfl rfl b13)<|zA (zY Tryz.underlying22 rfl)<|zA (zB rfl)<|zF<|zR<|zt (σ:=Int) (fun i3=>mkE [(1,(li D)),(2,(ls cI G)),(3,(AV.ptr 0 0)),(6,(AV.ptr 1 0)),(10,(li (at_ G i2))),(22,(ls cI G)),(23,(li (G.length:Int))),(24,(li i2)),(38,(ls cI (zH6 G 0 i2))),(39,(li ((zH6 G 0 i2).length:Int))),(40,(li i3))]) (fun i3=>[.box 55 (zI A),.box 55 [(ls (cS cI) ([]:List (List Int)))]]) (fun n2 i3=>zGz (zCr A D G n1) G i2 n2 i3) 0 h (fun _=>rfl) (zAD [0,1] rfl rfl (by kernel_rfl)) ?_
    clear h
    intro n2 i3 h
    replace h:zI6 (zCr A D G n1) G i2 (zGz (zCr A D G n1) G i2 n2) i3=some r:=h
    unfold zI6 at h
    refine zH<|zC<|zA (zh rfl rfl)<|zF<|zH ?_
    refine zW h rfl (fun b14 h => ?_) (fun b14 h => ?_)
    ·refine zQ<|zH<|zR<|zH<|zC<|zM h fun b15 h => ?_
     refine zA (zV Tryz.underlying22 Tryz.sizeOf3 (fun _=>rfl) rfl rfl b15)<|zA (zU (o:=0) Tryz.isAgg3 rfl rfl)<|zA (zD rfl)<|zF<|zH<|zC ?_
     refine zA (zB rfl)<|zA (zB rfl)<|zA (zA8 rfl rfl)<|zF ?_
     refine zW h rfl (fun b16 h => ?_) (fun b16 h => ?_)
     ·refine zH<|zC<|zA zv2<|zd (H':=[.box 55 (zI A),.box 55 (zI (⟨([]:List (List Int))⟩:zL))]) (zT (k:=1) (o:=0) (cs:=[(ls (cS cI) ([]:List (List Int)))]) (la:=(zI (⟨([]:List (List Int))⟩:zL))) Tryz.sizeOf55 rfl rfl rfl rfl)<|zA (zD rfl)<|zF ?_
      refine zb ?_
      cases h
      exact zA5 (zDV Tryz.isAgg55 Tryz.sizeOf55 rfl rfl rfl rfl) (zAI rfl rfl) rfl
     refine zQ<|zC<|zM h fun b17 h=>zA (zg rfl rfl b17)<|zA (zB rfl)<|zF ?_
     exact ⟨(i3+1),zAD [0,1] rfl rfl (by kernel_rfl),h⟩
    refine zz ?_
    exact ⟨(),zAD [0,1] rfl rfl (by kernel_rfl),h⟩
   clear h
   intro _ h
   unfold zJH at h
   refine zC<|zM h fun b9 h=>zA (zg rfl rfl b9)<|zA (zB rfl)<|zF ?_
   exact ⟨(i2+1),zAD [0,1] rfl rfl (by kernel_rfl),h⟩
  refine zz ?_
  exact ⟨(),zAD [0,1] rfl rfl (by kernel_rfl),h⟩
 clear h
 intro _ h
 unfold zJA at h
 refine zH<|zC<|zA (zS (k:=0) (o:=0) (m:=1) Tryz.isAgg55 Tryz.sizeOf55 rfl rfl rfl rfl rfl)<|zP h fun x2 w2 h=>zDg (cs:=[AV.osl 22 1 (List.map (cO 3 1 cI) x2.lists)]) (la:=[(AV.agg (zI A))]) (la':=[(AV.agg (zI A))]) (S:=[]) Tryz.func114 rfl (by kernel_rfl) (.fn 114) rfl ⟨zAl.nr rfl,trivial⟩ (zHz w2) (.inl rfl)<|zX (H':=[.box 55 (zI A),.box 55 [(ls (cS cI) ([]:List (List Int)))],.val (.agg [AV.osl 22 1 (List.map (cO 3 1 cI) x2.lists)]),.box 55 [(ls (cS cI) ([]:List (List Int)))]]) zv1 ?_
 refine zd (H':=[.box 55 (zI A),.box 55 [(ls (cS cI) ([]:List (List Int)))],.dead,.box 55 [AV.osl 22 1 (List.map (cO 3 1 cI) x2.lists)]]) (zBW (k:=3) (o:=0) (j:=2) (cs:=[(ls (cS cI) ([]:List (List Int)))]) (la:=[AV.osl 22 1 (List.map (cO 3 1 cI) x2.lists)]) Tryz.sizeOf55 rfl rfl rfl rfl rfl (by decide))<|zF ?_
 refine zx (r:=r) (fun (l1:List (List Int))=>mkE [(6,(AV.ptr 0 0)),(13,(AV.ptr 1 0))]) (fun l1=>[.box 55 [(ls (cS cI) ([]:List (List Int)))],.box 55 [AV.osl 22 1 (List.map (cO 3 1 cI) l1)]]) (fun l1=>zI5 l1) ?_ ?_
 ·
  refine zH<|zC<|zA (zB rfl)<|zA (zY Tryz.underlying22 rfl)<|zM h fun b2 h=>zA (zBa rfl rfl b2) ?_
  refine zA (zD rfl)<|zF<|zR<|zt (σ:=Int×(List (List Int))) (fun (i1,l2)=>mkE [(1,(li D)),(2,(ls cI G)),(6,(AV.ptr 0 0)),(13,(AV.ptr 1 0)),(14,(li i1))]) (fun (i1,l2)=>[.box 55 [(ls (cS cI) ([]:List (List Int)))],.box 55 [AV.osl 22 1 (List.map (cO 3 1 cI) l2)]]) (fun n0 (i1,l2)=>zHc D G n0 i1 l2) (((G.length:Int) - 1),x2.lists) h (fun _=>rfl) (zAD [1,3] rfl rfl (by kernel_rfl)) ?_
  clear h
  rintro n0 ⟨i1,l2⟩ h
  replace h:zJP D G (zHc D G n0) i1 l2=some r:=h
  unfold zJP at h
  refine zH<|zH<|zC<|zA (zB rfl)<|zA (zAu rfl rfl)<|zF ?_
  refine zW h rfl (fun b3 h => ?_) (fun b3 h => ?_)
  ·refine zQ<|zH<|zR<|zAS (zAZ (k:=1) (o:=0) (t':=22) (sz:=1) (rows:=List.map (cO 3 1 cI) l2) rfl rfl)<|zM h fun b4 h=>zAS (zNF (k:=2) (f:=cI) (l:=l2) (i:=D) rfl b4) ?_
   refine zM h fun b5 h=>zM h fun b6 h => ?_
   refine zAm (n:=75) (m:=0) [.head 0 2,.head 0 2,.head 0 2,.head 0 1,.head 0 1,.head 0 1,.head 0 1,.head 0 1,.head 0 0,.head 0 0,.head 0 0,.head 0 0,.tail 0,.tail 1,.head 2 2,.tail 2] [12,13,15] [AV.ptr 1 0,AV.hd 2,li D,AV.ptr 1 0,AV.hd 2,li D,(AV.ptr 2 (D.toNat*1)),AV.hd 3,ls cI G,li i1,(AV.rp (cI (at_ G i1)) 0),(li (at_ G i1)),AV.hd 4,AV.hd 5,(AV.ptr 2 (D.toNat*1)),.any] [[.box 55 [(ls (cS cI) ([]:List (List Int)))],.box 55 [AV.hd 2],.vopen 22 1 (List.map (cO 3 1 cI) l2) D.toNat [.hd 3],.vec 3 1 (List.map cI (at_ l2 D))],[.box 55 [(ls (cS cI) ([]:List (List Int)))],.box 55 [AV.hd 2],.vopen 22 1 (List.map (cO 3 1 cI) l2) D.toNat [.hd 3],.vec 3 1 (List.map cI (at_ l2 D)),.vec 3 1 (List.map cI [at_ G i1])],[.box 55 [(ls (cS cI) ([]:List (List Int)))],.box 55 [AV.hd 2],.vopen 22 1 (List.map (cO 3 1 cI) l2) D.toNat [.hd 3],.dead,.vec 3 1 (List.map cI [at_ G i1]),.vec 3 1 (List.map cI ((at_ l2 D)++[at_ G i1]))],[.box 55 [(ls (cS cI) ([]:List (List Int)))],.box 55 [AV.hd 2],.vopen 22 1 (List.map (cO 3 1 cI) l2) D.toNat [.hd 5],.dead,.vec 3 1 (List.map cI [at_ G i1]),.vec 3 1 (List.map cI ((at_ l2 D)++[at_ G i1]))]] (by kernel_rfl) (by kernel_rfl) ⟨⟨D1 fun e s p=>zK (k:=1) (o:=0) (off:=0) Tryz.underlying55 rfl rfl Tryz.sizeOf53 (s 13 rfl),D1 fun e s p=>zK (k:=1) (o:=0) (off:=0) Tryz.underlying55 rfl rfl Tryz.sizeOf53 (s 13 rfl),D1 fun e s p=>zK (k:=1) (o:=0) (off:=0) Tryz.underlying55 rfl rfl Tryz.sizeOf53 (s 13 rfl)⟩,⟨D1 fun e s p=>zN (k:=1) (o:=0) Tryz.isAgg53 p.1 rfl rfl rfl,D1 fun e s p=>zN (k:=1) (o:=0) Tryz.isAgg53 p.1 rfl rfl rfl,D1 fun e s p=>zN (k:=1) (o:=0) Tryz.isAgg53 p.1 rfl rfl rfl⟩,⟨D1 fun e s p=>zB (s 1 rfl),D1 fun e s p=>zB (s 1 rfl),D1 fun e s p=>zB (s 1 rfl)⟩,⟨D1 fun e s p=>zK (k:=1) (o:=0) (off:=0) Tryz.underlying55 rfl rfl Tryz.sizeOf53 (s 13 rfl),D1 fun e s p=>zK (k:=1) (o:=0) (off:=0) Tryz.underlying55 rfl rfl Tryz.sizeOf53 (s 13 rfl)⟩,⟨D1 fun e s p=>zN (k:=1) (o:=0) Tryz.isAgg53 p.1 rfl rfl rfl,D1 fun e s p=>zN (k:=1) (o:=0) Tryz.isAgg53 p.1 rfl rfl rfl⟩,⟨D1 fun e s p=>zB (s 1 rfl),D1 fun e s p=>zB (s 1 rfl)⟩,⟨D1 fun e s p=>zMQ (row:=[]) (i:=D) Tryz.underlying53 Tryz.sizeOf22 p.1 rfl p.2.1 (by rw [List.length_map]; exact b4),D1 fun e s p=>zMQ (row:=[]) (i:=D) Tryz.underlying53 Tryz.sizeOf22 p.1 rfl p.2.1 (by rw [List.length_map]; exact b4)⟩,⟨D1 fun e s p=>zIv (k:=2) (i:=D.toNat) (a := .hd 3) Tryz.isAgg22 p.1 rfl rfl rfl,D1 fun e s p=>zIv (k:=2) (i:=D.toNat) (a := .hd 3) Tryz.isAgg22 p.1 rfl rfl rfl⟩,D1 fun e s p=>zB (s 2 rfl),D1 fun e s p=>zB (s 14 rfl),D1 fun e s p=>zV (f:=cI) (l:=G) (i:=i1) Tryz.underlying22 Tryz.sizeOf3 (fun _=>rfl) p.1 p.2.1 b5,D1 fun e s p=>zU (o:=0) Tryz.isAgg3 p.1 rfl,?_,?_,D1 fun e s p=>zMQ (row:=[]) (i:=D) Tryz.underlying53 Tryz.sizeOf22 p.2.2.2.1 rfl p.2.2.2.2.1 (by rw [List.length_map]; exact b4),?_,trivial⟩ ?_
   ·
    intro e24 s24 p24
    refine zF6 (a:=(li (at_ G i1))) zGA Tryz.underlying22 p24.1 rfl rfl rfl ?_
    exact zF ⟨fun _=>rfl,rfl⟩
   ·
    intro e25 s25 p25
    refine zDE (f:=cI) (k:=3) (j:=4) (l:=at_ l2 D) (l':=[at_ G i1]) zGA (fun _=>rfl) Tryz.underlying22 p25.1 rfl p25.2.1 rfl b6 ?_
    exact zF ⟨fun _=>rfl,rfl⟩
   ·
    intro e27 s27 p27
    refine zd (H':=[.box 55 [(ls (cS cI) ([]:List (List Int)))],.box 55 [AV.hd 2],.vopen 22 1 (List.map (cO 3 1 cI) l2) D.toNat [.hd 5],.dead,.vec 3 1 (List.map cI [at_ G i1]),.vec 3 1 (List.map cI ((at_ l2 D)++[at_ G i1]))]) (zLa (k:=2) (j:=5) (j0:=3) (i:=D.toNat) Tryz.sizeOf22 (by exact p27.1) rfl rfl (by exact p27.2.2.2.2.2.2.2.2.2.2.2.2.2.2.2.2.1) rfl) ?_
    exact zF ⟨fun _=>rfl,rfl⟩
   intro e28 s28 hq1
   refine zAS (zBI (l:=[(1,(li D)),(2,(ls cI G)),(6,(AV.ptr 0 0)),(13,(AV.ptr 1 0)),(14,(li i1))]) ⟨s28 1 rfl,s28 2 rfl,s28 6 rfl,s28 13 rfl,s28 14 rfl,trivial⟩)<|zC<|zA (zB (av:=(li i1)) rfl)<|zM h fun b7 h=>zA (zBa (a:=i1) (b:=1) rfl rfl b7)<|zA (zD (av:=(li (i1 - 1))) rfl) ?_
   refine zF ?_
   exact ⟨((i1 - 1),(l2.set D.toNat ((at_ l2 D)++[at_ G i1]))),Rep.trans (zLU (k:=2) (j:=5) (f:=cI) (l:=l2) (l':=(at_ l2 D)++[at_ G i1]) rfl rfl rfl) (Rep.trans (z9 (k:=1) (j:=2) (o:=0) rfl rfl rfl rfl) (zAD [0,1] (l:=[(1,(li D)),(2,(ls cI G)),(6,(AV.ptr 0 0)),(13,(AV.ptr 1 0)),(14,(li (i1 - 1)))]) rfl rfl (by kernel_rfl))),h⟩
  refine zz ?_
  exact ⟨l2,zAD [0,1] rfl rfl (by kernel_rfl),h⟩
 clear h
 intro l1 h
 unfold zI5 at h
 refine zH<|zC<|z5 (zA4 (k:=1) (o:=0) (rows':=List.map (cS cI) l1) rfl rfl (zDn (fun x=>zRo (fun _=>rfl) x)))<|zA (zS (k:=1) (o:=0) (m:=1) Tryz.isAgg55 Tryz.sizeOf55 rfl rfl rfl rfl rfl)<|zd (H':=[.box 55 (zI (⟨l1⟩:zL)),.box 55 [(ls (cS cI) l1)]]) (zT (k:=0) (o:=0) (cs:=[(ls (cS cI) ([]:List (List Int)))]) (la:=(zI (⟨l1⟩:zL))) Tryz.sizeOf55 rfl rfl rfl rfl)<|zA (zD rfl) ?_
 refine zF<|zb ?_
 cases h
 exact zA5 (zDV Tryz.isAgg55 Tryz.sizeOf55 rfl rfl rfl rfl) (zAI rfl rfl) rfl
theorem zLL {B:zJ} {I:Int} {M:Int} {r:zJ} (h:zJc B I M=some r):AFn Tryz.prog 115 [AV.ptr 0 0,li I,li M] [.box 26 ([ls cI B.nodes]++([li B.batch]++([li B.high]++([AV.osl 51 10 (List.map zO B.zones)]++([AV.osl 55 1 (List.map zI B.caches)]++[])))))] (.tup []) [.box 26 ([ls cI r.nodes]++([li r.batch]++([li r.high]++([AV.osl 51 10 (List.map zO r.zones)]++([AV.osl 55 1 (List.map zI r.caches)]++[])))))]:=by
 refine zDe Tryz.func115 rfl Tryz.ntmps115 Tryz.results115 rfl ?_
 unfold zJc at h
 refine zH<|zC<|zA (zD rfl)<|zF ?_
 refine zx (r:=r) (fun ((l1,l2):(List zi)×(List Int))=>mkE [(0,(AV.ptr 0 0)),(1,(li I)),(2,(li M)),(6,(AV.hd 1))]) (fun (l1,l2)=>[.box 26 [ls cI B.nodes,li B.batch,li B.high,AV.osl 51 10 (List.map zO l1),AV.osl 55 1 (List.map zI B.caches)],.vec 3 1 (List.map cI l2)]) (fun (l1,l2)=>zG3 B I M l1 l2) ?_ ?_
 ·
  refine zR<|zt (σ:=(List zi)×(List Int)) (fun (l3,l4)=>mkE [(0,(AV.ptr 0 0)),(1,(li I)),(2,(li M)),(6,(AV.hd 1))]) (fun (l3,l4)=>[.box 26 [ls cI B.nodes,li B.batch,li B.high,AV.osl 51 10 (List.map zO l3),AV.osl 55 1 (List.map zI B.caches)],.vec 3 1 (List.map cI l4)]) (fun n0 (l3,l4)=>zHT B I M n0 l3 l4) (B.zones,[]) h (fun _=>rfl) (Rep.trans (zMI (d:=6) (el:=3) (sz:=1) rfl) (zAD [0,1] (l:=[(0,(AV.ptr 0 0)),(1,(li I)),(2,(li M)),(6,(AV.hd 1))]) rfl rfl (by kernel_rfl))) ?_
  clear h
  rintro n0 ⟨l3,l4⟩ h
  replace h:zI3 B I M (zHT B I M n0) l3 l4=some r:=h
  unfold zI3 at h
  refine zH<|zH<|zC<|zA (zB rfl)<|zA (zCd (f:=cI) (l:=l4) Tryz.underlying22 rfl rfl)<|zA (zB rfl) ?_
  refine zA (zAC rfl)<|zA (zK Tryz.underlying26 rfl rfl Tryz.sizeOf3 rfl)<|zA (zN Tryz.isAgg3 rfl rfl rfl rfl)<|zA (zh rfl rfl)<|zF ?_
  refine zW h rfl (fun b2 h => ?_) (fun b2 h => ?_)
  ·refine zQ<|zR<|zH<|zC<|zA (zB rfl)<|zA (zAC rfl) ?_
   refine zA (zK Tryz.underlying26 rfl rfl Tryz.sizeOf23 rfl)<|z5 (zAZ (k:=0) (o:=3) (t':=51) (sz:=10) (rows:=List.map zO l3) rfl rfl)<|zA (zN Tryz.isAgg23 rfl rfl rfl rfl)<|zA (zB rfl)<|zM h fun b3 h=>zA (zy (f:=zO) (l:=l3) (i:=M) Tryz.underlying23 Tryz.sizeOf51 rfl rfl rfl b3) ?_
   refine zA (zBO (f:=zO) (l:=l3) (i:=M) (c:=0) (q:=10) (la:=(zO (at_ l3 M))) Tryz.isAgg51 Tryz.sizeOf51 rfl rfl (by first | rfl | omega) b3 rfl rfl rfl)<|zP h fun x2 w2 h=>ze Tryz.func66 rfl (by kernel_rfl) (.fn 66) rfl rfl (zOW w2) rfl<|zA (zB rfl)<|zA (za rfl rfl)<|zA (za rfl rfl) ?_
   refine zA (za rfl rfl)<|zX (H':=[.box 26 [ls cI B.nodes,li B.batch,li B.high,AV.hd 2,AV.osl 55 1 (List.map zI B.caches)],.vec 3 1 (List.map cI l4),.vec 51 10 (List.map zO l3),.box 51 (zO ⟨0,0,0,0,0,(List.replicate 5 ([]:List Int))⟩)]) zv0<|zd (H':=[.box 26 [ls cI B.nodes,li B.batch,li B.high,AV.hd 2,AV.osl 55 1 (List.map zI B.caches)],.vec 3 1 (List.map cI l4),.vec 51 10 (List.map zO l3),.box 51 (zO x2.1)]) (zT (k:=3) (o:=0) (cs:=(zO ⟨0,0,0,0,0,(List.replicate 5 ([]:List Int))⟩)) (la:=(zO x2.1)) Tryz.sizeOf51 rfl rfl rfl rfl)<|zA (zD rfl)<|zA (zD rfl)<|zF ?_
   refine zH<|zH<|zC<|zA (zB rfl)<|zA (z7 rfl rfl)<|zF ?_
   refine zW h rfl (fun b4 h => ?_) (fun b4 h => ?_)
   ·refine zz ?_
    exact ⟨(l3,l4),Rep.trans (z9 (k:=0) (j:=2) (o:=3) rfl rfl rfl rfl) (zAD [0,1] (l:=[(0,(AV.ptr 0 0)),(1,(li I)),(2,(li M)),(6,(AV.hd 1))]) rfl rfl (by kernel_rfl)),h⟩
   refine zQ<|zH ?_
   refine zAm (n:=61) (m:=1) [.head 0 0,.head 0 0,.head 0 0,.head 0 0,.head 0 0,.head 0 0,.head 0 0,.tail 0] [7] [AV.ptr 0 0,AV.ptr 0 0,AV.ptr 0 3,AV.hd 2,li M,(AV.agg (zO x2.1)),(AV.ptr 2 (M.toNat*10)),.any] [[.box 26 [ls cI B.nodes,li B.batch,li B.high,AV.hd 2,AV.osl 55 1 (List.map zI B.caches)],.vec 3 1 (List.map cI l4),.vec 51 10 (List.map zO l3),.box 51 (zO x2.1)],[.box 26 [ls cI B.nodes,li B.batch,li B.high,AV.hd 2,AV.osl 55 1 (List.map zI B.caches)],.vec 3 1 (List.map cI l4),.vec 51 10 (List.map zO (l3.set M.toNat x2.1)),.box 51 (zO x2.1)]] (by kernel_rfl) (by kernel_rfl) ⟨D1 fun e s p=>zB (s 0 rfl),D1 fun e s p=>zAC p.1,D1 fun e s p=>zK (k:=0) (o:=0) (off:=3) Tryz.underlying26 rfl rfl Tryz.sizeOf23 p.1,D1 fun e s p=>zN (k:=0) (o:=3) Tryz.isAgg23 p.1 rfl rfl rfl,D1 fun e s p=>zB (s 2 rfl),D1 fun e s p=>zS (k:=3) (o:=0) (m:=10) Tryz.isAgg51 Tryz.sizeOf51 (s 7 rfl) rfl rfl rfl rfl,D1 fun e s p=>zy (f:=zO) (l:=l3) (i:=M) Tryz.underlying23 Tryz.sizeOf51 p.2.2.2.2.2.1 rfl p.2.2.2.2.2.2.1 b3,?_,trivial⟩ ?_
   ·
    intro e30 s30 p29
    refine zd (H':=[.box 26 [ls cI B.nodes,li B.batch,li B.high,AV.hd 2,AV.osl 55 1 (List.map zI B.caches)],.vec 3 1 (List.map cI l4),.vec 51 10 (List.map zO (l3.set M.toNat x2.1)),.box 51 (zO x2.1)]) (zBG (k:=2) (o:=(M.toNat*10)) (f:=zO) (l:=l3) (i:=M) (z:=x2.1) Tryz.sizeOf51 (fun _=>rfl) (by exact p29.1) rfl (by first | rfl | omega) b3 (by exact p29.2.2.2.2.2.2.2.1) rfl) ?_
    exact zF ⟨fun _=>rfl,rfl⟩
   intro e31 s31 hq2
   refine zAS (zBI (l:=[(0,(AV.ptr 0 0)),(1,(li I)),(2,(li M)),(6,(AV.hd 1)),(8,(li x2.2.1))]) ⟨s31 0 rfl,s31 1 rfl,s31 2 rfl,s31 6 rfl,s31 8 rfl,trivial⟩)<|zC<|zA (zB (av:=(AV.hd 1)) rfl)<|zA (zB (av:=(li x2.2.1)) rfl)<|zF6 (a:=(li x2.2.1)) zGA Tryz.underlying22 rfl rfl rfl rfl<|zM h fun b5 h => ?_
   refine zDE (f:=cI) (k:=1) (j:=4) (l:=l4) (l':=[x2.2.1]) zGA (fun _=>rfl) Tryz.underlying22 rfl rfl rfl rfl b5<|zA (zD rfl)<|zF ?_
   exact ⟨((l3.set M.toNat x2.1),(l4++[x2.2.1])),Rep.trans (z9 (k:=0) (j:=2) (o:=3) rfl rfl rfl rfl) (zAD [0,5] (l:=[(0,(AV.ptr 0 0)),(1,(li I)),(2,(li M)),(6,(AV.hd 1))]) rfl rfl (by kernel_rfl)),h⟩
  refine zz ?_
  exact ⟨(l3,l4),zAD [0,1] rfl rfl (by kernel_rfl),h⟩
 clear h
 rintro ⟨l1,l2⟩ h
 unfold zG3 at h
 refine zAS (zAZ (k:=0) (o:=4) (t':=55) (sz:=1) (rows:=List.map zI B.caches) rfl rfl)<|zAS (zES (j:=1) (ds:=[6]) (rows':=List.map cI l2) rfl (zAM (fun _=>rfl)) ⟨rfl,trivial⟩)<|zM h fun b1 h=>zP h fun x1 w1 h => ?_
 refine zAm (n:=61) (m:=1) [.head 0 0,.head 0 0,.head 0 0,.head 0 0,.head 0 0,.head 0 0,.head 0 0,.head 0 0,.head 0 0,.head 0 0,.head 0 0,.head 0 0,.head 0 0,.head 0 0,.head 0 0,.head 0 0,.head 0 0,.head 0 1,.head 0 0,.tail 0] [19] [AV.ptr 0 0,AV.ptr 0 0,AV.ptr 0 4,AV.hd 2,li I,AV.ptr 0 0,AV.ptr 0 0,AV.ptr 0 4,AV.hd 2,li I,(AV.ptr 2 (I.toNat*1)),(AV.agg (zI (at_ B.caches I))),li M,ls cI l2,(AV.tup [(AV.agg (zI x1.1)),li x1.2]),(AV.tup [(AV.agg (zI x1.1)),li x1.2]),(AV.agg (zI x1.1)),li x1.2,(AV.ptr 2 (I.toNat*1)),.any] [[.box 26 [ls cI B.nodes,li B.batch,li B.high,AV.osl 51 10 (List.map zO l1),AV.hd 2],.dead,.vec 55 1 (List.map zI B.caches)],[.box 26 [ls cI B.nodes,li B.batch,li B.high,AV.osl 51 10 (List.map zO l1),AV.hd 2],.dead,.vec 55 1 (List.map zI (B.caches.set I.toNat x1.1))]] (by kernel_rfl) (by kernel_rfl) ⟨D1 fun e s p=>zB (s 0 rfl),D1 fun e s p=>zAC p.1,D1 fun e s p=>zK (k:=0) (o:=0) (off:=4) Tryz.underlying26 rfl rfl Tryz.sizeOf24 p.1,D1 fun e s p=>zN (k:=0) (o:=4) Tryz.isAgg24 p.1 rfl rfl rfl,D1 fun e s p=>zB (s 1 rfl),D1 fun e s p=>zB (s 0 rfl),D1 fun e s p=>zAC p.1,D1 fun e s p=>zK (k:=0) (o:=0) (off:=4) Tryz.underlying26 rfl rfl Tryz.sizeOf24 p.1,D1 fun e s p=>zN (k:=0) (o:=4) Tryz.isAgg24 p.1 rfl rfl rfl,D1 fun e s p=>zB (s 1 rfl),D1 fun e s p=>zy (f:=zI) (l:=B.caches) (i:=I) Tryz.underlying24 Tryz.sizeOf55 p.1 rfl p.2.1 b1,D1 fun e s p=>zBO (f:=zI) (l:=B.caches) (i:=I) (c:=0) (q:=1) (la:=(zI (at_ B.caches I))) Tryz.isAgg55 Tryz.sizeOf55 p.1 rfl (by first | rfl | omega) b1 rfl rfl rfl,D1 fun e s p=>zB (s 2 rfl),D1 fun e s p=>zB (s 6 rfl),?_,D1 fun e s p=>zB p.1,D1 fun e s p=>za p.1 rfl,⟨D1 fun e s p=>za p.1 rfl,D1 fun e s p=>za p.1 rfl⟩,D1 fun e s p=>zy (f:=zI) (l:=B.caches) (i:=I) Tryz.underlying24 Tryz.sizeOf55 p.2.2.2.2.2.1 rfl p.2.2.2.2.2.2.1 b1,?_,trivial⟩ ?_
 ·
  intro e15 s15 p15
  refine ze (r:=(AV.tup [(AV.agg (zI x1.1)),li x1.2])) (la:=[(AV.agg (zI (at_ B.caches I))),li M,ls cI l2]) Tryz.func140 rfl (by kernel_rfl) (.fn 140) (zAL p15.1 (zAL p15.2.1 (zAL p15.2.2.1 rfl))) rfl (zN9 w1) rfl ?_
  exact zF ⟨fun _=>rfl,rfl⟩
 ·
  intro e21 s21 p21
  refine zd (H':=[.box 26 [ls cI B.nodes,li B.batch,li B.high,AV.osl 51 10 (List.map zO l1),AV.hd 2],.dead,.vec 55 1 (List.map zI (B.caches.set I.toNat x1.1))]) (zBG (k:=2) (o:=(I.toNat*1)) (f:=zI) (l:=B.caches) (i:=I) (z:=x1.1) Tryz.sizeOf55 (fun _=>rfl) (by exact p21.1) rfl (by first | rfl | omega) b1 (by exact p21.2.2.2.2.2.2.2.2.2.2.2.2.2.2.2.2.2.2.2.1) rfl) ?_
  exact zF ⟨fun _=>rfl,rfl⟩
 intro e22 s22 hq1
 cases h
 exact ⟨mkE [],[.box 26 [ls cI B.nodes,li B.batch,li B.high,AV.osl 51 10 (List.map zO l1),AV.osl 55 1 (List.map zI (B.caches.set I.toNat x1.1))]],Rep.trans (zBI (l:=[]) trivial) (Rep.trans (z9 (k:=0) (j:=2) (o:=4) rfl rfl rfl rfl) (zAD [0] (l:=[]) rfl rfl (by kernel_rfl))),zLt rfl⟩
theorem zOa {J:zL} {M:Int} {r:zL×(List Int)×Int} (h:zJB J M=some r):PFn Tryz.prog 120 [(AV.agg (zI J)),li M] (AV.tup [(AV.agg (zI r.1)),ls cI r.2.1,li r.2.2]):=by
 refine zm Tryz.func120 rfl Tryz.ntmps120 Tryz.results120 rfl ?_
 unfold zJB at h
 refine zH<|zC<|zX (H':=[.box 55 (zI J)]) (zu (t:=55) rfl)<|zX (H':=[.box 55 (zI J),.box 55 [(ls (cS cI) ([]:List (List Int)))]]) zv1<|zA (zD rfl)<|zA (zD rfl) ?_
 refine zF<|zH<|zH<|zC<|zA (zS (k:=0) (o:=0) (m:=1) Tryz.isAgg55 Tryz.sizeOf55 rfl rfl rfl rfl rfl)<|zA (zB rfl) ?_
 refine zP h fun x1 w1 h=>ze Tryz.func122 rfl (by kernel_rfl) (.fn 122) rfl rfl (zJy w1) rfl<|zA (zD rfl)<|zF<|zH<|zC ?_
 refine zA (zB rfl)<|zA (z7 rfl rfl)<|zF ?_
 refine zW h rfl (fun b1 h => ?_) (fun b1 h => ?_)
 ·refine zH<|zC<|zA zv2<|zA (zB rfl)<|zd (H':=[.box 55 (zI J),.box 55 (zI (⟨([]:List (List Int))⟩:zL))]) (zT (k:=1) (o:=0) (cs:=[(ls (cS cI) ([]:List (List Int)))]) (la:=(zI (⟨([]:List (List Int))⟩:zL))) Tryz.sizeOf55 rfl rfl rfl rfl)<|zA (zD rfl) ?_
  refine zA (zD rfl)<|zF<|zb ?_
  cases h
  exact zC7 (zDV Tryz.isAgg55 Tryz.sizeOf55 rfl rfl rfl rfl) (zKr (zAI rfl rfl) zAx.nils) (zAI rfl rfl) rfl
 refine zQ<|zH<|zC<|zA (zS (k:=0) (o:=0) (m:=1) Tryz.isAgg55 Tryz.sizeOf55 rfl rfl rfl rfl rfl)<|zP h fun x2 w2 h=>zDg (cs:=[AV.osl 22 1 (List.map (cO 3 1 cI) x2.lists)]) (la:=[(AV.agg (zI J))]) (la':=[(AV.agg (zI J))]) (S:=[]) Tryz.func114 rfl (by kernel_rfl) (.fn 114) rfl ⟨zAl.nr rfl,trivial⟩ (zHz w2) (.inl rfl) ?_
 refine z5 (zJC (k:=2) (o:=0) (cs:=[AV.osl 22 1 (List.map (cO 3 1 cI) x2.lists)]) (rows':=List.map (cS cI) x2.lists) rfl rfl (zDn (fun x=>zRo (fun _=>rfl) x)))<|zX (H':=[.box 55 (zI J),.box 55 [(ls (cS cI) ([]:List (List Int)))],.val (.agg [AV.osl 22 1 (List.map (cS cI) x2.lists)]),.box 55 [(ls (cS cI) ([]:List (List Int)))]]) zv1<|zd (H':=[.box 55 (zI J),.box 55 [(ls (cS cI) ([]:List (List Int)))],.dead,.box 55 [AV.osl 22 1 (List.map (cS cI) x2.lists)]]) (zBW (k:=3) (o:=0) (j:=2) (cs:=[(ls (cS cI) ([]:List (List Int)))]) (la:=[AV.osl 22 1 (List.map (cS cI) x2.lists)]) Tryz.sizeOf55 rfl rfl rfl rfl rfl (by decide))<|zF<|zH<|zC ?_
 refine zA (zD rfl)<|zF<|zH<|zC<|zA (zB rfl)<|zA (zK Tryz.underlying55 rfl rfl Tryz.sizeOf53 rfl) ?_
 refine z5 (zAZ (k:=3) (o:=0) (t':=22) (sz:=1) (rows:=List.map (cS cI) x2.lists) rfl rfl)<|zA (zN Tryz.isAgg53 rfl rfl rfl rfl)<|zA (zB rfl)<|zM h fun b2 h=>zA (zy (f:=(cS cI)) (l:=x2.lists) (i:=M) Tryz.underlying53 Tryz.sizeOf22 rfl rfl rfl b2)<|zA (zA3 (f:=(cS cI)) (l:=x2.lists) (i:=M) (c:=0) (a:=(ls cI (at_ x2.lists M))) Tryz.isAgg22 rfl rfl (by first | rfl | omega) b2 rfl rfl) ?_
 refine z5 (zMI (d:=19) (el:=3) (sz:=1) rfl)<|zM h fun b3 h=>zFn (f:=cI) (k:=5) (l:=([]:List Int)) (l':=at_ x2.lists M) zGA (fun _=>rfl) Tryz.underlying22 rfl rfl rfl b3<|zA (zD rfl)<|zF<|zH ?_
 refine zC<|zA (zK Tryz.underlying55 rfl rfl Tryz.sizeOf53 rfl)<|zA (zN Tryz.isAgg53 rfl rfl rfl rfl)<|zA (zB rfl)<|zA (zy (f:=(cS cI)) (l:=x2.lists) (i:=M) Tryz.underlying53 Tryz.sizeOf22 rfl rfl rfl b2)<|zd (H':=[.box 55 (zI J),.box 55 [(ls (cS cI) ([]:List (List Int)))],.dead,.box 55 [AV.hd 4],.vec 22 1 (List.map (cS cI) (x2.lists.set M.toNat ([]:List Int))),.dead,.vec 3 1 (List.map cI (([]:List Int)++(at_ x2.lists M)))]) (zPE (k:=4) (o:=(M.toNat*1)) (f:=(cS cI)) (l:=x2.lists) (i:=M) (c:=0) (a:=(ls cI ([]:List Int))) (z:=([]:List Int)) Tryz.sizeOf22 rfl rfl (by first | rfl | omega) b2 rfl (by exact zAx.sub zAx.nils) rfl rfl rfl) ?_
 refine zF<|zH<|zC<|z5 (z9 (k:=3) (j:=4) (o:=0) rfl rfl rfl rfl)<|z5 (zA4 (k:=3) (o:=0) (rows':=List.map (cS cI) (x2.lists.set M.toNat ([]:List Int))) rfl rfl (zAM (fun _=>rfl)))<|zA (zS (k:=3) (o:=0) (m:=1) Tryz.isAgg55 Tryz.sizeOf55 rfl rfl rfl rfl rfl) ?_
 refine zA (zB rfl)<|zd (H':=[.box 55 (zI J),.box 55 (zI (⟨x2.lists.set M.toNat ([]:List Int)⟩:zL)),.dead,.box 55 [(ls (cS cI) (x2.lists.set M.toNat ([]:List Int)))],.dead,.dead,.vec 3 1 (List.map cI (([]:List Int)++(at_ x2.lists M)))]) (zT (k:=1) (o:=0) (cs:=[(ls (cS cI) ([]:List (List Int)))]) (la:=(zI (⟨x2.lists.set M.toNat ([]:List Int)⟩:zL))) Tryz.sizeOf55 rfl rfl rfl rfl)<|zA (zD rfl)<|zA (zD rfl)<|zF<|zAS (zES (j:=6) (ds:=[5,9,25,31]) (rows':=List.map cI (([]:List Int)++(at_ x2.lists M))) rfl (zAM (fun _=>rfl)) ⟨rfl,rfl,rfl,rfl,trivial⟩) ?_
 refine zb ?_
 cases h
 exact zC7 (zDV Tryz.isAgg55 Tryz.sizeOf55 rfl rfl rfl rfl) (zAI rfl rfl) (zAI rfl rfl) rfl
theorem zL1 {B:zJ} {I:Int} {M:Int} {r:zJ} (h:zHj B I M=some r):AFn Tryz.prog 65 [AV.ptr 0 0,li I,li M] [.box 26 ([ls cI B.nodes]++([li B.batch]++([li B.high]++([AV.osl 51 10 (List.map zO B.zones)]++([AV.osl 55 1 (List.map zI B.caches)]++[])))))] (.tup []) [.box 26 ([ls cI r.nodes]++([li r.batch]++([li r.high]++([AV.osl 51 10 (List.map zO r.zones)]++([AV.osl 55 1 (List.map zI r.caches)]++[])))))]:=by
 refine zDe Tryz.func65 rfl Tryz.ntmps65 Tryz.results65 rfl ?_
 unfold zHj at h
 refine zH<|zC<|zA (zB rfl)<|zA (zAC rfl)<|zA (zK Tryz.underlying26 rfl rfl Tryz.sizeOf24 rfl)<|z5 (zAZ (k:=0) (o:=4) (t':=55) (sz:=1) (rows:=List.map zI B.caches) rfl rfl) ?_
 refine zA (zN Tryz.isAgg24 rfl rfl rfl rfl)<|zA (zB rfl)<|zM h fun b1 h=>zA (zy (f:=zI) (l:=B.caches) (i:=I) Tryz.underlying24 Tryz.sizeOf55 rfl rfl rfl b1)<|zA (zBO (f:=zI) (l:=B.caches) (i:=I) (c:=0) (q:=1) (la:=(zI (at_ B.caches I))) Tryz.isAgg55 Tryz.sizeOf55 rfl rfl (by first | rfl | omega) b1 rfl rfl rfl)<|zA (zB rfl) ?_
 refine zP h fun x1 w1 h=>ze Tryz.func120 rfl (by kernel_rfl) (.fn 120) rfl rfl (zOa w1) rfl<|zA (zB rfl)<|zA (za rfl rfl)<|zA (za rfl rfl)<|zA (za rfl rfl) ?_
 refine zX (H':=[.box 26 [ls cI B.nodes,li B.batch,li B.high,AV.osl 51 10 (List.map zO B.zones),AV.hd 1],.vec 55 1 (List.map zI B.caches),.box 55 [(ls (cS cI) ([]:List (List Int)))]]) zv1<|zd (H':=[.box 26 [ls cI B.nodes,li B.batch,li B.high,AV.osl 51 10 (List.map zO B.zones),AV.hd 1],.vec 55 1 (List.map zI B.caches),.box 55 (zI x1.1)]) (zT (k:=2) (o:=0) (cs:=[(ls (cS cI) ([]:List (List Int)))]) (la:=(zI x1.1)) Tryz.sizeOf55 rfl rfl rfl rfl)<|zA (zD rfl)<|zA (zD rfl)<|zF<|zH ?_
 refine zAm (n:=33) (m:=1) [.head 0 0,.head 0 0,.head 0 0,.head 0 0,.head 0 0,.head 0 0,.head 0 0,.tail 0] [7] [AV.ptr 0 0,AV.ptr 0 0,AV.ptr 0 4,AV.hd 1,li I,(AV.agg (zI x1.1)),(AV.ptr 1 (I.toNat*1)),.any] [[.box 26 [ls cI B.nodes,li B.batch,li B.high,AV.osl 51 10 (List.map zO B.zones),AV.hd 1],.vec 55 1 (List.map zI B.caches),.box 55 (zI x1.1)],[.box 26 [ls cI B.nodes,li B.batch,li B.high,AV.osl 51 10 (List.map zO B.zones),AV.hd 1],.vec 55 1 (List.map zI (B.caches.set I.toNat x1.1)),.box 55 (zI x1.1)]] (by kernel_rfl) (by kernel_rfl) ⟨D1 fun e s p=>zB (s 0 rfl),D1 fun e s p=>zAC p.1,D1 fun e s p=>zK (k:=0) (o:=0) (off:=4) Tryz.underlying26 rfl rfl Tryz.sizeOf24 p.1,D1 fun e s p=>zN (k:=0) (o:=4) Tryz.isAgg24 p.1 rfl rfl rfl,D1 fun e s p=>zB (s 1 rfl),D1 fun e s p=>zS (k:=2) (o:=0) (m:=1) Tryz.isAgg55 Tryz.sizeOf55 (s 6 rfl) rfl rfl rfl rfl,D1 fun e s p=>zy (f:=zI) (l:=B.caches) (i:=I) Tryz.underlying24 Tryz.sizeOf55 p.2.2.2.2.2.1 rfl p.2.2.2.2.2.2.1 b1,?_,trivial⟩ ?_
 ·
  intro e8 s8 p8
  refine zd (H':=[.box 26 [ls cI B.nodes,li B.batch,li B.high,AV.osl 51 10 (List.map zO B.zones),AV.hd 1],.vec 55 1 (List.map zI (B.caches.set I.toNat x1.1)),.box 55 (zI x1.1)]) (zBG (k:=1) (o:=(I.toNat*1)) (f:=zI) (l:=B.caches) (i:=I) (z:=x1.1) Tryz.sizeOf55 (fun _=>rfl) (by exact p8.1) rfl (by first | rfl | omega) b1 (by exact p8.2.2.2.2.2.2.2.1) rfl) ?_
  exact zF ⟨fun _=>rfl,rfl⟩
 intro e9 s9 hq1
 refine zAS (zBI (l:=[(0,(AV.ptr 0 0)),(2,(li M)),(7,(ls cI x1.2.1))]) ⟨s9 0 rfl,s9 2 rfl,s9 7 rfl,trivial⟩)<|zC<|zA (zB (av:=(AV.ptr 0 0)) rfl)<|zA (zB (av:=(li M)) rfl)<|zA (zB (av:=(ls cI x1.2.1)) rfl)<|z5 (z9 (k:=0) (j:=1) (o:=4) (cs:=[ls cI B.nodes,li B.batch,li B.high,AV.osl 51 10 (List.map zO B.zones),AV.hd 1]) rfl rfl rfl rfl) ?_
 refine zP h fun x2 w2 h=>zCu (k:=0) (la:=[AV.ptr 0 0,li M,ls cI x1.2.1]) (la':=[AV.ptr 0 0,li M,ls cI x1.2.1]) (r:=(.tup [])) (S:=[]) (en' := .box 26 [ls cI x2.nodes,li x2.batch,li x2.high,AV.osl 51 10 (List.map zO x2.zones),AV.osl 55 1 (List.map zI x2.caches)]) Tryz.func70 rfl (by kernel_rfl) (.fn 70) rfl ⟨zBs.ptr,zBs.of (zAl.nr rfl),zBs.of (zAl.nr rfl),trivial⟩ rfl rfl (by kernel_rfl) (by kernel_rfl) (zPJ w2) rfl (.inl rfl)<|zF ?_
 cases h
 exact ⟨mkE [],[.box 26 [ls cI x2.nodes,li x2.batch,li x2.high,AV.osl 51 10 (List.map zO x2.zones),AV.osl 55 1 (List.map zI x2.caches)]],zAD [0] rfl rfl (by kernel_rfl),zLt rfl⟩
theorem zPN {J:zL} {M:Int} {r:zL×Int×Int} (h:zMx J M=some r):PFn Tryz.prog 116 [(AV.agg (zI J)),li M] (AV.tup [(AV.agg (zI r.1)),li r.2.1,li r.2.2]):=by
 refine zm Tryz.func116 rfl Tryz.ntmps116 Tryz.results116 rfl ?_
 unfold zMx at h
 refine zH<|zC<|zX (H':=[.box 55 (zI J)]) (zu (t:=55) rfl)<|zX (H':=[.box 55 (zI J),.box 55 [(ls (cS cI) ([]:List (List Int)))]]) zv1<|zA (zD rfl)<|zA (zD rfl) ?_
 refine zF<|zH<|zH<|zC<|zA (zS (k:=0) (o:=0) (m:=1) Tryz.isAgg55 Tryz.sizeOf55 rfl rfl rfl rfl rfl)<|zA (zB rfl) ?_
 refine zP h fun x1 w1 h=>ze Tryz.func122 rfl (by kernel_rfl) (.fn 122) rfl rfl (zJy w1) rfl<|zA (zD rfl)<|zF<|zH<|zC ?_
 refine zA (zB rfl)<|zA (z7 rfl rfl)<|zF ?_
 refine zW h rfl (fun b1 h => ?_) (fun b1 h => ?_)
 ·refine zH<|zC<|zA zv2<|zA (zB rfl)<|zd (H':=[.box 55 (zI J),.box 55 (zI (⟨([]:List (List Int))⟩:zL))]) (zT (k:=1) (o:=0) (cs:=[(ls (cS cI) ([]:List (List Int)))]) (la:=(zI (⟨([]:List (List Int))⟩:zL))) Tryz.sizeOf55 rfl rfl rfl rfl)<|zA (zD rfl) ?_
  refine zA (zD rfl)<|zF<|zb ?_
  cases h
  exact zC7 (zDV Tryz.isAgg55 Tryz.sizeOf55 rfl rfl rfl rfl) (zAI rfl rfl) (zAI rfl rfl) rfl
 refine zQ<|zH<|zC<|zA (zK Tryz.underlying55 rfl rfl Tryz.sizeOf53 rfl)<|zA (zN Tryz.isAgg53 rfl rfl rfl rfl)<|zA (zB rfl) ?_
 refine zM h fun b2 h=>zA (zV Tryz.underlying53 Tryz.sizeOf22 (fun _=>rfl) rfl rfl b2)<|zA (zU (o:=0) Tryz.isAgg22 rfl rfl)<|zA (zY Tryz.underlying22 rfl)<|zA (zD rfl)<|zF ?_
 refine zH<|zH<|zC<|zA (zB rfl)<|zA (zA8 rfl rfl)<|zF ?_
 refine zW h rfl (fun b3 h => ?_) (fun b3 h => ?_)
 ·refine zH<|zC<|zA zv2<|zd (H':=[.box 55 (zI J),.box 55 (zI (⟨([]:List (List Int))⟩:zL))]) (zT (k:=1) (o:=0) (cs:=[(ls (cS cI) ([]:List (List Int)))]) (la:=(zI (⟨([]:List (List Int))⟩:zL))) Tryz.sizeOf55 rfl rfl rfl rfl)<|zA (zD rfl)<|zA (zD rfl) ?_
  refine zF<|zb ?_
  cases h
  exact zC7 (zDV Tryz.isAgg55 Tryz.sizeOf55 rfl rfl rfl rfl) (zAI rfl rfl) (zAI rfl rfl) rfl
 refine zQ<|zH<|zC<|zA (zS (k:=0) (o:=0) (m:=1) Tryz.isAgg55 Tryz.sizeOf55 rfl rfl rfl rfl rfl)<|zP h fun x2 w2 h=>zDg (cs:=[AV.osl 22 1 (List.map (cO 3 1 cI) x2.lists)]) (la:=[(AV.agg (zI J))]) (la':=[(AV.agg (zI J))]) (S:=[]) Tryz.func114 rfl (by kernel_rfl) (.fn 114) rfl ⟨zAl.nr rfl,trivial⟩ (zHz w2) (.inl rfl) ?_
 refine z5 (zJC (k:=2) (o:=0) (cs:=[AV.osl 22 1 (List.map (cO 3 1 cI) x2.lists)]) (rows':=List.map (cS cI) x2.lists) rfl rfl (zDn (fun x=>zRo (fun _=>rfl) x)))<|zX (H':=[.box 55 (zI J),.box 55 [(ls (cS cI) ([]:List (List Int)))],.val (.agg [AV.osl 22 1 (List.map (cS cI) x2.lists)]),.box 55 [(ls (cS cI) ([]:List (List Int)))]]) zv1<|zd (H':=[.box 55 (zI J),.box 55 [(ls (cS cI) ([]:List (List Int)))],.dead,.box 55 [AV.osl 22 1 (List.map (cS cI) x2.lists)]]) (zBW (k:=3) (o:=0) (j:=2) (cs:=[(ls (cS cI) ([]:List (List Int)))]) (la:=[AV.osl 22 1 (List.map (cS cI) x2.lists)]) Tryz.sizeOf55 rfl rfl rfl rfl rfl (by decide))<|zF<|zH<|zC ?_
 refine zA (zK Tryz.underlying55 rfl rfl Tryz.sizeOf53 rfl)<|z5 (zAZ (k:=3) (o:=0) (t':=22) (sz:=1) (rows:=List.map (cS cI) x2.lists) rfl rfl)<|zA (zN Tryz.isAgg53 rfl rfl rfl rfl)<|zA (zB rfl)<|zM h fun b4 h=>zA (zy (f:=(cS cI)) (l:=x2.lists) (i:=M) Tryz.underlying53 Tryz.sizeOf22 rfl rfl rfl b4) ?_
 refine zA (zA3 (f:=(cS cI)) (l:=x2.lists) (i:=M) (c:=0) (a:=(ls cI (at_ x2.lists M))) Tryz.isAgg22 rfl rfl (by first | rfl | omega) b4 rfl rfl)<|zA (zB rfl)<|zM h fun b5 h=>zA (zBa rfl rfl b5)<|zM h fun b6 h=>zA (zV Tryz.underlying22 Tryz.sizeOf3 (fun _=>rfl) rfl rfl b6) ?_
 refine zA (zU (o:=0) Tryz.isAgg3 rfl rfl)<|zA (zD rfl)<|zF<|zH<|zM h fun b7 h => ?_
 refine zAm (n:=52) (m:=0) [.head 0 0,.head 0 0,.head 0 0,.head 0 0,.head 0 0,.head 0 0,.head 0 0,.head 0 0,.head 0 0,.head 0 0,.head 0 0,.head 0 0,.tail 0] [12] [AV.ptr 3 0,AV.hd 4,li M,AV.ptr 3 0,AV.hd 4,li M,(AV.ptr 4 (M.toNat*1)),(ls cI (at_ x2.lists M)),(li ((at_ J.lists M).length:Int)),(li (((at_ J.lists M).length:Int) - 1)),(ls cI (zH6 (at_ x2.lists M) 0 (((at_ J.lists M).length:Int) - 1))),(AV.ptr 4 (M.toNat*1)),.any] [[.box 55 (zI J),.box 55 [(ls (cS cI) ([]:List (List Int)))],.dead,.box 55 [AV.hd 4],.vec 22 1 (List.map (cS cI) x2.lists)],[.box 55 (zI J),.box 55 [(ls (cS cI) ([]:List (List Int)))],.dead,.box 55 [AV.hd 4],.vec 22 1 (List.map (cS cI) (x2.lists.set M.toNat (zH6 (at_ x2.lists M) 0 (((at_ J.lists M).length:Int) - 1))))]] (by kernel_rfl) (by kernel_rfl) ⟨D1 fun e s p=>zK (k:=3) (o:=0) (off:=0) Tryz.underlying55 rfl rfl Tryz.sizeOf53 (s 9 rfl),D1 fun e s p=>zN (k:=3) (o:=0) Tryz.isAgg53 p.1 rfl rfl rfl,D1 fun e s p=>zB (s 1 rfl),D1 fun e s p=>zK (k:=3) (o:=0) (off:=0) Tryz.underlying55 rfl rfl Tryz.sizeOf53 (s 9 rfl),D1 fun e s p=>zN (k:=3) (o:=0) Tryz.isAgg53 p.1 rfl rfl rfl,D1 fun e s p=>zB (s 1 rfl),D1 fun e s p=>zy (f:=(cS cI)) (l:=x2.lists) (i:=M) Tryz.underlying53 Tryz.sizeOf22 p.1 rfl p.2.1 b4,D1 fun e s p=>zA3 (f:=(cS cI)) (l:=x2.lists) (i:=M) (c:=0) (a:=(ls cI (at_ x2.lists M))) Tryz.isAgg22 p.1 rfl (by first | rfl | omega) b4 rfl rfl,D1 fun e s p=>zB (s 8 rfl),D1 fun e s p=>zBa (a:=((at_ J.lists M).length:Int)) (b:=1) p.1 rfl b5,D1 fun e s p=>zNt (hi:=((at_ J.lists M).length:Int) - 1) (f:=cI) (l:=at_ x2.lists M) Tryz.underlying22 Tryz.sizeOf3 (fun _=>rfl) p.1 p.2.1 b7,D1 fun e s p=>zy (f:=(cS cI)) (l:=x2.lists) (i:=M) Tryz.underlying53 Tryz.sizeOf22 p.2.2.2.1 rfl p.2.2.2.2.1 b4,?_,trivial⟩ ?_
 ·
  intro e13 s13 p13
  refine zd (H':=[.box 55 (zI J),.box 55 [(ls (cS cI) ([]:List (List Int)))],.dead,.box 55 [AV.hd 4],.vec 22 1 (List.map (cS cI) (x2.lists.set M.toNat (zH6 (at_ x2.lists M) 0 (((at_ J.lists M).length:Int) - 1))))]) (zBZ (k:=4) (o:=(M.toNat*1)) (f:=(cS cI)) (l:=x2.lists) (i:=M) (c:=0) (a:=(ls cI (zH6 (at_ x2.lists M) 0 (((at_ J.lists M).length:Int) - 1)))) (z:=zH6 (at_ x2.lists M) 0 (((at_ J.lists M).length:Int) - 1)) Tryz.sizeOf22 (by exact p13.1) rfl (by first | rfl | omega) b4 rfl (by exact p13.2.2.2.2.2.2.2.2.2.2.2.2.1) rfl rfl rfl) ?_
  exact zF ⟨fun _=>rfl,rfl⟩
 intro e14 s14 hq1
 refine zAS (zBI (l:=[(4,(AV.ptr 1 0)),(9,(AV.ptr 3 0)),(10,(li (at_ (at_ x2.lists M) (((at_ J.lists M).length:Int) - 1))))]) ⟨s14 4 rfl,s14 9 rfl,s14 10 rfl,trivial⟩)<|zH<|zC<|z5 (z9 (k:=3) (j:=4) (o:=0) (cs:=[AV.hd 4]) rfl rfl rfl rfl)<|z5 (zA4 (k:=3) (o:=0) (cs:=[AV.osl 22 1 (List.map (cS cI) (x2.lists.set M.toNat (zH6 (at_ x2.lists M) 0 (((at_ J.lists M).length:Int) - 1))))]) (rows':=List.map (cS cI) (x2.lists.set M.toNat (zH6 (at_ x2.lists M) 0 (((at_ J.lists M).length:Int) - 1)))) rfl rfl (zAM (fun _=>rfl)))<|zA (zS (k:=3) (o:=0) (m:=1) (la:=[(ls (cS cI) (x2.lists.set M.toNat (zH6 (at_ x2.lists M) 0 (((at_ J.lists M).length:Int) - 1))))]) Tryz.isAgg55 Tryz.sizeOf55 rfl rfl rfl rfl rfl) ?_
 refine zA (zB rfl)<|zd (H':=[.box 55 (zI J),.box 55 (zI (⟨x2.lists.set M.toNat (zH6 (at_ x2.lists M) 0 (((at_ J.lists M).length:Int) - 1))⟩:zL)),.dead,.box 55 [(ls (cS cI) (x2.lists.set M.toNat (zH6 (at_ x2.lists M) 0 (((at_ J.lists M).length:Int) - 1))))],.dead]) (zT (k:=1) (o:=0) (cs:=[(ls (cS cI) ([]:List (List Int)))]) (la:=(zI (⟨x2.lists.set M.toNat (zH6 (at_ x2.lists M) 0 (((at_ J.lists M).length:Int) - 1))⟩:zL))) Tryz.sizeOf55 rfl rfl rfl rfl)<|zA (zD rfl)<|zA (zD rfl)<|zF<|zb ?_
 cases h
 exact zC7 (zDV Tryz.isAgg55 Tryz.sizeOf55 rfl rfl rfl rfl) (zAI rfl rfl) (zAI rfl rfl) rfl
theorem zUf {A:zJ} {D:Int} {G:Int} {r:zJ×Int} (h:zP7 A D G=some r):AFn Tryz.prog 60 [AV.ptr 0 0,li D,li G] [.box 26 ([ls cI A.nodes]++([li A.batch]++([li A.high]++([AV.osl 51 10 (List.map zO A.zones)]++([AV.osl 55 1 (List.map zI A.caches)]++[])))))] (li r.2) [.box 26 ([ls cI r.1.nodes]++([li r.1.batch]++([li r.1.high]++([AV.osl 51 10 (List.map zO r.1.zones)]++([AV.osl 55 1 (List.map zI r.1.caches)]++[])))))]:=by
 refine zDe Tryz.func60 rfl Tryz.ntmps60 Tryz.results60 rfl ?_
 unfold zP7 at h
 refine zH<|zC<|zA (zD rfl)<|zF ?_
 refine zx (r:=r) (fun ((d1,d2,d3,l1,l2):(List Int)×Int×Int×(List zi)×(List zL))=>mkE [(0,(AV.ptr 0 0)),(1,(li D)),(2,(li G))]) (fun (d1,d2,d3,l1,l2)=>[.box 26 [ls cI d1,li d2,li d3,AV.osl 51 10 (List.map zO l1),AV.osl 55 1 (List.map zI l2)]]) (fun (d1,d2,d3,l1,l2)=>zJg D G d1 d2 d3 l1 l2) ?_ ?_
 ·
  refine zH<|zC<|zA (zB rfl)<|zA (zAC rfl)<|zA (zK Tryz.underlying26 rfl rfl Tryz.sizeOf24 rfl)<|z5 (zAZ (k:=0) (o:=4) (t':=55) (sz:=1) (rows:=List.map zI A.caches) rfl rfl) ?_
  refine zA (zN Tryz.isAgg24 rfl rfl rfl rfl)<|zA (zB rfl)<|zM h fun b7 h=>zA (zy (f:=zI) (l:=A.caches) (i:=D) Tryz.underlying24 Tryz.sizeOf55 rfl rfl rfl b7)<|zA (zK Tryz.underlying55 rfl rfl Tryz.sizeOf53 rfl)<|zA (zA3 (f:=zI) (l:=A.caches) (i:=D) (c:=0) (a:=(ls (cS cI) ((at_ A.caches D).lists))) Tryz.isAgg53 rfl rfl (by first | rfl | omega) b7 rfl rfl) ?_
  refine zA (zB rfl)<|zM h fun b8 h=>zA (zV Tryz.underlying53 Tryz.sizeOf22 (fun _=>rfl) rfl rfl b8)<|zA (zU (o:=0) Tryz.isAgg22 rfl rfl)<|zA (zY Tryz.underlying22 rfl)<|zA (zA8 rfl rfl) ?_
  refine zF ?_
  refine zW h rfl (fun b9 h => ?_) (fun b9 h => ?_)
  ·refine zC<|zA (zB rfl)<|zA (zB rfl)<|zA (zB rfl)<|z5 (z9 (k:=0) (j:=1) (o:=4) rfl rfl rfl rfl)<|zP h fun x4 w4 h => ?_
   refine zCu (k:=0) (la:=[AV.ptr 0 0,li D,li G]) (la':=[AV.ptr 0 0,li D,li G]) (r:=(.tup [])) (S:=[]) (en' := .box 26 [ls cI x4.nodes,li x4.batch,li x4.high,AV.osl 51 10 (List.map zO x4.zones),AV.osl 55 1 (List.map zI x4.caches)]) Tryz.func115 rfl (by kernel_rfl) (.fn 115) rfl ⟨zBs.ptr,zBs.of (zAl.nr rfl),zBs.of (zAl.nr rfl),trivial⟩ rfl rfl (by kernel_rfl) (by kernel_rfl) (zLL w4) rfl (.inl rfl)<|zF ?_
   exact ⟨(x4.nodes,x4.batch,x4.high,x4.zones,x4.caches),zAD [0] rfl rfl (by kernel_rfl),h⟩
  refine zQ ?_
  exact ⟨(A.nodes,A.batch,A.high,A.zones,A.caches),Rep.trans (z9 (k:=0) (j:=1) (o:=4) rfl rfl rfl rfl) (zAD [0] (l:=[(0,(AV.ptr 0 0)),(1,(li D)),(2,(li G))]) rfl rfl (by kernel_rfl)),h⟩
 clear h
 rintro ⟨d1,d2,d3,l1,l2⟩ h
 unfold zJg at h
 refine zx (r:=r) (fun ((d4,d5,d6,l3,l4):(List Int)×Int×Int×(List zi)×(List zL))=>mkE [(0,(AV.ptr 0 0)),(1,(li D)),(2,(li G))]) (fun (d4,d5,d6,l3,l4)=>[.box 26 [ls cI d4,li d5,li d6,AV.osl 51 10 (List.map zO l3),AV.osl 55 1 (List.map zI l4)]]) (fun (d4,d5,d6,l3,l4)=>zJh D G d4 d5 d6 l3 l4) ?_ ?_
 ·
  refine zH<|zC<|zA (zB rfl)<|zA (zAC rfl)<|zA (zK Tryz.underlying26 rfl rfl Tryz.sizeOf24 rfl)<|z5 (zAZ (k:=0) (o:=4) (t':=55) (sz:=1) (rows:=List.map zI l2) rfl rfl) ?_
  refine zA (zN Tryz.isAgg24 rfl rfl rfl rfl)<|zA (zB rfl)<|zM h fun b2 h=>zA (zy (f:=zI) (l:=l2) (i:=D) Tryz.underlying24 Tryz.sizeOf55 rfl rfl rfl b2)<|zA (zK Tryz.underlying55 rfl rfl Tryz.sizeOf53 rfl)<|zA (zA3 (f:=zI) (l:=l2) (i:=D) (c:=0) (a:=(ls (cS cI) ((at_ l2 D).lists))) Tryz.isAgg53 rfl rfl (by first | rfl | omega) b2 rfl rfl) ?_
  refine zA (zB rfl)<|zM h fun b3 h=>zA (zV Tryz.underlying53 Tryz.sizeOf22 (fun _=>rfl) rfl rfl b3)<|zA (zU (o:=0) Tryz.isAgg22 rfl rfl)<|zA (zY Tryz.underlying22 rfl)<|zA (zA8 rfl rfl) ?_
  refine zF ?_
  refine zW h rfl (fun b4 h => ?_) (fun b4 h => ?_)
  ·refine zx (r:=r) (fun ((d7,d8,d9,l5,l6):(List Int)×Int×Int×(List zi)×(List zL))=>mkE [(0,(AV.ptr 0 0)),(1,(li D)),(2,(li G))]) (fun (d7,d8,d9,l5,l6)=>[.box 26 [ls cI d7,li d8,li d9,AV.osl 51 10 (List.map zO l5),AV.osl 55 1 (List.map zI l6)]]) (fun (d7,d8,d9,l5,l6)=>zLT D G d7 d8 d9 l5 l6) ?_ ?_
   ·
    refine zH<|zC<|zA (zD rfl)<|zF<|zR<|zt (σ:=Int×(List Int)×Int×Int×(List zi)×(List zL)) (fun (i1,d10,d11,d12,l7,l8)=>mkE [(0,(AV.ptr 0 0)),(1,(li D)),(2,(li G)),(7,(li i1))]) (fun (i1,d10,d11,d12,l7,l8)=>[.box 26 [ls cI d10,li d11,li d12,AV.osl 51 10 (List.map zO l7),AV.osl 55 1 (List.map zI l8)]]) (fun n0 (i1,d10,d11,d12,l7,l8)=>zJU D G n0 i1 d10 d11 d12 l7 l8) (0,d1,d2,d3,l1,l2) h (fun _=>rfl) (Rep.trans (z9 (k:=0) (j:=1) (o:=4) rfl rfl rfl rfl) (zAD [0] (l:=[(0,(AV.ptr 0 0)),(1,(li D)),(2,(li G)),(7,(li 0))]) rfl rfl (by kernel_rfl))) ?_
    clear h
    rintro n0 ⟨i1,d10,d11,d12,l7,l8⟩ h
    replace h:zLX D G (zJU D G n0) i1 d10 d11 d12 l7 l8=some r:=h
    unfold zLX at h
    refine zH<|zH<|zC<|zA (zB rfl)<|zA (zB rfl)<|zA (zAC rfl) ?_
    refine zA (zK Tryz.underlying26 rfl rfl Tryz.sizeOf24 rfl)<|z5 (zAZ (k:=0) (o:=4) (t':=55) (sz:=1) (rows:=List.map zI l8) rfl rfl)<|zA (zN Tryz.isAgg24 rfl rfl rfl rfl)<|zA (zCd (f:=zI) (l:=l8) Tryz.underlying24 rfl rfl)<|zA (zh rfl rfl)<|zF ?_
    refine zW h rfl (fun b5 h => ?_) (fun b5 h => ?_)
    ·refine zQ<|zH<|zR<|zC<|zA (zB rfl)<|zA (zB rfl) ?_
     refine zA (zB rfl)<|z5 (z9 (k:=0) (j:=1) (o:=4) rfl rfl rfl rfl)<|zP h fun x3 w3 h=>zCu (k:=0) (la:=[AV.ptr 0 0,li i1,li G]) (la':=[AV.ptr 0 0,li i1,li G]) (r:=(.tup [])) (S:=[]) (en' := .box 26 [ls cI x3.nodes,li x3.batch,li x3.high,AV.osl 51 10 (List.map zO x3.zones),AV.osl 55 1 (List.map zI x3.caches)]) Tryz.func65 rfl (by kernel_rfl) (.fn 65) rfl ⟨zBs.ptr,zBs.of (zAl.nr rfl),zBs.of (zAl.nr rfl),trivial⟩ rfl rfl (by kernel_rfl) (by kernel_rfl) (zL1 w3) rfl (.inl rfl)<|zF<|zC ?_
     refine zA (zB rfl)<|zM h fun b6 h=>zA (zg rfl rfl b6)<|zA (zD rfl)<|zF ?_
     exact ⟨((i1+1),x3.nodes,x3.batch,x3.high,x3.zones,x3.caches),zAD [0] rfl rfl (by kernel_rfl),h⟩
    refine zz ?_
    exact ⟨(d10,d11,d12,l7,l8),Rep.trans (z9 (k:=0) (j:=1) (o:=4) rfl rfl rfl rfl) (zAD [0] (l:=[(0,(AV.ptr 0 0)),(1,(li D)),(2,(li G))]) rfl rfl (by kernel_rfl)),h⟩
   clear h
   rintro ⟨d7,d8,d9,l5,l6⟩ h
   unfold zLT at h
   refine zC<|zA (zB rfl)<|zA (zB rfl)<|zA (zB rfl)<|zP h fun x2 w2 h=>zCu (k:=0) (la:=[AV.ptr 0 0,li D,li G]) (la':=[AV.ptr 0 0,li D,li G]) (r:=(.tup [])) (S:=[]) (en' := .box 26 [ls cI x2.nodes,li x2.batch,li x2.high,AV.osl 51 10 (List.map zO x2.zones),AV.osl 55 1 (List.map zI x2.caches)]) Tryz.func115 rfl (by kernel_rfl) (.fn 115) rfl ⟨zBs.ptr,zBs.of (zAl.nr rfl),zBs.of (zAl.nr rfl),trivial⟩ rfl rfl (by kernel_rfl) (by kernel_rfl) (zLL w2) rfl (.inl rfl) ?_
   refine zF ?_
   exact ⟨(x2.nodes,x2.batch,x2.high,x2.zones,x2.caches),zAD [0] rfl rfl (by kernel_rfl),h⟩
  refine zQ ?_
  exact ⟨(d1,d2,d3,l1,l2),Rep.trans (z9 (k:=0) (j:=1) (o:=4) rfl rfl rfl rfl) (zAD [0] (l:=[(0,(AV.ptr 0 0)),(1,(li D)),(2,(li G))]) rfl rfl (by kernel_rfl)),h⟩
 clear h
 rintro ⟨d4,d5,d6,l3,l4⟩ h
 unfold zJh at h
 refine zH<|zC<|zA (zB rfl)<|zA (zAC rfl)<|zA (zK Tryz.underlying26 rfl rfl Tryz.sizeOf24 rfl)<|z5 (zAZ (k:=0) (o:=4) (t':=55) (sz:=1) (rows:=List.map zI l4) rfl rfl) ?_
 refine zA (zN Tryz.isAgg24 rfl rfl rfl rfl)<|zA (zB rfl)<|zM h fun b1 h=>zA (zy (f:=zI) (l:=l4) (i:=D) Tryz.underlying24 Tryz.sizeOf55 rfl rfl rfl b1)<|zA (zBO (f:=zI) (l:=l4) (i:=D) (c:=0) (q:=1) (la:=(zI (at_ l4 D))) Tryz.isAgg55 Tryz.sizeOf55 rfl rfl (by first | rfl | omega) b1 rfl rfl rfl)<|zA (zB rfl) ?_
 refine zP h fun x1 w1 h=>ze Tryz.func116 rfl (by kernel_rfl) (.fn 116) rfl rfl (zPN w1) rfl<|zA (zB rfl)<|zA (za rfl rfl)<|zA (za rfl rfl)<|zA (za rfl rfl) ?_
 refine zX (H':=[.box 26 [ls cI d4,li d5,li d6,AV.osl 51 10 (List.map zO l3),AV.hd 1],.vec 55 1 (List.map zI l4),.box 55 [(ls (cS cI) ([]:List (List Int)))]]) zv1<|zd (H':=[.box 26 [ls cI d4,li d5,li d6,AV.osl 51 10 (List.map zO l3),AV.hd 1],.vec 55 1 (List.map zI l4),.box 55 (zI x1.1)]) (zT (k:=2) (o:=0) (cs:=[(ls (cS cI) ([]:List (List Int)))]) (la:=(zI x1.1)) Tryz.sizeOf55 rfl rfl rfl rfl)<|zA (zD rfl)<|zA (zD rfl)<|zF<|zH ?_
 refine zAm (n:=79) (m:=1) [.head 0 0,.head 0 0,.head 0 0,.head 0 0,.head 0 0,.head 0 0,.head 0 0,.tail 0] [7] [AV.ptr 0 0,AV.ptr 0 0,AV.ptr 0 4,AV.hd 1,li D,(AV.agg (zI x1.1)),(AV.ptr 1 (D.toNat*1)),.any] [[.box 26 [ls cI d4,li d5,li d6,AV.osl 51 10 (List.map zO l3),AV.hd 1],.vec 55 1 (List.map zI l4),.box 55 (zI x1.1)],[.box 26 [ls cI d4,li d5,li d6,AV.osl 51 10 (List.map zO l3),AV.hd 1],.vec 55 1 (List.map zI (l4.set D.toNat x1.1)),.box 55 (zI x1.1)]] (by kernel_rfl) (by kernel_rfl) ⟨D1 fun e s p=>zB (s 0 rfl),D1 fun e s p=>zAC p.1,D1 fun e s p=>zK (k:=0) (o:=0) (off:=4) Tryz.underlying26 rfl rfl Tryz.sizeOf24 p.1,D1 fun e s p=>zN (k:=0) (o:=4) Tryz.isAgg24 p.1 rfl rfl rfl,D1 fun e s p=>zB (s 1 rfl),D1 fun e s p=>zS (k:=2) (o:=0) (m:=1) Tryz.isAgg55 Tryz.sizeOf55 (s 8 rfl) rfl rfl rfl rfl,D1 fun e s p=>zy (f:=zI) (l:=l4) (i:=D) Tryz.underlying24 Tryz.sizeOf55 p.2.2.2.2.2.1 rfl p.2.2.2.2.2.2.1 b1,?_,trivial⟩ ?_
 ·
  intro e8 s8 p8
  refine zd (H':=[.box 26 [ls cI d4,li d5,li d6,AV.osl 51 10 (List.map zO l3),AV.hd 1],.vec 55 1 (List.map zI (l4.set D.toNat x1.1)),.box 55 (zI x1.1)]) (zBG (k:=1) (o:=(D.toNat*1)) (f:=zI) (l:=l4) (i:=D) (z:=x1.1) Tryz.sizeOf55 (fun _=>rfl) (by exact p8.1) rfl (by first | rfl | omega) b1 (by exact p8.2.2.2.2.2.2.2.1) rfl) ?_
  exact zF ⟨fun _=>rfl,rfl⟩
 intro e9 s9 hq1
 refine zAS (zBI (l:=[(9,(li x1.2.1))]) ⟨s9 9 rfl,trivial⟩)<|zH<|zC<|zA (zB (av:=(li x1.2.1)) rfl)<|zA (zD (av:=(li x1.2.1)) rfl)<|zF ?_
 refine zb ?_
 cases h
 exact ⟨mkE [(6,(li x1.2.1))],[.box 26 [ls cI d4,li d5,li d6,AV.osl 51 10 (List.map zO l3),AV.osl 55 1 (List.map zI (l4.set D.toNat x1.1))]],Rep.trans (z9 (k:=0) (j:=1) (o:=4) rfl rfl rfl rfl) (zAD [0] (l:=[(6,(li x1.2.1))]) rfl rfl (by kernel_rfl)),zRU rfl rfl⟩
theorem zMA {uC:Int} {uH:Int} {r:Bool} (h:zBY uC uH=some r):PFn Tryz.prog 76 [li uC,(AV.rp [li uH] 0)] (AV.lit (.bool r)):=by
 refine zm Tryz.func76 rfl Tryz.ntmps76 Tryz.results76 rfl ?_
 unfold zBY at h
 refine zH<|zC<|zA (zD rfl)<|zF<|zH<|zC ?_
 refine zA (zB rfl)<|zA (zU (o:=0) Tryz.isAgg3 rfl rfl)<|zA (zA8 rfl rfl)<|zA (zD rfl)<|zF<|zb ?_
 cases h
 exact zv (zAI rfl rfl)
theorem zIi {W : List Int} {uU : Int → Option Bool} {g_a_del : FuncId} {cf_a_del : Func} {code_a_del : Code} {caps_a_del : List AV} (hcf_a_del : Tryz.prog.funcs[g_a_del]? = some cf_a_del) (hcb_a_del : cf_a_del.body = some code_a_del) (hcn_a_del : (cf_a_del.name == "runtime.NumGoroutine") = false) (hnr_a_del : caps_a_del.all nr = true) (hg_a_del : ∀ {x0 : Int} {y : Bool}, uU x0 = some y → PFn Tryz.prog g_a_del ((li x0) :: caps_a_del) (AV.lit (.bool y))) {r : (List Int)} (h : zBe W uU = some r) : AFn Tryz.prog 75 [(AV.hd 0), (AV.clo g_a_del caps_a_del)] [.vec 3 1 (List.map cI W)] (.hd 1) [.dead, .vec 3 1 (List.map cI r)] := by
 refine zDe Tryz.func75 rfl Tryz.ntmps75 Tryz.results75 rfl ?_
 unfold zBe at h
 refine zH<|zC<|zA (zD rfl)<|zF<|zH<|zC ?_
 refine zA (zB rfl)<|zA (zB rfl)<|zP h fun x1 w1 h=>zAq (r':=(li x1)) (la:=[AV.hd 0,AV.clo g_a_del caps_a_del]) (la':=[ls cI W,AV.clo g_a_del caps_a_del]) (r:=(li x1)) (S:=[0]) Tryz.func129 rfl (by kernel_rfl) (.fn 129) rfl ⟨zGf (fun _=>rfl) rfl rfl,zAl.clo (zDY.nrs hnr_a_del),trivial⟩ (zFV hcf_a_del hcb_a_del hcn_a_del hnr_a_del hg_a_del w1) (.inr trivial) rfl<|zA (zD rfl)<|zF ?_
 refine zH<|zH<|zC<|zA (zB rfl)<|zA (zA8 rfl rfl)<|zF ?_
 refine zW h rfl (fun b1 h => ?_) (fun b1 h => ?_)
 ·refine zH<|zC<|zA (zB rfl)<|zA (zD rfl)<|zF<|zb ?_
  cases h
  exact ⟨_,_,zTu (d:=4) (k:=0) (l:=W) rfl rfl,zRU rfl rfl⟩
 refine zQ ?_
 refine zx (r:=r) (fun ((i1,l1):Int×(List Int))=>mkE [(0,(AV.hd 0)),(5,(li i1))]) (fun (i1,l1)=>[.vec 3 1 (List.map cI l1)]) (fun (i1,l1)=>zBr i1 l1) ?_ ?_
 ·
  refine zH<|zC<|zA (zB rfl)<|zM h fun b4 h=>zA (zg rfl rfl b4)<|zA (zD rfl) ?_
  refine zF<|zR<|zt (σ:=Int×Int×(List Int)) (fun (i2,i3,l2)=>mkE [(0,(AV.hd 0)),(1,(AV.clo g_a_del caps_a_del)),(5,(li i2)),(6,(li i3))]) (fun (i2,i3,l2)=>[.vec 3 1 (List.map cI l2)]) (fun n0 (i2,i3,l2)=>zAy uU n0 i2 i3 l2) (x1,(x1+1),W) h (fun _=>rfl) (zBV (n:=42) (m:=1) [0] (l:=[(0,(AV.hd 0)),(1,(AV.clo g_a_del caps_a_del)),(5,(li x1)),(6,(li (x1+1)))]) ⟨⟨Sub.refl _,by kernel_rfl⟩,⟨zDb hnr_a_del,zDa hnr_a_del⟩,⟨Sub.refl _,by kernel_rfl⟩,⟨Sub.refl _,by kernel_rfl⟩,trivial⟩ rfl rfl ⟨⟨rfl,by kernel_rfl⟩,trivial⟩) ?_
  clear h
  rintro n0 ⟨i2,i3,l2⟩ h
  replace h:zAk uU (zAy uU n0) i2 i3 l2=some r:=h
  unfold zAk at h
  refine zH<|zH<|zC<|zA (zB rfl)<|zA (zB rfl)<|zA (zCd (f:=cI) (l:=l2) Tryz.underlying22 rfl rfl) ?_
  refine zA (zh rfl rfl)<|zF ?_
  refine zW h rfl (fun b5 h => ?_) (fun b5 h => ?_)
  ·refine zQ ?_
   refine zx (r:=r) (fun ((i4,l3):Int×(List Int))=>mkE [(0,(AV.hd 0)),(1,(AV.clo g_a_del caps_a_del)),(5,(li i4)),(6,(li i3))]) (fun (i4,l3)=>[.vec 3 1 (List.map cI l3)]) (fun (i4,l3)=>zBJ (zAy uU n0) i3 i4 l3) ?_ ?_
   ·
    refine zR<|zH<|zC<|zA (zB rfl)<|zA (zB rfl)<|zM h fun b7 h => ?_
    refine zA (zy (f:=cI) (l:=l2) (i:=i3) Tryz.underlying22 Tryz.sizeOf3 rfl rfl rfl b7)<|zA (zA3 (f:=cI) (l:=l2) (i:=i3) (c:=0) (a:=(li (at_ l2 i3))) Tryz.isAgg3 rfl rfl (by first | rfl | omega) b7 rfl rfl)<|zA (zD rfl)<|zF<|zH<|zC ?_
    refine zA (zB rfl)<|zA (zB rfl)<|zP h fun x2 w2 h=>zAq (S:=[]) hcf_a_del hcb_a_del hcn_a_del (.clo (caps:=caps_a_del) rfl) rfl (zDY.c (zAl.nr rfl) (zDY.nrs hnr_a_del)) (hg_a_del w2) (.inl rfl) rfl<|zA (zAv (t:=x2) rfl)<|zF ?_
    refine zW h rfl (fun b8 h => ?_) (fun b8 h => ?_)
    ·refine zH<|zC<|zA (zB rfl)<|zA (zB rfl)<|zA (zB rfl)<|zM h fun b9 h => ?_
     refine zA (zy (f:=cI) (l:=l2) (i:=i2) Tryz.underlying22 Tryz.sizeOf3 rfl rfl rfl b9)<|zd (H':=[.vec 3 1 (List.map cI (l2.set i2.toNat (at_ l2 i3)))]) (zBZ (k:=0) (o:=(i2.toNat*1)) (f:=cI) (l:=l2) (i:=i2) (c:=0) (a:=(li (at_ l2 i3))) (z:=at_ l2 i3) Tryz.sizeOf3 rfl rfl (by first | rfl | omega) b9 rfl rfl rfl rfl rfl)<|zF<|zC<|zA (zB rfl)<|zM h fun b10 h => ?_
     refine zA (zg rfl rfl b10)<|zA (zD rfl)<|zF ?_
     exact ⟨((i2+1),(l2.set i2.toNat (at_ l2 i3))),zBV (n:=42) (m:=1) [0] (l:=[(0,(AV.hd 0)),(1,(AV.clo g_a_del caps_a_del)),(5,(li (i2+1))),(6,(li i3))]) ⟨⟨Sub.refl _,by kernel_rfl⟩,⟨zDb hnr_a_del,zDa hnr_a_del⟩,⟨Sub.refl _,by kernel_rfl⟩,⟨Sub.refl _,by kernel_rfl⟩,trivial⟩ rfl rfl ⟨⟨rfl,by kernel_rfl⟩,trivial⟩,h⟩
    refine zQ ?_
    exact ⟨(i2,l2),zBV (n:=42) (m:=1) [0] (l:=[(0,(AV.hd 0)),(1,(AV.clo g_a_del caps_a_del)),(5,(li i2)),(6,(li i3))]) ⟨⟨Sub.refl _,by kernel_rfl⟩,⟨zDb hnr_a_del,zDa hnr_a_del⟩,⟨Sub.refl _,by kernel_rfl⟩,⟨Sub.refl _,by kernel_rfl⟩,trivial⟩ rfl rfl ⟨⟨rfl,by kernel_rfl⟩,trivial⟩,h⟩
   clear h
   rintro ⟨i4,l3⟩ h
   unfold zBJ at h
   refine zC<|zA (zB rfl)<|zM h fun b6 h=>zA (zg rfl rfl b6)<|zA (zD rfl)<|zF ?_
   exact ⟨(i4,(i3+1),l3),zBV (n:=42) (m:=1) [0] (l:=[(0,(AV.hd 0)),(1,(AV.clo g_a_del caps_a_del)),(5,(li i4)),(6,(li (i3+1)))]) ⟨⟨Sub.refl _,by kernel_rfl⟩,⟨zDb hnr_a_del,zDa hnr_a_del⟩,⟨Sub.refl _,by kernel_rfl⟩,⟨Sub.refl _,by kernel_rfl⟩,trivial⟩ rfl rfl ⟨⟨rfl,by kernel_rfl⟩,trivial⟩,h⟩
  refine zz ?_
  exact ⟨(i2,l2),zAD [0] rfl rfl (by kernel_rfl),h⟩
 clear h
 rintro ⟨i1,l1⟩ h
 unfold zBr at h
 refine zH<|zC<|zA (zB rfl)<|zA (zB rfl)<|zM h fun b2 h=>zSI (k:=0) (l:=l1) (lo:=i1) Tryz.underlying22 Tryz.sizeOf3 Tryz.zeroValue3 rfl rfl rfl b2 rfl ?_
 refine zF<|zH<|zC<|zA (zB rfl)<|zA (zB rfl)<|zM h fun b3 h => ?_
 refine zT2 (k:=0) (l:=zJZ l1 i1) (hi:=i1) Tryz.underlying22 Tryz.sizeOf3 rfl rfl rfl b3<|zA (zD rfl)<|zF<|zb ?_
 cases h
 exact ⟨_,_,Rep.refl,zRU rfl rfl⟩
theorem zMU {A:zi} {D:Int} {r:zi×Int} (h:zKH A D=some r):PFn Tryz.prog 77 [(AV.agg (zO A)),li D] (AV.tup [(AV.agg (zO r.1)),li r.2]):=by
 refine zm Tryz.func77 rfl Tryz.ntmps77 Tryz.results77 rfl ?_
 unfold zKH at h
 refine zH<|zC<|zX (H':=[.box 51 (zO A)]) (zu (t:=51) rfl)<|zX (H':=[.box 51 (zO A),.box 51 (zO ⟨0,0,0,0,0,(List.replicate 5 ([]:List Int))⟩)]) zv0<|zA (zD rfl)<|zF ?_
 refine zH<|zH<|zC<|zA (zS (k:=0) (o:=0) (m:=10) Tryz.isAgg51 Tryz.sizeOf51 rfl rfl rfl rfl rfl)<|zP h fun x1 w1 h=>ze Tryz.func42 rfl (by kernel_rfl) (.fn 42) rfl rfl (zEC w1) rfl ?_
 refine zA (zD rfl)<|zF<|zH<|zC<|zA (zB rfl)<|zA (z7 rfl rfl) ?_
 refine zF ?_
 refine zW h rfl (fun b1 h => ?_) (fun b1 h => ?_)
 ·refine zH<|zC<|zA zv9<|zA (zB rfl)<|zd (H':=[.box 51 (zO A),.box 51 (zO (⟨0,0,0,0,0,(List.replicate 5 ([]:List Int))⟩:zi))]) (zT (k:=1) (o:=0) (cs:=(zO ⟨0,0,0,0,0,(List.replicate 5 ([]:List Int))⟩)) (la:=(zO (⟨0,0,0,0,0,(List.replicate 5 ([]:List Int))⟩:zi))) Tryz.sizeOf51 rfl rfl rfl rfl)<|zA (zD rfl) ?_
  refine zF<|zb ?_
  cases h
  exact zA5 (zDV Tryz.isAgg51 Tryz.sizeOf51 rfl rfl rfl rfl) (zAI rfl rfl) rfl
 refine zQ<|zH<|zH<|zC<|zA (zS (k:=0) (o:=0) (m:=10) Tryz.isAgg51 Tryz.sizeOf51 rfl rfl rfl rfl rfl)<|zA (zB rfl) ?_
 refine zP h fun x2 w2 h=>zAq (r':=(AV.lit (.bool x2))) (la:=[(AV.agg (zO A)),li D,li 0]) (la':=[(AV.agg ([li A.node,li A.kind,li A.start,li A.count,li A.min]++([AV.any,AV.any,AV.any,AV.any,AV.any]++[]))),li D,li 0]) (r:=(AV.lit (.bool x2))) (S:=[]) Tryz.func86 rfl (by kernel_rfl) (.fn 86) rfl ⟨zLj (hd:=([li A.node]++[li A.kind]++[li A.start]++[li A.count]++[li A.min])) (tl:=((cA 5 (eS cI) ([]:List Int) A.free))) rfl,zAl.nr rfl,zAl.nr rfl,trivial⟩ (zEf w2) (.inl rfl) rfl<|zA (zAv (t:=x2) rfl)<|zF ?_
 refine zW h rfl (fun b2 h => ?_) (fun b2 h => ?_)
 ·refine zH<|zC<|zA zv9<|zd (H':=[.box 51 (zO A),.box 51 (zO (⟨0,0,0,0,0,(List.replicate 5 ([]:List Int))⟩:zi))]) (zT (k:=1) (o:=0) (cs:=(zO ⟨0,0,0,0,0,(List.replicate 5 ([]:List Int))⟩)) (la:=(zO (⟨0,0,0,0,0,(List.replicate 5 ([]:List Int))⟩:zi))) Tryz.sizeOf51 rfl rfl rfl rfl)<|zA (zD rfl)<|zF ?_
  refine zb ?_
  cases h
  exact zA5 (zDV Tryz.isAgg51 Tryz.sizeOf51 rfl rfl rfl rfl) (zAI rfl rfl) rfl
 refine zQ<|zH<|zC<|zA (zS (k:=0) (o:=0) (m:=10) Tryz.isAgg51 Tryz.sizeOf51 rfl rfl rfl rfl rfl)<|zA (zB rfl)<|zP h fun x3 w3 h => ?_
 refine ze Tryz.func92 rfl (by kernel_rfl) (.fn 92) rfl rfl (zJs w3) rfl<|zA (zB rfl)<|zA (za rfl rfl)<|zA (za rfl rfl)<|zA (zD rfl)<|zA (zD rfl) ?_
 refine zF<|zH<|zH<|zC<|zA (zB rfl)<|zA (zh rfl rfl) ?_
 refine zF ?_
 refine zW h rfl (fun b3 h => ?_) (fun b3 h => ?_)
 ·refine zH<|zC<|zA zv9<|zd (H':=[.box 51 (zO A),.box 51 (zO (⟨0,0,0,0,0,(List.replicate 5 ([]:List Int))⟩:zi))]) (zT (k:=1) (o:=0) (cs:=(zO ⟨0,0,0,0,0,(List.replicate 5 ([]:List Int))⟩)) (la:=(zO (⟨0,0,0,0,0,(List.replicate 5 ([]:List Int))⟩:zi))) Tryz.sizeOf51 rfl rfl rfl rfl)<|zA (zD rfl)<|zF ?_
  refine zb ?_
  cases h
  exact zA5 (zDV Tryz.isAgg51 Tryz.sizeOf51 rfl rfl rfl rfl) (zAI rfl rfl) rfl
 refine zQ<|zH<|zC<|zA (zS (k:=0) (o:=0) (m:=10) Tryz.isAgg51 Tryz.sizeOf51 rfl rfl rfl rfl rfl)<|zP h fun x4 w4 h=>zDg (cs:=([li x4.node,li x4.kind,li x4.start,li x4.count,li x4.min]++((cM 5 3 (5:Int) x4.free)++[]))) (la:=[(AV.agg (zO A))]) (la':=[(AV.agg (zO A))]) (S:=[]) Tryz.func118 rfl (by kernel_rfl) (.fn 118) rfl ⟨zAl.nr rfl,trivial⟩ (zJt w4) (.inl rfl) ?_
 refine zX (H':=[.box 51 (zO A),.box 51 (zO ⟨0,0,0,0,0,(List.replicate 5 ([]:List Int))⟩),.val (.agg ([li x4.node,li x4.kind,li x4.start,li x4.count,li x4.min]++((cM 5 3 (5:Int) x4.free)++[]))),.box 51 (zO ⟨0,0,0,0,0,(List.replicate 5 ([]:List Int))⟩)]) zv0<|zd (H':=[.box 51 (zO A),.box 51 (zO ⟨0,0,0,0,0,(List.replicate 5 ([]:List Int))⟩),.dead,.box 51 ([li x4.node,li x4.kind,li x4.start,li x4.count,li x4.min]++((cM 5 3 (5:Int) x4.free)++[]))]) (zBW (k:=3) (o:=0) (j:=2) (cs:=(zO ⟨0,0,0,0,0,(List.replicate 5 ([]:List Int))⟩)) (la:=([li x4.node,li x4.kind,li x4.start,li x4.count,li x4.min]++((cM 5 3 (5:Int) x4.free)++[]))) Tryz.sizeOf51 rfl rfl rfl rfl rfl (by decide))<|zF<|zH<|zC<|zA (zB rfl) ?_
 refine zA (zK Tryz.underlying51 rfl rfl Tryz.sizeOf49 rfl)<|zM h fun b4 h=>zA (zAG (m:=5) (s:=1) (i:=x3.1) (k:=3) (o:=5) Tryz.underlying49 Tryz.sizeOf22 rfl rfl b4)<|zM h fun b5 h=>z5 (zIQ (k:=3) (cs:=([li x4.node,li x4.kind,li x4.start,li x4.count,li x4.min]++((cM 5 3 (5:Int) x4.free)++[]))) (hd:=([li x4.node]++[li x4.kind]++[li x4.start]++[li x4.count]++[li x4.min]++[])) (tl:=([])) (N:=5) (T:=3) (K:=5) (l:=x4.free) (i:=x3.1) rfl rfl b4 b5)<|zA (zCw (k:=3) (o:=(5+x3.1.toNat*1)) (cs:=([li x4.node,li x4.kind,li x4.start,li x4.count,li x4.min]++((List.set (cM 5 3 (5:Int) x4.free) x3.1.toNat (AV.hd 4))++[]))) (hd:=([li x4.node]++[li x4.kind]++[li x4.start]++[li x4.count]++[li x4.min]++[])) (tl:=([])) (s:=(cM 5 3 (5:Int) x4.free)) (i:=x3.1) (j:=4) Tryz.isAgg22 rfl rfl rfl (congrArg (fun q=>5+q) (Nat.mul_one _)) (zF9 b4)) ?_
 refine zA (zB rfl)<|zP h fun x5 w5 h=>zAq (r':=(AV.tup [li x5.1,(AV.lit (.bool x5.2))])) (la:=[AV.hd 4,li x3.2]) (la':=[(ls cI (x4.free.getD x3.1.toNat [])),li x3.2]) (r:=(AV.tup [li x5.1,(AV.lit (.bool x5.2))])) (S:=[4]) Tryz.func87 rfl (by kernel_rfl) (.fn 87) rfl ⟨zGf (fun _=>rfl) rfl rfl,zAl.nr rfl,trivial⟩ (zAb w5) (.inr rfl) rfl<|zA (zB rfl)<|zA (za rfl rfl)<|zA (za rfl rfl) ?_
 refine zA (zD rfl)<|zA (zD rfl)<|zF<|zH<|zC<|zA (zB rfl) ?_
 refine zA (zB rfl)<|zA (zK Tryz.underlying51 rfl rfl Tryz.sizeOf49 rfl)<|zA (zAG (m:=5) (s:=1) (i:=x3.1) (k:=3) (o:=5) Tryz.underlying49 Tryz.sizeOf22 rfl rfl b4)<|zA (zCw (k:=3) (o:=(5+x3.1.toNat*1)) (cs:=([li x4.node,li x4.kind,li x4.start,li x4.count,li x4.min]++((List.set (cM 5 3 (5:Int) x4.free) x3.1.toNat (AV.hd 4))++[]))) (hd:=([li x4.node]++[li x4.kind]++[li x4.start]++[li x4.count]++[li x4.min]++[])) (tl:=([])) (s:=(cM 5 3 (5:Int) x4.free)) (i:=x3.1) (j:=4) Tryz.isAgg22 rfl rfl rfl (congrArg (fun q=>5+q) (Nat.mul_one _)) (zF9 b4))<|zA (zB rfl)<|zA (zB rfl) ?_
 refine zM h fun b6 h=>zA (zg rfl rfl b6)<|zM h fun b7 h=>zOw (k:=4) (l:=x4.free.getD x3.1.toNat []) (i:=x5.1) (q:=x5.1+1) (fun a b=>zTK a b) Tryz.func130 rfl (by kernel_rfl) rfl rfl rfl rfl b7<|zA (zK Tryz.underlying51 rfl rfl Tryz.sizeOf49 rfl)<|zA (zAG (m:=5) (s:=1) (i:=x3.1) (k:=3) (o:=5) Tryz.underlying49 Tryz.sizeOf22 rfl rfl b4) ?_
 refine zd (H':=[.box 51 (zO A),.box 51 (zO ⟨0,0,0,0,0,(List.replicate 5 ([]:List Int))⟩),.dead,.box 51 ([li x4.node,li x4.kind,li x4.start,li x4.count,li x4.min]++((List.set (cM 5 3 (5:Int) x4.free) x3.1.toNat (AV.hd 5))++[])),.dead,.vec 3 1 (List.map cI (zRh (x4.free.getD x3.1.toNat []) x5.1))]) (zFo (k:=3) (o:=(5+x3.1.toNat*1)) (cs:=([li x4.node,li x4.kind,li x4.start,li x4.count,li x4.min]++((List.set (cM 5 3 (5:Int) x4.free) x3.1.toNat (AV.hd 4))++[]))) (hd:=([li x4.node]++[li x4.kind]++[li x4.start]++[li x4.count]++[li x4.min]++[])) (tl:=([])) (s:=(cM 5 3 (5:Int) x4.free)) (i:=x3.1) (a:=(AV.hd 5)) Tryz.sizeOf22 rfl rfl rfl (congrArg (fun q=>5+q) (Nat.mul_one _)) (zF9 b4) rfl rfl)<|zF ?_
 refine zx (r:=r) (fun (l1:List (List Int))=>mkE [(4,(AV.ptr 0 0)),(9,(AV.ptr 1 0))]) (fun l1=>[.box 51 (zO ⟨0,0,0,0,0,(List.replicate 5 ([]:List Int))⟩),.box 51 ([li x4.node,li x4.kind,li x4.start,li x4.count,li x4.min]++((cM 5 3 (5:Int) l1)++[]))]) (fun l1=>zIp x4 l1) ?_ ?_
 ·
  refine zR<|zt (σ:=Int×Int×(List (List Int))) (fun (i1,i2,l2)=>mkE [(1,(li D)),(4,(AV.ptr 0 0)),(7,(li i1)),(8,(li i2)),(9,(AV.ptr 1 0))]) (fun (i1,i2,l2)=>[.box 51 (zO ⟨0,0,0,0,0,(List.replicate 5 ([]:List Int))⟩),.box 51 ([li x4.node,li x4.kind,li x4.start,li x4.count,li x4.min]++((cM 5 3 (5:Int) l2)++[]))]) (fun n0 (i1,i2,l2)=>zCh D x4 n0 i1 i2 l2) (x3.1,x3.2,(zDc 5 [] x4.free x3.1.toNat (zRh (x4.free.getD x3.1.toNat []) x5.1))) h (fun _=>rfl) (Rep.trans (zHv (j:=5) (l':=zRh (x4.free.getD x3.1.toNat []) x5.1) (k:=3) (cs:=([li x4.node,li x4.kind,li x4.start,li x4.count,li x4.min]++((List.set (cM 5 3 (5:Int) x4.free) x3.1.toNat (AV.hd 5))++[]))) (hd:=([li x4.node]++[li x4.kind]++[li x4.start]++[li x4.count]++[li x4.min]++[])) (tl:=([])) (N:=5) (T:=3) (K:=5) (l:=x4.free) (i:=x3.1) rfl rfl b4 b5 rfl rfl) (zAD [1,3] (l:=[(1,(li D)),(4,(AV.ptr 0 0)),(7,(li x3.1)),(8,(li x3.2)),(9,(AV.ptr 1 0))]) rfl rfl (by kernel_rfl))) ?_
  clear h
  rintro n0 ⟨i1,i2,l2⟩ h
  replace h:zEu D x4 (zCh D x4 n0) i1 i2 l2=some r:=h
  unfold zEu at h
  refine zH<|zH<|zC<|zA (zB rfl)<|zA (zAo rfl rfl)<|zF ?_
  refine zW h rfl (fun b8 h => ?_) (fun b8 h => ?_)
  ·refine zQ<|zR<|zH<|zC<|zA (zB rfl)<|zM h fun b9 h => ?_
   refine zA (zBa rfl rfl b9)<|zA (zD rfl)<|zF<|zH<|zC<|zA (zB rfl) ?_
   refine zA (zB rfl)<|zM h fun b10 h=>zM h fun b11 h=>zA (zCx (a:=1) (b:=i1 - 1) rfl rfl b10 b11)<|zM h fun b12 h=>zA (zg rfl rfl b12) ?_
   refine zA (zD rfl)<|zF ?_
   refine zx (r:=r) (fun ((i3,i4):Int×Int)=>mkE [(1,(li D)),(4,(AV.ptr 0 0)),(7,(li (i1 - 1))),(8,(li i3)),(9,(AV.ptr 1 0)),(12,(li i4))]) (fun (i3,i4)=>[.box 51 (zO ⟨0,0,0,0,0,(List.replicate 5 ([]:List Int))⟩),.box 51 ([li x4.node,li x4.kind,li x4.start,li x4.count,li x4.min]++((cM 5 3 (5:Int) l2)++[]))]) (fun (i3,i4)=>zF5 (zCh D x4 n0) i1 l2 i3 i4) ?_ ?_
   ·
    refine zH<|zC<|zA (zB rfl)<|zA (zB rfl)<|zA (zAu rfl rfl)<|zF ?_
    refine zW h rfl (fun b16 h => ?_) (fun b16 h => ?_)
    ·refine zC<|zA (zB rfl)<|zA (zB rfl)<|zA (zD rfl)<|zA (zD rfl)<|zF ?_
     exact ⟨((i2+((1:Int)*2 ^ (i1 - 1).toNat)),i2),zAD [0,1] rfl rfl (by kernel_rfl),h⟩
    refine zQ ?_
    exact ⟨(i2,(i2+((1:Int)*2 ^ (i1 - 1).toNat))),zAD [0,1] rfl rfl (by kernel_rfl),h⟩
   clear h
   rintro ⟨i3,i4⟩ h
   unfold zF5 at h
   refine zH<|zC<|zA (zB rfl)<|zA (zK Tryz.underlying51 rfl rfl Tryz.sizeOf49 rfl)<|zM h fun b13 h=>zA (zAG (m:=5) (s:=1) (i:=i1 - 1) (k:=1) (o:=5) Tryz.underlying49 Tryz.sizeOf22 rfl rfl b13) ?_
   refine zM h fun b14 h=>z5 (zIQ (k:=1) (cs:=([li x4.node,li x4.kind,li x4.start,li x4.count,li x4.min]++((cM 5 3 (5:Int) l2)++[]))) (hd:=([li x4.node]++[li x4.kind]++[li x4.start]++[li x4.count]++[li x4.min]++[])) (tl:=([])) (N:=5) (T:=3) (K:=5) (l:=l2) (i:=i1 - 1) rfl rfl b13 b14)<|zA (zCw (k:=1) (o:=(5+(i1 - 1).toNat*1)) (cs:=([li x4.node,li x4.kind,li x4.start,li x4.count,li x4.min]++((List.set (cM 5 3 (5:Int) l2) (i1 - 1).toNat (AV.hd 2))++[]))) (hd:=([li x4.node]++[li x4.kind]++[li x4.start]++[li x4.count]++[li x4.min]++[])) (tl:=([])) (s:=(cM 5 3 (5:Int) l2)) (i:=i1 - 1) (j:=2) Tryz.isAgg22 rfl rfl rfl (congrArg (fun q=>5+q) (Nat.mul_one _)) (zF9 b13))<|zA (zB rfl)<|zP h fun x6 w6 h=>zAq (r':=(AV.tup [li x6.1,(AV.lit (.bool x6.2))])) (la:=[AV.hd 2,li i4]) (la':=[(ls cI (l2.getD (i1 - 1).toNat [])),li i4]) (r:=(AV.tup [li x6.1,(AV.lit (.bool x6.2))])) (S:=[2]) Tryz.func87 rfl (by kernel_rfl) (.fn 87) rfl ⟨zGf (fun _=>rfl) rfl rfl,zAl.nr rfl,trivial⟩ (zAb w6) (.inr rfl) rfl ?_
   refine zA (zB rfl)<|zA (za rfl rfl)<|zA (za rfl rfl)<|zA (zD rfl)<|zA (zD rfl)<|zF ?_
   refine zC<|zA (zB rfl)<|zA (zB rfl)<|zA (zK Tryz.underlying51 rfl rfl Tryz.sizeOf49 rfl)<|zA (zAG (m:=5) (s:=1) (i:=i1 - 1) (k:=1) (o:=5) Tryz.underlying49 Tryz.sizeOf22 rfl rfl b13)<|zA (zCw (k:=1) (o:=(5+(i1 - 1).toNat*1)) (cs:=([li x4.node,li x4.kind,li x4.start,li x4.count,li x4.min]++((List.set (cM 5 3 (5:Int) l2) (i1 - 1).toNat (AV.hd 2))++[]))) (hd:=([li x4.node]++[li x4.kind]++[li x4.start]++[li x4.count]++[li x4.min]++[])) (tl:=([])) (s:=(cM 5 3 (5:Int) l2)) (i:=i1 - 1) (j:=2) Tryz.isAgg22 rfl rfl rfl (congrArg (fun q=>5+q) (Nat.mul_one _)) (zF9 b13)) ?_
   refine zA (zB rfl)<|zA (zB rfl)<|zF6 (a:=(li i4)) zGA Tryz.underlying22 rfl rfl rfl rfl<|zM h fun b15 h=>zNH (k:=2) (j:=3) (l:=l2.getD (i1 - 1).toNat []) (i:=x6.1) (q:=i4) (fun a b c d e=>zQl a b c d e) Tryz.func119 rfl (by kernel_rfl) rfl rfl rfl rfl rfl rfl b15<|zA (zK Tryz.underlying51 rfl rfl Tryz.sizeOf49 rfl) ?_
   refine zA (zAG (m:=5) (s:=1) (i:=i1 - 1) (k:=1) (o:=5) Tryz.underlying49 Tryz.sizeOf22 rfl rfl b13)<|zd (H':=[.box 51 (zO ⟨0,0,0,0,0,(List.replicate 5 ([]:List Int))⟩),.box 51 ([li x4.node,li x4.kind,li x4.start,li x4.count,li x4.min]++((List.set (cM 5 3 (5:Int) l2) (i1 - 1).toNat (AV.hd 4))++[])),.dead,.vec 3 1 (List.map cI [i4]),.vec 3 1 (List.map cI (zQU (l2.getD (i1 - 1).toNat []) x6.1 i4))]) (zFo (k:=1) (o:=(5+(i1 - 1).toNat*1)) (cs:=([li x4.node,li x4.kind,li x4.start,li x4.count,li x4.min]++((List.set (cM 5 3 (5:Int) l2) (i1 - 1).toNat (AV.hd 2))++[]))) (hd:=([li x4.node]++[li x4.kind]++[li x4.start]++[li x4.count]++[li x4.min]++[])) (tl:=([])) (s:=(cM 5 3 (5:Int) l2)) (i:=i1 - 1) (a:=(AV.hd 4)) Tryz.sizeOf22 rfl rfl rfl (congrArg (fun q=>5+q) (Nat.mul_one _)) (zF9 b13) rfl rfl)<|zF ?_
   exact ⟨((i1 - 1),i3,(zDc 5 [] l2 (i1 - 1).toNat (zQU (l2.getD (i1 - 1).toNat []) x6.1 i4))),Rep.trans (zHv (j:=4) (l':=zQU (l2.getD (i1 - 1).toNat []) x6.1 i4) (k:=1) (cs:=([li x4.node,li x4.kind,li x4.start,li x4.count,li x4.min]++((List.set (cM 5 3 (5:Int) l2) (i1 - 1).toNat (AV.hd 4))++[]))) (hd:=([li x4.node]++[li x4.kind]++[li x4.start]++[li x4.count]++[li x4.min]++[])) (tl:=([])) (N:=5) (T:=3) (K:=5) (l:=l2) (i:=i1 - 1) rfl rfl b13 b14 rfl rfl) (zAD [0,1] (l:=[(1,(li D)),(4,(AV.ptr 0 0)),(7,(li (i1 - 1))),(8,(li i3)),(9,(AV.ptr 1 0))]) rfl rfl (by kernel_rfl)),h⟩
  refine zz ?_
  exact ⟨l2,zAD [0,1] rfl rfl (by kernel_rfl),h⟩
 clear h
 intro l1 h
 unfold zIp at h
 refine zH<|zC<|z5 (zKT (k:=1) (cs:=([li x4.node,li x4.kind,li x4.start,li x4.count,li x4.min]++((cM 5 3 (5:Int) l1)++[]))) (hd:=([li x4.node]++[li x4.kind]++[li x4.start]++[li x4.count]++[li x4.min]++[])) (tl:=([])) (N:=5) (T:=3) (K:=5) (l:=l1) rfl rfl)<|zA (zS (k:=1) (o:=0) (m:=10) Tryz.isAgg51 Tryz.sizeOf51 rfl rfl rfl rfl rfl)<|zd (H':=[.box 51 (zO (⟨x4.node,x4.kind,x4.start,x4.count,x4.min,l1⟩:zi)),.box 51 (zO ⟨x4.node,x4.kind,x4.start,x4.count,x4.min,l1⟩)]) (zT (k:=0) (o:=0) (cs:=(zO ⟨0,0,0,0,0,(List.replicate 5 ([]:List Int))⟩)) (la:=(zO (⟨x4.node,x4.kind,x4.start,x4.count,x4.min,l1⟩:zi))) Tryz.sizeOf51 rfl rfl rfl rfl)<|zA (zD rfl) ?_
 refine zF<|zb ?_
 cases h
 exact zA5 (zDV Tryz.isAgg51 Tryz.sizeOf51 rfl rfl rfl rfl) (zAI rfl rfl) rfl
theorem zMw {A:zJ} {D:Int} {r:zJ×Int} (h:zGN A D=some r):PFn Tryz.prog 32 [(AV.agg (zG A)),li D] (AV.tup [(AV.agg (zG r.1)),li r.2]):=by
 refine zm Tryz.func32 rfl Tryz.ntmps32 Tryz.results32 rfl ?_
 unfold zGN at h
 refine zH<|zC<|zX (H':=[.box 26 (zG A)]) (zu (t:=26) rfl)<|zX (H':=[.box 26 (zG A),.box 3 [li D]]) (zIw (t:=3) (a:=(li D)) rfl rfl)<|zX (H':=[.box 26 (zG A),.box 3 [li D],.box 26 (zG ⟨[],0,0,[],[]⟩)]) zv3<|zA (zD rfl) ?_
 refine zF<|zH<|zH<|zC<|zA (zS (k:=0) (o:=0) (m:=5) Tryz.isAgg26 Tryz.sizeOf26 rfl rfl rfl rfl rfl)<|zP h fun x1 w1 h => ?_
 refine ze Tryz.func13 rfl (by kernel_rfl) (.fn 13) rfl rfl (zA1 w1) rfl<|zA (zD rfl)<|zF<|zH<|zC<|zA (zB rfl) ?_
 refine zA (z7 rfl rfl)<|zF ?_
 refine zW h rfl (fun b1 h => ?_) (fun b1 h => ?_)
 ·refine zH<|zC<|zA zOP<|zA (zB rfl)<|zd (H':=[.box 26 (zG A),.box 3 [li D],.box 26 (zG (⟨([]:List Int),0,0,([]:List zi),([]:List zL)⟩:zJ))]) (zT (k:=2) (o:=0) (cs:=(zG ⟨[],0,0,[],[]⟩)) (la:=(zG (⟨([]:List Int),0,0,([]:List zi),([]:List zL)⟩:zJ))) Tryz.sizeOf26 rfl rfl rfl rfl)<|zA (zD rfl) ?_
  refine zF<|zb ?_
  cases h
  exact zA5 (zDV Tryz.isAgg26 Tryz.sizeOf26 rfl rfl rfl rfl) (zAI rfl rfl) rfl
 refine zQ<|zH<|zC<|zA (zS (k:=0) (o:=0) (m:=5) Tryz.isAgg26 Tryz.sizeOf26 rfl rfl rfl rfl rfl)<|zA (zN Tryz.isAgg3 rfl rfl rfl rfl)<|zP h fun x2 w2 h => ?_
 refine ze Tryz.func44 rfl (by kernel_rfl) (.fn 44) rfl rfl (zEZ w2) rfl<|zA (zD rfl)<|zF<|zH<|zR<|zH ?_
 refine zC<|zA (zB rfl)<|zA (zh rfl rfl)<|zA (zD rfl)<|zF ?_
 refine zW h rfl (fun b2 h => ?_) (fun b2 h => ?_)
 ·refine zH<|zC<|zA zOP<|zd (H':=[.box 26 (zG A),.box 3 [li D],.box 26 (zG (⟨([]:List Int),0,0,([]:List zi),([]:List zL)⟩:zJ))]) (zT (k:=2) (o:=0) (cs:=(zG ⟨[],0,0,[],[]⟩)) (la:=(zG (⟨([]:List Int),0,0,([]:List zi),([]:List zL)⟩:zJ))) Tryz.sizeOf26 rfl rfl rfl rfl)<|zA (zD rfl)<|zF ?_
  refine zb ?_
  cases h
  exact zA5 (zDV Tryz.isAgg26 Tryz.sizeOf26 rfl rfl rfl rfl) (zAI rfl rfl) rfl
 refine zH<|zC<|zA (zS (k:=0) (o:=0) (m:=5) Tryz.isAgg26 Tryz.sizeOf26 rfl rfl rfl rfl rfl)<|zA (zB rfl)<|zA (zN Tryz.isAgg3 rfl rfl rfl rfl)<|zP h fun x3 w3 h => ?_
 refine ze Tryz.func50 rfl (by kernel_rfl) (.fn 50) rfl rfl (zHm w3) rfl<|zA (zAv (t:=x3) rfl)<|zA (zD rfl)<|zF ?_
 refine zW h rfl (fun b3 h => ?_) (fun b3 h => ?_)
 ·refine zH<|zC<|zA zOP<|zd (H':=[.box 26 (zG A),.box 3 [li D],.box 26 (zG (⟨([]:List Int),0,0,([]:List zi),([]:List zL)⟩:zJ))]) (zT (k:=2) (o:=0) (cs:=(zG ⟨[],0,0,[],[]⟩)) (la:=(zG (⟨([]:List Int),0,0,([]:List zi),([]:List zL)⟩:zJ))) Tryz.sizeOf26 rfl rfl rfl rfl)<|zA (zD rfl)<|zF ?_
  refine zb ?_
  cases h
  exact zA5 (zDV Tryz.isAgg26 Tryz.sizeOf26 rfl rfl rfl rfl) (zAI rfl rfl) rfl
 refine zH<|zC<|zA (zS (k:=0) (o:=0) (m:=5) Tryz.isAgg26 Tryz.sizeOf26 rfl rfl rfl rfl rfl)<|zA (zB rfl)<|zP h fun x4 w4 h=>ze Tryz.func39 rfl (by kernel_rfl) (.fn 39) rfl rfl (zF4 w4) rfl ?_
 refine zA (zh rfl rfl)<|zA (zD rfl)<|zF ?_
 refine zW h rfl (fun b4 h => ?_) (fun b4 h => ?_)
 ·refine zH<|zC<|zA zOP<|zd (H':=[.box 26 (zG A),.box 3 [li D],.box 26 (zG (⟨([]:List Int),0,0,([]:List zi),([]:List zL)⟩:zJ))]) (zT (k:=2) (o:=0) (cs:=(zG ⟨[],0,0,[],[]⟩)) (la:=(zG (⟨([]:List Int),0,0,([]:List zi),([]:List zL)⟩:zJ))) Tryz.sizeOf26 rfl rfl rfl rfl)<|zA (zD rfl)<|zF ?_
  refine zb ?_
  cases h
  exact zA5 (zDV Tryz.isAgg26 Tryz.sizeOf26 rfl rfl rfl rfl) (zAI rfl rfl) rfl
 refine zQ<|zH<|zC<|zA (zS (k:=0) (o:=0) (m:=5) Tryz.isAgg26 Tryz.sizeOf26 rfl rfl rfl rfl rfl)<|zP h fun x5 w5 h=>zDg (cs:=[ls cI x5.nodes,li x5.batch,li x5.high,AV.osl 51 10 (List.map zO x5.zones),AV.osl 55 1 (List.map zp x5.caches)]) (la:=[(AV.agg (zG A))]) (la':=[(AV.agg (zG A))]) (S:=[]) Tryz.func54 rfl (by kernel_rfl) (.fn 54) rfl ⟨zAl.nr rfl,trivial⟩ (zDp w5) (.inl rfl) ?_
 refine zX (H':=[.box 26 (zG A),.box 3 [li D],.box 26 (zG ⟨[],0,0,[],[]⟩),.val (.agg [ls cI x5.nodes,li x5.batch,li x5.high,AV.osl 51 10 (List.map zO x5.zones),AV.osl 55 1 (List.map zp x5.caches)]),.box 26 (zG ⟨[],0,0,[],[]⟩)]) zv3<|zd (H':=[.box 26 (zG A),.box 3 [li D],.box 26 (zG ⟨[],0,0,[],[]⟩),.dead,.box 26 [ls cI x5.nodes,li x5.batch,li x5.high,AV.osl 51 10 (List.map zO x5.zones),AV.osl 55 1 (List.map zp x5.caches)]]) (zBW (k:=4) (o:=0) (j:=3) (cs:=(zG ⟨[],0,0,[],[]⟩)) (la:=[ls cI x5.nodes,li x5.batch,li x5.high,AV.osl 51 10 (List.map zO x5.zones),AV.osl 55 1 (List.map zp x5.caches)]) Tryz.sizeOf26 rfl rfl rfl rfl rfl (by decide))<|zF<|zH<|zH<|zC ?_
 refine z5 (zAZ (k:=4) (o:=3) (t':=51) (sz:=10) (rows:=List.map zO x5.zones) rfl rfl)<|z5 (zAZ (k:=4) (o:=4) (t':=55) (sz:=1) (rows:=List.map zp x5.caches) rfl rfl)<|zA (zS (k:=4) (o:=0) (m:=5) Tryz.isAgg26 Tryz.sizeOf26 rfl rfl rfl rfl rfl)<|zA (zB rfl)<|zA (zN Tryz.isAgg3 rfl rfl rfl rfl)<|zP h fun x6 w6 h => ?_
 refine zAq (r':=(li x6)) (la:=[(AV.agg [ls cI x5.nodes,li x5.batch,li x5.high,AV.hd 5,AV.hd 6]),li x2,li D]) (la':=[(AV.agg (zG ⟨x5.nodes,x5.batch,x5.high,x5.zones,x5.caches⟩)),li x2,li D]) (r:=(li x6)) (S:=[5,6]) Tryz.func74 rfl (by kernel_rfl) (.fn 74) rfl ⟨zAl.agg (by exact ⟨zAl.nr rfl,⟨zAl.nr rfl,⟨zAl.nr rfl,⟨zGf (fun _=>rfl) rfl rfl,⟨zSo zCl rfl rfl,trivial⟩⟩⟩⟩⟩),zAl.nr rfl,zAl.nr rfl,trivial⟩ (zJF w6) (.inr trivial) rfl<|zA (zD rfl)<|zF<|zH<|zC<|zA (zB rfl) ?_
 refine zA (zAu rfl rfl)<|zF ?_
 refine zW h rfl (fun b5 h => ?_) (fun b5 h => ?_)
 ·refine zH<|zC<|zA (zK Tryz.underlying26 rfl rfl Tryz.sizeOf24 rfl)<|zA (zN Tryz.isAgg24 rfl rfl rfl rfl)<|zA (zB rfl)<|zM h fun b6 h => ?_
  refine zA (zy (f:=zp) (l:=x5.caches) (i:=x6) Tryz.underlying24 Tryz.sizeOf55 rfl rfl rfl b6)<|zA (zK Tryz.underlying55 rfl rfl Tryz.sizeOf53 rfl)<|z5 (zNj (k:=6) (i:=x6.toNat) (t':=22) (s':=1) (rs:=List.map (cO 3 1 cI) ((at_ x5.caches x6).lists)) rfl (zOI (f:=zp) (l:=x5.caches) b6))<|zA (zIv (k:=6) (i:=x6.toNat) (a := .hd 7) Tryz.isAgg53 rfl rfl rfl rfl)<|zA (zB rfl)<|zM h fun b7 h => ?_
  refine zA (zy (f:=(cO 3 1 cI)) (l:=(at_ x5.caches x6).lists) (i:=x2) Tryz.underlying53 Tryz.sizeOf22 rfl rfl rfl b7)<|zA (zD rfl)<|zF<|zH<|zC<|zA (zB rfl) ?_
  refine zA (zB rfl)<|zA (zAC rfl)<|z5 (zNF (k:=7) (f:=cI) (l:=(at_ x5.caches x6).lists) (i:=x2) rfl b7)<|zA (zIv (k:=7) (i:=x2.toNat) (a := .hd 8) Tryz.isAgg22 rfl rfl rfl rfl)<|zA (zLP (la:=[AV.ptr 1 0]) rfl)<|zP h fun x7 w7 h => ?_
  refine zSu (k:=8) (l:=at_ ((at_ x5.caches x6).lists) x2) (l':=x7) (la:=[AV.hd 8,(AV.clo 76 [AV.ptr 1 0])]) (la':=[AV.hd 0,(AV.clo 76 [(AV.rp [li D] 0)])]) (S:=[1]) Tryz.func75 rfl (by kernel_rfl) (.fn 75) rfl ⟨zBs.hd,zBs.of (zAl.clo (⟨zAl.ptr (cs:=[li D]) rfl rfl rfl,trivial⟩)),trivial⟩ rfl rfl (zIi Tryz.func76 rfl (by kernel_rfl) rfl (fun hy=>zMA  hy) w7)<|zA (zAC rfl)<|zd (H':=[.box 26 (zG A),.box 3 [li D],.box 26 (zG ⟨[],0,0,[],[]⟩),.dead,.box 26 [ls cI x5.nodes,li x5.batch,li x5.high,AV.hd 5,AV.hd 6],.vec 51 10 (List.map zO x5.zones),.vopen 55 1 (List.map zp x5.caches) x6.toNat [.hd 7],.vopen 22 1 (List.map (cO 3 1 cI) ((at_ x5.caches x6).lists)) x2.toNat [.hd 9],.dead,.vec 3 1 (List.map cI x7)]) (zLa (k:=7) (j:=9) (j0:=8) (i:=x2.toNat) Tryz.sizeOf22 rfl rfl rfl rfl rfl)<|zF<|zH<|zC ?_
  refine z5 (z9 (k:=4) (j:=5) (o:=3) rfl rfl rfl rfl)<|z5 (zA4 (k:=4) (o:=3) (rows':=List.map zO x5.zones) rfl rfl (zAM (fun _=>rfl)))<|z5 (Rep.trans (zLU (k:=7) (j:=9) (f:=cI) (l:=(at_ x5.caches x6).lists) (l':=x7) rfl rfl rfl) (zN6 (k:=6) (j:=7) (f:=zp) (l:=x5.caches) (z:={ at_ x5.caches x6 with lists:=((at_ x5.caches x6).lists).set x2.toNat x7 }) rfl rfl rfl rfl))<|z5 (z9 (k:=4) (j:=6) (o:=4) rfl rfl rfl rfl)<|z5 (zA4 (k:=4) (o:=4) (rows':=List.map zI (x5.caches.set x6.toNat ({ at_ x5.caches x6 with lists:=((at_ x5.caches x6).lists).set x2.toNat x7 }))) rfl rfl (zDn (fun x=>zCl x)))<|zA (zS (k:=4) (o:=0) (m:=5) Tryz.isAgg26 Tryz.sizeOf26 rfl rfl rfl rfl rfl) ?_
  refine zd (H':=[.box 26 (zG A),.box 3 [li D],.box 26 (zG (⟨x5.nodes,x5.batch,x5.high,x5.zones,x5.caches.set x6.toNat ({ at_ x5.caches x6 with lists:=((at_ x5.caches x6).lists).set x2.toNat x7 })⟩:zJ)),.dead,.box 26 (zG ⟨x5.nodes,x5.batch,x5.high,x5.zones,(x5.caches.set x6.toNat ({ at_ x5.caches x6 with lists:=((at_ x5.caches x6).lists).set x2.toNat x7 }))⟩),.dead,.dead,.dead,.dead,.dead]) (zT (k:=2) (o:=0) (cs:=(zG ⟨[],0,0,[],[]⟩)) (la:=(zG (⟨x5.nodes,x5.batch,x5.high,x5.zones,x5.caches.set x6.toNat ({ at_ x5.caches x6 with lists:=((at_ x5.caches x6).lists).set x2.toNat x7 })⟩:zJ))) Tryz.sizeOf26 rfl rfl rfl rfl)<|zA (zD rfl)<|zF<|zb ?_
  cases h
  exact zA5 (zDV Tryz.isAgg26 Tryz.sizeOf26 rfl rfl rfl rfl) (zAI rfl rfl) rfl
 refine zQ<|zH<|zM h fun b8 h=>zP h fun x8 w8 h => ?_
 refine zAm (n:=83) (m:=0) [.head 0 1,.head 0 1,.head 0 1,.head 0 1,.head 0 1,.head 0 1,.head 0 1,.head 0 1,.head 0 1,.head 0 2,.tail 0,.tail 1,.head 2 2] [10,11] [AV.ptr 4 3,AV.hd 5,li x2,(AV.ptr 5 (x2.toNat*10)),(AV.agg (zO (at_ x5.zones x2))),li D,(AV.tup [(AV.agg (zO x8.1)),li x8.2]),(AV.tup [(AV.agg (zO x8.1)),li x8.2]),(AV.agg (zO x8.1)),li x8.2,AV.ptr 7 0,.any,li x8.2] [[.box 26 (zG A),.box 3 [li D],.box 26 (zG ⟨[],0,0,[],[]⟩),.dead,.box 26 [ls cI x5.nodes,li x5.batch,li x5.high,AV.hd 5,AV.hd 6],.vec 51 10 (List.map zO x5.zones),.vec 55 1 (List.map zp x5.caches)],[.box 26 (zG A),.box 3 [li D],.box 26 (zG ⟨[],0,0,[],[]⟩),.dead,.box 26 [ls cI x5.nodes,li x5.batch,li x5.high,AV.hd 5,AV.hd 6],.vec 51 10 (List.map zO x5.zones),.vec 55 1 (List.map zp x5.caches),.box 51 (zO ⟨0,0,0,0,0,(List.replicate 5 ([]:List Int))⟩)],[.box 26 (zG A),.box 3 [li D],.box 26 (zG ⟨[],0,0,[],[]⟩),.dead,.box 26 [ls cI x5.nodes,li x5.batch,li x5.high,AV.hd 5,AV.hd 6],.vec 51 10 (List.map zO x5.zones),.vec 55 1 (List.map zp x5.caches),.box 51 (zO x8.1)]] (by kernel_rfl) (by kernel_rfl) ⟨⟨D1 fun e s p=>zK (k:=4) (o:=0) (off:=3) Tryz.underlying26 rfl rfl Tryz.sizeOf23 (s 8 rfl),D1 fun e s p=>zK (k:=4) (o:=0) (off:=3) Tryz.underlying26 rfl rfl Tryz.sizeOf23 (s 8 rfl)⟩,⟨D1 fun e s p=>zN (k:=4) (o:=3) Tryz.isAgg23 p.1 rfl rfl rfl,D1 fun e s p=>zN (k:=4) (o:=3) Tryz.isAgg23 p.1 rfl rfl rfl⟩,⟨D1 fun e s p=>zB (s 7 rfl),D1 fun e s p=>zB (s 7 rfl)⟩,⟨D1 fun e s p=>zy (f:=zO) (l:=x5.zones) (i:=x2) Tryz.underlying23 Tryz.sizeOf51 p.1 rfl p.2.1 b8,D1 fun e s p=>zy (f:=zO) (l:=x5.zones) (i:=x2) Tryz.underlying23 Tryz.sizeOf51 p.1 rfl p.2.1 b8⟩,⟨D1 fun e s p=>zBO (f:=zO) (l:=x5.zones) (i:=x2) (c:=0) (q:=10) (la:=(zO (at_ x5.zones x2))) Tryz.isAgg51 Tryz.sizeOf51 p.1 rfl (by first | rfl | omega) b8 rfl rfl rfl,D1 fun e s p=>zBO (f:=zO) (l:=x5.zones) (i:=x2) (c:=0) (q:=10) (la:=(zO (at_ x5.zones x2))) Tryz.isAgg51 Tryz.sizeOf51 p.1 rfl (by first | rfl | omega) b8 rfl rfl rfl⟩,⟨D1 fun e s p=>zN (k:=1) (o:=0) Tryz.isAgg3 (s 3 rfl) rfl rfl rfl,D1 fun e s p=>zN (k:=1) (o:=0) Tryz.isAgg3 (s 3 rfl) rfl rfl rfl⟩,⟨?_,?_⟩,⟨D1 fun e s p=>zB p.1,D1 fun e s p=>zB p.1⟩,⟨D1 fun e s p=>za p.1 rfl,D1 fun e s p=>za p.1 rfl⟩,⟨D1 fun e s p=>za p.1 rfl,D1 fun e s p=>za p.1 rfl,D1 fun e s p=>za p.1 rfl⟩,?_,?_,D1 fun e s p=>zD p.2.2.2.2.2.2.2.2.2.2.2.1,trivial⟩ ?_
 ·
  intro e13 s13 p13
  refine ze (r:=(AV.tup [(AV.agg (zO x8.1)),li x8.2])) (la:=[(AV.agg (zO (at_ x5.zones x2))),li D]) Tryz.func77 rfl (by kernel_rfl) (.fn 77) (zAL p13.1 (zAL p13.2.1 rfl)) rfl (zMU w8) rfl ?_
  exact zF ⟨fun _=>rfl,rfl⟩
 ·
  intro e14 s14 p14
  refine ze (r:=(AV.tup [(AV.agg (zO x8.1)),li x8.2])) (la:=[(AV.agg (zO (at_ x5.zones x2))),li D]) Tryz.func77 rfl (by kernel_rfl) (.fn 77) (zAL p14.1 (zAL p14.2.1 rfl)) rfl (zMU w8) rfl ?_
  exact zF ⟨fun _=>rfl,rfl⟩
 ·
  intro e22 s22 p22
  refine zX (H':=[.box 26 (zG A),.box 3 [li D],.box 26 (zG ⟨[],0,0,[],[]⟩),.dead,.box 26 [ls cI x5.nodes,li x5.batch,li x5.high,AV.hd 5,AV.hd 6],.vec 51 10 (List.map zO x5.zones),.vec 55 1 (List.map zp x5.caches),.box 51 (zO ⟨0,0,0,0,0,(List.replicate 5 ([]:List Int))⟩)]) zv0 ?_
  exact zF ⟨fun _=>rfl,rfl⟩
 ·
  intro e23 s23 p23
  refine zd (H':=[.box 26 (zG A),.box 3 [li D],.box 26 (zG ⟨[],0,0,[],[]⟩),.dead,.box 26 [ls cI x5.nodes,li x5.batch,li x5.high,AV.hd 5,AV.hd 6],.vec 51 10 (List.map zO x5.zones),.vec 55 1 (List.map zp x5.caches),.box 51 (zO x8.1)]) (zT (k:=7) (o:=0) (cs:=(zO ⟨0,0,0,0,0,(List.replicate 5 ([]:List Int))⟩)) (la:=(zO x8.1)) Tryz.sizeOf51 (by exact p23.2.2.2.2.2.2.2.2.2.2.2.2.2.1) rfl rfl (by exact p23.2.2.2.2.2.2.2.2.2.2.2.1)) ?_
  exact zF ⟨fun _=>rfl,rfl⟩
 intro e25 s25 hq1
 refine zAS (zBI (l:=[(4,(AV.ptr 2 0)),(7,(li x2)),(8,(AV.ptr 4 0)),(11,(AV.ptr 7 0)),(12,(li x8.2))]) ⟨s25 4 rfl,s25 7 rfl,s25 8 rfl,(hq1 10 (by decide) (by decide)),(hq1 12 (by decide) (by decide)),trivial⟩)<|zH<|zH<|zC<|zA (zB (av:=(li x8.2)) rfl)<|zA (z7 (a:=x8.2) (b:=0) rfl rfl) ?_
 refine zF ?_
 refine zW h rfl (fun b9 h => ?_) (fun b9 h => ?_)
 ·refine zH<|zC<|zA zOP<|zA (zB rfl)<|zd (H':=[.box 26 (zG A),.box 3 [li D],.box 26 (zG (⟨([]:List Int),0,0,([]:List zi),([]:List zL)⟩:zJ)),.dead,.box 26 [ls cI x5.nodes,li x5.batch,li x5.high,AV.hd 5,AV.hd 6],.vec 51 10 (List.map zO x5.zones),.vec 55 1 (List.map zp x5.caches),.box 51 (zO x8.1)]) (zT (k:=2) (o:=0) (cs:=(zG ⟨[],0,0,[],[]⟩)) (la:=(zG (⟨([]:List Int),0,0,([]:List zi),([]:List zL)⟩:zJ))) Tryz.sizeOf26 rfl rfl rfl rfl)<|zA (zD rfl) ?_
  refine zF<|zb ?_
  cases h
  exact zA5 (zDV Tryz.isAgg26 Tryz.sizeOf26 rfl rfl rfl rfl) (zAI rfl rfl) rfl
 refine zQ<|zH<|zC<|zA (zK Tryz.underlying26 rfl rfl Tryz.sizeOf23 rfl)<|zA (zN Tryz.isAgg23 rfl rfl rfl rfl)<|zA (zB rfl) ?_
 refine zA (zS (k:=7) (o:=0) (m:=10) Tryz.isAgg51 Tryz.sizeOf51 rfl rfl rfl rfl rfl)<|zA (zy (f:=zO) (l:=x5.zones) (i:=x2) Tryz.underlying23 Tryz.sizeOf51 rfl rfl rfl b8)<|zd (H':=[.box 26 (zG A),.box 3 [li D],.box 26 (zG ⟨[],0,0,[],[]⟩),.dead,.box 26 [ls cI x5.nodes,li x5.batch,li x5.high,AV.hd 5,AV.hd 6],.vec 51 10 (List.map zO (x5.zones.set x2.toNat x8.1)),.vec 55 1 (List.map zp x5.caches),.box 51 (zO x8.1)]) (zBG (k:=5) (o:=(x2.toNat*10)) (f:=zO) (l:=x5.zones) (i:=x2) (z:=x8.1) Tryz.sizeOf51 (fun _=>rfl) rfl rfl (by first | rfl | omega) b8 rfl rfl)<|zF<|zH<|zC ?_
 refine z5 (z9 (k:=4) (j:=5) (o:=3) rfl rfl rfl rfl)<|z5 (zA4 (k:=4) (o:=3) (rows':=List.map zO (x5.zones.set x2.toNat x8.1)) rfl rfl (zAM (fun _=>rfl)))<|z5 (z9 (k:=4) (j:=6) (o:=4) rfl rfl rfl rfl)<|z5 (zA4 (k:=4) (o:=4) (rows':=List.map zI x5.caches) rfl rfl (zDn (fun x=>zCl x)))<|zA (zS (k:=4) (o:=0) (m:=5) Tryz.isAgg26 Tryz.sizeOf26 rfl rfl rfl rfl rfl)<|zd (H':=[.box 26 (zG A),.box 3 [li D],.box 26 (zG (⟨x5.nodes,x5.batch,x5.high,x5.zones.set x2.toNat x8.1,x5.caches⟩:zJ)),.dead,.box 26 (zG ⟨x5.nodes,x5.batch,x5.high,x5.zones.set x2.toNat x8.1,x5.caches⟩),.dead,.dead,.box 51 (zO x8.1)]) (zT (k:=2) (o:=0) (cs:=(zG ⟨[],0,0,[],[]⟩)) (la:=(zG (⟨x5.nodes,x5.batch,x5.high,x5.zones.set x2.toNat x8.1,x5.caches⟩:zJ))) Tryz.sizeOf26 rfl rfl rfl rfl) ?_
 refine zA (zD rfl)<|zF<|zb ?_
 cases h
 exact zA5 (zDV Tryz.isAgg26 Tryz.sizeOf26 rfl rfl rfl rfl) (zAI rfl rfl) rfl
theorem zO9 {C:zi} {Q:Int} {r:zi×Int} (h:zKJ C Q=some r):PFn Tryz.prog 79 [(AV.agg (zO C)),li Q] (AV.tup [(AV.agg (zO r.1)),li r.2]):=by
 refine zm Tryz.func79 rfl Tryz.ntmps79 Tryz.results79 rfl ?_
 unfold zKJ at h
 refine zH<|zC<|zX (H':=[.box 51 (zO C)]) (zu (t:=51) rfl)<|zX (H':=[.box 51 (zO C),.box 51 (zO ⟨0,0,0,0,0,(List.replicate 5 ([]:List Int))⟩)]) zv0<|zA (zD rfl)<|zF ?_
 refine zH<|zH<|zC<|zA (zS (k:=0) (o:=0) (m:=10) Tryz.isAgg51 Tryz.sizeOf51 rfl rfl rfl rfl rfl)<|zP h fun x1 w1 h=>ze Tryz.func47 rfl (by kernel_rfl) (.fn 47) rfl rfl (zGL w1) rfl ?_
 refine zA (zD rfl)<|zF<|zH<|zC<|zA (zB rfl)<|zA (z7 rfl rfl) ?_
 refine zF ?_
 refine zW h rfl (fun b1 h => ?_) (fun b1 h => ?_)
 ·refine zH<|zC<|zA zv9<|zA (zB rfl)<|zd (H':=[.box 51 (zO C),.box 51 (zO (⟨0,0,0,0,0,(List.replicate 5 ([]:List Int))⟩:zi))]) (zT (k:=1) (o:=0) (cs:=(zO ⟨0,0,0,0,0,(List.replicate 5 ([]:List Int))⟩)) (la:=(zO (⟨0,0,0,0,0,(List.replicate 5 ([]:List Int))⟩:zi))) Tryz.sizeOf51 rfl rfl rfl rfl)<|zA (zD rfl) ?_
  refine zF<|zb ?_
  cases h
  exact zA5 (zDV Tryz.isAgg51 Tryz.sizeOf51 rfl rfl rfl rfl) (zAI rfl rfl) rfl
 refine zQ<|zH<|zH<|zC<|zA (zS (k:=0) (o:=0) (m:=10) Tryz.isAgg51 Tryz.sizeOf51 rfl rfl rfl rfl rfl)<|zA (zB rfl) ?_
 refine zP h fun x2 w2 h=>ze Tryz.func72 rfl (by kernel_rfl) (.fn 72) rfl rfl (zFF w2) rfl<|zA (zAv (t:=x2) rfl)<|zF ?_
 refine zW h rfl (fun b2 h => ?_) (fun b2 h => ?_)
 ·refine zH<|zC<|zA zv9<|zd (H':=[.box 51 (zO C),.box 51 (zO (⟨0,0,0,0,0,(List.replicate 5 ([]:List Int))⟩:zi))]) (zT (k:=1) (o:=0) (cs:=(zO ⟨0,0,0,0,0,(List.replicate 5 ([]:List Int))⟩)) (la:=(zO (⟨0,0,0,0,0,(List.replicate 5 ([]:List Int))⟩:zi))) Tryz.sizeOf51 rfl rfl rfl rfl)<|zA (zD rfl)<|zF ?_
  refine zb ?_
  cases h
  exact zA5 (zDV Tryz.isAgg51 Tryz.sizeOf51 rfl rfl rfl rfl) (zAI rfl rfl) rfl
 refine zQ<|zH<|zC<|zA (zS (k:=0) (o:=0) (m:=10) Tryz.isAgg51 Tryz.sizeOf51 rfl rfl rfl rfl rfl)<|zP h fun x3 w3 h=>zGJ (T:=3) (sz:=1) (rows:=List.map cI x3) (la:=[(AV.agg (zO C))]) (la':=[(AV.agg (zO C))]) (S:=[]) Tryz.func95 rfl (by kernel_rfl) (.fn 95) rfl ⟨zAl.nr rfl,trivial⟩ (zIM w3) (.inl rfl) ?_
 refine zA (zD rfl)<|zF<|zH<|zH<|zC<|zA (zB rfl) ?_
 refine zA (zB rfl)<|zM h fun b3 h=>zA (zy (f:=cI) (l:=x3) (i:=Q) Tryz.underlying22 Tryz.sizeOf3 rfl rfl rfl b3)<|zA (zA3 (f:=cI) (l:=x3) (i:=Q) (c:=0) (a:=(li (at_ x3 Q))) Tryz.isAgg3 rfl rfl (by first | rfl | omega) b3 rfl rfl)<|zA (zA8 rfl rfl)<|zF ?_
 refine zW h rfl (fun b4 h => ?_) (fun b4 h => ?_)
 ·refine zH<|zC<|zA zv9<|zd (H':=[.box 51 (zO C),.box 51 (zO (⟨0,0,0,0,0,(List.replicate 5 ([]:List Int))⟩:zi)),.vec 3 1 (List.map cI x3)]) (zT (k:=1) (o:=0) (cs:=(zO ⟨0,0,0,0,0,(List.replicate 5 ([]:List Int))⟩)) (la:=(zO (⟨0,0,0,0,0,(List.replicate 5 ([]:List Int))⟩:zi))) Tryz.sizeOf51 rfl rfl rfl rfl)<|zA (zD rfl)<|zF ?_
  refine zb ?_
  cases h
  exact zA5 (zDV Tryz.isAgg51 Tryz.sizeOf51 rfl rfl rfl rfl) (zAI rfl rfl) rfl
 refine zQ<|zH<|zC<|zA (zB rfl)<|zA (zB rfl)<|zA (zy (f:=cI) (l:=x3) (i:=Q) Tryz.underlying22 Tryz.sizeOf3 rfl rfl rfl b3) ?_
 refine zd (H':=[.box 51 (zO C),.box 51 (zO ⟨0,0,0,0,0,(List.replicate 5 ([]:List Int))⟩),.vec 3 1 (List.map cI (x3.set Q.toNat 0))]) (zBZ (k:=2) (o:=(Q.toNat*1)) (f:=cI) (l:=x3) (i:=Q) (c:=0) (a:=(li 0)) (z:=0) Tryz.sizeOf3 rfl rfl (by first | rfl | omega) b3 rfl rfl rfl rfl rfl)<|zF<|zH<|zC<|zA (zS (k:=0) (o:=0) (m:=10) Tryz.isAgg51 Tryz.sizeOf51 rfl rfl rfl rfl rfl)<|zA (zB rfl) ?_
 refine zP h fun x4 w4 h=>z5 (zES (j:=2) (ds:=[7,20,21,27,31]) (rows':=List.map cI (x3.set Q.toNat 0)) rfl (zAM (fun _=>rfl)) ⟨rfl,rfl,rfl,rfl,rfl,trivial⟩)<|zP h fun x5 w5 h=>ze Tryz.func121 rfl (by kernel_rfl) (.fn 121) rfl rfl (zKg w5) rfl<|zd (H':=[.box 51 (zO C),.box 51 (zO x5),.dead]) (zT (k:=1) (o:=0) (cs:=(zO ⟨0,0,0,0,0,(List.replicate 5 ([]:List Int))⟩)) (la:=(zO x5)) Tryz.sizeOf51 rfl rfl rfl rfl)<|zA (zD rfl) ?_
 refine zF<|zb ?_
 cases h
 exact zA5 (zDV Tryz.isAgg51 Tryz.sizeOf51 rfl rfl rfl rfl) (zAI rfl rfl) rfl
theorem zPC {A:zJ} {D:Int} {r:zJ×Int} (h:zKQ A D=some r):PFn Tryz.prog 33 [(AV.agg (zG A)),li D] (AV.tup [(AV.agg (zG r.1)),li r.2]):=by
 refine zm Tryz.func33 rfl Tryz.ntmps33 Tryz.results33 rfl ?_
 unfold zKQ at h
 refine zH<|zC<|zX (H':=[.box 26 (zG A)]) (zu (t:=26) rfl)<|zX (H':=[.box 26 (zG A),.box 26 (zG ⟨[],0,0,[],[]⟩)]) zv3<|zA (zD rfl)<|zF ?_
 refine zH<|zH<|zC<|zA (zS (k:=0) (o:=0) (m:=5) Tryz.isAgg26 Tryz.sizeOf26 rfl rfl rfl rfl rfl)<|zP h fun x1 w1 h=>ze Tryz.func14 rfl (by kernel_rfl) (.fn 14) rfl rfl (zLx w1) rfl ?_
 refine zA (zD rfl)<|zF<|zH<|zC<|zA (zB rfl)<|zA (z7 rfl rfl) ?_
 refine zF ?_
 refine zW h rfl (fun b1 h => ?_) (fun b1 h => ?_)
 ·refine zH<|zC<|zA zOP<|zA (zB rfl)<|zd (H':=[.box 26 (zG A),.box 26 (zG (⟨([]:List Int),0,0,([]:List zi),([]:List zL)⟩:zJ))]) (zT (k:=1) (o:=0) (cs:=(zG ⟨[],0,0,[],[]⟩)) (la:=(zG (⟨([]:List Int),0,0,([]:List zi),([]:List zL)⟩:zJ))) Tryz.sizeOf26 rfl rfl rfl rfl)<|zA (zD rfl) ?_
  refine zF<|zb ?_
  cases h
  exact zA5 (zDV Tryz.isAgg26 Tryz.sizeOf26 rfl rfl rfl rfl) (zAI rfl rfl) rfl
 refine zQ<|zH<|zC<|zA (zS (k:=0) (o:=0) (m:=5) Tryz.isAgg26 Tryz.sizeOf26 rfl rfl rfl rfl rfl)<|zA (zB rfl)<|zP h fun x2 w2 h => ?_
 refine ze Tryz.func49 rfl (by kernel_rfl) (.fn 49) rfl rfl (zPa w2) rfl<|zA (zD rfl)<|zF<|zH<|zH<|zC ?_
 refine zA (zB rfl)<|zA (zh rfl rfl)<|zF ?_
 refine zW h rfl (fun b2 h => ?_) (fun b2 h => ?_)
 ·refine zH<|zC<|zA zOP<|zd (H':=[.box 26 (zG A),.box 26 (zG (⟨([]:List Int),0,0,([]:List zi),([]:List zL)⟩:zJ))]) (zT (k:=1) (o:=0) (cs:=(zG ⟨[],0,0,[],[]⟩)) (la:=(zG (⟨([]:List Int),0,0,([]:List zi),([]:List zL)⟩:zJ))) Tryz.sizeOf26 rfl rfl rfl rfl)<|zA (zD rfl)<|zF ?_
  refine zb ?_
  cases h
  exact zA5 (zDV Tryz.isAgg26 Tryz.sizeOf26 rfl rfl rfl rfl) (zAI rfl rfl) rfl
 refine zQ<|zH<|zH<|zC<|zA (zS (k:=0) (o:=0) (m:=5) Tryz.isAgg26 Tryz.sizeOf26 rfl rfl rfl rfl rfl)<|zA (zB rfl) ?_
 refine zA (zB rfl)<|zP h fun x3 w3 h=>ze Tryz.func51 rfl (by kernel_rfl) (.fn 51) rfl rfl (zPW w3) rfl<|zA (zAv (t:=x3) rfl)<|zF ?_
 refine zW h rfl (fun b3 h => ?_) (fun b3 h => ?_)
 ·refine zH<|zC<|zA zOP<|zd (H':=[.box 26 (zG A),.box 26 (zG (⟨([]:List Int),0,0,([]:List zi),([]:List zL)⟩:zJ))]) (zT (k:=1) (o:=0) (cs:=(zG ⟨[],0,0,[],[]⟩)) (la:=(zG (⟨([]:List Int),0,0,([]:List zi),([]:List zL)⟩:zJ))) Tryz.sizeOf26 rfl rfl rfl rfl)<|zA (zD rfl)<|zF ?_
  refine zb ?_
  cases h
  exact zA5 (zDV Tryz.isAgg26 Tryz.sizeOf26 rfl rfl rfl rfl) (zAI rfl rfl) rfl
 refine zQ<|zH<|zH<|zP h fun x4 w4 h=>zM h fun b4 h => ?_
 refine zAm (n:=117) (m:=0) [.head 0 0,.head 0 0,.head 0 0,.head 0 0,.head 0 0,.head 0 0,.head 0 0,.head 0 0,.head 0 0,.head 0 0] [] [(AV.agg (zG A)),li x2,li x4,AV.ptr 0 3,ls zO A.zones,li x2,(AV.rp (zO (at_ A.zones x2)) 0),(AV.rp (zO (at_ A.zones x2)) 4),(li ((at_ A.zones x2).min)),(AV.lit (.bool (decide (x4≤((at_ A.zones x2).min)))))] [[.box 26 (zG A),.box 26 (zG ⟨[],0,0,[],[]⟩)]] (by kernel_rfl) (by kernel_rfl) ⟨D1 fun e s p=>zS (k:=0) (o:=0) (m:=5) Tryz.isAgg26 Tryz.sizeOf26 (s 2 rfl) rfl rfl rfl rfl,D1 fun e s p=>zB (s 7 rfl),?_,D1 fun e s p=>zK (k:=0) (o:=0) (off:=3) Tryz.underlying26 rfl rfl Tryz.sizeOf23 (s 2 rfl),D1 fun e s p=>zN (k:=0) (o:=3) Tryz.isAgg23 p.1 rfl rfl rfl,D1 fun e s p=>zB (s 7 rfl),D1 fun e s p=>zV (f:=zO) (l:=A.zones) (i:=x2) Tryz.underlying23 Tryz.sizeOf51 (fun _=>rfl) p.1 p.2.1 b4,D1 fun e s p=>zAw (row:=(zO (at_ A.zones x2))) (o:=0) (off:=4) Tryz.underlying51 rfl rfl Tryz.sizeOf3 p.1,D1 fun e s p=>zU (o:=4) Tryz.isAgg3 p.1 rfl,D1 fun e s p=>zCj (a:=x4) (b:=(at_ A.zones x2).min) p.1 p.2.1,trivial⟩ ?_
 ·
  intro e3 s3 p3
  refine ze (r:=(li x4)) (la:=[(AV.agg (zG A)),li x2]) Tryz.func40 rfl (by kernel_rfl) (.fn 40) (zAL p3.1 (zAL p3.2.1 rfl)) rfl (zOS w4) rfl ?_
  exact zF ⟨fun _=>rfl,rfl⟩
 intro e11 s11 hq1
 refine zAS (zBI (l:=[(1,(li D)),(2,(AV.ptr 0 0)),(4,(AV.ptr 1 0)),(7,(li x2)),(39,(AV.lit (.bool (decide (x4≤((at_ A.zones x2).min))))))]) ⟨s11 1 rfl,s11 2 rfl,s11 4 rfl,s11 7 rfl,(hq1 9 (by decide) (by decide)),trivial⟩) ?_
 refine zW h rfl (fun b5 h => ?_) (fun b5 h => ?_)
 ·refine zH<|zC<|zA zOP<|zd (H':=[.box 26 (zG A),.box 26 (zG (⟨([]:List Int),0,0,([]:List zi),([]:List zL)⟩:zJ))]) (zT (k:=1) (o:=0) (cs:=(zG ⟨[],0,0,[],[]⟩)) (la:=(zG (⟨([]:List Int),0,0,([]:List zi),([]:List zL)⟩:zJ))) Tryz.sizeOf26 rfl rfl rfl rfl)<|zA (zD rfl)<|zF ?_
  refine zb ?_
  cases h
  exact zA5 (zDV Tryz.isAgg26 Tryz.sizeOf26 rfl rfl rfl rfl) (zAI rfl rfl) rfl
 refine zQ<|zH<|zC<|zA (zS (k:=0) (o:=0) (m:=5) Tryz.isAgg26 Tryz.sizeOf26 rfl rfl rfl rfl rfl)<|zP h fun x5 w5 h=>zDg (cs:=[ls cI x5.nodes,li x5.batch,li x5.high,AV.osl 51 10 (List.map zO x5.zones),AV.osl 55 1 (List.map zp x5.caches)]) (la:=[(AV.agg (zG A))]) (la':=[(AV.agg (zG A))]) (S:=[]) Tryz.func59 rfl (by kernel_rfl) (.fn 59) rfl ⟨zAl.nr rfl,trivial⟩ (zL0 w5) (.inl rfl) ?_
 refine zX (H':=[.box 26 (zG A),.box 26 (zG ⟨[],0,0,[],[]⟩),.val (.agg [ls cI x5.nodes,li x5.batch,li x5.high,AV.osl 51 10 (List.map zO x5.zones),AV.osl 55 1 (List.map zp x5.caches)]),.box 26 (zG ⟨[],0,0,[],[]⟩)]) zv3<|zd (H':=[.box 26 (zG A),.box 26 (zG ⟨[],0,0,[],[]⟩),.dead,.box 26 [ls cI x5.nodes,li x5.batch,li x5.high,AV.osl 51 10 (List.map zO x5.zones),AV.osl 55 1 (List.map zp x5.caches)]]) (zBW (k:=3) (o:=0) (j:=2) (cs:=(zG ⟨[],0,0,[],[]⟩)) (la:=[ls cI x5.nodes,li x5.batch,li x5.high,AV.osl 51 10 (List.map zO x5.zones),AV.osl 55 1 (List.map zp x5.caches)]) Tryz.sizeOf26 rfl rfl rfl rfl rfl (by decide))<|zF<|zH<|zC<|zA (zS (k:=0) (o:=0) (m:=5) Tryz.isAgg26 Tryz.sizeOf26 rfl rfl rfl rfl rfl) ?_
 refine zA (zB rfl)<|zA (zB rfl)<|zP h fun x6 w6 h=>ze Tryz.func78 rfl (by kernel_rfl) (.fn 78) rfl rfl (zLG w6) rfl<|zA (zD rfl)<|zF ?_
 refine zH<|zH<|zC<|zA (zB rfl)<|zA (zh rfl rfl)<|zF ?_
 refine zW h rfl (fun b6 h => ?_) (fun b6 h => ?_)
 ·refine zH<|zAS (zAZ (k:=3) (o:=3) (t':=51) (sz:=10) (rows:=List.map zO x5.zones) rfl rfl)<|zM h fun b7 h=>zP h fun x7 w7 h => ?_
  refine zAm (n:=117) (m:=0) [.head 0 0,.head 0 0,.head 0 0,.head 0 0,.head 0 0,.head 0 0,.head 0 0,.head 0 0,.head 0 0,.head 0 0,.head 0 0,.head 0 0,.head 0 1,.head 0 0,.tail 0] [14] [AV.ptr 3 3,AV.hd 4,li x2,AV.ptr 3 3,AV.hd 4,li x2,(AV.ptr 4 (x2.toNat*10)),(AV.agg (zO (at_ x5.zones x2))),li D,(AV.tup [(AV.agg (zO x7.1)),li x7.2]),(AV.tup [(AV.agg (zO x7.1)),li x7.2]),(AV.agg (zO x7.1)),li x7.2,(AV.ptr 4 (x2.toNat*10)),.any] [[.box 26 (zG A),.box 26 (zG ⟨[],0,0,[],[]⟩),.dead,.box 26 [ls cI x5.nodes,li x5.batch,li x5.high,AV.hd 4,AV.osl 55 1 (List.map zp x5.caches)],.vec 51 10 (List.map zO x5.zones)],[.box 26 (zG A),.box 26 (zG ⟨[],0,0,[],[]⟩),.dead,.box 26 [ls cI x5.nodes,li x5.batch,li x5.high,AV.hd 4,AV.osl 55 1 (List.map zp x5.caches)],.vec 51 10 (List.map zO (x5.zones.set x2.toNat x7.1))]] (by kernel_rfl) (by kernel_rfl) ⟨D1 fun e s p=>zK (k:=3) (o:=0) (off:=3) Tryz.underlying26 rfl rfl Tryz.sizeOf23 (s 8 rfl),D1 fun e s p=>zN (k:=3) (o:=3) Tryz.isAgg23 p.1 rfl rfl rfl,D1 fun e s p=>zB (s 7 rfl),D1 fun e s p=>zK (k:=3) (o:=0) (off:=3) Tryz.underlying26 rfl rfl Tryz.sizeOf23 (s 8 rfl),D1 fun e s p=>zN (k:=3) (o:=3) Tryz.isAgg23 p.1 rfl rfl rfl,D1 fun e s p=>zB (s 7 rfl),D1 fun e s p=>zy (f:=zO) (l:=x5.zones) (i:=x2) Tryz.underlying23 Tryz.sizeOf51 p.1 rfl p.2.1 b7,D1 fun e s p=>zBO (f:=zO) (l:=x5.zones) (i:=x2) (c:=0) (q:=10) (la:=(zO (at_ x5.zones x2))) Tryz.isAgg51 Tryz.sizeOf51 p.1 rfl (by first | rfl | omega) b7 rfl rfl rfl,D1 fun e s p=>zB (s 1 rfl),?_,D1 fun e s p=>zB p.1,D1 fun e s p=>za p.1 rfl,⟨D1 fun e s p=>za p.1 rfl,D1 fun e s p=>za p.1 rfl⟩,D1 fun e s p=>zy (f:=zO) (l:=x5.zones) (i:=x2) Tryz.underlying23 Tryz.sizeOf51 p.2.2.2.1 rfl p.2.2.2.2.1 b7,?_,trivial⟩ ?_
  ·
   intro e21 s21 p20
   refine ze (r:=(AV.tup [(AV.agg (zO x7.1)),li x7.2])) (la:=[(AV.agg (zO (at_ x5.zones x2))),li D]) Tryz.func79 rfl (by kernel_rfl) (.fn 79) (zAL p20.1 (zAL p20.2.1 rfl)) rfl (zO9 w7) rfl ?_
   exact zF ⟨fun _=>rfl,rfl⟩
  ·
   intro e27 s27 p26
   refine zd (H':=[.box 26 (zG A),.box 26 (zG ⟨[],0,0,[],[]⟩),.dead,.box 26 [ls cI x5.nodes,li x5.batch,li x5.high,AV.hd 4,AV.osl 55 1 (List.map zp x5.caches)],.vec 51 10 (List.map zO (x5.zones.set x2.toNat x7.1))]) (zBG (k:=4) (o:=(x2.toNat*10)) (f:=zO) (l:=x5.zones) (i:=x2) (z:=x7.1) Tryz.sizeOf51 (fun _=>rfl) (by exact p26.1) rfl (by first | rfl | omega) b7 (by exact p26.2.2.2.2.2.2.2.2.2.2.2.2.2.2.1) rfl) ?_
   exact zF ⟨fun _=>rfl,rfl⟩
  intro e28 s28 hq2
  refine zAS (zBI (l:=[(4,(AV.ptr 1 0)),(8,(AV.ptr 3 0))]) ⟨s28 4 rfl,s28 8 rfl,trivial⟩)<|zH<|zC<|z5 (z9 (k:=3) (j:=4) (o:=3) (cs:=[ls cI x5.nodes,li x5.batch,li x5.high,AV.hd 4,AV.osl 55 1 (List.map zp x5.caches)]) rfl rfl rfl rfl)<|z5 (zA4 (k:=3) (o:=3) (cs:=[ls cI x5.nodes,li x5.batch,li x5.high,AV.osl 51 10 (List.map zO (x5.zones.set x2.toNat x7.1)),AV.osl 55 1 (List.map zp x5.caches)]) (rows':=List.map zO (x5.zones.set x2.toNat x7.1)) rfl rfl (zAM (fun _=>rfl)))<|z5 (zA4 (k:=3) (o:=4) (cs:=[ls cI x5.nodes,li x5.batch,li x5.high,(ls zO (x5.zones.set x2.toNat x7.1)),AV.osl 55 1 (List.map zp x5.caches)]) (rows':=List.map zI x5.caches) rfl rfl (zDn (fun x=>zCl x))) ?_
  refine zA (zS (k:=3) (o:=0) (m:=5) Tryz.isAgg26 Tryz.sizeOf26 rfl rfl rfl rfl rfl)<|zd (H':=[.box 26 (zG A),.box 26 (zG (⟨x5.nodes,x5.batch,x5.high,x5.zones.set x2.toNat x7.1,x5.caches⟩:zJ)),.dead,.box 26 (zG ⟨x5.nodes,x5.batch,x5.high,x5.zones.set x2.toNat x7.1,x5.caches⟩),.dead]) (zT (k:=1) (o:=0) (cs:=(zG ⟨[],0,0,[],[]⟩)) (la:=(zG (⟨x5.nodes,x5.batch,x5.high,x5.zones.set x2.toNat x7.1,x5.caches⟩:zJ))) Tryz.sizeOf26 rfl rfl rfl rfl)<|zA (zD rfl)<|zF<|zb ?_
  cases h
  exact zA5 (zDV Tryz.isAgg26 Tryz.sizeOf26 rfl rfl rfl rfl) (zAI rfl rfl) rfl
 refine zQ<|zH<|zC<|zA (zD rfl)<|zF ?_
 refine zx (r:=r) (fun (l1:List Int)=>mkE [(4,(AV.ptr 0 0)),(7,(li x2)),(8,(AV.ptr 1 0)),(9,(li x6)),(10,(AV.hd 2))]) (fun l1=>[.box 26 (zG ⟨[],0,0,[],[]⟩),.box 26 [ls cI x5.nodes,li x5.batch,li x5.high,AV.osl 51 10 (List.map zO x5.zones),AV.osl 55 1 (List.map zp x5.caches)],.vec 3 1 (List.map cI l1)]) (fun l1=>zIs x2 x5 x6 l1) ?_ ?_
 ·
  refine zH<|zC<|zA (zD rfl)<|zF<|zR<|zt (σ:=Int×(List Int)) (fun (i1,l2)=>mkE [(1,(li D)),(2,(AV.ptr 0 0)),(4,(AV.ptr 1 0)),(7,(li x2)),(8,(AV.ptr 2 0)),(9,(li x6)),(10,(AV.hd 3)),(11,(li i1))]) (fun (i1,l2)=>[.box 26 (zG A),.box 26 (zG ⟨[],0,0,[],[]⟩),.box 26 [ls cI x5.nodes,li x5.batch,li x5.high,AV.osl 51 10 (List.map zO x5.zones),AV.osl 55 1 (List.map zp x5.caches)],.vec 3 1 (List.map cI l2)]) (fun n0 (i1,l2)=>zF7 A D x2 x5 x6 n0 i1 l2) (0,[]) h (fun _=>rfl) (Rep.trans (zMI (d:=10) (el:=3) (sz:=1) rfl) (zAD [0,1,3,4] (l:=[(1,(li D)),(2,(AV.ptr 0 0)),(4,(AV.ptr 1 0)),(7,(li x2)),(8,(AV.ptr 2 0)),(9,(li x6)),(10,(AV.hd 3)),(11,(li 0))]) rfl rfl (by kernel_rfl))) ?_
  clear h
  rintro n0 ⟨i1,l2⟩ h
  replace h:zEq A D x2 x5 x6 (zF7 A D x2 x5 x6 n0) i1 l2=some r:=h
  unfold zEq at h
  refine zH<|zH<|zC<|zA (zB rfl)<|zA (zK Tryz.underlying26 rfl rfl Tryz.sizeOf24 rfl)<|zA (zN Tryz.isAgg24 rfl rfl rfl rfl) ?_
  refine zA (zB rfl)<|zM h fun b10 h=>zA (zV Tryz.underlying24 Tryz.sizeOf55 (fun _=>rfl) rfl rfl b10)<|zA (zAw (row:=(zI (at_ A.caches x6))) (o:=0) (off:=0) Tryz.underlying55 rfl rfl Tryz.sizeOf53 rfl)<|zA (zU (o:=0) Tryz.isAgg53 rfl rfl)<|zA (zB rfl) ?_
  refine zM h fun b11 h=>zA (zV Tryz.underlying53 Tryz.sizeOf22 (fun _=>rfl) rfl rfl b11)<|zA (zU (o:=0) Tryz.isAgg22 rfl rfl)<|zA (zY Tryz.underlying22 rfl)<|zA (zh rfl rfl)<|zF ?_
  refine zW h rfl (fun b12 h => ?_) (fun b12 h => ?_)
  ·refine zQ ?_
   refine zx (r:=r) (fun (l3:List Int)=>mkE [(1,(li D)),(2,(AV.ptr 0 0)),(4,(AV.ptr 1 0)),(7,(li x2)),(8,(AV.ptr 2 0)),(9,(li x6)),(10,(AV.hd 3)),(11,(li i1))]) (fun l3=>[.box 26 (zG A),.box 26 (zG ⟨[],0,0,[],[]⟩),.box 26 [ls cI x5.nodes,li x5.batch,li x5.high,AV.osl 51 10 (List.map zO x5.zones),AV.osl 55 1 (List.map zp x5.caches)],.vec 3 1 (List.map cI l3)]) (fun l3=>zHf (zF7 A D x2 x5 x6 n0) i1 l3) ?_ ?_
   ·
    refine zR<|zH<|zC<|zA (zK Tryz.underlying26 rfl rfl Tryz.sizeOf24 rfl)<|zA (zN Tryz.isAgg24 rfl rfl rfl rfl)<|zA (zB rfl) ?_
    refine zA (zV Tryz.underlying24 Tryz.sizeOf55 (fun _=>rfl) rfl rfl b10)<|zA (zAw (row:=(zI (at_ A.caches x6))) (o:=0) (off:=0) Tryz.underlying55 rfl rfl Tryz.sizeOf53 rfl)<|zA (zU (o:=0) Tryz.isAgg53 rfl rfl)<|zA (zB rfl)<|zA (zV Tryz.underlying53 Tryz.sizeOf22 (fun _=>rfl) rfl rfl b11)<|zA (zU (o:=0) Tryz.isAgg22 rfl rfl) ?_
    refine zA (zB rfl)<|zM h fun b14 h=>zA (zV Tryz.underlying22 Tryz.sizeOf3 (fun _=>rfl) rfl rfl b14)<|zA (zU (o:=0) Tryz.isAgg3 rfl rfl)<|zA (zB rfl)<|zA (z7 rfl rfl) ?_
    refine zF ?_
    refine zW h rfl (fun b15 h => ?_) (fun b15 h => ?_)
    ·refine zC<|zA (zB rfl)<|zA (zK Tryz.underlying26 rfl rfl Tryz.sizeOf24 rfl)<|zA (zN Tryz.isAgg24 rfl rfl rfl rfl)<|zA (zB rfl)<|zA (zV Tryz.underlying24 Tryz.sizeOf55 (fun _=>rfl) rfl rfl b10) ?_
     refine zA (zAw (row:=(zI (at_ A.caches x6))) (o:=0) (off:=0) Tryz.underlying55 rfl rfl Tryz.sizeOf53 rfl)<|zA (zU (o:=0) Tryz.isAgg53 rfl rfl)<|zA (zB rfl)<|zA (zV Tryz.underlying53 Tryz.sizeOf22 (fun _=>rfl) rfl rfl b11)<|zA (zU (o:=0) Tryz.isAgg22 rfl rfl)<|zA (zB rfl) ?_
     refine zA (zV Tryz.underlying22 Tryz.sizeOf3 (fun _=>rfl) rfl rfl b14)<|zA (zU (o:=0) Tryz.isAgg3 rfl rfl)<|zF6 (a:=(li (at_ (at_ ((at_ A.caches x6).lists) x2) i1))) zGA Tryz.underlying22 rfl rfl rfl rfl<|zM h fun b16 h=>zDE (f:=cI) (k:=3) (j:=4) (l:=l2) (l':=[at_ (at_ ((at_ A.caches x6).lists) x2) i1]) zGA (fun _=>rfl) Tryz.underlying22 rfl rfl rfl rfl b16<|zA (zD rfl) ?_
     refine zF ?_
     exact ⟨(l2++[at_ (at_ ((at_ A.caches x6).lists) x2) i1]),zAD [0,1,2,5] rfl rfl (by kernel_rfl),h⟩
    refine zQ ?_
    exact ⟨l2,zAD [0,1,2,3] rfl rfl (by kernel_rfl),h⟩
   clear h
   intro l3 h
   unfold zHf at h
   refine zC<|zA (zB rfl)<|zM h fun b13 h=>zA (zg rfl rfl b13)<|zA (zD rfl)<|zF ?_
   exact ⟨((i1+1),l3),zAD [0,1,2,3] rfl rfl (by kernel_rfl),h⟩
  refine zz ?_
  exact ⟨l2,zAD [1,2,3] rfl rfl (by kernel_rfl),h⟩
 clear h
 intro l1 h
 unfold zIs at h
 refine zH<|zC<|zA (zK Tryz.underlying26 rfl rfl Tryz.sizeOf24 rfl)<|z5 (zAZ (k:=1) (o:=4) (t':=55) (sz:=1) (rows:=List.map zp x5.caches) rfl rfl)<|zA (zN Tryz.isAgg24 rfl rfl rfl rfl)<|zA (zB rfl) ?_
 refine zM h fun b8 h=>zA (zy (f:=zp) (l:=x5.caches) (i:=x6) Tryz.underlying24 Tryz.sizeOf55 rfl rfl rfl b8)<|zA (zK Tryz.underlying55 rfl rfl Tryz.sizeOf53 rfl)<|z5 (zNj (k:=3) (i:=x6.toNat) (t':=22) (s':=1) (rs:=List.map (cO 3 1 cI) ((at_ x5.caches x6).lists)) rfl (zOI (f:=zp) (l:=x5.caches) b8))<|zA (zIv (k:=3) (i:=x6.toNat) (a := .hd 4) Tryz.isAgg53 rfl rfl rfl rfl)<|zA (zB rfl) ?_
 refine zA (zB rfl)<|zM h fun b9 h=>zA (zy (f:=(cO 3 1 cI)) (l:=(at_ x5.caches x6).lists) (i:=x2) Tryz.underlying53 Tryz.sizeOf22 rfl rfl rfl b9)<|z5 (zNF (k:=4) (f:=cI) (l:=(at_ x5.caches x6).lists) (i:=x2) rfl b9)<|zd (H':=[.box 26 (zG ⟨[],0,0,[],[]⟩),.box 26 [ls cI x5.nodes,li x5.batch,li x5.high,AV.osl 51 10 (List.map zO x5.zones),AV.hd 3],.vec 3 1 (List.map cI l1),.vopen 55 1 (List.map zp x5.caches) x6.toNat [.hd 4],.vopen 22 1 (List.map (cO 3 1 cI) ((at_ x5.caches x6).lists)) x2.toNat [.hd 2],.vec 3 1 (List.map cI (at_ ((at_ x5.caches x6).lists) x2))]) (zLa (k:=4) (j:=2) (j0:=5) (i:=x2.toNat) Tryz.sizeOf22 rfl rfl rfl rfl rfl)<|zF ?_
 refine zH<|zC<|z5 (zA4 (k:=1) (o:=3) (rows':=List.map zO x5.zones) rfl rfl (zAM (fun _=>rfl)))<|z5 (Rep.trans (zLU (k:=4) (j:=2) (f:=cI) (l:=(at_ x5.caches x6).lists) (l':=l1) rfl rfl rfl) (zN6 (k:=3) (j:=4) (f:=zp) (l:=x5.caches) (z:={ at_ x5.caches x6 with lists:=((at_ x5.caches x6).lists).set x2.toNat l1 }) rfl rfl rfl rfl))<|z5 (z9 (k:=1) (j:=3) (o:=4) rfl rfl rfl rfl)<|z5 (zA4 (k:=1) (o:=4) (rows':=List.map zI (x5.caches.set x6.toNat ({ at_ x5.caches x6 with lists:=((at_ x5.caches x6).lists).set x2.toNat l1 }))) rfl rfl (zDn (fun x=>zCl x))) ?_
 refine zA (zS (k:=1) (o:=0) (m:=5) Tryz.isAgg26 Tryz.sizeOf26 rfl rfl rfl rfl rfl)<|zd (H':=[.box 26 (zG (⟨x5.nodes,x5.batch,x5.high,x5.zones,x5.caches.set x6.toNat ({ at_ x5.caches x6 with lists:=((at_ x5.caches x6).lists).set x2.toNat l1 })⟩:zJ)),.box 26 (zG ⟨x5.nodes,x5.batch,x5.high,x5.zones,(x5.caches.set x6.toNat ({ at_ x5.caches x6 with lists:=((at_ x5.caches x6).lists).set x2.toNat l1 }))⟩),.dead,.dead,.dead,.vec 3 1 (List.map cI (at_ ((at_ x5.caches x6).lists) x2))]) (zT (k:=0) (o:=0) (cs:=(zG ⟨[],0,0,[],[]⟩)) (la:=(zG (⟨x5.nodes,x5.batch,x5.high,x5.zones,x5.caches.set x6.toNat ({ at_ x5.caches x6 with lists:=((at_ x5.caches x6).lists).set x2.toNat l1 })⟩:zJ))) Tryz.sizeOf26 rfl rfl rfl rfl)<|zA (zD rfl)<|zF<|zb ?_
 cases h
 exact zA5 (zDV Tryz.isAgg26 Tryz.sizeOf26 rfl rfl rfl rfl) (zAI rfl rfl) rfl
theorem zOT {B:zJ} {r:zJ} (h:zJI B=some r):PFn Tryz.prog 35 [(AV.agg (zG B))] (AV.agg (zG r)):=by
 refine zm Tryz.func35 rfl Tryz.ntmps35 Tryz.results35 rfl ?_
 unfold zJI at h
 refine zH<|zC<|zX (H':=[.box 26 (zG B)]) (zu (t:=26) rfl)<|zX (H':=[.box 26 (zG B),.box 26 (zG ⟨[],0,0,[],[]⟩)]) zv3<|zF<|zH ?_
 refine zH<|zC<|zA (zS (k:=0) (o:=0) (m:=5) Tryz.isAgg26 Tryz.sizeOf26 rfl rfl rfl rfl rfl)<|zP h fun x1 w1 h=>ze Tryz.func14 rfl (by kernel_rfl) (.fn 14) rfl rfl (zLx w1) rfl<|zA (z7 rfl rfl) ?_
 refine zF ?_
 refine zW h rfl (fun b1 h => ?_) (fun b1 h => ?_)
 ·refine zH<|zC<|zA zOP<|zd (H':=[.box 26 (zG B),.box 26 (zG (⟨([]:List Int),0,0,([]:List zi),([]:List zL)⟩:zJ))]) (zT (k:=1) (o:=0) (cs:=(zG ⟨[],0,0,[],[]⟩)) (la:=(zG (⟨([]:List Int),0,0,([]:List zi),([]:List zL)⟩:zJ))) Tryz.sizeOf26 rfl rfl rfl rfl)<|zF<|zb ?_
  cases h
  exact zv (zDV Tryz.isAgg26 Tryz.sizeOf26 rfl rfl rfl rfl)
 refine zQ<|zH<|zC<|zA (zS (k:=0) (o:=0) (m:=5) Tryz.isAgg26 Tryz.sizeOf26 rfl rfl rfl rfl rfl)<|zP h fun x2 w2 h=>zDg (cs:=[ls cI x2.nodes,li x2.batch,li x2.high,AV.osl 51 10 (List.map zO x2.zones),AV.osl 55 1 (List.map zp x2.caches)]) (la:=[(AV.agg (zG B))]) (la':=[(AV.agg (zG B))]) (S:=[]) Tryz.func59 rfl (by kernel_rfl) (.fn 59) rfl ⟨zAl.nr rfl,trivial⟩ (zL0 w2) (.inl rfl) ?_
 refine z5 (zJC (k:=2) (o:=4) (cs:=[ls cI x2.nodes,li x2.batch,li x2.high,AV.osl 51 10 (List.map zO x2.zones),AV.osl 55 1 (List.map zp x2.caches)]) (rows':=List.map zI x2.caches) rfl rfl (zDn (fun x=>zCl x)))<|zX (H':=[.box 26 (zG B),.box 26 (zG ⟨[],0,0,[],[]⟩),.val (.agg [ls cI x2.nodes,li x2.batch,li x2.high,AV.osl 51 10 (List.map zO x2.zones),AV.osl 55 1 (List.map zI x2.caches)]),.box 26 (zG ⟨[],0,0,[],[]⟩)]) zv3<|zd (H':=[.box 26 (zG B),.box 26 (zG ⟨[],0,0,[],[]⟩),.dead,.box 26 [ls cI x2.nodes,li x2.batch,li x2.high,AV.osl 51 10 (List.map zO x2.zones),AV.osl 55 1 (List.map zI x2.caches)]]) (zBW (k:=3) (o:=0) (j:=2) (cs:=(zG ⟨[],0,0,[],[]⟩)) (la:=[ls cI x2.nodes,li x2.batch,li x2.high,AV.osl 51 10 (List.map zO x2.zones),AV.osl 55 1 (List.map zI x2.caches)]) Tryz.sizeOf26 rfl rfl rfl rfl rfl (by decide))<|zF ?_
 refine zx (r:=r) (fun ((d1,d2,d3,l1,l2):(List Int)×Int×Int×(List zi)×(List zL))=>mkE [(2,(AV.ptr 0 0)),(3,(AV.ptr 1 0))]) (fun (d1,d2,d3,l1,l2)=>[.box 26 (zG ⟨[],0,0,[],[]⟩),.box 26 [ls cI d1,li d2,li d3,AV.osl 51 10 (List.map zO l1),AV.osl 55 1 (List.map zI l2)]]) (fun (d1,d2,d3,l1,l2)=>zJq d1 d2 d3 l1 l2) ?_ ?_
 ·
  refine zH<|zC<|zA (zD rfl)<|zF<|zR<|zt (σ:=Int×(List Int)×Int×Int×(List zi)×(List zL)) (fun (i1,d4,d5,d6,l3,l4)=>mkE [(2,(AV.ptr 0 0)),(3,(AV.ptr 1 0)),(4,(li i1))]) (fun (i1,d4,d5,d6,l3,l4)=>[.box 26 (zG ⟨[],0,0,[],[]⟩),.box 26 [ls cI d4,li d5,li d6,AV.osl 51 10 (List.map zO l3),AV.osl 55 1 (List.map zI l4)]]) (fun n0 (i1,d4,d5,d6,l3,l4)=>zCg n0 i1 d4 d5 d6 l3 l4) (0,x2.nodes,x2.batch,x2.high,x2.zones,x2.caches) h (fun _=>rfl) (zAD [1,3] rfl rfl (by kernel_rfl)) ?_
  clear h
  rintro n0 ⟨i1,d4,d5,d6,l3,l4⟩ h
  replace h:zD3 (zCg n0) i1 d4 d5 d6 l3 l4=some r:=h
  unfold zD3 at h
  refine zH<|zH<|zC<|zA (zB rfl)<|zA (zK Tryz.underlying26 rfl rfl Tryz.sizeOf24 rfl)<|z5 (zAZ (k:=1) (o:=4) (t':=55) (sz:=1) (rows:=List.map zI l4) rfl rfl) ?_
  refine zA (zN Tryz.isAgg24 rfl rfl rfl rfl)<|zA (zCd (f:=zI) (l:=l4) Tryz.underlying24 rfl rfl)<|zA (zh rfl rfl)<|zF ?_
  refine zW h rfl (fun b2 h => ?_) (fun b2 h => ?_)
  ·refine zQ ?_
   refine zx (r:=r) (fun ((d7,d8,d9,l5,l6):(List Int)×Int×Int×(List zi)×(List zL))=>mkE [(2,(AV.ptr 0 0)),(3,(AV.ptr 1 0)),(4,(li i1))]) (fun (d7,d8,d9,l5,l6)=>[.box 26 (zG ⟨[],0,0,[],[]⟩),.box 26 [ls cI d7,li d8,li d9,AV.osl 51 10 (List.map zO l5),AV.osl 55 1 (List.map zI l6)]]) (fun (d7,d8,d9,l5,l6)=>zH9 (zCg n0) i1 d7 d8 d9 l5 l6) ?_ ?_
   ·
    refine zR<|zH<|zC<|zA (zD rfl)<|zF<|zR ?_
    refine zt (σ:=Int×(List Int)×Int×Int×(List zi)×(List zL)) (fun (i2,d10,d11,d12,l7,l8)=>mkE [(2,(AV.ptr 0 0)),(3,(AV.ptr 1 0)),(4,(li i1)),(5,(li i2))]) (fun (i2,d10,d11,d12,l7,l8)=>[.box 26 (zG ⟨[],0,0,[],[]⟩),.box 26 [ls cI d10,li d11,li d12,AV.osl 51 10 (List.map zO l7),AV.osl 55 1 (List.map zI l8)]]) (fun n1 (i2,d10,d11,d12,l7,l8)=>zGO (zCg n0) i1 n1 i2 d10 d11 d12 l7 l8) (0,d4,d5,d6,l3,l4) h (fun _=>rfl) (Rep.trans (z9 (k:=1) (j:=2) (o:=4) rfl rfl rfl rfl) (zAD [0,1] (l:=[(2,(AV.ptr 0 0)),(3,(AV.ptr 1 0)),(4,(li i1)),(5,(li 0))]) rfl rfl (by kernel_rfl))) ?_
    clear h
    rintro n1 ⟨i2,d10,d11,d12,l7,l8⟩ h
    replace h:zEH (zCg n0) i1 (zGO (zCg n0) i1 n1) i2 d10 d11 d12 l7 l8=some r:=h
    unfold zEH at h
    refine zH<|zH<|zC<|zA (zB rfl)<|zA (zK Tryz.underlying26 rfl rfl Tryz.sizeOf23 rfl)<|z5 (zAZ (k:=1) (o:=3) (t':=51) (sz:=10) (rows:=List.map zO l7) rfl rfl) ?_
    refine zA (zN Tryz.isAgg23 rfl rfl rfl rfl)<|zA (zCd (f:=zO) (l:=l7) Tryz.underlying23 rfl rfl)<|zA (zh rfl rfl)<|zF ?_
    refine zW h rfl (fun b4 h => ?_) (fun b4 h => ?_)
    ·refine zQ<|zH<|zR<|zC<|zA (zB rfl)<|zA (zB rfl) ?_
     refine z5 (z9 (k:=1) (j:=2) (o:=3) rfl rfl rfl rfl)<|zP h fun x3 w3 h=>zCu (k:=1) (la:=[AV.ptr 1 0,li i1,li i2]) (la':=[AV.ptr 0 0,li i1,li i2]) (r:=(.tup [])) (S:=[]) (en' := .box 26 [ls cI x3.nodes,li x3.batch,li x3.high,AV.osl 51 10 (List.map zO x3.zones),AV.osl 55 1 (List.map zI x3.caches)]) Tryz.func65 rfl (by kernel_rfl) (.fn 65) rfl ⟨zBs.ptr,zBs.of (zAl.nr rfl),zBs.of (zAl.nr rfl),trivial⟩ rfl rfl (by kernel_rfl) (by kernel_rfl) (zL1 w3) rfl (.inl rfl)<|zF<|zC<|zA (zB rfl) ?_
     refine zM h fun b5 h=>zA (zg rfl rfl b5)<|zA (zD rfl)<|zF ?_
     exact ⟨((i2+1),x3.nodes,x3.batch,x3.high,x3.zones,x3.caches),zAD [0,1] rfl rfl (by kernel_rfl),h⟩
    refine zz ?_
    exact ⟨(d10,d11,d12,l7,l8),Rep.trans (z9 (k:=1) (j:=2) (o:=3) rfl rfl rfl rfl) (zAD [0,1] (l:=[(2,(AV.ptr 0 0)),(3,(AV.ptr 1 0)),(4,(li i1))]) rfl rfl (by kernel_rfl)),h⟩
   clear h
   rintro ⟨d7,d8,d9,l5,l6⟩ h
   unfold zH9 at h
   refine zC<|zA (zB rfl)<|zM h fun b3 h=>zA (zg rfl rfl b3)<|zA (zD rfl)<|zF ?_
   exact ⟨((i1+1),d7,d8,d9,l5,l6),zAD [0,1] rfl rfl (by kernel_rfl),h⟩
  refine zz ?_
  exact ⟨(d4,d5,d6,l3,l4),Rep.trans (z9 (k:=1) (j:=2) (o:=4) rfl rfl rfl rfl) (zAD [0,1] (l:=[(2,(AV.ptr 0 0)),(3,(AV.ptr 1 0))]) rfl rfl (by kernel_rfl)),h⟩
 clear h
 rintro ⟨d1,d2,d3,l1,l2⟩ h
 unfold zJq at h
 refine zH<|zC<|z5 (zA4 (k:=1) (o:=3) (rows':=List.map zO l1) rfl rfl (zAM (fun _=>rfl)))<|z5 (zA4 (k:=1) (o:=4) (rows':=List.map zI l2) rfl rfl (zAM (fun _=>rfl)))<|zA (zS (k:=1) (o:=0) (m:=5) Tryz.isAgg26 Tryz.sizeOf26 rfl rfl rfl rfl rfl)<|zd (H':=[.box 26 (zG (⟨d1,d2,d3,l1,l2⟩:zJ)),.box 26 (zG ⟨d1,d2,d3,l1,l2⟩)]) (zT (k:=0) (o:=0) (cs:=(zG ⟨[],0,0,[],[]⟩)) (la:=(zG (⟨d1,d2,d3,l1,l2⟩:zJ))) Tryz.sizeOf26 rfl rfl rfl rfl) ?_
 refine zF<|zb ?_
 cases h
 exact zv (zDV Tryz.isAgg26 Tryz.sizeOf26 rfl rfl rfl rfl)
theorem zKh {B:zJ} {Q:Int} {r:Bool} (h:zEP B Q=some r):PFn Tryz.prog 8 [(AV.agg (zG B)),li Q] (AV.lit (.bool r)):=by
 refine zm Tryz.func8 rfl Tryz.ntmps8 Tryz.results8 rfl ?_
 unfold zEP at h
 refine zH<|zC<|zX (H':=[.box 26 (zG B)]) (zu (t:=26) rfl)<|zA (zD rfl)<|zF<|zH ?_
 refine zH<|zC<|zP h fun x1 w1 h=>ze Tryz.func9 rfl (by kernel_rfl) (.fn 9) rfl rfl (zLs w1) rfl<|zA (zAv (t:=x1) rfl)<|zA (zB rfl) ?_
 refine zZ rfl rfl (fun c1=>zq.step (zS (k:=0) (o:=0) (m:=5) Tryz.isAgg26 Tryz.sizeOf26 rfl rfl rfl rfl rfl))<|zP h fun x2 w2 h=>zCX (g:=11) (s := !x1) (r':=(AV.lit (.bool x2))) rfl rfl (fun c2=>⟨10,_,_,[],[(AV.agg (zG B))],[(AV.agg (zG B))],(AV.lit (.bool x2)),[],Tryz.func10,rfl,by kernel_rfl,.fn 10,(zAL (z8 rfl c2) rfl),⟨zAl.nr rfl,trivial⟩,zQP (zFy c2 w2),.inl rfl,rfl⟩)<|zZ rfl rfl (fun c3=>zq.step (zAv (t:=x2) (z8 rfl c3)))<|zA (zj rfl rfl)<|zF ?_
 refine zW h rfl (fun b1 h => ?_) (fun b1 h => ?_)
 ·refine zH<|zC<|zP h fun x3 w3 h=>ze Tryz.func9 rfl (by kernel_rfl) (.fn 9) rfl rfl (zLs w3) rfl<|zA (zD rfl)<|zF ?_
  refine zb ?_
  cases h
  exact zv (zAI rfl rfl)
 refine zQ<|zH<|zC<|zA (zS (k:=0) (o:=0) (m:=5) Tryz.isAgg26 Tryz.sizeOf26 rfl rfl rfl rfl rfl)<|zA (zB rfl)<|zP h fun x4 w4 h => ?_
 refine ze Tryz.func32 rfl (by kernel_rfl) (.fn 32) rfl rfl (zMw w4) rfl<|zA (zB rfl)<|zA (za rfl rfl)<|zA (za rfl rfl)<|zX (H':=[.box 26 (zG B),.box 26 (zG ⟨[],0,0,[],[]⟩)]) zv3<|zd (H':=[.box 26 (zG B),.box 26 (zG x4.1)]) (zT (k:=1) (o:=0) (cs:=(zG ⟨[],0,0,[],[]⟩)) (la:=(zG x4.1)) Tryz.sizeOf26 rfl rfl rfl rfl) ?_
 refine zA (zD rfl)<|zF<|zH<|zC<|zA (zS (k:=0) (o:=0) (m:=5) Tryz.isAgg26 Tryz.sizeOf26 rfl rfl rfl rfl rfl)<|zA (zB rfl) ?_
 refine zP h fun x5 w5 h=>ze Tryz.func33 rfl (by kernel_rfl) (.fn 33) rfl rfl (zPC w5) rfl<|zA (zB rfl)<|zA (za rfl rfl)<|zA (za rfl rfl)<|zX (H':=[.box 26 (zG B),.box 26 (zG x4.1),.box 26 (zG ⟨[],0,0,[],[]⟩)]) zv3 ?_
 refine zd (H':=[.box 26 (zG B),.box 26 (zG x4.1),.box 26 (zG x5.1)]) (zT (k:=2) (o:=0) (cs:=(zG ⟨[],0,0,[],[]⟩)) (la:=(zG x5.1)) Tryz.sizeOf26 rfl rfl rfl rfl)<|zA (zD rfl)<|zF<|zH<|zP h fun x6 w6 h=>zP h fun x7 w7 h => ?_
 refine zP h fun x8 w8 h=>zP h fun x9 w9 h => ?_
 refine zAm (n:=44) (m:=0) [.head 0 0,.head 0 0,.head 0 0,.head 0 0,.head 0 0,.head 0 0,.head 0 0,.head 0 0,.head 0 0,.head 0 0,.head 0 0,.head 0 0,.head 0 0,.head 0 0,.head 0 0,.head 0 0] [] [li x4.2,li x5.2,(AV.lit (.bool (decide (x4.2=x5.2)))),(AV.lit (.bool (decide (x4.2=x5.2)))),(bif decide (x4.2=x5.2) then (AV.agg (zG x4.1)) else .lit undef),(bif decide (x4.2=x5.2) then (AV.agg (zG x5.1)) else .lit undef),(bif decide (x4.2=x5.2) then (AV.lit (.bool x6)) else .lit undef),(AV.lit (.bool ((decide (x4.2=x5.2))&&x6))),(AV.lit (.bool ((decide (x4.2=x5.2))&&x6))),(bif (decide (x4.2=x5.2))&&x6 then (AV.agg (zG B)) else .lit undef),(bif (decide (x4.2=x5.2))&&x6 then (AV.agg (zG x7)) else .lit undef),(bif (decide (x4.2=x5.2))&&x6 then (AV.agg (zG B)) else .lit undef),(bif (decide (x4.2=x5.2))&&x6 then (AV.agg (zG x8)) else .lit undef),(bif (decide (x4.2=x5.2))&&x6 then (AV.lit (.bool x9)) else .lit undef),(AV.lit (.bool (((decide (x4.2=x5.2))&&x6)&&x9))),(AV.lit (.bool (((decide (x4.2=x5.2))&&x6)&&x9)))] [[.box 26 (zG B),.box 26 (zG x4.1),.box 26 (zG x5.1)]] (by kernel_rfl) (by kernel_rfl) ⟨D1 fun e s p=>zB (s 6 rfl),D1 fun e s p=>zB (s 8 rfl),D1 fun e s p=>zA8 (a:=x4.2) (b:=x5.2) p.1 p.2.1,D1 fun e s p=>zB p.1,?_,?_,?_,D1 fun e s p=>z6 (s:=decide (x4.2=x5.2)) (q:=x6) (j := .lit undef) p.1 p.2.1,D1 fun e s p=>zB p.1,?_,?_,?_,?_,?_,D1 fun e s p=>z6 (s:=(decide (x4.2=x5.2))&&x6) (q:=x9) (j := .lit undef) p.1 p.2.1,D1 fun e s p=>zD p.2.2.2.2.2.2.2.2.2.2.2.2.2.2.2.2.1,trivial⟩ ?_
 ·
  intro e5 s5 p5
  refine zo (g:=32) (s:=decide (x4.2=x5.2)) rfl p5.1 (fun c12=>zq.step (zS (k:=1) (o:=0) (m:=5) (la:=(zG x4.1)) Tryz.isAgg26 Tryz.sizeOf26 (s5 5 rfl) rfl rfl rfl rfl)) ?_
  exact zF ⟨fun _=>rfl,rfl⟩
 ·
  intro e6 s6 p6
  refine zo (g:=32) (s:=decide (x4.2=x5.2)) rfl p6.1 (fun c13=>zq.step (zS (k:=2) (o:=0) (m:=5) (la:=(zG x5.1)) Tryz.isAgg26 Tryz.sizeOf26 (s6 7 rfl) rfl rfl rfl rfl)) ?_
  exact zF ⟨fun _=>rfl,rfl⟩
 ·
  intro e7 s7 p7
  refine zCU (g:=32) (s:=decide (x4.2=x5.2)) (r':=(AV.lit (.bool x6))) rfl p7.2.2.2.1 (fun c14=>⟨25,_,_,[],[(AV.agg (zG x4.1)),(AV.agg (zG x5.1))],[(AV.agg (zG x4.1)),(AV.agg (zG x5.1))],(AV.lit (.bool x6)),[],Tryz.func25,rfl,by kernel_rfl,.fn 25,(zAL (z8 p7.1 c14) (zAL (z8 p7.2.1 c14) rfl)),⟨zAl.nr rfl,zAl.nr rfl,trivial⟩,zKX (zFy c14 w6),.inl rfl,rfl⟩) ?_
  exact zF ⟨fun _=>rfl,rfl⟩
 ·
  intro e10 s10 p10
  refine zo (g:=37) (s:=(decide (x4.2=x5.2))&&x6) rfl p10.1 (fun c15=>zq.step (zS (k:=0) (o:=0) (m:=5) (la:=(zG B)) Tryz.isAgg26 Tryz.sizeOf26 (s10 2 rfl) rfl rfl rfl rfl)) ?_
  exact zF ⟨fun _=>rfl,rfl⟩
 ·
  intro e11 s11 p11
  refine zCU (g:=37) (s:=(decide (x4.2=x5.2))&&x6) (r':=(AV.agg (zG x7))) rfl p11.2.2.1 (fun c16=>⟨34,_,_,[],[(AV.agg (zG B))],[(AV.agg (zG B))],(AV.agg (zG x7)),[],Tryz.func34,rfl,by kernel_rfl,.fn 34,(zAL (z8 p11.1 c16) rfl),⟨zAl.nr rfl,trivial⟩,zJf (zFy c16 w7),.inl rfl,rfl⟩) ?_
  exact zF ⟨fun _=>rfl,rfl⟩
 ·
  intro e12 s12 p12
  refine zo (g:=37) (s:=(decide (x4.2=x5.2))&&x6) rfl p12.1 (fun c17=>zq.step (zS (k:=0) (o:=0) (m:=5) (la:=(zG B)) Tryz.isAgg26 Tryz.sizeOf26 (s12 2 rfl) rfl rfl rfl rfl)) ?_
  exact zF ⟨fun _=>rfl,rfl⟩
 ·
  intro e13 s13 p13
  refine zCU (g:=37) (s:=(decide (x4.2=x5.2))&&x6) (r':=(AV.agg (zG x8))) rfl p13.2.2.1 (fun c18=>⟨35,_,_,[],[(AV.agg (zG B))],[(AV.agg (zG B))],(AV.agg (zG x8)),[],Tryz.func35,rfl,by kernel_rfl,.fn 35,(zAL (z8 p13.1 c18) rfl),⟨zAl.nr rfl,trivial⟩,zOT (zFy c18 w8),.inl rfl,rfl⟩) ?_
  exact zF ⟨fun _=>rfl,rfl⟩
 ·
  intro e14 s14 p14
  refine zCU (g:=37) (s:=(decide (x4.2=x5.2))&&x6) (r':=(AV.lit (.bool x9))) rfl p14.2.2.2.1 (fun c19=>⟨25,_,_,[],[(AV.agg (zG x7)),(AV.agg (zG x8))],[(AV.agg (zG x7)),(AV.agg (zG x8))],(AV.lit (.bool x9)),[],Tryz.func25,rfl,by kernel_rfl,.fn 25,(zAL (z8 p14.1 c19) (zAL (z8 p14.2.2.1 c19) rfl)),⟨zAl.nr rfl,zAl.nr rfl,trivial⟩,zKX (zFy c19 w9),.inl rfl,rfl⟩) ?_
  exact zF ⟨fun _=>rfl,rfl⟩
 intro e17 s17 hq1
 refine zAS (zBI (l:=[(4,(AV.lit (.bool (((decide (x4.2=x5.2))&&x6)&&x9))))]) ⟨(hq1 15 (by decide) (by decide)),trivial⟩)<|zb ?_
 cases h
 exact zv (zAI rfl rfl)
end Go.Proofs.YtplkliakhdkpcaaGreat
