/-
  Rules, functions and laws for the last text, part d.
-/
import Derived.Test.YtplkliakhdkpcaaGreatGc
set_option linter.unusedVariables false
set_option linter.unusedSimpArgs false
namespace Go.Proofs.YtplkliakhdkpcaaGreat
open Go Go.RowKit Go.Wk Go.Am Go.Proofs
set_option maxHeartbeats 4000000
theorem zLe {A:zj} {D:Int} {r:zj×Int×Int} (h:zH2 A D=some r):PFn Tryz.prog 64 [(AV.agg (zO A)),li D] (AV.tup [(AV.agg (zO r.1)),li r.2.1,li r.2.2]):=by
 refine zo Tryz.func64 rfl Tryz.ntmps64 Tryz.results64 rfl ?_
 unfold zH2 at h
 refine zH<|zC<|za (H':=[.box 51 (zO A)]) (zv (t:=51) rfl)<|za (H':=[.box 51 (zO A),.box 51 (zO ⟨0,0,0,0,0,(List.replicate 5 ([]:List Int))⟩)]) zv0<|zA (zD rfl)<|zA (zD rfl) ?_
 refine zF<|zH<|zH<|zC<|zA (zT (k:=0) (o:=0) (m:=10) Tryz.isAgg51 Tryz.sizeOf51 rfl rfl rfl rfl rfl)<|zR h fun x1 w1 h => ?_
 refine zh Tryz.func42 rfl (by kernel_rfl) (.fn 42) rfl rfl (zFO w1) rfl<|zA (zD rfl)<|zF<|zH<|zC<|zA (zB rfl) ?_
 refine zA (zz rfl rfl)<|zF ?_
 refine zY h rfl (fun b1 h => ?_) (fun b1 h => ?_)
 ·refine zH<|zC<|zA zv9<|zA (zB rfl)<|zi (H':=[.box 51 (zO A),.box 51 (zO (⟨0,0,0,0,0,(List.replicate 5 ([]:List Int))⟩:zj))]) (zZ (k:=1) (o:=0) (cs:=(zO ⟨0,0,0,0,0,(List.replicate 5 ([]:List Int))⟩)) (la:=(zO (⟨0,0,0,0,0,(List.replicate 5 ([]:List Int))⟩:zj))) Tryz.sizeOf51 rfl rfl rfl rfl)<|zA (zD rfl) ?_
  refine zA (zD rfl)<|zF<|zb ?_
  cases h
  exact zCW (zFc Tryz.isAgg51 Tryz.sizeOf51 rfl rfl rfl rfl) (zAH rfl rfl) (zAH rfl rfl) rfl
 refine zP<|zH<|zH<|zC<|zA (zB rfl)<|zA (zf rfl rfl) ?_
 refine zA (zB rfl)<|zX rfl rfl (fun c1=>zp.step (zB rfl))<|zX rfl rfl (fun c2=>zp.step (zAc (z6 rfl c2) rfl))<|zA (zg rfl rfl)<|zF ?_
 refine zY h rfl (fun b2 h => ?_) (fun b2 h => ?_)
 ·refine zH<|zC<|zA zv9<|zi (H':=[.box 51 (zO A),.box 51 (zO (⟨0,0,0,0,0,(List.replicate 5 ([]:List Int))⟩:zj))]) (zZ (k:=1) (o:=0) (cs:=(zO ⟨0,0,0,0,0,(List.replicate 5 ([]:List Int))⟩)) (la:=(zO (⟨0,0,0,0,0,(List.replicate 5 ([]:List Int))⟩:zj))) Tryz.sizeOf51 rfl rfl rfl rfl)<|zA (zD rfl)<|zA (zD rfl) ?_
  refine zF<|zb ?_
  cases h
  exact zCW (zFc Tryz.isAgg51 Tryz.sizeOf51 rfl rfl rfl rfl) (zAH rfl rfl) (zAH rfl rfl) rfl
 refine zP<|zH<|zC<|zA (zB rfl)<|zA (zD rfl)<|zF ?_
 refine zu (r:=r) (fun (i1:Int)=>mkE [(1,(li D)),(2,(AV.ptr 0 0)),(4,(AV.ptr 1 0)),(8,(li i1))]) (fun i1=>[.box 51 (zO A),.box 51 (zO ⟨0,0,0,0,0,(List.replicate 5 ([]:List Int))⟩)]) (fun i1=>zGb A D i1) ?_ ?_
 ·
  refine zQ<|zq (σ:=Int) (fun i3=>mkE [(1,(li D)),(2,(AV.ptr 0 0)),(4,(AV.ptr 1 0)),(8,(li i3))]) (fun i3=>[.box 51 (zO A),.box 51 (zO ⟨0,0,0,0,0,(List.replicate 5 ([]:List Int))⟩)]) (fun n1 i3=>zGp A D n1 i3) D h (fun _=>rfl) (z8 [0,1] rfl rfl (by kernel_rfl)) ?_
  clear h
  intro n1 i3 h
  replace h:zD3 A D (zGp A D n1) i3=some r:=h
  unfold zD3 at h
  refine zH<|zH<|zC<|zA (zB rfl)<|zA (zCr rfl rfl)<|zA (zB rfl) ?_
  refine zm rfl rfl (fun c3=>zp.step (zB rfl))<|zm rfl rfl (fun c4=>zp.step (zK Tryz.underlying51 rfl rfl Tryz.sizeOf49 rfl))<|zM h fun b17 h=>zm rfl rfl (fun c5=>zp.step (zAO (m:=5) (s:=1) (i:=i3) (k:=0) (o:=5) Tryz.underlying49 Tryz.sizeOf22 (z6 rfl c5) (z6 rfl c5) (zHT b17 c5)))<|zm rfl rfl (fun c6=>zp.step (zAk (k:=0) (o:=(5+i3.toNat*1)) (cs:=(zO A)) (hd:=([li A.node]++[li A.kind]++[li A.start]++[li A.count]++[li A.min]++[])) (tl:=([])) (g:=(eS cI)) (d0:=([]:List Int)) (l:=A.free) (N:=5) (i:=i3.toNat) (a:=(ls cI (A.free.getD i3.toNat ([]:List Int)))) Tryz.isAgg22 (z6 rfl c6) rfl rfl (congrArg (fun q=>5+q) (Nat.mul_one _)) (zBS (zHT b17 c6)).2 rfl rfl))<|zm rfl rfl (fun c7=>zp.step (zW Tryz.underlying22 (z6 rfl c7))) ?_
  refine zm rfl rfl (fun c8=>zp.step (zAz (z6 rfl c8) rfl))<|zA (zy (j := .lit undef) rfl rfl)<|zF ?_
  refine zY h rfl (fun b18 h => ?_) (fun b18 h => ?_)
  ·refine zP<|zQ<|zC<|zA (zB rfl)<|zM h fun b19 h=>zA (ze rfl rfl b19) ?_
   refine zA (zD rfl)<|zF ?_
   exact ⟨(i3+1),z8 [0,1] rfl rfl (by kernel_rfl),h⟩
  refine zx ?_
  exact ⟨i3,z8 [0,1] rfl rfl (by kernel_rfl),h⟩
 clear h
 intro i1 h
 unfold zGb at h
 refine zH<|zH<|zC<|zA (zB rfl)<|zA (zAc rfl rfl)<|zF ?_
 refine zY h rfl (fun b3 h => ?_) (fun b3 h => ?_)
 ·refine zH<|zC<|zA zv9<|zi (H':=[.box 51 (zO A),.box 51 (zO (⟨0,0,0,0,0,(List.replicate 5 ([]:List Int))⟩:zj))]) (zZ (k:=1) (o:=0) (cs:=(zO ⟨0,0,0,0,0,(List.replicate 5 ([]:List Int))⟩)) (la:=(zO (⟨0,0,0,0,0,(List.replicate 5 ([]:List Int))⟩:zj))) Tryz.sizeOf51 rfl rfl rfl rfl)<|zA (zD rfl)<|zA (zD rfl) ?_
  refine zF<|zb ?_
  cases h
  exact zCW (zFc Tryz.isAgg51 Tryz.sizeOf51 rfl rfl rfl rfl) (zAH rfl rfl) (zAH rfl rfl) rfl
 refine zP<|zH<|zC<|zA (zT (k:=0) (o:=0) (m:=10) Tryz.isAgg51 Tryz.sizeOf51 rfl rfl rfl rfl rfl)<|zR h fun x2 w2 h=>zGX (cs:=([li x2.node,li x2.kind,li x2.start,li x2.count,li x2.min]++((cM 5 3 (5:Int) x2.free)++[]))) (la:=[(AV.agg (zO A))]) (la':=[(AV.agg (zO A))]) (S:=[]) Tryz.func118 rfl (by kernel_rfl) (.fn 118) rfl ⟨zAx.nr rfl,trivial⟩ (zLc w2) (.inl rfl) ?_
 refine za (H':=[.box 51 (zO A),.box 51 (zO ⟨0,0,0,0,0,(List.replicate 5 ([]:List Int))⟩),.val (.agg ([li x2.node,li x2.kind,li x2.start,li x2.count,li x2.min]++((cM 5 3 (5:Int) x2.free)++[]))),.box 51 (zO ⟨0,0,0,0,0,(List.replicate 5 ([]:List Int))⟩)]) zv0<|zi (H':=[.box 51 (zO A),.box 51 (zO ⟨0,0,0,0,0,(List.replicate 5 ([]:List Int))⟩),.dead,.box 51 ([li x2.node,li x2.kind,li x2.start,li x2.count,li x2.min]++((cM 5 3 (5:Int) x2.free)++[]))]) (zCL (k:=3) (o:=0) (j:=2) (cs:=(zO ⟨0,0,0,0,0,(List.replicate 5 ([]:List Int))⟩)) (la:=([li x2.node,li x2.kind,li x2.start,li x2.count,li x2.min]++((cM 5 3 (5:Int) x2.free)++[]))) Tryz.sizeOf51 rfl rfl rfl rfl rfl (by decide))<|zF<|zH<|zC<|zA (zB rfl) ?_
 refine zA (zK Tryz.underlying51 rfl rfl Tryz.sizeOf49 rfl)<|zM h fun b4 h=>zA (zAO (m:=5) (s:=1) (i:=i1) (k:=3) (o:=5) Tryz.underlying49 Tryz.sizeOf22 rfl rfl b4)<|zM h fun b5 h=>zAC (zKF (k:=3) (cs:=([li x2.node,li x2.kind,li x2.start,li x2.count,li x2.min]++((cM 5 3 (5:Int) x2.free)++[]))) (hd:=([li x2.node]++[li x2.kind]++[li x2.start]++[li x2.count]++[li x2.min]++[])) (tl:=([])) (N:=5) (T:=3) (K:=5) (l:=x2.free) (i:=i1) rfl rfl b4 b5)<|zA (zFR (k:=3) (o:=(5+i1.toNat*1)) (cs:=([li x2.node,li x2.kind,li x2.start,li x2.count,li x2.min]++((List.set (cM 5 3 (5:Int) x2.free) i1.toNat (AV.hd 4))++[]))) (hd:=([li x2.node]++[li x2.kind]++[li x2.start]++[li x2.count]++[li x2.min]++[])) (tl:=([])) (s:=(cM 5 3 (5:Int) x2.free)) (i:=i1) (j:=4) Tryz.isAgg22 rfl rfl rfl (congrArg (fun q=>5+q) (Nat.mul_one _)) (zI1 b4)) ?_
 refine zM h fun b6 h=>zA (z5 (f:=cI) (l:=x2.free.getD i1.toNat []) (i:=0) Tryz.underlying22 Tryz.sizeOf3 rfl rfl rfl b6)<|zA (zA1 (f:=cI) (l:=x2.free.getD i1.toNat []) (i:=0) (c:=0) (a:=(li (at_ (x2.free.getD i1.toNat []) (0:Int)))) Tryz.isAgg3 rfl rfl (by first | rfl | omega) b6 rfl rfl)<|zA (zD rfl)<|zF<|zH ?_
 refine zC<|zA (zB rfl)<|zA (zB rfl)<|zA (zK Tryz.underlying51 rfl rfl Tryz.sizeOf49 rfl)<|zA (zAO (m:=5) (s:=1) (i:=i1) (k:=3) (o:=5) Tryz.underlying49 Tryz.sizeOf22 rfl rfl b4)<|zA (zFR (k:=3) (o:=(5+i1.toNat*1)) (cs:=([li x2.node,li x2.kind,li x2.start,li x2.count,li x2.min]++((List.set (cM 5 3 (5:Int) x2.free) i1.toNat (AV.hd 4))++[]))) (hd:=([li x2.node]++[li x2.kind]++[li x2.start]++[li x2.count]++[li x2.min]++[])) (tl:=([])) (s:=(cM 5 3 (5:Int) x2.free)) (i:=i1) (j:=4) Tryz.isAgg22 rfl rfl rfl (congrArg (fun q=>5+q) (Nat.mul_one _)) (zI1 b4)) ?_
 refine zAC (zDc (j:=4) (ds:=[48,55]) (rows':=List.map cI (x2.free.getD i1.toNat [])) rfl (zAK (fun _=>rfl)) ⟨rfl,rfl,trivial⟩)<|zM h fun b7 h=>zA (zPk (lo:=1) (f:=cI) (l:=x2.free.getD i1.toNat []) Tryz.underlying22 Tryz.sizeOf3 (fun _=>rfl) rfl rfl b7)<|zA (zK Tryz.underlying51 rfl rfl Tryz.sizeOf49 rfl)<|zA (zAO (m:=5) (s:=1) (i:=i1) (k:=3) (o:=5) Tryz.underlying49 Tryz.sizeOf22 rfl rfl b4)<|zM h fun b8 h => ?_
 refine zi (H':=[.box 51 (zO A),.box 51 (zO ⟨0,0,0,0,0,(List.replicate 5 ([]:List Int))⟩),.dead,.box 51 ([li x2.node,li x2.kind,li x2.start,li x2.count,li x2.min]++((List.set (cM 5 3 (5:Int) x2.free) i1.toNat (ls cI (zHt (x2.free.getD i1.toNat []) 1 ((x2.free.getD i1.toNat []).length:Int))))++[])),.dead]) (zIY (k:=3) (o:=(5+i1.toNat*1)) (cs:=([li x2.node,li x2.kind,li x2.start,li x2.count,li x2.min]++((List.set (cM 5 3 (5:Int) x2.free) i1.toNat (AV.hd 4))++[]))) (hd:=([li x2.node]++[li x2.kind]++[li x2.start]++[li x2.count]++[li x2.min]++[])) (tl:=([])) (s:=(cM 5 3 (5:Int) x2.free)) (i:=i1) (a:=(ls cI (zHt (x2.free.getD i1.toNat []) 1 ((x2.free.getD i1.toNat []).length:Int)))) Tryz.sizeOf22 rfl rfl rfl (congrArg (fun q=>5+q) (Nat.mul_one _)) (zI1 b4) rfl rfl)<|zF ?_
 refine zu (r:=r) (fun (l1:List (List Int))=>mkE [(4,(AV.ptr 0 0)),(9,(AV.ptr 1 0)),(10,(li (at_ (x2.free.getD i1.toNat []) (0:Int))))]) (fun l1=>[.box 51 (zO ⟨0,0,0,0,0,(List.replicate 5 ([]:List Int))⟩),.box 51 ([li x2.node,li x2.kind,li x2.start,li x2.count,li x2.min]++((cM 5 3 i1 l1)++[]))]) (fun l1=>zH9 i1 x2 l1) ?_ ?_
 ·
  refine zQ<|zq (σ:=Int×(List (List Int))) (fun (i2,l2)=>mkE [(1,(li D)),(4,(AV.ptr 0 0)),(8,(li i2)),(9,(AV.ptr 1 0)),(10,(li (at_ (x2.free.getD i1.toNat []) (0:Int))))]) (fun (i2,l2)=>[.box 51 (zO ⟨0,0,0,0,0,(List.replicate 5 ([]:List Int))⟩),.box 51 ([li x2.node,li x2.kind,li x2.start,li x2.count,li x2.min]++((cM 5 3 i1 l2)++[]))]) (fun n0 (i2,l2)=>zFS D i1 x2 n0 i2 l2) (i1,(zEc 5 [] x2.free i1.toNat (zHt (x2.free.getD i1.toNat []) 1 ((x2.free.getD i1.toNat []).length:Int)))) h (fun _=>rfl) (Rep.trans (zSr (l':=zHt (x2.free.getD i1.toNat []) 1 ((x2.free.getD i1.toNat []).length:Int)) (k:=3) (cs:=([li x2.node,li x2.kind,li x2.start,li x2.count,li x2.min]++((List.set (cM 5 3 (5:Int) x2.free) i1.toNat (ls cI (zHt (x2.free.getD i1.toNat []) 1 ((x2.free.getD i1.toNat []).length:Int))))++[]))) (hd:=([li x2.node]++[li x2.kind]++[li x2.start]++[li x2.count]++[li x2.min]++[])) (tl:=([])) (N:=5) (T:=3) (K:=5) (l:=x2.free) (i:=i1) rfl rfl b4 b8) (zBz (n:=90) (m:=0) [1,3] (l:=[(1,(li D)),(4,(AV.ptr 0 0)),(8,(li i1)),(9,(AV.ptr 1 0)),(10,(li (at_ (x2.free.getD i1.toNat []) (0:Int))))]) ⟨⟨Sub.refl _,by kernel_rfl⟩,⟨Sub.refl _,by kernel_rfl⟩,⟨Sub.refl _,by kernel_rfl⟩,⟨Sub.refl _,by kernel_rfl⟩,⟨Sub.refl _,by kernel_rfl⟩,trivial⟩ rfl rfl ⟨⟨rfl,by kernel_rfl⟩,⟨rfl,zTQ (hd:=([li x2.node]++[li x2.kind]++[li x2.start]++[li x2.count]++[li x2.min]++[])) (tl:=([])) (N:=5) (T:=3) (K:=i1) (l:=zEc 5 [] x2.free i1.toNat (zHt (x2.free.getD i1.toNat []) 1 ((x2.free.getD i1.toNat []).length:Int))) (by kernel_rfl) (by kernel_rfl) rfl⟩,trivial⟩)) ?_
  clear h
  rintro n0 ⟨i2,l2⟩ h
  replace h:zEH D i1 x2 (zFS D i1 x2 n0) i2 l2=some r:=h
  unfold zEH at h
  refine zH<|zH<|zC<|zA (zB rfl)<|zA (zB rfl)<|zA (zAc rfl rfl) ?_
  refine zF ?_
  refine zY h rfl (fun b9 h => ?_) (fun b9 h => ?_)
  ·refine zP<|zQ<|zH<|zC<|zA (zB rfl)<|zM h fun b10 h => ?_
   refine zA (zBU rfl rfl b10)<|zA (zD rfl)<|zF<|zH<|zC<|zA (zB rfl) ?_
   refine zA (zB rfl)<|zM h fun b11 h=>zM h fun b12 h=>zA (zDA (a:=1) (b:=i2 - 1) rfl rfl b11 b12)<|zM h fun b13 h=>zA (ze rfl rfl b13) ?_
   refine zA (zD rfl)<|zF<|zH<|zC<|zA (zB rfl)<|zA (zK Tryz.underlying51 rfl rfl Tryz.sizeOf49 rfl) ?_
   refine zM h fun b14 h=>zA (zAO (m:=5) (s:=1) (i:=i2 - 1) (k:=1) (o:=5) Tryz.underlying49 Tryz.sizeOf22 rfl rfl b14)<|zM h fun b15 h=>zAC (zKF (k:=1) (cs:=([li x2.node,li x2.kind,li x2.start,li x2.count,li x2.min]++((cM 5 3 i1 l2)++[]))) (hd:=([li x2.node]++[li x2.kind]++[li x2.start]++[li x2.count]++[li x2.min]++[])) (tl:=([])) (N:=5) (T:=3) (K:=i1) (l:=l2) (i:=i2 - 1) rfl rfl b14 b15)<|zA (zFR (k:=1) (o:=(5+(i2 - 1).toNat*1)) (cs:=([li x2.node,li x2.kind,li x2.start,li x2.count,li x2.min]++((List.set (cM 5 3 i1 l2) (i2 - 1).toNat (AV.hd 2))++[]))) (hd:=([li x2.node]++[li x2.kind]++[li x2.start]++[li x2.count]++[li x2.min]++[])) (tl:=([])) (s:=(cM 5 3 i1 l2)) (i:=i2 - 1) (j:=2) Tryz.isAgg22 rfl rfl rfl (congrArg (fun q=>5+q) (Nat.mul_one _)) (zI1 b14))<|zA (zB rfl) ?_
   refine zR h fun x3 w3 h=>zA7 (r':=(AV.tup [li x3.1,(AV.lit (.bool x3.2))])) (la:=[AV.hd 2,(li ((at_ (x2.free.getD i1.toNat []) (0:Int))+((1:Int)*2 ^ (i2 - 1).toNat)))]) (la':=[(ls cI (l2.getD (i2 - 1).toNat [])),(li ((at_ (x2.free.getD i1.toNat []) (0:Int))+((1:Int)*2 ^ (i2 - 1).toNat)))]) (r:=(AV.tup [li x3.1,(AV.lit (.bool x3.2))])) (S:=[2]) Tryz.func87 rfl (by kernel_rfl) (.fn 87) rfl ⟨zJc (fun _=>rfl) rfl rfl,zAx.nr rfl,trivial⟩ (zBB w3) (.inr rfl) rfl<|zA (zB rfl)<|zA (zd rfl rfl)<|zA (zd rfl rfl)<|zA (zD rfl) ?_
   refine zA (zD rfl)<|zF<|zC<|zA (zB rfl)<|zA (zB rfl)<|zA (zK Tryz.underlying51 rfl rfl Tryz.sizeOf49 rfl) ?_
   refine zA (zAO (m:=5) (s:=1) (i:=i2 - 1) (k:=1) (o:=5) Tryz.underlying49 Tryz.sizeOf22 rfl rfl b14)<|zA (zFR (k:=1) (o:=(5+(i2 - 1).toNat*1)) (cs:=([li x2.node,li x2.kind,li x2.start,li x2.count,li x2.min]++((List.set (cM 5 3 i1 l2) (i2 - 1).toNat (AV.hd 2))++[]))) (hd:=([li x2.node]++[li x2.kind]++[li x2.start]++[li x2.count]++[li x2.min]++[])) (tl:=([])) (s:=(cM 5 3 i1 l2)) (i:=i2 - 1) (j:=2) Tryz.isAgg22 rfl rfl rfl (congrArg (fun q=>5+q) (Nat.mul_one _)) (zI1 b14))<|zA (zB rfl)<|zA (zB rfl)<|zEe (a:=(li ((at_ (x2.free.getD i1.toNat []) (0:Int))+((1:Int)*2 ^ (i2 - 1).toNat)))) zFK Tryz.underlying22 rfl rfl rfl rfl<|zM h fun b16 h => ?_
   refine zOL (k:=2) (j:=3) (l:=l2.getD (i2 - 1).toNat []) (i:=x3.1) (q:=(at_ (x2.free.getD i1.toNat []) (0:Int))+((1:Int)*2 ^ (i2 - 1).toNat)) (fun a b c d e=>zSW a b c d e) Tryz.func119 rfl (by kernel_rfl) rfl rfl rfl rfl rfl rfl b16<|zA (zK Tryz.underlying51 rfl rfl Tryz.sizeOf49 rfl)<|zA (zAO (m:=5) (s:=1) (i:=i2 - 1) (k:=1) (o:=5) Tryz.underlying49 Tryz.sizeOf22 rfl rfl b14)<|zi (H':=[.box 51 (zO ⟨0,0,0,0,0,(List.replicate 5 ([]:List Int))⟩),.box 51 ([li x2.node,li x2.kind,li x2.start,li x2.count,li x2.min]++((List.set (cM 5 3 i1 l2) (i2 - 1).toNat (AV.hd 4))++[])),.dead,.vec 3 1 (List.map cI [(at_ (x2.free.getD i1.toNat []) (0:Int))+((1:Int)*2 ^ (i2 - 1).toNat)]),.vec 3 1 (List.map cI (zSM (l2.getD (i2 - 1).toNat []) x3.1 ((at_ (x2.free.getD i1.toNat []) (0:Int))+((1:Int)*2 ^ (i2 - 1).toNat))))]) (zIY (k:=1) (o:=(5+(i2 - 1).toNat*1)) (cs:=([li x2.node,li x2.kind,li x2.start,li x2.count,li x2.min]++((List.set (cM 5 3 i1 l2) (i2 - 1).toNat (AV.hd 2))++[]))) (hd:=([li x2.node]++[li x2.kind]++[li x2.start]++[li x2.count]++[li x2.min]++[])) (tl:=([])) (s:=(cM 5 3 i1 l2)) (i:=i2 - 1) (a:=(AV.hd 4)) Tryz.sizeOf22 rfl rfl rfl (congrArg (fun q=>5+q) (Nat.mul_one _)) (zI1 b14) rfl rfl)<|zF ?_
   exact ⟨((i2 - 1),(zEc 5 [] l2 (i2 - 1).toNat (zSM (l2.getD (i2 - 1).toNat []) x3.1 ((at_ (x2.free.getD i1.toNat []) (0:Int))+((1:Int)*2 ^ (i2 - 1).toNat))))),Rep.trans (zKN (j:=4) (l':=zSM (l2.getD (i2 - 1).toNat []) x3.1 ((at_ (x2.free.getD i1.toNat []) (0:Int))+((1:Int)*2 ^ (i2 - 1).toNat))) (k:=1) (cs:=([li x2.node,li x2.kind,li x2.start,li x2.count,li x2.min]++((List.set (cM 5 3 i1 l2) (i2 - 1).toNat (AV.hd 4))++[]))) (hd:=([li x2.node]++[li x2.kind]++[li x2.start]++[li x2.count]++[li x2.min]++[])) (tl:=([])) (N:=5) (T:=3) (K:=i1) (l:=l2) (i:=i2 - 1) rfl rfl b14 b15 rfl rfl) (zBz (n:=90) (m:=0) [0,1] (l:=[(1,(li D)),(4,(AV.ptr 0 0)),(8,(li (i2 - 1))),(9,(AV.ptr 1 0)),(10,(li (at_ (x2.free.getD i1.toNat []) (0:Int))))]) ⟨⟨Sub.refl _,by kernel_rfl⟩,⟨Sub.refl _,by kernel_rfl⟩,⟨Sub.refl _,by kernel_rfl⟩,⟨Sub.refl _,by kernel_rfl⟩,⟨Sub.refl _,by kernel_rfl⟩,trivial⟩ rfl rfl ⟨⟨rfl,by kernel_rfl⟩,⟨rfl,zTQ (hd:=([li x2.node]++[li x2.kind]++[li x2.start]++[li x2.count]++[li x2.min]++[])) (tl:=([])) (N:=5) (T:=3) (K:=i1) (l:=zEc 5 [] l2 (i2 - 1).toNat (zSM (l2.getD (i2 - 1).toNat []) x3.1 ((at_ (x2.free.getD i1.toNat []) (0:Int))+((1:Int)*2 ^ (i2 - 1).toNat)))) (by kernel_rfl) (by kernel_rfl) rfl⟩,trivial⟩),h⟩
  refine zx ?_
  exact ⟨l2,zBz (n:=90) (m:=0) [0,1] (l:=[(4,(AV.ptr 0 0)),(9,(AV.ptr 1 0)),(10,(li (at_ (x2.free.getD i1.toNat []) (0:Int))))]) ⟨⟨Sub.refl _,by kernel_rfl⟩,⟨Sub.refl _,by kernel_rfl⟩,⟨Sub.refl _,by kernel_rfl⟩,trivial⟩ rfl rfl ⟨⟨rfl,by kernel_rfl⟩,⟨rfl,zTQ (hd:=([li x2.node]++[li x2.kind]++[li x2.start]++[li x2.count]++[li x2.min]++[])) (tl:=([])) (N:=5) (T:=3) (K:=i1) (l:=l2) (by kernel_rfl) (by kernel_rfl) rfl⟩,trivial⟩,h⟩
 clear h
 intro l1 h
 unfold zH9 at h
 refine zH<|zC<|zAC (zK6 (k:=1) (cs:=([li x2.node,li x2.kind,li x2.start,li x2.count,li x2.min]++((cM 5 3 i1 l1)++[]))) (hd:=([li x2.node]++[li x2.kind]++[li x2.start]++[li x2.count]++[li x2.min]++[])) (tl:=([])) (N:=5) (T:=3) (K:=i1) (l:=l1) rfl rfl)<|zA (zT (k:=1) (o:=0) (m:=10) Tryz.isAgg51 Tryz.sizeOf51 rfl rfl rfl rfl rfl)<|zA (zB rfl)<|zi (H':=[.box 51 (zO (⟨x2.node,x2.kind,x2.start,x2.count,x2.min,l1⟩:zj)),.box 51 (zO ⟨x2.node,x2.kind,x2.start,x2.count,x2.min,l1⟩)]) (zZ (k:=0) (o:=0) (cs:=(zO ⟨0,0,0,0,0,(List.replicate 5 ([]:List Int))⟩)) (la:=(zO (⟨x2.node,x2.kind,x2.start,x2.count,x2.min,l1⟩:zj))) Tryz.sizeOf51 rfl rfl rfl rfl) ?_
 refine zA (zD rfl)<|zA (zD rfl)<|zF<|zb ?_
 cases h
 exact zCW (zFc Tryz.isAgg51 Tryz.sizeOf51 rfl rfl rfl rfl) (zAH rfl rfl) (zAH rfl rfl) rfl
theorem zHq {J:zL} {M:Int} {r:Int} (h:zEu J M=some r):PFn Tryz.prog 111 [(AV.agg (zG J)),li M] (li r):=by
 refine zo Tryz.func111 rfl Tryz.ntmps111 Tryz.results111 rfl ?_
 unfold zEu at h
 refine zH<|zC<|za (H':=[.box 55 (zG J)]) (zv (t:=55) rfl)<|zA (zD rfl)<|zF<|zH ?_
 refine zH<|zC<|zA (zT (k:=0) (o:=0) (m:=1) Tryz.isAgg55 Tryz.sizeOf55 rfl rfl rfl rfl rfl)<|zA (zK Tryz.underlying55 rfl rfl Tryz.sizeOf53 rfl)<|zA (zN Tryz.isAgg53 rfl rfl rfl rfl)<|zA (zW Tryz.underlying53 rfl) ?_
 refine zR h fun x1 w1 h=>zh Tryz.func43 rfl (by kernel_rfl) (.fn 43) rfl rfl (zKx w1) rfl<|zA (zD rfl)<|zF<|zH<|zC ?_
 refine zA (zB rfl)<|zA (zz rfl rfl)<|zF ?_
 refine zY h rfl (fun b1 h => ?_) (fun b1 h => ?_)
 ·refine zH<|zC<|zA (zB rfl)<|zA (zD rfl)<|zF<|zb ?_
  cases h
  exact zt (zAH rfl rfl)
 refine zP<|zH<|zH<|zC<|zA (zB rfl)<|zA (zf rfl rfl) ?_
 refine zA (zB rfl)<|zX rfl rfl (fun c1=>zp.step (zB rfl))<|zX rfl rfl (fun c2=>zp.step (zK Tryz.underlying55 rfl rfl Tryz.sizeOf53 rfl))<|zX rfl rfl (fun c3=>zp.step (zN Tryz.isAgg53 (z6 rfl c3) rfl rfl rfl))<|zX rfl rfl (fun c4=>zp.step (zW Tryz.underlying53 (z6 rfl c4)))<|zX rfl rfl (fun c5=>zp.step (zAv (z6 rfl c5) (z6 rfl c5))) ?_
 refine zA (zg rfl rfl)<|zF ?_
 refine zY h rfl (fun b2 h => ?_) (fun b2 h => ?_)
 ·refine zH<|zC<|zA (zD rfl)<|zF<|zb ?_
  cases h
  exact zt (zAH rfl rfl)
 refine zP<|zH<|zC<|zA (zD rfl)<|zF<|zb ?_
 cases h
 exact zt (zAH rfl rfl)
theorem zEs {J:zL} {M:Int} {uF:List Int} {r:zL} (h:zBo J M uF=some r):PFn Tryz.prog 112 [(AV.agg (zG J)),li M,ls cI uF] (AV.agg (zG r)):=by
 refine zo Tryz.func112 rfl Tryz.ntmps112 Tryz.results112 rfl ?_
 unfold zBo at h
 refine zH<|zC<|za (H':=[.box 55 (zG J)]) (zv (t:=55) rfl)<|za (H':=[.box 55 (zG J),.box 55 [(ls (cS cI) ([]:List (List Int)))]]) zv1<|zF<|zH ?_
 refine zC<|zA (zK Tryz.underlying55 rfl rfl Tryz.sizeOf53 rfl)<|zA (zN Tryz.isAgg53 rfl rfl rfl rfl)<|zA (zW Tryz.underlying53 rfl)<|zM h fun b1 h=>zEn (f:=(cS cI)) (a:=(J.lists.length:Int)) (c:=(J.lists.length:Int)) (d0:=([]:List Int)) zOg ⟨zAt.nils,trivial⟩ rfl Tryz.underlying53 rfl rfl b1 ?_
 refine zA (zCU (pl:=[(0,1)]) (zs:=[.slice none 0 0]) (zc:=[.sl false []]) (res:=[AV.hd 2]) (fun _=>by kernel_rfl) rfl (⟨zAt.nils,trivial⟩) ⟨AV.hd 2,0,1,rfl,rfl,rfl,rfl,rfl,(by exact zLY.refl _)⟩)<|za (H':=[.box 55 (zG J),.box 55 [(ls (cS cI) ([]:List (List Int)))],.vec 22 1 (List.map (cS cI) (List.replicate (J.lists.length:Int).toNat ([]:List Int))),.box 55 [(ls (cS cI) ([]:List (List Int)))]]) zv1<|zi (H':=[.box 55 (zG J),.box 55 [(ls (cS cI) ([]:List (List Int)))],.vec 22 1 (List.map (cS cI) (List.replicate (J.lists.length:Int).toNat ([]:List Int))),.box 55 [AV.hd 2]]) (zZ (k:=3) (o:=0) (cs:=[(ls (cS cI) ([]:List (List Int)))]) (la:=[AV.hd 2]) Tryz.sizeOf55 rfl rfl rfl rfl)<|zF ?_
 refine zu (r:=r) (fun (l1:List (List Int))=>mkE [(6,(AV.ptr 0 0)),(7,(AV.ptr 1 0))]) (fun l1=>[.box 55 [(ls (cS cI) ([]:List (List Int)))],.box 55 [AV.osl 22 1 (List.map (cS cI) l1)]]) (fun l1=>zGO l1) ?_ ?_
 ·
  refine zH<|zC<|zA (zK Tryz.underlying55 rfl rfl Tryz.sizeOf53 rfl)<|zA (zN Tryz.isAgg53 rfl rfl rfl rfl)<|zA (zW Tryz.underlying53 rfl)<|zA (zB rfl) ?_
  refine zF<|zQ<|zq (σ:=Int×(List (List Int))) (fun (i1,l2)=>mkE [(1,(li M)),(2,(ls cI uF)),(3,(AV.ptr 0 0)),(6,(AV.ptr 1 0)),(7,(AV.ptr 2 0)),(17,(li (J.lists.length:Int))),(18,(li i1))]) (fun (i1,l2)=>[.box 55 (zG J),.box 55 [(ls (cS cI) ([]:List (List Int)))],.box 55 [AV.osl 22 1 (List.map (cS cI) l2)]]) (fun n0 (i1,l2)=>zCa J M uF n0 i1 l2) (0,(List.replicate (J.lists.length:Int).toNat ([]:List Int))) h (fun _=>rfl) (Rep.trans (zAA (k:=3) (j:=2) (o:=0) rfl rfl rfl rfl) (z8 [0,1,3] (l:=[(1,(li M)),(2,(ls cI uF)),(3,(AV.ptr 0 0)),(6,(AV.ptr 1 0)),(7,(AV.ptr 2 0)),(17,(li (J.lists.length:Int))),(18,(li 0))]) rfl rfl (by kernel_rfl))) ?_
  clear h
  rintro n0 ⟨i1,l2⟩ h
  replace h:zCc J M uF (zCa J M uF n0) i1 l2=some r:=h
  unfold zCc at h
  refine zH<|zC<|zA (zf rfl rfl)<|zF<|zH ?_
  refine zY h rfl (fun b2 h => ?_) (fun b2 h => ?_)
  ·refine zP<|zH<|zQ<|zH<|zC<|zA (zB rfl) ?_
   refine zA (zD rfl)<|zF<|zH<|zC<|zA (zK Tryz.underlying55 rfl rfl Tryz.sizeOf53 rfl)<|zA (zN Tryz.isAgg53 rfl rfl rfl rfl) ?_
   refine zA (zB rfl)<|zM h fun b3 h=>zA (zS Tryz.underlying53 Tryz.sizeOf22 (fun _=>rfl) rfl rfl b3)<|zA (zU (o:=0) Tryz.isAgg22 rfl rfl)<|zA (zD rfl)<|zF ?_
   refine zu (r:=r) (fun (d1:List Int)=>mkE [(1,(li M)),(2,(ls cI uF)),(3,(AV.ptr 0 0)),(6,(AV.ptr 1 0)),(7,(AV.ptr 2 0)),(8,(li i1)),(9,(ls cI d1)),(17,(li (J.lists.length:Int))),(18,(li i1))]) (fun d1=>[.box 55 (zG J),.box 55 [(ls (cS cI) ([]:List (List Int)))],.box 55 [AV.osl 22 1 (List.map (cS cI) l2)]]) (fun d1=>zDJ (zCa J M uF n0) i1 l2 d1) ?_ ?_
   ·
    refine zH<|zC<|zA (zB rfl)<|zA (zB rfl)<|zA (zAz rfl rfl)<|zF ?_
    refine zY h rfl (fun b7 h => ?_) (fun b7 h => ?_)
    ·refine zC<|zA (zB rfl)<|zA (zD rfl)<|zF ?_
     exact ⟨uF,z8 [0,1,2] rfl rfl (by kernel_rfl),h⟩
    refine zP ?_
    exact ⟨at_ J.lists i1,z8 [0,1,2] rfl rfl (by kernel_rfl),h⟩
   clear h
   intro d1 h
   unfold zDJ at h
   refine zH<|zAT (zAo (k:=2) (o:=0) (t':=22) (sz:=1) (rows:=List.map (cS cI) l2) rfl rfl)<|zM h fun b4 h=>zM h fun b5 h => ?_
   refine zAl (n:=46) (m:=0) [.head 0 1,.head 0 1,.head 0 1,.head 0 0,.head 0 0,.tail 0,.head 1 1,.tail 1] [5,7] [AV.ptr 2 0,AV.hd 3,li i1,ls cI d1,(li (d1.length:Int)),AV.hd 4,(AV.ptr 3 (i1.toNat*1)),.any] [[.box 55 (zG J),.box 55 [(ls (cS cI) ([]:List (List Int)))],.box 55 [AV.hd 3],.vec 22 1 (List.map (cS cI) l2)],[.box 55 (zG J),.box 55 [(ls (cS cI) ([]:List (List Int)))],.box 55 [AV.hd 3],.vec 22 1 (List.map (cS cI) l2),.vec 3 1 (List.map cI (List.replicate (d1.length:Int).toNat 0))],[.box 55 (zG J),.box 55 [(ls (cS cI) ([]:List (List Int)))],.box 55 [AV.hd 3],.vopen 22 1 (List.map (cS cI) l2) i1.toNat [.hd 4],.vec 3 1 (List.map cI (List.replicate (d1.length:Int).toNat 0))]] (by kernel_rfl) (by kernel_rfl) ⟨⟨D1 fun e s p=>zK (k:=2) (o:=0) (off:=0) Tryz.underlying55 rfl rfl Tryz.sizeOf53 (s 7 rfl),D1 fun e s p=>zK (k:=2) (o:=0) (off:=0) Tryz.underlying55 rfl rfl Tryz.sizeOf53 (s 7 rfl)⟩,⟨D1 fun e s p=>zN (k:=2) (o:=0) Tryz.isAgg53 p.1 rfl rfl rfl,D1 fun e s p=>zN (k:=2) (o:=0) Tryz.isAgg53 p.1 rfl rfl rfl⟩,⟨D1 fun e s p=>zB (s 8 rfl),D1 fun e s p=>zB (s 8 rfl)⟩,D1 fun e s p=>zB (s 9 rfl),D1 fun e s p=>zW (f:=cI) (l:=d1) Tryz.underlying22 p.1,?_,D1 fun e s p=>z5 (f:=(cS cI)) (l:=l2) (i:=i1) Tryz.underlying53 Tryz.sizeOf22 p.2.2.2.1 rfl p.2.2.2.2.1 b5,?_,trivial⟩ ?_
   ·
    intro e9 s9 p9
    refine zEn (f:=cI) (a:=(d1.length:Int)) (c:=(d1.length:Int)) (d0:=0) zFK ⟨zAt.refl _,trivial⟩ rfl Tryz.underlying22 p9.2.1 p9.2.1 b4 ?_
    exact zF ⟨fun _=>rfl,rfl⟩
   ·
    intro e11 s11 p11
    refine zi (H':=[.box 55 (zG J),.box 55 [(ls (cS cI) ([]:List (List Int)))],.box 55 [AV.hd 3],.vopen 22 1 (List.map (cS cI) l2) i1.toNat [.hd 4],.vec 3 1 (List.map cI (List.replicate (d1.length:Int).toNat 0))]) (zN1 (k:=3) (j:=4) (i:=i1.toNat) Tryz.sizeOf22 (by exact p11.1) rfl rfl (by rw [List.length_map]; exact (zBS b5).2) (by exact p11.2.2.2.2.2.2.2.1) rfl) ?_
    exact zF ⟨fun _=>rfl,rfl⟩
   intro e12 s12 hq1
   refine zAT (zBL (l:=[(1,(li M)),(2,(ls cI uF)),(3,(AV.ptr 0 0)),(6,(AV.ptr 1 0)),(7,(AV.ptr 2 0)),(8,(li i1)),(9,(ls cI d1)),(17,(li (J.lists.length:Int))),(18,(li i1))]) ⟨s12 1 rfl,s12 2 rfl,s12 3 rfl,s12 6 rfl,s12 7 rfl,s12 8 rfl,s12 9 rfl,s12 17 rfl,s12 18 rfl,trivial⟩)<|zC<|zA (zK (k:=2) (o:=0) (off:=0) Tryz.underlying55 rfl rfl Tryz.sizeOf53 rfl)<|zA (zN (k:=2) (o:=0) (a:=(AV.hd 3)) Tryz.isAgg53 rfl rfl rfl rfl)<|zA (zB (av:=(li i1)) rfl)<|zA (zLz (row:=[]) (i:=i1) Tryz.underlying53 Tryz.sizeOf22 rfl rfl rfl (by rw [List.length_map]; exact b5)) ?_
   refine zA (zMx (k:=3) (i:=i1.toNat) (a := .hd 4) Tryz.isAgg22 rfl rfl rfl rfl)<|zA (zB rfl)<|za (H':=[.box 55 (zG J),.box 55 [(ls (cS cI) ([]:List (List Int)))],.box 55 [AV.hd 3],.vopen 22 1 (List.map (cS cI) l2) i1.toNat [.hd 4],.vec 3 1 (List.map cI (zC9 (List.replicate (d1.length:Int).toNat 0) d1))]) (zLQ (f:=cI) (k:=4) (l:=List.replicate (d1.length:Int).toNat 0) (l2:=d1) Tryz.underlying22 Tryz.sizeOf3 (fun _=>rfl) rfl rfl rfl)<|zF<|zC<|zM h fun b6 h => ?_
   refine zA (ze rfl rfl b6)<|zA (zB rfl)<|zF ?_
   exact ⟨((i1+1),(l2.set i1.toNat (zC9 (List.replicate (d1.length:Int).toNat 0) d1))),Rep.trans (zNX (k:=3) (j:=4) (f:=cI) (l:=l2) (l':=zC9 (List.replicate (d1.length:Int).toNat 0) d1) (fun _=>rfl) rfl rfl rfl) (Rep.trans (zAA (k:=2) (j:=3) (o:=0) rfl rfl rfl rfl) (z8 [0,1,2] (l:=[(1,(li M)),(2,(ls cI uF)),(3,(AV.ptr 0 0)),(6,(AV.ptr 1 0)),(7,(AV.ptr 2 0)),(17,(li (J.lists.length:Int))),(18,(li (i1+1)))]) rfl rfl (by kernel_rfl))),h⟩
  refine zx ?_
  exact ⟨l2,z8 [1,2] rfl rfl (by kernel_rfl),h⟩
 clear h
 intro l1 h
 unfold zGO at h
 refine zH<|zC<|zAC (zBl (k:=1) (o:=0) (rows':=List.map (cS cI) l1) rfl rfl (zAK (fun _=>rfl)))<|zA (zT (k:=1) (o:=0) (m:=1) Tryz.isAgg55 Tryz.sizeOf55 rfl rfl rfl rfl rfl)<|zi (H':=[.box 55 (zG (⟨l1⟩:zL)),.box 55 [(ls (cS cI) l1)]]) (zZ (k:=0) (o:=0) (cs:=[(ls (cS cI) ([]:List (List Int)))]) (la:=(zG (⟨l1⟩:zL))) Tryz.sizeOf55 rfl rfl rfl rfl)<|zF ?_
 refine zb ?_
 cases h
 exact zt (zFc Tryz.isAgg55 Tryz.sizeOf55 rfl rfl rfl rfl)
theorem zM9 {A:zL} {D:Int} {G:List Int} {r:zL×Int} (h:zGP A D G=some r):PFn Tryz.prog 109 [(AV.agg (zG A)),li D,ls cI G] (AV.tup [(AV.agg (zG r.1)),li r.2]):=by
 refine zo Tryz.func109 rfl Tryz.ntmps109 Tryz.results109 rfl ?_
 unfold zGP at h
 refine zH<|zC<|za (H':=[.box 55 (zG A)]) (zv (t:=55) rfl)<|za (H':=[.box 55 (zG A),.box 55 [(ls (cS cI) ([]:List (List Int)))]]) zv1<|zA (zD rfl)<|zF ?_
 refine zH<|zH<|zC<|zA (zT (k:=0) (o:=0) (m:=1) Tryz.isAgg55 Tryz.sizeOf55 rfl rfl rfl rfl rfl)<|zA (zB rfl)<|zR h fun x1 w1 h => ?_
 refine zh Tryz.func111 rfl (by kernel_rfl) (.fn 111) rfl rfl (zHq w1) rfl<|zA (zD rfl)<|zF<|zH<|zC<|zA (zB rfl) ?_
 refine zA (zz rfl rfl)<|zF ?_
 refine zY h rfl (fun b1 h => ?_) (fun b1 h => ?_)
 ·refine zH<|zC<|zA zv2<|zA (zB rfl)<|zi (H':=[.box 55 (zG A),.box 55 (zG (⟨([]:List (List Int))⟩:zL))]) (zZ (k:=1) (o:=0) (cs:=[(ls (cS cI) ([]:List (List Int)))]) (la:=(zG (⟨([]:List (List Int))⟩:zL))) Tryz.sizeOf55 rfl rfl rfl rfl)<|zA (zD rfl) ?_
  refine zF<|zb ?_
  cases h
  exact zBx (zFc Tryz.isAgg55 Tryz.sizeOf55 rfl rfl rfl rfl) (zAH rfl rfl) rfl
 refine zP<|zH<|zC<|zA (zT (k:=0) (o:=0) (m:=1) Tryz.isAgg55 Tryz.sizeOf55 rfl rfl rfl rfl rfl)<|zR h fun x2 w2 h=>zNp (es:=mI Value.bool x2) (la:=[(AV.agg (zG A))]) (la':=[(AV.agg (zG A))]) (S:=[]) Tryz.func89 rfl (by kernel_rfl) (.fn 89) rfl ⟨zAx.nr rfl,trivial⟩ (zIr w2) ?_
 refine zA (zD rfl)<|zF ?_
 refine zu (r:=r) (fun (_:Unit)=>mkE [(1,(li D)),(2,(ls cI G)),(3,(AV.ptr 0 0)),(6,(AV.ptr 1 0))]) (fun _=>[.box 55 (zG A),.box 55 [(ls (cS cI) ([]:List (List Int)))]]) (fun _=>zFG A D G) ?_ ?_
 ·
  refine zH<|zC<|zA (zB rfl)<|zA (zW Tryz.underlying22 rfl)<|zA (zB rfl)<|zF ?_
  refine zQ<|zq (σ:=Int×(List (Int×Bool))) (fun (i2,l3)=>mkE [(1,(li D)),(2,(ls cI G)),(3,(AV.ptr 0 0)),(6,(AV.ptr 1 0)),(9,(AV.hd 2)),(23,(ls cI G)),(24,(li (G.length:Int))),(25,(li i2))]) (fun (i2,l3)=>[.box 55 (zG A),.box 55 [(ls (cS cI) ([]:List (List Int)))],.map (mI Value.bool l3)]) (fun n1 (i2,l3)=>zFJ A D G n1 i2 l3) (0,x2) h (fun _=>rfl) (z8 [0,1,2] rfl rfl (by kernel_rfl)) ?_
  clear h
  rintro n1 ⟨i2,l3⟩ h
  replace h:zCy A D G (zFJ A D G n1) i2 l3=some r:=h
  unfold zCy at h
  refine zH<|zC<|zA (zf rfl rfl)<|zF<|zH ?_
  refine zY h rfl (fun b10 h => ?_) (fun b10 h => ?_)
  ·refine zP<|zH<|zQ<|zH<|zC<|zM h fun b11 h => ?_
   refine zA (zS Tryz.underlying22 Tryz.sizeOf3 (fun _=>rfl) rfl rfl b11)<|zA (zU (o:=0) Tryz.isAgg3 rfl rfl)<|zA (zD rfl)<|zF<|zH<|zH ?_
   refine zC<|zA (zB rfl)<|zR h fun x5 w5 h=>zh Tryz.func88 rfl (by kernel_rfl) (.fn 88) rfl rfl (zHv w5) rfl<|zA (zBD (t:=x5) rfl)<|zF ?_
   refine zY h rfl (fun b12 h => ?_) (fun b12 h => ?_)
   ·refine zH<|zC<|zA zv2<|zi (H':=[.box 55 (zG A),.box 55 (zG (⟨([]:List (List Int))⟩:zL)),.map (mI Value.bool l3)]) (zZ (k:=1) (o:=0) (cs:=[(ls (cS cI) ([]:List (List Int)))]) (la:=(zG (⟨([]:List (List Int))⟩:zL))) Tryz.sizeOf55 rfl rfl rfl rfl)<|zA (zD rfl)<|zF ?_
    refine zb ?_
    cases h
    exact zBx (zFc Tryz.isAgg55 Tryz.sizeOf55 rfl rfl rfl rfl) (zAH rfl rfl) rfl
   refine zP<|zH<|zH<|zC<|zA (zB rfl)<|zA (zB rfl) ?_
   refine zA (zNd (k:=2) (g:=Value.bool) (q:=at_ G i2) (l:=l3) (dflt:=false) (a:=(AV.lit (.bool (zMS false l3 (at_ G i2))))) Tryz.underlying58 Tryz.underlying3 Tryz.zeroValue4 rfl rfl rfl rfl)<|zF ?_
   refine zY h rfl (fun b13 h => ?_) (fun b13 h => ?_)
   ·refine zH<|zC<|zA zv2<|zi (H':=[.box 55 (zG A),.box 55 (zG (⟨([]:List (List Int))⟩:zL)),.map (mI Value.bool l3)]) (zZ (k:=1) (o:=0) (cs:=[(ls (cS cI) ([]:List (List Int)))]) (la:=(zG (⟨([]:List (List Int))⟩:zL))) Tryz.sizeOf55 rfl rfl rfl rfl)<|zA (zD rfl)<|zF ?_
    refine zb ?_
    cases h
    exact zBx (zFc Tryz.isAgg55 Tryz.sizeOf55 rfl rfl rfl rfl) (zAH rfl rfl) rfl
   refine zP<|zC<|zA (zB rfl)<|zA (zB rfl)<|zi (H':=[.box 55 (zG A),.box 55 [(ls (cS cI) ([]:List (List Int)))],.map (mI Value.bool (zKn l3 (at_ G i2) true))]) (zNU (k:=2) (g:=Value.bool) (q:=at_ G i2) (l:=l3) (v:=true) Tryz.underlying58 Tryz.underlying3 rfl rfl rfl rfl)<|zF ?_
   refine zC<|zM h fun b14 h=>zA (ze rfl rfl b14)<|zA (zB rfl)<|zF ?_
   exact ⟨((i2+1),(zKn l3 (at_ G i2) true)),z8 [0,1,2] rfl rfl (by kernel_rfl),h⟩
  refine zx ?_
  exact ⟨(),z8 [0,1] rfl rfl (by kernel_rfl),h⟩
 clear h
 intro _ h
 unfold zFG at h
 refine zH<|zC<|zA (zK Tryz.underlying55 rfl rfl Tryz.sizeOf53 rfl)<|zA (zN Tryz.isAgg53 rfl rfl rfl rfl)<|zA (zB rfl)<|zM h fun b2 h => ?_
 refine zA (zS Tryz.underlying53 Tryz.sizeOf22 (fun _=>rfl) rfl rfl b2)<|zA (zU (o:=0) Tryz.isAgg22 rfl rfl)<|zA (zW Tryz.underlying22 rfl)<|zM h fun b3 h=>zEn (f:=cI) (a:=((at_ A.lists D).length:Int)) (c:=((at_ A.lists D).length:Int)) (d0:=0) zFK ⟨zAt.refl _,trivial⟩ rfl Tryz.underlying22 rfl rfl b3<|zA (zD rfl) ?_
 refine zF<|zH<|zC<|zA (zB rfl)<|zA (zK Tryz.underlying55 rfl rfl Tryz.sizeOf53 rfl)<|zA (zN Tryz.isAgg53 rfl rfl rfl rfl) ?_
 refine zA (zB rfl)<|zA (zS Tryz.underlying53 Tryz.sizeOf22 (fun _=>rfl) rfl rfl b2)<|zA (zU (o:=0) Tryz.isAgg22 rfl rfl)<|za (H':=[.box 55 (zG A),.box 55 [(ls (cS cI) ([]:List (List Int)))],.vec 3 1 (List.map cI (zC9 (List.replicate ((at_ A.lists D).length:Int).toNat 0) (at_ A.lists D)))]) (zLQ (f:=cI) (k:=2) (l:=List.replicate ((at_ A.lists D).length:Int).toNat 0) (l2:=at_ A.lists D) Tryz.underlying22 Tryz.sizeOf3 (fun _=>rfl) rfl rfl rfl)<|zF ?_
 refine zu (r:=r) (fun (l1:List Int)=>mkE [(1,(li D)),(3,(AV.ptr 0 0)),(6,(AV.ptr 1 0)),(12,(AV.hd 2))]) (fun l1=>[.box 55 (zG A),.box 55 [(ls (cS cI) ([]:List (List Int)))],.vec 3 1 (List.map cI l1)]) (fun l1=>zFD A D l1) ?_ ?_
 ·
  refine zH<|zC<|zA (zB rfl)<|zA (zW Tryz.underlying22 rfl)<|zA (zB rfl)<|zF ?_
  refine zQ<|zq (σ:=Int×(List Int)) (fun (i1,l2)=>mkE [(1,(li D)),(2,(ls cI G)),(3,(AV.ptr 0 0)),(6,(AV.ptr 1 0)),(12,(AV.hd 2)),(55,(li (G.length:Int))),(56,(li i1))]) (fun (i1,l2)=>[.box 55 (zG A),.box 55 [(ls (cS cI) ([]:List (List Int)))],.vec 3 1 (List.map cI l2)]) (fun n0 (i1,l2)=>zFL A D G n0 i1 l2) (0,(zC9 (List.replicate ((at_ A.lists D).length:Int).toNat 0) (at_ A.lists D))) h (fun _=>rfl) (z8 [0,1,2] rfl rfl (by kernel_rfl)) ?_
  clear h
  rintro n0 ⟨i1,l2⟩ h
  replace h:zC3 A D G (zFL A D G n0) i1 l2=some r:=h
  unfold zC3 at h
  refine zH<|zC<|zA (zf rfl rfl)<|zF<|zH ?_
  refine zY h rfl (fun b4 h => ?_) (fun b4 h => ?_)
  ·refine zP<|zH<|zQ<|zH<|zC<|zA (zB rfl) ?_
   refine zA (zD rfl)<|zF<|zC<|zA (zB rfl)<|zA (zB rfl)<|zA (zB rfl) ?_
   refine zA (zW Tryz.underlying22 rfl)<|zM h fun b5 h=>zA (zBU rfl rfl b5)<|zA (zB rfl)<|zM h fun b6 h=>zA (zBU rfl rfl b6) ?_
   refine zM h fun b7 h=>zA (zS Tryz.underlying22 Tryz.sizeOf3 (fun _=>rfl) rfl rfl b7)<|zA (zU (o:=0) Tryz.isAgg3 rfl rfl)<|zEe (a:=(li (at_ G (((G.length:Int) - 1) - i1)))) zFK Tryz.underlying22 rfl rfl rfl rfl<|zM h fun b8 h=>zBm (f:=cI) (k:=2) (j:=3) (l:=l2) (l':=[at_ G (((G.length:Int) - 1) - i1)]) zFK (fun _=>rfl) Tryz.underlying22 rfl rfl rfl rfl b8 ?_
   refine zA (zD rfl)<|zF<|zC<|zM h fun b9 h=>zA (ze rfl rfl b9)<|zA (zB rfl) ?_
   refine zF ?_
   exact ⟨((i1+1),(l2++[at_ G (((G.length:Int) - 1) - i1)])),z8 [0,1,4] rfl rfl (by kernel_rfl),h⟩
  refine zx ?_
  exact ⟨l2,z8 [0,1,2] rfl rfl (by kernel_rfl),h⟩
 clear h
 intro l1 h
 unfold zFD at h
 refine zH<|zC<|zA (zT (k:=0) (o:=0) (m:=1) Tryz.isAgg55 Tryz.sizeOf55 rfl rfl rfl rfl rfl)<|zA (zB rfl)<|zA (zB rfl)<|zR h fun x3 w3 h => ?_
 refine zAC (zDc (j:=2) (ds:=[12,73]) (rows':=List.map cI l1) rfl (zAK (fun _=>rfl)) ⟨rfl,rfl,trivial⟩)<|zR h fun x4 w4 h=>zh Tryz.func112 rfl (by kernel_rfl) (.fn 112) rfl rfl (zEs w4) rfl<|zi (H':=[.box 55 (zG A),.box 55 (zG x4),.dead]) (zZ (k:=1) (o:=0) (cs:=[(ls (cS cI) ([]:List (List Int)))]) (la:=(zG x4)) Tryz.sizeOf55 rfl rfl rfl rfl)<|zA (zD rfl)<|zF ?_
 refine zb ?_
 cases h
 exact zBx (zFc Tryz.isAgg55 Tryz.sizeOf55 rfl rfl rfl rfl) (zAH rfl rfl) rfl
theorem zJW {A:zJ} {D:Int} {G:Int} {r:zJ×Bool} (h:zC2 A D G=some r):AFn Tryz.prog 55 [AV.ptr 0 0,li D,li G] [.box 26 ([ls cI A.nodes]++([li A.batch]++([li A.high]++([AV.osl 51 10 (List.map zO A.zones)]++([AV.osl 55 1 (List.map zG A.caches)]++[])))))] (AV.lit (.bool r.2)) [.box 26 ([ls cI r.1.nodes]++([li r.1.batch]++([li r.1.high]++([AV.osl 51 10 (List.map zO r.1.zones)]++([AV.osl 55 1 (List.map zG r.1.caches)]++[])))))]:=by
 refine zEp Tryz.func55 rfl Tryz.ntmps55 Tryz.results55 rfl ?_
 unfold zC2 at h
 refine zH<|zC<|zA (zD rfl)<|zF<|zH<|zC ?_
 refine zA (zD rfl)<|zF ?_
 refine zu (r:=r) (fun ((l1,l2):(List zj)×(List Int))=>mkE [(0,(AV.ptr 0 0)),(1,(li D)),(2,(li G)),(7,(AV.hd 1))]) (fun (l1,l2)=>[.box 26 [ls cI A.nodes,li A.batch,li A.high,AV.osl 51 10 (List.map zO l1),AV.osl 55 1 (List.map zG A.caches)],.vec 3 1 (List.map cI l2)]) (fun (l1,l2)=>zBr A D G l1 l2) ?_ ?_
 ·
  refine zH<|zC<|zA (zB rfl)<|zA (z9 rfl)<|zA (zK Tryz.underlying26 rfl rfl Tryz.sizeOf3 rfl)<|zA (zN Tryz.isAgg3 rfl rfl rfl rfl) ?_
  refine zA (zB rfl)<|zF<|zQ<|zq (σ:=Int×(List zj)×(List Int)) (fun (i1,l4,l5)=>mkE [(0,(AV.ptr 0 0)),(1,(li D)),(2,(li G)),(7,(AV.hd 1)),(16,(li A.batch)),(17,(li i1))]) (fun (i1,l4,l5)=>[.box 26 [ls cI A.nodes,li A.batch,li A.high,AV.osl 51 10 (List.map zO l4),AV.osl 55 1 (List.map zG A.caches)],.vec 3 1 (List.map cI l5)]) (fun n0 (i1,l4,l5)=>zDa A D G n0 i1 l4 l5) (0,A.zones,[]) h (fun _=>rfl) (Rep.trans (zLK (d:=7) (el:=3) (sz:=1) rfl) (z8 [0,1] (l:=[(0,(AV.ptr 0 0)),(1,(li D)),(2,(li G)),(7,(AV.hd 1)),(16,(li A.batch)),(17,(li 0))]) rfl rfl (by kernel_rfl))) ?_
  clear h
  rintro n0 ⟨i1,l4,l5⟩ h
  replace h:zBt A D G (zDa A D G n0) i1 l4 l5=some r:=h
  unfold zBt at h
  refine zH<|zC<|zA (zf rfl rfl)<|zF<|zH ?_
  refine zY h rfl (fun b3 h => ?_) (fun b3 h => ?_)
  ·refine zP<|zH<|zQ<|zH<|zC<|zA (zB rfl) ?_
   refine zA (z9 rfl)<|zA (zK Tryz.underlying26 rfl rfl Tryz.sizeOf23 rfl)<|zAC (zAo (k:=0) (o:=3) (t':=51) (sz:=10) (rows:=List.map zO l4) rfl rfl)<|zA (zN Tryz.isAgg23 rfl rfl rfl rfl)<|zA (zB rfl)<|zM h fun b4 h => ?_
   refine zA (z5 (f:=zO) (l:=l4) (i:=G) Tryz.underlying23 Tryz.sizeOf51 rfl rfl rfl b4)<|zA (zBu (f:=zO) (l:=l4) (i:=G) (c:=0) (q:=10) (la:=(zO (at_ l4 G))) Tryz.isAgg51 Tryz.sizeOf51 rfl rfl (by first | rfl | omega) b4 rfl rfl rfl)<|zR h fun x3 w3 h=>zh Tryz.func64 rfl (by kernel_rfl) (.fn 64) rfl rfl (zLe w3) rfl<|zA (zB rfl)<|zA (zd rfl rfl) ?_
   refine zA (zd rfl rfl)<|zA (zd rfl rfl)<|za (H':=[.box 26 [ls cI A.nodes,li A.batch,li A.high,AV.hd 2,AV.osl 55 1 (List.map zG A.caches)],.vec 3 1 (List.map cI l5),.vec 51 10 (List.map zO l4),.box 51 (zO ⟨0,0,0,0,0,(List.replicate 5 ([]:List Int))⟩)]) zv0<|zi (H':=[.box 26 [ls cI A.nodes,li A.batch,li A.high,AV.hd 2,AV.osl 55 1 (List.map zG A.caches)],.vec 3 1 (List.map cI l5),.vec 51 10 (List.map zO l4),.box 51 (zO x3.1)]) (zZ (k:=3) (o:=0) (cs:=(zO ⟨0,0,0,0,0,(List.replicate 5 ([]:List Int))⟩)) (la:=(zO x3.1)) Tryz.sizeOf51 rfl rfl rfl rfl)<|zA (zD rfl)<|zA (zD rfl) ?_
   refine zF<|zH<|zH<|zC<|zA (zB rfl)<|zA (zz rfl rfl) ?_
   refine zF ?_
   refine zY h rfl (fun b5 h => ?_) (fun b5 h => ?_)
   ·refine zx ?_
    exact ⟨(l4,l5),Rep.trans (zAA (k:=0) (j:=2) (o:=3) rfl rfl rfl rfl) (z8 [0,1] (l:=[(0,(AV.ptr 0 0)),(1,(li D)),(2,(li G)),(7,(AV.hd 1))]) rfl rfl (by kernel_rfl)),h⟩
   refine zP<|zH ?_
   refine zAl (n:=70) (m:=1) [.head 0 0,.head 0 0,.head 0 0,.head 0 0,.head 0 0,.head 0 0,.head 0 0,.tail 0] [7] [AV.ptr 0 0,AV.ptr 0 0,AV.ptr 0 3,AV.hd 2,li G,(AV.agg (zO x3.1)),(AV.ptr 2 (G.toNat*10)),.any] [[.box 26 [ls cI A.nodes,li A.batch,li A.high,AV.hd 2,AV.osl 55 1 (List.map zG A.caches)],.vec 3 1 (List.map cI l5),.vec 51 10 (List.map zO l4),.box 51 (zO x3.1)],[.box 26 [ls cI A.nodes,li A.batch,li A.high,AV.hd 2,AV.osl 55 1 (List.map zG A.caches)],.vec 3 1 (List.map cI l5),.vec 51 10 (List.map zO (l4.set G.toNat x3.1)),.box 51 (zO x3.1)]] (by kernel_rfl) (by kernel_rfl) ⟨D1 fun e s p=>zB (s 0 rfl),D1 fun e s p=>z9 p.1,D1 fun e s p=>zK (k:=0) (o:=0) (off:=3) Tryz.underlying26 rfl rfl Tryz.sizeOf23 p.1,D1 fun e s p=>zN (k:=0) (o:=3) Tryz.isAgg23 p.1 rfl rfl rfl,D1 fun e s p=>zB (s 2 rfl),D1 fun e s p=>zT (k:=3) (o:=0) (m:=10) Tryz.isAgg51 Tryz.sizeOf51 (s 8 rfl) rfl rfl rfl rfl,D1 fun e s p=>z5 (f:=zO) (l:=l4) (i:=G) Tryz.underlying23 Tryz.sizeOf51 p.2.2.2.2.2.1 rfl p.2.2.2.2.2.2.1 b4,?_,trivial⟩ ?_
   ·
    intro e17 s17 p16
    refine zi (H':=[.box 26 [ls cI A.nodes,li A.batch,li A.high,AV.hd 2,AV.osl 55 1 (List.map zG A.caches)],.vec 3 1 (List.map cI l5),.vec 51 10 (List.map zO (l4.set G.toNat x3.1)),.box 51 (zO x3.1)]) (zBZ (k:=2) (o:=(G.toNat*10)) (f:=zO) (l:=l4) (i:=G) (z:=x3.1) Tryz.sizeOf51 (fun _=>rfl) (by exact p16.1) rfl (by first | rfl | omega) b4 (by exact p16.2.2.2.2.2.2.2.1) rfl) ?_
    exact zF ⟨fun _=>rfl,rfl⟩
   intro e18 s18 hq2
   refine zAT (zBL (l:=[(0,(AV.ptr 0 0)),(1,(li D)),(2,(li G)),(7,(AV.hd 1)),(9,(li x3.2.1)),(16,(li A.batch)),(17,(li i1))]) ⟨s18 0 rfl,s18 1 rfl,s18 2 rfl,s18 7 rfl,s18 9 rfl,s18 16 rfl,s18 17 rfl,trivial⟩)<|zC<|zA (zB (av:=(AV.hd 1)) rfl)<|zA (zB (av:=(li x3.2.1)) rfl)<|zEe (a:=(li x3.2.1)) zFK Tryz.underlying22 rfl rfl rfl rfl<|zM h fun b6 h => ?_
   refine zBm (f:=cI) (k:=1) (j:=4) (l:=l5) (l':=[x3.2.1]) zFK (fun _=>rfl) Tryz.underlying22 rfl rfl rfl rfl b6<|zA (zD rfl)<|zF<|zC<|zM h fun b7 h=>zA (ze rfl rfl b7) ?_
   refine zA (zB rfl)<|zF ?_
   exact ⟨((i1+1),l4.set G.toNat x3.1,(l5++[x3.2.1])),Rep.trans (zAA (k:=0) (j:=2) (o:=3) rfl rfl rfl rfl) (z8 [0,5] (l:=[(0,(AV.ptr 0 0)),(1,(li D)),(2,(li G)),(7,(AV.hd 1)),(16,(li A.batch)),(17,(li (i1+1)))]) rfl rfl (by kernel_rfl)),h⟩
  refine zx ?_
  exact ⟨(l4,l5),z8 [0,1] rfl rfl (by kernel_rfl),h⟩
 clear h
 rintro ⟨l1,l2⟩ h
 unfold zBr at h
 refine zu (r:=r) (fun (l3:List zL)=>mkE [(7,(ls cI l2))]) (fun l3=>[.box 26 [ls cI A.nodes,li A.batch,li A.high,AV.osl 51 10 (List.map zO l1),AV.osl 55 1 (List.map zG l3)]]) (fun l3=>zDM A l1 l2 l3) ?_ ?_
 ·
  refine zH<|zC<|zA (zB rfl)<|zA (z9 rfl)<|zA (zK Tryz.underlying26 rfl rfl Tryz.sizeOf24 rfl)<|zAC (zAo (k:=0) (o:=4) (t':=55) (sz:=1) (rows:=List.map zG A.caches) rfl rfl) ?_
  refine zA (zN Tryz.isAgg24 rfl rfl rfl rfl)<|zA (zB rfl)<|zM h fun b1 h=>zA (z5 (f:=zG) (l:=A.caches) (i:=D) Tryz.underlying24 Tryz.sizeOf55 rfl rfl rfl b1)<|zA (zBu (f:=zG) (l:=A.caches) (i:=D) (c:=0) (q:=1) (la:=(zG (at_ A.caches D))) Tryz.isAgg55 Tryz.sizeOf55 rfl rfl (by first | rfl | omega) b1 rfl rfl rfl)<|zA (zB rfl) ?_
  refine zA (zB rfl)<|zR h fun x1 w1 h=>zAC (zDc (j:=1) (ds:=[7,54]) (rows':=List.map cI l2) rfl (zAK (fun _=>rfl)) ⟨rfl,rfl,trivial⟩)<|zR h fun x2 w2 h=>zh Tryz.func109 rfl (by kernel_rfl) (.fn 109) rfl rfl (zM9 w2) rfl<|zA (zB rfl) ?_
  refine zA (zd rfl rfl)<|zA (zd rfl rfl)<|za (H':=[.box 26 [ls cI A.nodes,li A.batch,li A.high,AV.osl 51 10 (List.map zO l1),AV.hd 2],.dead,.vec 55 1 (List.map zG A.caches),.box 55 [(ls (cS cI) ([]:List (List Int)))]]) zv1<|zi (H':=[.box 26 [ls cI A.nodes,li A.batch,li A.high,AV.osl 51 10 (List.map zO l1),AV.hd 2],.dead,.vec 55 1 (List.map zG A.caches),.box 55 (zG x2.1)]) (zZ (k:=3) (o:=0) (cs:=[(ls (cS cI) ([]:List (List Int)))]) (la:=(zG x2.1)) Tryz.sizeOf55 rfl rfl rfl rfl)<|zA (zD rfl)<|zF ?_
  refine zH<|zC<|zA (zB rfl)<|zA (zAz rfl rfl)<|zF ?_
  refine zY h rfl (fun b2 h => ?_) (fun b2 h => ?_)
  ·refine zAl (n:=70) (m:=1) [.head 0 0,.head 0 0,.head 0 0,.head 0 0,.head 0 0,.head 0 0,.head 0 0,.tail 0] [7] [AV.ptr 0 0,AV.ptr 0 0,AV.ptr 0 4,AV.hd 2,li D,(AV.agg (zG x2.1)),(AV.ptr 2 (D.toNat*1)),.any] [[.box 26 [ls cI A.nodes,li A.batch,li A.high,AV.osl 51 10 (List.map zO l1),AV.hd 2],.dead,.vec 55 1 (List.map zG A.caches),.box 55 (zG x2.1)],[.box 26 [ls cI A.nodes,li A.batch,li A.high,AV.osl 51 10 (List.map zO l1),AV.hd 2],.dead,.vec 55 1 (List.map zG (A.caches.set D.toNat x2.1)),.box 55 (zG x2.1)]] (by kernel_rfl) (by kernel_rfl) ⟨D1 fun e s p=>zB (s 0 rfl),D1 fun e s p=>z9 p.1,D1 fun e s p=>zK (k:=0) (o:=0) (off:=4) Tryz.underlying26 rfl rfl Tryz.sizeOf24 p.1,D1 fun e s p=>zN (k:=0) (o:=4) Tryz.isAgg24 p.1 rfl rfl rfl,D1 fun e s p=>zB (s 1 rfl),D1 fun e s p=>zT (k:=3) (o:=0) (m:=1) Tryz.isAgg55 Tryz.sizeOf55 (s 11 rfl) rfl rfl rfl rfl,D1 fun e s p=>z5 (f:=zG) (l:=A.caches) (i:=D) Tryz.underlying24 Tryz.sizeOf55 p.2.2.2.2.2.1 rfl p.2.2.2.2.2.2.1 b1,?_,trivial⟩ ?_
   ·
    intro e8 s8 p8
    refine zi (H':=[.box 26 [ls cI A.nodes,li A.batch,li A.high,AV.osl 51 10 (List.map zO l1),AV.hd 2],.dead,.vec 55 1 (List.map zG (A.caches.set D.toNat x2.1)),.box 55 (zG x2.1)]) (zBZ (k:=2) (o:=(D.toNat*1)) (f:=zG) (l:=A.caches) (i:=D) (z:=x2.1) Tryz.sizeOf55 (fun _=>rfl) (by exact p8.1) rfl (by first | rfl | omega) b1 (by exact p8.2.2.2.2.2.2.2.1) rfl) ?_
    exact zF ⟨fun _=>rfl,rfl⟩
   intro e9 s9 hq1
   exact ⟨A.caches.set D.toNat x2.1,Rep.trans (zBL (l:=[(7,(ls cI l2))]) ⟨s9 7 rfl,trivial⟩) (Rep.trans (zAA (k:=0) (j:=2) (o:=4) (cs:=[ls cI A.nodes,li A.batch,li A.high,AV.osl 51 10 (List.map zO l1),AV.hd 2]) rfl rfl rfl rfl) (z8 [0] (l:=[(7,(ls cI l2))]) rfl rfl (by kernel_rfl))),h⟩
  refine zP ?_
  exact ⟨A.caches,Rep.trans (zAA (k:=0) (j:=2) (o:=4) rfl rfl rfl rfl) (z8 [0] (l:=[(7,(ls cI l2))]) rfl rfl (by kernel_rfl)),h⟩
 clear h
 intro l3 h
 unfold zDM at h
 refine zH<|zC<|zA (zB rfl)<|zA (zW Tryz.underlying22 rfl)<|zA (zAc rfl rfl)<|zA (zD rfl) ?_
 refine zF<|zb ?_
 cases h
 exact ⟨mkE [(6,(AV.lit (.bool (decide (0<(l2.length:Int))))))],[.box 26 [ls cI A.nodes,li A.batch,li A.high,AV.osl 51 10 (List.map zO l1),AV.osl 55 1 (List.map zG l3)]],z8 [0] rfl rfl (by kernel_rfl),zUz rfl rfl⟩
theorem zNi {J:zL} {M:Int} {r:zL×(List Int)×Int} (h:zIa J M=some r):PFn Tryz.prog 110 [(AV.agg (zG J)),li M] (AV.tup [(AV.agg (zG r.1)),ls cI r.2.1,li r.2.2]):=by
 refine zo Tryz.func110 rfl Tryz.ntmps110 Tryz.results110 rfl ?_
 unfold zIa at h
 refine zH<|zC<|za (H':=[.box 55 (zG J)]) (zv (t:=55) rfl)<|za (H':=[.box 55 (zG J),.box 55 [(ls (cS cI) ([]:List (List Int)))]]) zv1<|zA (zD rfl)<|zA (zD rfl) ?_
 refine zF<|zH<|zH<|zC<|zA (zT (k:=0) (o:=0) (m:=1) Tryz.isAgg55 Tryz.sizeOf55 rfl rfl rfl rfl rfl)<|zA (zB rfl) ?_
 refine zR h fun x1 w1 h=>zh Tryz.func111 rfl (by kernel_rfl) (.fn 111) rfl rfl (zHq w1) rfl<|zA (zD rfl)<|zF<|zH<|zC ?_
 refine zA (zB rfl)<|zA (zz rfl rfl)<|zF ?_
 refine zY h rfl (fun b1 h => ?_) (fun b1 h => ?_)
 ·refine zH<|zC<|zA zv2<|zA (zB rfl)<|zi (H':=[.box 55 (zG J),.box 55 (zG (⟨([]:List (List Int))⟩:zL))]) (zZ (k:=1) (o:=0) (cs:=[(ls (cS cI) ([]:List (List Int)))]) (la:=(zG (⟨([]:List (List Int))⟩:zL))) Tryz.sizeOf55 rfl rfl rfl rfl)<|zA (zD rfl) ?_
  refine zA (zD rfl)<|zF<|zb ?_
  cases h
  exact zCW (zFc Tryz.isAgg55 Tryz.sizeOf55 rfl rfl rfl rfl) (zJL (zAH rfl rfl) zAt.nils) (zAH rfl rfl) rfl
 refine zP<|zH<|zC<|zA (zK Tryz.underlying55 rfl rfl Tryz.sizeOf53 rfl)<|zA (zN Tryz.isAgg53 rfl rfl rfl rfl)<|zA (zB rfl) ?_
 refine zM h fun b2 h=>zA (zS Tryz.underlying53 Tryz.sizeOf22 (fun _=>rfl) rfl rfl b2)<|zA (zU (o:=0) Tryz.isAgg22 rfl rfl)<|zA (zW Tryz.underlying22 rfl)<|zM h fun b3 h=>zEn (f:=cI) (a:=((at_ J.lists M).length:Int)) (c:=((at_ J.lists M).length:Int)) (d0:=0) zFK ⟨zAt.refl _,trivial⟩ rfl Tryz.underlying22 rfl rfl b3 ?_
 refine zA (zD rfl)<|zF<|zH<|zC<|zA (zB rfl)<|zA (zK Tryz.underlying55 rfl rfl Tryz.sizeOf53 rfl) ?_
 refine zA (zN Tryz.isAgg53 rfl rfl rfl rfl)<|zA (zB rfl)<|zA (zS Tryz.underlying53 Tryz.sizeOf22 (fun _=>rfl) rfl rfl b2)<|zA (zU (o:=0) Tryz.isAgg22 rfl rfl)<|za (H':=[.box 55 (zG J),.box 55 [(ls (cS cI) ([]:List (List Int)))],.vec 3 1 (List.map cI (zC9 (List.replicate ((at_ J.lists M).length:Int).toNat 0) (at_ J.lists M)))]) (zLQ (f:=cI) (k:=2) (l:=List.replicate ((at_ J.lists M).length:Int).toNat 0) (l2:=at_ J.lists M) Tryz.underlying22 Tryz.sizeOf3 (fun _=>rfl) rfl rfl rfl)<|zF ?_
 refine zH<|zC<|zA (zT (k:=0) (o:=0) (m:=1) Tryz.isAgg55 Tryz.sizeOf55 rfl rfl rfl rfl rfl)<|zA (zB rfl)<|zR h fun x2 w2 h=>zA7 (r':=(AV.agg (zG x2))) (la:=[(AV.agg (zG J)),li M,(AV.lit (.slice none 0 0))]) (la':=[(AV.agg (zG J)),li M,(ls cI [])]) (r:=(AV.agg (zG x2))) (S:=[]) Tryz.func112 rfl (by kernel_rfl) (.fn 112) rfl ⟨zAx.nr rfl,zAx.nr rfl,zAx.sub zAt.nils rfl,trivial⟩ (zEs w2) (.inl rfl) rfl ?_
 refine zA (zB rfl)<|zi (H':=[.box 55 (zG J),.box 55 (zG x2),.vec 3 1 (List.map cI (zC9 (List.replicate ((at_ J.lists M).length:Int).toNat 0) (at_ J.lists M)))]) (zZ (k:=1) (o:=0) (cs:=[(ls (cS cI) ([]:List (List Int)))]) (la:=(zG x2)) Tryz.sizeOf55 rfl rfl rfl rfl)<|zA (zD rfl)<|zA (zD rfl)<|zF<|zAT (zDc (j:=2) (ds:=[5,8,22,23,33]) (rows':=List.map cI (zC9 (List.replicate ((at_ J.lists M).length:Int).toNat 0) (at_ J.lists M))) rfl (zAK (fun _=>rfl)) ⟨rfl,rfl,rfl,rfl,rfl,trivial⟩) ?_
 refine zb ?_
 cases h
 exact zCW (zFc Tryz.isAgg55 Tryz.sizeOf55 rfl rfl rfl rfl) (zAH rfl rfl) (zAH rfl rfl) rfl
theorem zO9 {C:zj} {U:Int} {V:Int} {r:zj×Int} (h:zI9 C U V=some r):PFn Tryz.prog 71 [(AV.agg (zO C)),li U,li V] (AV.tup [(AV.agg (zO r.1)),li r.2]):=by
 refine zo Tryz.func71 rfl Tryz.ntmps71 Tryz.results71 rfl ?_
 unfold zI9 at h
 refine zH<|zC<|za (H':=[.box 51 (zO C)]) (zv (t:=51) rfl)<|za (H':=[.box 51 (zO C),.box 51 ([li 0]++([li 0]++([li 0]++([li 0]++([li 0]++((cA 5 (eS cI) ([]:List Int) (List.replicate 5 ([]:List Int)))++[]))))))]) zv0<|zA (zD rfl)<|zF ?_
 refine zH<|zH<|zC<|zA (zT (k:=0) (o:=0) (m:=10) Tryz.isAgg51 Tryz.sizeOf51 rfl rfl rfl rfl rfl)<|zR h fun x1 w1 h=>zh Tryz.func42 rfl (by kernel_rfl) (.fn 42) rfl rfl (zFO w1) rfl ?_
 refine zA (zD rfl)<|zF<|zH<|zC<|zA (zB rfl)<|zA (zz rfl rfl) ?_
 refine zF ?_
 refine zY h rfl (fun b1 h => ?_) (fun b1 h => ?_)
 ·refine zH<|zC<|zA zv9<|zA (zB rfl)<|zi (H':=[.box 51 (zO C),.box 51 (zO (⟨0,0,0,0,0,(List.replicate 5 ([]:List Int))⟩:zj))]) (zZ (k:=1) (o:=0) (cs:=([li 0]++([li 0]++([li 0]++([li 0]++([li 0]++((cA 5 (eS cI) ([]:List Int) (List.replicate 5 ([]:List Int)))++[]))))))) (la:=(zO (⟨0,0,0,0,0,(List.replicate 5 ([]:List Int))⟩:zj))) Tryz.sizeOf51 rfl rfl rfl rfl)<|zA (zD rfl) ?_
  refine zF<|zb ?_
  cases h
  exact zBx (zFc Tryz.isAgg51 Tryz.sizeOf51 rfl rfl rfl rfl) (zAH rfl rfl) rfl
 refine zP<|zH<|zH<|zC<|zA (zB rfl)<|zA (zf rfl rfl) ?_
 refine zA (zB rfl)<|zX rfl rfl (fun c1=>zp.step (zB rfl))<|zX rfl rfl (fun c2=>zp.step (zAc (z6 rfl c2) rfl))<|zA (zg rfl rfl)<|zA (zB rfl)<|zX rfl rfl (fun c3=>zp.step (zT (k:=0) (o:=0) (m:=10) Tryz.isAgg51 Tryz.sizeOf51 rfl rfl rfl rfl rfl)) ?_
 refine zX rfl rfl (fun c4=>zp.step (zB rfl))<|zX rfl rfl (fun c5=>zp.step (zB rfl))<|zR h fun x2 w2 h=>zCt (g:=25) (s:=(decide (V<0))||(decide (4<V))) (r':=(AV.lit (.bool x2))) rfl rfl (fun c6=>⟨86,_,_,[],[(AV.agg (zO C)),li U,li V],[(AV.agg ([li C.node]++([li C.kind]++([li C.start]++([li C.count]++([li C.min]++([AV.any,AV.any,AV.any,AV.any,AV.any]++[]))))))),li U,li V],(AV.lit (.bool x2)),[],Tryz.func86,rfl,by kernel_rfl,.fn 86,(zAN (z6 rfl c6) (zAN (z6 rfl c6) (zAN (z6 rfl c6) rfl))),⟨zMH (hd:=([li C.node]++[li C.kind]++[li C.start]++[li C.count]++[li C.min])) (tl:=((cA 5 (eS cI) ([]:List Int) C.free))) rfl,zAx.nr rfl,zAx.nr rfl,trivial⟩,zFx (zG3 c6 w2),.inl rfl,rfl⟩)<|zX rfl rfl (fun c7=>zp.step (zBD (t:=x2) (z6 rfl c7)))<|zA (zg rfl rfl) ?_
 refine zF ?_
 refine zY h rfl (fun b2 h => ?_) (fun b2 h => ?_)
 ·refine zH<|zC<|zA zv9<|zi (H':=[.box 51 (zO C),.box 51 (zO (⟨0,0,0,0,0,(List.replicate 5 ([]:List Int))⟩:zj))]) (zZ (k:=1) (o:=0) (cs:=([li 0]++([li 0]++([li 0]++([li 0]++([li 0]++((cA 5 (eS cI) ([]:List Int) (List.replicate 5 ([]:List Int)))++[]))))))) (la:=(zO (⟨0,0,0,0,0,(List.replicate 5 ([]:List Int))⟩:zj))) Tryz.sizeOf51 rfl rfl rfl rfl)<|zA (zD rfl)<|zF ?_
  refine zb ?_
  cases h
  exact zBx (zFc Tryz.isAgg51 Tryz.sizeOf51 rfl rfl rfl rfl) (zAH rfl rfl) rfl
 refine zP ?_
 refine zu (r:=r) (fun (_:Unit)=>mkE [(1,(li U)),(2,(li V)),(3,(AV.ptr 0 0)),(6,(AV.ptr 1 0))]) (fun _=>[.box 51 (zO C),.box 51 ([li 0]++([li 0]++([li 0]++([li 0]++([li 0]++((cA 5 (eS cI) ([]:List Int) (List.replicate 5 ([]:List Int)))++[]))))))]) (fun _=>zI8 C U V) ?_ ?_
 ·
  refine zH<|zC<|zA (zB rfl)<|zA (zD rfl)<|zF<|zQ ?_
  refine zq (σ:=Int) (fun i1=>mkE [(1,(li U)),(2,(li V)),(3,(AV.ptr 0 0)),(6,(AV.ptr 1 0)),(9,(li i1))]) (fun i1=>[.box 51 (zO C),.box 51 ([li 0]++([li 0]++([li 0]++([li 0]++([li 0]++((cA 5 (eS cI) ([]:List Int) (List.replicate 5 ([]:List Int)))++[]))))))]) (fun n0 i1=>zHM C U V n0 i1) U h (fun _=>rfl) (z8 [0,1] rfl rfl (by kernel_rfl)) ?_
  clear h
  intro n0 i1 h
  replace h:zEw C U V (zHM C U V n0) i1=some r:=h
  unfold zEw at h
  refine zH<|zH<|zC<|zA (zB rfl)<|zA (zB rfl)<|zA (zB rfl) ?_
  refine zM h fun b3 h=>zM h fun b4 h=>zA (zDA (a:=1) (b:=V) rfl rfl b3 b4)<|zM h fun b5 h=>zA (ze rfl rfl b5)<|zA (zf rfl rfl) ?_
  refine zF ?_
  refine zY h rfl (fun b6 h => ?_) (fun b6 h => ?_)
  ·refine zP<|zH<|zQ<|zH<|zC<|zA (zT (k:=0) (o:=0) (m:=10) Tryz.isAgg51 Tryz.sizeOf51 rfl rfl rfl rfl rfl) ?_
   refine zA (zB rfl)<|zR h fun x5 w5 h=>zh Tryz.func92 rfl (by kernel_rfl) (.fn 92) rfl rfl (zLa w5) rfl<|zA (zB rfl)<|zA (zd rfl rfl)<|zA (zd rfl rfl) ?_
   refine zA (zD rfl)<|zA (zD rfl)<|zF<|zH<|zC<|zA (zB rfl) ?_
   refine zA (zAv rfl rfl)<|zF ?_
   refine zY h rfl (fun b7 h => ?_) (fun b7 h => ?_)
   ·refine zH<|zC<|zA zv9<|zi (H':=[.box 51 (zO C),.box 51 (zO (⟨0,0,0,0,0,(List.replicate 5 ([]:List Int))⟩:zj))]) (zZ (k:=1) (o:=0) (cs:=([li 0]++([li 0]++([li 0]++([li 0]++([li 0]++((cA 5 (eS cI) ([]:List Int) (List.replicate 5 ([]:List Int)))++[]))))))) (la:=(zO (⟨0,0,0,0,0,(List.replicate 5 ([]:List Int))⟩:zj))) Tryz.sizeOf51 rfl rfl rfl rfl)<|zA (zD rfl)<|zF ?_
    refine zb ?_
    cases h
    exact zBx (zFc Tryz.isAgg51 Tryz.sizeOf51 rfl rfl rfl rfl) (zAH rfl rfl) rfl
   refine zP<|zC<|zA (zB rfl)<|zM h fun b8 h=>zA (ze rfl rfl b8)<|zA (zD rfl) ?_
   refine zF ?_
   exact ⟨(i1+1),z8 [0,1] rfl rfl (by kernel_rfl),h⟩
  refine zx ?_
  exact ⟨(),z8 [0,1] rfl rfl (by kernel_rfl),h⟩
 clear h
 intro _ h
 unfold zI8 at h
 refine zH<|zC<|zA (zT (k:=0) (o:=0) (m:=10) Tryz.isAgg51 Tryz.sizeOf51 rfl rfl rfl rfl rfl)<|zR h fun x3 w3 h=>zGX (cs:=([li x3.node]++([li x3.kind]++([li x3.start]++([li x3.count]++([li x3.min]++((cM 5 3 (5:Int) x3.free)++[]))))))) (la:=[(AV.agg (zO C))]) (la':=[(AV.agg (zO C))]) (S:=[]) Tryz.func118 rfl (by kernel_rfl) (.fn 118) rfl ⟨zAx.nr rfl,trivial⟩ (zLc w3) (.inl rfl)<|za (H':=[.box 51 (zO C),.box 51 ([li 0]++([li 0]++([li 0]++([li 0]++([li 0]++((cA 5 (eS cI) ([]:List Int) (List.replicate 5 ([]:List Int)))++[])))))),.val (.agg ([li x3.node]++([li x3.kind]++([li x3.start]++([li x3.count]++([li x3.min]++((cM 5 3 (5:Int) x3.free)++[]))))))),.box 51 ([li 0]++([li 0]++([li 0]++([li 0]++([li 0]++((cA 5 (eS cI) ([]:List Int) (List.replicate 5 ([]:List Int)))++[]))))))]) zv0 ?_
 refine zi (H':=[.box 51 (zO C),.box 51 ([li 0]++([li 0]++([li 0]++([li 0]++([li 0]++((cA 5 (eS cI) ([]:List Int) (List.replicate 5 ([]:List Int)))++[])))))),.dead,.box 51 ([li x3.node]++([li x3.kind]++([li x3.start]++([li x3.count]++([li x3.min]++((cM 5 3 (5:Int) x3.free)++[]))))))]) (zCL (k:=3) (o:=0) (j:=2) (cs:=([li 0]++([li 0]++([li 0]++([li 0]++([li 0]++((cA 5 (eS cI) ([]:List Int) (List.replicate 5 ([]:List Int)))++[]))))))) (la:=([li x3.node]++([li x3.kind]++([li x3.start]++([li x3.count]++([li x3.min]++((cM 5 3 (5:Int) x3.free)++[]))))))) Tryz.sizeOf51 rfl rfl rfl rfl rfl (by decide))<|zF<|zH<|zC<|zA (zB rfl)<|zA (zB rfl) ?_
 refine zR h fun x4 w4 h=>zCo (k:=3) (la:=[AV.ptr 3 0,li U,li V]) (la':=[AV.ptr 0 0,li U,li V]) (r:=(.tup [])) (S:=[]) (en' := .box 51 ([li x4.node]++([li x4.kind]++([li x4.start]++([li x4.count]++([li x4.min]++((cM 5 3 (5:Int) x4.free)++[]))))))) Tryz.func125 rfl (by kernel_rfl) (.fn 125) rfl ⟨zBv.ptr,zBv.of (zAx.nr rfl),zBv.of (zAx.nr rfl),trivial⟩ rfl rfl (by kernel_rfl) (by kernel_rfl) (zM1 w4) rfl (.inl rfl)<|zF<|zH<|zC<|zAC (zK6 (k:=3) (cs:=([li x4.node]++([li x4.kind]++([li x4.start]++([li x4.count]++([li x4.min]++((cM 5 3 (5:Int) x4.free)++[]))))))) (hd:=([li x4.node]++[li x4.kind]++[li x4.start]++[li x4.count]++[li x4.min]++[])) (tl:=([])) (N:=5) (T:=3) (K:=5) (l:=x4.free) rfl rfl) ?_
 refine zA (zT (k:=3) (o:=0) (m:=10) Tryz.isAgg51 Tryz.sizeOf51 rfl rfl rfl rfl rfl)<|zi (H':=[.box 51 (zO C),.box 51 (zO (⟨x4.node,x4.kind,x4.start,x4.count,x4.min,x4.free⟩:zj)),.dead,.box 51 ([li x4.node]++([li x4.kind]++([li x4.start]++([li x4.count]++([li x4.min]++((cA 5 (eS cI) ([]:List Int) x4.free)++[]))))))]) (zZ (k:=1) (o:=0) (cs:=([li 0]++([li 0]++([li 0]++([li 0]++([li 0]++((cA 5 (eS cI) ([]:List Int) (List.replicate 5 ([]:List Int)))++[]))))))) (la:=(zO (⟨x4.node,x4.kind,x4.start,x4.count,x4.min,x4.free⟩:zj))) Tryz.sizeOf51 rfl rfl rfl rfl)<|zA (zD rfl)<|zF<|zb ?_
 cases h
 exact zBx (zFc Tryz.isAgg51 Tryz.sizeOf51 rfl rfl rfl rfl) (zAH rfl rfl) rfl
theorem zJ7 {B:zJ} {C:Int} {uK:List Int} {r:zJ} (h:zFT B C uK=some r):AFn Tryz.prog 68 [AV.ptr 0 0,li C,ls cI uK] [.box 26 ([ls cI B.nodes]++([li B.batch]++([li B.high]++([AV.osl 51 10 (List.map zO B.zones)]++([AV.osl 55 1 (List.map zG B.caches)]++[])))))] (.tup []) [.box 26 ([ls cI r.nodes]++([li r.batch]++([li r.high]++([AV.osl 51 10 (List.map zO r.zones)]++([AV.osl 55 1 (List.map zG r.caches)]++[])))))]:=by
 refine zEp Tryz.func68 rfl Tryz.ntmps68 Tryz.results68 rfl ?_
 unfold zFT at h
 refine zH<|zC<|zA (zB rfl)<|zA (zW Tryz.underlying22 rfl)<|zA (zB rfl)<|zF ?_
 refine zQ<|zq (σ:=Int×(List zj)) (fun (i1,l1)=>mkE [(0,(AV.ptr 0 0)),(1,(li C)),(10,(ls cI uK)),(11,(li (uK.length:Int))),(12,(li i1))]) (fun (i1,l1)=>[.box 26 [ls cI B.nodes,li B.batch,li B.high,AV.osl 51 10 (List.map zO l1),AV.osl 55 1 (List.map zG B.caches)]]) (fun n0 (i1,l1)=>zDL B C uK n0 i1 l1) (0,B.zones) h (fun _=>rfl) (z8 [0] rfl rfl (by kernel_rfl)) ?_
 clear h
 rintro n0 ⟨i1,l1⟩ h
 replace h:zCd B C uK (zDL B C uK n0) i1 l1=some r:=h
 unfold zCd at h
 refine zH<|zC<|zA (zf rfl rfl)<|zF<|zH ?_
 refine zY h rfl (fun b1 h => ?_) (fun b1 h => ?_)
 ·refine zP ?_
  refine zu (r:=r) (fun (l2:List zj)=>mkE [(0,(AV.ptr 0 0)),(1,(li C)),(10,(ls cI uK)),(11,(li (uK.length:Int))),(12,(li i1))]) (fun l2=>[.box 26 [ls cI B.nodes,li B.batch,li B.high,AV.osl 51 10 (List.map zO l2),AV.osl 55 1 (List.map zG B.caches)]]) (fun l2=>zEt (zDL B C uK n0) i1 l2) ?_ ?_
  ·
   refine zQ<|zH<|zC<|zM h fun b3 h=>zA (zS Tryz.underlying22 Tryz.sizeOf3 (fun _=>rfl) rfl rfl b3)<|zA (zU (o:=0) Tryz.isAgg3 rfl rfl) ?_
   refine zA (zD rfl)<|zF<|zH<|zC<|zA (zB rfl)<|zA (z9 rfl) ?_
   refine zA (zK Tryz.underlying26 rfl rfl Tryz.sizeOf23 rfl)<|zAC (zAo (k:=0) (o:=3) (t':=51) (sz:=10) (rows:=List.map zO l1) rfl rfl)<|zA (zN Tryz.isAgg23 rfl rfl rfl rfl)<|zA (zB rfl)<|zM h fun b4 h=>zA (z5 (f:=zO) (l:=l1) (i:=C) Tryz.underlying23 Tryz.sizeOf51 rfl rfl rfl b4) ?_
   refine zA (zBu (f:=zO) (l:=l1) (i:=C) (c:=0) (q:=10) (la:=(zO (at_ l1 C))) Tryz.isAgg51 Tryz.sizeOf51 rfl rfl (by first | rfl | omega) b4 rfl rfl rfl)<|zA (zB rfl)<|zR h fun x1 w1 h=>zh Tryz.func71 rfl (by kernel_rfl) (.fn 71) rfl rfl (zO9 w1) rfl<|zA (zB rfl)<|zA (zd rfl rfl) ?_
   refine zA (zd rfl rfl)<|za (H':=[.box 26 [ls cI B.nodes,li B.batch,li B.high,AV.hd 1,AV.osl 55 1 (List.map zG B.caches)],.vec 51 10 (List.map zO l1),.box 51 (zO ⟨0,0,0,0,0,(List.replicate 5 ([]:List Int))⟩)]) zv0<|zi (H':=[.box 26 [ls cI B.nodes,li B.batch,li B.high,AV.hd 1,AV.osl 55 1 (List.map zG B.caches)],.vec 51 10 (List.map zO l1),.box 51 (zO x1.1)]) (zZ (k:=2) (o:=0) (cs:=(zO ⟨0,0,0,0,0,(List.replicate 5 ([]:List Int))⟩)) (la:=(zO x1.1)) Tryz.sizeOf51 rfl rfl rfl rfl)<|zA (zD rfl)<|zF<|zH ?_
   refine zC<|zA (zB rfl)<|zA (zAz rfl rfl)<|zF ?_
   refine zY h rfl (fun b5 h => ?_) (fun b5 h => ?_)
   ·refine zAl (n:=38) (m:=1) [.head 0 0,.head 0 0,.head 0 0,.head 0 0,.head 0 0,.head 0 0,.head 0 0,.tail 0] [7] [AV.ptr 0 0,AV.ptr 0 0,AV.ptr 0 3,AV.hd 1,li C,(AV.agg (zO x1.1)),(AV.ptr 1 (C.toNat*10)),.any] [[.box 26 [ls cI B.nodes,li B.batch,li B.high,AV.hd 1,AV.osl 55 1 (List.map zG B.caches)],.vec 51 10 (List.map zO l1),.box 51 (zO x1.1)],[.box 26 [ls cI B.nodes,li B.batch,li B.high,AV.hd 1,AV.osl 55 1 (List.map zG B.caches)],.vec 51 10 (List.map zO (l1.set C.toNat x1.1)),.box 51 (zO x1.1)]] (by kernel_rfl) (by kernel_rfl) ⟨D1 fun e s p=>zB (s 0 rfl),D1 fun e s p=>z9 p.1,D1 fun e s p=>zK (k:=0) (o:=0) (off:=3) Tryz.underlying26 rfl rfl Tryz.sizeOf23 p.1,D1 fun e s p=>zN (k:=0) (o:=3) Tryz.isAgg23 p.1 rfl rfl rfl,D1 fun e s p=>zB (s 1 rfl),D1 fun e s p=>zT (k:=2) (o:=0) (m:=10) Tryz.isAgg51 Tryz.sizeOf51 (s 8 rfl) rfl rfl rfl rfl,D1 fun e s p=>z5 (f:=zO) (l:=l1) (i:=C) Tryz.underlying23 Tryz.sizeOf51 p.2.2.2.2.2.1 rfl p.2.2.2.2.2.2.1 b4,?_,trivial⟩ ?_
    ·
     intro e8 s8 p8
     refine zi (H':=[.box 26 [ls cI B.nodes,li B.batch,li B.high,AV.hd 1,AV.osl 55 1 (List.map zG B.caches)],.vec 51 10 (List.map zO (l1.set C.toNat x1.1)),.box 51 (zO x1.1)]) (zBZ (k:=1) (o:=(C.toNat*10)) (f:=zO) (l:=l1) (i:=C) (z:=x1.1) Tryz.sizeOf51 (fun _=>rfl) (by exact p8.1) rfl (by first | rfl | omega) b4 (by exact p8.2.2.2.2.2.2.2.1) rfl) ?_
     exact zF ⟨fun _=>rfl,rfl⟩
    intro e9 s9 hq1
    exact ⟨l1.set C.toNat x1.1,Rep.trans (zBL (l:=[(0,(AV.ptr 0 0)),(1,(li C)),(10,(ls cI uK)),(11,(li (uK.length:Int))),(12,(li i1))]) ⟨s9 0 rfl,s9 1 rfl,s9 10 rfl,s9 11 rfl,s9 12 rfl,trivial⟩) (Rep.trans (zAA (k:=0) (j:=1) (o:=3) (cs:=[ls cI B.nodes,li B.batch,li B.high,AV.hd 1,AV.osl 55 1 (List.map zG B.caches)]) rfl rfl rfl rfl) (z8 [0] (l:=[(0,(AV.ptr 0 0)),(1,(li C)),(10,(ls cI uK)),(11,(li (uK.length:Int))),(12,(li i1))]) rfl rfl (by kernel_rfl))),h⟩
   refine zP ?_
   exact ⟨l1,Rep.trans (zAA (k:=0) (j:=1) (o:=3) rfl rfl rfl rfl) (z8 [0] (l:=[(0,(AV.ptr 0 0)),(1,(li C)),(10,(ls cI uK)),(11,(li (uK.length:Int))),(12,(li i1))]) rfl rfl (by kernel_rfl)),h⟩
  clear h
  intro l2 h
  unfold zEt at h
  refine zC<|zM h fun b2 h=>zA (ze rfl rfl b2)<|zA (zB rfl)<|zF ?_
  exact ⟨((i1+1),l2),z8 [0] rfl rfl (by kernel_rfl),h⟩
 refine zx ?_
 cases h
 exact ⟨mkE [],[.box 26 [ls cI B.nodes,li B.batch,li B.high,AV.osl 51 10 (List.map zO l1),AV.osl 55 1 (List.map zG B.caches)]],z8 [0] rfl rfl (by kernel_rfl),zLZ rfl⟩
theorem zHY {B:zJ} {uA:Int} {C:Int} {r:zJ} (h:zDR B uA C=some r):AFn Tryz.prog 56 [AV.ptr 0 0,li uA,li C] [.box 26 ([ls cI B.nodes]++([li B.batch]++([li B.high]++([AV.osl 51 10 (List.map zO B.zones)]++([AV.osl 55 1 (List.map zG B.caches)]++[])))))] (.tup []) [.box 26 ([ls cI r.nodes]++([li r.batch]++([li r.high]++([AV.osl 51 10 (List.map zO r.zones)]++([AV.osl 55 1 (List.map zG r.caches)]++[])))))]:=by
 refine zEp Tryz.func56 rfl Tryz.ntmps56 Tryz.results56 rfl ?_
 unfold zDR at h
 refine zH<|zC<|zA (zB rfl)<|zA (z9 rfl)<|zA (zK Tryz.underlying26 rfl rfl Tryz.sizeOf24 rfl)<|zAC (zAo (k:=0) (o:=4) (t':=55) (sz:=1) (rows:=List.map zG B.caches) rfl rfl) ?_
 refine zA (zN Tryz.isAgg24 rfl rfl rfl rfl)<|zA (zB rfl)<|zM h fun b1 h=>zA (z5 (f:=zG) (l:=B.caches) (i:=uA) Tryz.underlying24 Tryz.sizeOf55 rfl rfl rfl b1)<|zA (zBu (f:=zG) (l:=B.caches) (i:=uA) (c:=0) (q:=1) (la:=(zG (at_ B.caches uA))) Tryz.isAgg55 Tryz.sizeOf55 rfl rfl (by first | rfl | omega) b1 rfl rfl rfl)<|zA (zB rfl) ?_
 refine zR h fun x1 w1 h=>zh Tryz.func110 rfl (by kernel_rfl) (.fn 110) rfl rfl (zNi w1) rfl<|zA (zB rfl)<|zA (zd rfl rfl)<|zA (zd rfl rfl)<|zA (zd rfl rfl) ?_
 refine za (H':=[.box 26 [ls cI B.nodes,li B.batch,li B.high,AV.osl 51 10 (List.map zO B.zones),AV.hd 1],.vec 55 1 (List.map zG B.caches),.box 55 [(ls (cS cI) ([]:List (List Int)))]]) zv1<|zi (H':=[.box 26 [ls cI B.nodes,li B.batch,li B.high,AV.osl 51 10 (List.map zO B.zones),AV.hd 1],.vec 55 1 (List.map zG B.caches),.box 55 (zG x1.1)]) (zZ (k:=2) (o:=0) (cs:=[(ls (cS cI) ([]:List (List Int)))]) (la:=(zG x1.1)) Tryz.sizeOf55 rfl rfl rfl rfl)<|zA (zD rfl)<|zA (zD rfl)<|zF<|zH ?_
 refine zC<|zA (zB rfl)<|zA (zAz rfl rfl)<|zF ?_
 refine zY h rfl (fun b2 h => ?_) (fun b2 h => ?_)
 ·refine zH ?_
  refine zAl (n:=35) (m:=1) [.head 0 0,.head 0 0,.head 0 0,.head 0 0,.head 0 0,.head 0 0,.head 0 0,.tail 0] [7] [AV.ptr 0 0,AV.ptr 0 0,AV.ptr 0 4,AV.hd 1,li uA,(AV.agg (zG x1.1)),(AV.ptr 1 (uA.toNat*1)),.any] [[.box 26 [ls cI B.nodes,li B.batch,li B.high,AV.osl 51 10 (List.map zO B.zones),AV.hd 1],.vec 55 1 (List.map zG B.caches),.box 55 (zG x1.1)],[.box 26 [ls cI B.nodes,li B.batch,li B.high,AV.osl 51 10 (List.map zO B.zones),AV.hd 1],.vec 55 1 (List.map zG (B.caches.set uA.toNat x1.1)),.box 55 (zG x1.1)]] (by kernel_rfl) (by kernel_rfl) ⟨D1 fun e s p=>zB (s 0 rfl),D1 fun e s p=>z9 p.1,D1 fun e s p=>zK (k:=0) (o:=0) (off:=4) Tryz.underlying26 rfl rfl Tryz.sizeOf24 p.1,D1 fun e s p=>zN (k:=0) (o:=4) Tryz.isAgg24 p.1 rfl rfl rfl,D1 fun e s p=>zB (s 1 rfl),D1 fun e s p=>zT (k:=2) (o:=0) (m:=1) Tryz.isAgg55 Tryz.sizeOf55 (s 6 rfl) rfl rfl rfl rfl,D1 fun e s p=>z5 (f:=zG) (l:=B.caches) (i:=uA) Tryz.underlying24 Tryz.sizeOf55 p.2.2.2.2.2.1 rfl p.2.2.2.2.2.2.1 b1,?_,trivial⟩ ?_
  ·
   intro e8 s8 p8
   refine zi (H':=[.box 26 [ls cI B.nodes,li B.batch,li B.high,AV.osl 51 10 (List.map zO B.zones),AV.hd 1],.vec 55 1 (List.map zG (B.caches.set uA.toNat x1.1)),.box 55 (zG x1.1)]) (zBZ (k:=1) (o:=(uA.toNat*1)) (f:=zG) (l:=B.caches) (i:=uA) (z:=x1.1) Tryz.sizeOf55 (fun _=>rfl) (by exact p8.1) rfl (by first | rfl | omega) b1 (by exact p8.2.2.2.2.2.2.2.1) rfl) ?_
   exact zF ⟨fun _=>rfl,rfl⟩
  intro e9 s9 hq1
  refine zAT (zBL (l:=[(0,(AV.ptr 0 0)),(2,(li C)),(7,(ls cI x1.2.1))]) ⟨s9 0 rfl,s9 2 rfl,s9 7 rfl,trivial⟩)<|zC<|zA (zB (av:=(AV.ptr 0 0)) rfl)<|zA (zB (av:=(li C)) rfl)<|zA (zB (av:=(ls cI x1.2.1)) rfl)<|zAC (zAA (k:=0) (j:=1) (o:=4) (cs:=[ls cI B.nodes,li B.batch,li B.high,AV.osl 51 10 (List.map zO B.zones),AV.hd 1]) rfl rfl rfl rfl) ?_
  refine zR h fun x2 w2 h=>zCo (k:=0) (la:=[AV.ptr 0 0,li C,ls cI x1.2.1]) (la':=[AV.ptr 0 0,li C,ls cI x1.2.1]) (r:=(.tup [])) (S:=[]) (en' := .box 26 [ls cI x2.nodes,li x2.batch,li x2.high,AV.osl 51 10 (List.map zO x2.zones),AV.osl 55 1 (List.map zG x2.caches)]) Tryz.func68 rfl (by kernel_rfl) (.fn 68) rfl ⟨zBv.ptr,zBv.of (zAx.nr rfl),zBv.of (zAx.nr rfl),trivial⟩ rfl rfl (by kernel_rfl) (by kernel_rfl) (zJ7 w2) rfl (.inl rfl)<|zF ?_
  cases h
  exact ⟨mkE [],[.box 26 [ls cI x2.nodes,li x2.batch,li x2.high,AV.osl 51 10 (List.map zO x2.zones),AV.osl 55 1 (List.map zG x2.caches)]],z8 [0] rfl rfl (by kernel_rfl),zLZ rfl⟩
 refine zP ?_
 cases h
 exact ⟨mkE [],[.box 26 [ls cI B.nodes,li B.batch,li B.high,AV.osl 51 10 (List.map zO B.zones),AV.osl 55 1 (List.map zG B.caches)]],Rep.trans (zAA (k:=0) (j:=1) (o:=4) rfl rfl rfl rfl) (z8 [0] (l:=[]) rfl rfl (by kernel_rfl)),zLZ rfl⟩
theorem zN4 {J:zL} {M:Int} {r:zL×Int×Int} (h:zJO J M=some r):PFn Tryz.prog 57 [(AV.agg (zG J)),li M] (AV.tup [(AV.agg (zG r.1)),li r.2.1,li r.2.2]):=by
 refine zo Tryz.func57 rfl Tryz.ntmps57 Tryz.results57 rfl ?_
 unfold zJO at h
 refine zH<|zC<|za (H':=[.box 55 (zG J)]) (zv (t:=55) rfl)<|za (H':=[.box 55 (zG J),.box 55 [(ls (cS cI) ([]:List (List Int)))]]) zv1<|zA (zD rfl)<|zA (zD rfl) ?_
 refine zF<|zH<|zH<|zC<|zA (zT (k:=0) (o:=0) (m:=1) Tryz.isAgg55 Tryz.sizeOf55 rfl rfl rfl rfl rfl)<|zA (zB rfl) ?_
 refine zR h fun x1 w1 h=>zh Tryz.func111 rfl (by kernel_rfl) (.fn 111) rfl rfl (zHq w1) rfl<|zA (zD rfl)<|zF<|zH<|zC ?_
 refine zA (zB rfl)<|zA (zz rfl rfl)<|zF ?_
 refine zY h rfl (fun b1 h => ?_) (fun b1 h => ?_)
 ·refine zH<|zC<|zA zv2<|zA (zB rfl)<|zi (H':=[.box 55 (zG J),.box 55 (zG (⟨([]:List (List Int))⟩:zL))]) (zZ (k:=1) (o:=0) (cs:=[(ls (cS cI) ([]:List (List Int)))]) (la:=(zG (⟨([]:List (List Int))⟩:zL))) Tryz.sizeOf55 rfl rfl rfl rfl)<|zA (zD rfl) ?_
  refine zA (zD rfl)<|zF<|zb ?_
  cases h
  exact zCW (zFc Tryz.isAgg55 Tryz.sizeOf55 rfl rfl rfl rfl) (zAH rfl rfl) (zAH rfl rfl) rfl
 refine zP<|zH<|zC<|zA (zK Tryz.underlying55 rfl rfl Tryz.sizeOf53 rfl)<|zA (zN Tryz.isAgg53 rfl rfl rfl rfl)<|zA (zB rfl) ?_
 refine zM h fun b2 h=>zA (zS Tryz.underlying53 Tryz.sizeOf22 (fun _=>rfl) rfl rfl b2)<|zA (zU (o:=0) Tryz.isAgg22 rfl rfl)<|zA (zD rfl)<|zF<|zH ?_
 refine zH<|zC<|zA (zB rfl)<|zA (zW Tryz.underlying22 rfl)<|zA (zAz rfl rfl)<|zF ?_
 refine zY h rfl (fun b3 h => ?_) (fun b3 h => ?_)
 ·refine zH<|zC<|zA zv2<|zi (H':=[.box 55 (zG J),.box 55 (zG (⟨([]:List (List Int))⟩:zL))]) (zZ (k:=1) (o:=0) (cs:=[(ls (cS cI) ([]:List (List Int)))]) (la:=(zG (⟨([]:List (List Int))⟩:zL))) Tryz.sizeOf55 rfl rfl rfl rfl)<|zA (zD rfl)<|zA (zD rfl) ?_
  refine zF<|zb ?_
  cases h
  exact zCW (zFc Tryz.isAgg55 Tryz.sizeOf55 rfl rfl rfl rfl) (zAH rfl rfl) (zAH rfl rfl) rfl
 refine zP<|zH<|zC<|zA (zB rfl)<|zA (zW Tryz.underlying22 rfl)<|zM h fun b4 h => ?_
 refine zA (zBU rfl rfl b4)<|zA (zD rfl)<|zF<|zH<|zM h fun b5 h=>zR h fun x2 w2 h => ?_
 refine zM h fun b6 h => ?_
 refine zAl (n:=39) (m:=0) [.head 0 0,.head 0 0,.head 0 0,.head 0 0,.head 0 0,.head 0 0,.head 0 1,.head 0 1,.head 0 1,.head 0 1,.tail 0,.head 1 1,.head 1 1] [10] [(AV.agg (zG J)),li M,(ls cI (at_ J.lists M)),(li (((at_ J.lists M).length:Int) - 1)),(ls cI (zHt (at_ J.lists M) 0 (((at_ J.lists M).length:Int) - 1))),(AV.agg (zG x2)),(ls cI (at_ J.lists M)),(li (((at_ J.lists M).length:Int) - 1)),(AV.rp (cI (at_ (at_ J.lists M) (((at_ J.lists M).length:Int) - 1))) 0),(li (at_ (at_ J.lists M) (((at_ J.lists M).length:Int) - 1))),.any,(li (at_ (at_ J.lists M) (((at_ J.lists M).length:Int) - 1))),li 0] [[.box 55 (zG J),.box 55 [(ls (cS cI) ([]:List (List Int)))]],[.box 55 (zG J),.box 55 (zG x2)]] (by kernel_rfl) (by kernel_rfl) ⟨D1 fun e s p=>zT (k:=0) (o:=0) (m:=1) Tryz.isAgg55 Tryz.sizeOf55 (s 2 rfl) rfl rfl rfl rfl,D1 fun e s p=>zB (s 1 rfl),D1 fun e s p=>zB (s 8 rfl),D1 fun e s p=>zB (s 9 rfl),D1 fun e s p=>zNk (hi:=((at_ J.lists M).length:Int) - 1) (f:=cI) (l:=at_ J.lists M) Tryz.underlying22 Tryz.sizeOf3 (fun _=>rfl) p.1 p.2.1 b5,?_,⟨D1 fun e s p=>zB (s 8 rfl),D1 fun e s p=>zB (s 8 rfl)⟩,⟨D1 fun e s p=>zB (s 9 rfl),D1 fun e s p=>zB (s 9 rfl)⟩,⟨D1 fun e s p=>zS (f:=cI) (l:=at_ J.lists M) (i:=((at_ J.lists M).length:Int) - 1) Tryz.underlying22 Tryz.sizeOf3 (fun _=>rfl) p.1 p.2.1 b6,D1 fun e s p=>zS (f:=cI) (l:=at_ J.lists M) (i:=((at_ J.lists M).length:Int) - 1) Tryz.underlying22 Tryz.sizeOf3 (fun _=>rfl) p.1 p.2.1 b6⟩,⟨D1 fun e s p=>zU (o:=0) Tryz.isAgg3 p.1 rfl,D1 fun e s p=>zU (o:=0) Tryz.isAgg3 p.1 rfl⟩,?_,D1 fun e s p=>zD p.2.2.2.2.2.2.2.2.2.2.2.1,D1 fun e s p=>zD rfl,trivial⟩ ?_
 ·
  intro e6 s6 p6
  refine zh (r:=(AV.agg (zG x2))) (la:=[(AV.agg (zG J)),li M,(ls cI (zHt (at_ J.lists M) 0 (((at_ J.lists M).length:Int) - 1)))]) Tryz.func112 rfl (by kernel_rfl) (.fn 112) (zAN p6.1 (zAN p6.2.1 (zAN p6.2.2.1 rfl))) rfl (zEs w2) rfl ?_
  exact zF ⟨fun _=>rfl,rfl⟩
 ·
  intro e15 s15 p15
  refine zi (H':=[.box 55 (zG J),.box 55 (zG x2)]) (zZ (k:=1) (o:=0) (cs:=[(ls (cS cI) ([]:List (List Int)))]) (la:=(zG x2)) Tryz.sizeOf55 (by exact (s15 4 rfl)) rfl rfl (by exact p15.2.2.2.2.2.2.2.1)) ?_
  exact zF ⟨fun _=>rfl,rfl⟩
 intro e18 s18 hq1
 refine zAT (zBL (l:=[(4,(AV.ptr 1 0)),(5,(li (at_ (at_ J.lists M) (((at_ J.lists M).length:Int) - 1)))),(6,(li 0))]) ⟨s18 4 rfl,(hq1 11 (by decide) (by decide)),(hq1 12 (by decide) (by decide)),trivial⟩)<|zb ?_
 cases h
 exact zCW (zFc Tryz.isAgg55 Tryz.sizeOf55 rfl rfl rfl rfl) (zAH rfl rfl) (zAH rfl rfl) rfl
theorem zJh {A:zJ} {D:Int} {G:Bool} {X:Bool} {r:zJ×Int×Int} (h:zEq A D G X=some r):PFn Tryz.prog 23 [(AV.agg (zI A)),li D,(AV.lit (.bool G)),(AV.lit (.bool X))] (AV.tup [(AV.agg (zI r.1)),li r.2.1,li r.2.2]):=by
 refine zo Tryz.func23 rfl Tryz.ntmps23 Tryz.results23 rfl ?_
 unfold zEq at h
 refine zH<|zC<|za (H':=[.box 26 (zI A)]) (zv (t:=26) rfl)<|za (H':=[.box 26 (zI A),.box 26 (zI ⟨[],0,0,[],[]⟩)]) zv3<|zA (zD rfl)<|zA (zD rfl) ?_
 refine zF<|zH<|zH<|zC<|zA (zT (k:=0) (o:=0) (m:=5) Tryz.isAgg26 Tryz.sizeOf26 rfl rfl rfl rfl rfl)<|zR h fun x1 w1 h => ?_
 refine zh Tryz.func13 rfl (by kernel_rfl) (.fn 13) rfl rfl (zBE w1) rfl<|zA (zD rfl)<|zF<|zH<|zC<|zA (zB rfl) ?_
 refine zA (zz rfl rfl)<|zF ?_
 refine zY h rfl (fun b1 h => ?_) (fun b1 h => ?_)
 ·refine zH<|zC<|zA zQV<|zA (zB rfl)<|zi (H':=[.box 26 (zI A),.box 26 (zI (⟨([]:List Int),0,0,([]:List zj),([]:List zL)⟩:zJ))]) (zZ (k:=1) (o:=0) (cs:=(zI ⟨[],0,0,[],[]⟩)) (la:=(zI (⟨([]:List Int),0,0,([]:List zj),([]:List zL)⟩:zJ))) Tryz.sizeOf26 rfl rfl rfl rfl)<|zA (zD rfl) ?_
  refine zA (zD rfl)<|zF<|zb ?_
  cases h
  exact zCW (zFc Tryz.isAgg26 Tryz.sizeOf26 rfl rfl rfl rfl) (zAH rfl rfl) (zAH rfl rfl) rfl
 refine zP<|zH<|zH<|zC<|zA (zB rfl)<|zA (zf rfl rfl) ?_
 refine zA (zB rfl)<|zX rfl rfl (fun c1=>zp.step (zB rfl))<|zX rfl rfl (fun c2=>zp.step (zK Tryz.underlying26 rfl rfl Tryz.sizeOf22 rfl))<|zX rfl rfl (fun c3=>zp.step (zN Tryz.isAgg22 (z6 rfl c3) rfl rfl rfl))<|zX rfl rfl (fun c4=>zp.step (zW Tryz.underlying22 (z6 rfl c4)))<|zX rfl rfl (fun c5=>zp.step (zAv (z6 rfl c5) (z6 rfl c5))) ?_
 refine zA (zg rfl rfl)<|zF ?_
 refine zY h rfl (fun b2 h => ?_) (fun b2 h => ?_)
 ·refine zH<|zC<|zA zQV<|zi (H':=[.box 26 (zI A),.box 26 (zI (⟨([]:List Int),0,0,([]:List zj),([]:List zL)⟩:zJ))]) (zZ (k:=1) (o:=0) (cs:=(zI ⟨[],0,0,[],[]⟩)) (la:=(zI (⟨([]:List Int),0,0,([]:List zj),([]:List zL)⟩:zJ))) Tryz.sizeOf26 rfl rfl rfl rfl)<|zA (zD rfl)<|zA (zD rfl) ?_
  refine zF<|zb ?_
  cases h
  exact zCW (zFc Tryz.isAgg26 Tryz.sizeOf26 rfl rfl rfl rfl) (zAH rfl rfl) (zAH rfl rfl) rfl
 refine zP<|zH<|zM h fun b3 h=>zR h fun x2 w2 h => ?_
 refine zAl (n:=131) (m:=0) [.head 0 0,.head 0 0,.head 0 0,.head 0 0,.head 0 0,.head 0 0,.head 0 0,.head 0 0,.head 0 0,.head 0 0,.head 0 0,.head 0 0,.head 0 0,.head 0 0] [] [AV.ptr 0 3,ls zO A.zones,AV.ptr 0 0,ls cI A.nodes,li D,(AV.rp (cI (at_ A.nodes D)) 0),(li (at_ A.nodes D)),(AV.lit (.bool G)),(AV.tup [ls cI x2.1,li x2.2]),(AV.tup [ls cI x2.1,li x2.2]),ls cI x2.1,li x2.2,ls cI x2.1,li x2.2] [[.box 26 (zI A),.box 26 (zI ⟨[],0,0,[],[]⟩)]] (by kernel_rfl) (by kernel_rfl) ⟨D1 fun e s p=>zK (k:=0) (o:=0) (off:=3) Tryz.underlying26 rfl rfl Tryz.sizeOf23 (s 4 rfl),D1 fun e s p=>zN (k:=0) (o:=3) Tryz.isAgg23 p.1 rfl rfl rfl,D1 fun e s p=>zK (k:=0) (o:=0) (off:=0) Tryz.underlying26 rfl rfl Tryz.sizeOf22 (s 4 rfl),D1 fun e s p=>zN (k:=0) (o:=0) Tryz.isAgg22 p.1 rfl rfl rfl,D1 fun e s p=>zB (s 1 rfl),D1 fun e s p=>zS (f:=cI) (l:=A.nodes) (i:=D) Tryz.underlying22 Tryz.sizeOf3 (fun _=>rfl) p.1 p.2.1 b3,D1 fun e s p=>zU (o:=0) Tryz.isAgg3 p.1 rfl,D1 fun e s p=>zB (s 2 rfl),?_,D1 fun e s p=>zB p.1,D1 fun e s p=>zd p.1 rfl,D1 fun e s p=>zd p.1 rfl,D1 fun e s p=>zD p.2.2.2.2.2.2.2.2.2.2.2.2.1,D1 fun e s p=>zD p.2.2.2.2.2.2.2.2.2.2.2.2.2.1,trivial⟩ ?_
 ·
  intro e9 s9 p9
  refine zh (r:=(AV.tup [ls cI x2.1,li x2.2])) (la:=[ls zO A.zones,(li (at_ A.nodes D)),(AV.lit (.bool G))]) Tryz.func53 rfl (by kernel_rfl) (.fn 53) (zAN p9.1 (zAN p9.2.1 (zAN p9.2.2.1 rfl))) rfl (zKD w2) rfl ?_
  exact zF ⟨fun _=>rfl,rfl⟩
 intro e15 s15 hq1
 refine zAT (zBL (l:=[(1,(li D)),(3,(AV.lit (.bool X))),(4,(AV.ptr 0 0)),(8,(AV.ptr 1 0)),(12,(ls cI x2.1))]) ⟨s15 1 rfl,s15 3 rfl,s15 4 rfl,s15 8 rfl,(hq1 12 (by decide) (by decide)),trivial⟩) ?_
 refine zu (r:=r) (fun (_:Unit)=>mkE [(8,(AV.ptr 0 0))]) (fun _=>[.box 26 (zI ⟨[],0,0,[],[]⟩)]) (fun _=>zHV ) ?_ ?_
 ·
  refine zH<|zC<|zA (zB rfl)<|zA (zW Tryz.underlying22 rfl)<|zA (zB rfl)<|zF ?_
  refine zQ<|zq (σ:=Int) (fun i1=>mkE [(1,(li D)),(3,(AV.lit (.bool X))),(4,(AV.ptr 0 0)),(8,(AV.ptr 1 0)),(49,(ls cI x2.1)),(50,(li (x2.1.length:Int))),(51,(li i1))]) (fun i1=>[.box 26 (zI A),.box 26 (zI ⟨[],0,0,[],[]⟩)]) (fun n0 i1=>zBh A D X x2 n0 i1) 0 h (fun _=>rfl) (z8 [0,1] rfl rfl (by kernel_rfl)) ?_
  clear h
  intro n0 i1 h
  replace h:zCM A D X x2 (zBh A D X x2 n0) i1=some r:=h
  unfold zCM at h
  refine zH<|zC<|zA (zf rfl rfl)<|zF<|zH ?_
  refine zY h rfl (fun b4 h => ?_) (fun b4 h => ?_)
  ·refine zP ?_
   refine zu (r:=r) (fun (_:Unit)=>mkE [(1,(li D)),(3,(AV.lit (.bool X))),(4,(AV.ptr 0 0)),(8,(AV.ptr 1 0)),(49,(ls cI x2.1)),(50,(li (x2.1.length:Int))),(51,(li i1))]) (fun _=>[.box 26 (zI A),.box 26 (zI ⟨[],0,0,[],[]⟩)]) (fun _=>zFa (zBh A D X x2 n0) i1) ?_ ?_
   ·
    refine zQ<|zH<|zC<|zM h fun b6 h=>zA (zS Tryz.underlying22 Tryz.sizeOf3 (fun _=>rfl) rfl rfl b6)<|zA (zU (o:=0) Tryz.isAgg3 rfl rfl) ?_
    refine zA (zD rfl)<|zF<|zH<|zH<|zC<|zA (zB rfl) ?_
    refine zA (zB rfl)<|zm rfl rfl (fun c6=>zp.step (zT (k:=0) (o:=0) (m:=5) Tryz.isAgg26 Tryz.sizeOf26 rfl rfl rfl rfl rfl))<|zm rfl rfl (fun c7=>zp.step (zB rfl))<|zR h fun x3 w3 h=>zCu (g:=56) (s:=X) (r':=(li x3)) rfl rfl (fun c8=>⟨52,_,_,[],[(AV.agg (zI A)),(li (at_ x2.1 i1))],[(AV.agg (zI A)),(li (at_ x2.1 i1))],li x3,[],Tryz.func52,rfl,by kernel_rfl,.fn 52,(zAN (z6 rfl c8) (zAN (z6 rfl c8) rfl)),⟨zAx.nr rfl,zAx.nr rfl,trivial⟩,zHP (zG3 c8 w3),.inl rfl,rfl⟩)<|zm rfl rfl (fun c9=>zp.step (zAz (z6 rfl c9) rfl)) ?_
    refine zA (zy (j := .lit undef) rfl rfl)<|zA (zB rfl)<|zX rfl rfl (fun c10=>zp.step (zB rfl))<|zX rfl rfl (fun c11=>zp.step (zBD (t:=X) (z6 rfl c11)))<|zX rfl rfl (fun c12=>zp.step (zB (z6 rfl c12)))<|zKT (g:=65) (s' := !(X&&(decide (x3=0)))) (s := !X) rfl rfl (fun c13=>zp.step (zT (k:=0) (o:=0) (m:=5) Tryz.isAgg26 Tryz.sizeOf26 rfl rfl rfl rfl rfl)) ?_
    refine zKT (g:=65) (s' := !(X&&(decide (x3=0)))) (s := !X) rfl rfl (fun c14=>zp.step (zB rfl))<|zR h fun x4 w4 h=>zNM (g:=65) (s' := !(X&&(decide (x3=0)))) (s := !X) (r':=(li x4)) rfl rfl (fun c15=>⟨39,_,_,[],[(AV.agg (zI A)),(li (at_ x2.1 i1))],[(AV.agg (zI A)),(li (at_ x2.1 i1))],li x4,[],Tryz.func39,rfl,by kernel_rfl,.fn 39,(zAN (z6 rfl c15) (zAN (z6 rfl c15) rfl)),⟨zAx.nr rfl,zAx.nr rfl,trivial⟩,zH4 (zG3 c15 w4),.inl rfl,rfl⟩)<|zKT (g:=65) (s' := !(X&&(decide (x3=0)))) (s := !X) rfl rfl (fun c16=>zp.step (zf (z6 rfl c16) rfl))<|zX rfl rfl (fun c17=>zp.step (zy (j := .lit undef) (z6 rfl c17) (zOe (c := !(X&&(decide (x3=0)))) (d := !X) (a:=(AV.lit (.bool (decide (x4<1))))) (j := .lit undef) rfl c17)))<|zA (zg rfl rfl) ?_
    refine zF ?_
    refine zY h rfl (fun b7 h => ?_) (fun b7 h => ?_)
    ·refine zx ?_
     exact ⟨(),z8 [0,1] rfl rfl (by kernel_rfl),h⟩
    refine zP<|zH<|zC<|zA (zT (k:=0) (o:=0) (m:=5) Tryz.isAgg26 Tryz.sizeOf26 rfl rfl rfl rfl rfl)<|zR h fun x5 w5 h=>zGX (cs:=[ls cI x5.nodes,li x5.batch,li x5.high,AV.osl 51 10 (List.map zO x5.zones),AV.osl 55 1 (List.map zG x5.caches)]) (la:=[(AV.agg (zI A))]) (la':=[(AV.agg (zI A))]) (S:=[]) Tryz.func54 rfl (by kernel_rfl) (.fn 54) rfl ⟨zAx.nr rfl,trivial⟩ (zFi w5) (.inl rfl) ?_
    refine za (H':=[.box 26 (zI A),.box 26 (zI ⟨[],0,0,[],[]⟩),.val (.agg [ls cI x5.nodes,li x5.batch,li x5.high,AV.osl 51 10 (List.map zO x5.zones),AV.osl 55 1 (List.map zG x5.caches)]),.box 26 (zI ⟨[],0,0,[],[]⟩)]) zv3<|zi (H':=[.box 26 (zI A),.box 26 (zI ⟨[],0,0,[],[]⟩),.dead,.box 26 [ls cI x5.nodes,li x5.batch,li x5.high,AV.osl 51 10 (List.map zO x5.zones),AV.osl 55 1 (List.map zG x5.caches)]]) (zCL (k:=3) (o:=0) (j:=2) (cs:=(zI ⟨[],0,0,[],[]⟩)) (la:=[ls cI x5.nodes,li x5.batch,li x5.high,AV.osl 51 10 (List.map zO x5.zones),AV.osl 55 1 (List.map zG x5.caches)]) Tryz.sizeOf26 rfl rfl rfl rfl rfl (by decide))<|zF ?_
    refine zu (r:=r) (fun ((d1,d2,d3,l1,l2):(List Int)×Int×Int×(List zj)×(List zL))=>mkE [(1,(li D)),(8,(AV.ptr 0 0)),(15,(li (at_ x2.1 i1))),(16,(AV.ptr 1 0))]) (fun (d1,d2,d3,l1,l2)=>[.box 26 (zI ⟨[],0,0,[],[]⟩),.box 26 [ls cI d1,li d2,li d3,AV.osl 51 10 (List.map zO l1),AV.osl 55 1 (List.map zG l2)]]) (fun (d1,d2,d3,l1,l2)=>zB9 D x2 i1 d1 d2 d3 l1 l2) ?_ ?_
    ·
     refine zH<|zC<|zA (zK Tryz.underlying26 rfl rfl Tryz.sizeOf24 rfl)<|zAC (zAo (k:=3) (o:=4) (t':=55) (sz:=1) (rows:=List.map zG x5.caches) rfl rfl)<|zA (zN Tryz.isAgg24 rfl rfl rfl rfl)<|zA (zB rfl) ?_
     refine zM h fun b10 h=>zA (z5 (f:=zG) (l:=x5.caches) (i:=D) Tryz.underlying24 Tryz.sizeOf55 rfl rfl rfl b10)<|zA (zK Tryz.underlying55 rfl rfl Tryz.sizeOf53 rfl)<|zA (zA1 (f:=zG) (l:=x5.caches) (i:=D) (c:=0) (a:=(ls (cS cI) ((at_ x5.caches D).lists))) Tryz.isAgg53 rfl rfl (by first | rfl | omega) b10 rfl rfl)<|zA (zB rfl)<|zM h fun b11 h => ?_
     refine zA (zS Tryz.underlying53 Tryz.sizeOf22 (fun _=>rfl) rfl rfl b11)<|zA (zU (o:=0) Tryz.isAgg22 rfl rfl)<|zA (zW Tryz.underlying22 rfl)<|zA (zAz rfl rfl)<|zA (zB rfl)<|zm rfl rfl (fun c18=>zp.step (zB rfl)) ?_
     refine zm rfl rfl (fun c19=>zp.step (zB rfl))<|zAC (zAA (k:=3) (j:=4) (o:=4) rfl rfl rfl rfl)<|zR h fun x7 w7 h=>zQl (g:=85) (s:=decide (((at_ ((at_ x5.caches D).lists) (at_ x2.1 i1)).length:Int)=0)) (k:=3) (r:=(AV.lit (.bool x7.2))) (en' := .box 26 [ls cI x7.1.nodes,li x7.1.batch,li x7.1.high,AV.osl 51 10 (List.map zO x7.1.zones),AV.osl 55 1 (List.map zG x7.1.caches)]) rfl rfl (fun c23=>⟨55,_,_,[],[AV.ptr 3 0,li D,(li (at_ x2.1 i1))],[AV.ptr 0 0,li D,(li (at_ x2.1 i1))],_,Tryz.func55,rfl,by kernel_rfl,.fn 55,(zAN rfl (zAN (z6 rfl c23) (zAN (z6 rfl c23) rfl))),⟨zBv.ptr,zBv.of (zAx.nr rfl),zBv.of (zAx.nr rfl),trivial⟩,rfl,by kernel_rfl,by kernel_rfl,zJW (zG3 c23 w7),rfl⟩) (fun c23=>by obtain rfl:=Option.some.inj (zWt c23 w7); rfl)<|zm rfl rfl (fun c24=>zp.step (zBD (t:=x7.2) (z6 rfl c24)))<|zA (zy (j := .lit undef) rfl rfl) ?_
     refine zF ?_
     refine zY h rfl (fun b12 h => ?_) (fun b12 h => ?_)
     ·refine zu (r:=r) (fun ((d4,d5,d6,l3,l4):(List Int)×Int×Int×(List zj)×(List zL))=>mkE [(1,(li D)),(8,(AV.ptr 0 0)),(15,(li (at_ x2.1 i1))),(16,(AV.ptr 1 0))]) (fun (d4,d5,d6,l3,l4)=>[.box 26 (zI ⟨[],0,0,[],[]⟩),.box 26 [ls cI d4,li d5,li d6,AV.osl 51 10 (List.map zO l3),AV.osl 55 1 (List.map zG l4)]]) (fun (d4,d5,d6,l3,l4)=>zCw D x2 i1 d4 d5 d6 l3 l4) ?_ ?_
      ·
       refine zH<|zC<|zA (zK Tryz.underlying26 rfl rfl Tryz.sizeOf24 rfl)<|zAC (zAo (k:=3) (o:=4) (t':=55) (sz:=1) (rows:=List.map zG x7.1.caches) rfl rfl)<|zA (zN Tryz.isAgg24 rfl rfl rfl rfl)<|zA (zDf (f:=zG) (l:=x7.1.caches) Tryz.underlying24 rfl rfl) ?_
       refine zA (zB rfl)<|zF<|zQ<|zq (σ:=Int×(List Int)×Int×Int×(List zj)×(List zL)) (fun (i2,d7,d8,d9,l5,l6)=>mkE [(1,(li D)),(8,(AV.ptr 0 0)),(15,(li (at_ x2.1 i1))),(16,(AV.ptr 1 0)),(93,(li (x7.1.caches.length:Int))),(94,(li i2))]) (fun (i2,d7,d8,d9,l5,l6)=>[.box 26 (zI ⟨[],0,0,[],[]⟩),.box 26 [ls cI d7,li d8,li d9,AV.osl 51 10 (List.map zO l5),AV.osl 55 1 (List.map zG l6)]]) (fun n1 (i2,d7,d8,d9,l5,l6)=>zCK D x2 i1 x7 n1 i2 d7 d8 d9 l5 l6) (0,x7.1.nodes,x7.1.batch,x7.1.high,x7.1.zones,x7.1.caches) h (fun _=>rfl) (Rep.trans (zAA (k:=3) (j:=5) (o:=4) rfl rfl rfl rfl) (z8 [1,3] (l:=[(1,(li D)),(8,(AV.ptr 0 0)),(15,(li (at_ x2.1 i1))),(16,(AV.ptr 1 0)),(93,(li (x7.1.caches.length:Int))),(94,(li 0))]) rfl rfl (by kernel_rfl))) ?_
       clear h
       rintro n1 ⟨i2,d7,d8,d9,l5,l6⟩ h
       replace h:zCH D x2 i1 x7 (zCK D x2 i1 x7 n1) i2 d7 d8 d9 l5 l6=some r:=h
       unfold zCH at h
       refine zH<|zC<|zA (zf rfl rfl)<|zF<|zH ?_
       refine zY h rfl (fun b13 h => ?_) (fun b13 h => ?_)
       ·refine zP ?_
        refine zu (r:=r) (fun ((d10,d11,d12,l7,l8):(List Int)×Int×Int×(List zj)×(List zL))=>mkE [(1,(li D)),(8,(AV.ptr 0 0)),(15,(li (at_ x2.1 i1))),(16,(AV.ptr 1 0)),(93,(li (x7.1.caches.length:Int))),(94,(li i2))]) (fun (d10,d11,d12,l7,l8)=>[.box 26 (zI ⟨[],0,0,[],[]⟩),.box 26 [ls cI d10,li d11,li d12,AV.osl 51 10 (List.map zO l7),AV.osl 55 1 (List.map zG l8)]]) (fun (d10,d11,d12,l7,l8)=>zDv (zCK D x2 i1 x7 n1) i2 d10 d11 d12 l7 l8) ?_ ?_
        ·
         refine zQ<|zH<|zC<|zA (zB rfl)<|zA (zD rfl)<|zF ?_
         refine zH<|zC<|zA (zB rfl)<|zA (zB rfl)<|zA (zz rfl rfl)<|zF ?_
         refine zY h rfl (fun b15 h => ?_) (fun b15 h => ?_)
         ·refine zC<|zA (zB rfl)<|zA (zB rfl)<|zR h fun x9 w9 h=>zCo (k:=1) (la:=[AV.ptr 1 0,li i2,(li (at_ x2.1 i1))]) (la':=[AV.ptr 0 0,li i2,(li (at_ x2.1 i1))]) (r:=(.tup [])) (S:=[]) (en' := .box 26 [ls cI x9.nodes,li x9.batch,li x9.high,AV.osl 51 10 (List.map zO x9.zones),AV.osl 55 1 (List.map zG x9.caches)]) Tryz.func56 rfl (by kernel_rfl) (.fn 56) rfl ⟨zBv.ptr,zBv.of (zAx.nr rfl),zBv.of (zAx.nr rfl),trivial⟩ rfl rfl (by kernel_rfl) (by kernel_rfl) (zHY w9) rfl (.inl rfl)<|zF ?_
          exact ⟨(x9.nodes,x9.batch,x9.high,x9.zones,x9.caches),z8 [0,1] rfl rfl (by kernel_rfl),h⟩
         refine zP ?_
         exact ⟨(d7,d8,d9,l5,l6),z8 [0,1] rfl rfl (by kernel_rfl),h⟩
        clear h
        rintro ⟨d10,d11,d12,l7,l8⟩ h
        unfold zDv at h
        refine zC<|zM h fun b14 h=>zA (ze rfl rfl b14)<|zA (zB rfl)<|zF ?_
        exact ⟨((i2+1),d10,d11,d12,l7,l8),z8 [0,1] rfl rfl (by kernel_rfl),h⟩
       refine zx ?_
       exact ⟨(d7,d8,d9,l5,l6),z8 [0,1] rfl rfl (by kernel_rfl),h⟩
      clear h
      rintro ⟨d4,d5,d6,l3,l4⟩ h
      unfold zCw at h
      refine zC<|zA (zB rfl)<|zA (zB rfl)<|zR h fun x8 w8 h=>zCo (k:=1) (la:=[AV.ptr 1 0,li D,(li (at_ x2.1 i1))]) (la':=[AV.ptr 0 0,li D,(li (at_ x2.1 i1))]) (r:=(AV.lit (.bool x8.2))) (S:=[]) (en' := .box 26 [ls cI x8.1.nodes,li x8.1.batch,li x8.1.high,AV.osl 51 10 (List.map zO x8.1.zones),AV.osl 55 1 (List.map zG x8.1.caches)]) Tryz.func55 rfl (by kernel_rfl) (.fn 55) rfl ⟨zBv.ptr,zBv.of (zAx.nr rfl),zBv.of (zAx.nr rfl),trivial⟩ rfl rfl (by kernel_rfl) (by kernel_rfl) (zJW w8) rfl (.inl rfl)<|zF ?_
      exact ⟨(x8.1.nodes,x8.1.batch,x8.1.high,x8.1.zones,x8.1.caches),z8 [0,1] rfl rfl (by kernel_rfl),h⟩
     refine zP ?_
     exact ⟨(x7.1.nodes,x7.1.batch,x7.1.high,x7.1.zones,x7.1.caches),z8 [1,3] rfl rfl (by kernel_rfl),h⟩
    clear h
    rintro ⟨d1,d2,d3,l1,l2⟩ h
    unfold zB9 at h
    refine zH<|zC<|zA (zK Tryz.underlying26 rfl rfl Tryz.sizeOf24 rfl)<|zAC (zAo (k:=1) (o:=4) (t':=55) (sz:=1) (rows:=List.map zG l2) rfl rfl)<|zA (zN Tryz.isAgg24 rfl rfl rfl rfl)<|zA (zB rfl) ?_
    refine zM h fun b8 h=>zA (z5 (f:=zG) (l:=l2) (i:=D) Tryz.underlying24 Tryz.sizeOf55 rfl rfl rfl b8)<|zA (zBu (f:=zG) (l:=l2) (i:=D) (c:=0) (q:=1) (la:=(zG (at_ l2 D))) Tryz.isAgg55 Tryz.sizeOf55 rfl rfl (by first | rfl | omega) b8 rfl rfl rfl)<|zA (zB rfl)<|zR h fun x6 w6 h=>zh Tryz.func57 rfl (by kernel_rfl) (.fn 57) rfl rfl (zN4 w6) rfl ?_
    refine zA (zB rfl)<|zA (zd rfl rfl)<|zA (zd rfl rfl)<|zA (zd rfl rfl)<|za (H':=[.box 26 (zI ⟨[],0,0,[],[]⟩),.box 26 [ls cI d1,li d2,li d3,AV.osl 51 10 (List.map zO l1),AV.hd 2],.vec 55 1 (List.map zG l2),.box 55 [(ls (cS cI) ([]:List (List Int)))]]) zv1<|zi (H':=[.box 26 (zI ⟨[],0,0,[],[]⟩),.box 26 [ls cI d1,li d2,li d3,AV.osl 51 10 (List.map zO l1),AV.hd 2],.vec 55 1 (List.map zG l2),.box 55 (zG x6.1)]) (zZ (k:=3) (o:=0) (cs:=[(ls (cS cI) ([]:List (List Int)))]) (la:=(zG x6.1)) Tryz.sizeOf55 rfl rfl rfl rfl) ?_
    refine zA (zD rfl)<|zA (zD rfl)<|zF<|zH<|zH<|zC ?_
    refine zA (zB rfl)<|zA (zz rfl rfl)<|zF ?_
    refine zY h rfl (fun b9 h => ?_) (fun b9 h => ?_)
    ·refine zH<|zC<|zA zQV<|zA (zB rfl)<|zi (H':=[.box 26 (zI (⟨([]:List Int),0,0,([]:List zj),([]:List zL)⟩:zJ)),.box 26 [ls cI d1,li d2,li d3,AV.osl 51 10 (List.map zO l1),AV.hd 2],.vec 55 1 (List.map zG l2),.box 55 (zG x6.1)]) (zZ (k:=0) (o:=0) (cs:=(zI ⟨[],0,0,[],[]⟩)) (la:=(zI (⟨([]:List Int),0,0,([]:List zj),([]:List zL)⟩:zJ))) Tryz.sizeOf26 rfl rfl rfl rfl)<|zA (zD rfl) ?_
     refine zA (zD rfl)<|zF<|zb ?_
     cases h
     exact zCW (zFc Tryz.isAgg26 Tryz.sizeOf26 rfl rfl rfl rfl) (zAH rfl rfl) (zAH rfl rfl) rfl
    refine zP<|zH<|zC<|zA (zK Tryz.underlying26 rfl rfl Tryz.sizeOf24 rfl)<|zA (zN Tryz.isAgg24 rfl rfl rfl rfl)<|zA (zB rfl) ?_
    refine zA (zT (k:=3) (o:=0) (m:=1) Tryz.isAgg55 Tryz.sizeOf55 rfl rfl rfl rfl rfl)<|zA (z5 (f:=zG) (l:=l2) (i:=D) Tryz.underlying24 Tryz.sizeOf55 rfl rfl rfl b8)<|zi (H':=[.box 26 (zI ⟨[],0,0,[],[]⟩),.box 26 [ls cI d1,li d2,li d3,AV.osl 51 10 (List.map zO l1),AV.hd 2],.vec 55 1 (List.map zG (l2.set D.toNat x6.1)),.box 55 (zG x6.1)]) (zBZ (k:=2) (o:=(D.toNat*1)) (f:=zG) (l:=l2) (i:=D) (z:=x6.1) Tryz.sizeOf55 (fun _=>rfl) rfl rfl (by first | rfl | omega) b8 rfl rfl)<|zF<|zH<|zC ?_
    refine zAC (zBl (k:=1) (o:=3) (rows':=List.map zO l1) rfl rfl (zAK (fun _=>rfl)))<|zAC (zAA (k:=1) (j:=2) (o:=4) rfl rfl rfl rfl)<|zAC (zBl (k:=1) (o:=4) (rows':=List.map zG (l2.set D.toNat x6.1)) rfl rfl (zAK (fun _=>rfl)))<|zA (zT (k:=1) (o:=0) (m:=5) Tryz.isAgg26 Tryz.sizeOf26 rfl rfl rfl rfl rfl)<|zA (zB rfl)<|zi (H':=[.box 26 (zI (⟨d1,d2,d3,l1,l2.set D.toNat x6.1⟩:zJ)),.box 26 (zI ⟨d1,d2,d3,l1,l2.set D.toNat x6.1⟩),.dead,.box 55 (zG x6.1)]) (zZ (k:=0) (o:=0) (cs:=(zI ⟨[],0,0,[],[]⟩)) (la:=(zI (⟨d1,d2,d3,l1,l2.set D.toNat x6.1⟩:zJ))) Tryz.sizeOf26 rfl rfl rfl rfl) ?_
    refine zA (zD rfl)<|zA (zD rfl)<|zF<|zb ?_
    cases h
    exact zCW (zFc Tryz.isAgg26 Tryz.sizeOf26 rfl rfl rfl rfl) (zAH rfl rfl) (zAH rfl rfl) rfl
   clear h
   intro _ h
   unfold zFa at h
   refine zC<|zM h fun b5 h=>zA (ze rfl rfl b5)<|zA (zB rfl)<|zF ?_
   exact ⟨(i1+1),z8 [0,1] rfl rfl (by kernel_rfl),h⟩
  refine zx ?_
  exact ⟨(),z8 [1] rfl rfl (by kernel_rfl),h⟩
 clear h
 intro _ h
 unfold zHV at h
 refine zH<|zC<|zA zQV<|zi (H':=[.box 26 (zI (⟨([]:List Int),0,0,([]:List zj),([]:List zL)⟩:zJ))]) (zZ (k:=0) (o:=0) (cs:=(zI ⟨[],0,0,[],[]⟩)) (la:=(zI (⟨([]:List Int),0,0,([]:List zj),([]:List zL)⟩:zJ))) Tryz.sizeOf26 rfl rfl rfl rfl)<|zA (zD rfl)<|zA (zD rfl) ?_
 refine zF<|zb ?_
 cases h
 exact zCW (zFc Tryz.isAgg26 Tryz.sizeOf26 rfl rfl rfl rfl) (zAH rfl rfl) (zAH rfl rfl) rfl
theorem zKB {Y:List Int} {uP:Int} {r:Int} (h:zDk Y uP=some r):PFn Tryz.prog 144 [ls cI Y,li uP] (li r):=by
 refine zo Tryz.func144 rfl Tryz.ntmps144 Tryz.results144 rfl ?_
 unfold zDk at h
 refine zH<|zC<|zA (zD rfl)<|zF ?_
 refine zu (r:=r) (fun (_:Unit)=>mkE []) (fun _=>[]) (fun _=>zEk ) ?_ ?_
 ·
  refine zH<|zC<|zA (zB rfl)<|zA (zW Tryz.underlying22 rfl)<|zA (zB rfl)<|zF ?_
  refine zQ<|zq (σ:=Int) (fun i1=>mkE [(0,(ls cI Y)),(1,(li uP)),(7,(li (Y.length:Int))),(8,(li i1))]) (fun i1=>[]) (fun n0 i1=>zBA Y uP n0 i1) 0 h (fun _=>rfl) (z8 [] rfl rfl (by kernel_rfl)) ?_
  clear h
  intro n0 i1 h
  replace h:zA8 Y uP (zBA Y uP n0) i1=some r:=h
  unfold zA8 at h
  refine zH<|zC<|zA (zf rfl rfl)<|zF<|zH ?_
  refine zY h rfl (fun b1 h => ?_) (fun b1 h => ?_)
  ·refine zP<|zH<|zQ<|zH<|zC<|zA (zB rfl) ?_
   refine zA (zD rfl)<|zF<|zH<|zC<|zA (zB rfl)<|zA (zB rfl) ?_
   refine zA (zB rfl)<|zM h fun b2 h=>zA (zS Tryz.underlying22 Tryz.sizeOf3 (fun _=>rfl) rfl rfl b2)<|zA (zU (o:=0) Tryz.isAgg3 rfl rfl)<|zA (zAz rfl rfl)<|zF ?_
   refine zY h rfl (fun b3 h => ?_) (fun b3 h => ?_)
   ·refine zH<|zC<|zA (zB rfl)<|zA (zD rfl)<|zF<|zb ?_
    cases h
    exact zt (zAH rfl rfl)
   refine zP<|zC<|zM h fun b4 h=>zA (ze rfl rfl b4)<|zA (zB rfl)<|zF ?_
   exact ⟨(i1+1),z8 [] rfl rfl (by kernel_rfl),h⟩
  refine zx ?_
  exact ⟨(),z8 [] rfl rfl (by kernel_rfl),h⟩
 clear h
 intro _ h
 unfold zEk at h
 refine zH<|zC<|zA (zD rfl)<|zF<|zb ?_
 cases h
 exact zt (zAH rfl rfl)
theorem zJN {Y:List Int} {uP:Int} {r:Bool} (h:zBw Y uP=some r):PFn Tryz.prog 128 [ls cI Y,li uP] (AV.lit (.bool r)):=by
 refine zo Tryz.func128 rfl Tryz.ntmps128 Tryz.results128 rfl ?_
 unfold zBw at h
 refine zH<|zC<|zA (zD rfl)<|zF<|zH<|zC ?_
 refine zA (zB rfl)<|zA (zB rfl)<|zR h fun x1 w1 h=>zh Tryz.func144 rfl (by kernel_rfl) (.fn 144) rfl rfl (zKB w1) rfl<|zA (zAv rfl rfl)<|zA (zD rfl) ?_
 refine zF<|zb ?_
 cases h
 exact zt (zAH rfl rfl)
theorem zLB {J:zL} {uI:Int} {uM:Int} {r:Bool} (h:zHF J uI uM=some r):PFn Tryz.prog 127 [(AV.agg (zG J)),(AV.rp [li uI] 0),(AV.rp [li uM] 0)] (AV.lit (.bool r)):=by
 refine zo Tryz.func127 rfl Tryz.ntmps127 Tryz.results127 rfl ?_
 unfold zHF at h
 refine zH<|zC<|za (H':=[.box 55 (zG J)]) (zv (t:=55) rfl)<|zA (zD rfl)<|zF<|zH ?_
 refine zM h fun b1 h=>zR h fun x1 w1 h => ?_
 refine zAl (n:=12) (m:=0) [.head 0 0,.head 0 0,.head 0 0,.head 0 0,.head 0 0,.head 0 0,.head 0 0,.head 0 0] [] [AV.ptr 0 0,(ls (cS cI) J.lists),li uI,(AV.rp ((cS cI) (at_ J.lists uI)) 0),(ls cI (at_ J.lists uI)),li uM,(AV.lit (.bool x1)),(AV.lit (.bool x1))] [[.box 55 (zG J)]] (by kernel_rfl) (by kernel_rfl) ⟨D1 fun e s p=>zK (k:=0) (o:=0) (off:=0) Tryz.underlying55 rfl rfl Tryz.sizeOf53 (s 3 rfl),D1 fun e s p=>zN (k:=0) (o:=0) Tryz.isAgg53 p.1 rfl rfl rfl,D1 fun e s p=>zU (o:=0) Tryz.isAgg3 (s 1 rfl) rfl,D1 fun e s p=>zS (f:=(cS cI)) (l:=J.lists) (i:=uI) Tryz.underlying53 Tryz.sizeOf22 (fun _=>rfl) p.1 p.2.1 b1,D1 fun e s p=>zU (o:=0) Tryz.isAgg22 p.1 rfl,D1 fun e s p=>zU (o:=0) Tryz.isAgg3 (s 2 rfl) rfl,?_,D1 fun e s p=>zD p.2.2.2.2.2.2.2.2.1,trivial⟩ ?_
 ·
  intro e7 s7 p7
  refine zh (r:=(AV.lit (.bool x1))) (la:=[(ls cI (at_ J.lists uI)),li uM]) Tryz.func128 rfl (by kernel_rfl) (.fn 128) (zAN p7.1 (zAN p7.2.1 rfl)) rfl (zJN w1) rfl ?_
  exact zF ⟨fun _=>rfl,rfl⟩
 intro e9 s9 hq1
 refine zAT (zBL (l:=[(4,(AV.lit (.bool x1)))]) ⟨(hq1 7 (by decide) (by decide)),trivial⟩)<|zb ?_
 cases h
 exact zt (zAH rfl rfl)
theorem zEd {Y : List zL} {uC : zL → Option Bool} {g_a_f : FuncId} {cf_a_f : Func} {code_a_f : Code} {caps_a_f : List AV} (hcf_a_f : Tryz.prog.funcs[g_a_f]? = some cf_a_f) (hcb_a_f : cf_a_f.body = some code_a_f) (hcn_a_f : (cf_a_f.name == "runtime.NumGoroutine") = false) (hnr_a_f : caps_a_f.all nr = true) (hg_a_f : ∀ {x0 : zL} {y : Bool}, uC x0 = some y → PFn Tryz.prog g_a_f ((AV.agg (zG x0)) :: caps_a_f) (AV.lit (.bool y))) {r : Int} (h : zBG Y uC = some r) : PFn Tryz.prog 126 [(ls zG Y), (AV.clo g_a_f caps_a_f)] (li r) := by
 refine zo Tryz.func126 rfl Tryz.ntmps126 Tryz.results126 rfl ?_
 unfold zBG at h
 refine zH<|zC<|zA (zD rfl)<|zF ?_
 refine zu (r:=r) (fun (_:Unit)=>mkE []) (fun _=>[]) (fun _=>zA4 ) ?_ ?_
 ·
  refine zH<|zC<|zA (zB rfl)<|zA (zW Tryz.underlying24 rfl)<|zA (zB rfl)<|zF ?_
  refine zQ<|zq (σ:=Int) (fun i1=>mkE [(0,(ls zG Y)),(1,(AV.clo g_a_f caps_a_f)),(7,(li (Y.length:Int))),(8,(li i1))]) (fun i1=>[]) (fun n0 i1=>zAd Y uC n0 i1) 0 h (fun _=>rfl) (zBz (n:=19) (m:=0) [] (l:=[(0,(ls zG Y)),(1,(AV.clo g_a_f caps_a_f)),(7,(li (Y.length:Int))),(8,(li 0))]) ⟨⟨Sub.refl _,by kernel_rfl⟩,⟨zFW hnr_a_f,zFX hnr_a_f⟩,⟨Sub.refl _,by kernel_rfl⟩,⟨Sub.refl _,by kernel_rfl⟩,trivial⟩ rfl rfl trivial) ?_
  clear h
  intro n0 i1 h
  replace h:zA3 Y uC (zAd Y uC n0) i1=some r:=h
  unfold zA3 at h
  refine zH<|zC<|zA (zf rfl rfl)<|zF<|zH ?_
  refine zY h rfl (fun b1 h => ?_) (fun b1 h => ?_)
  ·refine zP<|zH<|zQ<|zH<|zC<|zA (zB rfl) ?_
   refine zA (zD rfl)<|zF<|zH<|zC<|zA (zB rfl)<|zA (zB rfl) ?_
   refine zA (zB rfl)<|zM h fun b2 h=>zA (zS Tryz.underlying24 Tryz.sizeOf55 (fun _=>rfl) rfl rfl b2)<|zA (zAh (row:=(zG (at_ Y i1))) (o:=0) (m:=1) (la:=(zG (at_ Y i1))) Tryz.isAgg55 Tryz.sizeOf55 rfl rfl rfl)<|zR h fun x1 w1 h=>zA7 (S:=[]) hcf_a_f hcb_a_f hcn_a_f (.clo (caps:=caps_a_f) rfl) rfl (zD9.c (zAx.nr rfl) (zD9.nrs hnr_a_f)) (hg_a_f w1) (.inl rfl) rfl ?_
   refine zF ?_
   refine zY h rfl (fun b3 h => ?_) (fun b3 h => ?_)
   ·refine zH<|zC<|zA (zB rfl)<|zA (zD rfl)<|zF<|zb ?_
    cases h
    exact zt (zAH rfl rfl)
   refine zP<|zC<|zM h fun b4 h=>zA (ze rfl rfl b4)<|zA (zB rfl)<|zF ?_
   exact ⟨(i1+1),zBz (n:=19) (m:=0) [] (l:=[(0,(ls zG Y)),(1,(AV.clo g_a_f caps_a_f)),(7,(li (Y.length:Int))),(8,(li (i1+1)))]) ⟨⟨Sub.refl _,by kernel_rfl⟩,⟨zFW hnr_a_f,zFX hnr_a_f⟩,⟨Sub.refl _,by kernel_rfl⟩,⟨Sub.refl _,by kernel_rfl⟩,trivial⟩ rfl rfl trivial,h⟩
  refine zx ?_
  exact ⟨(),z8 [] rfl rfl (by kernel_rfl),h⟩
 clear h
 intro _ h
 unfold zA4 at h
 refine zH<|zC<|zA (zD rfl)<|zF<|zb ?_
 cases h
 exact zt (zAH rfl rfl)
theorem zLq {B:zJ} {C:Int} {U:Int} {r:Int} (h:zIw B C U=some r):PFn Tryz.prog 74 [(AV.agg (zI B)),li C,li U] (li r):=by
 refine zo Tryz.func74 rfl Tryz.ntmps74 Tryz.results74 rfl ?_
 unfold zIw at h
 refine zH<|zC<|za (H':=[.box 26 (zI B)]) (zv (t:=26) rfl)<|za (H':=[.box 26 (zI B),.box 3 [li C]]) (zKL (t:=3) (a:=(li C)) rfl rfl)<|za (H':=[.box 26 (zI B),.box 3 [li C],.box 3 [li U]]) (zKL (t:=3) (a:=(li U)) rfl rfl)<|zA (zD rfl) ?_
 refine zF<|zH<|zC<|zA (zK Tryz.underlying26 rfl rfl Tryz.sizeOf24 rfl)<|zA (zN Tryz.isAgg24 rfl rfl rfl rfl)<|zA (zL3 (la:=[AV.ptr 1 0,AV.ptr 2 0]) rfl) ?_
 refine zR h fun x1 w1 h=>zA7 (r':=(li x1)) (la:=[ls zG B.caches,(AV.clo 127 [AV.ptr 1 0,AV.ptr 2 0])]) (la':=[ls zG B.caches,(AV.clo 127 [(AV.rp [li C] 0),(AV.rp [li U] 0)])]) (r:=(li x1)) (S:=[1,2]) Tryz.func126 rfl (by kernel_rfl) (.fn 126) rfl ⟨zAx.nr rfl,zAx.clo (⟨zAx.ptr (cs:=[li C]) rfl rfl rfl,zAx.ptr (cs:=[li U]) rfl rfl rfl,trivial⟩),trivial⟩ (zEd Tryz.func127 rfl (by kernel_rfl) rfl (fun hy=>zLB  hy) w1) (.inr trivial) rfl<|zA (zD rfl)<|zF<|zb ?_
 cases h
 exact zt (zAH rfl rfl)
theorem zKI {B:zJ} {C:Int} {U:Int} {r:Bool} (h:zIL B C U=some r):PFn Tryz.prog 50 [(AV.agg (zI B)),li C,li U] (AV.lit (.bool r)):=by
 refine zo Tryz.func50 rfl Tryz.ntmps50 Tryz.results50 rfl ?_
 unfold zIL at h
 refine zH<|zC<|za (H':=[.box 26 (zI B)]) (zv (t:=26) rfl)<|zA (zD rfl)<|zF<|zH ?_
 refine zC<|zA (zK Tryz.underlying26 rfl rfl Tryz.sizeOf23 rfl)<|zA (zN Tryz.isAgg23 rfl rfl rfl rfl)<|zA (zB rfl)<|zM h fun b1 h=>zA (zS Tryz.underlying23 Tryz.sizeOf51 (fun _=>rfl) rfl rfl b1) ?_
 refine zA (zAh (row:=(zO (at_ B.zones C))) (o:=0) (m:=10) (la:=(zO (at_ B.zones C))) Tryz.isAgg51 Tryz.sizeOf51 rfl rfl rfl)<|zA (zB rfl)<|zR h fun x1 w1 h=>zh Tryz.func45 rfl (by kernel_rfl) (.fn 45) rfl rfl (zKs w1) rfl<|zA (zB rfl)<|zX rfl rfl (fun c1=>zp.step (zT (k:=0) (o:=0) (m:=5) Tryz.isAgg26 Tryz.sizeOf26 rfl rfl rfl rfl rfl)) ?_
 refine zX rfl rfl (fun c2=>zp.step (zB rfl))<|zX rfl rfl (fun c3=>zp.step (zB rfl))<|zR h fun x2 w2 h=>zCt (g:=14) (s:=x1) (r':=(li x2)) rfl rfl (fun c4=>⟨74,_,_,[],[(AV.agg (zI B)),li C,li U],[(AV.agg (zI B)),li C,li U],li x2,[],Tryz.func74,rfl,by kernel_rfl,.fn 74,(zAN (z6 rfl c4) (zAN (z6 rfl c4) (zAN (z6 rfl c4) rfl))),⟨zAx.nr rfl,zAx.nr rfl,zAx.nr rfl,trivial⟩,zLq (zG3 c4 w2),.inl rfl,rfl⟩)<|zX rfl rfl (fun c5=>zp.step (zAv (z6 rfl c5) rfl))<|zA (zg rfl rfl) ?_
 refine zA (zD rfl)<|zF<|zb ?_
 cases h
 exact zt (zAH rfl rfl)
theorem zJP {B:zJ} {U:Int} {r:Bool} (h:zGv B U=some r):PFn Tryz.prog 19 [(AV.agg (zI B)),li U] (AV.lit (.bool r)):=by
 refine zo Tryz.func19 rfl Tryz.ntmps19 Tryz.results19 rfl ?_
 unfold zGv at h
 refine zH<|zC<|za (H':=[.box 26 (zI B)]) (zv (t:=26) rfl)<|zA (zD rfl)<|zF<|zH ?_
 refine zH<|zC<|zA (zT (k:=0) (o:=0) (m:=5) Tryz.isAgg26 Tryz.sizeOf26 rfl rfl rfl rfl rfl)<|zR h fun x1 w1 h=>zh Tryz.func13 rfl (by kernel_rfl) (.fn 13) rfl rfl (zBE w1) rfl<|zA (zz rfl rfl) ?_
 refine zF ?_
 refine zY h rfl (fun b1 h => ?_) (fun b1 h => ?_)
 ·refine zH<|zC<|zA (zD rfl)<|zF<|zb ?_
  cases h
  exact zt (zAH rfl rfl)
 refine zP<|zH<|zC<|zA (zT (k:=0) (o:=0) (m:=5) Tryz.isAgg26 Tryz.sizeOf26 rfl rfl rfl rfl rfl)<|zA (zB rfl)<|zR h fun x2 w2 h => ?_
 refine zh Tryz.func44 rfl (by kernel_rfl) (.fn 44) rfl rfl (zGL w2) rfl<|zA (zD rfl)<|zF<|zH<|zC<|zA (zB rfl) ?_
 refine zA (zAv rfl rfl)<|zA (zB rfl)<|zm rfl rfl (fun c1=>zp.step (zT (k:=0) (o:=0) (m:=5) Tryz.isAgg26 Tryz.sizeOf26 rfl rfl rfl rfl rfl))<|zm rfl rfl (fun c2=>zp.step (zB rfl))<|zm rfl rfl (fun c3=>zp.step (zB rfl))<|zR h fun x3 w3 h => ?_
 refine zCu (g:=14) (s:=decide (0≤x2)) (r':=(AV.lit (.bool x3))) rfl rfl (fun c4=>⟨50,_,_,[],[(AV.agg (zI B)),li x2,li U],[(AV.agg (zI B)),li x2,li U],(AV.lit (.bool x3)),[],Tryz.func50,rfl,by kernel_rfl,.fn 50,(zAN (z6 rfl c4) (zAN (z6 rfl c4) (zAN (z6 rfl c4) rfl))),⟨zAx.nr rfl,zAx.nr rfl,zAx.nr rfl,trivial⟩,zKI (zG3 c4 w3),.inl rfl,rfl⟩)<|zA (zy (j := .lit undef) rfl rfl)<|zA (zD rfl)<|zF<|zb ?_
 cases h
 exact zt (zAH rfl rfl)
theorem zMM {B:zJ} {C:Int} {r:Int} (h:zJD B C=some r):PFn Tryz.prog 21 [(AV.agg (zI B)),li C] (li r):=by
 refine zo Tryz.func21 rfl Tryz.ntmps21 Tryz.results21 rfl ?_
 unfold zJD at h
 refine zH<|zC<|za (H':=[.box 26 (zI B)]) (zv (t:=26) rfl)<|zA (zD rfl)<|zF<|zH ?_
 refine zH<|zC<|zA (zT (k:=0) (o:=0) (m:=5) Tryz.isAgg26 Tryz.sizeOf26 rfl rfl rfl rfl rfl)<|zR h fun x1 w1 h=>zh Tryz.func13 rfl (by kernel_rfl) (.fn 13) rfl rfl (zBE w1) rfl<|zA (zz rfl rfl) ?_
 refine zA (zB rfl)<|zX rfl rfl (fun c1=>zp.step (zB rfl))<|zX rfl rfl (fun c2=>zp.step (zf (z6 rfl c2) rfl))<|zA (zg rfl rfl)<|zA (zB rfl)<|zX rfl rfl (fun c3=>zp.step (zB rfl)) ?_
 refine zX rfl rfl (fun c4=>zp.step (zK Tryz.underlying26 rfl rfl Tryz.sizeOf23 rfl))<|zX rfl rfl (fun c5=>zp.step (zN Tryz.isAgg23 (z6 rfl c5) rfl rfl rfl))<|zX rfl rfl (fun c6=>zp.step (zW Tryz.underlying23 (z6 rfl c6)))<|zX rfl rfl (fun c7=>zp.step (zAv (z6 rfl c7) (z6 rfl c7)))<|zA (zg rfl rfl)<|zF ?_
 refine zY h rfl (fun b1 h => ?_) (fun b1 h => ?_)
 ·refine zH<|zC<|zA (zD rfl)<|zF<|zb ?_
  cases h
  exact zt (zAH rfl rfl)
 refine zP<|zH<|zC<|zA (zT (k:=0) (o:=0) (m:=5) Tryz.isAgg26 Tryz.sizeOf26 rfl rfl rfl rfl rfl)<|zA (zB rfl)<|zR h fun x2 w2 h => ?_
 refine zh Tryz.func52 rfl (by kernel_rfl) (.fn 52) rfl rfl (zHP w2) rfl<|zA (zD rfl)<|zF<|zb ?_
 cases h
 exact zt (zAH rfl rfl)
theorem zMg {B:zJ} {U:Int} {r:Int} (h:zJn B U=some r):PFn Tryz.prog 17 [(AV.agg (zI B)),li U] (li r):=by
 refine zo Tryz.func17 rfl Tryz.ntmps17 Tryz.results17 rfl ?_
 unfold zJn at h
 refine zH<|zC<|za (H':=[.box 26 (zI B)]) (zv (t:=26) rfl)<|zA (zD rfl)<|zF<|zH ?_
 refine zH<|zC<|zA (zT (k:=0) (o:=0) (m:=5) Tryz.isAgg26 Tryz.sizeOf26 rfl rfl rfl rfl rfl)<|zR h fun x1 w1 h=>zh Tryz.func13 rfl (by kernel_rfl) (.fn 13) rfl rfl (zBE w1) rfl<|zA (zz rfl rfl) ?_
 refine zF ?_
 refine zY h rfl (fun b1 h => ?_) (fun b1 h => ?_)
 ·refine zH<|zC<|zA (zD rfl)<|zF<|zb ?_
  cases h
  exact zt (zAH rfl rfl)
 refine zP<|zH<|zC<|zA (zT (k:=0) (o:=0) (m:=5) Tryz.isAgg26 Tryz.sizeOf26 rfl rfl rfl rfl rfl)<|zA (zB rfl)<|zR h fun x2 w2 h => ?_
 refine zh Tryz.func44 rfl (by kernel_rfl) (.fn 44) rfl rfl (zGL w2) rfl<|zA (zD rfl)<|zF<|zb ?_
 cases h
 exact zt (zAH rfl rfl)
theorem zME {A:zL} {D:Int} {G:Int} {X:Int} {uY:Int} {r:zL×(List Int)×Int} (h:zMu A D G X uY=some r):PFn Tryz.prog 67 [(AV.agg (zG A)),li D,li G,li X,li uY] (AV.tup [(AV.agg (zG r.1)),ls cI r.2.1,li r.2.2]):=by
 refine zo Tryz.func67 rfl Tryz.ntmps67 Tryz.results67 rfl ?_
 unfold zMu at h
 refine zH<|zC<|za (H':=[.box 55 (zG A)]) (zv (t:=55) rfl)<|za (H':=[.box 55 (zG A),.box 55 [(ls (cS cI) ([]:List (List Int)))]]) zv1<|zA (zD rfl)<|zA (zD rfl) ?_
 refine zF<|zH<|zH<|zC<|zA (zT (k:=0) (o:=0) (m:=1) Tryz.isAgg55 Tryz.sizeOf55 rfl rfl rfl rfl rfl)<|zA (zB rfl) ?_
 refine zR h fun x1 w1 h=>zh Tryz.func111 rfl (by kernel_rfl) (.fn 111) rfl rfl (zHq w1) rfl<|zA (zD rfl)<|zF<|zH<|zC ?_
 refine zA (zB rfl)<|zA (zz rfl rfl)<|zF ?_
 refine zY h rfl (fun b1 h => ?_) (fun b1 h => ?_)
 ·refine zH<|zC<|zA zv2<|zA (zB rfl)<|zi (H':=[.box 55 (zG A),.box 55 (zG (⟨([]:List (List Int))⟩:zL))]) (zZ (k:=1) (o:=0) (cs:=[(ls (cS cI) ([]:List (List Int)))]) (la:=(zG (⟨([]:List (List Int))⟩:zL))) Tryz.sizeOf55 rfl rfl rfl rfl)<|zA (zD rfl) ?_
  refine zA (zD rfl)<|zF<|zb ?_
  cases h
  exact zCW (zFc Tryz.isAgg55 Tryz.sizeOf55 rfl rfl rfl rfl) (zJL (zAH rfl rfl) zAt.nils) (zAH rfl rfl) rfl
 refine zP<|zH<|zH<|zC<|zA (zB rfl)<|zR h fun x2 w2 h => ?_
 refine zh Tryz.func88 rfl (by kernel_rfl) (.fn 88) rfl rfl (zHv w2) rfl<|zA (zBD (t:=x2) rfl)<|zF ?_
 refine zY h rfl (fun b2 h => ?_) (fun b2 h => ?_)
 ·refine zH<|zC<|zA zv2<|zi (H':=[.box 55 (zG A),.box 55 (zG (⟨([]:List (List Int))⟩:zL))]) (zZ (k:=1) (o:=0) (cs:=[(ls (cS cI) ([]:List (List Int)))]) (la:=(zG (⟨([]:List (List Int))⟩:zL))) Tryz.sizeOf55 rfl rfl rfl rfl)<|zA (zD rfl)<|zA (zD rfl) ?_
  refine zF<|zb ?_
  cases h
  exact zCW (zFc Tryz.isAgg55 Tryz.sizeOf55 rfl rfl rfl rfl) (zJL (zAH rfl rfl) zAt.nils) (zAH rfl rfl) rfl
 refine zP<|zH<|zH<|zC<|zA (zB rfl)<|zA (zf rfl rfl) ?_
 refine zA (zB rfl)<|zX rfl rfl (fun c1=>zp.step (zB rfl))<|zX rfl rfl (fun c2=>zp.step (zB rfl))<|zX rfl rfl (fun c3=>zp.step (zAc (z6 rfl c3) (z6 rfl c3)))<|zA (zg rfl rfl)<|zF ?_
 refine zY h rfl (fun b3 h => ?_) (fun b3 h => ?_)
 ·refine zH<|zC<|zA zv2<|zi (H':=[.box 55 (zG A),.box 55 (zG (⟨([]:List (List Int))⟩:zL))]) (zZ (k:=1) (o:=0) (cs:=[(ls (cS cI) ([]:List (List Int)))]) (la:=(zG (⟨([]:List (List Int))⟩:zL))) Tryz.sizeOf55 rfl rfl rfl rfl)<|zA (zD rfl)<|zA (zD rfl) ?_
  refine zF<|zb ?_
  cases h
  exact zCW (zFc Tryz.isAgg55 Tryz.sizeOf55 rfl rfl rfl rfl) (zJL (zAH rfl rfl) zAt.nils) (zAH rfl rfl) rfl
 refine zP<|zH<|zH<|zC<|zA (zT (k:=0) (o:=0) (m:=1) Tryz.isAgg55 Tryz.sizeOf55 rfl rfl rfl rfl rfl)<|zR h fun x3 w3 h => ?_
 refine zNp (es:=mI Value.bool x3) (la:=[(AV.agg (zG A))]) (la':=[(AV.agg (zG A))]) (S:=[]) Tryz.func89 rfl (by kernel_rfl) (.fn 89) rfl ⟨zAx.nr rfl,trivial⟩ (zIr w3)<|zA (zB rfl)<|zA (zNd (k:=2) (g:=Value.bool) (q:=G) (l:=x3) (dflt:=false) (a:=(AV.lit (.bool (zMS false x3 G)))) Tryz.underlying58 Tryz.underlying3 Tryz.zeroValue4 rfl rfl rfl rfl)<|zF ?_
 refine zY h rfl (fun b4 h => ?_) (fun b4 h => ?_)
 ·refine zH<|zC<|zA zv2<|zi (H':=[.box 55 (zG A),.box 55 (zG (⟨([]:List (List Int))⟩:zL)),.map (mI Value.bool x3)]) (zZ (k:=1) (o:=0) (cs:=[(ls (cS cI) ([]:List (List Int)))]) (la:=(zG (⟨([]:List (List Int))⟩:zL))) Tryz.sizeOf55 rfl rfl rfl rfl)<|zA (zD rfl)<|zA (zD rfl) ?_
  refine zF<|zb ?_
  cases h
  exact zCW (zFc Tryz.isAgg55 Tryz.sizeOf55 rfl rfl rfl rfl) (zJL (zAH rfl rfl) zAt.nils) (zAH rfl rfl) rfl
 refine zP<|zH<|zM h fun b5 h=>zM h fun b6 h=>zM h fun b7 h => ?_
 refine zAl (n:=85) (m:=0) [.head 0 0,.head 0 0,.head 0 0,.head 0 0,.head 0 0,.head 0 0,.head 0 0,.head 0 0,.head 0 0,.head 0 0,.head 0 0,.head 0 0,.head 0 0,.tail 0,.head 1 1] [13] [AV.ptr 0 0,(ls (cS cI) A.lists),li D,(AV.rp ((cS cI) (at_ A.lists D)) 0),(ls cI (at_ A.lists D)),(li ((at_ A.lists D).length:Int)),AV.ptr 0 0,(ls (cS cI) A.lists),li D,(AV.rp ((cS cI) (at_ A.lists D)) 0),(ls cI (at_ A.lists D)),(li ((at_ A.lists D).length:Int)),(li (((at_ A.lists D).length:Int)+1)),AV.hd 3,AV.hd 3] [[.box 55 (zG A),.box 55 [(ls (cS cI) ([]:List (List Int)))],.map (mI Value.bool x3)],[.box 55 (zG A),.box 55 [(ls (cS cI) ([]:List (List Int)))],.map (mI Value.bool x3),.vec 3 1 (List.map cI (List.replicate ((at_ A.lists D).length:Int).toNat 0))]] (by kernel_rfl) (by kernel_rfl) ⟨D1 fun e s p=>zK (k:=0) (o:=0) (off:=0) Tryz.underlying55 rfl rfl Tryz.sizeOf53 (s 5 rfl),D1 fun e s p=>zN (k:=0) (o:=0) Tryz.isAgg53 p.1 rfl rfl rfl,D1 fun e s p=>zB (s 1 rfl),D1 fun e s p=>zS (f:=(cS cI)) (l:=A.lists) (i:=D) Tryz.underlying53 Tryz.sizeOf22 (fun _=>rfl) p.1 p.2.1 b5,D1 fun e s p=>zU (o:=0) Tryz.isAgg22 p.1 rfl,D1 fun e s p=>zW (f:=cI) (l:=at_ A.lists D) Tryz.underlying22 p.1,D1 fun e s p=>zK (k:=0) (o:=0) (off:=0) Tryz.underlying55 rfl rfl Tryz.sizeOf53 (s 5 rfl),D1 fun e s p=>zN (k:=0) (o:=0) Tryz.isAgg53 p.1 rfl rfl rfl,D1 fun e s p=>zB (s 1 rfl),D1 fun e s p=>zS (f:=(cS cI)) (l:=A.lists) (i:=D) Tryz.underlying53 Tryz.sizeOf22 (fun _=>rfl) p.1 p.2.1 b5,D1 fun e s p=>zU (o:=0) Tryz.isAgg22 p.1 rfl,D1 fun e s p=>zW (f:=cI) (l:=at_ A.lists D) Tryz.underlying22 p.1,D1 fun e s p=>ze (a:=((at_ A.lists D).length:Int)) (b:=1) p.1 rfl b6,?_,D1 fun e s p=>zD p.2.2.2.2.2.2.2.2.2.2.2.2.2.2.1,trivial⟩ ?_
 ·
  intro e14 s14 p14
  refine zEn (f:=cI) (a:=((at_ A.lists D).length:Int)) (c:=((at_ A.lists D).length:Int)+1) (d0:=0) zFK ⟨zAt.refl _,trivial⟩ rfl Tryz.underlying22 p14.1 p14.2.1 b7 ?_
  exact zF ⟨fun _=>rfl,rfl⟩
 intro e16 s16 hq1
 refine zAT (zBL (l:=[(1,(li D)),(2,(li G)),(3,(li X)),(4,(li uY)),(5,(AV.ptr 0 0)),(10,(AV.ptr 1 0)),(14,(AV.hd 3))]) ⟨s16 1 rfl,s16 2 rfl,s16 3 rfl,s16 4 rfl,s16 5 rfl,s16 10 rfl,(hq1 14 (by decide) (by decide)),trivial⟩)<|zH<|zC<|zA (zB (av:=(AV.hd 3)) rfl)<|zA (zK (k:=0) (o:=0) (off:=0) Tryz.underlying55 rfl rfl Tryz.sizeOf53 rfl)<|zA (zN (k:=0) (o:=0) (a:=(ls (cS cI) A.lists)) Tryz.isAgg53 rfl rfl rfl rfl) ?_
 refine zA (zB rfl)<|zA (zS Tryz.underlying53 Tryz.sizeOf22 (fun _=>rfl) rfl rfl b5)<|zA (zU (o:=0) Tryz.isAgg22 rfl rfl)<|za (H':=[.box 55 (zG A),.box 55 [(ls (cS cI) ([]:List (List Int)))],.map (mI Value.bool x3),.vec 3 1 (List.map cI (zC9 (List.replicate ((at_ A.lists D).length:Int).toNat 0) (at_ A.lists D)))]) (zLQ (f:=cI) (k:=3) (l:=List.replicate ((at_ A.lists D).length:Int).toNat 0) (l2:=at_ A.lists D) Tryz.underlying22 Tryz.sizeOf3 (fun _=>rfl) rfl rfl rfl)<|zF<|zH ?_
 refine zC<|zA (zB rfl)<|zA (zB rfl)<|zEe (a:=(li G)) zFK Tryz.underlying22 rfl rfl rfl rfl<|zM h fun b8 h=>zBm (f:=cI) (k:=3) (j:=4) (l:=zC9 (List.replicate ((at_ A.lists D).length:Int).toNat 0) (at_ A.lists D)) (l':=[G]) zFK (fun _=>rfl) Tryz.underlying22 rfl rfl rfl rfl b8 ?_
 refine zA (zD rfl)<|zF<|zH<|zH<|zC<|zA (zB rfl) ?_
 refine zA (zDf (f:=cI) (l:=(zC9 (List.replicate ((at_ A.lists D).length:Int).toNat 0) (at_ A.lists D))++[G]) Tryz.underlying22 rfl rfl)<|zA (zB rfl)<|zA (zCr rfl rfl)<|zF ?_
 refine zY h rfl (fun b9 h => ?_) (fun b9 h => ?_)
 ·refine zH<|zC<|zA (zT (k:=0) (o:=0) (m:=1) Tryz.isAgg55 Tryz.sizeOf55 rfl rfl rfl rfl rfl)<|zA (zB rfl)<|zA (zB rfl)<|zR h fun x4 w4 h => ?_
  refine zAC (zDc (j:=5) (ds:=[14,64,65,71]) (rows':=List.map cI ((zC9 (List.replicate ((at_ A.lists D).length:Int).toNat 0) (at_ A.lists D))++[G])) rfl (zAK (fun _=>rfl)) ⟨rfl,rfl,rfl,rfl,trivial⟩)<|zR h fun x5 w5 h=>zh Tryz.func112 rfl (by kernel_rfl) (.fn 112) rfl rfl (zEs w5) rfl<|zi (H':=[.box 55 (zG A),.box 55 (zG x5),.map (mI Value.bool x3),.dead,.vec 3 1 (List.map cI [G]),.dead]) (zZ (k:=1) (o:=0) (cs:=[(ls (cS cI) ([]:List (List Int)))]) (la:=(zG x5)) Tryz.sizeOf55 rfl rfl rfl rfl)<|zA (zD rfl)<|zA (zD rfl) ?_
  refine zF<|zb ?_
  cases h
  exact zCW (zFc Tryz.isAgg55 Tryz.sizeOf55 rfl rfl rfl rfl) (zJL (zAH rfl rfl) zAt.nils) (zAH rfl rfl) rfl
 refine zP<|zH<|zC<|zA (zB rfl)<|zM h fun b10 h=>zEn (f:=cI) (a:=X) (c:=X) (d0:=0) zFK ⟨zAt.refl _,trivial⟩ rfl Tryz.underlying22 rfl rfl b10 ?_
 refine zA (zD rfl)<|zF<|zH<|zC<|zA (zB rfl)<|zA (zB rfl) ?_
 refine za (H':=[.box 55 (zG A),.box 55 [(ls (cS cI) ([]:List (List Int)))],.map (mI Value.bool x3),.dead,.vec 3 1 (List.map cI [G]),.vec 3 1 (List.map cI ((zC9 (List.replicate ((at_ A.lists D).length:Int).toNat 0) (at_ A.lists D))++[G])),.vec 3 1 (List.map cI (zC9 (List.replicate X.toNat 0) ((zC9 (List.replicate ((at_ A.lists D).length:Int).toNat 0) (at_ A.lists D))++[G])))]) (zQr (f:=cI) (k:=6) (j:=5) (l:=List.replicate X.toNat 0) (l2:=(zC9 (List.replicate ((at_ A.lists D).length:Int).toNat 0) (at_ A.lists D))++[G]) Tryz.underlying22 Tryz.sizeOf3 (fun _=>rfl) rfl rfl rfl rfl)<|zF<|zH<|zAT (zDc (j:=5) (ds:=[14,64,65,76]) (rows':=List.map cI ((zC9 (List.replicate ((at_ A.lists D).length:Int).toNat 0) (at_ A.lists D))++[G])) rfl (zAK (fun _=>rfl)) ⟨rfl,rfl,rfl,rfl,trivial⟩)<|zM h fun b11 h=>zR h fun x6 w6 h => ?_
 refine zAl (n:=85) (m:=0) [.head 0 0,.head 0 0,.head 0 0,.head 0 0,.head 0 0,.head 0 0,.head 0 1,.tail 0,.head 1 1,.head 1 1] [7] [(AV.agg (zG A)),li D,(ls cI ((zC9 (List.replicate ((at_ A.lists D).length:Int).toNat 0) (at_ A.lists D))++[G])),li X,(ls cI (zHt ((zC9 (List.replicate ((at_ A.lists D).length:Int).toNat 0) (at_ A.lists D))++[G]) X (((zC9 (List.replicate ((at_ A.lists D).length:Int).toNat 0) (at_ A.lists D))++[G]).length:Int))),(AV.agg (zG x6)),AV.hd 6,.any,AV.hd 6,li 0] [[.box 55 (zG A),.box 55 [(ls (cS cI) ([]:List (List Int)))],.map (mI Value.bool x3),.dead,.vec 3 1 (List.map cI [G]),.dead,.vec 3 1 (List.map cI (zC9 (List.replicate X.toNat 0) ((zC9 (List.replicate ((at_ A.lists D).length:Int).toNat 0) (at_ A.lists D))++[G])))],[.box 55 (zG A),.box 55 (zG x6),.map (mI Value.bool x3),.dead,.vec 3 1 (List.map cI [G]),.dead,.vec 3 1 (List.map cI (zC9 (List.replicate X.toNat 0) ((zC9 (List.replicate ((at_ A.lists D).length:Int).toNat 0) (at_ A.lists D))++[G])))]] (by kernel_rfl) (by kernel_rfl) ⟨D1 fun e s p=>zT (k:=0) (o:=0) (m:=1) Tryz.isAgg55 Tryz.sizeOf55 (s 5 rfl) rfl rfl rfl rfl,D1 fun e s p=>zB (s 1 rfl),D1 fun e s p=>zB (s 14 rfl),D1 fun e s p=>zB (s 3 rfl),D1 fun e s p=>zPk (lo:=X) (f:=cI) (l:=(zC9 (List.replicate ((at_ A.lists D).length:Int).toNat 0) (at_ A.lists D))++[G]) Tryz.underlying22 Tryz.sizeOf3 (fun _=>rfl) p.1 p.2.1 b11,?_,⟨D1 fun e s p=>zB (s 15 rfl),D1 fun e s p=>zB (s 15 rfl)⟩,?_,D1 fun e s p=>zD p.2.2.2.2.2.2.2.2.1,D1 fun e s p=>zD rfl,trivial⟩ ?_
 ·
  intro e22 s22 p21
  refine zh (r:=(AV.agg (zG x6))) (la:=[(AV.agg (zG A)),li D,(ls cI (zHt ((zC9 (List.replicate ((at_ A.lists D).length:Int).toNat 0) (at_ A.lists D))++[G]) X (((zC9 (List.replicate ((at_ A.lists D).length:Int).toNat 0) (at_ A.lists D))++[G]).length:Int)))]) Tryz.func112 rfl (by kernel_rfl) (.fn 112) (zAN p21.1 (zAN p21.2.1 (zAN p21.2.2.1 rfl))) rfl (zEs w6) rfl ?_
  exact zF ⟨fun _=>rfl,rfl⟩
 ·
  intro e25 s25 p24
  refine zi (H':=[.box 55 (zG A),.box 55 (zG x6),.map (mI Value.bool x3),.dead,.vec 3 1 (List.map cI [G]),.dead,.vec 3 1 (List.map cI (zC9 (List.replicate X.toNat 0) ((zC9 (List.replicate ((at_ A.lists D).length:Int).toNat 0) (at_ A.lists D))++[G])))]) (zZ (k:=1) (o:=0) (cs:=[(ls (cS cI) ([]:List (List Int)))]) (la:=(zG x6)) Tryz.sizeOf55 (by exact (s25 10 rfl)) rfl rfl (by exact p24.2.2.2.2.2.2.2.1)) ?_
  exact zF ⟨fun _=>rfl,rfl⟩
 intro e28 s28 hq2
 refine zAT (zBL (l:=[(10,(AV.ptr 1 0)),(11,(AV.hd 6)),(12,(li 0))]) ⟨s28 10 rfl,(hq2 8 (by decide) (by decide)),(hq2 9 (by decide) (by decide)),trivial⟩)<|zAT (zDc (j:=6) (ds:=[11]) (rows':=List.map cI (zC9 (List.replicate X.toNat 0) ((zC9 (List.replicate ((at_ A.lists D).length:Int).toNat 0) (at_ A.lists D))++[G]))) rfl (zAK (fun _=>rfl)) ⟨rfl,trivial⟩)<|zb ?_
 cases h
 exact zCW (zFc Tryz.isAgg55 Tryz.sizeOf55 rfl rfl rfl rfl) (zAH rfl rfl) (zAH rfl rfl) rfl
theorem zMi {A:zJ} {D:Int} {G:Int} {r:zJ×Int} (h:zJt A D G=some r):PFn Tryz.prog 28 [(AV.agg (zI A)),li D,li G] (AV.tup [(AV.agg (zI r.1)),li r.2]):=by
 refine zo Tryz.func28 rfl Tryz.ntmps28 Tryz.results28 rfl ?_
 unfold zJt at h
 refine zH<|zC<|za (H':=[.box 26 (zI A)]) (zv (t:=26) rfl)<|za (H':=[.box 26 (zI A),.box 26 (zI ⟨[],0,0,[],[]⟩)]) zv3<|zA (zD rfl)<|zF ?_
 refine zH<|zH<|zC<|zA (zT (k:=0) (o:=0) (m:=5) Tryz.isAgg26 Tryz.sizeOf26 rfl rfl rfl rfl rfl)<|zR h fun x1 w1 h=>zh Tryz.func13 rfl (by kernel_rfl) (.fn 13) rfl rfl (zBE w1) rfl ?_
 refine zA (zD rfl)<|zF<|zH<|zC<|zA (zB rfl)<|zA (zz rfl rfl) ?_
 refine zF ?_
 refine zY h rfl (fun b1 h => ?_) (fun b1 h => ?_)
 ·refine zH<|zC<|zA zQV<|zA (zB rfl)<|zi (H':=[.box 26 (zI A),.box 26 (zI (⟨([]:List Int),0,0,([]:List zj),([]:List zL)⟩:zJ))]) (zZ (k:=1) (o:=0) (cs:=(zI ⟨[],0,0,[],[]⟩)) (la:=(zI (⟨([]:List Int),0,0,([]:List zj),([]:List zL)⟩:zJ))) Tryz.sizeOf26 rfl rfl rfl rfl)<|zA (zD rfl) ?_
  refine zF<|zb ?_
  cases h
  exact zBx (zFc Tryz.isAgg26 Tryz.sizeOf26 rfl rfl rfl rfl) (zAH rfl rfl) rfl
 refine zP<|zH<|zC<|zA (zT (k:=0) (o:=0) (m:=5) Tryz.isAgg26 Tryz.sizeOf26 rfl rfl rfl rfl rfl)<|zA (zB rfl)<|zR h fun x2 w2 h => ?_
 refine zh Tryz.func44 rfl (by kernel_rfl) (.fn 44) rfl rfl (zGL w2) rfl<|zA (zD rfl)<|zF<|zH<|zH<|zC ?_
 refine zA (zB rfl)<|zA (zf rfl rfl)<|zA (zB rfl)<|zX rfl rfl (fun c1=>zp.step (zB rfl))<|zX rfl rfl (fun c2=>zp.step (zK Tryz.underlying26 rfl rfl Tryz.sizeOf22 rfl))<|zX rfl rfl (fun c3=>zp.step (zN Tryz.isAgg22 (z6 rfl c3) rfl rfl rfl)) ?_
 refine zX rfl rfl (fun c4=>zp.step (zW Tryz.underlying22 (z6 rfl c4)))<|zX rfl rfl (fun c5=>zp.step (zAv (z6 rfl c5) (z6 rfl c5)))<|zA (zg rfl rfl)<|zA (zB rfl)<|zX rfl rfl (fun c6=>zp.step (zB rfl))<|zX rfl rfl (fun c7=>zp.step (zf (z6 rfl c7) rfl)) ?_
 refine zA (zg rfl rfl)<|zF ?_
 refine zY h rfl (fun b2 h => ?_) (fun b2 h => ?_)
 ·refine zH<|zC<|zA zQV<|zi (H':=[.box 26 (zI A),.box 26 (zI (⟨([]:List Int),0,0,([]:List zj),([]:List zL)⟩:zJ))]) (zZ (k:=1) (o:=0) (cs:=(zI ⟨[],0,0,[],[]⟩)) (la:=(zI (⟨([]:List Int),0,0,([]:List zj),([]:List zL)⟩:zJ))) Tryz.sizeOf26 rfl rfl rfl rfl)<|zA (zD rfl)<|zF ?_
  refine zb ?_
  cases h
  exact zBx (zFc Tryz.isAgg26 Tryz.sizeOf26 rfl rfl rfl rfl) (zAH rfl rfl) rfl
 refine zP<|zH<|zH<|zC<|zA (zT (k:=0) (o:=0) (m:=5) Tryz.isAgg26 Tryz.sizeOf26 rfl rfl rfl rfl rfl)<|zA (zB rfl) ?_
 refine zA (zB rfl)<|zR h fun x3 w3 h=>zh Tryz.func50 rfl (by kernel_rfl) (.fn 50) rfl rfl (zKI w3) rfl<|zF ?_
 refine zY h rfl (fun b3 h => ?_) (fun b3 h => ?_)
 ·refine zH<|zC<|zA zQV<|zi (H':=[.box 26 (zI A),.box 26 (zI (⟨([]:List Int),0,0,([]:List zj),([]:List zL)⟩:zJ))]) (zZ (k:=1) (o:=0) (cs:=(zI ⟨[],0,0,[],[]⟩)) (la:=(zI (⟨([]:List Int),0,0,([]:List zj),([]:List zL)⟩:zJ))) Tryz.sizeOf26 rfl rfl rfl rfl)<|zA (zD rfl)<|zF ?_
  refine zb ?_
  cases h
  exact zBx (zFc Tryz.isAgg26 Tryz.sizeOf26 rfl rfl rfl rfl) (zAH rfl rfl) rfl
 refine zP<|zH<|zC<|zA (zT (k:=0) (o:=0) (m:=5) Tryz.isAgg26 Tryz.sizeOf26 rfl rfl rfl rfl rfl)<|zR h fun x4 w4 h=>zGX (cs:=[ls cI x4.nodes,li x4.batch,li x4.high,AV.osl 51 10 (List.map zO x4.zones),AV.osl 55 1 (List.map zG x4.caches)]) (la:=[(AV.agg (zI A))]) (la':=[(AV.agg (zI A))]) (S:=[]) Tryz.func54 rfl (by kernel_rfl) (.fn 54) rfl ⟨zAx.nr rfl,trivial⟩ (zFi w4) (.inl rfl) ?_
 refine za (H':=[.box 26 (zI A),.box 26 (zI ⟨[],0,0,[],[]⟩),.val (.agg [ls cI x4.nodes,li x4.batch,li x4.high,AV.osl 51 10 (List.map zO x4.zones),AV.osl 55 1 (List.map zG x4.caches)]),.box 26 (zI ⟨[],0,0,[],[]⟩)]) zv3<|zi (H':=[.box 26 (zI A),.box 26 (zI ⟨[],0,0,[],[]⟩),.dead,.box 26 [ls cI x4.nodes,li x4.batch,li x4.high,AV.osl 51 10 (List.map zO x4.zones),AV.osl 55 1 (List.map zG x4.caches)]]) (zCL (k:=3) (o:=0) (j:=2) (cs:=(zI ⟨[],0,0,[],[]⟩)) (la:=[ls cI x4.nodes,li x4.batch,li x4.high,AV.osl 51 10 (List.map zO x4.zones),AV.osl 55 1 (List.map zG x4.caches)]) Tryz.sizeOf26 rfl rfl rfl rfl rfl (by decide))<|zF<|zH<|zAT (zAo (k:=3) (o:=4) (t':=55) (sz:=1) (rows:=List.map zG x4.caches) rfl rfl)<|zM h fun b4 h => ?_
 refine zR h fun x5 w5 h => ?_
 refine zAl (n:=73) (m:=0) [.head 0 1,.head 0 1,.head 0 1,.head 0 1,.head 0 1,.head 0 1,.head 0 1,.head 0 1,.head 0 1,.head 0 1,.head 0 1,.head 0 1,.head 0 1,.head 0 1,.head 0 2,.head 0 2,.tail 0,.tail 1,.head 2 2,.head 2 2] [16,17] [AV.ptr 3 4,AV.hd 4,li D,(AV.ptr 4 (D.toNat*1)),(AV.agg (zG (at_ x4.caches D))),li x2,li G,AV.ptr 3 1,li x4.batch,AV.ptr 3 2,li x4.high,(AV.tup [(AV.agg (zG x5.1)),ls cI x5.2.1,li x5.2.2]),(AV.tup [(AV.agg (zG x5.1)),ls cI x5.2.1,li x5.2.2]),(AV.agg (zG x5.1)),ls cI x5.2.1,li x5.2.2,AV.ptr 5 0,.any,ls cI x5.2.1,li x5.2.2] [[.box 26 (zI A),.box 26 (zI ⟨[],0,0,[],[]⟩),.dead,.box 26 [ls cI x4.nodes,li x4.batch,li x4.high,AV.osl 51 10 (List.map zO x4.zones),AV.hd 4],.vec 55 1 (List.map zG x4.caches)],[.box 26 (zI A),.box 26 (zI ⟨[],0,0,[],[]⟩),.dead,.box 26 [ls cI x4.nodes,li x4.batch,li x4.high,AV.osl 51 10 (List.map zO x4.zones),AV.hd 4],.vec 55 1 (List.map zG x4.caches),.box 55 [(ls (cS cI) ([]:List (List Int)))]],[.box 26 (zI A),.box 26 (zI ⟨[],0,0,[],[]⟩),.dead,.box 26 [ls cI x4.nodes,li x4.batch,li x4.high,AV.osl 51 10 (List.map zO x4.zones),AV.hd 4],.vec 55 1 (List.map zG x4.caches),.box 55 (zG x5.1)]] (by kernel_rfl) (by kernel_rfl) ⟨⟨D1 fun e s p=>zK (k:=3) (o:=0) (off:=4) Tryz.underlying26 rfl rfl Tryz.sizeOf24 (s 10 rfl),D1 fun e s p=>zK (k:=3) (o:=0) (off:=4) Tryz.underlying26 rfl rfl Tryz.sizeOf24 (s 10 rfl)⟩,⟨D1 fun e s p=>zN (k:=3) (o:=4) Tryz.isAgg24 p.1 rfl rfl rfl,D1 fun e s p=>zN (k:=3) (o:=4) Tryz.isAgg24 p.1 rfl rfl rfl⟩,⟨D1 fun e s p=>zB (s 1 rfl),D1 fun e s p=>zB (s 1 rfl)⟩,⟨D1 fun e s p=>z5 (f:=zG) (l:=x4.caches) (i:=D) Tryz.underlying24 Tryz.sizeOf55 p.1 rfl p.2.1 b4,D1 fun e s p=>z5 (f:=zG) (l:=x4.caches) (i:=D) Tryz.underlying24 Tryz.sizeOf55 p.1 rfl p.2.1 b4⟩,⟨D1 fun e s p=>zBu (f:=zG) (l:=x4.caches) (i:=D) (c:=0) (q:=1) (la:=(zG (at_ x4.caches D))) Tryz.isAgg55 Tryz.sizeOf55 p.1 rfl (by first | rfl | omega) b4 rfl rfl rfl,D1 fun e s p=>zBu (f:=zG) (l:=x4.caches) (i:=D) (c:=0) (q:=1) (la:=(zG (at_ x4.caches D))) Tryz.isAgg55 Tryz.sizeOf55 p.1 rfl (by first | rfl | omega) b4 rfl rfl rfl⟩,⟨D1 fun e s p=>zB (s 9 rfl),D1 fun e s p=>zB (s 9 rfl)⟩,⟨D1 fun e s p=>zB (s 2 rfl),D1 fun e s p=>zB (s 2 rfl)⟩,⟨D1 fun e s p=>zK (k:=3) (o:=0) (off:=1) Tryz.underlying26 rfl rfl Tryz.sizeOf3 (s 10 rfl),D1 fun e s p=>zK (k:=3) (o:=0) (off:=1) Tryz.underlying26 rfl rfl Tryz.sizeOf3 (s 10 rfl)⟩,⟨D1 fun e s p=>zN (k:=3) (o:=1) Tryz.isAgg3 p.1 rfl rfl rfl,D1 fun e s p=>zN (k:=3) (o:=1) Tryz.isAgg3 p.1 rfl rfl rfl⟩,⟨D1 fun e s p=>zK (k:=3) (o:=0) (off:=2) Tryz.underlying26 rfl rfl Tryz.sizeOf3 (s 10 rfl),D1 fun e s p=>zK (k:=3) (o:=0) (off:=2) Tryz.underlying26 rfl rfl Tryz.sizeOf3 (s 10 rfl)⟩,⟨D1 fun e s p=>zN (k:=3) (o:=2) Tryz.isAgg3 p.1 rfl rfl rfl,D1 fun e s p=>zN (k:=3) (o:=2) Tryz.isAgg3 p.1 rfl rfl rfl⟩,⟨?_,?_⟩,⟨D1 fun e s p=>zB p.1,D1 fun e s p=>zB p.1⟩,⟨D1 fun e s p=>zd p.1 rfl,D1 fun e s p=>zd p.1 rfl⟩,⟨D1 fun e s p=>zd p.1 rfl,D1 fun e s p=>zd p.1 rfl,D1 fun e s p=>zd p.1 rfl⟩,⟨D1 fun e s p=>zd p.1 rfl,D1 fun e s p=>zd p.1 rfl,D1 fun e s p=>zd p.1 rfl⟩,?_,?_,D1 fun e s p=>zD p.2.2.2.2.2.2.2.2.2.2.2.2.2.2.2.2.1,D1 fun e s p=>zD p.2.2.2.2.2.2.2.2.2.2.2.2.2.2.2.2.2.1,trivial⟩ ?_
 ·
  intro e23 s23 p23
  refine zh (r:=(AV.tup [(AV.agg (zG x5.1)),ls cI x5.2.1,li x5.2.2])) (la:=[(AV.agg (zG (at_ x4.caches D))),li x2,li G,li x4.batch,li x4.high]) Tryz.func67 rfl (by kernel_rfl) (.fn 67) (zAN p23.1 (zAN p23.2.1 (zAN p23.2.2.1 (zAN p23.2.2.2.1 (zAN p23.2.2.2.2.1 rfl))))) rfl (zME w5) rfl ?_
  exact zF ⟨fun _=>rfl,rfl⟩
 ·
  intro e24 s24 p24
  refine zh (r:=(AV.tup [(AV.agg (zG x5.1)),ls cI x5.2.1,li x5.2.2])) (la:=[(AV.agg (zG (at_ x4.caches D))),li x2,li G,li x4.batch,li x4.high]) Tryz.func67 rfl (by kernel_rfl) (.fn 67) (zAN p24.1 (zAN p24.2.1 (zAN p24.2.2.1 (zAN p24.2.2.2.1 (zAN p24.2.2.2.2.1 rfl))))) rfl (zME w5) rfl ?_
  exact zF ⟨fun _=>rfl,rfl⟩
 ·
  intro e35 s35 p35
  refine za (H':=[.box 26 (zI A),.box 26 (zI ⟨[],0,0,[],[]⟩),.dead,.box 26 [ls cI x4.nodes,li x4.batch,li x4.high,AV.osl 51 10 (List.map zO x4.zones),AV.hd 4],.vec 55 1 (List.map zG x4.caches),.box 55 [(ls (cS cI) ([]:List (List Int)))]]) zv1 ?_
  exact zF ⟨fun _=>rfl,rfl⟩
 ·
  intro e36 s36 p36
  refine zi (H':=[.box 26 (zI A),.box 26 (zI ⟨[],0,0,[],[]⟩),.dead,.box 26 [ls cI x4.nodes,li x4.batch,li x4.high,AV.osl 51 10 (List.map zO x4.zones),AV.hd 4],.vec 55 1 (List.map zG x4.caches),.box 55 (zG x5.1)]) (zZ (k:=5) (o:=0) (cs:=[(ls (cS cI) ([]:List (List Int)))]) (la:=(zG x5.1)) Tryz.sizeOf55 (by exact p36.2.2.2.2.2.2.2.2.2.2.2.2.2.2.2.2.2.2.2.1) rfl rfl (by exact p36.2.2.2.2.2.2.2.2.2.2.2.2.2.2.2.2.1)) ?_
  exact zF ⟨fun _=>rfl,rfl⟩
 intro e39 s39 hq1
 refine zAT (zBL (l:=[(1,(li D)),(6,(AV.ptr 1 0)),(9,(li x2)),(10,(AV.ptr 3 0)),(11,(AV.ptr 5 0)),(12,(ls cI x5.2.1)),(13,(li x5.2.2))]) ⟨s39 1 rfl,s39 6 rfl,s39 9 rfl,s39 10 rfl,(hq1 16 (by decide) (by decide)),(hq1 18 (by decide) (by decide)),(hq1 19 (by decide) (by decide)),trivial⟩)<|zH<|zH<|zC<|zA (zB (av:=(li x5.2.2)) rfl)<|zA (zz (a:=x5.2.2) (b:=0) rfl rfl) ?_
 refine zF ?_
 refine zY h rfl (fun b5 h => ?_) (fun b5 h => ?_)
 ·refine zH<|zC<|zA zQV<|zA (zB rfl)<|zi (H':=[.box 26 (zI A),.box 26 (zI (⟨([]:List Int),0,0,([]:List zj),([]:List zL)⟩:zJ)),.dead,.box 26 [ls cI x4.nodes,li x4.batch,li x4.high,AV.osl 51 10 (List.map zO x4.zones),AV.hd 4],.vec 55 1 (List.map zG x4.caches),.box 55 (zG x5.1)]) (zZ (k:=1) (o:=0) (cs:=(zI ⟨[],0,0,[],[]⟩)) (la:=(zI (⟨([]:List Int),0,0,([]:List zj),([]:List zL)⟩:zJ))) Tryz.sizeOf26 rfl rfl rfl rfl)<|zA (zD rfl) ?_
  refine zF<|zb ?_
  cases h
  exact zBx (zFc Tryz.isAgg26 Tryz.sizeOf26 rfl rfl rfl rfl) (zAH rfl rfl) rfl
 refine zP<|zH<|zC<|zA (zK Tryz.underlying26 rfl rfl Tryz.sizeOf24 rfl)<|zA (zN Tryz.isAgg24 rfl rfl rfl rfl)<|zA (zB rfl) ?_
 refine zA (zT (k:=5) (o:=0) (m:=1) Tryz.isAgg55 Tryz.sizeOf55 rfl rfl rfl rfl rfl)<|zA (z5 (f:=zG) (l:=x4.caches) (i:=D) Tryz.underlying24 Tryz.sizeOf55 rfl rfl rfl b4)<|zi (H':=[.box 26 (zI A),.box 26 (zI ⟨[],0,0,[],[]⟩),.dead,.box 26 [ls cI x4.nodes,li x4.batch,li x4.high,AV.osl 51 10 (List.map zO x4.zones),AV.hd 4],.vec 55 1 (List.map zG (x4.caches.set D.toNat x5.1)),.box 55 (zG x5.1)]) (zBZ (k:=4) (o:=(D.toNat*1)) (f:=zG) (l:=x4.caches) (i:=D) (z:=x5.1) Tryz.sizeOf55 (fun _=>rfl) rfl rfl (by first | rfl | omega) b4 rfl rfl)<|zF<|zH<|zC ?_
 refine zA (zB rfl)<|zA (zB rfl)<|zAC (zAA (k:=3) (j:=4) (o:=4) rfl rfl rfl rfl)<|zR h fun x6 w6 h=>zCo (k:=3) (la:=[AV.ptr 3 0,li x2,ls cI x5.2.1]) (la':=[AV.ptr 0 0,li x2,ls cI x5.2.1]) (r:=(.tup [])) (S:=[]) (en' := .box 26 [ls cI x6.nodes,li x6.batch,li x6.high,AV.osl 51 10 (List.map zO x6.zones),AV.osl 55 1 (List.map zG x6.caches)]) Tryz.func68 rfl (by kernel_rfl) (.fn 68) rfl ⟨zBv.ptr,zBv.of (zAx.nr rfl),zBv.of (zAx.nr rfl),trivial⟩ rfl rfl (by kernel_rfl) (by kernel_rfl) (zJ7 w6) rfl (.inl rfl)<|zF ?_
 refine zH<|zC<|zAC (zBl (k:=3) (o:=3) (rows':=List.map zO x6.zones) rfl rfl (zAK (fun _=>rfl)))<|zAC (zBl (k:=3) (o:=4) (rows':=List.map zG x6.caches) rfl rfl (zAK (fun _=>rfl)))<|zA (zT (k:=3) (o:=0) (m:=5) Tryz.isAgg26 Tryz.sizeOf26 rfl rfl rfl rfl rfl)<|zi (H':=[.box 26 (zI A),.box 26 (zI (⟨x6.nodes,x6.batch,x6.high,x6.zones,x6.caches⟩:zJ)),.dead,.box 26 (zI ⟨x6.nodes,x6.batch,x6.high,x6.zones,x6.caches⟩),.dead,.box 55 (zG x5.1)]) (zZ (k:=1) (o:=0) (cs:=(zI ⟨[],0,0,[],[]⟩)) (la:=(zI (⟨x6.nodes,x6.batch,x6.high,x6.zones,x6.caches⟩:zJ))) Tryz.sizeOf26 rfl rfl rfl rfl) ?_
 refine zA (zD rfl)<|zF<|zb ?_
 cases h
 exact zBx (zFc Tryz.isAgg26 Tryz.sizeOf26 rfl rfl rfl rfl) (zAH rfl rfl) rfl
theorem zKf {A:zJ} {D:Int} {G:Int} {r:zJ×Int×Int} (h:zGR A D G=some r):PFn Tryz.prog 26 [(AV.agg (zI A)),li D,li G] (AV.tup [(AV.agg (zI r.1)),li r.2.1,li r.2.2]):=by
 refine zo Tryz.func26 rfl Tryz.ntmps26 Tryz.results26 rfl ?_
 unfold zGR at h
 refine zH<|zC<|za (H':=[.box 26 (zI A)]) (zv (t:=26) rfl)<|za (H':=[.box 26 (zI A),.box 26 (zI ⟨[],0,0,[],[]⟩)]) zv3<|zA (zD rfl)<|zA (zD rfl) ?_
 refine zF<|zH<|zH<|zC<|zA (zT (k:=0) (o:=0) (m:=5) Tryz.isAgg26 Tryz.sizeOf26 rfl rfl rfl rfl rfl)<|zR h fun x1 w1 h => ?_
 refine zh Tryz.func13 rfl (by kernel_rfl) (.fn 13) rfl rfl (zBE w1) rfl<|zA (zD rfl)<|zF<|zH<|zC<|zA (zB rfl) ?_
 refine zA (zz rfl rfl)<|zF ?_
 refine zY h rfl (fun b1 h => ?_) (fun b1 h => ?_)
 ·refine zH<|zC<|zA zQV<|zA (zB rfl)<|zi (H':=[.box 26 (zI A),.box 26 (zI (⟨([]:List Int),0,0,([]:List zj),([]:List zL)⟩:zJ))]) (zZ (k:=1) (o:=0) (cs:=(zI ⟨[],0,0,[],[]⟩)) (la:=(zI (⟨([]:List Int),0,0,([]:List zj),([]:List zL)⟩:zJ))) Tryz.sizeOf26 rfl rfl rfl rfl)<|zA (zD rfl) ?_
  refine zA (zD rfl)<|zF<|zb ?_
  cases h
  exact zCW (zFc Tryz.isAgg26 Tryz.sizeOf26 rfl rfl rfl rfl) (zAH rfl rfl) (zAH rfl rfl) rfl
 refine zP<|zH<|zH<|zC<|zA (zB rfl)<|zA (zf rfl rfl) ?_
 refine zA (zB rfl)<|zX rfl rfl (fun c1=>zp.step (zB rfl))<|zX rfl rfl (fun c2=>zp.step (zK Tryz.underlying26 rfl rfl Tryz.sizeOf22 rfl))<|zX rfl rfl (fun c3=>zp.step (zN Tryz.isAgg22 (z6 rfl c3) rfl rfl rfl))<|zX rfl rfl (fun c4=>zp.step (zW Tryz.underlying22 (z6 rfl c4)))<|zX rfl rfl (fun c5=>zp.step (zAv (z6 rfl c5) (z6 rfl c5))) ?_
 refine zA (zg rfl rfl)<|zA (zB rfl)<|zX rfl rfl (fun c6=>zp.step (zB rfl))<|zX rfl rfl (fun c7=>zp.step (zf (z6 rfl c7) rfl))<|zA (zg rfl rfl)<|zA (zB rfl) ?_
 refine zX rfl rfl (fun c8=>zp.step (zB rfl))<|zX rfl rfl (fun c9=>zp.step (zAc (z6 rfl c9) rfl))<|zA (zg rfl rfl)<|zF ?_
 refine zY h rfl (fun b2 h => ?_) (fun b2 h => ?_)
 ·refine zH<|zC<|zA zQV<|zi (H':=[.box 26 (zI A),.box 26 (zI (⟨([]:List Int),0,0,([]:List zj),([]:List zL)⟩:zJ))]) (zZ (k:=1) (o:=0) (cs:=(zI ⟨[],0,0,[],[]⟩)) (la:=(zI (⟨([]:List Int),0,0,([]:List zj),([]:List zL)⟩:zJ))) Tryz.sizeOf26 rfl rfl rfl rfl)<|zA (zD rfl)<|zA (zD rfl) ?_
  refine zF<|zb ?_
  cases h
  exact zCW (zFc Tryz.isAgg26 Tryz.sizeOf26 rfl rfl rfl rfl) (zAH rfl rfl) (zAH rfl rfl) rfl
 refine zP<|zH<|zC<|zA (zT (k:=0) (o:=0) (m:=5) Tryz.isAgg26 Tryz.sizeOf26 rfl rfl rfl rfl rfl)<|zR h fun x2 w2 h=>zGX (cs:=[ls cI x2.nodes,li x2.batch,li x2.high,AV.osl 51 10 (List.map zO x2.zones),AV.osl 55 1 (List.map zG x2.caches)]) (la:=[(AV.agg (zI A))]) (la':=[(AV.agg (zI A))]) (S:=[]) Tryz.func54 rfl (by kernel_rfl) (.fn 54) rfl ⟨zAx.nr rfl,trivial⟩ (zFi w2) (.inl rfl) ?_
 refine za (H':=[.box 26 (zI A),.box 26 (zI ⟨[],0,0,[],[]⟩),.val (.agg [ls cI x2.nodes,li x2.batch,li x2.high,AV.osl 51 10 (List.map zO x2.zones),AV.osl 55 1 (List.map zG x2.caches)]),.box 26 (zI ⟨[],0,0,[],[]⟩)]) zv3<|zi (H':=[.box 26 (zI A),.box 26 (zI ⟨[],0,0,[],[]⟩),.dead,.box 26 [ls cI x2.nodes,li x2.batch,li x2.high,AV.osl 51 10 (List.map zO x2.zones),AV.osl 55 1 (List.map zG x2.caches)]]) (zCL (k:=3) (o:=0) (j:=2) (cs:=(zI ⟨[],0,0,[],[]⟩)) (la:=[ls cI x2.nodes,li x2.batch,li x2.high,AV.osl 51 10 (List.map zO x2.zones),AV.osl 55 1 (List.map zG x2.caches)]) Tryz.sizeOf26 rfl rfl rfl rfl rfl (by decide))<|zF<|zH<|zM h fun b3 h=>zR h fun x3 w3 h => ?_
 refine zAl (n:=100) (m:=0) [.head 0 0,.head 0 0,.head 0 0,.head 0 0,.head 0 0,.head 0 0,.head 0 0,.head 0 0,.head 0 0,.head 0 0,.head 0 0,.head 0 0,.head 0 0] [] [AV.ptr 0 3,ls zO A.zones,AV.ptr 0 0,ls cI A.nodes,li D,(AV.rp (cI (at_ A.nodes D)) 0),(li (at_ A.nodes D)),(AV.tup [ls cI x3.1,li x3.2]),(AV.tup [ls cI x3.1,li x3.2]),ls cI x3.1,li x3.2,ls cI x3.1,li x3.2] [[.box 26 (zI A),.box 26 (zI ⟨[],0,0,[],[]⟩),.dead,.box 26 [ls cI x2.nodes,li x2.batch,li x2.high,AV.osl 51 10 (List.map zO x2.zones),AV.osl 55 1 (List.map zG x2.caches)]]] (by kernel_rfl) (by kernel_rfl) ⟨D1 fun e s p=>zK (k:=0) (o:=0) (off:=3) Tryz.underlying26 rfl rfl Tryz.sizeOf23 (s 3 rfl),D1 fun e s p=>zN (k:=0) (o:=3) Tryz.isAgg23 p.1 rfl rfl rfl,D1 fun e s p=>zK (k:=0) (o:=0) (off:=0) Tryz.underlying26 rfl rfl Tryz.sizeOf22 (s 3 rfl),D1 fun e s p=>zN (k:=0) (o:=0) Tryz.isAgg22 p.1 rfl rfl rfl,D1 fun e s p=>zB (s 1 rfl),D1 fun e s p=>zS (f:=cI) (l:=A.nodes) (i:=D) Tryz.underlying22 Tryz.sizeOf3 (fun _=>rfl) p.1 p.2.1 b3,D1 fun e s p=>zU (o:=0) Tryz.isAgg3 p.1 rfl,?_,D1 fun e s p=>zB p.1,D1 fun e s p=>zd p.1 rfl,D1 fun e s p=>zd p.1 rfl,D1 fun e s p=>zD p.2.2.2.2.2.2.2.2.2.2.2.1,D1 fun e s p=>zD p.2.2.2.2.2.2.2.2.2.2.2.2.1,trivial⟩ ?_
 ·
  intro e8 s8 p8
  refine zh (r:=(AV.tup [ls cI x3.1,li x3.2])) (la:=[ls zO A.zones,(li (at_ A.nodes D)),(AV.lit (.bool false))]) Tryz.func53 rfl (by kernel_rfl) (.fn 53) (zAN p8.1 (zAN p8.2.1 (zAN rfl rfl))) rfl (zKD w3) rfl ?_
  exact zF ⟨fun _=>rfl,rfl⟩
 intro e14 s14 hq1
 refine zAT (zBL (l:=[(2,(li G)),(6,(AV.ptr 1 0)),(10,(AV.ptr 3 0)),(11,(ls cI x3.1))]) ⟨s14 2 rfl,s14 6 rfl,s14 10 rfl,(hq1 11 (by decide) (by decide)),trivial⟩) ?_
 refine zu (r:=r) (fun (_:Unit)=>mkE [(6,(AV.ptr 0 0))]) (fun _=>[.box 26 (zI ⟨[],0,0,[],[]⟩)]) (fun _=>zEy ) ?_ ?_
 ·
  refine zH<|zC<|zA (zB rfl)<|zA (zW Tryz.underlying22 rfl)<|zA (zB rfl)<|zF ?_
  refine zQ<|zq (σ:=Int×(List Int)×Int×Int×(List zj)×(List zL)) (fun (i1,d1,d2,d3,l1,l2)=>mkE [(2,(li G)),(6,(AV.ptr 0 0)),(10,(AV.ptr 1 0)),(56,(ls cI x3.1)),(57,(li (x3.1.length:Int))),(58,(li i1))]) (fun (i1,d1,d2,d3,l1,l2)=>[.box 26 (zI ⟨[],0,0,[],[]⟩),.box 26 [ls cI d1,li d2,li d3,AV.osl 51 10 (List.map zO l1),AV.osl 55 1 (List.map zG l2)]]) (fun n0 (i1,d1,d2,d3,l1,l2)=>zAi G x3 n0 i1 d1 d2 d3 l1 l2) (0,x2.nodes,x2.batch,x2.high,x2.zones,x2.caches) h (fun _=>rfl) (z8 [1,3] rfl rfl (by kernel_rfl)) ?_
  clear h
  rintro n0 ⟨i1,d1,d2,d3,l1,l2⟩ h
  replace h:zE2 G x3 (zAi G x3 n0) i1 d1 d2 d3 l1 l2=some r:=h
  unfold zE2 at h
  refine zH<|zC<|zA (zf rfl rfl)<|zF<|zH ?_
  refine zY h rfl (fun b4 h => ?_) (fun b4 h => ?_)
  ·refine zP ?_
   refine zu (r:=r) (fun ((d4,d5,d6,l3,l4):(List Int)×Int×Int×(List zj)×(List zL))=>mkE [(2,(li G)),(6,(AV.ptr 0 0)),(10,(AV.ptr 1 0)),(56,(ls cI x3.1)),(57,(li (x3.1.length:Int))),(58,(li i1))]) (fun (d4,d5,d6,l3,l4)=>[.box 26 (zI ⟨[],0,0,[],[]⟩),.box 26 [ls cI d4,li d5,li d6,AV.osl 51 10 (List.map zO l3),AV.osl 55 1 (List.map zG l4)]]) (fun (d4,d5,d6,l3,l4)=>zDD (zAi G x3 n0) i1 d4 d5 d6 l3 l4) ?_ ?_
   ·
    refine zQ<|zH<|zC<|zM h fun b6 h=>zA (zS Tryz.underlying22 Tryz.sizeOf3 (fun _=>rfl) rfl rfl b6)<|zA (zU (o:=0) Tryz.isAgg3 rfl rfl) ?_
    refine zA (zD rfl)<|zF<|zH<|zH<|zAT (zAo (k:=1) (o:=3) (t':=51) (sz:=10) (rows:=List.map zO l1) rfl rfl)<|zAT (zAo (k:=1) (o:=4) (t':=55) (sz:=1) (rows:=List.map zG l2) rfl rfl) ?_
    refine zR h fun x4 w4 h=>zM h fun b7 h=>zM h fun b8 h => ?_
    refine zAl (n:=100) (m:=0) [.head 0 0,.head 0 0,.head 0 0,.head 0 0,.head 0 0,.head 0 0] [] [(AV.agg [ls cI d1,li d2,li d3,AV.hd 2,AV.hd 3]),(li (at_ x3.1 i1)),li x4,li G,(li ((1:Int)*2 ^ G.toNat)),(AV.lit (.bool (decide (x4<((1:Int)*2 ^ G.toNat)))))] [[.box 26 (zI ⟨[],0,0,[],[]⟩),.box 26 [ls cI d1,li d2,li d3,AV.hd 2,AV.hd 3],.vec 51 10 (List.map zO l1),.vec 55 1 (List.map zG l2)]] (by kernel_rfl) (by kernel_rfl) ⟨D1 fun e s p=>zT (k:=1) (o:=0) (m:=5) Tryz.isAgg26 Tryz.sizeOf26 (s 10 rfl) rfl rfl rfl rfl,D1 fun e s p=>zB (s 14 rfl),?_,D1 fun e s p=>zB (s 2 rfl),D1 fun e s p=>zDA (a:=1) (b:=G) rfl p.1 b7 b8,D1 fun e s p=>zf (a:=x4) (b:=(1:Int)*2 ^ G.toNat) p.1 p.2.1,trivial⟩ ?_
    ·
     intro e17 s17 p16
     refine zA7 (r':=(li x4)) (la:=[(AV.agg [ls cI d1,li d2,li d3,AV.hd 2,AV.hd 3]),(li (at_ x3.1 i1))]) (la':=[(AV.agg (zI ⟨d1,d2,d3,l1,l2⟩)),(li (at_ x3.1 i1))]) (r:=(li x4)) (S:=[2,3]) Tryz.func39 rfl (by kernel_rfl) (.fn 39) (zAN p16.1 (zAN p16.2.1 rfl)) ⟨zAx.agg (by exact ⟨zAx.nr rfl,⟨zAx.nr rfl,⟨zAx.nr rfl,⟨zJc (fun _=>rfl) rfl rfl,⟨zJc (fun _=>rfl) rfl rfl,trivial⟩⟩⟩⟩⟩),zAx.nr rfl,trivial⟩ (zH4 w4) (.inr trivial) rfl ?_
     exact zF ⟨fun _=>rfl,rfl⟩
    intro e21 s21 hq2
    refine zAT (zBL (l:=[(2,(li G)),(6,(AV.ptr 0 0)),(10,(AV.ptr 1 0)),(14,(li (at_ x3.1 i1))),(56,(ls cI x3.1)),(57,(li (x3.1.length:Int))),(58,(li i1)),(67,(AV.lit (.bool (decide (x4<((1:Int)*2 ^ G.toNat))))))]) ⟨s21 2 rfl,s21 6 rfl,s21 10 rfl,s21 14 rfl,s21 56 rfl,s21 57 rfl,s21 58 rfl,(hq2 5 (by decide) (by decide)),trivial⟩) ?_
    refine zY h rfl (fun b9 h => ?_) (fun b9 h => ?_)
    ·refine zx ?_
     exact ⟨(d1,d2,d3,l1,l2),Rep.trans (zAA (k:=1) (j:=2) (o:=3) rfl rfl rfl rfl) (Rep.trans (zAA (k:=1) (j:=3) (o:=4) rfl rfl rfl rfl) (z8 [0,1] (l:=[(2,(li G)),(6,(AV.ptr 0 0)),(10,(AV.ptr 1 0)),(56,(ls cI x3.1)),(57,(li (x3.1.length:Int))),(58,(li i1))]) rfl rfl (by kernel_rfl))),h⟩
    refine zP ?_
    refine zu (r:=r) (fun ((d7,d8,d9,l5,l6):(List Int)×Int×Int×(List zj)×(List zL))=>mkE [(2,(li G)),(6,(AV.ptr 0 0)),(10,(AV.ptr 1 0)),(14,(li (at_ x3.1 i1))),(56,(ls cI x3.1)),(57,(li (x3.1.length:Int))),(58,(li i1))]) (fun (d7,d8,d9,l5,l6)=>[.box 26 (zI ⟨[],0,0,[],[]⟩),.box 26 [ls cI d7,li d8,li d9,AV.osl 51 10 (List.map zO l5),AV.osl 55 1 (List.map zG l6)]]) (fun (d7,d8,d9,l5,l6)=>zFA (zAi G x3 n0) G x3 i1 d7 d8 d9 l5 l6) ?_ ?_
    ·
     refine zH<|zC<|zA (zK Tryz.underlying26 rfl rfl Tryz.sizeOf24 rfl)<|zA (zN Tryz.isAgg24 rfl rfl rfl rfl)<|zA (zDf (f:=zG) (l:=l2) Tryz.underlying24 rfl rfl)<|zA (zB rfl) ?_
     refine zF<|zQ<|zq (σ:=Int×(List Int)×Int×Int×(List zj)×(List zL)) (fun (i2,d10,d11,d12,l7,l8)=>mkE [(2,(li G)),(6,(AV.ptr 0 0)),(10,(AV.ptr 1 0)),(14,(li (at_ x3.1 i1))),(56,(ls cI x3.1)),(57,(li (x3.1.length:Int))),(58,(li i1)),(70,(li (l2.length:Int))),(71,(li i2))]) (fun (i2,d10,d11,d12,l7,l8)=>[.box 26 (zI ⟨[],0,0,[],[]⟩),.box 26 [ls cI d10,li d11,li d12,AV.osl 51 10 (List.map zO l7),AV.osl 55 1 (List.map zG l8)]]) (fun n1 (i2,d10,d11,d12,l7,l8)=>zDB (zAi G x3 n0) G x3 i1 l2 n1 i2 d10 d11 d12 l7 l8) (0,d1,d2,d3,l1,l2) h (fun _=>rfl) (Rep.trans (zAA (k:=1) (j:=2) (o:=3) rfl rfl rfl rfl) (Rep.trans (zAA (k:=1) (j:=3) (o:=4) rfl rfl rfl rfl) (z8 [0,1] (l:=[(2,(li G)),(6,(AV.ptr 0 0)),(10,(AV.ptr 1 0)),(14,(li (at_ x3.1 i1))),(56,(ls cI x3.1)),(57,(li (x3.1.length:Int))),(58,(li i1)),(70,(li (l2.length:Int))),(71,(li 0))]) rfl rfl (by kernel_rfl)))) ?_
     clear h
     rintro n1 ⟨i2,d10,d11,d12,l7,l8⟩ h
     replace h:zE5 (zAi G x3 n0) G x3 i1 l2 (zDB (zAi G x3 n0) G x3 i1 l2 n1) i2 d10 d11 d12 l7 l8=some r:=h
     unfold zE5 at h
     refine zH<|zC<|zA (zf rfl rfl)<|zF<|zH ?_
     refine zY h rfl (fun b12 h => ?_) (fun b12 h => ?_)
     ·refine zP<|zH<|zQ<|zH<|zC<|zA (zB rfl) ?_
      refine zA (zD rfl)<|zF<|zC<|zA (zB rfl)<|zA (zB rfl)<|zR h fun x6 w6 h => ?_
      refine zCo (k:=1) (la:=[AV.ptr 1 0,li i2,(li (at_ x3.1 i1))]) (la':=[AV.ptr 0 0,li i2,(li (at_ x3.1 i1))]) (r:=(.tup [])) (S:=[]) (en' := .box 26 [ls cI x6.nodes,li x6.batch,li x6.high,AV.osl 51 10 (List.map zO x6.zones),AV.osl 55 1 (List.map zG x6.caches)]) Tryz.func56 rfl (by kernel_rfl) (.fn 56) rfl ⟨zBv.ptr,zBv.of (zAx.nr rfl),zBv.of (zAx.nr rfl),trivial⟩ rfl rfl (by kernel_rfl) (by kernel_rfl) (zHY w6) rfl (.inl rfl)<|zF<|zC<|zM h fun b13 h=>zA (ze rfl rfl b13)<|zA (zB rfl) ?_
      refine zF ?_
      exact ⟨((i2+1),x6.nodes,x6.batch,x6.high,x6.zones,x6.caches),z8 [0,1] rfl rfl (by kernel_rfl),h⟩
     refine zx ?_
     exact ⟨(d10,d11,d12,l7,l8),z8 [0,1] rfl rfl (by kernel_rfl),h⟩
    clear h
    rintro ⟨d7,d8,d9,l5,l6⟩ h
    unfold zFA at h
    refine zH<|zC<|zA (zK Tryz.underlying26 rfl rfl Tryz.sizeOf23 rfl)<|zAC (zAo (k:=1) (o:=3) (t':=51) (sz:=10) (rows:=List.map zO l5) rfl rfl)<|zA (zN Tryz.isAgg23 rfl rfl rfl rfl)<|zA (zB rfl) ?_
    refine zM h fun b10 h=>zA (z5 (f:=zO) (l:=l5) (i:=at_ x3.1 i1) Tryz.underlying23 Tryz.sizeOf51 rfl rfl rfl b10)<|zA (zBu (f:=zO) (l:=l5) (i:=at_ x3.1 i1) (c:=0) (q:=10) (la:=(zO (at_ l5 (at_ x3.1 i1)))) Tryz.isAgg51 Tryz.sizeOf51 rfl rfl (by first | rfl | omega) b10 rfl rfl rfl)<|zA (zB rfl)<|zR h fun x5 w5 h=>zh Tryz.func64 rfl (by kernel_rfl) (.fn 64) rfl rfl (zLe w5) rfl ?_
    refine zA (zB rfl)<|zA (zd rfl rfl)<|zA (zd rfl rfl)<|zA (zd rfl rfl)<|za (H':=[.box 26 (zI ⟨[],0,0,[],[]⟩),.box 26 [ls cI d7,li d8,li d9,AV.hd 2,AV.osl 55 1 (List.map zG l6)],.vec 51 10 (List.map zO l5),.box 51 (zO ⟨0,0,0,0,0,(List.replicate 5 ([]:List Int))⟩)]) zv0<|zi (H':=[.box 26 (zI ⟨[],0,0,[],[]⟩),.box 26 [ls cI d7,li d8,li d9,AV.hd 2,AV.osl 55 1 (List.map zG l6)],.vec 51 10 (List.map zO l5),.box 51 (zO x5.1)]) (zZ (k:=3) (o:=0) (cs:=(zO ⟨0,0,0,0,0,(List.replicate 5 ([]:List Int))⟩)) (la:=(zO x5.1)) Tryz.sizeOf51 rfl rfl rfl rfl) ?_
    refine zA (zD rfl)<|zA (zD rfl)<|zF<|zH<|zC<|zA (zB rfl) ?_
    refine zA (zAz rfl rfl)<|zF ?_
    refine zY h rfl (fun b11 h => ?_) (fun b11 h => ?_)
    ·refine zH<|zC<|zA (zK Tryz.underlying26 rfl rfl Tryz.sizeOf23 rfl)<|zA (zN Tryz.isAgg23 rfl rfl rfl rfl)<|zA (zB rfl)<|zA (zT (k:=3) (o:=0) (m:=10) Tryz.isAgg51 Tryz.sizeOf51 rfl rfl rfl rfl rfl) ?_
     refine zA (z5 (f:=zO) (l:=l5) (i:=at_ x3.1 i1) Tryz.underlying23 Tryz.sizeOf51 rfl rfl rfl b10)<|zi (H':=[.box 26 (zI ⟨[],0,0,[],[]⟩),.box 26 [ls cI d7,li d8,li d9,AV.hd 2,AV.osl 55 1 (List.map zG l6)],.vec 51 10 (List.map zO (l5.set (at_ x3.1 i1).toNat x5.1)),.box 51 (zO x5.1)]) (zBZ (k:=2) (o:=((at_ x3.1 i1).toNat*10)) (f:=zO) (l:=l5) (i:=at_ x3.1 i1) (z:=x5.1) Tryz.sizeOf51 (fun _=>rfl) rfl rfl (by first | rfl | omega) b10 rfl rfl)<|zF<|zH<|zC<|zAC (zAA (k:=1) (j:=2) (o:=3) rfl rfl rfl rfl) ?_
     refine zAC (zBl (k:=1) (o:=3) (rows':=List.map zO (l5.set (at_ x3.1 i1).toNat x5.1)) rfl rfl (zAK (fun _=>rfl)))<|zAC (zBl (k:=1) (o:=4) (rows':=List.map zG l6) rfl rfl (zAK (fun _=>rfl)))<|zA (zT (k:=1) (o:=0) (m:=5) Tryz.isAgg26 Tryz.sizeOf26 rfl rfl rfl rfl rfl)<|zA (zB rfl)<|zi (H':=[.box 26 (zI (⟨d7,d8,d9,l5.set (at_ x3.1 i1).toNat x5.1,l6⟩:zJ)),.box 26 (zI ⟨d7,d8,d9,(l5.set (at_ x3.1 i1).toNat x5.1),l6⟩),.dead,.box 51 (zO x5.1)]) (zZ (k:=0) (o:=0) (cs:=(zI ⟨[],0,0,[],[]⟩)) (la:=(zI (⟨d7,d8,d9,l5.set (at_ x3.1 i1).toNat x5.1,l6⟩:zJ))) Tryz.sizeOf26 rfl rfl rfl rfl)<|zA (zD rfl) ?_
     refine zA (zD rfl)<|zF<|zb ?_
     cases h
     exact zCW (zFc Tryz.isAgg26 Tryz.sizeOf26 rfl rfl rfl rfl) (zAH rfl rfl) (zAH rfl rfl) rfl
    refine zP ?_
    exact ⟨(d7,d8,d9,l5,l6),Rep.trans (zAA (k:=1) (j:=2) (o:=3) rfl rfl rfl rfl) (z8 [0,1] (l:=[(2,(li G)),(6,(AV.ptr 0 0)),(10,(AV.ptr 1 0)),(56,(ls cI x3.1)),(57,(li (x3.1.length:Int))),(58,(li i1))]) rfl rfl (by kernel_rfl)),h⟩
   clear h
   rintro ⟨d4,d5,d6,l3,l4⟩ h
   unfold zDD at h
   refine zC<|zM h fun b5 h=>zA (ze rfl rfl b5)<|zA (zB rfl)<|zF ?_
   exact ⟨((i1+1),d4,d5,d6,l3,l4),z8 [0,1] rfl rfl (by kernel_rfl),h⟩
  refine zx ?_
  exact ⟨(),z8 [0] rfl rfl (by kernel_rfl),h⟩
 clear h
 intro _ h
 unfold zEy at h
 refine zH<|zC<|zA zQV<|zi (H':=[.box 26 (zI (⟨([]:List Int),0,0,([]:List zj),([]:List zL)⟩:zJ))]) (zZ (k:=0) (o:=0) (cs:=(zI ⟨[],0,0,[],[]⟩)) (la:=(zI (⟨([]:List Int),0,0,([]:List zj),([]:List zL)⟩:zJ))) Tryz.sizeOf26 rfl rfl rfl rfl)<|zA (zD rfl)<|zA (zD rfl) ?_
 refine zF<|zb ?_
 cases h
 exact zCW (zFc Tryz.isAgg26 Tryz.sizeOf26 rfl rfl rfl rfl) (zAH rfl rfl) (zAH rfl rfl) rfl
theorem zL4 {B:zJ} {r:zJ} (h:zJC B=some r):PFn Tryz.prog 34 [(AV.agg (zI B))] (AV.agg (zI r)):=by
 refine zo Tryz.func34 rfl Tryz.ntmps34 Tryz.results34 rfl ?_
 unfold zJC at h
 refine zH<|zC<|za (H':=[.box 26 (zI B)]) (zv (t:=26) rfl)<|za (H':=[.box 26 (zI B),.box 26 (zI ⟨[],0,0,[],[]⟩)]) zv3<|zF<|zH ?_
 refine zH<|zC<|zA (zT (k:=0) (o:=0) (m:=5) Tryz.isAgg26 Tryz.sizeOf26 rfl rfl rfl rfl rfl)<|zR h fun x1 w1 h=>zh Tryz.func13 rfl (by kernel_rfl) (.fn 13) rfl rfl (zBE w1) rfl<|zA (zz rfl rfl) ?_
 refine zF ?_
 refine zY h rfl (fun b1 h => ?_) (fun b1 h => ?_)
 ·refine zH<|zC<|zA zQV<|zi (H':=[.box 26 (zI B),.box 26 (zI (⟨([]:List Int),0,0,([]:List zj),([]:List zL)⟩:zJ))]) (zZ (k:=1) (o:=0) (cs:=(zI ⟨[],0,0,[],[]⟩)) (la:=(zI (⟨([]:List Int),0,0,([]:List zj),([]:List zL)⟩:zJ))) Tryz.sizeOf26 rfl rfl rfl rfl)<|zF<|zb ?_
  cases h
  exact zt (zFc Tryz.isAgg26 Tryz.sizeOf26 rfl rfl rfl rfl)
 refine zP<|zH<|zC<|zA (zT (k:=0) (o:=0) (m:=5) Tryz.isAgg26 Tryz.sizeOf26 rfl rfl rfl rfl rfl)<|zR h fun x2 w2 h=>zGX (cs:=[ls cI x2.nodes,li x2.batch,li x2.high,AV.osl 51 10 (List.map zO x2.zones),AV.osl 55 1 (List.map zG x2.caches)]) (la:=[(AV.agg (zI B))]) (la':=[(AV.agg (zI B))]) (S:=[]) Tryz.func54 rfl (by kernel_rfl) (.fn 54) rfl ⟨zAx.nr rfl,trivial⟩ (zFi w2) (.inl rfl) ?_
 refine za (H':=[.box 26 (zI B),.box 26 (zI ⟨[],0,0,[],[]⟩),.val (.agg [ls cI x2.nodes,li x2.batch,li x2.high,AV.osl 51 10 (List.map zO x2.zones),AV.osl 55 1 (List.map zG x2.caches)]),.box 26 (zI ⟨[],0,0,[],[]⟩)]) zv3<|zi (H':=[.box 26 (zI B),.box 26 (zI ⟨[],0,0,[],[]⟩),.dead,.box 26 [ls cI x2.nodes,li x2.batch,li x2.high,AV.osl 51 10 (List.map zO x2.zones),AV.osl 55 1 (List.map zG x2.caches)]]) (zCL (k:=3) (o:=0) (j:=2) (cs:=(zI ⟨[],0,0,[],[]⟩)) (la:=[ls cI x2.nodes,li x2.batch,li x2.high,AV.osl 51 10 (List.map zO x2.zones),AV.osl 55 1 (List.map zG x2.caches)]) Tryz.sizeOf26 rfl rfl rfl rfl rfl (by decide))<|zF ?_
 refine zu (r:=r) (fun ((d1,d2,d3,l1,l2):(List Int)×Int×Int×(List zj)×(List zL))=>mkE [(2,(AV.ptr 0 0)),(3,(AV.ptr 1 0))]) (fun (d1,d2,d3,l1,l2)=>[.box 26 (zI ⟨[],0,0,[],[]⟩),.box 26 [ls cI d1,li d2,li d3,AV.osl 51 10 (List.map zO l1),AV.osl 55 1 (List.map zG l2)]]) (fun (d1,d2,d3,l1,l2)=>zHE d1 d2 d3 l1 l2) ?_ ?_
 ·
  refine zH<|zC<|zA (zK Tryz.underlying26 rfl rfl Tryz.sizeOf24 rfl)<|zAC (zAo (k:=3) (o:=4) (t':=55) (sz:=1) (rows:=List.map zG x2.caches) rfl rfl)<|zA (zN Tryz.isAgg24 rfl rfl rfl rfl)<|zA (zDf (f:=zG) (l:=x2.caches) Tryz.underlying24 rfl rfl) ?_
  refine zA (zB rfl)<|zF<|zQ<|zq (σ:=Int×(List Int)×Int×Int×(List zj)×(List zL)) (fun (i1,d4,d5,d6,l3,l4)=>mkE [(2,(AV.ptr 0 0)),(3,(AV.ptr 1 0)),(14,(li (x2.caches.length:Int))),(15,(li i1))]) (fun (i1,d4,d5,d6,l3,l4)=>[.box 26 (zI ⟨[],0,0,[],[]⟩),.box 26 [ls cI d4,li d5,li d6,AV.osl 51 10 (List.map zO l3),AV.osl 55 1 (List.map zG l4)]]) (fun n0 (i1,d4,d5,d6,l3,l4)=>zBj x2 n0 i1 d4 d5 d6 l3 l4) (0,x2.nodes,x2.batch,x2.high,x2.zones,x2.caches) h (fun _=>rfl) (Rep.trans (zAA (k:=3) (j:=4) (o:=4) rfl rfl rfl rfl) (z8 [1,3] (l:=[(2,(AV.ptr 0 0)),(3,(AV.ptr 1 0)),(14,(li (x2.caches.length:Int))),(15,(li 0))]) rfl rfl (by kernel_rfl))) ?_
  clear h
  rintro n0 ⟨i1,d4,d5,d6,l3,l4⟩ h
  replace h:zHW x2 (zBj x2 n0) i1 d4 d5 d6 l3 l4=some r:=h
  unfold zHW at h
  refine zH<|zC<|zA (zf rfl rfl)<|zF<|zH ?_
  refine zY h rfl (fun b2 h => ?_) (fun b2 h => ?_)
  ·refine zP ?_
   refine zu (r:=r) (fun ((d7,d8,d9,l5,l6):(List Int)×Int×Int×(List zj)×(List zL))=>mkE [(2,(AV.ptr 0 0)),(3,(AV.ptr 1 0)),(14,(li (x2.caches.length:Int))),(15,(li i1))]) (fun (d7,d8,d9,l5,l6)=>[.box 26 (zI ⟨[],0,0,[],[]⟩),.box 26 [ls cI d7,li d8,li d9,AV.osl 51 10 (List.map zO l5),AV.osl 55 1 (List.map zG l6)]]) (fun (d7,d8,d9,l5,l6)=>zHU (zBj x2 n0) i1 d7 d8 d9 l5 l6) ?_ ?_
   ·
    refine zQ<|zH<|zC<|zA (zB rfl)<|zA (zD rfl)<|zF ?_
    refine zH<|zC<|zA (zK Tryz.underlying26 rfl rfl Tryz.sizeOf23 rfl)<|zAC (zAo (k:=1) (o:=3) (t':=51) (sz:=10) (rows:=List.map zO l3) rfl rfl)<|zA (zN Tryz.isAgg23 rfl rfl rfl rfl)<|zA (zDf (f:=zO) (l:=l3) Tryz.underlying23 rfl rfl) ?_
    refine zA (zB rfl)<|zF<|zQ<|zq (σ:=Int×(List Int)×Int×Int×(List zj)×(List zL)) (fun (i2,d10,d11,d12,l7,l8)=>mkE [(2,(AV.ptr 0 0)),(3,(AV.ptr 1 0)),(4,(li i1)),(14,(li (x2.caches.length:Int))),(15,(li i1)),(20,(li (l3.length:Int))),(21,(li i2))]) (fun (i2,d10,d11,d12,l7,l8)=>[.box 26 (zI ⟨[],0,0,[],[]⟩),.box 26 [ls cI d10,li d11,li d12,AV.osl 51 10 (List.map zO l7),AV.osl 55 1 (List.map zG l8)]]) (fun n1 (i2,d10,d11,d12,l7,l8)=>zFb (zBj x2 n0) i1 l3 n1 i2 d10 d11 d12 l7 l8) (0,d4,d5,d6,l3,l4) h (fun _=>rfl) (Rep.trans (zAA (k:=1) (j:=2) (o:=3) rfl rfl rfl rfl) (z8 [0,1] (l:=[(2,(AV.ptr 0 0)),(3,(AV.ptr 1 0)),(4,(li i1)),(14,(li (x2.caches.length:Int))),(15,(li i1)),(20,(li (l3.length:Int))),(21,(li 0))]) rfl rfl (by kernel_rfl))) ?_
    clear h
    rintro n1 ⟨i2,d10,d11,d12,l7,l8⟩ h
    replace h:zHj (zBj x2 n0) i1 l3 (zFb (zBj x2 n0) i1 l3 n1) i2 d10 d11 d12 l7 l8=some r:=h
    unfold zHj at h
    refine zH<|zC<|zA (zf rfl rfl)<|zF<|zH ?_
    refine zY h rfl (fun b4 h => ?_) (fun b4 h => ?_)
    ·refine zP<|zH<|zQ<|zH<|zC<|zA (zB rfl) ?_
     refine zA (zD rfl)<|zF<|zC<|zA (zB rfl)<|zA (zB rfl)<|zR h fun x3 w3 h => ?_
     refine zCo (k:=1) (la:=[AV.ptr 1 0,li i1,li i2]) (la':=[AV.ptr 0 0,li i1,li i2]) (r:=(.tup [])) (S:=[]) (en' := .box 26 [ls cI x3.nodes,li x3.batch,li x3.high,AV.osl 51 10 (List.map zO x3.zones),AV.osl 55 1 (List.map zG x3.caches)]) Tryz.func56 rfl (by kernel_rfl) (.fn 56) rfl ⟨zBv.ptr,zBv.of (zAx.nr rfl),zBv.of (zAx.nr rfl),trivial⟩ rfl rfl (by kernel_rfl) (by kernel_rfl) (zHY w3) rfl (.inl rfl)<|zF<|zC<|zM h fun b5 h=>zA (ze rfl rfl b5)<|zA (zB rfl) ?_
     refine zF ?_
     exact ⟨((i2+1),x3.nodes,x3.batch,x3.high,x3.zones,x3.caches),z8 [0,1] rfl rfl (by kernel_rfl),h⟩
    refine zx ?_
    exact ⟨(d10,d11,d12,l7,l8),z8 [0,1] rfl rfl (by kernel_rfl),h⟩
   clear h
   rintro ⟨d7,d8,d9,l5,l6⟩ h
   unfold zHU at h
   refine zC<|zM h fun b3 h=>zA (ze rfl rfl b3)<|zA (zB rfl)<|zF ?_
   exact ⟨((i1+1),d7,d8,d9,l5,l6),z8 [0,1] rfl rfl (by kernel_rfl),h⟩
  refine zx ?_
  exact ⟨(d4,d5,d6,l3,l4),z8 [0,1] rfl rfl (by kernel_rfl),h⟩
 clear h
 rintro ⟨d1,d2,d3,l1,l2⟩ h
 unfold zHE at h
 refine zH<|zC<|zAC (zBl (k:=1) (o:=3) (rows':=List.map zO l1) rfl rfl (zAK (fun _=>rfl)))<|zAC (zBl (k:=1) (o:=4) (rows':=List.map zG l2) rfl rfl (zAK (fun _=>rfl)))<|zA (zT (k:=1) (o:=0) (m:=5) Tryz.isAgg26 Tryz.sizeOf26 rfl rfl rfl rfl rfl)<|zi (H':=[.box 26 (zI (⟨d1,d2,d3,l1,l2⟩:zJ)),.box 26 (zI ⟨d1,d2,d3,l1,l2⟩)]) (zZ (k:=0) (o:=0) (cs:=(zI ⟨[],0,0,[],[]⟩)) (la:=(zI (⟨d1,d2,d3,l1,l2⟩:zJ))) Tryz.sizeOf26 rfl rfl rfl rfl) ?_
 refine zF<|zb ?_
 cases h
 exact zt (zFc Tryz.isAgg26 Tryz.sizeOf26 rfl rfl rfl rfl)
theorem zKK {B:List Int} {L:List Int} {r:Bool} (h:zFU B L=some r):PFn Tryz.prog 61 [ls cI B,ls cI L] (AV.lit (.bool r)):=by
 refine zo Tryz.func61 rfl Tryz.ntmps61 Tryz.results61 rfl ?_
 unfold zFU at h
 refine zH<|zC<|zA (zD rfl)<|zF<|zH<|zH ?_
 refine zC<|zA (zB rfl)<|zA (zW Tryz.underlying22 rfl)<|zA (zB rfl)<|zA (zW Tryz.underlying22 rfl)<|zA (zz rfl rfl) ?_
 refine zF ?_
 refine zY h rfl (fun b1 h => ?_) (fun b1 h => ?_)
 ·refine zH<|zC<|zA (zD rfl)<|zF<|zb ?_
  cases h
  exact zt (zAH rfl rfl)
 refine zP ?_
 refine zu (r:=r) (fun (_:Unit)=>mkE []) (fun _=>[]) (fun _=>zHx ) ?_ ?_
 ·
  refine zH<|zC<|zA (zB rfl)<|zA (zW Tryz.underlying22 rfl)<|zA (zB rfl)<|zF ?_
  refine zQ<|zq (σ:=Int) (fun i1=>mkE [(0,(ls cI B)),(1,(ls cI L)),(12,(li (B.length:Int))),(13,(li i1))]) (fun i1=>[]) (fun n0 i1=>zEm B L n0 i1) 0 h (fun _=>rfl) (z8 [] rfl rfl (by kernel_rfl)) ?_
  clear h
  intro n0 i1 h
  replace h:zCb B L (zEm B L n0) i1=some r:=h
  unfold zCb at h
  refine zH<|zC<|zA (zf rfl rfl)<|zF<|zH ?_
  refine zY h rfl (fun b2 h => ?_) (fun b2 h => ?_)
  ·refine zP<|zH<|zQ<|zH<|zC<|zA (zB rfl) ?_
   refine zA (zD rfl)<|zF<|zH<|zM h fun b3 h=>zM h fun b4 h => ?_
   refine zAl (n:=26) (m:=0) [.head 0 0,.head 0 0,.head 0 0,.head 0 0,.head 0 0,.head 0 0,.head 0 0,.head 0 0,.head 0 0] [] [ls cI B,li i1,(AV.rp (cI (at_ B i1)) 0),(li (at_ B i1)),ls cI L,li i1,(AV.rp (cI (at_ L i1)) 0),(li (at_ L i1)),(AV.lit (.bool (!decide ((at_ B i1)=(at_ L i1)))))] [[]] (by kernel_rfl) (by kernel_rfl) ⟨D1 fun e s p=>zB (s 0 rfl),D1 fun e s p=>zB (s 5 rfl),D1 fun e s p=>zS (f:=cI) (l:=B) (i:=i1) Tryz.underlying22 Tryz.sizeOf3 (fun _=>rfl) p.1 p.2.1 b3,D1 fun e s p=>zU (o:=0) Tryz.isAgg3 p.1 rfl,D1 fun e s p=>zB (s 1 rfl),D1 fun e s p=>zB (s 5 rfl),D1 fun e s p=>zS (f:=cI) (l:=L) (i:=i1) Tryz.underlying22 Tryz.sizeOf3 (fun _=>rfl) p.1 p.2.1 b4,D1 fun e s p=>zU (o:=0) Tryz.isAgg3 p.1 rfl,D1 fun e s p=>zz (a:=at_ B i1) (b:=at_ L i1) p.1 p.2.1,trivial⟩ ?_
   intro e10 s10 hq1
   refine zAT (zBL (l:=[(0,(ls cI B)),(1,(ls cI L)),(12,(li (B.length:Int))),(13,(li i1)),(24,(AV.lit (.bool (!decide ((at_ B i1)=(at_ L i1))))))]) ⟨s10 0 rfl,s10 1 rfl,s10 12 rfl,s10 13 rfl,(hq1 8 (by decide) (by decide)),trivial⟩) ?_
   refine zY h rfl (fun b5 h => ?_) (fun b5 h => ?_)
   ·refine zH<|zC<|zA (zD rfl)<|zF<|zb ?_
    cases h
    exact zt (zAH rfl rfl)
   refine zP<|zC<|zM h fun b6 h=>zA (ze rfl rfl b6)<|zA (zB rfl)<|zF ?_
   exact ⟨(i1+1),z8 [] rfl rfl (by kernel_rfl),h⟩
  refine zx ?_
  exact ⟨(),z8 [] rfl rfl (by kernel_rfl),h⟩
 clear h
 intro _ h
 unfold zHx at h
 refine zH<|zC<|zA (zD rfl)<|zF<|zb ?_
 cases h
 exact zt (zAH rfl rfl)
theorem zMf {B:List Int} {L:List Int} {r:Bool} (h:zGi B L=some r):PFn Tryz.prog 117 [ls cI B,ls cI L] (AV.lit (.bool r)):=by
 refine zo Tryz.func117 rfl Tryz.ntmps117 Tryz.results117 rfl ?_
 unfold zGi at h
 refine zH<|zC<|zA (zD rfl)<|zF<|zH<|zH ?_
 refine zC<|zA (zB rfl)<|zA (zW Tryz.underlying22 rfl)<|zA (zB rfl)<|zA (zW Tryz.underlying22 rfl)<|zA (zz rfl rfl) ?_
 refine zF ?_
 refine zY h rfl (fun b1 h => ?_) (fun b1 h => ?_)
 ·refine zH<|zC<|zA (zD rfl)<|zF<|zb ?_
  cases h
  exact zt (zAH rfl rfl)
 refine zP ?_
 refine zu (r:=r) (fun (_:Unit)=>mkE []) (fun _=>[]) (fun _=>zHy ) ?_ ?_
 ·
  refine zH<|zC<|zA (zD rfl)<|zF<|zQ<|zq (σ:=Int) (fun i1=>mkE [(0,(ls cI B)),(1,(ls cI L)),(5,(li i1))]) (fun i1=>[]) (fun n0 i1=>zEl B L n0 i1) 0 h (fun _=>rfl) (z8 [] rfl rfl (by kernel_rfl)) ?_
  clear h
  intro n0 i1 h
  replace h:zCf B L (zEl B L n0) i1=some r:=h
  unfold zCf at h
  refine zH<|zH<|zC<|zA (zB rfl)<|zA (zB rfl)<|zA (zW Tryz.underlying22 rfl) ?_
  refine zA (zf rfl rfl)<|zF ?_
  refine zY h rfl (fun b2 h => ?_) (fun b2 h => ?_)
  ·refine zP<|zH<|zQ<|zH<|zM h fun b3 h=>zM h fun b4 h => ?_
   refine zAl (n:=26) (m:=0) [.head 0 0,.head 0 0,.head 0 0,.head 0 0,.head 0 0,.head 0 0,.head 0 0,.head 0 0,.head 0 0] [] [ls cI B,li i1,(AV.rp (cI (at_ B i1)) 0),(li (at_ B i1)),ls cI L,li i1,(AV.rp (cI (at_ L i1)) 0),(li (at_ L i1)),(AV.lit (.bool (!decide ((at_ B i1)=(at_ L i1)))))] [[]] (by kernel_rfl) (by kernel_rfl) ⟨D1 fun e s p=>zB (s 0 rfl),D1 fun e s p=>zB (s 5 rfl),D1 fun e s p=>zS (f:=cI) (l:=B) (i:=i1) Tryz.underlying22 Tryz.sizeOf3 (fun _=>rfl) p.1 p.2.1 b3,D1 fun e s p=>zU (o:=0) Tryz.isAgg3 p.1 rfl,D1 fun e s p=>zB (s 1 rfl),D1 fun e s p=>zB (s 5 rfl),D1 fun e s p=>zS (f:=cI) (l:=L) (i:=i1) Tryz.underlying22 Tryz.sizeOf3 (fun _=>rfl) p.1 p.2.1 b4,D1 fun e s p=>zU (o:=0) Tryz.isAgg3 p.1 rfl,D1 fun e s p=>zz (a:=at_ B i1) (b:=at_ L i1) p.1 p.2.1,trivial⟩ ?_
   intro e10 s10 hq1
   refine zAT (zBL (l:=[(0,(ls cI B)),(1,(ls cI L)),(5,(li i1)),(25,(AV.lit (.bool (!decide ((at_ B i1)=(at_ L i1))))))]) ⟨s10 0 rfl,s10 1 rfl,s10 5 rfl,(hq1 8 (by decide) (by decide)),trivial⟩) ?_
   refine zY h rfl (fun b5 h => ?_) (fun b5 h => ?_)
   ·refine zH<|zC<|zA (zD rfl)<|zF<|zb ?_
    cases h
    exact zt (zAH rfl rfl)
   refine zP<|zC<|zA (zB rfl)<|zM h fun b6 h=>zA (ze rfl rfl b6)<|zA (zD rfl) ?_
   refine zF ?_
   exact ⟨(i1+1),z8 [] rfl rfl (by kernel_rfl),h⟩
  refine zx ?_
  exact ⟨(),z8 [] rfl rfl (by kernel_rfl),h⟩
 clear h
 intro _ h
 unfold zHy at h
 refine zH<|zC<|zA (zD rfl)<|zF<|zb ?_
 cases h
 exact zt (zAH rfl rfl)
theorem zO8 {B:zj} {L:zj} {r:Bool} (h:zKJ B L=some r):PFn Tryz.prog 62 [(AV.agg (zO B)),(AV.agg (zO L))] (AV.lit (.bool r)):=by
 refine zo Tryz.func62 rfl Tryz.ntmps62 Tryz.results62 rfl ?_
 unfold zKJ at h
 refine zH<|zC<|za (H':=[.box 51 (zO B)]) (zv (t:=51) rfl)<|za (H':=[.box 51 (zO B),.box 51 (zO L)]) (zv (t:=51) rfl)<|zA (zD rfl)<|zF ?_
 refine zH<|zH<|zC<|zA (zK Tryz.underlying51 rfl rfl Tryz.sizeOf3 rfl)<|zA (zN Tryz.isAgg3 rfl rfl rfl rfl)<|zA (zK Tryz.underlying51 rfl rfl Tryz.sizeOf3 rfl) ?_
 refine zA (zN Tryz.isAgg3 rfl rfl rfl rfl)<|zA (zz rfl rfl)<|zA (zB rfl)<|zX rfl rfl (fun c1=>zp.step (zK Tryz.underlying51 rfl rfl Tryz.sizeOf3 rfl))<|zX rfl rfl (fun c2=>zp.step (zN Tryz.isAgg3 (z6 rfl c2) rfl rfl rfl))<|zX rfl rfl (fun c3=>zp.step (zK Tryz.underlying51 rfl rfl Tryz.sizeOf3 rfl)) ?_
 refine zX rfl rfl (fun c4=>zp.step (zN Tryz.isAgg3 (z6 rfl c4) rfl rfl rfl))<|zX rfl rfl (fun c5=>zp.step (zz (z6 rfl c5) (z6 rfl c5)))<|zA (zg rfl rfl)<|zA (zB rfl)<|zX rfl rfl (fun c6=>zp.step (zK Tryz.underlying51 rfl rfl Tryz.sizeOf3 rfl))<|zX rfl rfl (fun c7=>zp.step (zN Tryz.isAgg3 (z6 rfl c7) rfl rfl rfl)) ?_
 refine zX rfl rfl (fun c8=>zp.step (zK Tryz.underlying51 rfl rfl Tryz.sizeOf3 rfl))<|zX rfl rfl (fun c9=>zp.step (zN Tryz.isAgg3 (z6 rfl c9) rfl rfl rfl))<|zX rfl rfl (fun c10=>zp.step (zz (z6 rfl c10) (z6 rfl c10)))<|zA (zg rfl rfl)<|zA (zB rfl)<|zX rfl rfl (fun c11=>zp.step (zK Tryz.underlying51 rfl rfl Tryz.sizeOf3 rfl)) ?_
 refine zX rfl rfl (fun c12=>zp.step (zN Tryz.isAgg3 (z6 rfl c12) rfl rfl rfl))<|zX rfl rfl (fun c13=>zp.step (zK Tryz.underlying51 rfl rfl Tryz.sizeOf3 rfl))<|zX rfl rfl (fun c14=>zp.step (zN Tryz.isAgg3 (z6 rfl c14) rfl rfl rfl))<|zX rfl rfl (fun c15=>zp.step (zz (z6 rfl c15) (z6 rfl c15)))<|zA (zg rfl rfl)<|zA (zB rfl) ?_
 refine zX rfl rfl (fun c16=>zp.step (zK Tryz.underlying51 rfl rfl Tryz.sizeOf3 rfl))<|zX rfl rfl (fun c17=>zp.step (zN Tryz.isAgg3 (z6 rfl c17) rfl rfl rfl))<|zX rfl rfl (fun c18=>zp.step (zK Tryz.underlying51 rfl rfl Tryz.sizeOf3 rfl))<|zX rfl rfl (fun c19=>zp.step (zN Tryz.isAgg3 (z6 rfl c19) rfl rfl rfl))<|zX rfl rfl (fun c20=>zp.step (zz (z6 rfl c20) (z6 rfl c20)))<|zA (zg rfl rfl) ?_
 refine zF ?_
 refine zY h rfl (fun b1 h => ?_) (fun b1 h => ?_)
 ·refine zH<|zC<|zA (zD rfl)<|zF<|zb ?_
  cases h
  exact zt (zAH rfl rfl)
 refine zP ?_
 refine zu (r:=r) (fun (_:Unit)=>mkE []) (fun _=>[]) (fun _=>zKe ) ?_ ?_
 ·
  refine zH<|zC<|zA (zD rfl)<|zF<|zQ<|zq (σ:=Int) (fun i1=>mkE [(2,(AV.ptr 0 0)),(3,(AV.ptr 1 0)),(5,(li i1))]) (fun i1=>[.box 51 (zO B),.box 51 (zO L)]) (fun n0 i1=>zHO B L n0 i1) 0 h (fun _=>rfl) (z8 [0,1] rfl rfl (by kernel_rfl)) ?_
  clear h
  intro n0 i1 h
  replace h:zEv B L (zHO B L n0) i1=some r:=h
  unfold zEv at h
  refine zH<|zH<|zC<|zA (zB rfl)<|zA (zCr rfl rfl)<|zF ?_
  refine zY h rfl (fun b2 h => ?_) (fun b2 h => ?_)
  ·refine zP<|zH<|zQ<|zH<|zM h fun b3 h=>zR h fun x1 w1 h => ?_
   refine zAl (n:=53) (m:=0) [.head 0 0,.head 0 0,.head 0 0,.head 0 0,.head 0 0,.head 0 0,.head 0 0,.head 0 0,.head 0 0,.head 0 0] [] [li i1,AV.ptr 0 5,(AV.ptr 0 (5+i1.toNat*1)),(ls cI (B.free.getD i1.toNat ([]:List Int))),li i1,AV.ptr 1 5,(AV.ptr 1 (5+i1.toNat*1)),(ls cI (L.free.getD i1.toNat ([]:List Int))),(AV.lit (.bool x1)),(AV.lit (.bool (!x1)))] [[.box 51 (zO B),.box 51 (zO L)]] (by kernel_rfl) (by kernel_rfl) ⟨D1 fun e s p=>zB (s 5 rfl),D1 fun e s p=>zK (k:=0) (o:=0) (off:=5) Tryz.underlying51 rfl rfl Tryz.sizeOf49 (s 2 rfl),D1 fun e s p=>zAO (m:=5) (s:=1) (i:=i1) (k:=0) (o:=5) Tryz.underlying49 Tryz.sizeOf22 p.1 p.2.1 b3,D1 fun e s p=>zAk (k:=0) (o:=(5+i1.toNat*1)) (cs:=(zO B)) (hd:=([li B.node]++[li B.kind]++[li B.start]++[li B.count]++[li B.min]++[])) (tl:=([])) (g:=(eS cI)) (d0:=([]:List Int)) (l:=B.free) (N:=5) (i:=i1.toNat) (a:=(ls cI (B.free.getD i1.toNat ([]:List Int)))) Tryz.isAgg22 p.1 rfl rfl (congrArg (fun q=>5+q) (Nat.mul_one _)) (zBS b3).2 rfl rfl,D1 fun e s p=>zB (s 5 rfl),D1 fun e s p=>zK (k:=1) (o:=0) (off:=5) Tryz.underlying51 rfl rfl Tryz.sizeOf49 (s 3 rfl),D1 fun e s p=>zAO (m:=5) (s:=1) (i:=i1) (k:=1) (o:=5) Tryz.underlying49 Tryz.sizeOf22 p.1 p.2.1 b3,D1 fun e s p=>zAk (k:=1) (o:=(5+i1.toNat*1)) (cs:=(zO L)) (hd:=([li L.node]++[li L.kind]++[li L.start]++[li L.count]++[li L.min]++[])) (tl:=([])) (g:=(eS cI)) (d0:=([]:List Int)) (l:=L.free) (N:=5) (i:=i1.toNat) (a:=(ls cI (L.free.getD i1.toNat ([]:List Int)))) Tryz.isAgg22 p.1 rfl rfl (congrArg (fun q=>5+q) (Nat.mul_one _)) (zBS b3).2 rfl rfl,?_,D1 fun e s p=>zBD (t:=x1) p.1,trivial⟩ ?_
   ·
    intro e9 s9 p9
    refine zh (r:=(AV.lit (.bool x1))) (la:=[(ls cI (B.free.getD i1.toNat ([]:List Int))),(ls cI (L.free.getD i1.toNat ([]:List Int)))]) Tryz.func117 rfl (by kernel_rfl) (.fn 117) (zAN p9.1 (zAN p9.2.1 rfl)) rfl (zMf w1) rfl ?_
    exact zF ⟨fun _=>rfl,rfl⟩
   intro e11 s11 hq1
   refine zAT (zBL (l:=[(2,(AV.ptr 0 0)),(3,(AV.ptr 1 0)),(5,(li i1)),(52,(AV.lit (.bool (!x1))))]) ⟨s11 2 rfl,s11 3 rfl,s11 5 rfl,(hq1 9 (by decide) (by decide)),trivial⟩) ?_
   refine zY h rfl (fun b4 h => ?_) (fun b4 h => ?_)
   ·refine zH<|zC<|zA (zD rfl)<|zF<|zb ?_
    cases h
    exact zt (zAH rfl rfl)
   refine zP<|zC<|zA (zB rfl)<|zM h fun b5 h=>zA (ze rfl rfl b5)<|zA (zD rfl) ?_
   refine zF ?_
   exact ⟨(i1+1),z8 [0,1] rfl rfl (by kernel_rfl),h⟩
  refine zx ?_
  exact ⟨(),z8 [] rfl rfl (by kernel_rfl),h⟩
 clear h
 intro _ h
 unfold zKe at h
 refine zH<|zC<|zA (zD rfl)<|zF<|zb ?_
 cases h
 exact zt (zAH rfl rfl)
theorem zOu {B:zL} {L:zL} {r:Bool} (h:zJ8 B L=some r):PFn Tryz.prog 63 [(AV.agg (zG B)),(AV.agg (zG L))] (AV.lit (.bool r)):=by
 refine zo Tryz.func63 rfl Tryz.ntmps63 Tryz.results63 rfl ?_
 unfold zJ8 at h
 refine zH<|zC<|za (H':=[.box 55 (zG B)]) (zv (t:=55) rfl)<|za (H':=[.box 55 (zG B),.box 55 (zG L)]) (zv (t:=55) rfl)<|zA (zD rfl)<|zF ?_
 refine zH<|zH<|zC<|zA (zK Tryz.underlying55 rfl rfl Tryz.sizeOf53 rfl)<|zA (zN Tryz.isAgg53 rfl rfl rfl rfl)<|zA (zW Tryz.underlying53 rfl) ?_
 refine zA (zK Tryz.underlying55 rfl rfl Tryz.sizeOf53 rfl)<|zA (zN Tryz.isAgg53 rfl rfl rfl rfl)<|zA (zW Tryz.underlying53 rfl)<|zA (zz rfl rfl)<|zF ?_
 refine zY h rfl (fun b1 h => ?_) (fun b1 h => ?_)
 ·refine zH<|zC<|zA (zD rfl)<|zF<|zb ?_
  cases h
  exact zt (zAH rfl rfl)
 refine zP ?_
 refine zu (r:=r) (fun (_:Unit)=>mkE []) (fun _=>[]) (fun _=>zKd ) ?_ ?_
 ·
  refine zH<|zC<|zA (zK Tryz.underlying55 rfl rfl Tryz.sizeOf53 rfl)<|zA (zN Tryz.isAgg53 rfl rfl rfl rfl)<|zA (zW Tryz.underlying53 rfl)<|zA (zB rfl) ?_
  refine zF<|zQ<|zq (σ:=Int) (fun i1=>mkE [(2,(AV.ptr 0 0)),(3,(AV.ptr 1 0)),(15,(li (B.lists.length:Int))),(16,(li i1))]) (fun i1=>[.box 55 (zG B),.box 55 (zG L)]) (fun n0 i1=>zHH B L n0 i1) 0 h (fun _=>rfl) (z8 [0,1] rfl rfl (by kernel_rfl)) ?_
  clear h
  intro n0 i1 h
  replace h:zE8 B L (zHH B L n0) i1=some r:=h
  unfold zE8 at h
  refine zH<|zC<|zA (zf rfl rfl)<|zF<|zH ?_
  refine zY h rfl (fun b2 h => ?_) (fun b2 h => ?_)
  ·refine zP<|zH<|zQ<|zH<|zC<|zA (zB rfl) ?_
   refine zA (zD rfl)<|zF<|zH<|zM h fun b3 h=>zM h fun b4 h=>zR h fun x1 w1 h => ?_
   refine zAl (n:=32) (m:=0) [.head 0 0,.head 0 0,.head 0 0,.head 0 0,.head 0 0,.head 0 0,.head 0 0,.head 0 0,.head 0 0,.head 0 0,.head 0 0,.head 0 0] [] [AV.ptr 0 0,(ls (cS cI) B.lists),li i1,(AV.rp ((cS cI) (at_ B.lists i1)) 0),(ls cI (at_ B.lists i1)),AV.ptr 1 0,(ls (cS cI) L.lists),li i1,(AV.rp ((cS cI) (at_ L.lists i1)) 0),(ls cI (at_ L.lists i1)),(AV.lit (.bool x1)),(AV.lit (.bool (!x1)))] [[.box 55 (zG B),.box 55 (zG L)]] (by kernel_rfl) (by kernel_rfl) ⟨D1 fun e s p=>zK (k:=0) (o:=0) (off:=0) Tryz.underlying55 rfl rfl Tryz.sizeOf53 (s 2 rfl),D1 fun e s p=>zN (k:=0) (o:=0) Tryz.isAgg53 p.1 rfl rfl rfl,D1 fun e s p=>zB (s 5 rfl),D1 fun e s p=>zS (f:=(cS cI)) (l:=B.lists) (i:=i1) Tryz.underlying53 Tryz.sizeOf22 (fun _=>rfl) p.1 p.2.1 b3,D1 fun e s p=>zU (o:=0) Tryz.isAgg22 p.1 rfl,D1 fun e s p=>zK (k:=1) (o:=0) (off:=0) Tryz.underlying55 rfl rfl Tryz.sizeOf53 (s 3 rfl),D1 fun e s p=>zN (k:=1) (o:=0) Tryz.isAgg53 p.1 rfl rfl rfl,D1 fun e s p=>zB (s 5 rfl),D1 fun e s p=>zS (f:=(cS cI)) (l:=L.lists) (i:=i1) Tryz.underlying53 Tryz.sizeOf22 (fun _=>rfl) p.1 p.2.1 b4,D1 fun e s p=>zU (o:=0) Tryz.isAgg22 p.1 rfl,?_,D1 fun e s p=>zBD (t:=x1) p.1,trivial⟩ ?_
   ·
    intro e11 s11 p11
    refine zh (r:=(AV.lit (.bool x1))) (la:=[(ls cI (at_ B.lists i1)),(ls cI (at_ L.lists i1))]) Tryz.func61 rfl (by kernel_rfl) (.fn 61) (zAN p11.1 (zAN p11.2.1 rfl)) rfl (zKK w1) rfl ?_
    exact zF ⟨fun _=>rfl,rfl⟩
   intro e13 s13 hq1
   refine zAT (zBL (l:=[(2,(AV.ptr 0 0)),(3,(AV.ptr 1 0)),(15,(li (B.lists.length:Int))),(16,(li i1)),(30,(AV.lit (.bool (!x1))))]) ⟨s13 2 rfl,s13 3 rfl,s13 15 rfl,s13 16 rfl,(hq1 11 (by decide) (by decide)),trivial⟩) ?_
   refine zY h rfl (fun b5 h => ?_) (fun b5 h => ?_)
   ·refine zH<|zC<|zA (zD rfl)<|zF<|zb ?_
    cases h
    exact zt (zAH rfl rfl)
   refine zP<|zC<|zM h fun b6 h=>zA (ze rfl rfl b6)<|zA (zB rfl)<|zF ?_
   exact ⟨(i1+1),z8 [0,1] rfl rfl (by kernel_rfl),h⟩
  refine zx ?_
  exact ⟨(),z8 [] rfl rfl (by kernel_rfl),h⟩
 clear h
 intro _ h
 unfold zKd at h
 refine zH<|zC<|zA (zD rfl)<|zF<|zb ?_
 cases h
 exact zt (zAH rfl rfl)
theorem zMB {A:zJ} {D:zJ} {r:Bool} (h:zJB A D=some r):PFn Tryz.prog 25 [(AV.agg (zI A)),(AV.agg (zI D))] (AV.lit (.bool r)):=by
 refine zo Tryz.func25 rfl Tryz.ntmps25 Tryz.results25 rfl ?_
 unfold zJB at h
 refine zH<|zC<|za (H':=[.box 26 (zI A)]) (zv (t:=26) rfl)<|za (H':=[.box 26 (zI A),.box 26 (zI D)]) (zv (t:=26) rfl)<|zA (zD rfl)<|zF ?_
 refine zH<|zH<|zC<|zA (zK Tryz.underlying26 rfl rfl Tryz.sizeOf22 rfl)<|zA (zN Tryz.isAgg22 rfl rfl rfl rfl)<|zA (zK Tryz.underlying26 rfl rfl Tryz.sizeOf22 rfl) ?_
 refine zA (zN Tryz.isAgg22 rfl rfl rfl rfl)<|zR h fun x1 w1 h=>zh Tryz.func61 rfl (by kernel_rfl) (.fn 61) rfl rfl (zKK w1) rfl<|zA (zBD (t:=x1) rfl)<|zA (zB rfl)<|zX rfl rfl (fun c1=>zp.step (zK Tryz.underlying26 rfl rfl Tryz.sizeOf3 rfl)) ?_
 refine zX rfl rfl (fun c2=>zp.step (zN Tryz.isAgg3 (z6 rfl c2) rfl rfl rfl))<|zX rfl rfl (fun c3=>zp.step (zK Tryz.underlying26 rfl rfl Tryz.sizeOf3 rfl))<|zX rfl rfl (fun c4=>zp.step (zN Tryz.isAgg3 (z6 rfl c4) rfl rfl rfl))<|zX rfl rfl (fun c5=>zp.step (zz (z6 rfl c5) (z6 rfl c5)))<|zA (zg rfl rfl)<|zA (zB rfl) ?_
 refine zX rfl rfl (fun c6=>zp.step (zK Tryz.underlying26 rfl rfl Tryz.sizeOf3 rfl))<|zX rfl rfl (fun c7=>zp.step (zN Tryz.isAgg3 (z6 rfl c7) rfl rfl rfl))<|zX rfl rfl (fun c8=>zp.step (zK Tryz.underlying26 rfl rfl Tryz.sizeOf3 rfl))<|zX rfl rfl (fun c9=>zp.step (zN Tryz.isAgg3 (z6 rfl c9) rfl rfl rfl))<|zX rfl rfl (fun c10=>zp.step (zz (z6 rfl c10) (z6 rfl c10)))<|zA (zg rfl rfl) ?_
 refine zA (zB rfl)<|zX rfl rfl (fun c11=>zp.step (zK Tryz.underlying26 rfl rfl Tryz.sizeOf23 rfl))<|zX rfl rfl (fun c12=>zp.step (zN Tryz.isAgg23 (z6 rfl c12) rfl rfl rfl))<|zX rfl rfl (fun c13=>zp.step (zW Tryz.underlying23 (z6 rfl c13)))<|zX rfl rfl (fun c14=>zp.step (zK Tryz.underlying26 rfl rfl Tryz.sizeOf23 rfl))<|zX rfl rfl (fun c15=>zp.step (zN Tryz.isAgg23 (z6 rfl c15) rfl rfl rfl)) ?_
 refine zX rfl rfl (fun c16=>zp.step (zW Tryz.underlying23 (z6 rfl c16)))<|zX rfl rfl (fun c17=>zp.step (zz (z6 rfl c17) (z6 rfl c17)))<|zA (zg rfl rfl)<|zA (zB rfl)<|zX rfl rfl (fun c18=>zp.step (zK Tryz.underlying26 rfl rfl Tryz.sizeOf24 rfl))<|zX rfl rfl (fun c19=>zp.step (zN Tryz.isAgg24 (z6 rfl c19) rfl rfl rfl)) ?_
 refine zX rfl rfl (fun c20=>zp.step (zW Tryz.underlying24 (z6 rfl c20)))<|zX rfl rfl (fun c21=>zp.step (zK Tryz.underlying26 rfl rfl Tryz.sizeOf24 rfl))<|zX rfl rfl (fun c22=>zp.step (zN Tryz.isAgg24 (z6 rfl c22) rfl rfl rfl))<|zX rfl rfl (fun c23=>zp.step (zW Tryz.underlying24 (z6 rfl c23)))<|zX rfl rfl (fun c24=>zp.step (zz (z6 rfl c24) (z6 rfl c24)))<|zA (zg rfl rfl) ?_
 refine zF ?_
 refine zY h rfl (fun b1 h => ?_) (fun b1 h => ?_)
 ·refine zH<|zC<|zA (zD rfl)<|zF<|zb ?_
  cases h
  exact zt (zAH rfl rfl)
 refine zP ?_
 refine zu (r:=r) (fun (_:Unit)=>mkE [(2,(AV.ptr 0 0)),(3,(AV.ptr 1 0))]) (fun _=>[.box 26 (zI A),.box 26 (zI D)]) (fun _=>zKb A D) ?_ ?_
 ·
  refine zH<|zC<|zA (zD rfl)<|zF<|zQ<|zq (σ:=Int) (fun i2=>mkE [(2,(AV.ptr 0 0)),(3,(AV.ptr 1 0)),(5,(li i2))]) (fun i2=>[.box 26 (zI A),.box 26 (zI D)]) (fun n1 i2=>zHa A D n1 i2) 0 h (fun _=>rfl) (z8 [0,1] rfl rfl (by kernel_rfl)) ?_
  clear h
  intro n1 i2 h
  replace h:zEx A D (zHa A D n1) i2=some r:=h
  unfold zEx at h
  refine zH<|zH<|zC<|zA (zB rfl)<|zA (zK Tryz.underlying26 rfl rfl Tryz.sizeOf23 rfl)<|zA (zN Tryz.isAgg23 rfl rfl rfl rfl) ?_
  refine zA (zW Tryz.underlying23 rfl)<|zA (zf rfl rfl)<|zF ?_
  refine zY h rfl (fun b7 h => ?_) (fun b7 h => ?_)
  ·refine zP<|zH<|zQ<|zH<|zM h fun b8 h=>zM h fun b9 h => ?_
   refine zR h fun x3 w3 h => ?_
   refine zAl (n:=83) (m:=0) [.head 0 0,.head 0 0,.head 0 0,.head 0 0,.head 0 0,.head 0 0,.head 0 0,.head 0 0,.head 0 0,.head 0 0,.head 0 0,.head 0 0] [] [AV.ptr 0 3,ls zO A.zones,li i2,(AV.rp (zO (at_ A.zones i2)) 0),(AV.agg (zO (at_ A.zones i2))),AV.ptr 1 3,ls zO D.zones,li i2,(AV.rp (zO (at_ D.zones i2)) 0),(AV.agg (zO (at_ D.zones i2))),(AV.lit (.bool x3)),(AV.lit (.bool (!x3)))] [[.box 26 (zI A),.box 26 (zI D)]] (by kernel_rfl) (by kernel_rfl) ⟨D1 fun e s p=>zK (k:=0) (o:=0) (off:=3) Tryz.underlying26 rfl rfl Tryz.sizeOf23 (s 2 rfl),D1 fun e s p=>zN (k:=0) (o:=3) Tryz.isAgg23 p.1 rfl rfl rfl,D1 fun e s p=>zB (s 5 rfl),D1 fun e s p=>zS (f:=zO) (l:=A.zones) (i:=i2) Tryz.underlying23 Tryz.sizeOf51 (fun _=>rfl) p.1 p.2.1 b8,D1 fun e s p=>zAh (row:=(zO (at_ A.zones i2))) (o:=0) (m:=10) (la:=(zO (at_ A.zones i2))) Tryz.isAgg51 Tryz.sizeOf51 p.1 rfl rfl,D1 fun e s p=>zK (k:=1) (o:=0) (off:=3) Tryz.underlying26 rfl rfl Tryz.sizeOf23 (s 3 rfl),D1 fun e s p=>zN (k:=1) (o:=3) Tryz.isAgg23 p.1 rfl rfl rfl,D1 fun e s p=>zB (s 5 rfl),D1 fun e s p=>zS (f:=zO) (l:=D.zones) (i:=i2) Tryz.underlying23 Tryz.sizeOf51 (fun _=>rfl) p.1 p.2.1 b9,D1 fun e s p=>zAh (row:=(zO (at_ D.zones i2))) (o:=0) (m:=10) (la:=(zO (at_ D.zones i2))) Tryz.isAgg51 Tryz.sizeOf51 p.1 rfl rfl,?_,D1 fun e s p=>zBD (t:=x3) p.1,trivial⟩ ?_
   ·
    intro e24 s24 p23
    refine zh (r:=(AV.lit (.bool x3))) (la:=[(AV.agg (zO (at_ A.zones i2))),(AV.agg (zO (at_ D.zones i2)))]) Tryz.func62 rfl (by kernel_rfl) (.fn 62) (zAN p23.1 (zAN p23.2.1 rfl)) rfl (zO8 w3) rfl ?_
    exact zF ⟨fun _=>rfl,rfl⟩
   intro e26 s26 hq2
   refine zAT (zBL (l:=[(2,(AV.ptr 0 0)),(3,(AV.ptr 1 0)),(5,(li i2)),(63,(AV.lit (.bool (!x3))))]) ⟨s26 2 rfl,s26 3 rfl,s26 5 rfl,(hq2 11 (by decide) (by decide)),trivial⟩) ?_
   refine zY h rfl (fun b10 h => ?_) (fun b10 h => ?_)
   ·refine zH<|zC<|zA (zD rfl)<|zF<|zb ?_
    cases h
    exact zt (zAH rfl rfl)
   refine zP<|zC<|zA (zB rfl)<|zM h fun b11 h=>zA (ze rfl rfl b11)<|zA (zD rfl) ?_
   refine zF ?_
   exact ⟨(i2+1),z8 [0,1] rfl rfl (by kernel_rfl),h⟩
  refine zx ?_
  exact ⟨(),z8 [0,1] rfl rfl (by kernel_rfl),h⟩
 clear h
 intro _ h
 unfold zKb at h
 refine zu (r:=r) (fun (_:Unit)=>mkE []) (fun _=>[]) (fun _=>zKh ) ?_ ?_
 ·
  refine zH<|zC<|zA (zD rfl)<|zF<|zQ<|zq (σ:=Int) (fun i1=>mkE [(2,(AV.ptr 0 0)),(3,(AV.ptr 1 0)),(6,(li i1))]) (fun i1=>[.box 26 (zI A),.box 26 (zI D)]) (fun n0 i1=>zHQ A D n0 i1) 0 h (fun _=>rfl) (z8 [0,1] rfl rfl (by kernel_rfl)) ?_
  clear h
  intro n0 i1 h
  replace h:zE0 A D (zHQ A D n0) i1=some r:=h
  unfold zE0 at h
  refine zH<|zH<|zC<|zA (zB rfl)<|zA (zK Tryz.underlying26 rfl rfl Tryz.sizeOf24 rfl)<|zA (zN Tryz.isAgg24 rfl rfl rfl rfl) ?_
  refine zA (zW Tryz.underlying24 rfl)<|zA (zf rfl rfl)<|zF ?_
  refine zY h rfl (fun b2 h => ?_) (fun b2 h => ?_)
  ·refine zP<|zH<|zQ<|zH<|zM h fun b3 h=>zM h fun b4 h => ?_
   refine zR h fun x2 w2 h => ?_
   refine zAl (n:=83) (m:=0) [.head 0 0,.head 0 0,.head 0 0,.head 0 0,.head 0 0,.head 0 0,.head 0 0,.head 0 0,.head 0 0,.head 0 0,.head 0 0,.head 0 0] [] [AV.ptr 0 4,ls zG A.caches,li i1,(AV.rp (zG (at_ A.caches i1)) 0),(AV.agg (zG (at_ A.caches i1))),AV.ptr 1 4,ls zG D.caches,li i1,(AV.rp (zG (at_ D.caches i1)) 0),(AV.agg (zG (at_ D.caches i1))),(AV.lit (.bool x2)),(AV.lit (.bool (!x2)))] [[.box 26 (zI A),.box 26 (zI D)]] (by kernel_rfl) (by kernel_rfl) ⟨D1 fun e s p=>zK (k:=0) (o:=0) (off:=4) Tryz.underlying26 rfl rfl Tryz.sizeOf24 (s 2 rfl),D1 fun e s p=>zN (k:=0) (o:=4) Tryz.isAgg24 p.1 rfl rfl rfl,D1 fun e s p=>zB (s 6 rfl),D1 fun e s p=>zS (f:=zG) (l:=A.caches) (i:=i1) Tryz.underlying24 Tryz.sizeOf55 (fun _=>rfl) p.1 p.2.1 b3,D1 fun e s p=>zAh (row:=(zG (at_ A.caches i1))) (o:=0) (m:=1) (la:=(zG (at_ A.caches i1))) Tryz.isAgg55 Tryz.sizeOf55 p.1 rfl rfl,D1 fun e s p=>zK (k:=1) (o:=0) (off:=4) Tryz.underlying26 rfl rfl Tryz.sizeOf24 (s 3 rfl),D1 fun e s p=>zN (k:=1) (o:=4) Tryz.isAgg24 p.1 rfl rfl rfl,D1 fun e s p=>zB (s 6 rfl),D1 fun e s p=>zS (f:=zG) (l:=D.caches) (i:=i1) Tryz.underlying24 Tryz.sizeOf55 (fun _=>rfl) p.1 p.2.1 b4,D1 fun e s p=>zAh (row:=(zG (at_ D.caches i1))) (o:=0) (m:=1) (la:=(zG (at_ D.caches i1))) Tryz.isAgg55 Tryz.sizeOf55 p.1 rfl rfl,?_,D1 fun e s p=>zBD (t:=x2) p.1,trivial⟩ ?_
   ·
    intro e11 s11 p11
    refine zh (r:=(AV.lit (.bool x2))) (la:=[(AV.agg (zG (at_ A.caches i1))),(AV.agg (zG (at_ D.caches i1)))]) Tryz.func63 rfl (by kernel_rfl) (.fn 63) (zAN p11.1 (zAN p11.2.1 rfl)) rfl (zOu w2) rfl ?_
    exact zF ⟨fun _=>rfl,rfl⟩
   intro e13 s13 hq1
   refine zAT (zBL (l:=[(2,(AV.ptr 0 0)),(3,(AV.ptr 1 0)),(6,(li i1)),(82,(AV.lit (.bool (!x2))))]) ⟨s13 2 rfl,s13 3 rfl,s13 6 rfl,(hq1 11 (by decide) (by decide)),trivial⟩) ?_
   refine zY h rfl (fun b5 h => ?_) (fun b5 h => ?_)
   ·refine zH<|zC<|zA (zD rfl)<|zF<|zb ?_
    cases h
    exact zt (zAH rfl rfl)
   refine zP<|zC<|zA (zB rfl)<|zM h fun b6 h=>zA (ze rfl rfl b6)<|zA (zD rfl) ?_
   refine zF ?_
   exact ⟨(i1+1),z8 [0,1] rfl rfl (by kernel_rfl),h⟩
  refine zx ?_
  exact ⟨(),z8 [] rfl rfl (by kernel_rfl),h⟩
 clear h
 intro _ h
 unfold zKh at h
 refine zH<|zC<|zA (zD rfl)<|zF<|zb ?_
 cases h
 exact zt (zAH rfl rfl)
theorem zLf  {r:Bool} (h:zJI=some r):PFn Tryz.prog 9 [] (AV.lit (.bool r)):=by
 refine zo Tryz.func9 rfl Tryz.ntmps9 Tryz.results9 rfl ?_
 unfold zJI at h
 refine zH<|zC<|zA (zD (av:=(AV.lit (.bool false))) rfl)<|zF<|zH<|zC ?_
 refine zRg (N:=2) (pl:=[(0,1),(1,1)]) (zs:=[.int .i64 0,.int .i64 0]) (zc:=[.lit (.int .i64 0),.lit (.int .i64 0)]) (rows:=List.map cI [0,1]) zFK Tryz.underlying22 rfl rfl rfl (by kernel_rfl) rfl (⟨zAt.refl _,⟨zAt.refl _,trivial⟩⟩) ⟨li 0,0,1,rfl,rfl,rfl,rfl,rfl,⟨li 1,1,1,rfl,rfl,rfl,rfl,rfl,(by exact zLY.refl _)⟩⟩ rfl rfl rfl<|zA (zCU (pl:=[(0,1),(1,1),(2,1),(3,1)]) (zs:=[.int .i64 0,.int .i64 0,.int .i64 0,.int .i64 0]) (zc:=[.lit (.int .i64 0),.lit (.int .i64 0),.lit (.int .i64 0),.lit (.int .i64 0)]) (res:=(zAe (⟨0,0,8,2⟩:zCB))) (fun _=>by kernel_rfl) rfl (⟨zAt.refl _,⟨zAt.refl _,⟨zAt.refl _,⟨zAt.refl _,trivial⟩⟩⟩⟩) ⟨li 0,0,1,rfl,rfl,rfl,rfl,rfl,⟨li 0,1,1,rfl,rfl,rfl,rfl,rfl,⟨li 8,2,1,rfl,rfl,rfl,rfl,rfl,⟨li 2,3,1,rfl,rfl,rfl,rfl,rfl,(by exact zLY.refl _)⟩⟩⟩⟩)<|zA (zCU (pl:=[(0,1),(1,1),(2,1),(3,1)]) (zs:=[.int .i64 0,.int .i64 0,.int .i64 0,.int .i64 0]) (zc:=[.lit (.int .i64 0),.lit (.int .i64 0),.lit (.int .i64 0),.lit (.int .i64 0)]) (res:=(zAe (⟨1,1,8,0⟩:zCB))) (fun _=>by kernel_rfl) rfl (⟨zAt.refl _,⟨zAt.refl _,⟨zAt.refl _,⟨zAt.refl _,trivial⟩⟩⟩⟩) ⟨li 1,0,1,rfl,rfl,rfl,rfl,rfl,⟨li 1,1,1,rfl,rfl,rfl,rfl,rfl,⟨li 8,2,1,rfl,rfl,rfl,rfl,rfl,⟨li 0,3,1,rfl,rfl,rfl,rfl,rfl,(by exact zLY.refl _)⟩⟩⟩⟩)<|zRg (N:=2) (pl:=[(0,4),(4,4)]) (zs:=[.int .i64 0,.int .i64 0,.int .i64 0,.int .i64 0,.int .i64 0,.int .i64 0,.int .i64 0,.int .i64 0]) (zc:=[.lit (.int .i64 0),.lit (.int .i64 0),.lit (.int .i64 0),.lit (.int .i64 0),.lit (.int .i64 0),.lit (.int .i64 0),.lit (.int .i64 0),.lit (.int .i64 0)]) (rows:=List.map zAe [(⟨0,0,8,2⟩:zCB),(⟨1,1,8,0⟩:zCB)]) zXf Tryz.underlying47 rfl rfl rfl (by kernel_rfl) rfl (⟨zAt.refl _,⟨zAt.refl _,⟨zAt.refl _,⟨zAt.refl _,⟨zAt.refl _,⟨zAt.refl _,⟨zAt.refl _,⟨zAt.refl _,trivial⟩⟩⟩⟩⟩⟩⟩⟩) ⟨(AV.agg (zAe (⟨0,0,8,2⟩:zCB))),0,4,rfl,rfl,rfl,rfl,rfl,⟨(AV.agg (zAe (⟨1,1,8,0⟩:zCB))),4,4,rfl,rfl,rfl,rfl,rfl,(by exact zLY.refl _)⟩⟩ rfl rfl rfl<|zR h fun x1 w1 h=>zAC (zDc (j:=0) (ds:=[11]) (rows':=List.map cI [0,1]) rfl (zAK (fun _=>rfl)) ⟨rfl,trivial⟩) ?_
 refine zR h fun x2 w2 h=>zAC (zDc (j:=1) (ds:=[14]) (rows':=List.map zAe [(⟨0,0,8,2⟩:zCB),(⟨1,1,8,0⟩:zCB)]) rfl (zAK (fun _=>rfl)) ⟨rfl,trivial⟩)<|zR h fun x3 w3 h=>zh Tryz.func36 rfl (by kernel_rfl) (.fn 36) rfl rfl (zM6 w3) rfl<|zA (zB rfl)<|zA (zd rfl rfl) ?_
 refine zA (zd (la:=[(AV.agg (zI x3.1)),li x3.2]) rfl rfl)<|za (a:=(AV.ptr 2 0)) (H':=[.dead,.dead,.box 26 (zI ⟨[],0,0,[],[]⟩)]) zv3<|zi (H':=[.dead,.dead,.box 26 (zI x3.1)]) (zZ (k:=2) (o:=0) (cs:=(zI ⟨[],0,0,[],[]⟩)) (la:=(zI x3.1)) Tryz.sizeOf26 rfl rfl rfl rfl)<|zA (zD (av:=(li x3.2)) rfl)<|zF<|zH ?_
 refine zH<|zC<|zA (zB rfl)<|zA (zz rfl rfl)<|zA (zB rfl)<|zX rfl rfl (fun c1=>zp.step (zK Tryz.underlying26 rfl rfl Tryz.sizeOf23 rfl)) ?_
 refine zX (g:=20) (s := !decide (x3.2=0)) rfl rfl (fun c2=>zp.step (zN (k:=2) (o:=3) (a:=(ls zO x3.1.zones)) Tryz.isAgg23 (z6 rfl c2) rfl rfl rfl))<|zX (g:=20) (s := !decide (x3.2=0)) rfl rfl (fun c3=>zp.step (zW (f:=zO) (l:=x3.1.zones) Tryz.underlying23 (z6 rfl c3)))<|zX (g:=20) (s := !decide (x3.2=0)) rfl rfl (fun c4=>zp.step (zz (a:=(x3.1.zones.length:Int)) (b:=2) (z6 rfl c4) rfl))<|zA (zg (s := !decide (x3.2=0)) (q := !decide ((x3.1.zones.length:Int)=2)) (j := .lit undef) rfl rfl)<|zA (zB (av:=(AV.lit (.bool ((!decide (x3.2=0))||(!decide ((x3.1.zones.length:Int)=2)))))) rfl)<|zX (g:=26) (s:=(!decide (x3.2=0))||(!decide ((x3.1.zones.length:Int)=2))) rfl rfl (fun c5=>zp.step (zK (k:=2) (o:=0) (off:=4) Tryz.underlying26 rfl rfl Tryz.sizeOf24 rfl)) ?_
 refine zX rfl rfl (fun c6=>zp.step (zN Tryz.isAgg24 (z6 rfl c6) rfl rfl rfl))<|zX rfl rfl (fun c7=>zp.step (zW Tryz.underlying24 (z6 rfl c7)))<|zX rfl rfl (fun c8=>zp.step (zz (z6 rfl c8) rfl))<|zA (zg rfl rfl)<|zA (zB rfl)<|zX rfl rfl (fun c9=>zp.step (zT (k:=2) (o:=0) (m:=5) Tryz.isAgg26 Tryz.sizeOf26 rfl rfl rfl rfl rfl)) ?_
 refine zR h fun x4 w4 h=>zCt (g:=32) (s:=((!decide (x3.2=0))||(!decide ((x3.1.zones.length:Int)=2)))||(!decide ((x3.1.caches.length:Int)=2))) (r':=(li x4)) rfl rfl (fun c10=>⟨13,_,_,[],[(AV.agg (zI x3.1))],[(AV.agg (zI x3.1))],li x4,[],Tryz.func13,rfl,by kernel_rfl,.fn 13,(zAN (z6 rfl c10) rfl),⟨zAx.nr rfl,trivial⟩,zBE (zG3 c10 w4),.inl rfl,rfl⟩)<|zX (g:=32) (s:=((!decide (x3.2=0))||(!decide ((x3.1.zones.length:Int)=2)))||(!decide ((x3.1.caches.length:Int)=2))) rfl rfl (fun c11=>zp.step (zz (a:=x4) (b:=0) (z6 rfl c11) rfl))<|zA (zg (s:=((!decide (x3.2=0))||(!decide ((x3.1.zones.length:Int)=2)))||(!decide ((x3.1.caches.length:Int)=2))) (q := !decide (x4=0)) (j := .lit undef) rfl rfl)<|zA (zB (av:=(AV.lit (.bool ((((!decide (x3.2=0))||(!decide ((x3.1.zones.length:Int)=2)))||(!decide ((x3.1.caches.length:Int)=2)))||(!decide (x4=0)))))) rfl)<|zX (g:=37) (s:=(((!decide (x3.2=0))||(!decide ((x3.1.zones.length:Int)=2)))||(!decide ((x3.1.caches.length:Int)=2)))||(!decide (x4=0))) rfl rfl (fun c12=>zp.step (zT (k:=2) (o:=0) (m:=5) (la:=(zI x3.1)) Tryz.isAgg26 Tryz.sizeOf26 rfl rfl rfl rfl rfl)) ?_
 refine zR h fun x5 w5 h=>zCt (g:=37) (s:=(((!decide (x3.2=0))||(!decide ((x3.1.zones.length:Int)=2)))||(!decide ((x3.1.caches.length:Int)=2)))||(!decide (x4=0))) (r':=(li x5)) rfl rfl (fun c13=>⟨15,_,_,[],[(AV.agg (zI x3.1))],[(AV.agg (zI x3.1))],li x5,[],Tryz.func15,rfl,by kernel_rfl,.fn 15,(zAN (z6 rfl c13) rfl),⟨zAx.nr rfl,trivial⟩,zLr (zG3 c13 w5),.inl rfl,rfl⟩)<|zX rfl rfl (fun c14=>zp.step (zz (z6 rfl c14) rfl))<|zA (zg rfl rfl)<|zF ?_
 refine zY h rfl (fun b1 h => ?_) (fun b1 h => ?_)
 ·refine zH<|zC<|zA (zD (av:=(AV.lit (.bool false))) rfl)<|zF<|zb ?_
  cases h
  exact zt (zAH rfl rfl)
 refine zP<|zH<|zC<|zA (zT (k:=2) (o:=0) (m:=5) (la:=(zI x3.1)) Tryz.isAgg26 Tryz.sizeOf26 rfl rfl rfl rfl rfl)<|zR h fun x6 w6 h=>zh (r:=(AV.tup [li x6.1,li x6.2])) (la:=[(AV.agg (zI x3.1))]) Tryz.func11 rfl (by kernel_rfl) (.fn 11) rfl rfl (zLM w6) rfl ?_
 refine zA (zB rfl)<|zA (zd rfl rfl)<|zA (zd rfl rfl)<|zA (zD rfl)<|zA (zD rfl)<|zF ?_
 refine zH<|zC<|zA (zT (k:=2) (o:=0) (m:=5) (la:=(zI x3.1)) Tryz.isAgg26 Tryz.sizeOf26 rfl rfl rfl rfl rfl)<|zR h fun x7 w7 h=>zh (r:=(AV.tup [(AV.agg (zI x7.1)),li x7.2.1,li x7.2.2])) (la:=[(AV.agg (zI x3.1)),li 0,(AV.lit (.bool true)),(AV.lit (.bool false))]) Tryz.func23 rfl (by kernel_rfl) (.fn 23) rfl rfl (zJh w7) rfl<|zA (zB (av:=(AV.tup [(AV.agg (zI x7.1)),li x7.2.1,li x7.2.2])) rfl) ?_
 refine zA (zd rfl rfl)<|zA (zd rfl rfl)<|zA (zd rfl rfl)<|za (H':=[.dead,.dead,.box 26 (zI x3.1),.box 26 (zI ⟨[],0,0,[],[]⟩)]) zv3<|zi (H':=[.dead,.dead,.box 26 (zI x3.1),.box 26 (zI x7.1)]) (zZ (k:=3) (o:=0) (cs:=(zI ⟨[],0,0,[],[]⟩)) (la:=(zI x7.1)) Tryz.sizeOf26 rfl rfl rfl rfl)<|zA (zD rfl) ?_
 refine zA (zD (av:=(li x7.2.2)) rfl)<|zF<|zH<|zH<|zC<|zA (zB (av:=(li x6.1)) rfl) ?_
 refine zA (zz rfl rfl)<|zA (zB rfl)<|zX rfl rfl (fun c15=>zp.step (zB rfl))<|zX rfl rfl (fun c16=>zp.step (zz (z6 rfl c16) rfl))<|zA (zg rfl rfl)<|zA (zB rfl) ?_
 refine zX (g:=59) (s:=(!decide (x6.1=6))||(!decide (x6.2=14))) rfl rfl (fun c17=>zp.step (zB (av:=(li x7.2.2)) rfl))<|zX (g:=59) (s:=(!decide (x6.1=6))||(!decide (x6.2=14))) rfl rfl (fun c18=>zp.step (zz (a:=x7.2.2) (b:=0) (z6 rfl c18) rfl))<|zA (zg (s:=(!decide (x6.1=6))||(!decide (x6.2=14))) (q := !decide (x7.2.2=0)) (j := .lit undef) rfl rfl)<|zA (zB (av:=(AV.lit (.bool (((!decide (x6.1=6))||(!decide (x6.2=14)))||(!decide (x7.2.2=0)))))) rfl)<|zX (g:=63) (s:=((!decide (x6.1=6))||(!decide (x6.2=14)))||(!decide (x7.2.2=0))) rfl rfl (fun c19=>zp.step (zB (av:=(li x7.2.1)) rfl))<|zX (g:=63) (s:=((!decide (x6.1=6))||(!decide (x6.2=14)))||(!decide (x7.2.2=0))) rfl rfl (fun c20=>zp.step (zz (a:=x7.2.1) (b:=0) (z6 rfl c20) rfl)) ?_
 refine zA (zg rfl rfl)<|zA (zB rfl)<|zX rfl rfl (fun c21=>zp.step (zT (k:=3) (o:=0) (m:=5) Tryz.isAgg26 Tryz.sizeOf26 rfl rfl rfl rfl rfl))<|zR h fun x8 w8 h=>zCt (g:=67) (s:=(((!decide (x6.1=6))||(!decide (x6.2=14)))||(!decide (x7.2.2=0)))||(!decide (x7.2.1=0))) (r':=(AV.lit (.bool x8))) rfl rfl (fun c22=>⟨19,_,_,[],[(AV.agg (zI x7.1)),li 0],[(AV.agg (zI x7.1)),li 0],(AV.lit (.bool x8)),[],Tryz.func19,rfl,by kernel_rfl,.fn 19,(zAN (z6 rfl c22) (zAN rfl rfl)),⟨zAx.nr rfl,zAx.nr rfl,trivial⟩,zJP (zG3 c22 w8),.inl rfl,rfl⟩)<|zA (zg rfl rfl) ?_
 refine zA (zB (av:=(AV.lit (.bool (((((!decide (x6.1=6))||(!decide (x6.2=14)))||(!decide (x7.2.2=0)))||(!decide (x7.2.1=0)))||x8)))) rfl)<|zX (g:=71) (s:=((((!decide (x6.1=6))||(!decide (x6.2=14)))||(!decide (x7.2.2=0)))||(!decide (x7.2.1=0)))||x8) rfl rfl (fun c23=>zp.step (zT (k:=3) (o:=0) (m:=5) (la:=(zI x7.1)) Tryz.isAgg26 Tryz.sizeOf26 rfl rfl rfl rfl rfl))<|zR h fun x9 w9 h=>zCt (g:=71) (s:=((((!decide (x6.1=6))||(!decide (x6.2=14)))||(!decide (x7.2.2=0)))||(!decide (x7.2.1=0)))||x8) (r':=(AV.lit (.bool x9))) rfl rfl (fun c24=>⟨19,_,_,[],[(AV.agg (zI x7.1)),li 1],[(AV.agg (zI x7.1)),li 1],(AV.lit (.bool x9)),[],Tryz.func19,rfl,by kernel_rfl,.fn 19,(zAN (z6 rfl c24) (zAN rfl rfl)),⟨zAx.nr rfl,zAx.nr rfl,trivial⟩,zJP (zG3 c24 w9),.inl rfl,rfl⟩)<|zX (g:=71) (s:=((((!decide (x6.1=6))||(!decide (x6.2=14)))||(!decide (x7.2.2=0)))||(!decide (x7.2.1=0)))||x8) rfl rfl (fun c25=>zp.step (zBD (t:=x9) (z6 rfl c25)))<|zA (zg (s:=((((!decide (x6.1=6))||(!decide (x6.2=14)))||(!decide (x7.2.2=0)))||(!decide (x7.2.1=0)))||x8) (q := !x9) (j := .lit undef) rfl rfl) ?_
 refine zA (zB rfl)<|zX rfl rfl (fun c26=>zp.step (zT (k:=3) (o:=0) (m:=5) Tryz.isAgg26 Tryz.sizeOf26 rfl rfl rfl rfl rfl))<|zR h fun x10 w10 h=>zCt (g:=76) (s:=(((((!decide (x6.1=6))||(!decide (x6.2=14)))||(!decide (x7.2.2=0)))||(!decide (x7.2.1=0)))||x8)||(!x9)) (r':=(li x10)) rfl rfl (fun c27=>⟨21,_,_,[],[(AV.agg (zI x7.1)),li 0],[(AV.agg (zI x7.1)),li 0],li x10,[],Tryz.func21,rfl,by kernel_rfl,.fn 21,(zAN (z6 rfl c27) (zAN rfl rfl)),⟨zAx.nr rfl,zAx.nr rfl,trivial⟩,zMM (zG3 c27 w10),.inl rfl,rfl⟩)<|zX rfl rfl (fun c28=>zp.step (zz (z6 rfl c28) rfl))<|zA (zg rfl rfl) ?_
 refine zA (zB (av:=(AV.lit (.bool (((((((!decide (x6.1=6))||(!decide (x6.2=14)))||(!decide (x7.2.2=0)))||(!decide (x7.2.1=0)))||x8)||(!x9))||(!decide (x10=7)))))) rfl)<|zX (g:=81) (s:=((((((!decide (x6.1=6))||(!decide (x6.2=14)))||(!decide (x7.2.2=0)))||(!decide (x7.2.1=0)))||x8)||(!x9))||(!decide (x10=7))) rfl rfl (fun c29=>zp.step (zT (k:=3) (o:=0) (m:=5) (la:=(zI x7.1)) Tryz.isAgg26 Tryz.sizeOf26 rfl rfl rfl rfl rfl))<|zR h fun x11 w11 h=>zCt (g:=81) (s:=((((((!decide (x6.1=6))||(!decide (x6.2=14)))||(!decide (x7.2.2=0)))||(!decide (x7.2.1=0)))||x8)||(!x9))||(!decide (x10=7))) (r':=(li x11)) rfl rfl (fun c30=>⟨17,_,_,[],[(AV.agg (zI x7.1)),li 8],[(AV.agg (zI x7.1)),li 8],li x11,[],Tryz.func17,rfl,by kernel_rfl,.fn 17,(zAN (z6 rfl c30) (zAN rfl rfl)),⟨zAx.nr rfl,zAx.nr rfl,trivial⟩,zMg (zG3 c30 w11),.inl rfl,rfl⟩)<|zX (g:=81) (s:=((((((!decide (x6.1=6))||(!decide (x6.2=14)))||(!decide (x7.2.2=0)))||(!decide (x7.2.1=0)))||x8)||(!x9))||(!decide (x10=7))) rfl rfl (fun c31=>zp.step (zz (a:=x11) (b:=1) (z6 rfl c31) rfl))<|zA (zg (s:=((((((!decide (x6.1=6))||(!decide (x6.2=14)))||(!decide (x7.2.2=0)))||(!decide (x7.2.1=0)))||x8)||(!x9))||(!decide (x10=7))) (q := !decide (x11=1)) (j := .lit undef) rfl rfl) ?_
 refine zF ?_
 refine zY h rfl (fun b2 h => ?_) (fun b2 h => ?_)
 ·refine zH<|zC<|zA (zD rfl)<|zF<|zb ?_
  cases h
  exact zt (zAH (r1:=(AV.lit (.bool false))) rfl rfl)
 refine zP<|zH<|zC<|zA (zT (k:=3) (o:=0) (m:=5) Tryz.isAgg26 Tryz.sizeOf26 rfl rfl rfl rfl rfl)<|zR h fun x12 w12 h=>zh Tryz.func28 rfl (by kernel_rfl) (.fn 28) rfl rfl (zMi w12) rfl ?_
 refine zA (zB (av:=(AV.tup [(AV.agg (zI x12.1)),li x12.2])) rfl)<|zA (zd (la:=[(AV.agg (zI x12.1)),li x12.2]) rfl rfl)<|zA (zd (la:=[(AV.agg (zI x12.1)),li x12.2]) rfl rfl)<|za (a:=(AV.ptr 4 0)) (H':=[.dead,.dead,.box 26 (zI x3.1),.box 26 (zI x7.1),.box 26 (zI ⟨[],0,0,[],[]⟩)]) zv3<|zi (H':=[.dead,.dead,.box 26 (zI x3.1),.box 26 (zI x7.1),.box 26 (zI x12.1)]) (zZ (k:=4) (o:=0) (cs:=(zI ⟨[],0,0,[],[]⟩)) (la:=(zI x12.1)) Tryz.sizeOf26 rfl rfl rfl rfl)<|zA (zD (av:=(li x12.2)) rfl) ?_
 refine zF<|zH<|zH<|zC<|zA (zB rfl)<|zA (zz rfl rfl) ?_
 refine zF ?_
 refine zY h rfl (fun b3 h => ?_) (fun b3 h => ?_)
 ·refine zH<|zC<|zA (zD (av:=(AV.lit (.bool false))) rfl)<|zF<|zb ?_
  cases h
  exact zt (zAH rfl rfl)
 refine zP<|zH<|zC<|zA (zT (k:=2) (o:=0) (m:=5) (la:=(zI x3.1)) Tryz.isAgg26 Tryz.sizeOf26 rfl rfl rfl rfl rfl)<|zR h fun x13 w13 h=>zh (r:=(AV.tup [(AV.agg (zI x13.1)),li x13.2.1,li x13.2.2])) (la:=[(AV.agg (zI x3.1)),li 1,li 3]) Tryz.func26 rfl (by kernel_rfl) (.fn 26) rfl rfl (zKf w13) rfl ?_
 refine zA (zB rfl)<|zA (zd rfl rfl)<|zA (zd rfl rfl)<|zA (zd rfl rfl)<|za (H':=[.dead,.dead,.box 26 (zI x3.1),.box 26 (zI x7.1),.box 26 (zI x12.1),.box 26 (zI ⟨[],0,0,[],[]⟩)]) zv3<|zi (H':=[.dead,.dead,.box 26 (zI x3.1),.box 26 (zI x7.1),.box 26 (zI x12.1),.box 26 (zI x13.1)]) (zZ (k:=5) (o:=0) (cs:=(zI ⟨[],0,0,[],[]⟩)) (la:=(zI x13.1)) Tryz.sizeOf26 rfl rfl rfl rfl) ?_
 refine zA (zD (av:=(li x13.2.1)) rfl)<|zA (zD (av:=(li x13.2.2)) rfl)<|zF<|zH<|zR h fun x14 w14 h=>zR h fun x15 w15 h => ?_
 refine zAl (n:=111) (m:=0) [.head 0 0,.head 0 0,.head 0 0,.head 0 0,.head 0 0,.head 0 0,.head 0 0,.head 0 0,.head 0 0,.head 0 0,.head 0 0,.head 0 0,.head 0 0] [] [li x13.2.2,(AV.lit (.bool (decide (x13.2.2=0)))),(AV.lit (.bool (decide (x13.2.2=0)))),(bif decide (x13.2.2=0) then (li x13.2.1) else .lit undef),(bif decide (x13.2.2=0) then (AV.lit (.bool (decide (x13.2.1=8)))) else .lit undef),(AV.lit (.bool ((decide (x13.2.2=0))&&(decide (x13.2.1=8))))),(AV.lit (.bool ((decide (x13.2.2=0))&&(decide (x13.2.1=8))))),(bif (decide (x13.2.2=0))&&(decide (x13.2.1=8)) then (AV.agg (zI x12.1)) else .lit undef),(bif (decide (x13.2.2=0))&&(decide (x13.2.1=8)) then (AV.agg (zI x14)) else .lit undef),(bif (decide (x13.2.2=0))&&(decide (x13.2.1=8)) then (AV.agg (zI x3.1)) else .lit undef),(bif (decide (x13.2.2=0))&&(decide (x13.2.1=8)) then (AV.lit (.bool x15)) else .lit undef),(AV.lit (.bool (((decide (x13.2.2=0))&&(decide (x13.2.1=8)))&&x15))),(AV.lit (.bool (((decide (x13.2.2=0))&&(decide (x13.2.1=8)))&&x15)))] [[.dead,.dead,.box 26 (zI x3.1),.box 26 (zI x7.1),.box 26 (zI x12.1),.box 26 (zI x13.1)]] (by kernel_rfl) (by kernel_rfl) ⟨D1 fun e s p=>zB (s 2 rfl),D1 fun e s p=>zAz (a:=x13.2.2) (b:=0) p.1 rfl,D1 fun e s p=>zB (av:=(AV.lit (.bool (decide (x13.2.2=0))))) p.1,?_,?_,D1 fun e s p=>zy (s:=decide (x13.2.2=0)) (q:=decide (x13.2.1=8)) (j := .lit undef) p.1 p.2.1,D1 fun e s p=>zB p.1,?_,?_,?_,?_,D1 fun e s p=>zy (s:=(decide (x13.2.2=0))&&(decide (x13.2.1=8))) (q:=x15) (j := .lit undef) p.1 p.2.1,D1 fun e s p=>zD (av:=(AV.lit (.bool (((decide (x13.2.2=0))&&(decide (x13.2.1=8)))&&x15)))) p.2.2.2.2.2.2.2.2.2.2.2.2.2.1,trivial⟩ ?_
 ·
  intro e4 s4 p4
  refine zm (g:=101) (s:=decide (x13.2.2=0)) rfl p4.1 (fun c38=>zp.step (zB (av:=(li x13.2.1)) (s4 9 rfl))) ?_
  exact zF ⟨fun _=>rfl,rfl⟩
 ·
  intro e5 s5 p5
  refine zm (g:=101) (s:=decide (x13.2.2=0)) rfl p5.2.1 (fun c39=>zp.step (zAz (a:=x13.2.1) (b:=8) (z6 p5.1 c39) rfl)) ?_
  exact zF ⟨fun _=>rfl,rfl⟩
 ·
  intro e8 s8 p8
  refine zm (g:=105) (s:=(decide (x13.2.2=0))&&(decide (x13.2.1=8))) rfl p8.1 (fun c40=>zp.step (zT (k:=4) (o:=0) (m:=5) (la:=(zI x12.1)) Tryz.isAgg26 Tryz.sizeOf26 (s8 7 rfl) rfl rfl rfl rfl)) ?_
  exact zF ⟨fun _=>rfl,rfl⟩
 ·
  intro e9 s9 p9
  refine zCu (g:=105) (s:=(decide (x13.2.2=0))&&(decide (x13.2.1=8))) (r':=(AV.agg (zI x14))) rfl p9.2.2.1 (fun c41=>⟨34,_,_,[],[(AV.agg (zI x12.1))],[(AV.agg (zI x12.1))],(AV.agg (zI x14)),[],Tryz.func34,rfl,by kernel_rfl,.fn 34,(zAN (z6 p9.1 c41) rfl),⟨zAx.nr rfl,trivial⟩,zL4 (zG3 c41 w14),.inl rfl,rfl⟩) ?_
  exact zF ⟨fun _=>rfl,rfl⟩
 ·
  intro e10 s10 p10
  refine zm (g:=105) (s:=(decide (x13.2.2=0))&&(decide (x13.2.1=8))) rfl p10.1 (fun c42=>zp.step (zT (k:=2) (o:=0) (m:=5) (la:=(zI x3.1)) Tryz.isAgg26 Tryz.sizeOf26 (s10 1 rfl) rfl rfl rfl rfl)) ?_
  exact zF ⟨fun _=>rfl,rfl⟩
 ·
  intro e11 s11 p11
  refine zCu (g:=105) (s:=(decide (x13.2.2=0))&&(decide (x13.2.1=8))) (r':=(AV.lit (.bool x15))) rfl p11.2.2.2.1 (fun c43=>⟨25,_,_,[],[(AV.agg (zI x14)),(AV.agg (zI x3.1))],[(AV.agg (zI x14)),(AV.agg (zI x3.1))],(AV.lit (.bool x15)),[],Tryz.func25,rfl,by kernel_rfl,.fn 25,(zAN (z6 p11.2.2.1 c43) (zAN (z6 p11.2.1 c43) rfl)),⟨zAx.nr rfl,zAx.nr rfl,trivial⟩,zMB (zG3 c43 w15),.inl rfl,rfl⟩) ?_
  exact zF ⟨fun _=>rfl,rfl⟩
 intro e14 s14 hq1
 refine zAT (zBL (l:=[(0,(AV.lit (.bool (((decide (x13.2.2=0))&&(decide (x13.2.1=8)))&&x15))))]) ⟨(hq1 12 (by decide) (by decide)),trivial⟩)<|zb ?_
 cases h
 exact zt (zAH rfl rfl)
theorem zPb {C:zj} {r:Bool} (h:zL8 C=some r):PFn Tryz.prog 37 [(AV.agg (zO C))] (AV.lit (.bool r)):=by
 refine zo Tryz.func37 rfl Tryz.ntmps37 Tryz.results37 rfl ?_
 unfold zL8 at h
 refine zH<|zC<|za (H':=[.box 51 (zO C)]) (zv (t:=51) rfl)<|zA (zD rfl)<|zF ?_
 refine zu (r:=r) (fun (_:Unit)=>mkE []) (fun _=>[]) (fun _=>zLD ) ?_ ?_
 ·
  refine zH<|zC<|zA (zD rfl)<|zF<|zQ<|zq (σ:=Int) (fun i1=>mkE [(1,(AV.ptr 0 0)),(3,(li i1))]) (fun i1=>[.box 51 (zO C)]) (fun n0 i1=>zF5 C n0 i1) 0 h (fun _=>rfl) (z8 [0] rfl rfl (by kernel_rfl)) ?_
  clear h
  intro n0 i1 h
  replace h:zFt C (zF5 C n0) i1=some r:=h
  unfold zFt at h
  refine zH<|zH<|zC<|zA (zB rfl)<|zA (zCr rfl rfl)<|zF ?_
  refine zY h rfl (fun b1 h => ?_) (fun b1 h => ?_)
  ·refine zP<|zH<|zQ<|zH<|zC<|zA (zB rfl) ?_
   refine zA (zK Tryz.underlying51 rfl rfl Tryz.sizeOf49 rfl)<|zM h fun b2 h=>zA (zAO (m:=5) (s:=1) (i:=i1) (k:=0) (o:=5) Tryz.underlying49 Tryz.sizeOf22 rfl rfl b2)<|zA (zAk (k:=0) (o:=(5+i1.toNat*1)) (cs:=(zO C)) (hd:=([li C.node]++[li C.kind]++[li C.start]++[li C.count]++[li C.min]++[])) (tl:=([])) (g:=(eS cI)) (d0:=([]:List Int)) (l:=C.free) (N:=5) (i:=i1.toNat) (a:=(ls cI (C.free.getD i1.toNat ([]:List Int)))) Tryz.isAgg22 rfl rfl rfl (congrArg (fun q=>5+q) (Nat.mul_one _)) (zBS b2).2 rfl rfl)<|zA (zW Tryz.underlying22 rfl)<|zA (zAc rfl rfl) ?_
   refine zF ?_
   refine zY h rfl (fun b3 h => ?_) (fun b3 h => ?_)
   ·refine zH<|zC<|zA (zD rfl)<|zF<|zb ?_
    cases h
    exact zt (zAH rfl rfl)
   refine zP<|zC<|zA (zB rfl)<|zM h fun b4 h=>zA (ze rfl rfl b4)<|zA (zD rfl) ?_
   refine zF ?_
   exact ⟨(i1+1),z8 [0] rfl rfl (by kernel_rfl),h⟩
  refine zx ?_
  exact ⟨(),z8 [] rfl rfl (by kernel_rfl),h⟩
 clear h
 intro _ h
 unfold zLD at h
 refine zH<|zC<|zA (zD rfl)<|zF<|zb ?_
 cases h
 exact zt (zAH rfl rfl)
theorem zPe {J:zL} {r:Bool} (h:zK9 J=some r):PFn Tryz.prog 38 [(AV.agg (zG J))] (AV.lit (.bool r)):=by
 refine zo Tryz.func38 rfl Tryz.ntmps38 Tryz.results38 rfl ?_
 unfold zK9 at h
 refine zH<|zC<|za (H':=[.box 55 (zG J)]) (zv (t:=55) rfl)<|zA (zD rfl)<|zF<|zH ?_
 refine zH<|zC<|zA (zK Tryz.underlying55 rfl rfl Tryz.sizeOf53 rfl)<|zA (zN Tryz.isAgg53 rfl rfl rfl rfl)<|zA (zW Tryz.underlying53 rfl)<|zA (zAc rfl rfl) ?_
 refine zF ?_
 refine zY h rfl (fun b1 h => ?_) (fun b1 h => ?_)
 ·refine zH<|zC<|zA (zD rfl)<|zF<|zb ?_
  cases h
  exact zt (zAH rfl rfl)
 refine zP ?_
 refine zu (r:=r) (fun (_:Unit)=>mkE []) (fun _=>[]) (fun _=>zKy ) ?_ ?_
 ·
  refine zH<|zC<|zA (zK Tryz.underlying55 rfl rfl Tryz.sizeOf53 rfl)<|zA (zN Tryz.isAgg53 rfl rfl rfl rfl)<|zA (zW Tryz.underlying53 rfl)<|zA (zB rfl) ?_
  refine zF<|zQ<|zq (σ:=Int) (fun i1=>mkE [(10,(ls (cS cI) J.lists)),(11,(li (J.lists.length:Int))),(12,(li i1))]) (fun i1=>[]) (fun n0 i1=>zGG J n0 i1) 0 h (fun _=>rfl) (z8 [] rfl rfl (by kernel_rfl)) ?_
  clear h
  intro n0 i1 h
  replace h:zFo J (zGG J n0) i1=some r:=h
  unfold zFo at h
  refine zH<|zC<|zA (zf rfl rfl)<|zF<|zH ?_
  refine zY h rfl (fun b2 h => ?_) (fun b2 h => ?_)
  ·refine zP<|zH<|zQ<|zH<|zC<|zM h fun b3 h => ?_
   refine zA (zS Tryz.underlying53 Tryz.sizeOf22 (fun _=>rfl) rfl rfl b3)<|zA (zU (o:=0) Tryz.isAgg22 rfl rfl)<|zA (zD rfl)<|zF<|zH<|zC ?_
   refine zA (zB rfl)<|zA (zW Tryz.underlying22 rfl)<|zA (zAc rfl rfl)<|zF ?_
   refine zY h rfl (fun b4 h => ?_) (fun b4 h => ?_)
   ·refine zH<|zC<|zA (zD rfl)<|zF<|zb ?_
    cases h
    exact zt (zAH rfl rfl)
   refine zP<|zC<|zM h fun b5 h=>zA (ze rfl rfl b5)<|zA (zB rfl)<|zF ?_
   exact ⟨(i1+1),z8 [] rfl rfl (by kernel_rfl),h⟩
  refine zx ?_
  exact ⟨(),z8 [] rfl rfl (by kernel_rfl),h⟩
 clear h
 intro _ h
 unfold zKy at h
 refine zH<|zC<|zA (zD rfl)<|zF<|zb ?_
 cases h
 exact zt (zAH rfl rfl)
theorem zQK {B:zJ} {r:Bool} (h:zK8 B=some r):PFn Tryz.prog 10 [(AV.agg (zI B))] (AV.lit (.bool r)):=by
 refine zo Tryz.func10 rfl Tryz.ntmps10 Tryz.results10 rfl ?_
 unfold zK8 at h
 refine zH<|zC<|za (H':=[.box 26 (zI B)]) (zv (t:=26) rfl)<|zA (zD rfl)<|zF<|zH ?_
 refine zH<|zC<|zA (zK Tryz.underlying26 rfl rfl Tryz.sizeOf22 rfl)<|zA (zN Tryz.isAgg22 rfl rfl rfl rfl)<|zA (zW Tryz.underlying22 rfl)<|zA (zAc rfl rfl) ?_
 refine zA (zB rfl)<|zX rfl rfl (fun c1=>zp.step (zK Tryz.underlying26 rfl rfl Tryz.sizeOf23 rfl))<|zX rfl rfl (fun c2=>zp.step (zN Tryz.isAgg23 (z6 rfl c2) rfl rfl rfl))<|zX rfl rfl (fun c3=>zp.step (zW Tryz.underlying23 (z6 rfl c3)))<|zX rfl rfl (fun c4=>zp.step (zAc (z6 rfl c4) rfl))<|zA (zg rfl rfl) ?_
 refine zA (zB rfl)<|zX rfl rfl (fun c5=>zp.step (zK Tryz.underlying26 rfl rfl Tryz.sizeOf24 rfl))<|zX rfl rfl (fun c6=>zp.step (zN Tryz.isAgg24 (z6 rfl c6) rfl rfl rfl))<|zX rfl rfl (fun c7=>zp.step (zW Tryz.underlying24 (z6 rfl c7)))<|zX rfl rfl (fun c8=>zp.step (zAc (z6 rfl c8) rfl))<|zA (zg rfl rfl) ?_
 refine zF ?_
 refine zY h rfl (fun b1 h => ?_) (fun b1 h => ?_)
 ·refine zH<|zC<|zA (zD rfl)<|zF<|zb ?_
  cases h
  exact zt (zAH rfl rfl)
 refine zP ?_
 refine zu (r:=r) (fun (_:Unit)=>mkE [(1,(AV.ptr 0 0))]) (fun _=>[.box 26 (zI B)]) (fun _=>zLF B) ?_ ?_
 ·
  refine zH<|zC<|zA (zD rfl)<|zF<|zQ<|zq (σ:=Int) (fun i2=>mkE [(1,(AV.ptr 0 0)),(3,(li i2))]) (fun i2=>[.box 26 (zI B)]) (fun n1 i2=>zF9 B n1 i2) 0 h (fun _=>rfl) (z8 [0] rfl rfl (by kernel_rfl)) ?_
  clear h
  intro n1 i2 h
  replace h:zGA B (zF9 B n1) i2=some r:=h
  unfold zGA at h
  refine zH<|zH<|zC<|zA (zB rfl)<|zA (zK Tryz.underlying26 rfl rfl Tryz.sizeOf23 rfl)<|zA (zN Tryz.isAgg23 rfl rfl rfl rfl) ?_
  refine zA (zW Tryz.underlying23 rfl)<|zA (zf rfl rfl)<|zF ?_
  refine zY h rfl (fun b6 h => ?_) (fun b6 h => ?_)
  ·refine zP<|zH<|zQ<|zH<|zC<|zA (zK Tryz.underlying26 rfl rfl Tryz.sizeOf23 rfl) ?_
   refine zA (zN Tryz.isAgg23 rfl rfl rfl rfl)<|zA (zB rfl)<|zM h fun b7 h=>zA (zS Tryz.underlying23 Tryz.sizeOf51 (fun _=>rfl) rfl rfl b7)<|zA (zAh (row:=(zO (at_ B.zones i2))) (o:=0) (m:=10) (la:=(zO (at_ B.zones i2))) Tryz.isAgg51 Tryz.sizeOf51 rfl rfl rfl)<|zR h fun x2 w2 h => ?_
   refine zh Tryz.func37 rfl (by kernel_rfl) (.fn 37) rfl rfl (zPb w2) rfl<|zA (zBD (t:=x2) rfl)<|zF ?_
   refine zY h rfl (fun b8 h => ?_) (fun b8 h => ?_)
   ·refine zH<|zC<|zA (zD rfl)<|zF<|zb ?_
    cases h
    exact zt (zAH rfl rfl)
   refine zP<|zC<|zA (zB rfl)<|zM h fun b9 h=>zA (ze rfl rfl b9)<|zA (zD rfl) ?_
   refine zF ?_
   exact ⟨(i2+1),z8 [0] rfl rfl (by kernel_rfl),h⟩
  refine zx ?_
  exact ⟨(),z8 [0] rfl rfl (by kernel_rfl),h⟩
 clear h
 intro _ h
 unfold zLF at h
 refine zu (r:=r) (fun (_:Unit)=>mkE []) (fun _=>[]) (fun _=>zK2 ) ?_ ?_
 ·
  refine zH<|zC<|zA (zD rfl)<|zF<|zQ<|zq (σ:=Int) (fun i1=>mkE [(1,(AV.ptr 0 0)),(4,(li i1))]) (fun i1=>[.box 26 (zI B)]) (fun n0 i1=>zFz B n0 i1) 0 h (fun _=>rfl) (z8 [0] rfl rfl (by kernel_rfl)) ?_
  clear h
  intro n0 i1 h
  replace h:zFy B (zFz B n0) i1=some r:=h
  unfold zFy at h
  refine zH<|zH<|zC<|zA (zB rfl)<|zA (zK Tryz.underlying26 rfl rfl Tryz.sizeOf24 rfl)<|zA (zN Tryz.isAgg24 rfl rfl rfl rfl) ?_
  refine zA (zW Tryz.underlying24 rfl)<|zA (zf rfl rfl)<|zF ?_
  refine zY h rfl (fun b2 h => ?_) (fun b2 h => ?_)
  ·refine zP<|zH<|zQ<|zH<|zC<|zA (zK Tryz.underlying26 rfl rfl Tryz.sizeOf24 rfl) ?_
   refine zA (zN Tryz.isAgg24 rfl rfl rfl rfl)<|zA (zB rfl)<|zM h fun b3 h=>zA (zS Tryz.underlying24 Tryz.sizeOf55 (fun _=>rfl) rfl rfl b3)<|zA (zAh (row:=(zG (at_ B.caches i1))) (o:=0) (m:=1) (la:=(zG (at_ B.caches i1))) Tryz.isAgg55 Tryz.sizeOf55 rfl rfl rfl)<|zR h fun x1 w1 h => ?_
   refine zh Tryz.func38 rfl (by kernel_rfl) (.fn 38) rfl rfl (zPe w1) rfl<|zA (zBD (t:=x1) rfl)<|zF ?_
   refine zY h rfl (fun b4 h => ?_) (fun b4 h => ?_)
   ·refine zH<|zC<|zA (zD rfl)<|zF<|zb ?_
    cases h
    exact zt (zAH rfl rfl)
   refine zP<|zC<|zA (zB rfl)<|zM h fun b5 h=>zA (ze rfl rfl b5)<|zA (zD rfl) ?_
   refine zF ?_
   exact ⟨(i1+1),z8 [0] rfl rfl (by kernel_rfl),h⟩
  refine zx ?_
  exact ⟨(),z8 [] rfl rfl (by kernel_rfl),h⟩
 clear h
 intro _ h
 unfold zK2 at h
 refine zH<|zC<|zA (zD rfl)<|zF<|zb ?_
 cases h
 exact zt (zAH rfl rfl)
theorem zM7 {uQ:List Int} {uZ:Int} {ua:Int} {W:Int} {r:Bool} (h:zHf uQ uZ ua W=some r):PFn Tryz.prog 46 [ls cI uQ,li uZ,li ua,li W] (AV.lit (.bool r)):=by
 refine zo Tryz.func46 rfl Tryz.ntmps46 Tryz.results46 rfl ?_
 unfold zHf at h
 refine zH<|zC<|zA (zD rfl)<|zF<|zH<|zH ?_
 refine zC<|zA (zB rfl)<|zA (zW Tryz.underlying22 rfl)<|zA (zf rfl rfl)<|zA (zB rfl)<|zX rfl rfl (fun c1=>zp.step (zB rfl)) ?_
 refine zX rfl rfl (fun c2=>zp.step (zW Tryz.underlying22 (z6 rfl c2)))<|zX rfl rfl (fun c3=>zp.step (zAc (z6 rfl c3) rfl))<|zA (zg rfl rfl)<|zA (zB rfl)<|zX rfl rfl (fun c4=>zp.step (zB rfl))<|zX rfl rfl (fun c5=>zp.step (zf (z6 rfl c5) rfl)) ?_
 refine zA (zg rfl rfl)<|zA (zB rfl)<|zX rfl rfl (fun c6=>zp.step (zB rfl))<|zX rfl rfl (fun c7=>zp.step (zB rfl))<|zX rfl rfl (fun c8=>zp.step (zAc (z6 rfl c8) (z6 rfl c8)))<|zA (zg rfl rfl) ?_
 refine zA (zB rfl)<|zX rfl rfl (fun c9=>zp.step (zB rfl))<|zX rfl rfl (fun c10=>zp.step (zAc (z6 rfl c10) rfl))<|zA (zg rfl rfl)<|zA (zB rfl)<|zX rfl rfl (fun c11=>zp.step (zB rfl)) ?_
 refine zX rfl rfl (fun c12=>zp.step (zf (z6 rfl c12) rfl))<|zA (zg rfl rfl)<|zA (zB rfl)<|zX rfl rfl (fun c13=>zp.step (zB rfl))<|zX rfl rfl (fun c14=>zp.step (zAc (z6 rfl c14) rfl))<|zA (zg rfl rfl) ?_
 refine zF ?_
 refine zY h rfl (fun b1 h => ?_) (fun b1 h => ?_)
 ·refine zH<|zC<|zA (zD rfl)<|zF<|zb ?_
  cases h
  exact zt (zAH rfl rfl)
 refine zP ?_
 refine zu (r:=r) (fun (_:Unit)=>mkE []) (fun _=>[]) (fun _=>zIy ) ?_ ?_
 ·
  refine zH<|zC<|zA (zD rfl)<|zF<|zQ<|zq (σ:=Int) (fun i1=>mkE [(0,(ls cI uQ)),(9,(li i1))]) (fun i1=>[]) (fun n0 i1=>zFC uQ n0 i1) 0 h (fun _=>rfl) (z8 [] rfl rfl (by kernel_rfl)) ?_
  clear h
  intro n0 i1 h
  replace h:zCx uQ (zFC uQ n0) i1=some r:=h
  unfold zCx at h
  refine zH<|zH<|zC<|zA (zB rfl)<|zA (zB rfl)<|zA (zW Tryz.underlying22 rfl) ?_
  refine zA (zf rfl rfl)<|zF ?_
  refine zY h rfl (fun b2 h => ?_) (fun b2 h => ?_)
  ·refine zP<|zH<|zQ<|zH<|zC<|zA (zB rfl) ?_
   refine zA (zB rfl)<|zM h fun b3 h=>zA (zS Tryz.underlying22 Tryz.sizeOf3 (fun _=>rfl) rfl rfl b3)<|zA (zU (o:=0) Tryz.isAgg3 rfl rfl)<|zA (zf rfl rfl)<|zA (zB rfl) ?_
   refine zX rfl rfl (fun c15=>zp.step (zB rfl))<|zX rfl rfl (fun c16=>zp.step (zB rfl))<|zX rfl rfl (fun c17=>zp.step (zS Tryz.underlying22 Tryz.sizeOf3 (fun _=>rfl) (z6 rfl c17) (z6 rfl c17) b3))<|zX rfl rfl (fun c18=>zp.step (zU (o:=0) Tryz.isAgg3 (z6 rfl c18) rfl))<|zX rfl rfl (fun c19=>zp.step (zAv (z6 rfl c19) rfl))<|zA (zg rfl rfl) ?_
   refine zF ?_
   refine zY h rfl (fun b4 h => ?_) (fun b4 h => ?_)
   ·refine zH<|zC<|zA (zD rfl)<|zF<|zb ?_
    cases h
    exact zt (zAH rfl rfl)
   refine zP<|zC<|zA (zB rfl)<|zM h fun b5 h=>zA (ze rfl rfl b5)<|zA (zD rfl) ?_
   refine zF ?_
   exact ⟨(i1+1),z8 [] rfl rfl (by kernel_rfl),h⟩
  refine zx ?_
  exact ⟨(),z8 [] rfl rfl (by kernel_rfl),h⟩
 clear h
 intro _ h
 unfold zIy at h
 refine zH<|zC<|zA (zD rfl)<|zF<|zb ?_
 cases h
 exact zt (zAH rfl rfl)
theorem zM8 {C:zj} {r:Bool} (h:zHp C=some r):PFn Tryz.prog 93 [(AV.agg (zO C))] (AV.lit (.bool r)):=by
 refine zo Tryz.func93 rfl Tryz.ntmps93 Tryz.results93 rfl ?_
 unfold zHp at h
 refine zH<|zC<|za (H':=[.box 51 (zO C)]) (zv (t:=51) rfl)<|zA (zD rfl)<|zF<|zH ?_
 refine zH<|zC<|zA (zK Tryz.underlying51 rfl rfl Tryz.sizeOf3 rfl)<|zA (zN Tryz.isAgg3 rfl rfl rfl rfl)<|zA (zf rfl rfl)<|zA (zB rfl) ?_
 refine zX rfl rfl (fun c1=>zp.step (zK Tryz.underlying51 rfl rfl Tryz.sizeOf3 rfl))<|zX rfl rfl (fun c2=>zp.step (zN Tryz.isAgg3 (z6 rfl c2) rfl rfl rfl))<|zX rfl rfl (fun c3=>zp.step (zAv (z6 rfl c3) rfl))<|zA (zg rfl rfl)<|zA (zB rfl)<|zX rfl rfl (fun c4=>zp.step (zK Tryz.underlying51 rfl rfl Tryz.sizeOf3 rfl)) ?_
 refine zX rfl rfl (fun c5=>zp.step (zN Tryz.isAgg3 (z6 rfl c5) rfl rfl rfl))<|zX rfl rfl (fun c6=>zp.step (zz (z6 rfl c6) rfl))<|zX rfl rfl (fun c7=>zp.step (zB (z6 rfl c7)))<|zKT (g:=15) (s' := !((decide (C.node<0))||(decide (4≤C.node)))) (s := !decide (C.kind=0)) rfl rfl (fun c8=>zp.step (zK Tryz.underlying51 rfl rfl Tryz.sizeOf3 rfl))<|zKT (g:=15) (s' := !((decide (C.node<0))||(decide (4≤C.node)))) (s := !decide (C.kind=0)) rfl rfl (fun c9=>zp.step (zN Tryz.isAgg3 (z6 rfl c9) rfl rfl rfl))<|zKT (g:=15) (s' := !((decide (C.node<0))||(decide (4≤C.node)))) (s := !decide (C.kind=0)) rfl rfl (fun c10=>zp.step (zz (z6 rfl c10) rfl)) ?_
 refine zX rfl rfl (fun c11=>zp.step (zy (j := .lit undef) (z6 rfl c11) (zOe (c := !((decide (C.node<0))||(decide (4≤C.node)))) (d := !decide (C.kind=0)) (a:=(AV.lit (.bool (!decide (C.kind=1))))) (j := .lit undef) rfl c11)))<|zA (zg rfl rfl)<|zF ?_
 refine zY h rfl (fun b1 h => ?_) (fun b1 h => ?_)
 ·refine zH<|zC<|zA (zD rfl)<|zF<|zb ?_
  cases h
  exact zt (zAH rfl rfl)
 refine zP<|zH<|zC<|zA (zK Tryz.underlying51 rfl rfl Tryz.sizeOf3 rfl)<|zA (zN Tryz.isAgg3 rfl rfl rfl rfl)<|zA (zAv rfl rfl) ?_
 refine zA (zB rfl)<|zm rfl rfl (fun c12=>zp.step (zK Tryz.underlying51 rfl rfl Tryz.sizeOf3 rfl))<|zm rfl rfl (fun c13=>zp.step (zN Tryz.isAgg3 (z6 rfl c13) rfl rfl rfl))<|zm rfl rfl (fun c14=>zp.step (zAv (z6 rfl c14) rfl))<|zA (zy (j := .lit undef) rfl rfl)<|zA (zB rfl) ?_
 refine zm rfl rfl (fun c15=>zp.step (zK Tryz.underlying51 rfl rfl Tryz.sizeOf3 rfl))<|zm rfl rfl (fun c16=>zp.step (zN Tryz.isAgg3 (z6 rfl c16) rfl rfl rfl))<|zm rfl rfl (fun c17=>zp.step (zCr (z6 rfl c17) rfl))<|zA (zy (j := .lit undef) rfl rfl)<|zA (zB rfl)<|zm rfl rfl (fun c18=>zp.step (zK Tryz.underlying51 rfl rfl Tryz.sizeOf3 rfl)) ?_
 refine zm rfl rfl (fun c19=>zp.step (zN Tryz.isAgg3 (z6 rfl c19) rfl rfl rfl))<|zm rfl rfl (fun c20=>zp.step (zK Tryz.underlying51 rfl rfl Tryz.sizeOf3 rfl))<|zm rfl rfl (fun c21=>zp.step (zN Tryz.isAgg3 (z6 rfl c21) rfl rfl rfl))<|zM h fun b2 h=>zm rfl rfl (fun c22=>zp.step (zBU rfl (z6 rfl c22) (zHT b2 c22)))<|zm rfl rfl (fun c23=>zp.step (zCr (z6 rfl c23) (z6 rfl c23))) ?_
 refine zA (zy (j := .lit undef) rfl rfl)<|zA (zB rfl)<|zm rfl rfl (fun c24=>zp.step (zK Tryz.underlying51 rfl rfl Tryz.sizeOf3 rfl))<|zm rfl rfl (fun c25=>zp.step (zN Tryz.isAgg3 (z6 rfl c25) rfl rfl rfl))<|zm rfl rfl (fun c26=>zp.step (zAv (z6 rfl c26) rfl))<|zA (zy (j := .lit undef) rfl rfl) ?_
 refine zA (zB rfl)<|zm rfl rfl (fun c27=>zp.step (zK Tryz.underlying51 rfl rfl Tryz.sizeOf3 rfl))<|zm rfl rfl (fun c28=>zp.step (zN Tryz.isAgg3 (z6 rfl c28) rfl rfl rfl))<|zm rfl rfl (fun c29=>zp.step (zK Tryz.underlying51 rfl rfl Tryz.sizeOf3 rfl))<|zm rfl rfl (fun c30=>zp.step (zN Tryz.isAgg3 (z6 rfl c30) rfl rfl rfl))<|zm rfl rfl (fun c31=>zp.step (zCr (z6 rfl c31) (z6 rfl c31))) ?_
 refine zA (zy (j := .lit undef) rfl rfl)<|zA (zD rfl)<|zF<|zb ?_
 cases h
 exact zt (zAH rfl rfl)
end Go.Proofs.YtplkliakhdkpcaaGreat
