/-
  Rules, functions and laws for the last text, part d.
-/
import Derived.Test.YtplkliakhdkpcaaGreatGc
set_option linter.unusedVariables false
set_option linter.unusedSimpArgs false
namespace Go.Proofs.YtplkliakhdkpcaaGreat
open Go Go.RowKit Go.Wk Go.Am Go.Proofs
set_option maxHeartbeats 4000000
theorem zLr {A:zi} {D:Int} {r:zi×Int×Int} (h:zKk A D=some r):PFn Tryz.prog 64 [(AV.agg (zO A)),li D] (AV.tup [(AV.agg (zO r.1)),li r.2.1,li r.2.2]):=by
 refine zm Tryz.func64 rfl Tryz.ntmps64 Tryz.results64 rfl ?_
 unfold zKk at h
 refine zH<|zC<|zX (H':=[.box 51 (zO A)]) (zu (t:=51) rfl)<|zX (H':=[.box 51 (zO A),.box 51 (zO ⟨0,0,0,0,0,(List.replicate 5 ([]:List Int))⟩)]) zv0<|zA (zD rfl)<|zA (zD rfl) ?_
 refine zF<|zH<|zH<|zC<|zA (zS (k:=0) (o:=0) (m:=10) Tryz.isAgg51 Tryz.sizeOf51 rfl rfl rfl rfl rfl)<|zP h fun x1 w1 h => ?_
 refine ze Tryz.func42 rfl (by kernel_rfl) (.fn 42) rfl rfl (zEC w1) rfl<|zA (zD rfl)<|zF<|zH<|zC<|zA (zB rfl) ?_
 refine zA (z7 rfl rfl)<|zF ?_
 refine zW h rfl (fun b1 h => ?_) (fun b1 h => ?_)
 ·refine zH<|zC<|zA zv9<|zA (zB rfl)<|zd (H':=[.box 51 (zO A),.box 51 (zO (⟨0,0,0,0,0,(List.replicate 5 ([]:List Int))⟩:zi))]) (zT (k:=1) (o:=0) (cs:=(zO ⟨0,0,0,0,0,(List.replicate 5 ([]:List Int))⟩)) (la:=(zO (⟨0,0,0,0,0,(List.replicate 5 ([]:List Int))⟩:zi))) Tryz.sizeOf51 rfl rfl rfl rfl)<|zA (zD rfl) ?_
  refine zA (zD rfl)<|zF<|zb ?_
  cases h
  exact zC7 (zDV Tryz.isAgg51 Tryz.sizeOf51 rfl rfl rfl rfl) (zAI rfl rfl) (zAI rfl rfl) rfl
 refine zQ<|zH<|zH<|zC<|zA (zB rfl)<|zA (zh rfl rfl) ?_
 refine zA (zB rfl)<|zZ rfl rfl (fun c1=>zq.step (zB rfl))<|zZ rfl rfl (fun c2=>zq.step (zAo (z8 rfl c2) rfl))<|zA (zj rfl rfl)<|zF ?_
 refine zW h rfl (fun b2 h => ?_) (fun b2 h => ?_)
 ·refine zH<|zC<|zA zv9<|zd (H':=[.box 51 (zO A),.box 51 (zO (⟨0,0,0,0,0,(List.replicate 5 ([]:List Int))⟩:zi))]) (zT (k:=1) (o:=0) (cs:=(zO ⟨0,0,0,0,0,(List.replicate 5 ([]:List Int))⟩)) (la:=(zO (⟨0,0,0,0,0,(List.replicate 5 ([]:List Int))⟩:zi))) Tryz.sizeOf51 rfl rfl rfl rfl)<|zA (zD rfl)<|zA (zD rfl) ?_
  refine zF<|zb ?_
  cases h
  exact zC7 (zDV Tryz.isAgg51 Tryz.sizeOf51 rfl rfl rfl rfl) (zAI rfl rfl) (zAI rfl rfl) rfl
 refine zQ<|zH<|zC<|zA (zB rfl)<|zA (zD rfl)<|zF ?_
 refine zx (r:=r) (fun (i1:Int)=>mkE [(1,(li D)),(2,(AV.ptr 0 0)),(4,(AV.ptr 1 0)),(8,(li i1))]) (fun i1=>[.box 51 (zO A),.box 51 (zO ⟨0,0,0,0,0,(List.replicate 5 ([]:List Int))⟩)]) (fun i1=>zJl A D i1) ?_ ?_
 ·
  refine zR<|zt (σ:=Int) (fun i3=>mkE [(1,(li D)),(2,(AV.ptr 0 0)),(4,(AV.ptr 1 0)),(8,(li i3))]) (fun i3=>[.box 51 (zO A),.box 51 (zO ⟨0,0,0,0,0,(List.replicate 5 ([]:List Int))⟩)]) (fun n1 i3=>zH1 A D n1 i3) D h (fun _=>rfl) (zAD [0,1] rfl rfl (by kernel_rfl)) ?_
  clear h
  intro n1 i3 h
  replace h:zJj A D (zH1 A D n1) i3=some r:=h
  unfold zJj at h
  refine zH<|zH<|zC<|zA (zB rfl)<|zA (zCj rfl rfl)<|zA (zB rfl) ?_
  refine zo rfl rfl (fun c3=>zq.step (zB rfl))<|zo rfl rfl (fun c4=>zq.step (zK Tryz.underlying51 rfl rfl Tryz.sizeOf49 rfl))<|zM h fun b17 h=>zo rfl rfl (fun c5=>zq.step (zAG (m:=5) (s:=1) (i:=i3) (k:=0) (o:=5) Tryz.underlying49 Tryz.sizeOf22 (z8 rfl c5) (z8 rfl c5) (zHd b17 c5)))<|zo rfl rfl (fun c6=>zq.step (zAr (k:=0) (o:=(5+i3.toNat*1)) (cs:=(zO A)) (hd:=([li A.node]++[li A.kind]++[li A.start]++[li A.count]++[li A.min]++[])) (tl:=([])) (g:=(eS cI)) (d0:=([]:List Int)) (l:=A.free) (N:=5) (i:=i3.toNat) (a:=(ls cI (A.free.getD i3.toNat ([]:List Int)))) Tryz.isAgg22 (z8 rfl c6) rfl rfl (congrArg (fun q=>5+q) (Nat.mul_one _)) (zBK (zHd b17 c6)).2 rfl rfl))<|zo rfl rfl (fun c7=>zq.step (zY Tryz.underlying22 (z8 rfl c7))) ?_
  refine zo rfl rfl (fun c8=>zq.step (zA8 (z8 rfl c8) rfl))<|zA (z6 (j := .lit undef) rfl rfl)<|zF ?_
  refine zW h rfl (fun b18 h => ?_) (fun b18 h => ?_)
  ·refine zQ<|zR<|zC<|zA (zB rfl)<|zM h fun b19 h=>zA (zg rfl rfl b19) ?_
   refine zA (zD rfl)<|zF ?_
   exact ⟨(i3+1),zAD [0,1] rfl rfl (by kernel_rfl),h⟩
  refine zz ?_
  exact ⟨i3,zAD [0,1] rfl rfl (by kernel_rfl),h⟩
 clear h
 intro i1 h
 unfold zJl at h
 refine zH<|zH<|zC<|zA (zB rfl)<|zA (zAo rfl rfl)<|zF ?_
 refine zW h rfl (fun b3 h => ?_) (fun b3 h => ?_)
 ·refine zH<|zC<|zA zv9<|zd (H':=[.box 51 (zO A),.box 51 (zO (⟨0,0,0,0,0,(List.replicate 5 ([]:List Int))⟩:zi))]) (zT (k:=1) (o:=0) (cs:=(zO ⟨0,0,0,0,0,(List.replicate 5 ([]:List Int))⟩)) (la:=(zO (⟨0,0,0,0,0,(List.replicate 5 ([]:List Int))⟩:zi))) Tryz.sizeOf51 rfl rfl rfl rfl)<|zA (zD rfl)<|zA (zD rfl) ?_
  refine zF<|zb ?_
  cases h
  exact zC7 (zDV Tryz.isAgg51 Tryz.sizeOf51 rfl rfl rfl rfl) (zAI rfl rfl) (zAI rfl rfl) rfl
 refine zQ<|zH<|zC<|zA (zS (k:=0) (o:=0) (m:=10) Tryz.isAgg51 Tryz.sizeOf51 rfl rfl rfl rfl rfl)<|zP h fun x2 w2 h=>zDg (cs:=([li x2.node,li x2.kind,li x2.start,li x2.count,li x2.min]++((cM 5 3 (5:Int) x2.free)++[]))) (la:=[(AV.agg (zO A))]) (la':=[(AV.agg (zO A))]) (S:=[]) Tryz.func118 rfl (by kernel_rfl) (.fn 118) rfl ⟨zAl.nr rfl,trivial⟩ (zJt w2) (.inl rfl) ?_
 refine zX (H':=[.box 51 (zO A),.box 51 (zO ⟨0,0,0,0,0,(List.replicate 5 ([]:List Int))⟩),.val (.agg ([li x2.node,li x2.kind,li x2.start,li x2.count,li x2.min]++((cM 5 3 (5:Int) x2.free)++[]))),.box 51 (zO ⟨0,0,0,0,0,(List.replicate 5 ([]:List Int))⟩)]) zv0<|zd (H':=[.box 51 (zO A),.box 51 (zO ⟨0,0,0,0,0,(List.replicate 5 ([]:List Int))⟩),.dead,.box 51 ([li x2.node,li x2.kind,li x2.start,li x2.count,li x2.min]++((cM 5 3 (5:Int) x2.free)++[]))]) (zBW (k:=3) (o:=0) (j:=2) (cs:=(zO ⟨0,0,0,0,0,(List.replicate 5 ([]:List Int))⟩)) (la:=([li x2.node,li x2.kind,li x2.start,li x2.count,li x2.min]++((cM 5 3 (5:Int) x2.free)++[]))) Tryz.sizeOf51 rfl rfl rfl rfl rfl (by decide))<|zF<|zH<|zC<|zA (zB rfl) ?_
 refine zA (zK Tryz.underlying51 rfl rfl Tryz.sizeOf49 rfl)<|zM h fun b4 h=>zA (zAG (m:=5) (s:=1) (i:=i1) (k:=3) (o:=5) Tryz.underlying49 Tryz.sizeOf22 rfl rfl b4)<|zM h fun b5 h=>z5 (zIQ (k:=3) (cs:=([li x2.node,li x2.kind,li x2.start,li x2.count,li x2.min]++((cM 5 3 (5:Int) x2.free)++[]))) (hd:=([li x2.node]++[li x2.kind]++[li x2.start]++[li x2.count]++[li x2.min]++[])) (tl:=([])) (N:=5) (T:=3) (K:=5) (l:=x2.free) (i:=i1) rfl rfl b4 b5)<|zA (zCw (k:=3) (o:=(5+i1.toNat*1)) (cs:=([li x2.node,li x2.kind,li x2.start,li x2.count,li x2.min]++((List.set (cM 5 3 (5:Int) x2.free) i1.toNat (AV.hd 4))++[]))) (hd:=([li x2.node]++[li x2.kind]++[li x2.start]++[li x2.count]++[li x2.min]++[])) (tl:=([])) (s:=(cM 5 3 (5:Int) x2.free)) (i:=i1) (j:=4) Tryz.isAgg22 rfl rfl rfl (congrArg (fun q=>5+q) (Nat.mul_one _)) (zF9 b4)) ?_
 refine zM h fun b6 h=>zA (zy (f:=cI) (l:=x2.free.getD i1.toNat []) (i:=0) Tryz.underlying22 Tryz.sizeOf3 rfl rfl rfl b6)<|zA (zA3 (f:=cI) (l:=x2.free.getD i1.toNat []) (i:=0) (c:=0) (a:=(li (at_ (x2.free.getD i1.toNat []) (0:Int)))) Tryz.isAgg3 rfl rfl (by first | rfl | omega) b6 rfl rfl)<|zA (zD rfl)<|zF<|zH ?_
 refine zC<|zA (zB rfl)<|zA (zB rfl)<|zA (zK Tryz.underlying51 rfl rfl Tryz.sizeOf49 rfl)<|zA (zAG (m:=5) (s:=1) (i:=i1) (k:=3) (o:=5) Tryz.underlying49 Tryz.sizeOf22 rfl rfl b4)<|zA (zCw (k:=3) (o:=(5+i1.toNat*1)) (cs:=([li x2.node,li x2.kind,li x2.start,li x2.count,li x2.min]++((List.set (cM 5 3 (5:Int) x2.free) i1.toNat (AV.hd 4))++[]))) (hd:=([li x2.node]++[li x2.kind]++[li x2.start]++[li x2.count]++[li x2.min]++[])) (tl:=([])) (s:=(cM 5 3 (5:Int) x2.free)) (i:=i1) (j:=4) Tryz.isAgg22 rfl rfl rfl (congrArg (fun q=>5+q) (Nat.mul_one _)) (zF9 b4)) ?_
 refine z5 (zES (j:=4) (ds:=[48,55]) (rows':=List.map cI (x2.free.getD i1.toNat [])) rfl (zAM (fun _=>rfl)) ⟨rfl,rfl,trivial⟩)<|zM h fun b7 h=>zA (zQQ (lo:=1) (f:=cI) (l:=x2.free.getD i1.toNat []) Tryz.underlying22 Tryz.sizeOf3 (fun _=>rfl) rfl rfl b7)<|zA (zK Tryz.underlying51 rfl rfl Tryz.sizeOf49 rfl)<|zA (zAG (m:=5) (s:=1) (i:=i1) (k:=3) (o:=5) Tryz.underlying49 Tryz.sizeOf22 rfl rfl b4)<|zM h fun b8 h => ?_
 refine zd (H':=[.box 51 (zO A),.box 51 (zO ⟨0,0,0,0,0,(List.replicate 5 ([]:List Int))⟩),.dead,.box 51 ([li x2.node,li x2.kind,li x2.start,li x2.count,li x2.min]++((List.set (cM 5 3 (5:Int) x2.free) i1.toNat (ls cI (zH6 (x2.free.getD i1.toNat []) 1 ((x2.free.getD i1.toNat []).length:Int))))++[])),.dead]) (zFo (k:=3) (o:=(5+i1.toNat*1)) (cs:=([li x2.node,li x2.kind,li x2.start,li x2.count,li x2.min]++((List.set (cM 5 3 (5:Int) x2.free) i1.toNat (AV.hd 4))++[]))) (hd:=([li x2.node]++[li x2.kind]++[li x2.start]++[li x2.count]++[li x2.min]++[])) (tl:=([])) (s:=(cM 5 3 (5:Int) x2.free)) (i:=i1) (a:=(ls cI (zH6 (x2.free.getD i1.toNat []) 1 ((x2.free.getD i1.toNat []).length:Int)))) Tryz.sizeOf22 rfl rfl rfl (congrArg (fun q=>5+q) (Nat.mul_one _)) (zF9 b4) rfl rfl)<|zF ?_
 refine zx (r:=r) (fun (l1:List (List Int))=>mkE [(4,(AV.ptr 0 0)),(9,(AV.ptr 1 0)),(10,(li (at_ (x2.free.getD i1.toNat []) (0:Int))))]) (fun l1=>[.box 51 (zO ⟨0,0,0,0,0,(List.replicate 5 ([]:List Int))⟩),.box 51 ([li x2.node,li x2.kind,li x2.start,li x2.count,li x2.min]++((cM 5 3 i1 l1)++[]))]) (fun l1=>zJ3 i1 x2 l1) ?_ ?_
 ·
  refine zR<|zt (σ:=Int×(List (List Int))) (fun (i2,l2)=>mkE [(1,(li D)),(4,(AV.ptr 0 0)),(8,(li i2)),(9,(AV.ptr 1 0)),(10,(li (at_ (x2.free.getD i1.toNat []) (0:Int))))]) (fun (i2,l2)=>[.box 51 (zO ⟨0,0,0,0,0,(List.replicate 5 ([]:List Int))⟩),.box 51 ([li x2.node,li x2.kind,li x2.start,li x2.count,li x2.min]++((cM 5 3 i1 l2)++[]))]) (fun n0 (i2,l2)=>zIC D i1 x2 n0 i2 l2) (i1,(zDc 5 [] x2.free i1.toNat (zH6 (x2.free.getD i1.toNat []) 1 ((x2.free.getD i1.toNat []).length:Int)))) h (fun _=>rfl) (Rep.trans (zSm (l':=zH6 (x2.free.getD i1.toNat []) 1 ((x2.free.getD i1.toNat []).length:Int)) (k:=3) (cs:=([li x2.node,li x2.kind,li x2.start,li x2.count,li x2.min]++((List.set (cM 5 3 (5:Int) x2.free) i1.toNat (ls cI (zH6 (x2.free.getD i1.toNat []) 1 ((x2.free.getD i1.toNat []).length:Int))))++[]))) (hd:=([li x2.node]++[li x2.kind]++[li x2.start]++[li x2.count]++[li x2.min]++[])) (tl:=([])) (N:=5) (T:=3) (K:=5) (l:=x2.free) (i:=i1) rfl rfl b4 b8) (zBV (n:=90) (m:=0) [1,3] (l:=[(1,(li D)),(4,(AV.ptr 0 0)),(8,(li i1)),(9,(AV.ptr 1 0)),(10,(li (at_ (x2.free.getD i1.toNat []) (0:Int))))]) ⟨⟨Sub.refl _,by kernel_rfl⟩,⟨Sub.refl _,by kernel_rfl⟩,⟨Sub.refl _,by kernel_rfl⟩,⟨Sub.refl _,by kernel_rfl⟩,⟨Sub.refl _,by kernel_rfl⟩,trivial⟩ rfl rfl ⟨⟨rfl,by kernel_rfl⟩,⟨rfl,zS3 (hd:=([li x2.node]++[li x2.kind]++[li x2.start]++[li x2.count]++[li x2.min]++[])) (tl:=([])) (N:=5) (T:=3) (K:=i1) (l:=zDc 5 [] x2.free i1.toNat (zH6 (x2.free.getD i1.toNat []) 1 ((x2.free.getD i1.toNat []).length:Int))) (by kernel_rfl) (by kernel_rfl) rfl⟩,trivial⟩)) ?_
  clear h
  rintro n0 ⟨i2,l2⟩ h
  replace h:zJ7 D i1 x2 (zIC D i1 x2 n0) i2 l2=some r:=h
  unfold zJ7 at h
  refine zH<|zH<|zC<|zA (zB rfl)<|zA (zB rfl)<|zA (zAo rfl rfl) ?_
  refine zF ?_
  refine zW h rfl (fun b9 h => ?_) (fun b9 h => ?_)
  ·refine zQ<|zR<|zH<|zC<|zA (zB rfl)<|zM h fun b10 h => ?_
   refine zA (zBa rfl rfl b10)<|zA (zD rfl)<|zF<|zH<|zC<|zA (zB rfl) ?_
   refine zA (zB rfl)<|zM h fun b11 h=>zM h fun b12 h=>zA (zCx (a:=1) (b:=i2 - 1) rfl rfl b11 b12)<|zM h fun b13 h=>zA (zg rfl rfl b13) ?_
   refine zA (zD rfl)<|zF<|zH<|zC<|zA (zB rfl)<|zA (zK Tryz.underlying51 rfl rfl Tryz.sizeOf49 rfl) ?_
   refine zM h fun b14 h=>zA (zAG (m:=5) (s:=1) (i:=i2 - 1) (k:=1) (o:=5) Tryz.underlying49 Tryz.sizeOf22 rfl rfl b14)<|zM h fun b15 h=>z5 (zIQ (k:=1) (cs:=([li x2.node,li x2.kind,li x2.start,li x2.count,li x2.min]++((cM 5 3 i1 l2)++[]))) (hd:=([li x2.node]++[li x2.kind]++[li x2.start]++[li x2.count]++[li x2.min]++[])) (tl:=([])) (N:=5) (T:=3) (K:=i1) (l:=l2) (i:=i2 - 1) rfl rfl b14 b15)<|zA (zCw (k:=1) (o:=(5+(i2 - 1).toNat*1)) (cs:=([li x2.node,li x2.kind,li x2.start,li x2.count,li x2.min]++((List.set (cM 5 3 i1 l2) (i2 - 1).toNat (AV.hd 2))++[]))) (hd:=([li x2.node]++[li x2.kind]++[li x2.start]++[li x2.count]++[li x2.min]++[])) (tl:=([])) (s:=(cM 5 3 i1 l2)) (i:=i2 - 1) (j:=2) Tryz.isAgg22 rfl rfl rfl (congrArg (fun q=>5+q) (Nat.mul_one _)) (zF9 b14))<|zA (zB rfl) ?_
   refine zP h fun x3 w3 h=>zAq (r':=(AV.tup [li x3.1,(AV.lit (.bool x3.2))])) (la:=[AV.hd 2,(li ((at_ (x2.free.getD i1.toNat []) (0:Int))+((1:Int)*2 ^ (i2 - 1).toNat)))]) (la':=[(ls cI (l2.getD (i2 - 1).toNat [])),(li ((at_ (x2.free.getD i1.toNat []) (0:Int))+((1:Int)*2 ^ (i2 - 1).toNat)))]) (r:=(AV.tup [li x3.1,(AV.lit (.bool x3.2))])) (S:=[2]) Tryz.func87 rfl (by kernel_rfl) (.fn 87) rfl ⟨zGf (fun _=>rfl) rfl rfl,zAl.nr rfl,trivial⟩ (zAb w3) (.inr rfl) rfl<|zA (zB rfl)<|zA (za rfl rfl)<|zA (za rfl rfl)<|zA (zD rfl) ?_
   refine zA (zD rfl)<|zF<|zC<|zA (zB rfl)<|zA (zB rfl)<|zA (zK Tryz.underlying51 rfl rfl Tryz.sizeOf49 rfl) ?_
   refine zA (zAG (m:=5) (s:=1) (i:=i2 - 1) (k:=1) (o:=5) Tryz.underlying49 Tryz.sizeOf22 rfl rfl b14)<|zA (zCw (k:=1) (o:=(5+(i2 - 1).toNat*1)) (cs:=([li x2.node,li x2.kind,li x2.start,li x2.count,li x2.min]++((List.set (cM 5 3 i1 l2) (i2 - 1).toNat (AV.hd 2))++[]))) (hd:=([li x2.node]++[li x2.kind]++[li x2.start]++[li x2.count]++[li x2.min]++[])) (tl:=([])) (s:=(cM 5 3 i1 l2)) (i:=i2 - 1) (j:=2) Tryz.isAgg22 rfl rfl rfl (congrArg (fun q=>5+q) (Nat.mul_one _)) (zF9 b14))<|zA (zB rfl)<|zA (zB rfl)<|zF6 (a:=(li ((at_ (x2.free.getD i1.toNat []) (0:Int))+((1:Int)*2 ^ (i2 - 1).toNat)))) zGA Tryz.underlying22 rfl rfl rfl rfl<|zM h fun b16 h => ?_
   refine zNH (k:=2) (j:=3) (l:=l2.getD (i2 - 1).toNat []) (i:=x3.1) (q:=(at_ (x2.free.getD i1.toNat []) (0:Int))+((1:Int)*2 ^ (i2 - 1).toNat)) (fun a b c d e=>zQl a b c d e) Tryz.func119 rfl (by kernel_rfl) rfl rfl rfl rfl rfl rfl b16<|zA (zK Tryz.underlying51 rfl rfl Tryz.sizeOf49 rfl)<|zA (zAG (m:=5) (s:=1) (i:=i2 - 1) (k:=1) (o:=5) Tryz.underlying49 Tryz.sizeOf22 rfl rfl b14)<|zd (H':=[.box 51 (zO ⟨0,0,0,0,0,(List.replicate 5 ([]:List Int))⟩),.box 51 ([li x2.node,li x2.kind,li x2.start,li x2.count,li x2.min]++((List.set (cM 5 3 i1 l2) (i2 - 1).toNat (AV.hd 4))++[])),.dead,.vec 3 1 (List.map cI [(at_ (x2.free.getD i1.toNat []) (0:Int))+((1:Int)*2 ^ (i2 - 1).toNat)]),.vec 3 1 (List.map cI (zQU (l2.getD (i2 - 1).toNat []) x3.1 ((at_ (x2.free.getD i1.toNat []) (0:Int))+((1:Int)*2 ^ (i2 - 1).toNat))))]) (zFo (k:=1) (o:=(5+(i2 - 1).toNat*1)) (cs:=([li x2.node,li x2.kind,li x2.start,li x2.count,li x2.min]++((List.set (cM 5 3 i1 l2) (i2 - 1).toNat (AV.hd 2))++[]))) (hd:=([li x2.node]++[li x2.kind]++[li x2.start]++[li x2.count]++[li x2.min]++[])) (tl:=([])) (s:=(cM 5 3 i1 l2)) (i:=i2 - 1) (a:=(AV.hd 4)) Tryz.sizeOf22 rfl rfl rfl (congrArg (fun q=>5+q) (Nat.mul_one _)) (zF9 b14) rfl rfl)<|zF ?_
   exact ⟨((i2 - 1),(zDc 5 [] l2 (i2 - 1).toNat (zQU (l2.getD (i2 - 1).toNat []) x3.1 ((at_ (x2.free.getD i1.toNat []) (0:Int))+((1:Int)*2 ^ (i2 - 1).toNat))))),Rep.trans (zHv (j:=4) (l':=zQU (l2.getD (i2 - 1).toNat []) x3.1 ((at_ (x2.free.getD i1.toNat []) (0:Int))+((1:Int)*2 ^ (i2 - 1).toNat))) (k:=1) (cs:=([li x2.node,li x2.kind,li x2.start,li x2.count,li x2.min]++((List.set (cM 5 3 i1 l2) (i2 - 1).toNat (AV.hd 4))++[]))) (hd:=([li x2.node]++[li x2.kind]++[li x2.start]++[li x2.count]++[li x2.min]++[])) (tl:=([])) (N:=5) (T:=3) (K:=i1) (l:=l2) (i:=i2 - 1) rfl rfl b14 b15 rfl rfl) (zBV (n:=90) (m:=0) [0,1] (l:=[(1,(li D)),(4,(AV.ptr 0 0)),(8,(li (i2 - 1))),(9,(AV.ptr 1 0)),(10,(li (at_ (x2.free.getD i1.toNat []) (0:Int))))]) ⟨⟨Sub.refl _,by kernel_rfl⟩,⟨Sub.refl _,by kernel_rfl⟩,⟨Sub.refl _,by kernel_rfl⟩,⟨Sub.refl _,by kernel_rfl⟩,⟨Sub.refl _,by kernel_rfl⟩,trivial⟩ rfl rfl ⟨⟨rfl,by kernel_rfl⟩,⟨rfl,zS3 (hd:=([li x2.node]++[li x2.kind]++[li x2.start]++[li x2.count]++[li x2.min]++[])) (tl:=([])) (N:=5) (T:=3) (K:=i1) (l:=zDc 5 [] l2 (i2 - 1).toNat (zQU (l2.getD (i2 - 1).toNat []) x3.1 ((at_ (x2.free.getD i1.toNat []) (0:Int))+((1:Int)*2 ^ (i2 - 1).toNat)))) (by kernel_rfl) (by kernel_rfl) rfl⟩,trivial⟩),h⟩
  refine zz ?_
  exact ⟨l2,zBV (n:=90) (m:=0) [0,1] (l:=[(4,(AV.ptr 0 0)),(9,(AV.ptr 1 0)),(10,(li (at_ (x2.free.getD i1.toNat []) (0:Int))))]) ⟨⟨Sub.refl _,by kernel_rfl⟩,⟨Sub.refl _,by kernel_rfl⟩,⟨Sub.refl _,by kernel_rfl⟩,trivial⟩ rfl rfl ⟨⟨rfl,by kernel_rfl⟩,⟨rfl,zS3 (hd:=([li x2.node]++[li x2.kind]++[li x2.start]++[li x2.count]++[li x2.min]++[])) (tl:=([])) (N:=5) (T:=3) (K:=i1) (l:=l2) (by kernel_rfl) (by kernel_rfl) rfl⟩,trivial⟩,h⟩
 clear h
 intro l1 h
 unfold zJ3 at h
 refine zH<|zC<|z5 (zKT (k:=1) (cs:=([li x2.node,li x2.kind,li x2.start,li x2.count,li x2.min]++((cM 5 3 i1 l1)++[]))) (hd:=([li x2.node]++[li x2.kind]++[li x2.start]++[li x2.count]++[li x2.min]++[])) (tl:=([])) (N:=5) (T:=3) (K:=i1) (l:=l1) rfl rfl)<|zA (zS (k:=1) (o:=0) (m:=10) Tryz.isAgg51 Tryz.sizeOf51 rfl rfl rfl rfl rfl)<|zA (zB rfl)<|zd (H':=[.box 51 (zO (⟨x2.node,x2.kind,x2.start,x2.count,x2.min,l1⟩:zi)),.box 51 (zO ⟨x2.node,x2.kind,x2.start,x2.count,x2.min,l1⟩)]) (zT (k:=0) (o:=0) (cs:=(zO ⟨0,0,0,0,0,(List.replicate 5 ([]:List Int))⟩)) (la:=(zO (⟨x2.node,x2.kind,x2.start,x2.count,x2.min,l1⟩:zi))) Tryz.sizeOf51 rfl rfl rfl rfl) ?_
 refine zA (zD rfl)<|zA (zD rfl)<|zF<|zb ?_
 cases h
 exact zC7 (zDV Tryz.isAgg51 Tryz.sizeOf51 rfl rfl rfl rfl) (zAI rfl rfl) (zAI rfl rfl) rfl
theorem zHM {J:zL} {M:Int} {r:Int} (h:zEg J M=some r):PFn Tryz.prog 111 [(AV.agg (zI J)),li M] (li r):=by
 refine zm Tryz.func111 rfl Tryz.ntmps111 Tryz.results111 rfl ?_
 unfold zEg at h
 refine zH<|zC<|zX (H':=[.box 55 (zI J)]) (zu (t:=55) rfl)<|zA (zD rfl)<|zF<|zH ?_
 refine zH<|zC<|zA (zS (k:=0) (o:=0) (m:=1) Tryz.isAgg55 Tryz.sizeOf55 rfl rfl rfl rfl rfl)<|zA (zK Tryz.underlying55 rfl rfl Tryz.sizeOf53 rfl)<|zA (zN Tryz.isAgg53 rfl rfl rfl rfl)<|zA (zY Tryz.underlying53 rfl) ?_
 refine zP h fun x1 w1 h=>ze Tryz.func43 rfl (by kernel_rfl) (.fn 43) rfl rfl (zK8 w1) rfl<|zA (zD rfl)<|zF<|zH<|zC ?_
 refine zA (zB rfl)<|zA (z7 rfl rfl)<|zF ?_
 refine zW h rfl (fun b1 h => ?_) (fun b1 h => ?_)
 ·refine zH<|zC<|zA (zB rfl)<|zA (zD rfl)<|zF<|zb ?_
  cases h
  exact zv (zAI rfl rfl)
 refine zQ<|zH<|zH<|zC<|zA (zB rfl)<|zA (zh rfl rfl) ?_
 refine zA (zB rfl)<|zZ rfl rfl (fun c1=>zq.step (zB rfl))<|zZ rfl rfl (fun c2=>zq.step (zK Tryz.underlying55 rfl rfl Tryz.sizeOf53 rfl))<|zZ rfl rfl (fun c3=>zq.step (zN Tryz.isAgg53 (z8 rfl c3) rfl rfl rfl))<|zZ rfl rfl (fun c4=>zq.step (zY Tryz.underlying53 (z8 rfl c4)))<|zZ rfl rfl (fun c5=>zq.step (zAu (z8 rfl c5) (z8 rfl c5))) ?_
 refine zA (zj rfl rfl)<|zF ?_
 refine zW h rfl (fun b2 h => ?_) (fun b2 h => ?_)
 ·refine zH<|zC<|zA (zD rfl)<|zF<|zb ?_
  cases h
  exact zv (zAI rfl rfl)
 refine zQ<|zH<|zC<|zA (zD rfl)<|zF<|zb ?_
 cases h
 exact zv (zAI rfl rfl)
theorem zEW {J:zL} {M:Int} {uF:List Int} {r:zL} (h:zBn J M uF=some r):PFn Tryz.prog 112 [(AV.agg (zI J)),li M,ls cI uF] (AV.agg (zI r)):=by
 refine zm Tryz.func112 rfl Tryz.ntmps112 Tryz.results112 rfl ?_
 unfold zBn at h
 refine zH<|zC<|zX (H':=[.box 55 (zI J)]) (zu (t:=55) rfl)<|zX (H':=[.box 55 (zI J),.box 55 [(ls (cS cI) ([]:List (List Int)))]]) zv1<|zF<|zH ?_
 refine zC<|zA (zK Tryz.underlying55 rfl rfl Tryz.sizeOf53 rfl)<|zA (zN Tryz.isAgg53 rfl rfl rfl rfl)<|zA (zY Tryz.underlying53 rfl)<|zM h fun b1 h=>zEU (f:=(cS cI)) (a:=(J.lists.length:Int)) (c:=(J.lists.length:Int)) (d0:=([]:List Int)) zOv ⟨zAx.nils,trivial⟩ rfl Tryz.underlying53 rfl rfl b1 ?_
 refine zA (zCT (pl:=[(0,1)]) (zs:=[.slice none 0 0]) (zc:=[.sl false []]) (res:=[AV.hd 2]) (fun _=>by kernel_rfl) rfl (⟨zAx.nils,trivial⟩) ⟨AV.hd 2,0,1,rfl,rfl,rfl,rfl,rfl,(by exact zLu.refl _)⟩)<|zX (H':=[.box 55 (zI J),.box 55 [(ls (cS cI) ([]:List (List Int)))],.vec 22 1 (List.map (cS cI) (List.replicate (J.lists.length:Int).toNat ([]:List Int))),.box 55 [(ls (cS cI) ([]:List (List Int)))]]) zv1<|zd (H':=[.box 55 (zI J),.box 55 [(ls (cS cI) ([]:List (List Int)))],.vec 22 1 (List.map (cS cI) (List.replicate (J.lists.length:Int).toNat ([]:List Int))),.box 55 [AV.hd 2]]) (zT (k:=3) (o:=0) (cs:=[(ls (cS cI) ([]:List (List Int)))]) (la:=[AV.hd 2]) Tryz.sizeOf55 rfl rfl rfl rfl)<|zF ?_
 refine zx (r:=r) (fun (l1:List (List Int))=>mkE [(6,(AV.ptr 0 0)),(7,(AV.ptr 1 0))]) (fun l1=>[.box 55 [(ls (cS cI) ([]:List (List Int)))],.box 55 [AV.osl 22 1 (List.map (cS cI) l1)]]) (fun l1=>zF0 l1) ?_ ?_
 ·
  refine zH<|zC<|zA (zK Tryz.underlying55 rfl rfl Tryz.sizeOf53 rfl)<|zA (zN Tryz.isAgg53 rfl rfl rfl rfl)<|zA (zY Tryz.underlying53 rfl)<|zA (zB rfl) ?_
  refine zF<|zR<|zt (σ:=Int×(List (List Int))) (fun (i1,l2)=>mkE [(1,(li M)),(2,(ls cI uF)),(3,(AV.ptr 0 0)),(6,(AV.ptr 1 0)),(7,(AV.ptr 2 0)),(17,(li (J.lists.length:Int))),(18,(li i1))]) (fun (i1,l2)=>[.box 55 (zI J),.box 55 [(ls (cS cI) ([]:List (List Int)))],.box 55 [AV.osl 22 1 (List.map (cS cI) l2)]]) (fun n0 (i1,l2)=>zCY J M uF n0 i1 l2) (0,(List.replicate (J.lists.length:Int).toNat ([]:List Int))) h (fun _=>rfl) (Rep.trans (z9 (k:=3) (j:=2) (o:=0) rfl rfl rfl rfl) (zAD [0,1,3] (l:=[(1,(li M)),(2,(ls cI uF)),(3,(AV.ptr 0 0)),(6,(AV.ptr 1 0)),(7,(AV.ptr 2 0)),(17,(li (J.lists.length:Int))),(18,(li 0))]) rfl rfl (by kernel_rfl))) ?_
  clear h
  rintro n0 ⟨i1,l2⟩ h
  replace h:zCe J M uF (zCY J M uF n0) i1 l2=some r:=h
  unfold zCe at h
  refine zH<|zC<|zA (zh rfl rfl)<|zF<|zH ?_
  refine zW h rfl (fun b2 h => ?_) (fun b2 h => ?_)
  ·refine zQ<|zH<|zR<|zH<|zC<|zA (zB rfl) ?_
   refine zA (zD rfl)<|zF<|zH<|zC<|zA (zK Tryz.underlying55 rfl rfl Tryz.sizeOf53 rfl)<|zA (zN Tryz.isAgg53 rfl rfl rfl rfl) ?_
   refine zA (zB rfl)<|zM h fun b3 h=>zA (zV Tryz.underlying53 Tryz.sizeOf22 (fun _=>rfl) rfl rfl b3)<|zA (zU (o:=0) Tryz.isAgg22 rfl rfl)<|zA (zD rfl)<|zF ?_
   refine zx (r:=r) (fun (d1:List Int)=>mkE [(1,(li M)),(2,(ls cI uF)),(3,(AV.ptr 0 0)),(6,(AV.ptr 1 0)),(7,(AV.ptr 2 0)),(8,(li i1)),(9,(ls cI d1)),(17,(li (J.lists.length:Int))),(18,(li i1))]) (fun d1=>[.box 55 (zI J),.box 55 [(ls (cS cI) ([]:List (List Int)))],.box 55 [AV.osl 22 1 (List.map (cS cI) l2)]]) (fun d1=>zDG (zCY J M uF n0) i1 l2 d1) ?_ ?_
   ·
    refine zH<|zC<|zA (zB rfl)<|zA (zB rfl)<|zA (zA8 rfl rfl)<|zF ?_
    refine zW h rfl (fun b7 h => ?_) (fun b7 h => ?_)
    ·refine zC<|zA (zB rfl)<|zA (zD rfl)<|zF ?_
     exact ⟨uF,zAD [0,1,2] rfl rfl (by kernel_rfl),h⟩
    refine zQ ?_
    exact ⟨at_ J.lists i1,zAD [0,1,2] rfl rfl (by kernel_rfl),h⟩
   clear h
   intro d1 h
   unfold zDG at h
   refine zH<|zAS (zAZ (k:=2) (o:=0) (t':=22) (sz:=1) (rows:=List.map (cS cI) l2) rfl rfl)<|zM h fun b4 h=>zM h fun b5 h => ?_
   refine zAm (n:=46) (m:=0) [.head 0 1,.head 0 1,.head 0 1,.head 0 0,.head 0 0,.tail 0,.head 1 1,.tail 1] [5,7] [AV.ptr 2 0,AV.hd 3,li i1,ls cI d1,(li (d1.length:Int)),AV.hd 4,(AV.ptr 3 (i1.toNat*1)),.any] [[.box 55 (zI J),.box 55 [(ls (cS cI) ([]:List (List Int)))],.box 55 [AV.hd 3],.vec 22 1 (List.map (cS cI) l2)],[.box 55 (zI J),.box 55 [(ls (cS cI) ([]:List (List Int)))],.box 55 [AV.hd 3],.vec 22 1 (List.map (cS cI) l2),.vec 3 1 (List.map cI (List.replicate (d1.length:Int).toNat 0))],[.box 55 (zI J),.box 55 [(ls (cS cI) ([]:List (List Int)))],.box 55 [AV.hd 3],.vopen 22 1 (List.map (cS cI) l2) i1.toNat [.hd 4],.vec 3 1 (List.map cI (List.replicate (d1.length:Int).toNat 0))]] (by kernel_rfl) (by kernel_rfl) ⟨⟨D1 fun e s p=>zK (k:=2) (o:=0) (off:=0) Tryz.underlying55 rfl rfl Tryz.sizeOf53 (s 7 rfl),D1 fun e s p=>zK (k:=2) (o:=0) (off:=0) Tryz.underlying55 rfl rfl Tryz.sizeOf53 (s 7 rfl)⟩,⟨D1 fun e s p=>zN (k:=2) (o:=0) Tryz.isAgg53 p.1 rfl rfl rfl,D1 fun e s p=>zN (k:=2) (o:=0) Tryz.isAgg53 p.1 rfl rfl rfl⟩,⟨D1 fun e s p=>zB (s 8 rfl),D1 fun e s p=>zB (s 8 rfl)⟩,D1 fun e s p=>zB (s 9 rfl),D1 fun e s p=>zY (f:=cI) (l:=d1) Tryz.underlying22 p.1,?_,D1 fun e s p=>zy (f:=(cS cI)) (l:=l2) (i:=i1) Tryz.underlying53 Tryz.sizeOf22 p.2.2.2.1 rfl p.2.2.2.2.1 b5,?_,trivial⟩ ?_
   ·
    intro e9 s9 p9
    refine zEU (f:=cI) (a:=(d1.length:Int)) (c:=(d1.length:Int)) (d0:=0) zGA ⟨zAx.refl _,trivial⟩ rfl Tryz.underlying22 p9.2.1 p9.2.1 b4 ?_
    exact zF ⟨fun _=>rfl,rfl⟩
   ·
    intro e11 s11 p11
    refine zd (H':=[.box 55 (zI J),.box 55 [(ls (cS cI) ([]:List (List Int)))],.box 55 [AV.hd 3],.vopen 22 1 (List.map (cS cI) l2) i1.toNat [.hd 4],.vec 3 1 (List.map cI (List.replicate (d1.length:Int).toNat 0))]) (zMF (k:=3) (j:=4) (i:=i1.toNat) Tryz.sizeOf22 (by exact p11.1) rfl rfl (by rw [List.length_map]; exact (zBK b5).2) (by exact p11.2.2.2.2.2.2.2.1) rfl) ?_
    exact zF ⟨fun _=>rfl,rfl⟩
   intro e12 s12 hq1
   refine zAS (zBI (l:=[(1,(li M)),(2,(ls cI uF)),(3,(AV.ptr 0 0)),(6,(AV.ptr 1 0)),(7,(AV.ptr 2 0)),(8,(li i1)),(9,(ls cI d1)),(17,(li (J.lists.length:Int))),(18,(li i1))]) ⟨s12 1 rfl,s12 2 rfl,s12 3 rfl,s12 6 rfl,s12 7 rfl,s12 8 rfl,s12 9 rfl,s12 17 rfl,s12 18 rfl,trivial⟩)<|zC<|zA (zK (k:=2) (o:=0) (off:=0) Tryz.underlying55 rfl rfl Tryz.sizeOf53 rfl)<|zA (zN (k:=2) (o:=0) (a:=(AV.hd 3)) Tryz.isAgg53 rfl rfl rfl rfl)<|zA (zB (av:=(li i1)) rfl)<|zA (zMQ (row:=[]) (i:=i1) Tryz.underlying53 Tryz.sizeOf22 rfl rfl rfl (by rw [List.length_map]; exact b5)) ?_
   refine zA (zIv (k:=3) (i:=i1.toNat) (a := .hd 4) Tryz.isAgg22 rfl rfl rfl rfl)<|zA (zB rfl)<|zX (H':=[.box 55 (zI J),.box 55 [(ls (cS cI) ([]:List (List Int)))],.box 55 [AV.hd 3],.vopen 22 1 (List.map (cS cI) l2) i1.toNat [.hd 4],.vec 3 1 (List.map cI (zC4 (List.replicate (d1.length:Int).toNat 0) d1))]) (zLk (f:=cI) (k:=4) (l:=List.replicate (d1.length:Int).toNat 0) (l2:=d1) Tryz.underlying22 Tryz.sizeOf3 (fun _=>rfl) rfl rfl rfl)<|zF<|zC<|zM h fun b6 h => ?_
   refine zA (zg rfl rfl b6)<|zA (zB rfl)<|zF ?_
   exact ⟨((i1+1),(l2.set i1.toNat (zC4 (List.replicate (d1.length:Int).toNat 0) d1))),Rep.trans (zQb (k:=3) (j:=4) (f:=cI) (l:=l2) (l':=zC4 (List.replicate (d1.length:Int).toNat 0) d1) (fun _=>rfl) rfl rfl rfl) (Rep.trans (z9 (k:=2) (j:=3) (o:=0) rfl rfl rfl rfl) (zAD [0,1,2] (l:=[(1,(li M)),(2,(ls cI uF)),(3,(AV.ptr 0 0)),(6,(AV.ptr 1 0)),(7,(AV.ptr 2 0)),(17,(li (J.lists.length:Int))),(18,(li (i1+1)))]) rfl rfl (by kernel_rfl))),h⟩
  refine zz ?_
  exact ⟨l2,zAD [1,2] rfl rfl (by kernel_rfl),h⟩
 clear h
 intro l1 h
 unfold zF0 at h
 refine zH<|zC<|z5 (zA4 (k:=1) (o:=0) (rows':=List.map (cS cI) l1) rfl rfl (zAM (fun _=>rfl)))<|zA (zS (k:=1) (o:=0) (m:=1) Tryz.isAgg55 Tryz.sizeOf55 rfl rfl rfl rfl rfl)<|zd (H':=[.box 55 (zI (⟨l1⟩:zL)),.box 55 [(ls (cS cI) l1)]]) (zT (k:=0) (o:=0) (cs:=[(ls (cS cI) ([]:List (List Int)))]) (la:=(zI (⟨l1⟩:zL))) Tryz.sizeOf55 rfl rfl rfl rfl)<|zF ?_
 refine zb ?_
 cases h
 exact zv (zDV Tryz.isAgg55 Tryz.sizeOf55 rfl rfl rfl rfl)
theorem zNT {A:zL} {D:Int} {G:List Int} {r:zL×Int} (h:zIt A D G=some r):PFn Tryz.prog 109 [(AV.agg (zI A)),li D,ls cI G] (AV.tup [(AV.agg (zI r.1)),li r.2]):=by
 refine zm Tryz.func109 rfl Tryz.ntmps109 Tryz.results109 rfl ?_
 unfold zIt at h
 refine zH<|zC<|zX (H':=[.box 55 (zI A)]) (zu (t:=55) rfl)<|zX (H':=[.box 55 (zI A),.box 55 [(ls (cS cI) ([]:List (List Int)))]]) zv1<|zA (zD rfl)<|zF ?_
 refine zH<|zH<|zC<|zA (zS (k:=0) (o:=0) (m:=1) Tryz.isAgg55 Tryz.sizeOf55 rfl rfl rfl rfl rfl)<|zA (zB rfl)<|zP h fun x1 w1 h => ?_
 refine ze Tryz.func111 rfl (by kernel_rfl) (.fn 111) rfl rfl (zHM w1) rfl<|zA (zD rfl)<|zF<|zH<|zC<|zA (zB rfl) ?_
 refine zA (z7 rfl rfl)<|zF ?_
 refine zW h rfl (fun b1 h => ?_) (fun b1 h => ?_)
 ·refine zH<|zC<|zA zv2<|zA (zB rfl)<|zd (H':=[.box 55 (zI A),.box 55 (zI (⟨([]:List (List Int))⟩:zL))]) (zT (k:=1) (o:=0) (cs:=[(ls (cS cI) ([]:List (List Int)))]) (la:=(zI (⟨([]:List (List Int))⟩:zL))) Tryz.sizeOf55 rfl rfl rfl rfl)<|zA (zD rfl) ?_
  refine zF<|zb ?_
  cases h
  exact zA5 (zDV Tryz.isAgg55 Tryz.sizeOf55 rfl rfl rfl rfl) (zAI rfl rfl) rfl
 refine zQ<|zH<|zC<|zA (zS (k:=0) (o:=0) (m:=1) Tryz.isAgg55 Tryz.sizeOf55 rfl rfl rfl rfl rfl)<|zP h fun x2 w2 h=>zN0 (es:=mI Value.bool x2) (la:=[(AV.agg (zI A))]) (la':=[(AV.agg (zI A))]) (S:=[]) Tryz.func89 rfl (by kernel_rfl) (.fn 89) rfl ⟨zAl.nr rfl,trivial⟩ (zIa w2) ?_
 refine zA (zD rfl)<|zF ?_
 refine zx (r:=r) (fun (_:Unit)=>mkE [(1,(li D)),(2,(ls cI G)),(3,(AV.ptr 0 0)),(6,(AV.ptr 1 0))]) (fun _=>[.box 55 (zI A),.box 55 [(ls (cS cI) ([]:List (List Int)))]]) (fun _=>zIb A D G) ?_ ?_
 ·
  refine zH<|zC<|zA (zB rfl)<|zA (zY Tryz.underlying22 rfl)<|zA (zB rfl)<|zF ?_
  refine zR<|zt (σ:=Int×(List (Int×Bool))) (fun (i2,l3)=>mkE [(1,(li D)),(2,(ls cI G)),(3,(AV.ptr 0 0)),(6,(AV.ptr 1 0)),(9,(AV.hd 2)),(23,(ls cI G)),(24,(li (G.length:Int))),(25,(li i2))]) (fun (i2,l3)=>[.box 55 (zI A),.box 55 [(ls (cS cI) ([]:List (List Int)))],.map (mI Value.bool l3)]) (fun n1 (i2,l3)=>zGd A D G n1 i2 l3) (0,x2) h (fun _=>rfl) (zAD [0,1,2] rfl rfl (by kernel_rfl)) ?_
  clear h
  rintro n1 ⟨i2,l3⟩ h
  replace h:zIV A D G (zGd A D G n1) i2 l3=some r:=h
  unfold zIV at h
  refine zH<|zC<|zA (zh rfl rfl)<|zF<|zH ?_
  refine zW h rfl (fun b10 h => ?_) (fun b10 h => ?_)
  ·refine zQ<|zH<|zR<|zH<|zC<|zM h fun b11 h => ?_
   refine zA (zV Tryz.underlying22 Tryz.sizeOf3 (fun _=>rfl) rfl rfl b11)<|zA (zU (o:=0) Tryz.isAgg3 rfl rfl)<|zA (zD rfl)<|zF<|zH<|zH ?_
   refine zC<|zA (zB rfl)<|zP h fun x5 w5 h=>ze Tryz.func88 rfl (by kernel_rfl) (.fn 88) rfl rfl (zHn w5) rfl<|zA (zAv (t:=x5) rfl)<|zF ?_
   refine zW h rfl (fun b12 h => ?_) (fun b12 h => ?_)
   ·refine zH<|zC<|zA zv2<|zd (H':=[.box 55 (zI A),.box 55 (zI (⟨([]:List (List Int))⟩:zL)),.map (mI Value.bool l3)]) (zT (k:=1) (o:=0) (cs:=[(ls (cS cI) ([]:List (List Int)))]) (la:=(zI (⟨([]:List (List Int))⟩:zL))) Tryz.sizeOf55 rfl rfl rfl rfl)<|zA (zD rfl)<|zF ?_
    refine zb ?_
    cases h
    exact zA5 (zDV Tryz.isAgg55 Tryz.sizeOf55 rfl rfl rfl rfl) (zAI rfl rfl) rfl
   refine zQ<|zH<|zH<|zC<|zA (zB rfl)<|zA (zB rfl) ?_
   refine zA (zON (k:=2) (g:=Value.bool) (q:=at_ G i2) (l:=l3) (dflt:=false) (a:=(AV.lit (.bool (zNP false l3 (at_ G i2))))) Tryz.underlying58 Tryz.underlying3 Tryz.zeroValue4 rfl rfl rfl rfl)<|zF ?_
   refine zW h rfl (fun b13 h => ?_) (fun b13 h => ?_)
   ·refine zH<|zC<|zA zv2<|zd (H':=[.box 55 (zI A),.box 55 (zI (⟨([]:List (List Int))⟩:zL)),.map (mI Value.bool l3)]) (zT (k:=1) (o:=0) (cs:=[(ls (cS cI) ([]:List (List Int)))]) (la:=(zI (⟨([]:List (List Int))⟩:zL))) Tryz.sizeOf55 rfl rfl rfl rfl)<|zA (zD rfl)<|zF ?_
    refine zb ?_
    cases h
    exact zA5 (zDV Tryz.isAgg55 Tryz.sizeOf55 rfl rfl rfl rfl) (zAI rfl rfl) rfl
   refine zQ<|zC<|zA (zB rfl)<|zA (zB rfl)<|zd (H':=[.box 55 (zI A),.box 55 [(ls (cS cI) ([]:List (List Int)))],.map (mI Value.bool (zKx l3 (at_ G i2) true))]) (zNp (k:=2) (g:=Value.bool) (q:=at_ G i2) (l:=l3) (v:=true) Tryz.underlying58 Tryz.underlying3 rfl rfl rfl rfl)<|zF ?_
   refine zC<|zM h fun b14 h=>zA (zg rfl rfl b14)<|zA (zB rfl)<|zF ?_
   exact ⟨((i2+1),(zKx l3 (at_ G i2) true)),zAD [0,1,2] rfl rfl (by kernel_rfl),h⟩
  refine zz ?_
  exact ⟨(),zAD [0,1] rfl rfl (by kernel_rfl),h⟩
 clear h
 intro _ h
 unfold zIb at h
 refine zH<|zC<|zA (zK Tryz.underlying55 rfl rfl Tryz.sizeOf53 rfl)<|zA (zN Tryz.isAgg53 rfl rfl rfl rfl)<|zA (zB rfl)<|zM h fun b2 h => ?_
 refine zA (zV Tryz.underlying53 Tryz.sizeOf22 (fun _=>rfl) rfl rfl b2)<|zA (zU (o:=0) Tryz.isAgg22 rfl rfl)<|zA (zY Tryz.underlying22 rfl)<|zM h fun b3 h=>zEU (f:=cI) (a:=((at_ A.lists D).length:Int)) (c:=((at_ A.lists D).length:Int)) (d0:=0) zGA ⟨zAx.refl _,trivial⟩ rfl Tryz.underlying22 rfl rfl b3<|zA (zD rfl) ?_
 refine zF<|zH<|zC<|zA (zB rfl)<|zA (zK Tryz.underlying55 rfl rfl Tryz.sizeOf53 rfl)<|zA (zN Tryz.isAgg53 rfl rfl rfl rfl) ?_
 refine zA (zB rfl)<|zA (zV Tryz.underlying53 Tryz.sizeOf22 (fun _=>rfl) rfl rfl b2)<|zA (zU (o:=0) Tryz.isAgg22 rfl rfl)<|zX (H':=[.box 55 (zI A),.box 55 [(ls (cS cI) ([]:List (List Int)))],.vec 3 1 (List.map cI (zC4 (List.replicate ((at_ A.lists D).length:Int).toNat 0) (at_ A.lists D)))]) (zLk (f:=cI) (k:=2) (l:=List.replicate ((at_ A.lists D).length:Int).toNat 0) (l2:=at_ A.lists D) Tryz.underlying22 Tryz.sizeOf3 (fun _=>rfl) rfl rfl rfl)<|zF ?_
 refine zx (r:=r) (fun (l1:List Int)=>mkE [(1,(li D)),(3,(AV.ptr 0 0)),(6,(AV.ptr 1 0)),(12,(AV.hd 2))]) (fun l1=>[.box 55 (zI A),.box 55 [(ls (cS cI) ([]:List (List Int)))],.vec 3 1 (List.map cI l1)]) (fun l1=>zIc A D l1) ?_ ?_
 ·
  refine zH<|zC<|zA (zB rfl)<|zA (zY Tryz.underlying22 rfl)<|zA (zB rfl)<|zF ?_
  refine zR<|zt (σ:=Int×(List Int)) (fun (i1,l2)=>mkE [(1,(li D)),(2,(ls cI G)),(3,(AV.ptr 0 0)),(6,(AV.ptr 1 0)),(12,(AV.hd 2)),(55,(li (G.length:Int))),(56,(li i1))]) (fun (i1,l2)=>[.box 55 (zI A),.box 55 [(ls (cS cI) ([]:List (List Int)))],.vec 3 1 (List.map cI l2)]) (fun n0 (i1,l2)=>zGl A D G n0 i1 l2) (0,(zC4 (List.replicate ((at_ A.lists D).length:Int).toNat 0) (at_ A.lists D))) h (fun _=>rfl) (zAD [0,1,2] rfl rfl (by kernel_rfl)) ?_
  clear h
  rintro n0 ⟨i1,l2⟩ h
  replace h:zId A D G (zGl A D G n0) i1 l2=some r:=h
  unfold zId at h
  refine zH<|zC<|zA (zh rfl rfl)<|zF<|zH ?_
  refine zW h rfl (fun b4 h => ?_) (fun b4 h => ?_)
  ·refine zQ<|zH<|zR<|zH<|zC<|zA (zB rfl) ?_
   refine zA (zD rfl)<|zF<|zC<|zA (zB rfl)<|zA (zB rfl)<|zA (zB rfl) ?_
   refine zA (zY Tryz.underlying22 rfl)<|zM h fun b5 h=>zA (zBa rfl rfl b5)<|zA (zB rfl)<|zM h fun b6 h=>zA (zBa rfl rfl b6) ?_
   refine zM h fun b7 h=>zA (zV Tryz.underlying22 Tryz.sizeOf3 (fun _=>rfl) rfl rfl b7)<|zA (zU (o:=0) Tryz.isAgg3 rfl rfl)<|zF6 (a:=(li (at_ G (((G.length:Int) - 1) - i1)))) zGA Tryz.underlying22 rfl rfl rfl rfl<|zM h fun b8 h=>zDE (f:=cI) (k:=2) (j:=3) (l:=l2) (l':=[at_ G (((G.length:Int) - 1) - i1)]) zGA (fun _=>rfl) Tryz.underlying22 rfl rfl rfl rfl b8 ?_
   refine zA (zD rfl)<|zF<|zC<|zM h fun b9 h=>zA (zg rfl rfl b9)<|zA (zB rfl) ?_
   refine zF ?_
   exact ⟨((i1+1),(l2++[at_ G (((G.length:Int) - 1) - i1)])),zAD [0,1,4] rfl rfl (by kernel_rfl),h⟩
  refine zz ?_
  exact ⟨l2,zAD [0,1,2] rfl rfl (by kernel_rfl),h⟩
 clear h
 intro l1 h
 unfold zIc at h
 refine zH<|zC<|zA (zS (k:=0) (o:=0) (m:=1) Tryz.isAgg55 Tryz.sizeOf55 rfl rfl rfl rfl rfl)<|zA (zB rfl)<|zA (zB rfl)<|zP h fun x3 w3 h => ?_
 refine z5 (zES (j:=2) (ds:=[12,73]) (rows':=List.map cI l1) rfl (zAM (fun _=>rfl)) ⟨rfl,rfl,trivial⟩)<|zP h fun x4 w4 h=>ze Tryz.func112 rfl (by kernel_rfl) (.fn 112) rfl rfl (zEW w4) rfl<|zd (H':=[.box 55 (zI A),.box 55 (zI x4),.dead]) (zT (k:=1) (o:=0) (cs:=[(ls (cS cI) ([]:List (List Int)))]) (la:=(zI x4)) Tryz.sizeOf55 rfl rfl rfl rfl)<|zA (zD rfl)<|zF ?_
 refine zb ?_
 cases h
 exact zA5 (zDV Tryz.isAgg55 Tryz.sizeOf55 rfl rfl rfl rfl) (zAI rfl rfl) rfl
theorem zJR {A:zJ} {D:Int} {G:Int} {r:zJ×Bool} (h:zGg A D G=some r):AFn Tryz.prog 55 [AV.ptr 0 0,li D,li G] [.box 26 ([ls cI A.nodes]++([li A.batch]++([li A.high]++([AV.osl 51 10 (List.map zO A.zones)]++([AV.osl 55 1 (List.map zI A.caches)]++[])))))] (AV.lit (.bool r.2)) [.box 26 ([ls cI r.1.nodes]++([li r.1.batch]++([li r.1.high]++([AV.osl 51 10 (List.map zO r.1.zones)]++([AV.osl 55 1 (List.map zI r.1.caches)]++[])))))]:=by
 refine zDe Tryz.func55 rfl Tryz.ntmps55 Tryz.results55 rfl ?_
 unfold zGg at h
 refine zH<|zC<|zA (zD rfl)<|zF<|zH<|zC ?_
 refine zA (zD rfl)<|zF ?_
 refine zx (r:=r) (fun ((l1,l2):(List zi)×(List Int))=>mkE [(0,(AV.ptr 0 0)),(1,(li D)),(2,(li G)),(7,(AV.hd 1))]) (fun (l1,l2)=>[.box 26 [ls cI A.nodes,li A.batch,li A.high,AV.osl 51 10 (List.map zO l1),AV.osl 55 1 (List.map zI A.caches)],.vec 3 1 (List.map cI l2)]) (fun (l1,l2)=>zE7 A D G l1 l2) ?_ ?_
 ·
  refine zH<|zC<|zA (zB rfl)<|zA (zAC rfl)<|zA (zK Tryz.underlying26 rfl rfl Tryz.sizeOf3 rfl)<|zA (zN Tryz.isAgg3 rfl rfl rfl rfl) ?_
  refine zA (zB rfl)<|zF<|zR<|zt (σ:=Int×(List zi)×(List Int)) (fun (i1,l4,l5)=>mkE [(0,(AV.ptr 0 0)),(1,(li D)),(2,(li G)),(7,(AV.hd 1)),(16,(li A.batch)),(17,(li i1))]) (fun (i1,l4,l5)=>[.box 26 [ls cI A.nodes,li A.batch,li A.high,AV.osl 51 10 (List.map zO l4),AV.osl 55 1 (List.map zI A.caches)],.vec 3 1 (List.map cI l5)]) (fun n0 (i1,l4,l5)=>zEp A D G n0 i1 l4 l5) (0,A.zones,[]) h (fun _=>rfl) (Rep.trans (zMI (d:=7) (el:=3) (sz:=1) rfl) (zAD [0,1] (l:=[(0,(AV.ptr 0 0)),(1,(li D)),(2,(li G)),(7,(AV.hd 1)),(16,(li A.batch)),(17,(li 0))]) rfl rfl (by kernel_rfl))) ?_
  clear h
  rintro n0 ⟨i1,l4,l5⟩ h
  replace h:zGn A D G (zEp A D G n0) i1 l4 l5=some r:=h
  unfold zGn at h
  refine zH<|zC<|zA (zh rfl rfl)<|zF<|zH ?_
  refine zW h rfl (fun b3 h => ?_) (fun b3 h => ?_)
  ·refine zQ<|zH<|zR<|zH<|zC<|zA (zB rfl) ?_
   refine zA (zAC rfl)<|zA (zK Tryz.underlying26 rfl rfl Tryz.sizeOf23 rfl)<|z5 (zAZ (k:=0) (o:=3) (t':=51) (sz:=10) (rows:=List.map zO l4) rfl rfl)<|zA (zN Tryz.isAgg23 rfl rfl rfl rfl)<|zA (zB rfl)<|zM h fun b4 h => ?_
   refine zA (zy (f:=zO) (l:=l4) (i:=G) Tryz.underlying23 Tryz.sizeOf51 rfl rfl rfl b4)<|zA (zBO (f:=zO) (l:=l4) (i:=G) (c:=0) (q:=10) (la:=(zO (at_ l4 G))) Tryz.isAgg51 Tryz.sizeOf51 rfl rfl (by first | rfl | omega) b4 rfl rfl rfl)<|zP h fun x3 w3 h=>ze Tryz.func64 rfl (by kernel_rfl) (.fn 64) rfl rfl (zLr w3) rfl<|zA (zB rfl)<|zA (za rfl rfl) ?_
   refine zA (za rfl rfl)<|zA (za rfl rfl)<|zX (H':=[.box 26 [ls cI A.nodes,li A.batch,li A.high,AV.hd 2,AV.osl 55 1 (List.map zI A.caches)],.vec 3 1 (List.map cI l5),.vec 51 10 (List.map zO l4),.box 51 (zO ⟨0,0,0,0,0,(List.replicate 5 ([]:List Int))⟩)]) zv0<|zd (H':=[.box 26 [ls cI A.nodes,li A.batch,li A.high,AV.hd 2,AV.osl 55 1 (List.map zI A.caches)],.vec 3 1 (List.map cI l5),.vec 51 10 (List.map zO l4),.box 51 (zO x3.1)]) (zT (k:=3) (o:=0) (cs:=(zO ⟨0,0,0,0,0,(List.replicate 5 ([]:List Int))⟩)) (la:=(zO x3.1)) Tryz.sizeOf51 rfl rfl rfl rfl)<|zA (zD rfl)<|zA (zD rfl) ?_
   refine zF<|zH<|zH<|zC<|zA (zB rfl)<|zA (z7 rfl rfl) ?_
   refine zF ?_
   refine zW h rfl (fun b5 h => ?_) (fun b5 h => ?_)
   ·refine zz ?_
    exact ⟨(l4,l5),Rep.trans (z9 (k:=0) (j:=2) (o:=3) rfl rfl rfl rfl) (zAD [0,1] (l:=[(0,(AV.ptr 0 0)),(1,(li D)),(2,(li G)),(7,(AV.hd 1))]) rfl rfl (by kernel_rfl)),h⟩
   refine zQ<|zH ?_
   refine zAm (n:=70) (m:=1) [.head 0 0,.head 0 0,.head 0 0,.head 0 0,.head 0 0,.head 0 0,.head 0 0,.tail 0] [7] [AV.ptr 0 0,AV.ptr 0 0,AV.ptr 0 3,AV.hd 2,li G,(AV.agg (zO x3.1)),(AV.ptr 2 (G.toNat*10)),.any] [[.box 26 [ls cI A.nodes,li A.batch,li A.high,AV.hd 2,AV.osl 55 1 (List.map zI A.caches)],.vec 3 1 (List.map cI l5),.vec 51 10 (List.map zO l4),.box 51 (zO x3.1)],[.box 26 [ls cI A.nodes,li A.batch,li A.high,AV.hd 2,AV.osl 55 1 (List.map zI A.caches)],.vec 3 1 (List.map cI l5),.vec 51 10 (List.map zO (l4.set G.toNat x3.1)),.box 51 (zO x3.1)]] (by kernel_rfl) (by kernel_rfl) ⟨D1 fun e s p=>zB (s 0 rfl),D1 fun e s p=>zAC p.1,D1 fun e s p=>zK (k:=0) (o:=0) (off:=3) Tryz.underlying26 rfl rfl Tryz.sizeOf23 p.1,D1 fun e s p=>zN (k:=0) (o:=3) Tryz.isAgg23 p.1 rfl rfl rfl,D1 fun e s p=>zB (s 2 rfl),D1 fun e s p=>zS (k:=3) (o:=0) (m:=10) Tryz.isAgg51 Tryz.sizeOf51 (s 8 rfl) rfl rfl rfl rfl,D1 fun e s p=>zy (f:=zO) (l:=l4) (i:=G) Tryz.underlying23 Tryz.sizeOf51 p.2.2.2.2.2.1 rfl p.2.2.2.2.2.2.1 b4,?_,trivial⟩ ?_
   ·
    intro e17 s17 p16
    refine zd (H':=[.box 26 [ls cI A.nodes,li A.batch,li A.high,AV.hd 2,AV.osl 55 1 (List.map zI A.caches)],.vec 3 1 (List.map cI l5),.vec 51 10 (List.map zO (l4.set G.toNat x3.1)),.box 51 (zO x3.1)]) (zBG (k:=2) (o:=(G.toNat*10)) (f:=zO) (l:=l4) (i:=G) (z:=x3.1) Tryz.sizeOf51 (fun _=>rfl) (by exact p16.1) rfl (by first | rfl | omega) b4 (by exact p16.2.2.2.2.2.2.2.1) rfl) ?_
    exact zF ⟨fun _=>rfl,rfl⟩
   intro e18 s18 hq2
   refine zAS (zBI (l:=[(0,(AV.ptr 0 0)),(1,(li D)),(2,(li G)),(7,(AV.hd 1)),(9,(li x3.2.1)),(16,(li A.batch)),(17,(li i1))]) ⟨s18 0 rfl,s18 1 rfl,s18 2 rfl,s18 7 rfl,s18 9 rfl,s18 16 rfl,s18 17 rfl,trivial⟩)<|zC<|zA (zB (av:=(AV.hd 1)) rfl)<|zA (zB (av:=(li x3.2.1)) rfl)<|zF6 (a:=(li x3.2.1)) zGA Tryz.underlying22 rfl rfl rfl rfl<|zM h fun b6 h => ?_
   refine zDE (f:=cI) (k:=1) (j:=4) (l:=l5) (l':=[x3.2.1]) zGA (fun _=>rfl) Tryz.underlying22 rfl rfl rfl rfl b6<|zA (zD rfl)<|zF<|zC<|zM h fun b7 h=>zA (zg rfl rfl b7) ?_
   refine zA (zB rfl)<|zF ?_
   exact ⟨((i1+1),l4.set G.toNat x3.1,(l5++[x3.2.1])),Rep.trans (z9 (k:=0) (j:=2) (o:=3) rfl rfl rfl rfl) (zAD [0,5] (l:=[(0,(AV.ptr 0 0)),(1,(li D)),(2,(li G)),(7,(AV.hd 1)),(16,(li A.batch)),(17,(li (i1+1)))]) rfl rfl (by kernel_rfl)),h⟩
  refine zz ?_
  exact ⟨(l4,l5),zAD [0,1] rfl rfl (by kernel_rfl),h⟩
 clear h
 rintro ⟨l1,l2⟩ h
 unfold zE7 at h
 refine zx (r:=r) (fun (l3:List zL)=>mkE [(7,(ls cI l2))]) (fun l3=>[.box 26 [ls cI A.nodes,li A.batch,li A.high,AV.osl 51 10 (List.map zO l1),AV.osl 55 1 (List.map zI l3)]]) (fun l3=>zEo A l1 l2 l3) ?_ ?_
 ·
  refine zH<|zC<|zA (zB rfl)<|zA (zAC rfl)<|zA (zK Tryz.underlying26 rfl rfl Tryz.sizeOf24 rfl)<|z5 (zAZ (k:=0) (o:=4) (t':=55) (sz:=1) (rows:=List.map zI A.caches) rfl rfl) ?_
  refine zA (zN Tryz.isAgg24 rfl rfl rfl rfl)<|zA (zB rfl)<|zM h fun b1 h=>zA (zy (f:=zI) (l:=A.caches) (i:=D) Tryz.underlying24 Tryz.sizeOf55 rfl rfl rfl b1)<|zA (zBO (f:=zI) (l:=A.caches) (i:=D) (c:=0) (q:=1) (la:=(zI (at_ A.caches D))) Tryz.isAgg55 Tryz.sizeOf55 rfl rfl (by first | rfl | omega) b1 rfl rfl rfl)<|zA (zB rfl) ?_
  refine zA (zB rfl)<|zP h fun x1 w1 h=>z5 (zES (j:=1) (ds:=[7,54]) (rows':=List.map cI l2) rfl (zAM (fun _=>rfl)) ⟨rfl,rfl,trivial⟩)<|zP h fun x2 w2 h=>ze Tryz.func109 rfl (by kernel_rfl) (.fn 109) rfl rfl (zNT w2) rfl<|zA (zB rfl) ?_
  refine zA (za rfl rfl)<|zA (za rfl rfl)<|zX (H':=[.box 26 [ls cI A.nodes,li A.batch,li A.high,AV.osl 51 10 (List.map zO l1),AV.hd 2],.dead,.vec 55 1 (List.map zI A.caches),.box 55 [(ls (cS cI) ([]:List (List Int)))]]) zv1<|zd (H':=[.box 26 [ls cI A.nodes,li A.batch,li A.high,AV.osl 51 10 (List.map zO l1),AV.hd 2],.dead,.vec 55 1 (List.map zI A.caches),.box 55 (zI x2.1)]) (zT (k:=3) (o:=0) (cs:=[(ls (cS cI) ([]:List (List Int)))]) (la:=(zI x2.1)) Tryz.sizeOf55 rfl rfl rfl rfl)<|zA (zD rfl)<|zF ?_
  refine zH<|zC<|zA (zB rfl)<|zA (zA8 rfl rfl)<|zF ?_
  refine zW h rfl (fun b2 h => ?_) (fun b2 h => ?_)
  ·refine zAm (n:=70) (m:=1) [.head 0 0,.head 0 0,.head 0 0,.head 0 0,.head 0 0,.head 0 0,.head 0 0,.tail 0] [7] [AV.ptr 0 0,AV.ptr 0 0,AV.ptr 0 4,AV.hd 2,li D,(AV.agg (zI x2.1)),(AV.ptr 2 (D.toNat*1)),.any] [[.box 26 [ls cI A.nodes,li A.batch,li A.high,AV.osl 51 10 (List.map zO l1),AV.hd 2],.dead,.vec 55 1 (List.map zI A.caches),.box 55 (zI x2.1)],[.box 26 [ls cI A.nodes,li A.batch,li A.high,AV.osl 51 10 (List.map zO l1),AV.hd 2],.dead,.vec 55 1 (List.map zI (A.caches.set D.toNat x2.1)),.box 55 (zI x2.1)]] (by kernel_rfl) (by kernel_rfl) ⟨D1 fun e s p=>zB (s 0 rfl),D1 fun e s p=>zAC p.1,D1 fun e s p=>zK (k:=0) (o:=0) (off:=4) Tryz.underlying26 rfl rfl Tryz.sizeOf24 p.1,D1 fun e s p=>zN (k:=0) (o:=4) Tryz.isAgg24 p.1 rfl rfl rfl,D1 fun e s p=>zB (s 1 rfl),D1 fun e s p=>zS (k:=3) (o:=0) (m:=1) Tryz.isAgg55 Tryz.sizeOf55 (s 11 rfl) rfl rfl rfl rfl,D1 fun e s p=>zy (f:=zI) (l:=A.caches) (i:=D) Tryz.underlying24 Tryz.sizeOf55 p.2.2.2.2.2.1 rfl p.2.2.2.2.2.2.1 b1,?_,trivial⟩ ?_
   ·
    intro e8 s8 p8
    refine zd (H':=[.box 26 [ls cI A.nodes,li A.batch,li A.high,AV.osl 51 10 (List.map zO l1),AV.hd 2],.dead,.vec 55 1 (List.map zI (A.caches.set D.toNat x2.1)),.box 55 (zI x2.1)]) (zBG (k:=2) (o:=(D.toNat*1)) (f:=zI) (l:=A.caches) (i:=D) (z:=x2.1) Tryz.sizeOf55 (fun _=>rfl) (by exact p8.1) rfl (by first | rfl | omega) b1 (by exact p8.2.2.2.2.2.2.2.1) rfl) ?_
    exact zF ⟨fun _=>rfl,rfl⟩
   intro e9 s9 hq1
   exact ⟨A.caches.set D.toNat x2.1,Rep.trans (zBI (l:=[(7,(ls cI l2))]) ⟨s9 7 rfl,trivial⟩) (Rep.trans (z9 (k:=0) (j:=2) (o:=4) (cs:=[ls cI A.nodes,li A.batch,li A.high,AV.osl 51 10 (List.map zO l1),AV.hd 2]) rfl rfl rfl rfl) (zAD [0] (l:=[(7,(ls cI l2))]) rfl rfl (by kernel_rfl))),h⟩
  refine zQ ?_
  exact ⟨A.caches,Rep.trans (z9 (k:=0) (j:=2) (o:=4) rfl rfl rfl rfl) (zAD [0] (l:=[(7,(ls cI l2))]) rfl rfl (by kernel_rfl)),h⟩
 clear h
 intro l3 h
 unfold zEo at h
 refine zH<|zC<|zA (zB rfl)<|zA (zY Tryz.underlying22 rfl)<|zA (zAo rfl rfl)<|zA (zD rfl) ?_
 refine zF<|zb ?_
 cases h
 exact ⟨mkE [(6,(AV.lit (.bool (decide (0<(l2.length:Int))))))],[.box 26 [ls cI A.nodes,li A.batch,li A.high,AV.osl 51 10 (List.map zO l1),AV.osl 55 1 (List.map zI l3)]],zAD [0] rfl rfl (by kernel_rfl),zRU rfl rfl⟩
theorem zOH {J:zL} {M:Int} {r:zL×(List Int)×Int} (h:zIT J M=some r):PFn Tryz.prog 110 [(AV.agg (zI J)),li M] (AV.tup [(AV.agg (zI r.1)),ls cI r.2.1,li r.2.2]):=by
 refine zm Tryz.func110 rfl Tryz.ntmps110 Tryz.results110 rfl ?_
 unfold zIT at h
 refine zH<|zC<|zX (H':=[.box 55 (zI J)]) (zu (t:=55) rfl)<|zX (H':=[.box 55 (zI J),.box 55 [(ls (cS cI) ([]:List (List Int)))]]) zv1<|zA (zD rfl)<|zA (zD rfl) ?_
 refine zF<|zH<|zH<|zC<|zA (zS (k:=0) (o:=0) (m:=1) Tryz.isAgg55 Tryz.sizeOf55 rfl rfl rfl rfl rfl)<|zA (zB rfl) ?_
 refine zP h fun x1 w1 h=>ze Tryz.func111 rfl (by kernel_rfl) (.fn 111) rfl rfl (zHM w1) rfl<|zA (zD rfl)<|zF<|zH<|zC ?_
 refine zA (zB rfl)<|zA (z7 rfl rfl)<|zF ?_
 refine zW h rfl (fun b1 h => ?_) (fun b1 h => ?_)
 ·refine zH<|zC<|zA zv2<|zA (zB rfl)<|zd (H':=[.box 55 (zI J),.box 55 (zI (⟨([]:List (List Int))⟩:zL))]) (zT (k:=1) (o:=0) (cs:=[(ls (cS cI) ([]:List (List Int)))]) (la:=(zI (⟨([]:List (List Int))⟩:zL))) Tryz.sizeOf55 rfl rfl rfl rfl)<|zA (zD rfl) ?_
  refine zA (zD rfl)<|zF<|zb ?_
  cases h
  exact zC7 (zDV Tryz.isAgg55 Tryz.sizeOf55 rfl rfl rfl rfl) (zKr (zAI rfl rfl) zAx.nils) (zAI rfl rfl) rfl
 refine zQ<|zH<|zC<|zA (zK Tryz.underlying55 rfl rfl Tryz.sizeOf53 rfl)<|zA (zN Tryz.isAgg53 rfl rfl rfl rfl)<|zA (zB rfl) ?_
 refine zM h fun b2 h=>zA (zV Tryz.underlying53 Tryz.sizeOf22 (fun _=>rfl) rfl rfl b2)<|zA (zU (o:=0) Tryz.isAgg22 rfl rfl)<|zA (zY Tryz.underlying22 rfl)<|zM h fun b3 h=>zEU (f:=cI) (a:=((at_ J.lists M).length:Int)) (c:=((at_ J.lists M).length:Int)) (d0:=0) zGA ⟨zAx.refl _,trivial⟩ rfl Tryz.underlying22 rfl rfl b3 ?_
 refine zA (zD rfl)<|zF<|zH<|zC<|zA (zB rfl)<|zA (zK Tryz.underlying55 rfl rfl Tryz.sizeOf53 rfl) ?_
 refine zA (zN Tryz.isAgg53 rfl rfl rfl rfl)<|zA (zB rfl)<|zA (zV Tryz.underlying53 Tryz.sizeOf22 (fun _=>rfl) rfl rfl b2)<|zA (zU (o:=0) Tryz.isAgg22 rfl rfl)<|zX (H':=[.box 55 (zI J),.box 55 [(ls (cS cI) ([]:List (List Int)))],.vec 3 1 (List.map cI (zC4 (List.replicate ((at_ J.lists M).length:Int).toNat 0) (at_ J.lists M)))]) (zLk (f:=cI) (k:=2) (l:=List.replicate ((at_ J.lists M).length:Int).toNat 0) (l2:=at_ J.lists M) Tryz.underlying22 Tryz.sizeOf3 (fun _=>rfl) rfl rfl rfl)<|zF ?_
 refine zH<|zC<|zA (zS (k:=0) (o:=0) (m:=1) Tryz.isAgg55 Tryz.sizeOf55 rfl rfl rfl rfl rfl)<|zA (zB rfl)<|zP h fun x2 w2 h=>zAq (r':=(AV.agg (zI x2))) (la:=[(AV.agg (zI J)),li M,(AV.lit (.slice none 0 0))]) (la':=[(AV.agg (zI J)),li M,(ls cI [])]) (r:=(AV.agg (zI x2))) (S:=[]) Tryz.func112 rfl (by kernel_rfl) (.fn 112) rfl ⟨zAl.nr rfl,zAl.nr rfl,zAl.sub zAx.nils rfl,trivial⟩ (zEW w2) (.inl rfl) rfl ?_
 refine zA (zB rfl)<|zd (H':=[.box 55 (zI J),.box 55 (zI x2),.vec 3 1 (List.map cI (zC4 (List.replicate ((at_ J.lists M).length:Int).toNat 0) (at_ J.lists M)))]) (zT (k:=1) (o:=0) (cs:=[(ls (cS cI) ([]:List (List Int)))]) (la:=(zI x2)) Tryz.sizeOf55 rfl rfl rfl rfl)<|zA (zD rfl)<|zA (zD rfl)<|zF<|zAS (zES (j:=2) (ds:=[5,8,22,23,33]) (rows':=List.map cI (zC4 (List.replicate ((at_ J.lists M).length:Int).toNat 0) (at_ J.lists M))) rfl (zAM (fun _=>rfl)) ⟨rfl,rfl,rfl,rfl,rfl,trivial⟩) ?_
 refine zb ?_
 cases h
 exact zC7 (zDV Tryz.isAgg55 Tryz.sizeOf55 rfl rfl rfl rfl) (zAI rfl rfl) (zAI rfl rfl) rfl
theorem zO4 {C:zi} {Q:Int} {V:Int} {r:zi×Int} (h:zIy C Q V=some r):PFn Tryz.prog 71 [(AV.agg (zO C)),li Q,li V] (AV.tup [(AV.agg (zO r.1)),li r.2]):=by
 refine zm Tryz.func71 rfl Tryz.ntmps71 Tryz.results71 rfl ?_
 unfold zIy at h
 refine zH<|zC<|zX (H':=[.box 51 (zO C)]) (zu (t:=51) rfl)<|zX (H':=[.box 51 (zO C),.box 51 ([li 0]++([li 0]++([li 0]++([li 0]++([li 0]++((cA 5 (eS cI) ([]:List Int) (List.replicate 5 ([]:List Int)))++[]))))))]) zv0<|zA (zD rfl)<|zF ?_
 refine zH<|zH<|zC<|zA (zS (k:=0) (o:=0) (m:=10) Tryz.isAgg51 Tryz.sizeOf51 rfl rfl rfl rfl rfl)<|zP h fun x1 w1 h=>ze Tryz.func42 rfl (by kernel_rfl) (.fn 42) rfl rfl (zEC w1) rfl ?_
 refine zA (zD rfl)<|zF<|zH<|zC<|zA (zB rfl)<|zA (z7 rfl rfl) ?_
 refine zF ?_
 refine zW h rfl (fun b1 h => ?_) (fun b1 h => ?_)
 ·refine zH<|zC<|zA zv9<|zA (zB rfl)<|zd (H':=[.box 51 (zO C),.box 51 (zO (⟨0,0,0,0,0,(List.replicate 5 ([]:List Int))⟩:zi))]) (zT (k:=1) (o:=0) (cs:=([li 0]++([li 0]++([li 0]++([li 0]++([li 0]++((cA 5 (eS cI) ([]:List Int) (List.replicate 5 ([]:List Int)))++[]))))))) (la:=(zO (⟨0,0,0,0,0,(List.replicate 5 ([]:List Int))⟩:zi))) Tryz.sizeOf51 rfl rfl rfl rfl)<|zA (zD rfl) ?_
  refine zF<|zb ?_
  cases h
  exact zA5 (zDV Tryz.isAgg51 Tryz.sizeOf51 rfl rfl rfl rfl) (zAI rfl rfl) rfl
 refine zQ<|zH<|zH<|zC<|zA (zB rfl)<|zA (zh rfl rfl) ?_
 refine zA (zB rfl)<|zZ rfl rfl (fun c1=>zq.step (zB rfl))<|zZ rfl rfl (fun c2=>zq.step (zAo (z8 rfl c2) rfl))<|zA (zj rfl rfl)<|zA (zB rfl)<|zZ rfl rfl (fun c3=>zq.step (zS (k:=0) (o:=0) (m:=10) Tryz.isAgg51 Tryz.sizeOf51 rfl rfl rfl rfl rfl)) ?_
 refine zZ rfl rfl (fun c4=>zq.step (zB rfl))<|zZ rfl rfl (fun c5=>zq.step (zB rfl))<|zP h fun x2 w2 h=>zCX (g:=25) (s:=(decide (V<0))||(decide (4<V))) (r':=(AV.lit (.bool x2))) rfl rfl (fun c6=>⟨86,_,_,[],[(AV.agg (zO C)),li Q,li V],[(AV.agg ([li C.node]++([li C.kind]++([li C.start]++([li C.count]++([li C.min]++([AV.any,AV.any,AV.any,AV.any,AV.any]++[]))))))),li Q,li V],(AV.lit (.bool x2)),[],Tryz.func86,rfl,by kernel_rfl,.fn 86,(zAL (z8 rfl c6) (zAL (z8 rfl c6) (zAL (z8 rfl c6) rfl))),⟨zLj (hd:=([li C.node]++[li C.kind]++[li C.start]++[li C.count]++[li C.min])) (tl:=((cA 5 (eS cI) ([]:List Int) C.free))) rfl,zAl.nr rfl,zAl.nr rfl,trivial⟩,zEf (zFy c6 w2),.inl rfl,rfl⟩)<|zZ rfl rfl (fun c7=>zq.step (zAv (t:=x2) (z8 rfl c7)))<|zA (zj rfl rfl) ?_
 refine zF ?_
 refine zW h rfl (fun b2 h => ?_) (fun b2 h => ?_)
 ·refine zH<|zC<|zA zv9<|zd (H':=[.box 51 (zO C),.box 51 (zO (⟨0,0,0,0,0,(List.replicate 5 ([]:List Int))⟩:zi))]) (zT (k:=1) (o:=0) (cs:=([li 0]++([li 0]++([li 0]++([li 0]++([li 0]++((cA 5 (eS cI) ([]:List Int) (List.replicate 5 ([]:List Int)))++[]))))))) (la:=(zO (⟨0,0,0,0,0,(List.replicate 5 ([]:List Int))⟩:zi))) Tryz.sizeOf51 rfl rfl rfl rfl)<|zA (zD rfl)<|zF ?_
  refine zb ?_
  cases h
  exact zA5 (zDV Tryz.isAgg51 Tryz.sizeOf51 rfl rfl rfl rfl) (zAI rfl rfl) rfl
 refine zQ ?_
 refine zx (r:=r) (fun (_:Unit)=>mkE [(1,(li Q)),(2,(li V)),(3,(AV.ptr 0 0)),(6,(AV.ptr 1 0))]) (fun _=>[.box 51 (zO C),.box 51 ([li 0]++([li 0]++([li 0]++([li 0]++([li 0]++((cA 5 (eS cI) ([]:List Int) (List.replicate 5 ([]:List Int)))++[]))))))]) (fun _=>zIr C Q V) ?_ ?_
 ·
  refine zH<|zC<|zA (zB rfl)<|zA (zD rfl)<|zF<|zR ?_
  refine zt (σ:=Int) (fun i1=>mkE [(1,(li Q)),(2,(li V)),(3,(AV.ptr 0 0)),(6,(AV.ptr 1 0)),(9,(li i1))]) (fun i1=>[.box 51 (zO C),.box 51 ([li 0]++([li 0]++([li 0]++([li 0]++([li 0]++((cA 5 (eS cI) ([]:List Int) (List.replicate 5 ([]:List Int)))++[]))))))]) (fun n0 i1=>zG1 C Q V n0 i1) Q h (fun _=>rfl) (zAD [0,1] rfl rfl (by kernel_rfl)) ?_
  clear h
  intro n0 i1 h
  replace h:zEn C Q V (zG1 C Q V n0) i1=some r:=h
  unfold zEn at h
  refine zH<|zH<|zC<|zA (zB rfl)<|zA (zB rfl)<|zA (zB rfl) ?_
  refine zM h fun b3 h=>zM h fun b4 h=>zA (zCx (a:=1) (b:=V) rfl rfl b3 b4)<|zM h fun b5 h=>zA (zg rfl rfl b5)<|zA (zh rfl rfl) ?_
  refine zF ?_
  refine zW h rfl (fun b6 h => ?_) (fun b6 h => ?_)
  ·refine zQ<|zH<|zR<|zH<|zC<|zA (zS (k:=0) (o:=0) (m:=10) Tryz.isAgg51 Tryz.sizeOf51 rfl rfl rfl rfl rfl) ?_
   refine zA (zB rfl)<|zP h fun x5 w5 h=>ze Tryz.func92 rfl (by kernel_rfl) (.fn 92) rfl rfl (zJs w5) rfl<|zA (zB rfl)<|zA (za rfl rfl)<|zA (za rfl rfl) ?_
   refine zA (zD rfl)<|zA (zD rfl)<|zF<|zH<|zC<|zA (zB rfl) ?_
   refine zA (zAu rfl rfl)<|zF ?_
   refine zW h rfl (fun b7 h => ?_) (fun b7 h => ?_)
   ·refine zH<|zC<|zA zv9<|zd (H':=[.box 51 (zO C),.box 51 (zO (⟨0,0,0,0,0,(List.replicate 5 ([]:List Int))⟩:zi))]) (zT (k:=1) (o:=0) (cs:=([li 0]++([li 0]++([li 0]++([li 0]++([li 0]++((cA 5 (eS cI) ([]:List Int) (List.replicate 5 ([]:List Int)))++[]))))))) (la:=(zO (⟨0,0,0,0,0,(List.replicate 5 ([]:List Int))⟩:zi))) Tryz.sizeOf51 rfl rfl rfl rfl)<|zA (zD rfl)<|zF ?_
    refine zb ?_
    cases h
    exact zA5 (zDV Tryz.isAgg51 Tryz.sizeOf51 rfl rfl rfl rfl) (zAI rfl rfl) rfl
   refine zQ<|zC<|zA (zB rfl)<|zM h fun b8 h=>zA (zg rfl rfl b8)<|zA (zD rfl) ?_
   refine zF ?_
   exact ⟨(i1+1),zAD [0,1] rfl rfl (by kernel_rfl),h⟩
  refine zz ?_
  exact ⟨(),zAD [0,1] rfl rfl (by kernel_rfl),h⟩
 clear h
 intro _ h
 unfold zIr at h
 refine zH<|zC<|zA (zS (k:=0) (o:=0) (m:=10) Tryz.isAgg51 Tryz.sizeOf51 rfl rfl rfl rfl rfl)<|zP h fun x3 w3 h=>zDg (cs:=([li x3.node]++([li x3.kind]++([li x3.start]++([li x3.count]++([li x3.min]++((cM 5 3 (5:Int) x3.free)++[]))))))) (la:=[(AV.agg (zO C))]) (la':=[(AV.agg (zO C))]) (S:=[]) Tryz.func118 rfl (by kernel_rfl) (.fn 118) rfl ⟨zAl.nr rfl,trivial⟩ (zJt w3) (.inl rfl)<|zX (H':=[.box 51 (zO C),.box 51 ([li 0]++([li 0]++([li 0]++([li 0]++([li 0]++((cA 5 (eS cI) ([]:List Int) (List.replicate 5 ([]:List Int)))++[])))))),.val (.agg ([li x3.node]++([li x3.kind]++([li x3.start]++([li x3.count]++([li x3.min]++((cM 5 3 (5:Int) x3.free)++[]))))))),.box 51 ([li 0]++([li 0]++([li 0]++([li 0]++([li 0]++((cA 5 (eS cI) ([]:List Int) (List.replicate 5 ([]:List Int)))++[]))))))]) zv0 ?_
 refine zd (H':=[.box 51 (zO C),.box 51 ([li 0]++([li 0]++([li 0]++([li 0]++([li 0]++((cA 5 (eS cI) ([]:List Int) (List.replicate 5 ([]:List Int)))++[])))))),.dead,.box 51 ([li x3.node]++([li x3.kind]++([li x3.start]++([li x3.count]++([li x3.min]++((cM 5 3 (5:Int) x3.free)++[]))))))]) (zBW (k:=3) (o:=0) (j:=2) (cs:=([li 0]++([li 0]++([li 0]++([li 0]++([li 0]++((cA 5 (eS cI) ([]:List Int) (List.replicate 5 ([]:List Int)))++[]))))))) (la:=([li x3.node]++([li x3.kind]++([li x3.start]++([li x3.count]++([li x3.min]++((cM 5 3 (5:Int) x3.free)++[]))))))) Tryz.sizeOf51 rfl rfl rfl rfl rfl (by decide))<|zF<|zH<|zC<|zA (zB rfl)<|zA (zB rfl) ?_
 refine zP h fun x4 w4 h=>zCu (k:=3) (la:=[AV.ptr 3 0,li Q,li V]) (la':=[AV.ptr 0 0,li Q,li V]) (r:=(.tup [])) (S:=[]) (en' := .box 51 ([li x4.node]++([li x4.kind]++([li x4.start]++([li x4.count]++([li x4.min]++((cM 5 3 (5:Int) x4.free)++[]))))))) Tryz.func125 rfl (by kernel_rfl) (.fn 125) rfl ⟨zBs.ptr,zBs.of (zAl.nr rfl),zBs.of (zAl.nr rfl),trivial⟩ rfl rfl (by kernel_rfl) (by kernel_rfl) (zNK w4) rfl (.inl rfl)<|zF<|zH<|zC<|z5 (zKT (k:=3) (cs:=([li x4.node]++([li x4.kind]++([li x4.start]++([li x4.count]++([li x4.min]++((cM 5 3 (5:Int) x4.free)++[]))))))) (hd:=([li x4.node]++[li x4.kind]++[li x4.start]++[li x4.count]++[li x4.min]++[])) (tl:=([])) (N:=5) (T:=3) (K:=5) (l:=x4.free) rfl rfl) ?_
 refine zA (zS (k:=3) (o:=0) (m:=10) Tryz.isAgg51 Tryz.sizeOf51 rfl rfl rfl rfl rfl)<|zd (H':=[.box 51 (zO C),.box 51 (zO (⟨x4.node,x4.kind,x4.start,x4.count,x4.min,x4.free⟩:zi)),.dead,.box 51 ([li x4.node]++([li x4.kind]++([li x4.start]++([li x4.count]++([li x4.min]++((cA 5 (eS cI) ([]:List Int) x4.free)++[]))))))]) (zT (k:=1) (o:=0) (cs:=([li 0]++([li 0]++([li 0]++([li 0]++([li 0]++((cA 5 (eS cI) ([]:List Int) (List.replicate 5 ([]:List Int)))++[]))))))) (la:=(zO (⟨x4.node,x4.kind,x4.start,x4.count,x4.min,x4.free⟩:zi))) Tryz.sizeOf51 rfl rfl rfl rfl)<|zA (zD rfl)<|zF<|zb ?_
 cases h
 exact zA5 (zDV Tryz.isAgg51 Tryz.sizeOf51 rfl rfl rfl rfl) (zAI rfl rfl) rfl
theorem zKS {B:zJ} {C:Int} {uK:List Int} {r:zJ} (h:zFH B C uK=some r):AFn Tryz.prog 68 [AV.ptr 0 0,li C,ls cI uK] [.box 26 ([ls cI B.nodes]++([li B.batch]++([li B.high]++([AV.osl 51 10 (List.map zO B.zones)]++([AV.osl 55 1 (List.map zI B.caches)]++[])))))] (.tup []) [.box 26 ([ls cI r.nodes]++([li r.batch]++([li r.high]++([AV.osl 51 10 (List.map zO r.zones)]++([AV.osl 55 1 (List.map zI r.caches)]++[])))))]:=by
 refine zDe Tryz.func68 rfl Tryz.ntmps68 Tryz.results68 rfl ?_
 unfold zFH at h
 refine zH<|zC<|zA (zB rfl)<|zA (zY Tryz.underlying22 rfl)<|zA (zB rfl)<|zF ?_
 refine zR<|zt (σ:=Int×(List zi)) (fun (i1,l1)=>mkE [(0,(AV.ptr 0 0)),(1,(li C)),(10,(ls cI uK)),(11,(li (uK.length:Int))),(12,(li i1))]) (fun (i1,l1)=>[.box 26 [ls cI B.nodes,li B.batch,li B.high,AV.osl 51 10 (List.map zO l1),AV.osl 55 1 (List.map zI B.caches)]]) (fun n0 (i1,l1)=>zDF B C uK n0 i1 l1) (0,B.zones) h (fun _=>rfl) (zAD [0] rfl rfl (by kernel_rfl)) ?_
 clear h
 rintro n0 ⟨i1,l1⟩ h
 replace h:zCb B C uK (zDF B C uK n0) i1 l1=some r:=h
 unfold zCb at h
 refine zH<|zC<|zA (zh rfl rfl)<|zF<|zH ?_
 refine zW h rfl (fun b1 h => ?_) (fun b1 h => ?_)
 ·refine zQ ?_
  refine zx (r:=r) (fun (l2:List zi)=>mkE [(0,(AV.ptr 0 0)),(1,(li C)),(10,(ls cI uK)),(11,(li (uK.length:Int))),(12,(li i1))]) (fun l2=>[.box 26 [ls cI B.nodes,li B.batch,li B.high,AV.osl 51 10 (List.map zO l2),AV.osl 55 1 (List.map zI B.caches)]]) (fun l2=>zEa (zDF B C uK n0) i1 l2) ?_ ?_
  ·
   refine zR<|zH<|zC<|zM h fun b3 h=>zA (zV Tryz.underlying22 Tryz.sizeOf3 (fun _=>rfl) rfl rfl b3)<|zA (zU (o:=0) Tryz.isAgg3 rfl rfl) ?_
   refine zA (zD rfl)<|zF<|zH<|zC<|zA (zB rfl)<|zA (zAC rfl) ?_
   refine zA (zK Tryz.underlying26 rfl rfl Tryz.sizeOf23 rfl)<|z5 (zAZ (k:=0) (o:=3) (t':=51) (sz:=10) (rows:=List.map zO l1) rfl rfl)<|zA (zN Tryz.isAgg23 rfl rfl rfl rfl)<|zA (zB rfl)<|zM h fun b4 h=>zA (zy (f:=zO) (l:=l1) (i:=C) Tryz.underlying23 Tryz.sizeOf51 rfl rfl rfl b4) ?_
   refine zA (zBO (f:=zO) (l:=l1) (i:=C) (c:=0) (q:=10) (la:=(zO (at_ l1 C))) Tryz.isAgg51 Tryz.sizeOf51 rfl rfl (by first | rfl | omega) b4 rfl rfl rfl)<|zA (zB rfl)<|zP h fun x1 w1 h=>ze Tryz.func71 rfl (by kernel_rfl) (.fn 71) rfl rfl (zO4 w1) rfl<|zA (zB rfl)<|zA (za rfl rfl) ?_
   refine zA (za rfl rfl)<|zX (H':=[.box 26 [ls cI B.nodes,li B.batch,li B.high,AV.hd 1,AV.osl 55 1 (List.map zI B.caches)],.vec 51 10 (List.map zO l1),.box 51 (zO ⟨0,0,0,0,0,(List.replicate 5 ([]:List Int))⟩)]) zv0<|zd (H':=[.box 26 [ls cI B.nodes,li B.batch,li B.high,AV.hd 1,AV.osl 55 1 (List.map zI B.caches)],.vec 51 10 (List.map zO l1),.box 51 (zO x1.1)]) (zT (k:=2) (o:=0) (cs:=(zO ⟨0,0,0,0,0,(List.replicate 5 ([]:List Int))⟩)) (la:=(zO x1.1)) Tryz.sizeOf51 rfl rfl rfl rfl)<|zA (zD rfl)<|zF<|zH ?_
   refine zC<|zA (zB rfl)<|zA (zA8 rfl rfl)<|zF ?_
   refine zW h rfl (fun b5 h => ?_) (fun b5 h => ?_)
   ·refine zAm (n:=38) (m:=1) [.head 0 0,.head 0 0,.head 0 0,.head 0 0,.head 0 0,.head 0 0,.head 0 0,.tail 0] [7] [AV.ptr 0 0,AV.ptr 0 0,AV.ptr 0 3,AV.hd 1,li C,(AV.agg (zO x1.1)),(AV.ptr 1 (C.toNat*10)),.any] [[.box 26 [ls cI B.nodes,li B.batch,li B.high,AV.hd 1,AV.osl 55 1 (List.map zI B.caches)],.vec 51 10 (List.map zO l1),.box 51 (zO x1.1)],[.box 26 [ls cI B.nodes,li B.batch,li B.high,AV.hd 1,AV.osl 55 1 (List.map zI B.caches)],.vec 51 10 (List.map zO (l1.set C.toNat x1.1)),.box 51 (zO x1.1)]] (by kernel_rfl) (by kernel_rfl) ⟨D1 fun e s p=>zB (s 0 rfl),D1 fun e s p=>zAC p.1,D1 fun e s p=>zK (k:=0) (o:=0) (off:=3) Tryz.underlying26 rfl rfl Tryz.sizeOf23 p.1,D1 fun e s p=>zN (k:=0) (o:=3) Tryz.isAgg23 p.1 rfl rfl rfl,D1 fun e s p=>zB (s 1 rfl),D1 fun e s p=>zS (k:=2) (o:=0) (m:=10) Tryz.isAgg51 Tryz.sizeOf51 (s 8 rfl) rfl rfl rfl rfl,D1 fun e s p=>zy (f:=zO) (l:=l1) (i:=C) Tryz.underlying23 Tryz.sizeOf51 p.2.2.2.2.2.1 rfl p.2.2.2.2.2.2.1 b4,?_,trivial⟩ ?_
    ·
     intro e8 s8 p8
     refine zd (H':=[.box 26 [ls cI B.nodes,li B.batch,li B.high,AV.hd 1,AV.osl 55 1 (List.map zI B.caches)],.vec 51 10 (List.map zO (l1.set C.toNat x1.1)),.box 51 (zO x1.1)]) (zBG (k:=1) (o:=(C.toNat*10)) (f:=zO) (l:=l1) (i:=C) (z:=x1.1) Tryz.sizeOf51 (fun _=>rfl) (by exact p8.1) rfl (by first | rfl | omega) b4 (by exact p8.2.2.2.2.2.2.2.1) rfl) ?_
     exact zF ⟨fun _=>rfl,rfl⟩
    intro e9 s9 hq1
    exact ⟨l1.set C.toNat x1.1,Rep.trans (zBI (l:=[(0,(AV.ptr 0 0)),(1,(li C)),(10,(ls cI uK)),(11,(li (uK.length:Int))),(12,(li i1))]) ⟨s9 0 rfl,s9 1 rfl,s9 10 rfl,s9 11 rfl,s9 12 rfl,trivial⟩) (Rep.trans (z9 (k:=0) (j:=1) (o:=3) (cs:=[ls cI B.nodes,li B.batch,li B.high,AV.hd 1,AV.osl 55 1 (List.map zI B.caches)]) rfl rfl rfl rfl) (zAD [0] (l:=[(0,(AV.ptr 0 0)),(1,(li C)),(10,(ls cI uK)),(11,(li (uK.length:Int))),(12,(li i1))]) rfl rfl (by kernel_rfl))),h⟩
   refine zQ ?_
   exact ⟨l1,Rep.trans (z9 (k:=0) (j:=1) (o:=3) rfl rfl rfl rfl) (zAD [0] (l:=[(0,(AV.ptr 0 0)),(1,(li C)),(10,(ls cI uK)),(11,(li (uK.length:Int))),(12,(li i1))]) rfl rfl (by kernel_rfl)),h⟩
  clear h
  intro l2 h
  unfold zEa at h
  refine zC<|zM h fun b2 h=>zA (zg rfl rfl b2)<|zA (zB rfl)<|zF ?_
  exact ⟨((i1+1),l2),zAD [0] rfl rfl (by kernel_rfl),h⟩
 refine zz ?_
 cases h
 exact ⟨mkE [],[.box 26 [ls cI B.nodes,li B.batch,li B.high,AV.osl 51 10 (List.map zO l1),AV.osl 55 1 (List.map zI B.caches)]],zAD [0] rfl rfl (by kernel_rfl),zLt rfl⟩
theorem zHH {B:zJ} {I:Int} {C:Int} {r:zJ} (h:zDS B I C=some r):AFn Tryz.prog 56 [AV.ptr 0 0,li I,li C] [.box 26 ([ls cI B.nodes]++([li B.batch]++([li B.high]++([AV.osl 51 10 (List.map zO B.zones)]++([AV.osl 55 1 (List.map zI B.caches)]++[])))))] (.tup []) [.box 26 ([ls cI r.nodes]++([li r.batch]++([li r.high]++([AV.osl 51 10 (List.map zO r.zones)]++([AV.osl 55 1 (List.map zI r.caches)]++[])))))]:=by
 refine zDe Tryz.func56 rfl Tryz.ntmps56 Tryz.results56 rfl ?_
 unfold zDS at h
 refine zH<|zC<|zA (zB rfl)<|zA (zAC rfl)<|zA (zK Tryz.underlying26 rfl rfl Tryz.sizeOf24 rfl)<|z5 (zAZ (k:=0) (o:=4) (t':=55) (sz:=1) (rows:=List.map zI B.caches) rfl rfl) ?_
 refine zA (zN Tryz.isAgg24 rfl rfl rfl rfl)<|zA (zB rfl)<|zM h fun b1 h=>zA (zy (f:=zI) (l:=B.caches) (i:=I) Tryz.underlying24 Tryz.sizeOf55 rfl rfl rfl b1)<|zA (zBO (f:=zI) (l:=B.caches) (i:=I) (c:=0) (q:=1) (la:=(zI (at_ B.caches I))) Tryz.isAgg55 Tryz.sizeOf55 rfl rfl (by first | rfl | omega) b1 rfl rfl rfl)<|zA (zB rfl) ?_
 refine zP h fun x1 w1 h=>ze Tryz.func110 rfl (by kernel_rfl) (.fn 110) rfl rfl (zOH w1) rfl<|zA (zB rfl)<|zA (za rfl rfl)<|zA (za rfl rfl)<|zA (za rfl rfl) ?_
 refine zX (H':=[.box 26 [ls cI B.nodes,li B.batch,li B.high,AV.osl 51 10 (List.map zO B.zones),AV.hd 1],.vec 55 1 (List.map zI B.caches),.box 55 [(ls (cS cI) ([]:List (List Int)))]]) zv1<|zd (H':=[.box 26 [ls cI B.nodes,li B.batch,li B.high,AV.osl 51 10 (List.map zO B.zones),AV.hd 1],.vec 55 1 (List.map zI B.caches),.box 55 (zI x1.1)]) (zT (k:=2) (o:=0) (cs:=[(ls (cS cI) ([]:List (List Int)))]) (la:=(zI x1.1)) Tryz.sizeOf55 rfl rfl rfl rfl)<|zA (zD rfl)<|zA (zD rfl)<|zF<|zH ?_
 refine zC<|zA (zB rfl)<|zA (zA8 rfl rfl)<|zF ?_
 refine zW h rfl (fun b2 h => ?_) (fun b2 h => ?_)
 ·refine zH ?_
  refine zAm (n:=35) (m:=1) [.head 0 0,.head 0 0,.head 0 0,.head 0 0,.head 0 0,.head 0 0,.head 0 0,.tail 0] [7] [AV.ptr 0 0,AV.ptr 0 0,AV.ptr 0 4,AV.hd 1,li I,(AV.agg (zI x1.1)),(AV.ptr 1 (I.toNat*1)),.any] [[.box 26 [ls cI B.nodes,li B.batch,li B.high,AV.osl 51 10 (List.map zO B.zones),AV.hd 1],.vec 55 1 (List.map zI B.caches),.box 55 (zI x1.1)],[.box 26 [ls cI B.nodes,li B.batch,li B.high,AV.osl 51 10 (List.map zO B.zones),AV.hd 1],.vec 55 1 (List.map zI (B.caches.set I.toNat x1.1)),.box 55 (zI x1.1)]] (by kernel_rfl) (by kernel_rfl) ⟨D1 fun e s p=>zB (s 0 rfl),D1 fun e s p=>zAC p.1,D1 fun e s p=>zK (k:=0) (o:=0) (off:=4) Tryz.underlying26 rfl rfl Tryz.sizeOf24 p.1,D1 fun e s p=>zN (k:=0) (o:=4) Tryz.isAgg24 p.1 rfl rfl rfl,D1 fun e s p=>zB (s 1 rfl),D1 fun e s p=>zS (k:=2) (o:=0) (m:=1) Tryz.isAgg55 Tryz.sizeOf55 (s 6 rfl) rfl rfl rfl rfl,D1 fun e s p=>zy (f:=zI) (l:=B.caches) (i:=I) Tryz.underlying24 Tryz.sizeOf55 p.2.2.2.2.2.1 rfl p.2.2.2.2.2.2.1 b1,?_,trivial⟩ ?_
  ·
   intro e8 s8 p8
   refine zd (H':=[.box 26 [ls cI B.nodes,li B.batch,li B.high,AV.osl 51 10 (List.map zO B.zones),AV.hd 1],.vec 55 1 (List.map zI (B.caches.set I.toNat x1.1)),.box 55 (zI x1.1)]) (zBG (k:=1) (o:=(I.toNat*1)) (f:=zI) (l:=B.caches) (i:=I) (z:=x1.1) Tryz.sizeOf55 (fun _=>rfl) (by exact p8.1) rfl (by first | rfl | omega) b1 (by exact p8.2.2.2.2.2.2.2.1) rfl) ?_
   exact zF ⟨fun _=>rfl,rfl⟩
  intro e9 s9 hq1
  refine zAS (zBI (l:=[(0,(AV.ptr 0 0)),(2,(li C)),(7,(ls cI x1.2.1))]) ⟨s9 0 rfl,s9 2 rfl,s9 7 rfl,trivial⟩)<|zC<|zA (zB (av:=(AV.ptr 0 0)) rfl)<|zA (zB (av:=(li C)) rfl)<|zA (zB (av:=(ls cI x1.2.1)) rfl)<|z5 (z9 (k:=0) (j:=1) (o:=4) (cs:=[ls cI B.nodes,li B.batch,li B.high,AV.osl 51 10 (List.map zO B.zones),AV.hd 1]) rfl rfl rfl rfl) ?_
  refine zP h fun x2 w2 h=>zCu (k:=0) (la:=[AV.ptr 0 0,li C,ls cI x1.2.1]) (la':=[AV.ptr 0 0,li C,ls cI x1.2.1]) (r:=(.tup [])) (S:=[]) (en' := .box 26 [ls cI x2.nodes,li x2.batch,li x2.high,AV.osl 51 10 (List.map zO x2.zones),AV.osl 55 1 (List.map zI x2.caches)]) Tryz.func68 rfl (by kernel_rfl) (.fn 68) rfl ⟨zBs.ptr,zBs.of (zAl.nr rfl),zBs.of (zAl.nr rfl),trivial⟩ rfl rfl (by kernel_rfl) (by kernel_rfl) (zKS w2) rfl (.inl rfl)<|zF ?_
  cases h
  exact ⟨mkE [],[.box 26 [ls cI x2.nodes,li x2.batch,li x2.high,AV.osl 51 10 (List.map zO x2.zones),AV.osl 55 1 (List.map zI x2.caches)]],zAD [0] rfl rfl (by kernel_rfl),zLt rfl⟩
 refine zQ ?_
 cases h
 exact ⟨mkE [],[.box 26 [ls cI B.nodes,li B.batch,li B.high,AV.osl 51 10 (List.map zO B.zones),AV.osl 55 1 (List.map zI B.caches)]],Rep.trans (z9 (k:=0) (j:=1) (o:=4) rfl rfl rfl rfl) (zAD [0] (l:=[]) rfl rfl (by kernel_rfl)),zLt rfl⟩
theorem zOb {J:zL} {M:Int} {r:zL×Int×Int} (h:zMB J M=some r):PFn Tryz.prog 57 [(AV.agg (zI J)),li M] (AV.tup [(AV.agg (zI r.1)),li r.2.1,li r.2.2]):=by
 refine zm Tryz.func57 rfl Tryz.ntmps57 Tryz.results57 rfl ?_
 unfold zMB at h
 refine zH<|zC<|zX (H':=[.box 55 (zI J)]) (zu (t:=55) rfl)<|zX (H':=[.box 55 (zI J),.box 55 [(ls (cS cI) ([]:List (List Int)))]]) zv1<|zA (zD rfl)<|zA (zD rfl) ?_
 refine zF<|zH<|zH<|zC<|zA (zS (k:=0) (o:=0) (m:=1) Tryz.isAgg55 Tryz.sizeOf55 rfl rfl rfl rfl rfl)<|zA (zB rfl) ?_
 refine zP h fun x1 w1 h=>ze Tryz.func111 rfl (by kernel_rfl) (.fn 111) rfl rfl (zHM w1) rfl<|zA (zD rfl)<|zF<|zH<|zC ?_
 refine zA (zB rfl)<|zA (z7 rfl rfl)<|zF ?_
 refine zW h rfl (fun b1 h => ?_) (fun b1 h => ?_)
 ·refine zH<|zC<|zA zv2<|zA (zB rfl)<|zd (H':=[.box 55 (zI J),.box 55 (zI (⟨([]:List (List Int))⟩:zL))]) (zT (k:=1) (o:=0) (cs:=[(ls (cS cI) ([]:List (List Int)))]) (la:=(zI (⟨([]:List (List Int))⟩:zL))) Tryz.sizeOf55 rfl rfl rfl rfl)<|zA (zD rfl) ?_
  refine zA (zD rfl)<|zF<|zb ?_
  cases h
  exact zC7 (zDV Tryz.isAgg55 Tryz.sizeOf55 rfl rfl rfl rfl) (zAI rfl rfl) (zAI rfl rfl) rfl
 refine zQ<|zH<|zC<|zA (zK Tryz.underlying55 rfl rfl Tryz.sizeOf53 rfl)<|zA (zN Tryz.isAgg53 rfl rfl rfl rfl)<|zA (zB rfl) ?_
 refine zM h fun b2 h=>zA (zV Tryz.underlying53 Tryz.sizeOf22 (fun _=>rfl) rfl rfl b2)<|zA (zU (o:=0) Tryz.isAgg22 rfl rfl)<|zA (zD rfl)<|zF<|zH ?_
 refine zH<|zC<|zA (zB rfl)<|zA (zY Tryz.underlying22 rfl)<|zA (zA8 rfl rfl)<|zF ?_
 refine zW h rfl (fun b3 h => ?_) (fun b3 h => ?_)
 ·refine zH<|zC<|zA zv2<|zd (H':=[.box 55 (zI J),.box 55 (zI (⟨([]:List (List Int))⟩:zL))]) (zT (k:=1) (o:=0) (cs:=[(ls (cS cI) ([]:List (List Int)))]) (la:=(zI (⟨([]:List (List Int))⟩:zL))) Tryz.sizeOf55 rfl rfl rfl rfl)<|zA (zD rfl)<|zA (zD rfl) ?_
  refine zF<|zb ?_
  cases h
  exact zC7 (zDV Tryz.isAgg55 Tryz.sizeOf55 rfl rfl rfl rfl) (zAI rfl rfl) (zAI rfl rfl) rfl
 refine zQ<|zH<|zC<|zA (zB rfl)<|zA (zY Tryz.underlying22 rfl)<|zM h fun b4 h => ?_
 refine zA (zBa rfl rfl b4)<|zA (zD rfl)<|zF<|zH<|zM h fun b5 h=>zP h fun x2 w2 h => ?_
 refine zM h fun b6 h => ?_
 refine zAm (n:=39) (m:=0) [.head 0 0,.head 0 0,.head 0 0,.head 0 0,.head 0 0,.head 0 0,.head 0 1,.head 0 1,.head 0 1,.head 0 1,.tail 0,.head 1 1,.head 1 1] [10] [(AV.agg (zI J)),li M,(ls cI (at_ J.lists M)),(li (((at_ J.lists M).length:Int) - 1)),(ls cI (zH6 (at_ J.lists M) 0 (((at_ J.lists M).length:Int) - 1))),(AV.agg (zI x2)),(ls cI (at_ J.lists M)),(li (((at_ J.lists M).length:Int) - 1)),(AV.rp (cI (at_ (at_ J.lists M) (((at_ J.lists M).length:Int) - 1))) 0),(li (at_ (at_ J.lists M) (((at_ J.lists M).length:Int) - 1))),.any,(li (at_ (at_ J.lists M) (((at_ J.lists M).length:Int) - 1))),li 0] [[.box 55 (zI J),.box 55 [(ls (cS cI) ([]:List (List Int)))]],[.box 55 (zI J),.box 55 (zI x2)]] (by kernel_rfl) (by kernel_rfl) ⟨D1 fun e s p=>zS (k:=0) (o:=0) (m:=1) Tryz.isAgg55 Tryz.sizeOf55 (s 2 rfl) rfl rfl rfl rfl,D1 fun e s p=>zB (s 1 rfl),D1 fun e s p=>zB (s 8 rfl),D1 fun e s p=>zB (s 9 rfl),D1 fun e s p=>zNt (hi:=((at_ J.lists M).length:Int) - 1) (f:=cI) (l:=at_ J.lists M) Tryz.underlying22 Tryz.sizeOf3 (fun _=>rfl) p.1 p.2.1 b5,?_,⟨D1 fun e s p=>zB (s 8 rfl),D1 fun e s p=>zB (s 8 rfl)⟩,⟨D1 fun e s p=>zB (s 9 rfl),D1 fun e s p=>zB (s 9 rfl)⟩,⟨D1 fun e s p=>zV (f:=cI) (l:=at_ J.lists M) (i:=((at_ J.lists M).length:Int) - 1) Tryz.underlying22 Tryz.sizeOf3 (fun _=>rfl) p.1 p.2.1 b6,D1 fun e s p=>zV (f:=cI) (l:=at_ J.lists M) (i:=((at_ J.lists M).length:Int) - 1) Tryz.underlying22 Tryz.sizeOf3 (fun _=>rfl) p.1 p.2.1 b6⟩,⟨D1 fun e s p=>zU (o:=0) Tryz.isAgg3 p.1 rfl,D1 fun e s p=>zU (o:=0) Tryz.isAgg3 p.1 rfl⟩,?_,D1 fun e s p=>zD p.2.2.2.2.2.2.2.2.2.2.2.1,D1 fun e s p=>zD rfl,trivial⟩ ?_
 ·
  intro e6 s6 p6
  refine ze (r:=(AV.agg (zI x2))) (la:=[(AV.agg (zI J)),li M,(ls cI (zH6 (at_ J.lists M) 0 (((at_ J.lists M).length:Int) - 1)))]) Tryz.func112 rfl (by kernel_rfl) (.fn 112) (zAL p6.1 (zAL p6.2.1 (zAL p6.2.2.1 rfl))) rfl (zEW w2) rfl ?_
  exact zF ⟨fun _=>rfl,rfl⟩
 ·
  intro e15 s15 p15
  refine zd (H':=[.box 55 (zI J),.box 55 (zI x2)]) (zT (k:=1) (o:=0) (cs:=[(ls (cS cI) ([]:List (List Int)))]) (la:=(zI x2)) Tryz.sizeOf55 (by exact (s15 4 rfl)) rfl rfl (by exact p15.2.2.2.2.2.2.2.1)) ?_
  exact zF ⟨fun _=>rfl,rfl⟩
 intro e18 s18 hq1
 refine zAS (zBI (l:=[(4,(AV.ptr 1 0)),(5,(li (at_ (at_ J.lists M) (((at_ J.lists M).length:Int) - 1)))),(6,(li 0))]) ⟨s18 4 rfl,(hq1 11 (by decide) (by decide)),(hq1 12 (by decide) (by decide)),trivial⟩)<|zb ?_
 cases h
 exact zC7 (zDV Tryz.isAgg55 Tryz.sizeOf55 rfl rfl rfl rfl) (zAI rfl rfl) (zAI rfl rfl) rfl
theorem zMM {A:zJ} {D:Int} {G:Bool} {X:Bool} {r:zJ×Int×Int} (h:zI2 A D G X=some r):PFn Tryz.prog 23 [(AV.agg (zG A)),li D,(AV.lit (.bool G)),(AV.lit (.bool X))] (AV.tup [(AV.agg (zG r.1)),li r.2.1,li r.2.2]):=by
 refine zm Tryz.func23 rfl Tryz.ntmps23 Tryz.results23 rfl ?_
 unfold zI2 at h
 refine zH<|zC<|zX (H':=[.box 26 (zG A)]) (zu (t:=26) rfl)<|zX (H':=[.box 26 (zG A),.box 26 (zG ⟨[],0,0,[],[]⟩)]) zv3<|zA (zD rfl)<|zA (zD rfl) ?_
 refine zF<|zH<|zH<|zC<|zA (zS (k:=0) (o:=0) (m:=5) Tryz.isAgg26 Tryz.sizeOf26 rfl rfl rfl rfl rfl)<|zP h fun x1 w1 h => ?_
 refine ze Tryz.func13 rfl (by kernel_rfl) (.fn 13) rfl rfl (zA1 w1) rfl<|zA (zD rfl)<|zF<|zH<|zC<|zA (zB rfl) ?_
 refine zA (z7 rfl rfl)<|zF ?_
 refine zW h rfl (fun b1 h => ?_) (fun b1 h => ?_)
 ·refine zH<|zC<|zA zOP<|zA (zB rfl)<|zd (H':=[.box 26 (zG A),.box 26 (zG (⟨([]:List Int),0,0,([]:List zi),([]:List zL)⟩:zJ))]) (zT (k:=1) (o:=0) (cs:=(zG ⟨[],0,0,[],[]⟩)) (la:=(zG (⟨([]:List Int),0,0,([]:List zi),([]:List zL)⟩:zJ))) Tryz.sizeOf26 rfl rfl rfl rfl)<|zA (zD rfl) ?_
  refine zA (zD rfl)<|zF<|zb ?_
  cases h
  exact zC7 (zDV Tryz.isAgg26 Tryz.sizeOf26 rfl rfl rfl rfl) (zAI rfl rfl) (zAI rfl rfl) rfl
 refine zQ<|zH<|zH<|zC<|zA (zB rfl)<|zA (zh rfl rfl) ?_
 refine zA (zB rfl)<|zZ rfl rfl (fun c1=>zq.step (zB rfl))<|zZ rfl rfl (fun c2=>zq.step (zK Tryz.underlying26 rfl rfl Tryz.sizeOf22 rfl))<|zZ rfl rfl (fun c3=>zq.step (zN Tryz.isAgg22 (z8 rfl c3) rfl rfl rfl))<|zZ rfl rfl (fun c4=>zq.step (zY Tryz.underlying22 (z8 rfl c4)))<|zZ rfl rfl (fun c5=>zq.step (zAu (z8 rfl c5) (z8 rfl c5))) ?_
 refine zA (zj rfl rfl)<|zF ?_
 refine zW h rfl (fun b2 h => ?_) (fun b2 h => ?_)
 ·refine zH<|zC<|zA zOP<|zd (H':=[.box 26 (zG A),.box 26 (zG (⟨([]:List Int),0,0,([]:List zi),([]:List zL)⟩:zJ))]) (zT (k:=1) (o:=0) (cs:=(zG ⟨[],0,0,[],[]⟩)) (la:=(zG (⟨([]:List Int),0,0,([]:List zi),([]:List zL)⟩:zJ))) Tryz.sizeOf26 rfl rfl rfl rfl)<|zA (zD rfl)<|zA (zD rfl) ?_
  refine zF<|zb ?_
  cases h
  exact zC7 (zDV Tryz.isAgg26 Tryz.sizeOf26 rfl rfl rfl rfl) (zAI rfl rfl) (zAI rfl rfl) rfl
 refine zQ<|zH<|zM h fun b3 h=>zP h fun x2 w2 h => ?_
 refine zAm (n:=131) (m:=0) [.head 0 0,.head 0 0,.head 0 0,.head 0 0,.head 0 0,.head 0 0,.head 0 0,.head 0 0,.head 0 0,.head 0 0,.head 0 0,.head 0 0,.head 0 0,.head 0 0] [] [AV.ptr 0 3,ls zO A.zones,AV.ptr 0 0,ls cI A.nodes,li D,(AV.rp (cI (at_ A.nodes D)) 0),(li (at_ A.nodes D)),(AV.lit (.bool G)),(AV.tup [ls cI x2.1,li x2.2]),(AV.tup [ls cI x2.1,li x2.2]),ls cI x2.1,li x2.2,ls cI x2.1,li x2.2] [[.box 26 (zG A),.box 26 (zG ⟨[],0,0,[],[]⟩)]] (by kernel_rfl) (by kernel_rfl) ⟨D1 fun e s p=>zK (k:=0) (o:=0) (off:=3) Tryz.underlying26 rfl rfl Tryz.sizeOf23 (s 4 rfl),D1 fun e s p=>zN (k:=0) (o:=3) Tryz.isAgg23 p.1 rfl rfl rfl,D1 fun e s p=>zK (k:=0) (o:=0) (off:=0) Tryz.underlying26 rfl rfl Tryz.sizeOf22 (s 4 rfl),D1 fun e s p=>zN (k:=0) (o:=0) Tryz.isAgg22 p.1 rfl rfl rfl,D1 fun e s p=>zB (s 1 rfl),D1 fun e s p=>zV (f:=cI) (l:=A.nodes) (i:=D) Tryz.underlying22 Tryz.sizeOf3 (fun _=>rfl) p.1 p.2.1 b3,D1 fun e s p=>zU (o:=0) Tryz.isAgg3 p.1 rfl,D1 fun e s p=>zB (s 2 rfl),?_,D1 fun e s p=>zB p.1,D1 fun e s p=>za p.1 rfl,D1 fun e s p=>za p.1 rfl,D1 fun e s p=>zD p.2.2.2.2.2.2.2.2.2.2.2.2.1,D1 fun e s p=>zD p.2.2.2.2.2.2.2.2.2.2.2.2.2.1,trivial⟩ ?_
 ·
  intro e9 s9 p9
  refine ze (r:=(AV.tup [ls cI x2.1,li x2.2])) (la:=[ls zO A.zones,(li (at_ A.nodes D)),(AV.lit (.bool G))]) Tryz.func53 rfl (by kernel_rfl) (.fn 53) (zAL p9.1 (zAL p9.2.1 (zAL p9.2.2.1 rfl))) rfl (zKD w2) rfl ?_
  exact zF ⟨fun _=>rfl,rfl⟩
 intro e15 s15 hq1
 refine zAS (zBI (l:=[(1,(li D)),(3,(AV.lit (.bool X))),(4,(AV.ptr 0 0)),(8,(AV.ptr 1 0)),(12,(ls cI x2.1))]) ⟨s15 1 rfl,s15 3 rfl,s15 4 rfl,s15 8 rfl,(hq1 12 (by decide) (by decide)),trivial⟩) ?_
 refine zx (r:=r) (fun (_:Unit)=>mkE [(8,(AV.ptr 0 0))]) (fun _=>[.box 26 (zG ⟨[],0,0,[],[]⟩)]) (fun _=>zG2 ) ?_ ?_
 ·
  refine zH<|zC<|zA (zB rfl)<|zA (zY Tryz.underlying22 rfl)<|zA (zB rfl)<|zF ?_
  refine zR<|zt (σ:=Int) (fun i1=>mkE [(1,(li D)),(3,(AV.lit (.bool X))),(4,(AV.ptr 0 0)),(8,(AV.ptr 1 0)),(49,(ls cI x2.1)),(50,(li (x2.1.length:Int))),(51,(li i1))]) (fun i1=>[.box 26 (zG A),.box 26 (zG ⟨[],0,0,[],[]⟩)]) (fun n0 i1=>zDs A D X x2 n0 i1) 0 h (fun _=>rfl) (zAD [0,1] rfl rfl (by kernel_rfl)) ?_
  clear h
  intro n0 i1 h
  replace h:zHE A D X x2 (zDs A D X x2 n0) i1=some r:=h
  unfold zHE at h
  refine zH<|zC<|zA (zh rfl rfl)<|zF<|zH ?_
  refine zW h rfl (fun b4 h => ?_) (fun b4 h => ?_)
  ·refine zQ ?_
   refine zx (r:=r) (fun (_:Unit)=>mkE [(1,(li D)),(3,(AV.lit (.bool X))),(4,(AV.ptr 0 0)),(8,(AV.ptr 1 0)),(49,(ls cI x2.1)),(50,(li (x2.1.length:Int))),(51,(li i1))]) (fun _=>[.box 26 (zG A),.box 26 (zG ⟨[],0,0,[],[]⟩)]) (fun _=>zHU (zDs A D X x2 n0) i1) ?_ ?_
   ·
    refine zR<|zH<|zC<|zM h fun b6 h=>zA (zV Tryz.underlying22 Tryz.sizeOf3 (fun _=>rfl) rfl rfl b6)<|zA (zU (o:=0) Tryz.isAgg3 rfl rfl) ?_
    refine zA (zD rfl)<|zF<|zH<|zH<|zC<|zA (zB rfl) ?_
    refine zA (zB rfl)<|zo rfl rfl (fun c6=>zq.step (zS (k:=0) (o:=0) (m:=5) Tryz.isAgg26 Tryz.sizeOf26 rfl rfl rfl rfl rfl))<|zo rfl rfl (fun c7=>zq.step (zB rfl))<|zP h fun x3 w3 h=>zCU (g:=56) (s:=X) (r':=(li x3)) rfl rfl (fun c8=>⟨52,_,_,[],[(AV.agg (zG A)),(li (at_ x2.1 i1))],[(AV.agg (zG A)),(li (at_ x2.1 i1))],li x3,[],Tryz.func52,rfl,by kernel_rfl,.fn 52,(zAL (z8 rfl c8) (zAL (z8 rfl c8) rfl)),⟨zAl.nr rfl,zAl.nr rfl,trivial⟩,zHe (zFy c8 w3),.inl rfl,rfl⟩)<|zo rfl rfl (fun c9=>zq.step (zA8 (z8 rfl c9) rfl)) ?_
    refine zA (z6 (j := .lit undef) rfl rfl)<|zA (zB rfl)<|zZ rfl rfl (fun c10=>zq.step (zB rfl))<|zZ rfl rfl (fun c11=>zq.step (zAv (t:=X) (z8 rfl c11)))<|zZ rfl rfl (fun c12=>zq.step (zB (z8 rfl c12)))<|zL3 (g:=65) (s' := !(X&&(decide (x3=0)))) (s := !X) rfl rfl (fun c13=>zq.step (zS (k:=0) (o:=0) (m:=5) Tryz.isAgg26 Tryz.sizeOf26 rfl rfl rfl rfl rfl)) ?_
    refine zL3 (g:=65) (s' := !(X&&(decide (x3=0)))) (s := !X) rfl rfl (fun c14=>zq.step (zB rfl))<|zP h fun x4 w4 h=>zNk (g:=65) (s' := !(X&&(decide (x3=0)))) (s := !X) (r':=(li x4)) rfl rfl (fun c15=>⟨39,_,_,[],[(AV.agg (zG A)),(li (at_ x2.1 i1))],[(AV.agg (zG A)),(li (at_ x2.1 i1))],li x4,[],Tryz.func39,rfl,by kernel_rfl,.fn 39,(zAL (z8 rfl c15) (zAL (z8 rfl c15) rfl)),⟨zAl.nr rfl,zAl.nr rfl,trivial⟩,zF4 (zFy c15 w4),.inl rfl,rfl⟩)<|zL3 (g:=65) (s' := !(X&&(decide (x3=0)))) (s := !X) rfl rfl (fun c16=>zq.step (zh (z8 rfl c16) rfl))<|zZ rfl rfl (fun c17=>zq.step (z6 (j := .lit undef) (z8 rfl c17) (zQB (c := !(X&&(decide (x3=0)))) (d := !X) (a:=(AV.lit (.bool (decide (x4<1))))) (j := .lit undef) rfl c17)))<|zA (zj rfl rfl) ?_
    refine zF ?_
    refine zW h rfl (fun b7 h => ?_) (fun b7 h => ?_)
    ·refine zz ?_
     exact ⟨(),zAD [0,1] rfl rfl (by kernel_rfl),h⟩
    refine zQ<|zH<|zC<|zA (zS (k:=0) (o:=0) (m:=5) Tryz.isAgg26 Tryz.sizeOf26 rfl rfl rfl rfl rfl)<|zP h fun x5 w5 h=>zDg (cs:=[ls cI x5.nodes,li x5.batch,li x5.high,AV.osl 51 10 (List.map zO x5.zones),AV.osl 55 1 (List.map zp x5.caches)]) (la:=[(AV.agg (zG A))]) (la':=[(AV.agg (zG A))]) (S:=[]) Tryz.func54 rfl (by kernel_rfl) (.fn 54) rfl ⟨zAl.nr rfl,trivial⟩ (zDp w5) (.inl rfl) ?_
    refine z5 (zJC (k:=2) (o:=4) (cs:=[ls cI x5.nodes,li x5.batch,li x5.high,AV.osl 51 10 (List.map zO x5.zones),AV.osl 55 1 (List.map zp x5.caches)]) (rows':=List.map zI x5.caches) rfl rfl (zDn (fun x=>zCl x)))<|zX (H':=[.box 26 (zG A),.box 26 (zG ⟨[],0,0,[],[]⟩),.val (.agg [ls cI x5.nodes,li x5.batch,li x5.high,AV.osl 51 10 (List.map zO x5.zones),AV.osl 55 1 (List.map zI x5.caches)]),.box 26 (zG ⟨[],0,0,[],[]⟩)]) zv3<|zd (H':=[.box 26 (zG A),.box 26 (zG ⟨[],0,0,[],[]⟩),.dead,.box 26 [ls cI x5.nodes,li x5.batch,li x5.high,AV.osl 51 10 (List.map zO x5.zones),AV.osl 55 1 (List.map zI x5.caches)]]) (zBW (k:=3) (o:=0) (j:=2) (cs:=(zG ⟨[],0,0,[],[]⟩)) (la:=[ls cI x5.nodes,li x5.batch,li x5.high,AV.osl 51 10 (List.map zO x5.zones),AV.osl 55 1 (List.map zI x5.caches)]) Tryz.sizeOf26 rfl rfl rfl rfl rfl (by decide))<|zF ?_
    refine zx (r:=r) (fun ((d1,d2,d3,l1,l2):(List Int)×Int×Int×(List zi)×(List zL))=>mkE [(1,(li D)),(8,(AV.ptr 0 0)),(15,(li (at_ x2.1 i1))),(16,(AV.ptr 1 0))]) (fun (d1,d2,d3,l1,l2)=>[.box 26 (zG ⟨[],0,0,[],[]⟩),.box 26 [ls cI d1,li d2,li d3,AV.osl 51 10 (List.map zO l1),AV.osl 55 1 (List.map zI l2)]]) (fun (d1,d2,d3,l1,l2)=>zFN D x2 i1 d1 d2 d3 l1 l2) ?_ ?_
    ·
     refine zH<|zC<|zA (zK Tryz.underlying26 rfl rfl Tryz.sizeOf24 rfl)<|z5 (zAZ (k:=3) (o:=4) (t':=55) (sz:=1) (rows:=List.map zI x5.caches) rfl rfl)<|zA (zN Tryz.isAgg24 rfl rfl rfl rfl)<|zA (zB rfl) ?_
     refine zM h fun b10 h=>zA (zy (f:=zI) (l:=x5.caches) (i:=D) Tryz.underlying24 Tryz.sizeOf55 rfl rfl rfl b10)<|zA (zK Tryz.underlying55 rfl rfl Tryz.sizeOf53 rfl)<|zA (zA3 (f:=zI) (l:=x5.caches) (i:=D) (c:=0) (a:=(ls (cS cI) ((at_ x5.caches D).lists))) Tryz.isAgg53 rfl rfl (by first | rfl | omega) b10 rfl rfl)<|zA (zB rfl)<|zM h fun b11 h => ?_
     refine zA (zV Tryz.underlying53 Tryz.sizeOf22 (fun _=>rfl) rfl rfl b11)<|zA (zU (o:=0) Tryz.isAgg22 rfl rfl)<|zA (zY Tryz.underlying22 rfl)<|zA (zA8 rfl rfl)<|zA (zB rfl)<|zo rfl rfl (fun c18=>zq.step (zB rfl)) ?_
     refine zo rfl rfl (fun c19=>zq.step (zB rfl))<|z5 (z9 (k:=3) (j:=4) (o:=4) rfl rfl rfl rfl)<|zP h fun x7 w7 h=>zQw (g:=85) (s:=decide (((at_ ((at_ x5.caches D).lists) (at_ x2.1 i1)).length:Int)=0)) (k:=3) (r:=(AV.lit (.bool x7.2))) (en' := .box 26 [ls cI x7.1.nodes,li x7.1.batch,li x7.1.high,AV.osl 51 10 (List.map zO x7.1.zones),AV.osl 55 1 (List.map zI x7.1.caches)]) rfl rfl (fun c23=>⟨55,_,_,[],[AV.ptr 3 0,li D,(li (at_ x2.1 i1))],[AV.ptr 0 0,li D,(li (at_ x2.1 i1))],_,Tryz.func55,rfl,by kernel_rfl,.fn 55,(zAL rfl (zAL (z8 rfl c23) (zAL (z8 rfl c23) rfl))),⟨zBs.ptr,zBs.of (zAl.nr rfl),zBs.of (zAl.nr rfl),trivial⟩,rfl,by kernel_rfl,by kernel_rfl,zJR (zFy c23 w7),rfl⟩) (fun c23=>by obtain rfl:=Option.some.inj (zXE c23 w7); rfl)<|zo rfl rfl (fun c24=>zq.step (zAv (t:=x7.2) (z8 rfl c24)))<|zA (z6 (j := .lit undef) rfl rfl) ?_
     refine zF ?_
     refine zW h rfl (fun b12 h => ?_) (fun b12 h => ?_)
     ·refine zx (r:=r) (fun ((d4,d5,d6,l3,l4):(List Int)×Int×Int×(List zi)×(List zL))=>mkE [(1,(li D)),(8,(AV.ptr 0 0)),(15,(li (at_ x2.1 i1))),(16,(AV.ptr 1 0))]) (fun (d4,d5,d6,l3,l4)=>[.box 26 (zG ⟨[],0,0,[],[]⟩),.box 26 [ls cI d4,li d5,li d6,AV.osl 51 10 (List.map zO l3),AV.osl 55 1 (List.map zI l4)]]) (fun (d4,d5,d6,l3,l4)=>zHI D x2 i1 d4 d5 d6 l3 l4) ?_ ?_
      ·
       refine zH<|zC<|zA (zK Tryz.underlying26 rfl rfl Tryz.sizeOf24 rfl)<|z5 (zAZ (k:=3) (o:=4) (t':=55) (sz:=1) (rows:=List.map zI x7.1.caches) rfl rfl)<|zA (zN Tryz.isAgg24 rfl rfl rfl rfl)<|zA (zCd (f:=zI) (l:=x7.1.caches) Tryz.underlying24 rfl rfl) ?_
       refine zA (zB rfl)<|zF<|zR<|zt (σ:=Int×(List Int)×Int×Int×(List zi)×(List zL)) (fun (i2,d7,d8,d9,l5,l6)=>mkE [(1,(li D)),(8,(AV.ptr 0 0)),(15,(li (at_ x2.1 i1))),(16,(AV.ptr 1 0)),(93,(li (x7.1.caches.length:Int))),(94,(li i2))]) (fun (i2,d7,d8,d9,l5,l6)=>[.box 26 (zG ⟨[],0,0,[],[]⟩),.box 26 [ls cI d7,li d8,li d9,AV.osl 51 10 (List.map zO l5),AV.osl 55 1 (List.map zI l6)]]) (fun n1 (i2,d7,d8,d9,l5,l6)=>zDj D x2 i1 x7 n1 i2 d7 d8 d9 l5 l6) (0,x7.1.nodes,x7.1.batch,x7.1.high,x7.1.zones,x7.1.caches) h (fun _=>rfl) (Rep.trans (z9 (k:=3) (j:=5) (o:=4) rfl rfl rfl rfl) (zAD [1,3] (l:=[(1,(li D)),(8,(AV.ptr 0 0)),(15,(li (at_ x2.1 i1))),(16,(AV.ptr 1 0)),(93,(li (x7.1.caches.length:Int))),(94,(li 0))]) rfl rfl (by kernel_rfl))) ?_
       clear h
       rintro n1 ⟨i2,d7,d8,d9,l5,l6⟩ h
       replace h:zG8 D x2 i1 x7 (zDj D x2 i1 x7 n1) i2 d7 d8 d9 l5 l6=some r:=h
       unfold zG8 at h
       refine zH<|zC<|zA (zh rfl rfl)<|zF<|zH ?_
       refine zW h rfl (fun b13 h => ?_) (fun b13 h => ?_)
       ·refine zQ ?_
        refine zx (r:=r) (fun ((d10,d11,d12,l7,l8):(List Int)×Int×Int×(List zi)×(List zL))=>mkE [(1,(li D)),(8,(AV.ptr 0 0)),(15,(li (at_ x2.1 i1))),(16,(AV.ptr 1 0)),(93,(li (x7.1.caches.length:Int))),(94,(li i2))]) (fun (d10,d11,d12,l7,l8)=>[.box 26 (zG ⟨[],0,0,[],[]⟩),.box 26 [ls cI d10,li d11,li d12,AV.osl 51 10 (List.map zO l7),AV.osl 55 1 (List.map zI l8)]]) (fun (d10,d11,d12,l7,l8)=>zFQ (zDj D x2 i1 x7 n1) i2 d10 d11 d12 l7 l8) ?_ ?_
        ·
         refine zR<|zH<|zC<|zA (zB rfl)<|zA (zD rfl)<|zF ?_
         refine zH<|zC<|zA (zB rfl)<|zA (zB rfl)<|zA (z7 rfl rfl)<|zF ?_
         refine zW h rfl (fun b15 h => ?_) (fun b15 h => ?_)
         ·refine zC<|zA (zB rfl)<|zA (zB rfl)<|zP h fun x9 w9 h=>zCu (k:=1) (la:=[AV.ptr 1 0,li i2,(li (at_ x2.1 i1))]) (la':=[AV.ptr 0 0,li i2,(li (at_ x2.1 i1))]) (r:=(.tup [])) (S:=[]) (en' := .box 26 [ls cI x9.nodes,li x9.batch,li x9.high,AV.osl 51 10 (List.map zO x9.zones),AV.osl 55 1 (List.map zI x9.caches)]) Tryz.func56 rfl (by kernel_rfl) (.fn 56) rfl ⟨zBs.ptr,zBs.of (zAl.nr rfl),zBs.of (zAl.nr rfl),trivial⟩ rfl rfl (by kernel_rfl) (by kernel_rfl) (zHH w9) rfl (.inl rfl)<|zF ?_
          exact ⟨(x9.nodes,x9.batch,x9.high,x9.zones,x9.caches),zAD [0,1] rfl rfl (by kernel_rfl),h⟩
         refine zQ ?_
         exact ⟨(d7,d8,d9,l5,l6),zAD [0,1] rfl rfl (by kernel_rfl),h⟩
        clear h
        rintro ⟨d10,d11,d12,l7,l8⟩ h
        unfold zFQ at h
        refine zC<|zM h fun b14 h=>zA (zg rfl rfl b14)<|zA (zB rfl)<|zF ?_
        exact ⟨((i2+1),d10,d11,d12,l7,l8),zAD [0,1] rfl rfl (by kernel_rfl),h⟩
       refine zz ?_
       exact ⟨(d7,d8,d9,l5,l6),zAD [0,1] rfl rfl (by kernel_rfl),h⟩
      clear h
      rintro ⟨d4,d5,d6,l3,l4⟩ h
      unfold zHI at h
      refine zC<|zA (zB rfl)<|zA (zB rfl)<|zP h fun x8 w8 h=>zCu (k:=1) (la:=[AV.ptr 1 0,li D,(li (at_ x2.1 i1))]) (la':=[AV.ptr 0 0,li D,(li (at_ x2.1 i1))]) (r:=(AV.lit (.bool x8.2))) (S:=[]) (en' := .box 26 [ls cI x8.1.nodes,li x8.1.batch,li x8.1.high,AV.osl 51 10 (List.map zO x8.1.zones),AV.osl 55 1 (List.map zI x8.1.caches)]) Tryz.func55 rfl (by kernel_rfl) (.fn 55) rfl ⟨zBs.ptr,zBs.of (zAl.nr rfl),zBs.of (zAl.nr rfl),trivial⟩ rfl rfl (by kernel_rfl) (by kernel_rfl) (zJR w8) rfl (.inl rfl)<|zF ?_
      exact ⟨(x8.1.nodes,x8.1.batch,x8.1.high,x8.1.zones,x8.1.caches),zAD [0,1] rfl rfl (by kernel_rfl),h⟩
     refine zQ ?_
     exact ⟨(x7.1.nodes,x7.1.batch,x7.1.high,x7.1.zones,x7.1.caches),zAD [1,3] rfl rfl (by kernel_rfl),h⟩
    clear h
    rintro ⟨d1,d2,d3,l1,l2⟩ h
    unfold zFN at h
    refine zH<|zC<|zA (zK Tryz.underlying26 rfl rfl Tryz.sizeOf24 rfl)<|z5 (zAZ (k:=1) (o:=4) (t':=55) (sz:=1) (rows:=List.map zI l2) rfl rfl)<|zA (zN Tryz.isAgg24 rfl rfl rfl rfl)<|zA (zB rfl) ?_
    refine zM h fun b8 h=>zA (zy (f:=zI) (l:=l2) (i:=D) Tryz.underlying24 Tryz.sizeOf55 rfl rfl rfl b8)<|zA (zBO (f:=zI) (l:=l2) (i:=D) (c:=0) (q:=1) (la:=(zI (at_ l2 D))) Tryz.isAgg55 Tryz.sizeOf55 rfl rfl (by first | rfl | omega) b8 rfl rfl rfl)<|zA (zB rfl)<|zP h fun x6 w6 h=>ze Tryz.func57 rfl (by kernel_rfl) (.fn 57) rfl rfl (zOb w6) rfl ?_
    refine zA (zB rfl)<|zA (za rfl rfl)<|zA (za rfl rfl)<|zA (za rfl rfl)<|zX (H':=[.box 26 (zG ⟨[],0,0,[],[]⟩),.box 26 [ls cI d1,li d2,li d3,AV.osl 51 10 (List.map zO l1),AV.hd 2],.vec 55 1 (List.map zI l2),.box 55 [(ls (cS cI) ([]:List (List Int)))]]) zv1<|zd (H':=[.box 26 (zG ⟨[],0,0,[],[]⟩),.box 26 [ls cI d1,li d2,li d3,AV.osl 51 10 (List.map zO l1),AV.hd 2],.vec 55 1 (List.map zI l2),.box 55 (zI x6.1)]) (zT (k:=3) (o:=0) (cs:=[(ls (cS cI) ([]:List (List Int)))]) (la:=(zI x6.1)) Tryz.sizeOf55 rfl rfl rfl rfl) ?_
    refine zA (zD rfl)<|zA (zD rfl)<|zF<|zH<|zH<|zC ?_
    refine zA (zB rfl)<|zA (z7 rfl rfl)<|zF ?_
    refine zW h rfl (fun b9 h => ?_) (fun b9 h => ?_)
    ·refine zH<|zC<|zA zOP<|zA (zB rfl)<|zd (H':=[.box 26 (zG (⟨([]:List Int),0,0,([]:List zi),([]:List zL)⟩:zJ)),.box 26 [ls cI d1,li d2,li d3,AV.osl 51 10 (List.map zO l1),AV.hd 2],.vec 55 1 (List.map zI l2),.box 55 (zI x6.1)]) (zT (k:=0) (o:=0) (cs:=(zG ⟨[],0,0,[],[]⟩)) (la:=(zG (⟨([]:List Int),0,0,([]:List zi),([]:List zL)⟩:zJ))) Tryz.sizeOf26 rfl rfl rfl rfl)<|zA (zD rfl) ?_
     refine zA (zD rfl)<|zF<|zb ?_
     cases h
     exact zC7 (zDV Tryz.isAgg26 Tryz.sizeOf26 rfl rfl rfl rfl) (zAI rfl rfl) (zAI rfl rfl) rfl
    refine zQ<|zH<|zC<|zA (zK Tryz.underlying26 rfl rfl Tryz.sizeOf24 rfl)<|zA (zN Tryz.isAgg24 rfl rfl rfl rfl)<|zA (zB rfl) ?_
    refine zA (zS (k:=3) (o:=0) (m:=1) Tryz.isAgg55 Tryz.sizeOf55 rfl rfl rfl rfl rfl)<|zA (zy (f:=zI) (l:=l2) (i:=D) Tryz.underlying24 Tryz.sizeOf55 rfl rfl rfl b8)<|zd (H':=[.box 26 (zG ⟨[],0,0,[],[]⟩),.box 26 [ls cI d1,li d2,li d3,AV.osl 51 10 (List.map zO l1),AV.hd 2],.vec 55 1 (List.map zI (l2.set D.toNat x6.1)),.box 55 (zI x6.1)]) (zBG (k:=2) (o:=(D.toNat*1)) (f:=zI) (l:=l2) (i:=D) (z:=x6.1) Tryz.sizeOf55 (fun _=>rfl) rfl rfl (by first | rfl | omega) b8 rfl rfl)<|zF<|zH<|zC ?_
    refine z5 (zA4 (k:=1) (o:=3) (rows':=List.map zO l1) rfl rfl (zAM (fun _=>rfl)))<|z5 (z9 (k:=1) (j:=2) (o:=4) rfl rfl rfl rfl)<|z5 (zA4 (k:=1) (o:=4) (rows':=List.map zI (l2.set D.toNat x6.1)) rfl rfl (zAM (fun _=>rfl)))<|zA (zS (k:=1) (o:=0) (m:=5) Tryz.isAgg26 Tryz.sizeOf26 rfl rfl rfl rfl rfl)<|zA (zB rfl)<|zd (H':=[.box 26 (zG (⟨d1,d2,d3,l1,l2.set D.toNat x6.1⟩:zJ)),.box 26 (zG ⟨d1,d2,d3,l1,l2.set D.toNat x6.1⟩),.dead,.box 55 (zI x6.1)]) (zT (k:=0) (o:=0) (cs:=(zG ⟨[],0,0,[],[]⟩)) (la:=(zG (⟨d1,d2,d3,l1,l2.set D.toNat x6.1⟩:zJ))) Tryz.sizeOf26 rfl rfl rfl rfl) ?_
    refine zA (zD rfl)<|zA (zD rfl)<|zF<|zb ?_
    cases h
    exact zC7 (zDV Tryz.isAgg26 Tryz.sizeOf26 rfl rfl rfl rfl) (zAI rfl rfl) (zAI rfl rfl) rfl
   clear h
   intro _ h
   unfold zHU at h
   refine zC<|zM h fun b5 h=>zA (zg rfl rfl b5)<|zA (zB rfl)<|zF ?_
   exact ⟨(i1+1),zAD [0,1] rfl rfl (by kernel_rfl),h⟩
  refine zz ?_
  exact ⟨(),zAD [1] rfl rfl (by kernel_rfl),h⟩
 clear h
 intro _ h
 unfold zG2 at h
 refine zH<|zC<|zA zOP<|zd (H':=[.box 26 (zG (⟨([]:List Int),0,0,([]:List zi),([]:List zL)⟩:zJ))]) (zT (k:=0) (o:=0) (cs:=(zG ⟨[],0,0,[],[]⟩)) (la:=(zG (⟨([]:List Int),0,0,([]:List zi),([]:List zL)⟩:zJ))) Tryz.sizeOf26 rfl rfl rfl rfl)<|zA (zD rfl)<|zA (zD rfl) ?_
 refine zF<|zb ?_
 cases h
 exact zC7 (zDV Tryz.isAgg26 Tryz.sizeOf26 rfl rfl rfl rfl) (zAI rfl rfl) (zAI rfl rfl) rfl
theorem zKU {W:List Int} {uP:Int} {r:Int} (h:zDo W uP=some r):PFn Tryz.prog 144 [ls cI W,li uP] (li r):=by
 refine zm Tryz.func144 rfl Tryz.ntmps144 Tryz.results144 rfl ?_
 unfold zDo at h
 refine zH<|zC<|zA (zD rfl)<|zF ?_
 refine zx (r:=r) (fun (_:Unit)=>mkE []) (fun _=>[]) (fun _=>zEe ) ?_ ?_
 ·
  refine zH<|zC<|zA (zB rfl)<|zA (zY Tryz.underlying22 rfl)<|zA (zB rfl)<|zF ?_
  refine zR<|zt (σ:=Int) (fun i1=>mkE [(0,(ls cI W)),(1,(li uP)),(7,(li (W.length:Int))),(8,(li i1))]) (fun i1=>[]) (fun n0 i1=>zBA W uP n0 i1) 0 h (fun _=>rfl) (zAD [] rfl rfl (by kernel_rfl)) ?_
  clear h
  intro n0 i1 h
  replace h:zBB W uP (zBA W uP n0) i1=some r:=h
  unfold zBB at h
  refine zH<|zC<|zA (zh rfl rfl)<|zF<|zH ?_
  refine zW h rfl (fun b1 h => ?_) (fun b1 h => ?_)
  ·refine zQ<|zH<|zR<|zH<|zC<|zA (zB rfl) ?_
   refine zA (zD rfl)<|zF<|zH<|zC<|zA (zB rfl)<|zA (zB rfl) ?_
   refine zA (zB rfl)<|zM h fun b2 h=>zA (zV Tryz.underlying22 Tryz.sizeOf3 (fun _=>rfl) rfl rfl b2)<|zA (zU (o:=0) Tryz.isAgg3 rfl rfl)<|zA (zA8 rfl rfl)<|zF ?_
   refine zW h rfl (fun b3 h => ?_) (fun b3 h => ?_)
   ·refine zH<|zC<|zA (zB rfl)<|zA (zD rfl)<|zF<|zb ?_
    cases h
    exact zv (zAI rfl rfl)
   refine zQ<|zC<|zM h fun b4 h=>zA (zg rfl rfl b4)<|zA (zB rfl)<|zF ?_
   exact ⟨(i1+1),zAD [] rfl rfl (by kernel_rfl),h⟩
  refine zz ?_
  exact ⟨(),zAD [] rfl rfl (by kernel_rfl),h⟩
 clear h
 intro _ h
 unfold zEe at h
 refine zH<|zC<|zA (zD rfl)<|zF<|zb ?_
 cases h
 exact zv (zAI rfl rfl)
theorem zI0 {W:List Int} {uP:Int} {r:Bool} (h:zBw W uP=some r):PFn Tryz.prog 128 [ls cI W,li uP] (AV.lit (.bool r)):=by
 refine zm Tryz.func128 rfl Tryz.ntmps128 Tryz.results128 rfl ?_
 unfold zBw at h
 refine zH<|zC<|zA (zD rfl)<|zF<|zH<|zC ?_
 refine zA (zB rfl)<|zA (zB rfl)<|zP h fun x1 w1 h=>ze Tryz.func144 rfl (by kernel_rfl) (.fn 144) rfl rfl (zKU w1) rfl<|zA (zAu rfl rfl)<|zA (zD rfl) ?_
 refine zF<|zb ?_
 cases h
 exact zv (zAI rfl rfl)
theorem zLA {J:zL} {uH:Int} {uM:Int} {r:Bool} (h:zAi J uH uM=some r):PFn Tryz.prog 127 [(AV.agg (zI J)),(AV.rp [li uH] 0),(AV.rp [li uM] 0)] (AV.lit (.bool r)):=by
 refine zm Tryz.func127 rfl Tryz.ntmps127 Tryz.results127 rfl ?_
 unfold zAi at h
 refine zH<|zC<|zX (H':=[.box 55 (zI J)]) (zu (t:=55) rfl)<|zA (zD rfl)<|zF<|zH ?_
 refine zM h fun b1 h=>zP h fun x1 w1 h => ?_
 refine zAm (n:=12) (m:=0) [.head 0 0,.head 0 0,.head 0 0,.head 0 0,.head 0 0,.head 0 0,.head 0 0,.head 0 0] [] [AV.ptr 0 0,(ls (cS cI) J.lists),li uH,(AV.rp ((cS cI) (at_ J.lists uH)) 0),(ls cI (at_ J.lists uH)),li uM,(AV.lit (.bool x1)),(AV.lit (.bool x1))] [[.box 55 (zI J)]] (by kernel_rfl) (by kernel_rfl) ⟨D1 fun e s p=>zK (k:=0) (o:=0) (off:=0) Tryz.underlying55 rfl rfl Tryz.sizeOf53 (s 3 rfl),D1 fun e s p=>zN (k:=0) (o:=0) Tryz.isAgg53 p.1 rfl rfl rfl,D1 fun e s p=>zU (o:=0) Tryz.isAgg3 (s 1 rfl) rfl,D1 fun e s p=>zV (f:=(cS cI)) (l:=J.lists) (i:=uH) Tryz.underlying53 Tryz.sizeOf22 (fun _=>rfl) p.1 p.2.1 b1,D1 fun e s p=>zU (o:=0) Tryz.isAgg22 p.1 rfl,D1 fun e s p=>zU (o:=0) Tryz.isAgg3 (s 2 rfl) rfl,?_,D1 fun e s p=>zD p.2.2.2.2.2.2.2.2.1,trivial⟩ ?_
 ·
  intro e7 s7 p7
  refine ze (r:=(AV.lit (.bool x1))) (la:=[(ls cI (at_ J.lists uH)),li uM]) Tryz.func128 rfl (by kernel_rfl) (.fn 128) (zAL p7.1 (zAL p7.2.1 rfl)) rfl (zI0 w1) rfl ?_
  exact zF ⟨fun _=>rfl,rfl⟩
 intro e9 s9 hq1
 refine zAS (zBI (l:=[(4,(AV.lit (.bool x1)))]) ⟨(hq1 7 (by decide) (by decide)),trivial⟩)<|zb ?_
 cases h
 exact zv (zAI rfl rfl)
theorem zEM {W : List zL} {uC : zL → Option Bool} {g_a_f : FuncId} {cf_a_f : Func} {code_a_f : Code} {caps_a_f : List AV} (hcf_a_f : Tryz.prog.funcs[g_a_f]? = some cf_a_f) (hcb_a_f : cf_a_f.body = some code_a_f) (hcn_a_f : (cf_a_f.name == "runtime.NumGoroutine") = false) (hnr_a_f : caps_a_f.all nr = true) (hg_a_f : ∀ {x0 : zL} {y : Bool}, uC x0 = some y → PFn Tryz.prog g_a_f ((AV.agg (zI x0)) :: caps_a_f) (AV.lit (.bool y))) {r : Int} (h : zAV W uC = some r) : PFn Tryz.prog 126 [(ls zI W), (AV.clo g_a_f caps_a_f)] (li r) := by
 refine zm Tryz.func126 rfl Tryz.ntmps126 Tryz.results126 rfl ?_
 unfold zAV at h
 refine zH<|zC<|zA (zD rfl)<|zF ?_
 refine zx (r:=r) (fun (_:Unit)=>mkE []) (fun _=>[]) (fun _=>zA6 ) ?_ ?_
 ·
  refine zH<|zC<|zA (zB rfl)<|zA (zY Tryz.underlying24 rfl)<|zA (zB rfl)<|zF ?_
  refine zR<|zt (σ:=Int) (fun i1=>mkE [(0,(ls zI W)),(1,(AV.clo g_a_f caps_a_f)),(7,(li (W.length:Int))),(8,(li i1))]) (fun i1=>[]) (fun n0 i1=>zAA W uC n0 i1) 0 h (fun _=>rfl) (zBV (n:=19) (m:=0) [] (l:=[(0,(ls zI W)),(1,(AV.clo g_a_f caps_a_f)),(7,(li (W.length:Int))),(8,(li 0))]) ⟨⟨Sub.refl _,by kernel_rfl⟩,⟨zDb hnr_a_f,zDa hnr_a_f⟩,⟨Sub.refl _,by kernel_rfl⟩,⟨Sub.refl _,by kernel_rfl⟩,trivial⟩ rfl rfl trivial) ?_
  clear h
  intro n0 i1 h
  replace h:zw W uC (zAA W uC n0) i1=some r:=h
  unfold zw at h
  refine zH<|zC<|zA (zh rfl rfl)<|zF<|zH ?_
  refine zW h rfl (fun b1 h => ?_) (fun b1 h => ?_)
  ·refine zQ<|zH<|zR<|zH<|zC<|zA (zB rfl) ?_
   refine zA (zD rfl)<|zF<|zH<|zC<|zA (zB rfl)<|zA (zB rfl) ?_
   refine zA (zB rfl)<|zM h fun b2 h=>zA (zV Tryz.underlying24 Tryz.sizeOf55 (fun _=>rfl) rfl rfl b2)<|zA (zAf (row:=(zI (at_ W i1))) (o:=0) (m:=1) (la:=(zI (at_ W i1))) Tryz.isAgg55 Tryz.sizeOf55 rfl rfl rfl)<|zP h fun x1 w1 h=>zAq (S:=[]) hcf_a_f hcb_a_f hcn_a_f (.clo (caps:=caps_a_f) rfl) rfl (zDY.c (zAl.nr rfl) (zDY.nrs hnr_a_f)) (hg_a_f w1) (.inl rfl) rfl ?_
   refine zF ?_
   refine zW h rfl (fun b3 h => ?_) (fun b3 h => ?_)
   ·refine zH<|zC<|zA (zB rfl)<|zA (zD rfl)<|zF<|zb ?_
    cases h
    exact zv (zAI rfl rfl)
   refine zQ<|zC<|zM h fun b4 h=>zA (zg rfl rfl b4)<|zA (zB rfl)<|zF ?_
   exact ⟨(i1+1),zBV (n:=19) (m:=0) [] (l:=[(0,(ls zI W)),(1,(AV.clo g_a_f caps_a_f)),(7,(li (W.length:Int))),(8,(li (i1+1)))]) ⟨⟨Sub.refl _,by kernel_rfl⟩,⟨zDb hnr_a_f,zDa hnr_a_f⟩,⟨Sub.refl _,by kernel_rfl⟩,⟨Sub.refl _,by kernel_rfl⟩,trivial⟩ rfl rfl trivial,h⟩
  refine zz ?_
  exact ⟨(),zAD [] rfl rfl (by kernel_rfl),h⟩
 clear h
 intro _ h
 unfold zA6 at h
 refine zH<|zC<|zA (zD rfl)<|zF<|zb ?_
 cases h
 exact zv (zAI rfl rfl)
theorem zJF {B:zJ} {C:Int} {Q:Int} {r:Int} (h:zCW B C Q=some r):PFn Tryz.prog 74 [(AV.agg (zG B)),li C,li Q] (li r):=by
 refine zm Tryz.func74 rfl Tryz.ntmps74 Tryz.results74 rfl ?_
 unfold zCW at h
 refine zH<|zC<|zX (H':=[.box 26 (zG B)]) (zu (t:=26) rfl)<|zX (H':=[.box 26 (zG B),.box 3 [li C]]) (zIw (t:=3) (a:=(li C)) rfl rfl)<|zX (H':=[.box 26 (zG B),.box 3 [li C],.box 3 [li Q]]) (zIw (t:=3) (a:=(li Q)) rfl rfl)<|zA (zD rfl) ?_
 refine zF<|zH<|zC<|zA (zK Tryz.underlying26 rfl rfl Tryz.sizeOf24 rfl)<|zA (zN Tryz.isAgg24 rfl rfl rfl rfl)<|zA (zLP (la:=[AV.ptr 1 0,AV.ptr 2 0]) rfl) ?_
 refine zP h fun x1 w1 h=>zAq (r':=(li x1)) (la:=[ls zI B.caches,(AV.clo 127 [AV.ptr 1 0,AV.ptr 2 0])]) (la':=[ls zI B.caches,(AV.clo 127 [(AV.rp [li C] 0),(AV.rp [li Q] 0)])]) (r:=(li x1)) (S:=[1,2]) Tryz.func126 rfl (by kernel_rfl) (.fn 126) rfl ⟨zAl.nr rfl,zAl.clo (⟨zAl.ptr (cs:=[li C]) rfl rfl rfl,zAl.ptr (cs:=[li Q]) rfl rfl rfl,trivial⟩),trivial⟩ (zEM Tryz.func127 rfl (by kernel_rfl) rfl (fun hy=>zLA  hy) w1) (.inr trivial) rfl<|zA (zD rfl)<|zF<|zb ?_
 cases h
 exact zv (zAI rfl rfl)
theorem zHm {B:zJ} {C:Int} {Q:Int} {r:Bool} (h:zD5 B C Q=some r):PFn Tryz.prog 50 [(AV.agg (zG B)),li C,li Q] (AV.lit (.bool r)):=by
 refine zm Tryz.func50 rfl Tryz.ntmps50 Tryz.results50 rfl ?_
 unfold zD5 at h
 refine zH<|zC<|zX (H':=[.box 26 (zG B)]) (zu (t:=26) rfl)<|zA (zD rfl)<|zF<|zH ?_
 refine zC<|zA (zK Tryz.underlying26 rfl rfl Tryz.sizeOf23 rfl)<|zA (zN Tryz.isAgg23 rfl rfl rfl rfl)<|zA (zB rfl)<|zM h fun b1 h=>zA (zV Tryz.underlying23 Tryz.sizeOf51 (fun _=>rfl) rfl rfl b1) ?_
 refine zA (zAf (row:=(zO (at_ B.zones C))) (o:=0) (m:=10) (la:=(zO (at_ B.zones C))) Tryz.isAgg51 Tryz.sizeOf51 rfl rfl rfl)<|zA (zB rfl)<|zP h fun x1 w1 h=>ze Tryz.func45 rfl (by kernel_rfl) (.fn 45) rfl rfl (zLZ w1) rfl<|zA (zB rfl)<|zZ rfl rfl (fun c1=>zq.step (zS (k:=0) (o:=0) (m:=5) Tryz.isAgg26 Tryz.sizeOf26 rfl rfl rfl rfl rfl)) ?_
 refine zZ rfl rfl (fun c2=>zq.step (zB rfl))<|zZ rfl rfl (fun c3=>zq.step (zB rfl))<|zP h fun x2 w2 h=>zCX (g:=14) (s:=x1) (r':=(li x2)) rfl rfl (fun c4=>⟨74,_,_,[],[(AV.agg (zG B)),li C,li Q],[(AV.agg (zG B)),li C,li Q],li x2,[],Tryz.func74,rfl,by kernel_rfl,.fn 74,(zAL (z8 rfl c4) (zAL (z8 rfl c4) (zAL (z8 rfl c4) rfl))),⟨zAl.nr rfl,zAl.nr rfl,zAl.nr rfl,trivial⟩,zJF (zFy c4 w2),.inl rfl,rfl⟩)<|zZ rfl rfl (fun c5=>zq.step (zAu (z8 rfl c5) rfl))<|zA (zj rfl rfl) ?_
 refine zA (zD rfl)<|zF<|zb ?_
 cases h
 exact zv (zAI rfl rfl)
theorem zI1 {B:zJ} {Q:Int} {r:Bool} (h:zGa B Q=some r):PFn Tryz.prog 19 [(AV.agg (zG B)),li Q] (AV.lit (.bool r)):=by
 refine zm Tryz.func19 rfl Tryz.ntmps19 Tryz.results19 rfl ?_
 unfold zGa at h
 refine zH<|zC<|zX (H':=[.box 26 (zG B)]) (zu (t:=26) rfl)<|zA (zD rfl)<|zF<|zH ?_
 refine zH<|zC<|zA (zS (k:=0) (o:=0) (m:=5) Tryz.isAgg26 Tryz.sizeOf26 rfl rfl rfl rfl rfl)<|zP h fun x1 w1 h=>ze Tryz.func13 rfl (by kernel_rfl) (.fn 13) rfl rfl (zA1 w1) rfl<|zA (z7 rfl rfl) ?_
 refine zF ?_
 refine zW h rfl (fun b1 h => ?_) (fun b1 h => ?_)
 ·refine zH<|zC<|zA (zD rfl)<|zF<|zb ?_
  cases h
  exact zv (zAI rfl rfl)
 refine zQ<|zH<|zC<|zA (zS (k:=0) (o:=0) (m:=5) Tryz.isAgg26 Tryz.sizeOf26 rfl rfl rfl rfl rfl)<|zA (zB rfl)<|zP h fun x2 w2 h => ?_
 refine ze Tryz.func44 rfl (by kernel_rfl) (.fn 44) rfl rfl (zEZ w2) rfl<|zA (zD rfl)<|zF<|zH<|zC<|zA (zB rfl) ?_
 refine zA (zAu rfl rfl)<|zA (zB rfl)<|zo rfl rfl (fun c1=>zq.step (zS (k:=0) (o:=0) (m:=5) Tryz.isAgg26 Tryz.sizeOf26 rfl rfl rfl rfl rfl))<|zo rfl rfl (fun c2=>zq.step (zB rfl))<|zo rfl rfl (fun c3=>zq.step (zB rfl))<|zP h fun x3 w3 h => ?_
 refine zCU (g:=14) (s:=decide (0≤x2)) (r':=(AV.lit (.bool x3))) rfl rfl (fun c4=>⟨50,_,_,[],[(AV.agg (zG B)),li x2,li Q],[(AV.agg (zG B)),li x2,li Q],(AV.lit (.bool x3)),[],Tryz.func50,rfl,by kernel_rfl,.fn 50,(zAL (z8 rfl c4) (zAL (z8 rfl c4) (zAL (z8 rfl c4) rfl))),⟨zAl.nr rfl,zAl.nr rfl,zAl.nr rfl,trivial⟩,zHm (zFy c4 w3),.inl rfl,rfl⟩)<|zA (z6 (j := .lit undef) rfl rfl)<|zA (zD rfl)<|zF<|zb ?_
 cases h
 exact zv (zAI rfl rfl)
theorem zMT {B:zJ} {C:Int} {r:Int} (h:zJJ B C=some r):PFn Tryz.prog 21 [(AV.agg (zG B)),li C] (li r):=by
 refine zm Tryz.func21 rfl Tryz.ntmps21 Tryz.results21 rfl ?_
 unfold zJJ at h
 refine zH<|zC<|zX (H':=[.box 26 (zG B)]) (zu (t:=26) rfl)<|zA (zD rfl)<|zF<|zH ?_
 refine zH<|zC<|zA (zS (k:=0) (o:=0) (m:=5) Tryz.isAgg26 Tryz.sizeOf26 rfl rfl rfl rfl rfl)<|zP h fun x1 w1 h=>ze Tryz.func13 rfl (by kernel_rfl) (.fn 13) rfl rfl (zA1 w1) rfl<|zA (z7 rfl rfl) ?_
 refine zA (zB rfl)<|zZ rfl rfl (fun c1=>zq.step (zB rfl))<|zZ rfl rfl (fun c2=>zq.step (zh (z8 rfl c2) rfl))<|zA (zj rfl rfl)<|zA (zB rfl)<|zZ rfl rfl (fun c3=>zq.step (zB rfl)) ?_
 refine zZ rfl rfl (fun c4=>zq.step (zK Tryz.underlying26 rfl rfl Tryz.sizeOf23 rfl))<|zZ rfl rfl (fun c5=>zq.step (zN Tryz.isAgg23 (z8 rfl c5) rfl rfl rfl))<|zZ rfl rfl (fun c6=>zq.step (zY Tryz.underlying23 (z8 rfl c6)))<|zZ rfl rfl (fun c7=>zq.step (zAu (z8 rfl c7) (z8 rfl c7)))<|zA (zj rfl rfl)<|zF ?_
 refine zW h rfl (fun b1 h => ?_) (fun b1 h => ?_)
 ·refine zH<|zC<|zA (zD rfl)<|zF<|zb ?_
  cases h
  exact zv (zAI rfl rfl)
 refine zQ<|zH<|zC<|zA (zS (k:=0) (o:=0) (m:=5) Tryz.isAgg26 Tryz.sizeOf26 rfl rfl rfl rfl rfl)<|zA (zB rfl)<|zP h fun x2 w2 h => ?_
 refine ze Tryz.func52 rfl (by kernel_rfl) (.fn 52) rfl rfl (zHe w2) rfl<|zA (zD rfl)<|zF<|zb ?_
 cases h
 exact zv (zAI rfl rfl)
theorem zM9 {B:zJ} {Q:Int} {r:Int} (h:zJk B Q=some r):PFn Tryz.prog 17 [(AV.agg (zG B)),li Q] (li r):=by
 refine zm Tryz.func17 rfl Tryz.ntmps17 Tryz.results17 rfl ?_
 unfold zJk at h
 refine zH<|zC<|zX (H':=[.box 26 (zG B)]) (zu (t:=26) rfl)<|zA (zD rfl)<|zF<|zH ?_
 refine zH<|zC<|zA (zS (k:=0) (o:=0) (m:=5) Tryz.isAgg26 Tryz.sizeOf26 rfl rfl rfl rfl rfl)<|zP h fun x1 w1 h=>ze Tryz.func13 rfl (by kernel_rfl) (.fn 13) rfl rfl (zA1 w1) rfl<|zA (z7 rfl rfl) ?_
 refine zF ?_
 refine zW h rfl (fun b1 h => ?_) (fun b1 h => ?_)
 ·refine zH<|zC<|zA (zD rfl)<|zF<|zb ?_
  cases h
  exact zv (zAI rfl rfl)
 refine zQ<|zH<|zC<|zA (zS (k:=0) (o:=0) (m:=5) Tryz.isAgg26 Tryz.sizeOf26 rfl rfl rfl rfl rfl)<|zA (zB rfl)<|zP h fun x2 w2 h => ?_
 refine ze Tryz.func44 rfl (by kernel_rfl) (.fn 44) rfl rfl (zEZ w2) rfl<|zA (zD rfl)<|zF<|zb ?_
 cases h
 exact zv (zAI rfl rfl)
theorem zMa {A:zL} {D:Int} {G:Int} {X:Int} {uY:Int} {r:zL×(List Int)×Int} (h:zM1 A D G X uY=some r):PFn Tryz.prog 67 [(AV.agg (zI A)),li D,li G,li X,li uY] (AV.tup [(AV.agg (zI r.1)),ls cI r.2.1,li r.2.2]):=by
 refine zm Tryz.func67 rfl Tryz.ntmps67 Tryz.results67 rfl ?_
 unfold zM1 at h
 refine zH<|zC<|zX (H':=[.box 55 (zI A)]) (zu (t:=55) rfl)<|zX (H':=[.box 55 (zI A),.box 55 [(ls (cS cI) ([]:List (List Int)))]]) zv1<|zA (zD rfl)<|zA (zD rfl) ?_
 refine zF<|zH<|zH<|zC<|zA (zS (k:=0) (o:=0) (m:=1) Tryz.isAgg55 Tryz.sizeOf55 rfl rfl rfl rfl rfl)<|zA (zB rfl) ?_
 refine zP h fun x1 w1 h=>ze Tryz.func111 rfl (by kernel_rfl) (.fn 111) rfl rfl (zHM w1) rfl<|zA (zD rfl)<|zF<|zH<|zC ?_
 refine zA (zB rfl)<|zA (z7 rfl rfl)<|zF ?_
 refine zW h rfl (fun b1 h => ?_) (fun b1 h => ?_)
 ·refine zH<|zC<|zA zv2<|zA (zB rfl)<|zd (H':=[.box 55 (zI A),.box 55 (zI (⟨([]:List (List Int))⟩:zL))]) (zT (k:=1) (o:=0) (cs:=[(ls (cS cI) ([]:List (List Int)))]) (la:=(zI (⟨([]:List (List Int))⟩:zL))) Tryz.sizeOf55 rfl rfl rfl rfl)<|zA (zD rfl) ?_
  refine zA (zD rfl)<|zF<|zb ?_
  cases h
  exact zC7 (zDV Tryz.isAgg55 Tryz.sizeOf55 rfl rfl rfl rfl) (zKr (zAI rfl rfl) zAx.nils) (zAI rfl rfl) rfl
 refine zQ<|zH<|zH<|zC<|zA (zB rfl)<|zP h fun x2 w2 h => ?_
 refine ze Tryz.func88 rfl (by kernel_rfl) (.fn 88) rfl rfl (zHn w2) rfl<|zA (zAv (t:=x2) rfl)<|zF ?_
 refine zW h rfl (fun b2 h => ?_) (fun b2 h => ?_)
 ·refine zH<|zC<|zA zv2<|zd (H':=[.box 55 (zI A),.box 55 (zI (⟨([]:List (List Int))⟩:zL))]) (zT (k:=1) (o:=0) (cs:=[(ls (cS cI) ([]:List (List Int)))]) (la:=(zI (⟨([]:List (List Int))⟩:zL))) Tryz.sizeOf55 rfl rfl rfl rfl)<|zA (zD rfl)<|zA (zD rfl) ?_
  refine zF<|zb ?_
  cases h
  exact zC7 (zDV Tryz.isAgg55 Tryz.sizeOf55 rfl rfl rfl rfl) (zKr (zAI rfl rfl) zAx.nils) (zAI rfl rfl) rfl
 refine zQ<|zH<|zH<|zC<|zA (zB rfl)<|zA (zh rfl rfl) ?_
 refine zA (zB rfl)<|zZ rfl rfl (fun c1=>zq.step (zB rfl))<|zZ rfl rfl (fun c2=>zq.step (zB rfl))<|zZ rfl rfl (fun c3=>zq.step (zAo (z8 rfl c3) (z8 rfl c3)))<|zA (zj rfl rfl)<|zF ?_
 refine zW h rfl (fun b3 h => ?_) (fun b3 h => ?_)
 ·refine zH<|zC<|zA zv2<|zd (H':=[.box 55 (zI A),.box 55 (zI (⟨([]:List (List Int))⟩:zL))]) (zT (k:=1) (o:=0) (cs:=[(ls (cS cI) ([]:List (List Int)))]) (la:=(zI (⟨([]:List (List Int))⟩:zL))) Tryz.sizeOf55 rfl rfl rfl rfl)<|zA (zD rfl)<|zA (zD rfl) ?_
  refine zF<|zb ?_
  cases h
  exact zC7 (zDV Tryz.isAgg55 Tryz.sizeOf55 rfl rfl rfl rfl) (zKr (zAI rfl rfl) zAx.nils) (zAI rfl rfl) rfl
 refine zQ<|zH<|zH<|zC<|zA (zS (k:=0) (o:=0) (m:=1) Tryz.isAgg55 Tryz.sizeOf55 rfl rfl rfl rfl rfl)<|zP h fun x3 w3 h => ?_
 refine zN0 (es:=mI Value.bool x3) (la:=[(AV.agg (zI A))]) (la':=[(AV.agg (zI A))]) (S:=[]) Tryz.func89 rfl (by kernel_rfl) (.fn 89) rfl ⟨zAl.nr rfl,trivial⟩ (zIa w3)<|zA (zB rfl)<|zA (zON (k:=2) (g:=Value.bool) (q:=G) (l:=x3) (dflt:=false) (a:=(AV.lit (.bool (zNP false x3 G)))) Tryz.underlying58 Tryz.underlying3 Tryz.zeroValue4 rfl rfl rfl rfl)<|zF ?_
 refine zW h rfl (fun b4 h => ?_) (fun b4 h => ?_)
 ·refine zH<|zC<|zA zv2<|zd (H':=[.box 55 (zI A),.box 55 (zI (⟨([]:List (List Int))⟩:zL)),.map (mI Value.bool x3)]) (zT (k:=1) (o:=0) (cs:=[(ls (cS cI) ([]:List (List Int)))]) (la:=(zI (⟨([]:List (List Int))⟩:zL))) Tryz.sizeOf55 rfl rfl rfl rfl)<|zA (zD rfl)<|zA (zD rfl) ?_
  refine zF<|zb ?_
  cases h
  exact zC7 (zDV Tryz.isAgg55 Tryz.sizeOf55 rfl rfl rfl rfl) (zKr (zAI rfl rfl) zAx.nils) (zAI rfl rfl) rfl
 refine zQ<|zH<|zM h fun b5 h=>zM h fun b6 h=>zM h fun b7 h => ?_
 refine zAm (n:=85) (m:=0) [.head 0 0,.head 0 0,.head 0 0,.head 0 0,.head 0 0,.head 0 0,.head 0 0,.head 0 0,.head 0 0,.head 0 0,.head 0 0,.head 0 0,.head 0 0,.tail 0,.head 1 1] [13] [AV.ptr 0 0,(ls (cS cI) A.lists),li D,(AV.rp ((cS cI) (at_ A.lists D)) 0),(ls cI (at_ A.lists D)),(li ((at_ A.lists D).length:Int)),AV.ptr 0 0,(ls (cS cI) A.lists),li D,(AV.rp ((cS cI) (at_ A.lists D)) 0),(ls cI (at_ A.lists D)),(li ((at_ A.lists D).length:Int)),(li (((at_ A.lists D).length:Int)+1)),AV.hd 3,AV.hd 3] [[.box 55 (zI A),.box 55 [(ls (cS cI) ([]:List (List Int)))],.map (mI Value.bool x3)],[.box 55 (zI A),.box 55 [(ls (cS cI) ([]:List (List Int)))],.map (mI Value.bool x3),.vec 3 1 (List.map cI (List.replicate ((at_ A.lists D).length:Int).toNat 0))]] (by kernel_rfl) (by kernel_rfl) ⟨D1 fun e s p=>zK (k:=0) (o:=0) (off:=0) Tryz.underlying55 rfl rfl Tryz.sizeOf53 (s 5 rfl),D1 fun e s p=>zN (k:=0) (o:=0) Tryz.isAgg53 p.1 rfl rfl rfl,D1 fun e s p=>zB (s 1 rfl),D1 fun e s p=>zV (f:=(cS cI)) (l:=A.lists) (i:=D) Tryz.underlying53 Tryz.sizeOf22 (fun _=>rfl) p.1 p.2.1 b5,D1 fun e s p=>zU (o:=0) Tryz.isAgg22 p.1 rfl,D1 fun e s p=>zY (f:=cI) (l:=at_ A.lists D) Tryz.underlying22 p.1,D1 fun e s p=>zK (k:=0) (o:=0) (off:=0) Tryz.underlying55 rfl rfl Tryz.sizeOf53 (s 5 rfl),D1 fun e s p=>zN (k:=0) (o:=0) Tryz.isAgg53 p.1 rfl rfl rfl,D1 fun e s p=>zB (s 1 rfl),D1 fun e s p=>zV (f:=(cS cI)) (l:=A.lists) (i:=D) Tryz.underlying53 Tryz.sizeOf22 (fun _=>rfl) p.1 p.2.1 b5,D1 fun e s p=>zU (o:=0) Tryz.isAgg22 p.1 rfl,D1 fun e s p=>zY (f:=cI) (l:=at_ A.lists D) Tryz.underlying22 p.1,D1 fun e s p=>zg (a:=((at_ A.lists D).length:Int)) (b:=1) p.1 rfl b6,?_,D1 fun e s p=>zD p.2.2.2.2.2.2.2.2.2.2.2.2.2.2.1,trivial⟩ ?_
 ·
  intro e14 s14 p14
  refine zEU (f:=cI) (a:=((at_ A.lists D).length:Int)) (c:=((at_ A.lists D).length:Int)+1) (d0:=0) zGA ⟨zAx.refl _,trivial⟩ rfl Tryz.underlying22 p14.1 p14.2.1 b7 ?_
  exact zF ⟨fun _=>rfl,rfl⟩
 intro e16 s16 hq1
 refine zAS (zBI (l:=[(1,(li D)),(2,(li G)),(3,(li X)),(4,(li uY)),(5,(AV.ptr 0 0)),(10,(AV.ptr 1 0)),(14,(AV.hd 3))]) ⟨s16 1 rfl,s16 2 rfl,s16 3 rfl,s16 4 rfl,s16 5 rfl,s16 10 rfl,(hq1 14 (by decide) (by decide)),trivial⟩)<|zH<|zC<|zA (zB (av:=(AV.hd 3)) rfl)<|zA (zK (k:=0) (o:=0) (off:=0) Tryz.underlying55 rfl rfl Tryz.sizeOf53 rfl)<|zA (zN (k:=0) (o:=0) (a:=(ls (cS cI) A.lists)) Tryz.isAgg53 rfl rfl rfl rfl) ?_
 refine zA (zB rfl)<|zA (zV Tryz.underlying53 Tryz.sizeOf22 (fun _=>rfl) rfl rfl b5)<|zA (zU (o:=0) Tryz.isAgg22 rfl rfl)<|zX (H':=[.box 55 (zI A),.box 55 [(ls (cS cI) ([]:List (List Int)))],.map (mI Value.bool x3),.vec 3 1 (List.map cI (zC4 (List.replicate ((at_ A.lists D).length:Int).toNat 0) (at_ A.lists D)))]) (zLk (f:=cI) (k:=3) (l:=List.replicate ((at_ A.lists D).length:Int).toNat 0) (l2:=at_ A.lists D) Tryz.underlying22 Tryz.sizeOf3 (fun _=>rfl) rfl rfl rfl)<|zF<|zH ?_
 refine zC<|zA (zB rfl)<|zA (zB rfl)<|zF6 (a:=(li G)) zGA Tryz.underlying22 rfl rfl rfl rfl<|zM h fun b8 h=>zDE (f:=cI) (k:=3) (j:=4) (l:=zC4 (List.replicate ((at_ A.lists D).length:Int).toNat 0) (at_ A.lists D)) (l':=[G]) zGA (fun _=>rfl) Tryz.underlying22 rfl rfl rfl rfl b8 ?_
 refine zA (zD rfl)<|zF<|zH<|zH<|zC<|zA (zB rfl) ?_
 refine zA (zCd (f:=cI) (l:=(zC4 (List.replicate ((at_ A.lists D).length:Int).toNat 0) (at_ A.lists D))++[G]) Tryz.underlying22 rfl rfl)<|zA (zB rfl)<|zA (zCj rfl rfl)<|zF ?_
 refine zW h rfl (fun b9 h => ?_) (fun b9 h => ?_)
 ·refine zH<|zC<|zA (zS (k:=0) (o:=0) (m:=1) Tryz.isAgg55 Tryz.sizeOf55 rfl rfl rfl rfl rfl)<|zA (zB rfl)<|zA (zB rfl)<|zP h fun x4 w4 h => ?_
  refine z5 (zES (j:=5) (ds:=[14,64,65,71]) (rows':=List.map cI ((zC4 (List.replicate ((at_ A.lists D).length:Int).toNat 0) (at_ A.lists D))++[G])) rfl (zAM (fun _=>rfl)) ⟨rfl,rfl,rfl,rfl,trivial⟩)<|zP h fun x5 w5 h=>ze Tryz.func112 rfl (by kernel_rfl) (.fn 112) rfl rfl (zEW w5) rfl<|zd (H':=[.box 55 (zI A),.box 55 (zI x5),.map (mI Value.bool x3),.dead,.vec 3 1 (List.map cI [G]),.dead]) (zT (k:=1) (o:=0) (cs:=[(ls (cS cI) ([]:List (List Int)))]) (la:=(zI x5)) Tryz.sizeOf55 rfl rfl rfl rfl)<|zA (zD rfl)<|zA (zD rfl) ?_
  refine zF<|zb ?_
  cases h
  exact zC7 (zDV Tryz.isAgg55 Tryz.sizeOf55 rfl rfl rfl rfl) (zKr (zAI rfl rfl) zAx.nils) (zAI rfl rfl) rfl
 refine zQ<|zH<|zC<|zA (zB rfl)<|zM h fun b10 h=>zEU (f:=cI) (a:=X) (c:=X) (d0:=0) zGA ⟨zAx.refl _,trivial⟩ rfl Tryz.underlying22 rfl rfl b10 ?_
 refine zA (zD rfl)<|zF<|zH<|zC<|zA (zB rfl)<|zA (zB rfl) ?_
 refine zX (H':=[.box 55 (zI A),.box 55 [(ls (cS cI) ([]:List (List Int)))],.map (mI Value.bool x3),.dead,.vec 3 1 (List.map cI [G]),.vec 3 1 (List.map cI ((zC4 (List.replicate ((at_ A.lists D).length:Int).toNat 0) (at_ A.lists D))++[G])),.vec 3 1 (List.map cI (zC4 (List.replicate X.toNat 0) ((zC4 (List.replicate ((at_ A.lists D).length:Int).toNat 0) (at_ A.lists D))++[G])))]) (zQV (f:=cI) (k:=6) (j:=5) (l:=List.replicate X.toNat 0) (l2:=(zC4 (List.replicate ((at_ A.lists D).length:Int).toNat 0) (at_ A.lists D))++[G]) Tryz.underlying22 Tryz.sizeOf3 (fun _=>rfl) rfl rfl rfl rfl)<|zF<|zH<|zAS (zES (j:=5) (ds:=[14,64,65,76]) (rows':=List.map cI ((zC4 (List.replicate ((at_ A.lists D).length:Int).toNat 0) (at_ A.lists D))++[G])) rfl (zAM (fun _=>rfl)) ⟨rfl,rfl,rfl,rfl,trivial⟩)<|zM h fun b11 h=>zP h fun x6 w6 h => ?_
 refine zAm (n:=85) (m:=0) [.head 0 0,.head 0 0,.head 0 0,.head 0 0,.head 0 0,.head 0 0,.head 0 1,.tail 0,.head 1 1,.head 1 1] [7] [(AV.agg (zI A)),li D,(ls cI ((zC4 (List.replicate ((at_ A.lists D).length:Int).toNat 0) (at_ A.lists D))++[G])),li X,(ls cI (zH6 ((zC4 (List.replicate ((at_ A.lists D).length:Int).toNat 0) (at_ A.lists D))++[G]) X (((zC4 (List.replicate ((at_ A.lists D).length:Int).toNat 0) (at_ A.lists D))++[G]).length:Int))),(AV.agg (zI x6)),AV.hd 6,.any,AV.hd 6,li 0] [[.box 55 (zI A),.box 55 [(ls (cS cI) ([]:List (List Int)))],.map (mI Value.bool x3),.dead,.vec 3 1 (List.map cI [G]),.dead,.vec 3 1 (List.map cI (zC4 (List.replicate X.toNat 0) ((zC4 (List.replicate ((at_ A.lists D).length:Int).toNat 0) (at_ A.lists D))++[G])))],[.box 55 (zI A),.box 55 (zI x6),.map (mI Value.bool x3),.dead,.vec 3 1 (List.map cI [G]),.dead,.vec 3 1 (List.map cI (zC4 (List.replicate X.toNat 0) ((zC4 (List.replicate ((at_ A.lists D).length:Int).toNat 0) (at_ A.lists D))++[G])))]] (by kernel_rfl) (by kernel_rfl) ⟨D1 fun e s p=>zS (k:=0) (o:=0) (m:=1) Tryz.isAgg55 Tryz.sizeOf55 (s 5 rfl) rfl rfl rfl rfl,D1 fun e s p=>zB (s 1 rfl),D1 fun e s p=>zB (s 14 rfl),D1 fun e s p=>zB (s 3 rfl),D1 fun e s p=>zQQ (lo:=X) (f:=cI) (l:=(zC4 (List.replicate ((at_ A.lists D).length:Int).toNat 0) (at_ A.lists D))++[G]) Tryz.underlying22 Tryz.sizeOf3 (fun _=>rfl) p.1 p.2.1 b11,?_,⟨D1 fun e s p=>zB (s 15 rfl),D1 fun e s p=>zB (s 15 rfl)⟩,?_,D1 fun e s p=>zD p.2.2.2.2.2.2.2.2.1,D1 fun e s p=>zD rfl,trivial⟩ ?_
 ·
  intro e22 s22 p21
  refine ze (r:=(AV.agg (zI x6))) (la:=[(AV.agg (zI A)),li D,(ls cI (zH6 ((zC4 (List.replicate ((at_ A.lists D).length:Int).toNat 0) (at_ A.lists D))++[G]) X (((zC4 (List.replicate ((at_ A.lists D).length:Int).toNat 0) (at_ A.lists D))++[G]).length:Int)))]) Tryz.func112 rfl (by kernel_rfl) (.fn 112) (zAL p21.1 (zAL p21.2.1 (zAL p21.2.2.1 rfl))) rfl (zEW w6) rfl ?_
  exact zF ⟨fun _=>rfl,rfl⟩
 ·
  intro e25 s25 p24
  refine zd (H':=[.box 55 (zI A),.box 55 (zI x6),.map (mI Value.bool x3),.dead,.vec 3 1 (List.map cI [G]),.dead,.vec 3 1 (List.map cI (zC4 (List.replicate X.toNat 0) ((zC4 (List.replicate ((at_ A.lists D).length:Int).toNat 0) (at_ A.lists D))++[G])))]) (zT (k:=1) (o:=0) (cs:=[(ls (cS cI) ([]:List (List Int)))]) (la:=(zI x6)) Tryz.sizeOf55 (by exact (s25 10 rfl)) rfl rfl (by exact p24.2.2.2.2.2.2.2.1)) ?_
  exact zF ⟨fun _=>rfl,rfl⟩
 intro e28 s28 hq2
 refine zAS (zBI (l:=[(10,(AV.ptr 1 0)),(11,(AV.hd 6)),(12,(li 0))]) ⟨s28 10 rfl,(hq2 8 (by decide) (by decide)),(hq2 9 (by decide) (by decide)),trivial⟩)<|zAS (zES (j:=6) (ds:=[11]) (rows':=List.map cI (zC4 (List.replicate X.toNat 0) ((zC4 (List.replicate ((at_ A.lists D).length:Int).toNat 0) (at_ A.lists D))++[G]))) rfl (zAM (fun _=>rfl)) ⟨rfl,trivial⟩)<|zb ?_
 cases h
 exact zC7 (zDV Tryz.isAgg55 Tryz.sizeOf55 rfl rfl rfl rfl) (zAI rfl rfl) (zAI rfl rfl) rfl
theorem zNE {A:zJ} {D:Int} {G:Int} {r:zJ×Int} (h:zJp A D G=some r):PFn Tryz.prog 28 [(AV.agg (zG A)),li D,li G] (AV.tup [(AV.agg (zG r.1)),li r.2]):=by
 refine zm Tryz.func28 rfl Tryz.ntmps28 Tryz.results28 rfl ?_
 unfold zJp at h
 refine zH<|zC<|zX (H':=[.box 26 (zG A)]) (zu (t:=26) rfl)<|zX (H':=[.box 26 (zG A),.box 26 (zG ⟨[],0,0,[],[]⟩)]) zv3<|zA (zD rfl)<|zF ?_
 refine zH<|zH<|zC<|zA (zS (k:=0) (o:=0) (m:=5) Tryz.isAgg26 Tryz.sizeOf26 rfl rfl rfl rfl rfl)<|zP h fun x1 w1 h=>ze Tryz.func13 rfl (by kernel_rfl) (.fn 13) rfl rfl (zA1 w1) rfl ?_
 refine zA (zD rfl)<|zF<|zH<|zC<|zA (zB rfl)<|zA (z7 rfl rfl) ?_
 refine zF ?_
 refine zW h rfl (fun b1 h => ?_) (fun b1 h => ?_)
 ·refine zH<|zC<|zA zOP<|zA (zB rfl)<|zd (H':=[.box 26 (zG A),.box 26 (zG (⟨([]:List Int),0,0,([]:List zi),([]:List zL)⟩:zJ))]) (zT (k:=1) (o:=0) (cs:=(zG ⟨[],0,0,[],[]⟩)) (la:=(zG (⟨([]:List Int),0,0,([]:List zi),([]:List zL)⟩:zJ))) Tryz.sizeOf26 rfl rfl rfl rfl)<|zA (zD rfl) ?_
  refine zF<|zb ?_
  cases h
  exact zA5 (zDV Tryz.isAgg26 Tryz.sizeOf26 rfl rfl rfl rfl) (zAI rfl rfl) rfl
 refine zQ<|zH<|zC<|zA (zS (k:=0) (o:=0) (m:=5) Tryz.isAgg26 Tryz.sizeOf26 rfl rfl rfl rfl rfl)<|zA (zB rfl)<|zP h fun x2 w2 h => ?_
 refine ze Tryz.func44 rfl (by kernel_rfl) (.fn 44) rfl rfl (zEZ w2) rfl<|zA (zD rfl)<|zF<|zH<|zH<|zC ?_
 refine zA (zB rfl)<|zA (zh rfl rfl)<|zA (zB rfl)<|zZ rfl rfl (fun c1=>zq.step (zB rfl))<|zZ rfl rfl (fun c2=>zq.step (zK Tryz.underlying26 rfl rfl Tryz.sizeOf22 rfl))<|zZ rfl rfl (fun c3=>zq.step (zN Tryz.isAgg22 (z8 rfl c3) rfl rfl rfl)) ?_
 refine zZ rfl rfl (fun c4=>zq.step (zY Tryz.underlying22 (z8 rfl c4)))<|zZ rfl rfl (fun c5=>zq.step (zAu (z8 rfl c5) (z8 rfl c5)))<|zA (zj rfl rfl)<|zA (zB rfl)<|zZ rfl rfl (fun c6=>zq.step (zB rfl))<|zZ rfl rfl (fun c7=>zq.step (zh (z8 rfl c7) rfl)) ?_
 refine zA (zj rfl rfl)<|zF ?_
 refine zW h rfl (fun b2 h => ?_) (fun b2 h => ?_)
 ·refine zH<|zC<|zA zOP<|zd (H':=[.box 26 (zG A),.box 26 (zG (⟨([]:List Int),0,0,([]:List zi),([]:List zL)⟩:zJ))]) (zT (k:=1) (o:=0) (cs:=(zG ⟨[],0,0,[],[]⟩)) (la:=(zG (⟨([]:List Int),0,0,([]:List zi),([]:List zL)⟩:zJ))) Tryz.sizeOf26 rfl rfl rfl rfl)<|zA (zD rfl)<|zF ?_
  refine zb ?_
  cases h
  exact zA5 (zDV Tryz.isAgg26 Tryz.sizeOf26 rfl rfl rfl rfl) (zAI rfl rfl) rfl
 refine zQ<|zH<|zH<|zC<|zA (zS (k:=0) (o:=0) (m:=5) Tryz.isAgg26 Tryz.sizeOf26 rfl rfl rfl rfl rfl)<|zA (zB rfl) ?_
 refine zA (zB rfl)<|zP h fun x3 w3 h=>ze Tryz.func50 rfl (by kernel_rfl) (.fn 50) rfl rfl (zHm w3) rfl<|zF ?_
 refine zW h rfl (fun b3 h => ?_) (fun b3 h => ?_)
 ·refine zH<|zC<|zA zOP<|zd (H':=[.box 26 (zG A),.box 26 (zG (⟨([]:List Int),0,0,([]:List zi),([]:List zL)⟩:zJ))]) (zT (k:=1) (o:=0) (cs:=(zG ⟨[],0,0,[],[]⟩)) (la:=(zG (⟨([]:List Int),0,0,([]:List zi),([]:List zL)⟩:zJ))) Tryz.sizeOf26 rfl rfl rfl rfl)<|zA (zD rfl)<|zF ?_
  refine zb ?_
  cases h
  exact zA5 (zDV Tryz.isAgg26 Tryz.sizeOf26 rfl rfl rfl rfl) (zAI rfl rfl) rfl
 refine zQ<|zH<|zC<|zA (zS (k:=0) (o:=0) (m:=5) Tryz.isAgg26 Tryz.sizeOf26 rfl rfl rfl rfl rfl)<|zP h fun x4 w4 h=>zDg (cs:=[ls cI x4.nodes,li x4.batch,li x4.high,AV.osl 51 10 (List.map zO x4.zones),AV.osl 55 1 (List.map zp x4.caches)]) (la:=[(AV.agg (zG A))]) (la':=[(AV.agg (zG A))]) (S:=[]) Tryz.func54 rfl (by kernel_rfl) (.fn 54) rfl ⟨zAl.nr rfl,trivial⟩ (zDp w4) (.inl rfl) ?_
 refine z5 (zJC (k:=2) (o:=4) (cs:=[ls cI x4.nodes,li x4.batch,li x4.high,AV.osl 51 10 (List.map zO x4.zones),AV.osl 55 1 (List.map zp x4.caches)]) (rows':=List.map zI x4.caches) rfl rfl (zDn (fun x=>zCl x)))<|zX (H':=[.box 26 (zG A),.box 26 (zG ⟨[],0,0,[],[]⟩),.val (.agg [ls cI x4.nodes,li x4.batch,li x4.high,AV.osl 51 10 (List.map zO x4.zones),AV.osl 55 1 (List.map zI x4.caches)]),.box 26 (zG ⟨[],0,0,[],[]⟩)]) zv3<|zd (H':=[.box 26 (zG A),.box 26 (zG ⟨[],0,0,[],[]⟩),.dead,.box 26 [ls cI x4.nodes,li x4.batch,li x4.high,AV.osl 51 10 (List.map zO x4.zones),AV.osl 55 1 (List.map zI x4.caches)]]) (zBW (k:=3) (o:=0) (j:=2) (cs:=(zG ⟨[],0,0,[],[]⟩)) (la:=[ls cI x4.nodes,li x4.batch,li x4.high,AV.osl 51 10 (List.map zO x4.zones),AV.osl 55 1 (List.map zI x4.caches)]) Tryz.sizeOf26 rfl rfl rfl rfl rfl (by decide))<|zF<|zH<|zAS (zAZ (k:=3) (o:=4) (t':=55) (sz:=1) (rows:=List.map zI x4.caches) rfl rfl) ?_
 refine zM h fun b4 h=>zP h fun x5 w5 h => ?_
 refine zAm (n:=73) (m:=0) [.head 0 1,.head 0 1,.head 0 1,.head 0 1,.head 0 1,.head 0 1,.head 0 1,.head 0 1,.head 0 1,.head 0 1,.head 0 1,.head 0 1,.head 0 1,.head 0 1,.head 0 2,.head 0 2,.tail 0,.tail 1,.head 2 2,.head 2 2] [16,17] [AV.ptr 3 4,AV.hd 4,li D,(AV.ptr 4 (D.toNat*1)),(AV.agg (zI (at_ x4.caches D))),li x2,li G,AV.ptr 3 1,li x4.batch,AV.ptr 3 2,li x4.high,(AV.tup [(AV.agg (zI x5.1)),ls cI x5.2.1,li x5.2.2]),(AV.tup [(AV.agg (zI x5.1)),ls cI x5.2.1,li x5.2.2]),(AV.agg (zI x5.1)),ls cI x5.2.1,li x5.2.2,AV.ptr 5 0,.any,ls cI x5.2.1,li x5.2.2] [[.box 26 (zG A),.box 26 (zG ⟨[],0,0,[],[]⟩),.dead,.box 26 [ls cI x4.nodes,li x4.batch,li x4.high,AV.osl 51 10 (List.map zO x4.zones),AV.hd 4],.vec 55 1 (List.map zI x4.caches)],[.box 26 (zG A),.box 26 (zG ⟨[],0,0,[],[]⟩),.dead,.box 26 [ls cI x4.nodes,li x4.batch,li x4.high,AV.osl 51 10 (List.map zO x4.zones),AV.hd 4],.vec 55 1 (List.map zI x4.caches),.box 55 [(ls (cS cI) ([]:List (List Int)))]],[.box 26 (zG A),.box 26 (zG ⟨[],0,0,[],[]⟩),.dead,.box 26 [ls cI x4.nodes,li x4.batch,li x4.high,AV.osl 51 10 (List.map zO x4.zones),AV.hd 4],.vec 55 1 (List.map zI x4.caches),.box 55 (zI x5.1)]] (by kernel_rfl) (by kernel_rfl) ⟨⟨D1 fun e s p=>zK (k:=3) (o:=0) (off:=4) Tryz.underlying26 rfl rfl Tryz.sizeOf24 (s 10 rfl),D1 fun e s p=>zK (k:=3) (o:=0) (off:=4) Tryz.underlying26 rfl rfl Tryz.sizeOf24 (s 10 rfl)⟩,⟨D1 fun e s p=>zN (k:=3) (o:=4) Tryz.isAgg24 p.1 rfl rfl rfl,D1 fun e s p=>zN (k:=3) (o:=4) Tryz.isAgg24 p.1 rfl rfl rfl⟩,⟨D1 fun e s p=>zB (s 1 rfl),D1 fun e s p=>zB (s 1 rfl)⟩,⟨D1 fun e s p=>zy (f:=zI) (l:=x4.caches) (i:=D) Tryz.underlying24 Tryz.sizeOf55 p.1 rfl p.2.1 b4,D1 fun e s p=>zy (f:=zI) (l:=x4.caches) (i:=D) Tryz.underlying24 Tryz.sizeOf55 p.1 rfl p.2.1 b4⟩,⟨D1 fun e s p=>zBO (f:=zI) (l:=x4.caches) (i:=D) (c:=0) (q:=1) (la:=(zI (at_ x4.caches D))) Tryz.isAgg55 Tryz.sizeOf55 p.1 rfl (by first | rfl | omega) b4 rfl rfl rfl,D1 fun e s p=>zBO (f:=zI) (l:=x4.caches) (i:=D) (c:=0) (q:=1) (la:=(zI (at_ x4.caches D))) Tryz.isAgg55 Tryz.sizeOf55 p.1 rfl (by first | rfl | omega) b4 rfl rfl rfl⟩,⟨D1 fun e s p=>zB (s 9 rfl),D1 fun e s p=>zB (s 9 rfl)⟩,⟨D1 fun e s p=>zB (s 2 rfl),D1 fun e s p=>zB (s 2 rfl)⟩,⟨D1 fun e s p=>zK (k:=3) (o:=0) (off:=1) Tryz.underlying26 rfl rfl Tryz.sizeOf3 (s 10 rfl),D1 fun e s p=>zK (k:=3) (o:=0) (off:=1) Tryz.underlying26 rfl rfl Tryz.sizeOf3 (s 10 rfl)⟩,⟨D1 fun e s p=>zN (k:=3) (o:=1) Tryz.isAgg3 p.1 rfl rfl rfl,D1 fun e s p=>zN (k:=3) (o:=1) Tryz.isAgg3 p.1 rfl rfl rfl⟩,⟨D1 fun e s p=>zK (k:=3) (o:=0) (off:=2) Tryz.underlying26 rfl rfl Tryz.sizeOf3 (s 10 rfl),D1 fun e s p=>zK (k:=3) (o:=0) (off:=2) Tryz.underlying26 rfl rfl Tryz.sizeOf3 (s 10 rfl)⟩,⟨D1 fun e s p=>zN (k:=3) (o:=2) Tryz.isAgg3 p.1 rfl rfl rfl,D1 fun e s p=>zN (k:=3) (o:=2) Tryz.isAgg3 p.1 rfl rfl rfl⟩,⟨?_,?_⟩,⟨D1 fun e s p=>zB p.1,D1 fun e s p=>zB p.1⟩,⟨D1 fun e s p=>za p.1 rfl,D1 fun e s p=>za p.1 rfl⟩,⟨D1 fun e s p=>za p.1 rfl,D1 fun e s p=>za p.1 rfl,D1 fun e s p=>za p.1 rfl⟩,⟨D1 fun e s p=>za p.1 rfl,D1 fun e s p=>za p.1 rfl,D1 fun e s p=>za p.1 rfl⟩,?_,?_,D1 fun e s p=>zD p.2.2.2.2.2.2.2.2.2.2.2.2.2.2.2.2.1,D1 fun e s p=>zD p.2.2.2.2.2.2.2.2.2.2.2.2.2.2.2.2.2.1,trivial⟩ ?_
 ·
  intro e23 s23 p23
  refine ze (r:=(AV.tup [(AV.agg (zI x5.1)),ls cI x5.2.1,li x5.2.2])) (la:=[(AV.agg (zI (at_ x4.caches D))),li x2,li G,li x4.batch,li x4.high]) Tryz.func67 rfl (by kernel_rfl) (.fn 67) (zAL p23.1 (zAL p23.2.1 (zAL p23.2.2.1 (zAL p23.2.2.2.1 (zAL p23.2.2.2.2.1 rfl))))) rfl (zMa w5) rfl ?_
  exact zF ⟨fun _=>rfl,rfl⟩
 ·
  intro e24 s24 p24
  refine ze (r:=(AV.tup [(AV.agg (zI x5.1)),ls cI x5.2.1,li x5.2.2])) (la:=[(AV.agg (zI (at_ x4.caches D))),li x2,li G,li x4.batch,li x4.high]) Tryz.func67 rfl (by kernel_rfl) (.fn 67) (zAL p24.1 (zAL p24.2.1 (zAL p24.2.2.1 (zAL p24.2.2.2.1 (zAL p24.2.2.2.2.1 rfl))))) rfl (zMa w5) rfl ?_
  exact zF ⟨fun _=>rfl,rfl⟩
 ·
  intro e35 s35 p35
  refine zX (H':=[.box 26 (zG A),.box 26 (zG ⟨[],0,0,[],[]⟩),.dead,.box 26 [ls cI x4.nodes,li x4.batch,li x4.high,AV.osl 51 10 (List.map zO x4.zones),AV.hd 4],.vec 55 1 (List.map zI x4.caches),.box 55 [(ls (cS cI) ([]:List (List Int)))]]) zv1 ?_
  exact zF ⟨fun _=>rfl,rfl⟩
 ·
  intro e36 s36 p36
  refine zd (H':=[.box 26 (zG A),.box 26 (zG ⟨[],0,0,[],[]⟩),.dead,.box 26 [ls cI x4.nodes,li x4.batch,li x4.high,AV.osl 51 10 (List.map zO x4.zones),AV.hd 4],.vec 55 1 (List.map zI x4.caches),.box 55 (zI x5.1)]) (zT (k:=5) (o:=0) (cs:=[(ls (cS cI) ([]:List (List Int)))]) (la:=(zI x5.1)) Tryz.sizeOf55 (by exact p36.2.2.2.2.2.2.2.2.2.2.2.2.2.2.2.2.2.2.2.1) rfl rfl (by exact p36.2.2.2.2.2.2.2.2.2.2.2.2.2.2.2.2.1)) ?_
  exact zF ⟨fun _=>rfl,rfl⟩
 intro e39 s39 hq1
 refine zAS (zBI (l:=[(1,(li D)),(6,(AV.ptr 1 0)),(9,(li x2)),(10,(AV.ptr 3 0)),(11,(AV.ptr 5 0)),(12,(ls cI x5.2.1)),(13,(li x5.2.2))]) ⟨s39 1 rfl,s39 6 rfl,s39 9 rfl,s39 10 rfl,(hq1 16 (by decide) (by decide)),(hq1 18 (by decide) (by decide)),(hq1 19 (by decide) (by decide)),trivial⟩)<|zH<|zH<|zC<|zA (zB (av:=(li x5.2.2)) rfl)<|zA (z7 (a:=x5.2.2) (b:=0) rfl rfl) ?_
 refine zF ?_
 refine zW h rfl (fun b5 h => ?_) (fun b5 h => ?_)
 ·refine zH<|zC<|zA zOP<|zA (zB rfl)<|zd (H':=[.box 26 (zG A),.box 26 (zG (⟨([]:List Int),0,0,([]:List zi),([]:List zL)⟩:zJ)),.dead,.box 26 [ls cI x4.nodes,li x4.batch,li x4.high,AV.osl 51 10 (List.map zO x4.zones),AV.hd 4],.vec 55 1 (List.map zI x4.caches),.box 55 (zI x5.1)]) (zT (k:=1) (o:=0) (cs:=(zG ⟨[],0,0,[],[]⟩)) (la:=(zG (⟨([]:List Int),0,0,([]:List zi),([]:List zL)⟩:zJ))) Tryz.sizeOf26 rfl rfl rfl rfl)<|zA (zD rfl) ?_
  refine zF<|zb ?_
  cases h
  exact zA5 (zDV Tryz.isAgg26 Tryz.sizeOf26 rfl rfl rfl rfl) (zAI rfl rfl) rfl
 refine zQ<|zH<|zC<|zA (zK Tryz.underlying26 rfl rfl Tryz.sizeOf24 rfl)<|zA (zN Tryz.isAgg24 rfl rfl rfl rfl)<|zA (zB rfl) ?_
 refine zA (zS (k:=5) (o:=0) (m:=1) Tryz.isAgg55 Tryz.sizeOf55 rfl rfl rfl rfl rfl)<|zA (zy (f:=zI) (l:=x4.caches) (i:=D) Tryz.underlying24 Tryz.sizeOf55 rfl rfl rfl b4)<|zd (H':=[.box 26 (zG A),.box 26 (zG ⟨[],0,0,[],[]⟩),.dead,.box 26 [ls cI x4.nodes,li x4.batch,li x4.high,AV.osl 51 10 (List.map zO x4.zones),AV.hd 4],.vec 55 1 (List.map zI (x4.caches.set D.toNat x5.1)),.box 55 (zI x5.1)]) (zBG (k:=4) (o:=(D.toNat*1)) (f:=zI) (l:=x4.caches) (i:=D) (z:=x5.1) Tryz.sizeOf55 (fun _=>rfl) rfl rfl (by first | rfl | omega) b4 rfl rfl)<|zF<|zH<|zC ?_
 refine zA (zB rfl)<|zA (zB rfl)<|z5 (z9 (k:=3) (j:=4) (o:=4) rfl rfl rfl rfl)<|zP h fun x6 w6 h=>zCu (k:=3) (la:=[AV.ptr 3 0,li x2,ls cI x5.2.1]) (la':=[AV.ptr 0 0,li x2,ls cI x5.2.1]) (r:=(.tup [])) (S:=[]) (en' := .box 26 [ls cI x6.nodes,li x6.batch,li x6.high,AV.osl 51 10 (List.map zO x6.zones),AV.osl 55 1 (List.map zI x6.caches)]) Tryz.func68 rfl (by kernel_rfl) (.fn 68) rfl ⟨zBs.ptr,zBs.of (zAl.nr rfl),zBs.of (zAl.nr rfl),trivial⟩ rfl rfl (by kernel_rfl) (by kernel_rfl) (zKS w6) rfl (.inl rfl)<|zF ?_
 refine zH<|zC<|z5 (zA4 (k:=3) (o:=3) (rows':=List.map zO x6.zones) rfl rfl (zAM (fun _=>rfl)))<|z5 (zA4 (k:=3) (o:=4) (rows':=List.map zI x6.caches) rfl rfl (zAM (fun _=>rfl)))<|zA (zS (k:=3) (o:=0) (m:=5) Tryz.isAgg26 Tryz.sizeOf26 rfl rfl rfl rfl rfl)<|zd (H':=[.box 26 (zG A),.box 26 (zG (⟨x6.nodes,x6.batch,x6.high,x6.zones,x6.caches⟩:zJ)),.dead,.box 26 (zG ⟨x6.nodes,x6.batch,x6.high,x6.zones,x6.caches⟩),.dead,.box 55 (zI x5.1)]) (zT (k:=1) (o:=0) (cs:=(zG ⟨[],0,0,[],[]⟩)) (la:=(zG (⟨x6.nodes,x6.batch,x6.high,x6.zones,x6.caches⟩:zJ))) Tryz.sizeOf26 rfl rfl rfl rfl) ?_
 refine zA (zD rfl)<|zF<|zb ?_
 cases h
 exact zA5 (zDV Tryz.isAgg26 Tryz.sizeOf26 rfl rfl rfl rfl) (zAI rfl rfl) rfl
theorem zKn {A:zJ} {D:Int} {G:Int} {r:zJ×Int×Int} (h:zGC A D G=some r):PFn Tryz.prog 26 [(AV.agg (zG A)),li D,li G] (AV.tup [(AV.agg (zG r.1)),li r.2.1,li r.2.2]):=by
 refine zm Tryz.func26 rfl Tryz.ntmps26 Tryz.results26 rfl ?_
 unfold zGC at h
 refine zH<|zC<|zX (H':=[.box 26 (zG A)]) (zu (t:=26) rfl)<|zX (H':=[.box 26 (zG A),.box 26 (zG ⟨[],0,0,[],[]⟩)]) zv3<|zA (zD rfl)<|zA (zD rfl) ?_
 refine zF<|zH<|zH<|zC<|zA (zS (k:=0) (o:=0) (m:=5) Tryz.isAgg26 Tryz.sizeOf26 rfl rfl rfl rfl rfl)<|zP h fun x1 w1 h => ?_
 refine ze Tryz.func13 rfl (by kernel_rfl) (.fn 13) rfl rfl (zA1 w1) rfl<|zA (zD rfl)<|zF<|zH<|zC<|zA (zB rfl) ?_
 refine zA (z7 rfl rfl)<|zF ?_
 refine zW h rfl (fun b1 h => ?_) (fun b1 h => ?_)
 ·refine zH<|zC<|zA zOP<|zA (zB rfl)<|zd (H':=[.box 26 (zG A),.box 26 (zG (⟨([]:List Int),0,0,([]:List zi),([]:List zL)⟩:zJ))]) (zT (k:=1) (o:=0) (cs:=(zG ⟨[],0,0,[],[]⟩)) (la:=(zG (⟨([]:List Int),0,0,([]:List zi),([]:List zL)⟩:zJ))) Tryz.sizeOf26 rfl rfl rfl rfl)<|zA (zD rfl) ?_
  refine zA (zD rfl)<|zF<|zb ?_
  cases h
  exact zC7 (zDV Tryz.isAgg26 Tryz.sizeOf26 rfl rfl rfl rfl) (zAI rfl rfl) (zAI rfl rfl) rfl
 refine zQ<|zH<|zH<|zC<|zA (zB rfl)<|zA (zh rfl rfl) ?_
 refine zA (zB rfl)<|zZ rfl rfl (fun c1=>zq.step (zB rfl))<|zZ rfl rfl (fun c2=>zq.step (zK Tryz.underlying26 rfl rfl Tryz.sizeOf22 rfl))<|zZ rfl rfl (fun c3=>zq.step (zN Tryz.isAgg22 (z8 rfl c3) rfl rfl rfl))<|zZ rfl rfl (fun c4=>zq.step (zY Tryz.underlying22 (z8 rfl c4)))<|zZ rfl rfl (fun c5=>zq.step (zAu (z8 rfl c5) (z8 rfl c5))) ?_
 refine zA (zj rfl rfl)<|zA (zB rfl)<|zZ rfl rfl (fun c6=>zq.step (zB rfl))<|zZ rfl rfl (fun c7=>zq.step (zh (z8 rfl c7) rfl))<|zA (zj rfl rfl)<|zA (zB rfl) ?_
 refine zZ rfl rfl (fun c8=>zq.step (zB rfl))<|zZ rfl rfl (fun c9=>zq.step (zAo (z8 rfl c9) rfl))<|zA (zj rfl rfl)<|zF ?_
 refine zW h rfl (fun b2 h => ?_) (fun b2 h => ?_)
 ·refine zH<|zC<|zA zOP<|zd (H':=[.box 26 (zG A),.box 26 (zG (⟨([]:List Int),0,0,([]:List zi),([]:List zL)⟩:zJ))]) (zT (k:=1) (o:=0) (cs:=(zG ⟨[],0,0,[],[]⟩)) (la:=(zG (⟨([]:List Int),0,0,([]:List zi),([]:List zL)⟩:zJ))) Tryz.sizeOf26 rfl rfl rfl rfl)<|zA (zD rfl)<|zA (zD rfl) ?_
  refine zF<|zb ?_
  cases h
  exact zC7 (zDV Tryz.isAgg26 Tryz.sizeOf26 rfl rfl rfl rfl) (zAI rfl rfl) (zAI rfl rfl) rfl
 refine zQ<|zH<|zC<|zA (zS (k:=0) (o:=0) (m:=5) Tryz.isAgg26 Tryz.sizeOf26 rfl rfl rfl rfl rfl)<|zP h fun x2 w2 h=>zDg (cs:=[ls cI x2.nodes,li x2.batch,li x2.high,AV.osl 51 10 (List.map zO x2.zones),AV.osl 55 1 (List.map zp x2.caches)]) (la:=[(AV.agg (zG A))]) (la':=[(AV.agg (zG A))]) (S:=[]) Tryz.func54 rfl (by kernel_rfl) (.fn 54) rfl ⟨zAl.nr rfl,trivial⟩ (zDp w2) (.inl rfl) ?_
 refine z5 (zJC (k:=2) (o:=4) (cs:=[ls cI x2.nodes,li x2.batch,li x2.high,AV.osl 51 10 (List.map zO x2.zones),AV.osl 55 1 (List.map zp x2.caches)]) (rows':=List.map zI x2.caches) rfl rfl (zDn (fun x=>zCl x)))<|zX (H':=[.box 26 (zG A),.box 26 (zG ⟨[],0,0,[],[]⟩),.val (.agg [ls cI x2.nodes,li x2.batch,li x2.high,AV.osl 51 10 (List.map zO x2.zones),AV.osl 55 1 (List.map zI x2.caches)]),.box 26 (zG ⟨[],0,0,[],[]⟩)]) zv3<|zd (H':=[.box 26 (zG A),.box 26 (zG ⟨[],0,0,[],[]⟩),.dead,.box 26 [ls cI x2.nodes,li x2.batch,li x2.high,AV.osl 51 10 (List.map zO x2.zones),AV.osl 55 1 (List.map zI x2.caches)]]) (zBW (k:=3) (o:=0) (j:=2) (cs:=(zG ⟨[],0,0,[],[]⟩)) (la:=[ls cI x2.nodes,li x2.batch,li x2.high,AV.osl 51 10 (List.map zO x2.zones),AV.osl 55 1 (List.map zI x2.caches)]) Tryz.sizeOf26 rfl rfl rfl rfl rfl (by decide))<|zF<|zH<|zM h fun b3 h => ?_
 refine zP h fun x3 w3 h => ?_
 refine zAm (n:=100) (m:=0) [.head 0 0,.head 0 0,.head 0 0,.head 0 0,.head 0 0,.head 0 0,.head 0 0,.head 0 0,.head 0 0,.head 0 0,.head 0 0,.head 0 0,.head 0 0] [] [AV.ptr 0 3,ls zO A.zones,AV.ptr 0 0,ls cI A.nodes,li D,(AV.rp (cI (at_ A.nodes D)) 0),(li (at_ A.nodes D)),(AV.tup [ls cI x3.1,li x3.2]),(AV.tup [ls cI x3.1,li x3.2]),ls cI x3.1,li x3.2,ls cI x3.1,li x3.2] [[.box 26 (zG A),.box 26 (zG ⟨[],0,0,[],[]⟩),.dead,.box 26 [ls cI x2.nodes,li x2.batch,li x2.high,AV.osl 51 10 (List.map zO x2.zones),AV.osl 55 1 (List.map zI x2.caches)]]] (by kernel_rfl) (by kernel_rfl) ⟨D1 fun e s p=>zK (k:=0) (o:=0) (off:=3) Tryz.underlying26 rfl rfl Tryz.sizeOf23 (s 3 rfl),D1 fun e s p=>zN (k:=0) (o:=3) Tryz.isAgg23 p.1 rfl rfl rfl,D1 fun e s p=>zK (k:=0) (o:=0) (off:=0) Tryz.underlying26 rfl rfl Tryz.sizeOf22 (s 3 rfl),D1 fun e s p=>zN (k:=0) (o:=0) Tryz.isAgg22 p.1 rfl rfl rfl,D1 fun e s p=>zB (s 1 rfl),D1 fun e s p=>zV (f:=cI) (l:=A.nodes) (i:=D) Tryz.underlying22 Tryz.sizeOf3 (fun _=>rfl) p.1 p.2.1 b3,D1 fun e s p=>zU (o:=0) Tryz.isAgg3 p.1 rfl,?_,D1 fun e s p=>zB p.1,D1 fun e s p=>za p.1 rfl,D1 fun e s p=>za p.1 rfl,D1 fun e s p=>zD p.2.2.2.2.2.2.2.2.2.2.2.1,D1 fun e s p=>zD p.2.2.2.2.2.2.2.2.2.2.2.2.1,trivial⟩ ?_
 ·
  intro e8 s8 p8
  refine ze (r:=(AV.tup [ls cI x3.1,li x3.2])) (la:=[ls zO A.zones,(li (at_ A.nodes D)),(AV.lit (.bool false))]) Tryz.func53 rfl (by kernel_rfl) (.fn 53) (zAL p8.1 (zAL p8.2.1 (zAL rfl rfl))) rfl (zKD w3) rfl ?_
  exact zF ⟨fun _=>rfl,rfl⟩
 intro e14 s14 hq1
 refine zAS (zBI (l:=[(2,(li G)),(6,(AV.ptr 1 0)),(10,(AV.ptr 3 0)),(11,(ls cI x3.1))]) ⟨s14 2 rfl,s14 6 rfl,s14 10 rfl,(hq1 11 (by decide) (by decide)),trivial⟩) ?_
 refine zx (r:=r) (fun (_:Unit)=>mkE [(6,(AV.ptr 0 0))]) (fun _=>[.box 26 (zG ⟨[],0,0,[],[]⟩)]) (fun _=>zE1 ) ?_ ?_
 ·
  refine zH<|zC<|zA (zB rfl)<|zA (zY Tryz.underlying22 rfl)<|zA (zB rfl)<|zF ?_
  refine zR<|zt (σ:=Int×(List Int)×Int×Int×(List zi)×(List zL)) (fun (i1,d1,d2,d3,l1,l2)=>mkE [(2,(li G)),(6,(AV.ptr 0 0)),(10,(AV.ptr 1 0)),(56,(ls cI x3.1)),(57,(li (x3.1.length:Int))),(58,(li i1))]) (fun (i1,d1,d2,d3,l1,l2)=>[.box 26 (zG ⟨[],0,0,[],[]⟩),.box 26 [ls cI d1,li d2,li d3,AV.osl 51 10 (List.map zO l1),AV.osl 55 1 (List.map zI l2)]]) (fun n0 (i1,d1,d2,d3,l1,l2)=>zAp G x3 n0 i1 d1 d2 d3 l1 l2) (0,x2.nodes,x2.batch,x2.high,x2.zones,x2.caches) h (fun _=>rfl) (zAD [1,3] rfl rfl (by kernel_rfl)) ?_
  clear h
  rintro n0 ⟨i1,d1,d2,d3,l1,l2⟩ h
  replace h:zEy G x3 (zAp G x3 n0) i1 d1 d2 d3 l1 l2=some r:=h
  unfold zEy at h
  refine zH<|zC<|zA (zh rfl rfl)<|zF<|zH ?_
  refine zW h rfl (fun b4 h => ?_) (fun b4 h => ?_)
  ·refine zQ ?_
   refine zx (r:=r) (fun ((d4,d5,d6,l3,l4):(List Int)×Int×Int×(List zi)×(List zL))=>mkE [(2,(li G)),(6,(AV.ptr 0 0)),(10,(AV.ptr 1 0)),(56,(ls cI x3.1)),(57,(li (x3.1.length:Int))),(58,(li i1))]) (fun (d4,d5,d6,l3,l4)=>[.box 26 (zG ⟨[],0,0,[],[]⟩),.box 26 [ls cI d4,li d5,li d6,AV.osl 51 10 (List.map zO l3),AV.osl 55 1 (List.map zI l4)]]) (fun (d4,d5,d6,l3,l4)=>zC8 (zAp G x3 n0) i1 d4 d5 d6 l3 l4) ?_ ?_
   ·
    refine zR<|zH<|zC<|zM h fun b6 h=>zA (zV Tryz.underlying22 Tryz.sizeOf3 (fun _=>rfl) rfl rfl b6)<|zA (zU (o:=0) Tryz.isAgg3 rfl rfl) ?_
    refine zA (zD rfl)<|zF<|zH<|zH<|zAS (zAZ (k:=1) (o:=3) (t':=51) (sz:=10) (rows:=List.map zO l1) rfl rfl)<|zAS (zAZ (k:=1) (o:=4) (t':=55) (sz:=1) (rows:=List.map zI l2) rfl rfl) ?_
    refine zP h fun x4 w4 h=>zM h fun b7 h=>zM h fun b8 h => ?_
    refine zAm (n:=100) (m:=0) [.head 0 0,.head 0 0,.head 0 0,.head 0 0,.head 0 0,.head 0 0] [] [(AV.agg [ls cI d1,li d2,li d3,AV.hd 2,AV.hd 3]),(li (at_ x3.1 i1)),li x4,li G,(li ((1:Int)*2 ^ G.toNat)),(AV.lit (.bool (decide (x4<((1:Int)*2 ^ G.toNat)))))] [[.box 26 (zG ⟨[],0,0,[],[]⟩),.box 26 [ls cI d1,li d2,li d3,AV.hd 2,AV.hd 3],.vec 51 10 (List.map zO l1),.vec 55 1 (List.map zI l2)]] (by kernel_rfl) (by kernel_rfl) ⟨D1 fun e s p=>zS (k:=1) (o:=0) (m:=5) Tryz.isAgg26 Tryz.sizeOf26 (s 10 rfl) rfl rfl rfl rfl,D1 fun e s p=>zB (s 14 rfl),?_,D1 fun e s p=>zB (s 2 rfl),D1 fun e s p=>zCx (a:=1) (b:=G) rfl p.1 b7 b8,D1 fun e s p=>zh (a:=x4) (b:=(1:Int)*2 ^ G.toNat) p.1 p.2.1,trivial⟩ ?_
    ·
     intro e17 s17 p16
     refine zAq (r':=(li x4)) (la:=[(AV.agg [ls cI d1,li d2,li d3,AV.hd 2,AV.hd 3]),(li (at_ x3.1 i1))]) (la':=[(AV.agg (zG ⟨d1,d2,d3,l1,l2⟩)),(li (at_ x3.1 i1))]) (r:=(li x4)) (S:=[2,3]) Tryz.func39 rfl (by kernel_rfl) (.fn 39) (zAL p16.1 (zAL p16.2.1 rfl)) ⟨zAl.agg (by exact ⟨zAl.nr rfl,⟨zAl.nr rfl,⟨zAl.nr rfl,⟨zGf (fun _=>rfl) rfl rfl,⟨zGf (fun _=>rfl) rfl rfl,trivial⟩⟩⟩⟩⟩),zAl.nr rfl,trivial⟩ (zF4 w4) (.inr trivial) rfl ?_
     exact zF ⟨fun _=>rfl,rfl⟩
    intro e21 s21 hq2
    refine zAS (zBI (l:=[(2,(li G)),(6,(AV.ptr 0 0)),(10,(AV.ptr 1 0)),(14,(li (at_ x3.1 i1))),(56,(ls cI x3.1)),(57,(li (x3.1.length:Int))),(58,(li i1)),(67,(AV.lit (.bool (decide (x4<((1:Int)*2 ^ G.toNat))))))]) ⟨s21 2 rfl,s21 6 rfl,s21 10 rfl,s21 14 rfl,s21 56 rfl,s21 57 rfl,s21 58 rfl,(hq2 5 (by decide) (by decide)),trivial⟩) ?_
    refine zW h rfl (fun b9 h => ?_) (fun b9 h => ?_)
    ·refine zz ?_
     exact ⟨(d1,d2,d3,l1,l2),Rep.trans (z9 (k:=1) (j:=2) (o:=3) rfl rfl rfl rfl) (Rep.trans (z9 (k:=1) (j:=3) (o:=4) rfl rfl rfl rfl) (zAD [0,1] (l:=[(2,(li G)),(6,(AV.ptr 0 0)),(10,(AV.ptr 1 0)),(56,(ls cI x3.1)),(57,(li (x3.1.length:Int))),(58,(li i1))]) rfl rfl (by kernel_rfl))),h⟩
    refine zQ ?_
    refine zx (r:=r) (fun ((d7,d8,d9,l5,l6):(List Int)×Int×Int×(List zi)×(List zL))=>mkE [(2,(li G)),(6,(AV.ptr 0 0)),(10,(AV.ptr 1 0)),(14,(li (at_ x3.1 i1))),(56,(ls cI x3.1)),(57,(li (x3.1.length:Int))),(58,(li i1))]) (fun (d7,d8,d9,l5,l6)=>[.box 26 (zG ⟨[],0,0,[],[]⟩),.box 26 [ls cI d7,li d8,li d9,AV.osl 51 10 (List.map zO l5),AV.osl 55 1 (List.map zI l6)]]) (fun (d7,d8,d9,l5,l6)=>zEi (zAp G x3 n0) G x3 i1 d7 d8 d9 l5 l6) ?_ ?_
    ·
     refine zH<|zC<|zA (zK Tryz.underlying26 rfl rfl Tryz.sizeOf24 rfl)<|zA (zN Tryz.isAgg24 rfl rfl rfl rfl)<|zA (zCd (f:=zI) (l:=l2) Tryz.underlying24 rfl rfl)<|zA (zB rfl) ?_
     refine zF<|zR<|zt (σ:=Int×(List Int)×Int×Int×(List zi)×(List zL)) (fun (i2,d10,d11,d12,l7,l8)=>mkE [(2,(li G)),(6,(AV.ptr 0 0)),(10,(AV.ptr 1 0)),(14,(li (at_ x3.1 i1))),(56,(ls cI x3.1)),(57,(li (x3.1.length:Int))),(58,(li i1)),(70,(li (l2.length:Int))),(71,(li i2))]) (fun (i2,d10,d11,d12,l7,l8)=>[.box 26 (zG ⟨[],0,0,[],[]⟩),.box 26 [ls cI d10,li d11,li d12,AV.osl 51 10 (List.map zO l7),AV.osl 55 1 (List.map zI l8)]]) (fun n1 (i2,d10,d11,d12,l7,l8)=>zC9 (zAp G x3 n0) G x3 i1 l2 n1 i2 d10 d11 d12 l7 l8) (0,d1,d2,d3,l1,l2) h (fun _=>rfl) (Rep.trans (z9 (k:=1) (j:=2) (o:=3) rfl rfl rfl rfl) (Rep.trans (z9 (k:=1) (j:=3) (o:=4) rfl rfl rfl rfl) (zAD [0,1] (l:=[(2,(li G)),(6,(AV.ptr 0 0)),(10,(AV.ptr 1 0)),(14,(li (at_ x3.1 i1))),(56,(ls cI x3.1)),(57,(li (x3.1.length:Int))),(58,(li i1)),(70,(li (l2.length:Int))),(71,(li 0))]) rfl rfl (by kernel_rfl)))) ?_
     clear h
     rintro n1 ⟨i2,d10,d11,d12,l7,l8⟩ h
     replace h:zEk (zAp G x3 n0) G x3 i1 l2 (zC9 (zAp G x3 n0) G x3 i1 l2 n1) i2 d10 d11 d12 l7 l8=some r:=h
     unfold zEk at h
     refine zH<|zC<|zA (zh rfl rfl)<|zF<|zH ?_
     refine zW h rfl (fun b12 h => ?_) (fun b12 h => ?_)
     ·refine zQ<|zH<|zR<|zH<|zC<|zA (zB rfl) ?_
      refine zA (zD rfl)<|zF<|zC<|zA (zB rfl)<|zA (zB rfl)<|zP h fun x6 w6 h => ?_
      refine zCu (k:=1) (la:=[AV.ptr 1 0,li i2,(li (at_ x3.1 i1))]) (la':=[AV.ptr 0 0,li i2,(li (at_ x3.1 i1))]) (r:=(.tup [])) (S:=[]) (en' := .box 26 [ls cI x6.nodes,li x6.batch,li x6.high,AV.osl 51 10 (List.map zO x6.zones),AV.osl 55 1 (List.map zI x6.caches)]) Tryz.func56 rfl (by kernel_rfl) (.fn 56) rfl ⟨zBs.ptr,zBs.of (zAl.nr rfl),zBs.of (zAl.nr rfl),trivial⟩ rfl rfl (by kernel_rfl) (by kernel_rfl) (zHH w6) rfl (.inl rfl)<|zF<|zC<|zM h fun b13 h=>zA (zg rfl rfl b13)<|zA (zB rfl) ?_
      refine zF ?_
      exact ⟨((i2+1),x6.nodes,x6.batch,x6.high,x6.zones,x6.caches),zAD [0,1] rfl rfl (by kernel_rfl),h⟩
     refine zz ?_
     exact ⟨(d10,d11,d12,l7,l8),zAD [0,1] rfl rfl (by kernel_rfl),h⟩
    clear h
    rintro ⟨d7,d8,d9,l5,l6⟩ h
    unfold zEi at h
    refine zH<|zC<|zA (zK Tryz.underlying26 rfl rfl Tryz.sizeOf23 rfl)<|z5 (zAZ (k:=1) (o:=3) (t':=51) (sz:=10) (rows:=List.map zO l5) rfl rfl)<|zA (zN Tryz.isAgg23 rfl rfl rfl rfl)<|zA (zB rfl) ?_
    refine zM h fun b10 h=>zA (zy (f:=zO) (l:=l5) (i:=at_ x3.1 i1) Tryz.underlying23 Tryz.sizeOf51 rfl rfl rfl b10)<|zA (zBO (f:=zO) (l:=l5) (i:=at_ x3.1 i1) (c:=0) (q:=10) (la:=(zO (at_ l5 (at_ x3.1 i1)))) Tryz.isAgg51 Tryz.sizeOf51 rfl rfl (by first | rfl | omega) b10 rfl rfl rfl)<|zA (zB rfl)<|zP h fun x5 w5 h=>ze Tryz.func64 rfl (by kernel_rfl) (.fn 64) rfl rfl (zLr w5) rfl ?_
    refine zA (zB rfl)<|zA (za rfl rfl)<|zA (za rfl rfl)<|zA (za rfl rfl)<|zX (H':=[.box 26 (zG ⟨[],0,0,[],[]⟩),.box 26 [ls cI d7,li d8,li d9,AV.hd 2,AV.osl 55 1 (List.map zI l6)],.vec 51 10 (List.map zO l5),.box 51 (zO ⟨0,0,0,0,0,(List.replicate 5 ([]:List Int))⟩)]) zv0<|zd (H':=[.box 26 (zG ⟨[],0,0,[],[]⟩),.box 26 [ls cI d7,li d8,li d9,AV.hd 2,AV.osl 55 1 (List.map zI l6)],.vec 51 10 (List.map zO l5),.box 51 (zO x5.1)]) (zT (k:=3) (o:=0) (cs:=(zO ⟨0,0,0,0,0,(List.replicate 5 ([]:List Int))⟩)) (la:=(zO x5.1)) Tryz.sizeOf51 rfl rfl rfl rfl) ?_
    refine zA (zD rfl)<|zA (zD rfl)<|zF<|zH<|zC<|zA (zB rfl) ?_
    refine zA (zA8 rfl rfl)<|zF ?_
    refine zW h rfl (fun b11 h => ?_) (fun b11 h => ?_)
    ·refine zH<|zC<|zA (zK Tryz.underlying26 rfl rfl Tryz.sizeOf23 rfl)<|zA (zN Tryz.isAgg23 rfl rfl rfl rfl)<|zA (zB rfl)<|zA (zS (k:=3) (o:=0) (m:=10) Tryz.isAgg51 Tryz.sizeOf51 rfl rfl rfl rfl rfl) ?_
     refine zA (zy (f:=zO) (l:=l5) (i:=at_ x3.1 i1) Tryz.underlying23 Tryz.sizeOf51 rfl rfl rfl b10)<|zd (H':=[.box 26 (zG ⟨[],0,0,[],[]⟩),.box 26 [ls cI d7,li d8,li d9,AV.hd 2,AV.osl 55 1 (List.map zI l6)],.vec 51 10 (List.map zO (l5.set (at_ x3.1 i1).toNat x5.1)),.box 51 (zO x5.1)]) (zBG (k:=2) (o:=((at_ x3.1 i1).toNat*10)) (f:=zO) (l:=l5) (i:=at_ x3.1 i1) (z:=x5.1) Tryz.sizeOf51 (fun _=>rfl) rfl rfl (by first | rfl | omega) b10 rfl rfl)<|zF<|zH<|zC<|z5 (z9 (k:=1) (j:=2) (o:=3) rfl rfl rfl rfl) ?_
     refine z5 (zA4 (k:=1) (o:=3) (rows':=List.map zO (l5.set (at_ x3.1 i1).toNat x5.1)) rfl rfl (zAM (fun _=>rfl)))<|z5 (zA4 (k:=1) (o:=4) (rows':=List.map zI l6) rfl rfl (zAM (fun _=>rfl)))<|zA (zS (k:=1) (o:=0) (m:=5) Tryz.isAgg26 Tryz.sizeOf26 rfl rfl rfl rfl rfl)<|zA (zB rfl)<|zd (H':=[.box 26 (zG (⟨d7,d8,d9,l5.set (at_ x3.1 i1).toNat x5.1,l6⟩:zJ)),.box 26 (zG ⟨d7,d8,d9,(l5.set (at_ x3.1 i1).toNat x5.1),l6⟩),.dead,.box 51 (zO x5.1)]) (zT (k:=0) (o:=0) (cs:=(zG ⟨[],0,0,[],[]⟩)) (la:=(zG (⟨d7,d8,d9,l5.set (at_ x3.1 i1).toNat x5.1,l6⟩:zJ))) Tryz.sizeOf26 rfl rfl rfl rfl)<|zA (zD rfl) ?_
     refine zA (zD rfl)<|zF<|zb ?_
     cases h
     exact zC7 (zDV Tryz.isAgg26 Tryz.sizeOf26 rfl rfl rfl rfl) (zAI rfl rfl) (zAI rfl rfl) rfl
    refine zQ ?_
    exact ⟨(d7,d8,d9,l5,l6),Rep.trans (z9 (k:=1) (j:=2) (o:=3) rfl rfl rfl rfl) (zAD [0,1] (l:=[(2,(li G)),(6,(AV.ptr 0 0)),(10,(AV.ptr 1 0)),(56,(ls cI x3.1)),(57,(li (x3.1.length:Int))),(58,(li i1))]) rfl rfl (by kernel_rfl)),h⟩
   clear h
   rintro ⟨d4,d5,d6,l3,l4⟩ h
   unfold zC8 at h
   refine zC<|zM h fun b5 h=>zA (zg rfl rfl b5)<|zA (zB rfl)<|zF ?_
   exact ⟨((i1+1),d4,d5,d6,l3,l4),zAD [0,1] rfl rfl (by kernel_rfl),h⟩
  refine zz ?_
  exact ⟨(),zAD [0] rfl rfl (by kernel_rfl),h⟩
 clear h
 intro _ h
 unfold zE1 at h
 refine zH<|zC<|zA zOP<|zd (H':=[.box 26 (zG (⟨([]:List Int),0,0,([]:List zi),([]:List zL)⟩:zJ))]) (zT (k:=0) (o:=0) (cs:=(zG ⟨[],0,0,[],[]⟩)) (la:=(zG (⟨([]:List Int),0,0,([]:List zi),([]:List zL)⟩:zJ))) Tryz.sizeOf26 rfl rfl rfl rfl)<|zA (zD rfl)<|zA (zD rfl) ?_
 refine zF<|zb ?_
 cases h
 exact zC7 (zDV Tryz.isAgg26 Tryz.sizeOf26 rfl rfl rfl rfl) (zAI rfl rfl) (zAI rfl rfl) rfl
theorem zJf {B:zJ} {r:zJ} (h:zEd B=some r):PFn Tryz.prog 34 [(AV.agg (zG B))] (AV.agg (zG r)):=by
 refine zm Tryz.func34 rfl Tryz.ntmps34 Tryz.results34 rfl ?_
 unfold zEd at h
 refine zH<|zC<|zX (H':=[.box 26 (zG B)]) (zu (t:=26) rfl)<|zX (H':=[.box 26 (zG B),.box 26 (zG ⟨[],0,0,[],[]⟩)]) zv3<|zF<|zH ?_
 refine zH<|zC<|zA (zS (k:=0) (o:=0) (m:=5) Tryz.isAgg26 Tryz.sizeOf26 rfl rfl rfl rfl rfl)<|zP h fun x1 w1 h=>ze Tryz.func13 rfl (by kernel_rfl) (.fn 13) rfl rfl (zA1 w1) rfl<|zA (z7 rfl rfl) ?_
 refine zF ?_
 refine zW h rfl (fun b1 h => ?_) (fun b1 h => ?_)
 ·refine zH<|zC<|zA zOP<|zd (H':=[.box 26 (zG B),.box 26 (zG (⟨([]:List Int),0,0,([]:List zi),([]:List zL)⟩:zJ))]) (zT (k:=1) (o:=0) (cs:=(zG ⟨[],0,0,[],[]⟩)) (la:=(zG (⟨([]:List Int),0,0,([]:List zi),([]:List zL)⟩:zJ))) Tryz.sizeOf26 rfl rfl rfl rfl)<|zF<|zb ?_
  cases h
  exact zv (zDV Tryz.isAgg26 Tryz.sizeOf26 rfl rfl rfl rfl)
 refine zQ<|zH<|zC<|zA (zS (k:=0) (o:=0) (m:=5) Tryz.isAgg26 Tryz.sizeOf26 rfl rfl rfl rfl rfl)<|zP h fun x2 w2 h=>zDg (cs:=[ls cI x2.nodes,li x2.batch,li x2.high,AV.osl 51 10 (List.map zO x2.zones),AV.osl 55 1 (List.map zp x2.caches)]) (la:=[(AV.agg (zG B))]) (la':=[(AV.agg (zG B))]) (S:=[]) Tryz.func54 rfl (by kernel_rfl) (.fn 54) rfl ⟨zAl.nr rfl,trivial⟩ (zDp w2) (.inl rfl) ?_
 refine z5 (zJC (k:=2) (o:=4) (cs:=[ls cI x2.nodes,li x2.batch,li x2.high,AV.osl 51 10 (List.map zO x2.zones),AV.osl 55 1 (List.map zp x2.caches)]) (rows':=List.map zI x2.caches) rfl rfl (zDn (fun x=>zCl x)))<|zX (H':=[.box 26 (zG B),.box 26 (zG ⟨[],0,0,[],[]⟩),.val (.agg [ls cI x2.nodes,li x2.batch,li x2.high,AV.osl 51 10 (List.map zO x2.zones),AV.osl 55 1 (List.map zI x2.caches)]),.box 26 (zG ⟨[],0,0,[],[]⟩)]) zv3<|zd (H':=[.box 26 (zG B),.box 26 (zG ⟨[],0,0,[],[]⟩),.dead,.box 26 [ls cI x2.nodes,li x2.batch,li x2.high,AV.osl 51 10 (List.map zO x2.zones),AV.osl 55 1 (List.map zI x2.caches)]]) (zBW (k:=3) (o:=0) (j:=2) (cs:=(zG ⟨[],0,0,[],[]⟩)) (la:=[ls cI x2.nodes,li x2.batch,li x2.high,AV.osl 51 10 (List.map zO x2.zones),AV.osl 55 1 (List.map zI x2.caches)]) Tryz.sizeOf26 rfl rfl rfl rfl rfl (by decide))<|zF ?_
 refine zx (r:=r) (fun ((d1,d2,d3,l1,l2):(List Int)×Int×Int×(List zi)×(List zL))=>mkE [(2,(AV.ptr 0 0)),(3,(AV.ptr 1 0))]) (fun (d1,d2,d3,l1,l2)=>[.box 26 (zG ⟨[],0,0,[],[]⟩),.box 26 [ls cI d1,li d2,li d3,AV.osl 51 10 (List.map zO l1),AV.osl 55 1 (List.map zI l2)]]) (fun (d1,d2,d3,l1,l2)=>zG6 d1 d2 d3 l1 l2) ?_ ?_
 ·
  refine zH<|zC<|zA (zK Tryz.underlying26 rfl rfl Tryz.sizeOf24 rfl)<|z5 (zAZ (k:=3) (o:=4) (t':=55) (sz:=1) (rows:=List.map zI x2.caches) rfl rfl)<|zA (zN Tryz.isAgg24 rfl rfl rfl rfl)<|zA (zCd (f:=zI) (l:=x2.caches) Tryz.underlying24 rfl rfl) ?_
  refine zA (zB rfl)<|zF<|zR<|zt (σ:=Int×(List Int)×Int×Int×(List zi)×(List zL)) (fun (i1,d4,d5,d6,l3,l4)=>mkE [(2,(AV.ptr 0 0)),(3,(AV.ptr 1 0)),(14,(li (x2.caches.length:Int))),(15,(li i1))]) (fun (i1,d4,d5,d6,l3,l4)=>[.box 26 (zG ⟨[],0,0,[],[]⟩),.box 26 [ls cI d4,li d5,li d6,AV.osl 51 10 (List.map zO l3),AV.osl 55 1 (List.map zI l4)]]) (fun n0 (i1,d4,d5,d6,l3,l4)=>zBQ x2 n0 i1 d4 d5 d6 l3 l4) (0,x2.nodes,x2.batch,x2.high,x2.zones,x2.caches) h (fun _=>rfl) (Rep.trans (z9 (k:=3) (j:=4) (o:=4) rfl rfl rfl rfl) (zAD [1,3] (l:=[(2,(AV.ptr 0 0)),(3,(AV.ptr 1 0)),(14,(li (x2.caches.length:Int))),(15,(li 0))]) rfl rfl (by kernel_rfl))) ?_
  clear h
  rintro n0 ⟨i1,d4,d5,d6,l3,l4⟩ h
  replace h:zCR x2 (zBQ x2 n0) i1 d4 d5 d6 l3 l4=some r:=h
  unfold zCR at h
  refine zH<|zC<|zA (zh rfl rfl)<|zF<|zH ?_
  refine zW h rfl (fun b2 h => ?_) (fun b2 h => ?_)
  ·refine zQ ?_
   refine zx (r:=r) (fun ((d7,d8,d9,l5,l6):(List Int)×Int×Int×(List zi)×(List zL))=>mkE [(2,(AV.ptr 0 0)),(3,(AV.ptr 1 0)),(14,(li (x2.caches.length:Int))),(15,(li i1))]) (fun (d7,d8,d9,l5,l6)=>[.box 26 (zG ⟨[],0,0,[],[]⟩),.box 26 [ls cI d7,li d8,li d9,AV.osl 51 10 (List.map zO l5),AV.osl 55 1 (List.map zI l6)]]) (fun (d7,d8,d9,l5,l6)=>zFW (zBQ x2 n0) i1 d7 d8 d9 l5 l6) ?_ ?_
   ·
    refine zR<|zH<|zC<|zA (zB rfl)<|zA (zD rfl)<|zF ?_
    refine zH<|zC<|zA (zK Tryz.underlying26 rfl rfl Tryz.sizeOf23 rfl)<|z5 (zAZ (k:=1) (o:=3) (t':=51) (sz:=10) (rows:=List.map zO l3) rfl rfl)<|zA (zN Tryz.isAgg23 rfl rfl rfl rfl)<|zA (zCd (f:=zO) (l:=l3) Tryz.underlying23 rfl rfl) ?_
    refine zA (zB rfl)<|zF<|zR<|zt (σ:=Int×(List Int)×Int×Int×(List zi)×(List zL)) (fun (i2,d10,d11,d12,l7,l8)=>mkE [(2,(AV.ptr 0 0)),(3,(AV.ptr 1 0)),(4,(li i1)),(14,(li (x2.caches.length:Int))),(15,(li i1)),(20,(li (l3.length:Int))),(21,(li i2))]) (fun (i2,d10,d11,d12,l7,l8)=>[.box 26 (zG ⟨[],0,0,[],[]⟩),.box 26 [ls cI d10,li d11,li d12,AV.osl 51 10 (List.map zO l7),AV.osl 55 1 (List.map zI l8)]]) (fun n1 (i2,d10,d11,d12,l7,l8)=>zDt (zBQ x2 n0) i1 l3 n1 i2 d10 d11 d12 l7 l8) (0,d4,d5,d6,l3,l4) h (fun _=>rfl) (Rep.trans (z9 (k:=1) (j:=2) (o:=3) rfl rfl rfl rfl) (zAD [0,1] (l:=[(2,(AV.ptr 0 0)),(3,(AV.ptr 1 0)),(4,(li i1)),(14,(li (x2.caches.length:Int))),(15,(li i1)),(20,(li (l3.length:Int))),(21,(li 0))]) rfl rfl (by kernel_rfl))) ?_
    clear h
    rintro n1 ⟨i2,d10,d11,d12,l7,l8⟩ h
    replace h:zCS (zBQ x2 n0) i1 l3 (zDt (zBQ x2 n0) i1 l3 n1) i2 d10 d11 d12 l7 l8=some r:=h
    unfold zCS at h
    refine zH<|zC<|zA (zh rfl rfl)<|zF<|zH ?_
    refine zW h rfl (fun b4 h => ?_) (fun b4 h => ?_)
    ·refine zQ<|zH<|zR<|zH<|zC<|zA (zB rfl) ?_
     refine zA (zD rfl)<|zF<|zC<|zA (zB rfl)<|zA (zB rfl)<|zP h fun x3 w3 h => ?_
     refine zCu (k:=1) (la:=[AV.ptr 1 0,li i1,li i2]) (la':=[AV.ptr 0 0,li i1,li i2]) (r:=(.tup [])) (S:=[]) (en' := .box 26 [ls cI x3.nodes,li x3.batch,li x3.high,AV.osl 51 10 (List.map zO x3.zones),AV.osl 55 1 (List.map zI x3.caches)]) Tryz.func56 rfl (by kernel_rfl) (.fn 56) rfl ⟨zBs.ptr,zBs.of (zAl.nr rfl),zBs.of (zAl.nr rfl),trivial⟩ rfl rfl (by kernel_rfl) (by kernel_rfl) (zHH w3) rfl (.inl rfl)<|zF<|zC<|zM h fun b5 h=>zA (zg rfl rfl b5)<|zA (zB rfl) ?_
     refine zF ?_
     exact ⟨((i2+1),x3.nodes,x3.batch,x3.high,x3.zones,x3.caches),zAD [0,1] rfl rfl (by kernel_rfl),h⟩
    refine zz ?_
    exact ⟨(d10,d11,d12,l7,l8),zAD [0,1] rfl rfl (by kernel_rfl),h⟩
   clear h
   rintro ⟨d7,d8,d9,l5,l6⟩ h
   unfold zFW at h
   refine zC<|zM h fun b3 h=>zA (zg rfl rfl b3)<|zA (zB rfl)<|zF ?_
   exact ⟨((i1+1),d7,d8,d9,l5,l6),zAD [0,1] rfl rfl (by kernel_rfl),h⟩
  refine zz ?_
  exact ⟨(d4,d5,d6,l3,l4),zAD [0,1] rfl rfl (by kernel_rfl),h⟩
 clear h
 rintro ⟨d1,d2,d3,l1,l2⟩ h
 unfold zG6 at h
 refine zH<|zC<|z5 (zA4 (k:=1) (o:=3) (rows':=List.map zO l1) rfl rfl (zAM (fun _=>rfl)))<|z5 (zA4 (k:=1) (o:=4) (rows':=List.map zI l2) rfl rfl (zAM (fun _=>rfl)))<|zA (zS (k:=1) (o:=0) (m:=5) Tryz.isAgg26 Tryz.sizeOf26 rfl rfl rfl rfl rfl)<|zd (H':=[.box 26 (zG (⟨d1,d2,d3,l1,l2⟩:zJ)),.box 26 (zG ⟨d1,d2,d3,l1,l2⟩)]) (zT (k:=0) (o:=0) (cs:=(zG ⟨[],0,0,[],[]⟩)) (la:=(zG (⟨d1,d2,d3,l1,l2⟩:zJ))) Tryz.sizeOf26 rfl rfl rfl rfl) ?_
 refine zF<|zb ?_
 cases h
 exact zv (zDV Tryz.isAgg26 Tryz.sizeOf26 rfl rfl rfl rfl)
theorem zKN {B:List Int} {Y:List Int} {r:Bool} (h:zFG B Y=some r):PFn Tryz.prog 61 [ls cI B,ls cI Y] (AV.lit (.bool r)):=by
 refine zm Tryz.func61 rfl Tryz.ntmps61 Tryz.results61 rfl ?_
 unfold zFG at h
 refine zH<|zC<|zA (zD rfl)<|zF<|zH<|zH ?_
 refine zC<|zA (zB rfl)<|zA (zY Tryz.underlying22 rfl)<|zA (zB rfl)<|zA (zY Tryz.underlying22 rfl)<|zA (z7 rfl rfl) ?_
 refine zF ?_
 refine zW h rfl (fun b1 h => ?_) (fun b1 h => ?_)
 ·refine zH<|zC<|zA (zD rfl)<|zF<|zb ?_
  cases h
  exact zv (zAI rfl rfl)
 refine zQ ?_
 refine zx (r:=r) (fun (_:Unit)=>mkE []) (fun _=>[]) (fun _=>zHo ) ?_ ?_
 ·
  refine zH<|zC<|zA (zB rfl)<|zA (zY Tryz.underlying22 rfl)<|zA (zB rfl)<|zF ?_
  refine zR<|zt (σ:=Int) (fun i1=>mkE [(0,(ls cI B)),(1,(ls cI Y)),(12,(li (B.length:Int))),(13,(li i1))]) (fun i1=>[]) (fun n0 i1=>zEb B Y n0 i1) 0 h (fun _=>rfl) (zAD [] rfl rfl (by kernel_rfl)) ?_
  clear h
  intro n0 i1 h
  replace h:zCc B Y (zEb B Y n0) i1=some r:=h
  unfold zCc at h
  refine zH<|zC<|zA (zh rfl rfl)<|zF<|zH ?_
  refine zW h rfl (fun b2 h => ?_) (fun b2 h => ?_)
  ·refine zQ<|zH<|zR<|zH<|zC<|zA (zB rfl) ?_
   refine zA (zD rfl)<|zF<|zH<|zM h fun b3 h=>zM h fun b4 h => ?_
   refine zAm (n:=26) (m:=0) [.head 0 0,.head 0 0,.head 0 0,.head 0 0,.head 0 0,.head 0 0,.head 0 0,.head 0 0,.head 0 0] [] [ls cI B,li i1,(AV.rp (cI (at_ B i1)) 0),(li (at_ B i1)),ls cI Y,li i1,(AV.rp (cI (at_ Y i1)) 0),(li (at_ Y i1)),(AV.lit (.bool (!decide ((at_ B i1)=(at_ Y i1)))))] [[]] (by kernel_rfl) (by kernel_rfl) ⟨D1 fun e s p=>zB (s 0 rfl),D1 fun e s p=>zB (s 5 rfl),D1 fun e s p=>zV (f:=cI) (l:=B) (i:=i1) Tryz.underlying22 Tryz.sizeOf3 (fun _=>rfl) p.1 p.2.1 b3,D1 fun e s p=>zU (o:=0) Tryz.isAgg3 p.1 rfl,D1 fun e s p=>zB (s 1 rfl),D1 fun e s p=>zB (s 5 rfl),D1 fun e s p=>zV (f:=cI) (l:=Y) (i:=i1) Tryz.underlying22 Tryz.sizeOf3 (fun _=>rfl) p.1 p.2.1 b4,D1 fun e s p=>zU (o:=0) Tryz.isAgg3 p.1 rfl,D1 fun e s p=>z7 (a:=at_ B i1) (b:=at_ Y i1) p.1 p.2.1,trivial⟩ ?_
   intro e10 s10 hq1
   refine zAS (zBI (l:=[(0,(ls cI B)),(1,(ls cI Y)),(12,(li (B.length:Int))),(13,(li i1)),(24,(AV.lit (.bool (!decide ((at_ B i1)=(at_ Y i1))))))]) ⟨s10 0 rfl,s10 1 rfl,s10 12 rfl,s10 13 rfl,(hq1 8 (by decide) (by decide)),trivial⟩) ?_
   refine zW h rfl (fun b5 h => ?_) (fun b5 h => ?_)
   ·refine zH<|zC<|zA (zD rfl)<|zF<|zb ?_
    cases h
    exact zv (zAI rfl rfl)
   refine zQ<|zC<|zM h fun b6 h=>zA (zg rfl rfl b6)<|zA (zB rfl)<|zF ?_
   exact ⟨(i1+1),zAD [] rfl rfl (by kernel_rfl),h⟩
  refine zz ?_
  exact ⟨(),zAD [] rfl rfl (by kernel_rfl),h⟩
 clear h
 intro _ h
 unfold zHo at h
 refine zH<|zC<|zA (zD rfl)<|zF<|zb ?_
 cases h
 exact zv (zAI rfl rfl)
theorem zM3 {B:List Int} {Y:List Int} {r:Bool} (h:zGU B Y=some r):PFn Tryz.prog 117 [ls cI B,ls cI Y] (AV.lit (.bool r)):=by
 refine zm Tryz.func117 rfl Tryz.ntmps117 Tryz.results117 rfl ?_
 unfold zGU at h
 refine zH<|zC<|zA (zD rfl)<|zF<|zH<|zH ?_
 refine zC<|zA (zB rfl)<|zA (zY Tryz.underlying22 rfl)<|zA (zB rfl)<|zA (zY Tryz.underlying22 rfl)<|zA (z7 rfl rfl) ?_
 refine zF ?_
 refine zW h rfl (fun b1 h => ?_) (fun b1 h => ?_)
 ·refine zH<|zC<|zA (zD rfl)<|zF<|zb ?_
  cases h
  exact zv (zAI rfl rfl)
 refine zQ ?_
 refine zx (r:=r) (fun (_:Unit)=>mkE []) (fun _=>[]) (fun _=>zHi ) ?_ ?_
 ·
  refine zH<|zC<|zA (zD rfl)<|zF<|zR<|zt (σ:=Int) (fun i1=>mkE [(0,(ls cI B)),(1,(ls cI Y)),(5,(li i1))]) (fun i1=>[]) (fun n0 i1=>zEc B Y n0 i1) 0 h (fun _=>rfl) (zAD [] rfl rfl (by kernel_rfl)) ?_
  clear h
  intro n0 i1 h
  replace h:zCf B Y (zEc B Y n0) i1=some r:=h
  unfold zCf at h
  refine zH<|zH<|zC<|zA (zB rfl)<|zA (zB rfl)<|zA (zY Tryz.underlying22 rfl) ?_
  refine zA (zh rfl rfl)<|zF ?_
  refine zW h rfl (fun b2 h => ?_) (fun b2 h => ?_)
  ·refine zQ<|zH<|zR<|zH<|zM h fun b3 h=>zM h fun b4 h => ?_
   refine zAm (n:=26) (m:=0) [.head 0 0,.head 0 0,.head 0 0,.head 0 0,.head 0 0,.head 0 0,.head 0 0,.head 0 0,.head 0 0] [] [ls cI B,li i1,(AV.rp (cI (at_ B i1)) 0),(li (at_ B i1)),ls cI Y,li i1,(AV.rp (cI (at_ Y i1)) 0),(li (at_ Y i1)),(AV.lit (.bool (!decide ((at_ B i1)=(at_ Y i1)))))] [[]] (by kernel_rfl) (by kernel_rfl) ⟨D1 fun e s p=>zB (s 0 rfl),D1 fun e s p=>zB (s 5 rfl),D1 fun e s p=>zV (f:=cI) (l:=B) (i:=i1) Tryz.underlying22 Tryz.sizeOf3 (fun _=>rfl) p.1 p.2.1 b3,D1 fun e s p=>zU (o:=0) Tryz.isAgg3 p.1 rfl,D1 fun e s p=>zB (s 1 rfl),D1 fun e s p=>zB (s 5 rfl),D1 fun e s p=>zV (f:=cI) (l:=Y) (i:=i1) Tryz.underlying22 Tryz.sizeOf3 (fun _=>rfl) p.1 p.2.1 b4,D1 fun e s p=>zU (o:=0) Tryz.isAgg3 p.1 rfl,D1 fun e s p=>z7 (a:=at_ B i1) (b:=at_ Y i1) p.1 p.2.1,trivial⟩ ?_
   intro e10 s10 hq1
   refine zAS (zBI (l:=[(0,(ls cI B)),(1,(ls cI Y)),(5,(li i1)),(25,(AV.lit (.bool (!decide ((at_ B i1)=(at_ Y i1))))))]) ⟨s10 0 rfl,s10 1 rfl,s10 5 rfl,(hq1 8 (by decide) (by decide)),trivial⟩) ?_
   refine zW h rfl (fun b5 h => ?_) (fun b5 h => ?_)
   ·refine zH<|zC<|zA (zD rfl)<|zF<|zb ?_
    cases h
    exact zv (zAI rfl rfl)
   refine zQ<|zC<|zA (zB rfl)<|zM h fun b6 h=>zA (zg rfl rfl b6)<|zA (zD rfl) ?_
   refine zF ?_
   exact ⟨(i1+1),zAD [] rfl rfl (by kernel_rfl),h⟩
  refine zz ?_
  exact ⟨(),zAD [] rfl rfl (by kernel_rfl),h⟩
 clear h
 intro _ h
 unfold zHi at h
 refine zH<|zC<|zA (zD rfl)<|zF<|zb ?_
 cases h
 exact zv (zAI rfl rfl)
theorem zPS {B:zi} {Y:zi} {r:Bool} (h:zKI B Y=some r):PFn Tryz.prog 62 [(AV.agg (zO B)),(AV.agg (zO Y))] (AV.lit (.bool r)):=by
 refine zm Tryz.func62 rfl Tryz.ntmps62 Tryz.results62 rfl ?_
 unfold zKI at h
 refine zH<|zC<|zX (H':=[.box 51 (zO B)]) (zu (t:=51) rfl)<|zX (H':=[.box 51 (zO B),.box 51 (zO Y)]) (zu (t:=51) rfl)<|zA (zD rfl)<|zF ?_
 refine zH<|zH<|zC<|zA (zK Tryz.underlying51 rfl rfl Tryz.sizeOf3 rfl)<|zA (zN Tryz.isAgg3 rfl rfl rfl rfl)<|zA (zK Tryz.underlying51 rfl rfl Tryz.sizeOf3 rfl) ?_
 refine zA (zN Tryz.isAgg3 rfl rfl rfl rfl)<|zA (z7 rfl rfl)<|zA (zB rfl)<|zZ rfl rfl (fun c1=>zq.step (zK Tryz.underlying51 rfl rfl Tryz.sizeOf3 rfl))<|zZ rfl rfl (fun c2=>zq.step (zN Tryz.isAgg3 (z8 rfl c2) rfl rfl rfl))<|zZ rfl rfl (fun c3=>zq.step (zK Tryz.underlying51 rfl rfl Tryz.sizeOf3 rfl)) ?_
 refine zZ rfl rfl (fun c4=>zq.step (zN Tryz.isAgg3 (z8 rfl c4) rfl rfl rfl))<|zZ rfl rfl (fun c5=>zq.step (z7 (z8 rfl c5) (z8 rfl c5)))<|zA (zj rfl rfl)<|zA (zB rfl)<|zZ rfl rfl (fun c6=>zq.step (zK Tryz.underlying51 rfl rfl Tryz.sizeOf3 rfl))<|zZ rfl rfl (fun c7=>zq.step (zN Tryz.isAgg3 (z8 rfl c7) rfl rfl rfl)) ?_
 refine zZ rfl rfl (fun c8=>zq.step (zK Tryz.underlying51 rfl rfl Tryz.sizeOf3 rfl))<|zZ rfl rfl (fun c9=>zq.step (zN Tryz.isAgg3 (z8 rfl c9) rfl rfl rfl))<|zZ rfl rfl (fun c10=>zq.step (z7 (z8 rfl c10) (z8 rfl c10)))<|zA (zj rfl rfl)<|zA (zB rfl)<|zZ rfl rfl (fun c11=>zq.step (zK Tryz.underlying51 rfl rfl Tryz.sizeOf3 rfl)) ?_
 refine zZ rfl rfl (fun c12=>zq.step (zN Tryz.isAgg3 (z8 rfl c12) rfl rfl rfl))<|zZ rfl rfl (fun c13=>zq.step (zK Tryz.underlying51 rfl rfl Tryz.sizeOf3 rfl))<|zZ rfl rfl (fun c14=>zq.step (zN Tryz.isAgg3 (z8 rfl c14) rfl rfl rfl))<|zZ rfl rfl (fun c15=>zq.step (z7 (z8 rfl c15) (z8 rfl c15)))<|zA (zj rfl rfl)<|zA (zB rfl) ?_
 refine zZ rfl rfl (fun c16=>zq.step (zK Tryz.underlying51 rfl rfl Tryz.sizeOf3 rfl))<|zZ rfl rfl (fun c17=>zq.step (zN Tryz.isAgg3 (z8 rfl c17) rfl rfl rfl))<|zZ rfl rfl (fun c18=>zq.step (zK Tryz.underlying51 rfl rfl Tryz.sizeOf3 rfl))<|zZ rfl rfl (fun c19=>zq.step (zN Tryz.isAgg3 (z8 rfl c19) rfl rfl rfl))<|zZ rfl rfl (fun c20=>zq.step (z7 (z8 rfl c20) (z8 rfl c20)))<|zA (zj rfl rfl) ?_
 refine zF ?_
 refine zW h rfl (fun b1 h => ?_) (fun b1 h => ?_)
 ·refine zH<|zC<|zA (zD rfl)<|zF<|zb ?_
  cases h
  exact zv (zAI rfl rfl)
 refine zQ ?_
 refine zx (r:=r) (fun (_:Unit)=>mkE []) (fun _=>[]) (fun _=>zKV ) ?_ ?_
 ·
  refine zH<|zC<|zA (zD rfl)<|zF<|zR<|zt (σ:=Int) (fun i1=>mkE [(2,(AV.ptr 0 0)),(3,(AV.ptr 1 0)),(5,(li i1))]) (fun i1=>[.box 51 (zO B),.box 51 (zO Y)]) (fun n0 i1=>zG9 B Y n0 i1) 0 h (fun _=>rfl) (zAD [0,1] rfl rfl (by kernel_rfl)) ?_
  clear h
  intro n0 i1 h
  replace h:zE2 B Y (zG9 B Y n0) i1=some r:=h
  unfold zE2 at h
  refine zH<|zH<|zC<|zA (zB rfl)<|zA (zCj rfl rfl)<|zF ?_
  refine zW h rfl (fun b2 h => ?_) (fun b2 h => ?_)
  ·refine zQ<|zH<|zR<|zH<|zM h fun b3 h=>zP h fun x1 w1 h => ?_
   refine zAm (n:=53) (m:=0) [.head 0 0,.head 0 0,.head 0 0,.head 0 0,.head 0 0,.head 0 0,.head 0 0,.head 0 0,.head 0 0,.head 0 0] [] [li i1,AV.ptr 0 5,(AV.ptr 0 (5+i1.toNat*1)),(ls cI (B.free.getD i1.toNat ([]:List Int))),li i1,AV.ptr 1 5,(AV.ptr 1 (5+i1.toNat*1)),(ls cI (Y.free.getD i1.toNat ([]:List Int))),(AV.lit (.bool x1)),(AV.lit (.bool (!x1)))] [[.box 51 (zO B),.box 51 (zO Y)]] (by kernel_rfl) (by kernel_rfl) ⟨D1 fun e s p=>zB (s 5 rfl),D1 fun e s p=>zK (k:=0) (o:=0) (off:=5) Tryz.underlying51 rfl rfl Tryz.sizeOf49 (s 2 rfl),D1 fun e s p=>zAG (m:=5) (s:=1) (i:=i1) (k:=0) (o:=5) Tryz.underlying49 Tryz.sizeOf22 p.1 p.2.1 b3,D1 fun e s p=>zAr (k:=0) (o:=(5+i1.toNat*1)) (cs:=(zO B)) (hd:=([li B.node]++[li B.kind]++[li B.start]++[li B.count]++[li B.min]++[])) (tl:=([])) (g:=(eS cI)) (d0:=([]:List Int)) (l:=B.free) (N:=5) (i:=i1.toNat) (a:=(ls cI (B.free.getD i1.toNat ([]:List Int)))) Tryz.isAgg22 p.1 rfl rfl (congrArg (fun q=>5+q) (Nat.mul_one _)) (zBK b3).2 rfl rfl,D1 fun e s p=>zB (s 5 rfl),D1 fun e s p=>zK (k:=1) (o:=0) (off:=5) Tryz.underlying51 rfl rfl Tryz.sizeOf49 (s 3 rfl),D1 fun e s p=>zAG (m:=5) (s:=1) (i:=i1) (k:=1) (o:=5) Tryz.underlying49 Tryz.sizeOf22 p.1 p.2.1 b3,D1 fun e s p=>zAr (k:=1) (o:=(5+i1.toNat*1)) (cs:=(zO Y)) (hd:=([li Y.node]++[li Y.kind]++[li Y.start]++[li Y.count]++[li Y.min]++[])) (tl:=([])) (g:=(eS cI)) (d0:=([]:List Int)) (l:=Y.free) (N:=5) (i:=i1.toNat) (a:=(ls cI (Y.free.getD i1.toNat ([]:List Int)))) Tryz.isAgg22 p.1 rfl rfl (congrArg (fun q=>5+q) (Nat.mul_one _)) (zBK b3).2 rfl rfl,?_,D1 fun e s p=>zAv (t:=x1) p.1,trivial⟩ ?_
   ·
    intro e9 s9 p9
    refine ze (r:=(AV.lit (.bool x1))) (la:=[(ls cI (B.free.getD i1.toNat ([]:List Int))),(ls cI (Y.free.getD i1.toNat ([]:List Int)))]) Tryz.func117 rfl (by kernel_rfl) (.fn 117) (zAL p9.1 (zAL p9.2.1 rfl)) rfl (zM3 w1) rfl ?_
    exact zF ⟨fun _=>rfl,rfl⟩
   intro e11 s11 hq1
   refine zAS (zBI (l:=[(2,(AV.ptr 0 0)),(3,(AV.ptr 1 0)),(5,(li i1)),(52,(AV.lit (.bool (!x1))))]) ⟨s11 2 rfl,s11 3 rfl,s11 5 rfl,(hq1 9 (by decide) (by decide)),trivial⟩) ?_
   refine zW h rfl (fun b4 h => ?_) (fun b4 h => ?_)
   ·refine zH<|zC<|zA (zD rfl)<|zF<|zb ?_
    cases h
    exact zv (zAI rfl rfl)
   refine zQ<|zC<|zA (zB rfl)<|zM h fun b5 h=>zA (zg rfl rfl b5)<|zA (zD rfl) ?_
   refine zF ?_
   exact ⟨(i1+1),zAD [0,1] rfl rfl (by kernel_rfl),h⟩
  refine zz ?_
  exact ⟨(),zAD [] rfl rfl (by kernel_rfl),h⟩
 clear h
 intro _ h
 unfold zKV at h
 refine zH<|zC<|zA (zD rfl)<|zF<|zb ?_
 cases h
 exact zv (zAI rfl rfl)
theorem zPI {B:zL} {Y:zL} {r:Bool} (h:zKP B Y=some r):PFn Tryz.prog 63 [(AV.agg (zI B)),(AV.agg (zI Y))] (AV.lit (.bool r)):=by
 refine zm Tryz.func63 rfl Tryz.ntmps63 Tryz.results63 rfl ?_
 unfold zKP at h
 refine zH<|zC<|zX (H':=[.box 55 (zI B)]) (zu (t:=55) rfl)<|zX (H':=[.box 55 (zI B),.box 55 (zI Y)]) (zu (t:=55) rfl)<|zA (zD rfl)<|zF ?_
 refine zH<|zH<|zC<|zA (zK Tryz.underlying55 rfl rfl Tryz.sizeOf53 rfl)<|zA (zN Tryz.isAgg53 rfl rfl rfl rfl)<|zA (zY Tryz.underlying53 rfl) ?_
 refine zA (zK Tryz.underlying55 rfl rfl Tryz.sizeOf53 rfl)<|zA (zN Tryz.isAgg53 rfl rfl rfl rfl)<|zA (zY Tryz.underlying53 rfl)<|zA (z7 rfl rfl)<|zF ?_
 refine zW h rfl (fun b1 h => ?_) (fun b1 h => ?_)
 ·refine zH<|zC<|zA (zD rfl)<|zF<|zb ?_
  cases h
  exact zv (zAI rfl rfl)
 refine zQ ?_
 refine zx (r:=r) (fun (_:Unit)=>mkE []) (fun _=>[]) (fun _=>zKf ) ?_ ?_
 ·
  refine zH<|zC<|zA (zK Tryz.underlying55 rfl rfl Tryz.sizeOf53 rfl)<|zA (zN Tryz.isAgg53 rfl rfl rfl rfl)<|zA (zY Tryz.underlying53 rfl)<|zA (zB rfl) ?_
  refine zF<|zR<|zt (σ:=Int) (fun i1=>mkE [(2,(AV.ptr 0 0)),(3,(AV.ptr 1 0)),(15,(li (B.lists.length:Int))),(16,(li i1))]) (fun i1=>[.box 55 (zI B),.box 55 (zI Y)]) (fun n0 i1=>zHb B Y n0 i1) 0 h (fun _=>rfl) (zAD [0,1] rfl rfl (by kernel_rfl)) ?_
  clear h
  intro n0 i1 h
  replace h:zEx B Y (zHb B Y n0) i1=some r:=h
  unfold zEx at h
  refine zH<|zC<|zA (zh rfl rfl)<|zF<|zH ?_
  refine zW h rfl (fun b2 h => ?_) (fun b2 h => ?_)
  ·refine zQ<|zH<|zR<|zH<|zC<|zA (zB rfl) ?_
   refine zA (zD rfl)<|zF<|zH<|zM h fun b3 h=>zM h fun b4 h=>zP h fun x1 w1 h => ?_
   refine zAm (n:=32) (m:=0) [.head 0 0,.head 0 0,.head 0 0,.head 0 0,.head 0 0,.head 0 0,.head 0 0,.head 0 0,.head 0 0,.head 0 0,.head 0 0,.head 0 0] [] [AV.ptr 0 0,(ls (cS cI) B.lists),li i1,(AV.rp ((cS cI) (at_ B.lists i1)) 0),(ls cI (at_ B.lists i1)),AV.ptr 1 0,(ls (cS cI) Y.lists),li i1,(AV.rp ((cS cI) (at_ Y.lists i1)) 0),(ls cI (at_ Y.lists i1)),(AV.lit (.bool x1)),(AV.lit (.bool (!x1)))] [[.box 55 (zI B),.box 55 (zI Y)]] (by kernel_rfl) (by kernel_rfl) ⟨D1 fun e s p=>zK (k:=0) (o:=0) (off:=0) Tryz.underlying55 rfl rfl Tryz.sizeOf53 (s 2 rfl),D1 fun e s p=>zN (k:=0) (o:=0) Tryz.isAgg53 p.1 rfl rfl rfl,D1 fun e s p=>zB (s 5 rfl),D1 fun e s p=>zV (f:=(cS cI)) (l:=B.lists) (i:=i1) Tryz.underlying53 Tryz.sizeOf22 (fun _=>rfl) p.1 p.2.1 b3,D1 fun e s p=>zU (o:=0) Tryz.isAgg22 p.1 rfl,D1 fun e s p=>zK (k:=1) (o:=0) (off:=0) Tryz.underlying55 rfl rfl Tryz.sizeOf53 (s 3 rfl),D1 fun e s p=>zN (k:=1) (o:=0) Tryz.isAgg53 p.1 rfl rfl rfl,D1 fun e s p=>zB (s 5 rfl),D1 fun e s p=>zV (f:=(cS cI)) (l:=Y.lists) (i:=i1) Tryz.underlying53 Tryz.sizeOf22 (fun _=>rfl) p.1 p.2.1 b4,D1 fun e s p=>zU (o:=0) Tryz.isAgg22 p.1 rfl,?_,D1 fun e s p=>zAv (t:=x1) p.1,trivial⟩ ?_
   ·
    intro e11 s11 p11
    refine ze (r:=(AV.lit (.bool x1))) (la:=[(ls cI (at_ B.lists i1)),(ls cI (at_ Y.lists i1))]) Tryz.func61 rfl (by kernel_rfl) (.fn 61) (zAL p11.1 (zAL p11.2.1 rfl)) rfl (zKN w1) rfl ?_
    exact zF ⟨fun _=>rfl,rfl⟩
   intro e13 s13 hq1
   refine zAS (zBI (l:=[(2,(AV.ptr 0 0)),(3,(AV.ptr 1 0)),(15,(li (B.lists.length:Int))),(16,(li i1)),(30,(AV.lit (.bool (!x1))))]) ⟨s13 2 rfl,s13 3 rfl,s13 15 rfl,s13 16 rfl,(hq1 11 (by decide) (by decide)),trivial⟩) ?_
   refine zW h rfl (fun b5 h => ?_) (fun b5 h => ?_)
   ·refine zH<|zC<|zA (zD rfl)<|zF<|zb ?_
    cases h
    exact zv (zAI rfl rfl)
   refine zQ<|zC<|zM h fun b6 h=>zA (zg rfl rfl b6)<|zA (zB rfl)<|zF ?_
   exact ⟨(i1+1),zAD [0,1] rfl rfl (by kernel_rfl),h⟩
  refine zz ?_
  exact ⟨(),zAD [] rfl rfl (by kernel_rfl),h⟩
 clear h
 intro _ h
 unfold zKf at h
 refine zH<|zC<|zA (zD rfl)<|zF<|zb ?_
 cases h
 exact zv (zAI rfl rfl)
theorem zKX {A:zJ} {D:zJ} {r:Bool} (h:zHk A D=some r):PFn Tryz.prog 25 [(AV.agg (zG A)),(AV.agg (zG D))] (AV.lit (.bool r)):=by
 refine zm Tryz.func25 rfl Tryz.ntmps25 Tryz.results25 rfl ?_
 unfold zHk at h
 refine zH<|zC<|zX (H':=[.box 26 (zG A)]) (zu (t:=26) rfl)<|zX (H':=[.box 26 (zG A),.box 26 (zG D)]) (zu (t:=26) rfl)<|zA (zD rfl)<|zF ?_
 refine zH<|zH<|zC<|zA (zK Tryz.underlying26 rfl rfl Tryz.sizeOf22 rfl)<|zA (zN Tryz.isAgg22 rfl rfl rfl rfl)<|zA (zK Tryz.underlying26 rfl rfl Tryz.sizeOf22 rfl) ?_
 refine zA (zN Tryz.isAgg22 rfl rfl rfl rfl)<|zP h fun x1 w1 h=>ze Tryz.func61 rfl (by kernel_rfl) (.fn 61) rfl rfl (zKN w1) rfl<|zA (zAv (t:=x1) rfl)<|zA (zB rfl)<|zZ rfl rfl (fun c1=>zq.step (zK Tryz.underlying26 rfl rfl Tryz.sizeOf3 rfl)) ?_
 refine zZ rfl rfl (fun c2=>zq.step (zN Tryz.isAgg3 (z8 rfl c2) rfl rfl rfl))<|zZ rfl rfl (fun c3=>zq.step (zK Tryz.underlying26 rfl rfl Tryz.sizeOf3 rfl))<|zZ rfl rfl (fun c4=>zq.step (zN Tryz.isAgg3 (z8 rfl c4) rfl rfl rfl))<|zZ rfl rfl (fun c5=>zq.step (z7 (z8 rfl c5) (z8 rfl c5)))<|zA (zj rfl rfl)<|zA (zB rfl) ?_
 refine zZ rfl rfl (fun c6=>zq.step (zK Tryz.underlying26 rfl rfl Tryz.sizeOf3 rfl))<|zZ rfl rfl (fun c7=>zq.step (zN Tryz.isAgg3 (z8 rfl c7) rfl rfl rfl))<|zZ rfl rfl (fun c8=>zq.step (zK Tryz.underlying26 rfl rfl Tryz.sizeOf3 rfl))<|zZ rfl rfl (fun c9=>zq.step (zN Tryz.isAgg3 (z8 rfl c9) rfl rfl rfl))<|zZ rfl rfl (fun c10=>zq.step (z7 (z8 rfl c10) (z8 rfl c10)))<|zA (zj rfl rfl) ?_
 refine zA (zB rfl)<|zZ rfl rfl (fun c11=>zq.step (zK Tryz.underlying26 rfl rfl Tryz.sizeOf23 rfl))<|zZ rfl rfl (fun c12=>zq.step (zN Tryz.isAgg23 (z8 rfl c12) rfl rfl rfl))<|zZ rfl rfl (fun c13=>zq.step (zY Tryz.underlying23 (z8 rfl c13)))<|zZ rfl rfl (fun c14=>zq.step (zK Tryz.underlying26 rfl rfl Tryz.sizeOf23 rfl))<|zZ rfl rfl (fun c15=>zq.step (zN Tryz.isAgg23 (z8 rfl c15) rfl rfl rfl)) ?_
 refine zZ rfl rfl (fun c16=>zq.step (zY Tryz.underlying23 (z8 rfl c16)))<|zZ rfl rfl (fun c17=>zq.step (z7 (z8 rfl c17) (z8 rfl c17)))<|zA (zj rfl rfl)<|zA (zB rfl)<|zZ rfl rfl (fun c18=>zq.step (zK Tryz.underlying26 rfl rfl Tryz.sizeOf24 rfl))<|zZ rfl rfl (fun c19=>zq.step (zN Tryz.isAgg24 (z8 rfl c19) rfl rfl rfl)) ?_
 refine zZ rfl rfl (fun c20=>zq.step (zY Tryz.underlying24 (z8 rfl c20)))<|zZ rfl rfl (fun c21=>zq.step (zK Tryz.underlying26 rfl rfl Tryz.sizeOf24 rfl))<|zZ rfl rfl (fun c22=>zq.step (zN Tryz.isAgg24 (z8 rfl c22) rfl rfl rfl))<|zZ rfl rfl (fun c23=>zq.step (zY Tryz.underlying24 (z8 rfl c23)))<|zZ rfl rfl (fun c24=>zq.step (z7 (z8 rfl c24) (z8 rfl c24)))<|zA (zj rfl rfl) ?_
 refine zF ?_
 refine zW h rfl (fun b1 h => ?_) (fun b1 h => ?_)
 ·refine zH<|zC<|zA (zD rfl)<|zF<|zb ?_
  cases h
  exact zv (zAI rfl rfl)
 refine zQ ?_
 refine zx (r:=r) (fun (_:Unit)=>mkE [(2,(AV.ptr 0 0)),(3,(AV.ptr 1 0))]) (fun _=>[.box 26 (zG A),.box 26 (zG D)]) (fun _=>zKi A D) ?_ ?_
 ·
  refine zH<|zC<|zA (zD rfl)<|zF<|zR<|zt (σ:=Int) (fun i2=>mkE [(2,(AV.ptr 0 0)),(3,(AV.ptr 1 0)),(5,(li i2))]) (fun i2=>[.box 26 (zG A),.box 26 (zG D)]) (fun n1 i2=>zG0 A D n1 i2) 0 h (fun _=>rfl) (zAD [0,1] rfl rfl (by kernel_rfl)) ?_
  clear h
  intro n1 i2 h
  replace h:zE6 A D (zG0 A D n1) i2=some r:=h
  unfold zE6 at h
  refine zH<|zH<|zC<|zA (zB rfl)<|zA (zK Tryz.underlying26 rfl rfl Tryz.sizeOf23 rfl)<|zA (zN Tryz.isAgg23 rfl rfl rfl rfl) ?_
  refine zA (zY Tryz.underlying23 rfl)<|zA (zh rfl rfl)<|zF ?_
  refine zW h rfl (fun b7 h => ?_) (fun b7 h => ?_)
  ·refine zQ<|zH<|zR<|zH<|zM h fun b8 h=>zM h fun b9 h => ?_
   refine zP h fun x3 w3 h => ?_
   refine zAm (n:=83) (m:=0) [.head 0 0,.head 0 0,.head 0 0,.head 0 0,.head 0 0,.head 0 0,.head 0 0,.head 0 0,.head 0 0,.head 0 0,.head 0 0,.head 0 0] [] [AV.ptr 0 3,ls zO A.zones,li i2,(AV.rp (zO (at_ A.zones i2)) 0),(AV.agg (zO (at_ A.zones i2))),AV.ptr 1 3,ls zO D.zones,li i2,(AV.rp (zO (at_ D.zones i2)) 0),(AV.agg (zO (at_ D.zones i2))),(AV.lit (.bool x3)),(AV.lit (.bool (!x3)))] [[.box 26 (zG A),.box 26 (zG D)]] (by kernel_rfl) (by kernel_rfl) ⟨D1 fun e s p=>zK (k:=0) (o:=0) (off:=3) Tryz.underlying26 rfl rfl Tryz.sizeOf23 (s 2 rfl),D1 fun e s p=>zN (k:=0) (o:=3) Tryz.isAgg23 p.1 rfl rfl rfl,D1 fun e s p=>zB (s 5 rfl),D1 fun e s p=>zV (f:=zO) (l:=A.zones) (i:=i2) Tryz.underlying23 Tryz.sizeOf51 (fun _=>rfl) p.1 p.2.1 b8,D1 fun e s p=>zAf (row:=(zO (at_ A.zones i2))) (o:=0) (m:=10) (la:=(zO (at_ A.zones i2))) Tryz.isAgg51 Tryz.sizeOf51 p.1 rfl rfl,D1 fun e s p=>zK (k:=1) (o:=0) (off:=3) Tryz.underlying26 rfl rfl Tryz.sizeOf23 (s 3 rfl),D1 fun e s p=>zN (k:=1) (o:=3) Tryz.isAgg23 p.1 rfl rfl rfl,D1 fun e s p=>zB (s 5 rfl),D1 fun e s p=>zV (f:=zO) (l:=D.zones) (i:=i2) Tryz.underlying23 Tryz.sizeOf51 (fun _=>rfl) p.1 p.2.1 b9,D1 fun e s p=>zAf (row:=(zO (at_ D.zones i2))) (o:=0) (m:=10) (la:=(zO (at_ D.zones i2))) Tryz.isAgg51 Tryz.sizeOf51 p.1 rfl rfl,?_,D1 fun e s p=>zAv (t:=x3) p.1,trivial⟩ ?_
   ·
    intro e24 s24 p23
    refine ze (r:=(AV.lit (.bool x3))) (la:=[(AV.agg (zO (at_ A.zones i2))),(AV.agg (zO (at_ D.zones i2)))]) Tryz.func62 rfl (by kernel_rfl) (.fn 62) (zAL p23.1 (zAL p23.2.1 rfl)) rfl (zPS w3) rfl ?_
    exact zF ⟨fun _=>rfl,rfl⟩
   intro e26 s26 hq2
   refine zAS (zBI (l:=[(2,(AV.ptr 0 0)),(3,(AV.ptr 1 0)),(5,(li i2)),(63,(AV.lit (.bool (!x3))))]) ⟨s26 2 rfl,s26 3 rfl,s26 5 rfl,(hq2 11 (by decide) (by decide)),trivial⟩) ?_
   refine zW h rfl (fun b10 h => ?_) (fun b10 h => ?_)
   ·refine zH<|zC<|zA (zD rfl)<|zF<|zb ?_
    cases h
    exact zv (zAI rfl rfl)
   refine zQ<|zC<|zA (zB rfl)<|zM h fun b11 h=>zA (zg rfl rfl b11)<|zA (zD rfl) ?_
   refine zF ?_
   exact ⟨(i2+1),zAD [0,1] rfl rfl (by kernel_rfl),h⟩
  refine zz ?_
  exact ⟨(),zAD [0,1] rfl rfl (by kernel_rfl),h⟩
 clear h
 intro _ h
 unfold zKi at h
 refine zx (r:=r) (fun (_:Unit)=>mkE []) (fun _=>[]) (fun _=>zKe ) ?_ ?_
 ·
  refine zH<|zC<|zA (zD rfl)<|zF<|zR<|zt (σ:=Int) (fun i1=>mkE [(2,(AV.ptr 0 0)),(3,(AV.ptr 1 0)),(6,(li i1))]) (fun i1=>[.box 26 (zG A),.box 26 (zG D)]) (fun n0 i1=>zGx A D n0 i1) 0 h (fun _=>rfl) (zAD [0,1] rfl rfl (by kernel_rfl)) ?_
  clear h
  intro n0 i1 h
  replace h:zE3 A D (zGx A D n0) i1=some r:=h
  unfold zE3 at h
  refine zH<|zH<|zC<|zA (zB rfl)<|zA (zK Tryz.underlying26 rfl rfl Tryz.sizeOf24 rfl)<|zA (zN Tryz.isAgg24 rfl rfl rfl rfl) ?_
  refine zA (zY Tryz.underlying24 rfl)<|zA (zh rfl rfl)<|zF ?_
  refine zW h rfl (fun b2 h => ?_) (fun b2 h => ?_)
  ·refine zQ<|zH<|zR<|zH<|zM h fun b3 h=>zM h fun b4 h => ?_
   refine zP h fun x2 w2 h => ?_
   refine zAm (n:=83) (m:=0) [.head 0 0,.head 0 0,.head 0 0,.head 0 0,.head 0 0,.head 0 0,.head 0 0,.head 0 0,.head 0 0,.head 0 0,.head 0 0,.head 0 0] [] [AV.ptr 0 4,ls zI A.caches,li i1,(AV.rp (zI (at_ A.caches i1)) 0),(AV.agg (zI (at_ A.caches i1))),AV.ptr 1 4,ls zI D.caches,li i1,(AV.rp (zI (at_ D.caches i1)) 0),(AV.agg (zI (at_ D.caches i1))),(AV.lit (.bool x2)),(AV.lit (.bool (!x2)))] [[.box 26 (zG A),.box 26 (zG D)]] (by kernel_rfl) (by kernel_rfl) ⟨D1 fun e s p=>zK (k:=0) (o:=0) (off:=4) Tryz.underlying26 rfl rfl Tryz.sizeOf24 (s 2 rfl),D1 fun e s p=>zN (k:=0) (o:=4) Tryz.isAgg24 p.1 rfl rfl rfl,D1 fun e s p=>zB (s 6 rfl),D1 fun e s p=>zV (f:=zI) (l:=A.caches) (i:=i1) Tryz.underlying24 Tryz.sizeOf55 (fun _=>rfl) p.1 p.2.1 b3,D1 fun e s p=>zAf (row:=(zI (at_ A.caches i1))) (o:=0) (m:=1) (la:=(zI (at_ A.caches i1))) Tryz.isAgg55 Tryz.sizeOf55 p.1 rfl rfl,D1 fun e s p=>zK (k:=1) (o:=0) (off:=4) Tryz.underlying26 rfl rfl Tryz.sizeOf24 (s 3 rfl),D1 fun e s p=>zN (k:=1) (o:=4) Tryz.isAgg24 p.1 rfl rfl rfl,D1 fun e s p=>zB (s 6 rfl),D1 fun e s p=>zV (f:=zI) (l:=D.caches) (i:=i1) Tryz.underlying24 Tryz.sizeOf55 (fun _=>rfl) p.1 p.2.1 b4,D1 fun e s p=>zAf (row:=(zI (at_ D.caches i1))) (o:=0) (m:=1) (la:=(zI (at_ D.caches i1))) Tryz.isAgg55 Tryz.sizeOf55 p.1 rfl rfl,?_,D1 fun e s p=>zAv (t:=x2) p.1,trivial⟩ ?_
   ·
    intro e11 s11 p11
    refine ze (r:=(AV.lit (.bool x2))) (la:=[(AV.agg (zI (at_ A.caches i1))),(AV.agg (zI (at_ D.caches i1)))]) Tryz.func63 rfl (by kernel_rfl) (.fn 63) (zAL p11.1 (zAL p11.2.1 rfl)) rfl (zPI w2) rfl ?_
    exact zF ⟨fun _=>rfl,rfl⟩
   intro e13 s13 hq1
   refine zAS (zBI (l:=[(2,(AV.ptr 0 0)),(3,(AV.ptr 1 0)),(6,(li i1)),(82,(AV.lit (.bool (!x2))))]) ⟨s13 2 rfl,s13 3 rfl,s13 6 rfl,(hq1 11 (by decide) (by decide)),trivial⟩) ?_
   refine zW h rfl (fun b5 h => ?_) (fun b5 h => ?_)
   ·refine zH<|zC<|zA (zD rfl)<|zF<|zb ?_
    cases h
    exact zv (zAI rfl rfl)
   refine zQ<|zC<|zA (zB rfl)<|zM h fun b6 h=>zA (zg rfl rfl b6)<|zA (zD rfl) ?_
   refine zF ?_
   exact ⟨(i1+1),zAD [0,1] rfl rfl (by kernel_rfl),h⟩
  refine zz ?_
  exact ⟨(),zAD [] rfl rfl (by kernel_rfl),h⟩
 clear h
 intro _ h
 unfold zKe at h
 refine zH<|zC<|zA (zD rfl)<|zF<|zb ?_
 cases h
 exact zv (zAI rfl rfl)
theorem zLs  {r:Bool} (h:zJM=some r):PFn Tryz.prog 9 [] (AV.lit (.bool r)):=by
 refine zm Tryz.func9 rfl Tryz.ntmps9 Tryz.results9 rfl ?_
 unfold zJM at h
 refine zH<|zC<|zA (zD (av:=(AV.lit (.bool false))) rfl)<|zF<|zH<|zC ?_
 refine zRs (N:=2) (pl:=[(0,1),(1,1)]) (zs:=[.int .i64 0,.int .i64 0]) (zc:=[.lit (.int .i64 0),.lit (.int .i64 0)]) (rows:=List.map cI [0,1]) zGA Tryz.underlying22 rfl rfl rfl (by kernel_rfl) rfl (⟨zAx.refl _,⟨zAx.refl _,trivial⟩⟩) ⟨li 0,0,1,rfl,rfl,rfl,rfl,rfl,⟨li 1,1,1,rfl,rfl,rfl,rfl,rfl,(by exact zLu.refl _)⟩⟩ rfl rfl rfl<|zA (zCT (pl:=[(0,1),(1,1),(2,1),(3,1)]) (zs:=[.int .i64 0,.int .i64 0,.int .i64 0,.int .i64 0]) (zc:=[.lit (.int .i64 0),.lit (.int .i64 0),.lit (.int .i64 0),.lit (.int .i64 0)]) (res:=(zAh (⟨0,0,8,2⟩:zCH))) (fun _=>by kernel_rfl) rfl (⟨zAx.refl _,⟨zAx.refl _,⟨zAx.refl _,⟨zAx.refl _,trivial⟩⟩⟩⟩) ⟨li 0,0,1,rfl,rfl,rfl,rfl,rfl,⟨li 0,1,1,rfl,rfl,rfl,rfl,rfl,⟨li 8,2,1,rfl,rfl,rfl,rfl,rfl,⟨li 2,3,1,rfl,rfl,rfl,rfl,rfl,(by exact zLu.refl _)⟩⟩⟩⟩)<|zA (zCT (pl:=[(0,1),(1,1),(2,1),(3,1)]) (zs:=[.int .i64 0,.int .i64 0,.int .i64 0,.int .i64 0]) (zc:=[.lit (.int .i64 0),.lit (.int .i64 0),.lit (.int .i64 0),.lit (.int .i64 0)]) (res:=(zAh (⟨1,1,8,0⟩:zCH))) (fun _=>by kernel_rfl) rfl (⟨zAx.refl _,⟨zAx.refl _,⟨zAx.refl _,⟨zAx.refl _,trivial⟩⟩⟩⟩) ⟨li 1,0,1,rfl,rfl,rfl,rfl,rfl,⟨li 1,1,1,rfl,rfl,rfl,rfl,rfl,⟨li 8,2,1,rfl,rfl,rfl,rfl,rfl,⟨li 0,3,1,rfl,rfl,rfl,rfl,rfl,(by exact zLu.refl _)⟩⟩⟩⟩)<|zRs (N:=2) (pl:=[(0,4),(4,4)]) (zs:=[.int .i64 0,.int .i64 0,.int .i64 0,.int .i64 0,.int .i64 0,.int .i64 0,.int .i64 0,.int .i64 0]) (zc:=[.lit (.int .i64 0),.lit (.int .i64 0),.lit (.int .i64 0),.lit (.int .i64 0),.lit (.int .i64 0),.lit (.int .i64 0),.lit (.int .i64 0),.lit (.int .i64 0)]) (rows:=List.map zAh [(⟨0,0,8,2⟩:zCH),(⟨1,1,8,0⟩:zCH)]) zWk Tryz.underlying47 rfl rfl rfl (by kernel_rfl) rfl (⟨zAx.refl _,⟨zAx.refl _,⟨zAx.refl _,⟨zAx.refl _,⟨zAx.refl _,⟨zAx.refl _,⟨zAx.refl _,⟨zAx.refl _,trivial⟩⟩⟩⟩⟩⟩⟩⟩) ⟨(AV.agg (zAh (⟨0,0,8,2⟩:zCH))),0,4,rfl,rfl,rfl,rfl,rfl,⟨(AV.agg (zAh (⟨1,1,8,0⟩:zCH))),4,4,rfl,rfl,rfl,rfl,rfl,(by exact zLu.refl _)⟩⟩ rfl rfl rfl<|zP h fun x1 w1 h=>z5 (zES (j:=0) (ds:=[11]) (rows':=List.map cI [0,1]) rfl (zAM (fun _=>rfl)) ⟨rfl,trivial⟩) ?_
 refine zP h fun x2 w2 h=>z5 (zES (j:=1) (ds:=[14]) (rows':=List.map zAh [(⟨0,0,8,2⟩:zCH),(⟨1,1,8,0⟩:zCH)]) rfl (zAM (fun _=>rfl)) ⟨rfl,trivial⟩)<|zP h fun x3 w3 h=>ze Tryz.func36 rfl (by kernel_rfl) (.fn 36) rfl rfl (zNW w3) rfl<|zA (zB rfl)<|zA (za rfl rfl) ?_
 refine zA (za (la:=[(AV.agg (zG x3.1)),li x3.2]) rfl rfl)<|zX (a:=(AV.ptr 2 0)) (H':=[.dead,.dead,.box 26 (zG ⟨[],0,0,[],[]⟩)]) zv3<|zd (H':=[.dead,.dead,.box 26 (zG x3.1)]) (zT (k:=2) (o:=0) (cs:=(zG ⟨[],0,0,[],[]⟩)) (la:=(zG x3.1)) Tryz.sizeOf26 rfl rfl rfl rfl)<|zA (zD (av:=(li x3.2)) rfl)<|zF<|zH ?_
 refine zH<|zC<|zA (zB rfl)<|zA (z7 rfl rfl)<|zA (zB rfl)<|zZ rfl rfl (fun c1=>zq.step (zK Tryz.underlying26 rfl rfl Tryz.sizeOf23 rfl)) ?_
 refine zZ (g:=20) (s := !decide (x3.2=0)) rfl rfl (fun c2=>zq.step (zN (k:=2) (o:=3) (a:=(ls zO x3.1.zones)) Tryz.isAgg23 (z8 rfl c2) rfl rfl rfl))<|zZ (g:=20) (s := !decide (x3.2=0)) rfl rfl (fun c3=>zq.step (zY (f:=zO) (l:=x3.1.zones) Tryz.underlying23 (z8 rfl c3)))<|zZ (g:=20) (s := !decide (x3.2=0)) rfl rfl (fun c4=>zq.step (z7 (a:=(x3.1.zones.length:Int)) (b:=2) (z8 rfl c4) rfl))<|zA (zj (s := !decide (x3.2=0)) (q := !decide ((x3.1.zones.length:Int)=2)) (j := .lit undef) rfl rfl)<|zA (zB (av:=(AV.lit (.bool ((!decide (x3.2=0))||(!decide ((x3.1.zones.length:Int)=2)))))) rfl)<|zZ (g:=26) (s:=(!decide (x3.2=0))||(!decide ((x3.1.zones.length:Int)=2))) rfl rfl (fun c5=>zq.step (zK (k:=2) (o:=0) (off:=4) Tryz.underlying26 rfl rfl Tryz.sizeOf24 rfl)) ?_
 refine zZ rfl rfl (fun c6=>zq.step (zN Tryz.isAgg24 (z8 rfl c6) rfl rfl rfl))<|zZ rfl rfl (fun c7=>zq.step (zY Tryz.underlying24 (z8 rfl c7)))<|zZ rfl rfl (fun c8=>zq.step (z7 (z8 rfl c8) rfl))<|zA (zj rfl rfl)<|zA (zB rfl)<|zZ rfl rfl (fun c9=>zq.step (zS (k:=2) (o:=0) (m:=5) Tryz.isAgg26 Tryz.sizeOf26 rfl rfl rfl rfl rfl)) ?_
 refine zP h fun x4 w4 h=>zCX (g:=32) (s:=((!decide (x3.2=0))||(!decide ((x3.1.zones.length:Int)=2)))||(!decide ((x3.1.caches.length:Int)=2))) (r':=(li x4)) rfl rfl (fun c10=>⟨13,_,_,[],[(AV.agg (zG x3.1))],[(AV.agg (zG x3.1))],li x4,[],Tryz.func13,rfl,by kernel_rfl,.fn 13,(zAL (z8 rfl c10) rfl),⟨zAl.nr rfl,trivial⟩,zA1 (zFy c10 w4),.inl rfl,rfl⟩)<|zZ (g:=32) (s:=((!decide (x3.2=0))||(!decide ((x3.1.zones.length:Int)=2)))||(!decide ((x3.1.caches.length:Int)=2))) rfl rfl (fun c11=>zq.step (z7 (a:=x4) (b:=0) (z8 rfl c11) rfl))<|zA (zj (s:=((!decide (x3.2=0))||(!decide ((x3.1.zones.length:Int)=2)))||(!decide ((x3.1.caches.length:Int)=2))) (q := !decide (x4=0)) (j := .lit undef) rfl rfl)<|zA (zB (av:=(AV.lit (.bool ((((!decide (x3.2=0))||(!decide ((x3.1.zones.length:Int)=2)))||(!decide ((x3.1.caches.length:Int)=2)))||(!decide (x4=0)))))) rfl)<|zZ (g:=37) (s:=(((!decide (x3.2=0))||(!decide ((x3.1.zones.length:Int)=2)))||(!decide ((x3.1.caches.length:Int)=2)))||(!decide (x4=0))) rfl rfl (fun c12=>zq.step (zS (k:=2) (o:=0) (m:=5) (la:=(zG x3.1)) Tryz.isAgg26 Tryz.sizeOf26 rfl rfl rfl rfl rfl)) ?_
 refine zP h fun x5 w5 h=>zCX (g:=37) (s:=(((!decide (x3.2=0))||(!decide ((x3.1.zones.length:Int)=2)))||(!decide ((x3.1.caches.length:Int)=2)))||(!decide (x4=0))) (r':=(li x5)) rfl rfl (fun c13=>⟨15,_,_,[],[(AV.agg (zG x3.1))],[(AV.agg (zG x3.1))],li x5,[],Tryz.func15,rfl,by kernel_rfl,.fn 15,(zAL (z8 rfl c13) rfl),⟨zAl.nr rfl,trivial⟩,zMG (zFy c13 w5),.inl rfl,rfl⟩)<|zZ rfl rfl (fun c14=>zq.step (z7 (z8 rfl c14) rfl))<|zA (zj rfl rfl)<|zF ?_
 refine zW h rfl (fun b1 h => ?_) (fun b1 h => ?_)
 ·refine zH<|zC<|zA (zD (av:=(AV.lit (.bool false))) rfl)<|zF<|zb ?_
  cases h
  exact zv (zAI rfl rfl)
 refine zQ<|zH<|zC<|zA (zS (k:=2) (o:=0) (m:=5) (la:=(zG x3.1)) Tryz.isAgg26 Tryz.sizeOf26 rfl rfl rfl rfl rfl)<|zP h fun x6 w6 h=>ze (r:=(AV.tup [li x6.1,li x6.2])) (la:=[(AV.agg (zG x3.1))]) Tryz.func11 rfl (by kernel_rfl) (.fn 11) rfl rfl (zLQ w6) rfl ?_
 refine zA (zB rfl)<|zA (za rfl rfl)<|zA (za rfl rfl)<|zA (zD rfl)<|zA (zD rfl)<|zF ?_
 refine zH<|zC<|zA (zS (k:=2) (o:=0) (m:=5) (la:=(zG x3.1)) Tryz.isAgg26 Tryz.sizeOf26 rfl rfl rfl rfl rfl)<|zP h fun x7 w7 h=>ze (r:=(AV.tup [(AV.agg (zG x7.1)),li x7.2.1,li x7.2.2])) (la:=[(AV.agg (zG x3.1)),li 0,(AV.lit (.bool true)),(AV.lit (.bool false))]) Tryz.func23 rfl (by kernel_rfl) (.fn 23) rfl rfl (zMM w7) rfl<|zA (zB (av:=(AV.tup [(AV.agg (zG x7.1)),li x7.2.1,li x7.2.2])) rfl) ?_
 refine zA (za rfl rfl)<|zA (za rfl rfl)<|zA (za rfl rfl)<|zX (H':=[.dead,.dead,.box 26 (zG x3.1),.box 26 (zG ⟨[],0,0,[],[]⟩)]) zv3<|zd (H':=[.dead,.dead,.box 26 (zG x3.1),.box 26 (zG x7.1)]) (zT (k:=3) (o:=0) (cs:=(zG ⟨[],0,0,[],[]⟩)) (la:=(zG x7.1)) Tryz.sizeOf26 rfl rfl rfl rfl)<|zA (zD rfl) ?_
 refine zA (zD (av:=(li x7.2.2)) rfl)<|zF<|zH<|zH<|zC<|zA (zB (av:=(li x6.1)) rfl) ?_
 refine zA (z7 rfl rfl)<|zA (zB rfl)<|zZ rfl rfl (fun c15=>zq.step (zB rfl))<|zZ rfl rfl (fun c16=>zq.step (z7 (z8 rfl c16) rfl))<|zA (zj rfl rfl)<|zA (zB rfl) ?_
 refine zZ (g:=59) (s:=(!decide (x6.1=6))||(!decide (x6.2=14))) rfl rfl (fun c17=>zq.step (zB (av:=(li x7.2.2)) rfl))<|zZ (g:=59) (s:=(!decide (x6.1=6))||(!decide (x6.2=14))) rfl rfl (fun c18=>zq.step (z7 (a:=x7.2.2) (b:=0) (z8 rfl c18) rfl))<|zA (zj (s:=(!decide (x6.1=6))||(!decide (x6.2=14))) (q := !decide (x7.2.2=0)) (j := .lit undef) rfl rfl)<|zA (zB (av:=(AV.lit (.bool (((!decide (x6.1=6))||(!decide (x6.2=14)))||(!decide (x7.2.2=0)))))) rfl)<|zZ (g:=63) (s:=((!decide (x6.1=6))||(!decide (x6.2=14)))||(!decide (x7.2.2=0))) rfl rfl (fun c19=>zq.step (zB (av:=(li x7.2.1)) rfl))<|zZ (g:=63) (s:=((!decide (x6.1=6))||(!decide (x6.2=14)))||(!decide (x7.2.2=0))) rfl rfl (fun c20=>zq.step (z7 (a:=x7.2.1) (b:=0) (z8 rfl c20) rfl)) ?_
 refine zA (zj rfl rfl)<|zA (zB rfl)<|zZ rfl rfl (fun c21=>zq.step (zS (k:=3) (o:=0) (m:=5) Tryz.isAgg26 Tryz.sizeOf26 rfl rfl rfl rfl rfl))<|zP h fun x8 w8 h=>zCX (g:=67) (s:=(((!decide (x6.1=6))||(!decide (x6.2=14)))||(!decide (x7.2.2=0)))||(!decide (x7.2.1=0))) (r':=(AV.lit (.bool x8))) rfl rfl (fun c22=>⟨19,_,_,[],[(AV.agg (zG x7.1)),li 0],[(AV.agg (zG x7.1)),li 0],(AV.lit (.bool x8)),[],Tryz.func19,rfl,by kernel_rfl,.fn 19,(zAL (z8 rfl c22) (zAL rfl rfl)),⟨zAl.nr rfl,zAl.nr rfl,trivial⟩,zI1 (zFy c22 w8),.inl rfl,rfl⟩)<|zA (zj rfl rfl) ?_
 refine zA (zB (av:=(AV.lit (.bool (((((!decide (x6.1=6))||(!decide (x6.2=14)))||(!decide (x7.2.2=0)))||(!decide (x7.2.1=0)))||x8)))) rfl)<|zZ (g:=71) (s:=((((!decide (x6.1=6))||(!decide (x6.2=14)))||(!decide (x7.2.2=0)))||(!decide (x7.2.1=0)))||x8) rfl rfl (fun c23=>zq.step (zS (k:=3) (o:=0) (m:=5) (la:=(zG x7.1)) Tryz.isAgg26 Tryz.sizeOf26 rfl rfl rfl rfl rfl))<|zP h fun x9 w9 h=>zCX (g:=71) (s:=((((!decide (x6.1=6))||(!decide (x6.2=14)))||(!decide (x7.2.2=0)))||(!decide (x7.2.1=0)))||x8) (r':=(AV.lit (.bool x9))) rfl rfl (fun c24=>⟨19,_,_,[],[(AV.agg (zG x7.1)),li 1],[(AV.agg (zG x7.1)),li 1],(AV.lit (.bool x9)),[],Tryz.func19,rfl,by kernel_rfl,.fn 19,(zAL (z8 rfl c24) (zAL rfl rfl)),⟨zAl.nr rfl,zAl.nr rfl,trivial⟩,zI1 (zFy c24 w9),.inl rfl,rfl⟩)<|zZ (g:=71) (s:=((((!decide (x6.1=6))||(!decide (x6.2=14)))||(!decide (x7.2.2=0)))||(!decide (x7.2.1=0)))||x8) rfl rfl (fun c25=>zq.step (zAv (t:=x9) (z8 rfl c25)))<|zA (zj (s:=((((!decide (x6.1=6))||(!decide (x6.2=14)))||(!decide (x7.2.2=0)))||(!decide (x7.2.1=0)))||x8) (q := !x9) (j := .lit undef) rfl rfl) ?_
 refine zA (zB rfl)<|zZ rfl rfl (fun c26=>zq.step (zS (k:=3) (o:=0) (m:=5) Tryz.isAgg26 Tryz.sizeOf26 rfl rfl rfl rfl rfl))<|zP h fun x10 w10 h=>zCX (g:=76) (s:=(((((!decide (x6.1=6))||(!decide (x6.2=14)))||(!decide (x7.2.2=0)))||(!decide (x7.2.1=0)))||x8)||(!x9)) (r':=(li x10)) rfl rfl (fun c27=>⟨21,_,_,[],[(AV.agg (zG x7.1)),li 0],[(AV.agg (zG x7.1)),li 0],li x10,[],Tryz.func21,rfl,by kernel_rfl,.fn 21,(zAL (z8 rfl c27) (zAL rfl rfl)),⟨zAl.nr rfl,zAl.nr rfl,trivial⟩,zMT (zFy c27 w10),.inl rfl,rfl⟩)<|zZ rfl rfl (fun c28=>zq.step (z7 (z8 rfl c28) rfl))<|zA (zj rfl rfl) ?_
 refine zA (zB (av:=(AV.lit (.bool (((((((!decide (x6.1=6))||(!decide (x6.2=14)))||(!decide (x7.2.2=0)))||(!decide (x7.2.1=0)))||x8)||(!x9))||(!decide (x10=7)))))) rfl)<|zZ (g:=81) (s:=((((((!decide (x6.1=6))||(!decide (x6.2=14)))||(!decide (x7.2.2=0)))||(!decide (x7.2.1=0)))||x8)||(!x9))||(!decide (x10=7))) rfl rfl (fun c29=>zq.step (zS (k:=3) (o:=0) (m:=5) (la:=(zG x7.1)) Tryz.isAgg26 Tryz.sizeOf26 rfl rfl rfl rfl rfl))<|zP h fun x11 w11 h=>zCX (g:=81) (s:=((((((!decide (x6.1=6))||(!decide (x6.2=14)))||(!decide (x7.2.2=0)))||(!decide (x7.2.1=0)))||x8)||(!x9))||(!decide (x10=7))) (r':=(li x11)) rfl rfl (fun c30=>⟨17,_,_,[],[(AV.agg (zG x7.1)),li 8],[(AV.agg (zG x7.1)),li 8],li x11,[],Tryz.func17,rfl,by kernel_rfl,.fn 17,(zAL (z8 rfl c30) (zAL rfl rfl)),⟨zAl.nr rfl,zAl.nr rfl,trivial⟩,zM9 (zFy c30 w11),.inl rfl,rfl⟩)<|zZ (g:=81) (s:=((((((!decide (x6.1=6))||(!decide (x6.2=14)))||(!decide (x7.2.2=0)))||(!decide (x7.2.1=0)))||x8)||(!x9))||(!decide (x10=7))) rfl rfl (fun c31=>zq.step (z7 (a:=x11) (b:=1) (z8 rfl c31) rfl))<|zA (zj (s:=((((((!decide (x6.1=6))||(!decide (x6.2=14)))||(!decide (x7.2.2=0)))||(!decide (x7.2.1=0)))||x8)||(!x9))||(!decide (x10=7))) (q := !decide (x11=1)) (j := .lit undef) rfl rfl) ?_
 refine zF ?_
 refine zW h rfl (fun b2 h => ?_) (fun b2 h => ?_)
 ·refine zH<|zC<|zA (zD rfl)<|zF<|zb ?_
  cases h
  exact zv (zAI (r1:=(AV.lit (.bool false))) rfl rfl)
 refine zQ<|zH<|zC<|zA (zS (k:=3) (o:=0) (m:=5) Tryz.isAgg26 Tryz.sizeOf26 rfl rfl rfl rfl rfl)<|zP h fun x12 w12 h=>ze Tryz.func28 rfl (by kernel_rfl) (.fn 28) rfl rfl (zNE w12) rfl ?_
 refine zA (zB (av:=(AV.tup [(AV.agg (zG x12.1)),li x12.2])) rfl)<|zA (za (la:=[(AV.agg (zG x12.1)),li x12.2]) rfl rfl)<|zA (za (la:=[(AV.agg (zG x12.1)),li x12.2]) rfl rfl)<|zX (a:=(AV.ptr 4 0)) (H':=[.dead,.dead,.box 26 (zG x3.1),.box 26 (zG x7.1),.box 26 (zG ⟨[],0,0,[],[]⟩)]) zv3<|zd (H':=[.dead,.dead,.box 26 (zG x3.1),.box 26 (zG x7.1),.box 26 (zG x12.1)]) (zT (k:=4) (o:=0) (cs:=(zG ⟨[],0,0,[],[]⟩)) (la:=(zG x12.1)) Tryz.sizeOf26 rfl rfl rfl rfl)<|zA (zD (av:=(li x12.2)) rfl) ?_
 refine zF<|zH<|zH<|zC<|zA (zB rfl)<|zA (z7 rfl rfl) ?_
 refine zF ?_
 refine zW h rfl (fun b3 h => ?_) (fun b3 h => ?_)
 ·refine zH<|zC<|zA (zD (av:=(AV.lit (.bool false))) rfl)<|zF<|zb ?_
  cases h
  exact zv (zAI rfl rfl)
 refine zQ<|zH<|zC<|zA (zS (k:=2) (o:=0) (m:=5) (la:=(zG x3.1)) Tryz.isAgg26 Tryz.sizeOf26 rfl rfl rfl rfl rfl)<|zP h fun x13 w13 h=>ze (r:=(AV.tup [(AV.agg (zG x13.1)),li x13.2.1,li x13.2.2])) (la:=[(AV.agg (zG x3.1)),li 1,li 3]) Tryz.func26 rfl (by kernel_rfl) (.fn 26) rfl rfl (zKn w13) rfl ?_
 refine zA (zB rfl)<|zA (za rfl rfl)<|zA (za rfl rfl)<|zA (za rfl rfl)<|zX (H':=[.dead,.dead,.box 26 (zG x3.1),.box 26 (zG x7.1),.box 26 (zG x12.1),.box 26 (zG ⟨[],0,0,[],[]⟩)]) zv3<|zd (H':=[.dead,.dead,.box 26 (zG x3.1),.box 26 (zG x7.1),.box 26 (zG x12.1),.box 26 (zG x13.1)]) (zT (k:=5) (o:=0) (cs:=(zG ⟨[],0,0,[],[]⟩)) (la:=(zG x13.1)) Tryz.sizeOf26 rfl rfl rfl rfl) ?_
 refine zA (zD (av:=(li x13.2.1)) rfl)<|zA (zD (av:=(li x13.2.2)) rfl)<|zF<|zH<|zP h fun x14 w14 h=>zP h fun x15 w15 h => ?_
 refine zAm (n:=111) (m:=0) [.head 0 0,.head 0 0,.head 0 0,.head 0 0,.head 0 0,.head 0 0,.head 0 0,.head 0 0,.head 0 0,.head 0 0,.head 0 0,.head 0 0,.head 0 0] [] [li x13.2.2,(AV.lit (.bool (decide (x13.2.2=0)))),(AV.lit (.bool (decide (x13.2.2=0)))),(bif decide (x13.2.2=0) then (li x13.2.1) else .lit undef),(bif decide (x13.2.2=0) then (AV.lit (.bool (decide (x13.2.1=8)))) else .lit undef),(AV.lit (.bool ((decide (x13.2.2=0))&&(decide (x13.2.1=8))))),(AV.lit (.bool ((decide (x13.2.2=0))&&(decide (x13.2.1=8))))),(bif (decide (x13.2.2=0))&&(decide (x13.2.1=8)) then (AV.agg (zG x12.1)) else .lit undef),(bif (decide (x13.2.2=0))&&(decide (x13.2.1=8)) then (AV.agg (zG x14)) else .lit undef),(bif (decide (x13.2.2=0))&&(decide (x13.2.1=8)) then (AV.agg (zG x3.1)) else .lit undef),(bif (decide (x13.2.2=0))&&(decide (x13.2.1=8)) then (AV.lit (.bool x15)) else .lit undef),(AV.lit (.bool (((decide (x13.2.2=0))&&(decide (x13.2.1=8)))&&x15))),(AV.lit (.bool (((decide (x13.2.2=0))&&(decide (x13.2.1=8)))&&x15)))] [[.dead,.dead,.box 26 (zG x3.1),.box 26 (zG x7.1),.box 26 (zG x12.1),.box 26 (zG x13.1)]] (by kernel_rfl) (by kernel_rfl) ⟨D1 fun e s p=>zB (s 2 rfl),D1 fun e s p=>zA8 (a:=x13.2.2) (b:=0) p.1 rfl,D1 fun e s p=>zB (av:=(AV.lit (.bool (decide (x13.2.2=0))))) p.1,?_,?_,D1 fun e s p=>z6 (s:=decide (x13.2.2=0)) (q:=decide (x13.2.1=8)) (j := .lit undef) p.1 p.2.1,D1 fun e s p=>zB p.1,?_,?_,?_,?_,D1 fun e s p=>z6 (s:=(decide (x13.2.2=0))&&(decide (x13.2.1=8))) (q:=x15) (j := .lit undef) p.1 p.2.1,D1 fun e s p=>zD (av:=(AV.lit (.bool (((decide (x13.2.2=0))&&(decide (x13.2.1=8)))&&x15)))) p.2.2.2.2.2.2.2.2.2.2.2.2.2.1,trivial⟩ ?_
 ·
  intro e4 s4 p4
  refine zo (g:=101) (s:=decide (x13.2.2=0)) rfl p4.1 (fun c38=>zq.step (zB (av:=(li x13.2.1)) (s4 9 rfl))) ?_
  exact zF ⟨fun _=>rfl,rfl⟩
 ·
  intro e5 s5 p5
  refine zo (g:=101) (s:=decide (x13.2.2=0)) rfl p5.2.1 (fun c39=>zq.step (zA8 (a:=x13.2.1) (b:=8) (z8 p5.1 c39) rfl)) ?_
  exact zF ⟨fun _=>rfl,rfl⟩
 ·
  intro e8 s8 p8
  refine zo (g:=105) (s:=(decide (x13.2.2=0))&&(decide (x13.2.1=8))) rfl p8.1 (fun c40=>zq.step (zS (k:=4) (o:=0) (m:=5) (la:=(zG x12.1)) Tryz.isAgg26 Tryz.sizeOf26 (s8 7 rfl) rfl rfl rfl rfl)) ?_
  exact zF ⟨fun _=>rfl,rfl⟩
 ·
  intro e9 s9 p9
  refine zCU (g:=105) (s:=(decide (x13.2.2=0))&&(decide (x13.2.1=8))) (r':=(AV.agg (zG x14))) rfl p9.2.2.1 (fun c41=>⟨34,_,_,[],[(AV.agg (zG x12.1))],[(AV.agg (zG x12.1))],(AV.agg (zG x14)),[],Tryz.func34,rfl,by kernel_rfl,.fn 34,(zAL (z8 p9.1 c41) rfl),⟨zAl.nr rfl,trivial⟩,zJf (zFy c41 w14),.inl rfl,rfl⟩) ?_
  exact zF ⟨fun _=>rfl,rfl⟩
 ·
  intro e10 s10 p10
  refine zo (g:=105) (s:=(decide (x13.2.2=0))&&(decide (x13.2.1=8))) rfl p10.1 (fun c42=>zq.step (zS (k:=2) (o:=0) (m:=5) (la:=(zG x3.1)) Tryz.isAgg26 Tryz.sizeOf26 (s10 1 rfl) rfl rfl rfl rfl)) ?_
  exact zF ⟨fun _=>rfl,rfl⟩
 ·
  intro e11 s11 p11
  refine zCU (g:=105) (s:=(decide (x13.2.2=0))&&(decide (x13.2.1=8))) (r':=(AV.lit (.bool x15))) rfl p11.2.2.2.1 (fun c43=>⟨25,_,_,[],[(AV.agg (zG x14)),(AV.agg (zG x3.1))],[(AV.agg (zG x14)),(AV.agg (zG x3.1))],(AV.lit (.bool x15)),[],Tryz.func25,rfl,by kernel_rfl,.fn 25,(zAL (z8 p11.2.2.1 c43) (zAL (z8 p11.2.1 c43) rfl)),⟨zAl.nr rfl,zAl.nr rfl,trivial⟩,zKX (zFy c43 w15),.inl rfl,rfl⟩) ?_
  exact zF ⟨fun _=>rfl,rfl⟩
 intro e14 s14 hq1
 refine zAS (zBI (l:=[(0,(AV.lit (.bool (((decide (x13.2.2=0))&&(decide (x13.2.1=8)))&&x15))))]) ⟨(hq1 12 (by decide) (by decide)),trivial⟩)<|zb ?_
 cases h
 exact zv (zAI rfl rfl)
theorem zQF {C:zi} {r:Bool} (h:zMV C=some r):PFn Tryz.prog 37 [(AV.agg (zO C))] (AV.lit (.bool r)):=by
 refine zm Tryz.func37 rfl Tryz.ntmps37 Tryz.results37 rfl ?_
 unfold zMV at h
 refine zH<|zC<|zX (H':=[.box 51 (zO C)]) (zu (t:=51) rfl)<|zA (zD rfl)<|zF ?_
 refine zx (r:=r) (fun (_:Unit)=>mkE []) (fun _=>[]) (fun _=>zLR ) ?_ ?_
 ·
  refine zH<|zC<|zA (zD rfl)<|zF<|zR<|zt (σ:=Int) (fun i1=>mkE [(1,(AV.ptr 0 0)),(3,(li i1))]) (fun i1=>[.box 51 (zO C)]) (fun n0 i1=>zFp C n0 i1) 0 h (fun _=>rfl) (zAD [0] rfl rfl (by kernel_rfl)) ?_
  clear h
  intro n0 i1 h
  replace h:zFb C (zFp C n0) i1=some r:=h
  unfold zFb at h
  refine zH<|zH<|zC<|zA (zB rfl)<|zA (zCj rfl rfl)<|zF ?_
  refine zW h rfl (fun b1 h => ?_) (fun b1 h => ?_)
  ·refine zQ<|zH<|zR<|zH<|zC<|zA (zB rfl) ?_
   refine zA (zK Tryz.underlying51 rfl rfl Tryz.sizeOf49 rfl)<|zM h fun b2 h=>zA (zAG (m:=5) (s:=1) (i:=i1) (k:=0) (o:=5) Tryz.underlying49 Tryz.sizeOf22 rfl rfl b2)<|zA (zAr (k:=0) (o:=(5+i1.toNat*1)) (cs:=(zO C)) (hd:=([li C.node]++[li C.kind]++[li C.start]++[li C.count]++[li C.min]++[])) (tl:=([])) (g:=(eS cI)) (d0:=([]:List Int)) (l:=C.free) (N:=5) (i:=i1.toNat) (a:=(ls cI (C.free.getD i1.toNat ([]:List Int)))) Tryz.isAgg22 rfl rfl rfl (congrArg (fun q=>5+q) (Nat.mul_one _)) (zBK b2).2 rfl rfl)<|zA (zY Tryz.underlying22 rfl)<|zA (zAo rfl rfl) ?_
   refine zF ?_
   refine zW h rfl (fun b3 h => ?_) (fun b3 h => ?_)
   ·refine zH<|zC<|zA (zD rfl)<|zF<|zb ?_
    cases h
    exact zv (zAI rfl rfl)
   refine zQ<|zC<|zA (zB rfl)<|zM h fun b4 h=>zA (zg rfl rfl b4)<|zA (zD rfl) ?_
   refine zF ?_
   exact ⟨(i1+1),zAD [0] rfl rfl (by kernel_rfl),h⟩
  refine zz ?_
  exact ⟨(),zAD [] rfl rfl (by kernel_rfl),h⟩
 clear h
 intro _ h
 unfold zLR at h
 refine zH<|zC<|zA (zD rfl)<|zF<|zb ?_
 cases h
 exact zv (zAI rfl rfl)
theorem zQI {J:zL} {r:Bool} (h:zLb J=some r):PFn Tryz.prog 38 [(AV.agg (zI J))] (AV.lit (.bool r)):=by
 refine zm Tryz.func38 rfl Tryz.ntmps38 Tryz.results38 rfl ?_
 unfold zLb at h
 refine zH<|zC<|zX (H':=[.box 55 (zI J)]) (zu (t:=55) rfl)<|zA (zD rfl)<|zF<|zH ?_
 refine zH<|zC<|zA (zK Tryz.underlying55 rfl rfl Tryz.sizeOf53 rfl)<|zA (zN Tryz.isAgg53 rfl rfl rfl rfl)<|zA (zY Tryz.underlying53 rfl)<|zA (zAo rfl rfl) ?_
 refine zF ?_
 refine zW h rfl (fun b1 h => ?_) (fun b1 h => ?_)
 ·refine zH<|zC<|zA (zD rfl)<|zF<|zb ?_
  cases h
  exact zv (zAI rfl rfl)
 refine zQ ?_
 refine zx (r:=r) (fun (_:Unit)=>mkE []) (fun _=>[]) (fun _=>zK9 ) ?_ ?_
 ·
  refine zH<|zC<|zA (zK Tryz.underlying55 rfl rfl Tryz.sizeOf53 rfl)<|zA (zN Tryz.isAgg53 rfl rfl rfl rfl)<|zA (zY Tryz.underlying53 rfl)<|zA (zB rfl) ?_
  refine zF<|zR<|zt (σ:=Int) (fun i1=>mkE [(10,(ls (cS cI) J.lists)),(11,(li (J.lists.length:Int))),(12,(li i1))]) (fun i1=>[]) (fun n0 i1=>zFi J n0 i1) 0 h (fun _=>rfl) (zAD [] rfl rfl (by kernel_rfl)) ?_
  clear h
  intro n0 i1 h
  replace h:zFj J (zFi J n0) i1=some r:=h
  unfold zFj at h
  refine zH<|zC<|zA (zh rfl rfl)<|zF<|zH ?_
  refine zW h rfl (fun b2 h => ?_) (fun b2 h => ?_)
  ·refine zQ<|zH<|zR<|zH<|zC<|zM h fun b3 h => ?_
   refine zA (zV Tryz.underlying53 Tryz.sizeOf22 (fun _=>rfl) rfl rfl b3)<|zA (zU (o:=0) Tryz.isAgg22 rfl rfl)<|zA (zD rfl)<|zF<|zH<|zC ?_
   refine zA (zB rfl)<|zA (zY Tryz.underlying22 rfl)<|zA (zAo rfl rfl)<|zF ?_
   refine zW h rfl (fun b4 h => ?_) (fun b4 h => ?_)
   ·refine zH<|zC<|zA (zD rfl)<|zF<|zb ?_
    cases h
    exact zv (zAI rfl rfl)
   refine zQ<|zC<|zM h fun b5 h=>zA (zg rfl rfl b5)<|zA (zB rfl)<|zF ?_
   exact ⟨(i1+1),zAD [] rfl rfl (by kernel_rfl),h⟩
  refine zz ?_
  exact ⟨(),zAD [] rfl rfl (by kernel_rfl),h⟩
 clear h
 intro _ h
 unfold zK9 at h
 refine zH<|zC<|zA (zD rfl)<|zF<|zb ?_
 cases h
 exact zv (zAI rfl rfl)
theorem zQP {B:zJ} {r:Bool} (h:zLe B=some r):PFn Tryz.prog 10 [(AV.agg (zG B))] (AV.lit (.bool r)):=by
 refine zm Tryz.func10 rfl Tryz.ntmps10 Tryz.results10 rfl ?_
 unfold zLe at h
 refine zH<|zC<|zX (H':=[.box 26 (zG B)]) (zu (t:=26) rfl)<|zA (zD rfl)<|zF<|zH ?_
 refine zH<|zC<|zA (zK Tryz.underlying26 rfl rfl Tryz.sizeOf22 rfl)<|zA (zN Tryz.isAgg22 rfl rfl rfl rfl)<|zA (zY Tryz.underlying22 rfl)<|zA (zAo rfl rfl) ?_
 refine zA (zB rfl)<|zZ rfl rfl (fun c1=>zq.step (zK Tryz.underlying26 rfl rfl Tryz.sizeOf23 rfl))<|zZ rfl rfl (fun c2=>zq.step (zN Tryz.isAgg23 (z8 rfl c2) rfl rfl rfl))<|zZ rfl rfl (fun c3=>zq.step (zY Tryz.underlying23 (z8 rfl c3)))<|zZ rfl rfl (fun c4=>zq.step (zAo (z8 rfl c4) rfl))<|zA (zj rfl rfl) ?_
 refine zA (zB rfl)<|zZ rfl rfl (fun c5=>zq.step (zK Tryz.underlying26 rfl rfl Tryz.sizeOf24 rfl))<|zZ rfl rfl (fun c6=>zq.step (zN Tryz.isAgg24 (z8 rfl c6) rfl rfl rfl))<|zZ rfl rfl (fun c7=>zq.step (zY Tryz.underlying24 (z8 rfl c7)))<|zZ rfl rfl (fun c8=>zq.step (zAo (z8 rfl c8) rfl))<|zA (zj rfl rfl) ?_
 refine zF ?_
 refine zW h rfl (fun b1 h => ?_) (fun b1 h => ?_)
 ·refine zH<|zC<|zA (zD rfl)<|zF<|zb ?_
  cases h
  exact zv (zAI rfl rfl)
 refine zQ ?_
 refine zx (r:=r) (fun (_:Unit)=>mkE [(1,(AV.ptr 0 0))]) (fun _=>[.box 26 (zG B)]) (fun _=>zLO B) ?_ ?_
 ·
  refine zH<|zC<|zA (zD rfl)<|zF<|zR<|zt (σ:=Int) (fun i2=>mkE [(1,(AV.ptr 0 0)),(3,(li i2))]) (fun i2=>[.box 26 (zG B)]) (fun n1 i2=>zFc B n1 i2) 0 h (fun _=>rfl) (zAD [0] rfl rfl (by kernel_rfl)) ?_
  clear h
  intro n1 i2 h
  replace h:zFf B (zFc B n1) i2=some r:=h
  unfold zFf at h
  refine zH<|zH<|zC<|zA (zB rfl)<|zA (zK Tryz.underlying26 rfl rfl Tryz.sizeOf23 rfl)<|zA (zN Tryz.isAgg23 rfl rfl rfl rfl) ?_
  refine zA (zY Tryz.underlying23 rfl)<|zA (zh rfl rfl)<|zF ?_
  refine zW h rfl (fun b6 h => ?_) (fun b6 h => ?_)
  ·refine zQ<|zH<|zR<|zH<|zC<|zA (zK Tryz.underlying26 rfl rfl Tryz.sizeOf23 rfl) ?_
   refine zA (zN Tryz.isAgg23 rfl rfl rfl rfl)<|zA (zB rfl)<|zM h fun b7 h=>zA (zV Tryz.underlying23 Tryz.sizeOf51 (fun _=>rfl) rfl rfl b7)<|zA (zAf (row:=(zO (at_ B.zones i2))) (o:=0) (m:=10) (la:=(zO (at_ B.zones i2))) Tryz.isAgg51 Tryz.sizeOf51 rfl rfl rfl)<|zP h fun x2 w2 h => ?_
   refine ze Tryz.func37 rfl (by kernel_rfl) (.fn 37) rfl rfl (zQF w2) rfl<|zA (zAv (t:=x2) rfl)<|zF ?_
   refine zW h rfl (fun b8 h => ?_) (fun b8 h => ?_)
   ·refine zH<|zC<|zA (zD rfl)<|zF<|zb ?_
    cases h
    exact zv (zAI rfl rfl)
   refine zQ<|zC<|zA (zB rfl)<|zM h fun b9 h=>zA (zg rfl rfl b9)<|zA (zD rfl) ?_
   refine zF ?_
   exact ⟨(i2+1),zAD [0] rfl rfl (by kernel_rfl),h⟩
  refine zz ?_
  exact ⟨(),zAD [0] rfl rfl (by kernel_rfl),h⟩
 clear h
 intro _ h
 unfold zLO at h
 refine zx (r:=r) (fun (_:Unit)=>mkE []) (fun _=>[]) (fun _=>zK4 ) ?_ ?_
 ·
  refine zH<|zC<|zA (zD rfl)<|zF<|zR<|zt (σ:=Int) (fun i1=>mkE [(1,(AV.ptr 0 0)),(4,(li i1))]) (fun i1=>[.box 26 (zG B)]) (fun n0 i1=>zFY B n0 i1) 0 h (fun _=>rfl) (zAD [0] rfl rfl (by kernel_rfl)) ?_
  clear h
  intro n0 i1 h
  replace h:zFt B (zFY B n0) i1=some r:=h
  unfold zFt at h
  refine zH<|zH<|zC<|zA (zB rfl)<|zA (zK Tryz.underlying26 rfl rfl Tryz.sizeOf24 rfl)<|zA (zN Tryz.isAgg24 rfl rfl rfl rfl) ?_
  refine zA (zY Tryz.underlying24 rfl)<|zA (zh rfl rfl)<|zF ?_
  refine zW h rfl (fun b2 h => ?_) (fun b2 h => ?_)
  ·refine zQ<|zH<|zR<|zH<|zC<|zA (zK Tryz.underlying26 rfl rfl Tryz.sizeOf24 rfl) ?_
   refine zA (zN Tryz.isAgg24 rfl rfl rfl rfl)<|zA (zB rfl)<|zM h fun b3 h=>zA (zV Tryz.underlying24 Tryz.sizeOf55 (fun _=>rfl) rfl rfl b3)<|zA (zAf (row:=(zI (at_ B.caches i1))) (o:=0) (m:=1) (la:=(zI (at_ B.caches i1))) Tryz.isAgg55 Tryz.sizeOf55 rfl rfl rfl)<|zP h fun x1 w1 h => ?_
   refine ze Tryz.func38 rfl (by kernel_rfl) (.fn 38) rfl rfl (zQI w1) rfl<|zA (zAv (t:=x1) rfl)<|zF ?_
   refine zW h rfl (fun b4 h => ?_) (fun b4 h => ?_)
   ·refine zH<|zC<|zA (zD rfl)<|zF<|zb ?_
    cases h
    exact zv (zAI rfl rfl)
   refine zQ<|zC<|zA (zB rfl)<|zM h fun b5 h=>zA (zg rfl rfl b5)<|zA (zD rfl) ?_
   refine zF ?_
   exact ⟨(i1+1),zAD [0] rfl rfl (by kernel_rfl),h⟩
  refine zz ?_
  exact ⟨(),zAD [] rfl rfl (by kernel_rfl),h⟩
 clear h
 intro _ h
 unfold zK4 at h
 refine zH<|zC<|zA (zD rfl)<|zF<|zb ?_
 cases h
 exact zv (zAI rfl rfl)
theorem zNX {uQ:List Int} {uZ:Int} {ua:Int} {R:Int} {r:Bool} (h:zHA uQ uZ ua R=some r):PFn Tryz.prog 46 [ls cI uQ,li uZ,li ua,li R] (AV.lit (.bool r)):=by
 refine zm Tryz.func46 rfl Tryz.ntmps46 Tryz.results46 rfl ?_
 unfold zHA at h
 refine zH<|zC<|zA (zD rfl)<|zF<|zH<|zH ?_
 refine zC<|zA (zB rfl)<|zA (zY Tryz.underlying22 rfl)<|zA (zh rfl rfl)<|zA (zB rfl)<|zZ rfl rfl (fun c1=>zq.step (zB rfl)) ?_
 refine zZ rfl rfl (fun c2=>zq.step (zY Tryz.underlying22 (z8 rfl c2)))<|zZ rfl rfl (fun c3=>zq.step (zAo (z8 rfl c3) rfl))<|zA (zj rfl rfl)<|zA (zB rfl)<|zZ rfl rfl (fun c4=>zq.step (zB rfl))<|zZ rfl rfl (fun c5=>zq.step (zh (z8 rfl c5) rfl)) ?_
 refine zA (zj rfl rfl)<|zA (zB rfl)<|zZ rfl rfl (fun c6=>zq.step (zB rfl))<|zZ rfl rfl (fun c7=>zq.step (zB rfl))<|zZ rfl rfl (fun c8=>zq.step (zAo (z8 rfl c8) (z8 rfl c8)))<|zA (zj rfl rfl) ?_
 refine zA (zB rfl)<|zZ rfl rfl (fun c9=>zq.step (zB rfl))<|zZ rfl rfl (fun c10=>zq.step (zAo (z8 rfl c10) rfl))<|zA (zj rfl rfl)<|zA (zB rfl)<|zZ rfl rfl (fun c11=>zq.step (zB rfl)) ?_
 refine zZ rfl rfl (fun c12=>zq.step (zh (z8 rfl c12) rfl))<|zA (zj rfl rfl)<|zA (zB rfl)<|zZ rfl rfl (fun c13=>zq.step (zB rfl))<|zZ rfl rfl (fun c14=>zq.step (zAo (z8 rfl c14) rfl))<|zA (zj rfl rfl) ?_
 refine zF ?_
 refine zW h rfl (fun b1 h => ?_) (fun b1 h => ?_)
 ·refine zH<|zC<|zA (zD rfl)<|zF<|zb ?_
  cases h
  exact zv (zAI rfl rfl)
 refine zQ ?_
 refine zx (r:=r) (fun (_:Unit)=>mkE []) (fun _=>[]) (fun _=>zIX ) ?_ ?_
 ·
  refine zH<|zC<|zA (zD rfl)<|zF<|zR<|zt (σ:=Int) (fun i1=>mkE [(0,(ls cI uQ)),(9,(li i1))]) (fun i1=>[]) (fun n0 i1=>zE9 uQ n0 i1) 0 h (fun _=>rfl) (zAD [] rfl rfl (by kernel_rfl)) ?_
  clear h
  intro n0 i1 h
  replace h:zC1 uQ (zE9 uQ n0) i1=some r:=h
  unfold zC1 at h
  refine zH<|zH<|zC<|zA (zB rfl)<|zA (zB rfl)<|zA (zY Tryz.underlying22 rfl) ?_
  refine zA (zh rfl rfl)<|zF ?_
  refine zW h rfl (fun b2 h => ?_) (fun b2 h => ?_)
  ·refine zQ<|zH<|zR<|zH<|zC<|zA (zB rfl) ?_
   refine zA (zB rfl)<|zM h fun b3 h=>zA (zV Tryz.underlying22 Tryz.sizeOf3 (fun _=>rfl) rfl rfl b3)<|zA (zU (o:=0) Tryz.isAgg3 rfl rfl)<|zA (zh rfl rfl)<|zA (zB rfl) ?_
   refine zZ rfl rfl (fun c15=>zq.step (zB rfl))<|zZ rfl rfl (fun c16=>zq.step (zB rfl))<|zZ rfl rfl (fun c17=>zq.step (zV Tryz.underlying22 Tryz.sizeOf3 (fun _=>rfl) (z8 rfl c17) (z8 rfl c17) b3))<|zZ rfl rfl (fun c18=>zq.step (zU (o:=0) Tryz.isAgg3 (z8 rfl c18) rfl))<|zZ rfl rfl (fun c19=>zq.step (zAu (z8 rfl c19) rfl))<|zA (zj rfl rfl) ?_
   refine zF ?_
   refine zW h rfl (fun b4 h => ?_) (fun b4 h => ?_)
   ·refine zH<|zC<|zA (zD rfl)<|zF<|zb ?_
    cases h
    exact zv (zAI rfl rfl)
   refine zQ<|zC<|zA (zB rfl)<|zM h fun b5 h=>zA (zg rfl rfl b5)<|zA (zD rfl) ?_
   refine zF ?_
   exact ⟨(i1+1),zAD [] rfl rfl (by kernel_rfl),h⟩
  refine zz ?_
  exact ⟨(),zAD [] rfl rfl (by kernel_rfl),h⟩
 clear h
 intro _ h
 unfold zIX at h
 refine zH<|zC<|zA (zD rfl)<|zF<|zb ?_
 cases h
 exact zv (zAI rfl rfl)
theorem zNV {C:zi} {r:Bool} (h:zG5 C=some r):PFn Tryz.prog 93 [(AV.agg (zO C))] (AV.lit (.bool r)):=by
 refine zm Tryz.func93 rfl Tryz.ntmps93 Tryz.results93 rfl ?_
 unfold zG5 at h
 refine zH<|zC<|zX (H':=[.box 51 (zO C)]) (zu (t:=51) rfl)<|zA (zD rfl)<|zF<|zH ?_
 refine zH<|zC<|zA (zK Tryz.underlying51 rfl rfl Tryz.sizeOf3 rfl)<|zA (zN Tryz.isAgg3 rfl rfl rfl rfl)<|zA (zh rfl rfl)<|zA (zB rfl) ?_
 refine zZ rfl rfl (fun c1=>zq.step (zK Tryz.underlying51 rfl rfl Tryz.sizeOf3 rfl))<|zZ rfl rfl (fun c2=>zq.step (zN Tryz.isAgg3 (z8 rfl c2) rfl rfl rfl))<|zZ rfl rfl (fun c3=>zq.step (zAu (z8 rfl c3) rfl))<|zA (zj rfl rfl)<|zA (zB rfl)<|zZ rfl rfl (fun c4=>zq.step (zK Tryz.underlying51 rfl rfl Tryz.sizeOf3 rfl)) ?_
 refine zZ rfl rfl (fun c5=>zq.step (zN Tryz.isAgg3 (z8 rfl c5) rfl rfl rfl))<|zZ rfl rfl (fun c6=>zq.step (z7 (z8 rfl c6) rfl))<|zZ rfl rfl (fun c7=>zq.step (zB (z8 rfl c7)))<|zL3 (g:=15) (s' := !((decide (C.node<0))||(decide (4≤C.node)))) (s := !decide (C.kind=0)) rfl rfl (fun c8=>zq.step (zK Tryz.underlying51 rfl rfl Tryz.sizeOf3 rfl))<|zL3 (g:=15) (s' := !((decide (C.node<0))||(decide (4≤C.node)))) (s := !decide (C.kind=0)) rfl rfl (fun c9=>zq.step (zN Tryz.isAgg3 (z8 rfl c9) rfl rfl rfl))<|zL3 (g:=15) (s' := !((decide (C.node<0))||(decide (4≤C.node)))) (s := !decide (C.kind=0)) rfl rfl (fun c10=>zq.step (z7 (z8 rfl c10) rfl)) ?_
 refine zZ rfl rfl (fun c11=>zq.step (z6 (j := .lit undef) (z8 rfl c11) (zQB (c := !((decide (C.node<0))||(decide (4≤C.node)))) (d := !decide (C.kind=0)) (a:=(AV.lit (.bool (!decide (C.kind=1))))) (j := .lit undef) rfl c11)))<|zA (zj rfl rfl)<|zF ?_
 refine zW h rfl (fun b1 h => ?_) (fun b1 h => ?_)
 ·refine zH<|zC<|zA (zD rfl)<|zF<|zb ?_
  cases h
  exact zv (zAI rfl rfl)
 refine zQ<|zH<|zC<|zA (zK Tryz.underlying51 rfl rfl Tryz.sizeOf3 rfl)<|zA (zN Tryz.isAgg3 rfl rfl rfl rfl)<|zA (zAu rfl rfl) ?_
 refine zA (zB rfl)<|zo rfl rfl (fun c12=>zq.step (zK Tryz.underlying51 rfl rfl Tryz.sizeOf3 rfl))<|zo rfl rfl (fun c13=>zq.step (zN Tryz.isAgg3 (z8 rfl c13) rfl rfl rfl))<|zo rfl rfl (fun c14=>zq.step (zAu (z8 rfl c14) rfl))<|zA (z6 (j := .lit undef) rfl rfl)<|zA (zB rfl) ?_
 refine zo rfl rfl (fun c15=>zq.step (zK Tryz.underlying51 rfl rfl Tryz.sizeOf3 rfl))<|zo rfl rfl (fun c16=>zq.step (zN Tryz.isAgg3 (z8 rfl c16) rfl rfl rfl))<|zo rfl rfl (fun c17=>zq.step (zCj (z8 rfl c17) rfl))<|zA (z6 (j := .lit undef) rfl rfl)<|zA (zB rfl)<|zo rfl rfl (fun c18=>zq.step (zK Tryz.underlying51 rfl rfl Tryz.sizeOf3 rfl)) ?_
 refine zo rfl rfl (fun c19=>zq.step (zN Tryz.isAgg3 (z8 rfl c19) rfl rfl rfl))<|zo rfl rfl (fun c20=>zq.step (zK Tryz.underlying51 rfl rfl Tryz.sizeOf3 rfl))<|zo rfl rfl (fun c21=>zq.step (zN Tryz.isAgg3 (z8 rfl c21) rfl rfl rfl))<|zM h fun b2 h=>zo rfl rfl (fun c22=>zq.step (zBa rfl (z8 rfl c22) (zHd b2 c22)))<|zo rfl rfl (fun c23=>zq.step (zCj (z8 rfl c23) (z8 rfl c23))) ?_
 refine zA (z6 (j := .lit undef) rfl rfl)<|zA (zB rfl)<|zo rfl rfl (fun c24=>zq.step (zK Tryz.underlying51 rfl rfl Tryz.sizeOf3 rfl))<|zo rfl rfl (fun c25=>zq.step (zN Tryz.isAgg3 (z8 rfl c25) rfl rfl rfl))<|zo rfl rfl (fun c26=>zq.step (zAu (z8 rfl c26) rfl))<|zA (z6 (j := .lit undef) rfl rfl) ?_
 refine zA (zB rfl)<|zo rfl rfl (fun c27=>zq.step (zK Tryz.underlying51 rfl rfl Tryz.sizeOf3 rfl))<|zo rfl rfl (fun c28=>zq.step (zN Tryz.isAgg3 (z8 rfl c28) rfl rfl rfl))<|zo rfl rfl (fun c29=>zq.step (zK Tryz.underlying51 rfl rfl Tryz.sizeOf3 rfl))<|zo rfl rfl (fun c30=>zq.step (zN Tryz.isAgg3 (z8 rfl c30) rfl rfl rfl))<|zo rfl rfl (fun c31=>zq.step (zCj (z8 rfl c31) (z8 rfl c31))) ?_
 refine zA (z6 (j := .lit undef) rfl rfl)<|zA (zD rfl)<|zF<|zb ?_
 cases h
 exact zv (zAI rfl rfl)
end Go.Proofs.YtplkliakhdkpcaaGreat
