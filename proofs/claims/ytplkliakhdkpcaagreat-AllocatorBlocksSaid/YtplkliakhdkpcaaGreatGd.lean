/-
  Rules, functions and laws for the last text, part d.
-/
import Derived.Test.YtplkliakhdkpcaaGreatGc
set_option linter.unusedVariables false
set_option linter.unusedSimpArgs false
namespace Go.Proofs.YtplkliakhdkpcaaGreat
open Go Go.RowKit Go.Wk Go.Am Go.Proofs
set_option maxHeartbeats 4000000
theorem zLc {A:zi} {D:Int} {r:zi×Int×Int} (h:zHr A D=some r):PFn Tryz.prog 64 [(AV.agg (zO A)),li D] (AV.tup [(AV.agg (zO r.1)),li r.2.1,li r.2.2]):=by
 refine zo Tryz.func64 rfl Tryz.ntmps64 Tryz.results64 rfl ?_
 unfold zHr at h
 refine zH<|zC<|za (H':=[.box 51 (zO A)]) (zv (t:=51) rfl)<|za (H':=[.box 51 (zO A),.box 51 (zO ⟨0,0,0,0,0,(List.replicate 5 ([]:List Int))⟩)]) zv0<|zA (zD rfl)<|zA (zD rfl) ?_
 refine zF<|zH<|zH<|zC<|zA (zS (k:=0) (o:=0) (m:=10) Tryz.isAgg51 Tryz.sizeOf51 rfl rfl rfl rfl rfl)<|zR h fun x1 w1 h => ?_
 refine zh Tryz.func42 rfl (by kernel_rfl) (.fn 42) rfl rfl (zFA w1) rfl<|zA (zD rfl)<|zF<|zH<|zC<|zA (zB rfl) ?_
 refine zA (zz rfl rfl)<|zF ?_
 refine zX h rfl (fun b1 h => ?_) (fun b1 h => ?_)
 ·refine zH<|zC<|zA zv9<|zA (zB rfl)<|zj (H':=[.box 51 (zO A),.box 51 (zO (⟨0,0,0,0,0,(List.replicate 5 ([]:List Int))⟩:zi))]) (zY (k:=1) (o:=0) (cs:=(zO ⟨0,0,0,0,0,(List.replicate 5 ([]:List Int))⟩)) (la:=(zO (⟨0,0,0,0,0,(List.replicate 5 ([]:List Int))⟩:zi))) Tryz.sizeOf51 rfl rfl rfl rfl)<|zA (zD rfl) ?_
  refine zA (zD rfl)<|zF<|zd ?_
  cases h
  exact zCX (zFM Tryz.isAgg51 Tryz.sizeOf51 rfl rfl rfl rfl) (zAH rfl rfl) (zAH rfl rfl) rfl
 refine zP<|zH<|zH<|zC<|zA (zB rfl)<|zA (zf rfl rfl) ?_
 refine zA (zB rfl)<|zW rfl rfl (fun c1=>zp.step (zB rfl))<|zW rfl rfl (fun c2=>zp.step (zAh (z6 rfl c2) rfl))<|zA (zg rfl rfl)<|zF ?_
 refine zX h rfl (fun b2 h => ?_) (fun b2 h => ?_)
 ·refine zH<|zC<|zA zv9<|zj (H':=[.box 51 (zO A),.box 51 (zO (⟨0,0,0,0,0,(List.replicate 5 ([]:List Int))⟩:zi))]) (zY (k:=1) (o:=0) (cs:=(zO ⟨0,0,0,0,0,(List.replicate 5 ([]:List Int))⟩)) (la:=(zO (⟨0,0,0,0,0,(List.replicate 5 ([]:List Int))⟩:zi))) Tryz.sizeOf51 rfl rfl rfl rfl)<|zA (zD rfl)<|zA (zD rfl) ?_
  refine zF<|zd ?_
  cases h
  exact zCX (zFM Tryz.isAgg51 Tryz.sizeOf51 rfl rfl rfl rfl) (zAH rfl rfl) (zAH rfl rfl) rfl
 refine zP<|zH<|zC<|zA (zB rfl)<|zA (zD rfl)<|zF ?_
 refine zt (r:=r) (fun (i1:Int)=>mkE [(1,(li D)),(2,(AV.ptr 0 0)),(4,(AV.ptr 1 0)),(8,(li i1))]) (fun i1=>[.box 51 (zO A),.box 51 (zO ⟨0,0,0,0,0,(List.replicate 5 ([]:List Int))⟩)]) (fun i1=>zGO A D i1) ?_ ?_
 ·
  refine zQ<|zq (σ:=Int) (fun i3=>mkE [(1,(li D)),(2,(AV.ptr 0 0)),(4,(AV.ptr 1 0)),(8,(li i3))]) (fun i3=>[.box 51 (zO A),.box 51 (zO ⟨0,0,0,0,0,(List.replicate 5 ([]:List Int))⟩)]) (fun n1 i3=>zGF A D n1 i3) D h (fun _=>rfl) (z9 [0,1] rfl rfl (by kernel_rfl)) ?_
  clear h
  intro n1 i3 h
  replace h:zEC A D (zGF A D n1) i3=some r:=h
  unfold zEC at h
  refine zH<|zH<|zC<|zA (zB rfl)<|zA (zCu rfl rfl)<|zA (zB rfl) ?_
  refine zm rfl rfl (fun c3=>zp.step (zB rfl))<|zm rfl rfl (fun c4=>zp.step (zK Tryz.underlying51 rfl rfl Tryz.sizeOf49 rfl))<|zM h fun b17 h=>zm rfl rfl (fun c5=>zp.step (zAO (m:=5) (s:=1) (i:=i3) (k:=0) (o:=5) Tryz.underlying49 Tryz.sizeOf22 (z6 rfl c5) (z6 rfl c5) (zGy b17 c5)))<|zm rfl rfl (fun c6=>zp.step (zAm (k:=0) (o:=(5+i3.toNat*1)) (cs:=(zO A)) (hd:=([li A.node]++[li A.kind]++[li A.start]++[li A.count]++[li A.min]++[])) (tl:=([])) (g:=(eS cI)) (d0:=([]:List Int)) (l:=A.free) (N:=5) (i:=i3.toNat) (a:=(ls cI (A.free.getD i3.toNat ([]:List Int)))) Tryz.isAgg22 (z6 rfl c6) rfl rfl (congrArg (fun q=>5+q) (Nat.mul_one _)) (zBW (zGy b17 c6)).2 rfl rfl))<|zm rfl rfl (fun c7=>zp.step (zV Tryz.underlying22 (z6 rfl c7))) ?_
  refine zm rfl rfl (fun c8=>zp.step (zAv (z6 rfl c8) rfl))<|zA (zx (j := .lit undef) rfl rfl)<|zF ?_
  refine zX h rfl (fun b18 h => ?_) (fun b18 h => ?_)
  ·refine zP<|zQ<|zC<|zA (zB rfl)<|zM h fun b19 h=>zA (ze rfl rfl b19) ?_
   refine zA (zD rfl)<|zF ?_
   exact ⟨(i3+1),z9 [0,1] rfl rfl (by kernel_rfl),h⟩
  refine zw ?_
  exact ⟨i3,z9 [0,1] rfl rfl (by kernel_rfl),h⟩
 clear h
 intro i1 h
 unfold zGO at h
 refine zH<|zH<|zC<|zA (zB rfl)<|zA (zAh rfl rfl)<|zF ?_
 refine zX h rfl (fun b3 h => ?_) (fun b3 h => ?_)
 ·refine zH<|zC<|zA zv9<|zj (H':=[.box 51 (zO A),.box 51 (zO (⟨0,0,0,0,0,(List.replicate 5 ([]:List Int))⟩:zi))]) (zY (k:=1) (o:=0) (cs:=(zO ⟨0,0,0,0,0,(List.replicate 5 ([]:List Int))⟩)) (la:=(zO (⟨0,0,0,0,0,(List.replicate 5 ([]:List Int))⟩:zi))) Tryz.sizeOf51 rfl rfl rfl rfl)<|zA (zD rfl)<|zA (zD rfl) ?_
  refine zF<|zd ?_
  cases h
  exact zCX (zFM Tryz.isAgg51 Tryz.sizeOf51 rfl rfl rfl rfl) (zAH rfl rfl) (zAH rfl rfl) rfl
 refine zP<|zH<|zC<|zA (zS (k:=0) (o:=0) (m:=10) Tryz.isAgg51 Tryz.sizeOf51 rfl rfl rfl rfl rfl)<|zR h fun x2 w2 h=>zGK (cs:=([li x2.node,li x2.kind,li x2.start,li x2.count,li x2.min]++((cM 5 3 (5:Int) x2.free)++[]))) (la:=[(AV.agg (zO A))]) (la':=[(AV.agg (zO A))]) (S:=[]) Tryz.func118 rfl (by kernel_rfl) (.fn 118) rfl ⟨zAs.nr rfl,trivial⟩ (zLV w2) (.inl rfl) ?_
 refine za (H':=[.box 51 (zO A),.box 51 (zO ⟨0,0,0,0,0,(List.replicate 5 ([]:List Int))⟩),.val (.agg ([li x2.node,li x2.kind,li x2.start,li x2.count,li x2.min]++((cM 5 3 (5:Int) x2.free)++[]))),.box 51 (zO ⟨0,0,0,0,0,(List.replicate 5 ([]:List Int))⟩)]) zv0<|zj (H':=[.box 51 (zO A),.box 51 (zO ⟨0,0,0,0,0,(List.replicate 5 ([]:List Int))⟩),.dead,.box 51 ([li x2.node,li x2.kind,li x2.start,li x2.count,li x2.min]++((cM 5 3 (5:Int) x2.free)++[]))]) (zCG (k:=3) (o:=0) (j:=2) (cs:=(zO ⟨0,0,0,0,0,(List.replicate 5 ([]:List Int))⟩)) (la:=([li x2.node,li x2.kind,li x2.start,li x2.count,li x2.min]++((cM 5 3 (5:Int) x2.free)++[]))) Tryz.sizeOf51 rfl rfl rfl rfl rfl (by decide))<|zF<|zH<|zC<|zA (zB rfl) ?_
 refine zA (zK Tryz.underlying51 rfl rfl Tryz.sizeOf49 rfl)<|zM h fun b4 h=>zA (zAO (m:=5) (s:=1) (i:=i1) (k:=3) (o:=5) Tryz.underlying49 Tryz.sizeOf22 rfl rfl b4)<|zM h fun b5 h=>zAA (zKC (k:=3) (cs:=([li x2.node,li x2.kind,li x2.start,li x2.count,li x2.min]++((cM 5 3 (5:Int) x2.free)++[]))) (hd:=([li x2.node]++[li x2.kind]++[li x2.start]++[li x2.count]++[li x2.min]++[])) (tl:=([])) (N:=5) (T:=3) (K:=5) (l:=x2.free) (i:=i1) rfl rfl b4 b5)<|zA (zFD (k:=3) (o:=(5+i1.toNat*1)) (cs:=([li x2.node,li x2.kind,li x2.start,li x2.count,li x2.min]++((List.set (cM 5 3 (5:Int) x2.free) i1.toNat (AV.hd 4))++[]))) (hd:=([li x2.node]++[li x2.kind]++[li x2.start]++[li x2.count]++[li x2.min]++[])) (tl:=([])) (s:=(cM 5 3 (5:Int) x2.free)) (i:=i1) (j:=4) Tryz.isAgg22 rfl rfl rfl (congrArg (fun q=>5+q) (Nat.mul_one _)) (zIq b4)) ?_
 refine zM h fun b6 h=>zA (zy (f:=cI) (l:=x2.free.getD i1.toNat []) (i:=0) Tryz.underlying22 Tryz.sizeOf3 rfl rfl rfl b6)<|zA (zAq (f:=cI) (l:=x2.free.getD i1.toNat []) (i:=0) (c:=0) (a:=(li (at_ (x2.free.getD i1.toNat []) (0:Int)))) Tryz.isAgg3 rfl rfl (by first | rfl | omega) b6 rfl rfl)<|zA (zD rfl)<|zF<|zH ?_
 refine zC<|zA (zB rfl)<|zA (zB rfl)<|zA (zK Tryz.underlying51 rfl rfl Tryz.sizeOf49 rfl)<|zA (zAO (m:=5) (s:=1) (i:=i1) (k:=3) (o:=5) Tryz.underlying49 Tryz.sizeOf22 rfl rfl b4)<|zA (zFD (k:=3) (o:=(5+i1.toNat*1)) (cs:=([li x2.node,li x2.kind,li x2.start,li x2.count,li x2.min]++((List.set (cM 5 3 (5:Int) x2.free) i1.toNat (AV.hd 4))++[]))) (hd:=([li x2.node]++[li x2.kind]++[li x2.start]++[li x2.count]++[li x2.min]++[])) (tl:=([])) (s:=(cM 5 3 (5:Int) x2.free)) (i:=i1) (j:=4) Tryz.isAgg22 rfl rfl rfl (congrArg (fun q=>5+q) (Nat.mul_one _)) (zIq b4)) ?_
 refine zAA (zDR (j:=4) (ds:=[48,55]) (rows':=List.map cI (x2.free.getD i1.toNat [])) rfl (zAL (fun _=>rfl)) ⟨rfl,rfl,trivial⟩)<|zM h fun b7 h=>zA (zP4 (lo:=1) (f:=cI) (l:=x2.free.getD i1.toNat []) Tryz.underlying22 Tryz.sizeOf3 (fun _=>rfl) rfl rfl b7)<|zA (zK Tryz.underlying51 rfl rfl Tryz.sizeOf49 rfl)<|zA (zAO (m:=5) (s:=1) (i:=i1) (k:=3) (o:=5) Tryz.underlying49 Tryz.sizeOf22 rfl rfl b4)<|zM h fun b8 h => ?_
 refine zj (H':=[.box 51 (zO A),.box 51 (zO ⟨0,0,0,0,0,(List.replicate 5 ([]:List Int))⟩),.dead,.box 51 ([li x2.node,li x2.kind,li x2.start,li x2.count,li x2.min]++((List.set (cM 5 3 (5:Int) x2.free) i1.toNat (ls cI (zIY (x2.free.getD i1.toNat []) 1 ((x2.free.getD i1.toNat []).length:Int))))++[])),.dead]) (zIV (k:=3) (o:=(5+i1.toNat*1)) (cs:=([li x2.node,li x2.kind,li x2.start,li x2.count,li x2.min]++((List.set (cM 5 3 (5:Int) x2.free) i1.toNat (AV.hd 4))++[]))) (hd:=([li x2.node]++[li x2.kind]++[li x2.start]++[li x2.count]++[li x2.min]++[])) (tl:=([])) (s:=(cM 5 3 (5:Int) x2.free)) (i:=i1) (a:=(ls cI (zIY (x2.free.getD i1.toNat []) 1 ((x2.free.getD i1.toNat []).length:Int)))) Tryz.sizeOf22 rfl rfl rfl (congrArg (fun q=>5+q) (Nat.mul_one _)) (zIq b4) rfl rfl)<|zF ?_
 refine zt (r:=r) (fun (l1:List (List Int))=>mkE [(4,(AV.ptr 0 0)),(9,(AV.ptr 1 0)),(10,(li (at_ (x2.free.getD i1.toNat []) (0:Int))))]) (fun l1=>[.box 51 (zO ⟨0,0,0,0,0,(List.replicate 5 ([]:List Int))⟩),.box 51 ([li x2.node,li x2.kind,li x2.start,li x2.count,li x2.min]++((cM 5 3 i1 l1)++[]))]) (fun l1=>zHz i1 x2 l1) ?_ ?_
 ·
  refine zQ<|zq (σ:=Int×(List (List Int))) (fun (i2,l2)=>mkE [(1,(li D)),(4,(AV.ptr 0 0)),(8,(li i2)),(9,(AV.ptr 1 0)),(10,(li (at_ (x2.free.getD i1.toNat []) (0:Int))))]) (fun (i2,l2)=>[.box 51 (zO ⟨0,0,0,0,0,(List.replicate 5 ([]:List Int))⟩),.box 51 ([li x2.node,li x2.kind,li x2.start,li x2.count,li x2.min]++((cM 5 3 i1 l2)++[]))]) (fun n0 (i2,l2)=>zFC D i1 x2 n0 i2 l2) (i1,(zEN 5 [] x2.free i1.toNat (zIY (x2.free.getD i1.toNat []) 1 ((x2.free.getD i1.toNat []).length:Int)))) h (fun _=>rfl) (Rep.trans (zS8 (l':=zIY (x2.free.getD i1.toNat []) 1 ((x2.free.getD i1.toNat []).length:Int)) (k:=3) (cs:=([li x2.node,li x2.kind,li x2.start,li x2.count,li x2.min]++((List.set (cM 5 3 (5:Int) x2.free) i1.toNat (ls cI (zIY (x2.free.getD i1.toNat []) 1 ((x2.free.getD i1.toNat []).length:Int))))++[]))) (hd:=([li x2.node]++[li x2.kind]++[li x2.start]++[li x2.count]++[li x2.min]++[])) (tl:=([])) (N:=5) (T:=3) (K:=5) (l:=x2.free) (i:=i1) rfl rfl b4 b8) (zB1 (n:=90) (m:=0) [1,3] (l:=[(1,(li D)),(4,(AV.ptr 0 0)),(8,(li i1)),(9,(AV.ptr 1 0)),(10,(li (at_ (x2.free.getD i1.toNat []) (0:Int))))]) ⟨⟨Sub.refl _,by kernel_rfl⟩,⟨Sub.refl _,by kernel_rfl⟩,⟨Sub.refl _,by kernel_rfl⟩,⟨Sub.refl _,by kernel_rfl⟩,⟨Sub.refl _,by kernel_rfl⟩,trivial⟩ rfl rfl ⟨⟨rfl,by kernel_rfl⟩,⟨rfl,zS7 (hd:=([li x2.node]++[li x2.kind]++[li x2.start]++[li x2.count]++[li x2.min]++[])) (tl:=([])) (N:=5) (T:=3) (K:=i1) (l:=zEN 5 [] x2.free i1.toNat (zIY (x2.free.getD i1.toNat []) 1 ((x2.free.getD i1.toNat []).length:Int))) (by kernel_rfl) (by kernel_rfl) rfl⟩,trivial⟩)) ?_
  clear h
  rintro n0 ⟨i2,l2⟩ h
  replace h:zDm D i1 x2 (zFC D i1 x2 n0) i2 l2=some r:=h
  unfold zDm at h
  refine zH<|zH<|zC<|zA (zB rfl)<|zA (zB rfl)<|zA (zAh rfl rfl) ?_
  refine zF ?_
  refine zX h rfl (fun b9 h => ?_) (fun b9 h => ?_)
  ·refine zP<|zQ<|zH<|zC<|zA (zB rfl)<|zM h fun b10 h => ?_
   refine zA (zBS rfl rfl b10)<|zA (zD rfl)<|zF<|zH<|zC<|zA (zB rfl) ?_
   refine zA (zB rfl)<|zM h fun b11 h=>zM h fun b12 h=>zA (zCw (a:=1) (b:=i2 - 1) rfl rfl b11 b12)<|zM h fun b13 h=>zA (ze rfl rfl b13) ?_
   refine zA (zD rfl)<|zF<|zH<|zC<|zA (zB rfl)<|zA (zK Tryz.underlying51 rfl rfl Tryz.sizeOf49 rfl) ?_
   refine zM h fun b14 h=>zA (zAO (m:=5) (s:=1) (i:=i2 - 1) (k:=1) (o:=5) Tryz.underlying49 Tryz.sizeOf22 rfl rfl b14)<|zM h fun b15 h=>zAA (zKC (k:=1) (cs:=([li x2.node,li x2.kind,li x2.start,li x2.count,li x2.min]++((cM 5 3 i1 l2)++[]))) (hd:=([li x2.node]++[li x2.kind]++[li x2.start]++[li x2.count]++[li x2.min]++[])) (tl:=([])) (N:=5) (T:=3) (K:=i1) (l:=l2) (i:=i2 - 1) rfl rfl b14 b15)<|zA (zFD (k:=1) (o:=(5+(i2 - 1).toNat*1)) (cs:=([li x2.node,li x2.kind,li x2.start,li x2.count,li x2.min]++((List.set (cM 5 3 i1 l2) (i2 - 1).toNat (AV.hd 2))++[]))) (hd:=([li x2.node]++[li x2.kind]++[li x2.start]++[li x2.count]++[li x2.min]++[])) (tl:=([])) (s:=(cM 5 3 i1 l2)) (i:=i2 - 1) (j:=2) Tryz.isAgg22 rfl rfl rfl (congrArg (fun q=>5+q) (Nat.mul_one _)) (zIq b14))<|zA (zB rfl) ?_
   refine zR h fun x3 w3 h=>zA2 (r':=(AV.tup [li x3.1,(AV.lit (.bool x3.2))])) (la:=[AV.hd 2,(li ((at_ (x2.free.getD i1.toNat []) (0:Int))+((1:Int)*2 ^ (i2 - 1).toNat)))]) (la':=[(ls cI (l2.getD (i2 - 1).toNat [])),(li ((at_ (x2.free.getD i1.toNat []) (0:Int))+((1:Int)*2 ^ (i2 - 1).toNat)))]) (r:=(AV.tup [li x3.1,(AV.lit (.bool x3.2))])) (S:=[2]) Tryz.func87 rfl (by kernel_rfl) (.fn 87) rfl ⟨zHy (fun _=>rfl) rfl rfl,zAs.nr rfl,trivial⟩ (zBB w3) (.inr rfl) rfl<|zA (zB rfl)<|zA (zb rfl rfl)<|zA (zb rfl rfl)<|zA (zD rfl) ?_
   refine zA (zD rfl)<|zF<|zC<|zA (zB rfl)<|zA (zB rfl)<|zA (zK Tryz.underlying51 rfl rfl Tryz.sizeOf49 rfl) ?_
   refine zA (zAO (m:=5) (s:=1) (i:=i2 - 1) (k:=1) (o:=5) Tryz.underlying49 Tryz.sizeOf22 rfl rfl b14)<|zA (zFD (k:=1) (o:=(5+(i2 - 1).toNat*1)) (cs:=([li x2.node,li x2.kind,li x2.start,li x2.count,li x2.min]++((List.set (cM 5 3 i1 l2) (i2 - 1).toNat (AV.hd 2))++[]))) (hd:=([li x2.node]++[li x2.kind]++[li x2.start]++[li x2.count]++[li x2.min]++[])) (tl:=([])) (s:=(cM 5 3 i1 l2)) (i:=i2 - 1) (j:=2) Tryz.isAgg22 rfl rfl rfl (congrArg (fun q=>5+q) (Nat.mul_one _)) (zIq b14))<|zA (zB rfl)<|zA (zB rfl)<|zEP (a:=(li ((at_ (x2.free.getD i1.toNat []) (0:Int))+((1:Int)*2 ^ (i2 - 1).toNat)))) zE0 Tryz.underlying22 rfl rfl rfl rfl<|zM h fun b16 h => ?_
   refine zOH (k:=2) (j:=3) (l:=l2.getD (i2 - 1).toNat []) (i:=x3.1) (q:=(at_ (x2.free.getD i1.toNat []) (0:Int))+((1:Int)*2 ^ (i2 - 1).toNat)) (fun a b c d e=>zSO a b c d e) Tryz.func119 rfl (by kernel_rfl) rfl rfl rfl rfl rfl rfl b16<|zA (zK Tryz.underlying51 rfl rfl Tryz.sizeOf49 rfl)<|zA (zAO (m:=5) (s:=1) (i:=i2 - 1) (k:=1) (o:=5) Tryz.underlying49 Tryz.sizeOf22 rfl rfl b14)<|zj (H':=[.box 51 (zO ⟨0,0,0,0,0,(List.replicate 5 ([]:List Int))⟩),.box 51 ([li x2.node,li x2.kind,li x2.start,li x2.count,li x2.min]++((List.set (cM 5 3 i1 l2) (i2 - 1).toNat (AV.hd 4))++[])),.dead,.vec 3 1 (List.map cI [(at_ (x2.free.getD i1.toNat []) (0:Int))+((1:Int)*2 ^ (i2 - 1).toNat)]),.vec 3 1 (List.map cI (zR6 (l2.getD (i2 - 1).toNat []) x3.1 ((at_ (x2.free.getD i1.toNat []) (0:Int))+((1:Int)*2 ^ (i2 - 1).toNat))))]) (zIV (k:=1) (o:=(5+(i2 - 1).toNat*1)) (cs:=([li x2.node,li x2.kind,li x2.start,li x2.count,li x2.min]++((List.set (cM 5 3 i1 l2) (i2 - 1).toNat (AV.hd 2))++[]))) (hd:=([li x2.node]++[li x2.kind]++[li x2.start]++[li x2.count]++[li x2.min]++[])) (tl:=([])) (s:=(cM 5 3 i1 l2)) (i:=i2 - 1) (a:=(AV.hd 4)) Tryz.sizeOf22 rfl rfl rfl (congrArg (fun q=>5+q) (Nat.mul_one _)) (zIq b14) rfl rfl)<|zF ?_
   exact ⟨((i2 - 1),(zEN 5 [] l2 (i2 - 1).toNat (zR6 (l2.getD (i2 - 1).toNat []) x3.1 ((at_ (x2.free.getD i1.toNat []) (0:Int))+((1:Int)*2 ^ (i2 - 1).toNat))))),Rep.trans (zKB (j:=4) (l':=zR6 (l2.getD (i2 - 1).toNat []) x3.1 ((at_ (x2.free.getD i1.toNat []) (0:Int))+((1:Int)*2 ^ (i2 - 1).toNat))) (k:=1) (cs:=([li x2.node,li x2.kind,li x2.start,li x2.count,li x2.min]++((List.set (cM 5 3 i1 l2) (i2 - 1).toNat (AV.hd 4))++[]))) (hd:=([li x2.node]++[li x2.kind]++[li x2.start]++[li x2.count]++[li x2.min]++[])) (tl:=([])) (N:=5) (T:=3) (K:=i1) (l:=l2) (i:=i2 - 1) rfl rfl b14 b15 rfl rfl) (zB1 (n:=90) (m:=0) [0,1] (l:=[(1,(li D)),(4,(AV.ptr 0 0)),(8,(li (i2 - 1))),(9,(AV.ptr 1 0)),(10,(li (at_ (x2.free.getD i1.toNat []) (0:Int))))]) ⟨⟨Sub.refl _,by kernel_rfl⟩,⟨Sub.refl _,by kernel_rfl⟩,⟨Sub.refl _,by kernel_rfl⟩,⟨Sub.refl _,by kernel_rfl⟩,⟨Sub.refl _,by kernel_rfl⟩,trivial⟩ rfl rfl ⟨⟨rfl,by kernel_rfl⟩,⟨rfl,zS7 (hd:=([li x2.node]++[li x2.kind]++[li x2.start]++[li x2.count]++[li x2.min]++[])) (tl:=([])) (N:=5) (T:=3) (K:=i1) (l:=zEN 5 [] l2 (i2 - 1).toNat (zR6 (l2.getD (i2 - 1).toNat []) x3.1 ((at_ (x2.free.getD i1.toNat []) (0:Int))+((1:Int)*2 ^ (i2 - 1).toNat)))) (by kernel_rfl) (by kernel_rfl) rfl⟩,trivial⟩),h⟩
  refine zw ?_
  exact ⟨l2,zB1 (n:=90) (m:=0) [0,1] (l:=[(4,(AV.ptr 0 0)),(9,(AV.ptr 1 0)),(10,(li (at_ (x2.free.getD i1.toNat []) (0:Int))))]) ⟨⟨Sub.refl _,by kernel_rfl⟩,⟨Sub.refl _,by kernel_rfl⟩,⟨Sub.refl _,by kernel_rfl⟩,trivial⟩ rfl rfl ⟨⟨rfl,by kernel_rfl⟩,⟨rfl,zS7 (hd:=([li x2.node]++[li x2.kind]++[li x2.start]++[li x2.count]++[li x2.min]++[])) (tl:=([])) (N:=5) (T:=3) (K:=i1) (l:=l2) (by kernel_rfl) (by kernel_rfl) rfl⟩,trivial⟩,h⟩
 clear h
 intro l1 h
 unfold zHz at h
 refine zH<|zC<|zAA (zK7 (k:=1) (cs:=([li x2.node,li x2.kind,li x2.start,li x2.count,li x2.min]++((cM 5 3 i1 l1)++[]))) (hd:=([li x2.node]++[li x2.kind]++[li x2.start]++[li x2.count]++[li x2.min]++[])) (tl:=([])) (N:=5) (T:=3) (K:=i1) (l:=l1) rfl rfl)<|zA (zS (k:=1) (o:=0) (m:=10) Tryz.isAgg51 Tryz.sizeOf51 rfl rfl rfl rfl rfl)<|zA (zB rfl)<|zj (H':=[.box 51 (zO (⟨x2.node,x2.kind,x2.start,x2.count,x2.min,l1⟩:zi)),.box 51 (zO ⟨x2.node,x2.kind,x2.start,x2.count,x2.min,l1⟩)]) (zY (k:=0) (o:=0) (cs:=(zO ⟨0,0,0,0,0,(List.replicate 5 ([]:List Int))⟩)) (la:=(zO (⟨x2.node,x2.kind,x2.start,x2.count,x2.min,l1⟩:zi))) Tryz.sizeOf51 rfl rfl rfl rfl) ?_
 refine zA (zD rfl)<|zA (zD rfl)<|zF<|zd ?_
 cases h
 exact zCX (zFM Tryz.isAgg51 Tryz.sizeOf51 rfl rfl rfl rfl) (zAH rfl rfl) (zAH rfl rfl) rfl
theorem zHA {J:zL} {M:Int} {r:Int} (h:zEf J M=some r):PFn Tryz.prog 111 [(AV.agg (zG J)),li M] (li r):=by
 refine zo Tryz.func111 rfl Tryz.ntmps111 Tryz.results111 rfl ?_
 unfold zEf at h
 refine zH<|zC<|za (H':=[.box 55 (zG J)]) (zv (t:=55) rfl)<|zA (zD rfl)<|zF<|zH ?_
 refine zH<|zC<|zA (zS (k:=0) (o:=0) (m:=1) Tryz.isAgg55 Tryz.sizeOf55 rfl rfl rfl rfl rfl)<|zA (zK Tryz.underlying55 rfl rfl Tryz.sizeOf53 rfl)<|zA (zN Tryz.isAgg53 rfl rfl rfl rfl)<|zA (zV Tryz.underlying53 rfl) ?_
 refine zR h fun x1 w1 h=>zh Tryz.func43 rfl (by kernel_rfl) (.fn 43) rfl rfl (zK6 w1) rfl<|zA (zD rfl)<|zF<|zH<|zC ?_
 refine zA (zB rfl)<|zA (zz rfl rfl)<|zF ?_
 refine zX h rfl (fun b1 h => ?_) (fun b1 h => ?_)
 ·refine zH<|zC<|zA (zB rfl)<|zA (zD rfl)<|zF<|zd ?_
  cases h
  exact zu (zAH rfl rfl)
 refine zP<|zH<|zH<|zC<|zA (zB rfl)<|zA (zf rfl rfl) ?_
 refine zA (zB rfl)<|zW rfl rfl (fun c1=>zp.step (zB rfl))<|zW rfl rfl (fun c2=>zp.step (zK Tryz.underlying55 rfl rfl Tryz.sizeOf53 rfl))<|zW rfl rfl (fun c3=>zp.step (zN Tryz.isAgg53 (z6 rfl c3) rfl rfl rfl))<|zW rfl rfl (fun c4=>zp.step (zV Tryz.underlying53 (z6 rfl c4)))<|zW rfl rfl (fun c5=>zp.step (zAw (z6 rfl c5) (z6 rfl c5))) ?_
 refine zA (zg rfl rfl)<|zF ?_
 refine zX h rfl (fun b2 h => ?_) (fun b2 h => ?_)
 ·refine zH<|zC<|zA (zD rfl)<|zF<|zd ?_
  cases h
  exact zu (zAH rfl rfl)
 refine zP<|zH<|zC<|zA (zD rfl)<|zF<|zd ?_
 cases h
 exact zu (zAH rfl rfl)
theorem zEb {J:zL} {M:Int} {uF:List Int} {r:zL} (h:zBr J M uF=some r):PFn Tryz.prog 112 [(AV.agg (zG J)),li M,ls cI uF] (AV.agg (zG r)):=by
 refine zo Tryz.func112 rfl Tryz.ntmps112 Tryz.results112 rfl ?_
 unfold zBr at h
 refine zH<|zC<|za (H':=[.box 55 (zG J)]) (zv (t:=55) rfl)<|za (H':=[.box 55 (zG J),.box 55 [(ls (cS cI) ([]:List (List Int)))]]) zv1<|zF<|zH ?_
 refine zC<|zA (zK Tryz.underlying55 rfl rfl Tryz.sizeOf53 rfl)<|zA (zN Tryz.isAgg53 rfl rfl rfl rfl)<|zA (zV Tryz.underlying53 rfl)<|zM h fun b1 h=>zEa (f:=(cS cI)) (a:=(J.lists.length:Int)) (c:=(J.lists.length:Int)) (d0:=([]:List Int)) zOW ⟨zAt.nils,trivial⟩ rfl Tryz.underlying53 rfl rfl b1 ?_
 refine zA (zCV (pl:=[(0,1)]) (zs:=[.slice none 0 0]) (zc:=[.sl false []]) (res:=[AV.hd 2]) (fun _=>by kernel_rfl) rfl (⟨zAt.nils,trivial⟩) ⟨AV.hd 2,0,1,rfl,rfl,rfl,rfl,rfl,(by exact zLT.refl _)⟩)<|za (H':=[.box 55 (zG J),.box 55 [(ls (cS cI) ([]:List (List Int)))],.vec 22 1 (List.map (cS cI) (List.replicate (J.lists.length:Int).toNat ([]:List Int))),.box 55 [(ls (cS cI) ([]:List (List Int)))]]) zv1<|zj (H':=[.box 55 (zG J),.box 55 [(ls (cS cI) ([]:List (List Int)))],.vec 22 1 (List.map (cS cI) (List.replicate (J.lists.length:Int).toNat ([]:List Int))),.box 55 [AV.hd 2]]) (zY (k:=3) (o:=0) (cs:=[(ls (cS cI) ([]:List (List Int)))]) (la:=[AV.hd 2]) Tryz.sizeOf55 rfl rfl rfl rfl)<|zF ?_
 refine zt (r:=r) (fun (l1:List (List Int))=>mkE [(6,(AV.ptr 0 0)),(7,(AV.ptr 1 0))]) (fun l1=>[.box 55 [(ls (cS cI) ([]:List (List Int)))],.box 55 [AV.osl 22 1 (List.map (cS cI) l1)]]) (fun l1=>zFv l1) ?_ ?_
 ·
  refine zH<|zC<|zA (zK Tryz.underlying55 rfl rfl Tryz.sizeOf53 rfl)<|zA (zN Tryz.isAgg53 rfl rfl rfl rfl)<|zA (zV Tryz.underlying53 rfl)<|zA (zB rfl) ?_
  refine zF<|zQ<|zq (σ:=Int×(List (List Int))) (fun (i1,l2)=>mkE [(1,(li M)),(2,(ls cI uF)),(3,(AV.ptr 0 0)),(6,(AV.ptr 1 0)),(7,(AV.ptr 2 0)),(17,(li (J.lists.length:Int))),(18,(li i1))]) (fun (i1,l2)=>[.box 55 (zG J),.box 55 [(ls (cS cI) ([]:List (List Int)))],.box 55 [AV.osl 22 1 (List.map (cS cI) l2)]]) (fun n0 (i1,l2)=>zCf J M uF n0 i1 l2) (0,(List.replicate (J.lists.length:Int).toNat ([]:List Int))) h (fun _=>rfl) (Rep.trans (z7 (k:=3) (j:=2) (o:=0) rfl rfl rfl rfl) (z9 [0,1,3] (l:=[(1,(li M)),(2,(ls cI uF)),(3,(AV.ptr 0 0)),(6,(AV.ptr 1 0)),(7,(AV.ptr 2 0)),(17,(li (J.lists.length:Int))),(18,(li 0))]) rfl rfl (by kernel_rfl))) ?_
  clear h
  rintro n0 ⟨i1,l2⟩ h
  replace h:zCc J M uF (zCf J M uF n0) i1 l2=some r:=h
  unfold zCc at h
  refine zH<|zC<|zA (zf rfl rfl)<|zF<|zH ?_
  refine zX h rfl (fun b2 h => ?_) (fun b2 h => ?_)
  ·refine zP<|zH<|zQ<|zH<|zC<|zA (zB rfl) ?_
   refine zA (zD rfl)<|zF<|zH<|zC<|zA (zK Tryz.underlying55 rfl rfl Tryz.sizeOf53 rfl)<|zA (zN Tryz.isAgg53 rfl rfl rfl rfl) ?_
   refine zA (zB rfl)<|zM h fun b3 h=>zA (zT Tryz.underlying53 Tryz.sizeOf22 (fun _=>rfl) rfl rfl b3)<|zA (zU (o:=0) Tryz.isAgg22 rfl rfl)<|zA (zD rfl)<|zF ?_
   refine zt (r:=r) (fun (d1:List Int)=>mkE [(1,(li M)),(2,(ls cI uF)),(3,(AV.ptr 0 0)),(6,(AV.ptr 1 0)),(7,(AV.ptr 2 0)),(8,(li i1)),(9,(ls cI d1)),(17,(li (J.lists.length:Int))),(18,(li i1))]) (fun d1=>[.box 55 (zG J),.box 55 [(ls (cS cI) ([]:List (List Int)))],.box 55 [AV.osl 22 1 (List.map (cS cI) l2)]]) (fun d1=>zDG (zCf J M uF n0) i1 l2 d1) ?_ ?_
   ·
    refine zH<|zC<|zA (zB rfl)<|zA (zB rfl)<|zA (zAv rfl rfl)<|zF ?_
    refine zX h rfl (fun b7 h => ?_) (fun b7 h => ?_)
    ·refine zC<|zA (zB rfl)<|zA (zD rfl)<|zF ?_
     exact ⟨uF,z9 [0,1,2] rfl rfl (by kernel_rfl),h⟩
    refine zP ?_
    exact ⟨at_ J.lists i1,z9 [0,1,2] rfl rfl (by kernel_rfl),h⟩
   clear h
   intro d1 h
   unfold zDG at h
   refine zH<|zAT (zAd (k:=2) (o:=0) (t':=22) (sz:=1) (rows:=List.map (cS cI) l2) rfl rfl)<|zM h fun b4 h=>zM h fun b5 h => ?_
   refine zAl (n:=46) (m:=0) [.head 0 1,.head 0 1,.head 0 1,.head 0 0,.head 0 0,.tail 0,.head 1 1,.tail 1] [5,7] [AV.ptr 2 0,AV.hd 3,li i1,ls cI d1,(li (d1.length:Int)),AV.hd 4,(AV.ptr 3 (i1.toNat*1)),.any] [[.box 55 (zG J),.box 55 [(ls (cS cI) ([]:List (List Int)))],.box 55 [AV.hd 3],.vec 22 1 (List.map (cS cI) l2)],[.box 55 (zG J),.box 55 [(ls (cS cI) ([]:List (List Int)))],.box 55 [AV.hd 3],.vec 22 1 (List.map (cS cI) l2),.vec 3 1 (List.map cI (List.replicate (d1.length:Int).toNat 0))],[.box 55 (zG J),.box 55 [(ls (cS cI) ([]:List (List Int)))],.box 55 [AV.hd 3],.vopen 22 1 (List.map (cS cI) l2) i1.toNat [.hd 4],.vec 3 1 (List.map cI (List.replicate (d1.length:Int).toNat 0))]] (by kernel_rfl) (by kernel_rfl) ⟨⟨D1 fun e s p=>zK (k:=2) (o:=0) (off:=0) Tryz.underlying55 rfl rfl Tryz.sizeOf53 (s 7 rfl),D1 fun e s p=>zK (k:=2) (o:=0) (off:=0) Tryz.underlying55 rfl rfl Tryz.sizeOf53 (s 7 rfl)⟩,⟨D1 fun e s p=>zN (k:=2) (o:=0) Tryz.isAgg53 p.1 rfl rfl rfl,D1 fun e s p=>zN (k:=2) (o:=0) Tryz.isAgg53 p.1 rfl rfl rfl⟩,⟨D1 fun e s p=>zB (s 8 rfl),D1 fun e s p=>zB (s 8 rfl)⟩,D1 fun e s p=>zB (s 9 rfl),D1 fun e s p=>zV (f:=cI) (l:=d1) Tryz.underlying22 p.1,?_,D1 fun e s p=>zy (f:=(cS cI)) (l:=l2) (i:=i1) Tryz.underlying53 Tryz.sizeOf22 p.2.2.2.1 rfl p.2.2.2.2.1 b5,?_,trivial⟩ ?_
   ·
    intro e9 s9 p9
    refine zEa (f:=cI) (a:=(d1.length:Int)) (c:=(d1.length:Int)) (d0:=0) zE0 ⟨zAt.refl _,trivial⟩ rfl Tryz.underlying22 p9.2.1 p9.2.1 b4 ?_
    exact zF ⟨fun _=>rfl,rfl⟩
   ·
    intro e11 s11 p11
    refine zj (H':=[.box 55 (zG J),.box 55 [(ls (cS cI) ([]:List (List Int)))],.box 55 [AV.hd 3],.vopen 22 1 (List.map (cS cI) l2) i1.toNat [.hd 4],.vec 3 1 (List.map cI (List.replicate (d1.length:Int).toNat 0))]) (zNd (k:=3) (j:=4) (i:=i1.toNat) Tryz.sizeOf22 (by exact p11.1) rfl rfl (by rw [List.length_map]; exact (zBW b5).2) (by exact p11.2.2.2.2.2.2.2.1) rfl) ?_
    exact zF ⟨fun _=>rfl,rfl⟩
   intro e12 s12 hq1
   refine zAT (zBM (l:=[(1,(li M)),(2,(ls cI uF)),(3,(AV.ptr 0 0)),(6,(AV.ptr 1 0)),(7,(AV.ptr 2 0)),(8,(li i1)),(9,(ls cI d1)),(17,(li (J.lists.length:Int))),(18,(li i1))]) ⟨s12 1 rfl,s12 2 rfl,s12 3 rfl,s12 6 rfl,s12 7 rfl,s12 8 rfl,s12 9 rfl,s12 17 rfl,s12 18 rfl,trivial⟩)<|zC<|zA (zK (k:=2) (o:=0) (off:=0) Tryz.underlying55 rfl rfl Tryz.sizeOf53 rfl)<|zA (zN (k:=2) (o:=0) (a:=(AV.hd 3)) Tryz.isAgg53 rfl rfl rfl rfl)<|zA (zB (av:=(li i1)) rfl)<|zA (zMI (row:=[]) (i:=i1) Tryz.underlying53 Tryz.sizeOf22 rfl rfl rfl (by rw [List.length_map]; exact b5)) ?_
   refine zA (zMT (k:=3) (i:=i1.toNat) (a := .hd 4) Tryz.isAgg22 rfl rfl rfl rfl)<|zA (zB rfl)<|za (H':=[.box 55 (zG J),.box 55 [(ls (cS cI) ([]:List (List Int)))],.box 55 [AV.hd 3],.vopen 22 1 (List.map (cS cI) l2) i1.toNat [.hd 4],.vec 3 1 (List.map cI (zC7 (List.replicate (d1.length:Int).toNat 0) d1))]) (zLM (f:=cI) (k:=4) (l:=List.replicate (d1.length:Int).toNat 0) (l2:=d1) Tryz.underlying22 Tryz.sizeOf3 (fun _=>rfl) rfl rfl rfl)<|zF<|zC<|zM h fun b6 h => ?_
   refine zA (ze rfl rfl b6)<|zA (zB rfl)<|zF ?_
   exact ⟨((i1+1),(l2.set i1.toNat (zC7 (List.replicate (d1.length:Int).toNat 0) d1))),Rep.trans (zNT (k:=3) (j:=4) (f:=cI) (l:=l2) (l':=zC7 (List.replicate (d1.length:Int).toNat 0) d1) (fun _=>rfl) rfl rfl rfl) (Rep.trans (z7 (k:=2) (j:=3) (o:=0) rfl rfl rfl rfl) (z9 [0,1,2] (l:=[(1,(li M)),(2,(ls cI uF)),(3,(AV.ptr 0 0)),(6,(AV.ptr 1 0)),(7,(AV.ptr 2 0)),(17,(li (J.lists.length:Int))),(18,(li (i1+1)))]) rfl rfl (by kernel_rfl))),h⟩
  refine zw ?_
  exact ⟨l2,z9 [1,2] rfl rfl (by kernel_rfl),h⟩
 clear h
 intro l1 h
 unfold zFv at h
 refine zH<|zC<|zAA (zBl (k:=1) (o:=0) (rows':=List.map (cS cI) l1) rfl rfl (zAL (fun _=>rfl)))<|zA (zS (k:=1) (o:=0) (m:=1) Tryz.isAgg55 Tryz.sizeOf55 rfl rfl rfl rfl rfl)<|zj (H':=[.box 55 (zG (⟨l1⟩:zL)),.box 55 [(ls (cS cI) l1)]]) (zY (k:=0) (o:=0) (cs:=[(ls (cS cI) ([]:List (List Int)))]) (la:=(zG (⟨l1⟩:zL))) Tryz.sizeOf55 rfl rfl rfl rfl)<|zF ?_
 refine zd ?_
 cases h
 exact zu (zFM Tryz.isAgg55 Tryz.sizeOf55 rfl rfl rfl rfl)
theorem zM5 {A:zL} {D:Int} {G:List Int} {r:zL×Int} (h:zIy A D G=some r):PFn Tryz.prog 109 [(AV.agg (zG A)),li D,ls cI G] (AV.tup [(AV.agg (zG r.1)),li r.2]):=by
 refine zo Tryz.func109 rfl Tryz.ntmps109 Tryz.results109 rfl ?_
 unfold zIy at h
 refine zH<|zC<|za (H':=[.box 55 (zG A)]) (zv (t:=55) rfl)<|za (H':=[.box 55 (zG A),.box 55 [(ls (cS cI) ([]:List (List Int)))]]) zv1<|zA (zD rfl)<|zF ?_
 refine zH<|zH<|zC<|zA (zS (k:=0) (o:=0) (m:=1) Tryz.isAgg55 Tryz.sizeOf55 rfl rfl rfl rfl rfl)<|zA (zB rfl)<|zR h fun x1 w1 h => ?_
 refine zh Tryz.func111 rfl (by kernel_rfl) (.fn 111) rfl rfl (zHA w1) rfl<|zA (zD rfl)<|zF<|zH<|zC<|zA (zB rfl) ?_
 refine zA (zz rfl rfl)<|zF ?_
 refine zX h rfl (fun b1 h => ?_) (fun b1 h => ?_)
 ·refine zH<|zC<|zA zv2<|zA (zB rfl)<|zj (H':=[.box 55 (zG A),.box 55 (zG (⟨([]:List (List Int))⟩:zL))]) (zY (k:=1) (o:=0) (cs:=[(ls (cS cI) ([]:List (List Int)))]) (la:=(zG (⟨([]:List (List Int))⟩:zL))) Tryz.sizeOf55 rfl rfl rfl rfl)<|zA (zD rfl) ?_
  refine zF<|zd ?_
  cases h
  exact zBy (zFM Tryz.isAgg55 Tryz.sizeOf55 rfl rfl rfl rfl) (zAH rfl rfl) rfl
 refine zP<|zH<|zC<|zA (zS (k:=0) (o:=0) (m:=1) Tryz.isAgg55 Tryz.sizeOf55 rfl rfl rfl rfl rfl)<|zR h fun x2 w2 h=>zNS (es:=mI Value.bool x2) (la:=[(AV.agg (zG A))]) (la':=[(AV.agg (zG A))]) (S:=[]) Tryz.func89 rfl (by kernel_rfl) (.fn 89) rfl ⟨zAs.nr rfl,trivial⟩ (zIc w2) ?_
 refine zA (zD rfl)<|zF ?_
 refine zt (r:=r) (fun (_:Unit)=>mkE [(1,(li D)),(2,(ls cI G)),(3,(AV.ptr 0 0)),(6,(AV.ptr 1 0))]) (fun _=>[.box 55 (zG A),.box 55 [(ls (cS cI) ([]:List (List Int)))]]) (fun _=>zIZ A D G) ?_ ?_
 ·
  refine zH<|zC<|zA (zB rfl)<|zA (zV Tryz.underlying22 rfl)<|zA (zB rfl)<|zF ?_
  refine zQ<|zq (σ:=Int×(List (Int×Bool))) (fun (i2,l3)=>mkE [(1,(li D)),(2,(ls cI G)),(3,(AV.ptr 0 0)),(6,(AV.ptr 1 0)),(9,(AV.hd 2)),(23,(ls cI G)),(24,(li (G.length:Int))),(25,(li i2))]) (fun (i2,l3)=>[.box 55 (zG A),.box 55 [(ls (cS cI) ([]:List (List Int)))],.map (mI Value.bool l3)]) (fun n1 (i2,l3)=>zGY A D G n1 i2 l3) (0,x2) h (fun _=>rfl) (z9 [0,1,2] rfl rfl (by kernel_rfl)) ?_
  clear h
  rintro n1 ⟨i2,l3⟩ h
  replace h:zIe A D G (zGY A D G n1) i2 l3=some r:=h
  unfold zIe at h
  refine zH<|zC<|zA (zf rfl rfl)<|zF<|zH ?_
  refine zX h rfl (fun b10 h => ?_) (fun b10 h => ?_)
  ·refine zP<|zH<|zQ<|zH<|zC<|zM h fun b11 h => ?_
   refine zA (zT Tryz.underlying22 Tryz.sizeOf3 (fun _=>rfl) rfl rfl b11)<|zA (zU (o:=0) Tryz.isAgg3 rfl rfl)<|zA (zD rfl)<|zF<|zH<|zH ?_
   refine zC<|zA (zB rfl)<|zR h fun x5 w5 h=>zh Tryz.func88 rfl (by kernel_rfl) (.fn 88) rfl rfl (zHs w5) rfl<|zA (zBE (t:=x5) rfl)<|zF ?_
   refine zX h rfl (fun b12 h => ?_) (fun b12 h => ?_)
   ·refine zH<|zC<|zA zv2<|zj (H':=[.box 55 (zG A),.box 55 (zG (⟨([]:List (List Int))⟩:zL)),.map (mI Value.bool l3)]) (zY (k:=1) (o:=0) (cs:=[(ls (cS cI) ([]:List (List Int)))]) (la:=(zG (⟨([]:List (List Int))⟩:zL))) Tryz.sizeOf55 rfl rfl rfl rfl)<|zA (zD rfl)<|zF ?_
    refine zd ?_
    cases h
    exact zBy (zFM Tryz.isAgg55 Tryz.sizeOf55 rfl rfl rfl rfl) (zAH rfl rfl) rfl
   refine zP<|zH<|zH<|zC<|zA (zB rfl)<|zA (zB rfl) ?_
   refine zA (zNp (k:=2) (g:=Value.bool) (q:=at_ G i2) (l:=l3) (dflt:=false) (a:=(AV.lit (.bool (zM0 false l3 (at_ G i2))))) Tryz.underlying58 Tryz.underlying3 Tryz.zeroValue4 rfl rfl rfl rfl)<|zF ?_
   refine zX h rfl (fun b13 h => ?_) (fun b13 h => ?_)
   ·refine zH<|zC<|zA zv2<|zj (H':=[.box 55 (zG A),.box 55 (zG (⟨([]:List (List Int))⟩:zL)),.map (mI Value.bool l3)]) (zY (k:=1) (o:=0) (cs:=[(ls (cS cI) ([]:List (List Int)))]) (la:=(zG (⟨([]:List (List Int))⟩:zL))) Tryz.sizeOf55 rfl rfl rfl rfl)<|zA (zD rfl)<|zF ?_
    refine zd ?_
    cases h
    exact zBy (zFM Tryz.isAgg55 Tryz.sizeOf55 rfl rfl rfl rfl) (zAH rfl rfl) rfl
   refine zP<|zC<|zA (zB rfl)<|zA (zB rfl)<|zj (H':=[.box 55 (zG A),.box 55 [(ls (cS cI) ([]:List (List Int)))],.map (mI Value.bool (zKg l3 (at_ G i2) true))]) (zNn (k:=2) (g:=Value.bool) (q:=at_ G i2) (l:=l3) (v:=true) Tryz.underlying58 Tryz.underlying3 rfl rfl rfl rfl)<|zF ?_
   refine zC<|zM h fun b14 h=>zA (ze rfl rfl b14)<|zA (zB rfl)<|zF ?_
   exact ⟨((i2+1),(zKg l3 (at_ G i2) true)),z9 [0,1,2] rfl rfl (by kernel_rfl),h⟩
  refine zw ?_
  exact ⟨(),z9 [0,1] rfl rfl (by kernel_rfl),h⟩
 clear h
 intro _ h
 unfold zIZ at h
 refine zH<|zC<|zA (zK Tryz.underlying55 rfl rfl Tryz.sizeOf53 rfl)<|zA (zN Tryz.isAgg53 rfl rfl rfl rfl)<|zA (zB rfl)<|zM h fun b2 h => ?_
 refine zA (zT Tryz.underlying53 Tryz.sizeOf22 (fun _=>rfl) rfl rfl b2)<|zA (zU (o:=0) Tryz.isAgg22 rfl rfl)<|zA (zV Tryz.underlying22 rfl)<|zM h fun b3 h=>zEa (f:=cI) (a:=((at_ A.lists D).length:Int)) (c:=((at_ A.lists D).length:Int)) (d0:=0) zE0 ⟨zAt.refl _,trivial⟩ rfl Tryz.underlying22 rfl rfl b3<|zA (zD rfl) ?_
 refine zF<|zH<|zC<|zA (zB rfl)<|zA (zK Tryz.underlying55 rfl rfl Tryz.sizeOf53 rfl)<|zA (zN Tryz.isAgg53 rfl rfl rfl rfl) ?_
 refine zA (zB rfl)<|zA (zT Tryz.underlying53 Tryz.sizeOf22 (fun _=>rfl) rfl rfl b2)<|zA (zU (o:=0) Tryz.isAgg22 rfl rfl)<|za (H':=[.box 55 (zG A),.box 55 [(ls (cS cI) ([]:List (List Int)))],.vec 3 1 (List.map cI (zC7 (List.replicate ((at_ A.lists D).length:Int).toNat 0) (at_ A.lists D)))]) (zLM (f:=cI) (k:=2) (l:=List.replicate ((at_ A.lists D).length:Int).toNat 0) (l2:=at_ A.lists D) Tryz.underlying22 Tryz.sizeOf3 (fun _=>rfl) rfl rfl rfl)<|zF ?_
 refine zt (r:=r) (fun (l1:List Int)=>mkE [(1,(li D)),(3,(AV.ptr 0 0)),(6,(AV.ptr 1 0)),(12,(AV.hd 2))]) (fun l1=>[.box 55 (zG A),.box 55 [(ls (cS cI) ([]:List (List Int)))],.vec 3 1 (List.map cI l1)]) (fun l1=>zIa A D l1) ?_ ?_
 ·
  refine zH<|zC<|zA (zB rfl)<|zA (zV Tryz.underlying22 rfl)<|zA (zB rfl)<|zF ?_
  refine zQ<|zq (σ:=Int×(List Int)) (fun (i1,l2)=>mkE [(1,(li D)),(2,(ls cI G)),(3,(AV.ptr 0 0)),(6,(AV.ptr 1 0)),(12,(AV.hd 2)),(55,(li (G.length:Int))),(56,(li i1))]) (fun (i1,l2)=>[.box 55 (zG A),.box 55 [(ls (cS cI) ([]:List (List Int)))],.vec 3 1 (List.map cI l2)]) (fun n0 (i1,l2)=>zGd A D G n0 i1 l2) (0,(zC7 (List.replicate ((at_ A.lists D).length:Int).toNat 0) (at_ A.lists D))) h (fun _=>rfl) (z9 [0,1,2] rfl rfl (by kernel_rfl)) ?_
  clear h
  rintro n0 ⟨i1,l2⟩ h
  replace h:zIb A D G (zGd A D G n0) i1 l2=some r:=h
  unfold zIb at h
  refine zH<|zC<|zA (zf rfl rfl)<|zF<|zH ?_
  refine zX h rfl (fun b4 h => ?_) (fun b4 h => ?_)
  ·refine zP<|zH<|zQ<|zH<|zC<|zA (zB rfl) ?_
   refine zA (zD rfl)<|zF<|zC<|zA (zB rfl)<|zA (zB rfl)<|zA (zB rfl) ?_
   refine zA (zV Tryz.underlying22 rfl)<|zM h fun b5 h=>zA (zBS rfl rfl b5)<|zA (zB rfl)<|zM h fun b6 h=>zA (zBS rfl rfl b6) ?_
   refine zM h fun b7 h=>zA (zT Tryz.underlying22 Tryz.sizeOf3 (fun _=>rfl) rfl rfl b7)<|zA (zU (o:=0) Tryz.isAgg3 rfl rfl)<|zEP (a:=(li (at_ G (((G.length:Int) - 1) - i1)))) zE0 Tryz.underlying22 rfl rfl rfl rfl<|zM h fun b8 h=>zBp (f:=cI) (k:=2) (j:=3) (l:=l2) (l':=[at_ G (((G.length:Int) - 1) - i1)]) zE0 (fun _=>rfl) Tryz.underlying22 rfl rfl rfl rfl b8 ?_
   refine zA (zD rfl)<|zF<|zC<|zM h fun b9 h=>zA (ze rfl rfl b9)<|zA (zB rfl) ?_
   refine zF ?_
   exact ⟨((i1+1),(l2++[at_ G (((G.length:Int) - 1) - i1)])),z9 [0,1,4] rfl rfl (by kernel_rfl),h⟩
  refine zw ?_
  exact ⟨l2,z9 [0,1,2] rfl rfl (by kernel_rfl),h⟩
 clear h
 intro l1 h
 unfold zIa at h
 refine zH<|zC<|zA (zS (k:=0) (o:=0) (m:=1) Tryz.isAgg55 Tryz.sizeOf55 rfl rfl rfl rfl rfl)<|zA (zB rfl)<|zA (zB rfl)<|zR h fun x3 w3 h => ?_
 refine zAA (zDR (j:=2) (ds:=[12,73]) (rows':=List.map cI l1) rfl (zAL (fun _=>rfl)) ⟨rfl,rfl,trivial⟩)<|zR h fun x4 w4 h=>zh Tryz.func112 rfl (by kernel_rfl) (.fn 112) rfl rfl (zEb w4) rfl<|zj (H':=[.box 55 (zG A),.box 55 (zG x4),.dead]) (zY (k:=1) (o:=0) (cs:=[(ls (cS cI) ([]:List (List Int)))]) (la:=(zG x4)) Tryz.sizeOf55 rfl rfl rfl rfl)<|zA (zD rfl)<|zF ?_
 refine zd ?_
 cases h
 exact zBy (zFM Tryz.isAgg55 Tryz.sizeOf55 rfl rfl rfl rfl) (zAH rfl rfl) rfl
theorem zJP {A:zJ} {D:Int} {G:Int} {r:zJ×Bool} (h:zGb A D G=some r):AFn Tryz.prog 55 [AV.ptr 0 0,li D,li G] [.box 26 ([ls cI A.nodes]++([li A.batch]++([li A.high]++([AV.osl 51 10 (List.map zO A.zones)]++([AV.osl 55 1 (List.map zG A.caches)]++[])))))] (AV.lit (.bool r.2)) [.box 26 ([ls cI r.1.nodes]++([li r.1.batch]++([li r.1.high]++([AV.osl 51 10 (List.map zO r.1.zones)]++([AV.osl 55 1 (List.map zG r.1.caches)]++[])))))]:=by
 refine zEX Tryz.func55 rfl Tryz.ntmps55 Tryz.results55 rfl ?_
 unfold zGb at h
 refine zH<|zC<|zA (zD rfl)<|zF<|zH<|zC ?_
 refine zA (zD rfl)<|zF ?_
 refine zt (r:=r) (fun ((l1,l2):(List zi)×(List Int))=>mkE [(0,(AV.ptr 0 0)),(1,(li D)),(2,(li G)),(7,(AV.hd 1))]) (fun (l1,l2)=>[.box 26 [ls cI A.nodes,li A.batch,li A.high,AV.osl 51 10 (List.map zO l1),AV.osl 55 1 (List.map zG A.caches)],.vec 3 1 (List.map cI l2)]) (fun (l1,l2)=>zEm A D G l1 l2) ?_ ?_
 ·
  refine zH<|zC<|zA (zB rfl)<|zA (zAB rfl)<|zA (zK Tryz.underlying26 rfl rfl Tryz.sizeOf3 rfl)<|zA (zN Tryz.isAgg3 rfl rfl rfl rfl) ?_
  refine zA (zB rfl)<|zF<|zQ<|zq (σ:=Int×(List zi)×(List Int)) (fun (i1,l4,l5)=>mkE [(0,(AV.ptr 0 0)),(1,(li D)),(2,(li G)),(7,(AV.hd 1)),(16,(li A.batch)),(17,(li i1))]) (fun (i1,l4,l5)=>[.box 26 [ls cI A.nodes,li A.batch,li A.high,AV.osl 51 10 (List.map zO l4),AV.osl 55 1 (List.map zG A.caches)],.vec 3 1 (List.map cI l5)]) (fun n0 (i1,l4,l5)=>zEk A D G n0 i1 l4 l5) (0,A.zones,[]) h (fun _=>rfl) (Rep.trans (zKr (d:=7) (el:=3) (sz:=1) rfl) (z9 [0,1] (l:=[(0,(AV.ptr 0 0)),(1,(li D)),(2,(li G)),(7,(AV.hd 1)),(16,(li A.batch)),(17,(li 0))]) rfl rfl (by kernel_rfl))) ?_
  clear h
  rintro n0 ⟨i1,l4,l5⟩ h
  replace h:zGk A D G (zEk A D G n0) i1 l4 l5=some r:=h
  unfold zGk at h
  refine zH<|zC<|zA (zf rfl rfl)<|zF<|zH ?_
  refine zX h rfl (fun b3 h => ?_) (fun b3 h => ?_)
  ·refine zP<|zH<|zQ<|zH<|zC<|zA (zB rfl) ?_
   refine zA (zAB rfl)<|zA (zK Tryz.underlying26 rfl rfl Tryz.sizeOf23 rfl)<|zAA (zAd (k:=0) (o:=3) (t':=51) (sz:=10) (rows:=List.map zO l4) rfl rfl)<|zA (zN Tryz.isAgg23 rfl rfl rfl rfl)<|zA (zB rfl)<|zM h fun b4 h => ?_
   refine zA (zy (f:=zO) (l:=l4) (i:=G) Tryz.underlying23 Tryz.sizeOf51 rfl rfl rfl b4)<|zA (zBn (f:=zO) (l:=l4) (i:=G) (c:=0) (q:=10) (la:=(zO (at_ l4 G))) Tryz.isAgg51 Tryz.sizeOf51 rfl rfl (by first | rfl | omega) b4 rfl rfl rfl)<|zR h fun x3 w3 h=>zh Tryz.func64 rfl (by kernel_rfl) (.fn 64) rfl rfl (zLc w3) rfl<|zA (zB rfl)<|zA (zb rfl rfl) ?_
   refine zA (zb rfl rfl)<|zA (zb rfl rfl)<|za (H':=[.box 26 [ls cI A.nodes,li A.batch,li A.high,AV.hd 2,AV.osl 55 1 (List.map zG A.caches)],.vec 3 1 (List.map cI l5),.vec 51 10 (List.map zO l4),.box 51 (zO ⟨0,0,0,0,0,(List.replicate 5 ([]:List Int))⟩)]) zv0<|zj (H':=[.box 26 [ls cI A.nodes,li A.batch,li A.high,AV.hd 2,AV.osl 55 1 (List.map zG A.caches)],.vec 3 1 (List.map cI l5),.vec 51 10 (List.map zO l4),.box 51 (zO x3.1)]) (zY (k:=3) (o:=0) (cs:=(zO ⟨0,0,0,0,0,(List.replicate 5 ([]:List Int))⟩)) (la:=(zO x3.1)) Tryz.sizeOf51 rfl rfl rfl rfl)<|zA (zD rfl)<|zA (zD rfl) ?_
   refine zF<|zH<|zH<|zC<|zA (zB rfl)<|zA (zz rfl rfl) ?_
   refine zF ?_
   refine zX h rfl (fun b5 h => ?_) (fun b5 h => ?_)
   ·refine zw ?_
    exact ⟨(l4,l5),Rep.trans (z7 (k:=0) (j:=2) (o:=3) rfl rfl rfl rfl) (z9 [0,1] (l:=[(0,(AV.ptr 0 0)),(1,(li D)),(2,(li G)),(7,(AV.hd 1))]) rfl rfl (by kernel_rfl)),h⟩
   refine zP<|zH ?_
   refine zAl (n:=70) (m:=1) [.head 0 0,.head 0 0,.head 0 0,.head 0 0,.head 0 0,.head 0 0,.head 0 0,.tail 0] [7] [AV.ptr 0 0,AV.ptr 0 0,AV.ptr 0 3,AV.hd 2,li G,(AV.agg (zO x3.1)),(AV.ptr 2 (G.toNat*10)),.any] [[.box 26 [ls cI A.nodes,li A.batch,li A.high,AV.hd 2,AV.osl 55 1 (List.map zG A.caches)],.vec 3 1 (List.map cI l5),.vec 51 10 (List.map zO l4),.box 51 (zO x3.1)],[.box 26 [ls cI A.nodes,li A.batch,li A.high,AV.hd 2,AV.osl 55 1 (List.map zG A.caches)],.vec 3 1 (List.map cI l5),.vec 51 10 (List.map zO (l4.set G.toNat x3.1)),.box 51 (zO x3.1)]] (by kernel_rfl) (by kernel_rfl) ⟨D1 fun e s p=>zB (s 0 rfl),D1 fun e s p=>zAB p.1,D1 fun e s p=>zK (k:=0) (o:=0) (off:=3) Tryz.underlying26 rfl rfl Tryz.sizeOf23 p.1,D1 fun e s p=>zN (k:=0) (o:=3) Tryz.isAgg23 p.1 rfl rfl rfl,D1 fun e s p=>zB (s 2 rfl),D1 fun e s p=>zS (k:=3) (o:=0) (m:=10) Tryz.isAgg51 Tryz.sizeOf51 (s 8 rfl) rfl rfl rfl rfl,D1 fun e s p=>zy (f:=zO) (l:=l4) (i:=G) Tryz.underlying23 Tryz.sizeOf51 p.2.2.2.2.2.1 rfl p.2.2.2.2.2.2.1 b4,?_,trivial⟩ ?_
   ·
    intro e17 s17 p16
    refine zj (H':=[.box 26 [ls cI A.nodes,li A.batch,li A.high,AV.hd 2,AV.osl 55 1 (List.map zG A.caches)],.vec 3 1 (List.map cI l5),.vec 51 10 (List.map zO (l4.set G.toNat x3.1)),.box 51 (zO x3.1)]) (zBR (k:=2) (o:=(G.toNat*10)) (f:=zO) (l:=l4) (i:=G) (z:=x3.1) Tryz.sizeOf51 (fun _=>rfl) (by exact p16.1) rfl (by first | rfl | omega) b4 (by exact p16.2.2.2.2.2.2.2.1) rfl) ?_
    exact zF ⟨fun _=>rfl,rfl⟩
   intro e18 s18 hq2
   refine zAT (zBM (l:=[(0,(AV.ptr 0 0)),(1,(li D)),(2,(li G)),(7,(AV.hd 1)),(9,(li x3.2.1)),(16,(li A.batch)),(17,(li i1))]) ⟨s18 0 rfl,s18 1 rfl,s18 2 rfl,s18 7 rfl,s18 9 rfl,s18 16 rfl,s18 17 rfl,trivial⟩)<|zC<|zA (zB (av:=(AV.hd 1)) rfl)<|zA (zB (av:=(li x3.2.1)) rfl)<|zEP (a:=(li x3.2.1)) zE0 Tryz.underlying22 rfl rfl rfl rfl<|zM h fun b6 h => ?_
   refine zBp (f:=cI) (k:=1) (j:=4) (l:=l5) (l':=[x3.2.1]) zE0 (fun _=>rfl) Tryz.underlying22 rfl rfl rfl rfl b6<|zA (zD rfl)<|zF<|zC<|zM h fun b7 h=>zA (ze rfl rfl b7) ?_
   refine zA (zB rfl)<|zF ?_
   exact ⟨((i1+1),l4.set G.toNat x3.1,(l5++[x3.2.1])),Rep.trans (z7 (k:=0) (j:=2) (o:=3) rfl rfl rfl rfl) (z9 [0,5] (l:=[(0,(AV.ptr 0 0)),(1,(li D)),(2,(li G)),(7,(AV.hd 1)),(16,(li A.batch)),(17,(li (i1+1)))]) rfl rfl (by kernel_rfl)),h⟩
  refine zw ?_
  exact ⟨(l4,l5),z9 [0,1] rfl rfl (by kernel_rfl),h⟩
 clear h
 rintro ⟨l1,l2⟩ h
 unfold zEm at h
 refine zt (r:=r) (fun (l3:List zL)=>mkE [(7,(ls cI l2))]) (fun l3=>[.box 26 [ls cI A.nodes,li A.batch,li A.high,AV.osl 51 10 (List.map zO l1),AV.osl 55 1 (List.map zG l3)]]) (fun l3=>zEp A l1 l2 l3) ?_ ?_
 ·
  refine zH<|zC<|zA (zB rfl)<|zA (zAB rfl)<|zA (zK Tryz.underlying26 rfl rfl Tryz.sizeOf24 rfl)<|zAA (zAd (k:=0) (o:=4) (t':=55) (sz:=1) (rows:=List.map zG A.caches) rfl rfl) ?_
  refine zA (zN Tryz.isAgg24 rfl rfl rfl rfl)<|zA (zB rfl)<|zM h fun b1 h=>zA (zy (f:=zG) (l:=A.caches) (i:=D) Tryz.underlying24 Tryz.sizeOf55 rfl rfl rfl b1)<|zA (zBn (f:=zG) (l:=A.caches) (i:=D) (c:=0) (q:=1) (la:=(zG (at_ A.caches D))) Tryz.isAgg55 Tryz.sizeOf55 rfl rfl (by first | rfl | omega) b1 rfl rfl rfl)<|zA (zB rfl) ?_
  refine zA (zB rfl)<|zR h fun x1 w1 h=>zAA (zDR (j:=1) (ds:=[7,54]) (rows':=List.map cI l2) rfl (zAL (fun _=>rfl)) ⟨rfl,rfl,trivial⟩)<|zR h fun x2 w2 h=>zh Tryz.func109 rfl (by kernel_rfl) (.fn 109) rfl rfl (zM5 w2) rfl<|zA (zB rfl) ?_
  refine zA (zb rfl rfl)<|zA (zb rfl rfl)<|za (H':=[.box 26 [ls cI A.nodes,li A.batch,li A.high,AV.osl 51 10 (List.map zO l1),AV.hd 2],.dead,.vec 55 1 (List.map zG A.caches),.box 55 [(ls (cS cI) ([]:List (List Int)))]]) zv1<|zj (H':=[.box 26 [ls cI A.nodes,li A.batch,li A.high,AV.osl 51 10 (List.map zO l1),AV.hd 2],.dead,.vec 55 1 (List.map zG A.caches),.box 55 (zG x2.1)]) (zY (k:=3) (o:=0) (cs:=[(ls (cS cI) ([]:List (List Int)))]) (la:=(zG x2.1)) Tryz.sizeOf55 rfl rfl rfl rfl)<|zA (zD rfl)<|zF ?_
  refine zH<|zC<|zA (zB rfl)<|zA (zAv rfl rfl)<|zF ?_
  refine zX h rfl (fun b2 h => ?_) (fun b2 h => ?_)
  ·refine zAl (n:=70) (m:=1) [.head 0 0,.head 0 0,.head 0 0,.head 0 0,.head 0 0,.head 0 0,.head 0 0,.tail 0] [7] [AV.ptr 0 0,AV.ptr 0 0,AV.ptr 0 4,AV.hd 2,li D,(AV.agg (zG x2.1)),(AV.ptr 2 (D.toNat*1)),.any] [[.box 26 [ls cI A.nodes,li A.batch,li A.high,AV.osl 51 10 (List.map zO l1),AV.hd 2],.dead,.vec 55 1 (List.map zG A.caches),.box 55 (zG x2.1)],[.box 26 [ls cI A.nodes,li A.batch,li A.high,AV.osl 51 10 (List.map zO l1),AV.hd 2],.dead,.vec 55 1 (List.map zG (A.caches.set D.toNat x2.1)),.box 55 (zG x2.1)]] (by kernel_rfl) (by kernel_rfl) ⟨D1 fun e s p=>zB (s 0 rfl),D1 fun e s p=>zAB p.1,D1 fun e s p=>zK (k:=0) (o:=0) (off:=4) Tryz.underlying26 rfl rfl Tryz.sizeOf24 p.1,D1 fun e s p=>zN (k:=0) (o:=4) Tryz.isAgg24 p.1 rfl rfl rfl,D1 fun e s p=>zB (s 1 rfl),D1 fun e s p=>zS (k:=3) (o:=0) (m:=1) Tryz.isAgg55 Tryz.sizeOf55 (s 11 rfl) rfl rfl rfl rfl,D1 fun e s p=>zy (f:=zG) (l:=A.caches) (i:=D) Tryz.underlying24 Tryz.sizeOf55 p.2.2.2.2.2.1 rfl p.2.2.2.2.2.2.1 b1,?_,trivial⟩ ?_
   ·
    intro e8 s8 p8
    refine zj (H':=[.box 26 [ls cI A.nodes,li A.batch,li A.high,AV.osl 51 10 (List.map zO l1),AV.hd 2],.dead,.vec 55 1 (List.map zG (A.caches.set D.toNat x2.1)),.box 55 (zG x2.1)]) (zBR (k:=2) (o:=(D.toNat*1)) (f:=zG) (l:=A.caches) (i:=D) (z:=x2.1) Tryz.sizeOf55 (fun _=>rfl) (by exact p8.1) rfl (by first | rfl | omega) b1 (by exact p8.2.2.2.2.2.2.2.1) rfl) ?_
    exact zF ⟨fun _=>rfl,rfl⟩
   intro e9 s9 hq1
   exact ⟨A.caches.set D.toNat x2.1,Rep.trans (zBM (l:=[(7,(ls cI l2))]) ⟨s9 7 rfl,trivial⟩) (Rep.trans (z7 (k:=0) (j:=2) (o:=4) (cs:=[ls cI A.nodes,li A.batch,li A.high,AV.osl 51 10 (List.map zO l1),AV.hd 2]) rfl rfl rfl rfl) (z9 [0] (l:=[(7,(ls cI l2))]) rfl rfl (by kernel_rfl))),h⟩
  refine zP ?_
  exact ⟨A.caches,Rep.trans (z7 (k:=0) (j:=2) (o:=4) rfl rfl rfl rfl) (z9 [0] (l:=[(7,(ls cI l2))]) rfl rfl (by kernel_rfl)),h⟩
 clear h
 intro l3 h
 unfold zEp at h
 refine zH<|zC<|zA (zB rfl)<|zA (zV Tryz.underlying22 rfl)<|zA (zAh rfl rfl)<|zA (zD rfl) ?_
 refine zF<|zd ?_
 cases h
 exact ⟨mkE [(6,(AV.lit (.bool (decide (0<(l2.length:Int))))))],[.box 26 [ls cI A.nodes,li A.batch,li A.high,AV.osl 51 10 (List.map zO l1),AV.osl 55 1 (List.map zG l3)]],z9 [0] rfl rfl (by kernel_rfl),zUM rfl rfl⟩
theorem zNY {J:zL} {M:Int} {r:zL×(List Int)×Int} (h:zIS J M=some r):PFn Tryz.prog 110 [(AV.agg (zG J)),li M] (AV.tup [(AV.agg (zG r.1)),ls cI r.2.1,li r.2.2]):=by
 refine zo Tryz.func110 rfl Tryz.ntmps110 Tryz.results110 rfl ?_
 unfold zIS at h
 refine zH<|zC<|za (H':=[.box 55 (zG J)]) (zv (t:=55) rfl)<|za (H':=[.box 55 (zG J),.box 55 [(ls (cS cI) ([]:List (List Int)))]]) zv1<|zA (zD rfl)<|zA (zD rfl) ?_
 refine zF<|zH<|zH<|zC<|zA (zS (k:=0) (o:=0) (m:=1) Tryz.isAgg55 Tryz.sizeOf55 rfl rfl rfl rfl rfl)<|zA (zB rfl) ?_
 refine zR h fun x1 w1 h=>zh Tryz.func111 rfl (by kernel_rfl) (.fn 111) rfl rfl (zHA w1) rfl<|zA (zD rfl)<|zF<|zH<|zC ?_
 refine zA (zB rfl)<|zA (zz rfl rfl)<|zF ?_
 refine zX h rfl (fun b1 h => ?_) (fun b1 h => ?_)
 ·refine zH<|zC<|zA zv2<|zA (zB rfl)<|zj (H':=[.box 55 (zG J),.box 55 (zG (⟨([]:List (List Int))⟩:zL))]) (zY (k:=1) (o:=0) (cs:=[(ls (cS cI) ([]:List (List Int)))]) (la:=(zG (⟨([]:List (List Int))⟩:zL))) Tryz.sizeOf55 rfl rfl rfl rfl)<|zA (zD rfl) ?_
  refine zA (zD rfl)<|zF<|zd ?_
  cases h
  exact zCX (zFM Tryz.isAgg55 Tryz.sizeOf55 rfl rfl rfl rfl) (zJE (zAH rfl rfl) zAt.nils) (zAH rfl rfl) rfl
 refine zP<|zH<|zC<|zA (zK Tryz.underlying55 rfl rfl Tryz.sizeOf53 rfl)<|zA (zN Tryz.isAgg53 rfl rfl rfl rfl)<|zA (zB rfl) ?_
 refine zM h fun b2 h=>zA (zT Tryz.underlying53 Tryz.sizeOf22 (fun _=>rfl) rfl rfl b2)<|zA (zU (o:=0) Tryz.isAgg22 rfl rfl)<|zA (zV Tryz.underlying22 rfl)<|zM h fun b3 h=>zEa (f:=cI) (a:=((at_ J.lists M).length:Int)) (c:=((at_ J.lists M).length:Int)) (d0:=0) zE0 ⟨zAt.refl _,trivial⟩ rfl Tryz.underlying22 rfl rfl b3 ?_
 refine zA (zD rfl)<|zF<|zH<|zC<|zA (zB rfl)<|zA (zK Tryz.underlying55 rfl rfl Tryz.sizeOf53 rfl) ?_
 refine zA (zN Tryz.isAgg53 rfl rfl rfl rfl)<|zA (zB rfl)<|zA (zT Tryz.underlying53 Tryz.sizeOf22 (fun _=>rfl) rfl rfl b2)<|zA (zU (o:=0) Tryz.isAgg22 rfl rfl)<|za (H':=[.box 55 (zG J),.box 55 [(ls (cS cI) ([]:List (List Int)))],.vec 3 1 (List.map cI (zC7 (List.replicate ((at_ J.lists M).length:Int).toNat 0) (at_ J.lists M)))]) (zLM (f:=cI) (k:=2) (l:=List.replicate ((at_ J.lists M).length:Int).toNat 0) (l2:=at_ J.lists M) Tryz.underlying22 Tryz.sizeOf3 (fun _=>rfl) rfl rfl rfl)<|zF ?_
 refine zH<|zC<|zA (zS (k:=0) (o:=0) (m:=1) Tryz.isAgg55 Tryz.sizeOf55 rfl rfl rfl rfl rfl)<|zA (zB rfl)<|zR h fun x2 w2 h=>zA2 (r':=(AV.agg (zG x2))) (la:=[(AV.agg (zG J)),li M,(AV.lit (.slice none 0 0))]) (la':=[(AV.agg (zG J)),li M,(ls cI [])]) (r:=(AV.agg (zG x2))) (S:=[]) Tryz.func112 rfl (by kernel_rfl) (.fn 112) rfl ⟨zAs.nr rfl,zAs.nr rfl,zAs.sub zAt.nils rfl,trivial⟩ (zEb w2) (.inl rfl) rfl ?_
 refine zA (zB rfl)<|zj (H':=[.box 55 (zG J),.box 55 (zG x2),.vec 3 1 (List.map cI (zC7 (List.replicate ((at_ J.lists M).length:Int).toNat 0) (at_ J.lists M)))]) (zY (k:=1) (o:=0) (cs:=[(ls (cS cI) ([]:List (List Int)))]) (la:=(zG x2)) Tryz.sizeOf55 rfl rfl rfl rfl)<|zA (zD rfl)<|zA (zD rfl)<|zF<|zAT (zDR (j:=2) (ds:=[5,8,22,23,33]) (rows':=List.map cI (zC7 (List.replicate ((at_ J.lists M).length:Int).toNat 0) (at_ J.lists M))) rfl (zAL (fun _=>rfl)) ⟨rfl,rfl,rfl,rfl,rfl,trivial⟩) ?_
 refine zd ?_
 cases h
 exact zCX (zFM Tryz.isAgg55 Tryz.sizeOf55 rfl rfl rfl rfl) (zAH rfl rfl) (zAH rfl rfl) rfl
theorem zPG {C:zi} {U:Int} {V:Int} {r:zi×Int} (h:zI0 C U V=some r):PFn Tryz.prog 71 [(AV.agg (zO C)),li U,li V] (AV.tup [(AV.agg (zO r.1)),li r.2]):=by
 refine zo Tryz.func71 rfl Tryz.ntmps71 Tryz.results71 rfl ?_
 unfold zI0 at h
 refine zH<|zC<|za (H':=[.box 51 (zO C)]) (zv (t:=51) rfl)<|za (H':=[.box 51 (zO C),.box 51 ([li 0]++([li 0]++([li 0]++([li 0]++([li 0]++((cA 5 (eS cI) ([]:List Int) (List.replicate 5 ([]:List Int)))++[]))))))]) zv0<|zA (zD rfl)<|zF ?_
 refine zH<|zH<|zC<|zA (zS (k:=0) (o:=0) (m:=10) Tryz.isAgg51 Tryz.sizeOf51 rfl rfl rfl rfl rfl)<|zR h fun x1 w1 h=>zh Tryz.func42 rfl (by kernel_rfl) (.fn 42) rfl rfl (zFA w1) rfl ?_
 refine zA (zD rfl)<|zF<|zH<|zC<|zA (zB rfl)<|zA (zz rfl rfl) ?_
 refine zF ?_
 refine zX h rfl (fun b1 h => ?_) (fun b1 h => ?_)
 ·refine zH<|zC<|zA zv9<|zA (zB rfl)<|zj (H':=[.box 51 (zO C),.box 51 (zO (⟨0,0,0,0,0,(List.replicate 5 ([]:List Int))⟩:zi))]) (zY (k:=1) (o:=0) (cs:=([li 0]++([li 0]++([li 0]++([li 0]++([li 0]++((cA 5 (eS cI) ([]:List Int) (List.replicate 5 ([]:List Int)))++[]))))))) (la:=(zO (⟨0,0,0,0,0,(List.replicate 5 ([]:List Int))⟩:zi))) Tryz.sizeOf51 rfl rfl rfl rfl)<|zA (zD rfl) ?_
  refine zF<|zd ?_
  cases h
  exact zBy (zFM Tryz.isAgg51 Tryz.sizeOf51 rfl rfl rfl rfl) (zAH rfl rfl) rfl
 refine zP<|zH<|zH<|zC<|zA (zB rfl)<|zA (zf rfl rfl) ?_
 refine zA (zB rfl)<|zW rfl rfl (fun c1=>zp.step (zB rfl))<|zW rfl rfl (fun c2=>zp.step (zAh (z6 rfl c2) rfl))<|zA (zg rfl rfl)<|zA (zB rfl)<|zW rfl rfl (fun c3=>zp.step (zS (k:=0) (o:=0) (m:=10) Tryz.isAgg51 Tryz.sizeOf51 rfl rfl rfl rfl rfl)) ?_
 refine zW rfl rfl (fun c4=>zp.step (zB rfl))<|zW rfl rfl (fun c5=>zp.step (zB rfl))<|zR h fun x2 w2 h=>zCv (g:=25) (s:=(decide (V<0))||(decide (4<V))) (r':=(AV.lit (.bool x2))) rfl rfl (fun c6=>⟨86,_,_,[],[(AV.agg (zO C)),li U,li V],[(AV.agg ([li C.node]++([li C.kind]++([li C.start]++([li C.count]++([li C.min]++([AV.any,AV.any,AV.any,AV.any,AV.any]++[]))))))),li U,li V],(AV.lit (.bool x2)),[],Tryz.func86,rfl,by kernel_rfl,.fn 86,(zAM (z6 rfl c6) (zAM (z6 rfl c6) (zAM (z6 rfl c6) rfl))),⟨zMO (hd:=([li C.node]++[li C.kind]++[li C.start]++[li C.count]++[li C.min])) (tl:=((cA 5 (eS cI) ([]:List Int) C.free))) rfl,zAs.nr rfl,zAs.nr rfl,trivial⟩,zFk (zGm c6 w2),.inl rfl,rfl⟩)<|zW rfl rfl (fun c7=>zp.step (zBE (t:=x2) (z6 rfl c7)))<|zA (zg rfl rfl) ?_
 refine zF ?_
 refine zX h rfl (fun b2 h => ?_) (fun b2 h => ?_)
 ·refine zH<|zC<|zA zv9<|zj (H':=[.box 51 (zO C),.box 51 (zO (⟨0,0,0,0,0,(List.replicate 5 ([]:List Int))⟩:zi))]) (zY (k:=1) (o:=0) (cs:=([li 0]++([li 0]++([li 0]++([li 0]++([li 0]++((cA 5 (eS cI) ([]:List Int) (List.replicate 5 ([]:List Int)))++[]))))))) (la:=(zO (⟨0,0,0,0,0,(List.replicate 5 ([]:List Int))⟩:zi))) Tryz.sizeOf51 rfl rfl rfl rfl)<|zA (zD rfl)<|zF ?_
  refine zd ?_
  cases h
  exact zBy (zFM Tryz.isAgg51 Tryz.sizeOf51 rfl rfl rfl rfl) (zAH rfl rfl) rfl
 refine zP ?_
 refine zt (r:=r) (fun (_:Unit)=>mkE [(1,(li U)),(2,(li V)),(3,(AV.ptr 0 0)),(6,(AV.ptr 1 0))]) (fun _=>[.box 51 (zO C),.box 51 ([li 0]++([li 0]++([li 0]++([li 0]++([li 0]++((cA 5 (eS cI) ([]:List Int) (List.replicate 5 ([]:List Int)))++[]))))))]) (fun _=>zIu C U V) ?_ ?_
 ·
  refine zH<|zC<|zA (zB rfl)<|zA (zD rfl)<|zF<|zQ ?_
  refine zq (σ:=Int) (fun i1=>mkE [(1,(li U)),(2,(li V)),(3,(AV.ptr 0 0)),(6,(AV.ptr 1 0)),(9,(li i1))]) (fun i1=>[.box 51 (zO C),.box 51 ([li 0]++([li 0]++([li 0]++([li 0]++([li 0]++((cA 5 (eS cI) ([]:List Int) (List.replicate 5 ([]:List Int)))++[]))))))]) (fun n0 i1=>zGv C U V n0 i1) U h (fun _=>rfl) (z9 [0,1] rfl rfl (by kernel_rfl)) ?_
  clear h
  intro n0 i1 h
  replace h:zEl C U V (zGv C U V n0) i1=some r:=h
  unfold zEl at h
  refine zH<|zH<|zC<|zA (zB rfl)<|zA (zB rfl)<|zA (zB rfl) ?_
  refine zM h fun b3 h=>zM h fun b4 h=>zA (zCw (a:=1) (b:=V) rfl rfl b3 b4)<|zM h fun b5 h=>zA (ze rfl rfl b5)<|zA (zf rfl rfl) ?_
  refine zF ?_
  refine zX h rfl (fun b6 h => ?_) (fun b6 h => ?_)
  ·refine zP<|zH<|zQ<|zH<|zC<|zA (zS (k:=0) (o:=0) (m:=10) Tryz.isAgg51 Tryz.sizeOf51 rfl rfl rfl rfl rfl) ?_
   refine zA (zB rfl)<|zR h fun x5 w5 h=>zh Tryz.func92 rfl (by kernel_rfl) (.fn 92) rfl rfl (zLa w5) rfl<|zA (zB rfl)<|zA (zb rfl rfl)<|zA (zb rfl rfl) ?_
   refine zA (zD rfl)<|zA (zD rfl)<|zF<|zH<|zC<|zA (zB rfl) ?_
   refine zA (zAw rfl rfl)<|zF ?_
   refine zX h rfl (fun b7 h => ?_) (fun b7 h => ?_)
   ·refine zH<|zC<|zA zv9<|zj (H':=[.box 51 (zO C),.box 51 (zO (⟨0,0,0,0,0,(List.replicate 5 ([]:List Int))⟩:zi))]) (zY (k:=1) (o:=0) (cs:=([li 0]++([li 0]++([li 0]++([li 0]++([li 0]++((cA 5 (eS cI) ([]:List Int) (List.replicate 5 ([]:List Int)))++[]))))))) (la:=(zO (⟨0,0,0,0,0,(List.replicate 5 ([]:List Int))⟩:zi))) Tryz.sizeOf51 rfl rfl rfl rfl)<|zA (zD rfl)<|zF ?_
    refine zd ?_
    cases h
    exact zBy (zFM Tryz.isAgg51 Tryz.sizeOf51 rfl rfl rfl rfl) (zAH rfl rfl) rfl
   refine zP<|zC<|zA (zB rfl)<|zM h fun b8 h=>zA (ze rfl rfl b8)<|zA (zD rfl) ?_
   refine zF ?_
   exact ⟨(i1+1),z9 [0,1] rfl rfl (by kernel_rfl),h⟩
  refine zw ?_
  exact ⟨(),z9 [0,1] rfl rfl (by kernel_rfl),h⟩
 clear h
 intro _ h
 unfold zIu at h
 refine zH<|zC<|zA (zS (k:=0) (o:=0) (m:=10) Tryz.isAgg51 Tryz.sizeOf51 rfl rfl rfl rfl rfl)<|zR h fun x3 w3 h=>zGK (cs:=([li x3.node]++([li x3.kind]++([li x3.start]++([li x3.count]++([li x3.min]++((cM 5 3 (5:Int) x3.free)++[]))))))) (la:=[(AV.agg (zO C))]) (la':=[(AV.agg (zO C))]) (S:=[]) Tryz.func118 rfl (by kernel_rfl) (.fn 118) rfl ⟨zAs.nr rfl,trivial⟩ (zLV w3) (.inl rfl)<|za (H':=[.box 51 (zO C),.box 51 ([li 0]++([li 0]++([li 0]++([li 0]++([li 0]++((cA 5 (eS cI) ([]:List Int) (List.replicate 5 ([]:List Int)))++[])))))),.val (.agg ([li x3.node]++([li x3.kind]++([li x3.start]++([li x3.count]++([li x3.min]++((cM 5 3 (5:Int) x3.free)++[]))))))),.box 51 ([li 0]++([li 0]++([li 0]++([li 0]++([li 0]++((cA 5 (eS cI) ([]:List Int) (List.replicate 5 ([]:List Int)))++[]))))))]) zv0 ?_
 refine zj (H':=[.box 51 (zO C),.box 51 ([li 0]++([li 0]++([li 0]++([li 0]++([li 0]++((cA 5 (eS cI) ([]:List Int) (List.replicate 5 ([]:List Int)))++[])))))),.dead,.box 51 ([li x3.node]++([li x3.kind]++([li x3.start]++([li x3.count]++([li x3.min]++((cM 5 3 (5:Int) x3.free)++[]))))))]) (zCG (k:=3) (o:=0) (j:=2) (cs:=([li 0]++([li 0]++([li 0]++([li 0]++([li 0]++((cA 5 (eS cI) ([]:List Int) (List.replicate 5 ([]:List Int)))++[]))))))) (la:=([li x3.node]++([li x3.kind]++([li x3.start]++([li x3.count]++([li x3.min]++((cM 5 3 (5:Int) x3.free)++[]))))))) Tryz.sizeOf51 rfl rfl rfl rfl rfl (by decide))<|zF<|zH<|zC<|zA (zB rfl)<|zA (zB rfl) ?_
 refine zR h fun x4 w4 h=>zCt (k:=3) (la:=[AV.ptr 3 0,li U,li V]) (la':=[AV.ptr 0 0,li U,li V]) (r:=(.tup [])) (S:=[]) (en' := .box 51 ([li x4.node]++([li x4.kind]++([li x4.start]++([li x4.count]++([li x4.min]++((cM 5 3 (5:Int) x4.free)++[]))))))) Tryz.func125 rfl (by kernel_rfl) (.fn 125) rfl ⟨zB0.ptr,zB0.of (zAs.nr rfl),zB0.of (zAs.nr rfl),trivial⟩ rfl rfl (by kernel_rfl) (by kernel_rfl) (zM3 w4) rfl (.inl rfl)<|zF<|zH<|zC<|zAA (zK7 (k:=3) (cs:=([li x4.node]++([li x4.kind]++([li x4.start]++([li x4.count]++([li x4.min]++((cM 5 3 (5:Int) x4.free)++[]))))))) (hd:=([li x4.node]++[li x4.kind]++[li x4.start]++[li x4.count]++[li x4.min]++[])) (tl:=([])) (N:=5) (T:=3) (K:=5) (l:=x4.free) rfl rfl) ?_
 refine zA (zS (k:=3) (o:=0) (m:=10) Tryz.isAgg51 Tryz.sizeOf51 rfl rfl rfl rfl rfl)<|zj (H':=[.box 51 (zO C),.box 51 (zO (⟨x4.node,x4.kind,x4.start,x4.count,x4.min,x4.free⟩:zi)),.dead,.box 51 ([li x4.node]++([li x4.kind]++([li x4.start]++([li x4.count]++([li x4.min]++((cA 5 (eS cI) ([]:List Int) x4.free)++[]))))))]) (zY (k:=1) (o:=0) (cs:=([li 0]++([li 0]++([li 0]++([li 0]++([li 0]++((cA 5 (eS cI) ([]:List Int) (List.replicate 5 ([]:List Int)))++[]))))))) (la:=(zO (⟨x4.node,x4.kind,x4.start,x4.count,x4.min,x4.free⟩:zi))) Tryz.sizeOf51 rfl rfl rfl rfl)<|zA (zD rfl)<|zF<|zd ?_
 cases h
 exact zBy (zFM Tryz.isAgg51 Tryz.sizeOf51 rfl rfl rfl rfl) (zAH rfl rfl) rfl
theorem zJ2 {B:zJ} {C:Int} {uK:List Int} {r:zJ} (h:zE8 B C uK=some r):AFn Tryz.prog 68 [AV.ptr 0 0,li C,ls cI uK] [.box 26 ([ls cI B.nodes]++([li B.batch]++([li B.high]++([AV.osl 51 10 (List.map zO B.zones)]++([AV.osl 55 1 (List.map zG B.caches)]++[])))))] (.tup []) [.box 26 ([ls cI r.nodes]++([li r.batch]++([li r.high]++([AV.osl 51 10 (List.map zO r.zones)]++([AV.osl 55 1 (List.map zG r.caches)]++[])))))]:=by
 refine zEX Tryz.func68 rfl Tryz.ntmps68 Tryz.results68 rfl ?_
 unfold zE8 at h
 refine zH<|zC<|zA (zB rfl)<|zA (zV Tryz.underlying22 rfl)<|zA (zB rfl)<|zF ?_
 refine zQ<|zq (σ:=Int×(List zi)) (fun (i1,l1)=>mkE [(0,(AV.ptr 0 0)),(1,(li C)),(10,(ls cI uK)),(11,(li (uK.length:Int))),(12,(li i1))]) (fun (i1,l1)=>[.box 26 [ls cI B.nodes,li B.batch,li B.high,AV.osl 51 10 (List.map zO l1),AV.osl 55 1 (List.map zG B.caches)]]) (fun n0 (i1,l1)=>zDD B C uK n0 i1 l1) (0,B.zones) h (fun _=>rfl) (z9 [0] rfl rfl (by kernel_rfl)) ?_
 clear h
 rintro n0 ⟨i1,l1⟩ h
 replace h:zCY B C uK (zDD B C uK n0) i1 l1=some r:=h
 unfold zCY at h
 refine zH<|zC<|zA (zf rfl rfl)<|zF<|zH ?_
 refine zX h rfl (fun b1 h => ?_) (fun b1 h => ?_)
 ·refine zP ?_
  refine zt (r:=r) (fun (l2:List zi)=>mkE [(0,(AV.ptr 0 0)),(1,(li C)),(10,(ls cI uK)),(11,(li (uK.length:Int))),(12,(li i1))]) (fun l2=>[.box 26 [ls cI B.nodes,li B.batch,li B.high,AV.osl 51 10 (List.map zO l2),AV.osl 55 1 (List.map zG B.caches)]]) (fun l2=>zEc (zDD B C uK n0) i1 l2) ?_ ?_
  ·
   refine zQ<|zH<|zC<|zM h fun b3 h=>zA (zT Tryz.underlying22 Tryz.sizeOf3 (fun _=>rfl) rfl rfl b3)<|zA (zU (o:=0) Tryz.isAgg3 rfl rfl) ?_
   refine zA (zD rfl)<|zF<|zH<|zC<|zA (zB rfl)<|zA (zAB rfl) ?_
   refine zA (zK Tryz.underlying26 rfl rfl Tryz.sizeOf23 rfl)<|zAA (zAd (k:=0) (o:=3) (t':=51) (sz:=10) (rows:=List.map zO l1) rfl rfl)<|zA (zN Tryz.isAgg23 rfl rfl rfl rfl)<|zA (zB rfl)<|zM h fun b4 h=>zA (zy (f:=zO) (l:=l1) (i:=C) Tryz.underlying23 Tryz.sizeOf51 rfl rfl rfl b4) ?_
   refine zA (zBn (f:=zO) (l:=l1) (i:=C) (c:=0) (q:=10) (la:=(zO (at_ l1 C))) Tryz.isAgg51 Tryz.sizeOf51 rfl rfl (by first | rfl | omega) b4 rfl rfl rfl)<|zA (zB rfl)<|zR h fun x1 w1 h=>zh Tryz.func71 rfl (by kernel_rfl) (.fn 71) rfl rfl (zPG w1) rfl<|zA (zB rfl)<|zA (zb rfl rfl) ?_
   refine zA (zb rfl rfl)<|za (H':=[.box 26 [ls cI B.nodes,li B.batch,li B.high,AV.hd 1,AV.osl 55 1 (List.map zG B.caches)],.vec 51 10 (List.map zO l1),.box 51 (zO ⟨0,0,0,0,0,(List.replicate 5 ([]:List Int))⟩)]) zv0<|zj (H':=[.box 26 [ls cI B.nodes,li B.batch,li B.high,AV.hd 1,AV.osl 55 1 (List.map zG B.caches)],.vec 51 10 (List.map zO l1),.box 51 (zO x1.1)]) (zY (k:=2) (o:=0) (cs:=(zO ⟨0,0,0,0,0,(List.replicate 5 ([]:List Int))⟩)) (la:=(zO x1.1)) Tryz.sizeOf51 rfl rfl rfl rfl)<|zA (zD rfl)<|zF<|zH ?_
   refine zC<|zA (zB rfl)<|zA (zAv rfl rfl)<|zF ?_
   refine zX h rfl (fun b5 h => ?_) (fun b5 h => ?_)
   ·refine zAl (n:=38) (m:=1) [.head 0 0,.head 0 0,.head 0 0,.head 0 0,.head 0 0,.head 0 0,.head 0 0,.tail 0] [7] [AV.ptr 0 0,AV.ptr 0 0,AV.ptr 0 3,AV.hd 1,li C,(AV.agg (zO x1.1)),(AV.ptr 1 (C.toNat*10)),.any] [[.box 26 [ls cI B.nodes,li B.batch,li B.high,AV.hd 1,AV.osl 55 1 (List.map zG B.caches)],.vec 51 10 (List.map zO l1),.box 51 (zO x1.1)],[.box 26 [ls cI B.nodes,li B.batch,li B.high,AV.hd 1,AV.osl 55 1 (List.map zG B.caches)],.vec 51 10 (List.map zO (l1.set C.toNat x1.1)),.box 51 (zO x1.1)]] (by kernel_rfl) (by kernel_rfl) ⟨D1 fun e s p=>zB (s 0 rfl),D1 fun e s p=>zAB p.1,D1 fun e s p=>zK (k:=0) (o:=0) (off:=3) Tryz.underlying26 rfl rfl Tryz.sizeOf23 p.1,D1 fun e s p=>zN (k:=0) (o:=3) Tryz.isAgg23 p.1 rfl rfl rfl,D1 fun e s p=>zB (s 1 rfl),D1 fun e s p=>zS (k:=2) (o:=0) (m:=10) Tryz.isAgg51 Tryz.sizeOf51 (s 8 rfl) rfl rfl rfl rfl,D1 fun e s p=>zy (f:=zO) (l:=l1) (i:=C) Tryz.underlying23 Tryz.sizeOf51 p.2.2.2.2.2.1 rfl p.2.2.2.2.2.2.1 b4,?_,trivial⟩ ?_
    ·
     intro e8 s8 p8
     refine zj (H':=[.box 26 [ls cI B.nodes,li B.batch,li B.high,AV.hd 1,AV.osl 55 1 (List.map zG B.caches)],.vec 51 10 (List.map zO (l1.set C.toNat x1.1)),.box 51 (zO x1.1)]) (zBR (k:=1) (o:=(C.toNat*10)) (f:=zO) (l:=l1) (i:=C) (z:=x1.1) Tryz.sizeOf51 (fun _=>rfl) (by exact p8.1) rfl (by first | rfl | omega) b4 (by exact p8.2.2.2.2.2.2.2.1) rfl) ?_
     exact zF ⟨fun _=>rfl,rfl⟩
    intro e9 s9 hq1
    exact ⟨l1.set C.toNat x1.1,Rep.trans (zBM (l:=[(0,(AV.ptr 0 0)),(1,(li C)),(10,(ls cI uK)),(11,(li (uK.length:Int))),(12,(li i1))]) ⟨s9 0 rfl,s9 1 rfl,s9 10 rfl,s9 11 rfl,s9 12 rfl,trivial⟩) (Rep.trans (z7 (k:=0) (j:=1) (o:=3) (cs:=[ls cI B.nodes,li B.batch,li B.high,AV.hd 1,AV.osl 55 1 (List.map zG B.caches)]) rfl rfl rfl rfl) (z9 [0] (l:=[(0,(AV.ptr 0 0)),(1,(li C)),(10,(ls cI uK)),(11,(li (uK.length:Int))),(12,(li i1))]) rfl rfl (by kernel_rfl))),h⟩
   refine zP ?_
   exact ⟨l1,Rep.trans (z7 (k:=0) (j:=1) (o:=3) rfl rfl rfl rfl) (z9 [0] (l:=[(0,(AV.ptr 0 0)),(1,(li C)),(10,(ls cI uK)),(11,(li (uK.length:Int))),(12,(li i1))]) rfl rfl (by kernel_rfl)),h⟩
  clear h
  intro l2 h
  unfold zEc at h
  refine zC<|zM h fun b2 h=>zA (ze rfl rfl b2)<|zA (zB rfl)<|zF ?_
  exact ⟨((i1+1),l2),z9 [0] rfl rfl (by kernel_rfl),h⟩
 refine zw ?_
 cases h
 exact ⟨mkE [],[.box 26 [ls cI B.nodes,li B.batch,li B.high,AV.osl 51 10 (List.map zO l1),AV.osl 55 1 (List.map zG B.caches)]],z9 [0] rfl rfl (by kernel_rfl),zLX rfl⟩
theorem zG6 {B:zJ} {uA:Int} {C:Int} {r:zJ} (h:zDI B uA C=some r):AFn Tryz.prog 56 [AV.ptr 0 0,li uA,li C] [.box 26 ([ls cI B.nodes]++([li B.batch]++([li B.high]++([AV.osl 51 10 (List.map zO B.zones)]++([AV.osl 55 1 (List.map zG B.caches)]++[])))))] (.tup []) [.box 26 ([ls cI r.nodes]++([li r.batch]++([li r.high]++([AV.osl 51 10 (List.map zO r.zones)]++([AV.osl 55 1 (List.map zG r.caches)]++[])))))]:=by
 refine zEX Tryz.func56 rfl Tryz.ntmps56 Tryz.results56 rfl ?_
 unfold zDI at h
 refine zH<|zC<|zA (zB rfl)<|zA (zAB rfl)<|zA (zK Tryz.underlying26 rfl rfl Tryz.sizeOf24 rfl)<|zAA (zAd (k:=0) (o:=4) (t':=55) (sz:=1) (rows:=List.map zG B.caches) rfl rfl) ?_
 refine zA (zN Tryz.isAgg24 rfl rfl rfl rfl)<|zA (zB rfl)<|zM h fun b1 h=>zA (zy (f:=zG) (l:=B.caches) (i:=uA) Tryz.underlying24 Tryz.sizeOf55 rfl rfl rfl b1)<|zA (zBn (f:=zG) (l:=B.caches) (i:=uA) (c:=0) (q:=1) (la:=(zG (at_ B.caches uA))) Tryz.isAgg55 Tryz.sizeOf55 rfl rfl (by first | rfl | omega) b1 rfl rfl rfl)<|zA (zB rfl) ?_
 refine zR h fun x1 w1 h=>zh Tryz.func110 rfl (by kernel_rfl) (.fn 110) rfl rfl (zNY w1) rfl<|zA (zB rfl)<|zA (zb rfl rfl)<|zA (zb rfl rfl)<|zA (zb rfl rfl) ?_
 refine za (H':=[.box 26 [ls cI B.nodes,li B.batch,li B.high,AV.osl 51 10 (List.map zO B.zones),AV.hd 1],.vec 55 1 (List.map zG B.caches),.box 55 [(ls (cS cI) ([]:List (List Int)))]]) zv1<|zj (H':=[.box 26 [ls cI B.nodes,li B.batch,li B.high,AV.osl 51 10 (List.map zO B.zones),AV.hd 1],.vec 55 1 (List.map zG B.caches),.box 55 (zG x1.1)]) (zY (k:=2) (o:=0) (cs:=[(ls (cS cI) ([]:List (List Int)))]) (la:=(zG x1.1)) Tryz.sizeOf55 rfl rfl rfl rfl)<|zA (zD rfl)<|zA (zD rfl)<|zF<|zH ?_
 refine zC<|zA (zB rfl)<|zA (zAv rfl rfl)<|zF ?_
 refine zX h rfl (fun b2 h => ?_) (fun b2 h => ?_)
 ·refine zH ?_
  refine zAl (n:=35) (m:=1) [.head 0 0,.head 0 0,.head 0 0,.head 0 0,.head 0 0,.head 0 0,.head 0 0,.tail 0] [7] [AV.ptr 0 0,AV.ptr 0 0,AV.ptr 0 4,AV.hd 1,li uA,(AV.agg (zG x1.1)),(AV.ptr 1 (uA.toNat*1)),.any] [[.box 26 [ls cI B.nodes,li B.batch,li B.high,AV.osl 51 10 (List.map zO B.zones),AV.hd 1],.vec 55 1 (List.map zG B.caches),.box 55 (zG x1.1)],[.box 26 [ls cI B.nodes,li B.batch,li B.high,AV.osl 51 10 (List.map zO B.zones),AV.hd 1],.vec 55 1 (List.map zG (B.caches.set uA.toNat x1.1)),.box 55 (zG x1.1)]] (by kernel_rfl) (by kernel_rfl) ⟨D1 fun e s p=>zB (s 0 rfl),D1 fun e s p=>zAB p.1,D1 fun e s p=>zK (k:=0) (o:=0) (off:=4) Tryz.underlying26 rfl rfl Tryz.sizeOf24 p.1,D1 fun e s p=>zN (k:=0) (o:=4) Tryz.isAgg24 p.1 rfl rfl rfl,D1 fun e s p=>zB (s 1 rfl),D1 fun e s p=>zS (k:=2) (o:=0) (m:=1) Tryz.isAgg55 Tryz.sizeOf55 (s 6 rfl) rfl rfl rfl rfl,D1 fun e s p=>zy (f:=zG) (l:=B.caches) (i:=uA) Tryz.underlying24 Tryz.sizeOf55 p.2.2.2.2.2.1 rfl p.2.2.2.2.2.2.1 b1,?_,trivial⟩ ?_
  ·
   intro e8 s8 p8
   refine zj (H':=[.box 26 [ls cI B.nodes,li B.batch,li B.high,AV.osl 51 10 (List.map zO B.zones),AV.hd 1],.vec 55 1 (List.map zG (B.caches.set uA.toNat x1.1)),.box 55 (zG x1.1)]) (zBR (k:=1) (o:=(uA.toNat*1)) (f:=zG) (l:=B.caches) (i:=uA) (z:=x1.1) Tryz.sizeOf55 (fun _=>rfl) (by exact p8.1) rfl (by first | rfl | omega) b1 (by exact p8.2.2.2.2.2.2.2.1) rfl) ?_
   exact zF ⟨fun _=>rfl,rfl⟩
  intro e9 s9 hq1
  refine zAT (zBM (l:=[(0,(AV.ptr 0 0)),(2,(li C)),(7,(ls cI x1.2.1))]) ⟨s9 0 rfl,s9 2 rfl,s9 7 rfl,trivial⟩)<|zC<|zA (zB (av:=(AV.ptr 0 0)) rfl)<|zA (zB (av:=(li C)) rfl)<|zA (zB (av:=(ls cI x1.2.1)) rfl)<|zAA (z7 (k:=0) (j:=1) (o:=4) (cs:=[ls cI B.nodes,li B.batch,li B.high,AV.osl 51 10 (List.map zO B.zones),AV.hd 1]) rfl rfl rfl rfl) ?_
  refine zR h fun x2 w2 h=>zCt (k:=0) (la:=[AV.ptr 0 0,li C,ls cI x1.2.1]) (la':=[AV.ptr 0 0,li C,ls cI x1.2.1]) (r:=(.tup [])) (S:=[]) (en' := .box 26 [ls cI x2.nodes,li x2.batch,li x2.high,AV.osl 51 10 (List.map zO x2.zones),AV.osl 55 1 (List.map zG x2.caches)]) Tryz.func68 rfl (by kernel_rfl) (.fn 68) rfl ⟨zB0.ptr,zB0.of (zAs.nr rfl),zB0.of (zAs.nr rfl),trivial⟩ rfl rfl (by kernel_rfl) (by kernel_rfl) (zJ2 w2) rfl (.inl rfl)<|zF ?_
  cases h
  exact ⟨mkE [],[.box 26 [ls cI x2.nodes,li x2.batch,li x2.high,AV.osl 51 10 (List.map zO x2.zones),AV.osl 55 1 (List.map zG x2.caches)]],z9 [0] rfl rfl (by kernel_rfl),zLX rfl⟩
 refine zP ?_
 cases h
 exact ⟨mkE [],[.box 26 [ls cI B.nodes,li B.batch,li B.high,AV.osl 51 10 (List.map zO B.zones),AV.osl 55 1 (List.map zG B.caches)]],Rep.trans (z7 (k:=0) (j:=1) (o:=4) rfl rfl rfl rfl) (z9 [0] (l:=[]) rfl rfl (by kernel_rfl)),zLX rfl⟩
theorem zNy {J:zL} {M:Int} {r:zL×Int×Int} (h:zLk J M=some r):PFn Tryz.prog 57 [(AV.agg (zG J)),li M] (AV.tup [(AV.agg (zG r.1)),li r.2.1,li r.2.2]):=by
 refine zo Tryz.func57 rfl Tryz.ntmps57 Tryz.results57 rfl ?_
 unfold zLk at h
 refine zH<|zC<|za (H':=[.box 55 (zG J)]) (zv (t:=55) rfl)<|za (H':=[.box 55 (zG J),.box 55 [(ls (cS cI) ([]:List (List Int)))]]) zv1<|zA (zD rfl)<|zA (zD rfl) ?_
 refine zF<|zH<|zH<|zC<|zA (zS (k:=0) (o:=0) (m:=1) Tryz.isAgg55 Tryz.sizeOf55 rfl rfl rfl rfl rfl)<|zA (zB rfl) ?_
 refine zR h fun x1 w1 h=>zh Tryz.func111 rfl (by kernel_rfl) (.fn 111) rfl rfl (zHA w1) rfl<|zA (zD rfl)<|zF<|zH<|zC ?_
 refine zA (zB rfl)<|zA (zz rfl rfl)<|zF ?_
 refine zX h rfl (fun b1 h => ?_) (fun b1 h => ?_)
 ·refine zH<|zC<|zA zv2<|zA (zB rfl)<|zj (H':=[.box 55 (zG J),.box 55 (zG (⟨([]:List (List Int))⟩:zL))]) (zY (k:=1) (o:=0) (cs:=[(ls (cS cI) ([]:List (List Int)))]) (la:=(zG (⟨([]:List (List Int))⟩:zL))) Tryz.sizeOf55 rfl rfl rfl rfl)<|zA (zD rfl) ?_
  refine zA (zD rfl)<|zF<|zd ?_
  cases h
  exact zCX (zFM Tryz.isAgg55 Tryz.sizeOf55 rfl rfl rfl rfl) (zAH rfl rfl) (zAH rfl rfl) rfl
 refine zP<|zH<|zC<|zA (zK Tryz.underlying55 rfl rfl Tryz.sizeOf53 rfl)<|zA (zN Tryz.isAgg53 rfl rfl rfl rfl)<|zA (zB rfl) ?_
 refine zM h fun b2 h=>zA (zT Tryz.underlying53 Tryz.sizeOf22 (fun _=>rfl) rfl rfl b2)<|zA (zU (o:=0) Tryz.isAgg22 rfl rfl)<|zA (zD rfl)<|zF<|zH ?_
 refine zH<|zC<|zA (zB rfl)<|zA (zV Tryz.underlying22 rfl)<|zA (zAv rfl rfl)<|zF ?_
 refine zX h rfl (fun b3 h => ?_) (fun b3 h => ?_)
 ·refine zH<|zC<|zA zv2<|zj (H':=[.box 55 (zG J),.box 55 (zG (⟨([]:List (List Int))⟩:zL))]) (zY (k:=1) (o:=0) (cs:=[(ls (cS cI) ([]:List (List Int)))]) (la:=(zG (⟨([]:List (List Int))⟩:zL))) Tryz.sizeOf55 rfl rfl rfl rfl)<|zA (zD rfl)<|zA (zD rfl) ?_
  refine zF<|zd ?_
  cases h
  exact zCX (zFM Tryz.isAgg55 Tryz.sizeOf55 rfl rfl rfl rfl) (zAH rfl rfl) (zAH rfl rfl) rfl
 refine zP<|zH<|zC<|zA (zB rfl)<|zA (zV Tryz.underlying22 rfl)<|zM h fun b4 h => ?_
 refine zA (zBS rfl rfl b4)<|zA (zD rfl)<|zF<|zH<|zM h fun b5 h=>zR h fun x2 w2 h => ?_
 refine zM h fun b6 h => ?_
 refine zAl (n:=39) (m:=0) [.head 0 0,.head 0 0,.head 0 0,.head 0 0,.head 0 0,.head 0 0,.head 0 1,.head 0 1,.head 0 1,.head 0 1,.tail 0,.head 1 1,.head 1 1] [10] [(AV.agg (zG J)),li M,(ls cI (at_ J.lists M)),(li (((at_ J.lists M).length:Int) - 1)),(ls cI (zIY (at_ J.lists M) 0 (((at_ J.lists M).length:Int) - 1))),(AV.agg (zG x2)),(ls cI (at_ J.lists M)),(li (((at_ J.lists M).length:Int) - 1)),(AV.rp (cI (at_ (at_ J.lists M) (((at_ J.lists M).length:Int) - 1))) 0),(li (at_ (at_ J.lists M) (((at_ J.lists M).length:Int) - 1))),.any,(li (at_ (at_ J.lists M) (((at_ J.lists M).length:Int) - 1))),li 0] [[.box 55 (zG J),.box 55 [(ls (cS cI) ([]:List (List Int)))]],[.box 55 (zG J),.box 55 (zG x2)]] (by kernel_rfl) (by kernel_rfl) ⟨D1 fun e s p=>zS (k:=0) (o:=0) (m:=1) Tryz.isAgg55 Tryz.sizeOf55 (s 2 rfl) rfl rfl rfl rfl,D1 fun e s p=>zB (s 1 rfl),D1 fun e s p=>zB (s 8 rfl),D1 fun e s p=>zB (s 9 rfl),D1 fun e s p=>zNX (hi:=((at_ J.lists M).length:Int) - 1) (f:=cI) (l:=at_ J.lists M) Tryz.underlying22 Tryz.sizeOf3 (fun _=>rfl) p.1 p.2.1 b5,?_,⟨D1 fun e s p=>zB (s 8 rfl),D1 fun e s p=>zB (s 8 rfl)⟩,⟨D1 fun e s p=>zB (s 9 rfl),D1 fun e s p=>zB (s 9 rfl)⟩,⟨D1 fun e s p=>zT (f:=cI) (l:=at_ J.lists M) (i:=((at_ J.lists M).length:Int) - 1) Tryz.underlying22 Tryz.sizeOf3 (fun _=>rfl) p.1 p.2.1 b6,D1 fun e s p=>zT (f:=cI) (l:=at_ J.lists M) (i:=((at_ J.lists M).length:Int) - 1) Tryz.underlying22 Tryz.sizeOf3 (fun _=>rfl) p.1 p.2.1 b6⟩,⟨D1 fun e s p=>zU (o:=0) Tryz.isAgg3 p.1 rfl,D1 fun e s p=>zU (o:=0) Tryz.isAgg3 p.1 rfl⟩,?_,D1 fun e s p=>zD p.2.2.2.2.2.2.2.2.2.2.2.1,D1 fun e s p=>zD rfl,trivial⟩ ?_
 ·
  intro e6 s6 p6
  refine zh (r:=(AV.agg (zG x2))) (la:=[(AV.agg (zG J)),li M,(ls cI (zIY (at_ J.lists M) 0 (((at_ J.lists M).length:Int) - 1)))]) Tryz.func112 rfl (by kernel_rfl) (.fn 112) (zAM p6.1 (zAM p6.2.1 (zAM p6.2.2.1 rfl))) rfl (zEb w2) rfl ?_
  exact zF ⟨fun _=>rfl,rfl⟩
 ·
  intro e15 s15 p15
  refine zj (H':=[.box 55 (zG J),.box 55 (zG x2)]) (zY (k:=1) (o:=0) (cs:=[(ls (cS cI) ([]:List (List Int)))]) (la:=(zG x2)) Tryz.sizeOf55 (by exact (s15 4 rfl)) rfl rfl (by exact p15.2.2.2.2.2.2.2.1)) ?_
  exact zF ⟨fun _=>rfl,rfl⟩
 intro e18 s18 hq1
 refine zAT (zBM (l:=[(4,(AV.ptr 1 0)),(5,(li (at_ (at_ J.lists M) (((at_ J.lists M).length:Int) - 1)))),(6,(li 0))]) ⟨s18 4 rfl,(hq1 11 (by decide) (by decide)),(hq1 12 (by decide) (by decide)),trivial⟩)<|zd ?_
 cases h
 exact zCX (zFM Tryz.isAgg55 Tryz.sizeOf55 rfl rfl rfl rfl) (zAH rfl rfl) (zAH rfl rfl) rfl
theorem zMN {A:zJ} {D:Int} {G:Bool} {Y:Bool} {r:zJ×Int×Int} (h:zJV A D G Y=some r):PFn Tryz.prog 23 [(AV.agg (zI A)),li D,(AV.lit (.bool G)),(AV.lit (.bool Y))] (AV.tup [(AV.agg (zI r.1)),li r.2.1,li r.2.2]):=by
 refine zo Tryz.func23 rfl Tryz.ntmps23 Tryz.results23 rfl ?_
 unfold zJV at h
 refine zH<|zC<|za (H':=[.box 26 (zI A)]) (zv (t:=26) rfl)<|za (H':=[.box 26 (zI A),.box 26 (zI ⟨[],0,0,[],[]⟩)]) zv3<|zA (zD rfl)<|zA (zD rfl) ?_
 refine zF<|zH<|zH<|zC<|zA (zS (k:=0) (o:=0) (m:=5) Tryz.isAgg26 Tryz.sizeOf26 rfl rfl rfl rfl rfl)<|zR h fun x1 w1 h => ?_
 refine zh Tryz.func13 rfl (by kernel_rfl) (.fn 13) rfl rfl (zBD w1) rfl<|zA (zD rfl)<|zF<|zH<|zC<|zA (zB rfl) ?_
 refine zA (zz rfl rfl)<|zF ?_
 refine zX h rfl (fun b1 h => ?_) (fun b1 h => ?_)
 ·refine zH<|zC<|zA zQY<|zA (zB rfl)<|zj (H':=[.box 26 (zI A),.box 26 (zI (⟨([]:List Int),0,0,([]:List zi),([]:List zL)⟩:zJ))]) (zY (k:=1) (o:=0) (cs:=(zI ⟨[],0,0,[],[]⟩)) (la:=(zI (⟨([]:List Int),0,0,([]:List zi),([]:List zL)⟩:zJ))) Tryz.sizeOf26 rfl rfl rfl rfl)<|zA (zD rfl) ?_
  refine zA (zD rfl)<|zF<|zd ?_
  cases h
  exact zCX (zFM Tryz.isAgg26 Tryz.sizeOf26 rfl rfl rfl rfl) (zAH rfl rfl) (zAH rfl rfl) rfl
 refine zP<|zH<|zH<|zC<|zA (zB rfl)<|zA (zf rfl rfl) ?_
 refine zA (zB rfl)<|zW rfl rfl (fun c1=>zp.step (zB rfl))<|zW rfl rfl (fun c2=>zp.step (zK Tryz.underlying26 rfl rfl Tryz.sizeOf22 rfl))<|zW rfl rfl (fun c3=>zp.step (zN Tryz.isAgg22 (z6 rfl c3) rfl rfl rfl))<|zW rfl rfl (fun c4=>zp.step (zV Tryz.underlying22 (z6 rfl c4)))<|zW rfl rfl (fun c5=>zp.step (zAw (z6 rfl c5) (z6 rfl c5))) ?_
 refine zA (zg rfl rfl)<|zF ?_
 refine zX h rfl (fun b2 h => ?_) (fun b2 h => ?_)
 ·refine zH<|zC<|zA zQY<|zj (H':=[.box 26 (zI A),.box 26 (zI (⟨([]:List Int),0,0,([]:List zi),([]:List zL)⟩:zJ))]) (zY (k:=1) (o:=0) (cs:=(zI ⟨[],0,0,[],[]⟩)) (la:=(zI (⟨([]:List Int),0,0,([]:List zi),([]:List zL)⟩:zJ))) Tryz.sizeOf26 rfl rfl rfl rfl)<|zA (zD rfl)<|zA (zD rfl) ?_
  refine zF<|zd ?_
  cases h
  exact zCX (zFM Tryz.isAgg26 Tryz.sizeOf26 rfl rfl rfl rfl) (zAH rfl rfl) (zAH rfl rfl) rfl
 refine zP<|zH<|zM h fun b3 h=>zR h fun x2 w2 h => ?_
 refine zAl (n:=131) (m:=0) [.head 0 0,.head 0 0,.head 0 0,.head 0 0,.head 0 0,.head 0 0,.head 0 0,.head 0 0,.head 0 0,.head 0 0,.head 0 0,.head 0 0,.head 0 0,.head 0 0] [] [AV.ptr 0 3,ls zO A.zones,AV.ptr 0 0,ls cI A.nodes,li D,(AV.rp (cI (at_ A.nodes D)) 0),(li (at_ A.nodes D)),(AV.lit (.bool G)),(AV.tup [ls cI x2.1,li x2.2]),(AV.tup [ls cI x2.1,li x2.2]),ls cI x2.1,li x2.2,ls cI x2.1,li x2.2] [[.box 26 (zI A),.box 26 (zI ⟨[],0,0,[],[]⟩)]] (by kernel_rfl) (by kernel_rfl) ⟨D1 fun e s p=>zK (k:=0) (o:=0) (off:=3) Tryz.underlying26 rfl rfl Tryz.sizeOf23 (s 4 rfl),D1 fun e s p=>zN (k:=0) (o:=3) Tryz.isAgg23 p.1 rfl rfl rfl,D1 fun e s p=>zK (k:=0) (o:=0) (off:=0) Tryz.underlying26 rfl rfl Tryz.sizeOf22 (s 4 rfl),D1 fun e s p=>zN (k:=0) (o:=0) Tryz.isAgg22 p.1 rfl rfl rfl,D1 fun e s p=>zB (s 1 rfl),D1 fun e s p=>zT (f:=cI) (l:=A.nodes) (i:=D) Tryz.underlying22 Tryz.sizeOf3 (fun _=>rfl) p.1 p.2.1 b3,D1 fun e s p=>zU (o:=0) Tryz.isAgg3 p.1 rfl,D1 fun e s p=>zB (s 2 rfl),?_,D1 fun e s p=>zB p.1,D1 fun e s p=>zb p.1 rfl,D1 fun e s p=>zb p.1 rfl,D1 fun e s p=>zD p.2.2.2.2.2.2.2.2.2.2.2.2.1,D1 fun e s p=>zD p.2.2.2.2.2.2.2.2.2.2.2.2.2.1,trivial⟩ ?_
 ·
  intro e9 s9 p9
  refine zh (r:=(AV.tup [ls cI x2.1,li x2.2])) (la:=[ls zO A.zones,(li (at_ A.nodes D)),(AV.lit (.bool G))]) Tryz.func53 rfl (by kernel_rfl) (.fn 53) (zAM p9.1 (zAM p9.2.1 (zAM p9.2.2.1 rfl))) rfl (zJ9 w2) rfl ?_
  exact zF ⟨fun _=>rfl,rfl⟩
 intro e15 s15 hq1
 refine zAT (zBM (l:=[(1,(li D)),(3,(AV.lit (.bool Y))),(4,(AV.ptr 0 0)),(8,(AV.ptr 1 0)),(12,(ls cI x2.1))]) ⟨s15 1 rfl,s15 3 rfl,s15 4 rfl,s15 8 rfl,(hq1 12 (by decide) (by decide)),trivial⟩) ?_
 refine zt (r:=r) (fun (_:Unit)=>mkE [(8,(AV.ptr 0 0))]) (fun _=>[.box 26 (zI ⟨[],0,0,[],[]⟩)]) (fun _=>zG2 ) ?_ ?_
 ·
  refine zH<|zC<|zA (zB rfl)<|zA (zV Tryz.underlying22 rfl)<|zA (zB rfl)<|zF ?_
  refine zQ<|zq (σ:=Int) (fun i1=>mkE [(1,(li D)),(3,(AV.lit (.bool Y))),(4,(AV.ptr 0 0)),(8,(AV.ptr 1 0)),(49,(ls cI x2.1)),(50,(li (x2.1.length:Int))),(51,(li i1))]) (fun i1=>[.box 26 (zI A),.box 26 (zI ⟨[],0,0,[],[]⟩)]) (fun n0 i1=>zDZ A D Y x2 n0 i1) 0 h (fun _=>rfl) (z9 [0,1] rfl rfl (by kernel_rfl)) ?_
  clear h
  intro n0 i1 h
  replace h:zHa A D Y x2 (zDZ A D Y x2 n0) i1=some r:=h
  unfold zHa at h
  refine zH<|zC<|zA (zf rfl rfl)<|zF<|zH ?_
  refine zX h rfl (fun b4 h => ?_) (fun b4 h => ?_)
  ·refine zP ?_
   refine zt (r:=r) (fun (_:Unit)=>mkE [(1,(li D)),(3,(AV.lit (.bool Y))),(4,(AV.ptr 0 0)),(8,(AV.ptr 1 0)),(49,(ls cI x2.1)),(50,(li (x2.1.length:Int))),(51,(li i1))]) (fun _=>[.box 26 (zI A),.box 26 (zI ⟨[],0,0,[],[]⟩)]) (fun _=>zHG (zDZ A D Y x2 n0) i1) ?_ ?_
   ·
    refine zQ<|zH<|zC<|zM h fun b6 h=>zA (zT Tryz.underlying22 Tryz.sizeOf3 (fun _=>rfl) rfl rfl b6)<|zA (zU (o:=0) Tryz.isAgg3 rfl rfl) ?_
    refine zA (zD rfl)<|zF<|zH<|zH<|zC<|zA (zB rfl) ?_
    refine zA (zB rfl)<|zm rfl rfl (fun c6=>zp.step (zS (k:=0) (o:=0) (m:=5) Tryz.isAgg26 Tryz.sizeOf26 rfl rfl rfl rfl rfl))<|zm rfl rfl (fun c7=>zp.step (zB rfl))<|zR h fun x3 w3 h=>zCy (g:=56) (s:=Y) (r':=(li x3)) rfl rfl (fun c8=>⟨52,_,_,[],[(AV.agg (zI A)),(li (at_ x2.1 i1))],[(AV.agg (zI A)),(li (at_ x2.1 i1))],li x3,[],Tryz.func52,rfl,by kernel_rfl,.fn 52,(zAM (z6 rfl c8) (zAM (z6 rfl c8) rfl)),⟨zAs.nr rfl,zAs.nr rfl,trivial⟩,zG0 (zGm c8 w3),.inl rfl,rfl⟩)<|zm rfl rfl (fun c9=>zp.step (zAv (z6 rfl c9) rfl)) ?_
    refine zA (zx (j := .lit undef) rfl rfl)<|zA (zB rfl)<|zW rfl rfl (fun c10=>zp.step (zB rfl))<|zW rfl rfl (fun c11=>zp.step (zBE (t:=Y) (z6 rfl c11)))<|zW rfl rfl (fun c12=>zp.step (zB (z6 rfl c12)))<|zLp (g:=65) (s' := !(Y&&(decide (x3=0)))) (s := !Y) rfl rfl (fun c13=>zp.step (zS (k:=0) (o:=0) (m:=5) Tryz.isAgg26 Tryz.sizeOf26 rfl rfl rfl rfl rfl)) ?_
    refine zLp (g:=65) (s' := !(Y&&(decide (x3=0)))) (s := !Y) rfl rfl (fun c14=>zp.step (zB rfl))<|zR h fun x4 w4 h=>zNu (g:=65) (s' := !(Y&&(decide (x3=0)))) (s := !Y) (r':=(li x4)) rfl rfl (fun c15=>⟨39,_,_,[],[(AV.agg (zI A)),(li (at_ x2.1 i1))],[(AV.agg (zI A)),(li (at_ x2.1 i1))],li x4,[],Tryz.func39,rfl,by kernel_rfl,.fn 39,(zAM (z6 rfl c15) (zAM (z6 rfl c15) rfl)),⟨zAs.nr rfl,zAs.nr rfl,trivial⟩,zHp (zGm c15 w4),.inl rfl,rfl⟩)<|zLp (g:=65) (s' := !(Y&&(decide (x3=0)))) (s := !Y) rfl rfl (fun c16=>zp.step (zf (z6 rfl c16) rfl))<|zW rfl rfl (fun c17=>zp.step (zx (j := .lit undef) (z6 rfl c17) (zPx (c := !(Y&&(decide (x3=0)))) (d := !Y) (a:=(AV.lit (.bool (decide (x4<1))))) (j := .lit undef) rfl c17)))<|zA (zg rfl rfl) ?_
    refine zF ?_
    refine zX h rfl (fun b7 h => ?_) (fun b7 h => ?_)
    ·refine zw ?_
     exact ⟨(),z9 [0,1] rfl rfl (by kernel_rfl),h⟩
    refine zP<|zH<|zC<|zA (zS (k:=0) (o:=0) (m:=5) Tryz.isAgg26 Tryz.sizeOf26 rfl rfl rfl rfl rfl)<|zR h fun x5 w5 h=>zGK (cs:=[ls cI x5.nodes,li x5.batch,li x5.high,AV.osl 51 10 (List.map zO x5.zones),AV.osl 55 1 (List.map zG x5.caches)]) (la:=[(AV.agg (zI A))]) (la':=[(AV.agg (zI A))]) (S:=[]) Tryz.func54 rfl (by kernel_rfl) (.fn 54) rfl ⟨zAs.nr rfl,trivial⟩ (zFP w5) (.inl rfl) ?_
    refine za (H':=[.box 26 (zI A),.box 26 (zI ⟨[],0,0,[],[]⟩),.val (.agg [ls cI x5.nodes,li x5.batch,li x5.high,AV.osl 51 10 (List.map zO x5.zones),AV.osl 55 1 (List.map zG x5.caches)]),.box 26 (zI ⟨[],0,0,[],[]⟩)]) zv3<|zj (H':=[.box 26 (zI A),.box 26 (zI ⟨[],0,0,[],[]⟩),.dead,.box 26 [ls cI x5.nodes,li x5.batch,li x5.high,AV.osl 51 10 (List.map zO x5.zones),AV.osl 55 1 (List.map zG x5.caches)]]) (zCG (k:=3) (o:=0) (j:=2) (cs:=(zI ⟨[],0,0,[],[]⟩)) (la:=[ls cI x5.nodes,li x5.batch,li x5.high,AV.osl 51 10 (List.map zO x5.zones),AV.osl 55 1 (List.map zG x5.caches)]) Tryz.sizeOf26 rfl rfl rfl rfl rfl (by decide))<|zF ?_
    refine zt (r:=r) (fun ((d1,d2,d3,l1,l2):(List Int)×Int×Int×(List zi)×(List zL))=>mkE [(1,(li D)),(8,(AV.ptr 0 0)),(15,(li (at_ x2.1 i1))),(16,(AV.ptr 1 0))]) (fun (d1,d2,d3,l1,l2)=>[.box 26 (zI ⟨[],0,0,[],[]⟩),.box 26 [ls cI d1,li d2,li d3,AV.osl 51 10 (List.map zO l1),AV.osl 55 1 (List.map zG l2)]]) (fun (d1,d2,d3,l1,l2)=>zFR D x2 i1 d1 d2 d3 l1 l2) ?_ ?_
    ·
     refine zH<|zC<|zA (zK Tryz.underlying26 rfl rfl Tryz.sizeOf24 rfl)<|zAA (zAd (k:=3) (o:=4) (t':=55) (sz:=1) (rows:=List.map zG x5.caches) rfl rfl)<|zA (zN Tryz.isAgg24 rfl rfl rfl rfl)<|zA (zB rfl) ?_
     refine zM h fun b10 h=>zA (zy (f:=zG) (l:=x5.caches) (i:=D) Tryz.underlying24 Tryz.sizeOf55 rfl rfl rfl b10)<|zA (zK Tryz.underlying55 rfl rfl Tryz.sizeOf53 rfl)<|zA (zAq (f:=zG) (l:=x5.caches) (i:=D) (c:=0) (a:=(ls (cS cI) ((at_ x5.caches D).lists))) Tryz.isAgg53 rfl rfl (by first | rfl | omega) b10 rfl rfl)<|zA (zB rfl)<|zM h fun b11 h => ?_
     refine zA (zT Tryz.underlying53 Tryz.sizeOf22 (fun _=>rfl) rfl rfl b11)<|zA (zU (o:=0) Tryz.isAgg22 rfl rfl)<|zA (zV Tryz.underlying22 rfl)<|zA (zAv rfl rfl)<|zA (zB rfl)<|zm rfl rfl (fun c18=>zp.step (zB rfl)) ?_
     refine zm rfl rfl (fun c19=>zp.step (zB rfl))<|zAA (z7 (k:=3) (j:=4) (o:=4) rfl rfl rfl rfl)<|zR h fun x7 w7 h=>zQE (g:=85) (s:=decide (((at_ ((at_ x5.caches D).lists) (at_ x2.1 i1)).length:Int)=0)) (k:=3) (r:=(AV.lit (.bool x7.2))) (en' := .box 26 [ls cI x7.1.nodes,li x7.1.batch,li x7.1.high,AV.osl 51 10 (List.map zO x7.1.zones),AV.osl 55 1 (List.map zG x7.1.caches)]) rfl rfl (fun c23=>⟨55,_,_,[],[AV.ptr 3 0,li D,(li (at_ x2.1 i1))],[AV.ptr 0 0,li D,(li (at_ x2.1 i1))],_,Tryz.func55,rfl,by kernel_rfl,.fn 55,(zAM rfl (zAM (z6 rfl c23) (zAM (z6 rfl c23) rfl))),⟨zB0.ptr,zB0.of (zAs.nr rfl),zB0.of (zAs.nr rfl),trivial⟩,rfl,by kernel_rfl,by kernel_rfl,zJP (zGm c23 w7),rfl⟩) (fun c23=>by obtain rfl:=Option.some.inj (zWW c23 w7); rfl)<|zm rfl rfl (fun c24=>zp.step (zBE (t:=x7.2) (z6 rfl c24)))<|zA (zx (j := .lit undef) rfl rfl) ?_
     refine zF ?_
     refine zX h rfl (fun b12 h => ?_) (fun b12 h => ?_)
     ·refine zt (r:=r) (fun ((d4,d5,d6,l3,l4):(List Int)×Int×Int×(List zi)×(List zL))=>mkE [(1,(li D)),(8,(AV.ptr 0 0)),(15,(li (at_ x2.1 i1))),(16,(AV.ptr 1 0))]) (fun (d4,d5,d6,l3,l4)=>[.box 26 (zI ⟨[],0,0,[],[]⟩),.box 26 [ls cI d4,li d5,li d6,AV.osl 51 10 (List.map zO l3),AV.osl 55 1 (List.map zG l4)]]) (fun (d4,d5,d6,l3,l4)=>zHJ D x2 i1 d4 d5 d6 l3 l4) ?_ ?_
      ·
       refine zH<|zC<|zA (zK Tryz.underlying26 rfl rfl Tryz.sizeOf24 rfl)<|zAA (zAd (k:=3) (o:=4) (t':=55) (sz:=1) (rows:=List.map zG x7.1.caches) rfl rfl)<|zA (zN Tryz.isAgg24 rfl rfl rfl rfl)<|zA (zDF (f:=zG) (l:=x7.1.caches) Tryz.underlying24 rfl rfl) ?_
       refine zA (zB rfl)<|zF<|zQ<|zq (σ:=Int×(List Int)×Int×Int×(List zi)×(List zL)) (fun (i2,d7,d8,d9,l5,l6)=>mkE [(1,(li D)),(8,(AV.ptr 0 0)),(15,(li (at_ x2.1 i1))),(16,(AV.ptr 1 0)),(93,(li (x7.1.caches.length:Int))),(94,(li i2))]) (fun (i2,d7,d8,d9,l5,l6)=>[.box 26 (zI ⟨[],0,0,[],[]⟩),.box 26 [ls cI d7,li d8,li d9,AV.osl 51 10 (List.map zO l5),AV.osl 55 1 (List.map zG l6)]]) (fun n1 (i2,d7,d8,d9,l5,l6)=>zDc D x2 i1 x7 n1 i2 d7 d8 d9 l5 l6) (0,x7.1.nodes,x7.1.batch,x7.1.high,x7.1.zones,x7.1.caches) h (fun _=>rfl) (Rep.trans (z7 (k:=3) (j:=5) (o:=4) rfl rfl rfl rfl) (z9 [1,3] (l:=[(1,(li D)),(8,(AV.ptr 0 0)),(15,(li (at_ x2.1 i1))),(16,(AV.ptr 1 0)),(93,(li (x7.1.caches.length:Int))),(94,(li 0))]) rfl rfl (by kernel_rfl))) ?_
       clear h
       rintro n1 ⟨i2,d7,d8,d9,l5,l6⟩ h
       replace h:zHR D x2 i1 x7 (zDc D x2 i1 x7 n1) i2 d7 d8 d9 l5 l6=some r:=h
       unfold zHR at h
       refine zH<|zC<|zA (zf rfl rfl)<|zF<|zH ?_
       refine zX h rfl (fun b13 h => ?_) (fun b13 h => ?_)
       ·refine zP ?_
        refine zt (r:=r) (fun ((d10,d11,d12,l7,l8):(List Int)×Int×Int×(List zi)×(List zL))=>mkE [(1,(li D)),(8,(AV.ptr 0 0)),(15,(li (at_ x2.1 i1))),(16,(AV.ptr 1 0)),(93,(li (x7.1.caches.length:Int))),(94,(li i2))]) (fun (d10,d11,d12,l7,l8)=>[.box 26 (zI ⟨[],0,0,[],[]⟩),.box 26 [ls cI d10,li d11,li d12,AV.osl 51 10 (List.map zO l7),AV.osl 55 1 (List.map zG l8)]]) (fun (d10,d11,d12,l7,l8)=>zFU (zDc D x2 i1 x7 n1) i2 d10 d11 d12 l7 l8) ?_ ?_
        ·
         refine zQ<|zH<|zC<|zA (zB rfl)<|zA (zD rfl)<|zF ?_
         refine zH<|zC<|zA (zB rfl)<|zA (zB rfl)<|zA (zz rfl rfl)<|zF ?_
         refine zX h rfl (fun b15 h => ?_) (fun b15 h => ?_)
         ·refine zC<|zA (zB rfl)<|zA (zB rfl)<|zR h fun x9 w9 h=>zCt (k:=1) (la:=[AV.ptr 1 0,li i2,(li (at_ x2.1 i1))]) (la':=[AV.ptr 0 0,li i2,(li (at_ x2.1 i1))]) (r:=(.tup [])) (S:=[]) (en' := .box 26 [ls cI x9.nodes,li x9.batch,li x9.high,AV.osl 51 10 (List.map zO x9.zones),AV.osl 55 1 (List.map zG x9.caches)]) Tryz.func56 rfl (by kernel_rfl) (.fn 56) rfl ⟨zB0.ptr,zB0.of (zAs.nr rfl),zB0.of (zAs.nr rfl),trivial⟩ rfl rfl (by kernel_rfl) (by kernel_rfl) (zG6 w9) rfl (.inl rfl)<|zF ?_
          exact ⟨(x9.nodes,x9.batch,x9.high,x9.zones,x9.caches),z9 [0,1] rfl rfl (by kernel_rfl),h⟩
         refine zP ?_
         exact ⟨(d7,d8,d9,l5,l6),z9 [0,1] rfl rfl (by kernel_rfl),h⟩
        clear h
        rintro ⟨d10,d11,d12,l7,l8⟩ h
        unfold zFU at h
        refine zC<|zM h fun b14 h=>zA (ze rfl rfl b14)<|zA (zB rfl)<|zF ?_
        exact ⟨((i2+1),d10,d11,d12,l7,l8),z9 [0,1] rfl rfl (by kernel_rfl),h⟩
       refine zw ?_
       exact ⟨(d7,d8,d9,l5,l6),z9 [0,1] rfl rfl (by kernel_rfl),h⟩
      clear h
      rintro ⟨d4,d5,d6,l3,l4⟩ h
      unfold zHJ at h
      refine zC<|zA (zB rfl)<|zA (zB rfl)<|zR h fun x8 w8 h=>zCt (k:=1) (la:=[AV.ptr 1 0,li D,(li (at_ x2.1 i1))]) (la':=[AV.ptr 0 0,li D,(li (at_ x2.1 i1))]) (r:=(AV.lit (.bool x8.2))) (S:=[]) (en' := .box 26 [ls cI x8.1.nodes,li x8.1.batch,li x8.1.high,AV.osl 51 10 (List.map zO x8.1.zones),AV.osl 55 1 (List.map zG x8.1.caches)]) Tryz.func55 rfl (by kernel_rfl) (.fn 55) rfl ⟨zB0.ptr,zB0.of (zAs.nr rfl),zB0.of (zAs.nr rfl),trivial⟩ rfl rfl (by kernel_rfl) (by kernel_rfl) (zJP w8) rfl (.inl rfl)<|zF ?_
      exact ⟨(x8.1.nodes,x8.1.batch,x8.1.high,x8.1.zones,x8.1.caches),z9 [0,1] rfl rfl (by kernel_rfl),h⟩
     refine zP ?_
     exact ⟨(x7.1.nodes,x7.1.batch,x7.1.high,x7.1.zones,x7.1.caches),z9 [1,3] rfl rfl (by kernel_rfl),h⟩
    clear h
    rintro ⟨d1,d2,d3,l1,l2⟩ h
    unfold zFR at h
    refine zH<|zC<|zA (zK Tryz.underlying26 rfl rfl Tryz.sizeOf24 rfl)<|zAA (zAd (k:=1) (o:=4) (t':=55) (sz:=1) (rows:=List.map zG l2) rfl rfl)<|zA (zN Tryz.isAgg24 rfl rfl rfl rfl)<|zA (zB rfl) ?_
    refine zM h fun b8 h=>zA (zy (f:=zG) (l:=l2) (i:=D) Tryz.underlying24 Tryz.sizeOf55 rfl rfl rfl b8)<|zA (zBn (f:=zG) (l:=l2) (i:=D) (c:=0) (q:=1) (la:=(zG (at_ l2 D))) Tryz.isAgg55 Tryz.sizeOf55 rfl rfl (by first | rfl | omega) b8 rfl rfl rfl)<|zA (zB rfl)<|zR h fun x6 w6 h=>zh Tryz.func57 rfl (by kernel_rfl) (.fn 57) rfl rfl (zNy w6) rfl ?_
    refine zA (zB rfl)<|zA (zb rfl rfl)<|zA (zb rfl rfl)<|zA (zb rfl rfl)<|za (H':=[.box 26 (zI ⟨[],0,0,[],[]⟩),.box 26 [ls cI d1,li d2,li d3,AV.osl 51 10 (List.map zO l1),AV.hd 2],.vec 55 1 (List.map zG l2),.box 55 [(ls (cS cI) ([]:List (List Int)))]]) zv1<|zj (H':=[.box 26 (zI ⟨[],0,0,[],[]⟩),.box 26 [ls cI d1,li d2,li d3,AV.osl 51 10 (List.map zO l1),AV.hd 2],.vec 55 1 (List.map zG l2),.box 55 (zG x6.1)]) (zY (k:=3) (o:=0) (cs:=[(ls (cS cI) ([]:List (List Int)))]) (la:=(zG x6.1)) Tryz.sizeOf55 rfl rfl rfl rfl) ?_
    refine zA (zD rfl)<|zA (zD rfl)<|zF<|zH<|zH<|zC ?_
    refine zA (zB rfl)<|zA (zz rfl rfl)<|zF ?_
    refine zX h rfl (fun b9 h => ?_) (fun b9 h => ?_)
    ·refine zH<|zC<|zA zQY<|zA (zB rfl)<|zj (H':=[.box 26 (zI (⟨([]:List Int),0,0,([]:List zi),([]:List zL)⟩:zJ)),.box 26 [ls cI d1,li d2,li d3,AV.osl 51 10 (List.map zO l1),AV.hd 2],.vec 55 1 (List.map zG l2),.box 55 (zG x6.1)]) (zY (k:=0) (o:=0) (cs:=(zI ⟨[],0,0,[],[]⟩)) (la:=(zI (⟨([]:List Int),0,0,([]:List zi),([]:List zL)⟩:zJ))) Tryz.sizeOf26 rfl rfl rfl rfl)<|zA (zD rfl) ?_
     refine zA (zD rfl)<|zF<|zd ?_
     cases h
     exact zCX (zFM Tryz.isAgg26 Tryz.sizeOf26 rfl rfl rfl rfl) (zAH rfl rfl) (zAH rfl rfl) rfl
    refine zP<|zH<|zC<|zA (zK Tryz.underlying26 rfl rfl Tryz.sizeOf24 rfl)<|zA (zN Tryz.isAgg24 rfl rfl rfl rfl)<|zA (zB rfl) ?_
    refine zA (zS (k:=3) (o:=0) (m:=1) Tryz.isAgg55 Tryz.sizeOf55 rfl rfl rfl rfl rfl)<|zA (zy (f:=zG) (l:=l2) (i:=D) Tryz.underlying24 Tryz.sizeOf55 rfl rfl rfl b8)<|zj (H':=[.box 26 (zI ⟨[],0,0,[],[]⟩),.box 26 [ls cI d1,li d2,li d3,AV.osl 51 10 (List.map zO l1),AV.hd 2],.vec 55 1 (List.map zG (l2.set D.toNat x6.1)),.box 55 (zG x6.1)]) (zBR (k:=2) (o:=(D.toNat*1)) (f:=zG) (l:=l2) (i:=D) (z:=x6.1) Tryz.sizeOf55 (fun _=>rfl) rfl rfl (by first | rfl | omega) b8 rfl rfl)<|zF<|zH<|zC ?_
    refine zAA (zBl (k:=1) (o:=3) (rows':=List.map zO l1) rfl rfl (zAL (fun _=>rfl)))<|zAA (z7 (k:=1) (j:=2) (o:=4) rfl rfl rfl rfl)<|zAA (zBl (k:=1) (o:=4) (rows':=List.map zG (l2.set D.toNat x6.1)) rfl rfl (zAL (fun _=>rfl)))<|zA (zS (k:=1) (o:=0) (m:=5) Tryz.isAgg26 Tryz.sizeOf26 rfl rfl rfl rfl rfl)<|zA (zB rfl)<|zj (H':=[.box 26 (zI (⟨d1,d2,d3,l1,l2.set D.toNat x6.1⟩:zJ)),.box 26 (zI ⟨d1,d2,d3,l1,l2.set D.toNat x6.1⟩),.dead,.box 55 (zG x6.1)]) (zY (k:=0) (o:=0) (cs:=(zI ⟨[],0,0,[],[]⟩)) (la:=(zI (⟨d1,d2,d3,l1,l2.set D.toNat x6.1⟩:zJ))) Tryz.sizeOf26 rfl rfl rfl rfl) ?_
    refine zA (zD rfl)<|zA (zD rfl)<|zF<|zd ?_
    cases h
    exact zCX (zFM Tryz.isAgg26 Tryz.sizeOf26 rfl rfl rfl rfl) (zAH rfl rfl) (zAH rfl rfl) rfl
   clear h
   intro _ h
   unfold zHG at h
   refine zC<|zM h fun b5 h=>zA (ze rfl rfl b5)<|zA (zB rfl)<|zF ?_
   exact ⟨(i1+1),z9 [0,1] rfl rfl (by kernel_rfl),h⟩
  refine zw ?_
  exact ⟨(),z9 [1] rfl rfl (by kernel_rfl),h⟩
 clear h
 intro _ h
 unfold zG2 at h
 refine zH<|zC<|zA zQY<|zj (H':=[.box 26 (zI (⟨([]:List Int),0,0,([]:List zi),([]:List zL)⟩:zJ))]) (zY (k:=0) (o:=0) (cs:=(zI ⟨[],0,0,[],[]⟩)) (la:=(zI (⟨([]:List Int),0,0,([]:List zi),([]:List zL)⟩:zJ))) Tryz.sizeOf26 rfl rfl rfl rfl)<|zA (zD rfl)<|zA (zD rfl) ?_
 refine zF<|zd ?_
 cases h
 exact zCX (zFM Tryz.isAgg26 Tryz.sizeOf26 rfl rfl rfl rfl) (zAH rfl rfl) (zAH rfl rfl) rfl
theorem zKD {X:List Int} {uP:Int} {r:Int} (h:zDj X uP=some r):PFn Tryz.prog 144 [ls cI X,li uP] (li r):=by
 refine zo Tryz.func144 rfl Tryz.ntmps144 Tryz.results144 rfl ?_
 unfold zDj at h
 refine zH<|zC<|zA (zD rfl)<|zF ?_
 refine zt (r:=r) (fun (_:Unit)=>mkE []) (fun _=>[]) (fun _=>zEU ) ?_ ?_
 ·
  refine zH<|zC<|zA (zB rfl)<|zA (zV Tryz.underlying22 rfl)<|zA (zB rfl)<|zF ?_
  refine zQ<|zq (σ:=Int) (fun i1=>mkE [(0,(ls cI X)),(1,(li uP)),(7,(li (X.length:Int))),(8,(li i1))]) (fun i1=>[]) (fun n0 i1=>zA6 X uP n0 i1) 0 h (fun _=>rfl) (z9 [] rfl rfl (by kernel_rfl)) ?_
  clear h
  intro n0 i1 h
  replace h:zA8 X uP (zA6 X uP n0) i1=some r:=h
  unfold zA8 at h
  refine zH<|zC<|zA (zf rfl rfl)<|zF<|zH ?_
  refine zX h rfl (fun b1 h => ?_) (fun b1 h => ?_)
  ·refine zP<|zH<|zQ<|zH<|zC<|zA (zB rfl) ?_
   refine zA (zD rfl)<|zF<|zH<|zC<|zA (zB rfl)<|zA (zB rfl) ?_
   refine zA (zB rfl)<|zM h fun b2 h=>zA (zT Tryz.underlying22 Tryz.sizeOf3 (fun _=>rfl) rfl rfl b2)<|zA (zU (o:=0) Tryz.isAgg3 rfl rfl)<|zA (zAv rfl rfl)<|zF ?_
   refine zX h rfl (fun b3 h => ?_) (fun b3 h => ?_)
   ·refine zH<|zC<|zA (zB rfl)<|zA (zD rfl)<|zF<|zd ?_
    cases h
    exact zu (zAH rfl rfl)
   refine zP<|zC<|zM h fun b4 h=>zA (ze rfl rfl b4)<|zA (zB rfl)<|zF ?_
   exact ⟨(i1+1),z9 [] rfl rfl (by kernel_rfl),h⟩
  refine zw ?_
  exact ⟨(),z9 [] rfl rfl (by kernel_rfl),h⟩
 clear h
 intro _ h
 unfold zEU at h
 refine zH<|zC<|zA (zD rfl)<|zF<|zd ?_
 cases h
 exact zu (zAH rfl rfl)
theorem zJF {X:List Int} {uP:Int} {r:Bool} (h:zBz X uP=some r):PFn Tryz.prog 128 [ls cI X,li uP] (AV.lit (.bool r)):=by
 refine zo Tryz.func128 rfl Tryz.ntmps128 Tryz.results128 rfl ?_
 unfold zBz at h
 refine zH<|zC<|zA (zD rfl)<|zF<|zH<|zC ?_
 refine zA (zB rfl)<|zA (zB rfl)<|zR h fun x1 w1 h=>zh Tryz.func144 rfl (by kernel_rfl) (.fn 144) rfl rfl (zKD w1) rfl<|zA (zAw rfl rfl)<|zA (zD rfl) ?_
 refine zF<|zd ?_
 cases h
 exact zu (zAH rfl rfl)
theorem zLD {J:zL} {uI:Int} {uM:Int} {r:Bool} (h:zG4 J uI uM=some r):PFn Tryz.prog 127 [(AV.agg (zG J)),(AV.rp [li uI] 0),(AV.rp [li uM] 0)] (AV.lit (.bool r)):=by
 refine zo Tryz.func127 rfl Tryz.ntmps127 Tryz.results127 rfl ?_
 unfold zG4 at h
 refine zH<|zC<|za (H':=[.box 55 (zG J)]) (zv (t:=55) rfl)<|zA (zD rfl)<|zF<|zH ?_
 refine zM h fun b1 h=>zR h fun x1 w1 h => ?_
 refine zAl (n:=12) (m:=0) [.head 0 0,.head 0 0,.head 0 0,.head 0 0,.head 0 0,.head 0 0,.head 0 0,.head 0 0] [] [AV.ptr 0 0,(ls (cS cI) J.lists),li uI,(AV.rp ((cS cI) (at_ J.lists uI)) 0),(ls cI (at_ J.lists uI)),li uM,(AV.lit (.bool x1)),(AV.lit (.bool x1))] [[.box 55 (zG J)]] (by kernel_rfl) (by kernel_rfl) ⟨D1 fun e s p=>zK (k:=0) (o:=0) (off:=0) Tryz.underlying55 rfl rfl Tryz.sizeOf53 (s 3 rfl),D1 fun e s p=>zN (k:=0) (o:=0) Tryz.isAgg53 p.1 rfl rfl rfl,D1 fun e s p=>zU (o:=0) Tryz.isAgg3 (s 1 rfl) rfl,D1 fun e s p=>zT (f:=(cS cI)) (l:=J.lists) (i:=uI) Tryz.underlying53 Tryz.sizeOf22 (fun _=>rfl) p.1 p.2.1 b1,D1 fun e s p=>zU (o:=0) Tryz.isAgg22 p.1 rfl,D1 fun e s p=>zU (o:=0) Tryz.isAgg3 (s 2 rfl) rfl,?_,D1 fun e s p=>zD p.2.2.2.2.2.2.2.2.1,trivial⟩ ?_
 ·
  intro e7 s7 p7
  refine zh (r:=(AV.lit (.bool x1))) (la:=[(ls cI (at_ J.lists uI)),li uM]) Tryz.func128 rfl (by kernel_rfl) (.fn 128) (zAM p7.1 (zAM p7.2.1 rfl)) rfl (zJF w1) rfl ?_
  exact zF ⟨fun _=>rfl,rfl⟩
 intro e9 s9 hq1
 refine zAT (zBM (l:=[(4,(AV.lit (.bool x1)))]) ⟨(hq1 7 (by decide) (by decide)),trivial⟩)<|zd ?_
 cases h
 exact zu (zAH rfl rfl)
theorem zEM {X : List zL} {uC : zL → Option Bool} {g_a_f : FuncId} {cf_a_f : Func} {code_a_f : Code} {caps_a_f : List AV} (hcf_a_f : Tryz.prog.funcs[g_a_f]? = some cf_a_f) (hcb_a_f : cf_a_f.body = some code_a_f) (hcn_a_f : (cf_a_f.name == "runtime.NumGoroutine") = false) (hnr_a_f : caps_a_f.all nr = true) (hg_a_f : ∀ {x0 : zL} {y : Bool}, uC x0 = some y → PFn Tryz.prog g_a_f ((AV.agg (zG x0)) :: caps_a_f) (AV.lit (.bool y))) {r : Int} (h : zBK X uC = some r) : PFn Tryz.prog 126 [(ls zG X), (AV.clo g_a_f caps_a_f)] (li r) := by
 refine zo Tryz.func126 rfl Tryz.ntmps126 Tryz.results126 rfl ?_
 unfold zBK at h
 refine zH<|zC<|zA (zD rfl)<|zF ?_
 refine zt (r:=r) (fun (_:Unit)=>mkE []) (fun _=>[]) (fun _=>zA3 ) ?_ ?_
 ·
  refine zH<|zC<|zA (zB rfl)<|zA (zV Tryz.underlying24 rfl)<|zA (zB rfl)<|zF ?_
  refine zQ<|zq (σ:=Int) (fun i1=>mkE [(0,(ls zG X)),(1,(AV.clo g_a_f caps_a_f)),(7,(li (X.length:Int))),(8,(li i1))]) (fun i1=>[]) (fun n0 i1=>zAe X uC n0 i1) 0 h (fun _=>rfl) (zB1 (n:=19) (m:=0) [] (l:=[(0,(ls zG X)),(1,(AV.clo g_a_f caps_a_f)),(7,(li (X.length:Int))),(8,(li 0))]) ⟨⟨Sub.refl _,by kernel_rfl⟩,⟨zFH hnr_a_f,zFI hnr_a_f⟩,⟨Sub.refl _,by kernel_rfl⟩,⟨Sub.refl _,by kernel_rfl⟩,trivial⟩ rfl rfl trivial) ?_
  clear h
  intro n0 i1 h
  replace h:zA4 X uC (zAe X uC n0) i1=some r:=h
  unfold zA4 at h
  refine zH<|zC<|zA (zf rfl rfl)<|zF<|zH ?_
  refine zX h rfl (fun b1 h => ?_) (fun b1 h => ?_)
  ·refine zP<|zH<|zQ<|zH<|zC<|zA (zB rfl) ?_
   refine zA (zD rfl)<|zF<|zH<|zC<|zA (zB rfl)<|zA (zB rfl) ?_
   refine zA (zB rfl)<|zM h fun b2 h=>zA (zT Tryz.underlying24 Tryz.sizeOf55 (fun _=>rfl) rfl rfl b2)<|zA (zAi (row:=(zG (at_ X i1))) (o:=0) (m:=1) (la:=(zG (at_ X i1))) Tryz.isAgg55 Tryz.sizeOf55 rfl rfl rfl)<|zR h fun x1 w1 h=>zA2 (S:=[]) hcf_a_f hcb_a_f hcn_a_f (.clo (caps:=caps_a_f) rfl) rfl (zEJ.c (zAs.nr rfl) (zEJ.nrs hnr_a_f)) (hg_a_f w1) (.inl rfl) rfl ?_
   refine zF ?_
   refine zX h rfl (fun b3 h => ?_) (fun b3 h => ?_)
   ·refine zH<|zC<|zA (zB rfl)<|zA (zD rfl)<|zF<|zd ?_
    cases h
    exact zu (zAH rfl rfl)
   refine zP<|zC<|zM h fun b4 h=>zA (ze rfl rfl b4)<|zA (zB rfl)<|zF ?_
   exact ⟨(i1+1),zB1 (n:=19) (m:=0) [] (l:=[(0,(ls zG X)),(1,(AV.clo g_a_f caps_a_f)),(7,(li (X.length:Int))),(8,(li (i1+1)))]) ⟨⟨Sub.refl _,by kernel_rfl⟩,⟨zFH hnr_a_f,zFI hnr_a_f⟩,⟨Sub.refl _,by kernel_rfl⟩,⟨Sub.refl _,by kernel_rfl⟩,trivial⟩ rfl rfl trivial,h⟩
  refine zw ?_
  exact ⟨(),z9 [] rfl rfl (by kernel_rfl),h⟩
 clear h
 intro _ h
 unfold zA3 at h
 refine zH<|zC<|zA (zD rfl)<|zF<|zd ?_
 cases h
 exact zu (zAH rfl rfl)
theorem zLh {B:zJ} {C:Int} {U:Int} {r:Int} (h:zIk B C U=some r):PFn Tryz.prog 74 [(AV.agg (zI B)),li C,li U] (li r):=by
 refine zo Tryz.func74 rfl Tryz.ntmps74 Tryz.results74 rfl ?_
 unfold zIk at h
 refine zH<|zC<|za (H':=[.box 26 (zI B)]) (zv (t:=26) rfl)<|za (H':=[.box 26 (zI B),.box 3 [li C]]) (zJ4 (t:=3) (a:=(li C)) rfl rfl)<|za (H':=[.box 26 (zI B),.box 3 [li C],.box 3 [li U]]) (zJ4 (t:=3) (a:=(li U)) rfl rfl)<|zA (zD rfl) ?_
 refine zF<|zH<|zC<|zA (zK Tryz.underlying26 rfl rfl Tryz.sizeOf24 rfl)<|zA (zN Tryz.isAgg24 rfl rfl rfl rfl)<|zA (zMA (la:=[AV.ptr 1 0,AV.ptr 2 0]) rfl) ?_
 refine zR h fun x1 w1 h=>zA2 (r':=(li x1)) (la:=[ls zG B.caches,(AV.clo 127 [AV.ptr 1 0,AV.ptr 2 0])]) (la':=[ls zG B.caches,(AV.clo 127 [(AV.rp [li C] 0),(AV.rp [li U] 0)])]) (r:=(li x1)) (S:=[1,2]) Tryz.func126 rfl (by kernel_rfl) (.fn 126) rfl ⟨zAs.nr rfl,zAs.clo (⟨zAs.ptr (cs:=[li C]) rfl rfl rfl,zAs.ptr (cs:=[li U]) rfl rfl rfl,trivial⟩),trivial⟩ (zEM Tryz.func127 rfl (by kernel_rfl) rfl (fun hy=>zLD  hy) w1) (.inr trivial) rfl<|zA (zD rfl)<|zF<|zd ?_
 cases h
 exact zu (zAH rfl rfl)
theorem zJ1 {B:zJ} {C:Int} {U:Int} {r:Bool} (h:zIB B C U=some r):PFn Tryz.prog 50 [(AV.agg (zI B)),li C,li U] (AV.lit (.bool r)):=by
 refine zo Tryz.func50 rfl Tryz.ntmps50 Tryz.results50 rfl ?_
 unfold zIB at h
 refine zH<|zC<|za (H':=[.box 26 (zI B)]) (zv (t:=26) rfl)<|zA (zD rfl)<|zF<|zH ?_
 refine zC<|zA (zK Tryz.underlying26 rfl rfl Tryz.sizeOf23 rfl)<|zA (zN Tryz.isAgg23 rfl rfl rfl rfl)<|zA (zB rfl)<|zM h fun b1 h=>zA (zT Tryz.underlying23 Tryz.sizeOf51 (fun _=>rfl) rfl rfl b1) ?_
 refine zA (zAi (row:=(zO (at_ B.zones C))) (o:=0) (m:=10) (la:=(zO (at_ B.zones C))) Tryz.isAgg51 Tryz.sizeOf51 rfl rfl rfl)<|zA (zB rfl)<|zR h fun x1 w1 h=>zh Tryz.func45 rfl (by kernel_rfl) (.fn 45) rfl rfl (zKk w1) rfl<|zA (zB rfl)<|zW rfl rfl (fun c1=>zp.step (zS (k:=0) (o:=0) (m:=5) Tryz.isAgg26 Tryz.sizeOf26 rfl rfl rfl rfl rfl)) ?_
 refine zW rfl rfl (fun c2=>zp.step (zB rfl))<|zW rfl rfl (fun c3=>zp.step (zB rfl))<|zR h fun x2 w2 h=>zCv (g:=14) (s:=x1) (r':=(li x2)) rfl rfl (fun c4=>⟨74,_,_,[],[(AV.agg (zI B)),li C,li U],[(AV.agg (zI B)),li C,li U],li x2,[],Tryz.func74,rfl,by kernel_rfl,.fn 74,(zAM (z6 rfl c4) (zAM (z6 rfl c4) (zAM (z6 rfl c4) rfl))),⟨zAs.nr rfl,zAs.nr rfl,zAs.nr rfl,trivial⟩,zLh (zGm c4 w2),.inl rfl,rfl⟩)<|zW rfl rfl (fun c5=>zp.step (zAw (z6 rfl c5) rfl))<|zA (zg rfl rfl) ?_
 refine zA (zD rfl)<|zF<|zd ?_
 cases h
 exact zu (zAH rfl rfl)
theorem zJD {B:zJ} {U:Int} {r:Bool} (h:zGa B U=some r):PFn Tryz.prog 19 [(AV.agg (zI B)),li U] (AV.lit (.bool r)):=by
 refine zo Tryz.func19 rfl Tryz.ntmps19 Tryz.results19 rfl ?_
 unfold zGa at h
 refine zH<|zC<|za (H':=[.box 26 (zI B)]) (zv (t:=26) rfl)<|zA (zD rfl)<|zF<|zH ?_
 refine zH<|zC<|zA (zS (k:=0) (o:=0) (m:=5) Tryz.isAgg26 Tryz.sizeOf26 rfl rfl rfl rfl rfl)<|zR h fun x1 w1 h=>zh Tryz.func13 rfl (by kernel_rfl) (.fn 13) rfl rfl (zBD w1) rfl<|zA (zz rfl rfl) ?_
 refine zF ?_
 refine zX h rfl (fun b1 h => ?_) (fun b1 h => ?_)
 ·refine zH<|zC<|zA (zD rfl)<|zF<|zd ?_
  cases h
  exact zu (zAH rfl rfl)
 refine zP<|zH<|zC<|zA (zS (k:=0) (o:=0) (m:=5) Tryz.isAgg26 Tryz.sizeOf26 rfl rfl rfl rfl rfl)<|zA (zB rfl)<|zR h fun x2 w2 h => ?_
 refine zh Tryz.func44 rfl (by kernel_rfl) (.fn 44) rfl rfl (zFx w2) rfl<|zA (zD rfl)<|zF<|zH<|zC<|zA (zB rfl) ?_
 refine zA (zAw rfl rfl)<|zA (zB rfl)<|zm rfl rfl (fun c1=>zp.step (zS (k:=0) (o:=0) (m:=5) Tryz.isAgg26 Tryz.sizeOf26 rfl rfl rfl rfl rfl))<|zm rfl rfl (fun c2=>zp.step (zB rfl))<|zm rfl rfl (fun c3=>zp.step (zB rfl))<|zR h fun x3 w3 h => ?_
 refine zCy (g:=14) (s:=decide (0≤x2)) (r':=(AV.lit (.bool x3))) rfl rfl (fun c4=>⟨50,_,_,[],[(AV.agg (zI B)),li x2,li U],[(AV.agg (zI B)),li x2,li U],(AV.lit (.bool x3)),[],Tryz.func50,rfl,by kernel_rfl,.fn 50,(zAM (z6 rfl c4) (zAM (z6 rfl c4) (zAM (z6 rfl c4) rfl))),⟨zAs.nr rfl,zAs.nr rfl,zAs.nr rfl,trivial⟩,zJ1 (zGm c4 w3),.inl rfl,rfl⟩)<|zA (zx (j := .lit undef) rfl rfl)<|zA (zD rfl)<|zF<|zd ?_
 cases h
 exact zu (zAH rfl rfl)
theorem zMQ {B:zJ} {C:Int} {r:Int} (h:zJR B C=some r):PFn Tryz.prog 21 [(AV.agg (zI B)),li C] (li r):=by
 refine zo Tryz.func21 rfl Tryz.ntmps21 Tryz.results21 rfl ?_
 unfold zJR at h
 refine zH<|zC<|za (H':=[.box 26 (zI B)]) (zv (t:=26) rfl)<|zA (zD rfl)<|zF<|zH ?_
 refine zH<|zC<|zA (zS (k:=0) (o:=0) (m:=5) Tryz.isAgg26 Tryz.sizeOf26 rfl rfl rfl rfl rfl)<|zR h fun x1 w1 h=>zh Tryz.func13 rfl (by kernel_rfl) (.fn 13) rfl rfl (zBD w1) rfl<|zA (zz rfl rfl) ?_
 refine zA (zB rfl)<|zW rfl rfl (fun c1=>zp.step (zB rfl))<|zW rfl rfl (fun c2=>zp.step (zf (z6 rfl c2) rfl))<|zA (zg rfl rfl)<|zA (zB rfl)<|zW rfl rfl (fun c3=>zp.step (zB rfl)) ?_
 refine zW rfl rfl (fun c4=>zp.step (zK Tryz.underlying26 rfl rfl Tryz.sizeOf23 rfl))<|zW rfl rfl (fun c5=>zp.step (zN Tryz.isAgg23 (z6 rfl c5) rfl rfl rfl))<|zW rfl rfl (fun c6=>zp.step (zV Tryz.underlying23 (z6 rfl c6)))<|zW rfl rfl (fun c7=>zp.step (zAw (z6 rfl c7) (z6 rfl c7)))<|zA (zg rfl rfl)<|zF ?_
 refine zX h rfl (fun b1 h => ?_) (fun b1 h => ?_)
 ·refine zH<|zC<|zA (zD rfl)<|zF<|zd ?_
  cases h
  exact zu (zAH rfl rfl)
 refine zP<|zH<|zC<|zA (zS (k:=0) (o:=0) (m:=5) Tryz.isAgg26 Tryz.sizeOf26 rfl rfl rfl rfl rfl)<|zA (zB rfl)<|zR h fun x2 w2 h => ?_
 refine zh Tryz.func52 rfl (by kernel_rfl) (.fn 52) rfl rfl (zG0 w2) rfl<|zA (zD rfl)<|zF<|zd ?_
 cases h
 exact zu (zAH rfl rfl)
theorem zMq {B:zJ} {U:Int} {r:Int} (h:zJu B U=some r):PFn Tryz.prog 17 [(AV.agg (zI B)),li U] (li r):=by
 refine zo Tryz.func17 rfl Tryz.ntmps17 Tryz.results17 rfl ?_
 unfold zJu at h
 refine zH<|zC<|za (H':=[.box 26 (zI B)]) (zv (t:=26) rfl)<|zA (zD rfl)<|zF<|zH ?_
 refine zH<|zC<|zA (zS (k:=0) (o:=0) (m:=5) Tryz.isAgg26 Tryz.sizeOf26 rfl rfl rfl rfl rfl)<|zR h fun x1 w1 h=>zh Tryz.func13 rfl (by kernel_rfl) (.fn 13) rfl rfl (zBD w1) rfl<|zA (zz rfl rfl) ?_
 refine zF ?_
 refine zX h rfl (fun b1 h => ?_) (fun b1 h => ?_)
 ·refine zH<|zC<|zA (zD rfl)<|zF<|zd ?_
  cases h
  exact zu (zAH rfl rfl)
 refine zP<|zH<|zC<|zA (zS (k:=0) (o:=0) (m:=5) Tryz.isAgg26 Tryz.sizeOf26 rfl rfl rfl rfl rfl)<|zA (zB rfl)<|zR h fun x2 w2 h => ?_
 refine zh Tryz.func44 rfl (by kernel_rfl) (.fn 44) rfl rfl (zFx w2) rfl<|zA (zD rfl)<|zF<|zd ?_
 cases h
 exact zu (zAH rfl rfl)
theorem zMS {A:zL} {D:Int} {G:Int} {Y:Int} {uX:Int} {r:zL×(List Int)×Int} (h:zMo A D G Y uX=some r):PFn Tryz.prog 67 [(AV.agg (zG A)),li D,li G,li Y,li uX] (AV.tup [(AV.agg (zG r.1)),ls cI r.2.1,li r.2.2]):=by
 refine zo Tryz.func67 rfl Tryz.ntmps67 Tryz.results67 rfl ?_
 unfold zMo at h
 refine zH<|zC<|za (H':=[.box 55 (zG A)]) (zv (t:=55) rfl)<|za (H':=[.box 55 (zG A),.box 55 [(ls (cS cI) ([]:List (List Int)))]]) zv1<|zA (zD rfl)<|zA (zD rfl) ?_
 refine zF<|zH<|zH<|zC<|zA (zS (k:=0) (o:=0) (m:=1) Tryz.isAgg55 Tryz.sizeOf55 rfl rfl rfl rfl rfl)<|zA (zB rfl) ?_
 refine zR h fun x1 w1 h=>zh Tryz.func111 rfl (by kernel_rfl) (.fn 111) rfl rfl (zHA w1) rfl<|zA (zD rfl)<|zF<|zH<|zC ?_
 refine zA (zB rfl)<|zA (zz rfl rfl)<|zF ?_
 refine zX h rfl (fun b1 h => ?_) (fun b1 h => ?_)
 ·refine zH<|zC<|zA zv2<|zA (zB rfl)<|zj (H':=[.box 55 (zG A),.box 55 (zG (⟨([]:List (List Int))⟩:zL))]) (zY (k:=1) (o:=0) (cs:=[(ls (cS cI) ([]:List (List Int)))]) (la:=(zG (⟨([]:List (List Int))⟩:zL))) Tryz.sizeOf55 rfl rfl rfl rfl)<|zA (zD rfl) ?_
  refine zA (zD rfl)<|zF<|zd ?_
  cases h
  exact zCX (zFM Tryz.isAgg55 Tryz.sizeOf55 rfl rfl rfl rfl) (zJE (zAH rfl rfl) zAt.nils) (zAH rfl rfl) rfl
 refine zP<|zH<|zH<|zC<|zA (zB rfl)<|zR h fun x2 w2 h => ?_
 refine zh Tryz.func88 rfl (by kernel_rfl) (.fn 88) rfl rfl (zHs w2) rfl<|zA (zBE (t:=x2) rfl)<|zF ?_
 refine zX h rfl (fun b2 h => ?_) (fun b2 h => ?_)
 ·refine zH<|zC<|zA zv2<|zj (H':=[.box 55 (zG A),.box 55 (zG (⟨([]:List (List Int))⟩:zL))]) (zY (k:=1) (o:=0) (cs:=[(ls (cS cI) ([]:List (List Int)))]) (la:=(zG (⟨([]:List (List Int))⟩:zL))) Tryz.sizeOf55 rfl rfl rfl rfl)<|zA (zD rfl)<|zA (zD rfl) ?_
  refine zF<|zd ?_
  cases h
  exact zCX (zFM Tryz.isAgg55 Tryz.sizeOf55 rfl rfl rfl rfl) (zJE (zAH rfl rfl) zAt.nils) (zAH rfl rfl) rfl
 refine zP<|zH<|zH<|zC<|zA (zB rfl)<|zA (zf rfl rfl) ?_
 refine zA (zB rfl)<|zW rfl rfl (fun c1=>zp.step (zB rfl))<|zW rfl rfl (fun c2=>zp.step (zB rfl))<|zW rfl rfl (fun c3=>zp.step (zAh (z6 rfl c3) (z6 rfl c3)))<|zA (zg rfl rfl)<|zF ?_
 refine zX h rfl (fun b3 h => ?_) (fun b3 h => ?_)
 ·refine zH<|zC<|zA zv2<|zj (H':=[.box 55 (zG A),.box 55 (zG (⟨([]:List (List Int))⟩:zL))]) (zY (k:=1) (o:=0) (cs:=[(ls (cS cI) ([]:List (List Int)))]) (la:=(zG (⟨([]:List (List Int))⟩:zL))) Tryz.sizeOf55 rfl rfl rfl rfl)<|zA (zD rfl)<|zA (zD rfl) ?_
  refine zF<|zd ?_
  cases h
  exact zCX (zFM Tryz.isAgg55 Tryz.sizeOf55 rfl rfl rfl rfl) (zJE (zAH rfl rfl) zAt.nils) (zAH rfl rfl) rfl
 refine zP<|zH<|zH<|zC<|zA (zS (k:=0) (o:=0) (m:=1) Tryz.isAgg55 Tryz.sizeOf55 rfl rfl rfl rfl rfl)<|zR h fun x3 w3 h => ?_
 refine zNS (es:=mI Value.bool x3) (la:=[(AV.agg (zG A))]) (la':=[(AV.agg (zG A))]) (S:=[]) Tryz.func89 rfl (by kernel_rfl) (.fn 89) rfl ⟨zAs.nr rfl,trivial⟩ (zIc w3)<|zA (zB rfl)<|zA (zNp (k:=2) (g:=Value.bool) (q:=G) (l:=x3) (dflt:=false) (a:=(AV.lit (.bool (zM0 false x3 G)))) Tryz.underlying58 Tryz.underlying3 Tryz.zeroValue4 rfl rfl rfl rfl)<|zF ?_
 refine zX h rfl (fun b4 h => ?_) (fun b4 h => ?_)
 ·refine zH<|zC<|zA zv2<|zj (H':=[.box 55 (zG A),.box 55 (zG (⟨([]:List (List Int))⟩:zL)),.map (mI Value.bool x3)]) (zY (k:=1) (o:=0) (cs:=[(ls (cS cI) ([]:List (List Int)))]) (la:=(zG (⟨([]:List (List Int))⟩:zL))) Tryz.sizeOf55 rfl rfl rfl rfl)<|zA (zD rfl)<|zA (zD rfl) ?_
  refine zF<|zd ?_
  cases h
  exact zCX (zFM Tryz.isAgg55 Tryz.sizeOf55 rfl rfl rfl rfl) (zJE (zAH rfl rfl) zAt.nils) (zAH rfl rfl) rfl
 refine zP<|zH<|zM h fun b5 h=>zM h fun b6 h=>zM h fun b7 h => ?_
 refine zAl (n:=85) (m:=0) [.head 0 0,.head 0 0,.head 0 0,.head 0 0,.head 0 0,.head 0 0,.head 0 0,.head 0 0,.head 0 0,.head 0 0,.head 0 0,.head 0 0,.head 0 0,.tail 0,.head 1 1] [13] [AV.ptr 0 0,(ls (cS cI) A.lists),li D,(AV.rp ((cS cI) (at_ A.lists D)) 0),(ls cI (at_ A.lists D)),(li ((at_ A.lists D).length:Int)),AV.ptr 0 0,(ls (cS cI) A.lists),li D,(AV.rp ((cS cI) (at_ A.lists D)) 0),(ls cI (at_ A.lists D)),(li ((at_ A.lists D).length:Int)),(li (((at_ A.lists D).length:Int)+1)),AV.hd 3,AV.hd 3] [[.box 55 (zG A),.box 55 [(ls (cS cI) ([]:List (List Int)))],.map (mI Value.bool x3)],[.box 55 (zG A),.box 55 [(ls (cS cI) ([]:List (List Int)))],.map (mI Value.bool x3),.vec 3 1 (List.map cI (List.replicate ((at_ A.lists D).length:Int).toNat 0))]] (by kernel_rfl) (by kernel_rfl) ⟨D1 fun e s p=>zK (k:=0) (o:=0) (off:=0) Tryz.underlying55 rfl rfl Tryz.sizeOf53 (s 5 rfl),D1 fun e s p=>zN (k:=0) (o:=0) Tryz.isAgg53 p.1 rfl rfl rfl,D1 fun e s p=>zB (s 1 rfl),D1 fun e s p=>zT (f:=(cS cI)) (l:=A.lists) (i:=D) Tryz.underlying53 Tryz.sizeOf22 (fun _=>rfl) p.1 p.2.1 b5,D1 fun e s p=>zU (o:=0) Tryz.isAgg22 p.1 rfl,D1 fun e s p=>zV (f:=cI) (l:=at_ A.lists D) Tryz.underlying22 p.1,D1 fun e s p=>zK (k:=0) (o:=0) (off:=0) Tryz.underlying55 rfl rfl Tryz.sizeOf53 (s 5 rfl),D1 fun e s p=>zN (k:=0) (o:=0) Tryz.isAgg53 p.1 rfl rfl rfl,D1 fun e s p=>zB (s 1 rfl),D1 fun e s p=>zT (f:=(cS cI)) (l:=A.lists) (i:=D) Tryz.underlying53 Tryz.sizeOf22 (fun _=>rfl) p.1 p.2.1 b5,D1 fun e s p=>zU (o:=0) Tryz.isAgg22 p.1 rfl,D1 fun e s p=>zV (f:=cI) (l:=at_ A.lists D) Tryz.underlying22 p.1,D1 fun e s p=>ze (a:=((at_ A.lists D).length:Int)) (b:=1) p.1 rfl b6,?_,D1 fun e s p=>zD p.2.2.2.2.2.2.2.2.2.2.2.2.2.2.1,trivial⟩ ?_
 ·
  intro e14 s14 p14
  refine zEa (f:=cI) (a:=((at_ A.lists D).length:Int)) (c:=((at_ A.lists D).length:Int)+1) (d0:=0) zE0 ⟨zAt.refl _,trivial⟩ rfl Tryz.underlying22 p14.1 p14.2.1 b7 ?_
  exact zF ⟨fun _=>rfl,rfl⟩
 intro e16 s16 hq1
 refine zAT (zBM (l:=[(1,(li D)),(2,(li G)),(3,(li Y)),(4,(li uX)),(5,(AV.ptr 0 0)),(10,(AV.ptr 1 0)),(14,(AV.hd 3))]) ⟨s16 1 rfl,s16 2 rfl,s16 3 rfl,s16 4 rfl,s16 5 rfl,s16 10 rfl,(hq1 14 (by decide) (by decide)),trivial⟩)<|zH<|zC<|zA (zB (av:=(AV.hd 3)) rfl)<|zA (zK (k:=0) (o:=0) (off:=0) Tryz.underlying55 rfl rfl Tryz.sizeOf53 rfl)<|zA (zN (k:=0) (o:=0) (a:=(ls (cS cI) A.lists)) Tryz.isAgg53 rfl rfl rfl rfl) ?_
 refine zA (zB rfl)<|zA (zT Tryz.underlying53 Tryz.sizeOf22 (fun _=>rfl) rfl rfl b5)<|zA (zU (o:=0) Tryz.isAgg22 rfl rfl)<|za (H':=[.box 55 (zG A),.box 55 [(ls (cS cI) ([]:List (List Int)))],.map (mI Value.bool x3),.vec 3 1 (List.map cI (zC7 (List.replicate ((at_ A.lists D).length:Int).toNat 0) (at_ A.lists D)))]) (zLM (f:=cI) (k:=3) (l:=List.replicate ((at_ A.lists D).length:Int).toNat 0) (l2:=at_ A.lists D) Tryz.underlying22 Tryz.sizeOf3 (fun _=>rfl) rfl rfl rfl)<|zF<|zH ?_
 refine zC<|zA (zB rfl)<|zA (zB rfl)<|zEP (a:=(li G)) zE0 Tryz.underlying22 rfl rfl rfl rfl<|zM h fun b8 h=>zBp (f:=cI) (k:=3) (j:=4) (l:=zC7 (List.replicate ((at_ A.lists D).length:Int).toNat 0) (at_ A.lists D)) (l':=[G]) zE0 (fun _=>rfl) Tryz.underlying22 rfl rfl rfl rfl b8 ?_
 refine zA (zD rfl)<|zF<|zH<|zH<|zC<|zA (zB rfl) ?_
 refine zA (zDF (f:=cI) (l:=(zC7 (List.replicate ((at_ A.lists D).length:Int).toNat 0) (at_ A.lists D))++[G]) Tryz.underlying22 rfl rfl)<|zA (zB rfl)<|zA (zCu rfl rfl)<|zF ?_
 refine zX h rfl (fun b9 h => ?_) (fun b9 h => ?_)
 ·refine zH<|zC<|zA (zS (k:=0) (o:=0) (m:=1) Tryz.isAgg55 Tryz.sizeOf55 rfl rfl rfl rfl rfl)<|zA (zB rfl)<|zA (zB rfl)<|zR h fun x4 w4 h => ?_
  refine zAA (zDR (j:=5) (ds:=[14,64,65,71]) (rows':=List.map cI ((zC7 (List.replicate ((at_ A.lists D).length:Int).toNat 0) (at_ A.lists D))++[G])) rfl (zAL (fun _=>rfl)) ⟨rfl,rfl,rfl,rfl,trivial⟩)<|zR h fun x5 w5 h=>zh Tryz.func112 rfl (by kernel_rfl) (.fn 112) rfl rfl (zEb w5) rfl<|zj (H':=[.box 55 (zG A),.box 55 (zG x5),.map (mI Value.bool x3),.dead,.vec 3 1 (List.map cI [G]),.dead]) (zY (k:=1) (o:=0) (cs:=[(ls (cS cI) ([]:List (List Int)))]) (la:=(zG x5)) Tryz.sizeOf55 rfl rfl rfl rfl)<|zA (zD rfl)<|zA (zD rfl) ?_
  refine zF<|zd ?_
  cases h
  exact zCX (zFM Tryz.isAgg55 Tryz.sizeOf55 rfl rfl rfl rfl) (zJE (zAH rfl rfl) zAt.nils) (zAH rfl rfl) rfl
 refine zP<|zH<|zC<|zA (zB rfl)<|zM h fun b10 h=>zEa (f:=cI) (a:=Y) (c:=Y) (d0:=0) zE0 ⟨zAt.refl _,trivial⟩ rfl Tryz.underlying22 rfl rfl b10 ?_
 refine zA (zD rfl)<|zF<|zH<|zC<|zA (zB rfl)<|zA (zB rfl) ?_
 refine za (H':=[.box 55 (zG A),.box 55 [(ls (cS cI) ([]:List (List Int)))],.map (mI Value.bool x3),.dead,.vec 3 1 (List.map cI [G]),.vec 3 1 (List.map cI ((zC7 (List.replicate ((at_ A.lists D).length:Int).toNat 0) (at_ A.lists D))++[G])),.vec 3 1 (List.map cI (zC7 (List.replicate Y.toNat 0) ((zC7 (List.replicate ((at_ A.lists D).length:Int).toNat 0) (at_ A.lists D))++[G])))]) (zQX (f:=cI) (k:=6) (j:=5) (l:=List.replicate Y.toNat 0) (l2:=(zC7 (List.replicate ((at_ A.lists D).length:Int).toNat 0) (at_ A.lists D))++[G]) Tryz.underlying22 Tryz.sizeOf3 (fun _=>rfl) rfl rfl rfl rfl)<|zF<|zH<|zAT (zDR (j:=5) (ds:=[14,64,65,76]) (rows':=List.map cI ((zC7 (List.replicate ((at_ A.lists D).length:Int).toNat 0) (at_ A.lists D))++[G])) rfl (zAL (fun _=>rfl)) ⟨rfl,rfl,rfl,rfl,trivial⟩)<|zM h fun b11 h=>zR h fun x6 w6 h => ?_
 refine zAl (n:=85) (m:=0) [.head 0 0,.head 0 0,.head 0 0,.head 0 0,.head 0 0,.head 0 0,.head 0 1,.tail 0,.head 1 1,.head 1 1] [7] [(AV.agg (zG A)),li D,(ls cI ((zC7 (List.replicate ((at_ A.lists D).length:Int).toNat 0) (at_ A.lists D))++[G])),li Y,(ls cI (zIY ((zC7 (List.replicate ((at_ A.lists D).length:Int).toNat 0) (at_ A.lists D))++[G]) Y (((zC7 (List.replicate ((at_ A.lists D).length:Int).toNat 0) (at_ A.lists D))++[G]).length:Int))),(AV.agg (zG x6)),AV.hd 6,.any,AV.hd 6,li 0] [[.box 55 (zG A),.box 55 [(ls (cS cI) ([]:List (List Int)))],.map (mI Value.bool x3),.dead,.vec 3 1 (List.map cI [G]),.dead,.vec 3 1 (List.map cI (zC7 (List.replicate Y.toNat 0) ((zC7 (List.replicate ((at_ A.lists D).length:Int).toNat 0) (at_ A.lists D))++[G])))],[.box 55 (zG A),.box 55 (zG x6),.map (mI Value.bool x3),.dead,.vec 3 1 (List.map cI [G]),.dead,.vec 3 1 (List.map cI (zC7 (List.replicate Y.toNat 0) ((zC7 (List.replicate ((at_ A.lists D).length:Int).toNat 0) (at_ A.lists D))++[G])))]] (by kernel_rfl) (by kernel_rfl) ⟨D1 fun e s p=>zS (k:=0) (o:=0) (m:=1) Tryz.isAgg55 Tryz.sizeOf55 (s 5 rfl) rfl rfl rfl rfl,D1 fun e s p=>zB (s 1 rfl),D1 fun e s p=>zB (s 14 rfl),D1 fun e s p=>zB (s 3 rfl),D1 fun e s p=>zP4 (lo:=Y) (f:=cI) (l:=(zC7 (List.replicate ((at_ A.lists D).length:Int).toNat 0) (at_ A.lists D))++[G]) Tryz.underlying22 Tryz.sizeOf3 (fun _=>rfl) p.1 p.2.1 b11,?_,⟨D1 fun e s p=>zB (s 15 rfl),D1 fun e s p=>zB (s 15 rfl)⟩,?_,D1 fun e s p=>zD p.2.2.2.2.2.2.2.2.1,D1 fun e s p=>zD rfl,trivial⟩ ?_
 ·
  intro e22 s22 p21
  refine zh (r:=(AV.agg (zG x6))) (la:=[(AV.agg (zG A)),li D,(ls cI (zIY ((zC7 (List.replicate ((at_ A.lists D).length:Int).toNat 0) (at_ A.lists D))++[G]) Y (((zC7 (List.replicate ((at_ A.lists D).length:Int).toNat 0) (at_ A.lists D))++[G]).length:Int)))]) Tryz.func112 rfl (by kernel_rfl) (.fn 112) (zAM p21.1 (zAM p21.2.1 (zAM p21.2.2.1 rfl))) rfl (zEb w6) rfl ?_
  exact zF ⟨fun _=>rfl,rfl⟩
 ·
  intro e25 s25 p24
  refine zj (H':=[.box 55 (zG A),.box 55 (zG x6),.map (mI Value.bool x3),.dead,.vec 3 1 (List.map cI [G]),.dead,.vec 3 1 (List.map cI (zC7 (List.replicate Y.toNat 0) ((zC7 (List.replicate ((at_ A.lists D).length:Int).toNat 0) (at_ A.lists D))++[G])))]) (zY (k:=1) (o:=0) (cs:=[(ls (cS cI) ([]:List (List Int)))]) (la:=(zG x6)) Tryz.sizeOf55 (by exact (s25 10 rfl)) rfl rfl (by exact p24.2.2.2.2.2.2.2.1)) ?_
  exact zF ⟨fun _=>rfl,rfl⟩
 intro e28 s28 hq2
 refine zAT (zBM (l:=[(10,(AV.ptr 1 0)),(11,(AV.hd 6)),(12,(li 0))]) ⟨s28 10 rfl,(hq2 8 (by decide) (by decide)),(hq2 9 (by decide) (by decide)),trivial⟩)<|zAT (zDR (j:=6) (ds:=[11]) (rows':=List.map cI (zC7 (List.replicate Y.toNat 0) ((zC7 (List.replicate ((at_ A.lists D).length:Int).toNat 0) (at_ A.lists D))++[G]))) rfl (zAL (fun _=>rfl)) ⟨rfl,trivial⟩)<|zd ?_
 cases h
 exact zCX (zFM Tryz.isAgg55 Tryz.sizeOf55 rfl rfl rfl rfl) (zAH rfl rfl) (zAH rfl rfl) rfl
theorem zMc {A:zJ} {D:Int} {G:Int} {r:zJ×Int} (h:zJz A D G=some r):PFn Tryz.prog 28 [(AV.agg (zI A)),li D,li G] (AV.tup [(AV.agg (zI r.1)),li r.2]):=by
 refine zo Tryz.func28 rfl Tryz.ntmps28 Tryz.results28 rfl ?_
 unfold zJz at h
 refine zH<|zC<|za (H':=[.box 26 (zI A)]) (zv (t:=26) rfl)<|za (H':=[.box 26 (zI A),.box 26 (zI ⟨[],0,0,[],[]⟩)]) zv3<|zA (zD rfl)<|zF ?_
 refine zH<|zH<|zC<|zA (zS (k:=0) (o:=0) (m:=5) Tryz.isAgg26 Tryz.sizeOf26 rfl rfl rfl rfl rfl)<|zR h fun x1 w1 h=>zh Tryz.func13 rfl (by kernel_rfl) (.fn 13) rfl rfl (zBD w1) rfl ?_
 refine zA (zD rfl)<|zF<|zH<|zC<|zA (zB rfl)<|zA (zz rfl rfl) ?_
 refine zF ?_
 refine zX h rfl (fun b1 h => ?_) (fun b1 h => ?_)
 ·refine zH<|zC<|zA zQY<|zA (zB rfl)<|zj (H':=[.box 26 (zI A),.box 26 (zI (⟨([]:List Int),0,0,([]:List zi),([]:List zL)⟩:zJ))]) (zY (k:=1) (o:=0) (cs:=(zI ⟨[],0,0,[],[]⟩)) (la:=(zI (⟨([]:List Int),0,0,([]:List zi),([]:List zL)⟩:zJ))) Tryz.sizeOf26 rfl rfl rfl rfl)<|zA (zD rfl) ?_
  refine zF<|zd ?_
  cases h
  exact zBy (zFM Tryz.isAgg26 Tryz.sizeOf26 rfl rfl rfl rfl) (zAH rfl rfl) rfl
 refine zP<|zH<|zC<|zA (zS (k:=0) (o:=0) (m:=5) Tryz.isAgg26 Tryz.sizeOf26 rfl rfl rfl rfl rfl)<|zA (zB rfl)<|zR h fun x2 w2 h => ?_
 refine zh Tryz.func44 rfl (by kernel_rfl) (.fn 44) rfl rfl (zFx w2) rfl<|zA (zD rfl)<|zF<|zH<|zH<|zC ?_
 refine zA (zB rfl)<|zA (zf rfl rfl)<|zA (zB rfl)<|zW rfl rfl (fun c1=>zp.step (zB rfl))<|zW rfl rfl (fun c2=>zp.step (zK Tryz.underlying26 rfl rfl Tryz.sizeOf22 rfl))<|zW rfl rfl (fun c3=>zp.step (zN Tryz.isAgg22 (z6 rfl c3) rfl rfl rfl)) ?_
 refine zW rfl rfl (fun c4=>zp.step (zV Tryz.underlying22 (z6 rfl c4)))<|zW rfl rfl (fun c5=>zp.step (zAw (z6 rfl c5) (z6 rfl c5)))<|zA (zg rfl rfl)<|zA (zB rfl)<|zW rfl rfl (fun c6=>zp.step (zB rfl))<|zW rfl rfl (fun c7=>zp.step (zf (z6 rfl c7) rfl)) ?_
 refine zA (zg rfl rfl)<|zF ?_
 refine zX h rfl (fun b2 h => ?_) (fun b2 h => ?_)
 ·refine zH<|zC<|zA zQY<|zj (H':=[.box 26 (zI A),.box 26 (zI (⟨([]:List Int),0,0,([]:List zi),([]:List zL)⟩:zJ))]) (zY (k:=1) (o:=0) (cs:=(zI ⟨[],0,0,[],[]⟩)) (la:=(zI (⟨([]:List Int),0,0,([]:List zi),([]:List zL)⟩:zJ))) Tryz.sizeOf26 rfl rfl rfl rfl)<|zA (zD rfl)<|zF ?_
  refine zd ?_
  cases h
  exact zBy (zFM Tryz.isAgg26 Tryz.sizeOf26 rfl rfl rfl rfl) (zAH rfl rfl) rfl
 refine zP<|zH<|zH<|zC<|zA (zS (k:=0) (o:=0) (m:=5) Tryz.isAgg26 Tryz.sizeOf26 rfl rfl rfl rfl rfl)<|zA (zB rfl) ?_
 refine zA (zB rfl)<|zR h fun x3 w3 h=>zh Tryz.func50 rfl (by kernel_rfl) (.fn 50) rfl rfl (zJ1 w3) rfl<|zF ?_
 refine zX h rfl (fun b3 h => ?_) (fun b3 h => ?_)
 ·refine zH<|zC<|zA zQY<|zj (H':=[.box 26 (zI A),.box 26 (zI (⟨([]:List Int),0,0,([]:List zi),([]:List zL)⟩:zJ))]) (zY (k:=1) (o:=0) (cs:=(zI ⟨[],0,0,[],[]⟩)) (la:=(zI (⟨([]:List Int),0,0,([]:List zi),([]:List zL)⟩:zJ))) Tryz.sizeOf26 rfl rfl rfl rfl)<|zA (zD rfl)<|zF ?_
  refine zd ?_
  cases h
  exact zBy (zFM Tryz.isAgg26 Tryz.sizeOf26 rfl rfl rfl rfl) (zAH rfl rfl) rfl
 refine zP<|zH<|zC<|zA (zS (k:=0) (o:=0) (m:=5) Tryz.isAgg26 Tryz.sizeOf26 rfl rfl rfl rfl rfl)<|zR h fun x4 w4 h=>zGK (cs:=[ls cI x4.nodes,li x4.batch,li x4.high,AV.osl 51 10 (List.map zO x4.zones),AV.osl 55 1 (List.map zG x4.caches)]) (la:=[(AV.agg (zI A))]) (la':=[(AV.agg (zI A))]) (S:=[]) Tryz.func54 rfl (by kernel_rfl) (.fn 54) rfl ⟨zAs.nr rfl,trivial⟩ (zFP w4) (.inl rfl) ?_
 refine za (H':=[.box 26 (zI A),.box 26 (zI ⟨[],0,0,[],[]⟩),.val (.agg [ls cI x4.nodes,li x4.batch,li x4.high,AV.osl 51 10 (List.map zO x4.zones),AV.osl 55 1 (List.map zG x4.caches)]),.box 26 (zI ⟨[],0,0,[],[]⟩)]) zv3<|zj (H':=[.box 26 (zI A),.box 26 (zI ⟨[],0,0,[],[]⟩),.dead,.box 26 [ls cI x4.nodes,li x4.batch,li x4.high,AV.osl 51 10 (List.map zO x4.zones),AV.osl 55 1 (List.map zG x4.caches)]]) (zCG (k:=3) (o:=0) (j:=2) (cs:=(zI ⟨[],0,0,[],[]⟩)) (la:=[ls cI x4.nodes,li x4.batch,li x4.high,AV.osl 51 10 (List.map zO x4.zones),AV.osl 55 1 (List.map zG x4.caches)]) Tryz.sizeOf26 rfl rfl rfl rfl rfl (by decide))<|zF<|zH<|zAT (zAd (k:=3) (o:=4) (t':=55) (sz:=1) (rows:=List.map zG x4.caches) rfl rfl)<|zM h fun b4 h => ?_
 refine zR h fun x5 w5 h => ?_
 refine zAl (n:=73) (m:=0) [.head 0 1,.head 0 1,.head 0 1,.head 0 1,.head 0 1,.head 0 1,.head 0 1,.head 0 1,.head 0 1,.head 0 1,.head 0 1,.head 0 1,.head 0 1,.head 0 1,.head 0 2,.head 0 2,.tail 0,.tail 1,.head 2 2,.head 2 2] [16,17] [AV.ptr 3 4,AV.hd 4,li D,(AV.ptr 4 (D.toNat*1)),(AV.agg (zG (at_ x4.caches D))),li x2,li G,AV.ptr 3 1,li x4.batch,AV.ptr 3 2,li x4.high,(AV.tup [(AV.agg (zG x5.1)),ls cI x5.2.1,li x5.2.2]),(AV.tup [(AV.agg (zG x5.1)),ls cI x5.2.1,li x5.2.2]),(AV.agg (zG x5.1)),ls cI x5.2.1,li x5.2.2,AV.ptr 5 0,.any,ls cI x5.2.1,li x5.2.2] [[.box 26 (zI A),.box 26 (zI ⟨[],0,0,[],[]⟩),.dead,.box 26 [ls cI x4.nodes,li x4.batch,li x4.high,AV.osl 51 10 (List.map zO x4.zones),AV.hd 4],.vec 55 1 (List.map zG x4.caches)],[.box 26 (zI A),.box 26 (zI ⟨[],0,0,[],[]⟩),.dead,.box 26 [ls cI x4.nodes,li x4.batch,li x4.high,AV.osl 51 10 (List.map zO x4.zones),AV.hd 4],.vec 55 1 (List.map zG x4.caches),.box 55 [(ls (cS cI) ([]:List (List Int)))]],[.box 26 (zI A),.box 26 (zI ⟨[],0,0,[],[]⟩),.dead,.box 26 [ls cI x4.nodes,li x4.batch,li x4.high,AV.osl 51 10 (List.map zO x4.zones),AV.hd 4],.vec 55 1 (List.map zG x4.caches),.box 55 (zG x5.1)]] (by kernel_rfl) (by kernel_rfl) ⟨⟨D1 fun e s p=>zK (k:=3) (o:=0) (off:=4) Tryz.underlying26 rfl rfl Tryz.sizeOf24 (s 10 rfl),D1 fun e s p=>zK (k:=3) (o:=0) (off:=4) Tryz.underlying26 rfl rfl Tryz.sizeOf24 (s 10 rfl)⟩,⟨D1 fun e s p=>zN (k:=3) (o:=4) Tryz.isAgg24 p.1 rfl rfl rfl,D1 fun e s p=>zN (k:=3) (o:=4) Tryz.isAgg24 p.1 rfl rfl rfl⟩,⟨D1 fun e s p=>zB (s 1 rfl),D1 fun e s p=>zB (s 1 rfl)⟩,⟨D1 fun e s p=>zy (f:=zG) (l:=x4.caches) (i:=D) Tryz.underlying24 Tryz.sizeOf55 p.1 rfl p.2.1 b4,D1 fun e s p=>zy (f:=zG) (l:=x4.caches) (i:=D) Tryz.underlying24 Tryz.sizeOf55 p.1 rfl p.2.1 b4⟩,⟨D1 fun e s p=>zBn (f:=zG) (l:=x4.caches) (i:=D) (c:=0) (q:=1) (la:=(zG (at_ x4.caches D))) Tryz.isAgg55 Tryz.sizeOf55 p.1 rfl (by first | rfl | omega) b4 rfl rfl rfl,D1 fun e s p=>zBn (f:=zG) (l:=x4.caches) (i:=D) (c:=0) (q:=1) (la:=(zG (at_ x4.caches D))) Tryz.isAgg55 Tryz.sizeOf55 p.1 rfl (by first | rfl | omega) b4 rfl rfl rfl⟩,⟨D1 fun e s p=>zB (s 9 rfl),D1 fun e s p=>zB (s 9 rfl)⟩,⟨D1 fun e s p=>zB (s 2 rfl),D1 fun e s p=>zB (s 2 rfl)⟩,⟨D1 fun e s p=>zK (k:=3) (o:=0) (off:=1) Tryz.underlying26 rfl rfl Tryz.sizeOf3 (s 10 rfl),D1 fun e s p=>zK (k:=3) (o:=0) (off:=1) Tryz.underlying26 rfl rfl Tryz.sizeOf3 (s 10 rfl)⟩,⟨D1 fun e s p=>zN (k:=3) (o:=1) Tryz.isAgg3 p.1 rfl rfl rfl,D1 fun e s p=>zN (k:=3) (o:=1) Tryz.isAgg3 p.1 rfl rfl rfl⟩,⟨D1 fun e s p=>zK (k:=3) (o:=0) (off:=2) Tryz.underlying26 rfl rfl Tryz.sizeOf3 (s 10 rfl),D1 fun e s p=>zK (k:=3) (o:=0) (off:=2) Tryz.underlying26 rfl rfl Tryz.sizeOf3 (s 10 rfl)⟩,⟨D1 fun e s p=>zN (k:=3) (o:=2) Tryz.isAgg3 p.1 rfl rfl rfl,D1 fun e s p=>zN (k:=3) (o:=2) Tryz.isAgg3 p.1 rfl rfl rfl⟩,⟨?_,?_⟩,⟨D1 fun e s p=>zB p.1,D1 fun e s p=>zB p.1⟩,⟨D1 fun e s p=>zb p.1 rfl,D1 fun e s p=>zb p.1 rfl⟩,⟨D1 fun e s p=>zb p.1 rfl,D1 fun e s p=>zb p.1 rfl,D1 fun e s p=>zb p.1 rfl⟩,⟨D1 fun e s p=>zb p.1 rfl,D1 fun e s p=>zb p.1 rfl,D1 fun e s p=>zb p.1 rfl⟩,?_,?_,D1 fun e s p=>zD p.2.2.2.2.2.2.2.2.2.2.2.2.2.2.2.2.1,D1 fun e s p=>zD p.2.2.2.2.2.2.2.2.2.2.2.2.2.2.2.2.2.1,trivial⟩ ?_
 ·
  intro e23 s23 p23
  refine zh (r:=(AV.tup [(AV.agg (zG x5.1)),ls cI x5.2.1,li x5.2.2])) (la:=[(AV.agg (zG (at_ x4.caches D))),li x2,li G,li x4.batch,li x4.high]) Tryz.func67 rfl (by kernel_rfl) (.fn 67) (zAM p23.1 (zAM p23.2.1 (zAM p23.2.2.1 (zAM p23.2.2.2.1 (zAM p23.2.2.2.2.1 rfl))))) rfl (zMS w5) rfl ?_
  exact zF ⟨fun _=>rfl,rfl⟩
 ·
  intro e24 s24 p24
  refine zh (r:=(AV.tup [(AV.agg (zG x5.1)),ls cI x5.2.1,li x5.2.2])) (la:=[(AV.agg (zG (at_ x4.caches D))),li x2,li G,li x4.batch,li x4.high]) Tryz.func67 rfl (by kernel_rfl) (.fn 67) (zAM p24.1 (zAM p24.2.1 (zAM p24.2.2.1 (zAM p24.2.2.2.1 (zAM p24.2.2.2.2.1 rfl))))) rfl (zMS w5) rfl ?_
  exact zF ⟨fun _=>rfl,rfl⟩
 ·
  intro e35 s35 p35
  refine za (H':=[.box 26 (zI A),.box 26 (zI ⟨[],0,0,[],[]⟩),.dead,.box 26 [ls cI x4.nodes,li x4.batch,li x4.high,AV.osl 51 10 (List.map zO x4.zones),AV.hd 4],.vec 55 1 (List.map zG x4.caches),.box 55 [(ls (cS cI) ([]:List (List Int)))]]) zv1 ?_
  exact zF ⟨fun _=>rfl,rfl⟩
 ·
  intro e36 s36 p36
  refine zj (H':=[.box 26 (zI A),.box 26 (zI ⟨[],0,0,[],[]⟩),.dead,.box 26 [ls cI x4.nodes,li x4.batch,li x4.high,AV.osl 51 10 (List.map zO x4.zones),AV.hd 4],.vec 55 1 (List.map zG x4.caches),.box 55 (zG x5.1)]) (zY (k:=5) (o:=0) (cs:=[(ls (cS cI) ([]:List (List Int)))]) (la:=(zG x5.1)) Tryz.sizeOf55 (by exact p36.2.2.2.2.2.2.2.2.2.2.2.2.2.2.2.2.2.2.2.1) rfl rfl (by exact p36.2.2.2.2.2.2.2.2.2.2.2.2.2.2.2.2.1)) ?_
  exact zF ⟨fun _=>rfl,rfl⟩
 intro e39 s39 hq1
 refine zAT (zBM (l:=[(1,(li D)),(6,(AV.ptr 1 0)),(9,(li x2)),(10,(AV.ptr 3 0)),(11,(AV.ptr 5 0)),(12,(ls cI x5.2.1)),(13,(li x5.2.2))]) ⟨s39 1 rfl,s39 6 rfl,s39 9 rfl,s39 10 rfl,(hq1 16 (by decide) (by decide)),(hq1 18 (by decide) (by decide)),(hq1 19 (by decide) (by decide)),trivial⟩)<|zH<|zH<|zC<|zA (zB (av:=(li x5.2.2)) rfl)<|zA (zz (a:=x5.2.2) (b:=0) rfl rfl) ?_
 refine zF ?_
 refine zX h rfl (fun b5 h => ?_) (fun b5 h => ?_)
 ·refine zH<|zC<|zA zQY<|zA (zB rfl)<|zj (H':=[.box 26 (zI A),.box 26 (zI (⟨([]:List Int),0,0,([]:List zi),([]:List zL)⟩:zJ)),.dead,.box 26 [ls cI x4.nodes,li x4.batch,li x4.high,AV.osl 51 10 (List.map zO x4.zones),AV.hd 4],.vec 55 1 (List.map zG x4.caches),.box 55 (zG x5.1)]) (zY (k:=1) (o:=0) (cs:=(zI ⟨[],0,0,[],[]⟩)) (la:=(zI (⟨([]:List Int),0,0,([]:List zi),([]:List zL)⟩:zJ))) Tryz.sizeOf26 rfl rfl rfl rfl)<|zA (zD rfl) ?_
  refine zF<|zd ?_
  cases h
  exact zBy (zFM Tryz.isAgg26 Tryz.sizeOf26 rfl rfl rfl rfl) (zAH rfl rfl) rfl
 refine zP<|zH<|zC<|zA (zK Tryz.underlying26 rfl rfl Tryz.sizeOf24 rfl)<|zA (zN Tryz.isAgg24 rfl rfl rfl rfl)<|zA (zB rfl) ?_
 refine zA (zS (k:=5) (o:=0) (m:=1) Tryz.isAgg55 Tryz.sizeOf55 rfl rfl rfl rfl rfl)<|zA (zy (f:=zG) (l:=x4.caches) (i:=D) Tryz.underlying24 Tryz.sizeOf55 rfl rfl rfl b4)<|zj (H':=[.box 26 (zI A),.box 26 (zI ⟨[],0,0,[],[]⟩),.dead,.box 26 [ls cI x4.nodes,li x4.batch,li x4.high,AV.osl 51 10 (List.map zO x4.zones),AV.hd 4],.vec 55 1 (List.map zG (x4.caches.set D.toNat x5.1)),.box 55 (zG x5.1)]) (zBR (k:=4) (o:=(D.toNat*1)) (f:=zG) (l:=x4.caches) (i:=D) (z:=x5.1) Tryz.sizeOf55 (fun _=>rfl) rfl rfl (by first | rfl | omega) b4 rfl rfl)<|zF<|zH<|zC ?_
 refine zA (zB rfl)<|zA (zB rfl)<|zAA (z7 (k:=3) (j:=4) (o:=4) rfl rfl rfl rfl)<|zR h fun x6 w6 h=>zCt (k:=3) (la:=[AV.ptr 3 0,li x2,ls cI x5.2.1]) (la':=[AV.ptr 0 0,li x2,ls cI x5.2.1]) (r:=(.tup [])) (S:=[]) (en' := .box 26 [ls cI x6.nodes,li x6.batch,li x6.high,AV.osl 51 10 (List.map zO x6.zones),AV.osl 55 1 (List.map zG x6.caches)]) Tryz.func68 rfl (by kernel_rfl) (.fn 68) rfl ⟨zB0.ptr,zB0.of (zAs.nr rfl),zB0.of (zAs.nr rfl),trivial⟩ rfl rfl (by kernel_rfl) (by kernel_rfl) (zJ2 w6) rfl (.inl rfl)<|zF ?_
 refine zH<|zC<|zAA (zBl (k:=3) (o:=3) (rows':=List.map zO x6.zones) rfl rfl (zAL (fun _=>rfl)))<|zAA (zBl (k:=3) (o:=4) (rows':=List.map zG x6.caches) rfl rfl (zAL (fun _=>rfl)))<|zA (zS (k:=3) (o:=0) (m:=5) Tryz.isAgg26 Tryz.sizeOf26 rfl rfl rfl rfl rfl)<|zj (H':=[.box 26 (zI A),.box 26 (zI (⟨x6.nodes,x6.batch,x6.high,x6.zones,x6.caches⟩:zJ)),.dead,.box 26 (zI ⟨x6.nodes,x6.batch,x6.high,x6.zones,x6.caches⟩),.dead,.box 55 (zG x5.1)]) (zY (k:=1) (o:=0) (cs:=(zI ⟨[],0,0,[],[]⟩)) (la:=(zI (⟨x6.nodes,x6.batch,x6.high,x6.zones,x6.caches⟩:zJ))) Tryz.sizeOf26 rfl rfl rfl rfl) ?_
 refine zA (zD rfl)<|zF<|zd ?_
 cases h
 exact zBy (zFM Tryz.isAgg26 Tryz.sizeOf26 rfl rfl rfl rfl) (zAH rfl rfl) rfl
theorem zHS {A:zJ} {D:Int} {G:Int} {r:zJ×Int×Int} (h:zCU A D G=some r):PFn Tryz.prog 26 [(AV.agg (zI A)),li D,li G] (AV.tup [(AV.agg (zI r.1)),li r.2.1,li r.2.2]):=by
 refine zo Tryz.func26 rfl Tryz.ntmps26 Tryz.results26 rfl ?_
 unfold zCU at h
 refine zH<|zC<|za (H':=[.box 26 (zI A)]) (zv (t:=26) rfl)<|za (H':=[.box 26 (zI A),.box 26 (zI ⟨[],0,0,[],[]⟩)]) zv3<|zA (zD rfl)<|zA (zD rfl) ?_
 refine zF<|zH<|zH<|zC<|zA (zS (k:=0) (o:=0) (m:=5) Tryz.isAgg26 Tryz.sizeOf26 rfl rfl rfl rfl rfl)<|zR h fun x1 w1 h => ?_
 refine zh Tryz.func13 rfl (by kernel_rfl) (.fn 13) rfl rfl (zBD w1) rfl<|zA (zD rfl)<|zF<|zH<|zC<|zA (zB rfl) ?_
 refine zA (zz rfl rfl)<|zF ?_
 refine zX h rfl (fun b1 h => ?_) (fun b1 h => ?_)
 ·refine zH<|zC<|zA zQY<|zA (zB rfl)<|zj (H':=[.box 26 (zI A),.box 26 (zI (⟨([]:List Int),0,0,([]:List zi),([]:List zL)⟩:zJ))]) (zY (k:=1) (o:=0) (cs:=(zI ⟨[],0,0,[],[]⟩)) (la:=(zI (⟨([]:List Int),0,0,([]:List zi),([]:List zL)⟩:zJ))) Tryz.sizeOf26 rfl rfl rfl rfl)<|zA (zD rfl) ?_
  refine zA (zD rfl)<|zF<|zd ?_
  cases h
  exact zCX (zFM Tryz.isAgg26 Tryz.sizeOf26 rfl rfl rfl rfl) (zAH rfl rfl) (zAH rfl rfl) rfl
 refine zP<|zH<|zH<|zC<|zA (zB rfl)<|zA (zf rfl rfl) ?_
 refine zA (zB rfl)<|zW rfl rfl (fun c1=>zp.step (zB rfl))<|zW rfl rfl (fun c2=>zp.step (zK Tryz.underlying26 rfl rfl Tryz.sizeOf22 rfl))<|zW rfl rfl (fun c3=>zp.step (zN Tryz.isAgg22 (z6 rfl c3) rfl rfl rfl))<|zW rfl rfl (fun c4=>zp.step (zV Tryz.underlying22 (z6 rfl c4)))<|zW rfl rfl (fun c5=>zp.step (zAw (z6 rfl c5) (z6 rfl c5))) ?_
 refine zA (zg rfl rfl)<|zA (zB rfl)<|zW rfl rfl (fun c6=>zp.step (zB rfl))<|zW rfl rfl (fun c7=>zp.step (zf (z6 rfl c7) rfl))<|zA (zg rfl rfl)<|zA (zB rfl) ?_
 refine zW rfl rfl (fun c8=>zp.step (zB rfl))<|zW rfl rfl (fun c9=>zp.step (zAh (z6 rfl c9) rfl))<|zA (zg rfl rfl)<|zF ?_
 refine zX h rfl (fun b2 h => ?_) (fun b2 h => ?_)
 ·refine zH<|zC<|zA zQY<|zj (H':=[.box 26 (zI A),.box 26 (zI (⟨([]:List Int),0,0,([]:List zi),([]:List zL)⟩:zJ))]) (zY (k:=1) (o:=0) (cs:=(zI ⟨[],0,0,[],[]⟩)) (la:=(zI (⟨([]:List Int),0,0,([]:List zi),([]:List zL)⟩:zJ))) Tryz.sizeOf26 rfl rfl rfl rfl)<|zA (zD rfl)<|zA (zD rfl) ?_
  refine zF<|zd ?_
  cases h
  exact zCX (zFM Tryz.isAgg26 Tryz.sizeOf26 rfl rfl rfl rfl) (zAH rfl rfl) (zAH rfl rfl) rfl
 refine zP<|zH<|zC<|zA (zS (k:=0) (o:=0) (m:=5) Tryz.isAgg26 Tryz.sizeOf26 rfl rfl rfl rfl rfl)<|zR h fun x2 w2 h=>zGK (cs:=[ls cI x2.nodes,li x2.batch,li x2.high,AV.osl 51 10 (List.map zO x2.zones),AV.osl 55 1 (List.map zG x2.caches)]) (la:=[(AV.agg (zI A))]) (la':=[(AV.agg (zI A))]) (S:=[]) Tryz.func54 rfl (by kernel_rfl) (.fn 54) rfl ⟨zAs.nr rfl,trivial⟩ (zFP w2) (.inl rfl) ?_
 refine za (H':=[.box 26 (zI A),.box 26 (zI ⟨[],0,0,[],[]⟩),.val (.agg [ls cI x2.nodes,li x2.batch,li x2.high,AV.osl 51 10 (List.map zO x2.zones),AV.osl 55 1 (List.map zG x2.caches)]),.box 26 (zI ⟨[],0,0,[],[]⟩)]) zv3<|zj (H':=[.box 26 (zI A),.box 26 (zI ⟨[],0,0,[],[]⟩),.dead,.box 26 [ls cI x2.nodes,li x2.batch,li x2.high,AV.osl 51 10 (List.map zO x2.zones),AV.osl 55 1 (List.map zG x2.caches)]]) (zCG (k:=3) (o:=0) (j:=2) (cs:=(zI ⟨[],0,0,[],[]⟩)) (la:=[ls cI x2.nodes,li x2.batch,li x2.high,AV.osl 51 10 (List.map zO x2.zones),AV.osl 55 1 (List.map zG x2.caches)]) Tryz.sizeOf26 rfl rfl rfl rfl rfl (by decide))<|zF<|zH<|zM h fun b3 h=>zR h fun x3 w3 h => ?_
 refine zAl (n:=100) (m:=0) [.head 0 0,.head 0 0,.head 0 0,.head 0 0,.head 0 0,.head 0 0,.head 0 0,.head 0 0,.head 0 0,.head 0 0,.head 0 0,.head 0 0,.head 0 0] [] [AV.ptr 0 3,ls zO A.zones,AV.ptr 0 0,ls cI A.nodes,li D,(AV.rp (cI (at_ A.nodes D)) 0),(li (at_ A.nodes D)),(AV.tup [ls cI x3.1,li x3.2]),(AV.tup [ls cI x3.1,li x3.2]),ls cI x3.1,li x3.2,ls cI x3.1,li x3.2] [[.box 26 (zI A),.box 26 (zI ⟨[],0,0,[],[]⟩),.dead,.box 26 [ls cI x2.nodes,li x2.batch,li x2.high,AV.osl 51 10 (List.map zO x2.zones),AV.osl 55 1 (List.map zG x2.caches)]]] (by kernel_rfl) (by kernel_rfl) ⟨D1 fun e s p=>zK (k:=0) (o:=0) (off:=3) Tryz.underlying26 rfl rfl Tryz.sizeOf23 (s 3 rfl),D1 fun e s p=>zN (k:=0) (o:=3) Tryz.isAgg23 p.1 rfl rfl rfl,D1 fun e s p=>zK (k:=0) (o:=0) (off:=0) Tryz.underlying26 rfl rfl Tryz.sizeOf22 (s 3 rfl),D1 fun e s p=>zN (k:=0) (o:=0) Tryz.isAgg22 p.1 rfl rfl rfl,D1 fun e s p=>zB (s 1 rfl),D1 fun e s p=>zT (f:=cI) (l:=A.nodes) (i:=D) Tryz.underlying22 Tryz.sizeOf3 (fun _=>rfl) p.1 p.2.1 b3,D1 fun e s p=>zU (o:=0) Tryz.isAgg3 p.1 rfl,?_,D1 fun e s p=>zB p.1,D1 fun e s p=>zb p.1 rfl,D1 fun e s p=>zb p.1 rfl,D1 fun e s p=>zD p.2.2.2.2.2.2.2.2.2.2.2.1,D1 fun e s p=>zD p.2.2.2.2.2.2.2.2.2.2.2.2.1,trivial⟩ ?_
 ·
  intro e8 s8 p8
  refine zh (r:=(AV.tup [ls cI x3.1,li x3.2])) (la:=[ls zO A.zones,(li (at_ A.nodes D)),(AV.lit (.bool false))]) Tryz.func53 rfl (by kernel_rfl) (.fn 53) (zAM p8.1 (zAM p8.2.1 (zAM rfl rfl))) rfl (zJ9 w3) rfl ?_
  exact zF ⟨fun _=>rfl,rfl⟩
 intro e14 s14 hq1
 refine zAT (zBM (l:=[(2,(li G)),(6,(AV.ptr 1 0)),(10,(AV.ptr 3 0)),(11,(ls cI x3.1))]) ⟨s14 2 rfl,s14 6 rfl,s14 10 rfl,(hq1 11 (by decide) (by decide)),trivial⟩) ?_
 refine zt (r:=r) (fun (_:Unit)=>mkE [(6,(AV.ptr 0 0))]) (fun _=>[.box 26 (zI ⟨[],0,0,[],[]⟩)]) (fun _=>zEo ) ?_ ?_
 ·
  refine zH<|zC<|zA (zB rfl)<|zA (zV Tryz.underlying22 rfl)<|zA (zB rfl)<|zF ?_
  refine zQ<|zq (σ:=Int×(List Int)×Int×Int×(List zi)×(List zL)) (fun (i1,d1,d2,d3,l1,l2)=>mkE [(2,(li G)),(6,(AV.ptr 0 0)),(10,(AV.ptr 1 0)),(56,(ls cI x3.1)),(57,(li (x3.1.length:Int))),(58,(li i1))]) (fun (i1,d1,d2,d3,l1,l2)=>[.box 26 (zI ⟨[],0,0,[],[]⟩),.box 26 [ls cI d1,li d2,li d3,AV.osl 51 10 (List.map zO l1),AV.osl 55 1 (List.map zG l2)]]) (fun n0 (i1,d1,d2,d3,l1,l2)=>zAF G x3 n0 i1 d1 d2 d3 l1 l2) (0,x2.nodes,x2.batch,x2.high,x2.zones,x2.caches) h (fun _=>rfl) (z9 [1,3] rfl rfl (by kernel_rfl)) ?_
  clear h
  rintro n0 ⟨i1,d1,d2,d3,l1,l2⟩ h
  replace h:zBI G x3 (zAF G x3 n0) i1 d1 d2 d3 l1 l2=some r:=h
  unfold zBI at h
  refine zH<|zC<|zA (zf rfl rfl)<|zF<|zH ?_
  refine zX h rfl (fun b4 h => ?_) (fun b4 h => ?_)
  ·refine zP ?_
   refine zt (r:=r) (fun ((d4,d5,d6,l3,l4):(List Int)×Int×Int×(List zi)×(List zL))=>mkE [(2,(li G)),(6,(AV.ptr 0 0)),(10,(AV.ptr 1 0)),(56,(ls cI x3.1)),(57,(li (x3.1.length:Int))),(58,(li i1))]) (fun (d4,d5,d6,l3,l4)=>[.box 26 (zI ⟨[],0,0,[],[]⟩),.box 26 [ls cI d4,li d5,li d6,AV.osl 51 10 (List.map zO l3),AV.osl 55 1 (List.map zG l4)]]) (fun (d4,d5,d6,l3,l4)=>zBc (zAF G x3 n0) i1 d4 d5 d6 l3 l4) ?_ ?_
   ·
    refine zQ<|zH<|zC<|zM h fun b6 h=>zA (zT Tryz.underlying22 Tryz.sizeOf3 (fun _=>rfl) rfl rfl b6)<|zA (zU (o:=0) Tryz.isAgg3 rfl rfl) ?_
    refine zA (zD rfl)<|zF<|zH<|zH<|zAT (zAd (k:=1) (o:=3) (t':=51) (sz:=10) (rows:=List.map zO l1) rfl rfl)<|zAT (zAd (k:=1) (o:=4) (t':=55) (sz:=1) (rows:=List.map zG l2) rfl rfl) ?_
    refine zR h fun x4 w4 h=>zM h fun b7 h=>zM h fun b8 h => ?_
    refine zAl (n:=100) (m:=0) [.head 0 0,.head 0 0,.head 0 0,.head 0 0,.head 0 0,.head 0 0] [] [(AV.agg [ls cI d1,li d2,li d3,AV.hd 2,AV.hd 3]),(li (at_ x3.1 i1)),li x4,li G,(li ((1:Int)*2 ^ G.toNat)),(AV.lit (.bool (decide (x4<((1:Int)*2 ^ G.toNat)))))] [[.box 26 (zI ⟨[],0,0,[],[]⟩),.box 26 [ls cI d1,li d2,li d3,AV.hd 2,AV.hd 3],.vec 51 10 (List.map zO l1),.vec 55 1 (List.map zG l2)]] (by kernel_rfl) (by kernel_rfl) ⟨D1 fun e s p=>zS (k:=1) (o:=0) (m:=5) Tryz.isAgg26 Tryz.sizeOf26 (s 10 rfl) rfl rfl rfl rfl,D1 fun e s p=>zB (s 14 rfl),?_,D1 fun e s p=>zB (s 2 rfl),D1 fun e s p=>zCw (a:=1) (b:=G) rfl p.1 b7 b8,D1 fun e s p=>zf (a:=x4) (b:=(1:Int)*2 ^ G.toNat) p.1 p.2.1,trivial⟩ ?_
    ·
     intro e17 s17 p16
     refine zA2 (r':=(li x4)) (la:=[(AV.agg [ls cI d1,li d2,li d3,AV.hd 2,AV.hd 3]),(li (at_ x3.1 i1))]) (la':=[(AV.agg (zI ⟨d1,d2,d3,l1,l2⟩)),(li (at_ x3.1 i1))]) (r:=(li x4)) (S:=[2,3]) Tryz.func39 rfl (by kernel_rfl) (.fn 39) (zAM p16.1 (zAM p16.2.1 rfl)) ⟨zAs.agg (by exact ⟨zAs.nr rfl,⟨zAs.nr rfl,⟨zAs.nr rfl,⟨zHy (fun _=>rfl) rfl rfl,⟨zHy (fun _=>rfl) rfl rfl,trivial⟩⟩⟩⟩⟩),zAs.nr rfl,trivial⟩ (zHp w4) (.inr trivial) rfl ?_
     exact zF ⟨fun _=>rfl,rfl⟩
    intro e21 s21 hq2
    refine zAT (zBM (l:=[(2,(li G)),(6,(AV.ptr 0 0)),(10,(AV.ptr 1 0)),(14,(li (at_ x3.1 i1))),(56,(ls cI x3.1)),(57,(li (x3.1.length:Int))),(58,(li i1)),(67,(AV.lit (.bool (decide (x4<((1:Int)*2 ^ G.toNat))))))]) ⟨s21 2 rfl,s21 6 rfl,s21 10 rfl,s21 14 rfl,s21 56 rfl,s21 57 rfl,s21 58 rfl,(hq2 5 (by decide) (by decide)),trivial⟩) ?_
    refine zX h rfl (fun b9 h => ?_) (fun b9 h => ?_)
    ·refine zw ?_
     exact ⟨(d1,d2,d3,l1,l2),Rep.trans (z7 (k:=1) (j:=2) (o:=3) rfl rfl rfl rfl) (Rep.trans (z7 (k:=1) (j:=3) (o:=4) rfl rfl rfl rfl) (z9 [0,1] (l:=[(2,(li G)),(6,(AV.ptr 0 0)),(10,(AV.ptr 1 0)),(56,(ls cI x3.1)),(57,(li (x3.1.length:Int))),(58,(li i1))]) rfl rfl (by kernel_rfl))),h⟩
    refine zP ?_
    refine zt (r:=r) (fun ((d7,d8,d9,l5,l6):(List Int)×Int×Int×(List zi)×(List zL))=>mkE [(2,(li G)),(6,(AV.ptr 0 0)),(10,(AV.ptr 1 0)),(14,(li (at_ x3.1 i1))),(56,(ls cI x3.1)),(57,(li (x3.1.length:Int))),(58,(li i1))]) (fun (d7,d8,d9,l5,l6)=>[.box 26 (zI ⟨[],0,0,[],[]⟩),.box 26 [ls cI d7,li d8,li d9,AV.osl 51 10 (List.map zO l5),AV.osl 55 1 (List.map zG l6)]]) (fun (d7,d8,d9,l5,l6)=>zCS (zAF G x3 n0) G x3 i1 d7 d8 d9 l5 l6) ?_ ?_
    ·
     refine zH<|zC<|zA (zK Tryz.underlying26 rfl rfl Tryz.sizeOf24 rfl)<|zA (zN Tryz.isAgg24 rfl rfl rfl rfl)<|zA (zDF (f:=zG) (l:=l2) Tryz.underlying24 rfl rfl)<|zA (zB rfl) ?_
     refine zF<|zQ<|zq (σ:=Int×(List Int)×Int×Int×(List zi)×(List zL)) (fun (i2,d10,d11,d12,l7,l8)=>mkE [(2,(li G)),(6,(AV.ptr 0 0)),(10,(AV.ptr 1 0)),(14,(li (at_ x3.1 i1))),(56,(ls cI x3.1)),(57,(li (x3.1.length:Int))),(58,(li i1)),(70,(li (l2.length:Int))),(71,(li i2))]) (fun (i2,d10,d11,d12,l7,l8)=>[.box 26 (zI ⟨[],0,0,[],[]⟩),.box 26 [ls cI d10,li d11,li d12,AV.osl 51 10 (List.map zO l7),AV.osl 55 1 (List.map zG l8)]]) (fun n1 (i2,d10,d11,d12,l7,l8)=>zBe (zAF G x3 n0) G x3 i1 l2 n1 i2 d10 d11 d12 l7 l8) (0,d1,d2,d3,l1,l2) h (fun _=>rfl) (Rep.trans (z7 (k:=1) (j:=2) (o:=3) rfl rfl rfl rfl) (Rep.trans (z7 (k:=1) (j:=3) (o:=4) rfl rfl rfl rfl) (z9 [0,1] (l:=[(2,(li G)),(6,(AV.ptr 0 0)),(10,(AV.ptr 1 0)),(14,(li (at_ x3.1 i1))),(56,(ls cI x3.1)),(57,(li (x3.1.length:Int))),(58,(li i1)),(70,(li (l2.length:Int))),(71,(li 0))]) rfl rfl (by kernel_rfl)))) ?_
     clear h
     rintro n1 ⟨i2,d10,d11,d12,l7,l8⟩ h
     replace h:zBJ (zAF G x3 n0) G x3 i1 l2 (zBe (zAF G x3 n0) G x3 i1 l2 n1) i2 d10 d11 d12 l7 l8=some r:=h
     unfold zBJ at h
     refine zH<|zC<|zA (zf rfl rfl)<|zF<|zH ?_
     refine zX h rfl (fun b12 h => ?_) (fun b12 h => ?_)
     ·refine zP<|zH<|zQ<|zH<|zC<|zA (zB rfl) ?_
      refine zA (zD rfl)<|zF<|zC<|zA (zB rfl)<|zA (zB rfl)<|zR h fun x6 w6 h => ?_
      refine zCt (k:=1) (la:=[AV.ptr 1 0,li i2,(li (at_ x3.1 i1))]) (la':=[AV.ptr 0 0,li i2,(li (at_ x3.1 i1))]) (r:=(.tup [])) (S:=[]) (en' := .box 26 [ls cI x6.nodes,li x6.batch,li x6.high,AV.osl 51 10 (List.map zO x6.zones),AV.osl 55 1 (List.map zG x6.caches)]) Tryz.func56 rfl (by kernel_rfl) (.fn 56) rfl ⟨zB0.ptr,zB0.of (zAs.nr rfl),zB0.of (zAs.nr rfl),trivial⟩ rfl rfl (by kernel_rfl) (by kernel_rfl) (zG6 w6) rfl (.inl rfl)<|zF<|zC<|zM h fun b13 h=>zA (ze rfl rfl b13)<|zA (zB rfl) ?_
      refine zF ?_
      exact ⟨((i2+1),x6.nodes,x6.batch,x6.high,x6.zones,x6.caches),z9 [0,1] rfl rfl (by kernel_rfl),h⟩
     refine zw ?_
     exact ⟨(d10,d11,d12,l7,l8),z9 [0,1] rfl rfl (by kernel_rfl),h⟩
    clear h
    rintro ⟨d7,d8,d9,l5,l6⟩ h
    unfold zCS at h
    refine zH<|zC<|zA (zK Tryz.underlying26 rfl rfl Tryz.sizeOf23 rfl)<|zAA (zAd (k:=1) (o:=3) (t':=51) (sz:=10) (rows:=List.map zO l5) rfl rfl)<|zA (zN Tryz.isAgg23 rfl rfl rfl rfl)<|zA (zB rfl) ?_
    refine zM h fun b10 h=>zA (zy (f:=zO) (l:=l5) (i:=at_ x3.1 i1) Tryz.underlying23 Tryz.sizeOf51 rfl rfl rfl b10)<|zA (zBn (f:=zO) (l:=l5) (i:=at_ x3.1 i1) (c:=0) (q:=10) (la:=(zO (at_ l5 (at_ x3.1 i1)))) Tryz.isAgg51 Tryz.sizeOf51 rfl rfl (by first | rfl | omega) b10 rfl rfl rfl)<|zA (zB rfl)<|zR h fun x5 w5 h=>zh Tryz.func64 rfl (by kernel_rfl) (.fn 64) rfl rfl (zLc w5) rfl ?_
    refine zA (zB rfl)<|zA (zb rfl rfl)<|zA (zb rfl rfl)<|zA (zb rfl rfl)<|za (H':=[.box 26 (zI ⟨[],0,0,[],[]⟩),.box 26 [ls cI d7,li d8,li d9,AV.hd 2,AV.osl 55 1 (List.map zG l6)],.vec 51 10 (List.map zO l5),.box 51 (zO ⟨0,0,0,0,0,(List.replicate 5 ([]:List Int))⟩)]) zv0<|zj (H':=[.box 26 (zI ⟨[],0,0,[],[]⟩),.box 26 [ls cI d7,li d8,li d9,AV.hd 2,AV.osl 55 1 (List.map zG l6)],.vec 51 10 (List.map zO l5),.box 51 (zO x5.1)]) (zY (k:=3) (o:=0) (cs:=(zO ⟨0,0,0,0,0,(List.replicate 5 ([]:List Int))⟩)) (la:=(zO x5.1)) Tryz.sizeOf51 rfl rfl rfl rfl) ?_
    refine zA (zD rfl)<|zA (zD rfl)<|zF<|zH<|zC<|zA (zB rfl) ?_
    refine zA (zAv rfl rfl)<|zF ?_
    refine zX h rfl (fun b11 h => ?_) (fun b11 h => ?_)
    ·refine zH<|zC<|zA (zK Tryz.underlying26 rfl rfl Tryz.sizeOf23 rfl)<|zA (zN Tryz.isAgg23 rfl rfl rfl rfl)<|zA (zB rfl)<|zA (zS (k:=3) (o:=0) (m:=10) Tryz.isAgg51 Tryz.sizeOf51 rfl rfl rfl rfl rfl) ?_
     refine zA (zy (f:=zO) (l:=l5) (i:=at_ x3.1 i1) Tryz.underlying23 Tryz.sizeOf51 rfl rfl rfl b10)<|zj (H':=[.box 26 (zI ⟨[],0,0,[],[]⟩),.box 26 [ls cI d7,li d8,li d9,AV.hd 2,AV.osl 55 1 (List.map zG l6)],.vec 51 10 (List.map zO (l5.set (at_ x3.1 i1).toNat x5.1)),.box 51 (zO x5.1)]) (zBR (k:=2) (o:=((at_ x3.1 i1).toNat*10)) (f:=zO) (l:=l5) (i:=at_ x3.1 i1) (z:=x5.1) Tryz.sizeOf51 (fun _=>rfl) rfl rfl (by first | rfl | omega) b10 rfl rfl)<|zF<|zH<|zC<|zAA (z7 (k:=1) (j:=2) (o:=3) rfl rfl rfl rfl) ?_
     refine zAA (zBl (k:=1) (o:=3) (rows':=List.map zO (l5.set (at_ x3.1 i1).toNat x5.1)) rfl rfl (zAL (fun _=>rfl)))<|zAA (zBl (k:=1) (o:=4) (rows':=List.map zG l6) rfl rfl (zAL (fun _=>rfl)))<|zA (zS (k:=1) (o:=0) (m:=5) Tryz.isAgg26 Tryz.sizeOf26 rfl rfl rfl rfl rfl)<|zA (zB rfl)<|zj (H':=[.box 26 (zI (⟨d7,d8,d9,l5.set (at_ x3.1 i1).toNat x5.1,l6⟩:zJ)),.box 26 (zI ⟨d7,d8,d9,(l5.set (at_ x3.1 i1).toNat x5.1),l6⟩),.dead,.box 51 (zO x5.1)]) (zY (k:=0) (o:=0) (cs:=(zI ⟨[],0,0,[],[]⟩)) (la:=(zI (⟨d7,d8,d9,l5.set (at_ x3.1 i1).toNat x5.1,l6⟩:zJ))) Tryz.sizeOf26 rfl rfl rfl rfl)<|zA (zD rfl) ?_
     refine zA (zD rfl)<|zF<|zd ?_
     cases h
     exact zCX (zFM Tryz.isAgg26 Tryz.sizeOf26 rfl rfl rfl rfl) (zAH rfl rfl) (zAH rfl rfl) rfl
    refine zP ?_
    exact ⟨(d7,d8,d9,l5,l6),Rep.trans (z7 (k:=1) (j:=2) (o:=3) rfl rfl rfl rfl) (z9 [0,1] (l:=[(2,(li G)),(6,(AV.ptr 0 0)),(10,(AV.ptr 1 0)),(56,(ls cI x3.1)),(57,(li (x3.1.length:Int))),(58,(li i1))]) rfl rfl (by kernel_rfl)),h⟩
   clear h
   rintro ⟨d4,d5,d6,l3,l4⟩ h
   unfold zBc at h
   refine zC<|zM h fun b5 h=>zA (ze rfl rfl b5)<|zA (zB rfl)<|zF ?_
   exact ⟨((i1+1),d4,d5,d6,l3,l4),z9 [0,1] rfl rfl (by kernel_rfl),h⟩
  refine zw ?_
  exact ⟨(),z9 [0] rfl rfl (by kernel_rfl),h⟩
 clear h
 intro _ h
 unfold zEo at h
 refine zH<|zC<|zA zQY<|zj (H':=[.box 26 (zI (⟨([]:List Int),0,0,([]:List zi),([]:List zL)⟩:zJ))]) (zY (k:=0) (o:=0) (cs:=(zI ⟨[],0,0,[],[]⟩)) (la:=(zI (⟨([]:List Int),0,0,([]:List zi),([]:List zL)⟩:zJ))) Tryz.sizeOf26 rfl rfl rfl rfl)<|zA (zD rfl)<|zA (zD rfl) ?_
 refine zF<|zd ?_
 cases h
 exact zCX (zFM Tryz.isAgg26 Tryz.sizeOf26 rfl rfl rfl rfl) (zAH rfl rfl) (zAH rfl rfl) rfl
theorem zMC {B:zJ} {r:zJ} (h:zJH B=some r):PFn Tryz.prog 34 [(AV.agg (zI B))] (AV.agg (zI r)):=by
 refine zo Tryz.func34 rfl Tryz.ntmps34 Tryz.results34 rfl ?_
 unfold zJH at h
 refine zH<|zC<|za (H':=[.box 26 (zI B)]) (zv (t:=26) rfl)<|za (H':=[.box 26 (zI B),.box 26 (zI ⟨[],0,0,[],[]⟩)]) zv3<|zF<|zH ?_
 refine zH<|zC<|zA (zS (k:=0) (o:=0) (m:=5) Tryz.isAgg26 Tryz.sizeOf26 rfl rfl rfl rfl rfl)<|zR h fun x1 w1 h=>zh Tryz.func13 rfl (by kernel_rfl) (.fn 13) rfl rfl (zBD w1) rfl<|zA (zz rfl rfl) ?_
 refine zF ?_
 refine zX h rfl (fun b1 h => ?_) (fun b1 h => ?_)
 ·refine zH<|zC<|zA zQY<|zj (H':=[.box 26 (zI B),.box 26 (zI (⟨([]:List Int),0,0,([]:List zi),([]:List zL)⟩:zJ))]) (zY (k:=1) (o:=0) (cs:=(zI ⟨[],0,0,[],[]⟩)) (la:=(zI (⟨([]:List Int),0,0,([]:List zi),([]:List zL)⟩:zJ))) Tryz.sizeOf26 rfl rfl rfl rfl)<|zF<|zd ?_
  cases h
  exact zu (zFM Tryz.isAgg26 Tryz.sizeOf26 rfl rfl rfl rfl)
 refine zP<|zH<|zC<|zA (zS (k:=0) (o:=0) (m:=5) Tryz.isAgg26 Tryz.sizeOf26 rfl rfl rfl rfl rfl)<|zR h fun x2 w2 h=>zGK (cs:=[ls cI x2.nodes,li x2.batch,li x2.high,AV.osl 51 10 (List.map zO x2.zones),AV.osl 55 1 (List.map zG x2.caches)]) (la:=[(AV.agg (zI B))]) (la':=[(AV.agg (zI B))]) (S:=[]) Tryz.func54 rfl (by kernel_rfl) (.fn 54) rfl ⟨zAs.nr rfl,trivial⟩ (zFP w2) (.inl rfl) ?_
 refine za (H':=[.box 26 (zI B),.box 26 (zI ⟨[],0,0,[],[]⟩),.val (.agg [ls cI x2.nodes,li x2.batch,li x2.high,AV.osl 51 10 (List.map zO x2.zones),AV.osl 55 1 (List.map zG x2.caches)]),.box 26 (zI ⟨[],0,0,[],[]⟩)]) zv3<|zj (H':=[.box 26 (zI B),.box 26 (zI ⟨[],0,0,[],[]⟩),.dead,.box 26 [ls cI x2.nodes,li x2.batch,li x2.high,AV.osl 51 10 (List.map zO x2.zones),AV.osl 55 1 (List.map zG x2.caches)]]) (zCG (k:=3) (o:=0) (j:=2) (cs:=(zI ⟨[],0,0,[],[]⟩)) (la:=[ls cI x2.nodes,li x2.batch,li x2.high,AV.osl 51 10 (List.map zO x2.zones),AV.osl 55 1 (List.map zG x2.caches)]) Tryz.sizeOf26 rfl rfl rfl rfl rfl (by decide))<|zF ?_
 refine zt (r:=r) (fun ((d1,d2,d3,l1,l2):(List Int)×Int×Int×(List zi)×(List zL))=>mkE [(2,(AV.ptr 0 0)),(3,(AV.ptr 1 0))]) (fun (d1,d2,d3,l1,l2)=>[.box 26 (zI ⟨[],0,0,[],[]⟩),.box 26 [ls cI d1,li d2,li d3,AV.osl 51 10 (List.map zO l1),AV.osl 55 1 (List.map zG l2)]]) (fun (d1,d2,d3,l1,l2)=>zHe d1 d2 d3 l1 l2) ?_ ?_
 ·
  refine zH<|zC<|zA (zK Tryz.underlying26 rfl rfl Tryz.sizeOf24 rfl)<|zAA (zAd (k:=3) (o:=4) (t':=55) (sz:=1) (rows:=List.map zG x2.caches) rfl rfl)<|zA (zN Tryz.isAgg24 rfl rfl rfl rfl)<|zA (zDF (f:=zG) (l:=x2.caches) Tryz.underlying24 rfl rfl) ?_
  refine zA (zB rfl)<|zF<|zQ<|zq (σ:=Int×(List Int)×Int×Int×(List zi)×(List zL)) (fun (i1,d4,d5,d6,l3,l4)=>mkE [(2,(AV.ptr 0 0)),(3,(AV.ptr 1 0)),(14,(li (x2.caches.length:Int))),(15,(li i1))]) (fun (i1,d4,d5,d6,l3,l4)=>[.box 26 (zI ⟨[],0,0,[],[]⟩),.box 26 [ls cI d4,li d5,li d6,AV.osl 51 10 (List.map zO l3),AV.osl 55 1 (List.map zG l4)]]) (fun n0 (i1,d4,d5,d6,l3,l4)=>zBm x2 n0 i1 d4 d5 d6 l3 l4) (0,x2.nodes,x2.batch,x2.high,x2.zones,x2.caches) h (fun _=>rfl) (Rep.trans (z7 (k:=3) (j:=4) (o:=4) rfl rfl rfl rfl) (z9 [1,3] (l:=[(2,(AV.ptr 0 0)),(3,(AV.ptr 1 0)),(14,(li (x2.caches.length:Int))),(15,(li 0))]) rfl rfl (by kernel_rfl))) ?_
  clear h
  rintro n0 ⟨i1,d4,d5,d6,l3,l4⟩ h
  replace h:zHF x2 (zBm x2 n0) i1 d4 d5 d6 l3 l4=some r:=h
  unfold zHF at h
  refine zH<|zC<|zA (zf rfl rfl)<|zF<|zH ?_
  refine zX h rfl (fun b2 h => ?_) (fun b2 h => ?_)
  ·refine zP ?_
   refine zt (r:=r) (fun ((d7,d8,d9,l5,l6):(List Int)×Int×Int×(List zi)×(List zL))=>mkE [(2,(AV.ptr 0 0)),(3,(AV.ptr 1 0)),(14,(li (x2.caches.length:Int))),(15,(li i1))]) (fun (d7,d8,d9,l5,l6)=>[.box 26 (zI ⟨[],0,0,[],[]⟩),.box 26 [ls cI d7,li d8,li d9,AV.osl 51 10 (List.map zO l5),AV.osl 55 1 (List.map zG l6)]]) (fun (d7,d8,d9,l5,l6)=>zG3 (zBm x2 n0) i1 d7 d8 d9 l5 l6) ?_ ?_
   ·
    refine zQ<|zH<|zC<|zA (zB rfl)<|zA (zD rfl)<|zF ?_
    refine zH<|zC<|zA (zK Tryz.underlying26 rfl rfl Tryz.sizeOf23 rfl)<|zAA (zAd (k:=1) (o:=3) (t':=51) (sz:=10) (rows:=List.map zO l3) rfl rfl)<|zA (zN Tryz.isAgg23 rfl rfl rfl rfl)<|zA (zDF (f:=zO) (l:=l3) Tryz.underlying23 rfl rfl) ?_
    refine zA (zB rfl)<|zF<|zQ<|zq (σ:=Int×(List Int)×Int×Int×(List zi)×(List zL)) (fun (i2,d10,d11,d12,l7,l8)=>mkE [(2,(AV.ptr 0 0)),(3,(AV.ptr 1 0)),(4,(li i1)),(14,(li (x2.caches.length:Int))),(15,(li i1)),(20,(li (l3.length:Int))),(21,(li i2))]) (fun (i2,d10,d11,d12,l7,l8)=>[.box 26 (zI ⟨[],0,0,[],[]⟩),.box 26 [ls cI d10,li d11,li d12,AV.osl 51 10 (List.map zO l7),AV.osl 55 1 (List.map zG l8)]]) (fun n1 (i2,d10,d11,d12,l7,l8)=>zFS (zBm x2 n0) i1 l3 n1 i2 d10 d11 d12 l7 l8) (0,d4,d5,d6,l3,l4) h (fun _=>rfl) (Rep.trans (z7 (k:=1) (j:=2) (o:=3) rfl rfl rfl rfl) (z9 [0,1] (l:=[(2,(AV.ptr 0 0)),(3,(AV.ptr 1 0)),(4,(li i1)),(14,(li (x2.caches.length:Int))),(15,(li i1)),(20,(li (l3.length:Int))),(21,(li 0))]) rfl rfl (by kernel_rfl))) ?_
    clear h
    rintro n1 ⟨i2,d10,d11,d12,l7,l8⟩ h
    replace h:zHW (zBm x2 n0) i1 l3 (zFS (zBm x2 n0) i1 l3 n1) i2 d10 d11 d12 l7 l8=some r:=h
    unfold zHW at h
    refine zH<|zC<|zA (zf rfl rfl)<|zF<|zH ?_
    refine zX h rfl (fun b4 h => ?_) (fun b4 h => ?_)
    ·refine zP<|zH<|zQ<|zH<|zC<|zA (zB rfl) ?_
     refine zA (zD rfl)<|zF<|zC<|zA (zB rfl)<|zA (zB rfl)<|zR h fun x3 w3 h => ?_
     refine zCt (k:=1) (la:=[AV.ptr 1 0,li i1,li i2]) (la':=[AV.ptr 0 0,li i1,li i2]) (r:=(.tup [])) (S:=[]) (en' := .box 26 [ls cI x3.nodes,li x3.batch,li x3.high,AV.osl 51 10 (List.map zO x3.zones),AV.osl 55 1 (List.map zG x3.caches)]) Tryz.func56 rfl (by kernel_rfl) (.fn 56) rfl ⟨zB0.ptr,zB0.of (zAs.nr rfl),zB0.of (zAs.nr rfl),trivial⟩ rfl rfl (by kernel_rfl) (by kernel_rfl) (zG6 w3) rfl (.inl rfl)<|zF<|zC<|zM h fun b5 h=>zA (ze rfl rfl b5)<|zA (zB rfl) ?_
     refine zF ?_
     exact ⟨((i2+1),x3.nodes,x3.batch,x3.high,x3.zones,x3.caches),z9 [0,1] rfl rfl (by kernel_rfl),h⟩
    refine zw ?_
    exact ⟨(d10,d11,d12,l7,l8),z9 [0,1] rfl rfl (by kernel_rfl),h⟩
   clear h
   rintro ⟨d7,d8,d9,l5,l6⟩ h
   unfold zG3 at h
   refine zC<|zM h fun b3 h=>zA (ze rfl rfl b3)<|zA (zB rfl)<|zF ?_
   exact ⟨((i1+1),d7,d8,d9,l5,l6),z9 [0,1] rfl rfl (by kernel_rfl),h⟩
  refine zw ?_
  exact ⟨(d4,d5,d6,l3,l4),z9 [0,1] rfl rfl (by kernel_rfl),h⟩
 clear h
 rintro ⟨d1,d2,d3,l1,l2⟩ h
 unfold zHe at h
 refine zH<|zC<|zAA (zBl (k:=1) (o:=3) (rows':=List.map zO l1) rfl rfl (zAL (fun _=>rfl)))<|zAA (zBl (k:=1) (o:=4) (rows':=List.map zG l2) rfl rfl (zAL (fun _=>rfl)))<|zA (zS (k:=1) (o:=0) (m:=5) Tryz.isAgg26 Tryz.sizeOf26 rfl rfl rfl rfl rfl)<|zj (H':=[.box 26 (zI (⟨d1,d2,d3,l1,l2⟩:zJ)),.box 26 (zI ⟨d1,d2,d3,l1,l2⟩)]) (zY (k:=0) (o:=0) (cs:=(zI ⟨[],0,0,[],[]⟩)) (la:=(zI (⟨d1,d2,d3,l1,l2⟩:zJ))) Tryz.sizeOf26 rfl rfl rfl rfl) ?_
 refine zF<|zd ?_
 cases h
 exact zu (zFM Tryz.isAgg26 Tryz.sizeOf26 rfl rfl rfl rfl)
theorem zJ8 {B:List Int} {L:List Int} {r:Bool} (h:zE7 B L=some r):PFn Tryz.prog 61 [ls cI B,ls cI L] (AV.lit (.bool r)):=by
 refine zo Tryz.func61 rfl Tryz.ntmps61 Tryz.results61 rfl ?_
 unfold zE7 at h
 refine zH<|zC<|zA (zD rfl)<|zF<|zH<|zH ?_
 refine zC<|zA (zB rfl)<|zA (zV Tryz.underlying22 rfl)<|zA (zB rfl)<|zA (zV Tryz.underlying22 rfl)<|zA (zz rfl rfl) ?_
 refine zF ?_
 refine zX h rfl (fun b1 h => ?_) (fun b1 h => ?_)
 ·refine zH<|zC<|zA (zD rfl)<|zF<|zd ?_
  cases h
  exact zu (zAH rfl rfl)
 refine zP ?_
 refine zt (r:=r) (fun (_:Unit)=>mkE []) (fun _=>[]) (fun _=>zHo ) ?_ ?_
 ·
  refine zH<|zC<|zA (zB rfl)<|zA (zV Tryz.underlying22 rfl)<|zA (zB rfl)<|zF ?_
  refine zQ<|zq (σ:=Int) (fun i1=>mkE [(0,(ls cI B)),(1,(ls cI L)),(12,(li (B.length:Int))),(13,(li i1))]) (fun i1=>[]) (fun n0 i1=>zET B L n0 i1) 0 h (fun _=>rfl) (z9 [] rfl rfl (by kernel_rfl)) ?_
  clear h
  intro n0 i1 h
  replace h:zCb B L (zET B L n0) i1=some r:=h
  unfold zCb at h
  refine zH<|zC<|zA (zf rfl rfl)<|zF<|zH ?_
  refine zX h rfl (fun b2 h => ?_) (fun b2 h => ?_)
  ·refine zP<|zH<|zQ<|zH<|zC<|zA (zB rfl) ?_
   refine zA (zD rfl)<|zF<|zH<|zM h fun b3 h=>zM h fun b4 h => ?_
   refine zAl (n:=26) (m:=0) [.head 0 0,.head 0 0,.head 0 0,.head 0 0,.head 0 0,.head 0 0,.head 0 0,.head 0 0,.head 0 0] [] [ls cI B,li i1,(AV.rp (cI (at_ B i1)) 0),(li (at_ B i1)),ls cI L,li i1,(AV.rp (cI (at_ L i1)) 0),(li (at_ L i1)),(AV.lit (.bool (!decide ((at_ B i1)=(at_ L i1)))))] [[]] (by kernel_rfl) (by kernel_rfl) ⟨D1 fun e s p=>zB (s 0 rfl),D1 fun e s p=>zB (s 5 rfl),D1 fun e s p=>zT (f:=cI) (l:=B) (i:=i1) Tryz.underlying22 Tryz.sizeOf3 (fun _=>rfl) p.1 p.2.1 b3,D1 fun e s p=>zU (o:=0) Tryz.isAgg3 p.1 rfl,D1 fun e s p=>zB (s 1 rfl),D1 fun e s p=>zB (s 5 rfl),D1 fun e s p=>zT (f:=cI) (l:=L) (i:=i1) Tryz.underlying22 Tryz.sizeOf3 (fun _=>rfl) p.1 p.2.1 b4,D1 fun e s p=>zU (o:=0) Tryz.isAgg3 p.1 rfl,D1 fun e s p=>zz (a:=at_ B i1) (b:=at_ L i1) p.1 p.2.1,trivial⟩ ?_
   intro e10 s10 hq1
   refine zAT (zBM (l:=[(0,(ls cI B)),(1,(ls cI L)),(12,(li (B.length:Int))),(13,(li i1)),(24,(AV.lit (.bool (!decide ((at_ B i1)=(at_ L i1))))))]) ⟨s10 0 rfl,s10 1 rfl,s10 12 rfl,s10 13 rfl,(hq1 8 (by decide) (by decide)),trivial⟩) ?_
   refine zX h rfl (fun b5 h => ?_) (fun b5 h => ?_)
   ·refine zH<|zC<|zA (zD rfl)<|zF<|zd ?_
    cases h
    exact zu (zAH rfl rfl)
   refine zP<|zC<|zM h fun b6 h=>zA (ze rfl rfl b6)<|zA (zB rfl)<|zF ?_
   exact ⟨(i1+1),z9 [] rfl rfl (by kernel_rfl),h⟩
  refine zw ?_
  exact ⟨(),z9 [] rfl rfl (by kernel_rfl),h⟩
 clear h
 intro _ h
 unfold zHo at h
 refine zH<|zC<|zA (zD rfl)<|zF<|zd ?_
 cases h
 exact zu (zAH rfl rfl)
theorem zMh {B:List Int} {L:List Int} {r:Bool} (h:zF6 B L=some r):PFn Tryz.prog 117 [ls cI B,ls cI L] (AV.lit (.bool r)):=by
 refine zo Tryz.func117 rfl Tryz.ntmps117 Tryz.results117 rfl ?_
 unfold zF6 at h
 refine zH<|zC<|zA (zD rfl)<|zF<|zH<|zH ?_
 refine zC<|zA (zB rfl)<|zA (zV Tryz.underlying22 rfl)<|zA (zB rfl)<|zA (zV Tryz.underlying22 rfl)<|zA (zz rfl rfl) ?_
 refine zF ?_
 refine zX h rfl (fun b1 h => ?_) (fun b1 h => ?_)
 ·refine zH<|zC<|zA (zD rfl)<|zF<|zd ?_
  cases h
  exact zu (zAH rfl rfl)
 refine zP ?_
 refine zt (r:=r) (fun (_:Unit)=>mkE []) (fun _=>[]) (fun _=>zHn ) ?_ ?_
 ·
  refine zH<|zC<|zA (zD rfl)<|zF<|zQ<|zq (σ:=Int) (fun i1=>mkE [(0,(ls cI B)),(1,(ls cI L)),(5,(li i1))]) (fun i1=>[]) (fun n0 i1=>zEW B L n0 i1) 0 h (fun _=>rfl) (z9 [] rfl rfl (by kernel_rfl)) ?_
  clear h
  intro n0 i1 h
  replace h:zCa B L (zEW B L n0) i1=some r:=h
  unfold zCa at h
  refine zH<|zH<|zC<|zA (zB rfl)<|zA (zB rfl)<|zA (zV Tryz.underlying22 rfl) ?_
  refine zA (zf rfl rfl)<|zF ?_
  refine zX h rfl (fun b2 h => ?_) (fun b2 h => ?_)
  ·refine zP<|zH<|zQ<|zH<|zM h fun b3 h=>zM h fun b4 h => ?_
   refine zAl (n:=26) (m:=0) [.head 0 0,.head 0 0,.head 0 0,.head 0 0,.head 0 0,.head 0 0,.head 0 0,.head 0 0,.head 0 0] [] [ls cI B,li i1,(AV.rp (cI (at_ B i1)) 0),(li (at_ B i1)),ls cI L,li i1,(AV.rp (cI (at_ L i1)) 0),(li (at_ L i1)),(AV.lit (.bool (!decide ((at_ B i1)=(at_ L i1)))))] [[]] (by kernel_rfl) (by kernel_rfl) ⟨D1 fun e s p=>zB (s 0 rfl),D1 fun e s p=>zB (s 5 rfl),D1 fun e s p=>zT (f:=cI) (l:=B) (i:=i1) Tryz.underlying22 Tryz.sizeOf3 (fun _=>rfl) p.1 p.2.1 b3,D1 fun e s p=>zU (o:=0) Tryz.isAgg3 p.1 rfl,D1 fun e s p=>zB (s 1 rfl),D1 fun e s p=>zB (s 5 rfl),D1 fun e s p=>zT (f:=cI) (l:=L) (i:=i1) Tryz.underlying22 Tryz.sizeOf3 (fun _=>rfl) p.1 p.2.1 b4,D1 fun e s p=>zU (o:=0) Tryz.isAgg3 p.1 rfl,D1 fun e s p=>zz (a:=at_ B i1) (b:=at_ L i1) p.1 p.2.1,trivial⟩ ?_
   intro e10 s10 hq1
   refine zAT (zBM (l:=[(0,(ls cI B)),(1,(ls cI L)),(5,(li i1)),(25,(AV.lit (.bool (!decide ((at_ B i1)=(at_ L i1))))))]) ⟨s10 0 rfl,s10 1 rfl,s10 5 rfl,(hq1 8 (by decide) (by decide)),trivial⟩) ?_
   refine zX h rfl (fun b5 h => ?_) (fun b5 h => ?_)
   ·refine zH<|zC<|zA (zD rfl)<|zF<|zd ?_
    cases h
    exact zu (zAH rfl rfl)
   refine zP<|zC<|zA (zB rfl)<|zM h fun b6 h=>zA (ze rfl rfl b6)<|zA (zD rfl) ?_
   refine zF ?_
   exact ⟨(i1+1),z9 [] rfl rfl (by kernel_rfl),h⟩
  refine zw ?_
  exact ⟨(),z9 [] rfl rfl (by kernel_rfl),h⟩
 clear h
 intro _ h
 unfold zHn at h
 refine zH<|zC<|zA (zD rfl)<|zF<|zd ?_
 cases h
 exact zu (zAH rfl rfl)
theorem zO3 {B:zi} {L:zi} {r:Bool} (h:zJ7 B L=some r):PFn Tryz.prog 62 [(AV.agg (zO B)),(AV.agg (zO L))] (AV.lit (.bool r)):=by
 refine zo Tryz.func62 rfl Tryz.ntmps62 Tryz.results62 rfl ?_
 unfold zJ7 at h
 refine zH<|zC<|za (H':=[.box 51 (zO B)]) (zv (t:=51) rfl)<|za (H':=[.box 51 (zO B),.box 51 (zO L)]) (zv (t:=51) rfl)<|zA (zD rfl)<|zF ?_
 refine zH<|zH<|zC<|zA (zK Tryz.underlying51 rfl rfl Tryz.sizeOf3 rfl)<|zA (zN Tryz.isAgg3 rfl rfl rfl rfl)<|zA (zK Tryz.underlying51 rfl rfl Tryz.sizeOf3 rfl) ?_
 refine zA (zN Tryz.isAgg3 rfl rfl rfl rfl)<|zA (zz rfl rfl)<|zA (zB rfl)<|zW rfl rfl (fun c1=>zp.step (zK Tryz.underlying51 rfl rfl Tryz.sizeOf3 rfl))<|zW rfl rfl (fun c2=>zp.step (zN Tryz.isAgg3 (z6 rfl c2) rfl rfl rfl))<|zW rfl rfl (fun c3=>zp.step (zK Tryz.underlying51 rfl rfl Tryz.sizeOf3 rfl)) ?_
 refine zW rfl rfl (fun c4=>zp.step (zN Tryz.isAgg3 (z6 rfl c4) rfl rfl rfl))<|zW rfl rfl (fun c5=>zp.step (zz (z6 rfl c5) (z6 rfl c5)))<|zA (zg rfl rfl)<|zA (zB rfl)<|zW rfl rfl (fun c6=>zp.step (zK Tryz.underlying51 rfl rfl Tryz.sizeOf3 rfl))<|zW rfl rfl (fun c7=>zp.step (zN Tryz.isAgg3 (z6 rfl c7) rfl rfl rfl)) ?_
 refine zW rfl rfl (fun c8=>zp.step (zK Tryz.underlying51 rfl rfl Tryz.sizeOf3 rfl))<|zW rfl rfl (fun c9=>zp.step (zN Tryz.isAgg3 (z6 rfl c9) rfl rfl rfl))<|zW rfl rfl (fun c10=>zp.step (zz (z6 rfl c10) (z6 rfl c10)))<|zA (zg rfl rfl)<|zA (zB rfl)<|zW rfl rfl (fun c11=>zp.step (zK Tryz.underlying51 rfl rfl Tryz.sizeOf3 rfl)) ?_
 refine zW rfl rfl (fun c12=>zp.step (zN Tryz.isAgg3 (z6 rfl c12) rfl rfl rfl))<|zW rfl rfl (fun c13=>zp.step (zK Tryz.underlying51 rfl rfl Tryz.sizeOf3 rfl))<|zW rfl rfl (fun c14=>zp.step (zN Tryz.isAgg3 (z6 rfl c14) rfl rfl rfl))<|zW rfl rfl (fun c15=>zp.step (zz (z6 rfl c15) (z6 rfl c15)))<|zA (zg rfl rfl)<|zA (zB rfl) ?_
 refine zW rfl rfl (fun c16=>zp.step (zK Tryz.underlying51 rfl rfl Tryz.sizeOf3 rfl))<|zW rfl rfl (fun c17=>zp.step (zN Tryz.isAgg3 (z6 rfl c17) rfl rfl rfl))<|zW rfl rfl (fun c18=>zp.step (zK Tryz.underlying51 rfl rfl Tryz.sizeOf3 rfl))<|zW rfl rfl (fun c19=>zp.step (zN Tryz.isAgg3 (z6 rfl c19) rfl rfl rfl))<|zW rfl rfl (fun c20=>zp.step (zz (z6 rfl c20) (z6 rfl c20)))<|zA (zg rfl rfl) ?_
 refine zF ?_
 refine zX h rfl (fun b1 h => ?_) (fun b1 h => ?_)
 ·refine zH<|zC<|zA (zD rfl)<|zF<|zd ?_
  cases h
  exact zu (zAH rfl rfl)
 refine zP ?_
 refine zt (r:=r) (fun (_:Unit)=>mkE []) (fun _=>[]) (fun _=>zKP ) ?_ ?_
 ·
  refine zH<|zC<|zA (zD rfl)<|zF<|zQ<|zq (σ:=Int) (fun i1=>mkE [(2,(AV.ptr 0 0)),(3,(AV.ptr 1 0)),(5,(li i1))]) (fun i1=>[.box 51 (zO B),.box 51 (zO L)]) (fun n0 i1=>zG9 B L n0 i1) 0 h (fun _=>rfl) (z9 [0,1] rfl rfl (by kernel_rfl)) ?_
  clear h
  intro n0 i1 h
  replace h:zEq B L (zG9 B L n0) i1=some r:=h
  unfold zEq at h
  refine zH<|zH<|zC<|zA (zB rfl)<|zA (zCu rfl rfl)<|zF ?_
  refine zX h rfl (fun b2 h => ?_) (fun b2 h => ?_)
  ·refine zP<|zH<|zQ<|zH<|zM h fun b3 h=>zR h fun x1 w1 h => ?_
   refine zAl (n:=53) (m:=0) [.head 0 0,.head 0 0,.head 0 0,.head 0 0,.head 0 0,.head 0 0,.head 0 0,.head 0 0,.head 0 0,.head 0 0] [] [li i1,AV.ptr 0 5,(AV.ptr 0 (5+i1.toNat*1)),(ls cI (B.free.getD i1.toNat ([]:List Int))),li i1,AV.ptr 1 5,(AV.ptr 1 (5+i1.toNat*1)),(ls cI (L.free.getD i1.toNat ([]:List Int))),(AV.lit (.bool x1)),(AV.lit (.bool (!x1)))] [[.box 51 (zO B),.box 51 (zO L)]] (by kernel_rfl) (by kernel_rfl) ⟨D1 fun e s p=>zB (s 5 rfl),D1 fun e s p=>zK (k:=0) (o:=0) (off:=5) Tryz.underlying51 rfl rfl Tryz.sizeOf49 (s 2 rfl),D1 fun e s p=>zAO (m:=5) (s:=1) (i:=i1) (k:=0) (o:=5) Tryz.underlying49 Tryz.sizeOf22 p.1 p.2.1 b3,D1 fun e s p=>zAm (k:=0) (o:=(5+i1.toNat*1)) (cs:=(zO B)) (hd:=([li B.node]++[li B.kind]++[li B.start]++[li B.count]++[li B.min]++[])) (tl:=([])) (g:=(eS cI)) (d0:=([]:List Int)) (l:=B.free) (N:=5) (i:=i1.toNat) (a:=(ls cI (B.free.getD i1.toNat ([]:List Int)))) Tryz.isAgg22 p.1 rfl rfl (congrArg (fun q=>5+q) (Nat.mul_one _)) (zBW b3).2 rfl rfl,D1 fun e s p=>zB (s 5 rfl),D1 fun e s p=>zK (k:=1) (o:=0) (off:=5) Tryz.underlying51 rfl rfl Tryz.sizeOf49 (s 3 rfl),D1 fun e s p=>zAO (m:=5) (s:=1) (i:=i1) (k:=1) (o:=5) Tryz.underlying49 Tryz.sizeOf22 p.1 p.2.1 b3,D1 fun e s p=>zAm (k:=1) (o:=(5+i1.toNat*1)) (cs:=(zO L)) (hd:=([li L.node]++[li L.kind]++[li L.start]++[li L.count]++[li L.min]++[])) (tl:=([])) (g:=(eS cI)) (d0:=([]:List Int)) (l:=L.free) (N:=5) (i:=i1.toNat) (a:=(ls cI (L.free.getD i1.toNat ([]:List Int)))) Tryz.isAgg22 p.1 rfl rfl (congrArg (fun q=>5+q) (Nat.mul_one _)) (zBW b3).2 rfl rfl,?_,D1 fun e s p=>zBE (t:=x1) p.1,trivial⟩ ?_
   ·
    intro e9 s9 p9
    refine zh (r:=(AV.lit (.bool x1))) (la:=[(ls cI (B.free.getD i1.toNat ([]:List Int))),(ls cI (L.free.getD i1.toNat ([]:List Int)))]) Tryz.func117 rfl (by kernel_rfl) (.fn 117) (zAM p9.1 (zAM p9.2.1 rfl)) rfl (zMh w1) rfl ?_
    exact zF ⟨fun _=>rfl,rfl⟩
   intro e11 s11 hq1
   refine zAT (zBM (l:=[(2,(AV.ptr 0 0)),(3,(AV.ptr 1 0)),(5,(li i1)),(52,(AV.lit (.bool (!x1))))]) ⟨s11 2 rfl,s11 3 rfl,s11 5 rfl,(hq1 9 (by decide) (by decide)),trivial⟩) ?_
   refine zX h rfl (fun b4 h => ?_) (fun b4 h => ?_)
   ·refine zH<|zC<|zA (zD rfl)<|zF<|zd ?_
    cases h
    exact zu (zAH rfl rfl)
   refine zP<|zC<|zA (zB rfl)<|zM h fun b5 h=>zA (ze rfl rfl b5)<|zA (zD rfl) ?_
   refine zF ?_
   exact ⟨(i1+1),z9 [0,1] rfl rfl (by kernel_rfl),h⟩
  refine zw ?_
  exact ⟨(),z9 [] rfl rfl (by kernel_rfl),h⟩
 clear h
 intro _ h
 unfold zKP at h
 refine zH<|zC<|zA (zD rfl)<|zF<|zd ?_
 cases h
 exact zu (zAH rfl rfl)
theorem zOu {B:zL} {L:zL} {r:Bool} (h:zKG B L=some r):PFn Tryz.prog 63 [(AV.agg (zG B)),(AV.agg (zG L))] (AV.lit (.bool r)):=by
 refine zo Tryz.func63 rfl Tryz.ntmps63 Tryz.results63 rfl ?_
 unfold zKG at h
 refine zH<|zC<|za (H':=[.box 55 (zG B)]) (zv (t:=55) rfl)<|za (H':=[.box 55 (zG B),.box 55 (zG L)]) (zv (t:=55) rfl)<|zA (zD rfl)<|zF ?_
 refine zH<|zH<|zC<|zA (zK Tryz.underlying55 rfl rfl Tryz.sizeOf53 rfl)<|zA (zN Tryz.isAgg53 rfl rfl rfl rfl)<|zA (zV Tryz.underlying53 rfl) ?_
 refine zA (zK Tryz.underlying55 rfl rfl Tryz.sizeOf53 rfl)<|zA (zN Tryz.isAgg53 rfl rfl rfl rfl)<|zA (zV Tryz.underlying53 rfl)<|zA (zz rfl rfl)<|zF ?_
 refine zX h rfl (fun b1 h => ?_) (fun b1 h => ?_)
 ·refine zH<|zC<|zA (zD rfl)<|zF<|zd ?_
  cases h
  exact zu (zAH rfl rfl)
 refine zP ?_
 refine zt (r:=r) (fun (_:Unit)=>mkE []) (fun _=>[]) (fun _=>zKS ) ?_ ?_
 ·
  refine zH<|zC<|zA (zK Tryz.underlying55 rfl rfl Tryz.sizeOf53 rfl)<|zA (zN Tryz.isAgg53 rfl rfl rfl rfl)<|zA (zV Tryz.underlying53 rfl)<|zA (zB rfl) ?_
  refine zF<|zQ<|zq (σ:=Int) (fun i1=>mkE [(2,(AV.ptr 0 0)),(3,(AV.ptr 1 0)),(15,(li (B.lists.length:Int))),(16,(li i1))]) (fun i1=>[.box 55 (zG B),.box 55 (zG L)]) (fun n0 i1=>zHK B L n0 i1) 0 h (fun _=>rfl) (z9 [0,1] rfl rfl (by kernel_rfl)) ?_
  clear h
  intro n0 i1 h
  replace h:zEj B L (zHK B L n0) i1=some r:=h
  unfold zEj at h
  refine zH<|zC<|zA (zf rfl rfl)<|zF<|zH ?_
  refine zX h rfl (fun b2 h => ?_) (fun b2 h => ?_)
  ·refine zP<|zH<|zQ<|zH<|zC<|zA (zB rfl) ?_
   refine zA (zD rfl)<|zF<|zH<|zM h fun b3 h=>zM h fun b4 h=>zR h fun x1 w1 h => ?_
   refine zAl (n:=32) (m:=0) [.head 0 0,.head 0 0,.head 0 0,.head 0 0,.head 0 0,.head 0 0,.head 0 0,.head 0 0,.head 0 0,.head 0 0,.head 0 0,.head 0 0] [] [AV.ptr 0 0,(ls (cS cI) B.lists),li i1,(AV.rp ((cS cI) (at_ B.lists i1)) 0),(ls cI (at_ B.lists i1)),AV.ptr 1 0,(ls (cS cI) L.lists),li i1,(AV.rp ((cS cI) (at_ L.lists i1)) 0),(ls cI (at_ L.lists i1)),(AV.lit (.bool x1)),(AV.lit (.bool (!x1)))] [[.box 55 (zG B),.box 55 (zG L)]] (by kernel_rfl) (by kernel_rfl) ⟨D1 fun e s p=>zK (k:=0) (o:=0) (off:=0) Tryz.underlying55 rfl rfl Tryz.sizeOf53 (s 2 rfl),D1 fun e s p=>zN (k:=0) (o:=0) Tryz.isAgg53 p.1 rfl rfl rfl,D1 fun e s p=>zB (s 5 rfl),D1 fun e s p=>zT (f:=(cS cI)) (l:=B.lists) (i:=i1) Tryz.underlying53 Tryz.sizeOf22 (fun _=>rfl) p.1 p.2.1 b3,D1 fun e s p=>zU (o:=0) Tryz.isAgg22 p.1 rfl,D1 fun e s p=>zK (k:=1) (o:=0) (off:=0) Tryz.underlying55 rfl rfl Tryz.sizeOf53 (s 3 rfl),D1 fun e s p=>zN (k:=1) (o:=0) Tryz.isAgg53 p.1 rfl rfl rfl,D1 fun e s p=>zB (s 5 rfl),D1 fun e s p=>zT (f:=(cS cI)) (l:=L.lists) (i:=i1) Tryz.underlying53 Tryz.sizeOf22 (fun _=>rfl) p.1 p.2.1 b4,D1 fun e s p=>zU (o:=0) Tryz.isAgg22 p.1 rfl,?_,D1 fun e s p=>zBE (t:=x1) p.1,trivial⟩ ?_
   ·
    intro e11 s11 p11
    refine zh (r:=(AV.lit (.bool x1))) (la:=[(ls cI (at_ B.lists i1)),(ls cI (at_ L.lists i1))]) Tryz.func61 rfl (by kernel_rfl) (.fn 61) (zAM p11.1 (zAM p11.2.1 rfl)) rfl (zJ8 w1) rfl ?_
    exact zF ⟨fun _=>rfl,rfl⟩
   intro e13 s13 hq1
   refine zAT (zBM (l:=[(2,(AV.ptr 0 0)),(3,(AV.ptr 1 0)),(15,(li (B.lists.length:Int))),(16,(li i1)),(30,(AV.lit (.bool (!x1))))]) ⟨s13 2 rfl,s13 3 rfl,s13 15 rfl,s13 16 rfl,(hq1 11 (by decide) (by decide)),trivial⟩) ?_
   refine zX h rfl (fun b5 h => ?_) (fun b5 h => ?_)
   ·refine zH<|zC<|zA (zD rfl)<|zF<|zd ?_
    cases h
    exact zu (zAH rfl rfl)
   refine zP<|zC<|zM h fun b6 h=>zA (ze rfl rfl b6)<|zA (zB rfl)<|zF ?_
   exact ⟨(i1+1),z9 [0,1] rfl rfl (by kernel_rfl),h⟩
  refine zw ?_
  exact ⟨(),z9 [] rfl rfl (by kernel_rfl),h⟩
 clear h
 intro _ h
 unfold zKS at h
 refine zH<|zC<|zA (zD rfl)<|zF<|zd ?_
 cases h
 exact zu (zAH rfl rfl)
theorem zLz {A:zJ} {D:zJ} {r:Bool} (h:zI1 A D=some r):PFn Tryz.prog 25 [(AV.agg (zI A)),(AV.agg (zI D))] (AV.lit (.bool r)):=by
 refine zo Tryz.func25 rfl Tryz.ntmps25 Tryz.results25 rfl ?_
 unfold zI1 at h
 refine zH<|zC<|za (H':=[.box 26 (zI A)]) (zv (t:=26) rfl)<|za (H':=[.box 26 (zI A),.box 26 (zI D)]) (zv (t:=26) rfl)<|zA (zD rfl)<|zF ?_
 refine zH<|zH<|zC<|zA (zK Tryz.underlying26 rfl rfl Tryz.sizeOf22 rfl)<|zA (zN Tryz.isAgg22 rfl rfl rfl rfl)<|zA (zK Tryz.underlying26 rfl rfl Tryz.sizeOf22 rfl) ?_
 refine zA (zN Tryz.isAgg22 rfl rfl rfl rfl)<|zR h fun x1 w1 h=>zh Tryz.func61 rfl (by kernel_rfl) (.fn 61) rfl rfl (zJ8 w1) rfl<|zA (zBE (t:=x1) rfl)<|zA (zB rfl)<|zW rfl rfl (fun c1=>zp.step (zK Tryz.underlying26 rfl rfl Tryz.sizeOf3 rfl)) ?_
 refine zW rfl rfl (fun c2=>zp.step (zN Tryz.isAgg3 (z6 rfl c2) rfl rfl rfl))<|zW rfl rfl (fun c3=>zp.step (zK Tryz.underlying26 rfl rfl Tryz.sizeOf3 rfl))<|zW rfl rfl (fun c4=>zp.step (zN Tryz.isAgg3 (z6 rfl c4) rfl rfl rfl))<|zW rfl rfl (fun c5=>zp.step (zz (z6 rfl c5) (z6 rfl c5)))<|zA (zg rfl rfl)<|zA (zB rfl) ?_
 refine zW rfl rfl (fun c6=>zp.step (zK Tryz.underlying26 rfl rfl Tryz.sizeOf3 rfl))<|zW rfl rfl (fun c7=>zp.step (zN Tryz.isAgg3 (z6 rfl c7) rfl rfl rfl))<|zW rfl rfl (fun c8=>zp.step (zK Tryz.underlying26 rfl rfl Tryz.sizeOf3 rfl))<|zW rfl rfl (fun c9=>zp.step (zN Tryz.isAgg3 (z6 rfl c9) rfl rfl rfl))<|zW rfl rfl (fun c10=>zp.step (zz (z6 rfl c10) (z6 rfl c10)))<|zA (zg rfl rfl) ?_
 refine zA (zB rfl)<|zW rfl rfl (fun c11=>zp.step (zK Tryz.underlying26 rfl rfl Tryz.sizeOf23 rfl))<|zW rfl rfl (fun c12=>zp.step (zN Tryz.isAgg23 (z6 rfl c12) rfl rfl rfl))<|zW rfl rfl (fun c13=>zp.step (zV Tryz.underlying23 (z6 rfl c13)))<|zW rfl rfl (fun c14=>zp.step (zK Tryz.underlying26 rfl rfl Tryz.sizeOf23 rfl))<|zW rfl rfl (fun c15=>zp.step (zN Tryz.isAgg23 (z6 rfl c15) rfl rfl rfl)) ?_
 refine zW rfl rfl (fun c16=>zp.step (zV Tryz.underlying23 (z6 rfl c16)))<|zW rfl rfl (fun c17=>zp.step (zz (z6 rfl c17) (z6 rfl c17)))<|zA (zg rfl rfl)<|zA (zB rfl)<|zW rfl rfl (fun c18=>zp.step (zK Tryz.underlying26 rfl rfl Tryz.sizeOf24 rfl))<|zW rfl rfl (fun c19=>zp.step (zN Tryz.isAgg24 (z6 rfl c19) rfl rfl rfl)) ?_
 refine zW rfl rfl (fun c20=>zp.step (zV Tryz.underlying24 (z6 rfl c20)))<|zW rfl rfl (fun c21=>zp.step (zK Tryz.underlying26 rfl rfl Tryz.sizeOf24 rfl))<|zW rfl rfl (fun c22=>zp.step (zN Tryz.isAgg24 (z6 rfl c22) rfl rfl rfl))<|zW rfl rfl (fun c23=>zp.step (zV Tryz.underlying24 (z6 rfl c23)))<|zW rfl rfl (fun c24=>zp.step (zz (z6 rfl c24) (z6 rfl c24)))<|zA (zg rfl rfl) ?_
 refine zF ?_
 refine zX h rfl (fun b1 h => ?_) (fun b1 h => ?_)
 ·refine zH<|zC<|zA (zD rfl)<|zF<|zd ?_
  cases h
  exact zu (zAH rfl rfl)
 refine zP ?_
 refine zt (r:=r) (fun (_:Unit)=>mkE [(2,(AV.ptr 0 0)),(3,(AV.ptr 1 0))]) (fun _=>[.box 26 (zI A),.box 26 (zI D)]) (fun _=>zKM A D) ?_ ?_
 ·
  refine zH<|zC<|zA (zD rfl)<|zF<|zQ<|zq (σ:=Int) (fun i2=>mkE [(2,(AV.ptr 0 0)),(3,(AV.ptr 1 0)),(5,(li i2))]) (fun i2=>[.box 26 (zI A),.box 26 (zI D)]) (fun n1 i2=>zHc A D n1 i2) 0 h (fun _=>rfl) (z9 [0,1] rfl rfl (by kernel_rfl)) ?_
  clear h
  intro n1 i2 h
  replace h:zEi A D (zHc A D n1) i2=some r:=h
  unfold zEi at h
  refine zH<|zH<|zC<|zA (zB rfl)<|zA (zK Tryz.underlying26 rfl rfl Tryz.sizeOf23 rfl)<|zA (zN Tryz.isAgg23 rfl rfl rfl rfl) ?_
  refine zA (zV Tryz.underlying23 rfl)<|zA (zf rfl rfl)<|zF ?_
  refine zX h rfl (fun b7 h => ?_) (fun b7 h => ?_)
  ·refine zP<|zH<|zQ<|zH<|zM h fun b8 h=>zM h fun b9 h => ?_
   refine zR h fun x3 w3 h => ?_
   refine zAl (n:=83) (m:=0) [.head 0 0,.head 0 0,.head 0 0,.head 0 0,.head 0 0,.head 0 0,.head 0 0,.head 0 0,.head 0 0,.head 0 0,.head 0 0,.head 0 0] [] [AV.ptr 0 3,ls zO A.zones,li i2,(AV.rp (zO (at_ A.zones i2)) 0),(AV.agg (zO (at_ A.zones i2))),AV.ptr 1 3,ls zO D.zones,li i2,(AV.rp (zO (at_ D.zones i2)) 0),(AV.agg (zO (at_ D.zones i2))),(AV.lit (.bool x3)),(AV.lit (.bool (!x3)))] [[.box 26 (zI A),.box 26 (zI D)]] (by kernel_rfl) (by kernel_rfl) ⟨D1 fun e s p=>zK (k:=0) (o:=0) (off:=3) Tryz.underlying26 rfl rfl Tryz.sizeOf23 (s 2 rfl),D1 fun e s p=>zN (k:=0) (o:=3) Tryz.isAgg23 p.1 rfl rfl rfl,D1 fun e s p=>zB (s 5 rfl),D1 fun e s p=>zT (f:=zO) (l:=A.zones) (i:=i2) Tryz.underlying23 Tryz.sizeOf51 (fun _=>rfl) p.1 p.2.1 b8,D1 fun e s p=>zAi (row:=(zO (at_ A.zones i2))) (o:=0) (m:=10) (la:=(zO (at_ A.zones i2))) Tryz.isAgg51 Tryz.sizeOf51 p.1 rfl rfl,D1 fun e s p=>zK (k:=1) (o:=0) (off:=3) Tryz.underlying26 rfl rfl Tryz.sizeOf23 (s 3 rfl),D1 fun e s p=>zN (k:=1) (o:=3) Tryz.isAgg23 p.1 rfl rfl rfl,D1 fun e s p=>zB (s 5 rfl),D1 fun e s p=>zT (f:=zO) (l:=D.zones) (i:=i2) Tryz.underlying23 Tryz.sizeOf51 (fun _=>rfl) p.1 p.2.1 b9,D1 fun e s p=>zAi (row:=(zO (at_ D.zones i2))) (o:=0) (m:=10) (la:=(zO (at_ D.zones i2))) Tryz.isAgg51 Tryz.sizeOf51 p.1 rfl rfl,?_,D1 fun e s p=>zBE (t:=x3) p.1,trivial⟩ ?_
   ·
    intro e24 s24 p23
    refine zh (r:=(AV.lit (.bool x3))) (la:=[(AV.agg (zO (at_ A.zones i2))),(AV.agg (zO (at_ D.zones i2)))]) Tryz.func62 rfl (by kernel_rfl) (.fn 62) (zAM p23.1 (zAM p23.2.1 rfl)) rfl (zO3 w3) rfl ?_
    exact zF ⟨fun _=>rfl,rfl⟩
   intro e26 s26 hq2
   refine zAT (zBM (l:=[(2,(AV.ptr 0 0)),(3,(AV.ptr 1 0)),(5,(li i2)),(63,(AV.lit (.bool (!x3))))]) ⟨s26 2 rfl,s26 3 rfl,s26 5 rfl,(hq2 11 (by decide) (by decide)),trivial⟩) ?_
   refine zX h rfl (fun b10 h => ?_) (fun b10 h => ?_)
   ·refine zH<|zC<|zA (zD rfl)<|zF<|zd ?_
    cases h
    exact zu (zAH rfl rfl)
   refine zP<|zC<|zA (zB rfl)<|zM h fun b11 h=>zA (ze rfl rfl b11)<|zA (zD rfl) ?_
   refine zF ?_
   exact ⟨(i2+1),z9 [0,1] rfl rfl (by kernel_rfl),h⟩
  refine zw ?_
  exact ⟨(),z9 [0,1] rfl rfl (by kernel_rfl),h⟩
 clear h
 intro _ h
 unfold zKM at h
 refine zt (r:=r) (fun (_:Unit)=>mkE []) (fun _=>[]) (fun _=>zKK ) ?_ ?_
 ·
  refine zH<|zC<|zA (zD rfl)<|zF<|zQ<|zq (σ:=Int) (fun i1=>mkE [(2,(AV.ptr 0 0)),(3,(AV.ptr 1 0)),(6,(li i1))]) (fun i1=>[.box 26 (zI A),.box 26 (zI D)]) (fun n0 i1=>zGx A D n0 i1) 0 h (fun _=>rfl) (z9 [0,1] rfl rfl (by kernel_rfl)) ?_
  clear h
  intro n0 i1 h
  replace h:zEv A D (zGx A D n0) i1=some r:=h
  unfold zEv at h
  refine zH<|zH<|zC<|zA (zB rfl)<|zA (zK Tryz.underlying26 rfl rfl Tryz.sizeOf24 rfl)<|zA (zN Tryz.isAgg24 rfl rfl rfl rfl) ?_
  refine zA (zV Tryz.underlying24 rfl)<|zA (zf rfl rfl)<|zF ?_
  refine zX h rfl (fun b2 h => ?_) (fun b2 h => ?_)
  ·refine zP<|zH<|zQ<|zH<|zM h fun b3 h=>zM h fun b4 h => ?_
   refine zR h fun x2 w2 h => ?_
   refine zAl (n:=83) (m:=0) [.head 0 0,.head 0 0,.head 0 0,.head 0 0,.head 0 0,.head 0 0,.head 0 0,.head 0 0,.head 0 0,.head 0 0,.head 0 0,.head 0 0] [] [AV.ptr 0 4,ls zG A.caches,li i1,(AV.rp (zG (at_ A.caches i1)) 0),(AV.agg (zG (at_ A.caches i1))),AV.ptr 1 4,ls zG D.caches,li i1,(AV.rp (zG (at_ D.caches i1)) 0),(AV.agg (zG (at_ D.caches i1))),(AV.lit (.bool x2)),(AV.lit (.bool (!x2)))] [[.box 26 (zI A),.box 26 (zI D)]] (by kernel_rfl) (by kernel_rfl) ⟨D1 fun e s p=>zK (k:=0) (o:=0) (off:=4) Tryz.underlying26 rfl rfl Tryz.sizeOf24 (s 2 rfl),D1 fun e s p=>zN (k:=0) (o:=4) Tryz.isAgg24 p.1 rfl rfl rfl,D1 fun e s p=>zB (s 6 rfl),D1 fun e s p=>zT (f:=zG) (l:=A.caches) (i:=i1) Tryz.underlying24 Tryz.sizeOf55 (fun _=>rfl) p.1 p.2.1 b3,D1 fun e s p=>zAi (row:=(zG (at_ A.caches i1))) (o:=0) (m:=1) (la:=(zG (at_ A.caches i1))) Tryz.isAgg55 Tryz.sizeOf55 p.1 rfl rfl,D1 fun e s p=>zK (k:=1) (o:=0) (off:=4) Tryz.underlying26 rfl rfl Tryz.sizeOf24 (s 3 rfl),D1 fun e s p=>zN (k:=1) (o:=4) Tryz.isAgg24 p.1 rfl rfl rfl,D1 fun e s p=>zB (s 6 rfl),D1 fun e s p=>zT (f:=zG) (l:=D.caches) (i:=i1) Tryz.underlying24 Tryz.sizeOf55 (fun _=>rfl) p.1 p.2.1 b4,D1 fun e s p=>zAi (row:=(zG (at_ D.caches i1))) (o:=0) (m:=1) (la:=(zG (at_ D.caches i1))) Tryz.isAgg55 Tryz.sizeOf55 p.1 rfl rfl,?_,D1 fun e s p=>zBE (t:=x2) p.1,trivial⟩ ?_
   ·
    intro e11 s11 p11
    refine zh (r:=(AV.lit (.bool x2))) (la:=[(AV.agg (zG (at_ A.caches i1))),(AV.agg (zG (at_ D.caches i1)))]) Tryz.func63 rfl (by kernel_rfl) (.fn 63) (zAM p11.1 (zAM p11.2.1 rfl)) rfl (zOu w2) rfl ?_
    exact zF ⟨fun _=>rfl,rfl⟩
   intro e13 s13 hq1
   refine zAT (zBM (l:=[(2,(AV.ptr 0 0)),(3,(AV.ptr 1 0)),(6,(li i1)),(82,(AV.lit (.bool (!x2))))]) ⟨s13 2 rfl,s13 3 rfl,s13 6 rfl,(hq1 11 (by decide) (by decide)),trivial⟩) ?_
   refine zX h rfl (fun b5 h => ?_) (fun b5 h => ?_)
   ·refine zH<|zC<|zA (zD rfl)<|zF<|zd ?_
    cases h
    exact zu (zAH rfl rfl)
   refine zP<|zC<|zA (zB rfl)<|zM h fun b6 h=>zA (ze rfl rfl b6)<|zA (zD rfl) ?_
   refine zF ?_
   exact ⟨(i1+1),z9 [0,1] rfl rfl (by kernel_rfl),h⟩
  refine zw ?_
  exact ⟨(),z9 [] rfl rfl (by kernel_rfl),h⟩
 clear h
 intro _ h
 unfold zKK at h
 refine zH<|zC<|zA (zD rfl)<|zF<|zd ?_
 cases h
 exact zu (zAH rfl rfl)
theorem zLW  {r:Bool} (h:zI9=some r):PFn Tryz.prog 9 [] (AV.lit (.bool r)):=by
 refine zo Tryz.func9 rfl Tryz.ntmps9 Tryz.results9 rfl ?_
 unfold zI9 at h
 refine zH<|zC<|zA (zD (av:=(AV.lit (.bool false))) rfl)<|zF<|zH<|zC ?_
 refine zQ3 (N:=2) (pl:=[(0,1),(1,1)]) (zs:=[.int .i64 0,.int .i64 0]) (zc:=[.lit (.int .i64 0),.lit (.int .i64 0)]) (rows:=List.map cI [0,1]) zE0 Tryz.underlying22 rfl rfl rfl (by kernel_rfl) rfl (⟨zAt.refl _,⟨zAt.refl _,trivial⟩⟩) ⟨li 0,0,1,rfl,rfl,rfl,rfl,rfl,⟨li 1,1,1,rfl,rfl,rfl,rfl,rfl,(by exact zLT.refl _)⟩⟩ rfl rfl rfl<|zA (zCV (pl:=[(0,1),(1,1),(2,1),(3,1)]) (zs:=[.int .i64 0,.int .i64 0,.int .i64 0,.int .i64 0]) (zc:=[.lit (.int .i64 0),.lit (.int .i64 0),.lit (.int .i64 0),.lit (.int .i64 0)]) (res:=(zAf (⟨0,0,8,2⟩:zCB))) (fun _=>by kernel_rfl) rfl (⟨zAt.refl _,⟨zAt.refl _,⟨zAt.refl _,⟨zAt.refl _,trivial⟩⟩⟩⟩) ⟨li 0,0,1,rfl,rfl,rfl,rfl,rfl,⟨li 0,1,1,rfl,rfl,rfl,rfl,rfl,⟨li 8,2,1,rfl,rfl,rfl,rfl,rfl,⟨li 2,3,1,rfl,rfl,rfl,rfl,rfl,(by exact zLT.refl _)⟩⟩⟩⟩)<|zA (zCV (pl:=[(0,1),(1,1),(2,1),(3,1)]) (zs:=[.int .i64 0,.int .i64 0,.int .i64 0,.int .i64 0]) (zc:=[.lit (.int .i64 0),.lit (.int .i64 0),.lit (.int .i64 0),.lit (.int .i64 0)]) (res:=(zAf (⟨1,1,8,0⟩:zCB))) (fun _=>by kernel_rfl) rfl (⟨zAt.refl _,⟨zAt.refl _,⟨zAt.refl _,⟨zAt.refl _,trivial⟩⟩⟩⟩) ⟨li 1,0,1,rfl,rfl,rfl,rfl,rfl,⟨li 1,1,1,rfl,rfl,rfl,rfl,rfl,⟨li 8,2,1,rfl,rfl,rfl,rfl,rfl,⟨li 0,3,1,rfl,rfl,rfl,rfl,rfl,(by exact zLT.refl _)⟩⟩⟩⟩)<|zQ3 (N:=2) (pl:=[(0,4),(4,4)]) (zs:=[.int .i64 0,.int .i64 0,.int .i64 0,.int .i64 0,.int .i64 0,.int .i64 0,.int .i64 0,.int .i64 0]) (zc:=[.lit (.int .i64 0),.lit (.int .i64 0),.lit (.int .i64 0),.lit (.int .i64 0),.lit (.int .i64 0),.lit (.int .i64 0),.lit (.int .i64 0),.lit (.int .i64 0)]) (rows:=List.map zAf [(⟨0,0,8,2⟩:zCB),(⟨1,1,8,0⟩:zCB)]) zWw Tryz.underlying47 rfl rfl rfl (by kernel_rfl) rfl (⟨zAt.refl _,⟨zAt.refl _,⟨zAt.refl _,⟨zAt.refl _,⟨zAt.refl _,⟨zAt.refl _,⟨zAt.refl _,⟨zAt.refl _,trivial⟩⟩⟩⟩⟩⟩⟩⟩) ⟨(AV.agg (zAf (⟨0,0,8,2⟩:zCB))),0,4,rfl,rfl,rfl,rfl,rfl,⟨(AV.agg (zAf (⟨1,1,8,0⟩:zCB))),4,4,rfl,rfl,rfl,rfl,rfl,(by exact zLT.refl _)⟩⟩ rfl rfl rfl<|zR h fun x1 w1 h=>zAA (zDR (j:=0) (ds:=[11]) (rows':=List.map cI [0,1]) rfl (zAL (fun _=>rfl)) ⟨rfl,trivial⟩) ?_
 refine zR h fun x2 w2 h=>zAA (zDR (j:=1) (ds:=[14]) (rows':=List.map zAf [(⟨0,0,8,2⟩:zCB),(⟨1,1,8,0⟩:zCB)]) rfl (zAL (fun _=>rfl)) ⟨rfl,trivial⟩)<|zR h fun x3 w3 h=>zh Tryz.func36 rfl (by kernel_rfl) (.fn 36) rfl rfl (zM6 w3) rfl<|zA (zB rfl)<|zA (zb rfl rfl) ?_
 refine zA (zb (la:=[(AV.agg (zI x3.1)),li x3.2]) rfl rfl)<|za (a:=(AV.ptr 2 0)) (H':=[.dead,.dead,.box 26 (zI ⟨[],0,0,[],[]⟩)]) zv3<|zj (H':=[.dead,.dead,.box 26 (zI x3.1)]) (zY (k:=2) (o:=0) (cs:=(zI ⟨[],0,0,[],[]⟩)) (la:=(zI x3.1)) Tryz.sizeOf26 rfl rfl rfl rfl)<|zA (zD (av:=(li x3.2)) rfl)<|zF<|zH ?_
 refine zH<|zC<|zA (zB rfl)<|zA (zz rfl rfl)<|zA (zB rfl)<|zW rfl rfl (fun c1=>zp.step (zK Tryz.underlying26 rfl rfl Tryz.sizeOf23 rfl)) ?_
 refine zW (g:=20) (s := !decide (x3.2=0)) rfl rfl (fun c2=>zp.step (zN (k:=2) (o:=3) (a:=(ls zO x3.1.zones)) Tryz.isAgg23 (z6 rfl c2) rfl rfl rfl))<|zW (g:=20) (s := !decide (x3.2=0)) rfl rfl (fun c3=>zp.step (zV (f:=zO) (l:=x3.1.zones) Tryz.underlying23 (z6 rfl c3)))<|zW (g:=20) (s := !decide (x3.2=0)) rfl rfl (fun c4=>zp.step (zz (a:=(x3.1.zones.length:Int)) (b:=2) (z6 rfl c4) rfl))<|zA (zg (s := !decide (x3.2=0)) (q := !decide ((x3.1.zones.length:Int)=2)) (j := .lit undef) rfl rfl)<|zA (zB (av:=(AV.lit (.bool ((!decide (x3.2=0))||(!decide ((x3.1.zones.length:Int)=2)))))) rfl)<|zW (g:=26) (s:=(!decide (x3.2=0))||(!decide ((x3.1.zones.length:Int)=2))) rfl rfl (fun c5=>zp.step (zK (k:=2) (o:=0) (off:=4) Tryz.underlying26 rfl rfl Tryz.sizeOf24 rfl)) ?_
 refine zW rfl rfl (fun c6=>zp.step (zN Tryz.isAgg24 (z6 rfl c6) rfl rfl rfl))<|zW rfl rfl (fun c7=>zp.step (zV Tryz.underlying24 (z6 rfl c7)))<|zW rfl rfl (fun c8=>zp.step (zz (z6 rfl c8) rfl))<|zA (zg rfl rfl)<|zA (zB rfl)<|zW rfl rfl (fun c9=>zp.step (zS (k:=2) (o:=0) (m:=5) Tryz.isAgg26 Tryz.sizeOf26 rfl rfl rfl rfl rfl)) ?_
 refine zR h fun x4 w4 h=>zCv (g:=32) (s:=((!decide (x3.2=0))||(!decide ((x3.1.zones.length:Int)=2)))||(!decide ((x3.1.caches.length:Int)=2))) (r':=(li x4)) rfl rfl (fun c10=>⟨13,_,_,[],[(AV.agg (zI x3.1))],[(AV.agg (zI x3.1))],li x4,[],Tryz.func13,rfl,by kernel_rfl,.fn 13,(zAM (z6 rfl c10) rfl),⟨zAs.nr rfl,trivial⟩,zBD (zGm c10 w4),.inl rfl,rfl⟩)<|zW (g:=32) (s:=((!decide (x3.2=0))||(!decide ((x3.1.zones.length:Int)=2)))||(!decide ((x3.1.caches.length:Int)=2))) rfl rfl (fun c11=>zp.step (zz (a:=x4) (b:=0) (z6 rfl c11) rfl))<|zA (zg (s:=((!decide (x3.2=0))||(!decide ((x3.1.zones.length:Int)=2)))||(!decide ((x3.1.caches.length:Int)=2))) (q := !decide (x4=0)) (j := .lit undef) rfl rfl)<|zA (zB (av:=(AV.lit (.bool ((((!decide (x3.2=0))||(!decide ((x3.1.zones.length:Int)=2)))||(!decide ((x3.1.caches.length:Int)=2)))||(!decide (x4=0)))))) rfl)<|zW (g:=37) (s:=(((!decide (x3.2=0))||(!decide ((x3.1.zones.length:Int)=2)))||(!decide ((x3.1.caches.length:Int)=2)))||(!decide (x4=0))) rfl rfl (fun c12=>zp.step (zS (k:=2) (o:=0) (m:=5) (la:=(zI x3.1)) Tryz.isAgg26 Tryz.sizeOf26 rfl rfl rfl rfl rfl)) ?_
 refine zR h fun x5 w5 h=>zCv (g:=37) (s:=(((!decide (x3.2=0))||(!decide ((x3.1.zones.length:Int)=2)))||(!decide ((x3.1.caches.length:Int)=2)))||(!decide (x4=0))) (r':=(li x5)) rfl rfl (fun c13=>⟨15,_,_,[],[(AV.agg (zI x3.1))],[(AV.agg (zI x3.1))],li x5,[],Tryz.func15,rfl,by kernel_rfl,.fn 15,(zAM (z6 rfl c13) rfl),⟨zAs.nr rfl,trivial⟩,zLm (zGm c13 w5),.inl rfl,rfl⟩)<|zW rfl rfl (fun c14=>zp.step (zz (z6 rfl c14) rfl))<|zA (zg rfl rfl)<|zF ?_
 refine zX h rfl (fun b1 h => ?_) (fun b1 h => ?_)
 ·refine zH<|zC<|zA (zD (av:=(AV.lit (.bool false))) rfl)<|zF<|zd ?_
  cases h
  exact zu (zAH rfl rfl)
 refine zP<|zH<|zC<|zA (zS (k:=2) (o:=0) (m:=5) (la:=(zI x3.1)) Tryz.isAgg26 Tryz.sizeOf26 rfl rfl rfl rfl rfl)<|zR h fun x6 w6 h=>zh (r:=(AV.tup [li x6.1,li x6.2])) (la:=[(AV.agg (zI x3.1))]) Tryz.func11 rfl (by kernel_rfl) (.fn 11) rfl rfl (zK9 w6) rfl ?_
 refine zA (zB rfl)<|zA (zb rfl rfl)<|zA (zb rfl rfl)<|zA (zD rfl)<|zA (zD rfl)<|zF ?_
 refine zH<|zC<|zA (zS (k:=2) (o:=0) (m:=5) (la:=(zI x3.1)) Tryz.isAgg26 Tryz.sizeOf26 rfl rfl rfl rfl rfl)<|zR h fun x7 w7 h=>zh (r:=(AV.tup [(AV.agg (zI x7.1)),li x7.2.1,li x7.2.2])) (la:=[(AV.agg (zI x3.1)),li 0,(AV.lit (.bool true)),(AV.lit (.bool false))]) Tryz.func23 rfl (by kernel_rfl) (.fn 23) rfl rfl (zMN w7) rfl<|zA (zB (av:=(AV.tup [(AV.agg (zI x7.1)),li x7.2.1,li x7.2.2])) rfl) ?_
 refine zA (zb rfl rfl)<|zA (zb rfl rfl)<|zA (zb rfl rfl)<|za (H':=[.dead,.dead,.box 26 (zI x3.1),.box 26 (zI ⟨[],0,0,[],[]⟩)]) zv3<|zj (H':=[.dead,.dead,.box 26 (zI x3.1),.box 26 (zI x7.1)]) (zY (k:=3) (o:=0) (cs:=(zI ⟨[],0,0,[],[]⟩)) (la:=(zI x7.1)) Tryz.sizeOf26 rfl rfl rfl rfl)<|zA (zD rfl) ?_
 refine zA (zD (av:=(li x7.2.2)) rfl)<|zF<|zH<|zH<|zC<|zA (zB (av:=(li x6.1)) rfl) ?_
 refine zA (zz rfl rfl)<|zA (zB rfl)<|zW rfl rfl (fun c15=>zp.step (zB rfl))<|zW rfl rfl (fun c16=>zp.step (zz (z6 rfl c16) rfl))<|zA (zg rfl rfl)<|zA (zB rfl) ?_
 refine zW (g:=59) (s:=(!decide (x6.1=6))||(!decide (x6.2=14))) rfl rfl (fun c17=>zp.step (zB (av:=(li x7.2.2)) rfl))<|zW (g:=59) (s:=(!decide (x6.1=6))||(!decide (x6.2=14))) rfl rfl (fun c18=>zp.step (zz (a:=x7.2.2) (b:=0) (z6 rfl c18) rfl))<|zA (zg (s:=(!decide (x6.1=6))||(!decide (x6.2=14))) (q := !decide (x7.2.2=0)) (j := .lit undef) rfl rfl)<|zA (zB (av:=(AV.lit (.bool (((!decide (x6.1=6))||(!decide (x6.2=14)))||(!decide (x7.2.2=0)))))) rfl)<|zW (g:=63) (s:=((!decide (x6.1=6))||(!decide (x6.2=14)))||(!decide (x7.2.2=0))) rfl rfl (fun c19=>zp.step (zB (av:=(li x7.2.1)) rfl))<|zW (g:=63) (s:=((!decide (x6.1=6))||(!decide (x6.2=14)))||(!decide (x7.2.2=0))) rfl rfl (fun c20=>zp.step (zz (a:=x7.2.1) (b:=0) (z6 rfl c20) rfl)) ?_
 refine zA (zg rfl rfl)<|zA (zB rfl)<|zW rfl rfl (fun c21=>zp.step (zS (k:=3) (o:=0) (m:=5) Tryz.isAgg26 Tryz.sizeOf26 rfl rfl rfl rfl rfl))<|zR h fun x8 w8 h=>zCv (g:=67) (s:=(((!decide (x6.1=6))||(!decide (x6.2=14)))||(!decide (x7.2.2=0)))||(!decide (x7.2.1=0))) (r':=(AV.lit (.bool x8))) rfl rfl (fun c22=>⟨19,_,_,[],[(AV.agg (zI x7.1)),li 0],[(AV.agg (zI x7.1)),li 0],(AV.lit (.bool x8)),[],Tryz.func19,rfl,by kernel_rfl,.fn 19,(zAM (z6 rfl c22) (zAM rfl rfl)),⟨zAs.nr rfl,zAs.nr rfl,trivial⟩,zJD (zGm c22 w8),.inl rfl,rfl⟩)<|zA (zg rfl rfl) ?_
 refine zA (zB (av:=(AV.lit (.bool (((((!decide (x6.1=6))||(!decide (x6.2=14)))||(!decide (x7.2.2=0)))||(!decide (x7.2.1=0)))||x8)))) rfl)<|zW (g:=71) (s:=((((!decide (x6.1=6))||(!decide (x6.2=14)))||(!decide (x7.2.2=0)))||(!decide (x7.2.1=0)))||x8) rfl rfl (fun c23=>zp.step (zS (k:=3) (o:=0) (m:=5) (la:=(zI x7.1)) Tryz.isAgg26 Tryz.sizeOf26 rfl rfl rfl rfl rfl))<|zR h fun x9 w9 h=>zCv (g:=71) (s:=((((!decide (x6.1=6))||(!decide (x6.2=14)))||(!decide (x7.2.2=0)))||(!decide (x7.2.1=0)))||x8) (r':=(AV.lit (.bool x9))) rfl rfl (fun c24=>⟨19,_,_,[],[(AV.agg (zI x7.1)),li 1],[(AV.agg (zI x7.1)),li 1],(AV.lit (.bool x9)),[],Tryz.func19,rfl,by kernel_rfl,.fn 19,(zAM (z6 rfl c24) (zAM rfl rfl)),⟨zAs.nr rfl,zAs.nr rfl,trivial⟩,zJD (zGm c24 w9),.inl rfl,rfl⟩)<|zW (g:=71) (s:=((((!decide (x6.1=6))||(!decide (x6.2=14)))||(!decide (x7.2.2=0)))||(!decide (x7.2.1=0)))||x8) rfl rfl (fun c25=>zp.step (zBE (t:=x9) (z6 rfl c25)))<|zA (zg (s:=((((!decide (x6.1=6))||(!decide (x6.2=14)))||(!decide (x7.2.2=0)))||(!decide (x7.2.1=0)))||x8) (q := !x9) (j := .lit undef) rfl rfl) ?_
 refine zA (zB rfl)<|zW rfl rfl (fun c26=>zp.step (zS (k:=3) (o:=0) (m:=5) Tryz.isAgg26 Tryz.sizeOf26 rfl rfl rfl rfl rfl))<|zR h fun x10 w10 h=>zCv (g:=76) (s:=(((((!decide (x6.1=6))||(!decide (x6.2=14)))||(!decide (x7.2.2=0)))||(!decide (x7.2.1=0)))||x8)||(!x9)) (r':=(li x10)) rfl rfl (fun c27=>⟨21,_,_,[],[(AV.agg (zI x7.1)),li 0],[(AV.agg (zI x7.1)),li 0],li x10,[],Tryz.func21,rfl,by kernel_rfl,.fn 21,(zAM (z6 rfl c27) (zAM rfl rfl)),⟨zAs.nr rfl,zAs.nr rfl,trivial⟩,zMQ (zGm c27 w10),.inl rfl,rfl⟩)<|zW rfl rfl (fun c28=>zp.step (zz (z6 rfl c28) rfl))<|zA (zg rfl rfl) ?_
 refine zA (zB (av:=(AV.lit (.bool (((((((!decide (x6.1=6))||(!decide (x6.2=14)))||(!decide (x7.2.2=0)))||(!decide (x7.2.1=0)))||x8)||(!x9))||(!decide (x10=7)))))) rfl)<|zW (g:=81) (s:=((((((!decide (x6.1=6))||(!decide (x6.2=14)))||(!decide (x7.2.2=0)))||(!decide (x7.2.1=0)))||x8)||(!x9))||(!decide (x10=7))) rfl rfl (fun c29=>zp.step (zS (k:=3) (o:=0) (m:=5) (la:=(zI x7.1)) Tryz.isAgg26 Tryz.sizeOf26 rfl rfl rfl rfl rfl))<|zR h fun x11 w11 h=>zCv (g:=81) (s:=((((((!decide (x6.1=6))||(!decide (x6.2=14)))||(!decide (x7.2.2=0)))||(!decide (x7.2.1=0)))||x8)||(!x9))||(!decide (x10=7))) (r':=(li x11)) rfl rfl (fun c30=>⟨17,_,_,[],[(AV.agg (zI x7.1)),li 8],[(AV.agg (zI x7.1)),li 8],li x11,[],Tryz.func17,rfl,by kernel_rfl,.fn 17,(zAM (z6 rfl c30) (zAM rfl rfl)),⟨zAs.nr rfl,zAs.nr rfl,trivial⟩,zMq (zGm c30 w11),.inl rfl,rfl⟩)<|zW (g:=81) (s:=((((((!decide (x6.1=6))||(!decide (x6.2=14)))||(!decide (x7.2.2=0)))||(!decide (x7.2.1=0)))||x8)||(!x9))||(!decide (x10=7))) rfl rfl (fun c31=>zp.step (zz (a:=x11) (b:=1) (z6 rfl c31) rfl))<|zA (zg (s:=((((((!decide (x6.1=6))||(!decide (x6.2=14)))||(!decide (x7.2.2=0)))||(!decide (x7.2.1=0)))||x8)||(!x9))||(!decide (x10=7))) (q := !decide (x11=1)) (j := .lit undef) rfl rfl) ?_
 refine zF ?_
 refine zX h rfl (fun b2 h => ?_) (fun b2 h => ?_)
 ·refine zH<|zC<|zA (zD rfl)<|zF<|zd ?_
  cases h
  exact zu (zAH (r1:=(AV.lit (.bool false))) rfl rfl)
 refine zP<|zH<|zC<|zA (zS (k:=3) (o:=0) (m:=5) Tryz.isAgg26 Tryz.sizeOf26 rfl rfl rfl rfl rfl)<|zR h fun x12 w12 h=>zh Tryz.func28 rfl (by kernel_rfl) (.fn 28) rfl rfl (zMc w12) rfl ?_
 refine zA (zB (av:=(AV.tup [(AV.agg (zI x12.1)),li x12.2])) rfl)<|zA (zb (la:=[(AV.agg (zI x12.1)),li x12.2]) rfl rfl)<|zA (zb (la:=[(AV.agg (zI x12.1)),li x12.2]) rfl rfl)<|za (a:=(AV.ptr 4 0)) (H':=[.dead,.dead,.box 26 (zI x3.1),.box 26 (zI x7.1),.box 26 (zI ⟨[],0,0,[],[]⟩)]) zv3<|zj (H':=[.dead,.dead,.box 26 (zI x3.1),.box 26 (zI x7.1),.box 26 (zI x12.1)]) (zY (k:=4) (o:=0) (cs:=(zI ⟨[],0,0,[],[]⟩)) (la:=(zI x12.1)) Tryz.sizeOf26 rfl rfl rfl rfl)<|zA (zD (av:=(li x12.2)) rfl) ?_
 refine zF<|zH<|zH<|zC<|zA (zB rfl)<|zA (zz rfl rfl) ?_
 refine zF ?_
 refine zX h rfl (fun b3 h => ?_) (fun b3 h => ?_)
 ·refine zH<|zC<|zA (zD (av:=(AV.lit (.bool false))) rfl)<|zF<|zd ?_
  cases h
  exact zu (zAH rfl rfl)
 refine zP<|zH<|zC<|zA (zS (k:=2) (o:=0) (m:=5) (la:=(zI x3.1)) Tryz.isAgg26 Tryz.sizeOf26 rfl rfl rfl rfl rfl)<|zR h fun x13 w13 h=>zh (r:=(AV.tup [(AV.agg (zI x13.1)),li x13.2.1,li x13.2.2])) (la:=[(AV.agg (zI x3.1)),li 1,li 3]) Tryz.func26 rfl (by kernel_rfl) (.fn 26) rfl rfl (zHS w13) rfl ?_
 refine zA (zB rfl)<|zA (zb rfl rfl)<|zA (zb rfl rfl)<|zA (zb rfl rfl)<|za (H':=[.dead,.dead,.box 26 (zI x3.1),.box 26 (zI x7.1),.box 26 (zI x12.1),.box 26 (zI ⟨[],0,0,[],[]⟩)]) zv3<|zj (H':=[.dead,.dead,.box 26 (zI x3.1),.box 26 (zI x7.1),.box 26 (zI x12.1),.box 26 (zI x13.1)]) (zY (k:=5) (o:=0) (cs:=(zI ⟨[],0,0,[],[]⟩)) (la:=(zI x13.1)) Tryz.sizeOf26 rfl rfl rfl rfl) ?_
 refine zA (zD (av:=(li x13.2.1)) rfl)<|zA (zD (av:=(li x13.2.2)) rfl)<|zF<|zH<|zR h fun x14 w14 h=>zR h fun x15 w15 h => ?_
 refine zAl (n:=111) (m:=0) [.head 0 0,.head 0 0,.head 0 0,.head 0 0,.head 0 0,.head 0 0,.head 0 0,.head 0 0,.head 0 0,.head 0 0,.head 0 0,.head 0 0,.head 0 0] [] [li x13.2.2,(AV.lit (.bool (decide (x13.2.2=0)))),(AV.lit (.bool (decide (x13.2.2=0)))),(bif decide (x13.2.2=0) then (li x13.2.1) else .lit undef),(bif decide (x13.2.2=0) then (AV.lit (.bool (decide (x13.2.1=8)))) else .lit undef),(AV.lit (.bool ((decide (x13.2.2=0))&&(decide (x13.2.1=8))))),(AV.lit (.bool ((decide (x13.2.2=0))&&(decide (x13.2.1=8))))),(bif (decide (x13.2.2=0))&&(decide (x13.2.1=8)) then (AV.agg (zI x12.1)) else .lit undef),(bif (decide (x13.2.2=0))&&(decide (x13.2.1=8)) then (AV.agg (zI x14)) else .lit undef),(bif (decide (x13.2.2=0))&&(decide (x13.2.1=8)) then (AV.agg (zI x3.1)) else .lit undef),(bif (decide (x13.2.2=0))&&(decide (x13.2.1=8)) then (AV.lit (.bool x15)) else .lit undef),(AV.lit (.bool (((decide (x13.2.2=0))&&(decide (x13.2.1=8)))&&x15))),(AV.lit (.bool (((decide (x13.2.2=0))&&(decide (x13.2.1=8)))&&x15)))] [[.dead,.dead,.box 26 (zI x3.1),.box 26 (zI x7.1),.box 26 (zI x12.1),.box 26 (zI x13.1)]] (by kernel_rfl) (by kernel_rfl) ⟨D1 fun e s p=>zB (s 2 rfl),D1 fun e s p=>zAv (a:=x13.2.2) (b:=0) p.1 rfl,D1 fun e s p=>zB (av:=(AV.lit (.bool (decide (x13.2.2=0))))) p.1,?_,?_,D1 fun e s p=>zx (s:=decide (x13.2.2=0)) (q:=decide (x13.2.1=8)) (j := .lit undef) p.1 p.2.1,D1 fun e s p=>zB p.1,?_,?_,?_,?_,D1 fun e s p=>zx (s:=(decide (x13.2.2=0))&&(decide (x13.2.1=8))) (q:=x15) (j := .lit undef) p.1 p.2.1,D1 fun e s p=>zD (av:=(AV.lit (.bool (((decide (x13.2.2=0))&&(decide (x13.2.1=8)))&&x15)))) p.2.2.2.2.2.2.2.2.2.2.2.2.2.1,trivial⟩ ?_
 ·
  intro e4 s4 p4
  refine zm (g:=101) (s:=decide (x13.2.2=0)) rfl p4.1 (fun c38=>zp.step (zB (av:=(li x13.2.1)) (s4 9 rfl))) ?_
  exact zF ⟨fun _=>rfl,rfl⟩
 ·
  intro e5 s5 p5
  refine zm (g:=101) (s:=decide (x13.2.2=0)) rfl p5.2.1 (fun c39=>zp.step (zAv (a:=x13.2.1) (b:=8) (z6 p5.1 c39) rfl)) ?_
  exact zF ⟨fun _=>rfl,rfl⟩
 ·
  intro e8 s8 p8
  refine zm (g:=105) (s:=(decide (x13.2.2=0))&&(decide (x13.2.1=8))) rfl p8.1 (fun c40=>zp.step (zS (k:=4) (o:=0) (m:=5) (la:=(zI x12.1)) Tryz.isAgg26 Tryz.sizeOf26 (s8 7 rfl) rfl rfl rfl rfl)) ?_
  exact zF ⟨fun _=>rfl,rfl⟩
 ·
  intro e9 s9 p9
  refine zCy (g:=105) (s:=(decide (x13.2.2=0))&&(decide (x13.2.1=8))) (r':=(AV.agg (zI x14))) rfl p9.2.2.1 (fun c41=>⟨34,_,_,[],[(AV.agg (zI x12.1))],[(AV.agg (zI x12.1))],(AV.agg (zI x14)),[],Tryz.func34,rfl,by kernel_rfl,.fn 34,(zAM (z6 p9.1 c41) rfl),⟨zAs.nr rfl,trivial⟩,zMC (zGm c41 w14),.inl rfl,rfl⟩) ?_
  exact zF ⟨fun _=>rfl,rfl⟩
 ·
  intro e10 s10 p10
  refine zm (g:=105) (s:=(decide (x13.2.2=0))&&(decide (x13.2.1=8))) rfl p10.1 (fun c42=>zp.step (zS (k:=2) (o:=0) (m:=5) (la:=(zI x3.1)) Tryz.isAgg26 Tryz.sizeOf26 (s10 1 rfl) rfl rfl rfl rfl)) ?_
  exact zF ⟨fun _=>rfl,rfl⟩
 ·
  intro e11 s11 p11
  refine zCy (g:=105) (s:=(decide (x13.2.2=0))&&(decide (x13.2.1=8))) (r':=(AV.lit (.bool x15))) rfl p11.2.2.2.1 (fun c43=>⟨25,_,_,[],[(AV.agg (zI x14)),(AV.agg (zI x3.1))],[(AV.agg (zI x14)),(AV.agg (zI x3.1))],(AV.lit (.bool x15)),[],Tryz.func25,rfl,by kernel_rfl,.fn 25,(zAM (z6 p11.2.2.1 c43) (zAM (z6 p11.2.1 c43) rfl)),⟨zAs.nr rfl,zAs.nr rfl,trivial⟩,zLz (zGm c43 w15),.inl rfl,rfl⟩) ?_
  exact zF ⟨fun _=>rfl,rfl⟩
 intro e14 s14 hq1
 refine zAT (zBM (l:=[(0,(AV.lit (.bool (((decide (x13.2.2=0))&&(decide (x13.2.1=8)))&&x15))))]) ⟨(hq1 12 (by decide) (by decide)),trivial⟩)<|zd ?_
 cases h
 exact zu (zAH rfl rfl)
theorem zPc {C:zi} {r:Bool} (h:zL0 C=some r):PFn Tryz.prog 37 [(AV.agg (zO C))] (AV.lit (.bool r)):=by
 refine zo Tryz.func37 rfl Tryz.ntmps37 Tryz.results37 rfl ?_
 unfold zL0 at h
 refine zH<|zC<|za (H':=[.box 51 (zO C)]) (zv (t:=51) rfl)<|zA (zD rfl)<|zF ?_
 refine zt (r:=r) (fun (_:Unit)=>mkE []) (fun _=>[]) (fun _=>zKn ) ?_ ?_
 ·
  refine zH<|zC<|zA (zD rfl)<|zF<|zQ<|zq (σ:=Int) (fun i1=>mkE [(1,(AV.ptr 0 0)),(3,(li i1))]) (fun i1=>[.box 51 (zO C)]) (fun n0 i1=>zFY C n0 i1) 0 h (fun _=>rfl) (z9 [0] rfl rfl (by kernel_rfl)) ?_
  clear h
  intro n0 i1 h
  replace h:zFi C (zFY C n0) i1=some r:=h
  unfold zFi at h
  refine zH<|zH<|zC<|zA (zB rfl)<|zA (zCu rfl rfl)<|zF ?_
  refine zX h rfl (fun b1 h => ?_) (fun b1 h => ?_)
  ·refine zP<|zH<|zQ<|zH<|zC<|zA (zB rfl) ?_
   refine zA (zK Tryz.underlying51 rfl rfl Tryz.sizeOf49 rfl)<|zM h fun b2 h=>zA (zAO (m:=5) (s:=1) (i:=i1) (k:=0) (o:=5) Tryz.underlying49 Tryz.sizeOf22 rfl rfl b2)<|zA (zAm (k:=0) (o:=(5+i1.toNat*1)) (cs:=(zO C)) (hd:=([li C.node]++[li C.kind]++[li C.start]++[li C.count]++[li C.min]++[])) (tl:=([])) (g:=(eS cI)) (d0:=([]:List Int)) (l:=C.free) (N:=5) (i:=i1.toNat) (a:=(ls cI (C.free.getD i1.toNat ([]:List Int)))) Tryz.isAgg22 rfl rfl rfl (congrArg (fun q=>5+q) (Nat.mul_one _)) (zBW b2).2 rfl rfl)<|zA (zV Tryz.underlying22 rfl)<|zA (zAh rfl rfl) ?_
   refine zF ?_
   refine zX h rfl (fun b3 h => ?_) (fun b3 h => ?_)
   ·refine zH<|zC<|zA (zD rfl)<|zF<|zd ?_
    cases h
    exact zu (zAH rfl rfl)
   refine zP<|zC<|zA (zB rfl)<|zM h fun b4 h=>zA (ze rfl rfl b4)<|zA (zD rfl) ?_
   refine zF ?_
   exact ⟨(i1+1),z9 [0] rfl rfl (by kernel_rfl),h⟩
  refine zw ?_
  exact ⟨(),z9 [] rfl rfl (by kernel_rfl),h⟩
 clear h
 intro _ h
 unfold zKn at h
 refine zH<|zC<|zA (zD rfl)<|zF<|zd ?_
 cases h
 exact zu (zAH rfl rfl)
theorem zPg {J:zL} {r:Bool} (h:zLE J=some r):PFn Tryz.prog 38 [(AV.agg (zG J))] (AV.lit (.bool r)):=by
 refine zo Tryz.func38 rfl Tryz.ntmps38 Tryz.results38 rfl ?_
 unfold zLE at h
 refine zH<|zC<|za (H':=[.box 55 (zG J)]) (zv (t:=55) rfl)<|zA (zD rfl)<|zF<|zH ?_
 refine zH<|zC<|zA (zK Tryz.underlying55 rfl rfl Tryz.sizeOf53 rfl)<|zA (zN Tryz.isAgg53 rfl rfl rfl rfl)<|zA (zV Tryz.underlying53 rfl)<|zA (zAh rfl rfl) ?_
 refine zF ?_
 refine zX h rfl (fun b1 h => ?_) (fun b1 h => ?_)
 ·refine zH<|zC<|zA (zD rfl)<|zF<|zd ?_
  cases h
  exact zu (zAH rfl rfl)
 refine zP ?_
 refine zt (r:=r) (fun (_:Unit)=>mkE []) (fun _=>[]) (fun _=>zKj ) ?_ ?_
 ·
  refine zH<|zC<|zA (zK Tryz.underlying55 rfl rfl Tryz.sizeOf53 rfl)<|zA (zN Tryz.isAgg53 rfl rfl rfl rfl)<|zA (zV Tryz.underlying53 rfl)<|zA (zB rfl) ?_
  refine zF<|zQ<|zq (σ:=Int) (fun i1=>mkE [(10,(ls (cS cI) J.lists)),(11,(li (J.lists.length:Int))),(12,(li i1))]) (fun i1=>[]) (fun n0 i1=>zFq J n0 i1) 0 h (fun _=>rfl) (z9 [] rfl rfl (by kernel_rfl)) ?_
  clear h
  intro n0 i1 h
  replace h:zFd J (zFq J n0) i1=some r:=h
  unfold zFd at h
  refine zH<|zC<|zA (zf rfl rfl)<|zF<|zH ?_
  refine zX h rfl (fun b2 h => ?_) (fun b2 h => ?_)
  ·refine zP<|zH<|zQ<|zH<|zC<|zM h fun b3 h => ?_
   refine zA (zT Tryz.underlying53 Tryz.sizeOf22 (fun _=>rfl) rfl rfl b3)<|zA (zU (o:=0) Tryz.isAgg22 rfl rfl)<|zA (zD rfl)<|zF<|zH<|zC ?_
   refine zA (zB rfl)<|zA (zV Tryz.underlying22 rfl)<|zA (zAh rfl rfl)<|zF ?_
   refine zX h rfl (fun b4 h => ?_) (fun b4 h => ?_)
   ·refine zH<|zC<|zA (zD rfl)<|zF<|zd ?_
    cases h
    exact zu (zAH rfl rfl)
   refine zP<|zC<|zM h fun b5 h=>zA (ze rfl rfl b5)<|zA (zB rfl)<|zF ?_
   exact ⟨(i1+1),z9 [] rfl rfl (by kernel_rfl),h⟩
  refine zw ?_
  exact ⟨(),z9 [] rfl rfl (by kernel_rfl),h⟩
 clear h
 intro _ h
 unfold zKj at h
 refine zH<|zC<|zA (zD rfl)<|zF<|zd ?_
 cases h
 exact zu (zAH rfl rfl)
theorem zPa {B:zJ} {r:Bool} (h:zKm B=some r):PFn Tryz.prog 10 [(AV.agg (zI B))] (AV.lit (.bool r)):=by
 refine zo Tryz.func10 rfl Tryz.ntmps10 Tryz.results10 rfl ?_
 unfold zKm at h
 refine zH<|zC<|za (H':=[.box 26 (zI B)]) (zv (t:=26) rfl)<|zA (zD rfl)<|zF<|zH ?_
 refine zH<|zC<|zA (zK Tryz.underlying26 rfl rfl Tryz.sizeOf22 rfl)<|zA (zN Tryz.isAgg22 rfl rfl rfl rfl)<|zA (zV Tryz.underlying22 rfl)<|zA (zAh rfl rfl) ?_
 refine zA (zB rfl)<|zW rfl rfl (fun c1=>zp.step (zK Tryz.underlying26 rfl rfl Tryz.sizeOf23 rfl))<|zW rfl rfl (fun c2=>zp.step (zN Tryz.isAgg23 (z6 rfl c2) rfl rfl rfl))<|zW rfl rfl (fun c3=>zp.step (zV Tryz.underlying23 (z6 rfl c3)))<|zW rfl rfl (fun c4=>zp.step (zAh (z6 rfl c4) rfl))<|zA (zg rfl rfl) ?_
 refine zA (zB rfl)<|zW rfl rfl (fun c5=>zp.step (zK Tryz.underlying26 rfl rfl Tryz.sizeOf24 rfl))<|zW rfl rfl (fun c6=>zp.step (zN Tryz.isAgg24 (z6 rfl c6) rfl rfl rfl))<|zW rfl rfl (fun c7=>zp.step (zV Tryz.underlying24 (z6 rfl c7)))<|zW rfl rfl (fun c8=>zp.step (zAh (z6 rfl c8) rfl))<|zA (zg rfl rfl) ?_
 refine zF ?_
 refine zX h rfl (fun b1 h => ?_) (fun b1 h => ?_)
 ·refine zH<|zC<|zA (zD rfl)<|zF<|zd ?_
  cases h
  exact zu (zAH rfl rfl)
 refine zP ?_
 refine zt (r:=r) (fun (_:Unit)=>mkE [(1,(AV.ptr 0 0))]) (fun _=>[.box 26 (zI B)]) (fun _=>zLC B) ?_ ?_
 ·
  refine zH<|zC<|zA (zD rfl)<|zF<|zQ<|zq (σ:=Int) (fun i2=>mkE [(1,(AV.ptr 0 0)),(3,(li i2))]) (fun i2=>[.box 26 (zI B)]) (fun n1 i2=>zFf B n1 i2) 0 h (fun _=>rfl) (z9 [0] rfl rfl (by kernel_rfl)) ?_
  clear h
  intro n1 i2 h
  replace h:zFh B (zFf B n1) i2=some r:=h
  unfold zFh at h
  refine zH<|zH<|zC<|zA (zB rfl)<|zA (zK Tryz.underlying26 rfl rfl Tryz.sizeOf23 rfl)<|zA (zN Tryz.isAgg23 rfl rfl rfl rfl) ?_
  refine zA (zV Tryz.underlying23 rfl)<|zA (zf rfl rfl)<|zF ?_
  refine zX h rfl (fun b6 h => ?_) (fun b6 h => ?_)
  ·refine zP<|zH<|zQ<|zH<|zC<|zA (zK Tryz.underlying26 rfl rfl Tryz.sizeOf23 rfl) ?_
   refine zA (zN Tryz.isAgg23 rfl rfl rfl rfl)<|zA (zB rfl)<|zM h fun b7 h=>zA (zT Tryz.underlying23 Tryz.sizeOf51 (fun _=>rfl) rfl rfl b7)<|zA (zAi (row:=(zO (at_ B.zones i2))) (o:=0) (m:=10) (la:=(zO (at_ B.zones i2))) Tryz.isAgg51 Tryz.sizeOf51 rfl rfl rfl)<|zR h fun x2 w2 h => ?_
   refine zh Tryz.func37 rfl (by kernel_rfl) (.fn 37) rfl rfl (zPc w2) rfl<|zA (zBE (t:=x2) rfl)<|zF ?_
   refine zX h rfl (fun b8 h => ?_) (fun b8 h => ?_)
   ·refine zH<|zC<|zA (zD rfl)<|zF<|zd ?_
    cases h
    exact zu (zAH rfl rfl)
   refine zP<|zC<|zA (zB rfl)<|zM h fun b9 h=>zA (ze rfl rfl b9)<|zA (zD rfl) ?_
   refine zF ?_
   exact ⟨(i2+1),z9 [0] rfl rfl (by kernel_rfl),h⟩
  refine zw ?_
  exact ⟨(),z9 [0] rfl rfl (by kernel_rfl),h⟩
 clear h
 intro _ h
 unfold zLC at h
 refine zt (r:=r) (fun (_:Unit)=>mkE []) (fun _=>[]) (fun _=>zKq ) ?_ ?_
 ·
  refine zH<|zC<|zA (zD rfl)<|zF<|zQ<|zq (σ:=Int) (fun i1=>mkE [(1,(AV.ptr 0 0)),(4,(li i1))]) (fun i1=>[.box 26 (zI B)]) (fun n0 i1=>zFp B n0 i1) 0 h (fun _=>rfl) (z9 [0] rfl rfl (by kernel_rfl)) ?_
  clear h
  intro n0 i1 h
  replace h:zFj B (zFp B n0) i1=some r:=h
  unfold zFj at h
  refine zH<|zH<|zC<|zA (zB rfl)<|zA (zK Tryz.underlying26 rfl rfl Tryz.sizeOf24 rfl)<|zA (zN Tryz.isAgg24 rfl rfl rfl rfl) ?_
  refine zA (zV Tryz.underlying24 rfl)<|zA (zf rfl rfl)<|zF ?_
  refine zX h rfl (fun b2 h => ?_) (fun b2 h => ?_)
  ·refine zP<|zH<|zQ<|zH<|zC<|zA (zK Tryz.underlying26 rfl rfl Tryz.sizeOf24 rfl) ?_
   refine zA (zN Tryz.isAgg24 rfl rfl rfl rfl)<|zA (zB rfl)<|zM h fun b3 h=>zA (zT Tryz.underlying24 Tryz.sizeOf55 (fun _=>rfl) rfl rfl b3)<|zA (zAi (row:=(zG (at_ B.caches i1))) (o:=0) (m:=1) (la:=(zG (at_ B.caches i1))) Tryz.isAgg55 Tryz.sizeOf55 rfl rfl rfl)<|zR h fun x1 w1 h => ?_
   refine zh Tryz.func38 rfl (by kernel_rfl) (.fn 38) rfl rfl (zPg w1) rfl<|zA (zBE (t:=x1) rfl)<|zF ?_
   refine zX h rfl (fun b4 h => ?_) (fun b4 h => ?_)
   ·refine zH<|zC<|zA (zD rfl)<|zF<|zd ?_
    cases h
    exact zu (zAH rfl rfl)
   refine zP<|zC<|zA (zB rfl)<|zM h fun b5 h=>zA (ze rfl rfl b5)<|zA (zD rfl) ?_
   refine zF ?_
   exact ⟨(i1+1),z9 [0] rfl rfl (by kernel_rfl),h⟩
  refine zw ?_
  exact ⟨(),z9 [] rfl rfl (by kernel_rfl),h⟩
 clear h
 intro _ h
 unfold zKq at h
 refine zH<|zC<|zA (zD rfl)<|zF<|zd ?_
 cases h
 exact zu (zAH rfl rfl)
theorem zM4 {uQ:List Int} {uY:Int} {uZ:Int} {W:Int} {r:Bool} (h:zG5 uQ uY uZ W=some r):PFn Tryz.prog 46 [ls cI uQ,li uY,li uZ,li W] (AV.lit (.bool r)):=by
 refine zo Tryz.func46 rfl Tryz.ntmps46 Tryz.results46 rfl ?_
 unfold zG5 at h
 refine zH<|zC<|zA (zD rfl)<|zF<|zH<|zH ?_
 refine zC<|zA (zB rfl)<|zA (zV Tryz.underlying22 rfl)<|zA (zf rfl rfl)<|zA (zB rfl)<|zW rfl rfl (fun c1=>zp.step (zB rfl)) ?_
 refine zW rfl rfl (fun c2=>zp.step (zV Tryz.underlying22 (z6 rfl c2)))<|zW rfl rfl (fun c3=>zp.step (zAh (z6 rfl c3) rfl))<|zA (zg rfl rfl)<|zA (zB rfl)<|zW rfl rfl (fun c4=>zp.step (zB rfl))<|zW rfl rfl (fun c5=>zp.step (zf (z6 rfl c5) rfl)) ?_
 refine zA (zg rfl rfl)<|zA (zB rfl)<|zW rfl rfl (fun c6=>zp.step (zB rfl))<|zW rfl rfl (fun c7=>zp.step (zB rfl))<|zW rfl rfl (fun c8=>zp.step (zAh (z6 rfl c8) (z6 rfl c8)))<|zA (zg rfl rfl) ?_
 refine zA (zB rfl)<|zW rfl rfl (fun c9=>zp.step (zB rfl))<|zW rfl rfl (fun c10=>zp.step (zAh (z6 rfl c10) rfl))<|zA (zg rfl rfl)<|zA (zB rfl)<|zW rfl rfl (fun c11=>zp.step (zB rfl)) ?_
 refine zW rfl rfl (fun c12=>zp.step (zf (z6 rfl c12) rfl))<|zA (zg rfl rfl)<|zA (zB rfl)<|zW rfl rfl (fun c13=>zp.step (zB rfl))<|zW rfl rfl (fun c14=>zp.step (zAh (z6 rfl c14) rfl))<|zA (zg rfl rfl) ?_
 refine zF ?_
 refine zX h rfl (fun b1 h => ?_) (fun b1 h => ?_)
 ·refine zH<|zC<|zA (zD rfl)<|zF<|zd ?_
  cases h
  exact zu (zAH rfl rfl)
 refine zP ?_
 refine zt (r:=r) (fun (_:Unit)=>mkE []) (fun _=>[]) (fun _=>zIX ) ?_ ?_
 ·
  refine zH<|zC<|zA (zD rfl)<|zF<|zQ<|zq (σ:=Int) (fun i1=>mkE [(0,(ls cI uQ)),(9,(li i1))]) (fun i1=>[]) (fun n0 i1=>zE3 uQ n0 i1) 0 h (fun _=>rfl) (z9 [] rfl rfl (by kernel_rfl)) ?_
  clear h
  intro n0 i1 h
  replace h:zC0 uQ (zE3 uQ n0) i1=some r:=h
  unfold zC0 at h
  refine zH<|zH<|zC<|zA (zB rfl)<|zA (zB rfl)<|zA (zV Tryz.underlying22 rfl) ?_
  refine zA (zf rfl rfl)<|zF ?_
  refine zX h rfl (fun b2 h => ?_) (fun b2 h => ?_)
  ·refine zP<|zH<|zQ<|zH<|zC<|zA (zB rfl) ?_
   refine zA (zB rfl)<|zM h fun b3 h=>zA (zT Tryz.underlying22 Tryz.sizeOf3 (fun _=>rfl) rfl rfl b3)<|zA (zU (o:=0) Tryz.isAgg3 rfl rfl)<|zA (zf rfl rfl)<|zA (zB rfl) ?_
   refine zW rfl rfl (fun c15=>zp.step (zB rfl))<|zW rfl rfl (fun c16=>zp.step (zB rfl))<|zW rfl rfl (fun c17=>zp.step (zT Tryz.underlying22 Tryz.sizeOf3 (fun _=>rfl) (z6 rfl c17) (z6 rfl c17) b3))<|zW rfl rfl (fun c18=>zp.step (zU (o:=0) Tryz.isAgg3 (z6 rfl c18) rfl))<|zW rfl rfl (fun c19=>zp.step (zAw (z6 rfl c19) rfl))<|zA (zg rfl rfl) ?_
   refine zF ?_
   refine zX h rfl (fun b4 h => ?_) (fun b4 h => ?_)
   ·refine zH<|zC<|zA (zD rfl)<|zF<|zd ?_
    cases h
    exact zu (zAH rfl rfl)
   refine zP<|zC<|zA (zB rfl)<|zM h fun b5 h=>zA (ze rfl rfl b5)<|zA (zD rfl) ?_
   refine zF ?_
   exact ⟨(i1+1),z9 [] rfl rfl (by kernel_rfl),h⟩
  refine zw ?_
  exact ⟨(),z9 [] rfl rfl (by kernel_rfl),h⟩
 clear h
 intro _ h
 unfold zIX at h
 refine zH<|zC<|zA (zD rfl)<|zF<|zd ?_
 cases h
 exact zu (zAH rfl rfl)
theorem zM9 {C:zi} {r:Bool} (h:zG1 C=some r):PFn Tryz.prog 93 [(AV.agg (zO C))] (AV.lit (.bool r)):=by
 refine zo Tryz.func93 rfl Tryz.ntmps93 Tryz.results93 rfl ?_
 unfold zG1 at h
 refine zH<|zC<|za (H':=[.box 51 (zO C)]) (zv (t:=51) rfl)<|zA (zD rfl)<|zF<|zH ?_
 refine zH<|zC<|zA (zK Tryz.underlying51 rfl rfl Tryz.sizeOf3 rfl)<|zA (zN Tryz.isAgg3 rfl rfl rfl rfl)<|zA (zf rfl rfl)<|zA (zB rfl) ?_
 refine zW rfl rfl (fun c1=>zp.step (zK Tryz.underlying51 rfl rfl Tryz.sizeOf3 rfl))<|zW rfl rfl (fun c2=>zp.step (zN Tryz.isAgg3 (z6 rfl c2) rfl rfl rfl))<|zW rfl rfl (fun c3=>zp.step (zAw (z6 rfl c3) rfl))<|zA (zg rfl rfl)<|zA (zB rfl)<|zW rfl rfl (fun c4=>zp.step (zK Tryz.underlying51 rfl rfl Tryz.sizeOf3 rfl)) ?_
 refine zW rfl rfl (fun c5=>zp.step (zN Tryz.isAgg3 (z6 rfl c5) rfl rfl rfl))<|zW rfl rfl (fun c6=>zp.step (zz (z6 rfl c6) rfl))<|zW rfl rfl (fun c7=>zp.step (zB (z6 rfl c7)))<|zLp (g:=15) (s' := !((decide (C.node<0))||(decide (4≤C.node)))) (s := !decide (C.kind=0)) rfl rfl (fun c8=>zp.step (zK Tryz.underlying51 rfl rfl Tryz.sizeOf3 rfl))<|zLp (g:=15) (s' := !((decide (C.node<0))||(decide (4≤C.node)))) (s := !decide (C.kind=0)) rfl rfl (fun c9=>zp.step (zN Tryz.isAgg3 (z6 rfl c9) rfl rfl rfl))<|zLp (g:=15) (s' := !((decide (C.node<0))||(decide (4≤C.node)))) (s := !decide (C.kind=0)) rfl rfl (fun c10=>zp.step (zz (z6 rfl c10) rfl)) ?_
 refine zW rfl rfl (fun c11=>zp.step (zx (j := .lit undef) (z6 rfl c11) (zPx (c := !((decide (C.node<0))||(decide (4≤C.node)))) (d := !decide (C.kind=0)) (a:=(AV.lit (.bool (!decide (C.kind=1))))) (j := .lit undef) rfl c11)))<|zA (zg rfl rfl)<|zF ?_
 refine zX h rfl (fun b1 h => ?_) (fun b1 h => ?_)
 ·refine zH<|zC<|zA (zD rfl)<|zF<|zd ?_
  cases h
  exact zu (zAH rfl rfl)
 refine zP<|zH<|zC<|zA (zK Tryz.underlying51 rfl rfl Tryz.sizeOf3 rfl)<|zA (zN Tryz.isAgg3 rfl rfl rfl rfl)<|zA (zAw rfl rfl) ?_
 refine zA (zB rfl)<|zm rfl rfl (fun c12=>zp.step (zK Tryz.underlying51 rfl rfl Tryz.sizeOf3 rfl))<|zm rfl rfl (fun c13=>zp.step (zN Tryz.isAgg3 (z6 rfl c13) rfl rfl rfl))<|zm rfl rfl (fun c14=>zp.step (zAw (z6 rfl c14) rfl))<|zA (zx (j := .lit undef) rfl rfl)<|zA (zB rfl) ?_
 refine zm rfl rfl (fun c15=>zp.step (zK Tryz.underlying51 rfl rfl Tryz.sizeOf3 rfl))<|zm rfl rfl (fun c16=>zp.step (zN Tryz.isAgg3 (z6 rfl c16) rfl rfl rfl))<|zm rfl rfl (fun c17=>zp.step (zCu (z6 rfl c17) rfl))<|zA (zx (j := .lit undef) rfl rfl)<|zA (zB rfl)<|zm rfl rfl (fun c18=>zp.step (zK Tryz.underlying51 rfl rfl Tryz.sizeOf3 rfl)) ?_
 refine zm rfl rfl (fun c19=>zp.step (zN Tryz.isAgg3 (z6 rfl c19) rfl rfl rfl))<|zm rfl rfl (fun c20=>zp.step (zK Tryz.underlying51 rfl rfl Tryz.sizeOf3 rfl))<|zm rfl rfl (fun c21=>zp.step (zN Tryz.isAgg3 (z6 rfl c21) rfl rfl rfl))<|zM h fun b2 h=>zm rfl rfl (fun c22=>zp.step (zBS rfl (z6 rfl c22) (zGy b2 c22)))<|zm rfl rfl (fun c23=>zp.step (zCu (z6 rfl c23) (z6 rfl c23))) ?_
 refine zA (zx (j := .lit undef) rfl rfl)<|zA (zB rfl)<|zm rfl rfl (fun c24=>zp.step (zK Tryz.underlying51 rfl rfl Tryz.sizeOf3 rfl))<|zm rfl rfl (fun c25=>zp.step (zN Tryz.isAgg3 (z6 rfl c25) rfl rfl rfl))<|zm rfl rfl (fun c26=>zp.step (zAw (z6 rfl c26) rfl))<|zA (zx (j := .lit undef) rfl rfl) ?_
 refine zA (zB rfl)<|zm rfl rfl (fun c27=>zp.step (zK Tryz.underlying51 rfl rfl Tryz.sizeOf3 rfl))<|zm rfl rfl (fun c28=>zp.step (zN Tryz.isAgg3 (z6 rfl c28) rfl rfl rfl))<|zm rfl rfl (fun c29=>zp.step (zK Tryz.underlying51 rfl rfl Tryz.sizeOf3 rfl))<|zm rfl rfl (fun c30=>zp.step (zN Tryz.isAgg3 (z6 rfl c30) rfl rfl rfl))<|zm rfl rfl (fun c31=>zp.step (zCu (z6 rfl c31) (z6 rfl c31))) ?_
 refine zA (zx (j := .lit undef) rfl rfl)<|zA (zD rfl)<|zF<|zd ?_
 cases h
 exact zu (zAH rfl rfl)
end Go.Proofs.YtplkliakhdkpcaaGreat
