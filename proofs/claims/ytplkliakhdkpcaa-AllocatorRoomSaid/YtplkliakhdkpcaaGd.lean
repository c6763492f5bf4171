/-
  Rules, functions and laws for the last text, part d.
-/
import Derived.Test.YtplkliakhdkpcaaGc
set_option linter.unusedVariables false
set_option linter.unusedSimpArgs false
namespace Go.Proofs.Ytplkliakhdkpcaa
open Go Go.RowKit Go.Wk Go.Am Go.Proofs
set_option maxHeartbeats 4000000
theorem zLC {A:zW} {B:Int} {r:zW×Int×Int} (h:zG4 A B=some r):PFn Try.prog 48 [(AV.agg (zO A)),li B] (AV.tup [(AV.agg (zO r.1)),li r.2.1,li r.2.2]):=by
 refine zq Try.func48 rfl Try.ntmps48 Try.results48 rfl ?_
 unfold zG4 at h
 refine zI<|zC<|zX (H':=[.box 46 (zO A)]) (z6 (t:=46) rfl)<|zX (H':=[.box 46 (zO A),.box 46 (zO ⟨0,0,0,0,0,(List.replicate 5 ([]:List Int))⟩)]) zv0<|zA (zD rfl)<|zA (zD rfl) ?_
 refine zG<|zI<|zI<|zC<|zA (zR (k:=0) (o:=0) (m:=10) Try.isAgg46 Try.sizeOf46 rfl rfl rfl rfl rfl)<|zQ h fun x1 w1 h => ?_
 refine zZ Try.func36 rfl (by kernel_rfl) (.fn 36) rfl rfl (zD7 w1) rfl<|zA (zD rfl)<|zG<|zI<|zC<|zA (zB rfl) ?_
 refine zA (zy rfl rfl)<|zG ?_
 refine zY h rfl (fun b1 h => ?_) (fun b1 h => ?_)
 ·refine zI<|zC<|zA zv9<|zA (zB rfl)<|za (H':=[.box 46 (zO A),.box 46 (zO (⟨0,0,0,0,0,(List.replicate 5 ([]:List Int))⟩:zW))]) (zT (k:=1) (o:=0) (cs:=(zO ⟨0,0,0,0,0,(List.replicate 5 ([]:List Int))⟩)) (la:=(zO (⟨0,0,0,0,0,(List.replicate 5 ([]:List Int))⟩:zW))) Try.sizeOf46 rfl rfl rfl rfl)<|zA (zD rfl) ?_
  refine zA (zD rfl)<|zG<|zd ?_
  cases h
  exact zED (zF3 Try.isAgg46 Try.sizeOf46 rfl rfl rfl rfl) (zAi rfl rfl) (zAi rfl rfl) rfl
 refine zU<|zI<|zI<|zC<|zA (zB rfl)<|zA (zj rfl rfl) ?_
 refine zA (zB rfl)<|zb rfl rfl (fun c1=>zv.step (zB rfl))<|zb rfl rfl (fun c2=>zv.step (zBx (zAM rfl c2) rfl))<|zA (zg rfl rfl)<|zG ?_
 refine zY h rfl (fun b2 h => ?_) (fun b2 h => ?_)
 ·refine zI<|zC<|zA zv9<|za (H':=[.box 46 (zO A),.box 46 (zO (⟨0,0,0,0,0,(List.replicate 5 ([]:List Int))⟩:zW))]) (zT (k:=1) (o:=0) (cs:=(zO ⟨0,0,0,0,0,(List.replicate 5 ([]:List Int))⟩)) (la:=(zO (⟨0,0,0,0,0,(List.replicate 5 ([]:List Int))⟩:zW))) Try.sizeOf46 rfl rfl rfl rfl)<|zA (zD rfl)<|zA (zD rfl) ?_
  refine zG<|zd ?_
  cases h
  exact zED (zF3 Try.isAgg46 Try.sizeOf46 rfl rfl rfl rfl) (zAi rfl rfl) (zAi rfl rfl) rfl
 refine zU<|zI<|zC<|zA (zB rfl)<|zA (zD rfl)<|zG ?_
 refine zAA (r:=r) (fun (i1:Int)=>mkE [(1,(li B)),(2,(AV.ptr 0 0)),(4,(AV.ptr 1 0)),(8,(li i1))]) (fun i1=>[.box 46 (zO A),.box 46 (zO ⟨0,0,0,0,0,(List.replicate 5 ([]:List Int))⟩)]) (fun i1=>zFr A B i1) ?_ ?_
 ·
  refine zV<|z9 (σ:=Int) (fun i3=>mkE [(1,(li B)),(2,(AV.ptr 0 0)),(4,(AV.ptr 1 0)),(8,(li i3))]) (fun i3=>[.box 46 (zO A),.box 46 (zO ⟨0,0,0,0,0,(List.replicate 5 ([]:List Int))⟩)]) (fun n1 i3=>zFh A B n1 i3) B h (fun _=>rfl) (zAd [0,1] rfl rfl (by kernel_rfl)) ?_
  clear h
  intro n1 i3 h
  replace h:zD8 A B (zFh A B n1) i3=some r:=h
  unfold zD8 at h
  refine zI<|zI<|zC<|zA (zB rfl)<|zA (zHG rfl rfl)<|zA (zB rfl) ?_
  refine z5 rfl rfl (fun c3=>zv.step (zB rfl))<|z5 rfl rfl (fun c4=>zv.step (zL Try.underlying46 rfl rfl Try.sizeOf44 rfl))<|zM h fun b17 h=>z5 rfl rfl (fun c5=>zv.step (zAg (m:=5) (s:=1) (i:=i3) (k:=0) (o:=5) Try.underlying44 Try.sizeOf22 (zAM rfl c5) (zAM rfl c5) (zJn b17 c5)))<|z5 rfl rfl (fun c6=>zv.step (zDA (k:=0) (o:=(5+i3.toNat*1)) (cs:=(zO A)) (hd:=([li A.node]++[li A.kind]++[li A.start]++[li A.count]++[li A.min]++[])) (tl:=([])) (g:=(eS cI)) (d0:=([]:List Int)) (l:=A.free) (N:=5) (i:=i3.toNat) (a:=(ls cI (A.free.getD i3.toNat ([]:List Int)))) Try.isAgg22 (zAM rfl c6) rfl rfl (congrArg (fun q=>5+q) (Nat.mul_one _)) (zCa (zJn b17 c6)).2 rfl rfl))<|z5 rfl rfl (fun c7=>zv.step (ze Try.underlying22 (zAM rfl c7))) ?_
  refine z5 rfl rfl (fun c8=>zv.step (zBO (zAM rfl c8) rfl))<|zA (zAH (j := .lit undef) rfl rfl)<|zG ?_
  refine zY h rfl (fun b18 h => ?_) (fun b18 h => ?_)
  ·refine zU<|zV<|zC<|zA (zB rfl)<|zM h fun b19 h=>zA (zi rfl rfl b19) ?_
   refine zA (zD rfl)<|zG ?_
   exact ⟨(i3+1),zAd [0,1] rfl rfl (by kernel_rfl),h⟩
  refine zAG ?_
  exact ⟨i3,zAd [0,1] rfl rfl (by kernel_rfl),h⟩
 clear h
 intro i1 h
 unfold zFr at h
 refine zI<|zI<|zC<|zA (zB rfl)<|zA (zBx rfl rfl)<|zG ?_
 refine zY h rfl (fun b3 h => ?_) (fun b3 h => ?_)
 ·refine zI<|zC<|zA zv9<|za (H':=[.box 46 (zO A),.box 46 (zO (⟨0,0,0,0,0,(List.replicate 5 ([]:List Int))⟩:zW))]) (zT (k:=1) (o:=0) (cs:=(zO ⟨0,0,0,0,0,(List.replicate 5 ([]:List Int))⟩)) (la:=(zO (⟨0,0,0,0,0,(List.replicate 5 ([]:List Int))⟩:zW))) Try.sizeOf46 rfl rfl rfl rfl)<|zA (zD rfl)<|zA (zD rfl) ?_
  refine zG<|zd ?_
  cases h
  exact zED (zF3 Try.isAgg46 Try.sizeOf46 rfl rfl rfl rfl) (zAi rfl rfl) (zAi rfl rfl) rfl
 refine zU<|zI<|zC<|zA (zR (k:=0) (o:=0) (m:=10) Try.isAgg46 Try.sizeOf46 rfl rfl rfl rfl rfl)<|zQ h fun x2 w2 h=>zHU (cs:=([li x2.node,li x2.kind,li x2.start,li x2.count,li x2.min]++((cM 5 3 (5:Int) x2.free)++[]))) (la:=[(AV.agg (zO A))]) (la':=[(AV.agg (zO A))]) (S:=[]) Try.func82 rfl (by kernel_rfl) (.fn 82) rfl ⟨zBC.nr rfl,trivial⟩ (zJB w2) (.inl rfl) ?_
 refine zX (H':=[.box 46 (zO A),.box 46 (zO ⟨0,0,0,0,0,(List.replicate 5 ([]:List Int))⟩),.val (.agg ([li x2.node,li x2.kind,li x2.start,li x2.count,li x2.min]++((cM 5 3 (5:Int) x2.free)++[]))),.box 46 (zO ⟨0,0,0,0,0,(List.replicate 5 ([]:List Int))⟩)]) zv0<|za (H':=[.box 46 (zO A),.box 46 (zO ⟨0,0,0,0,0,(List.replicate 5 ([]:List Int))⟩),.dead,.box 46 ([li x2.node,li x2.kind,li x2.start,li x2.count,li x2.min]++((cM 5 3 (5:Int) x2.free)++[]))]) (zDz (k:=3) (o:=0) (j:=2) (cs:=(zO ⟨0,0,0,0,0,(List.replicate 5 ([]:List Int))⟩)) (la:=([li x2.node,li x2.kind,li x2.start,li x2.count,li x2.min]++((cM 5 3 (5:Int) x2.free)++[]))) Try.sizeOf46 rfl rfl rfl rfl rfl (by decide))<|zG<|zI<|zC<|zA (zB rfl) ?_
 refine zA (zL Try.underlying46 rfl rfl Try.sizeOf44 rfl)<|zM h fun b4 h=>zA (zAg (m:=5) (s:=1) (i:=i1) (k:=3) (o:=5) Try.underlying44 Try.sizeOf22 rfl rfl b4)<|zM h fun b5 h=>zAF (zIV (k:=3) (cs:=([li x2.node,li x2.kind,li x2.start,li x2.count,li x2.min]++((cM 5 3 (5:Int) x2.free)++[]))) (hd:=([li x2.node]++[li x2.kind]++[li x2.start]++[li x2.count]++[li x2.min]++[])) (tl:=([])) (N:=5) (T:=3) (K:=5) (l:=x2.free) (i:=i1) rfl rfl b4 b5)<|zA (zDC (k:=3) (o:=(5+i1.toNat*1)) (cs:=([li x2.node,li x2.kind,li x2.start,li x2.count,li x2.min]++((List.set (cM 5 3 (5:Int) x2.free) i1.toNat (AV.hd 4))++[]))) (hd:=([li x2.node]++[li x2.kind]++[li x2.start]++[li x2.count]++[li x2.min]++[])) (tl:=([])) (s:=(cM 5 3 (5:Int) x2.free)) (i:=i1) (j:=4) Try.isAgg22 rfl rfl rfl (congrArg (fun q=>5+q) (Nat.mul_one _)) (zGH b4)) ?_
 refine zM h fun b6 h=>zA (zAN (f:=cI) (l:=x2.free.getD i1.toNat []) (i:=0) Try.underlying22 Try.sizeOf3 rfl rfl rfl b6)<|zA (zC6 (f:=cI) (l:=x2.free.getD i1.toNat []) (i:=0) (c:=0) (a:=(li (at_ (x2.free.getD i1.toNat []) (0:Int)))) Try.isAgg3 rfl rfl (by first | rfl | omega) b6 rfl rfl)<|zA (zD rfl)<|zG<|zI ?_
 refine zC<|zA (zB rfl)<|zA (zB rfl)<|zA (zL Try.underlying46 rfl rfl Try.sizeOf44 rfl)<|zA (zAg (m:=5) (s:=1) (i:=i1) (k:=3) (o:=5) Try.underlying44 Try.sizeOf22 rfl rfl b4)<|zA (zDC (k:=3) (o:=(5+i1.toNat*1)) (cs:=([li x2.node,li x2.kind,li x2.start,li x2.count,li x2.min]++((List.set (cM 5 3 (5:Int) x2.free) i1.toNat (AV.hd 4))++[]))) (hd:=([li x2.node]++[li x2.kind]++[li x2.start]++[li x2.count]++[li x2.min]++[])) (tl:=([])) (s:=(cM 5 3 (5:Int) x2.free)) (i:=i1) (j:=4) Try.isAgg22 rfl rfl rfl (congrArg (fun q=>5+q) (Nat.mul_one _)) (zGH b4)) ?_
 refine zAF (zE8 (j:=4) (ds:=[48,55]) (rows':=List.map cI (x2.free.getD i1.toNat [])) rfl (zAW (fun _=>rfl)) ⟨rfl,rfl,trivial⟩)<|zM h fun b7 h=>zA (zKU (lo:=1) (f:=cI) (l:=x2.free.getD i1.toNat []) Try.underlying22 Try.sizeOf3 (fun _=>rfl) rfl rfl b7)<|zA (zL Try.underlying46 rfl rfl Try.sizeOf44 rfl)<|zA (zAg (m:=5) (s:=1) (i:=i1) (k:=3) (o:=5) Try.underlying44 Try.sizeOf22 rfl rfl b4)<|zM h fun b8 h => ?_
 refine za (H':=[.box 46 (zO A),.box 46 (zO ⟨0,0,0,0,0,(List.replicate 5 ([]:List Int))⟩),.dead,.box 46 ([li x2.node,li x2.kind,li x2.start,li x2.count,li x2.min]++((List.set (cM 5 3 (5:Int) x2.free) i1.toNat (ls cI (zE9 (x2.free.getD i1.toNat []) 1 ((x2.free.getD i1.toNat []).length:Int))))++[])),.dead]) (zGK (k:=3) (o:=(5+i1.toNat*1)) (cs:=([li x2.node,li x2.kind,li x2.start,li x2.count,li x2.min]++((List.set (cM 5 3 (5:Int) x2.free) i1.toNat (AV.hd 4))++[]))) (hd:=([li x2.node]++[li x2.kind]++[li x2.start]++[li x2.count]++[li x2.min]++[])) (tl:=([])) (s:=(cM 5 3 (5:Int) x2.free)) (i:=i1) (a:=(ls cI (zE9 (x2.free.getD i1.toNat []) 1 ((x2.free.getD i1.toNat []).length:Int)))) Try.sizeOf22 rfl rfl rfl (congrArg (fun q=>5+q) (Nat.mul_one _)) (zGH b4) rfl rfl)<|zG ?_
 refine zAA (r:=r) (fun (l1:List (List Int))=>mkE [(4,(AV.ptr 0 0)),(9,(AV.ptr 1 0)),(10,(li (at_ (x2.free.getD i1.toNat []) (0:Int))))]) (fun l1=>[.box 46 (zO ⟨0,0,0,0,0,(List.replicate 5 ([]:List Int))⟩),.box 46 ([li x2.node,li x2.kind,li x2.start,li x2.count,li x2.min]++((cM 5 3 i1 l1)++[]))]) (fun l1=>zHM i1 x2 l1) ?_ ?_
 ·
  refine zV<|z9 (σ:=Int×(List (List Int))) (fun (i2,l2)=>mkE [(1,(li B)),(4,(AV.ptr 0 0)),(8,(li i2)),(9,(AV.ptr 1 0)),(10,(li (at_ (x2.free.getD i1.toNat []) (0:Int))))]) (fun (i2,l2)=>[.box 46 (zO ⟨0,0,0,0,0,(List.replicate 5 ([]:List Int))⟩),.box 46 ([li x2.node,li x2.kind,li x2.start,li x2.count,li x2.min]++((cM 5 3 i1 l2)++[]))]) (fun n0 (i2,l2)=>zEt B i1 x2 n0 i2 l2) (i1,(zEF 5 [] x2.free i1.toNat (zE9 (x2.free.getD i1.toNat []) 1 ((x2.free.getD i1.toNat []).length:Int)))) h (fun _=>rfl) (Rep.trans (zS0 (l':=zE9 (x2.free.getD i1.toNat []) 1 ((x2.free.getD i1.toNat []).length:Int)) (k:=3) (cs:=([li x2.node,li x2.kind,li x2.start,li x2.count,li x2.min]++((List.set (cM 5 3 (5:Int) x2.free) i1.toNat (ls cI (zE9 (x2.free.getD i1.toNat []) 1 ((x2.free.getD i1.toNat []).length:Int))))++[]))) (hd:=([li x2.node]++[li x2.kind]++[li x2.start]++[li x2.count]++[li x2.min]++[])) (tl:=([])) (N:=5) (T:=3) (K:=5) (l:=x2.free) (i:=i1) rfl rfl b4 b8) (zBT (n:=90) (m:=0) [1,3] (l:=[(1,(li B)),(4,(AV.ptr 0 0)),(8,(li i1)),(9,(AV.ptr 1 0)),(10,(li (at_ (x2.free.getD i1.toNat []) (0:Int))))]) ⟨⟨Sub.refl _,by kernel_rfl⟩,⟨Sub.refl _,by kernel_rfl⟩,⟨Sub.refl _,by kernel_rfl⟩,⟨Sub.refl _,by kernel_rfl⟩,⟨Sub.refl _,by kernel_rfl⟩,trivial⟩ rfl rfl ⟨⟨rfl,by kernel_rfl⟩,⟨rfl,zTI (hd:=([li x2.node]++[li x2.kind]++[li x2.start]++[li x2.count]++[li x2.min]++[])) (tl:=([])) (N:=5) (T:=3) (K:=i1) (l:=zEF 5 [] x2.free i1.toNat (zE9 (x2.free.getD i1.toNat []) 1 ((x2.free.getD i1.toNat []).length:Int))) (by kernel_rfl) (by kernel_rfl) rfl⟩,trivial⟩)) ?_
  clear h
  rintro n0 ⟨i2,l2⟩ h
  replace h:zEB B i1 x2 (zEt B i1 x2 n0) i2 l2=some r:=h
  unfold zEB at h
  refine zI<|zI<|zC<|zA (zB rfl)<|zA (zB rfl)<|zA (zBx rfl rfl) ?_
  refine zG ?_
  refine zY h rfl (fun b9 h => ?_) (fun b9 h => ?_)
  ·refine zU<|zV<|zI<|zC<|zA (zB rfl)<|zM h fun b10 h => ?_
   refine zA (zDX rfl rfl b10)<|zA (zD rfl)<|zG<|zI<|zC<|zA (zB rfl) ?_
   refine zA (zB rfl)<|zM h fun b11 h=>zM h fun b12 h=>zA (zGo (a:=1) (b:=i2 - 1) rfl rfl b11 b12)<|zM h fun b13 h=>zA (zi rfl rfl b13) ?_
   refine zA (zD rfl)<|zG<|zI<|zC<|zA (zB rfl)<|zA (zL Try.underlying46 rfl rfl Try.sizeOf44 rfl) ?_
   refine zM h fun b14 h=>zA (zAg (m:=5) (s:=1) (i:=i2 - 1) (k:=1) (o:=5) Try.underlying44 Try.sizeOf22 rfl rfl b14)<|zM h fun b15 h=>zAF (zIV (k:=1) (cs:=([li x2.node,li x2.kind,li x2.start,li x2.count,li x2.min]++((cM 5 3 i1 l2)++[]))) (hd:=([li x2.node]++[li x2.kind]++[li x2.start]++[li x2.count]++[li x2.min]++[])) (tl:=([])) (N:=5) (T:=3) (K:=i1) (l:=l2) (i:=i2 - 1) rfl rfl b14 b15)<|zA (zDC (k:=1) (o:=(5+(i2 - 1).toNat*1)) (cs:=([li x2.node,li x2.kind,li x2.start,li x2.count,li x2.min]++((List.set (cM 5 3 i1 l2) (i2 - 1).toNat (AV.hd 2))++[]))) (hd:=([li x2.node]++[li x2.kind]++[li x2.start]++[li x2.count]++[li x2.min]++[])) (tl:=([])) (s:=(cM 5 3 i1 l2)) (i:=i2 - 1) (j:=2) Try.isAgg22 rfl rfl rfl (congrArg (fun q=>5+q) (Nat.mul_one _)) (zGH b14))<|zA (zB rfl) ?_
   refine zQ h fun x3 w3 h=>zAq (r':=(AV.tup [li x3.1,(AV.lit (.bool x3.2))])) (la:=[AV.hd 2,(li ((at_ (x2.free.getD i1.toNat []) (0:Int))+((1:Int)*2 ^ (i2 - 1).toNat)))]) (la':=[(ls cI (l2.getD (i2 - 1).toNat [])),(li ((at_ (x2.free.getD i1.toNat []) (0:Int))+((1:Int)*2 ^ (i2 - 1).toNat)))]) (r:=(AV.tup [li x3.1,(AV.lit (.bool x3.2))])) (S:=[2]) Try.func63 rfl (by kernel_rfl) (.fn 63) rfl ⟨zGn (fun _=>rfl) rfl rfl,zBC.nr rfl,trivial⟩ (zAb w3) (.inr rfl) rfl<|zA (zB rfl)<|zA (zS rfl rfl)<|zA (zS rfl rfl)<|zA (zD rfl) ?_
   refine zA (zD rfl)<|zG<|zC<|zA (zB rfl)<|zA (zB rfl)<|zA (zL Try.underlying46 rfl rfl Try.sizeOf44 rfl) ?_
   refine zA (zAg (m:=5) (s:=1) (i:=i2 - 1) (k:=1) (o:=5) Try.underlying44 Try.sizeOf22 rfl rfl b14)<|zA (zDC (k:=1) (o:=(5+(i2 - 1).toNat*1)) (cs:=([li x2.node,li x2.kind,li x2.start,li x2.count,li x2.min]++((List.set (cM 5 3 i1 l2) (i2 - 1).toNat (AV.hd 2))++[]))) (hd:=([li x2.node]++[li x2.kind]++[li x2.start]++[li x2.count]++[li x2.min]++[])) (tl:=([])) (s:=(cM 5 3 i1 l2)) (i:=i2 - 1) (j:=2) Try.isAgg22 rfl rfl rfl (congrArg (fun q=>5+q) (Nat.mul_one _)) (zGH b14))<|zA (zB rfl)<|zA (zB rfl)<|zGW (a:=(li ((at_ (x2.free.getD i1.toNat []) (0:Int))+((1:Int)*2 ^ (i2 - 1).toNat)))) zG6 Try.underlying22 rfl rfl rfl rfl<|zM h fun b16 h => ?_
   refine zMR (k:=2) (j:=3) (l:=l2.getD (i2 - 1).toNat []) (i:=x3.1) (q:=(at_ (x2.free.getD i1.toNat []) (0:Int))+((1:Int)*2 ^ (i2 - 1).toNat)) (fun a b c d e=>zRJ a b c d e) Try.func83 rfl (by kernel_rfl) rfl rfl rfl rfl rfl rfl b16<|zA (zL Try.underlying46 rfl rfl Try.sizeOf44 rfl)<|zA (zAg (m:=5) (s:=1) (i:=i2 - 1) (k:=1) (o:=5) Try.underlying44 Try.sizeOf22 rfl rfl b14)<|za (H':=[.box 46 (zO ⟨0,0,0,0,0,(List.replicate 5 ([]:List Int))⟩),.box 46 ([li x2.node,li x2.kind,li x2.start,li x2.count,li x2.min]++((List.set (cM 5 3 i1 l2) (i2 - 1).toNat (AV.hd 4))++[])),.dead,.vec 3 1 (List.map cI [(at_ (x2.free.getD i1.toNat []) (0:Int))+((1:Int)*2 ^ (i2 - 1).toNat)]),.vec 3 1 (List.map cI (zQg (l2.getD (i2 - 1).toNat []) x3.1 ((at_ (x2.free.getD i1.toNat []) (0:Int))+((1:Int)*2 ^ (i2 - 1).toNat))))]) (zGK (k:=1) (o:=(5+(i2 - 1).toNat*1)) (cs:=([li x2.node,li x2.kind,li x2.start,li x2.count,li x2.min]++((List.set (cM 5 3 i1 l2) (i2 - 1).toNat (AV.hd 2))++[]))) (hd:=([li x2.node]++[li x2.kind]++[li x2.start]++[li x2.count]++[li x2.min]++[])) (tl:=([])) (s:=(cM 5 3 i1 l2)) (i:=i2 - 1) (a:=(AV.hd 4)) Try.sizeOf22 rfl rfl rfl (congrArg (fun q=>5+q) (Nat.mul_one _)) (zGH b14) rfl rfl)<|zG ?_
   exact ⟨((i2 - 1),(zEF 5 [] l2 (i2 - 1).toNat (zQg (l2.getD (i2 - 1).toNat []) x3.1 ((at_ (x2.free.getD i1.toNat []) (0:Int))+((1:Int)*2 ^ (i2 - 1).toNat))))),Rep.trans (zH7 (j:=4) (l':=zQg (l2.getD (i2 - 1).toNat []) x3.1 ((at_ (x2.free.getD i1.toNat []) (0:Int))+((1:Int)*2 ^ (i2 - 1).toNat))) (k:=1) (cs:=([li x2.node,li x2.kind,li x2.start,li x2.count,li x2.min]++((List.set (cM 5 3 i1 l2) (i2 - 1).toNat (AV.hd 4))++[]))) (hd:=([li x2.node]++[li x2.kind]++[li x2.start]++[li x2.count]++[li x2.min]++[])) (tl:=([])) (N:=5) (T:=3) (K:=i1) (l:=l2) (i:=i2 - 1) rfl rfl b14 b15 rfl rfl) (zBT (n:=90) (m:=0) [0,1] (l:=[(1,(li B)),(4,(AV.ptr 0 0)),(8,(li (i2 - 1))),(9,(AV.ptr 1 0)),(10,(li (at_ (x2.free.getD i1.toNat []) (0:Int))))]) ⟨⟨Sub.refl _,by kernel_rfl⟩,⟨Sub.refl _,by kernel_rfl⟩,⟨Sub.refl _,by kernel_rfl⟩,⟨Sub.refl _,by kernel_rfl⟩,⟨Sub.refl _,by kernel_rfl⟩,trivial⟩ rfl rfl ⟨⟨rfl,by kernel_rfl⟩,⟨rfl,zTI (hd:=([li x2.node]++[li x2.kind]++[li x2.start]++[li x2.count]++[li x2.min]++[])) (tl:=([])) (N:=5) (T:=3) (K:=i1) (l:=zEF 5 [] l2 (i2 - 1).toNat (zQg (l2.getD (i2 - 1).toNat []) x3.1 ((at_ (x2.free.getD i1.toNat []) (0:Int))+((1:Int)*2 ^ (i2 - 1).toNat)))) (by kernel_rfl) (by kernel_rfl) rfl⟩,trivial⟩),h⟩
  refine zAG ?_
  exact ⟨l2,zBT (n:=90) (m:=0) [0,1] (l:=[(4,(AV.ptr 0 0)),(9,(AV.ptr 1 0)),(10,(li (at_ (x2.free.getD i1.toNat []) (0:Int))))]) ⟨⟨Sub.refl _,by kernel_rfl⟩,⟨Sub.refl _,by kernel_rfl⟩,⟨Sub.refl _,by kernel_rfl⟩,trivial⟩ rfl rfl ⟨⟨rfl,by kernel_rfl⟩,⟨rfl,zTI (hd:=([li x2.node]++[li x2.kind]++[li x2.start]++[li x2.count]++[li x2.min]++[])) (tl:=([])) (N:=5) (T:=3) (K:=i1) (l:=l2) (by kernel_rfl) (by kernel_rfl) rfl⟩,trivial⟩,h⟩
 clear h
 intro l1 h
 unfold zHM at h
 refine zI<|zC<|zAF (zKZ (k:=1) (cs:=([li x2.node,li x2.kind,li x2.start,li x2.count,li x2.min]++((cM 5 3 i1 l1)++[]))) (hd:=([li x2.node]++[li x2.kind]++[li x2.start]++[li x2.count]++[li x2.min]++[])) (tl:=([])) (N:=5) (T:=3) (K:=i1) (l:=l1) rfl rfl)<|zA (zR (k:=1) (o:=0) (m:=10) Try.isAgg46 Try.sizeOf46 rfl rfl rfl rfl rfl)<|zA (zB rfl)<|za (H':=[.box 46 (zO (⟨x2.node,x2.kind,x2.start,x2.count,x2.min,l1⟩:zW)),.box 46 (zO ⟨x2.node,x2.kind,x2.start,x2.count,x2.min,l1⟩)]) (zT (k:=0) (o:=0) (cs:=(zO ⟨0,0,0,0,0,(List.replicate 5 ([]:List Int))⟩)) (la:=(zO (⟨x2.node,x2.kind,x2.start,x2.count,x2.min,l1⟩:zW))) Try.sizeOf46 rfl rfl rfl rfl) ?_
 refine zA (zD rfl)<|zA (zD rfl)<|zG<|zd ?_
 cases h
 exact zED (zF3 Try.isAgg46 Try.sizeOf46 rfl rfl rfl rfl) (zAi rfl rfl) (zAi rfl rfl) rfl
theorem zGZ {J:zK} {R:Int} {r:Int} (h:zEQ J R=some r):PFn Try.prog 79 [(AV.agg (zJ J)),li R] (li r):=by
 refine zq Try.func79 rfl Try.ntmps79 Try.results79 rfl ?_
 unfold zEQ at h
 refine zI<|zC<|zX (H':=[.box 50 (zJ J)]) (z6 (t:=50) rfl)<|zA (zD rfl)<|zG<|zI ?_
 refine zI<|zC<|zA (zR (k:=0) (o:=0) (m:=1) Try.isAgg50 Try.sizeOf50 rfl rfl rfl rfl rfl)<|zA (zL Try.underlying50 rfl rfl Try.sizeOf48 rfl)<|zA (zN Try.isAgg48 rfl rfl rfl rfl)<|zA (ze Try.underlying48 rfl) ?_
 refine zQ h fun x1 w1 h=>zZ Try.func37 rfl (by kernel_rfl) (.fn 37) rfl rfl (zKQ w1) rfl<|zA (zD rfl)<|zG<|zI<|zC ?_
 refine zA (zB rfl)<|zA (zy rfl rfl)<|zG ?_
 refine zY h rfl (fun b1 h => ?_) (fun b1 h => ?_)
 ·refine zI<|zC<|zA (zB rfl)<|zA (zD rfl)<|zG<|zd ?_
  cases h
  exact zx (zAi rfl rfl)
 refine zU<|zI<|zI<|zC<|zA (zB rfl)<|zA (zj rfl rfl) ?_
 refine zA (zB rfl)<|zb rfl rfl (fun c1=>zv.step (zB rfl))<|zb rfl rfl (fun c2=>zv.step (zL Try.underlying50 rfl rfl Try.sizeOf48 rfl))<|zb rfl rfl (fun c3=>zv.step (zN Try.isAgg48 (zAM rfl c3) rfl rfl rfl))<|zb rfl rfl (fun c4=>zv.step (ze Try.underlying48 (zAM rfl c4)))<|zb rfl rfl (fun c5=>zv.step (zBy (zAM rfl c5) (zAM rfl c5))) ?_
 refine zA (zg rfl rfl)<|zG ?_
 refine zY h rfl (fun b2 h => ?_) (fun b2 h => ?_)
 ·refine zI<|zC<|zA (zD rfl)<|zG<|zd ?_
  cases h
  exact zx (zAi rfl rfl)
 refine zU<|zI<|zC<|zA (zD rfl)<|zG<|zd ?_
 cases h
 exact zx (zAi rfl rfl)
theorem zEK {J:zK} {R:Int} {uM:List Int} {r:zK} (h:zBk J R uM=some r):PFn Try.prog 80 [(AV.agg (zJ J)),li R,ls cI uM] (AV.agg (zJ r)):=by
 refine zq Try.func80 rfl Try.ntmps80 Try.results80 rfl ?_
 unfold zBk at h
 refine zI<|zC<|zX (H':=[.box 50 (zJ J)]) (z6 (t:=50) rfl)<|zX (H':=[.box 50 (zJ J),.box 50 [(ls (cS cI) ([]:List (List Int)))]]) zv1<|zG<|zI ?_
 refine zC<|zA (zL Try.underlying50 rfl rfl Try.sizeOf48 rfl)<|zA (zN Try.isAgg48 rfl rfl rfl rfl)<|zA (ze Try.underlying48 rfl)<|zM h fun b1 h=>zGm (f:=(cS cI)) (a:=(J.lists.length:Int)) (c:=(J.lists.length:Int)) (d0:=([]:List Int)) zSM ⟨zA6.nils,trivial⟩ rfl Try.underlying48 rfl rfl b1 ?_
 refine zA (zCU (pl:=[(0,1)]) (zs:=[.slice none 0 0]) (zc:=[.sl false []]) (res:=[AV.hd 2]) (fun _=>by kernel_rfl) rfl (⟨zA6.nils,trivial⟩) ⟨AV.hd 2,0,1,rfl,rfl,rfl,rfl,rfl,(by exact zLH.refl _)⟩)<|zX (H':=[.box 50 (zJ J),.box 50 [(ls (cS cI) ([]:List (List Int)))],.vec 22 1 (List.map (cS cI) (List.replicate (J.lists.length:Int).toNat ([]:List Int))),.box 50 [(ls (cS cI) ([]:List (List Int)))]]) zv1<|za (H':=[.box 50 (zJ J),.box 50 [(ls (cS cI) ([]:List (List Int)))],.vec 22 1 (List.map (cS cI) (List.replicate (J.lists.length:Int).toNat ([]:List Int))),.box 50 [AV.hd 2]]) (zT (k:=3) (o:=0) (cs:=[(ls (cS cI) ([]:List (List Int)))]) (la:=[AV.hd 2]) Try.sizeOf50 rfl rfl rfl rfl)<|zG ?_
 refine zAA (r:=r) (fun (l1:List (List Int))=>mkE [(6,(AV.ptr 0 0)),(7,(AV.ptr 1 0))]) (fun l1=>[.box 50 [(ls (cS cI) ([]:List (List Int)))],.box 50 [AV.osl 22 1 (List.map (cS cI) l1)]]) (fun l1=>zFd l1) ?_ ?_
 ·
  refine zI<|zC<|zA (zL Try.underlying50 rfl rfl Try.sizeOf48 rfl)<|zA (zN Try.isAgg48 rfl rfl rfl rfl)<|zA (ze Try.underlying48 rfl)<|zA (zB rfl) ?_
  refine zG<|zV<|z9 (σ:=Int×(List (List Int))) (fun (i1,l2)=>mkE [(1,(li R)),(2,(ls cI uM)),(3,(AV.ptr 0 0)),(6,(AV.ptr 1 0)),(7,(AV.ptr 2 0)),(17,(li (J.lists.length:Int))),(18,(li i1))]) (fun (i1,l2)=>[.box 50 (zJ J),.box 50 [(ls (cS cI) ([]:List (List Int)))],.box 50 [AV.osl 22 1 (List.map (cS cI) l2)]]) (fun n0 (i1,l2)=>zCX J R uM n0 i1 l2) (0,(List.replicate (J.lists.length:Int).toNat ([]:List Int))) h (fun _=>rfl) (Rep.trans (zAR (k:=3) (j:=2) (o:=0) rfl rfl rfl rfl) (zAd [0,1,3] (l:=[(1,(li R)),(2,(ls cI uM)),(3,(AV.ptr 0 0)),(6,(AV.ptr 1 0)),(7,(AV.ptr 2 0)),(17,(li (J.lists.length:Int))),(18,(li 0))]) rfl rfl (by kernel_rfl))) ?_
  clear h
  rintro n0 ⟨i1,l2⟩ h
  replace h:zCV J R uM (zCX J R uM n0) i1 l2=some r:=h
  unfold zCV at h
  refine zI<|zC<|zA (zj rfl rfl)<|zG<|zI ?_
  refine zY h rfl (fun b2 h => ?_) (fun b2 h => ?_)
  ·refine zU<|zI<|zV<|zI<|zC<|zA (zB rfl) ?_
   refine zA (zD rfl)<|zG<|zI<|zC<|zA (zL Try.underlying50 rfl rfl Try.sizeOf48 rfl)<|zA (zN Try.isAgg48 rfl rfl rfl rfl) ?_
   refine zA (zB rfl)<|zM h fun b3 h=>zA (zm Try.underlying48 Try.sizeOf22 (fun _=>rfl) rfl rfl b3)<|zA (zp (o:=0) Try.isAgg22 rfl rfl)<|zA (zD rfl)<|zG ?_
   refine zAA (r:=r) (fun (d1:List Int)=>mkE [(1,(li R)),(2,(ls cI uM)),(3,(AV.ptr 0 0)),(6,(AV.ptr 1 0)),(7,(AV.ptr 2 0)),(8,(li i1)),(9,(ls cI d1)),(17,(li (J.lists.length:Int))),(18,(li i1))]) (fun d1=>[.box 50 (zJ J),.box 50 [(ls (cS cI) ([]:List (List Int)))],.box 50 [AV.osl 22 1 (List.map (cS cI) l2)]]) (fun d1=>zDG (zCX J R uM n0) i1 l2 d1) ?_ ?_
   ·
    refine zI<|zC<|zA (zB rfl)<|zA (zB rfl)<|zA (zBO rfl rfl)<|zG ?_
    refine zY h rfl (fun b7 h => ?_) (fun b7 h => ?_)
    ·refine zC<|zA (zB rfl)<|zA (zD rfl)<|zG ?_
     exact ⟨uM,zAd [0,1,2] rfl rfl (by kernel_rfl),h⟩
    refine zU ?_
    exact ⟨at_ J.lists i1,zAd [0,1,2] rfl rfl (by kernel_rfl),h⟩
   clear h
   intro d1 h
   unfold zDG at h
   refine zI<|zAz (zBq (k:=2) (o:=0) (t':=22) (sz:=1) (rows:=List.map (cS cI) l2) rfl rfl)<|zM h fun b4 h=>zM h fun b5 h => ?_
   refine zBe (n:=46) (m:=0) [.head 0 1,.head 0 1,.head 0 1,.head 0 0,.head 0 0,.tail 0,.head 1 1,.tail 1] [5,7] [AV.ptr 2 0,AV.hd 3,li i1,ls cI d1,(li (d1.length:Int)),AV.hd 4,(AV.ptr 3 (i1.toNat*1)),.any] [[.box 50 (zJ J),.box 50 [(ls (cS cI) ([]:List (List Int)))],.box 50 [AV.hd 3],.vec 22 1 (List.map (cS cI) l2)],[.box 50 (zJ J),.box 50 [(ls (cS cI) ([]:List (List Int)))],.box 50 [AV.hd 3],.vec 22 1 (List.map (cS cI) l2),.vec 3 1 (List.map cI (List.replicate (d1.length:Int).toNat 0))],[.box 50 (zJ J),.box 50 [(ls (cS cI) ([]:List (List Int)))],.box 50 [AV.hd 3],.vopen 22 1 (List.map (cS cI) l2) i1.toNat [.hd 4],.vec 3 1 (List.map cI (List.replicate (d1.length:Int).toNat 0))]] (by kernel_rfl) (by kernel_rfl) ⟨⟨D1 fun e s p=>zL (k:=2) (o:=0) (off:=0) Try.underlying50 rfl rfl Try.sizeOf48 (s 7 rfl),D1 fun e s p=>zL (k:=2) (o:=0) (off:=0) Try.underlying50 rfl rfl Try.sizeOf48 (s 7 rfl)⟩,⟨D1 fun e s p=>zN (k:=2) (o:=0) Try.isAgg48 p.1 rfl rfl rfl,D1 fun e s p=>zN (k:=2) (o:=0) Try.isAgg48 p.1 rfl rfl rfl⟩,⟨D1 fun e s p=>zB (s 8 rfl),D1 fun e s p=>zB (s 8 rfl)⟩,D1 fun e s p=>zB (s 9 rfl),D1 fun e s p=>ze (f:=cI) (l:=d1) Try.underlying22 p.1,?_,D1 fun e s p=>zAN (f:=(cS cI)) (l:=l2) (i:=i1) Try.underlying48 Try.sizeOf22 p.2.2.2.1 rfl p.2.2.2.2.1 b5,?_,trivial⟩ ?_
   ·
    intro e9 s9 p9
    refine zGm (f:=cI) (a:=(d1.length:Int)) (c:=(d1.length:Int)) (d0:=0) zG6 ⟨zA6.refl _,trivial⟩ rfl Try.underlying22 p9.2.1 p9.2.1 b4 ?_
    exact zG ⟨fun _=>rfl,rfl⟩
   ·
    intro e11 s11 p11
    refine za (H':=[.box 50 (zJ J),.box 50 [(ls (cS cI) ([]:List (List Int)))],.box 50 [AV.hd 3],.vopen 22 1 (List.map (cS cI) l2) i1.toNat [.hd 4],.vec 3 1 (List.map cI (List.replicate (d1.length:Int).toNat 0))]) (zLS (k:=3) (j:=4) (i:=i1.toNat) Try.sizeOf22 (by exact p11.1) rfl rfl (by rw [List.length_map]; exact (zCa b5).2) (by exact p11.2.2.2.2.2.2.2.1) rfl) ?_
    exact zG ⟨fun _=>rfl,rfl⟩
   intro e12 s12 hq1
   refine zAz (zCl (l:=[(1,(li R)),(2,(ls cI uM)),(3,(AV.ptr 0 0)),(6,(AV.ptr 1 0)),(7,(AV.ptr 2 0)),(8,(li i1)),(9,(ls cI d1)),(17,(li (J.lists.length:Int))),(18,(li i1))]) ⟨s12 1 rfl,s12 2 rfl,s12 3 rfl,s12 6 rfl,s12 7 rfl,s12 8 rfl,s12 9 rfl,s12 17 rfl,s12 18 rfl,trivial⟩)<|zC<|zA (zL (k:=2) (o:=0) (off:=0) Try.underlying50 rfl rfl Try.sizeOf48 rfl)<|zA (zN (k:=2) (o:=0) (a:=(AV.hd 3)) Try.isAgg48 rfl rfl rfl rfl)<|zA (zB (av:=(li i1)) rfl)<|zA (zTK (row:=[]) (i:=i1) Try.underlying48 Try.sizeOf22 rfl rfl rfl (by rw [List.length_map]; exact b5)) ?_
   refine zA (zMX (k:=3) (i:=i1.toNat) (a := .hd 4) Try.isAgg22 rfl rfl rfl rfl)<|zA (zB rfl)<|zX (H':=[.box 50 (zJ J),.box 50 [(ls (cS cI) ([]:List (List Int)))],.box 50 [AV.hd 3],.vopen 22 1 (List.map (cS cI) l2) i1.toNat [.hd 4],.vec 3 1 (List.map cI (zCm (List.replicate (d1.length:Int).toNat 0) d1))]) (zKp (f:=cI) (k:=4) (l:=List.replicate (d1.length:Int).toNat 0) (l2:=d1) Try.underlying22 Try.sizeOf3 (fun _=>rfl) rfl rfl rfl)<|zG<|zC<|zM h fun b6 h => ?_
   refine zA (zi rfl rfl b6)<|zA (zB rfl)<|zG ?_
   exact ⟨((i1+1),(l2.set i1.toNat (zCm (List.replicate (d1.length:Int).toNat 0) d1))),Rep.trans (zRF (k:=3) (j:=4) (f:=cI) (l:=l2) (l':=zCm (List.replicate (d1.length:Int).toNat 0) d1) (fun _=>rfl) rfl rfl rfl) (Rep.trans (zAR (k:=2) (j:=3) (o:=0) rfl rfl rfl rfl) (zAd [0,1,2] (l:=[(1,(li R)),(2,(ls cI uM)),(3,(AV.ptr 0 0)),(6,(AV.ptr 1 0)),(7,(AV.ptr 2 0)),(17,(li (J.lists.length:Int))),(18,(li (i1+1)))]) rfl rfl (by kernel_rfl))),h⟩
  refine zAG ?_
  exact ⟨l2,zAd [1,2] rfl rfl (by kernel_rfl),h⟩
 clear h
 intro l1 h
 unfold zFd at h
 refine zI<|zC<|zAF (zBw (k:=1) (o:=0) (rows':=List.map (cS cI) l1) rfl rfl (zAW (fun _=>rfl)))<|zA (zR (k:=1) (o:=0) (m:=1) Try.isAgg50 Try.sizeOf50 rfl rfl rfl rfl rfl)<|za (H':=[.box 50 (zJ (⟨l1⟩:zK)),.box 50 [(ls (cS cI) l1)]]) (zT (k:=0) (o:=0) (cs:=[(ls (cS cI) ([]:List (List Int)))]) (la:=(zJ (⟨l1⟩:zK))) Try.sizeOf50 rfl rfl rfl rfl)<|zG ?_
 refine zd ?_
 cases h
 exact zx (zF3 Try.isAgg50 Try.sizeOf50 rfl rfl rfl rfl)
theorem zM3 {A:zK} {B:Int} {G:List Int} {r:zK×Int} (h:zFW A B G=some r):PFn Try.prog 77 [(AV.agg (zJ A)),li B,ls cI G] (AV.tup [(AV.agg (zJ r.1)),li r.2]):=by
 refine zq Try.func77 rfl Try.ntmps77 Try.results77 rfl ?_
 unfold zFW at h
 refine zI<|zC<|zX (H':=[.box 50 (zJ A)]) (z6 (t:=50) rfl)<|zX (H':=[.box 50 (zJ A),.box 50 [(ls (cS cI) ([]:List (List Int)))]]) zv1<|zA (zD rfl)<|zG ?_
 refine zI<|zI<|zC<|zA (zR (k:=0) (o:=0) (m:=1) Try.isAgg50 Try.sizeOf50 rfl rfl rfl rfl rfl)<|zA (zB rfl)<|zQ h fun x1 w1 h => ?_
 refine zZ Try.func79 rfl (by kernel_rfl) (.fn 79) rfl rfl (zGZ w1) rfl<|zA (zD rfl)<|zG<|zI<|zC<|zA (zB rfl) ?_
 refine zA (zy rfl rfl)<|zG ?_
 refine zY h rfl (fun b1 h => ?_) (fun b1 h => ?_)
 ·refine zI<|zC<|zA zv2<|zA (zB rfl)<|za (H':=[.box 50 (zJ A),.box 50 (zJ (⟨([]:List (List Int))⟩:zK))]) (zT (k:=1) (o:=0) (cs:=[(ls (cS cI) ([]:List (List Int)))]) (la:=(zJ (⟨([]:List (List Int))⟩:zK))) Try.sizeOf50 rfl rfl rfl rfl)<|zA (zD rfl) ?_
  refine zG<|zd ?_
  cases h
  exact zCB (zF3 Try.isAgg50 Try.sizeOf50 rfl rfl rfl rfl) (zAi rfl rfl) rfl
 refine zU<|zI<|zC<|zA (zR (k:=0) (o:=0) (m:=1) Try.isAgg50 Try.sizeOf50 rfl rfl rfl rfl rfl)<|zQ h fun x2 w2 h=>zNn (es:=mI Value.bool x2) (la:=[(AV.agg (zJ A))]) (la':=[(AV.agg (zJ A))]) (S:=[]) Try.func65 rfl (by kernel_rfl) (.fn 65) rfl ⟨zBC.nr rfl,trivial⟩ (zHk w2) ?_
 refine zA (zD rfl)<|zG ?_
 refine zAA (r:=r) (fun (_:Unit)=>mkE [(1,(li B)),(2,(ls cI G)),(3,(AV.ptr 0 0)),(6,(AV.ptr 1 0))]) (fun _=>[.box 50 (zJ A),.box 50 [(ls (cS cI) ([]:List (List Int)))]]) (fun _=>zEm A B G) ?_ ?_
 ·
  refine zI<|zC<|zA (zB rfl)<|zA (ze Try.underlying22 rfl)<|zA (zB rfl)<|zG ?_
  refine zV<|z9 (σ:=Int×(List (Int×Bool))) (fun (i2,l3)=>mkE [(1,(li B)),(2,(ls cI G)),(3,(AV.ptr 0 0)),(6,(AV.ptr 1 0)),(9,(AV.hd 2)),(23,(ls cI G)),(24,(li (G.length:Int))),(25,(li i2))]) (fun (i2,l3)=>[.box 50 (zJ A),.box 50 [(ls (cS cI) ([]:List (List Int)))],.map (mI Value.bool l3)]) (fun n1 (i2,l3)=>zEp A B G n1 i2 l3) (0,x2) h (fun _=>rfl) (zAd [0,1,2] rfl rfl (by kernel_rfl)) ?_
  clear h
  rintro n1 ⟨i2,l3⟩ h
  replace h:zCv A B G (zEp A B G n1) i2 l3=some r:=h
  unfold zCv at h
  refine zI<|zC<|zA (zj rfl rfl)<|zG<|zI ?_
  refine zY h rfl (fun b10 h => ?_) (fun b10 h => ?_)
  ·refine zU<|zI<|zV<|zI<|zC<|zM h fun b11 h => ?_
   refine zA (zm Try.underlying22 Try.sizeOf3 (fun _=>rfl) rfl rfl b11)<|zA (zp (o:=0) Try.isAgg3 rfl rfl)<|zA (zD rfl)<|zG<|zI<|zI ?_
   refine zC<|zA (zB rfl)<|zQ h fun x5 w5 h=>zZ Try.func64 rfl (by kernel_rfl) (.fn 64) rfl rfl (zGv w5) rfl<|zA (zBU (t:=x5) rfl)<|zG ?_
   refine zY h rfl (fun b12 h => ?_) (fun b12 h => ?_)
   ·refine zI<|zC<|zA zv2<|za (H':=[.box 50 (zJ A),.box 50 (zJ (⟨([]:List (List Int))⟩:zK)),.map (mI Value.bool l3)]) (zT (k:=1) (o:=0) (cs:=[(ls (cS cI) ([]:List (List Int)))]) (la:=(zJ (⟨([]:List (List Int))⟩:zK))) Try.sizeOf50 rfl rfl rfl rfl)<|zA (zD rfl)<|zG ?_
    refine zd ?_
    cases h
    exact zCB (zF3 Try.isAgg50 Try.sizeOf50 rfl rfl rfl rfl) (zAi rfl rfl) rfl
   refine zU<|zI<|zI<|zC<|zA (zB rfl)<|zA (zB rfl) ?_
   refine zA (zNZ (k:=2) (g:=Value.bool) (q:=at_ G i2) (l:=l3) (dflt:=false) (a:=(AV.lit (.bool (zL9 false l3 (at_ G i2))))) Try.underlying83 Try.underlying3 Try.zeroValue4 rfl rfl rfl rfl)<|zG ?_
   refine zY h rfl (fun b13 h => ?_) (fun b13 h => ?_)
   ·refine zI<|zC<|zA zv2<|za (H':=[.box 50 (zJ A),.box 50 (zJ (⟨([]:List (List Int))⟩:zK)),.map (mI Value.bool l3)]) (zT (k:=1) (o:=0) (cs:=[(ls (cS cI) ([]:List (List Int)))]) (la:=(zJ (⟨([]:List (List Int))⟩:zK))) Try.sizeOf50 rfl rfl rfl rfl)<|zA (zD rfl)<|zG ?_
    refine zd ?_
    cases h
    exact zCB (zF3 Try.isAgg50 Try.sizeOf50 rfl rfl rfl rfl) (zAi rfl rfl) rfl
   refine zU<|zC<|zA (zB rfl)<|zA (zB rfl)<|za (H':=[.box 50 (zJ A),.box 50 [(ls (cS cI) ([]:List (List Int)))],.map (mI Value.bool (zJ9 l3 (at_ G i2) true))]) (zNb (k:=2) (g:=Value.bool) (q:=at_ G i2) (l:=l3) (v:=true) Try.underlying83 Try.underlying3 rfl rfl rfl rfl)<|zG ?_
   refine zC<|zM h fun b14 h=>zA (zi rfl rfl b14)<|zA (zB rfl)<|zG ?_
   exact ⟨((i2+1),(zJ9 l3 (at_ G i2) true)),zAd [0,1,2] rfl rfl (by kernel_rfl),h⟩
  refine zAG ?_
  exact ⟨(),zAd [0,1] rfl rfl (by kernel_rfl),h⟩
 clear h
 intro _ h
 unfold zEm at h
 refine zI<|zC<|zA (zL Try.underlying50 rfl rfl Try.sizeOf48 rfl)<|zA (zN Try.isAgg48 rfl rfl rfl rfl)<|zA (zB rfl)<|zM h fun b2 h => ?_
 refine zA (zm Try.underlying48 Try.sizeOf22 (fun _=>rfl) rfl rfl b2)<|zA (zp (o:=0) Try.isAgg22 rfl rfl)<|zA (ze Try.underlying22 rfl)<|zM h fun b3 h=>zGm (f:=cI) (a:=((at_ A.lists B).length:Int)) (c:=((at_ A.lists B).length:Int)) (d0:=0) zG6 ⟨zA6.refl _,trivial⟩ rfl Try.underlying22 rfl rfl b3<|zA (zD rfl) ?_
 refine zG<|zI<|zC<|zA (zB rfl)<|zA (zL Try.underlying50 rfl rfl Try.sizeOf48 rfl)<|zA (zN Try.isAgg48 rfl rfl rfl rfl) ?_
 refine zA (zB rfl)<|zA (zm Try.underlying48 Try.sizeOf22 (fun _=>rfl) rfl rfl b2)<|zA (zp (o:=0) Try.isAgg22 rfl rfl)<|zX (H':=[.box 50 (zJ A),.box 50 [(ls (cS cI) ([]:List (List Int)))],.vec 3 1 (List.map cI (zCm (List.replicate ((at_ A.lists B).length:Int).toNat 0) (at_ A.lists B)))]) (zKp (f:=cI) (k:=2) (l:=List.replicate ((at_ A.lists B).length:Int).toNat 0) (l2:=at_ A.lists B) Try.underlying22 Try.sizeOf3 (fun _=>rfl) rfl rfl rfl)<|zG ?_
 refine zAA (r:=r) (fun (l1:List Int)=>mkE [(1,(li B)),(3,(AV.ptr 0 0)),(6,(AV.ptr 1 0)),(12,(AV.hd 2))]) (fun l1=>[.box 50 (zJ A),.box 50 [(ls (cS cI) ([]:List (List Int)))],.vec 3 1 (List.map cI l1)]) (fun l1=>zEi A B l1) ?_ ?_
 ·
  refine zI<|zC<|zA (zB rfl)<|zA (ze Try.underlying22 rfl)<|zA (zB rfl)<|zG ?_
  refine zV<|z9 (σ:=Int×(List Int)) (fun (i1,l2)=>mkE [(1,(li B)),(2,(ls cI G)),(3,(AV.ptr 0 0)),(6,(AV.ptr 1 0)),(12,(AV.hd 2)),(55,(li (G.length:Int))),(56,(li i1))]) (fun (i1,l2)=>[.box 50 (zJ A),.box 50 [(ls (cS cI) ([]:List (List Int)))],.vec 3 1 (List.map cI l2)]) (fun n0 (i1,l2)=>zEo A B G n0 i1 l2) (0,(zCm (List.replicate ((at_ A.lists B).length:Int).toNat 0) (at_ A.lists B))) h (fun _=>rfl) (zAd [0,1,2] rfl rfl (by kernel_rfl)) ?_
  clear h
  rintro n0 ⟨i1,l2⟩ h
  replace h:zCy A B G (zEo A B G n0) i1 l2=some r:=h
  unfold zCy at h
  refine zI<|zC<|zA (zj rfl rfl)<|zG<|zI ?_
  refine zY h rfl (fun b4 h => ?_) (fun b4 h => ?_)
  ·refine zU<|zI<|zV<|zI<|zC<|zA (zB rfl) ?_
   refine zA (zD rfl)<|zG<|zC<|zA (zB rfl)<|zA (zB rfl)<|zA (zB rfl) ?_
   refine zA (ze Try.underlying22 rfl)<|zM h fun b5 h=>zA (zDX rfl rfl b5)<|zA (zB rfl)<|zM h fun b6 h=>zA (zDX rfl rfl b6) ?_
   refine zM h fun b7 h=>zA (zm Try.underlying22 Try.sizeOf3 (fun _=>rfl) rfl rfl b7)<|zA (zp (o:=0) Try.isAgg3 rfl rfl)<|zGW (a:=(li (at_ G (((G.length:Int) - 1) - i1)))) zG6 Try.underlying22 rfl rfl rfl rfl<|zM h fun b8 h=>zER (f:=cI) (k:=2) (j:=3) (l:=l2) (l':=[at_ G (((G.length:Int) - 1) - i1)]) zG6 (fun _=>rfl) Try.underlying22 rfl rfl rfl rfl b8 ?_
   refine zA (zD rfl)<|zG<|zC<|zM h fun b9 h=>zA (zi rfl rfl b9)<|zA (zB rfl) ?_
   refine zG ?_
   exact ⟨((i1+1),(l2++[at_ G (((G.length:Int) - 1) - i1)])),zAd [0,1,4] rfl rfl (by kernel_rfl),h⟩
  refine zAG ?_
  exact ⟨l2,zAd [0,1,2] rfl rfl (by kernel_rfl),h⟩
 clear h
 intro l1 h
 unfold zEi at h
 refine zI<|zC<|zA (zR (k:=0) (o:=0) (m:=1) Try.isAgg50 Try.sizeOf50 rfl rfl rfl rfl rfl)<|zA (zB rfl)<|zA (zB rfl)<|zQ h fun x3 w3 h => ?_
 refine zAF (zE8 (j:=2) (ds:=[12,73]) (rows':=List.map cI l1) rfl (zAW (fun _=>rfl)) ⟨rfl,rfl,trivial⟩)<|zQ h fun x4 w4 h=>zZ Try.func80 rfl (by kernel_rfl) (.fn 80) rfl rfl (zEK w4) rfl<|za (H':=[.box 50 (zJ A),.box 50 (zJ x4),.dead]) (zT (k:=1) (o:=0) (cs:=[(ls (cS cI) ([]:List (List Int)))]) (la:=(zJ x4)) Try.sizeOf50 rfl rfl rfl rfl)<|zA (zD rfl)<|zG ?_
 refine zd ?_
 cases h
 exact zCB (zF3 Try.isAgg50 Try.sizeOf50 rfl rfl rfl rfl) (zAi rfl rfl) rfl
theorem zH8 {A:zH} {B:Int} {G:Int} {r:zH×Bool} (h:zCu A B G=some r):AFn Try.prog 43 [AV.ptr 0 0,li B,li G] [.box 29 ([ls cI A.nodes]++([li A.batch]++([li A.high]++([AV.osl 46 10 (List.map zO A.zones)]++([AV.osl 50 1 (List.map zJ A.caches)]++[])))))] (AV.lit (.bool r.2)) [.box 29 ([ls cI r.1.nodes]++([li r.1.batch]++([li r.1.high]++([AV.osl 46 10 (List.map zO r.1.zones)]++([AV.osl 50 1 (List.map zJ r.1.caches)]++[])))))]:=by
 refine zGJ Try.func43 rfl Try.ntmps43 Try.results43 rfl ?_
 unfold zCu at h
 refine zI<|zC<|zA (zD rfl)<|zG<|zI<|zC ?_
 refine zA (zD rfl)<|zG ?_
 refine zAA (r:=r) (fun ((l1,l2):(List zW)×(List Int))=>mkE [(0,(AV.ptr 0 0)),(1,(li B)),(2,(li G)),(7,(AV.hd 1))]) (fun (l1,l2)=>[.box 29 [ls cI A.nodes,li A.batch,li A.high,AV.osl 46 10 (List.map zO l1),AV.osl 50 1 (List.map zJ A.caches)],.vec 3 1 (List.map cI l2)]) (fun (l1,l2)=>zBs A B G l1 l2) ?_ ?_
 ·
  refine zI<|zC<|zA (zB rfl)<|zA (zAY rfl)<|zA (zL Try.underlying29 rfl rfl Try.sizeOf3 rfl)<|zA (zN Try.isAgg3 rfl rfl rfl rfl) ?_
  refine zA (zB rfl)<|zG<|zV<|z9 (σ:=Int×(List zW)×(List Int)) (fun (i1,l4,l5)=>mkE [(0,(AV.ptr 0 0)),(1,(li B)),(2,(li G)),(7,(AV.hd 1)),(16,(li A.batch)),(17,(li i1))]) (fun (i1,l4,l5)=>[.box 29 [ls cI A.nodes,li A.batch,li A.high,AV.osl 46 10 (List.map zO l4),AV.osl 50 1 (List.map zJ A.caches)],.vec 3 1 (List.map cI l5)]) (fun n0 (i1,l4,l5)=>zDJ A B G n0 i1 l4 l5) (0,A.zones,[]) h (fun _=>rfl) (Rep.trans (zPU (d:=7) (el:=3) (sz:=1) rfl) (zAd [0,1] (l:=[(0,(AV.ptr 0 0)),(1,(li B)),(2,(li G)),(7,(AV.hd 1)),(16,(li A.batch)),(17,(li 0))]) rfl rfl (by kernel_rfl))) ?_
  clear h
  rintro n0 ⟨i1,l4,l5⟩ h
  replace h:zBt A B G (zDJ A B G n0) i1 l4 l5=some r:=h
  unfold zBt at h
  refine zI<|zC<|zA (zj rfl rfl)<|zG<|zI ?_
  refine zY h rfl (fun b3 h => ?_) (fun b3 h => ?_)
  ·refine zU<|zI<|zV<|zI<|zC<|zA (zB rfl) ?_
   refine zA (zAY rfl)<|zA (zL Try.underlying29 rfl rfl Try.sizeOf26 rfl)<|zAF (zBq (k:=0) (o:=3) (t':=46) (sz:=10) (rows:=List.map zO l4) rfl rfl)<|zA (zN Try.isAgg26 rfl rfl rfl rfl)<|zA (zB rfl)<|zM h fun b4 h => ?_
   refine zA (zAN (f:=zO) (l:=l4) (i:=G) Try.underlying26 Try.sizeOf46 rfl rfl rfl b4)<|zA (zC9 (f:=zO) (l:=l4) (i:=G) (c:=0) (q:=10) (la:=(zO (at_ l4 G))) Try.isAgg46 Try.sizeOf46 rfl rfl (by first | rfl | omega) b4 rfl rfl rfl)<|zQ h fun x3 w3 h=>zZ Try.func48 rfl (by kernel_rfl) (.fn 48) rfl rfl (zLC w3) rfl<|zA (zB rfl)<|zA (zS rfl rfl) ?_
   refine zA (zS rfl rfl)<|zA (zS rfl rfl)<|zX (H':=[.box 29 [ls cI A.nodes,li A.batch,li A.high,AV.hd 2,AV.osl 50 1 (List.map zJ A.caches)],.vec 3 1 (List.map cI l5),.vec 46 10 (List.map zO l4),.box 46 (zO ⟨0,0,0,0,0,(List.replicate 5 ([]:List Int))⟩)]) zv0<|za (H':=[.box 29 [ls cI A.nodes,li A.batch,li A.high,AV.hd 2,AV.osl 50 1 (List.map zJ A.caches)],.vec 3 1 (List.map cI l5),.vec 46 10 (List.map zO l4),.box 46 (zO x3.1)]) (zT (k:=3) (o:=0) (cs:=(zO ⟨0,0,0,0,0,(List.replicate 5 ([]:List Int))⟩)) (la:=(zO x3.1)) Try.sizeOf46 rfl rfl rfl rfl)<|zA (zD rfl)<|zA (zD rfl) ?_
   refine zG<|zI<|zI<|zC<|zA (zB rfl)<|zA (zy rfl rfl) ?_
   refine zG ?_
   refine zY h rfl (fun b5 h => ?_) (fun b5 h => ?_)
   ·refine zAG ?_
    exact ⟨(l4,l5),Rep.trans (zAR (k:=0) (j:=2) (o:=3) rfl rfl rfl rfl) (zAd [0,1] (l:=[(0,(AV.ptr 0 0)),(1,(li B)),(2,(li G)),(7,(AV.hd 1))]) rfl rfl (by kernel_rfl)),h⟩
   refine zU<|zI ?_
   refine zBe (n:=70) (m:=1) [.head 0 0,.head 0 0,.head 0 0,.head 0 0,.head 0 0,.head 0 0,.head 0 0,.tail 0] [7] [AV.ptr 0 0,AV.ptr 0 0,AV.ptr 0 3,AV.hd 2,li G,(AV.agg (zO x3.1)),(AV.ptr 2 (G.toNat*10)),.any] [[.box 29 [ls cI A.nodes,li A.batch,li A.high,AV.hd 2,AV.osl 50 1 (List.map zJ A.caches)],.vec 3 1 (List.map cI l5),.vec 46 10 (List.map zO l4),.box 46 (zO x3.1)],[.box 29 [ls cI A.nodes,li A.batch,li A.high,AV.hd 2,AV.osl 50 1 (List.map zJ A.caches)],.vec 3 1 (List.map cI l5),.vec 46 10 (List.map zO (l4.set G.toNat x3.1)),.box 46 (zO x3.1)]] (by kernel_rfl) (by kernel_rfl) ⟨D1 fun e s p=>zB (s 0 rfl),D1 fun e s p=>zAY p.1,D1 fun e s p=>zL (k:=0) (o:=0) (off:=3) Try.underlying29 rfl rfl Try.sizeOf26 p.1,D1 fun e s p=>zN (k:=0) (o:=3) Try.isAgg26 p.1 rfl rfl rfl,D1 fun e s p=>zB (s 2 rfl),D1 fun e s p=>zR (k:=3) (o:=0) (m:=10) Try.isAgg46 Try.sizeOf46 (s 8 rfl) rfl rfl rfl rfl,D1 fun e s p=>zAN (f:=zO) (l:=l4) (i:=G) Try.underlying26 Try.sizeOf46 p.2.2.2.2.2.1 rfl p.2.2.2.2.2.2.1 b4,?_,trivial⟩ ?_
   ·
    intro e17 s17 p16
    refine za (H':=[.box 29 [ls cI A.nodes,li A.batch,li A.high,AV.hd 2,AV.osl 50 1 (List.map zJ A.caches)],.vec 3 1 (List.map cI l5),.vec 46 10 (List.map zO (l4.set G.toNat x3.1)),.box 46 (zO x3.1)]) (zC3 (k:=2) (o:=(G.toNat*10)) (f:=zO) (l:=l4) (i:=G) (z:=x3.1) Try.sizeOf46 (fun _=>rfl) (by exact p16.1) rfl (by first | rfl | omega) b4 (by exact p16.2.2.2.2.2.2.2.1) rfl) ?_
    exact zG ⟨fun _=>rfl,rfl⟩
   intro e18 s18 hq2
   refine zAz (zCl (l:=[(0,(AV.ptr 0 0)),(1,(li B)),(2,(li G)),(7,(AV.hd 1)),(9,(li x3.2.1)),(16,(li A.batch)),(17,(li i1))]) ⟨s18 0 rfl,s18 1 rfl,s18 2 rfl,s18 7 rfl,s18 9 rfl,s18 16 rfl,s18 17 rfl,trivial⟩)<|zC<|zA (zB (av:=(AV.hd 1)) rfl)<|zA (zB (av:=(li x3.2.1)) rfl)<|zGW (a:=(li x3.2.1)) zG6 Try.underlying22 rfl rfl rfl rfl<|zM h fun b6 h => ?_
   refine zER (f:=cI) (k:=1) (j:=4) (l:=l5) (l':=[x3.2.1]) zG6 (fun _=>rfl) Try.underlying22 rfl rfl rfl rfl b6<|zA (zD rfl)<|zG<|zC<|zM h fun b7 h=>zA (zi rfl rfl b7) ?_
   refine zA (zB rfl)<|zG ?_
   exact ⟨((i1+1),l4.set G.toNat x3.1,(l5++[x3.2.1])),Rep.trans (zAR (k:=0) (j:=2) (o:=3) rfl rfl rfl rfl) (zAd [0,5] (l:=[(0,(AV.ptr 0 0)),(1,(li B)),(2,(li G)),(7,(AV.hd 1)),(16,(li A.batch)),(17,(li (i1+1)))]) rfl rfl (by kernel_rfl)),h⟩
  refine zAG ?_
  exact ⟨(l4,l5),zAd [0,1] rfl rfl (by kernel_rfl),h⟩
 clear h
 rintro ⟨l1,l2⟩ h
 unfold zBs at h
 refine zAA (r:=r) (fun (l3:List zK)=>mkE [(7,(ls cI l2))]) (fun l3=>[.box 29 [ls cI A.nodes,li A.batch,li A.high,AV.osl 46 10 (List.map zO l1),AV.osl 50 1 (List.map zJ l3)]]) (fun l3=>zDS A l1 l2 l3) ?_ ?_
 ·
  refine zI<|zC<|zA (zB rfl)<|zA (zAY rfl)<|zA (zL Try.underlying29 rfl rfl Try.sizeOf27 rfl)<|zAF (zBq (k:=0) (o:=4) (t':=50) (sz:=1) (rows:=List.map zJ A.caches) rfl rfl) ?_
  refine zA (zN Try.isAgg27 rfl rfl rfl rfl)<|zA (zB rfl)<|zM h fun b1 h=>zA (zAN (f:=zJ) (l:=A.caches) (i:=B) Try.underlying27 Try.sizeOf50 rfl rfl rfl b1)<|zA (zC9 (f:=zJ) (l:=A.caches) (i:=B) (c:=0) (q:=1) (la:=(zJ (at_ A.caches B))) Try.isAgg50 Try.sizeOf50 rfl rfl (by first | rfl | omega) b1 rfl rfl rfl)<|zA (zB rfl) ?_
  refine zA (zB rfl)<|zQ h fun x1 w1 h=>zAF (zE8 (j:=1) (ds:=[7,54]) (rows':=List.map cI l2) rfl (zAW (fun _=>rfl)) ⟨rfl,rfl,trivial⟩)<|zQ h fun x2 w2 h=>zZ Try.func77 rfl (by kernel_rfl) (.fn 77) rfl rfl (zM3 w2) rfl<|zA (zB rfl) ?_
  refine zA (zS rfl rfl)<|zA (zS rfl rfl)<|zX (H':=[.box 29 [ls cI A.nodes,li A.batch,li A.high,AV.osl 46 10 (List.map zO l1),AV.hd 2],.dead,.vec 50 1 (List.map zJ A.caches),.box 50 [(ls (cS cI) ([]:List (List Int)))]]) zv1<|za (H':=[.box 29 [ls cI A.nodes,li A.batch,li A.high,AV.osl 46 10 (List.map zO l1),AV.hd 2],.dead,.vec 50 1 (List.map zJ A.caches),.box 50 (zJ x2.1)]) (zT (k:=3) (o:=0) (cs:=[(ls (cS cI) ([]:List (List Int)))]) (la:=(zJ x2.1)) Try.sizeOf50 rfl rfl rfl rfl)<|zA (zD rfl)<|zG ?_
  refine zI<|zC<|zA (zB rfl)<|zA (zBO rfl rfl)<|zG ?_
  refine zY h rfl (fun b2 h => ?_) (fun b2 h => ?_)
  ·refine zBe (n:=70) (m:=1) [.head 0 0,.head 0 0,.head 0 0,.head 0 0,.head 0 0,.head 0 0,.head 0 0,.tail 0] [7] [AV.ptr 0 0,AV.ptr 0 0,AV.ptr 0 4,AV.hd 2,li B,(AV.agg (zJ x2.1)),(AV.ptr 2 (B.toNat*1)),.any] [[.box 29 [ls cI A.nodes,li A.batch,li A.high,AV.osl 46 10 (List.map zO l1),AV.hd 2],.dead,.vec 50 1 (List.map zJ A.caches),.box 50 (zJ x2.1)],[.box 29 [ls cI A.nodes,li A.batch,li A.high,AV.osl 46 10 (List.map zO l1),AV.hd 2],.dead,.vec 50 1 (List.map zJ (A.caches.set B.toNat x2.1)),.box 50 (zJ x2.1)]] (by kernel_rfl) (by kernel_rfl) ⟨D1 fun e s p=>zB (s 0 rfl),D1 fun e s p=>zAY p.1,D1 fun e s p=>zL (k:=0) (o:=0) (off:=4) Try.underlying29 rfl rfl Try.sizeOf27 p.1,D1 fun e s p=>zN (k:=0) (o:=4) Try.isAgg27 p.1 rfl rfl rfl,D1 fun e s p=>zB (s 1 rfl),D1 fun e s p=>zR (k:=3) (o:=0) (m:=1) Try.isAgg50 Try.sizeOf50 (s 11 rfl) rfl rfl rfl rfl,D1 fun e s p=>zAN (f:=zJ) (l:=A.caches) (i:=B) Try.underlying27 Try.sizeOf50 p.2.2.2.2.2.1 rfl p.2.2.2.2.2.2.1 b1,?_,trivial⟩ ?_
   ·
    intro e8 s8 p8
    refine za (H':=[.box 29 [ls cI A.nodes,li A.batch,li A.high,AV.osl 46 10 (List.map zO l1),AV.hd 2],.dead,.vec 50 1 (List.map zJ (A.caches.set B.toNat x2.1)),.box 50 (zJ x2.1)]) (zC3 (k:=2) (o:=(B.toNat*1)) (f:=zJ) (l:=A.caches) (i:=B) (z:=x2.1) Try.sizeOf50 (fun _=>rfl) (by exact p8.1) rfl (by first | rfl | omega) b1 (by exact p8.2.2.2.2.2.2.2.1) rfl) ?_
    exact zG ⟨fun _=>rfl,rfl⟩
   intro e9 s9 hq1
   exact ⟨A.caches.set B.toNat x2.1,Rep.trans (zCl (l:=[(7,(ls cI l2))]) ⟨s9 7 rfl,trivial⟩) (Rep.trans (zAR (k:=0) (j:=2) (o:=4) (cs:=[ls cI A.nodes,li A.batch,li A.high,AV.osl 46 10 (List.map zO l1),AV.hd 2]) rfl rfl rfl rfl) (zAd [0] (l:=[(7,(ls cI l2))]) rfl rfl (by kernel_rfl))),h⟩
  refine zU ?_
  exact ⟨A.caches,Rep.trans (zAR (k:=0) (j:=2) (o:=4) rfl rfl rfl rfl) (zAd [0] (l:=[(7,(ls cI l2))]) rfl rfl (by kernel_rfl)),h⟩
 clear h
 intro l3 h
 unfold zDS at h
 refine zI<|zC<|zA (zB rfl)<|zA (ze Try.underlying22 rfl)<|zA (zBx rfl rfl)<|zA (zD rfl) ?_
 refine zG<|zd ?_
 cases h
 exact ⟨mkE [(6,(AV.lit (.bool (decide (0<(l2.length:Int))))))],[.box 29 [ls cI A.nodes,li A.batch,li A.high,AV.osl 46 10 (List.map zO l1),AV.osl 50 1 (List.map zJ l3)]],zAd [0] rfl rfl (by kernel_rfl),zUC rfl rfl⟩
theorem zNk {J:zK} {R:Int} {r:zK×(List Int)×Int} (h:zHR J R=some r):PFn Try.prog 78 [(AV.agg (zJ J)),li R] (AV.tup [(AV.agg (zJ r.1)),ls cI r.2.1,li r.2.2]):=by
 refine zq Try.func78 rfl Try.ntmps78 Try.results78 rfl ?_
 unfold zHR at h
 refine zI<|zC<|zX (H':=[.box 50 (zJ J)]) (z6 (t:=50) rfl)<|zX (H':=[.box 50 (zJ J),.box 50 [(ls (cS cI) ([]:List (List Int)))]]) zv1<|zA (zD rfl)<|zA (zD rfl) ?_
 refine zG<|zI<|zI<|zC<|zA (zR (k:=0) (o:=0) (m:=1) Try.isAgg50 Try.sizeOf50 rfl rfl rfl rfl rfl)<|zA (zB rfl) ?_
 refine zQ h fun x1 w1 h=>zZ Try.func79 rfl (by kernel_rfl) (.fn 79) rfl rfl (zGZ w1) rfl<|zA (zD rfl)<|zG<|zI<|zC ?_
 refine zA (zB rfl)<|zA (zy rfl rfl)<|zG ?_
 refine zY h rfl (fun b1 h => ?_) (fun b1 h => ?_)
 ·refine zI<|zC<|zA zv2<|zA (zB rfl)<|za (H':=[.box 50 (zJ J),.box 50 (zJ (⟨([]:List (List Int))⟩:zK))]) (zT (k:=1) (o:=0) (cs:=[(ls (cS cI) ([]:List (List Int)))]) (la:=(zJ (⟨([]:List (List Int))⟩:zK))) Try.sizeOf50 rfl rfl rfl rfl)<|zA (zD rfl) ?_
  refine zA (zD rfl)<|zG<|zd ?_
  cases h
  exact zED (zF3 Try.isAgg50 Try.sizeOf50 rfl rfl rfl rfl) (zIo (zAi rfl rfl) zA6.nils) (zAi rfl rfl) rfl
 refine zU<|zI<|zC<|zA (zL Try.underlying50 rfl rfl Try.sizeOf48 rfl)<|zA (zN Try.isAgg48 rfl rfl rfl rfl)<|zA (zB rfl) ?_
 refine zM h fun b2 h=>zA (zm Try.underlying48 Try.sizeOf22 (fun _=>rfl) rfl rfl b2)<|zA (zp (o:=0) Try.isAgg22 rfl rfl)<|zA (ze Try.underlying22 rfl)<|zM h fun b3 h=>zGm (f:=cI) (a:=((at_ J.lists R).length:Int)) (c:=((at_ J.lists R).length:Int)) (d0:=0) zG6 ⟨zA6.refl _,trivial⟩ rfl Try.underlying22 rfl rfl b3 ?_
 refine zA (zD rfl)<|zG<|zI<|zC<|zA (zB rfl)<|zA (zL Try.underlying50 rfl rfl Try.sizeOf48 rfl) ?_
 refine zA (zN Try.isAgg48 rfl rfl rfl rfl)<|zA (zB rfl)<|zA (zm Try.underlying48 Try.sizeOf22 (fun _=>rfl) rfl rfl b2)<|zA (zp (o:=0) Try.isAgg22 rfl rfl)<|zX (H':=[.box 50 (zJ J),.box 50 [(ls (cS cI) ([]:List (List Int)))],.vec 3 1 (List.map cI (zCm (List.replicate ((at_ J.lists R).length:Int).toNat 0) (at_ J.lists R)))]) (zKp (f:=cI) (k:=2) (l:=List.replicate ((at_ J.lists R).length:Int).toNat 0) (l2:=at_ J.lists R) Try.underlying22 Try.sizeOf3 (fun _=>rfl) rfl rfl rfl)<|zG ?_
 refine zI<|zC<|zA (zR (k:=0) (o:=0) (m:=1) Try.isAgg50 Try.sizeOf50 rfl rfl rfl rfl rfl)<|zA (zB rfl)<|zQ h fun x2 w2 h=>zAq (r':=(AV.agg (zJ x2))) (la:=[(AV.agg (zJ J)),li R,(AV.lit (.slice none 0 0))]) (la':=[(AV.agg (zJ J)),li R,(ls cI [])]) (r:=(AV.agg (zJ x2))) (S:=[]) Try.func80 rfl (by kernel_rfl) (.fn 80) rfl ⟨zBC.nr rfl,zBC.nr rfl,zBC.sub zA6.nils rfl,trivial⟩ (zEK w2) (.inl rfl) rfl ?_
 refine zA (zB rfl)<|za (H':=[.box 50 (zJ J),.box 50 (zJ x2),.vec 3 1 (List.map cI (zCm (List.replicate ((at_ J.lists R).length:Int).toNat 0) (at_ J.lists R)))]) (zT (k:=1) (o:=0) (cs:=[(ls (cS cI) ([]:List (List Int)))]) (la:=(zJ x2)) Try.sizeOf50 rfl rfl rfl rfl)<|zA (zD rfl)<|zA (zD rfl)<|zG<|zAz (zE8 (j:=2) (ds:=[5,8,22,23,33]) (rows':=List.map cI (zCm (List.replicate ((at_ J.lists R).length:Int).toNat 0) (at_ J.lists R))) rfl (zAW (fun _=>rfl)) ⟨rfl,rfl,rfl,rfl,rfl,trivial⟩) ?_
 refine zd ?_
 cases h
 exact zED (zF3 Try.isAgg50 Try.sizeOf50 rfl rfl rfl rfl) (zAi rfl rfl) (zAi rfl rfl) rfl
theorem zPS {D:zW} {X:Int} {E:Int} {r:zW×Int} (h:zH4 D X E=some r):PFn Try.prog 81 [(AV.agg (zO D)),li X,li E] (AV.tup [(AV.agg (zO r.1)),li r.2]):=by
 refine zq Try.func81 rfl Try.ntmps81 Try.results81 rfl ?_
 unfold zH4 at h
 refine zI<|zC<|zX (H':=[.box 46 (zO D)]) (z6 (t:=46) rfl)<|zX (H':=[.box 46 (zO D),.box 46 ([li 0]++([li 0]++([li 0]++([li 0]++([li 0]++((cA 5 (eS cI) ([]:List Int) (List.replicate 5 ([]:List Int)))++[]))))))]) zv0<|zA (zD rfl)<|zG ?_
 refine zI<|zI<|zC<|zA (zR (k:=0) (o:=0) (m:=10) Try.isAgg46 Try.sizeOf46 rfl rfl rfl rfl rfl)<|zQ h fun x1 w1 h=>zZ Try.func36 rfl (by kernel_rfl) (.fn 36) rfl rfl (zD7 w1) rfl ?_
 refine zA (zD rfl)<|zG<|zI<|zC<|zA (zB rfl)<|zA (zy rfl rfl) ?_
 refine zG ?_
 refine zY h rfl (fun b1 h => ?_) (fun b1 h => ?_)
 ·refine zI<|zC<|zA zv9<|zA (zB rfl)<|za (H':=[.box 46 (zO D),.box 46 (zO (⟨0,0,0,0,0,(List.replicate 5 ([]:List Int))⟩:zW))]) (zT (k:=1) (o:=0) (cs:=([li 0]++([li 0]++([li 0]++([li 0]++([li 0]++((cA 5 (eS cI) ([]:List Int) (List.replicate 5 ([]:List Int)))++[]))))))) (la:=(zO (⟨0,0,0,0,0,(List.replicate 5 ([]:List Int))⟩:zW))) Try.sizeOf46 rfl rfl rfl rfl)<|zA (zD rfl) ?_
  refine zG<|zd ?_
  cases h
  exact zCB (zF3 Try.isAgg46 Try.sizeOf46 rfl rfl rfl rfl) (zAi rfl rfl) rfl
 refine zU<|zI<|zI<|zC<|zA (zB rfl)<|zA (zj rfl rfl) ?_
 refine zA (zB rfl)<|zb rfl rfl (fun c1=>zv.step (zB rfl))<|zb rfl rfl (fun c2=>zv.step (zBx (zAM rfl c2) rfl))<|zA (zg rfl rfl)<|zA (zB rfl)<|zb rfl rfl (fun c3=>zv.step (zR (k:=0) (o:=0) (m:=10) Try.isAgg46 Try.sizeOf46 rfl rfl rfl rfl rfl)) ?_
 refine zb rfl rfl (fun c4=>zv.step (zB rfl))<|zb rfl rfl (fun c5=>zv.step (zB rfl))<|zQ h fun x2 w2 h=>zDe (g:=25) (s:=(decide (E<0))||(decide (4<E))) (r':=(AV.lit (.bool x2))) rfl rfl (fun c6=>⟨62,_,_,[],[(AV.agg (zO D)),li X,li E],[(AV.agg ([li D.node]++([li D.kind]++([li D.start]++([li D.count]++([li D.min]++([AV.any,AV.any,AV.any,AV.any,AV.any]++[]))))))),li X,li E],(AV.lit (.bool x2)),[],Try.func62,rfl,by kernel_rfl,.fn 62,(zAe (zAM rfl c6) (zAe (zAM rfl c6) (zAe (zAM rfl c6) rfl))),⟨zKo (hd:=([li D.node]++[li D.kind]++[li D.start]++[li D.count]++[li D.min])) (tl:=((cA 5 (eS cI) ([]:List Int) D.free))) rfl,zBC.nr rfl,zBC.nr rfl,trivial⟩,zEN (zIQ c6 w2),.inl rfl,rfl⟩)<|zb rfl rfl (fun c7=>zv.step (zBU (t:=x2) (zAM rfl c7)))<|zA (zg rfl rfl) ?_
 refine zG ?_
 refine zY h rfl (fun b2 h => ?_) (fun b2 h => ?_)
 ·refine zI<|zC<|zA zv9<|za (H':=[.box 46 (zO D),.box 46 (zO (⟨0,0,0,0,0,(List.replicate 5 ([]:List Int))⟩:zW))]) (zT (k:=1) (o:=0) (cs:=([li 0]++([li 0]++([li 0]++([li 0]++([li 0]++((cA 5 (eS cI) ([]:List Int) (List.replicate 5 ([]:List Int)))++[]))))))) (la:=(zO (⟨0,0,0,0,0,(List.replicate 5 ([]:List Int))⟩:zW))) Try.sizeOf46 rfl rfl rfl rfl)<|zA (zD rfl)<|zG ?_
  refine zd ?_
  cases h
  exact zCB (zF3 Try.isAgg46 Try.sizeOf46 rfl rfl rfl rfl) (zAi rfl rfl) rfl
 refine zU ?_
 refine zAA (r:=r) (fun (_:Unit)=>mkE [(1,(li X)),(2,(li E)),(3,(AV.ptr 0 0)),(6,(AV.ptr 1 0))]) (fun _=>[.box 46 (zO D),.box 46 ([li 0]++([li 0]++([li 0]++([li 0]++([li 0]++((cA 5 (eS cI) ([]:List Int) (List.replicate 5 ([]:List Int)))++[]))))))]) (fun _=>zHy D X E) ?_ ?_
 ·
  refine zI<|zC<|zA (zB rfl)<|zA (zD rfl)<|zG<|zV ?_
  refine z9 (σ:=Int) (fun i1=>mkE [(1,(li X)),(2,(li E)),(3,(AV.ptr 0 0)),(6,(AV.ptr 1 0)),(9,(li i1))]) (fun i1=>[.box 46 (zO D),.box 46 ([li 0]++([li 0]++([li 0]++([li 0]++([li 0]++((cA 5 (eS cI) ([]:List Int) (List.replicate 5 ([]:List Int)))++[]))))))]) (fun n0 i1=>zGp D X E n0 i1) X h (fun _=>rfl) (zAd [0,1] rfl rfl (by kernel_rfl)) ?_
  clear h
  intro n0 i1 h
  replace h:zEb D X E (zGp D X E n0) i1=some r:=h
  unfold zEb at h
  refine zI<|zI<|zC<|zA (zB rfl)<|zA (zB rfl)<|zA (zB rfl) ?_
  refine zM h fun b3 h=>zM h fun b4 h=>zA (zGo (a:=1) (b:=E) rfl rfl b3 b4)<|zM h fun b5 h=>zA (zi rfl rfl b5)<|zA (zj rfl rfl) ?_
  refine zG ?_
  refine zY h rfl (fun b6 h => ?_) (fun b6 h => ?_)
  ·refine zU<|zI<|zV<|zI<|zC<|zA (zR (k:=0) (o:=0) (m:=10) Try.isAgg46 Try.sizeOf46 rfl rfl rfl rfl rfl) ?_
   refine zA (zB rfl)<|zQ h fun x5 w5 h=>zZ Try.func66 rfl (by kernel_rfl) (.fn 66) rfl rfl (zJF w5) rfl<|zA (zB rfl)<|zA (zS rfl rfl)<|zA (zS rfl rfl) ?_
   refine zA (zD rfl)<|zA (zD rfl)<|zG<|zI<|zC<|zA (zB rfl) ?_
   refine zA (zBy rfl rfl)<|zG ?_
   refine zY h rfl (fun b7 h => ?_) (fun b7 h => ?_)
   ·refine zI<|zC<|zA zv9<|za (H':=[.box 46 (zO D),.box 46 (zO (⟨0,0,0,0,0,(List.replicate 5 ([]:List Int))⟩:zW))]) (zT (k:=1) (o:=0) (cs:=([li 0]++([li 0]++([li 0]++([li 0]++([li 0]++((cA 5 (eS cI) ([]:List Int) (List.replicate 5 ([]:List Int)))++[]))))))) (la:=(zO (⟨0,0,0,0,0,(List.replicate 5 ([]:List Int))⟩:zW))) Try.sizeOf46 rfl rfl rfl rfl)<|zA (zD rfl)<|zG ?_
    refine zd ?_
    cases h
    exact zCB (zF3 Try.isAgg46 Try.sizeOf46 rfl rfl rfl rfl) (zAi rfl rfl) rfl
   refine zU<|zC<|zA (zB rfl)<|zM h fun b8 h=>zA (zi rfl rfl b8)<|zA (zD rfl) ?_
   refine zG ?_
   exact ⟨(i1+1),zAd [0,1] rfl rfl (by kernel_rfl),h⟩
  refine zAG ?_
  exact ⟨(),zAd [0,1] rfl rfl (by kernel_rfl),h⟩
 clear h
 intro _ h
 unfold zHy at h
 refine zI<|zC<|zA (zR (k:=0) (o:=0) (m:=10) Try.isAgg46 Try.sizeOf46 rfl rfl rfl rfl rfl)<|zQ h fun x3 w3 h=>zHU (cs:=([li x3.node]++([li x3.kind]++([li x3.start]++([li x3.count]++([li x3.min]++((cM 5 3 (5:Int) x3.free)++[]))))))) (la:=[(AV.agg (zO D))]) (la':=[(AV.agg (zO D))]) (S:=[]) Try.func82 rfl (by kernel_rfl) (.fn 82) rfl ⟨zBC.nr rfl,trivial⟩ (zJB w3) (.inl rfl)<|zX (H':=[.box 46 (zO D),.box 46 ([li 0]++([li 0]++([li 0]++([li 0]++([li 0]++((cA 5 (eS cI) ([]:List Int) (List.replicate 5 ([]:List Int)))++[])))))),.val (.agg ([li x3.node]++([li x3.kind]++([li x3.start]++([li x3.count]++([li x3.min]++((cM 5 3 (5:Int) x3.free)++[]))))))),.box 46 ([li 0]++([li 0]++([li 0]++([li 0]++([li 0]++((cA 5 (eS cI) ([]:List Int) (List.replicate 5 ([]:List Int)))++[]))))))]) zv0 ?_
 refine za (H':=[.box 46 (zO D),.box 46 ([li 0]++([li 0]++([li 0]++([li 0]++([li 0]++((cA 5 (eS cI) ([]:List Int) (List.replicate 5 ([]:List Int)))++[])))))),.dead,.box 46 ([li x3.node]++([li x3.kind]++([li x3.start]++([li x3.count]++([li x3.min]++((cM 5 3 (5:Int) x3.free)++[]))))))]) (zDz (k:=3) (o:=0) (j:=2) (cs:=([li 0]++([li 0]++([li 0]++([li 0]++([li 0]++((cA 5 (eS cI) ([]:List Int) (List.replicate 5 ([]:List Int)))++[]))))))) (la:=([li x3.node]++([li x3.kind]++([li x3.start]++([li x3.count]++([li x3.min]++((cM 5 3 (5:Int) x3.free)++[]))))))) Try.sizeOf46 rfl rfl rfl rfl rfl (by decide))<|zG<|zI<|zC<|zA (zB rfl)<|zA (zB rfl) ?_
 refine zQ h fun x4 w4 h=>zEk (k:=3) (la:=[AV.ptr 3 0,li X,li E]) (la':=[AV.ptr 0 0,li X,li E]) (r:=(.tup [])) (S:=[]) (en' := .box 46 ([li x4.node]++([li x4.kind]++([li x4.start]++([li x4.count]++([li x4.min]++((cM 5 3 (5:Int) x4.free)++[]))))))) Try.func52 rfl (by kernel_rfl) (.fn 52) rfl ⟨zC2.ptr,zC2.of (zBC.nr rfl),zC2.of (zBC.nr rfl),trivial⟩ rfl rfl (by kernel_rfl) (by kernel_rfl) (zMu w4) rfl (.inl rfl)<|zG<|zI<|zC<|zAF (zKZ (k:=3) (cs:=([li x4.node]++([li x4.kind]++([li x4.start]++([li x4.count]++([li x4.min]++((cM 5 3 (5:Int) x4.free)++[]))))))) (hd:=([li x4.node]++[li x4.kind]++[li x4.start]++[li x4.count]++[li x4.min]++[])) (tl:=([])) (N:=5) (T:=3) (K:=5) (l:=x4.free) rfl rfl) ?_
 refine zA (zR (k:=3) (o:=0) (m:=10) Try.isAgg46 Try.sizeOf46 rfl rfl rfl rfl rfl)<|za (H':=[.box 46 (zO D),.box 46 (zO (⟨x4.node,x4.kind,x4.start,x4.count,x4.min,x4.free⟩:zW)),.dead,.box 46 ([li x4.node]++([li x4.kind]++([li x4.start]++([li x4.count]++([li x4.min]++((cA 5 (eS cI) ([]:List Int) x4.free)++[]))))))]) (zT (k:=1) (o:=0) (cs:=([li 0]++([li 0]++([li 0]++([li 0]++([li 0]++((cA 5 (eS cI) ([]:List Int) (List.replicate 5 ([]:List Int)))++[]))))))) (la:=(zO (⟨x4.node,x4.kind,x4.start,x4.count,x4.min,x4.free⟩:zW))) Try.sizeOf46 rfl rfl rfl rfl)<|zA (zD rfl)<|zG<|zd ?_
 cases h
 exact zCB (zF3 Try.isAgg46 Try.sizeOf46 rfl rfl rfl rfl) (zAi rfl rfl) rfl
theorem zJR {C:zH} {D:Int} {uI:List Int} {r:zH} (h:zD6 C D uI=some r):AFn Try.prog 47 [AV.ptr 0 0,li D,ls cI uI] [.box 29 ([ls cI C.nodes]++([li C.batch]++([li C.high]++([AV.osl 46 10 (List.map zO C.zones)]++([AV.osl 50 1 (List.map zJ C.caches)]++[])))))] (.tup []) [.box 29 ([ls cI r.nodes]++([li r.batch]++([li r.high]++([AV.osl 46 10 (List.map zO r.zones)]++([AV.osl 50 1 (List.map zJ r.caches)]++[])))))]:=by
 refine zGJ Try.func47 rfl Try.ntmps47 Try.results47 rfl ?_
 unfold zD6 at h
 refine zI<|zC<|zA (zB rfl)<|zA (ze Try.underlying22 rfl)<|zA (zB rfl)<|zG ?_
 refine zV<|z9 (σ:=Int×(List zW)) (fun (i1,l1)=>mkE [(0,(AV.ptr 0 0)),(1,(li D)),(10,(ls cI uI)),(11,(li (uI.length:Int))),(12,(li i1))]) (fun (i1,l1)=>[.box 29 [ls cI C.nodes,li C.batch,li C.high,AV.osl 46 10 (List.map zO l1),AV.osl 50 1 (List.map zJ C.caches)]]) (fun n0 (i1,l1)=>zDF C D uI n0 i1 l1) (0,C.zones) h (fun _=>rfl) (zAd [0] rfl rfl (by kernel_rfl)) ?_
 clear h
 rintro n0 ⟨i1,l1⟩ h
 replace h:zCZ C D uI (zDF C D uI n0) i1 l1=some r:=h
 unfold zCZ at h
 refine zI<|zC<|zA (zj rfl rfl)<|zG<|zI ?_
 refine zY h rfl (fun b1 h => ?_) (fun b1 h => ?_)
 ·refine zU ?_
  refine zAA (r:=r) (fun (l2:List zW)=>mkE [(0,(AV.ptr 0 0)),(1,(li D)),(10,(ls cI uI)),(11,(li (uI.length:Int))),(12,(li i1))]) (fun l2=>[.box 29 [ls cI C.nodes,li C.batch,li C.high,AV.osl 46 10 (List.map zO l2),AV.osl 50 1 (List.map zJ C.caches)]]) (fun l2=>zEI (zDF C D uI n0) i1 l2) ?_ ?_
  ·
   refine zV<|zI<|zC<|zM h fun b3 h=>zA (zm Try.underlying22 Try.sizeOf3 (fun _=>rfl) rfl rfl b3)<|zA (zp (o:=0) Try.isAgg3 rfl rfl) ?_
   refine zA (zD rfl)<|zG<|zI<|zC<|zA (zB rfl)<|zA (zAY rfl) ?_
   refine zA (zL Try.underlying29 rfl rfl Try.sizeOf26 rfl)<|zAF (zBq (k:=0) (o:=3) (t':=46) (sz:=10) (rows:=List.map zO l1) rfl rfl)<|zA (zN Try.isAgg26 rfl rfl rfl rfl)<|zA (zB rfl)<|zM h fun b4 h=>zA (zAN (f:=zO) (l:=l1) (i:=D) Try.underlying26 Try.sizeOf46 rfl rfl rfl b4) ?_
   refine zA (zC9 (f:=zO) (l:=l1) (i:=D) (c:=0) (q:=10) (la:=(zO (at_ l1 D))) Try.isAgg46 Try.sizeOf46 rfl rfl (by first | rfl | omega) b4 rfl rfl rfl)<|zA (zB rfl)<|zQ h fun x1 w1 h=>zZ Try.func81 rfl (by kernel_rfl) (.fn 81) rfl rfl (zPS w1) rfl<|zA (zB rfl)<|zA (zS rfl rfl) ?_
   refine zA (zS rfl rfl)<|zX (H':=[.box 29 [ls cI C.nodes,li C.batch,li C.high,AV.hd 1,AV.osl 50 1 (List.map zJ C.caches)],.vec 46 10 (List.map zO l1),.box 46 (zO ⟨0,0,0,0,0,(List.replicate 5 ([]:List Int))⟩)]) zv0<|za (H':=[.box 29 [ls cI C.nodes,li C.batch,li C.high,AV.hd 1,AV.osl 50 1 (List.map zJ C.caches)],.vec 46 10 (List.map zO l1),.box 46 (zO x1.1)]) (zT (k:=2) (o:=0) (cs:=(zO ⟨0,0,0,0,0,(List.replicate 5 ([]:List Int))⟩)) (la:=(zO x1.1)) Try.sizeOf46 rfl rfl rfl rfl)<|zA (zD rfl)<|zG<|zI ?_
   refine zC<|zA (zB rfl)<|zA (zBO rfl rfl)<|zG ?_
   refine zY h rfl (fun b5 h => ?_) (fun b5 h => ?_)
   ·refine zBe (n:=38) (m:=1) [.head 0 0,.head 0 0,.head 0 0,.head 0 0,.head 0 0,.head 0 0,.head 0 0,.tail 0] [7] [AV.ptr 0 0,AV.ptr 0 0,AV.ptr 0 3,AV.hd 1,li D,(AV.agg (zO x1.1)),(AV.ptr 1 (D.toNat*10)),.any] [[.box 29 [ls cI C.nodes,li C.batch,li C.high,AV.hd 1,AV.osl 50 1 (List.map zJ C.caches)],.vec 46 10 (List.map zO l1),.box 46 (zO x1.1)],[.box 29 [ls cI C.nodes,li C.batch,li C.high,AV.hd 1,AV.osl 50 1 (List.map zJ C.caches)],.vec 46 10 (List.map zO (l1.set D.toNat x1.1)),.box 46 (zO x1.1)]] (by kernel_rfl) (by kernel_rfl) ⟨D1 fun e s p=>zB (s 0 rfl),D1 fun e s p=>zAY p.1,D1 fun e s p=>zL (k:=0) (o:=0) (off:=3) Try.underlying29 rfl rfl Try.sizeOf26 p.1,D1 fun e s p=>zN (k:=0) (o:=3) Try.isAgg26 p.1 rfl rfl rfl,D1 fun e s p=>zB (s 1 rfl),D1 fun e s p=>zR (k:=2) (o:=0) (m:=10) Try.isAgg46 Try.sizeOf46 (s 8 rfl) rfl rfl rfl rfl,D1 fun e s p=>zAN (f:=zO) (l:=l1) (i:=D) Try.underlying26 Try.sizeOf46 p.2.2.2.2.2.1 rfl p.2.2.2.2.2.2.1 b4,?_,trivial⟩ ?_
    ·
     intro e8 s8 p8
     refine za (H':=[.box 29 [ls cI C.nodes,li C.batch,li C.high,AV.hd 1,AV.osl 50 1 (List.map zJ C.caches)],.vec 46 10 (List.map zO (l1.set D.toNat x1.1)),.box 46 (zO x1.1)]) (zC3 (k:=1) (o:=(D.toNat*10)) (f:=zO) (l:=l1) (i:=D) (z:=x1.1) Try.sizeOf46 (fun _=>rfl) (by exact p8.1) rfl (by first | rfl | omega) b4 (by exact p8.2.2.2.2.2.2.2.1) rfl) ?_
     exact zG ⟨fun _=>rfl,rfl⟩
    intro e9 s9 hq1
    exact ⟨l1.set D.toNat x1.1,Rep.trans (zCl (l:=[(0,(AV.ptr 0 0)),(1,(li D)),(10,(ls cI uI)),(11,(li (uI.length:Int))),(12,(li i1))]) ⟨s9 0 rfl,s9 1 rfl,s9 10 rfl,s9 11 rfl,s9 12 rfl,trivial⟩) (Rep.trans (zAR (k:=0) (j:=1) (o:=3) (cs:=[ls cI C.nodes,li C.batch,li C.high,AV.hd 1,AV.osl 50 1 (List.map zJ C.caches)]) rfl rfl rfl rfl) (zAd [0] (l:=[(0,(AV.ptr 0 0)),(1,(li D)),(10,(ls cI uI)),(11,(li (uI.length:Int))),(12,(li i1))]) rfl rfl (by kernel_rfl))),h⟩
   refine zU ?_
   exact ⟨l1,Rep.trans (zAR (k:=0) (j:=1) (o:=3) rfl rfl rfl rfl) (zAd [0] (l:=[(0,(AV.ptr 0 0)),(1,(li D)),(10,(ls cI uI)),(11,(li (uI.length:Int))),(12,(li i1))]) rfl rfl (by kernel_rfl)),h⟩
  clear h
  intro l2 h
  unfold zEI at h
  refine zC<|zM h fun b2 h=>zA (zi rfl rfl b2)<|zA (zB rfl)<|zG ?_
  exact ⟨((i1+1),l2),zAd [0] rfl rfl (by kernel_rfl),h⟩
 refine zAG ?_
 cases h
 exact ⟨mkE [],[.box 29 [ls cI C.nodes,li C.batch,li C.high,AV.osl 46 10 (List.map zO l1),AV.osl 50 1 (List.map zJ C.caches)]],zAd [0] rfl rfl (by kernel_rfl),zNy rfl⟩
theorem zGh {C:zH} {uR:Int} {D:Int} {r:zH} (h:zDM C uR D=some r):AFn Try.prog 44 [AV.ptr 0 0,li uR,li D] [.box 29 ([ls cI C.nodes]++([li C.batch]++([li C.high]++([AV.osl 46 10 (List.map zO C.zones)]++([AV.osl 50 1 (List.map zJ C.caches)]++[])))))] (.tup []) [.box 29 ([ls cI r.nodes]++([li r.batch]++([li r.high]++([AV.osl 46 10 (List.map zO r.zones)]++([AV.osl 50 1 (List.map zJ r.caches)]++[])))))]:=by
 refine zGJ Try.func44 rfl Try.ntmps44 Try.results44 rfl ?_
 unfold zDM at h
 refine zI<|zC<|zA (zB rfl)<|zA (zAY rfl)<|zA (zL Try.underlying29 rfl rfl Try.sizeOf27 rfl)<|zAF (zBq (k:=0) (o:=4) (t':=50) (sz:=1) (rows:=List.map zJ C.caches) rfl rfl) ?_
 refine zA (zN Try.isAgg27 rfl rfl rfl rfl)<|zA (zB rfl)<|zM h fun b1 h=>zA (zAN (f:=zJ) (l:=C.caches) (i:=uR) Try.underlying27 Try.sizeOf50 rfl rfl rfl b1)<|zA (zC9 (f:=zJ) (l:=C.caches) (i:=uR) (c:=0) (q:=1) (la:=(zJ (at_ C.caches uR))) Try.isAgg50 Try.sizeOf50 rfl rfl (by first | rfl | omega) b1 rfl rfl rfl)<|zA (zB rfl) ?_
 refine zQ h fun x1 w1 h=>zZ Try.func78 rfl (by kernel_rfl) (.fn 78) rfl rfl (zNk w1) rfl<|zA (zB rfl)<|zA (zS rfl rfl)<|zA (zS rfl rfl)<|zA (zS rfl rfl) ?_
 refine zX (H':=[.box 29 [ls cI C.nodes,li C.batch,li C.high,AV.osl 46 10 (List.map zO C.zones),AV.hd 1],.vec 50 1 (List.map zJ C.caches),.box 50 [(ls (cS cI) ([]:List (List Int)))]]) zv1<|za (H':=[.box 29 [ls cI C.nodes,li C.batch,li C.high,AV.osl 46 10 (List.map zO C.zones),AV.hd 1],.vec 50 1 (List.map zJ C.caches),.box 50 (zJ x1.1)]) (zT (k:=2) (o:=0) (cs:=[(ls (cS cI) ([]:List (List Int)))]) (la:=(zJ x1.1)) Try.sizeOf50 rfl rfl rfl rfl)<|zA (zD rfl)<|zA (zD rfl)<|zG<|zI ?_
 refine zC<|zA (zB rfl)<|zA (zBO rfl rfl)<|zG ?_
 refine zY h rfl (fun b2 h => ?_) (fun b2 h => ?_)
 ·refine zI ?_
  refine zBe (n:=35) (m:=1) [.head 0 0,.head 0 0,.head 0 0,.head 0 0,.head 0 0,.head 0 0,.head 0 0,.tail 0] [7] [AV.ptr 0 0,AV.ptr 0 0,AV.ptr 0 4,AV.hd 1,li uR,(AV.agg (zJ x1.1)),(AV.ptr 1 (uR.toNat*1)),.any] [[.box 29 [ls cI C.nodes,li C.batch,li C.high,AV.osl 46 10 (List.map zO C.zones),AV.hd 1],.vec 50 1 (List.map zJ C.caches),.box 50 (zJ x1.1)],[.box 29 [ls cI C.nodes,li C.batch,li C.high,AV.osl 46 10 (List.map zO C.zones),AV.hd 1],.vec 50 1 (List.map zJ (C.caches.set uR.toNat x1.1)),.box 50 (zJ x1.1)]] (by kernel_rfl) (by kernel_rfl) ⟨D1 fun e s p=>zB (s 0 rfl),D1 fun e s p=>zAY p.1,D1 fun e s p=>zL (k:=0) (o:=0) (off:=4) Try.underlying29 rfl rfl Try.sizeOf27 p.1,D1 fun e s p=>zN (k:=0) (o:=4) Try.isAgg27 p.1 rfl rfl rfl,D1 fun e s p=>zB (s 1 rfl),D1 fun e s p=>zR (k:=2) (o:=0) (m:=1) Try.isAgg50 Try.sizeOf50 (s 6 rfl) rfl rfl rfl rfl,D1 fun e s p=>zAN (f:=zJ) (l:=C.caches) (i:=uR) Try.underlying27 Try.sizeOf50 p.2.2.2.2.2.1 rfl p.2.2.2.2.2.2.1 b1,?_,trivial⟩ ?_
  ·
   intro e8 s8 p8
   refine za (H':=[.box 29 [ls cI C.nodes,li C.batch,li C.high,AV.osl 46 10 (List.map zO C.zones),AV.hd 1],.vec 50 1 (List.map zJ (C.caches.set uR.toNat x1.1)),.box 50 (zJ x1.1)]) (zC3 (k:=1) (o:=(uR.toNat*1)) (f:=zJ) (l:=C.caches) (i:=uR) (z:=x1.1) Try.sizeOf50 (fun _=>rfl) (by exact p8.1) rfl (by first | rfl | omega) b1 (by exact p8.2.2.2.2.2.2.2.1) rfl) ?_
   exact zG ⟨fun _=>rfl,rfl⟩
  intro e9 s9 hq1
  refine zAz (zCl (l:=[(0,(AV.ptr 0 0)),(2,(li D)),(7,(ls cI x1.2.1))]) ⟨s9 0 rfl,s9 2 rfl,s9 7 rfl,trivial⟩)<|zC<|zA (zB (av:=(AV.ptr 0 0)) rfl)<|zA (zB (av:=(li D)) rfl)<|zA (zB (av:=(ls cI x1.2.1)) rfl)<|zAF (zAR (k:=0) (j:=1) (o:=4) (cs:=[ls cI C.nodes,li C.batch,li C.high,AV.osl 46 10 (List.map zO C.zones),AV.hd 1]) rfl rfl rfl rfl) ?_
  refine zQ h fun x2 w2 h=>zEk (k:=0) (la:=[AV.ptr 0 0,li D,ls cI x1.2.1]) (la':=[AV.ptr 0 0,li D,ls cI x1.2.1]) (r:=(.tup [])) (S:=[]) (en' := .box 29 [ls cI x2.nodes,li x2.batch,li x2.high,AV.osl 46 10 (List.map zO x2.zones),AV.osl 50 1 (List.map zJ x2.caches)]) Try.func47 rfl (by kernel_rfl) (.fn 47) rfl ⟨zC2.ptr,zC2.of (zBC.nr rfl),zC2.of (zBC.nr rfl),trivial⟩ rfl rfl (by kernel_rfl) (by kernel_rfl) (zJR w2) rfl (.inl rfl)<|zG ?_
  cases h
  exact ⟨mkE [],[.box 29 [ls cI x2.nodes,li x2.batch,li x2.high,AV.osl 46 10 (List.map zO x2.zones),AV.osl 50 1 (List.map zJ x2.caches)]],zAd [0] rfl rfl (by kernel_rfl),zNy rfl⟩
 refine zU ?_
 cases h
 exact ⟨mkE [],[.box 29 [ls cI C.nodes,li C.batch,li C.high,AV.osl 46 10 (List.map zO C.zones),AV.osl 50 1 (List.map zJ C.caches)]],Rep.trans (zAR (k:=0) (j:=1) (o:=4) rfl rfl rfl rfl) (zAd [0] (l:=[]) rfl rfl (by kernel_rfl)),zNy rfl⟩
theorem zOX {J:zK} {R:Int} {r:zK×Int×Int} (h:zIR J R=some r):PFn Try.prog 45 [(AV.agg (zJ J)),li R] (AV.tup [(AV.agg (zJ r.1)),li r.2.1,li r.2.2]):=by
 refine zq Try.func45 rfl Try.ntmps45 Try.results45 rfl ?_
 unfold zIR at h
 refine zI<|zC<|zX (H':=[.box 50 (zJ J)]) (z6 (t:=50) rfl)<|zX (H':=[.box 50 (zJ J),.box 50 [(ls (cS cI) ([]:List (List Int)))]]) zv1<|zA (zD rfl)<|zA (zD rfl) ?_
 refine zG<|zI<|zI<|zC<|zA (zR (k:=0) (o:=0) (m:=1) Try.isAgg50 Try.sizeOf50 rfl rfl rfl rfl rfl)<|zA (zB rfl) ?_
 refine zQ h fun x1 w1 h=>zZ Try.func79 rfl (by kernel_rfl) (.fn 79) rfl rfl (zGZ w1) rfl<|zA (zD rfl)<|zG<|zI<|zC ?_
 refine zA (zB rfl)<|zA (zy rfl rfl)<|zG ?_
 refine zY h rfl (fun b1 h => ?_) (fun b1 h => ?_)
 ·refine zI<|zC<|zA zv2<|zA (zB rfl)<|za (H':=[.box 50 (zJ J),.box 50 (zJ (⟨([]:List (List Int))⟩:zK))]) (zT (k:=1) (o:=0) (cs:=[(ls (cS cI) ([]:List (List Int)))]) (la:=(zJ (⟨([]:List (List Int))⟩:zK))) Try.sizeOf50 rfl rfl rfl rfl)<|zA (zD rfl) ?_
  refine zA (zD rfl)<|zG<|zd ?_
  cases h
  exact zED (zF3 Try.isAgg50 Try.sizeOf50 rfl rfl rfl rfl) (zAi rfl rfl) (zAi rfl rfl) rfl
 refine zU<|zI<|zC<|zA (zL Try.underlying50 rfl rfl Try.sizeOf48 rfl)<|zA (zN Try.isAgg48 rfl rfl rfl rfl)<|zA (zB rfl) ?_
 refine zM h fun b2 h=>zA (zm Try.underlying48 Try.sizeOf22 (fun _=>rfl) rfl rfl b2)<|zA (zp (o:=0) Try.isAgg22 rfl rfl)<|zA (zD rfl)<|zG<|zI ?_
 refine zI<|zC<|zA (zB rfl)<|zA (ze Try.underlying22 rfl)<|zA (zBO rfl rfl)<|zG ?_
 refine zY h rfl (fun b3 h => ?_) (fun b3 h => ?_)
 ·refine zI<|zC<|zA zv2<|za (H':=[.box 50 (zJ J),.box 50 (zJ (⟨([]:List (List Int))⟩:zK))]) (zT (k:=1) (o:=0) (cs:=[(ls (cS cI) ([]:List (List Int)))]) (la:=(zJ (⟨([]:List (List Int))⟩:zK))) Try.sizeOf50 rfl rfl rfl rfl)<|zA (zD rfl)<|zA (zD rfl) ?_
  refine zG<|zd ?_
  cases h
  exact zED (zF3 Try.isAgg50 Try.sizeOf50 rfl rfl rfl rfl) (zAi rfl rfl) (zAi rfl rfl) rfl
 refine zU<|zI<|zC<|zA (zB rfl)<|zA (ze Try.underlying22 rfl)<|zM h fun b4 h => ?_
 refine zA (zDX rfl rfl b4)<|zA (zD rfl)<|zG<|zI<|zM h fun b5 h=>zQ h fun x2 w2 h => ?_
 refine zM h fun b6 h => ?_
 refine zBe (n:=39) (m:=0) [.head 0 0,.head 0 0,.head 0 0,.head 0 0,.head 0 0,.head 0 0,.head 0 1,.head 0 1,.head 0 1,.head 0 1,.tail 0,.head 1 1,.head 1 1] [10] [(AV.agg (zJ J)),li R,(ls cI (at_ J.lists R)),(li (((at_ J.lists R).length:Int) - 1)),(ls cI (zE9 (at_ J.lists R) 0 (((at_ J.lists R).length:Int) - 1))),(AV.agg (zJ x2)),(ls cI (at_ J.lists R)),(li (((at_ J.lists R).length:Int) - 1)),(AV.rp (cI (at_ (at_ J.lists R) (((at_ J.lists R).length:Int) - 1))) 0),(li (at_ (at_ J.lists R) (((at_ J.lists R).length:Int) - 1))),.any,(li (at_ (at_ J.lists R) (((at_ J.lists R).length:Int) - 1))),li 0] [[.box 50 (zJ J),.box 50 [(ls (cS cI) ([]:List (List Int)))]],[.box 50 (zJ J),.box 50 (zJ x2)]] (by kernel_rfl) (by kernel_rfl) ⟨D1 fun e s p=>zR (k:=0) (o:=0) (m:=1) Try.isAgg50 Try.sizeOf50 (s 2 rfl) rfl rfl rfl rfl,D1 fun e s p=>zB (s 1 rfl),D1 fun e s p=>zB (s 8 rfl),D1 fun e s p=>zB (s 9 rfl),D1 fun e s p=>zNm (hi:=((at_ J.lists R).length:Int) - 1) (f:=cI) (l:=at_ J.lists R) Try.underlying22 Try.sizeOf3 (fun _=>rfl) p.1 p.2.1 b5,?_,⟨D1 fun e s p=>zB (s 8 rfl),D1 fun e s p=>zB (s 8 rfl)⟩,⟨D1 fun e s p=>zB (s 9 rfl),D1 fun e s p=>zB (s 9 rfl)⟩,⟨D1 fun e s p=>zm (f:=cI) (l:=at_ J.lists R) (i:=((at_ J.lists R).length:Int) - 1) Try.underlying22 Try.sizeOf3 (fun _=>rfl) p.1 p.2.1 b6,D1 fun e s p=>zm (f:=cI) (l:=at_ J.lists R) (i:=((at_ J.lists R).length:Int) - 1) Try.underlying22 Try.sizeOf3 (fun _=>rfl) p.1 p.2.1 b6⟩,⟨D1 fun e s p=>zp (o:=0) Try.isAgg3 p.1 rfl,D1 fun e s p=>zp (o:=0) Try.isAgg3 p.1 rfl⟩,?_,D1 fun e s p=>zD p.2.2.2.2.2.2.2.2.2.2.2.1,D1 fun e s p=>zD rfl,trivial⟩ ?_
 ·
  intro e6 s6 p6
  refine zZ (r:=(AV.agg (zJ x2))) (la:=[(AV.agg (zJ J)),li R,(ls cI (zE9 (at_ J.lists R) 0 (((at_ J.lists R).length:Int) - 1)))]) Try.func80 rfl (by kernel_rfl) (.fn 80) (zAe p6.1 (zAe p6.2.1 (zAe p6.2.2.1 rfl))) rfl (zEK w2) rfl ?_
  exact zG ⟨fun _=>rfl,rfl⟩
 ·
  intro e15 s15 p15
  refine za (H':=[.box 50 (zJ J),.box 50 (zJ x2)]) (zT (k:=1) (o:=0) (cs:=[(ls (cS cI) ([]:List (List Int)))]) (la:=(zJ x2)) Try.sizeOf50 (by exact (s15 4 rfl)) rfl rfl (by exact p15.2.2.2.2.2.2.2.1)) ?_
  exact zG ⟨fun _=>rfl,rfl⟩
 intro e18 s18 hq1
 refine zAz (zCl (l:=[(4,(AV.ptr 1 0)),(5,(li (at_ (at_ J.lists R) (((at_ J.lists R).length:Int) - 1)))),(6,(li 0))]) ⟨s18 4 rfl,(hq1 11 (by decide) (by decide)),(hq1 12 (by decide) (by decide)),trivial⟩)<|zd ?_
 cases h
 exact zED (zF3 Try.isAgg50 Try.sizeOf50 rfl rfl rfl rfl) (zAi rfl rfl) (zAi rfl rfl) rfl
theorem zGa {A:zH} {B:Int} {G:Bool} {U:Bool} {r:zH×Int×Int} (h:zBm A B G U=some r):PFn Try.prog 17 [(AV.agg (zF A)),li B,(AV.lit (.bool G)),(AV.lit (.bool U))] (AV.tup [(AV.agg (zF r.1)),li r.2.1,li r.2.2]):=by
 refine zq Try.func17 rfl Try.ntmps17 Try.results17 rfl ?_
 unfold zBm at h
 refine zI<|zC<|zX (H':=[.box 29 (zF A)]) (z6 (t:=29) rfl)<|zX (H':=[.box 29 (zF A),.box 29 (zF ⟨[],0,0,[],[]⟩)]) zv3<|zA (zD rfl)<|zA (zD rfl) ?_
 refine zG<|zI<|zI<|zC<|zA (zR (k:=0) (o:=0) (m:=5) Try.isAgg29 Try.sizeOf29 rfl rfl rfl rfl rfl)<|zQ h fun x1 w1 h => ?_
 refine zZ Try.func15 rfl (by kernel_rfl) (.fn 15) rfl rfl (zA4 w1) rfl<|zA (zD rfl)<|zG<|zI<|zC<|zA (zB rfl) ?_
 refine zA (zy rfl rfl)<|zG ?_
 refine zY h rfl (fun b1 h => ?_) (fun b1 h => ?_)
 ·refine zI<|zC<|zA zP3<|zA (zB rfl)<|za (H':=[.box 29 (zF A),.box 29 (zF (⟨([]:List Int),0,0,([]:List zW),([]:List zK)⟩:zH))]) (zT (k:=1) (o:=0) (cs:=(zF ⟨[],0,0,[],[]⟩)) (la:=(zF (⟨([]:List Int),0,0,([]:List zW),([]:List zK)⟩:zH))) Try.sizeOf29 rfl rfl rfl rfl)<|zA (zD rfl) ?_
  refine zA (zD rfl)<|zG<|zd ?_
  cases h
  exact zED (zF3 Try.isAgg29 Try.sizeOf29 rfl rfl rfl rfl) (zAi rfl rfl) (zAi rfl rfl) rfl
 refine zU<|zI<|zI<|zC<|zA (zB rfl)<|zA (zj rfl rfl) ?_
 refine zA (zB rfl)<|zb rfl rfl (fun c1=>zv.step (zB rfl))<|zb rfl rfl (fun c2=>zv.step (zL Try.underlying29 rfl rfl Try.sizeOf22 rfl))<|zb rfl rfl (fun c3=>zv.step (zN Try.isAgg22 (zAM rfl c3) rfl rfl rfl))<|zb rfl rfl (fun c4=>zv.step (ze Try.underlying22 (zAM rfl c4)))<|zb rfl rfl (fun c5=>zv.step (zBy (zAM rfl c5) (zAM rfl c5))) ?_
 refine zA (zg rfl rfl)<|zG ?_
 refine zY h rfl (fun b2 h => ?_) (fun b2 h => ?_)
 ·refine zI<|zC<|zA zP3<|za (H':=[.box 29 (zF A),.box 29 (zF (⟨([]:List Int),0,0,([]:List zW),([]:List zK)⟩:zH))]) (zT (k:=1) (o:=0) (cs:=(zF ⟨[],0,0,[],[]⟩)) (la:=(zF (⟨([]:List Int),0,0,([]:List zW),([]:List zK)⟩:zH))) Try.sizeOf29 rfl rfl rfl rfl)<|zA (zD rfl)<|zA (zD rfl) ?_
  refine zG<|zd ?_
  cases h
  exact zED (zF3 Try.isAgg29 Try.sizeOf29 rfl rfl rfl rfl) (zAi rfl rfl) (zAi rfl rfl) rfl
 refine zU<|zI<|zM h fun b3 h=>zQ h fun x2 w2 h => ?_
 refine zBe (n:=131) (m:=0) [.head 0 0,.head 0 0,.head 0 0,.head 0 0,.head 0 0,.head 0 0,.head 0 0,.head 0 0,.head 0 0,.head 0 0,.head 0 0,.head 0 0,.head 0 0,.head 0 0] [] [AV.ptr 0 3,ls zO A.zones,AV.ptr 0 0,ls cI A.nodes,li B,(AV.rp (cI (at_ A.nodes B)) 0),(li (at_ A.nodes B)),(AV.lit (.bool G)),(AV.tup [ls cI x2.1,li x2.2]),(AV.tup [ls cI x2.1,li x2.2]),ls cI x2.1,li x2.2,ls cI x2.1,li x2.2] [[.box 29 (zF A),.box 29 (zF ⟨[],0,0,[],[]⟩)]] (by kernel_rfl) (by kernel_rfl) ⟨D1 fun e s p=>zL (k:=0) (o:=0) (off:=3) Try.underlying29 rfl rfl Try.sizeOf26 (s 4 rfl),D1 fun e s p=>zN (k:=0) (o:=3) Try.isAgg26 p.1 rfl rfl rfl,D1 fun e s p=>zL (k:=0) (o:=0) (off:=0) Try.underlying29 rfl rfl Try.sizeOf22 (s 4 rfl),D1 fun e s p=>zN (k:=0) (o:=0) Try.isAgg22 p.1 rfl rfl rfl,D1 fun e s p=>zB (s 1 rfl),D1 fun e s p=>zm (f:=cI) (l:=A.nodes) (i:=B) Try.underlying22 Try.sizeOf3 (fun _=>rfl) p.1 p.2.1 b3,D1 fun e s p=>zp (o:=0) Try.isAgg3 p.1 rfl,D1 fun e s p=>zB (s 2 rfl),?_,D1 fun e s p=>zB p.1,D1 fun e s p=>zS p.1 rfl,D1 fun e s p=>zS p.1 rfl,D1 fun e s p=>zD p.2.2.2.2.2.2.2.2.2.2.2.2.1,D1 fun e s p=>zD p.2.2.2.2.2.2.2.2.2.2.2.2.2.1,trivial⟩ ?_
 ·
  intro e9 s9 p9
  refine zZ (r:=(AV.tup [ls cI x2.1,li x2.2])) (la:=[ls zO A.zones,(li (at_ A.nodes B)),(AV.lit (.bool G))]) Try.func40 rfl (by kernel_rfl) (.fn 40) (zAe p9.1 (zAe p9.2.1 (zAe p9.2.2.1 rfl))) rfl (zJS w2) rfl ?_
  exact zG ⟨fun _=>rfl,rfl⟩
 intro e15 s15 hq1
 refine zAz (zCl (l:=[(1,(li B)),(3,(AV.lit (.bool U))),(4,(AV.ptr 0 0)),(8,(AV.ptr 1 0)),(12,(ls cI x2.1))]) ⟨s15 1 rfl,s15 3 rfl,s15 4 rfl,s15 8 rfl,(hq1 12 (by decide) (by decide)),trivial⟩) ?_
 refine zAA (r:=r) (fun (_:Unit)=>mkE [(8,(AV.ptr 0 0))]) (fun _=>[.box 29 (zF ⟨[],0,0,[],[]⟩)]) (fun _=>zGf ) ?_ ?_
 ·
  refine zI<|zC<|zA (zB rfl)<|zA (ze Try.underlying22 rfl)<|zA (zB rfl)<|zG ?_
  refine zV<|z9 (σ:=Int) (fun i1=>mkE [(1,(li B)),(3,(AV.lit (.bool U))),(4,(AV.ptr 0 0)),(8,(AV.ptr 1 0)),(49,(ls cI x2.1)),(50,(li (x2.1.length:Int))),(51,(li i1))]) (fun i1=>[.box 29 (zF A),.box 29 (zF ⟨[],0,0,[],[]⟩)]) (fun n0 i1=>zA3 A B U x2 n0 i1) 0 h (fun _=>rfl) (zAd [0,1] rfl rfl (by kernel_rfl)) ?_
  clear h
  intro n0 i1 h
  replace h:zBQ A B U x2 (zA3 A B U x2 n0) i1=some r:=h
  unfold zBQ at h
  refine zI<|zC<|zA (zj rfl rfl)<|zG<|zI ?_
  refine zY h rfl (fun b4 h => ?_) (fun b4 h => ?_)
  ·refine zU ?_
   refine zAA (r:=r) (fun (_:Unit)=>mkE [(1,(li B)),(3,(AV.lit (.bool U))),(4,(AV.ptr 0 0)),(8,(AV.ptr 1 0)),(49,(ls cI x2.1)),(50,(li (x2.1.length:Int))),(51,(li i1))]) (fun _=>[.box 29 (zF A),.box 29 (zF ⟨[],0,0,[],[]⟩)]) (fun _=>zDp (zA3 A B U x2 n0) i1) ?_ ?_
   ·
    refine zV<|zI<|zC<|zM h fun b6 h=>zA (zm Try.underlying22 Try.sizeOf3 (fun _=>rfl) rfl rfl b6)<|zA (zp (o:=0) Try.isAgg3 rfl rfl) ?_
    refine zA (zD rfl)<|zG<|zI<|zI<|zC<|zA (zB rfl) ?_
    refine zA (zB rfl)<|z5 rfl rfl (fun c6=>zv.step (zR (k:=0) (o:=0) (m:=5) Try.isAgg29 Try.sizeOf29 rfl rfl rfl rfl rfl))<|z5 rfl rfl (fun c7=>zv.step (zB rfl))<|zQ h fun x3 w3 h=>zGE (g:=56) (s:=U) (r':=(li x3)) rfl rfl (fun c8=>⟨41,_,_,[],[(AV.agg (zF A)),(li (at_ x2.1 i1))],[(AV.agg (zF A)),(li (at_ x2.1 i1))],li x3,[],Try.func41,rfl,by kernel_rfl,.fn 41,(zAe (zAM rfl c8) (zAe (zAM rfl c8) rfl)),⟨zBC.nr rfl,zBC.nr rfl,trivial⟩,zGj (zIQ c8 w3),.inl rfl,rfl⟩)<|z5 rfl rfl (fun c9=>zv.step (zBO (zAM rfl c9) rfl)) ?_
    refine zA (zAH (j := .lit undef) rfl rfl)<|zA (zB rfl)<|zb rfl rfl (fun c10=>zv.step (zB rfl))<|zb rfl rfl (fun c11=>zv.step (zBU (t:=U) (zAM rfl c11)))<|zb rfl rfl (fun c12=>zv.step (zB (zAM rfl c12)))<|zO2 (g:=65) (s' := !(U&&(decide (x3=0)))) (s := !U) rfl rfl (fun c13=>zv.step (zR (k:=0) (o:=0) (m:=5) Try.isAgg29 Try.sizeOf29 rfl rfl rfl rfl rfl)) ?_
    refine zO2 (g:=65) (s' := !(U&&(decide (x3=0)))) (s := !U) rfl rfl (fun c14=>zv.step (zB rfl))<|zQ h fun x4 w4 h=>zOC (g:=65) (s' := !(U&&(decide (x3=0)))) (s := !U) (r':=(li x4)) rfl rfl (fun c15=>⟨39,_,_,[],[(AV.agg (zF A)),(li (at_ x2.1 i1))],[(AV.agg (zF A)),(li (at_ x2.1 i1))],li x4,[],Try.func39,rfl,by kernel_rfl,.fn 39,(zAe (zAM rfl c15) (zAe (zAM rfl c15) rfl)),⟨zBC.nr rfl,zBC.nr rfl,trivial⟩,zFc (zIQ c15 w4),.inl rfl,rfl⟩)<|zO2 (g:=65) (s' := !(U&&(decide (x3=0)))) (s := !U) rfl rfl (fun c16=>zv.step (zj (zAM rfl c16) rfl))<|zb rfl rfl (fun c17=>zv.step (zAH (j := .lit undef) (zAM rfl c17) (zRW (c := !(U&&(decide (x3=0)))) (d := !U) (a:=(AV.lit (.bool (decide (x4<1))))) (j := .lit undef) rfl c17)))<|zA (zg rfl rfl) ?_
    refine zG ?_
    refine zY h rfl (fun b7 h => ?_) (fun b7 h => ?_)
    ·refine zAG ?_
     exact ⟨(),zAd [0,1] rfl rfl (by kernel_rfl),h⟩
    refine zU<|zI<|zC<|zA (zR (k:=0) (o:=0) (m:=5) Try.isAgg29 Try.sizeOf29 rfl rfl rfl rfl rfl)<|zQ h fun x5 w5 h=>zHU (cs:=[ls cI x5.nodes,li x5.batch,li x5.high,AV.osl 46 10 (List.map zO x5.zones),AV.osl 50 1 (List.map zAQ x5.caches)]) (la:=[(AV.agg (zF A))]) (la':=[(AV.agg (zF A))]) (S:=[]) Try.func42 rfl (by kernel_rfl) (.fn 42) rfl ⟨zBC.nr rfl,trivial⟩ (zDm w5) (.inl rfl) ?_
    refine zAF (zLo (k:=2) (o:=4) (cs:=[ls cI x5.nodes,li x5.batch,li x5.high,AV.osl 46 10 (List.map zO x5.zones),AV.osl 50 1 (List.map zAQ x5.caches)]) (rows':=List.map zJ x5.caches) rfl rfl (zHQ (fun x=>zEV x)))<|zX (H':=[.box 29 (zF A),.box 29 (zF ⟨[],0,0,[],[]⟩),.val (.agg [ls cI x5.nodes,li x5.batch,li x5.high,AV.osl 46 10 (List.map zO x5.zones),AV.osl 50 1 (List.map zJ x5.caches)]),.box 29 (zF ⟨[],0,0,[],[]⟩)]) zv3<|za (H':=[.box 29 (zF A),.box 29 (zF ⟨[],0,0,[],[]⟩),.dead,.box 29 [ls cI x5.nodes,li x5.batch,li x5.high,AV.osl 46 10 (List.map zO x5.zones),AV.osl 50 1 (List.map zJ x5.caches)]]) (zDz (k:=3) (o:=0) (j:=2) (cs:=(zF ⟨[],0,0,[],[]⟩)) (la:=[ls cI x5.nodes,li x5.batch,li x5.high,AV.osl 46 10 (List.map zO x5.zones),AV.osl 50 1 (List.map zJ x5.caches)]) Try.sizeOf29 rfl rfl rfl rfl rfl (by decide))<|zG ?_
    refine zAA (r:=r) (fun ((d1,d2,d3,l1,l2):(List Int)×Int×Int×(List zW)×(List zK))=>mkE [(1,(li B)),(8,(AV.ptr 0 0)),(15,(li (at_ x2.1 i1))),(16,(AV.ptr 1 0))]) (fun (d1,d2,d3,l1,l2)=>[.box 29 (zF ⟨[],0,0,[],[]⟩),.box 29 [ls cI d1,li d2,li d3,AV.osl 46 10 (List.map zO l1),AV.osl 50 1 (List.map zJ l2)]]) (fun (d1,d2,d3,l1,l2)=>zB6 B x2 i1 d1 d2 d3 l1 l2) ?_ ?_
    ·
     refine zI<|zC<|zA (zL Try.underlying29 rfl rfl Try.sizeOf27 rfl)<|zAF (zBq (k:=3) (o:=4) (t':=50) (sz:=1) (rows:=List.map zJ x5.caches) rfl rfl)<|zA (zN Try.isAgg27 rfl rfl rfl rfl)<|zA (zB rfl) ?_
     refine zM h fun b10 h=>zA (zAN (f:=zJ) (l:=x5.caches) (i:=B) Try.underlying27 Try.sizeOf50 rfl rfl rfl b10)<|zA (zL Try.underlying50 rfl rfl Try.sizeOf48 rfl)<|zA (zC6 (f:=zJ) (l:=x5.caches) (i:=B) (c:=0) (a:=(ls (cS cI) ((at_ x5.caches B).lists))) Try.isAgg48 rfl rfl (by first | rfl | omega) b10 rfl rfl)<|zA (zB rfl)<|zM h fun b11 h => ?_
     refine zA (zm Try.underlying48 Try.sizeOf22 (fun _=>rfl) rfl rfl b11)<|zA (zp (o:=0) Try.isAgg22 rfl rfl)<|zA (ze Try.underlying22 rfl)<|zA (zBO rfl rfl)<|zA (zB rfl)<|z5 rfl rfl (fun c18=>zv.step (zB rfl)) ?_
     refine z5 rfl rfl (fun c19=>zv.step (zB rfl))<|zAF (zAR (k:=3) (j:=4) (o:=4) rfl rfl rfl rfl)<|zQ h fun x7 w7 h=>zQt (g:=85) (s:=decide (((at_ ((at_ x5.caches B).lists) (at_ x2.1 i1)).length:Int)=0)) (k:=3) (r:=(AV.lit (.bool x7.2))) (en' := .box 29 [ls cI x7.1.nodes,li x7.1.batch,li x7.1.high,AV.osl 46 10 (List.map zO x7.1.zones),AV.osl 50 1 (List.map zJ x7.1.caches)]) rfl rfl (fun c23=>⟨43,_,_,[],[AV.ptr 3 0,li B,(li (at_ x2.1 i1))],[AV.ptr 0 0,li B,(li (at_ x2.1 i1))],_,Try.func43,rfl,by kernel_rfl,.fn 43,(zAe rfl (zAe (zAM rfl c23) (zAe (zAM rfl c23) rfl))),⟨zC2.ptr,zC2.of (zBC.nr rfl),zC2.of (zBC.nr rfl),trivial⟩,rfl,by kernel_rfl,by kernel_rfl,zH8 (zIQ c23 w7),rfl⟩) (fun c23=>by obtain rfl:=Option.some.inj (zYQ c23 w7); rfl)<|z5 rfl rfl (fun c24=>zv.step (zBU (t:=x7.2) (zAM rfl c24)))<|zA (zAH (j := .lit undef) rfl rfl) ?_
     refine zG ?_
     refine zY h rfl (fun b12 h => ?_) (fun b12 h => ?_)
     ·refine zAA (r:=r) (fun ((d4,d5,d6,l3,l4):(List Int)×Int×Int×(List zW)×(List zK))=>mkE [(1,(li B)),(8,(AV.ptr 0 0)),(15,(li (at_ x2.1 i1))),(16,(AV.ptr 1 0))]) (fun (d4,d5,d6,l3,l4)=>[.box 29 (zF ⟨[],0,0,[],[]⟩),.box 29 [ls cI d4,li d5,li d6,AV.osl 46 10 (List.map zO l3),AV.osl 50 1 (List.map zJ l4)]]) (fun (d4,d5,d6,l3,l4)=>zCp B x2 i1 d4 d5 d6 l3 l4) ?_ ?_
      ·
       refine zI<|zC<|zA (zL Try.underlying29 rfl rfl Try.sizeOf27 rfl)<|zAF (zBq (k:=3) (o:=4) (t':=50) (sz:=1) (rows:=List.map zJ x7.1.caches) rfl rfl)<|zA (zN Try.isAgg27 rfl rfl rfl rfl)<|zA (zDd (f:=zJ) (l:=x7.1.caches) Try.underlying27 rfl rfl) ?_
       refine zA (zB rfl)<|zG<|zV<|z9 (σ:=Int×(List Int)×Int×Int×(List zW)×(List zK)) (fun (i2,d7,d8,d9,l5,l6)=>mkE [(1,(li B)),(8,(AV.ptr 0 0)),(15,(li (at_ x2.1 i1))),(16,(AV.ptr 1 0)),(93,(li (x7.1.caches.length:Int))),(94,(li i2))]) (fun (i2,d7,d8,d9,l5,l6)=>[.box 29 (zF ⟨[],0,0,[],[]⟩),.box 29 [ls cI d7,li d8,li d9,AV.osl 46 10 (List.map zO l5),AV.osl 50 1 (List.map zJ l6)]]) (fun n1 (i2,d7,d8,d9,l5,l6)=>zCM B x2 i1 x7 n1 i2 d7 d8 d9 l5 l6) (0,x7.1.nodes,x7.1.batch,x7.1.high,x7.1.zones,x7.1.caches) h (fun _=>rfl) (Rep.trans (zAR (k:=3) (j:=5) (o:=4) rfl rfl rfl rfl) (zAd [1,3] (l:=[(1,(li B)),(8,(AV.ptr 0 0)),(15,(li (at_ x2.1 i1))),(16,(AV.ptr 1 0)),(93,(li (x7.1.caches.length:Int))),(94,(li 0))]) rfl rfl (by kernel_rfl))) ?_
       clear h
       rintro n1 ⟨i2,d7,d8,d9,l5,l6⟩ h
       replace h:zCE B x2 i1 x7 (zCM B x2 i1 x7 n1) i2 d7 d8 d9 l5 l6=some r:=h
       unfold zCE at h
       refine zI<|zC<|zA (zj rfl rfl)<|zG<|zI ?_
       refine zY h rfl (fun b13 h => ?_) (fun b13 h => ?_)
       ·refine zU ?_
        refine zAA (r:=r) (fun ((d10,d11,d12,l7,l8):(List Int)×Int×Int×(List zW)×(List zK))=>mkE [(1,(li B)),(8,(AV.ptr 0 0)),(15,(li (at_ x2.1 i1))),(16,(AV.ptr 1 0)),(93,(li (x7.1.caches.length:Int))),(94,(li i2))]) (fun (d10,d11,d12,l7,l8)=>[.box 29 (zF ⟨[],0,0,[],[]⟩),.box 29 [ls cI d10,li d11,li d12,AV.osl 46 10 (List.map zO l7),AV.osl 50 1 (List.map zJ l8)]]) (fun (d10,d11,d12,l7,l8)=>zDu (zCM B x2 i1 x7 n1) i2 d10 d11 d12 l7 l8) ?_ ?_
        ·
         refine zV<|zI<|zC<|zA (zB rfl)<|zA (zD rfl)<|zG ?_
         refine zI<|zC<|zA (zB rfl)<|zA (zB rfl)<|zA (zy rfl rfl)<|zG ?_
         refine zY h rfl (fun b15 h => ?_) (fun b15 h => ?_)
         ·refine zC<|zA (zB rfl)<|zA (zB rfl)<|zQ h fun x9 w9 h=>zEk (k:=1) (la:=[AV.ptr 1 0,li i2,(li (at_ x2.1 i1))]) (la':=[AV.ptr 0 0,li i2,(li (at_ x2.1 i1))]) (r:=(.tup [])) (S:=[]) (en' := .box 29 [ls cI x9.nodes,li x9.batch,li x9.high,AV.osl 46 10 (List.map zO x9.zones),AV.osl 50 1 (List.map zJ x9.caches)]) Try.func44 rfl (by kernel_rfl) (.fn 44) rfl ⟨zC2.ptr,zC2.of (zBC.nr rfl),zC2.of (zBC.nr rfl),trivial⟩ rfl rfl (by kernel_rfl) (by kernel_rfl) (zGh w9) rfl (.inl rfl)<|zG ?_
          exact ⟨(x9.nodes,x9.batch,x9.high,x9.zones,x9.caches),zAd [0,1] rfl rfl (by kernel_rfl),h⟩
         refine zU ?_
         exact ⟨(d7,d8,d9,l5,l6),zAd [0,1] rfl rfl (by kernel_rfl),h⟩
        clear h
        rintro ⟨d10,d11,d12,l7,l8⟩ h
        unfold zDu at h
        refine zC<|zM h fun b14 h=>zA (zi rfl rfl b14)<|zA (zB rfl)<|zG ?_
        exact ⟨((i2+1),d10,d11,d12,l7,l8),zAd [0,1] rfl rfl (by kernel_rfl),h⟩
       refine zAG ?_
       exact ⟨(d7,d8,d9,l5,l6),zAd [0,1] rfl rfl (by kernel_rfl),h⟩
      clear h
      rintro ⟨d4,d5,d6,l3,l4⟩ h
      unfold zCp at h
      refine zC<|zA (zB rfl)<|zA (zB rfl)<|zQ h fun x8 w8 h=>zEk (k:=1) (la:=[AV.ptr 1 0,li B,(li (at_ x2.1 i1))]) (la':=[AV.ptr 0 0,li B,(li (at_ x2.1 i1))]) (r:=(AV.lit (.bool x8.2))) (S:=[]) (en' := .box 29 [ls cI x8.1.nodes,li x8.1.batch,li x8.1.high,AV.osl 46 10 (List.map zO x8.1.zones),AV.osl 50 1 (List.map zJ x8.1.caches)]) Try.func43 rfl (by kernel_rfl) (.fn 43) rfl ⟨zC2.ptr,zC2.of (zBC.nr rfl),zC2.of (zBC.nr rfl),trivial⟩ rfl rfl (by kernel_rfl) (by kernel_rfl) (zH8 w8) rfl (.inl rfl)<|zG ?_
      exact ⟨(x8.1.nodes,x8.1.batch,x8.1.high,x8.1.zones,x8.1.caches),zAd [0,1] rfl rfl (by kernel_rfl),h⟩
     refine zU ?_
     exact ⟨(x7.1.nodes,x7.1.batch,x7.1.high,x7.1.zones,x7.1.caches),zAd [1,3] rfl rfl (by kernel_rfl),h⟩
    clear h
    rintro ⟨d1,d2,d3,l1,l2⟩ h
    unfold zB6 at h
    refine zI<|zC<|zA (zL Try.underlying29 rfl rfl Try.sizeOf27 rfl)<|zAF (zBq (k:=1) (o:=4) (t':=50) (sz:=1) (rows:=List.map zJ l2) rfl rfl)<|zA (zN Try.isAgg27 rfl rfl rfl rfl)<|zA (zB rfl) ?_
    refine zM h fun b8 h=>zA (zAN (f:=zJ) (l:=l2) (i:=B) Try.underlying27 Try.sizeOf50 rfl rfl rfl b8)<|zA (zC9 (f:=zJ) (l:=l2) (i:=B) (c:=0) (q:=1) (la:=(zJ (at_ l2 B))) Try.isAgg50 Try.sizeOf50 rfl rfl (by first | rfl | omega) b8 rfl rfl rfl)<|zA (zB rfl)<|zQ h fun x6 w6 h=>zZ Try.func45 rfl (by kernel_rfl) (.fn 45) rfl rfl (zOX w6) rfl ?_
    refine zA (zB rfl)<|zA (zS rfl rfl)<|zA (zS rfl rfl)<|zA (zS rfl rfl)<|zX (H':=[.box 29 (zF ⟨[],0,0,[],[]⟩),.box 29 [ls cI d1,li d2,li d3,AV.osl 46 10 (List.map zO l1),AV.hd 2],.vec 50 1 (List.map zJ l2),.box 50 [(ls (cS cI) ([]:List (List Int)))]]) zv1<|za (H':=[.box 29 (zF ⟨[],0,0,[],[]⟩),.box 29 [ls cI d1,li d2,li d3,AV.osl 46 10 (List.map zO l1),AV.hd 2],.vec 50 1 (List.map zJ l2),.box 50 (zJ x6.1)]) (zT (k:=3) (o:=0) (cs:=[(ls (cS cI) ([]:List (List Int)))]) (la:=(zJ x6.1)) Try.sizeOf50 rfl rfl rfl rfl) ?_
    refine zA (zD rfl)<|zA (zD rfl)<|zG<|zI<|zI<|zC ?_
    refine zA (zB rfl)<|zA (zy rfl rfl)<|zG ?_
    refine zY h rfl (fun b9 h => ?_) (fun b9 h => ?_)
    ·refine zI<|zC<|zA zP3<|zA (zB rfl)<|za (H':=[.box 29 (zF (⟨([]:List Int),0,0,([]:List zW),([]:List zK)⟩:zH)),.box 29 [ls cI d1,li d2,li d3,AV.osl 46 10 (List.map zO l1),AV.hd 2],.vec 50 1 (List.map zJ l2),.box 50 (zJ x6.1)]) (zT (k:=0) (o:=0) (cs:=(zF ⟨[],0,0,[],[]⟩)) (la:=(zF (⟨([]:List Int),0,0,([]:List zW),([]:List zK)⟩:zH))) Try.sizeOf29 rfl rfl rfl rfl)<|zA (zD rfl) ?_
     refine zA (zD rfl)<|zG<|zd ?_
     cases h
     exact zED (zF3 Try.isAgg29 Try.sizeOf29 rfl rfl rfl rfl) (zAi rfl rfl) (zAi rfl rfl) rfl
    refine zU<|zI<|zC<|zA (zL Try.underlying29 rfl rfl Try.sizeOf27 rfl)<|zA (zN Try.isAgg27 rfl rfl rfl rfl)<|zA (zB rfl) ?_
    refine zA (zR (k:=3) (o:=0) (m:=1) Try.isAgg50 Try.sizeOf50 rfl rfl rfl rfl rfl)<|zA (zAN (f:=zJ) (l:=l2) (i:=B) Try.underlying27 Try.sizeOf50 rfl rfl rfl b8)<|za (H':=[.box 29 (zF ⟨[],0,0,[],[]⟩),.box 29 [ls cI d1,li d2,li d3,AV.osl 46 10 (List.map zO l1),AV.hd 2],.vec 50 1 (List.map zJ (l2.set B.toNat x6.1)),.box 50 (zJ x6.1)]) (zC3 (k:=2) (o:=(B.toNat*1)) (f:=zJ) (l:=l2) (i:=B) (z:=x6.1) Try.sizeOf50 (fun _=>rfl) rfl rfl (by first | rfl | omega) b8 rfl rfl)<|zG<|zI<|zC ?_
    refine zAF (zBw (k:=1) (o:=3) (rows':=List.map zO l1) rfl rfl (zAW (fun _=>rfl)))<|zAF (zAR (k:=1) (j:=2) (o:=4) rfl rfl rfl rfl)<|zAF (zBw (k:=1) (o:=4) (rows':=List.map zJ (l2.set B.toNat x6.1)) rfl rfl (zAW (fun _=>rfl)))<|zA (zR (k:=1) (o:=0) (m:=5) Try.isAgg29 Try.sizeOf29 rfl rfl rfl rfl rfl)<|zA (zB rfl)<|za (H':=[.box 29 (zF (⟨d1,d2,d3,l1,l2.set B.toNat x6.1⟩:zH)),.box 29 (zF ⟨d1,d2,d3,l1,l2.set B.toNat x6.1⟩),.dead,.box 50 (zJ x6.1)]) (zT (k:=0) (o:=0) (cs:=(zF ⟨[],0,0,[],[]⟩)) (la:=(zF (⟨d1,d2,d3,l1,l2.set B.toNat x6.1⟩:zH))) Try.sizeOf29 rfl rfl rfl rfl) ?_
    refine zA (zD rfl)<|zA (zD rfl)<|zG<|zd ?_
    cases h
    exact zED (zF3 Try.isAgg29 Try.sizeOf29 rfl rfl rfl rfl) (zAi rfl rfl) (zAi rfl rfl) rfl
   clear h
   intro _ h
   unfold zDp at h
   refine zC<|zM h fun b5 h=>zA (zi rfl rfl b5)<|zA (zB rfl)<|zG ?_
   exact ⟨(i1+1),zAd [0,1] rfl rfl (by kernel_rfl),h⟩
  refine zAG ?_
  exact ⟨(),zAd [1] rfl rfl (by kernel_rfl),h⟩
 clear h
 intro _ h
 unfold zGf at h
 refine zI<|zC<|zA zP3<|za (H':=[.box 29 (zF (⟨([]:List Int),0,0,([]:List zW),([]:List zK)⟩:zH))]) (zT (k:=0) (o:=0) (cs:=(zF ⟨[],0,0,[],[]⟩)) (la:=(zF (⟨([]:List Int),0,0,([]:List zW),([]:List zK)⟩:zH))) Try.sizeOf29 rfl rfl rfl rfl)<|zA (zD rfl)<|zA (zD rfl) ?_
 refine zG<|zd ?_
 cases h
 exact zED (zF3 Try.isAgg29 Try.sizeOf29 rfl rfl rfl rfl) (zAi rfl rfl) (zAi rfl rfl) rfl
theorem zJP {Q:List Int} {uP:Int} {r:Int} (h:zDg Q uP=some r):PFn Try.prog 100 [ls cI Q,li uP] (li r):=by
 refine zq Try.func100 rfl Try.ntmps100 Try.results100 rfl ?_
 unfold zDg at h
 refine zI<|zC<|zA (zD rfl)<|zG ?_
 refine zAA (r:=r) (fun (_:Unit)=>mkE []) (fun _=>[]) (fun _=>zEM ) ?_ ?_
 ·
  refine zI<|zC<|zA (zB rfl)<|zA (ze Try.underlying22 rfl)<|zA (zB rfl)<|zG ?_
  refine zV<|z9 (σ:=Int) (fun i1=>mkE [(0,(ls cI Q)),(1,(li uP)),(7,(li (Q.length:Int))),(8,(li i1))]) (fun i1=>[]) (fun n0 i1=>zBA Q uP n0 i1) 0 h (fun _=>rfl) (zAd [] rfl rfl (by kernel_rfl)) ?_
  clear h
  intro n0 i1 h
  replace h:zA9 Q uP (zBA Q uP n0) i1=some r:=h
  unfold zA9 at h
  refine zI<|zC<|zA (zj rfl rfl)<|zG<|zI ?_
  refine zY h rfl (fun b1 h => ?_) (fun b1 h => ?_)
  ·refine zU<|zI<|zV<|zI<|zC<|zA (zB rfl) ?_
   refine zA (zD rfl)<|zG<|zI<|zC<|zA (zB rfl)<|zA (zB rfl) ?_
   refine zA (zB rfl)<|zM h fun b2 h=>zA (zm Try.underlying22 Try.sizeOf3 (fun _=>rfl) rfl rfl b2)<|zA (zp (o:=0) Try.isAgg3 rfl rfl)<|zA (zBO rfl rfl)<|zG ?_
   refine zY h rfl (fun b3 h => ?_) (fun b3 h => ?_)
   ·refine zI<|zC<|zA (zB rfl)<|zA (zD rfl)<|zG<|zd ?_
    cases h
    exact zx (zAi rfl rfl)
   refine zU<|zC<|zM h fun b4 h=>zA (zi rfl rfl b4)<|zA (zB rfl)<|zG ?_
   exact ⟨(i1+1),zAd [] rfl rfl (by kernel_rfl),h⟩
  refine zAG ?_
  exact ⟨(),zAd [] rfl rfl (by kernel_rfl),h⟩
 clear h
 intro _ h
 unfold zEM at h
 refine zI<|zC<|zA (zD rfl)<|zG<|zd ?_
 cases h
 exact zx (zAi rfl rfl)
theorem zIK {Q:List Int} {uP:Int} {r:Bool} (h:zBu Q uP=some r):PFn Try.prog 90 [ls cI Q,li uP] (AV.lit (.bool r)):=by
 refine zq Try.func90 rfl Try.ntmps90 Try.results90 rfl ?_
 unfold zBu at h
 refine zI<|zC<|zA (zD rfl)<|zG<|zI<|zC ?_
 refine zA (zB rfl)<|zA (zB rfl)<|zQ h fun x1 w1 h=>zZ Try.func100 rfl (by kernel_rfl) (.fn 100) rfl rfl (zJP w1) rfl<|zA (zBy rfl rfl)<|zA (zD rfl) ?_
 refine zG<|zd ?_
 cases h
 exact zx (zAi rfl rfl)
theorem zKI {J:zK} {uF:Int} {uJ:Int} {r:Bool} (h:zAj J uF uJ=some r):PFn Try.prog 89 [(AV.agg (zJ J)),(AV.rp [li uF] 0),(AV.rp [li uJ] 0)] (AV.lit (.bool r)):=by
 refine zq Try.func89 rfl Try.ntmps89 Try.results89 rfl ?_
 unfold zAj at h
 refine zI<|zC<|zX (H':=[.box 50 (zJ J)]) (z6 (t:=50) rfl)<|zA (zD rfl)<|zG<|zI ?_
 refine zM h fun b1 h=>zQ h fun x1 w1 h => ?_
 refine zBe (n:=12) (m:=0) [.head 0 0,.head 0 0,.head 0 0,.head 0 0,.head 0 0,.head 0 0,.head 0 0,.head 0 0] [] [AV.ptr 0 0,(ls (cS cI) J.lists),li uF,(AV.rp ((cS cI) (at_ J.lists uF)) 0),(ls cI (at_ J.lists uF)),li uJ,(AV.lit (.bool x1)),(AV.lit (.bool x1))] [[.box 50 (zJ J)]] (by kernel_rfl) (by kernel_rfl) ⟨D1 fun e s p=>zL (k:=0) (o:=0) (off:=0) Try.underlying50 rfl rfl Try.sizeOf48 (s 3 rfl),D1 fun e s p=>zN (k:=0) (o:=0) Try.isAgg48 p.1 rfl rfl rfl,D1 fun e s p=>zp (o:=0) Try.isAgg3 (s 1 rfl) rfl,D1 fun e s p=>zm (f:=(cS cI)) (l:=J.lists) (i:=uF) Try.underlying48 Try.sizeOf22 (fun _=>rfl) p.1 p.2.1 b1,D1 fun e s p=>zp (o:=0) Try.isAgg22 p.1 rfl,D1 fun e s p=>zp (o:=0) Try.isAgg3 (s 2 rfl) rfl,?_,D1 fun e s p=>zD p.2.2.2.2.2.2.2.2.1,trivial⟩ ?_
 ·
  intro e7 s7 p7
  refine zZ (r:=(AV.lit (.bool x1))) (la:=[(ls cI (at_ J.lists uF)),li uJ]) Try.func90 rfl (by kernel_rfl) (.fn 90) (zAe p7.1 (zAe p7.2.1 rfl)) rfl (zIK w1) rfl ?_
  exact zG ⟨fun _=>rfl,rfl⟩
 intro e9 s9 hq1
 refine zAz (zCl (l:=[(4,(AV.lit (.bool x1)))]) ⟨(hq1 7 (by decide) (by decide)),trivial⟩)<|zd ?_
 cases h
 exact zx (zAi rfl rfl)
theorem zEE {Q : List zK} {uB : zK → Option Bool} {g_a_f : FuncId} {cf_a_f : Func} {code_a_f : Code} {caps_a_f : List AV} (hcf_a_f : Try.prog.funcs[g_a_f]? = some cf_a_f) (hcb_a_f : cf_a_f.body = some code_a_f) (hcn_a_f : (cf_a_f.name == "runtime.NumGoroutine") = false) (hnr_a_f : caps_a_f.all nr = true) (hg_a_f : ∀ {x0 : zK} {y : Bool}, uB x0 = some y → PFn Try.prog g_a_f ((AV.agg (zJ x0)) :: caps_a_f) (AV.lit (.bool y))) {r : Int} (h : zAV Q uB = some r) : PFn Try.prog 88 [(ls zJ Q), (AV.clo g_a_f caps_a_f)] (li r) := by
 refine zq Try.func88 rfl Try.ntmps88 Try.results88 rfl ?_
 unfold zAV at h
 refine zI<|zC<|zA (zD rfl)<|zG ?_
 refine zAA (r:=r) (fun (_:Unit)=>mkE []) (fun _=>[]) (fun _=>zA7 ) ?_ ?_
 ·
  refine zI<|zC<|zA (zB rfl)<|zA (ze Try.underlying27 rfl)<|zA (zB rfl)<|zG ?_
  refine zV<|z9 (σ:=Int) (fun i1=>mkE [(0,(ls zJ Q)),(1,(AV.clo g_a_f caps_a_f)),(7,(li (Q.length:Int))),(8,(li i1))]) (fun i1=>[]) (fun n0 i1=>zw Q uB n0 i1) 0 h (fun _=>rfl) (zBT (n:=19) (m:=0) [] (l:=[(0,(ls zJ Q)),(1,(AV.clo g_a_f caps_a_f)),(7,(li (Q.length:Int))),(8,(li 0))]) ⟨⟨Sub.refl _,by kernel_rfl⟩,⟨zDb hnr_a_f,zDc hnr_a_f⟩,⟨Sub.refl _,by kernel_rfl⟩,⟨Sub.refl _,by kernel_rfl⟩,trivial⟩ rfl rfl trivial) ?_
  clear h
  intro n0 i1 h
  replace h:zh Q uB (zw Q uB n0) i1=some r:=h
  unfold zh at h
  refine zI<|zC<|zA (zj rfl rfl)<|zG<|zI ?_
  refine zY h rfl (fun b1 h => ?_) (fun b1 h => ?_)
  ·refine zU<|zI<|zV<|zI<|zC<|zA (zB rfl) ?_
   refine zA (zD rfl)<|zG<|zI<|zC<|zA (zB rfl)<|zA (zB rfl) ?_
   refine zA (zB rfl)<|zM h fun b2 h=>zA (zm Try.underlying27 Try.sizeOf50 (fun _=>rfl) rfl rfl b2)<|zA (zBG (row:=(zJ (at_ Q i1))) (o:=0) (m:=1) (la:=(zJ (at_ Q i1))) Try.isAgg50 Try.sizeOf50 rfl rfl rfl)<|zQ h fun x1 w1 h=>zAq (S:=[]) hcf_a_f hcb_a_f hcn_a_f (.clo (caps:=caps_a_f) rfl) rfl (zDZ.c (zBC.nr rfl) (zDZ.nrs hnr_a_f)) (hg_a_f w1) (.inl rfl) rfl ?_
   refine zG ?_
   refine zY h rfl (fun b3 h => ?_) (fun b3 h => ?_)
   ·refine zI<|zC<|zA (zB rfl)<|zA (zD rfl)<|zG<|zd ?_
    cases h
    exact zx (zAi rfl rfl)
   refine zU<|zC<|zM h fun b4 h=>zA (zi rfl rfl b4)<|zA (zB rfl)<|zG ?_
   exact ⟨(i1+1),zBT (n:=19) (m:=0) [] (l:=[(0,(ls zJ Q)),(1,(AV.clo g_a_f caps_a_f)),(7,(li (Q.length:Int))),(8,(li (i1+1)))]) ⟨⟨Sub.refl _,by kernel_rfl⟩,⟨zDb hnr_a_f,zDc hnr_a_f⟩,⟨Sub.refl _,by kernel_rfl⟩,⟨Sub.refl _,by kernel_rfl⟩,trivial⟩ rfl rfl trivial,h⟩
  refine zAG ?_
  exact ⟨(),zAd [] rfl rfl (by kernel_rfl),h⟩
 clear h
 intro _ h
 unfold zA7 at h
 refine zI<|zC<|zA (zD rfl)<|zG<|zd ?_
 cases h
 exact zx (zAi rfl rfl)
theorem zIS {C:zH} {D:Int} {X:Int} {r:Int} (h:zCR C D X=some r):PFn Try.prog 56 [(AV.agg (zF C)),li D,li X] (li r):=by
 refine zq Try.func56 rfl Try.ntmps56 Try.results56 rfl ?_
 unfold zCR at h
 refine zI<|zC<|zX (H':=[.box 29 (zF C)]) (z6 (t:=29) rfl)<|zX (H':=[.box 29 (zF C),.box 3 [li D]]) (zH5 (t:=3) (a:=(li D)) rfl rfl)<|zX (H':=[.box 29 (zF C),.box 3 [li D],.box 3 [li X]]) (zH5 (t:=3) (a:=(li X)) rfl rfl)<|zA (zD rfl) ?_
 refine zG<|zI<|zC<|zA (zL Try.underlying29 rfl rfl Try.sizeOf27 rfl)<|zA (zN Try.isAgg27 rfl rfl rfl rfl)<|zA (zKh (la:=[AV.ptr 1 0,AV.ptr 2 0]) rfl) ?_
 refine zQ h fun x1 w1 h=>zAq (r':=(li x1)) (la:=[ls zJ C.caches,(AV.clo 89 [AV.ptr 1 0,AV.ptr 2 0])]) (la':=[ls zJ C.caches,(AV.clo 89 [(AV.rp [li D] 0),(AV.rp [li X] 0)])]) (r:=(li x1)) (S:=[1,2]) Try.func88 rfl (by kernel_rfl) (.fn 88) rfl ⟨zBC.nr rfl,zBC.clo (⟨zBC.ptr (cs:=[li D]) rfl rfl rfl,zBC.ptr (cs:=[li X]) rfl rfl rfl,trivial⟩),trivial⟩ (zEE Try.func89 rfl (by kernel_rfl) rfl (fun hy=>zKI  hy) w1) (.inr trivial) rfl<|zA (zD rfl)<|zG<|zd ?_
 cases h
 exact zx (zAi rfl rfl)
theorem zGx {C:zH} {D:Int} {X:Int} {r:Bool} (h:zC7 C D X=some r):PFn Try.prog 35 [(AV.agg (zF C)),li D,li X] (AV.lit (.bool r)):=by
 refine zq Try.func35 rfl Try.ntmps35 Try.results35 rfl ?_
 unfold zC7 at h
 refine zI<|zC<|zX (H':=[.box 29 (zF C)]) (z6 (t:=29) rfl)<|zA (zD rfl)<|zG<|zI ?_
 refine zC<|zA (zL Try.underlying29 rfl rfl Try.sizeOf26 rfl)<|zA (zN Try.isAgg26 rfl rfl rfl rfl)<|zA (zB rfl)<|zM h fun b1 h=>zA (zm Try.underlying26 Try.sizeOf46 (fun _=>rfl) rfl rfl b1) ?_
 refine zA (zBG (row:=(zO (at_ C.zones D))) (o:=0) (m:=10) (la:=(zO (at_ C.zones D))) Try.isAgg46 Try.sizeOf46 rfl rfl rfl)<|zA (zB rfl)<|zQ h fun x1 w1 h=>zZ Try.func38 rfl (by kernel_rfl) (.fn 38) rfl rfl (zKb w1) rfl<|zA (zB rfl)<|zb rfl rfl (fun c1=>zv.step (zR (k:=0) (o:=0) (m:=5) Try.isAgg29 Try.sizeOf29 rfl rfl rfl rfl rfl)) ?_
 refine zb rfl rfl (fun c2=>zv.step (zB rfl))<|zb rfl rfl (fun c3=>zv.step (zB rfl))<|zQ h fun x2 w2 h=>zDe (g:=14) (s:=x1) (r':=(li x2)) rfl rfl (fun c4=>⟨56,_,_,[],[(AV.agg (zF C)),li D,li X],[(AV.agg (zF C)),li D,li X],li x2,[],Try.func56,rfl,by kernel_rfl,.fn 56,(zAe (zAM rfl c4) (zAe (zAM rfl c4) (zAe (zAM rfl c4) rfl))),⟨zBC.nr rfl,zBC.nr rfl,zBC.nr rfl,trivial⟩,zIS (zIQ c4 w2),.inl rfl,rfl⟩)<|zb rfl rfl (fun c5=>zv.step (zBy (zAM rfl c5) rfl))<|zA (zg rfl rfl) ?_
 refine zA (zD rfl)<|zG<|zd ?_
 cases h
 exact zx (zAi rfl rfl)
theorem zIW {C:zH} {X:Int} {r:Bool} (h:zGA C X=some r):PFn Try.prog 14 [(AV.agg (zF C)),li X] (AV.lit (.bool r)):=by
 refine zq Try.func14 rfl Try.ntmps14 Try.results14 rfl ?_
 unfold zGA at h
 refine zI<|zC<|zX (H':=[.box 29 (zF C)]) (z6 (t:=29) rfl)<|zA (zD rfl)<|zG<|zI ?_
 refine zI<|zC<|zA (zR (k:=0) (o:=0) (m:=5) Try.isAgg29 Try.sizeOf29 rfl rfl rfl rfl rfl)<|zQ h fun x1 w1 h=>zZ Try.func15 rfl (by kernel_rfl) (.fn 15) rfl rfl (zA4 w1) rfl<|zA (zy rfl rfl) ?_
 refine zG ?_
 refine zY h rfl (fun b1 h => ?_) (fun b1 h => ?_)
 ·refine zI<|zC<|zA (zD rfl)<|zG<|zd ?_
  cases h
  exact zx (zAi rfl rfl)
 refine zU<|zI<|zC<|zA (zR (k:=0) (o:=0) (m:=5) Try.isAgg29 Try.sizeOf29 rfl rfl rfl rfl rfl)<|zA (zB rfl)<|zQ h fun x2 w2 h => ?_
 refine zZ Try.func34 rfl (by kernel_rfl) (.fn 34) rfl rfl (zEP w2) rfl<|zA (zD rfl)<|zG<|zI<|zC<|zA (zB rfl) ?_
 refine zA (zBy rfl rfl)<|zA (zB rfl)<|z5 rfl rfl (fun c1=>zv.step (zR (k:=0) (o:=0) (m:=5) Try.isAgg29 Try.sizeOf29 rfl rfl rfl rfl rfl))<|z5 rfl rfl (fun c2=>zv.step (zB rfl))<|z5 rfl rfl (fun c3=>zv.step (zB rfl))<|zQ h fun x3 w3 h => ?_
 refine zGE (g:=14) (s:=decide (0≤x2)) (r':=(AV.lit (.bool x3))) rfl rfl (fun c4=>⟨35,_,_,[],[(AV.agg (zF C)),li x2,li X],[(AV.agg (zF C)),li x2,li X],(AV.lit (.bool x3)),[],Try.func35,rfl,by kernel_rfl,.fn 35,(zAe (zAM rfl c4) (zAe (zAM rfl c4) (zAe (zAM rfl c4) rfl))),⟨zBC.nr rfl,zBC.nr rfl,zBC.nr rfl,trivial⟩,zGx (zIQ c4 w3),.inl rfl,rfl⟩)<|zA (zAH (j := .lit undef) rfl rfl)<|zA (zD rfl)<|zG<|zd ?_
 cases h
 exact zx (zAi rfl rfl)
theorem zL5 {C:zH} {D:Int} {r:Int} (h:zIJ C D=some r):PFn Try.prog 18 [(AV.agg (zF C)),li D] (li r):=by
 refine zq Try.func18 rfl Try.ntmps18 Try.results18 rfl ?_
 unfold zIJ at h
 refine zI<|zC<|zX (H':=[.box 29 (zF C)]) (z6 (t:=29) rfl)<|zA (zD rfl)<|zG<|zI ?_
 refine zI<|zC<|zA (zR (k:=0) (o:=0) (m:=5) Try.isAgg29 Try.sizeOf29 rfl rfl rfl rfl rfl)<|zQ h fun x1 w1 h=>zZ Try.func15 rfl (by kernel_rfl) (.fn 15) rfl rfl (zA4 w1) rfl<|zA (zy rfl rfl) ?_
 refine zA (zB rfl)<|zb rfl rfl (fun c1=>zv.step (zB rfl))<|zb rfl rfl (fun c2=>zv.step (zj (zAM rfl c2) rfl))<|zA (zg rfl rfl)<|zA (zB rfl)<|zb rfl rfl (fun c3=>zv.step (zB rfl)) ?_
 refine zb rfl rfl (fun c4=>zv.step (zL Try.underlying29 rfl rfl Try.sizeOf26 rfl))<|zb rfl rfl (fun c5=>zv.step (zN Try.isAgg26 (zAM rfl c5) rfl rfl rfl))<|zb rfl rfl (fun c6=>zv.step (ze Try.underlying26 (zAM rfl c6)))<|zb rfl rfl (fun c7=>zv.step (zBy (zAM rfl c7) (zAM rfl c7)))<|zA (zg rfl rfl)<|zG ?_
 refine zY h rfl (fun b1 h => ?_) (fun b1 h => ?_)
 ·refine zI<|zC<|zA (zD rfl)<|zG<|zd ?_
  cases h
  exact zx (zAi rfl rfl)
 refine zU<|zI<|zC<|zA (zR (k:=0) (o:=0) (m:=5) Try.isAgg29 Try.sizeOf29 rfl rfl rfl rfl rfl)<|zA (zB rfl)<|zQ h fun x2 w2 h => ?_
 refine zZ Try.func41 rfl (by kernel_rfl) (.fn 41) rfl rfl (zGj w2) rfl<|zA (zD rfl)<|zG<|zd ?_
 cases h
 exact zx (zAi rfl rfl)
theorem zMN {C:zH} {X:Int} {r:Int} (h:zJJ C X=some r):PFn Try.prog 19 [(AV.agg (zF C)),li X] (li r):=by
 refine zq Try.func19 rfl Try.ntmps19 Try.results19 rfl ?_
 unfold zJJ at h
 refine zI<|zC<|zX (H':=[.box 29 (zF C)]) (z6 (t:=29) rfl)<|zA (zD rfl)<|zG<|zI ?_
 refine zI<|zC<|zA (zR (k:=0) (o:=0) (m:=5) Try.isAgg29 Try.sizeOf29 rfl rfl rfl rfl rfl)<|zQ h fun x1 w1 h=>zZ Try.func15 rfl (by kernel_rfl) (.fn 15) rfl rfl (zA4 w1) rfl<|zA (zy rfl rfl) ?_
 refine zG ?_
 refine zY h rfl (fun b1 h => ?_) (fun b1 h => ?_)
 ·refine zI<|zC<|zA (zD rfl)<|zG<|zd ?_
  cases h
  exact zx (zAi rfl rfl)
 refine zU<|zI<|zC<|zA (zR (k:=0) (o:=0) (m:=5) Try.isAgg29 Try.sizeOf29 rfl rfl rfl rfl rfl)<|zA (zB rfl)<|zQ h fun x2 w2 h => ?_
 refine zZ Try.func34 rfl (by kernel_rfl) (.fn 34) rfl rfl (zEP w2) rfl<|zA (zD rfl)<|zG<|zd ?_
 cases h
 exact zx (zAi rfl rfl)
theorem zMA {A:zK} {B:Int} {G:Int} {U:Int} {uY:Int} {r:zK×(List Int)×Int} (h:zH6 A B G U uY=some r):PFn Try.prog 46 [(AV.agg (zJ A)),li B,li G,li U,li uY] (AV.tup [(AV.agg (zJ r.1)),ls cI r.2.1,li r.2.2]):=by
 refine zq Try.func46 rfl Try.ntmps46 Try.results46 rfl ?_
 unfold zH6 at h
 refine zI<|zC<|zX (H':=[.box 50 (zJ A)]) (z6 (t:=50) rfl)<|zX (H':=[.box 50 (zJ A),.box 50 [(ls (cS cI) ([]:List (List Int)))]]) zv1<|zA (zD rfl)<|zA (zD rfl) ?_
 refine zG<|zI<|zI<|zC<|zA (zR (k:=0) (o:=0) (m:=1) Try.isAgg50 Try.sizeOf50 rfl rfl rfl rfl rfl)<|zA (zB rfl) ?_
 refine zQ h fun x1 w1 h=>zZ Try.func79 rfl (by kernel_rfl) (.fn 79) rfl rfl (zGZ w1) rfl<|zA (zD rfl)<|zG<|zI<|zC ?_
 refine zA (zB rfl)<|zA (zy rfl rfl)<|zG ?_
 refine zY h rfl (fun b1 h => ?_) (fun b1 h => ?_)
 ·refine zI<|zC<|zA zv2<|zA (zB rfl)<|za (H':=[.box 50 (zJ A),.box 50 (zJ (⟨([]:List (List Int))⟩:zK))]) (zT (k:=1) (o:=0) (cs:=[(ls (cS cI) ([]:List (List Int)))]) (la:=(zJ (⟨([]:List (List Int))⟩:zK))) Try.sizeOf50 rfl rfl rfl rfl)<|zA (zD rfl) ?_
  refine zA (zD rfl)<|zG<|zd ?_
  cases h
  exact zED (zF3 Try.isAgg50 Try.sizeOf50 rfl rfl rfl rfl) (zIo (zAi rfl rfl) zA6.nils) (zAi rfl rfl) rfl
 refine zU<|zI<|zI<|zC<|zA (zB rfl)<|zQ h fun x2 w2 h => ?_
 refine zZ Try.func64 rfl (by kernel_rfl) (.fn 64) rfl rfl (zGv w2) rfl<|zA (zBU (t:=x2) rfl)<|zG ?_
 refine zY h rfl (fun b2 h => ?_) (fun b2 h => ?_)
 ·refine zI<|zC<|zA zv2<|za (H':=[.box 50 (zJ A),.box 50 (zJ (⟨([]:List (List Int))⟩:zK))]) (zT (k:=1) (o:=0) (cs:=[(ls (cS cI) ([]:List (List Int)))]) (la:=(zJ (⟨([]:List (List Int))⟩:zK))) Try.sizeOf50 rfl rfl rfl rfl)<|zA (zD rfl)<|zA (zD rfl) ?_
  refine zG<|zd ?_
  cases h
  exact zED (zF3 Try.isAgg50 Try.sizeOf50 rfl rfl rfl rfl) (zIo (zAi rfl rfl) zA6.nils) (zAi rfl rfl) rfl
 refine zU<|zI<|zI<|zC<|zA (zB rfl)<|zA (zj rfl rfl) ?_
 refine zA (zB rfl)<|zb rfl rfl (fun c1=>zv.step (zB rfl))<|zb rfl rfl (fun c2=>zv.step (zB rfl))<|zb rfl rfl (fun c3=>zv.step (zBx (zAM rfl c3) (zAM rfl c3)))<|zA (zg rfl rfl)<|zG ?_
 refine zY h rfl (fun b3 h => ?_) (fun b3 h => ?_)
 ·refine zI<|zC<|zA zv2<|za (H':=[.box 50 (zJ A),.box 50 (zJ (⟨([]:List (List Int))⟩:zK))]) (zT (k:=1) (o:=0) (cs:=[(ls (cS cI) ([]:List (List Int)))]) (la:=(zJ (⟨([]:List (List Int))⟩:zK))) Try.sizeOf50 rfl rfl rfl rfl)<|zA (zD rfl)<|zA (zD rfl) ?_
  refine zG<|zd ?_
  cases h
  exact zED (zF3 Try.isAgg50 Try.sizeOf50 rfl rfl rfl rfl) (zIo (zAi rfl rfl) zA6.nils) (zAi rfl rfl) rfl
 refine zU<|zI<|zI<|zC<|zA (zR (k:=0) (o:=0) (m:=1) Try.isAgg50 Try.sizeOf50 rfl rfl rfl rfl rfl)<|zQ h fun x3 w3 h => ?_
 refine zNn (es:=mI Value.bool x3) (la:=[(AV.agg (zJ A))]) (la':=[(AV.agg (zJ A))]) (S:=[]) Try.func65 rfl (by kernel_rfl) (.fn 65) rfl ⟨zBC.nr rfl,trivial⟩ (zHk w3)<|zA (zB rfl)<|zA (zNZ (k:=2) (g:=Value.bool) (q:=G) (l:=x3) (dflt:=false) (a:=(AV.lit (.bool (zL9 false x3 G)))) Try.underlying83 Try.underlying3 Try.zeroValue4 rfl rfl rfl rfl)<|zG ?_
 refine zY h rfl (fun b4 h => ?_) (fun b4 h => ?_)
 ·refine zI<|zC<|zA zv2<|za (H':=[.box 50 (zJ A),.box 50 (zJ (⟨([]:List (List Int))⟩:zK)),.map (mI Value.bool x3)]) (zT (k:=1) (o:=0) (cs:=[(ls (cS cI) ([]:List (List Int)))]) (la:=(zJ (⟨([]:List (List Int))⟩:zK))) Try.sizeOf50 rfl rfl rfl rfl)<|zA (zD rfl)<|zA (zD rfl) ?_
  refine zG<|zd ?_
  cases h
  exact zED (zF3 Try.isAgg50 Try.sizeOf50 rfl rfl rfl rfl) (zIo (zAi rfl rfl) zA6.nils) (zAi rfl rfl) rfl
 refine zU<|zI<|zM h fun b5 h=>zM h fun b6 h=>zM h fun b7 h => ?_
 refine zBe (n:=85) (m:=0) [.head 0 0,.head 0 0,.head 0 0,.head 0 0,.head 0 0,.head 0 0,.head 0 0,.head 0 0,.head 0 0,.head 0 0,.head 0 0,.head 0 0,.head 0 0,.tail 0,.head 1 1] [13] [AV.ptr 0 0,(ls (cS cI) A.lists),li B,(AV.rp ((cS cI) (at_ A.lists B)) 0),(ls cI (at_ A.lists B)),(li ((at_ A.lists B).length:Int)),AV.ptr 0 0,(ls (cS cI) A.lists),li B,(AV.rp ((cS cI) (at_ A.lists B)) 0),(ls cI (at_ A.lists B)),(li ((at_ A.lists B).length:Int)),(li (((at_ A.lists B).length:Int)+1)),AV.hd 3,AV.hd 3] [[.box 50 (zJ A),.box 50 [(ls (cS cI) ([]:List (List Int)))],.map (mI Value.bool x3)],[.box 50 (zJ A),.box 50 [(ls (cS cI) ([]:List (List Int)))],.map (mI Value.bool x3),.vec 3 1 (List.map cI (List.replicate ((at_ A.lists B).length:Int).toNat 0))]] (by kernel_rfl) (by kernel_rfl) ⟨D1 fun e s p=>zL (k:=0) (o:=0) (off:=0) Try.underlying50 rfl rfl Try.sizeOf48 (s 5 rfl),D1 fun e s p=>zN (k:=0) (o:=0) Try.isAgg48 p.1 rfl rfl rfl,D1 fun e s p=>zB (s 1 rfl),D1 fun e s p=>zm (f:=(cS cI)) (l:=A.lists) (i:=B) Try.underlying48 Try.sizeOf22 (fun _=>rfl) p.1 p.2.1 b5,D1 fun e s p=>zp (o:=0) Try.isAgg22 p.1 rfl,D1 fun e s p=>ze (f:=cI) (l:=at_ A.lists B) Try.underlying22 p.1,D1 fun e s p=>zL (k:=0) (o:=0) (off:=0) Try.underlying50 rfl rfl Try.sizeOf48 (s 5 rfl),D1 fun e s p=>zN (k:=0) (o:=0) Try.isAgg48 p.1 rfl rfl rfl,D1 fun e s p=>zB (s 1 rfl),D1 fun e s p=>zm (f:=(cS cI)) (l:=A.lists) (i:=B) Try.underlying48 Try.sizeOf22 (fun _=>rfl) p.1 p.2.1 b5,D1 fun e s p=>zp (o:=0) Try.isAgg22 p.1 rfl,D1 fun e s p=>ze (f:=cI) (l:=at_ A.lists B) Try.underlying22 p.1,D1 fun e s p=>zi (a:=((at_ A.lists B).length:Int)) (b:=1) p.1 rfl b6,?_,D1 fun e s p=>zD p.2.2.2.2.2.2.2.2.2.2.2.2.2.2.1,trivial⟩ ?_
 ·
  intro e14 s14 p14
  refine zGm (f:=cI) (a:=((at_ A.lists B).length:Int)) (c:=((at_ A.lists B).length:Int)+1) (d0:=0) zG6 ⟨zA6.refl _,trivial⟩ rfl Try.underlying22 p14.1 p14.2.1 b7 ?_
  exact zG ⟨fun _=>rfl,rfl⟩
 intro e16 s16 hq1
 refine zAz (zCl (l:=[(1,(li B)),(2,(li G)),(3,(li U)),(4,(li uY)),(5,(AV.ptr 0 0)),(10,(AV.ptr 1 0)),(14,(AV.hd 3))]) ⟨s16 1 rfl,s16 2 rfl,s16 3 rfl,s16 4 rfl,s16 5 rfl,s16 10 rfl,(hq1 14 (by decide) (by decide)),trivial⟩)<|zI<|zC<|zA (zB (av:=(AV.hd 3)) rfl)<|zA (zL (k:=0) (o:=0) (off:=0) Try.underlying50 rfl rfl Try.sizeOf48 rfl)<|zA (zN (k:=0) (o:=0) (a:=(ls (cS cI) A.lists)) Try.isAgg48 rfl rfl rfl rfl) ?_
 refine zA (zB rfl)<|zA (zm Try.underlying48 Try.sizeOf22 (fun _=>rfl) rfl rfl b5)<|zA (zp (o:=0) Try.isAgg22 rfl rfl)<|zX (H':=[.box 50 (zJ A),.box 50 [(ls (cS cI) ([]:List (List Int)))],.map (mI Value.bool x3),.vec 3 1 (List.map cI (zCm (List.replicate ((at_ A.lists B).length:Int).toNat 0) (at_ A.lists B)))]) (zKp (f:=cI) (k:=3) (l:=List.replicate ((at_ A.lists B).length:Int).toNat 0) (l2:=at_ A.lists B) Try.underlying22 Try.sizeOf3 (fun _=>rfl) rfl rfl rfl)<|zG<|zI ?_
 refine zC<|zA (zB rfl)<|zA (zB rfl)<|zGW (a:=(li G)) zG6 Try.underlying22 rfl rfl rfl rfl<|zM h fun b8 h=>zER (f:=cI) (k:=3) (j:=4) (l:=zCm (List.replicate ((at_ A.lists B).length:Int).toNat 0) (at_ A.lists B)) (l':=[G]) zG6 (fun _=>rfl) Try.underlying22 rfl rfl rfl rfl b8 ?_
 refine zA (zD rfl)<|zG<|zI<|zI<|zC<|zA (zB rfl) ?_
 refine zA (zDd (f:=cI) (l:=(zCm (List.replicate ((at_ A.lists B).length:Int).toNat 0) (at_ A.lists B))++[G]) Try.underlying22 rfl rfl)<|zA (zB rfl)<|zA (zHG rfl rfl)<|zG ?_
 refine zY h rfl (fun b9 h => ?_) (fun b9 h => ?_)
 ·refine zI<|zC<|zA (zR (k:=0) (o:=0) (m:=1) Try.isAgg50 Try.sizeOf50 rfl rfl rfl rfl rfl)<|zA (zB rfl)<|zA (zB rfl)<|zQ h fun x4 w4 h => ?_
  refine zAF (zE8 (j:=5) (ds:=[14,64,65,71]) (rows':=List.map cI ((zCm (List.replicate ((at_ A.lists B).length:Int).toNat 0) (at_ A.lists B))++[G])) rfl (zAW (fun _=>rfl)) ⟨rfl,rfl,rfl,rfl,trivial⟩)<|zQ h fun x5 w5 h=>zZ Try.func80 rfl (by kernel_rfl) (.fn 80) rfl rfl (zEK w5) rfl<|za (H':=[.box 50 (zJ A),.box 50 (zJ x5),.map (mI Value.bool x3),.dead,.vec 3 1 (List.map cI [G]),.dead]) (zT (k:=1) (o:=0) (cs:=[(ls (cS cI) ([]:List (List Int)))]) (la:=(zJ x5)) Try.sizeOf50 rfl rfl rfl rfl)<|zA (zD rfl)<|zA (zD rfl) ?_
  refine zG<|zd ?_
  cases h
  exact zED (zF3 Try.isAgg50 Try.sizeOf50 rfl rfl rfl rfl) (zIo (zAi rfl rfl) zA6.nils) (zAi rfl rfl) rfl
 refine zU<|zI<|zC<|zA (zB rfl)<|zM h fun b10 h=>zGm (f:=cI) (a:=U) (c:=U) (d0:=0) zG6 ⟨zA6.refl _,trivial⟩ rfl Try.underlying22 rfl rfl b10 ?_
 refine zA (zD rfl)<|zG<|zI<|zC<|zA (zB rfl)<|zA (zB rfl) ?_
 refine zX (H':=[.box 50 (zJ A),.box 50 [(ls (cS cI) ([]:List (List Int)))],.map (mI Value.bool x3),.dead,.vec 3 1 (List.map cI [G]),.vec 3 1 (List.map cI ((zCm (List.replicate ((at_ A.lists B).length:Int).toNat 0) (at_ A.lists B))++[G])),.vec 3 1 (List.map cI (zCm (List.replicate U.toNat 0) ((zCm (List.replicate ((at_ A.lists B).length:Int).toNat 0) (at_ A.lists B))++[G])))]) (zQi (f:=cI) (k:=6) (j:=5) (l:=List.replicate U.toNat 0) (l2:=(zCm (List.replicate ((at_ A.lists B).length:Int).toNat 0) (at_ A.lists B))++[G]) Try.underlying22 Try.sizeOf3 (fun _=>rfl) rfl rfl rfl rfl)<|zG<|zI<|zAz (zE8 (j:=5) (ds:=[14,64,65,76]) (rows':=List.map cI ((zCm (List.replicate ((at_ A.lists B).length:Int).toNat 0) (at_ A.lists B))++[G])) rfl (zAW (fun _=>rfl)) ⟨rfl,rfl,rfl,rfl,trivial⟩)<|zM h fun b11 h=>zQ h fun x6 w6 h => ?_
 refine zBe (n:=85) (m:=0) [.head 0 0,.head 0 0,.head 0 0,.head 0 0,.head 0 0,.head 0 0,.head 0 1,.tail 0,.head 1 1,.head 1 1] [7] [(AV.agg (zJ A)),li B,(ls cI ((zCm (List.replicate ((at_ A.lists B).length:Int).toNat 0) (at_ A.lists B))++[G])),li U,(ls cI (zE9 ((zCm (List.replicate ((at_ A.lists B).length:Int).toNat 0) (at_ A.lists B))++[G]) U (((zCm (List.replicate ((at_ A.lists B).length:Int).toNat 0) (at_ A.lists B))++[G]).length:Int))),(AV.agg (zJ x6)),AV.hd 6,.any,AV.hd 6,li 0] [[.box 50 (zJ A),.box 50 [(ls (cS cI) ([]:List (List Int)))],.map (mI Value.bool x3),.dead,.vec 3 1 (List.map cI [G]),.dead,.vec 3 1 (List.map cI (zCm (List.replicate U.toNat 0) ((zCm (List.replicate ((at_ A.lists B).length:Int).toNat 0) (at_ A.lists B))++[G])))],[.box 50 (zJ A),.box 50 (zJ x6),.map (mI Value.bool x3),.dead,.vec 3 1 (List.map cI [G]),.dead,.vec 3 1 (List.map cI (zCm (List.replicate U.toNat 0) ((zCm (List.replicate ((at_ A.lists B).length:Int).toNat 0) (at_ A.lists B))++[G])))]] (by kernel_rfl) (by kernel_rfl) ⟨D1 fun e s p=>zR (k:=0) (o:=0) (m:=1) Try.isAgg50 Try.sizeOf50 (s 5 rfl) rfl rfl rfl rfl,D1 fun e s p=>zB (s 1 rfl),D1 fun e s p=>zB (s 14 rfl),D1 fun e s p=>zB (s 3 rfl),D1 fun e s p=>zKU (lo:=U) (f:=cI) (l:=(zCm (List.replicate ((at_ A.lists B).length:Int).toNat 0) (at_ A.lists B))++[G]) Try.underlying22 Try.sizeOf3 (fun _=>rfl) p.1 p.2.1 b11,?_,⟨D1 fun e s p=>zB (s 15 rfl),D1 fun e s p=>zB (s 15 rfl)⟩,?_,D1 fun e s p=>zD p.2.2.2.2.2.2.2.2.1,D1 fun e s p=>zD rfl,trivial⟩ ?_
 ·
  intro e22 s22 p21
  refine zZ (r:=(AV.agg (zJ x6))) (la:=[(AV.agg (zJ A)),li B,(ls cI (zE9 ((zCm (List.replicate ((at_ A.lists B).length:Int).toNat 0) (at_ A.lists B))++[G]) U (((zCm (List.replicate ((at_ A.lists B).length:Int).toNat 0) (at_ A.lists B))++[G]).length:Int)))]) Try.func80 rfl (by kernel_rfl) (.fn 80) (zAe p21.1 (zAe p21.2.1 (zAe p21.2.2.1 rfl))) rfl (zEK w6) rfl ?_
  exact zG ⟨fun _=>rfl,rfl⟩
 ·
  intro e25 s25 p24
  refine za (H':=[.box 50 (zJ A),.box 50 (zJ x6),.map (mI Value.bool x3),.dead,.vec 3 1 (List.map cI [G]),.dead,.vec 3 1 (List.map cI (zCm (List.replicate U.toNat 0) ((zCm (List.replicate ((at_ A.lists B).length:Int).toNat 0) (at_ A.lists B))++[G])))]) (zT (k:=1) (o:=0) (cs:=[(ls (cS cI) ([]:List (List Int)))]) (la:=(zJ x6)) Try.sizeOf50 (by exact (s25 10 rfl)) rfl rfl (by exact p24.2.2.2.2.2.2.2.1)) ?_
  exact zG ⟨fun _=>rfl,rfl⟩
 intro e28 s28 hq2
 refine zAz (zCl (l:=[(10,(AV.ptr 1 0)),(11,(AV.hd 6)),(12,(li 0))]) ⟨s28 10 rfl,(hq2 8 (by decide) (by decide)),(hq2 9 (by decide) (by decide)),trivial⟩)<|zAz (zE8 (j:=6) (ds:=[11]) (rows':=List.map cI (zCm (List.replicate U.toNat 0) ((zCm (List.replicate ((at_ A.lists B).length:Int).toNat 0) (at_ A.lists B))++[G]))) rfl (zAW (fun _=>rfl)) ⟨rfl,trivial⟩)<|zd ?_
 cases h
 exact zED (zF3 Try.isAgg50 Try.sizeOf50 rfl rfl rfl rfl) (zAi rfl rfl) (zAi rfl rfl) rfl
theorem zG0 {A:zH} {B:Int} {G:Int} {r:zH×Int} (h:zD0 A B G=some r):PFn Try.prog 20 [(AV.agg (zF A)),li B,li G] (AV.tup [(AV.agg (zF r.1)),li r.2]):=by
 refine zq Try.func20 rfl Try.ntmps20 Try.results20 rfl ?_
 unfold zD0 at h
 refine zI<|zC<|zX (H':=[.box 29 (zF A)]) (z6 (t:=29) rfl)<|zX (H':=[.box 29 (zF A),.box 29 (zF ⟨[],0,0,[],[]⟩)]) zv3<|zA (zD rfl)<|zG ?_
 refine zI<|zI<|zC<|zA (zR (k:=0) (o:=0) (m:=5) Try.isAgg29 Try.sizeOf29 rfl rfl rfl rfl rfl)<|zQ h fun x1 w1 h=>zZ Try.func15 rfl (by kernel_rfl) (.fn 15) rfl rfl (zA4 w1) rfl ?_
 refine zA (zD rfl)<|zG<|zI<|zC<|zA (zB rfl)<|zA (zy rfl rfl) ?_
 refine zG ?_
 refine zY h rfl (fun b1 h => ?_) (fun b1 h => ?_)
 ·refine zI<|zC<|zA zP3<|zA (zB rfl)<|za (H':=[.box 29 (zF A),.box 29 (zF (⟨([]:List Int),0,0,([]:List zW),([]:List zK)⟩:zH))]) (zT (k:=1) (o:=0) (cs:=(zF ⟨[],0,0,[],[]⟩)) (la:=(zF (⟨([]:List Int),0,0,([]:List zW),([]:List zK)⟩:zH))) Try.sizeOf29 rfl rfl rfl rfl)<|zA (zD rfl) ?_
  refine zG<|zd ?_
  cases h
  exact zCB (zF3 Try.isAgg29 Try.sizeOf29 rfl rfl rfl rfl) (zAi rfl rfl) rfl
 refine zU<|zI<|zC<|zA (zR (k:=0) (o:=0) (m:=5) Try.isAgg29 Try.sizeOf29 rfl rfl rfl rfl rfl)<|zA (zB rfl)<|zQ h fun x2 w2 h => ?_
 refine zZ Try.func34 rfl (by kernel_rfl) (.fn 34) rfl rfl (zEP w2) rfl<|zA (zD rfl)<|zG<|zI<|zI<|zC ?_
 refine zA (zB rfl)<|zA (zj rfl rfl)<|zA (zB rfl)<|zb rfl rfl (fun c1=>zv.step (zB rfl))<|zb rfl rfl (fun c2=>zv.step (zL Try.underlying29 rfl rfl Try.sizeOf22 rfl))<|zb rfl rfl (fun c3=>zv.step (zN Try.isAgg22 (zAM rfl c3) rfl rfl rfl)) ?_
 refine zb rfl rfl (fun c4=>zv.step (ze Try.underlying22 (zAM rfl c4)))<|zb rfl rfl (fun c5=>zv.step (zBy (zAM rfl c5) (zAM rfl c5)))<|zA (zg rfl rfl)<|zA (zB rfl)<|zb rfl rfl (fun c6=>zv.step (zB rfl))<|zb rfl rfl (fun c7=>zv.step (zj (zAM rfl c7) rfl)) ?_
 refine zA (zg rfl rfl)<|zG ?_
 refine zY h rfl (fun b2 h => ?_) (fun b2 h => ?_)
 ·refine zI<|zC<|zA zP3<|za (H':=[.box 29 (zF A),.box 29 (zF (⟨([]:List Int),0,0,([]:List zW),([]:List zK)⟩:zH))]) (zT (k:=1) (o:=0) (cs:=(zF ⟨[],0,0,[],[]⟩)) (la:=(zF (⟨([]:List Int),0,0,([]:List zW),([]:List zK)⟩:zH))) Try.sizeOf29 rfl rfl rfl rfl)<|zA (zD rfl)<|zG ?_
  refine zd ?_
  cases h
  exact zCB (zF3 Try.isAgg29 Try.sizeOf29 rfl rfl rfl rfl) (zAi rfl rfl) rfl
 refine zU<|zI<|zI<|zC<|zA (zR (k:=0) (o:=0) (m:=5) Try.isAgg29 Try.sizeOf29 rfl rfl rfl rfl rfl)<|zA (zB rfl) ?_
 refine zA (zB rfl)<|zQ h fun x3 w3 h=>zZ Try.func35 rfl (by kernel_rfl) (.fn 35) rfl rfl (zGx w3) rfl<|zG ?_
 refine zY h rfl (fun b3 h => ?_) (fun b3 h => ?_)
 ·refine zI<|zC<|zA zP3<|za (H':=[.box 29 (zF A),.box 29 (zF (⟨([]:List Int),0,0,([]:List zW),([]:List zK)⟩:zH))]) (zT (k:=1) (o:=0) (cs:=(zF ⟨[],0,0,[],[]⟩)) (la:=(zF (⟨([]:List Int),0,0,([]:List zW),([]:List zK)⟩:zH))) Try.sizeOf29 rfl rfl rfl rfl)<|zA (zD rfl)<|zG ?_
  refine zd ?_
  cases h
  exact zCB (zF3 Try.isAgg29 Try.sizeOf29 rfl rfl rfl rfl) (zAi rfl rfl) rfl
 refine zU<|zI<|zC<|zA (zR (k:=0) (o:=0) (m:=5) Try.isAgg29 Try.sizeOf29 rfl rfl rfl rfl rfl)<|zQ h fun x4 w4 h=>zHU (cs:=[ls cI x4.nodes,li x4.batch,li x4.high,AV.osl 46 10 (List.map zO x4.zones),AV.osl 50 1 (List.map zAQ x4.caches)]) (la:=[(AV.agg (zF A))]) (la':=[(AV.agg (zF A))]) (S:=[]) Try.func42 rfl (by kernel_rfl) (.fn 42) rfl ⟨zBC.nr rfl,trivial⟩ (zDm w4) (.inl rfl) ?_
 refine zAF (zLo (k:=2) (o:=4) (cs:=[ls cI x4.nodes,li x4.batch,li x4.high,AV.osl 46 10 (List.map zO x4.zones),AV.osl 50 1 (List.map zAQ x4.caches)]) (rows':=List.map zJ x4.caches) rfl rfl (zHQ (fun x=>zEV x)))<|zX (H':=[.box 29 (zF A),.box 29 (zF ⟨[],0,0,[],[]⟩),.val (.agg [ls cI x4.nodes,li x4.batch,li x4.high,AV.osl 46 10 (List.map zO x4.zones),AV.osl 50 1 (List.map zJ x4.caches)]),.box 29 (zF ⟨[],0,0,[],[]⟩)]) zv3<|za (H':=[.box 29 (zF A),.box 29 (zF ⟨[],0,0,[],[]⟩),.dead,.box 29 [ls cI x4.nodes,li x4.batch,li x4.high,AV.osl 46 10 (List.map zO x4.zones),AV.osl 50 1 (List.map zJ x4.caches)]]) (zDz (k:=3) (o:=0) (j:=2) (cs:=(zF ⟨[],0,0,[],[]⟩)) (la:=[ls cI x4.nodes,li x4.batch,li x4.high,AV.osl 46 10 (List.map zO x4.zones),AV.osl 50 1 (List.map zJ x4.caches)]) Try.sizeOf29 rfl rfl rfl rfl rfl (by decide))<|zG<|zI<|zAz (zBq (k:=3) (o:=4) (t':=50) (sz:=1) (rows:=List.map zJ x4.caches) rfl rfl) ?_
 refine zM h fun b4 h=>zQ h fun x5 w5 h => ?_
 refine zBe (n:=73) (m:=0) [.head 0 1,.head 0 1,.head 0 1,.head 0 1,.head 0 1,.head 0 1,.head 0 1,.head 0 1,.head 0 1,.head 0 1,.head 0 1,.head 0 1,.head 0 1,.head 0 1,.head 0 2,.head 0 2,.tail 0,.tail 1,.head 2 2,.head 2 2] [16,17] [AV.ptr 3 4,AV.hd 4,li B,(AV.ptr 4 (B.toNat*1)),(AV.agg (zJ (at_ x4.caches B))),li x2,li G,AV.ptr 3 1,li x4.batch,AV.ptr 3 2,li x4.high,(AV.tup [(AV.agg (zJ x5.1)),ls cI x5.2.1,li x5.2.2]),(AV.tup [(AV.agg (zJ x5.1)),ls cI x5.2.1,li x5.2.2]),(AV.agg (zJ x5.1)),ls cI x5.2.1,li x5.2.2,AV.ptr 5 0,.any,ls cI x5.2.1,li x5.2.2] [[.box 29 (zF A),.box 29 (zF ⟨[],0,0,[],[]⟩),.dead,.box 29 [ls cI x4.nodes,li x4.batch,li x4.high,AV.osl 46 10 (List.map zO x4.zones),AV.hd 4],.vec 50 1 (List.map zJ x4.caches)],[.box 29 (zF A),.box 29 (zF ⟨[],0,0,[],[]⟩),.dead,.box 29 [ls cI x4.nodes,li x4.batch,li x4.high,AV.osl 46 10 (List.map zO x4.zones),AV.hd 4],.vec 50 1 (List.map zJ x4.caches),.box 50 [(ls (cS cI) ([]:List (List Int)))]],[.box 29 (zF A),.box 29 (zF ⟨[],0,0,[],[]⟩),.dead,.box 29 [ls cI x4.nodes,li x4.batch,li x4.high,AV.osl 46 10 (List.map zO x4.zones),AV.hd 4],.vec 50 1 (List.map zJ x4.caches),.box 50 (zJ x5.1)]] (by kernel_rfl) (by kernel_rfl) ⟨⟨D1 fun e s p=>zL (k:=3) (o:=0) (off:=4) Try.underlying29 rfl rfl Try.sizeOf27 (s 10 rfl),D1 fun e s p=>zL (k:=3) (o:=0) (off:=4) Try.underlying29 rfl rfl Try.sizeOf27 (s 10 rfl)⟩,⟨D1 fun e s p=>zN (k:=3) (o:=4) Try.isAgg27 p.1 rfl rfl rfl,D1 fun e s p=>zN (k:=3) (o:=4) Try.isAgg27 p.1 rfl rfl rfl⟩,⟨D1 fun e s p=>zB (s 1 rfl),D1 fun e s p=>zB (s 1 rfl)⟩,⟨D1 fun e s p=>zAN (f:=zJ) (l:=x4.caches) (i:=B) Try.underlying27 Try.sizeOf50 p.1 rfl p.2.1 b4,D1 fun e s p=>zAN (f:=zJ) (l:=x4.caches) (i:=B) Try.underlying27 Try.sizeOf50 p.1 rfl p.2.1 b4⟩,⟨D1 fun e s p=>zC9 (f:=zJ) (l:=x4.caches) (i:=B) (c:=0) (q:=1) (la:=(zJ (at_ x4.caches B))) Try.isAgg50 Try.sizeOf50 p.1 rfl (by first | rfl | omega) b4 rfl rfl rfl,D1 fun e s p=>zC9 (f:=zJ) (l:=x4.caches) (i:=B) (c:=0) (q:=1) (la:=(zJ (at_ x4.caches B))) Try.isAgg50 Try.sizeOf50 p.1 rfl (by first | rfl | omega) b4 rfl rfl rfl⟩,⟨D1 fun e s p=>zB (s 9 rfl),D1 fun e s p=>zB (s 9 rfl)⟩,⟨D1 fun e s p=>zB (s 2 rfl),D1 fun e s p=>zB (s 2 rfl)⟩,⟨D1 fun e s p=>zL (k:=3) (o:=0) (off:=1) Try.underlying29 rfl rfl Try.sizeOf3 (s 10 rfl),D1 fun e s p=>zL (k:=3) (o:=0) (off:=1) Try.underlying29 rfl rfl Try.sizeOf3 (s 10 rfl)⟩,⟨D1 fun e s p=>zN (k:=3) (o:=1) Try.isAgg3 p.1 rfl rfl rfl,D1 fun e s p=>zN (k:=3) (o:=1) Try.isAgg3 p.1 rfl rfl rfl⟩,⟨D1 fun e s p=>zL (k:=3) (o:=0) (off:=2) Try.underlying29 rfl rfl Try.sizeOf3 (s 10 rfl),D1 fun e s p=>zL (k:=3) (o:=0) (off:=2) Try.underlying29 rfl rfl Try.sizeOf3 (s 10 rfl)⟩,⟨D1 fun e s p=>zN (k:=3) (o:=2) Try.isAgg3 p.1 rfl rfl rfl,D1 fun e s p=>zN (k:=3) (o:=2) Try.isAgg3 p.1 rfl rfl rfl⟩,⟨?_,?_⟩,⟨D1 fun e s p=>zB p.1,D1 fun e s p=>zB p.1⟩,⟨D1 fun e s p=>zS p.1 rfl,D1 fun e s p=>zS p.1 rfl⟩,⟨D1 fun e s p=>zS p.1 rfl,D1 fun e s p=>zS p.1 rfl,D1 fun e s p=>zS p.1 rfl⟩,⟨D1 fun e s p=>zS p.1 rfl,D1 fun e s p=>zS p.1 rfl,D1 fun e s p=>zS p.1 rfl⟩,?_,?_,D1 fun e s p=>zD p.2.2.2.2.2.2.2.2.2.2.2.2.2.2.2.2.1,D1 fun e s p=>zD p.2.2.2.2.2.2.2.2.2.2.2.2.2.2.2.2.2.1,trivial⟩ ?_
 ·
  intro e23 s23 p23
  refine zZ (r:=(AV.tup [(AV.agg (zJ x5.1)),ls cI x5.2.1,li x5.2.2])) (la:=[(AV.agg (zJ (at_ x4.caches B))),li x2,li G,li x4.batch,li x4.high]) Try.func46 rfl (by kernel_rfl) (.fn 46) (zAe p23.1 (zAe p23.2.1 (zAe p23.2.2.1 (zAe p23.2.2.2.1 (zAe p23.2.2.2.2.1 rfl))))) rfl (zMA w5) rfl ?_
  exact zG ⟨fun _=>rfl,rfl⟩
 ·
  intro e24 s24 p24
  refine zZ (r:=(AV.tup [(AV.agg (zJ x5.1)),ls cI x5.2.1,li x5.2.2])) (la:=[(AV.agg (zJ (at_ x4.caches B))),li x2,li G,li x4.batch,li x4.high]) Try.func46 rfl (by kernel_rfl) (.fn 46) (zAe p24.1 (zAe p24.2.1 (zAe p24.2.2.1 (zAe p24.2.2.2.1 (zAe p24.2.2.2.2.1 rfl))))) rfl (zMA w5) rfl ?_
  exact zG ⟨fun _=>rfl,rfl⟩
 ·
  intro e35 s35 p35
  refine zX (H':=[.box 29 (zF A),.box 29 (zF ⟨[],0,0,[],[]⟩),.dead,.box 29 [ls cI x4.nodes,li x4.batch,li x4.high,AV.osl 46 10 (List.map zO x4.zones),AV.hd 4],.vec 50 1 (List.map zJ x4.caches),.box 50 [(ls (cS cI) ([]:List (List Int)))]]) zv1 ?_
  exact zG ⟨fun _=>rfl,rfl⟩
 ·
  intro e36 s36 p36
  refine za (H':=[.box 29 (zF A),.box 29 (zF ⟨[],0,0,[],[]⟩),.dead,.box 29 [ls cI x4.nodes,li x4.batch,li x4.high,AV.osl 46 10 (List.map zO x4.zones),AV.hd 4],.vec 50 1 (List.map zJ x4.caches),.box 50 (zJ x5.1)]) (zT (k:=5) (o:=0) (cs:=[(ls (cS cI) ([]:List (List Int)))]) (la:=(zJ x5.1)) Try.sizeOf50 (by exact p36.2.2.2.2.2.2.2.2.2.2.2.2.2.2.2.2.2.2.2.1) rfl rfl (by exact p36.2.2.2.2.2.2.2.2.2.2.2.2.2.2.2.2.1)) ?_
  exact zG ⟨fun _=>rfl,rfl⟩
 intro e39 s39 hq1
 refine zAz (zCl (l:=[(1,(li B)),(6,(AV.ptr 1 0)),(9,(li x2)),(10,(AV.ptr 3 0)),(11,(AV.ptr 5 0)),(12,(ls cI x5.2.1)),(13,(li x5.2.2))]) ⟨s39 1 rfl,s39 6 rfl,s39 9 rfl,s39 10 rfl,(hq1 16 (by decide) (by decide)),(hq1 18 (by decide) (by decide)),(hq1 19 (by decide) (by decide)),trivial⟩)<|zI<|zI<|zC<|zA (zB (av:=(li x5.2.2)) rfl)<|zA (zy (a:=x5.2.2) (b:=0) rfl rfl) ?_
 refine zG ?_
 refine zY h rfl (fun b5 h => ?_) (fun b5 h => ?_)
 ·refine zI<|zC<|zA zP3<|zA (zB rfl)<|za (H':=[.box 29 (zF A),.box 29 (zF (⟨([]:List Int),0,0,([]:List zW),([]:List zK)⟩:zH)),.dead,.box 29 [ls cI x4.nodes,li x4.batch,li x4.high,AV.osl 46 10 (List.map zO x4.zones),AV.hd 4],.vec 50 1 (List.map zJ x4.caches),.box 50 (zJ x5.1)]) (zT (k:=1) (o:=0) (cs:=(zF ⟨[],0,0,[],[]⟩)) (la:=(zF (⟨([]:List Int),0,0,([]:List zW),([]:List zK)⟩:zH))) Try.sizeOf29 rfl rfl rfl rfl)<|zA (zD rfl) ?_
  refine zG<|zd ?_
  cases h
  exact zCB (zF3 Try.isAgg29 Try.sizeOf29 rfl rfl rfl rfl) (zAi rfl rfl) rfl
 refine zU<|zI<|zC<|zA (zL Try.underlying29 rfl rfl Try.sizeOf27 rfl)<|zA (zN Try.isAgg27 rfl rfl rfl rfl)<|zA (zB rfl) ?_
 refine zA (zR (k:=5) (o:=0) (m:=1) Try.isAgg50 Try.sizeOf50 rfl rfl rfl rfl rfl)<|zA (zAN (f:=zJ) (l:=x4.caches) (i:=B) Try.underlying27 Try.sizeOf50 rfl rfl rfl b4)<|za (H':=[.box 29 (zF A),.box 29 (zF ⟨[],0,0,[],[]⟩),.dead,.box 29 [ls cI x4.nodes,li x4.batch,li x4.high,AV.osl 46 10 (List.map zO x4.zones),AV.hd 4],.vec 50 1 (List.map zJ (x4.caches.set B.toNat x5.1)),.box 50 (zJ x5.1)]) (zC3 (k:=4) (o:=(B.toNat*1)) (f:=zJ) (l:=x4.caches) (i:=B) (z:=x5.1) Try.sizeOf50 (fun _=>rfl) rfl rfl (by first | rfl | omega) b4 rfl rfl)<|zG<|zI<|zC ?_
 refine zA (zB rfl)<|zA (zB rfl)<|zAF (zAR (k:=3) (j:=4) (o:=4) rfl rfl rfl rfl)<|zQ h fun x6 w6 h=>zEk (k:=3) (la:=[AV.ptr 3 0,li x2,ls cI x5.2.1]) (la':=[AV.ptr 0 0,li x2,ls cI x5.2.1]) (r:=(.tup [])) (S:=[]) (en' := .box 29 [ls cI x6.nodes,li x6.batch,li x6.high,AV.osl 46 10 (List.map zO x6.zones),AV.osl 50 1 (List.map zJ x6.caches)]) Try.func47 rfl (by kernel_rfl) (.fn 47) rfl ⟨zC2.ptr,zC2.of (zBC.nr rfl),zC2.of (zBC.nr rfl),trivial⟩ rfl rfl (by kernel_rfl) (by kernel_rfl) (zJR w6) rfl (.inl rfl)<|zG ?_
 refine zI<|zC<|zAF (zBw (k:=3) (o:=3) (rows':=List.map zO x6.zones) rfl rfl (zAW (fun _=>rfl)))<|zAF (zBw (k:=3) (o:=4) (rows':=List.map zJ x6.caches) rfl rfl (zAW (fun _=>rfl)))<|zA (zR (k:=3) (o:=0) (m:=5) Try.isAgg29 Try.sizeOf29 rfl rfl rfl rfl rfl)<|za (H':=[.box 29 (zF A),.box 29 (zF (⟨x6.nodes,x6.batch,x6.high,x6.zones,x6.caches⟩:zH)),.dead,.box 29 (zF ⟨x6.nodes,x6.batch,x6.high,x6.zones,x6.caches⟩),.dead,.box 50 (zJ x5.1)]) (zT (k:=1) (o:=0) (cs:=(zF ⟨[],0,0,[],[]⟩)) (la:=(zF (⟨x6.nodes,x6.batch,x6.high,x6.zones,x6.caches⟩:zH))) Try.sizeOf29 rfl rfl rfl rfl) ?_
 refine zA (zD rfl)<|zG<|zd ?_
 cases h
 exact zCB (zF3 Try.isAgg29 Try.sizeOf29 rfl rfl rfl rfl) (zAi rfl rfl) rfl
theorem zJ1 {A:zH} {B:Int} {G:Int} {r:zH×Int×Int} (h:zFf A B G=some r):PFn Try.prog 23 [(AV.agg (zF A)),li B,li G] (AV.tup [(AV.agg (zF r.1)),li r.2.1,li r.2.2]):=by
 refine zq Try.func23 rfl Try.ntmps23 Try.results23 rfl ?_
 unfold zFf at h
 refine zI<|zC<|zX (H':=[.box 29 (zF A)]) (z6 (t:=29) rfl)<|zX (H':=[.box 29 (zF A),.box 29 (zF ⟨[],0,0,[],[]⟩)]) zv3<|zA (zD rfl)<|zA (zD rfl) ?_
 refine zG<|zI<|zI<|zC<|zA (zR (k:=0) (o:=0) (m:=5) Try.isAgg29 Try.sizeOf29 rfl rfl rfl rfl rfl)<|zQ h fun x1 w1 h => ?_
 refine zZ Try.func15 rfl (by kernel_rfl) (.fn 15) rfl rfl (zA4 w1) rfl<|zA (zD rfl)<|zG<|zI<|zC<|zA (zB rfl) ?_
 refine zA (zy rfl rfl)<|zG ?_
 refine zY h rfl (fun b1 h => ?_) (fun b1 h => ?_)
 ·refine zI<|zC<|zA zP3<|zA (zB rfl)<|za (H':=[.box 29 (zF A),.box 29 (zF (⟨([]:List Int),0,0,([]:List zW),([]:List zK)⟩:zH))]) (zT (k:=1) (o:=0) (cs:=(zF ⟨[],0,0,[],[]⟩)) (la:=(zF (⟨([]:List Int),0,0,([]:List zW),([]:List zK)⟩:zH))) Try.sizeOf29 rfl rfl rfl rfl)<|zA (zD rfl) ?_
  refine zA (zD rfl)<|zG<|zd ?_
  cases h
  exact zED (zF3 Try.isAgg29 Try.sizeOf29 rfl rfl rfl rfl) (zAi rfl rfl) (zAi rfl rfl) rfl
 refine zU<|zI<|zI<|zC<|zA (zB rfl)<|zA (zj rfl rfl) ?_
 refine zA (zB rfl)<|zb rfl rfl (fun c1=>zv.step (zB rfl))<|zb rfl rfl (fun c2=>zv.step (zL Try.underlying29 rfl rfl Try.sizeOf22 rfl))<|zb rfl rfl (fun c3=>zv.step (zN Try.isAgg22 (zAM rfl c3) rfl rfl rfl))<|zb rfl rfl (fun c4=>zv.step (ze Try.underlying22 (zAM rfl c4)))<|zb rfl rfl (fun c5=>zv.step (zBy (zAM rfl c5) (zAM rfl c5))) ?_
 refine zA (zg rfl rfl)<|zA (zB rfl)<|zb rfl rfl (fun c6=>zv.step (zB rfl))<|zb rfl rfl (fun c7=>zv.step (zj (zAM rfl c7) rfl))<|zA (zg rfl rfl)<|zA (zB rfl) ?_
 refine zb rfl rfl (fun c8=>zv.step (zB rfl))<|zb rfl rfl (fun c9=>zv.step (zBx (zAM rfl c9) rfl))<|zA (zg rfl rfl)<|zG ?_
 refine zY h rfl (fun b2 h => ?_) (fun b2 h => ?_)
 ·refine zI<|zC<|zA zP3<|za (H':=[.box 29 (zF A),.box 29 (zF (⟨([]:List Int),0,0,([]:List zW),([]:List zK)⟩:zH))]) (zT (k:=1) (o:=0) (cs:=(zF ⟨[],0,0,[],[]⟩)) (la:=(zF (⟨([]:List Int),0,0,([]:List zW),([]:List zK)⟩:zH))) Try.sizeOf29 rfl rfl rfl rfl)<|zA (zD rfl)<|zA (zD rfl) ?_
  refine zG<|zd ?_
  cases h
  exact zED (zF3 Try.isAgg29 Try.sizeOf29 rfl rfl rfl rfl) (zAi rfl rfl) (zAi rfl rfl) rfl
 refine zU<|zI<|zC<|zA (zR (k:=0) (o:=0) (m:=5) Try.isAgg29 Try.sizeOf29 rfl rfl rfl rfl rfl)<|zQ h fun x2 w2 h=>zHU (cs:=[ls cI x2.nodes,li x2.batch,li x2.high,AV.osl 46 10 (List.map zO x2.zones),AV.osl 50 1 (List.map zAQ x2.caches)]) (la:=[(AV.agg (zF A))]) (la':=[(AV.agg (zF A))]) (S:=[]) Try.func42 rfl (by kernel_rfl) (.fn 42) rfl ⟨zBC.nr rfl,trivial⟩ (zDm w2) (.inl rfl) ?_
 refine zAF (zLo (k:=2) (o:=4) (cs:=[ls cI x2.nodes,li x2.batch,li x2.high,AV.osl 46 10 (List.map zO x2.zones),AV.osl 50 1 (List.map zAQ x2.caches)]) (rows':=List.map zJ x2.caches) rfl rfl (zHQ (fun x=>zEV x)))<|zX (H':=[.box 29 (zF A),.box 29 (zF ⟨[],0,0,[],[]⟩),.val (.agg [ls cI x2.nodes,li x2.batch,li x2.high,AV.osl 46 10 (List.map zO x2.zones),AV.osl 50 1 (List.map zJ x2.caches)]),.box 29 (zF ⟨[],0,0,[],[]⟩)]) zv3<|za (H':=[.box 29 (zF A),.box 29 (zF ⟨[],0,0,[],[]⟩),.dead,.box 29 [ls cI x2.nodes,li x2.batch,li x2.high,AV.osl 46 10 (List.map zO x2.zones),AV.osl 50 1 (List.map zJ x2.caches)]]) (zDz (k:=3) (o:=0) (j:=2) (cs:=(zF ⟨[],0,0,[],[]⟩)) (la:=[ls cI x2.nodes,li x2.batch,li x2.high,AV.osl 46 10 (List.map zO x2.zones),AV.osl 50 1 (List.map zJ x2.caches)]) Try.sizeOf29 rfl rfl rfl rfl rfl (by decide))<|zG<|zI<|zM h fun b3 h => ?_
 refine zQ h fun x3 w3 h => ?_
 refine zBe (n:=100) (m:=0) [.head 0 0,.head 0 0,.head 0 0,.head 0 0,.head 0 0,.head 0 0,.head 0 0,.head 0 0,.head 0 0,.head 0 0,.head 0 0,.head 0 0,.head 0 0] [] [AV.ptr 0 3,ls zO A.zones,AV.ptr 0 0,ls cI A.nodes,li B,(AV.rp (cI (at_ A.nodes B)) 0),(li (at_ A.nodes B)),(AV.tup [ls cI x3.1,li x3.2]),(AV.tup [ls cI x3.1,li x3.2]),ls cI x3.1,li x3.2,ls cI x3.1,li x3.2] [[.box 29 (zF A),.box 29 (zF ⟨[],0,0,[],[]⟩),.dead,.box 29 [ls cI x2.nodes,li x2.batch,li x2.high,AV.osl 46 10 (List.map zO x2.zones),AV.osl 50 1 (List.map zJ x2.caches)]]] (by kernel_rfl) (by kernel_rfl) ⟨D1 fun e s p=>zL (k:=0) (o:=0) (off:=3) Try.underlying29 rfl rfl Try.sizeOf26 (s 3 rfl),D1 fun e s p=>zN (k:=0) (o:=3) Try.isAgg26 p.1 rfl rfl rfl,D1 fun e s p=>zL (k:=0) (o:=0) (off:=0) Try.underlying29 rfl rfl Try.sizeOf22 (s 3 rfl),D1 fun e s p=>zN (k:=0) (o:=0) Try.isAgg22 p.1 rfl rfl rfl,D1 fun e s p=>zB (s 1 rfl),D1 fun e s p=>zm (f:=cI) (l:=A.nodes) (i:=B) Try.underlying22 Try.sizeOf3 (fun _=>rfl) p.1 p.2.1 b3,D1 fun e s p=>zp (o:=0) Try.isAgg3 p.1 rfl,?_,D1 fun e s p=>zB p.1,D1 fun e s p=>zS p.1 rfl,D1 fun e s p=>zS p.1 rfl,D1 fun e s p=>zD p.2.2.2.2.2.2.2.2.2.2.2.1,D1 fun e s p=>zD p.2.2.2.2.2.2.2.2.2.2.2.2.1,trivial⟩ ?_
 ·
  intro e8 s8 p8
  refine zZ (r:=(AV.tup [ls cI x3.1,li x3.2])) (la:=[ls zO A.zones,(li (at_ A.nodes B)),(AV.lit (.bool false))]) Try.func40 rfl (by kernel_rfl) (.fn 40) (zAe p8.1 (zAe p8.2.1 (zAe rfl rfl))) rfl (zJS w3) rfl ?_
  exact zG ⟨fun _=>rfl,rfl⟩
 intro e14 s14 hq1
 refine zAz (zCl (l:=[(2,(li G)),(6,(AV.ptr 1 0)),(10,(AV.ptr 3 0)),(11,(ls cI x3.1))]) ⟨s14 2 rfl,s14 6 rfl,s14 10 rfl,(hq1 11 (by decide) (by decide)),trivial⟩) ?_
 refine zAA (r:=r) (fun (_:Unit)=>mkE [(6,(AV.ptr 0 0))]) (fun _=>[.box 29 (zF ⟨[],0,0,[],[]⟩)]) (fun _=>zEe ) ?_ ?_
 ·
  refine zI<|zC<|zA (zB rfl)<|zA (ze Try.underlying22 rfl)<|zA (zB rfl)<|zG ?_
  refine zV<|z9 (σ:=Int×(List Int)×Int×Int×(List zW)×(List zK)) (fun (i1,d1,d2,d3,l1,l2)=>mkE [(2,(li G)),(6,(AV.ptr 0 0)),(10,(AV.ptr 1 0)),(56,(ls cI x3.1)),(57,(li (x3.1.length:Int))),(58,(li i1))]) (fun (i1,d1,d2,d3,l1,l2)=>[.box 29 (zF ⟨[],0,0,[],[]⟩),.box 29 [ls cI d1,li d2,li d3,AV.osl 46 10 (List.map zO l1),AV.osl 50 1 (List.map zJ l2)]]) (fun n0 (i1,d1,d2,d3,l1,l2)=>zAo G x3 n0 i1 d1 d2 d3 l1 l2) (0,x2.nodes,x2.batch,x2.high,x2.zones,x2.caches) h (fun _=>rfl) (zAd [1,3] rfl rfl (by kernel_rfl)) ?_
  clear h
  rintro n0 ⟨i1,d1,d2,d3,l1,l2⟩ h
  replace h:zET G x3 (zAo G x3 n0) i1 d1 d2 d3 l1 l2=some r:=h
  unfold zET at h
  refine zI<|zC<|zA (zj rfl rfl)<|zG<|zI ?_
  refine zY h rfl (fun b4 h => ?_) (fun b4 h => ?_)
  ·refine zU ?_
   refine zAA (r:=r) (fun ((d4,d5,d6,l3,l4):(List Int)×Int×Int×(List zW)×(List zK))=>mkE [(2,(li G)),(6,(AV.ptr 0 0)),(10,(AV.ptr 1 0)),(56,(ls cI x3.1)),(57,(li (x3.1.length:Int))),(58,(li i1))]) (fun (d4,d5,d6,l3,l4)=>[.box 29 (zF ⟨[],0,0,[],[]⟩),.box 29 [ls cI d4,li d5,li d6,AV.osl 46 10 (List.map zO l3),AV.osl 50 1 (List.map zJ l4)]]) (fun (d4,d5,d6,l3,l4)=>zC5 (zAo G x3 n0) i1 d4 d5 d6 l3 l4) ?_ ?_
   ·
    refine zV<|zI<|zC<|zM h fun b6 h=>zA (zm Try.underlying22 Try.sizeOf3 (fun _=>rfl) rfl rfl b6)<|zA (zp (o:=0) Try.isAgg3 rfl rfl) ?_
    refine zA (zD rfl)<|zG<|zI<|zI<|zAz (zBq (k:=1) (o:=3) (t':=46) (sz:=10) (rows:=List.map zO l1) rfl rfl)<|zAz (zBq (k:=1) (o:=4) (t':=50) (sz:=1) (rows:=List.map zJ l2) rfl rfl) ?_
    refine zQ h fun x4 w4 h=>zM h fun b7 h=>zM h fun b8 h => ?_
    refine zBe (n:=100) (m:=0) [.head 0 0,.head 0 0,.head 0 0,.head 0 0,.head 0 0,.head 0 0] [] [(AV.agg [ls cI d1,li d2,li d3,AV.hd 2,AV.hd 3]),(li (at_ x3.1 i1)),li x4,li G,(li ((1:Int)*2 ^ G.toNat)),(AV.lit (.bool (decide (x4<((1:Int)*2 ^ G.toNat)))))] [[.box 29 (zF ⟨[],0,0,[],[]⟩),.box 29 [ls cI d1,li d2,li d3,AV.hd 2,AV.hd 3],.vec 46 10 (List.map zO l1),.vec 50 1 (List.map zJ l2)]] (by kernel_rfl) (by kernel_rfl) ⟨D1 fun e s p=>zR (k:=1) (o:=0) (m:=5) Try.isAgg29 Try.sizeOf29 (s 10 rfl) rfl rfl rfl rfl,D1 fun e s p=>zB (s 14 rfl),?_,D1 fun e s p=>zB (s 2 rfl),D1 fun e s p=>zGo (a:=1) (b:=G) rfl p.1 b7 b8,D1 fun e s p=>zj (a:=x4) (b:=(1:Int)*2 ^ G.toNat) p.1 p.2.1,trivial⟩ ?_
    ·
     intro e17 s17 p16
     refine zAq (r':=(li x4)) (la:=[(AV.agg [ls cI d1,li d2,li d3,AV.hd 2,AV.hd 3]),(li (at_ x3.1 i1))]) (la':=[(AV.agg (zF ⟨d1,d2,d3,l1,l2⟩)),(li (at_ x3.1 i1))]) (r:=(li x4)) (S:=[2,3]) Try.func39 rfl (by kernel_rfl) (.fn 39) (zAe p16.1 (zAe p16.2.1 rfl)) ⟨zBC.agg (by exact ⟨zBC.nr rfl,⟨zBC.nr rfl,⟨zBC.nr rfl,⟨zGn (fun _=>rfl) rfl rfl,⟨zGn (fun _=>rfl) rfl rfl,trivial⟩⟩⟩⟩⟩),zBC.nr rfl,trivial⟩ (zFc w4) (.inr trivial) rfl ?_
     exact zG ⟨fun _=>rfl,rfl⟩
    intro e21 s21 hq2
    refine zAz (zCl (l:=[(2,(li G)),(6,(AV.ptr 0 0)),(10,(AV.ptr 1 0)),(14,(li (at_ x3.1 i1))),(56,(ls cI x3.1)),(57,(li (x3.1.length:Int))),(58,(li i1)),(67,(AV.lit (.bool (decide (x4<((1:Int)*2 ^ G.toNat))))))]) ⟨s21 2 rfl,s21 6 rfl,s21 10 rfl,s21 14 rfl,s21 56 rfl,s21 57 rfl,s21 58 rfl,(hq2 5 (by decide) (by decide)),trivial⟩) ?_
    refine zY h rfl (fun b9 h => ?_) (fun b9 h => ?_)
    ·refine zAG ?_
     exact ⟨(d1,d2,d3,l1,l2),Rep.trans (zAR (k:=1) (j:=2) (o:=3) rfl rfl rfl rfl) (Rep.trans (zAR (k:=1) (j:=3) (o:=4) rfl rfl rfl rfl) (zAd [0,1] (l:=[(2,(li G)),(6,(AV.ptr 0 0)),(10,(AV.ptr 1 0)),(56,(ls cI x3.1)),(57,(li (x3.1.length:Int))),(58,(li i1))]) rfl rfl (by kernel_rfl))),h⟩
    refine zU ?_
    refine zAA (r:=r) (fun ((d7,d8,d9,l5,l6):(List Int)×Int×Int×(List zW)×(List zK))=>mkE [(2,(li G)),(6,(AV.ptr 0 0)),(10,(AV.ptr 1 0)),(14,(li (at_ x3.1 i1))),(56,(ls cI x3.1)),(57,(li (x3.1.length:Int))),(58,(li i1))]) (fun (d7,d8,d9,l5,l6)=>[.box 29 (zF ⟨[],0,0,[],[]⟩),.box 29 [ls cI d7,li d8,li d9,AV.osl 46 10 (List.map zO l5),AV.osl 50 1 (List.map zJ l6)]]) (fun (d7,d8,d9,l5,l6)=>zEW (zAo G x3 n0) G x3 i1 d7 d8 d9 l5 l6) ?_ ?_
    ·
     refine zI<|zC<|zA (zL Try.underlying29 rfl rfl Try.sizeOf27 rfl)<|zA (zN Try.isAgg27 rfl rfl rfl rfl)<|zA (zDd (f:=zJ) (l:=l2) Try.underlying27 rfl rfl)<|zA (zB rfl) ?_
     refine zG<|zV<|z9 (σ:=Int×(List Int)×Int×Int×(List zW)×(List zK)) (fun (i2,d10,d11,d12,l7,l8)=>mkE [(2,(li G)),(6,(AV.ptr 0 0)),(10,(AV.ptr 1 0)),(14,(li (at_ x3.1 i1))),(56,(ls cI x3.1)),(57,(li (x3.1.length:Int))),(58,(li i1)),(70,(li (l2.length:Int))),(71,(li i2))]) (fun (i2,d10,d11,d12,l7,l8)=>[.box 29 (zF ⟨[],0,0,[],[]⟩),.box 29 [ls cI d10,li d11,li d12,AV.osl 46 10 (List.map zO l7),AV.osl 50 1 (List.map zJ l8)]]) (fun n1 (i2,d10,d11,d12,l7,l8)=>zC1 (zAo G x3 n0) G x3 i1 l2 n1 i2 d10 d11 d12 l7 l8) (0,d1,d2,d3,l1,l2) h (fun _=>rfl) (Rep.trans (zAR (k:=1) (j:=2) (o:=3) rfl rfl rfl rfl) (Rep.trans (zAR (k:=1) (j:=3) (o:=4) rfl rfl rfl rfl) (zAd [0,1] (l:=[(2,(li G)),(6,(AV.ptr 0 0)),(10,(AV.ptr 1 0)),(14,(li (at_ x3.1 i1))),(56,(ls cI x3.1)),(57,(li (x3.1.length:Int))),(58,(li i1)),(70,(li (l2.length:Int))),(71,(li 0))]) rfl rfl (by kernel_rfl)))) ?_
     clear h
     rintro n1 ⟨i2,d10,d11,d12,l7,l8⟩ h
     replace h:zEX (zAo G x3 n0) G x3 i1 l2 (zC1 (zAo G x3 n0) G x3 i1 l2 n1) i2 d10 d11 d12 l7 l8=some r:=h
     unfold zEX at h
     refine zI<|zC<|zA (zj rfl rfl)<|zG<|zI ?_
     refine zY h rfl (fun b12 h => ?_) (fun b12 h => ?_)
     ·refine zU<|zI<|zV<|zI<|zC<|zA (zB rfl) ?_
      refine zA (zD rfl)<|zG<|zC<|zA (zB rfl)<|zA (zB rfl)<|zQ h fun x6 w6 h => ?_
      refine zEk (k:=1) (la:=[AV.ptr 1 0,li i2,(li (at_ x3.1 i1))]) (la':=[AV.ptr 0 0,li i2,(li (at_ x3.1 i1))]) (r:=(.tup [])) (S:=[]) (en' := .box 29 [ls cI x6.nodes,li x6.batch,li x6.high,AV.osl 46 10 (List.map zO x6.zones),AV.osl 50 1 (List.map zJ x6.caches)]) Try.func44 rfl (by kernel_rfl) (.fn 44) rfl ⟨zC2.ptr,zC2.of (zBC.nr rfl),zC2.of (zBC.nr rfl),trivial⟩ rfl rfl (by kernel_rfl) (by kernel_rfl) (zGh w6) rfl (.inl rfl)<|zG<|zC<|zM h fun b13 h=>zA (zi rfl rfl b13)<|zA (zB rfl) ?_
      refine zG ?_
      exact ⟨((i2+1),x6.nodes,x6.batch,x6.high,x6.zones,x6.caches),zAd [0,1] rfl rfl (by kernel_rfl),h⟩
     refine zAG ?_
     exact ⟨(d10,d11,d12,l7,l8),zAd [0,1] rfl rfl (by kernel_rfl),h⟩
    clear h
    rintro ⟨d7,d8,d9,l5,l6⟩ h
    unfold zEW at h
    refine zI<|zC<|zA (zL Try.underlying29 rfl rfl Try.sizeOf26 rfl)<|zAF (zBq (k:=1) (o:=3) (t':=46) (sz:=10) (rows:=List.map zO l5) rfl rfl)<|zA (zN Try.isAgg26 rfl rfl rfl rfl)<|zA (zB rfl) ?_
    refine zM h fun b10 h=>zA (zAN (f:=zO) (l:=l5) (i:=at_ x3.1 i1) Try.underlying26 Try.sizeOf46 rfl rfl rfl b10)<|zA (zC9 (f:=zO) (l:=l5) (i:=at_ x3.1 i1) (c:=0) (q:=10) (la:=(zO (at_ l5 (at_ x3.1 i1)))) Try.isAgg46 Try.sizeOf46 rfl rfl (by first | rfl | omega) b10 rfl rfl rfl)<|zA (zB rfl)<|zQ h fun x5 w5 h=>zZ Try.func48 rfl (by kernel_rfl) (.fn 48) rfl rfl (zLC w5) rfl ?_
    refine zA (zB rfl)<|zA (zS rfl rfl)<|zA (zS rfl rfl)<|zA (zS rfl rfl)<|zX (H':=[.box 29 (zF ⟨[],0,0,[],[]⟩),.box 29 [ls cI d7,li d8,li d9,AV.hd 2,AV.osl 50 1 (List.map zJ l6)],.vec 46 10 (List.map zO l5),.box 46 (zO ⟨0,0,0,0,0,(List.replicate 5 ([]:List Int))⟩)]) zv0<|za (H':=[.box 29 (zF ⟨[],0,0,[],[]⟩),.box 29 [ls cI d7,li d8,li d9,AV.hd 2,AV.osl 50 1 (List.map zJ l6)],.vec 46 10 (List.map zO l5),.box 46 (zO x5.1)]) (zT (k:=3) (o:=0) (cs:=(zO ⟨0,0,0,0,0,(List.replicate 5 ([]:List Int))⟩)) (la:=(zO x5.1)) Try.sizeOf46 rfl rfl rfl rfl) ?_
    refine zA (zD rfl)<|zA (zD rfl)<|zG<|zI<|zC<|zA (zB rfl) ?_
    refine zA (zBO rfl rfl)<|zG ?_
    refine zY h rfl (fun b11 h => ?_) (fun b11 h => ?_)
    ·refine zI<|zC<|zA (zL Try.underlying29 rfl rfl Try.sizeOf26 rfl)<|zA (zN Try.isAgg26 rfl rfl rfl rfl)<|zA (zB rfl)<|zA (zR (k:=3) (o:=0) (m:=10) Try.isAgg46 Try.sizeOf46 rfl rfl rfl rfl rfl) ?_
     refine zA (zAN (f:=zO) (l:=l5) (i:=at_ x3.1 i1) Try.underlying26 Try.sizeOf46 rfl rfl rfl b10)<|za (H':=[.box 29 (zF ⟨[],0,0,[],[]⟩),.box 29 [ls cI d7,li d8,li d9,AV.hd 2,AV.osl 50 1 (List.map zJ l6)],.vec 46 10 (List.map zO (l5.set (at_ x3.1 i1).toNat x5.1)),.box 46 (zO x5.1)]) (zC3 (k:=2) (o:=((at_ x3.1 i1).toNat*10)) (f:=zO) (l:=l5) (i:=at_ x3.1 i1) (z:=x5.1) Try.sizeOf46 (fun _=>rfl) rfl rfl (by first | rfl | omega) b10 rfl rfl)<|zG<|zI<|zC<|zAF (zAR (k:=1) (j:=2) (o:=3) rfl rfl rfl rfl) ?_
     refine zAF (zBw (k:=1) (o:=3) (rows':=List.map zO (l5.set (at_ x3.1 i1).toNat x5.1)) rfl rfl (zAW (fun _=>rfl)))<|zAF (zBw (k:=1) (o:=4) (rows':=List.map zJ l6) rfl rfl (zAW (fun _=>rfl)))<|zA (zR (k:=1) (o:=0) (m:=5) Try.isAgg29 Try.sizeOf29 rfl rfl rfl rfl rfl)<|zA (zB rfl)<|za (H':=[.box 29 (zF (⟨d7,d8,d9,l5.set (at_ x3.1 i1).toNat x5.1,l6⟩:zH)),.box 29 (zF ⟨d7,d8,d9,(l5.set (at_ x3.1 i1).toNat x5.1),l6⟩),.dead,.box 46 (zO x5.1)]) (zT (k:=0) (o:=0) (cs:=(zF ⟨[],0,0,[],[]⟩)) (la:=(zF (⟨d7,d8,d9,l5.set (at_ x3.1 i1).toNat x5.1,l6⟩:zH))) Try.sizeOf29 rfl rfl rfl rfl)<|zA (zD rfl) ?_
     refine zA (zD rfl)<|zG<|zd ?_
     cases h
     exact zED (zF3 Try.isAgg29 Try.sizeOf29 rfl rfl rfl rfl) (zAi rfl rfl) (zAi rfl rfl) rfl
    refine zU ?_
    exact ⟨(d7,d8,d9,l5,l6),Rep.trans (zAR (k:=1) (j:=2) (o:=3) rfl rfl rfl rfl) (zAd [0,1] (l:=[(2,(li G)),(6,(AV.ptr 0 0)),(10,(AV.ptr 1 0)),(56,(ls cI x3.1)),(57,(li (x3.1.length:Int))),(58,(li i1))]) rfl rfl (by kernel_rfl)),h⟩
   clear h
   rintro ⟨d4,d5,d6,l3,l4⟩ h
   unfold zC5 at h
   refine zC<|zM h fun b5 h=>zA (zi rfl rfl b5)<|zA (zB rfl)<|zG ?_
   exact ⟨((i1+1),d4,d5,d6,l3,l4),zAd [0,1] rfl rfl (by kernel_rfl),h⟩
  refine zAG ?_
  exact ⟨(),zAd [0] rfl rfl (by kernel_rfl),h⟩
 clear h
 intro _ h
 unfold zEe at h
 refine zI<|zC<|zA zP3<|za (H':=[.box 29 (zF (⟨([]:List Int),0,0,([]:List zW),([]:List zK)⟩:zH))]) (zT (k:=0) (o:=0) (cs:=(zF ⟨[],0,0,[],[]⟩)) (la:=(zF (⟨([]:List Int),0,0,([]:List zW),([]:List zK)⟩:zH))) Try.sizeOf29 rfl rfl rfl rfl)<|zA (zD rfl)<|zA (zD rfl) ?_
 refine zG<|zd ?_
 cases h
 exact zED (zF3 Try.isAgg29 Try.sizeOf29 rfl rfl rfl rfl) (zAi rfl rfl) (zAi rfl rfl) rfl
theorem zIi {C:zH} {r:zH} (h:zDR C=some r):PFn Try.prog 22 [(AV.agg (zF C))] (AV.agg (zF r)):=by
 refine zq Try.func22 rfl Try.ntmps22 Try.results22 rfl ?_
 unfold zDR at h
 refine zI<|zC<|zX (H':=[.box 29 (zF C)]) (z6 (t:=29) rfl)<|zX (H':=[.box 29 (zF C),.box 29 (zF ⟨[],0,0,[],[]⟩)]) zv3<|zG<|zI ?_
 refine zI<|zC<|zA (zR (k:=0) (o:=0) (m:=5) Try.isAgg29 Try.sizeOf29 rfl rfl rfl rfl rfl)<|zQ h fun x1 w1 h=>zZ Try.func15 rfl (by kernel_rfl) (.fn 15) rfl rfl (zA4 w1) rfl<|zA (zy rfl rfl) ?_
 refine zG ?_
 refine zY h rfl (fun b1 h => ?_) (fun b1 h => ?_)
 ·refine zI<|zC<|zA zP3<|za (H':=[.box 29 (zF C),.box 29 (zF (⟨([]:List Int),0,0,([]:List zW),([]:List zK)⟩:zH))]) (zT (k:=1) (o:=0) (cs:=(zF ⟨[],0,0,[],[]⟩)) (la:=(zF (⟨([]:List Int),0,0,([]:List zW),([]:List zK)⟩:zH))) Try.sizeOf29 rfl rfl rfl rfl)<|zG<|zd ?_
  cases h
  exact zx (zF3 Try.isAgg29 Try.sizeOf29 rfl rfl rfl rfl)
 refine zU<|zI<|zC<|zA (zR (k:=0) (o:=0) (m:=5) Try.isAgg29 Try.sizeOf29 rfl rfl rfl rfl rfl)<|zQ h fun x2 w2 h=>zHU (cs:=[ls cI x2.nodes,li x2.batch,li x2.high,AV.osl 46 10 (List.map zO x2.zones),AV.osl 50 1 (List.map zAQ x2.caches)]) (la:=[(AV.agg (zF C))]) (la':=[(AV.agg (zF C))]) (S:=[]) Try.func42 rfl (by kernel_rfl) (.fn 42) rfl ⟨zBC.nr rfl,trivial⟩ (zDm w2) (.inl rfl) ?_
 refine zAF (zLo (k:=2) (o:=4) (cs:=[ls cI x2.nodes,li x2.batch,li x2.high,AV.osl 46 10 (List.map zO x2.zones),AV.osl 50 1 (List.map zAQ x2.caches)]) (rows':=List.map zJ x2.caches) rfl rfl (zHQ (fun x=>zEV x)))<|zX (H':=[.box 29 (zF C),.box 29 (zF ⟨[],0,0,[],[]⟩),.val (.agg [ls cI x2.nodes,li x2.batch,li x2.high,AV.osl 46 10 (List.map zO x2.zones),AV.osl 50 1 (List.map zJ x2.caches)]),.box 29 (zF ⟨[],0,0,[],[]⟩)]) zv3<|za (H':=[.box 29 (zF C),.box 29 (zF ⟨[],0,0,[],[]⟩),.dead,.box 29 [ls cI x2.nodes,li x2.batch,li x2.high,AV.osl 46 10 (List.map zO x2.zones),AV.osl 50 1 (List.map zJ x2.caches)]]) (zDz (k:=3) (o:=0) (j:=2) (cs:=(zF ⟨[],0,0,[],[]⟩)) (la:=[ls cI x2.nodes,li x2.batch,li x2.high,AV.osl 46 10 (List.map zO x2.zones),AV.osl 50 1 (List.map zJ x2.caches)]) Try.sizeOf29 rfl rfl rfl rfl rfl (by decide))<|zG ?_
 refine zAA (r:=r) (fun ((d1,d2,d3,l1,l2):(List Int)×Int×Int×(List zW)×(List zK))=>mkE [(2,(AV.ptr 0 0)),(3,(AV.ptr 1 0))]) (fun (d1,d2,d3,l1,l2)=>[.box 29 (zF ⟨[],0,0,[],[]⟩),.box 29 [ls cI d1,li d2,li d3,AV.osl 46 10 (List.map zO l1),AV.osl 50 1 (List.map zJ l2)]]) (fun (d1,d2,d3,l1,l2)=>zGY d1 d2 d3 l1 l2) ?_ ?_
 ·
  refine zI<|zC<|zA (zL Try.underlying29 rfl rfl Try.sizeOf27 rfl)<|zAF (zBq (k:=3) (o:=4) (t':=50) (sz:=1) (rows:=List.map zJ x2.caches) rfl rfl)<|zA (zN Try.isAgg27 rfl rfl rfl rfl)<|zA (zDd (f:=zJ) (l:=x2.caches) Try.underlying27 rfl rfl) ?_
  refine zA (zB rfl)<|zG<|zV<|z9 (σ:=Int×(List Int)×Int×Int×(List zW)×(List zK)) (fun (i1,d4,d5,d6,l3,l4)=>mkE [(2,(AV.ptr 0 0)),(3,(AV.ptr 1 0)),(14,(li (x2.caches.length:Int))),(15,(li i1))]) (fun (i1,d4,d5,d6,l3,l4)=>[.box 29 (zF ⟨[],0,0,[],[]⟩),.box 29 [ls cI d4,li d5,li d6,AV.osl 46 10 (List.map zO l3),AV.osl 50 1 (List.map zJ l4)]]) (fun n0 (i1,d4,d5,d6,l3,l4)=>zBS x2 n0 i1 d4 d5 d6 l3 l4) (0,x2.nodes,x2.batch,x2.high,x2.zones,x2.caches) h (fun _=>rfl) (Rep.trans (zAR (k:=3) (j:=4) (o:=4) rfl rfl rfl rfl) (zAd [1,3] (l:=[(2,(AV.ptr 0 0)),(3,(AV.ptr 1 0)),(14,(li (x2.caches.length:Int))),(15,(li 0))]) rfl rfl (by kernel_rfl))) ?_
  clear h
  rintro n0 ⟨i1,d4,d5,d6,l3,l4⟩ h
  replace h:zCP x2 (zBS x2 n0) i1 d4 d5 d6 l3 l4=some r:=h
  unfold zCP at h
  refine zI<|zC<|zA (zj rfl rfl)<|zG<|zI ?_
  refine zY h rfl (fun b2 h => ?_) (fun b2 h => ?_)
  ·refine zU ?_
   refine zAA (r:=r) (fun ((d7,d8,d9,l5,l6):(List Int)×Int×Int×(List zW)×(List zK))=>mkE [(2,(AV.ptr 0 0)),(3,(AV.ptr 1 0)),(14,(li (x2.caches.length:Int))),(15,(li i1))]) (fun (d7,d8,d9,l5,l6)=>[.box 29 (zF ⟨[],0,0,[],[]⟩),.box 29 [ls cI d7,li d8,li d9,AV.osl 46 10 (List.map zO l5),AV.osl 50 1 (List.map zJ l6)]]) (fun (d7,d8,d9,l5,l6)=>zE0 (zBS x2 n0) i1 d7 d8 d9 l5 l6) ?_ ?_
   ·
    refine zV<|zI<|zC<|zA (zB rfl)<|zA (zD rfl)<|zG ?_
    refine zI<|zC<|zA (zL Try.underlying29 rfl rfl Try.sizeOf26 rfl)<|zAF (zBq (k:=1) (o:=3) (t':=46) (sz:=10) (rows:=List.map zO l3) rfl rfl)<|zA (zN Try.isAgg26 rfl rfl rfl rfl)<|zA (zDd (f:=zO) (l:=l3) Try.underlying26 rfl rfl) ?_
    refine zA (zB rfl)<|zG<|zV<|z9 (σ:=Int×(List Int)×Int×Int×(List zW)×(List zK)) (fun (i2,d10,d11,d12,l7,l8)=>mkE [(2,(AV.ptr 0 0)),(3,(AV.ptr 1 0)),(4,(li i1)),(14,(li (x2.caches.length:Int))),(15,(li i1)),(20,(li (l3.length:Int))),(21,(li i2))]) (fun (i2,d10,d11,d12,l7,l8)=>[.box 29 (zF ⟨[],0,0,[],[]⟩),.box 29 [ls cI d10,li d11,li d12,AV.osl 46 10 (List.map zO l7),AV.osl 50 1 (List.map zJ l8)]]) (fun n1 (i2,d10,d11,d12,l7,l8)=>zDs (zBS x2 n0) i1 l3 n1 i2 d10 d11 d12 l7 l8) (0,d4,d5,d6,l3,l4) h (fun _=>rfl) (Rep.trans (zAR (k:=1) (j:=2) (o:=3) rfl rfl rfl rfl) (zAd [0,1] (l:=[(2,(AV.ptr 0 0)),(3,(AV.ptr 1 0)),(4,(li i1)),(14,(li (x2.caches.length:Int))),(15,(li i1)),(20,(li (l3.length:Int))),(21,(li 0))]) rfl rfl (by kernel_rfl))) ?_
    clear h
    rintro n1 ⟨i2,d10,d11,d12,l7,l8⟩ h
    replace h:zCJ (zBS x2 n0) i1 l3 (zDs (zBS x2 n0) i1 l3 n1) i2 d10 d11 d12 l7 l8=some r:=h
    unfold zCJ at h
    refine zI<|zC<|zA (zj rfl rfl)<|zG<|zI ?_
    refine zY h rfl (fun b4 h => ?_) (fun b4 h => ?_)
    ·refine zU<|zI<|zV<|zI<|zC<|zA (zB rfl) ?_
     refine zA (zD rfl)<|zG<|zC<|zA (zB rfl)<|zA (zB rfl)<|zQ h fun x3 w3 h => ?_
     refine zEk (k:=1) (la:=[AV.ptr 1 0,li i1,li i2]) (la':=[AV.ptr 0 0,li i1,li i2]) (r:=(.tup [])) (S:=[]) (en' := .box 29 [ls cI x3.nodes,li x3.batch,li x3.high,AV.osl 46 10 (List.map zO x3.zones),AV.osl 50 1 (List.map zJ x3.caches)]) Try.func44 rfl (by kernel_rfl) (.fn 44) rfl ⟨zC2.ptr,zC2.of (zBC.nr rfl),zC2.of (zBC.nr rfl),trivial⟩ rfl rfl (by kernel_rfl) (by kernel_rfl) (zGh w3) rfl (.inl rfl)<|zG<|zC<|zM h fun b5 h=>zA (zi rfl rfl b5)<|zA (zB rfl) ?_
     refine zG ?_
     exact ⟨((i2+1),x3.nodes,x3.batch,x3.high,x3.zones,x3.caches),zAd [0,1] rfl rfl (by kernel_rfl),h⟩
    refine zAG ?_
    exact ⟨(d10,d11,d12,l7,l8),zAd [0,1] rfl rfl (by kernel_rfl),h⟩
   clear h
   rintro ⟨d7,d8,d9,l5,l6⟩ h
   unfold zE0 at h
   refine zC<|zM h fun b3 h=>zA (zi rfl rfl b3)<|zA (zB rfl)<|zG ?_
   exact ⟨((i1+1),d7,d8,d9,l5,l6),zAd [0,1] rfl rfl (by kernel_rfl),h⟩
  refine zAG ?_
  exact ⟨(d4,d5,d6,l3,l4),zAd [0,1] rfl rfl (by kernel_rfl),h⟩
 clear h
 rintro ⟨d1,d2,d3,l1,l2⟩ h
 unfold zGY at h
 refine zI<|zC<|zAF (zBw (k:=1) (o:=3) (rows':=List.map zO l1) rfl rfl (zAW (fun _=>rfl)))<|zAF (zBw (k:=1) (o:=4) (rows':=List.map zJ l2) rfl rfl (zAW (fun _=>rfl)))<|zA (zR (k:=1) (o:=0) (m:=5) Try.isAgg29 Try.sizeOf29 rfl rfl rfl rfl rfl)<|za (H':=[.box 29 (zF (⟨d1,d2,d3,l1,l2⟩:zH)),.box 29 (zF ⟨d1,d2,d3,l1,l2⟩)]) (zT (k:=0) (o:=0) (cs:=(zF ⟨[],0,0,[],[]⟩)) (la:=(zF (⟨d1,d2,d3,l1,l2⟩:zH))) Try.sizeOf29 rfl rfl rfl rfl) ?_
 refine zG<|zd ?_
 cases h
 exact zx (zF3 Try.isAgg29 Try.sizeOf29 rfl rfl rfl rfl)
theorem zJK {C:List Int} {V:List Int} {r:Bool} (h:zHC C V=some r):PFn Try.prog 30 [ls cI C,ls cI V] (AV.lit (.bool r)):=by
 refine zq Try.func30 rfl Try.ntmps30 Try.results30 rfl ?_
 unfold zHC at h
 refine zI<|zC<|zA (zD rfl)<|zG<|zI<|zI ?_
 refine zC<|zA (zB rfl)<|zA (ze Try.underlying22 rfl)<|zA (zB rfl)<|zA (ze Try.underlying22 rfl)<|zA (zy rfl rfl) ?_
 refine zG ?_
 refine zY h rfl (fun b1 h => ?_) (fun b1 h => ?_)
 ·refine zI<|zC<|zA (zD rfl)<|zG<|zd ?_
  cases h
  exact zx (zAi rfl rfl)
 refine zU ?_
 refine zAA (r:=r) (fun (_:Unit)=>mkE []) (fun _=>[]) (fun _=>zG8 ) ?_ ?_
 ·
  refine zI<|zC<|zA (zB rfl)<|zA (ze Try.underlying22 rfl)<|zA (zB rfl)<|zG ?_
  refine zV<|z9 (σ:=Int) (fun i1=>mkE [(0,(ls cI C)),(1,(ls cI V)),(12,(li (C.length:Int))),(13,(li i1))]) (fun i1=>[]) (fun n0 i1=>zFa C V n0 i1) 0 h (fun _=>rfl) (zAd [] rfl rfl (by kernel_rfl)) ?_
  clear h
  intro n0 i1 h
  replace h:zGw C V (zFa C V n0) i1=some r:=h
  unfold zGw at h
  refine zI<|zC<|zA (zj rfl rfl)<|zG<|zI ?_
  refine zY h rfl (fun b2 h => ?_) (fun b2 h => ?_)
  ·refine zU<|zI<|zV<|zI<|zC<|zA (zB rfl) ?_
   refine zA (zD rfl)<|zG<|zI<|zM h fun b3 h=>zM h fun b4 h => ?_
   refine zBe (n:=26) (m:=0) [.head 0 0,.head 0 0,.head 0 0,.head 0 0,.head 0 0,.head 0 0,.head 0 0,.head 0 0,.head 0 0] [] [ls cI C,li i1,(AV.rp (cI (at_ C i1)) 0),(li (at_ C i1)),ls cI V,li i1,(AV.rp (cI (at_ V i1)) 0),(li (at_ V i1)),(AV.lit (.bool (!decide ((at_ C i1)=(at_ V i1)))))] [[]] (by kernel_rfl) (by kernel_rfl) ⟨D1 fun e s p=>zB (s 0 rfl),D1 fun e s p=>zB (s 5 rfl),D1 fun e s p=>zm (f:=cI) (l:=C) (i:=i1) Try.underlying22 Try.sizeOf3 (fun _=>rfl) p.1 p.2.1 b3,D1 fun e s p=>zp (o:=0) Try.isAgg3 p.1 rfl,D1 fun e s p=>zB (s 1 rfl),D1 fun e s p=>zB (s 5 rfl),D1 fun e s p=>zm (f:=cI) (l:=V) (i:=i1) Try.underlying22 Try.sizeOf3 (fun _=>rfl) p.1 p.2.1 b4,D1 fun e s p=>zp (o:=0) Try.isAgg3 p.1 rfl,D1 fun e s p=>zy (a:=at_ C i1) (b:=at_ V i1) p.1 p.2.1,trivial⟩ ?_
   intro e10 s10 hq1
   refine zAz (zCl (l:=[(0,(ls cI C)),(1,(ls cI V)),(12,(li (C.length:Int))),(13,(li i1)),(24,(AV.lit (.bool (!decide ((at_ C i1)=(at_ V i1))))))]) ⟨s10 0 rfl,s10 1 rfl,s10 12 rfl,s10 13 rfl,(hq1 8 (by decide) (by decide)),trivial⟩) ?_
   refine zY h rfl (fun b5 h => ?_) (fun b5 h => ?_)
   ·refine zI<|zC<|zA (zD rfl)<|zG<|zd ?_
    cases h
    exact zx (zAi rfl rfl)
   refine zU<|zC<|zM h fun b6 h=>zA (zi rfl rfl b6)<|zA (zB rfl)<|zG ?_
   exact ⟨(i1+1),zAd [] rfl rfl (by kernel_rfl),h⟩
  refine zAG ?_
  exact ⟨(),zAd [] rfl rfl (by kernel_rfl),h⟩
 clear h
 intro _ h
 unfold zG8 at h
 refine zI<|zC<|zA (zD rfl)<|zG<|zd ?_
 cases h
 exact zx (zAi rfl rfl)
theorem zMM {C:List Int} {V:List Int} {r:Bool} (h:zI2 C V=some r):PFn Try.prog 55 [ls cI C,ls cI V] (AV.lit (.bool r)):=by
 refine zq Try.func55 rfl Try.ntmps55 Try.results55 rfl ?_
 unfold zI2 at h
 refine zI<|zC<|zA (zD rfl)<|zG<|zI<|zI ?_
 refine zC<|zA (zB rfl)<|zA (ze Try.underlying22 rfl)<|zA (zB rfl)<|zA (ze Try.underlying22 rfl)<|zA (zy rfl rfl) ?_
 refine zG ?_
 refine zY h rfl (fun b1 h => ?_) (fun b1 h => ?_)
 ·refine zI<|zC<|zA (zD rfl)<|zG<|zd ?_
  cases h
  exact zx (zAi rfl rfl)
 refine zU ?_
 refine zAA (r:=r) (fun (_:Unit)=>mkE []) (fun _=>[]) (fun _=>zG2 ) ?_ ?_
 ·
  refine zI<|zC<|zA (zD rfl)<|zG<|zV<|z9 (σ:=Int) (fun i1=>mkE [(0,(ls cI C)),(1,(ls cI V)),(5,(li i1))]) (fun i1=>[]) (fun n0 i1=>zFV C V n0 i1) 0 h (fun _=>rfl) (zAd [] rfl rfl (by kernel_rfl)) ?_
  clear h
  intro n0 i1 h
  replace h:zG5 C V (zFV C V n0) i1=some r:=h
  unfold zG5 at h
  refine zI<|zI<|zC<|zA (zB rfl)<|zA (zB rfl)<|zA (ze Try.underlying22 rfl) ?_
  refine zA (zj rfl rfl)<|zG ?_
  refine zY h rfl (fun b2 h => ?_) (fun b2 h => ?_)
  ·refine zU<|zI<|zV<|zI<|zM h fun b3 h=>zM h fun b4 h => ?_
   refine zBe (n:=26) (m:=0) [.head 0 0,.head 0 0,.head 0 0,.head 0 0,.head 0 0,.head 0 0,.head 0 0,.head 0 0,.head 0 0] [] [ls cI C,li i1,(AV.rp (cI (at_ C i1)) 0),(li (at_ C i1)),ls cI V,li i1,(AV.rp (cI (at_ V i1)) 0),(li (at_ V i1)),(AV.lit (.bool (!decide ((at_ C i1)=(at_ V i1)))))] [[]] (by kernel_rfl) (by kernel_rfl) ⟨D1 fun e s p=>zB (s 0 rfl),D1 fun e s p=>zB (s 5 rfl),D1 fun e s p=>zm (f:=cI) (l:=C) (i:=i1) Try.underlying22 Try.sizeOf3 (fun _=>rfl) p.1 p.2.1 b3,D1 fun e s p=>zp (o:=0) Try.isAgg3 p.1 rfl,D1 fun e s p=>zB (s 1 rfl),D1 fun e s p=>zB (s 5 rfl),D1 fun e s p=>zm (f:=cI) (l:=V) (i:=i1) Try.underlying22 Try.sizeOf3 (fun _=>rfl) p.1 p.2.1 b4,D1 fun e s p=>zp (o:=0) Try.isAgg3 p.1 rfl,D1 fun e s p=>zy (a:=at_ C i1) (b:=at_ V i1) p.1 p.2.1,trivial⟩ ?_
   intro e10 s10 hq1
   refine zAz (zCl (l:=[(0,(ls cI C)),(1,(ls cI V)),(5,(li i1)),(25,(AV.lit (.bool (!decide ((at_ C i1)=(at_ V i1))))))]) ⟨s10 0 rfl,s10 1 rfl,s10 5 rfl,(hq1 8 (by decide) (by decide)),trivial⟩) ?_
   refine zY h rfl (fun b5 h => ?_) (fun b5 h => ?_)
   ·refine zI<|zC<|zA (zD rfl)<|zG<|zd ?_
    cases h
    exact zx (zAi rfl rfl)
   refine zU<|zC<|zA (zB rfl)<|zM h fun b6 h=>zA (zi rfl rfl b6)<|zA (zD rfl) ?_
   refine zG ?_
   exact ⟨(i1+1),zAd [] rfl rfl (by kernel_rfl),h⟩
  refine zAG ?_
  exact ⟨(),zAd [] rfl rfl (by kernel_rfl),h⟩
 clear h
 intro _ h
 unfold zG2 at h
 refine zI<|zC<|zA (zD rfl)<|zG<|zd ?_
 cases h
 exact zx (zAi rfl rfl)
theorem zO5 {C:zW} {V:zW} {r:Bool} (h:zMe C V=some r):PFn Try.prog 31 [(AV.agg (zO C)),(AV.agg (zO V))] (AV.lit (.bool r)):=by
 refine zq Try.func31 rfl Try.ntmps31 Try.results31 rfl ?_
 unfold zMe at h
 refine zI<|zC<|zX (H':=[.box 46 (zO C)]) (z6 (t:=46) rfl)<|zX (H':=[.box 46 (zO C),.box 46 (zO V)]) (z6 (t:=46) rfl)<|zA (zD rfl)<|zG ?_
 refine zI<|zI<|zC<|zA (zL Try.underlying46 rfl rfl Try.sizeOf3 rfl)<|zA (zN Try.isAgg3 rfl rfl rfl rfl)<|zA (zL Try.underlying46 rfl rfl Try.sizeOf3 rfl) ?_
 refine zA (zN Try.isAgg3 rfl rfl rfl rfl)<|zA (zy rfl rfl)<|zA (zB rfl)<|zb rfl rfl (fun c1=>zv.step (zL Try.underlying46 rfl rfl Try.sizeOf3 rfl))<|zb rfl rfl (fun c2=>zv.step (zN Try.isAgg3 (zAM rfl c2) rfl rfl rfl))<|zb rfl rfl (fun c3=>zv.step (zL Try.underlying46 rfl rfl Try.sizeOf3 rfl)) ?_
 refine zb rfl rfl (fun c4=>zv.step (zN Try.isAgg3 (zAM rfl c4) rfl rfl rfl))<|zb rfl rfl (fun c5=>zv.step (zy (zAM rfl c5) (zAM rfl c5)))<|zA (zg rfl rfl)<|zA (zB rfl)<|zb rfl rfl (fun c6=>zv.step (zL Try.underlying46 rfl rfl Try.sizeOf3 rfl))<|zb rfl rfl (fun c7=>zv.step (zN Try.isAgg3 (zAM rfl c7) rfl rfl rfl)) ?_
 refine zb rfl rfl (fun c8=>zv.step (zL Try.underlying46 rfl rfl Try.sizeOf3 rfl))<|zb rfl rfl (fun c9=>zv.step (zN Try.isAgg3 (zAM rfl c9) rfl rfl rfl))<|zb rfl rfl (fun c10=>zv.step (zy (zAM rfl c10) (zAM rfl c10)))<|zA (zg rfl rfl)<|zA (zB rfl)<|zb rfl rfl (fun c11=>zv.step (zL Try.underlying46 rfl rfl Try.sizeOf3 rfl)) ?_
 refine zb rfl rfl (fun c12=>zv.step (zN Try.isAgg3 (zAM rfl c12) rfl rfl rfl))<|zb rfl rfl (fun c13=>zv.step (zL Try.underlying46 rfl rfl Try.sizeOf3 rfl))<|zb rfl rfl (fun c14=>zv.step (zN Try.isAgg3 (zAM rfl c14) rfl rfl rfl))<|zb rfl rfl (fun c15=>zv.step (zy (zAM rfl c15) (zAM rfl c15)))<|zA (zg rfl rfl)<|zA (zB rfl) ?_
 refine zb rfl rfl (fun c16=>zv.step (zL Try.underlying46 rfl rfl Try.sizeOf3 rfl))<|zb rfl rfl (fun c17=>zv.step (zN Try.isAgg3 (zAM rfl c17) rfl rfl rfl))<|zb rfl rfl (fun c18=>zv.step (zL Try.underlying46 rfl rfl Try.sizeOf3 rfl))<|zb rfl rfl (fun c19=>zv.step (zN Try.isAgg3 (zAM rfl c19) rfl rfl rfl))<|zb rfl rfl (fun c20=>zv.step (zy (zAM rfl c20) (zAM rfl c20)))<|zA (zg rfl rfl) ?_
 refine zG ?_
 refine zY h rfl (fun b1 h => ?_) (fun b1 h => ?_)
 ·refine zI<|zC<|zA (zD rfl)<|zG<|zd ?_
  cases h
  exact zx (zAi rfl rfl)
 refine zU ?_
 refine zAA (r:=r) (fun (_:Unit)=>mkE []) (fun _=>[]) (fun _=>zJ5 ) ?_ ?_
 ·
  refine zI<|zC<|zA (zD rfl)<|zG<|zV<|z9 (σ:=Int) (fun i1=>mkE [(2,(AV.ptr 0 0)),(3,(AV.ptr 1 0)),(5,(li i1))]) (fun i1=>[.box 46 (zO C),.box 46 (zO V)]) (fun n0 i1=>zHw C V n0 i1) 0 h (fun _=>rfl) (zAd [0,1] rfl rfl (by kernel_rfl)) ?_
  clear h
  intro n0 i1 h
  replace h:zJr C V (zHw C V n0) i1=some r:=h
  unfold zJr at h
  refine zI<|zI<|zC<|zA (zB rfl)<|zA (zHG rfl rfl)<|zG ?_
  refine zY h rfl (fun b2 h => ?_) (fun b2 h => ?_)
  ·refine zU<|zI<|zV<|zI<|zM h fun b3 h=>zQ h fun x1 w1 h => ?_
   refine zBe (n:=53) (m:=0) [.head 0 0,.head 0 0,.head 0 0,.head 0 0,.head 0 0,.head 0 0,.head 0 0,.head 0 0,.head 0 0,.head 0 0] [] [li i1,AV.ptr 0 5,(AV.ptr 0 (5+i1.toNat*1)),(ls cI (C.free.getD i1.toNat ([]:List Int))),li i1,AV.ptr 1 5,(AV.ptr 1 (5+i1.toNat*1)),(ls cI (V.free.getD i1.toNat ([]:List Int))),(AV.lit (.bool x1)),(AV.lit (.bool (!x1)))] [[.box 46 (zO C),.box 46 (zO V)]] (by kernel_rfl) (by kernel_rfl) ⟨D1 fun e s p=>zB (s 5 rfl),D1 fun e s p=>zL (k:=0) (o:=0) (off:=5) Try.underlying46 rfl rfl Try.sizeOf44 (s 2 rfl),D1 fun e s p=>zAg (m:=5) (s:=1) (i:=i1) (k:=0) (o:=5) Try.underlying44 Try.sizeOf22 p.1 p.2.1 b3,D1 fun e s p=>zDA (k:=0) (o:=(5+i1.toNat*1)) (cs:=(zO C)) (hd:=([li C.node]++[li C.kind]++[li C.start]++[li C.count]++[li C.min]++[])) (tl:=([])) (g:=(eS cI)) (d0:=([]:List Int)) (l:=C.free) (N:=5) (i:=i1.toNat) (a:=(ls cI (C.free.getD i1.toNat ([]:List Int)))) Try.isAgg22 p.1 rfl rfl (congrArg (fun q=>5+q) (Nat.mul_one _)) (zCa b3).2 rfl rfl,D1 fun e s p=>zB (s 5 rfl),D1 fun e s p=>zL (k:=1) (o:=0) (off:=5) Try.underlying46 rfl rfl Try.sizeOf44 (s 3 rfl),D1 fun e s p=>zAg (m:=5) (s:=1) (i:=i1) (k:=1) (o:=5) Try.underlying44 Try.sizeOf22 p.1 p.2.1 b3,D1 fun e s p=>zDA (k:=1) (o:=(5+i1.toNat*1)) (cs:=(zO V)) (hd:=([li V.node]++[li V.kind]++[li V.start]++[li V.count]++[li V.min]++[])) (tl:=([])) (g:=(eS cI)) (d0:=([]:List Int)) (l:=V.free) (N:=5) (i:=i1.toNat) (a:=(ls cI (V.free.getD i1.toNat ([]:List Int)))) Try.isAgg22 p.1 rfl rfl (congrArg (fun q=>5+q) (Nat.mul_one _)) (zCa b3).2 rfl rfl,?_,D1 fun e s p=>zBU (t:=x1) p.1,trivial⟩ ?_
   ·
    intro e9 s9 p9
    refine zZ (r:=(AV.lit (.bool x1))) (la:=[(ls cI (C.free.getD i1.toNat ([]:List Int))),(ls cI (V.free.getD i1.toNat ([]:List Int)))]) Try.func55 rfl (by kernel_rfl) (.fn 55) (zAe p9.1 (zAe p9.2.1 rfl)) rfl (zMM w1) rfl ?_
    exact zG ⟨fun _=>rfl,rfl⟩
   intro e11 s11 hq1
   refine zAz (zCl (l:=[(2,(AV.ptr 0 0)),(3,(AV.ptr 1 0)),(5,(li i1)),(52,(AV.lit (.bool (!x1))))]) ⟨s11 2 rfl,s11 3 rfl,s11 5 rfl,(hq1 9 (by decide) (by decide)),trivial⟩) ?_
   refine zY h rfl (fun b4 h => ?_) (fun b4 h => ?_)
   ·refine zI<|zC<|zA (zD rfl)<|zG<|zd ?_
    cases h
    exact zx (zAi rfl rfl)
   refine zU<|zC<|zA (zB rfl)<|zM h fun b5 h=>zA (zi rfl rfl b5)<|zA (zD rfl) ?_
   refine zG ?_
   exact ⟨(i1+1),zAd [0,1] rfl rfl (by kernel_rfl),h⟩
  refine zAG ?_
  exact ⟨(),zAd [] rfl rfl (by kernel_rfl),h⟩
 clear h
 intro _ h
 unfold zJ5 at h
 refine zI<|zC<|zA (zD rfl)<|zG<|zd ?_
 cases h
 exact zx (zAi rfl rfl)
theorem zO0 {C:zK} {V:zK} {r:Bool} (h:zMU C V=some r):PFn Try.prog 32 [(AV.agg (zJ C)),(AV.agg (zJ V))] (AV.lit (.bool r)):=by
 refine zq Try.func32 rfl Try.ntmps32 Try.results32 rfl ?_
 unfold zMU at h
 refine zI<|zC<|zX (H':=[.box 50 (zJ C)]) (z6 (t:=50) rfl)<|zX (H':=[.box 50 (zJ C),.box 50 (zJ V)]) (z6 (t:=50) rfl)<|zA (zD rfl)<|zG ?_
 refine zI<|zI<|zC<|zA (zL Try.underlying50 rfl rfl Try.sizeOf48 rfl)<|zA (zN Try.isAgg48 rfl rfl rfl rfl)<|zA (ze Try.underlying48 rfl) ?_
 refine zA (zL Try.underlying50 rfl rfl Try.sizeOf48 rfl)<|zA (zN Try.isAgg48 rfl rfl rfl rfl)<|zA (ze Try.underlying48 rfl)<|zA (zy rfl rfl)<|zG ?_
 refine zY h rfl (fun b1 h => ?_) (fun b1 h => ?_)
 ·refine zI<|zC<|zA (zD rfl)<|zG<|zd ?_
  cases h
  exact zx (zAi rfl rfl)
 refine zU ?_
 refine zAA (r:=r) (fun (_:Unit)=>mkE []) (fun _=>[]) (fun _=>zJb ) ?_ ?_
 ·
  refine zI<|zC<|zA (zL Try.underlying50 rfl rfl Try.sizeOf48 rfl)<|zA (zN Try.isAgg48 rfl rfl rfl rfl)<|zA (ze Try.underlying48 rfl)<|zA (zB rfl) ?_
  refine zG<|zV<|z9 (σ:=Int) (fun i1=>mkE [(2,(AV.ptr 0 0)),(3,(AV.ptr 1 0)),(15,(li (C.lists.length:Int))),(16,(li i1))]) (fun i1=>[.box 50 (zJ C),.box 50 (zJ V)]) (fun n0 i1=>zHu C V n0 i1) 0 h (fun _=>rfl) (zAd [0,1] rfl rfl (by kernel_rfl)) ?_
  clear h
  intro n0 i1 h
  replace h:zJl C V (zHu C V n0) i1=some r:=h
  unfold zJl at h
  refine zI<|zC<|zA (zj rfl rfl)<|zG<|zI ?_
  refine zY h rfl (fun b2 h => ?_) (fun b2 h => ?_)
  ·refine zU<|zI<|zV<|zI<|zC<|zA (zB rfl) ?_
   refine zA (zD rfl)<|zG<|zI<|zM h fun b3 h=>zM h fun b4 h=>zQ h fun x1 w1 h => ?_
   refine zBe (n:=32) (m:=0) [.head 0 0,.head 0 0,.head 0 0,.head 0 0,.head 0 0,.head 0 0,.head 0 0,.head 0 0,.head 0 0,.head 0 0,.head 0 0,.head 0 0] [] [AV.ptr 0 0,(ls (cS cI) C.lists),li i1,(AV.rp ((cS cI) (at_ C.lists i1)) 0),(ls cI (at_ C.lists i1)),AV.ptr 1 0,(ls (cS cI) V.lists),li i1,(AV.rp ((cS cI) (at_ V.lists i1)) 0),(ls cI (at_ V.lists i1)),(AV.lit (.bool x1)),(AV.lit (.bool (!x1)))] [[.box 50 (zJ C),.box 50 (zJ V)]] (by kernel_rfl) (by kernel_rfl) ⟨D1 fun e s p=>zL (k:=0) (o:=0) (off:=0) Try.underlying50 rfl rfl Try.sizeOf48 (s 2 rfl),D1 fun e s p=>zN (k:=0) (o:=0) Try.isAgg48 p.1 rfl rfl rfl,D1 fun e s p=>zB (s 5 rfl),D1 fun e s p=>zm (f:=(cS cI)) (l:=C.lists) (i:=i1) Try.underlying48 Try.sizeOf22 (fun _=>rfl) p.1 p.2.1 b3,D1 fun e s p=>zp (o:=0) Try.isAgg22 p.1 rfl,D1 fun e s p=>zL (k:=1) (o:=0) (off:=0) Try.underlying50 rfl rfl Try.sizeOf48 (s 3 rfl),D1 fun e s p=>zN (k:=1) (o:=0) Try.isAgg48 p.1 rfl rfl rfl,D1 fun e s p=>zB (s 5 rfl),D1 fun e s p=>zm (f:=(cS cI)) (l:=V.lists) (i:=i1) Try.underlying48 Try.sizeOf22 (fun _=>rfl) p.1 p.2.1 b4,D1 fun e s p=>zp (o:=0) Try.isAgg22 p.1 rfl,?_,D1 fun e s p=>zBU (t:=x1) p.1,trivial⟩ ?_
   ·
    intro e11 s11 p11
    refine zZ (r:=(AV.lit (.bool x1))) (la:=[(ls cI (at_ C.lists i1)),(ls cI (at_ V.lists i1))]) Try.func30 rfl (by kernel_rfl) (.fn 30) (zAe p11.1 (zAe p11.2.1 rfl)) rfl (zJK w1) rfl ?_
    exact zG ⟨fun _=>rfl,rfl⟩
   intro e13 s13 hq1
   refine zAz (zCl (l:=[(2,(AV.ptr 0 0)),(3,(AV.ptr 1 0)),(15,(li (C.lists.length:Int))),(16,(li i1)),(30,(AV.lit (.bool (!x1))))]) ⟨s13 2 rfl,s13 3 rfl,s13 15 rfl,s13 16 rfl,(hq1 11 (by decide) (by decide)),trivial⟩) ?_
   refine zY h rfl (fun b5 h => ?_) (fun b5 h => ?_)
   ·refine zI<|zC<|zA (zD rfl)<|zG<|zd ?_
    cases h
    exact zx (zAi rfl rfl)
   refine zU<|zC<|zM h fun b6 h=>zA (zi rfl rfl b6)<|zA (zB rfl)<|zG ?_
   exact ⟨(i1+1),zAd [0,1] rfl rfl (by kernel_rfl),h⟩
  refine zAG ?_
  exact ⟨(),zAd [] rfl rfl (by kernel_rfl),h⟩
 clear h
 intro _ h
 unfold zJb at h
 refine zI<|zC<|zA (zD rfl)<|zG<|zd ?_
 cases h
 exact zx (zAi rfl rfl)
theorem zPb {A:zH} {B:zH} {r:Bool} (h:zMK A B=some r):PFn Try.prog 11 [(AV.agg (zF A)),(AV.agg (zF B))] (AV.lit (.bool r)):=by
 refine zq Try.func11 rfl Try.ntmps11 Try.results11 rfl ?_
 unfold zMK at h
 refine zI<|zC<|zX (H':=[.box 29 (zF A)]) (z6 (t:=29) rfl)<|zX (H':=[.box 29 (zF A),.box 29 (zF B)]) (z6 (t:=29) rfl)<|zA (zD rfl)<|zG ?_
 refine zI<|zI<|zC<|zA (zL Try.underlying29 rfl rfl Try.sizeOf22 rfl)<|zA (zN Try.isAgg22 rfl rfl rfl rfl)<|zA (zL Try.underlying29 rfl rfl Try.sizeOf22 rfl) ?_
 refine zA (zN Try.isAgg22 rfl rfl rfl rfl)<|zQ h fun x1 w1 h=>zZ Try.func30 rfl (by kernel_rfl) (.fn 30) rfl rfl (zJK w1) rfl<|zA (zBU (t:=x1) rfl)<|zA (zB rfl)<|zb rfl rfl (fun c1=>zv.step (zL Try.underlying29 rfl rfl Try.sizeOf3 rfl)) ?_
 refine zb rfl rfl (fun c2=>zv.step (zN Try.isAgg3 (zAM rfl c2) rfl rfl rfl))<|zb rfl rfl (fun c3=>zv.step (zL Try.underlying29 rfl rfl Try.sizeOf3 rfl))<|zb rfl rfl (fun c4=>zv.step (zN Try.isAgg3 (zAM rfl c4) rfl rfl rfl))<|zb rfl rfl (fun c5=>zv.step (zy (zAM rfl c5) (zAM rfl c5)))<|zA (zg rfl rfl)<|zA (zB rfl) ?_
 refine zb rfl rfl (fun c6=>zv.step (zL Try.underlying29 rfl rfl Try.sizeOf3 rfl))<|zb rfl rfl (fun c7=>zv.step (zN Try.isAgg3 (zAM rfl c7) rfl rfl rfl))<|zb rfl rfl (fun c8=>zv.step (zL Try.underlying29 rfl rfl Try.sizeOf3 rfl))<|zb rfl rfl (fun c9=>zv.step (zN Try.isAgg3 (zAM rfl c9) rfl rfl rfl))<|zb rfl rfl (fun c10=>zv.step (zy (zAM rfl c10) (zAM rfl c10)))<|zA (zg rfl rfl) ?_
 refine zA (zB rfl)<|zb rfl rfl (fun c11=>zv.step (zL Try.underlying29 rfl rfl Try.sizeOf26 rfl))<|zb rfl rfl (fun c12=>zv.step (zN Try.isAgg26 (zAM rfl c12) rfl rfl rfl))<|zb rfl rfl (fun c13=>zv.step (ze Try.underlying26 (zAM rfl c13)))<|zb rfl rfl (fun c14=>zv.step (zL Try.underlying29 rfl rfl Try.sizeOf26 rfl))<|zb rfl rfl (fun c15=>zv.step (zN Try.isAgg26 (zAM rfl c15) rfl rfl rfl)) ?_
 refine zb rfl rfl (fun c16=>zv.step (ze Try.underlying26 (zAM rfl c16)))<|zb rfl rfl (fun c17=>zv.step (zy (zAM rfl c17) (zAM rfl c17)))<|zA (zg rfl rfl)<|zA (zB rfl)<|zb rfl rfl (fun c18=>zv.step (zL Try.underlying29 rfl rfl Try.sizeOf27 rfl))<|zb rfl rfl (fun c19=>zv.step (zN Try.isAgg27 (zAM rfl c19) rfl rfl rfl)) ?_
 refine zb rfl rfl (fun c20=>zv.step (ze Try.underlying27 (zAM rfl c20)))<|zb rfl rfl (fun c21=>zv.step (zL Try.underlying29 rfl rfl Try.sizeOf27 rfl))<|zb rfl rfl (fun c22=>zv.step (zN Try.isAgg27 (zAM rfl c22) rfl rfl rfl))<|zb rfl rfl (fun c23=>zv.step (ze Try.underlying27 (zAM rfl c23)))<|zb rfl rfl (fun c24=>zv.step (zy (zAM rfl c24) (zAM rfl c24)))<|zA (zg rfl rfl) ?_
 refine zG ?_
 refine zY h rfl (fun b1 h => ?_) (fun b1 h => ?_)
 ·refine zI<|zC<|zA (zD rfl)<|zG<|zd ?_
  cases h
  exact zx (zAi rfl rfl)
 refine zU ?_
 refine zAA (r:=r) (fun (_:Unit)=>mkE [(2,(AV.ptr 0 0)),(3,(AV.ptr 1 0))]) (fun _=>[.box 29 (zF A),.box 29 (zF B)]) (fun _=>zJo A B) ?_ ?_
 ·
  refine zI<|zC<|zA (zD rfl)<|zG<|zV<|z9 (σ:=Int) (fun i2=>mkE [(2,(AV.ptr 0 0)),(3,(AV.ptr 1 0)),(5,(li i2))]) (fun i2=>[.box 29 (zF A),.box 29 (zF B)]) (fun n1 i2=>zH0 A B n1 i2) 0 h (fun _=>rfl) (zAd [0,1] rfl rfl (by kernel_rfl)) ?_
  clear h
  intro n1 i2 h
  replace h:zJY A B (zH0 A B n1) i2=some r:=h
  unfold zJY at h
  refine zI<|zI<|zC<|zA (zB rfl)<|zA (zL Try.underlying29 rfl rfl Try.sizeOf26 rfl)<|zA (zN Try.isAgg26 rfl rfl rfl rfl) ?_
  refine zA (ze Try.underlying26 rfl)<|zA (zj rfl rfl)<|zG ?_
  refine zY h rfl (fun b7 h => ?_) (fun b7 h => ?_)
  ·refine zU<|zI<|zV<|zI<|zM h fun b8 h=>zM h fun b9 h => ?_
   refine zQ h fun x3 w3 h => ?_
   refine zBe (n:=83) (m:=0) [.head 0 0,.head 0 0,.head 0 0,.head 0 0,.head 0 0,.head 0 0,.head 0 0,.head 0 0,.head 0 0,.head 0 0,.head 0 0,.head 0 0] [] [AV.ptr 0 3,ls zO A.zones,li i2,(AV.rp (zO (at_ A.zones i2)) 0),(AV.agg (zO (at_ A.zones i2))),AV.ptr 1 3,ls zO B.zones,li i2,(AV.rp (zO (at_ B.zones i2)) 0),(AV.agg (zO (at_ B.zones i2))),(AV.lit (.bool x3)),(AV.lit (.bool (!x3)))] [[.box 29 (zF A),.box 29 (zF B)]] (by kernel_rfl) (by kernel_rfl) ⟨D1 fun e s p=>zL (k:=0) (o:=0) (off:=3) Try.underlying29 rfl rfl Try.sizeOf26 (s 2 rfl),D1 fun e s p=>zN (k:=0) (o:=3) Try.isAgg26 p.1 rfl rfl rfl,D1 fun e s p=>zB (s 5 rfl),D1 fun e s p=>zm (f:=zO) (l:=A.zones) (i:=i2) Try.underlying26 Try.sizeOf46 (fun _=>rfl) p.1 p.2.1 b8,D1 fun e s p=>zBG (row:=(zO (at_ A.zones i2))) (o:=0) (m:=10) (la:=(zO (at_ A.zones i2))) Try.isAgg46 Try.sizeOf46 p.1 rfl rfl,D1 fun e s p=>zL (k:=1) (o:=0) (off:=3) Try.underlying29 rfl rfl Try.sizeOf26 (s 3 rfl),D1 fun e s p=>zN (k:=1) (o:=3) Try.isAgg26 p.1 rfl rfl rfl,D1 fun e s p=>zB (s 5 rfl),D1 fun e s p=>zm (f:=zO) (l:=B.zones) (i:=i2) Try.underlying26 Try.sizeOf46 (fun _=>rfl) p.1 p.2.1 b9,D1 fun e s p=>zBG (row:=(zO (at_ B.zones i2))) (o:=0) (m:=10) (la:=(zO (at_ B.zones i2))) Try.isAgg46 Try.sizeOf46 p.1 rfl rfl,?_,D1 fun e s p=>zBU (t:=x3) p.1,trivial⟩ ?_
   ·
    intro e24 s24 p23
    refine zZ (r:=(AV.lit (.bool x3))) (la:=[(AV.agg (zO (at_ A.zones i2))),(AV.agg (zO (at_ B.zones i2)))]) Try.func31 rfl (by kernel_rfl) (.fn 31) (zAe p23.1 (zAe p23.2.1 rfl)) rfl (zO5 w3) rfl ?_
    exact zG ⟨fun _=>rfl,rfl⟩
   intro e26 s26 hq2
   refine zAz (zCl (l:=[(2,(AV.ptr 0 0)),(3,(AV.ptr 1 0)),(5,(li i2)),(63,(AV.lit (.bool (!x3))))]) ⟨s26 2 rfl,s26 3 rfl,s26 5 rfl,(hq2 11 (by decide) (by decide)),trivial⟩) ?_
   refine zY h rfl (fun b10 h => ?_) (fun b10 h => ?_)
   ·refine zI<|zC<|zA (zD rfl)<|zG<|zd ?_
    cases h
    exact zx (zAi rfl rfl)
   refine zU<|zC<|zA (zB rfl)<|zM h fun b11 h=>zA (zi rfl rfl b11)<|zA (zD rfl) ?_
   refine zG ?_
   exact ⟨(i2+1),zAd [0,1] rfl rfl (by kernel_rfl),h⟩
  refine zAG ?_
  exact ⟨(),zAd [0,1] rfl rfl (by kernel_rfl),h⟩
 clear h
 intro _ h
 unfold zJo at h
 refine zAA (r:=r) (fun (_:Unit)=>mkE []) (fun _=>[]) (fun _=>zJZ ) ?_ ?_
 ·
  refine zI<|zC<|zA (zD rfl)<|zG<|zV<|z9 (σ:=Int) (fun i1=>mkE [(2,(AV.ptr 0 0)),(3,(AV.ptr 1 0)),(6,(li i1))]) (fun i1=>[.box 29 (zF A),.box 29 (zF B)]) (fun n0 i1=>zHv A B n0 i1) 0 h (fun _=>rfl) (zAd [0,1] rfl rfl (by kernel_rfl)) ?_
  clear h
  intro n0 i1 h
  replace h:zJp A B (zHv A B n0) i1=some r:=h
  unfold zJp at h
  refine zI<|zI<|zC<|zA (zB rfl)<|zA (zL Try.underlying29 rfl rfl Try.sizeOf27 rfl)<|zA (zN Try.isAgg27 rfl rfl rfl rfl) ?_
  refine zA (ze Try.underlying27 rfl)<|zA (zj rfl rfl)<|zG ?_
  refine zY h rfl (fun b2 h => ?_) (fun b2 h => ?_)
  ·refine zU<|zI<|zV<|zI<|zM h fun b3 h=>zM h fun b4 h => ?_
   refine zQ h fun x2 w2 h => ?_
   refine zBe (n:=83) (m:=0) [.head 0 0,.head 0 0,.head 0 0,.head 0 0,.head 0 0,.head 0 0,.head 0 0,.head 0 0,.head 0 0,.head 0 0,.head 0 0,.head 0 0] [] [AV.ptr 0 4,ls zJ A.caches,li i1,(AV.rp (zJ (at_ A.caches i1)) 0),(AV.agg (zJ (at_ A.caches i1))),AV.ptr 1 4,ls zJ B.caches,li i1,(AV.rp (zJ (at_ B.caches i1)) 0),(AV.agg (zJ (at_ B.caches i1))),(AV.lit (.bool x2)),(AV.lit (.bool (!x2)))] [[.box 29 (zF A),.box 29 (zF B)]] (by kernel_rfl) (by kernel_rfl) ⟨D1 fun e s p=>zL (k:=0) (o:=0) (off:=4) Try.underlying29 rfl rfl Try.sizeOf27 (s 2 rfl),D1 fun e s p=>zN (k:=0) (o:=4) Try.isAgg27 p.1 rfl rfl rfl,D1 fun e s p=>zB (s 6 rfl),D1 fun e s p=>zm (f:=zJ) (l:=A.caches) (i:=i1) Try.underlying27 Try.sizeOf50 (fun _=>rfl) p.1 p.2.1 b3,D1 fun e s p=>zBG (row:=(zJ (at_ A.caches i1))) (o:=0) (m:=1) (la:=(zJ (at_ A.caches i1))) Try.isAgg50 Try.sizeOf50 p.1 rfl rfl,D1 fun e s p=>zL (k:=1) (o:=0) (off:=4) Try.underlying29 rfl rfl Try.sizeOf27 (s 3 rfl),D1 fun e s p=>zN (k:=1) (o:=4) Try.isAgg27 p.1 rfl rfl rfl,D1 fun e s p=>zB (s 6 rfl),D1 fun e s p=>zm (f:=zJ) (l:=B.caches) (i:=i1) Try.underlying27 Try.sizeOf50 (fun _=>rfl) p.1 p.2.1 b4,D1 fun e s p=>zBG (row:=(zJ (at_ B.caches i1))) (o:=0) (m:=1) (la:=(zJ (at_ B.caches i1))) Try.isAgg50 Try.sizeOf50 p.1 rfl rfl,?_,D1 fun e s p=>zBU (t:=x2) p.1,trivial⟩ ?_
   ·
    intro e11 s11 p11
    refine zZ (r:=(AV.lit (.bool x2))) (la:=[(AV.agg (zJ (at_ A.caches i1))),(AV.agg (zJ (at_ B.caches i1)))]) Try.func32 rfl (by kernel_rfl) (.fn 32) (zAe p11.1 (zAe p11.2.1 rfl)) rfl (zO0 w2) rfl ?_
    exact zG ⟨fun _=>rfl,rfl⟩
   intro e13 s13 hq1
   refine zAz (zCl (l:=[(2,(AV.ptr 0 0)),(3,(AV.ptr 1 0)),(6,(li i1)),(82,(AV.lit (.bool (!x2))))]) ⟨s13 2 rfl,s13 3 rfl,s13 6 rfl,(hq1 11 (by decide) (by decide)),trivial⟩) ?_
   refine zY h rfl (fun b5 h => ?_) (fun b5 h => ?_)
   ·refine zI<|zC<|zA (zD rfl)<|zG<|zd ?_
    cases h
    exact zx (zAi rfl rfl)
   refine zU<|zC<|zA (zB rfl)<|zM h fun b6 h=>zA (zi rfl rfl b6)<|zA (zD rfl) ?_
   refine zG ?_
   exact ⟨(i1+1),zAd [0,1] rfl rfl (by kernel_rfl),h⟩
  refine zAG ?_
  exact ⟨(),zAd [] rfl rfl (by kernel_rfl),h⟩
 clear h
 intro _ h
 unfold zJZ at h
 refine zI<|zC<|zA (zD rfl)<|zG<|zd ?_
 cases h
 exact zx (zAi rfl rfl)
theorem zLF  {r:Bool} (h:zIF=some r):PFn Try.prog 8 [] (AV.lit (.bool r)):=by
 refine zq Try.func8 rfl Try.ntmps8 Try.results8 rfl ?_
 unfold zIF at h
 refine zI<|zC<|zA (zD (av:=(AV.lit (.bool false))) rfl)<|zG<|zI<|zC ?_
 refine zPc (N:=2) (pl:=[(0,1),(1,1)]) (zs:=[.int .i64 0,.int .i64 0]) (zc:=[.lit (.int .i64 0),.lit (.int .i64 0)]) (rows:=List.map cI [0,1]) zG6 Try.underlying22 rfl rfl rfl (by kernel_rfl) rfl (⟨zA6.refl _,⟨zA6.refl _,trivial⟩⟩) ⟨li 0,0,1,rfl,rfl,rfl,rfl,rfl,⟨li 1,1,1,rfl,rfl,rfl,rfl,rfl,(by exact zLH.refl _)⟩⟩ rfl rfl rfl<|zA (zCU (pl:=[(0,1),(1,1),(2,1),(3,1)]) (zs:=[.int .i64 0,.int .i64 0,.int .i64 0,.int .i64 0]) (zc:=[.lit (.int .i64 0),.lit (.int .i64 0),.lit (.int .i64 0),.lit (.int .i64 0)]) (res:=(zAP (⟨0,0,8,2⟩:zAZ))) (fun _=>by kernel_rfl) rfl (⟨zA6.refl _,⟨zA6.refl _,⟨zA6.refl _,⟨zA6.refl _,trivial⟩⟩⟩⟩) ⟨li 0,0,1,rfl,rfl,rfl,rfl,rfl,⟨li 0,1,1,rfl,rfl,rfl,rfl,rfl,⟨li 8,2,1,rfl,rfl,rfl,rfl,rfl,⟨li 2,3,1,rfl,rfl,rfl,rfl,rfl,(by exact zLH.refl _)⟩⟩⟩⟩)<|zA (zCU (pl:=[(0,1),(1,1),(2,1),(3,1)]) (zs:=[.int .i64 0,.int .i64 0,.int .i64 0,.int .i64 0]) (zc:=[.lit (.int .i64 0),.lit (.int .i64 0),.lit (.int .i64 0),.lit (.int .i64 0)]) (res:=(zAP (⟨1,1,8,0⟩:zAZ))) (fun _=>by kernel_rfl) rfl (⟨zA6.refl _,⟨zA6.refl _,⟨zA6.refl _,⟨zA6.refl _,trivial⟩⟩⟩⟩) ⟨li 1,0,1,rfl,rfl,rfl,rfl,rfl,⟨li 1,1,1,rfl,rfl,rfl,rfl,rfl,⟨li 8,2,1,rfl,rfl,rfl,rfl,rfl,⟨li 0,3,1,rfl,rfl,rfl,rfl,rfl,(by exact zLH.refl _)⟩⟩⟩⟩)<|zPc (N:=2) (pl:=[(0,4),(4,4)]) (zs:=[.int .i64 0,.int .i64 0,.int .i64 0,.int .i64 0,.int .i64 0,.int .i64 0,.int .i64 0,.int .i64 0]) (zc:=[.lit (.int .i64 0),.lit (.int .i64 0),.lit (.int .i64 0),.lit (.int .i64 0),.lit (.int .i64 0),.lit (.int .i64 0),.lit (.int .i64 0),.lit (.int .i64 0)]) (rows:=List.map zAP [(⟨0,0,8,2⟩:zAZ),(⟨1,1,8,0⟩:zAZ)]) zTf Try.underlying24 rfl rfl rfl (by kernel_rfl) rfl (⟨zA6.refl _,⟨zA6.refl _,⟨zA6.refl _,⟨zA6.refl _,⟨zA6.refl _,⟨zA6.refl _,⟨zA6.refl _,⟨zA6.refl _,trivial⟩⟩⟩⟩⟩⟩⟩⟩) ⟨(AV.agg (zAP (⟨0,0,8,2⟩:zAZ))),0,4,rfl,rfl,rfl,rfl,rfl,⟨(AV.agg (zAP (⟨1,1,8,0⟩:zAZ))),4,4,rfl,rfl,rfl,rfl,rfl,(by exact zLH.refl _)⟩⟩ rfl rfl rfl<|zQ h fun x1 w1 h=>zAF (zE8 (j:=0) (ds:=[11]) (rows':=List.map cI [0,1]) rfl (zAW (fun _=>rfl)) ⟨rfl,trivial⟩) ?_
 refine zQ h fun x2 w2 h=>zAF (zE8 (j:=1) (ds:=[14]) (rows':=List.map zAP [(⟨0,0,8,2⟩:zAZ),(⟨1,1,8,0⟩:zAZ)]) rfl (zAW (fun _=>rfl)) ⟨rfl,trivial⟩)<|zQ h fun x3 w3 h=>zZ Try.func9 rfl (by kernel_rfl) (.fn 9) rfl rfl (zJ6 w3) rfl<|zA (zB rfl)<|zA (zS rfl rfl) ?_
 refine zA (zS (la:=[(AV.agg (zF x3.1)),li x3.2]) rfl rfl)<|zX (a:=(AV.ptr 2 0)) (H':=[.dead,.dead,.box 29 (zF ⟨[],0,0,[],[]⟩)]) zv3<|za (H':=[.dead,.dead,.box 29 (zF x3.1)]) (zT (k:=2) (o:=0) (cs:=(zF ⟨[],0,0,[],[]⟩)) (la:=(zF x3.1)) Try.sizeOf29 rfl rfl rfl rfl)<|zA (zD (av:=(li x3.2)) rfl)<|zG<|zI ?_
 refine zI<|zC<|zA (zB rfl)<|zA (zy rfl rfl)<|zA (zB rfl)<|zb rfl rfl (fun c1=>zv.step (zL Try.underlying29 rfl rfl Try.sizeOf26 rfl)) ?_
 refine zb (g:=20) (s := !decide (x3.2=0)) rfl rfl (fun c2=>zv.step (zN (k:=2) (o:=3) (a:=(ls zO x3.1.zones)) Try.isAgg26 (zAM rfl c2) rfl rfl rfl))<|zb (g:=20) (s := !decide (x3.2=0)) rfl rfl (fun c3=>zv.step (ze (f:=zO) (l:=x3.1.zones) Try.underlying26 (zAM rfl c3)))<|zb (g:=20) (s := !decide (x3.2=0)) rfl rfl (fun c4=>zv.step (zy (a:=(x3.1.zones.length:Int)) (b:=2) (zAM rfl c4) rfl))<|zA (zg (s := !decide (x3.2=0)) (q := !decide ((x3.1.zones.length:Int)=2)) (j := .lit undef) rfl rfl)<|zA (zB (av:=(AV.lit (.bool ((!decide (x3.2=0))||(!decide ((x3.1.zones.length:Int)=2)))))) rfl)<|zb (g:=26) (s:=(!decide (x3.2=0))||(!decide ((x3.1.zones.length:Int)=2))) rfl rfl (fun c5=>zv.step (zL (k:=2) (o:=0) (off:=4) Try.underlying29 rfl rfl Try.sizeOf27 rfl)) ?_
 refine zb rfl rfl (fun c6=>zv.step (zN Try.isAgg27 (zAM rfl c6) rfl rfl rfl))<|zb rfl rfl (fun c7=>zv.step (ze Try.underlying27 (zAM rfl c7)))<|zb rfl rfl (fun c8=>zv.step (zy (zAM rfl c8) rfl))<|zA (zg rfl rfl)<|zA (zB rfl)<|zb rfl rfl (fun c9=>zv.step (zR (k:=2) (o:=0) (m:=5) Try.isAgg29 Try.sizeOf29 rfl rfl rfl rfl rfl)) ?_
 refine zQ h fun x4 w4 h=>zDe (g:=32) (s:=((!decide (x3.2=0))||(!decide ((x3.1.zones.length:Int)=2)))||(!decide ((x3.1.caches.length:Int)=2))) (r':=(li x4)) rfl rfl (fun c10=>⟨15,_,_,[],[(AV.agg (zF x3.1))],[(AV.agg (zF x3.1))],li x4,[],Try.func15,rfl,by kernel_rfl,.fn 15,(zAe (zAM rfl c10) rfl),⟨zBC.nr rfl,trivial⟩,zA4 (zIQ c10 w4),.inl rfl,rfl⟩)<|zb (g:=32) (s:=((!decide (x3.2=0))||(!decide ((x3.1.zones.length:Int)=2)))||(!decide ((x3.1.caches.length:Int)=2))) rfl rfl (fun c11=>zv.step (zy (a:=x4) (b:=0) (zAM rfl c11) rfl))<|zA (zg (s:=((!decide (x3.2=0))||(!decide ((x3.1.zones.length:Int)=2)))||(!decide ((x3.1.caches.length:Int)=2))) (q := !decide (x4=0)) (j := .lit undef) rfl rfl)<|zA (zB (av:=(AV.lit (.bool ((((!decide (x3.2=0))||(!decide ((x3.1.zones.length:Int)=2)))||(!decide ((x3.1.caches.length:Int)=2)))||(!decide (x4=0)))))) rfl)<|zb (g:=37) (s:=(((!decide (x3.2=0))||(!decide ((x3.1.zones.length:Int)=2)))||(!decide ((x3.1.caches.length:Int)=2)))||(!decide (x4=0))) rfl rfl (fun c12=>zv.step (zR (k:=2) (o:=0) (m:=5) (la:=(zF x3.1)) Try.isAgg29 Try.sizeOf29 rfl rfl rfl rfl rfl)) ?_
 refine zQ h fun x5 w5 h=>zDe (g:=37) (s:=(((!decide (x3.2=0))||(!decide ((x3.1.zones.length:Int)=2)))||(!decide ((x3.1.caches.length:Int)=2)))||(!decide (x4=0))) (r':=(li x5)) rfl rfl (fun c13=>⟨13,_,_,[],[(AV.agg (zF x3.1))],[(AV.agg (zF x3.1))],li x5,[],Try.func13,rfl,by kernel_rfl,.fn 13,(zAe (zAM rfl c13) rfl),⟨zBC.nr rfl,trivial⟩,zLX (zIQ c13 w5),.inl rfl,rfl⟩)<|zb rfl rfl (fun c14=>zv.step (zy (zAM rfl c14) rfl))<|zA (zg rfl rfl)<|zG ?_
 refine zY h rfl (fun b1 h => ?_) (fun b1 h => ?_)
 ·refine zI<|zC<|zA (zD (av:=(AV.lit (.bool false))) rfl)<|zG<|zd ?_
  cases h
  exact zx (zAi rfl rfl)
 refine zU<|zI<|zC<|zA (zR (k:=2) (o:=0) (m:=5) (la:=(zF x3.1)) Try.isAgg29 Try.sizeOf29 rfl rfl rfl rfl rfl)<|zQ h fun x6 w6 h=>zZ (r:=(AV.tup [li x6.1,li x6.2])) (la:=[(AV.agg (zF x3.1))]) Try.func16 rfl (by kernel_rfl) (.fn 16) rfl rfl (zFM w6) rfl ?_
 refine zA (zB rfl)<|zA (zS rfl rfl)<|zA (zS rfl rfl)<|zA (zD rfl)<|zA (zD rfl)<|zG ?_
 refine zI<|zC<|zA (zR (k:=2) (o:=0) (m:=5) (la:=(zF x3.1)) Try.isAgg29 Try.sizeOf29 rfl rfl rfl rfl rfl)<|zQ h fun x7 w7 h=>zZ (r:=(AV.tup [(AV.agg (zF x7.1)),li x7.2.1,li x7.2.2])) (la:=[(AV.agg (zF x3.1)),li 0,(AV.lit (.bool true)),(AV.lit (.bool false))]) Try.func17 rfl (by kernel_rfl) (.fn 17) rfl rfl (zGa w7) rfl<|zA (zB (av:=(AV.tup [(AV.agg (zF x7.1)),li x7.2.1,li x7.2.2])) rfl) ?_
 refine zA (zS rfl rfl)<|zA (zS rfl rfl)<|zA (zS rfl rfl)<|zX (H':=[.dead,.dead,.box 29 (zF x3.1),.box 29 (zF ⟨[],0,0,[],[]⟩)]) zv3<|za (H':=[.dead,.dead,.box 29 (zF x3.1),.box 29 (zF x7.1)]) (zT (k:=3) (o:=0) (cs:=(zF ⟨[],0,0,[],[]⟩)) (la:=(zF x7.1)) Try.sizeOf29 rfl rfl rfl rfl)<|zA (zD rfl) ?_
 refine zA (zD (av:=(li x7.2.2)) rfl)<|zG<|zI<|zI<|zC<|zA (zB (av:=(li x6.1)) rfl) ?_
 refine zA (zy rfl rfl)<|zA (zB rfl)<|zb rfl rfl (fun c15=>zv.step (zB rfl))<|zb rfl rfl (fun c16=>zv.step (zy (zAM rfl c16) rfl))<|zA (zg rfl rfl)<|zA (zB rfl) ?_
 refine zb (g:=59) (s:=(!decide (x6.1=6))||(!decide (x6.2=14))) rfl rfl (fun c17=>zv.step (zB (av:=(li x7.2.2)) rfl))<|zb (g:=59) (s:=(!decide (x6.1=6))||(!decide (x6.2=14))) rfl rfl (fun c18=>zv.step (zy (a:=x7.2.2) (b:=0) (zAM rfl c18) rfl))<|zA (zg (s:=(!decide (x6.1=6))||(!decide (x6.2=14))) (q := !decide (x7.2.2=0)) (j := .lit undef) rfl rfl)<|zA (zB (av:=(AV.lit (.bool (((!decide (x6.1=6))||(!decide (x6.2=14)))||(!decide (x7.2.2=0)))))) rfl)<|zb (g:=63) (s:=((!decide (x6.1=6))||(!decide (x6.2=14)))||(!decide (x7.2.2=0))) rfl rfl (fun c19=>zv.step (zB (av:=(li x7.2.1)) rfl))<|zb (g:=63) (s:=((!decide (x6.1=6))||(!decide (x6.2=14)))||(!decide (x7.2.2=0))) rfl rfl (fun c20=>zv.step (zy (a:=x7.2.1) (b:=0) (zAM rfl c20) rfl)) ?_
 refine zA (zg rfl rfl)<|zA (zB rfl)<|zb rfl rfl (fun c21=>zv.step (zR (k:=3) (o:=0) (m:=5) Try.isAgg29 Try.sizeOf29 rfl rfl rfl rfl rfl))<|zQ h fun x8 w8 h=>zDe (g:=67) (s:=(((!decide (x6.1=6))||(!decide (x6.2=14)))||(!decide (x7.2.2=0)))||(!decide (x7.2.1=0))) (r':=(AV.lit (.bool x8))) rfl rfl (fun c22=>⟨14,_,_,[],[(AV.agg (zF x7.1)),li 0],[(AV.agg (zF x7.1)),li 0],(AV.lit (.bool x8)),[],Try.func14,rfl,by kernel_rfl,.fn 14,(zAe (zAM rfl c22) (zAe rfl rfl)),⟨zBC.nr rfl,zBC.nr rfl,trivial⟩,zIW (zIQ c22 w8),.inl rfl,rfl⟩)<|zA (zg rfl rfl) ?_
 refine zA (zB (av:=(AV.lit (.bool (((((!decide (x6.1=6))||(!decide (x6.2=14)))||(!decide (x7.2.2=0)))||(!decide (x7.2.1=0)))||x8)))) rfl)<|zb (g:=71) (s:=((((!decide (x6.1=6))||(!decide (x6.2=14)))||(!decide (x7.2.2=0)))||(!decide (x7.2.1=0)))||x8) rfl rfl (fun c23=>zv.step (zR (k:=3) (o:=0) (m:=5) (la:=(zF x7.1)) Try.isAgg29 Try.sizeOf29 rfl rfl rfl rfl rfl))<|zQ h fun x9 w9 h=>zDe (g:=71) (s:=((((!decide (x6.1=6))||(!decide (x6.2=14)))||(!decide (x7.2.2=0)))||(!decide (x7.2.1=0)))||x8) (r':=(AV.lit (.bool x9))) rfl rfl (fun c24=>⟨14,_,_,[],[(AV.agg (zF x7.1)),li 1],[(AV.agg (zF x7.1)),li 1],(AV.lit (.bool x9)),[],Try.func14,rfl,by kernel_rfl,.fn 14,(zAe (zAM rfl c24) (zAe rfl rfl)),⟨zBC.nr rfl,zBC.nr rfl,trivial⟩,zIW (zIQ c24 w9),.inl rfl,rfl⟩)<|zb (g:=71) (s:=((((!decide (x6.1=6))||(!decide (x6.2=14)))||(!decide (x7.2.2=0)))||(!decide (x7.2.1=0)))||x8) rfl rfl (fun c25=>zv.step (zBU (t:=x9) (zAM rfl c25)))<|zA (zg (s:=((((!decide (x6.1=6))||(!decide (x6.2=14)))||(!decide (x7.2.2=0)))||(!decide (x7.2.1=0)))||x8) (q := !x9) (j := .lit undef) rfl rfl) ?_
 refine zA (zB rfl)<|zb rfl rfl (fun c26=>zv.step (zR (k:=3) (o:=0) (m:=5) Try.isAgg29 Try.sizeOf29 rfl rfl rfl rfl rfl))<|zQ h fun x10 w10 h=>zDe (g:=76) (s:=(((((!decide (x6.1=6))||(!decide (x6.2=14)))||(!decide (x7.2.2=0)))||(!decide (x7.2.1=0)))||x8)||(!x9)) (r':=(li x10)) rfl rfl (fun c27=>⟨18,_,_,[],[(AV.agg (zF x7.1)),li 0],[(AV.agg (zF x7.1)),li 0],li x10,[],Try.func18,rfl,by kernel_rfl,.fn 18,(zAe (zAM rfl c27) (zAe rfl rfl)),⟨zBC.nr rfl,zBC.nr rfl,trivial⟩,zL5 (zIQ c27 w10),.inl rfl,rfl⟩)<|zb rfl rfl (fun c28=>zv.step (zy (zAM rfl c28) rfl))<|zA (zg rfl rfl) ?_
 refine zA (zB (av:=(AV.lit (.bool (((((((!decide (x6.1=6))||(!decide (x6.2=14)))||(!decide (x7.2.2=0)))||(!decide (x7.2.1=0)))||x8)||(!x9))||(!decide (x10=7)))))) rfl)<|zb (g:=81) (s:=((((((!decide (x6.1=6))||(!decide (x6.2=14)))||(!decide (x7.2.2=0)))||(!decide (x7.2.1=0)))||x8)||(!x9))||(!decide (x10=7))) rfl rfl (fun c29=>zv.step (zR (k:=3) (o:=0) (m:=5) (la:=(zF x7.1)) Try.isAgg29 Try.sizeOf29 rfl rfl rfl rfl rfl))<|zQ h fun x11 w11 h=>zDe (g:=81) (s:=((((((!decide (x6.1=6))||(!decide (x6.2=14)))||(!decide (x7.2.2=0)))||(!decide (x7.2.1=0)))||x8)||(!x9))||(!decide (x10=7))) (r':=(li x11)) rfl rfl (fun c30=>⟨19,_,_,[],[(AV.agg (zF x7.1)),li 8],[(AV.agg (zF x7.1)),li 8],li x11,[],Try.func19,rfl,by kernel_rfl,.fn 19,(zAe (zAM rfl c30) (zAe rfl rfl)),⟨zBC.nr rfl,zBC.nr rfl,trivial⟩,zMN (zIQ c30 w11),.inl rfl,rfl⟩)<|zb (g:=81) (s:=((((((!decide (x6.1=6))||(!decide (x6.2=14)))||(!decide (x7.2.2=0)))||(!decide (x7.2.1=0)))||x8)||(!x9))||(!decide (x10=7))) rfl rfl (fun c31=>zv.step (zy (a:=x11) (b:=1) (zAM rfl c31) rfl))<|zA (zg (s:=((((((!decide (x6.1=6))||(!decide (x6.2=14)))||(!decide (x7.2.2=0)))||(!decide (x7.2.1=0)))||x8)||(!x9))||(!decide (x10=7))) (q := !decide (x11=1)) (j := .lit undef) rfl rfl) ?_
 refine zG ?_
 refine zY h rfl (fun b2 h => ?_) (fun b2 h => ?_)
 ·refine zI<|zC<|zA (zD rfl)<|zG<|zd ?_
  cases h
  exact zx (zAi (r1:=(AV.lit (.bool false))) rfl rfl)
 refine zU<|zI<|zC<|zA (zR (k:=3) (o:=0) (m:=5) Try.isAgg29 Try.sizeOf29 rfl rfl rfl rfl rfl)<|zQ h fun x12 w12 h=>zZ Try.func20 rfl (by kernel_rfl) (.fn 20) rfl rfl (zG0 w12) rfl ?_
 refine zA (zB (av:=(AV.tup [(AV.agg (zF x12.1)),li x12.2])) rfl)<|zA (zS (la:=[(AV.agg (zF x12.1)),li x12.2]) rfl rfl)<|zA (zS (la:=[(AV.agg (zF x12.1)),li x12.2]) rfl rfl)<|zX (a:=(AV.ptr 4 0)) (H':=[.dead,.dead,.box 29 (zF x3.1),.box 29 (zF x7.1),.box 29 (zF ⟨[],0,0,[],[]⟩)]) zv3<|za (H':=[.dead,.dead,.box 29 (zF x3.1),.box 29 (zF x7.1),.box 29 (zF x12.1)]) (zT (k:=4) (o:=0) (cs:=(zF ⟨[],0,0,[],[]⟩)) (la:=(zF x12.1)) Try.sizeOf29 rfl rfl rfl rfl)<|zA (zD (av:=(li x12.2)) rfl) ?_
 refine zG<|zI<|zI<|zC<|zA (zB rfl)<|zA (zy rfl rfl) ?_
 refine zG ?_
 refine zY h rfl (fun b3 h => ?_) (fun b3 h => ?_)
 ·refine zI<|zC<|zA (zD (av:=(AV.lit (.bool false))) rfl)<|zG<|zd ?_
  cases h
  exact zx (zAi rfl rfl)
 refine zU<|zI<|zC<|zA (zR (k:=2) (o:=0) (m:=5) (la:=(zF x3.1)) Try.isAgg29 Try.sizeOf29 rfl rfl rfl rfl rfl)<|zQ h fun x13 w13 h=>zZ (r:=(AV.tup [(AV.agg (zF x13.1)),li x13.2.1,li x13.2.2])) (la:=[(AV.agg (zF x3.1)),li 1,li 3]) Try.func23 rfl (by kernel_rfl) (.fn 23) rfl rfl (zJ1 w13) rfl ?_
 refine zA (zB rfl)<|zA (zS rfl rfl)<|zA (zS rfl rfl)<|zA (zS rfl rfl)<|zX (H':=[.dead,.dead,.box 29 (zF x3.1),.box 29 (zF x7.1),.box 29 (zF x12.1),.box 29 (zF ⟨[],0,0,[],[]⟩)]) zv3<|za (H':=[.dead,.dead,.box 29 (zF x3.1),.box 29 (zF x7.1),.box 29 (zF x12.1),.box 29 (zF x13.1)]) (zT (k:=5) (o:=0) (cs:=(zF ⟨[],0,0,[],[]⟩)) (la:=(zF x13.1)) Try.sizeOf29 rfl rfl rfl rfl) ?_
 refine zA (zD (av:=(li x13.2.1)) rfl)<|zA (zD (av:=(li x13.2.2)) rfl)<|zG<|zI<|zQ h fun x14 w14 h=>zQ h fun x15 w15 h => ?_
 refine zBe (n:=111) (m:=0) [.head 0 0,.head 0 0,.head 0 0,.head 0 0,.head 0 0,.head 0 0,.head 0 0,.head 0 0,.head 0 0,.head 0 0,.head 0 0,.head 0 0,.head 0 0] [] [li x13.2.2,(AV.lit (.bool (decide (x13.2.2=0)))),(AV.lit (.bool (decide (x13.2.2=0)))),(bif decide (x13.2.2=0) then (li x13.2.1) else .lit undef),(bif decide (x13.2.2=0) then (AV.lit (.bool (decide (x13.2.1=8)))) else .lit undef),(AV.lit (.bool ((decide (x13.2.2=0))&&(decide (x13.2.1=8))))),(AV.lit (.bool ((decide (x13.2.2=0))&&(decide (x13.2.1=8))))),(bif (decide (x13.2.2=0))&&(decide (x13.2.1=8)) then (AV.agg (zF x12.1)) else .lit undef),(bif (decide (x13.2.2=0))&&(decide (x13.2.1=8)) then (AV.agg (zF x14)) else .lit undef),(bif (decide (x13.2.2=0))&&(decide (x13.2.1=8)) then (AV.agg (zF x3.1)) else .lit undef),(bif (decide (x13.2.2=0))&&(decide (x13.2.1=8)) then (AV.lit (.bool x15)) else .lit undef),(AV.lit (.bool (((decide (x13.2.2=0))&&(decide (x13.2.1=8)))&&x15))),(AV.lit (.bool (((decide (x13.2.2=0))&&(decide (x13.2.1=8)))&&x15)))] [[.dead,.dead,.box 29 (zF x3.1),.box 29 (zF x7.1),.box 29 (zF x12.1),.box 29 (zF x13.1)]] (by kernel_rfl) (by kernel_rfl) ⟨D1 fun e s p=>zB (s 2 rfl),D1 fun e s p=>zBO (a:=x13.2.2) (b:=0) p.1 rfl,D1 fun e s p=>zB (av:=(AV.lit (.bool (decide (x13.2.2=0))))) p.1,?_,?_,D1 fun e s p=>zAH (s:=decide (x13.2.2=0)) (q:=decide (x13.2.1=8)) (j := .lit undef) p.1 p.2.1,D1 fun e s p=>zB p.1,?_,?_,?_,?_,D1 fun e s p=>zAH (s:=(decide (x13.2.2=0))&&(decide (x13.2.1=8))) (q:=x15) (j := .lit undef) p.1 p.2.1,D1 fun e s p=>zD (av:=(AV.lit (.bool (((decide (x13.2.2=0))&&(decide (x13.2.1=8)))&&x15)))) p.2.2.2.2.2.2.2.2.2.2.2.2.2.1,trivial⟩ ?_
 ·
  intro e4 s4 p4
  refine z5 (g:=101) (s:=decide (x13.2.2=0)) rfl p4.1 (fun c38=>zv.step (zB (av:=(li x13.2.1)) (s4 9 rfl))) ?_
  exact zG ⟨fun _=>rfl,rfl⟩
 ·
  intro e5 s5 p5
  refine z5 (g:=101) (s:=decide (x13.2.2=0)) rfl p5.2.1 (fun c39=>zv.step (zBO (a:=x13.2.1) (b:=8) (zAM p5.1 c39) rfl)) ?_
  exact zG ⟨fun _=>rfl,rfl⟩
 ·
  intro e8 s8 p8
  refine z5 (g:=105) (s:=(decide (x13.2.2=0))&&(decide (x13.2.1=8))) rfl p8.1 (fun c40=>zv.step (zR (k:=4) (o:=0) (m:=5) (la:=(zF x12.1)) Try.isAgg29 Try.sizeOf29 (s8 7 rfl) rfl rfl rfl rfl)) ?_
  exact zG ⟨fun _=>rfl,rfl⟩
 ·
  intro e9 s9 p9
  refine zGE (g:=105) (s:=(decide (x13.2.2=0))&&(decide (x13.2.1=8))) (r':=(AV.agg (zF x14))) rfl p9.2.2.1 (fun c41=>⟨22,_,_,[],[(AV.agg (zF x12.1))],[(AV.agg (zF x12.1))],(AV.agg (zF x14)),[],Try.func22,rfl,by kernel_rfl,.fn 22,(zAe (zAM p9.1 c41) rfl),⟨zBC.nr rfl,trivial⟩,zIi (zIQ c41 w14),.inl rfl,rfl⟩) ?_
  exact zG ⟨fun _=>rfl,rfl⟩
 ·
  intro e10 s10 p10
  refine z5 (g:=105) (s:=(decide (x13.2.2=0))&&(decide (x13.2.1=8))) rfl p10.1 (fun c42=>zv.step (zR (k:=2) (o:=0) (m:=5) (la:=(zF x3.1)) Try.isAgg29 Try.sizeOf29 (s10 1 rfl) rfl rfl rfl rfl)) ?_
  exact zG ⟨fun _=>rfl,rfl⟩
 ·
  intro e11 s11 p11
  refine zGE (g:=105) (s:=(decide (x13.2.2=0))&&(decide (x13.2.1=8))) (r':=(AV.lit (.bool x15))) rfl p11.2.2.2.1 (fun c43=>⟨11,_,_,[],[(AV.agg (zF x14)),(AV.agg (zF x3.1))],[(AV.agg (zF x14)),(AV.agg (zF x3.1))],(AV.lit (.bool x15)),[],Try.func11,rfl,by kernel_rfl,.fn 11,(zAe (zAM p11.2.2.1 c43) (zAe (zAM p11.2.1 c43) rfl)),⟨zBC.nr rfl,zBC.nr rfl,trivial⟩,zPb (zIQ c43 w15),.inl rfl,rfl⟩) ?_
  exact zG ⟨fun _=>rfl,rfl⟩
 intro e14 s14 hq1
 refine zAz (zCl (l:=[(0,(AV.lit (.bool (((decide (x13.2.2=0))&&(decide (x13.2.1=8)))&&x15))))]) ⟨(hq1 12 (by decide) (by decide)),trivial⟩)<|zd ?_
 cases h
 exact zx (zAi rfl rfl)
theorem zP0 {W:zAD} {r:zH×Int} (h:zJW W=some r):PFn Try.prog 21 [(AV.agg (zt W))] (AV.tup [(AV.agg (zF r.1)),li r.2]):=by
 refine zq Try.func21 rfl Try.ntmps21 Try.results21 rfl ?_
 unfold zJW at h
 refine zI<|zC<|zX (H':=[.box 37 (zt W)]) (z6 (t:=37) rfl)<|zX (H':=[.box 37 (zt W),.box 29 ([(ls cI ([]:List Int))]++([li 0]++([li 0]++([(ls zO ([]:List zW))]++([(ls zJ ([]:List zK))]++[])))))]) zv3<|zA (zD rfl)<|zG ?_
 refine zI<|zC<|zA (zD rfl)<|zG ?_
 refine zAA (r:=r) (fun (i1:Int)=>mkE [(1,(AV.ptr 0 0)),(2,(AV.ptr 1 0)),(4,(li i1))]) (fun i1=>[.box 37 (zt W),.box 29 ([(ls cI ([]:List Int))]++([li 0]++([li 0]++([(ls zO ([]:List zW))]++([(ls zJ ([]:List zK))]++[])))))]) (fun i1=>zHc W i1) ?_ ?_
 ·
  refine zI<|zC<|zA (zL Try.underlying37 rfl rfl Try.sizeOf4 rfl)<|zA (zN Try.isAgg4 rfl rfl rfl rfl)<|zG ?_
  refine zY h rfl (fun b16 h => ?_) (fun b16 h => ?_)
  ·refine zC<|zA (zD rfl)<|zG ?_
   exact ⟨3,zAd [0,1] rfl rfl (by kernel_rfl),h⟩
  refine zU ?_
  exact ⟨2,zAd [0,1] rfl rfl (by kernel_rfl),h⟩
 clear h
 intro i1 h
 unfold zHc at h
 refine zI<|zC<|zA (zD rfl)<|zG ?_
 refine zAA (r:=r) (fun (l1:List zAZ)=>mkE [(1,(AV.ptr 0 0)),(2,(AV.ptr 1 0)),(5,(AV.hd 2))]) (fun l1=>[.box 37 (zt W),.box 29 ([(ls cI ([]:List Int))]++([li 0]++([li 0]++([(ls zO ([]:List zW))]++([(ls zJ ([]:List zK))]++[]))))),.vec 65 4 (List.map zAP l1)]) (fun l1=>zGG W l1) ?_ ?_
 ·
  refine zI<|zC<|zA (zB rfl)<|zA (zB rfl)<|zG<|zV ?_
  refine z9 (σ:=Int×(List zAZ)) (fun (i2,l2)=>mkE [(1,(AV.ptr 0 0)),(2,(AV.ptr 1 0)),(5,(AV.hd 2)),(12,(li i1)),(13,(li i2))]) (fun (i2,l2)=>[.box 37 (zt W),.box 29 ([(ls cI ([]:List Int))]++([li 0]++([li 0]++([(ls zO ([]:List zW))]++([(ls zJ ([]:List zK))]++[]))))),.vec 65 4 (List.map zAP l2)]) (fun n0 (i2,l2)=>zES W i1 n0 i2 l2) (0,[]) h (fun _=>rfl) (Rep.trans (zPU (d:=5) (el:=65) (sz:=4) rfl) (zAd [0,1,2] (l:=[(1,(AV.ptr 0 0)),(2,(AV.ptr 1 0)),(5,(AV.hd 2)),(12,(li i1)),(13,(li 0))]) rfl rfl (by kernel_rfl))) ?_
  clear h
  rintro n0 ⟨i2,l2⟩ h
  replace h:zFP W i1 (zES W i1 n0) i2 l2=some r:=h
  unfold zFP at h
  refine zI<|zC<|zA (zj rfl rfl)<|zG<|zI ?_
  refine zY h rfl (fun b5 h => ?_) (fun b5 h => ?_)
  ·refine zU<|zI<|zV<|zI<|zC<|zA (zB rfl) ?_
   refine zA (zD rfl)<|zG<|zI<|zC<|zA (zB rfl)<|zA (zL Try.underlying37 rfl rfl Try.sizeOf34 rfl) ?_
   refine zM h fun b6 h=>zA (zAg (m:=3) (s:=1) (i:=i2) (k:=0) (o:=0) Try.underlying34 Try.sizeOf5 rfl rfl b6)<|zA (zDA (k:=0) (o:=(0+i2.toNat*1)) (cs:=(zt W)) (hd:=([])) (tl:=([]++(cA 3 (eK .u8) 0 W.mins)++(cA 3 eB false W.kinds)++[(AV.lit (.int .u8 W.batch))]++[(AV.lit (.bool W.three))])) (g:=(eK .u8)) (d0:=0) (l:=W.counts) (N:=3) (i:=i2.toNat) (a:=(AV.lit (.int .u8 (W.counts.getD i2.toNat 0)))) Try.isAgg5 rfl rfl rfl (congrArg (fun q=>0+q) (Nat.mul_one _)) (zCa b6).2 rfl rfl)<|zA (zF7 (k := .u8) (a:=W.counts.getD i2.toNat 0) (b:=20) rfl rfl (by decide))<|zM h fun b7 h=>zA (zFB (k' := .i64) (a:=(W.counts.getD i2.toNat 0).tmod 20) Try.underlying5 Try.underlying3 rfl b7) ?_
   refine zM h fun b8 h=>zA (zi rfl rfl b8)<|zA (zD rfl)<|zG<|zI<|zC ?_
   refine zA (zD rfl)<|zG ?_
   refine zAA (r:=r) (fun (i3:Int)=>mkE [(1,(AV.ptr 0 0)),(2,(AV.ptr 1 0)),(5,(AV.hd 2)),(6,(li i2)),(7,(li (1+((W.counts.getD i2.toNat 0).tmod 20)))),(8,(li i3)),(12,(li i1)),(13,(li i2))]) (fun i3=>[.box 37 (zt W),.box 29 ([(ls cI ([]:List Int))]++([li 0]++([li 0]++([(ls zO ([]:List zW))]++([(ls zJ ([]:List zK))]++[]))))),.vec 65 4 (List.map zAP l2)]) (fun i3=>zGM (zES W i1 n0) W i2 l2 i3) ?_ ?_
   ·
    refine zI<|zC<|zA (zB rfl)<|zA (zL Try.underlying37 rfl rfl Try.sizeOf35 rfl)<|zA (zAg (m:=3) (s:=1) (i:=i2) (k:=0) (o:=6) Try.underlying35 Try.sizeOf4 rfl rfl b6)<|zA (zDA (k:=0) (o:=(6+i2.toNat*1)) (cs:=(zt W)) (hd:=((cA 3 (eK .u8) 0 W.counts)++(cA 3 (eK .u8) 0 W.mins)++[])) (tl:=([]++[(AV.lit (.int .u8 W.batch))]++[(AV.lit (.bool W.three))])) (g:=eB) (d0:=false) (l:=W.kinds) (N:=3) (i:=i2.toNat) (a:=(AV.lit (.bool (W.kinds.getD i2.toNat false)))) Try.isAgg4 rfl rfl rfl (congrArg (fun q=>6+q) (Nat.mul_one _)) (zCa b6).2 rfl rfl) ?_
    refine zG ?_
    refine zY h rfl (fun b15 h => ?_) (fun b15 h => ?_)
    ·refine zC<|zA (zD rfl)<|zG ?_
     exact ⟨1,zAd [0,1,2] rfl rfl (by kernel_rfl),h⟩
    refine zU ?_
    exact ⟨0,zAd [0,1,2] rfl rfl (by kernel_rfl),h⟩
   clear h
   intro i3 h
   unfold zGM at h
   refine zC<|zA (zB rfl)<|zA (zB rfl)<|zA (zF7 (k := .i64) (a:=i2) (b:=2) rfl rfl (by decide))<|zA (zB rfl)<|zA (zB rfl) ?_
   refine zA (zB rfl)<|zA (zL Try.underlying37 rfl rfl Try.sizeOf34 rfl)<|zM h fun b9 h=>zA (zAg (m:=3) (s:=1) (i:=i2) (k:=0) (o:=3) Try.underlying34 Try.sizeOf5 rfl rfl b9)<|zA (zDA (k:=0) (o:=(3+i2.toNat*1)) (cs:=(zt W)) (hd:=((cA 3 (eK .u8) 0 W.counts)++[])) (tl:=([]++(cA 3 eB false W.kinds)++[(AV.lit (.int .u8 W.batch))]++[(AV.lit (.bool W.three))])) (g:=(eK .u8)) (d0:=0) (l:=W.mins) (N:=3) (i:=i2.toNat) (a:=(AV.lit (.int .u8 (W.mins.getD i2.toNat 0)))) Try.isAgg5 rfl rfl rfl (congrArg (fun q=>3+q) (Nat.mul_one _)) (zCa b9).2 rfl rfl)<|zM h fun b10 h => ?_
   refine zA (zFB (k' := .i64) (a:=W.mins.getD i2.toNat 0) Try.underlying5 Try.underlying3 rfl b10)<|zA (zB rfl)<|zM h fun b11 h=>zA (zi rfl rfl b11)<|zM h fun b12 h=>zA (zF7 (k := .i64) (a:=W.mins.getD i2.toNat 0) (b:=(1+((W.counts.getD i2.toNat 0).tmod 20))+1) rfl rfl b12) ?_
   refine zA (zCU (pl:=[(0,1),(1,1),(2,1),(3,1)]) (zs:=[.int .i64 0,.int .i64 0,.int .i64 0,.int .i64 0]) (zc:=[.lit (.int .i64 0),.lit (.int .i64 0),.lit (.int .i64 0),.lit (.int .i64 0)]) (res:=(zAP (⟨i2.tmod 2,i3,1+((W.counts.getD i2.toNat 0).tmod 20),(W.mins.getD i2.toNat 0).tmod ((1+((W.counts.getD i2.toNat 0).tmod 20))+1)⟩:zAZ))) (fun _=>by kernel_rfl) rfl (⟨zA6.refl _,⟨zA6.refl _,⟨zA6.refl _,⟨zA6.refl _,trivial⟩⟩⟩⟩) ⟨(li (i2.tmod 2)),0,1,rfl,rfl,rfl,rfl,rfl,⟨li i3,1,1,rfl,rfl,rfl,rfl,rfl,⟨(li (1+((W.counts.getD i2.toNat 0).tmod 20))),2,1,rfl,rfl,rfl,rfl,rfl,⟨(li ((W.mins.getD i2.toNat 0).tmod ((1+((W.counts.getD i2.toNat 0).tmod 20))+1))),3,1,rfl,rfl,rfl,rfl,rfl,(by exact zLH.refl _)⟩⟩⟩⟩)<|zGW (a:=(AV.agg (zAP (⟨i2.tmod 2,i3,1+((W.counts.getD i2.toNat 0).tmod 20),(W.mins.getD i2.toNat 0).tmod ((1+((W.counts.getD i2.toNat 0).tmod 20))+1)⟩:zAZ)))) zTf Try.underlying24 rfl rfl rfl rfl<|zM h fun b13 h=>zER (f:=zAP) (k:=2) (j:=3) (l:=l2) (l':=[(⟨i2.tmod 2,i3,1+((W.counts.getD i2.toNat 0).tmod 20),(W.mins.getD i2.toNat 0).tmod ((1+((W.counts.getD i2.toNat 0).tmod 20))+1)⟩:zAZ)]) zTf (fun _=>rfl) Try.underlying24 rfl rfl rfl rfl b13<|zA (zD rfl)<|zG ?_
   refine zC<|zM h fun b14 h=>zA (zi rfl rfl b14)<|zA (zB rfl)<|zG ?_
   exact ⟨((i2+1),(l2++[(⟨i2.tmod 2,i3,1+((W.counts.getD i2.toNat 0).tmod 20),(W.mins.getD i2.toNat 0).tmod ((1+((W.counts.getD i2.toNat 0).tmod 20))+1)⟩:zAZ)])),zAd [0,1,4] rfl rfl (by kernel_rfl),h⟩
  refine zAG ?_
  exact ⟨l2,zAd [0,1,2] rfl rfl (by kernel_rfl),h⟩
 clear h
 intro l1 h
 unfold zGG at h
 refine zI<|zC<|zA (zL Try.underlying37 rfl rfl Try.sizeOf5 rfl)<|zA (zN Try.isAgg5 rfl rfl rfl rfl)<|zA (zF7 (k := .u8) (a:=W.batch) (b:=4) rfl rfl (by decide))<|zM h fun b1 h => ?_
 refine zA (zFB (k' := .i64) (a:=W.batch.tmod 4) Try.underlying5 Try.underlying3 rfl b1)<|zM h fun b2 h=>zA (zi rfl rfl b2)<|zA (zD rfl)<|zG<|zI ?_
 refine zC<|zPc (N:=2) (pl:=[(0,1),(1,1)]) (zs:=[.int .i64 0,.int .i64 0]) (zc:=[.lit (.int .i64 0),.lit (.int .i64 0)]) (rows:=List.map cI [0,1]) zG6 Try.underlying22 rfl rfl rfl (by kernel_rfl) rfl (⟨zA6.refl _,⟨zA6.refl _,trivial⟩⟩) ⟨li 0,0,1,rfl,rfl,rfl,rfl,rfl,⟨li 1,1,1,rfl,rfl,rfl,rfl,rfl,(by exact zLH.refl _)⟩⟩ rfl rfl rfl<|zA (zB rfl)<|zA (zB rfl)<|zA (zL Try.underlying37 rfl rfl Try.sizeOf5 rfl)<|zA (zN Try.isAgg5 rfl rfl rfl rfl) ?_
 refine zA (zTe (k := .u8) (a:=W.batch) (b:=4) rfl rfl (by decide))<|zA (zF7 (k := .u8) (a:=IntKind.u8.wrap (W.batch.tdiv 4)) (b:=4) rfl rfl (by decide))<|zM h fun b3 h=>zA (zFB (k' := .i64) (a:=(IntKind.u8.wrap (W.batch.tdiv 4)).tmod 4) Try.underlying5 Try.underlying3 rfl b3)<|zM h fun b4 h=>zA (zi rfl rfl b4) ?_
 refine zA (zB rfl)<|zQ h fun x1 w1 h=>zAF (zE8 (j:=2) (ds:=[5,58]) (rows':=List.map zAP l1) rfl (zAW (fun _=>rfl)) ⟨rfl,rfl,trivial⟩)<|zQ h fun x2 w2 h=>zAF (zE8 (j:=3) (ds:=[49]) (rows':=List.map cI [0,1]) rfl (zAW (fun _=>rfl)) ⟨rfl,trivial⟩)<|zQ h fun x3 w3 h => ?_
 refine zZ Try.func9 rfl (by kernel_rfl) (.fn 9) rfl rfl (zJ6 w3) rfl<|zA (zS rfl rfl)<|zA (zS rfl rfl)<|za (H':=[.box 37 (zt W),.box 29 (zF x3.1),.dead,.dead]) (zT (k:=1) (o:=0) (cs:=([(ls cI ([]:List Int))]++([li 0]++([li 0]++([(ls zO ([]:List zW))]++([(ls zJ ([]:List zK))]++[])))))) (la:=(zF x3.1)) Try.sizeOf29 rfl rfl rfl rfl)<|zA (zD rfl)<|zG ?_
 refine zd ?_
 cases h
 exact zCB (zF3 Try.isAgg29 Try.sizeOf29 rfl rfl rfl rfl) (zAi rfl rfl) rfl
theorem zLd {uB:Int} {uF:Int} {r:Bool} (h:zBZ uB uF=some r):PFn Try.prog 58 [li uB,(AV.rp [li uF] 0)] (AV.lit (.bool r)):=by
 refine zq Try.func58 rfl Try.ntmps58 Try.results58 rfl ?_
 unfold zBZ at h
 refine zI<|zC<|zA (zD rfl)<|zG<|zI<|zC ?_
 refine zA (zB rfl)<|zA (zp (o:=0) Try.isAgg3 rfl rfl)<|zA (zBO rfl rfl)<|zA (zD rfl)<|zG<|zd ?_
 cases h
 exact zx (zAi rfl rfl)
theorem zHl {Q : List Int} {uU : Int → Option Bool} {g_a_del : FuncId} {cf_a_del : Func} {code_a_del : Code} {caps_a_del : List AV} (hcf_a_del : Try.prog.funcs[g_a_del]? = some cf_a_del) (hcb_a_del : cf_a_del.body = some code_a_del) (hcn_a_del : (cf_a_del.name == "runtime.NumGoroutine") = false) (hnr_a_del : caps_a_del.all nr = true) (hg_a_del : ∀ {x0 : Int} {y : Bool}, uU x0 = some y → PFn Try.prog g_a_del ((li x0) :: caps_a_del) (AV.lit (.bool y))) {r : (List Int)} (h : zBd Q uU = some r) : AFn Try.prog 57 [(AV.hd 0), (AV.clo g_a_del caps_a_del)] [.vec 3 1 (List.map cI Q)] (.hd 1) [.dead, .vec 3 1 (List.map cI r)] := by
 refine zGJ Try.func57 rfl Try.ntmps57 Try.results57 rfl ?_
 unfold zBd at h
 refine zI<|zC<|zA (zD rfl)<|zG<|zI<|zC ?_
 refine zA (zB rfl)<|zA (zB rfl)<|zQ h fun x1 w1 h=>zAq (r':=(li x1)) (la:=[AV.hd 0,AV.clo g_a_del caps_a_del]) (la':=[ls cI Q,AV.clo g_a_del caps_a_del]) (r:=(li x1)) (S:=[0]) Try.func84 rfl (by kernel_rfl) (.fn 84) rfl ⟨zGn (fun _=>rfl) rfl rfl,zBC.clo (zDZ.nrs hnr_a_del),trivial⟩ (zEy hcf_a_del hcb_a_del hcn_a_del hnr_a_del hg_a_del w1) (.inr trivial) rfl<|zA (zD rfl)<|zG ?_
 refine zI<|zI<|zC<|zA (zB rfl)<|zA (zBO rfl rfl)<|zG ?_
 refine zY h rfl (fun b1 h => ?_) (fun b1 h => ?_)
 ·refine zI<|zC<|zA (zB rfl)<|zA (zD rfl)<|zG<|zd ?_
  cases h
  exact ⟨_,_,zUr (d:=4) (k:=0) (l:=Q) rfl rfl,zUC rfl rfl⟩
 refine zU ?_
 refine zAA (r:=r) (fun ((i1,l1):Int×(List Int))=>mkE [(0,(AV.hd 0)),(5,(li i1))]) (fun (i1,l1)=>[.vec 3 1 (List.map cI l1)]) (fun (i1,l1)=>zBr i1 l1) ?_ ?_
 ·
  refine zI<|zC<|zA (zB rfl)<|zM h fun b4 h=>zA (zi rfl rfl b4)<|zA (zD rfl) ?_
  refine zG<|zV<|z9 (σ:=Int×Int×(List Int)) (fun (i2,i3,l2)=>mkE [(0,(AV.hd 0)),(1,(AV.clo g_a_del caps_a_del)),(5,(li i2)),(6,(li i3))]) (fun (i2,i3,l2)=>[.vec 3 1 (List.map cI l2)]) (fun n0 (i2,i3,l2)=>zA1 uU n0 i2 i3 l2) (x1,(x1+1),Q) h (fun _=>rfl) (zBT (n:=42) (m:=1) [0] (l:=[(0,(AV.hd 0)),(1,(AV.clo g_a_del caps_a_del)),(5,(li x1)),(6,(li (x1+1)))]) ⟨⟨Sub.refl _,by kernel_rfl⟩,⟨zDb hnr_a_del,zDc hnr_a_del⟩,⟨Sub.refl _,by kernel_rfl⟩,⟨Sub.refl _,by kernel_rfl⟩,trivial⟩ rfl rfl ⟨⟨rfl,by kernel_rfl⟩,trivial⟩) ?_
  clear h
  rintro n0 ⟨i2,i3,l2⟩ h
  replace h:zAl uU (zA1 uU n0) i2 i3 l2=some r:=h
  unfold zAl at h
  refine zI<|zI<|zC<|zA (zB rfl)<|zA (zB rfl)<|zA (zDd (f:=cI) (l:=l2) Try.underlying22 rfl rfl) ?_
  refine zA (zj rfl rfl)<|zG ?_
  refine zY h rfl (fun b5 h => ?_) (fun b5 h => ?_)
  ·refine zU ?_
   refine zAA (r:=r) (fun ((i4,l3):Int×(List Int))=>mkE [(0,(AV.hd 0)),(1,(AV.clo g_a_del caps_a_del)),(5,(li i4)),(6,(li i3))]) (fun (i4,l3)=>[.vec 3 1 (List.map cI l3)]) (fun (i4,l3)=>zBH (zA1 uU n0) i3 i4 l3) ?_ ?_
   ·
    refine zV<|zI<|zC<|zA (zB rfl)<|zA (zB rfl)<|zM h fun b7 h => ?_
    refine zA (zAN (f:=cI) (l:=l2) (i:=i3) Try.underlying22 Try.sizeOf3 rfl rfl rfl b7)<|zA (zC6 (f:=cI) (l:=l2) (i:=i3) (c:=0) (a:=(li (at_ l2 i3))) Try.isAgg3 rfl rfl (by first | rfl | omega) b7 rfl rfl)<|zA (zD rfl)<|zG<|zI<|zC ?_
    refine zA (zB rfl)<|zA (zB rfl)<|zQ h fun x2 w2 h=>zAq (S:=[]) hcf_a_del hcb_a_del hcn_a_del (.clo (caps:=caps_a_del) rfl) rfl (zDZ.c (zBC.nr rfl) (zDZ.nrs hnr_a_del)) (hg_a_del w2) (.inl rfl) rfl<|zA (zBU (t:=x2) rfl)<|zG ?_
    refine zY h rfl (fun b8 h => ?_) (fun b8 h => ?_)
    ·refine zI<|zC<|zA (zB rfl)<|zA (zB rfl)<|zA (zB rfl)<|zM h fun b9 h => ?_
     refine zA (zAN (f:=cI) (l:=l2) (i:=i2) Try.underlying22 Try.sizeOf3 rfl rfl rfl b9)<|za (H':=[.vec 3 1 (List.map cI (l2.set i2.toNat (at_ l2 i3)))]) (zHx (k:=0) (o:=(i2.toNat*1)) (f:=cI) (l:=l2) (i:=i2) (c:=0) (a:=(li (at_ l2 i3))) (z:=at_ l2 i3) Try.sizeOf3 rfl rfl (by first | rfl | omega) b9 rfl rfl rfl rfl rfl)<|zG<|zC<|zA (zB rfl)<|zM h fun b10 h => ?_
     refine zA (zi rfl rfl b10)<|zA (zD rfl)<|zG ?_
     exact ⟨((i2+1),(l2.set i2.toNat (at_ l2 i3))),zBT (n:=42) (m:=1) [0] (l:=[(0,(AV.hd 0)),(1,(AV.clo g_a_del caps_a_del)),(5,(li (i2+1))),(6,(li i3))]) ⟨⟨Sub.refl _,by kernel_rfl⟩,⟨zDb hnr_a_del,zDc hnr_a_del⟩,⟨Sub.refl _,by kernel_rfl⟩,⟨Sub.refl _,by kernel_rfl⟩,trivial⟩ rfl rfl ⟨⟨rfl,by kernel_rfl⟩,trivial⟩,h⟩
    refine zU ?_
    exact ⟨(i2,l2),zBT (n:=42) (m:=1) [0] (l:=[(0,(AV.hd 0)),(1,(AV.clo g_a_del caps_a_del)),(5,(li i2)),(6,(li i3))]) ⟨⟨Sub.refl _,by kernel_rfl⟩,⟨zDb hnr_a_del,zDc hnr_a_del⟩,⟨Sub.refl _,by kernel_rfl⟩,⟨Sub.refl _,by kernel_rfl⟩,trivial⟩ rfl rfl ⟨⟨rfl,by kernel_rfl⟩,trivial⟩,h⟩
   clear h
   rintro ⟨i4,l3⟩ h
   unfold zBH at h
   refine zC<|zA (zB rfl)<|zM h fun b6 h=>zA (zi rfl rfl b6)<|zA (zD rfl)<|zG ?_
   exact ⟨(i4,(i3+1),l3),zBT (n:=42) (m:=1) [0] (l:=[(0,(AV.hd 0)),(1,(AV.clo g_a_del caps_a_del)),(5,(li i4)),(6,(li (i3+1)))]) ⟨⟨Sub.refl _,by kernel_rfl⟩,⟨zDb hnr_a_del,zDc hnr_a_del⟩,⟨Sub.refl _,by kernel_rfl⟩,⟨Sub.refl _,by kernel_rfl⟩,trivial⟩ rfl rfl ⟨⟨rfl,by kernel_rfl⟩,trivial⟩,h⟩
  refine zAG ?_
  exact ⟨(i2,l2),zAd [0] rfl rfl (by kernel_rfl),h⟩
 clear h
 rintro ⟨i1,l1⟩ h
 unfold zBr at h
 refine zI<|zC<|zA (zB rfl)<|zA (zB rfl)<|zM h fun b2 h=>zSW (k:=0) (l:=l1) (lo:=i1) Try.underlying22 Try.sizeOf3 Try.zeroValue3 rfl rfl rfl b2 rfl ?_
 refine zG<|zI<|zC<|zA (zB rfl)<|zA (zB rfl)<|zM h fun b3 h => ?_
 refine zUe (k:=0) (l:=zIm l1 i1) (hi:=i1) Try.underlying22 Try.sizeOf3 rfl rfl rfl b3<|zA (zD rfl)<|zG<|zd ?_
 cases h
 exact ⟨_,_,Rep.refl,zUC rfl rfl⟩
end Go.Proofs.Ytplkliakhdkpcaa
namespace Go.Proofs.Ytplkliakhdkpcaa
open Go Go.RowKit Go.Wk Go.Am Go.Proofs
set_option maxHeartbeats 4000000
theorem zL8 {A:zW} {B:Int} {r:zW×Int} (h:zJL A B=some r):PFn Try.prog 59 [(AV.agg (zO A)),li B] (AV.tup [(AV.agg (zO r.1)),li r.2]):=by
 refine zq Try.func59 rfl Try.ntmps59 Try.results59 rfl ?_
 unfold zJL at h
 refine zI<|zC<|zX (H':=[.box 46 (zO A)]) (z6 (t:=46) rfl)<|zX (H':=[.box 46 (zO A),.box 46 (zO ⟨0,0,0,0,0,(List.replicate 5 ([]:List Int))⟩)]) zv0<|zA (zD rfl)<|zG ?_
 refine zI<|zI<|zC<|zA (zR (k:=0) (o:=0) (m:=10) Try.isAgg46 Try.sizeOf46 rfl rfl rfl rfl rfl)<|zQ h fun x1 w1 h=>zZ Try.func36 rfl (by kernel_rfl) (.fn 36) rfl rfl (zD7 w1) rfl ?_
 refine zA (zD rfl)<|zG<|zI<|zC<|zA (zB rfl)<|zA (zy rfl rfl) ?_
 refine zG ?_
 refine zY h rfl (fun b1 h => ?_) (fun b1 h => ?_)
 ·refine zI<|zC<|zA zv9<|zA (zB rfl)<|za (H':=[.box 46 (zO A),.box 46 (zO (⟨0,0,0,0,0,(List.replicate 5 ([]:List Int))⟩:zW))]) (zT (k:=1) (o:=0) (cs:=(zO ⟨0,0,0,0,0,(List.replicate 5 ([]:List Int))⟩)) (la:=(zO (⟨0,0,0,0,0,(List.replicate 5 ([]:List Int))⟩:zW))) Try.sizeOf46 rfl rfl rfl rfl)<|zA (zD rfl) ?_
  refine zG<|zd ?_
  cases h
  exact zCB (zF3 Try.isAgg46 Try.sizeOf46 rfl rfl rfl rfl) (zAi rfl rfl) rfl
 refine zU<|zI<|zI<|zC<|zA (zR (k:=0) (o:=0) (m:=10) Try.isAgg46 Try.sizeOf46 rfl rfl rfl rfl rfl)<|zA (zB rfl) ?_
 refine zQ h fun x2 w2 h=>zAq (r':=(AV.lit (.bool x2))) (la:=[(AV.agg (zO A)),li B,li 0]) (la':=[(AV.agg ([li A.node,li A.kind,li A.start,li A.count,li A.min]++([AV.any,AV.any,AV.any,AV.any,AV.any]++[]))),li B,li 0]) (r:=(AV.lit (.bool x2))) (S:=[]) Try.func62 rfl (by kernel_rfl) (.fn 62) rfl ⟨zKo (hd:=([li A.node]++[li A.kind]++[li A.start]++[li A.count]++[li A.min])) (tl:=((cA 5 (eS cI) ([]:List Int) A.free))) rfl,zBC.nr rfl,zBC.nr rfl,trivial⟩ (zEN w2) (.inl rfl) rfl<|zA (zBU (t:=x2) rfl)<|zG ?_
 refine zY h rfl (fun b2 h => ?_) (fun b2 h => ?_)
 ·refine zI<|zC<|zA zv9<|za (H':=[.box 46 (zO A),.box 46 (zO (⟨0,0,0,0,0,(List.replicate 5 ([]:List Int))⟩:zW))]) (zT (k:=1) (o:=0) (cs:=(zO ⟨0,0,0,0,0,(List.replicate 5 ([]:List Int))⟩)) (la:=(zO (⟨0,0,0,0,0,(List.replicate 5 ([]:List Int))⟩:zW))) Try.sizeOf46 rfl rfl rfl rfl)<|zA (zD rfl)<|zG ?_
  refine zd ?_
  cases h
  exact zCB (zF3 Try.isAgg46 Try.sizeOf46 rfl rfl rfl rfl) (zAi rfl rfl) rfl
 refine zU<|zI<|zC<|zA (zR (k:=0) (o:=0) (m:=10) Try.isAgg46 Try.sizeOf46 rfl rfl rfl rfl rfl)<|zA (zB rfl)<|zQ h fun x3 w3 h => ?_
 refine zZ Try.func66 rfl (by kernel_rfl) (.fn 66) rfl rfl (zJF w3) rfl<|zA (zB rfl)<|zA (zS rfl rfl)<|zA (zS rfl rfl)<|zA (zD rfl)<|zA (zD rfl) ?_
 refine zG<|zI<|zI<|zC<|zA (zB rfl)<|zA (zj rfl rfl) ?_
 refine zG ?_
 refine zY h rfl (fun b3 h => ?_) (fun b3 h => ?_)
 ·refine zI<|zC<|zA zv9<|za (H':=[.box 46 (zO A),.box 46 (zO (⟨0,0,0,0,0,(List.replicate 5 ([]:List Int))⟩:zW))]) (zT (k:=1) (o:=0) (cs:=(zO ⟨0,0,0,0,0,(List.replicate 5 ([]:List Int))⟩)) (la:=(zO (⟨0,0,0,0,0,(List.replicate 5 ([]:List Int))⟩:zW))) Try.sizeOf46 rfl rfl rfl rfl)<|zA (zD rfl)<|zG ?_
  refine zd ?_
  cases h
  exact zCB (zF3 Try.isAgg46 Try.sizeOf46 rfl rfl rfl rfl) (zAi rfl rfl) rfl
 refine zU<|zI<|zC<|zA (zR (k:=0) (o:=0) (m:=10) Try.isAgg46 Try.sizeOf46 rfl rfl rfl rfl rfl)<|zQ h fun x4 w4 h=>zHU (cs:=([li x4.node,li x4.kind,li x4.start,li x4.count,li x4.min]++((cM 5 3 (5:Int) x4.free)++[]))) (la:=[(AV.agg (zO A))]) (la':=[(AV.agg (zO A))]) (S:=[]) Try.func82 rfl (by kernel_rfl) (.fn 82) rfl ⟨zBC.nr rfl,trivial⟩ (zJB w4) (.inl rfl) ?_
 refine zX (H':=[.box 46 (zO A),.box 46 (zO ⟨0,0,0,0,0,(List.replicate 5 ([]:List Int))⟩),.val (.agg ([li x4.node,li x4.kind,li x4.start,li x4.count,li x4.min]++((cM 5 3 (5:Int) x4.free)++[]))),.box 46 (zO ⟨0,0,0,0,0,(List.replicate 5 ([]:List Int))⟩)]) zv0<|za (H':=[.box 46 (zO A),.box 46 (zO ⟨0,0,0,0,0,(List.replicate 5 ([]:List Int))⟩),.dead,.box 46 ([li x4.node,li x4.kind,li x4.start,li x4.count,li x4.min]++((cM 5 3 (5:Int) x4.free)++[]))]) (zDz (k:=3) (o:=0) (j:=2) (cs:=(zO ⟨0,0,0,0,0,(List.replicate 5 ([]:List Int))⟩)) (la:=([li x4.node,li x4.kind,li x4.start,li x4.count,li x4.min]++((cM 5 3 (5:Int) x4.free)++[]))) Try.sizeOf46 rfl rfl rfl rfl rfl (by decide))<|zG<|zI<|zC<|zA (zB rfl) ?_
 refine zA (zL Try.underlying46 rfl rfl Try.sizeOf44 rfl)<|zM h fun b4 h=>zA (zAg (m:=5) (s:=1) (i:=x3.1) (k:=3) (o:=5) Try.underlying44 Try.sizeOf22 rfl rfl b4)<|zM h fun b5 h=>zAF (zIV (k:=3) (cs:=([li x4.node,li x4.kind,li x4.start,li x4.count,li x4.min]++((cM 5 3 (5:Int) x4.free)++[]))) (hd:=([li x4.node]++[li x4.kind]++[li x4.start]++[li x4.count]++[li x4.min]++[])) (tl:=([])) (N:=5) (T:=3) (K:=5) (l:=x4.free) (i:=x3.1) rfl rfl b4 b5)<|zA (zDC (k:=3) (o:=(5+x3.1.toNat*1)) (cs:=([li x4.node,li x4.kind,li x4.start,li x4.count,li x4.min]++((List.set (cM 5 3 (5:Int) x4.free) x3.1.toNat (AV.hd 4))++[]))) (hd:=([li x4.node]++[li x4.kind]++[li x4.start]++[li x4.count]++[li x4.min]++[])) (tl:=([])) (s:=(cM 5 3 (5:Int) x4.free)) (i:=x3.1) (j:=4) Try.isAgg22 rfl rfl rfl (congrArg (fun q=>5+q) (Nat.mul_one _)) (zGH b4)) ?_
 refine zA (zB rfl)<|zQ h fun x5 w5 h=>zAq (r':=(AV.tup [li x5.1,(AV.lit (.bool x5.2))])) (la:=[AV.hd 4,li x3.2]) (la':=[(ls cI (x4.free.getD x3.1.toNat [])),li x3.2]) (r:=(AV.tup [li x5.1,(AV.lit (.bool x5.2))])) (S:=[4]) Try.func63 rfl (by kernel_rfl) (.fn 63) rfl ⟨zGn (fun _=>rfl) rfl rfl,zBC.nr rfl,trivial⟩ (zAb w5) (.inr rfl) rfl<|zA (zB rfl)<|zA (zS rfl rfl)<|zA (zS rfl rfl) ?_
 refine zA (zD rfl)<|zA (zD rfl)<|zG<|zI<|zC<|zA (zB rfl) ?_
 refine zA (zB rfl)<|zA (zL Try.underlying46 rfl rfl Try.sizeOf44 rfl)<|zA (zAg (m:=5) (s:=1) (i:=x3.1) (k:=3) (o:=5) Try.underlying44 Try.sizeOf22 rfl rfl b4)<|zA (zDC (k:=3) (o:=(5+x3.1.toNat*1)) (cs:=([li x4.node,li x4.kind,li x4.start,li x4.count,li x4.min]++((List.set (cM 5 3 (5:Int) x4.free) x3.1.toNat (AV.hd 4))++[]))) (hd:=([li x4.node]++[li x4.kind]++[li x4.start]++[li x4.count]++[li x4.min]++[])) (tl:=([])) (s:=(cM 5 3 (5:Int) x4.free)) (i:=x3.1) (j:=4) Try.isAgg22 rfl rfl rfl (congrArg (fun q=>5+q) (Nat.mul_one _)) (zGH b4))<|zA (zB rfl)<|zA (zB rfl) ?_
 refine zM h fun b6 h=>zA (zi rfl rfl b6)<|zM h fun b7 h=>zOv (k:=4) (l:=x4.free.getD x3.1.toNat []) (i:=x5.1) (q:=x5.1+1) (fun a b=>zT4 a b) Try.func85 rfl (by kernel_rfl) rfl rfl rfl rfl b7<|zA (zL Try.underlying46 rfl rfl Try.sizeOf44 rfl)<|zA (zAg (m:=5) (s:=1) (i:=x3.1) (k:=3) (o:=5) Try.underlying44 Try.sizeOf22 rfl rfl b4) ?_
 refine za (H':=[.box 46 (zO A),.box 46 (zO ⟨0,0,0,0,0,(List.replicate 5 ([]:List Int))⟩),.dead,.box 46 ([li x4.node,li x4.kind,li x4.start,li x4.count,li x4.min]++((List.set (cM 5 3 (5:Int) x4.free) x3.1.toNat (AV.hd 5))++[])),.dead,.vec 3 1 (List.map cI (zR8 (x4.free.getD x3.1.toNat []) x5.1))]) (zGK (k:=3) (o:=(5+x3.1.toNat*1)) (cs:=([li x4.node,li x4.kind,li x4.start,li x4.count,li x4.min]++((List.set (cM 5 3 (5:Int) x4.free) x3.1.toNat (AV.hd 4))++[]))) (hd:=([li x4.node]++[li x4.kind]++[li x4.start]++[li x4.count]++[li x4.min]++[])) (tl:=([])) (s:=(cM 5 3 (5:Int) x4.free)) (i:=x3.1) (a:=(AV.hd 5)) Try.sizeOf22 rfl rfl rfl (congrArg (fun q=>5+q) (Nat.mul_one _)) (zGH b4) rfl rfl)<|zG ?_
 refine zAA (r:=r) (fun (l1:List (List Int))=>mkE [(4,(AV.ptr 0 0)),(9,(AV.ptr 1 0))]) (fun l1=>[.box 46 (zO ⟨0,0,0,0,0,(List.replicate 5 ([]:List Int))⟩),.box 46 ([li x4.node,li x4.kind,li x4.start,li x4.count,li x4.min]++((cM 5 3 (5:Int) l1)++[]))]) (fun l1=>zHz x4 l1) ?_ ?_
 ·
  refine zV<|z9 (σ:=Int×Int×(List (List Int))) (fun (i1,i2,l2)=>mkE [(1,(li B)),(4,(AV.ptr 0 0)),(7,(li i1)),(8,(li i2)),(9,(AV.ptr 1 0))]) (fun (i1,i2,l2)=>[.box 46 (zO ⟨0,0,0,0,0,(List.replicate 5 ([]:List Int))⟩),.box 46 ([li x4.node,li x4.kind,li x4.start,li x4.count,li x4.min]++((cM 5 3 (5:Int) l2)++[]))]) (fun n0 (i1,i2,l2)=>zCh B x4 n0 i1 i2 l2) (x3.1,x3.2,(zEF 5 [] x4.free x3.1.toNat (zR8 (x4.free.getD x3.1.toNat []) x5.1))) h (fun _=>rfl) (Rep.trans (zH7 (j:=5) (l':=zR8 (x4.free.getD x3.1.toNat []) x5.1) (k:=3) (cs:=([li x4.node,li x4.kind,li x4.start,li x4.count,li x4.min]++((List.set (cM 5 3 (5:Int) x4.free) x3.1.toNat (AV.hd 5))++[]))) (hd:=([li x4.node]++[li x4.kind]++[li x4.start]++[li x4.count]++[li x4.min]++[])) (tl:=([])) (N:=5) (T:=3) (K:=5) (l:=x4.free) (i:=x3.1) rfl rfl b4 b5 rfl rfl) (zAd [1,3] (l:=[(1,(li B)),(4,(AV.ptr 0 0)),(7,(li x3.1)),(8,(li x3.2)),(9,(AV.ptr 1 0))]) rfl rfl (by kernel_rfl))) ?_
  clear h
  rintro n0 ⟨i1,i2,l2⟩ h
  replace h:zEY B x4 (zCh B x4 n0) i1 i2 l2=some r:=h
  unfold zEY at h
  refine zI<|zI<|zC<|zA (zB rfl)<|zA (zBx rfl rfl)<|zG ?_
  refine zY h rfl (fun b8 h => ?_) (fun b8 h => ?_)
  ·refine zU<|zV<|zI<|zC<|zA (zB rfl)<|zM h fun b9 h => ?_
   refine zA (zDX rfl rfl b9)<|zA (zD rfl)<|zG<|zI<|zC<|zA (zB rfl) ?_
   refine zA (zB rfl)<|zM h fun b10 h=>zM h fun b11 h=>zA (zGo (a:=1) (b:=i1 - 1) rfl rfl b10 b11)<|zM h fun b12 h=>zA (zi rfl rfl b12) ?_
   refine zA (zD rfl)<|zG ?_
   refine zAA (r:=r) (fun ((i3,i4):Int×Int)=>mkE [(1,(li B)),(4,(AV.ptr 0 0)),(7,(li (i1 - 1))),(8,(li i3)),(9,(AV.ptr 1 0)),(12,(li i4))]) (fun (i3,i4)=>[.box 46 (zO ⟨0,0,0,0,0,(List.replicate 5 ([]:List Int))⟩),.box 46 ([li x4.node,li x4.kind,li x4.start,li x4.count,li x4.min]++((cM 5 3 (5:Int) l2)++[]))]) (fun (i3,i4)=>zFX (zCh B x4 n0) i1 l2 i3 i4) ?_ ?_
   ·
    refine zI<|zC<|zA (zB rfl)<|zA (zB rfl)<|zA (zBy rfl rfl)<|zG ?_
    refine zY h rfl (fun b16 h => ?_) (fun b16 h => ?_)
    ·refine zC<|zA (zB rfl)<|zA (zB rfl)<|zA (zD rfl)<|zA (zD rfl)<|zG ?_
     exact ⟨((i2+((1:Int)*2 ^ (i1 - 1).toNat)),i2),zAd [0,1] rfl rfl (by kernel_rfl),h⟩
    refine zU ?_
    exact ⟨(i2,(i2+((1:Int)*2 ^ (i1 - 1).toNat))),zAd [0,1] rfl rfl (by kernel_rfl),h⟩
   clear h
   rintro ⟨i3,i4⟩ h
   unfold zFX at h
   refine zI<|zC<|zA (zB rfl)<|zA (zL Try.underlying46 rfl rfl Try.sizeOf44 rfl)<|zM h fun b13 h=>zA (zAg (m:=5) (s:=1) (i:=i1 - 1) (k:=1) (o:=5) Try.underlying44 Try.sizeOf22 rfl rfl b13) ?_
   refine zM h fun b14 h=>zAF (zIV (k:=1) (cs:=([li x4.node,li x4.kind,li x4.start,li x4.count,li x4.min]++((cM 5 3 (5:Int) l2)++[]))) (hd:=([li x4.node]++[li x4.kind]++[li x4.start]++[li x4.count]++[li x4.min]++[])) (tl:=([])) (N:=5) (T:=3) (K:=5) (l:=l2) (i:=i1 - 1) rfl rfl b13 b14)<|zA (zDC (k:=1) (o:=(5+(i1 - 1).toNat*1)) (cs:=([li x4.node,li x4.kind,li x4.start,li x4.count,li x4.min]++((List.set (cM 5 3 (5:Int) l2) (i1 - 1).toNat (AV.hd 2))++[]))) (hd:=([li x4.node]++[li x4.kind]++[li x4.start]++[li x4.count]++[li x4.min]++[])) (tl:=([])) (s:=(cM 5 3 (5:Int) l2)) (i:=i1 - 1) (j:=2) Try.isAgg22 rfl rfl rfl (congrArg (fun q=>5+q) (Nat.mul_one _)) (zGH b13))<|zA (zB rfl)<|zQ h fun x6 w6 h=>zAq (r':=(AV.tup [li x6.1,(AV.lit (.bool x6.2))])) (la:=[AV.hd 2,li i4]) (la':=[(ls cI (l2.getD (i1 - 1).toNat [])),li i4]) (r:=(AV.tup [li x6.1,(AV.lit (.bool x6.2))])) (S:=[2]) Try.func63 rfl (by kernel_rfl) (.fn 63) rfl ⟨zGn (fun _=>rfl) rfl rfl,zBC.nr rfl,trivial⟩ (zAb w6) (.inr rfl) rfl ?_
   refine zA (zB rfl)<|zA (zS rfl rfl)<|zA (zS rfl rfl)<|zA (zD rfl)<|zA (zD rfl)<|zG ?_
   refine zC<|zA (zB rfl)<|zA (zB rfl)<|zA (zL Try.underlying46 rfl rfl Try.sizeOf44 rfl)<|zA (zAg (m:=5) (s:=1) (i:=i1 - 1) (k:=1) (o:=5) Try.underlying44 Try.sizeOf22 rfl rfl b13)<|zA (zDC (k:=1) (o:=(5+(i1 - 1).toNat*1)) (cs:=([li x4.node,li x4.kind,li x4.start,li x4.count,li x4.min]++((List.set (cM 5 3 (5:Int) l2) (i1 - 1).toNat (AV.hd 2))++[]))) (hd:=([li x4.node]++[li x4.kind]++[li x4.start]++[li x4.count]++[li x4.min]++[])) (tl:=([])) (s:=(cM 5 3 (5:Int) l2)) (i:=i1 - 1) (j:=2) Try.isAgg22 rfl rfl rfl (congrArg (fun q=>5+q) (Nat.mul_one _)) (zGH b13)) ?_
   refine zA (zB rfl)<|zA (zB rfl)<|zGW (a:=(li i4)) zG6 Try.underlying22 rfl rfl rfl rfl<|zM h fun b15 h=>zMR (k:=2) (j:=3) (l:=l2.getD (i1 - 1).toNat []) (i:=x6.1) (q:=i4) (fun a b c d e=>zRJ a b c d e) Try.func83 rfl (by kernel_rfl) rfl rfl rfl rfl rfl rfl b15<|zA (zL Try.underlying46 rfl rfl Try.sizeOf44 rfl) ?_
   refine zA (zAg (m:=5) (s:=1) (i:=i1 - 1) (k:=1) (o:=5) Try.underlying44 Try.sizeOf22 rfl rfl b13)<|za (H':=[.box 46 (zO ⟨0,0,0,0,0,(List.replicate 5 ([]:List Int))⟩),.box 46 ([li x4.node,li x4.kind,li x4.start,li x4.count,li x4.min]++((List.set (cM 5 3 (5:Int) l2) (i1 - 1).toNat (AV.hd 4))++[])),.dead,.vec 3 1 (List.map cI [i4]),.vec 3 1 (List.map cI (zQg (l2.getD (i1 - 1).toNat []) x6.1 i4))]) (zGK (k:=1) (o:=(5+(i1 - 1).toNat*1)) (cs:=([li x4.node,li x4.kind,li x4.start,li x4.count,li x4.min]++((List.set (cM 5 3 (5:Int) l2) (i1 - 1).toNat (AV.hd 2))++[]))) (hd:=([li x4.node]++[li x4.kind]++[li x4.start]++[li x4.count]++[li x4.min]++[])) (tl:=([])) (s:=(cM 5 3 (5:Int) l2)) (i:=i1 - 1) (a:=(AV.hd 4)) Try.sizeOf22 rfl rfl rfl (congrArg (fun q=>5+q) (Nat.mul_one _)) (zGH b13) rfl rfl)<|zG ?_
   exact ⟨((i1 - 1),i3,(zEF 5 [] l2 (i1 - 1).toNat (zQg (l2.getD (i1 - 1).toNat []) x6.1 i4))),Rep.trans (zH7 (j:=4) (l':=zQg (l2.getD (i1 - 1).toNat []) x6.1 i4) (k:=1) (cs:=([li x4.node,li x4.kind,li x4.start,li x4.count,li x4.min]++((List.set (cM 5 3 (5:Int) l2) (i1 - 1).toNat (AV.hd 4))++[]))) (hd:=([li x4.node]++[li x4.kind]++[li x4.start]++[li x4.count]++[li x4.min]++[])) (tl:=([])) (N:=5) (T:=3) (K:=5) (l:=l2) (i:=i1 - 1) rfl rfl b13 b14 rfl rfl) (zAd [0,1] (l:=[(1,(li B)),(4,(AV.ptr 0 0)),(7,(li (i1 - 1))),(8,(li i3)),(9,(AV.ptr 1 0))]) rfl rfl (by kernel_rfl)),h⟩
  refine zAG ?_
  exact ⟨l2,zAd [0,1] rfl rfl (by kernel_rfl),h⟩
 clear h
 intro l1 h
 unfold zHz at h
 refine zI<|zC<|zAF (zKZ (k:=1) (cs:=([li x4.node,li x4.kind,li x4.start,li x4.count,li x4.min]++((cM 5 3 (5:Int) l1)++[]))) (hd:=([li x4.node]++[li x4.kind]++[li x4.start]++[li x4.count]++[li x4.min]++[])) (tl:=([])) (N:=5) (T:=3) (K:=5) (l:=l1) rfl rfl)<|zA (zR (k:=1) (o:=0) (m:=10) Try.isAgg46 Try.sizeOf46 rfl rfl rfl rfl rfl)<|za (H':=[.box 46 (zO (⟨x4.node,x4.kind,x4.start,x4.count,x4.min,l1⟩:zW)),.box 46 (zO ⟨x4.node,x4.kind,x4.start,x4.count,x4.min,l1⟩)]) (zT (k:=0) (o:=0) (cs:=(zO ⟨0,0,0,0,0,(List.replicate 5 ([]:List Int))⟩)) (la:=(zO (⟨x4.node,x4.kind,x4.start,x4.count,x4.min,l1⟩:zW))) Try.sizeOf46 rfl rfl rfl rfl)<|zA (zD rfl) ?_
 refine zG<|zd ?_
 cases h
 exact zCB (zF3 Try.isAgg46 Try.sizeOf46 rfl rfl rfl rfl) (zAi rfl rfl) rfl
theorem zMS {A:zH} {B:Int} {r:zH×Int} (h:zEr A B=some r):PFn Try.prog 33 [(AV.agg (zF A)),li B] (AV.tup [(AV.agg (zF r.1)),li r.2]):=by
 refine zq Try.func33 rfl Try.ntmps33 Try.results33 rfl ?_
 unfold zEr at h
 refine zI<|zC<|zX (H':=[.box 29 (zF A)]) (z6 (t:=29) rfl)<|zX (H':=[.box 29 (zF A),.box 3 [li B]]) (zH5 (t:=3) (a:=(li B)) rfl rfl)<|zX (H':=[.box 29 (zF A),.box 3 [li B],.box 29 (zF ⟨[],0,0,[],[]⟩)]) zv3<|zA (zD rfl) ?_
 refine zG<|zI<|zI<|zC<|zA (zR (k:=0) (o:=0) (m:=5) Try.isAgg29 Try.sizeOf29 rfl rfl rfl rfl rfl)<|zQ h fun x1 w1 h => ?_
 refine zZ Try.func15 rfl (by kernel_rfl) (.fn 15) rfl rfl (zA4 w1) rfl<|zA (zD rfl)<|zG<|zI<|zC<|zA (zB rfl) ?_
 refine zA (zy rfl rfl)<|zG ?_
 refine zY h rfl (fun b1 h => ?_) (fun b1 h => ?_)
 ·refine zI<|zC<|zA zP3<|zA (zB rfl)<|za (H':=[.box 29 (zF A),.box 3 [li B],.box 29 (zF (⟨([]:List Int),0,0,([]:List zW),([]:List zK)⟩:zH))]) (zT (k:=2) (o:=0) (cs:=(zF ⟨[],0,0,[],[]⟩)) (la:=(zF (⟨([]:List Int),0,0,([]:List zW),([]:List zK)⟩:zH))) Try.sizeOf29 rfl rfl rfl rfl)<|zA (zD rfl) ?_
  refine zG<|zd ?_
  cases h
  exact zCB (zF3 Try.isAgg29 Try.sizeOf29 rfl rfl rfl rfl) (zAi rfl rfl) rfl
 refine zU<|zI<|zC<|zA (zR (k:=0) (o:=0) (m:=5) Try.isAgg29 Try.sizeOf29 rfl rfl rfl rfl rfl)<|zA (zN Try.isAgg3 rfl rfl rfl rfl)<|zQ h fun x2 w2 h => ?_
 refine zZ Try.func34 rfl (by kernel_rfl) (.fn 34) rfl rfl (zEP w2) rfl<|zA (zD rfl)<|zG<|zI<|zV<|zI ?_
 refine zC<|zA (zB rfl)<|zA (zj rfl rfl)<|zA (zD rfl)<|zG ?_
 refine zY h rfl (fun b2 h => ?_) (fun b2 h => ?_)
 ·refine zI<|zC<|zA zP3<|za (H':=[.box 29 (zF A),.box 3 [li B],.box 29 (zF (⟨([]:List Int),0,0,([]:List zW),([]:List zK)⟩:zH))]) (zT (k:=2) (o:=0) (cs:=(zF ⟨[],0,0,[],[]⟩)) (la:=(zF (⟨([]:List Int),0,0,([]:List zW),([]:List zK)⟩:zH))) Try.sizeOf29 rfl rfl rfl rfl)<|zA (zD rfl)<|zG ?_
  refine zd ?_
  cases h
  exact zCB (zF3 Try.isAgg29 Try.sizeOf29 rfl rfl rfl rfl) (zAi rfl rfl) rfl
 refine zI<|zC<|zA (zR (k:=0) (o:=0) (m:=5) Try.isAgg29 Try.sizeOf29 rfl rfl rfl rfl rfl)<|zA (zB rfl)<|zA (zN Try.isAgg3 rfl rfl rfl rfl)<|zQ h fun x3 w3 h => ?_
 refine zZ Try.func35 rfl (by kernel_rfl) (.fn 35) rfl rfl (zGx w3) rfl<|zA (zBU (t:=x3) rfl)<|zA (zD rfl)<|zG ?_
 refine zY h rfl (fun b3 h => ?_) (fun b3 h => ?_)
 ·refine zI<|zC<|zA zP3<|za (H':=[.box 29 (zF A),.box 3 [li B],.box 29 (zF (⟨([]:List Int),0,0,([]:List zW),([]:List zK)⟩:zH))]) (zT (k:=2) (o:=0) (cs:=(zF ⟨[],0,0,[],[]⟩)) (la:=(zF (⟨([]:List Int),0,0,([]:List zW),([]:List zK)⟩:zH))) Try.sizeOf29 rfl rfl rfl rfl)<|zA (zD rfl)<|zG ?_
  refine zd ?_
  cases h
  exact zCB (zF3 Try.isAgg29 Try.sizeOf29 rfl rfl rfl rfl) (zAi rfl rfl) rfl
 refine zI<|zC<|zA (zR (k:=0) (o:=0) (m:=5) Try.isAgg29 Try.sizeOf29 rfl rfl rfl rfl rfl)<|zA (zB rfl)<|zQ h fun x4 w4 h=>zZ Try.func39 rfl (by kernel_rfl) (.fn 39) rfl rfl (zFc w4) rfl ?_
 refine zA (zj rfl rfl)<|zA (zD rfl)<|zG ?_
 refine zY h rfl (fun b4 h => ?_) (fun b4 h => ?_)
 ·refine zI<|zC<|zA zP3<|za (H':=[.box 29 (zF A),.box 3 [li B],.box 29 (zF (⟨([]:List Int),0,0,([]:List zW),([]:List zK)⟩:zH))]) (zT (k:=2) (o:=0) (cs:=(zF ⟨[],0,0,[],[]⟩)) (la:=(zF (⟨([]:List Int),0,0,([]:List zW),([]:List zK)⟩:zH))) Try.sizeOf29 rfl rfl rfl rfl)<|zA (zD rfl)<|zG ?_
  refine zd ?_
  cases h
  exact zCB (zF3 Try.isAgg29 Try.sizeOf29 rfl rfl rfl rfl) (zAi rfl rfl) rfl
 refine zU<|zI<|zC<|zA (zR (k:=0) (o:=0) (m:=5) Try.isAgg29 Try.sizeOf29 rfl rfl rfl rfl rfl)<|zQ h fun x5 w5 h=>zHU (cs:=[ls cI x5.nodes,li x5.batch,li x5.high,AV.osl 46 10 (List.map zO x5.zones),AV.osl 50 1 (List.map zAQ x5.caches)]) (la:=[(AV.agg (zF A))]) (la':=[(AV.agg (zF A))]) (S:=[]) Try.func42 rfl (by kernel_rfl) (.fn 42) rfl ⟨zBC.nr rfl,trivial⟩ (zDm w5) (.inl rfl) ?_
 refine zX (H':=[.box 29 (zF A),.box 3 [li B],.box 29 (zF ⟨[],0,0,[],[]⟩),.val (.agg [ls cI x5.nodes,li x5.batch,li x5.high,AV.osl 46 10 (List.map zO x5.zones),AV.osl 50 1 (List.map zAQ x5.caches)]),.box 29 (zF ⟨[],0,0,[],[]⟩)]) zv3<|za (H':=[.box 29 (zF A),.box 3 [li B],.box 29 (zF ⟨[],0,0,[],[]⟩),.dead,.box 29 [ls cI x5.nodes,li x5.batch,li x5.high,AV.osl 46 10 (List.map zO x5.zones),AV.osl 50 1 (List.map zAQ x5.caches)]]) (zDz (k:=4) (o:=0) (j:=3) (cs:=(zF ⟨[],0,0,[],[]⟩)) (la:=[ls cI x5.nodes,li x5.batch,li x5.high,AV.osl 46 10 (List.map zO x5.zones),AV.osl 50 1 (List.map zAQ x5.caches)]) Try.sizeOf29 rfl rfl rfl rfl rfl (by decide))<|zG<|zI<|zI<|zC ?_
 refine zAF (zBq (k:=4) (o:=3) (t':=46) (sz:=10) (rows:=List.map zO x5.zones) rfl rfl)<|zAF (zBq (k:=4) (o:=4) (t':=50) (sz:=1) (rows:=List.map zAQ x5.caches) rfl rfl)<|zA (zR (k:=4) (o:=0) (m:=5) Try.isAgg29 Try.sizeOf29 rfl rfl rfl rfl rfl)<|zA (zB rfl)<|zA (zN Try.isAgg3 rfl rfl rfl rfl)<|zQ h fun x6 w6 h => ?_
 refine zAq (r':=(li x6)) (la:=[(AV.agg [ls cI x5.nodes,li x5.batch,li x5.high,AV.hd 5,AV.hd 6]),li x2,li B]) (la':=[(AV.agg (zF ⟨x5.nodes,x5.batch,x5.high,x5.zones,x5.caches⟩)),li x2,li B]) (r:=(li x6)) (S:=[5,6]) Try.func56 rfl (by kernel_rfl) (.fn 56) rfl ⟨zBC.agg (by exact ⟨zBC.nr rfl,⟨zBC.nr rfl,⟨zBC.nr rfl,⟨zGn (fun _=>rfl) rfl rfl,⟨zT6 zEV rfl rfl,trivial⟩⟩⟩⟩⟩),zBC.nr rfl,zBC.nr rfl,trivial⟩ (zIS w6) (.inr trivial) rfl<|zA (zD rfl)<|zG<|zI<|zC<|zA (zB rfl) ?_
 refine zA (zBy rfl rfl)<|zG ?_
 refine zY h rfl (fun b5 h => ?_) (fun b5 h => ?_)
 ·refine zI<|zC<|zA (zL Try.underlying29 rfl rfl Try.sizeOf27 rfl)<|zA (zN Try.isAgg27 rfl rfl rfl rfl)<|zA (zB rfl)<|zM h fun b6 h => ?_
  refine zA (zAN (f:=zAQ) (l:=x5.caches) (i:=x6) Try.underlying27 Try.sizeOf50 rfl rfl rfl b6)<|zA (zL Try.underlying50 rfl rfl Try.sizeOf48 rfl)<|zAF (zQM (k:=6) (i:=x6.toNat) (t':=22) (s':=1) (rs:=List.map (cO 3 1 cI) ((at_ x5.caches x6).lists)) rfl (zQG (f:=zAQ) (l:=x5.caches) b6))<|zA (zMX (k:=6) (i:=x6.toNat) (a := .hd 7) Try.isAgg48 rfl rfl rfl rfl)<|zA (zB rfl)<|zM h fun b7 h => ?_
  refine zA (zAN (f:=(cO 3 1 cI)) (l:=(at_ x5.caches x6).lists) (i:=x2) Try.underlying48 Try.sizeOf22 rfl rfl rfl b7)<|zA (zD rfl)<|zG<|zI<|zC<|zA (zB rfl) ?_
  refine zA (zB rfl)<|zA (zAY rfl)<|zAF (zSY (k:=7) (f:=cI) (l:=(at_ x5.caches x6).lists) (i:=x2) rfl b7)<|zA (zMX (k:=7) (i:=x2.toNat) (a := .hd 8) Try.isAgg22 rfl rfl rfl rfl)<|zA (zKh (la:=[AV.ptr 1 0]) rfl)<|zQ h fun x7 w7 h => ?_
  refine zUG (k:=8) (l:=at_ ((at_ x5.caches x6).lists) x2) (l':=x7) (la:=[AV.hd 8,(AV.clo 58 [AV.ptr 1 0])]) (la':=[AV.hd 0,(AV.clo 58 [(AV.rp [li B] 0)])]) (S:=[1]) Try.func57 rfl (by kernel_rfl) (.fn 57) rfl ⟨zC2.hd,zC2.of (zBC.clo (⟨zBC.ptr (cs:=[li B]) rfl rfl rfl,trivial⟩)),trivial⟩ rfl rfl (zHl Try.func58 rfl (by kernel_rfl) rfl (fun hy=>zLd  hy) w7)<|zA (zAY rfl)<|za (H':=[.box 29 (zF A),.box 3 [li B],.box 29 (zF ⟨[],0,0,[],[]⟩),.dead,.box 29 [ls cI x5.nodes,li x5.batch,li x5.high,AV.hd 5,AV.hd 6],.vec 46 10 (List.map zO x5.zones),.vopen 50 1 (List.map zAQ x5.caches) x6.toNat [.hd 7],.vopen 22 1 (List.map (cO 3 1 cI) ((at_ x5.caches x6).lists)) x2.toNat [.hd 9],.dead,.vec 3 1 (List.map cI x7)]) (zPx (k:=7) (j:=9) (j0:=8) (i:=x2.toNat) Try.sizeOf22 rfl rfl rfl rfl rfl)<|zG<|zI<|zC ?_
  refine zAF (zAR (k:=4) (j:=5) (o:=3) rfl rfl rfl rfl)<|zAF (zBw (k:=4) (o:=3) (rows':=List.map zO x5.zones) rfl rfl (zAW (fun _=>rfl)))<|zAF (Rep.trans (zQN (k:=7) (j:=9) (f:=cI) (l:=(at_ x5.caches x6).lists) (l':=x7) rfl rfl rfl) (zRN (k:=6) (j:=7) (f:=zAQ) (l:=x5.caches) (z:={ at_ x5.caches x6 with lists:=((at_ x5.caches x6).lists).set x2.toNat x7 }) rfl rfl rfl rfl))<|zAF (zAR (k:=4) (j:=6) (o:=4) rfl rfl rfl rfl)<|zAF (zBw (k:=4) (o:=4) (rows':=List.map zJ (x5.caches.set x6.toNat ({ at_ x5.caches x6 with lists:=((at_ x5.caches x6).lists).set x2.toNat x7 }))) rfl rfl (zHQ (fun x=>zEV x)))<|zA (zR (k:=4) (o:=0) (m:=5) Try.isAgg29 Try.sizeOf29 rfl rfl rfl rfl rfl) ?_
  refine za (H':=[.box 29 (zF A),.box 3 [li B],.box 29 (zF (⟨x5.nodes,x5.batch,x5.high,x5.zones,x5.caches.set x6.toNat ({ at_ x5.caches x6 with lists:=((at_ x5.caches x6).lists).set x2.toNat x7 })⟩:zH)),.dead,.box 29 (zF ⟨x5.nodes,x5.batch,x5.high,x5.zones,(x5.caches.set x6.toNat ({ at_ x5.caches x6 with lists:=((at_ x5.caches x6).lists).set x2.toNat x7 }))⟩),.dead,.dead,.dead,.dead,.dead]) (zT (k:=2) (o:=0) (cs:=(zF ⟨[],0,0,[],[]⟩)) (la:=(zF (⟨x5.nodes,x5.batch,x5.high,x5.zones,x5.caches.set x6.toNat ({ at_ x5.caches x6 with lists:=((at_ x5.caches x6).lists).set x2.toNat x7 })⟩:zH))) Try.sizeOf29 rfl rfl rfl rfl)<|zA (zD rfl)<|zG<|zd ?_
  cases h
  exact zCB (zF3 Try.isAgg29 Try.sizeOf29 rfl rfl rfl rfl) (zAi rfl rfl) rfl
 refine zU<|zI<|zM h fun b8 h=>zQ h fun x8 w8 h => ?_
 refine zBe (n:=83) (m:=0) [.head 0 1,.head 0 1,.head 0 1,.head 0 1,.head 0 1,.head 0 1,.head 0 1,.head 0 1,.head 0 1,.head 0 2,.tail 0,.tail 1,.head 2 2] [10,11] [AV.ptr 4 3,AV.hd 5,li x2,(AV.ptr 5 (x2.toNat*10)),(AV.agg (zO (at_ x5.zones x2))),li B,(AV.tup [(AV.agg (zO x8.1)),li x8.2]),(AV.tup [(AV.agg (zO x8.1)),li x8.2]),(AV.agg (zO x8.1)),li x8.2,AV.ptr 7 0,.any,li x8.2] [[.box 29 (zF A),.box 3 [li B],.box 29 (zF ⟨[],0,0,[],[]⟩),.dead,.box 29 [ls cI x5.nodes,li x5.batch,li x5.high,AV.hd 5,AV.hd 6],.vec 46 10 (List.map zO x5.zones),.vec 50 1 (List.map zAQ x5.caches)],[.box 29 (zF A),.box 3 [li B],.box 29 (zF ⟨[],0,0,[],[]⟩),.dead,.box 29 [ls cI x5.nodes,li x5.batch,li x5.high,AV.hd 5,AV.hd 6],.vec 46 10 (List.map zO x5.zones),.vec 50 1 (List.map zAQ x5.caches),.box 46 (zO ⟨0,0,0,0,0,(List.replicate 5 ([]:List Int))⟩)],[.box 29 (zF A),.box 3 [li B],.box 29 (zF ⟨[],0,0,[],[]⟩),.dead,.box 29 [ls cI x5.nodes,li x5.batch,li x5.high,AV.hd 5,AV.hd 6],.vec 46 10 (List.map zO x5.zones),.vec 50 1 (List.map zAQ x5.caches),.box 46 (zO x8.1)]] (by kernel_rfl) (by kernel_rfl) ⟨⟨D1 fun e s p=>zL (k:=4) (o:=0) (off:=3) Try.underlying29 rfl rfl Try.sizeOf26 (s 8 rfl),D1 fun e s p=>zL (k:=4) (o:=0) (off:=3) Try.underlying29 rfl rfl Try.sizeOf26 (s 8 rfl)⟩,⟨D1 fun e s p=>zN (k:=4) (o:=3) Try.isAgg26 p.1 rfl rfl rfl,D1 fun e s p=>zN (k:=4) (o:=3) Try.isAgg26 p.1 rfl rfl rfl⟩,⟨D1 fun e s p=>zB (s 7 rfl),D1 fun e s p=>zB (s 7 rfl)⟩,⟨D1 fun e s p=>zAN (f:=zO) (l:=x5.zones) (i:=x2) Try.underlying26 Try.sizeOf46 p.1 rfl p.2.1 b8,D1 fun e s p=>zAN (f:=zO) (l:=x5.zones) (i:=x2) Try.underlying26 Try.sizeOf46 p.1 rfl p.2.1 b8⟩,⟨D1 fun e s p=>zC9 (f:=zO) (l:=x5.zones) (i:=x2) (c:=0) (q:=10) (la:=(zO (at_ x5.zones x2))) Try.isAgg46 Try.sizeOf46 p.1 rfl (by first | rfl | omega) b8 rfl rfl rfl,D1 fun e s p=>zC9 (f:=zO) (l:=x5.zones) (i:=x2) (c:=0) (q:=10) (la:=(zO (at_ x5.zones x2))) Try.isAgg46 Try.sizeOf46 p.1 rfl (by first | rfl | omega) b8 rfl rfl rfl⟩,⟨D1 fun e s p=>zN (k:=1) (o:=0) Try.isAgg3 (s 3 rfl) rfl rfl rfl,D1 fun e s p=>zN (k:=1) (o:=0) Try.isAgg3 (s 3 rfl) rfl rfl rfl⟩,⟨?_,?_⟩,⟨D1 fun e s p=>zB p.1,D1 fun e s p=>zB p.1⟩,⟨D1 fun e s p=>zS p.1 rfl,D1 fun e s p=>zS p.1 rfl⟩,⟨D1 fun e s p=>zS p.1 rfl,D1 fun e s p=>zS p.1 rfl,D1 fun e s p=>zS p.1 rfl⟩,?_,?_,D1 fun e s p=>zD p.2.2.2.2.2.2.2.2.2.2.2.1,trivial⟩ ?_
 ·
  intro e13 s13 p13
  refine zZ (r:=(AV.tup [(AV.agg (zO x8.1)),li x8.2])) (la:=[(AV.agg (zO (at_ x5.zones x2))),li B]) Try.func59 rfl (by kernel_rfl) (.fn 59) (zAe p13.1 (zAe p13.2.1 rfl)) rfl (zL8 w8) rfl ?_
  exact zG ⟨fun _=>rfl,rfl⟩
 ·
  intro e14 s14 p14
  refine zZ (r:=(AV.tup [(AV.agg (zO x8.1)),li x8.2])) (la:=[(AV.agg (zO (at_ x5.zones x2))),li B]) Try.func59 rfl (by kernel_rfl) (.fn 59) (zAe p14.1 (zAe p14.2.1 rfl)) rfl (zL8 w8) rfl ?_
  exact zG ⟨fun _=>rfl,rfl⟩
 ·
  intro e22 s22 p22
  refine zX (H':=[.box 29 (zF A),.box 3 [li B],.box 29 (zF ⟨[],0,0,[],[]⟩),.dead,.box 29 [ls cI x5.nodes,li x5.batch,li x5.high,AV.hd 5,AV.hd 6],.vec 46 10 (List.map zO x5.zones),.vec 50 1 (List.map zAQ x5.caches),.box 46 (zO ⟨0,0,0,0,0,(List.replicate 5 ([]:List Int))⟩)]) zv0 ?_
  exact zG ⟨fun _=>rfl,rfl⟩
 ·
  intro e23 s23 p23
  refine za (H':=[.box 29 (zF A),.box 3 [li B],.box 29 (zF ⟨[],0,0,[],[]⟩),.dead,.box 29 [ls cI x5.nodes,li x5.batch,li x5.high,AV.hd 5,AV.hd 6],.vec 46 10 (List.map zO x5.zones),.vec 50 1 (List.map zAQ x5.caches),.box 46 (zO x8.1)]) (zT (k:=7) (o:=0) (cs:=(zO ⟨0,0,0,0,0,(List.replicate 5 ([]:List Int))⟩)) (la:=(zO x8.1)) Try.sizeOf46 (by exact p23.2.2.2.2.2.2.2.2.2.2.2.2.2.1) rfl rfl (by exact p23.2.2.2.2.2.2.2.2.2.2.2.1)) ?_
  exact zG ⟨fun _=>rfl,rfl⟩
 intro e25 s25 hq1
 refine zAz (zCl (l:=[(4,(AV.ptr 2 0)),(7,(li x2)),(8,(AV.ptr 4 0)),(11,(AV.ptr 7 0)),(12,(li x8.2))]) ⟨s25 4 rfl,s25 7 rfl,s25 8 rfl,(hq1 10 (by decide) (by decide)),(hq1 12 (by decide) (by decide)),trivial⟩)<|zI<|zI<|zC<|zA (zB (av:=(li x8.2)) rfl)<|zA (zy (a:=x8.2) (b:=0) rfl rfl) ?_
 refine zG ?_
 refine zY h rfl (fun b9 h => ?_) (fun b9 h => ?_)
 ·refine zI<|zC<|zA zP3<|zA (zB rfl)<|za (H':=[.box 29 (zF A),.box 3 [li B],.box 29 (zF (⟨([]:List Int),0,0,([]:List zW),([]:List zK)⟩:zH)),.dead,.box 29 [ls cI x5.nodes,li x5.batch,li x5.high,AV.hd 5,AV.hd 6],.vec 46 10 (List.map zO x5.zones),.vec 50 1 (List.map zAQ x5.caches),.box 46 (zO x8.1)]) (zT (k:=2) (o:=0) (cs:=(zF ⟨[],0,0,[],[]⟩)) (la:=(zF (⟨([]:List Int),0,0,([]:List zW),([]:List zK)⟩:zH))) Try.sizeOf29 rfl rfl rfl rfl)<|zA (zD rfl) ?_
  refine zG<|zd ?_
  cases h
  exact zCB (zF3 Try.isAgg29 Try.sizeOf29 rfl rfl rfl rfl) (zAi rfl rfl) rfl
 refine zU<|zI<|zC<|zA (zL Try.underlying29 rfl rfl Try.sizeOf26 rfl)<|zA (zN Try.isAgg26 rfl rfl rfl rfl)<|zA (zB rfl) ?_
 refine zA (zR (k:=7) (o:=0) (m:=10) Try.isAgg46 Try.sizeOf46 rfl rfl rfl rfl rfl)<|zA (zAN (f:=zO) (l:=x5.zones) (i:=x2) Try.underlying26 Try.sizeOf46 rfl rfl rfl b8)<|za (H':=[.box 29 (zF A),.box 3 [li B],.box 29 (zF ⟨[],0,0,[],[]⟩),.dead,.box 29 [ls cI x5.nodes,li x5.batch,li x5.high,AV.hd 5,AV.hd 6],.vec 46 10 (List.map zO (x5.zones.set x2.toNat x8.1)),.vec 50 1 (List.map zAQ x5.caches),.box 46 (zO x8.1)]) (zC3 (k:=5) (o:=(x2.toNat*10)) (f:=zO) (l:=x5.zones) (i:=x2) (z:=x8.1) Try.sizeOf46 (fun _=>rfl) rfl rfl (by first | rfl | omega) b8 rfl rfl)<|zG<|zI<|zC ?_
 refine zAF (zAR (k:=4) (j:=5) (o:=3) rfl rfl rfl rfl)<|zAF (zBw (k:=4) (o:=3) (rows':=List.map zO (x5.zones.set x2.toNat x8.1)) rfl rfl (zAW (fun _=>rfl)))<|zAF (zAR (k:=4) (j:=6) (o:=4) rfl rfl rfl rfl)<|zAF (zBw (k:=4) (o:=4) (rows':=List.map zJ x5.caches) rfl rfl (zHQ (fun x=>zEV x)))<|zA (zR (k:=4) (o:=0) (m:=5) Try.isAgg29 Try.sizeOf29 rfl rfl rfl rfl rfl)<|za (H':=[.box 29 (zF A),.box 3 [li B],.box 29 (zF (⟨x5.nodes,x5.batch,x5.high,x5.zones.set x2.toNat x8.1,x5.caches⟩:zH)),.dead,.box 29 (zF ⟨x5.nodes,x5.batch,x5.high,x5.zones.set x2.toNat x8.1,x5.caches⟩),.dead,.dead,.box 46 (zO x8.1)]) (zT (k:=2) (o:=0) (cs:=(zF ⟨[],0,0,[],[]⟩)) (la:=(zF (⟨x5.nodes,x5.batch,x5.high,x5.zones.set x2.toNat x8.1,x5.caches⟩:zH))) Try.sizeOf29 rfl rfl rfl rfl) ?_
 refine zA (zD rfl)<|zG<|zd ?_
 cases h
 exact zCB (zF3 Try.isAgg29 Try.sizeOf29 rfl rfl rfl rfl) (zAi rfl rfl) rfl
theorem zO6 {A:zAD} {B:List zBI} {r:zH×(List Int)×Bool} (h:zJT A B=some r):PFn Try.prog 12 [(AV.agg (zt A)),ls zo B] (AV.tup [(AV.agg (zF r.1)),ls cI r.2.1,(AV.lit (.bool r.2.2))]):=by
 refine zq Try.func12 rfl Try.ntmps12 Try.results12 rfl ?_
 unfold zJT at h
 refine zI<|zC<|zX (H':=[.box 37 (zt A)]) (z6 (t:=37) rfl)<|zX (H':=[.box 37 (zt A),.box 29 (zF ⟨[],0,0,[],[]⟩)]) zv3<|zA (zD rfl)<|zA (zD rfl) ?_
 refine zG<|zI<|zC<|zA (zR (k:=0) (o:=0) (m:=11) Try.isAgg37 Try.sizeOf37 rfl rfl rfl rfl rfl)<|zQ h fun x1 w1 h=>zZ Try.func21 rfl (by kernel_rfl) (.fn 21) rfl rfl (zP0 w1) rfl ?_
 refine zA (zB rfl)<|zA (zS rfl rfl)<|zA (zS rfl rfl)<|zX (H':=[.box 37 (zt A),.box 29 (zF ⟨[],0,0,[],[]⟩),.box 29 (zF ⟨[],0,0,[],[]⟩)]) zv3<|za (H':=[.box 37 (zt A),.box 29 (zF ⟨[],0,0,[],[]⟩),.box 29 (zF x1.1)]) (zT (k:=2) (o:=0) (cs:=(zF ⟨[],0,0,[],[]⟩)) (la:=(zF x1.1)) Try.sizeOf29 rfl rfl rfl rfl)<|zA (zD rfl) ?_
 refine zG<|zI<|zI<|zC<|zA (zB rfl)<|zA (zy rfl rfl) ?_
 refine zG ?_
 refine zY h rfl (fun b1 h => ?_) (fun b1 h => ?_)
 ·refine zI<|zC<|zA (zR (k:=2) (o:=0) (m:=5) Try.isAgg29 Try.sizeOf29 rfl rfl rfl rfl rfl)<|za (H':=[.box 37 (zt A),.box 29 (zF x1.1),.box 29 (zF x1.1)]) (zT (k:=1) (o:=0) (cs:=(zF ⟨[],0,0,[],[]⟩)) (la:=(zF x1.1)) Try.sizeOf29 rfl rfl rfl rfl)<|zA (zD rfl)<|zA (zD rfl) ?_
  refine zG<|zd ?_
  cases h
  exact zED (zF3 Try.isAgg29 Try.sizeOf29 rfl rfl rfl rfl) (zIo (zAi rfl rfl) zA6.nils) (zAi rfl rfl) rfl
 refine zU<|zI<|zC<|zA (zD rfl)<|zAF (zPU (d:=9) (el:=3) (sz:=1) rfl)<|zG ?_
 refine zAA (r:=r) (fun ((d1,l1):zH×(List Int))=>mkE [(4,(AV.ptr 0 0)),(7,(AV.ptr 1 0)),(9,(AV.hd 2))]) (fun (d1,l1)=>[.box 29 (zF ⟨[],0,0,[],[]⟩),.box 29 (zF d1),.vec 3 1 (List.map cI l1)]) (fun (d1,l1)=>zJx d1 l1) ?_ ?_
 ·
  refine zI<|zC<|zA (zB rfl)<|zA (ze Try.underlying38 rfl)<|zA (zB rfl)<|zG ?_
  refine zV<|z9 (σ:=Int×zH×(List Int)) (fun (i1,d2,l2)=>mkE [(4,(AV.ptr 0 0)),(7,(AV.ptr 1 0)),(9,(AV.hd 2)),(29,(ls zo B)),(30,(li (B.length:Int))),(31,(li i1))]) (fun (i1,d2,l2)=>[.box 29 (zF ⟨[],0,0,[],[]⟩),.box 29 (zF d2),.vec 3 1 (List.map cI l2)]) (fun n0 (i1,d2,l2)=>zEZ B n0 i1 d2 l2) (0,x1.1,[]) h (fun _=>rfl) (zAd [1,2,3] rfl rfl (by kernel_rfl)) ?_
  clear h
  rintro n0 ⟨i1,d2,l2⟩ h
  replace h:zEc B (zEZ B n0) i1 d2 l2=some r:=h
  unfold zEc at h
  refine zI<|zC<|zA (zj rfl rfl)<|zG<|zI ?_
  refine zY h rfl (fun b2 h => ?_) (fun b2 h => ?_)
  ·refine zU ?_
   refine zAA (r:=r) (fun ((d3,l3):zH×(List Int))=>mkE [(4,(AV.ptr 0 0)),(7,(AV.ptr 1 0)),(9,(AV.hd 2)),(29,(ls zo B)),(30,(li (B.length:Int))),(31,(li i1))]) (fun (d3,l3)=>[.box 29 (zF ⟨[],0,0,[],[]⟩),.box 29 (zF d3),.vec 3 1 (List.map cI l3)]) (fun (d3,l3)=>zCI (zEZ B n0) i1 d3 l3) ?_ ?_
   ·
    refine zV<|zI<|zC<|zM h fun b4 h=>zA (zm Try.underlying38 Try.sizeOf78 (fun _=>rfl) rfl rfl b4)<|zA (zBG (row:=(zo (at_ B i1))) (o:=0) (m:=3) (la:=(zo (at_ B i1))) Try.isAgg78 Try.sizeOf78 rfl rfl rfl) ?_
    refine zX (H':=[.box 29 (zF ⟨[],0,0,[],[]⟩),.box 29 (zF d2),.vec 3 1 (List.map cI l2),.box 78 [(AV.lit (.int .u8 0)),(AV.lit (.int .u8 0)),(AV.lit (.int .u8 0))]]) zZu<|za (H':=[.box 29 (zF ⟨[],0,0,[],[]⟩),.box 29 (zF d2),.vec 3 1 (List.map cI l2),.box 78 (zo (at_ B i1))]) (zT (k:=3) (o:=0) (cs:=[(AV.lit (.int .u8 0)),(AV.lit (.int .u8 0)),(AV.lit (.int .u8 0))]) (la:=(zo (at_ B i1))) Try.sizeOf78 rfl rfl rfl rfl)<|zG<|zI<|zC<|zA (zL Try.underlying78 rfl rfl Try.sizeOf5 rfl) ?_
    refine zA (zN Try.isAgg5 rfl rfl rfl rfl)<|zA (zF7 (k := .u8) (a:=(at_ B i1).cpu) (b:=2) rfl rfl (by decide))<|zM h fun b5 h=>zA (zFB (k' := .i64) (a:=((at_ B i1).cpu).tmod 2) Try.underlying5 Try.underlying3 rfl b5)<|zA (zD rfl)<|zG ?_
    refine zI<|zC<|zA (zL Try.underlying78 rfl rfl Try.sizeOf5 rfl)<|zA (zN Try.isAgg5 rfl rfl rfl rfl)<|zA (zF7 (k := .u8) (a:=(at_ B i1).what) (b:=6) rfl rfl (by decide))<|zG ?_
    refine zV<|zI<|zC<|zA (zBO rfl rfl)<|zA (zD rfl)<|zG ?_
    refine zY h rfl (fun b6 h => ?_) (fun b6 h => ?_)
    ·refine zI<|zI<|zC<|zA (zB rfl)<|zA (zDd (f:=cI) (l:=l2) Try.underlying22 rfl rfl)<|zA (zBO rfl rfl) ?_
     refine zG ?_
     refine zY h rfl (fun b7 h => ?_) (fun b7 h => ?_)
     ·refine zAG ?_
      exact ⟨(d2,l2),zAd [0,1,2] rfl rfl (by kernel_rfl),h⟩
     refine zU<|zI<|zC<|zA (zL Try.underlying78 rfl rfl Try.sizeOf5 rfl)<|zA (zN Try.isAgg5 rfl rfl rfl rfl)<|zM h fun b8 h => ?_
     refine zA (zFB (k' := .i64) (a:=(at_ B i1).pick) Try.underlying5 Try.underlying3 rfl b8)<|zA (zB rfl)<|zA (zDd (f:=cI) (l:=l2) Try.underlying22 rfl rfl)<|zM h fun b9 h=>zA (zF7 (k := .i64) (a:=(at_ B i1).pick) (b:=(l2.length:Int)) rfl rfl b9)<|zA (zD rfl) ?_
     refine zG<|zI<|zM h fun b10 h=>zQ h fun x2 w2 h => ?_
     refine zBe (n:=128) (m:=0) [.head 0 1,.head 0 1,.head 0 1,.head 0 1,.head 0 1,.head 0 1,.head 0 1,.head 0 1,.head 0 1,.head 0 2,.tail 0,.tail 1,.head 2 2] [10,11] [(AV.agg (zF d2)),(li (((at_ B i1).cpu).tmod 2)),AV.hd 2,(li (((at_ B i1).pick).tmod (l2.length:Int))),(AV.ptr 2 ((((at_ B i1).pick).tmod (l2.length:Int)).toNat*1)),(li (at_ l2 (((at_ B i1).pick).tmod (l2.length:Int)))),(AV.tup [(AV.agg (zF x2.1)),li x2.2]),(AV.tup [(AV.agg (zF x2.1)),li x2.2]),(AV.agg (zF x2.1)),li x2.2,AV.ptr 4 0,.any,li x2.2] [[.box 29 (zF ⟨[],0,0,[],[]⟩),.box 29 (zF d2),.vec 3 1 (List.map cI l2),.box 78 (zo (at_ B i1))],[.box 29 (zF ⟨[],0,0,[],[]⟩),.box 29 (zF d2),.vec 3 1 (List.map cI l2),.box 78 (zo (at_ B i1)),.box 29 (zF ⟨[],0,0,[],[]⟩)],[.box 29 (zF ⟨[],0,0,[],[]⟩),.box 29 (zF d2),.vec 3 1 (List.map cI l2),.box 78 (zo (at_ B i1)),.box 29 (zF x2.1)]] (by kernel_rfl) (by kernel_rfl) ⟨⟨D1 fun e s p=>zR (k:=1) (o:=0) (m:=5) Try.isAgg29 Try.sizeOf29 (s 7 rfl) rfl rfl rfl rfl,D1 fun e s p=>zR (k:=1) (o:=0) (m:=5) Try.isAgg29 Try.sizeOf29 (s 7 rfl) rfl rfl rfl rfl⟩,⟨D1 fun e s p=>zB (s 12 rfl),D1 fun e s p=>zB (s 12 rfl)⟩,⟨D1 fun e s p=>zB (s 9 rfl),D1 fun e s p=>zB (s 9 rfl)⟩,⟨D1 fun e s p=>zB (s 13 rfl),D1 fun e s p=>zB (s 13 rfl)⟩,⟨D1 fun e s p=>zAN (f:=cI) (l:=l2) (i:=((at_ B i1).pick).tmod (l2.length:Int)) Try.underlying22 Try.sizeOf3 p.1 rfl p.2.1 b10,D1 fun e s p=>zAN (f:=cI) (l:=l2) (i:=((at_ B i1).pick).tmod (l2.length:Int)) Try.underlying22 Try.sizeOf3 p.1 rfl p.2.1 b10⟩,⟨D1 fun e s p=>zC6 (f:=cI) (l:=l2) (i:=((at_ B i1).pick).tmod (l2.length:Int)) (c:=0) (a:=(li (at_ l2 (((at_ B i1).pick).tmod (l2.length:Int))))) Try.isAgg3 p.1 rfl (by first | rfl | omega) b10 rfl rfl,D1 fun e s p=>zC6 (f:=cI) (l:=l2) (i:=((at_ B i1).pick).tmod (l2.length:Int)) (c:=0) (a:=(li (at_ l2 (((at_ B i1).pick).tmod (l2.length:Int))))) Try.isAgg3 p.1 rfl (by first | rfl | omega) b10 rfl rfl⟩,⟨?_,?_⟩,⟨D1 fun e s p=>zB p.1,D1 fun e s p=>zB p.1⟩,⟨D1 fun e s p=>zS p.1 rfl,D1 fun e s p=>zS p.1 rfl⟩,⟨D1 fun e s p=>zS p.1 rfl,D1 fun e s p=>zS p.1 rfl,D1 fun e s p=>zS p.1 rfl⟩,?_,?_,D1 fun e s p=>zD p.2.2.2.2.2.2.2.2.2.2.2.1,trivial⟩ ?_
     ·
      intro e13 s13 p13
      refine zZ (r:=(AV.tup [(AV.agg (zF x2.1)),li x2.2])) (la:=[(AV.agg (zF d2)),(li (((at_ B i1).cpu).tmod 2)),(li (at_ l2 (((at_ B i1).pick).tmod (l2.length:Int))))]) Try.func20 rfl (by kernel_rfl) (.fn 20) (zAe p13.1 (zAe p13.2.1 (zAe p13.2.2.1 rfl))) rfl (zG0 w2) rfl ?_
      exact zG ⟨fun _=>rfl,rfl⟩
     ·
      intro e14 s14 p14
      refine zZ (r:=(AV.tup [(AV.agg (zF x2.1)),li x2.2])) (la:=[(AV.agg (zF d2)),(li (((at_ B i1).cpu).tmod 2)),(li (at_ l2 (((at_ B i1).pick).tmod (l2.length:Int))))]) Try.func20 rfl (by kernel_rfl) (.fn 20) (zAe p14.1 (zAe p14.2.1 (zAe p14.2.2.1 rfl))) rfl (zG0 w2) rfl ?_
      exact zG ⟨fun _=>rfl,rfl⟩
     ·
      intro e22 s22 p22
      refine zX (H':=[.box 29 (zF ⟨[],0,0,[],[]⟩),.box 29 (zF d2),.vec 3 1 (List.map cI l2),.box 78 (zo (at_ B i1)),.box 29 (zF ⟨[],0,0,[],[]⟩)]) zv3 ?_
      exact zG ⟨fun _=>rfl,rfl⟩
     ·
      intro e23 s23 p23
      refine za (H':=[.box 29 (zF ⟨[],0,0,[],[]⟩),.box 29 (zF d2),.vec 3 1 (List.map cI l2),.box 78 (zo (at_ B i1)),.box 29 (zF x2.1)]) (zT (k:=4) (o:=0) (cs:=(zF ⟨[],0,0,[],[]⟩)) (la:=(zF x2.1)) Try.sizeOf29 (by exact p23.2.2.2.2.2.2.2.2.2.2.2.2.2.1) rfl rfl (by exact p23.2.2.2.2.2.2.2.2.2.2.2.1)) ?_
      exact zG ⟨fun _=>rfl,rfl⟩
     intro e25 s25 hq1
     refine zAz (zCl (l:=[(4,(AV.ptr 0 0)),(7,(AV.ptr 1 0)),(9,(AV.hd 2)),(13,(li (((at_ B i1).pick).tmod (l2.length:Int)))),(14,(AV.ptr 4 0)),(15,(li x2.2)),(29,(ls zo B)),(30,(li (B.length:Int))),(31,(li i1))]) ⟨s25 4 rfl,s25 7 rfl,s25 9 rfl,s25 13 rfl,(hq1 10 (by decide) (by decide)),(hq1 12 (by decide) (by decide)),s25 29 rfl,s25 30 rfl,s25 31 rfl,trivial⟩)<|zI<|zI<|zC<|zA (zB (av:=(li x2.2)) rfl)<|zA (zy (a:=x2.2) (b:=0) rfl rfl) ?_
     refine zG ?_
     refine zY h rfl (fun b11 h => ?_) (fun b11 h => ?_)
     ·refine zI<|zC<|zA (zR (k:=1) (o:=0) (m:=5) Try.isAgg29 Try.sizeOf29 rfl rfl rfl rfl rfl)<|za (H':=[.box 29 (zF d2),.box 29 (zF d2),.vec 3 1 (List.map cI l2),.box 78 (zo (at_ B i1)),.box 29 (zF x2.1)]) (zT (k:=0) (o:=0) (cs:=(zF ⟨[],0,0,[],[]⟩)) (la:=(zF d2)) Try.sizeOf29 rfl rfl rfl rfl)<|zA (zD rfl)<|zA (zD rfl) ?_
      refine zG<|zd ?_
      cases h
      exact zED (zF3 Try.isAgg29 Try.sizeOf29 rfl rfl rfl rfl) (zIo (zAi rfl rfl) zA6.nils) (zAi rfl rfl) rfl
     refine zU<|zI<|zC<|zA (zR (k:=4) (o:=0) (m:=5) Try.isAgg29 Try.sizeOf29 rfl rfl rfl rfl rfl)<|za (H':=[.box 29 (zF ⟨[],0,0,[],[]⟩),.box 29 (zF x2.1),.vec 3 1 (List.map cI l2),.box 78 (zo (at_ B i1)),.box 29 (zF x2.1)]) (zT (k:=1) (o:=0) (cs:=(zF d2)) (la:=(zF x2.1)) Try.sizeOf29 rfl rfl rfl rfl)<|zG ?_
     refine zAz (zE8 (j:=2) (ds:=[9]) (rows':=List.map cI l2) rfl (zAW (fun _=>rfl)) ⟨rfl,trivial⟩)<|zM h fun b12 h=>zM h fun b13 h=>zM h fun b14 h=>zM h fun b15 h=>zM h fun b16 h => ?_
     refine zBe (n:=128) (m:=0) [.tail 0,.head 0 1,.head 0 1,.head 0 1,.tail 1,.head 0 2,.head 0 2,.head 0 2,.head 0 2,.tail 2,.head 3 3] [0,4,9] [AV.hd 5,ls cI l2,(li (((at_ B i1).pick).tmod (l2.length:Int))),(ls cI (zE9 l2 0 (((at_ B i1).pick).tmod (l2.length:Int)))),AV.hd 6,ls cI l2,(li (((at_ B i1).pick).tmod (l2.length:Int))),(li ((((at_ B i1).pick).tmod (l2.length:Int))+1)),(ls cI (zE9 l2 ((((at_ B i1).pick).tmod (l2.length:Int))+1) (l2.length:Int))),AV.hd 7,AV.hd 7] [[.box 29 (zF ⟨[],0,0,[],[]⟩),.box 29 (zF x2.1),.dead,.box 78 (zo (at_ B i1)),.box 29 (zF x2.1)],[.box 29 (zF ⟨[],0,0,[],[]⟩),.box 29 (zF x2.1),.dead,.box 78 (zo (at_ B i1)),.box 29 (zF x2.1),.vec 3 1 (List.map cI [])],[.box 29 (zF ⟨[],0,0,[],[]⟩),.box 29 (zF x2.1),.dead,.box 78 (zo (at_ B i1)),.box 29 (zF x2.1),.dead,.vec 3 1 (List.map cI (([]:List Int)++(zE9 l2 0 (((at_ B i1).pick).tmod (l2.length:Int)))))],[.box 29 (zF ⟨[],0,0,[],[]⟩),.box 29 (zF x2.1),.dead,.box 78 (zo (at_ B i1)),.box 29 (zF x2.1),.dead,.dead,.vec 3 1 (List.map cI ((([]:List Int)++(zE9 l2 0 (((at_ B i1).pick).tmod (l2.length:Int))))++(zE9 l2 ((((at_ B i1).pick).tmod (l2.length:Int))+1) (l2.length:Int))))]] (by kernel_rfl) (by kernel_rfl) ⟨?_,⟨D1 fun e s p=>zB (s 9 rfl),D1 fun e s p=>zB (s 9 rfl)⟩,⟨D1 fun e s p=>zB (s 13 rfl),D1 fun e s p=>zB (s 13 rfl)⟩,⟨D1 fun e s p=>zNm (hi:=((at_ B i1).pick).tmod (l2.length:Int)) (f:=cI) (l:=l2) Try.underlying22 Try.sizeOf3 (fun _=>rfl) p.1 p.2.1 b12,D1 fun e s p=>zNm (hi:=((at_ B i1).pick).tmod (l2.length:Int)) (f:=cI) (l:=l2) Try.underlying22 Try.sizeOf3 (fun _=>rfl) p.1 p.2.1 b12⟩,?_,⟨D1 fun e s p=>zB (s 9 rfl),D1 fun e s p=>zB (s 9 rfl),D1 fun e s p=>zB (s 9 rfl)⟩,⟨D1 fun e s p=>zB (s 13 rfl),D1 fun e s p=>zB (s 13 rfl),D1 fun e s p=>zB (s 13 rfl)⟩,⟨D1 fun e s p=>zi (a:=((at_ B i1).pick).tmod (l2.length:Int)) (b:=1) p.1 rfl b14,D1 fun e s p=>zi (a:=((at_ B i1).pick).tmod (l2.length:Int)) (b:=1) p.1 rfl b14,D1 fun e s p=>zi (a:=((at_ B i1).pick).tmod (l2.length:Int)) (b:=1) p.1 rfl b14⟩,⟨D1 fun e s p=>zKU (lo:=(((at_ B i1).pick).tmod (l2.length:Int))+1) (f:=cI) (l:=l2) Try.underlying22 Try.sizeOf3 (fun _=>rfl) p.1 p.2.1 b15,D1 fun e s p=>zKU (lo:=(((at_ B i1).pick).tmod (l2.length:Int))+1) (f:=cI) (l:=l2) Try.underlying22 Try.sizeOf3 (fun _=>rfl) p.1 p.2.1 b15,D1 fun e s p=>zKU (lo:=(((at_ B i1).pick).tmod (l2.length:Int))+1) (f:=cI) (l:=l2) Try.underlying22 Try.sizeOf3 (fun _=>rfl) p.1 p.2.1 b15⟩,?_,D1 fun e s p=>zD p.2.2.2.2.2.2.2.2.2.2.2.1,trivial⟩ ?_
     ·
      intro e26 s26 p25
      refine zL0 zG6 Try.underlying22 ?_
      exact zG ⟨fun _=>rfl,rfl⟩
     ·
      intro e33 s33 p32
      refine zGu (f:=cI) (k:=5) (l:=([]:List Int)) (l':=zE9 l2 0 (((at_ B i1).pick).tmod (l2.length:Int))) zG6 (fun _=>rfl) Try.underlying22 p32.1 rfl p32.2.1 b13 ?_
      exact zG ⟨fun _=>rfl,rfl⟩
     ·
      intro e46 s46 p45
      refine zGu (f:=cI) (k:=6) (l:=([]:List Int)++(zE9 l2 0 (((at_ B i1).pick).tmod (l2.length:Int)))) (l':=zE9 l2 ((((at_ B i1).pick).tmod (l2.length:Int))+1) (l2.length:Int)) zG6 (fun _=>rfl) Try.underlying22 p45.2.2.1 rfl p45.2.1 b16 ?_
      exact zG ⟨fun _=>rfl,rfl⟩
     intro e48 s48 hq2
     exact ⟨(x2.1,((([]:List Int)++(zE9 l2 0 (((at_ B i1).pick).tmod (l2.length:Int))))++(zE9 l2 ((((at_ B i1).pick).tmod (l2.length:Int))+1) (l2.length:Int)))),Rep.trans (zCl (l:=[(4,(AV.ptr 0 0)),(7,(AV.ptr 1 0)),(9,(AV.hd 7)),(29,(ls zo B)),(30,(li (B.length:Int))),(31,(li i1))]) ⟨s48 4 rfl,s48 7 rfl,(hq2 10 (by decide) (by decide)),s48 29 rfl,s48 30 rfl,s48 31 rfl,trivial⟩) (zAd [0,1,7] (l:=[(4,(AV.ptr 0 0)),(7,(AV.ptr 1 0)),(9,(AV.hd 2)),(29,(ls zo B)),(30,(li (B.length:Int))),(31,(li i1))]) rfl rfl (by kernel_rfl)),h⟩
    refine zI<|zC<|zA (zBO rfl rfl)<|zA (zD rfl)<|zG ?_
    refine zY h rfl (fun b17 h => ?_) (fun b17 h => ?_)
    ·refine zC<|zA (zR (k:=1) (o:=0) (m:=5) Try.isAgg29 Try.sizeOf29 rfl rfl rfl rfl rfl)<|zQ h fun x3 w3 h=>zZ Try.func22 rfl (by kernel_rfl) (.fn 22) rfl rfl (zIi w3) rfl<|za (H':=[.box 29 (zF ⟨[],0,0,[],[]⟩),.box 29 (zF x3),.vec 3 1 (List.map cI l2),.box 78 (zo (at_ B i1))]) (zT (k:=1) (o:=0) (cs:=(zF d2)) (la:=(zF x3)) Try.sizeOf29 rfl rfl rfl rfl)<|zG ?_
     exact ⟨(x3,l2),zAd [0,1,2] rfl rfl (by kernel_rfl),h⟩
    refine zI<|zC<|zA (zBO rfl rfl)<|zA (zD rfl)<|zG ?_
    refine zY h rfl (fun b18 h => ?_) (fun b18 h => ?_)
    ·refine zI<|zC<|zA (zR (k:=1) (o:=0) (m:=5) Try.isAgg29 Try.sizeOf29 rfl rfl rfl rfl rfl)<|zA (zL Try.underlying78 rfl rfl Try.sizeOf5 rfl)<|zA (zN Try.isAgg5 rfl rfl rfl rfl)<|zM h fun b19 h => ?_
     refine zA (zFB (k' := .i64) (a:=(at_ B i1).pick) Try.underlying5 Try.underlying3 rfl b19)<|zQ h fun x4 w4 h=>zZ Try.func33 rfl (by kernel_rfl) (.fn 33) rfl rfl (zMS w4) rfl<|zA (zB rfl)<|zA (zS rfl rfl)<|zA (zS rfl rfl) ?_
     refine zX (H':=[.box 29 (zF ⟨[],0,0,[],[]⟩),.box 29 (zF d2),.vec 3 1 (List.map cI l2),.box 78 (zo (at_ B i1)),.box 29 (zF ⟨[],0,0,[],[]⟩)]) zv3<|za (H':=[.box 29 (zF ⟨[],0,0,[],[]⟩),.box 29 (zF d2),.vec 3 1 (List.map cI l2),.box 78 (zo (at_ B i1)),.box 29 (zF x4.1)]) (zT (k:=4) (o:=0) (cs:=(zF ⟨[],0,0,[],[]⟩)) (la:=(zF x4.1)) Try.sizeOf29 rfl rfl rfl rfl)<|zA (zD rfl)<|zG<|zI<|zC ?_
     refine zA (zB rfl)<|zA (zBO rfl rfl)<|zG ?_
     refine zY h rfl (fun b20 h => ?_) (fun b20 h => ?_)
     ·refine zI<|zC<|zA (zR (k:=4) (o:=0) (m:=5) Try.isAgg29 Try.sizeOf29 rfl rfl rfl rfl rfl)<|za (H':=[.box 29 (zF ⟨[],0,0,[],[]⟩),.box 29 (zF x4.1),.vec 3 1 (List.map cI l2),.box 78 (zo (at_ B i1)),.box 29 (zF x4.1)]) (zT (k:=1) (o:=0) (cs:=(zF d2)) (la:=(zF x4.1)) Try.sizeOf29 rfl rfl rfl rfl)<|zG<|zC ?_
      refine zA (zB rfl)<|zA (zL Try.underlying78 rfl rfl Try.sizeOf5 rfl)<|zA (zN Try.isAgg5 rfl rfl rfl rfl)<|zA (zFB (k' := .i64) (a:=(at_ B i1).pick) Try.underlying5 Try.underlying3 rfl b19)<|zGW (a:=(li ((at_ B i1).pick))) zG6 Try.underlying22 rfl rfl rfl rfl<|zM h fun b21 h => ?_
      refine zER (f:=cI) (k:=2) (j:=5) (l:=l2) (l':=[(at_ B i1).pick]) zG6 (fun _=>rfl) Try.underlying22 rfl rfl rfl rfl b21<|zA (zD rfl)<|zG ?_
      exact ⟨(x4.1,(l2++[(at_ B i1).pick])),zAd [0,1,6] rfl rfl (by kernel_rfl),h⟩
     refine zU ?_
     exact ⟨(d2,l2),zAd [0,1,2] rfl rfl (by kernel_rfl),h⟩
    refine zI<|zC<|zA (zR (k:=1) (o:=0) (m:=5) Try.isAgg29 Try.sizeOf29 rfl rfl rfl rfl rfl)<|zA (zB rfl)<|zA (zL Try.underlying78 rfl rfl Try.sizeOf5 rfl)<|zA (zN Try.isAgg5 rfl rfl rfl rfl) ?_
    refine zA (zF7 (k := .u8) (a:=(at_ B i1).what) (b:=6) rfl rfl (by decide))<|zA (zy rfl rfl)<|zA (zL Try.underlying78 rfl rfl Try.sizeOf5 rfl)<|zA (zN Try.isAgg5 rfl rfl rfl rfl)<|zA (zF7 (k := .u8) (a:=(at_ B i1).what) (b:=6) rfl rfl (by decide))<|zA (zBO rfl rfl) ?_
    refine zQ h fun x5 w5 h=>zZ Try.func17 rfl (by kernel_rfl) (.fn 17) rfl rfl (zGa w5) rfl<|zA (zB rfl)<|zA (zS rfl rfl)<|zA (zS rfl rfl)<|zA (zS rfl rfl) ?_
    refine zX (H':=[.box 29 (zF ⟨[],0,0,[],[]⟩),.box 29 (zF d2),.vec 3 1 (List.map cI l2),.box 78 (zo (at_ B i1)),.box 29 (zF ⟨[],0,0,[],[]⟩)]) zv3<|za (H':=[.box 29 (zF ⟨[],0,0,[],[]⟩),.box 29 (zF d2),.vec 3 1 (List.map cI l2),.box 78 (zo (at_ B i1)),.box 29 (zF x5.1)]) (zT (k:=4) (o:=0) (cs:=(zF ⟨[],0,0,[],[]⟩)) (la:=(zF x5.1)) Try.sizeOf29 rfl rfl rfl rfl)<|zA (zD rfl)<|zA (zD rfl)<|zG<|zI ?_
    refine zC<|zA (zB rfl)<|zA (zBO rfl rfl)<|zG ?_
    refine zY h rfl (fun b22 h => ?_) (fun b22 h => ?_)
    ·refine zI<|zC<|zA (zR (k:=4) (o:=0) (m:=5) Try.isAgg29 Try.sizeOf29 rfl rfl rfl rfl rfl)<|za (H':=[.box 29 (zF ⟨[],0,0,[],[]⟩),.box 29 (zF x5.1),.vec 3 1 (List.map cI l2),.box 78 (zo (at_ B i1)),.box 29 (zF x5.1)]) (zT (k:=1) (o:=0) (cs:=(zF d2)) (la:=(zF x5.1)) Try.sizeOf29 rfl rfl rfl rfl)<|zG<|zC ?_
     refine zA (zB rfl)<|zA (zB rfl)<|zGW (a:=(li x5.2.1)) zG6 Try.underlying22 rfl rfl rfl rfl<|zM h fun b23 h=>zER (f:=cI) (k:=2) (j:=5) (l:=l2) (l':=[x5.2.1]) zG6 (fun _=>rfl) Try.underlying22 rfl rfl rfl rfl b23<|zA (zD rfl) ?_
     refine zG ?_
     exact ⟨(x5.1,(l2++[x5.2.1])),zAd [0,1,6] rfl rfl (by kernel_rfl),h⟩
    refine zI<|zC<|zA (zB rfl)<|zA (zy rfl rfl)<|zG ?_
    refine zY h rfl (fun b24 h => ?_) (fun b24 h => ?_)
    ·refine zI<|zC<|zA (zR (k:=1) (o:=0) (m:=5) Try.isAgg29 Try.sizeOf29 rfl rfl rfl rfl rfl)<|za (H':=[.box 29 (zF d2),.box 29 (zF d2),.vec 3 1 (List.map cI l2),.box 78 (zo (at_ B i1)),.box 29 (zF x5.1)]) (zT (k:=0) (o:=0) (cs:=(zF ⟨[],0,0,[],[]⟩)) (la:=(zF d2)) Try.sizeOf29 rfl rfl rfl rfl)<|zA (zD rfl)<|zA (zD rfl) ?_
     refine zG<|zd ?_
     cases h
     exact zED (zF3 Try.isAgg29 Try.sizeOf29 rfl rfl rfl rfl) (zIo (zAi rfl rfl) zA6.nils) (zAi rfl rfl) rfl
    refine zU ?_
    exact ⟨(d2,l2),zAd [0,1,2] rfl rfl (by kernel_rfl),h⟩
   clear h
   rintro ⟨d3,l3⟩ h
   unfold zCI at h
   refine zC<|zM h fun b3 h=>zA (zi rfl rfl b3)<|zA (zB rfl)<|zG ?_
   exact ⟨((i1+1),d3,l3),zAd [0,1,2] rfl rfl (by kernel_rfl),h⟩
  refine zAG ?_
  exact ⟨(d2,l2),zAd [0,1,2] rfl rfl (by kernel_rfl),h⟩
 clear h
 rintro ⟨d1,l1⟩ h
 unfold zJx at h
 refine zI<|zC<|zA (zR (k:=1) (o:=0) (m:=5) Try.isAgg29 Try.sizeOf29 rfl rfl rfl rfl rfl)<|zA (zB rfl)<|za (H':=[.box 29 (zF d1),.box 29 (zF d1),.vec 3 1 (List.map cI l1)]) (zT (k:=0) (o:=0) (cs:=(zF ⟨[],0,0,[],[]⟩)) (la:=(zF d1)) Try.sizeOf29 rfl rfl rfl rfl)<|zA (zD rfl) ?_
 refine zA (zD rfl)<|zG<|zAz (zE8 (j:=2) (ds:=[5,9,127]) (rows':=List.map cI l1) rfl (zAW (fun _=>rfl)) ⟨rfl,rfl,rfl,trivial⟩)<|zd ?_
 cases h
 exact zED (zF3 Try.isAgg29 Try.sizeOf29 rfl rfl rfl rfl) (zAi rfl rfl) (zAi rfl rfl) rfl
theorem zKA {A:zAD} {B:List zBI} {G:List Int} {r:Bool} (h:zEU A B G=some r):PFn Try.prog 5 [(AV.agg (zt A)),ls zo B,(ls (cK .u8) G)] (AV.lit (.bool r)):=by
 refine zq Try.func5 rfl Try.ntmps5 Try.results5 rfl ?_
 unfold zEU at h
 refine zI<|zC<|zX (H':=[.box 37 (zt A)]) (z6 (t:=37) rfl)<|zA (zD rfl)<|zG<|zI ?_
 refine zI<|zC<|zQ h fun x1 w1 h=>zZ Try.func8 rfl (by kernel_rfl) (.fn 8) rfl rfl (zLF w1) rfl<|zA (zBU (t:=x1) rfl)<|zA (zB rfl) ?_
 refine zb rfl rfl (fun c1=>zv.step (zB rfl))<|zb rfl rfl (fun c2=>zv.step (ze Try.underlying38 (zAM rfl c2)))<|zb rfl rfl (fun c3=>zv.step (zBx (zAM rfl c3) rfl))<|zA (zg rfl rfl)<|zA (zB rfl)<|zb rfl rfl (fun c4=>zv.step (zB rfl)) ?_
 refine zb rfl rfl (fun c5=>zv.step (ze Try.underlying52 (zAM rfl c5)))<|zb rfl rfl (fun c6=>zv.step (zBx (zAM rfl c6) rfl))<|zA (zg rfl rfl)<|zG ?_
 refine zY h rfl (fun b1 h => ?_) (fun b1 h => ?_)
 ·refine zI<|zC<|zQ h fun x2 w2 h=>zZ Try.func8 rfl (by kernel_rfl) (.fn 8) rfl rfl (zLF w2) rfl<|zA (zD rfl)<|zG ?_
  refine zd ?_
  cases h
  exact zx (zAi rfl rfl)
 refine zU<|zI<|zC<|zA (zR (k:=0) (o:=0) (m:=11) Try.isAgg37 Try.sizeOf37 rfl rfl rfl rfl rfl)<|zA (zB rfl)<|zQ h fun x3 w3 h => ?_
 refine zZ Try.func12 rfl (by kernel_rfl) (.fn 12) rfl rfl (zO6 w3) rfl<|zA (zB rfl)<|zA (zS rfl rfl)<|zA (zS rfl rfl)<|zA (zS rfl rfl)<|zX (H':=[.box 37 (zt A),.box 29 (zF ⟨[],0,0,[],[]⟩)]) zv3 ?_
 refine za (H':=[.box 37 (zt A),.box 29 (zF x3.1)]) (zT (k:=1) (o:=0) (cs:=(zF ⟨[],0,0,[],[]⟩)) (la:=(zF x3.1)) Try.sizeOf29 rfl rfl rfl rfl)<|zA (zD rfl)<|zA (zD rfl)<|zG<|zI<|zI ?_
 refine zC<|zA (zB rfl)<|zA (zBU (t:=x3.2.2) rfl)<|zG ?_
 refine zY h rfl (fun b2 h => ?_) (fun b2 h => ?_)
 ·refine zI<|zC<|zA (zD rfl)<|zG<|zd ?_
  cases h
  exact zx (zAi rfl rfl)
 refine zU<|zI<|zC<|zA (zR (k:=1) (o:=0) (m:=5) Try.isAgg29 Try.sizeOf29 rfl rfl rfl rfl rfl)<|zQ h fun x4 w4 h=>zZ Try.func16 rfl (by kernel_rfl) (.fn 16) rfl rfl (zFM w4) rfl ?_
 refine zA (zB rfl)<|zA (zS rfl rfl)<|zA (zS rfl rfl)<|zA (zD rfl)<|zA (zD rfl)<|zG ?_
 refine zI<|zI<|zC<|zA (zB rfl)<|zA (zBx rfl rfl)<|zA (zB rfl) ?_
 refine zb rfl rfl (fun c7=>zv.step (zB rfl))<|zb rfl rfl (fun c8=>zv.step (zBx (zAM rfl c8) rfl))<|zA (zg rfl rfl)<|zG ?_
 refine zY h rfl (fun b3 h => ?_) (fun b3 h => ?_)
 ·refine zI<|zC<|zA (zD rfl)<|zG<|zd ?_
  cases h
  exact zx (zAi rfl rfl)
 refine zU<|zI<|zC<|zA (zB rfl)<|zA (zB rfl)<|zA (zMB (a:=x4.1) (b:=x4.2) rfl rfl) ?_
 refine zA (zO7 (a:=0) (b:=min x4.1 x4.2) rfl rfl)<|zA (zD rfl)<|zG ?_
 refine zAA (r:=r) (fun (d1:zH)=>mkE [(7,(AV.ptr 0 0)),(10,(li x4.1)),(11,(li x4.2))]) (fun d1=>[.box 29 (zF d1)]) (fun d1=>zDW x4 d1) ?_ ?_
 ·
  refine zI<|zC<|zA (zB rfl)<|zA (zO7 (a:=0) (b:=x4.2) rfl rfl)<|zA (zB rfl)<|zG ?_
  refine zV<|z9 (σ:=Int×zH) (fun (i1,d2)=>mkE [(2,(ls (cK .u8) G)),(7,(AV.ptr 0 0)),(10,(li x4.1)),(11,(li x4.2)),(12,(li (max 0 (min x4.1 x4.2)))),(58,(li (max 0 x4.2))),(59,(li i1))]) (fun (i1,d2)=>[.box 29 (zF d2)]) (fun n0 (i1,d2)=>zBL G x4 n0 i1 d2) (0,x3.1) h (fun _=>rfl) (zAd [1] rfl rfl (by kernel_rfl)) ?_
  clear h
  rintro n0 ⟨i1,d2⟩ h
  replace h:zBM G x4 (zBL G x4 n0) i1 d2=some r:=h
  unfold zBM at h
  refine zI<|zC<|zA (zj rfl rfl)<|zG<|zI ?_
  refine zY h rfl (fun b4 h => ?_) (fun b4 h => ?_)
  ·refine zU<|zI<|zV<|zI<|zC<|zA (zB rfl) ?_
   refine zA (zD rfl)<|zG<|zI<|zC<|zA (zD rfl)<|zG ?_
   refine zAA (r:=r) (fun (i2:Int)=>mkE [(2,(ls (cK .u8) G)),(7,(AV.ptr 0 0)),(10,(li x4.1)),(11,(li x4.2)),(12,(li (max 0 (min x4.1 x4.2)))),(13,(li i1)),(14,(li i2)),(58,(li (max 0 x4.2))),(59,(li i1))]) (fun i2=>[.box 29 (zF d2)]) (fun i2=>zBi (zBL G x4 n0) x4 i1 d2 i2) ?_ ?_
   ·
    refine zI<|zC<|zA (zB rfl)<|zA (zB rfl)<|zA (ze Try.underlying52 rfl)<|zA (zj rfl rfl) ?_
    refine zG ?_
    refine zY h rfl (fun b7 h => ?_) (fun b7 h => ?_)
    ·refine zC<|zA (zB rfl)<|zA (zB rfl)<|zM h fun b8 h=>zA (zm Try.underlying52 Try.sizeOf5 (fun _=>rfl) rfl rfl b8)<|zA (zp (o:=0) Try.isAgg5 rfl rfl) ?_
     refine zA (zF7 (k := .u8) (a:=at_ G i1) (b:=2) rfl rfl (by decide))<|zM h fun b9 h=>zA (zFB (k' := .i64) (a:=(at_ G i1).tmod 2) Try.underlying5 Try.underlying3 rfl b9)<|zA (zD rfl)<|zG ?_
     exact ⟨((at_ G i1).tmod 2),zAd [0] rfl rfl (by kernel_rfl),h⟩
    refine zU ?_
    exact ⟨0,zAd [0] rfl rfl (by kernel_rfl),h⟩
   clear h
   intro i2 h
   unfold zBi at h
   refine zI<|zC<|zA (zR (k:=0) (o:=0) (m:=5) Try.isAgg29 Try.sizeOf29 rfl rfl rfl rfl rfl)<|zA (zB rfl)<|zA (zB rfl)<|zA (zB rfl) ?_
   refine zA (zj rfl rfl)<|zQ h fun x6 w6 h=>zZ Try.func17 rfl (by kernel_rfl) (.fn 17) rfl rfl (zGa w6) rfl<|zA (zB rfl)<|zA (zS rfl rfl)<|zA (zS rfl rfl) ?_
   refine zA (zS rfl rfl)<|zX (H':=[.box 29 (zF d2),.box 29 (zF ⟨[],0,0,[],[]⟩)]) zv3<|za (H':=[.box 29 (zF d2),.box 29 (zF x6.1)]) (zT (k:=1) (o:=0) (cs:=(zF ⟨[],0,0,[],[]⟩)) (la:=(zF x6.1)) Try.sizeOf29 rfl rfl rfl rfl)<|zA (zD rfl)<|zA (zD rfl)<|zG ?_
   refine zI<|zI<|zC<|zA (zB rfl)<|zA (zy rfl rfl)<|zG ?_
   refine zY h rfl (fun b5 h => ?_) (fun b5 h => ?_)
   ·refine zI<|zC<|zA (zD rfl)<|zG<|zd ?_
    cases h
    exact zx (zAi rfl rfl)
   refine zU<|zC<|zA (zR (k:=1) (o:=0) (m:=5) Try.isAgg29 Try.sizeOf29 rfl rfl rfl rfl rfl)<|za (H':=[.box 29 (zF x6.1),.box 29 (zF x6.1)]) (zT (k:=0) (o:=0) (cs:=(zF d2)) (la:=(zF x6.1)) Try.sizeOf29 rfl rfl rfl rfl)<|zG<|zC ?_
   refine zM h fun b6 h=>zA (zi rfl rfl b6)<|zA (zB rfl)<|zG ?_
   exact ⟨((i1+1),x6.1),zAd [0] rfl rfl (by kernel_rfl),h⟩
  refine zAG ?_
  exact ⟨d2,zAd [0] rfl rfl (by kernel_rfl),h⟩
 clear h
 intro d1 h
 unfold zDW at h
 refine zI<|zC<|zA (zR (k:=0) (o:=0) (m:=5) Try.isAgg29 Try.sizeOf29 rfl rfl rfl rfl rfl)<|zQ h fun x5 w5 h=>zZ Try.func16 rfl (by kernel_rfl) (.fn 16) rfl rfl (zFM w5) rfl<|zA (zB rfl) ?_
 refine zA (zS rfl rfl)<|zA (zS rfl rfl)<|zA (zD rfl)<|zA (zD rfl)<|zG<|zI ?_
 refine zC<|zA (zB rfl)<|zA (zB rfl)<|zA (zMB (a:=x4.2) (b:=0) rfl rfl)<|zA (zBO rfl rfl)<|zA (zB rfl) ?_
 refine z5 rfl rfl (fun c9=>zv.step (zB rfl))<|z5 rfl rfl (fun c10=>zv.step (zB rfl))<|z5 rfl rfl (fun c11=>zv.step (zO7 (a:=x4.1) (b:=0) (zAM rfl c11) rfl))<|z5 rfl rfl (fun c12=>zv.step (zHG (zAM rfl c12) (zAM rfl c12)))<|zA (zAH (j := .lit undef) rfl rfl)<|zA (zD rfl) ?_
 refine zG<|zd ?_
 cases h
 exact zx (zAi rfl rfl)
end Go.Proofs.Ytplkliakhdkpcaa
namespace Go.Proofs.Ytplkliakhdkpcaa
open Go Go.RowKit Go.Am
theorem ex1 {m n:Nat} (h:m<n):∃ q,n=q+1:=⟨n - 1,by omega⟩
theorem z0i:(0:Int)=((0:Nat):Int):=rfl
def zBj (f:Int):Bool:=decide (0≤f)&&decide (f<256)
def inside (z:zW) (f:Int) (k:Nat):Bool :=
 decide (z.start≤f)&&decide (f.tmod (2 ^ k)=0)&&decide ((2:Int) ^ k≤z.count)&&decide (f≤z.start+z.count - 2 ^ k)
def ranges (z:zW):Bool :=
 decide (0≤z.node)&&decide (z.node<4)&&(decide (z.kind=0)||decide (z.kind=1))&&decide (0≤z.start)&&decide (z.start<256)&&decide (1≤z.count)&&decide (z.count≤256 - z.start)&&decide (0≤z.min)&&decide (z.min≤z.count)
def Srt (l:List Int):Prop:=l.Pairwise (· < ·)
def lb (l:List Int) (t:Int):Nat:=l.countP (fun x=>decide (x<t))
theorem Srt.nil:Srt []:=List.Pairwise.nil
theorem zJf {l:List Int} (h:Srt l) {i j:Nat} {x y:Int} (hi:l[i]?=some x) (hj:l[j]?=some y) (hij:i<j):x<y:=by
 obtain ⟨h1,rfl⟩:=List.getElem?_eq_some_iff.1 hi
 obtain ⟨h2,rfl⟩:=List.getElem?_eq_some_iff.1 hj
 exact List.pairwise_iff_getElem.1 h i j h1 h2 hij
theorem zZT {l:List Int} {t:Int}:∀ {i:Nat},i≤l.length→(∀ m x,m<i→l[m]?=some x→x<t)→(∀ m x,i≤m→l[m]?=some x→t≤x)→lb l t=i:=by
 induction l with
 | nil=>intro i hi _ _; simp at hi; simp [lb,hi]
 | cons a l ih =>
  intro i hi h1 h2
  unfold lb at *
  rw [List.countP_cons]
  cases i with
  | zero =>
   have ha:=h2 0 a (Nat.le_refl _) rfl
   have hz:=ih (i:=0) (Nat.zero_le _) (fun m x hm=>by omega) (fun m x _ hx=>h2 (m+1) x (by omega) hx)
   rw [hz]
   have:¬ a<t:=by omega
   simp [this]
  | succ i =>
   have ha:=h1 0 a (by omega) rfl
   have hz:=ih (i:=i) (by simp at hi; omega) (fun m x hm hx=>h1 (m+1) x (by omega) hx) (fun m x hm hx=>h2 (m+1) x (by omega) hx)
   rw [hz]
   simp [ha]
theorem zYO {l:List Int} {t:Int} {i:Nat} (h1:∀ m x,m<i→l[m]?=some x→x<t) (h2:∀ m x,i<m→l[m]?=some x→t<x):(t∈l)↔l[i]?=some t:=by
 constructor
 ·intro h
  obtain ⟨m,hm,rfl⟩:=List.getElem_of_mem h
  have hx:=List.getElem?_eq_getElem hm
  rcases Nat.lt_trichotomy m i with h | h | h
  ·have:=h1 m _ h hx; omega
  ·rw [← h]; exact hx
  ·have:=h2 m _ h hx; omega
 ·intro h; exact List.mem_of_getElem? h
theorem zVB {l:List Int} (hs:Srt l) {p:Nat} {x t:Int} (hx:l[p]?=some x) (h:x<t):∀ m y,m<p+1→l[m]?=some y→y<t:=by
 intro m y hm hy
 rcases Nat.lt_or_ge m p with hlt | hge
 ·have:=zJf hs hy hx hlt; omega
 ·have:m=p:=by omega
  subst this
  rw [hx] at hy; cases hy; exact h
theorem zUn {l:List Int} (hs:Srt l) {p:Nat} {x t:Int} (hx:l[p]?=some x) (h:¬ x<t):∀ m y,p≤m→l[m]?=some y→t≤y:=by
 intro m y hm hy
 rcases Nat.lt_or_ge p m with hlt | hge
 ·have:=zJf hs hx hy hlt; omega
 ·have:m=p:=by omega
  subst this
  rw [hx] at hy; cases hy; omega
theorem zY9 {l:List Int} {t:Int} {i:Nat} (h1:∀ m x,m<i→l[m]?=some x→x<t) (h:¬ i<l.length):(t∈l)↔False:=by
 constructor
 ·intro hm
  obtain ⟨m,hm',rfl⟩:=List.getElem_of_mem hm
  have:=h1 m _ (by omega) (List.getElem?_eq_getElem hm')
  omega
 ·exact False.elim
theorem zX1 {l:List Int} {t x:Int} {i:Nat} (hs:Srt l) (h1:∀ m x,m<i→l[m]?=some x→x<t) (h2:∀ m x,i≤m→l[m]?=some x→t≤x) (hx:l[i]?=some x):(t∈l)↔x=t:=by
 rw [zYO h1 (fun m y hm hy=>by
  have:=h2 i x (Nat.le_refl _) hx
  have:=zJf hs hx hy hm
  omega),hx]
 simp
def bud (f:Int) (k:Nat):Int:=((f.toNat ^^^ 2 ^ k:Nat):Int)
theorem zAx {z:zW} (h:ranges z=true):0≤z.node∧z.node<4∧(z.kind=0∨z.kind=1)∧0≤z.start∧z.start<256∧1≤z.count∧z.count≤256 - z.start∧0≤z.min∧z.min≤z.count:=by
 unfold ranges at h
 simp only [Bool.and_eq_true,Bool.or_eq_true,decide_eq_true_eq] at h
 omega
theorem zAO {z:zW} {f:Int} {k:Nat} (hz:ranges z=true) (h:inside z f k=true):0≤f∧f+2 ^ k≤256∧z.start≤f∧f+2 ^ k≤z.start+z.count∧f.tmod (2 ^ k)=0:=by
 have hb:=zAx hz
 unfold inside at h
 simp only [Bool.and_eq_true,decide_eq_true_eq] at h
 omega
theorem zWd {l:List Int}:∀ {a:Int},Srt l→(∀ f,f∈l→a≤f) → ∀ {i:Nat} {x:Int},l[i]?=some x→a+i≤x:=by
 induction l with
 | nil=>intro a _ _ i x hx; simp at hx
 | cons y l ih =>
  intro a hs ha i x hx
  cases i with
  | zero =>
   simp at hx; subst hx
   have:=ha y (by simp); simpa using this
  | succ i =>
   have hs':=List.pairwise_cons.1 hs
   have:=ih (a:=a+1) hs'.2 (fun f hf=>by have h1:=ha y (by simp); have h2:=hs'.1 f hf; omega) (i:=i) (x:=x) (by simpa using hx)
   omega
theorem zRG {l:List Int} (hs:Srt l) (h:∀ f,f∈l→0≤f∧f<256):l.length≤256:=by
 rcases Nat.eq_zero_or_pos l.length with h0 | h0
 ·omega
 ·have hl:l[l.length - 1]?=some l[l.length - 1]:=List.getElem?_eq_getElem (by omega)
  have h1:=zWd hs (fun f hf=>(h f hf).1) hl
  have h2:=(h _ (List.mem_of_getElem? hl)).2
  omega
def zSo (l:List Int) (t:Int):List Int:=l.take (lb l t)++t::l.drop (lb l t)
def lst (z:zW) (k:Nat):List Int:=z.free.getD k []
def zTW (z:zW) (k:Nat) (l:List Int):zW:={ z with free:=z.free.set k l }
def zMr (z:zW) (f:Int) (k:Nat):zW:=zTW z k (zSo (lst z k) f)
def zMD (z:zW) (f:Int) (k:Nat):zW:=zTW z k ((lst z k).eraseIdx (lb (lst z k) f))
def zKy (z:zW) (f:Int) (k:Nat):Bool:=decide (bud f k∈lst z k)&&inside z (min f (bud f k)) (k+1)
def zNY:Nat→zW→Int→Nat→zW
 | 0,z,f,k=>zMr z f k
 | n+1,z,f,k=>if zKy z f k=true then zNY n (zMD z (bud f k) k) (min f (bud f k)) (k+1) else zMr z f k
theorem zVb {z:zW} {k:Nat} {l:List Int} (h:z.free[k]?=some l):lst z k=l:=by simp [lst,h]
theorem zUX (l:List Int) (t:Int):lb l t≤l.length:=List.countP_le_length
theorem zX3 {l:List Int} {t:Int} (h:t∈l):lb l t<l.length:=by
 unfold lb
 rcases Nat.lt_or_ge (l.countP (fun x=>decide (x<t))) l.length with h1 | h1
 ·exact h1
 ·exfalso
  have:=List.countP_eq_length.1 (Nat.le_antisymm List.countP_le_length h1) t h
  simp at this
theorem zRu {l:List Int} {t x:Int}:x∈zSo l t↔x=t∨x∈l:=by
 unfold zSo
 have:x∈l↔x∈l.take (lb l t)∨x∈l.drop (lb l t):=by
  rw [← List.mem_append,List.take_append_drop]
 rw [List.mem_append,List.mem_cons,this]
 constructor
 ·rintro (h | h | h)
  ·exact .inr (.inl h)
  ·exact .inl h
  ·exact .inr (.inr h)
 ·rintro (h | h | h)
  ·exact .inr (.inl h)
  ·exact .inl h
  ·exact .inr (.inr h)
structure zSC (z:zW):Prop where
 ranges:ranges z=true
 len:z.free.length=5
 srt:∀ (k:Nat) (l:List Int),z.free[k]?=some l→Srt l
 bd:∀ (k:Nat) (l:List Int),z.free[k]?=some l → ∀ x,x∈l→0≤x∧x<256
theorem zSC.lenl {z:zW} (h:zSC z) {k:Nat} {l:List Int} (hl:z.free[k]?=some l):l.length≤256:=zRG (h.srt k l hl) (h.bd k l hl)
theorem zSC.del {z:zW} (h:zSC z) {k:Nat} {f:Int} {l:List Int} (hl:z.free[k]?=some l):zSC (zMD z f k):=by
 have hlst:=zVb hl
 refine ⟨h.ranges,by simpa [zMD,zTW] using h.len,?_,?_⟩
 ·intro j l' hl'
  simp only [zMD,zTW,List.getElem?_set] at hl'
  split at hl'
  ·split at hl'
   ·cases hl'
    rw [hlst]
    exact (h.srt k l hl).sublist (List.eraseIdx_sublist ..)
   ·cases hl'
  ·exact h.srt j l' hl'
 ·intro j l' hl' x hx
  simp only [zMD,zTW,List.getElem?_set] at hl'
  split at hl'
  ·split at hl'
   ·cases hl'
    rw [hlst] at hx
    exact h.bd k l hl x ((List.eraseIdx_sublist ..).subset hx)
   ·cases hl'
  ·exact h.bd j l' hl' x hx
theorem zWv:∀ k:Fin 4, ∀ x:Fin 256,x.val%2 ^ k.val=0→(x.val ^^^ 2 ^ k.val)=if x.val%2 ^ (k.val+1)=0 then x.val+2 ^ k.val else x.val - 2 ^ k.val:=by decide +kernel
theorem zAr {z:zW} (h:ranges z=true) {x:Int} {k:Nat}:inside z x k=true↔z.start≤x∧x%2 ^ k=0∧(2:Int) ^ k≤z.count∧x≤z.start+z.count - 2 ^ k:=by
 have hr:=zAx h
 unfold inside
 simp only [Bool.and_eq_true,decide_eq_true_eq]
 constructor
 ·rintro ⟨⟨⟨h1,h2⟩,h3⟩,h4⟩
  rw [Int.tmod_eq_emod_of_nonneg (by omega)] at h2
  exact ⟨h1,h2,h3,h4⟩
 ·rintro ⟨h1,h2,h3,h4⟩
  rw [← Int.tmod_eq_emod_of_nonneg (by omega)] at h2
  exact ⟨⟨⟨h1,h2⟩,h3⟩,h4⟩
theorem le4 {k:Nat} (h:k≤4):k=0∨k=1∨k=2∨k=3∨k=4:=by omega
theorem pw0:(2:Int) ^ 0=1:=rfl
theorem pw1:(2:Int) ^ 1=2:=rfl
theorem pw2:(2:Int) ^ 2=4:=rfl
theorem pw3:(2:Int) ^ 3=8:=rfl
theorem pw4:(2:Int) ^ 4=16:=rfl
theorem zMw {x:Int} {k:Nat} (hk:k<4) (h0:0≤x) (h1:x<256) (ha:x%2 ^ k=0):(x%2 ^ (k+1)=0∧bud x k=x+2 ^ k)∨(x%2 ^ (k+1)=2 ^ k∧bud x k=x - 2 ^ k):=by
 obtain ⟨m,rfl⟩:=Int.eq_ofNat_of_zero_le h0
 have hm:m<256:=by omega
 have h:=zWv ⟨k,hk⟩ ⟨m,hm⟩
 simp only at h
 have hb:bud (m:Int) k=((m ^^^ 2 ^ k:Nat):Int):=by simp [bud]
 have hk':k=0∨k=1∨k=2∨k=3:=by omega
 rw [hb]
 rcases hk' with rfl | rfl | rfl | rfl
 ·have:=h (by omega)
  simp only [Nat.reducePow,Nat.reduceAdd,pw0,pw1] at *
  split at this <;> omega
 ·simp only [Nat.reducePow,Nat.reduceAdd,pw1,pw2] at *
  have:=h (by omega)
  split at this <;> omega
 ·simp only [Nat.reducePow,Nat.reduceAdd,pw2,pw3] at *
  have:=h (by omega)
  split at this <;> omega
 ·simp only [Nat.reducePow,Nat.reduceAdd,pw3,pw4] at *
  have:=h (by omega)
  split at this <;> omega
theorem zZf {x y f:Int} {k j:Nat} (hkj:k≤j) (hj:j≤4) (hx:x%2 ^ k=0) (hy:y%2 ^ j=0) (h1:x≤f) (h2:f<x+2 ^ k) (h3:y≤f) (h4:f<y+2 ^ j):y≤x∧x+2 ^ k≤y+2 ^ j:=by
 rcases le4 hj with rfl | rfl | rfl | rfl | rfl <;> rcases le4 (Nat.le_trans hkj hj) with rfl | rfl | rfl | rfl | rfl <;> simp only [pw0,pw1,pw2,pw3,pw4] at * <;> omega
theorem zMn {z:zW} (h:z.free.length=5) {k:Nat} (hk:5≤k):lst z k=[]:=by
 unfold lst
 rw [List.getD_eq_getElem?_getD,List.getElem?_eq_none (by omega)]
 rfl
theorem zQv {z:zW} (h:z.free.length=5) {k j:Nat} (hk:k<5) {l:List Int}:lst (zTW z k l) j=if j=k then l else lst z j:=by
 unfold lst zTW
 simp only [List.getD_eq_getElem?_getD,List.getElem?_set]
 by_cases hj:k=j
 ·subst hj
  rw [if_pos rfl,if_pos rfl,if_pos (by omega)]
  rfl
 ·rw [if_neg hj,if_neg (fun e=>hj e.symm)]
theorem zJj {z:zW} (h:z.free.length=5) {k:Nat} (hk:k<5):z.free[k]?=some (lst z k):=by
 unfold lst
 rw [List.getD_eq_getElem?_getD,List.getElem?_eq_getElem (by omega)]
 rfl
def cov (z:zW) (f:Int):Prop := ∃ k x,x∈lst z k∧x≤f∧f<x+2 ^ k
structure OkZ (z:zW):Prop where
 ranges:ranges z=true
 len:z.free.length=5
 srt:∀ k,Srt (lst z k)
 ins:∀ k x,x∈lst z k→inside z x k=true
 dis:∀ k x j y f,x∈lst z k→y∈lst z j→x≤f→f<x+2 ^ k→y≤f→f<y+2 ^ j→k=j∧x=y
 can:∀ k x,k<4→x∈lst z k→bud x k∈lst z k→inside z (min x (bud x k)) (k+1)=false
section
variable {z z1 z2:zW}
theorem OkZ.le4 (h:OkZ z) {k:Nat} {x:Int} (hx:x∈lst z k):k≤4:=by
 rcases Nat.lt_or_ge k 5 with hk | hk
 ·omega
 ·rw [zMn h.len hk] at hx; cases hx
theorem OkZ.bds (h:OkZ z) {k:Nat} {x:Int} (hx:inside z x k=true):0≤x∧x+2 ^ k≤256∧z.start≤x∧x+2 ^ k≤z.start+z.count∧x%2 ^ k=0:=by
 have h1:=zAO h.ranges hx
 have h2:=(zAr h.ranges).1 hx
 exact ⟨h1.1,h1.2.1,h2.1,by omega,h2.2.1⟩
theorem zGI (k:Nat):(0:Int)<2 ^ k:=Int.pow_pos (by omega)
theorem zI9 (k:Nat):(2:Int) ^ (k+1)=2 ^ k+2 ^ k:=by rw [Int.pow_succ]; omega
theorem zQ9 {x:Int} {k:Nat} (h:x%2 ^ (k+1)=0):x%2 ^ k=0∧(x+2 ^ k)%2 ^ k=0:=by
 obtain ⟨c,rfl⟩:=Int.dvd_of_emod_eq_zero h
 rw [Int.pow_succ,Int.mul_assoc]
 constructor
 ·exact Int.mul_emod_right _ _
 ·rw [show (2:Int) ^ k*(2*c)+2 ^ k=2 ^ k*(2*c+1) by rw [Int.mul_add,Int.mul_one]]
  exact Int.mul_emod_right _ _
theorem OkZ.holder (h:OkZ z):∀ (k:Nat) (x:Int),k≤4→inside z x k=true→(∀ f,x≤f→f<x+2 ^ k→cov z f) → ∃ j y,k≤j∧y∈lst z j∧y≤x∧x+2 ^ k≤y+2 ^ j:=by
 intro k
 induction k with
 | zero =>
  intro x _ hi hc
  obtain ⟨j,y,hy,h1,h2⟩:=hc x (Int.le_refl _) (by rw [pw0]; omega)
  exact ⟨j,y,Nat.zero_le _,hy,h1,by rw [pw0]; omega⟩
 | succ k ih =>
  intro x hk hi hc
  have hb:=h.bds hi
  have hi':=(zAr h.ranges).1 hi
  have hal:=zQ9 hb.2.2.2.2
  have hp:=zI9 k
  have hp0:=zGI k
  have hin1:inside z x k=true:=(zAr h.ranges).2 ⟨by omega,hal.1,by omega,by omega⟩
  have hin2:inside z (x+2 ^ k) k=true:=(zAr h.ranges).2 ⟨by omega,hal.2,by omega,by omega⟩
  obtain ⟨j1,y1,a1,a2,a3,a4⟩:=ih x (by omega) hin1 (fun f h1 h2=>hc f h1 (by omega))
  obtain ⟨j2,y2,b1,b2,b3,b4⟩:=ih (x+2 ^ k) (by omega) hin2 (fun f h1 h2=>hc f (by omega) (by omega))
  have hj1:=h.le4 a2
  have hj2:=h.le4 b2
  have hy1:=(h.bds (h.ins _ _ a2)).2.2.2.2
  have hy2:=(h.bds (h.ins _ _ b2)).2.2.2.2
  by_cases hk1:k<j1
  ·obtain ⟨n1,n2⟩:=zZf (f:=x) (show k+1≤j1 by omega) hj1 hb.2.2.2.2 hy1 (Int.le_refl _) (by omega) a3 (by omega)
   exact ⟨j1,y1,by omega,a2,n1,n2⟩
  ·by_cases hk2:k<j2
   ·obtain ⟨n1,n2⟩:=zZf (f:=x+2 ^ k) (show k+1≤j2 by omega) hj2 hb.2.2.2.2 hy2 (by omega) (by omega) b3 (by omega)
    exact ⟨j2,y2,by omega,b2,n1,n2⟩
   ·exfalso
    have e1:j1=k:=by omega
    have e2:j2=k:=by omega
    subst e1
    subst e2
    have e3:y1=x:=by omega
    have e4:y2=x+2 ^ j2:=by omega
    subst e3
    subst e4
    have hbud:=zMw (x:=y1) (k:=j2) (by omega) (by omega) (by omega) hal.1
    rcases hbud with ⟨_,hb2⟩ | ⟨hb1,_⟩
    ·have:=h.can j2 y1 (by omega) a2 (by rw [hb2]; exact b2)
     rw [hb2,Int.min_eq_left (by omega),hi] at this
     cases this
    ·rw [hb.2.2.2.2] at hb1
     omega
theorem zQm:∀ {l m:List Int},Srt l→Srt m→(∀ x,x∈l↔x∈m)→l=m
 | [],[],_,_,_=>rfl
 | [],b::m,_,_,h=>by have:=(h b).2 (by simp); cases this
 | a::l,[],_,_,h=>by have:=(h a).1 (by simp); cases this
 | a::l,b::m,hl,hm,h=>by
  have ha:=List.pairwise_cons.1 hl
  have hb:=List.pairwise_cons.1 hm
  have hab:a=b:=by
   have h1:=(h a).1 (by simp)
   have h2:=(h b).2 (by simp)
   rcases List.mem_cons.1 h1 with e | e
   ·exact e
   ·rcases List.mem_cons.1 h2 with e2 | e2
    ·exact e2.symm
    ·have:=hb.1 a e
     have:=ha.1 b e2
     omega
  subst hab
  congr 1
  refine zQm ha.2 hb.2 (fun x => ?_)
  constructor
  ·intro hx
   rcases List.mem_cons.1 ((h x).1 (by simp [hx])) with e | e
   ·have:=ha.1 x hx; omega
   ·exact e
  ·intro hx
   rcases List.mem_cons.1 ((h x).2 (by simp [hx])) with e | e
   ·have:=hb.1 x hx; omega
   ·exact e
theorem OkZ.sub (h1:OkZ z1) (h2:OkZ z2) (hp:∀ x k,inside z1 x k=inside z2 x k) (hc:∀ f,cov z1 f↔cov z2 f):∀ k x,x∈lst z1 k→x∈lst z2 k:=by
 intro k x hx
 have hk:=h1.le4 hx
 have hi:=h1.ins k x hx
 have hp0:=zGI k
 obtain ⟨j,y,a1,a2,a3,a4⟩:=h2.holder k x hk (by rw [← hp]; exact hi) (fun f g1 g2=>(hc f).1 ⟨k,x,hx,g1,g2⟩)
 have hj:=h2.le4 a2
 have hiy:=h2.ins j y a2
 obtain ⟨i,u,b1,b2,b3,b4⟩:=h1.holder j y hj (by rw [hp]; exact hiy) (fun f g1 g2=>(hc f).2 ⟨j,y,a2,g1,g2⟩)
 obtain ⟨e1,e2⟩:=h1.dis k x i u x hx b2 (Int.le_refl _) (by omega) (by omega) (by omega)
 subst e2
 have e3:j=k:=by omega
 subst e3
 have e4:y=x:=by omega
 rw [← e4]
 exact a2
theorem OkZ.ext (h1:OkZ z1) (h2:OkZ z2) (e1:z1.node=z2.node) (e2:z1.kind=z2.kind) (e3:z1.start=z2.start) (e4:z1.count=z2.count) (e5:z1.min=z2.min) (hc:∀ f,cov z1 f↔cov z2 f):z1=z2:=by
 have hp:∀ x k,inside z1 x k=inside z2 x k:=fun x k=>by unfold inside; rw [e3,e4]
 have hl:∀ k,lst z1 k=lst z2 k:=fun k=>zQm (h1.srt k) (h2.srt k) (fun x=>⟨h1.sub h2 hp hc k x,h2.sub h1 (fun x k=>(hp x k).symm) (fun f=>(hc f).symm) k x⟩)
 have hf:z1.free=z2.free:=by
  apply List.ext_getElem?
  intro k
  rcases Nat.lt_or_ge k 5 with hk | hk
  ·rw [zJj h1.len hk,zJj h2.len hk,hl]
  ·rw [List.getElem?_eq_none (by have:=h1.len; omega),List.getElem?_eq_none (by have:=h2.len; omega)]
 cases z1; cases z2
 simp_all
end
theorem zTH (a:Int) (l:List Int) (t:Int):lb (a::l) t=lb l t+if a<t then 1 else 0:=by
 unfold lb
 rw [List.countP_cons]
 simp
theorem zQl {l:List Int} {t:Int} (h:∀ x,x∈l→t≤x):lb l t=0:=by
 unfold lb
 rw [List.countP_eq_zero]
 intro x hx
 have:=h x hx
 simp
 omega
theorem zTL {a:Int} {l:List Int} {t:Int} (hs:Srt (a::l)):zSo (a::l) t=if a<t then a::zSo l t else t::a::l:=by
 unfold zSo
 rw [zTH]
 have ha:=List.pairwise_cons.1 hs
 by_cases h:a<t
 ·simp [h]
 ·have:lb l t=0:=zQl (fun x hx=>by have:=ha.1 x hx; omega)
  simp [h,this]
theorem zRe:∀ {l:List Int} {t:Int},Srt l→t ∉ l→Srt (zSo l t)
 | [],t,_,_=>by simp [zSo,lb,Srt]
 | a::l,t,hs,hn=>by
  have ha:=List.pairwise_cons.1 hs
  rw [zTL hs]
  simp only [List.mem_cons,not_or] at hn
  by_cases h:a<t
  ·rw [if_pos h]
   refine List.pairwise_cons.2 ⟨fun x hx => ?_,zRe ha.2 hn.2⟩
   rcases zRu.1 hx with rfl | hx
   ·exact h
   ·exact ha.1 x hx
  ·rw [if_neg h]
   refine List.pairwise_cons.2 ⟨fun x hx => ?_,hs⟩
   rcases List.mem_cons.1 hx with rfl | hx
   ·omega
   ·have:=ha.1 x hx; omega
theorem zVg:∀ {l:List Int} {t:Int},Srt l→t∈l→l[lb l t]?=some t
 | [],_,_,h=>by cases h
 | a::l,t,hs,h=>by
  have ha:=List.pairwise_cons.1 hs
  rw [zTH]
  rcases List.mem_cons.1 h with rfl | h
  ·have:lb l t=0:=zQl (fun x hx=>by have:=ha.1 x hx; omega)
   simp [this]
  ·have:=ha.1 t h
   simp [this,zVg ha.2 h]
theorem zYn {l:List Int} {t x:Int} (hs:Srt l) (ht:t∈l):x∈l.eraseIdx (lb l t)↔x∈l∧x≠t:=by
 have hg:=zVg hs ht
 rw [List.mem_eraseIdx_iff_getElem?]
 constructor
 ·rintro ⟨i,hi,hx⟩
  refine ⟨List.mem_of_getElem? hx,?_⟩
  rintro rfl
  rcases Nat.lt_or_gt_of_ne hi with h | h
  ·have:=zJf hs hx hg h; omega
  ·have:=zJf hs hg hx h; omega
 ·rintro ⟨hx,hne⟩
  obtain ⟨i,hi,he⟩:=List.getElem_of_mem hx
  have hxi:l[i]?=some x:=by rw [List.getElem?_eq_getElem hi,he]
  refine ⟨i,?_,hxi⟩
  intro e
  rw [e,hg] at hxi
  exact hne (Option.some.inj hxi).symm
theorem zXs {l:List Int} {i:Nat} (hs:Srt l):Srt (l.eraseIdx i):=hs.sublist (List.eraseIdx_sublist ..)
def zEa (a b:zW):Prop:=a.node=b.node∧a.kind=b.kind∧a.start=b.start∧a.count=b.count∧a.min=b.min
theorem zEa.inside {a b:zW} (h:zEa a b) (x:Int) (k:Nat):inside a x k=inside b x k:=by unfold Go.Proofs.Ytplkliakhdkpcaa.inside; rw [h.2.2.1,h.2.2.2.1]
theorem zEa.ranges {a b:zW} (h:zEa a b):ranges a=ranges b:=by unfold Go.Proofs.Ytplkliakhdkpcaa.ranges; rw [h.1,h.2.1,h.2.2.1,h.2.2.2.1,h.2.2.2.2]
theorem zP9 (z:zW) (k:Nat) (l:List Int):zEa (zTW z k l) z:=⟨rfl,rfl,rfl,rfl,rfl⟩
theorem zEa.trans {a b c:zW} (h:zEa a b) (g:zEa b c):zEa a c:=⟨h.1.trans g.1,h.2.1.trans g.2.1,h.2.2.1.trans g.2.2.1,h.2.2.2.1.trans g.2.2.2.1,h.2.2.2.2.trans g.2.2.2.2⟩
theorem zWi {x:Int} (k:Nat) (h:0≤x):bud (bud x k) k=x:=by
 unfold bud
 rw [Int.toNat_natCast,Nat.xor_assoc,Nat.xor_self,Nat.xor_zero,Int.toNat_of_nonneg h]
section
variable {z:zW}
theorem OkZ.del (h:OkZ z) {k:Nat} {x:Int} (hx:x∈lst z k):OkZ (zMD z x k)∧(∀ f,cov (zMD z x k) f↔cov z f ∧ ¬ (x≤f∧f<x+2 ^ k))∧zEa (zMD z x k) z:=by
 have hk:=h.le4 hx
 have hsame:zEa (zMD z x k) z:=zP9 z k ((lst z k).eraseIdx (lb (lst z k) x))
 have hls:∀ j,lst (zMD z x k) j=if j=k then (lst z k).eraseIdx (lb (lst z k) x) else lst z j:=fun j=>zQv h.len (by omega)
 have hm:∀ j y,y∈lst (zMD z x k) j↔y∈lst z j ∧ ¬ (j=k∧y=x):=by
  intro j y
  rw [hls]
  by_cases hj:j=k
  ·subst hj
   rw [if_pos rfl,zYn (h.srt j) hx]
   simp
  ·rw [if_neg hj]
   simp [hj]
 refine ⟨⟨by rw [← h.ranges]; exact hsame.ranges,by simpa [zMD,zTW] using h.len,?_,?_,?_,?_⟩,?_,hsame⟩
 ·intro j
  rw [hls]
  split
  ·exact zXs (h.srt k)
  ·exact h.srt j
 ·intro j y hy
  rw [hsame.inside]
  exact h.ins j y ((hm j y).1 hy).1
 ·intro j y i u f hy hu
  exact h.dis j y i u f ((hm j y).1 hy).1 ((hm i u).1 hu).1
 ·intro j y hj hy hb
  rw [hsame.inside]
  exact h.can j y hj ((hm j y).1 hy).1 ((hm j _).1 hb).1
 ·intro f
  constructor
  ·rintro ⟨j,y,hy,h1,h2⟩
   have hy':=(hm j y).1 hy
   refine ⟨⟨j,y,hy'.1,h1,h2⟩,fun hf=>hy'.2 (h.dis j y k x f hy'.1 hx h1 h2 hf.1 hf.2)⟩
  ·rintro ⟨⟨j,y,hy,h1,h2⟩,hf⟩
   refine ⟨j,y,(hm j y).2 ⟨hy,?_⟩,h1,h2⟩
   rintro ⟨rfl,rfl⟩
   exact hf ⟨h1,h2⟩
theorem OkZ.insert (h:OkZ z) {k:Nat} {f:Int} (hk:k≤4) (hi:inside z f k=true) (hf:∀ g,f≤g→g<f+2 ^ k → ¬ cov z g) (hj:k<4→zKy z f k=false):OkZ (zMr z f k)∧(∀ g,cov (zMr z f k) g↔cov z g∨(f≤g∧g<f+2 ^ k))∧zEa (zMr z f k) z:=by
 have hsame:zEa (zMr z f k) z:=zP9 z k (zSo (lst z k) f)
 have hp:=zGI k
 have hb:=h.bds hi
 have hn:f ∉ lst z k:=fun hm=>hf f (Int.le_refl _) (by omega) ⟨k,f,hm,Int.le_refl _,by omega⟩
 have hls:∀ j,lst (zMr z f k) j=if j=k then zSo (lst z k) f else lst z j:=fun j=>zQv h.len (by omega)
 have hm:∀ j y,y∈lst (zMr z f k) j↔y∈lst z j∨(j=k∧y=f):=by
  intro j y
  rw [hls]
  by_cases hjk:j=k
  ·subst hjk
   rw [if_pos rfl,zRu]
   simp
   exact Or.comm
  ·rw [if_neg hjk]
   simp [hjk]
 refine ⟨⟨by rw [← h.ranges]; exact hsame.ranges,by simpa [zMr,zTW] using h.len,?_,?_,?_,?_⟩,?_,hsame⟩
 ·intro j
  rw [hls]
  split
  ·exact zRe (h.srt k) hn
  ·exact h.srt j
 ·intro j y hy
  rw [hsame.inside]
  rcases (hm j y).1 hy with hy | ⟨rfl,rfl⟩
  ·exact h.ins j y hy
  ·exact hi
 ·intro j y i u g hy hu h1 h2 h3 h4
  rcases (hm j y).1 hy with hy' | ⟨e1,e2⟩
  ·rcases (hm i u).1 hu with hu' | ⟨e3,e4⟩
   ·exact h.dis j y i u g hy' hu' h1 h2 h3 h4
   ·rw [e4] at h3 h4
    rw [e3] at h4
    exact absurd ⟨j,y,hy',h1,h2⟩ (hf g h3 h4)
  ·rw [e2] at h1 h2
   rw [e1] at h2
   rcases (hm i u).1 hu with hu' | ⟨e3,e4⟩
   ·exact absurd ⟨i,u,hu',h3,h4⟩ (hf g h1 h2)
   ·exact ⟨e1.trans e3.symm,e2.trans e4.symm⟩
 ·intro j y hj4 hy hbu
  rw [hsame.inside]
  have hno:∀ y,y∈lst z k→bud y k=f→k<4→inside z (min y (bud y k)) (k+1)=false:=by
   intro y hy he h4
   have hy0:=(h.bds (h.ins k y hy)).1
   have e2:bud f k=y:=by rw [← he,zWi k hy0]
   have:=hj h4
   unfold zKy at this
   rw [e2] at this
   rw [he,Int.min_comm]
   simpa [hy] using this
  rcases (hm j y).1 hy with hy' | ⟨rfl,rfl⟩
  ·rcases (hm j _).1 hbu with hbu' | ⟨e1,hbu'⟩
   ·exact h.can j y hj4 hy' hbu'
   ·rw [e1] at hy' hbu' hj4 ⊢
    exact hno y hy' hbu' hj4
  ·rcases (hm j _).1 hbu with hbu | ⟨_,hbu⟩
   ·have:=hj hj4
    unfold zKy at this
    simpa [hbu] using this
   ·exfalso
    rcases zMw hj4 hb.1 (by omega) hb.2.2.2.2 with ⟨_,e⟩ | ⟨_,e⟩ <;> omega
 ·intro g
  constructor
  ·rintro ⟨j,y,hy,h1,h2⟩
   rcases (hm j y).1 hy with hy | ⟨rfl,rfl⟩
   ·exact .inl ⟨j,y,hy,h1,h2⟩
   ·exact .inr ⟨h1,h2⟩
  ·rintro (⟨j,y,hy,h1,h2⟩ | ⟨h1,h2⟩)
   ·exact ⟨j,y,(hm j y).2 (.inl hy),h1,h2⟩
   ·exact ⟨k,f,(hm k f).2 (.inr ⟨rfl,rfl⟩),h1,h2⟩
theorem OkZ.put:∀ (n:Nat) {z:zW} {f:Int} {k:Nat},n+k=4→OkZ z→inside z f k=true→(∀ g,f≤g→g<f+2 ^ k → ¬ cov z g) →
  OkZ (zNY n z f k)∧(∀ g,cov (zNY n z f k) g↔cov z g∨(f≤g∧g<f+2 ^ k))∧zEa (zNY n z f k) z
 | 0,z,f,k,hn,h,hi,hf=>h.insert (by omega) hi hf (fun h4=>by omega)
 | n+1,z,f,k,hn,h,hi,hf=>by
  unfold zNY
  by_cases hj:zKy z f k=true
  ·rw [if_pos hj]
   unfold zKy at hj
   simp only [Bool.and_eq_true,decide_eq_true_eq] at hj
   obtain ⟨hb,hi2⟩:=hj
   obtain ⟨d1,d2,d3⟩:=h.del hb
   have hbd:=h.bds hi
   have hbb:=h.bds (h.ins k _ hb)
   have hp:=zGI k
   have hps:=zI9 k
   have hcase:=zMw (k:=k) (by omega) hbd.1 (by omega) hbd.2.2.2.2
   obtain ⟨r1,r2,r3⟩:=OkZ.put n (k:=k+1) (by omega) d1 (by rw [d3.inside]; exact hi2) (fun g g1 g2 hc=>by
    have hc':=(d2 g).1 hc
    by_cases hin:f≤g∧g<f+2 ^ k
    ·exact hf g hin.1 hin.2 hc'.1
    ·apply hc'.2
     rcases hcase with ⟨_,e⟩ | ⟨_,e⟩
     ·rw [e] at g1 g2 ⊢
      omega
     ·rw [e] at g1 g2 ⊢
      omega)
   refine ⟨r1,fun g => ?_,r3.trans d3⟩
   rw [r2 g,d2 g]
   have hcb:(bud f k≤g∧g<bud f k+2 ^ k)→cov z g:=fun hg=>⟨k,_,hb,hg.1,hg.2⟩
   rcases hcase with ⟨_,e⟩ | ⟨_,e⟩
   ·rw [e] at hcb ⊢
    constructor
    ·rintro (⟨h1,_⟩ | h1)
     ·exact .inl h1
     ·by_cases hin:f≤g∧g<f+2 ^ k
      ·exact .inr hin
      ·exact .inl (hcb (by omega))
    ·rintro (h1 | h1)
     ·by_cases hin:f+2 ^ k≤g∧g<f+2 ^ k+2 ^ k
      ·exact .inr (by omega)
      ·exact .inl ⟨h1,hin⟩
     ·exact .inr (by omega)
   ·rw [e] at hcb ⊢
    constructor
    ·rintro (⟨h1,_⟩ | h1)
     ·exact .inl h1
     ·by_cases hin:f≤g∧g<f+2 ^ k
      ·exact .inr hin
      ·exact .inl (hcb (by omega))
    ·rintro (h1 | h1)
     ·by_cases hin:f - 2 ^ k≤g∧g<f - 2 ^ k+2 ^ k
      ·exact .inr (by omega)
      ·exact .inl ⟨h1,hin⟩
     ·exact .inr (by omega)
  ·rw [if_neg hj]
   exact h.insert (by omega) hi hf (fun _=>by simpa using hj)
theorem OkZ.putI (h:OkZ z):zSC z:=by
 have hl:∀ (k:Nat) (l:List Int),z.free[k]?=some l→l=lst z k:=fun k l hl=>by
  have hk:k<5:=by have:=(List.getElem?_eq_some_iff.1 hl).1; rw [h.len] at this; exact this
  rw [zJj h.len hk] at hl
  cases hl
  rfl
 refine ⟨h.ranges,h.len,fun k l hkl => ?_,fun k l hkl x hx => ?_⟩
 ·rw [hl k l hkl]; exact h.srt k
 ·rw [hl k l hkl] at hx
  have:=h.bds (h.ins k x hx)
  have:=zGI k
  omega
end
def zL4 (node kind start count least:Int):zW:=⟨node,kind,start,count,least,[[],[],[],[],[]]⟩
def zM4 (z:zW):Nat→zW
 | 0=>z
 | i+1=>zNY 4 (zM4 z i) (z.start+i) 0
theorem zQK {z:zW} (hf:z.free=[[],[],[],[],[]]) (k:Nat):lst z k=[]:=by
 unfold lst
 rw [hf]
 match k with
 | 0=>rfl
 | 1=>rfl
 | 2=>rfl
 | 3=>rfl
 | 4=>rfl
 | k+5=>rfl
theorem zOB {z:zW} (hr:ranges z=true) (hf:z.free=[[],[],[],[],[]]):OkZ z ∧ ∀ g,¬ cov z g:=by
 have hl:=zQK hf
 refine ⟨⟨hr,by rw [hf]; rfl,fun k=>by rw [hl]; exact Srt.nil,(fun k x hx=>by rw [hl] at hx; cases hx),(fun k x j y f hx=>by rw [hl] at hx; cases hx),(fun k x _ hx=>by rw [hl] at hx; cases hx)⟩,?_⟩
 rintro g ⟨k,x,hx,_⟩
 rw [hl] at hx
 cases hx
theorem zQ6 {z:zW} (hr:ranges z=true) (hf:z.free=[[],[],[],[],[]]):∀ i:Nat,(i:Int)≤z.count→OkZ (zM4 z i)∧(∀ g,cov (zM4 z i) g↔z.start≤g∧g<z.start+i)∧zEa (zM4 z i) z
 | 0,_=>⟨(zOB hr hf).1,fun g=>⟨fun h=>absurd h ((zOB hr hf).2 g),fun h=>by omega⟩,⟨rfl,rfl,rfl,rfl,rfl⟩⟩
 | i+1,hi=>by
  obtain ⟨h1,h2,h3⟩:=zQ6 hr hf i (by omega)
  have hrb:=zAx hr
  have hin:inside (zM4 z i) (z.start+i) 0=true:=by
   rw [h3.inside,zAr hr]
   simp only [pw0]
   omega
  obtain ⟨p1,p2,p3⟩:=OkZ.put 4 (k:=0) rfl h1 hin (fun g g1 g2 hc=>by
   have:=(h2 g).1 hc
   rw [pw0] at g2
   omega)
  refine ⟨p1,fun g => ?_,p3.trans h3⟩
  show cov (zNY 4 (zM4 z i) (z.start+i) 0) g↔_
  rw [p2 g,h2 g,pw0]
  omega
theorem zW3 {z:zW} (hr:ranges z=true) (hf:z.free=[[],[],[],[],[]]) {i:Nat} (hi:(i:Int)<z.count):zSC (zM4 z i)∧inside (zM4 z i) (z.start+i) 0=true:=by
 obtain ⟨h1,h2,h3⟩:=zQ6 hr hf i (by omega)
 refine ⟨h1.putI,?_⟩
 have hrb:=zAx hr
 rw [h3.inside,zAr hr]
 simp only [pw0]
 omega
def zYW:zW:=⟨0,0,0,0,0,[[],[],[],[],[]]⟩
def zTj (node kind start count least:Int):zW×Int:=if ranges (zL4 node kind start count least)=true then (zM4 (zL4 node kind start count least) count.toNat,0) else (zYW,2)
end Go.Proofs.Ytplkliakhdkpcaa
