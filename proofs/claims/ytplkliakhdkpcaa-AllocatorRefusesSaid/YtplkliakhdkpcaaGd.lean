/-
  Rules, functions and laws for the last text, part d.
-/
import Derived.Test.YtplkliakhdkpcaaGc
set_option linter.unusedVariables false
set_option linter.unusedSimpArgs false
namespace Go.Proofs.Ytplkliakhdkpcaa
open Go Go.RowKit Go.Wk Go.Am Go.Proofs
set_option maxHeartbeats 4000000
theorem zLI {A:zW} {B:Int} {r:zW×Int×Int} (h:zG0 A B=some r):PFn Try.prog 48 [(AV.agg (zO A)),li B] (AV.tup [(AV.agg (zO r.1)),li r.2.1,li r.2.2]):=by
 refine zq Try.func48 rfl Try.ntmps48 Try.results48 rfl ?_
 unfold zG0 at h
 refine zI<|zC<|zX (H':=[.box 46 (zO A)]) (z6 (t:=46) rfl)<|zX (H':=[.box 46 (zO A),.box 46 (zO ⟨0,0,0,0,0,(List.replicate 5 ([]:List Int))⟩)]) zv0<|zA (zD rfl)<|zA (zD rfl) ?_
 refine zG<|zI<|zI<|zC<|zA (zR (k:=0) (o:=0) (m:=10) Try.isAgg46 Try.sizeOf46 rfl rfl rfl rfl rfl)<|zQ h fun x1 w1 h => ?_
 refine zZ Try.func36 rfl (by kernel_rfl) (.fn 36) rfl rfl (zED w1) rfl<|zA (zD rfl)<|zG<|zI<|zC<|zA (zB rfl) ?_
 refine zA (z5 rfl rfl)<|zG ?_
 refine zY h rfl (fun b1 h => ?_) (fun b1 h => ?_)
 ·refine zI<|zC<|zA zv9<|zA (zB rfl)<|za (H':=[.box 46 (zO A),.box 46 (zO (⟨0,0,0,0,0,(List.replicate 5 ([]:List Int))⟩:zW))]) (zS (k:=1) (o:=0) (cs:=(zO ⟨0,0,0,0,0,(List.replicate 5 ([]:List Int))⟩)) (la:=(zO (⟨0,0,0,0,0,(List.replicate 5 ([]:List Int))⟩:zW))) Try.sizeOf46 rfl rfl rfl rfl)<|zA (zD rfl) ?_
  refine zA (zD rfl)<|zG<|zb ?_
  cases h
  exact zEE (zF9 Try.isAgg46 Try.sizeOf46 rfl rfl rfl rfl) (zAh rfl rfl) (zAh rfl rfl) rfl
 refine zU<|zI<|zI<|zC<|zA (zB rfl)<|zA (zp rfl rfl) ?_
 refine zA (zB rfl)<|zd rfl rfl (fun c1=>zv.step (zB rfl))<|zd rfl rfl (fun c2=>zv.step (zCQ (zAJ rfl c2) rfl))<|zA (zh rfl rfl)<|zG ?_
 refine zY h rfl (fun b2 h => ?_) (fun b2 h => ?_)
 ·refine zI<|zC<|zA zv9<|za (H':=[.box 46 (zO A),.box 46 (zO (⟨0,0,0,0,0,(List.replicate 5 ([]:List Int))⟩:zW))]) (zS (k:=1) (o:=0) (cs:=(zO ⟨0,0,0,0,0,(List.replicate 5 ([]:List Int))⟩)) (la:=(zO (⟨0,0,0,0,0,(List.replicate 5 ([]:List Int))⟩:zW))) Try.sizeOf46 rfl rfl rfl rfl)<|zA (zD rfl)<|zA (zD rfl) ?_
  refine zG<|zb ?_
  cases h
  exact zEE (zF9 Try.isAgg46 Try.sizeOf46 rfl rfl rfl rfl) (zAh rfl rfl) (zAh rfl rfl) rfl
 refine zU<|zI<|zC<|zA (zB rfl)<|zA (zD rfl)<|zG ?_
 refine zAB (r:=r) (fun (i1:Int)=>mkE [(1,(li B)),(2,(AV.ptr 0 0)),(4,(AV.ptr 1 0)),(8,(li i1))]) (fun i1=>[.box 46 (zO A),.box 46 (zO ⟨0,0,0,0,0,(List.replicate 5 ([]:List Int))⟩)]) (fun i1=>zF8 A B i1) ?_ ?_
 ·
  refine zV<|zAA (σ:=Int) (fun i3=>mkE [(1,(li B)),(2,(AV.ptr 0 0)),(4,(AV.ptr 1 0)),(8,(li i3))]) (fun i3=>[.box 46 (zO A),.box 46 (zO ⟨0,0,0,0,0,(List.replicate 5 ([]:List Int))⟩)]) (fun n1 i3=>zF0 A B n1 i3) B h (fun _=>rfl) (zAf [0,1] rfl rfl (by kernel_rfl)) ?_
  clear h
  intro n1 i3 h
  replace h:zD2 A B (zF0 A B n1) i3=some r:=h
  unfold zD2 at h
  refine zI<|zI<|zC<|zA (zB rfl)<|zA (zH1 rfl rfl)<|zA (zB rfl) ?_
  refine zw rfl rfl (fun c3=>zv.step (zB rfl))<|zw rfl rfl (fun c4=>zv.step (zL Try.underlying46 rfl rfl Try.sizeOf44 rfl))<|zM h fun b17 h=>zw rfl rfl (fun c5=>zv.step (zAa (m:=5) (s:=1) (i:=i3) (k:=0) (o:=5) Try.underlying44 Try.sizeOf22 (zAJ rfl c5) (zAJ rfl c5) (zJb b17 c5)))<|zw rfl rfl (fun c6=>zv.step (zDA (k:=0) (o:=(5+i3.toNat*1)) (cs:=(zO A)) (hd:=([li A.node]++[li A.kind]++[li A.start]++[li A.count]++[li A.min]++[])) (tl:=([])) (g:=(eS cI)) (d0:=([]:List Int)) (l:=A.free) (N:=5) (i:=i3.toNat) (a:=(ls cI (A.free.getD i3.toNat ([]:List Int)))) Try.isAgg22 (zAJ rfl c6) rfl rfl (congrArg (fun q=>5+q) (Nat.mul_one _)) (zCZ (zJb b17 c6)).2 rfl rfl))<|zw rfl rfl (fun c7=>zv.step (zf Try.underlying22 (zAJ rfl c7))) ?_
  refine zw rfl rfl (fun c8=>zv.step (zBG (zAJ rfl c8) rfl))<|zA (z8 (j := .lit undef) rfl rfl)<|zG ?_
  refine zY h rfl (fun b18 h => ?_) (fun b18 h => ?_)
  ·refine zU<|zV<|zC<|zA (zB rfl)<|zM h fun b19 h=>zA (zi rfl rfl b19) ?_
   refine zA (zD rfl)<|zG ?_
   exact ⟨(i3+1),zAf [0,1] rfl rfl (by kernel_rfl),h⟩
  refine zAH ?_
  exact ⟨i3,zAf [0,1] rfl rfl (by kernel_rfl),h⟩
 clear h
 intro i1 h
 unfold zF8 at h
 refine zI<|zI<|zC<|zA (zB rfl)<|zA (zCQ rfl rfl)<|zG ?_
 refine zY h rfl (fun b3 h => ?_) (fun b3 h => ?_)
 ·refine zI<|zC<|zA zv9<|za (H':=[.box 46 (zO A),.box 46 (zO (⟨0,0,0,0,0,(List.replicate 5 ([]:List Int))⟩:zW))]) (zS (k:=1) (o:=0) (cs:=(zO ⟨0,0,0,0,0,(List.replicate 5 ([]:List Int))⟩)) (la:=(zO (⟨0,0,0,0,0,(List.replicate 5 ([]:List Int))⟩:zW))) Try.sizeOf46 rfl rfl rfl rfl)<|zA (zD rfl)<|zA (zD rfl) ?_
  refine zG<|zb ?_
  cases h
  exact zEE (zF9 Try.isAgg46 Try.sizeOf46 rfl rfl rfl rfl) (zAh rfl rfl) (zAh rfl rfl) rfl
 refine zU<|zI<|zC<|zA (zR (k:=0) (o:=0) (m:=10) Try.isAgg46 Try.sizeOf46 rfl rfl rfl rfl rfl)<|zQ h fun x2 w2 h=>zHY (cs:=([li x2.node,li x2.kind,li x2.start,li x2.count,li x2.min]++((cM 5 3 (5:Int) x2.free)++[]))) (la:=[(AV.agg (zO A))]) (la':=[(AV.agg (zO A))]) (S:=[]) Try.func82 rfl (by kernel_rfl) (.fn 82) rfl ⟨zA8.nr rfl,trivial⟩ (zI0 w2) (.inl rfl) ?_
 refine zX (H':=[.box 46 (zO A),.box 46 (zO ⟨0,0,0,0,0,(List.replicate 5 ([]:List Int))⟩),.val (.agg ([li x2.node,li x2.kind,li x2.start,li x2.count,li x2.min]++((cM 5 3 (5:Int) x2.free)++[]))),.box 46 (zO ⟨0,0,0,0,0,(List.replicate 5 ([]:List Int))⟩)]) zv0<|za (H':=[.box 46 (zO A),.box 46 (zO ⟨0,0,0,0,0,(List.replicate 5 ([]:List Int))⟩),.dead,.box 46 ([li x2.node,li x2.kind,li x2.start,li x2.count,li x2.min]++((cM 5 3 (5:Int) x2.free)++[]))]) (zDz (k:=3) (o:=0) (j:=2) (cs:=(zO ⟨0,0,0,0,0,(List.replicate 5 ([]:List Int))⟩)) (la:=([li x2.node,li x2.kind,li x2.start,li x2.count,li x2.min]++((cM 5 3 (5:Int) x2.free)++[]))) Try.sizeOf46 rfl rfl rfl rfl rfl (by decide))<|zG<|zI<|zC<|zA (zB rfl) ?_
 refine zA (zL Try.underlying46 rfl rfl Try.sizeOf44 rfl)<|zM h fun b4 h=>zA (zAa (m:=5) (s:=1) (i:=i1) (k:=3) (o:=5) Try.underlying44 Try.sizeOf22 rfl rfl b4)<|zM h fun b5 h=>zAG (zIa (k:=3) (cs:=([li x2.node,li x2.kind,li x2.start,li x2.count,li x2.min]++((cM 5 3 (5:Int) x2.free)++[]))) (hd:=([li x2.node]++[li x2.kind]++[li x2.start]++[li x2.count]++[li x2.min]++[])) (tl:=([])) (N:=5) (T:=3) (K:=5) (l:=x2.free) (i:=i1) rfl rfl b4 b5)<|zA (zDE (k:=3) (o:=(5+i1.toNat*1)) (cs:=([li x2.node,li x2.kind,li x2.start,li x2.count,li x2.min]++((List.set (cM 5 3 (5:Int) x2.free) i1.toNat (AV.hd 4))++[]))) (hd:=([li x2.node]++[li x2.kind]++[li x2.start]++[li x2.count]++[li x2.min]++[])) (tl:=([])) (s:=(cM 5 3 (5:Int) x2.free)) (i:=i1) (j:=4) Try.isAgg22 rfl rfl rfl (congrArg (fun q=>5+q) (Nat.mul_one _)) (zGM b4)) ?_
 refine zM h fun b6 h=>zA (zAN (f:=cI) (l:=x2.free.getD i1.toNat []) (i:=0) Try.underlying22 Try.sizeOf3 rfl rfl rfl b6)<|zA (zC9 (f:=cI) (l:=x2.free.getD i1.toNat []) (i:=0) (c:=0) (a:=(li (at_ (x2.free.getD i1.toNat []) (0:Int)))) Try.isAgg3 rfl rfl (by first | rfl | omega) b6 rfl rfl)<|zA (zD rfl)<|zG<|zI ?_
 refine zC<|zA (zB rfl)<|zA (zB rfl)<|zA (zL Try.underlying46 rfl rfl Try.sizeOf44 rfl)<|zA (zAa (m:=5) (s:=1) (i:=i1) (k:=3) (o:=5) Try.underlying44 Try.sizeOf22 rfl rfl b4)<|zA (zDE (k:=3) (o:=(5+i1.toNat*1)) (cs:=([li x2.node,li x2.kind,li x2.start,li x2.count,li x2.min]++((List.set (cM 5 3 (5:Int) x2.free) i1.toNat (AV.hd 4))++[]))) (hd:=([li x2.node]++[li x2.kind]++[li x2.start]++[li x2.count]++[li x2.min]++[])) (tl:=([])) (s:=(cM 5 3 (5:Int) x2.free)) (i:=i1) (j:=4) Try.isAgg22 rfl rfl rfl (congrArg (fun q=>5+q) (Nat.mul_one _)) (zGM b4)) ?_
 refine zAG (zE6 (j:=4) (ds:=[48,55]) (rows':=List.map cI (x2.free.getD i1.toNat [])) rfl (zAX (fun _=>rfl)) ⟨rfl,rfl,trivial⟩)<|zM h fun b7 h=>zA (zKa (lo:=1) (f:=cI) (l:=x2.free.getD i1.toNat []) Try.underlying22 Try.sizeOf3 (fun _=>rfl) rfl rfl b7)<|zA (zL Try.underlying46 rfl rfl Try.sizeOf44 rfl)<|zA (zAa (m:=5) (s:=1) (i:=i1) (k:=3) (o:=5) Try.underlying44 Try.sizeOf22 rfl rfl b4)<|zM h fun b8 h => ?_
 refine za (H':=[.box 46 (zO A),.box 46 (zO ⟨0,0,0,0,0,(List.replicate 5 ([]:List Int))⟩),.dead,.box 46 ([li x2.node,li x2.kind,li x2.start,li x2.count,li x2.min]++((List.set (cM 5 3 (5:Int) x2.free) i1.toNat (ls cI (zFD (x2.free.getD i1.toNat []) 1 ((x2.free.getD i1.toNat []).length:Int))))++[])),.dead]) (zGJ (k:=3) (o:=(5+i1.toNat*1)) (cs:=([li x2.node,li x2.kind,li x2.start,li x2.count,li x2.min]++((List.set (cM 5 3 (5:Int) x2.free) i1.toNat (AV.hd 4))++[]))) (hd:=([li x2.node]++[li x2.kind]++[li x2.start]++[li x2.count]++[li x2.min]++[])) (tl:=([])) (s:=(cM 5 3 (5:Int) x2.free)) (i:=i1) (a:=(ls cI (zFD (x2.free.getD i1.toNat []) 1 ((x2.free.getD i1.toNat []).length:Int)))) Try.sizeOf22 rfl rfl rfl (congrArg (fun q=>5+q) (Nat.mul_one _)) (zGM b4) rfl rfl)<|zG ?_
 refine zAB (r:=r) (fun (l1:List (List Int))=>mkE [(4,(AV.ptr 0 0)),(9,(AV.ptr 1 0)),(10,(li (at_ (x2.free.getD i1.toNat []) (0:Int))))]) (fun l1=>[.box 46 (zO ⟨0,0,0,0,0,(List.replicate 5 ([]:List Int))⟩),.box 46 ([li x2.node,li x2.kind,li x2.start,li x2.count,li x2.min]++((cM 5 3 i1 l1)++[]))]) (fun l1=>zHR i1 x2 l1) ?_ ?_
 ·
  refine zV<|zAA (σ:=Int×(List (List Int))) (fun (i2,l2)=>mkE [(1,(li B)),(4,(AV.ptr 0 0)),(8,(li i2)),(9,(AV.ptr 1 0)),(10,(li (at_ (x2.free.getD i1.toNat []) (0:Int))))]) (fun (i2,l2)=>[.box 46 (zO ⟨0,0,0,0,0,(List.replicate 5 ([]:List Int))⟩),.box 46 ([li x2.node,li x2.kind,li x2.start,li x2.count,li x2.min]++((cM 5 3 i1 l2)++[]))]) (fun n0 (i2,l2)=>zEv B i1 x2 n0 i2 l2) (i1,(zEF 5 [] x2.free i1.toNat (zFD (x2.free.getD i1.toNat []) 1 ((x2.free.getD i1.toNat []).length:Int)))) h (fun _=>rfl) (Rep.trans (zTB (l':=zFD (x2.free.getD i1.toNat []) 1 ((x2.free.getD i1.toNat []).length:Int)) (k:=3) (cs:=([li x2.node,li x2.kind,li x2.start,li x2.count,li x2.min]++((List.set (cM 5 3 (5:Int) x2.free) i1.toNat (ls cI (zFD (x2.free.getD i1.toNat []) 1 ((x2.free.getD i1.toNat []).length:Int))))++[]))) (hd:=([li x2.node]++[li x2.kind]++[li x2.start]++[li x2.count]++[li x2.min]++[])) (tl:=([])) (N:=5) (T:=3) (K:=5) (l:=x2.free) (i:=i1) rfl rfl b4 b8) (zBV (n:=90) (m:=0) [1,3] (l:=[(1,(li B)),(4,(AV.ptr 0 0)),(8,(li i1)),(9,(AV.ptr 1 0)),(10,(li (at_ (x2.free.getD i1.toNat []) (0:Int))))]) ⟨⟨Sub.refl _,by kernel_rfl⟩,⟨Sub.refl _,by kernel_rfl⟩,⟨Sub.refl _,by kernel_rfl⟩,⟨Sub.refl _,by kernel_rfl⟩,⟨Sub.refl _,by kernel_rfl⟩,trivial⟩ rfl rfl ⟨⟨rfl,by kernel_rfl⟩,⟨rfl,zT9 (hd:=([li x2.node]++[li x2.kind]++[li x2.start]++[li x2.count]++[li x2.min]++[])) (tl:=([])) (N:=5) (T:=3) (K:=i1) (l:=zEF 5 [] x2.free i1.toNat (zFD (x2.free.getD i1.toNat []) 1 ((x2.free.getD i1.toNat []).length:Int))) (by kernel_rfl) (by kernel_rfl) rfl⟩,trivial⟩)) ?_
  clear h
  rintro n0 ⟨i2,l2⟩ h
  replace h:zD7 B i1 x2 (zEv B i1 x2 n0) i2 l2=some r:=h
  unfold zD7 at h
  refine zI<|zI<|zC<|zA (zB rfl)<|zA (zB rfl)<|zA (zCQ rfl rfl) ?_
  refine zG ?_
  refine zY h rfl (fun b9 h => ?_) (fun b9 h => ?_)
  ·refine zU<|zV<|zI<|zC<|zA (zB rfl)<|zM h fun b10 h => ?_
   refine zA (zC0 rfl rfl b10)<|zA (zD rfl)<|zG<|zI<|zC<|zA (zB rfl) ?_
   refine zA (zB rfl)<|zM h fun b11 h=>zM h fun b12 h=>zA (zGt (a:=1) (b:=i2 - 1) rfl rfl b11 b12)<|zM h fun b13 h=>zA (zi rfl rfl b13) ?_
   refine zA (zD rfl)<|zG<|zI<|zC<|zA (zB rfl)<|zA (zL Try.underlying46 rfl rfl Try.sizeOf44 rfl) ?_
   refine zM h fun b14 h=>zA (zAa (m:=5) (s:=1) (i:=i2 - 1) (k:=1) (o:=5) Try.underlying44 Try.sizeOf22 rfl rfl b14)<|zM h fun b15 h=>zAG (zIa (k:=1) (cs:=([li x2.node,li x2.kind,li x2.start,li x2.count,li x2.min]++((cM 5 3 i1 l2)++[]))) (hd:=([li x2.node]++[li x2.kind]++[li x2.start]++[li x2.count]++[li x2.min]++[])) (tl:=([])) (N:=5) (T:=3) (K:=i1) (l:=l2) (i:=i2 - 1) rfl rfl b14 b15)<|zA (zDE (k:=1) (o:=(5+(i2 - 1).toNat*1)) (cs:=([li x2.node,li x2.kind,li x2.start,li x2.count,li x2.min]++((List.set (cM 5 3 i1 l2) (i2 - 1).toNat (AV.hd 2))++[]))) (hd:=([li x2.node]++[li x2.kind]++[li x2.start]++[li x2.count]++[li x2.min]++[])) (tl:=([])) (s:=(cM 5 3 i1 l2)) (i:=i2 - 1) (j:=2) Try.isAgg22 rfl rfl rfl (congrArg (fun q=>5+q) (Nat.mul_one _)) (zGM b14))<|zA (zB rfl) ?_
   refine zQ h fun x3 w3 h=>zAr (r':=(AV.tup [li x3.1,(AV.lit (.bool x3.2))])) (la:=[AV.hd 2,(li ((at_ (x2.free.getD i1.toNat []) (0:Int))+((1:Int)*2 ^ (i2 - 1).toNat)))]) (la':=[(ls cI (l2.getD (i2 - 1).toNat [])),(li ((at_ (x2.free.getD i1.toNat []) (0:Int))+((1:Int)*2 ^ (i2 - 1).toNat)))]) (r:=(AV.tup [li x3.1,(AV.lit (.bool x3.2))])) (S:=[2]) Try.func63 rfl (by kernel_rfl) (.fn 63) rfl ⟨zGa (fun _=>rfl) rfl rfl,zA8.nr rfl,trivial⟩ (zAe w3) (.inr rfl) rfl<|zA (zB rfl)<|zA (zT rfl rfl)<|zA (zT rfl rfl)<|zA (zD rfl) ?_
   refine zA (zD rfl)<|zG<|zC<|zA (zB rfl)<|zA (zB rfl)<|zA (zL Try.underlying46 rfl rfl Try.sizeOf44 rfl) ?_
   refine zA (zAa (m:=5) (s:=1) (i:=i2 - 1) (k:=1) (o:=5) Try.underlying44 Try.sizeOf22 rfl rfl b14)<|zA (zDE (k:=1) (o:=(5+(i2 - 1).toNat*1)) (cs:=([li x2.node,li x2.kind,li x2.start,li x2.count,li x2.min]++((List.set (cM 5 3 i1 l2) (i2 - 1).toNat (AV.hd 2))++[]))) (hd:=([li x2.node]++[li x2.kind]++[li x2.start]++[li x2.count]++[li x2.min]++[])) (tl:=([])) (s:=(cM 5 3 i1 l2)) (i:=i2 - 1) (j:=2) Try.isAgg22 rfl rfl rfl (congrArg (fun q=>5+q) (Nat.mul_one _)) (zGM b14))<|zA (zB rfl)<|zA (zB rfl)<|zGd (a:=(li ((at_ (x2.free.getD i1.toNat []) (0:Int))+((1:Int)*2 ^ (i2 - 1).toNat)))) zHA Try.underlying22 rfl rfl rfl rfl<|zM h fun b16 h => ?_
   refine zMG (k:=2) (j:=3) (l:=l2.getD (i2 - 1).toNat []) (i:=x3.1) (q:=(at_ (x2.free.getD i1.toNat []) (0:Int))+((1:Int)*2 ^ (i2 - 1).toNat)) (fun a b c d e=>zQ8 a b c d e) Try.func83 rfl (by kernel_rfl) rfl rfl rfl rfl rfl rfl b16<|zA (zL Try.underlying46 rfl rfl Try.sizeOf44 rfl)<|zA (zAa (m:=5) (s:=1) (i:=i2 - 1) (k:=1) (o:=5) Try.underlying44 Try.sizeOf22 rfl rfl b14)<|za (H':=[.box 46 (zO ⟨0,0,0,0,0,(List.replicate 5 ([]:List Int))⟩),.box 46 ([li x2.node,li x2.kind,li x2.start,li x2.count,li x2.min]++((List.set (cM 5 3 i1 l2) (i2 - 1).toNat (AV.hd 4))++[])),.dead,.vec 3 1 (List.map cI [(at_ (x2.free.getD i1.toNat []) (0:Int))+((1:Int)*2 ^ (i2 - 1).toNat)]),.vec 3 1 (List.map cI (zQg (l2.getD (i2 - 1).toNat []) x3.1 ((at_ (x2.free.getD i1.toNat []) (0:Int))+((1:Int)*2 ^ (i2 - 1).toNat))))]) (zGJ (k:=1) (o:=(5+(i2 - 1).toNat*1)) (cs:=([li x2.node,li x2.kind,li x2.start,li x2.count,li x2.min]++((List.set (cM 5 3 i1 l2) (i2 - 1).toNat (AV.hd 2))++[]))) (hd:=([li x2.node]++[li x2.kind]++[li x2.start]++[li x2.count]++[li x2.min]++[])) (tl:=([])) (s:=(cM 5 3 i1 l2)) (i:=i2 - 1) (a:=(AV.hd 4)) Try.sizeOf22 rfl rfl rfl (congrArg (fun q=>5+q) (Nat.mul_one _)) (zGM b14) rfl rfl)<|zG ?_
   exact ⟨((i2 - 1),(zEF 5 [] l2 (i2 - 1).toNat (zQg (l2.getD (i2 - 1).toNat []) x3.1 ((at_ (x2.free.getD i1.toNat []) (0:Int))+((1:Int)*2 ^ (i2 - 1).toNat))))),Rep.trans (zIC (j:=4) (l':=zQg (l2.getD (i2 - 1).toNat []) x3.1 ((at_ (x2.free.getD i1.toNat []) (0:Int))+((1:Int)*2 ^ (i2 - 1).toNat))) (k:=1) (cs:=([li x2.node,li x2.kind,li x2.start,li x2.count,li x2.min]++((List.set (cM 5 3 i1 l2) (i2 - 1).toNat (AV.hd 4))++[]))) (hd:=([li x2.node]++[li x2.kind]++[li x2.start]++[li x2.count]++[li x2.min]++[])) (tl:=([])) (N:=5) (T:=3) (K:=i1) (l:=l2) (i:=i2 - 1) rfl rfl b14 b15 rfl rfl) (zBV (n:=90) (m:=0) [0,1] (l:=[(1,(li B)),(4,(AV.ptr 0 0)),(8,(li (i2 - 1))),(9,(AV.ptr 1 0)),(10,(li (at_ (x2.free.getD i1.toNat []) (0:Int))))]) ⟨⟨Sub.refl _,by kernel_rfl⟩,⟨Sub.refl _,by kernel_rfl⟩,⟨Sub.refl _,by kernel_rfl⟩,⟨Sub.refl _,by kernel_rfl⟩,⟨Sub.refl _,by kernel_rfl⟩,trivial⟩ rfl rfl ⟨⟨rfl,by kernel_rfl⟩,⟨rfl,zT9 (hd:=([li x2.node]++[li x2.kind]++[li x2.start]++[li x2.count]++[li x2.min]++[])) (tl:=([])) (N:=5) (T:=3) (K:=i1) (l:=zEF 5 [] l2 (i2 - 1).toNat (zQg (l2.getD (i2 - 1).toNat []) x3.1 ((at_ (x2.free.getD i1.toNat []) (0:Int))+((1:Int)*2 ^ (i2 - 1).toNat)))) (by kernel_rfl) (by kernel_rfl) rfl⟩,trivial⟩),h⟩
  refine zAH ?_
  exact ⟨l2,zBV (n:=90) (m:=0) [0,1] (l:=[(4,(AV.ptr 0 0)),(9,(AV.ptr 1 0)),(10,(li (at_ (x2.free.getD i1.toNat []) (0:Int))))]) ⟨⟨Sub.refl _,by kernel_rfl⟩,⟨Sub.refl _,by kernel_rfl⟩,⟨Sub.refl _,by kernel_rfl⟩,trivial⟩ rfl rfl ⟨⟨rfl,by kernel_rfl⟩,⟨rfl,zT9 (hd:=([li x2.node]++[li x2.kind]++[li x2.start]++[li x2.count]++[li x2.min]++[])) (tl:=([])) (N:=5) (T:=3) (K:=i1) (l:=l2) (by kernel_rfl) (by kernel_rfl) rfl⟩,trivial⟩,h⟩
 clear h
 intro l1 h
 unfold zHR at h
 refine zI<|zC<|zAG (zKX (k:=1) (cs:=([li x2.node,li x2.kind,li x2.start,li x2.count,li x2.min]++((cM 5 3 i1 l1)++[]))) (hd:=([li x2.node]++[li x2.kind]++[li x2.start]++[li x2.count]++[li x2.min]++[])) (tl:=([])) (N:=5) (T:=3) (K:=i1) (l:=l1) rfl rfl)<|zA (zR (k:=1) (o:=0) (m:=10) Try.isAgg46 Try.sizeOf46 rfl rfl rfl rfl rfl)<|zA (zB rfl)<|za (H':=[.box 46 (zO (⟨x2.node,x2.kind,x2.start,x2.count,x2.min,l1⟩:zW)),.box 46 (zO ⟨x2.node,x2.kind,x2.start,x2.count,x2.min,l1⟩)]) (zS (k:=0) (o:=0) (cs:=(zO ⟨0,0,0,0,0,(List.replicate 5 ([]:List Int))⟩)) (la:=(zO (⟨x2.node,x2.kind,x2.start,x2.count,x2.min,l1⟩:zW))) Try.sizeOf46 rfl rfl rfl rfl) ?_
 refine zA (zD rfl)<|zA (zD rfl)<|zG<|zb ?_
 cases h
 exact zEE (zF9 Try.isAgg46 Try.sizeOf46 rfl rfl rfl rfl) (zAh rfl rfl) (zAh rfl rfl) rfl
theorem zGq {J:zK} {R:Int} {r:Int} (h:zER J R=some r):PFn Try.prog 79 [(AV.agg (zJ J)),li R] (li r):=by
 refine zq Try.func79 rfl Try.ntmps79 Try.results79 rfl ?_
 unfold zER at h
 refine zI<|zC<|zX (H':=[.box 50 (zJ J)]) (z6 (t:=50) rfl)<|zA (zD rfl)<|zG<|zI ?_
 refine zI<|zC<|zA (zR (k:=0) (o:=0) (m:=1) Try.isAgg50 Try.sizeOf50 rfl rfl rfl rfl rfl)<|zA (zL Try.underlying50 rfl rfl Try.sizeOf48 rfl)<|zA (zN Try.isAgg48 rfl rfl rfl rfl)<|zA (zf Try.underlying48 rfl) ?_
 refine zQ h fun x1 w1 h=>zZ Try.func37 rfl (by kernel_rfl) (.fn 37) rfl rfl (zKS w1) rfl<|zA (zD rfl)<|zG<|zI<|zC ?_
 refine zA (zB rfl)<|zA (z5 rfl rfl)<|zG ?_
 refine zY h rfl (fun b1 h => ?_) (fun b1 h => ?_)
 ·refine zI<|zC<|zA (zB rfl)<|zA (zD rfl)<|zG<|zb ?_
  cases h
  exact zz (zAh rfl rfl)
 refine zU<|zI<|zI<|zC<|zA (zB rfl)<|zA (zp rfl rfl) ?_
 refine zA (zB rfl)<|zd rfl rfl (fun c1=>zv.step (zB rfl))<|zd rfl rfl (fun c2=>zv.step (zL Try.underlying50 rfl rfl Try.sizeOf48 rfl))<|zd rfl rfl (fun c3=>zv.step (zN Try.isAgg48 (zAJ rfl c3) rfl rfl rfl))<|zd rfl rfl (fun c4=>zv.step (zf Try.underlying48 (zAJ rfl c4)))<|zd rfl rfl (fun c5=>zv.step (zBn (zAJ rfl c5) (zAJ rfl c5))) ?_
 refine zA (zh rfl rfl)<|zG ?_
 refine zY h rfl (fun b2 h => ?_) (fun b2 h => ?_)
 ·refine zI<|zC<|zA (zD rfl)<|zG<|zb ?_
  cases h
  exact zz (zAh rfl rfl)
 refine zU<|zI<|zC<|zA (zD rfl)<|zG<|zb ?_
 cases h
 exact zz (zAh rfl rfl)
theorem zEQ {J:zK} {R:Int} {uM:List Int} {r:zK} (h:zBh J R uM=some r):PFn Try.prog 80 [(AV.agg (zJ J)),li R,ls cI uM] (AV.agg (zJ r)):=by
 refine zq Try.func80 rfl Try.ntmps80 Try.results80 rfl ?_
 unfold zBh at h
 refine zI<|zC<|zX (H':=[.box 50 (zJ J)]) (z6 (t:=50) rfl)<|zX (H':=[.box 50 (zJ J),.box 50 [(ls (cS cI) ([]:List (List Int)))]]) zv1<|zG<|zI ?_
 refine zC<|zA (zL Try.underlying50 rfl rfl Try.sizeOf48 rfl)<|zA (zN Try.isAgg48 rfl rfl rfl rfl)<|zA (zf Try.underlying48 rfl)<|zM h fun b1 h=>zGc (f:=(cS cI)) (a:=(J.lists.length:Int)) (c:=(J.lists.length:Int)) (d0:=([]:List Int)) zRX ⟨zA9.nils,trivial⟩ rfl Try.underlying48 rfl rfl b1 ?_
 refine zA (zCT (pl:=[(0,1)]) (zs:=[.slice none 0 0]) (zc:=[.sl false []]) (res:=[AV.hd 2]) (fun _=>by kernel_rfl) rfl (⟨zA9.nils,trivial⟩) ⟨AV.hd 2,0,1,rfl,rfl,rfl,rfl,rfl,(by exact zLO.refl _)⟩)<|zX (H':=[.box 50 (zJ J),.box 50 [(ls (cS cI) ([]:List (List Int)))],.vec 22 1 (List.map (cS cI) (List.replicate (J.lists.length:Int).toNat ([]:List Int))),.box 50 [(ls (cS cI) ([]:List (List Int)))]]) zv1<|za (H':=[.box 50 (zJ J),.box 50 [(ls (cS cI) ([]:List (List Int)))],.vec 22 1 (List.map (cS cI) (List.replicate (J.lists.length:Int).toNat ([]:List Int))),.box 50 [AV.hd 2]]) (zS (k:=3) (o:=0) (cs:=[(ls (cS cI) ([]:List (List Int)))]) (la:=[AV.hd 2]) Try.sizeOf50 rfl rfl rfl rfl)<|zG ?_
 refine zAB (r:=r) (fun (l1:List (List Int))=>mkE [(6,(AV.ptr 0 0)),(7,(AV.ptr 1 0))]) (fun l1=>[.box 50 [(ls (cS cI) ([]:List (List Int)))],.box 50 [AV.osl 22 1 (List.map (cS cI) l1)]]) (fun l1=>zFd l1) ?_ ?_
 ·
  refine zI<|zC<|zA (zL Try.underlying50 rfl rfl Try.sizeOf48 rfl)<|zA (zN Try.isAgg48 rfl rfl rfl rfl)<|zA (zf Try.underlying48 rfl)<|zA (zB rfl) ?_
  refine zG<|zV<|zAA (σ:=Int×(List (List Int))) (fun (i1,l2)=>mkE [(1,(li R)),(2,(ls cI uM)),(3,(AV.ptr 0 0)),(6,(AV.ptr 1 0)),(7,(AV.ptr 2 0)),(17,(li (J.lists.length:Int))),(18,(li i1))]) (fun (i1,l2)=>[.box 50 (zJ J),.box 50 [(ls (cS cI) ([]:List (List Int)))],.box 50 [AV.osl 22 1 (List.map (cS cI) l2)]]) (fun n0 (i1,l2)=>zCS J R uM n0 i1 l2) (0,(List.replicate (J.lists.length:Int).toNat ([]:List Int))) h (fun _=>rfl) (Rep.trans (zAR (k:=3) (j:=2) (o:=0) rfl rfl rfl rfl) (zAf [0,1,3] (l:=[(1,(li R)),(2,(ls cI uM)),(3,(AV.ptr 0 0)),(6,(AV.ptr 1 0)),(7,(AV.ptr 2 0)),(17,(li (J.lists.length:Int))),(18,(li 0))]) rfl rfl (by kernel_rfl))) ?_
  clear h
  rintro n0 ⟨i1,l2⟩ h
  replace h:zCV J R uM (zCS J R uM n0) i1 l2=some r:=h
  unfold zCV at h
  refine zI<|zC<|zA (zp rfl rfl)<|zG<|zI ?_
  refine zY h rfl (fun b2 h => ?_) (fun b2 h => ?_)
  ·refine zU<|zI<|zV<|zI<|zC<|zA (zB rfl) ?_
   refine zA (zD rfl)<|zG<|zI<|zC<|zA (zL Try.underlying50 rfl rfl Try.sizeOf48 rfl)<|zA (zN Try.isAgg48 rfl rfl rfl rfl) ?_
   refine zA (zB rfl)<|zM h fun b3 h=>zA (zj Try.underlying48 Try.sizeOf22 (fun _=>rfl) rfl rfl b3)<|zA (zm (o:=0) Try.isAgg22 rfl rfl)<|zA (zD rfl)<|zG ?_
   refine zAB (r:=r) (fun (d1:List Int)=>mkE [(1,(li R)),(2,(ls cI uM)),(3,(AV.ptr 0 0)),(6,(AV.ptr 1 0)),(7,(AV.ptr 2 0)),(8,(li i1)),(9,(ls cI d1)),(17,(li (J.lists.length:Int))),(18,(li i1))]) (fun d1=>[.box 50 (zJ J),.box 50 [(ls (cS cI) ([]:List (List Int)))],.box 50 [AV.osl 22 1 (List.map (cS cI) l2)]]) (fun d1=>zDF (zCS J R uM n0) i1 l2 d1) ?_ ?_
   ·
    refine zI<|zC<|zA (zB rfl)<|zA (zB rfl)<|zA (zBG rfl rfl)<|zG ?_
    refine zY h rfl (fun b7 h => ?_) (fun b7 h => ?_)
    ·refine zC<|zA (zB rfl)<|zA (zD rfl)<|zG ?_
     exact ⟨uM,zAf [0,1,2] rfl rfl (by kernel_rfl),h⟩
    refine zU ?_
    exact ⟨at_ J.lists i1,zAf [0,1,2] rfl rfl (by kernel_rfl),h⟩
   clear h
   intro d1 h
   unfold zDF at h
   refine zI<|zAx (zBp (k:=2) (o:=0) (t':=22) (sz:=1) (rows:=List.map (cS cI) l2) rfl rfl)<|zM h fun b4 h=>zM h fun b5 h => ?_
   refine zBY (n:=46) (m:=0) [.head 0 1,.head 0 1,.head 0 1,.head 0 0,.head 0 0,.tail 0,.head 1 1,.tail 1] [5,7] [AV.ptr 2 0,AV.hd 3,li i1,ls cI d1,(li (d1.length:Int)),AV.hd 4,(AV.ptr 3 (i1.toNat*1)),.any] [[.box 50 (zJ J),.box 50 [(ls (cS cI) ([]:List (List Int)))],.box 50 [AV.hd 3],.vec 22 1 (List.map (cS cI) l2)],[.box 50 (zJ J),.box 50 [(ls (cS cI) ([]:List (List Int)))],.box 50 [AV.hd 3],.vec 22 1 (List.map (cS cI) l2),.vec 3 1 (List.map cI (List.replicate (d1.length:Int).toNat 0))],[.box 50 (zJ J),.box 50 [(ls (cS cI) ([]:List (List Int)))],.box 50 [AV.hd 3],.vopen 22 1 (List.map (cS cI) l2) i1.toNat [.hd 4],.vec 3 1 (List.map cI (List.replicate (d1.length:Int).toNat 0))]] (by kernel_rfl) (by kernel_rfl) ⟨⟨D1 fun e s p=>zL (k:=2) (o:=0) (off:=0) Try.underlying50 rfl rfl Try.sizeOf48 (s 7 rfl),D1 fun e s p=>zL (k:=2) (o:=0) (off:=0) Try.underlying50 rfl rfl Try.sizeOf48 (s 7 rfl)⟩,⟨D1 fun e s p=>zN (k:=2) (o:=0) Try.isAgg48 p.1 rfl rfl rfl,D1 fun e s p=>zN (k:=2) (o:=0) Try.isAgg48 p.1 rfl rfl rfl⟩,⟨D1 fun e s p=>zB (s 8 rfl),D1 fun e s p=>zB (s 8 rfl)⟩,D1 fun e s p=>zB (s 9 rfl),D1 fun e s p=>zf (f:=cI) (l:=d1) Try.underlying22 p.1,?_,D1 fun e s p=>zAN (f:=(cS cI)) (l:=l2) (i:=i1) Try.underlying48 Try.sizeOf22 p.2.2.2.1 rfl p.2.2.2.2.1 b5,?_,trivial⟩ ?_
   ·
    intro e9 s9 p9
    refine zGc (f:=cI) (a:=(d1.length:Int)) (c:=(d1.length:Int)) (d0:=0) zHA ⟨zA9.refl _,trivial⟩ rfl Try.underlying22 p9.2.1 p9.2.1 b4 ?_
    exact zG ⟨fun _=>rfl,rfl⟩
   ·
    intro e11 s11 p11
    refine za (H':=[.box 50 (zJ J),.box 50 [(ls (cS cI) ([]:List (List Int)))],.box 50 [AV.hd 3],.vopen 22 1 (List.map (cS cI) l2) i1.toNat [.hd 4],.vec 3 1 (List.map cI (List.replicate (d1.length:Int).toNat 0))]) (zLc (k:=3) (j:=4) (i:=i1.toNat) Try.sizeOf22 (by exact p11.1) rfl rfl (by rw [List.length_map]; exact (zCZ b5).2) (by exact p11.2.2.2.2.2.2.2.1) rfl) ?_
    exact zG ⟨fun _=>rfl,rfl⟩
   intro e12 s12 hq1
   refine zAx (zCR (l:=[(1,(li R)),(2,(ls cI uM)),(3,(AV.ptr 0 0)),(6,(AV.ptr 1 0)),(7,(AV.ptr 2 0)),(8,(li i1)),(9,(ls cI d1)),(17,(li (J.lists.length:Int))),(18,(li i1))]) ⟨s12 1 rfl,s12 2 rfl,s12 3 rfl,s12 6 rfl,s12 7 rfl,s12 8 rfl,s12 9 rfl,s12 17 rfl,s12 18 rfl,trivial⟩)<|zC<|zA (zL (k:=2) (o:=0) (off:=0) Try.underlying50 rfl rfl Try.sizeOf48 rfl)<|zA (zN (k:=2) (o:=0) (a:=(AV.hd 3)) Try.isAgg48 rfl rfl rfl rfl)<|zA (zB (av:=(li i1)) rfl)<|zA (zS4 (row:=[]) (i:=i1) Try.underlying48 Try.sizeOf22 rfl rfl rfl (by rw [List.length_map]; exact b5)) ?_
   refine zA (zMN (k:=3) (i:=i1.toNat) (a := .hd 4) Try.isAgg22 rfl rfl rfl rfl)<|zA (zB rfl)<|zX (H':=[.box 50 (zJ J),.box 50 [(ls (cS cI) ([]:List (List Int)))],.box 50 [AV.hd 3],.vopen 22 1 (List.map (cS cI) l2) i1.toNat [.hd 4],.vec 3 1 (List.map cI (zCm (List.replicate (d1.length:Int).toNat 0) d1))]) (zKw (f:=cI) (k:=4) (l:=List.replicate (d1.length:Int).toNat 0) (l2:=d1) Try.underlying22 Try.sizeOf3 (fun _=>rfl) rfl rfl rfl)<|zG<|zC<|zM h fun b6 h => ?_
   refine zA (zi rfl rfl b6)<|zA (zB rfl)<|zG ?_
   exact ⟨((i1+1),(l2.set i1.toNat (zCm (List.replicate (d1.length:Int).toNat 0) d1))),Rep.trans (zQv (k:=3) (j:=4) (f:=cI) (l:=l2) (l':=zCm (List.replicate (d1.length:Int).toNat 0) d1) (fun _=>rfl) rfl rfl rfl) (Rep.trans (zAR (k:=2) (j:=3) (o:=0) rfl rfl rfl rfl) (zAf [0,1,2] (l:=[(1,(li R)),(2,(ls cI uM)),(3,(AV.ptr 0 0)),(6,(AV.ptr 1 0)),(7,(AV.ptr 2 0)),(17,(li (J.lists.length:Int))),(18,(li (i1+1)))]) rfl rfl (by kernel_rfl))),h⟩
  refine zAH ?_
  exact ⟨l2,zAf [1,2] rfl rfl (by kernel_rfl),h⟩
 clear h
 intro l1 h
 unfold zFd at h
 refine zI<|zC<|zAG (zBw (k:=1) (o:=0) (rows':=List.map (cS cI) l1) rfl rfl (zAX (fun _=>rfl)))<|zA (zR (k:=1) (o:=0) (m:=1) Try.isAgg50 Try.sizeOf50 rfl rfl rfl rfl rfl)<|za (H':=[.box 50 (zJ (⟨l1⟩:zK)),.box 50 [(ls (cS cI) l1)]]) (zS (k:=0) (o:=0) (cs:=[(ls (cS cI) ([]:List (List Int)))]) (la:=(zJ (⟨l1⟩:zK))) Try.sizeOf50 rfl rfl rfl rfl)<|zG ?_
 refine zb ?_
 cases h
 exact zz (zF9 Try.isAgg50 Try.sizeOf50 rfl rfl rfl rfl)
theorem zM3 {A:zK} {B:Int} {G:List Int} {r:zK×Int} (h:zFZ A B G=some r):PFn Try.prog 77 [(AV.agg (zJ A)),li B,ls cI G] (AV.tup [(AV.agg (zJ r.1)),li r.2]):=by
 refine zq Try.func77 rfl Try.ntmps77 Try.results77 rfl ?_
 unfold zFZ at h
 refine zI<|zC<|zX (H':=[.box 50 (zJ A)]) (z6 (t:=50) rfl)<|zX (H':=[.box 50 (zJ A),.box 50 [(ls (cS cI) ([]:List (List Int)))]]) zv1<|zA (zD rfl)<|zG ?_
 refine zI<|zI<|zC<|zA (zR (k:=0) (o:=0) (m:=1) Try.isAgg50 Try.sizeOf50 rfl rfl rfl rfl rfl)<|zA (zB rfl)<|zQ h fun x1 w1 h => ?_
 refine zZ Try.func79 rfl (by kernel_rfl) (.fn 79) rfl rfl (zGq w1) rfl<|zA (zD rfl)<|zG<|zI<|zC<|zA (zB rfl) ?_
 refine zA (z5 rfl rfl)<|zG ?_
 refine zY h rfl (fun b1 h => ?_) (fun b1 h => ?_)
 ·refine zI<|zC<|zA zv2<|zA (zB rfl)<|za (H':=[.box 50 (zJ A),.box 50 (zJ (⟨([]:List (List Int))⟩:zK))]) (zS (k:=1) (o:=0) (cs:=[(ls (cS cI) ([]:List (List Int)))]) (la:=(zJ (⟨([]:List (List Int))⟩:zK))) Try.sizeOf50 rfl rfl rfl rfl)<|zA (zD rfl) ?_
  refine zG<|zb ?_
  cases h
  exact zB1 (zF9 Try.isAgg50 Try.sizeOf50 rfl rfl rfl rfl) (zAh rfl rfl) rfl
 refine zU<|zI<|zC<|zA (zR (k:=0) (o:=0) (m:=1) Try.isAgg50 Try.sizeOf50 rfl rfl rfl rfl rfl)<|zQ h fun x2 w2 h=>zNt (es:=mI Value.bool x2) (la:=[(AV.agg (zJ A))]) (la':=[(AV.agg (zJ A))]) (S:=[]) Try.func65 rfl (by kernel_rfl) (.fn 65) rfl ⟨zA8.nr rfl,trivial⟩ (zHp w2) ?_
 refine zA (zD rfl)<|zG ?_
 refine zAB (r:=r) (fun (_:Unit)=>mkE [(1,(li B)),(2,(ls cI G)),(3,(AV.ptr 0 0)),(6,(AV.ptr 1 0))]) (fun _=>[.box 50 (zJ A),.box 50 [(ls (cS cI) ([]:List (List Int)))]]) (fun _=>zEr A B G) ?_ ?_
 ·
  refine zI<|zC<|zA (zB rfl)<|zA (zf Try.underlying22 rfl)<|zA (zB rfl)<|zG ?_
  refine zV<|zAA (σ:=Int×(List (Int×Bool))) (fun (i2,l3)=>mkE [(1,(li B)),(2,(ls cI G)),(3,(AV.ptr 0 0)),(6,(AV.ptr 1 0)),(9,(AV.hd 2)),(23,(ls cI G)),(24,(li (G.length:Int))),(25,(li i2))]) (fun (i2,l3)=>[.box 50 (zJ A),.box 50 [(ls (cS cI) ([]:List (List Int)))],.map (mI Value.bool l3)]) (fun n1 (i2,l3)=>zEo A B G n1 i2 l3) (0,x2) h (fun _=>rfl) (zAf [0,1,2] rfl rfl (by kernel_rfl)) ?_
  clear h
  rintro n1 ⟨i2,l3⟩ h
  replace h:zCv A B G (zEo A B G n1) i2 l3=some r:=h
  unfold zCv at h
  refine zI<|zC<|zA (zp rfl rfl)<|zG<|zI ?_
  refine zY h rfl (fun b10 h => ?_) (fun b10 h => ?_)
  ·refine zU<|zI<|zV<|zI<|zC<|zM h fun b11 h => ?_
   refine zA (zj Try.underlying22 Try.sizeOf3 (fun _=>rfl) rfl rfl b11)<|zA (zm (o:=0) Try.isAgg3 rfl rfl)<|zA (zD rfl)<|zG<|zI<|zI ?_
   refine zC<|zA (zB rfl)<|zQ h fun x5 w5 h=>zZ Try.func64 rfl (by kernel_rfl) (.fn 64) rfl rfl (zG1 w5) rfl<|zA (zBK (t:=x5) rfl)<|zG ?_
   refine zY h rfl (fun b12 h => ?_) (fun b12 h => ?_)
   ·refine zI<|zC<|zA zv2<|za (H':=[.box 50 (zJ A),.box 50 (zJ (⟨([]:List (List Int))⟩:zK)),.map (mI Value.bool l3)]) (zS (k:=1) (o:=0) (cs:=[(ls (cS cI) ([]:List (List Int)))]) (la:=(zJ (⟨([]:List (List Int))⟩:zK))) Try.sizeOf50 rfl rfl rfl rfl)<|zA (zD rfl)<|zG ?_
    refine zb ?_
    cases h
    exact zB1 (zF9 Try.isAgg50 Try.sizeOf50 rfl rfl rfl rfl) (zAh rfl rfl) rfl
   refine zU<|zI<|zI<|zC<|zA (zB rfl)<|zA (zB rfl) ?_
   refine zA (zNp (k:=2) (g:=Value.bool) (q:=at_ G i2) (l:=l3) (dflt:=false) (a:=(AV.lit (.bool (zLp false l3 (at_ G i2))))) Try.underlying83 Try.underlying3 Try.zeroValue4 rfl rfl rfl rfl)<|zG ?_
   refine zY h rfl (fun b13 h => ?_) (fun b13 h => ?_)
   ·refine zI<|zC<|zA zv2<|za (H':=[.box 50 (zJ A),.box 50 (zJ (⟨([]:List (List Int))⟩:zK)),.map (mI Value.bool l3)]) (zS (k:=1) (o:=0) (cs:=[(ls (cS cI) ([]:List (List Int)))]) (la:=(zJ (⟨([]:List (List Int))⟩:zK))) Try.sizeOf50 rfl rfl rfl rfl)<|zA (zD rfl)<|zG ?_
    refine zb ?_
    cases h
    exact zB1 (zF9 Try.isAgg50 Try.sizeOf50 rfl rfl rfl rfl) (zAh rfl rfl) rfl
   refine zU<|zC<|zA (zB rfl)<|zA (zB rfl)<|za (H':=[.box 50 (zJ A),.box 50 [(ls (cS cI) ([]:List (List Int)))],.map (mI Value.bool (zKE l3 (at_ G i2) true))]) (zN8 (k:=2) (g:=Value.bool) (q:=at_ G i2) (l:=l3) (v:=true) Try.underlying83 Try.underlying3 rfl rfl rfl rfl)<|zG ?_
   refine zC<|zM h fun b14 h=>zA (zi rfl rfl b14)<|zA (zB rfl)<|zG ?_
   exact ⟨((i2+1),(zKE l3 (at_ G i2) true)),zAf [0,1,2] rfl rfl (by kernel_rfl),h⟩
  refine zAH ?_
  exact ⟨(),zAf [0,1] rfl rfl (by kernel_rfl),h⟩
 clear h
 intro _ h
 unfold zEr at h
 refine zI<|zC<|zA (zL Try.underlying50 rfl rfl Try.sizeOf48 rfl)<|zA (zN Try.isAgg48 rfl rfl rfl rfl)<|zA (zB rfl)<|zM h fun b2 h => ?_
 refine zA (zj Try.underlying48 Try.sizeOf22 (fun _=>rfl) rfl rfl b2)<|zA (zm (o:=0) Try.isAgg22 rfl rfl)<|zA (zf Try.underlying22 rfl)<|zM h fun b3 h=>zGc (f:=cI) (a:=((at_ A.lists B).length:Int)) (c:=((at_ A.lists B).length:Int)) (d0:=0) zHA ⟨zA9.refl _,trivial⟩ rfl Try.underlying22 rfl rfl b3<|zA (zD rfl) ?_
 refine zG<|zI<|zC<|zA (zB rfl)<|zA (zL Try.underlying50 rfl rfl Try.sizeOf48 rfl)<|zA (zN Try.isAgg48 rfl rfl rfl rfl) ?_
 refine zA (zB rfl)<|zA (zj Try.underlying48 Try.sizeOf22 (fun _=>rfl) rfl rfl b2)<|zA (zm (o:=0) Try.isAgg22 rfl rfl)<|zX (H':=[.box 50 (zJ A),.box 50 [(ls (cS cI) ([]:List (List Int)))],.vec 3 1 (List.map cI (zCm (List.replicate ((at_ A.lists B).length:Int).toNat 0) (at_ A.lists B)))]) (zKw (f:=cI) (k:=2) (l:=List.replicate ((at_ A.lists B).length:Int).toNat 0) (l2:=at_ A.lists B) Try.underlying22 Try.sizeOf3 (fun _=>rfl) rfl rfl rfl)<|zG ?_
 refine zAB (r:=r) (fun (l1:List Int)=>mkE [(1,(li B)),(3,(AV.ptr 0 0)),(6,(AV.ptr 1 0)),(12,(AV.hd 2))]) (fun l1=>[.box 50 (zJ A),.box 50 [(ls (cS cI) ([]:List (List Int)))],.vec 3 1 (List.map cI l1)]) (fun l1=>zEk A B l1) ?_ ?_
 ·
  refine zI<|zC<|zA (zB rfl)<|zA (zf Try.underlying22 rfl)<|zA (zB rfl)<|zG ?_
  refine zV<|zAA (σ:=Int×(List Int)) (fun (i1,l2)=>mkE [(1,(li B)),(2,(ls cI G)),(3,(AV.ptr 0 0)),(6,(AV.ptr 1 0)),(12,(AV.hd 2)),(55,(li (G.length:Int))),(56,(li i1))]) (fun (i1,l2)=>[.box 50 (zJ A),.box 50 [(ls (cS cI) ([]:List (List Int)))],.vec 3 1 (List.map cI l2)]) (fun n0 (i1,l2)=>zEi A B G n0 i1 l2) (0,(zCm (List.replicate ((at_ A.lists B).length:Int).toNat 0) (at_ A.lists B))) h (fun _=>rfl) (zAf [0,1,2] rfl rfl (by kernel_rfl)) ?_
  clear h
  rintro n0 ⟨i1,l2⟩ h
  replace h:zCx A B G (zEi A B G n0) i1 l2=some r:=h
  unfold zCx at h
  refine zI<|zC<|zA (zp rfl rfl)<|zG<|zI ?_
  refine zY h rfl (fun b4 h => ?_) (fun b4 h => ?_)
  ·refine zU<|zI<|zV<|zI<|zC<|zA (zB rfl) ?_
   refine zA (zD rfl)<|zG<|zC<|zA (zB rfl)<|zA (zB rfl)<|zA (zB rfl) ?_
   refine zA (zf Try.underlying22 rfl)<|zM h fun b5 h=>zA (zC0 rfl rfl b5)<|zA (zB rfl)<|zM h fun b6 h=>zA (zC0 rfl rfl b6) ?_
   refine zM h fun b7 h=>zA (zj Try.underlying22 Try.sizeOf3 (fun _=>rfl) rfl rfl b7)<|zA (zm (o:=0) Try.isAgg3 rfl rfl)<|zGd (a:=(li (at_ G (((G.length:Int) - 1) - i1)))) zHA Try.underlying22 rfl rfl rfl rfl<|zM h fun b8 h=>zET (f:=cI) (k:=2) (j:=3) (l:=l2) (l':=[at_ G (((G.length:Int) - 1) - i1)]) zHA (fun _=>rfl) Try.underlying22 rfl rfl rfl rfl b8 ?_
   refine zA (zD rfl)<|zG<|zC<|zM h fun b9 h=>zA (zi rfl rfl b9)<|zA (zB rfl) ?_
   refine zG ?_
   exact ⟨((i1+1),(l2++[at_ G (((G.length:Int) - 1) - i1)])),zAf [0,1,4] rfl rfl (by kernel_rfl),h⟩
  refine zAH ?_
  exact ⟨l2,zAf [0,1,2] rfl rfl (by kernel_rfl),h⟩
 clear h
 intro l1 h
 unfold zEk at h
 refine zI<|zC<|zA (zR (k:=0) (o:=0) (m:=1) Try.isAgg50 Try.sizeOf50 rfl rfl rfl rfl rfl)<|zA (zB rfl)<|zA (zB rfl)<|zQ h fun x3 w3 h => ?_
 refine zAG (zE6 (j:=2) (ds:=[12,73]) (rows':=List.map cI l1) rfl (zAX (fun _=>rfl)) ⟨rfl,rfl,trivial⟩)<|zQ h fun x4 w4 h=>zZ Try.func80 rfl (by kernel_rfl) (.fn 80) rfl rfl (zEQ w4) rfl<|za (H':=[.box 50 (zJ A),.box 50 (zJ x4),.dead]) (zS (k:=1) (o:=0) (cs:=[(ls (cS cI) ([]:List (List Int)))]) (la:=(zJ x4)) Try.sizeOf50 rfl rfl rfl rfl)<|zA (zD rfl)<|zG ?_
 refine zb ?_
 cases h
 exact zB1 (zF9 Try.isAgg50 Try.sizeOf50 rfl rfl rfl rfl) (zAh rfl rfl) rfl
theorem zIL {A:zH} {B:Int} {G:Int} {r:zH×Bool} (h:zCu A B G=some r):AFn Try.prog 43 [AV.ptr 0 0,li B,li G] [.box 29 ([ls cI A.nodes]++([li A.batch]++([li A.high]++([AV.osl 46 10 (List.map zO A.zones)]++([AV.osl 50 1 (List.map zJ A.caches)]++[])))))] (AV.lit (.bool r.2)) [.box 29 ([ls cI r.1.nodes]++([li r.1.batch]++([li r.1.high]++([AV.osl 46 10 (List.map zO r.1.zones)]++([AV.osl 50 1 (List.map zJ r.1.caches)]++[])))))]:=by
 refine zGK Try.func43 rfl Try.ntmps43 Try.results43 rfl ?_
 unfold zCu at h
 refine zI<|zC<|zA (zD rfl)<|zG<|zI<|zC ?_
 refine zA (zD rfl)<|zG ?_
 refine zAB (r:=r) (fun ((l1,l2):(List zW)×(List Int))=>mkE [(0,(AV.ptr 0 0)),(1,(li B)),(2,(li G)),(7,(AV.hd 1))]) (fun (l1,l2)=>[.box 29 [ls cI A.nodes,li A.batch,li A.high,AV.osl 46 10 (List.map zO l1),AV.osl 50 1 (List.map zJ A.caches)],.vec 3 1 (List.map cI l2)]) (fun (l1,l2)=>zBs A B G l1 l2) ?_ ?_
 ·
  refine zI<|zC<|zA (zB rfl)<|zA (zAZ rfl)<|zA (zL Try.underlying29 rfl rfl Try.sizeOf3 rfl)<|zA (zN Try.isAgg3 rfl rfl rfl rfl) ?_
  refine zA (zB rfl)<|zG<|zV<|zAA (σ:=Int×(List zW)×(List Int)) (fun (i1,l4,l5)=>mkE [(0,(AV.ptr 0 0)),(1,(li B)),(2,(li G)),(7,(AV.hd 1)),(16,(li A.batch)),(17,(li i1))]) (fun (i1,l4,l5)=>[.box 29 [ls cI A.nodes,li A.batch,li A.high,AV.osl 46 10 (List.map zO l4),AV.osl 50 1 (List.map zJ A.caches)],.vec 3 1 (List.map cI l5)]) (fun n0 (i1,l4,l5)=>zDU A B G n0 i1 l4 l5) (0,A.zones,[]) h (fun _=>rfl) (Rep.trans (zO8 (d:=7) (el:=3) (sz:=1) rfl) (zAf [0,1] (l:=[(0,(AV.ptr 0 0)),(1,(li B)),(2,(li G)),(7,(AV.hd 1)),(16,(li A.batch)),(17,(li 0))]) rfl rfl (by kernel_rfl))) ?_
  clear h
  rintro n0 ⟨i1,l4,l5⟩ h
  replace h:zBr A B G (zDU A B G n0) i1 l4 l5=some r:=h
  unfold zBr at h
  refine zI<|zC<|zA (zp rfl rfl)<|zG<|zI ?_
  refine zY h rfl (fun b3 h => ?_) (fun b3 h => ?_)
  ·refine zU<|zI<|zV<|zI<|zC<|zA (zB rfl) ?_
   refine zA (zAZ rfl)<|zA (zL Try.underlying29 rfl rfl Try.sizeOf26 rfl)<|zAG (zBp (k:=0) (o:=3) (t':=46) (sz:=10) (rows:=List.map zO l4) rfl rfl)<|zA (zN Try.isAgg26 rfl rfl rfl rfl)<|zA (zB rfl)<|zM h fun b4 h => ?_
   refine zA (zAN (f:=zO) (l:=l4) (i:=G) Try.underlying26 Try.sizeOf46 rfl rfl rfl b4)<|zA (zDB (f:=zO) (l:=l4) (i:=G) (c:=0) (q:=10) (la:=(zO (at_ l4 G))) Try.isAgg46 Try.sizeOf46 rfl rfl (by first | rfl | omega) b4 rfl rfl rfl)<|zQ h fun x3 w3 h=>zZ Try.func48 rfl (by kernel_rfl) (.fn 48) rfl rfl (zLI w3) rfl<|zA (zB rfl)<|zA (zT rfl rfl) ?_
   refine zA (zT rfl rfl)<|zA (zT rfl rfl)<|zX (H':=[.box 29 [ls cI A.nodes,li A.batch,li A.high,AV.hd 2,AV.osl 50 1 (List.map zJ A.caches)],.vec 3 1 (List.map cI l5),.vec 46 10 (List.map zO l4),.box 46 (zO ⟨0,0,0,0,0,(List.replicate 5 ([]:List Int))⟩)]) zv0<|za (H':=[.box 29 [ls cI A.nodes,li A.batch,li A.high,AV.hd 2,AV.osl 50 1 (List.map zJ A.caches)],.vec 3 1 (List.map cI l5),.vec 46 10 (List.map zO l4),.box 46 (zO x3.1)]) (zS (k:=3) (o:=0) (cs:=(zO ⟨0,0,0,0,0,(List.replicate 5 ([]:List Int))⟩)) (la:=(zO x3.1)) Try.sizeOf46 rfl rfl rfl rfl)<|zA (zD rfl)<|zA (zD rfl) ?_
   refine zG<|zI<|zI<|zC<|zA (zB rfl)<|zA (z5 rfl rfl) ?_
   refine zG ?_
   refine zY h rfl (fun b5 h => ?_) (fun b5 h => ?_)
   ·refine zAH ?_
    exact ⟨(l4,l5),Rep.trans (zAR (k:=0) (j:=2) (o:=3) rfl rfl rfl rfl) (zAf [0,1] (l:=[(0,(AV.ptr 0 0)),(1,(li B)),(2,(li G)),(7,(AV.hd 1))]) rfl rfl (by kernel_rfl)),h⟩
   refine zU<|zI ?_
   refine zBY (n:=70) (m:=1) [.head 0 0,.head 0 0,.head 0 0,.head 0 0,.head 0 0,.head 0 0,.head 0 0,.tail 0] [7] [AV.ptr 0 0,AV.ptr 0 0,AV.ptr 0 3,AV.hd 2,li G,(AV.agg (zO x3.1)),(AV.ptr 2 (G.toNat*10)),.any] [[.box 29 [ls cI A.nodes,li A.batch,li A.high,AV.hd 2,AV.osl 50 1 (List.map zJ A.caches)],.vec 3 1 (List.map cI l5),.vec 46 10 (List.map zO l4),.box 46 (zO x3.1)],[.box 29 [ls cI A.nodes,li A.batch,li A.high,AV.hd 2,AV.osl 50 1 (List.map zJ A.caches)],.vec 3 1 (List.map cI l5),.vec 46 10 (List.map zO (l4.set G.toNat x3.1)),.box 46 (zO x3.1)]] (by kernel_rfl) (by kernel_rfl) ⟨D1 fun e s p=>zB (s 0 rfl),D1 fun e s p=>zAZ p.1,D1 fun e s p=>zL (k:=0) (o:=0) (off:=3) Try.underlying29 rfl rfl Try.sizeOf26 p.1,D1 fun e s p=>zN (k:=0) (o:=3) Try.isAgg26 p.1 rfl rfl rfl,D1 fun e s p=>zB (s 2 rfl),D1 fun e s p=>zR (k:=3) (o:=0) (m:=10) Try.isAgg46 Try.sizeOf46 (s 8 rfl) rfl rfl rfl rfl,D1 fun e s p=>zAN (f:=zO) (l:=l4) (i:=G) Try.underlying26 Try.sizeOf46 p.2.2.2.2.2.1 rfl p.2.2.2.2.2.2.1 b4,?_,trivial⟩ ?_
   ·
    intro e17 s17 p16
    refine za (H':=[.box 29 [ls cI A.nodes,li A.batch,li A.high,AV.hd 2,AV.osl 50 1 (List.map zJ A.caches)],.vec 3 1 (List.map cI l5),.vec 46 10 (List.map zO (l4.set G.toNat x3.1)),.box 46 (zO x3.1)]) (zC6 (k:=2) (o:=(G.toNat*10)) (f:=zO) (l:=l4) (i:=G) (z:=x3.1) Try.sizeOf46 (fun _=>rfl) (by exact p16.1) rfl (by first | rfl | omega) b4 (by exact p16.2.2.2.2.2.2.2.1) rfl) ?_
    exact zG ⟨fun _=>rfl,rfl⟩
   intro e18 s18 hq2
   refine zAx (zCR (l:=[(0,(AV.ptr 0 0)),(1,(li B)),(2,(li G)),(7,(AV.hd 1)),(9,(li x3.2.1)),(16,(li A.batch)),(17,(li i1))]) ⟨s18 0 rfl,s18 1 rfl,s18 2 rfl,s18 7 rfl,s18 9 rfl,s18 16 rfl,s18 17 rfl,trivial⟩)<|zC<|zA (zB (av:=(AV.hd 1)) rfl)<|zA (zB (av:=(li x3.2.1)) rfl)<|zGd (a:=(li x3.2.1)) zHA Try.underlying22 rfl rfl rfl rfl<|zM h fun b6 h => ?_
   refine zET (f:=cI) (k:=1) (j:=4) (l:=l5) (l':=[x3.2.1]) zHA (fun _=>rfl) Try.underlying22 rfl rfl rfl rfl b6<|zA (zD rfl)<|zG<|zC<|zM h fun b7 h=>zA (zi rfl rfl b7) ?_
   refine zA (zB rfl)<|zG ?_
   exact ⟨((i1+1),l4.set G.toNat x3.1,(l5++[x3.2.1])),Rep.trans (zAR (k:=0) (j:=2) (o:=3) rfl rfl rfl rfl) (zAf [0,5] (l:=[(0,(AV.ptr 0 0)),(1,(li B)),(2,(li G)),(7,(AV.hd 1)),(16,(li A.batch)),(17,(li (i1+1)))]) rfl rfl (by kernel_rfl)),h⟩
  refine zAH ?_
  exact ⟨(l4,l5),zAf [0,1] rfl rfl (by kernel_rfl),h⟩
 clear h
 rintro ⟨l1,l2⟩ h
 unfold zBs at h
 refine zAB (r:=r) (fun (l3:List zK)=>mkE [(7,(ls cI l2))]) (fun l3=>[.box 29 [ls cI A.nodes,li A.batch,li A.high,AV.osl 46 10 (List.map zO l1),AV.osl 50 1 (List.map zJ l3)]]) (fun l3=>zDQ A l1 l2 l3) ?_ ?_
 ·
  refine zI<|zC<|zA (zB rfl)<|zA (zAZ rfl)<|zA (zL Try.underlying29 rfl rfl Try.sizeOf27 rfl)<|zAG (zBp (k:=0) (o:=4) (t':=50) (sz:=1) (rows:=List.map zJ A.caches) rfl rfl) ?_
  refine zA (zN Try.isAgg27 rfl rfl rfl rfl)<|zA (zB rfl)<|zM h fun b1 h=>zA (zAN (f:=zJ) (l:=A.caches) (i:=B) Try.underlying27 Try.sizeOf50 rfl rfl rfl b1)<|zA (zDB (f:=zJ) (l:=A.caches) (i:=B) (c:=0) (q:=1) (la:=(zJ (at_ A.caches B))) Try.isAgg50 Try.sizeOf50 rfl rfl (by first | rfl | omega) b1 rfl rfl rfl)<|zA (zB rfl) ?_
  refine zA (zB rfl)<|zQ h fun x1 w1 h=>zAG (zE6 (j:=1) (ds:=[7,54]) (rows':=List.map cI l2) rfl (zAX (fun _=>rfl)) ⟨rfl,rfl,trivial⟩)<|zQ h fun x2 w2 h=>zZ Try.func77 rfl (by kernel_rfl) (.fn 77) rfl rfl (zM3 w2) rfl<|zA (zB rfl) ?_
  refine zA (zT rfl rfl)<|zA (zT rfl rfl)<|zX (H':=[.box 29 [ls cI A.nodes,li A.batch,li A.high,AV.osl 46 10 (List.map zO l1),AV.hd 2],.dead,.vec 50 1 (List.map zJ A.caches),.box 50 [(ls (cS cI) ([]:List (List Int)))]]) zv1<|za (H':=[.box 29 [ls cI A.nodes,li A.batch,li A.high,AV.osl 46 10 (List.map zO l1),AV.hd 2],.dead,.vec 50 1 (List.map zJ A.caches),.box 50 (zJ x2.1)]) (zS (k:=3) (o:=0) (cs:=[(ls (cS cI) ([]:List (List Int)))]) (la:=(zJ x2.1)) Try.sizeOf50 rfl rfl rfl rfl)<|zA (zD rfl)<|zG ?_
  refine zI<|zC<|zA (zB rfl)<|zA (zBG rfl rfl)<|zG ?_
  refine zY h rfl (fun b2 h => ?_) (fun b2 h => ?_)
  ·refine zBY (n:=70) (m:=1) [.head 0 0,.head 0 0,.head 0 0,.head 0 0,.head 0 0,.head 0 0,.head 0 0,.tail 0] [7] [AV.ptr 0 0,AV.ptr 0 0,AV.ptr 0 4,AV.hd 2,li B,(AV.agg (zJ x2.1)),(AV.ptr 2 (B.toNat*1)),.any] [[.box 29 [ls cI A.nodes,li A.batch,li A.high,AV.osl 46 10 (List.map zO l1),AV.hd 2],.dead,.vec 50 1 (List.map zJ A.caches),.box 50 (zJ x2.1)],[.box 29 [ls cI A.nodes,li A.batch,li A.high,AV.osl 46 10 (List.map zO l1),AV.hd 2],.dead,.vec 50 1 (List.map zJ (A.caches.set B.toNat x2.1)),.box 50 (zJ x2.1)]] (by kernel_rfl) (by kernel_rfl) ⟨D1 fun e s p=>zB (s 0 rfl),D1 fun e s p=>zAZ p.1,D1 fun e s p=>zL (k:=0) (o:=0) (off:=4) Try.underlying29 rfl rfl Try.sizeOf27 p.1,D1 fun e s p=>zN (k:=0) (o:=4) Try.isAgg27 p.1 rfl rfl rfl,D1 fun e s p=>zB (s 1 rfl),D1 fun e s p=>zR (k:=3) (o:=0) (m:=1) Try.isAgg50 Try.sizeOf50 (s 11 rfl) rfl rfl rfl rfl,D1 fun e s p=>zAN (f:=zJ) (l:=A.caches) (i:=B) Try.underlying27 Try.sizeOf50 p.2.2.2.2.2.1 rfl p.2.2.2.2.2.2.1 b1,?_,trivial⟩ ?_
   ·
    intro e8 s8 p8
    refine za (H':=[.box 29 [ls cI A.nodes,li A.batch,li A.high,AV.osl 46 10 (List.map zO l1),AV.hd 2],.dead,.vec 50 1 (List.map zJ (A.caches.set B.toNat x2.1)),.box 50 (zJ x2.1)]) (zC6 (k:=2) (o:=(B.toNat*1)) (f:=zJ) (l:=A.caches) (i:=B) (z:=x2.1) Try.sizeOf50 (fun _=>rfl) (by exact p8.1) rfl (by first | rfl | omega) b1 (by exact p8.2.2.2.2.2.2.2.1) rfl) ?_
    exact zG ⟨fun _=>rfl,rfl⟩
   intro e9 s9 hq1
   exact ⟨A.caches.set B.toNat x2.1,Rep.trans (zCR (l:=[(7,(ls cI l2))]) ⟨s9 7 rfl,trivial⟩) (Rep.trans (zAR (k:=0) (j:=2) (o:=4) (cs:=[ls cI A.nodes,li A.batch,li A.high,AV.osl 46 10 (List.map zO l1),AV.hd 2]) rfl rfl rfl rfl) (zAf [0] (l:=[(7,(ls cI l2))]) rfl rfl (by kernel_rfl))),h⟩
  refine zU ?_
  exact ⟨A.caches,Rep.trans (zAR (k:=0) (j:=2) (o:=4) rfl rfl rfl rfl) (zAf [0] (l:=[(7,(ls cI l2))]) rfl rfl (by kernel_rfl)),h⟩
 clear h
 intro l3 h
 unfold zDQ at h
 refine zI<|zC<|zA (zB rfl)<|zA (zf Try.underlying22 rfl)<|zA (zCQ rfl rfl)<|zA (zD rfl) ?_
 refine zG<|zb ?_
 cases h
 exact ⟨mkE [(6,(AV.lit (.bool (decide (0<(l2.length:Int))))))],[.box 29 [ls cI A.nodes,li A.batch,li A.high,AV.osl 46 10 (List.map zO l1),AV.osl 50 1 (List.map zJ l3)]],zAf [0] rfl rfl (by kernel_rfl),zTD rfl rfl⟩
theorem zNX {J:zK} {R:Int} {r:zK×(List Int)×Int} (h:zHT J R=some r):PFn Try.prog 78 [(AV.agg (zJ J)),li R] (AV.tup [(AV.agg (zJ r.1)),ls cI r.2.1,li r.2.2]):=by
 refine zq Try.func78 rfl Try.ntmps78 Try.results78 rfl ?_
 unfold zHT at h
 refine zI<|zC<|zX (H':=[.box 50 (zJ J)]) (z6 (t:=50) rfl)<|zX (H':=[.box 50 (zJ J),.box 50 [(ls (cS cI) ([]:List (List Int)))]]) zv1<|zA (zD rfl)<|zA (zD rfl) ?_
 refine zG<|zI<|zI<|zC<|zA (zR (k:=0) (o:=0) (m:=1) Try.isAgg50 Try.sizeOf50 rfl rfl rfl rfl rfl)<|zA (zB rfl) ?_
 refine zQ h fun x1 w1 h=>zZ Try.func79 rfl (by kernel_rfl) (.fn 79) rfl rfl (zGq w1) rfl<|zA (zD rfl)<|zG<|zI<|zC ?_
 refine zA (zB rfl)<|zA (z5 rfl rfl)<|zG ?_
 refine zY h rfl (fun b1 h => ?_) (fun b1 h => ?_)
 ·refine zI<|zC<|zA zv2<|zA (zB rfl)<|za (H':=[.box 50 (zJ J),.box 50 (zJ (⟨([]:List (List Int))⟩:zK))]) (zS (k:=1) (o:=0) (cs:=[(ls (cS cI) ([]:List (List Int)))]) (la:=(zJ (⟨([]:List (List Int))⟩:zK))) Try.sizeOf50 rfl rfl rfl rfl)<|zA (zD rfl) ?_
  refine zA (zD rfl)<|zG<|zb ?_
  cases h
  exact zEE (zF9 Try.isAgg50 Try.sizeOf50 rfl rfl rfl rfl) (zIf (zAh rfl rfl) zA9.nils) (zAh rfl rfl) rfl
 refine zU<|zI<|zC<|zA (zL Try.underlying50 rfl rfl Try.sizeOf48 rfl)<|zA (zN Try.isAgg48 rfl rfl rfl rfl)<|zA (zB rfl) ?_
 refine zM h fun b2 h=>zA (zj Try.underlying48 Try.sizeOf22 (fun _=>rfl) rfl rfl b2)<|zA (zm (o:=0) Try.isAgg22 rfl rfl)<|zA (zf Try.underlying22 rfl)<|zM h fun b3 h=>zGc (f:=cI) (a:=((at_ J.lists R).length:Int)) (c:=((at_ J.lists R).length:Int)) (d0:=0) zHA ⟨zA9.refl _,trivial⟩ rfl Try.underlying22 rfl rfl b3 ?_
 refine zA (zD rfl)<|zG<|zI<|zC<|zA (zB rfl)<|zA (zL Try.underlying50 rfl rfl Try.sizeOf48 rfl) ?_
 refine zA (zN Try.isAgg48 rfl rfl rfl rfl)<|zA (zB rfl)<|zA (zj Try.underlying48 Try.sizeOf22 (fun _=>rfl) rfl rfl b2)<|zA (zm (o:=0) Try.isAgg22 rfl rfl)<|zX (H':=[.box 50 (zJ J),.box 50 [(ls (cS cI) ([]:List (List Int)))],.vec 3 1 (List.map cI (zCm (List.replicate ((at_ J.lists R).length:Int).toNat 0) (at_ J.lists R)))]) (zKw (f:=cI) (k:=2) (l:=List.replicate ((at_ J.lists R).length:Int).toNat 0) (l2:=at_ J.lists R) Try.underlying22 Try.sizeOf3 (fun _=>rfl) rfl rfl rfl)<|zG ?_
 refine zI<|zC<|zA (zR (k:=0) (o:=0) (m:=1) Try.isAgg50 Try.sizeOf50 rfl rfl rfl rfl rfl)<|zA (zB rfl)<|zQ h fun x2 w2 h=>zAr (r':=(AV.agg (zJ x2))) (la:=[(AV.agg (zJ J)),li R,(AV.lit (.slice none 0 0))]) (la':=[(AV.agg (zJ J)),li R,(ls cI [])]) (r:=(AV.agg (zJ x2))) (S:=[]) Try.func80 rfl (by kernel_rfl) (.fn 80) rfl ⟨zA8.nr rfl,zA8.nr rfl,zA8.sub zA9.nils rfl,trivial⟩ (zEQ w2) (.inl rfl) rfl ?_
 refine zA (zB rfl)<|za (H':=[.box 50 (zJ J),.box 50 (zJ x2),.vec 3 1 (List.map cI (zCm (List.replicate ((at_ J.lists R).length:Int).toNat 0) (at_ J.lists R)))]) (zS (k:=1) (o:=0) (cs:=[(ls (cS cI) ([]:List (List Int)))]) (la:=(zJ x2)) Try.sizeOf50 rfl rfl rfl rfl)<|zA (zD rfl)<|zA (zD rfl)<|zG<|zAx (zE6 (j:=2) (ds:=[5,8,22,23,33]) (rows':=List.map cI (zCm (List.replicate ((at_ J.lists R).length:Int).toNat 0) (at_ J.lists R))) rfl (zAX (fun _=>rfl)) ⟨rfl,rfl,rfl,rfl,rfl,trivial⟩) ?_
 refine zb ?_
 cases h
 exact zEE (zF9 Try.isAgg50 Try.sizeOf50 rfl rfl rfl rfl) (zAh rfl rfl) (zAh rfl rfl) rfl
theorem zO3 {D:zW} {X:Int} {E:Int} {r:zW×Int} (h:zIB D X E=some r):PFn Try.prog 81 [(AV.agg (zO D)),li X,li E] (AV.tup [(AV.agg (zO r.1)),li r.2]):=by
 refine zq Try.func81 rfl Try.ntmps81 Try.results81 rfl ?_
 unfold zIB at h
 refine zI<|zC<|zX (H':=[.box 46 (zO D)]) (z6 (t:=46) rfl)<|zX (H':=[.box 46 (zO D),.box 46 ([li 0]++([li 0]++([li 0]++([li 0]++([li 0]++((cA 5 (eS cI) ([]:List Int) (List.replicate 5 ([]:List Int)))++[]))))))]) zv0<|zA (zD rfl)<|zG ?_
 refine zI<|zI<|zC<|zA (zR (k:=0) (o:=0) (m:=10) Try.isAgg46 Try.sizeOf46 rfl rfl rfl rfl rfl)<|zQ h fun x1 w1 h=>zZ Try.func36 rfl (by kernel_rfl) (.fn 36) rfl rfl (zED w1) rfl ?_
 refine zA (zD rfl)<|zG<|zI<|zC<|zA (zB rfl)<|zA (z5 rfl rfl) ?_
 refine zG ?_
 refine zY h rfl (fun b1 h => ?_) (fun b1 h => ?_)
 ·refine zI<|zC<|zA zv9<|zA (zB rfl)<|za (H':=[.box 46 (zO D),.box 46 (zO (⟨0,0,0,0,0,(List.replicate 5 ([]:List Int))⟩:zW))]) (zS (k:=1) (o:=0) (cs:=([li 0]++([li 0]++([li 0]++([li 0]++([li 0]++((cA 5 (eS cI) ([]:List Int) (List.replicate 5 ([]:List Int)))++[]))))))) (la:=(zO (⟨0,0,0,0,0,(List.replicate 5 ([]:List Int))⟩:zW))) Try.sizeOf46 rfl rfl rfl rfl)<|zA (zD rfl) ?_
  refine zG<|zb ?_
  cases h
  exact zB1 (zF9 Try.isAgg46 Try.sizeOf46 rfl rfl rfl rfl) (zAh rfl rfl) rfl
 refine zU<|zI<|zI<|zC<|zA (zB rfl)<|zA (zp rfl rfl) ?_
 refine zA (zB rfl)<|zd rfl rfl (fun c1=>zv.step (zB rfl))<|zd rfl rfl (fun c2=>zv.step (zCQ (zAJ rfl c2) rfl))<|zA (zh rfl rfl)<|zA (zB rfl)<|zd rfl rfl (fun c3=>zv.step (zR (k:=0) (o:=0) (m:=10) Try.isAgg46 Try.sizeOf46 rfl rfl rfl rfl rfl)) ?_
 refine zd rfl rfl (fun c4=>zv.step (zB rfl))<|zd rfl rfl (fun c5=>zv.step (zB rfl))<|zQ h fun x2 w2 h=>zDf (g:=25) (s:=(decide (E<0))||(decide (4<E))) (r':=(AV.lit (.bool x2))) rfl rfl (fun c6=>⟨62,_,_,[],[(AV.agg (zO D)),li X,li E],[(AV.agg ([li D.node]++([li D.kind]++([li D.start]++([li D.count]++([li D.min]++([AV.any,AV.any,AV.any,AV.any,AV.any]++[]))))))),li X,li E],(AV.lit (.bool x2)),[],Try.func62,rfl,by kernel_rfl,.fn 62,(zAV (zAJ rfl c6) (zAV (zAJ rfl c6) (zAV (zAJ rfl c6) rfl))),⟨zKu (hd:=([li D.node]++[li D.kind]++[li D.start]++[li D.count]++[li D.min])) (tl:=((cA 5 (eS cI) ([]:List Int) D.free))) rfl,zA8.nr rfl,zA8.nr rfl,trivial⟩,zEN (zG9 c6 w2),.inl rfl,rfl⟩)<|zd rfl rfl (fun c7=>zv.step (zBK (t:=x2) (zAJ rfl c7)))<|zA (zh rfl rfl) ?_
 refine zG ?_
 refine zY h rfl (fun b2 h => ?_) (fun b2 h => ?_)
 ·refine zI<|zC<|zA zv9<|za (H':=[.box 46 (zO D),.box 46 (zO (⟨0,0,0,0,0,(List.replicate 5 ([]:List Int))⟩:zW))]) (zS (k:=1) (o:=0) (cs:=([li 0]++([li 0]++([li 0]++([li 0]++([li 0]++((cA 5 (eS cI) ([]:List Int) (List.replicate 5 ([]:List Int)))++[]))))))) (la:=(zO (⟨0,0,0,0,0,(List.replicate 5 ([]:List Int))⟩:zW))) Try.sizeOf46 rfl rfl rfl rfl)<|zA (zD rfl)<|zG ?_
  refine zb ?_
  cases h
  exact zB1 (zF9 Try.isAgg46 Try.sizeOf46 rfl rfl rfl rfl) (zAh rfl rfl) rfl
 refine zU ?_
 refine zAB (r:=r) (fun (_:Unit)=>mkE [(1,(li X)),(2,(li E)),(3,(AV.ptr 0 0)),(6,(AV.ptr 1 0))]) (fun _=>[.box 46 (zO D),.box 46 ([li 0]++([li 0]++([li 0]++([li 0]++([li 0]++((cA 5 (eS cI) ([]:List Int) (List.replicate 5 ([]:List Int)))++[]))))))]) (fun _=>zH6 D X E) ?_ ?_
 ·
  refine zI<|zC<|zA (zB rfl)<|zA (zD rfl)<|zG<|zV ?_
  refine zAA (σ:=Int) (fun i1=>mkE [(1,(li X)),(2,(li E)),(3,(AV.ptr 0 0)),(6,(AV.ptr 1 0)),(9,(li i1))]) (fun i1=>[.box 46 (zO D),.box 46 ([li 0]++([li 0]++([li 0]++([li 0]++([li 0]++((cA 5 (eS cI) ([]:List Int) (List.replicate 5 ([]:List Int)))++[]))))))]) (fun n0 i1=>zGZ D X E n0 i1) X h (fun _=>rfl) (zAf [0,1] rfl rfl (by kernel_rfl)) ?_
  clear h
  intro n0 i1 h
  replace h:zEZ D X E (zGZ D X E n0) i1=some r:=h
  unfold zEZ at h
  refine zI<|zI<|zC<|zA (zB rfl)<|zA (zB rfl)<|zA (zB rfl) ?_
  refine zM h fun b3 h=>zM h fun b4 h=>zA (zGt (a:=1) (b:=E) rfl rfl b3 b4)<|zM h fun b5 h=>zA (zi rfl rfl b5)<|zA (zp rfl rfl) ?_
  refine zG ?_
  refine zY h rfl (fun b6 h => ?_) (fun b6 h => ?_)
  ·refine zU<|zI<|zV<|zI<|zC<|zA (zR (k:=0) (o:=0) (m:=10) Try.isAgg46 Try.sizeOf46 rfl rfl rfl rfl rfl) ?_
   refine zA (zB rfl)<|zQ h fun x5 w5 h=>zZ Try.func66 rfl (by kernel_rfl) (.fn 66) rfl rfl (zJE w5) rfl<|zA (zB rfl)<|zA (zT rfl rfl)<|zA (zT rfl rfl) ?_
   refine zA (zD rfl)<|zA (zD rfl)<|zG<|zI<|zC<|zA (zB rfl) ?_
   refine zA (zBn rfl rfl)<|zG ?_
   refine zY h rfl (fun b7 h => ?_) (fun b7 h => ?_)
   ·refine zI<|zC<|zA zv9<|za (H':=[.box 46 (zO D),.box 46 (zO (⟨0,0,0,0,0,(List.replicate 5 ([]:List Int))⟩:zW))]) (zS (k:=1) (o:=0) (cs:=([li 0]++([li 0]++([li 0]++([li 0]++([li 0]++((cA 5 (eS cI) ([]:List Int) (List.replicate 5 ([]:List Int)))++[]))))))) (la:=(zO (⟨0,0,0,0,0,(List.replicate 5 ([]:List Int))⟩:zW))) Try.sizeOf46 rfl rfl rfl rfl)<|zA (zD rfl)<|zG ?_
    refine zb ?_
    cases h
    exact zB1 (zF9 Try.isAgg46 Try.sizeOf46 rfl rfl rfl rfl) (zAh rfl rfl) rfl
   refine zU<|zC<|zA (zB rfl)<|zM h fun b8 h=>zA (zi rfl rfl b8)<|zA (zD rfl) ?_
   refine zG ?_
   exact ⟨(i1+1),zAf [0,1] rfl rfl (by kernel_rfl),h⟩
  refine zAH ?_
  exact ⟨(),zAf [0,1] rfl rfl (by kernel_rfl),h⟩
 clear h
 intro _ h
 unfold zH6 at h
 refine zI<|zC<|zA (zR (k:=0) (o:=0) (m:=10) Try.isAgg46 Try.sizeOf46 rfl rfl rfl rfl rfl)<|zQ h fun x3 w3 h=>zHY (cs:=([li x3.node]++([li x3.kind]++([li x3.start]++([li x3.count]++([li x3.min]++((cM 5 3 (5:Int) x3.free)++[]))))))) (la:=[(AV.agg (zO D))]) (la':=[(AV.agg (zO D))]) (S:=[]) Try.func82 rfl (by kernel_rfl) (.fn 82) rfl ⟨zA8.nr rfl,trivial⟩ (zI0 w3) (.inl rfl)<|zX (H':=[.box 46 (zO D),.box 46 ([li 0]++([li 0]++([li 0]++([li 0]++([li 0]++((cA 5 (eS cI) ([]:List Int) (List.replicate 5 ([]:List Int)))++[])))))),.val (.agg ([li x3.node]++([li x3.kind]++([li x3.start]++([li x3.count]++([li x3.min]++((cM 5 3 (5:Int) x3.free)++[]))))))),.box 46 ([li 0]++([li 0]++([li 0]++([li 0]++([li 0]++((cA 5 (eS cI) ([]:List Int) (List.replicate 5 ([]:List Int)))++[]))))))]) zv0 ?_
 refine za (H':=[.box 46 (zO D),.box 46 ([li 0]++([li 0]++([li 0]++([li 0]++([li 0]++((cA 5 (eS cI) ([]:List Int) (List.replicate 5 ([]:List Int)))++[])))))),.dead,.box 46 ([li x3.node]++([li x3.kind]++([li x3.start]++([li x3.count]++([li x3.min]++((cM 5 3 (5:Int) x3.free)++[]))))))]) (zDz (k:=3) (o:=0) (j:=2) (cs:=([li 0]++([li 0]++([li 0]++([li 0]++([li 0]++((cA 5 (eS cI) ([]:List Int) (List.replicate 5 ([]:List Int)))++[]))))))) (la:=([li x3.node]++([li x3.kind]++([li x3.start]++([li x3.count]++([li x3.min]++((cM 5 3 (5:Int) x3.free)++[]))))))) Try.sizeOf46 rfl rfl rfl rfl rfl (by decide))<|zG<|zI<|zC<|zA (zB rfl)<|zA (zB rfl) ?_
 refine zQ h fun x4 w4 h=>zEm (k:=3) (la:=[AV.ptr 3 0,li X,li E]) (la':=[AV.ptr 0 0,li X,li E]) (r:=(.tup [])) (S:=[]) (en' := .box 46 ([li x4.node]++([li x4.kind]++([li x4.start]++([li x4.count]++([li x4.min]++((cM 5 3 (5:Int) x4.free)++[]))))))) Try.func52 rfl (by kernel_rfl) (.fn 52) rfl ⟨zC3.ptr,zC3.of (zA8.nr rfl),zC3.of (zA8.nr rfl),trivial⟩ rfl rfl (by kernel_rfl) (by kernel_rfl) (zMw w4) rfl (.inl rfl)<|zG<|zI<|zC<|zAG (zKX (k:=3) (cs:=([li x4.node]++([li x4.kind]++([li x4.start]++([li x4.count]++([li x4.min]++((cM 5 3 (5:Int) x4.free)++[]))))))) (hd:=([li x4.node]++[li x4.kind]++[li x4.start]++[li x4.count]++[li x4.min]++[])) (tl:=([])) (N:=5) (T:=3) (K:=5) (l:=x4.free) rfl rfl) ?_
 refine zA (zR (k:=3) (o:=0) (m:=10) Try.isAgg46 Try.sizeOf46 rfl rfl rfl rfl rfl)<|za (H':=[.box 46 (zO D),.box 46 (zO (⟨x4.node,x4.kind,x4.start,x4.count,x4.min,x4.free⟩:zW)),.dead,.box 46 ([li x4.node]++([li x4.kind]++([li x4.start]++([li x4.count]++([li x4.min]++((cA 5 (eS cI) ([]:List Int) x4.free)++[]))))))]) (zS (k:=1) (o:=0) (cs:=([li 0]++([li 0]++([li 0]++([li 0]++([li 0]++((cA 5 (eS cI) ([]:List Int) (List.replicate 5 ([]:List Int)))++[]))))))) (la:=(zO (⟨x4.node,x4.kind,x4.start,x4.count,x4.min,x4.free⟩:zW))) Try.sizeOf46 rfl rfl rfl rfl)<|zA (zD rfl)<|zG<|zb ?_
 cases h
 exact zB1 (zF9 Try.isAgg46 Try.sizeOf46 rfl rfl rfl rfl) (zAh rfl rfl) rfl
theorem zJT {C:zH} {D:Int} {uI:List Int} {r:zH} (h:zD6 C D uI=some r):AFn Try.prog 47 [AV.ptr 0 0,li D,ls cI uI] [.box 29 ([ls cI C.nodes]++([li C.batch]++([li C.high]++([AV.osl 46 10 (List.map zO C.zones)]++([AV.osl 50 1 (List.map zJ C.caches)]++[])))))] (.tup []) [.box 29 ([ls cI r.nodes]++([li r.batch]++([li r.high]++([AV.osl 46 10 (List.map zO r.zones)]++([AV.osl 50 1 (List.map zJ r.caches)]++[])))))]:=by
 refine zGK Try.func47 rfl Try.ntmps47 Try.results47 rfl ?_
 unfold zD6 at h
 refine zI<|zC<|zA (zB rfl)<|zA (zf Try.underlying22 rfl)<|zA (zB rfl)<|zG ?_
 refine zV<|zAA (σ:=Int×(List zW)) (fun (i1,l1)=>mkE [(0,(AV.ptr 0 0)),(1,(li D)),(10,(ls cI uI)),(11,(li (uI.length:Int))),(12,(li i1))]) (fun (i1,l1)=>[.box 29 [ls cI C.nodes,li C.batch,li C.high,AV.osl 46 10 (List.map zO l1),AV.osl 50 1 (List.map zJ C.caches)]]) (fun n0 (i1,l1)=>zDI C D uI n0 i1 l1) (0,C.zones) h (fun _=>rfl) (zAf [0] rfl rfl (by kernel_rfl)) ?_
 clear h
 rintro n0 ⟨i1,l1⟩ h
 replace h:zCX C D uI (zDI C D uI n0) i1 l1=some r:=h
 unfold zCX at h
 refine zI<|zC<|zA (zp rfl rfl)<|zG<|zI ?_
 refine zY h rfl (fun b1 h => ?_) (fun b1 h => ?_)
 ·refine zU ?_
  refine zAB (r:=r) (fun (l2:List zW)=>mkE [(0,(AV.ptr 0 0)),(1,(li D)),(10,(ls cI uI)),(11,(li (uI.length:Int))),(12,(li i1))]) (fun l2=>[.box 29 [ls cI C.nodes,li C.batch,li C.high,AV.osl 46 10 (List.map zO l2),AV.osl 50 1 (List.map zJ C.caches)]]) (fun l2=>zEK (zDI C D uI n0) i1 l2) ?_ ?_
  ·
   refine zV<|zI<|zC<|zM h fun b3 h=>zA (zj Try.underlying22 Try.sizeOf3 (fun _=>rfl) rfl rfl b3)<|zA (zm (o:=0) Try.isAgg3 rfl rfl) ?_
   refine zA (zD rfl)<|zG<|zI<|zC<|zA (zB rfl)<|zA (zAZ rfl) ?_
   refine zA (zL Try.underlying29 rfl rfl Try.sizeOf26 rfl)<|zAG (zBp (k:=0) (o:=3) (t':=46) (sz:=10) (rows:=List.map zO l1) rfl rfl)<|zA (zN Try.isAgg26 rfl rfl rfl rfl)<|zA (zB rfl)<|zM h fun b4 h=>zA (zAN (f:=zO) (l:=l1) (i:=D) Try.underlying26 Try.sizeOf46 rfl rfl rfl b4) ?_
   refine zA (zDB (f:=zO) (l:=l1) (i:=D) (c:=0) (q:=10) (la:=(zO (at_ l1 D))) Try.isAgg46 Try.sizeOf46 rfl rfl (by first | rfl | omega) b4 rfl rfl rfl)<|zA (zB rfl)<|zQ h fun x1 w1 h=>zZ Try.func81 rfl (by kernel_rfl) (.fn 81) rfl rfl (zO3 w1) rfl<|zA (zB rfl)<|zA (zT rfl rfl) ?_
   refine zA (zT rfl rfl)<|zX (H':=[.box 29 [ls cI C.nodes,li C.batch,li C.high,AV.hd 1,AV.osl 50 1 (List.map zJ C.caches)],.vec 46 10 (List.map zO l1),.box 46 (zO ⟨0,0,0,0,0,(List.replicate 5 ([]:List Int))⟩)]) zv0<|za (H':=[.box 29 [ls cI C.nodes,li C.batch,li C.high,AV.hd 1,AV.osl 50 1 (List.map zJ C.caches)],.vec 46 10 (List.map zO l1),.box 46 (zO x1.1)]) (zS (k:=2) (o:=0) (cs:=(zO ⟨0,0,0,0,0,(List.replicate 5 ([]:List Int))⟩)) (la:=(zO x1.1)) Try.sizeOf46 rfl rfl rfl rfl)<|zA (zD rfl)<|zG<|zI ?_
   refine zC<|zA (zB rfl)<|zA (zBG rfl rfl)<|zG ?_
   refine zY h rfl (fun b5 h => ?_) (fun b5 h => ?_)
   ·refine zBY (n:=38) (m:=1) [.head 0 0,.head 0 0,.head 0 0,.head 0 0,.head 0 0,.head 0 0,.head 0 0,.tail 0] [7] [AV.ptr 0 0,AV.ptr 0 0,AV.ptr 0 3,AV.hd 1,li D,(AV.agg (zO x1.1)),(AV.ptr 1 (D.toNat*10)),.any] [[.box 29 [ls cI C.nodes,li C.batch,li C.high,AV.hd 1,AV.osl 50 1 (List.map zJ C.caches)],.vec 46 10 (List.map zO l1),.box 46 (zO x1.1)],[.box 29 [ls cI C.nodes,li C.batch,li C.high,AV.hd 1,AV.osl 50 1 (List.map zJ C.caches)],.vec 46 10 (List.map zO (l1.set D.toNat x1.1)),.box 46 (zO x1.1)]] (by kernel_rfl) (by kernel_rfl) ⟨D1 fun e s p=>zB (s 0 rfl),D1 fun e s p=>zAZ p.1,D1 fun e s p=>zL (k:=0) (o:=0) (off:=3) Try.underlying29 rfl rfl Try.sizeOf26 p.1,D1 fun e s p=>zN (k:=0) (o:=3) Try.isAgg26 p.1 rfl rfl rfl,D1 fun e s p=>zB (s 1 rfl),D1 fun e s p=>zR (k:=2) (o:=0) (m:=10) Try.isAgg46 Try.sizeOf46 (s 8 rfl) rfl rfl rfl rfl,D1 fun e s p=>zAN (f:=zO) (l:=l1) (i:=D) Try.underlying26 Try.sizeOf46 p.2.2.2.2.2.1 rfl p.2.2.2.2.2.2.1 b4,?_,trivial⟩ ?_
    ·
     intro e8 s8 p8
     refine za (H':=[.box 29 [ls cI C.nodes,li C.batch,li C.high,AV.hd 1,AV.osl 50 1 (List.map zJ C.caches)],.vec 46 10 (List.map zO (l1.set D.toNat x1.1)),.box 46 (zO x1.1)]) (zC6 (k:=1) (o:=(D.toNat*10)) (f:=zO) (l:=l1) (i:=D) (z:=x1.1) Try.sizeOf46 (fun _=>rfl) (by exact p8.1) rfl (by first | rfl | omega) b4 (by exact p8.2.2.2.2.2.2.2.1) rfl) ?_
     exact zG ⟨fun _=>rfl,rfl⟩
    intro e9 s9 hq1
    exact ⟨l1.set D.toNat x1.1,Rep.trans (zCR (l:=[(0,(AV.ptr 0 0)),(1,(li D)),(10,(ls cI uI)),(11,(li (uI.length:Int))),(12,(li i1))]) ⟨s9 0 rfl,s9 1 rfl,s9 10 rfl,s9 11 rfl,s9 12 rfl,trivial⟩) (Rep.trans (zAR (k:=0) (j:=1) (o:=3) (cs:=[ls cI C.nodes,li C.batch,li C.high,AV.hd 1,AV.osl 50 1 (List.map zJ C.caches)]) rfl rfl rfl rfl) (zAf [0] (l:=[(0,(AV.ptr 0 0)),(1,(li D)),(10,(ls cI uI)),(11,(li (uI.length:Int))),(12,(li i1))]) rfl rfl (by kernel_rfl))),h⟩
   refine zU ?_
   exact ⟨l1,Rep.trans (zAR (k:=0) (j:=1) (o:=3) rfl rfl rfl rfl) (zAf [0] (l:=[(0,(AV.ptr 0 0)),(1,(li D)),(10,(ls cI uI)),(11,(li (uI.length:Int))),(12,(li i1))]) rfl rfl (by kernel_rfl)),h⟩
  clear h
  intro l2 h
  unfold zEK at h
  refine zC<|zM h fun b2 h=>zA (zi rfl rfl b2)<|zA (zB rfl)<|zG ?_
  exact ⟨((i1+1),l2),zAf [0] rfl rfl (by kernel_rfl),h⟩
 refine zAH ?_
 cases h
 exact ⟨mkE [],[.box 29 [ls cI C.nodes,li C.batch,li C.high,AV.osl 46 10 (List.map zO l1),AV.osl 50 1 (List.map zJ C.caches)]],zAf [0] rfl rfl (by kernel_rfl),zNa rfl⟩
theorem zGX {C:zH} {uR:Int} {D:Int} {r:zH} (h:zDP C uR D=some r):AFn Try.prog 44 [AV.ptr 0 0,li uR,li D] [.box 29 ([ls cI C.nodes]++([li C.batch]++([li C.high]++([AV.osl 46 10 (List.map zO C.zones)]++([AV.osl 50 1 (List.map zJ C.caches)]++[])))))] (.tup []) [.box 29 ([ls cI r.nodes]++([li r.batch]++([li r.high]++([AV.osl 46 10 (List.map zO r.zones)]++([AV.osl 50 1 (List.map zJ r.caches)]++[])))))]:=by
 refine zGK Try.func44 rfl Try.ntmps44 Try.results44 rfl ?_
 unfold zDP at h
 refine zI<|zC<|zA (zB rfl)<|zA (zAZ rfl)<|zA (zL Try.underlying29 rfl rfl Try.sizeOf27 rfl)<|zAG (zBp (k:=0) (o:=4) (t':=50) (sz:=1) (rows:=List.map zJ C.caches) rfl rfl) ?_
 refine zA (zN Try.isAgg27 rfl rfl rfl rfl)<|zA (zB rfl)<|zM h fun b1 h=>zA (zAN (f:=zJ) (l:=C.caches) (i:=uR) Try.underlying27 Try.sizeOf50 rfl rfl rfl b1)<|zA (zDB (f:=zJ) (l:=C.caches) (i:=uR) (c:=0) (q:=1) (la:=(zJ (at_ C.caches uR))) Try.isAgg50 Try.sizeOf50 rfl rfl (by first | rfl | omega) b1 rfl rfl rfl)<|zA (zB rfl) ?_
 refine zQ h fun x1 w1 h=>zZ Try.func78 rfl (by kernel_rfl) (.fn 78) rfl rfl (zNX w1) rfl<|zA (zB rfl)<|zA (zT rfl rfl)<|zA (zT rfl rfl)<|zA (zT rfl rfl) ?_
 refine zX (H':=[.box 29 [ls cI C.nodes,li C.batch,li C.high,AV.osl 46 10 (List.map zO C.zones),AV.hd 1],.vec 50 1 (List.map zJ C.caches),.box 50 [(ls (cS cI) ([]:List (List Int)))]]) zv1<|za (H':=[.box 29 [ls cI C.nodes,li C.batch,li C.high,AV.osl 46 10 (List.map zO C.zones),AV.hd 1],.vec 50 1 (List.map zJ C.caches),.box 50 (zJ x1.1)]) (zS (k:=2) (o:=0) (cs:=[(ls (cS cI) ([]:List (List Int)))]) (la:=(zJ x1.1)) Try.sizeOf50 rfl rfl rfl rfl)<|zA (zD rfl)<|zA (zD rfl)<|zG<|zI ?_
 refine zC<|zA (zB rfl)<|zA (zBG rfl rfl)<|zG ?_
 refine zY h rfl (fun b2 h => ?_) (fun b2 h => ?_)
 ·refine zI ?_
  refine zBY (n:=35) (m:=1) [.head 0 0,.head 0 0,.head 0 0,.head 0 0,.head 0 0,.head 0 0,.head 0 0,.tail 0] [7] [AV.ptr 0 0,AV.ptr 0 0,AV.ptr 0 4,AV.hd 1,li uR,(AV.agg (zJ x1.1)),(AV.ptr 1 (uR.toNat*1)),.any] [[.box 29 [ls cI C.nodes,li C.batch,li C.high,AV.osl 46 10 (List.map zO C.zones),AV.hd 1],.vec 50 1 (List.map zJ C.caches),.box 50 (zJ x1.1)],[.box 29 [ls cI C.nodes,li C.batch,li C.high,AV.osl 46 10 (List.map zO C.zones),AV.hd 1],.vec 50 1 (List.map zJ (C.caches.set uR.toNat x1.1)),.box 50 (zJ x1.1)]] (by kernel_rfl) (by kernel_rfl) ⟨D1 fun e s p=>zB (s 0 rfl),D1 fun e s p=>zAZ p.1,D1 fun e s p=>zL (k:=0) (o:=0) (off:=4) Try.underlying29 rfl rfl Try.sizeOf27 p.1,D1 fun e s p=>zN (k:=0) (o:=4) Try.isAgg27 p.1 rfl rfl rfl,D1 fun e s p=>zB (s 1 rfl),D1 fun e s p=>zR (k:=2) (o:=0) (m:=1) Try.isAgg50 Try.sizeOf50 (s 6 rfl) rfl rfl rfl rfl,D1 fun e s p=>zAN (f:=zJ) (l:=C.caches) (i:=uR) Try.underlying27 Try.sizeOf50 p.2.2.2.2.2.1 rfl p.2.2.2.2.2.2.1 b1,?_,trivial⟩ ?_
  ·
   intro e8 s8 p8
   refine za (H':=[.box 29 [ls cI C.nodes,li C.batch,li C.high,AV.osl 46 10 (List.map zO C.zones),AV.hd 1],.vec 50 1 (List.map zJ (C.caches.set uR.toNat x1.1)),.box 50 (zJ x1.1)]) (zC6 (k:=1) (o:=(uR.toNat*1)) (f:=zJ) (l:=C.caches) (i:=uR) (z:=x1.1) Try.sizeOf50 (fun _=>rfl) (by exact p8.1) rfl (by first | rfl | omega) b1 (by exact p8.2.2.2.2.2.2.2.1) rfl) ?_
   exact zG ⟨fun _=>rfl,rfl⟩
  intro e9 s9 hq1
  refine zAx (zCR (l:=[(0,(AV.ptr 0 0)),(2,(li D)),(7,(ls cI x1.2.1))]) ⟨s9 0 rfl,s9 2 rfl,s9 7 rfl,trivial⟩)<|zC<|zA (zB (av:=(AV.ptr 0 0)) rfl)<|zA (zB (av:=(li D)) rfl)<|zA (zB (av:=(ls cI x1.2.1)) rfl)<|zAG (zAR (k:=0) (j:=1) (o:=4) (cs:=[ls cI C.nodes,li C.batch,li C.high,AV.osl 46 10 (List.map zO C.zones),AV.hd 1]) rfl rfl rfl rfl) ?_
  refine zQ h fun x2 w2 h=>zEm (k:=0) (la:=[AV.ptr 0 0,li D,ls cI x1.2.1]) (la':=[AV.ptr 0 0,li D,ls cI x1.2.1]) (r:=(.tup [])) (S:=[]) (en' := .box 29 [ls cI x2.nodes,li x2.batch,li x2.high,AV.osl 46 10 (List.map zO x2.zones),AV.osl 50 1 (List.map zJ x2.caches)]) Try.func47 rfl (by kernel_rfl) (.fn 47) rfl ⟨zC3.ptr,zC3.of (zA8.nr rfl),zC3.of (zA8.nr rfl),trivial⟩ rfl rfl (by kernel_rfl) (by kernel_rfl) (zJT w2) rfl (.inl rfl)<|zG ?_
  cases h
  exact ⟨mkE [],[.box 29 [ls cI x2.nodes,li x2.batch,li x2.high,AV.osl 46 10 (List.map zO x2.zones),AV.osl 50 1 (List.map zJ x2.caches)]],zAf [0] rfl rfl (by kernel_rfl),zNa rfl⟩
 refine zU ?_
 cases h
 exact ⟨mkE [],[.box 29 [ls cI C.nodes,li C.batch,li C.high,AV.osl 46 10 (List.map zO C.zones),AV.osl 50 1 (List.map zJ C.caches)]],Rep.trans (zAR (k:=0) (j:=1) (o:=4) rfl rfl rfl rfl) (zAf [0] (l:=[]) rfl rfl (by kernel_rfl)),zNa rfl⟩
theorem zOC {J:zK} {R:Int} {r:zK×Int×Int} (h:zIN J R=some r):PFn Try.prog 45 [(AV.agg (zJ J)),li R] (AV.tup [(AV.agg (zJ r.1)),li r.2.1,li r.2.2]):=by
 refine zq Try.func45 rfl Try.ntmps45 Try.results45 rfl ?_
 unfold zIN at h
 refine zI<|zC<|zX (H':=[.box 50 (zJ J)]) (z6 (t:=50) rfl)<|zX (H':=[.box 50 (zJ J),.box 50 [(ls (cS cI) ([]:List (List Int)))]]) zv1<|zA (zD rfl)<|zA (zD rfl) ?_
 refine zG<|zI<|zI<|zC<|zA (zR (k:=0) (o:=0) (m:=1) Try.isAgg50 Try.sizeOf50 rfl rfl rfl rfl rfl)<|zA (zB rfl) ?_
 refine zQ h fun x1 w1 h=>zZ Try.func79 rfl (by kernel_rfl) (.fn 79) rfl rfl (zGq w1) rfl<|zA (zD rfl)<|zG<|zI<|zC ?_
 refine zA (zB rfl)<|zA (z5 rfl rfl)<|zG ?_
 refine zY h rfl (fun b1 h => ?_) (fun b1 h => ?_)
 ·refine zI<|zC<|zA zv2<|zA (zB rfl)<|za (H':=[.box 50 (zJ J),.box 50 (zJ (⟨([]:List (List Int))⟩:zK))]) (zS (k:=1) (o:=0) (cs:=[(ls (cS cI) ([]:List (List Int)))]) (la:=(zJ (⟨([]:List (List Int))⟩:zK))) Try.sizeOf50 rfl rfl rfl rfl)<|zA (zD rfl) ?_
  refine zA (zD rfl)<|zG<|zb ?_
  cases h
  exact zEE (zF9 Try.isAgg50 Try.sizeOf50 rfl rfl rfl rfl) (zAh rfl rfl) (zAh rfl rfl) rfl
 refine zU<|zI<|zC<|zA (zL Try.underlying50 rfl rfl Try.sizeOf48 rfl)<|zA (zN Try.isAgg48 rfl rfl rfl rfl)<|zA (zB rfl) ?_
 refine zM h fun b2 h=>zA (zj Try.underlying48 Try.sizeOf22 (fun _=>rfl) rfl rfl b2)<|zA (zm (o:=0) Try.isAgg22 rfl rfl)<|zA (zD rfl)<|zG<|zI ?_
 refine zI<|zC<|zA (zB rfl)<|zA (zf Try.underlying22 rfl)<|zA (zBG rfl rfl)<|zG ?_
 refine zY h rfl (fun b3 h => ?_) (fun b3 h => ?_)
 ·refine zI<|zC<|zA zv2<|za (H':=[.box 50 (zJ J),.box 50 (zJ (⟨([]:List (List Int))⟩:zK))]) (zS (k:=1) (o:=0) (cs:=[(ls (cS cI) ([]:List (List Int)))]) (la:=(zJ (⟨([]:List (List Int))⟩:zK))) Try.sizeOf50 rfl rfl rfl rfl)<|zA (zD rfl)<|zA (zD rfl) ?_
  refine zG<|zb ?_
  cases h
  exact zEE (zF9 Try.isAgg50 Try.sizeOf50 rfl rfl rfl rfl) (zAh rfl rfl) (zAh rfl rfl) rfl
 refine zU<|zI<|zC<|zA (zB rfl)<|zA (zf Try.underlying22 rfl)<|zM h fun b4 h => ?_
 refine zA (zC0 rfl rfl b4)<|zA (zD rfl)<|zG<|zI<|zM h fun b5 h=>zQ h fun x2 w2 h => ?_
 refine zM h fun b6 h => ?_
 refine zBY (n:=39) (m:=0) [.head 0 0,.head 0 0,.head 0 0,.head 0 0,.head 0 0,.head 0 0,.head 0 1,.head 0 1,.head 0 1,.head 0 1,.tail 0,.head 1 1,.head 1 1] [10] [(AV.agg (zJ J)),li R,(ls cI (at_ J.lists R)),(li (((at_ J.lists R).length:Int) - 1)),(ls cI (zFD (at_ J.lists R) 0 (((at_ J.lists R).length:Int) - 1))),(AV.agg (zJ x2)),(ls cI (at_ J.lists R)),(li (((at_ J.lists R).length:Int) - 1)),(AV.rp (cI (at_ (at_ J.lists R) (((at_ J.lists R).length:Int) - 1))) 0),(li (at_ (at_ J.lists R) (((at_ J.lists R).length:Int) - 1))),.any,(li (at_ (at_ J.lists R) (((at_ J.lists R).length:Int) - 1))),li 0] [[.box 50 (zJ J),.box 50 [(ls (cS cI) ([]:List (List Int)))]],[.box 50 (zJ J),.box 50 (zJ x2)]] (by kernel_rfl) (by kernel_rfl) ⟨D1 fun e s p=>zR (k:=0) (o:=0) (m:=1) Try.isAgg50 Try.sizeOf50 (s 2 rfl) rfl rfl rfl rfl,D1 fun e s p=>zB (s 1 rfl),D1 fun e s p=>zB (s 8 rfl),D1 fun e s p=>zB (s 9 rfl),D1 fun e s p=>zNO (hi:=((at_ J.lists R).length:Int) - 1) (f:=cI) (l:=at_ J.lists R) Try.underlying22 Try.sizeOf3 (fun _=>rfl) p.1 p.2.1 b5,?_,⟨D1 fun e s p=>zB (s 8 rfl),D1 fun e s p=>zB (s 8 rfl)⟩,⟨D1 fun e s p=>zB (s 9 rfl),D1 fun e s p=>zB (s 9 rfl)⟩,⟨D1 fun e s p=>zj (f:=cI) (l:=at_ J.lists R) (i:=((at_ J.lists R).length:Int) - 1) Try.underlying22 Try.sizeOf3 (fun _=>rfl) p.1 p.2.1 b6,D1 fun e s p=>zj (f:=cI) (l:=at_ J.lists R) (i:=((at_ J.lists R).length:Int) - 1) Try.underlying22 Try.sizeOf3 (fun _=>rfl) p.1 p.2.1 b6⟩,⟨D1 fun e s p=>zm (o:=0) Try.isAgg3 p.1 rfl,D1 fun e s p=>zm (o:=0) Try.isAgg3 p.1 rfl⟩,?_,D1 fun e s p=>zD p.2.2.2.2.2.2.2.2.2.2.2.1,D1 fun e s p=>zD rfl,trivial⟩ ?_
 ·
  intro e6 s6 p6
  refine zZ (r:=(AV.agg (zJ x2))) (la:=[(AV.agg (zJ J)),li R,(ls cI (zFD (at_ J.lists R) 0 (((at_ J.lists R).length:Int) - 1)))]) Try.func80 rfl (by kernel_rfl) (.fn 80) (zAV p6.1 (zAV p6.2.1 (zAV p6.2.2.1 rfl))) rfl (zEQ w2) rfl ?_
  exact zG ⟨fun _=>rfl,rfl⟩
 ·
  intro e15 s15 p15
  refine za (H':=[.box 50 (zJ J),.box 50 (zJ x2)]) (zS (k:=1) (o:=0) (cs:=[(ls (cS cI) ([]:List (List Int)))]) (la:=(zJ x2)) Try.sizeOf50 (by exact (s15 4 rfl)) rfl rfl (by exact p15.2.2.2.2.2.2.2.1)) ?_
  exact zG ⟨fun _=>rfl,rfl⟩
 intro e18 s18 hq1
 refine zAx (zCR (l:=[(4,(AV.ptr 1 0)),(5,(li (at_ (at_ J.lists R) (((at_ J.lists R).length:Int) - 1)))),(6,(li 0))]) ⟨s18 4 rfl,(hq1 11 (by decide) (by decide)),(hq1 12 (by decide) (by decide)),trivial⟩)<|zb ?_
 cases h
 exact zEE (zF9 Try.isAgg50 Try.sizeOf50 rfl rfl rfl rfl) (zAh rfl rfl) (zAh rfl rfl) rfl
theorem zGY {A:zH} {B:Int} {G:Bool} {U:Bool} {r:zH×Int×Int} (h:zBi A B G U=some r):PFn Try.prog 17 [(AV.agg (zF A)),li B,(AV.lit (.bool G)),(AV.lit (.bool U))] (AV.tup [(AV.agg (zF r.1)),li r.2.1,li r.2.2]):=by
 refine zq Try.func17 rfl Try.ntmps17 Try.results17 rfl ?_
 unfold zBi at h
 refine zI<|zC<|zX (H':=[.box 29 (zF A)]) (z6 (t:=29) rfl)<|zX (H':=[.box 29 (zF A),.box 29 (zF ⟨[],0,0,[],[]⟩)]) zv3<|zA (zD rfl)<|zA (zD rfl) ?_
 refine zG<|zI<|zI<|zC<|zA (zR (k:=0) (o:=0) (m:=5) Try.isAgg29 Try.sizeOf29 rfl rfl rfl rfl rfl)<|zQ h fun x1 w1 h => ?_
 refine zZ Try.func15 rfl (by kernel_rfl) (.fn 15) rfl rfl (zA3 w1) rfl<|zA (zD rfl)<|zG<|zI<|zC<|zA (zB rfl) ?_
 refine zA (z5 rfl rfl)<|zG ?_
 refine zY h rfl (fun b1 h => ?_) (fun b1 h => ?_)
 ·refine zI<|zC<|zA zQK<|zA (zB rfl)<|za (H':=[.box 29 (zF A),.box 29 (zF (⟨([]:List Int),0,0,([]:List zW),([]:List zK)⟩:zH))]) (zS (k:=1) (o:=0) (cs:=(zF ⟨[],0,0,[],[]⟩)) (la:=(zF (⟨([]:List Int),0,0,([]:List zW),([]:List zK)⟩:zH))) Try.sizeOf29 rfl rfl rfl rfl)<|zA (zD rfl) ?_
  refine zA (zD rfl)<|zG<|zb ?_
  cases h
  exact zEE (zF9 Try.isAgg29 Try.sizeOf29 rfl rfl rfl rfl) (zAh rfl rfl) (zAh rfl rfl) rfl
 refine zU<|zI<|zI<|zC<|zA (zB rfl)<|zA (zp rfl rfl) ?_
 refine zA (zB rfl)<|zd rfl rfl (fun c1=>zv.step (zB rfl))<|zd rfl rfl (fun c2=>zv.step (zL Try.underlying29 rfl rfl Try.sizeOf22 rfl))<|zd rfl rfl (fun c3=>zv.step (zN Try.isAgg22 (zAJ rfl c3) rfl rfl rfl))<|zd rfl rfl (fun c4=>zv.step (zf Try.underlying22 (zAJ rfl c4)))<|zd rfl rfl (fun c5=>zv.step (zBn (zAJ rfl c5) (zAJ rfl c5))) ?_
 refine zA (zh rfl rfl)<|zG ?_
 refine zY h rfl (fun b2 h => ?_) (fun b2 h => ?_)
 ·refine zI<|zC<|zA zQK<|za (H':=[.box 29 (zF A),.box 29 (zF (⟨([]:List Int),0,0,([]:List zW),([]:List zK)⟩:zH))]) (zS (k:=1) (o:=0) (cs:=(zF ⟨[],0,0,[],[]⟩)) (la:=(zF (⟨([]:List Int),0,0,([]:List zW),([]:List zK)⟩:zH))) Try.sizeOf29 rfl rfl rfl rfl)<|zA (zD rfl)<|zA (zD rfl) ?_
  refine zG<|zb ?_
  cases h
  exact zEE (zF9 Try.isAgg29 Try.sizeOf29 rfl rfl rfl rfl) (zAh rfl rfl) (zAh rfl rfl) rfl
 refine zU<|zI<|zM h fun b3 h=>zQ h fun x2 w2 h => ?_
 refine zBY (n:=131) (m:=0) [.head 0 0,.head 0 0,.head 0 0,.head 0 0,.head 0 0,.head 0 0,.head 0 0,.head 0 0,.head 0 0,.head 0 0,.head 0 0,.head 0 0,.head 0 0,.head 0 0] [] [AV.ptr 0 3,ls zO A.zones,AV.ptr 0 0,ls cI A.nodes,li B,(AV.rp (cI (at_ A.nodes B)) 0),(li (at_ A.nodes B)),(AV.lit (.bool G)),(AV.tup [ls cI x2.1,li x2.2]),(AV.tup [ls cI x2.1,li x2.2]),ls cI x2.1,li x2.2,ls cI x2.1,li x2.2] [[.box 29 (zF A),.box 29 (zF ⟨[],0,0,[],[]⟩)]] (by kernel_rfl) (by kernel_rfl) ⟨D1 fun e s p=>zL (k:=0) (o:=0) (off:=3) Try.underlying29 rfl rfl Try.sizeOf26 (s 4 rfl),D1 fun e s p=>zN (k:=0) (o:=3) Try.isAgg26 p.1 rfl rfl rfl,D1 fun e s p=>zL (k:=0) (o:=0) (off:=0) Try.underlying29 rfl rfl Try.sizeOf22 (s 4 rfl),D1 fun e s p=>zN (k:=0) (o:=0) Try.isAgg22 p.1 rfl rfl rfl,D1 fun e s p=>zB (s 1 rfl),D1 fun e s p=>zj (f:=cI) (l:=A.nodes) (i:=B) Try.underlying22 Try.sizeOf3 (fun _=>rfl) p.1 p.2.1 b3,D1 fun e s p=>zm (o:=0) Try.isAgg3 p.1 rfl,D1 fun e s p=>zB (s 2 rfl),?_,D1 fun e s p=>zB p.1,D1 fun e s p=>zT p.1 rfl,D1 fun e s p=>zT p.1 rfl,D1 fun e s p=>zD p.2.2.2.2.2.2.2.2.2.2.2.2.1,D1 fun e s p=>zD p.2.2.2.2.2.2.2.2.2.2.2.2.2.1,trivial⟩ ?_
 ·
  intro e9 s9 p9
  refine zZ (r:=(AV.tup [ls cI x2.1,li x2.2])) (la:=[ls zO A.zones,(li (at_ A.nodes B)),(AV.lit (.bool G))]) Try.func40 rfl (by kernel_rfl) (.fn 40) (zAV p9.1 (zAV p9.2.1 (zAV p9.2.2.1 rfl))) rfl (zJa w2) rfl ?_
  exact zG ⟨fun _=>rfl,rfl⟩
 intro e15 s15 hq1
 refine zAx (zCR (l:=[(1,(li B)),(3,(AV.lit (.bool U))),(4,(AV.ptr 0 0)),(8,(AV.ptr 1 0)),(12,(ls cI x2.1))]) ⟨s15 1 rfl,s15 3 rfl,s15 4 rfl,s15 8 rfl,(hq1 12 (by decide) (by decide)),trivial⟩) ?_
 refine zAB (r:=r) (fun (_:Unit)=>mkE [(8,(AV.ptr 0 0))]) (fun _=>[.box 29 (zF ⟨[],0,0,[],[]⟩)]) (fun _=>zGb ) ?_ ?_
 ·
  refine zI<|zC<|zA (zB rfl)<|zA (zf Try.underlying22 rfl)<|zA (zB rfl)<|zG ?_
  refine zV<|zAA (σ:=Int) (fun i1=>mkE [(1,(li B)),(3,(AV.lit (.bool U))),(4,(AV.ptr 0 0)),(8,(AV.ptr 1 0)),(49,(ls cI x2.1)),(50,(li (x2.1.length:Int))),(51,(li i1))]) (fun i1=>[.box 29 (zF A),.box 29 (zF ⟨[],0,0,[],[]⟩)]) (fun n0 i1=>zA5 A B U x2 n0 i1) 0 h (fun _=>rfl) (zAf [0,1] rfl rfl (by kernel_rfl)) ?_
  clear h
  intro n0 i1 h
  replace h:zBR A B U x2 (zA5 A B U x2 n0) i1=some r:=h
  unfold zBR at h
  refine zI<|zC<|zA (zp rfl rfl)<|zG<|zI ?_
  refine zY h rfl (fun b4 h => ?_) (fun b4 h => ?_)
  ·refine zU ?_
   refine zAB (r:=r) (fun (_:Unit)=>mkE [(1,(li B)),(3,(AV.lit (.bool U))),(4,(AV.ptr 0 0)),(8,(AV.ptr 1 0)),(49,(ls cI x2.1)),(50,(li (x2.1.length:Int))),(51,(li i1))]) (fun _=>[.box 29 (zF A),.box 29 (zF ⟨[],0,0,[],[]⟩)]) (fun _=>zDs (zA5 A B U x2 n0) i1) ?_ ?_
   ·
    refine zV<|zI<|zC<|zM h fun b6 h=>zA (zj Try.underlying22 Try.sizeOf3 (fun _=>rfl) rfl rfl b6)<|zA (zm (o:=0) Try.isAgg3 rfl rfl) ?_
    refine zA (zD rfl)<|zG<|zI<|zI<|zC<|zA (zB rfl) ?_
    refine zA (zB rfl)<|zw rfl rfl (fun c6=>zv.step (zR (k:=0) (o:=0) (m:=5) Try.isAgg29 Try.sizeOf29 rfl rfl rfl rfl rfl))<|zw rfl rfl (fun c7=>zv.step (zB rfl))<|zQ h fun x3 w3 h=>zDe (g:=56) (s:=U) (r':=(li x3)) rfl rfl (fun c8=>⟨41,_,_,[],[(AV.agg (zF A)),(li (at_ x2.1 i1))],[(AV.agg (zF A)),(li (at_ x2.1 i1))],li x3,[],Try.func41,rfl,by kernel_rfl,.fn 41,(zAV (zAJ rfl c8) (zAV (zAJ rfl c8) rfl)),⟨zA8.nr rfl,zA8.nr rfl,trivial⟩,zGV (zG9 c8 w3),.inl rfl,rfl⟩)<|zw rfl rfl (fun c9=>zv.step (zBG (zAJ rfl c9) rfl)) ?_
    refine zA (z8 (j := .lit undef) rfl rfl)<|zA (zB rfl)<|zd rfl rfl (fun c10=>zv.step (zB rfl))<|zd rfl rfl (fun c11=>zv.step (zBK (t:=U) (zAJ rfl c11)))<|zd rfl rfl (fun c12=>zv.step (zB (zAJ rfl c12)))<|zOz (g:=65) (s' := !(U&&(decide (x3=0)))) (s := !U) rfl rfl (fun c13=>zv.step (zR (k:=0) (o:=0) (m:=5) Try.isAgg29 Try.sizeOf29 rfl rfl rfl rfl rfl)) ?_
    refine zOz (g:=65) (s' := !(U&&(decide (x3=0)))) (s := !U) rfl rfl (fun c14=>zv.step (zB rfl))<|zQ h fun x4 w4 h=>zNl (g:=65) (s' := !(U&&(decide (x3=0)))) (s := !U) (r':=(li x4)) rfl rfl (fun c15=>⟨39,_,_,[],[(AV.agg (zF A)),(li (at_ x2.1 i1))],[(AV.agg (zF A)),(li (at_ x2.1 i1))],li x4,[],Try.func39,rfl,by kernel_rfl,.fn 39,(zAV (zAJ rfl c15) (zAV (zAJ rfl c15) rfl)),⟨zA8.nr rfl,zA8.nr rfl,trivial⟩,zFa (zG9 c15 w4),.inl rfl,rfl⟩)<|zOz (g:=65) (s' := !(U&&(decide (x3=0)))) (s := !U) rfl rfl (fun c16=>zv.step (zp (zAJ rfl c16) rfl))<|zd rfl rfl (fun c17=>zv.step (z8 (j := .lit undef) (zAJ rfl c17) (zPp (c := !(U&&(decide (x3=0)))) (d := !U) (a:=(AV.lit (.bool (decide (x4<1))))) (j := .lit undef) rfl c17)))<|zA (zh rfl rfl) ?_
    refine zG ?_
    refine zY h rfl (fun b7 h => ?_) (fun b7 h => ?_)
    ·refine zAH ?_
     exact ⟨(),zAf [0,1] rfl rfl (by kernel_rfl),h⟩
    refine zU<|zI<|zC<|zA (zR (k:=0) (o:=0) (m:=5) Try.isAgg29 Try.sizeOf29 rfl rfl rfl rfl rfl)<|zQ h fun x5 w5 h=>zHY (cs:=[ls cI x5.nodes,li x5.batch,li x5.high,AV.osl 46 10 (List.map zO x5.zones),AV.osl 50 1 (List.map zAO x5.caches)]) (la:=[(AV.agg (zF A))]) (la':=[(AV.agg (zF A))]) (S:=[]) Try.func42 rfl (by kernel_rfl) (.fn 42) rfl ⟨zA8.nr rfl,trivial⟩ (zDo w5) (.inl rfl) ?_
    refine zAG (zLs (k:=2) (o:=4) (cs:=[ls cI x5.nodes,li x5.batch,li x5.high,AV.osl 46 10 (List.map zO x5.zones),AV.osl 50 1 (List.map zAO x5.caches)]) (rows':=List.map zJ x5.caches) rfl rfl (zHi (fun x=>zEX x)))<|zX (H':=[.box 29 (zF A),.box 29 (zF ⟨[],0,0,[],[]⟩),.val (.agg [ls cI x5.nodes,li x5.batch,li x5.high,AV.osl 46 10 (List.map zO x5.zones),AV.osl 50 1 (List.map zJ x5.caches)]),.box 29 (zF ⟨[],0,0,[],[]⟩)]) zv3<|za (H':=[.box 29 (zF A),.box 29 (zF ⟨[],0,0,[],[]⟩),.dead,.box 29 [ls cI x5.nodes,li x5.batch,li x5.high,AV.osl 46 10 (List.map zO x5.zones),AV.osl 50 1 (List.map zJ x5.caches)]]) (zDz (k:=3) (o:=0) (j:=2) (cs:=(zF ⟨[],0,0,[],[]⟩)) (la:=[ls cI x5.nodes,li x5.batch,li x5.high,AV.osl 46 10 (List.map zO x5.zones),AV.osl 50 1 (List.map zJ x5.caches)]) Try.sizeOf29 rfl rfl rfl rfl rfl (by decide))<|zG ?_
    refine zAB (r:=r) (fun ((d1,d2,d3,l1,l2):(List Int)×Int×Int×(List zW)×(List zK))=>mkE [(1,(li B)),(8,(AV.ptr 0 0)),(15,(li (at_ x2.1 i1))),(16,(AV.ptr 1 0))]) (fun (d1,d2,d3,l1,l2)=>[.box 29 (zF ⟨[],0,0,[],[]⟩),.box 29 [ls cI d1,li d2,li d3,AV.osl 46 10 (List.map zO l1),AV.osl 50 1 (List.map zJ l2)]]) (fun (d1,d2,d3,l1,l2)=>zCF B x2 i1 d1 d2 d3 l1 l2) ?_ ?_
    ·
     refine zI<|zC<|zA (zL Try.underlying29 rfl rfl Try.sizeOf27 rfl)<|zAG (zBp (k:=3) (o:=4) (t':=50) (sz:=1) (rows:=List.map zJ x5.caches) rfl rfl)<|zA (zN Try.isAgg27 rfl rfl rfl rfl)<|zA (zB rfl) ?_
     refine zM h fun b10 h=>zA (zAN (f:=zJ) (l:=x5.caches) (i:=B) Try.underlying27 Try.sizeOf50 rfl rfl rfl b10)<|zA (zL Try.underlying50 rfl rfl Try.sizeOf48 rfl)<|zA (zC9 (f:=zJ) (l:=x5.caches) (i:=B) (c:=0) (a:=(ls (cS cI) ((at_ x5.caches B).lists))) Try.isAgg48 rfl rfl (by first | rfl | omega) b10 rfl rfl)<|zA (zB rfl)<|zM h fun b11 h => ?_
     refine zA (zj Try.underlying48 Try.sizeOf22 (fun _=>rfl) rfl rfl b11)<|zA (zm (o:=0) Try.isAgg22 rfl rfl)<|zA (zf Try.underlying22 rfl)<|zA (zBG rfl rfl)<|zA (zB rfl)<|zw rfl rfl (fun c18=>zv.step (zB rfl)) ?_
     refine zw rfl rfl (fun c19=>zv.step (zB rfl))<|zAG (zAR (k:=3) (j:=4) (o:=4) rfl rfl rfl rfl)<|zQ h fun x7 w7 h=>zQp (g:=85) (s:=decide (((at_ ((at_ x5.caches B).lists) (at_ x2.1 i1)).length:Int)=0)) (k:=3) (r:=(AV.lit (.bool x7.2))) (en' := .box 29 [ls cI x7.1.nodes,li x7.1.batch,li x7.1.high,AV.osl 46 10 (List.map zO x7.1.zones),AV.osl 50 1 (List.map zJ x7.1.caches)]) rfl rfl (fun c23=>⟨43,_,_,[],[AV.ptr 3 0,li B,(li (at_ x2.1 i1))],[AV.ptr 0 0,li B,(li (at_ x2.1 i1))],_,Try.func43,rfl,by kernel_rfl,.fn 43,(zAV rfl (zAV (zAJ rfl c23) (zAV (zAJ rfl c23) rfl))),⟨zC3.ptr,zC3.of (zA8.nr rfl),zC3.of (zA8.nr rfl),trivial⟩,rfl,by kernel_rfl,by kernel_rfl,zIL (zG9 c23 w7),rfl⟩) (fun c23=>by obtain rfl:=Option.some.inj (zYY c23 w7); rfl)<|zw rfl rfl (fun c24=>zv.step (zBK (t:=x7.2) (zAJ rfl c24)))<|zA (z8 (j := .lit undef) rfl rfl) ?_
     refine zG ?_
     refine zY h rfl (fun b12 h => ?_) (fun b12 h => ?_)
     ·refine zAB (r:=r) (fun ((d4,d5,d6,l3,l4):(List Int)×Int×Int×(List zW)×(List zK))=>mkE [(1,(li B)),(8,(AV.ptr 0 0)),(15,(li (at_ x2.1 i1))),(16,(AV.ptr 1 0))]) (fun (d4,d5,d6,l3,l4)=>[.box 29 (zF ⟨[],0,0,[],[]⟩),.box 29 [ls cI d4,li d5,li d6,AV.osl 46 10 (List.map zO l3),AV.osl 50 1 (List.map zJ l4)]]) (fun (d4,d5,d6,l3,l4)=>zCp B x2 i1 d4 d5 d6 l3 l4) ?_ ?_
      ·
       refine zI<|zC<|zA (zL Try.underlying29 rfl rfl Try.sizeOf27 rfl)<|zAG (zBp (k:=3) (o:=4) (t':=50) (sz:=1) (rows:=List.map zJ x7.1.caches) rfl rfl)<|zA (zN Try.isAgg27 rfl rfl rfl rfl)<|zA (zDd (f:=zJ) (l:=x7.1.caches) Try.underlying27 rfl rfl) ?_
       refine zA (zB rfl)<|zG<|zV<|zAA (σ:=Int×(List Int)×Int×Int×(List zW)×(List zK)) (fun (i2,d7,d8,d9,l5,l6)=>mkE [(1,(li B)),(8,(AV.ptr 0 0)),(15,(li (at_ x2.1 i1))),(16,(AV.ptr 1 0)),(93,(li (x7.1.caches.length:Int))),(94,(li i2))]) (fun (i2,d7,d8,d9,l5,l6)=>[.box 29 (zF ⟨[],0,0,[],[]⟩),.box 29 [ls cI d7,li d8,li d9,AV.osl 46 10 (List.map zO l5),AV.osl 50 1 (List.map zJ l6)]]) (fun n1 (i2,d7,d8,d9,l5,l6)=>zB2 B x2 i1 x7 n1 i2 d7 d8 d9 l5 l6) (0,x7.1.nodes,x7.1.batch,x7.1.high,x7.1.zones,x7.1.caches) h (fun _=>rfl) (Rep.trans (zAR (k:=3) (j:=5) (o:=4) rfl rfl rfl rfl) (zAf [1,3] (l:=[(1,(li B)),(8,(AV.ptr 0 0)),(15,(li (at_ x2.1 i1))),(16,(AV.ptr 1 0)),(93,(li (x7.1.caches.length:Int))),(94,(li 0))]) rfl rfl (by kernel_rfl))) ?_
       clear h
       rintro n1 ⟨i2,d7,d8,d9,l5,l6⟩ h
       replace h:zB8 B x2 i1 x7 (zB2 B x2 i1 x7 n1) i2 d7 d8 d9 l5 l6=some r:=h
       unfold zB8 at h
       refine zI<|zC<|zA (zp rfl rfl)<|zG<|zI ?_
       refine zY h rfl (fun b13 h => ?_) (fun b13 h => ?_)
       ·refine zU ?_
        refine zAB (r:=r) (fun ((d10,d11,d12,l7,l8):(List Int)×Int×Int×(List zW)×(List zK))=>mkE [(1,(li B)),(8,(AV.ptr 0 0)),(15,(li (at_ x2.1 i1))),(16,(AV.ptr 1 0)),(93,(li (x7.1.caches.length:Int))),(94,(li i2))]) (fun (d10,d11,d12,l7,l8)=>[.box 29 (zF ⟨[],0,0,[],[]⟩),.box 29 [ls cI d10,li d11,li d12,AV.osl 46 10 (List.map zO l7),AV.osl 50 1 (List.map zJ l8)]]) (fun (d10,d11,d12,l7,l8)=>zDq (zB2 B x2 i1 x7 n1) i2 d10 d11 d12 l7 l8) ?_ ?_
        ·
         refine zV<|zI<|zC<|zA (zB rfl)<|zA (zD rfl)<|zG ?_
         refine zI<|zC<|zA (zB rfl)<|zA (zB rfl)<|zA (z5 rfl rfl)<|zG ?_
         refine zY h rfl (fun b15 h => ?_) (fun b15 h => ?_)
         ·refine zC<|zA (zB rfl)<|zA (zB rfl)<|zQ h fun x9 w9 h=>zEm (k:=1) (la:=[AV.ptr 1 0,li i2,(li (at_ x2.1 i1))]) (la':=[AV.ptr 0 0,li i2,(li (at_ x2.1 i1))]) (r:=(.tup [])) (S:=[]) (en' := .box 29 [ls cI x9.nodes,li x9.batch,li x9.high,AV.osl 46 10 (List.map zO x9.zones),AV.osl 50 1 (List.map zJ x9.caches)]) Try.func44 rfl (by kernel_rfl) (.fn 44) rfl ⟨zC3.ptr,zC3.of (zA8.nr rfl),zC3.of (zA8.nr rfl),trivial⟩ rfl rfl (by kernel_rfl) (by kernel_rfl) (zGX w9) rfl (.inl rfl)<|zG ?_
          exact ⟨(x9.nodes,x9.batch,x9.high,x9.zones,x9.caches),zAf [0,1] rfl rfl (by kernel_rfl),h⟩
         refine zU ?_
         exact ⟨(d7,d8,d9,l5,l6),zAf [0,1] rfl rfl (by kernel_rfl),h⟩
        clear h
        rintro ⟨d10,d11,d12,l7,l8⟩ h
        unfold zDq at h
        refine zC<|zM h fun b14 h=>zA (zi rfl rfl b14)<|zA (zB rfl)<|zG ?_
        exact ⟨((i2+1),d10,d11,d12,l7,l8),zAf [0,1] rfl rfl (by kernel_rfl),h⟩
       refine zAH ?_
       exact ⟨(d7,d8,d9,l5,l6),zAf [0,1] rfl rfl (by kernel_rfl),h⟩
      clear h
      rintro ⟨d4,d5,d6,l3,l4⟩ h
      unfold zCp at h
      refine zC<|zA (zB rfl)<|zA (zB rfl)<|zQ h fun x8 w8 h=>zEm (k:=1) (la:=[AV.ptr 1 0,li B,(li (at_ x2.1 i1))]) (la':=[AV.ptr 0 0,li B,(li (at_ x2.1 i1))]) (r:=(AV.lit (.bool x8.2))) (S:=[]) (en' := .box 29 [ls cI x8.1.nodes,li x8.1.batch,li x8.1.high,AV.osl 46 10 (List.map zO x8.1.zones),AV.osl 50 1 (List.map zJ x8.1.caches)]) Try.func43 rfl (by kernel_rfl) (.fn 43) rfl ⟨zC3.ptr,zC3.of (zA8.nr rfl),zC3.of (zA8.nr rfl),trivial⟩ rfl rfl (by kernel_rfl) (by kernel_rfl) (zIL w8) rfl (.inl rfl)<|zG ?_
      exact ⟨(x8.1.nodes,x8.1.batch,x8.1.high,x8.1.zones,x8.1.caches),zAf [0,1] rfl rfl (by kernel_rfl),h⟩
     refine zU ?_
     exact ⟨(x7.1.nodes,x7.1.batch,x7.1.high,x7.1.zones,x7.1.caches),zAf [1,3] rfl rfl (by kernel_rfl),h⟩
    clear h
    rintro ⟨d1,d2,d3,l1,l2⟩ h
    unfold zCF at h
    refine zI<|zC<|zA (zL Try.underlying29 rfl rfl Try.sizeOf27 rfl)<|zAG (zBp (k:=1) (o:=4) (t':=50) (sz:=1) (rows:=List.map zJ l2) rfl rfl)<|zA (zN Try.isAgg27 rfl rfl rfl rfl)<|zA (zB rfl) ?_
    refine zM h fun b8 h=>zA (zAN (f:=zJ) (l:=l2) (i:=B) Try.underlying27 Try.sizeOf50 rfl rfl rfl b8)<|zA (zDB (f:=zJ) (l:=l2) (i:=B) (c:=0) (q:=1) (la:=(zJ (at_ l2 B))) Try.isAgg50 Try.sizeOf50 rfl rfl (by first | rfl | omega) b8 rfl rfl rfl)<|zA (zB rfl)<|zQ h fun x6 w6 h=>zZ Try.func45 rfl (by kernel_rfl) (.fn 45) rfl rfl (zOC w6) rfl ?_
    refine zA (zB rfl)<|zA (zT rfl rfl)<|zA (zT rfl rfl)<|zA (zT rfl rfl)<|zX (H':=[.box 29 (zF ⟨[],0,0,[],[]⟩),.box 29 [ls cI d1,li d2,li d3,AV.osl 46 10 (List.map zO l1),AV.hd 2],.vec 50 1 (List.map zJ l2),.box 50 [(ls (cS cI) ([]:List (List Int)))]]) zv1<|za (H':=[.box 29 (zF ⟨[],0,0,[],[]⟩),.box 29 [ls cI d1,li d2,li d3,AV.osl 46 10 (List.map zO l1),AV.hd 2],.vec 50 1 (List.map zJ l2),.box 50 (zJ x6.1)]) (zS (k:=3) (o:=0) (cs:=[(ls (cS cI) ([]:List (List Int)))]) (la:=(zJ x6.1)) Try.sizeOf50 rfl rfl rfl rfl) ?_
    refine zA (zD rfl)<|zA (zD rfl)<|zG<|zI<|zI<|zC ?_
    refine zA (zB rfl)<|zA (z5 rfl rfl)<|zG ?_
    refine zY h rfl (fun b9 h => ?_) (fun b9 h => ?_)
    ·refine zI<|zC<|zA zQK<|zA (zB rfl)<|za (H':=[.box 29 (zF (⟨([]:List Int),0,0,([]:List zW),([]:List zK)⟩:zH)),.box 29 [ls cI d1,li d2,li d3,AV.osl 46 10 (List.map zO l1),AV.hd 2],.vec 50 1 (List.map zJ l2),.box 50 (zJ x6.1)]) (zS (k:=0) (o:=0) (cs:=(zF ⟨[],0,0,[],[]⟩)) (la:=(zF (⟨([]:List Int),0,0,([]:List zW),([]:List zK)⟩:zH))) Try.sizeOf29 rfl rfl rfl rfl)<|zA (zD rfl) ?_
     refine zA (zD rfl)<|zG<|zb ?_
     cases h
     exact zEE (zF9 Try.isAgg29 Try.sizeOf29 rfl rfl rfl rfl) (zAh rfl rfl) (zAh rfl rfl) rfl
    refine zU<|zI<|zC<|zA (zL Try.underlying29 rfl rfl Try.sizeOf27 rfl)<|zA (zN Try.isAgg27 rfl rfl rfl rfl)<|zA (zB rfl) ?_
    refine zA (zR (k:=3) (o:=0) (m:=1) Try.isAgg50 Try.sizeOf50 rfl rfl rfl rfl rfl)<|zA (zAN (f:=zJ) (l:=l2) (i:=B) Try.underlying27 Try.sizeOf50 rfl rfl rfl b8)<|za (H':=[.box 29 (zF ⟨[],0,0,[],[]⟩),.box 29 [ls cI d1,li d2,li d3,AV.osl 46 10 (List.map zO l1),AV.hd 2],.vec 50 1 (List.map zJ (l2.set B.toNat x6.1)),.box 50 (zJ x6.1)]) (zC6 (k:=2) (o:=(B.toNat*1)) (f:=zJ) (l:=l2) (i:=B) (z:=x6.1) Try.sizeOf50 (fun _=>rfl) rfl rfl (by first | rfl | omega) b8 rfl rfl)<|zG<|zI<|zC ?_
    refine zAG (zBw (k:=1) (o:=3) (rows':=List.map zO l1) rfl rfl (zAX (fun _=>rfl)))<|zAG (zAR (k:=1) (j:=2) (o:=4) rfl rfl rfl rfl)<|zAG (zBw (k:=1) (o:=4) (rows':=List.map zJ (l2.set B.toNat x6.1)) rfl rfl (zAX (fun _=>rfl)))<|zA (zR (k:=1) (o:=0) (m:=5) Try.isAgg29 Try.sizeOf29 rfl rfl rfl rfl rfl)<|zA (zB rfl)<|za (H':=[.box 29 (zF (⟨d1,d2,d3,l1,l2.set B.toNat x6.1⟩:zH)),.box 29 (zF ⟨d1,d2,d3,l1,l2.set B.toNat x6.1⟩),.dead,.box 50 (zJ x6.1)]) (zS (k:=0) (o:=0) (cs:=(zF ⟨[],0,0,[],[]⟩)) (la:=(zF (⟨d1,d2,d3,l1,l2.set B.toNat x6.1⟩:zH))) Try.sizeOf29 rfl rfl rfl rfl) ?_
    refine zA (zD rfl)<|zA (zD rfl)<|zG<|zb ?_
    cases h
    exact zEE (zF9 Try.isAgg29 Try.sizeOf29 rfl rfl rfl rfl) (zAh rfl rfl) (zAh rfl rfl) rfl
   clear h
   intro _ h
   unfold zDs at h
   refine zC<|zM h fun b5 h=>zA (zi rfl rfl b5)<|zA (zB rfl)<|zG ?_
   exact ⟨(i1+1),zAf [0,1] rfl rfl (by kernel_rfl),h⟩
  refine zAH ?_
  exact ⟨(),zAf [1] rfl rfl (by kernel_rfl),h⟩
 clear h
 intro _ h
 unfold zGb at h
 refine zI<|zC<|zA zQK<|za (H':=[.box 29 (zF (⟨([]:List Int),0,0,([]:List zW),([]:List zK)⟩:zH))]) (zS (k:=0) (o:=0) (cs:=(zF ⟨[],0,0,[],[]⟩)) (la:=(zF (⟨([]:List Int),0,0,([]:List zW),([]:List zK)⟩:zH))) Try.sizeOf29 rfl rfl rfl rfl)<|zA (zD rfl)<|zA (zD rfl) ?_
 refine zG<|zb ?_
 cases h
 exact zEE (zF9 Try.isAgg29 Try.sizeOf29 rfl rfl rfl rfl) (zAh rfl rfl) (zAh rfl rfl) rfl
theorem zJN {Q:List Int} {uP:Int} {r:Int} (h:zDn Q uP=some r):PFn Try.prog 100 [ls cI Q,li uP] (li r):=by
 refine zq Try.func100 rfl Try.ntmps100 Try.results100 rfl ?_
 unfold zDn at h
 refine zI<|zC<|zA (zD rfl)<|zG ?_
 refine zAB (r:=r) (fun (_:Unit)=>mkE []) (fun _=>[]) (fun _=>zEO ) ?_ ?_
 ·
  refine zI<|zC<|zA (zB rfl)<|zA (zf Try.underlying22 rfl)<|zA (zB rfl)<|zG ?_
  refine zV<|zAA (σ:=Int) (fun i1=>mkE [(0,(ls cI Q)),(1,(li uP)),(7,(li (Q.length:Int))),(8,(li i1))]) (fun i1=>[]) (fun n0 i1=>zBD Q uP n0 i1) 0 h (fun _=>rfl) (zAf [] rfl rfl (by kernel_rfl)) ?_
  clear h
  intro n0 i1 h
  replace h:zBB Q uP (zBD Q uP n0) i1=some r:=h
  unfold zBB at h
  refine zI<|zC<|zA (zp rfl rfl)<|zG<|zI ?_
  refine zY h rfl (fun b1 h => ?_) (fun b1 h => ?_)
  ·refine zU<|zI<|zV<|zI<|zC<|zA (zB rfl) ?_
   refine zA (zD rfl)<|zG<|zI<|zC<|zA (zB rfl)<|zA (zB rfl) ?_
   refine zA (zB rfl)<|zM h fun b2 h=>zA (zj Try.underlying22 Try.sizeOf3 (fun _=>rfl) rfl rfl b2)<|zA (zm (o:=0) Try.isAgg3 rfl rfl)<|zA (zBG rfl rfl)<|zG ?_
   refine zY h rfl (fun b3 h => ?_) (fun b3 h => ?_)
   ·refine zI<|zC<|zA (zB rfl)<|zA (zD rfl)<|zG<|zb ?_
    cases h
    exact zz (zAh rfl rfl)
   refine zU<|zC<|zM h fun b4 h=>zA (zi rfl rfl b4)<|zA (zB rfl)<|zG ?_
   exact ⟨(i1+1),zAf [] rfl rfl (by kernel_rfl),h⟩
  refine zAH ?_
  exact ⟨(),zAf [] rfl rfl (by kernel_rfl),h⟩
 clear h
 intro _ h
 unfold zEO at h
 refine zI<|zC<|zA (zD rfl)<|zG<|zb ?_
 cases h
 exact zz (zAh rfl rfl)
theorem zIF {Q:List Int} {uP:Int} {r:Bool} (h:zBt Q uP=some r):PFn Try.prog 90 [ls cI Q,li uP] (AV.lit (.bool r)):=by
 refine zq Try.func90 rfl Try.ntmps90 Try.results90 rfl ?_
 unfold zBt at h
 refine zI<|zC<|zA (zD rfl)<|zG<|zI<|zC ?_
 refine zA (zB rfl)<|zA (zB rfl)<|zQ h fun x1 w1 h=>zZ Try.func100 rfl (by kernel_rfl) (.fn 100) rfl rfl (zJN w1) rfl<|zA (zBn rfl rfl)<|zA (zD rfl) ?_
 refine zG<|zb ?_
 cases h
 exact zz (zAh rfl rfl)
theorem zKN {J:zK} {uF:Int} {uJ:Int} {r:Bool} (h:zAk J uF uJ=some r):PFn Try.prog 89 [(AV.agg (zJ J)),(AV.rp [li uF] 0),(AV.rp [li uJ] 0)] (AV.lit (.bool r)):=by
 refine zq Try.func89 rfl Try.ntmps89 Try.results89 rfl ?_
 unfold zAk at h
 refine zI<|zC<|zX (H':=[.box 50 (zJ J)]) (z6 (t:=50) rfl)<|zA (zD rfl)<|zG<|zI ?_
 refine zM h fun b1 h=>zQ h fun x1 w1 h => ?_
 refine zBY (n:=12) (m:=0) [.head 0 0,.head 0 0,.head 0 0,.head 0 0,.head 0 0,.head 0 0,.head 0 0,.head 0 0] [] [AV.ptr 0 0,(ls (cS cI) J.lists),li uF,(AV.rp ((cS cI) (at_ J.lists uF)) 0),(ls cI (at_ J.lists uF)),li uJ,(AV.lit (.bool x1)),(AV.lit (.bool x1))] [[.box 50 (zJ J)]] (by kernel_rfl) (by kernel_rfl) ⟨D1 fun e s p=>zL (k:=0) (o:=0) (off:=0) Try.underlying50 rfl rfl Try.sizeOf48 (s 3 rfl),D1 fun e s p=>zN (k:=0) (o:=0) Try.isAgg48 p.1 rfl rfl rfl,D1 fun e s p=>zm (o:=0) Try.isAgg3 (s 1 rfl) rfl,D1 fun e s p=>zj (f:=(cS cI)) (l:=J.lists) (i:=uF) Try.underlying48 Try.sizeOf22 (fun _=>rfl) p.1 p.2.1 b1,D1 fun e s p=>zm (o:=0) Try.isAgg22 p.1 rfl,D1 fun e s p=>zm (o:=0) Try.isAgg3 (s 2 rfl) rfl,?_,D1 fun e s p=>zD p.2.2.2.2.2.2.2.2.1,trivial⟩ ?_
 ·
  intro e7 s7 p7
  refine zZ (r:=(AV.lit (.bool x1))) (la:=[(ls cI (at_ J.lists uF)),li uJ]) Try.func90 rfl (by kernel_rfl) (.fn 90) (zAV p7.1 (zAV p7.2.1 rfl)) rfl (zIF w1) rfl ?_
  exact zG ⟨fun _=>rfl,rfl⟩
 intro e9 s9 hq1
 refine zAx (zCR (l:=[(4,(AV.lit (.bool x1)))]) ⟨(hq1 7 (by decide) (by decide)),trivial⟩)<|zb ?_
 cases h
 exact zz (zAh rfl rfl)
theorem zEG {Q : List zK} {uB : zK → Option Bool} {g_a_f : FuncId} {cf_a_f : Func} {code_a_f : Code} {caps_a_f : List AV} (hcf_a_f : Try.prog.funcs[g_a_f]? = some cf_a_f) (hcb_a_f : cf_a_f.body = some code_a_f) (hcn_a_f : (cf_a_f.name == "runtime.NumGoroutine") = false) (hnr_a_f : caps_a_f.all nr = true) (hg_a_f : ∀ {x0 : zK} {y : Bool}, uB x0 = some y → PFn Try.prog g_a_f ((AV.agg (zJ x0)) :: caps_a_f) (AV.lit (.bool y))) {r : Int} (h : zAW Q uB = some r) : PFn Try.prog 88 [(ls zJ Q), (AV.clo g_a_f caps_a_f)] (li r) := by
 refine zq Try.func88 rfl Try.ntmps88 Try.results88 rfl ?_
 unfold zAW at h
 refine zI<|zC<|zA (zD rfl)<|zG ?_
 refine zAB (r:=r) (fun (_:Unit)=>mkE []) (fun _=>[]) (fun _=>zBA ) ?_ ?_
 ·
  refine zI<|zC<|zA (zB rfl)<|zA (zf Try.underlying27 rfl)<|zA (zB rfl)<|zG ?_
  refine zV<|zAA (σ:=Int) (fun i1=>mkE [(0,(ls zJ Q)),(1,(AV.clo g_a_f caps_a_f)),(7,(li (Q.length:Int))),(8,(li i1))]) (fun i1=>[]) (fun n0 i1=>zx Q uB n0 i1) 0 h (fun _=>rfl) (zBV (n:=19) (m:=0) [] (l:=[(0,(ls zJ Q)),(1,(AV.clo g_a_f caps_a_f)),(7,(li (Q.length:Int))),(8,(li 0))]) ⟨⟨Sub.refl _,by kernel_rfl⟩,⟨zDc hnr_a_f,zDb hnr_a_f⟩,⟨Sub.refl _,by kernel_rfl⟩,⟨Sub.refl _,by kernel_rfl⟩,trivial⟩ rfl rfl trivial) ?_
  clear h
  intro n0 i1 h
  replace h:zg Q uB (zx Q uB n0) i1=some r:=h
  unfold zg at h
  refine zI<|zC<|zA (zp rfl rfl)<|zG<|zI ?_
  refine zY h rfl (fun b1 h => ?_) (fun b1 h => ?_)
  ·refine zU<|zI<|zV<|zI<|zC<|zA (zB rfl) ?_
   refine zA (zD rfl)<|zG<|zI<|zC<|zA (zB rfl)<|zA (zB rfl) ?_
   refine zA (zB rfl)<|zM h fun b2 h=>zA (zj Try.underlying27 Try.sizeOf50 (fun _=>rfl) rfl rfl b2)<|zA (zBI (row:=(zJ (at_ Q i1))) (o:=0) (m:=1) (la:=(zJ (at_ Q i1))) Try.isAgg50 Try.sizeOf50 rfl rfl rfl)<|zQ h fun x1 w1 h=>zAr (S:=[]) hcf_a_f hcb_a_f hcn_a_f (.clo (caps:=caps_a_f) rfl) rfl (zDZ.c (zA8.nr rfl) (zDZ.nrs hnr_a_f)) (hg_a_f w1) (.inl rfl) rfl ?_
   refine zG ?_
   refine zY h rfl (fun b3 h => ?_) (fun b3 h => ?_)
   ·refine zI<|zC<|zA (zB rfl)<|zA (zD rfl)<|zG<|zb ?_
    cases h
    exact zz (zAh rfl rfl)
   refine zU<|zC<|zM h fun b4 h=>zA (zi rfl rfl b4)<|zA (zB rfl)<|zG ?_
   exact ⟨(i1+1),zBV (n:=19) (m:=0) [] (l:=[(0,(ls zJ Q)),(1,(AV.clo g_a_f caps_a_f)),(7,(li (Q.length:Int))),(8,(li (i1+1)))]) ⟨⟨Sub.refl _,by kernel_rfl⟩,⟨zDc hnr_a_f,zDb hnr_a_f⟩,⟨Sub.refl _,by kernel_rfl⟩,⟨Sub.refl _,by kernel_rfl⟩,trivial⟩ rfl rfl trivial,h⟩
  refine zAH ?_
  exact ⟨(),zAf [] rfl rfl (by kernel_rfl),h⟩
 clear h
 intro _ h
 unfold zBA at h
 refine zI<|zC<|zA (zD rfl)<|zG<|zb ?_
 cases h
 exact zz (zAh rfl rfl)
theorem zIV {C:zH} {D:Int} {X:Int} {r:Int} (h:zCN C D X=some r):PFn Try.prog 56 [(AV.agg (zF C)),li D,li X] (li r):=by
 refine zq Try.func56 rfl Try.ntmps56 Try.results56 rfl ?_
 unfold zCN at h
 refine zI<|zC<|zX (H':=[.box 29 (zF C)]) (z6 (t:=29) rfl)<|zX (H':=[.box 29 (zF C),.box 3 [li D]]) (zH9 (t:=3) (a:=(li D)) rfl rfl)<|zX (H':=[.box 29 (zF C),.box 3 [li D],.box 3 [li X]]) (zH9 (t:=3) (a:=(li X)) rfl rfl)<|zA (zD rfl) ?_
 refine zG<|zI<|zC<|zA (zL Try.underlying29 rfl rfl Try.sizeOf27 rfl)<|zA (zN Try.isAgg27 rfl rfl rfl rfl)<|zA (zKj (la:=[AV.ptr 1 0,AV.ptr 2 0]) rfl) ?_
 refine zQ h fun x1 w1 h=>zAr (r':=(li x1)) (la:=[ls zJ C.caches,(AV.clo 89 [AV.ptr 1 0,AV.ptr 2 0])]) (la':=[ls zJ C.caches,(AV.clo 89 [(AV.rp [li D] 0),(AV.rp [li X] 0)])]) (r:=(li x1)) (S:=[1,2]) Try.func88 rfl (by kernel_rfl) (.fn 88) rfl ⟨zA8.nr rfl,zA8.clo (⟨zA8.ptr (cs:=[li D]) rfl rfl rfl,zA8.ptr (cs:=[li X]) rfl rfl rfl,trivial⟩),trivial⟩ (zEG Try.func89 rfl (by kernel_rfl) rfl (fun hy=>zKN  hy) w1) (.inr trivial) rfl<|zA (zD rfl)<|zG<|zb ?_
 cases h
 exact zz (zAh rfl rfl)
theorem zHB {C:zH} {D:Int} {X:Int} {r:Bool} (h:zDC C D X=some r):PFn Try.prog 35 [(AV.agg (zF C)),li D,li X] (AV.lit (.bool r)):=by
 refine zq Try.func35 rfl Try.ntmps35 Try.results35 rfl ?_
 unfold zDC at h
 refine zI<|zC<|zX (H':=[.box 29 (zF C)]) (z6 (t:=29) rfl)<|zA (zD rfl)<|zG<|zI ?_
 refine zC<|zA (zL Try.underlying29 rfl rfl Try.sizeOf26 rfl)<|zA (zN Try.isAgg26 rfl rfl rfl rfl)<|zA (zB rfl)<|zM h fun b1 h=>zA (zj Try.underlying26 Try.sizeOf46 (fun _=>rfl) rfl rfl b1) ?_
 refine zA (zBI (row:=(zO (at_ C.zones D))) (o:=0) (m:=10) (la:=(zO (at_ C.zones D))) Try.isAgg46 Try.sizeOf46 rfl rfl rfl)<|zA (zB rfl)<|zQ h fun x1 w1 h=>zZ Try.func38 rfl (by kernel_rfl) (.fn 38) rfl rfl (zKI w1) rfl<|zA (zB rfl)<|zd rfl rfl (fun c1=>zv.step (zR (k:=0) (o:=0) (m:=5) Try.isAgg29 Try.sizeOf29 rfl rfl rfl rfl rfl)) ?_
 refine zd rfl rfl (fun c2=>zv.step (zB rfl))<|zd rfl rfl (fun c3=>zv.step (zB rfl))<|zQ h fun x2 w2 h=>zDf (g:=14) (s:=x1) (r':=(li x2)) rfl rfl (fun c4=>⟨56,_,_,[],[(AV.agg (zF C)),li D,li X],[(AV.agg (zF C)),li D,li X],li x2,[],Try.func56,rfl,by kernel_rfl,.fn 56,(zAV (zAJ rfl c4) (zAV (zAJ rfl c4) (zAV (zAJ rfl c4) rfl))),⟨zA8.nr rfl,zA8.nr rfl,zA8.nr rfl,trivial⟩,zIV (zG9 c4 w2),.inl rfl,rfl⟩)<|zd rfl rfl (fun c5=>zv.step (zBn (zAJ rfl c5) rfl))<|zA (zh rfl rfl) ?_
 refine zA (zD rfl)<|zG<|zb ?_
 cases h
 exact zz (zAh rfl rfl)
theorem zEd {C:zH} {X:Int} {r:Bool} (h:zCO C X=some r):PFn Try.prog 14 [(AV.agg (zF C)),li X] (AV.lit (.bool r)):=by
 refine zq Try.func14 rfl Try.ntmps14 Try.results14 rfl ?_
 unfold zCO at h
 refine zI<|zC<|zX (H':=[.box 29 (zF C)]) (z6 (t:=29) rfl)<|zA (zD rfl)<|zG<|zI ?_
 refine zI<|zC<|zA (zR (k:=0) (o:=0) (m:=5) Try.isAgg29 Try.sizeOf29 rfl rfl rfl rfl rfl)<|zQ h fun x1 w1 h=>zZ Try.func15 rfl (by kernel_rfl) (.fn 15) rfl rfl (zA3 w1) rfl<|zA (z5 rfl rfl) ?_
 refine zG ?_
 refine zY h rfl (fun b1 h => ?_) (fun b1 h => ?_)
 ·refine zI<|zC<|zA (zD rfl)<|zG<|zb ?_
  cases h
  exact zz (zAh rfl rfl)
 refine zU<|zI<|zC<|zA (zR (k:=0) (o:=0) (m:=5) Try.isAgg29 Try.sizeOf29 rfl rfl rfl rfl rfl)<|zA (zB rfl)<|zQ h fun x2 w2 h => ?_
 refine zZ Try.func34 rfl (by kernel_rfl) (.fn 34) rfl rfl (zEL w2) rfl<|zA (zD rfl)<|zG<|zI<|zC<|zA (zB rfl) ?_
 refine zA (zBn rfl rfl)<|zA (zB rfl)<|zw rfl rfl (fun c1=>zv.step (zR (k:=0) (o:=0) (m:=5) Try.isAgg29 Try.sizeOf29 rfl rfl rfl rfl rfl))<|zw rfl rfl (fun c2=>zv.step (zB rfl))<|zw rfl rfl (fun c3=>zv.step (zB rfl))<|zQ h fun x3 w3 h => ?_
 refine zDe (g:=14) (s:=decide (0≤x2)) (r':=(AV.lit (.bool x3))) rfl rfl (fun c4=>⟨35,_,_,[],[(AV.agg (zF C)),li x2,li X],[(AV.agg (zF C)),li x2,li X],(AV.lit (.bool x3)),[],Try.func35,rfl,by kernel_rfl,.fn 35,(zAV (zAJ rfl c4) (zAV (zAJ rfl c4) (zAV (zAJ rfl c4) rfl))),⟨zA8.nr rfl,zA8.nr rfl,zA8.nr rfl,trivial⟩,zHB (zG9 c4 w3),.inl rfl,rfl⟩)<|zA (z8 (j := .lit undef) rfl rfl)<|zA (zD rfl)<|zG<|zb ?_
 cases h
 exact zz (zAh rfl rfl)
theorem zFB {C:zH} {D:Int} {r:Int} (h:zCj C D=some r):PFn Try.prog 18 [(AV.agg (zF C)),li D] (li r):=by
 refine zq Try.func18 rfl Try.ntmps18 Try.results18 rfl ?_
 unfold zCj at h
 refine zI<|zC<|zX (H':=[.box 29 (zF C)]) (z6 (t:=29) rfl)<|zA (zD rfl)<|zG<|zI ?_
 refine zI<|zC<|zA (zR (k:=0) (o:=0) (m:=5) Try.isAgg29 Try.sizeOf29 rfl rfl rfl rfl rfl)<|zQ h fun x1 w1 h=>zZ Try.func15 rfl (by kernel_rfl) (.fn 15) rfl rfl (zA3 w1) rfl<|zA (z5 rfl rfl) ?_
 refine zA (zB rfl)<|zd rfl rfl (fun c1=>zv.step (zB rfl))<|zd rfl rfl (fun c2=>zv.step (zp (zAJ rfl c2) rfl))<|zA (zh rfl rfl)<|zA (zB rfl)<|zd rfl rfl (fun c3=>zv.step (zB rfl)) ?_
 refine zd rfl rfl (fun c4=>zv.step (zL Try.underlying29 rfl rfl Try.sizeOf26 rfl))<|zd rfl rfl (fun c5=>zv.step (zN Try.isAgg26 (zAJ rfl c5) rfl rfl rfl))<|zd rfl rfl (fun c6=>zv.step (zf Try.underlying26 (zAJ rfl c6)))<|zd rfl rfl (fun c7=>zv.step (zBn (zAJ rfl c7) (zAJ rfl c7)))<|zA (zh rfl rfl)<|zG ?_
 refine zY h rfl (fun b1 h => ?_) (fun b1 h => ?_)
 ·refine zI<|zC<|zA (zD rfl)<|zG<|zb ?_
  cases h
  exact zz (zAh rfl rfl)
 refine zU<|zI<|zC<|zA (zR (k:=0) (o:=0) (m:=5) Try.isAgg29 Try.sizeOf29 rfl rfl rfl rfl rfl)<|zA (zB rfl)<|zQ h fun x2 w2 h => ?_
 refine zZ Try.func41 rfl (by kernel_rfl) (.fn 41) rfl rfl (zGV w2) rfl<|zA (zD rfl)<|zG<|zb ?_
 cases h
 exact zz (zAh rfl rfl)
theorem zJX {C:zH} {X:Int} {r:Int} (h:zEt C X=some r):PFn Try.prog 19 [(AV.agg (zF C)),li X] (li r):=by
 refine zq Try.func19 rfl Try.ntmps19 Try.results19 rfl ?_
 unfold zEt at h
 refine zI<|zC<|zX (H':=[.box 29 (zF C)]) (z6 (t:=29) rfl)<|zA (zD rfl)<|zG<|zI ?_
 refine zI<|zC<|zA (zR (k:=0) (o:=0) (m:=5) Try.isAgg29 Try.sizeOf29 rfl rfl rfl rfl rfl)<|zQ h fun x1 w1 h=>zZ Try.func15 rfl (by kernel_rfl) (.fn 15) rfl rfl (zA3 w1) rfl<|zA (z5 rfl rfl) ?_
 refine zG ?_
 refine zY h rfl (fun b1 h => ?_) (fun b1 h => ?_)
 ·refine zI<|zC<|zA (zD rfl)<|zG<|zb ?_
  cases h
  exact zz (zAh rfl rfl)
 refine zU<|zI<|zC<|zA (zR (k:=0) (o:=0) (m:=5) Try.isAgg29 Try.sizeOf29 rfl rfl rfl rfl rfl)<|zA (zB rfl)<|zQ h fun x2 w2 h => ?_
 refine zZ Try.func34 rfl (by kernel_rfl) (.fn 34) rfl rfl (zEL w2) rfl<|zA (zD rfl)<|zG<|zb ?_
 cases h
 exact zz (zAh rfl rfl)
theorem zMD {A:zK} {B:Int} {G:Int} {U:Int} {uY:Int} {r:zK×(List Int)×Int} (h:zIA A B G U uY=some r):PFn Try.prog 46 [(AV.agg (zJ A)),li B,li G,li U,li uY] (AV.tup [(AV.agg (zJ r.1)),ls cI r.2.1,li r.2.2]):=by
 refine zq Try.func46 rfl Try.ntmps46 Try.results46 rfl ?_
 unfold zIA at h
 refine zI<|zC<|zX (H':=[.box 50 (zJ A)]) (z6 (t:=50) rfl)<|zX (H':=[.box 50 (zJ A),.box 50 [(ls (cS cI) ([]:List (List Int)))]]) zv1<|zA (zD rfl)<|zA (zD rfl) ?_
 refine zG<|zI<|zI<|zC<|zA (zR (k:=0) (o:=0) (m:=1) Try.isAgg50 Try.sizeOf50 rfl rfl rfl rfl rfl)<|zA (zB rfl) ?_
 refine zQ h fun x1 w1 h=>zZ Try.func79 rfl (by kernel_rfl) (.fn 79) rfl rfl (zGq w1) rfl<|zA (zD rfl)<|zG<|zI<|zC ?_
 refine zA (zB rfl)<|zA (z5 rfl rfl)<|zG ?_
 refine zY h rfl (fun b1 h => ?_) (fun b1 h => ?_)
 ·refine zI<|zC<|zA zv2<|zA (zB rfl)<|za (H':=[.box 50 (zJ A),.box 50 (zJ (⟨([]:List (List Int))⟩:zK))]) (zS (k:=1) (o:=0) (cs:=[(ls (cS cI) ([]:List (List Int)))]) (la:=(zJ (⟨([]:List (List Int))⟩:zK))) Try.sizeOf50 rfl rfl rfl rfl)<|zA (zD rfl) ?_
  refine zA (zD rfl)<|zG<|zb ?_
  cases h
  exact zEE (zF9 Try.isAgg50 Try.sizeOf50 rfl rfl rfl rfl) (zIf (zAh rfl rfl) zA9.nils) (zAh rfl rfl) rfl
 refine zU<|zI<|zI<|zC<|zA (zB rfl)<|zQ h fun x2 w2 h => ?_
 refine zZ Try.func64 rfl (by kernel_rfl) (.fn 64) rfl rfl (zG1 w2) rfl<|zA (zBK (t:=x2) rfl)<|zG ?_
 refine zY h rfl (fun b2 h => ?_) (fun b2 h => ?_)
 ·refine zI<|zC<|zA zv2<|za (H':=[.box 50 (zJ A),.box 50 (zJ (⟨([]:List (List Int))⟩:zK))]) (zS (k:=1) (o:=0) (cs:=[(ls (cS cI) ([]:List (List Int)))]) (la:=(zJ (⟨([]:List (List Int))⟩:zK))) Try.sizeOf50 rfl rfl rfl rfl)<|zA (zD rfl)<|zA (zD rfl) ?_
  refine zG<|zb ?_
  cases h
  exact zEE (zF9 Try.isAgg50 Try.sizeOf50 rfl rfl rfl rfl) (zIf (zAh rfl rfl) zA9.nils) (zAh rfl rfl) rfl
 refine zU<|zI<|zI<|zC<|zA (zB rfl)<|zA (zp rfl rfl) ?_
 refine zA (zB rfl)<|zd rfl rfl (fun c1=>zv.step (zB rfl))<|zd rfl rfl (fun c2=>zv.step (zB rfl))<|zd rfl rfl (fun c3=>zv.step (zCQ (zAJ rfl c3) (zAJ rfl c3)))<|zA (zh rfl rfl)<|zG ?_
 refine zY h rfl (fun b3 h => ?_) (fun b3 h => ?_)
 ·refine zI<|zC<|zA zv2<|za (H':=[.box 50 (zJ A),.box 50 (zJ (⟨([]:List (List Int))⟩:zK))]) (zS (k:=1) (o:=0) (cs:=[(ls (cS cI) ([]:List (List Int)))]) (la:=(zJ (⟨([]:List (List Int))⟩:zK))) Try.sizeOf50 rfl rfl rfl rfl)<|zA (zD rfl)<|zA (zD rfl) ?_
  refine zG<|zb ?_
  cases h
  exact zEE (zF9 Try.isAgg50 Try.sizeOf50 rfl rfl rfl rfl) (zIf (zAh rfl rfl) zA9.nils) (zAh rfl rfl) rfl
 refine zU<|zI<|zI<|zC<|zA (zR (k:=0) (o:=0) (m:=1) Try.isAgg50 Try.sizeOf50 rfl rfl rfl rfl rfl)<|zQ h fun x3 w3 h => ?_
 refine zNt (es:=mI Value.bool x3) (la:=[(AV.agg (zJ A))]) (la':=[(AV.agg (zJ A))]) (S:=[]) Try.func65 rfl (by kernel_rfl) (.fn 65) rfl ⟨zA8.nr rfl,trivial⟩ (zHp w3)<|zA (zB rfl)<|zA (zNp (k:=2) (g:=Value.bool) (q:=G) (l:=x3) (dflt:=false) (a:=(AV.lit (.bool (zLp false x3 G)))) Try.underlying83 Try.underlying3 Try.zeroValue4 rfl rfl rfl rfl)<|zG ?_
 refine zY h rfl (fun b4 h => ?_) (fun b4 h => ?_)
 ·refine zI<|zC<|zA zv2<|za (H':=[.box 50 (zJ A),.box 50 (zJ (⟨([]:List (List Int))⟩:zK)),.map (mI Value.bool x3)]) (zS (k:=1) (o:=0) (cs:=[(ls (cS cI) ([]:List (List Int)))]) (la:=(zJ (⟨([]:List (List Int))⟩:zK))) Try.sizeOf50 rfl rfl rfl rfl)<|zA (zD rfl)<|zA (zD rfl) ?_
  refine zG<|zb ?_
  cases h
  exact zEE (zF9 Try.isAgg50 Try.sizeOf50 rfl rfl rfl rfl) (zIf (zAh rfl rfl) zA9.nils) (zAh rfl rfl) rfl
 refine zU<|zI<|zM h fun b5 h=>zM h fun b6 h=>zM h fun b7 h => ?_
 refine zBY (n:=85) (m:=0) [.head 0 0,.head 0 0,.head 0 0,.head 0 0,.head 0 0,.head 0 0,.head 0 0,.head 0 0,.head 0 0,.head 0 0,.head 0 0,.head 0 0,.head 0 0,.tail 0,.head 1 1] [13] [AV.ptr 0 0,(ls (cS cI) A.lists),li B,(AV.rp ((cS cI) (at_ A.lists B)) 0),(ls cI (at_ A.lists B)),(li ((at_ A.lists B).length:Int)),AV.ptr 0 0,(ls (cS cI) A.lists),li B,(AV.rp ((cS cI) (at_ A.lists B)) 0),(ls cI (at_ A.lists B)),(li ((at_ A.lists B).length:Int)),(li (((at_ A.lists B).length:Int)+1)),AV.hd 3,AV.hd 3] [[.box 50 (zJ A),.box 50 [(ls (cS cI) ([]:List (List Int)))],.map (mI Value.bool x3)],[.box 50 (zJ A),.box 50 [(ls (cS cI) ([]:List (List Int)))],.map (mI Value.bool x3),.vec 3 1 (List.map cI (List.replicate ((at_ A.lists B).length:Int).toNat 0))]] (by kernel_rfl) (by kernel_rfl) ⟨D1 fun e s p=>zL (k:=0) (o:=0) (off:=0) Try.underlying50 rfl rfl Try.sizeOf48 (s 5 rfl),D1 fun e s p=>zN (k:=0) (o:=0) Try.isAgg48 p.1 rfl rfl rfl,D1 fun e s p=>zB (s 1 rfl),D1 fun e s p=>zj (f:=(cS cI)) (l:=A.lists) (i:=B) Try.underlying48 Try.sizeOf22 (fun _=>rfl) p.1 p.2.1 b5,D1 fun e s p=>zm (o:=0) Try.isAgg22 p.1 rfl,D1 fun e s p=>zf (f:=cI) (l:=at_ A.lists B) Try.underlying22 p.1,D1 fun e s p=>zL (k:=0) (o:=0) (off:=0) Try.underlying50 rfl rfl Try.sizeOf48 (s 5 rfl),D1 fun e s p=>zN (k:=0) (o:=0) Try.isAgg48 p.1 rfl rfl rfl,D1 fun e s p=>zB (s 1 rfl),D1 fun e s p=>zj (f:=(cS cI)) (l:=A.lists) (i:=B) Try.underlying48 Try.sizeOf22 (fun _=>rfl) p.1 p.2.1 b5,D1 fun e s p=>zm (o:=0) Try.isAgg22 p.1 rfl,D1 fun e s p=>zf (f:=cI) (l:=at_ A.lists B) Try.underlying22 p.1,D1 fun e s p=>zi (a:=((at_ A.lists B).length:Int)) (b:=1) p.1 rfl b6,?_,D1 fun e s p=>zD p.2.2.2.2.2.2.2.2.2.2.2.2.2.2.1,trivial⟩ ?_
 ·
  intro e14 s14 p14
  refine zGc (f:=cI) (a:=((at_ A.lists B).length:Int)) (c:=((at_ A.lists B).length:Int)+1) (d0:=0) zHA ⟨zA9.refl _,trivial⟩ rfl Try.underlying22 p14.1 p14.2.1 b7 ?_
  exact zG ⟨fun _=>rfl,rfl⟩
 intro e16 s16 hq1
 refine zAx (zCR (l:=[(1,(li B)),(2,(li G)),(3,(li U)),(4,(li uY)),(5,(AV.ptr 0 0)),(10,(AV.ptr 1 0)),(14,(AV.hd 3))]) ⟨s16 1 rfl,s16 2 rfl,s16 3 rfl,s16 4 rfl,s16 5 rfl,s16 10 rfl,(hq1 14 (by decide) (by decide)),trivial⟩)<|zI<|zC<|zA (zB (av:=(AV.hd 3)) rfl)<|zA (zL (k:=0) (o:=0) (off:=0) Try.underlying50 rfl rfl Try.sizeOf48 rfl)<|zA (zN (k:=0) (o:=0) (a:=(ls (cS cI) A.lists)) Try.isAgg48 rfl rfl rfl rfl) ?_
 refine zA (zB rfl)<|zA (zj Try.underlying48 Try.sizeOf22 (fun _=>rfl) rfl rfl b5)<|zA (zm (o:=0) Try.isAgg22 rfl rfl)<|zX (H':=[.box 50 (zJ A),.box 50 [(ls (cS cI) ([]:List (List Int)))],.map (mI Value.bool x3),.vec 3 1 (List.map cI (zCm (List.replicate ((at_ A.lists B).length:Int).toNat 0) (at_ A.lists B)))]) (zKw (f:=cI) (k:=3) (l:=List.replicate ((at_ A.lists B).length:Int).toNat 0) (l2:=at_ A.lists B) Try.underlying22 Try.sizeOf3 (fun _=>rfl) rfl rfl rfl)<|zG<|zI ?_
 refine zC<|zA (zB rfl)<|zA (zB rfl)<|zGd (a:=(li G)) zHA Try.underlying22 rfl rfl rfl rfl<|zM h fun b8 h=>zET (f:=cI) (k:=3) (j:=4) (l:=zCm (List.replicate ((at_ A.lists B).length:Int).toNat 0) (at_ A.lists B)) (l':=[G]) zHA (fun _=>rfl) Try.underlying22 rfl rfl rfl rfl b8 ?_
 refine zA (zD rfl)<|zG<|zI<|zI<|zC<|zA (zB rfl) ?_
 refine zA (zDd (f:=cI) (l:=(zCm (List.replicate ((at_ A.lists B).length:Int).toNat 0) (at_ A.lists B))++[G]) Try.underlying22 rfl rfl)<|zA (zB rfl)<|zA (zH1 rfl rfl)<|zG ?_
 refine zY h rfl (fun b9 h => ?_) (fun b9 h => ?_)
 ·refine zI<|zC<|zA (zR (k:=0) (o:=0) (m:=1) Try.isAgg50 Try.sizeOf50 rfl rfl rfl rfl rfl)<|zA (zB rfl)<|zA (zB rfl)<|zQ h fun x4 w4 h => ?_
  refine zAG (zE6 (j:=5) (ds:=[14,64,65,71]) (rows':=List.map cI ((zCm (List.replicate ((at_ A.lists B).length:Int).toNat 0) (at_ A.lists B))++[G])) rfl (zAX (fun _=>rfl)) ⟨rfl,rfl,rfl,rfl,trivial⟩)<|zQ h fun x5 w5 h=>zZ Try.func80 rfl (by kernel_rfl) (.fn 80) rfl rfl (zEQ w5) rfl<|za (H':=[.box 50 (zJ A),.box 50 (zJ x5),.map (mI Value.bool x3),.dead,.vec 3 1 (List.map cI [G]),.dead]) (zS (k:=1) (o:=0) (cs:=[(ls (cS cI) ([]:List (List Int)))]) (la:=(zJ x5)) Try.sizeOf50 rfl rfl rfl rfl)<|zA (zD rfl)<|zA (zD rfl) ?_
  refine zG<|zb ?_
  cases h
  exact zEE (zF9 Try.isAgg50 Try.sizeOf50 rfl rfl rfl rfl) (zIf (zAh rfl rfl) zA9.nils) (zAh rfl rfl) rfl
 refine zU<|zI<|zC<|zA (zB rfl)<|zM h fun b10 h=>zGc (f:=cI) (a:=U) (c:=U) (d0:=0) zHA ⟨zA9.refl _,trivial⟩ rfl Try.underlying22 rfl rfl b10 ?_
 refine zA (zD rfl)<|zG<|zI<|zC<|zA (zB rfl)<|zA (zB rfl) ?_
 refine zX (H':=[.box 50 (zJ A),.box 50 [(ls (cS cI) ([]:List (List Int)))],.map (mI Value.bool x3),.dead,.vec 3 1 (List.map cI [G]),.vec 3 1 (List.map cI ((zCm (List.replicate ((at_ A.lists B).length:Int).toNat 0) (at_ A.lists B))++[G])),.vec 3 1 (List.map cI (zCm (List.replicate U.toNat 0) ((zCm (List.replicate ((at_ A.lists B).length:Int).toNat 0) (at_ A.lists B))++[G])))]) (zQk (f:=cI) (k:=6) (j:=5) (l:=List.replicate U.toNat 0) (l2:=(zCm (List.replicate ((at_ A.lists B).length:Int).toNat 0) (at_ A.lists B))++[G]) Try.underlying22 Try.sizeOf3 (fun _=>rfl) rfl rfl rfl rfl)<|zG<|zI<|zAx (zE6 (j:=5) (ds:=[14,64,65,76]) (rows':=List.map cI ((zCm (List.replicate ((at_ A.lists B).length:Int).toNat 0) (at_ A.lists B))++[G])) rfl (zAX (fun _=>rfl)) ⟨rfl,rfl,rfl,rfl,trivial⟩)<|zM h fun b11 h=>zQ h fun x6 w6 h => ?_
 refine zBY (n:=85) (m:=0) [.head 0 0,.head 0 0,.head 0 0,.head 0 0,.head 0 0,.head 0 0,.head 0 1,.tail 0,.head 1 1,.head 1 1] [7] [(AV.agg (zJ A)),li B,(ls cI ((zCm (List.replicate ((at_ A.lists B).length:Int).toNat 0) (at_ A.lists B))++[G])),li U,(ls cI (zFD ((zCm (List.replicate ((at_ A.lists B).length:Int).toNat 0) (at_ A.lists B))++[G]) U (((zCm (List.replicate ((at_ A.lists B).length:Int).toNat 0) (at_ A.lists B))++[G]).length:Int))),(AV.agg (zJ x6)),AV.hd 6,.any,AV.hd 6,li 0] [[.box 50 (zJ A),.box 50 [(ls (cS cI) ([]:List (List Int)))],.map (mI Value.bool x3),.dead,.vec 3 1 (List.map cI [G]),.dead,.vec 3 1 (List.map cI (zCm (List.replicate U.toNat 0) ((zCm (List.replicate ((at_ A.lists B).length:Int).toNat 0) (at_ A.lists B))++[G])))],[.box 50 (zJ A),.box 50 (zJ x6),.map (mI Value.bool x3),.dead,.vec 3 1 (List.map cI [G]),.dead,.vec 3 1 (List.map cI (zCm (List.replicate U.toNat 0) ((zCm (List.replicate ((at_ A.lists B).length:Int).toNat 0) (at_ A.lists B))++[G])))]] (by kernel_rfl) (by kernel_rfl) ⟨D1 fun e s p=>zR (k:=0) (o:=0) (m:=1) Try.isAgg50 Try.sizeOf50 (s 5 rfl) rfl rfl rfl rfl,D1 fun e s p=>zB (s 1 rfl),D1 fun e s p=>zB (s 14 rfl),D1 fun e s p=>zB (s 3 rfl),D1 fun e s p=>zKa (lo:=U) (f:=cI) (l:=(zCm (List.replicate ((at_ A.lists B).length:Int).toNat 0) (at_ A.lists B))++[G]) Try.underlying22 Try.sizeOf3 (fun _=>rfl) p.1 p.2.1 b11,?_,⟨D1 fun e s p=>zB (s 15 rfl),D1 fun e s p=>zB (s 15 rfl)⟩,?_,D1 fun e s p=>zD p.2.2.2.2.2.2.2.2.1,D1 fun e s p=>zD rfl,trivial⟩ ?_
 ·
  intro e22 s22 p21
  refine zZ (r:=(AV.agg (zJ x6))) (la:=[(AV.agg (zJ A)),li B,(ls cI (zFD ((zCm (List.replicate ((at_ A.lists B).length:Int).toNat 0) (at_ A.lists B))++[G]) U (((zCm (List.replicate ((at_ A.lists B).length:Int).toNat 0) (at_ A.lists B))++[G]).length:Int)))]) Try.func80 rfl (by kernel_rfl) (.fn 80) (zAV p21.1 (zAV p21.2.1 (zAV p21.2.2.1 rfl))) rfl (zEQ w6) rfl ?_
  exact zG ⟨fun _=>rfl,rfl⟩
 ·
  intro e25 s25 p24
  refine za (H':=[.box 50 (zJ A),.box 50 (zJ x6),.map (mI Value.bool x3),.dead,.vec 3 1 (List.map cI [G]),.dead,.vec 3 1 (List.map cI (zCm (List.replicate U.toNat 0) ((zCm (List.replicate ((at_ A.lists B).length:Int).toNat 0) (at_ A.lists B))++[G])))]) (zS (k:=1) (o:=0) (cs:=[(ls (cS cI) ([]:List (List Int)))]) (la:=(zJ x6)) Try.sizeOf50 (by exact (s25 10 rfl)) rfl rfl (by exact p24.2.2.2.2.2.2.2.1)) ?_
  exact zG ⟨fun _=>rfl,rfl⟩
 intro e28 s28 hq2
 refine zAx (zCR (l:=[(10,(AV.ptr 1 0)),(11,(AV.hd 6)),(12,(li 0))]) ⟨s28 10 rfl,(hq2 8 (by decide) (by decide)),(hq2 9 (by decide) (by decide)),trivial⟩)<|zAx (zE6 (j:=6) (ds:=[11]) (rows':=List.map cI (zCm (List.replicate U.toNat 0) ((zCm (List.replicate ((at_ A.lists B).length:Int).toNat 0) (at_ A.lists B))++[G]))) rfl (zAX (fun _=>rfl)) ⟨rfl,trivial⟩)<|zb ?_
 cases h
 exact zEE (zF9 Try.isAgg50 Try.sizeOf50 rfl rfl rfl rfl) (zAh rfl rfl) (zAh rfl rfl) rfl
theorem zG7 {A:zH} {B:Int} {G:Int} {r:zH×Int} (h:zD3 A B G=some r):PFn Try.prog 20 [(AV.agg (zF A)),li B,li G] (AV.tup [(AV.agg (zF r.1)),li r.2]):=by
 refine zq Try.func20 rfl Try.ntmps20 Try.results20 rfl ?_
 unfold zD3 at h
 refine zI<|zC<|zX (H':=[.box 29 (zF A)]) (z6 (t:=29) rfl)<|zX (H':=[.box 29 (zF A),.box 29 (zF ⟨[],0,0,[],[]⟩)]) zv3<|zA (zD rfl)<|zG ?_
 refine zI<|zI<|zC<|zA (zR (k:=0) (o:=0) (m:=5) Try.isAgg29 Try.sizeOf29 rfl rfl rfl rfl rfl)<|zQ h fun x1 w1 h=>zZ Try.func15 rfl (by kernel_rfl) (.fn 15) rfl rfl (zA3 w1) rfl ?_
 refine zA (zD rfl)<|zG<|zI<|zC<|zA (zB rfl)<|zA (z5 rfl rfl) ?_
 refine zG ?_
 refine zY h rfl (fun b1 h => ?_) (fun b1 h => ?_)
 ·refine zI<|zC<|zA zQK<|zA (zB rfl)<|za (H':=[.box 29 (zF A),.box 29 (zF (⟨([]:List Int),0,0,([]:List zW),([]:List zK)⟩:zH))]) (zS (k:=1) (o:=0) (cs:=(zF ⟨[],0,0,[],[]⟩)) (la:=(zF (⟨([]:List Int),0,0,([]:List zW),([]:List zK)⟩:zH))) Try.sizeOf29 rfl rfl rfl rfl)<|zA (zD rfl) ?_
  refine zG<|zb ?_
  cases h
  exact zB1 (zF9 Try.isAgg29 Try.sizeOf29 rfl rfl rfl rfl) (zAh rfl rfl) rfl
 refine zU<|zI<|zC<|zA (zR (k:=0) (o:=0) (m:=5) Try.isAgg29 Try.sizeOf29 rfl rfl rfl rfl rfl)<|zA (zB rfl)<|zQ h fun x2 w2 h => ?_
 refine zZ Try.func34 rfl (by kernel_rfl) (.fn 34) rfl rfl (zEL w2) rfl<|zA (zD rfl)<|zG<|zI<|zI<|zC ?_
 refine zA (zB rfl)<|zA (zp rfl rfl)<|zA (zB rfl)<|zd rfl rfl (fun c1=>zv.step (zB rfl))<|zd rfl rfl (fun c2=>zv.step (zL Try.underlying29 rfl rfl Try.sizeOf22 rfl))<|zd rfl rfl (fun c3=>zv.step (zN Try.isAgg22 (zAJ rfl c3) rfl rfl rfl)) ?_
 refine zd rfl rfl (fun c4=>zv.step (zf Try.underlying22 (zAJ rfl c4)))<|zd rfl rfl (fun c5=>zv.step (zBn (zAJ rfl c5) (zAJ rfl c5)))<|zA (zh rfl rfl)<|zA (zB rfl)<|zd rfl rfl (fun c6=>zv.step (zB rfl))<|zd rfl rfl (fun c7=>zv.step (zp (zAJ rfl c7) rfl)) ?_
 refine zA (zh rfl rfl)<|zG ?_
 refine zY h rfl (fun b2 h => ?_) (fun b2 h => ?_)
 ·refine zI<|zC<|zA zQK<|za (H':=[.box 29 (zF A),.box 29 (zF (⟨([]:List Int),0,0,([]:List zW),([]:List zK)⟩:zH))]) (zS (k:=1) (o:=0) (cs:=(zF ⟨[],0,0,[],[]⟩)) (la:=(zF (⟨([]:List Int),0,0,([]:List zW),([]:List zK)⟩:zH))) Try.sizeOf29 rfl rfl rfl rfl)<|zA (zD rfl)<|zG ?_
  refine zb ?_
  cases h
  exact zB1 (zF9 Try.isAgg29 Try.sizeOf29 rfl rfl rfl rfl) (zAh rfl rfl) rfl
 refine zU<|zI<|zI<|zC<|zA (zR (k:=0) (o:=0) (m:=5) Try.isAgg29 Try.sizeOf29 rfl rfl rfl rfl rfl)<|zA (zB rfl) ?_
 refine zA (zB rfl)<|zQ h fun x3 w3 h=>zZ Try.func35 rfl (by kernel_rfl) (.fn 35) rfl rfl (zHB w3) rfl<|zG ?_
 refine zY h rfl (fun b3 h => ?_) (fun b3 h => ?_)
 ·refine zI<|zC<|zA zQK<|za (H':=[.box 29 (zF A),.box 29 (zF (⟨([]:List Int),0,0,([]:List zW),([]:List zK)⟩:zH))]) (zS (k:=1) (o:=0) (cs:=(zF ⟨[],0,0,[],[]⟩)) (la:=(zF (⟨([]:List Int),0,0,([]:List zW),([]:List zK)⟩:zH))) Try.sizeOf29 rfl rfl rfl rfl)<|zA (zD rfl)<|zG ?_
  refine zb ?_
  cases h
  exact zB1 (zF9 Try.isAgg29 Try.sizeOf29 rfl rfl rfl rfl) (zAh rfl rfl) rfl
 refine zU<|zI<|zC<|zA (zR (k:=0) (o:=0) (m:=5) Try.isAgg29 Try.sizeOf29 rfl rfl rfl rfl rfl)<|zQ h fun x4 w4 h=>zHY (cs:=[ls cI x4.nodes,li x4.batch,li x4.high,AV.osl 46 10 (List.map zO x4.zones),AV.osl 50 1 (List.map zAO x4.caches)]) (la:=[(AV.agg (zF A))]) (la':=[(AV.agg (zF A))]) (S:=[]) Try.func42 rfl (by kernel_rfl) (.fn 42) rfl ⟨zA8.nr rfl,trivial⟩ (zDo w4) (.inl rfl) ?_
 refine zAG (zLs (k:=2) (o:=4) (cs:=[ls cI x4.nodes,li x4.batch,li x4.high,AV.osl 46 10 (List.map zO x4.zones),AV.osl 50 1 (List.map zAO x4.caches)]) (rows':=List.map zJ x4.caches) rfl rfl (zHi (fun x=>zEX x)))<|zX (H':=[.box 29 (zF A),.box 29 (zF ⟨[],0,0,[],[]⟩),.val (.agg [ls cI x4.nodes,li x4.batch,li x4.high,AV.osl 46 10 (List.map zO x4.zones),AV.osl 50 1 (List.map zJ x4.caches)]),.box 29 (zF ⟨[],0,0,[],[]⟩)]) zv3<|za (H':=[.box 29 (zF A),.box 29 (zF ⟨[],0,0,[],[]⟩),.dead,.box 29 [ls cI x4.nodes,li x4.batch,li x4.high,AV.osl 46 10 (List.map zO x4.zones),AV.osl 50 1 (List.map zJ x4.caches)]]) (zDz (k:=3) (o:=0) (j:=2) (cs:=(zF ⟨[],0,0,[],[]⟩)) (la:=[ls cI x4.nodes,li x4.batch,li x4.high,AV.osl 46 10 (List.map zO x4.zones),AV.osl 50 1 (List.map zJ x4.caches)]) Try.sizeOf29 rfl rfl rfl rfl rfl (by decide))<|zG<|zI<|zAx (zBp (k:=3) (o:=4) (t':=50) (sz:=1) (rows:=List.map zJ x4.caches) rfl rfl) ?_
 refine zM h fun b4 h=>zQ h fun x5 w5 h => ?_
 refine zBY (n:=73) (m:=0) [.head 0 1,.head 0 1,.head 0 1,.head 0 1,.head 0 1,.head 0 1,.head 0 1,.head 0 1,.head 0 1,.head 0 1,.head 0 1,.head 0 1,.head 0 1,.head 0 1,.head 0 2,.head 0 2,.tail 0,.tail 1,.head 2 2,.head 2 2] [16,17] [AV.ptr 3 4,AV.hd 4,li B,(AV.ptr 4 (B.toNat*1)),(AV.agg (zJ (at_ x4.caches B))),li x2,li G,AV.ptr 3 1,li x4.batch,AV.ptr 3 2,li x4.high,(AV.tup [(AV.agg (zJ x5.1)),ls cI x5.2.1,li x5.2.2]),(AV.tup [(AV.agg (zJ x5.1)),ls cI x5.2.1,li x5.2.2]),(AV.agg (zJ x5.1)),ls cI x5.2.1,li x5.2.2,AV.ptr 5 0,.any,ls cI x5.2.1,li x5.2.2] [[.box 29 (zF A),.box 29 (zF ⟨[],0,0,[],[]⟩),.dead,.box 29 [ls cI x4.nodes,li x4.batch,li x4.high,AV.osl 46 10 (List.map zO x4.zones),AV.hd 4],.vec 50 1 (List.map zJ x4.caches)],[.box 29 (zF A),.box 29 (zF ⟨[],0,0,[],[]⟩),.dead,.box 29 [ls cI x4.nodes,li x4.batch,li x4.high,AV.osl 46 10 (List.map zO x4.zones),AV.hd 4],.vec 50 1 (List.map zJ x4.caches),.box 50 [(ls (cS cI) ([]:List (List Int)))]],[.box 29 (zF A),.box 29 (zF ⟨[],0,0,[],[]⟩),.dead,.box 29 [ls cI x4.nodes,li x4.batch,li x4.high,AV.osl 46 10 (List.map zO x4.zones),AV.hd 4],.vec 50 1 (List.map zJ x4.caches),.box 50 (zJ x5.1)]] (by kernel_rfl) (by kernel_rfl) ⟨⟨D1 fun e s p=>zL (k:=3) (o:=0) (off:=4) Try.underlying29 rfl rfl Try.sizeOf27 (s 10 rfl),D1 fun e s p=>zL (k:=3) (o:=0) (off:=4) Try.underlying29 rfl rfl Try.sizeOf27 (s 10 rfl)⟩,⟨D1 fun e s p=>zN (k:=3) (o:=4) Try.isAgg27 p.1 rfl rfl rfl,D1 fun e s p=>zN (k:=3) (o:=4) Try.isAgg27 p.1 rfl rfl rfl⟩,⟨D1 fun e s p=>zB (s 1 rfl),D1 fun e s p=>zB (s 1 rfl)⟩,⟨D1 fun e s p=>zAN (f:=zJ) (l:=x4.caches) (i:=B) Try.underlying27 Try.sizeOf50 p.1 rfl p.2.1 b4,D1 fun e s p=>zAN (f:=zJ) (l:=x4.caches) (i:=B) Try.underlying27 Try.sizeOf50 p.1 rfl p.2.1 b4⟩,⟨D1 fun e s p=>zDB (f:=zJ) (l:=x4.caches) (i:=B) (c:=0) (q:=1) (la:=(zJ (at_ x4.caches B))) Try.isAgg50 Try.sizeOf50 p.1 rfl (by first | rfl | omega) b4 rfl rfl rfl,D1 fun e s p=>zDB (f:=zJ) (l:=x4.caches) (i:=B) (c:=0) (q:=1) (la:=(zJ (at_ x4.caches B))) Try.isAgg50 Try.sizeOf50 p.1 rfl (by first | rfl | omega) b4 rfl rfl rfl⟩,⟨D1 fun e s p=>zB (s 9 rfl),D1 fun e s p=>zB (s 9 rfl)⟩,⟨D1 fun e s p=>zB (s 2 rfl),D1 fun e s p=>zB (s 2 rfl)⟩,⟨D1 fun e s p=>zL (k:=3) (o:=0) (off:=1) Try.underlying29 rfl rfl Try.sizeOf3 (s 10 rfl),D1 fun e s p=>zL (k:=3) (o:=0) (off:=1) Try.underlying29 rfl rfl Try.sizeOf3 (s 10 rfl)⟩,⟨D1 fun e s p=>zN (k:=3) (o:=1) Try.isAgg3 p.1 rfl rfl rfl,D1 fun e s p=>zN (k:=3) (o:=1) Try.isAgg3 p.1 rfl rfl rfl⟩,⟨D1 fun e s p=>zL (k:=3) (o:=0) (off:=2) Try.underlying29 rfl rfl Try.sizeOf3 (s 10 rfl),D1 fun e s p=>zL (k:=3) (o:=0) (off:=2) Try.underlying29 rfl rfl Try.sizeOf3 (s 10 rfl)⟩,⟨D1 fun e s p=>zN (k:=3) (o:=2) Try.isAgg3 p.1 rfl rfl rfl,D1 fun e s p=>zN (k:=3) (o:=2) Try.isAgg3 p.1 rfl rfl rfl⟩,⟨?_,?_⟩,⟨D1 fun e s p=>zB p.1,D1 fun e s p=>zB p.1⟩,⟨D1 fun e s p=>zT p.1 rfl,D1 fun e s p=>zT p.1 rfl⟩,⟨D1 fun e s p=>zT p.1 rfl,D1 fun e s p=>zT p.1 rfl,D1 fun e s p=>zT p.1 rfl⟩,⟨D1 fun e s p=>zT p.1 rfl,D1 fun e s p=>zT p.1 rfl,D1 fun e s p=>zT p.1 rfl⟩,?_,?_,D1 fun e s p=>zD p.2.2.2.2.2.2.2.2.2.2.2.2.2.2.2.2.1,D1 fun e s p=>zD p.2.2.2.2.2.2.2.2.2.2.2.2.2.2.2.2.2.1,trivial⟩ ?_
 ·
  intro e23 s23 p23
  refine zZ (r:=(AV.tup [(AV.agg (zJ x5.1)),ls cI x5.2.1,li x5.2.2])) (la:=[(AV.agg (zJ (at_ x4.caches B))),li x2,li G,li x4.batch,li x4.high]) Try.func46 rfl (by kernel_rfl) (.fn 46) (zAV p23.1 (zAV p23.2.1 (zAV p23.2.2.1 (zAV p23.2.2.2.1 (zAV p23.2.2.2.2.1 rfl))))) rfl (zMD w5) rfl ?_
  exact zG ⟨fun _=>rfl,rfl⟩
 ·
  intro e24 s24 p24
  refine zZ (r:=(AV.tup [(AV.agg (zJ x5.1)),ls cI x5.2.1,li x5.2.2])) (la:=[(AV.agg (zJ (at_ x4.caches B))),li x2,li G,li x4.batch,li x4.high]) Try.func46 rfl (by kernel_rfl) (.fn 46) (zAV p24.1 (zAV p24.2.1 (zAV p24.2.2.1 (zAV p24.2.2.2.1 (zAV p24.2.2.2.2.1 rfl))))) rfl (zMD w5) rfl ?_
  exact zG ⟨fun _=>rfl,rfl⟩
 ·
  intro e35 s35 p35
  refine zX (H':=[.box 29 (zF A),.box 29 (zF ⟨[],0,0,[],[]⟩),.dead,.box 29 [ls cI x4.nodes,li x4.batch,li x4.high,AV.osl 46 10 (List.map zO x4.zones),AV.hd 4],.vec 50 1 (List.map zJ x4.caches),.box 50 [(ls (cS cI) ([]:List (List Int)))]]) zv1 ?_
  exact zG ⟨fun _=>rfl,rfl⟩
 ·
  intro e36 s36 p36
  refine za (H':=[.box 29 (zF A),.box 29 (zF ⟨[],0,0,[],[]⟩),.dead,.box 29 [ls cI x4.nodes,li x4.batch,li x4.high,AV.osl 46 10 (List.map zO x4.zones),AV.hd 4],.vec 50 1 (List.map zJ x4.caches),.box 50 (zJ x5.1)]) (zS (k:=5) (o:=0) (cs:=[(ls (cS cI) ([]:List (List Int)))]) (la:=(zJ x5.1)) Try.sizeOf50 (by exact p36.2.2.2.2.2.2.2.2.2.2.2.2.2.2.2.2.2.2.2.1) rfl rfl (by exact p36.2.2.2.2.2.2.2.2.2.2.2.2.2.2.2.2.1)) ?_
  exact zG ⟨fun _=>rfl,rfl⟩
 intro e39 s39 hq1
 refine zAx (zCR (l:=[(1,(li B)),(6,(AV.ptr 1 0)),(9,(li x2)),(10,(AV.ptr 3 0)),(11,(AV.ptr 5 0)),(12,(ls cI x5.2.1)),(13,(li x5.2.2))]) ⟨s39 1 rfl,s39 6 rfl,s39 9 rfl,s39 10 rfl,(hq1 16 (by decide) (by decide)),(hq1 18 (by decide) (by decide)),(hq1 19 (by decide) (by decide)),trivial⟩)<|zI<|zI<|zC<|zA (zB (av:=(li x5.2.2)) rfl)<|zA (z5 (a:=x5.2.2) (b:=0) rfl rfl) ?_
 refine zG ?_
 refine zY h rfl (fun b5 h => ?_) (fun b5 h => ?_)
 ·refine zI<|zC<|zA zQK<|zA (zB rfl)<|za (H':=[.box 29 (zF A),.box 29 (zF (⟨([]:List Int),0,0,([]:List zW),([]:List zK)⟩:zH)),.dead,.box 29 [ls cI x4.nodes,li x4.batch,li x4.high,AV.osl 46 10 (List.map zO x4.zones),AV.hd 4],.vec 50 1 (List.map zJ x4.caches),.box 50 (zJ x5.1)]) (zS (k:=1) (o:=0) (cs:=(zF ⟨[],0,0,[],[]⟩)) (la:=(zF (⟨([]:List Int),0,0,([]:List zW),([]:List zK)⟩:zH))) Try.sizeOf29 rfl rfl rfl rfl)<|zA (zD rfl) ?_
  refine zG<|zb ?_
  cases h
  exact zB1 (zF9 Try.isAgg29 Try.sizeOf29 rfl rfl rfl rfl) (zAh rfl rfl) rfl
 refine zU<|zI<|zC<|zA (zL Try.underlying29 rfl rfl Try.sizeOf27 rfl)<|zA (zN Try.isAgg27 rfl rfl rfl rfl)<|zA (zB rfl) ?_
 refine zA (zR (k:=5) (o:=0) (m:=1) Try.isAgg50 Try.sizeOf50 rfl rfl rfl rfl rfl)<|zA (zAN (f:=zJ) (l:=x4.caches) (i:=B) Try.underlying27 Try.sizeOf50 rfl rfl rfl b4)<|za (H':=[.box 29 (zF A),.box 29 (zF ⟨[],0,0,[],[]⟩),.dead,.box 29 [ls cI x4.nodes,li x4.batch,li x4.high,AV.osl 46 10 (List.map zO x4.zones),AV.hd 4],.vec 50 1 (List.map zJ (x4.caches.set B.toNat x5.1)),.box 50 (zJ x5.1)]) (zC6 (k:=4) (o:=(B.toNat*1)) (f:=zJ) (l:=x4.caches) (i:=B) (z:=x5.1) Try.sizeOf50 (fun _=>rfl) rfl rfl (by first | rfl | omega) b4 rfl rfl)<|zG<|zI<|zC ?_
 refine zA (zB rfl)<|zA (zB rfl)<|zAG (zAR (k:=3) (j:=4) (o:=4) rfl rfl rfl rfl)<|zQ h fun x6 w6 h=>zEm (k:=3) (la:=[AV.ptr 3 0,li x2,ls cI x5.2.1]) (la':=[AV.ptr 0 0,li x2,ls cI x5.2.1]) (r:=(.tup [])) (S:=[]) (en' := .box 29 [ls cI x6.nodes,li x6.batch,li x6.high,AV.osl 46 10 (List.map zO x6.zones),AV.osl 50 1 (List.map zJ x6.caches)]) Try.func47 rfl (by kernel_rfl) (.fn 47) rfl ⟨zC3.ptr,zC3.of (zA8.nr rfl),zC3.of (zA8.nr rfl),trivial⟩ rfl rfl (by kernel_rfl) (by kernel_rfl) (zJT w6) rfl (.inl rfl)<|zG ?_
 refine zI<|zC<|zAG (zBw (k:=3) (o:=3) (rows':=List.map zO x6.zones) rfl rfl (zAX (fun _=>rfl)))<|zAG (zBw (k:=3) (o:=4) (rows':=List.map zJ x6.caches) rfl rfl (zAX (fun _=>rfl)))<|zA (zR (k:=3) (o:=0) (m:=5) Try.isAgg29 Try.sizeOf29 rfl rfl rfl rfl rfl)<|za (H':=[.box 29 (zF A),.box 29 (zF (⟨x6.nodes,x6.batch,x6.high,x6.zones,x6.caches⟩:zH)),.dead,.box 29 (zF ⟨x6.nodes,x6.batch,x6.high,x6.zones,x6.caches⟩),.dead,.box 50 (zJ x5.1)]) (zS (k:=1) (o:=0) (cs:=(zF ⟨[],0,0,[],[]⟩)) (la:=(zF (⟨x6.nodes,x6.batch,x6.high,x6.zones,x6.caches⟩:zH))) Try.sizeOf29 rfl rfl rfl rfl) ?_
 refine zA (zD rfl)<|zG<|zb ?_
 cases h
 exact zB1 (zF9 Try.isAgg29 Try.sizeOf29 rfl rfl rfl rfl) (zAh rfl rfl) rfl
theorem zJo {A:zH} {B:Int} {G:Int} {r:zH×Int×Int} (h:zFl A B G=some r):PFn Try.prog 23 [(AV.agg (zF A)),li B,li G] (AV.tup [(AV.agg (zF r.1)),li r.2.1,li r.2.2]):=by
 refine zq Try.func23 rfl Try.ntmps23 Try.results23 rfl ?_
 unfold zFl at h
 refine zI<|zC<|zX (H':=[.box 29 (zF A)]) (z6 (t:=29) rfl)<|zX (H':=[.box 29 (zF A),.box 29 (zF ⟨[],0,0,[],[]⟩)]) zv3<|zA (zD rfl)<|zA (zD rfl) ?_
 refine zG<|zI<|zI<|zC<|zA (zR (k:=0) (o:=0) (m:=5) Try.isAgg29 Try.sizeOf29 rfl rfl rfl rfl rfl)<|zQ h fun x1 w1 h => ?_
 refine zZ Try.func15 rfl (by kernel_rfl) (.fn 15) rfl rfl (zA3 w1) rfl<|zA (zD rfl)<|zG<|zI<|zC<|zA (zB rfl) ?_
 refine zA (z5 rfl rfl)<|zG ?_
 refine zY h rfl (fun b1 h => ?_) (fun b1 h => ?_)
 ·refine zI<|zC<|zA zQK<|zA (zB rfl)<|za (H':=[.box 29 (zF A),.box 29 (zF (⟨([]:List Int),0,0,([]:List zW),([]:List zK)⟩:zH))]) (zS (k:=1) (o:=0) (cs:=(zF ⟨[],0,0,[],[]⟩)) (la:=(zF (⟨([]:List Int),0,0,([]:List zW),([]:List zK)⟩:zH))) Try.sizeOf29 rfl rfl rfl rfl)<|zA (zD rfl) ?_
  refine zA (zD rfl)<|zG<|zb ?_
  cases h
  exact zEE (zF9 Try.isAgg29 Try.sizeOf29 rfl rfl rfl rfl) (zAh rfl rfl) (zAh rfl rfl) rfl
 refine zU<|zI<|zI<|zC<|zA (zB rfl)<|zA (zp rfl rfl) ?_
 refine zA (zB rfl)<|zd rfl rfl (fun c1=>zv.step (zB rfl))<|zd rfl rfl (fun c2=>zv.step (zL Try.underlying29 rfl rfl Try.sizeOf22 rfl))<|zd rfl rfl (fun c3=>zv.step (zN Try.isAgg22 (zAJ rfl c3) rfl rfl rfl))<|zd rfl rfl (fun c4=>zv.step (zf Try.underlying22 (zAJ rfl c4)))<|zd rfl rfl (fun c5=>zv.step (zBn (zAJ rfl c5) (zAJ rfl c5))) ?_
 refine zA (zh rfl rfl)<|zA (zB rfl)<|zd rfl rfl (fun c6=>zv.step (zB rfl))<|zd rfl rfl (fun c7=>zv.step (zp (zAJ rfl c7) rfl))<|zA (zh rfl rfl)<|zA (zB rfl) ?_
 refine zd rfl rfl (fun c8=>zv.step (zB rfl))<|zd rfl rfl (fun c9=>zv.step (zCQ (zAJ rfl c9) rfl))<|zA (zh rfl rfl)<|zG ?_
 refine zY h rfl (fun b2 h => ?_) (fun b2 h => ?_)
 ·refine zI<|zC<|zA zQK<|za (H':=[.box 29 (zF A),.box 29 (zF (⟨([]:List Int),0,0,([]:List zW),([]:List zK)⟩:zH))]) (zS (k:=1) (o:=0) (cs:=(zF ⟨[],0,0,[],[]⟩)) (la:=(zF (⟨([]:List Int),0,0,([]:List zW),([]:List zK)⟩:zH))) Try.sizeOf29 rfl rfl rfl rfl)<|zA (zD rfl)<|zA (zD rfl) ?_
  refine zG<|zb ?_
  cases h
  exact zEE (zF9 Try.isAgg29 Try.sizeOf29 rfl rfl rfl rfl) (zAh rfl rfl) (zAh rfl rfl) rfl
 refine zU<|zI<|zC<|zA (zR (k:=0) (o:=0) (m:=5) Try.isAgg29 Try.sizeOf29 rfl rfl rfl rfl rfl)<|zQ h fun x2 w2 h=>zHY (cs:=[ls cI x2.nodes,li x2.batch,li x2.high,AV.osl 46 10 (List.map zO x2.zones),AV.osl 50 1 (List.map zAO x2.caches)]) (la:=[(AV.agg (zF A))]) (la':=[(AV.agg (zF A))]) (S:=[]) Try.func42 rfl (by kernel_rfl) (.fn 42) rfl ⟨zA8.nr rfl,trivial⟩ (zDo w2) (.inl rfl) ?_
 refine zAG (zLs (k:=2) (o:=4) (cs:=[ls cI x2.nodes,li x2.batch,li x2.high,AV.osl 46 10 (List.map zO x2.zones),AV.osl 50 1 (List.map zAO x2.caches)]) (rows':=List.map zJ x2.caches) rfl rfl (zHi (fun x=>zEX x)))<|zX (H':=[.box 29 (zF A),.box 29 (zF ⟨[],0,0,[],[]⟩),.val (.agg [ls cI x2.nodes,li x2.batch,li x2.high,AV.osl 46 10 (List.map zO x2.zones),AV.osl 50 1 (List.map zJ x2.caches)]),.box 29 (zF ⟨[],0,0,[],[]⟩)]) zv3<|za (H':=[.box 29 (zF A),.box 29 (zF ⟨[],0,0,[],[]⟩),.dead,.box 29 [ls cI x2.nodes,li x2.batch,li x2.high,AV.osl 46 10 (List.map zO x2.zones),AV.osl 50 1 (List.map zJ x2.caches)]]) (zDz (k:=3) (o:=0) (j:=2) (cs:=(zF ⟨[],0,0,[],[]⟩)) (la:=[ls cI x2.nodes,li x2.batch,li x2.high,AV.osl 46 10 (List.map zO x2.zones),AV.osl 50 1 (List.map zJ x2.caches)]) Try.sizeOf29 rfl rfl rfl rfl rfl (by decide))<|zG<|zI<|zM h fun b3 h => ?_
 refine zQ h fun x3 w3 h => ?_
 refine zBY (n:=100) (m:=0) [.head 0 0,.head 0 0,.head 0 0,.head 0 0,.head 0 0,.head 0 0,.head 0 0,.head 0 0,.head 0 0,.head 0 0,.head 0 0,.head 0 0,.head 0 0] [] [AV.ptr 0 3,ls zO A.zones,AV.ptr 0 0,ls cI A.nodes,li B,(AV.rp (cI (at_ A.nodes B)) 0),(li (at_ A.nodes B)),(AV.tup [ls cI x3.1,li x3.2]),(AV.tup [ls cI x3.1,li x3.2]),ls cI x3.1,li x3.2,ls cI x3.1,li x3.2] [[.box 29 (zF A),.box 29 (zF ⟨[],0,0,[],[]⟩),.dead,.box 29 [ls cI x2.nodes,li x2.batch,li x2.high,AV.osl 46 10 (List.map zO x2.zones),AV.osl 50 1 (List.map zJ x2.caches)]]] (by kernel_rfl) (by kernel_rfl) ⟨D1 fun e s p=>zL (k:=0) (o:=0) (off:=3) Try.underlying29 rfl rfl Try.sizeOf26 (s 3 rfl),D1 fun e s p=>zN (k:=0) (o:=3) Try.isAgg26 p.1 rfl rfl rfl,D1 fun e s p=>zL (k:=0) (o:=0) (off:=0) Try.underlying29 rfl rfl Try.sizeOf22 (s 3 rfl),D1 fun e s p=>zN (k:=0) (o:=0) Try.isAgg22 p.1 rfl rfl rfl,D1 fun e s p=>zB (s 1 rfl),D1 fun e s p=>zj (f:=cI) (l:=A.nodes) (i:=B) Try.underlying22 Try.sizeOf3 (fun _=>rfl) p.1 p.2.1 b3,D1 fun e s p=>zm (o:=0) Try.isAgg3 p.1 rfl,?_,D1 fun e s p=>zB p.1,D1 fun e s p=>zT p.1 rfl,D1 fun e s p=>zT p.1 rfl,D1 fun e s p=>zD p.2.2.2.2.2.2.2.2.2.2.2.1,D1 fun e s p=>zD p.2.2.2.2.2.2.2.2.2.2.2.2.1,trivial⟩ ?_
 ·
  intro e8 s8 p8
  refine zZ (r:=(AV.tup [ls cI x3.1,li x3.2])) (la:=[ls zO A.zones,(li (at_ A.nodes B)),(AV.lit (.bool false))]) Try.func40 rfl (by kernel_rfl) (.fn 40) (zAV p8.1 (zAV p8.2.1 (zAV rfl rfl))) rfl (zJa w3) rfl ?_
  exact zG ⟨fun _=>rfl,rfl⟩
 intro e14 s14 hq1
 refine zAx (zCR (l:=[(2,(li G)),(6,(AV.ptr 1 0)),(10,(AV.ptr 3 0)),(11,(ls cI x3.1))]) ⟨s14 2 rfl,s14 6 rfl,s14 10 rfl,(hq1 11 (by decide) (by decide)),trivial⟩) ?_
 refine zAB (r:=r) (fun (_:Unit)=>mkE [(6,(AV.ptr 0 0))]) (fun _=>[.box 29 (zF ⟨[],0,0,[],[]⟩)]) (fun _=>zEc ) ?_ ?_
 ·
  refine zI<|zC<|zA (zB rfl)<|zA (zf Try.underlying22 rfl)<|zA (zB rfl)<|zG ?_
  refine zV<|zAA (σ:=Int×(List Int)×Int×Int×(List zW)×(List zK)) (fun (i1,d1,d2,d3,l1,l2)=>mkE [(2,(li G)),(6,(AV.ptr 0 0)),(10,(AV.ptr 1 0)),(56,(ls cI x3.1)),(57,(li (x3.1.length:Int))),(58,(li i1))]) (fun (i1,d1,d2,d3,l1,l2)=>[.box 29 (zF ⟨[],0,0,[],[]⟩),.box 29 [ls cI d1,li d2,li d3,AV.osl 46 10 (List.map zO l1),AV.osl 50 1 (List.map zJ l2)]]) (fun n0 (i1,d1,d2,d3,l1,l2)=>zAp G x3 n0 i1 d1 d2 d3 l1 l2) (0,x2.nodes,x2.batch,x2.high,x2.zones,x2.caches) h (fun _=>rfl) (zAf [1,3] rfl rfl (by kernel_rfl)) ?_
  clear h
  rintro n0 ⟨i1,d1,d2,d3,l1,l2⟩ h
  replace h:zEV G x3 (zAp G x3 n0) i1 d1 d2 d3 l1 l2=some r:=h
  unfold zEV at h
  refine zI<|zC<|zA (zp rfl rfl)<|zG<|zI ?_
  refine zY h rfl (fun b4 h => ?_) (fun b4 h => ?_)
  ·refine zU ?_
   refine zAB (r:=r) (fun ((d4,d5,d6,l3,l4):(List Int)×Int×Int×(List zW)×(List zK))=>mkE [(2,(li G)),(6,(AV.ptr 0 0)),(10,(AV.ptr 1 0)),(56,(ls cI x3.1)),(57,(li (x3.1.length:Int))),(58,(li i1))]) (fun (d4,d5,d6,l3,l4)=>[.box 29 (zF ⟨[],0,0,[],[]⟩),.box 29 [ls cI d4,li d5,li d6,AV.osl 46 10 (List.map zO l3),AV.osl 50 1 (List.map zJ l4)]]) (fun (d4,d5,d6,l3,l4)=>zC5 (zAp G x3 n0) i1 d4 d5 d6 l3 l4) ?_ ?_
   ·
    refine zV<|zI<|zC<|zM h fun b6 h=>zA (zj Try.underlying22 Try.sizeOf3 (fun _=>rfl) rfl rfl b6)<|zA (zm (o:=0) Try.isAgg3 rfl rfl) ?_
    refine zA (zD rfl)<|zG<|zI<|zI<|zAx (zBp (k:=1) (o:=3) (t':=46) (sz:=10) (rows:=List.map zO l1) rfl rfl)<|zAx (zBp (k:=1) (o:=4) (t':=50) (sz:=1) (rows:=List.map zJ l2) rfl rfl) ?_
    refine zQ h fun x4 w4 h=>zM h fun b7 h=>zM h fun b8 h => ?_
    refine zBY (n:=100) (m:=0) [.head 0 0,.head 0 0,.head 0 0,.head 0 0,.head 0 0,.head 0 0] [] [(AV.agg [ls cI d1,li d2,li d3,AV.hd 2,AV.hd 3]),(li (at_ x3.1 i1)),li x4,li G,(li ((1:Int)*2 ^ G.toNat)),(AV.lit (.bool (decide (x4<((1:Int)*2 ^ G.toNat)))))] [[.box 29 (zF ⟨[],0,0,[],[]⟩),.box 29 [ls cI d1,li d2,li d3,AV.hd 2,AV.hd 3],.vec 46 10 (List.map zO l1),.vec 50 1 (List.map zJ l2)]] (by kernel_rfl) (by kernel_rfl) ⟨D1 fun e s p=>zR (k:=1) (o:=0) (m:=5) Try.isAgg29 Try.sizeOf29 (s 10 rfl) rfl rfl rfl rfl,D1 fun e s p=>zB (s 14 rfl),?_,D1 fun e s p=>zB (s 2 rfl),D1 fun e s p=>zGt (a:=1) (b:=G) rfl p.1 b7 b8,D1 fun e s p=>zp (a:=x4) (b:=(1:Int)*2 ^ G.toNat) p.1 p.2.1,trivial⟩ ?_
    ·
     intro e17 s17 p16
     refine zAr (r':=(li x4)) (la:=[(AV.agg [ls cI d1,li d2,li d3,AV.hd 2,AV.hd 3]),(li (at_ x3.1 i1))]) (la':=[(AV.agg (zF ⟨d1,d2,d3,l1,l2⟩)),(li (at_ x3.1 i1))]) (r:=(li x4)) (S:=[2,3]) Try.func39 rfl (by kernel_rfl) (.fn 39) (zAV p16.1 (zAV p16.2.1 rfl)) ⟨zA8.agg (by exact ⟨zA8.nr rfl,⟨zA8.nr rfl,⟨zA8.nr rfl,⟨zGa (fun _=>rfl) rfl rfl,⟨zGa (fun _=>rfl) rfl rfl,trivial⟩⟩⟩⟩⟩),zA8.nr rfl,trivial⟩ (zFa w4) (.inr trivial) rfl ?_
     exact zG ⟨fun _=>rfl,rfl⟩
    intro e21 s21 hq2
    refine zAx (zCR (l:=[(2,(li G)),(6,(AV.ptr 0 0)),(10,(AV.ptr 1 0)),(14,(li (at_ x3.1 i1))),(56,(ls cI x3.1)),(57,(li (x3.1.length:Int))),(58,(li i1)),(67,(AV.lit (.bool (decide (x4<((1:Int)*2 ^ G.toNat))))))]) ⟨s21 2 rfl,s21 6 rfl,s21 10 rfl,s21 14 rfl,s21 56 rfl,s21 57 rfl,s21 58 rfl,(hq2 5 (by decide) (by decide)),trivial⟩) ?_
    refine zY h rfl (fun b9 h => ?_) (fun b9 h => ?_)
    ·refine zAH ?_
     exact ⟨(d1,d2,d3,l1,l2),Rep.trans (zAR (k:=1) (j:=2) (o:=3) rfl rfl rfl rfl) (Rep.trans (zAR (k:=1) (j:=3) (o:=4) rfl rfl rfl rfl) (zAf [0,1] (l:=[(2,(li G)),(6,(AV.ptr 0 0)),(10,(AV.ptr 1 0)),(56,(ls cI x3.1)),(57,(li (x3.1.length:Int))),(58,(li i1))]) rfl rfl (by kernel_rfl))),h⟩
    refine zU ?_
    refine zAB (r:=r) (fun ((d7,d8,d9,l5,l6):(List Int)×Int×Int×(List zW)×(List zK))=>mkE [(2,(li G)),(6,(AV.ptr 0 0)),(10,(AV.ptr 1 0)),(14,(li (at_ x3.1 i1))),(56,(ls cI x3.1)),(57,(li (x3.1.length:Int))),(58,(li i1))]) (fun (d7,d8,d9,l5,l6)=>[.box 29 (zF ⟨[],0,0,[],[]⟩),.box 29 [ls cI d7,li d8,li d9,AV.osl 46 10 (List.map zO l5),AV.osl 50 1 (List.map zJ l6)]]) (fun (d7,d8,d9,l5,l6)=>zEW (zAp G x3 n0) G x3 i1 d7 d8 d9 l5 l6) ?_ ?_
    ·
     refine zI<|zC<|zA (zL Try.underlying29 rfl rfl Try.sizeOf27 rfl)<|zA (zN Try.isAgg27 rfl rfl rfl rfl)<|zA (zDd (f:=zJ) (l:=l2) Try.underlying27 rfl rfl)<|zA (zB rfl) ?_
     refine zG<|zV<|zAA (σ:=Int×(List Int)×Int×Int×(List zW)×(List zK)) (fun (i2,d10,d11,d12,l7,l8)=>mkE [(2,(li G)),(6,(AV.ptr 0 0)),(10,(AV.ptr 1 0)),(14,(li (at_ x3.1 i1))),(56,(ls cI x3.1)),(57,(li (x3.1.length:Int))),(58,(li i1)),(70,(li (l2.length:Int))),(71,(li i2))]) (fun (i2,d10,d11,d12,l7,l8)=>[.box 29 (zF ⟨[],0,0,[],[]⟩),.box 29 [ls cI d10,li d11,li d12,AV.osl 46 10 (List.map zO l7),AV.osl 50 1 (List.map zJ l8)]]) (fun n1 (i2,d10,d11,d12,l7,l8)=>zC4 (zAp G x3 n0) G x3 i1 l2 n1 i2 d10 d11 d12 l7 l8) (0,d1,d2,d3,l1,l2) h (fun _=>rfl) (Rep.trans (zAR (k:=1) (j:=2) (o:=3) rfl rfl rfl rfl) (Rep.trans (zAR (k:=1) (j:=3) (o:=4) rfl rfl rfl rfl) (zAf [0,1] (l:=[(2,(li G)),(6,(AV.ptr 0 0)),(10,(AV.ptr 1 0)),(14,(li (at_ x3.1 i1))),(56,(ls cI x3.1)),(57,(li (x3.1.length:Int))),(58,(li i1)),(70,(li (l2.length:Int))),(71,(li 0))]) rfl rfl (by kernel_rfl)))) ?_
     clear h
     rintro n1 ⟨i2,d10,d11,d12,l7,l8⟩ h
     replace h:zEY (zAp G x3 n0) G x3 i1 l2 (zC4 (zAp G x3 n0) G x3 i1 l2 n1) i2 d10 d11 d12 l7 l8=some r:=h
     unfold zEY at h
     refine zI<|zC<|zA (zp rfl rfl)<|zG<|zI ?_
     refine zY h rfl (fun b12 h => ?_) (fun b12 h => ?_)
     ·refine zU<|zI<|zV<|zI<|zC<|zA (zB rfl) ?_
      refine zA (zD rfl)<|zG<|zC<|zA (zB rfl)<|zA (zB rfl)<|zQ h fun x6 w6 h => ?_
      refine zEm (k:=1) (la:=[AV.ptr 1 0,li i2,(li (at_ x3.1 i1))]) (la':=[AV.ptr 0 0,li i2,(li (at_ x3.1 i1))]) (r:=(.tup [])) (S:=[]) (en' := .box 29 [ls cI x6.nodes,li x6.batch,li x6.high,AV.osl 46 10 (List.map zO x6.zones),AV.osl 50 1 (List.map zJ x6.caches)]) Try.func44 rfl (by kernel_rfl) (.fn 44) rfl ⟨zC3.ptr,zC3.of (zA8.nr rfl),zC3.of (zA8.nr rfl),trivial⟩ rfl rfl (by kernel_rfl) (by kernel_rfl) (zGX w6) rfl (.inl rfl)<|zG<|zC<|zM h fun b13 h=>zA (zi rfl rfl b13)<|zA (zB rfl) ?_
      refine zG ?_
      exact ⟨((i2+1),x6.nodes,x6.batch,x6.high,x6.zones,x6.caches),zAf [0,1] rfl rfl (by kernel_rfl),h⟩
     refine zAH ?_
     exact ⟨(d10,d11,d12,l7,l8),zAf [0,1] rfl rfl (by kernel_rfl),h⟩
    clear h
    rintro ⟨d7,d8,d9,l5,l6⟩ h
    unfold zEW at h
    refine zI<|zC<|zA (zL Try.underlying29 rfl rfl Try.sizeOf26 rfl)<|zAG (zBp (k:=1) (o:=3) (t':=46) (sz:=10) (rows:=List.map zO l5) rfl rfl)<|zA (zN Try.isAgg26 rfl rfl rfl rfl)<|zA (zB rfl) ?_
    refine zM h fun b10 h=>zA (zAN (f:=zO) (l:=l5) (i:=at_ x3.1 i1) Try.underlying26 Try.sizeOf46 rfl rfl rfl b10)<|zA (zDB (f:=zO) (l:=l5) (i:=at_ x3.1 i1) (c:=0) (q:=10) (la:=(zO (at_ l5 (at_ x3.1 i1)))) Try.isAgg46 Try.sizeOf46 rfl rfl (by first | rfl | omega) b10 rfl rfl rfl)<|zA (zB rfl)<|zQ h fun x5 w5 h=>zZ Try.func48 rfl (by kernel_rfl) (.fn 48) rfl rfl (zLI w5) rfl ?_
    refine zA (zB rfl)<|zA (zT rfl rfl)<|zA (zT rfl rfl)<|zA (zT rfl rfl)<|zX (H':=[.box 29 (zF ⟨[],0,0,[],[]⟩),.box 29 [ls cI d7,li d8,li d9,AV.hd 2,AV.osl 50 1 (List.map zJ l6)],.vec 46 10 (List.map zO l5),.box 46 (zO ⟨0,0,0,0,0,(List.replicate 5 ([]:List Int))⟩)]) zv0<|za (H':=[.box 29 (zF ⟨[],0,0,[],[]⟩),.box 29 [ls cI d7,li d8,li d9,AV.hd 2,AV.osl 50 1 (List.map zJ l6)],.vec 46 10 (List.map zO l5),.box 46 (zO x5.1)]) (zS (k:=3) (o:=0) (cs:=(zO ⟨0,0,0,0,0,(List.replicate 5 ([]:List Int))⟩)) (la:=(zO x5.1)) Try.sizeOf46 rfl rfl rfl rfl) ?_
    refine zA (zD rfl)<|zA (zD rfl)<|zG<|zI<|zC<|zA (zB rfl) ?_
    refine zA (zBG rfl rfl)<|zG ?_
    refine zY h rfl (fun b11 h => ?_) (fun b11 h => ?_)
    ·refine zI<|zC<|zA (zL Try.underlying29 rfl rfl Try.sizeOf26 rfl)<|zA (zN Try.isAgg26 rfl rfl rfl rfl)<|zA (zB rfl)<|zA (zR (k:=3) (o:=0) (m:=10) Try.isAgg46 Try.sizeOf46 rfl rfl rfl rfl rfl) ?_
     refine zA (zAN (f:=zO) (l:=l5) (i:=at_ x3.1 i1) Try.underlying26 Try.sizeOf46 rfl rfl rfl b10)<|za (H':=[.box 29 (zF ⟨[],0,0,[],[]⟩),.box 29 [ls cI d7,li d8,li d9,AV.hd 2,AV.osl 50 1 (List.map zJ l6)],.vec 46 10 (List.map zO (l5.set (at_ x3.1 i1).toNat x5.1)),.box 46 (zO x5.1)]) (zC6 (k:=2) (o:=((at_ x3.1 i1).toNat*10)) (f:=zO) (l:=l5) (i:=at_ x3.1 i1) (z:=x5.1) Try.sizeOf46 (fun _=>rfl) rfl rfl (by first | rfl | omega) b10 rfl rfl)<|zG<|zI<|zC<|zAG (zAR (k:=1) (j:=2) (o:=3) rfl rfl rfl rfl) ?_
     refine zAG (zBw (k:=1) (o:=3) (rows':=List.map zO (l5.set (at_ x3.1 i1).toNat x5.1)) rfl rfl (zAX (fun _=>rfl)))<|zAG (zBw (k:=1) (o:=4) (rows':=List.map zJ l6) rfl rfl (zAX (fun _=>rfl)))<|zA (zR (k:=1) (o:=0) (m:=5) Try.isAgg29 Try.sizeOf29 rfl rfl rfl rfl rfl)<|zA (zB rfl)<|za (H':=[.box 29 (zF (⟨d7,d8,d9,l5.set (at_ x3.1 i1).toNat x5.1,l6⟩:zH)),.box 29 (zF ⟨d7,d8,d9,(l5.set (at_ x3.1 i1).toNat x5.1),l6⟩),.dead,.box 46 (zO x5.1)]) (zS (k:=0) (o:=0) (cs:=(zF ⟨[],0,0,[],[]⟩)) (la:=(zF (⟨d7,d8,d9,l5.set (at_ x3.1 i1).toNat x5.1,l6⟩:zH))) Try.sizeOf29 rfl rfl rfl rfl)<|zA (zD rfl) ?_
     refine zA (zD rfl)<|zG<|zb ?_
     cases h
     exact zEE (zF9 Try.isAgg29 Try.sizeOf29 rfl rfl rfl rfl) (zAh rfl rfl) (zAh rfl rfl) rfl
    refine zU ?_
    exact ⟨(d7,d8,d9,l5,l6),Rep.trans (zAR (k:=1) (j:=2) (o:=3) rfl rfl rfl rfl) (zAf [0,1] (l:=[(2,(li G)),(6,(AV.ptr 0 0)),(10,(AV.ptr 1 0)),(56,(ls cI x3.1)),(57,(li (x3.1.length:Int))),(58,(li i1))]) rfl rfl (by kernel_rfl)),h⟩
   clear h
   rintro ⟨d4,d5,d6,l3,l4⟩ h
   unfold zC5 at h
   refine zC<|zM h fun b5 h=>zA (zi rfl rfl b5)<|zA (zB rfl)<|zG ?_
   exact ⟨((i1+1),d4,d5,d6,l3,l4),zAf [0,1] rfl rfl (by kernel_rfl),h⟩
  refine zAH ?_
  exact ⟨(),zAf [0] rfl rfl (by kernel_rfl),h⟩
 clear h
 intro _ h
 unfold zEc at h
 refine zI<|zC<|zA zQK<|za (H':=[.box 29 (zF (⟨([]:List Int),0,0,([]:List zW),([]:List zK)⟩:zH))]) (zS (k:=0) (o:=0) (cs:=(zF ⟨[],0,0,[],[]⟩)) (la:=(zF (⟨([]:List Int),0,0,([]:List zW),([]:List zK)⟩:zH))) Try.sizeOf29 rfl rfl rfl rfl)<|zA (zD rfl)<|zA (zD rfl) ?_
 refine zG<|zb ?_
 cases h
 exact zEE (zF9 Try.isAgg29 Try.sizeOf29 rfl rfl rfl rfl) (zAh rfl rfl) (zAh rfl rfl) rfl
theorem zIl {C:zH} {r:zH} (h:zDO C=some r):PFn Try.prog 22 [(AV.agg (zF C))] (AV.agg (zF r)):=by
 refine zq Try.func22 rfl Try.ntmps22 Try.results22 rfl ?_
 unfold zDO at h
 refine zI<|zC<|zX (H':=[.box 29 (zF C)]) (z6 (t:=29) rfl)<|zX (H':=[.box 29 (zF C),.box 29 (zF ⟨[],0,0,[],[]⟩)]) zv3<|zG<|zI ?_
 refine zI<|zC<|zA (zR (k:=0) (o:=0) (m:=5) Try.isAgg29 Try.sizeOf29 rfl rfl rfl rfl rfl)<|zQ h fun x1 w1 h=>zZ Try.func15 rfl (by kernel_rfl) (.fn 15) rfl rfl (zA3 w1) rfl<|zA (z5 rfl rfl) ?_
 refine zG ?_
 refine zY h rfl (fun b1 h => ?_) (fun b1 h => ?_)
 ·refine zI<|zC<|zA zQK<|za (H':=[.box 29 (zF C),.box 29 (zF (⟨([]:List Int),0,0,([]:List zW),([]:List zK)⟩:zH))]) (zS (k:=1) (o:=0) (cs:=(zF ⟨[],0,0,[],[]⟩)) (la:=(zF (⟨([]:List Int),0,0,([]:List zW),([]:List zK)⟩:zH))) Try.sizeOf29 rfl rfl rfl rfl)<|zG<|zb ?_
  cases h
  exact zz (zF9 Try.isAgg29 Try.sizeOf29 rfl rfl rfl rfl)
 refine zU<|zI<|zC<|zA (zR (k:=0) (o:=0) (m:=5) Try.isAgg29 Try.sizeOf29 rfl rfl rfl rfl rfl)<|zQ h fun x2 w2 h=>zHY (cs:=[ls cI x2.nodes,li x2.batch,li x2.high,AV.osl 46 10 (List.map zO x2.zones),AV.osl 50 1 (List.map zAO x2.caches)]) (la:=[(AV.agg (zF C))]) (la':=[(AV.agg (zF C))]) (S:=[]) Try.func42 rfl (by kernel_rfl) (.fn 42) rfl ⟨zA8.nr rfl,trivial⟩ (zDo w2) (.inl rfl) ?_
 refine zAG (zLs (k:=2) (o:=4) (cs:=[ls cI x2.nodes,li x2.batch,li x2.high,AV.osl 46 10 (List.map zO x2.zones),AV.osl 50 1 (List.map zAO x2.caches)]) (rows':=List.map zJ x2.caches) rfl rfl (zHi (fun x=>zEX x)))<|zX (H':=[.box 29 (zF C),.box 29 (zF ⟨[],0,0,[],[]⟩),.val (.agg [ls cI x2.nodes,li x2.batch,li x2.high,AV.osl 46 10 (List.map zO x2.zones),AV.osl 50 1 (List.map zJ x2.caches)]),.box 29 (zF ⟨[],0,0,[],[]⟩)]) zv3<|za (H':=[.box 29 (zF C),.box 29 (zF ⟨[],0,0,[],[]⟩),.dead,.box 29 [ls cI x2.nodes,li x2.batch,li x2.high,AV.osl 46 10 (List.map zO x2.zones),AV.osl 50 1 (List.map zJ x2.caches)]]) (zDz (k:=3) (o:=0) (j:=2) (cs:=(zF ⟨[],0,0,[],[]⟩)) (la:=[ls cI x2.nodes,li x2.batch,li x2.high,AV.osl 46 10 (List.map zO x2.zones),AV.osl 50 1 (List.map zJ x2.caches)]) Try.sizeOf29 rfl rfl rfl rfl rfl (by decide))<|zG ?_
 refine zAB (r:=r) (fun ((d1,d2,d3,l1,l2):(List Int)×Int×Int×(List zW)×(List zK))=>mkE [(2,(AV.ptr 0 0)),(3,(AV.ptr 1 0))]) (fun (d1,d2,d3,l1,l2)=>[.box 29 (zF ⟨[],0,0,[],[]⟩),.box 29 [ls cI d1,li d2,li d3,AV.osl 46 10 (List.map zO l1),AV.osl 50 1 (List.map zJ l2)]]) (fun (d1,d2,d3,l1,l2)=>zGp d1 d2 d3 l1 l2) ?_ ?_
 ·
  refine zI<|zC<|zA (zL Try.underlying29 rfl rfl Try.sizeOf27 rfl)<|zAG (zBp (k:=3) (o:=4) (t':=50) (sz:=1) (rows:=List.map zJ x2.caches) rfl rfl)<|zA (zN Try.isAgg27 rfl rfl rfl rfl)<|zA (zDd (f:=zJ) (l:=x2.caches) Try.underlying27 rfl rfl) ?_
  refine zA (zB rfl)<|zG<|zV<|zAA (σ:=Int×(List Int)×Int×Int×(List zW)×(List zK)) (fun (i1,d4,d5,d6,l3,l4)=>mkE [(2,(AV.ptr 0 0)),(3,(AV.ptr 1 0)),(14,(li (x2.caches.length:Int))),(15,(li i1))]) (fun (i1,d4,d5,d6,l3,l4)=>[.box 29 (zF ⟨[],0,0,[],[]⟩),.box 29 [ls cI d4,li d5,li d6,AV.osl 46 10 (List.map zO l3),AV.osl 50 1 (List.map zJ l4)]]) (fun n0 (i1,d4,d5,d6,l3,l4)=>zBQ x2 n0 i1 d4 d5 d6 l3 l4) (0,x2.nodes,x2.batch,x2.high,x2.zones,x2.caches) h (fun _=>rfl) (Rep.trans (zAR (k:=3) (j:=4) (o:=4) rfl rfl rfl rfl) (zAf [1,3] (l:=[(2,(AV.ptr 0 0)),(3,(AV.ptr 1 0)),(14,(li (x2.caches.length:Int))),(15,(li 0))]) rfl rfl (by kernel_rfl))) ?_
  clear h
  rintro n0 ⟨i1,d4,d5,d6,l3,l4⟩ h
  replace h:zCA x2 (zBQ x2 n0) i1 d4 d5 d6 l3 l4=some r:=h
  unfold zCA at h
  refine zI<|zC<|zA (zp rfl rfl)<|zG<|zI ?_
  refine zY h rfl (fun b2 h => ?_) (fun b2 h => ?_)
  ·refine zU ?_
   refine zAB (r:=r) (fun ((d7,d8,d9,l5,l6):(List Int)×Int×Int×(List zW)×(List zK))=>mkE [(2,(AV.ptr 0 0)),(3,(AV.ptr 1 0)),(14,(li (x2.caches.length:Int))),(15,(li i1))]) (fun (d7,d8,d9,l5,l6)=>[.box 29 (zF ⟨[],0,0,[],[]⟩),.box 29 [ls cI d7,li d8,li d9,AV.osl 46 10 (List.map zO l5),AV.osl 50 1 (List.map zJ l6)]]) (fun (d7,d8,d9,l5,l6)=>zE0 (zBQ x2 n0) i1 d7 d8 d9 l5 l6) ?_ ?_
   ·
    refine zV<|zI<|zC<|zA (zB rfl)<|zA (zD rfl)<|zG ?_
    refine zI<|zC<|zA (zL Try.underlying29 rfl rfl Try.sizeOf26 rfl)<|zAG (zBp (k:=1) (o:=3) (t':=46) (sz:=10) (rows:=List.map zO l3) rfl rfl)<|zA (zN Try.isAgg26 rfl rfl rfl rfl)<|zA (zDd (f:=zO) (l:=l3) Try.underlying26 rfl rfl) ?_
    refine zA (zB rfl)<|zG<|zV<|zAA (σ:=Int×(List Int)×Int×Int×(List zW)×(List zK)) (fun (i2,d10,d11,d12,l7,l8)=>mkE [(2,(AV.ptr 0 0)),(3,(AV.ptr 1 0)),(4,(li i1)),(14,(li (x2.caches.length:Int))),(15,(li i1)),(20,(li (l3.length:Int))),(21,(li i2))]) (fun (i2,d10,d11,d12,l7,l8)=>[.box 29 (zF ⟨[],0,0,[],[]⟩),.box 29 [ls cI d10,li d11,li d12,AV.osl 46 10 (List.map zO l7),AV.osl 50 1 (List.map zJ l8)]]) (fun n1 (i2,d10,d11,d12,l7,l8)=>zDh (zBQ x2 n0) i1 l3 n1 i2 d10 d11 d12 l7 l8) (0,d4,d5,d6,l3,l4) h (fun _=>rfl) (Rep.trans (zAR (k:=1) (j:=2) (o:=3) rfl rfl rfl rfl) (zAf [0,1] (l:=[(2,(AV.ptr 0 0)),(3,(AV.ptr 1 0)),(4,(li i1)),(14,(li (x2.caches.length:Int))),(15,(li i1)),(20,(li (l3.length:Int))),(21,(li 0))]) rfl rfl (by kernel_rfl))) ?_
    clear h
    rintro n1 ⟨i2,d10,d11,d12,l7,l8⟩ h
    replace h:zB9 (zBQ x2 n0) i1 l3 (zDh (zBQ x2 n0) i1 l3 n1) i2 d10 d11 d12 l7 l8=some r:=h
    unfold zB9 at h
    refine zI<|zC<|zA (zp rfl rfl)<|zG<|zI ?_
    refine zY h rfl (fun b4 h => ?_) (fun b4 h => ?_)
    ·refine zU<|zI<|zV<|zI<|zC<|zA (zB rfl) ?_
     refine zA (zD rfl)<|zG<|zC<|zA (zB rfl)<|zA (zB rfl)<|zQ h fun x3 w3 h => ?_
     refine zEm (k:=1) (la:=[AV.ptr 1 0,li i1,li i2]) (la':=[AV.ptr 0 0,li i1,li i2]) (r:=(.tup [])) (S:=[]) (en' := .box 29 [ls cI x3.nodes,li x3.batch,li x3.high,AV.osl 46 10 (List.map zO x3.zones),AV.osl 50 1 (List.map zJ x3.caches)]) Try.func44 rfl (by kernel_rfl) (.fn 44) rfl ⟨zC3.ptr,zC3.of (zA8.nr rfl),zC3.of (zA8.nr rfl),trivial⟩ rfl rfl (by kernel_rfl) (by kernel_rfl) (zGX w3) rfl (.inl rfl)<|zG<|zC<|zM h fun b5 h=>zA (zi rfl rfl b5)<|zA (zB rfl) ?_
     refine zG ?_
     exact ⟨((i2+1),x3.nodes,x3.batch,x3.high,x3.zones,x3.caches),zAf [0,1] rfl rfl (by kernel_rfl),h⟩
    refine zAH ?_
    exact ⟨(d10,d11,d12,l7,l8),zAf [0,1] rfl rfl (by kernel_rfl),h⟩
   clear h
   rintro ⟨d7,d8,d9,l5,l6⟩ h
   unfold zE0 at h
   refine zC<|zM h fun b3 h=>zA (zi rfl rfl b3)<|zA (zB rfl)<|zG ?_
   exact ⟨((i1+1),d7,d8,d9,l5,l6),zAf [0,1] rfl rfl (by kernel_rfl),h⟩
  refine zAH ?_
  exact ⟨(d4,d5,d6,l3,l4),zAf [0,1] rfl rfl (by kernel_rfl),h⟩
 clear h
 rintro ⟨d1,d2,d3,l1,l2⟩ h
 unfold zGp at h
 refine zI<|zC<|zAG (zBw (k:=1) (o:=3) (rows':=List.map zO l1) rfl rfl (zAX (fun _=>rfl)))<|zAG (zBw (k:=1) (o:=4) (rows':=List.map zJ l2) rfl rfl (zAX (fun _=>rfl)))<|zA (zR (k:=1) (o:=0) (m:=5) Try.isAgg29 Try.sizeOf29 rfl rfl rfl rfl rfl)<|za (H':=[.box 29 (zF (⟨d1,d2,d3,l1,l2⟩:zH)),.box 29 (zF ⟨d1,d2,d3,l1,l2⟩)]) (zS (k:=0) (o:=0) (cs:=(zF ⟨[],0,0,[],[]⟩)) (la:=(zF (⟨d1,d2,d3,l1,l2⟩:zH))) Try.sizeOf29 rfl rfl rfl rfl) ?_
 refine zG<|zb ?_
 cases h
 exact zz (zF9 Try.isAgg29 Try.sizeOf29 rfl rfl rfl rfl)
theorem zJc {C:List Int} {V:List Int} {r:Bool} (h:zHE C V=some r):PFn Try.prog 30 [ls cI C,ls cI V] (AV.lit (.bool r)):=by
 refine zq Try.func30 rfl Try.ntmps30 Try.results30 rfl ?_
 unfold zHE at h
 refine zI<|zC<|zA (zD rfl)<|zG<|zI<|zI ?_
 refine zC<|zA (zB rfl)<|zA (zf Try.underlying22 rfl)<|zA (zB rfl)<|zA (zf Try.underlying22 rfl)<|zA (z5 rfl rfl) ?_
 refine zG ?_
 refine zY h rfl (fun b1 h => ?_) (fun b1 h => ?_)
 ·refine zI<|zC<|zA (zD rfl)<|zG<|zb ?_
  cases h
  exact zz (zAh rfl rfl)
 refine zU ?_
 refine zAB (r:=r) (fun (_:Unit)=>mkE []) (fun _=>[]) (fun _=>zHC ) ?_ ?_
 ·
  refine zI<|zC<|zA (zB rfl)<|zA (zf Try.underlying22 rfl)<|zA (zB rfl)<|zG ?_
  refine zV<|zAA (σ:=Int) (fun i1=>mkE [(0,(ls cI C)),(1,(ls cI V)),(12,(li (C.length:Int))),(13,(li i1))]) (fun i1=>[]) (fun n0 i1=>zFf C V n0 i1) 0 h (fun _=>rfl) (zAf [] rfl rfl (by kernel_rfl)) ?_
  clear h
  intro n0 i1 h
  replace h:zG3 C V (zFf C V n0) i1=some r:=h
  unfold zG3 at h
  refine zI<|zC<|zA (zp rfl rfl)<|zG<|zI ?_
  refine zY h rfl (fun b2 h => ?_) (fun b2 h => ?_)
  ·refine zU<|zI<|zV<|zI<|zC<|zA (zB rfl) ?_
   refine zA (zD rfl)<|zG<|zI<|zM h fun b3 h=>zM h fun b4 h => ?_
   refine zBY (n:=26) (m:=0) [.head 0 0,.head 0 0,.head 0 0,.head 0 0,.head 0 0,.head 0 0,.head 0 0,.head 0 0,.head 0 0] [] [ls cI C,li i1,(AV.rp (cI (at_ C i1)) 0),(li (at_ C i1)),ls cI V,li i1,(AV.rp (cI (at_ V i1)) 0),(li (at_ V i1)),(AV.lit (.bool (!decide ((at_ C i1)=(at_ V i1)))))] [[]] (by kernel_rfl) (by kernel_rfl) ⟨D1 fun e s p=>zB (s 0 rfl),D1 fun e s p=>zB (s 5 rfl),D1 fun e s p=>zj (f:=cI) (l:=C) (i:=i1) Try.underlying22 Try.sizeOf3 (fun _=>rfl) p.1 p.2.1 b3,D1 fun e s p=>zm (o:=0) Try.isAgg3 p.1 rfl,D1 fun e s p=>zB (s 1 rfl),D1 fun e s p=>zB (s 5 rfl),D1 fun e s p=>zj (f:=cI) (l:=V) (i:=i1) Try.underlying22 Try.sizeOf3 (fun _=>rfl) p.1 p.2.1 b4,D1 fun e s p=>zm (o:=0) Try.isAgg3 p.1 rfl,D1 fun e s p=>z5 (a:=at_ C i1) (b:=at_ V i1) p.1 p.2.1,trivial⟩ ?_
   intro e10 s10 hq1
   refine zAx (zCR (l:=[(0,(ls cI C)),(1,(ls cI V)),(12,(li (C.length:Int))),(13,(li i1)),(24,(AV.lit (.bool (!decide ((at_ C i1)=(at_ V i1))))))]) ⟨s10 0 rfl,s10 1 rfl,s10 12 rfl,s10 13 rfl,(hq1 8 (by decide) (by decide)),trivial⟩) ?_
   refine zY h rfl (fun b5 h => ?_) (fun b5 h => ?_)
   ·refine zI<|zC<|zA (zD rfl)<|zG<|zb ?_
    cases h
    exact zz (zAh rfl rfl)
   refine zU<|zC<|zM h fun b6 h=>zA (zi rfl rfl b6)<|zA (zB rfl)<|zG ?_
   exact ⟨(i1+1),zAf [] rfl rfl (by kernel_rfl),h⟩
  refine zAH ?_
  exact ⟨(),zAf [] rfl rfl (by kernel_rfl),h⟩
 clear h
 intro _ h
 unfold zHC at h
 refine zI<|zC<|zA (zD rfl)<|zG<|zb ?_
 cases h
 exact zz (zAh rfl rfl)
theorem zMk {C:List Int} {V:List Int} {r:Bool} (h:zI4 C V=some r):PFn Try.prog 55 [ls cI C,ls cI V] (AV.lit (.bool r)):=by
 refine zq Try.func55 rfl Try.ntmps55 Try.results55 rfl ?_
 unfold zI4 at h
 refine zI<|zC<|zA (zD rfl)<|zG<|zI<|zI ?_
 refine zC<|zA (zB rfl)<|zA (zf Try.underlying22 rfl)<|zA (zB rfl)<|zA (zf Try.underlying22 rfl)<|zA (z5 rfl rfl) ?_
 refine zG ?_
 refine zY h rfl (fun b1 h => ?_) (fun b1 h => ?_)
 ·refine zI<|zC<|zA (zD rfl)<|zG<|zb ?_
  cases h
  exact zz (zAh rfl rfl)
 refine zU ?_
 refine zAB (r:=r) (fun (_:Unit)=>mkE []) (fun _=>[]) (fun _=>zG5 ) ?_ ?_
 ·
  refine zI<|zC<|zA (zD rfl)<|zG<|zV<|zAA (σ:=Int) (fun i1=>mkE [(0,(ls cI C)),(1,(ls cI V)),(5,(li i1))]) (fun i1=>[]) (fun n0 i1=>zFc C V n0 i1) 0 h (fun _=>rfl) (zAf [] rfl rfl (by kernel_rfl)) ?_
  clear h
  intro n0 i1 h
  replace h:zG6 C V (zFc C V n0) i1=some r:=h
  unfold zG6 at h
  refine zI<|zI<|zC<|zA (zB rfl)<|zA (zB rfl)<|zA (zf Try.underlying22 rfl) ?_
  refine zA (zp rfl rfl)<|zG ?_
  refine zY h rfl (fun b2 h => ?_) (fun b2 h => ?_)
  ·refine zU<|zI<|zV<|zI<|zM h fun b3 h=>zM h fun b4 h => ?_
   refine zBY (n:=26) (m:=0) [.head 0 0,.head 0 0,.head 0 0,.head 0 0,.head 0 0,.head 0 0,.head 0 0,.head 0 0,.head 0 0] [] [ls cI C,li i1,(AV.rp (cI (at_ C i1)) 0),(li (at_ C i1)),ls cI V,li i1,(AV.rp (cI (at_ V i1)) 0),(li (at_ V i1)),(AV.lit (.bool (!decide ((at_ C i1)=(at_ V i1)))))] [[]] (by kernel_rfl) (by kernel_rfl) ⟨D1 fun e s p=>zB (s 0 rfl),D1 fun e s p=>zB (s 5 rfl),D1 fun e s p=>zj (f:=cI) (l:=C) (i:=i1) Try.underlying22 Try.sizeOf3 (fun _=>rfl) p.1 p.2.1 b3,D1 fun e s p=>zm (o:=0) Try.isAgg3 p.1 rfl,D1 fun e s p=>zB (s 1 rfl),D1 fun e s p=>zB (s 5 rfl),D1 fun e s p=>zj (f:=cI) (l:=V) (i:=i1) Try.underlying22 Try.sizeOf3 (fun _=>rfl) p.1 p.2.1 b4,D1 fun e s p=>zm (o:=0) Try.isAgg3 p.1 rfl,D1 fun e s p=>z5 (a:=at_ C i1) (b:=at_ V i1) p.1 p.2.1,trivial⟩ ?_
   intro e10 s10 hq1
   refine zAx (zCR (l:=[(0,(ls cI C)),(1,(ls cI V)),(5,(li i1)),(25,(AV.lit (.bool (!decide ((at_ C i1)=(at_ V i1))))))]) ⟨s10 0 rfl,s10 1 rfl,s10 5 rfl,(hq1 8 (by decide) (by decide)),trivial⟩) ?_
   refine zY h rfl (fun b5 h => ?_) (fun b5 h => ?_)
   ·refine zI<|zC<|zA (zD rfl)<|zG<|zb ?_
    cases h
    exact zz (zAh rfl rfl)
   refine zU<|zC<|zA (zB rfl)<|zM h fun b6 h=>zA (zi rfl rfl b6)<|zA (zD rfl) ?_
   refine zG ?_
   exact ⟨(i1+1),zAf [] rfl rfl (by kernel_rfl),h⟩
  refine zAH ?_
  exact ⟨(),zAf [] rfl rfl (by kernel_rfl),h⟩
 clear h
 intro _ h
 unfold zG5 at h
 refine zI<|zC<|zA (zD rfl)<|zG<|zb ?_
 cases h
 exact zz (zAh rfl rfl)
theorem zOy {C:zW} {V:zW} {r:Bool} (h:zMi C V=some r):PFn Try.prog 31 [(AV.agg (zO C)),(AV.agg (zO V))] (AV.lit (.bool r)):=by
 refine zq Try.func31 rfl Try.ntmps31 Try.results31 rfl ?_
 unfold zMi at h
 refine zI<|zC<|zX (H':=[.box 46 (zO C)]) (z6 (t:=46) rfl)<|zX (H':=[.box 46 (zO C),.box 46 (zO V)]) (z6 (t:=46) rfl)<|zA (zD rfl)<|zG ?_
 refine zI<|zI<|zC<|zA (zL Try.underlying46 rfl rfl Try.sizeOf3 rfl)<|zA (zN Try.isAgg3 rfl rfl rfl rfl)<|zA (zL Try.underlying46 rfl rfl Try.sizeOf3 rfl) ?_
 refine zA (zN Try.isAgg3 rfl rfl rfl rfl)<|zA (z5 rfl rfl)<|zA (zB rfl)<|zd rfl rfl (fun c1=>zv.step (zL Try.underlying46 rfl rfl Try.sizeOf3 rfl))<|zd rfl rfl (fun c2=>zv.step (zN Try.isAgg3 (zAJ rfl c2) rfl rfl rfl))<|zd rfl rfl (fun c3=>zv.step (zL Try.underlying46 rfl rfl Try.sizeOf3 rfl)) ?_
 refine zd rfl rfl (fun c4=>zv.step (zN Try.isAgg3 (zAJ rfl c4) rfl rfl rfl))<|zd rfl rfl (fun c5=>zv.step (z5 (zAJ rfl c5) (zAJ rfl c5)))<|zA (zh rfl rfl)<|zA (zB rfl)<|zd rfl rfl (fun c6=>zv.step (zL Try.underlying46 rfl rfl Try.sizeOf3 rfl))<|zd rfl rfl (fun c7=>zv.step (zN Try.isAgg3 (zAJ rfl c7) rfl rfl rfl)) ?_
 refine zd rfl rfl (fun c8=>zv.step (zL Try.underlying46 rfl rfl Try.sizeOf3 rfl))<|zd rfl rfl (fun c9=>zv.step (zN Try.isAgg3 (zAJ rfl c9) rfl rfl rfl))<|zd rfl rfl (fun c10=>zv.step (z5 (zAJ rfl c10) (zAJ rfl c10)))<|zA (zh rfl rfl)<|zA (zB rfl)<|zd rfl rfl (fun c11=>zv.step (zL Try.underlying46 rfl rfl Try.sizeOf3 rfl)) ?_
 refine zd rfl rfl (fun c12=>zv.step (zN Try.isAgg3 (zAJ rfl c12) rfl rfl rfl))<|zd rfl rfl (fun c13=>zv.step (zL Try.underlying46 rfl rfl Try.sizeOf3 rfl))<|zd rfl rfl (fun c14=>zv.step (zN Try.isAgg3 (zAJ rfl c14) rfl rfl rfl))<|zd rfl rfl (fun c15=>zv.step (z5 (zAJ rfl c15) (zAJ rfl c15)))<|zA (zh rfl rfl)<|zA (zB rfl) ?_
 refine zd rfl rfl (fun c16=>zv.step (zL Try.underlying46 rfl rfl Try.sizeOf3 rfl))<|zd rfl rfl (fun c17=>zv.step (zN Try.isAgg3 (zAJ rfl c17) rfl rfl rfl))<|zd rfl rfl (fun c18=>zv.step (zL Try.underlying46 rfl rfl Try.sizeOf3 rfl))<|zd rfl rfl (fun c19=>zv.step (zN Try.isAgg3 (zAJ rfl c19) rfl rfl rfl))<|zd rfl rfl (fun c20=>zv.step (z5 (zAJ rfl c20) (zAJ rfl c20)))<|zA (zh rfl rfl) ?_
 refine zG ?_
 refine zY h rfl (fun b1 h => ?_) (fun b1 h => ?_)
 ·refine zI<|zC<|zA (zD rfl)<|zG<|zb ?_
  cases h
  exact zz (zAh rfl rfl)
 refine zU ?_
 refine zAB (r:=r) (fun (_:Unit)=>mkE []) (fun _=>[]) (fun _=>zJq ) ?_ ?_
 ·
  refine zI<|zC<|zA (zD rfl)<|zG<|zV<|zAA (σ:=Int) (fun i1=>mkE [(2,(AV.ptr 0 0)),(3,(AV.ptr 1 0)),(5,(li i1))]) (fun i1=>[.box 46 (zO C),.box 46 (zO V)]) (fun n0 i1=>zH0 C V n0 i1) 0 h (fun _=>rfl) (zAf [0,1] rfl rfl (by kernel_rfl)) ?_
  clear h
  intro n0 i1 h
  replace h:zJl C V (zH0 C V n0) i1=some r:=h
  unfold zJl at h
  refine zI<|zI<|zC<|zA (zB rfl)<|zA (zH1 rfl rfl)<|zG ?_
  refine zY h rfl (fun b2 h => ?_) (fun b2 h => ?_)
  ·refine zU<|zI<|zV<|zI<|zM h fun b3 h=>zQ h fun x1 w1 h => ?_
   refine zBY (n:=53) (m:=0) [.head 0 0,.head 0 0,.head 0 0,.head 0 0,.head 0 0,.head 0 0,.head 0 0,.head 0 0,.head 0 0,.head 0 0] [] [li i1,AV.ptr 0 5,(AV.ptr 0 (5+i1.toNat*1)),(ls cI (C.free.getD i1.toNat ([]:List Int))),li i1,AV.ptr 1 5,(AV.ptr 1 (5+i1.toNat*1)),(ls cI (V.free.getD i1.toNat ([]:List Int))),(AV.lit (.bool x1)),(AV.lit (.bool (!x1)))] [[.box 46 (zO C),.box 46 (zO V)]] (by kernel_rfl) (by kernel_rfl) ⟨D1 fun e s p=>zB (s 5 rfl),D1 fun e s p=>zL (k:=0) (o:=0) (off:=5) Try.underlying46 rfl rfl Try.sizeOf44 (s 2 rfl),D1 fun e s p=>zAa (m:=5) (s:=1) (i:=i1) (k:=0) (o:=5) Try.underlying44 Try.sizeOf22 p.1 p.2.1 b3,D1 fun e s p=>zDA (k:=0) (o:=(5+i1.toNat*1)) (cs:=(zO C)) (hd:=([li C.node]++[li C.kind]++[li C.start]++[li C.count]++[li C.min]++[])) (tl:=([])) (g:=(eS cI)) (d0:=([]:List Int)) (l:=C.free) (N:=5) (i:=i1.toNat) (a:=(ls cI (C.free.getD i1.toNat ([]:List Int)))) Try.isAgg22 p.1 rfl rfl (congrArg (fun q=>5+q) (Nat.mul_one _)) (zCZ b3).2 rfl rfl,D1 fun e s p=>zB (s 5 rfl),D1 fun e s p=>zL (k:=1) (o:=0) (off:=5) Try.underlying46 rfl rfl Try.sizeOf44 (s 3 rfl),D1 fun e s p=>zAa (m:=5) (s:=1) (i:=i1) (k:=1) (o:=5) Try.underlying44 Try.sizeOf22 p.1 p.2.1 b3,D1 fun e s p=>zDA (k:=1) (o:=(5+i1.toNat*1)) (cs:=(zO V)) (hd:=([li V.node]++[li V.kind]++[li V.start]++[li V.count]++[li V.min]++[])) (tl:=([])) (g:=(eS cI)) (d0:=([]:List Int)) (l:=V.free) (N:=5) (i:=i1.toNat) (a:=(ls cI (V.free.getD i1.toNat ([]:List Int)))) Try.isAgg22 p.1 rfl rfl (congrArg (fun q=>5+q) (Nat.mul_one _)) (zCZ b3).2 rfl rfl,?_,D1 fun e s p=>zBK (t:=x1) p.1,trivial⟩ ?_
   ·
    intro e9 s9 p9
    refine zZ (r:=(AV.lit (.bool x1))) (la:=[(ls cI (C.free.getD i1.toNat ([]:List Int))),(ls cI (V.free.getD i1.toNat ([]:List Int)))]) Try.func55 rfl (by kernel_rfl) (.fn 55) (zAV p9.1 (zAV p9.2.1 rfl)) rfl (zMk w1) rfl ?_
    exact zG ⟨fun _=>rfl,rfl⟩
   intro e11 s11 hq1
   refine zAx (zCR (l:=[(2,(AV.ptr 0 0)),(3,(AV.ptr 1 0)),(5,(li i1)),(52,(AV.lit (.bool (!x1))))]) ⟨s11 2 rfl,s11 3 rfl,s11 5 rfl,(hq1 9 (by decide) (by decide)),trivial⟩) ?_
   refine zY h rfl (fun b4 h => ?_) (fun b4 h => ?_)
   ·refine zI<|zC<|zA (zD rfl)<|zG<|zb ?_
    cases h
    exact zz (zAh rfl rfl)
   refine zU<|zC<|zA (zB rfl)<|zM h fun b5 h=>zA (zi rfl rfl b5)<|zA (zD rfl) ?_
   refine zG ?_
   exact ⟨(i1+1),zAf [0,1] rfl rfl (by kernel_rfl),h⟩
  refine zAH ?_
  exact ⟨(),zAf [] rfl rfl (by kernel_rfl),h⟩
 clear h
 intro _ h
 unfold zJq at h
 refine zI<|zC<|zA (zD rfl)<|zG<|zb ?_
 cases h
 exact zz (zAh rfl rfl)
theorem zO6 {C:zK} {V:zK} {r:Bool} (h:zMW C V=some r):PFn Try.prog 32 [(AV.agg (zJ C)),(AV.agg (zJ V))] (AV.lit (.bool r)):=by
 refine zq Try.func32 rfl Try.ntmps32 Try.results32 rfl ?_
 unfold zMW at h
 refine zI<|zC<|zX (H':=[.box 50 (zJ C)]) (z6 (t:=50) rfl)<|zX (H':=[.box 50 (zJ C),.box 50 (zJ V)]) (z6 (t:=50) rfl)<|zA (zD rfl)<|zG ?_
 refine zI<|zI<|zC<|zA (zL Try.underlying50 rfl rfl Try.sizeOf48 rfl)<|zA (zN Try.isAgg48 rfl rfl rfl rfl)<|zA (zf Try.underlying48 rfl) ?_
 refine zA (zL Try.underlying50 rfl rfl Try.sizeOf48 rfl)<|zA (zN Try.isAgg48 rfl rfl rfl rfl)<|zA (zf Try.underlying48 rfl)<|zA (z5 rfl rfl)<|zG ?_
 refine zY h rfl (fun b1 h => ?_) (fun b1 h => ?_)
 ·refine zI<|zC<|zA (zD rfl)<|zG<|zb ?_
  cases h
  exact zz (zAh rfl rfl)
 refine zU ?_
 refine zAB (r:=r) (fun (_:Unit)=>mkE []) (fun _=>[]) (fun _=>zJj ) ?_ ?_
 ·
  refine zI<|zC<|zA (zL Try.underlying50 rfl rfl Try.sizeOf48 rfl)<|zA (zN Try.isAgg48 rfl rfl rfl rfl)<|zA (zf Try.underlying48 rfl)<|zA (zB rfl) ?_
  refine zG<|zV<|zAA (σ:=Int) (fun i1=>mkE [(2,(AV.ptr 0 0)),(3,(AV.ptr 1 0)),(15,(li (C.lists.length:Int))),(16,(li i1))]) (fun i1=>[.box 50 (zJ C),.box 50 (zJ V)]) (fun n0 i1=>zH3 C V n0 i1) 0 h (fun _=>rfl) (zAf [0,1] rfl rfl (by kernel_rfl)) ?_
  clear h
  intro n0 i1 h
  replace h:zJ1 C V (zH3 C V n0) i1=some r:=h
  unfold zJ1 at h
  refine zI<|zC<|zA (zp rfl rfl)<|zG<|zI ?_
  refine zY h rfl (fun b2 h => ?_) (fun b2 h => ?_)
  ·refine zU<|zI<|zV<|zI<|zC<|zA (zB rfl) ?_
   refine zA (zD rfl)<|zG<|zI<|zM h fun b3 h=>zM h fun b4 h=>zQ h fun x1 w1 h => ?_
   refine zBY (n:=32) (m:=0) [.head 0 0,.head 0 0,.head 0 0,.head 0 0,.head 0 0,.head 0 0,.head 0 0,.head 0 0,.head 0 0,.head 0 0,.head 0 0,.head 0 0] [] [AV.ptr 0 0,(ls (cS cI) C.lists),li i1,(AV.rp ((cS cI) (at_ C.lists i1)) 0),(ls cI (at_ C.lists i1)),AV.ptr 1 0,(ls (cS cI) V.lists),li i1,(AV.rp ((cS cI) (at_ V.lists i1)) 0),(ls cI (at_ V.lists i1)),(AV.lit (.bool x1)),(AV.lit (.bool (!x1)))] [[.box 50 (zJ C),.box 50 (zJ V)]] (by kernel_rfl) (by kernel_rfl) ⟨D1 fun e s p=>zL (k:=0) (o:=0) (off:=0) Try.underlying50 rfl rfl Try.sizeOf48 (s 2 rfl),D1 fun e s p=>zN (k:=0) (o:=0) Try.isAgg48 p.1 rfl rfl rfl,D1 fun e s p=>zB (s 5 rfl),D1 fun e s p=>zj (f:=(cS cI)) (l:=C.lists) (i:=i1) Try.underlying48 Try.sizeOf22 (fun _=>rfl) p.1 p.2.1 b3,D1 fun e s p=>zm (o:=0) Try.isAgg22 p.1 rfl,D1 fun e s p=>zL (k:=1) (o:=0) (off:=0) Try.underlying50 rfl rfl Try.sizeOf48 (s 3 rfl),D1 fun e s p=>zN (k:=1) (o:=0) Try.isAgg48 p.1 rfl rfl rfl,D1 fun e s p=>zB (s 5 rfl),D1 fun e s p=>zj (f:=(cS cI)) (l:=V.lists) (i:=i1) Try.underlying48 Try.sizeOf22 (fun _=>rfl) p.1 p.2.1 b4,D1 fun e s p=>zm (o:=0) Try.isAgg22 p.1 rfl,?_,D1 fun e s p=>zBK (t:=x1) p.1,trivial⟩ ?_
   ·
    intro e11 s11 p11
    refine zZ (r:=(AV.lit (.bool x1))) (la:=[(ls cI (at_ C.lists i1)),(ls cI (at_ V.lists i1))]) Try.func30 rfl (by kernel_rfl) (.fn 30) (zAV p11.1 (zAV p11.2.1 rfl)) rfl (zJc w1) rfl ?_
    exact zG ⟨fun _=>rfl,rfl⟩
   intro e13 s13 hq1
   refine zAx (zCR (l:=[(2,(AV.ptr 0 0)),(3,(AV.ptr 1 0)),(15,(li (C.lists.length:Int))),(16,(li i1)),(30,(AV.lit (.bool (!x1))))]) ⟨s13 2 rfl,s13 3 rfl,s13 15 rfl,s13 16 rfl,(hq1 11 (by decide) (by decide)),trivial⟩) ?_
   refine zY h rfl (fun b5 h => ?_) (fun b5 h => ?_)
   ·refine zI<|zC<|zA (zD rfl)<|zG<|zb ?_
    cases h
    exact zz (zAh rfl rfl)
   refine zU<|zC<|zM h fun b6 h=>zA (zi rfl rfl b6)<|zA (zB rfl)<|zG ?_
   exact ⟨(i1+1),zAf [0,1] rfl rfl (by kernel_rfl),h⟩
  refine zAH ?_
  exact ⟨(),zAf [] rfl rfl (by kernel_rfl),h⟩
 clear h
 intro _ h
 unfold zJj at h
 refine zI<|zC<|zA (zD rfl)<|zG<|zb ?_
 cases h
 exact zz (zAh rfl rfl)
theorem zPT {A:zH} {B:zH} {r:Bool} (h:zMd A B=some r):PFn Try.prog 11 [(AV.agg (zF A)),(AV.agg (zF B))] (AV.lit (.bool r)):=by
 refine zq Try.func11 rfl Try.ntmps11 Try.results11 rfl ?_
 unfold zMd at h
 refine zI<|zC<|zX (H':=[.box 29 (zF A)]) (z6 (t:=29) rfl)<|zX (H':=[.box 29 (zF A),.box 29 (zF B)]) (z6 (t:=29) rfl)<|zA (zD rfl)<|zG ?_
 refine zI<|zI<|zC<|zA (zL Try.underlying29 rfl rfl Try.sizeOf22 rfl)<|zA (zN Try.isAgg22 rfl rfl rfl rfl)<|zA (zL Try.underlying29 rfl rfl Try.sizeOf22 rfl) ?_
 refine zA (zN Try.isAgg22 rfl rfl rfl rfl)<|zQ h fun x1 w1 h=>zZ Try.func30 rfl (by kernel_rfl) (.fn 30) rfl rfl (zJc w1) rfl<|zA (zBK (t:=x1) rfl)<|zA (zB rfl)<|zd rfl rfl (fun c1=>zv.step (zL Try.underlying29 rfl rfl Try.sizeOf3 rfl)) ?_
 refine zd rfl rfl (fun c2=>zv.step (zN Try.isAgg3 (zAJ rfl c2) rfl rfl rfl))<|zd rfl rfl (fun c3=>zv.step (zL Try.underlying29 rfl rfl Try.sizeOf3 rfl))<|zd rfl rfl (fun c4=>zv.step (zN Try.isAgg3 (zAJ rfl c4) rfl rfl rfl))<|zd rfl rfl (fun c5=>zv.step (z5 (zAJ rfl c5) (zAJ rfl c5)))<|zA (zh rfl rfl)<|zA (zB rfl) ?_
 refine zd rfl rfl (fun c6=>zv.step (zL Try.underlying29 rfl rfl Try.sizeOf3 rfl))<|zd rfl rfl (fun c7=>zv.step (zN Try.isAgg3 (zAJ rfl c7) rfl rfl rfl))<|zd rfl rfl (fun c8=>zv.step (zL Try.underlying29 rfl rfl Try.sizeOf3 rfl))<|zd rfl rfl (fun c9=>zv.step (zN Try.isAgg3 (zAJ rfl c9) rfl rfl rfl))<|zd rfl rfl (fun c10=>zv.step (z5 (zAJ rfl c10) (zAJ rfl c10)))<|zA (zh rfl rfl) ?_
 refine zA (zB rfl)<|zd rfl rfl (fun c11=>zv.step (zL Try.underlying29 rfl rfl Try.sizeOf26 rfl))<|zd rfl rfl (fun c12=>zv.step (zN Try.isAgg26 (zAJ rfl c12) rfl rfl rfl))<|zd rfl rfl (fun c13=>zv.step (zf Try.underlying26 (zAJ rfl c13)))<|zd rfl rfl (fun c14=>zv.step (zL Try.underlying29 rfl rfl Try.sizeOf26 rfl))<|zd rfl rfl (fun c15=>zv.step (zN Try.isAgg26 (zAJ rfl c15) rfl rfl rfl)) ?_
 refine zd rfl rfl (fun c16=>zv.step (zf Try.underlying26 (zAJ rfl c16)))<|zd rfl rfl (fun c17=>zv.step (z5 (zAJ rfl c17) (zAJ rfl c17)))<|zA (zh rfl rfl)<|zA (zB rfl)<|zd rfl rfl (fun c18=>zv.step (zL Try.underlying29 rfl rfl Try.sizeOf27 rfl))<|zd rfl rfl (fun c19=>zv.step (zN Try.isAgg27 (zAJ rfl c19) rfl rfl rfl)) ?_
 refine zd rfl rfl (fun c20=>zv.step (zf Try.underlying27 (zAJ rfl c20)))<|zd rfl rfl (fun c21=>zv.step (zL Try.underlying29 rfl rfl Try.sizeOf27 rfl))<|zd rfl rfl (fun c22=>zv.step (zN Try.isAgg27 (zAJ rfl c22) rfl rfl rfl))<|zd rfl rfl (fun c23=>zv.step (zf Try.underlying27 (zAJ rfl c23)))<|zd rfl rfl (fun c24=>zv.step (z5 (zAJ rfl c24) (zAJ rfl c24)))<|zA (zh rfl rfl) ?_
 refine zG ?_
 refine zY h rfl (fun b1 h => ?_) (fun b1 h => ?_)
 ·refine zI<|zC<|zA (zD rfl)<|zG<|zb ?_
  cases h
  exact zz (zAh rfl rfl)
 refine zU ?_
 refine zAB (r:=r) (fun (_:Unit)=>mkE [(2,(AV.ptr 0 0)),(3,(AV.ptr 1 0))]) (fun _=>[.box 29 (zF A),.box 29 (zF B)]) (fun _=>zJd A B) ?_ ?_
 ·
  refine zI<|zC<|zA (zD rfl)<|zG<|zV<|zAA (σ:=Int) (fun i2=>mkE [(2,(AV.ptr 0 0)),(3,(AV.ptr 1 0)),(5,(li i2))]) (fun i2=>[.box 29 (zF A),.box 29 (zF B)]) (fun n1 i2=>zH5 A B n1 i2) 0 h (fun _=>rfl) (zAf [0,1] rfl rfl (by kernel_rfl)) ?_
  clear h
  intro n1 i2 h
  replace h:zJ8 A B (zH5 A B n1) i2=some r:=h
  unfold zJ8 at h
  refine zI<|zI<|zC<|zA (zB rfl)<|zA (zL Try.underlying29 rfl rfl Try.sizeOf26 rfl)<|zA (zN Try.isAgg26 rfl rfl rfl rfl) ?_
  refine zA (zf Try.underlying26 rfl)<|zA (zp rfl rfl)<|zG ?_
  refine zY h rfl (fun b7 h => ?_) (fun b7 h => ?_)
  ·refine zU<|zI<|zV<|zI<|zM h fun b8 h=>zM h fun b9 h => ?_
   refine zQ h fun x3 w3 h => ?_
   refine zBY (n:=83) (m:=0) [.head 0 0,.head 0 0,.head 0 0,.head 0 0,.head 0 0,.head 0 0,.head 0 0,.head 0 0,.head 0 0,.head 0 0,.head 0 0,.head 0 0] [] [AV.ptr 0 3,ls zO A.zones,li i2,(AV.rp (zO (at_ A.zones i2)) 0),(AV.agg (zO (at_ A.zones i2))),AV.ptr 1 3,ls zO B.zones,li i2,(AV.rp (zO (at_ B.zones i2)) 0),(AV.agg (zO (at_ B.zones i2))),(AV.lit (.bool x3)),(AV.lit (.bool (!x3)))] [[.box 29 (zF A),.box 29 (zF B)]] (by kernel_rfl) (by kernel_rfl) ⟨D1 fun e s p=>zL (k:=0) (o:=0) (off:=3) Try.underlying29 rfl rfl Try.sizeOf26 (s 2 rfl),D1 fun e s p=>zN (k:=0) (o:=3) Try.isAgg26 p.1 rfl rfl rfl,D1 fun e s p=>zB (s 5 rfl),D1 fun e s p=>zj (f:=zO) (l:=A.zones) (i:=i2) Try.underlying26 Try.sizeOf46 (fun _=>rfl) p.1 p.2.1 b8,D1 fun e s p=>zBI (row:=(zO (at_ A.zones i2))) (o:=0) (m:=10) (la:=(zO (at_ A.zones i2))) Try.isAgg46 Try.sizeOf46 p.1 rfl rfl,D1 fun e s p=>zL (k:=1) (o:=0) (off:=3) Try.underlying29 rfl rfl Try.sizeOf26 (s 3 rfl),D1 fun e s p=>zN (k:=1) (o:=3) Try.isAgg26 p.1 rfl rfl rfl,D1 fun e s p=>zB (s 5 rfl),D1 fun e s p=>zj (f:=zO) (l:=B.zones) (i:=i2) Try.underlying26 Try.sizeOf46 (fun _=>rfl) p.1 p.2.1 b9,D1 fun e s p=>zBI (row:=(zO (at_ B.zones i2))) (o:=0) (m:=10) (la:=(zO (at_ B.zones i2))) Try.isAgg46 Try.sizeOf46 p.1 rfl rfl,?_,D1 fun e s p=>zBK (t:=x3) p.1,trivial⟩ ?_
   ·
    intro e24 s24 p23
    refine zZ (r:=(AV.lit (.bool x3))) (la:=[(AV.agg (zO (at_ A.zones i2))),(AV.agg (zO (at_ B.zones i2)))]) Try.func31 rfl (by kernel_rfl) (.fn 31) (zAV p23.1 (zAV p23.2.1 rfl)) rfl (zOy w3) rfl ?_
    exact zG ⟨fun _=>rfl,rfl⟩
   intro e26 s26 hq2
   refine zAx (zCR (l:=[(2,(AV.ptr 0 0)),(3,(AV.ptr 1 0)),(5,(li i2)),(63,(AV.lit (.bool (!x3))))]) ⟨s26 2 rfl,s26 3 rfl,s26 5 rfl,(hq2 11 (by decide) (by decide)),trivial⟩) ?_
   refine zY h rfl (fun b10 h => ?_) (fun b10 h => ?_)
   ·refine zI<|zC<|zA (zD rfl)<|zG<|zb ?_
    cases h
    exact zz (zAh rfl rfl)
   refine zU<|zC<|zA (zB rfl)<|zM h fun b11 h=>zA (zi rfl rfl b11)<|zA (zD rfl) ?_
   refine zG ?_
   exact ⟨(i2+1),zAf [0,1] rfl rfl (by kernel_rfl),h⟩
  refine zAH ?_
  exact ⟨(),zAf [0,1] rfl rfl (by kernel_rfl),h⟩
 clear h
 intro _ h
 unfold zJd at h
 refine zAB (r:=r) (fun (_:Unit)=>mkE []) (fun _=>[]) (fun _=>zJk ) ?_ ?_
 ·
  refine zI<|zC<|zA (zD rfl)<|zG<|zV<|zAA (σ:=Int) (fun i1=>mkE [(2,(AV.ptr 0 0)),(3,(AV.ptr 1 0)),(6,(li i1))]) (fun i1=>[.box 29 (zF A),.box 29 (zF B)]) (fun n0 i1=>zH7 A B n0 i1) 0 h (fun _=>rfl) (zAf [0,1] rfl rfl (by kernel_rfl)) ?_
  clear h
  intro n0 i1 h
  replace h:zJx A B (zH7 A B n0) i1=some r:=h
  unfold zJx at h
  refine zI<|zI<|zC<|zA (zB rfl)<|zA (zL Try.underlying29 rfl rfl Try.sizeOf27 rfl)<|zA (zN Try.isAgg27 rfl rfl rfl rfl) ?_
  refine zA (zf Try.underlying27 rfl)<|zA (zp rfl rfl)<|zG ?_
  refine zY h rfl (fun b2 h => ?_) (fun b2 h => ?_)
  ·refine zU<|zI<|zV<|zI<|zM h fun b3 h=>zM h fun b4 h => ?_
   refine zQ h fun x2 w2 h => ?_
   refine zBY (n:=83) (m:=0) [.head 0 0,.head 0 0,.head 0 0,.head 0 0,.head 0 0,.head 0 0,.head 0 0,.head 0 0,.head 0 0,.head 0 0,.head 0 0,.head 0 0] [] [AV.ptr 0 4,ls zJ A.caches,li i1,(AV.rp (zJ (at_ A.caches i1)) 0),(AV.agg (zJ (at_ A.caches i1))),AV.ptr 1 4,ls zJ B.caches,li i1,(AV.rp (zJ (at_ B.caches i1)) 0),(AV.agg (zJ (at_ B.caches i1))),(AV.lit (.bool x2)),(AV.lit (.bool (!x2)))] [[.box 29 (zF A),.box 29 (zF B)]] (by kernel_rfl) (by kernel_rfl) ⟨D1 fun e s p=>zL (k:=0) (o:=0) (off:=4) Try.underlying29 rfl rfl Try.sizeOf27 (s 2 rfl),D1 fun e s p=>zN (k:=0) (o:=4) Try.isAgg27 p.1 rfl rfl rfl,D1 fun e s p=>zB (s 6 rfl),D1 fun e s p=>zj (f:=zJ) (l:=A.caches) (i:=i1) Try.underlying27 Try.sizeOf50 (fun _=>rfl) p.1 p.2.1 b3,D1 fun e s p=>zBI (row:=(zJ (at_ A.caches i1))) (o:=0) (m:=1) (la:=(zJ (at_ A.caches i1))) Try.isAgg50 Try.sizeOf50 p.1 rfl rfl,D1 fun e s p=>zL (k:=1) (o:=0) (off:=4) Try.underlying29 rfl rfl Try.sizeOf27 (s 3 rfl),D1 fun e s p=>zN (k:=1) (o:=4) Try.isAgg27 p.1 rfl rfl rfl,D1 fun e s p=>zB (s 6 rfl),D1 fun e s p=>zj (f:=zJ) (l:=B.caches) (i:=i1) Try.underlying27 Try.sizeOf50 (fun _=>rfl) p.1 p.2.1 b4,D1 fun e s p=>zBI (row:=(zJ (at_ B.caches i1))) (o:=0) (m:=1) (la:=(zJ (at_ B.caches i1))) Try.isAgg50 Try.sizeOf50 p.1 rfl rfl,?_,D1 fun e s p=>zBK (t:=x2) p.1,trivial⟩ ?_
   ·
    intro e11 s11 p11
    refine zZ (r:=(AV.lit (.bool x2))) (la:=[(AV.agg (zJ (at_ A.caches i1))),(AV.agg (zJ (at_ B.caches i1)))]) Try.func32 rfl (by kernel_rfl) (.fn 32) (zAV p11.1 (zAV p11.2.1 rfl)) rfl (zO6 w2) rfl ?_
    exact zG ⟨fun _=>rfl,rfl⟩
   intro e13 s13 hq1
   refine zAx (zCR (l:=[(2,(AV.ptr 0 0)),(3,(AV.ptr 1 0)),(6,(li i1)),(82,(AV.lit (.bool (!x2))))]) ⟨s13 2 rfl,s13 3 rfl,s13 6 rfl,(hq1 11 (by decide) (by decide)),trivial⟩) ?_
   refine zY h rfl (fun b5 h => ?_) (fun b5 h => ?_)
   ·refine zI<|zC<|zA (zD rfl)<|zG<|zb ?_
    cases h
    exact zz (zAh rfl rfl)
   refine zU<|zC<|zA (zB rfl)<|zM h fun b6 h=>zA (zi rfl rfl b6)<|zA (zD rfl) ?_
   refine zG ?_
   exact ⟨(i1+1),zAf [0,1] rfl rfl (by kernel_rfl),h⟩
  refine zAH ?_
  exact ⟨(),zAf [] rfl rfl (by kernel_rfl),h⟩
 clear h
 intro _ h
 unfold zJk at h
 refine zI<|zC<|zA (zD rfl)<|zG<|zb ?_
 cases h
 exact zz (zAh rfl rfl)
theorem zLQ  {r:Bool} (h:zIb=some r):PFn Try.prog 8 [] (AV.lit (.bool r)):=by
 refine zq Try.func8 rfl Try.ntmps8 Try.results8 rfl ?_
 unfold zIb at h
 refine zI<|zC<|zA (zD (av:=(AV.lit (.bool false))) rfl)<|zG<|zI<|zC ?_
 refine zPa (N:=2) (pl:=[(0,1),(1,1)]) (zs:=[.int .i64 0,.int .i64 0]) (zc:=[.lit (.int .i64 0),.lit (.int .i64 0)]) (rows:=List.map cI [0,1]) zHA Try.underlying22 rfl rfl rfl (by kernel_rfl) rfl (⟨zA9.refl _,⟨zA9.refl _,trivial⟩⟩) ⟨li 0,0,1,rfl,rfl,rfl,rfl,rfl,⟨li 1,1,1,rfl,rfl,rfl,rfl,rfl,(by exact zLO.refl _)⟩⟩ rfl rfl rfl<|zA (zCT (pl:=[(0,1),(1,1),(2,1),(3,1)]) (zs:=[.int .i64 0,.int .i64 0,.int .i64 0,.int .i64 0]) (zc:=[.lit (.int .i64 0),.lit (.int .i64 0),.lit (.int .i64 0),.lit (.int .i64 0)]) (res:=(zAP (⟨0,0,8,2⟩:zAc))) (fun _=>by kernel_rfl) rfl (⟨zA9.refl _,⟨zA9.refl _,⟨zA9.refl _,⟨zA9.refl _,trivial⟩⟩⟩⟩) ⟨li 0,0,1,rfl,rfl,rfl,rfl,rfl,⟨li 0,1,1,rfl,rfl,rfl,rfl,rfl,⟨li 8,2,1,rfl,rfl,rfl,rfl,rfl,⟨li 2,3,1,rfl,rfl,rfl,rfl,rfl,(by exact zLO.refl _)⟩⟩⟩⟩)<|zA (zCT (pl:=[(0,1),(1,1),(2,1),(3,1)]) (zs:=[.int .i64 0,.int .i64 0,.int .i64 0,.int .i64 0]) (zc:=[.lit (.int .i64 0),.lit (.int .i64 0),.lit (.int .i64 0),.lit (.int .i64 0)]) (res:=(zAP (⟨1,1,8,0⟩:zAc))) (fun _=>by kernel_rfl) rfl (⟨zA9.refl _,⟨zA9.refl _,⟨zA9.refl _,⟨zA9.refl _,trivial⟩⟩⟩⟩) ⟨li 1,0,1,rfl,rfl,rfl,rfl,rfl,⟨li 1,1,1,rfl,rfl,rfl,rfl,rfl,⟨li 8,2,1,rfl,rfl,rfl,rfl,rfl,⟨li 0,3,1,rfl,rfl,rfl,rfl,rfl,(by exact zLO.refl _)⟩⟩⟩⟩)<|zPa (N:=2) (pl:=[(0,4),(4,4)]) (zs:=[.int .i64 0,.int .i64 0,.int .i64 0,.int .i64 0,.int .i64 0,.int .i64 0,.int .i64 0,.int .i64 0]) (zc:=[.lit (.int .i64 0),.lit (.int .i64 0),.lit (.int .i64 0),.lit (.int .i64 0),.lit (.int .i64 0),.lit (.int .i64 0),.lit (.int .i64 0),.lit (.int .i64 0)]) (rows:=List.map zAP [(⟨0,0,8,2⟩:zAc),(⟨1,1,8,0⟩:zAc)]) zTC Try.underlying24 rfl rfl rfl (by kernel_rfl) rfl (⟨zA9.refl _,⟨zA9.refl _,⟨zA9.refl _,⟨zA9.refl _,⟨zA9.refl _,⟨zA9.refl _,⟨zA9.refl _,⟨zA9.refl _,trivial⟩⟩⟩⟩⟩⟩⟩⟩) ⟨(AV.agg (zAP (⟨0,0,8,2⟩:zAc))),0,4,rfl,rfl,rfl,rfl,rfl,⟨(AV.agg (zAP (⟨1,1,8,0⟩:zAc))),4,4,rfl,rfl,rfl,rfl,rfl,(by exact zLO.refl _)⟩⟩ rfl rfl rfl<|zQ h fun x1 w1 h=>zAG (zE6 (j:=0) (ds:=[11]) (rows':=List.map cI [0,1]) rfl (zAX (fun _=>rfl)) ⟨rfl,trivial⟩) ?_
 refine zQ h fun x2 w2 h=>zAG (zE6 (j:=1) (ds:=[14]) (rows':=List.map zAP [(⟨0,0,8,2⟩:zAc),(⟨1,1,8,0⟩:zAc)]) rfl (zAX (fun _=>rfl)) ⟨rfl,trivial⟩)<|zQ h fun x3 w3 h=>zZ Try.func9 rfl (by kernel_rfl) (.fn 9) rfl rfl (zKD w3) rfl<|zA (zB rfl)<|zA (zT rfl rfl) ?_
 refine zA (zT (la:=[(AV.agg (zF x3.1)),li x3.2]) rfl rfl)<|zX (a:=(AV.ptr 2 0)) (H':=[.dead,.dead,.box 29 (zF ⟨[],0,0,[],[]⟩)]) zv3<|za (H':=[.dead,.dead,.box 29 (zF x3.1)]) (zS (k:=2) (o:=0) (cs:=(zF ⟨[],0,0,[],[]⟩)) (la:=(zF x3.1)) Try.sizeOf29 rfl rfl rfl rfl)<|zA (zD (av:=(li x3.2)) rfl)<|zG<|zI ?_
 refine zI<|zC<|zA (zB rfl)<|zA (z5 rfl rfl)<|zA (zB rfl)<|zd rfl rfl (fun c1=>zv.step (zL Try.underlying29 rfl rfl Try.sizeOf26 rfl)) ?_
 refine zd (g:=20) (s := !decide (x3.2=0)) rfl rfl (fun c2=>zv.step (zN (k:=2) (o:=3) (a:=(ls zO x3.1.zones)) Try.isAgg26 (zAJ rfl c2) rfl rfl rfl))<|zd (g:=20) (s := !decide (x3.2=0)) rfl rfl (fun c3=>zv.step (zf (f:=zO) (l:=x3.1.zones) Try.underlying26 (zAJ rfl c3)))<|zd (g:=20) (s := !decide (x3.2=0)) rfl rfl (fun c4=>zv.step (z5 (a:=(x3.1.zones.length:Int)) (b:=2) (zAJ rfl c4) rfl))<|zA (zh (s := !decide (x3.2=0)) (q := !decide ((x3.1.zones.length:Int)=2)) (j := .lit undef) rfl rfl)<|zA (zB (av:=(AV.lit (.bool ((!decide (x3.2=0))||(!decide ((x3.1.zones.length:Int)=2)))))) rfl)<|zd (g:=26) (s:=(!decide (x3.2=0))||(!decide ((x3.1.zones.length:Int)=2))) rfl rfl (fun c5=>zv.step (zL (k:=2) (o:=0) (off:=4) Try.underlying29 rfl rfl Try.sizeOf27 rfl)) ?_
 refine zd rfl rfl (fun c6=>zv.step (zN Try.isAgg27 (zAJ rfl c6) rfl rfl rfl))<|zd rfl rfl (fun c7=>zv.step (zf Try.underlying27 (zAJ rfl c7)))<|zd rfl rfl (fun c8=>zv.step (z5 (zAJ rfl c8) rfl))<|zA (zh rfl rfl)<|zA (zB rfl)<|zd rfl rfl (fun c9=>zv.step (zR (k:=2) (o:=0) (m:=5) Try.isAgg29 Try.sizeOf29 rfl rfl rfl rfl rfl)) ?_
 refine zQ h fun x4 w4 h=>zDf (g:=32) (s:=((!decide (x3.2=0))||(!decide ((x3.1.zones.length:Int)=2)))||(!decide ((x3.1.caches.length:Int)=2))) (r':=(li x4)) rfl rfl (fun c10=>⟨15,_,_,[],[(AV.agg (zF x3.1))],[(AV.agg (zF x3.1))],li x4,[],Try.func15,rfl,by kernel_rfl,.fn 15,(zAV (zAJ rfl c10) rfl),⟨zA8.nr rfl,trivial⟩,zA3 (zG9 c10 w4),.inl rfl,rfl⟩)<|zd (g:=32) (s:=((!decide (x3.2=0))||(!decide ((x3.1.zones.length:Int)=2)))||(!decide ((x3.1.caches.length:Int)=2))) rfl rfl (fun c11=>zv.step (z5 (a:=x4) (b:=0) (zAJ rfl c11) rfl))<|zA (zh (s:=((!decide (x3.2=0))||(!decide ((x3.1.zones.length:Int)=2)))||(!decide ((x3.1.caches.length:Int)=2))) (q := !decide (x4=0)) (j := .lit undef) rfl rfl)<|zA (zB (av:=(AV.lit (.bool ((((!decide (x3.2=0))||(!decide ((x3.1.zones.length:Int)=2)))||(!decide ((x3.1.caches.length:Int)=2)))||(!decide (x4=0)))))) rfl)<|zd (g:=37) (s:=(((!decide (x3.2=0))||(!decide ((x3.1.zones.length:Int)=2)))||(!decide ((x3.1.caches.length:Int)=2)))||(!decide (x4=0))) rfl rfl (fun c12=>zv.step (zR (k:=2) (o:=0) (m:=5) (la:=(zF x3.1)) Try.isAgg29 Try.sizeOf29 rfl rfl rfl rfl rfl)) ?_
 refine zQ h fun x5 w5 h=>zDf (g:=37) (s:=(((!decide (x3.2=0))||(!decide ((x3.1.zones.length:Int)=2)))||(!decide ((x3.1.caches.length:Int)=2)))||(!decide (x4=0))) (r':=(li x5)) rfl rfl (fun c13=>⟨13,_,_,[],[(AV.agg (zF x3.1))],[(AV.agg (zF x3.1))],li x5,[],Try.func13,rfl,by kernel_rfl,.fn 13,(zAV (zAJ rfl c13) rfl),⟨zA8.nr rfl,trivial⟩,zLT (zG9 c13 w5),.inl rfl,rfl⟩)<|zd rfl rfl (fun c14=>zv.step (z5 (zAJ rfl c14) rfl))<|zA (zh rfl rfl)<|zG ?_
 refine zY h rfl (fun b1 h => ?_) (fun b1 h => ?_)
 ·refine zI<|zC<|zA (zD (av:=(AV.lit (.bool false))) rfl)<|zG<|zb ?_
  cases h
  exact zz (zAh rfl rfl)
 refine zU<|zI<|zC<|zA (zR (k:=2) (o:=0) (m:=5) (la:=(zF x3.1)) Try.isAgg29 Try.sizeOf29 rfl rfl rfl rfl rfl)<|zQ h fun x6 w6 h=>zZ (r:=(AV.tup [li x6.1,li x6.2])) (la:=[(AV.agg (zF x3.1))]) Try.func16 rfl (by kernel_rfl) (.fn 16) rfl rfl (zKi w6) rfl ?_
 refine zA (zB rfl)<|zA (zT rfl rfl)<|zA (zT rfl rfl)<|zA (zD rfl)<|zA (zD rfl)<|zG ?_
 refine zI<|zC<|zA (zR (k:=2) (o:=0) (m:=5) (la:=(zF x3.1)) Try.isAgg29 Try.sizeOf29 rfl rfl rfl rfl rfl)<|zQ h fun x7 w7 h=>zZ (r:=(AV.tup [(AV.agg (zF x7.1)),li x7.2.1,li x7.2.2])) (la:=[(AV.agg (zF x3.1)),li 0,(AV.lit (.bool true)),(AV.lit (.bool false))]) Try.func17 rfl (by kernel_rfl) (.fn 17) rfl rfl (zGY w7) rfl<|zA (zB (av:=(AV.tup [(AV.agg (zF x7.1)),li x7.2.1,li x7.2.2])) rfl) ?_
 refine zA (zT rfl rfl)<|zA (zT rfl rfl)<|zA (zT rfl rfl)<|zX (H':=[.dead,.dead,.box 29 (zF x3.1),.box 29 (zF ⟨[],0,0,[],[]⟩)]) zv3<|za (H':=[.dead,.dead,.box 29 (zF x3.1),.box 29 (zF x7.1)]) (zS (k:=3) (o:=0) (cs:=(zF ⟨[],0,0,[],[]⟩)) (la:=(zF x7.1)) Try.sizeOf29 rfl rfl rfl rfl)<|zA (zD rfl) ?_
 refine zA (zD (av:=(li x7.2.2)) rfl)<|zG<|zI<|zI<|zC<|zA (zB (av:=(li x6.1)) rfl) ?_
 refine zA (z5 rfl rfl)<|zA (zB rfl)<|zd rfl rfl (fun c15=>zv.step (zB rfl))<|zd rfl rfl (fun c16=>zv.step (z5 (zAJ rfl c16) rfl))<|zA (zh rfl rfl)<|zA (zB rfl) ?_
 refine zd (g:=59) (s:=(!decide (x6.1=6))||(!decide (x6.2=14))) rfl rfl (fun c17=>zv.step (zB (av:=(li x7.2.2)) rfl))<|zd (g:=59) (s:=(!decide (x6.1=6))||(!decide (x6.2=14))) rfl rfl (fun c18=>zv.step (z5 (a:=x7.2.2) (b:=0) (zAJ rfl c18) rfl))<|zA (zh (s:=(!decide (x6.1=6))||(!decide (x6.2=14))) (q := !decide (x7.2.2=0)) (j := .lit undef) rfl rfl)<|zA (zB (av:=(AV.lit (.bool (((!decide (x6.1=6))||(!decide (x6.2=14)))||(!decide (x7.2.2=0)))))) rfl)<|zd (g:=63) (s:=((!decide (x6.1=6))||(!decide (x6.2=14)))||(!decide (x7.2.2=0))) rfl rfl (fun c19=>zv.step (zB (av:=(li x7.2.1)) rfl))<|zd (g:=63) (s:=((!decide (x6.1=6))||(!decide (x6.2=14)))||(!decide (x7.2.2=0))) rfl rfl (fun c20=>zv.step (z5 (a:=x7.2.1) (b:=0) (zAJ rfl c20) rfl)) ?_
 refine zA (zh rfl rfl)<|zA (zB rfl)<|zd rfl rfl (fun c21=>zv.step (zR (k:=3) (o:=0) (m:=5) Try.isAgg29 Try.sizeOf29 rfl rfl rfl rfl rfl))<|zQ h fun x8 w8 h=>zDf (g:=67) (s:=(((!decide (x6.1=6))||(!decide (x6.2=14)))||(!decide (x7.2.2=0)))||(!decide (x7.2.1=0))) (r':=(AV.lit (.bool x8))) rfl rfl (fun c22=>⟨14,_,_,[],[(AV.agg (zF x7.1)),li 0],[(AV.agg (zF x7.1)),li 0],(AV.lit (.bool x8)),[],Try.func14,rfl,by kernel_rfl,.fn 14,(zAV (zAJ rfl c22) (zAV rfl rfl)),⟨zA8.nr rfl,zA8.nr rfl,trivial⟩,zEd (zG9 c22 w8),.inl rfl,rfl⟩)<|zA (zh rfl rfl) ?_
 refine zA (zB (av:=(AV.lit (.bool (((((!decide (x6.1=6))||(!decide (x6.2=14)))||(!decide (x7.2.2=0)))||(!decide (x7.2.1=0)))||x8)))) rfl)<|zd (g:=71) (s:=((((!decide (x6.1=6))||(!decide (x6.2=14)))||(!decide (x7.2.2=0)))||(!decide (x7.2.1=0)))||x8) rfl rfl (fun c23=>zv.step (zR (k:=3) (o:=0) (m:=5) (la:=(zF x7.1)) Try.isAgg29 Try.sizeOf29 rfl rfl rfl rfl rfl))<|zQ h fun x9 w9 h=>zDf (g:=71) (s:=((((!decide (x6.1=6))||(!decide (x6.2=14)))||(!decide (x7.2.2=0)))||(!decide (x7.2.1=0)))||x8) (r':=(AV.lit (.bool x9))) rfl rfl (fun c24=>⟨14,_,_,[],[(AV.agg (zF x7.1)),li 1],[(AV.agg (zF x7.1)),li 1],(AV.lit (.bool x9)),[],Try.func14,rfl,by kernel_rfl,.fn 14,(zAV (zAJ rfl c24) (zAV rfl rfl)),⟨zA8.nr rfl,zA8.nr rfl,trivial⟩,zEd (zG9 c24 w9),.inl rfl,rfl⟩)<|zd (g:=71) (s:=((((!decide (x6.1=6))||(!decide (x6.2=14)))||(!decide (x7.2.2=0)))||(!decide (x7.2.1=0)))||x8) rfl rfl (fun c25=>zv.step (zBK (t:=x9) (zAJ rfl c25)))<|zA (zh (s:=((((!decide (x6.1=6))||(!decide (x6.2=14)))||(!decide (x7.2.2=0)))||(!decide (x7.2.1=0)))||x8) (q := !x9) (j := .lit undef) rfl rfl) ?_
 refine zA (zB rfl)<|zd rfl rfl (fun c26=>zv.step (zR (k:=3) (o:=0) (m:=5) Try.isAgg29 Try.sizeOf29 rfl rfl rfl rfl rfl))<|zQ h fun x10 w10 h=>zDf (g:=76) (s:=(((((!decide (x6.1=6))||(!decide (x6.2=14)))||(!decide (x7.2.2=0)))||(!decide (x7.2.1=0)))||x8)||(!x9)) (r':=(li x10)) rfl rfl (fun c27=>⟨18,_,_,[],[(AV.agg (zF x7.1)),li 0],[(AV.agg (zF x7.1)),li 0],li x10,[],Try.func18,rfl,by kernel_rfl,.fn 18,(zAV (zAJ rfl c27) (zAV rfl rfl)),⟨zA8.nr rfl,zA8.nr rfl,trivial⟩,zFB (zG9 c27 w10),.inl rfl,rfl⟩)<|zd rfl rfl (fun c28=>zv.step (z5 (zAJ rfl c28) rfl))<|zA (zh rfl rfl) ?_
 refine zA (zB (av:=(AV.lit (.bool (((((((!decide (x6.1=6))||(!decide (x6.2=14)))||(!decide (x7.2.2=0)))||(!decide (x7.2.1=0)))||x8)||(!x9))||(!decide (x10=7)))))) rfl)<|zd (g:=81) (s:=((((((!decide (x6.1=6))||(!decide (x6.2=14)))||(!decide (x7.2.2=0)))||(!decide (x7.2.1=0)))||x8)||(!x9))||(!decide (x10=7))) rfl rfl (fun c29=>zv.step (zR (k:=3) (o:=0) (m:=5) (la:=(zF x7.1)) Try.isAgg29 Try.sizeOf29 rfl rfl rfl rfl rfl))<|zQ h fun x11 w11 h=>zDf (g:=81) (s:=((((((!decide (x6.1=6))||(!decide (x6.2=14)))||(!decide (x7.2.2=0)))||(!decide (x7.2.1=0)))||x8)||(!x9))||(!decide (x10=7))) (r':=(li x11)) rfl rfl (fun c30=>⟨19,_,_,[],[(AV.agg (zF x7.1)),li 8],[(AV.agg (zF x7.1)),li 8],li x11,[],Try.func19,rfl,by kernel_rfl,.fn 19,(zAV (zAJ rfl c30) (zAV rfl rfl)),⟨zA8.nr rfl,zA8.nr rfl,trivial⟩,zJX (zG9 c30 w11),.inl rfl,rfl⟩)<|zd (g:=81) (s:=((((((!decide (x6.1=6))||(!decide (x6.2=14)))||(!decide (x7.2.2=0)))||(!decide (x7.2.1=0)))||x8)||(!x9))||(!decide (x10=7))) rfl rfl (fun c31=>zv.step (z5 (a:=x11) (b:=1) (zAJ rfl c31) rfl))<|zA (zh (s:=((((((!decide (x6.1=6))||(!decide (x6.2=14)))||(!decide (x7.2.2=0)))||(!decide (x7.2.1=0)))||x8)||(!x9))||(!decide (x10=7))) (q := !decide (x11=1)) (j := .lit undef) rfl rfl) ?_
 refine zG ?_
 refine zY h rfl (fun b2 h => ?_) (fun b2 h => ?_)
 ·refine zI<|zC<|zA (zD rfl)<|zG<|zb ?_
  cases h
  exact zz (zAh (r1:=(AV.lit (.bool false))) rfl rfl)
 refine zU<|zI<|zC<|zA (zR (k:=3) (o:=0) (m:=5) Try.isAgg29 Try.sizeOf29 rfl rfl rfl rfl rfl)<|zQ h fun x12 w12 h=>zZ Try.func20 rfl (by kernel_rfl) (.fn 20) rfl rfl (zG7 w12) rfl ?_
 refine zA (zB (av:=(AV.tup [(AV.agg (zF x12.1)),li x12.2])) rfl)<|zA (zT (la:=[(AV.agg (zF x12.1)),li x12.2]) rfl rfl)<|zA (zT (la:=[(AV.agg (zF x12.1)),li x12.2]) rfl rfl)<|zX (a:=(AV.ptr 4 0)) (H':=[.dead,.dead,.box 29 (zF x3.1),.box 29 (zF x7.1),.box 29 (zF ⟨[],0,0,[],[]⟩)]) zv3<|za (H':=[.dead,.dead,.box 29 (zF x3.1),.box 29 (zF x7.1),.box 29 (zF x12.1)]) (zS (k:=4) (o:=0) (cs:=(zF ⟨[],0,0,[],[]⟩)) (la:=(zF x12.1)) Try.sizeOf29 rfl rfl rfl rfl)<|zA (zD (av:=(li x12.2)) rfl) ?_
 refine zG<|zI<|zI<|zC<|zA (zB rfl)<|zA (z5 rfl rfl) ?_
 refine zG ?_
 refine zY h rfl (fun b3 h => ?_) (fun b3 h => ?_)
 ·refine zI<|zC<|zA (zD (av:=(AV.lit (.bool false))) rfl)<|zG<|zb ?_
  cases h
  exact zz (zAh rfl rfl)
 refine zU<|zI<|zC<|zA (zR (k:=2) (o:=0) (m:=5) (la:=(zF x3.1)) Try.isAgg29 Try.sizeOf29 rfl rfl rfl rfl rfl)<|zQ h fun x13 w13 h=>zZ (r:=(AV.tup [(AV.agg (zF x13.1)),li x13.2.1,li x13.2.2])) (la:=[(AV.agg (zF x3.1)),li 1,li 3]) Try.func23 rfl (by kernel_rfl) (.fn 23) rfl rfl (zJo w13) rfl ?_
 refine zA (zB rfl)<|zA (zT rfl rfl)<|zA (zT rfl rfl)<|zA (zT rfl rfl)<|zX (H':=[.dead,.dead,.box 29 (zF x3.1),.box 29 (zF x7.1),.box 29 (zF x12.1),.box 29 (zF ⟨[],0,0,[],[]⟩)]) zv3<|za (H':=[.dead,.dead,.box 29 (zF x3.1),.box 29 (zF x7.1),.box 29 (zF x12.1),.box 29 (zF x13.1)]) (zS (k:=5) (o:=0) (cs:=(zF ⟨[],0,0,[],[]⟩)) (la:=(zF x13.1)) Try.sizeOf29 rfl rfl rfl rfl) ?_
 refine zA (zD (av:=(li x13.2.1)) rfl)<|zA (zD (av:=(li x13.2.2)) rfl)<|zG<|zI<|zQ h fun x14 w14 h=>zQ h fun x15 w15 h => ?_
 refine zBY (n:=111) (m:=0) [.head 0 0,.head 0 0,.head 0 0,.head 0 0,.head 0 0,.head 0 0,.head 0 0,.head 0 0,.head 0 0,.head 0 0,.head 0 0,.head 0 0,.head 0 0] [] [li x13.2.2,(AV.lit (.bool (decide (x13.2.2=0)))),(AV.lit (.bool (decide (x13.2.2=0)))),(bif decide (x13.2.2=0) then (li x13.2.1) else .lit undef),(bif decide (x13.2.2=0) then (AV.lit (.bool (decide (x13.2.1=8)))) else .lit undef),(AV.lit (.bool ((decide (x13.2.2=0))&&(decide (x13.2.1=8))))),(AV.lit (.bool ((decide (x13.2.2=0))&&(decide (x13.2.1=8))))),(bif (decide (x13.2.2=0))&&(decide (x13.2.1=8)) then (AV.agg (zF x12.1)) else .lit undef),(bif (decide (x13.2.2=0))&&(decide (x13.2.1=8)) then (AV.agg (zF x14)) else .lit undef),(bif (decide (x13.2.2=0))&&(decide (x13.2.1=8)) then (AV.agg (zF x3.1)) else .lit undef),(bif (decide (x13.2.2=0))&&(decide (x13.2.1=8)) then (AV.lit (.bool x15)) else .lit undef),(AV.lit (.bool (((decide (x13.2.2=0))&&(decide (x13.2.1=8)))&&x15))),(AV.lit (.bool (((decide (x13.2.2=0))&&(decide (x13.2.1=8)))&&x15)))] [[.dead,.dead,.box 29 (zF x3.1),.box 29 (zF x7.1),.box 29 (zF x12.1),.box 29 (zF x13.1)]] (by kernel_rfl) (by kernel_rfl) ⟨D1 fun e s p=>zB (s 2 rfl),D1 fun e s p=>zBG (a:=x13.2.2) (b:=0) p.1 rfl,D1 fun e s p=>zB (av:=(AV.lit (.bool (decide (x13.2.2=0))))) p.1,?_,?_,D1 fun e s p=>z8 (s:=decide (x13.2.2=0)) (q:=decide (x13.2.1=8)) (j := .lit undef) p.1 p.2.1,D1 fun e s p=>zB p.1,?_,?_,?_,?_,D1 fun e s p=>z8 (s:=(decide (x13.2.2=0))&&(decide (x13.2.1=8))) (q:=x15) (j := .lit undef) p.1 p.2.1,D1 fun e s p=>zD (av:=(AV.lit (.bool (((decide (x13.2.2=0))&&(decide (x13.2.1=8)))&&x15)))) p.2.2.2.2.2.2.2.2.2.2.2.2.2.1,trivial⟩ ?_
 ·
  intro e4 s4 p4
  refine zw (g:=101) (s:=decide (x13.2.2=0)) rfl p4.1 (fun c38=>zv.step (zB (av:=(li x13.2.1)) (s4 9 rfl))) ?_
  exact zG ⟨fun _=>rfl,rfl⟩
 ·
  intro e5 s5 p5
  refine zw (g:=101) (s:=decide (x13.2.2=0)) rfl p5.2.1 (fun c39=>zv.step (zBG (a:=x13.2.1) (b:=8) (zAJ p5.1 c39) rfl)) ?_
  exact zG ⟨fun _=>rfl,rfl⟩
 ·
  intro e8 s8 p8
  refine zw (g:=105) (s:=(decide (x13.2.2=0))&&(decide (x13.2.1=8))) rfl p8.1 (fun c40=>zv.step (zR (k:=4) (o:=0) (m:=5) (la:=(zF x12.1)) Try.isAgg29 Try.sizeOf29 (s8 7 rfl) rfl rfl rfl rfl)) ?_
  exact zG ⟨fun _=>rfl,rfl⟩
 ·
  intro e9 s9 p9
  refine zDe (g:=105) (s:=(decide (x13.2.2=0))&&(decide (x13.2.1=8))) (r':=(AV.agg (zF x14))) rfl p9.2.2.1 (fun c41=>⟨22,_,_,[],[(AV.agg (zF x12.1))],[(AV.agg (zF x12.1))],(AV.agg (zF x14)),[],Try.func22,rfl,by kernel_rfl,.fn 22,(zAV (zAJ p9.1 c41) rfl),⟨zA8.nr rfl,trivial⟩,zIl (zG9 c41 w14),.inl rfl,rfl⟩) ?_
  exact zG ⟨fun _=>rfl,rfl⟩
 ·
  intro e10 s10 p10
  refine zw (g:=105) (s:=(decide (x13.2.2=0))&&(decide (x13.2.1=8))) rfl p10.1 (fun c42=>zv.step (zR (k:=2) (o:=0) (m:=5) (la:=(zF x3.1)) Try.isAgg29 Try.sizeOf29 (s10 1 rfl) rfl rfl rfl rfl)) ?_
  exact zG ⟨fun _=>rfl,rfl⟩
 ·
  intro e11 s11 p11
  refine zDe (g:=105) (s:=(decide (x13.2.2=0))&&(decide (x13.2.1=8))) (r':=(AV.lit (.bool x15))) rfl p11.2.2.2.1 (fun c43=>⟨11,_,_,[],[(AV.agg (zF x14)),(AV.agg (zF x3.1))],[(AV.agg (zF x14)),(AV.agg (zF x3.1))],(AV.lit (.bool x15)),[],Try.func11,rfl,by kernel_rfl,.fn 11,(zAV (zAJ p11.2.2.1 c43) (zAV (zAJ p11.2.1 c43) rfl)),⟨zA8.nr rfl,zA8.nr rfl,trivial⟩,zPT (zG9 c43 w15),.inl rfl,rfl⟩) ?_
  exact zG ⟨fun _=>rfl,rfl⟩
 intro e14 s14 hq1
 refine zAx (zCR (l:=[(0,(AV.lit (.bool (((decide (x13.2.2=0))&&(decide (x13.2.1=8)))&&x15))))]) ⟨(hq1 12 (by decide) (by decide)),trivial⟩)<|zb ?_
 cases h
 exact zz (zAh rfl rfl)
theorem zQA {W:zAE} {r:zH×Int} (h:zJR W=some r):PFn Try.prog 21 [(AV.agg (zt W))] (AV.tup [(AV.agg (zF r.1)),li r.2]):=by
 refine zq Try.func21 rfl Try.ntmps21 Try.results21 rfl ?_
 unfold zJR at h
 refine zI<|zC<|zX (H':=[.box 37 (zt W)]) (z6 (t:=37) rfl)<|zX (H':=[.box 37 (zt W),.box 29 ([(ls cI ([]:List Int))]++([li 0]++([li 0]++([(ls zO ([]:List zW))]++([(ls zJ ([]:List zK))]++[])))))]) zv3<|zA (zD rfl)<|zG ?_
 refine zI<|zC<|zA (zD rfl)<|zG ?_
 refine zAB (r:=r) (fun (i1:Int)=>mkE [(1,(AV.ptr 0 0)),(2,(AV.ptr 1 0)),(4,(li i1))]) (fun i1=>[.box 37 (zt W),.box 29 ([(ls cI ([]:List Int))]++([li 0]++([li 0]++([(ls zO ([]:List zW))]++([(ls zJ ([]:List zK))]++[])))))]) (fun i1=>zHb W i1) ?_ ?_
 ·
  refine zI<|zC<|zA (zL Try.underlying37 rfl rfl Try.sizeOf4 rfl)<|zA (zN Try.isAgg4 rfl rfl rfl rfl)<|zG ?_
  refine zY h rfl (fun b16 h => ?_) (fun b16 h => ?_)
  ·refine zC<|zA (zD rfl)<|zG ?_
   exact ⟨3,zAf [0,1] rfl rfl (by kernel_rfl),h⟩
  refine zU ?_
  exact ⟨2,zAf [0,1] rfl rfl (by kernel_rfl),h⟩
 clear h
 intro i1 h
 unfold zHb at h
 refine zI<|zC<|zA (zD rfl)<|zG ?_
 refine zAB (r:=r) (fun (l1:List zAc)=>mkE [(1,(AV.ptr 0 0)),(2,(AV.ptr 1 0)),(5,(AV.hd 2))]) (fun l1=>[.box 37 (zt W),.box 29 ([(ls cI ([]:List Int))]++([li 0]++([li 0]++([(ls zO ([]:List zW))]++([(ls zJ ([]:List zK))]++[]))))),.vec 65 4 (List.map zAP l1)]) (fun l1=>zGN W l1) ?_ ?_
 ·
  refine zI<|zC<|zA (zB rfl)<|zA (zB rfl)<|zG<|zV ?_
  refine zAA (σ:=Int×(List zAc)) (fun (i2,l2)=>mkE [(1,(AV.ptr 0 0)),(2,(AV.ptr 1 0)),(5,(AV.hd 2)),(12,(li i1)),(13,(li i2))]) (fun (i2,l2)=>[.box 37 (zt W),.box 29 ([(ls cI ([]:List Int))]++([li 0]++([li 0]++([(ls zO ([]:List zW))]++([(ls zJ ([]:List zK))]++[]))))),.vec 65 4 (List.map zAP l2)]) (fun n0 (i2,l2)=>zES W i1 n0 i2 l2) (0,[]) h (fun _=>rfl) (Rep.trans (zO8 (d:=5) (el:=65) (sz:=4) rfl) (zAf [0,1,2] (l:=[(1,(AV.ptr 0 0)),(2,(AV.ptr 1 0)),(5,(AV.hd 2)),(12,(li i1)),(13,(li 0))]) rfl rfl (by kernel_rfl))) ?_
  clear h
  rintro n0 ⟨i2,l2⟩ h
  replace h:zFJ W i1 (zES W i1 n0) i2 l2=some r:=h
  unfold zFJ at h
  refine zI<|zC<|zA (zp rfl rfl)<|zG<|zI ?_
  refine zY h rfl (fun b5 h => ?_) (fun b5 h => ?_)
  ·refine zU<|zI<|zV<|zI<|zC<|zA (zB rfl) ?_
   refine zA (zD rfl)<|zG<|zI<|zC<|zA (zB rfl)<|zA (zL Try.underlying37 rfl rfl Try.sizeOf34 rfl) ?_
   refine zM h fun b6 h=>zA (zAa (m:=3) (s:=1) (i:=i2) (k:=0) (o:=0) Try.underlying34 Try.sizeOf5 rfl rfl b6)<|zA (zDA (k:=0) (o:=(0+i2.toNat*1)) (cs:=(zt W)) (hd:=([])) (tl:=([]++(cA 3 (eK .u8) 0 W.mins)++(cA 3 eB false W.kinds)++[(AV.lit (.int .u8 W.batch))]++[(AV.lit (.bool W.three))])) (g:=(eK .u8)) (d0:=0) (l:=W.counts) (N:=3) (i:=i2.toNat) (a:=(AV.lit (.int .u8 (W.counts.getD i2.toNat 0)))) Try.isAgg5 rfl rfl rfl (congrArg (fun q=>0+q) (Nat.mul_one _)) (zCZ b6).2 rfl rfl)<|zA (zFe (k := .u8) (a:=W.counts.getD i2.toNat 0) (b:=20) rfl rfl (by decide))<|zM h fun b7 h=>zA (zFU (k' := .i64) (a:=(W.counts.getD i2.toNat 0).tmod 20) Try.underlying5 Try.underlying3 rfl b7) ?_
   refine zM h fun b8 h=>zA (zi rfl rfl b8)<|zA (zD rfl)<|zG<|zI<|zC ?_
   refine zA (zD rfl)<|zG ?_
   refine zAB (r:=r) (fun (i3:Int)=>mkE [(1,(AV.ptr 0 0)),(2,(AV.ptr 1 0)),(5,(AV.hd 2)),(6,(li i2)),(7,(li (1+((W.counts.getD i2.toNat 0).tmod 20)))),(8,(li i3)),(12,(li i1)),(13,(li i2))]) (fun i3=>[.box 37 (zt W),.box 29 ([(ls cI ([]:List Int))]++([li 0]++([li 0]++([(ls zO ([]:List zW))]++([(ls zJ ([]:List zK))]++[]))))),.vec 65 4 (List.map zAP l2)]) (fun i3=>zGP (zES W i1 n0) W i2 l2 i3) ?_ ?_
   ·
    refine zI<|zC<|zA (zB rfl)<|zA (zL Try.underlying37 rfl rfl Try.sizeOf35 rfl)<|zA (zAa (m:=3) (s:=1) (i:=i2) (k:=0) (o:=6) Try.underlying35 Try.sizeOf4 rfl rfl b6)<|zA (zDA (k:=0) (o:=(6+i2.toNat*1)) (cs:=(zt W)) (hd:=((cA 3 (eK .u8) 0 W.counts)++(cA 3 (eK .u8) 0 W.mins)++[])) (tl:=([]++[(AV.lit (.int .u8 W.batch))]++[(AV.lit (.bool W.three))])) (g:=eB) (d0:=false) (l:=W.kinds) (N:=3) (i:=i2.toNat) (a:=(AV.lit (.bool (W.kinds.getD i2.toNat false)))) Try.isAgg4 rfl rfl rfl (congrArg (fun q=>6+q) (Nat.mul_one _)) (zCZ b6).2 rfl rfl) ?_
    refine zG ?_
    refine zY h rfl (fun b15 h => ?_) (fun b15 h => ?_)
    ·refine zC<|zA (zD rfl)<|zG ?_
     exact ⟨1,zAf [0,1,2] rfl rfl (by kernel_rfl),h⟩
    refine zU ?_
    exact ⟨0,zAf [0,1,2] rfl rfl (by kernel_rfl),h⟩
   clear h
   intro i3 h
   unfold zGP at h
   refine zC<|zA (zB rfl)<|zA (zB rfl)<|zA (zFe (k := .i64) (a:=i2) (b:=2) rfl rfl (by decide))<|zA (zB rfl)<|zA (zB rfl) ?_
   refine zA (zB rfl)<|zA (zL Try.underlying37 rfl rfl Try.sizeOf34 rfl)<|zM h fun b9 h=>zA (zAa (m:=3) (s:=1) (i:=i2) (k:=0) (o:=3) Try.underlying34 Try.sizeOf5 rfl rfl b9)<|zA (zDA (k:=0) (o:=(3+i2.toNat*1)) (cs:=(zt W)) (hd:=((cA 3 (eK .u8) 0 W.counts)++[])) (tl:=([]++(cA 3 eB false W.kinds)++[(AV.lit (.int .u8 W.batch))]++[(AV.lit (.bool W.three))])) (g:=(eK .u8)) (d0:=0) (l:=W.mins) (N:=3) (i:=i2.toNat) (a:=(AV.lit (.int .u8 (W.mins.getD i2.toNat 0)))) Try.isAgg5 rfl rfl rfl (congrArg (fun q=>3+q) (Nat.mul_one _)) (zCZ b9).2 rfl rfl)<|zM h fun b10 h => ?_
   refine zA (zFU (k' := .i64) (a:=W.mins.getD i2.toNat 0) Try.underlying5 Try.underlying3 rfl b10)<|zA (zB rfl)<|zM h fun b11 h=>zA (zi rfl rfl b11)<|zM h fun b12 h=>zA (zFe (k := .i64) (a:=W.mins.getD i2.toNat 0) (b:=(1+((W.counts.getD i2.toNat 0).tmod 20))+1) rfl rfl b12) ?_
   refine zA (zCT (pl:=[(0,1),(1,1),(2,1),(3,1)]) (zs:=[.int .i64 0,.int .i64 0,.int .i64 0,.int .i64 0]) (zc:=[.lit (.int .i64 0),.lit (.int .i64 0),.lit (.int .i64 0),.lit (.int .i64 0)]) (res:=(zAP (⟨i2.tmod 2,i3,1+((W.counts.getD i2.toNat 0).tmod 20),(W.mins.getD i2.toNat 0).tmod ((1+((W.counts.getD i2.toNat 0).tmod 20))+1)⟩:zAc))) (fun _=>by kernel_rfl) rfl (⟨zA9.refl _,⟨zA9.refl _,⟨zA9.refl _,⟨zA9.refl _,trivial⟩⟩⟩⟩) ⟨(li (i2.tmod 2)),0,1,rfl,rfl,rfl,rfl,rfl,⟨li i3,1,1,rfl,rfl,rfl,rfl,rfl,⟨(li (1+((W.counts.getD i2.toNat 0).tmod 20))),2,1,rfl,rfl,rfl,rfl,rfl,⟨(li ((W.mins.getD i2.toNat 0).tmod ((1+((W.counts.getD i2.toNat 0).tmod 20))+1))),3,1,rfl,rfl,rfl,rfl,rfl,(by exact zLO.refl _)⟩⟩⟩⟩)<|zGd (a:=(AV.agg (zAP (⟨i2.tmod 2,i3,1+((W.counts.getD i2.toNat 0).tmod 20),(W.mins.getD i2.toNat 0).tmod ((1+((W.counts.getD i2.toNat 0).tmod 20))+1)⟩:zAc)))) zTC Try.underlying24 rfl rfl rfl rfl<|zM h fun b13 h=>zET (f:=zAP) (k:=2) (j:=3) (l:=l2) (l':=[(⟨i2.tmod 2,i3,1+((W.counts.getD i2.toNat 0).tmod 20),(W.mins.getD i2.toNat 0).tmod ((1+((W.counts.getD i2.toNat 0).tmod 20))+1)⟩:zAc)]) zTC (fun _=>rfl) Try.underlying24 rfl rfl rfl rfl b13<|zA (zD rfl)<|zG ?_
   refine zC<|zM h fun b14 h=>zA (zi rfl rfl b14)<|zA (zB rfl)<|zG ?_
   exact ⟨((i2+1),(l2++[(⟨i2.tmod 2,i3,1+((W.counts.getD i2.toNat 0).tmod 20),(W.mins.getD i2.toNat 0).tmod ((1+((W.counts.getD i2.toNat 0).tmod 20))+1)⟩:zAc)])),zAf [0,1,4] rfl rfl (by kernel_rfl),h⟩
  refine zAH ?_
  exact ⟨l2,zAf [0,1,2] rfl rfl (by kernel_rfl),h⟩
 clear h
 intro l1 h
 unfold zGN at h
 refine zI<|zC<|zA (zL Try.underlying37 rfl rfl Try.sizeOf5 rfl)<|zA (zN Try.isAgg5 rfl rfl rfl rfl)<|zA (zFe (k := .u8) (a:=W.batch) (b:=4) rfl rfl (by decide))<|zM h fun b1 h => ?_
 refine zA (zFU (k' := .i64) (a:=W.batch.tmod 4) Try.underlying5 Try.underlying3 rfl b1)<|zM h fun b2 h=>zA (zi rfl rfl b2)<|zA (zD rfl)<|zG<|zI ?_
 refine zC<|zPa (N:=2) (pl:=[(0,1),(1,1)]) (zs:=[.int .i64 0,.int .i64 0]) (zc:=[.lit (.int .i64 0),.lit (.int .i64 0)]) (rows:=List.map cI [0,1]) zHA Try.underlying22 rfl rfl rfl (by kernel_rfl) rfl (⟨zA9.refl _,⟨zA9.refl _,trivial⟩⟩) ⟨li 0,0,1,rfl,rfl,rfl,rfl,rfl,⟨li 1,1,1,rfl,rfl,rfl,rfl,rfl,(by exact zLO.refl _)⟩⟩ rfl rfl rfl<|zA (zB rfl)<|zA (zB rfl)<|zA (zL Try.underlying37 rfl rfl Try.sizeOf5 rfl)<|zA (zN Try.isAgg5 rfl rfl rfl rfl) ?_
 refine zA (zS9 (k := .u8) (a:=W.batch) (b:=4) rfl rfl (by decide))<|zA (zFe (k := .u8) (a:=IntKind.u8.wrap (W.batch.tdiv 4)) (b:=4) rfl rfl (by decide))<|zM h fun b3 h=>zA (zFU (k' := .i64) (a:=(IntKind.u8.wrap (W.batch.tdiv 4)).tmod 4) Try.underlying5 Try.underlying3 rfl b3)<|zM h fun b4 h=>zA (zi rfl rfl b4) ?_
 refine zA (zB rfl)<|zQ h fun x1 w1 h=>zAG (zE6 (j:=2) (ds:=[5,58]) (rows':=List.map zAP l1) rfl (zAX (fun _=>rfl)) ⟨rfl,rfl,trivial⟩)<|zQ h fun x2 w2 h=>zAG (zE6 (j:=3) (ds:=[49]) (rows':=List.map cI [0,1]) rfl (zAX (fun _=>rfl)) ⟨rfl,trivial⟩)<|zQ h fun x3 w3 h => ?_
 refine zZ Try.func9 rfl (by kernel_rfl) (.fn 9) rfl rfl (zKD w3) rfl<|zA (zT rfl rfl)<|zA (zT rfl rfl)<|za (H':=[.box 37 (zt W),.box 29 (zF x3.1),.dead,.dead]) (zS (k:=1) (o:=0) (cs:=([(ls cI ([]:List Int))]++([li 0]++([li 0]++([(ls zO ([]:List zW))]++([(ls zJ ([]:List zK))]++[])))))) (la:=(zF x3.1)) Try.sizeOf29 rfl rfl rfl rfl)<|zA (zD rfl)<|zG ?_
 refine zb ?_
 cases h
 exact zB1 (zF9 Try.isAgg29 Try.sizeOf29 rfl rfl rfl rfl) (zAh rfl rfl) rfl
theorem zLe {uB:Int} {uF:Int} {r:Bool} (h:zBa uB uF=some r):PFn Try.prog 58 [li uB,(AV.rp [li uF] 0)] (AV.lit (.bool r)):=by
 refine zq Try.func58 rfl Try.ntmps58 Try.results58 rfl ?_
 unfold zBa at h
 refine zI<|zC<|zA (zD rfl)<|zG<|zI<|zC ?_
 refine zA (zB rfl)<|zA (zm (o:=0) Try.isAgg3 rfl rfl)<|zA (zBG rfl rfl)<|zA (zD rfl)<|zG<|zb ?_
 cases h
 exact zz (zAh rfl rfl)
theorem zHm {Q : List Int} {uU : Int → Option Bool} {g_a_del : FuncId} {cf_a_del : Func} {code_a_del : Code} {caps_a_del : List AV} (hcf_a_del : Try.prog.funcs[g_a_del]? = some cf_a_del) (hcb_a_del : cf_a_del.body = some code_a_del) (hcn_a_del : (cf_a_del.name == "runtime.NumGoroutine") = false) (hnr_a_del : caps_a_del.all nr = true) (hg_a_del : ∀ {x0 : Int} {y : Bool}, uU x0 = some y → PFn Try.prog g_a_del ((li x0) :: caps_a_del) (AV.lit (.bool y))) {r : (List Int)} (h : zBe Q uU = some r) : AFn Try.prog 57 [(AV.hd 0), (AV.clo g_a_del caps_a_del)] [.vec 3 1 (List.map cI Q)] (.hd 1) [.dead, .vec 3 1 (List.map cI r)] := by
 refine zGK Try.func57 rfl Try.ntmps57 Try.results57 rfl ?_
 unfold zBe at h
 refine zI<|zC<|zA (zD rfl)<|zG<|zI<|zC ?_
 refine zA (zB rfl)<|zA (zB rfl)<|zQ h fun x1 w1 h=>zAr (r':=(li x1)) (la:=[AV.hd 0,AV.clo g_a_del caps_a_del]) (la':=[ls cI Q,AV.clo g_a_del caps_a_del]) (r:=(li x1)) (S:=[0]) Try.func84 rfl (by kernel_rfl) (.fn 84) rfl ⟨zGa (fun _=>rfl) rfl rfl,zA8.clo (zDZ.nrs hnr_a_del),trivial⟩ (zE2 hcf_a_del hcb_a_del hcn_a_del hnr_a_del hg_a_del w1) (.inr trivial) rfl<|zA (zD rfl)<|zG ?_
 refine zI<|zI<|zC<|zA (zB rfl)<|zA (zBG rfl rfl)<|zG ?_
 refine zY h rfl (fun b1 h => ?_) (fun b1 h => ?_)
 ·refine zI<|zC<|zA (zB rfl)<|zA (zD rfl)<|zG<|zb ?_
  cases h
  exact ⟨_,_,zUg (d:=4) (k:=0) (l:=Q) rfl rfl,zTD rfl rfl⟩
 refine zU ?_
 refine zAB (r:=r) (fun ((i1,l1):Int×(List Int))=>mkE [(0,(AV.hd 0)),(5,(li i1))]) (fun (i1,l1)=>[.vec 3 1 (List.map cI l1)]) (fun (i1,l1)=>zBq i1 l1) ?_ ?_
 ·
  refine zI<|zC<|zA (zB rfl)<|zM h fun b4 h=>zA (zi rfl rfl b4)<|zA (zD rfl) ?_
  refine zG<|zV<|zAA (σ:=Int×Int×(List Int)) (fun (i2,i3,l2)=>mkE [(0,(AV.hd 0)),(1,(AV.clo g_a_del caps_a_del)),(5,(li i2)),(6,(li i3))]) (fun (i2,i3,l2)=>[.vec 3 1 (List.map cI l2)]) (fun n0 (i2,i3,l2)=>zA2 uU n0 i2 i3 l2) (x1,(x1+1),Q) h (fun _=>rfl) (zBV (n:=42) (m:=1) [0] (l:=[(0,(AV.hd 0)),(1,(AV.clo g_a_del caps_a_del)),(5,(li x1)),(6,(li (x1+1)))]) ⟨⟨Sub.refl _,by kernel_rfl⟩,⟨zDc hnr_a_del,zDb hnr_a_del⟩,⟨Sub.refl _,by kernel_rfl⟩,⟨Sub.refl _,by kernel_rfl⟩,trivial⟩ rfl rfl ⟨⟨rfl,by kernel_rfl⟩,trivial⟩) ?_
  clear h
  rintro n0 ⟨i2,i3,l2⟩ h
  replace h:zAl uU (zA2 uU n0) i2 i3 l2=some r:=h
  unfold zAl at h
  refine zI<|zI<|zC<|zA (zB rfl)<|zA (zB rfl)<|zA (zDd (f:=cI) (l:=l2) Try.underlying22 rfl rfl) ?_
  refine zA (zp rfl rfl)<|zG ?_
  refine zY h rfl (fun b5 h => ?_) (fun b5 h => ?_)
  ·refine zU ?_
   refine zAB (r:=r) (fun ((i4,l3):Int×(List Int))=>mkE [(0,(AV.hd 0)),(1,(AV.clo g_a_del caps_a_del)),(5,(li i4)),(6,(li i3))]) (fun (i4,l3)=>[.vec 3 1 (List.map cI l3)]) (fun (i4,l3)=>zBL (zA2 uU n0) i3 i4 l3) ?_ ?_
   ·
    refine zV<|zI<|zC<|zA (zB rfl)<|zA (zB rfl)<|zM h fun b7 h => ?_
    refine zA (zAN (f:=cI) (l:=l2) (i:=i3) Try.underlying22 Try.sizeOf3 rfl rfl rfl b7)<|zA (zC9 (f:=cI) (l:=l2) (i:=i3) (c:=0) (a:=(li (at_ l2 i3))) Try.isAgg3 rfl rfl (by first | rfl | omega) b7 rfl rfl)<|zA (zD rfl)<|zG<|zI<|zC ?_
    refine zA (zB rfl)<|zA (zB rfl)<|zQ h fun x2 w2 h=>zAr (S:=[]) hcf_a_del hcb_a_del hcn_a_del (.clo (caps:=caps_a_del) rfl) rfl (zDZ.c (zA8.nr rfl) (zDZ.nrs hnr_a_del)) (hg_a_del w2) (.inl rfl) rfl<|zA (zBK (t:=x2) rfl)<|zG ?_
    refine zY h rfl (fun b8 h => ?_) (fun b8 h => ?_)
    ·refine zI<|zC<|zA (zB rfl)<|zA (zB rfl)<|zA (zB rfl)<|zM h fun b9 h => ?_
     refine zA (zAN (f:=cI) (l:=l2) (i:=i2) Try.underlying22 Try.sizeOf3 rfl rfl rfl b9)<|za (H':=[.vec 3 1 (List.map cI (l2.set i2.toNat (at_ l2 i3)))]) (zH8 (k:=0) (o:=(i2.toNat*1)) (f:=cI) (l:=l2) (i:=i2) (c:=0) (a:=(li (at_ l2 i3))) (z:=at_ l2 i3) Try.sizeOf3 rfl rfl (by first | rfl | omega) b9 rfl rfl rfl rfl rfl)<|zG<|zC<|zA (zB rfl)<|zM h fun b10 h => ?_
     refine zA (zi rfl rfl b10)<|zA (zD rfl)<|zG ?_
     exact ⟨((i2+1),(l2.set i2.toNat (at_ l2 i3))),zBV (n:=42) (m:=1) [0] (l:=[(0,(AV.hd 0)),(1,(AV.clo g_a_del caps_a_del)),(5,(li (i2+1))),(6,(li i3))]) ⟨⟨Sub.refl _,by kernel_rfl⟩,⟨zDc hnr_a_del,zDb hnr_a_del⟩,⟨Sub.refl _,by kernel_rfl⟩,⟨Sub.refl _,by kernel_rfl⟩,trivial⟩ rfl rfl ⟨⟨rfl,by kernel_rfl⟩,trivial⟩,h⟩
    refine zU ?_
    exact ⟨(i2,l2),zBV (n:=42) (m:=1) [0] (l:=[(0,(AV.hd 0)),(1,(AV.clo g_a_del caps_a_del)),(5,(li i2)),(6,(li i3))]) ⟨⟨Sub.refl _,by kernel_rfl⟩,⟨zDc hnr_a_del,zDb hnr_a_del⟩,⟨Sub.refl _,by kernel_rfl⟩,⟨Sub.refl _,by kernel_rfl⟩,trivial⟩ rfl rfl ⟨⟨rfl,by kernel_rfl⟩,trivial⟩,h⟩
   clear h
   rintro ⟨i4,l3⟩ h
   unfold zBL at h
   refine zC<|zA (zB rfl)<|zM h fun b6 h=>zA (zi rfl rfl b6)<|zA (zD rfl)<|zG ?_
   exact ⟨(i4,(i3+1),l3),zBV (n:=42) (m:=1) [0] (l:=[(0,(AV.hd 0)),(1,(AV.clo g_a_del caps_a_del)),(5,(li i4)),(6,(li (i3+1)))]) ⟨⟨Sub.refl _,by kernel_rfl⟩,⟨zDc hnr_a_del,zDb hnr_a_del⟩,⟨Sub.refl _,by kernel_rfl⟩,⟨Sub.refl _,by kernel_rfl⟩,trivial⟩ rfl rfl ⟨⟨rfl,by kernel_rfl⟩,trivial⟩,h⟩
  refine zAH ?_
  exact ⟨(i2,l2),zAf [0] rfl rfl (by kernel_rfl),h⟩
 clear h
 rintro ⟨i1,l1⟩ h
 unfold zBq at h
 refine zI<|zC<|zA (zB rfl)<|zA (zB rfl)<|zM h fun b2 h=>zSZ (k:=0) (l:=l1) (lo:=i1) Try.underlying22 Try.sizeOf3 Try.zeroValue3 rfl rfl rfl b2 rfl ?_
 refine zG<|zI<|zC<|zA (zB rfl)<|zA (zB rfl)<|zM h fun b3 h => ?_
 refine zUv (k:=0) (l:=zIk l1 i1) (hi:=i1) Try.underlying22 Try.sizeOf3 rfl rfl rfl b3<|zA (zD rfl)<|zG<|zb ?_
 cases h
 exact ⟨_,_,Rep.refl,zTD rfl rfl⟩
end Go.Proofs.Ytplkliakhdkpcaa
namespace Go.Proofs.Ytplkliakhdkpcaa
open Go Go.RowKit Go.Wk Go.Am Go.Proofs
set_option maxHeartbeats 4000000
theorem zMB {A:zW} {B:Int} {r:zW×Int} (h:zJQ A B=some r):PFn Try.prog 59 [(AV.agg (zO A)),li B] (AV.tup [(AV.agg (zO r.1)),li r.2]):=by
 refine zq Try.func59 rfl Try.ntmps59 Try.results59 rfl ?_
 unfold zJQ at h
 refine zI<|zC<|zX (H':=[.box 46 (zO A)]) (z6 (t:=46) rfl)<|zX (H':=[.box 46 (zO A),.box 46 (zO ⟨0,0,0,0,0,(List.replicate 5 ([]:List Int))⟩)]) zv0<|zA (zD rfl)<|zG ?_
 refine zI<|zI<|zC<|zA (zR (k:=0) (o:=0) (m:=10) Try.isAgg46 Try.sizeOf46 rfl rfl rfl rfl rfl)<|zQ h fun x1 w1 h=>zZ Try.func36 rfl (by kernel_rfl) (.fn 36) rfl rfl (zED w1) rfl ?_
 refine zA (zD rfl)<|zG<|zI<|zC<|zA (zB rfl)<|zA (z5 rfl rfl) ?_
 refine zG ?_
 refine zY h rfl (fun b1 h => ?_) (fun b1 h => ?_)
 ·refine zI<|zC<|zA zv9<|zA (zB rfl)<|za (H':=[.box 46 (zO A),.box 46 (zO (⟨0,0,0,0,0,(List.replicate 5 ([]:List Int))⟩:zW))]) (zS (k:=1) (o:=0) (cs:=(zO ⟨0,0,0,0,0,(List.replicate 5 ([]:List Int))⟩)) (la:=(zO (⟨0,0,0,0,0,(List.replicate 5 ([]:List Int))⟩:zW))) Try.sizeOf46 rfl rfl rfl rfl)<|zA (zD rfl) ?_
  refine zG<|zb ?_
  cases h
  exact zB1 (zF9 Try.isAgg46 Try.sizeOf46 rfl rfl rfl rfl) (zAh rfl rfl) rfl
 refine zU<|zI<|zI<|zC<|zA (zR (k:=0) (o:=0) (m:=10) Try.isAgg46 Try.sizeOf46 rfl rfl rfl rfl rfl)<|zA (zB rfl) ?_
 refine zQ h fun x2 w2 h=>zAr (r':=(AV.lit (.bool x2))) (la:=[(AV.agg (zO A)),li B,li 0]) (la':=[(AV.agg ([li A.node,li A.kind,li A.start,li A.count,li A.min]++([AV.any,AV.any,AV.any,AV.any,AV.any]++[]))),li B,li 0]) (r:=(AV.lit (.bool x2))) (S:=[]) Try.func62 rfl (by kernel_rfl) (.fn 62) rfl ⟨zKu (hd:=([li A.node]++[li A.kind]++[li A.start]++[li A.count]++[li A.min])) (tl:=((cA 5 (eS cI) ([]:List Int) A.free))) rfl,zA8.nr rfl,zA8.nr rfl,trivial⟩ (zEN w2) (.inl rfl) rfl<|zA (zBK (t:=x2) rfl)<|zG ?_
 refine zY h rfl (fun b2 h => ?_) (fun b2 h => ?_)
 ·refine zI<|zC<|zA zv9<|za (H':=[.box 46 (zO A),.box 46 (zO (⟨0,0,0,0,0,(List.replicate 5 ([]:List Int))⟩:zW))]) (zS (k:=1) (o:=0) (cs:=(zO ⟨0,0,0,0,0,(List.replicate 5 ([]:List Int))⟩)) (la:=(zO (⟨0,0,0,0,0,(List.replicate 5 ([]:List Int))⟩:zW))) Try.sizeOf46 rfl rfl rfl rfl)<|zA (zD rfl)<|zG ?_
  refine zb ?_
  cases h
  exact zB1 (zF9 Try.isAgg46 Try.sizeOf46 rfl rfl rfl rfl) (zAh rfl rfl) rfl
 refine zU<|zI<|zC<|zA (zR (k:=0) (o:=0) (m:=10) Try.isAgg46 Try.sizeOf46 rfl rfl rfl rfl rfl)<|zA (zB rfl)<|zQ h fun x3 w3 h => ?_
 refine zZ Try.func66 rfl (by kernel_rfl) (.fn 66) rfl rfl (zJE w3) rfl<|zA (zB rfl)<|zA (zT rfl rfl)<|zA (zT rfl rfl)<|zA (zD rfl)<|zA (zD rfl) ?_
 refine zG<|zI<|zI<|zC<|zA (zB rfl)<|zA (zp rfl rfl) ?_
 refine zG ?_
 refine zY h rfl (fun b3 h => ?_) (fun b3 h => ?_)
 ·refine zI<|zC<|zA zv9<|za (H':=[.box 46 (zO A),.box 46 (zO (⟨0,0,0,0,0,(List.replicate 5 ([]:List Int))⟩:zW))]) (zS (k:=1) (o:=0) (cs:=(zO ⟨0,0,0,0,0,(List.replicate 5 ([]:List Int))⟩)) (la:=(zO (⟨0,0,0,0,0,(List.replicate 5 ([]:List Int))⟩:zW))) Try.sizeOf46 rfl rfl rfl rfl)<|zA (zD rfl)<|zG ?_
  refine zb ?_
  cases h
  exact zB1 (zF9 Try.isAgg46 Try.sizeOf46 rfl rfl rfl rfl) (zAh rfl rfl) rfl
 refine zU<|zI<|zC<|zA (zR (k:=0) (o:=0) (m:=10) Try.isAgg46 Try.sizeOf46 rfl rfl rfl rfl rfl)<|zQ h fun x4 w4 h=>zHY (cs:=([li x4.node,li x4.kind,li x4.start,li x4.count,li x4.min]++((cM 5 3 (5:Int) x4.free)++[]))) (la:=[(AV.agg (zO A))]) (la':=[(AV.agg (zO A))]) (S:=[]) Try.func82 rfl (by kernel_rfl) (.fn 82) rfl ⟨zA8.nr rfl,trivial⟩ (zI0 w4) (.inl rfl) ?_
 refine zX (H':=[.box 46 (zO A),.box 46 (zO ⟨0,0,0,0,0,(List.replicate 5 ([]:List Int))⟩),.val (.agg ([li x4.node,li x4.kind,li x4.start,li x4.count,li x4.min]++((cM 5 3 (5:Int) x4.free)++[]))),.box 46 (zO ⟨0,0,0,0,0,(List.replicate 5 ([]:List Int))⟩)]) zv0<|za (H':=[.box 46 (zO A),.box 46 (zO ⟨0,0,0,0,0,(List.replicate 5 ([]:List Int))⟩),.dead,.box 46 ([li x4.node,li x4.kind,li x4.start,li x4.count,li x4.min]++((cM 5 3 (5:Int) x4.free)++[]))]) (zDz (k:=3) (o:=0) (j:=2) (cs:=(zO ⟨0,0,0,0,0,(List.replicate 5 ([]:List Int))⟩)) (la:=([li x4.node,li x4.kind,li x4.start,li x4.count,li x4.min]++((cM 5 3 (5:Int) x4.free)++[]))) Try.sizeOf46 rfl rfl rfl rfl rfl (by decide))<|zG<|zI<|zC<|zA (zB rfl) ?_
 refine zA (zL Try.underlying46 rfl rfl Try.sizeOf44 rfl)<|zM h fun b4 h=>zA (zAa (m:=5) (s:=1) (i:=x3.1) (k:=3) (o:=5) Try.underlying44 Try.sizeOf22 rfl rfl b4)<|zM h fun b5 h=>zAG (zIa (k:=3) (cs:=([li x4.node,li x4.kind,li x4.start,li x4.count,li x4.min]++((cM 5 3 (5:Int) x4.free)++[]))) (hd:=([li x4.node]++[li x4.kind]++[li x4.start]++[li x4.count]++[li x4.min]++[])) (tl:=([])) (N:=5) (T:=3) (K:=5) (l:=x4.free) (i:=x3.1) rfl rfl b4 b5)<|zA (zDE (k:=3) (o:=(5+x3.1.toNat*1)) (cs:=([li x4.node,li x4.kind,li x4.start,li x4.count,li x4.min]++((List.set (cM 5 3 (5:Int) x4.free) x3.1.toNat (AV.hd 4))++[]))) (hd:=([li x4.node]++[li x4.kind]++[li x4.start]++[li x4.count]++[li x4.min]++[])) (tl:=([])) (s:=(cM 5 3 (5:Int) x4.free)) (i:=x3.1) (j:=4) Try.isAgg22 rfl rfl rfl (congrArg (fun q=>5+q) (Nat.mul_one _)) (zGM b4)) ?_
 refine zA (zB rfl)<|zQ h fun x5 w5 h=>zAr (r':=(AV.tup [li x5.1,(AV.lit (.bool x5.2))])) (la:=[AV.hd 4,li x3.2]) (la':=[(ls cI (x4.free.getD x3.1.toNat [])),li x3.2]) (r:=(AV.tup [li x5.1,(AV.lit (.bool x5.2))])) (S:=[4]) Try.func63 rfl (by kernel_rfl) (.fn 63) rfl ⟨zGa (fun _=>rfl) rfl rfl,zA8.nr rfl,trivial⟩ (zAe w5) (.inr rfl) rfl<|zA (zB rfl)<|zA (zT rfl rfl)<|zA (zT rfl rfl) ?_
 refine zA (zD rfl)<|zA (zD rfl)<|zG<|zI<|zC<|zA (zB rfl) ?_
 refine zA (zB rfl)<|zA (zL Try.underlying46 rfl rfl Try.sizeOf44 rfl)<|zA (zAa (m:=5) (s:=1) (i:=x3.1) (k:=3) (o:=5) Try.underlying44 Try.sizeOf22 rfl rfl b4)<|zA (zDE (k:=3) (o:=(5+x3.1.toNat*1)) (cs:=([li x4.node,li x4.kind,li x4.start,li x4.count,li x4.min]++((List.set (cM 5 3 (5:Int) x4.free) x3.1.toNat (AV.hd 4))++[]))) (hd:=([li x4.node]++[li x4.kind]++[li x4.start]++[li x4.count]++[li x4.min]++[])) (tl:=([])) (s:=(cM 5 3 (5:Int) x4.free)) (i:=x3.1) (j:=4) Try.isAgg22 rfl rfl rfl (congrArg (fun q=>5+q) (Nat.mul_one _)) (zGM b4))<|zA (zB rfl)<|zA (zB rfl) ?_
 refine zM h fun b6 h=>zA (zi rfl rfl b6)<|zM h fun b7 h=>zOf (k:=4) (l:=x4.free.getD x3.1.toNat []) (i:=x5.1) (q:=x5.1+1) (fun a b=>zTv a b) Try.func85 rfl (by kernel_rfl) rfl rfl rfl rfl b7<|zA (zL Try.underlying46 rfl rfl Try.sizeOf44 rfl)<|zA (zAa (m:=5) (s:=1) (i:=x3.1) (k:=3) (o:=5) Try.underlying44 Try.sizeOf22 rfl rfl b4) ?_
 refine za (H':=[.box 46 (zO A),.box 46 (zO ⟨0,0,0,0,0,(List.replicate 5 ([]:List Int))⟩),.dead,.box 46 ([li x4.node,li x4.kind,li x4.start,li x4.count,li x4.min]++((List.set (cM 5 3 (5:Int) x4.free) x3.1.toNat (AV.hd 5))++[])),.dead,.vec 3 1 (List.map cI (zRz (x4.free.getD x3.1.toNat []) x5.1))]) (zGJ (k:=3) (o:=(5+x3.1.toNat*1)) (cs:=([li x4.node,li x4.kind,li x4.start,li x4.count,li x4.min]++((List.set (cM 5 3 (5:Int) x4.free) x3.1.toNat (AV.hd 4))++[]))) (hd:=([li x4.node]++[li x4.kind]++[li x4.start]++[li x4.count]++[li x4.min]++[])) (tl:=([])) (s:=(cM 5 3 (5:Int) x4.free)) (i:=x3.1) (a:=(AV.hd 5)) Try.sizeOf22 rfl rfl rfl (congrArg (fun q=>5+q) (Nat.mul_one _)) (zGM b4) rfl rfl)<|zG ?_
 refine zAB (r:=r) (fun (l1:List (List Int))=>mkE [(4,(AV.ptr 0 0)),(9,(AV.ptr 1 0))]) (fun l1=>[.box 46 (zO ⟨0,0,0,0,0,(List.replicate 5 ([]:List Int))⟩),.box 46 ([li x4.node,li x4.kind,li x4.start,li x4.count,li x4.min]++((cM 5 3 (5:Int) l1)++[]))]) (fun l1=>zHz x4 l1) ?_ ?_
 ·
  refine zV<|zAA (σ:=Int×Int×(List (List Int))) (fun (i1,i2,l2)=>mkE [(1,(li B)),(4,(AV.ptr 0 0)),(7,(li i1)),(8,(li i2)),(9,(AV.ptr 1 0))]) (fun (i1,i2,l2)=>[.box 46 (zO ⟨0,0,0,0,0,(List.replicate 5 ([]:List Int))⟩),.box 46 ([li x4.node,li x4.kind,li x4.start,li x4.count,li x4.min]++((cM 5 3 (5:Int) l2)++[]))]) (fun n0 (i1,i2,l2)=>zCh B x4 n0 i1 i2 l2) (x3.1,x3.2,(zEF 5 [] x4.free x3.1.toNat (zRz (x4.free.getD x3.1.toNat []) x5.1))) h (fun _=>rfl) (Rep.trans (zIC (j:=5) (l':=zRz (x4.free.getD x3.1.toNat []) x5.1) (k:=3) (cs:=([li x4.node,li x4.kind,li x4.start,li x4.count,li x4.min]++((List.set (cM 5 3 (5:Int) x4.free) x3.1.toNat (AV.hd 5))++[]))) (hd:=([li x4.node]++[li x4.kind]++[li x4.start]++[li x4.count]++[li x4.min]++[])) (tl:=([])) (N:=5) (T:=3) (K:=5) (l:=x4.free) (i:=x3.1) rfl rfl b4 b5 rfl rfl) (zAf [1,3] (l:=[(1,(li B)),(4,(AV.ptr 0 0)),(7,(li x3.1)),(8,(li x3.2)),(9,(AV.ptr 1 0))]) rfl rfl (by kernel_rfl))) ?_
  clear h
  rintro n0 ⟨i1,i2,l2⟩ h
  replace h:zEa B x4 (zCh B x4 n0) i1 i2 l2=some r:=h
  unfold zEa at h
  refine zI<|zI<|zC<|zA (zB rfl)<|zA (zCQ rfl rfl)<|zG ?_
  refine zY h rfl (fun b8 h => ?_) (fun b8 h => ?_)
  ·refine zU<|zV<|zI<|zC<|zA (zB rfl)<|zM h fun b9 h => ?_
   refine zA (zC0 rfl rfl b9)<|zA (zD rfl)<|zG<|zI<|zC<|zA (zB rfl) ?_
   refine zA (zB rfl)<|zM h fun b10 h=>zM h fun b11 h=>zA (zGt (a:=1) (b:=i1 - 1) rfl rfl b10 b11)<|zM h fun b12 h=>zA (zi rfl rfl b12) ?_
   refine zA (zD rfl)<|zG ?_
   refine zAB (r:=r) (fun ((i3,i4):Int×Int)=>mkE [(1,(li B)),(4,(AV.ptr 0 0)),(7,(li (i1 - 1))),(8,(li i3)),(9,(AV.ptr 1 0)),(12,(li i4))]) (fun (i3,i4)=>[.box 46 (zO ⟨0,0,0,0,0,(List.replicate 5 ([]:List Int))⟩),.box 46 ([li x4.node,li x4.kind,li x4.start,li x4.count,li x4.min]++((cM 5 3 (5:Int) l2)++[]))]) (fun (i3,i4)=>zFg (zCh B x4 n0) i1 l2 i3 i4) ?_ ?_
   ·
    refine zI<|zC<|zA (zB rfl)<|zA (zB rfl)<|zA (zBn rfl rfl)<|zG ?_
    refine zY h rfl (fun b16 h => ?_) (fun b16 h => ?_)
    ·refine zC<|zA (zB rfl)<|zA (zB rfl)<|zA (zD rfl)<|zA (zD rfl)<|zG ?_
     exact ⟨((i2+((1:Int)*2 ^ (i1 - 1).toNat)),i2),zAf [0,1] rfl rfl (by kernel_rfl),h⟩
    refine zU ?_
    exact ⟨(i2,(i2+((1:Int)*2 ^ (i1 - 1).toNat))),zAf [0,1] rfl rfl (by kernel_rfl),h⟩
   clear h
   rintro ⟨i3,i4⟩ h
   unfold zFg at h
   refine zI<|zC<|zA (zB rfl)<|zA (zL Try.underlying46 rfl rfl Try.sizeOf44 rfl)<|zM h fun b13 h=>zA (zAa (m:=5) (s:=1) (i:=i1 - 1) (k:=1) (o:=5) Try.underlying44 Try.sizeOf22 rfl rfl b13) ?_
   refine zM h fun b14 h=>zAG (zIa (k:=1) (cs:=([li x4.node,li x4.kind,li x4.start,li x4.count,li x4.min]++((cM 5 3 (5:Int) l2)++[]))) (hd:=([li x4.node]++[li x4.kind]++[li x4.start]++[li x4.count]++[li x4.min]++[])) (tl:=([])) (N:=5) (T:=3) (K:=5) (l:=l2) (i:=i1 - 1) rfl rfl b13 b14)<|zA (zDE (k:=1) (o:=(5+(i1 - 1).toNat*1)) (cs:=([li x4.node,li x4.kind,li x4.start,li x4.count,li x4.min]++((List.set (cM 5 3 (5:Int) l2) (i1 - 1).toNat (AV.hd 2))++[]))) (hd:=([li x4.node]++[li x4.kind]++[li x4.start]++[li x4.count]++[li x4.min]++[])) (tl:=([])) (s:=(cM 5 3 (5:Int) l2)) (i:=i1 - 1) (j:=2) Try.isAgg22 rfl rfl rfl (congrArg (fun q=>5+q) (Nat.mul_one _)) (zGM b13))<|zA (zB rfl)<|zQ h fun x6 w6 h=>zAr (r':=(AV.tup [li x6.1,(AV.lit (.bool x6.2))])) (la:=[AV.hd 2,li i4]) (la':=[(ls cI (l2.getD (i1 - 1).toNat [])),li i4]) (r:=(AV.tup [li x6.1,(AV.lit (.bool x6.2))])) (S:=[2]) Try.func63 rfl (by kernel_rfl) (.fn 63) rfl ⟨zGa (fun _=>rfl) rfl rfl,zA8.nr rfl,trivial⟩ (zAe w6) (.inr rfl) rfl ?_
   refine zA (zB rfl)<|zA (zT rfl rfl)<|zA (zT rfl rfl)<|zA (zD rfl)<|zA (zD rfl)<|zG ?_
   refine zC<|zA (zB rfl)<|zA (zB rfl)<|zA (zL Try.underlying46 rfl rfl Try.sizeOf44 rfl)<|zA (zAa (m:=5) (s:=1) (i:=i1 - 1) (k:=1) (o:=5) Try.underlying44 Try.sizeOf22 rfl rfl b13)<|zA (zDE (k:=1) (o:=(5+(i1 - 1).toNat*1)) (cs:=([li x4.node,li x4.kind,li x4.start,li x4.count,li x4.min]++((List.set (cM 5 3 (5:Int) l2) (i1 - 1).toNat (AV.hd 2))++[]))) (hd:=([li x4.node]++[li x4.kind]++[li x4.start]++[li x4.count]++[li x4.min]++[])) (tl:=([])) (s:=(cM 5 3 (5:Int) l2)) (i:=i1 - 1) (j:=2) Try.isAgg22 rfl rfl rfl (congrArg (fun q=>5+q) (Nat.mul_one _)) (zGM b13)) ?_
   refine zA (zB rfl)<|zA (zB rfl)<|zGd (a:=(li i4)) zHA Try.underlying22 rfl rfl rfl rfl<|zM h fun b15 h=>zMG (k:=2) (j:=3) (l:=l2.getD (i1 - 1).toNat []) (i:=x6.1) (q:=i4) (fun a b c d e=>zQ8 a b c d e) Try.func83 rfl (by kernel_rfl) rfl rfl rfl rfl rfl rfl b15<|zA (zL Try.underlying46 rfl rfl Try.sizeOf44 rfl) ?_
   refine zA (zAa (m:=5) (s:=1) (i:=i1 - 1) (k:=1) (o:=5) Try.underlying44 Try.sizeOf22 rfl rfl b13)<|za (H':=[.box 46 (zO ⟨0,0,0,0,0,(List.replicate 5 ([]:List Int))⟩),.box 46 ([li x4.node,li x4.kind,li x4.start,li x4.count,li x4.min]++((List.set (cM 5 3 (5:Int) l2) (i1 - 1).toNat (AV.hd 4))++[])),.dead,.vec 3 1 (List.map cI [i4]),.vec 3 1 (List.map cI (zQg (l2.getD (i1 - 1).toNat []) x6.1 i4))]) (zGJ (k:=1) (o:=(5+(i1 - 1).toNat*1)) (cs:=([li x4.node,li x4.kind,li x4.start,li x4.count,li x4.min]++((List.set (cM 5 3 (5:Int) l2) (i1 - 1).toNat (AV.hd 2))++[]))) (hd:=([li x4.node]++[li x4.kind]++[li x4.start]++[li x4.count]++[li x4.min]++[])) (tl:=([])) (s:=(cM 5 3 (5:Int) l2)) (i:=i1 - 1) (a:=(AV.hd 4)) Try.sizeOf22 rfl rfl rfl (congrArg (fun q=>5+q) (Nat.mul_one _)) (zGM b13) rfl rfl)<|zG ?_
   exact ⟨((i1 - 1),i3,(zEF 5 [] l2 (i1 - 1).toNat (zQg (l2.getD (i1 - 1).toNat []) x6.1 i4))),Rep.trans (zIC (j:=4) (l':=zQg (l2.getD (i1 - 1).toNat []) x6.1 i4) (k:=1) (cs:=([li x4.node,li x4.kind,li x4.start,li x4.count,li x4.min]++((List.set (cM 5 3 (5:Int) l2) (i1 - 1).toNat (AV.hd 4))++[]))) (hd:=([li x4.node]++[li x4.kind]++[li x4.start]++[li x4.count]++[li x4.min]++[])) (tl:=([])) (N:=5) (T:=3) (K:=5) (l:=l2) (i:=i1 - 1) rfl rfl b13 b14 rfl rfl) (zAf [0,1] (l:=[(1,(li B)),(4,(AV.ptr 0 0)),(7,(li (i1 - 1))),(8,(li i3)),(9,(AV.ptr 1 0))]) rfl rfl (by kernel_rfl)),h⟩
  refine zAH ?_
  exact ⟨l2,zAf [0,1] rfl rfl (by kernel_rfl),h⟩
 clear h
 intro l1 h
 unfold zHz at h
 refine zI<|zC<|zAG (zKX (k:=1) (cs:=([li x4.node,li x4.kind,li x4.start,li x4.count,li x4.min]++((cM 5 3 (5:Int) l1)++[]))) (hd:=([li x4.node]++[li x4.kind]++[li x4.start]++[li x4.count]++[li x4.min]++[])) (tl:=([])) (N:=5) (T:=3) (K:=5) (l:=l1) rfl rfl)<|zA (zR (k:=1) (o:=0) (m:=10) Try.isAgg46 Try.sizeOf46 rfl rfl rfl rfl rfl)<|za (H':=[.box 46 (zO (⟨x4.node,x4.kind,x4.start,x4.count,x4.min,l1⟩:zW)),.box 46 (zO ⟨x4.node,x4.kind,x4.start,x4.count,x4.min,l1⟩)]) (zS (k:=0) (o:=0) (cs:=(zO ⟨0,0,0,0,0,(List.replicate 5 ([]:List Int))⟩)) (la:=(zO (⟨x4.node,x4.kind,x4.start,x4.count,x4.min,l1⟩:zW))) Try.sizeOf46 rfl rfl rfl rfl)<|zA (zD rfl) ?_
 refine zG<|zb ?_
 cases h
 exact zB1 (zF9 Try.isAgg46 Try.sizeOf46 rfl rfl rfl rfl) (zAh rfl rfl) rfl
theorem zMa {A:zH} {B:Int} {r:zH×Int} (h:zEu A B=some r):PFn Try.prog 33 [(AV.agg (zF A)),li B] (AV.tup [(AV.agg (zF r.1)),li r.2]):=by
 refine zq Try.func33 rfl Try.ntmps33 Try.results33 rfl ?_
 unfold zEu at h
 refine zI<|zC<|zX (H':=[.box 29 (zF A)]) (z6 (t:=29) rfl)<|zX (H':=[.box 29 (zF A),.box 3 [li B]]) (zH9 (t:=3) (a:=(li B)) rfl rfl)<|zX (H':=[.box 29 (zF A),.box 3 [li B],.box 29 (zF ⟨[],0,0,[],[]⟩)]) zv3<|zA (zD rfl) ?_
 refine zG<|zI<|zI<|zC<|zA (zR (k:=0) (o:=0) (m:=5) Try.isAgg29 Try.sizeOf29 rfl rfl rfl rfl rfl)<|zQ h fun x1 w1 h => ?_
 refine zZ Try.func15 rfl (by kernel_rfl) (.fn 15) rfl rfl (zA3 w1) rfl<|zA (zD rfl)<|zG<|zI<|zC<|zA (zB rfl) ?_
 refine zA (z5 rfl rfl)<|zG ?_
 refine zY h rfl (fun b1 h => ?_) (fun b1 h => ?_)
 ·refine zI<|zC<|zA zQK<|zA (zB rfl)<|za (H':=[.box 29 (zF A),.box 3 [li B],.box 29 (zF (⟨([]:List Int),0,0,([]:List zW),([]:List zK)⟩:zH))]) (zS (k:=2) (o:=0) (cs:=(zF ⟨[],0,0,[],[]⟩)) (la:=(zF (⟨([]:List Int),0,0,([]:List zW),([]:List zK)⟩:zH))) Try.sizeOf29 rfl rfl rfl rfl)<|zA (zD rfl) ?_
  refine zG<|zb ?_
  cases h
  exact zB1 (zF9 Try.isAgg29 Try.sizeOf29 rfl rfl rfl rfl) (zAh rfl rfl) rfl
 refine zU<|zI<|zC<|zA (zR (k:=0) (o:=0) (m:=5) Try.isAgg29 Try.sizeOf29 rfl rfl rfl rfl rfl)<|zA (zN Try.isAgg3 rfl rfl rfl rfl)<|zQ h fun x2 w2 h => ?_
 refine zZ Try.func34 rfl (by kernel_rfl) (.fn 34) rfl rfl (zEL w2) rfl<|zA (zD rfl)<|zG<|zI<|zV<|zI ?_
 refine zC<|zA (zB rfl)<|zA (zp rfl rfl)<|zA (zD rfl)<|zG ?_
 refine zY h rfl (fun b2 h => ?_) (fun b2 h => ?_)
 ·refine zI<|zC<|zA zQK<|za (H':=[.box 29 (zF A),.box 3 [li B],.box 29 (zF (⟨([]:List Int),0,0,([]:List zW),([]:List zK)⟩:zH))]) (zS (k:=2) (o:=0) (cs:=(zF ⟨[],0,0,[],[]⟩)) (la:=(zF (⟨([]:List Int),0,0,([]:List zW),([]:List zK)⟩:zH))) Try.sizeOf29 rfl rfl rfl rfl)<|zA (zD rfl)<|zG ?_
  refine zb ?_
  cases h
  exact zB1 (zF9 Try.isAgg29 Try.sizeOf29 rfl rfl rfl rfl) (zAh rfl rfl) rfl
 refine zI<|zC<|zA (zR (k:=0) (o:=0) (m:=5) Try.isAgg29 Try.sizeOf29 rfl rfl rfl rfl rfl)<|zA (zB rfl)<|zA (zN Try.isAgg3 rfl rfl rfl rfl)<|zQ h fun x3 w3 h => ?_
 refine zZ Try.func35 rfl (by kernel_rfl) (.fn 35) rfl rfl (zHB w3) rfl<|zA (zBK (t:=x3) rfl)<|zA (zD rfl)<|zG ?_
 refine zY h rfl (fun b3 h => ?_) (fun b3 h => ?_)
 ·refine zI<|zC<|zA zQK<|za (H':=[.box 29 (zF A),.box 3 [li B],.box 29 (zF (⟨([]:List Int),0,0,([]:List zW),([]:List zK)⟩:zH))]) (zS (k:=2) (o:=0) (cs:=(zF ⟨[],0,0,[],[]⟩)) (la:=(zF (⟨([]:List Int),0,0,([]:List zW),([]:List zK)⟩:zH))) Try.sizeOf29 rfl rfl rfl rfl)<|zA (zD rfl)<|zG ?_
  refine zb ?_
  cases h
  exact zB1 (zF9 Try.isAgg29 Try.sizeOf29 rfl rfl rfl rfl) (zAh rfl rfl) rfl
 refine zI<|zC<|zA (zR (k:=0) (o:=0) (m:=5) Try.isAgg29 Try.sizeOf29 rfl rfl rfl rfl rfl)<|zA (zB rfl)<|zQ h fun x4 w4 h=>zZ Try.func39 rfl (by kernel_rfl) (.fn 39) rfl rfl (zFa w4) rfl ?_
 refine zA (zp rfl rfl)<|zA (zD rfl)<|zG ?_
 refine zY h rfl (fun b4 h => ?_) (fun b4 h => ?_)
 ·refine zI<|zC<|zA zQK<|za (H':=[.box 29 (zF A),.box 3 [li B],.box 29 (zF (⟨([]:List Int),0,0,([]:List zW),([]:List zK)⟩:zH))]) (zS (k:=2) (o:=0) (cs:=(zF ⟨[],0,0,[],[]⟩)) (la:=(zF (⟨([]:List Int),0,0,([]:List zW),([]:List zK)⟩:zH))) Try.sizeOf29 rfl rfl rfl rfl)<|zA (zD rfl)<|zG ?_
  refine zb ?_
  cases h
  exact zB1 (zF9 Try.isAgg29 Try.sizeOf29 rfl rfl rfl rfl) (zAh rfl rfl) rfl
 refine zU<|zI<|zC<|zA (zR (k:=0) (o:=0) (m:=5) Try.isAgg29 Try.sizeOf29 rfl rfl rfl rfl rfl)<|zQ h fun x5 w5 h=>zHY (cs:=[ls cI x5.nodes,li x5.batch,li x5.high,AV.osl 46 10 (List.map zO x5.zones),AV.osl 50 1 (List.map zAO x5.caches)]) (la:=[(AV.agg (zF A))]) (la':=[(AV.agg (zF A))]) (S:=[]) Try.func42 rfl (by kernel_rfl) (.fn 42) rfl ⟨zA8.nr rfl,trivial⟩ (zDo w5) (.inl rfl) ?_
 refine zX (H':=[.box 29 (zF A),.box 3 [li B],.box 29 (zF ⟨[],0,0,[],[]⟩),.val (.agg [ls cI x5.nodes,li x5.batch,li x5.high,AV.osl 46 10 (List.map zO x5.zones),AV.osl 50 1 (List.map zAO x5.caches)]),.box 29 (zF ⟨[],0,0,[],[]⟩)]) zv3<|za (H':=[.box 29 (zF A),.box 3 [li B],.box 29 (zF ⟨[],0,0,[],[]⟩),.dead,.box 29 [ls cI x5.nodes,li x5.batch,li x5.high,AV.osl 46 10 (List.map zO x5.zones),AV.osl 50 1 (List.map zAO x5.caches)]]) (zDz (k:=4) (o:=0) (j:=3) (cs:=(zF ⟨[],0,0,[],[]⟩)) (la:=[ls cI x5.nodes,li x5.batch,li x5.high,AV.osl 46 10 (List.map zO x5.zones),AV.osl 50 1 (List.map zAO x5.caches)]) Try.sizeOf29 rfl rfl rfl rfl rfl (by decide))<|zG<|zI<|zI<|zC ?_
 refine zAG (zBp (k:=4) (o:=3) (t':=46) (sz:=10) (rows:=List.map zO x5.zones) rfl rfl)<|zAG (zBp (k:=4) (o:=4) (t':=50) (sz:=1) (rows:=List.map zAO x5.caches) rfl rfl)<|zA (zR (k:=4) (o:=0) (m:=5) Try.isAgg29 Try.sizeOf29 rfl rfl rfl rfl rfl)<|zA (zB rfl)<|zA (zN Try.isAgg3 rfl rfl rfl rfl)<|zQ h fun x6 w6 h => ?_
 refine zAr (r':=(li x6)) (la:=[(AV.agg [ls cI x5.nodes,li x5.batch,li x5.high,AV.hd 5,AV.hd 6]),li x2,li B]) (la':=[(AV.agg (zF ⟨x5.nodes,x5.batch,x5.high,x5.zones,x5.caches⟩)),li x2,li B]) (r:=(li x6)) (S:=[5,6]) Try.func56 rfl (by kernel_rfl) (.fn 56) rfl ⟨zA8.agg (by exact ⟨zA8.nr rfl,⟨zA8.nr rfl,⟨zA8.nr rfl,⟨zGa (fun _=>rfl) rfl rfl,⟨zTF zEX rfl rfl,trivial⟩⟩⟩⟩⟩),zA8.nr rfl,zA8.nr rfl,trivial⟩ (zIV w6) (.inr trivial) rfl<|zA (zD rfl)<|zG<|zI<|zC<|zA (zB rfl) ?_
 refine zA (zBn rfl rfl)<|zG ?_
 refine zY h rfl (fun b5 h => ?_) (fun b5 h => ?_)
 ·refine zI<|zC<|zA (zL Try.underlying29 rfl rfl Try.sizeOf27 rfl)<|zA (zN Try.isAgg27 rfl rfl rfl rfl)<|zA (zB rfl)<|zM h fun b6 h => ?_
  refine zA (zAN (f:=zAO) (l:=x5.caches) (i:=x6) Try.underlying27 Try.sizeOf50 rfl rfl rfl b6)<|zA (zL Try.underlying50 rfl rfl Try.sizeOf48 rfl)<|zAG (zQR (k:=6) (i:=x6.toNat) (t':=22) (s':=1) (rs:=List.map (cO 3 1 cI) ((at_ x5.caches x6).lists)) rfl (zQC (f:=zAO) (l:=x5.caches) b6))<|zA (zMN (k:=6) (i:=x6.toNat) (a := .hd 7) Try.isAgg48 rfl rfl rfl rfl)<|zA (zB rfl)<|zM h fun b7 h => ?_
  refine zA (zAN (f:=(cO 3 1 cI)) (l:=(at_ x5.caches x6).lists) (i:=x2) Try.underlying48 Try.sizeOf22 rfl rfl rfl b7)<|zA (zD rfl)<|zG<|zI<|zC<|zA (zB rfl) ?_
  refine zA (zB rfl)<|zA (zAZ rfl)<|zAG (zSU (k:=7) (f:=cI) (l:=(at_ x5.caches x6).lists) (i:=x2) rfl b7)<|zA (zMN (k:=7) (i:=x2.toNat) (a := .hd 8) Try.isAgg22 rfl rfl rfl rfl)<|zA (zKj (la:=[AV.ptr 1 0]) rfl)<|zQ h fun x7 w7 h => ?_
  refine zTR (k:=8) (l:=at_ ((at_ x5.caches x6).lists) x2) (l':=x7) (la:=[AV.hd 8,(AV.clo 58 [AV.ptr 1 0])]) (la':=[AV.hd 0,(AV.clo 58 [(AV.rp [li B] 0)])]) (S:=[1]) Try.func57 rfl (by kernel_rfl) (.fn 57) rfl ⟨zC3.hd,zC3.of (zA8.clo (⟨zA8.ptr (cs:=[li B]) rfl rfl rfl,trivial⟩)),trivial⟩ rfl rfl (zHm Try.func58 rfl (by kernel_rfl) rfl (fun hy=>zLe  hy) w7)<|zA (zAZ rfl)<|za (H':=[.box 29 (zF A),.box 3 [li B],.box 29 (zF ⟨[],0,0,[],[]⟩),.dead,.box 29 [ls cI x5.nodes,li x5.batch,li x5.high,AV.hd 5,AV.hd 6],.vec 46 10 (List.map zO x5.zones),.vopen 50 1 (List.map zAO x5.caches) x6.toNat [.hd 7],.vopen 22 1 (List.map (cO 3 1 cI) ((at_ x5.caches x6).lists)) x2.toNat [.hd 9],.dead,.vec 3 1 (List.map cI x7)]) (zQI (k:=7) (j:=9) (j0:=8) (i:=x2.toNat) Try.sizeOf22 rfl rfl rfl rfl rfl)<|zG<|zI<|zC ?_
  refine zAG (zAR (k:=4) (j:=5) (o:=3) rfl rfl rfl rfl)<|zAG (zBw (k:=4) (o:=3) (rows':=List.map zO x5.zones) rfl rfl (zAX (fun _=>rfl)))<|zAG (Rep.trans (zPz (k:=7) (j:=9) (f:=cI) (l:=(at_ x5.caches x6).lists) (l':=x7) rfl rfl rfl) (zQs (k:=6) (j:=7) (f:=zAO) (l:=x5.caches) (z:={ at_ x5.caches x6 with lists:=((at_ x5.caches x6).lists).set x2.toNat x7 }) rfl rfl rfl rfl))<|zAG (zAR (k:=4) (j:=6) (o:=4) rfl rfl rfl rfl)<|zAG (zBw (k:=4) (o:=4) (rows':=List.map zJ (x5.caches.set x6.toNat ({ at_ x5.caches x6 with lists:=((at_ x5.caches x6).lists).set x2.toNat x7 }))) rfl rfl (zHi (fun x=>zEX x)))<|zA (zR (k:=4) (o:=0) (m:=5) Try.isAgg29 Try.sizeOf29 rfl rfl rfl rfl rfl) ?_
  refine za (H':=[.box 29 (zF A),.box 3 [li B],.box 29 (zF (⟨x5.nodes,x5.batch,x5.high,x5.zones,x5.caches.set x6.toNat ({ at_ x5.caches x6 with lists:=((at_ x5.caches x6).lists).set x2.toNat x7 })⟩:zH)),.dead,.box 29 (zF ⟨x5.nodes,x5.batch,x5.high,x5.zones,(x5.caches.set x6.toNat ({ at_ x5.caches x6 with lists:=((at_ x5.caches x6).lists).set x2.toNat x7 }))⟩),.dead,.dead,.dead,.dead,.dead]) (zS (k:=2) (o:=0) (cs:=(zF ⟨[],0,0,[],[]⟩)) (la:=(zF (⟨x5.nodes,x5.batch,x5.high,x5.zones,x5.caches.set x6.toNat ({ at_ x5.caches x6 with lists:=((at_ x5.caches x6).lists).set x2.toNat x7 })⟩:zH))) Try.sizeOf29 rfl rfl rfl rfl)<|zA (zD rfl)<|zG<|zb ?_
  cases h
  exact zB1 (zF9 Try.isAgg29 Try.sizeOf29 rfl rfl rfl rfl) (zAh rfl rfl) rfl
 refine zU<|zI<|zM h fun b8 h=>zQ h fun x8 w8 h => ?_
 refine zBY (n:=83) (m:=0) [.head 0 1,.head 0 1,.head 0 1,.head 0 1,.head 0 1,.head 0 1,.head 0 1,.head 0 1,.head 0 1,.head 0 2,.tail 0,.tail 1,.head 2 2] [10,11] [AV.ptr 4 3,AV.hd 5,li x2,(AV.ptr 5 (x2.toNat*10)),(AV.agg (zO (at_ x5.zones x2))),li B,(AV.tup [(AV.agg (zO x8.1)),li x8.2]),(AV.tup [(AV.agg (zO x8.1)),li x8.2]),(AV.agg (zO x8.1)),li x8.2,AV.ptr 7 0,.any,li x8.2] [[.box 29 (zF A),.box 3 [li B],.box 29 (zF ⟨[],0,0,[],[]⟩),.dead,.box 29 [ls cI x5.nodes,li x5.batch,li x5.high,AV.hd 5,AV.hd 6],.vec 46 10 (List.map zO x5.zones),.vec 50 1 (List.map zAO x5.caches)],[.box 29 (zF A),.box 3 [li B],.box 29 (zF ⟨[],0,0,[],[]⟩),.dead,.box 29 [ls cI x5.nodes,li x5.batch,li x5.high,AV.hd 5,AV.hd 6],.vec 46 10 (List.map zO x5.zones),.vec 50 1 (List.map zAO x5.caches),.box 46 (zO ⟨0,0,0,0,0,(List.replicate 5 ([]:List Int))⟩)],[.box 29 (zF A),.box 3 [li B],.box 29 (zF ⟨[],0,0,[],[]⟩),.dead,.box 29 [ls cI x5.nodes,li x5.batch,li x5.high,AV.hd 5,AV.hd 6],.vec 46 10 (List.map zO x5.zones),.vec 50 1 (List.map zAO x5.caches),.box 46 (zO x8.1)]] (by kernel_rfl) (by kernel_rfl) ⟨⟨D1 fun e s p=>zL (k:=4) (o:=0) (off:=3) Try.underlying29 rfl rfl Try.sizeOf26 (s 8 rfl),D1 fun e s p=>zL (k:=4) (o:=0) (off:=3) Try.underlying29 rfl rfl Try.sizeOf26 (s 8 rfl)⟩,⟨D1 fun e s p=>zN (k:=4) (o:=3) Try.isAgg26 p.1 rfl rfl rfl,D1 fun e s p=>zN (k:=4) (o:=3) Try.isAgg26 p.1 rfl rfl rfl⟩,⟨D1 fun e s p=>zB (s 7 rfl),D1 fun e s p=>zB (s 7 rfl)⟩,⟨D1 fun e s p=>zAN (f:=zO) (l:=x5.zones) (i:=x2) Try.underlying26 Try.sizeOf46 p.1 rfl p.2.1 b8,D1 fun e s p=>zAN (f:=zO) (l:=x5.zones) (i:=x2) Try.underlying26 Try.sizeOf46 p.1 rfl p.2.1 b8⟩,⟨D1 fun e s p=>zDB (f:=zO) (l:=x5.zones) (i:=x2) (c:=0) (q:=10) (la:=(zO (at_ x5.zones x2))) Try.isAgg46 Try.sizeOf46 p.1 rfl (by first | rfl | omega) b8 rfl rfl rfl,D1 fun e s p=>zDB (f:=zO) (l:=x5.zones) (i:=x2) (c:=0) (q:=10) (la:=(zO (at_ x5.zones x2))) Try.isAgg46 Try.sizeOf46 p.1 rfl (by first | rfl | omega) b8 rfl rfl rfl⟩,⟨D1 fun e s p=>zN (k:=1) (o:=0) Try.isAgg3 (s 3 rfl) rfl rfl rfl,D1 fun e s p=>zN (k:=1) (o:=0) Try.isAgg3 (s 3 rfl) rfl rfl rfl⟩,⟨?_,?_⟩,⟨D1 fun e s p=>zB p.1,D1 fun e s p=>zB p.1⟩,⟨D1 fun e s p=>zT p.1 rfl,D1 fun e s p=>zT p.1 rfl⟩,⟨D1 fun e s p=>zT p.1 rfl,D1 fun e s p=>zT p.1 rfl,D1 fun e s p=>zT p.1 rfl⟩,?_,?_,D1 fun e s p=>zD p.2.2.2.2.2.2.2.2.2.2.2.1,trivial⟩ ?_
 ·
  intro e13 s13 p13
  refine zZ (r:=(AV.tup [(AV.agg (zO x8.1)),li x8.2])) (la:=[(AV.agg (zO (at_ x5.zones x2))),li B]) Try.func59 rfl (by kernel_rfl) (.fn 59) (zAV p13.1 (zAV p13.2.1 rfl)) rfl (zMB w8) rfl ?_
  exact zG ⟨fun _=>rfl,rfl⟩
 ·
  intro e14 s14 p14
  refine zZ (r:=(AV.tup [(AV.agg (zO x8.1)),li x8.2])) (la:=[(AV.agg (zO (at_ x5.zones x2))),li B]) Try.func59 rfl (by kernel_rfl) (.fn 59) (zAV p14.1 (zAV p14.2.1 rfl)) rfl (zMB w8) rfl ?_
  exact zG ⟨fun _=>rfl,rfl⟩
 ·
  intro e22 s22 p22
  refine zX (H':=[.box 29 (zF A),.box 3 [li B],.box 29 (zF ⟨[],0,0,[],[]⟩),.dead,.box 29 [ls cI x5.nodes,li x5.batch,li x5.high,AV.hd 5,AV.hd 6],.vec 46 10 (List.map zO x5.zones),.vec 50 1 (List.map zAO x5.caches),.box 46 (zO ⟨0,0,0,0,0,(List.replicate 5 ([]:List Int))⟩)]) zv0 ?_
  exact zG ⟨fun _=>rfl,rfl⟩
 ·
  intro e23 s23 p23
  refine za (H':=[.box 29 (zF A),.box 3 [li B],.box 29 (zF ⟨[],0,0,[],[]⟩),.dead,.box 29 [ls cI x5.nodes,li x5.batch,li x5.high,AV.hd 5,AV.hd 6],.vec 46 10 (List.map zO x5.zones),.vec 50 1 (List.map zAO x5.caches),.box 46 (zO x8.1)]) (zS (k:=7) (o:=0) (cs:=(zO ⟨0,0,0,0,0,(List.replicate 5 ([]:List Int))⟩)) (la:=(zO x8.1)) Try.sizeOf46 (by exact p23.2.2.2.2.2.2.2.2.2.2.2.2.2.1) rfl rfl (by exact p23.2.2.2.2.2.2.2.2.2.2.2.1)) ?_
  exact zG ⟨fun _=>rfl,rfl⟩
 intro e25 s25 hq1
 refine zAx (zCR (l:=[(4,(AV.ptr 2 0)),(7,(li x2)),(8,(AV.ptr 4 0)),(11,(AV.ptr 7 0)),(12,(li x8.2))]) ⟨s25 4 rfl,s25 7 rfl,s25 8 rfl,(hq1 10 (by decide) (by decide)),(hq1 12 (by decide) (by decide)),trivial⟩)<|zI<|zI<|zC<|zA (zB (av:=(li x8.2)) rfl)<|zA (z5 (a:=x8.2) (b:=0) rfl rfl) ?_
 refine zG ?_
 refine zY h rfl (fun b9 h => ?_) (fun b9 h => ?_)
 ·refine zI<|zC<|zA zQK<|zA (zB rfl)<|za (H':=[.box 29 (zF A),.box 3 [li B],.box 29 (zF (⟨([]:List Int),0,0,([]:List zW),([]:List zK)⟩:zH)),.dead,.box 29 [ls cI x5.nodes,li x5.batch,li x5.high,AV.hd 5,AV.hd 6],.vec 46 10 (List.map zO x5.zones),.vec 50 1 (List.map zAO x5.caches),.box 46 (zO x8.1)]) (zS (k:=2) (o:=0) (cs:=(zF ⟨[],0,0,[],[]⟩)) (la:=(zF (⟨([]:List Int),0,0,([]:List zW),([]:List zK)⟩:zH))) Try.sizeOf29 rfl rfl rfl rfl)<|zA (zD rfl) ?_
  refine zG<|zb ?_
  cases h
  exact zB1 (zF9 Try.isAgg29 Try.sizeOf29 rfl rfl rfl rfl) (zAh rfl rfl) rfl
 refine zU<|zI<|zC<|zA (zL Try.underlying29 rfl rfl Try.sizeOf26 rfl)<|zA (zN Try.isAgg26 rfl rfl rfl rfl)<|zA (zB rfl) ?_
 refine zA (zR (k:=7) (o:=0) (m:=10) Try.isAgg46 Try.sizeOf46 rfl rfl rfl rfl rfl)<|zA (zAN (f:=zO) (l:=x5.zones) (i:=x2) Try.underlying26 Try.sizeOf46 rfl rfl rfl b8)<|za (H':=[.box 29 (zF A),.box 3 [li B],.box 29 (zF ⟨[],0,0,[],[]⟩),.dead,.box 29 [ls cI x5.nodes,li x5.batch,li x5.high,AV.hd 5,AV.hd 6],.vec 46 10 (List.map zO (x5.zones.set x2.toNat x8.1)),.vec 50 1 (List.map zAO x5.caches),.box 46 (zO x8.1)]) (zC6 (k:=5) (o:=(x2.toNat*10)) (f:=zO) (l:=x5.zones) (i:=x2) (z:=x8.1) Try.sizeOf46 (fun _=>rfl) rfl rfl (by first | rfl | omega) b8 rfl rfl)<|zG<|zI<|zC ?_
 refine zAG (zAR (k:=4) (j:=5) (o:=3) rfl rfl rfl rfl)<|zAG (zBw (k:=4) (o:=3) (rows':=List.map zO (x5.zones.set x2.toNat x8.1)) rfl rfl (zAX (fun _=>rfl)))<|zAG (zAR (k:=4) (j:=6) (o:=4) rfl rfl rfl rfl)<|zAG (zBw (k:=4) (o:=4) (rows':=List.map zJ x5.caches) rfl rfl (zHi (fun x=>zEX x)))<|zA (zR (k:=4) (o:=0) (m:=5) Try.isAgg29 Try.sizeOf29 rfl rfl rfl rfl rfl)<|za (H':=[.box 29 (zF A),.box 3 [li B],.box 29 (zF (⟨x5.nodes,x5.batch,x5.high,x5.zones.set x2.toNat x8.1,x5.caches⟩:zH)),.dead,.box 29 (zF ⟨x5.nodes,x5.batch,x5.high,x5.zones.set x2.toNat x8.1,x5.caches⟩),.dead,.dead,.box 46 (zO x8.1)]) (zS (k:=2) (o:=0) (cs:=(zF ⟨[],0,0,[],[]⟩)) (la:=(zF (⟨x5.nodes,x5.batch,x5.high,x5.zones.set x2.toNat x8.1,x5.caches⟩:zH))) Try.sizeOf29 rfl rfl rfl rfl) ?_
 refine zA (zD rfl)<|zG<|zb ?_
 cases h
 exact zB1 (zF9 Try.isAgg29 Try.sizeOf29 rfl rfl rfl rfl) (zAh rfl rfl) rfl
theorem zPI {A:zAE} {B:List zBM} {r:zH×(List Int)×Bool} (h:zJP A B=some r):PFn Try.prog 12 [(AV.agg (zt A)),ls zo B] (AV.tup [(AV.agg (zF r.1)),ls cI r.2.1,(AV.lit (.bool r.2.2))]):=by
 refine zq Try.func12 rfl Try.ntmps12 Try.results12 rfl ?_
 unfold zJP at h
 refine zI<|zC<|zX (H':=[.box 37 (zt A)]) (z6 (t:=37) rfl)<|zX (H':=[.box 37 (zt A),.box 29 (zF ⟨[],0,0,[],[]⟩)]) zv3<|zA (zD rfl)<|zA (zD rfl) ?_
 refine zG<|zI<|zC<|zA (zR (k:=0) (o:=0) (m:=11) Try.isAgg37 Try.sizeOf37 rfl rfl rfl rfl rfl)<|zQ h fun x1 w1 h=>zZ Try.func21 rfl (by kernel_rfl) (.fn 21) rfl rfl (zQA w1) rfl ?_
 refine zA (zB rfl)<|zA (zT rfl rfl)<|zA (zT rfl rfl)<|zX (H':=[.box 37 (zt A),.box 29 (zF ⟨[],0,0,[],[]⟩),.box 29 (zF ⟨[],0,0,[],[]⟩)]) zv3<|za (H':=[.box 37 (zt A),.box 29 (zF ⟨[],0,0,[],[]⟩),.box 29 (zF x1.1)]) (zS (k:=2) (o:=0) (cs:=(zF ⟨[],0,0,[],[]⟩)) (la:=(zF x1.1)) Try.sizeOf29 rfl rfl rfl rfl)<|zA (zD rfl) ?_
 refine zG<|zI<|zI<|zC<|zA (zB rfl)<|zA (z5 rfl rfl) ?_
 refine zG ?_
 refine zY h rfl (fun b1 h => ?_) (fun b1 h => ?_)
 ·refine zI<|zC<|zA (zR (k:=2) (o:=0) (m:=5) Try.isAgg29 Try.sizeOf29 rfl rfl rfl rfl rfl)<|za (H':=[.box 37 (zt A),.box 29 (zF x1.1),.box 29 (zF x1.1)]) (zS (k:=1) (o:=0) (cs:=(zF ⟨[],0,0,[],[]⟩)) (la:=(zF x1.1)) Try.sizeOf29 rfl rfl rfl rfl)<|zA (zD rfl)<|zA (zD rfl) ?_
  refine zG<|zb ?_
  cases h
  exact zEE (zF9 Try.isAgg29 Try.sizeOf29 rfl rfl rfl rfl) (zIf (zAh rfl rfl) zA9.nils) (zAh rfl rfl) rfl
 refine zU<|zI<|zC<|zA (zD rfl)<|zAG (zO8 (d:=9) (el:=3) (sz:=1) rfl)<|zG ?_
 refine zAB (r:=r) (fun ((d1,l1):zH×(List Int))=>mkE [(4,(AV.ptr 0 0)),(7,(AV.ptr 1 0)),(9,(AV.hd 2))]) (fun (d1,l1)=>[.box 29 (zF ⟨[],0,0,[],[]⟩),.box 29 (zF d1),.vec 3 1 (List.map cI l1)]) (fun (d1,l1)=>zJh d1 l1) ?_ ?_
 ·
  refine zI<|zC<|zA (zB rfl)<|zA (zf Try.underlying38 rfl)<|zA (zB rfl)<|zG ?_
  refine zV<|zAA (σ:=Int×zH×(List Int)) (fun (i1,d2,l2)=>mkE [(4,(AV.ptr 0 0)),(7,(AV.ptr 1 0)),(9,(AV.hd 2)),(29,(ls zo B)),(30,(li (B.length:Int))),(31,(li i1))]) (fun (i1,d2,l2)=>[.box 29 (zF ⟨[],0,0,[],[]⟩),.box 29 (zF d2),.vec 3 1 (List.map cI l2)]) (fun n0 (i1,d2,l2)=>zEU B n0 i1 d2 l2) (0,x1.1,[]) h (fun _=>rfl) (zAf [1,2,3] rfl rfl (by kernel_rfl)) ?_
  clear h
  rintro n0 ⟨i1,d2,l2⟩ h
  replace h:zEe B (zEU B n0) i1 d2 l2=some r:=h
  unfold zEe at h
  refine zI<|zC<|zA (zp rfl rfl)<|zG<|zI ?_
  refine zY h rfl (fun b2 h => ?_) (fun b2 h => ?_)
  ·refine zU ?_
   refine zAB (r:=r) (fun ((d3,l3):zH×(List Int))=>mkE [(4,(AV.ptr 0 0)),(7,(AV.ptr 1 0)),(9,(AV.hd 2)),(29,(ls zo B)),(30,(li (B.length:Int))),(31,(li i1))]) (fun (d3,l3)=>[.box 29 (zF ⟨[],0,0,[],[]⟩),.box 29 (zF d3),.vec 3 1 (List.map cI l3)]) (fun (d3,l3)=>zCE (zEU B n0) i1 d3 l3) ?_ ?_
   ·
    refine zV<|zI<|zC<|zM h fun b4 h=>zA (zj Try.underlying38 Try.sizeOf78 (fun _=>rfl) rfl rfl b4)<|zA (zBI (row:=(zo (at_ B i1))) (o:=0) (m:=3) (la:=(zo (at_ B i1))) Try.isAgg78 Try.sizeOf78 rfl rfl rfl) ?_
    refine zX (H':=[.box 29 (zF ⟨[],0,0,[],[]⟩),.box 29 (zF d2),.vec 3 1 (List.map cI l2),.box 78 [(AV.lit (.int .u8 0)),(AV.lit (.int .u8 0)),(AV.lit (.int .u8 0))]]) zZg<|za (H':=[.box 29 (zF ⟨[],0,0,[],[]⟩),.box 29 (zF d2),.vec 3 1 (List.map cI l2),.box 78 (zo (at_ B i1))]) (zS (k:=3) (o:=0) (cs:=[(AV.lit (.int .u8 0)),(AV.lit (.int .u8 0)),(AV.lit (.int .u8 0))]) (la:=(zo (at_ B i1))) Try.sizeOf78 rfl rfl rfl rfl)<|zG<|zI<|zC<|zA (zL Try.underlying78 rfl rfl Try.sizeOf5 rfl) ?_
    refine zA (zN Try.isAgg5 rfl rfl rfl rfl)<|zA (zFe (k := .u8) (a:=(at_ B i1).cpu) (b:=2) rfl rfl (by decide))<|zM h fun b5 h=>zA (zFU (k' := .i64) (a:=((at_ B i1).cpu).tmod 2) Try.underlying5 Try.underlying3 rfl b5)<|zA (zD rfl)<|zG ?_
    refine zI<|zC<|zA (zL Try.underlying78 rfl rfl Try.sizeOf5 rfl)<|zA (zN Try.isAgg5 rfl rfl rfl rfl)<|zA (zFe (k := .u8) (a:=(at_ B i1).what) (b:=6) rfl rfl (by decide))<|zG ?_
    refine zV<|zI<|zC<|zA (zBG rfl rfl)<|zA (zD rfl)<|zG ?_
    refine zY h rfl (fun b6 h => ?_) (fun b6 h => ?_)
    ·refine zI<|zI<|zC<|zA (zB rfl)<|zA (zDd (f:=cI) (l:=l2) Try.underlying22 rfl rfl)<|zA (zBG rfl rfl) ?_
     refine zG ?_
     refine zY h rfl (fun b7 h => ?_) (fun b7 h => ?_)
     ·refine zAH ?_
      exact ⟨(d2,l2),zAf [0,1,2] rfl rfl (by kernel_rfl),h⟩
     refine zU<|zI<|zC<|zA (zL Try.underlying78 rfl rfl Try.sizeOf5 rfl)<|zA (zN Try.isAgg5 rfl rfl rfl rfl)<|zM h fun b8 h => ?_
     refine zA (zFU (k' := .i64) (a:=(at_ B i1).pick) Try.underlying5 Try.underlying3 rfl b8)<|zA (zB rfl)<|zA (zDd (f:=cI) (l:=l2) Try.underlying22 rfl rfl)<|zM h fun b9 h=>zA (zFe (k := .i64) (a:=(at_ B i1).pick) (b:=(l2.length:Int)) rfl rfl b9)<|zA (zD rfl) ?_
     refine zG<|zI<|zM h fun b10 h=>zQ h fun x2 w2 h => ?_
     refine zBY (n:=128) (m:=0) [.head 0 1,.head 0 1,.head 0 1,.head 0 1,.head 0 1,.head 0 1,.head 0 1,.head 0 1,.head 0 1,.head 0 2,.tail 0,.tail 1,.head 2 2] [10,11] [(AV.agg (zF d2)),(li (((at_ B i1).cpu).tmod 2)),AV.hd 2,(li (((at_ B i1).pick).tmod (l2.length:Int))),(AV.ptr 2 ((((at_ B i1).pick).tmod (l2.length:Int)).toNat*1)),(li (at_ l2 (((at_ B i1).pick).tmod (l2.length:Int)))),(AV.tup [(AV.agg (zF x2.1)),li x2.2]),(AV.tup [(AV.agg (zF x2.1)),li x2.2]),(AV.agg (zF x2.1)),li x2.2,AV.ptr 4 0,.any,li x2.2] [[.box 29 (zF ⟨[],0,0,[],[]⟩),.box 29 (zF d2),.vec 3 1 (List.map cI l2),.box 78 (zo (at_ B i1))],[.box 29 (zF ⟨[],0,0,[],[]⟩),.box 29 (zF d2),.vec 3 1 (List.map cI l2),.box 78 (zo (at_ B i1)),.box 29 (zF ⟨[],0,0,[],[]⟩)],[.box 29 (zF ⟨[],0,0,[],[]⟩),.box 29 (zF d2),.vec 3 1 (List.map cI l2),.box 78 (zo (at_ B i1)),.box 29 (zF x2.1)]] (by kernel_rfl) (by kernel_rfl) ⟨⟨D1 fun e s p=>zR (k:=1) (o:=0) (m:=5) Try.isAgg29 Try.sizeOf29 (s 7 rfl) rfl rfl rfl rfl,D1 fun e s p=>zR (k:=1) (o:=0) (m:=5) Try.isAgg29 Try.sizeOf29 (s 7 rfl) rfl rfl rfl rfl⟩,⟨D1 fun e s p=>zB (s 12 rfl),D1 fun e s p=>zB (s 12 rfl)⟩,⟨D1 fun e s p=>zB (s 9 rfl),D1 fun e s p=>zB (s 9 rfl)⟩,⟨D1 fun e s p=>zB (s 13 rfl),D1 fun e s p=>zB (s 13 rfl)⟩,⟨D1 fun e s p=>zAN (f:=cI) (l:=l2) (i:=((at_ B i1).pick).tmod (l2.length:Int)) Try.underlying22 Try.sizeOf3 p.1 rfl p.2.1 b10,D1 fun e s p=>zAN (f:=cI) (l:=l2) (i:=((at_ B i1).pick).tmod (l2.length:Int)) Try.underlying22 Try.sizeOf3 p.1 rfl p.2.1 b10⟩,⟨D1 fun e s p=>zC9 (f:=cI) (l:=l2) (i:=((at_ B i1).pick).tmod (l2.length:Int)) (c:=0) (a:=(li (at_ l2 (((at_ B i1).pick).tmod (l2.length:Int))))) Try.isAgg3 p.1 rfl (by first | rfl | omega) b10 rfl rfl,D1 fun e s p=>zC9 (f:=cI) (l:=l2) (i:=((at_ B i1).pick).tmod (l2.length:Int)) (c:=0) (a:=(li (at_ l2 (((at_ B i1).pick).tmod (l2.length:Int))))) Try.isAgg3 p.1 rfl (by first | rfl | omega) b10 rfl rfl⟩,⟨?_,?_⟩,⟨D1 fun e s p=>zB p.1,D1 fun e s p=>zB p.1⟩,⟨D1 fun e s p=>zT p.1 rfl,D1 fun e s p=>zT p.1 rfl⟩,⟨D1 fun e s p=>zT p.1 rfl,D1 fun e s p=>zT p.1 rfl,D1 fun e s p=>zT p.1 rfl⟩,?_,?_,D1 fun e s p=>zD p.2.2.2.2.2.2.2.2.2.2.2.1,trivial⟩ ?_
     ·
      intro e13 s13 p13
      refine zZ (r:=(AV.tup [(AV.agg (zF x2.1)),li x2.2])) (la:=[(AV.agg (zF d2)),(li (((at_ B i1).cpu).tmod 2)),(li (at_ l2 (((at_ B i1).pick).tmod (l2.length:Int))))]) Try.func20 rfl (by kernel_rfl) (.fn 20) (zAV p13.1 (zAV p13.2.1 (zAV p13.2.2.1 rfl))) rfl (zG7 w2) rfl ?_
      exact zG ⟨fun _=>rfl,rfl⟩
     ·
      intro e14 s14 p14
      refine zZ (r:=(AV.tup [(AV.agg (zF x2.1)),li x2.2])) (la:=[(AV.agg (zF d2)),(li (((at_ B i1).cpu).tmod 2)),(li (at_ l2 (((at_ B i1).pick).tmod (l2.length:Int))))]) Try.func20 rfl (by kernel_rfl) (.fn 20) (zAV p14.1 (zAV p14.2.1 (zAV p14.2.2.1 rfl))) rfl (zG7 w2) rfl ?_
      exact zG ⟨fun _=>rfl,rfl⟩
     ·
      intro e22 s22 p22
      refine zX (H':=[.box 29 (zF ⟨[],0,0,[],[]⟩),.box 29 (zF d2),.vec 3 1 (List.map cI l2),.box 78 (zo (at_ B i1)),.box 29 (zF ⟨[],0,0,[],[]⟩)]) zv3 ?_
      exact zG ⟨fun _=>rfl,rfl⟩
     ·
      intro e23 s23 p23
      refine za (H':=[.box 29 (zF ⟨[],0,0,[],[]⟩),.box 29 (zF d2),.vec 3 1 (List.map cI l2),.box 78 (zo (at_ B i1)),.box 29 (zF x2.1)]) (zS (k:=4) (o:=0) (cs:=(zF ⟨[],0,0,[],[]⟩)) (la:=(zF x2.1)) Try.sizeOf29 (by exact p23.2.2.2.2.2.2.2.2.2.2.2.2.2.1) rfl rfl (by exact p23.2.2.2.2.2.2.2.2.2.2.2.1)) ?_
      exact zG ⟨fun _=>rfl,rfl⟩
     intro e25 s25 hq1
     refine zAx (zCR (l:=[(4,(AV.ptr 0 0)),(7,(AV.ptr 1 0)),(9,(AV.hd 2)),(13,(li (((at_ B i1).pick).tmod (l2.length:Int)))),(14,(AV.ptr 4 0)),(15,(li x2.2)),(29,(ls zo B)),(30,(li (B.length:Int))),(31,(li i1))]) ⟨s25 4 rfl,s25 7 rfl,s25 9 rfl,s25 13 rfl,(hq1 10 (by decide) (by decide)),(hq1 12 (by decide) (by decide)),s25 29 rfl,s25 30 rfl,s25 31 rfl,trivial⟩)<|zI<|zI<|zC<|zA (zB (av:=(li x2.2)) rfl)<|zA (z5 (a:=x2.2) (b:=0) rfl rfl) ?_
     refine zG ?_
     refine zY h rfl (fun b11 h => ?_) (fun b11 h => ?_)
     ·refine zI<|zC<|zA (zR (k:=1) (o:=0) (m:=5) Try.isAgg29 Try.sizeOf29 rfl rfl rfl rfl rfl)<|za (H':=[.box 29 (zF d2),.box 29 (zF d2),.vec 3 1 (List.map cI l2),.box 78 (zo (at_ B i1)),.box 29 (zF x2.1)]) (zS (k:=0) (o:=0) (cs:=(zF ⟨[],0,0,[],[]⟩)) (la:=(zF d2)) Try.sizeOf29 rfl rfl rfl rfl)<|zA (zD rfl)<|zA (zD rfl) ?_
      refine zG<|zb ?_
      cases h
      exact zEE (zF9 Try.isAgg29 Try.sizeOf29 rfl rfl rfl rfl) (zIf (zAh rfl rfl) zA9.nils) (zAh rfl rfl) rfl
     refine zU<|zI<|zC<|zA (zR (k:=4) (o:=0) (m:=5) Try.isAgg29 Try.sizeOf29 rfl rfl rfl rfl rfl)<|za (H':=[.box 29 (zF ⟨[],0,0,[],[]⟩),.box 29 (zF x2.1),.vec 3 1 (List.map cI l2),.box 78 (zo (at_ B i1)),.box 29 (zF x2.1)]) (zS (k:=1) (o:=0) (cs:=(zF d2)) (la:=(zF x2.1)) Try.sizeOf29 rfl rfl rfl rfl)<|zG ?_
     refine zAx (zE6 (j:=2) (ds:=[9]) (rows':=List.map cI l2) rfl (zAX (fun _=>rfl)) ⟨rfl,trivial⟩)<|zM h fun b12 h=>zM h fun b13 h=>zM h fun b14 h=>zM h fun b15 h=>zM h fun b16 h => ?_
     refine zBY (n:=128) (m:=0) [.tail 0,.head 0 1,.head 0 1,.head 0 1,.tail 1,.head 0 2,.head 0 2,.head 0 2,.head 0 2,.tail 2,.head 3 3] [0,4,9] [AV.hd 5,ls cI l2,(li (((at_ B i1).pick).tmod (l2.length:Int))),(ls cI (zFD l2 0 (((at_ B i1).pick).tmod (l2.length:Int)))),AV.hd 6,ls cI l2,(li (((at_ B i1).pick).tmod (l2.length:Int))),(li ((((at_ B i1).pick).tmod (l2.length:Int))+1)),(ls cI (zFD l2 ((((at_ B i1).pick).tmod (l2.length:Int))+1) (l2.length:Int))),AV.hd 7,AV.hd 7] [[.box 29 (zF ⟨[],0,0,[],[]⟩),.box 29 (zF x2.1),.dead,.box 78 (zo (at_ B i1)),.box 29 (zF x2.1)],[.box 29 (zF ⟨[],0,0,[],[]⟩),.box 29 (zF x2.1),.dead,.box 78 (zo (at_ B i1)),.box 29 (zF x2.1),.vec 3 1 (List.map cI [])],[.box 29 (zF ⟨[],0,0,[],[]⟩),.box 29 (zF x2.1),.dead,.box 78 (zo (at_ B i1)),.box 29 (zF x2.1),.dead,.vec 3 1 (List.map cI (([]:List Int)++(zFD l2 0 (((at_ B i1).pick).tmod (l2.length:Int)))))],[.box 29 (zF ⟨[],0,0,[],[]⟩),.box 29 (zF x2.1),.dead,.box 78 (zo (at_ B i1)),.box 29 (zF x2.1),.dead,.dead,.vec 3 1 (List.map cI ((([]:List Int)++(zFD l2 0 (((at_ B i1).pick).tmod (l2.length:Int))))++(zFD l2 ((((at_ B i1).pick).tmod (l2.length:Int))+1) (l2.length:Int))))]] (by kernel_rfl) (by kernel_rfl) ⟨?_,⟨D1 fun e s p=>zB (s 9 rfl),D1 fun e s p=>zB (s 9 rfl)⟩,⟨D1 fun e s p=>zB (s 13 rfl),D1 fun e s p=>zB (s 13 rfl)⟩,⟨D1 fun e s p=>zNO (hi:=((at_ B i1).pick).tmod (l2.length:Int)) (f:=cI) (l:=l2) Try.underlying22 Try.sizeOf3 (fun _=>rfl) p.1 p.2.1 b12,D1 fun e s p=>zNO (hi:=((at_ B i1).pick).tmod (l2.length:Int)) (f:=cI) (l:=l2) Try.underlying22 Try.sizeOf3 (fun _=>rfl) p.1 p.2.1 b12⟩,?_,⟨D1 fun e s p=>zB (s 9 rfl),D1 fun e s p=>zB (s 9 rfl),D1 fun e s p=>zB (s 9 rfl)⟩,⟨D1 fun e s p=>zB (s 13 rfl),D1 fun e s p=>zB (s 13 rfl),D1 fun e s p=>zB (s 13 rfl)⟩,⟨D1 fun e s p=>zi (a:=((at_ B i1).pick).tmod (l2.length:Int)) (b:=1) p.1 rfl b14,D1 fun e s p=>zi (a:=((at_ B i1).pick).tmod (l2.length:Int)) (b:=1) p.1 rfl b14,D1 fun e s p=>zi (a:=((at_ B i1).pick).tmod (l2.length:Int)) (b:=1) p.1 rfl b14⟩,⟨D1 fun e s p=>zKa (lo:=(((at_ B i1).pick).tmod (l2.length:Int))+1) (f:=cI) (l:=l2) Try.underlying22 Try.sizeOf3 (fun _=>rfl) p.1 p.2.1 b15,D1 fun e s p=>zKa (lo:=(((at_ B i1).pick).tmod (l2.length:Int))+1) (f:=cI) (l:=l2) Try.underlying22 Try.sizeOf3 (fun _=>rfl) p.1 p.2.1 b15,D1 fun e s p=>zKa (lo:=(((at_ B i1).pick).tmod (l2.length:Int))+1) (f:=cI) (l:=l2) Try.underlying22 Try.sizeOf3 (fun _=>rfl) p.1 p.2.1 b15⟩,?_,D1 fun e s p=>zD p.2.2.2.2.2.2.2.2.2.2.2.1,trivial⟩ ?_
     ·
      intro e26 s26 p25
      refine zL1 zHA Try.underlying22 ?_
      exact zG ⟨fun _=>rfl,rfl⟩
     ·
      intro e33 s33 p32
      refine zGz (f:=cI) (k:=5) (l:=([]:List Int)) (l':=zFD l2 0 (((at_ B i1).pick).tmod (l2.length:Int))) zHA (fun _=>rfl) Try.underlying22 p32.1 rfl p32.2.1 b13 ?_
      exact zG ⟨fun _=>rfl,rfl⟩
     ·
      intro e46 s46 p45
      refine zGz (f:=cI) (k:=6) (l:=([]:List Int)++(zFD l2 0 (((at_ B i1).pick).tmod (l2.length:Int)))) (l':=zFD l2 ((((at_ B i1).pick).tmod (l2.length:Int))+1) (l2.length:Int)) zHA (fun _=>rfl) Try.underlying22 p45.2.2.1 rfl p45.2.1 b16 ?_
      exact zG ⟨fun _=>rfl,rfl⟩
     intro e48 s48 hq2
     exact ⟨(x2.1,((([]:List Int)++(zFD l2 0 (((at_ B i1).pick).tmod (l2.length:Int))))++(zFD l2 ((((at_ B i1).pick).tmod (l2.length:Int))+1) (l2.length:Int)))),Rep.trans (zCR (l:=[(4,(AV.ptr 0 0)),(7,(AV.ptr 1 0)),(9,(AV.hd 7)),(29,(ls zo B)),(30,(li (B.length:Int))),(31,(li i1))]) ⟨s48 4 rfl,s48 7 rfl,(hq2 10 (by decide) (by decide)),s48 29 rfl,s48 30 rfl,s48 31 rfl,trivial⟩) (zAf [0,1,7] (l:=[(4,(AV.ptr 0 0)),(7,(AV.ptr 1 0)),(9,(AV.hd 2)),(29,(ls zo B)),(30,(li (B.length:Int))),(31,(li i1))]) rfl rfl (by kernel_rfl)),h⟩
    refine zI<|zC<|zA (zBG rfl rfl)<|zA (zD rfl)<|zG ?_
    refine zY h rfl (fun b17 h => ?_) (fun b17 h => ?_)
    ·refine zC<|zA (zR (k:=1) (o:=0) (m:=5) Try.isAgg29 Try.sizeOf29 rfl rfl rfl rfl rfl)<|zQ h fun x3 w3 h=>zZ Try.func22 rfl (by kernel_rfl) (.fn 22) rfl rfl (zIl w3) rfl<|za (H':=[.box 29 (zF ⟨[],0,0,[],[]⟩),.box 29 (zF x3),.vec 3 1 (List.map cI l2),.box 78 (zo (at_ B i1))]) (zS (k:=1) (o:=0) (cs:=(zF d2)) (la:=(zF x3)) Try.sizeOf29 rfl rfl rfl rfl)<|zG ?_
     exact ⟨(x3,l2),zAf [0,1,2] rfl rfl (by kernel_rfl),h⟩
    refine zI<|zC<|zA (zBG rfl rfl)<|zA (zD rfl)<|zG ?_
    refine zY h rfl (fun b18 h => ?_) (fun b18 h => ?_)
    ·refine zI<|zC<|zA (zR (k:=1) (o:=0) (m:=5) Try.isAgg29 Try.sizeOf29 rfl rfl rfl rfl rfl)<|zA (zL Try.underlying78 rfl rfl Try.sizeOf5 rfl)<|zA (zN Try.isAgg5 rfl rfl rfl rfl)<|zM h fun b19 h => ?_
     refine zA (zFU (k' := .i64) (a:=(at_ B i1).pick) Try.underlying5 Try.underlying3 rfl b19)<|zQ h fun x4 w4 h=>zZ Try.func33 rfl (by kernel_rfl) (.fn 33) rfl rfl (zMa w4) rfl<|zA (zB rfl)<|zA (zT rfl rfl)<|zA (zT rfl rfl) ?_
     refine zX (H':=[.box 29 (zF ⟨[],0,0,[],[]⟩),.box 29 (zF d2),.vec 3 1 (List.map cI l2),.box 78 (zo (at_ B i1)),.box 29 (zF ⟨[],0,0,[],[]⟩)]) zv3<|za (H':=[.box 29 (zF ⟨[],0,0,[],[]⟩),.box 29 (zF d2),.vec 3 1 (List.map cI l2),.box 78 (zo (at_ B i1)),.box 29 (zF x4.1)]) (zS (k:=4) (o:=0) (cs:=(zF ⟨[],0,0,[],[]⟩)) (la:=(zF x4.1)) Try.sizeOf29 rfl rfl rfl rfl)<|zA (zD rfl)<|zG<|zI<|zC ?_
     refine zA (zB rfl)<|zA (zBG rfl rfl)<|zG ?_
     refine zY h rfl (fun b20 h => ?_) (fun b20 h => ?_)
     ·refine zI<|zC<|zA (zR (k:=4) (o:=0) (m:=5) Try.isAgg29 Try.sizeOf29 rfl rfl rfl rfl rfl)<|za (H':=[.box 29 (zF ⟨[],0,0,[],[]⟩),.box 29 (zF x4.1),.vec 3 1 (List.map cI l2),.box 78 (zo (at_ B i1)),.box 29 (zF x4.1)]) (zS (k:=1) (o:=0) (cs:=(zF d2)) (la:=(zF x4.1)) Try.sizeOf29 rfl rfl rfl rfl)<|zG<|zC ?_
      refine zA (zB rfl)<|zA (zL Try.underlying78 rfl rfl Try.sizeOf5 rfl)<|zA (zN Try.isAgg5 rfl rfl rfl rfl)<|zA (zFU (k' := .i64) (a:=(at_ B i1).pick) Try.underlying5 Try.underlying3 rfl b19)<|zGd (a:=(li ((at_ B i1).pick))) zHA Try.underlying22 rfl rfl rfl rfl<|zM h fun b21 h => ?_
      refine zET (f:=cI) (k:=2) (j:=5) (l:=l2) (l':=[(at_ B i1).pick]) zHA (fun _=>rfl) Try.underlying22 rfl rfl rfl rfl b21<|zA (zD rfl)<|zG ?_
      exact ⟨(x4.1,(l2++[(at_ B i1).pick])),zAf [0,1,6] rfl rfl (by kernel_rfl),h⟩
     refine zU ?_
     exact ⟨(d2,l2),zAf [0,1,2] rfl rfl (by kernel_rfl),h⟩
    refine zI<|zC<|zA (zR (k:=1) (o:=0) (m:=5) Try.isAgg29 Try.sizeOf29 rfl rfl rfl rfl rfl)<|zA (zB rfl)<|zA (zL Try.underlying78 rfl rfl Try.sizeOf5 rfl)<|zA (zN Try.isAgg5 rfl rfl rfl rfl) ?_
    refine zA (zFe (k := .u8) (a:=(at_ B i1).what) (b:=6) rfl rfl (by decide))<|zA (z5 rfl rfl)<|zA (zL Try.underlying78 rfl rfl Try.sizeOf5 rfl)<|zA (zN Try.isAgg5 rfl rfl rfl rfl)<|zA (zFe (k := .u8) (a:=(at_ B i1).what) (b:=6) rfl rfl (by decide))<|zA (zBG rfl rfl) ?_
    refine zQ h fun x5 w5 h=>zZ Try.func17 rfl (by kernel_rfl) (.fn 17) rfl rfl (zGY w5) rfl<|zA (zB rfl)<|zA (zT rfl rfl)<|zA (zT rfl rfl)<|zA (zT rfl rfl) ?_
    refine zX (H':=[.box 29 (zF ⟨[],0,0,[],[]⟩),.box 29 (zF d2),.vec 3 1 (List.map cI l2),.box 78 (zo (at_ B i1)),.box 29 (zF ⟨[],0,0,[],[]⟩)]) zv3<|za (H':=[.box 29 (zF ⟨[],0,0,[],[]⟩),.box 29 (zF d2),.vec 3 1 (List.map cI l2),.box 78 (zo (at_ B i1)),.box 29 (zF x5.1)]) (zS (k:=4) (o:=0) (cs:=(zF ⟨[],0,0,[],[]⟩)) (la:=(zF x5.1)) Try.sizeOf29 rfl rfl rfl rfl)<|zA (zD rfl)<|zA (zD rfl)<|zG<|zI ?_
    refine zC<|zA (zB rfl)<|zA (zBG rfl rfl)<|zG ?_
    refine zY h rfl (fun b22 h => ?_) (fun b22 h => ?_)
    ·refine zI<|zC<|zA (zR (k:=4) (o:=0) (m:=5) Try.isAgg29 Try.sizeOf29 rfl rfl rfl rfl rfl)<|za (H':=[.box 29 (zF ⟨[],0,0,[],[]⟩),.box 29 (zF x5.1),.vec 3 1 (List.map cI l2),.box 78 (zo (at_ B i1)),.box 29 (zF x5.1)]) (zS (k:=1) (o:=0) (cs:=(zF d2)) (la:=(zF x5.1)) Try.sizeOf29 rfl rfl rfl rfl)<|zG<|zC ?_
     refine zA (zB rfl)<|zA (zB rfl)<|zGd (a:=(li x5.2.1)) zHA Try.underlying22 rfl rfl rfl rfl<|zM h fun b23 h=>zET (f:=cI) (k:=2) (j:=5) (l:=l2) (l':=[x5.2.1]) zHA (fun _=>rfl) Try.underlying22 rfl rfl rfl rfl b23<|zA (zD rfl) ?_
     refine zG ?_
     exact ⟨(x5.1,(l2++[x5.2.1])),zAf [0,1,6] rfl rfl (by kernel_rfl),h⟩
    refine zI<|zC<|zA (zB rfl)<|zA (z5 rfl rfl)<|zG ?_
    refine zY h rfl (fun b24 h => ?_) (fun b24 h => ?_)
    ·refine zI<|zC<|zA (zR (k:=1) (o:=0) (m:=5) Try.isAgg29 Try.sizeOf29 rfl rfl rfl rfl rfl)<|za (H':=[.box 29 (zF d2),.box 29 (zF d2),.vec 3 1 (List.map cI l2),.box 78 (zo (at_ B i1)),.box 29 (zF x5.1)]) (zS (k:=0) (o:=0) (cs:=(zF ⟨[],0,0,[],[]⟩)) (la:=(zF d2)) Try.sizeOf29 rfl rfl rfl rfl)<|zA (zD rfl)<|zA (zD rfl) ?_
     refine zG<|zb ?_
     cases h
     exact zEE (zF9 Try.isAgg29 Try.sizeOf29 rfl rfl rfl rfl) (zIf (zAh rfl rfl) zA9.nils) (zAh rfl rfl) rfl
    refine zU ?_
    exact ⟨(d2,l2),zAf [0,1,2] rfl rfl (by kernel_rfl),h⟩
   clear h
   rintro ⟨d3,l3⟩ h
   unfold zCE at h
   refine zC<|zM h fun b3 h=>zA (zi rfl rfl b3)<|zA (zB rfl)<|zG ?_
   exact ⟨((i1+1),d3,l3),zAf [0,1,2] rfl rfl (by kernel_rfl),h⟩
  refine zAH ?_
  exact ⟨(d2,l2),zAf [0,1,2] rfl rfl (by kernel_rfl),h⟩
 clear h
 rintro ⟨d1,l1⟩ h
 unfold zJh at h
 refine zI<|zC<|zA (zR (k:=1) (o:=0) (m:=5) Try.isAgg29 Try.sizeOf29 rfl rfl rfl rfl rfl)<|zA (zB rfl)<|za (H':=[.box 29 (zF d1),.box 29 (zF d1),.vec 3 1 (List.map cI l1)]) (zS (k:=0) (o:=0) (cs:=(zF ⟨[],0,0,[],[]⟩)) (la:=(zF d1)) Try.sizeOf29 rfl rfl rfl rfl)<|zA (zD rfl) ?_
 refine zA (zD rfl)<|zG<|zAx (zE6 (j:=2) (ds:=[5,9,127]) (rows':=List.map cI l1) rfl (zAX (fun _=>rfl)) ⟨rfl,rfl,rfl,trivial⟩)<|zb ?_
 cases h
 exact zEE (zF9 Try.isAgg29 Try.sizeOf29 rfl rfl rfl rfl) (zAh rfl rfl) (zAh rfl rfl) rfl
theorem zJK {A:zAE} {B:List zBM} {G:List Int} {r:Bool} (h:zDW A B G=some r):PFn Try.prog 6 [(AV.agg (zt A)),ls zo B,(AV.agg (cA 2 (eK .u8) 0 G))] (AV.lit (.bool r)):=by
 refine zq Try.func6 rfl Try.ntmps6 Try.results6 rfl ?_
 unfold zDW at h
 refine zI<|zC<|zX (H':=[.box 37 (zt A)]) (z6 (t:=37) rfl)<|zX (H':=[.box 37 (zt A),.box 58 (cA 2 (eK .u8) 0 G)]) (z6 (t:=58) rfl)<|zA (zD rfl)<|zG ?_
 refine zI<|zI<|zC<|zQ h fun x1 w1 h=>zZ Try.func8 rfl (by kernel_rfl) (.fn 8) rfl rfl (zLQ w1) rfl<|zA (zBK (t:=x1) rfl) ?_
 refine zA (zB rfl)<|zd rfl rfl (fun c1=>zv.step (zB rfl))<|zd rfl rfl (fun c2=>zv.step (zf Try.underlying38 (zAJ rfl c2)))<|zd rfl rfl (fun c3=>zv.step (zCQ (zAJ rfl c3) rfl))<|zA (zh rfl rfl)<|zG ?_
 refine zY h rfl (fun b1 h => ?_) (fun b1 h => ?_)
 ·refine zI<|zC<|zQ h fun x2 w2 h=>zZ Try.func8 rfl (by kernel_rfl) (.fn 8) rfl rfl (zLQ w2) rfl<|zA (zD rfl)<|zG ?_
  refine zb ?_
  cases h
  exact zz (zAh rfl rfl)
 refine zU<|zI<|zC<|zA (zR (k:=0) (o:=0) (m:=11) Try.isAgg37 Try.sizeOf37 rfl rfl rfl rfl rfl)<|zA (zB rfl)<|zQ h fun x3 w3 h => ?_
 refine zZ Try.func12 rfl (by kernel_rfl) (.fn 12) rfl rfl (zPI w3) rfl<|zA (zB rfl)<|zA (zT rfl rfl)<|zA (zT rfl rfl)<|zA (zT rfl rfl)<|zX (H':=[.box 37 (zt A),.box 58 (cA 2 (eK .u8) 0 G),.box 29 (zF ⟨[],0,0,[],[]⟩)]) zv3 ?_
 refine za (H':=[.box 37 (zt A),.box 58 (cA 2 (eK .u8) 0 G),.box 29 (zF x3.1)]) (zS (k:=2) (o:=0) (cs:=(zF ⟨[],0,0,[],[]⟩)) (la:=(zF x3.1)) Try.sizeOf29 rfl rfl rfl rfl)<|zA (zD rfl)<|zA (zD rfl)<|zG<|zI<|zI ?_
 refine zC<|zA (zB rfl)<|zA (zBK (t:=x3.2.2) rfl)<|zG ?_
 refine zY h rfl (fun b2 h => ?_) (fun b2 h => ?_)
 ·refine zI<|zC<|zA (zD rfl)<|zG<|zb ?_
  cases h
  exact zz (zAh rfl rfl)
 refine zU<|zI<|zC<|zA (zAa (m:=2) (s:=1) (i:=1) (k:=1) (o:=0) Try.underlying58 Try.sizeOf5 rfl rfl (by decide))<|zA (zJu (k:=1) (o:=1) (g:=(eK .u8)) (d0:=0) (l:=G) (N:=2) (i:=(1:Int).toNat) (a:=(AV.lit (.int .u8 (G.getD (1:Int).toNat 0)))) Try.isAgg5 rfl rfl rfl (by decide) rfl rfl)<|zA (zFe (k := .u8) (a:=G.getD (1:Int).toNat 0) (b:=2) rfl rfl (by decide)) ?_
 refine zA (zBG rfl rfl)<|zA (zD rfl)<|zG<|zI<|zC<|zA (zD rfl) ?_
 refine zG ?_
 refine zAB (r:=r) (fun (q1:Bool)=>mkE [(5,(AV.ptr 0 0)),(7,(AV.ptr 1 0)),(10,(AV.lit (.bool (decide (((G.getD (1:Int).toNat 0).tmod 2)=1))))),(11,(AV.lit (.bool q1)))]) (fun q1=>[.box 58 (cA 2 (eK .u8) 0 G),.box 29 (zF x3.1)]) (fun q1=>zBl G x3 q1) ?_ ?_
 ·
  refine zI<|zC<|zA (zL Try.underlying29 rfl rfl Try.sizeOf26 rfl)<|zA (zN Try.isAgg26 rfl rfl rfl rfl)<|zA (zf Try.underlying26 rfl)<|zA (zB rfl) ?_
  refine zG<|zV<|zAA (σ:=Bool×Int) (fun (q2,i1)=>mkE [(5,(AV.ptr 0 0)),(7,(AV.ptr 1 0)),(10,(AV.lit (.bool (decide (((G.getD (1:Int).toNat 0).tmod 2)=1))))),(11,(AV.lit (.bool q2))),(40,(li (x3.1.zones.length:Int))),(41,(li i1))]) (fun (q2,i1)=>[.box 58 (cA 2 (eK .u8) 0 G),.box 29 (zF x3.1)]) (fun n0 (q2,i1)=>zA7 G x3 n0 q2 i1) (false,0) h (fun _=>rfl) (zAf [1,2] rfl rfl (by kernel_rfl)) ?_
  clear h
  rintro n0 ⟨q2,i1⟩ h
  replace h:zA6 G x3 (zA7 G x3 n0) q2 i1=some r:=h
  unfold zA6 at h
  refine zI<|zC<|zA (zp rfl rfl)<|zG<|zI ?_
  refine zY h rfl (fun b6 h => ?_) (fun b6 h => ?_)
  ·refine zU ?_
   refine zAB (r:=r) (fun (q3:Bool)=>mkE [(5,(AV.ptr 0 0)),(7,(AV.ptr 1 0)),(10,(AV.lit (.bool (decide (((G.getD (1:Int).toNat 0).tmod 2)=1))))),(11,(AV.lit (.bool q3))),(40,(li (x3.1.zones.length:Int))),(41,(li i1))]) (fun q3=>[.box 58 (cA 2 (eK .u8) 0 G),.box 29 (zF x3.1)]) (fun q3=>zBP (zA7 G x3 n0) i1 q3) ?_ ?_
   ·
    refine zV<|zI<|zC<|zA (zB rfl)<|zA (zD rfl)<|zG ?_
    refine zI<|zQ h fun x10 w10 h=>zM h fun b8 h => ?_
    refine zBY (n:=116) (m:=0) [.head 0 0,.head 0 0,.head 0 0,.head 0 0,.head 0 0,.head 0 0,.head 0 0,.head 0 0,.head 0 0,.head 0 0,.head 0 0,.head 0 0,.head 0 0,.head 0 0,.head 0 0,.head 0 0,.head 0 0,.head 0 0,.head 0 0,.head 0 0,.head 0 0,.head 0 0,.head 0 0] [] [(AV.agg (zF x3.1)),li i1,li x10,AV.ptr 1 3,ls zO x3.1.zones,li i1,(AV.rp (zO (at_ x3.1.zones i1)) 0),(AV.rp (zO (at_ x3.1.zones i1)) 4),(li ((at_ x3.1.zones i1).min)),(AV.lit (.bool (decide (((at_ x3.1.zones i1).min)<x10)))),(AV.lit (.bool (decide (((at_ x3.1.zones i1).min)<x10)))),(bif decide (((at_ x3.1.zones i1).min)<x10) then (AV.lit (.bool (decide (((G.getD (1:Int).toNat 0).tmod 2)=1)))) else .lit undef),(bif decide (((at_ x3.1.zones i1).min)<x10) then (AV.lit (.bool (!(decide (((G.getD (1:Int).toNat 0).tmod 2)=1))))) else .lit undef),(bif decide (((at_ x3.1.zones i1).min)<x10) then (AV.lit (.bool (!(decide (((G.getD (1:Int).toNat 0).tmod 2)=1))))) else .lit undef),(bif (decide (((at_ x3.1.zones i1).min)<x10) && !(!(decide (((G.getD (1:Int).toNat 0).tmod 2)=1)))) then (AV.ptr 1 3) else .lit undef),(bif (decide (((at_ x3.1.zones i1).min)<x10) && !(!(decide (((G.getD (1:Int).toNat 0).tmod 2)=1)))) then (ls zO x3.1.zones) else .lit undef),(bif (decide (((at_ x3.1.zones i1).min)<x10) && !(!(decide (((G.getD (1:Int).toNat 0).tmod 2)=1)))) then (li i1) else .lit undef),(bif (decide (((at_ x3.1.zones i1).min)<x10) && !(!(decide (((G.getD (1:Int).toNat 0).tmod 2)=1)))) then (AV.rp (zO (at_ x3.1.zones i1)) 0) else .lit undef),(bif (decide (((at_ x3.1.zones i1).min)<x10) && !(!(decide (((G.getD (1:Int).toNat 0).tmod 2)=1)))) then (AV.rp (zO (at_ x3.1.zones i1)) 1) else .lit undef),(bif (decide (((at_ x3.1.zones i1).min)<x10) && !(!(decide (((G.getD (1:Int).toNat 0).tmod 2)=1)))) then (li ((at_ x3.1.zones i1).kind)) else .lit undef),(bif (decide (((at_ x3.1.zones i1).min)<x10) && !(!(decide (((G.getD (1:Int).toNat 0).tmod 2)=1)))) then (AV.lit (.bool (decide (((at_ x3.1.zones i1).kind)=0)))) else .lit undef),(bif decide (((at_ x3.1.zones i1).min)<x10) then (AV.lit (.bool ((!(decide (((G.getD (1:Int).toNat 0).tmod 2)=1)))||(decide (((at_ x3.1.zones i1).kind)=0))))) else .lit undef),(AV.lit (.bool ((decide (((at_ x3.1.zones i1).min)<x10))&&((!(decide (((G.getD (1:Int).toNat 0).tmod 2)=1)))||(decide (((at_ x3.1.zones i1).kind)=0))))))] [[.box 58 (cA 2 (eK .u8) 0 G),.box 29 (zF x3.1)]] (by kernel_rfl) (by kernel_rfl) ⟨D1 fun e s p=>zR (k:=1) (o:=0) (m:=5) Try.isAgg29 Try.sizeOf29 (s 7 rfl) rfl rfl rfl rfl,D1 fun e s p=>zB (s 12 rfl),?_,D1 fun e s p=>zL (k:=1) (o:=0) (off:=3) Try.underlying29 rfl rfl Try.sizeOf26 (s 7 rfl),D1 fun e s p=>zN (k:=1) (o:=3) Try.isAgg26 p.1 rfl rfl rfl,D1 fun e s p=>zB (s 12 rfl),D1 fun e s p=>zj (f:=zO) (l:=x3.1.zones) (i:=i1) Try.underlying26 Try.sizeOf46 (fun _=>rfl) p.1 p.2.1 b8,D1 fun e s p=>zII (row:=(zO (at_ x3.1.zones i1))) (o:=0) (off:=4) Try.underlying46 rfl rfl Try.sizeOf3 p.1,D1 fun e s p=>zm (o:=4) Try.isAgg3 p.1 rfl,D1 fun e s p=>zCQ (a:=x10) (b:=(at_ x3.1.zones i1).min) p.1 p.2.1,D1 fun e s p=>zB p.1,?_,?_,?_,?_,?_,?_,?_,?_,?_,?_,?_,D1 fun e s p=>z8 (s:=decide (((at_ x3.1.zones i1).min)<x10)) (q:=(!(decide (((G.getD (1:Int).toNat 0).tmod 2)=1)))||(decide (((at_ x3.1.zones i1).kind)=0))) (j := .lit undef) p.1 p.2.1,trivial⟩ ?_
    ·
     intro e31 s31 p30
     refine zZ (r:=(li x10)) (la:=[(AV.agg (zF x3.1)),li i1]) Try.func18 rfl (by kernel_rfl) (.fn 18) (zAV p30.1 (zAV p30.2.1 rfl)) rfl (zFB w10) rfl ?_
     exact zG ⟨fun _=>rfl,rfl⟩
    ·
     intro e40 s40 p39
     refine zw (g:=54) (s:=decide (((at_ x3.1.zones i1).min)<x10)) rfl p39.1 (fun c51=>zv.step (zB (av:=(AV.lit (.bool (decide (((G.getD (1:Int).toNat 0).tmod 2)=1))))) (s40 10 rfl))) ?_
     exact zG ⟨fun _=>rfl,rfl⟩
    ·
     intro e41 s41 p40
     refine zw (g:=54) (s:=decide (((at_ x3.1.zones i1).min)<x10)) rfl p40.2.1 (fun c52=>zv.step (zBK (t:=decide (((G.getD (1:Int).toNat 0).tmod 2)=1)) (zAJ p40.1 c52))) ?_
     exact zG ⟨fun _=>rfl,rfl⟩
    ·
     intro e42 s42 p41
     refine zw (g:=54) (s:=decide (((at_ x3.1.zones i1).min)<x10)) rfl p41.2.2.1 (fun c53=>zv.step (zB (av:=(AV.lit (.bool (!(decide (((G.getD (1:Int).toNat 0).tmod 2)=1)))))) (zAJ p41.1 c53))) ?_
     exact zG ⟨fun _=>rfl,rfl⟩
    ·
     intro e43 s43 p42
     refine zFk (g:=57) (s':=decide (((at_ x3.1.zones i1).min)<x10)) (s := !(decide (((G.getD (1:Int).toNat 0).tmod 2)=1))) rfl p42.1 (fun c54=>zv.step (zL (k:=1) (o:=0) (off:=3) Try.underlying29 rfl rfl Try.sizeOf26 (s43 7 rfl))) ?_
     exact zG ⟨fun _=>rfl,rfl⟩
    ·
     intro e44 s44 p43
     refine zFk (g:=57) (s':=decide (((at_ x3.1.zones i1).min)<x10)) (s := !(decide (((G.getD (1:Int).toNat 0).tmod 2)=1))) rfl p43.2.1 (fun c55=>zv.step (zN (k:=1) (o:=3) (a:=(ls zO x3.1.zones)) Try.isAgg26 (zAJ p43.1 c55) rfl rfl rfl)) ?_
     exact zG ⟨fun _=>rfl,rfl⟩
    ·
     intro e45 s45 p44
     refine zFk (g:=57) (s':=decide (((at_ x3.1.zones i1).min)<x10)) (s := !(decide (((G.getD (1:Int).toNat 0).tmod 2)=1))) rfl p44.1 (fun c56=>zv.step (zB (av:=(li i1)) (s45 12 rfl))) ?_
     exact zG ⟨fun _=>rfl,rfl⟩
    ·
     intro e46 s46 p45
     refine zFk (g:=57) (s':=decide (((at_ x3.1.zones i1).min)<x10)) (s := !(decide (((G.getD (1:Int).toNat 0).tmod 2)=1))) rfl p45.2.2.1 (fun c57=>zv.step (zj (f:=zO) (l:=x3.1.zones) (i:=i1) Try.underlying26 Try.sizeOf46 (fun _=>rfl) (zAJ p45.1 c57) (zAJ p45.2.1 c57) b8)) ?_
     exact zG ⟨fun _=>rfl,rfl⟩
    ·
     intro e47 s47 p46
     refine zFk (g:=57) (s':=decide (((at_ x3.1.zones i1).min)<x10)) (s := !(decide (((G.getD (1:Int).toNat 0).tmod 2)=1))) rfl p46.2.1 (fun c58=>zv.step (zII (row:=(zO (at_ x3.1.zones i1))) (o:=0) (off:=1) Try.underlying46 rfl rfl Try.sizeOf3 (zAJ p46.1 c58))) ?_
     exact zG ⟨fun _=>rfl,rfl⟩
    ·
     intro e48 s48 p47
     refine zFk (g:=57) (s':=decide (((at_ x3.1.zones i1).min)<x10)) (s := !(decide (((G.getD (1:Int).toNat 0).tmod 2)=1))) rfl p47.2.1 (fun c59=>zv.step (zm (row:=(zO (at_ x3.1.zones i1))) (o:=1) (a:=(li ((at_ x3.1.zones i1).kind))) Try.isAgg3 (zAJ p47.1 c59) rfl)) ?_
     exact zG ⟨fun _=>rfl,rfl⟩
    ·
     intro e49 s49 p48
     refine zFk (g:=57) (s':=decide (((at_ x3.1.zones i1).min)<x10)) (s := !(decide (((G.getD (1:Int).toNat 0).tmod 2)=1))) rfl p48.2.1 (fun c60=>zv.step (zBG (a:=(at_ x3.1.zones i1).kind) (b:=0) (zAJ p48.1 c60) rfl)) ?_
     exact zG ⟨fun _=>rfl,rfl⟩
    ·
     intro e50 s50 p49
     refine zw (g:=54) (s:=decide (((at_ x3.1.zones i1).min)<x10)) rfl p49.2.2.1 (fun c61=>zv.step (zh (s := !(decide (((G.getD (1:Int).toNat 0).tmod 2)=1))) (q:=decide (((at_ x3.1.zones i1).kind)=0)) (j := .lit undef) (zAJ p49.1 c61) (zPp (c:=decide (((at_ x3.1.zones i1).min)<x10)) (d := !(!(decide (((G.getD (1:Int).toNat 0).tmod 2)=1)))) (a:=(AV.lit (.bool (decide (((at_ x3.1.zones i1).kind)=0))))) (j := .lit undef) p49.2.1 c61))) ?_
     exact zG ⟨fun _=>rfl,rfl⟩
    intro e52 s52 hq2
    refine zAx (zCR (l:=[(5,(AV.ptr 0 0)),(7,(AV.ptr 1 0)),(10,(AV.lit (.bool (decide (((G.getD (1:Int).toNat 0).tmod 2)=1))))),(11,(AV.lit (.bool q2))),(40,(li (x3.1.zones.length:Int))),(41,(li i1)),(66,(AV.lit (.bool ((decide (((at_ x3.1.zones i1).min)<x10))&&((!(decide (((G.getD (1:Int).toNat 0).tmod 2)=1)))||(decide (((at_ x3.1.zones i1).kind)=0)))))))]) ⟨s52 5 rfl,s52 7 rfl,s52 10 rfl,s52 11 rfl,s52 40 rfl,s52 41 rfl,(hq2 22 (by decide) (by decide)),trivial⟩) ?_
    refine zY h rfl (fun b9 h => ?_) (fun b9 h => ?_)
    ·refine zC<|zA (zD rfl)<|zG ?_
     exact ⟨true,zAf [0,1] rfl rfl (by kernel_rfl),h⟩
    refine zU ?_
    exact ⟨q2,zAf [0,1] rfl rfl (by kernel_rfl),h⟩
   clear h
   intro q3 h
   unfold zBP at h
   refine zC<|zM h fun b7 h=>zA (zi rfl rfl b7)<|zA (zB rfl)<|zG ?_
   exact ⟨(q3,(i1+1)),zAf [0,1] rfl rfl (by kernel_rfl),h⟩
  refine zAH ?_
  exact ⟨q2,zAf [0,1] rfl rfl (by kernel_rfl),h⟩
 clear h
 intro q1 h
 unfold zBl at h
 refine zI<|zC<|zA (zR (k:=1) (o:=0) (m:=5) Try.isAgg29 Try.sizeOf29 rfl rfl rfl rfl rfl)<|zA (zAa (m:=2) (s:=1) (i:=0) (k:=0) (o:=0) Try.underlying58 Try.sizeOf5 rfl rfl (by decide))<|zA (zJu (k:=0) (o:=0) (g:=(eK .u8)) (d0:=0) (l:=G) (N:=2) (i:=(0:Int).toNat) (a:=(AV.lit (.int .u8 (G.getD (0:Int).toNat 0)))) Try.isAgg5 rfl rfl rfl (by decide) rfl rfl)<|zA (zFe (k := .u8) (a:=G.getD (0:Int).toNat 0) (b:=2) rfl rfl (by decide)) ?_
 refine zM h fun b3 h=>zA (zFU (k' := .i64) (a:=(G.getD (0:Int).toNat 0).tmod 2) Try.underlying5 Try.underlying3 rfl b3)<|zA (zB rfl)<|zQ h fun x4 w4 h=>zZ Try.func17 rfl (by kernel_rfl) (.fn 17) rfl rfl (zGY w4) rfl<|zA (zB rfl) ?_
 refine zA (zT rfl rfl)<|zA (zT rfl rfl)<|zA (zT rfl rfl)<|zX (H':=[.box 58 (cA 2 (eK .u8) 0 G),.box 29 (zF x3.1),.box 29 (zF ⟨[],0,0,[],[]⟩)]) zv3<|za (H':=[.box 58 (cA 2 (eK .u8) 0 G),.box 29 (zF x3.1),.box 29 (zF x4.1)]) (zS (k:=2) (o:=0) (cs:=(zF ⟨[],0,0,[],[]⟩)) (la:=(zF x4.1)) Try.sizeOf29 rfl rfl rfl rfl)<|zA (zD rfl) ?_
 refine zA (zD rfl)<|zG<|zI<|zI<|zC<|zA (zB rfl) ?_
 refine zA (z5 rfl rfl)<|zG ?_
 refine zY h rfl (fun b4 h => ?_) (fun b4 h => ?_)
 ·refine zI<|zC<|zA (zB rfl)<|zA (zBG rfl rfl)<|zA (zB rfl)<|zw rfl rfl (fun c4=>zv.step (zB rfl)) ?_
  refine zw rfl rfl (fun c5=>zv.step (zBK (t:=q1) (zAJ rfl c5)))<|zA (z8 (j := .lit undef) rfl rfl)<|zA (zD rfl)<|zG<|zb ?_
  cases h
  exact zz (zAh rfl rfl)
 refine zU<|zI<|zC<|zA (zR (k:=1) (o:=0) (m:=5) Try.isAgg29 Try.sizeOf29 rfl rfl rfl rfl rfl)<|zA (zB rfl)<|zQ h fun x5 w5 h => ?_
 refine zZ Try.func19 rfl (by kernel_rfl) (.fn 19) rfl rfl (zJX w5) rfl<|zA (zD rfl)<|zG<|zI<|zQ h fun x6 w6 h=>zQ h fun x7 w7 h => ?_
 refine zQ h fun x8 w8 h=>zQ h fun x9 w9 h=>zM h fun b5 h => ?_
 refine zBY (n:=116) (m:=0) [.head 0 0,.head 0 0,.head 0 0,.head 0 0,.head 0 0,.head 0 0,.head 0 0,.head 0 0,.head 0 0,.head 0 0,.head 0 0,.head 0 0,.head 0 0,.head 0 0,.head 0 0,.head 0 0,.head 0 0,.head 0 0,.head 0 0,.head 0 0,.head 0 0,.head 0 0,.head 0 0,.head 0 0,.head 0 0,.head 0 0,.head 0 0] [] [(AV.lit (.bool q1)),(AV.lit (.bool q1)),(bif q1 then (AV.agg (zF x3.1)) else .lit undef),(bif q1 then (li x4.2.1) else .lit undef),(bif q1 then (AV.lit (.bool x6)) else .lit undef),(AV.lit (.bool (q1&&x6))),(AV.lit (.bool (q1&&x6))),(bif q1&&x6 then (AV.agg (zF x4.1)) else .lit undef),(bif q1&&x6 then (li x4.2.1) else .lit undef),(bif q1&&x6 then (AV.lit (.bool x7)) else .lit undef),(bif q1&&x6 then (AV.lit (.bool (!x7))) else .lit undef),(AV.lit (.bool ((q1&&x6)&&(!x7)))),(AV.lit (.bool ((q1&&x6)&&(!x7)))),(bif (q1&&x6)&&(!x7) then (li x5) else .lit undef),(bif (q1&&x6)&&(!x7) then (AV.lit (.bool (decide (0≤x5)))) else .lit undef),(AV.lit (.bool (((q1&&x6)&&(!x7))&&(decide (0≤x5))))),(AV.lit (.bool (((q1&&x6)&&(!x7))&&(decide (0≤x5))))),(bif ((q1&&x6)&&(!x7))&&(decide (0≤x5)) then (AV.agg (zF x4.1)) else .lit undef),(bif ((q1&&x6)&&(!x7))&&(decide (0≤x5)) then (li x5) else .lit undef),(bif ((q1&&x6)&&(!x7))&&(decide (0≤x5)) then (li x8) else .lit undef),(bif ((q1&&x6)&&(!x7))&&(decide (0≤x5)) then (AV.agg (zF x3.1)) else .lit undef),(bif ((q1&&x6)&&(!x7))&&(decide (0≤x5)) then (li x5) else .lit undef),(bif ((q1&&x6)&&(!x7))&&(decide (0≤x5)) then (li x9) else .lit undef),(bif ((q1&&x6)&&(!x7))&&(decide (0≤x5)) then (li (x9 - 1)) else .lit undef),(bif ((q1&&x6)&&(!x7))&&(decide (0≤x5)) then (AV.lit (.bool (decide (x8=(x9 - 1))))) else .lit undef),(AV.lit (.bool ((((q1&&x6)&&(!x7))&&(decide (0≤x5)))&&(decide (x8=(x9 - 1)))))),(AV.lit (.bool ((((q1&&x6)&&(!x7))&&(decide (0≤x5)))&&(decide (x8=(x9 - 1))))))] [[.box 58 (cA 2 (eK .u8) 0 G),.box 29 (zF x3.1),.box 29 (zF x4.1)]] (by kernel_rfl) (by kernel_rfl) ⟨D1 fun e s p=>zB (s 11 rfl),D1 fun e s p=>zB p.1,?_,?_,?_,D1 fun e s p=>z8 (s:=q1) (q:=x6) (j := .lit undef) p.1 p.2.1,D1 fun e s p=>zB p.1,?_,?_,?_,?_,D1 fun e s p=>z8 (s:=q1&&x6) (q := !x7) (j := .lit undef) p.1 p.2.1,D1 fun e s p=>zB p.1,?_,?_,D1 fun e s p=>z8 (s:=(q1&&x6)&&(!x7)) (q:=decide (0≤x5)) (j := .lit undef) p.1 p.2.1,D1 fun e s p=>zB p.1,?_,?_,?_,?_,?_,?_,?_,?_,D1 fun e s p=>z8 (s:=((q1&&x6)&&(!x7))&&(decide (0≤x5))) (q:=decide (x8=(x9 - 1))) (j := .lit undef) p.1 p.2.1,D1 fun e s p=>zD p.2.2.2.2.2.2.2.2.2.2.2.2.2.2.2.2.2.2.2.2.2.2.2.2.2.2.2.1,trivial⟩ ?_
 ·
  intro e3 s3 p3
  refine zw (g:=91) (s:=q1) rfl p3.1 (fun c23=>zv.step (zR (k:=1) (o:=0) (m:=5) (la:=(zF x3.1)) Try.isAgg29 Try.sizeOf29 (s3 7 rfl) rfl rfl rfl rfl)) ?_
  exact zG ⟨fun _=>rfl,rfl⟩
 ·
  intro e4 s4 p4
  refine zw (g:=91) (s:=q1) rfl p4.1 (fun c24=>zv.step (zB (av:=(li x4.2.1)) (s4 14 rfl))) ?_
  exact zG ⟨fun _=>rfl,rfl⟩
 ·
  intro e5 s5 p5
  refine zDe (g:=91) (s:=q1) (r':=(AV.lit (.bool x6))) rfl p5.2.2.2.1 (fun c25=>⟨14,_,_,[],[(AV.agg (zF x3.1)),li x4.2.1],[(AV.agg (zF x3.1)),li x4.2.1],(AV.lit (.bool x6)),[],Try.func14,rfl,by kernel_rfl,.fn 14,(zAV (zAJ p5.1 c25) (zAV (zAJ p5.2.1 c25) rfl)),⟨zA8.nr rfl,zA8.nr rfl,trivial⟩,zEd (zG9 c25 w6),.inl rfl,rfl⟩) ?_
  exact zG ⟨fun _=>rfl,rfl⟩
 ·
  intro e8 s8 p8
  refine zw (g:=96) (s:=q1&&x6) rfl p8.1 (fun c26=>zv.step (zR (k:=2) (o:=0) (m:=5) (la:=(zF x4.1)) Try.isAgg29 Try.sizeOf29 (s8 13 rfl) rfl rfl rfl rfl)) ?_
  exact zG ⟨fun _=>rfl,rfl⟩
 ·
  intro e9 s9 p9
  refine zw (g:=96) (s:=q1&&x6) rfl p9.1 (fun c27=>zv.step (zB (av:=(li x4.2.1)) (s9 14 rfl))) ?_
  exact zG ⟨fun _=>rfl,rfl⟩
 ·
  intro e10 s10 p10
  refine zDe (g:=96) (s:=q1&&x6) (r':=(AV.lit (.bool x7))) rfl p10.2.2.2.1 (fun c28=>⟨14,_,_,[],[(AV.agg (zF x4.1)),li x4.2.1],[(AV.agg (zF x4.1)),li x4.2.1],(AV.lit (.bool x7)),[],Try.func14,rfl,by kernel_rfl,.fn 14,(zAV (zAJ p10.1 c28) (zAV (zAJ p10.2.1 c28) rfl)),⟨zA8.nr rfl,zA8.nr rfl,trivial⟩,zEd (zG9 c28 w7),.inl rfl,rfl⟩) ?_
  exact zG ⟨fun _=>rfl,rfl⟩
 ·
  intro e11 s11 p11
  refine zw (g:=96) (s:=q1&&x6) rfl p11.2.1 (fun c29=>zv.step (zBK (t:=x7) (zAJ p11.1 c29))) ?_
  exact zG ⟨fun _=>rfl,rfl⟩
 ·
  intro e14 s14 p14
  refine zw (g:=102) (s:=(q1&&x6)&&(!x7)) rfl p14.1 (fun c30=>zv.step (zB (av:=(li x5)) (s14 16 rfl))) ?_
  exact zG ⟨fun _=>rfl,rfl⟩
 ·
  intro e15 s15 p15
  refine zw (g:=102) (s:=(q1&&x6)&&(!x7)) rfl p15.2.1 (fun c31=>zv.step (zBn (a:=x5) (b:=0) (zAJ p15.1 c31) rfl)) ?_
  exact zG ⟨fun _=>rfl,rfl⟩
 ·
  intro e18 s18 p18
  refine zw (g:=106) (s:=((q1&&x6)&&(!x7))&&(decide (0≤x5))) rfl p18.1 (fun c32=>zv.step (zR (k:=2) (o:=0) (m:=5) (la:=(zF x4.1)) Try.isAgg29 Try.sizeOf29 (s18 13 rfl) rfl rfl rfl rfl)) ?_
  exact zG ⟨fun _=>rfl,rfl⟩
 ·
  intro e19 s19 p19
  refine zw (g:=106) (s:=((q1&&x6)&&(!x7))&&(decide (0≤x5))) rfl p19.1 (fun c33=>zv.step (zB (av:=(li x5)) (s19 16 rfl))) ?_
  exact zG ⟨fun _=>rfl,rfl⟩
 ·
  intro e20 s20 p20
  refine zDe (g:=106) (s:=((q1&&x6)&&(!x7))&&(decide (0≤x5))) (r':=(li x8)) rfl p20.2.2.2.1 (fun c34=>⟨18,_,_,[],[(AV.agg (zF x4.1)),li x5],[(AV.agg (zF x4.1)),li x5],li x8,[],Try.func18,rfl,by kernel_rfl,.fn 18,(zAV (zAJ p20.1 c34) (zAV (zAJ p20.2.1 c34) rfl)),⟨zA8.nr rfl,zA8.nr rfl,trivial⟩,zFB (zG9 c34 w8),.inl rfl,rfl⟩) ?_
  exact zG ⟨fun _=>rfl,rfl⟩
 ·
  intro e21 s21 p21
  refine zw (g:=106) (s:=((q1&&x6)&&(!x7))&&(decide (0≤x5))) rfl p21.1 (fun c35=>zv.step (zR (k:=1) (o:=0) (m:=5) (la:=(zF x3.1)) Try.isAgg29 Try.sizeOf29 (s21 7 rfl) rfl rfl rfl rfl)) ?_
  exact zG ⟨fun _=>rfl,rfl⟩
 ·
  intro e22 s22 p22
  refine zw (g:=106) (s:=((q1&&x6)&&(!x7))&&(decide (0≤x5))) rfl p22.1 (fun c36=>zv.step (zB (av:=(li x5)) (s22 16 rfl))) ?_
  exact zG ⟨fun _=>rfl,rfl⟩
 ·
  intro e23 s23 p23
  refine zDe (g:=106) (s:=((q1&&x6)&&(!x7))&&(decide (0≤x5))) (r':=(li x9)) rfl p23.2.2.2.1 (fun c37=>⟨18,_,_,[],[(AV.agg (zF x3.1)),li x5],[(AV.agg (zF x3.1)),li x5],li x9,[],Try.func18,rfl,by kernel_rfl,.fn 18,(zAV (zAJ p23.1 c37) (zAV (zAJ p23.2.1 c37) rfl)),⟨zA8.nr rfl,zA8.nr rfl,trivial⟩,zFB (zG9 c37 w9),.inl rfl,rfl⟩) ?_
  exact zG ⟨fun _=>rfl,rfl⟩
 ·
  intro e24 s24 p24
  refine zw (g:=106) (s:=((q1&&x6)&&(!x7))&&(decide (0≤x5))) rfl p24.2.1 (fun c38=>zv.step (zC0 (a:=x9) (b:=1) (zAJ p24.1 c38) rfl (zJb b5 c38))) ?_
  exact zG ⟨fun _=>rfl,rfl⟩
 ·
  intro e25 s25 p25
  refine zw (g:=106) (s:=((q1&&x6)&&(!x7))&&(decide (0≤x5))) rfl p25.2.2.1 (fun c39=>zv.step (zBG (a:=x8) (b:=x9 - 1) (zAJ p25.1 c39) (zAJ p25.2.1 c39))) ?_
  exact zG ⟨fun _=>rfl,rfl⟩
 intro e28 s28 hq1
 refine zAx (zCR (l:=[(6,(AV.lit (.bool ((((q1&&x6)&&(!x7))&&(decide (0≤x5)))&&(decide (x8=(x9 - 1)))))))]) ⟨(hq1 26 (by decide) (by decide)),trivial⟩)<|zb ?_
 cases h
 exact zz (zAh rfl rfl)
end Go.Proofs.Ytplkliakhdkpcaa
