/-
  Rules, functions and laws for the last text, part d.
-/
import Derived.Test.YtplkliakhdkpcaaGc
set_option linter.unusedVariables false
set_option linter.unusedSimpArgs false
namespace Go.Proofs.Ytplkliakhdkpcaa
open Go Go.RowKit Go.Wk Go.Am Go.Proofs
set_option maxHeartbeats 4000000
theorem zLb {A:zW} {B:Int} {r:zW×Int×Int} (h:zHV A B=some r):PFn Try.prog 48 [(AV.agg (zO A)),li B] (AV.tup [(AV.agg (zO r.1)),li r.2.1,li r.2.2]):=by
 refine zq Try.func48 rfl Try.ntmps48 Try.results48 rfl ?_
 unfold zHV at h
 refine zI<|zC<|zX (H':=[.box 46 (zO A)]) (z8 (t:=46) rfl)<|zX (H':=[.box 46 (zO A),.box 46 (zO ⟨0,0,0,0,0,(List.replicate 5 ([]:List Int))⟩)]) zv0<|zA (zD rfl)<|zA (zD rfl) ?_
 refine zG<|zI<|zI<|zC<|zA (zR (k:=0) (o:=0) (m:=10) Try.isAgg46 Try.sizeOf46 rfl rfl rfl rfl rfl)<|zQ h fun x1 w1 h => ?_
 refine zb Try.func36 rfl (by kernel_rfl) (.fn 36) rfl rfl (zET w1) rfl<|zA (zD rfl)<|zG<|zI<|zC<|zA (zB rfl) ?_
 refine zA (z7 rfl rfl)<|zG ?_
 refine zY h rfl (fun b1 h => ?_) (fun b1 h => ?_)
 ·refine zI<|zC<|zA zv9<|zA (zB rfl)<|za (H':=[.box 46 (zO A),.box 46 (zO (⟨0,0,0,0,0,(List.replicate 5 ([]:List Int))⟩:zW))]) (zT (k:=1) (o:=0) (cs:=(zO ⟨0,0,0,0,0,(List.replicate 5 ([]:List Int))⟩)) (la:=(zO (⟨0,0,0,0,0,(List.replicate 5 ([]:List Int))⟩:zW))) Try.sizeOf46 rfl rfl rfl rfl)<|zA (zD rfl) ?_
  refine zA (zD rfl)<|zG<|zd ?_
  cases h
  exact zEb (zGO Try.isAgg46 Try.sizeOf46 rfl rfl rfl rfl) (zAl rfl rfl) (zAl rfl rfl) rfl
 refine zS<|zI<|zI<|zC<|zA (zB rfl)<|zA (zi rfl rfl) ?_
 refine zA (zB rfl)<|zZ rfl rfl (fun c1=>zv.step (zB rfl))<|zZ rfl rfl (fun c2=>zv.step (zCf (zAQ rfl c2) rfl))<|zA (zh rfl rfl)<|zG ?_
 refine zY h rfl (fun b2 h => ?_) (fun b2 h => ?_)
 ·refine zI<|zC<|zA zv9<|za (H':=[.box 46 (zO A),.box 46 (zO (⟨0,0,0,0,0,(List.replicate 5 ([]:List Int))⟩:zW))]) (zT (k:=1) (o:=0) (cs:=(zO ⟨0,0,0,0,0,(List.replicate 5 ([]:List Int))⟩)) (la:=(zO (⟨0,0,0,0,0,(List.replicate 5 ([]:List Int))⟩:zW))) Try.sizeOf46 rfl rfl rfl rfl)<|zA (zD rfl)<|zA (zD rfl) ?_
  refine zG<|zd ?_
  cases h
  exact zEb (zGO Try.isAgg46 Try.sizeOf46 rfl rfl rfl rfl) (zAl rfl rfl) (zAl rfl rfl) rfl
 refine zS<|zI<|zC<|zA (zB rfl)<|zA (zD rfl)<|zG ?_
 refine zAA (r:=r) (fun (i1:Int)=>mkE [(1,(li B)),(2,(AV.ptr 0 0)),(4,(AV.ptr 1 0)),(8,(li i1))]) (fun i1=>[.box 46 (zO A),.box 46 (zO ⟨0,0,0,0,0,(List.replicate 5 ([]:List Int))⟩)]) (fun i1=>zGK A B i1) ?_ ?_
 ·
  refine zV<|z6 (σ:=Int) (fun i3=>mkE [(1,(li B)),(2,(AV.ptr 0 0)),(4,(AV.ptr 1 0)),(8,(li i3))]) (fun i3=>[.box 46 (zO A),.box 46 (zO ⟨0,0,0,0,0,(List.replicate 5 ([]:List Int))⟩)]) (fun n1 i3=>zF8 A B n1 i3) B h (fun _=>rfl) (zAZ [0,1] rfl rfl (by kernel_rfl)) ?_
  clear h
  intro n1 i3 h
  replace h:zEO A B (zF8 A B n1) i3=some r:=h
  unfold zEO at h
  refine zI<|zI<|zC<|zA (zB rfl)<|zA (zIQ rfl rfl)<|zA (zB rfl) ?_
  refine z9 rfl rfl (fun c3=>zv.step (zB rfl))<|z9 rfl rfl (fun c4=>zv.step (zM Try.underlying46 rfl rfl Try.sizeOf44 rfl))<|zL h fun b17 h=>z9 rfl rfl (fun c5=>zv.step (zAP (m:=5) (s:=1) (i:=i3) (k:=0) (o:=5) Try.underlying44 Try.sizeOf22 (zAQ rfl c5) (zAQ rfl c5) (zKB b17 c5)))<|z9 rfl rfl (fun c6=>zv.step (zCx (k:=0) (o:=(5+i3.toNat*1)) (cs:=(zO A)) (hd:=([li A.node]++[li A.kind]++[li A.start]++[li A.count]++[li A.min]++[])) (tl:=([])) (g:=(eS cI)) (d0:=([]:List Int)) (l:=A.free) (N:=5) (i:=i3.toNat) (a:=(ls cI (A.free.getD i3.toNat ([]:List Int)))) Try.isAgg22 (zAQ rfl c6) rfl rfl (congrArg (fun q=>5+q) (Nat.mul_one _)) (zBt (zKB b17 c6)).2 rfl rfl))<|z9 rfl rfl (fun c7=>zv.step (ze Try.underlying22 (zAQ rfl c7))) ?_
  refine z9 rfl rfl (fun c8=>zv.step (zBe (zAQ rfl c8) rfl))<|zA (zAL (j := .lit undef) rfl rfl)<|zG ?_
  refine zY h rfl (fun b18 h => ?_) (fun b18 h => ?_)
  ·refine zS<|zV<|zC<|zA (zB rfl)<|zL h fun b19 h=>zA (zg rfl rfl b19) ?_
   refine zA (zD rfl)<|zG ?_
   exact ⟨(i3+1),zAZ [0,1] rfl rfl (by kernel_rfl),h⟩
  refine zAC ?_
  exact ⟨i3,zAZ [0,1] rfl rfl (by kernel_rfl),h⟩
 clear h
 intro i1 h
 unfold zGK at h
 refine zI<|zI<|zC<|zA (zB rfl)<|zA (zCf rfl rfl)<|zG ?_
 refine zY h rfl (fun b3 h => ?_) (fun b3 h => ?_)
 ·refine zI<|zC<|zA zv9<|za (H':=[.box 46 (zO A),.box 46 (zO (⟨0,0,0,0,0,(List.replicate 5 ([]:List Int))⟩:zW))]) (zT (k:=1) (o:=0) (cs:=(zO ⟨0,0,0,0,0,(List.replicate 5 ([]:List Int))⟩)) (la:=(zO (⟨0,0,0,0,0,(List.replicate 5 ([]:List Int))⟩:zW))) Try.sizeOf46 rfl rfl rfl rfl)<|zA (zD rfl)<|zA (zD rfl) ?_
  refine zG<|zd ?_
  cases h
  exact zEb (zGO Try.isAgg46 Try.sizeOf46 rfl rfl rfl rfl) (zAl rfl rfl) (zAl rfl rfl) rfl
 refine zS<|zI<|zC<|zA (zR (k:=0) (o:=0) (m:=10) Try.isAgg46 Try.sizeOf46 rfl rfl rfl rfl rfl)<|zQ h fun x2 w2 h=>zH3 (cs:=([li x2.node,li x2.kind,li x2.start,li x2.count,li x2.min]++((cM 5 3 (5:Int) x2.free)++[]))) (la:=[(AV.agg (zO A))]) (la':=[(AV.agg (zO A))]) (S:=[]) Try.func82 rfl (by kernel_rfl) (.fn 82) rfl ⟨zBI.nr rfl,trivial⟩ (zJO w2) (.inl rfl) ?_
 refine zX (H':=[.box 46 (zO A),.box 46 (zO ⟨0,0,0,0,0,(List.replicate 5 ([]:List Int))⟩),.val (.agg ([li x2.node,li x2.kind,li x2.start,li x2.count,li x2.min]++((cM 5 3 (5:Int) x2.free)++[]))),.box 46 (zO ⟨0,0,0,0,0,(List.replicate 5 ([]:List Int))⟩)]) zv0<|za (H':=[.box 46 (zO A),.box 46 (zO ⟨0,0,0,0,0,(List.replicate 5 ([]:List Int))⟩),.dead,.box 46 ([li x2.node,li x2.kind,li x2.start,li x2.count,li x2.min]++((cM 5 3 (5:Int) x2.free)++[]))]) (zEN (k:=3) (o:=0) (j:=2) (cs:=(zO ⟨0,0,0,0,0,(List.replicate 5 ([]:List Int))⟩)) (la:=([li x2.node,li x2.kind,li x2.start,li x2.count,li x2.min]++((cM 5 3 (5:Int) x2.free)++[]))) Try.sizeOf46 rfl rfl rfl rfl rfl (by decide))<|zG<|zI<|zC<|zA (zB rfl) ?_
 refine zA (zM Try.underlying46 rfl rfl Try.sizeOf44 rfl)<|zL h fun b4 h=>zA (zAP (m:=5) (s:=1) (i:=i1) (k:=3) (o:=5) Try.underlying44 Try.sizeOf22 rfl rfl b4)<|zL h fun b5 h=>zAJ (zIr (k:=3) (cs:=([li x2.node,li x2.kind,li x2.start,li x2.count,li x2.min]++((cM 5 3 (5:Int) x2.free)++[]))) (hd:=([li x2.node]++[li x2.kind]++[li x2.start]++[li x2.count]++[li x2.min]++[])) (tl:=([])) (N:=5) (T:=3) (K:=5) (l:=x2.free) (i:=i1) rfl rfl b4 b5)<|zA (zDc (k:=3) (o:=(5+i1.toNat*1)) (cs:=([li x2.node,li x2.kind,li x2.start,li x2.count,li x2.min]++((List.set (cM 5 3 (5:Int) x2.free) i1.toNat (AV.hd 4))++[]))) (hd:=([li x2.node]++[li x2.kind]++[li x2.start]++[li x2.count]++[li x2.min]++[])) (tl:=([])) (s:=(cM 5 3 (5:Int) x2.free)) (i:=i1) (j:=4) Try.isAgg22 rfl rfl rfl (congrArg (fun q=>5+q) (Nat.mul_one _)) (zGi b4)) ?_
 refine zL h fun b6 h=>zA (zAR (f:=cI) (l:=x2.free.getD i1.toNat []) (i:=0) Try.underlying22 Try.sizeOf3 rfl rfl rfl b6)<|zA (zDX (f:=cI) (l:=x2.free.getD i1.toNat []) (i:=0) (c:=0) (a:=(li (at_ (x2.free.getD i1.toNat []) (0:Int)))) Try.isAgg3 rfl rfl (by first | rfl | omega) b6 rfl rfl)<|zA (zD rfl)<|zG<|zI ?_
 refine zC<|zA (zB rfl)<|zA (zB rfl)<|zA (zM Try.underlying46 rfl rfl Try.sizeOf44 rfl)<|zA (zAP (m:=5) (s:=1) (i:=i1) (k:=3) (o:=5) Try.underlying44 Try.sizeOf22 rfl rfl b4)<|zA (zDc (k:=3) (o:=(5+i1.toNat*1)) (cs:=([li x2.node,li x2.kind,li x2.start,li x2.count,li x2.min]++((List.set (cM 5 3 (5:Int) x2.free) i1.toNat (AV.hd 4))++[]))) (hd:=([li x2.node]++[li x2.kind]++[li x2.start]++[li x2.count]++[li x2.min]++[])) (tl:=([])) (s:=(cM 5 3 (5:Int) x2.free)) (i:=i1) (j:=4) Try.isAgg22 rfl rfl rfl (congrArg (fun q=>5+q) (Nat.mul_one _)) (zGi b4)) ?_
 refine zAJ (zFP (j:=4) (ds:=[48,55]) (rows':=List.map cI (x2.free.getD i1.toNat [])) rfl (zAb (fun _=>rfl)) ⟨rfl,rfl,trivial⟩)<|zL h fun b7 h=>zA (zKf (lo:=1) (f:=cI) (l:=x2.free.getD i1.toNat []) Try.underlying22 Try.sizeOf3 (fun _=>rfl) rfl rfl b7)<|zA (zM Try.underlying46 rfl rfl Try.sizeOf44 rfl)<|zA (zAP (m:=5) (s:=1) (i:=i1) (k:=3) (o:=5) Try.underlying44 Try.sizeOf22 rfl rfl b4)<|zL h fun b8 h => ?_
 refine za (H':=[.box 46 (zO A),.box 46 (zO ⟨0,0,0,0,0,(List.replicate 5 ([]:List Int))⟩),.dead,.box 46 ([li x2.node,li x2.kind,li x2.start,li x2.count,li x2.min]++((List.set (cM 5 3 (5:Int) x2.free) i1.toNat (ls cI (zFX (x2.free.getD i1.toNat []) 1 ((x2.free.getD i1.toNat []).length:Int))))++[])),.dead]) (zGj (k:=3) (o:=(5+i1.toNat*1)) (cs:=([li x2.node,li x2.kind,li x2.start,li x2.count,li x2.min]++((List.set (cM 5 3 (5:Int) x2.free) i1.toNat (AV.hd 4))++[]))) (hd:=([li x2.node]++[li x2.kind]++[li x2.start]++[li x2.count]++[li x2.min]++[])) (tl:=([])) (s:=(cM 5 3 (5:Int) x2.free)) (i:=i1) (a:=(ls cI (zFX (x2.free.getD i1.toNat []) 1 ((x2.free.getD i1.toNat []).length:Int)))) Try.sizeOf22 rfl rfl rfl (congrArg (fun q=>5+q) (Nat.mul_one _)) (zGi b4) rfl rfl)<|zG ?_
 refine zAA (r:=r) (fun (l1:List (List Int))=>mkE [(4,(AV.ptr 0 0)),(9,(AV.ptr 1 0)),(10,(li (at_ (x2.free.getD i1.toNat []) (0:Int))))]) (fun l1=>[.box 46 (zO ⟨0,0,0,0,0,(List.replicate 5 ([]:List Int))⟩),.box 46 ([li x2.node,li x2.kind,li x2.start,li x2.count,li x2.min]++((cM 5 3 i1 l1)++[]))]) (fun l1=>zHc i1 x2 l1) ?_ ?_
 ·
  refine zV<|z6 (σ:=Int×(List (List Int))) (fun (i2,l2)=>mkE [(1,(li B)),(4,(AV.ptr 0 0)),(8,(li i2)),(9,(AV.ptr 1 0)),(10,(li (at_ (x2.free.getD i1.toNat []) (0:Int))))]) (fun (i2,l2)=>[.box 46 (zO ⟨0,0,0,0,0,(List.replicate 5 ([]:List Int))⟩),.box 46 ([li x2.node,li x2.kind,li x2.start,li x2.count,li x2.min]++((cM 5 3 i1 l2)++[]))]) (fun n0 (i2,l2)=>zFG B i1 x2 n0 i2 l2) (i1,(zDY 5 [] x2.free i1.toNat (zFX (x2.free.getD i1.toNat []) 1 ((x2.free.getD i1.toNat []).length:Int)))) h (fun _=>rfl) (Rep.trans (zTs (l':=zFX (x2.free.getD i1.toNat []) 1 ((x2.free.getD i1.toNat []).length:Int)) (k:=3) (cs:=([li x2.node,li x2.kind,li x2.start,li x2.count,li x2.min]++((List.set (cM 5 3 (5:Int) x2.free) i1.toNat (ls cI (zFX (x2.free.getD i1.toNat []) 1 ((x2.free.getD i1.toNat []).length:Int))))++[]))) (hd:=([li x2.node]++[li x2.kind]++[li x2.start]++[li x2.count]++[li x2.min]++[])) (tl:=([])) (N:=5) (T:=3) (K:=5) (l:=x2.free) (i:=i1) rfl rfl b4 b8) (zBg (n:=90) (m:=0) [1,3] (l:=[(1,(li B)),(4,(AV.ptr 0 0)),(8,(li i1)),(9,(AV.ptr 1 0)),(10,(li (at_ (x2.free.getD i1.toNat []) (0:Int))))]) ⟨⟨Sub.refl _,by kernel_rfl⟩,⟨Sub.refl _,by kernel_rfl⟩,⟨Sub.refl _,by kernel_rfl⟩,⟨Sub.refl _,by kernel_rfl⟩,⟨Sub.refl _,by kernel_rfl⟩,trivial⟩ rfl rfl ⟨⟨rfl,by kernel_rfl⟩,⟨rfl,zUS (hd:=([li x2.node]++[li x2.kind]++[li x2.start]++[li x2.count]++[li x2.min]++[])) (tl:=([])) (N:=5) (T:=3) (K:=i1) (l:=zDY 5 [] x2.free i1.toNat (zFX (x2.free.getD i1.toNat []) 1 ((x2.free.getD i1.toNat []).length:Int))) (by kernel_rfl) (by kernel_rfl) rfl⟩,trivial⟩)) ?_
  clear h
  rintro n0 ⟨i2,l2⟩ h
  replace h:zEJ B i1 x2 (zFG B i1 x2 n0) i2 l2=some r:=h
  unfold zEJ at h
  refine zI<|zI<|zC<|zA (zB rfl)<|zA (zB rfl)<|zA (zCf rfl rfl) ?_
  refine zG ?_
  refine zY h rfl (fun b9 h => ?_) (fun b9 h => ?_)
  ·refine zS<|zV<|zI<|zC<|zA (zB rfl)<|zL h fun b10 h => ?_
   refine zA (zDv rfl rfl b10)<|zA (zD rfl)<|zG<|zI<|zC<|zA (zB rfl) ?_
   refine zA (zB rfl)<|zL h fun b11 h=>zL h fun b12 h=>zA (zGW (a:=1) (b:=i2 - 1) rfl rfl b11 b12)<|zL h fun b13 h=>zA (zg rfl rfl b13) ?_
   refine zA (zD rfl)<|zG<|zI<|zC<|zA (zB rfl)<|zA (zM Try.underlying46 rfl rfl Try.sizeOf44 rfl) ?_
   refine zL h fun b14 h=>zA (zAP (m:=5) (s:=1) (i:=i2 - 1) (k:=1) (o:=5) Try.underlying44 Try.sizeOf22 rfl rfl b14)<|zL h fun b15 h=>zAJ (zIr (k:=1) (cs:=([li x2.node,li x2.kind,li x2.start,li x2.count,li x2.min]++((cM 5 3 i1 l2)++[]))) (hd:=([li x2.node]++[li x2.kind]++[li x2.start]++[li x2.count]++[li x2.min]++[])) (tl:=([])) (N:=5) (T:=3) (K:=i1) (l:=l2) (i:=i2 - 1) rfl rfl b14 b15)<|zA (zDc (k:=1) (o:=(5+(i2 - 1).toNat*1)) (cs:=([li x2.node,li x2.kind,li x2.start,li x2.count,li x2.min]++((List.set (cM 5 3 i1 l2) (i2 - 1).toNat (AV.hd 2))++[]))) (hd:=([li x2.node]++[li x2.kind]++[li x2.start]++[li x2.count]++[li x2.min]++[])) (tl:=([])) (s:=(cM 5 3 i1 l2)) (i:=i2 - 1) (j:=2) Try.isAgg22 rfl rfl rfl (congrArg (fun q=>5+q) (Nat.mul_one _)) (zGi b14))<|zA (zB rfl) ?_
   refine zQ h fun x3 w3 h=>zAx (r':=(AV.tup [li x3.1,(AV.lit (.bool x3.2))])) (la:=[AV.hd 2,(li ((at_ (x2.free.getD i1.toNat []) (0:Int))+((1:Int)*2 ^ (i2 - 1).toNat)))]) (la':=[(ls cI (l2.getD (i2 - 1).toNat [])),(li ((at_ (x2.free.getD i1.toNat []) (0:Int))+((1:Int)*2 ^ (i2 - 1).toNat)))]) (r:=(AV.tup [li x3.1,(AV.lit (.bool x3.2))])) (S:=[2]) Try.func63 rfl (by kernel_rfl) (.fn 63) rfl ⟨zGz (fun _=>rfl) rfl rfl,zBI.nr rfl,trivial⟩ (zAh w3) (.inr rfl) rfl<|zA (zB rfl)<|zA (zU rfl rfl)<|zA (zU rfl rfl)<|zA (zD rfl) ?_
   refine zA (zD rfl)<|zG<|zC<|zA (zB rfl)<|zA (zB rfl)<|zA (zM Try.underlying46 rfl rfl Try.sizeOf44 rfl) ?_
   refine zA (zAP (m:=5) (s:=1) (i:=i2 - 1) (k:=1) (o:=5) Try.underlying44 Try.sizeOf22 rfl rfl b14)<|zA (zDc (k:=1) (o:=(5+(i2 - 1).toNat*1)) (cs:=([li x2.node,li x2.kind,li x2.start,li x2.count,li x2.min]++((List.set (cM 5 3 i1 l2) (i2 - 1).toNat (AV.hd 2))++[]))) (hd:=([li x2.node]++[li x2.kind]++[li x2.start]++[li x2.count]++[li x2.min]++[])) (tl:=([])) (s:=(cM 5 3 i1 l2)) (i:=i2 - 1) (j:=2) Try.isAgg22 rfl rfl rfl (congrArg (fun q=>5+q) (Nat.mul_one _)) (zGi b14))<|zA (zB rfl)<|zA (zB rfl)<|zHF (a:=(li ((at_ (x2.free.getD i1.toNat []) (0:Int))+((1:Int)*2 ^ (i2 - 1).toNat)))) zHR Try.underlying22 rfl rfl rfl rfl<|zL h fun b16 h => ?_
   refine zM3 (k:=2) (j:=3) (l:=l2.getD (i2 - 1).toNat []) (i:=x3.1) (q:=(at_ (x2.free.getD i1.toNat []) (0:Int))+((1:Int)*2 ^ (i2 - 1).toNat)) (fun a b c d e=>zRL a b c d e) Try.func83 rfl (by kernel_rfl) rfl rfl rfl rfl rfl rfl b16<|zA (zM Try.underlying46 rfl rfl Try.sizeOf44 rfl)<|zA (zAP (m:=5) (s:=1) (i:=i2 - 1) (k:=1) (o:=5) Try.underlying44 Try.sizeOf22 rfl rfl b14)<|za (H':=[.box 46 (zO ⟨0,0,0,0,0,(List.replicate 5 ([]:List Int))⟩),.box 46 ([li x2.node,li x2.kind,li x2.start,li x2.count,li x2.min]++((List.set (cM 5 3 i1 l2) (i2 - 1).toNat (AV.hd 4))++[])),.dead,.vec 3 1 (List.map cI [(at_ (x2.free.getD i1.toNat []) (0:Int))+((1:Int)*2 ^ (i2 - 1).toNat)]),.vec 3 1 (List.map cI (zQ1 (l2.getD (i2 - 1).toNat []) x3.1 ((at_ (x2.free.getD i1.toNat []) (0:Int))+((1:Int)*2 ^ (i2 - 1).toNat))))]) (zGj (k:=1) (o:=(5+(i2 - 1).toNat*1)) (cs:=([li x2.node,li x2.kind,li x2.start,li x2.count,li x2.min]++((List.set (cM 5 3 i1 l2) (i2 - 1).toNat (AV.hd 2))++[]))) (hd:=([li x2.node]++[li x2.kind]++[li x2.start]++[li x2.count]++[li x2.min]++[])) (tl:=([])) (s:=(cM 5 3 i1 l2)) (i:=i2 - 1) (a:=(AV.hd 4)) Try.sizeOf22 rfl rfl rfl (congrArg (fun q=>5+q) (Nat.mul_one _)) (zGi b14) rfl rfl)<|zG ?_
   exact ⟨((i2 - 1),(zDY 5 [] l2 (i2 - 1).toNat (zQ1 (l2.getD (i2 - 1).toNat []) x3.1 ((at_ (x2.free.getD i1.toNat []) (0:Int))+((1:Int)*2 ^ (i2 - 1).toNat))))),Rep.trans (zIV (j:=4) (l':=zQ1 (l2.getD (i2 - 1).toNat []) x3.1 ((at_ (x2.free.getD i1.toNat []) (0:Int))+((1:Int)*2 ^ (i2 - 1).toNat))) (k:=1) (cs:=([li x2.node,li x2.kind,li x2.start,li x2.count,li x2.min]++((List.set (cM 5 3 i1 l2) (i2 - 1).toNat (AV.hd 4))++[]))) (hd:=([li x2.node]++[li x2.kind]++[li x2.start]++[li x2.count]++[li x2.min]++[])) (tl:=([])) (N:=5) (T:=3) (K:=i1) (l:=l2) (i:=i2 - 1) rfl rfl b14 b15 rfl rfl) (zBg (n:=90) (m:=0) [0,1] (l:=[(1,(li B)),(4,(AV.ptr 0 0)),(8,(li (i2 - 1))),(9,(AV.ptr 1 0)),(10,(li (at_ (x2.free.getD i1.toNat []) (0:Int))))]) ⟨⟨Sub.refl _,by kernel_rfl⟩,⟨Sub.refl _,by kernel_rfl⟩,⟨Sub.refl _,by kernel_rfl⟩,⟨Sub.refl _,by kernel_rfl⟩,⟨Sub.refl _,by kernel_rfl⟩,trivial⟩ rfl rfl ⟨⟨rfl,by kernel_rfl⟩,⟨rfl,zUS (hd:=([li x2.node]++[li x2.kind]++[li x2.start]++[li x2.count]++[li x2.min]++[])) (tl:=([])) (N:=5) (T:=3) (K:=i1) (l:=zDY 5 [] l2 (i2 - 1).toNat (zQ1 (l2.getD (i2 - 1).toNat []) x3.1 ((at_ (x2.free.getD i1.toNat []) (0:Int))+((1:Int)*2 ^ (i2 - 1).toNat)))) (by kernel_rfl) (by kernel_rfl) rfl⟩,trivial⟩),h⟩
  refine zAC ?_
  exact ⟨l2,zBg (n:=90) (m:=0) [0,1] (l:=[(4,(AV.ptr 0 0)),(9,(AV.ptr 1 0)),(10,(li (at_ (x2.free.getD i1.toNat []) (0:Int))))]) ⟨⟨Sub.refl _,by kernel_rfl⟩,⟨Sub.refl _,by kernel_rfl⟩,⟨Sub.refl _,by kernel_rfl⟩,trivial⟩ rfl rfl ⟨⟨rfl,by kernel_rfl⟩,⟨rfl,zUS (hd:=([li x2.node]++[li x2.kind]++[li x2.start]++[li x2.count]++[li x2.min]++[])) (tl:=([])) (N:=5) (T:=3) (K:=i1) (l:=l2) (by kernel_rfl) (by kernel_rfl) rfl⟩,trivial⟩,h⟩
 clear h
 intro l1 h
 unfold zHc at h
 refine zI<|zC<|zAJ (zKb (k:=1) (cs:=([li x2.node,li x2.kind,li x2.start,li x2.count,li x2.min]++((cM 5 3 i1 l1)++[]))) (hd:=([li x2.node]++[li x2.kind]++[li x2.start]++[li x2.count]++[li x2.min]++[])) (tl:=([])) (N:=5) (T:=3) (K:=i1) (l:=l1) rfl rfl)<|zA (zR (k:=1) (o:=0) (m:=10) Try.isAgg46 Try.sizeOf46 rfl rfl rfl rfl rfl)<|zA (zB rfl)<|za (H':=[.box 46 (zO (⟨x2.node,x2.kind,x2.start,x2.count,x2.min,l1⟩:zW)),.box 46 (zO ⟨x2.node,x2.kind,x2.start,x2.count,x2.min,l1⟩)]) (zT (k:=0) (o:=0) (cs:=(zO ⟨0,0,0,0,0,(List.replicate 5 ([]:List Int))⟩)) (la:=(zO (⟨x2.node,x2.kind,x2.start,x2.count,x2.min,l1⟩:zW))) Try.sizeOf46 rfl rfl rfl rfl) ?_
 refine zA (zD rfl)<|zA (zD rfl)<|zG<|zd ?_
 cases h
 exact zEb (zGO Try.isAgg46 Try.sizeOf46 rfl rfl rfl rfl) (zAl rfl rfl) (zAl rfl rfl) rfl
theorem zGx {J:zK} {R:Int} {r:Int} (h:zEo J R=some r):PFn Try.prog 79 [(AV.agg (zJ J)),li R] (li r):=by
 refine zq Try.func79 rfl Try.ntmps79 Try.results79 rfl ?_
 unfold zEo at h
 refine zI<|zC<|zX (H':=[.box 50 (zJ J)]) (z8 (t:=50) rfl)<|zA (zD rfl)<|zG<|zI ?_
 refine zI<|zC<|zA (zR (k:=0) (o:=0) (m:=1) Try.isAgg50 Try.sizeOf50 rfl rfl rfl rfl rfl)<|zA (zM Try.underlying50 rfl rfl Try.sizeOf48 rfl)<|zA (zN Try.isAgg48 rfl rfl rfl rfl)<|zA (ze Try.underlying48 rfl) ?_
 refine zQ h fun x1 w1 h=>zb Try.func37 rfl (by kernel_rfl) (.fn 37) rfl rfl (zK1 w1) rfl<|zA (zD rfl)<|zG<|zI<|zC ?_
 refine zA (zB rfl)<|zA (z7 rfl rfl)<|zG ?_
 refine zY h rfl (fun b1 h => ?_) (fun b1 h => ?_)
 ·refine zI<|zC<|zA (zB rfl)<|zA (zD rfl)<|zG<|zd ?_
  cases h
  exact zy (zAl rfl rfl)
 refine zS<|zI<|zI<|zC<|zA (zB rfl)<|zA (zi rfl rfl) ?_
 refine zA (zB rfl)<|zZ rfl rfl (fun c1=>zv.step (zB rfl))<|zZ rfl rfl (fun c2=>zv.step (zM Try.underlying50 rfl rfl Try.sizeOf48 rfl))<|zZ rfl rfl (fun c3=>zv.step (zN Try.isAgg48 (zAQ rfl c3) rfl rfl rfl))<|zZ rfl rfl (fun c4=>zv.step (ze Try.underlying48 (zAQ rfl c4)))<|zZ rfl rfl (fun c5=>zv.step (zBp (zAQ rfl c5) (zAQ rfl c5))) ?_
 refine zA (zh rfl rfl)<|zG ?_
 refine zY h rfl (fun b2 h => ?_) (fun b2 h => ?_)
 ·refine zI<|zC<|zA (zD rfl)<|zG<|zd ?_
  cases h
  exact zy (zAl rfl rfl)
 refine zS<|zI<|zC<|zA (zD rfl)<|zG<|zd ?_
 cases h
 exact zy (zAl rfl rfl)
theorem zEi {J:zK} {R:Int} {uN:List Int} {r:zK} (h:zBy J R uN=some r):PFn Try.prog 80 [(AV.agg (zJ J)),li R,ls cI uN] (AV.agg (zJ r)):=by
 refine zq Try.func80 rfl Try.ntmps80 Try.results80 rfl ?_
 unfold zBy at h
 refine zI<|zC<|zX (H':=[.box 50 (zJ J)]) (z8 (t:=50) rfl)<|zX (H':=[.box 50 (zJ J),.box 50 [(ls (cS cI) ([]:List (List Int)))]]) zv1<|zG<|zI ?_
 refine zC<|zA (zM Try.underlying50 rfl rfl Try.sizeOf48 rfl)<|zA (zN Try.isAgg48 rfl rfl rfl rfl)<|zA (ze Try.underlying48 rfl)<|zL h fun b1 h=>zGs (f:=(cS cI)) (a:=(J.lists.length:Int)) (c:=(J.lists.length:Int)) (d0:=([]:List Int)) zR9 ⟨zBC.nils,trivial⟩ rfl Try.underlying48 rfl rfl b1 ?_
 refine zA (zCm (pl:=[(0,1)]) (zs:=[.slice none 0 0]) (zc:=[.sl false []]) (res:=[AV.hd 2]) (fun _=>by kernel_rfl) rfl (⟨zBC.nils,trivial⟩) ⟨AV.hd 2,0,1,rfl,rfl,rfl,rfl,rfl,(by exact zLh.refl _)⟩)<|zX (H':=[.box 50 (zJ J),.box 50 [(ls (cS cI) ([]:List (List Int)))],.vec 22 1 (List.map (cS cI) (List.replicate (J.lists.length:Int).toNat ([]:List Int))),.box 50 [(ls (cS cI) ([]:List (List Int)))]]) zv1<|za (H':=[.box 50 (zJ J),.box 50 [(ls (cS cI) ([]:List (List Int)))],.vec 22 1 (List.map (cS cI) (List.replicate (J.lists.length:Int).toNat ([]:List Int))),.box 50 [AV.hd 2]]) (zT (k:=3) (o:=0) (cs:=[(ls (cS cI) ([]:List (List Int)))]) (la:=[AV.hd 2]) Try.sizeOf50 rfl rfl rfl rfl)<|zG ?_
 refine zAA (r:=r) (fun (l1:List (List Int))=>mkE [(6,(AV.ptr 0 0)),(7,(AV.ptr 1 0))]) (fun l1=>[.box 50 [(ls (cS cI) ([]:List (List Int)))],.box 50 [AV.osl 22 1 (List.map (cS cI) l1)]]) (fun l1=>zFz l1) ?_ ?_
 ·
  refine zI<|zC<|zA (zM Try.underlying50 rfl rfl Try.sizeOf48 rfl)<|zA (zN Try.isAgg48 rfl rfl rfl rfl)<|zA (ze Try.underlying48 rfl)<|zA (zB rfl) ?_
  refine zG<|zV<|z6 (σ:=Int×(List (List Int))) (fun (i1,l2)=>mkE [(1,(li R)),(2,(ls cI uN)),(3,(AV.ptr 0 0)),(6,(AV.ptr 1 0)),(7,(AV.ptr 2 0)),(17,(li (J.lists.length:Int))),(18,(li i1))]) (fun (i1,l2)=>[.box 50 (zJ J),.box 50 [(ls (cS cI) ([]:List (List Int)))],.box 50 [AV.osl 22 1 (List.map (cS cI) l2)]]) (fun n0 (i1,l2)=>zCh J R uN n0 i1 l2) (0,(List.replicate (J.lists.length:Int).toNat ([]:List Int))) h (fun _=>rfl) (Rep.trans (zAT (k:=3) (j:=2) (o:=0) rfl rfl rfl rfl) (zAZ [0,1,3] (l:=[(1,(li R)),(2,(ls cI uN)),(3,(AV.ptr 0 0)),(6,(AV.ptr 1 0)),(7,(AV.ptr 2 0)),(17,(li (J.lists.length:Int))),(18,(li 0))]) rfl rfl (by kernel_rfl))) ?_
  clear h
  rintro n0 ⟨i1,l2⟩ h
  replace h:zCi J R uN (zCh J R uN n0) i1 l2=some r:=h
  unfold zCi at h
  refine zI<|zC<|zA (zi rfl rfl)<|zG<|zI ?_
  refine zY h rfl (fun b2 h => ?_) (fun b2 h => ?_)
  ·refine zS<|zI<|zV<|zI<|zC<|zA (zB rfl) ?_
   refine zA (zD rfl)<|zG<|zI<|zC<|zA (zM Try.underlying50 rfl rfl Try.sizeOf48 rfl)<|zA (zN Try.isAgg48 rfl rfl rfl rfl) ?_
   refine zA (zB rfl)<|zL h fun b3 h=>zA (zm Try.underlying48 Try.sizeOf22 (fun _=>rfl) rfl rfl b3)<|zA (zo (o:=0) Try.isAgg22 rfl rfl)<|zA (zD rfl)<|zG ?_
   refine zAA (r:=r) (fun (d1:List Int)=>mkE [(1,(li R)),(2,(ls cI uN)),(3,(AV.ptr 0 0)),(6,(AV.ptr 1 0)),(7,(AV.ptr 2 0)),(8,(li i1)),(9,(ls cI d1)),(17,(li (J.lists.length:Int))),(18,(li i1))]) (fun d1=>[.box 50 (zJ J),.box 50 [(ls (cS cI) ([]:List (List Int)))],.box 50 [AV.osl 22 1 (List.map (cS cI) l2)]]) (fun d1=>zDd (zCh J R uN n0) i1 l2 d1) ?_ ?_
   ·
    refine zI<|zC<|zA (zB rfl)<|zA (zB rfl)<|zA (zBe rfl rfl)<|zG ?_
    refine zY h rfl (fun b7 h => ?_) (fun b7 h => ?_)
    ·refine zC<|zA (zB rfl)<|zA (zD rfl)<|zG ?_
     exact ⟨uN,zAZ [0,1,2] rfl rfl (by kernel_rfl),h⟩
    refine zS ?_
    exact ⟨at_ J.lists i1,zAZ [0,1,2] rfl rfl (by kernel_rfl),h⟩
   clear h
   intro d1 h
   unfold zDd at h
   refine zI<|zA5 (zBz (k:=2) (o:=0) (t':=22) (sz:=1) (rows:=List.map (cS cI) l2) rfl rfl)<|zL h fun b4 h=>zL h fun b5 h => ?_
   refine zBr (n:=46) (m:=0) [.head 0 1,.head 0 1,.head 0 1,.head 0 0,.head 0 0,.tail 0,.head 1 1,.tail 1] [5,7] [AV.ptr 2 0,AV.hd 3,li i1,ls cI d1,(li (d1.length:Int)),AV.hd 4,(AV.ptr 3 (i1.toNat*1)),.any] [[.box 50 (zJ J),.box 50 [(ls (cS cI) ([]:List (List Int)))],.box 50 [AV.hd 3],.vec 22 1 (List.map (cS cI) l2)],[.box 50 (zJ J),.box 50 [(ls (cS cI) ([]:List (List Int)))],.box 50 [AV.hd 3],.vec 22 1 (List.map (cS cI) l2),.vec 3 1 (List.map cI (List.replicate (d1.length:Int).toNat 0))],[.box 50 (zJ J),.box 50 [(ls (cS cI) ([]:List (List Int)))],.box 50 [AV.hd 3],.vopen 22 1 (List.map (cS cI) l2) i1.toNat [.hd 4],.vec 3 1 (List.map cI (List.replicate (d1.length:Int).toNat 0))]] (by kernel_rfl) (by kernel_rfl) ⟨⟨D1 fun e s p=>zM (k:=2) (o:=0) (off:=0) Try.underlying50 rfl rfl Try.sizeOf48 (s 7 rfl),D1 fun e s p=>zM (k:=2) (o:=0) (off:=0) Try.underlying50 rfl rfl Try.sizeOf48 (s 7 rfl)⟩,⟨D1 fun e s p=>zN (k:=2) (o:=0) Try.isAgg48 p.1 rfl rfl rfl,D1 fun e s p=>zN (k:=2) (o:=0) Try.isAgg48 p.1 rfl rfl rfl⟩,⟨D1 fun e s p=>zB (s 8 rfl),D1 fun e s p=>zB (s 8 rfl)⟩,D1 fun e s p=>zB (s 9 rfl),D1 fun e s p=>ze (f:=cI) (l:=d1) Try.underlying22 p.1,?_,D1 fun e s p=>zAR (f:=(cS cI)) (l:=l2) (i:=i1) Try.underlying48 Try.sizeOf22 p.2.2.2.1 rfl p.2.2.2.2.1 b5,?_,trivial⟩ ?_
   ·
    intro e9 s9 p9
    refine zGs (f:=cI) (a:=(d1.length:Int)) (c:=(d1.length:Int)) (d0:=0) zHR ⟨zBC.refl _,trivial⟩ rfl Try.underlying22 p9.2.1 p9.2.1 b4 ?_
    exact zG ⟨fun _=>rfl,rfl⟩
   ·
    intro e11 s11 p11
    refine za (H':=[.box 50 (zJ J),.box 50 [(ls (cS cI) ([]:List (List Int)))],.box 50 [AV.hd 3],.vopen 22 1 (List.map (cS cI) l2) i1.toNat [.hd 4],.vec 3 1 (List.map cI (List.replicate (d1.length:Int).toNat 0))]) (zLs (k:=3) (j:=4) (i:=i1.toNat) Try.sizeOf22 (by exact p11.1) rfl rfl (by rw [List.length_map]; exact (zBt b5).2) (by exact p11.2.2.2.2.2.2.2.1) rfl) ?_
    exact zG ⟨fun _=>rfl,rfl⟩
   intro e12 s12 hq1
   refine zA5 (zCy (l:=[(1,(li R)),(2,(ls cI uN)),(3,(AV.ptr 0 0)),(6,(AV.ptr 1 0)),(7,(AV.ptr 2 0)),(8,(li i1)),(9,(ls cI d1)),(17,(li (J.lists.length:Int))),(18,(li i1))]) ⟨s12 1 rfl,s12 2 rfl,s12 3 rfl,s12 6 rfl,s12 7 rfl,s12 8 rfl,s12 9 rfl,s12 17 rfl,s12 18 rfl,trivial⟩)<|zC<|zA (zM (k:=2) (o:=0) (off:=0) Try.underlying50 rfl rfl Try.sizeOf48 rfl)<|zA (zN (k:=2) (o:=0) (a:=(AV.hd 3)) Try.isAgg48 rfl rfl rfl rfl)<|zA (zB (av:=(li i1)) rfl)<|zA (zTy (row:=[]) (i:=i1) Try.underlying48 Try.sizeOf22 rfl rfl rfl (by rw [List.length_map]; exact b5)) ?_
   refine zA (zMi (k:=3) (i:=i1.toNat) (a := .hd 4) Try.isAgg22 rfl rfl rfl rfl)<|zA (zB rfl)<|zX (H':=[.box 50 (zJ J),.box 50 [(ls (cS cI) ([]:List (List Int)))],.box 50 [AV.hd 3],.vopen 22 1 (List.map (cS cI) l2) i1.toNat [.hd 4],.vec 3 1 (List.map cI (zC0 (List.replicate (d1.length:Int).toNat 0) d1))]) (zLH (f:=cI) (k:=4) (l:=List.replicate (d1.length:Int).toNat 0) (l2:=d1) Try.underlying22 Try.sizeOf3 (fun _=>rfl) rfl rfl rfl)<|zG<|zC<|zL h fun b6 h => ?_
   refine zA (zg rfl rfl b6)<|zA (zB rfl)<|zG ?_
   exact ⟨((i1+1),(l2.set i1.toNat (zC0 (List.replicate (d1.length:Int).toNat 0) d1))),Rep.trans (zRA (k:=3) (j:=4) (f:=cI) (l:=l2) (l':=zC0 (List.replicate (d1.length:Int).toNat 0) d1) (fun _=>rfl) rfl rfl rfl) (Rep.trans (zAT (k:=2) (j:=3) (o:=0) rfl rfl rfl rfl) (zAZ [0,1,2] (l:=[(1,(li R)),(2,(ls cI uN)),(3,(AV.ptr 0 0)),(6,(AV.ptr 1 0)),(7,(AV.ptr 2 0)),(17,(li (J.lists.length:Int))),(18,(li (i1+1)))]) rfl rfl (by kernel_rfl))),h⟩
  refine zAC ?_
  exact ⟨l2,zAZ [1,2] rfl rfl (by kernel_rfl),h⟩
 clear h
 intro l1 h
 unfold zFz at h
 refine zI<|zC<|zAJ (zB7 (k:=1) (o:=0) (rows':=List.map (cS cI) l1) rfl rfl (zAb (fun _=>rfl)))<|zA (zR (k:=1) (o:=0) (m:=1) Try.isAgg50 Try.sizeOf50 rfl rfl rfl rfl rfl)<|za (H':=[.box 50 (zJ (⟨l1⟩:zK)),.box 50 [(ls (cS cI) l1)]]) (zT (k:=0) (o:=0) (cs:=[(ls (cS cI) ([]:List (List Int)))]) (la:=(zJ (⟨l1⟩:zK))) Try.sizeOf50 rfl rfl rfl rfl)<|zG ?_
 refine zd ?_
 cases h
 exact zy (zGO Try.isAgg50 Try.sizeOf50 rfl rfl rfl rfl)
theorem zNQ {A:zK} {B:Int} {G:List Int} {r:zK×Int} (h:zFw A B G=some r):PFn Try.prog 77 [(AV.agg (zJ A)),li B,ls cI G] (AV.tup [(AV.agg (zJ r.1)),li r.2]):=by
 refine zq Try.func77 rfl Try.ntmps77 Try.results77 rfl ?_
 unfold zFw at h
 refine zI<|zC<|zX (H':=[.box 50 (zJ A)]) (z8 (t:=50) rfl)<|zX (H':=[.box 50 (zJ A),.box 50 [(ls (cS cI) ([]:List (List Int)))]]) zv1<|zA (zD rfl)<|zG ?_
 refine zI<|zI<|zC<|zA (zR (k:=0) (o:=0) (m:=1) Try.isAgg50 Try.sizeOf50 rfl rfl rfl rfl rfl)<|zA (zB rfl)<|zQ h fun x1 w1 h => ?_
 refine zb Try.func79 rfl (by kernel_rfl) (.fn 79) rfl rfl (zGx w1) rfl<|zA (zD rfl)<|zG<|zI<|zC<|zA (zB rfl) ?_
 refine zA (z7 rfl rfl)<|zG ?_
 refine zY h rfl (fun b1 h => ?_) (fun b1 h => ?_)
 ·refine zI<|zC<|zA zv2<|zA (zB rfl)<|za (H':=[.box 50 (zJ A),.box 50 (zJ (⟨([]:List (List Int))⟩:zK))]) (zT (k:=1) (o:=0) (cs:=[(ls (cS cI) ([]:List (List Int)))]) (la:=(zJ (⟨([]:List (List Int))⟩:zK))) Try.sizeOf50 rfl rfl rfl rfl)<|zA (zD rfl) ?_
  refine zG<|zd ?_
  cases h
  exact zCF (zGO Try.isAgg50 Try.sizeOf50 rfl rfl rfl rfl) (zAl rfl rfl) rfl
 refine zS<|zI<|zC<|zA (zR (k:=0) (o:=0) (m:=1) Try.isAgg50 Try.sizeOf50 rfl rfl rfl rfl rfl)<|zQ h fun x2 w2 h=>zNt (es:=mI Value.bool x2) (la:=[(AV.agg (zJ A))]) (la':=[(AV.agg (zJ A))]) (S:=[]) Try.func65 rfl (by kernel_rfl) (.fn 65) rfl ⟨zBI.nr rfl,trivial⟩ (zIA w2) ?_
 refine zA (zD rfl)<|zG ?_
 refine zAA (r:=r) (fun (_:Unit)=>mkE [(1,(li B)),(2,(ls cI G)),(3,(AV.ptr 0 0)),(6,(AV.ptr 1 0))]) (fun _=>[.box 50 (zJ A),.box 50 [(ls (cS cI) ([]:List (List Int)))]]) (fun _=>zE4 A B G) ?_ ?_
 ·
  refine zI<|zC<|zA (zB rfl)<|zA (ze Try.underlying22 rfl)<|zA (zB rfl)<|zG ?_
  refine zV<|z6 (σ:=Int×(List (Int×Bool))) (fun (i2,l3)=>mkE [(1,(li B)),(2,(ls cI G)),(3,(AV.ptr 0 0)),(6,(AV.ptr 1 0)),(9,(AV.hd 2)),(23,(ls cI G)),(24,(li (G.length:Int))),(25,(li i2))]) (fun (i2,l3)=>[.box 50 (zJ A),.box 50 [(ls (cS cI) ([]:List (List Int)))],.map (mI Value.bool l3)]) (fun n1 (i2,l3)=>zE9 A B G n1 i2 l3) (0,x2) h (fun _=>rfl) (zAZ [0,1,2] rfl rfl (by kernel_rfl)) ?_
  clear h
  rintro n1 ⟨i2,l3⟩ h
  replace h:zDD A B G (zE9 A B G n1) i2 l3=some r:=h
  unfold zDD at h
  refine zI<|zC<|zA (zi rfl rfl)<|zG<|zI ?_
  refine zY h rfl (fun b10 h => ?_) (fun b10 h => ?_)
  ·refine zS<|zI<|zV<|zI<|zC<|zL h fun b11 h => ?_
   refine zA (zm Try.underlying22 Try.sizeOf3 (fun _=>rfl) rfl rfl b11)<|zA (zo (o:=0) Try.isAgg3 rfl rfl)<|zA (zD rfl)<|zG<|zI<|zI ?_
   refine zC<|zA (zB rfl)<|zQ h fun x5 w5 h=>zb Try.func64 rfl (by kernel_rfl) (.fn 64) rfl rfl (zHN w5) rfl<|zA (zBf (t:=x5) rfl)<|zG ?_
   refine zY h rfl (fun b12 h => ?_) (fun b12 h => ?_)
   ·refine zI<|zC<|zA zv2<|za (H':=[.box 50 (zJ A),.box 50 (zJ (⟨([]:List (List Int))⟩:zK)),.map (mI Value.bool l3)]) (zT (k:=1) (o:=0) (cs:=[(ls (cS cI) ([]:List (List Int)))]) (la:=(zJ (⟨([]:List (List Int))⟩:zK))) Try.sizeOf50 rfl rfl rfl rfl)<|zA (zD rfl)<|zG ?_
    refine zd ?_
    cases h
    exact zCF (zGO Try.isAgg50 Try.sizeOf50 rfl rfl rfl rfl) (zAl rfl rfl) rfl
   refine zS<|zI<|zI<|zC<|zA (zB rfl)<|zA (zB rfl) ?_
   refine zA (zN5 (k:=2) (g:=Value.bool) (q:=at_ G i2) (l:=l3) (dflt:=false) (a:=(AV.lit (.bool (zMB false l3 (at_ G i2))))) Try.underlying83 Try.underlying3 Try.zeroValue4 rfl rfl rfl rfl)<|zG ?_
   refine zY h rfl (fun b13 h => ?_) (fun b13 h => ?_)
   ·refine zI<|zC<|zA zv2<|za (H':=[.box 50 (zJ A),.box 50 (zJ (⟨([]:List (List Int))⟩:zK)),.map (mI Value.bool l3)]) (zT (k:=1) (o:=0) (cs:=[(ls (cS cI) ([]:List (List Int)))]) (la:=(zJ (⟨([]:List (List Int))⟩:zK))) Try.sizeOf50 rfl rfl rfl rfl)<|zA (zD rfl)<|zG ?_
    refine zd ?_
    cases h
    exact zCF (zGO Try.isAgg50 Try.sizeOf50 rfl rfl rfl rfl) (zAl rfl rfl) rfl
   refine zS<|zC<|zA (zB rfl)<|zA (zB rfl)<|za (H':=[.box 50 (zJ A),.box 50 [(ls (cS cI) ([]:List (List Int)))],.map (mI Value.bool (zKa l3 (at_ G i2) true))]) (zOG (k:=2) (g:=Value.bool) (q:=at_ G i2) (l:=l3) (v:=true) Try.underlying83 Try.underlying3 rfl rfl rfl rfl)<|zG ?_
   refine zC<|zL h fun b14 h=>zA (zg rfl rfl b14)<|zA (zB rfl)<|zG ?_
   exact ⟨((i2+1),(zKa l3 (at_ G i2) true)),zAZ [0,1,2] rfl rfl (by kernel_rfl),h⟩
  refine zAC ?_
  exact ⟨(),zAZ [0,1] rfl rfl (by kernel_rfl),h⟩
 clear h
 intro _ h
 unfold zE4 at h
 refine zI<|zC<|zA (zM Try.underlying50 rfl rfl Try.sizeOf48 rfl)<|zA (zN Try.isAgg48 rfl rfl rfl rfl)<|zA (zB rfl)<|zL h fun b2 h => ?_
 refine zA (zm Try.underlying48 Try.sizeOf22 (fun _=>rfl) rfl rfl b2)<|zA (zo (o:=0) Try.isAgg22 rfl rfl)<|zA (ze Try.underlying22 rfl)<|zL h fun b3 h=>zGs (f:=cI) (a:=((at_ A.lists B).length:Int)) (c:=((at_ A.lists B).length:Int)) (d0:=0) zHR ⟨zBC.refl _,trivial⟩ rfl Try.underlying22 rfl rfl b3<|zA (zD rfl) ?_
 refine zG<|zI<|zC<|zA (zB rfl)<|zA (zM Try.underlying50 rfl rfl Try.sizeOf48 rfl)<|zA (zN Try.isAgg48 rfl rfl rfl rfl) ?_
 refine zA (zB rfl)<|zA (zm Try.underlying48 Try.sizeOf22 (fun _=>rfl) rfl rfl b2)<|zA (zo (o:=0) Try.isAgg22 rfl rfl)<|zX (H':=[.box 50 (zJ A),.box 50 [(ls (cS cI) ([]:List (List Int)))],.vec 3 1 (List.map cI (zC0 (List.replicate ((at_ A.lists B).length:Int).toNat 0) (at_ A.lists B)))]) (zLH (f:=cI) (k:=2) (l:=List.replicate ((at_ A.lists B).length:Int).toNat 0) (l2:=at_ A.lists B) Try.underlying22 Try.sizeOf3 (fun _=>rfl) rfl rfl rfl)<|zG ?_
 refine zAA (r:=r) (fun (l1:List Int)=>mkE [(1,(li B)),(3,(AV.ptr 0 0)),(6,(AV.ptr 1 0)),(12,(AV.hd 2))]) (fun l1=>[.box 50 (zJ A),.box 50 [(ls (cS cI) ([]:List (List Int)))],.vec 3 1 (List.map cI l1)]) (fun l1=>zFB A B l1) ?_ ?_
 ·
  refine zI<|zC<|zA (zB rfl)<|zA (ze Try.underlying22 rfl)<|zA (zB rfl)<|zG ?_
  refine zV<|z6 (σ:=Int×(List Int)) (fun (i1,l2)=>mkE [(1,(li B)),(2,(ls cI G)),(3,(AV.ptr 0 0)),(6,(AV.ptr 1 0)),(12,(AV.hd 2)),(55,(li (G.length:Int))),(56,(li i1))]) (fun (i1,l2)=>[.box 50 (zJ A),.box 50 [(ls (cS cI) ([]:List (List Int)))],.vec 3 1 (List.map cI l2)]) (fun n0 (i1,l2)=>zE7 A B G n0 i1 l2) (0,(zC0 (List.replicate ((at_ A.lists B).length:Int).toNat 0) (at_ A.lists B))) h (fun _=>rfl) (zAZ [0,1,2] rfl rfl (by kernel_rfl)) ?_
  clear h
  rintro n0 ⟨i1,l2⟩ h
  replace h:zC7 A B G (zE7 A B G n0) i1 l2=some r:=h
  unfold zC7 at h
  refine zI<|zC<|zA (zi rfl rfl)<|zG<|zI ?_
  refine zY h rfl (fun b4 h => ?_) (fun b4 h => ?_)
  ·refine zS<|zI<|zV<|zI<|zC<|zA (zB rfl) ?_
   refine zA (zD rfl)<|zG<|zC<|zA (zB rfl)<|zA (zB rfl)<|zA (zB rfl) ?_
   refine zA (ze Try.underlying22 rfl)<|zL h fun b5 h=>zA (zDv rfl rfl b5)<|zA (zB rfl)<|zL h fun b6 h=>zA (zDv rfl rfl b6) ?_
   refine zL h fun b7 h=>zA (zm Try.underlying22 Try.sizeOf3 (fun _=>rfl) rfl rfl b7)<|zA (zo (o:=0) Try.isAgg3 rfl rfl)<|zHF (a:=(li (at_ G (((G.length:Int) - 1) - i1)))) zHR Try.underlying22 rfl rfl rfl rfl<|zL h fun b8 h=>zEq (f:=cI) (k:=2) (j:=3) (l:=l2) (l':=[at_ G (((G.length:Int) - 1) - i1)]) zHR (fun _=>rfl) Try.underlying22 rfl rfl rfl rfl b8 ?_
   refine zA (zD rfl)<|zG<|zC<|zL h fun b9 h=>zA (zg rfl rfl b9)<|zA (zB rfl) ?_
   refine zG ?_
   exact ⟨((i1+1),(l2++[at_ G (((G.length:Int) - 1) - i1)])),zAZ [0,1,4] rfl rfl (by kernel_rfl),h⟩
  refine zAC ?_
  exact ⟨l2,zAZ [0,1,2] rfl rfl (by kernel_rfl),h⟩
 clear h
 intro l1 h
 unfold zFB at h
 refine zI<|zC<|zA (zR (k:=0) (o:=0) (m:=1) Try.isAgg50 Try.sizeOf50 rfl rfl rfl rfl rfl)<|zA (zB rfl)<|zA (zB rfl)<|zQ h fun x3 w3 h => ?_
 refine zAJ (zFP (j:=2) (ds:=[12,73]) (rows':=List.map cI l1) rfl (zAb (fun _=>rfl)) ⟨rfl,rfl,trivial⟩)<|zQ h fun x4 w4 h=>zb Try.func80 rfl (by kernel_rfl) (.fn 80) rfl rfl (zEi w4) rfl<|za (H':=[.box 50 (zJ A),.box 50 (zJ x4),.dead]) (zT (k:=1) (o:=0) (cs:=[(ls (cS cI) ([]:List (List Int)))]) (la:=(zJ x4)) Try.sizeOf50 rfl rfl rfl rfl)<|zA (zD rfl)<|zG ?_
 refine zd ?_
 cases h
 exact zCF (zGO Try.isAgg50 Try.sizeOf50 rfl rfl rfl rfl) (zAl rfl rfl) rfl
theorem zIa {A:zH} {B:Int} {G:Int} {r:zH×Bool} (h:zC5 A B G=some r):AFn Try.prog 43 [AV.ptr 0 0,li B,li G] [.box 29 ([ls cI A.nodes]++([li A.batch]++([li A.high]++([AV.osl 46 10 (List.map zO A.zones)]++([AV.osl 50 1 (List.map zJ A.caches)]++[])))))] (AV.lit (.bool r.2)) [.box 29 ([ls cI r.1.nodes]++([li r.1.batch]++([li r.1.high]++([AV.osl 46 10 (List.map zO r.1.zones)]++([AV.osl 50 1 (List.map zJ r.1.caches)]++[])))))]:=by
 refine zGe Try.func43 rfl Try.ntmps43 Try.results43 rfl ?_
 unfold zC5 at h
 refine zI<|zC<|zA (zD rfl)<|zG<|zI<|zC ?_
 refine zA (zD rfl)<|zG ?_
 refine zAA (r:=r) (fun ((l1,l2):(List zW)×(List Int))=>mkE [(0,(AV.ptr 0 0)),(1,(li B)),(2,(li G)),(7,(AV.hd 1))]) (fun (l1,l2)=>[.box 29 [ls cI A.nodes,li A.batch,li A.high,AV.osl 46 10 (List.map zO l1),AV.osl 50 1 (List.map zJ A.caches)],.vec 3 1 (List.map cI l2)]) (fun (l1,l2)=>zB3 A B G l1 l2) ?_ ?_
 ·
  refine zI<|zC<|zA (zB rfl)<|zA (zAd rfl)<|zA (zM Try.underlying29 rfl rfl Try.sizeOf3 rfl)<|zA (zN Try.isAgg3 rfl rfl rfl rfl) ?_
  refine zA (zB rfl)<|zG<|zV<|z6 (σ:=Int×(List zW)×(List Int)) (fun (i1,l4,l5)=>mkE [(0,(AV.ptr 0 0)),(1,(li B)),(2,(li G)),(7,(AV.hd 1)),(16,(li A.batch)),(17,(li i1))]) (fun (i1,l4,l5)=>[.box 29 [ls cI A.nodes,li A.batch,li A.high,AV.osl 46 10 (List.map zO l4),AV.osl 50 1 (List.map zJ A.caches)],.vec 3 1 (List.map cI l5)]) (fun n0 (i1,l4,l5)=>zDh A B G n0 i1 l4 l5) (0,A.zones,[]) h (fun _=>rfl) (Rep.trans (zPo (d:=7) (el:=3) (sz:=1) rfl) (zAZ [0,1] (l:=[(0,(AV.ptr 0 0)),(1,(li B)),(2,(li G)),(7,(AV.hd 1)),(16,(li A.batch)),(17,(li 0))]) rfl rfl (by kernel_rfl))) ?_
  clear h
  rintro n0 ⟨i1,l4,l5⟩ h
  replace h:zB2 A B G (zDh A B G n0) i1 l4 l5=some r:=h
  unfold zB2 at h
  refine zI<|zC<|zA (zi rfl rfl)<|zG<|zI ?_
  refine zY h rfl (fun b3 h => ?_) (fun b3 h => ?_)
  ·refine zS<|zI<|zV<|zI<|zC<|zA (zB rfl) ?_
   refine zA (zAd rfl)<|zA (zM Try.underlying29 rfl rfl Try.sizeOf26 rfl)<|zAJ (zBz (k:=0) (o:=3) (t':=46) (sz:=10) (rows:=List.map zO l4) rfl rfl)<|zA (zN Try.isAgg26 rfl rfl rfl rfl)<|zA (zB rfl)<|zL h fun b4 h => ?_
   refine zA (zAR (f:=zO) (l:=l4) (i:=G) Try.underlying26 Try.sizeOf46 rfl rfl rfl b4)<|zA (zDW (f:=zO) (l:=l4) (i:=G) (c:=0) (q:=10) (la:=(zO (at_ l4 G))) Try.isAgg46 Try.sizeOf46 rfl rfl (by first | rfl | omega) b4 rfl rfl rfl)<|zQ h fun x3 w3 h=>zb Try.func48 rfl (by kernel_rfl) (.fn 48) rfl rfl (zLb w3) rfl<|zA (zB rfl)<|zA (zU rfl rfl) ?_
   refine zA (zU rfl rfl)<|zA (zU rfl rfl)<|zX (H':=[.box 29 [ls cI A.nodes,li A.batch,li A.high,AV.hd 2,AV.osl 50 1 (List.map zJ A.caches)],.vec 3 1 (List.map cI l5),.vec 46 10 (List.map zO l4),.box 46 (zO ⟨0,0,0,0,0,(List.replicate 5 ([]:List Int))⟩)]) zv0<|za (H':=[.box 29 [ls cI A.nodes,li A.batch,li A.high,AV.hd 2,AV.osl 50 1 (List.map zJ A.caches)],.vec 3 1 (List.map cI l5),.vec 46 10 (List.map zO l4),.box 46 (zO x3.1)]) (zT (k:=3) (o:=0) (cs:=(zO ⟨0,0,0,0,0,(List.replicate 5 ([]:List Int))⟩)) (la:=(zO x3.1)) Try.sizeOf46 rfl rfl rfl rfl)<|zA (zD rfl)<|zA (zD rfl) ?_
   refine zG<|zI<|zI<|zC<|zA (zB rfl)<|zA (z7 rfl rfl) ?_
   refine zG ?_
   refine zY h rfl (fun b5 h => ?_) (fun b5 h => ?_)
   ·refine zAC ?_
    exact ⟨(l4,l5),Rep.trans (zAT (k:=0) (j:=2) (o:=3) rfl rfl rfl rfl) (zAZ [0,1] (l:=[(0,(AV.ptr 0 0)),(1,(li B)),(2,(li G)),(7,(AV.hd 1))]) rfl rfl (by kernel_rfl)),h⟩
   refine zS<|zI ?_
   refine zBr (n:=70) (m:=1) [.head 0 0,.head 0 0,.head 0 0,.head 0 0,.head 0 0,.head 0 0,.head 0 0,.tail 0] [7] [AV.ptr 0 0,AV.ptr 0 0,AV.ptr 0 3,AV.hd 2,li G,(AV.agg (zO x3.1)),(AV.ptr 2 (G.toNat*10)),.any] [[.box 29 [ls cI A.nodes,li A.batch,li A.high,AV.hd 2,AV.osl 50 1 (List.map zJ A.caches)],.vec 3 1 (List.map cI l5),.vec 46 10 (List.map zO l4),.box 46 (zO x3.1)],[.box 29 [ls cI A.nodes,li A.batch,li A.high,AV.hd 2,AV.osl 50 1 (List.map zJ A.caches)],.vec 3 1 (List.map cI l5),.vec 46 10 (List.map zO (l4.set G.toNat x3.1)),.box 46 (zO x3.1)]] (by kernel_rfl) (by kernel_rfl) ⟨D1 fun e s p=>zB (s 0 rfl),D1 fun e s p=>zAd p.1,D1 fun e s p=>zM (k:=0) (o:=0) (off:=3) Try.underlying29 rfl rfl Try.sizeOf26 p.1,D1 fun e s p=>zN (k:=0) (o:=3) Try.isAgg26 p.1 rfl rfl rfl,D1 fun e s p=>zB (s 2 rfl),D1 fun e s p=>zR (k:=3) (o:=0) (m:=10) Try.isAgg46 Try.sizeOf46 (s 8 rfl) rfl rfl rfl rfl,D1 fun e s p=>zAR (f:=zO) (l:=l4) (i:=G) Try.underlying26 Try.sizeOf46 p.2.2.2.2.2.1 rfl p.2.2.2.2.2.2.1 b4,?_,trivial⟩ ?_
   ·
    intro e17 s17 p16
    refine za (H':=[.box 29 [ls cI A.nodes,li A.batch,li A.high,AV.hd 2,AV.osl 50 1 (List.map zJ A.caches)],.vec 3 1 (List.map cI l5),.vec 46 10 (List.map zO (l4.set G.toNat x3.1)),.box 46 (zO x3.1)]) (zDS (k:=2) (o:=(G.toNat*10)) (f:=zO) (l:=l4) (i:=G) (z:=x3.1) Try.sizeOf46 (fun _=>rfl) (by exact p16.1) rfl (by first | rfl | omega) b4 (by exact p16.2.2.2.2.2.2.2.1) rfl) ?_
    exact zG ⟨fun _=>rfl,rfl⟩
   intro e18 s18 hq2
   refine zA5 (zCy (l:=[(0,(AV.ptr 0 0)),(1,(li B)),(2,(li G)),(7,(AV.hd 1)),(9,(li x3.2.1)),(16,(li A.batch)),(17,(li i1))]) ⟨s18 0 rfl,s18 1 rfl,s18 2 rfl,s18 7 rfl,s18 9 rfl,s18 16 rfl,s18 17 rfl,trivial⟩)<|zC<|zA (zB (av:=(AV.hd 1)) rfl)<|zA (zB (av:=(li x3.2.1)) rfl)<|zHF (a:=(li x3.2.1)) zHR Try.underlying22 rfl rfl rfl rfl<|zL h fun b6 h => ?_
   refine zEq (f:=cI) (k:=1) (j:=4) (l:=l5) (l':=[x3.2.1]) zHR (fun _=>rfl) Try.underlying22 rfl rfl rfl rfl b6<|zA (zD rfl)<|zG<|zC<|zL h fun b7 h=>zA (zg rfl rfl b7) ?_
   refine zA (zB rfl)<|zG ?_
   exact ⟨((i1+1),l4.set G.toNat x3.1,(l5++[x3.2.1])),Rep.trans (zAT (k:=0) (j:=2) (o:=3) rfl rfl rfl rfl) (zAZ [0,5] (l:=[(0,(AV.ptr 0 0)),(1,(li B)),(2,(li G)),(7,(AV.hd 1)),(16,(li A.batch)),(17,(li (i1+1)))]) rfl rfl (by kernel_rfl)),h⟩
  refine zAC ?_
  exact ⟨(l4,l5),zAZ [0,1] rfl rfl (by kernel_rfl),h⟩
 clear h
 rintro ⟨l1,l2⟩ h
 unfold zB3 at h
 refine zAA (r:=r) (fun (l3:List zK)=>mkE [(7,(ls cI l2))]) (fun l3=>[.box 29 [ls cI A.nodes,li A.batch,li A.high,AV.osl 46 10 (List.map zO l1),AV.osl 50 1 (List.map zJ l3)]]) (fun l3=>zDm A l1 l2 l3) ?_ ?_
 ·
  refine zI<|zC<|zA (zB rfl)<|zA (zAd rfl)<|zA (zM Try.underlying29 rfl rfl Try.sizeOf27 rfl)<|zAJ (zBz (k:=0) (o:=4) (t':=50) (sz:=1) (rows:=List.map zJ A.caches) rfl rfl) ?_
  refine zA (zN Try.isAgg27 rfl rfl rfl rfl)<|zA (zB rfl)<|zL h fun b1 h=>zA (zAR (f:=zJ) (l:=A.caches) (i:=B) Try.underlying27 Try.sizeOf50 rfl rfl rfl b1)<|zA (zDW (f:=zJ) (l:=A.caches) (i:=B) (c:=0) (q:=1) (la:=(zJ (at_ A.caches B))) Try.isAgg50 Try.sizeOf50 rfl rfl (by first | rfl | omega) b1 rfl rfl rfl)<|zA (zB rfl) ?_
  refine zA (zB rfl)<|zQ h fun x1 w1 h=>zAJ (zFP (j:=1) (ds:=[7,54]) (rows':=List.map cI l2) rfl (zAb (fun _=>rfl)) ⟨rfl,rfl,trivial⟩)<|zQ h fun x2 w2 h=>zb Try.func77 rfl (by kernel_rfl) (.fn 77) rfl rfl (zNQ w2) rfl<|zA (zB rfl) ?_
  refine zA (zU rfl rfl)<|zA (zU rfl rfl)<|zX (H':=[.box 29 [ls cI A.nodes,li A.batch,li A.high,AV.osl 46 10 (List.map zO l1),AV.hd 2],.dead,.vec 50 1 (List.map zJ A.caches),.box 50 [(ls (cS cI) ([]:List (List Int)))]]) zv1<|za (H':=[.box 29 [ls cI A.nodes,li A.batch,li A.high,AV.osl 46 10 (List.map zO l1),AV.hd 2],.dead,.vec 50 1 (List.map zJ A.caches),.box 50 (zJ x2.1)]) (zT (k:=3) (o:=0) (cs:=[(ls (cS cI) ([]:List (List Int)))]) (la:=(zJ x2.1)) Try.sizeOf50 rfl rfl rfl rfl)<|zA (zD rfl)<|zG ?_
  refine zI<|zC<|zA (zB rfl)<|zA (zBe rfl rfl)<|zG ?_
  refine zY h rfl (fun b2 h => ?_) (fun b2 h => ?_)
  ·refine zBr (n:=70) (m:=1) [.head 0 0,.head 0 0,.head 0 0,.head 0 0,.head 0 0,.head 0 0,.head 0 0,.tail 0] [7] [AV.ptr 0 0,AV.ptr 0 0,AV.ptr 0 4,AV.hd 2,li B,(AV.agg (zJ x2.1)),(AV.ptr 2 (B.toNat*1)),.any] [[.box 29 [ls cI A.nodes,li A.batch,li A.high,AV.osl 46 10 (List.map zO l1),AV.hd 2],.dead,.vec 50 1 (List.map zJ A.caches),.box 50 (zJ x2.1)],[.box 29 [ls cI A.nodes,li A.batch,li A.high,AV.osl 46 10 (List.map zO l1),AV.hd 2],.dead,.vec 50 1 (List.map zJ (A.caches.set B.toNat x2.1)),.box 50 (zJ x2.1)]] (by kernel_rfl) (by kernel_rfl) ⟨D1 fun e s p=>zB (s 0 rfl),D1 fun e s p=>zAd p.1,D1 fun e s p=>zM (k:=0) (o:=0) (off:=4) Try.underlying29 rfl rfl Try.sizeOf27 p.1,D1 fun e s p=>zN (k:=0) (o:=4) Try.isAgg27 p.1 rfl rfl rfl,D1 fun e s p=>zB (s 1 rfl),D1 fun e s p=>zR (k:=3) (o:=0) (m:=1) Try.isAgg50 Try.sizeOf50 (s 11 rfl) rfl rfl rfl rfl,D1 fun e s p=>zAR (f:=zJ) (l:=A.caches) (i:=B) Try.underlying27 Try.sizeOf50 p.2.2.2.2.2.1 rfl p.2.2.2.2.2.2.1 b1,?_,trivial⟩ ?_
   ·
    intro e8 s8 p8
    refine za (H':=[.box 29 [ls cI A.nodes,li A.batch,li A.high,AV.osl 46 10 (List.map zO l1),AV.hd 2],.dead,.vec 50 1 (List.map zJ (A.caches.set B.toNat x2.1)),.box 50 (zJ x2.1)]) (zDS (k:=2) (o:=(B.toNat*1)) (f:=zJ) (l:=A.caches) (i:=B) (z:=x2.1) Try.sizeOf50 (fun _=>rfl) (by exact p8.1) rfl (by first | rfl | omega) b1 (by exact p8.2.2.2.2.2.2.2.1) rfl) ?_
    exact zG ⟨fun _=>rfl,rfl⟩
   intro e9 s9 hq1
   exact ⟨A.caches.set B.toNat x2.1,Rep.trans (zCy (l:=[(7,(ls cI l2))]) ⟨s9 7 rfl,trivial⟩) (Rep.trans (zAT (k:=0) (j:=2) (o:=4) (cs:=[ls cI A.nodes,li A.batch,li A.high,AV.osl 46 10 (List.map zO l1),AV.hd 2]) rfl rfl rfl rfl) (zAZ [0] (l:=[(7,(ls cI l2))]) rfl rfl (by kernel_rfl))),h⟩
  refine zS ?_
  exact ⟨A.caches,Rep.trans (zAT (k:=0) (j:=2) (o:=4) rfl rfl rfl rfl) (zAZ [0] (l:=[(7,(ls cI l2))]) rfl rfl (by kernel_rfl)),h⟩
 clear h
 intro l3 h
 unfold zDm at h
 refine zI<|zC<|zA (zB rfl)<|zA (ze Try.underlying22 rfl)<|zA (zCf rfl rfl)<|zA (zD rfl) ?_
 refine zG<|zd ?_
 cases h
 exact ⟨mkE [(6,(AV.lit (.bool (decide (0<(l2.length:Int))))))],[.box 29 [ls cI A.nodes,li A.batch,li A.high,AV.osl 46 10 (List.map zO l1),AV.osl 50 1 (List.map zJ l3)]],zAZ [0] rfl rfl (by kernel_rfl),zUg rfl rfl⟩
theorem zOH {J:zK} {R:Int} {r:zK×(List Int)×Int} (h:zHv J R=some r):PFn Try.prog 78 [(AV.agg (zJ J)),li R] (AV.tup [(AV.agg (zJ r.1)),ls cI r.2.1,li r.2.2]):=by
 refine zq Try.func78 rfl Try.ntmps78 Try.results78 rfl ?_
 unfold zHv at h
 refine zI<|zC<|zX (H':=[.box 50 (zJ J)]) (z8 (t:=50) rfl)<|zX (H':=[.box 50 (zJ J),.box 50 [(ls (cS cI) ([]:List (List Int)))]]) zv1<|zA (zD rfl)<|zA (zD rfl) ?_
 refine zG<|zI<|zI<|zC<|zA (zR (k:=0) (o:=0) (m:=1) Try.isAgg50 Try.sizeOf50 rfl rfl rfl rfl rfl)<|zA (zB rfl) ?_
 refine zQ h fun x1 w1 h=>zb Try.func79 rfl (by kernel_rfl) (.fn 79) rfl rfl (zGx w1) rfl<|zA (zD rfl)<|zG<|zI<|zC ?_
 refine zA (zB rfl)<|zA (z7 rfl rfl)<|zG ?_
 refine zY h rfl (fun b1 h => ?_) (fun b1 h => ?_)
 ·refine zI<|zC<|zA zv2<|zA (zB rfl)<|za (H':=[.box 50 (zJ J),.box 50 (zJ (⟨([]:List (List Int))⟩:zK))]) (zT (k:=1) (o:=0) (cs:=[(ls (cS cI) ([]:List (List Int)))]) (la:=(zJ (⟨([]:List (List Int))⟩:zK))) Try.sizeOf50 rfl rfl rfl rfl)<|zA (zD rfl) ?_
  refine zA (zD rfl)<|zG<|zd ?_
  cases h
  exact zEb (zGO Try.isAgg50 Try.sizeOf50 rfl rfl rfl rfl) (zI6 (zAl rfl rfl) zBC.nils) (zAl rfl rfl) rfl
 refine zS<|zI<|zC<|zA (zM Try.underlying50 rfl rfl Try.sizeOf48 rfl)<|zA (zN Try.isAgg48 rfl rfl rfl rfl)<|zA (zB rfl) ?_
 refine zL h fun b2 h=>zA (zm Try.underlying48 Try.sizeOf22 (fun _=>rfl) rfl rfl b2)<|zA (zo (o:=0) Try.isAgg22 rfl rfl)<|zA (ze Try.underlying22 rfl)<|zL h fun b3 h=>zGs (f:=cI) (a:=((at_ J.lists R).length:Int)) (c:=((at_ J.lists R).length:Int)) (d0:=0) zHR ⟨zBC.refl _,trivial⟩ rfl Try.underlying22 rfl rfl b3 ?_
 refine zA (zD rfl)<|zG<|zI<|zC<|zA (zB rfl)<|zA (zM Try.underlying50 rfl rfl Try.sizeOf48 rfl) ?_
 refine zA (zN Try.isAgg48 rfl rfl rfl rfl)<|zA (zB rfl)<|zA (zm Try.underlying48 Try.sizeOf22 (fun _=>rfl) rfl rfl b2)<|zA (zo (o:=0) Try.isAgg22 rfl rfl)<|zX (H':=[.box 50 (zJ J),.box 50 [(ls (cS cI) ([]:List (List Int)))],.vec 3 1 (List.map cI (zC0 (List.replicate ((at_ J.lists R).length:Int).toNat 0) (at_ J.lists R)))]) (zLH (f:=cI) (k:=2) (l:=List.replicate ((at_ J.lists R).length:Int).toNat 0) (l2:=at_ J.lists R) Try.underlying22 Try.sizeOf3 (fun _=>rfl) rfl rfl rfl)<|zG ?_
 refine zI<|zC<|zA (zR (k:=0) (o:=0) (m:=1) Try.isAgg50 Try.sizeOf50 rfl rfl rfl rfl rfl)<|zA (zB rfl)<|zQ h fun x2 w2 h=>zAx (r':=(AV.agg (zJ x2))) (la:=[(AV.agg (zJ J)),li R,(AV.lit (.slice none 0 0))]) (la':=[(AV.agg (zJ J)),li R,(ls cI [])]) (r:=(AV.agg (zJ x2))) (S:=[]) Try.func80 rfl (by kernel_rfl) (.fn 80) rfl ⟨zBI.nr rfl,zBI.nr rfl,zBI.sub zBC.nils rfl,trivial⟩ (zEi w2) (.inl rfl) rfl ?_
 refine zA (zB rfl)<|za (H':=[.box 50 (zJ J),.box 50 (zJ x2),.vec 3 1 (List.map cI (zC0 (List.replicate ((at_ J.lists R).length:Int).toNat 0) (at_ J.lists R)))]) (zT (k:=1) (o:=0) (cs:=[(ls (cS cI) ([]:List (List Int)))]) (la:=(zJ x2)) Try.sizeOf50 rfl rfl rfl rfl)<|zA (zD rfl)<|zA (zD rfl)<|zG<|zA5 (zFP (j:=2) (ds:=[5,8,22,23,33]) (rows':=List.map cI (zC0 (List.replicate ((at_ J.lists R).length:Int).toNat 0) (at_ J.lists R))) rfl (zAb (fun _=>rfl)) ⟨rfl,rfl,rfl,rfl,rfl,trivial⟩) ?_
 refine zd ?_
 cases h
 exact zEb (zGO Try.isAgg50 Try.sizeOf50 rfl rfl rfl rfl) (zAl rfl rfl) (zAl rfl rfl) rfl
theorem zPW {D:zW} {X:Int} {E:Int} {r:zW×Int} (h:zIX D X E=some r):PFn Try.prog 81 [(AV.agg (zO D)),li X,li E] (AV.tup [(AV.agg (zO r.1)),li r.2]):=by
 refine zq Try.func81 rfl Try.ntmps81 Try.results81 rfl ?_
 unfold zIX at h
 refine zI<|zC<|zX (H':=[.box 46 (zO D)]) (z8 (t:=46) rfl)<|zX (H':=[.box 46 (zO D),.box 46 ([li 0]++([li 0]++([li 0]++([li 0]++([li 0]++((cA 5 (eS cI) ([]:List Int) (List.replicate 5 ([]:List Int)))++[]))))))]) zv0<|zA (zD rfl)<|zG ?_
 refine zI<|zI<|zC<|zA (zR (k:=0) (o:=0) (m:=10) Try.isAgg46 Try.sizeOf46 rfl rfl rfl rfl rfl)<|zQ h fun x1 w1 h=>zb Try.func36 rfl (by kernel_rfl) (.fn 36) rfl rfl (zET w1) rfl ?_
 refine zA (zD rfl)<|zG<|zI<|zC<|zA (zB rfl)<|zA (z7 rfl rfl) ?_
 refine zG ?_
 refine zY h rfl (fun b1 h => ?_) (fun b1 h => ?_)
 ·refine zI<|zC<|zA zv9<|zA (zB rfl)<|za (H':=[.box 46 (zO D),.box 46 (zO (⟨0,0,0,0,0,(List.replicate 5 ([]:List Int))⟩:zW))]) (zT (k:=1) (o:=0) (cs:=([li 0]++([li 0]++([li 0]++([li 0]++([li 0]++((cA 5 (eS cI) ([]:List Int) (List.replicate 5 ([]:List Int)))++[]))))))) (la:=(zO (⟨0,0,0,0,0,(List.replicate 5 ([]:List Int))⟩:zW))) Try.sizeOf46 rfl rfl rfl rfl)<|zA (zD rfl) ?_
  refine zG<|zd ?_
  cases h
  exact zCF (zGO Try.isAgg46 Try.sizeOf46 rfl rfl rfl rfl) (zAl rfl rfl) rfl
 refine zS<|zI<|zI<|zC<|zA (zB rfl)<|zA (zi rfl rfl) ?_
 refine zA (zB rfl)<|zZ rfl rfl (fun c1=>zv.step (zB rfl))<|zZ rfl rfl (fun c2=>zv.step (zCf (zAQ rfl c2) rfl))<|zA (zh rfl rfl)<|zA (zB rfl)<|zZ rfl rfl (fun c3=>zv.step (zR (k:=0) (o:=0) (m:=10) Try.isAgg46 Try.sizeOf46 rfl rfl rfl rfl rfl)) ?_
 refine zZ rfl rfl (fun c4=>zv.step (zB rfl))<|zZ rfl rfl (fun c5=>zv.step (zB rfl))<|zQ h fun x2 w2 h=>zDa (g:=25) (s:=(decide (E<0))||(decide (4<E))) (r':=(AV.lit (.bool x2))) rfl rfl (fun c6=>⟨62,_,_,[],[(AV.agg (zO D)),li X,li E],[(AV.agg ([li D.node]++([li D.kind]++([li D.start]++([li D.count]++([li D.min]++([AV.any,AV.any,AV.any,AV.any,AV.any]++[]))))))),li X,li E],(AV.lit (.bool x2)),[],Try.func62,rfl,by kernel_rfl,.fn 62,(zAe (zAQ rfl c6) (zAe (zAQ rfl c6) (zAe (zAQ rfl c6) rfl))),⟨zLI (hd:=([li D.node]++[li D.kind]++[li D.start]++[li D.count]++[li D.min])) (tl:=((cA 5 (eS cI) ([]:List Int) D.free))) rfl,zBI.nr rfl,zBI.nr rfl,trivial⟩,zEk (zIL c6 w2),.inl rfl,rfl⟩)<|zZ rfl rfl (fun c7=>zv.step (zBf (t:=x2) (zAQ rfl c7)))<|zA (zh rfl rfl) ?_
 refine zG ?_
 refine zY h rfl (fun b2 h => ?_) (fun b2 h => ?_)
 ·refine zI<|zC<|zA zv9<|za (H':=[.box 46 (zO D),.box 46 (zO (⟨0,0,0,0,0,(List.replicate 5 ([]:List Int))⟩:zW))]) (zT (k:=1) (o:=0) (cs:=([li 0]++([li 0]++([li 0]++([li 0]++([li 0]++((cA 5 (eS cI) ([]:List Int) (List.replicate 5 ([]:List Int)))++[]))))))) (la:=(zO (⟨0,0,0,0,0,(List.replicate 5 ([]:List Int))⟩:zW))) Try.sizeOf46 rfl rfl rfl rfl)<|zA (zD rfl)<|zG ?_
  refine zd ?_
  cases h
  exact zCF (zGO Try.isAgg46 Try.sizeOf46 rfl rfl rfl rfl) (zAl rfl rfl) rfl
 refine zS ?_
 refine zAA (r:=r) (fun (_:Unit)=>mkE [(1,(li X)),(2,(li E)),(3,(AV.ptr 0 0)),(6,(AV.ptr 1 0))]) (fun _=>[.box 46 (zO D),.box 46 ([li 0]++([li 0]++([li 0]++([li 0]++([li 0]++((cA 5 (eS cI) ([]:List Int) (List.replicate 5 ([]:List Int)))++[]))))))]) (fun _=>zIM D X E) ?_ ?_
 ·
  refine zI<|zC<|zA (zB rfl)<|zA (zD rfl)<|zG<|zV ?_
  refine z6 (σ:=Int) (fun i1=>mkE [(1,(li X)),(2,(li E)),(3,(AV.ptr 0 0)),(6,(AV.ptr 1 0)),(9,(li i1))]) (fun i1=>[.box 46 (zO D),.box 46 ([li 0]++([li 0]++([li 0]++([li 0]++([li 0]++((cA 5 (eS cI) ([]:List Int) (List.replicate 5 ([]:List Int)))++[]))))))]) (fun n0 i1=>zG3 D X E n0 i1) X h (fun _=>rfl) (zAZ [0,1] rfl rfl (by kernel_rfl)) ?_
  clear h
  intro n0 i1 h
  replace h:zEx D X E (zG3 D X E n0) i1=some r:=h
  unfold zEx at h
  refine zI<|zI<|zC<|zA (zB rfl)<|zA (zB rfl)<|zA (zB rfl) ?_
  refine zL h fun b3 h=>zL h fun b4 h=>zA (zGW (a:=1) (b:=E) rfl rfl b3 b4)<|zL h fun b5 h=>zA (zg rfl rfl b5)<|zA (zi rfl rfl) ?_
  refine zG ?_
  refine zY h rfl (fun b6 h => ?_) (fun b6 h => ?_)
  ·refine zS<|zI<|zV<|zI<|zC<|zA (zR (k:=0) (o:=0) (m:=10) Try.isAgg46 Try.sizeOf46 rfl rfl rfl rfl rfl) ?_
   refine zA (zB rfl)<|zQ h fun x5 w5 h=>zb Try.func66 rfl (by kernel_rfl) (.fn 66) rfl rfl (zJN w5) rfl<|zA (zB rfl)<|zA (zU rfl rfl)<|zA (zU rfl rfl) ?_
   refine zA (zD rfl)<|zA (zD rfl)<|zG<|zI<|zC<|zA (zB rfl) ?_
   refine zA (zBp rfl rfl)<|zG ?_
   refine zY h rfl (fun b7 h => ?_) (fun b7 h => ?_)
   ·refine zI<|zC<|zA zv9<|za (H':=[.box 46 (zO D),.box 46 (zO (⟨0,0,0,0,0,(List.replicate 5 ([]:List Int))⟩:zW))]) (zT (k:=1) (o:=0) (cs:=([li 0]++([li 0]++([li 0]++([li 0]++([li 0]++((cA 5 (eS cI) ([]:List Int) (List.replicate 5 ([]:List Int)))++[]))))))) (la:=(zO (⟨0,0,0,0,0,(List.replicate 5 ([]:List Int))⟩:zW))) Try.sizeOf46 rfl rfl rfl rfl)<|zA (zD rfl)<|zG ?_
    refine zd ?_
    cases h
    exact zCF (zGO Try.isAgg46 Try.sizeOf46 rfl rfl rfl rfl) (zAl rfl rfl) rfl
   refine zS<|zC<|zA (zB rfl)<|zL h fun b8 h=>zA (zg rfl rfl b8)<|zA (zD rfl) ?_
   refine zG ?_
   exact ⟨(i1+1),zAZ [0,1] rfl rfl (by kernel_rfl),h⟩
  refine zAC ?_
  exact ⟨(),zAZ [0,1] rfl rfl (by kernel_rfl),h⟩
 clear h
 intro _ h
 unfold zIM at h
 refine zI<|zC<|zA (zR (k:=0) (o:=0) (m:=10) Try.isAgg46 Try.sizeOf46 rfl rfl rfl rfl rfl)<|zQ h fun x3 w3 h=>zH3 (cs:=([li x3.node]++([li x3.kind]++([li x3.start]++([li x3.count]++([li x3.min]++((cM 5 3 (5:Int) x3.free)++[]))))))) (la:=[(AV.agg (zO D))]) (la':=[(AV.agg (zO D))]) (S:=[]) Try.func82 rfl (by kernel_rfl) (.fn 82) rfl ⟨zBI.nr rfl,trivial⟩ (zJO w3) (.inl rfl)<|zX (H':=[.box 46 (zO D),.box 46 ([li 0]++([li 0]++([li 0]++([li 0]++([li 0]++((cA 5 (eS cI) ([]:List Int) (List.replicate 5 ([]:List Int)))++[])))))),.val (.agg ([li x3.node]++([li x3.kind]++([li x3.start]++([li x3.count]++([li x3.min]++((cM 5 3 (5:Int) x3.free)++[]))))))),.box 46 ([li 0]++([li 0]++([li 0]++([li 0]++([li 0]++((cA 5 (eS cI) ([]:List Int) (List.replicate 5 ([]:List Int)))++[]))))))]) zv0 ?_
 refine za (H':=[.box 46 (zO D),.box 46 ([li 0]++([li 0]++([li 0]++([li 0]++([li 0]++((cA 5 (eS cI) ([]:List Int) (List.replicate 5 ([]:List Int)))++[])))))),.dead,.box 46 ([li x3.node]++([li x3.kind]++([li x3.start]++([li x3.count]++([li x3.min]++((cM 5 3 (5:Int) x3.free)++[]))))))]) (zEN (k:=3) (o:=0) (j:=2) (cs:=([li 0]++([li 0]++([li 0]++([li 0]++([li 0]++((cA 5 (eS cI) ([]:List Int) (List.replicate 5 ([]:List Int)))++[]))))))) (la:=([li x3.node]++([li x3.kind]++([li x3.start]++([li x3.count]++([li x3.min]++((cM 5 3 (5:Int) x3.free)++[]))))))) Try.sizeOf46 rfl rfl rfl rfl rfl (by decide))<|zG<|zI<|zC<|zA (zB rfl)<|zA (zB rfl) ?_
 refine zQ h fun x4 w4 h=>zE6 (k:=3) (la:=[AV.ptr 3 0,li X,li E]) (la':=[AV.ptr 0 0,li X,li E]) (r:=(.tup [])) (S:=[]) (en' := .box 46 ([li x4.node]++([li x4.kind]++([li x4.start]++([li x4.count]++([li x4.min]++((cM 5 3 (5:Int) x4.free)++[]))))))) Try.func52 rfl (by kernel_rfl) (.fn 52) rfl ⟨zDQ.ptr,zDQ.of (zBI.nr rfl),zDQ.of (zBI.nr rfl),trivial⟩ rfl rfl (by kernel_rfl) (by kernel_rfl) (zNM w4) rfl (.inl rfl)<|zG<|zI<|zC<|zAJ (zKb (k:=3) (cs:=([li x4.node]++([li x4.kind]++([li x4.start]++([li x4.count]++([li x4.min]++((cM 5 3 (5:Int) x4.free)++[]))))))) (hd:=([li x4.node]++[li x4.kind]++[li x4.start]++[li x4.count]++[li x4.min]++[])) (tl:=([])) (N:=5) (T:=3) (K:=5) (l:=x4.free) rfl rfl) ?_
 refine zA (zR (k:=3) (o:=0) (m:=10) Try.isAgg46 Try.sizeOf46 rfl rfl rfl rfl rfl)<|za (H':=[.box 46 (zO D),.box 46 (zO (⟨x4.node,x4.kind,x4.start,x4.count,x4.min,x4.free⟩:zW)),.dead,.box 46 ([li x4.node]++([li x4.kind]++([li x4.start]++([li x4.count]++([li x4.min]++((cA 5 (eS cI) ([]:List Int) x4.free)++[]))))))]) (zT (k:=1) (o:=0) (cs:=([li 0]++([li 0]++([li 0]++([li 0]++([li 0]++((cA 5 (eS cI) ([]:List Int) (List.replicate 5 ([]:List Int)))++[]))))))) (la:=(zO (⟨x4.node,x4.kind,x4.start,x4.count,x4.min,x4.free⟩:zW))) Try.sizeOf46 rfl rfl rfl rfl)<|zA (zD rfl)<|zG<|zd ?_
 cases h
 exact zCF (zGO Try.isAgg46 Try.sizeOf46 rfl rfl rfl rfl) (zAl rfl rfl) rfl
theorem zJu {C:zH} {D:Int} {uJ:List Int} {r:zH} (h:zEK C D uJ=some r):AFn Try.prog 47 [AV.ptr 0 0,li D,ls cI uJ] [.box 29 ([ls cI C.nodes]++([li C.batch]++([li C.high]++([AV.osl 46 10 (List.map zO C.zones)]++([AV.osl 50 1 (List.map zJ C.caches)]++[])))))] (.tup []) [.box 29 ([ls cI r.nodes]++([li r.batch]++([li r.high]++([AV.osl 46 10 (List.map zO r.zones)]++([AV.osl 50 1 (List.map zJ r.caches)]++[])))))]:=by
 refine zGe Try.func47 rfl Try.ntmps47 Try.results47 rfl ?_
 unfold zEK at h
 refine zI<|zC<|zA (zB rfl)<|zA (ze Try.underlying22 rfl)<|zA (zB rfl)<|zG ?_
 refine zV<|z6 (σ:=Int×(List zW)) (fun (i1,l1)=>mkE [(0,(AV.ptr 0 0)),(1,(li D)),(10,(ls cI uJ)),(11,(li (uJ.length:Int))),(12,(li i1))]) (fun (i1,l1)=>[.box 29 [ls cI C.nodes,li C.batch,li C.high,AV.osl 46 10 (List.map zO l1),AV.osl 50 1 (List.map zJ C.caches)]]) (fun n0 (i1,l1)=>zDf C D uJ n0 i1 l1) (0,C.zones) h (fun _=>rfl) (zAZ [0] rfl rfl (by kernel_rfl)) ?_
 clear h
 rintro n0 ⟨i1,l1⟩ h
 replace h:zCg C D uJ (zDf C D uJ n0) i1 l1=some r:=h
 unfold zCg at h
 refine zI<|zC<|zA (zi rfl rfl)<|zG<|zI ?_
 refine zY h rfl (fun b1 h => ?_) (fun b1 h => ?_)
 ·refine zS ?_
  refine zAA (r:=r) (fun (l2:List zW)=>mkE [(0,(AV.ptr 0 0)),(1,(li D)),(10,(ls cI uJ)),(11,(li (uJ.length:Int))),(12,(li i1))]) (fun l2=>[.box 29 [ls cI C.nodes,li C.batch,li C.high,AV.osl 46 10 (List.map zO l2),AV.osl 50 1 (List.map zJ C.caches)]]) (fun l2=>zEl (zDf C D uJ n0) i1 l2) ?_ ?_
  ·
   refine zV<|zI<|zC<|zL h fun b3 h=>zA (zm Try.underlying22 Try.sizeOf3 (fun _=>rfl) rfl rfl b3)<|zA (zo (o:=0) Try.isAgg3 rfl rfl) ?_
   refine zA (zD rfl)<|zG<|zI<|zC<|zA (zB rfl)<|zA (zAd rfl) ?_
   refine zA (zM Try.underlying29 rfl rfl Try.sizeOf26 rfl)<|zAJ (zBz (k:=0) (o:=3) (t':=46) (sz:=10) (rows:=List.map zO l1) rfl rfl)<|zA (zN Try.isAgg26 rfl rfl rfl rfl)<|zA (zB rfl)<|zL h fun b4 h=>zA (zAR (f:=zO) (l:=l1) (i:=D) Try.underlying26 Try.sizeOf46 rfl rfl rfl b4) ?_
   refine zA (zDW (f:=zO) (l:=l1) (i:=D) (c:=0) (q:=10) (la:=(zO (at_ l1 D))) Try.isAgg46 Try.sizeOf46 rfl rfl (by first | rfl | omega) b4 rfl rfl rfl)<|zA (zB rfl)<|zQ h fun x1 w1 h=>zb Try.func81 rfl (by kernel_rfl) (.fn 81) rfl rfl (zPW w1) rfl<|zA (zB rfl)<|zA (zU rfl rfl) ?_
   refine zA (zU rfl rfl)<|zX (H':=[.box 29 [ls cI C.nodes,li C.batch,li C.high,AV.hd 1,AV.osl 50 1 (List.map zJ C.caches)],.vec 46 10 (List.map zO l1),.box 46 (zO ⟨0,0,0,0,0,(List.replicate 5 ([]:List Int))⟩)]) zv0<|za (H':=[.box 29 [ls cI C.nodes,li C.batch,li C.high,AV.hd 1,AV.osl 50 1 (List.map zJ C.caches)],.vec 46 10 (List.map zO l1),.box 46 (zO x1.1)]) (zT (k:=2) (o:=0) (cs:=(zO ⟨0,0,0,0,0,(List.replicate 5 ([]:List Int))⟩)) (la:=(zO x1.1)) Try.sizeOf46 rfl rfl rfl rfl)<|zA (zD rfl)<|zG<|zI ?_
   refine zC<|zA (zB rfl)<|zA (zBe rfl rfl)<|zG ?_
   refine zY h rfl (fun b5 h => ?_) (fun b5 h => ?_)
   ·refine zBr (n:=38) (m:=1) [.head 0 0,.head 0 0,.head 0 0,.head 0 0,.head 0 0,.head 0 0,.head 0 0,.tail 0] [7] [AV.ptr 0 0,AV.ptr 0 0,AV.ptr 0 3,AV.hd 1,li D,(AV.agg (zO x1.1)),(AV.ptr 1 (D.toNat*10)),.any] [[.box 29 [ls cI C.nodes,li C.batch,li C.high,AV.hd 1,AV.osl 50 1 (List.map zJ C.caches)],.vec 46 10 (List.map zO l1),.box 46 (zO x1.1)],[.box 29 [ls cI C.nodes,li C.batch,li C.high,AV.hd 1,AV.osl 50 1 (List.map zJ C.caches)],.vec 46 10 (List.map zO (l1.set D.toNat x1.1)),.box 46 (zO x1.1)]] (by kernel_rfl) (by kernel_rfl) ⟨D1 fun e s p=>zB (s 0 rfl),D1 fun e s p=>zAd p.1,D1 fun e s p=>zM (k:=0) (o:=0) (off:=3) Try.underlying29 rfl rfl Try.sizeOf26 p.1,D1 fun e s p=>zN (k:=0) (o:=3) Try.isAgg26 p.1 rfl rfl rfl,D1 fun e s p=>zB (s 1 rfl),D1 fun e s p=>zR (k:=2) (o:=0) (m:=10) Try.isAgg46 Try.sizeOf46 (s 8 rfl) rfl rfl rfl rfl,D1 fun e s p=>zAR (f:=zO) (l:=l1) (i:=D) Try.underlying26 Try.sizeOf46 p.2.2.2.2.2.1 rfl p.2.2.2.2.2.2.1 b4,?_,trivial⟩ ?_
    ·
     intro e8 s8 p8
     refine za (H':=[.box 29 [ls cI C.nodes,li C.batch,li C.high,AV.hd 1,AV.osl 50 1 (List.map zJ C.caches)],.vec 46 10 (List.map zO (l1.set D.toNat x1.1)),.box 46 (zO x1.1)]) (zDS (k:=1) (o:=(D.toNat*10)) (f:=zO) (l:=l1) (i:=D) (z:=x1.1) Try.sizeOf46 (fun _=>rfl) (by exact p8.1) rfl (by first | rfl | omega) b4 (by exact p8.2.2.2.2.2.2.2.1) rfl) ?_
     exact zG ⟨fun _=>rfl,rfl⟩
    intro e9 s9 hq1
    exact ⟨l1.set D.toNat x1.1,Rep.trans (zCy (l:=[(0,(AV.ptr 0 0)),(1,(li D)),(10,(ls cI uJ)),(11,(li (uJ.length:Int))),(12,(li i1))]) ⟨s9 0 rfl,s9 1 rfl,s9 10 rfl,s9 11 rfl,s9 12 rfl,trivial⟩) (Rep.trans (zAT (k:=0) (j:=1) (o:=3) (cs:=[ls cI C.nodes,li C.batch,li C.high,AV.hd 1,AV.osl 50 1 (List.map zJ C.caches)]) rfl rfl rfl rfl) (zAZ [0] (l:=[(0,(AV.ptr 0 0)),(1,(li D)),(10,(ls cI uJ)),(11,(li (uJ.length:Int))),(12,(li i1))]) rfl rfl (by kernel_rfl))),h⟩
   refine zS ?_
   exact ⟨l1,Rep.trans (zAT (k:=0) (j:=1) (o:=3) rfl rfl rfl rfl) (zAZ [0] (l:=[(0,(AV.ptr 0 0)),(1,(li D)),(10,(ls cI uJ)),(11,(li (uJ.length:Int))),(12,(li i1))]) rfl rfl (by kernel_rfl)),h⟩
  clear h
  intro l2 h
  unfold zEl at h
  refine zC<|zL h fun b2 h=>zA (zg rfl rfl b2)<|zA (zB rfl)<|zG ?_
  exact ⟨((i1+1),l2),zAZ [0] rfl rfl (by kernel_rfl),h⟩
 refine zAC ?_
 cases h
 exact ⟨mkE [],[.box 29 [ls cI C.nodes,li C.batch,li C.high,AV.osl 46 10 (List.map zO l1),AV.osl 50 1 (List.map zJ C.caches)]],zAZ [0] rfl rfl (by kernel_rfl),zON rfl⟩
theorem zG9 {C:zH} {uS:Int} {D:Int} {r:zH} (h:zDs C uS D=some r):AFn Try.prog 44 [AV.ptr 0 0,li uS,li D] [.box 29 ([ls cI C.nodes]++([li C.batch]++([li C.high]++([AV.osl 46 10 (List.map zO C.zones)]++([AV.osl 50 1 (List.map zJ C.caches)]++[])))))] (.tup []) [.box 29 ([ls cI r.nodes]++([li r.batch]++([li r.high]++([AV.osl 46 10 (List.map zO r.zones)]++([AV.osl 50 1 (List.map zJ r.caches)]++[])))))]:=by
 refine zGe Try.func44 rfl Try.ntmps44 Try.results44 rfl ?_
 unfold zDs at h
 refine zI<|zC<|zA (zB rfl)<|zA (zAd rfl)<|zA (zM Try.underlying29 rfl rfl Try.sizeOf27 rfl)<|zAJ (zBz (k:=0) (o:=4) (t':=50) (sz:=1) (rows:=List.map zJ C.caches) rfl rfl) ?_
 refine zA (zN Try.isAgg27 rfl rfl rfl rfl)<|zA (zB rfl)<|zL h fun b1 h=>zA (zAR (f:=zJ) (l:=C.caches) (i:=uS) Try.underlying27 Try.sizeOf50 rfl rfl rfl b1)<|zA (zDW (f:=zJ) (l:=C.caches) (i:=uS) (c:=0) (q:=1) (la:=(zJ (at_ C.caches uS))) Try.isAgg50 Try.sizeOf50 rfl rfl (by first | rfl | omega) b1 rfl rfl rfl)<|zA (zB rfl) ?_
 refine zQ h fun x1 w1 h=>zb Try.func78 rfl (by kernel_rfl) (.fn 78) rfl rfl (zOH w1) rfl<|zA (zB rfl)<|zA (zU rfl rfl)<|zA (zU rfl rfl)<|zA (zU rfl rfl) ?_
 refine zX (H':=[.box 29 [ls cI C.nodes,li C.batch,li C.high,AV.osl 46 10 (List.map zO C.zones),AV.hd 1],.vec 50 1 (List.map zJ C.caches),.box 50 [(ls (cS cI) ([]:List (List Int)))]]) zv1<|za (H':=[.box 29 [ls cI C.nodes,li C.batch,li C.high,AV.osl 46 10 (List.map zO C.zones),AV.hd 1],.vec 50 1 (List.map zJ C.caches),.box 50 (zJ x1.1)]) (zT (k:=2) (o:=0) (cs:=[(ls (cS cI) ([]:List (List Int)))]) (la:=(zJ x1.1)) Try.sizeOf50 rfl rfl rfl rfl)<|zA (zD rfl)<|zA (zD rfl)<|zG<|zI ?_
 refine zC<|zA (zB rfl)<|zA (zBe rfl rfl)<|zG ?_
 refine zY h rfl (fun b2 h => ?_) (fun b2 h => ?_)
 ·refine zI ?_
  refine zBr (n:=35) (m:=1) [.head 0 0,.head 0 0,.head 0 0,.head 0 0,.head 0 0,.head 0 0,.head 0 0,.tail 0] [7] [AV.ptr 0 0,AV.ptr 0 0,AV.ptr 0 4,AV.hd 1,li uS,(AV.agg (zJ x1.1)),(AV.ptr 1 (uS.toNat*1)),.any] [[.box 29 [ls cI C.nodes,li C.batch,li C.high,AV.osl 46 10 (List.map zO C.zones),AV.hd 1],.vec 50 1 (List.map zJ C.caches),.box 50 (zJ x1.1)],[.box 29 [ls cI C.nodes,li C.batch,li C.high,AV.osl 46 10 (List.map zO C.zones),AV.hd 1],.vec 50 1 (List.map zJ (C.caches.set uS.toNat x1.1)),.box 50 (zJ x1.1)]] (by kernel_rfl) (by kernel_rfl) ⟨D1 fun e s p=>zB (s 0 rfl),D1 fun e s p=>zAd p.1,D1 fun e s p=>zM (k:=0) (o:=0) (off:=4) Try.underlying29 rfl rfl Try.sizeOf27 p.1,D1 fun e s p=>zN (k:=0) (o:=4) Try.isAgg27 p.1 rfl rfl rfl,D1 fun e s p=>zB (s 1 rfl),D1 fun e s p=>zR (k:=2) (o:=0) (m:=1) Try.isAgg50 Try.sizeOf50 (s 6 rfl) rfl rfl rfl rfl,D1 fun e s p=>zAR (f:=zJ) (l:=C.caches) (i:=uS) Try.underlying27 Try.sizeOf50 p.2.2.2.2.2.1 rfl p.2.2.2.2.2.2.1 b1,?_,trivial⟩ ?_
  ·
   intro e8 s8 p8
   refine za (H':=[.box 29 [ls cI C.nodes,li C.batch,li C.high,AV.osl 46 10 (List.map zO C.zones),AV.hd 1],.vec 50 1 (List.map zJ (C.caches.set uS.toNat x1.1)),.box 50 (zJ x1.1)]) (zDS (k:=1) (o:=(uS.toNat*1)) (f:=zJ) (l:=C.caches) (i:=uS) (z:=x1.1) Try.sizeOf50 (fun _=>rfl) (by exact p8.1) rfl (by first | rfl | omega) b1 (by exact p8.2.2.2.2.2.2.2.1) rfl) ?_
   exact zG ⟨fun _=>rfl,rfl⟩
  intro e9 s9 hq1
  refine zA5 (zCy (l:=[(0,(AV.ptr 0 0)),(2,(li D)),(7,(ls cI x1.2.1))]) ⟨s9 0 rfl,s9 2 rfl,s9 7 rfl,trivial⟩)<|zC<|zA (zB (av:=(AV.ptr 0 0)) rfl)<|zA (zB (av:=(li D)) rfl)<|zA (zB (av:=(ls cI x1.2.1)) rfl)<|zAJ (zAT (k:=0) (j:=1) (o:=4) (cs:=[ls cI C.nodes,li C.batch,li C.high,AV.osl 46 10 (List.map zO C.zones),AV.hd 1]) rfl rfl rfl rfl) ?_
  refine zQ h fun x2 w2 h=>zE6 (k:=0) (la:=[AV.ptr 0 0,li D,ls cI x1.2.1]) (la':=[AV.ptr 0 0,li D,ls cI x1.2.1]) (r:=(.tup [])) (S:=[]) (en' := .box 29 [ls cI x2.nodes,li x2.batch,li x2.high,AV.osl 46 10 (List.map zO x2.zones),AV.osl 50 1 (List.map zJ x2.caches)]) Try.func47 rfl (by kernel_rfl) (.fn 47) rfl ⟨zDQ.ptr,zDQ.of (zBI.nr rfl),zDQ.of (zBI.nr rfl),trivial⟩ rfl rfl (by kernel_rfl) (by kernel_rfl) (zJu w2) rfl (.inl rfl)<|zG ?_
  cases h
  exact ⟨mkE [],[.box 29 [ls cI x2.nodes,li x2.batch,li x2.high,AV.osl 46 10 (List.map zO x2.zones),AV.osl 50 1 (List.map zJ x2.caches)]],zAZ [0] rfl rfl (by kernel_rfl),zON rfl⟩
 refine zS ?_
 cases h
 exact ⟨mkE [],[.box 29 [ls cI C.nodes,li C.batch,li C.high,AV.osl 46 10 (List.map zO C.zones),AV.osl 50 1 (List.map zJ C.caches)]],Rep.trans (zAT (k:=0) (j:=1) (o:=4) rfl rfl rfl rfl) (zAZ [0] (l:=[]) rfl rfl (by kernel_rfl)),zON rfl⟩
theorem zOc {J:zK} {R:Int} {r:zK×Int×Int} (h:zIn J R=some r):PFn Try.prog 45 [(AV.agg (zJ J)),li R] (AV.tup [(AV.agg (zJ r.1)),li r.2.1,li r.2.2]):=by
 refine zq Try.func45 rfl Try.ntmps45 Try.results45 rfl ?_
 unfold zIn at h
 refine zI<|zC<|zX (H':=[.box 50 (zJ J)]) (z8 (t:=50) rfl)<|zX (H':=[.box 50 (zJ J),.box 50 [(ls (cS cI) ([]:List (List Int)))]]) zv1<|zA (zD rfl)<|zA (zD rfl) ?_
 refine zG<|zI<|zI<|zC<|zA (zR (k:=0) (o:=0) (m:=1) Try.isAgg50 Try.sizeOf50 rfl rfl rfl rfl rfl)<|zA (zB rfl) ?_
 refine zQ h fun x1 w1 h=>zb Try.func79 rfl (by kernel_rfl) (.fn 79) rfl rfl (zGx w1) rfl<|zA (zD rfl)<|zG<|zI<|zC ?_
 refine zA (zB rfl)<|zA (z7 rfl rfl)<|zG ?_
 refine zY h rfl (fun b1 h => ?_) (fun b1 h => ?_)
 ·refine zI<|zC<|zA zv2<|zA (zB rfl)<|za (H':=[.box 50 (zJ J),.box 50 (zJ (⟨([]:List (List Int))⟩:zK))]) (zT (k:=1) (o:=0) (cs:=[(ls (cS cI) ([]:List (List Int)))]) (la:=(zJ (⟨([]:List (List Int))⟩:zK))) Try.sizeOf50 rfl rfl rfl rfl)<|zA (zD rfl) ?_
  refine zA (zD rfl)<|zG<|zd ?_
  cases h
  exact zEb (zGO Try.isAgg50 Try.sizeOf50 rfl rfl rfl rfl) (zAl rfl rfl) (zAl rfl rfl) rfl
 refine zS<|zI<|zC<|zA (zM Try.underlying50 rfl rfl Try.sizeOf48 rfl)<|zA (zN Try.isAgg48 rfl rfl rfl rfl)<|zA (zB rfl) ?_
 refine zL h fun b2 h=>zA (zm Try.underlying48 Try.sizeOf22 (fun _=>rfl) rfl rfl b2)<|zA (zo (o:=0) Try.isAgg22 rfl rfl)<|zA (zD rfl)<|zG<|zI ?_
 refine zI<|zC<|zA (zB rfl)<|zA (ze Try.underlying22 rfl)<|zA (zBe rfl rfl)<|zG ?_
 refine zY h rfl (fun b3 h => ?_) (fun b3 h => ?_)
 ·refine zI<|zC<|zA zv2<|za (H':=[.box 50 (zJ J),.box 50 (zJ (⟨([]:List (List Int))⟩:zK))]) (zT (k:=1) (o:=0) (cs:=[(ls (cS cI) ([]:List (List Int)))]) (la:=(zJ (⟨([]:List (List Int))⟩:zK))) Try.sizeOf50 rfl rfl rfl rfl)<|zA (zD rfl)<|zA (zD rfl) ?_
  refine zG<|zd ?_
  cases h
  exact zEb (zGO Try.isAgg50 Try.sizeOf50 rfl rfl rfl rfl) (zAl rfl rfl) (zAl rfl rfl) rfl
 refine zS<|zI<|zC<|zA (zB rfl)<|zA (ze Try.underlying22 rfl)<|zL h fun b4 h => ?_
 refine zA (zDv rfl rfl b4)<|zA (zD rfl)<|zG<|zI<|zL h fun b5 h=>zQ h fun x2 w2 h => ?_
 refine zL h fun b6 h => ?_
 refine zBr (n:=39) (m:=0) [.head 0 0,.head 0 0,.head 0 0,.head 0 0,.head 0 0,.head 0 0,.head 0 1,.head 0 1,.head 0 1,.head 0 1,.tail 0,.head 1 1,.head 1 1] [10] [(AV.agg (zJ J)),li R,(ls cI (at_ J.lists R)),(li (((at_ J.lists R).length:Int) - 1)),(ls cI (zFX (at_ J.lists R) 0 (((at_ J.lists R).length:Int) - 1))),(AV.agg (zJ x2)),(ls cI (at_ J.lists R)),(li (((at_ J.lists R).length:Int) - 1)),(AV.rp (cI (at_ (at_ J.lists R) (((at_ J.lists R).length:Int) - 1))) 0),(li (at_ (at_ J.lists R) (((at_ J.lists R).length:Int) - 1))),.any,(li (at_ (at_ J.lists R) (((at_ J.lists R).length:Int) - 1))),li 0] [[.box 50 (zJ J),.box 50 [(ls (cS cI) ([]:List (List Int)))]],[.box 50 (zJ J),.box 50 (zJ x2)]] (by kernel_rfl) (by kernel_rfl) ⟨D1 fun e s p=>zR (k:=0) (o:=0) (m:=1) Try.isAgg50 Try.sizeOf50 (s 2 rfl) rfl rfl rfl rfl,D1 fun e s p=>zB (s 1 rfl),D1 fun e s p=>zB (s 8 rfl),D1 fun e s p=>zB (s 9 rfl),D1 fun e s p=>zOR (hi:=((at_ J.lists R).length:Int) - 1) (f:=cI) (l:=at_ J.lists R) Try.underlying22 Try.sizeOf3 (fun _=>rfl) p.1 p.2.1 b5,?_,⟨D1 fun e s p=>zB (s 8 rfl),D1 fun e s p=>zB (s 8 rfl)⟩,⟨D1 fun e s p=>zB (s 9 rfl),D1 fun e s p=>zB (s 9 rfl)⟩,⟨D1 fun e s p=>zm (f:=cI) (l:=at_ J.lists R) (i:=((at_ J.lists R).length:Int) - 1) Try.underlying22 Try.sizeOf3 (fun _=>rfl) p.1 p.2.1 b6,D1 fun e s p=>zm (f:=cI) (l:=at_ J.lists R) (i:=((at_ J.lists R).length:Int) - 1) Try.underlying22 Try.sizeOf3 (fun _=>rfl) p.1 p.2.1 b6⟩,⟨D1 fun e s p=>zo (o:=0) Try.isAgg3 p.1 rfl,D1 fun e s p=>zo (o:=0) Try.isAgg3 p.1 rfl⟩,?_,D1 fun e s p=>zD p.2.2.2.2.2.2.2.2.2.2.2.1,D1 fun e s p=>zD rfl,trivial⟩ ?_
 ·
  intro e6 s6 p6
  refine zb (r:=(AV.agg (zJ x2))) (la:=[(AV.agg (zJ J)),li R,(ls cI (zFX (at_ J.lists R) 0 (((at_ J.lists R).length:Int) - 1)))]) Try.func80 rfl (by kernel_rfl) (.fn 80) (zAe p6.1 (zAe p6.2.1 (zAe p6.2.2.1 rfl))) rfl (zEi w2) rfl ?_
  exact zG ⟨fun _=>rfl,rfl⟩
 ·
  intro e15 s15 p15
  refine za (H':=[.box 50 (zJ J),.box 50 (zJ x2)]) (zT (k:=1) (o:=0) (cs:=[(ls (cS cI) ([]:List (List Int)))]) (la:=(zJ x2)) Try.sizeOf50 (by exact (s15 4 rfl)) rfl rfl (by exact p15.2.2.2.2.2.2.2.1)) ?_
  exact zG ⟨fun _=>rfl,rfl⟩
 intro e18 s18 hq1
 refine zA5 (zCy (l:=[(4,(AV.ptr 1 0)),(5,(li (at_ (at_ J.lists R) (((at_ J.lists R).length:Int) - 1)))),(6,(li 0))]) ⟨s18 4 rfl,(hq1 11 (by decide) (by decide)),(hq1 12 (by decide) (by decide)),trivial⟩)<|zd ?_
 cases h
 exact zEb (zGO Try.isAgg50 Try.sizeOf50 rfl rfl rfl rfl) (zAl rfl rfl) (zAl rfl rfl) rfl
theorem zI0 {A:zH} {B:Int} {G:Bool} {U:Bool} {r:zH×Int×Int} (h:zCv A B G U=some r):PFn Try.prog 17 [(AV.agg (zF A)),li B,(AV.lit (.bool G)),(AV.lit (.bool U))] (AV.tup [(AV.agg (zF r.1)),li r.2.1,li r.2.2]):=by
 refine zq Try.func17 rfl Try.ntmps17 Try.results17 rfl ?_
 unfold zCv at h
 refine zI<|zC<|zX (H':=[.box 29 (zF A)]) (z8 (t:=29) rfl)<|zX (H':=[.box 29 (zF A),.box 29 (zF ⟨[],0,0,[],[]⟩)]) zv3<|zA (zD rfl)<|zA (zD rfl) ?_
 refine zG<|zI<|zI<|zC<|zA (zR (k:=0) (o:=0) (m:=5) Try.isAgg29 Try.sizeOf29 rfl rfl rfl rfl rfl)<|zQ h fun x1 w1 h => ?_
 refine zb Try.func15 rfl (by kernel_rfl) (.fn 15) rfl rfl (zA2 w1) rfl<|zA (zD rfl)<|zG<|zI<|zC<|zA (zB rfl) ?_
 refine zA (z7 rfl rfl)<|zG ?_
 refine zY h rfl (fun b1 h => ?_) (fun b1 h => ?_)
 ·refine zI<|zC<|zA zQO<|zA (zB rfl)<|za (H':=[.box 29 (zF A),.box 29 (zF (⟨([]:List Int),0,0,([]:List zW),([]:List zK)⟩:zH))]) (zT (k:=1) (o:=0) (cs:=(zF ⟨[],0,0,[],[]⟩)) (la:=(zF (⟨([]:List Int),0,0,([]:List zW),([]:List zK)⟩:zH))) Try.sizeOf29 rfl rfl rfl rfl)<|zA (zD rfl) ?_
  refine zA (zD rfl)<|zG<|zd ?_
  cases h
  exact zEb (zGO Try.isAgg29 Try.sizeOf29 rfl rfl rfl rfl) (zAl rfl rfl) (zAl rfl rfl) rfl
 refine zS<|zI<|zI<|zC<|zA (zB rfl)<|zA (zi rfl rfl) ?_
 refine zA (zB rfl)<|zZ rfl rfl (fun c1=>zv.step (zB rfl))<|zZ rfl rfl (fun c2=>zv.step (zM Try.underlying29 rfl rfl Try.sizeOf22 rfl))<|zZ rfl rfl (fun c3=>zv.step (zN Try.isAgg22 (zAQ rfl c3) rfl rfl rfl))<|zZ rfl rfl (fun c4=>zv.step (ze Try.underlying22 (zAQ rfl c4)))<|zZ rfl rfl (fun c5=>zv.step (zBp (zAQ rfl c5) (zAQ rfl c5))) ?_
 refine zA (zh rfl rfl)<|zG ?_
 refine zY h rfl (fun b2 h => ?_) (fun b2 h => ?_)
 ·refine zI<|zC<|zA zQO<|za (H':=[.box 29 (zF A),.box 29 (zF (⟨([]:List Int),0,0,([]:List zW),([]:List zK)⟩:zH))]) (zT (k:=1) (o:=0) (cs:=(zF ⟨[],0,0,[],[]⟩)) (la:=(zF (⟨([]:List Int),0,0,([]:List zW),([]:List zK)⟩:zH))) Try.sizeOf29 rfl rfl rfl rfl)<|zA (zD rfl)<|zA (zD rfl) ?_
  refine zG<|zd ?_
  cases h
  exact zEb (zGO Try.isAgg29 Try.sizeOf29 rfl rfl rfl rfl) (zAl rfl rfl) (zAl rfl rfl) rfl
 refine zS<|zI<|zL h fun b3 h=>zQ h fun x2 w2 h => ?_
 refine zBr (n:=131) (m:=0) [.head 0 0,.head 0 0,.head 0 0,.head 0 0,.head 0 0,.head 0 0,.head 0 0,.head 0 0,.head 0 0,.head 0 0,.head 0 0,.head 0 0,.head 0 0,.head 0 0] [] [AV.ptr 0 3,ls zO A.zones,AV.ptr 0 0,ls cI A.nodes,li B,(AV.rp (cI (at_ A.nodes B)) 0),(li (at_ A.nodes B)),(AV.lit (.bool G)),(AV.tup [ls cI x2.1,li x2.2]),(AV.tup [ls cI x2.1,li x2.2]),ls cI x2.1,li x2.2,ls cI x2.1,li x2.2] [[.box 29 (zF A),.box 29 (zF ⟨[],0,0,[],[]⟩)]] (by kernel_rfl) (by kernel_rfl) ⟨D1 fun e s p=>zM (k:=0) (o:=0) (off:=3) Try.underlying29 rfl rfl Try.sizeOf26 (s 4 rfl),D1 fun e s p=>zN (k:=0) (o:=3) Try.isAgg26 p.1 rfl rfl rfl,D1 fun e s p=>zM (k:=0) (o:=0) (off:=0) Try.underlying29 rfl rfl Try.sizeOf22 (s 4 rfl),D1 fun e s p=>zN (k:=0) (o:=0) Try.isAgg22 p.1 rfl rfl rfl,D1 fun e s p=>zB (s 1 rfl),D1 fun e s p=>zm (f:=cI) (l:=A.nodes) (i:=B) Try.underlying22 Try.sizeOf3 (fun _=>rfl) p.1 p.2.1 b3,D1 fun e s p=>zo (o:=0) Try.isAgg3 p.1 rfl,D1 fun e s p=>zB (s 2 rfl),?_,D1 fun e s p=>zB p.1,D1 fun e s p=>zU p.1 rfl,D1 fun e s p=>zU p.1 rfl,D1 fun e s p=>zD p.2.2.2.2.2.2.2.2.2.2.2.2.1,D1 fun e s p=>zD p.2.2.2.2.2.2.2.2.2.2.2.2.2.1,trivial⟩ ?_
 ·
  intro e9 s9 p9
  refine zb (r:=(AV.tup [ls cI x2.1,li x2.2])) (la:=[ls zO A.zones,(li (at_ A.nodes B)),(AV.lit (.bool G))]) Try.func40 rfl (by kernel_rfl) (.fn 40) (zAe p9.1 (zAe p9.2.1 (zAe p9.2.2.1 rfl))) rfl (zJl w2) rfl ?_
  exact zG ⟨fun _=>rfl,rfl⟩
 intro e15 s15 hq1
 refine zA5 (zCy (l:=[(1,(li B)),(3,(AV.lit (.bool U))),(4,(AV.ptr 0 0)),(8,(AV.ptr 1 0)),(12,(ls cI x2.1))]) ⟨s15 1 rfl,s15 3 rfl,s15 4 rfl,s15 8 rfl,(hq1 12 (by decide) (by decide)),trivial⟩) ?_
 refine zAA (r:=r) (fun (_:Unit)=>mkE [(8,(AV.ptr 0 0))]) (fun _=>[.box 29 (zF ⟨[],0,0,[],[]⟩)]) (fun _=>zG5 ) ?_ ?_
 ·
  refine zI<|zC<|zA (zB rfl)<|zA (ze Try.underlying22 rfl)<|zA (zB rfl)<|zG ?_
  refine zV<|z6 (σ:=Int) (fun i1=>mkE [(1,(li B)),(3,(AV.lit (.bool U))),(4,(AV.ptr 0 0)),(8,(AV.ptr 1 0)),(49,(ls cI x2.1)),(50,(li (x2.1.length:Int))),(51,(li i1))]) (fun i1=>[.box 29 (zF A),.box 29 (zF ⟨[],0,0,[],[]⟩)]) (fun n0 i1=>zA9 A B U x2 n0 i1) 0 h (fun _=>rfl) (zAZ [0,1] rfl rfl (by kernel_rfl)) ?_
  clear h
  intro n0 i1 h
  replace h:zBc A B U x2 (zA9 A B U x2 n0) i1=some r:=h
  unfold zBc at h
  refine zI<|zC<|zA (zi rfl rfl)<|zG<|zI ?_
  refine zY h rfl (fun b4 h => ?_) (fun b4 h => ?_)
  ·refine zS ?_
   refine zAA (r:=r) (fun (_:Unit)=>mkE [(1,(li B)),(3,(AV.lit (.bool U))),(4,(AV.ptr 0 0)),(8,(AV.ptr 1 0)),(49,(ls cI x2.1)),(50,(li (x2.1.length:Int))),(51,(li i1))]) (fun _=>[.box 29 (zF A),.box 29 (zF ⟨[],0,0,[],[]⟩)]) (fun _=>zD5 (zA9 A B U x2 n0) i1) ?_ ?_
   ·
    refine zV<|zI<|zC<|zL h fun b6 h=>zA (zm Try.underlying22 Try.sizeOf3 (fun _=>rfl) rfl rfl b6)<|zA (zo (o:=0) Try.isAgg3 rfl rfl) ?_
    refine zA (zD rfl)<|zG<|zI<|zI<|zC<|zA (zB rfl) ?_
    refine zA (zB rfl)<|z9 rfl rfl (fun c6=>zv.step (zR (k:=0) (o:=0) (m:=5) Try.isAgg29 Try.sizeOf29 rfl rfl rfl rfl rfl))<|z9 rfl rfl (fun c7=>zv.step (zB rfl))<|zQ h fun x3 w3 h=>zGc (g:=56) (s:=U) (r':=(li x3)) rfl rfl (fun c8=>⟨41,_,_,[],[(AV.agg (zF A)),(li (at_ x2.1 i1))],[(AV.agg (zF A)),(li (at_ x2.1 i1))],li x3,[],Try.func41,rfl,by kernel_rfl,.fn 41,(zAe (zAQ rfl c8) (zAe (zAQ rfl c8) rfl)),⟨zBI.nr rfl,zBI.nr rfl,trivial⟩,zG6 (zIL c8 w3),.inl rfl,rfl⟩)<|z9 rfl rfl (fun c9=>zv.step (zBe (zAQ rfl c9) rfl)) ?_
    refine zA (zAL (j := .lit undef) rfl rfl)<|zA (zB rfl)<|zZ rfl rfl (fun c10=>zv.step (zB rfl))<|zZ rfl rfl (fun c11=>zv.step (zBf (t:=U) (zAQ rfl c11)))<|zZ rfl rfl (fun c12=>zv.step (zB (zAQ rfl c12)))<|zPe (g:=65) (s' := !(U&&(decide (x3=0)))) (s := !U) rfl rfl (fun c13=>zv.step (zR (k:=0) (o:=0) (m:=5) Try.isAgg29 Try.sizeOf29 rfl rfl rfl rfl rfl)) ?_
    refine zPe (g:=65) (s' := !(U&&(decide (x3=0)))) (s := !U) rfl rfl (fun c14=>zv.step (zB rfl))<|zQ h fun x4 w4 h=>zN1 (g:=65) (s' := !(U&&(decide (x3=0)))) (s := !U) (r':=(li x4)) rfl rfl (fun c15=>⟨39,_,_,[],[(AV.agg (zF A)),(li (at_ x2.1 i1))],[(AV.agg (zF A)),(li (at_ x2.1 i1))],li x4,[],Try.func39,rfl,by kernel_rfl,.fn 39,(zAe (zAQ rfl c15) (zAe (zAQ rfl c15) rfl)),⟨zBI.nr rfl,zBI.nr rfl,trivial⟩,zFu (zIL c15 w4),.inl rfl,rfl⟩)<|zPe (g:=65) (s' := !(U&&(decide (x3=0)))) (s := !U) rfl rfl (fun c16=>zv.step (zi (zAQ rfl c16) rfl))<|zZ rfl rfl (fun c17=>zv.step (zAL (j := .lit undef) (zAQ rfl c17) (zRu (c := !(U&&(decide (x3=0)))) (d := !U) (a:=(AV.lit (.bool (decide (x4<1))))) (j := .lit undef) rfl c17)))<|zA (zh rfl rfl) ?_
    refine zG ?_
    refine zY h rfl (fun b7 h => ?_) (fun b7 h => ?_)
    ·refine zAC ?_
     exact ⟨(),zAZ [0,1] rfl rfl (by kernel_rfl),h⟩
    refine zS<|zI<|zC<|zA (zR (k:=0) (o:=0) (m:=5) Try.isAgg29 Try.sizeOf29 rfl rfl rfl rfl rfl)<|zQ h fun x5 w5 h=>zH3 (cs:=[ls cI x5.nodes,li x5.batch,li x5.high,AV.osl 46 10 (List.map zO x5.zones),AV.osl 50 1 (List.map zAS x5.caches)]) (la:=[(AV.agg (zF A))]) (la':=[(AV.agg (zF A))]) (S:=[]) Try.func42 rfl (by kernel_rfl) (.fn 42) rfl ⟨zBI.nr rfl,trivial⟩ (zD7 w5) (.inl rfl) ?_
    refine zAJ (zMM (k:=2) (o:=4) (cs:=[ls cI x5.nodes,li x5.batch,li x5.high,AV.osl 46 10 (List.map zO x5.zones),AV.osl 50 1 (List.map zAS x5.caches)]) (rows':=List.map zJ x5.caches) rfl rfl (zHr (fun x=>zEw x)))<|zX (H':=[.box 29 (zF A),.box 29 (zF ⟨[],0,0,[],[]⟩),.val (.agg [ls cI x5.nodes,li x5.batch,li x5.high,AV.osl 46 10 (List.map zO x5.zones),AV.osl 50 1 (List.map zJ x5.caches)]),.box 29 (zF ⟨[],0,0,[],[]⟩)]) zv3<|za (H':=[.box 29 (zF A),.box 29 (zF ⟨[],0,0,[],[]⟩),.dead,.box 29 [ls cI x5.nodes,li x5.batch,li x5.high,AV.osl 46 10 (List.map zO x5.zones),AV.osl 50 1 (List.map zJ x5.caches)]]) (zEN (k:=3) (o:=0) (j:=2) (cs:=(zF ⟨[],0,0,[],[]⟩)) (la:=[ls cI x5.nodes,li x5.batch,li x5.high,AV.osl 46 10 (List.map zO x5.zones),AV.osl 50 1 (List.map zJ x5.caches)]) Try.sizeOf29 rfl rfl rfl rfl rfl (by decide))<|zG ?_
    refine zAA (r:=r) (fun ((d1,d2,d3,l1,l2):(List Int)×Int×Int×(List zW)×(List zK))=>mkE [(1,(li B)),(8,(AV.ptr 0 0)),(15,(li (at_ x2.1 i1))),(16,(AV.ptr 1 0))]) (fun (d1,d2,d3,l1,l2)=>[.box 29 (zF ⟨[],0,0,[],[]⟩),.box 29 [ls cI d1,li d2,li d3,AV.osl 46 10 (List.map zO l1),AV.osl 50 1 (List.map zJ l2)]]) (fun (d1,d2,d3,l1,l2)=>zCQ B x2 i1 d1 d2 d3 l1 l2) ?_ ?_
    ·
     refine zI<|zC<|zA (zM Try.underlying29 rfl rfl Try.sizeOf27 rfl)<|zAJ (zBz (k:=3) (o:=4) (t':=50) (sz:=1) (rows:=List.map zJ x5.caches) rfl rfl)<|zA (zN Try.isAgg27 rfl rfl rfl rfl)<|zA (zB rfl) ?_
     refine zL h fun b10 h=>zA (zAR (f:=zJ) (l:=x5.caches) (i:=B) Try.underlying27 Try.sizeOf50 rfl rfl rfl b10)<|zA (zM Try.underlying50 rfl rfl Try.sizeOf48 rfl)<|zA (zDX (f:=zJ) (l:=x5.caches) (i:=B) (c:=0) (a:=(ls (cS cI) ((at_ x5.caches B).lists))) Try.isAgg48 rfl rfl (by first | rfl | omega) b10 rfl rfl)<|zA (zB rfl)<|zL h fun b11 h => ?_
     refine zA (zm Try.underlying48 Try.sizeOf22 (fun _=>rfl) rfl rfl b11)<|zA (zo (o:=0) Try.isAgg22 rfl rfl)<|zA (ze Try.underlying22 rfl)<|zA (zBe rfl rfl)<|zA (zB rfl)<|z9 rfl rfl (fun c18=>zv.step (zB rfl)) ?_
     refine z9 rfl rfl (fun c19=>zv.step (zB rfl))<|zAJ (zAT (k:=3) (j:=4) (o:=4) rfl rfl rfl rfl)<|zQ h fun x7 w7 h=>zRX (g:=85) (s:=decide (((at_ ((at_ x5.caches B).lists) (at_ x2.1 i1)).length:Int)=0)) (k:=3) (r:=(AV.lit (.bool x7.2))) (en' := .box 29 [ls cI x7.1.nodes,li x7.1.batch,li x7.1.high,AV.osl 46 10 (List.map zO x7.1.zones),AV.osl 50 1 (List.map zJ x7.1.caches)]) rfl rfl (fun c23=>⟨43,_,_,[],[AV.ptr 3 0,li B,(li (at_ x2.1 i1))],[AV.ptr 0 0,li B,(li (at_ x2.1 i1))],_,Try.func43,rfl,by kernel_rfl,.fn 43,(zAe rfl (zAe (zAQ rfl c23) (zAe (zAQ rfl c23) rfl))),⟨zDQ.ptr,zDQ.of (zBI.nr rfl),zDQ.of (zBI.nr rfl),trivial⟩,rfl,by kernel_rfl,by kernel_rfl,zIa (zIL c23 w7),rfl⟩) (fun c23=>by obtain rfl:=Option.some.inj (zYg c23 w7); rfl)<|z9 rfl rfl (fun c24=>zv.step (zBf (t:=x7.2) (zAQ rfl c24)))<|zA (zAL (j := .lit undef) rfl rfl) ?_
     refine zG ?_
     refine zY h rfl (fun b12 h => ?_) (fun b12 h => ?_)
     ·refine zAA (r:=r) (fun ((d4,d5,d6,l3,l4):(List Int)×Int×Int×(List zW)×(List zK))=>mkE [(1,(li B)),(8,(AV.ptr 0 0)),(15,(li (at_ x2.1 i1))),(16,(AV.ptr 1 0))]) (fun (d4,d5,d6,l3,l4)=>[.box 29 (zF ⟨[],0,0,[],[]⟩),.box 29 [ls cI d4,li d5,li d6,AV.osl 46 10 (List.map zO l3),AV.osl 50 1 (List.map zJ l4)]]) (fun (d4,d5,d6,l3,l4)=>zC1 B x2 i1 d4 d5 d6 l3 l4) ?_ ?_
      ·
       refine zI<|zC<|zA (zM Try.underlying29 rfl rfl Try.sizeOf27 rfl)<|zAJ (zBz (k:=3) (o:=4) (t':=50) (sz:=1) (rows:=List.map zJ x7.1.caches) rfl rfl)<|zA (zN Try.isAgg27 rfl rfl rfl rfl)<|zA (zD1 (f:=zJ) (l:=x7.1.caches) Try.underlying27 rfl rfl) ?_
       refine zA (zB rfl)<|zG<|zV<|z6 (σ:=Int×(List Int)×Int×Int×(List zW)×(List zK)) (fun (i2,d7,d8,d9,l5,l6)=>mkE [(1,(li B)),(8,(AV.ptr 0 0)),(15,(li (at_ x2.1 i1))),(16,(AV.ptr 1 0)),(93,(li (x7.1.caches.length:Int))),(94,(li i2))]) (fun (i2,d7,d8,d9,l5,l6)=>[.box 29 (zF ⟨[],0,0,[],[]⟩),.box 29 [ls cI d7,li d8,li d9,AV.osl 46 10 (List.map zO l5),AV.osl 50 1 (List.map zJ l6)]]) (fun n1 (i2,d7,d8,d9,l5,l6)=>zCZ B x2 i1 x7 n1 i2 d7 d8 d9 l5 l6) (0,x7.1.nodes,x7.1.batch,x7.1.high,x7.1.zones,x7.1.caches) h (fun _=>rfl) (Rep.trans (zAT (k:=3) (j:=5) (o:=4) rfl rfl rfl rfl) (zAZ [1,3] (l:=[(1,(li B)),(8,(AV.ptr 0 0)),(15,(li (at_ x2.1 i1))),(16,(AV.ptr 1 0)),(93,(li (x7.1.caches.length:Int))),(94,(li 0))]) rfl rfl (by kernel_rfl))) ?_
       clear h
       rintro n1 ⟨i2,d7,d8,d9,l5,l6⟩ h
       replace h:zCV B x2 i1 x7 (zCZ B x2 i1 x7 n1) i2 d7 d8 d9 l5 l6=some r:=h
       unfold zCV at h
       refine zI<|zC<|zA (zi rfl rfl)<|zG<|zI ?_
       refine zY h rfl (fun b13 h => ?_) (fun b13 h => ?_)
       ·refine zS ?_
        refine zAA (r:=r) (fun ((d10,d11,d12,l7,l8):(List Int)×Int×Int×(List zW)×(List zK))=>mkE [(1,(li B)),(8,(AV.ptr 0 0)),(15,(li (at_ x2.1 i1))),(16,(AV.ptr 1 0)),(93,(li (x7.1.caches.length:Int))),(94,(li i2))]) (fun (d10,d11,d12,l7,l8)=>[.box 29 (zF ⟨[],0,0,[],[]⟩),.box 29 [ls cI d10,li d11,li d12,AV.osl 46 10 (List.map zO l7),AV.osl 50 1 (List.map zJ l8)]]) (fun (d10,d11,d12,l7,l8)=>zD6 (zCZ B x2 i1 x7 n1) i2 d10 d11 d12 l7 l8) ?_ ?_
        ·
         refine zV<|zI<|zC<|zA (zB rfl)<|zA (zD rfl)<|zG ?_
         refine zI<|zC<|zA (zB rfl)<|zA (zB rfl)<|zA (z7 rfl rfl)<|zG ?_
         refine zY h rfl (fun b15 h => ?_) (fun b15 h => ?_)
         ·refine zC<|zA (zB rfl)<|zA (zB rfl)<|zQ h fun x9 w9 h=>zE6 (k:=1) (la:=[AV.ptr 1 0,li i2,(li (at_ x2.1 i1))]) (la':=[AV.ptr 0 0,li i2,(li (at_ x2.1 i1))]) (r:=(.tup [])) (S:=[]) (en' := .box 29 [ls cI x9.nodes,li x9.batch,li x9.high,AV.osl 46 10 (List.map zO x9.zones),AV.osl 50 1 (List.map zJ x9.caches)]) Try.func44 rfl (by kernel_rfl) (.fn 44) rfl ⟨zDQ.ptr,zDQ.of (zBI.nr rfl),zDQ.of (zBI.nr rfl),trivial⟩ rfl rfl (by kernel_rfl) (by kernel_rfl) (zG9 w9) rfl (.inl rfl)<|zG ?_
          exact ⟨(x9.nodes,x9.batch,x9.high,x9.zones,x9.caches),zAZ [0,1] rfl rfl (by kernel_rfl),h⟩
         refine zS ?_
         exact ⟨(d7,d8,d9,l5,l6),zAZ [0,1] rfl rfl (by kernel_rfl),h⟩
        clear h
        rintro ⟨d10,d11,d12,l7,l8⟩ h
        unfold zD6 at h
        refine zC<|zL h fun b14 h=>zA (zg rfl rfl b14)<|zA (zB rfl)<|zG ?_
        exact ⟨((i2+1),d10,d11,d12,l7,l8),zAZ [0,1] rfl rfl (by kernel_rfl),h⟩
       refine zAC ?_
       exact ⟨(d7,d8,d9,l5,l6),zAZ [0,1] rfl rfl (by kernel_rfl),h⟩
      clear h
      rintro ⟨d4,d5,d6,l3,l4⟩ h
      unfold zC1 at h
      refine zC<|zA (zB rfl)<|zA (zB rfl)<|zQ h fun x8 w8 h=>zE6 (k:=1) (la:=[AV.ptr 1 0,li B,(li (at_ x2.1 i1))]) (la':=[AV.ptr 0 0,li B,(li (at_ x2.1 i1))]) (r:=(AV.lit (.bool x8.2))) (S:=[]) (en' := .box 29 [ls cI x8.1.nodes,li x8.1.batch,li x8.1.high,AV.osl 46 10 (List.map zO x8.1.zones),AV.osl 50 1 (List.map zJ x8.1.caches)]) Try.func43 rfl (by kernel_rfl) (.fn 43) rfl ⟨zDQ.ptr,zDQ.of (zBI.nr rfl),zDQ.of (zBI.nr rfl),trivial⟩ rfl rfl (by kernel_rfl) (by kernel_rfl) (zIa w8) rfl (.inl rfl)<|zG ?_
      exact ⟨(x8.1.nodes,x8.1.batch,x8.1.high,x8.1.zones,x8.1.caches),zAZ [0,1] rfl rfl (by kernel_rfl),h⟩
     refine zS ?_
     exact ⟨(x7.1.nodes,x7.1.batch,x7.1.high,x7.1.zones,x7.1.caches),zAZ [1,3] rfl rfl (by kernel_rfl),h⟩
    clear h
    rintro ⟨d1,d2,d3,l1,l2⟩ h
    unfold zCQ at h
    refine zI<|zC<|zA (zM Try.underlying29 rfl rfl Try.sizeOf27 rfl)<|zAJ (zBz (k:=1) (o:=4) (t':=50) (sz:=1) (rows:=List.map zJ l2) rfl rfl)<|zA (zN Try.isAgg27 rfl rfl rfl rfl)<|zA (zB rfl) ?_
    refine zL h fun b8 h=>zA (zAR (f:=zJ) (l:=l2) (i:=B) Try.underlying27 Try.sizeOf50 rfl rfl rfl b8)<|zA (zDW (f:=zJ) (l:=l2) (i:=B) (c:=0) (q:=1) (la:=(zJ (at_ l2 B))) Try.isAgg50 Try.sizeOf50 rfl rfl (by first | rfl | omega) b8 rfl rfl rfl)<|zA (zB rfl)<|zQ h fun x6 w6 h=>zb Try.func45 rfl (by kernel_rfl) (.fn 45) rfl rfl (zOc w6) rfl ?_
    refine zA (zB rfl)<|zA (zU rfl rfl)<|zA (zU rfl rfl)<|zA (zU rfl rfl)<|zX (H':=[.box 29 (zF ⟨[],0,0,[],[]⟩),.box 29 [ls cI d1,li d2,li d3,AV.osl 46 10 (List.map zO l1),AV.hd 2],.vec 50 1 (List.map zJ l2),.box 50 [(ls (cS cI) ([]:List (List Int)))]]) zv1<|za (H':=[.box 29 (zF ⟨[],0,0,[],[]⟩),.box 29 [ls cI d1,li d2,li d3,AV.osl 46 10 (List.map zO l1),AV.hd 2],.vec 50 1 (List.map zJ l2),.box 50 (zJ x6.1)]) (zT (k:=3) (o:=0) (cs:=[(ls (cS cI) ([]:List (List Int)))]) (la:=(zJ x6.1)) Try.sizeOf50 rfl rfl rfl rfl) ?_
    refine zA (zD rfl)<|zA (zD rfl)<|zG<|zI<|zI<|zC ?_
    refine zA (zB rfl)<|zA (z7 rfl rfl)<|zG ?_
    refine zY h rfl (fun b9 h => ?_) (fun b9 h => ?_)
    ·refine zI<|zC<|zA zQO<|zA (zB rfl)<|za (H':=[.box 29 (zF (⟨([]:List Int),0,0,([]:List zW),([]:List zK)⟩:zH)),.box 29 [ls cI d1,li d2,li d3,AV.osl 46 10 (List.map zO l1),AV.hd 2],.vec 50 1 (List.map zJ l2),.box 50 (zJ x6.1)]) (zT (k:=0) (o:=0) (cs:=(zF ⟨[],0,0,[],[]⟩)) (la:=(zF (⟨([]:List Int),0,0,([]:List zW),([]:List zK)⟩:zH))) Try.sizeOf29 rfl rfl rfl rfl)<|zA (zD rfl) ?_
     refine zA (zD rfl)<|zG<|zd ?_
     cases h
     exact zEb (zGO Try.isAgg29 Try.sizeOf29 rfl rfl rfl rfl) (zAl rfl rfl) (zAl rfl rfl) rfl
    refine zS<|zI<|zC<|zA (zM Try.underlying29 rfl rfl Try.sizeOf27 rfl)<|zA (zN Try.isAgg27 rfl rfl rfl rfl)<|zA (zB rfl) ?_
    refine zA (zR (k:=3) (o:=0) (m:=1) Try.isAgg50 Try.sizeOf50 rfl rfl rfl rfl rfl)<|zA (zAR (f:=zJ) (l:=l2) (i:=B) Try.underlying27 Try.sizeOf50 rfl rfl rfl b8)<|za (H':=[.box 29 (zF ⟨[],0,0,[],[]⟩),.box 29 [ls cI d1,li d2,li d3,AV.osl 46 10 (List.map zO l1),AV.hd 2],.vec 50 1 (List.map zJ (l2.set B.toNat x6.1)),.box 50 (zJ x6.1)]) (zDS (k:=2) (o:=(B.toNat*1)) (f:=zJ) (l:=l2) (i:=B) (z:=x6.1) Try.sizeOf50 (fun _=>rfl) rfl rfl (by first | rfl | omega) b8 rfl rfl)<|zG<|zI<|zC ?_
    refine zAJ (zB7 (k:=1) (o:=3) (rows':=List.map zO l1) rfl rfl (zAb (fun _=>rfl)))<|zAJ (zAT (k:=1) (j:=2) (o:=4) rfl rfl rfl rfl)<|zAJ (zB7 (k:=1) (o:=4) (rows':=List.map zJ (l2.set B.toNat x6.1)) rfl rfl (zAb (fun _=>rfl)))<|zA (zR (k:=1) (o:=0) (m:=5) Try.isAgg29 Try.sizeOf29 rfl rfl rfl rfl rfl)<|zA (zB rfl)<|za (H':=[.box 29 (zF (⟨d1,d2,d3,l1,l2.set B.toNat x6.1⟩:zH)),.box 29 (zF ⟨d1,d2,d3,l1,l2.set B.toNat x6.1⟩),.dead,.box 50 (zJ x6.1)]) (zT (k:=0) (o:=0) (cs:=(zF ⟨[],0,0,[],[]⟩)) (la:=(zF (⟨d1,d2,d3,l1,l2.set B.toNat x6.1⟩:zH))) Try.sizeOf29 rfl rfl rfl rfl) ?_
    refine zA (zD rfl)<|zA (zD rfl)<|zG<|zd ?_
    cases h
    exact zEb (zGO Try.isAgg29 Try.sizeOf29 rfl rfl rfl rfl) (zAl rfl rfl) (zAl rfl rfl) rfl
   clear h
   intro _ h
   unfold zD5 at h
   refine zC<|zL h fun b5 h=>zA (zg rfl rfl b5)<|zA (zB rfl)<|zG ?_
   exact ⟨(i1+1),zAZ [0,1] rfl rfl (by kernel_rfl),h⟩
  refine zAC ?_
  exact ⟨(),zAZ [1] rfl rfl (by kernel_rfl),h⟩
 clear h
 intro _ h
 unfold zG5 at h
 refine zI<|zC<|zA zQO<|za (H':=[.box 29 (zF (⟨([]:List Int),0,0,([]:List zW),([]:List zK)⟩:zH))]) (zT (k:=0) (o:=0) (cs:=(zF ⟨[],0,0,[],[]⟩)) (la:=(zF (⟨([]:List Int),0,0,([]:List zW),([]:List zK)⟩:zH))) Try.sizeOf29 rfl rfl rfl rfl)<|zA (zD rfl)<|zA (zD rfl) ?_
 refine zG<|zd ?_
 cases h
 exact zEb (zGO Try.isAgg29 Try.sizeOf29 rfl rfl rfl rfl) (zAl rfl rfl) (zAl rfl rfl) rfl
theorem zJr {Q:List Int} {uQ:Int} {r:Int} (h:zEH Q uQ=some r):PFn Try.prog 100 [ls cI Q,li uQ] (li r):=by
 refine zq Try.func100 rfl Try.ntmps100 Try.results100 rfl ?_
 unfold zEH at h
 refine zI<|zC<|zA (zD rfl)<|zG ?_
 refine zAA (r:=r) (fun (_:Unit)=>mkE []) (fun _=>[]) (fun _=>zEm ) ?_ ?_
 ·
  refine zI<|zC<|zA (zB rfl)<|zA (ze Try.underlying22 rfl)<|zA (zB rfl)<|zG ?_
  refine zV<|z6 (σ:=Int) (fun i1=>mkE [(0,(ls cI Q)),(1,(li uQ)),(7,(li (Q.length:Int))),(8,(li i1))]) (fun i1=>[]) (fun n0 i1=>zBH Q uQ n0 i1) 0 h (fun _=>rfl) (zAZ [] rfl rfl (by kernel_rfl)) ?_
  clear h
  intro n0 i1 h
  replace h:zBF Q uQ (zBH Q uQ n0) i1=some r:=h
  unfold zBF at h
  refine zI<|zC<|zA (zi rfl rfl)<|zG<|zI ?_
  refine zY h rfl (fun b1 h => ?_) (fun b1 h => ?_)
  ·refine zS<|zI<|zV<|zI<|zC<|zA (zB rfl) ?_
   refine zA (zD rfl)<|zG<|zI<|zC<|zA (zB rfl)<|zA (zB rfl) ?_
   refine zA (zB rfl)<|zL h fun b2 h=>zA (zm Try.underlying22 Try.sizeOf3 (fun _=>rfl) rfl rfl b2)<|zA (zo (o:=0) Try.isAgg3 rfl rfl)<|zA (zBe rfl rfl)<|zG ?_
   refine zY h rfl (fun b3 h => ?_) (fun b3 h => ?_)
   ·refine zI<|zC<|zA (zB rfl)<|zA (zD rfl)<|zG<|zd ?_
    cases h
    exact zy (zAl rfl rfl)
   refine zS<|zC<|zL h fun b4 h=>zA (zg rfl rfl b4)<|zA (zB rfl)<|zG ?_
   exact ⟨(i1+1),zAZ [] rfl rfl (by kernel_rfl),h⟩
  refine zAC ?_
  exact ⟨(),zAZ [] rfl rfl (by kernel_rfl),h⟩
 clear h
 intro _ h
 unfold zEm at h
 refine zI<|zC<|zA (zD rfl)<|zG<|zd ?_
 cases h
 exact zy (zAl rfl rfl)
theorem zIk {Q:List Int} {uQ:Int} {r:Bool} (h:zB4 Q uQ=some r):PFn Try.prog 90 [ls cI Q,li uQ] (AV.lit (.bool r)):=by
 refine zq Try.func90 rfl Try.ntmps90 Try.results90 rfl ?_
 unfold zB4 at h
 refine zI<|zC<|zA (zD rfl)<|zG<|zI<|zC ?_
 refine zA (zB rfl)<|zA (zB rfl)<|zQ h fun x1 w1 h=>zb Try.func100 rfl (by kernel_rfl) (.fn 100) rfl rfl (zJr w1) rfl<|zA (zBp rfl rfl)<|zA (zD rfl) ?_
 refine zG<|zd ?_
 cases h
 exact zy (zAl rfl rfl)
theorem zK4 {J:zK} {uF:Int} {uK:Int} {r:Bool} (h:zAp J uF uK=some r):PFn Try.prog 89 [(AV.agg (zJ J)),(AV.rp [li uF] 0),(AV.rp [li uK] 0)] (AV.lit (.bool r)):=by
 refine zq Try.func89 rfl Try.ntmps89 Try.results89 rfl ?_
 unfold zAp at h
 refine zI<|zC<|zX (H':=[.box 50 (zJ J)]) (z8 (t:=50) rfl)<|zA (zD rfl)<|zG<|zI ?_
 refine zL h fun b1 h=>zQ h fun x1 w1 h => ?_
 refine zBr (n:=12) (m:=0) [.head 0 0,.head 0 0,.head 0 0,.head 0 0,.head 0 0,.head 0 0,.head 0 0,.head 0 0] [] [AV.ptr 0 0,(ls (cS cI) J.lists),li uF,(AV.rp ((cS cI) (at_ J.lists uF)) 0),(ls cI (at_ J.lists uF)),li uK,(AV.lit (.bool x1)),(AV.lit (.bool x1))] [[.box 50 (zJ J)]] (by kernel_rfl) (by kernel_rfl) ⟨D1 fun e s p=>zM (k:=0) (o:=0) (off:=0) Try.underlying50 rfl rfl Try.sizeOf48 (s 3 rfl),D1 fun e s p=>zN (k:=0) (o:=0) Try.isAgg48 p.1 rfl rfl rfl,D1 fun e s p=>zo (o:=0) Try.isAgg3 (s 1 rfl) rfl,D1 fun e s p=>zm (f:=(cS cI)) (l:=J.lists) (i:=uF) Try.underlying48 Try.sizeOf22 (fun _=>rfl) p.1 p.2.1 b1,D1 fun e s p=>zo (o:=0) Try.isAgg22 p.1 rfl,D1 fun e s p=>zo (o:=0) Try.isAgg3 (s 2 rfl) rfl,?_,D1 fun e s p=>zD p.2.2.2.2.2.2.2.2.1,trivial⟩ ?_
 ·
  intro e7 s7 p7
  refine zb (r:=(AV.lit (.bool x1))) (la:=[(ls cI (at_ J.lists uF)),li uK]) Try.func90 rfl (by kernel_rfl) (.fn 90) (zAe p7.1 (zAe p7.2.1 rfl)) rfl (zIk w1) rfl ?_
  exact zG ⟨fun _=>rfl,rfl⟩
 intro e9 s9 hq1
 refine zA5 (zCy (l:=[(4,(AV.lit (.bool x1)))]) ⟨(hq1 7 (by decide) (by decide)),trivial⟩)<|zd ?_
 cases h
 exact zy (zAl rfl rfl)
theorem zEc {Q : List zK} {uB : zK → Option Bool} {g_a_f : FuncId} {cf_a_f : Func} {code_a_f : Code} {caps_a_f : List AV} (hcf_a_f : Try.prog.funcs[g_a_f]? = some cf_a_f) (hcb_a_f : cf_a_f.body = some code_a_f) (hcn_a_f : (cf_a_f.name == "runtime.NumGoroutine") = false) (hnr_a_f : caps_a_f.all nr = true) (hg_a_f : ∀ {x0 : zK} {y : Bool}, uB x0 = some y → PFn Try.prog g_a_f ((AV.agg (zJ x0)) :: caps_a_f) (AV.lit (.bool y))) {r : Int} (h : zAa Q uB = some r) : PFn Try.prog 88 [(ls zJ Q), (AV.clo g_a_f caps_a_f)] (li r) := by
 refine zq Try.func88 rfl Try.ntmps88 Try.results88 rfl ?_
 unfold zAa at h
 refine zI<|zC<|zA (zD rfl)<|zG ?_
 refine zAA (r:=r) (fun (_:Unit)=>mkE []) (fun _=>[]) (fun _=>zBD ) ?_ ?_
 ·
  refine zI<|zC<|zA (zB rfl)<|zA (ze Try.underlying27 rfl)<|zA (zB rfl)<|zG ?_
  refine zV<|z6 (σ:=Int) (fun i1=>mkE [(0,(ls zJ Q)),(1,(AV.clo g_a_f caps_a_f)),(7,(li (Q.length:Int))),(8,(li i1))]) (fun i1=>[]) (fun n0 i1=>zw Q uB n0 i1) 0 h (fun _=>rfl) (zBg (n:=19) (m:=0) [] (l:=[(0,(ls zJ Q)),(1,(AV.clo g_a_f caps_a_f)),(7,(li (Q.length:Int))),(8,(li 0))]) ⟨⟨Sub.refl _,by kernel_rfl⟩,⟨zDz hnr_a_f,zD0 hnr_a_f⟩,⟨Sub.refl _,by kernel_rfl⟩,⟨Sub.refl _,by kernel_rfl⟩,trivial⟩ rfl rfl trivial) ?_
  clear h
  intro n0 i1 h
  replace h:zj Q uB (zw Q uB n0) i1=some r:=h
  unfold zj at h
  refine zI<|zC<|zA (zi rfl rfl)<|zG<|zI ?_
  refine zY h rfl (fun b1 h => ?_) (fun b1 h => ?_)
  ·refine zS<|zI<|zV<|zI<|zC<|zA (zB rfl) ?_
   refine zA (zD rfl)<|zG<|zI<|zC<|zA (zB rfl)<|zA (zB rfl) ?_
   refine zA (zB rfl)<|zL h fun b2 h=>zA (zm Try.underlying27 Try.sizeOf50 (fun _=>rfl) rfl rfl b2)<|zA (zBB (row:=(zJ (at_ Q i1))) (o:=0) (m:=1) (la:=(zJ (at_ Q i1))) Try.isAgg50 Try.sizeOf50 rfl rfl rfl)<|zQ h fun x1 w1 h=>zAx (S:=[]) hcf_a_f hcb_a_f hcn_a_f (.clo (caps:=caps_a_f) rfl) rfl (zDw.c (zBI.nr rfl) (zDw.nrs hnr_a_f)) (hg_a_f w1) (.inl rfl) rfl ?_
   refine zG ?_
   refine zY h rfl (fun b3 h => ?_) (fun b3 h => ?_)
   ·refine zI<|zC<|zA (zB rfl)<|zA (zD rfl)<|zG<|zd ?_
    cases h
    exact zy (zAl rfl rfl)
   refine zS<|zC<|zL h fun b4 h=>zA (zg rfl rfl b4)<|zA (zB rfl)<|zG ?_
   exact ⟨(i1+1),zBg (n:=19) (m:=0) [] (l:=[(0,(ls zJ Q)),(1,(AV.clo g_a_f caps_a_f)),(7,(li (Q.length:Int))),(8,(li (i1+1)))]) ⟨⟨Sub.refl _,by kernel_rfl⟩,⟨zDz hnr_a_f,zD0 hnr_a_f⟩,⟨Sub.refl _,by kernel_rfl⟩,⟨Sub.refl _,by kernel_rfl⟩,trivial⟩ rfl rfl trivial,h⟩
  refine zAC ?_
  exact ⟨(),zAZ [] rfl rfl (by kernel_rfl),h⟩
 clear h
 intro _ h
 unfold zBD at h
 refine zI<|zC<|zA (zD rfl)<|zG<|zd ?_
 cases h
 exact zy (zAl rfl rfl)
theorem zIv {C:zH} {D:Int} {X:Int} {r:Int} (h:zCd C D X=some r):PFn Try.prog 56 [(AV.agg (zF C)),li D,li X] (li r):=by
 refine zq Try.func56 rfl Try.ntmps56 Try.results56 rfl ?_
 unfold zCd at h
 refine zI<|zC<|zX (H':=[.box 29 (zF C)]) (z8 (t:=29) rfl)<|zX (H':=[.box 29 (zF C),.box 3 [li D]]) (zIU (t:=3) (a:=(li D)) rfl rfl)<|zX (H':=[.box 29 (zF C),.box 3 [li D],.box 3 [li X]]) (zIU (t:=3) (a:=(li X)) rfl rfl)<|zA (zD rfl) ?_
 refine zG<|zI<|zC<|zA (zM Try.underlying29 rfl rfl Try.sizeOf27 rfl)<|zA (zN Try.isAgg27 rfl rfl rfl rfl)<|zA (zKg (la:=[AV.ptr 1 0,AV.ptr 2 0]) rfl) ?_
 refine zQ h fun x1 w1 h=>zAx (r':=(li x1)) (la:=[ls zJ C.caches,(AV.clo 89 [AV.ptr 1 0,AV.ptr 2 0])]) (la':=[ls zJ C.caches,(AV.clo 89 [(AV.rp [li D] 0),(AV.rp [li X] 0)])]) (r:=(li x1)) (S:=[1,2]) Try.func88 rfl (by kernel_rfl) (.fn 88) rfl ⟨zBI.nr rfl,zBI.clo (⟨zBI.ptr (cs:=[li D]) rfl rfl rfl,zBI.ptr (cs:=[li X]) rfl rfl rfl,trivial⟩),trivial⟩ (zEc Try.func89 rfl (by kernel_rfl) rfl (fun hy=>zK4  hy) w1) (.inr trivial) rfl<|zA (zD rfl)<|zG<|zd ?_
 cases h
 exact zy (zAl rfl rfl)
theorem zHL {C:zH} {D:Int} {X:Int} {r:Bool} (h:zDU C D X=some r):PFn Try.prog 35 [(AV.agg (zF C)),li D,li X] (AV.lit (.bool r)):=by
 refine zq Try.func35 rfl Try.ntmps35 Try.results35 rfl ?_
 unfold zDU at h
 refine zI<|zC<|zX (H':=[.box 29 (zF C)]) (z8 (t:=29) rfl)<|zA (zD rfl)<|zG<|zI ?_
 refine zC<|zA (zM Try.underlying29 rfl rfl Try.sizeOf26 rfl)<|zA (zN Try.isAgg26 rfl rfl rfl rfl)<|zA (zB rfl)<|zL h fun b1 h=>zA (zm Try.underlying26 Try.sizeOf46 (fun _=>rfl) rfl rfl b1) ?_
 refine zA (zBB (row:=(zO (at_ C.zones D))) (o:=0) (m:=10) (la:=(zO (at_ C.zones D))) Try.isAgg46 Try.sizeOf46 rfl rfl rfl)<|zA (zB rfl)<|zQ h fun x1 w1 h=>zb Try.func38 rfl (by kernel_rfl) (.fn 38) rfl rfl (zKo w1) rfl<|zA (zB rfl)<|zZ rfl rfl (fun c1=>zv.step (zR (k:=0) (o:=0) (m:=5) Try.isAgg29 Try.sizeOf29 rfl rfl rfl rfl rfl)) ?_
 refine zZ rfl rfl (fun c2=>zv.step (zB rfl))<|zZ rfl rfl (fun c3=>zv.step (zB rfl))<|zQ h fun x2 w2 h=>zDa (g:=14) (s:=x1) (r':=(li x2)) rfl rfl (fun c4=>⟨56,_,_,[],[(AV.agg (zF C)),li D,li X],[(AV.agg (zF C)),li D,li X],li x2,[],Try.func56,rfl,by kernel_rfl,.fn 56,(zAe (zAQ rfl c4) (zAe (zAQ rfl c4) (zAe (zAQ rfl c4) rfl))),⟨zBI.nr rfl,zBI.nr rfl,zBI.nr rfl,trivial⟩,zIv (zIL c4 w2),.inl rfl,rfl⟩)<|zZ rfl rfl (fun c5=>zv.step (zBp (zAQ rfl c5) rfl))<|zA (zh rfl rfl) ?_
 refine zA (zD rfl)<|zG<|zd ?_
 cases h
 exact zy (zAl rfl rfl)
theorem zGa {C:zH} {X:Int} {r:Bool} (h:zDC C X=some r):PFn Try.prog 14 [(AV.agg (zF C)),li X] (AV.lit (.bool r)):=by
 refine zq Try.func14 rfl Try.ntmps14 Try.results14 rfl ?_
 unfold zDC at h
 refine zI<|zC<|zX (H':=[.box 29 (zF C)]) (z8 (t:=29) rfl)<|zA (zD rfl)<|zG<|zI ?_
 refine zI<|zC<|zA (zR (k:=0) (o:=0) (m:=5) Try.isAgg29 Try.sizeOf29 rfl rfl rfl rfl rfl)<|zQ h fun x1 w1 h=>zb Try.func15 rfl (by kernel_rfl) (.fn 15) rfl rfl (zA2 w1) rfl<|zA (z7 rfl rfl) ?_
 refine zG ?_
 refine zY h rfl (fun b1 h => ?_) (fun b1 h => ?_)
 ·refine zI<|zC<|zA (zD rfl)<|zG<|zd ?_
  cases h
  exact zy (zAl rfl rfl)
 refine zS<|zI<|zC<|zA (zR (k:=0) (o:=0) (m:=5) Try.isAgg29 Try.sizeOf29 rfl rfl rfl rfl rfl)<|zA (zB rfl)<|zQ h fun x2 w2 h => ?_
 refine zb Try.func34 rfl (by kernel_rfl) (.fn 34) rfl rfl (zEh w2) rfl<|zA (zD rfl)<|zG<|zI<|zC<|zA (zB rfl) ?_
 refine zA (zBp rfl rfl)<|zA (zB rfl)<|z9 rfl rfl (fun c1=>zv.step (zR (k:=0) (o:=0) (m:=5) Try.isAgg29 Try.sizeOf29 rfl rfl rfl rfl rfl))<|z9 rfl rfl (fun c2=>zv.step (zB rfl))<|z9 rfl rfl (fun c3=>zv.step (zB rfl))<|zQ h fun x3 w3 h => ?_
 refine zGc (g:=14) (s:=decide (0≤x2)) (r':=(AV.lit (.bool x3))) rfl rfl (fun c4=>⟨35,_,_,[],[(AV.agg (zF C)),li x2,li X],[(AV.agg (zF C)),li x2,li X],(AV.lit (.bool x3)),[],Try.func35,rfl,by kernel_rfl,.fn 35,(zAe (zAQ rfl c4) (zAe (zAQ rfl c4) (zAe (zAQ rfl c4) rfl))),⟨zBI.nr rfl,zBI.nr rfl,zBI.nr rfl,trivial⟩,zHL (zIL c4 w3),.inl rfl,rfl⟩)<|zA (zAL (j := .lit undef) rfl rfl)<|zA (zD rfl)<|zG<|zd ?_
 cases h
 exact zy (zAl rfl rfl)
theorem zMP {C:zH} {D:Int} {r:Int} (h:zIm C D=some r):PFn Try.prog 18 [(AV.agg (zF C)),li D] (li r):=by
 refine zq Try.func18 rfl Try.ntmps18 Try.results18 rfl ?_
 unfold zIm at h
 refine zI<|zC<|zX (H':=[.box 29 (zF C)]) (z8 (t:=29) rfl)<|zA (zD rfl)<|zG<|zI ?_
 refine zI<|zC<|zA (zR (k:=0) (o:=0) (m:=5) Try.isAgg29 Try.sizeOf29 rfl rfl rfl rfl rfl)<|zQ h fun x1 w1 h=>zb Try.func15 rfl (by kernel_rfl) (.fn 15) rfl rfl (zA2 w1) rfl<|zA (z7 rfl rfl) ?_
 refine zA (zB rfl)<|zZ rfl rfl (fun c1=>zv.step (zB rfl))<|zZ rfl rfl (fun c2=>zv.step (zi (zAQ rfl c2) rfl))<|zA (zh rfl rfl)<|zA (zB rfl)<|zZ rfl rfl (fun c3=>zv.step (zB rfl)) ?_
 refine zZ rfl rfl (fun c4=>zv.step (zM Try.underlying29 rfl rfl Try.sizeOf26 rfl))<|zZ rfl rfl (fun c5=>zv.step (zN Try.isAgg26 (zAQ rfl c5) rfl rfl rfl))<|zZ rfl rfl (fun c6=>zv.step (ze Try.underlying26 (zAQ rfl c6)))<|zZ rfl rfl (fun c7=>zv.step (zBp (zAQ rfl c7) (zAQ rfl c7)))<|zA (zh rfl rfl)<|zG ?_
 refine zY h rfl (fun b1 h => ?_) (fun b1 h => ?_)
 ·refine zI<|zC<|zA (zD rfl)<|zG<|zd ?_
  cases h
  exact zy (zAl rfl rfl)
 refine zS<|zI<|zC<|zA (zR (k:=0) (o:=0) (m:=5) Try.isAgg29 Try.sizeOf29 rfl rfl rfl rfl rfl)<|zA (zB rfl)<|zQ h fun x2 w2 h => ?_
 refine zb Try.func41 rfl (by kernel_rfl) (.fn 41) rfl rfl (zG6 w2) rfl<|zA (zD rfl)<|zG<|zd ?_
 cases h
 exact zy (zAl rfl rfl)
theorem zMz {C:zH} {X:Int} {r:Int} (h:zJY C X=some r):PFn Try.prog 19 [(AV.agg (zF C)),li X] (li r):=by
 refine zq Try.func19 rfl Try.ntmps19 Try.results19 rfl ?_
 unfold zJY at h
 refine zI<|zC<|zX (H':=[.box 29 (zF C)]) (z8 (t:=29) rfl)<|zA (zD rfl)<|zG<|zI ?_
 refine zI<|zC<|zA (zR (k:=0) (o:=0) (m:=5) Try.isAgg29 Try.sizeOf29 rfl rfl rfl rfl rfl)<|zQ h fun x1 w1 h=>zb Try.func15 rfl (by kernel_rfl) (.fn 15) rfl rfl (zA2 w1) rfl<|zA (z7 rfl rfl) ?_
 refine zG ?_
 refine zY h rfl (fun b1 h => ?_) (fun b1 h => ?_)
 ·refine zI<|zC<|zA (zD rfl)<|zG<|zd ?_
  cases h
  exact zy (zAl rfl rfl)
 refine zS<|zI<|zC<|zA (zR (k:=0) (o:=0) (m:=5) Try.isAgg29 Try.sizeOf29 rfl rfl rfl rfl rfl)<|zA (zB rfl)<|zQ h fun x2 w2 h => ?_
 refine zb Try.func34 rfl (by kernel_rfl) (.fn 34) rfl rfl (zEh w2) rfl<|zA (zD rfl)<|zG<|zd ?_
 cases h
 exact zy (zAl rfl rfl)
theorem zMF {A:zK} {B:Int} {G:Int} {U:Int} {ua:Int} {r:zK×(List Int)×Int} (h:zIW A B G U ua=some r):PFn Try.prog 46 [(AV.agg (zJ A)),li B,li G,li U,li ua] (AV.tup [(AV.agg (zJ r.1)),ls cI r.2.1,li r.2.2]):=by
 refine zq Try.func46 rfl Try.ntmps46 Try.results46 rfl ?_
 unfold zIW at h
 refine zI<|zC<|zX (H':=[.box 50 (zJ A)]) (z8 (t:=50) rfl)<|zX (H':=[.box 50 (zJ A),.box 50 [(ls (cS cI) ([]:List (List Int)))]]) zv1<|zA (zD rfl)<|zA (zD rfl) ?_
 refine zG<|zI<|zI<|zC<|zA (zR (k:=0) (o:=0) (m:=1) Try.isAgg50 Try.sizeOf50 rfl rfl rfl rfl rfl)<|zA (zB rfl) ?_
 refine zQ h fun x1 w1 h=>zb Try.func79 rfl (by kernel_rfl) (.fn 79) rfl rfl (zGx w1) rfl<|zA (zD rfl)<|zG<|zI<|zC ?_
 refine zA (zB rfl)<|zA (z7 rfl rfl)<|zG ?_
 refine zY h rfl (fun b1 h => ?_) (fun b1 h => ?_)
 ·refine zI<|zC<|zA zv2<|zA (zB rfl)<|za (H':=[.box 50 (zJ A),.box 50 (zJ (⟨([]:List (List Int))⟩:zK))]) (zT (k:=1) (o:=0) (cs:=[(ls (cS cI) ([]:List (List Int)))]) (la:=(zJ (⟨([]:List (List Int))⟩:zK))) Try.sizeOf50 rfl rfl rfl rfl)<|zA (zD rfl) ?_
  refine zA (zD rfl)<|zG<|zd ?_
  cases h
  exact zEb (zGO Try.isAgg50 Try.sizeOf50 rfl rfl rfl rfl) (zI6 (zAl rfl rfl) zBC.nils) (zAl rfl rfl) rfl
 refine zS<|zI<|zI<|zC<|zA (zB rfl)<|zQ h fun x2 w2 h => ?_
 refine zb Try.func64 rfl (by kernel_rfl) (.fn 64) rfl rfl (zHN w2) rfl<|zA (zBf (t:=x2) rfl)<|zG ?_
 refine zY h rfl (fun b2 h => ?_) (fun b2 h => ?_)
 ·refine zI<|zC<|zA zv2<|za (H':=[.box 50 (zJ A),.box 50 (zJ (⟨([]:List (List Int))⟩:zK))]) (zT (k:=1) (o:=0) (cs:=[(ls (cS cI) ([]:List (List Int)))]) (la:=(zJ (⟨([]:List (List Int))⟩:zK))) Try.sizeOf50 rfl rfl rfl rfl)<|zA (zD rfl)<|zA (zD rfl) ?_
  refine zG<|zd ?_
  cases h
  exact zEb (zGO Try.isAgg50 Try.sizeOf50 rfl rfl rfl rfl) (zI6 (zAl rfl rfl) zBC.nils) (zAl rfl rfl) rfl
 refine zS<|zI<|zI<|zC<|zA (zB rfl)<|zA (zi rfl rfl) ?_
 refine zA (zB rfl)<|zZ rfl rfl (fun c1=>zv.step (zB rfl))<|zZ rfl rfl (fun c2=>zv.step (zB rfl))<|zZ rfl rfl (fun c3=>zv.step (zCf (zAQ rfl c3) (zAQ rfl c3)))<|zA (zh rfl rfl)<|zG ?_
 refine zY h rfl (fun b3 h => ?_) (fun b3 h => ?_)
 ·refine zI<|zC<|zA zv2<|za (H':=[.box 50 (zJ A),.box 50 (zJ (⟨([]:List (List Int))⟩:zK))]) (zT (k:=1) (o:=0) (cs:=[(ls (cS cI) ([]:List (List Int)))]) (la:=(zJ (⟨([]:List (List Int))⟩:zK))) Try.sizeOf50 rfl rfl rfl rfl)<|zA (zD rfl)<|zA (zD rfl) ?_
  refine zG<|zd ?_
  cases h
  exact zEb (zGO Try.isAgg50 Try.sizeOf50 rfl rfl rfl rfl) (zI6 (zAl rfl rfl) zBC.nils) (zAl rfl rfl) rfl
 refine zS<|zI<|zI<|zC<|zA (zR (k:=0) (o:=0) (m:=1) Try.isAgg50 Try.sizeOf50 rfl rfl rfl rfl rfl)<|zQ h fun x3 w3 h => ?_
 refine zNt (es:=mI Value.bool x3) (la:=[(AV.agg (zJ A))]) (la':=[(AV.agg (zJ A))]) (S:=[]) Try.func65 rfl (by kernel_rfl) (.fn 65) rfl ⟨zBI.nr rfl,trivial⟩ (zIA w3)<|zA (zB rfl)<|zA (zN5 (k:=2) (g:=Value.bool) (q:=G) (l:=x3) (dflt:=false) (a:=(AV.lit (.bool (zMB false x3 G)))) Try.underlying83 Try.underlying3 Try.zeroValue4 rfl rfl rfl rfl)<|zG ?_
 refine zY h rfl (fun b4 h => ?_) (fun b4 h => ?_)
 ·refine zI<|zC<|zA zv2<|za (H':=[.box 50 (zJ A),.box 50 (zJ (⟨([]:List (List Int))⟩:zK)),.map (mI Value.bool x3)]) (zT (k:=1) (o:=0) (cs:=[(ls (cS cI) ([]:List (List Int)))]) (la:=(zJ (⟨([]:List (List Int))⟩:zK))) Try.sizeOf50 rfl rfl rfl rfl)<|zA (zD rfl)<|zA (zD rfl) ?_
  refine zG<|zd ?_
  cases h
  exact zEb (zGO Try.isAgg50 Try.sizeOf50 rfl rfl rfl rfl) (zI6 (zAl rfl rfl) zBC.nils) (zAl rfl rfl) rfl
 refine zS<|zI<|zL h fun b5 h=>zL h fun b6 h=>zL h fun b7 h => ?_
 refine zBr (n:=85) (m:=0) [.head 0 0,.head 0 0,.head 0 0,.head 0 0,.head 0 0,.head 0 0,.head 0 0,.head 0 0,.head 0 0,.head 0 0,.head 0 0,.head 0 0,.head 0 0,.tail 0,.head 1 1] [13] [AV.ptr 0 0,(ls (cS cI) A.lists),li B,(AV.rp ((cS cI) (at_ A.lists B)) 0),(ls cI (at_ A.lists B)),(li ((at_ A.lists B).length:Int)),AV.ptr 0 0,(ls (cS cI) A.lists),li B,(AV.rp ((cS cI) (at_ A.lists B)) 0),(ls cI (at_ A.lists B)),(li ((at_ A.lists B).length:Int)),(li (((at_ A.lists B).length:Int)+1)),AV.hd 3,AV.hd 3] [[.box 50 (zJ A),.box 50 [(ls (cS cI) ([]:List (List Int)))],.map (mI Value.bool x3)],[.box 50 (zJ A),.box 50 [(ls (cS cI) ([]:List (List Int)))],.map (mI Value.bool x3),.vec 3 1 (List.map cI (List.replicate ((at_ A.lists B).length:Int).toNat 0))]] (by kernel_rfl) (by kernel_rfl) ⟨D1 fun e s p=>zM (k:=0) (o:=0) (off:=0) Try.underlying50 rfl rfl Try.sizeOf48 (s 5 rfl),D1 fun e s p=>zN (k:=0) (o:=0) Try.isAgg48 p.1 rfl rfl rfl,D1 fun e s p=>zB (s 1 rfl),D1 fun e s p=>zm (f:=(cS cI)) (l:=A.lists) (i:=B) Try.underlying48 Try.sizeOf22 (fun _=>rfl) p.1 p.2.1 b5,D1 fun e s p=>zo (o:=0) Try.isAgg22 p.1 rfl,D1 fun e s p=>ze (f:=cI) (l:=at_ A.lists B) Try.underlying22 p.1,D1 fun e s p=>zM (k:=0) (o:=0) (off:=0) Try.underlying50 rfl rfl Try.sizeOf48 (s 5 rfl),D1 fun e s p=>zN (k:=0) (o:=0) Try.isAgg48 p.1 rfl rfl rfl,D1 fun e s p=>zB (s 1 rfl),D1 fun e s p=>zm (f:=(cS cI)) (l:=A.lists) (i:=B) Try.underlying48 Try.sizeOf22 (fun _=>rfl) p.1 p.2.1 b5,D1 fun e s p=>zo (o:=0) Try.isAgg22 p.1 rfl,D1 fun e s p=>ze (f:=cI) (l:=at_ A.lists B) Try.underlying22 p.1,D1 fun e s p=>zg (a:=((at_ A.lists B).length:Int)) (b:=1) p.1 rfl b6,?_,D1 fun e s p=>zD p.2.2.2.2.2.2.2.2.2.2.2.2.2.2.1,trivial⟩ ?_
 ·
  intro e14 s14 p14
  refine zGs (f:=cI) (a:=((at_ A.lists B).length:Int)) (c:=((at_ A.lists B).length:Int)+1) (d0:=0) zHR ⟨zBC.refl _,trivial⟩ rfl Try.underlying22 p14.1 p14.2.1 b7 ?_
  exact zG ⟨fun _=>rfl,rfl⟩
 intro e16 s16 hq1
 refine zA5 (zCy (l:=[(1,(li B)),(2,(li G)),(3,(li U)),(4,(li ua)),(5,(AV.ptr 0 0)),(10,(AV.ptr 1 0)),(14,(AV.hd 3))]) ⟨s16 1 rfl,s16 2 rfl,s16 3 rfl,s16 4 rfl,s16 5 rfl,s16 10 rfl,(hq1 14 (by decide) (by decide)),trivial⟩)<|zI<|zC<|zA (zB (av:=(AV.hd 3)) rfl)<|zA (zM (k:=0) (o:=0) (off:=0) Try.underlying50 rfl rfl Try.sizeOf48 rfl)<|zA (zN (k:=0) (o:=0) (a:=(ls (cS cI) A.lists)) Try.isAgg48 rfl rfl rfl rfl) ?_
 refine zA (zB rfl)<|zA (zm Try.underlying48 Try.sizeOf22 (fun _=>rfl) rfl rfl b5)<|zA (zo (o:=0) Try.isAgg22 rfl rfl)<|zX (H':=[.box 50 (zJ A),.box 50 [(ls (cS cI) ([]:List (List Int)))],.map (mI Value.bool x3),.vec 3 1 (List.map cI (zC0 (List.replicate ((at_ A.lists B).length:Int).toNat 0) (at_ A.lists B)))]) (zLH (f:=cI) (k:=3) (l:=List.replicate ((at_ A.lists B).length:Int).toNat 0) (l2:=at_ A.lists B) Try.underlying22 Try.sizeOf3 (fun _=>rfl) rfl rfl rfl)<|zG<|zI ?_
 refine zC<|zA (zB rfl)<|zA (zB rfl)<|zHF (a:=(li G)) zHR Try.underlying22 rfl rfl rfl rfl<|zL h fun b8 h=>zEq (f:=cI) (k:=3) (j:=4) (l:=zC0 (List.replicate ((at_ A.lists B).length:Int).toNat 0) (at_ A.lists B)) (l':=[G]) zHR (fun _=>rfl) Try.underlying22 rfl rfl rfl rfl b8 ?_
 refine zA (zD rfl)<|zG<|zI<|zI<|zC<|zA (zB rfl) ?_
 refine zA (zD1 (f:=cI) (l:=(zC0 (List.replicate ((at_ A.lists B).length:Int).toNat 0) (at_ A.lists B))++[G]) Try.underlying22 rfl rfl)<|zA (zB rfl)<|zA (zIQ rfl rfl)<|zG ?_
 refine zY h rfl (fun b9 h => ?_) (fun b9 h => ?_)
 ·refine zI<|zC<|zA (zR (k:=0) (o:=0) (m:=1) Try.isAgg50 Try.sizeOf50 rfl rfl rfl rfl rfl)<|zA (zB rfl)<|zA (zB rfl)<|zQ h fun x4 w4 h => ?_
  refine zAJ (zFP (j:=5) (ds:=[14,64,65,71]) (rows':=List.map cI ((zC0 (List.replicate ((at_ A.lists B).length:Int).toNat 0) (at_ A.lists B))++[G])) rfl (zAb (fun _=>rfl)) ⟨rfl,rfl,rfl,rfl,trivial⟩)<|zQ h fun x5 w5 h=>zb Try.func80 rfl (by kernel_rfl) (.fn 80) rfl rfl (zEi w5) rfl<|za (H':=[.box 50 (zJ A),.box 50 (zJ x5),.map (mI Value.bool x3),.dead,.vec 3 1 (List.map cI [G]),.dead]) (zT (k:=1) (o:=0) (cs:=[(ls (cS cI) ([]:List (List Int)))]) (la:=(zJ x5)) Try.sizeOf50 rfl rfl rfl rfl)<|zA (zD rfl)<|zA (zD rfl) ?_
  refine zG<|zd ?_
  cases h
  exact zEb (zGO Try.isAgg50 Try.sizeOf50 rfl rfl rfl rfl) (zI6 (zAl rfl rfl) zBC.nils) (zAl rfl rfl) rfl
 refine zS<|zI<|zC<|zA (zB rfl)<|zL h fun b10 h=>zGs (f:=cI) (a:=U) (c:=U) (d0:=0) zHR ⟨zBC.refl _,trivial⟩ rfl Try.underlying22 rfl rfl b10 ?_
 refine zA (zD rfl)<|zG<|zI<|zC<|zA (zB rfl)<|zA (zB rfl) ?_
 refine zX (H':=[.box 50 (zJ A),.box 50 [(ls (cS cI) ([]:List (List Int)))],.map (mI Value.bool x3),.dead,.vec 3 1 (List.map cI [G]),.vec 3 1 (List.map cI ((zC0 (List.replicate ((at_ A.lists B).length:Int).toNat 0) (at_ A.lists B))++[G])),.vec 3 1 (List.map cI (zC0 (List.replicate U.toNat 0) ((zC0 (List.replicate ((at_ A.lists B).length:Int).toNat 0) (at_ A.lists B))++[G])))]) (zRB (f:=cI) (k:=6) (j:=5) (l:=List.replicate U.toNat 0) (l2:=(zC0 (List.replicate ((at_ A.lists B).length:Int).toNat 0) (at_ A.lists B))++[G]) Try.underlying22 Try.sizeOf3 (fun _=>rfl) rfl rfl rfl rfl)<|zG<|zI<|zA5 (zFP (j:=5) (ds:=[14,64,65,76]) (rows':=List.map cI ((zC0 (List.replicate ((at_ A.lists B).length:Int).toNat 0) (at_ A.lists B))++[G])) rfl (zAb (fun _=>rfl)) ⟨rfl,rfl,rfl,rfl,trivial⟩)<|zL h fun b11 h=>zQ h fun x6 w6 h => ?_
 refine zBr (n:=85) (m:=0) [.head 0 0,.head 0 0,.head 0 0,.head 0 0,.head 0 0,.head 0 0,.head 0 1,.tail 0,.head 1 1,.head 1 1] [7] [(AV.agg (zJ A)),li B,(ls cI ((zC0 (List.replicate ((at_ A.lists B).length:Int).toNat 0) (at_ A.lists B))++[G])),li U,(ls cI (zFX ((zC0 (List.replicate ((at_ A.lists B).length:Int).toNat 0) (at_ A.lists B))++[G]) U (((zC0 (List.replicate ((at_ A.lists B).length:Int).toNat 0) (at_ A.lists B))++[G]).length:Int))),(AV.agg (zJ x6)),AV.hd 6,.any,AV.hd 6,li 0] [[.box 50 (zJ A),.box 50 [(ls (cS cI) ([]:List (List Int)))],.map (mI Value.bool x3),.dead,.vec 3 1 (List.map cI [G]),.dead,.vec 3 1 (List.map cI (zC0 (List.replicate U.toNat 0) ((zC0 (List.replicate ((at_ A.lists B).length:Int).toNat 0) (at_ A.lists B))++[G])))],[.box 50 (zJ A),.box 50 (zJ x6),.map (mI Value.bool x3),.dead,.vec 3 1 (List.map cI [G]),.dead,.vec 3 1 (List.map cI (zC0 (List.replicate U.toNat 0) ((zC0 (List.replicate ((at_ A.lists B).length:Int).toNat 0) (at_ A.lists B))++[G])))]] (by kernel_rfl) (by kernel_rfl) ⟨D1 fun e s p=>zR (k:=0) (o:=0) (m:=1) Try.isAgg50 Try.sizeOf50 (s 5 rfl) rfl rfl rfl rfl,D1 fun e s p=>zB (s 1 rfl),D1 fun e s p=>zB (s 14 rfl),D1 fun e s p=>zB (s 3 rfl),D1 fun e s p=>zKf (lo:=U) (f:=cI) (l:=(zC0 (List.replicate ((at_ A.lists B).length:Int).toNat 0) (at_ A.lists B))++[G]) Try.underlying22 Try.sizeOf3 (fun _=>rfl) p.1 p.2.1 b11,?_,⟨D1 fun e s p=>zB (s 15 rfl),D1 fun e s p=>zB (s 15 rfl)⟩,?_,D1 fun e s p=>zD p.2.2.2.2.2.2.2.2.1,D1 fun e s p=>zD rfl,trivial⟩ ?_
 ·
  intro e22 s22 p21
  refine zb (r:=(AV.agg (zJ x6))) (la:=[(AV.agg (zJ A)),li B,(ls cI (zFX ((zC0 (List.replicate ((at_ A.lists B).length:Int).toNat 0) (at_ A.lists B))++[G]) U (((zC0 (List.replicate ((at_ A.lists B).length:Int).toNat 0) (at_ A.lists B))++[G]).length:Int)))]) Try.func80 rfl (by kernel_rfl) (.fn 80) (zAe p21.1 (zAe p21.2.1 (zAe p21.2.2.1 rfl))) rfl (zEi w6) rfl ?_
  exact zG ⟨fun _=>rfl,rfl⟩
 ·
  intro e25 s25 p24
  refine za (H':=[.box 50 (zJ A),.box 50 (zJ x6),.map (mI Value.bool x3),.dead,.vec 3 1 (List.map cI [G]),.dead,.vec 3 1 (List.map cI (zC0 (List.replicate U.toNat 0) ((zC0 (List.replicate ((at_ A.lists B).length:Int).toNat 0) (at_ A.lists B))++[G])))]) (zT (k:=1) (o:=0) (cs:=[(ls (cS cI) ([]:List (List Int)))]) (la:=(zJ x6)) Try.sizeOf50 (by exact (s25 10 rfl)) rfl rfl (by exact p24.2.2.2.2.2.2.2.1)) ?_
  exact zG ⟨fun _=>rfl,rfl⟩
 intro e28 s28 hq2
 refine zA5 (zCy (l:=[(10,(AV.ptr 1 0)),(11,(AV.hd 6)),(12,(li 0))]) ⟨s28 10 rfl,(hq2 8 (by decide) (by decide)),(hq2 9 (by decide) (by decide)),trivial⟩)<|zA5 (zFP (j:=6) (ds:=[11]) (rows':=List.map cI (zC0 (List.replicate U.toNat 0) ((zC0 (List.replicate ((at_ A.lists B).length:Int).toNat 0) (at_ A.lists B))++[G]))) rfl (zAb (fun _=>rfl)) ⟨rfl,trivial⟩)<|zd ?_
 cases h
 exact zEb (zGO Try.isAgg50 Try.sizeOf50 rfl rfl rfl rfl) (zAl rfl rfl) (zAl rfl rfl) rfl
theorem zHW {A:zH} {B:Int} {G:Int} {r:zH×Int} (h:zEZ A B G=some r):PFn Try.prog 20 [(AV.agg (zF A)),li B,li G] (AV.tup [(AV.agg (zF r.1)),li r.2]):=by
 refine zq Try.func20 rfl Try.ntmps20 Try.results20 rfl ?_
 unfold zEZ at h
 refine zI<|zC<|zX (H':=[.box 29 (zF A)]) (z8 (t:=29) rfl)<|zX (H':=[.box 29 (zF A),.box 29 (zF ⟨[],0,0,[],[]⟩)]) zv3<|zA (zD rfl)<|zG ?_
 refine zI<|zI<|zC<|zA (zR (k:=0) (o:=0) (m:=5) Try.isAgg29 Try.sizeOf29 rfl rfl rfl rfl rfl)<|zQ h fun x1 w1 h=>zb Try.func15 rfl (by kernel_rfl) (.fn 15) rfl rfl (zA2 w1) rfl ?_
 refine zA (zD rfl)<|zG<|zI<|zC<|zA (zB rfl)<|zA (z7 rfl rfl) ?_
 refine zG ?_
 refine zY h rfl (fun b1 h => ?_) (fun b1 h => ?_)
 ·refine zI<|zC<|zA zQO<|zA (zB rfl)<|za (H':=[.box 29 (zF A),.box 29 (zF (⟨([]:List Int),0,0,([]:List zW),([]:List zK)⟩:zH))]) (zT (k:=1) (o:=0) (cs:=(zF ⟨[],0,0,[],[]⟩)) (la:=(zF (⟨([]:List Int),0,0,([]:List zW),([]:List zK)⟩:zH))) Try.sizeOf29 rfl rfl rfl rfl)<|zA (zD rfl) ?_
  refine zG<|zd ?_
  cases h
  exact zCF (zGO Try.isAgg29 Try.sizeOf29 rfl rfl rfl rfl) (zAl rfl rfl) rfl
 refine zS<|zI<|zC<|zA (zR (k:=0) (o:=0) (m:=5) Try.isAgg29 Try.sizeOf29 rfl rfl rfl rfl rfl)<|zA (zB rfl)<|zQ h fun x2 w2 h => ?_
 refine zb Try.func34 rfl (by kernel_rfl) (.fn 34) rfl rfl (zEh w2) rfl<|zA (zD rfl)<|zG<|zI<|zI<|zC ?_
 refine zA (zB rfl)<|zA (zi rfl rfl)<|zA (zB rfl)<|zZ rfl rfl (fun c1=>zv.step (zB rfl))<|zZ rfl rfl (fun c2=>zv.step (zM Try.underlying29 rfl rfl Try.sizeOf22 rfl))<|zZ rfl rfl (fun c3=>zv.step (zN Try.isAgg22 (zAQ rfl c3) rfl rfl rfl)) ?_
 refine zZ rfl rfl (fun c4=>zv.step (ze Try.underlying22 (zAQ rfl c4)))<|zZ rfl rfl (fun c5=>zv.step (zBp (zAQ rfl c5) (zAQ rfl c5)))<|zA (zh rfl rfl)<|zA (zB rfl)<|zZ rfl rfl (fun c6=>zv.step (zB rfl))<|zZ rfl rfl (fun c7=>zv.step (zi (zAQ rfl c7) rfl)) ?_
 refine zA (zh rfl rfl)<|zG ?_
 refine zY h rfl (fun b2 h => ?_) (fun b2 h => ?_)
 ·refine zI<|zC<|zA zQO<|za (H':=[.box 29 (zF A),.box 29 (zF (⟨([]:List Int),0,0,([]:List zW),([]:List zK)⟩:zH))]) (zT (k:=1) (o:=0) (cs:=(zF ⟨[],0,0,[],[]⟩)) (la:=(zF (⟨([]:List Int),0,0,([]:List zW),([]:List zK)⟩:zH))) Try.sizeOf29 rfl rfl rfl rfl)<|zA (zD rfl)<|zG ?_
  refine zd ?_
  cases h
  exact zCF (zGO Try.isAgg29 Try.sizeOf29 rfl rfl rfl rfl) (zAl rfl rfl) rfl
 refine zS<|zI<|zI<|zC<|zA (zR (k:=0) (o:=0) (m:=5) Try.isAgg29 Try.sizeOf29 rfl rfl rfl rfl rfl)<|zA (zB rfl) ?_
 refine zA (zB rfl)<|zQ h fun x3 w3 h=>zb Try.func35 rfl (by kernel_rfl) (.fn 35) rfl rfl (zHL w3) rfl<|zG ?_
 refine zY h rfl (fun b3 h => ?_) (fun b3 h => ?_)
 ·refine zI<|zC<|zA zQO<|za (H':=[.box 29 (zF A),.box 29 (zF (⟨([]:List Int),0,0,([]:List zW),([]:List zK)⟩:zH))]) (zT (k:=1) (o:=0) (cs:=(zF ⟨[],0,0,[],[]⟩)) (la:=(zF (⟨([]:List Int),0,0,([]:List zW),([]:List zK)⟩:zH))) Try.sizeOf29 rfl rfl rfl rfl)<|zA (zD rfl)<|zG ?_
  refine zd ?_
  cases h
  exact zCF (zGO Try.isAgg29 Try.sizeOf29 rfl rfl rfl rfl) (zAl rfl rfl) rfl
 refine zS<|zI<|zC<|zA (zR (k:=0) (o:=0) (m:=5) Try.isAgg29 Try.sizeOf29 rfl rfl rfl rfl rfl)<|zQ h fun x4 w4 h=>zH3 (cs:=[ls cI x4.nodes,li x4.batch,li x4.high,AV.osl 46 10 (List.map zO x4.zones),AV.osl 50 1 (List.map zAS x4.caches)]) (la:=[(AV.agg (zF A))]) (la':=[(AV.agg (zF A))]) (S:=[]) Try.func42 rfl (by kernel_rfl) (.fn 42) rfl ⟨zBI.nr rfl,trivial⟩ (zD7 w4) (.inl rfl) ?_
 refine zAJ (zMM (k:=2) (o:=4) (cs:=[ls cI x4.nodes,li x4.batch,li x4.high,AV.osl 46 10 (List.map zO x4.zones),AV.osl 50 1 (List.map zAS x4.caches)]) (rows':=List.map zJ x4.caches) rfl rfl (zHr (fun x=>zEw x)))<|zX (H':=[.box 29 (zF A),.box 29 (zF ⟨[],0,0,[],[]⟩),.val (.agg [ls cI x4.nodes,li x4.batch,li x4.high,AV.osl 46 10 (List.map zO x4.zones),AV.osl 50 1 (List.map zJ x4.caches)]),.box 29 (zF ⟨[],0,0,[],[]⟩)]) zv3<|za (H':=[.box 29 (zF A),.box 29 (zF ⟨[],0,0,[],[]⟩),.dead,.box 29 [ls cI x4.nodes,li x4.batch,li x4.high,AV.osl 46 10 (List.map zO x4.zones),AV.osl 50 1 (List.map zJ x4.caches)]]) (zEN (k:=3) (o:=0) (j:=2) (cs:=(zF ⟨[],0,0,[],[]⟩)) (la:=[ls cI x4.nodes,li x4.batch,li x4.high,AV.osl 46 10 (List.map zO x4.zones),AV.osl 50 1 (List.map zJ x4.caches)]) Try.sizeOf29 rfl rfl rfl rfl rfl (by decide))<|zG<|zI<|zA5 (zBz (k:=3) (o:=4) (t':=50) (sz:=1) (rows:=List.map zJ x4.caches) rfl rfl) ?_
 refine zL h fun b4 h=>zQ h fun x5 w5 h => ?_
 refine zBr (n:=73) (m:=0) [.head 0 1,.head 0 1,.head 0 1,.head 0 1,.head 0 1,.head 0 1,.head 0 1,.head 0 1,.head 0 1,.head 0 1,.head 0 1,.head 0 1,.head 0 1,.head 0 1,.head 0 2,.head 0 2,.tail 0,.tail 1,.head 2 2,.head 2 2] [16,17] [AV.ptr 3 4,AV.hd 4,li B,(AV.ptr 4 (B.toNat*1)),(AV.agg (zJ (at_ x4.caches B))),li x2,li G,AV.ptr 3 1,li x4.batch,AV.ptr 3 2,li x4.high,(AV.tup [(AV.agg (zJ x5.1)),ls cI x5.2.1,li x5.2.2]),(AV.tup [(AV.agg (zJ x5.1)),ls cI x5.2.1,li x5.2.2]),(AV.agg (zJ x5.1)),ls cI x5.2.1,li x5.2.2,AV.ptr 5 0,.any,ls cI x5.2.1,li x5.2.2] [[.box 29 (zF A),.box 29 (zF ⟨[],0,0,[],[]⟩),.dead,.box 29 [ls cI x4.nodes,li x4.batch,li x4.high,AV.osl 46 10 (List.map zO x4.zones),AV.hd 4],.vec 50 1 (List.map zJ x4.caches)],[.box 29 (zF A),.box 29 (zF ⟨[],0,0,[],[]⟩),.dead,.box 29 [ls cI x4.nodes,li x4.batch,li x4.high,AV.osl 46 10 (List.map zO x4.zones),AV.hd 4],.vec 50 1 (List.map zJ x4.caches),.box 50 [(ls (cS cI) ([]:List (List Int)))]],[.box 29 (zF A),.box 29 (zF ⟨[],0,0,[],[]⟩),.dead,.box 29 [ls cI x4.nodes,li x4.batch,li x4.high,AV.osl 46 10 (List.map zO x4.zones),AV.hd 4],.vec 50 1 (List.map zJ x4.caches),.box 50 (zJ x5.1)]] (by kernel_rfl) (by kernel_rfl) ⟨⟨D1 fun e s p=>zM (k:=3) (o:=0) (off:=4) Try.underlying29 rfl rfl Try.sizeOf27 (s 10 rfl),D1 fun e s p=>zM (k:=3) (o:=0) (off:=4) Try.underlying29 rfl rfl Try.sizeOf27 (s 10 rfl)⟩,⟨D1 fun e s p=>zN (k:=3) (o:=4) Try.isAgg27 p.1 rfl rfl rfl,D1 fun e s p=>zN (k:=3) (o:=4) Try.isAgg27 p.1 rfl rfl rfl⟩,⟨D1 fun e s p=>zB (s 1 rfl),D1 fun e s p=>zB (s 1 rfl)⟩,⟨D1 fun e s p=>zAR (f:=zJ) (l:=x4.caches) (i:=B) Try.underlying27 Try.sizeOf50 p.1 rfl p.2.1 b4,D1 fun e s p=>zAR (f:=zJ) (l:=x4.caches) (i:=B) Try.underlying27 Try.sizeOf50 p.1 rfl p.2.1 b4⟩,⟨D1 fun e s p=>zDW (f:=zJ) (l:=x4.caches) (i:=B) (c:=0) (q:=1) (la:=(zJ (at_ x4.caches B))) Try.isAgg50 Try.sizeOf50 p.1 rfl (by first | rfl | omega) b4 rfl rfl rfl,D1 fun e s p=>zDW (f:=zJ) (l:=x4.caches) (i:=B) (c:=0) (q:=1) (la:=(zJ (at_ x4.caches B))) Try.isAgg50 Try.sizeOf50 p.1 rfl (by first | rfl | omega) b4 rfl rfl rfl⟩,⟨D1 fun e s p=>zB (s 9 rfl),D1 fun e s p=>zB (s 9 rfl)⟩,⟨D1 fun e s p=>zB (s 2 rfl),D1 fun e s p=>zB (s 2 rfl)⟩,⟨D1 fun e s p=>zM (k:=3) (o:=0) (off:=1) Try.underlying29 rfl rfl Try.sizeOf3 (s 10 rfl),D1 fun e s p=>zM (k:=3) (o:=0) (off:=1) Try.underlying29 rfl rfl Try.sizeOf3 (s 10 rfl)⟩,⟨D1 fun e s p=>zN (k:=3) (o:=1) Try.isAgg3 p.1 rfl rfl rfl,D1 fun e s p=>zN (k:=3) (o:=1) Try.isAgg3 p.1 rfl rfl rfl⟩,⟨D1 fun e s p=>zM (k:=3) (o:=0) (off:=2) Try.underlying29 rfl rfl Try.sizeOf3 (s 10 rfl),D1 fun e s p=>zM (k:=3) (o:=0) (off:=2) Try.underlying29 rfl rfl Try.sizeOf3 (s 10 rfl)⟩,⟨D1 fun e s p=>zN (k:=3) (o:=2) Try.isAgg3 p.1 rfl rfl rfl,D1 fun e s p=>zN (k:=3) (o:=2) Try.isAgg3 p.1 rfl rfl rfl⟩,⟨?_,?_⟩,⟨D1 fun e s p=>zB p.1,D1 fun e s p=>zB p.1⟩,⟨D1 fun e s p=>zU p.1 rfl,D1 fun e s p=>zU p.1 rfl⟩,⟨D1 fun e s p=>zU p.1 rfl,D1 fun e s p=>zU p.1 rfl,D1 fun e s p=>zU p.1 rfl⟩,⟨D1 fun e s p=>zU p.1 rfl,D1 fun e s p=>zU p.1 rfl,D1 fun e s p=>zU p.1 rfl⟩,?_,?_,D1 fun e s p=>zD p.2.2.2.2.2.2.2.2.2.2.2.2.2.2.2.2.1,D1 fun e s p=>zD p.2.2.2.2.2.2.2.2.2.2.2.2.2.2.2.2.2.1,trivial⟩ ?_
 ·
  intro e23 s23 p23
  refine zb (r:=(AV.tup [(AV.agg (zJ x5.1)),ls cI x5.2.1,li x5.2.2])) (la:=[(AV.agg (zJ (at_ x4.caches B))),li x2,li G,li x4.batch,li x4.high]) Try.func46 rfl (by kernel_rfl) (.fn 46) (zAe p23.1 (zAe p23.2.1 (zAe p23.2.2.1 (zAe p23.2.2.2.1 (zAe p23.2.2.2.2.1 rfl))))) rfl (zMF w5) rfl ?_
  exact zG ⟨fun _=>rfl,rfl⟩
 ·
  intro e24 s24 p24
  refine zb (r:=(AV.tup [(AV.agg (zJ x5.1)),ls cI x5.2.1,li x5.2.2])) (la:=[(AV.agg (zJ (at_ x4.caches B))),li x2,li G,li x4.batch,li x4.high]) Try.func46 rfl (by kernel_rfl) (.fn 46) (zAe p24.1 (zAe p24.2.1 (zAe p24.2.2.1 (zAe p24.2.2.2.1 (zAe p24.2.2.2.2.1 rfl))))) rfl (zMF w5) rfl ?_
  exact zG ⟨fun _=>rfl,rfl⟩
 ·
  intro e35 s35 p35
  refine zX (H':=[.box 29 (zF A),.box 29 (zF ⟨[],0,0,[],[]⟩),.dead,.box 29 [ls cI x4.nodes,li x4.batch,li x4.high,AV.osl 46 10 (List.map zO x4.zones),AV.hd 4],.vec 50 1 (List.map zJ x4.caches),.box 50 [(ls (cS cI) ([]:List (List Int)))]]) zv1 ?_
  exact zG ⟨fun _=>rfl,rfl⟩
 ·
  intro e36 s36 p36
  refine za (H':=[.box 29 (zF A),.box 29 (zF ⟨[],0,0,[],[]⟩),.dead,.box 29 [ls cI x4.nodes,li x4.batch,li x4.high,AV.osl 46 10 (List.map zO x4.zones),AV.hd 4],.vec 50 1 (List.map zJ x4.caches),.box 50 (zJ x5.1)]) (zT (k:=5) (o:=0) (cs:=[(ls (cS cI) ([]:List (List Int)))]) (la:=(zJ x5.1)) Try.sizeOf50 (by exact p36.2.2.2.2.2.2.2.2.2.2.2.2.2.2.2.2.2.2.2.1) rfl rfl (by exact p36.2.2.2.2.2.2.2.2.2.2.2.2.2.2.2.2.1)) ?_
  exact zG ⟨fun _=>rfl,rfl⟩
 intro e39 s39 hq1
 refine zA5 (zCy (l:=[(1,(li B)),(6,(AV.ptr 1 0)),(9,(li x2)),(10,(AV.ptr 3 0)),(11,(AV.ptr 5 0)),(12,(ls cI x5.2.1)),(13,(li x5.2.2))]) ⟨s39 1 rfl,s39 6 rfl,s39 9 rfl,s39 10 rfl,(hq1 16 (by decide) (by decide)),(hq1 18 (by decide) (by decide)),(hq1 19 (by decide) (by decide)),trivial⟩)<|zI<|zI<|zC<|zA (zB (av:=(li x5.2.2)) rfl)<|zA (z7 (a:=x5.2.2) (b:=0) rfl rfl) ?_
 refine zG ?_
 refine zY h rfl (fun b5 h => ?_) (fun b5 h => ?_)
 ·refine zI<|zC<|zA zQO<|zA (zB rfl)<|za (H':=[.box 29 (zF A),.box 29 (zF (⟨([]:List Int),0,0,([]:List zW),([]:List zK)⟩:zH)),.dead,.box 29 [ls cI x4.nodes,li x4.batch,li x4.high,AV.osl 46 10 (List.map zO x4.zones),AV.hd 4],.vec 50 1 (List.map zJ x4.caches),.box 50 (zJ x5.1)]) (zT (k:=1) (o:=0) (cs:=(zF ⟨[],0,0,[],[]⟩)) (la:=(zF (⟨([]:List Int),0,0,([]:List zW),([]:List zK)⟩:zH))) Try.sizeOf29 rfl rfl rfl rfl)<|zA (zD rfl) ?_
  refine zG<|zd ?_
  cases h
  exact zCF (zGO Try.isAgg29 Try.sizeOf29 rfl rfl rfl rfl) (zAl rfl rfl) rfl
 refine zS<|zI<|zC<|zA (zM Try.underlying29 rfl rfl Try.sizeOf27 rfl)<|zA (zN Try.isAgg27 rfl rfl rfl rfl)<|zA (zB rfl) ?_
 refine zA (zR (k:=5) (o:=0) (m:=1) Try.isAgg50 Try.sizeOf50 rfl rfl rfl rfl rfl)<|zA (zAR (f:=zJ) (l:=x4.caches) (i:=B) Try.underlying27 Try.sizeOf50 rfl rfl rfl b4)<|za (H':=[.box 29 (zF A),.box 29 (zF ⟨[],0,0,[],[]⟩),.dead,.box 29 [ls cI x4.nodes,li x4.batch,li x4.high,AV.osl 46 10 (List.map zO x4.zones),AV.hd 4],.vec 50 1 (List.map zJ (x4.caches.set B.toNat x5.1)),.box 50 (zJ x5.1)]) (zDS (k:=4) (o:=(B.toNat*1)) (f:=zJ) (l:=x4.caches) (i:=B) (z:=x5.1) Try.sizeOf50 (fun _=>rfl) rfl rfl (by first | rfl | omega) b4 rfl rfl)<|zG<|zI<|zC ?_
 refine zA (zB rfl)<|zA (zB rfl)<|zAJ (zAT (k:=3) (j:=4) (o:=4) rfl rfl rfl rfl)<|zQ h fun x6 w6 h=>zE6 (k:=3) (la:=[AV.ptr 3 0,li x2,ls cI x5.2.1]) (la':=[AV.ptr 0 0,li x2,ls cI x5.2.1]) (r:=(.tup [])) (S:=[]) (en' := .box 29 [ls cI x6.nodes,li x6.batch,li x6.high,AV.osl 46 10 (List.map zO x6.zones),AV.osl 50 1 (List.map zJ x6.caches)]) Try.func47 rfl (by kernel_rfl) (.fn 47) rfl ⟨zDQ.ptr,zDQ.of (zBI.nr rfl),zDQ.of (zBI.nr rfl),trivial⟩ rfl rfl (by kernel_rfl) (by kernel_rfl) (zJu w6) rfl (.inl rfl)<|zG ?_
 refine zI<|zC<|zAJ (zB7 (k:=3) (o:=3) (rows':=List.map zO x6.zones) rfl rfl (zAb (fun _=>rfl)))<|zAJ (zB7 (k:=3) (o:=4) (rows':=List.map zJ x6.caches) rfl rfl (zAb (fun _=>rfl)))<|zA (zR (k:=3) (o:=0) (m:=5) Try.isAgg29 Try.sizeOf29 rfl rfl rfl rfl rfl)<|za (H':=[.box 29 (zF A),.box 29 (zF (⟨x6.nodes,x6.batch,x6.high,x6.zones,x6.caches⟩:zH)),.dead,.box 29 (zF ⟨x6.nodes,x6.batch,x6.high,x6.zones,x6.caches⟩),.dead,.box 50 (zJ x5.1)]) (zT (k:=1) (o:=0) (cs:=(zF ⟨[],0,0,[],[]⟩)) (la:=(zF (⟨x6.nodes,x6.batch,x6.high,x6.zones,x6.caches⟩:zH))) Try.sizeOf29 rfl rfl rfl rfl) ?_
 refine zA (zD rfl)<|zG<|zd ?_
 cases h
 exact zCF (zGO Try.isAgg29 Try.sizeOf29 rfl rfl rfl rfl) (zAl rfl rfl) rfl
theorem zJ5 {A:zH} {B:Int} {G:Int} {r:zH×Int×Int} (h:zF2 A B G=some r):PFn Try.prog 23 [(AV.agg (zF A)),li B,li G] (AV.tup [(AV.agg (zF r.1)),li r.2.1,li r.2.2]):=by
 refine zq Try.func23 rfl Try.ntmps23 Try.results23 rfl ?_
 unfold zF2 at h
 refine zI<|zC<|zX (H':=[.box 29 (zF A)]) (z8 (t:=29) rfl)<|zX (H':=[.box 29 (zF A),.box 29 (zF ⟨[],0,0,[],[]⟩)]) zv3<|zA (zD rfl)<|zA (zD rfl) ?_
 refine zG<|zI<|zI<|zC<|zA (zR (k:=0) (o:=0) (m:=5) Try.isAgg29 Try.sizeOf29 rfl rfl rfl rfl rfl)<|zQ h fun x1 w1 h => ?_
 refine zb Try.func15 rfl (by kernel_rfl) (.fn 15) rfl rfl (zA2 w1) rfl<|zA (zD rfl)<|zG<|zI<|zC<|zA (zB rfl) ?_
 refine zA (z7 rfl rfl)<|zG ?_
 refine zY h rfl (fun b1 h => ?_) (fun b1 h => ?_)
 ·refine zI<|zC<|zA zQO<|zA (zB rfl)<|za (H':=[.box 29 (zF A),.box 29 (zF (⟨([]:List Int),0,0,([]:List zW),([]:List zK)⟩:zH))]) (zT (k:=1) (o:=0) (cs:=(zF ⟨[],0,0,[],[]⟩)) (la:=(zF (⟨([]:List Int),0,0,([]:List zW),([]:List zK)⟩:zH))) Try.sizeOf29 rfl rfl rfl rfl)<|zA (zD rfl) ?_
  refine zA (zD rfl)<|zG<|zd ?_
  cases h
  exact zEb (zGO Try.isAgg29 Try.sizeOf29 rfl rfl rfl rfl) (zAl rfl rfl) (zAl rfl rfl) rfl
 refine zS<|zI<|zI<|zC<|zA (zB rfl)<|zA (zi rfl rfl) ?_
 refine zA (zB rfl)<|zZ rfl rfl (fun c1=>zv.step (zB rfl))<|zZ rfl rfl (fun c2=>zv.step (zM Try.underlying29 rfl rfl Try.sizeOf22 rfl))<|zZ rfl rfl (fun c3=>zv.step (zN Try.isAgg22 (zAQ rfl c3) rfl rfl rfl))<|zZ rfl rfl (fun c4=>zv.step (ze Try.underlying22 (zAQ rfl c4)))<|zZ rfl rfl (fun c5=>zv.step (zBp (zAQ rfl c5) (zAQ rfl c5))) ?_
 refine zA (zh rfl rfl)<|zA (zB rfl)<|zZ rfl rfl (fun c6=>zv.step (zB rfl))<|zZ rfl rfl (fun c7=>zv.step (zi (zAQ rfl c7) rfl))<|zA (zh rfl rfl)<|zA (zB rfl) ?_
 refine zZ rfl rfl (fun c8=>zv.step (zB rfl))<|zZ rfl rfl (fun c9=>zv.step (zCf (zAQ rfl c9) rfl))<|zA (zh rfl rfl)<|zG ?_
 refine zY h rfl (fun b2 h => ?_) (fun b2 h => ?_)
 ·refine zI<|zC<|zA zQO<|za (H':=[.box 29 (zF A),.box 29 (zF (⟨([]:List Int),0,0,([]:List zW),([]:List zK)⟩:zH))]) (zT (k:=1) (o:=0) (cs:=(zF ⟨[],0,0,[],[]⟩)) (la:=(zF (⟨([]:List Int),0,0,([]:List zW),([]:List zK)⟩:zH))) Try.sizeOf29 rfl rfl rfl rfl)<|zA (zD rfl)<|zA (zD rfl) ?_
  refine zG<|zd ?_
  cases h
  exact zEb (zGO Try.isAgg29 Try.sizeOf29 rfl rfl rfl rfl) (zAl rfl rfl) (zAl rfl rfl) rfl
 refine zS<|zI<|zC<|zA (zR (k:=0) (o:=0) (m:=5) Try.isAgg29 Try.sizeOf29 rfl rfl rfl rfl rfl)<|zQ h fun x2 w2 h=>zH3 (cs:=[ls cI x2.nodes,li x2.batch,li x2.high,AV.osl 46 10 (List.map zO x2.zones),AV.osl 50 1 (List.map zAS x2.caches)]) (la:=[(AV.agg (zF A))]) (la':=[(AV.agg (zF A))]) (S:=[]) Try.func42 rfl (by kernel_rfl) (.fn 42) rfl ⟨zBI.nr rfl,trivial⟩ (zD7 w2) (.inl rfl) ?_
 refine zAJ (zMM (k:=2) (o:=4) (cs:=[ls cI x2.nodes,li x2.batch,li x2.high,AV.osl 46 10 (List.map zO x2.zones),AV.osl 50 1 (List.map zAS x2.caches)]) (rows':=List.map zJ x2.caches) rfl rfl (zHr (fun x=>zEw x)))<|zX (H':=[.box 29 (zF A),.box 29 (zF ⟨[],0,0,[],[]⟩),.val (.agg [ls cI x2.nodes,li x2.batch,li x2.high,AV.osl 46 10 (List.map zO x2.zones),AV.osl 50 1 (List.map zJ x2.caches)]),.box 29 (zF ⟨[],0,0,[],[]⟩)]) zv3<|za (H':=[.box 29 (zF A),.box 29 (zF ⟨[],0,0,[],[]⟩),.dead,.box 29 [ls cI x2.nodes,li x2.batch,li x2.high,AV.osl 46 10 (List.map zO x2.zones),AV.osl 50 1 (List.map zJ x2.caches)]]) (zEN (k:=3) (o:=0) (j:=2) (cs:=(zF ⟨[],0,0,[],[]⟩)) (la:=[ls cI x2.nodes,li x2.batch,li x2.high,AV.osl 46 10 (List.map zO x2.zones),AV.osl 50 1 (List.map zJ x2.caches)]) Try.sizeOf29 rfl rfl rfl rfl rfl (by decide))<|zG<|zI<|zL h fun b3 h => ?_
 refine zQ h fun x3 w3 h => ?_
 refine zBr (n:=100) (m:=0) [.head 0 0,.head 0 0,.head 0 0,.head 0 0,.head 0 0,.head 0 0,.head 0 0,.head 0 0,.head 0 0,.head 0 0,.head 0 0,.head 0 0,.head 0 0] [] [AV.ptr 0 3,ls zO A.zones,AV.ptr 0 0,ls cI A.nodes,li B,(AV.rp (cI (at_ A.nodes B)) 0),(li (at_ A.nodes B)),(AV.tup [ls cI x3.1,li x3.2]),(AV.tup [ls cI x3.1,li x3.2]),ls cI x3.1,li x3.2,ls cI x3.1,li x3.2] [[.box 29 (zF A),.box 29 (zF ⟨[],0,0,[],[]⟩),.dead,.box 29 [ls cI x2.nodes,li x2.batch,li x2.high,AV.osl 46 10 (List.map zO x2.zones),AV.osl 50 1 (List.map zJ x2.caches)]]] (by kernel_rfl) (by kernel_rfl) ⟨D1 fun e s p=>zM (k:=0) (o:=0) (off:=3) Try.underlying29 rfl rfl Try.sizeOf26 (s 3 rfl),D1 fun e s p=>zN (k:=0) (o:=3) Try.isAgg26 p.1 rfl rfl rfl,D1 fun e s p=>zM (k:=0) (o:=0) (off:=0) Try.underlying29 rfl rfl Try.sizeOf22 (s 3 rfl),D1 fun e s p=>zN (k:=0) (o:=0) Try.isAgg22 p.1 rfl rfl rfl,D1 fun e s p=>zB (s 1 rfl),D1 fun e s p=>zm (f:=cI) (l:=A.nodes) (i:=B) Try.underlying22 Try.sizeOf3 (fun _=>rfl) p.1 p.2.1 b3,D1 fun e s p=>zo (o:=0) Try.isAgg3 p.1 rfl,?_,D1 fun e s p=>zB p.1,D1 fun e s p=>zU p.1 rfl,D1 fun e s p=>zU p.1 rfl,D1 fun e s p=>zD p.2.2.2.2.2.2.2.2.2.2.2.1,D1 fun e s p=>zD p.2.2.2.2.2.2.2.2.2.2.2.2.1,trivial⟩ ?_
 ·
  intro e8 s8 p8
  refine zb (r:=(AV.tup [ls cI x3.1,li x3.2])) (la:=[ls zO A.zones,(li (at_ A.nodes B)),(AV.lit (.bool false))]) Try.func40 rfl (by kernel_rfl) (.fn 40) (zAe p8.1 (zAe p8.2.1 (zAe rfl rfl))) rfl (zJl w3) rfl ?_
  exact zG ⟨fun _=>rfl,rfl⟩
 intro e14 s14 hq1
 refine zA5 (zCy (l:=[(2,(li G)),(6,(AV.ptr 1 0)),(10,(AV.ptr 3 0)),(11,(ls cI x3.1))]) ⟨s14 2 rfl,s14 6 rfl,s14 10 rfl,(hq1 11 (by decide) (by decide)),trivial⟩) ?_
 refine zAA (r:=r) (fun (_:Unit)=>mkE [(6,(AV.ptr 0 0))]) (fun _=>[.box 29 (zF ⟨[],0,0,[],[]⟩)]) (fun _=>zEv ) ?_ ?_
 ·
  refine zI<|zC<|zA (zB rfl)<|zA (ze Try.underlying22 rfl)<|zA (zB rfl)<|zG ?_
  refine zV<|z6 (σ:=Int×(List Int)×Int×Int×(List zW)×(List zK)) (fun (i1,d1,d2,d3,l1,l2)=>mkE [(2,(li G)),(6,(AV.ptr 0 0)),(10,(AV.ptr 1 0)),(56,(ls cI x3.1)),(57,(li (x3.1.length:Int))),(58,(li i1))]) (fun (i1,d1,d2,d3,l1,l2)=>[.box 29 (zF ⟨[],0,0,[],[]⟩),.box 29 [ls cI d1,li d2,li d3,AV.osl 46 10 (List.map zO l1),AV.osl 50 1 (List.map zJ l2)]]) (fun n0 (i1,d1,d2,d3,l1,l2)=>zAt G x3 n0 i1 d1 d2 d3 l1 l2) (0,x2.nodes,x2.batch,x2.high,x2.zones,x2.caches) h (fun _=>rfl) (zAZ [1,3] rfl rfl (by kernel_rfl)) ?_
  clear h
  rintro n0 ⟨i1,d1,d2,d3,l1,l2⟩ h
  replace h:zEz G x3 (zAt G x3 n0) i1 d1 d2 d3 l1 l2=some r:=h
  unfold zEz at h
  refine zI<|zC<|zA (zi rfl rfl)<|zG<|zI ?_
  refine zY h rfl (fun b4 h => ?_) (fun b4 h => ?_)
  ·refine zS ?_
   refine zAA (r:=r) (fun ((d4,d5,d6,l3,l4):(List Int)×Int×Int×(List zW)×(List zK))=>mkE [(2,(li G)),(6,(AV.ptr 0 0)),(10,(AV.ptr 1 0)),(56,(ls cI x3.1)),(57,(li (x3.1.length:Int))),(58,(li i1))]) (fun (d4,d5,d6,l3,l4)=>[.box 29 (zF ⟨[],0,0,[],[]⟩),.box 29 [ls cI d4,li d5,li d6,AV.osl 46 10 (List.map zO l3),AV.osl 50 1 (List.map zJ l4)]]) (fun (d4,d5,d6,l3,l4)=>zDL (zAt G x3 n0) i1 d4 d5 d6 l3 l4) ?_ ?_
   ·
    refine zV<|zI<|zC<|zL h fun b6 h=>zA (zm Try.underlying22 Try.sizeOf3 (fun _=>rfl) rfl rfl b6)<|zA (zo (o:=0) Try.isAgg3 rfl rfl) ?_
    refine zA (zD rfl)<|zG<|zI<|zI<|zA5 (zBz (k:=1) (o:=3) (t':=46) (sz:=10) (rows:=List.map zO l1) rfl rfl)<|zA5 (zBz (k:=1) (o:=4) (t':=50) (sz:=1) (rows:=List.map zJ l2) rfl rfl) ?_
    refine zQ h fun x4 w4 h=>zL h fun b7 h=>zL h fun b8 h => ?_
    refine zBr (n:=100) (m:=0) [.head 0 0,.head 0 0,.head 0 0,.head 0 0,.head 0 0,.head 0 0] [] [(AV.agg [ls cI d1,li d2,li d3,AV.hd 2,AV.hd 3]),(li (at_ x3.1 i1)),li x4,li G,(li ((1:Int)*2 ^ G.toNat)),(AV.lit (.bool (decide (x4<((1:Int)*2 ^ G.toNat)))))] [[.box 29 (zF ⟨[],0,0,[],[]⟩),.box 29 [ls cI d1,li d2,li d3,AV.hd 2,AV.hd 3],.vec 46 10 (List.map zO l1),.vec 50 1 (List.map zJ l2)]] (by kernel_rfl) (by kernel_rfl) ⟨D1 fun e s p=>zR (k:=1) (o:=0) (m:=5) Try.isAgg29 Try.sizeOf29 (s 10 rfl) rfl rfl rfl rfl,D1 fun e s p=>zB (s 14 rfl),?_,D1 fun e s p=>zB (s 2 rfl),D1 fun e s p=>zGW (a:=1) (b:=G) rfl p.1 b7 b8,D1 fun e s p=>zi (a:=x4) (b:=(1:Int)*2 ^ G.toNat) p.1 p.2.1,trivial⟩ ?_
    ·
     intro e17 s17 p16
     refine zAx (r':=(li x4)) (la:=[(AV.agg [ls cI d1,li d2,li d3,AV.hd 2,AV.hd 3]),(li (at_ x3.1 i1))]) (la':=[(AV.agg (zF ⟨d1,d2,d3,l1,l2⟩)),(li (at_ x3.1 i1))]) (r:=(li x4)) (S:=[2,3]) Try.func39 rfl (by kernel_rfl) (.fn 39) (zAe p16.1 (zAe p16.2.1 rfl)) ⟨zBI.agg (by exact ⟨zBI.nr rfl,⟨zBI.nr rfl,⟨zBI.nr rfl,⟨zGz (fun _=>rfl) rfl rfl,⟨zGz (fun _=>rfl) rfl rfl,trivial⟩⟩⟩⟩⟩),zBI.nr rfl,trivial⟩ (zFu w4) (.inr trivial) rfl ?_
     exact zG ⟨fun _=>rfl,rfl⟩
    intro e21 s21 hq2
    refine zA5 (zCy (l:=[(2,(li G)),(6,(AV.ptr 0 0)),(10,(AV.ptr 1 0)),(14,(li (at_ x3.1 i1))),(56,(ls cI x3.1)),(57,(li (x3.1.length:Int))),(58,(li i1)),(67,(AV.lit (.bool (decide (x4<((1:Int)*2 ^ G.toNat))))))]) ⟨s21 2 rfl,s21 6 rfl,s21 10 rfl,s21 14 rfl,s21 56 rfl,s21 57 rfl,s21 58 rfl,(hq2 5 (by decide) (by decide)),trivial⟩) ?_
    refine zY h rfl (fun b9 h => ?_) (fun b9 h => ?_)
    ·refine zAC ?_
     exact ⟨(d1,d2,d3,l1,l2),Rep.trans (zAT (k:=1) (j:=2) (o:=3) rfl rfl rfl rfl) (Rep.trans (zAT (k:=1) (j:=3) (o:=4) rfl rfl rfl rfl) (zAZ [0,1] (l:=[(2,(li G)),(6,(AV.ptr 0 0)),(10,(AV.ptr 1 0)),(56,(ls cI x3.1)),(57,(li (x3.1.length:Int))),(58,(li i1))]) rfl rfl (by kernel_rfl))),h⟩
    refine zS ?_
    refine zAA (r:=r) (fun ((d7,d8,d9,l5,l6):(List Int)×Int×Int×(List zW)×(List zK))=>mkE [(2,(li G)),(6,(AV.ptr 0 0)),(10,(AV.ptr 1 0)),(14,(li (at_ x3.1 i1))),(56,(ls cI x3.1)),(57,(li (x3.1.length:Int))),(58,(li i1))]) (fun (d7,d8,d9,l5,l6)=>[.box 29 (zF ⟨[],0,0,[],[]⟩),.box 29 [ls cI d7,li d8,li d9,AV.osl 46 10 (List.map zO l5),AV.osl 50 1 (List.map zJ l6)]]) (fun (d7,d8,d9,l5,l6)=>zEu (zAt G x3 n0) G x3 i1 d7 d8 d9 l5 l6) ?_ ?_
    ·
     refine zI<|zC<|zA (zM Try.underlying29 rfl rfl Try.sizeOf27 rfl)<|zA (zN Try.isAgg27 rfl rfl rfl rfl)<|zA (zD1 (f:=zJ) (l:=l2) Try.underlying27 rfl rfl)<|zA (zB rfl) ?_
     refine zG<|zV<|z6 (σ:=Int×(List Int)×Int×Int×(List zW)×(List zK)) (fun (i2,d10,d11,d12,l7,l8)=>mkE [(2,(li G)),(6,(AV.ptr 0 0)),(10,(AV.ptr 1 0)),(14,(li (at_ x3.1 i1))),(56,(ls cI x3.1)),(57,(li (x3.1.length:Int))),(58,(li i1)),(70,(li (l2.length:Int))),(71,(li i2))]) (fun (i2,d10,d11,d12,l7,l8)=>[.box 29 (zF ⟨[],0,0,[],[]⟩),.box 29 [ls cI d10,li d11,li d12,AV.osl 46 10 (List.map zO l7),AV.osl 50 1 (List.map zJ l8)]]) (fun n1 (i2,d10,d11,d12,l7,l8)=>zDI (zAt G x3 n0) G x3 i1 l2 n1 i2 d10 d11 d12 l7 l8) (0,d1,d2,d3,l1,l2) h (fun _=>rfl) (Rep.trans (zAT (k:=1) (j:=2) (o:=3) rfl rfl rfl rfl) (Rep.trans (zAT (k:=1) (j:=3) (o:=4) rfl rfl rfl rfl) (zAZ [0,1] (l:=[(2,(li G)),(6,(AV.ptr 0 0)),(10,(AV.ptr 1 0)),(14,(li (at_ x3.1 i1))),(56,(ls cI x3.1)),(57,(li (x3.1.length:Int))),(58,(li i1)),(70,(li (l2.length:Int))),(71,(li 0))]) rfl rfl (by kernel_rfl)))) ?_
     clear h
     rintro n1 ⟨i2,d10,d11,d12,l7,l8⟩ h
     replace h:zEy (zAt G x3 n0) G x3 i1 l2 (zDI (zAt G x3 n0) G x3 i1 l2 n1) i2 d10 d11 d12 l7 l8=some r:=h
     unfold zEy at h
     refine zI<|zC<|zA (zi rfl rfl)<|zG<|zI ?_
     refine zY h rfl (fun b12 h => ?_) (fun b12 h => ?_)
     ·refine zS<|zI<|zV<|zI<|zC<|zA (zB rfl) ?_
      refine zA (zD rfl)<|zG<|zC<|zA (zB rfl)<|zA (zB rfl)<|zQ h fun x6 w6 h => ?_
      refine zE6 (k:=1) (la:=[AV.ptr 1 0,li i2,(li (at_ x3.1 i1))]) (la':=[AV.ptr 0 0,li i2,(li (at_ x3.1 i1))]) (r:=(.tup [])) (S:=[]) (en' := .box 29 [ls cI x6.nodes,li x6.batch,li x6.high,AV.osl 46 10 (List.map zO x6.zones),AV.osl 50 1 (List.map zJ x6.caches)]) Try.func44 rfl (by kernel_rfl) (.fn 44) rfl ⟨zDQ.ptr,zDQ.of (zBI.nr rfl),zDQ.of (zBI.nr rfl),trivial⟩ rfl rfl (by kernel_rfl) (by kernel_rfl) (zG9 w6) rfl (.inl rfl)<|zG<|zC<|zL h fun b13 h=>zA (zg rfl rfl b13)<|zA (zB rfl) ?_
      refine zG ?_
      exact ⟨((i2+1),x6.nodes,x6.batch,x6.high,x6.zones,x6.caches),zAZ [0,1] rfl rfl (by kernel_rfl),h⟩
     refine zAC ?_
     exact ⟨(d10,d11,d12,l7,l8),zAZ [0,1] rfl rfl (by kernel_rfl),h⟩
    clear h
    rintro ⟨d7,d8,d9,l5,l6⟩ h
    unfold zEu at h
    refine zI<|zC<|zA (zM Try.underlying29 rfl rfl Try.sizeOf26 rfl)<|zAJ (zBz (k:=1) (o:=3) (t':=46) (sz:=10) (rows:=List.map zO l5) rfl rfl)<|zA (zN Try.isAgg26 rfl rfl rfl rfl)<|zA (zB rfl) ?_
    refine zL h fun b10 h=>zA (zAR (f:=zO) (l:=l5) (i:=at_ x3.1 i1) Try.underlying26 Try.sizeOf46 rfl rfl rfl b10)<|zA (zDW (f:=zO) (l:=l5) (i:=at_ x3.1 i1) (c:=0) (q:=10) (la:=(zO (at_ l5 (at_ x3.1 i1)))) Try.isAgg46 Try.sizeOf46 rfl rfl (by first | rfl | omega) b10 rfl rfl rfl)<|zA (zB rfl)<|zQ h fun x5 w5 h=>zb Try.func48 rfl (by kernel_rfl) (.fn 48) rfl rfl (zLb w5) rfl ?_
    refine zA (zB rfl)<|zA (zU rfl rfl)<|zA (zU rfl rfl)<|zA (zU rfl rfl)<|zX (H':=[.box 29 (zF ⟨[],0,0,[],[]⟩),.box 29 [ls cI d7,li d8,li d9,AV.hd 2,AV.osl 50 1 (List.map zJ l6)],.vec 46 10 (List.map zO l5),.box 46 (zO ⟨0,0,0,0,0,(List.replicate 5 ([]:List Int))⟩)]) zv0<|za (H':=[.box 29 (zF ⟨[],0,0,[],[]⟩),.box 29 [ls cI d7,li d8,li d9,AV.hd 2,AV.osl 50 1 (List.map zJ l6)],.vec 46 10 (List.map zO l5),.box 46 (zO x5.1)]) (zT (k:=3) (o:=0) (cs:=(zO ⟨0,0,0,0,0,(List.replicate 5 ([]:List Int))⟩)) (la:=(zO x5.1)) Try.sizeOf46 rfl rfl rfl rfl) ?_
    refine zA (zD rfl)<|zA (zD rfl)<|zG<|zI<|zC<|zA (zB rfl) ?_
    refine zA (zBe rfl rfl)<|zG ?_
    refine zY h rfl (fun b11 h => ?_) (fun b11 h => ?_)
    ·refine zI<|zC<|zA (zM Try.underlying29 rfl rfl Try.sizeOf26 rfl)<|zA (zN Try.isAgg26 rfl rfl rfl rfl)<|zA (zB rfl)<|zA (zR (k:=3) (o:=0) (m:=10) Try.isAgg46 Try.sizeOf46 rfl rfl rfl rfl rfl) ?_
     refine zA (zAR (f:=zO) (l:=l5) (i:=at_ x3.1 i1) Try.underlying26 Try.sizeOf46 rfl rfl rfl b10)<|za (H':=[.box 29 (zF ⟨[],0,0,[],[]⟩),.box 29 [ls cI d7,li d8,li d9,AV.hd 2,AV.osl 50 1 (List.map zJ l6)],.vec 46 10 (List.map zO (l5.set (at_ x3.1 i1).toNat x5.1)),.box 46 (zO x5.1)]) (zDS (k:=2) (o:=((at_ x3.1 i1).toNat*10)) (f:=zO) (l:=l5) (i:=at_ x3.1 i1) (z:=x5.1) Try.sizeOf46 (fun _=>rfl) rfl rfl (by first | rfl | omega) b10 rfl rfl)<|zG<|zI<|zC<|zAJ (zAT (k:=1) (j:=2) (o:=3) rfl rfl rfl rfl) ?_
     refine zAJ (zB7 (k:=1) (o:=3) (rows':=List.map zO (l5.set (at_ x3.1 i1).toNat x5.1)) rfl rfl (zAb (fun _=>rfl)))<|zAJ (zB7 (k:=1) (o:=4) (rows':=List.map zJ l6) rfl rfl (zAb (fun _=>rfl)))<|zA (zR (k:=1) (o:=0) (m:=5) Try.isAgg29 Try.sizeOf29 rfl rfl rfl rfl rfl)<|zA (zB rfl)<|za (H':=[.box 29 (zF (⟨d7,d8,d9,l5.set (at_ x3.1 i1).toNat x5.1,l6⟩:zH)),.box 29 (zF ⟨d7,d8,d9,(l5.set (at_ x3.1 i1).toNat x5.1),l6⟩),.dead,.box 46 (zO x5.1)]) (zT (k:=0) (o:=0) (cs:=(zF ⟨[],0,0,[],[]⟩)) (la:=(zF (⟨d7,d8,d9,l5.set (at_ x3.1 i1).toNat x5.1,l6⟩:zH))) Try.sizeOf29 rfl rfl rfl rfl)<|zA (zD rfl) ?_
     refine zA (zD rfl)<|zG<|zd ?_
     cases h
     exact zEb (zGO Try.isAgg29 Try.sizeOf29 rfl rfl rfl rfl) (zAl rfl rfl) (zAl rfl rfl) rfl
    refine zS ?_
    exact ⟨(d7,d8,d9,l5,l6),Rep.trans (zAT (k:=1) (j:=2) (o:=3) rfl rfl rfl rfl) (zAZ [0,1] (l:=[(2,(li G)),(6,(AV.ptr 0 0)),(10,(AV.ptr 1 0)),(56,(ls cI x3.1)),(57,(li (x3.1.length:Int))),(58,(li i1))]) rfl rfl (by kernel_rfl)),h⟩
   clear h
   rintro ⟨d4,d5,d6,l3,l4⟩ h
   unfold zDL at h
   refine zC<|zL h fun b5 h=>zA (zg rfl rfl b5)<|zA (zB rfl)<|zG ?_
   exact ⟨((i1+1),d4,d5,d6,l3,l4),zAZ [0,1] rfl rfl (by kernel_rfl),h⟩
  refine zAC ?_
  exact ⟨(),zAZ [0] rfl rfl (by kernel_rfl),h⟩
 clear h
 intro _ h
 unfold zEv at h
 refine zI<|zC<|zA zQO<|za (H':=[.box 29 (zF (⟨([]:List Int),0,0,([]:List zW),([]:List zK)⟩:zH))]) (zT (k:=0) (o:=0) (cs:=(zF ⟨[],0,0,[],[]⟩)) (la:=(zF (⟨([]:List Int),0,0,([]:List zW),([]:List zK)⟩:zH))) Try.sizeOf29 rfl rfl rfl rfl)<|zA (zD rfl)<|zA (zD rfl) ?_
 refine zG<|zd ?_
 cases h
 exact zEb (zGO Try.isAgg29 Try.sizeOf29 rfl rfl rfl rfl) (zAl rfl rfl) (zAl rfl rfl) rfl
theorem zJC {C:zH} {r:zH} (h:zDr C=some r):PFn Try.prog 22 [(AV.agg (zF C))] (AV.agg (zF r)):=by
 refine zq Try.func22 rfl Try.ntmps22 Try.results22 rfl ?_
 unfold zDr at h
 refine zI<|zC<|zX (H':=[.box 29 (zF C)]) (z8 (t:=29) rfl)<|zX (H':=[.box 29 (zF C),.box 29 (zF ⟨[],0,0,[],[]⟩)]) zv3<|zG<|zI ?_
 refine zI<|zC<|zA (zR (k:=0) (o:=0) (m:=5) Try.isAgg29 Try.sizeOf29 rfl rfl rfl rfl rfl)<|zQ h fun x1 w1 h=>zb Try.func15 rfl (by kernel_rfl) (.fn 15) rfl rfl (zA2 w1) rfl<|zA (z7 rfl rfl) ?_
 refine zG ?_
 refine zY h rfl (fun b1 h => ?_) (fun b1 h => ?_)
 ·refine zI<|zC<|zA zQO<|za (H':=[.box 29 (zF C),.box 29 (zF (⟨([]:List Int),0,0,([]:List zW),([]:List zK)⟩:zH))]) (zT (k:=1) (o:=0) (cs:=(zF ⟨[],0,0,[],[]⟩)) (la:=(zF (⟨([]:List Int),0,0,([]:List zW),([]:List zK)⟩:zH))) Try.sizeOf29 rfl rfl rfl rfl)<|zG<|zd ?_
  cases h
  exact zy (zGO Try.isAgg29 Try.sizeOf29 rfl rfl rfl rfl)
 refine zS<|zI<|zC<|zA (zR (k:=0) (o:=0) (m:=5) Try.isAgg29 Try.sizeOf29 rfl rfl rfl rfl rfl)<|zQ h fun x2 w2 h=>zH3 (cs:=[ls cI x2.nodes,li x2.batch,li x2.high,AV.osl 46 10 (List.map zO x2.zones),AV.osl 50 1 (List.map zAS x2.caches)]) (la:=[(AV.agg (zF C))]) (la':=[(AV.agg (zF C))]) (S:=[]) Try.func42 rfl (by kernel_rfl) (.fn 42) rfl ⟨zBI.nr rfl,trivial⟩ (zD7 w2) (.inl rfl) ?_
 refine zAJ (zMM (k:=2) (o:=4) (cs:=[ls cI x2.nodes,li x2.batch,li x2.high,AV.osl 46 10 (List.map zO x2.zones),AV.osl 50 1 (List.map zAS x2.caches)]) (rows':=List.map zJ x2.caches) rfl rfl (zHr (fun x=>zEw x)))<|zX (H':=[.box 29 (zF C),.box 29 (zF ⟨[],0,0,[],[]⟩),.val (.agg [ls cI x2.nodes,li x2.batch,li x2.high,AV.osl 46 10 (List.map zO x2.zones),AV.osl 50 1 (List.map zJ x2.caches)]),.box 29 (zF ⟨[],0,0,[],[]⟩)]) zv3<|za (H':=[.box 29 (zF C),.box 29 (zF ⟨[],0,0,[],[]⟩),.dead,.box 29 [ls cI x2.nodes,li x2.batch,li x2.high,AV.osl 46 10 (List.map zO x2.zones),AV.osl 50 1 (List.map zJ x2.caches)]]) (zEN (k:=3) (o:=0) (j:=2) (cs:=(zF ⟨[],0,0,[],[]⟩)) (la:=[ls cI x2.nodes,li x2.batch,li x2.high,AV.osl 46 10 (List.map zO x2.zones),AV.osl 50 1 (List.map zJ x2.caches)]) Try.sizeOf29 rfl rfl rfl rfl rfl (by decide))<|zG ?_
 refine zAA (r:=r) (fun ((d1,d2,d3,l1,l2):(List Int)×Int×Int×(List zW)×(List zK))=>mkE [(2,(AV.ptr 0 0)),(3,(AV.ptr 1 0))]) (fun (d1,d2,d3,l1,l2)=>[.box 29 (zF ⟨[],0,0,[],[]⟩),.box 29 [ls cI d1,li d2,li d3,AV.osl 46 10 (List.map zO l1),AV.osl 50 1 (List.map zJ l2)]]) (fun (d1,d2,d3,l1,l2)=>zHB d1 d2 d3 l1 l2) ?_ ?_
 ·
  refine zI<|zC<|zA (zM Try.underlying29 rfl rfl Try.sizeOf27 rfl)<|zAJ (zBz (k:=3) (o:=4) (t':=50) (sz:=1) (rows:=List.map zJ x2.caches) rfl rfl)<|zA (zN Try.isAgg27 rfl rfl rfl rfl)<|zA (zD1 (f:=zJ) (l:=x2.caches) Try.underlying27 rfl rfl) ?_
  refine zA (zB rfl)<|zG<|zV<|z6 (σ:=Int×(List Int)×Int×Int×(List zW)×(List zK)) (fun (i1,d4,d5,d6,l3,l4)=>mkE [(2,(AV.ptr 0 0)),(3,(AV.ptr 1 0)),(14,(li (x2.caches.length:Int))),(15,(li i1))]) (fun (i1,d4,d5,d6,l3,l4)=>[.box 29 (zF ⟨[],0,0,[],[]⟩),.box 29 [ls cI d4,li d5,li d6,AV.osl 46 10 (List.map zO l3),AV.osl 50 1 (List.map zJ l4)]]) (fun n0 (i1,d4,d5,d6,l3,l4)=>zBd x2 n0 i1 d4 d5 d6 l3 l4) (0,x2.nodes,x2.batch,x2.high,x2.zones,x2.caches) h (fun _=>rfl) (Rep.trans (zAT (k:=3) (j:=4) (o:=4) rfl rfl rfl rfl) (zAZ [1,3] (l:=[(2,(AV.ptr 0 0)),(3,(AV.ptr 1 0)),(14,(li (x2.caches.length:Int))),(15,(li 0))]) rfl rfl (by kernel_rfl))) ?_
  clear h
  rintro n0 ⟨i1,d4,d5,d6,l3,l4⟩ h
  replace h:zCU x2 (zBd x2 n0) i1 d4 d5 d6 l3 l4=some r:=h
  unfold zCU at h
  refine zI<|zC<|zA (zi rfl rfl)<|zG<|zI ?_
  refine zY h rfl (fun b2 h => ?_) (fun b2 h => ?_)
  ·refine zS ?_
   refine zAA (r:=r) (fun ((d7,d8,d9,l5,l6):(List Int)×Int×Int×(List zW)×(List zK))=>mkE [(2,(AV.ptr 0 0)),(3,(AV.ptr 1 0)),(14,(li (x2.caches.length:Int))),(15,(li i1))]) (fun (d7,d8,d9,l5,l6)=>[.box 29 (zF ⟨[],0,0,[],[]⟩),.box 29 [ls cI d7,li d8,li d9,AV.osl 46 10 (List.map zO l5),AV.osl 50 1 (List.map zJ l6)]]) (fun (d7,d8,d9,l5,l6)=>zFO (zBd x2 n0) i1 d7 d8 d9 l5 l6) ?_ ?_
   ·
    refine zV<|zI<|zC<|zA (zB rfl)<|zA (zD rfl)<|zG ?_
    refine zI<|zC<|zA (zM Try.underlying29 rfl rfl Try.sizeOf26 rfl)<|zAJ (zBz (k:=1) (o:=3) (t':=46) (sz:=10) (rows:=List.map zO l3) rfl rfl)<|zA (zN Try.isAgg26 rfl rfl rfl rfl)<|zA (zD1 (f:=zO) (l:=l3) Try.underlying26 rfl rfl) ?_
    refine zA (zB rfl)<|zG<|zV<|z6 (σ:=Int×(List Int)×Int×Int×(List zW)×(List zK)) (fun (i2,d10,d11,d12,l7,l8)=>mkE [(2,(AV.ptr 0 0)),(3,(AV.ptr 1 0)),(4,(li i1)),(14,(li (x2.caches.length:Int))),(15,(li i1)),(20,(li (l3.length:Int))),(21,(li i2))]) (fun (i2,d10,d11,d12,l7,l8)=>[.box 29 (zF ⟨[],0,0,[],[]⟩),.box 29 [ls cI d10,li d11,li d12,AV.osl 46 10 (List.map zO l7),AV.osl 50 1 (List.map zJ l8)]]) (fun n1 (i2,d10,d11,d12,l7,l8)=>zEC (zBd x2 n0) i1 l3 n1 i2 d10 d11 d12 l7 l8) (0,d4,d5,d6,l3,l4) h (fun _=>rfl) (Rep.trans (zAT (k:=1) (j:=2) (o:=3) rfl rfl rfl rfl) (zAZ [0,1] (l:=[(2,(AV.ptr 0 0)),(3,(AV.ptr 1 0)),(4,(li i1)),(14,(li (x2.caches.length:Int))),(15,(li i1)),(20,(li (l3.length:Int))),(21,(li 0))]) rfl rfl (by kernel_rfl))) ?_
    clear h
    rintro n1 ⟨i2,d10,d11,d12,l7,l8⟩ h
    replace h:zCR (zBd x2 n0) i1 l3 (zEC (zBd x2 n0) i1 l3 n1) i2 d10 d11 d12 l7 l8=some r:=h
    unfold zCR at h
    refine zI<|zC<|zA (zi rfl rfl)<|zG<|zI ?_
    refine zY h rfl (fun b4 h => ?_) (fun b4 h => ?_)
    ·refine zS<|zI<|zV<|zI<|zC<|zA (zB rfl) ?_
     refine zA (zD rfl)<|zG<|zC<|zA (zB rfl)<|zA (zB rfl)<|zQ h fun x3 w3 h => ?_
     refine zE6 (k:=1) (la:=[AV.ptr 1 0,li i1,li i2]) (la':=[AV.ptr 0 0,li i1,li i2]) (r:=(.tup [])) (S:=[]) (en' := .box 29 [ls cI x3.nodes,li x3.batch,li x3.high,AV.osl 46 10 (List.map zO x3.zones),AV.osl 50 1 (List.map zJ x3.caches)]) Try.func44 rfl (by kernel_rfl) (.fn 44) rfl ⟨zDQ.ptr,zDQ.of (zBI.nr rfl),zDQ.of (zBI.nr rfl),trivial⟩ rfl rfl (by kernel_rfl) (by kernel_rfl) (zG9 w3) rfl (.inl rfl)<|zG<|zC<|zL h fun b5 h=>zA (zg rfl rfl b5)<|zA (zB rfl) ?_
     refine zG ?_
     exact ⟨((i2+1),x3.nodes,x3.batch,x3.high,x3.zones,x3.caches),zAZ [0,1] rfl rfl (by kernel_rfl),h⟩
    refine zAC ?_
    exact ⟨(d10,d11,d12,l7,l8),zAZ [0,1] rfl rfl (by kernel_rfl),h⟩
   clear h
   rintro ⟨d7,d8,d9,l5,l6⟩ h
   unfold zFO at h
   refine zC<|zL h fun b3 h=>zA (zg rfl rfl b3)<|zA (zB rfl)<|zG ?_
   exact ⟨((i1+1),d7,d8,d9,l5,l6),zAZ [0,1] rfl rfl (by kernel_rfl),h⟩
  refine zAC ?_
  exact ⟨(d4,d5,d6,l3,l4),zAZ [0,1] rfl rfl (by kernel_rfl),h⟩
 clear h
 rintro ⟨d1,d2,d3,l1,l2⟩ h
 unfold zHB at h
 refine zI<|zC<|zAJ (zB7 (k:=1) (o:=3) (rows':=List.map zO l1) rfl rfl (zAb (fun _=>rfl)))<|zAJ (zB7 (k:=1) (o:=4) (rows':=List.map zJ l2) rfl rfl (zAb (fun _=>rfl)))<|zA (zR (k:=1) (o:=0) (m:=5) Try.isAgg29 Try.sizeOf29 rfl rfl rfl rfl rfl)<|za (H':=[.box 29 (zF (⟨d1,d2,d3,l1,l2⟩:zH)),.box 29 (zF ⟨d1,d2,d3,l1,l2⟩)]) (zT (k:=0) (o:=0) (cs:=(zF ⟨[],0,0,[],[]⟩)) (la:=(zF (⟨d1,d2,d3,l1,l2⟩:zH))) Try.sizeOf29 rfl rfl rfl rfl) ?_
 refine zG<|zd ?_
 cases h
 exact zy (zGO Try.isAgg29 Try.sizeOf29 rfl rfl rfl rfl)
theorem zJt {C:List Int} {V:List Int} {r:Bool} (h:zHd C V=some r):PFn Try.prog 30 [ls cI C,ls cI V] (AV.lit (.bool r)):=by
 refine zq Try.func30 rfl Try.ntmps30 Try.results30 rfl ?_
 unfold zHd at h
 refine zI<|zC<|zA (zD rfl)<|zG<|zI<|zI ?_
 refine zC<|zA (zB rfl)<|zA (ze Try.underlying22 rfl)<|zA (zB rfl)<|zA (ze Try.underlying22 rfl)<|zA (z7 rfl rfl) ?_
 refine zG ?_
 refine zY h rfl (fun b1 h => ?_) (fun b1 h => ?_)
 ·refine zI<|zC<|zA (zD rfl)<|zG<|zd ?_
  cases h
  exact zy (zAl rfl rfl)
 refine zS ?_
 refine zAA (r:=r) (fun (_:Unit)=>mkE []) (fun _=>[]) (fun _=>zHK ) ?_ ?_
 ·
  refine zI<|zC<|zA (zB rfl)<|zA (ze Try.underlying22 rfl)<|zA (zB rfl)<|zG ?_
  refine zV<|z6 (σ:=Int) (fun i1=>mkE [(0,(ls cI C)),(1,(ls cI V)),(12,(li (C.length:Int))),(13,(li i1))]) (fun i1=>[]) (fun n0 i1=>zFt C V n0 i1) 0 h (fun _=>rfl) (zAZ [] rfl rfl (by kernel_rfl)) ?_
  clear h
  intro n0 i1 h
  replace h:zHP C V (zFt C V n0) i1=some r:=h
  unfold zHP at h
  refine zI<|zC<|zA (zi rfl rfl)<|zG<|zI ?_
  refine zY h rfl (fun b2 h => ?_) (fun b2 h => ?_)
  ·refine zS<|zI<|zV<|zI<|zC<|zA (zB rfl) ?_
   refine zA (zD rfl)<|zG<|zI<|zL h fun b3 h=>zL h fun b4 h => ?_
   refine zBr (n:=26) (m:=0) [.head 0 0,.head 0 0,.head 0 0,.head 0 0,.head 0 0,.head 0 0,.head 0 0,.head 0 0,.head 0 0] [] [ls cI C,li i1,(AV.rp (cI (at_ C i1)) 0),(li (at_ C i1)),ls cI V,li i1,(AV.rp (cI (at_ V i1)) 0),(li (at_ V i1)),(AV.lit (.bool (!decide ((at_ C i1)=(at_ V i1)))))] [[]] (by kernel_rfl) (by kernel_rfl) ⟨D1 fun e s p=>zB (s 0 rfl),D1 fun e s p=>zB (s 5 rfl),D1 fun e s p=>zm (f:=cI) (l:=C) (i:=i1) Try.underlying22 Try.sizeOf3 (fun _=>rfl) p.1 p.2.1 b3,D1 fun e s p=>zo (o:=0) Try.isAgg3 p.1 rfl,D1 fun e s p=>zB (s 1 rfl),D1 fun e s p=>zB (s 5 rfl),D1 fun e s p=>zm (f:=cI) (l:=V) (i:=i1) Try.underlying22 Try.sizeOf3 (fun _=>rfl) p.1 p.2.1 b4,D1 fun e s p=>zo (o:=0) Try.isAgg3 p.1 rfl,D1 fun e s p=>z7 (a:=at_ C i1) (b:=at_ V i1) p.1 p.2.1,trivial⟩ ?_
   intro e10 s10 hq1
   refine zA5 (zCy (l:=[(0,(ls cI C)),(1,(ls cI V)),(12,(li (C.length:Int))),(13,(li i1)),(24,(AV.lit (.bool (!decide ((at_ C i1)=(at_ V i1))))))]) ⟨s10 0 rfl,s10 1 rfl,s10 12 rfl,s10 13 rfl,(hq1 8 (by decide) (by decide)),trivial⟩) ?_
   refine zY h rfl (fun b5 h => ?_) (fun b5 h => ?_)
   ·refine zI<|zC<|zA (zD rfl)<|zG<|zd ?_
    cases h
    exact zy (zAl rfl rfl)
   refine zS<|zC<|zL h fun b6 h=>zA (zg rfl rfl b6)<|zA (zB rfl)<|zG ?_
   exact ⟨(i1+1),zAZ [] rfl rfl (by kernel_rfl),h⟩
  refine zAC ?_
  exact ⟨(),zAZ [] rfl rfl (by kernel_rfl),h⟩
 clear h
 intro _ h
 unfold zHK at h
 refine zI<|zC<|zA (zD rfl)<|zG<|zd ?_
 cases h
 exact zy (zAl rfl rfl)
theorem zMu {C:List Int} {V:List Int} {r:Bool} (h:zJh C V=some r):PFn Try.prog 55 [ls cI C,ls cI V] (AV.lit (.bool r)):=by
 refine zq Try.func55 rfl Try.ntmps55 Try.results55 rfl ?_
 unfold zJh at h
 refine zI<|zC<|zA (zD rfl)<|zG<|zI<|zI ?_
 refine zC<|zA (zB rfl)<|zA (ze Try.underlying22 rfl)<|zA (zB rfl)<|zA (ze Try.underlying22 rfl)<|zA (z7 rfl rfl) ?_
 refine zG ?_
 refine zY h rfl (fun b1 h => ?_) (fun b1 h => ?_)
 ·refine zI<|zC<|zA (zD rfl)<|zG<|zd ?_
  cases h
  exact zy (zAl rfl rfl)
 refine zS ?_
 refine zAA (r:=r) (fun (_:Unit)=>mkE []) (fun _=>[]) (fun _=>zHS ) ?_ ?_
 ·
  refine zI<|zC<|zA (zD rfl)<|zG<|zV<|z6 (σ:=Int) (fun i1=>mkE [(0,(ls cI C)),(1,(ls cI V)),(5,(li i1))]) (fun i1=>[]) (fun n0 i1=>zFs C V n0 i1) 0 h (fun _=>rfl) (zAZ [] rfl rfl (by kernel_rfl)) ?_
  clear h
  intro n0 i1 h
  replace h:zHJ C V (zFs C V n0) i1=some r:=h
  unfold zHJ at h
  refine zI<|zI<|zC<|zA (zB rfl)<|zA (zB rfl)<|zA (ze Try.underlying22 rfl) ?_
  refine zA (zi rfl rfl)<|zG ?_
  refine zY h rfl (fun b2 h => ?_) (fun b2 h => ?_)
  ·refine zS<|zI<|zV<|zI<|zL h fun b3 h=>zL h fun b4 h => ?_
   refine zBr (n:=26) (m:=0) [.head 0 0,.head 0 0,.head 0 0,.head 0 0,.head 0 0,.head 0 0,.head 0 0,.head 0 0,.head 0 0] [] [ls cI C,li i1,(AV.rp (cI (at_ C i1)) 0),(li (at_ C i1)),ls cI V,li i1,(AV.rp (cI (at_ V i1)) 0),(li (at_ V i1)),(AV.lit (.bool (!decide ((at_ C i1)=(at_ V i1)))))] [[]] (by kernel_rfl) (by kernel_rfl) ⟨D1 fun e s p=>zB (s 0 rfl),D1 fun e s p=>zB (s 5 rfl),D1 fun e s p=>zm (f:=cI) (l:=C) (i:=i1) Try.underlying22 Try.sizeOf3 (fun _=>rfl) p.1 p.2.1 b3,D1 fun e s p=>zo (o:=0) Try.isAgg3 p.1 rfl,D1 fun e s p=>zB (s 1 rfl),D1 fun e s p=>zB (s 5 rfl),D1 fun e s p=>zm (f:=cI) (l:=V) (i:=i1) Try.underlying22 Try.sizeOf3 (fun _=>rfl) p.1 p.2.1 b4,D1 fun e s p=>zo (o:=0) Try.isAgg3 p.1 rfl,D1 fun e s p=>z7 (a:=at_ C i1) (b:=at_ V i1) p.1 p.2.1,trivial⟩ ?_
   intro e10 s10 hq1
   refine zA5 (zCy (l:=[(0,(ls cI C)),(1,(ls cI V)),(5,(li i1)),(25,(AV.lit (.bool (!decide ((at_ C i1)=(at_ V i1))))))]) ⟨s10 0 rfl,s10 1 rfl,s10 5 rfl,(hq1 8 (by decide) (by decide)),trivial⟩) ?_
   refine zY h rfl (fun b5 h => ?_) (fun b5 h => ?_)
   ·refine zI<|zC<|zA (zD rfl)<|zG<|zd ?_
    cases h
    exact zy (zAl rfl rfl)
   refine zS<|zC<|zA (zB rfl)<|zL h fun b6 h=>zA (zg rfl rfl b6)<|zA (zD rfl) ?_
   refine zG ?_
   exact ⟨(i1+1),zAZ [] rfl rfl (by kernel_rfl),h⟩
  refine zAC ?_
  exact ⟨(),zAZ [] rfl rfl (by kernel_rfl),h⟩
 clear h
 intro _ h
 unfold zHS at h
 refine zI<|zC<|zA (zD rfl)<|zG<|zd ?_
 cases h
 exact zy (zAl rfl rfl)
theorem zPb {C:zW} {V:zW} {r:Bool} (h:zMo C V=some r):PFn Try.prog 31 [(AV.agg (zO C)),(AV.agg (zO V))] (AV.lit (.bool r)):=by
 refine zq Try.func31 rfl Try.ntmps31 Try.results31 rfl ?_
 unfold zMo at h
 refine zI<|zC<|zX (H':=[.box 46 (zO C)]) (z8 (t:=46) rfl)<|zX (H':=[.box 46 (zO C),.box 46 (zO V)]) (z8 (t:=46) rfl)<|zA (zD rfl)<|zG ?_
 refine zI<|zI<|zC<|zA (zM Try.underlying46 rfl rfl Try.sizeOf3 rfl)<|zA (zN Try.isAgg3 rfl rfl rfl rfl)<|zA (zM Try.underlying46 rfl rfl Try.sizeOf3 rfl) ?_
 refine zA (zN Try.isAgg3 rfl rfl rfl rfl)<|zA (z7 rfl rfl)<|zA (zB rfl)<|zZ rfl rfl (fun c1=>zv.step (zM Try.underlying46 rfl rfl Try.sizeOf3 rfl))<|zZ rfl rfl (fun c2=>zv.step (zN Try.isAgg3 (zAQ rfl c2) rfl rfl rfl))<|zZ rfl rfl (fun c3=>zv.step (zM Try.underlying46 rfl rfl Try.sizeOf3 rfl)) ?_
 refine zZ rfl rfl (fun c4=>zv.step (zN Try.isAgg3 (zAQ rfl c4) rfl rfl rfl))<|zZ rfl rfl (fun c5=>zv.step (z7 (zAQ rfl c5) (zAQ rfl c5)))<|zA (zh rfl rfl)<|zA (zB rfl)<|zZ rfl rfl (fun c6=>zv.step (zM Try.underlying46 rfl rfl Try.sizeOf3 rfl))<|zZ rfl rfl (fun c7=>zv.step (zN Try.isAgg3 (zAQ rfl c7) rfl rfl rfl)) ?_
 refine zZ rfl rfl (fun c8=>zv.step (zM Try.underlying46 rfl rfl Try.sizeOf3 rfl))<|zZ rfl rfl (fun c9=>zv.step (zN Try.isAgg3 (zAQ rfl c9) rfl rfl rfl))<|zZ rfl rfl (fun c10=>zv.step (z7 (zAQ rfl c10) (zAQ rfl c10)))<|zA (zh rfl rfl)<|zA (zB rfl)<|zZ rfl rfl (fun c11=>zv.step (zM Try.underlying46 rfl rfl Try.sizeOf3 rfl)) ?_
 refine zZ rfl rfl (fun c12=>zv.step (zN Try.isAgg3 (zAQ rfl c12) rfl rfl rfl))<|zZ rfl rfl (fun c13=>zv.step (zM Try.underlying46 rfl rfl Try.sizeOf3 rfl))<|zZ rfl rfl (fun c14=>zv.step (zN Try.isAgg3 (zAQ rfl c14) rfl rfl rfl))<|zZ rfl rfl (fun c15=>zv.step (z7 (zAQ rfl c15) (zAQ rfl c15)))<|zA (zh rfl rfl)<|zA (zB rfl) ?_
 refine zZ rfl rfl (fun c16=>zv.step (zM Try.underlying46 rfl rfl Try.sizeOf3 rfl))<|zZ rfl rfl (fun c17=>zv.step (zN Try.isAgg3 (zAQ rfl c17) rfl rfl rfl))<|zZ rfl rfl (fun c18=>zv.step (zM Try.underlying46 rfl rfl Try.sizeOf3 rfl))<|zZ rfl rfl (fun c19=>zv.step (zN Try.isAgg3 (zAQ rfl c19) rfl rfl rfl))<|zZ rfl rfl (fun c20=>zv.step (z7 (zAQ rfl c20) (zAQ rfl c20)))<|zA (zh rfl rfl) ?_
 refine zG ?_
 refine zY h rfl (fun b1 h => ?_) (fun b1 h => ?_)
 ·refine zI<|zC<|zA (zD rfl)<|zG<|zd ?_
  cases h
  exact zy (zAl rfl rfl)
 refine zS ?_
 refine zAA (r:=r) (fun (_:Unit)=>mkE []) (fun _=>[]) (fun _=>zKT ) ?_ ?_
 ·
  refine zI<|zC<|zA (zD rfl)<|zG<|zV<|z6 (σ:=Int) (fun i1=>mkE [(2,(AV.ptr 0 0)),(3,(AV.ptr 1 0)),(5,(li i1))]) (fun i1=>[.box 46 (zO C),.box 46 (zO V)]) (fun n0 i1=>zIO C V n0 i1) 0 h (fun _=>rfl) (zAZ [0,1] rfl rfl (by kernel_rfl)) ?_
  clear h
  intro n0 i1 h
  replace h:zKG C V (zIO C V n0) i1=some r:=h
  unfold zKG at h
  refine zI<|zI<|zC<|zA (zB rfl)<|zA (zIQ rfl rfl)<|zG ?_
  refine zY h rfl (fun b2 h => ?_) (fun b2 h => ?_)
  ·refine zS<|zI<|zV<|zI<|zL h fun b3 h=>zQ h fun x1 w1 h => ?_
   refine zBr (n:=53) (m:=0) [.head 0 0,.head 0 0,.head 0 0,.head 0 0,.head 0 0,.head 0 0,.head 0 0,.head 0 0,.head 0 0,.head 0 0] [] [li i1,AV.ptr 0 5,(AV.ptr 0 (5+i1.toNat*1)),(ls cI (C.free.getD i1.toNat ([]:List Int))),li i1,AV.ptr 1 5,(AV.ptr 1 (5+i1.toNat*1)),(ls cI (V.free.getD i1.toNat ([]:List Int))),(AV.lit (.bool x1)),(AV.lit (.bool (!x1)))] [[.box 46 (zO C),.box 46 (zO V)]] (by kernel_rfl) (by kernel_rfl) ⟨D1 fun e s p=>zB (s 5 rfl),D1 fun e s p=>zM (k:=0) (o:=0) (off:=5) Try.underlying46 rfl rfl Try.sizeOf44 (s 2 rfl),D1 fun e s p=>zAP (m:=5) (s:=1) (i:=i1) (k:=0) (o:=5) Try.underlying44 Try.sizeOf22 p.1 p.2.1 b3,D1 fun e s p=>zCx (k:=0) (o:=(5+i1.toNat*1)) (cs:=(zO C)) (hd:=([li C.node]++[li C.kind]++[li C.start]++[li C.count]++[li C.min]++[])) (tl:=([])) (g:=(eS cI)) (d0:=([]:List Int)) (l:=C.free) (N:=5) (i:=i1.toNat) (a:=(ls cI (C.free.getD i1.toNat ([]:List Int)))) Try.isAgg22 p.1 rfl rfl (congrArg (fun q=>5+q) (Nat.mul_one _)) (zBt b3).2 rfl rfl,D1 fun e s p=>zB (s 5 rfl),D1 fun e s p=>zM (k:=1) (o:=0) (off:=5) Try.underlying46 rfl rfl Try.sizeOf44 (s 3 rfl),D1 fun e s p=>zAP (m:=5) (s:=1) (i:=i1) (k:=1) (o:=5) Try.underlying44 Try.sizeOf22 p.1 p.2.1 b3,D1 fun e s p=>zCx (k:=1) (o:=(5+i1.toNat*1)) (cs:=(zO V)) (hd:=([li V.node]++[li V.kind]++[li V.start]++[li V.count]++[li V.min]++[])) (tl:=([])) (g:=(eS cI)) (d0:=([]:List Int)) (l:=V.free) (N:=5) (i:=i1.toNat) (a:=(ls cI (V.free.getD i1.toNat ([]:List Int)))) Try.isAgg22 p.1 rfl rfl (congrArg (fun q=>5+q) (Nat.mul_one _)) (zBt b3).2 rfl rfl,?_,D1 fun e s p=>zBf (t:=x1) p.1,trivial⟩ ?_
   ·
    intro e9 s9 p9
    refine zb (r:=(AV.lit (.bool x1))) (la:=[(ls cI (C.free.getD i1.toNat ([]:List Int))),(ls cI (V.free.getD i1.toNat ([]:List Int)))]) Try.func55 rfl (by kernel_rfl) (.fn 55) (zAe p9.1 (zAe p9.2.1 rfl)) rfl (zMu w1) rfl ?_
    exact zG ⟨fun _=>rfl,rfl⟩
   intro e11 s11 hq1
   refine zA5 (zCy (l:=[(2,(AV.ptr 0 0)),(3,(AV.ptr 1 0)),(5,(li i1)),(52,(AV.lit (.bool (!x1))))]) ⟨s11 2 rfl,s11 3 rfl,s11 5 rfl,(hq1 9 (by decide) (by decide)),trivial⟩) ?_
   refine zY h rfl (fun b4 h => ?_) (fun b4 h => ?_)
   ·refine zI<|zC<|zA (zD rfl)<|zG<|zd ?_
    cases h
    exact zy (zAl rfl rfl)
   refine zS<|zC<|zA (zB rfl)<|zL h fun b5 h=>zA (zg rfl rfl b5)<|zA (zD rfl) ?_
   refine zG ?_
   exact ⟨(i1+1),zAZ [0,1] rfl rfl (by kernel_rfl),h⟩
  refine zAC ?_
  exact ⟨(),zAZ [] rfl rfl (by kernel_rfl),h⟩
 clear h
 intro _ h
 unfold zKT at h
 refine zI<|zC<|zA (zD rfl)<|zG<|zd ?_
 cases h
 exact zy (zAl rfl rfl)
theorem zPu {C:zK} {V:zK} {r:Bool} (h:zMw C V=some r):PFn Try.prog 32 [(AV.agg (zJ C)),(AV.agg (zJ V))] (AV.lit (.bool r)):=by
 refine zq Try.func32 rfl Try.ntmps32 Try.results32 rfl ?_
 unfold zMw at h
 refine zI<|zC<|zX (H':=[.box 50 (zJ C)]) (z8 (t:=50) rfl)<|zX (H':=[.box 50 (zJ C),.box 50 (zJ V)]) (z8 (t:=50) rfl)<|zA (zD rfl)<|zG ?_
 refine zI<|zI<|zC<|zA (zM Try.underlying50 rfl rfl Try.sizeOf48 rfl)<|zA (zN Try.isAgg48 rfl rfl rfl rfl)<|zA (ze Try.underlying48 rfl) ?_
 refine zA (zM Try.underlying50 rfl rfl Try.sizeOf48 rfl)<|zA (zN Try.isAgg48 rfl rfl rfl rfl)<|zA (ze Try.underlying48 rfl)<|zA (z7 rfl rfl)<|zG ?_
 refine zY h rfl (fun b1 h => ?_) (fun b1 h => ?_)
 ·refine zI<|zC<|zA (zD rfl)<|zG<|zd ?_
  cases h
  exact zy (zAl rfl rfl)
 refine zS ?_
 refine zAA (r:=r) (fun (_:Unit)=>mkE []) (fun _=>[]) (fun _=>zJz ) ?_ ?_
 ·
  refine zI<|zC<|zA (zM Try.underlying50 rfl rfl Try.sizeOf48 rfl)<|zA (zN Try.isAgg48 rfl rfl rfl rfl)<|zA (ze Try.underlying48 rfl)<|zA (zB rfl) ?_
  refine zG<|zV<|z6 (σ:=Int) (fun i1=>mkE [(2,(AV.ptr 0 0)),(3,(AV.ptr 1 0)),(15,(li (C.lists.length:Int))),(16,(li i1))]) (fun i1=>[.box 50 (zJ C),.box 50 (zJ V)]) (fun n0 i1=>zIR C V n0 i1) 0 h (fun _=>rfl) (zAZ [0,1] rfl rfl (by kernel_rfl)) ?_
  clear h
  intro n0 i1 h
  replace h:zKL C V (zIR C V n0) i1=some r:=h
  unfold zKL at h
  refine zI<|zC<|zA (zi rfl rfl)<|zG<|zI ?_
  refine zY h rfl (fun b2 h => ?_) (fun b2 h => ?_)
  ·refine zS<|zI<|zV<|zI<|zC<|zA (zB rfl) ?_
   refine zA (zD rfl)<|zG<|zI<|zL h fun b3 h=>zL h fun b4 h=>zQ h fun x1 w1 h => ?_
   refine zBr (n:=32) (m:=0) [.head 0 0,.head 0 0,.head 0 0,.head 0 0,.head 0 0,.head 0 0,.head 0 0,.head 0 0,.head 0 0,.head 0 0,.head 0 0,.head 0 0] [] [AV.ptr 0 0,(ls (cS cI) C.lists),li i1,(AV.rp ((cS cI) (at_ C.lists i1)) 0),(ls cI (at_ C.lists i1)),AV.ptr 1 0,(ls (cS cI) V.lists),li i1,(AV.rp ((cS cI) (at_ V.lists i1)) 0),(ls cI (at_ V.lists i1)),(AV.lit (.bool x1)),(AV.lit (.bool (!x1)))] [[.box 50 (zJ C),.box 50 (zJ V)]] (by kernel_rfl) (by kernel_rfl) ⟨D1 fun e s p=>zM (k:=0) (o:=0) (off:=0) Try.underlying50 rfl rfl Try.sizeOf48 (s 2 rfl),D1 fun e s p=>zN (k:=0) (o:=0) Try.isAgg48 p.1 rfl rfl rfl,D1 fun e s p=>zB (s 5 rfl),D1 fun e s p=>zm (f:=(cS cI)) (l:=C.lists) (i:=i1) Try.underlying48 Try.sizeOf22 (fun _=>rfl) p.1 p.2.1 b3,D1 fun e s p=>zo (o:=0) Try.isAgg22 p.1 rfl,D1 fun e s p=>zM (k:=1) (o:=0) (off:=0) Try.underlying50 rfl rfl Try.sizeOf48 (s 3 rfl),D1 fun e s p=>zN (k:=1) (o:=0) Try.isAgg48 p.1 rfl rfl rfl,D1 fun e s p=>zB (s 5 rfl),D1 fun e s p=>zm (f:=(cS cI)) (l:=V.lists) (i:=i1) Try.underlying48 Try.sizeOf22 (fun _=>rfl) p.1 p.2.1 b4,D1 fun e s p=>zo (o:=0) Try.isAgg22 p.1 rfl,?_,D1 fun e s p=>zBf (t:=x1) p.1,trivial⟩ ?_
   ·
    intro e11 s11 p11
    refine zb (r:=(AV.lit (.bool x1))) (la:=[(ls cI (at_ C.lists i1)),(ls cI (at_ V.lists i1))]) Try.func30 rfl (by kernel_rfl) (.fn 30) (zAe p11.1 (zAe p11.2.1 rfl)) rfl (zJt w1) rfl ?_
    exact zG ⟨fun _=>rfl,rfl⟩
   intro e13 s13 hq1
   refine zA5 (zCy (l:=[(2,(AV.ptr 0 0)),(3,(AV.ptr 1 0)),(15,(li (C.lists.length:Int))),(16,(li i1)),(30,(AV.lit (.bool (!x1))))]) ⟨s13 2 rfl,s13 3 rfl,s13 15 rfl,s13 16 rfl,(hq1 11 (by decide) (by decide)),trivial⟩) ?_
   refine zY h rfl (fun b5 h => ?_) (fun b5 h => ?_)
   ·refine zI<|zC<|zA (zD rfl)<|zG<|zd ?_
    cases h
    exact zy (zAl rfl rfl)
   refine zS<|zC<|zL h fun b6 h=>zA (zg rfl rfl b6)<|zA (zB rfl)<|zG ?_
   exact ⟨(i1+1),zAZ [0,1] rfl rfl (by kernel_rfl),h⟩
  refine zAC ?_
  exact ⟨(),zAZ [] rfl rfl (by kernel_rfl),h⟩
 clear h
 intro _ h
 unfold zJz at h
 refine zI<|zC<|zA (zD rfl)<|zG<|zd ?_
 cases h
 exact zy (zAl rfl rfl)
theorem zPh {A:zH} {B:zH} {r:Bool} (h:zM2 A B=some r):PFn Try.prog 11 [(AV.agg (zF A)),(AV.agg (zF B))] (AV.lit (.bool r)):=by
 refine zq Try.func11 rfl Try.ntmps11 Try.results11 rfl ?_
 unfold zM2 at h
 refine zI<|zC<|zX (H':=[.box 29 (zF A)]) (z8 (t:=29) rfl)<|zX (H':=[.box 29 (zF A),.box 29 (zF B)]) (z8 (t:=29) rfl)<|zA (zD rfl)<|zG ?_
 refine zI<|zI<|zC<|zA (zM Try.underlying29 rfl rfl Try.sizeOf22 rfl)<|zA (zN Try.isAgg22 rfl rfl rfl rfl)<|zA (zM Try.underlying29 rfl rfl Try.sizeOf22 rfl) ?_
 refine zA (zN Try.isAgg22 rfl rfl rfl rfl)<|zQ h fun x1 w1 h=>zb Try.func30 rfl (by kernel_rfl) (.fn 30) rfl rfl (zJt w1) rfl<|zA (zBf (t:=x1) rfl)<|zA (zB rfl)<|zZ rfl rfl (fun c1=>zv.step (zM Try.underlying29 rfl rfl Try.sizeOf3 rfl)) ?_
 refine zZ rfl rfl (fun c2=>zv.step (zN Try.isAgg3 (zAQ rfl c2) rfl rfl rfl))<|zZ rfl rfl (fun c3=>zv.step (zM Try.underlying29 rfl rfl Try.sizeOf3 rfl))<|zZ rfl rfl (fun c4=>zv.step (zN Try.isAgg3 (zAQ rfl c4) rfl rfl rfl))<|zZ rfl rfl (fun c5=>zv.step (z7 (zAQ rfl c5) (zAQ rfl c5)))<|zA (zh rfl rfl)<|zA (zB rfl) ?_
 refine zZ rfl rfl (fun c6=>zv.step (zM Try.underlying29 rfl rfl Try.sizeOf3 rfl))<|zZ rfl rfl (fun c7=>zv.step (zN Try.isAgg3 (zAQ rfl c7) rfl rfl rfl))<|zZ rfl rfl (fun c8=>zv.step (zM Try.underlying29 rfl rfl Try.sizeOf3 rfl))<|zZ rfl rfl (fun c9=>zv.step (zN Try.isAgg3 (zAQ rfl c9) rfl rfl rfl))<|zZ rfl rfl (fun c10=>zv.step (z7 (zAQ rfl c10) (zAQ rfl c10)))<|zA (zh rfl rfl) ?_
 refine zA (zB rfl)<|zZ rfl rfl (fun c11=>zv.step (zM Try.underlying29 rfl rfl Try.sizeOf26 rfl))<|zZ rfl rfl (fun c12=>zv.step (zN Try.isAgg26 (zAQ rfl c12) rfl rfl rfl))<|zZ rfl rfl (fun c13=>zv.step (ze Try.underlying26 (zAQ rfl c13)))<|zZ rfl rfl (fun c14=>zv.step (zM Try.underlying29 rfl rfl Try.sizeOf26 rfl))<|zZ rfl rfl (fun c15=>zv.step (zN Try.isAgg26 (zAQ rfl c15) rfl rfl rfl)) ?_
 refine zZ rfl rfl (fun c16=>zv.step (ze Try.underlying26 (zAQ rfl c16)))<|zZ rfl rfl (fun c17=>zv.step (z7 (zAQ rfl c17) (zAQ rfl c17)))<|zA (zh rfl rfl)<|zA (zB rfl)<|zZ rfl rfl (fun c18=>zv.step (zM Try.underlying29 rfl rfl Try.sizeOf27 rfl))<|zZ rfl rfl (fun c19=>zv.step (zN Try.isAgg27 (zAQ rfl c19) rfl rfl rfl)) ?_
 refine zZ rfl rfl (fun c20=>zv.step (ze Try.underlying27 (zAQ rfl c20)))<|zZ rfl rfl (fun c21=>zv.step (zM Try.underlying29 rfl rfl Try.sizeOf27 rfl))<|zZ rfl rfl (fun c22=>zv.step (zN Try.isAgg27 (zAQ rfl c22) rfl rfl rfl))<|zZ rfl rfl (fun c23=>zv.step (ze Try.underlying27 (zAQ rfl c23)))<|zZ rfl rfl (fun c24=>zv.step (z7 (zAQ rfl c24) (zAQ rfl c24)))<|zA (zh rfl rfl) ?_
 refine zG ?_
 refine zY h rfl (fun b1 h => ?_) (fun b1 h => ?_)
 ·refine zI<|zC<|zA (zD rfl)<|zG<|zd ?_
  cases h
  exact zy (zAl rfl rfl)
 refine zS ?_
 refine zAA (r:=r) (fun (_:Unit)=>mkE [(2,(AV.ptr 0 0)),(3,(AV.ptr 1 0))]) (fun _=>[.box 29 (zF A),.box 29 (zF B)]) (fun _=>zKC A B) ?_ ?_
 ·
  refine zI<|zC<|zA (zD rfl)<|zG<|zV<|z6 (σ:=Int) (fun i2=>mkE [(2,(AV.ptr 0 0)),(3,(AV.ptr 1 0)),(5,(li i2))]) (fun i2=>[.box 29 (zF A),.box 29 (zF B)]) (fun n1 i2=>zII A B n1 i2) 0 h (fun _=>rfl) (zAZ [0,1] rfl rfl (by kernel_rfl)) ?_
  clear h
  intro n1 i2 h
  replace h:zJ4 A B (zII A B n1) i2=some r:=h
  unfold zJ4 at h
  refine zI<|zI<|zC<|zA (zB rfl)<|zA (zM Try.underlying29 rfl rfl Try.sizeOf26 rfl)<|zA (zN Try.isAgg26 rfl rfl rfl rfl) ?_
  refine zA (ze Try.underlying26 rfl)<|zA (zi rfl rfl)<|zG ?_
  refine zY h rfl (fun b7 h => ?_) (fun b7 h => ?_)
  ·refine zS<|zI<|zV<|zI<|zL h fun b8 h=>zL h fun b9 h => ?_
   refine zQ h fun x3 w3 h => ?_
   refine zBr (n:=83) (m:=0) [.head 0 0,.head 0 0,.head 0 0,.head 0 0,.head 0 0,.head 0 0,.head 0 0,.head 0 0,.head 0 0,.head 0 0,.head 0 0,.head 0 0] [] [AV.ptr 0 3,ls zO A.zones,li i2,(AV.rp (zO (at_ A.zones i2)) 0),(AV.agg (zO (at_ A.zones i2))),AV.ptr 1 3,ls zO B.zones,li i2,(AV.rp (zO (at_ B.zones i2)) 0),(AV.agg (zO (at_ B.zones i2))),(AV.lit (.bool x3)),(AV.lit (.bool (!x3)))] [[.box 29 (zF A),.box 29 (zF B)]] (by kernel_rfl) (by kernel_rfl) ⟨D1 fun e s p=>zM (k:=0) (o:=0) (off:=3) Try.underlying29 rfl rfl Try.sizeOf26 (s 2 rfl),D1 fun e s p=>zN (k:=0) (o:=3) Try.isAgg26 p.1 rfl rfl rfl,D1 fun e s p=>zB (s 5 rfl),D1 fun e s p=>zm (f:=zO) (l:=A.zones) (i:=i2) Try.underlying26 Try.sizeOf46 (fun _=>rfl) p.1 p.2.1 b8,D1 fun e s p=>zBB (row:=(zO (at_ A.zones i2))) (o:=0) (m:=10) (la:=(zO (at_ A.zones i2))) Try.isAgg46 Try.sizeOf46 p.1 rfl rfl,D1 fun e s p=>zM (k:=1) (o:=0) (off:=3) Try.underlying29 rfl rfl Try.sizeOf26 (s 3 rfl),D1 fun e s p=>zN (k:=1) (o:=3) Try.isAgg26 p.1 rfl rfl rfl,D1 fun e s p=>zB (s 5 rfl),D1 fun e s p=>zm (f:=zO) (l:=B.zones) (i:=i2) Try.underlying26 Try.sizeOf46 (fun _=>rfl) p.1 p.2.1 b9,D1 fun e s p=>zBB (row:=(zO (at_ B.zones i2))) (o:=0) (m:=10) (la:=(zO (at_ B.zones i2))) Try.isAgg46 Try.sizeOf46 p.1 rfl rfl,?_,D1 fun e s p=>zBf (t:=x3) p.1,trivial⟩ ?_
   ·
    intro e24 s24 p23
    refine zb (r:=(AV.lit (.bool x3))) (la:=[(AV.agg (zO (at_ A.zones i2))),(AV.agg (zO (at_ B.zones i2)))]) Try.func31 rfl (by kernel_rfl) (.fn 31) (zAe p23.1 (zAe p23.2.1 rfl)) rfl (zPb w3) rfl ?_
    exact zG ⟨fun _=>rfl,rfl⟩
   intro e26 s26 hq2
   refine zA5 (zCy (l:=[(2,(AV.ptr 0 0)),(3,(AV.ptr 1 0)),(5,(li i2)),(63,(AV.lit (.bool (!x3))))]) ⟨s26 2 rfl,s26 3 rfl,s26 5 rfl,(hq2 11 (by decide) (by decide)),trivial⟩) ?_
   refine zY h rfl (fun b10 h => ?_) (fun b10 h => ?_)
   ·refine zI<|zC<|zA (zD rfl)<|zG<|zd ?_
    cases h
    exact zy (zAl rfl rfl)
   refine zS<|zC<|zA (zB rfl)<|zL h fun b11 h=>zA (zg rfl rfl b11)<|zA (zD rfl) ?_
   refine zG ?_
   exact ⟨(i2+1),zAZ [0,1] rfl rfl (by kernel_rfl),h⟩
  refine zAC ?_
  exact ⟨(),zAZ [0,1] rfl rfl (by kernel_rfl),h⟩
 clear h
 intro _ h
 unfold zKC at h
 refine zAA (r:=r) (fun (_:Unit)=>mkE []) (fun _=>[]) (fun _=>zKV ) ?_ ?_
 ·
  refine zI<|zC<|zA (zD rfl)<|zG<|zV<|z6 (σ:=Int) (fun i1=>mkE [(2,(AV.ptr 0 0)),(3,(AV.ptr 1 0)),(6,(li i1))]) (fun i1=>[.box 29 (zF A),.box 29 (zF B)]) (fun n0 i1=>zIJ A B n0 i1) 0 h (fun _=>rfl) (zAZ [0,1] rfl rfl (by kernel_rfl)) ?_
  clear h
  intro n0 i1 h
  replace h:zJy A B (zIJ A B n0) i1=some r:=h
  unfold zJy at h
  refine zI<|zI<|zC<|zA (zB rfl)<|zA (zM Try.underlying29 rfl rfl Try.sizeOf27 rfl)<|zA (zN Try.isAgg27 rfl rfl rfl rfl) ?_
  refine zA (ze Try.underlying27 rfl)<|zA (zi rfl rfl)<|zG ?_
  refine zY h rfl (fun b2 h => ?_) (fun b2 h => ?_)
  ·refine zS<|zI<|zV<|zI<|zL h fun b3 h=>zL h fun b4 h => ?_
   refine zQ h fun x2 w2 h => ?_
   refine zBr (n:=83) (m:=0) [.head 0 0,.head 0 0,.head 0 0,.head 0 0,.head 0 0,.head 0 0,.head 0 0,.head 0 0,.head 0 0,.head 0 0,.head 0 0,.head 0 0] [] [AV.ptr 0 4,ls zJ A.caches,li i1,(AV.rp (zJ (at_ A.caches i1)) 0),(AV.agg (zJ (at_ A.caches i1))),AV.ptr 1 4,ls zJ B.caches,li i1,(AV.rp (zJ (at_ B.caches i1)) 0),(AV.agg (zJ (at_ B.caches i1))),(AV.lit (.bool x2)),(AV.lit (.bool (!x2)))] [[.box 29 (zF A),.box 29 (zF B)]] (by kernel_rfl) (by kernel_rfl) ⟨D1 fun e s p=>zM (k:=0) (o:=0) (off:=4) Try.underlying29 rfl rfl Try.sizeOf27 (s 2 rfl),D1 fun e s p=>zN (k:=0) (o:=4) Try.isAgg27 p.1 rfl rfl rfl,D1 fun e s p=>zB (s 6 rfl),D1 fun e s p=>zm (f:=zJ) (l:=A.caches) (i:=i1) Try.underlying27 Try.sizeOf50 (fun _=>rfl) p.1 p.2.1 b3,D1 fun e s p=>zBB (row:=(zJ (at_ A.caches i1))) (o:=0) (m:=1) (la:=(zJ (at_ A.caches i1))) Try.isAgg50 Try.sizeOf50 p.1 rfl rfl,D1 fun e s p=>zM (k:=1) (o:=0) (off:=4) Try.underlying29 rfl rfl Try.sizeOf27 (s 3 rfl),D1 fun e s p=>zN (k:=1) (o:=4) Try.isAgg27 p.1 rfl rfl rfl,D1 fun e s p=>zB (s 6 rfl),D1 fun e s p=>zm (f:=zJ) (l:=B.caches) (i:=i1) Try.underlying27 Try.sizeOf50 (fun _=>rfl) p.1 p.2.1 b4,D1 fun e s p=>zBB (row:=(zJ (at_ B.caches i1))) (o:=0) (m:=1) (la:=(zJ (at_ B.caches i1))) Try.isAgg50 Try.sizeOf50 p.1 rfl rfl,?_,D1 fun e s p=>zBf (t:=x2) p.1,trivial⟩ ?_
   ·
    intro e11 s11 p11
    refine zb (r:=(AV.lit (.bool x2))) (la:=[(AV.agg (zJ (at_ A.caches i1))),(AV.agg (zJ (at_ B.caches i1)))]) Try.func32 rfl (by kernel_rfl) (.fn 32) (zAe p11.1 (zAe p11.2.1 rfl)) rfl (zPu w2) rfl ?_
    exact zG ⟨fun _=>rfl,rfl⟩
   intro e13 s13 hq1
   refine zA5 (zCy (l:=[(2,(AV.ptr 0 0)),(3,(AV.ptr 1 0)),(6,(li i1)),(82,(AV.lit (.bool (!x2))))]) ⟨s13 2 rfl,s13 3 rfl,s13 6 rfl,(hq1 11 (by decide) (by decide)),trivial⟩) ?_
   refine zY h rfl (fun b5 h => ?_) (fun b5 h => ?_)
   ·refine zI<|zC<|zA (zD rfl)<|zG<|zd ?_
    cases h
    exact zy (zAl rfl rfl)
   refine zS<|zC<|zA (zB rfl)<|zL h fun b6 h=>zA (zg rfl rfl b6)<|zA (zD rfl) ?_
   refine zG ?_
   exact ⟨(i1+1),zAZ [0,1] rfl rfl (by kernel_rfl),h⟩
  refine zAC ?_
  exact ⟨(),zAZ [] rfl rfl (by kernel_rfl),h⟩
 clear h
 intro _ h
 unfold zKV at h
 refine zI<|zC<|zA (zD rfl)<|zG<|zd ?_
 cases h
 exact zy (zAl rfl rfl)
theorem zLk  {r:Bool} (h:zId=some r):PFn Try.prog 8 [] (AV.lit (.bool r)):=by
 refine zq Try.func8 rfl Try.ntmps8 Try.results8 rfl ?_
 unfold zId at h
 refine zI<|zC<|zA (zD (av:=(AV.lit (.bool false))) rfl)<|zG<|zI<|zC ?_
 refine zPt (N:=2) (pl:=[(0,1),(1,1)]) (zs:=[.int .i64 0,.int .i64 0]) (zc:=[.lit (.int .i64 0),.lit (.int .i64 0)]) (rows:=List.map cI [0,1]) zHR Try.underlying22 rfl rfl rfl (by kernel_rfl) rfl (⟨zBC.refl _,⟨zBC.refl _,trivial⟩⟩) ⟨li 0,0,1,rfl,rfl,rfl,rfl,rfl,⟨li 1,1,1,rfl,rfl,rfl,rfl,rfl,(by exact zLh.refl _)⟩⟩ rfl rfl rfl<|zA (zCm (pl:=[(0,1),(1,1),(2,1),(3,1)]) (zs:=[.int .i64 0,.int .i64 0,.int .i64 0,.int .i64 0]) (zc:=[.lit (.int .i64 0),.lit (.int .i64 0),.lit (.int .i64 0),.lit (.int .i64 0)]) (res:=(zAV (⟨0,0,8,2⟩:zAf))) (fun _=>by kernel_rfl) rfl (⟨zBC.refl _,⟨zBC.refl _,⟨zBC.refl _,⟨zBC.refl _,trivial⟩⟩⟩⟩) ⟨li 0,0,1,rfl,rfl,rfl,rfl,rfl,⟨li 0,1,1,rfl,rfl,rfl,rfl,rfl,⟨li 8,2,1,rfl,rfl,rfl,rfl,rfl,⟨li 2,3,1,rfl,rfl,rfl,rfl,rfl,(by exact zLh.refl _)⟩⟩⟩⟩)<|zA (zCm (pl:=[(0,1),(1,1),(2,1),(3,1)]) (zs:=[.int .i64 0,.int .i64 0,.int .i64 0,.int .i64 0]) (zc:=[.lit (.int .i64 0),.lit (.int .i64 0),.lit (.int .i64 0),.lit (.int .i64 0)]) (res:=(zAV (⟨1,1,8,0⟩:zAf))) (fun _=>by kernel_rfl) rfl (⟨zBC.refl _,⟨zBC.refl _,⟨zBC.refl _,⟨zBC.refl _,trivial⟩⟩⟩⟩) ⟨li 1,0,1,rfl,rfl,rfl,rfl,rfl,⟨li 1,1,1,rfl,rfl,rfl,rfl,rfl,⟨li 8,2,1,rfl,rfl,rfl,rfl,rfl,⟨li 0,3,1,rfl,rfl,rfl,rfl,rfl,(by exact zLh.refl _)⟩⟩⟩⟩)<|zPt (N:=2) (pl:=[(0,4),(4,4)]) (zs:=[.int .i64 0,.int .i64 0,.int .i64 0,.int .i64 0,.int .i64 0,.int .i64 0,.int .i64 0,.int .i64 0]) (zc:=[.lit (.int .i64 0),.lit (.int .i64 0),.lit (.int .i64 0),.lit (.int .i64 0),.lit (.int .i64 0),.lit (.int .i64 0),.lit (.int .i64 0),.lit (.int .i64 0)]) (rows:=List.map zAV [(⟨0,0,8,2⟩:zAf),(⟨1,1,8,0⟩:zAf)]) zUN Try.underlying24 rfl rfl rfl (by kernel_rfl) rfl (⟨zBC.refl _,⟨zBC.refl _,⟨zBC.refl _,⟨zBC.refl _,⟨zBC.refl _,⟨zBC.refl _,⟨zBC.refl _,⟨zBC.refl _,trivial⟩⟩⟩⟩⟩⟩⟩⟩) ⟨(AV.agg (zAV (⟨0,0,8,2⟩:zAf))),0,4,rfl,rfl,rfl,rfl,rfl,⟨(AV.agg (zAV (⟨1,1,8,0⟩:zAf))),4,4,rfl,rfl,rfl,rfl,rfl,(by exact zLh.refl _)⟩⟩ rfl rfl rfl<|zQ h fun x1 w1 h=>zAJ (zFP (j:=0) (ds:=[11]) (rows':=List.map cI [0,1]) rfl (zAb (fun _=>rfl)) ⟨rfl,trivial⟩) ?_
 refine zQ h fun x2 w2 h=>zAJ (zFP (j:=1) (ds:=[14]) (rows':=List.map zAV [(⟨0,0,8,2⟩:zAf),(⟨1,1,8,0⟩:zAf)]) rfl (zAb (fun _=>rfl)) ⟨rfl,trivial⟩)<|zQ h fun x3 w3 h=>zb Try.func9 rfl (by kernel_rfl) (.fn 9) rfl rfl (zKW w3) rfl<|zA (zB rfl)<|zA (zU rfl rfl) ?_
 refine zA (zU (la:=[(AV.agg (zF x3.1)),li x3.2]) rfl rfl)<|zX (a:=(AV.ptr 2 0)) (H':=[.dead,.dead,.box 29 (zF ⟨[],0,0,[],[]⟩)]) zv3<|za (H':=[.dead,.dead,.box 29 (zF x3.1)]) (zT (k:=2) (o:=0) (cs:=(zF ⟨[],0,0,[],[]⟩)) (la:=(zF x3.1)) Try.sizeOf29 rfl rfl rfl rfl)<|zA (zD (av:=(li x3.2)) rfl)<|zG<|zI ?_
 refine zI<|zC<|zA (zB rfl)<|zA (z7 rfl rfl)<|zA (zB rfl)<|zZ rfl rfl (fun c1=>zv.step (zM Try.underlying29 rfl rfl Try.sizeOf26 rfl)) ?_
 refine zZ (g:=20) (s := !decide (x3.2=0)) rfl rfl (fun c2=>zv.step (zN (k:=2) (o:=3) (a:=(ls zO x3.1.zones)) Try.isAgg26 (zAQ rfl c2) rfl rfl rfl))<|zZ (g:=20) (s := !decide (x3.2=0)) rfl rfl (fun c3=>zv.step (ze (f:=zO) (l:=x3.1.zones) Try.underlying26 (zAQ rfl c3)))<|zZ (g:=20) (s := !decide (x3.2=0)) rfl rfl (fun c4=>zv.step (z7 (a:=(x3.1.zones.length:Int)) (b:=2) (zAQ rfl c4) rfl))<|zA (zh (s := !decide (x3.2=0)) (q := !decide ((x3.1.zones.length:Int)=2)) (j := .lit undef) rfl rfl)<|zA (zB (av:=(AV.lit (.bool ((!decide (x3.2=0))||(!decide ((x3.1.zones.length:Int)=2)))))) rfl)<|zZ (g:=26) (s:=(!decide (x3.2=0))||(!decide ((x3.1.zones.length:Int)=2))) rfl rfl (fun c5=>zv.step (zM (k:=2) (o:=0) (off:=4) Try.underlying29 rfl rfl Try.sizeOf27 rfl)) ?_
 refine zZ rfl rfl (fun c6=>zv.step (zN Try.isAgg27 (zAQ rfl c6) rfl rfl rfl))<|zZ rfl rfl (fun c7=>zv.step (ze Try.underlying27 (zAQ rfl c7)))<|zZ rfl rfl (fun c8=>zv.step (z7 (zAQ rfl c8) rfl))<|zA (zh rfl rfl)<|zA (zB rfl)<|zZ rfl rfl (fun c9=>zv.step (zR (k:=2) (o:=0) (m:=5) Try.isAgg29 Try.sizeOf29 rfl rfl rfl rfl rfl)) ?_
 refine zQ h fun x4 w4 h=>zDa (g:=32) (s:=((!decide (x3.2=0))||(!decide ((x3.1.zones.length:Int)=2)))||(!decide ((x3.1.caches.length:Int)=2))) (r':=(li x4)) rfl rfl (fun c10=>⟨15,_,_,[],[(AV.agg (zF x3.1))],[(AV.agg (zF x3.1))],li x4,[],Try.func15,rfl,by kernel_rfl,.fn 15,(zAe (zAQ rfl c10) rfl),⟨zBI.nr rfl,trivial⟩,zA2 (zIL c10 w4),.inl rfl,rfl⟩)<|zZ (g:=32) (s:=((!decide (x3.2=0))||(!decide ((x3.1.zones.length:Int)=2)))||(!decide ((x3.1.caches.length:Int)=2))) rfl rfl (fun c11=>zv.step (z7 (a:=x4) (b:=0) (zAQ rfl c11) rfl))<|zA (zh (s:=((!decide (x3.2=0))||(!decide ((x3.1.zones.length:Int)=2)))||(!decide ((x3.1.caches.length:Int)=2))) (q := !decide (x4=0)) (j := .lit undef) rfl rfl)<|zA (zB (av:=(AV.lit (.bool ((((!decide (x3.2=0))||(!decide ((x3.1.zones.length:Int)=2)))||(!decide ((x3.1.caches.length:Int)=2)))||(!decide (x4=0)))))) rfl)<|zZ (g:=37) (s:=(((!decide (x3.2=0))||(!decide ((x3.1.zones.length:Int)=2)))||(!decide ((x3.1.caches.length:Int)=2)))||(!decide (x4=0))) rfl rfl (fun c12=>zv.step (zR (k:=2) (o:=0) (m:=5) (la:=(zF x3.1)) Try.isAgg29 Try.sizeOf29 rfl rfl rfl rfl rfl)) ?_
 refine zQ h fun x5 w5 h=>zDa (g:=37) (s:=(((!decide (x3.2=0))||(!decide ((x3.1.zones.length:Int)=2)))||(!decide ((x3.1.caches.length:Int)=2)))||(!decide (x4=0))) (r':=(li x5)) rfl rfl (fun c13=>⟨13,_,_,[],[(AV.agg (zF x3.1))],[(AV.agg (zF x3.1))],li x5,[],Try.func13,rfl,by kernel_rfl,.fn 13,(zAe (zAQ rfl c13) rfl),⟨zBI.nr rfl,trivial⟩,zIt (zIL c13 w5),.inl rfl,rfl⟩)<|zZ rfl rfl (fun c14=>zv.step (z7 (zAQ rfl c14) rfl))<|zA (zh rfl rfl)<|zG ?_
 refine zY h rfl (fun b1 h => ?_) (fun b1 h => ?_)
 ·refine zI<|zC<|zA (zD (av:=(AV.lit (.bool false))) rfl)<|zG<|zd ?_
  cases h
  exact zy (zAl rfl rfl)
 refine zS<|zI<|zC<|zA (zR (k:=2) (o:=0) (m:=5) (la:=(zF x3.1)) Try.isAgg29 Try.sizeOf29 rfl rfl rfl rfl rfl)<|zQ h fun x6 w6 h=>zb (r:=(AV.tup [li x6.1,li x6.2])) (la:=[(AV.agg (zF x3.1))]) Try.func16 rfl (by kernel_rfl) (.fn 16) rfl rfl (zKq w6) rfl ?_
 refine zA (zB rfl)<|zA (zU rfl rfl)<|zA (zU rfl rfl)<|zA (zD rfl)<|zA (zD rfl)<|zG ?_
 refine zI<|zC<|zA (zR (k:=2) (o:=0) (m:=5) (la:=(zF x3.1)) Try.isAgg29 Try.sizeOf29 rfl rfl rfl rfl rfl)<|zQ h fun x7 w7 h=>zb (r:=(AV.tup [(AV.agg (zF x7.1)),li x7.2.1,li x7.2.2])) (la:=[(AV.agg (zF x3.1)),li 0,(AV.lit (.bool true)),(AV.lit (.bool false))]) Try.func17 rfl (by kernel_rfl) (.fn 17) rfl rfl (zI0 w7) rfl<|zA (zB (av:=(AV.tup [(AV.agg (zF x7.1)),li x7.2.1,li x7.2.2])) rfl) ?_
 refine zA (zU rfl rfl)<|zA (zU rfl rfl)<|zA (zU rfl rfl)<|zX (H':=[.dead,.dead,.box 29 (zF x3.1),.box 29 (zF ⟨[],0,0,[],[]⟩)]) zv3<|za (H':=[.dead,.dead,.box 29 (zF x3.1),.box 29 (zF x7.1)]) (zT (k:=3) (o:=0) (cs:=(zF ⟨[],0,0,[],[]⟩)) (la:=(zF x7.1)) Try.sizeOf29 rfl rfl rfl rfl)<|zA (zD rfl) ?_
 refine zA (zD (av:=(li x7.2.2)) rfl)<|zG<|zI<|zI<|zC<|zA (zB (av:=(li x6.1)) rfl) ?_
 refine zA (z7 rfl rfl)<|zA (zB rfl)<|zZ rfl rfl (fun c15=>zv.step (zB rfl))<|zZ rfl rfl (fun c16=>zv.step (z7 (zAQ rfl c16) rfl))<|zA (zh rfl rfl)<|zA (zB rfl) ?_
 refine zZ (g:=59) (s:=(!decide (x6.1=6))||(!decide (x6.2=14))) rfl rfl (fun c17=>zv.step (zB (av:=(li x7.2.2)) rfl))<|zZ (g:=59) (s:=(!decide (x6.1=6))||(!decide (x6.2=14))) rfl rfl (fun c18=>zv.step (z7 (a:=x7.2.2) (b:=0) (zAQ rfl c18) rfl))<|zA (zh (s:=(!decide (x6.1=6))||(!decide (x6.2=14))) (q := !decide (x7.2.2=0)) (j := .lit undef) rfl rfl)<|zA (zB (av:=(AV.lit (.bool (((!decide (x6.1=6))||(!decide (x6.2=14)))||(!decide (x7.2.2=0)))))) rfl)<|zZ (g:=63) (s:=((!decide (x6.1=6))||(!decide (x6.2=14)))||(!decide (x7.2.2=0))) rfl rfl (fun c19=>zv.step (zB (av:=(li x7.2.1)) rfl))<|zZ (g:=63) (s:=((!decide (x6.1=6))||(!decide (x6.2=14)))||(!decide (x7.2.2=0))) rfl rfl (fun c20=>zv.step (z7 (a:=x7.2.1) (b:=0) (zAQ rfl c20) rfl)) ?_
 refine zA (zh rfl rfl)<|zA (zB rfl)<|zZ rfl rfl (fun c21=>zv.step (zR (k:=3) (o:=0) (m:=5) Try.isAgg29 Try.sizeOf29 rfl rfl rfl rfl rfl))<|zQ h fun x8 w8 h=>zDa (g:=67) (s:=(((!decide (x6.1=6))||(!decide (x6.2=14)))||(!decide (x7.2.2=0)))||(!decide (x7.2.1=0))) (r':=(AV.lit (.bool x8))) rfl rfl (fun c22=>⟨14,_,_,[],[(AV.agg (zF x7.1)),li 0],[(AV.agg (zF x7.1)),li 0],(AV.lit (.bool x8)),[],Try.func14,rfl,by kernel_rfl,.fn 14,(zAe (zAQ rfl c22) (zAe rfl rfl)),⟨zBI.nr rfl,zBI.nr rfl,trivial⟩,zGa (zIL c22 w8),.inl rfl,rfl⟩)<|zA (zh rfl rfl) ?_
 refine zA (zB (av:=(AV.lit (.bool (((((!decide (x6.1=6))||(!decide (x6.2=14)))||(!decide (x7.2.2=0)))||(!decide (x7.2.1=0)))||x8)))) rfl)<|zZ (g:=71) (s:=((((!decide (x6.1=6))||(!decide (x6.2=14)))||(!decide (x7.2.2=0)))||(!decide (x7.2.1=0)))||x8) rfl rfl (fun c23=>zv.step (zR (k:=3) (o:=0) (m:=5) (la:=(zF x7.1)) Try.isAgg29 Try.sizeOf29 rfl rfl rfl rfl rfl))<|zQ h fun x9 w9 h=>zDa (g:=71) (s:=((((!decide (x6.1=6))||(!decide (x6.2=14)))||(!decide (x7.2.2=0)))||(!decide (x7.2.1=0)))||x8) (r':=(AV.lit (.bool x9))) rfl rfl (fun c24=>⟨14,_,_,[],[(AV.agg (zF x7.1)),li 1],[(AV.agg (zF x7.1)),li 1],(AV.lit (.bool x9)),[],Try.func14,rfl,by kernel_rfl,.fn 14,(zAe (zAQ rfl c24) (zAe rfl rfl)),⟨zBI.nr rfl,zBI.nr rfl,trivial⟩,zGa (zIL c24 w9),.inl rfl,rfl⟩)<|zZ (g:=71) (s:=((((!decide (x6.1=6))||(!decide (x6.2=14)))||(!decide (x7.2.2=0)))||(!decide (x7.2.1=0)))||x8) rfl rfl (fun c25=>zv.step (zBf (t:=x9) (zAQ rfl c25)))<|zA (zh (s:=((((!decide (x6.1=6))||(!decide (x6.2=14)))||(!decide (x7.2.2=0)))||(!decide (x7.2.1=0)))||x8) (q := !x9) (j := .lit undef) rfl rfl) ?_
 refine zA (zB rfl)<|zZ rfl rfl (fun c26=>zv.step (zR (k:=3) (o:=0) (m:=5) Try.isAgg29 Try.sizeOf29 rfl rfl rfl rfl rfl))<|zQ h fun x10 w10 h=>zDa (g:=76) (s:=(((((!decide (x6.1=6))||(!decide (x6.2=14)))||(!decide (x7.2.2=0)))||(!decide (x7.2.1=0)))||x8)||(!x9)) (r':=(li x10)) rfl rfl (fun c27=>⟨18,_,_,[],[(AV.agg (zF x7.1)),li 0],[(AV.agg (zF x7.1)),li 0],li x10,[],Try.func18,rfl,by kernel_rfl,.fn 18,(zAe (zAQ rfl c27) (zAe rfl rfl)),⟨zBI.nr rfl,zBI.nr rfl,trivial⟩,zMP (zIL c27 w10),.inl rfl,rfl⟩)<|zZ rfl rfl (fun c28=>zv.step (z7 (zAQ rfl c28) rfl))<|zA (zh rfl rfl) ?_
 refine zA (zB (av:=(AV.lit (.bool (((((((!decide (x6.1=6))||(!decide (x6.2=14)))||(!decide (x7.2.2=0)))||(!decide (x7.2.1=0)))||x8)||(!x9))||(!decide (x10=7)))))) rfl)<|zZ (g:=81) (s:=((((((!decide (x6.1=6))||(!decide (x6.2=14)))||(!decide (x7.2.2=0)))||(!decide (x7.2.1=0)))||x8)||(!x9))||(!decide (x10=7))) rfl rfl (fun c29=>zv.step (zR (k:=3) (o:=0) (m:=5) (la:=(zF x7.1)) Try.isAgg29 Try.sizeOf29 rfl rfl rfl rfl rfl))<|zQ h fun x11 w11 h=>zDa (g:=81) (s:=((((((!decide (x6.1=6))||(!decide (x6.2=14)))||(!decide (x7.2.2=0)))||(!decide (x7.2.1=0)))||x8)||(!x9))||(!decide (x10=7))) (r':=(li x11)) rfl rfl (fun c30=>⟨19,_,_,[],[(AV.agg (zF x7.1)),li 8],[(AV.agg (zF x7.1)),li 8],li x11,[],Try.func19,rfl,by kernel_rfl,.fn 19,(zAe (zAQ rfl c30) (zAe rfl rfl)),⟨zBI.nr rfl,zBI.nr rfl,trivial⟩,zMz (zIL c30 w11),.inl rfl,rfl⟩)<|zZ (g:=81) (s:=((((((!decide (x6.1=6))||(!decide (x6.2=14)))||(!decide (x7.2.2=0)))||(!decide (x7.2.1=0)))||x8)||(!x9))||(!decide (x10=7))) rfl rfl (fun c31=>zv.step (z7 (a:=x11) (b:=1) (zAQ rfl c31) rfl))<|zA (zh (s:=((((((!decide (x6.1=6))||(!decide (x6.2=14)))||(!decide (x7.2.2=0)))||(!decide (x7.2.1=0)))||x8)||(!x9))||(!decide (x10=7))) (q := !decide (x11=1)) (j := .lit undef) rfl rfl) ?_
 refine zG ?_
 refine zY h rfl (fun b2 h => ?_) (fun b2 h => ?_)
 ·refine zI<|zC<|zA (zD rfl)<|zG<|zd ?_
  cases h
  exact zy (zAl (r1:=(AV.lit (.bool false))) rfl rfl)
 refine zS<|zI<|zC<|zA (zR (k:=3) (o:=0) (m:=5) Try.isAgg29 Try.sizeOf29 rfl rfl rfl rfl rfl)<|zQ h fun x12 w12 h=>zb Try.func20 rfl (by kernel_rfl) (.fn 20) rfl rfl (zHW w12) rfl ?_
 refine zA (zB (av:=(AV.tup [(AV.agg (zF x12.1)),li x12.2])) rfl)<|zA (zU (la:=[(AV.agg (zF x12.1)),li x12.2]) rfl rfl)<|zA (zU (la:=[(AV.agg (zF x12.1)),li x12.2]) rfl rfl)<|zX (a:=(AV.ptr 4 0)) (H':=[.dead,.dead,.box 29 (zF x3.1),.box 29 (zF x7.1),.box 29 (zF ⟨[],0,0,[],[]⟩)]) zv3<|za (H':=[.dead,.dead,.box 29 (zF x3.1),.box 29 (zF x7.1),.box 29 (zF x12.1)]) (zT (k:=4) (o:=0) (cs:=(zF ⟨[],0,0,[],[]⟩)) (la:=(zF x12.1)) Try.sizeOf29 rfl rfl rfl rfl)<|zA (zD (av:=(li x12.2)) rfl) ?_
 refine zG<|zI<|zI<|zC<|zA (zB rfl)<|zA (z7 rfl rfl) ?_
 refine zG ?_
 refine zY h rfl (fun b3 h => ?_) (fun b3 h => ?_)
 ·refine zI<|zC<|zA (zD (av:=(AV.lit (.bool false))) rfl)<|zG<|zd ?_
  cases h
  exact zy (zAl rfl rfl)
 refine zS<|zI<|zC<|zA (zR (k:=2) (o:=0) (m:=5) (la:=(zF x3.1)) Try.isAgg29 Try.sizeOf29 rfl rfl rfl rfl rfl)<|zQ h fun x13 w13 h=>zb (r:=(AV.tup [(AV.agg (zF x13.1)),li x13.2.1,li x13.2.2])) (la:=[(AV.agg (zF x3.1)),li 1,li 3]) Try.func23 rfl (by kernel_rfl) (.fn 23) rfl rfl (zJ5 w13) rfl ?_
 refine zA (zB rfl)<|zA (zU rfl rfl)<|zA (zU rfl rfl)<|zA (zU rfl rfl)<|zX (H':=[.dead,.dead,.box 29 (zF x3.1),.box 29 (zF x7.1),.box 29 (zF x12.1),.box 29 (zF ⟨[],0,0,[],[]⟩)]) zv3<|za (H':=[.dead,.dead,.box 29 (zF x3.1),.box 29 (zF x7.1),.box 29 (zF x12.1),.box 29 (zF x13.1)]) (zT (k:=5) (o:=0) (cs:=(zF ⟨[],0,0,[],[]⟩)) (la:=(zF x13.1)) Try.sizeOf29 rfl rfl rfl rfl) ?_
 refine zA (zD (av:=(li x13.2.1)) rfl)<|zA (zD (av:=(li x13.2.2)) rfl)<|zG<|zI<|zQ h fun x14 w14 h=>zQ h fun x15 w15 h => ?_
 refine zBr (n:=111) (m:=0) [.head 0 0,.head 0 0,.head 0 0,.head 0 0,.head 0 0,.head 0 0,.head 0 0,.head 0 0,.head 0 0,.head 0 0,.head 0 0,.head 0 0,.head 0 0] [] [li x13.2.2,(AV.lit (.bool (decide (x13.2.2=0)))),(AV.lit (.bool (decide (x13.2.2=0)))),(bif decide (x13.2.2=0) then (li x13.2.1) else .lit undef),(bif decide (x13.2.2=0) then (AV.lit (.bool (decide (x13.2.1=8)))) else .lit undef),(AV.lit (.bool ((decide (x13.2.2=0))&&(decide (x13.2.1=8))))),(AV.lit (.bool ((decide (x13.2.2=0))&&(decide (x13.2.1=8))))),(bif (decide (x13.2.2=0))&&(decide (x13.2.1=8)) then (AV.agg (zF x12.1)) else .lit undef),(bif (decide (x13.2.2=0))&&(decide (x13.2.1=8)) then (AV.agg (zF x14)) else .lit undef),(bif (decide (x13.2.2=0))&&(decide (x13.2.1=8)) then (AV.agg (zF x3.1)) else .lit undef),(bif (decide (x13.2.2=0))&&(decide (x13.2.1=8)) then (AV.lit (.bool x15)) else .lit undef),(AV.lit (.bool (((decide (x13.2.2=0))&&(decide (x13.2.1=8)))&&x15))),(AV.lit (.bool (((decide (x13.2.2=0))&&(decide (x13.2.1=8)))&&x15)))] [[.dead,.dead,.box 29 (zF x3.1),.box 29 (zF x7.1),.box 29 (zF x12.1),.box 29 (zF x13.1)]] (by kernel_rfl) (by kernel_rfl) ⟨D1 fun e s p=>zB (s 2 rfl),D1 fun e s p=>zBe (a:=x13.2.2) (b:=0) p.1 rfl,D1 fun e s p=>zB (av:=(AV.lit (.bool (decide (x13.2.2=0))))) p.1,?_,?_,D1 fun e s p=>zAL (s:=decide (x13.2.2=0)) (q:=decide (x13.2.1=8)) (j := .lit undef) p.1 p.2.1,D1 fun e s p=>zB p.1,?_,?_,?_,?_,D1 fun e s p=>zAL (s:=(decide (x13.2.2=0))&&(decide (x13.2.1=8))) (q:=x15) (j := .lit undef) p.1 p.2.1,D1 fun e s p=>zD (av:=(AV.lit (.bool (((decide (x13.2.2=0))&&(decide (x13.2.1=8)))&&x15)))) p.2.2.2.2.2.2.2.2.2.2.2.2.2.1,trivial⟩ ?_
 ·
  intro e4 s4 p4
  refine z9 (g:=101) (s:=decide (x13.2.2=0)) rfl p4.1 (fun c38=>zv.step (zB (av:=(li x13.2.1)) (s4 9 rfl))) ?_
  exact zG ⟨fun _=>rfl,rfl⟩
 ·
  intro e5 s5 p5
  refine z9 (g:=101) (s:=decide (x13.2.2=0)) rfl p5.2.1 (fun c39=>zv.step (zBe (a:=x13.2.1) (b:=8) (zAQ p5.1 c39) rfl)) ?_
  exact zG ⟨fun _=>rfl,rfl⟩
 ·
  intro e8 s8 p8
  refine z9 (g:=105) (s:=(decide (x13.2.2=0))&&(decide (x13.2.1=8))) rfl p8.1 (fun c40=>zv.step (zR (k:=4) (o:=0) (m:=5) (la:=(zF x12.1)) Try.isAgg29 Try.sizeOf29 (s8 7 rfl) rfl rfl rfl rfl)) ?_
  exact zG ⟨fun _=>rfl,rfl⟩
 ·
  intro e9 s9 p9
  refine zGc (g:=105) (s:=(decide (x13.2.2=0))&&(decide (x13.2.1=8))) (r':=(AV.agg (zF x14))) rfl p9.2.2.1 (fun c41=>⟨22,_,_,[],[(AV.agg (zF x12.1))],[(AV.agg (zF x12.1))],(AV.agg (zF x14)),[],Try.func22,rfl,by kernel_rfl,.fn 22,(zAe (zAQ p9.1 c41) rfl),⟨zBI.nr rfl,trivial⟩,zJC (zIL c41 w14),.inl rfl,rfl⟩) ?_
  exact zG ⟨fun _=>rfl,rfl⟩
 ·
  intro e10 s10 p10
  refine z9 (g:=105) (s:=(decide (x13.2.2=0))&&(decide (x13.2.1=8))) rfl p10.1 (fun c42=>zv.step (zR (k:=2) (o:=0) (m:=5) (la:=(zF x3.1)) Try.isAgg29 Try.sizeOf29 (s10 1 rfl) rfl rfl rfl rfl)) ?_
  exact zG ⟨fun _=>rfl,rfl⟩
 ·
  intro e11 s11 p11
  refine zGc (g:=105) (s:=(decide (x13.2.2=0))&&(decide (x13.2.1=8))) (r':=(AV.lit (.bool x15))) rfl p11.2.2.2.1 (fun c43=>⟨11,_,_,[],[(AV.agg (zF x14)),(AV.agg (zF x3.1))],[(AV.agg (zF x14)),(AV.agg (zF x3.1))],(AV.lit (.bool x15)),[],Try.func11,rfl,by kernel_rfl,.fn 11,(zAe (zAQ p11.2.2.1 c43) (zAe (zAQ p11.2.1 c43) rfl)),⟨zBI.nr rfl,zBI.nr rfl,trivial⟩,zPh (zIL c43 w15),.inl rfl,rfl⟩) ?_
  exact zG ⟨fun _=>rfl,rfl⟩
 intro e14 s14 hq1
 refine zA5 (zCy (l:=[(0,(AV.lit (.bool (((decide (x13.2.2=0))&&(decide (x13.2.1=8)))&&x15))))]) ⟨(hq1 12 (by decide) (by decide)),trivial⟩)<|zd ?_
 cases h
 exact zy (zAl rfl rfl)
theorem zQl {W:zAF} {r:zH×Int} (h:zJp W=some r):PFn Try.prog 21 [(AV.agg (zt W))] (AV.tup [(AV.agg (zF r.1)),li r.2]):=by
 refine zq Try.func21 rfl Try.ntmps21 Try.results21 rfl ?_
 unfold zJp at h
 refine zI<|zC<|zX (H':=[.box 37 (zt W)]) (z8 (t:=37) rfl)<|zX (H':=[.box 37 (zt W),.box 29 ([(ls cI ([]:List Int))]++([li 0]++([li 0]++([(ls zO ([]:List zW))]++([(ls zJ ([]:List zK))]++[])))))]) zv3<|zA (zD rfl)<|zG ?_
 refine zI<|zC<|zA (zD rfl)<|zG ?_
 refine zAA (r:=r) (fun (i1:Int)=>mkE [(1,(AV.ptr 0 0)),(2,(AV.ptr 1 0)),(4,(li i1))]) (fun i1=>[.box 37 (zt W),.box 29 ([(ls cI ([]:List Int))]++([li 0]++([li 0]++([(ls zO ([]:List zW))]++([(ls zJ ([]:List zK))]++[])))))]) (fun i1=>zH1 W i1) ?_ ?_
 ·
  refine zI<|zC<|zA (zM Try.underlying37 rfl rfl Try.sizeOf4 rfl)<|zA (zN Try.isAgg4 rfl rfl rfl rfl)<|zG ?_
  refine zY h rfl (fun b16 h => ?_) (fun b16 h => ?_)
  ·refine zC<|zA (zD rfl)<|zG ?_
   exact ⟨3,zAZ [0,1] rfl rfl (by kernel_rfl),h⟩
  refine zS ?_
  exact ⟨2,zAZ [0,1] rfl rfl (by kernel_rfl),h⟩
 clear h
 intro i1 h
 unfold zH1 at h
 refine zI<|zC<|zA (zD rfl)<|zG ?_
 refine zAA (r:=r) (fun (l1:List zAf)=>mkE [(1,(AV.ptr 0 0)),(2,(AV.ptr 1 0)),(5,(AV.hd 2))]) (fun l1=>[.box 37 (zt W),.box 29 ([(ls cI ([]:List Int))]++([li 0]++([li 0]++([(ls zO ([]:List zW))]++([(ls zJ ([]:List zK))]++[]))))),.vec 65 4 (List.map zAV l1)]) (fun l1=>zGf W l1) ?_ ?_
 ·
  refine zI<|zC<|zA (zB rfl)<|zA (zB rfl)<|zG<|zV ?_
  refine z6 (σ:=Int×(List zAf)) (fun (i2,l2)=>mkE [(1,(AV.ptr 0 0)),(2,(AV.ptr 1 0)),(5,(AV.hd 2)),(12,(li i1)),(13,(li i2))]) (fun (i2,l2)=>[.box 37 (zt W),.box 29 ([(ls cI ([]:List Int))]++([li 0]++([li 0]++([(ls zO ([]:List zW))]++([(ls zJ ([]:List zK))]++[]))))),.vec 65 4 (List.map zAV l2)]) (fun n0 (i2,l2)=>zEp W i1 n0 i2 l2) (0,[]) h (fun _=>rfl) (Rep.trans (zPo (d:=5) (el:=65) (sz:=4) rfl) (zAZ [0,1,2] (l:=[(1,(AV.ptr 0 0)),(2,(AV.ptr 1 0)),(5,(AV.hd 2)),(12,(li i1)),(13,(li 0))]) rfl rfl (by kernel_rfl))) ?_
  clear h
  rintro n0 ⟨i2,l2⟩ h
  replace h:zFq W i1 (zEp W i1 n0) i2 l2=some r:=h
  unfold zFq at h
  refine zI<|zC<|zA (zi rfl rfl)<|zG<|zI ?_
  refine zY h rfl (fun b5 h => ?_) (fun b5 h => ?_)
  ·refine zS<|zI<|zV<|zI<|zC<|zA (zB rfl) ?_
   refine zA (zD rfl)<|zG<|zI<|zC<|zA (zB rfl)<|zA (zM Try.underlying37 rfl rfl Try.sizeOf34 rfl) ?_
   refine zL h fun b6 h=>zA (zAP (m:=3) (s:=1) (i:=i2) (k:=0) (o:=0) Try.underlying34 Try.sizeOf5 rfl rfl b6)<|zA (zCx (k:=0) (o:=(0+i2.toNat*1)) (cs:=(zt W)) (hd:=([])) (tl:=([]++(cA 3 (eK .u8) 0 W.mins)++(cA 3 eB false W.kinds)++[(AV.lit (.int .u8 W.batch))]++[(AV.lit (.bool W.three))])) (g:=(eK .u8)) (d0:=0) (l:=W.counts) (N:=3) (i:=i2.toNat) (a:=(AV.lit (.int .u8 (W.counts.getD i2.toNat 0)))) Try.isAgg5 rfl rfl rfl (congrArg (fun q=>0+q) (Nat.mul_one _)) (zBt b6).2 rfl rfl)<|zA (zGq (k := .u8) (a:=W.counts.getD i2.toNat 0) (b:=20) rfl rfl (by decide))<|zL h fun b7 h=>zA (zFr (k' := .i64) (a:=(W.counts.getD i2.toNat 0).tmod 20) Try.underlying5 Try.underlying3 rfl b7) ?_
   refine zL h fun b8 h=>zA (zg rfl rfl b8)<|zA (zD rfl)<|zG<|zI<|zC ?_
   refine zA (zD rfl)<|zG ?_
   refine zAA (r:=r) (fun (i3:Int)=>mkE [(1,(AV.ptr 0 0)),(2,(AV.ptr 1 0)),(5,(AV.hd 2)),(6,(li i2)),(7,(li (1+((W.counts.getD i2.toNat 0).tmod 20)))),(8,(li i3)),(12,(li i1)),(13,(li i2))]) (fun i3=>[.box 37 (zt W),.box 29 ([(ls cI ([]:List Int))]++([li 0]++([li 0]++([(ls zO ([]:List zW))]++([(ls zJ ([]:List zK))]++[]))))),.vec 65 4 (List.map zAV l2)]) (fun i3=>zGk (zEp W i1 n0) W i2 l2 i3) ?_ ?_
   ·
    refine zI<|zC<|zA (zB rfl)<|zA (zM Try.underlying37 rfl rfl Try.sizeOf35 rfl)<|zA (zAP (m:=3) (s:=1) (i:=i2) (k:=0) (o:=6) Try.underlying35 Try.sizeOf4 rfl rfl b6)<|zA (zCx (k:=0) (o:=(6+i2.toNat*1)) (cs:=(zt W)) (hd:=((cA 3 (eK .u8) 0 W.counts)++(cA 3 (eK .u8) 0 W.mins)++[])) (tl:=([]++[(AV.lit (.int .u8 W.batch))]++[(AV.lit (.bool W.three))])) (g:=eB) (d0:=false) (l:=W.kinds) (N:=3) (i:=i2.toNat) (a:=(AV.lit (.bool (W.kinds.getD i2.toNat false)))) Try.isAgg4 rfl rfl rfl (congrArg (fun q=>6+q) (Nat.mul_one _)) (zBt b6).2 rfl rfl) ?_
    refine zG ?_
    refine zY h rfl (fun b15 h => ?_) (fun b15 h => ?_)
    ·refine zC<|zA (zD rfl)<|zG ?_
     exact ⟨1,zAZ [0,1,2] rfl rfl (by kernel_rfl),h⟩
    refine zS ?_
    exact ⟨0,zAZ [0,1,2] rfl rfl (by kernel_rfl),h⟩
   clear h
   intro i3 h
   unfold zGk at h
   refine zC<|zA (zB rfl)<|zA (zB rfl)<|zA (zGq (k := .i64) (a:=i2) (b:=2) rfl rfl (by decide))<|zA (zB rfl)<|zA (zB rfl) ?_
   refine zA (zB rfl)<|zA (zM Try.underlying37 rfl rfl Try.sizeOf34 rfl)<|zL h fun b9 h=>zA (zAP (m:=3) (s:=1) (i:=i2) (k:=0) (o:=3) Try.underlying34 Try.sizeOf5 rfl rfl b9)<|zA (zCx (k:=0) (o:=(3+i2.toNat*1)) (cs:=(zt W)) (hd:=((cA 3 (eK .u8) 0 W.counts)++[])) (tl:=([]++(cA 3 eB false W.kinds)++[(AV.lit (.int .u8 W.batch))]++[(AV.lit (.bool W.three))])) (g:=(eK .u8)) (d0:=0) (l:=W.mins) (N:=3) (i:=i2.toNat) (a:=(AV.lit (.int .u8 (W.mins.getD i2.toNat 0)))) Try.isAgg5 rfl rfl rfl (congrArg (fun q=>3+q) (Nat.mul_one _)) (zBt b9).2 rfl rfl)<|zL h fun b10 h => ?_
   refine zA (zFr (k' := .i64) (a:=W.mins.getD i2.toNat 0) Try.underlying5 Try.underlying3 rfl b10)<|zA (zB rfl)<|zL h fun b11 h=>zA (zg rfl rfl b11)<|zL h fun b12 h=>zA (zGq (k := .i64) (a:=W.mins.getD i2.toNat 0) (b:=(1+((W.counts.getD i2.toNat 0).tmod 20))+1) rfl rfl b12) ?_
   refine zA (zCm (pl:=[(0,1),(1,1),(2,1),(3,1)]) (zs:=[.int .i64 0,.int .i64 0,.int .i64 0,.int .i64 0]) (zc:=[.lit (.int .i64 0),.lit (.int .i64 0),.lit (.int .i64 0),.lit (.int .i64 0)]) (res:=(zAV (⟨i2.tmod 2,i3,1+((W.counts.getD i2.toNat 0).tmod 20),(W.mins.getD i2.toNat 0).tmod ((1+((W.counts.getD i2.toNat 0).tmod 20))+1)⟩:zAf))) (fun _=>by kernel_rfl) rfl (⟨zBC.refl _,⟨zBC.refl _,⟨zBC.refl _,⟨zBC.refl _,trivial⟩⟩⟩⟩) ⟨(li (i2.tmod 2)),0,1,rfl,rfl,rfl,rfl,rfl,⟨li i3,1,1,rfl,rfl,rfl,rfl,rfl,⟨(li (1+((W.counts.getD i2.toNat 0).tmod 20))),2,1,rfl,rfl,rfl,rfl,rfl,⟨(li ((W.mins.getD i2.toNat 0).tmod ((1+((W.counts.getD i2.toNat 0).tmod 20))+1))),3,1,rfl,rfl,rfl,rfl,rfl,(by exact zLh.refl _)⟩⟩⟩⟩)<|zHF (a:=(AV.agg (zAV (⟨i2.tmod 2,i3,1+((W.counts.getD i2.toNat 0).tmod 20),(W.mins.getD i2.toNat 0).tmod ((1+((W.counts.getD i2.toNat 0).tmod 20))+1)⟩:zAf)))) zUN Try.underlying24 rfl rfl rfl rfl<|zL h fun b13 h=>zEq (f:=zAV) (k:=2) (j:=3) (l:=l2) (l':=[(⟨i2.tmod 2,i3,1+((W.counts.getD i2.toNat 0).tmod 20),(W.mins.getD i2.toNat 0).tmod ((1+((W.counts.getD i2.toNat 0).tmod 20))+1)⟩:zAf)]) zUN (fun _=>rfl) Try.underlying24 rfl rfl rfl rfl b13<|zA (zD rfl)<|zG ?_
   refine zC<|zL h fun b14 h=>zA (zg rfl rfl b14)<|zA (zB rfl)<|zG ?_
   exact ⟨((i2+1),(l2++[(⟨i2.tmod 2,i3,1+((W.counts.getD i2.toNat 0).tmod 20),(W.mins.getD i2.toNat 0).tmod ((1+((W.counts.getD i2.toNat 0).tmod 20))+1)⟩:zAf)])),zAZ [0,1,4] rfl rfl (by kernel_rfl),h⟩
  refine zAC ?_
  exact ⟨l2,zAZ [0,1,2] rfl rfl (by kernel_rfl),h⟩
 clear h
 intro l1 h
 unfold zGf at h
 refine zI<|zC<|zA (zM Try.underlying37 rfl rfl Try.sizeOf5 rfl)<|zA (zN Try.isAgg5 rfl rfl rfl rfl)<|zA (zGq (k := .u8) (a:=W.batch) (b:=4) rfl rfl (by decide))<|zL h fun b1 h => ?_
 refine zA (zFr (k' := .i64) (a:=W.batch.tmod 4) Try.underlying5 Try.underlying3 rfl b1)<|zL h fun b2 h=>zA (zg rfl rfl b2)<|zA (zD rfl)<|zG<|zI ?_
 refine zC<|zPt (N:=2) (pl:=[(0,1),(1,1)]) (zs:=[.int .i64 0,.int .i64 0]) (zc:=[.lit (.int .i64 0),.lit (.int .i64 0)]) (rows:=List.map cI [0,1]) zHR Try.underlying22 rfl rfl rfl (by kernel_rfl) rfl (⟨zBC.refl _,⟨zBC.refl _,trivial⟩⟩) ⟨li 0,0,1,rfl,rfl,rfl,rfl,rfl,⟨li 1,1,1,rfl,rfl,rfl,rfl,rfl,(by exact zLh.refl _)⟩⟩ rfl rfl rfl<|zA (zB rfl)<|zA (zB rfl)<|zA (zM Try.underlying37 rfl rfl Try.sizeOf5 rfl)<|zA (zN Try.isAgg5 rfl rfl rfl rfl) ?_
 refine zA (zTf (k := .u8) (a:=W.batch) (b:=4) rfl rfl (by decide))<|zA (zGq (k := .u8) (a:=IntKind.u8.wrap (W.batch.tdiv 4)) (b:=4) rfl rfl (by decide))<|zL h fun b3 h=>zA (zFr (k' := .i64) (a:=(IntKind.u8.wrap (W.batch.tdiv 4)).tmod 4) Try.underlying5 Try.underlying3 rfl b3)<|zL h fun b4 h=>zA (zg rfl rfl b4) ?_
 refine zA (zB rfl)<|zQ h fun x1 w1 h=>zAJ (zFP (j:=2) (ds:=[5,58]) (rows':=List.map zAV l1) rfl (zAb (fun _=>rfl)) ⟨rfl,rfl,trivial⟩)<|zQ h fun x2 w2 h=>zAJ (zFP (j:=3) (ds:=[49]) (rows':=List.map cI [0,1]) rfl (zAb (fun _=>rfl)) ⟨rfl,trivial⟩)<|zQ h fun x3 w3 h => ?_
 refine zb Try.func9 rfl (by kernel_rfl) (.fn 9) rfl rfl (zKW w3) rfl<|zA (zU rfl rfl)<|zA (zU rfl rfl)<|za (H':=[.box 37 (zt W),.box 29 (zF x3.1),.dead,.dead]) (zT (k:=1) (o:=0) (cs:=([(ls cI ([]:List Int))]++([li 0]++([li 0]++([(ls zO ([]:List zW))]++([(ls zJ ([]:List zK))]++[])))))) (la:=(zF x3.1)) Try.sizeOf29 rfl rfl rfl rfl)<|zA (zD rfl)<|zG ?_
 refine zd ?_
 cases h
 exact zCF (zGO Try.isAgg29 Try.sizeOf29 rfl rfl rfl rfl) (zAl rfl rfl) rfl
theorem zLu {uB:Int} {uF:Int} {r:Bool} (h:zBk uB uF=some r):PFn Try.prog 58 [li uB,(AV.rp [li uF] 0)] (AV.lit (.bool r)):=by
 refine zq Try.func58 rfl Try.ntmps58 Try.results58 rfl ?_
 unfold zBk at h
 refine zI<|zC<|zA (zD rfl)<|zG<|zI<|zC ?_
 refine zA (zB rfl)<|zA (zo (o:=0) Try.isAgg3 rfl rfl)<|zA (zBe rfl rfl)<|zA (zD rfl)<|zG<|zd ?_
 cases h
 exact zy (zAl rfl rfl)
theorem zH9 {Q : List Int} {uV : Int → Option Bool} {g_a_del : FuncId} {cf_a_del : Func} {code_a_del : Code} {caps_a_del : List AV} (hcf_a_del : Try.prog.funcs[g_a_del]? = some cf_a_del) (hcb_a_del : cf_a_del.body = some code_a_del) (hcn_a_del : (cf_a_del.name == "runtime.NumGoroutine") = false) (hnr_a_del : caps_a_del.all nr = true) (hg_a_del : ∀ {x0 : Int} {y : Bool}, uV x0 = some y → PFn Try.prog g_a_del ((li x0) :: caps_a_del) (AV.lit (.bool y))) {r : (List Int)} (h : zBq Q uV = some r) : AFn Try.prog 57 [(AV.hd 0), (AV.clo g_a_del caps_a_del)] [.vec 3 1 (List.map cI Q)] (.hd 1) [.dead, .vec 3 1 (List.map cI r)] := by
 refine zGe Try.func57 rfl Try.ntmps57 Try.results57 rfl ?_
 unfold zBq at h
 refine zI<|zC<|zA (zD rfl)<|zG<|zI<|zC ?_
 refine zA (zB rfl)<|zA (zB rfl)<|zQ h fun x1 w1 h=>zAx (r':=(li x1)) (la:=[AV.hd 0,AV.clo g_a_del caps_a_del]) (la':=[ls cI Q,AV.clo g_a_del caps_a_del]) (r:=(li x1)) (S:=[0]) Try.func84 rfl (by kernel_rfl) (.fn 84) rfl ⟨zGz (fun _=>rfl) rfl rfl,zBI.clo (zDw.nrs hnr_a_del),trivial⟩ (zFN hcf_a_del hcb_a_del hcn_a_del hnr_a_del hg_a_del w1) (.inr trivial) rfl<|zA (zD rfl)<|zG ?_
 refine zI<|zI<|zC<|zA (zB rfl)<|zA (zBe rfl rfl)<|zG ?_
 refine zY h rfl (fun b1 h => ?_) (fun b1 h => ?_)
 ·refine zI<|zC<|zA (zB rfl)<|zA (zD rfl)<|zG<|zd ?_
  cases h
  exact ⟨_,_,zUl (d:=4) (k:=0) (l:=Q) rfl rfl,zUg rfl rfl⟩
 refine zS ?_
 refine zAA (r:=r) (fun ((i1,l1):Int×(List Int))=>mkE [(0,(AV.hd 0)),(5,(li i1))]) (fun (i1,l1)=>[.vec 3 1 (List.map cI l1)]) (fun (i1,l1)=>zB0 i1 l1) ?_ ?_
 ·
  refine zI<|zC<|zA (zB rfl)<|zL h fun b4 h=>zA (zg rfl rfl b4)<|zA (zD rfl) ?_
  refine zG<|zV<|z6 (σ:=Int×Int×(List Int)) (fun (i2,i3,l2)=>mkE [(0,(AV.hd 0)),(1,(AV.clo g_a_del caps_a_del)),(5,(li i2)),(6,(li i3))]) (fun (i2,i3,l2)=>[.vec 3 1 (List.map cI l2)]) (fun n0 (i2,i3,l2)=>zA8 uV n0 i2 i3 l2) (x1,(x1+1),Q) h (fun _=>rfl) (zBg (n:=42) (m:=1) [0] (l:=[(0,(AV.hd 0)),(1,(AV.clo g_a_del caps_a_del)),(5,(li x1)),(6,(li (x1+1)))]) ⟨⟨Sub.refl _,by kernel_rfl⟩,⟨zDz hnr_a_del,zD0 hnr_a_del⟩,⟨Sub.refl _,by kernel_rfl⟩,⟨Sub.refl _,by kernel_rfl⟩,trivial⟩ rfl rfl ⟨⟨rfl,by kernel_rfl⟩,trivial⟩) ?_
  clear h
  rintro n0 ⟨i2,i3,l2⟩ h
  replace h:zAr uV (zA8 uV n0) i2 i3 l2=some r:=h
  unfold zAr at h
  refine zI<|zI<|zC<|zA (zB rfl)<|zA (zB rfl)<|zA (zD1 (f:=cI) (l:=l2) Try.underlying22 rfl rfl) ?_
  refine zA (zi rfl rfl)<|zG ?_
  refine zY h rfl (fun b5 h => ?_) (fun b5 h => ?_)
  ·refine zS ?_
   refine zAA (r:=r) (fun ((i4,l3):Int×(List Int))=>mkE [(0,(AV.hd 0)),(1,(AV.clo g_a_del caps_a_del)),(5,(li i4)),(6,(li i3))]) (fun (i4,l3)=>[.vec 3 1 (List.map cI l3)]) (fun (i4,l3)=>zBW (zA8 uV n0) i3 i4 l3) ?_ ?_
   ·
    refine zV<|zI<|zC<|zA (zB rfl)<|zA (zB rfl)<|zL h fun b7 h => ?_
    refine zA (zAR (f:=cI) (l:=l2) (i:=i3) Try.underlying22 Try.sizeOf3 rfl rfl rfl b7)<|zA (zDX (f:=cI) (l:=l2) (i:=i3) (c:=0) (a:=(li (at_ l2 i3))) Try.isAgg3 rfl rfl (by first | rfl | omega) b7 rfl rfl)<|zA (zD rfl)<|zG<|zI<|zC ?_
    refine zA (zB rfl)<|zA (zB rfl)<|zQ h fun x2 w2 h=>zAx (S:=[]) hcf_a_del hcb_a_del hcn_a_del (.clo (caps:=caps_a_del) rfl) rfl (zDw.c (zBI.nr rfl) (zDw.nrs hnr_a_del)) (hg_a_del w2) (.inl rfl) rfl<|zA (zBf (t:=x2) rfl)<|zG ?_
    refine zY h rfl (fun b8 h => ?_) (fun b8 h => ?_)
    ·refine zI<|zC<|zA (zB rfl)<|zA (zB rfl)<|zA (zB rfl)<|zL h fun b9 h => ?_
     refine zA (zAR (f:=cI) (l:=l2) (i:=i2) Try.underlying22 Try.sizeOf3 rfl rfl rfl b9)<|za (H':=[.vec 3 1 (List.map cI (l2.set i2.toNat (at_ l2 i3)))]) (zIP (k:=0) (o:=(i2.toNat*1)) (f:=cI) (l:=l2) (i:=i2) (c:=0) (a:=(li (at_ l2 i3))) (z:=at_ l2 i3) Try.sizeOf3 rfl rfl (by first | rfl | omega) b9 rfl rfl rfl rfl rfl)<|zG<|zC<|zA (zB rfl)<|zL h fun b10 h => ?_
     refine zA (zg rfl rfl b10)<|zA (zD rfl)<|zG ?_
     exact ⟨((i2+1),(l2.set i2.toNat (at_ l2 i3))),zBg (n:=42) (m:=1) [0] (l:=[(0,(AV.hd 0)),(1,(AV.clo g_a_del caps_a_del)),(5,(li (i2+1))),(6,(li i3))]) ⟨⟨Sub.refl _,by kernel_rfl⟩,⟨zDz hnr_a_del,zD0 hnr_a_del⟩,⟨Sub.refl _,by kernel_rfl⟩,⟨Sub.refl _,by kernel_rfl⟩,trivial⟩ rfl rfl ⟨⟨rfl,by kernel_rfl⟩,trivial⟩,h⟩
    refine zS ?_
    exact ⟨(i2,l2),zBg (n:=42) (m:=1) [0] (l:=[(0,(AV.hd 0)),(1,(AV.clo g_a_del caps_a_del)),(5,(li i2)),(6,(li i3))]) ⟨⟨Sub.refl _,by kernel_rfl⟩,⟨zDz hnr_a_del,zD0 hnr_a_del⟩,⟨Sub.refl _,by kernel_rfl⟩,⟨Sub.refl _,by kernel_rfl⟩,trivial⟩ rfl rfl ⟨⟨rfl,by kernel_rfl⟩,trivial⟩,h⟩
   clear h
   rintro ⟨i4,l3⟩ h
   unfold zBW at h
   refine zC<|zA (zB rfl)<|zL h fun b6 h=>zA (zg rfl rfl b6)<|zA (zD rfl)<|zG ?_
   exact ⟨(i4,(i3+1),l3),zBg (n:=42) (m:=1) [0] (l:=[(0,(AV.hd 0)),(1,(AV.clo g_a_del caps_a_del)),(5,(li i4)),(6,(li (i3+1)))]) ⟨⟨Sub.refl _,by kernel_rfl⟩,⟨zDz hnr_a_del,zD0 hnr_a_del⟩,⟨Sub.refl _,by kernel_rfl⟩,⟨Sub.refl _,by kernel_rfl⟩,trivial⟩ rfl rfl ⟨⟨rfl,by kernel_rfl⟩,trivial⟩,h⟩
  refine zAC ?_
  exact ⟨(i2,l2),zAZ [0] rfl rfl (by kernel_rfl),h⟩
 clear h
 rintro ⟨i1,l1⟩ h
 unfold zB0 at h
 refine zI<|zC<|zA (zB rfl)<|zA (zB rfl)<|zL h fun b2 h=>zSy (k:=0) (l:=l1) (lo:=i1) Try.underlying22 Try.sizeOf3 Try.zeroValue3 rfl rfl rfl b2 rfl ?_
 refine zG<|zI<|zC<|zA (zB rfl)<|zA (zB rfl)<|zL h fun b3 h => ?_
 refine zUm (k:=0) (l:=zI9 l1 i1) (hi:=i1) Try.underlying22 Try.sizeOf3 rfl rfl rfl b3<|zA (zD rfl)<|zG<|zd ?_
 cases h
 exact ⟨_,_,Rep.refl,zUg rfl rfl⟩
end Go.Proofs.Ytplkliakhdkpcaa
namespace Go.Proofs.Ytplkliakhdkpcaa
open Go Go.RowKit Go.Wk Go.Am Go.Proofs
set_option maxHeartbeats 4000000
theorem zMO {A:zW} {B:Int} {r:zW×Int} (h:zJn A B=some r):PFn Try.prog 59 [(AV.agg (zO A)),li B] (AV.tup [(AV.agg (zO r.1)),li r.2]):=by
 refine zq Try.func59 rfl Try.ntmps59 Try.results59 rfl ?_
 unfold zJn at h
 refine zI<|zC<|zX (H':=[.box 46 (zO A)]) (z8 (t:=46) rfl)<|zX (H':=[.box 46 (zO A),.box 46 (zO ⟨0,0,0,0,0,(List.replicate 5 ([]:List Int))⟩)]) zv0<|zA (zD rfl)<|zG ?_
 refine zI<|zI<|zC<|zA (zR (k:=0) (o:=0) (m:=10) Try.isAgg46 Try.sizeOf46 rfl rfl rfl rfl rfl)<|zQ h fun x1 w1 h=>zb Try.func36 rfl (by kernel_rfl) (.fn 36) rfl rfl (zET w1) rfl ?_
 refine zA (zD rfl)<|zG<|zI<|zC<|zA (zB rfl)<|zA (z7 rfl rfl) ?_
 refine zG ?_
 refine zY h rfl (fun b1 h => ?_) (fun b1 h => ?_)
 ·refine zI<|zC<|zA zv9<|zA (zB rfl)<|za (H':=[.box 46 (zO A),.box 46 (zO (⟨0,0,0,0,0,(List.replicate 5 ([]:List Int))⟩:zW))]) (zT (k:=1) (o:=0) (cs:=(zO ⟨0,0,0,0,0,(List.replicate 5 ([]:List Int))⟩)) (la:=(zO (⟨0,0,0,0,0,(List.replicate 5 ([]:List Int))⟩:zW))) Try.sizeOf46 rfl rfl rfl rfl)<|zA (zD rfl) ?_
  refine zG<|zd ?_
  cases h
  exact zCF (zGO Try.isAgg46 Try.sizeOf46 rfl rfl rfl rfl) (zAl rfl rfl) rfl
 refine zS<|zI<|zI<|zC<|zA (zR (k:=0) (o:=0) (m:=10) Try.isAgg46 Try.sizeOf46 rfl rfl rfl rfl rfl)<|zA (zB rfl) ?_
 refine zQ h fun x2 w2 h=>zAx (r':=(AV.lit (.bool x2))) (la:=[(AV.agg (zO A)),li B,li 0]) (la':=[(AV.agg ([li A.node,li A.kind,li A.start,li A.count,li A.min]++([AV.any,AV.any,AV.any,AV.any,AV.any]++[]))),li B,li 0]) (r:=(AV.lit (.bool x2))) (S:=[]) Try.func62 rfl (by kernel_rfl) (.fn 62) rfl ⟨zLI (hd:=([li A.node]++[li A.kind]++[li A.start]++[li A.count]++[li A.min])) (tl:=((cA 5 (eS cI) ([]:List Int) A.free))) rfl,zBI.nr rfl,zBI.nr rfl,trivial⟩ (zEk w2) (.inl rfl) rfl<|zA (zBf (t:=x2) rfl)<|zG ?_
 refine zY h rfl (fun b2 h => ?_) (fun b2 h => ?_)
 ·refine zI<|zC<|zA zv9<|za (H':=[.box 46 (zO A),.box 46 (zO (⟨0,0,0,0,0,(List.replicate 5 ([]:List Int))⟩:zW))]) (zT (k:=1) (o:=0) (cs:=(zO ⟨0,0,0,0,0,(List.replicate 5 ([]:List Int))⟩)) (la:=(zO (⟨0,0,0,0,0,(List.replicate 5 ([]:List Int))⟩:zW))) Try.sizeOf46 rfl rfl rfl rfl)<|zA (zD rfl)<|zG ?_
  refine zd ?_
  cases h
  exact zCF (zGO Try.isAgg46 Try.sizeOf46 rfl rfl rfl rfl) (zAl rfl rfl) rfl
 refine zS<|zI<|zC<|zA (zR (k:=0) (o:=0) (m:=10) Try.isAgg46 Try.sizeOf46 rfl rfl rfl rfl rfl)<|zA (zB rfl)<|zQ h fun x3 w3 h => ?_
 refine zb Try.func66 rfl (by kernel_rfl) (.fn 66) rfl rfl (zJN w3) rfl<|zA (zB rfl)<|zA (zU rfl rfl)<|zA (zU rfl rfl)<|zA (zD rfl)<|zA (zD rfl) ?_
 refine zG<|zI<|zI<|zC<|zA (zB rfl)<|zA (zi rfl rfl) ?_
 refine zG ?_
 refine zY h rfl (fun b3 h => ?_) (fun b3 h => ?_)
 ·refine zI<|zC<|zA zv9<|za (H':=[.box 46 (zO A),.box 46 (zO (⟨0,0,0,0,0,(List.replicate 5 ([]:List Int))⟩:zW))]) (zT (k:=1) (o:=0) (cs:=(zO ⟨0,0,0,0,0,(List.replicate 5 ([]:List Int))⟩)) (la:=(zO (⟨0,0,0,0,0,(List.replicate 5 ([]:List Int))⟩:zW))) Try.sizeOf46 rfl rfl rfl rfl)<|zA (zD rfl)<|zG ?_
  refine zd ?_
  cases h
  exact zCF (zGO Try.isAgg46 Try.sizeOf46 rfl rfl rfl rfl) (zAl rfl rfl) rfl
 refine zS<|zI<|zC<|zA (zR (k:=0) (o:=0) (m:=10) Try.isAgg46 Try.sizeOf46 rfl rfl rfl rfl rfl)<|zQ h fun x4 w4 h=>zH3 (cs:=([li x4.node,li x4.kind,li x4.start,li x4.count,li x4.min]++((cM 5 3 (5:Int) x4.free)++[]))) (la:=[(AV.agg (zO A))]) (la':=[(AV.agg (zO A))]) (S:=[]) Try.func82 rfl (by kernel_rfl) (.fn 82) rfl ⟨zBI.nr rfl,trivial⟩ (zJO w4) (.inl rfl) ?_
 refine zX (H':=[.box 46 (zO A),.box 46 (zO ⟨0,0,0,0,0,(List.replicate 5 ([]:List Int))⟩),.val (.agg ([li x4.node,li x4.kind,li x4.start,li x4.count,li x4.min]++((cM 5 3 (5:Int) x4.free)++[]))),.box 46 (zO ⟨0,0,0,0,0,(List.replicate 5 ([]:List Int))⟩)]) zv0<|za (H':=[.box 46 (zO A),.box 46 (zO ⟨0,0,0,0,0,(List.replicate 5 ([]:List Int))⟩),.dead,.box 46 ([li x4.node,li x4.kind,li x4.start,li x4.count,li x4.min]++((cM 5 3 (5:Int) x4.free)++[]))]) (zEN (k:=3) (o:=0) (j:=2) (cs:=(zO ⟨0,0,0,0,0,(List.replicate 5 ([]:List Int))⟩)) (la:=([li x4.node,li x4.kind,li x4.start,li x4.count,li x4.min]++((cM 5 3 (5:Int) x4.free)++[]))) Try.sizeOf46 rfl rfl rfl rfl rfl (by decide))<|zG<|zI<|zC<|zA (zB rfl) ?_
 refine zA (zM Try.underlying46 rfl rfl Try.sizeOf44 rfl)<|zL h fun b4 h=>zA (zAP (m:=5) (s:=1) (i:=x3.1) (k:=3) (o:=5) Try.underlying44 Try.sizeOf22 rfl rfl b4)<|zL h fun b5 h=>zAJ (zIr (k:=3) (cs:=([li x4.node,li x4.kind,li x4.start,li x4.count,li x4.min]++((cM 5 3 (5:Int) x4.free)++[]))) (hd:=([li x4.node]++[li x4.kind]++[li x4.start]++[li x4.count]++[li x4.min]++[])) (tl:=([])) (N:=5) (T:=3) (K:=5) (l:=x4.free) (i:=x3.1) rfl rfl b4 b5)<|zA (zDc (k:=3) (o:=(5+x3.1.toNat*1)) (cs:=([li x4.node,li x4.kind,li x4.start,li x4.count,li x4.min]++((List.set (cM 5 3 (5:Int) x4.free) x3.1.toNat (AV.hd 4))++[]))) (hd:=([li x4.node]++[li x4.kind]++[li x4.start]++[li x4.count]++[li x4.min]++[])) (tl:=([])) (s:=(cM 5 3 (5:Int) x4.free)) (i:=x3.1) (j:=4) Try.isAgg22 rfl rfl rfl (congrArg (fun q=>5+q) (Nat.mul_one _)) (zGi b4)) ?_
 refine zA (zB rfl)<|zQ h fun x5 w5 h=>zAx (r':=(AV.tup [li x5.1,(AV.lit (.bool x5.2))])) (la:=[AV.hd 4,li x3.2]) (la':=[(ls cI (x4.free.getD x3.1.toNat [])),li x3.2]) (r:=(AV.tup [li x5.1,(AV.lit (.bool x5.2))])) (S:=[4]) Try.func63 rfl (by kernel_rfl) (.fn 63) rfl ⟨zGz (fun _=>rfl) rfl rfl,zBI.nr rfl,trivial⟩ (zAh w5) (.inr rfl) rfl<|zA (zB rfl)<|zA (zU rfl rfl)<|zA (zU rfl rfl) ?_
 refine zA (zD rfl)<|zA (zD rfl)<|zG<|zI<|zC<|zA (zB rfl) ?_
 refine zA (zB rfl)<|zA (zM Try.underlying46 rfl rfl Try.sizeOf44 rfl)<|zA (zAP (m:=5) (s:=1) (i:=x3.1) (k:=3) (o:=5) Try.underlying44 Try.sizeOf22 rfl rfl b4)<|zA (zDc (k:=3) (o:=(5+x3.1.toNat*1)) (cs:=([li x4.node,li x4.kind,li x4.start,li x4.count,li x4.min]++((List.set (cM 5 3 (5:Int) x4.free) x3.1.toNat (AV.hd 4))++[]))) (hd:=([li x4.node]++[li x4.kind]++[li x4.start]++[li x4.count]++[li x4.min]++[])) (tl:=([])) (s:=(cM 5 3 (5:Int) x4.free)) (i:=x3.1) (j:=4) Try.isAgg22 rfl rfl rfl (congrArg (fun q=>5+q) (Nat.mul_one _)) (zGi b4))<|zA (zB rfl)<|zA (zB rfl) ?_
 refine zL h fun b6 h=>zA (zg rfl rfl b6)<|zL h fun b7 h=>zPE (k:=4) (l:=x4.free.getD x3.1.toNat []) (i:=x5.1) (q:=x5.1+1) (fun a b=>zUW a b) Try.func85 rfl (by kernel_rfl) rfl rfl rfl rfl b7<|zA (zM Try.underlying46 rfl rfl Try.sizeOf44 rfl)<|zA (zAP (m:=5) (s:=1) (i:=x3.1) (k:=3) (o:=5) Try.underlying44 Try.sizeOf22 rfl rfl b4) ?_
 refine za (H':=[.box 46 (zO A),.box 46 (zO ⟨0,0,0,0,0,(List.replicate 5 ([]:List Int))⟩),.dead,.box 46 ([li x4.node,li x4.kind,li x4.start,li x4.count,li x4.min]++((List.set (cM 5 3 (5:Int) x4.free) x3.1.toNat (AV.hd 5))++[])),.dead,.vec 3 1 (List.map cI (zSE (x4.free.getD x3.1.toNat []) x5.1))]) (zGj (k:=3) (o:=(5+x3.1.toNat*1)) (cs:=([li x4.node,li x4.kind,li x4.start,li x4.count,li x4.min]++((List.set (cM 5 3 (5:Int) x4.free) x3.1.toNat (AV.hd 4))++[]))) (hd:=([li x4.node]++[li x4.kind]++[li x4.start]++[li x4.count]++[li x4.min]++[])) (tl:=([])) (s:=(cM 5 3 (5:Int) x4.free)) (i:=x3.1) (a:=(AV.hd 5)) Try.sizeOf22 rfl rfl rfl (congrArg (fun q=>5+q) (Nat.mul_one _)) (zGi b4) rfl rfl)<|zG ?_
 refine zAA (r:=r) (fun (l1:List (List Int))=>mkE [(4,(AV.ptr 0 0)),(9,(AV.ptr 1 0))]) (fun l1=>[.box 46 (zO ⟨0,0,0,0,0,(List.replicate 5 ([]:List Int))⟩),.box 46 ([li x4.node,li x4.kind,li x4.start,li x4.count,li x4.min]++((cM 5 3 (5:Int) l1)++[]))]) (fun l1=>zIS x4 l1) ?_ ?_
 ·
  refine zV<|z6 (σ:=Int×Int×(List (List Int))) (fun (i1,i2,l2)=>mkE [(1,(li B)),(4,(AV.ptr 0 0)),(7,(li i1)),(8,(li i2)),(9,(AV.ptr 1 0))]) (fun (i1,i2,l2)=>[.box 46 (zO ⟨0,0,0,0,0,(List.replicate 5 ([]:List Int))⟩),.box 46 ([li x4.node,li x4.kind,li x4.start,li x4.count,li x4.min]++((cM 5 3 (5:Int) l2)++[]))]) (fun n0 (i1,i2,l2)=>zCo B x4 n0 i1 i2 l2) (x3.1,x3.2,(zDY 5 [] x4.free x3.1.toNat (zSE (x4.free.getD x3.1.toNat []) x5.1))) h (fun _=>rfl) (Rep.trans (zIV (j:=5) (l':=zSE (x4.free.getD x3.1.toNat []) x5.1) (k:=3) (cs:=([li x4.node,li x4.kind,li x4.start,li x4.count,li x4.min]++((List.set (cM 5 3 (5:Int) x4.free) x3.1.toNat (AV.hd 5))++[]))) (hd:=([li x4.node]++[li x4.kind]++[li x4.start]++[li x4.count]++[li x4.min]++[])) (tl:=([])) (N:=5) (T:=3) (K:=5) (l:=x4.free) (i:=x3.1) rfl rfl b4 b5 rfl rfl) (zAZ [1,3] (l:=[(1,(li B)),(4,(AV.ptr 0 0)),(7,(li x3.1)),(8,(li x3.2)),(9,(AV.ptr 1 0))]) rfl rfl (by kernel_rfl))) ?_
  clear h
  rintro n0 ⟨i1,i2,l2⟩ h
  replace h:zEt B x4 (zCo B x4 n0) i1 i2 l2=some r:=h
  unfold zEt at h
  refine zI<|zI<|zC<|zA (zB rfl)<|zA (zCf rfl rfl)<|zG ?_
  refine zY h rfl (fun b8 h => ?_) (fun b8 h => ?_)
  ·refine zS<|zV<|zI<|zC<|zA (zB rfl)<|zL h fun b9 h => ?_
   refine zA (zDv rfl rfl b9)<|zA (zD rfl)<|zG<|zI<|zC<|zA (zB rfl) ?_
   refine zA (zB rfl)<|zL h fun b10 h=>zL h fun b11 h=>zA (zGW (a:=1) (b:=i1 - 1) rfl rfl b10 b11)<|zL h fun b12 h=>zA (zg rfl rfl b12) ?_
   refine zA (zD rfl)<|zG ?_
   refine zAA (r:=r) (fun ((i3,i4):Int×Int)=>mkE [(1,(li B)),(4,(AV.ptr 0 0)),(7,(li (i1 - 1))),(8,(li i3)),(9,(AV.ptr 1 0)),(12,(li i4))]) (fun (i3,i4)=>[.box 46 (zO ⟨0,0,0,0,0,(List.replicate 5 ([]:List Int))⟩),.box 46 ([li x4.node,li x4.kind,li x4.start,li x4.count,li x4.min]++((cM 5 3 (5:Int) l2)++[]))]) (fun (i3,i4)=>zFx (zCo B x4 n0) i1 l2 i3 i4) ?_ ?_
   ·
    refine zI<|zC<|zA (zB rfl)<|zA (zB rfl)<|zA (zBp rfl rfl)<|zG ?_
    refine zY h rfl (fun b16 h => ?_) (fun b16 h => ?_)
    ·refine zC<|zA (zB rfl)<|zA (zB rfl)<|zA (zD rfl)<|zA (zD rfl)<|zG ?_
     exact ⟨((i2+((1:Int)*2 ^ (i1 - 1).toNat)),i2),zAZ [0,1] rfl rfl (by kernel_rfl),h⟩
    refine zS ?_
    exact ⟨(i2,(i2+((1:Int)*2 ^ (i1 - 1).toNat))),zAZ [0,1] rfl rfl (by kernel_rfl),h⟩
   clear h
   rintro ⟨i3,i4⟩ h
   unfold zFx at h
   refine zI<|zC<|zA (zB rfl)<|zA (zM Try.underlying46 rfl rfl Try.sizeOf44 rfl)<|zL h fun b13 h=>zA (zAP (m:=5) (s:=1) (i:=i1 - 1) (k:=1) (o:=5) Try.underlying44 Try.sizeOf22 rfl rfl b13) ?_
   refine zL h fun b14 h=>zAJ (zIr (k:=1) (cs:=([li x4.node,li x4.kind,li x4.start,li x4.count,li x4.min]++((cM 5 3 (5:Int) l2)++[]))) (hd:=([li x4.node]++[li x4.kind]++[li x4.start]++[li x4.count]++[li x4.min]++[])) (tl:=([])) (N:=5) (T:=3) (K:=5) (l:=l2) (i:=i1 - 1) rfl rfl b13 b14)<|zA (zDc (k:=1) (o:=(5+(i1 - 1).toNat*1)) (cs:=([li x4.node,li x4.kind,li x4.start,li x4.count,li x4.min]++((List.set (cM 5 3 (5:Int) l2) (i1 - 1).toNat (AV.hd 2))++[]))) (hd:=([li x4.node]++[li x4.kind]++[li x4.start]++[li x4.count]++[li x4.min]++[])) (tl:=([])) (s:=(cM 5 3 (5:Int) l2)) (i:=i1 - 1) (j:=2) Try.isAgg22 rfl rfl rfl (congrArg (fun q=>5+q) (Nat.mul_one _)) (zGi b13))<|zA (zB rfl)<|zQ h fun x6 w6 h=>zAx (r':=(AV.tup [li x6.1,(AV.lit (.bool x6.2))])) (la:=[AV.hd 2,li i4]) (la':=[(ls cI (l2.getD (i1 - 1).toNat [])),li i4]) (r:=(AV.tup [li x6.1,(AV.lit (.bool x6.2))])) (S:=[2]) Try.func63 rfl (by kernel_rfl) (.fn 63) rfl ⟨zGz (fun _=>rfl) rfl rfl,zBI.nr rfl,trivial⟩ (zAh w6) (.inr rfl) rfl ?_
   refine zA (zB rfl)<|zA (zU rfl rfl)<|zA (zU rfl rfl)<|zA (zD rfl)<|zA (zD rfl)<|zG ?_
   refine zC<|zA (zB rfl)<|zA (zB rfl)<|zA (zM Try.underlying46 rfl rfl Try.sizeOf44 rfl)<|zA (zAP (m:=5) (s:=1) (i:=i1 - 1) (k:=1) (o:=5) Try.underlying44 Try.sizeOf22 rfl rfl b13)<|zA (zDc (k:=1) (o:=(5+(i1 - 1).toNat*1)) (cs:=([li x4.node,li x4.kind,li x4.start,li x4.count,li x4.min]++((List.set (cM 5 3 (5:Int) l2) (i1 - 1).toNat (AV.hd 2))++[]))) (hd:=([li x4.node]++[li x4.kind]++[li x4.start]++[li x4.count]++[li x4.min]++[])) (tl:=([])) (s:=(cM 5 3 (5:Int) l2)) (i:=i1 - 1) (j:=2) Try.isAgg22 rfl rfl rfl (congrArg (fun q=>5+q) (Nat.mul_one _)) (zGi b13)) ?_
   refine zA (zB rfl)<|zA (zB rfl)<|zHF (a:=(li i4)) zHR Try.underlying22 rfl rfl rfl rfl<|zL h fun b15 h=>zM3 (k:=2) (j:=3) (l:=l2.getD (i1 - 1).toNat []) (i:=x6.1) (q:=i4) (fun a b c d e=>zRL a b c d e) Try.func83 rfl (by kernel_rfl) rfl rfl rfl rfl rfl rfl b15<|zA (zM Try.underlying46 rfl rfl Try.sizeOf44 rfl) ?_
   refine zA (zAP (m:=5) (s:=1) (i:=i1 - 1) (k:=1) (o:=5) Try.underlying44 Try.sizeOf22 rfl rfl b13)<|za (H':=[.box 46 (zO ⟨0,0,0,0,0,(List.replicate 5 ([]:List Int))⟩),.box 46 ([li x4.node,li x4.kind,li x4.start,li x4.count,li x4.min]++((List.set (cM 5 3 (5:Int) l2) (i1 - 1).toNat (AV.hd 4))++[])),.dead,.vec 3 1 (List.map cI [i4]),.vec 3 1 (List.map cI (zQ1 (l2.getD (i1 - 1).toNat []) x6.1 i4))]) (zGj (k:=1) (o:=(5+(i1 - 1).toNat*1)) (cs:=([li x4.node,li x4.kind,li x4.start,li x4.count,li x4.min]++((List.set (cM 5 3 (5:Int) l2) (i1 - 1).toNat (AV.hd 2))++[]))) (hd:=([li x4.node]++[li x4.kind]++[li x4.start]++[li x4.count]++[li x4.min]++[])) (tl:=([])) (s:=(cM 5 3 (5:Int) l2)) (i:=i1 - 1) (a:=(AV.hd 4)) Try.sizeOf22 rfl rfl rfl (congrArg (fun q=>5+q) (Nat.mul_one _)) (zGi b13) rfl rfl)<|zG ?_
   exact ⟨((i1 - 1),i3,(zDY 5 [] l2 (i1 - 1).toNat (zQ1 (l2.getD (i1 - 1).toNat []) x6.1 i4))),Rep.trans (zIV (j:=4) (l':=zQ1 (l2.getD (i1 - 1).toNat []) x6.1 i4) (k:=1) (cs:=([li x4.node,li x4.kind,li x4.start,li x4.count,li x4.min]++((List.set (cM 5 3 (5:Int) l2) (i1 - 1).toNat (AV.hd 4))++[]))) (hd:=([li x4.node]++[li x4.kind]++[li x4.start]++[li x4.count]++[li x4.min]++[])) (tl:=([])) (N:=5) (T:=3) (K:=5) (l:=l2) (i:=i1 - 1) rfl rfl b13 b14 rfl rfl) (zAZ [0,1] (l:=[(1,(li B)),(4,(AV.ptr 0 0)),(7,(li (i1 - 1))),(8,(li i3)),(9,(AV.ptr 1 0))]) rfl rfl (by kernel_rfl)),h⟩
  refine zAC ?_
  exact ⟨l2,zAZ [0,1] rfl rfl (by kernel_rfl),h⟩
 clear h
 intro l1 h
 unfold zIS at h
 refine zI<|zC<|zAJ (zKb (k:=1) (cs:=([li x4.node,li x4.kind,li x4.start,li x4.count,li x4.min]++((cM 5 3 (5:Int) l1)++[]))) (hd:=([li x4.node]++[li x4.kind]++[li x4.start]++[li x4.count]++[li x4.min]++[])) (tl:=([])) (N:=5) (T:=3) (K:=5) (l:=l1) rfl rfl)<|zA (zR (k:=1) (o:=0) (m:=10) Try.isAgg46 Try.sizeOf46 rfl rfl rfl rfl rfl)<|za (H':=[.box 46 (zO (⟨x4.node,x4.kind,x4.start,x4.count,x4.min,l1⟩:zW)),.box 46 (zO ⟨x4.node,x4.kind,x4.start,x4.count,x4.min,l1⟩)]) (zT (k:=0) (o:=0) (cs:=(zO ⟨0,0,0,0,0,(List.replicate 5 ([]:List Int))⟩)) (la:=(zO (⟨x4.node,x4.kind,x4.start,x4.count,x4.min,l1⟩:zW))) Try.sizeOf46 rfl rfl rfl rfl)<|zA (zD rfl) ?_
 refine zG<|zd ?_
 cases h
 exact zCF (zGO Try.isAgg46 Try.sizeOf46 rfl rfl rfl rfl) (zAl rfl rfl) rfl
theorem zMl {A:zH} {B:Int} {r:zH×Int} (h:zFE A B=some r):PFn Try.prog 33 [(AV.agg (zF A)),li B] (AV.tup [(AV.agg (zF r.1)),li r.2]):=by
 refine zq Try.func33 rfl Try.ntmps33 Try.results33 rfl ?_
 unfold zFE at h
 refine zI<|zC<|zX (H':=[.box 29 (zF A)]) (z8 (t:=29) rfl)<|zX (H':=[.box 29 (zF A),.box 3 [li B]]) (zIU (t:=3) (a:=(li B)) rfl rfl)<|zX (H':=[.box 29 (zF A),.box 3 [li B],.box 29 (zF ⟨[],0,0,[],[]⟩)]) zv3<|zA (zD rfl) ?_
 refine zG<|zI<|zI<|zC<|zA (zR (k:=0) (o:=0) (m:=5) Try.isAgg29 Try.sizeOf29 rfl rfl rfl rfl rfl)<|zQ h fun x1 w1 h => ?_
 refine zb Try.func15 rfl (by kernel_rfl) (.fn 15) rfl rfl (zA2 w1) rfl<|zA (zD rfl)<|zG<|zI<|zC<|zA (zB rfl) ?_
 refine zA (z7 rfl rfl)<|zG ?_
 refine zY h rfl (fun b1 h => ?_) (fun b1 h => ?_)
 ·refine zI<|zC<|zA zQO<|zA (zB rfl)<|za (H':=[.box 29 (zF A),.box 3 [li B],.box 29 (zF (⟨([]:List Int),0,0,([]:List zW),([]:List zK)⟩:zH))]) (zT (k:=2) (o:=0) (cs:=(zF ⟨[],0,0,[],[]⟩)) (la:=(zF (⟨([]:List Int),0,0,([]:List zW),([]:List zK)⟩:zH))) Try.sizeOf29 rfl rfl rfl rfl)<|zA (zD rfl) ?_
  refine zG<|zd ?_
  cases h
  exact zCF (zGO Try.isAgg29 Try.sizeOf29 rfl rfl rfl rfl) (zAl rfl rfl) rfl
 refine zS<|zI<|zC<|zA (zR (k:=0) (o:=0) (m:=5) Try.isAgg29 Try.sizeOf29 rfl rfl rfl rfl rfl)<|zA (zN Try.isAgg3 rfl rfl rfl rfl)<|zQ h fun x2 w2 h => ?_
 refine zb Try.func34 rfl (by kernel_rfl) (.fn 34) rfl rfl (zEh w2) rfl<|zA (zD rfl)<|zG<|zI<|zV<|zI ?_
 refine zC<|zA (zB rfl)<|zA (zi rfl rfl)<|zA (zD rfl)<|zG ?_
 refine zY h rfl (fun b2 h => ?_) (fun b2 h => ?_)
 ·refine zI<|zC<|zA zQO<|za (H':=[.box 29 (zF A),.box 3 [li B],.box 29 (zF (⟨([]:List Int),0,0,([]:List zW),([]:List zK)⟩:zH))]) (zT (k:=2) (o:=0) (cs:=(zF ⟨[],0,0,[],[]⟩)) (la:=(zF (⟨([]:List Int),0,0,([]:List zW),([]:List zK)⟩:zH))) Try.sizeOf29 rfl rfl rfl rfl)<|zA (zD rfl)<|zG ?_
  refine zd ?_
  cases h
  exact zCF (zGO Try.isAgg29 Try.sizeOf29 rfl rfl rfl rfl) (zAl rfl rfl) rfl
 refine zI<|zC<|zA (zR (k:=0) (o:=0) (m:=5) Try.isAgg29 Try.sizeOf29 rfl rfl rfl rfl rfl)<|zA (zB rfl)<|zA (zN Try.isAgg3 rfl rfl rfl rfl)<|zQ h fun x3 w3 h => ?_
 refine zb Try.func35 rfl (by kernel_rfl) (.fn 35) rfl rfl (zHL w3) rfl<|zA (zBf (t:=x3) rfl)<|zA (zD rfl)<|zG ?_
 refine zY h rfl (fun b3 h => ?_) (fun b3 h => ?_)
 ·refine zI<|zC<|zA zQO<|za (H':=[.box 29 (zF A),.box 3 [li B],.box 29 (zF (⟨([]:List Int),0,0,([]:List zW),([]:List zK)⟩:zH))]) (zT (k:=2) (o:=0) (cs:=(zF ⟨[],0,0,[],[]⟩)) (la:=(zF (⟨([]:List Int),0,0,([]:List zW),([]:List zK)⟩:zH))) Try.sizeOf29 rfl rfl rfl rfl)<|zA (zD rfl)<|zG ?_
  refine zd ?_
  cases h
  exact zCF (zGO Try.isAgg29 Try.sizeOf29 rfl rfl rfl rfl) (zAl rfl rfl) rfl
 refine zI<|zC<|zA (zR (k:=0) (o:=0) (m:=5) Try.isAgg29 Try.sizeOf29 rfl rfl rfl rfl rfl)<|zA (zB rfl)<|zQ h fun x4 w4 h=>zb Try.func39 rfl (by kernel_rfl) (.fn 39) rfl rfl (zFu w4) rfl ?_
 refine zA (zi rfl rfl)<|zA (zD rfl)<|zG ?_
 refine zY h rfl (fun b4 h => ?_) (fun b4 h => ?_)
 ·refine zI<|zC<|zA zQO<|za (H':=[.box 29 (zF A),.box 3 [li B],.box 29 (zF (⟨([]:List Int),0,0,([]:List zW),([]:List zK)⟩:zH))]) (zT (k:=2) (o:=0) (cs:=(zF ⟨[],0,0,[],[]⟩)) (la:=(zF (⟨([]:List Int),0,0,([]:List zW),([]:List zK)⟩:zH))) Try.sizeOf29 rfl rfl rfl rfl)<|zA (zD rfl)<|zG ?_
  refine zd ?_
  cases h
  exact zCF (zGO Try.isAgg29 Try.sizeOf29 rfl rfl rfl rfl) (zAl rfl rfl) rfl
 refine zS<|zI<|zC<|zA (zR (k:=0) (o:=0) (m:=5) Try.isAgg29 Try.sizeOf29 rfl rfl rfl rfl rfl)<|zQ h fun x5 w5 h=>zH3 (cs:=[ls cI x5.nodes,li x5.batch,li x5.high,AV.osl 46 10 (List.map zO x5.zones),AV.osl 50 1 (List.map zAS x5.caches)]) (la:=[(AV.agg (zF A))]) (la':=[(AV.agg (zF A))]) (S:=[]) Try.func42 rfl (by kernel_rfl) (.fn 42) rfl ⟨zBI.nr rfl,trivial⟩ (zD7 w5) (.inl rfl) ?_
 refine zX (H':=[.box 29 (zF A),.box 3 [li B],.box 29 (zF ⟨[],0,0,[],[]⟩),.val (.agg [ls cI x5.nodes,li x5.batch,li x5.high,AV.osl 46 10 (List.map zO x5.zones),AV.osl 50 1 (List.map zAS x5.caches)]),.box 29 (zF ⟨[],0,0,[],[]⟩)]) zv3<|za (H':=[.box 29 (zF A),.box 3 [li B],.box 29 (zF ⟨[],0,0,[],[]⟩),.dead,.box 29 [ls cI x5.nodes,li x5.batch,li x5.high,AV.osl 46 10 (List.map zO x5.zones),AV.osl 50 1 (List.map zAS x5.caches)]]) (zEN (k:=4) (o:=0) (j:=3) (cs:=(zF ⟨[],0,0,[],[]⟩)) (la:=[ls cI x5.nodes,li x5.batch,li x5.high,AV.osl 46 10 (List.map zO x5.zones),AV.osl 50 1 (List.map zAS x5.caches)]) Try.sizeOf29 rfl rfl rfl rfl rfl (by decide))<|zG<|zI<|zI<|zC ?_
 refine zAJ (zBz (k:=4) (o:=3) (t':=46) (sz:=10) (rows:=List.map zO x5.zones) rfl rfl)<|zAJ (zBz (k:=4) (o:=4) (t':=50) (sz:=1) (rows:=List.map zAS x5.caches) rfl rfl)<|zA (zR (k:=4) (o:=0) (m:=5) Try.isAgg29 Try.sizeOf29 rfl rfl rfl rfl rfl)<|zA (zB rfl)<|zA (zN Try.isAgg3 rfl rfl rfl rfl)<|zQ h fun x6 w6 h => ?_
 refine zAx (r':=(li x6)) (la:=[(AV.agg [ls cI x5.nodes,li x5.batch,li x5.high,AV.hd 5,AV.hd 6]),li x2,li B]) (la':=[(AV.agg (zF ⟨x5.nodes,x5.batch,x5.high,x5.zones,x5.caches⟩)),li x2,li B]) (r:=(li x6)) (S:=[5,6]) Try.func56 rfl (by kernel_rfl) (.fn 56) rfl ⟨zBI.agg (by exact ⟨zBI.nr rfl,⟨zBI.nr rfl,⟨zBI.nr rfl,⟨zGz (fun _=>rfl) rfl rfl,⟨zUO zEw rfl rfl,trivial⟩⟩⟩⟩⟩),zBI.nr rfl,zBI.nr rfl,trivial⟩ (zIv w6) (.inr trivial) rfl<|zA (zD rfl)<|zG<|zI<|zC<|zA (zB rfl) ?_
 refine zA (zBp rfl rfl)<|zG ?_
 refine zY h rfl (fun b5 h => ?_) (fun b5 h => ?_)
 ·refine zI<|zC<|zA (zM Try.underlying29 rfl rfl Try.sizeOf27 rfl)<|zA (zN Try.isAgg27 rfl rfl rfl rfl)<|zA (zB rfl)<|zL h fun b6 h => ?_
  refine zA (zAR (f:=zAS) (l:=x5.caches) (i:=x6) Try.underlying27 Try.sizeOf50 rfl rfl rfl b6)<|zA (zM Try.underlying50 rfl rfl Try.sizeOf48 rfl)<|zAJ (zP8 (k:=6) (i:=x6.toNat) (t':=22) (s':=1) (rs:=List.map (cO 3 1 cI) ((at_ x5.caches x6).lists)) rfl (zQB (f:=zAS) (l:=x5.caches) b6))<|zA (zMi (k:=6) (i:=x6.toNat) (a := .hd 7) Try.isAgg48 rfl rfl rfl rfl)<|zA (zB rfl)<|zL h fun b7 h => ?_
  refine zA (zAR (f:=(cO 3 1 cI)) (l:=(at_ x5.caches x6).lists) (i:=x2) Try.underlying48 Try.sizeOf22 rfl rfl rfl b7)<|zA (zD rfl)<|zG<|zI<|zC<|zA (zB rfl) ?_
  refine zA (zB rfl)<|zA (zAd rfl)<|zAJ (zS2 (k:=7) (f:=cI) (l:=(at_ x5.caches x6).lists) (i:=x2) rfl b7)<|zA (zMi (k:=7) (i:=x2.toNat) (a := .hd 8) Try.isAgg22 rfl rfl rfl rfl)<|zA (zKg (la:=[AV.ptr 1 0]) rfl)<|zQ h fun x7 w7 h => ?_
  refine zTu (k:=8) (l:=at_ ((at_ x5.caches x6).lists) x2) (l':=x7) (la:=[AV.hd 8,(AV.clo 58 [AV.ptr 1 0])]) (la':=[AV.hd 0,(AV.clo 58 [(AV.rp [li B] 0)])]) (S:=[1]) Try.func57 rfl (by kernel_rfl) (.fn 57) rfl ⟨zDQ.hd,zDQ.of (zBI.clo (⟨zBI.ptr (cs:=[li B]) rfl rfl rfl,trivial⟩)),trivial⟩ rfl rfl (zH9 Try.func58 rfl (by kernel_rfl) rfl (fun hy=>zLu  hy) w7)<|zA (zAd rfl)<|za (H':=[.box 29 (zF A),.box 3 [li B],.box 29 (zF ⟨[],0,0,[],[]⟩),.dead,.box 29 [ls cI x5.nodes,li x5.batch,li x5.high,AV.hd 5,AV.hd 6],.vec 46 10 (List.map zO x5.zones),.vopen 50 1 (List.map zAS x5.caches) x6.toNat [.hd 7],.vopen 22 1 (List.map (cO 3 1 cI) ((at_ x5.caches x6).lists)) x2.toNat [.hd 9],.dead,.vec 3 1 (List.map cI x7)]) (zQF (k:=7) (j:=9) (j0:=8) (i:=x2.toNat) Try.sizeOf22 rfl rfl rfl rfl rfl)<|zG<|zI<|zC ?_
  refine zAJ (zAT (k:=4) (j:=5) (o:=3) rfl rfl rfl rfl)<|zAJ (zB7 (k:=4) (o:=3) (rows':=List.map zO x5.zones) rfl rfl (zAb (fun _=>rfl)))<|zAJ (Rep.trans (zQf (k:=7) (j:=9) (f:=cI) (l:=(at_ x5.caches x6).lists) (l':=x7) rfl rfl rfl) (zRW (k:=6) (j:=7) (f:=zAS) (l:=x5.caches) (z:={ at_ x5.caches x6 with lists:=((at_ x5.caches x6).lists).set x2.toNat x7 }) rfl rfl rfl rfl))<|zAJ (zAT (k:=4) (j:=6) (o:=4) rfl rfl rfl rfl)<|zAJ (zB7 (k:=4) (o:=4) (rows':=List.map zJ (x5.caches.set x6.toNat ({ at_ x5.caches x6 with lists:=((at_ x5.caches x6).lists).set x2.toNat x7 }))) rfl rfl (zHr (fun x=>zEw x)))<|zA (zR (k:=4) (o:=0) (m:=5) Try.isAgg29 Try.sizeOf29 rfl rfl rfl rfl rfl) ?_
  refine za (H':=[.box 29 (zF A),.box 3 [li B],.box 29 (zF (⟨x5.nodes,x5.batch,x5.high,x5.zones,x5.caches.set x6.toNat ({ at_ x5.caches x6 with lists:=((at_ x5.caches x6).lists).set x2.toNat x7 })⟩:zH)),.dead,.box 29 (zF ⟨x5.nodes,x5.batch,x5.high,x5.zones,(x5.caches.set x6.toNat ({ at_ x5.caches x6 with lists:=((at_ x5.caches x6).lists).set x2.toNat x7 }))⟩),.dead,.dead,.dead,.dead,.dead]) (zT (k:=2) (o:=0) (cs:=(zF ⟨[],0,0,[],[]⟩)) (la:=(zF (⟨x5.nodes,x5.batch,x5.high,x5.zones,x5.caches.set x6.toNat ({ at_ x5.caches x6 with lists:=((at_ x5.caches x6).lists).set x2.toNat x7 })⟩:zH))) Try.sizeOf29 rfl rfl rfl rfl)<|zA (zD rfl)<|zG<|zd ?_
  cases h
  exact zCF (zGO Try.isAgg29 Try.sizeOf29 rfl rfl rfl rfl) (zAl rfl rfl) rfl
 refine zS<|zI<|zL h fun b8 h=>zQ h fun x8 w8 h => ?_
 refine zBr (n:=83) (m:=0) [.head 0 1,.head 0 1,.head 0 1,.head 0 1,.head 0 1,.head 0 1,.head 0 1,.head 0 1,.head 0 1,.head 0 2,.tail 0,.tail 1,.head 2 2] [10,11] [AV.ptr 4 3,AV.hd 5,li x2,(AV.ptr 5 (x2.toNat*10)),(AV.agg (zO (at_ x5.zones x2))),li B,(AV.tup [(AV.agg (zO x8.1)),li x8.2]),(AV.tup [(AV.agg (zO x8.1)),li x8.2]),(AV.agg (zO x8.1)),li x8.2,AV.ptr 7 0,.any,li x8.2] [[.box 29 (zF A),.box 3 [li B],.box 29 (zF ⟨[],0,0,[],[]⟩),.dead,.box 29 [ls cI x5.nodes,li x5.batch,li x5.high,AV.hd 5,AV.hd 6],.vec 46 10 (List.map zO x5.zones),.vec 50 1 (List.map zAS x5.caches)],[.box 29 (zF A),.box 3 [li B],.box 29 (zF ⟨[],0,0,[],[]⟩),.dead,.box 29 [ls cI x5.nodes,li x5.batch,li x5.high,AV.hd 5,AV.hd 6],.vec 46 10 (List.map zO x5.zones),.vec 50 1 (List.map zAS x5.caches),.box 46 (zO ⟨0,0,0,0,0,(List.replicate 5 ([]:List Int))⟩)],[.box 29 (zF A),.box 3 [li B],.box 29 (zF ⟨[],0,0,[],[]⟩),.dead,.box 29 [ls cI x5.nodes,li x5.batch,li x5.high,AV.hd 5,AV.hd 6],.vec 46 10 (List.map zO x5.zones),.vec 50 1 (List.map zAS x5.caches),.box 46 (zO x8.1)]] (by kernel_rfl) (by kernel_rfl) ⟨⟨D1 fun e s p=>zM (k:=4) (o:=0) (off:=3) Try.underlying29 rfl rfl Try.sizeOf26 (s 8 rfl),D1 fun e s p=>zM (k:=4) (o:=0) (off:=3) Try.underlying29 rfl rfl Try.sizeOf26 (s 8 rfl)⟩,⟨D1 fun e s p=>zN (k:=4) (o:=3) Try.isAgg26 p.1 rfl rfl rfl,D1 fun e s p=>zN (k:=4) (o:=3) Try.isAgg26 p.1 rfl rfl rfl⟩,⟨D1 fun e s p=>zB (s 7 rfl),D1 fun e s p=>zB (s 7 rfl)⟩,⟨D1 fun e s p=>zAR (f:=zO) (l:=x5.zones) (i:=x2) Try.underlying26 Try.sizeOf46 p.1 rfl p.2.1 b8,D1 fun e s p=>zAR (f:=zO) (l:=x5.zones) (i:=x2) Try.underlying26 Try.sizeOf46 p.1 rfl p.2.1 b8⟩,⟨D1 fun e s p=>zDW (f:=zO) (l:=x5.zones) (i:=x2) (c:=0) (q:=10) (la:=(zO (at_ x5.zones x2))) Try.isAgg46 Try.sizeOf46 p.1 rfl (by first | rfl | omega) b8 rfl rfl rfl,D1 fun e s p=>zDW (f:=zO) (l:=x5.zones) (i:=x2) (c:=0) (q:=10) (la:=(zO (at_ x5.zones x2))) Try.isAgg46 Try.sizeOf46 p.1 rfl (by first | rfl | omega) b8 rfl rfl rfl⟩,⟨D1 fun e s p=>zN (k:=1) (o:=0) Try.isAgg3 (s 3 rfl) rfl rfl rfl,D1 fun e s p=>zN (k:=1) (o:=0) Try.isAgg3 (s 3 rfl) rfl rfl rfl⟩,⟨?_,?_⟩,⟨D1 fun e s p=>zB p.1,D1 fun e s p=>zB p.1⟩,⟨D1 fun e s p=>zU p.1 rfl,D1 fun e s p=>zU p.1 rfl⟩,⟨D1 fun e s p=>zU p.1 rfl,D1 fun e s p=>zU p.1 rfl,D1 fun e s p=>zU p.1 rfl⟩,?_,?_,D1 fun e s p=>zD p.2.2.2.2.2.2.2.2.2.2.2.1,trivial⟩ ?_
 ·
  intro e13 s13 p13
  refine zb (r:=(AV.tup [(AV.agg (zO x8.1)),li x8.2])) (la:=[(AV.agg (zO (at_ x5.zones x2))),li B]) Try.func59 rfl (by kernel_rfl) (.fn 59) (zAe p13.1 (zAe p13.2.1 rfl)) rfl (zMO w8) rfl ?_
  exact zG ⟨fun _=>rfl,rfl⟩
 ·
  intro e14 s14 p14
  refine zb (r:=(AV.tup [(AV.agg (zO x8.1)),li x8.2])) (la:=[(AV.agg (zO (at_ x5.zones x2))),li B]) Try.func59 rfl (by kernel_rfl) (.fn 59) (zAe p14.1 (zAe p14.2.1 rfl)) rfl (zMO w8) rfl ?_
  exact zG ⟨fun _=>rfl,rfl⟩
 ·
  intro e22 s22 p22
  refine zX (H':=[.box 29 (zF A),.box 3 [li B],.box 29 (zF ⟨[],0,0,[],[]⟩),.dead,.box 29 [ls cI x5.nodes,li x5.batch,li x5.high,AV.hd 5,AV.hd 6],.vec 46 10 (List.map zO x5.zones),.vec 50 1 (List.map zAS x5.caches),.box 46 (zO ⟨0,0,0,0,0,(List.replicate 5 ([]:List Int))⟩)]) zv0 ?_
  exact zG ⟨fun _=>rfl,rfl⟩
 ·
  intro e23 s23 p23
  refine za (H':=[.box 29 (zF A),.box 3 [li B],.box 29 (zF ⟨[],0,0,[],[]⟩),.dead,.box 29 [ls cI x5.nodes,li x5.batch,li x5.high,AV.hd 5,AV.hd 6],.vec 46 10 (List.map zO x5.zones),.vec 50 1 (List.map zAS x5.caches),.box 46 (zO x8.1)]) (zT (k:=7) (o:=0) (cs:=(zO ⟨0,0,0,0,0,(List.replicate 5 ([]:List Int))⟩)) (la:=(zO x8.1)) Try.sizeOf46 (by exact p23.2.2.2.2.2.2.2.2.2.2.2.2.2.1) rfl rfl (by exact p23.2.2.2.2.2.2.2.2.2.2.2.1)) ?_
  exact zG ⟨fun _=>rfl,rfl⟩
 intro e25 s25 hq1
 refine zA5 (zCy (l:=[(4,(AV.ptr 2 0)),(7,(li x2)),(8,(AV.ptr 4 0)),(11,(AV.ptr 7 0)),(12,(li x8.2))]) ⟨s25 4 rfl,s25 7 rfl,s25 8 rfl,(hq1 10 (by decide) (by decide)),(hq1 12 (by decide) (by decide)),trivial⟩)<|zI<|zI<|zC<|zA (zB (av:=(li x8.2)) rfl)<|zA (z7 (a:=x8.2) (b:=0) rfl rfl) ?_
 refine zG ?_
 refine zY h rfl (fun b9 h => ?_) (fun b9 h => ?_)
 ·refine zI<|zC<|zA zQO<|zA (zB rfl)<|za (H':=[.box 29 (zF A),.box 3 [li B],.box 29 (zF (⟨([]:List Int),0,0,([]:List zW),([]:List zK)⟩:zH)),.dead,.box 29 [ls cI x5.nodes,li x5.batch,li x5.high,AV.hd 5,AV.hd 6],.vec 46 10 (List.map zO x5.zones),.vec 50 1 (List.map zAS x5.caches),.box 46 (zO x8.1)]) (zT (k:=2) (o:=0) (cs:=(zF ⟨[],0,0,[],[]⟩)) (la:=(zF (⟨([]:List Int),0,0,([]:List zW),([]:List zK)⟩:zH))) Try.sizeOf29 rfl rfl rfl rfl)<|zA (zD rfl) ?_
  refine zG<|zd ?_
  cases h
  exact zCF (zGO Try.isAgg29 Try.sizeOf29 rfl rfl rfl rfl) (zAl rfl rfl) rfl
 refine zS<|zI<|zC<|zA (zM Try.underlying29 rfl rfl Try.sizeOf26 rfl)<|zA (zN Try.isAgg26 rfl rfl rfl rfl)<|zA (zB rfl) ?_
 refine zA (zR (k:=7) (o:=0) (m:=10) Try.isAgg46 Try.sizeOf46 rfl rfl rfl rfl rfl)<|zA (zAR (f:=zO) (l:=x5.zones) (i:=x2) Try.underlying26 Try.sizeOf46 rfl rfl rfl b8)<|za (H':=[.box 29 (zF A),.box 3 [li B],.box 29 (zF ⟨[],0,0,[],[]⟩),.dead,.box 29 [ls cI x5.nodes,li x5.batch,li x5.high,AV.hd 5,AV.hd 6],.vec 46 10 (List.map zO (x5.zones.set x2.toNat x8.1)),.vec 50 1 (List.map zAS x5.caches),.box 46 (zO x8.1)]) (zDS (k:=5) (o:=(x2.toNat*10)) (f:=zO) (l:=x5.zones) (i:=x2) (z:=x8.1) Try.sizeOf46 (fun _=>rfl) rfl rfl (by first | rfl | omega) b8 rfl rfl)<|zG<|zI<|zC ?_
 refine zAJ (zAT (k:=4) (j:=5) (o:=3) rfl rfl rfl rfl)<|zAJ (zB7 (k:=4) (o:=3) (rows':=List.map zO (x5.zones.set x2.toNat x8.1)) rfl rfl (zAb (fun _=>rfl)))<|zAJ (zAT (k:=4) (j:=6) (o:=4) rfl rfl rfl rfl)<|zAJ (zB7 (k:=4) (o:=4) (rows':=List.map zJ x5.caches) rfl rfl (zHr (fun x=>zEw x)))<|zA (zR (k:=4) (o:=0) (m:=5) Try.isAgg29 Try.sizeOf29 rfl rfl rfl rfl rfl)<|za (H':=[.box 29 (zF A),.box 3 [li B],.box 29 (zF (⟨x5.nodes,x5.batch,x5.high,x5.zones.set x2.toNat x8.1,x5.caches⟩:zH)),.dead,.box 29 (zF ⟨x5.nodes,x5.batch,x5.high,x5.zones.set x2.toNat x8.1,x5.caches⟩),.dead,.dead,.box 46 (zO x8.1)]) (zT (k:=2) (o:=0) (cs:=(zF ⟨[],0,0,[],[]⟩)) (la:=(zF (⟨x5.nodes,x5.batch,x5.high,x5.zones.set x2.toNat x8.1,x5.caches⟩:zH))) Try.sizeOf29 rfl rfl rfl rfl) ?_
 refine zA (zD rfl)<|zG<|zd ?_
 cases h
 exact zCF (zGO Try.isAgg29 Try.sizeOf29 rfl rfl rfl rfl) (zAl rfl rfl) rfl
theorem zPX {A:zAF} {B:List zBV} {r:zH×(List Int)×Bool} (h:zJw A B=some r):PFn Try.prog 12 [(AV.agg (zt A)),ls zp B] (AV.tup [(AV.agg (zF r.1)),ls cI r.2.1,(AV.lit (.bool r.2.2))]):=by
 refine zq Try.func12 rfl Try.ntmps12 Try.results12 rfl ?_
 unfold zJw at h
 refine zI<|zC<|zX (H':=[.box 37 (zt A)]) (z8 (t:=37) rfl)<|zX (H':=[.box 37 (zt A),.box 29 (zF ⟨[],0,0,[],[]⟩)]) zv3<|zA (zD rfl)<|zA (zD rfl) ?_
 refine zG<|zI<|zC<|zA (zR (k:=0) (o:=0) (m:=11) Try.isAgg37 Try.sizeOf37 rfl rfl rfl rfl rfl)<|zQ h fun x1 w1 h=>zb Try.func21 rfl (by kernel_rfl) (.fn 21) rfl rfl (zQl w1) rfl ?_
 refine zA (zB rfl)<|zA (zU rfl rfl)<|zA (zU rfl rfl)<|zX (H':=[.box 37 (zt A),.box 29 (zF ⟨[],0,0,[],[]⟩),.box 29 (zF ⟨[],0,0,[],[]⟩)]) zv3<|za (H':=[.box 37 (zt A),.box 29 (zF ⟨[],0,0,[],[]⟩),.box 29 (zF x1.1)]) (zT (k:=2) (o:=0) (cs:=(zF ⟨[],0,0,[],[]⟩)) (la:=(zF x1.1)) Try.sizeOf29 rfl rfl rfl rfl)<|zA (zD rfl) ?_
 refine zG<|zI<|zI<|zC<|zA (zB rfl)<|zA (z7 rfl rfl) ?_
 refine zG ?_
 refine zY h rfl (fun b1 h => ?_) (fun b1 h => ?_)
 ·refine zI<|zC<|zA (zR (k:=2) (o:=0) (m:=5) Try.isAgg29 Try.sizeOf29 rfl rfl rfl rfl rfl)<|za (H':=[.box 37 (zt A),.box 29 (zF x1.1),.box 29 (zF x1.1)]) (zT (k:=1) (o:=0) (cs:=(zF ⟨[],0,0,[],[]⟩)) (la:=(zF x1.1)) Try.sizeOf29 rfl rfl rfl rfl)<|zA (zD rfl)<|zA (zD rfl) ?_
  refine zG<|zd ?_
  cases h
  exact zEb (zGO Try.isAgg29 Try.sizeOf29 rfl rfl rfl rfl) (zI6 (zAl rfl rfl) zBC.nils) (zAl rfl rfl) rfl
 refine zS<|zI<|zC<|zA (zD rfl)<|zAJ (zPo (d:=9) (el:=3) (sz:=1) rfl)<|zG ?_
 refine zAA (r:=r) (fun ((d1,l1):zH×(List Int))=>mkE [(4,(AV.ptr 0 0)),(7,(AV.ptr 1 0)),(9,(AV.hd 2))]) (fun (d1,l1)=>[.box 29 (zF ⟨[],0,0,[],[]⟩),.box 29 (zF d1),.vec 3 1 (List.map cI l1)]) (fun (d1,l1)=>zJ6 d1 l1) ?_ ?_
 ·
  refine zI<|zC<|zA (zB rfl)<|zA (ze Try.underlying38 rfl)<|zA (zB rfl)<|zG ?_
  refine zV<|z6 (σ:=Int×zH×(List Int)) (fun (i1,d2,l2)=>mkE [(4,(AV.ptr 0 0)),(7,(AV.ptr 1 0)),(9,(AV.hd 2)),(29,(ls zp B)),(30,(li (B.length:Int))),(31,(li i1))]) (fun (i1,d2,l2)=>[.box 29 (zF ⟨[],0,0,[],[]⟩),.box 29 (zF d2),.vec 3 1 (List.map cI l2)]) (fun n0 (i1,d2,l2)=>zE1 B n0 i1 d2 l2) (0,x1.1,[]) h (fun _=>rfl) (zAZ [1,2,3] rfl rfl (by kernel_rfl)) ?_
  clear h
  rintro n0 ⟨i1,d2,l2⟩ h
  replace h:zEs B (zE1 B n0) i1 d2 l2=some r:=h
  unfold zEs at h
  refine zI<|zC<|zA (zi rfl rfl)<|zG<|zI ?_
  refine zY h rfl (fun b2 h => ?_) (fun b2 h => ?_)
  ·refine zS ?_
   refine zAA (r:=r) (fun ((d3,l3):zH×(List Int))=>mkE [(4,(AV.ptr 0 0)),(7,(AV.ptr 1 0)),(9,(AV.hd 2)),(29,(ls zp B)),(30,(li (B.length:Int))),(31,(li i1))]) (fun (d3,l3)=>[.box 29 (zF ⟨[],0,0,[],[]⟩),.box 29 (zF d3),.vec 3 1 (List.map cI l3)]) (fun (d3,l3)=>zCP (zE1 B n0) i1 d3 l3) ?_ ?_
   ·
    refine zV<|zI<|zC<|zL h fun b4 h=>zA (zm Try.underlying38 Try.sizeOf78 (fun _=>rfl) rfl rfl b4)<|zA (zBB (row:=(zp (at_ B i1))) (o:=0) (m:=3) (la:=(zp (at_ B i1))) Try.isAgg78 Try.sizeOf78 rfl rfl rfl) ?_
    refine zX (H':=[.box 29 (zF ⟨[],0,0,[],[]⟩),.box 29 (zF d2),.vec 3 1 (List.map cI l2),.box 78 [(AV.lit (.int .u8 0)),(AV.lit (.int .u8 0)),(AV.lit (.int .u8 0))]]) zZ9<|za (H':=[.box 29 (zF ⟨[],0,0,[],[]⟩),.box 29 (zF d2),.vec 3 1 (List.map cI l2),.box 78 (zp (at_ B i1))]) (zT (k:=3) (o:=0) (cs:=[(AV.lit (.int .u8 0)),(AV.lit (.int .u8 0)),(AV.lit (.int .u8 0))]) (la:=(zp (at_ B i1))) Try.sizeOf78 rfl rfl rfl rfl)<|zG<|zI<|zC<|zA (zM Try.underlying78 rfl rfl Try.sizeOf5 rfl) ?_
    refine zA (zN Try.isAgg5 rfl rfl rfl rfl)<|zA (zGq (k := .u8) (a:=(at_ B i1).cpu) (b:=2) rfl rfl (by decide))<|zL h fun b5 h=>zA (zFr (k' := .i64) (a:=((at_ B i1).cpu).tmod 2) Try.underlying5 Try.underlying3 rfl b5)<|zA (zD rfl)<|zG ?_
    refine zI<|zC<|zA (zM Try.underlying78 rfl rfl Try.sizeOf5 rfl)<|zA (zN Try.isAgg5 rfl rfl rfl rfl)<|zA (zGq (k := .u8) (a:=(at_ B i1).what) (b:=6) rfl rfl (by decide))<|zG ?_
    refine zV<|zI<|zC<|zA (zBe rfl rfl)<|zA (zD rfl)<|zG ?_
    refine zY h rfl (fun b6 h => ?_) (fun b6 h => ?_)
    ·refine zI<|zI<|zC<|zA (zB rfl)<|zA (zD1 (f:=cI) (l:=l2) Try.underlying22 rfl rfl)<|zA (zBe rfl rfl) ?_
     refine zG ?_
     refine zY h rfl (fun b7 h => ?_) (fun b7 h => ?_)
     ·refine zAC ?_
      exact ⟨(d2,l2),zAZ [0,1,2] rfl rfl (by kernel_rfl),h⟩
     refine zS<|zI<|zC<|zA (zM Try.underlying78 rfl rfl Try.sizeOf5 rfl)<|zA (zN Try.isAgg5 rfl rfl rfl rfl)<|zL h fun b8 h => ?_
     refine zA (zFr (k' := .i64) (a:=(at_ B i1).pick) Try.underlying5 Try.underlying3 rfl b8)<|zA (zB rfl)<|zA (zD1 (f:=cI) (l:=l2) Try.underlying22 rfl rfl)<|zL h fun b9 h=>zA (zGq (k := .i64) (a:=(at_ B i1).pick) (b:=(l2.length:Int)) rfl rfl b9)<|zA (zD rfl) ?_
     refine zG<|zI<|zL h fun b10 h=>zQ h fun x2 w2 h => ?_
     refine zBr (n:=128) (m:=0) [.head 0 1,.head 0 1,.head 0 1,.head 0 1,.head 0 1,.head 0 1,.head 0 1,.head 0 1,.head 0 1,.head 0 2,.tail 0,.tail 1,.head 2 2] [10,11] [(AV.agg (zF d2)),(li (((at_ B i1).cpu).tmod 2)),AV.hd 2,(li (((at_ B i1).pick).tmod (l2.length:Int))),(AV.ptr 2 ((((at_ B i1).pick).tmod (l2.length:Int)).toNat*1)),(li (at_ l2 (((at_ B i1).pick).tmod (l2.length:Int)))),(AV.tup [(AV.agg (zF x2.1)),li x2.2]),(AV.tup [(AV.agg (zF x2.1)),li x2.2]),(AV.agg (zF x2.1)),li x2.2,AV.ptr 4 0,.any,li x2.2] [[.box 29 (zF ⟨[],0,0,[],[]⟩),.box 29 (zF d2),.vec 3 1 (List.map cI l2),.box 78 (zp (at_ B i1))],[.box 29 (zF ⟨[],0,0,[],[]⟩),.box 29 (zF d2),.vec 3 1 (List.map cI l2),.box 78 (zp (at_ B i1)),.box 29 (zF ⟨[],0,0,[],[]⟩)],[.box 29 (zF ⟨[],0,0,[],[]⟩),.box 29 (zF d2),.vec 3 1 (List.map cI l2),.box 78 (zp (at_ B i1)),.box 29 (zF x2.1)]] (by kernel_rfl) (by kernel_rfl) ⟨⟨D1 fun e s p=>zR (k:=1) (o:=0) (m:=5) Try.isAgg29 Try.sizeOf29 (s 7 rfl) rfl rfl rfl rfl,D1 fun e s p=>zR (k:=1) (o:=0) (m:=5) Try.isAgg29 Try.sizeOf29 (s 7 rfl) rfl rfl rfl rfl⟩,⟨D1 fun e s p=>zB (s 12 rfl),D1 fun e s p=>zB (s 12 rfl)⟩,⟨D1 fun e s p=>zB (s 9 rfl),D1 fun e s p=>zB (s 9 rfl)⟩,⟨D1 fun e s p=>zB (s 13 rfl),D1 fun e s p=>zB (s 13 rfl)⟩,⟨D1 fun e s p=>zAR (f:=cI) (l:=l2) (i:=((at_ B i1).pick).tmod (l2.length:Int)) Try.underlying22 Try.sizeOf3 p.1 rfl p.2.1 b10,D1 fun e s p=>zAR (f:=cI) (l:=l2) (i:=((at_ B i1).pick).tmod (l2.length:Int)) Try.underlying22 Try.sizeOf3 p.1 rfl p.2.1 b10⟩,⟨D1 fun e s p=>zDX (f:=cI) (l:=l2) (i:=((at_ B i1).pick).tmod (l2.length:Int)) (c:=0) (a:=(li (at_ l2 (((at_ B i1).pick).tmod (l2.length:Int))))) Try.isAgg3 p.1 rfl (by first | rfl | omega) b10 rfl rfl,D1 fun e s p=>zDX (f:=cI) (l:=l2) (i:=((at_ B i1).pick).tmod (l2.length:Int)) (c:=0) (a:=(li (at_ l2 (((at_ B i1).pick).tmod (l2.length:Int))))) Try.isAgg3 p.1 rfl (by first | rfl | omega) b10 rfl rfl⟩,⟨?_,?_⟩,⟨D1 fun e s p=>zB p.1,D1 fun e s p=>zB p.1⟩,⟨D1 fun e s p=>zU p.1 rfl,D1 fun e s p=>zU p.1 rfl⟩,⟨D1 fun e s p=>zU p.1 rfl,D1 fun e s p=>zU p.1 rfl,D1 fun e s p=>zU p.1 rfl⟩,?_,?_,D1 fun e s p=>zD p.2.2.2.2.2.2.2.2.2.2.2.1,trivial⟩ ?_
     ·
      intro e13 s13 p13
      refine zb (r:=(AV.tup [(AV.agg (zF x2.1)),li x2.2])) (la:=[(AV.agg (zF d2)),(li (((at_ B i1).cpu).tmod 2)),(li (at_ l2 (((at_ B i1).pick).tmod (l2.length:Int))))]) Try.func20 rfl (by kernel_rfl) (.fn 20) (zAe p13.1 (zAe p13.2.1 (zAe p13.2.2.1 rfl))) rfl (zHW w2) rfl ?_
      exact zG ⟨fun _=>rfl,rfl⟩
     ·
      intro e14 s14 p14
      refine zb (r:=(AV.tup [(AV.agg (zF x2.1)),li x2.2])) (la:=[(AV.agg (zF d2)),(li (((at_ B i1).cpu).tmod 2)),(li (at_ l2 (((at_ B i1).pick).tmod (l2.length:Int))))]) Try.func20 rfl (by kernel_rfl) (.fn 20) (zAe p14.1 (zAe p14.2.1 (zAe p14.2.2.1 rfl))) rfl (zHW w2) rfl ?_
      exact zG ⟨fun _=>rfl,rfl⟩
     ·
      intro e22 s22 p22
      refine zX (H':=[.box 29 (zF ⟨[],0,0,[],[]⟩),.box 29 (zF d2),.vec 3 1 (List.map cI l2),.box 78 (zp (at_ B i1)),.box 29 (zF ⟨[],0,0,[],[]⟩)]) zv3 ?_
      exact zG ⟨fun _=>rfl,rfl⟩
     ·
      intro e23 s23 p23
      refine za (H':=[.box 29 (zF ⟨[],0,0,[],[]⟩),.box 29 (zF d2),.vec 3 1 (List.map cI l2),.box 78 (zp (at_ B i1)),.box 29 (zF x2.1)]) (zT (k:=4) (o:=0) (cs:=(zF ⟨[],0,0,[],[]⟩)) (la:=(zF x2.1)) Try.sizeOf29 (by exact p23.2.2.2.2.2.2.2.2.2.2.2.2.2.1) rfl rfl (by exact p23.2.2.2.2.2.2.2.2.2.2.2.1)) ?_
      exact zG ⟨fun _=>rfl,rfl⟩
     intro e25 s25 hq1
     refine zA5 (zCy (l:=[(4,(AV.ptr 0 0)),(7,(AV.ptr 1 0)),(9,(AV.hd 2)),(13,(li (((at_ B i1).pick).tmod (l2.length:Int)))),(14,(AV.ptr 4 0)),(15,(li x2.2)),(29,(ls zp B)),(30,(li (B.length:Int))),(31,(li i1))]) ⟨s25 4 rfl,s25 7 rfl,s25 9 rfl,s25 13 rfl,(hq1 10 (by decide) (by decide)),(hq1 12 (by decide) (by decide)),s25 29 rfl,s25 30 rfl,s25 31 rfl,trivial⟩)<|zI<|zI<|zC<|zA (zB (av:=(li x2.2)) rfl)<|zA (z7 (a:=x2.2) (b:=0) rfl rfl) ?_
     refine zG ?_
     refine zY h rfl (fun b11 h => ?_) (fun b11 h => ?_)
     ·refine zI<|zC<|zA (zR (k:=1) (o:=0) (m:=5) Try.isAgg29 Try.sizeOf29 rfl rfl rfl rfl rfl)<|za (H':=[.box 29 (zF d2),.box 29 (zF d2),.vec 3 1 (List.map cI l2),.box 78 (zp (at_ B i1)),.box 29 (zF x2.1)]) (zT (k:=0) (o:=0) (cs:=(zF ⟨[],0,0,[],[]⟩)) (la:=(zF d2)) Try.sizeOf29 rfl rfl rfl rfl)<|zA (zD rfl)<|zA (zD rfl) ?_
      refine zG<|zd ?_
      cases h
      exact zEb (zGO Try.isAgg29 Try.sizeOf29 rfl rfl rfl rfl) (zI6 (zAl rfl rfl) zBC.nils) (zAl rfl rfl) rfl
     refine zS<|zI<|zC<|zA (zR (k:=4) (o:=0) (m:=5) Try.isAgg29 Try.sizeOf29 rfl rfl rfl rfl rfl)<|za (H':=[.box 29 (zF ⟨[],0,0,[],[]⟩),.box 29 (zF x2.1),.vec 3 1 (List.map cI l2),.box 78 (zp (at_ B i1)),.box 29 (zF x2.1)]) (zT (k:=1) (o:=0) (cs:=(zF d2)) (la:=(zF x2.1)) Try.sizeOf29 rfl rfl rfl rfl)<|zG ?_
     refine zA5 (zFP (j:=2) (ds:=[9]) (rows':=List.map cI l2) rfl (zAb (fun _=>rfl)) ⟨rfl,trivial⟩)<|zL h fun b12 h=>zL h fun b13 h=>zL h fun b14 h=>zL h fun b15 h=>zL h fun b16 h => ?_
     refine zBr (n:=128) (m:=0) [.tail 0,.head 0 1,.head 0 1,.head 0 1,.tail 1,.head 0 2,.head 0 2,.head 0 2,.head 0 2,.tail 2,.head 3 3] [0,4,9] [AV.hd 5,ls cI l2,(li (((at_ B i1).pick).tmod (l2.length:Int))),(ls cI (zFX l2 0 (((at_ B i1).pick).tmod (l2.length:Int)))),AV.hd 6,ls cI l2,(li (((at_ B i1).pick).tmod (l2.length:Int))),(li ((((at_ B i1).pick).tmod (l2.length:Int))+1)),(ls cI (zFX l2 ((((at_ B i1).pick).tmod (l2.length:Int))+1) (l2.length:Int))),AV.hd 7,AV.hd 7] [[.box 29 (zF ⟨[],0,0,[],[]⟩),.box 29 (zF x2.1),.dead,.box 78 (zp (at_ B i1)),.box 29 (zF x2.1)],[.box 29 (zF ⟨[],0,0,[],[]⟩),.box 29 (zF x2.1),.dead,.box 78 (zp (at_ B i1)),.box 29 (zF x2.1),.vec 3 1 (List.map cI [])],[.box 29 (zF ⟨[],0,0,[],[]⟩),.box 29 (zF x2.1),.dead,.box 78 (zp (at_ B i1)),.box 29 (zF x2.1),.dead,.vec 3 1 (List.map cI (([]:List Int)++(zFX l2 0 (((at_ B i1).pick).tmod (l2.length:Int)))))],[.box 29 (zF ⟨[],0,0,[],[]⟩),.box 29 (zF x2.1),.dead,.box 78 (zp (at_ B i1)),.box 29 (zF x2.1),.dead,.dead,.vec 3 1 (List.map cI ((([]:List Int)++(zFX l2 0 (((at_ B i1).pick).tmod (l2.length:Int))))++(zFX l2 ((((at_ B i1).pick).tmod (l2.length:Int))+1) (l2.length:Int))))]] (by kernel_rfl) (by kernel_rfl) ⟨?_,⟨D1 fun e s p=>zB (s 9 rfl),D1 fun e s p=>zB (s 9 rfl)⟩,⟨D1 fun e s p=>zB (s 13 rfl),D1 fun e s p=>zB (s 13 rfl)⟩,⟨D1 fun e s p=>zOR (hi:=((at_ B i1).pick).tmod (l2.length:Int)) (f:=cI) (l:=l2) Try.underlying22 Try.sizeOf3 (fun _=>rfl) p.1 p.2.1 b12,D1 fun e s p=>zOR (hi:=((at_ B i1).pick).tmod (l2.length:Int)) (f:=cI) (l:=l2) Try.underlying22 Try.sizeOf3 (fun _=>rfl) p.1 p.2.1 b12⟩,?_,⟨D1 fun e s p=>zB (s 9 rfl),D1 fun e s p=>zB (s 9 rfl),D1 fun e s p=>zB (s 9 rfl)⟩,⟨D1 fun e s p=>zB (s 13 rfl),D1 fun e s p=>zB (s 13 rfl),D1 fun e s p=>zB (s 13 rfl)⟩,⟨D1 fun e s p=>zg (a:=((at_ B i1).pick).tmod (l2.length:Int)) (b:=1) p.1 rfl b14,D1 fun e s p=>zg (a:=((at_ B i1).pick).tmod (l2.length:Int)) (b:=1) p.1 rfl b14,D1 fun e s p=>zg (a:=((at_ B i1).pick).tmod (l2.length:Int)) (b:=1) p.1 rfl b14⟩,⟨D1 fun e s p=>zKf (lo:=(((at_ B i1).pick).tmod (l2.length:Int))+1) (f:=cI) (l:=l2) Try.underlying22 Try.sizeOf3 (fun _=>rfl) p.1 p.2.1 b15,D1 fun e s p=>zKf (lo:=(((at_ B i1).pick).tmod (l2.length:Int))+1) (f:=cI) (l:=l2) Try.underlying22 Try.sizeOf3 (fun _=>rfl) p.1 p.2.1 b15,D1 fun e s p=>zKf (lo:=(((at_ B i1).pick).tmod (l2.length:Int))+1) (f:=cI) (l:=l2) Try.underlying22 Try.sizeOf3 (fun _=>rfl) p.1 p.2.1 b15⟩,?_,D1 fun e s p=>zD p.2.2.2.2.2.2.2.2.2.2.2.1,trivial⟩ ?_
     ·
      intro e26 s26 p25
      refine zMV zHR Try.underlying22 ?_
      exact zG ⟨fun _=>rfl,rfl⟩
     ·
      intro e33 s33 p32
      refine zHM (f:=cI) (k:=5) (l:=([]:List Int)) (l':=zFX l2 0 (((at_ B i1).pick).tmod (l2.length:Int))) zHR (fun _=>rfl) Try.underlying22 p32.1 rfl p32.2.1 b13 ?_
      exact zG ⟨fun _=>rfl,rfl⟩
     ·
      intro e46 s46 p45
      refine zHM (f:=cI) (k:=6) (l:=([]:List Int)++(zFX l2 0 (((at_ B i1).pick).tmod (l2.length:Int)))) (l':=zFX l2 ((((at_ B i1).pick).tmod (l2.length:Int))+1) (l2.length:Int)) zHR (fun _=>rfl) Try.underlying22 p45.2.2.1 rfl p45.2.1 b16 ?_
      exact zG ⟨fun _=>rfl,rfl⟩
     intro e48 s48 hq2
     exact ⟨(x2.1,((([]:List Int)++(zFX l2 0 (((at_ B i1).pick).tmod (l2.length:Int))))++(zFX l2 ((((at_ B i1).pick).tmod (l2.length:Int))+1) (l2.length:Int)))),Rep.trans (zCy (l:=[(4,(AV.ptr 0 0)),(7,(AV.ptr 1 0)),(9,(AV.hd 7)),(29,(ls zp B)),(30,(li (B.length:Int))),(31,(li i1))]) ⟨s48 4 rfl,s48 7 rfl,(hq2 10 (by decide) (by decide)),s48 29 rfl,s48 30 rfl,s48 31 rfl,trivial⟩) (zAZ [0,1,7] (l:=[(4,(AV.ptr 0 0)),(7,(AV.ptr 1 0)),(9,(AV.hd 2)),(29,(ls zp B)),(30,(li (B.length:Int))),(31,(li i1))]) rfl rfl (by kernel_rfl)),h⟩
    refine zI<|zC<|zA (zBe rfl rfl)<|zA (zD rfl)<|zG ?_
    refine zY h rfl (fun b17 h => ?_) (fun b17 h => ?_)
    ·refine zC<|zA (zR (k:=1) (o:=0) (m:=5) Try.isAgg29 Try.sizeOf29 rfl rfl rfl rfl rfl)<|zQ h fun x3 w3 h=>zb Try.func22 rfl (by kernel_rfl) (.fn 22) rfl rfl (zJC w3) rfl<|za (H':=[.box 29 (zF ⟨[],0,0,[],[]⟩),.box 29 (zF x3),.vec 3 1 (List.map cI l2),.box 78 (zp (at_ B i1))]) (zT (k:=1) (o:=0) (cs:=(zF d2)) (la:=(zF x3)) Try.sizeOf29 rfl rfl rfl rfl)<|zG ?_
     exact ⟨(x3,l2),zAZ [0,1,2] rfl rfl (by kernel_rfl),h⟩
    refine zI<|zC<|zA (zBe rfl rfl)<|zA (zD rfl)<|zG ?_
    refine zY h rfl (fun b18 h => ?_) (fun b18 h => ?_)
    ·refine zI<|zC<|zA (zR (k:=1) (o:=0) (m:=5) Try.isAgg29 Try.sizeOf29 rfl rfl rfl rfl rfl)<|zA (zM Try.underlying78 rfl rfl Try.sizeOf5 rfl)<|zA (zN Try.isAgg5 rfl rfl rfl rfl)<|zL h fun b19 h => ?_
     refine zA (zFr (k' := .i64) (a:=(at_ B i1).pick) Try.underlying5 Try.underlying3 rfl b19)<|zQ h fun x4 w4 h=>zb Try.func33 rfl (by kernel_rfl) (.fn 33) rfl rfl (zMl w4) rfl<|zA (zB rfl)<|zA (zU rfl rfl)<|zA (zU rfl rfl) ?_
     refine zX (H':=[.box 29 (zF ⟨[],0,0,[],[]⟩),.box 29 (zF d2),.vec 3 1 (List.map cI l2),.box 78 (zp (at_ B i1)),.box 29 (zF ⟨[],0,0,[],[]⟩)]) zv3<|za (H':=[.box 29 (zF ⟨[],0,0,[],[]⟩),.box 29 (zF d2),.vec 3 1 (List.map cI l2),.box 78 (zp (at_ B i1)),.box 29 (zF x4.1)]) (zT (k:=4) (o:=0) (cs:=(zF ⟨[],0,0,[],[]⟩)) (la:=(zF x4.1)) Try.sizeOf29 rfl rfl rfl rfl)<|zA (zD rfl)<|zG<|zI<|zC ?_
     refine zA (zB rfl)<|zA (zBe rfl rfl)<|zG ?_
     refine zY h rfl (fun b20 h => ?_) (fun b20 h => ?_)
     ·refine zI<|zC<|zA (zR (k:=4) (o:=0) (m:=5) Try.isAgg29 Try.sizeOf29 rfl rfl rfl rfl rfl)<|za (H':=[.box 29 (zF ⟨[],0,0,[],[]⟩),.box 29 (zF x4.1),.vec 3 1 (List.map cI l2),.box 78 (zp (at_ B i1)),.box 29 (zF x4.1)]) (zT (k:=1) (o:=0) (cs:=(zF d2)) (la:=(zF x4.1)) Try.sizeOf29 rfl rfl rfl rfl)<|zG<|zC ?_
      refine zA (zB rfl)<|zA (zM Try.underlying78 rfl rfl Try.sizeOf5 rfl)<|zA (zN Try.isAgg5 rfl rfl rfl rfl)<|zA (zFr (k' := .i64) (a:=(at_ B i1).pick) Try.underlying5 Try.underlying3 rfl b19)<|zHF (a:=(li ((at_ B i1).pick))) zHR Try.underlying22 rfl rfl rfl rfl<|zL h fun b21 h => ?_
      refine zEq (f:=cI) (k:=2) (j:=5) (l:=l2) (l':=[(at_ B i1).pick]) zHR (fun _=>rfl) Try.underlying22 rfl rfl rfl rfl b21<|zA (zD rfl)<|zG ?_
      exact ⟨(x4.1,(l2++[(at_ B i1).pick])),zAZ [0,1,6] rfl rfl (by kernel_rfl),h⟩
     refine zS ?_
     exact ⟨(d2,l2),zAZ [0,1,2] rfl rfl (by kernel_rfl),h⟩
    refine zI<|zC<|zA (zR (k:=1) (o:=0) (m:=5) Try.isAgg29 Try.sizeOf29 rfl rfl rfl rfl rfl)<|zA (zB rfl)<|zA (zM Try.underlying78 rfl rfl Try.sizeOf5 rfl)<|zA (zN Try.isAgg5 rfl rfl rfl rfl) ?_
    refine zA (zGq (k := .u8) (a:=(at_ B i1).what) (b:=6) rfl rfl (by decide))<|zA (z7 rfl rfl)<|zA (zM Try.underlying78 rfl rfl Try.sizeOf5 rfl)<|zA (zN Try.isAgg5 rfl rfl rfl rfl)<|zA (zGq (k := .u8) (a:=(at_ B i1).what) (b:=6) rfl rfl (by decide))<|zA (zBe rfl rfl) ?_
    refine zQ h fun x5 w5 h=>zb Try.func17 rfl (by kernel_rfl) (.fn 17) rfl rfl (zI0 w5) rfl<|zA (zB rfl)<|zA (zU rfl rfl)<|zA (zU rfl rfl)<|zA (zU rfl rfl) ?_
    refine zX (H':=[.box 29 (zF ⟨[],0,0,[],[]⟩),.box 29 (zF d2),.vec 3 1 (List.map cI l2),.box 78 (zp (at_ B i1)),.box 29 (zF ⟨[],0,0,[],[]⟩)]) zv3<|za (H':=[.box 29 (zF ⟨[],0,0,[],[]⟩),.box 29 (zF d2),.vec 3 1 (List.map cI l2),.box 78 (zp (at_ B i1)),.box 29 (zF x5.1)]) (zT (k:=4) (o:=0) (cs:=(zF ⟨[],0,0,[],[]⟩)) (la:=(zF x5.1)) Try.sizeOf29 rfl rfl rfl rfl)<|zA (zD rfl)<|zA (zD rfl)<|zG<|zI ?_
    refine zC<|zA (zB rfl)<|zA (zBe rfl rfl)<|zG ?_
    refine zY h rfl (fun b22 h => ?_) (fun b22 h => ?_)
    ·refine zI<|zC<|zA (zR (k:=4) (o:=0) (m:=5) Try.isAgg29 Try.sizeOf29 rfl rfl rfl rfl rfl)<|za (H':=[.box 29 (zF ⟨[],0,0,[],[]⟩),.box 29 (zF x5.1),.vec 3 1 (List.map cI l2),.box 78 (zp (at_ B i1)),.box 29 (zF x5.1)]) (zT (k:=1) (o:=0) (cs:=(zF d2)) (la:=(zF x5.1)) Try.sizeOf29 rfl rfl rfl rfl)<|zG<|zC ?_
     refine zA (zB rfl)<|zA (zB rfl)<|zHF (a:=(li x5.2.1)) zHR Try.underlying22 rfl rfl rfl rfl<|zL h fun b23 h=>zEq (f:=cI) (k:=2) (j:=5) (l:=l2) (l':=[x5.2.1]) zHR (fun _=>rfl) Try.underlying22 rfl rfl rfl rfl b23<|zA (zD rfl) ?_
     refine zG ?_
     exact ⟨(x5.1,(l2++[x5.2.1])),zAZ [0,1,6] rfl rfl (by kernel_rfl),h⟩
    refine zI<|zC<|zA (zB rfl)<|zA (z7 rfl rfl)<|zG ?_
    refine zY h rfl (fun b24 h => ?_) (fun b24 h => ?_)
    ·refine zI<|zC<|zA (zR (k:=1) (o:=0) (m:=5) Try.isAgg29 Try.sizeOf29 rfl rfl rfl rfl rfl)<|za (H':=[.box 29 (zF d2),.box 29 (zF d2),.vec 3 1 (List.map cI l2),.box 78 (zp (at_ B i1)),.box 29 (zF x5.1)]) (zT (k:=0) (o:=0) (cs:=(zF ⟨[],0,0,[],[]⟩)) (la:=(zF d2)) Try.sizeOf29 rfl rfl rfl rfl)<|zA (zD rfl)<|zA (zD rfl) ?_
     refine zG<|zd ?_
     cases h
     exact zEb (zGO Try.isAgg29 Try.sizeOf29 rfl rfl rfl rfl) (zI6 (zAl rfl rfl) zBC.nils) (zAl rfl rfl) rfl
    refine zS ?_
    exact ⟨(d2,l2),zAZ [0,1,2] rfl rfl (by kernel_rfl),h⟩
   clear h
   rintro ⟨d3,l3⟩ h
   unfold zCP at h
   refine zC<|zL h fun b3 h=>zA (zg rfl rfl b3)<|zA (zB rfl)<|zG ?_
   exact ⟨((i1+1),d3,l3),zAZ [0,1,2] rfl rfl (by kernel_rfl),h⟩
  refine zAC ?_
  exact ⟨(d2,l2),zAZ [0,1,2] rfl rfl (by kernel_rfl),h⟩
 clear h
 rintro ⟨d1,l1⟩ h
 unfold zJ6 at h
 refine zI<|zC<|zA (zR (k:=1) (o:=0) (m:=5) Try.isAgg29 Try.sizeOf29 rfl rfl rfl rfl rfl)<|zA (zB rfl)<|za (H':=[.box 29 (zF d1),.box 29 (zF d1),.vec 3 1 (List.map cI l1)]) (zT (k:=0) (o:=0) (cs:=(zF ⟨[],0,0,[],[]⟩)) (la:=(zF d1)) Try.sizeOf29 rfl rfl rfl rfl)<|zA (zD rfl) ?_
 refine zA (zD rfl)<|zG<|zA5 (zFP (j:=2) (ds:=[5,9,127]) (rows':=List.map cI l1) rfl (zAb (fun _=>rfl)) ⟨rfl,rfl,rfl,trivial⟩)<|zd ?_
 cases h
 exact zEb (zGO Try.isAgg29 Try.sizeOf29 rfl rfl rfl rfl) (zAl rfl rfl) (zAl rfl rfl) rfl
theorem zKH {A:zAF} {B:List zBV} {r:Bool} (h:zEd A B=some r):PFn Try.prog 4 [(AV.agg (zt A)),ls zp B] (AV.lit (.bool r)):=by
 refine zq Try.func4 rfl Try.ntmps4 Try.results4 rfl ?_
 unfold zEd at h
 refine zI<|zC<|zX (H':=[.box 37 (zt A)]) (z8 (t:=37) rfl)<|zA (zD rfl)<|zG<|zI ?_
 refine zI<|zC<|zQ h fun x1 w1 h=>zb Try.func8 rfl (by kernel_rfl) (.fn 8) rfl rfl (zLk w1) rfl<|zA (zBf (t:=x1) rfl)<|zA (zB rfl) ?_
 refine zZ rfl rfl (fun c1=>zv.step (zB rfl))<|zZ rfl rfl (fun c2=>zv.step (ze Try.underlying38 (zAQ rfl c2)))<|zZ rfl rfl (fun c3=>zv.step (zCf (zAQ rfl c3) rfl))<|zA (zh rfl rfl)<|zG ?_
 refine zY h rfl (fun b1 h => ?_) (fun b1 h => ?_)
 ·refine zI<|zC<|zQ h fun x2 w2 h=>zb Try.func8 rfl (by kernel_rfl) (.fn 8) rfl rfl (zLk w2) rfl<|zA (zD rfl)<|zG ?_
  refine zd ?_
  cases h
  exact zy (zAl rfl rfl)
 refine zS<|zI<|zC<|zA (zR (k:=0) (o:=0) (m:=11) Try.isAgg37 Try.sizeOf37 rfl rfl rfl rfl rfl)<|zA (zB rfl)<|zQ h fun x3 w3 h => ?_
 refine zb Try.func12 rfl (by kernel_rfl) (.fn 12) rfl rfl (zPX w3) rfl<|zA (zB rfl)<|zA (zU rfl rfl)<|zA (zU rfl rfl)<|zA (zU rfl rfl)<|zX (H':=[.box 37 (zt A),.box 29 (zF ⟨[],0,0,[],[]⟩)]) zv3 ?_
 refine za (H':=[.box 37 (zt A),.box 29 (zF x3.1)]) (zT (k:=1) (o:=0) (cs:=(zF ⟨[],0,0,[],[]⟩)) (la:=(zF x3.1)) Try.sizeOf29 rfl rfl rfl rfl)<|zA (zD rfl)<|zA (zD rfl)<|zG<|zI<|zI ?_
 refine zC<|zA (zB rfl)<|zA (zBf (t:=x3.2.2) rfl)<|zG ?_
 refine zY h rfl (fun b2 h => ?_) (fun b2 h => ?_)
 ·refine zI<|zC<|zA (zD rfl)<|zG<|zd ?_
  cases h
  exact zy (zAl rfl rfl)
 refine zS<|zI<|zC<|zA (zR (k:=1) (o:=0) (m:=5) Try.isAgg29 Try.sizeOf29 rfl rfl rfl rfl rfl)<|zQ h fun x4 w4 h=>zb Try.func13 rfl (by kernel_rfl) (.fn 13) rfl rfl (zIt w4) rfl ?_
 refine zA (zD rfl)<|zG<|zI<|zC<|zX (H':=[.box 37 (zt A),.box 29 (zF x3.1),.box 42 (cA 64 eI 0 (List.replicate 64 0))]) zZ4<|zG ?_
 refine zI<|zI<|zC<|zA (zB rfl)<|zA (zi rfl rfl)<|zA (zB rfl) ?_
 refine zZ rfl rfl (fun c4=>zv.step (zB rfl))<|zZ rfl rfl (fun c5=>zv.step (zCf (zAQ rfl c5) rfl))<|zA (zh rfl rfl)<|zG ?_
 refine zY h rfl (fun b3 h => ?_) (fun b3 h => ?_)
 ·refine zI<|zC<|zA (zD rfl)<|zG<|zd ?_
  cases h
  exact zy (zAl rfl rfl)
 refine zS ?_
 refine zAA (r:=r) (fun (d1:List Int)=>mkE [(5,(AV.ptr 0 0)),(8,(li x4)),(9,(AV.ptr 1 0))]) (fun d1=>[.box 29 (zF x3.1),.box 42 (cA 64 eI 0 d1)]) (fun d1=>zCb x3 x4 d1) ?_ ?_
 ·
  refine zI<|zC<|zA (zB rfl)<|zA (ze Try.underlying22 rfl)<|zA (zB rfl)<|zG ?_
  refine zV<|z6 (σ:=Int×(List Int)) (fun (i9,d16)=>mkE [(5,(AV.ptr 0 0)),(8,(li x4)),(9,(AV.ptr 1 0)),(50,(ls cI x3.2.1)),(51,(li (x3.2.1.length:Int))),(52,(li i9))]) (fun (i9,d16)=>[.box 29 (zF x3.1),.box 42 (cA 64 eI 0 d16)]) (fun n8 (i9,d16)=>zBm x3 x4 n8 i9 d16) (0,(List.replicate 64 0)) h (fun _=>rfl) (zAZ [1,2] rfl rfl (by kernel_rfl)) ?_
  clear h
  rintro n8 ⟨i9,d16⟩ h
  replace h:zBM x3 x4 (zBm x3 x4 n8) i9 d16=some r:=h
  unfold zBM at h
  refine zI<|zC<|zA (zi rfl rfl)<|zG<|zI ?_
  refine zY h rfl (fun b38 h => ?_) (fun b38 h => ?_)
  ·refine zS<|zI<|zV<|zI<|zC<|zL h fun b39 h => ?_
   refine zA (zm Try.underlying22 Try.sizeOf3 (fun _=>rfl) rfl rfl b39)<|zA (zo (o:=0) Try.isAgg3 rfl rfl)<|zA (zD rfl)<|zG<|zI<|zI ?_
   refine zC<|zA (zB rfl)<|zA (zi rfl rfl)<|zA (zB rfl)<|zZ rfl rfl (fun c12=>zv.step (zB rfl))<|zZ rfl rfl (fun c13=>zv.step (zB rfl)) ?_
   refine zZ rfl rfl (fun c14=>zv.step (zBp (zAQ rfl c14) (zAQ rfl c14)))<|zA (zh rfl rfl)<|zA (zB rfl)<|zZ rfl rfl (fun c15=>zv.step (zR (k:=0) (o:=0) (m:=5) Try.isAgg29 Try.sizeOf29 rfl rfl rfl rfl rfl))<|zZ rfl rfl (fun c16=>zv.step (zB rfl))<|zQ h fun x6 w6 h => ?_
   refine zDa (g:=63) (s:=(decide ((at_ x3.2.1 i9)<0))||(decide (x4≤(at_ x3.2.1 i9)))) (r':=(AV.lit (.bool x6))) rfl rfl (fun c17=>⟨14,_,_,[],[(AV.agg (zF x3.1)),(li (at_ x3.2.1 i9))],[(AV.agg (zF x3.1)),(li (at_ x3.2.1 i9))],(AV.lit (.bool x6)),[],Try.func14,rfl,by kernel_rfl,.fn 14,(zAe (zAQ rfl c17) (zAe (zAQ rfl c17) rfl)),⟨zBI.nr rfl,zBI.nr rfl,trivial⟩,zGa (zIL c17 w6),.inl rfl,rfl⟩)<|zA (zh rfl rfl)<|zG ?_
   refine zY h rfl (fun b40 h => ?_) (fun b40 h => ?_)
   ·refine zI<|zC<|zA (zD rfl)<|zG<|zd ?_
    cases h
    exact zy (zAl rfl rfl)
   refine zS<|zC<|zA (zB rfl)<|zL h fun b41 h=>zA (zAP (m:=64) (s:=1) (i:=at_ x3.2.1 i9) (k:=1) (o:=0) Try.underlying42 Try.sizeOf3 rfl rfl b41)<|zA (zG0 (k:=1) (o:=(0+(at_ x3.2.1 i9).toNat*1)) (g:=eI) (d0:=0) (l:=d16) (N:=64) (i:=(at_ x3.2.1 i9).toNat) (a:=(li (d16.getD (at_ x3.2.1 i9).toNat 0))) Try.isAgg3 rfl rfl (congrArg (fun q=>0+q) (Nat.mul_one _)) (zBt b41).2 rfl rfl) ?_
   refine zL h fun b42 h=>zA (zg rfl rfl b42)<|zA (zAP (m:=64) (s:=1) (i:=at_ x3.2.1 i9) (k:=1) (o:=0) Try.underlying42 Try.sizeOf3 rfl rfl b41)<|za (H':=[.box 29 (zF x3.1),.box 42 (cA 64 eI 0 (zDY 64 0 d16 (at_ x3.2.1 i9).toNat ((d16.getD (at_ x3.2.1 i9).toNat 0)+1)))]) (zHl (k:=1) (o:=(0+(at_ x3.2.1 i9).toNat*1)) (g:=eI) (d0:=0) (l:=d16) (N:=64) (i:=(at_ x3.2.1 i9).toNat) (v:=(d16.getD (at_ x3.2.1 i9).toNat 0)+1) (a:=(li ((d16.getD (at_ x3.2.1 i9).toNat 0)+1))) Try.sizeOf3 rfl rfl (congrArg (fun q=>0+q) (Nat.mul_one _)) (zBt b41).2 rfl rfl rfl)<|zG<|zC ?_
   refine zL h fun b43 h=>zA (zg rfl rfl b43)<|zA (zB rfl)<|zG ?_
   exact ⟨((i9+1),(zDY 64 0 d16 (at_ x3.2.1 i9).toNat ((d16.getD (at_ x3.2.1 i9).toNat 0)+1))),zAZ [0,1] rfl rfl (by kernel_rfl),h⟩
  refine zAC ?_
  exact ⟨d16,zAZ [0,1] rfl rfl (by kernel_rfl),h⟩
 clear h
 intro d1 h
 unfold zCb at h
 refine zAA (r:=r) (fun (d2:List Int)=>mkE [(5,(AV.ptr 0 0)),(8,(li x4)),(9,(AV.ptr 1 0))]) (fun d2=>[.box 29 (zF x3.1),.box 42 (cA 64 eI 0 d2)]) (fun d2=>zCI x3 x4 d2) ?_ ?_
 ·
  refine zI<|zC<|zA (zM Try.underlying29 rfl rfl Try.sizeOf26 rfl)<|zA (zN Try.isAgg26 rfl rfl rfl rfl)<|zA (ze Try.underlying26 rfl)<|zA (zB rfl) ?_
  refine zG<|zV<|z6 (σ:=Int×(List Int)) (fun (i5,d9)=>mkE [(5,(AV.ptr 0 0)),(8,(li x4)),(9,(AV.ptr 1 0)),(75,(ls zO x3.1.zones)),(76,(li (x3.1.zones.length:Int))),(77,(li i5))]) (fun (i5,d9)=>[.box 29 (zF x3.1),.box 42 (cA 64 eI 0 d9)]) (fun n4 (i5,d9)=>zx x3 x4 n4 i5 d9) (0,d1) h (fun _=>rfl) (zAZ [0,1] rfl rfl (by kernel_rfl)) ?_
  clear h
  rintro n4 ⟨i5,d9⟩ h
  replace h:zBQ x3 x4 (zx x3 x4 n4) i5 d9=some r:=h
  unfold zBQ at h
  refine zI<|zC<|zA (zi rfl rfl)<|zG<|zI ?_
  refine zY h rfl (fun b20 h => ?_) (fun b20 h => ?_)
  ·refine zS ?_
   refine zAA (r:=r) (fun (d10:List Int)=>mkE [(5,(AV.ptr 0 0)),(8,(li x4)),(9,(AV.ptr 1 0)),(75,(ls zO x3.1.zones)),(76,(li (x3.1.zones.length:Int))),(77,(li i5))]) (fun d10=>[.box 29 (zF x3.1),.box 42 (cA 64 eI 0 d10)]) (fun d10=>zDM (zx x3 x4 n4) i5 d10) ?_ ?_
   ·
    refine zV<|zI<|zC<|zL h fun b22 h=>zA (zm Try.underlying26 Try.sizeOf46 (fun _=>rfl) rfl rfl b22)<|zA (zBB (row:=(zO (at_ x3.1.zones i5))) (o:=0) (m:=10) (la:=(zO (at_ x3.1.zones i5))) Try.isAgg46 Try.sizeOf46 rfl rfl rfl) ?_
    refine zX (H':=[.box 29 (zF x3.1),.box 42 (cA 64 eI 0 d9),.box 46 (zO ⟨0,0,0,0,0,(List.replicate 5 ([]:List Int))⟩)]) zv0<|za (H':=[.box 29 (zF x3.1),.box 42 (cA 64 eI 0 d9),.box 46 (zO (at_ x3.1.zones i5))]) (zT (k:=2) (o:=0) (cs:=(zO ⟨0,0,0,0,0,(List.replicate 5 ([]:List Int))⟩)) (la:=(zO (at_ x3.1.zones i5))) Try.sizeOf46 rfl rfl rfl rfl)<|zG<|zI<|zC<|zA (zB rfl) ?_
    refine zG<|zV<|z6 (σ:=Int×(List Int)) (fun (i6,d11)=>mkE [(5,(AV.ptr 0 0)),(8,(li x4)),(9,(AV.ptr 1 0)),(13,(AV.ptr 2 0)),(75,(ls zO x3.1.zones)),(76,(li (x3.1.zones.length:Int))),(77,(li i5)),(81,(li i6))]) (fun (i6,d11)=>[.box 29 (zF x3.1),.box 42 (cA 64 eI 0 d11),.box 46 (zO (at_ x3.1.zones i5))]) (fun n5 (i6,d11)=>zAG (zx x3 x4 n4) x3 x4 i5 n5 i6 d11) (0,d9) h (fun _=>rfl) (zAZ [0,1,2] rfl rfl (by kernel_rfl)) ?_
    clear h
    rintro n5 ⟨i6,d11⟩ h
    replace h:zBN (zx x3 x4 n4) x3 x4 i5 (zAG (zx x3 x4 n4) x3 x4 i5 n5) i6 d11=some r:=h
    unfold zBN at h
    refine zI<|zC<|zA (zi rfl rfl)<|zG<|zI ?_
    refine zY h rfl (fun b23 h => ?_) (fun b23 h => ?_)
    ·refine zS ?_
     refine zAA (r:=r) (fun (d12:List Int)=>mkE [(5,(AV.ptr 0 0)),(8,(li x4)),(9,(AV.ptr 1 0)),(13,(AV.ptr 2 0)),(75,(ls zO x3.1.zones)),(76,(li (x3.1.zones.length:Int))),(77,(li i5)),(81,(li i6))]) (fun d12=>[.box 29 (zF x3.1),.box 42 (cA 64 eI 0 d12),.box 46 (zO (at_ x3.1.zones i5))]) (fun d12=>zDR (zAG (zx x3 x4 n4) x3 x4 i5 n5) i6 d12) ?_ ?_
     ·
      refine zV<|zI<|zC<|zA (zB rfl)<|zA (zD rfl)<|zG ?_
      refine zI<|zC<|zA (zB rfl)<|zA (zM Try.underlying46 rfl rfl Try.sizeOf44 rfl)<|zL h fun b25 h=>zA (zAP (m:=5) (s:=1) (i:=i6) (k:=2) (o:=5) Try.underlying44 Try.sizeOf22 rfl rfl b25) ?_
      refine zA (zCx (k:=2) (o:=(5+i6.toNat*1)) (cs:=(zO (at_ x3.1.zones i5))) (hd:=([(li ((at_ x3.1.zones i5).node))]++[(li ((at_ x3.1.zones i5).kind))]++[(li ((at_ x3.1.zones i5).start))]++[(li ((at_ x3.1.zones i5).count))]++[(li ((at_ x3.1.zones i5).min))]++[])) (tl:=([])) (g:=(eS cI)) (d0:=([]:List Int)) (l:=(at_ x3.1.zones i5).free) (N:=5) (i:=i6.toNat) (a:=(ls cI (((at_ x3.1.zones i5).free).getD i6.toNat ([]:List Int)))) Try.isAgg22 rfl rfl rfl (congrArg (fun q=>5+q) (Nat.mul_one _)) (zBt b25).2 rfl rfl)<|zA (ze Try.underlying22 rfl)<|zA (zB rfl)<|zG<|zV<|z6 (σ:=Int×(List Int)) (fun (i7,d13)=>mkE [(5,(AV.ptr 0 0)),(8,(li x4)),(9,(AV.ptr 1 0)),(13,(AV.ptr 2 0)),(14,(li i6)),(75,(ls zO x3.1.zones)),(76,(li (x3.1.zones.length:Int))),(77,(li i5)),(81,(li i6)),(87,(ls cI (((at_ x3.1.zones i5).free).getD i6.toNat ([]:List Int)))),(88,(li ((((at_ x3.1.zones i5).free).getD i6.toNat ([]:List Int)).length:Int))),(89,(li i7))]) (fun (i7,d13)=>[.box 29 (zF x3.1),.box 42 (cA 64 eI 0 d13),.box 46 (zO (at_ x3.1.zones i5))]) (fun n6 (i7,d13)=>zAj (zAG (zx x3 x4 n4) x3 x4 i5 n5) x3 x4 i5 i6 n6 i7 d13) (0,d11) h (fun _=>rfl) (zAZ [0,1,2] rfl rfl (by kernel_rfl)) ?_
      clear h
      rintro n6 ⟨i7,d13⟩ h
      replace h:zBL (zAG (zx x3 x4 n4) x3 x4 i5 n5) x3 x4 i5 i6 (zAj (zAG (zx x3 x4 n4) x3 x4 i5 n5) x3 x4 i5 i6 n6) i7 d13=some r:=h
      unfold zBL at h
      refine zI<|zC<|zA (zi rfl rfl)<|zG<|zI ?_
      refine zY h rfl (fun b26 h => ?_) (fun b26 h => ?_)
      ·refine zS ?_
       refine zAA (r:=r) (fun (d14:List Int)=>mkE [(5,(AV.ptr 0 0)),(8,(li x4)),(9,(AV.ptr 1 0)),(13,(AV.ptr 2 0)),(14,(li i6)),(75,(ls zO x3.1.zones)),(76,(li (x3.1.zones.length:Int))),(77,(li i5)),(81,(li i6)),(87,(ls cI (((at_ x3.1.zones i5).free).getD i6.toNat ([]:List Int)))),(88,(li ((((at_ x3.1.zones i5).free).getD i6.toNat ([]:List Int)).length:Int))),(89,(li i7))]) (fun d14=>[.box 29 (zF x3.1),.box 42 (cA 64 eI 0 d14),.box 46 (zO (at_ x3.1.zones i5))]) (fun d14=>zDP (zAj (zAG (zx x3 x4 n4) x3 x4 i5 n5) x3 x4 i5 i6 n6) i7 d14) ?_ ?_
       ·
        refine zV<|zI<|zC<|zL h fun b28 h=>zA (zm Try.underlying22 Try.sizeOf3 (fun _=>rfl) rfl rfl b28)<|zA (zo (o:=0) Try.isAgg3 rfl rfl) ?_
        refine zA (zD rfl)<|zG<|zI<|zC<|zA (zB rfl)<|zA (zD rfl) ?_
        refine zG<|zV<|z6 (σ:=Int×(List Int)) (fun (i8,d15)=>mkE [(5,(AV.ptr 0 0)),(8,(li x4)),(9,(AV.ptr 1 0)),(13,(AV.ptr 2 0)),(14,(li i6)),(16,(li (at_ (((at_ x3.1.zones i5).free).getD i6.toNat ([]:List Int)) i7))),(17,(li i8)),(75,(ls zO x3.1.zones)),(76,(li (x3.1.zones.length:Int))),(77,(li i5)),(81,(li i6)),(87,(ls cI (((at_ x3.1.zones i5).free).getD i6.toNat ([]:List Int)))),(88,(li ((((at_ x3.1.zones i5).free).getD i6.toNat ([]:List Int)).length:Int))),(89,(li i7))]) (fun (i8,d15)=>[.box 29 (zF x3.1),.box 42 (cA 64 eI 0 d15),.box 46 (zO (at_ x3.1.zones i5))]) (fun n7 (i8,d15)=>zCa (zAj (zAG (zx x3 x4 n4) x3 x4 i5 n5) x3 x4 i5 i6 n6) x3 x4 i5 i6 i7 n7 i8 d15) ((at_ (((at_ x3.1.zones i5).free).getD i6.toNat ([]:List Int)) i7),d13) h (fun _=>rfl) (zAZ [0,1,2] rfl rfl (by kernel_rfl)) ?_
        clear h
        rintro n7 ⟨i8,d15⟩ h
        replace h:zBR (zAj (zAG (zx x3 x4 n4) x3 x4 i5 n5) x3 x4 i5 i6 n6) x3 x4 i5 i6 i7 (zCa (zAj (zAG (zx x3 x4 n4) x3 x4 i5 n5) x3 x4 i5 i6 n6) x3 x4 i5 i6 i7 n7) i8 d15=some r:=h
        unfold zBR at h
        refine zI<|zI<|zC<|zA (zB rfl)<|zA (zB rfl)<|zA (zB rfl) ?_
        refine zL h fun b29 h=>zA (zFr (k' := .u64) (a:=i6) Try.underlying3 Try.underlying47 rfl b29)<|zL h fun b30 h=>zL h fun b31 h=>zA (zGW (a:=1) (b:=i6) rfl rfl b30 b31)<|zL h fun b32 h => ?_
        refine zA (zg rfl rfl b32)<|zA (zi rfl rfl)<|zG ?_
        refine zY h rfl (fun b33 h => ?_) (fun b33 h => ?_)
        ·refine zS<|zI<|zV<|zI<|zI<|zC ?_
         refine zA (zB rfl)<|zA (zi rfl rfl)<|zA (zB rfl)<|zZ rfl rfl (fun c9=>zv.step (zB rfl))<|zZ rfl rfl (fun c10=>zv.step (zB rfl))<|zZ rfl rfl (fun c11=>zv.step (zBp (zAQ rfl c11) (zAQ rfl c11))) ?_
         refine zA (zh rfl rfl)<|zG ?_
         refine zY h rfl (fun b34 h => ?_) (fun b34 h => ?_)
         ·refine zI<|zC<|zA (zD rfl)<|zG<|zd ?_
          cases h
          exact zy (zAl rfl rfl)
         refine zS<|zC<|zA (zB rfl)<|zL h fun b35 h=>zA (zAP (m:=64) (s:=1) (i:=i8) (k:=1) (o:=0) Try.underlying42 Try.sizeOf3 rfl rfl b35)<|zA (zG0 (k:=1) (o:=(0+i8.toNat*1)) (g:=eI) (d0:=0) (l:=d15) (N:=64) (i:=i8.toNat) (a:=(li (d15.getD i8.toNat 0))) Try.isAgg3 rfl rfl (congrArg (fun q=>0+q) (Nat.mul_one _)) (zBt b35).2 rfl rfl) ?_
         refine zL h fun b36 h=>zA (zg rfl rfl b36)<|zA (zAP (m:=64) (s:=1) (i:=i8) (k:=1) (o:=0) Try.underlying42 Try.sizeOf3 rfl rfl b35)<|za (H':=[.box 29 (zF x3.1),.box 42 (cA 64 eI 0 (zDY 64 0 d15 i8.toNat ((d15.getD i8.toNat 0)+1))),.box 46 (zO (at_ x3.1.zones i5))]) (zHl (k:=1) (o:=(0+i8.toNat*1)) (g:=eI) (d0:=0) (l:=d15) (N:=64) (i:=i8.toNat) (v:=(d15.getD i8.toNat 0)+1) (a:=(li ((d15.getD i8.toNat 0)+1))) Try.sizeOf3 rfl rfl (congrArg (fun q=>0+q) (Nat.mul_one _)) (zBt b35).2 rfl rfl rfl)<|zG<|zC ?_
         refine zA (zB rfl)<|zL h fun b37 h=>zA (zg rfl rfl b37)<|zA (zD rfl)<|zG ?_
         exact ⟨((i8+1),(zDY 64 0 d15 i8.toNat ((d15.getD i8.toNat 0)+1))),zAZ [0,1,2] rfl rfl (by kernel_rfl),h⟩
        refine zAC ?_
        exact ⟨d15,zAZ [0,1,2] rfl rfl (by kernel_rfl),h⟩
       clear h
       intro d14 h
       unfold zDP at h
       refine zC<|zL h fun b27 h=>zA (zg rfl rfl b27)<|zA (zB rfl)<|zG ?_
       exact ⟨((i7+1),d14),zAZ [0,1,2] rfl rfl (by kernel_rfl),h⟩
      refine zAC ?_
      exact ⟨d13,zAZ [0,1,2] rfl rfl (by kernel_rfl),h⟩
     clear h
     intro d12 h
     unfold zDR at h
     refine zC<|zL h fun b24 h=>zA (zg rfl rfl b24)<|zA (zB rfl)<|zG ?_
     exact ⟨((i6+1),d12),zAZ [0,1,2] rfl rfl (by kernel_rfl),h⟩
    refine zAC ?_
    exact ⟨d11,zAZ [0,1] rfl rfl (by kernel_rfl),h⟩
   clear h
   intro d10 h
   unfold zDM at h
   refine zC<|zL h fun b21 h=>zA (zg rfl rfl b21)<|zA (zB rfl)<|zG ?_
   exact ⟨((i5+1),d10),zAZ [0,1] rfl rfl (by kernel_rfl),h⟩
  refine zAC ?_
  exact ⟨d9,zAZ [0,1] rfl rfl (by kernel_rfl),h⟩
 clear h
 intro d2 h
 unfold zCI at h
 refine zAA (r:=r) (fun (d3:List Int)=>mkE [(5,(AV.ptr 0 0)),(8,(li x4)),(9,(AV.ptr 1 0))]) (fun d3=>[.box 29 (zF x3.1),.box 42 (cA 64 eI 0 d3)]) (fun d3=>zDT x3 x4 d3) ?_ ?_
 ·
  refine zI<|zC<|zA (zM Try.underlying29 rfl rfl Try.sizeOf27 rfl)<|zA (zN Try.isAgg27 rfl rfl rfl rfl)<|zA (ze Try.underlying27 rfl)<|zA (zB rfl) ?_
  refine zG<|zV<|z6 (σ:=Int×(List Int)) (fun (i2,d4)=>mkE [(5,(AV.ptr 0 0)),(8,(li x4)),(9,(AV.ptr 1 0)),(119,(ls zJ x3.1.caches)),(120,(li (x3.1.caches.length:Int))),(121,(li i2))]) (fun (i2,d4)=>[.box 29 (zF x3.1),.box 42 (cA 64 eI 0 d4)]) (fun n1 (i2,d4)=>zAI x3 x4 n1 i2 d4) (0,d2) h (fun _=>rfl) (zAZ [0,1] rfl rfl (by kernel_rfl)) ?_
  clear h
  rintro n1 ⟨i2,d4⟩ h
  replace h:zBS x3 x4 (zAI x3 x4 n1) i2 d4=some r:=h
  unfold zBS at h
  refine zI<|zC<|zA (zi rfl rfl)<|zG<|zI ?_
  refine zY h rfl (fun b8 h => ?_) (fun b8 h => ?_)
  ·refine zS ?_
   refine zAA (r:=r) (fun (d5:List Int)=>mkE [(5,(AV.ptr 0 0)),(8,(li x4)),(9,(AV.ptr 1 0)),(119,(ls zJ x3.1.caches)),(120,(li (x3.1.caches.length:Int))),(121,(li i2))]) (fun d5=>[.box 29 (zF x3.1),.box 42 (cA 64 eI 0 d5)]) (fun d5=>zDN (zAI x3 x4 n1) i2 d5) ?_ ?_
   ·
    refine zV<|zI<|zC<|zL h fun b10 h=>zA (zm Try.underlying27 Try.sizeOf50 (fun _=>rfl) rfl rfl b10)<|zA (zBB (row:=(zJ (at_ x3.1.caches i2))) (o:=0) (m:=1) (la:=(zJ (at_ x3.1.caches i2))) Try.isAgg50 Try.sizeOf50 rfl rfl rfl) ?_
    refine zX (H':=[.box 29 (zF x3.1),.box 42 (cA 64 eI 0 d4),.box 50 [(ls (cS cI) ([]:List (List Int)))]]) zv1<|za (H':=[.box 29 (zF x3.1),.box 42 (cA 64 eI 0 d4),.box 50 (zJ (at_ x3.1.caches i2))]) (zT (k:=2) (o:=0) (cs:=[(ls (cS cI) ([]:List (List Int)))]) (la:=(zJ (at_ x3.1.caches i2))) Try.sizeOf50 rfl rfl rfl rfl)<|zG<|zI<|zC<|zA (zM Try.underlying50 rfl rfl Try.sizeOf48 rfl) ?_
    refine zA (zN Try.isAgg48 rfl rfl rfl rfl)<|zA (ze Try.underlying48 rfl)<|zA (zB rfl)<|zG<|zV<|z6 (σ:=Int×(List Int)) (fun (i3,d6)=>mkE [(5,(AV.ptr 0 0)),(8,(li x4)),(9,(AV.ptr 1 0)),(119,(ls zJ x3.1.caches)),(120,(li (x3.1.caches.length:Int))),(121,(li i2)),(126,(ls (cS cI) ((at_ x3.1.caches i2).lists))),(127,(li (((at_ x3.1.caches i2).lists).length:Int))),(128,(li i3))]) (fun (i3,d6)=>[.box 29 (zF x3.1),.box 42 (cA 64 eI 0 d6)]) (fun n2 (i3,d6)=>zAk (zAI x3 x4 n1) x3 x4 i2 n2 i3 d6) (0,d4) h (fun _=>rfl) (zAZ [0,1] rfl rfl (by kernel_rfl)) ?_
    clear h
    rintro n2 ⟨i3,d6⟩ h
    replace h:zBU (zAI x3 x4 n1) x3 x4 i2 (zAk (zAI x3 x4 n1) x3 x4 i2 n2) i3 d6=some r:=h
    unfold zBU at h
    refine zI<|zC<|zA (zi rfl rfl)<|zG<|zI ?_
    refine zY h rfl (fun b11 h => ?_) (fun b11 h => ?_)
    ·refine zS ?_
     refine zAA (r:=r) (fun (d7:List Int)=>mkE [(5,(AV.ptr 0 0)),(8,(li x4)),(9,(AV.ptr 1 0)),(119,(ls zJ x3.1.caches)),(120,(li (x3.1.caches.length:Int))),(121,(li i2)),(126,(ls (cS cI) ((at_ x3.1.caches i2).lists))),(127,(li (((at_ x3.1.caches i2).lists).length:Int))),(128,(li i3))]) (fun d7=>[.box 29 (zF x3.1),.box 42 (cA 64 eI 0 d7)]) (fun d7=>zDH (zAk (zAI x3 x4 n1) x3 x4 i2 n2) i3 d7) ?_ ?_
     ·
      refine zV<|zI<|zC<|zL h fun b13 h=>zA (zm Try.underlying48 Try.sizeOf22 (fun _=>rfl) rfl rfl b13)<|zA (zo (o:=0) Try.isAgg22 rfl rfl) ?_
      refine zA (zD rfl)<|zG<|zI<|zC<|zA (zB rfl)<|zA (ze Try.underlying22 rfl) ?_
      refine zA (zB rfl)<|zG<|zV<|z6 (σ:=Int×(List Int)) (fun (i4,d8)=>mkE [(5,(AV.ptr 0 0)),(8,(li x4)),(9,(AV.ptr 1 0)),(119,(ls zJ x3.1.caches)),(120,(li (x3.1.caches.length:Int))),(121,(li i2)),(126,(ls (cS cI) ((at_ x3.1.caches i2).lists))),(127,(li (((at_ x3.1.caches i2).lists).length:Int))),(128,(li i3)),(132,(ls cI (at_ ((at_ x3.1.caches i2).lists) i3))),(133,(li ((at_ ((at_ x3.1.caches i2).lists) i3).length:Int))),(134,(li i4))]) (fun (i4,d8)=>[.box 29 (zF x3.1),.box 42 (cA 64 eI 0 d8)]) (fun n3 (i4,d8)=>zCN (zAk (zAI x3 x4 n1) x3 x4 i2 n2) x3 x4 i2 i3 n3 i4 d8) (0,d6) h (fun _=>rfl) (zAZ [0,1] rfl rfl (by kernel_rfl)) ?_
      clear h
      rintro n3 ⟨i4,d8⟩ h
      replace h:zBT (zAk (zAI x3 x4 n1) x3 x4 i2 n2) x3 x4 i2 i3 (zCN (zAk (zAI x3 x4 n1) x3 x4 i2 n2) x3 x4 i2 i3 n3) i4 d8=some r:=h
      unfold zBT at h
      refine zI<|zC<|zA (zi rfl rfl)<|zG<|zI ?_
      refine zY h rfl (fun b14 h => ?_) (fun b14 h => ?_)
      ·refine zS<|zI<|zV<|zI<|zC<|zL h fun b15 h => ?_
       refine zA (zm Try.underlying22 Try.sizeOf3 (fun _=>rfl) rfl rfl b15)<|zA (zo (o:=0) Try.isAgg3 rfl rfl)<|zA (zD rfl)<|zG<|zI<|zI ?_
       refine zC<|zA (zB rfl)<|zA (zi rfl rfl)<|zA (zB rfl)<|zZ rfl rfl (fun c6=>zv.step (zB rfl))<|zZ rfl rfl (fun c7=>zv.step (zB rfl)) ?_
       refine zZ rfl rfl (fun c8=>zv.step (zBp (zAQ rfl c8) (zAQ rfl c8)))<|zA (zh rfl rfl)<|zG ?_
       refine zY h rfl (fun b16 h => ?_) (fun b16 h => ?_)
       ·refine zI<|zC<|zA (zD rfl)<|zG<|zd ?_
        cases h
        exact zy (zAl rfl rfl)
       refine zS<|zC<|zA (zB rfl)<|zL h fun b17 h=>zA (zAP (m:=64) (s:=1) (i:=at_ (at_ ((at_ x3.1.caches i2).lists) i3) i4) (k:=1) (o:=0) Try.underlying42 Try.sizeOf3 rfl rfl b17)<|zA (zG0 (k:=1) (o:=(0+(at_ (at_ ((at_ x3.1.caches i2).lists) i3) i4).toNat*1)) (g:=eI) (d0:=0) (l:=d8) (N:=64) (i:=(at_ (at_ ((at_ x3.1.caches i2).lists) i3) i4).toNat) (a:=(li (d8.getD (at_ (at_ ((at_ x3.1.caches i2).lists) i3) i4).toNat 0))) Try.isAgg3 rfl rfl (congrArg (fun q=>0+q) (Nat.mul_one _)) (zBt b17).2 rfl rfl) ?_
       refine zL h fun b18 h=>zA (zg rfl rfl b18)<|zA (zAP (m:=64) (s:=1) (i:=at_ (at_ ((at_ x3.1.caches i2).lists) i3) i4) (k:=1) (o:=0) Try.underlying42 Try.sizeOf3 rfl rfl b17)<|za (H':=[.box 29 (zF x3.1),.box 42 (cA 64 eI 0 (zDY 64 0 d8 (at_ (at_ ((at_ x3.1.caches i2).lists) i3) i4).toNat ((d8.getD (at_ (at_ ((at_ x3.1.caches i2).lists) i3) i4).toNat 0)+1)))]) (zHl (k:=1) (o:=(0+(at_ (at_ ((at_ x3.1.caches i2).lists) i3) i4).toNat*1)) (g:=eI) (d0:=0) (l:=d8) (N:=64) (i:=(at_ (at_ ((at_ x3.1.caches i2).lists) i3) i4).toNat) (v:=(d8.getD (at_ (at_ ((at_ x3.1.caches i2).lists) i3) i4).toNat 0)+1) (a:=(li ((d8.getD (at_ (at_ ((at_ x3.1.caches i2).lists) i3) i4).toNat 0)+1))) Try.sizeOf3 rfl rfl (congrArg (fun q=>0+q) (Nat.mul_one _)) (zBt b17).2 rfl rfl rfl)<|zG<|zC ?_
       refine zL h fun b19 h=>zA (zg rfl rfl b19)<|zA (zB rfl)<|zG ?_
       exact ⟨((i4+1),(zDY 64 0 d8 (at_ (at_ ((at_ x3.1.caches i2).lists) i3) i4).toNat ((d8.getD (at_ (at_ ((at_ x3.1.caches i2).lists) i3) i4).toNat 0)+1))),zAZ [0,1] rfl rfl (by kernel_rfl),h⟩
      refine zAC ?_
      exact ⟨d8,zAZ [0,1] rfl rfl (by kernel_rfl),h⟩
     clear h
     intro d7 h
     unfold zDH at h
     refine zC<|zL h fun b12 h=>zA (zg rfl rfl b12)<|zA (zB rfl)<|zG ?_
     exact ⟨((i3+1),d7),zAZ [0,1] rfl rfl (by kernel_rfl),h⟩
    refine zAC ?_
    exact ⟨d6,zAZ [0,1] rfl rfl (by kernel_rfl),h⟩
   clear h
   intro d5 h
   unfold zDN at h
   refine zC<|zL h fun b9 h=>zA (zg rfl rfl b9)<|zA (zB rfl)<|zG ?_
   exact ⟨((i2+1),d5),zAZ [0,1] rfl rfl (by kernel_rfl),h⟩
  refine zAC ?_
  exact ⟨d4,zAZ [0,1] rfl rfl (by kernel_rfl),h⟩
 clear h
 intro d3 h
 unfold zDT at h
 refine zAA (r:=r) (fun (_:Unit)=>mkE [(5,(AV.ptr 0 0))]) (fun _=>[.box 29 (zF x3.1)]) (fun _=>zDK x3) ?_ ?_
 ·
  refine zI<|zC<|zA (zB rfl)<|zA (zB rfl)<|zG<|zV ?_
  refine z6 (σ:=Int) (fun i1=>mkE [(5,(AV.ptr 0 0)),(9,(AV.ptr 1 0)),(153,(li x4)),(154,(li i1))]) (fun i1=>[.box 29 (zF x3.1),.box 42 (cA 64 eI 0 d3)]) (fun n0 i1=>zCK x3 x4 d3 n0 i1) 0 h (fun _=>rfl) (zAZ [0,1] rfl rfl (by kernel_rfl)) ?_
  clear h
  intro n0 i1 h
  replace h:zBP x3 x4 d3 (zCK x3 x4 d3 n0) i1=some r:=h
  unfold zBP at h
  refine zI<|zC<|zA (zi rfl rfl)<|zG<|zI ?_
  refine zY h rfl (fun b4 h => ?_) (fun b4 h => ?_)
  ·refine zS<|zI<|zV<|zI<|zC<|zA (zB rfl) ?_
   refine zA (zD rfl)<|zG<|zI<|zC<|zA (zB rfl)<|zL h fun b5 h => ?_
   refine zA (zAP (m:=64) (s:=1) (i:=i1) (k:=1) (o:=0) Try.underlying42 Try.sizeOf3 rfl rfl b5)<|zA (zG0 (k:=1) (o:=(0+i1.toNat*1)) (g:=eI) (d0:=0) (l:=d3) (N:=64) (i:=i1.toNat) (a:=(li (d3.getD i1.toNat 0))) Try.isAgg3 rfl rfl (congrArg (fun q=>0+q) (Nat.mul_one _)) (zBt b5).2 rfl rfl)<|zA (z7 rfl rfl)<|zG ?_
   refine zY h rfl (fun b6 h => ?_) (fun b6 h => ?_)
   ·refine zI<|zC<|zA (zD rfl)<|zG<|zd ?_
    cases h
    exact zy (zAl rfl rfl)
   refine zS<|zC<|zL h fun b7 h=>zA (zg rfl rfl b7)<|zA (zB rfl)<|zG ?_
   exact ⟨(i1+1),zAZ [0,1] rfl rfl (by kernel_rfl),h⟩
  refine zAC ?_
  exact ⟨(),zAZ [0] rfl rfl (by kernel_rfl),h⟩
 clear h
 intro _ h
 unfold zDK at h
 refine zI<|zC<|zA (zR (k:=0) (o:=0) (m:=5) Try.isAgg29 Try.sizeOf29 rfl rfl rfl rfl rfl)<|zQ h fun x5 w5 h=>zb Try.func15 rfl (by kernel_rfl) (.fn 15) rfl rfl (zA2 w5) rfl<|zA (zBe rfl rfl) ?_
 refine zA (zD rfl)<|zG<|zd ?_
 cases h
 exact zy (zAl rfl rfl)
end Go.Proofs.Ytplkliakhdkpcaa
