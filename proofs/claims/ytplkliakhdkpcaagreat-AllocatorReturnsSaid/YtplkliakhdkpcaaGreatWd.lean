/-
  The program computes what these functions give, part d.
-/
import Derived.Test.YtplkliakhdkpcaaGreatWc
set_option linter.unusedVariables false
set_option linter.unusedSimpArgs false
namespace Go.Proofs.YtplkliakhdkpcaaGreat
open Go Go.RowKit Go.Wk Go.Am Go.Proofs Tryz
set_option maxHeartbeats 4000000
theorem zNM {a_p0:zo} {a_p1:List Int} {r:zo} (h:zG0 a_p0 a_p1=some r):PFn prog 121 [(AV.agg (zO a_p0)),ls cI a_p1] (AV.agg (zO r)):=by
 refine zq func121 rfl ntmps121 results121 rfl ?_
 unfold zG0 at h
 refine zH<|zC<|za (H':=[.box 51 (zO a_p0)]) (zw (t:=51) rfl)<|za (H':=[.box 51 (zO a_p0),.box 51 (zO ⟨0,0,0,0,0,(List.replicate 5 ([]:List Int))⟩)]) (zu (t:=51) (vs:=[.int .i64 0,.int .i64 0,.int .i64 0,.int .i64 0,.int .i64 0,.slice none 0 0,.slice none 0 0,.slice none 0 0,.slice none 0 0,.slice none 0 0]) (cs:=[.lit (.int .i64 0),.lit (.int .i64 0),.lit (.int .i64 0),.lit (.int .i64 0),.lit (.int .i64 0),.sl false [],.sl false [],.sl false [],.sl false [],.sl false []]) zeroValue51 (by kernel_rfl) rfl ⟨zf.refl _,zf.refl _,zf.refl _,zf.refl _,zf.refl _,zf.nils,zf.nils,zf.nils,zf.nils,zf.nils,trivial⟩)<|zF<|zH ?_
 refine zC<|zA (zK underlying51 rfl rfl sizeOf3 rfl)<|zA (zN isAgg3 rfl rfl rfl rfl)<|zA (zK underlying51 rfl rfl sizeOf3 rfl)<|zA (zN isAgg3 rfl rfl rfl rfl)<|zA (zK underlying51 rfl rfl sizeOf3 rfl) ?_
 refine zA (zN isAgg3 rfl rfl rfl rfl)<|zA (zK underlying51 rfl rfl sizeOf3 rfl)<|zA (zN isAgg3 rfl rfl rfl rfl)<|zA (zK underlying51 rfl rfl sizeOf3 rfl)<|zA (zN isAgg3 rfl rfl rfl rfl)<|zA (z8 (pl:=[(0,1),(1,1),(2,1),(3,1),(4,1),(5,5)]) (zs:=[.int .i64 0,.int .i64 0,.int .i64 0,.int .i64 0,.int .i64 0,.slice none 0 0,.slice none 0 0,.slice none 0 0,.slice none 0 0,.slice none 0 0]) (zc:=[.lit (.int .i64 0),.lit (.int .i64 0),.lit (.int .i64 0),.lit (.int .i64 0),.lit (.int .i64 0),.osl 3 1 [],.osl 3 1 [],.osl 3 1 [],.osl 3 1 [],.osl 3 1 []]) (res:=([li a_p0.node,li a_p0.kind,li a_p0.start,li a_p0.count,li a_p0.min]++((cM 5 3 (5:Int) (List.replicate 5 ([]:List Int)))++[]))) (fun _=>by kernel_rfl) rfl (⟨zf.refl _,⟨zf.refl _,⟨zf.refl _,⟨zf.refl _,⟨zf.refl _,⟨zf.nilo,⟨zf.nilo,⟨zf.nilo,⟨zf.nilo,⟨zf.nilo,trivial⟩⟩⟩⟩⟩⟩⟩⟩⟩⟩) ⟨li a_p0.node,0,1,rfl,rfl,rfl,rfl,rfl,⟨li a_p0.kind,1,1,rfl,rfl,rfl,rfl,rfl,⟨li a_p0.start,2,1,rfl,rfl,rfl,rfl,rfl,⟨li a_p0.count,3,1,rfl,rfl,rfl,rfl,rfl,⟨li a_p0.min,4,1,rfl,rfl,rfl,rfl,rfl,(by exact zFR.refl _)⟩⟩⟩⟩⟩) ?_
 refine za (H':=[.box 51 (zO a_p0),.box 51 (zO ⟨0,0,0,0,0,(List.replicate 5 ([]:List Int))⟩),.box 51 (zO ⟨0,0,0,0,0,(List.replicate 5 ([]:List Int))⟩)]) (zu (t:=51) (vs:=[.int .i64 0,.int .i64 0,.int .i64 0,.int .i64 0,.int .i64 0,.slice none 0 0,.slice none 0 0,.slice none 0 0,.slice none 0 0,.slice none 0 0]) (cs:=[.lit (.int .i64 0),.lit (.int .i64 0),.lit (.int .i64 0),.lit (.int .i64 0),.lit (.int .i64 0),.sl false [],.sl false [],.sl false [],.sl false [],.sl false []]) zeroValue51 (by kernel_rfl) rfl ⟨zf.refl _,zf.refl _,zf.refl _,zf.refl _,zf.refl _,zf.nils,zf.nils,zf.nils,zf.nils,zf.nils,trivial⟩)<|zp (H':=[.box 51 (zO a_p0),.box 51 (zO ⟨0,0,0,0,0,(List.replicate 5 ([]:List Int))⟩),.box 51 ([li a_p0.node,li a_p0.kind,li a_p0.start,li a_p0.count,li a_p0.min]++((cM 5 3 (5:Int) (List.replicate 5 ([]:List Int)))++[]))]) (zX (k:=2) (o:=0) (cs:=(zO ⟨0,0,0,0,0,(List.replicate 5 ([]:List Int))⟩)) (la:=([li a_p0.node,li a_p0.kind,li a_p0.start,li a_p0.count,li a_p0.min]++((cM 5 3 (5:Int) (List.replicate 5 ([]:List Int)))++[]))) sizeOf51 rfl rfl rfl rfl)<|zF<|zH<|zC<|zA (zB rfl) ?_
 refine zA (zZ underlying22 rfl)<|zM h fun hb1 h=>zDu (f:=cI) (a:=(a_p1.length:Int)) (c:=(a_p1.length:Int)) (d0:=0) zHX ⟨zf.refl _,trivial⟩ rfl underlying22 rfl rfl hb1<|zA (zD rfl)<|zF ?_
 refine zx (fun e' H' => ∃ (l1:List Int),Rep 87 0 e' H' (mkE [(2,(AV.ptr 0 0)),(4,(AV.ptr 1 0)),(5,(AV.ptr 2 0)),(6,(AV.hd 3))]) [.box 51 (zO a_p0),.box 51 (zO ⟨0,0,0,0,0,(List.replicate 5 ([]:List Int))⟩),.box 51 ([li a_p0.node,li a_p0.kind,li a_p0.start,li a_p0.count,li a_p0.min]++((cM 5 3 (5:Int) (List.replicate 5 ([]:List Int)))++[])),.vec 3 1 (List.map cI l1)]∧zGl a_p0 l1=some r) ?_ ?_
 ·
  refine zH<|zC<|zA (zD rfl)<|zF<|zQ<|z6 (σ:=Nat×Int×(List Int)) (fun s=>s.1) (fun s e' H'=>match s with | (n3,i4,l12)=>Rep 87 0 e' H' (mkE [(1,(ls cI a_p1)),(2,(AV.ptr 0 0)),(4,(AV.ptr 1 0)),(5,(AV.ptr 2 0)),(6,(AV.hd 3)),(7,(li i4))]) [.box 51 (zO a_p0),.box 51 (zO ⟨0,0,0,0,0,(List.replicate 5 ([]:List Int))⟩),.box 51 ([li a_p0.node,li a_p0.kind,li a_p0.start,li a_p0.count,li a_p0.min]++((cM 5 3 (5:Int) (List.replicate 5 ([]:List Int)))++[])),.vec 3 1 (List.map cI l12)]∧zGj a_p0 a_p1 n3 i4 l12=some r) (z9,0,(List.replicate (a_p1.length:Int).toNat 0)) ⟨zAD [0,1,2,3] rfl rfl (by kernel_rfl),h⟩ ?_
  clear h
  rintro ⟨n3,i4,l12⟩ e' H' ⟨hrep,h⟩
  cases n3 with
  | zero=>exact absurd (show (none:Option _)=some r from h) (by simp)
  | succ n3 =>
   replace h:zEK a_p0 a_p1 (zGj a_p0 a_p1 n3) i4 l12=some r:=h
   unfold zEK at h
   refine zV hrep ?_
   clear hrep
   refine zH<|zH<|zC<|zA (zB rfl)<|zA (zB rfl)<|zA (zZ underlying22 rfl) ?_
   refine zA (zg rfl rfl)<|zF ?_
   refine zY h rfl (fun hb18 h => ?_) (fun hb18 h => ?_)
   ·refine zP<|zH<|zQ<|zC<|zA (zB rfl)<|zA (zB rfl) ?_
    refine zA (zB rfl)<|zA (zB rfl)<|zM h fun hb19 h=>zA (zU underlying22 sizeOf3 (fun _=>rfl) rfl rfl hb19)<|zA (zW (o:=0) isAgg3 rfl rfl)<|zM h fun hb20 h => ?_
    refine zA (zAC (f:=cI) (l:=l12) (i:=i4) underlying22 sizeOf3 rfl rfl rfl hb20)<|zp (H':=[.box 51 (zO a_p0),.box 51 (zO ⟨0,0,0,0,0,(List.replicate 5 ([]:List Int))⟩),.box 51 ([li a_p0.node,li a_p0.kind,li a_p0.start,li a_p0.count,li a_p0.min]++((cM 5 3 (5:Int) (List.replicate 5 ([]:List Int)))++[])),.vec 3 1 (List.map cI (l12.set i4.toNat (at_ a_p1 i4)))]) (zCR (k:=3) (o:=(i4.toNat*1)) (f:=cI) (l:=l12) (i:=i4) (c:=0) (a:=(li (at_ a_p1 i4))) (z:=at_ a_p1 i4) sizeOf3 rfl rfl (by first | rfl | omega) hb20 rfl rfl rfl rfl rfl)<|zF<|zC<|zA (zB rfl)<|zM h fun hb21 h => ?_
    refine zA (ze rfl rfl hb21)<|zA (zD rfl)<|zF ?_
    exact ⟨(n3,(i4+1),(l12.set i4.toNat (at_ a_p1 i4))),Nat.lt_succ_self _,zAD [0,1,2,3] rfl rfl (by kernel_rfl),h⟩
   ·refine zy ?_
    exact ⟨l12,zAD [0,1,2,3] rfl rfl (by kernel_rfl),h⟩
 ·
  clear h
  rintro e' H' ⟨l1,hrep,h⟩
  refine zV hrep ?_
  clear hrep
  unfold zGl at h
  refine zx (fun e' H' => ∃ (l2:List (List Int)),Rep 87 0 e' H' (mkE [(4,(AV.ptr 0 0)),(5,(AV.ptr 1 0))]) [.box 51 (zO ⟨0,0,0,0,0,(List.replicate 5 ([]:List Int))⟩),.box 51 ([li a_p0.node,li a_p0.kind,li a_p0.start,li a_p0.count,li a_p0.min]++((cM 5 3 (5:Int) l2)++[]))]∧zJE a_p0 l2=some r) ?_ ?_
  ·
   refine zH<|zC<|zA (zD rfl)<|zF<|zQ<|z6 (σ:=Nat×Int×(List (List Int))×(List Int)) (fun s=>s.1) (fun s e' H'=>match s with | (n0,i1,l3,l4)=>Rep 87 0 e' H' (mkE [(2,(AV.ptr 0 0)),(4,(AV.ptr 1 0)),(5,(AV.ptr 2 0)),(6,(AV.hd 3)),(8,(li i1))]) [.box 51 (zO a_p0),.box 51 (zO ⟨0,0,0,0,0,(List.replicate 5 ([]:List Int))⟩),.box 51 ([li a_p0.node,li a_p0.kind,li a_p0.start,li a_p0.count,li a_p0.min]++((cM 5 3 (5:Int) l3)++[])),.vec 3 1 (List.map cI l4)]∧zBH a_p0 n0 i1 l3 l4=some r) (z9,4,(List.replicate 5 ([]:List Int)),l1) ⟨zAD [0,1,2,3] rfl rfl (by kernel_rfl),h⟩ ?_
   clear h
   rintro ⟨n0,i1,l3,l4⟩ e' H' ⟨hrep,h⟩
   cases n0 with
   | zero=>exact absurd (show (none:Option _)=some r from h) (by simp)
   | succ n0 =>
    replace h:zEB a_p0 (zBH a_p0 n0) i1 l3 l4=some r:=h
    unfold zEB at h
    refine zV hrep ?_
    clear hrep
    refine zH<|zH<|zC<|zA (zB rfl)<|zA (zAv rfl rfl)<|zF ?_
    refine zY h rfl (fun hb2 h => ?_) (fun hb2 h => ?_)
    ·refine zP ?_
     refine zx (fun e' H' => ∃ (l5:List (List Int)) (l6:List Int),Rep 87 0 e' H' (mkE [(2,(AV.ptr 0 0)),(4,(AV.ptr 1 0)),(5,(AV.ptr 2 0)),(6,(AV.hd 3)),(8,(li i1))]) [.box 51 (zO a_p0),.box 51 (zO ⟨0,0,0,0,0,(List.replicate 5 ([]:List Int))⟩),.box 51 ([li a_p0.node,li a_p0.kind,li a_p0.start,li a_p0.count,li a_p0.min]++((cM 5 3 (5:Int) l5)++[])),.vec 3 1 (List.map cI l6)]∧zHv (zBH a_p0 n0) i1 l5 l6=some r) ?_ ?_
     ·
      refine zQ<|zH<|zC<|zA (zK underlying51 rfl rfl sizeOf3 rfl)<|zA (zN isAgg3 rfl rfl rfl rfl)<|zA (zD rfl) ?_
      refine zF<|zQ<|z6 (σ:=Nat×Int×(List (List Int))×(List Int)) (fun s=>s.1) (fun s e' H'=>match s with | (n1,i2,l7,l8)=>Rep 87 0 e' H' (mkE [(2,(AV.ptr 0 0)),(4,(AV.ptr 1 0)),(5,(AV.ptr 2 0)),(6,(AV.hd 3)),(8,(li i1)),(9,(li i2))]) [.box 51 (zO a_p0),.box 51 (zO ⟨0,0,0,0,0,(List.replicate 5 ([]:List Int))⟩),.box 51 ([li a_p0.node,li a_p0.kind,li a_p0.start,li a_p0.count,li a_p0.min]++((cM 5 3 (5:Int) l7)++[])),.vec 3 1 (List.map cI l8)]∧zCO (zBH a_p0 n0) a_p0 i1 n1 i2 l7 l8=some r) (z9,a_p0.start,l3,l4) ⟨zAD [0,1,2,3] rfl rfl (by kernel_rfl),h⟩ ?_
      clear h
      rintro ⟨n1,i2,l7,l8⟩ e' H' ⟨hrep,h⟩
      cases n1 with
      | zero=>exact absurd (show (none:Option _)=some r from h) (by simp)
      | succ n1 =>
       replace h:zEG (zBH a_p0 n0) a_p0 i1 (zCO (zBH a_p0 n0) a_p0 i1 n1) i2 l7 l8=some r:=h
       unfold zEG at h
       refine zV hrep ?_
       clear hrep
       refine zH<|zH<|zC<|zA (zB rfl)<|zA (zK underlying51 rfl rfl sizeOf3 rfl)<|zA (zN isAgg3 rfl rfl rfl rfl) ?_
       refine zA (zK underlying51 rfl rfl sizeOf3 rfl)<|zA (zN isAgg3 rfl rfl rfl rfl)<|zM h fun hb4 h=>zA (ze rfl rfl hb4)<|zA (zg rfl rfl)<|zF ?_
       refine zY h rfl (fun hb5 h => ?_) (fun hb5 h => ?_)
       ·refine zP ?_
        refine zx (fun e' H' => ∃ (l9:List (List Int)) (l10:List Int),Rep 87 0 e' H' (mkE [(2,(AV.ptr 0 0)),(4,(AV.ptr 1 0)),(5,(AV.ptr 2 0)),(6,(AV.hd 3)),(8,(li i1)),(9,(li i2))]) [.box 51 (zO a_p0),.box 51 (zO ⟨0,0,0,0,0,(List.replicate 5 ([]:List Int))⟩),.box 51 ([li a_p0.node,li a_p0.kind,li a_p0.start,li a_p0.count,li a_p0.min]++((cM 5 3 (5:Int) l9)++[])),.vec 3 1 (List.map cI l10)]∧zEL (zCO (zBH a_p0 n0) a_p0 i1 n1) i2 l9 l10=some r) ?_ ?_
        ·
         refine zQ<|zH<|zC<|zA (zS (k:=0) (o:=0) (m:=10) isAgg51 sizeOf51 rfl rfl rfl rfl rfl)<|zA (zB rfl)<|zA (zB rfl) ?_
         refine zR h fun x1 hx1 h=>zh func72 rfl (by kernel_rfl) (.fn 72) rfl rfl (zEW hx1) rfl<|zA (zB rfl)<|zm rfl rfl (fun hc1=>zt.step (zB rfl))<|zm rfl rfl (fun hc2=>zt.step (zB rfl))<|zm rfl rfl (fun hc3=>zt.step (zB rfl)) ?_
         refine zR h fun x2 hx2 h=>zCl (g:=57) (s:=x1) (r':=(AV.lit (.bool x2))) rfl rfl (fun hc4=>⟨143,_,_,[],[AV.hd 3,li i2,li i1],[ls cI l8,li i2,li i1],(AV.lit (.bool x2)),[3],func143,rfl,by kernel_rfl,.fn 143,(zAJ (z5 rfl hc4) (zAJ (z5 rfl hc4) (zAJ (z5 rfl hc4) rfl))),⟨zIQ (fun _=>rfl) rfl rfl,zAs.nr rfl,zAs.nr rfl,trivial⟩,zNn (zFU hc4 hx2),.inr trivial,rfl⟩)<|zA (zz (j := .lit undef) rfl rfl)<|zF ?_
         refine zY h rfl (fun hb7 h => ?_) (fun hb7 h => ?_)
         ·refine zH<|zC<|zA (zB rfl)<|zA (zB rfl)<|zA (zK underlying51 rfl rfl sizeOf49 rfl)<|zM h fun hb8 h => ?_
          refine zA (zAN (m:=5) (s:=1) (i:=i1) (k:=2) (o:=5) underlying49 sizeOf22 rfl rfl hb8)<|zM h fun hb9 h=>zAF (zIr (k:=2) (cs:=([li a_p0.node,li a_p0.kind,li a_p0.start,li a_p0.count,li a_p0.min]++((cM 5 3 (5:Int) l7)++[]))) (hd:=([li a_p0.node]++[li a_p0.kind]++[li a_p0.start]++[li a_p0.count]++[li a_p0.min]++[])) (tl:=([])) (N:=5) (T:=3) (K:=5) (l:=l7) (i:=i1) rfl rfl hb8 hb9)<|zA (zEX (k:=2) (o:=(5+i1.toNat*1)) (cs:=([li a_p0.node,li a_p0.kind,li a_p0.start,li a_p0.count,li a_p0.min]++((List.set (cM 5 3 (5:Int) l7) i1.toNat (AV.hd 4))++[]))) (hd:=([li a_p0.node]++[li a_p0.kind]++[li a_p0.start]++[li a_p0.count]++[li a_p0.min]++[])) (tl:=([])) (s:=(cM 5 3 (5:Int) l7)) (i:=i1) (j:=4) isAgg22 rfl rfl rfl (congrArg (fun q=>5+q) (Nat.mul_one _)) (zHo hb8))<|zA (zB rfl)<|zGR (a:=(li i2)) zHX underlying22 rfl rfl rfl rfl ?_
          refine zM h fun hb10 h=>zDC (f:=cI) (k:=4) (j:=5) (l:=l7.getD i1.toNat []) (l':=[i2]) zHX (fun _=>rfl) underlying22 rfl rfl rfl rfl hb10<|zA (zK underlying51 rfl rfl sizeOf49 rfl)<|zA (zAN (m:=5) (s:=1) (i:=i1) (k:=2) (o:=5) underlying49 sizeOf22 rfl rfl hb8)<|zp (H':=[.box 51 (zO a_p0),.box 51 (zO ⟨0,0,0,0,0,(List.replicate 5 ([]:List Int))⟩),.box 51 ([li a_p0.node,li a_p0.kind,li a_p0.start,li a_p0.count,li a_p0.min]++((List.set (cM 5 3 (5:Int) l7) i1.toNat (AV.hd 6))++[])),.vec 3 1 (List.map cI l8),.dead,.vec 3 1 (List.map cI [i2]),.vec 3 1 (List.map cI ((l7.getD i1.toNat [])++[i2]))]) (zHU (k:=2) (o:=(5+i1.toNat*1)) (cs:=([li a_p0.node,li a_p0.kind,li a_p0.start,li a_p0.count,li a_p0.min]++((List.set (cM 5 3 (5:Int) l7) i1.toNat (AV.hd 4))++[]))) (hd:=([li a_p0.node]++[li a_p0.kind]++[li a_p0.start]++[li a_p0.count]++[li a_p0.min]++[])) (tl:=([])) (s:=(cM 5 3 (5:Int) l7)) (i:=i1) (a:=(AV.hd 6)) sizeOf22 rfl rfl rfl (congrArg (fun q=>5+q) (Nat.mul_one _)) (zHo hb8) rfl rfl)<|zF ?_
          refine zH<|zC<|zA (zB rfl)<|zA (zD rfl)<|zF<|zQ ?_
          refine z6 (σ:=Nat×Int×(List Int)) (fun s=>s.1) (fun s e' H'=>match s with | (n2,i3,l11)=>Rep 87 0 e' H' (mkE [(2,(AV.ptr 0 0)),(4,(AV.ptr 1 0)),(5,(AV.ptr 2 0)),(6,(AV.hd 3)),(8,(li i1)),(9,(li i2)),(10,(li i3))]) [.box 51 (zO a_p0),.box 51 (zO ⟨0,0,0,0,0,(List.replicate 5 ([]:List Int))⟩),.box 51 ([li a_p0.node,li a_p0.kind,li a_p0.start,li a_p0.count,li a_p0.min]++((cM 5 3 (5:Int) (zDl 5 [] l7 i1.toNat ((l7.getD i1.toNat [])++[i2])))++[])),.vec 3 1 (List.map cI l11)]∧zGB (zCO (zBH a_p0 n0) a_p0 i1 n1) i1 i2 l7 n2 i3 l11=some r) (z9,i2,l8) ⟨Rep.trans (zIq (j:=6) (l':=(l7.getD i1.toNat [])++[i2]) (k:=2) (cs:=([li a_p0.node,li a_p0.kind,li a_p0.start,li a_p0.count,li a_p0.min]++((List.set (cM 5 3 (5:Int) l7) i1.toNat (AV.hd 6))++[]))) (hd:=([li a_p0.node]++[li a_p0.kind]++[li a_p0.start]++[li a_p0.count]++[li a_p0.min]++[])) (tl:=([])) (N:=5) (T:=3) (K:=5) (l:=l7) (i:=i1) rfl rfl hb8 hb9 rfl rfl) (zAD [0,1,2,3] (l:=[(2,(AV.ptr 0 0)),(4,(AV.ptr 1 0)),(5,(AV.ptr 2 0)),(6,(AV.hd 3)),(8,(li i1)),(9,(li i2)),(10,(li i2))]) rfl rfl (by kernel_rfl)),h⟩ ?_
          clear h
          rintro ⟨n2,i3,l11⟩ e' H' ⟨hrep,h⟩
          cases n2 with
          | zero=>exact absurd (show (none:Option _)=some r from h) (by simp)
          | succ n2 =>
           replace h:zED (zCO (zBH a_p0 n0) a_p0 i1 n1) i1 i2 l7 (zGB (zCO (zBH a_p0 n0) a_p0 i1 n1) i1 i2 l7 n2) i3 l11=some r:=h
           unfold zED at h
           refine zV hrep ?_
           clear hrep
           refine zH<|zH<|zC<|zA (zB rfl)<|zA (zB rfl)<|zA (zB rfl) ?_
           refine zM h fun hb11 h=>zA (zFm (k' := .u64) (a:=i1) underlying3 underlying74 rfl hb11)<|zM h fun hb12 h=>zM h fun hb13 h=>zA (zCP (a:=1) (b:=i1) rfl rfl hb12 hb13)<|zM h fun hb14 h => ?_
           refine zA (ze rfl rfl hb14)<|zA (zg rfl rfl)<|zF ?_
           refine zY h rfl (fun hb15 h => ?_) (fun hb15 h => ?_)
           ·refine zP<|zH<|zQ<|zC<|zA (zB rfl)<|zA (zB rfl) ?_
            refine zM h fun hb16 h=>zA (zAC (f:=cI) (l:=l11) (i:=i3) underlying22 sizeOf3 rfl rfl rfl hb16)<|zp (H':=[.box 51 (zO a_p0),.box 51 (zO ⟨0,0,0,0,0,(List.replicate 5 ([]:List Int))⟩),.box 51 ([li a_p0.node,li a_p0.kind,li a_p0.start,li a_p0.count,li a_p0.min]++((cM 5 3 (5:Int) (zDl 5 [] l7 i1.toNat ((l7.getD i1.toNat [])++[i2])))++[])),.vec 3 1 (List.map cI (l11.set i3.toNat 0))]) (zCR (k:=3) (o:=(i3.toNat*1)) (f:=cI) (l:=l11) (i:=i3) (c:=0) (a:=(li 0)) (z:=0) sizeOf3 rfl rfl (by first | rfl | omega) hb16 rfl rfl rfl rfl rfl)<|zF<|zC<|zA (zB rfl) ?_
            refine zM h fun hb17 h=>zA (ze rfl rfl hb17)<|zA (zD rfl)<|zF ?_
            exact ⟨(n2,(i3+1),(l11.set i3.toNat 0)),Nat.lt_succ_self _,zAD [0,1,2,3] rfl rfl (by kernel_rfl),h⟩
           ·refine zy ?_
            exact ⟨(zDl 5 [] l7 i1.toNat ((l7.getD i1.toNat [])++[i2])),l11,zAD [0,1,2,3] rfl rfl (by kernel_rfl),h⟩
         ·refine zP ?_
          exact ⟨l7,l8,zAD [0,1,2,3] rfl rfl (by kernel_rfl),h⟩
        ·
         clear h
         rintro e' H' ⟨l9,l10,hrep,h⟩
         refine zV hrep ?_
         clear hrep
         unfold zEL at h
         refine zC<|zA (zB rfl)<|zM h fun hb6 h=>zA (ze rfl rfl hb6)<|zA (zD rfl)<|zF ?_
         exact ⟨(n1,(i2+1),l9,l10),Nat.lt_succ_self _,zAD [0,1,2,3] rfl rfl (by kernel_rfl),h⟩
       ·refine zy ?_
        exact ⟨l7,l8,zAD [0,1,2,3] rfl rfl (by kernel_rfl),h⟩
     ·
      clear h
      rintro e' H' ⟨l5,l6,hrep,h⟩
      refine zV hrep ?_
      clear hrep
      unfold zHv at h
      refine zC<|zA (zB rfl)<|zM h fun hb3 h=>zA (zCB rfl rfl hb3)<|zA (zD rfl)<|zF ?_
      exact ⟨(n0,(i1 - 1),l5,l6),Nat.lt_succ_self _,zAD [0,1,2,3] rfl rfl (by kernel_rfl),h⟩
    ·refine zy ?_
     exact ⟨l3,zAD [1,2] rfl rfl (by kernel_rfl),h⟩
  ·
   clear h
   rintro e' H' ⟨l2,hrep,h⟩
   refine zV hrep ?_
   clear hrep
   unfold zJE at h
   refine zH<|zC<|zAF (zJT (k:=1) (cs:=([li a_p0.node,li a_p0.kind,li a_p0.start,li a_p0.count,li a_p0.min]++((cM 5 3 (5:Int) l2)++[]))) (hd:=([li a_p0.node]++[li a_p0.kind]++[li a_p0.start]++[li a_p0.count]++[li a_p0.min]++[])) (tl:=([])) (N:=5) (T:=3) (K:=5) (l:=l2) rfl rfl)<|zA (zS (k:=1) (o:=0) (m:=10) isAgg51 sizeOf51 rfl rfl rfl rfl rfl)<|zp (H':=[.box 51 (zO (⟨a_p0.node,a_p0.kind,a_p0.start,a_p0.count,a_p0.min,l2⟩:zo)),.box 51 (zO ⟨a_p0.node,a_p0.kind,a_p0.start,a_p0.count,a_p0.min,l2⟩)]) (zX (k:=0) (o:=0) (cs:=(zO ⟨0,0,0,0,0,(List.replicate 5 ([]:List Int))⟩)) (la:=(zO (⟨a_p0.node,a_p0.kind,a_p0.start,a_p0.count,a_p0.min,l2⟩:zo))) sizeOf51 rfl rfl rfl rfl)<|zF ?_
   refine zd ?_
   show zAP _ _ _ _ _ _
   obtain rfl:=Option.some.inj h
   exact zv (zFZ isAgg51 sizeOf51 rfl rfl rfl rfl)
theorem zM3 {a_z:zo} {a_frame:Int} {a_order:Int} {r:zo×Int} (h:zIy a_z a_frame a_order=some r):PFn prog 73 [(AV.agg (zO a_z)),li a_frame,li a_order] (AV.tup [(AV.agg (zO r.1)),li r.2]):=by
 refine zq func73 rfl ntmps73 results73 rfl ?_
 unfold zIy at h
 refine zH<|zC<|za (H':=[.box 51 (zO a_z)]) (zw (t:=51) rfl)<|za (H':=[.box 51 (zO a_z),.box 51 (zO ⟨0,0,0,0,0,(List.replicate 5 ([]:List Int))⟩)]) (zu (t:=51) (vs:=[.int .i64 0,.int .i64 0,.int .i64 0,.int .i64 0,.int .i64 0,.slice none 0 0,.slice none 0 0,.slice none 0 0,.slice none 0 0,.slice none 0 0]) (cs:=[.lit (.int .i64 0),.lit (.int .i64 0),.lit (.int .i64 0),.lit (.int .i64 0),.lit (.int .i64 0),.sl false [],.sl false [],.sl false [],.sl false [],.sl false []]) zeroValue51 (by kernel_rfl) rfl ⟨zf.refl _,zf.refl _,zf.refl _,zf.refl _,zf.refl _,zf.nils,zf.nils,zf.nils,zf.nils,zf.nils,trivial⟩)<|zA (zD rfl)<|zF ?_
 refine zH<|zH<|zC<|zA (zS (k:=0) (o:=0) (m:=10) isAgg51 sizeOf51 rfl rfl rfl rfl rfl)<|zR h fun x1 hx1 h=>zh func47 rfl (by kernel_rfl) (.fn 47) rfl rfl (zId hx1) rfl ?_
 refine zA (zD rfl)<|zF<|zH<|zC<|zA (zB rfl)<|zA (z7 rfl rfl) ?_
 refine zF ?_
 refine zY h rfl (fun hb1 h => ?_) (fun hb1 h => ?_)
 ·refine zH<|zC<|zA (z8 (pl:=[(0,1),(1,1),(2,1),(3,1),(4,1),(5,5)]) (zs:=[.int .i64 0,.int .i64 0,.int .i64 0,.int .i64 0,.int .i64 0,.slice none 0 0,.slice none 0 0,.slice none 0 0,.slice none 0 0,.slice none 0 0]) (zc:=[.lit (.int .i64 0),.lit (.int .i64 0),.lit (.int .i64 0),.lit (.int .i64 0),.lit (.int .i64 0),.sl false [],.sl false [],.sl false [],.sl false [],.sl false []]) (res:=(zO (⟨0,0,0,0,0,(List.replicate 5 ([]:List Int))⟩:zo))) (fun _=>by kernel_rfl) rfl (⟨zf.refl _,⟨zf.refl _,⟨zf.refl _,⟨zf.refl _,⟨zf.refl _,⟨zf.nils,⟨zf.nils,⟨zf.nils,⟨zf.nils,⟨zf.nils,trivial⟩⟩⟩⟩⟩⟩⟩⟩⟩⟩) (by exact zFR.refl _))<|zA (zB rfl)<|zp (H':=[.box 51 (zO a_z),.box 51 (zO (⟨0,0,0,0,0,(List.replicate 5 ([]:List Int))⟩:zo))]) (zX (k:=1) (o:=0) (cs:=(zO ⟨0,0,0,0,0,(List.replicate 5 ([]:List Int))⟩)) (la:=(zO (⟨0,0,0,0,0,(List.replicate 5 ([]:List Int))⟩:zo))) sizeOf51 rfl rfl rfl rfl)<|zA (zD rfl) ?_
  refine zF<|zd ?_
  show zAP _ _ _ _ _ _
  obtain rfl:=Option.some.inj h
  exact zBl (zFZ isAgg51 sizeOf51 rfl rfl rfl rfl) (zAO rfl rfl) rfl
 ·refine zP<|zH<|zH<|zC<|zA (zS (k:=0) (o:=0) (m:=10) isAgg51 sizeOf51 rfl rfl rfl rfl rfl)<|zA (zB rfl) ?_
  refine zA (zB rfl)<|zR h fun x2 hx2 h=>zh func72 rfl (by kernel_rfl) (.fn 72) rfl rfl (zEW hx2) rfl<|zA (zA4 (t:=x2) rfl)<|zF ?_
  refine zY h rfl (fun hb2 h => ?_) (fun hb2 h => ?_)
  ·refine zH<|zC<|zA (z8 (pl:=[(0,1),(1,1),(2,1),(3,1),(4,1),(5,5)]) (zs:=[.int .i64 0,.int .i64 0,.int .i64 0,.int .i64 0,.int .i64 0,.slice none 0 0,.slice none 0 0,.slice none 0 0,.slice none 0 0,.slice none 0 0]) (zc:=[.lit (.int .i64 0),.lit (.int .i64 0),.lit (.int .i64 0),.lit (.int .i64 0),.lit (.int .i64 0),.sl false [],.sl false [],.sl false [],.sl false [],.sl false []]) (res:=(zO (⟨0,0,0,0,0,(List.replicate 5 ([]:List Int))⟩:zo))) (fun _=>by kernel_rfl) rfl (⟨zf.refl _,⟨zf.refl _,⟨zf.refl _,⟨zf.refl _,⟨zf.refl _,⟨zf.nils,⟨zf.nils,⟨zf.nils,⟨zf.nils,⟨zf.nils,trivial⟩⟩⟩⟩⟩⟩⟩⟩⟩⟩) (by exact zFR.refl _))<|zp (H':=[.box 51 (zO a_z),.box 51 (zO (⟨0,0,0,0,0,(List.replicate 5 ([]:List Int))⟩:zo))]) (zX (k:=1) (o:=0) (cs:=(zO ⟨0,0,0,0,0,(List.replicate 5 ([]:List Int))⟩)) (la:=(zO (⟨0,0,0,0,0,(List.replicate 5 ([]:List Int))⟩:zo))) sizeOf51 rfl rfl rfl rfl)<|zA (zD rfl)<|zF ?_
   refine zd ?_
   show zAP _ _ _ _ _ _
   obtain rfl:=Option.some.inj h
   exact zBl (zFZ isAgg51 sizeOf51 rfl rfl rfl rfl) (zAO rfl rfl) rfl
  ·refine zP<|zH<|zC<|zA (zS (k:=0) (o:=0) (m:=10) isAgg51 sizeOf51 rfl rfl rfl rfl rfl)<|zR h fun x3 hx3 h=>zHO (T:=3) (sz:=1) (rows:=List.map cI x3) (la:=[(AV.agg (zO a_z))]) (la':=[(AV.agg (zO a_z))]) (S:=[]) func95 rfl (by kernel_rfl) (.fn 95) rfl ⟨zAs.nr rfl,trivial⟩ (zJo hx3) (.inl rfl) ?_
   refine zA (zD rfl)<|zF ?_
   refine zx (fun e' H' => ∃ (l1:List Int),Rep 47 0 e' H' (mkE [(3,(AV.ptr 0 0)),(6,(AV.ptr 1 0)),(9,(AV.hd 2))]) [.box 51 (zO a_z),.box 51 (zO ⟨0,0,0,0,0,(List.replicate 5 ([]:List Int))⟩),.vec 3 1 (List.map cI l1)]∧zHt a_z l1=some r) ?_ ?_
   ·
    refine zH<|zC<|zA (zB rfl)<|zA (zD rfl)<|zF<|zQ ?_
    refine z6 (σ:=Nat×Int×(List Int)) (fun s=>s.1) (fun s e' H'=>match s with | (n0,i1,l2)=>Rep 47 0 e' H' (mkE [(1,(li a_frame)),(2,(li a_order)),(3,(AV.ptr 0 0)),(6,(AV.ptr 1 0)),(9,(AV.hd 2)),(10,(li i1))]) [.box 51 (zO a_z),.box 51 (zO ⟨0,0,0,0,0,(List.replicate 5 ([]:List Int))⟩),.vec 3 1 (List.map cI l2)]∧zGK a_z a_frame a_order n0 i1 l2=some r) (z9,a_frame,x3) ⟨zAD [0,1,2] rfl rfl (by kernel_rfl),h⟩ ?_
    clear h
    rintro ⟨n0,i1,l2⟩ e' H' ⟨hrep,h⟩
    cases n0 with
    | zero=>exact absurd (show (none:Option _)=some r from h) (by simp)
    | succ n0 =>
     replace h:zD4 a_z a_frame a_order (zGK a_z a_frame a_order n0) i1 l2=some r:=h
     unfold zD4 at h
     refine zV hrep ?_
     clear hrep
     refine zH<|zH<|zC<|zA (zB rfl)<|zA (zB rfl)<|zA (zB rfl) ?_
     refine zM h fun hb3 h=>zA (zFm (k' := .u64) (a:=a_order) underlying3 underlying74 rfl hb3)<|zM h fun hb4 h=>zM h fun hb5 h=>zA (zCP (a:=1) (b:=a_order) rfl rfl hb4 hb5)<|zM h fun hb6 h => ?_
     refine zA (ze rfl rfl hb6)<|zA (zg rfl rfl)<|zF ?_
     refine zY h rfl (fun hb7 h => ?_) (fun hb7 h => ?_)
     ·refine zP<|zH<|zQ<|zH<|zH<|zC ?_
      refine zA (zB rfl)<|zA (zB rfl)<|zM h fun hb8 h=>zA (zAC (f:=cI) (l:=l2) (i:=i1) underlying22 sizeOf3 rfl rfl rfl hb8)<|zA (zBY (f:=cI) (l:=l2) (i:=i1) (c:=0) (a:=(li (at_ l2 i1))) isAgg3 rfl rfl (by first | rfl | omega) hb8 rfl rfl)<|zA (zAm rfl rfl) ?_
      refine zF ?_
      refine zY h rfl (fun hb9 h => ?_) (fun hb9 h => ?_)
      ·refine zH<|zC<|zA (z8 (pl:=[(0,1),(1,1),(2,1),(3,1),(4,1),(5,5)]) (zs:=[.int .i64 0,.int .i64 0,.int .i64 0,.int .i64 0,.int .i64 0,.slice none 0 0,.slice none 0 0,.slice none 0 0,.slice none 0 0,.slice none 0 0]) (zc:=[.lit (.int .i64 0),.lit (.int .i64 0),.lit (.int .i64 0),.lit (.int .i64 0),.lit (.int .i64 0),.sl false [],.sl false [],.sl false [],.sl false [],.sl false []]) (res:=(zO (⟨0,0,0,0,0,(List.replicate 5 ([]:List Int))⟩:zo))) (fun _=>by kernel_rfl) rfl (⟨zf.refl _,⟨zf.refl _,⟨zf.refl _,⟨zf.refl _,⟨zf.refl _,⟨zf.nils,⟨zf.nils,⟨zf.nils,⟨zf.nils,⟨zf.nils,trivial⟩⟩⟩⟩⟩⟩⟩⟩⟩⟩) (by exact zFR.refl _))<|zp (H':=[.box 51 (zO a_z),.box 51 (zO (⟨0,0,0,0,0,(List.replicate 5 ([]:List Int))⟩:zo)),.vec 3 1 (List.map cI l2)]) (zX (k:=1) (o:=0) (cs:=(zO ⟨0,0,0,0,0,(List.replicate 5 ([]:List Int))⟩)) (la:=(zO (⟨0,0,0,0,0,(List.replicate 5 ([]:List Int))⟩:zo))) sizeOf51 rfl rfl rfl rfl)<|zA (zD rfl)<|zF ?_
       refine zd ?_
       show zAP _ _ _ _ _ _
       obtain rfl:=Option.some.inj h
       exact zBl (zFZ isAgg51 sizeOf51 rfl rfl rfl rfl) (zAO rfl rfl) rfl
      ·refine zP<|zC<|zA (zB rfl)<|zA (zB rfl)<|zA (zAC (f:=cI) (l:=l2) (i:=i1) underlying22 sizeOf3 rfl rfl rfl hb8)<|zp (H':=[.box 51 (zO a_z),.box 51 (zO ⟨0,0,0,0,0,(List.replicate 5 ([]:List Int))⟩),.vec 3 1 (List.map cI (l2.set i1.toNat 1))]) (zCR (k:=2) (o:=(i1.toNat*1)) (f:=cI) (l:=l2) (i:=i1) (c:=0) (a:=(li 1)) (z:=1) sizeOf3 rfl rfl (by first | rfl | omega) hb8 rfl rfl rfl rfl rfl) ?_
       refine zF<|zC<|zA (zB rfl)<|zM h fun hb10 h=>zA (ze rfl rfl hb10)<|zA (zD rfl) ?_
       refine zF ?_
       exact ⟨(n0,(i1+1),(l2.set i1.toNat 1)),Nat.lt_succ_self _,zAD [0,1,2] rfl rfl (by kernel_rfl),h⟩
     ·refine zy ?_
      exact ⟨l2,zAD [0,1,2] rfl rfl (by kernel_rfl),h⟩
   ·
    clear h
    rintro e' H' ⟨l1,hrep,h⟩
    refine zV hrep ?_
    clear hrep
    unfold zHt at h
    refine zH<|zC<|zA (zS (k:=0) (o:=0) (m:=10) isAgg51 sizeOf51 rfl rfl rfl rfl rfl)<|zA (zB rfl)<|zR h fun x4 hx4 h=>zAF (zEl (j:=2) (ds:=[9,45]) (rows':=List.map cI l1) rfl (zAL (fun _=>rfl)) ⟨rfl,rfl,trivial⟩) ?_
    refine zR h fun x5 hx5 h=>zh func121 rfl (by kernel_rfl) (.fn 121) rfl rfl (zNM hx5) rfl<|zp (H':=[.box 51 (zO a_z),.box 51 (zO x5),.dead]) (zX (k:=1) (o:=0) (cs:=(zO ⟨0,0,0,0,0,(List.replicate 5 ([]:List Int))⟩)) (la:=(zO x5)) sizeOf51 rfl rfl rfl rfl)<|zA (zD rfl)<|zF<|zd ?_
    show zAP _ _ _ _ _ _
    obtain rfl:=Option.some.inj h
    exact zBl (zFZ isAgg51 sizeOf51 rfl rfl rfl rfl) (zAO rfl rfl) rfl
theorem zKq {a_p0:zJ} {a_p1:Int} {a_p2:Int} {r:zJ×Int} (h:zFG a_p0 a_p1 a_p2=some r):PFn prog 31 [(AV.agg (zG a_p0)),li a_p1,li a_p2] (AV.tup [(AV.agg (zG r.1)),li r.2]):=by
 refine zq func31 rfl ntmps31 results31 rfl ?_
 unfold zFG at h
 refine zH<|zC<|za (H':=[.box 26 (zG a_p0)]) (zw (t:=26) rfl)<|za (H':=[.box 26 (zG a_p0),.box 26 (zG ⟨[],0,0,[],[]⟩)]) (zu (t:=26) (vs:=[.slice none 0 0,.int .i64 0,.int .i64 0,.slice none 0 0,.slice none 0 0]) (cs:=[.sl false [],.lit (.int .i64 0),.lit (.int .i64 0),.sl false [],.sl false []]) zeroValue26 (by kernel_rfl) rfl ⟨zf.nils,zf.refl _,zf.refl _,zf.nils,zf.nils,trivial⟩)<|zA (zD rfl)<|zF ?_
 refine zH<|zH<|zC<|zA (zS (k:=0) (o:=0) (m:=5) isAgg26 sizeOf26 rfl rfl rfl rfl rfl)<|zR h fun x1 hx1 h=>zh func14 rfl (by kernel_rfl) (.fn 14) rfl rfl (zMX hx1) rfl ?_
 refine zA (zD rfl)<|zF<|zH<|zC<|zA (zB rfl)<|zA (z7 rfl rfl) ?_
 refine zF ?_
 refine zY h rfl (fun hb1 h => ?_) (fun hb1 h => ?_)
 ·refine zH<|zC<|zA (z8 (pl:=[(0,1),(1,1),(2,1),(3,1),(4,1)]) (zs:=[.slice none 0 0,.int .i64 0,.int .i64 0,.slice none 0 0,.slice none 0 0]) (zc:=[.sl false [],.lit (.int .i64 0),.lit (.int .i64 0),.sl false [],.sl false []]) (res:=(zG (⟨([]:List Int),0,0,([]:List zo),([]:List zL)⟩:zJ))) (fun _=>by kernel_rfl) rfl (⟨zf.nils,⟨zf.refl _,⟨zf.refl _,⟨zf.nils,⟨zf.nils,trivial⟩⟩⟩⟩⟩) (by exact zFR.refl _))<|zA (zB rfl)<|zp (H':=[.box 26 (zG a_p0),.box 26 (zG (⟨([]:List Int),0,0,([]:List zo),([]:List zL)⟩:zJ))]) (zX (k:=1) (o:=0) (cs:=(zG ⟨[],0,0,[],[]⟩)) (la:=(zG (⟨([]:List Int),0,0,([]:List zo),([]:List zL)⟩:zJ))) sizeOf26 rfl rfl rfl rfl)<|zA (zD rfl) ?_
  refine zF<|zd ?_
  show zAP _ _ _ _ _ _
  obtain rfl:=Option.some.inj h
  exact zBl (zFZ isAgg26 sizeOf26 rfl rfl rfl rfl) (zAO rfl rfl) rfl
 ·refine zP<|zH<|zC<|zA (zS (k:=0) (o:=0) (m:=5) isAgg26 sizeOf26 rfl rfl rfl rfl rfl)<|zA (zB rfl)<|zR h fun x2 hx2 h => ?_
  refine zh func49 rfl (by kernel_rfl) (.fn 49) rfl rfl (zNL hx2) rfl<|zA (zD rfl)<|zF<|zH<|zH<|zC ?_
  refine zA (zB rfl)<|zA (zg rfl rfl)<|zA (zB rfl)<|zT rfl rfl (fun hc1=>zt.step (zK underlying26 rfl rfl sizeOf23 rfl))<|zT rfl rfl (fun hc2=>zt.step (zN isAgg23 (z5 rfl hc2) rfl rfl rfl))<|zT rfl rfl (fun hc3=>zt.step (zB rfl)) ?_
  refine zM h fun hb2 h=>zT rfl rfl (fun hc4=>zt.step (zU underlying23 sizeOf51 (fun _=>rfl) (z5 rfl hc4) (z5 rfl hc4) (zEb hb2 hc4)))<|zT rfl rfl (fun hc5=>zt.step (zAX (row:=(zO (at_ a_p0.zones x2))) (o:=0) (m:=10) (la:=(zO (at_ a_p0.zones x2))) isAgg51 sizeOf51 (z5 rfl hc5) rfl rfl))<|zT rfl rfl (fun hc6=>zt.step (zB rfl))<|zT rfl rfl (fun hc7=>zt.step (zB rfl))<|zR h fun x3 hx3 h => ?_
  refine zBf (g:=23) (s:=decide (x2<0)) (r':=(AV.lit (.bool x3))) rfl rfl (fun hc8=>⟨72,_,_,[],[(AV.agg (zO (at_ a_p0.zones x2))),li a_p1,li a_p2],[(AV.agg (zO (at_ a_p0.zones x2))),li a_p1,li a_p2],(AV.lit (.bool x3)),[],func72,rfl,by kernel_rfl,.fn 72,(zAJ (z5 rfl hc8) (zAJ (z5 rfl hc8) (zAJ (z5 rfl hc8) rfl))),⟨zAs.nr rfl,zAs.nr rfl,zAs.nr rfl,trivial⟩,zEW (zFU hc8 hx3),.inl rfl,rfl⟩)<|zT rfl rfl (fun hc9=>zt.step (zA4 (t:=x3) (z5 rfl hc9)))<|zA (zb rfl rfl)<|zF ?_
  refine zY h rfl (fun hb3 h => ?_) (fun hb3 h => ?_)
  ·refine zH<|zC<|zA (z8 (pl:=[(0,1),(1,1),(2,1),(3,1),(4,1)]) (zs:=[.slice none 0 0,.int .i64 0,.int .i64 0,.slice none 0 0,.slice none 0 0]) (zc:=[.sl false [],.lit (.int .i64 0),.lit (.int .i64 0),.sl false [],.sl false []]) (res:=(zG (⟨([]:List Int),0,0,([]:List zo),([]:List zL)⟩:zJ))) (fun _=>by kernel_rfl) rfl (⟨zf.nils,⟨zf.refl _,⟨zf.refl _,⟨zf.nils,⟨zf.nils,trivial⟩⟩⟩⟩⟩) (by exact zFR.refl _))<|zp (H':=[.box 26 (zG a_p0),.box 26 (zG (⟨([]:List Int),0,0,([]:List zo),([]:List zL)⟩:zJ))]) (zX (k:=1) (o:=0) (cs:=(zG ⟨[],0,0,[],[]⟩)) (la:=(zG (⟨([]:List Int),0,0,([]:List zo),([]:List zL)⟩:zJ))) sizeOf26 rfl rfl rfl rfl)<|zA (zD rfl)<|zF ?_
   refine zd ?_
   show zAP _ _ _ _ _ _
   obtain rfl:=Option.some.inj h
   exact zBl (zFZ isAgg26 sizeOf26 rfl rfl rfl rfl) (zAO rfl rfl) rfl
  ·refine zP ?_
   refine zx (fun e' H'=>Rep 68 0 e' H' (mkE [(1,(li a_p1)),(2,(li a_p2)),(3,(AV.ptr 0 0)),(6,(AV.ptr 1 0)),(9,(li x2))]) [.box 26 (zG a_p0),.box 26 (zG ⟨[],0,0,[],[]⟩)]∧zEj a_p0 a_p1 a_p2 x2=some r) ?_ ?_
   ·
    refine zH<|zC<|zA (zB rfl)<|zA (zD rfl)<|zF<|zQ ?_
    refine z6 (σ:=Nat×Int) (fun s=>s.1) (fun s e' H'=>match s with | (n0,i1)=>Rep 68 0 e' H' (mkE [(1,(li a_p1)),(2,(li a_p2)),(3,(AV.ptr 0 0)),(6,(AV.ptr 1 0)),(9,(li x2)),(10,(li i1))]) [.box 26 (zG a_p0),.box 26 (zG ⟨[],0,0,[],[]⟩)]∧zBW a_p0 a_p1 a_p2 x2 n0 i1=some r) (z9,a_p1) ⟨zAD [0,1] rfl rfl (by kernel_rfl),h⟩ ?_
    clear h
    rintro ⟨n0,i1⟩ e' H' ⟨hrep,h⟩
    cases n0 with
    | zero=>exact absurd (show (none:Option _)=some r from h) (by simp)
    | succ n0 =>
     replace h:zB8 a_p0 a_p1 a_p2 x2 (zBW a_p0 a_p1 a_p2 x2 n0) i1=some r:=h
     unfold zB8 at h
     refine zV hrep ?_
     clear hrep
     refine zH<|zH<|zC<|zA (zB rfl)<|zA (zB rfl)<|zA (zB rfl) ?_
     refine zM h fun hb5 h=>zA (zFm (k' := .u64) (a:=a_p2) underlying3 underlying74 rfl hb5)<|zM h fun hb6 h=>zM h fun hb7 h=>zA (zCP (a:=1) (b:=a_p2) rfl rfl hb6 hb7)<|zM h fun hb8 h => ?_
     refine zA (ze rfl rfl hb8)<|zA (zg rfl rfl)<|zF ?_
     refine zY h rfl (fun hb9 h => ?_) (fun hb9 h => ?_)
     ·refine zP<|zH<|zQ<|zH<|zC<|zA (zS (k:=0) (o:=0) (m:=5) isAgg26 sizeOf26 rfl rfl rfl rfl rfl) ?_
      refine zA (zB rfl)<|zA (zB rfl)<|zR h fun x6 hx6 h=>zh func51 rfl (by kernel_rfl) (.fn 51) rfl rfl (zNJ hx6) rfl<|zF ?_
      refine zY h rfl (fun hb10 h => ?_) (fun hb10 h => ?_)
      ·refine zH<|zC<|zA (z8 (pl:=[(0,1),(1,1),(2,1),(3,1),(4,1)]) (zs:=[.slice none 0 0,.int .i64 0,.int .i64 0,.slice none 0 0,.slice none 0 0]) (zc:=[.sl false [],.lit (.int .i64 0),.lit (.int .i64 0),.sl false [],.sl false []]) (res:=(zG (⟨([]:List Int),0,0,([]:List zo),([]:List zL)⟩:zJ))) (fun _=>by kernel_rfl) rfl (⟨zf.nils,⟨zf.refl _,⟨zf.refl _,⟨zf.nils,⟨zf.nils,trivial⟩⟩⟩⟩⟩) (by exact zFR.refl _))<|zp (H':=[.box 26 (zG a_p0),.box 26 (zG (⟨([]:List Int),0,0,([]:List zo),([]:List zL)⟩:zJ))]) (zX (k:=1) (o:=0) (cs:=(zG ⟨[],0,0,[],[]⟩)) (la:=(zG (⟨([]:List Int),0,0,([]:List zo),([]:List zL)⟩:zJ))) sizeOf26 rfl rfl rfl rfl)<|zA (zD rfl)<|zF ?_
       refine zd ?_
       show zAP _ _ _ _ _ _
       obtain rfl:=Option.some.inj h
       exact zBl (zFZ isAgg26 sizeOf26 rfl rfl rfl rfl) (zAO rfl rfl) rfl
      ·refine zP<|zC<|zA (zB rfl)<|zM h fun hb11 h=>zA (ze rfl rfl hb11)<|zA (zD rfl) ?_
       refine zF ?_
       exact ⟨(n0,(i1+1)),Nat.lt_succ_self _,zAD [0,1] rfl rfl (by kernel_rfl),h⟩
     ·refine zy ?_
      exact ⟨zAD [0,1] rfl rfl (by kernel_rfl),h⟩
   ·
    clear h
    rintro e' H' ⟨hrep,h⟩
    refine zV hrep ?_
    clear hrep
    unfold zEj at h
    refine zH<|zC<|zA (zS (k:=0) (o:=0) (m:=5) isAgg26 sizeOf26 rfl rfl rfl rfl rfl)<|zR h fun x4 hx4 h=>zHP (cs:=[ls cI x4.nodes,li x4.batch,li x4.high,AV.osl 51 10 (List.map zO x4.zones),AV.osl 55 1 (List.map zI x4.caches)]) (la:=[(AV.agg (zG a_p0))]) (la':=[(AV.agg (zG a_p0))]) (S:=[]) func59 rfl (by kernel_rfl) (.fn 59) rfl ⟨zAs.nr rfl,trivial⟩ (zMS hx4) (.inl rfl)<|za (H':=[.box 26 (zG a_p0),.box 26 (zG ⟨[],0,0,[],[]⟩),.val (.agg [ls cI x4.nodes,li x4.batch,li x4.high,AV.osl 51 10 (List.map zO x4.zones),AV.osl 55 1 (List.map zI x4.caches)]),.box 26 (zG ⟨[],0,0,[],[]⟩)]) (zu (t:=26) (vs:=[.slice none 0 0,.int .i64 0,.int .i64 0,.slice none 0 0,.slice none 0 0]) (cs:=[.sl false [],.lit (.int .i64 0),.lit (.int .i64 0),.sl false [],.sl false []]) zeroValue26 (by kernel_rfl) rfl ⟨zf.nils,zf.refl _,zf.refl _,zf.nils,zf.nils,trivial⟩) ?_
    refine zp (H':=[.box 26 (zG a_p0),.box 26 (zG ⟨[],0,0,[],[]⟩),.dead,.box 26 [ls cI x4.nodes,li x4.batch,li x4.high,AV.osl 51 10 (List.map zO x4.zones),AV.osl 55 1 (List.map zI x4.caches)]]) (zCs (k:=3) (o:=0) (j:=2) (cs:=(zG ⟨[],0,0,[],[]⟩)) (la:=[ls cI x4.nodes,li x4.batch,li x4.high,AV.osl 51 10 (List.map zO x4.zones),AV.osl 55 1 (List.map zI x4.caches)]) sizeOf26 rfl rfl rfl rfl rfl (by decide))<|zF<|zH<|zV (zBE (k:=3) (o:=3) (t':=51) (sz:=10) (rows:=List.map zO x4.zones) rfl rfl)<|zM h fun hb4 h=>zR h fun x5 hx5 h => ?_
    show AW _ _ _ _ _ _ [.box 26 (zG a_p0),.box 26 (zG ⟨[],0,0,[],[]⟩),.dead,.box 26 [ls cI x4.nodes,li x4.batch,li x4.high,AV.hd 4,AV.osl 55 1 (List.map zI x4.caches)],.vec 51 10 (List.map zO x4.zones)]
    refine zA2 (n:=68) (m:=0) [.head 0 0,.head 0 0,.head 0 0,.head 0 0,.head 0 0,.head 0 0,.head 0 0,.head 0 0,.head 0 0,.head 0 0,.head 0 0,.head 0 0,.head 0 0,.head 0 1,.head 0 0,.tail 0] [15] [AV.ptr 3 3,AV.hd 4,li x2,AV.ptr 3 3,AV.hd 4,li x2,(AV.ptr 4 (x2.toNat*10)),(AV.agg (zO (at_ x4.zones x2))),li a_p1,li a_p2,(AV.tup [(AV.agg (zO x5.1)),li x5.2]),(AV.tup [(AV.agg (zO x5.1)),li x5.2]),(AV.agg (zO x5.1)),li x5.2,(AV.ptr 4 (x2.toNat*10)),.any] [[.box 26 (zG a_p0),.box 26 (zG ⟨[],0,0,[],[]⟩),.dead,.box 26 [ls cI x4.nodes,li x4.batch,li x4.high,AV.hd 4,AV.osl 55 1 (List.map zI x4.caches)],.vec 51 10 (List.map zO x4.zones)],[.box 26 (zG a_p0),.box 26 (zG ⟨[],0,0,[],[]⟩),.dead,.box 26 [ls cI x4.nodes,li x4.batch,li x4.high,AV.hd 4,AV.osl 55 1 (List.map zI x4.caches)],.vec 51 10 (List.map zO (x4.zones.set x2.toNat x5.1))]] (by kernel_rfl) (by kernel_rfl) ⟨?_,?_,?_,?_,?_,?_,?_,?_,?_,?_,?_,?_,?_,⟨?_,?_⟩,?_,?_,trivial⟩ ?_
    ·exact D1 fun e s p=>zK (k:=3) (o:=0) (off:=3) underlying26 rfl rfl sizeOf23 (s 11 rfl)
    ·exact D1 fun e s p=>zN (k:=3) (o:=3) isAgg23 p.1 rfl rfl rfl
    ·exact D1 fun e s p=>zB (s 9 rfl)
    ·exact D1 fun e s p=>zK (k:=3) (o:=0) (off:=3) underlying26 rfl rfl sizeOf23 (s 11 rfl)
    ·exact D1 fun e s p=>zN (k:=3) (o:=3) isAgg23 p.1 rfl rfl rfl
    ·exact D1 fun e s p=>zB (s 9 rfl)
    ·exact D1 fun e s p=>zAC (f:=zO) (l:=x4.zones) (i:=x2) underlying23 sizeOf51 p.1 rfl p.2.1 hb4
    ·exact D1 fun e s p=>zCj (f:=zO) (l:=x4.zones) (i:=x2) (c:=0) (q:=10) (la:=(zO (at_ x4.zones x2))) isAgg51 sizeOf51 p.1 rfl (by first | rfl | omega) hb4 rfl rfl rfl
    ·exact D1 fun e s p=>zB (s 1 rfl)
    ·exact D1 fun e s p=>zB (s 2 rfl)
    ·
     intro e11 hs11 hp11
     refine zh (r:=(AV.tup [(AV.agg (zO x5.1)),li x5.2])) (la:=[(AV.agg (zO (at_ x4.zones x2))),li a_p1,li a_p2]) func73 rfl (by kernel_rfl) (.fn 73) (zAJ hp11.1 (zAJ hp11.2.1 (zAJ hp11.2.2.1 rfl))) rfl (zM3 hx5) rfl ?_
     exact zF ⟨fun _=>rfl,rfl⟩
    ·exact D1 fun e s p=>zB p.1
    ·exact D1 fun e s p=>zj p.1 rfl
    ·exact D1 fun e s p=>zj p.1 rfl
    ·exact D1 fun e s p=>zj p.1 rfl
    ·exact D1 fun e s p=>zAC (f:=zO) (l:=x4.zones) (i:=x2) underlying23 sizeOf51 p.2.2.2.1 rfl p.2.2.2.2.1 hb4
    ·
     intro e17 hs17 hp17
     refine zp (H':=[.box 26 (zG a_p0),.box 26 (zG ⟨[],0,0,[],[]⟩),.dead,.box 26 [ls cI x4.nodes,li x4.batch,li x4.high,AV.hd 4,AV.osl 55 1 (List.map zI x4.caches)],.vec 51 10 (List.map zO (x4.zones.set x2.toNat x5.1))]) (zCN (k:=4) (o:=(x2.toNat*10)) (f:=zO) (l:=x4.zones) (i:=x2) (z:=x5.1) sizeOf51 (fun _=>rfl) (by exact hp17.1) rfl (by first | rfl | omega) hb4 (by exact hp17.2.2.2.2.2.2.2.2.2.2.2.2.2.2.2.1) rfl) ?_
     exact zF ⟨fun _=>rfl,rfl⟩
    intro e18 hs18 hq1
    refine zV (zBa (l:=[(6,(AV.ptr 1 0)),(11,(AV.ptr 3 0))]) ⟨hs18 6 rfl,hs18 11 rfl,trivial⟩)<|zH<|zC<|zAF (zAK (k:=3) (j:=4) (o:=3) (cs:=[ls cI x4.nodes,li x4.batch,li x4.high,AV.hd 4,AV.osl 55 1 (List.map zI x4.caches)]) rfl rfl rfl rfl)<|zAF (zBV (k:=3) (o:=3) (cs:=[ls cI x4.nodes,li x4.batch,li x4.high,AV.osl 51 10 (List.map zO (x4.zones.set x2.toNat x5.1)),AV.osl 55 1 (List.map zI x4.caches)]) (rows':=List.map zO (x4.zones.set x2.toNat x5.1)) rfl rfl (zAL (fun _=>rfl)))<|zAF (zBV (k:=3) (o:=4) (cs:=[ls cI x4.nodes,li x4.batch,li x4.high,(ls zO (x4.zones.set x2.toNat x5.1)),AV.osl 55 1 (List.map zI x4.caches)]) (rows':=List.map zI x4.caches) rfl rfl (zAL (fun _=>rfl))) ?_
    refine zA (zS (k:=3) (o:=0) (m:=5) isAgg26 sizeOf26 rfl rfl rfl rfl rfl)<|zp (H':=[.box 26 (zG a_p0),.box 26 (zG (⟨x4.nodes,x4.batch,x4.high,x4.zones.set x2.toNat x5.1,x4.caches⟩:zJ)),.dead,.box 26 (zG ⟨x4.nodes,x4.batch,x4.high,x4.zones.set x2.toNat x5.1,x4.caches⟩),.dead]) (zX (k:=1) (o:=0) (cs:=(zG ⟨[],0,0,[],[]⟩)) (la:=(zG (⟨x4.nodes,x4.batch,x4.high,x4.zones.set x2.toNat x5.1,x4.caches⟩:zJ))) sizeOf26 rfl rfl rfl rfl)<|zA (zD rfl)<|zF<|zd ?_
    show zAP _ _ _ _ _ _
    obtain rfl:=Option.some.inj h
    exact zBl (zFZ isAgg26 sizeOf26 rfl rfl rfl rfl) (zAO rfl rfl) rfl
theorem zIh {a_a:zJ} {a_frame:Int} {a_order:Int} {r:Bool} (h:zC1 a_a a_frame a_order=some r):PFn prog 7 [(AV.agg (zG a_a)),li a_frame,li a_order] (AV.lit (.bool r)):=by
 refine zq func7 rfl ntmps7 results7 rfl ?_
 unfold zC1 at h
 refine zH<|zC<|za (H':=[.box 26 (zG a_a)]) (zw (t:=26) rfl)<|zA (zD rfl)<|zF<|zH ?_
 refine zH<|zC<|zR h fun x1 hx1 h=>zh func9 rfl (by kernel_rfl) (.fn 9) rfl rfl (zKC hx1) rfl<|zA (zA4 (t:=x1) rfl)<|zA (zB rfl) ?_
 refine zT rfl rfl (fun hc1=>zt.step (zS (k:=0) (o:=0) (m:=5) isAgg26 sizeOf26 rfl rfl rfl rfl rfl))<|zR h fun x2 hx2 h=>zBf (g:=13) (s := !x1) (r':=(AV.lit (.bool x2))) rfl rfl (fun hc2=>⟨10,_,_,[],[(AV.agg (zG a_a))],[(AV.agg (zG a_a))],(AV.lit (.bool x2)),[],func10,rfl,by kernel_rfl,.fn 10,(zAJ (z5 rfl hc2) rfl),⟨zAs.nr rfl,trivial⟩,zNw (zFU hc2 hx2),.inl rfl,rfl⟩)<|zT rfl rfl (fun hc3=>zt.step (zA4 (t:=x2) (z5 rfl hc3)))<|zA (zb rfl rfl)<|zF ?_
 refine zY h rfl (fun hb1 h => ?_) (fun hb1 h => ?_)
 ·refine zH<|zC<|zR h fun x3 hx3 h=>zh func9 rfl (by kernel_rfl) (.fn 9) rfl rfl (zKC hx3) rfl<|zA (zD rfl)<|zF ?_
  refine zd ?_
  show zAP _ _ _ _ _ _
  obtain rfl:=Option.some.inj h
  exact zv (zAO rfl rfl)
 ·refine zP<|zH<|zC<|zA (zS (k:=0) (o:=0) (m:=5) isAgg26 sizeOf26 rfl rfl rfl rfl rfl)<|zA (zB rfl)<|zA (zB rfl) ?_
  refine zR h fun x4 hx4 h=>zh func30 rfl (by kernel_rfl) (.fn 30) rfl rfl (zJP hx4) rfl<|zA (zB rfl)<|zA (zj rfl rfl)<|zA (zj rfl rfl)<|za (H':=[.box 26 (zG a_a),.box 26 (zG ⟨[],0,0,[],[]⟩)]) (zu (t:=26) (vs:=[.slice none 0 0,.int .i64 0,.int .i64 0,.slice none 0 0,.slice none 0 0]) (cs:=[.sl false [],.lit (.int .i64 0),.lit (.int .i64 0),.sl false [],.sl false []]) zeroValue26 (by kernel_rfl) rfl ⟨zf.nils,zf.refl _,zf.refl _,zf.nils,zf.nils,trivial⟩) ?_
  refine zp (H':=[.box 26 (zG a_a),.box 26 (zG x4.1)]) (zX (k:=1) (o:=0) (cs:=(zG ⟨[],0,0,[],[]⟩)) (la:=(zG x4.1)) sizeOf26 rfl rfl rfl rfl)<|zA (zD rfl)<|zF<|zH<|zC<|zA (zS (k:=0) (o:=0) (m:=5) isAgg26 sizeOf26 rfl rfl rfl rfl rfl) ?_
  refine zA (zB rfl)<|zA (zB rfl)<|zR h fun x5 hx5 h=>zh func31 rfl (by kernel_rfl) (.fn 31) rfl rfl (zKq hx5) rfl<|zA (zB rfl)<|zA (zj rfl rfl) ?_
  refine zA (zj rfl rfl)<|za (H':=[.box 26 (zG a_a),.box 26 (zG x4.1),.box 26 (zG ⟨[],0,0,[],[]⟩)]) (zu (t:=26) (vs:=[.slice none 0 0,.int .i64 0,.int .i64 0,.slice none 0 0,.slice none 0 0]) (cs:=[.sl false [],.lit (.int .i64 0),.lit (.int .i64 0),.sl false [],.sl false []]) zeroValue26 (by kernel_rfl) rfl ⟨zf.nils,zf.refl _,zf.refl _,zf.nils,zf.nils,trivial⟩)<|zp (H':=[.box 26 (zG a_a),.box 26 (zG x4.1),.box 26 (zG x5.1)]) (zX (k:=2) (o:=0) (cs:=(zG ⟨[],0,0,[],[]⟩)) (la:=(zG x5.1)) sizeOf26 rfl rfl rfl rfl)<|zA (zD rfl)<|zF<|zH ?_
  refine zC<|zA (zB rfl)<|zA (zB rfl)<|zA (zBd rfl rfl)<|zA (zB rfl)<|zm rfl rfl (fun hc4=>zt.step (zS (k:=1) (o:=0) (m:=5) isAgg26 sizeOf26 rfl rfl rfl rfl rfl)) ?_
  refine zm rfl rfl (fun hc5=>zt.step (zS (k:=2) (o:=0) (m:=5) isAgg26 sizeOf26 rfl rfl rfl rfl rfl))<|zR h fun x6 hx6 h=>zCl (g:=36) (s:=decide (x4.2=x5.2)) (r':=(AV.lit (.bool x6))) rfl rfl (fun hc6=>⟨25,_,_,[],[(AV.agg (zG x4.1)),(AV.agg (zG x5.1))],[(AV.agg (zG x4.1)),(AV.agg (zG x5.1))],(AV.lit (.bool x6)),[],func25,rfl,by kernel_rfl,.fn 25,(zAJ (z5 rfl hc6) (zAJ (z5 rfl hc6) rfl)),⟨zAs.nr rfl,zAs.nr rfl,trivial⟩,zKy (zFU hc6 hx6),.inl rfl,rfl⟩)<|zA (zz (j := .lit undef) rfl rfl)<|zA (zD rfl)<|zF ?_
  refine zd ?_
  show zAP _ _ _ _ _ _
  obtain rfl:=Option.some.inj h
  exact zv (zAO rfl rfl)
end Go.Proofs.YtplkliakhdkpcaaGreat
