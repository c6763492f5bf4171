/-
  Rules, functions and laws for the last text, part d.
-/
import Derived.Test.YtplkliakhdkpcaaGreatGc
set_option linter.unusedVariables false
set_option linter.unusedSimpArgs false
namespace Go.Proofs.YtplkliakhdkpcaaGreat
open Go Go.RowKit Go.Wk Go.Am Go.Proofs Tryz
set_option maxHeartbeats 4000000
theorem zEz {a_p0:zJ} {r:zJ} (h:zCU a_p0=some r):PFn prog 54 [(AV.agg (zG a_p0))] (AV.agg ([ls cI r.nodes]++([li r.batch]++([li r.high]++([AV.osl 51 10 (List.map zO r.zones)]++([AV.osl 55 1 (List.map zH r.caches)]++[])))))):=by
 refine zq func54 rfl ntmps54 results54 rfl ?_
 unfold zCU at h
 refine zI<|zC<|za (H':=[.box 26 (zG a_p0)]) (zw (t:=26) rfl)<|za (H':=[.box 26 (zG a_p0),.box 26 (zG ⟨[],0,0,[],[]⟩)]) (zv (t:=26) (vs:=[.slice none 0 0,.int .i64 0,.int .i64 0,.slice none 0 0,.slice none 0 0]) (cs:=[.sl false [],.lit (.int .i64 0),.lit (.int .i64 0),.sl false [],.sl false []]) zeroValue26 (by kernel_rfl) rfl ⟨zh.nils,zh.refl _,zh.refl _,zh.nils,zh.nils,trivial⟩)<|zF<|zI ?_
 refine zR h fun x1 hx1 h=>zR h fun x2 hx2 h=>zR h fun x3 hx3 h => ?_
 show AW _ _ _ _ _ _ [.box 26 (zG a_p0),.box 26 (zG ⟨[],0,0,[],[]⟩)]
 refine zAx (n:=82) (m:=0) [.head 0 0,.head 0 0,.tail 0,.head 0 1,.head 0 1,.tail 1,.head 0 2,.head 0 2,.tail 2,.head 1 3,.tail 3,.head 4 4,.tail 4,.head 5 5,.tail 5] [2,5,8,10,12,14] [AV.ptr 0 0,ls cI a_p0.nodes,AV.hd 2,AV.ptr 0 3,ls zO a_p0.zones,AV.hd 3,AV.ptr 0 4,ls zH a_p0.caches,AV.hd 4,AV.ptr 0 0,.any,AV.ptr 0 3,.any,AV.ptr 0 4,.any] [[.box 26 (zG a_p0),.box 26 (zG ⟨[],0,0,[],[]⟩)],[.box 26 (zG a_p0),.box 26 (zG ⟨[],0,0,[],[]⟩),.vec 3 1 (List.map cI x1)],[.box 26 (zG a_p0),.box 26 (zG ⟨[],0,0,[],[]⟩),.vec 3 1 (List.map cI x1),.vec 51 10 (List.map zO x2)],[.box 26 (zG a_p0),.box 26 (zG ⟨[],0,0,[],[]⟩),.vec 3 1 (List.map cI x1),.vec 51 10 (List.map zO x2),.vec 55 1 (List.map zH x3)],[.box 26 [AV.hd 2,li a_p0.batch,li a_p0.high,ls zO a_p0.zones,ls zH a_p0.caches],.box 26 (zG ⟨[],0,0,[],[]⟩),.vec 3 1 (List.map cI x1),.vec 51 10 (List.map zO x2),.vec 55 1 (List.map zH x3)],[.box 26 [AV.hd 2,li a_p0.batch,li a_p0.high,AV.hd 3,ls zH a_p0.caches],.box 26 (zG ⟨[],0,0,[],[]⟩),.vec 3 1 (List.map cI x1),.vec 51 10 (List.map zO x2),.vec 55 1 (List.map zH x3)],[.box 26 [AV.hd 2,li a_p0.batch,li a_p0.high,AV.hd 3,AV.hd 4],.box 26 (zG ⟨[],0,0,[],[]⟩),.vec 3 1 (List.map cI x1),.vec 51 10 (List.map zO x2),.vec 55 1 (List.map zH x3)]] (by kernel_rfl) (by kernel_rfl) ⟨?_,?_,?_,⟨?_,?_⟩,⟨?_,?_⟩,?_,⟨?_,?_,?_⟩,⟨?_,?_,?_⟩,?_,⟨?_,?_,?_⟩,?_,?_,?_,?_,?_,trivial⟩ ?_
 ·exact D1 fun e s p=>zK (k:=0) (o:=0) (off:=0) underlying26 rfl rfl sizeOf22 (s 1 rfl)
 ·exact D1 fun e s p=>zN (k:=0) (o:=0) isAgg22 p.1 rfl rfl rfl
 ·
  intro e3 hs3 hp3
  refine zHV (T:=3) (sz:=1) (rows:=List.map cI x1) (la:=[ls cI a_p0.nodes]) (la':=[ls cI a_p0.nodes]) (S:=[]) func80 rfl (by kernel_rfl) (.fn 80) (zAK hp3.1 rfl) ⟨zAt.nr rfl,trivial⟩ (zAS hx1) (.inl rfl) ?_
  exact zF ⟨fun _=>rfl,rfl⟩
 ·exact D1 fun e s p=>zK (k:=0) (o:=0) (off:=3) underlying26 rfl rfl sizeOf23 (s 1 rfl)
 ·exact D1 fun e s p=>zK (k:=0) (o:=0) (off:=3) underlying26 rfl rfl sizeOf23 (s 1 rfl)
 ·exact D1 fun e s p=>zN (k:=0) (o:=3) isAgg23 p.1 rfl rfl rfl
 ·exact D1 fun e s p=>zN (k:=0) (o:=3) isAgg23 p.1 rfl rfl rfl
 ·
  intro e8 hs8 hp8
  refine zHV (T:=51) (sz:=10) (rows:=List.map zO x2) (la:=[ls zO a_p0.zones]) (la':=[ls zO a_p0.zones]) (S:=[]) func106 rfl (by kernel_rfl) (.fn 106) (zAK hp8.1 rfl) ⟨zAt.nr rfl,trivial⟩ (zGA hx2) (.inl rfl) ?_
  exact zF ⟨fun _=>rfl,rfl⟩
 ·exact D1 fun e s p=>zK (k:=0) (o:=0) (off:=4) underlying26 rfl rfl sizeOf24 (s 1 rfl)
 ·exact D1 fun e s p=>zK (k:=0) (o:=0) (off:=4) underlying26 rfl rfl sizeOf24 (s 1 rfl)
 ·exact D1 fun e s p=>zK (k:=0) (o:=0) (off:=4) underlying26 rfl rfl sizeOf24 (s 1 rfl)
 ·exact D1 fun e s p=>zN (k:=0) (o:=4) isAgg24 p.1 rfl rfl rfl
 ·exact D1 fun e s p=>zN (k:=0) (o:=4) isAgg24 p.1 rfl rfl rfl
 ·exact D1 fun e s p=>zN (k:=0) (o:=4) isAgg24 p.1 rfl rfl rfl
 ·
  intro e15 hs15 hp15
  refine zHV (T:=55) (sz:=1) (rows:=List.map zH x3) (la:=[ls zH a_p0.caches]) (la':=[ls zH a_p0.caches]) (S:=[]) func107 rfl (by kernel_rfl) (.fn 107) (zAK hp15.1 rfl) ⟨zAt.nr rfl,trivial⟩ (zEb hx3) (.inl rfl) ?_
  exact zF ⟨fun _=>rfl,rfl⟩
 ·exact D1 fun e s p=>zK (k:=0) (o:=0) (off:=0) underlying26 rfl rfl sizeOf22 (s 1 rfl)
 ·exact D1 fun e s p=>zK (k:=0) (o:=0) (off:=0) underlying26 rfl rfl sizeOf22 (s 1 rfl)
 ·exact D1 fun e s p=>zK (k:=0) (o:=0) (off:=0) underlying26 rfl rfl sizeOf22 (s 1 rfl)
 ·
  intro e19 hs19 hp19
  refine zm (H':=[.box 26 [AV.hd 2,li a_p0.batch,li a_p0.high,ls zO a_p0.zones,ls zH a_p0.caches],.box 26 (zG ⟨[],0,0,[],[]⟩),.vec 3 1 (List.map cI x1),.vec 51 10 (List.map zO x2),.vec 55 1 (List.map zH x3)]) (zCa (k:=0) (o:=0) (cs:=(zG a_p0)) (a:=(AV.hd 2)) sizeOf22 (by exact hp19.1) rfl rfl (by exact hp19.2.2.2.2.2.1) rfl) ?_
  exact zF ⟨fun _=>rfl,rfl⟩
 ·exact D1 fun e s p=>zK (k:=0) (o:=0) (off:=3) underlying26 rfl rfl sizeOf23 (s 1 rfl)
 ·
  intro e21 hs21 hp21
  refine zm (H':=[.box 26 [AV.hd 2,li a_p0.batch,li a_p0.high,AV.hd 3,ls zH a_p0.caches],.box 26 (zG ⟨[],0,0,[],[]⟩),.vec 3 1 (List.map cI x1),.vec 51 10 (List.map zO x2),.vec 55 1 (List.map zH x3)]) (zCa (k:=0) (o:=3) (cs:=[AV.hd 2,li a_p0.batch,li a_p0.high,ls zO a_p0.zones,ls zH a_p0.caches]) (a:=(AV.hd 3)) sizeOf23 (by exact hp21.1) rfl rfl (by exact hp21.2.2.2.2.2.2.2.2.1) rfl) ?_
  exact zF ⟨fun _=>rfl,rfl⟩
 ·exact D1 fun e s p=>zK (k:=0) (o:=0) (off:=4) underlying26 rfl rfl sizeOf24 (s 1 rfl)
 ·
  intro e23 hs23 hp23
  refine zm (H':=[.box 26 [AV.hd 2,li a_p0.batch,li a_p0.high,AV.hd 3,AV.hd 4],.box 26 (zG ⟨[],0,0,[],[]⟩),.vec 3 1 (List.map cI x1),.vec 51 10 (List.map zO x2),.vec 55 1 (List.map zH x3)]) (zCa (k:=0) (o:=4) (cs:=[AV.hd 2,li a_p0.batch,li a_p0.high,AV.hd 3,ls zH a_p0.caches]) (a:=(AV.hd 4)) sizeOf24 (by exact hp23.1) rfl rfl (by exact hp23.2.2.2.2.2.2.2.2.2.2.2.1) rfl) ?_
  exact zF ⟨fun _=>rfl,rfl⟩
 intro e24 hs24 hq1
 refine zV (zBY (l:=[(1,(AV.ptr 0 0)),(2,(AV.ptr 1 0))]) ⟨hs24 1 rfl,hs24 2 rfl,trivial⟩) ?_
 refine zx (fun e' H' => ∃ (l1:List zp),Rep 82 0 e' H' (mkE [(1,(AV.ptr 0 0)),(2,(AV.ptr 1 0))]) [.box 26 [AV.osl 3 1 (List.map cI x1),li a_p0.batch,li a_p0.high,AV.osl 51 10 (List.map zO l1),AV.osl 55 1 (List.map zH x3)],.box 26 (zG ⟨[],0,0,[],[]⟩)]∧zEt a_p0 x1 x3 l1=some r) ?_ ?_
 ·
  refine zI<|zC<|zA (zK underlying26 rfl rfl sizeOf23 rfl)<|zA (zN isAgg23 rfl rfl rfl rfl)<|zA (zDx (f:=zO) (l:=x2) underlying23 rfl rfl)<|zA (zB rfl) ?_
  refine zF<|zQ<|z6 (σ:=Nat×Int×(List zp)) (fun s=>s.1) (fun s e' H'=>match s with | (n2,i3,l7)=>Rep 82 0 e' H' (mkE [(1,(AV.ptr 0 0)),(2,(AV.ptr 1 0)),(22,(li (x2.length:Int))),(23,(li i3))]) [.box 26 [AV.osl 3 1 (List.map cI x1),li a_p0.batch,li a_p0.high,AV.osl 51 10 (List.map zO l7),AV.osl 55 1 (List.map zH x3)],.box 26 (zG ⟨[],0,0,[],[]⟩)]∧zBG a_p0 x1 x2 x3 n2 i3 l7=some r) (z9,0,x2) ⟨Rep.trans (zAJ (k:=0) (j:=2) (o:=0) rfl rfl rfl rfl) (Rep.trans (zAJ (k:=0) (j:=3) (o:=3) rfl rfl rfl rfl) (Rep.trans (zAJ (k:=0) (j:=4) (o:=4) rfl rfl rfl rfl) (zAE [0,1] (l:=[(1,(AV.ptr 0 0)),(2,(AV.ptr 1 0)),(22,(li (x2.length:Int))),(23,(li 0))]) rfl rfl (by kernel_rfl)))),h⟩ ?_
  clear h
  rintro ⟨n2,i3,l7⟩ e' H' ⟨hrep,h⟩
  cases n2 with
  | zero=>exact absurd (show (none:Option _)=some r from h) (by simp)
  | succ n2 =>
   replace h:zB5 a_p0 x1 x2 x3 (zBG a_p0 x1 x2 x3 n2) i3 l7=some r:=h
   unfold zB5 at h
   refine zV hrep ?_
   clear hrep
   refine zI<|zC<|zA (ze rfl rfl)<|zF<|zI ?_
   refine zY h rfl (fun hb8 h => ?_) (fun hb8 h => ?_)
   ·refine zP ?_
    refine zx (fun e' H' => ∃ (l8:List zp),Rep 82 0 e' H' (mkE [(1,(AV.ptr 0 0)),(2,(AV.ptr 1 0)),(22,(li (x2.length:Int))),(23,(li i3))]) [.box 26 [AV.osl 3 1 (List.map cI x1),li a_p0.batch,li a_p0.high,AV.osl 51 10 (List.map zO l8),AV.osl 55 1 (List.map zH x3)],.box 26 (zG ⟨[],0,0,[],[]⟩)]∧zEs (zBG a_p0 x1 x2 x3 n2) i3 l8=some r) ?_ ?_
    ·
     refine zQ<|zI<|zC<|zA (zB rfl)<|zA (zD rfl)<|zF ?_
     refine zI<|zC<|zA (zB rfl)<|zF<|zQ<|z6 (σ:=Nat×Int×(List zp)) (fun s=>s.1) (fun s e' H'=>match s with | (n3,i4,l9)=>Rep 82 0 e' H' (mkE [(1,(AV.ptr 0 0)),(2,(AV.ptr 1 0)),(3,(li i3)),(22,(li (x2.length:Int))),(23,(li i3)),(26,(li i4))]) [.box 26 [AV.osl 3 1 (List.map cI x1),li a_p0.batch,li a_p0.high,AV.osl 51 10 (List.map zO l9),AV.osl 55 1 (List.map zH x3)],.box 26 (zG ⟨[],0,0,[],[]⟩)]∧zCW (zBG a_p0 x1 x2 x3 n2) i3 n3 i4 l9=some r) (z9,0,l7) ⟨zAE [0,1] rfl rfl (by kernel_rfl),h⟩ ?_
     clear h
     rintro ⟨n3,i4,l9⟩ e' H' ⟨hrep,h⟩
     cases n3 with
     | zero=>exact absurd (show (none:Option _)=some r from h) (by simp)
     | succ n3 =>
      replace h:zBq (zBG a_p0 x1 x2 x3 n2) i3 (zCW (zBG a_p0 x1 x2 x3 n2) i3 n3) i4 l9=some r:=h
      unfold zBq at h
      refine zV hrep ?_
      clear hrep
      refine zI<|zC<|zA (ze rfl rfl)<|zF<|zI ?_
      refine zY h rfl (fun hb10 h => ?_) (fun hb10 h => ?_)
      ·refine zP<|zI<|zQ<|zI<|zC<|zA (zB rfl) ?_
       refine zA (zD rfl)<|zF<|zV (zBA (k:=0) (o:=3) (t':=51) (sz:=10) (rows:=List.map zO l9) rfl rfl)<|zM h fun hb11 h=>zM h fun hb12 h=>zR h fun x6 hx6 h => ?_
       show AW _ _ _ _ _ _ [.box 26 [AV.osl 3 1 (List.map cI x1),li a_p0.batch,li a_p0.high,AV.hd 2,AV.osl 55 1 (List.map zH x3)],.box 26 (zG ⟨[],0,0,[],[]⟩),.vec 51 10 (List.map zO l9)]
       refine zAx (n:=82) (m:=0) [.head 0 0,.head 0 0,.head 0 0,.head 0 0,.head 0 0,.head 0 0,.head 0 0,.head 0 0,.head 0 0,.head 0 0,.head 0 0,.head 0 0,.head 0 0,.head 0 0,.head 0 0,.head 0 0,.tail 0] [16] [AV.ptr 0 3,AV.hd 2,li i3,li i4,AV.ptr 0 3,AV.hd 2,li i3,li i4,(AV.ptr 2 (i3.toNat*10)),(AV.ptr 2 (i3.toNat*10+5)),(AV.ptr 2 (i3.toNat*10+5+i4.toNat*1)),(ls cI (((at_ l9 i3).free).getD i4.toNat ([]:List Int))),ls cI x6,(AV.ptr 2 (i3.toNat*10)),(AV.ptr 2 (i3.toNat*10+5)),(AV.ptr 2 (i3.toNat*10+5+i4.toNat*1)),.any] [[.box 26 [AV.osl 3 1 (List.map cI x1),li a_p0.batch,li a_p0.high,AV.hd 2,AV.osl 55 1 (List.map zH x3)],.box 26 (zG ⟨[],0,0,[],[]⟩),.vec 51 10 (List.map zO l9)],[.box 26 [AV.osl 3 1 (List.map cI x1),li a_p0.batch,li a_p0.high,AV.hd 2,AV.osl 55 1 (List.map zH x3)],.box 26 (zG ⟨[],0,0,[],[]⟩),.vec 51 10 (List.map zO (l9.set i3.toNat ({ at_ l9 i3 with free:=zDo 5 ([]:List Int) ((at_ l9 i3).free) i4.toNat x6 })))]] (by kernel_rfl) (by kernel_rfl) ⟨?_,?_,?_,?_,?_,?_,?_,?_,?_,?_,?_,?_,?_,?_,?_,?_,?_,trivial⟩ ?_
       ·exact D1 fun e s p=>zK (k:=0) (o:=0) (off:=3) underlying26 rfl rfl sizeOf23 (s 1 rfl)
       ·exact D1 fun e s p=>zN (k:=0) (o:=3) isAgg23 p.1 rfl rfl rfl
       ·exact D1 fun e s p=>zB (s 3 rfl)
       ·exact D1 fun e s p=>zB (s 4 rfl)
       ·exact D1 fun e s p=>zK (k:=0) (o:=0) (off:=3) underlying26 rfl rfl sizeOf23 (s 1 rfl)
       ·exact D1 fun e s p=>zN (k:=0) (o:=3) isAgg23 p.1 rfl rfl rfl
       ·exact D1 fun e s p=>zB (s 3 rfl)
       ·exact D1 fun e s p=>zB (s 4 rfl)
       ·exact D1 fun e s p=>zAC (f:=zO) (l:=l9) (i:=i3) underlying23 sizeOf51 p.1 rfl p.2.1 hb11
       ·exact D1 fun e s p=>zK (k:=2) (o:=(i3.toNat*10)) (off:=5) underlying51 rfl rfl sizeOf49 p.1
       ·exact D1 fun e s p=>zAO (m:=5) (s:=1) (i:=i4) (k:=2) (o:=(i3.toNat*10+5)) underlying49 sizeOf22 p.1 p.2.1 hb12
       ·exact D1 fun e s p=>zBS (f:=zO) (l:=l9) (i:=i3) (c:=5+i4.toNat) (a:=(ls cI (((at_ l9 i3).free).getD i4.toNat ([]:List Int)))) isAgg22 p.1 rfl (by first | rfl | omega) hb11 (zRY (n:=5) (g:=(eS cI)) (d:=([]:List Int)) (l:=(at_ l9 i3).free) (i:=i4.toNat) (zBK hb12).2 ([(li ((at_ l9 i3).node))]++[(li ((at_ l9 i3).kind))]++[(li ((at_ l9 i3).start))]++[(li ((at_ l9 i3).count))]++[(li ((at_ l9 i3).min))]++[]) ([])) rfl
       ·
        intro e37 hs37 hp36
        refine zAw (r':=(ls cI x6)) (la:=[(ls cI (((at_ l9 i3).free).getD i4.toNat ([]:List Int)))]) (la':=[(ls cI (((at_ l9 i3).free).getD i4.toNat ([]:List Int)))]) (r:=(AV.osl 3 1 (List.map cI x6))) (S:=[]) func80 rfl (by kernel_rfl) (.fn 80) (zAK hp36.1 rfl) ⟨zAt.nr rfl,trivial⟩ (zAS hx6) (.inl rfl) (congrArg (AV.sl false) (zAP (fun _=>rfl))) ?_
        exact zF ⟨fun _=>rfl,rfl⟩
       ·exact D1 fun e s p=>zAC (f:=zO) (l:=l9) (i:=i3) underlying23 sizeOf51 p.1 rfl p.2.1 hb11
       ·exact D1 fun e s p=>zK (k:=2) (o:=(i3.toNat*10)) (off:=5) underlying51 rfl rfl sizeOf49 p.1
       ·exact D1 fun e s p=>zAO (m:=5) (s:=1) (i:=i4) (k:=2) (o:=(i3.toNat*10+5)) underlying49 sizeOf22 p.1 p.2.2.2.2.2.1 hb12
       ·
        intro e41 hs41 hp40
        refine zm (H':=[.box 26 [AV.osl 3 1 (List.map cI x1),li a_p0.batch,li a_p0.high,AV.hd 2,AV.osl 55 1 (List.map zH x3)],.box 26 (zG ⟨[],0,0,[],[]⟩),.vec 51 10 (List.map zO (l9.set i3.toNat ({ at_ l9 i3 with free:=zDo 5 ([]:List Int) ((at_ l9 i3).free) i4.toNat x6 })))]) (zCJ (k:=2) (o:=(i3.toNat*10+5+i4.toNat*1)) (f:=zO) (l:=l9) (i:=i3) (c:=5+i4.toNat) (a:=(ls cI x6)) (z:={ at_ l9 i3 with free:=zDo 5 ([]:List Int) ((at_ l9 i3).free) i4.toNat x6 }) sizeOf22 (by exact hp40.1) rfl (by first | rfl | omega) hb11 (zSw hb12 rfl) (by exact hp40.2.2.2.2.2.2.2.2.2.2.2.2.2.2.2.1) rfl rfl (zQr (n:=5) (g:=(eS cI)) (d:=([]:List Int)) (l:=(at_ l9 i3).free) (i:=i4.toNat) (x:=x6) (zBK hb12).2 ([(li ((at_ l9 i3).node))]++[(li ((at_ l9 i3).kind))]++[(li ((at_ l9 i3).start))]++[(li ((at_ l9 i3).count))]++[(li ((at_ l9 i3).min))]++[]) ([]))) ?_
        exact zF ⟨fun _=>rfl,rfl⟩
       intro e42 hs42 hq2
       refine zV (zBY (l:=[(1,(AV.ptr 0 0)),(2,(AV.ptr 1 0)),(3,(li i3)),(22,(li (x2.length:Int))),(23,(li i3)),(26,(li i4))]) ⟨hs42 1 rfl,hs42 2 rfl,hs42 3 rfl,hs42 22 rfl,hs42 23 rfl,hs42 26 rfl,trivial⟩)<|zC<|zM h fun hb13 h=>zA (zf (a:=i4) (b:=1) rfl rfl hb13)<|zA (zB (av:=(li (i4+1))) rfl)<|zF ?_
       exact ⟨(n3,(i4+1),(l9.set i3.toNat ({ at_ l9 i3 with free:=zDo 5 ([]:List Int) ((at_ l9 i3).free) i4.toNat x6 }))),Nat.lt_succ_self _,Rep.trans (zAJ (k:=0) (j:=2) (o:=3) rfl rfl rfl rfl) (zAE [0,1] (l:=[(1,(AV.ptr 0 0)),(2,(AV.ptr 1 0)),(3,(li i3)),(22,(li (x2.length:Int))),(23,(li i3)),(26,(li (i4+1)))]) rfl rfl (by kernel_rfl)),h⟩
      ·refine zy ?_
       exact ⟨l9,zAE [0,1] rfl rfl (by kernel_rfl),h⟩
    ·
     clear h
     rintro e' H' ⟨l8,hrep,h⟩
     refine zV hrep ?_
     clear hrep
     unfold zEs at h
     refine zC<|zM h fun hb9 h=>zA (zf rfl rfl hb9)<|zA (zB rfl)<|zF ?_
     exact ⟨(n2,(i3+1),l8),Nat.lt_succ_self _,zAE [0,1] rfl rfl (by kernel_rfl),h⟩
   ·refine zy ?_
    exact ⟨l7,zAE [0,1] rfl rfl (by kernel_rfl),h⟩
 ·
  clear h
  rintro e' H' ⟨l1,hrep,h⟩
  refine zV hrep ?_
  clear hrep
  unfold zEt at h
  refine zx (fun e' H' => ∃ (l2:List zL),Rep 82 0 e' H' (mkE [(1,(AV.ptr 0 0)),(2,(AV.ptr 1 0))]) [.box 26 [AV.osl 3 1 (List.map cI x1),li a_p0.batch,li a_p0.high,AV.osl 51 10 (List.map zO l1),AV.osl 55 1 (List.map zH l2)],.box 26 (zG ⟨[],0,0,[],[]⟩)]∧zGL a_p0 x1 l1 l2=some r) ?_ ?_
  ·
   refine zI<|zC<|zA (zK underlying26 rfl rfl sizeOf24 rfl)<|zAF (zBA (k:=0) (o:=4) (t':=55) (sz:=1) (rows:=List.map zH x3) rfl rfl)<|zA (zN isAgg24 rfl rfl rfl rfl)<|zA (zDx (f:=zH) (l:=x3) underlying24 rfl rfl) ?_
   refine zA (zB rfl)<|zF<|zQ<|z6 (σ:=Nat×Int×(List zL)) (fun s=>s.1) (fun s e' H'=>match s with | (n0,i1,l3)=>Rep 82 0 e' H' (mkE [(1,(AV.ptr 0 0)),(2,(AV.ptr 1 0)),(49,(li (x3.length:Int))),(50,(li i1))]) [.box 26 [AV.osl 3 1 (List.map cI x1),li a_p0.batch,li a_p0.high,AV.osl 51 10 (List.map zO l1),AV.osl 55 1 (List.map zH l3)],.box 26 (zG ⟨[],0,0,[],[]⟩)]∧zA4 a_p0 x1 x3 l1 n0 i1 l3=some r) (z9,0,x3) ⟨Rep.trans (zAJ (k:=0) (j:=2) (o:=4) rfl rfl rfl rfl) (zAE [0,1] (l:=[(1,(AV.ptr 0 0)),(2,(AV.ptr 1 0)),(49,(li (x3.length:Int))),(50,(li 0))]) rfl rfl (by kernel_rfl)),h⟩ ?_
   clear h
   rintro ⟨n0,i1,l3⟩ e' H' ⟨hrep,h⟩
   cases n0 with
   | zero=>exact absurd (show (none:Option _)=some r from h) (by simp)
   | succ n0 =>
    replace h:zB1 a_p0 x1 x3 l1 (zA4 a_p0 x1 x3 l1 n0) i1 l3=some r:=h
    unfold zB1 at h
    refine zV hrep ?_
    clear hrep
    refine zI<|zC<|zA (ze rfl rfl)<|zF<|zI ?_
    refine zY h rfl (fun hb1 h => ?_) (fun hb1 h => ?_)
    ·refine zP ?_
     refine zx (fun e' H' => ∃ (l4:List zL),Rep 82 0 e' H' (mkE [(1,(AV.ptr 0 0)),(2,(AV.ptr 1 0)),(49,(li (x3.length:Int))),(50,(li i1))]) [.box 26 [AV.osl 3 1 (List.map cI x1),li a_p0.batch,li a_p0.high,AV.osl 51 10 (List.map zO l1),AV.osl 55 1 (List.map zH l4)],.box 26 (zG ⟨[],0,0,[],[]⟩)]∧zEo (zA4 a_p0 x1 x3 l1 n0) i1 l4=some r) ?_ ?_
     ·
      refine zQ<|zI<|zC<|zA (zB rfl)<|zA (zD rfl)<|zF ?_
      refine zI<|zC<|zA (zK underlying26 rfl rfl sizeOf24 rfl)<|zAF (zBA (k:=0) (o:=4) (t':=55) (sz:=1) (rows:=List.map zH l3) rfl rfl)<|zA (zN isAgg24 rfl rfl rfl rfl)<|zA (zB rfl) ?_
      refine zM h fun hb3 h=>zA (zAC (f:=zH) (l:=l3) (i:=i1) underlying24 sizeOf55 rfl rfl rfl hb3)<|zA (zK underlying55 rfl rfl sizeOf53 rfl)<|zA (zBS (f:=zH) (l:=l3) (i:=i1) (c:=0) (a:=(ls (cS cI) ((at_ l3 i1).lists))) isAgg53 rfl rfl (by first | rfl | omega) hb3 rfl rfl)<|zR h fun x4 hx4 h=>zHV (T:=22) (sz:=1) (rows:=List.map (cS cI) x4) (la:=[(ls (cS cI) ((at_ l3 i1).lists))]) (la':=[(ls (cS cI) ((at_ l3 i1).lists))]) (S:=[]) func108 rfl (by kernel_rfl) (.fn 108) rfl ⟨zAt.nr rfl,trivial⟩ (zIt hx4) (.inl rfl) ?_
      refine zA (zD rfl)<|zF ?_
      refine zx (fun e' H' => ∃ (l5:List (List Int)),Rep 82 0 e' H' (mkE [(1,(AV.ptr 0 0)),(2,(AV.ptr 1 0)),(5,(li i1)),(6,(AV.hd 2)),(49,(li (x3.length:Int))),(50,(li i1))]) [.box 26 [AV.osl 3 1 (List.map cI x1),li a_p0.batch,li a_p0.high,AV.osl 51 10 (List.map zO l1),AV.osl 55 1 (List.map zH l3)],.box 26 (zG ⟨[],0,0,[],[]⟩),.vec 22 1 (List.map (cS cI) l5)]∧zEn (zA4 a_p0 x1 x3 l1 n0) i1 l3 l5=some r) ?_ ?_
      ·
       refine zI<|zC<|zA (zB rfl)<|zA (zDx (f:=(cS cI)) (l:=x4) underlying53 rfl rfl)<|zA (zB rfl)<|zF ?_
       refine zQ<|z6 (σ:=Nat×Int×(List (List Int))) (fun s=>s.1) (fun s e' H'=>match s with | (n1,i2,l6)=>Rep 82 0 e' H' (mkE [(1,(AV.ptr 0 0)),(2,(AV.ptr 1 0)),(5,(li i1)),(6,(AV.hd 2)),(49,(li (x3.length:Int))),(50,(li i1)),(61,(li (x4.length:Int))),(62,(li i2))]) [.box 26 [AV.osl 3 1 (List.map cI x1),li a_p0.batch,li a_p0.high,AV.osl 51 10 (List.map zO l1),AV.osl 55 1 (List.map zH l3)],.box 26 (zG ⟨[],0,0,[],[]⟩),.vec 22 1 (List.map (cS cI) l6)]∧zDC (zA4 a_p0 x1 x3 l1 n0) i1 l3 x4 n1 i2 l6=some r) (z9,0,x4) ⟨Rep.trans (zAJ (k:=0) (j:=2) (o:=4) rfl rfl rfl rfl) (zAE [0,1,3] (l:=[(1,(AV.ptr 0 0)),(2,(AV.ptr 1 0)),(5,(li i1)),(6,(AV.hd 2)),(49,(li (x3.length:Int))),(50,(li i1)),(61,(li (x4.length:Int))),(62,(li 0))]) rfl rfl (by kernel_rfl)),h⟩ ?_
       clear h
       rintro ⟨n1,i2,l6⟩ e' H' ⟨hrep,h⟩
       cases n1 with
       | zero=>exact absurd (show (none:Option _)=some r from h) (by simp)
       | succ n1 =>
        replace h:zBn (zA4 a_p0 x1 x3 l1 n0) i1 l3 x4 (zDC (zA4 a_p0 x1 x3 l1 n0) i1 l3 x4 n1) i2 l6=some r:=h
        unfold zBn at h
        refine zV hrep ?_
        clear hrep
        refine zI<|zC<|zA (ze rfl rfl)<|zF<|zI ?_
        refine zY h rfl (fun hb5 h => ?_) (fun hb5 h => ?_)
        ·refine zP<|zI<|zQ<|zI<|zC<|zA (zB rfl) ?_
         refine zA (zD rfl)<|zF<|zC<|zA (zB rfl)<|zA (zB rfl)<|zA (zB rfl) ?_
         refine zA (zB rfl)<|zM h fun hb6 h=>zA (zAC (f:=(cS cI)) (l:=l6) (i:=i2) underlying53 sizeOf22 rfl rfl rfl hb6)<|zA (zBS (f:=(cS cI)) (l:=l6) (i:=i2) (c:=0) (a:=(ls cI (at_ l6 i2))) isAgg22 rfl rfl (by first | rfl | omega) hb6 rfl rfl)<|zR h fun x5 hx5 h=>zHV (T:=3) (sz:=1) (rows:=List.map cI x5) (la:=[(ls cI (at_ l6 i2))]) (la':=[(ls cI (at_ l6 i2))]) (S:=[]) func80 rfl (by kernel_rfl) (.fn 80) rfl ⟨zAt.nr rfl,trivial⟩ (zAS hx5) (.inl rfl) ?_
         refine zA (zAC (f:=(cS cI)) (l:=l6) (i:=i2) underlying53 sizeOf22 rfl rfl rfl hb6)<|zm (H':=[.box 26 [AV.osl 3 1 (List.map cI x1),li a_p0.batch,li a_p0.high,AV.osl 51 10 (List.map zO l1),AV.osl 55 1 (List.map zH l3)],.box 26 (zG ⟨[],0,0,[],[]⟩),.vopen 22 1 (List.map (cS cI) l6) i2.toNat [.hd 3],.vec 3 1 (List.map cI x5)]) (zMB (k:=2) (j:=3) (i:=i2.toNat) sizeOf22 rfl rfl rfl (by rw [List.length_map]; exact (zBK hb6).2) rfl rfl)<|zF<|zC<|zM h fun hb7 h=>zA (zf rfl rfl hb7) ?_
         refine zA (zB rfl)<|zF ?_
         exact ⟨(n1,(i2+1),(l6.set i2.toNat x5)),Nat.lt_succ_self _,Rep.trans (zMM (k:=2) (j:=3) (f:=cI) (l:=l6) (l':=x5) (fun _=>rfl) rfl rfl rfl) (zAE [0,1,2] (l:=[(1,(AV.ptr 0 0)),(2,(AV.ptr 1 0)),(5,(li i1)),(6,(AV.hd 2)),(49,(li (x3.length:Int))),(50,(li i1)),(61,(li (x4.length:Int))),(62,(li (i2+1)))]) rfl rfl (by kernel_rfl)),h⟩
        ·refine zy ?_
         exact ⟨l6,zAE [0,1,2] rfl rfl (by kernel_rfl),h⟩
      ·
       clear h
       rintro e' H' ⟨l5,hrep,h⟩
       refine zV hrep ?_
       clear hrep
       unfold zEn at h
       refine zC<|zA (zK underlying26 rfl rfl sizeOf24 rfl)<|zAF (zBA (k:=0) (o:=4) (t':=55) (sz:=1) (rows:=List.map zH l3) rfl rfl)<|zA (zN isAgg24 rfl rfl rfl rfl)<|zA (zB rfl)<|zA (zB rfl) ?_
       refine zM h fun hb4 h=>zA (zAC (f:=zH) (l:=l3) (i:=i1) underlying24 sizeOf55 rfl rfl rfl hb4)<|zA (zK underlying55 rfl rfl sizeOf53 rfl)<|zAF (zET (j:=2) (ds:=[6,77]) (rows':=List.map (cS cI) l5) rfl (zAP (fun _=>rfl)) ⟨rfl,rfl,trivial⟩)<|zm (H':=[.box 26 [AV.osl 3 1 (List.map cI x1),li a_p0.batch,li a_p0.high,AV.osl 51 10 (List.map zO l1),AV.hd 3],.box 26 (zG ⟨[],0,0,[],[]⟩),.dead,.vec 55 1 (List.map zH (l3.set i1.toNat ({ at_ l3 i1 with lists:=l5 })))]) (zCJ (k:=3) (o:=(i1.toNat*1)) (f:=zH) (l:=l3) (i:=i1) (c:=0) (a:=(ls (cS cI) l5)) (z:={ at_ l3 i1 with lists:=l5 }) sizeOf53 rfl rfl (by first | rfl | omega) hb4 rfl rfl rfl rfl rfl)<|zF ?_
       exact ⟨(l3.set i1.toNat ({ at_ l3 i1 with lists:=l5 })),Rep.trans (zAJ (k:=0) (j:=3) (o:=4) rfl rfl rfl rfl) (zAE [0,1] (l:=[(1,(AV.ptr 0 0)),(2,(AV.ptr 1 0)),(49,(li (x3.length:Int))),(50,(li i1))]) rfl rfl (by kernel_rfl)),h⟩
     ·
      clear h
      rintro e' H' ⟨l4,hrep,h⟩
      refine zV hrep ?_
      clear hrep
      unfold zEo at h
      refine zC<|zM h fun hb2 h=>zA (zf rfl rfl hb2)<|zA (zB rfl)<|zF ?_
      exact ⟨(n0,(i1+1),l4),Nat.lt_succ_self _,zAE [0,1] rfl rfl (by kernel_rfl),h⟩
    ·refine zy ?_
     exact ⟨l3,zAE [0,1] rfl rfl (by kernel_rfl),h⟩
  ·
   clear h
   rintro e' H' ⟨l2,hrep,h⟩
   refine zV hrep ?_
   clear hrep
   unfold zGL at h
   refine zI<|zC<|zAF (zBb (k:=0) (o:=0) (rows':=List.map cI x1) rfl rfl (zAP (fun _=>rfl)))<|za (zJH (k:=0) (cs:=[ls cI x1,li a_p0.batch,li a_p0.high,AV.osl 51 10 (List.map zO l1),AV.osl 55 1 (List.map zH l2)]) (m:=5) isAgg26 sizeOf26 rfl rfl rfl)<|zm (H':=[.dead,.box 26 [ls cI x1,li a_p0.batch,li a_p0.high,AV.osl 51 10 (List.map zO l1),AV.osl 55 1 (List.map zH l2)],.dead]) (zCd (k:=1) (o:=0) (j:=2) (cs:=(zG ⟨[],0,0,[],[]⟩)) (la:=[ls cI x1,li a_p0.batch,li a_p0.high,AV.osl 51 10 (List.map zO l1),AV.osl 55 1 (List.map zH l2)]) sizeOf26 rfl rfl rfl rfl rfl (by decide))<|zF ?_
   refine zb ?_
   show zAQ _ _ _ _ _ _
   obtain rfl:=Option.some.inj h
   exact zu (zFa isAgg26 sizeOf26 rfl rfl rfl rfl)
theorem zKM {a_z:zp} {r:zp} (h:zIA a_z=some r):PFn prog 118 [(AV.agg (zO a_z))] (AV.agg ([li r.node]++([li r.kind]++([li r.start]++([li r.count]++([li r.min]++((cM 5 3 (5:Int) r.free)++[]))))))):=by
 refine zq func118 rfl ntmps118 results118 rfl ?_
 unfold zIA at h
 refine zI<|zC<|za (H':=[.box 51 (zO a_z)]) (zw (t:=51) rfl)<|za (H':=[.box 51 (zO a_z),.box 51 (zO ⟨0,0,0,0,0,(List.replicate 5 ([]:List Int))⟩)]) (zv (t:=51) (vs:=[.int .i64 0,.int .i64 0,.int .i64 0,.int .i64 0,.int .i64 0,.slice none 0 0,.slice none 0 0,.slice none 0 0,.slice none 0 0,.slice none 0 0]) (cs:=[.lit (.int .i64 0),.lit (.int .i64 0),.lit (.int .i64 0),.lit (.int .i64 0),.lit (.int .i64 0),.sl false [],.sl false [],.sl false [],.sl false [],.sl false []]) zeroValue51 (by kernel_rfl) rfl ⟨zh.refl _,zh.refl _,zh.refl _,zh.refl _,zh.refl _,zh.nils,zh.nils,zh.nils,zh.nils,zh.nils,trivial⟩)<|zF ?_
 refine zx (fun e' H' => ∃ (l1:List (List Int)) (i1:Int),Rep 17 0 e' H' (mkE [(1,(AV.ptr 0 0)),(2,(AV.ptr 1 0))]) [.box 51 ([li a_z.node,li a_z.kind,li a_z.start,li a_z.count,li a_z.min]++((cM 5 3 i1 l1)++[])),.box 51 (zO ⟨0,0,0,0,0,(List.replicate 5 ([]:List Int))⟩)]∧zHH a_z l1 i1=some r) ?_ ?_
 ·
  refine zI<|zC<|zA (zB rfl)<|zF<|zQ<|z6 (σ:=Nat×Int×(List (List Int))) (fun s=>s.1) (fun s e' H'=>match s with | (n0,i2,l2)=>Rep 17 0 e' H' (mkE [(1,(AV.ptr 0 0)),(2,(AV.ptr 1 0)),(4,(li i2))]) [.box 51 ([li a_z.node,li a_z.kind,li a_z.start,li a_z.count,li a_z.min]++((cM 5 3 i2 l2)++[])),.box 51 (zO ⟨0,0,0,0,0,(List.replicate 5 ([]:List Int))⟩)]∧zFb a_z n0 i2 l2=some r) (z9,0,a_z.free) ⟨zAE [0,1] rfl rfl (by kernel_rfl),h⟩ ?_
  clear h
  rintro ⟨n0,i2,l2⟩ e' H' ⟨hrep,h⟩
  cases n0 with
  | zero=>exact absurd (show (none:Option _)=some r from h) (by simp)
  | succ n0 =>
   replace h:zDX a_z (zFb a_z n0) i2 l2=some r:=h
   unfold zDX at h
   refine zV hrep ?_
   clear hrep
   refine zI<|zC<|zA (ze rfl rfl)<|zF<|zI ?_
   refine zY h rfl (fun hb2 h => ?_) (fun hb2 h => ?_)
   ·refine zP<|zI<|zQ<|zI<|zC<|zA (zB rfl) ?_
    refine zA (zD rfl)<|zF<|zC<|zA (zB rfl)<|zA (zB rfl)<|zA (zK underlying51 rfl rfl sizeOf49 rfl) ?_
    refine zM h fun hb3 h=>zA (zAO (m:=5) (s:=1) (i:=i2) (k:=0) (o:=5) underlying49 sizeOf22 rfl rfl hb3)<|zA (zOo (k:=0) (o:=(5+i2.toNat*1)) (cs:=([li a_z.node,li a_z.kind,li a_z.start,li a_z.count,li a_z.min]++((cM 5 3 i2 l2)++[]))) (hd:=([li a_z.node]++[li a_z.kind]++[li a_z.start]++[li a_z.count]++[li a_z.min]++[])) (tl:=([])) (N:=5) (T':=3) (K:=i2) (l:=l2) (i:=i2) isAgg22 rfl rfl rfl (congrArg (fun q=>5+q) (Nat.mul_one _)) hb3 (decide_eq_true (Int.le_refl _)))<|zR h fun x1 hx1 h=>zHV (T:=3) (sz:=1) (rows:=List.map cI x1) (la:=[(ls cI (l2.getD i2.toNat []))]) (la':=[(ls cI (l2.getD i2.toNat []))]) (S:=[]) func80 rfl (by kernel_rfl) (.fn 80) rfl ⟨zAt.nr rfl,trivial⟩ (zAS hx1) (.inl rfl)<|zA (zK underlying51 rfl rfl sizeOf49 rfl) ?_
    refine zA (zAO (m:=5) (s:=1) (i:=i2) (k:=0) (o:=5) underlying49 sizeOf22 rfl rfl hb3)<|zm (H':=[.box 51 ([li a_z.node,li a_z.kind,li a_z.start,li a_z.count,li a_z.min]++((List.set (cM 5 3 i2 l2) i2.toNat (AV.hd 2))++[])),.box 51 (zO ⟨0,0,0,0,0,(List.replicate 5 ([]:List Int))⟩),.vec 3 1 (List.map cI x1)]) (zL1 (k:=0) (o:=(5+i2.toNat*1)) (cs:=([li a_z.node,li a_z.kind,li a_z.start,li a_z.count,li a_z.min]++((cM 5 3 i2 l2)++[]))) (hd:=([li a_z.node]++[li a_z.kind]++[li a_z.start]++[li a_z.count]++[li a_z.min]++[])) (tl:=([])) (s:=(cM 5 3 i2 l2)) (i:=i2) (a:=(AV.hd 2)) sizeOf22 rfl rfl rfl (congrArg (fun q=>5+q) (Nat.mul_one _)) (zHu hb3) rfl rfl)<|zF<|zC<|zM h fun hb4 h=>zA (zf rfl rfl hb4) ?_
    refine zA (zB rfl)<|zF ?_
    exact ⟨(n0,(i2+1),(zDo 5 [] l2 i2.toNat x1)),Nat.lt_succ_self _,Rep.trans (zO4 (K':=i2+1) (j:=2) (l':=x1) (k:=0) (cs:=([li a_z.node,li a_z.kind,li a_z.start,li a_z.count,li a_z.min]++((List.set (cM 5 3 i2 l2) i2.toNat (AV.hd 2))++[]))) (hd:=([li a_z.node]++[li a_z.kind]++[li a_z.start]++[li a_z.count]++[li a_z.min]++[])) (tl:=([])) (N:=5) (T:=3) (K:=i2) (l:=l2) (i:=i2) rfl rfl hb3 (decide_eq_true rfl) rfl rfl rfl) (zBe (n:=17) (m:=0) [0,1] (l:=[(1,(AV.ptr 0 0)),(2,(AV.ptr 1 0)),(4,(li (i2+1)))]) ⟨⟨Sub.refl _,by kernel_rfl⟩,⟨Sub.refl _,by kernel_rfl⟩,⟨Sub.refl _,by kernel_rfl⟩,trivial⟩ rfl rfl ⟨⟨rfl,zRi (hd:=([li a_z.node]++[li a_z.kind]++[li a_z.start]++[li a_z.count]++[li a_z.min]++[])) (tl:=([])) (N:=5) (T:=3) (K:=i2+1) (l:=zDo 5 [] l2 i2.toNat x1) (by kernel_rfl) (by kernel_rfl) rfl⟩,⟨rfl,by kernel_rfl⟩,trivial⟩),h⟩
   ·refine zy ?_
    exact ⟨l2,i2,zBe (n:=17) (m:=0) [0,1] (l:=[(1,(AV.ptr 0 0)),(2,(AV.ptr 1 0))]) ⟨⟨Sub.refl _,by kernel_rfl⟩,⟨Sub.refl _,by kernel_rfl⟩,trivial⟩ rfl rfl ⟨⟨rfl,zRi (hd:=([li a_z.node]++[li a_z.kind]++[li a_z.start]++[li a_z.count]++[li a_z.min]++[])) (tl:=([])) (N:=5) (T:=3) (K:=i2) (l:=l2) (by kernel_rfl) (by kernel_rfl) rfl⟩,⟨rfl,by kernel_rfl⟩,trivial⟩,h⟩
 ·
  clear h
  rintro e' H' ⟨l1,i1,hrep,h⟩
  refine zV hrep ?_
  clear hrep
  unfold zHH at h
  refine zI<|zC<|zM h fun hb1 h=>zAF (zQ0 (k:=0) (cs:=([li a_z.node,li a_z.kind,li a_z.start,li a_z.count,li a_z.min]++((cM 5 3 i1 l1)++[]))) (hd:=([li a_z.node]++[li a_z.kind]++[li a_z.start]++[li a_z.count]++[li a_z.min]++[])) (tl:=([])) (N:=5) (T:=3) (K:=i1) (l:=l1) rfl rfl hb1)<|za (zJH (k:=0) (cs:=([li a_z.node,li a_z.kind,li a_z.start,li a_z.count,li a_z.min]++((cM 5 3 (5:Int) l1)++[]))) (m:=10) isAgg51 sizeOf51 rfl rfl rfl)<|zm (H':=[.dead,.box 51 ([li a_z.node,li a_z.kind,li a_z.start,li a_z.count,li a_z.min]++((cM 5 3 (5:Int) l1)++[])),.dead]) (zCd (k:=1) (o:=0) (j:=2) (cs:=(zO ⟨0,0,0,0,0,(List.replicate 5 ([]:List Int))⟩)) (la:=([li a_z.node,li a_z.kind,li a_z.start,li a_z.count,li a_z.min]++((cM 5 3 (5:Int) l1)++[]))) sizeOf51 rfl rfl rfl rfl rfl (by decide)) ?_
  refine zF<|zb ?_
  show zAQ _ _ _ _ _ _
  obtain rfl:=Option.some.inj h
  exact zu (zFa isAgg51 sizeOf51 rfl rfl rfl rfl)
theorem zKP {a_p0:zp} {a_p1:Int} {r:zp×Int×Int} (h:zJR a_p0 a_p1=some r):PFn prog 64 [(AV.agg (zO a_p0)),li a_p1] (AV.tup [(AV.agg (zO r.1)),li r.2.1,li r.2.2]):=by
 refine zq func64 rfl ntmps64 results64 rfl ?_
 unfold zJR at h
 refine zI<|zC<|za (H':=[.box 51 (zO a_p0)]) (zw (t:=51) rfl)<|za (H':=[.box 51 (zO a_p0),.box 51 (zO ⟨0,0,0,0,0,(List.replicate 5 ([]:List Int))⟩)]) (zv (t:=51) (vs:=[.int .i64 0,.int .i64 0,.int .i64 0,.int .i64 0,.int .i64 0,.slice none 0 0,.slice none 0 0,.slice none 0 0,.slice none 0 0,.slice none 0 0]) (cs:=[.lit (.int .i64 0),.lit (.int .i64 0),.lit (.int .i64 0),.lit (.int .i64 0),.lit (.int .i64 0),.sl false [],.sl false [],.sl false [],.sl false [],.sl false []]) zeroValue51 (by kernel_rfl) rfl ⟨zh.refl _,zh.refl _,zh.refl _,zh.refl _,zh.refl _,zh.nils,zh.nils,zh.nils,zh.nils,zh.nils,trivial⟩)<|zA (zD rfl)<|zA (zD rfl) ?_
 refine zF<|zI<|zI<|zC<|zA (zS (k:=0) (o:=0) (m:=10) isAgg51 sizeOf51 rfl rfl rfl rfl rfl)<|zR h fun x1 hx1 h => ?_
 refine zi func42 rfl (by kernel_rfl) (.fn 42) rfl rfl (zEi hx1) rfl<|zA (zD rfl)<|zF<|zI<|zC<|zA (zB rfl) ?_
 refine zA (z7 rfl rfl)<|zF ?_
 refine zY h rfl (fun hb1 h => ?_) (fun hb1 h => ?_)
 ·refine zI<|zC<|zA (z8 (pl:=[(0,1),(1,1),(2,1),(3,1),(4,1),(5,5)]) (zs:=[.int .i64 0,.int .i64 0,.int .i64 0,.int .i64 0,.int .i64 0,.slice none 0 0,.slice none 0 0,.slice none 0 0,.slice none 0 0,.slice none 0 0]) (zc:=[.lit (.int .i64 0),.lit (.int .i64 0),.lit (.int .i64 0),.lit (.int .i64 0),.lit (.int .i64 0),.sl false [],.sl false [],.sl false [],.sl false [],.sl false []]) (res:=(zO (⟨0,0,0,0,0,(List.replicate 5 ([]:List Int))⟩:zp))) (fun _=>by kernel_rfl) rfl (⟨zh.refl _,⟨zh.refl _,⟨zh.refl _,⟨zh.refl _,⟨zh.refl _,⟨zh.nils,⟨zh.nils,⟨zh.nils,⟨zh.nils,⟨zh.nils,trivial⟩⟩⟩⟩⟩⟩⟩⟩⟩⟩) (by exact zFX.refl _))<|zA (zB rfl)<|zm (H':=[.box 51 (zO a_p0),.box 51 (zO (⟨0,0,0,0,0,(List.replicate 5 ([]:List Int))⟩:zp))]) (zZ (k:=1) (o:=0) (cs:=(zO ⟨0,0,0,0,0,(List.replicate 5 ([]:List Int))⟩)) (la:=(zO (⟨0,0,0,0,0,(List.replicate 5 ([]:List Int))⟩:zp))) sizeOf51 rfl rfl rfl rfl)<|zA (zD rfl) ?_
  refine zA (zD rfl)<|zF<|zb ?_
  show zAQ _ _ _ _ _ _
  obtain rfl:=Option.some.inj h
  exact zC6 (zFa isAgg51 sizeOf51 rfl rfl rfl rfl) (zAM rfl rfl) (zAM rfl rfl) rfl
 ·refine zP<|zI<|zI<|zC<|zA (zB rfl)<|zA (ze rfl rfl) ?_
  refine zA (zB rfl)<|zT rfl rfl (fun hc1=>zt.step (zB rfl))<|zT rfl rfl (fun hc2=>zt.step (zAl (z5 rfl hc2) rfl))<|zA (zd rfl rfl)<|zF ?_
  refine zY h rfl (fun hb2 h => ?_) (fun hb2 h => ?_)
  ·refine zI<|zC<|zA (z8 (pl:=[(0,1),(1,1),(2,1),(3,1),(4,1),(5,5)]) (zs:=[.int .i64 0,.int .i64 0,.int .i64 0,.int .i64 0,.int .i64 0,.slice none 0 0,.slice none 0 0,.slice none 0 0,.slice none 0 0,.slice none 0 0]) (zc:=[.lit (.int .i64 0),.lit (.int .i64 0),.lit (.int .i64 0),.lit (.int .i64 0),.lit (.int .i64 0),.sl false [],.sl false [],.sl false [],.sl false [],.sl false []]) (res:=(zO (⟨0,0,0,0,0,(List.replicate 5 ([]:List Int))⟩:zp))) (fun _=>by kernel_rfl) rfl (⟨zh.refl _,⟨zh.refl _,⟨zh.refl _,⟨zh.refl _,⟨zh.refl _,⟨zh.nils,⟨zh.nils,⟨zh.nils,⟨zh.nils,⟨zh.nils,trivial⟩⟩⟩⟩⟩⟩⟩⟩⟩⟩) (by exact zFX.refl _))<|zm (H':=[.box 51 (zO a_p0),.box 51 (zO (⟨0,0,0,0,0,(List.replicate 5 ([]:List Int))⟩:zp))]) (zZ (k:=1) (o:=0) (cs:=(zO ⟨0,0,0,0,0,(List.replicate 5 ([]:List Int))⟩)) (la:=(zO (⟨0,0,0,0,0,(List.replicate 5 ([]:List Int))⟩:zp))) sizeOf51 rfl rfl rfl rfl)<|zA (zD rfl)<|zA (zD rfl) ?_
   refine zF<|zb ?_
   show zAQ _ _ _ _ _ _
   obtain rfl:=Option.some.inj h
   exact zC6 (zFa isAgg51 sizeOf51 rfl rfl rfl rfl) (zAM rfl rfl) (zAM rfl rfl) rfl
  ·refine zP<|zI<|zC<|zA (zB rfl)<|zA (zD rfl)<|zF ?_
   refine zx (fun e' H' => ∃ (i1:Int),Rep 90 0 e' H' (mkE [(1,(li a_p1)),(2,(AV.ptr 0 0)),(4,(AV.ptr 1 0)),(8,(li i1))]) [.box 51 (zO a_p0),.box 51 (zO ⟨0,0,0,0,0,(List.replicate 5 ([]:List Int))⟩)]∧zIh a_p0 a_p1 i1=some r) ?_ ?_
   ·
    refine zQ<|z6 (σ:=Nat×Int) (fun s=>s.1) (fun s e' H'=>match s with | (n1,i3)=>Rep 90 0 e' H' (mkE [(1,(li a_p1)),(2,(AV.ptr 0 0)),(4,(AV.ptr 1 0)),(8,(li i3))]) [.box 51 (zO a_p0),.box 51 (zO ⟨0,0,0,0,0,(List.replicate 5 ([]:List Int))⟩)]∧zHI a_p0 a_p1 n1 i3=some r) (z9,a_p1) ⟨zAE [0,1] rfl rfl (by kernel_rfl),h⟩ ?_
    clear h
    rintro ⟨n1,i3⟩ e' H' ⟨hrep,h⟩
    cases n1 with
    | zero=>exact absurd (show (none:Option _)=some r from h) (by simp)
    | succ n1 =>
     replace h:zId a_p0 a_p1 (zHI a_p0 a_p1 n1) i3=some r:=h
     unfold zId at h
     refine zV hrep ?_
     clear hrep
     refine zI<|zI<|zC<|zA (zB rfl)<|zA (zCi rfl rfl)<|zA (zB rfl) ?_
     refine zo rfl rfl (fun hc3=>zt.step (zB rfl))<|zo rfl rfl (fun hc4=>zt.step (zK underlying51 rfl rfl sizeOf49 rfl))<|zM h fun hb17 h=>zo rfl rfl (fun hc5=>zt.step (zAO (m:=5) (s:=1) (i:=i3) (k:=0) (o:=5) underlying49 sizeOf22 (z5 rfl hc5) (z5 rfl hc5) (zGd hb17 hc5)))<|zo rfl rfl (fun hc6=>zt.step (zAr (k:=0) (o:=(5+i3.toNat*1)) (cs:=(zO a_p0)) (hd:=([li a_p0.node]++[li a_p0.kind]++[li a_p0.start]++[li a_p0.count]++[li a_p0.min]++[])) (tl:=([])) (g:=(eS cI)) (d0:=([]:List Int)) (l:=a_p0.free) (N:=5) (i:=i3.toNat) (a:=(ls cI (a_p0.free.getD i3.toNat ([]:List Int)))) isAgg22 (z5 rfl hc6) rfl rfl (congrArg (fun q=>5+q) (Nat.mul_one _)) (zBK (zGd hb17 hc6)).2 rfl rfl))<|zo rfl rfl (fun hc7=>zt.step (zX underlying22 (z5 rfl hc7))) ?_
     refine zo rfl rfl (fun hc8=>zt.step (zBR (z5 rfl hc8) rfl))<|zA (zz (j := .lit undef) rfl rfl)<|zF ?_
     refine zY h rfl (fun hb18 h => ?_) (fun hb18 h => ?_)
     ·refine zP<|zQ<|zC<|zA (zB rfl)<|zM h fun hb19 h=>zA (zf rfl rfl hb19) ?_
      refine zA (zD rfl)<|zF ?_
      exact ⟨(n1,(i3+1)),Nat.lt_succ_self _,zAE [0,1] rfl rfl (by kernel_rfl),h⟩
     ·refine zy ?_
      exact ⟨i3,zAE [0,1] rfl rfl (by kernel_rfl),h⟩
   ·
    clear h
    rintro e' H' ⟨i1,hrep,h⟩
    refine zV hrep ?_
    clear hrep
    unfold zIh at h
    refine zI<|zI<|zC<|zA (zB rfl)<|zA (zAl rfl rfl)<|zF ?_
    refine zY h rfl (fun hb3 h => ?_) (fun hb3 h => ?_)
    ·refine zI<|zC<|zA (z8 (pl:=[(0,1),(1,1),(2,1),(3,1),(4,1),(5,5)]) (zs:=[.int .i64 0,.int .i64 0,.int .i64 0,.int .i64 0,.int .i64 0,.slice none 0 0,.slice none 0 0,.slice none 0 0,.slice none 0 0,.slice none 0 0]) (zc:=[.lit (.int .i64 0),.lit (.int .i64 0),.lit (.int .i64 0),.lit (.int .i64 0),.lit (.int .i64 0),.sl false [],.sl false [],.sl false [],.sl false [],.sl false []]) (res:=(zO (⟨0,0,0,0,0,(List.replicate 5 ([]:List Int))⟩:zp))) (fun _=>by kernel_rfl) rfl (⟨zh.refl _,⟨zh.refl _,⟨zh.refl _,⟨zh.refl _,⟨zh.refl _,⟨zh.nils,⟨zh.nils,⟨zh.nils,⟨zh.nils,⟨zh.nils,trivial⟩⟩⟩⟩⟩⟩⟩⟩⟩⟩) (by exact zFX.refl _))<|zm (H':=[.box 51 (zO a_p0),.box 51 (zO (⟨0,0,0,0,0,(List.replicate 5 ([]:List Int))⟩:zp))]) (zZ (k:=1) (o:=0) (cs:=(zO ⟨0,0,0,0,0,(List.replicate 5 ([]:List Int))⟩)) (la:=(zO (⟨0,0,0,0,0,(List.replicate 5 ([]:List Int))⟩:zp))) sizeOf51 rfl rfl rfl rfl)<|zA (zD rfl)<|zA (zD rfl) ?_
     refine zF<|zb ?_
     show zAQ _ _ _ _ _ _
     obtain rfl:=Option.some.inj h
     exact zC6 (zFa isAgg51 sizeOf51 rfl rfl rfl rfl) (zAM rfl rfl) (zAM rfl rfl) rfl
    ·refine zP<|zI<|zC<|zA (zS (k:=0) (o:=0) (m:=10) isAgg51 sizeOf51 rfl rfl rfl rfl rfl)<|zR h fun x2 hx2 h=>zHU (cs:=([li x2.node,li x2.kind,li x2.start,li x2.count,li x2.min]++((cM 5 3 (5:Int) x2.free)++[]))) (la:=[(AV.agg (zO a_p0))]) (la':=[(AV.agg (zO a_p0))]) (S:=[]) func118 rfl (by kernel_rfl) (.fn 118) rfl ⟨zAt.nr rfl,trivial⟩ (zKM hx2) (.inl rfl) ?_
     refine za (H':=[.box 51 (zO a_p0),.box 51 (zO ⟨0,0,0,0,0,(List.replicate 5 ([]:List Int))⟩),.val (.agg ([li x2.node,li x2.kind,li x2.start,li x2.count,li x2.min]++((cM 5 3 (5:Int) x2.free)++[]))),.box 51 (zO ⟨0,0,0,0,0,(List.replicate 5 ([]:List Int))⟩)]) (zv (t:=51) (vs:=[.int .i64 0,.int .i64 0,.int .i64 0,.int .i64 0,.int .i64 0,.slice none 0 0,.slice none 0 0,.slice none 0 0,.slice none 0 0,.slice none 0 0]) (cs:=[.lit (.int .i64 0),.lit (.int .i64 0),.lit (.int .i64 0),.lit (.int .i64 0),.lit (.int .i64 0),.sl false [],.sl false [],.sl false [],.sl false [],.sl false []]) zeroValue51 (by kernel_rfl) rfl ⟨zh.refl _,zh.refl _,zh.refl _,zh.refl _,zh.refl _,zh.nils,zh.nils,zh.nils,zh.nils,zh.nils,trivial⟩)<|zm (H':=[.box 51 (zO a_p0),.box 51 (zO ⟨0,0,0,0,0,(List.replicate 5 ([]:List Int))⟩),.dead,.box 51 ([li x2.node,li x2.kind,li x2.start,li x2.count,li x2.min]++((cM 5 3 (5:Int) x2.free)++[]))]) (zCd (k:=3) (o:=0) (j:=2) (cs:=(zO ⟨0,0,0,0,0,(List.replicate 5 ([]:List Int))⟩)) (la:=([li x2.node,li x2.kind,li x2.start,li x2.count,li x2.min]++((cM 5 3 (5:Int) x2.free)++[]))) sizeOf51 rfl rfl rfl rfl rfl (by decide))<|zF<|zI<|zC<|zA (zB rfl) ?_
     refine zA (zK underlying51 rfl rfl sizeOf49 rfl)<|zM h fun hb4 h=>zA (zAO (m:=5) (s:=1) (i:=i1) (k:=3) (o:=5) underlying49 sizeOf22 rfl rfl hb4)<|zM h fun hb5 h=>zAF (zJD (k:=3) (cs:=([li x2.node,li x2.kind,li x2.start,li x2.count,li x2.min]++((cM 5 3 (5:Int) x2.free)++[]))) (hd:=([li x2.node]++[li x2.kind]++[li x2.start]++[li x2.count]++[li x2.min]++[])) (tl:=([])) (N:=5) (T:=3) (K:=5) (l:=x2.free) (i:=i1) rfl rfl hb4 hb5)<|zA (zEd (k:=3) (o:=(5+i1.toNat*1)) (cs:=([li x2.node,li x2.kind,li x2.start,li x2.count,li x2.min]++((List.set (cM 5 3 (5:Int) x2.free) i1.toNat (AV.hd 4))++[]))) (hd:=([li x2.node]++[li x2.kind]++[li x2.start]++[li x2.count]++[li x2.min]++[])) (tl:=([])) (s:=(cM 5 3 (5:Int) x2.free)) (i:=i1) (j:=4) isAgg22 rfl rfl rfl (congrArg (fun q=>5+q) (Nat.mul_one _)) (zHu hb4)) ?_
     refine zM h fun hb6 h=>zA (zAC (f:=cI) (l:=x2.free.getD i1.toNat []) (i:=0) underlying22 sizeOf3 rfl rfl rfl hb6)<|zA (zBS (f:=cI) (l:=x2.free.getD i1.toNat []) (i:=0) (c:=0) (a:=(li (at_ (x2.free.getD i1.toNat []) (0:Int)))) isAgg3 rfl rfl (by first | rfl | omega) hb6 rfl rfl)<|zA (zD rfl)<|zF<|zI ?_
     refine zC<|zA (zB rfl)<|zA (zB rfl)<|zA (zK underlying51 rfl rfl sizeOf49 rfl)<|zA (zAO (m:=5) (s:=1) (i:=i1) (k:=3) (o:=5) underlying49 sizeOf22 rfl rfl hb4)<|zA (zEd (k:=3) (o:=(5+i1.toNat*1)) (cs:=([li x2.node,li x2.kind,li x2.start,li x2.count,li x2.min]++((List.set (cM 5 3 (5:Int) x2.free) i1.toNat (AV.hd 4))++[]))) (hd:=([li x2.node]++[li x2.kind]++[li x2.start]++[li x2.count]++[li x2.min]++[])) (tl:=([])) (s:=(cM 5 3 (5:Int) x2.free)) (i:=i1) (j:=4) isAgg22 rfl rfl rfl (congrArg (fun q=>5+q) (Nat.mul_one _)) (zHu hb4)) ?_
     refine zAF (zET (j:=4) (ds:=[48,55]) (rows':=List.map cI (x2.free.getD i1.toNat [])) rfl (zAP (fun _=>rfl)) ⟨rfl,rfl,trivial⟩)<|zM h fun hb7 h=>zA (zMQ (lo:=1) (f:=cI) (l:=x2.free.getD i1.toNat []) underlying22 sizeOf3 (fun _=>rfl) rfl rfl hb7)<|zA (zK underlying51 rfl rfl sizeOf49 rfl)<|zA (zAO (m:=5) (s:=1) (i:=i1) (k:=3) (o:=5) underlying49 sizeOf22 rfl rfl hb4)<|zM h fun hb8 h => ?_
     refine zm (H':=[.box 51 (zO a_p0),.box 51 (zO ⟨0,0,0,0,0,(List.replicate 5 ([]:List Int))⟩),.dead,.box 51 ([li x2.node,li x2.kind,li x2.start,li x2.count,li x2.min]++((List.set (cM 5 3 (5:Int) x2.free) i1.toNat (ls cI (zGB (x2.free.getD i1.toNat []) 1 ((x2.free.getD i1.toNat []).length:Int))))++[])),.dead]) (zHW (k:=3) (o:=(5+i1.toNat*1)) (cs:=([li x2.node,li x2.kind,li x2.start,li x2.count,li x2.min]++((List.set (cM 5 3 (5:Int) x2.free) i1.toNat (AV.hd 4))++[]))) (hd:=([li x2.node]++[li x2.kind]++[li x2.start]++[li x2.count]++[li x2.min]++[])) (tl:=([])) (s:=(cM 5 3 (5:Int) x2.free)) (i:=i1) (a:=(ls cI (zGB (x2.free.getD i1.toNat []) 1 ((x2.free.getD i1.toNat []).length:Int)))) sizeOf22 rfl rfl rfl (congrArg (fun q=>5+q) (Nat.mul_one _)) (zHu hb4) rfl rfl)<|zF ?_
     refine zx (fun e' H' => ∃ (l1:List (List Int)),Rep 90 0 e' H' (mkE [(4,(AV.ptr 0 0)),(9,(AV.ptr 1 0)),(10,(li (at_ (x2.free.getD i1.toNat []) (0:Int))))]) [.box 51 (zO ⟨0,0,0,0,0,(List.replicate 5 ([]:List Int))⟩),.box 51 ([li x2.node,li x2.kind,li x2.start,li x2.count,li x2.min]++((cM 5 3 i1 l1)++[]))]∧zIj i1 x2 l1=some r) ?_ ?_
     ·
      refine zQ<|z6 (σ:=Nat×Int×(List (List Int))) (fun s=>s.1) (fun s e' H'=>match s with | (n0,i2,l2)=>Rep 90 0 e' H' (mkE [(1,(li a_p1)),(4,(AV.ptr 0 0)),(8,(li i2)),(9,(AV.ptr 1 0)),(10,(li (at_ (x2.free.getD i1.toNat []) (0:Int))))]) [.box 51 (zO ⟨0,0,0,0,0,(List.replicate 5 ([]:List Int))⟩),.box 51 ([li x2.node,li x2.kind,li x2.start,li x2.count,li x2.min]++((cM 5 3 i1 l2)++[]))]∧zHM a_p1 i1 x2 n0 i2 l2=some r) (z9,i1,(zDo 5 [] x2.free i1.toNat (zGB (x2.free.getD i1.toNat []) 1 ((x2.free.getD i1.toNat []).length:Int)))) ⟨Rep.trans (zQx (l':=zGB (x2.free.getD i1.toNat []) 1 ((x2.free.getD i1.toNat []).length:Int)) (k:=3) (cs:=([li x2.node,li x2.kind,li x2.start,li x2.count,li x2.min]++((List.set (cM 5 3 (5:Int) x2.free) i1.toNat (ls cI (zGB (x2.free.getD i1.toNat []) 1 ((x2.free.getD i1.toNat []).length:Int))))++[]))) (hd:=([li x2.node]++[li x2.kind]++[li x2.start]++[li x2.count]++[li x2.min]++[])) (tl:=([])) (N:=5) (T:=3) (K:=5) (l:=x2.free) (i:=i1) rfl rfl hb4 hb8) (zBe (n:=90) (m:=0) [1,3] (l:=[(1,(li a_p1)),(4,(AV.ptr 0 0)),(8,(li i1)),(9,(AV.ptr 1 0)),(10,(li (at_ (x2.free.getD i1.toNat []) (0:Int))))]) ⟨⟨Sub.refl _,by kernel_rfl⟩,⟨Sub.refl _,by kernel_rfl⟩,⟨Sub.refl _,by kernel_rfl⟩,⟨Sub.refl _,by kernel_rfl⟩,⟨Sub.refl _,by kernel_rfl⟩,trivial⟩ rfl rfl ⟨⟨rfl,by kernel_rfl⟩,⟨rfl,zRi (hd:=([li x2.node]++[li x2.kind]++[li x2.start]++[li x2.count]++[li x2.min]++[])) (tl:=([])) (N:=5) (T:=3) (K:=i1) (l:=zDo 5 [] x2.free i1.toNat (zGB (x2.free.getD i1.toNat []) 1 ((x2.free.getD i1.toNat []).length:Int))) (by kernel_rfl) (by kernel_rfl) rfl⟩,trivial⟩),h⟩ ?_
      clear h
      rintro ⟨n0,i2,l2⟩ e' H' ⟨hrep,h⟩
      cases n0 with
      | zero=>exact absurd (show (none:Option _)=some r from h) (by simp)
      | succ n0 =>
       replace h:zIk a_p1 i1 x2 (zHM a_p1 i1 x2 n0) i2 l2=some r:=h
       unfold zIk at h
       refine zV hrep ?_
       clear hrep
       refine zI<|zI<|zC<|zA (zB rfl)<|zA (zB rfl)<|zA (zAl rfl rfl) ?_
       refine zF ?_
       refine zY h rfl (fun hb9 h => ?_) (fun hb9 h => ?_)
       ·refine zP<|zQ<|zI<|zC<|zA (zB rfl)<|zM h fun hb10 h => ?_
        refine zA (zB8 rfl rfl hb10)<|zA (zD rfl)<|zF<|zI<|zC<|zA (zB rfl) ?_
        refine zA (zB rfl)<|zM h fun hb11 h=>zM h fun hb12 h=>zA (zDI (a:=1) (b:=i2 - 1) rfl rfl hb11 hb12)<|zM h fun hb13 h=>zA (zf rfl rfl hb13) ?_
        refine zA (zD rfl)<|zF<|zI<|zC<|zA (zB rfl)<|zA (zK underlying51 rfl rfl sizeOf49 rfl) ?_
        refine zM h fun hb14 h=>zA (zAO (m:=5) (s:=1) (i:=i2 - 1) (k:=1) (o:=5) underlying49 sizeOf22 rfl rfl hb14)<|zM h fun hb15 h=>zAF (zJD (k:=1) (cs:=([li x2.node,li x2.kind,li x2.start,li x2.count,li x2.min]++((cM 5 3 i1 l2)++[]))) (hd:=([li x2.node]++[li x2.kind]++[li x2.start]++[li x2.count]++[li x2.min]++[])) (tl:=([])) (N:=5) (T:=3) (K:=i1) (l:=l2) (i:=i2 - 1) rfl rfl hb14 hb15)<|zA (zEd (k:=1) (o:=(5+(i2 - 1).toNat*1)) (cs:=([li x2.node,li x2.kind,li x2.start,li x2.count,li x2.min]++((List.set (cM 5 3 i1 l2) (i2 - 1).toNat (AV.hd 2))++[]))) (hd:=([li x2.node]++[li x2.kind]++[li x2.start]++[li x2.count]++[li x2.min]++[])) (tl:=([])) (s:=(cM 5 3 i1 l2)) (i:=i2 - 1) (j:=2) isAgg22 rfl rfl rfl (congrArg (fun q=>5+q) (Nat.mul_one _)) (zHu hb14))<|zA (zB rfl) ?_
        refine zR h fun x3 hx3 h=>zAw (r':=(AV.tup [li x3.1,(AV.lit (.bool x3.2))])) (la:=[AV.hd 2,(li ((at_ (x2.free.getD i1.toNat []) (0:Int))+((1:Int)*2 ^ (i2 - 1).toNat)))]) (la':=[(ls cI (l2.getD (i2 - 1).toNat [])),(li ((at_ (x2.free.getD i1.toNat []) (0:Int))+((1:Int)*2 ^ (i2 - 1).toNat)))]) (r:=(AV.tup [li x3.1,(AV.lit (.bool x3.2))])) (S:=[2]) func87 rfl (by kernel_rfl) (.fn 87) rfl ⟨zIZ (fun _=>rfl) rfl rfl,zAt.nr rfl,trivial⟩ (zAz hx3) (.inr rfl) rfl<|zA (zB rfl)<|zA (zg rfl rfl)<|zA (zg rfl rfl)<|zA (zD rfl) ?_
        refine zA (zD rfl)<|zF<|zC<|zA (zB rfl)<|zA (zB rfl)<|zA (zK underlying51 rfl rfl sizeOf49 rfl) ?_
        refine zA (zAO (m:=5) (s:=1) (i:=i2 - 1) (k:=1) (o:=5) underlying49 sizeOf22 rfl rfl hb14)<|zA (zEd (k:=1) (o:=(5+(i2 - 1).toNat*1)) (cs:=([li x2.node,li x2.kind,li x2.start,li x2.count,li x2.min]++((List.set (cM 5 3 i1 l2) (i2 - 1).toNat (AV.hd 2))++[]))) (hd:=([li x2.node]++[li x2.kind]++[li x2.start]++[li x2.count]++[li x2.min]++[])) (tl:=([])) (s:=(cM 5 3 i1 l2)) (i:=i2 - 1) (j:=2) isAgg22 rfl rfl rfl (congrArg (fun q=>5+q) (Nat.mul_one _)) (zHu hb14))<|zA (zB rfl)<|zA (zB rfl)<|zGP (a:=(li ((at_ (x2.free.getD i1.toNat []) (0:Int))+((1:Int)*2 ^ (i2 - 1).toNat)))) zGe underlying22 rfl rfl rfl rfl<|zM h fun hb16 h => ?_
        refine zM2 (k:=2) (j:=3) (l:=l2.getD (i2 - 1).toNat []) (i:=x3.1) (q:=(at_ (x2.free.getD i1.toNat []) (0:Int))+((1:Int)*2 ^ (i2 - 1).toNat)) (fun a b c d e=>zQo a b c d e) func119 rfl (by kernel_rfl) rfl rfl rfl rfl rfl rfl hb16<|zA (zK underlying51 rfl rfl sizeOf49 rfl)<|zA (zAO (m:=5) (s:=1) (i:=i2 - 1) (k:=1) (o:=5) underlying49 sizeOf22 rfl rfl hb14)<|zm (H':=[.box 51 (zO ⟨0,0,0,0,0,(List.replicate 5 ([]:List Int))⟩),.box 51 ([li x2.node,li x2.kind,li x2.start,li x2.count,li x2.min]++((List.set (cM 5 3 i1 l2) (i2 - 1).toNat (AV.hd 4))++[])),.dead,.vec 3 1 (List.map cI [(at_ (x2.free.getD i1.toNat []) (0:Int))+((1:Int)*2 ^ (i2 - 1).toNat)]),.vec 3 1 (List.map cI (zQT (l2.getD (i2 - 1).toNat []) x3.1 ((at_ (x2.free.getD i1.toNat []) (0:Int))+((1:Int)*2 ^ (i2 - 1).toNat))))]) (zHW (k:=1) (o:=(5+(i2 - 1).toNat*1)) (cs:=([li x2.node,li x2.kind,li x2.start,li x2.count,li x2.min]++((List.set (cM 5 3 i1 l2) (i2 - 1).toNat (AV.hd 2))++[]))) (hd:=([li x2.node]++[li x2.kind]++[li x2.start]++[li x2.count]++[li x2.min]++[])) (tl:=([])) (s:=(cM 5 3 i1 l2)) (i:=i2 - 1) (a:=(AV.hd 4)) sizeOf22 rfl rfl rfl (congrArg (fun q=>5+q) (Nat.mul_one _)) (zHu hb14) rfl rfl)<|zF ?_
        exact ⟨(n0,(i2 - 1),(zDo 5 [] l2 (i2 - 1).toNat (zQT (l2.getD (i2 - 1).toNat []) x3.1 ((at_ (x2.free.getD i1.toNat []) (0:Int))+((1:Int)*2 ^ (i2 - 1).toNat))))),Nat.lt_succ_self _,Rep.trans (zIy (j:=4) (l':=zQT (l2.getD (i2 - 1).toNat []) x3.1 ((at_ (x2.free.getD i1.toNat []) (0:Int))+((1:Int)*2 ^ (i2 - 1).toNat))) (k:=1) (cs:=([li x2.node,li x2.kind,li x2.start,li x2.count,li x2.min]++((List.set (cM 5 3 i1 l2) (i2 - 1).toNat (AV.hd 4))++[]))) (hd:=([li x2.node]++[li x2.kind]++[li x2.start]++[li x2.count]++[li x2.min]++[])) (tl:=([])) (N:=5) (T:=3) (K:=i1) (l:=l2) (i:=i2 - 1) rfl rfl hb14 hb15 rfl rfl) (zBe (n:=90) (m:=0) [0,1] (l:=[(1,(li a_p1)),(4,(AV.ptr 0 0)),(8,(li (i2 - 1))),(9,(AV.ptr 1 0)),(10,(li (at_ (x2.free.getD i1.toNat []) (0:Int))))]) ⟨⟨Sub.refl _,by kernel_rfl⟩,⟨Sub.refl _,by kernel_rfl⟩,⟨Sub.refl _,by kernel_rfl⟩,⟨Sub.refl _,by kernel_rfl⟩,⟨Sub.refl _,by kernel_rfl⟩,trivial⟩ rfl rfl ⟨⟨rfl,by kernel_rfl⟩,⟨rfl,zRi (hd:=([li x2.node]++[li x2.kind]++[li x2.start]++[li x2.count]++[li x2.min]++[])) (tl:=([])) (N:=5) (T:=3) (K:=i1) (l:=zDo 5 [] l2 (i2 - 1).toNat (zQT (l2.getD (i2 - 1).toNat []) x3.1 ((at_ (x2.free.getD i1.toNat []) (0:Int))+((1:Int)*2 ^ (i2 - 1).toNat)))) (by kernel_rfl) (by kernel_rfl) rfl⟩,trivial⟩),h⟩
       ·refine zy ?_
        exact ⟨l2,zBe (n:=90) (m:=0) [0,1] (l:=[(4,(AV.ptr 0 0)),(9,(AV.ptr 1 0)),(10,(li (at_ (x2.free.getD i1.toNat []) (0:Int))))]) ⟨⟨Sub.refl _,by kernel_rfl⟩,⟨Sub.refl _,by kernel_rfl⟩,⟨Sub.refl _,by kernel_rfl⟩,trivial⟩ rfl rfl ⟨⟨rfl,by kernel_rfl⟩,⟨rfl,zRi (hd:=([li x2.node]++[li x2.kind]++[li x2.start]++[li x2.count]++[li x2.min]++[])) (tl:=([])) (N:=5) (T:=3) (K:=i1) (l:=l2) (by kernel_rfl) (by kernel_rfl) rfl⟩,trivial⟩,h⟩
     ·
      clear h
      rintro e' H' ⟨l1,hrep,h⟩
      refine zV hrep ?_
      clear hrep
      unfold zIj at h
      refine zI<|zC<|zAF (zJj (k:=1) (cs:=([li x2.node,li x2.kind,li x2.start,li x2.count,li x2.min]++((cM 5 3 i1 l1)++[]))) (hd:=([li x2.node]++[li x2.kind]++[li x2.start]++[li x2.count]++[li x2.min]++[])) (tl:=([])) (N:=5) (T:=3) (K:=i1) (l:=l1) rfl rfl)<|zA (zS (k:=1) (o:=0) (m:=10) isAgg51 sizeOf51 rfl rfl rfl rfl rfl)<|zA (zB rfl)<|zm (H':=[.box 51 (zO (⟨x2.node,x2.kind,x2.start,x2.count,x2.min,l1⟩:zp)),.box 51 (zO ⟨x2.node,x2.kind,x2.start,x2.count,x2.min,l1⟩)]) (zZ (k:=0) (o:=0) (cs:=(zO ⟨0,0,0,0,0,(List.replicate 5 ([]:List Int))⟩)) (la:=(zO (⟨x2.node,x2.kind,x2.start,x2.count,x2.min,l1⟩:zp))) sizeOf51 rfl rfl rfl rfl) ?_
      refine zA (zD rfl)<|zA (zD rfl)<|zF<|zb ?_
      show zAQ _ _ _ _ _ _
      obtain rfl:=Option.some.inj h
      exact zC6 (zFa isAgg51 sizeOf51 rfl rfl rfl rfl) (zAM rfl rfl) (zAM rfl rfl) rfl
theorem zGn {a_c:zL} {a_zone:Int} {r:Int} (h:zD6 a_c a_zone=some r):PFn prog 111 [(AV.agg (zH a_c)),li a_zone] (li r):=by
 refine zq func111 rfl ntmps111 results111 rfl ?_
 unfold zD6 at h
 refine zI<|zC<|za (H':=[.box 55 (zH a_c)]) (zw (t:=55) rfl)<|zA (zD rfl)<|zF<|zI ?_
 refine zI<|zC<|zA (zS (k:=0) (o:=0) (m:=1) isAgg55 sizeOf55 rfl rfl rfl rfl rfl)<|zA (zK underlying55 rfl rfl sizeOf53 rfl)<|zA (zN isAgg53 rfl rfl rfl rfl)<|zA (zX underlying53 rfl) ?_
 refine zR h fun x1 hx1 h=>zi func43 rfl (by kernel_rfl) (.fn 43) rfl rfl (zJ9 hx1) rfl<|zA (zD rfl)<|zF<|zI<|zC ?_
 refine zA (zB rfl)<|zA (z7 rfl rfl)<|zF ?_
 refine zY h rfl (fun hb1 h => ?_) (fun hb1 h => ?_)
 ·refine zI<|zC<|zA (zB rfl)<|zA (zD rfl)<|zF<|zb ?_
  show zAQ _ _ _ _ _ _
  obtain rfl:=Option.some.inj h
  exact zu (zAM rfl rfl)
 ·refine zP<|zI<|zI<|zC<|zA (zB rfl)<|zA (ze rfl rfl) ?_
  refine zA (zB rfl)<|zT rfl rfl (fun hc1=>zt.step (zB rfl))<|zT rfl rfl (fun hc2=>zt.step (zK underlying55 rfl rfl sizeOf53 rfl))<|zT rfl rfl (fun hc3=>zt.step (zN isAgg53 (z5 rfl hc3) rfl rfl rfl))<|zT rfl rfl (fun hc4=>zt.step (zX underlying53 (z5 rfl hc4)))<|zT rfl rfl (fun hc5=>zt.step (zAp (z5 rfl hc5) (z5 rfl hc5))) ?_
  refine zA (zd rfl rfl)<|zF ?_
  refine zY h rfl (fun hb2 h => ?_) (fun hb2 h => ?_)
  ·refine zI<|zC<|zA (zD rfl)<|zF<|zb ?_
   show zAQ _ _ _ _ _ _
   obtain rfl:=Option.some.inj h
   exact zu (zAM rfl rfl)
  ·refine zP<|zI<|zC<|zA (zD rfl)<|zF<|zb ?_
   show zAQ _ _ _ _ _ _
   obtain rfl:=Option.some.inj h
   exact zu (zAM rfl rfl)
theorem zD2 {a_c:zL} {a_zone:Int} {a_l:List Int} {r:zL} (h:zBZ a_c a_zone a_l=some r):PFn prog 112 [(AV.agg (zH a_c)),li a_zone,ls cI a_l] (AV.agg (zH r)):=by
 refine zq func112 rfl ntmps112 results112 rfl ?_
 unfold zBZ at h
 refine zI<|zC<|za (H':=[.box 55 (zH a_c)]) (zw (t:=55) rfl)<|za (H':=[.box 55 (zH a_c),.box 55 [(ls (cS cI) ([]:List (List Int)))]]) (zv (t:=55) (vs:=[.slice none 0 0]) (cs:=[.sl false []]) zeroValue55 (by kernel_rfl) rfl ⟨zh.nils,trivial⟩)<|zF<|zI ?_
 refine zC<|zA (zK underlying55 rfl rfl sizeOf53 rfl)<|zA (zN isAgg53 rfl rfl rfl rfl)<|zA (zX underlying53 rfl)<|zM h fun hb1 h=>zDy (f:=(cS cI)) (a:=(a_c.lists.length:Int)) (c:=(a_c.lists.length:Int)) (d0:=([]:List Int)) zM0 ⟨zh.nils,trivial⟩ rfl underlying53 rfl rfl hb1 ?_
 refine zA (z8 (pl:=[(0,1)]) (zs:=[.slice none 0 0]) (zc:=[.sl false []]) (res:=[AV.hd 2]) (fun _=>by kernel_rfl) rfl (⟨zh.nils,trivial⟩) ⟨AV.hd 2,0,1,rfl,rfl,rfl,rfl,rfl,(by exact zFX.refl _)⟩)<|za (H':=[.box 55 (zH a_c),.box 55 [(ls (cS cI) ([]:List (List Int)))],.vec 22 1 (List.map (cS cI) (List.replicate (a_c.lists.length:Int).toNat ([]:List Int))),.box 55 [(ls (cS cI) ([]:List (List Int)))]]) (zv (t:=55) (vs:=[.slice none 0 0]) (cs:=[.sl false []]) zeroValue55 (by kernel_rfl) rfl ⟨zh.nils,trivial⟩)<|zm (H':=[.box 55 (zH a_c),.box 55 [(ls (cS cI) ([]:List (List Int)))],.vec 22 1 (List.map (cS cI) (List.replicate (a_c.lists.length:Int).toNat ([]:List Int))),.box 55 [AV.hd 2]]) (zZ (k:=3) (o:=0) (cs:=[(ls (cS cI) ([]:List (List Int)))]) (la:=[AV.hd 2]) sizeOf55 rfl rfl rfl rfl)<|zF ?_
 refine zx (fun e' H' => ∃ (l1:List (List Int)),Rep 46 0 e' H' (mkE [(6,(AV.ptr 0 0)),(7,(AV.ptr 1 0))]) [.box 55 [(ls (cS cI) ([]:List (List Int)))],.box 55 [AV.osl 22 1 (List.map (cS cI) l1)]]∧zFQ l1=some r) ?_ ?_
 ·
  refine zI<|zC<|zA (zK underlying55 rfl rfl sizeOf53 rfl)<|zA (zN isAgg53 rfl rfl rfl rfl)<|zA (zX underlying53 rfl)<|zA (zB rfl) ?_
  refine zF<|zQ<|z6 (σ:=Nat×Int×(List (List Int))) (fun s=>s.1) (fun s e' H'=>match s with | (n0,i1,l2)=>Rep 46 0 e' H' (mkE [(1,(li a_zone)),(2,(ls cI a_l)),(3,(AV.ptr 0 0)),(6,(AV.ptr 1 0)),(7,(AV.ptr 2 0)),(17,(li (a_c.lists.length:Int))),(18,(li i1))]) [.box 55 (zH a_c),.box 55 [(ls (cS cI) ([]:List (List Int)))],.box 55 [AV.osl 22 1 (List.map (cS cI) l2)]]∧zCF a_c a_zone a_l n0 i1 l2=some r) (z9,0,(List.replicate (a_c.lists.length:Int).toNat ([]:List Int))) ⟨Rep.trans (zAJ (k:=3) (j:=2) (o:=0) rfl rfl rfl rfl) (zAE [0,1,3] (l:=[(1,(li a_zone)),(2,(ls cI a_l)),(3,(AV.ptr 0 0)),(6,(AV.ptr 1 0)),(7,(AV.ptr 2 0)),(17,(li (a_c.lists.length:Int))),(18,(li 0))]) rfl rfl (by kernel_rfl)),h⟩ ?_
  clear h
  rintro ⟨n0,i1,l2⟩ e' H' ⟨hrep,h⟩
  cases n0 with
  | zero=>exact absurd (show (none:Option _)=some r from h) (by simp)
  | succ n0 =>
   replace h:zCC a_c a_zone a_l (zCF a_c a_zone a_l n0) i1 l2=some r:=h
   unfold zCC at h
   refine zV hrep ?_
   clear hrep
   refine zI<|zC<|zA (ze rfl rfl)<|zF<|zI ?_
   refine zY h rfl (fun hb2 h => ?_) (fun hb2 h => ?_)
   ·refine zP<|zI<|zQ<|zI<|zC<|zA (zB rfl) ?_
    refine zA (zD rfl)<|zF<|zI<|zC<|zA (zK underlying55 rfl rfl sizeOf53 rfl)<|zA (zN isAgg53 rfl rfl rfl rfl) ?_
    refine zA (zB rfl)<|zM h fun hb3 h=>zA (zU underlying53 sizeOf22 (fun _=>rfl) rfl rfl hb3)<|zA (zW (o:=0) isAgg22 rfl rfl)<|zA (zD rfl)<|zF ?_
    refine zx (fun e' H' => ∃ (d1:List Int),Rep 46 0 e' H' (mkE [(1,(li a_zone)),(2,(ls cI a_l)),(3,(AV.ptr 0 0)),(6,(AV.ptr 1 0)),(7,(AV.ptr 2 0)),(8,(li i1)),(9,(ls cI d1)),(17,(li (a_c.lists.length:Int))),(18,(li i1))]) [.box 55 (zH a_c),.box 55 [(ls (cS cI) ([]:List (List Int)))],.box 55 [AV.osl 22 1 (List.map (cS cI) l2)]]∧zCr (zCF a_c a_zone a_l n0) i1 l2 d1=some r) ?_ ?_
    ·
     refine zI<|zC<|zA (zB rfl)<|zA (zB rfl)<|zA (zBR rfl rfl)<|zF ?_
     refine zY h rfl (fun hb7 h => ?_) (fun hb7 h => ?_)
     ·refine zC<|zA (zB rfl)<|zA (zD rfl)<|zF ?_
      exact ⟨a_l,zAE [0,1,2] rfl rfl (by kernel_rfl),h⟩
     ·refine zP ?_
      exact ⟨at_ a_c.lists i1,zAE [0,1,2] rfl rfl (by kernel_rfl),h⟩
    ·
     clear h
     rintro e' H' ⟨d1,hrep,h⟩
     refine zV hrep ?_
     clear hrep
     unfold zCr at h
     refine zI<|zV (zBA (k:=2) (o:=0) (t':=22) (sz:=1) (rows:=List.map (cS cI) l2) rfl rfl)<|zM h fun hb4 h=>zM h fun hb5 h => ?_
     show AW _ _ _ _ _ _ [.box 55 (zH a_c),.box 55 [(ls (cS cI) ([]:List (List Int)))],.box 55 [AV.hd 3],.vec 22 1 (List.map (cS cI) l2)]
     refine zAx (n:=46) (m:=0) [.head 0 1,.head 0 1,.head 0 1,.head 0 0,.head 0 0,.tail 0,.head 1 1,.tail 1] [5,7] [AV.ptr 2 0,AV.hd 3,li i1,ls cI d1,(li (d1.length:Int)),AV.hd 4,(AV.ptr 3 (i1.toNat*1)),.any] [[.box 55 (zH a_c),.box 55 [(ls (cS cI) ([]:List (List Int)))],.box 55 [AV.hd 3],.vec 22 1 (List.map (cS cI) l2)],[.box 55 (zH a_c),.box 55 [(ls (cS cI) ([]:List (List Int)))],.box 55 [AV.hd 3],.vec 22 1 (List.map (cS cI) l2),.vec 3 1 (List.map cI (List.replicate (d1.length:Int).toNat 0))],[.box 55 (zH a_c),.box 55 [(ls (cS cI) ([]:List (List Int)))],.box 55 [AV.hd 3],.vopen 22 1 (List.map (cS cI) l2) i1.toNat [.hd 4],.vec 3 1 (List.map cI (List.replicate (d1.length:Int).toNat 0))]] (by kernel_rfl) (by kernel_rfl) ⟨⟨?_,?_⟩,⟨?_,?_⟩,⟨?_,?_⟩,?_,?_,?_,?_,?_,trivial⟩ ?_
     ·exact D1 fun e s p=>zK (k:=2) (o:=0) (off:=0) underlying55 rfl rfl sizeOf53 (s 7 rfl)
     ·exact D1 fun e s p=>zK (k:=2) (o:=0) (off:=0) underlying55 rfl rfl sizeOf53 (s 7 rfl)
     ·exact D1 fun e s p=>zN (k:=2) (o:=0) isAgg53 p.1 rfl rfl rfl
     ·exact D1 fun e s p=>zN (k:=2) (o:=0) isAgg53 p.1 rfl rfl rfl
     ·exact D1 fun e s p=>zB (s 8 rfl)
     ·exact D1 fun e s p=>zB (s 8 rfl)
     ·exact D1 fun e s p=>zB (s 9 rfl)
     ·exact D1 fun e s p=>zX (f:=cI) (l:=d1) underlying22 p.1
     ·
      intro e9 hs9 hp9
      refine zDy (f:=cI) (a:=(d1.length:Int)) (c:=(d1.length:Int)) (d0:=0) zGe ⟨zh.refl _,trivial⟩ rfl underlying22 hp9.2.1 hp9.2.1 hb4 ?_
      exact zF ⟨fun _=>rfl,rfl⟩
     ·exact D1 fun e s p=>zAC (f:=(cS cI)) (l:=l2) (i:=i1) underlying53 sizeOf22 p.2.2.2.1 rfl p.2.2.2.2.1 hb5
     ·
      intro e11 hs11 hp11
      refine zm (H':=[.box 55 (zH a_c),.box 55 [(ls (cS cI) ([]:List (List Int)))],.box 55 [AV.hd 3],.vopen 22 1 (List.map (cS cI) l2) i1.toNat [.hd 4],.vec 3 1 (List.map cI (List.replicate (d1.length:Int).toNat 0))]) (zMB (k:=3) (j:=4) (i:=i1.toNat) sizeOf22 (by exact hp11.1) rfl rfl (by rw [List.length_map]; exact (zBK hb5).2) (by exact hp11.2.2.2.2.2.2.2.1) rfl) ?_
      exact zF ⟨fun _=>rfl,rfl⟩
     intro e12 hs12 hq1
     refine zV (zBY (l:=[(1,(li a_zone)),(2,(ls cI a_l)),(3,(AV.ptr 0 0)),(6,(AV.ptr 1 0)),(7,(AV.ptr 2 0)),(8,(li i1)),(9,(ls cI d1)),(17,(li (a_c.lists.length:Int))),(18,(li i1))]) ⟨hs12 1 rfl,hs12 2 rfl,hs12 3 rfl,hs12 6 rfl,hs12 7 rfl,hs12 8 rfl,hs12 9 rfl,hs12 17 rfl,hs12 18 rfl,trivial⟩)<|zC<|zA (zK (k:=2) (o:=0) (off:=0) underlying55 rfl rfl sizeOf53 rfl)<|zA (zN (k:=2) (o:=0) (a:=(AV.hd 3)) isAgg53 rfl rfl rfl rfl)<|zA (zB (av:=(li i1)) rfl)<|zA (zMX (row:=[]) (i:=i1) underlying53 sizeOf22 rfl rfl rfl (by rw [List.length_map]; exact hb5)) ?_
     refine zA (zM9 (k:=3) (i:=i1.toNat) (a := .hd 4) isAgg22 rfl rfl rfl rfl)<|zA (zB rfl)<|za (H':=[.box 55 (zH a_c),.box 55 [(ls (cS cI) ([]:List (List Int)))],.box 55 [AV.hd 3],.vopen 22 1 (List.map (cS cI) l2) i1.toNat [.hd 4],.vec 3 1 (List.map cI (zCO (List.replicate (d1.length:Int).toNat 0) d1))]) (zKH (f:=cI) (k:=4) (l:=List.replicate (d1.length:Int).toNat 0) (l2:=d1) underlying22 sizeOf3 (fun _=>rfl) rfl rfl rfl)<|zF<|zC<|zM h fun hb6 h => ?_
     refine zA (zf rfl rfl hb6)<|zA (zB rfl)<|zF ?_
     exact ⟨(n0,(i1+1),(l2.set i1.toNat (zCO (List.replicate (d1.length:Int).toNat 0) d1))),Nat.lt_succ_self _,Rep.trans (zMM (k:=3) (j:=4) (f:=cI) (l:=l2) (l':=zCO (List.replicate (d1.length:Int).toNat 0) d1) (fun _=>rfl) rfl rfl rfl) (Rep.trans (zAJ (k:=2) (j:=3) (o:=0) rfl rfl rfl rfl) (zAE [0,1,2] (l:=[(1,(li a_zone)),(2,(ls cI a_l)),(3,(AV.ptr 0 0)),(6,(AV.ptr 1 0)),(7,(AV.ptr 2 0)),(17,(li (a_c.lists.length:Int))),(18,(li (i1+1)))]) rfl rfl (by kernel_rfl))),h⟩
   ·refine zy ?_
    exact ⟨l2,zAE [1,2] rfl rfl (by kernel_rfl),h⟩
 ·
  clear h
  rintro e' H' ⟨l1,hrep,h⟩
  refine zV hrep ?_
  clear hrep
  unfold zFQ at h
  refine zI<|zC<|zAF (zBb (k:=1) (o:=0) (rows':=List.map (cS cI) l1) rfl rfl (zAP (fun _=>rfl)))<|zA (zS (k:=1) (o:=0) (m:=1) isAgg55 sizeOf55 rfl rfl rfl rfl rfl)<|zm (H':=[.box 55 (zH (⟨l1⟩:zL)),.box 55 [(ls (cS cI) l1)]]) (zZ (k:=0) (o:=0) (cs:=[(ls (cS cI) ([]:List (List Int)))]) (la:=(zH (⟨l1⟩:zL))) sizeOf55 rfl rfl rfl rfl)<|zF ?_
  refine zb ?_
  show zAQ _ _ _ _ _ _
  obtain rfl:=Option.some.inj h
  exact zu (zFa isAgg55 sizeOf55 rfl rfl rfl rfl)
theorem zLn {a_p0:zL} {a_p1:Int} {a_p2:List Int} {r:zL×Int} (h:zHy a_p0 a_p1 a_p2=some r):PFn prog 109 [(AV.agg (zH a_p0)),li a_p1,ls cI a_p2] (AV.tup [(AV.agg (zH r.1)),li r.2]):=by
 refine zq func109 rfl ntmps109 results109 rfl ?_
 unfold zHy at h
 refine zI<|zC<|za (H':=[.box 55 (zH a_p0)]) (zw (t:=55) rfl)<|za (H':=[.box 55 (zH a_p0),.box 55 [(ls (cS cI) ([]:List (List Int)))]]) (zv (t:=55) (vs:=[.slice none 0 0]) (cs:=[.sl false []]) zeroValue55 (by kernel_rfl) rfl ⟨zh.nils,trivial⟩)<|zA (zD rfl)<|zF ?_
 refine zI<|zI<|zC<|zA (zS (k:=0) (o:=0) (m:=1) isAgg55 sizeOf55 rfl rfl rfl rfl rfl)<|zA (zB rfl)<|zR h fun x1 hx1 h => ?_
 refine zi func111 rfl (by kernel_rfl) (.fn 111) rfl rfl (zGn hx1) rfl<|zA (zD rfl)<|zF<|zI<|zC<|zA (zB rfl) ?_
 refine zA (z7 rfl rfl)<|zF ?_
 refine zY h rfl (fun hb1 h => ?_) (fun hb1 h => ?_)
 ·refine zI<|zC<|zA (z8 (pl:=[(0,1)]) (zs:=[.slice none 0 0]) (zc:=[.sl false []]) (res:=(zH (⟨([]:List (List Int))⟩:zL))) (fun _=>by kernel_rfl) rfl (⟨zh.nils,trivial⟩) (by exact zFX.refl _))<|zA (zB rfl)<|zm (H':=[.box 55 (zH a_p0),.box 55 (zH (⟨([]:List (List Int))⟩:zL))]) (zZ (k:=1) (o:=0) (cs:=[(ls (cS cI) ([]:List (List Int)))]) (la:=(zH (⟨([]:List (List Int))⟩:zL))) sizeOf55 rfl rfl rfl rfl)<|zA (zD rfl) ?_
  refine zF<|zb ?_
  show zAQ _ _ _ _ _ _
  obtain rfl:=Option.some.inj h
  exact zCR (zFa isAgg55 sizeOf55 rfl rfl rfl rfl) (zAM rfl rfl) rfl
 ·refine zP<|zI<|zC<|zA (zS (k:=0) (o:=0) (m:=1) isAgg55 sizeOf55 rfl rfl rfl rfl rfl)<|zR h fun x2 hx2 h=>zMT (es:=mI Value.bool x2) (la:=[(AV.agg (zH a_p0))]) (la':=[(AV.agg (zH a_p0))]) (S:=[]) func89 rfl (by kernel_rfl) (.fn 89) rfl ⟨zAt.nr rfl,trivial⟩ (zHm hx2) ?_
  refine zA (zD rfl)<|zF ?_
  refine zx (fun e' H'=>Rep 75 0 e' H' (mkE [(1,(li a_p1)),(2,(ls cI a_p2)),(3,(AV.ptr 0 0)),(6,(AV.ptr 1 0))]) [.box 55 (zH a_p0),.box 55 [(ls (cS cI) ([]:List (List Int)))]]∧zHd a_p0 a_p1 a_p2=some r) ?_ ?_
  ·
   refine zI<|zC<|zA (zB rfl)<|zA (zX underlying22 rfl)<|zA (zB rfl)<|zF ?_
   refine zQ<|z6 (σ:=Nat×Int×(List (Int×Bool))) (fun s=>s.1) (fun s e' H'=>match s with | (n1,i2,l3)=>Rep 75 0 e' H' (mkE [(1,(li a_p1)),(2,(ls cI a_p2)),(3,(AV.ptr 0 0)),(6,(AV.ptr 1 0)),(9,(AV.hd 2)),(23,(ls cI a_p2)),(24,(li (a_p2.length:Int))),(25,(li i2))]) [.box 55 (zH a_p0),.box 55 [(ls (cS cI) ([]:List (List Int)))],.map (mI Value.bool l3)]∧zFy a_p0 a_p1 a_p2 n1 i2 l3=some r) (z9,0,x2) ⟨zAE [0,1,2] rfl rfl (by kernel_rfl),h⟩ ?_
   clear h
   rintro ⟨n1,i2,l3⟩ e' H' ⟨hrep,h⟩
   cases n1 with
   | zero=>exact absurd (show (none:Option _)=some r from h) (by simp)
   | succ n1 =>
    replace h:zHg a_p0 a_p1 a_p2 (zFy a_p0 a_p1 a_p2 n1) i2 l3=some r:=h
    unfold zHg at h
    refine zV hrep ?_
    clear hrep
    refine zI<|zC<|zA (ze rfl rfl)<|zF<|zI ?_
    refine zY h rfl (fun hb10 h => ?_) (fun hb10 h => ?_)
    ·refine zP<|zI<|zQ<|zI<|zC<|zM h fun hb11 h => ?_
     refine zA (zU underlying22 sizeOf3 (fun _=>rfl) rfl rfl hb11)<|zA (zW (o:=0) isAgg3 rfl rfl)<|zA (zD rfl)<|zF<|zI<|zI ?_
     refine zC<|zA (zB rfl)<|zR h fun x5 hx5 h=>zi func88 rfl (by kernel_rfl) (.fn 88) rfl rfl (zHA hx5) rfl<|zA (zA6 (t:=x5) rfl)<|zF ?_
     refine zY h rfl (fun hb12 h => ?_) (fun hb12 h => ?_)
     ·refine zI<|zC<|zA (z8 (pl:=[(0,1)]) (zs:=[.slice none 0 0]) (zc:=[.sl false []]) (res:=(zH (⟨([]:List (List Int))⟩:zL))) (fun _=>by kernel_rfl) rfl (⟨zh.nils,trivial⟩) (by exact zFX.refl _))<|zm (H':=[.box 55 (zH a_p0),.box 55 (zH (⟨([]:List (List Int))⟩:zL)),.map (mI Value.bool l3)]) (zZ (k:=1) (o:=0) (cs:=[(ls (cS cI) ([]:List (List Int)))]) (la:=(zH (⟨([]:List (List Int))⟩:zL))) sizeOf55 rfl rfl rfl rfl)<|zA (zD rfl)<|zF ?_
      refine zb ?_
      show zAQ _ _ _ _ _ _
      obtain rfl:=Option.some.inj h
      exact zCR (zFa isAgg55 sizeOf55 rfl rfl rfl rfl) (zAM rfl rfl) rfl
     ·refine zP<|zI<|zI<|zC<|zA (zB rfl)<|zA (zB rfl) ?_
      refine zA (zMK (k:=2) (g:=Value.bool) (q:=at_ a_p2 i2) (l:=l3) (dflt:=false) (a:=(AV.lit (.bool (zLE false l3 (at_ a_p2 i2))))) underlying58 underlying3 zeroValue4 rfl rfl rfl rfl)<|zF ?_
      refine zY h rfl (fun hb13 h => ?_) (fun hb13 h => ?_)
      ·refine zI<|zC<|zA (z8 (pl:=[(0,1)]) (zs:=[.slice none 0 0]) (zc:=[.sl false []]) (res:=(zH (⟨([]:List (List Int))⟩:zL))) (fun _=>by kernel_rfl) rfl (⟨zh.nils,trivial⟩) (by exact zFX.refl _))<|zm (H':=[.box 55 (zH a_p0),.box 55 (zH (⟨([]:List (List Int))⟩:zL)),.map (mI Value.bool l3)]) (zZ (k:=1) (o:=0) (cs:=[(ls (cS cI) ([]:List (List Int)))]) (la:=(zH (⟨([]:List (List Int))⟩:zL))) sizeOf55 rfl rfl rfl rfl)<|zA (zD rfl)<|zF ?_
       refine zb ?_
       show zAQ _ _ _ _ _ _
       obtain rfl:=Option.some.inj h
       exact zCR (zFa isAgg55 sizeOf55 rfl rfl rfl rfl) (zAM rfl rfl) rfl
      ·refine zP<|zC<|zA (zB rfl)<|zA (zB rfl)<|zm (H':=[.box 55 (zH a_p0),.box 55 [(ls (cS cI) ([]:List (List Int)))],.map (mI Value.bool (zJd l3 (at_ a_p2 i2) true))]) (zMb (k:=2) (g:=Value.bool) (q:=at_ a_p2 i2) (l:=l3) (v:=true) underlying58 underlying3 rfl rfl rfl rfl)<|zF ?_
       refine zC<|zM h fun hb14 h=>zA (zf rfl rfl hb14)<|zA (zB rfl)<|zF ?_
       exact ⟨(n1,(i2+1),(zJd l3 (at_ a_p2 i2) true)),Nat.lt_succ_self _,zAE [0,1,2] rfl rfl (by kernel_rfl),h⟩
    ·refine zy ?_
     exact ⟨zAE [0,1] rfl rfl (by kernel_rfl),h⟩
  ·
   clear h
   rintro e' H' ⟨hrep,h⟩
   refine zV hrep ?_
   clear hrep
   unfold zHd at h
   refine zI<|zC<|zA (zK underlying55 rfl rfl sizeOf53 rfl)<|zA (zN isAgg53 rfl rfl rfl rfl)<|zA (zB rfl)<|zM h fun hb2 h => ?_
   refine zA (zU underlying53 sizeOf22 (fun _=>rfl) rfl rfl hb2)<|zA (zW (o:=0) isAgg22 rfl rfl)<|zA (zX underlying22 rfl)<|zM h fun hb3 h=>zDy (f:=cI) (a:=((at_ a_p0.lists a_p1).length:Int)) (c:=((at_ a_p0.lists a_p1).length:Int)) (d0:=0) zGe ⟨zh.refl _,trivial⟩ rfl underlying22 rfl rfl hb3<|zA (zD rfl) ?_
   refine zF<|zI<|zC<|zA (zB rfl)<|zA (zK underlying55 rfl rfl sizeOf53 rfl)<|zA (zN isAgg53 rfl rfl rfl rfl) ?_
   refine zA (zB rfl)<|zA (zU underlying53 sizeOf22 (fun _=>rfl) rfl rfl hb2)<|zA (zW (o:=0) isAgg22 rfl rfl)<|za (H':=[.box 55 (zH a_p0),.box 55 [(ls (cS cI) ([]:List (List Int)))],.vec 3 1 (List.map cI (zCO (List.replicate ((at_ a_p0.lists a_p1).length:Int).toNat 0) (at_ a_p0.lists a_p1)))]) (zKH (f:=cI) (k:=2) (l:=List.replicate ((at_ a_p0.lists a_p1).length:Int).toNat 0) (l2:=at_ a_p0.lists a_p1) underlying22 sizeOf3 (fun _=>rfl) rfl rfl rfl)<|zF ?_
   refine zx (fun e' H' => ∃ (l1:List Int),Rep 75 0 e' H' (mkE [(1,(li a_p1)),(3,(AV.ptr 0 0)),(6,(AV.ptr 1 0)),(12,(AV.hd 2))]) [.box 55 (zH a_p0),.box 55 [(ls (cS cI) ([]:List (List Int)))],.vec 3 1 (List.map cI l1)]∧zHo a_p0 a_p1 l1=some r) ?_ ?_
   ·
    refine zI<|zC<|zA (zB rfl)<|zA (zX underlying22 rfl)<|zA (zB rfl)<|zF ?_
    refine zQ<|z6 (σ:=Nat×Int×(List Int)) (fun s=>s.1) (fun s e' H'=>match s with | (n0,i1,l2)=>Rep 75 0 e' H' (mkE [(1,(li a_p1)),(2,(ls cI a_p2)),(3,(AV.ptr 0 0)),(6,(AV.ptr 1 0)),(12,(AV.hd 2)),(55,(li (a_p2.length:Int))),(56,(li i1))]) [.box 55 (zH a_p0),.box 55 [(ls (cS cI) ([]:List (List Int)))],.vec 3 1 (List.map cI l2)]∧zFv a_p0 a_p1 a_p2 n0 i1 l2=some r) (z9,0,(zCO (List.replicate ((at_ a_p0.lists a_p1).length:Int).toNat 0) (at_ a_p0.lists a_p1))) ⟨zAE [0,1,2] rfl rfl (by kernel_rfl),h⟩ ?_
    clear h
    rintro ⟨n0,i1,l2⟩ e' H' ⟨hrep,h⟩
    cases n0 with
    | zero=>exact absurd (show (none:Option _)=some r from h) (by simp)
    | succ n0 =>
     replace h:zHa a_p0 a_p1 a_p2 (zFv a_p0 a_p1 a_p2 n0) i1 l2=some r:=h
     unfold zHa at h
     refine zV hrep ?_
     clear hrep
     refine zI<|zC<|zA (ze rfl rfl)<|zF<|zI ?_
     refine zY h rfl (fun hb4 h => ?_) (fun hb4 h => ?_)
     ·refine zP<|zI<|zQ<|zI<|zC<|zA (zB rfl) ?_
      refine zA (zD rfl)<|zF<|zC<|zA (zB rfl)<|zA (zB rfl)<|zA (zB rfl) ?_
      refine zA (zX underlying22 rfl)<|zM h fun hb5 h=>zA (zB8 rfl rfl hb5)<|zA (zB rfl)<|zM h fun hb6 h=>zA (zB8 rfl rfl hb6) ?_
      refine zM h fun hb7 h=>zA (zU underlying22 sizeOf3 (fun _=>rfl) rfl rfl hb7)<|zA (zW (o:=0) isAgg3 rfl rfl)<|zGP (a:=(li (at_ a_p2 (((a_p2.length:Int) - 1) - i1)))) zGe underlying22 rfl rfl rfl rfl<|zM h fun hb8 h=>zDK (f:=cI) (k:=2) (j:=3) (l:=l2) (l':=[at_ a_p2 (((a_p2.length:Int) - 1) - i1)]) zGe (fun _=>rfl) underlying22 rfl rfl rfl rfl hb8 ?_
      refine zA (zD rfl)<|zF<|zC<|zM h fun hb9 h=>zA (zf rfl rfl hb9)<|zA (zB rfl) ?_
      refine zF ?_
      exact ⟨(n0,(i1+1),(l2++[at_ a_p2 (((a_p2.length:Int) - 1) - i1)])),Nat.lt_succ_self _,zAE [0,1,4] rfl rfl (by kernel_rfl),h⟩
     ·refine zy ?_
      exact ⟨l2,zAE [0,1,2] rfl rfl (by kernel_rfl),h⟩
   ·
    clear h
    rintro e' H' ⟨l1,hrep,h⟩
    refine zV hrep ?_
    clear hrep
    unfold zHo at h
    refine zI<|zC<|zA (zS (k:=0) (o:=0) (m:=1) isAgg55 sizeOf55 rfl rfl rfl rfl rfl)<|zA (zB rfl)<|zA (zB rfl)<|zR h fun x3 hx3 h => ?_
    refine zAF (zET (j:=2) (ds:=[12,73]) (rows':=List.map cI l1) rfl (zAP (fun _=>rfl)) ⟨rfl,rfl,trivial⟩)<|zR h fun x4 hx4 h=>zi func112 rfl (by kernel_rfl) (.fn 112) rfl rfl (zD2 hx4) rfl<|zm (H':=[.box 55 (zH a_p0),.box 55 (zH x4),.dead]) (zZ (k:=1) (o:=0) (cs:=[(ls (cS cI) ([]:List (List Int)))]) (la:=(zH x4)) sizeOf55 rfl rfl rfl rfl)<|zA (zD rfl)<|zF ?_
    refine zb ?_
    show zAQ _ _ _ _ _ _
    obtain rfl:=Option.some.inj h
    exact zCR (zFa isAgg55 sizeOf55 rfl rfl rfl rfl) (zAM rfl rfl) rfl
theorem zIQ {a_p0:zJ} {a_p1:Int} {a_p2:Int} {r:zJ×Bool} (h:zFr a_p0 a_p1 a_p2=some r):AFn prog 55 [AV.ptr 0 0,li a_p1,li a_p2] [.box 26 ([ls cI a_p0.nodes]++([li a_p0.batch]++([li a_p0.high]++([AV.osl 51 10 (List.map zO a_p0.zones)]++([AV.osl 55 1 (List.map zH a_p0.caches)]++[])))))] (AV.lit (.bool r.2)) [.box 26 ([ls cI r.1.nodes]++([li r.1.batch]++([li r.1.high]++([AV.osl 51 10 (List.map zO r.1.zones)]++([AV.osl 55 1 (List.map zH r.1.caches)]++[])))))]:=by
 refine zF6 func55 rfl ntmps55 results55 rfl ?_
 unfold zFr at h
 refine zI<|zC<|zA (zD rfl)<|zF<|zI<|zC ?_
 refine zA (zD rfl)<|zF ?_
 refine zx (fun e' H' => ∃ (l1:List zp) (l2:List Int),Rep 70 1 e' H' (mkE [(0,(AV.ptr 0 0)),(1,(li a_p1)),(2,(li a_p2)),(7,(AV.hd 1))]) [.box 26 [ls cI a_p0.nodes,li a_p0.batch,li a_p0.high,AV.osl 51 10 (List.map zO l1),AV.osl 55 1 (List.map zH a_p0.caches)],.vec 3 1 (List.map cI l2)]∧zEO a_p0 a_p1 a_p2 l1 l2=some r) ?_ ?_
 ·
  refine zI<|zC<|zA (zB rfl)<|zA (zAU rfl)<|zA (zK underlying26 rfl rfl sizeOf3 rfl)<|zA (zN isAgg3 rfl rfl rfl rfl) ?_
  refine zA (zB rfl)<|zF<|zQ<|z6 (σ:=Nat×Int×(List zp)×(List Int)) (fun s=>s.1) (fun s e' H'=>match s with | (n0,i1,l4,l5)=>Rep 70 1 e' H' (mkE [(0,(AV.ptr 0 0)),(1,(li a_p1)),(2,(li a_p2)),(7,(AV.hd 1)),(16,(li a_p0.batch)),(17,(li i1))]) [.box 26 [ls cI a_p0.nodes,li a_p0.batch,li a_p0.high,AV.osl 51 10 (List.map zO l4),AV.osl 55 1 (List.map zH a_p0.caches)],.vec 3 1 (List.map cI l5)]∧zEE a_p0 a_p1 a_p2 n0 i1 l4 l5=some r) (z9,0,a_p0.zones,[]) ⟨Rep.trans (zLN (d:=7) (el:=3) (sz:=1) rfl) (zAE [0,1] (l:=[(0,(AV.ptr 0 0)),(1,(li a_p1)),(2,(li a_p2)),(7,(AV.hd 1)),(16,(li a_p0.batch)),(17,(li 0))]) rfl rfl (by kernel_rfl)),h⟩ ?_
  clear h
  rintro ⟨n0,i1,l4,l5⟩ e' H' ⟨hrep,h⟩
  cases n0 with
  | zero=>exact absurd (show (none:Option _)=some r from h) (by simp)
  | succ n0 =>
   replace h:zF1 a_p0 a_p1 a_p2 (zEE a_p0 a_p1 a_p2 n0) i1 l4 l5=some r:=h
   unfold zF1 at h
   refine zV hrep ?_
   clear hrep
   refine zI<|zC<|zA (ze rfl rfl)<|zF<|zI ?_
   refine zY h rfl (fun hb3 h => ?_) (fun hb3 h => ?_)
   ·refine zP<|zI<|zQ<|zI<|zC<|zA (zB rfl) ?_
    refine zA (zAU rfl)<|zA (zK underlying26 rfl rfl sizeOf23 rfl)<|zAF (zBA (k:=0) (o:=3) (t':=51) (sz:=10) (rows:=List.map zO l4) rfl rfl)<|zA (zN isAgg23 rfl rfl rfl rfl)<|zA (zB rfl)<|zM h fun hb4 h => ?_
    refine zA (zAC (f:=zO) (l:=l4) (i:=a_p2) underlying23 sizeOf51 rfl rfl rfl hb4)<|zA (zCT (f:=zO) (l:=l4) (i:=a_p2) (c:=0) (q:=10) (la:=(zO (at_ l4 a_p2))) isAgg51 sizeOf51 rfl rfl (by first | rfl | omega) hb4 rfl rfl rfl)<|zR h fun x3 hx3 h=>zi func64 rfl (by kernel_rfl) (.fn 64) rfl rfl (zKP hx3) rfl<|zA (zB rfl)<|zA (zg rfl rfl) ?_
    refine zA (zg rfl rfl)<|zA (zg rfl rfl)<|za (H':=[.box 26 [ls cI a_p0.nodes,li a_p0.batch,li a_p0.high,AV.hd 2,AV.osl 55 1 (List.map zH a_p0.caches)],.vec 3 1 (List.map cI l5),.vec 51 10 (List.map zO l4),.box 51 (zO ⟨0,0,0,0,0,(List.replicate 5 ([]:List Int))⟩)]) (zv (t:=51) (vs:=[.int .i64 0,.int .i64 0,.int .i64 0,.int .i64 0,.int .i64 0,.slice none 0 0,.slice none 0 0,.slice none 0 0,.slice none 0 0,.slice none 0 0]) (cs:=[.lit (.int .i64 0),.lit (.int .i64 0),.lit (.int .i64 0),.lit (.int .i64 0),.lit (.int .i64 0),.sl false [],.sl false [],.sl false [],.sl false [],.sl false []]) zeroValue51 (by kernel_rfl) rfl ⟨zh.refl _,zh.refl _,zh.refl _,zh.refl _,zh.refl _,zh.nils,zh.nils,zh.nils,zh.nils,zh.nils,trivial⟩)<|zm (H':=[.box 26 [ls cI a_p0.nodes,li a_p0.batch,li a_p0.high,AV.hd 2,AV.osl 55 1 (List.map zH a_p0.caches)],.vec 3 1 (List.map cI l5),.vec 51 10 (List.map zO l4),.box 51 (zO x3.1)]) (zZ (k:=3) (o:=0) (cs:=(zO ⟨0,0,0,0,0,(List.replicate 5 ([]:List Int))⟩)) (la:=(zO x3.1)) sizeOf51 rfl rfl rfl rfl)<|zA (zD rfl)<|zA (zD rfl) ?_
    refine zF<|zI<|zI<|zC<|zA (zB rfl)<|zA (z7 rfl rfl) ?_
    refine zF ?_
    refine zY h rfl (fun hb5 h => ?_) (fun hb5 h => ?_)
    ·refine zy ?_
     exact ⟨l4,l5,Rep.trans (zAJ (k:=0) (j:=2) (o:=3) rfl rfl rfl rfl) (zAE [0,1] (l:=[(0,(AV.ptr 0 0)),(1,(li a_p1)),(2,(li a_p2)),(7,(AV.hd 1))]) rfl rfl (by kernel_rfl)),h⟩
    ·refine zP<|zI ?_
     show AW _ _ _ _ _ _ [.box 26 [ls cI a_p0.nodes,li a_p0.batch,li a_p0.high,AV.hd 2,AV.osl 55 1 (List.map zH a_p0.caches)],.vec 3 1 (List.map cI l5),.vec 51 10 (List.map zO l4),.box 51 (zO x3.1)]
     refine zAx (n:=70) (m:=1) [.head 0 0,.head 0 0,.head 0 0,.head 0 0,.head 0 0,.head 0 0,.head 0 0,.tail 0] [7] [AV.ptr 0 0,AV.ptr 0 0,AV.ptr 0 3,AV.hd 2,li a_p2,(AV.agg (zO x3.1)),(AV.ptr 2 (a_p2.toNat*10)),.any] [[.box 26 [ls cI a_p0.nodes,li a_p0.batch,li a_p0.high,AV.hd 2,AV.osl 55 1 (List.map zH a_p0.caches)],.vec 3 1 (List.map cI l5),.vec 51 10 (List.map zO l4),.box 51 (zO x3.1)],[.box 26 [ls cI a_p0.nodes,li a_p0.batch,li a_p0.high,AV.hd 2,AV.osl 55 1 (List.map zH a_p0.caches)],.vec 3 1 (List.map cI l5),.vec 51 10 (List.map zO (l4.set a_p2.toNat x3.1)),.box 51 (zO x3.1)]] (by kernel_rfl) (by kernel_rfl) ⟨?_,?_,?_,?_,?_,?_,?_,?_,trivial⟩ ?_
     ·exact D1 fun e s p=>zB (s 0 rfl)
     ·exact D1 fun e s p=>zAU p.1
     ·exact D1 fun e s p=>zK (k:=0) (o:=0) (off:=3) underlying26 rfl rfl sizeOf23 p.1
     ·exact D1 fun e s p=>zN (k:=0) (o:=3) isAgg23 p.1 rfl rfl rfl
     ·exact D1 fun e s p=>zB (s 2 rfl)
     ·exact D1 fun e s p=>zS (k:=3) (o:=0) (m:=10) isAgg51 sizeOf51 (s 8 rfl) rfl rfl rfl rfl
     ·exact D1 fun e s p=>zAC (f:=zO) (l:=l4) (i:=a_p2) underlying23 sizeOf51 p.2.2.2.2.2.1 rfl p.2.2.2.2.2.2.1 hb4
     ·
      intro e17 hs17 hp16
      refine zm (H':=[.box 26 [ls cI a_p0.nodes,li a_p0.batch,li a_p0.high,AV.hd 2,AV.osl 55 1 (List.map zH a_p0.caches)],.vec 3 1 (List.map cI l5),.vec 51 10 (List.map zO (l4.set a_p2.toNat x3.1)),.box 51 (zO x3.1)]) (zCM (k:=2) (o:=(a_p2.toNat*10)) (f:=zO) (l:=l4) (i:=a_p2) (z:=x3.1) sizeOf51 (fun _=>rfl) (by exact hp16.1) rfl (by first | rfl | omega) hb4 (by exact hp16.2.2.2.2.2.2.2.1) rfl) ?_
      exact zF ⟨fun _=>rfl,rfl⟩
     intro e18 hs18 hq2
     refine zV (zBY (l:=[(0,(AV.ptr 0 0)),(1,(li a_p1)),(2,(li a_p2)),(7,(AV.hd 1)),(9,(li x3.2.1)),(16,(li a_p0.batch)),(17,(li i1))]) ⟨hs18 0 rfl,hs18 1 rfl,hs18 2 rfl,hs18 7 rfl,hs18 9 rfl,hs18 16 rfl,hs18 17 rfl,trivial⟩)<|zC<|zA (zB (av:=(AV.hd 1)) rfl)<|zA (zB (av:=(li x3.2.1)) rfl)<|zGP (a:=(li x3.2.1)) zGe underlying22 rfl rfl rfl rfl<|zM h fun hb6 h => ?_
     refine zDK (f:=cI) (k:=1) (j:=4) (l:=l5) (l':=[x3.2.1]) zGe (fun _=>rfl) underlying22 rfl rfl rfl rfl hb6<|zA (zD rfl)<|zF<|zC<|zM h fun hb7 h=>zA (zf rfl rfl hb7) ?_
     refine zA (zB rfl)<|zF ?_
     exact ⟨(n0,(i1+1),l4.set a_p2.toNat x3.1,(l5++[x3.2.1])),Nat.lt_succ_self _,Rep.trans (zAJ (k:=0) (j:=2) (o:=3) rfl rfl rfl rfl) (zAE [0,5] (l:=[(0,(AV.ptr 0 0)),(1,(li a_p1)),(2,(li a_p2)),(7,(AV.hd 1)),(16,(li a_p0.batch)),(17,(li (i1+1)))]) rfl rfl (by kernel_rfl)),h⟩
   ·refine zy ?_
    exact ⟨l4,l5,zAE [0,1] rfl rfl (by kernel_rfl),h⟩
 ·
  clear h
  rintro e' H' ⟨l1,l2,hrep,h⟩
  refine zV hrep ?_
  clear hrep
  unfold zEO at h
  refine zx (fun e' H' => ∃ (l3:List zL),Rep 70 1 e' H' (mkE [(7,(ls cI l2))]) [.box 26 [ls cI a_p0.nodes,li a_p0.batch,li a_p0.high,AV.osl 51 10 (List.map zO l1),AV.osl 55 1 (List.map zH l3)]]∧zEQ a_p0 l1 l2 l3=some r) ?_ ?_
  ·
   refine zI<|zC<|zA (zB rfl)<|zA (zAU rfl)<|zA (zK underlying26 rfl rfl sizeOf24 rfl)<|zAF (zBA (k:=0) (o:=4) (t':=55) (sz:=1) (rows:=List.map zH a_p0.caches) rfl rfl) ?_
   refine zA (zN isAgg24 rfl rfl rfl rfl)<|zA (zB rfl)<|zM h fun hb1 h=>zA (zAC (f:=zH) (l:=a_p0.caches) (i:=a_p1) underlying24 sizeOf55 rfl rfl rfl hb1)<|zA (zCT (f:=zH) (l:=a_p0.caches) (i:=a_p1) (c:=0) (q:=1) (la:=(zH (at_ a_p0.caches a_p1))) isAgg55 sizeOf55 rfl rfl (by first | rfl | omega) hb1 rfl rfl rfl)<|zA (zB rfl) ?_
   refine zA (zB rfl)<|zR h fun x1 hx1 h=>zAF (zET (j:=1) (ds:=[7,54]) (rows':=List.map cI l2) rfl (zAP (fun _=>rfl)) ⟨rfl,rfl,trivial⟩)<|zR h fun x2 hx2 h=>zi func109 rfl (by kernel_rfl) (.fn 109) rfl rfl (zLn hx2) rfl<|zA (zB rfl) ?_
   refine zA (zg rfl rfl)<|zA (zg rfl rfl)<|za (H':=[.box 26 [ls cI a_p0.nodes,li a_p0.batch,li a_p0.high,AV.osl 51 10 (List.map zO l1),AV.hd 2],.dead,.vec 55 1 (List.map zH a_p0.caches),.box 55 [(ls (cS cI) ([]:List (List Int)))]]) (zv (t:=55) (vs:=[.slice none 0 0]) (cs:=[.sl false []]) zeroValue55 (by kernel_rfl) rfl ⟨zh.nils,trivial⟩)<|zm (H':=[.box 26 [ls cI a_p0.nodes,li a_p0.batch,li a_p0.high,AV.osl 51 10 (List.map zO l1),AV.hd 2],.dead,.vec 55 1 (List.map zH a_p0.caches),.box 55 (zH x2.1)]) (zZ (k:=3) (o:=0) (cs:=[(ls (cS cI) ([]:List (List Int)))]) (la:=(zH x2.1)) sizeOf55 rfl rfl rfl rfl)<|zA (zD rfl)<|zF ?_
   refine zI<|zC<|zA (zB rfl)<|zA (zBR rfl rfl)<|zF ?_
   refine zY h rfl (fun hb2 h => ?_) (fun hb2 h => ?_)
   ·show AW _ _ _ _ _ _ [.box 26 [ls cI a_p0.nodes,li a_p0.batch,li a_p0.high,AV.osl 51 10 (List.map zO l1),AV.hd 2],.dead,.vec 55 1 (List.map zH a_p0.caches),.box 55 (zH x2.1)]
    refine zAx (n:=70) (m:=1) [.head 0 0,.head 0 0,.head 0 0,.head 0 0,.head 0 0,.head 0 0,.head 0 0,.tail 0] [7] [AV.ptr 0 0,AV.ptr 0 0,AV.ptr 0 4,AV.hd 2,li a_p1,(AV.agg (zH x2.1)),(AV.ptr 2 (a_p1.toNat*1)),.any] [[.box 26 [ls cI a_p0.nodes,li a_p0.batch,li a_p0.high,AV.osl 51 10 (List.map zO l1),AV.hd 2],.dead,.vec 55 1 (List.map zH a_p0.caches),.box 55 (zH x2.1)],[.box 26 [ls cI a_p0.nodes,li a_p0.batch,li a_p0.high,AV.osl 51 10 (List.map zO l1),AV.hd 2],.dead,.vec 55 1 (List.map zH (a_p0.caches.set a_p1.toNat x2.1)),.box 55 (zH x2.1)]] (by kernel_rfl) (by kernel_rfl) ⟨?_,?_,?_,?_,?_,?_,?_,?_,trivial⟩ ?_
    ·exact D1 fun e s p=>zB (s 0 rfl)
    ·exact D1 fun e s p=>zAU p.1
    ·exact D1 fun e s p=>zK (k:=0) (o:=0) (off:=4) underlying26 rfl rfl sizeOf24 p.1
    ·exact D1 fun e s p=>zN (k:=0) (o:=4) isAgg24 p.1 rfl rfl rfl
    ·exact D1 fun e s p=>zB (s 1 rfl)
    ·exact D1 fun e s p=>zS (k:=3) (o:=0) (m:=1) isAgg55 sizeOf55 (s 11 rfl) rfl rfl rfl rfl
    ·exact D1 fun e s p=>zAC (f:=zH) (l:=a_p0.caches) (i:=a_p1) underlying24 sizeOf55 p.2.2.2.2.2.1 rfl p.2.2.2.2.2.2.1 hb1
    ·
     intro e8 hs8 hp8
     refine zm (H':=[.box 26 [ls cI a_p0.nodes,li a_p0.batch,li a_p0.high,AV.osl 51 10 (List.map zO l1),AV.hd 2],.dead,.vec 55 1 (List.map zH (a_p0.caches.set a_p1.toNat x2.1)),.box 55 (zH x2.1)]) (zCM (k:=2) (o:=(a_p1.toNat*1)) (f:=zH) (l:=a_p0.caches) (i:=a_p1) (z:=x2.1) sizeOf55 (fun _=>rfl) (by exact hp8.1) rfl (by first | rfl | omega) hb1 (by exact hp8.2.2.2.2.2.2.2.1) rfl) ?_
     exact zF ⟨fun _=>rfl,rfl⟩
    intro e9 hs9 hq1
    exact ⟨a_p0.caches.set a_p1.toNat x2.1,Rep.trans (zBY (l:=[(7,(ls cI l2))]) ⟨hs9 7 rfl,trivial⟩) (Rep.trans (zAJ (k:=0) (j:=2) (o:=4) (cs:=[ls cI a_p0.nodes,li a_p0.batch,li a_p0.high,AV.osl 51 10 (List.map zO l1),AV.hd 2]) rfl rfl rfl rfl) (zAE [0] (l:=[(7,(ls cI l2))]) rfl rfl (by kernel_rfl))),h⟩
   ·refine zP ?_
    exact ⟨a_p0.caches,Rep.trans (zAJ (k:=0) (j:=2) (o:=4) rfl rfl rfl rfl) (zAE [0] (l:=[(7,(ls cI l2))]) rfl rfl (by kernel_rfl)),h⟩
  ·
   clear h
   rintro e' H' ⟨l3,hrep,h⟩
   refine zV hrep ?_
   clear hrep
   unfold zEQ at h
   refine zI<|zC<|zA (zB rfl)<|zA (zX underlying22 rfl)<|zA (zAl rfl rfl)<|zA (zD rfl) ?_
   refine zF<|zb ?_
   show zQU _ _ _ _ _ _ _ _
   obtain rfl:=Option.some.inj h
   exact ⟨mkE [(6,(AV.lit (.bool (decide (0<(l2.length:Int))))))],[.box 26 [ls cI a_p0.nodes,li a_p0.batch,li a_p0.high,AV.osl 51 10 (List.map zO l1),AV.osl 55 1 (List.map zH l3)]],zAE [0] rfl rfl (by kernel_rfl),zVA rfl rfl⟩
theorem zL2 {a_c:zL} {a_zone:Int} {r:zL×(List Int)×Int} (h:zKA a_c a_zone=some r):PFn prog 110 [(AV.agg (zH a_c)),li a_zone] (AV.tup [(AV.agg (zH r.1)),ls cI r.2.1,li r.2.2]):=by
 refine zq func110 rfl ntmps110 results110 rfl ?_
 unfold zKA at h
 refine zI<|zC<|za (H':=[.box 55 (zH a_c)]) (zw (t:=55) rfl)<|za (H':=[.box 55 (zH a_c),.box 55 [(ls (cS cI) ([]:List (List Int)))]]) (zv (t:=55) (vs:=[.slice none 0 0]) (cs:=[.sl false []]) zeroValue55 (by kernel_rfl) rfl ⟨zh.nils,trivial⟩)<|zA (zD rfl)<|zA (zD rfl) ?_
 refine zF<|zI<|zI<|zC<|zA (zS (k:=0) (o:=0) (m:=1) isAgg55 sizeOf55 rfl rfl rfl rfl rfl)<|zA (zB rfl) ?_
 refine zR h fun x1 hx1 h=>zi func111 rfl (by kernel_rfl) (.fn 111) rfl rfl (zGn hx1) rfl<|zA (zD rfl)<|zF<|zI<|zC ?_
 refine zA (zB rfl)<|zA (z7 rfl rfl)<|zF ?_
 refine zY h rfl (fun hb1 h => ?_) (fun hb1 h => ?_)
 ·refine zI<|zC<|zA (z8 (pl:=[(0,1)]) (zs:=[.slice none 0 0]) (zc:=[.sl false []]) (res:=(zH (⟨([]:List (List Int))⟩:zL))) (fun _=>by kernel_rfl) rfl (⟨zh.nils,trivial⟩) (by exact zFX.refl _))<|zA (zB rfl)<|zm (H':=[.box 55 (zH a_c),.box 55 (zH (⟨([]:List (List Int))⟩:zL))]) (zZ (k:=1) (o:=0) (cs:=[(ls (cS cI) ([]:List (List Int)))]) (la:=(zH (⟨([]:List (List Int))⟩:zL))) sizeOf55 rfl rfl rfl rfl)<|zA (zD rfl) ?_
  refine zA (zD rfl)<|zF<|zb ?_
  show zAQ _ _ _ _ _ _
  obtain rfl:=Option.some.inj h
  exact zC6 (zFa isAgg55 sizeOf55 rfl rfl rfl rfl) (zHs (zAM rfl rfl) zh.nils) (zAM rfl rfl) rfl
 ·refine zP<|zI<|zC<|zA (zK underlying55 rfl rfl sizeOf53 rfl)<|zA (zN isAgg53 rfl rfl rfl rfl)<|zA (zB rfl) ?_
  refine zM h fun hb2 h=>zA (zU underlying53 sizeOf22 (fun _=>rfl) rfl rfl hb2)<|zA (zW (o:=0) isAgg22 rfl rfl)<|zA (zX underlying22 rfl)<|zM h fun hb3 h=>zDy (f:=cI) (a:=((at_ a_c.lists a_zone).length:Int)) (c:=((at_ a_c.lists a_zone).length:Int)) (d0:=0) zGe ⟨zh.refl _,trivial⟩ rfl underlying22 rfl rfl hb3 ?_
  refine zA (zD rfl)<|zF<|zI<|zC<|zA (zB rfl)<|zA (zK underlying55 rfl rfl sizeOf53 rfl) ?_
  refine zA (zN isAgg53 rfl rfl rfl rfl)<|zA (zB rfl)<|zA (zU underlying53 sizeOf22 (fun _=>rfl) rfl rfl hb2)<|zA (zW (o:=0) isAgg22 rfl rfl)<|za (H':=[.box 55 (zH a_c),.box 55 [(ls (cS cI) ([]:List (List Int)))],.vec 3 1 (List.map cI (zCO (List.replicate ((at_ a_c.lists a_zone).length:Int).toNat 0) (at_ a_c.lists a_zone)))]) (zKH (f:=cI) (k:=2) (l:=List.replicate ((at_ a_c.lists a_zone).length:Int).toNat 0) (l2:=at_ a_c.lists a_zone) underlying22 sizeOf3 (fun _=>rfl) rfl rfl rfl)<|zF ?_
  refine zI<|zC<|zA (zS (k:=0) (o:=0) (m:=1) isAgg55 sizeOf55 rfl rfl rfl rfl rfl)<|zA (zB rfl)<|zR h fun x2 hx2 h=>zAw (r':=(AV.agg (zH x2))) (la:=[(AV.agg (zH a_c)),li a_zone,(AV.lit (.slice none 0 0))]) (la':=[(AV.agg (zH a_c)),li a_zone,(ls cI [])]) (r:=(AV.agg (zH x2))) (S:=[]) func112 rfl (by kernel_rfl) (.fn 112) rfl ⟨zAt.nr rfl,zAt.nr rfl,zAt.sub zh.nils rfl,trivial⟩ (zD2 hx2) (.inl rfl) rfl ?_
  refine zA (zB rfl)<|zm (H':=[.box 55 (zH a_c),.box 55 (zH x2),.vec 3 1 (List.map cI (zCO (List.replicate ((at_ a_c.lists a_zone).length:Int).toNat 0) (at_ a_c.lists a_zone)))]) (zZ (k:=1) (o:=0) (cs:=[(ls (cS cI) ([]:List (List Int)))]) (la:=(zH x2)) sizeOf55 rfl rfl rfl rfl)<|zA (zD rfl)<|zA (zD rfl)<|zF<|zV (zET (j:=2) (ds:=[5,8,22,23,33]) (rows':=List.map cI (zCO (List.replicate ((at_ a_c.lists a_zone).length:Int).toNat 0) (at_ a_c.lists a_zone))) rfl (zAP (fun _=>rfl)) ⟨rfl,rfl,rfl,rfl,rfl,trivial⟩) ?_
  refine zb ?_
  show zAQ _ _ _ _ _ _
  obtain rfl:=Option.some.inj h
  exact zC6 (zFa isAgg55 sizeOf55 rfl rfl rfl rfl) (zAM rfl rfl) (zAM rfl rfl) rfl
theorem zNb {a_z:zp} {a_frame:Int} {a_order:Int} {r:zp×Int} (h:zH6 a_z a_frame a_order=some r):PFn prog 71 [(AV.agg (zO a_z)),li a_frame,li a_order] (AV.tup [(AV.agg (zO r.1)),li r.2]):=by
 refine zq func71 rfl ntmps71 results71 rfl ?_
 unfold zH6 at h
 refine zI<|zC<|za (H':=[.box 51 (zO a_z)]) (zw (t:=51) rfl)<|za (H':=[.box 51 (zO a_z),.box 51 ([li 0]++([li 0]++([li 0]++([li 0]++([li 0]++((cA 5 (eS cI) ([]:List Int) (List.replicate 5 ([]:List Int)))++[]))))))]) (zv (t:=51) (vs:=[.int .i64 0,.int .i64 0,.int .i64 0,.int .i64 0,.int .i64 0,.slice none 0 0,.slice none 0 0,.slice none 0 0,.slice none 0 0,.slice none 0 0]) (cs:=[.lit (.int .i64 0),.lit (.int .i64 0),.lit (.int .i64 0),.lit (.int .i64 0),.lit (.int .i64 0),.sl false [],.sl false [],.sl false [],.sl false [],.sl false []]) zeroValue51 (by kernel_rfl) rfl ⟨zh.refl _,zh.refl _,zh.refl _,zh.refl _,zh.refl _,zh.nils,zh.nils,zh.nils,zh.nils,zh.nils,trivial⟩)<|zA (zD rfl)<|zF ?_
 refine zI<|zI<|zC<|zA (zS (k:=0) (o:=0) (m:=10) isAgg51 sizeOf51 rfl rfl rfl rfl rfl)<|zR h fun x1 hx1 h=>zi func42 rfl (by kernel_rfl) (.fn 42) rfl rfl (zEi hx1) rfl ?_
 refine zA (zD rfl)<|zF<|zI<|zC<|zA (zB rfl)<|zA (z7 rfl rfl) ?_
 refine zF ?_
 refine zY h rfl (fun hb1 h => ?_) (fun hb1 h => ?_)
 ·refine zI<|zC<|zA (z8 (pl:=[(0,1),(1,1),(2,1),(3,1),(4,1),(5,5)]) (zs:=[.int .i64 0,.int .i64 0,.int .i64 0,.int .i64 0,.int .i64 0,.slice none 0 0,.slice none 0 0,.slice none 0 0,.slice none 0 0,.slice none 0 0]) (zc:=[.lit (.int .i64 0),.lit (.int .i64 0),.lit (.int .i64 0),.lit (.int .i64 0),.lit (.int .i64 0),.sl false [],.sl false [],.sl false [],.sl false [],.sl false []]) (res:=(zO (⟨0,0,0,0,0,(List.replicate 5 ([]:List Int))⟩:zp))) (fun _=>by kernel_rfl) rfl (⟨zh.refl _,⟨zh.refl _,⟨zh.refl _,⟨zh.refl _,⟨zh.refl _,⟨zh.nils,⟨zh.nils,⟨zh.nils,⟨zh.nils,⟨zh.nils,trivial⟩⟩⟩⟩⟩⟩⟩⟩⟩⟩) (by exact zFX.refl _))<|zA (zB rfl)<|zm (H':=[.box 51 (zO a_z),.box 51 (zO (⟨0,0,0,0,0,(List.replicate 5 ([]:List Int))⟩:zp))]) (zZ (k:=1) (o:=0) (cs:=([li 0]++([li 0]++([li 0]++([li 0]++([li 0]++((cA 5 (eS cI) ([]:List Int) (List.replicate 5 ([]:List Int)))++[]))))))) (la:=(zO (⟨0,0,0,0,0,(List.replicate 5 ([]:List Int))⟩:zp))) sizeOf51 rfl rfl rfl rfl)<|zA (zD rfl) ?_
  refine zF<|zb ?_
  show zAQ _ _ _ _ _ _
  obtain rfl:=Option.some.inj h
  exact zCR (zFa isAgg51 sizeOf51 rfl rfl rfl rfl) (zAM rfl rfl) rfl
 ·refine zP<|zI<|zI<|zC<|zA (zB rfl)<|zA (ze rfl rfl) ?_
  refine zA (zB rfl)<|zT rfl rfl (fun hc1=>zt.step (zB rfl))<|zT rfl rfl (fun hc2=>zt.step (zAl (z5 rfl hc2) rfl))<|zA (zd rfl rfl)<|zA (zB rfl)<|zT rfl rfl (fun hc3=>zt.step (zS (k:=0) (o:=0) (m:=10) isAgg51 sizeOf51 rfl rfl rfl rfl rfl)) ?_
  refine zT rfl rfl (fun hc4=>zt.step (zB rfl))<|zT rfl rfl (fun hc5=>zt.step (zB rfl))<|zR h fun x2 hx2 h=>zCA (g:=25) (s:=(decide (a_order<0))||(decide (4<a_order))) (r':=(AV.lit (.bool x2))) rfl rfl (fun hc6=>⟨86,_,_,[],[(AV.agg (zO a_z)),li a_frame,li a_order],[(AV.agg ([li a_z.node]++([li a_z.kind]++([li a_z.start]++([li a_z.count]++([li a_z.min]++([AV.any,AV.any,AV.any,AV.any,AV.any]++[]))))))),li a_frame,li a_order],(AV.lit (.bool x2)),[],func86,rfl,by kernel_rfl,.fn 86,(zAK (z5 rfl hc6) (zAK (z5 rfl hc6) (zAK (z5 rfl hc6) rfl))),⟨zLD (hd:=([li a_z.node]++[li a_z.kind]++[li a_z.start]++[li a_z.count]++[li a_z.min])) (tl:=((cA 5 (eS cI) ([]:List Int) a_z.free))) rfl,zAt.nr rfl,zAt.nr rfl,trivial⟩,zFO (zF3 hc6 hx2),.inl rfl,rfl⟩)<|zT rfl rfl (fun hc7=>zt.step (zA6 (t:=x2) (z5 rfl hc7)))<|zA (zd rfl rfl) ?_
  refine zF ?_
  refine zY h rfl (fun hb2 h => ?_) (fun hb2 h => ?_)
  ·refine zI<|zC<|zA (z8 (pl:=[(0,1),(1,1),(2,1),(3,1),(4,1),(5,5)]) (zs:=[.int .i64 0,.int .i64 0,.int .i64 0,.int .i64 0,.int .i64 0,.slice none 0 0,.slice none 0 0,.slice none 0 0,.slice none 0 0,.slice none 0 0]) (zc:=[.lit (.int .i64 0),.lit (.int .i64 0),.lit (.int .i64 0),.lit (.int .i64 0),.lit (.int .i64 0),.sl false [],.sl false [],.sl false [],.sl false [],.sl false []]) (res:=(zO (⟨0,0,0,0,0,(List.replicate 5 ([]:List Int))⟩:zp))) (fun _=>by kernel_rfl) rfl (⟨zh.refl _,⟨zh.refl _,⟨zh.refl _,⟨zh.refl _,⟨zh.refl _,⟨zh.nils,⟨zh.nils,⟨zh.nils,⟨zh.nils,⟨zh.nils,trivial⟩⟩⟩⟩⟩⟩⟩⟩⟩⟩) (by exact zFX.refl _))<|zm (H':=[.box 51 (zO a_z),.box 51 (zO (⟨0,0,0,0,0,(List.replicate 5 ([]:List Int))⟩:zp))]) (zZ (k:=1) (o:=0) (cs:=([li 0]++([li 0]++([li 0]++([li 0]++([li 0]++((cA 5 (eS cI) ([]:List Int) (List.replicate 5 ([]:List Int)))++[]))))))) (la:=(zO (⟨0,0,0,0,0,(List.replicate 5 ([]:List Int))⟩:zp))) sizeOf51 rfl rfl rfl rfl)<|zA (zD rfl)<|zF ?_
   refine zb ?_
   show zAQ _ _ _ _ _ _
   obtain rfl:=Option.some.inj h
   exact zCR (zFa isAgg51 sizeOf51 rfl rfl rfl rfl) (zAM rfl rfl) rfl
  ·refine zP ?_
   refine zx (fun e' H'=>Rep 57 0 e' H' (mkE [(1,(li a_frame)),(2,(li a_order)),(3,(AV.ptr 0 0)),(6,(AV.ptr 1 0))]) [.box 51 (zO a_z),.box 51 ([li 0]++([li 0]++([li 0]++([li 0]++([li 0]++((cA 5 (eS cI) ([]:List Int) (List.replicate 5 ([]:List Int)))++[]))))))]∧zH0 a_z a_frame a_order=some r) ?_ ?_
   ·
    refine zI<|zC<|zA (zB rfl)<|zA (zD rfl)<|zF<|zQ ?_
    refine z6 (σ:=Nat×Int) (fun s=>s.1) (fun s e' H'=>match s with | (n0,i1)=>Rep 57 0 e' H' (mkE [(1,(li a_frame)),(2,(li a_order)),(3,(AV.ptr 0 0)),(6,(AV.ptr 1 0)),(9,(li i1))]) [.box 51 (zO a_z),.box 51 ([li 0]++([li 0]++([li 0]++([li 0]++([li 0]++((cA 5 (eS cI) ([]:List Int) (List.replicate 5 ([]:List Int)))++[]))))))]∧zGb a_z a_frame a_order n0 i1=some r) (z9,a_frame) ⟨zAE [0,1] rfl rfl (by kernel_rfl),h⟩ ?_
    clear h
    rintro ⟨n0,i1⟩ e' H' ⟨hrep,h⟩
    cases n0 with
    | zero=>exact absurd (show (none:Option _)=some r from h) (by simp)
    | succ n0 =>
     replace h:zES a_z a_frame a_order (zGb a_z a_frame a_order n0) i1=some r:=h
     unfold zES at h
     refine zV hrep ?_
     clear hrep
     refine zI<|zI<|zC<|zA (zB rfl)<|zA (zB rfl)<|zA (zB rfl) ?_
     refine zM h fun hb3 h=>zM h fun hb4 h=>zA (zDI (a:=1) (b:=a_order) rfl rfl hb3 hb4)<|zM h fun hb5 h=>zA (zf rfl rfl hb5)<|zA (ze rfl rfl) ?_
     refine zF ?_
     refine zY h rfl (fun hb6 h => ?_) (fun hb6 h => ?_)
     ·refine zP<|zI<|zQ<|zI<|zC<|zA (zS (k:=0) (o:=0) (m:=10) isAgg51 sizeOf51 rfl rfl rfl rfl rfl) ?_
      refine zA (zB rfl)<|zR h fun x5 hx5 h=>zi func92 rfl (by kernel_rfl) (.fn 92) rfl rfl (zKN hx5) rfl<|zA (zB rfl)<|zA (zg rfl rfl)<|zA (zg rfl rfl) ?_
      refine zA (zD rfl)<|zA (zD rfl)<|zF<|zI<|zC<|zA (zB rfl) ?_
      refine zA (zAp rfl rfl)<|zF ?_
      refine zY h rfl (fun hb7 h => ?_) (fun hb7 h => ?_)
      ·refine zI<|zC<|zA (z8 (pl:=[(0,1),(1,1),(2,1),(3,1),(4,1),(5,5)]) (zs:=[.int .i64 0,.int .i64 0,.int .i64 0,.int .i64 0,.int .i64 0,.slice none 0 0,.slice none 0 0,.slice none 0 0,.slice none 0 0,.slice none 0 0]) (zc:=[.lit (.int .i64 0),.lit (.int .i64 0),.lit (.int .i64 0),.lit (.int .i64 0),.lit (.int .i64 0),.sl false [],.sl false [],.sl false [],.sl false [],.sl false []]) (res:=(zO (⟨0,0,0,0,0,(List.replicate 5 ([]:List Int))⟩:zp))) (fun _=>by kernel_rfl) rfl (⟨zh.refl _,⟨zh.refl _,⟨zh.refl _,⟨zh.refl _,⟨zh.refl _,⟨zh.nils,⟨zh.nils,⟨zh.nils,⟨zh.nils,⟨zh.nils,trivial⟩⟩⟩⟩⟩⟩⟩⟩⟩⟩) (by exact zFX.refl _))<|zm (H':=[.box 51 (zO a_z),.box 51 (zO (⟨0,0,0,0,0,(List.replicate 5 ([]:List Int))⟩:zp))]) (zZ (k:=1) (o:=0) (cs:=([li 0]++([li 0]++([li 0]++([li 0]++([li 0]++((cA 5 (eS cI) ([]:List Int) (List.replicate 5 ([]:List Int)))++[]))))))) (la:=(zO (⟨0,0,0,0,0,(List.replicate 5 ([]:List Int))⟩:zp))) sizeOf51 rfl rfl rfl rfl)<|zA (zD rfl)<|zF ?_
       refine zb ?_
       show zAQ _ _ _ _ _ _
       obtain rfl:=Option.some.inj h
       exact zCR (zFa isAgg51 sizeOf51 rfl rfl rfl rfl) (zAM rfl rfl) rfl
      ·refine zP<|zC<|zA (zB rfl)<|zM h fun hb8 h=>zA (zf rfl rfl hb8)<|zA (zD rfl) ?_
       refine zF ?_
       exact ⟨(n0,(i1+1)),Nat.lt_succ_self _,zAE [0,1] rfl rfl (by kernel_rfl),h⟩
     ·refine zy ?_
      exact ⟨zAE [0,1] rfl rfl (by kernel_rfl),h⟩
   ·
    clear h
    rintro e' H' ⟨hrep,h⟩
    refine zV hrep ?_
    clear hrep
    unfold zH0 at h
    refine zI<|zC<|zA (zS (k:=0) (o:=0) (m:=10) isAgg51 sizeOf51 rfl rfl rfl rfl rfl)<|zR h fun x3 hx3 h=>zHU (cs:=([li x3.node]++([li x3.kind]++([li x3.start]++([li x3.count]++([li x3.min]++((cM 5 3 (5:Int) x3.free)++[]))))))) (la:=[(AV.agg (zO a_z))]) (la':=[(AV.agg (zO a_z))]) (S:=[]) func118 rfl (by kernel_rfl) (.fn 118) rfl ⟨zAt.nr rfl,trivial⟩ (zKM hx3) (.inl rfl)<|za (H':=[.box 51 (zO a_z),.box 51 ([li 0]++([li 0]++([li 0]++([li 0]++([li 0]++((cA 5 (eS cI) ([]:List Int) (List.replicate 5 ([]:List Int)))++[])))))),.val (.agg ([li x3.node]++([li x3.kind]++([li x3.start]++([li x3.count]++([li x3.min]++((cM 5 3 (5:Int) x3.free)++[]))))))),.box 51 ([li 0]++([li 0]++([li 0]++([li 0]++([li 0]++((cA 5 (eS cI) ([]:List Int) (List.replicate 5 ([]:List Int)))++[]))))))]) (zv (t:=51) (vs:=[.int .i64 0,.int .i64 0,.int .i64 0,.int .i64 0,.int .i64 0,.slice none 0 0,.slice none 0 0,.slice none 0 0,.slice none 0 0,.slice none 0 0]) (cs:=[.lit (.int .i64 0),.lit (.int .i64 0),.lit (.int .i64 0),.lit (.int .i64 0),.lit (.int .i64 0),.sl false [],.sl false [],.sl false [],.sl false [],.sl false []]) zeroValue51 (by kernel_rfl) rfl ⟨zh.refl _,zh.refl _,zh.refl _,zh.refl _,zh.refl _,zh.nils,zh.nils,zh.nils,zh.nils,zh.nils,trivial⟩) ?_
    refine zm (H':=[.box 51 (zO a_z),.box 51 ([li 0]++([li 0]++([li 0]++([li 0]++([li 0]++((cA 5 (eS cI) ([]:List Int) (List.replicate 5 ([]:List Int)))++[])))))),.dead,.box 51 ([li x3.node]++([li x3.kind]++([li x3.start]++([li x3.count]++([li x3.min]++((cM 5 3 (5:Int) x3.free)++[]))))))]) (zCd (k:=3) (o:=0) (j:=2) (cs:=([li 0]++([li 0]++([li 0]++([li 0]++([li 0]++((cA 5 (eS cI) ([]:List Int) (List.replicate 5 ([]:List Int)))++[]))))))) (la:=([li x3.node]++([li x3.kind]++([li x3.start]++([li x3.count]++([li x3.min]++((cM 5 3 (5:Int) x3.free)++[]))))))) sizeOf51 rfl rfl rfl rfl rfl (by decide))<|zF<|zI<|zC<|zA (zB rfl)<|zA (zB rfl) ?_
    refine zR h fun x4 hx4 h=>zDw (k:=3) (la:=[AV.ptr 3 0,li a_frame,li a_order]) (la':=[AV.ptr 0 0,li a_frame,li a_order]) (r:=(.tup [])) (S:=[]) (en' := .box 51 ([li x4.node]++([li x4.kind]++([li x4.start]++([li x4.count]++([li x4.min]++((cM 5 3 (5:Int) x4.free)++[]))))))) func125 rfl (by kernel_rfl) (.fn 125) rfl ⟨zCe.ptr,zCe.of (zAt.nr rfl),zCe.of (zAt.nr rfl),trivial⟩ rfl rfl (by kernel_rfl) (by kernel_rfl) (zLg hx4) rfl (.inl rfl)<|zF<|zI<|zC<|zAF (zJj (k:=3) (cs:=([li x4.node]++([li x4.kind]++([li x4.start]++([li x4.count]++([li x4.min]++((cM 5 3 (5:Int) x4.free)++[]))))))) (hd:=([li x4.node]++[li x4.kind]++[li x4.start]++[li x4.count]++[li x4.min]++[])) (tl:=([])) (N:=5) (T:=3) (K:=5) (l:=x4.free) rfl rfl) ?_
    refine zA (zS (k:=3) (o:=0) (m:=10) isAgg51 sizeOf51 rfl rfl rfl rfl rfl)<|zm (H':=[.box 51 (zO a_z),.box 51 (zO (⟨x4.node,x4.kind,x4.start,x4.count,x4.min,x4.free⟩:zp)),.dead,.box 51 ([li x4.node]++([li x4.kind]++([li x4.start]++([li x4.count]++([li x4.min]++((cA 5 (eS cI) ([]:List Int) x4.free)++[]))))))]) (zZ (k:=1) (o:=0) (cs:=([li 0]++([li 0]++([li 0]++([li 0]++([li 0]++((cA 5 (eS cI) ([]:List Int) (List.replicate 5 ([]:List Int)))++[]))))))) (la:=(zO (⟨x4.node,x4.kind,x4.start,x4.count,x4.min,x4.free⟩:zp))) sizeOf51 rfl rfl rfl rfl)<|zA (zD rfl)<|zF<|zb ?_
    show zAQ _ _ _ _ _ _
    obtain rfl:=Option.some.inj h
    exact zCR (zFa isAgg51 sizeOf51 rfl rfl rfl rfl) (zAM rfl rfl) rfl
theorem zI7 {a_a:zJ} {a_z:Int} {a_frames:List Int} {r:zJ} (h:zEe a_a a_z a_frames=some r):AFn prog 68 [AV.ptr 0 0,li a_z,ls cI a_frames] [.box 26 ([ls cI a_a.nodes]++([li a_a.batch]++([li a_a.high]++([AV.osl 51 10 (List.map zO a_a.zones)]++([AV.osl 55 1 (List.map zH a_a.caches)]++[])))))] (.tup []) [.box 26 ([ls cI r.nodes]++([li r.batch]++([li r.high]++([AV.osl 51 10 (List.map zO r.zones)]++([AV.osl 55 1 (List.map zH r.caches)]++[])))))]:=by
 refine zF6 func68 rfl ntmps68 results68 rfl ?_
 unfold zEe at h
 refine zI<|zC<|zA (zB rfl)<|zA (zX underlying22 rfl)<|zA (zB rfl)<|zF ?_
 refine zQ<|z6 (σ:=Nat×Int×(List zp)) (fun s=>s.1) (fun s e' H'=>match s with | (n0,i1,l1)=>Rep 38 1 e' H' (mkE [(0,(AV.ptr 0 0)),(1,(li a_z)),(10,(ls cI a_frames)),(11,(li (a_frames.length:Int))),(12,(li i1))]) [.box 26 [ls cI a_a.nodes,li a_a.batch,li a_a.high,AV.osl 51 10 (List.map zO l1),AV.osl 55 1 (List.map zH a_a.caches)]]∧zCq a_a a_z a_frames n0 i1 l1=some r) (z9,0,a_a.zones) ⟨zAE [0] rfl rfl (by kernel_rfl),h⟩ ?_
 clear h
 rintro ⟨n0,i1,l1⟩ e' H' ⟨hrep,h⟩
 cases n0 with
 | zero=>exact absurd (show (none:Option _)=some r from h) (by simp)
 | succ n0 =>
  replace h:zCE a_a a_z a_frames (zCq a_a a_z a_frames n0) i1 l1=some r:=h
  unfold zCE at h
  refine zV hrep ?_
  clear hrep
  refine zI<|zC<|zA (ze rfl rfl)<|zF<|zI ?_
  refine zY h rfl (fun hb1 h => ?_) (fun hb1 h => ?_)
  ·refine zP ?_
   refine zx (fun e' H' => ∃ (l2:List zp),Rep 38 1 e' H' (mkE [(0,(AV.ptr 0 0)),(1,(li a_z)),(10,(ls cI a_frames)),(11,(li (a_frames.length:Int))),(12,(li i1))]) [.box 26 [ls cI a_a.nodes,li a_a.batch,li a_a.high,AV.osl 51 10 (List.map zO l2),AV.osl 55 1 (List.map zH a_a.caches)]]∧zD4 (zCq a_a a_z a_frames n0) i1 l2=some r) ?_ ?_
   ·
    refine zQ<|zI<|zC<|zM h fun hb3 h=>zA (zU underlying22 sizeOf3 (fun _=>rfl) rfl rfl hb3)<|zA (zW (o:=0) isAgg3 rfl rfl) ?_
    refine zA (zD rfl)<|zF<|zI<|zC<|zA (zB rfl)<|zA (zAU rfl) ?_
    refine zA (zK underlying26 rfl rfl sizeOf23 rfl)<|zAF (zBA (k:=0) (o:=3) (t':=51) (sz:=10) (rows:=List.map zO l1) rfl rfl)<|zA (zN isAgg23 rfl rfl rfl rfl)<|zA (zB rfl)<|zM h fun hb4 h=>zA (zAC (f:=zO) (l:=l1) (i:=a_z) underlying23 sizeOf51 rfl rfl rfl hb4) ?_
    refine zA (zCT (f:=zO) (l:=l1) (i:=a_z) (c:=0) (q:=10) (la:=(zO (at_ l1 a_z))) isAgg51 sizeOf51 rfl rfl (by first | rfl | omega) hb4 rfl rfl rfl)<|zA (zB rfl)<|zR h fun x1 hx1 h=>zi func71 rfl (by kernel_rfl) (.fn 71) rfl rfl (zNb hx1) rfl<|zA (zB rfl)<|zA (zg rfl rfl) ?_
    refine zA (zg rfl rfl)<|za (H':=[.box 26 [ls cI a_a.nodes,li a_a.batch,li a_a.high,AV.hd 1,AV.osl 55 1 (List.map zH a_a.caches)],.vec 51 10 (List.map zO l1),.box 51 (zO ⟨0,0,0,0,0,(List.replicate 5 ([]:List Int))⟩)]) (zv (t:=51) (vs:=[.int .i64 0,.int .i64 0,.int .i64 0,.int .i64 0,.int .i64 0,.slice none 0 0,.slice none 0 0,.slice none 0 0,.slice none 0 0,.slice none 0 0]) (cs:=[.lit (.int .i64 0),.lit (.int .i64 0),.lit (.int .i64 0),.lit (.int .i64 0),.lit (.int .i64 0),.sl false [],.sl false [],.sl false [],.sl false [],.sl false []]) zeroValue51 (by kernel_rfl) rfl ⟨zh.refl _,zh.refl _,zh.refl _,zh.refl _,zh.refl _,zh.nils,zh.nils,zh.nils,zh.nils,zh.nils,trivial⟩)<|zm (H':=[.box 26 [ls cI a_a.nodes,li a_a.batch,li a_a.high,AV.hd 1,AV.osl 55 1 (List.map zH a_a.caches)],.vec 51 10 (List.map zO l1),.box 51 (zO x1.1)]) (zZ (k:=2) (o:=0) (cs:=(zO ⟨0,0,0,0,0,(List.replicate 5 ([]:List Int))⟩)) (la:=(zO x1.1)) sizeOf51 rfl rfl rfl rfl)<|zA (zD rfl)<|zF<|zI ?_
    refine zC<|zA (zB rfl)<|zA (zBR rfl rfl)<|zF ?_
    refine zY h rfl (fun hb5 h => ?_) (fun hb5 h => ?_)
    ·show AW _ _ _ _ _ _ [.box 26 [ls cI a_a.nodes,li a_a.batch,li a_a.high,AV.hd 1,AV.osl 55 1 (List.map zH a_a.caches)],.vec 51 10 (List.map zO l1),.box 51 (zO x1.1)]
     refine zAx (n:=38) (m:=1) [.head 0 0,.head 0 0,.head 0 0,.head 0 0,.head 0 0,.head 0 0,.head 0 0,.tail 0] [7] [AV.ptr 0 0,AV.ptr 0 0,AV.ptr 0 3,AV.hd 1,li a_z,(AV.agg (zO x1.1)),(AV.ptr 1 (a_z.toNat*10)),.any] [[.box 26 [ls cI a_a.nodes,li a_a.batch,li a_a.high,AV.hd 1,AV.osl 55 1 (List.map zH a_a.caches)],.vec 51 10 (List.map zO l1),.box 51 (zO x1.1)],[.box 26 [ls cI a_a.nodes,li a_a.batch,li a_a.high,AV.hd 1,AV.osl 55 1 (List.map zH a_a.caches)],.vec 51 10 (List.map zO (l1.set a_z.toNat x1.1)),.box 51 (zO x1.1)]] (by kernel_rfl) (by kernel_rfl) ⟨?_,?_,?_,?_,?_,?_,?_,?_,trivial⟩ ?_
     ·exact D1 fun e s p=>zB (s 0 rfl)
     ·exact D1 fun e s p=>zAU p.1
     ·exact D1 fun e s p=>zK (k:=0) (o:=0) (off:=3) underlying26 rfl rfl sizeOf23 p.1
     ·exact D1 fun e s p=>zN (k:=0) (o:=3) isAgg23 p.1 rfl rfl rfl
     ·exact D1 fun e s p=>zB (s 1 rfl)
     ·exact D1 fun e s p=>zS (k:=2) (o:=0) (m:=10) isAgg51 sizeOf51 (s 8 rfl) rfl rfl rfl rfl
     ·exact D1 fun e s p=>zAC (f:=zO) (l:=l1) (i:=a_z) underlying23 sizeOf51 p.2.2.2.2.2.1 rfl p.2.2.2.2.2.2.1 hb4
     ·
      intro e8 hs8 hp8
      refine zm (H':=[.box 26 [ls cI a_a.nodes,li a_a.batch,li a_a.high,AV.hd 1,AV.osl 55 1 (List.map zH a_a.caches)],.vec 51 10 (List.map zO (l1.set a_z.toNat x1.1)),.box 51 (zO x1.1)]) (zCM (k:=1) (o:=(a_z.toNat*10)) (f:=zO) (l:=l1) (i:=a_z) (z:=x1.1) sizeOf51 (fun _=>rfl) (by exact hp8.1) rfl (by first | rfl | omega) hb4 (by exact hp8.2.2.2.2.2.2.2.1) rfl) ?_
      exact zF ⟨fun _=>rfl,rfl⟩
     intro e9 hs9 hq1
     exact ⟨l1.set a_z.toNat x1.1,Rep.trans (zBY (l:=[(0,(AV.ptr 0 0)),(1,(li a_z)),(10,(ls cI a_frames)),(11,(li (a_frames.length:Int))),(12,(li i1))]) ⟨hs9 0 rfl,hs9 1 rfl,hs9 10 rfl,hs9 11 rfl,hs9 12 rfl,trivial⟩) (Rep.trans (zAJ (k:=0) (j:=1) (o:=3) (cs:=[ls cI a_a.nodes,li a_a.batch,li a_a.high,AV.hd 1,AV.osl 55 1 (List.map zH a_a.caches)]) rfl rfl rfl rfl) (zAE [0] (l:=[(0,(AV.ptr 0 0)),(1,(li a_z)),(10,(ls cI a_frames)),(11,(li (a_frames.length:Int))),(12,(li i1))]) rfl rfl (by kernel_rfl))),h⟩
    ·refine zP ?_
     exact ⟨l1,Rep.trans (zAJ (k:=0) (j:=1) (o:=3) rfl rfl rfl rfl) (zAE [0] (l:=[(0,(AV.ptr 0 0)),(1,(li a_z)),(10,(ls cI a_frames)),(11,(li (a_frames.length:Int))),(12,(li i1))]) rfl rfl (by kernel_rfl)),h⟩
   ·
    clear h
    rintro e' H' ⟨l2,hrep,h⟩
    refine zV hrep ?_
    clear hrep
    unfold zD4 at h
    refine zC<|zM h fun hb2 h=>zA (zf rfl rfl hb2)<|zA (zB rfl)<|zF ?_
    exact ⟨(n0,(i1+1),l2),Nat.lt_succ_self _,zAE [0] rfl rfl (by kernel_rfl),h⟩
  ·refine zy ?_
   show zQU _ _ _ _ _ _ _ _
   obtain rfl:=Option.some.inj h
   exact ⟨mkE [],[.box 26 [ls cI a_a.nodes,li a_a.batch,li a_a.high,AV.osl 51 10 (List.map zO l1),AV.osl 55 1 (List.map zH a_a.caches)]],zAE [0] rfl rfl (by kernel_rfl),zLf rfl⟩
theorem zGU {a_a:zJ} {a_cpu:Int} {a_z:Int} {r:zJ} (h:zE4 a_a a_cpu a_z=some r):AFn prog 56 [AV.ptr 0 0,li a_cpu,li a_z] [.box 26 ([ls cI a_a.nodes]++([li a_a.batch]++([li a_a.high]++([AV.osl 51 10 (List.map zO a_a.zones)]++([AV.osl 55 1 (List.map zH a_a.caches)]++[])))))] (.tup []) [.box 26 ([ls cI r.nodes]++([li r.batch]++([li r.high]++([AV.osl 51 10 (List.map zO r.zones)]++([AV.osl 55 1 (List.map zH r.caches)]++[])))))]:=by
 refine zF6 func56 rfl ntmps56 results56 rfl ?_
 unfold zE4 at h
 refine zI<|zC<|zA (zB rfl)<|zA (zAU rfl)<|zA (zK underlying26 rfl rfl sizeOf24 rfl)<|zAF (zBA (k:=0) (o:=4) (t':=55) (sz:=1) (rows:=List.map zH a_a.caches) rfl rfl) ?_
 refine zA (zN isAgg24 rfl rfl rfl rfl)<|zA (zB rfl)<|zM h fun hb1 h=>zA (zAC (f:=zH) (l:=a_a.caches) (i:=a_cpu) underlying24 sizeOf55 rfl rfl rfl hb1)<|zA (zCT (f:=zH) (l:=a_a.caches) (i:=a_cpu) (c:=0) (q:=1) (la:=(zH (at_ a_a.caches a_cpu))) isAgg55 sizeOf55 rfl rfl (by first | rfl | omega) hb1 rfl rfl rfl)<|zA (zB rfl) ?_
 refine zR h fun x1 hx1 h=>zi func110 rfl (by kernel_rfl) (.fn 110) rfl rfl (zL2 hx1) rfl<|zA (zB rfl)<|zA (zg rfl rfl)<|zA (zg rfl rfl)<|zA (zg rfl rfl) ?_
 refine za (H':=[.box 26 [ls cI a_a.nodes,li a_a.batch,li a_a.high,AV.osl 51 10 (List.map zO a_a.zones),AV.hd 1],.vec 55 1 (List.map zH a_a.caches),.box 55 [(ls (cS cI) ([]:List (List Int)))]]) (zv (t:=55) (vs:=[.slice none 0 0]) (cs:=[.sl false []]) zeroValue55 (by kernel_rfl) rfl ⟨zh.nils,trivial⟩)<|zm (H':=[.box 26 [ls cI a_a.nodes,li a_a.batch,li a_a.high,AV.osl 51 10 (List.map zO a_a.zones),AV.hd 1],.vec 55 1 (List.map zH a_a.caches),.box 55 (zH x1.1)]) (zZ (k:=2) (o:=0) (cs:=[(ls (cS cI) ([]:List (List Int)))]) (la:=(zH x1.1)) sizeOf55 rfl rfl rfl rfl)<|zA (zD rfl)<|zA (zD rfl)<|zF<|zI ?_
 refine zC<|zA (zB rfl)<|zA (zBR rfl rfl)<|zF ?_
 refine zY h rfl (fun hb2 h => ?_) (fun hb2 h => ?_)
 ·refine zI ?_
  show AW _ _ _ _ _ _ [.box 26 [ls cI a_a.nodes,li a_a.batch,li a_a.high,AV.osl 51 10 (List.map zO a_a.zones),AV.hd 1],.vec 55 1 (List.map zH a_a.caches),.box 55 (zH x1.1)]
  refine zAx (n:=35) (m:=1) [.head 0 0,.head 0 0,.head 0 0,.head 0 0,.head 0 0,.head 0 0,.head 0 0,.tail 0] [7] [AV.ptr 0 0,AV.ptr 0 0,AV.ptr 0 4,AV.hd 1,li a_cpu,(AV.agg (zH x1.1)),(AV.ptr 1 (a_cpu.toNat*1)),.any] [[.box 26 [ls cI a_a.nodes,li a_a.batch,li a_a.high,AV.osl 51 10 (List.map zO a_a.zones),AV.hd 1],.vec 55 1 (List.map zH a_a.caches),.box 55 (zH x1.1)],[.box 26 [ls cI a_a.nodes,li a_a.batch,li a_a.high,AV.osl 51 10 (List.map zO a_a.zones),AV.hd 1],.vec 55 1 (List.map zH (a_a.caches.set a_cpu.toNat x1.1)),.box 55 (zH x1.1)]] (by kernel_rfl) (by kernel_rfl) ⟨?_,?_,?_,?_,?_,?_,?_,?_,trivial⟩ ?_
  ·exact D1 fun e s p=>zB (s 0 rfl)
  ·exact D1 fun e s p=>zAU p.1
  ·exact D1 fun e s p=>zK (k:=0) (o:=0) (off:=4) underlying26 rfl rfl sizeOf24 p.1
  ·exact D1 fun e s p=>zN (k:=0) (o:=4) isAgg24 p.1 rfl rfl rfl
  ·exact D1 fun e s p=>zB (s 1 rfl)
  ·exact D1 fun e s p=>zS (k:=2) (o:=0) (m:=1) isAgg55 sizeOf55 (s 6 rfl) rfl rfl rfl rfl
  ·exact D1 fun e s p=>zAC (f:=zH) (l:=a_a.caches) (i:=a_cpu) underlying24 sizeOf55 p.2.2.2.2.2.1 rfl p.2.2.2.2.2.2.1 hb1
  ·
   intro e8 hs8 hp8
   refine zm (H':=[.box 26 [ls cI a_a.nodes,li a_a.batch,li a_a.high,AV.osl 51 10 (List.map zO a_a.zones),AV.hd 1],.vec 55 1 (List.map zH (a_a.caches.set a_cpu.toNat x1.1)),.box 55 (zH x1.1)]) (zCM (k:=1) (o:=(a_cpu.toNat*1)) (f:=zH) (l:=a_a.caches) (i:=a_cpu) (z:=x1.1) sizeOf55 (fun _=>rfl) (by exact hp8.1) rfl (by first | rfl | omega) hb1 (by exact hp8.2.2.2.2.2.2.2.1) rfl) ?_
   exact zF ⟨fun _=>rfl,rfl⟩
  intro e9 hs9 hq1
  refine zV (zBY (l:=[(0,(AV.ptr 0 0)),(2,(li a_z)),(7,(ls cI x1.2.1))]) ⟨hs9 0 rfl,hs9 2 rfl,hs9 7 rfl,trivial⟩)<|zC<|zA (zB (av:=(AV.ptr 0 0)) rfl)<|zA (zB (av:=(li a_z)) rfl)<|zA (zB (av:=(ls cI x1.2.1)) rfl)<|zAF (zAJ (k:=0) (j:=1) (o:=4) (cs:=[ls cI a_a.nodes,li a_a.batch,li a_a.high,AV.osl 51 10 (List.map zO a_a.zones),AV.hd 1]) rfl rfl rfl rfl) ?_
  refine zR h fun x2 hx2 h=>zDw (k:=0) (la:=[AV.ptr 0 0,li a_z,ls cI x1.2.1]) (la':=[AV.ptr 0 0,li a_z,ls cI x1.2.1]) (r:=(.tup [])) (S:=[]) (en' := .box 26 [ls cI x2.nodes,li x2.batch,li x2.high,AV.osl 51 10 (List.map zO x2.zones),AV.osl 55 1 (List.map zH x2.caches)]) func68 rfl (by kernel_rfl) (.fn 68) rfl ⟨zCe.ptr,zCe.of (zAt.nr rfl),zCe.of (zAt.nr rfl),trivial⟩ rfl rfl (by kernel_rfl) (by kernel_rfl) (zI7 hx2) rfl (.inl rfl)<|zF ?_
  show zQU _ _ _ _ _ _ _ _
  obtain rfl:=Option.some.inj h
  exact ⟨mkE [],[.box 26 [ls cI x2.nodes,li x2.batch,li x2.high,AV.osl 51 10 (List.map zO x2.zones),AV.osl 55 1 (List.map zH x2.caches)]],zAE [0] rfl rfl (by kernel_rfl),zLf rfl⟩
 ·refine zP ?_
  show zQU _ _ _ _ _ _ _ _
  obtain rfl:=Option.some.inj h
  exact ⟨mkE [],[.box 26 [ls cI a_a.nodes,li a_a.batch,li a_a.high,AV.osl 51 10 (List.map zO a_a.zones),AV.osl 55 1 (List.map zH a_a.caches)]],Rep.trans (zAJ (k:=0) (j:=1) (o:=4) rfl rfl rfl rfl) (zAE [0] (l:=[]) rfl rfl (by kernel_rfl)),zLf rfl⟩
theorem zMh {a_c:zL} {a_zone:Int} {r:zL×Int×Int} (h:zKW a_c a_zone=some r):PFn prog 57 [(AV.agg (zH a_c)),li a_zone] (AV.tup [(AV.agg (zH r.1)),li r.2.1,li r.2.2]):=by
 refine zq func57 rfl ntmps57 results57 rfl ?_
 unfold zKW at h
 refine zI<|zC<|za (H':=[.box 55 (zH a_c)]) (zw (t:=55) rfl)<|za (H':=[.box 55 (zH a_c),.box 55 [(ls (cS cI) ([]:List (List Int)))]]) (zv (t:=55) (vs:=[.slice none 0 0]) (cs:=[.sl false []]) zeroValue55 (by kernel_rfl) rfl ⟨zh.nils,trivial⟩)<|zA (zD rfl)<|zA (zD rfl) ?_
 refine zF<|zI<|zI<|zC<|zA (zS (k:=0) (o:=0) (m:=1) isAgg55 sizeOf55 rfl rfl rfl rfl rfl)<|zA (zB rfl) ?_
 refine zR h fun x1 hx1 h=>zi func111 rfl (by kernel_rfl) (.fn 111) rfl rfl (zGn hx1) rfl<|zA (zD rfl)<|zF<|zI<|zC ?_
 refine zA (zB rfl)<|zA (z7 rfl rfl)<|zF ?_
 refine zY h rfl (fun hb1 h => ?_) (fun hb1 h => ?_)
 ·refine zI<|zC<|zA (z8 (pl:=[(0,1)]) (zs:=[.slice none 0 0]) (zc:=[.sl false []]) (res:=(zH (⟨([]:List (List Int))⟩:zL))) (fun _=>by kernel_rfl) rfl (⟨zh.nils,trivial⟩) (by exact zFX.refl _))<|zA (zB rfl)<|zm (H':=[.box 55 (zH a_c),.box 55 (zH (⟨([]:List (List Int))⟩:zL))]) (zZ (k:=1) (o:=0) (cs:=[(ls (cS cI) ([]:List (List Int)))]) (la:=(zH (⟨([]:List (List Int))⟩:zL))) sizeOf55 rfl rfl rfl rfl)<|zA (zD rfl) ?_
  refine zA (zD rfl)<|zF<|zb ?_
  show zAQ _ _ _ _ _ _
  obtain rfl:=Option.some.inj h
  exact zC6 (zFa isAgg55 sizeOf55 rfl rfl rfl rfl) (zAM rfl rfl) (zAM rfl rfl) rfl
 ·refine zP<|zI<|zC<|zA (zK underlying55 rfl rfl sizeOf53 rfl)<|zA (zN isAgg53 rfl rfl rfl rfl)<|zA (zB rfl) ?_
  refine zM h fun hb2 h=>zA (zU underlying53 sizeOf22 (fun _=>rfl) rfl rfl hb2)<|zA (zW (o:=0) isAgg22 rfl rfl)<|zA (zD rfl)<|zF<|zI ?_
  refine zI<|zC<|zA (zB rfl)<|zA (zX underlying22 rfl)<|zA (zBR rfl rfl)<|zF ?_
  refine zY h rfl (fun hb3 h => ?_) (fun hb3 h => ?_)
  ·refine zI<|zC<|zA (z8 (pl:=[(0,1)]) (zs:=[.slice none 0 0]) (zc:=[.sl false []]) (res:=(zH (⟨([]:List (List Int))⟩:zL))) (fun _=>by kernel_rfl) rfl (⟨zh.nils,trivial⟩) (by exact zFX.refl _))<|zm (H':=[.box 55 (zH a_c),.box 55 (zH (⟨([]:List (List Int))⟩:zL))]) (zZ (k:=1) (o:=0) (cs:=[(ls (cS cI) ([]:List (List Int)))]) (la:=(zH (⟨([]:List (List Int))⟩:zL))) sizeOf55 rfl rfl rfl rfl)<|zA (zD rfl)<|zA (zD rfl) ?_
   refine zF<|zb ?_
   show zAQ _ _ _ _ _ _
   obtain rfl:=Option.some.inj h
   exact zC6 (zFa isAgg55 sizeOf55 rfl rfl rfl rfl) (zAM rfl rfl) (zAM rfl rfl) rfl
  ·refine zP<|zI<|zC<|zA (zB rfl)<|zA (zX underlying22 rfl)<|zM h fun hb4 h => ?_
   refine zA (zB8 rfl rfl hb4)<|zA (zD rfl)<|zF<|zI<|zM h fun hb5 h=>zR h fun x2 hx2 h => ?_
   refine zM h fun hb6 h => ?_
   show AW _ _ _ _ _ _ [.box 55 (zH a_c),.box 55 [(ls (cS cI) ([]:List (List Int)))]]
   refine zAx (n:=39) (m:=0) [.head 0 0,.head 0 0,.head 0 0,.head 0 0,.head 0 0,.head 0 0,.head 0 1,.head 0 1,.head 0 1,.head 0 1,.tail 0,.head 1 1,.head 1 1] [10] [(AV.agg (zH a_c)),li a_zone,(ls cI (at_ a_c.lists a_zone)),(li (((at_ a_c.lists a_zone).length:Int) - 1)),(ls cI (zGB (at_ a_c.lists a_zone) 0 (((at_ a_c.lists a_zone).length:Int) - 1))),(AV.agg (zH x2)),(ls cI (at_ a_c.lists a_zone)),(li (((at_ a_c.lists a_zone).length:Int) - 1)),(AV.rp (cI (at_ (at_ a_c.lists a_zone) (((at_ a_c.lists a_zone).length:Int) - 1))) 0),(li (at_ (at_ a_c.lists a_zone) (((at_ a_c.lists a_zone).length:Int) - 1))),.any,(li (at_ (at_ a_c.lists a_zone) (((at_ a_c.lists a_zone).length:Int) - 1))),li 0] [[.box 55 (zH a_c),.box 55 [(ls (cS cI) ([]:List (List Int)))]],[.box 55 (zH a_c),.box 55 (zH x2)]] (by kernel_rfl) (by kernel_rfl) ⟨?_,?_,?_,?_,?_,?_,⟨?_,?_⟩,⟨?_,?_⟩,⟨?_,?_⟩,⟨?_,?_⟩,?_,?_,?_,trivial⟩ ?_
   ·exact D1 fun e s p=>zS (k:=0) (o:=0) (m:=1) isAgg55 sizeOf55 (s 2 rfl) rfl rfl rfl rfl
   ·exact D1 fun e s p=>zB (s 1 rfl)
   ·exact D1 fun e s p=>zB (s 8 rfl)
   ·exact D1 fun e s p=>zB (s 9 rfl)
   ·exact D1 fun e s p=>zOf (hi:=((at_ a_c.lists a_zone).length:Int) - 1) (f:=cI) (l:=at_ a_c.lists a_zone) underlying22 sizeOf3 (fun _=>rfl) p.1 p.2.1 hb5
   ·
    intro e6 hs6 hp6
    refine zi (r:=(AV.agg (zH x2))) (la:=[(AV.agg (zH a_c)),li a_zone,(ls cI (zGB (at_ a_c.lists a_zone) 0 (((at_ a_c.lists a_zone).length:Int) - 1)))]) func112 rfl (by kernel_rfl) (.fn 112) (zAK hp6.1 (zAK hp6.2.1 (zAK hp6.2.2.1 rfl))) rfl (zD2 hx2) rfl ?_
    exact zF ⟨fun _=>rfl,rfl⟩
   ·exact D1 fun e s p=>zB (s 8 rfl)
   ·exact D1 fun e s p=>zB (s 8 rfl)
   ·exact D1 fun e s p=>zB (s 9 rfl)
   ·exact D1 fun e s p=>zB (s 9 rfl)
   ·exact D1 fun e s p=>zU (f:=cI) (l:=at_ a_c.lists a_zone) (i:=((at_ a_c.lists a_zone).length:Int) - 1) underlying22 sizeOf3 (fun _=>rfl) p.1 p.2.1 hb6
   ·exact D1 fun e s p=>zU (f:=cI) (l:=at_ a_c.lists a_zone) (i:=((at_ a_c.lists a_zone).length:Int) - 1) underlying22 sizeOf3 (fun _=>rfl) p.1 p.2.1 hb6
   ·exact D1 fun e s p=>zW (o:=0) isAgg3 p.1 rfl
   ·exact D1 fun e s p=>zW (o:=0) isAgg3 p.1 rfl
   ·
    intro e15 hs15 hp15
    refine zm (H':=[.box 55 (zH a_c),.box 55 (zH x2)]) (zZ (k:=1) (o:=0) (cs:=[(ls (cS cI) ([]:List (List Int)))]) (la:=(zH x2)) sizeOf55 (by exact (hs15 4 rfl)) rfl rfl (by exact hp15.2.2.2.2.2.2.2.1)) ?_
    exact zF ⟨fun _=>rfl,rfl⟩
   ·exact D1 fun e s p=>zD p.2.2.2.2.2.2.2.2.2.2.2.1
   ·exact D1 fun e s p=>zD rfl
   intro e18 hs18 hq1
   refine zV (zBY (l:=[(4,(AV.ptr 1 0)),(5,(li (at_ (at_ a_c.lists a_zone) (((at_ a_c.lists a_zone).length:Int) - 1)))),(6,(li 0))]) ⟨hs18 4 rfl,(hq1 11 (by decide) (by decide)),(hq1 12 (by decide) (by decide)),trivial⟩)<|zb ?_
   show zAQ _ _ _ _ _ _
   obtain rfl:=Option.some.inj h
   exact zC6 (zFa isAgg55 sizeOf55 rfl rfl rfl rfl) (zAM rfl rfl) (zAM rfl rfl) rfl
theorem zK1 {a_p0:zJ} {a_p1:Int} {a_p2:Bool} {a_p3:Bool} {r:zJ×Int×Int} (h:zIB a_p0 a_p1 a_p2 a_p3=some r):PFn prog 23 [(AV.agg (zG a_p0)),li a_p1,(AV.lit (.bool a_p2)),(AV.lit (.bool a_p3))] (AV.tup [(AV.agg (zG r.1)),li r.2.1,li r.2.2]):=by
 refine zq func23 rfl ntmps23 results23 rfl ?_
 unfold zIB at h
 refine zI<|zC<|za (H':=[.box 26 (zG a_p0)]) (zw (t:=26) rfl)<|za (H':=[.box 26 (zG a_p0),.box 26 (zG ⟨[],0,0,[],[]⟩)]) (zv (t:=26) (vs:=[.slice none 0 0,.int .i64 0,.int .i64 0,.slice none 0 0,.slice none 0 0]) (cs:=[.sl false [],.lit (.int .i64 0),.lit (.int .i64 0),.sl false [],.sl false []]) zeroValue26 (by kernel_rfl) rfl ⟨zh.nils,zh.refl _,zh.refl _,zh.nils,zh.nils,trivial⟩)<|zA (zD rfl)<|zA (zD rfl) ?_
 refine zF<|zI<|zI<|zC<|zA (zS (k:=0) (o:=0) (m:=5) isAgg26 sizeOf26 rfl rfl rfl rfl rfl)<|zR h fun x1 hx1 h => ?_
 refine zi func13 rfl (by kernel_rfl) (.fn 13) rfl rfl (zA3 hx1) rfl<|zA (zD rfl)<|zF<|zI<|zC<|zA (zB rfl) ?_
 refine zA (z7 rfl rfl)<|zF ?_
 refine zY h rfl (fun hb1 h => ?_) (fun hb1 h => ?_)
 ·refine zI<|zC<|zA (z8 (pl:=[(0,1),(1,1),(2,1),(3,1),(4,1)]) (zs:=[.slice none 0 0,.int .i64 0,.int .i64 0,.slice none 0 0,.slice none 0 0]) (zc:=[.sl false [],.lit (.int .i64 0),.lit (.int .i64 0),.sl false [],.sl false []]) (res:=(zG (⟨([]:List Int),0,0,([]:List zp),([]:List zL)⟩:zJ))) (fun _=>by kernel_rfl) rfl (⟨zh.nils,⟨zh.refl _,⟨zh.refl _,⟨zh.nils,⟨zh.nils,trivial⟩⟩⟩⟩⟩) (by exact zFX.refl _))<|zA (zB rfl)<|zm (H':=[.box 26 (zG a_p0),.box 26 (zG (⟨([]:List Int),0,0,([]:List zp),([]:List zL)⟩:zJ))]) (zZ (k:=1) (o:=0) (cs:=(zG ⟨[],0,0,[],[]⟩)) (la:=(zG (⟨([]:List Int),0,0,([]:List zp),([]:List zL)⟩:zJ))) sizeOf26 rfl rfl rfl rfl)<|zA (zD rfl) ?_
  refine zA (zD rfl)<|zF<|zb ?_
  show zAQ _ _ _ _ _ _
  obtain rfl:=Option.some.inj h
  exact zC6 (zFa isAgg26 sizeOf26 rfl rfl rfl rfl) (zAM rfl rfl) (zAM rfl rfl) rfl
 ·refine zP<|zI<|zI<|zC<|zA (zB rfl)<|zA (ze rfl rfl) ?_
  refine zA (zB rfl)<|zT rfl rfl (fun hc1=>zt.step (zB rfl))<|zT rfl rfl (fun hc2=>zt.step (zK underlying26 rfl rfl sizeOf22 rfl))<|zT rfl rfl (fun hc3=>zt.step (zN isAgg22 (z5 rfl hc3) rfl rfl rfl))<|zT rfl rfl (fun hc4=>zt.step (zX underlying22 (z5 rfl hc4)))<|zT rfl rfl (fun hc5=>zt.step (zAp (z5 rfl hc5) (z5 rfl hc5))) ?_
  refine zA (zd rfl rfl)<|zF ?_
  refine zY h rfl (fun hb2 h => ?_) (fun hb2 h => ?_)
  ·refine zI<|zC<|zA (z8 (pl:=[(0,1),(1,1),(2,1),(3,1),(4,1)]) (zs:=[.slice none 0 0,.int .i64 0,.int .i64 0,.slice none 0 0,.slice none 0 0]) (zc:=[.sl false [],.lit (.int .i64 0),.lit (.int .i64 0),.sl false [],.sl false []]) (res:=(zG (⟨([]:List Int),0,0,([]:List zp),([]:List zL)⟩:zJ))) (fun _=>by kernel_rfl) rfl (⟨zh.nils,⟨zh.refl _,⟨zh.refl _,⟨zh.nils,⟨zh.nils,trivial⟩⟩⟩⟩⟩) (by exact zFX.refl _))<|zm (H':=[.box 26 (zG a_p0),.box 26 (zG (⟨([]:List Int),0,0,([]:List zp),([]:List zL)⟩:zJ))]) (zZ (k:=1) (o:=0) (cs:=(zG ⟨[],0,0,[],[]⟩)) (la:=(zG (⟨([]:List Int),0,0,([]:List zp),([]:List zL)⟩:zJ))) sizeOf26 rfl rfl rfl rfl)<|zA (zD rfl)<|zA (zD rfl) ?_
   refine zF<|zb ?_
   show zAQ _ _ _ _ _ _
   obtain rfl:=Option.some.inj h
   exact zC6 (zFa isAgg26 sizeOf26 rfl rfl rfl rfl) (zAM rfl rfl) (zAM rfl rfl) rfl
  ·refine zP<|zI<|zM h fun hb3 h=>zR h fun x2 hx2 h => ?_
   show AW _ _ _ _ _ _ [.box 26 (zG a_p0),.box 26 (zG ⟨[],0,0,[],[]⟩)]
   refine zAx (n:=131) (m:=0) [.head 0 0,.head 0 0,.head 0 0,.head 0 0,.head 0 0,.head 0 0,.head 0 0,.head 0 0,.head 0 0,.head 0 0,.head 0 0,.head 0 0,.head 0 0,.head 0 0] [] [AV.ptr 0 3,ls zO a_p0.zones,AV.ptr 0 0,ls cI a_p0.nodes,li a_p1,(AV.rp (cI (at_ a_p0.nodes a_p1)) 0),(li (at_ a_p0.nodes a_p1)),(AV.lit (.bool a_p2)),(AV.tup [ls cI x2.1,li x2.2]),(AV.tup [ls cI x2.1,li x2.2]),ls cI x2.1,li x2.2,ls cI x2.1,li x2.2] [[.box 26 (zG a_p0),.box 26 (zG ⟨[],0,0,[],[]⟩)]] (by kernel_rfl) (by kernel_rfl) ⟨?_,?_,?_,?_,?_,?_,?_,?_,?_,?_,?_,?_,?_,?_,trivial⟩ ?_
   ·exact D1 fun e s p=>zK (k:=0) (o:=0) (off:=3) underlying26 rfl rfl sizeOf23 (s 4 rfl)
   ·exact D1 fun e s p=>zN (k:=0) (o:=3) isAgg23 p.1 rfl rfl rfl
   ·exact D1 fun e s p=>zK (k:=0) (o:=0) (off:=0) underlying26 rfl rfl sizeOf22 (s 4 rfl)
   ·exact D1 fun e s p=>zN (k:=0) (o:=0) isAgg22 p.1 rfl rfl rfl
   ·exact D1 fun e s p=>zB (s 1 rfl)
   ·exact D1 fun e s p=>zU (f:=cI) (l:=a_p0.nodes) (i:=a_p1) underlying22 sizeOf3 (fun _=>rfl) p.1 p.2.1 hb3
   ·exact D1 fun e s p=>zW (o:=0) isAgg3 p.1 rfl
   ·exact D1 fun e s p=>zB (s 2 rfl)
   ·
    intro e9 hs9 hp9
    refine zi (r:=(AV.tup [ls cI x2.1,li x2.2])) (la:=[ls zO a_p0.zones,(li (at_ a_p0.nodes a_p1)),(AV.lit (.bool a_p2))]) func53 rfl (by kernel_rfl) (.fn 53) (zAK hp9.1 (zAK hp9.2.1 (zAK hp9.2.2.1 rfl))) rfl (zI4 hx2) rfl ?_
    exact zF ⟨fun _=>rfl,rfl⟩
   ·exact D1 fun e s p=>zB p.1
   ·exact D1 fun e s p=>zg p.1 rfl
   ·exact D1 fun e s p=>zg p.1 rfl
   ·exact D1 fun e s p=>zD p.2.2.2.2.2.2.2.2.2.2.2.2.1
   ·exact D1 fun e s p=>zD p.2.2.2.2.2.2.2.2.2.2.2.2.2.1
   intro e15 hs15 hq1
   refine zV (zBY (l:=[(1,(li a_p1)),(3,(AV.lit (.bool a_p3))),(4,(AV.ptr 0 0)),(8,(AV.ptr 1 0)),(12,(ls cI x2.1))]) ⟨hs15 1 rfl,hs15 3 rfl,hs15 4 rfl,hs15 8 rfl,(hq1 12 (by decide) (by decide)),trivial⟩) ?_
   refine zx (fun e' H'=>Rep 131 0 e' H' (mkE [(8,(AV.ptr 0 0))]) [.box 26 (zG ⟨[],0,0,[],[]⟩)]∧zGi  = some r) ?_ ?_
   ·
    refine zI<|zC<|zA (zB rfl)<|zA (zX underlying22 rfl)<|zA (zB rfl)<|zF ?_
    refine zQ<|z6 (σ:=Nat×Int) (fun s=>s.1) (fun s e' H'=>match s with | (n0,i1)=>Rep 131 0 e' H' (mkE [(1,(li a_p1)),(3,(AV.lit (.bool a_p3))),(4,(AV.ptr 0 0)),(8,(AV.ptr 1 0)),(49,(ls cI x2.1)),(50,(li (x2.1.length:Int))),(51,(li i1))]) [.box 26 (zG a_p0),.box 26 (zG ⟨[],0,0,[],[]⟩)]∧zDN a_p0 a_p1 a_p3 x2 n0 i1=some r) (z9,0) ⟨zAE [0,1] rfl rfl (by kernel_rfl),h⟩ ?_
    clear h
    rintro ⟨n0,i1⟩ e' H' ⟨hrep,h⟩
    cases n0 with
    | zero=>exact absurd (show (none:Option _)=some r from h) (by simp)
    | succ n0 =>
     replace h:zGo a_p0 a_p1 a_p3 x2 (zDN a_p0 a_p1 a_p3 x2 n0) i1=some r:=h
     unfold zGo at h
     refine zV hrep ?_
     clear hrep
     refine zI<|zC<|zA (ze rfl rfl)<|zF<|zI ?_
     refine zY h rfl (fun hb4 h => ?_) (fun hb4 h => ?_)
     ·refine zP ?_
      refine zx (fun e' H'=>Rep 131 0 e' H' (mkE [(1,(li a_p1)),(3,(AV.lit (.bool a_p3))),(4,(AV.ptr 0 0)),(8,(AV.ptr 1 0)),(49,(ls cI x2.1)),(50,(li (x2.1.length:Int))),(51,(li i1))]) [.box 26 (zG a_p0),.box 26 (zG ⟨[],0,0,[],[]⟩)]∧zGG (zDN a_p0 a_p1 a_p3 x2 n0) i1=some r) ?_ ?_
      ·
       refine zQ<|zI<|zC<|zM h fun hb6 h=>zA (zU underlying22 sizeOf3 (fun _=>rfl) rfl rfl hb6)<|zA (zW (o:=0) isAgg3 rfl rfl) ?_
       refine zA (zD rfl)<|zF<|zI<|zI<|zC<|zA (zB rfl) ?_
       refine zA (zB rfl)<|zo rfl rfl (fun hc6=>zt.step (zS (k:=0) (o:=0) (m:=5) isAgg26 sizeOf26 rfl rfl rfl rfl rfl))<|zo rfl rfl (fun hc7=>zt.step (zB rfl))<|zR h fun x3 hx3 h=>zCp (g:=56) (s:=a_p3) (r':=(li x3)) rfl rfl (fun hc8=>⟨52,_,_,[],[(AV.agg (zG a_p0)),(li (at_ x2.1 i1))],[(AV.agg (zG a_p0)),(li (at_ x2.1 i1))],li x3,[],func52,rfl,by kernel_rfl,.fn 52,(zAK (z5 rfl hc8) (zAK (z5 rfl hc8) rfl)),⟨zAt.nr rfl,zAt.nr rfl,trivial⟩,zGH (zF3 hc8 hx3),.inl rfl,rfl⟩)<|zo rfl rfl (fun hc9=>zt.step (zBR (z5 rfl hc9) rfl)) ?_
       refine zA (zz (j := .lit undef) rfl rfl)<|zA (zB rfl)<|zT rfl rfl (fun hc10=>zt.step (zB rfl))<|zT rfl rfl (fun hc11=>zt.step (zA6 (t:=a_p3) (z5 rfl hc11)))<|zT rfl rfl (fun hc12=>zt.step (zB (z5 rfl hc12)))<|zKg (g:=65) (s' := !(a_p3&&(decide (x3=0)))) (s := !a_p3) rfl rfl (fun hc13=>zt.step (zS (k:=0) (o:=0) (m:=5) isAgg26 sizeOf26 rfl rfl rfl rfl rfl)) ?_
       refine zKg (g:=65) (s' := !(a_p3&&(decide (x3=0)))) (s := !a_p3) rfl rfl (fun hc14=>zt.step (zB rfl))<|zR h fun x4 hx4 h=>zMf (g:=65) (s' := !(a_p3&&(decide (x3=0)))) (s := !a_p3) (r':=(li x4)) rfl rfl (fun hc15=>⟨39,_,_,[],[(AV.agg (zG a_p0)),(li (at_ x2.1 i1))],[(AV.agg (zG a_p0)),(li (at_ x2.1 i1))],li x4,[],func39,rfl,by kernel_rfl,.fn 39,(zAK (z5 rfl hc15) (zAK (z5 rfl hc15) rfl)),⟨zAt.nr rfl,zAt.nr rfl,trivial⟩,zG4 (zF3 hc15 hx4),.inl rfl,rfl⟩)<|zKg (g:=65) (s' := !(a_p3&&(decide (x3=0)))) (s := !a_p3) rfl rfl (fun hc16=>zt.step (ze (z5 rfl hc16) rfl))<|zT rfl rfl (fun hc17=>zt.step (zz (j := .lit undef) (z5 rfl hc17) (zOI (c := !(a_p3&&(decide (x3=0)))) (d := !a_p3) (a:=(AV.lit (.bool (decide (x4<1))))) (j := .lit undef) rfl hc17)))<|zA (zd rfl rfl) ?_
       refine zF ?_
       refine zY h rfl (fun hb7 h => ?_) (fun hb7 h => ?_)
       ·refine zy ?_
        exact ⟨zAE [0,1] rfl rfl (by kernel_rfl),h⟩
       ·refine zP<|zI<|zC<|zA (zS (k:=0) (o:=0) (m:=5) isAgg26 sizeOf26 rfl rfl rfl rfl rfl)<|zR h fun x5 hx5 h=>zHU (cs:=[ls cI x5.nodes,li x5.batch,li x5.high,AV.osl 51 10 (List.map zO x5.zones),AV.osl 55 1 (List.map zH x5.caches)]) (la:=[(AV.agg (zG a_p0))]) (la':=[(AV.agg (zG a_p0))]) (S:=[]) func54 rfl (by kernel_rfl) (.fn 54) rfl ⟨zAt.nr rfl,trivial⟩ (zEz hx5) (.inl rfl) ?_
        refine za (H':=[.box 26 (zG a_p0),.box 26 (zG ⟨[],0,0,[],[]⟩),.val (.agg [ls cI x5.nodes,li x5.batch,li x5.high,AV.osl 51 10 (List.map zO x5.zones),AV.osl 55 1 (List.map zH x5.caches)]),.box 26 (zG ⟨[],0,0,[],[]⟩)]) (zv (t:=26) (vs:=[.slice none 0 0,.int .i64 0,.int .i64 0,.slice none 0 0,.slice none 0 0]) (cs:=[.sl false [],.lit (.int .i64 0),.lit (.int .i64 0),.sl false [],.sl false []]) zeroValue26 (by kernel_rfl) rfl ⟨zh.nils,zh.refl _,zh.refl _,zh.nils,zh.nils,trivial⟩)<|zm (H':=[.box 26 (zG a_p0),.box 26 (zG ⟨[],0,0,[],[]⟩),.dead,.box 26 [ls cI x5.nodes,li x5.batch,li x5.high,AV.osl 51 10 (List.map zO x5.zones),AV.osl 55 1 (List.map zH x5.caches)]]) (zCd (k:=3) (o:=0) (j:=2) (cs:=(zG ⟨[],0,0,[],[]⟩)) (la:=[ls cI x5.nodes,li x5.batch,li x5.high,AV.osl 51 10 (List.map zO x5.zones),AV.osl 55 1 (List.map zH x5.caches)]) sizeOf26 rfl rfl rfl rfl rfl (by decide))<|zF ?_
        refine zx (fun e' H' => ∃ (d1:List Int) (d2:Int) (d3:Int) (l1:List zp) (l2:List zL),Rep 131 0 e' H' (mkE [(1,(li a_p1)),(8,(AV.ptr 0 0)),(15,(li (at_ x2.1 i1))),(16,(AV.ptr 1 0))]) [.box 26 (zG ⟨[],0,0,[],[]⟩),.box 26 [ls cI d1,li d2,li d3,AV.osl 51 10 (List.map zO l1),AV.osl 55 1 (List.map zH l2)]]∧zEw a_p1 x2 i1 d1 d2 d3 l1 l2=some r) ?_ ?_
        ·
         refine zI<|zC<|zA (zK underlying26 rfl rfl sizeOf24 rfl)<|zAF (zBA (k:=3) (o:=4) (t':=55) (sz:=1) (rows:=List.map zH x5.caches) rfl rfl)<|zA (zN isAgg24 rfl rfl rfl rfl)<|zA (zB rfl) ?_
         refine zM h fun hb10 h=>zA (zAC (f:=zH) (l:=x5.caches) (i:=a_p1) underlying24 sizeOf55 rfl rfl rfl hb10)<|zA (zK underlying55 rfl rfl sizeOf53 rfl)<|zA (zBS (f:=zH) (l:=x5.caches) (i:=a_p1) (c:=0) (a:=(ls (cS cI) ((at_ x5.caches a_p1).lists))) isAgg53 rfl rfl (by first | rfl | omega) hb10 rfl rfl)<|zA (zB rfl)<|zM h fun hb11 h => ?_
         refine zA (zU underlying53 sizeOf22 (fun _=>rfl) rfl rfl hb11)<|zA (zW (o:=0) isAgg22 rfl rfl)<|zA (zX underlying22 rfl)<|zA (zBR rfl rfl)<|zA (zB rfl)<|zo rfl rfl (fun hc18=>zt.step (zB rfl)) ?_
         refine zo rfl rfl (fun hc19=>zt.step (zB rfl))<|zAF (zAJ (k:=3) (j:=4) (o:=4) rfl rfl rfl rfl)<|zR h fun x7 hx7 h=>zPE (g:=85) (s:=decide (((at_ ((at_ x5.caches a_p1).lists) (at_ x2.1 i1)).length:Int)=0)) (k:=3) (r:=(AV.lit (.bool x7.2))) (en' := .box 26 [ls cI x7.1.nodes,li x7.1.batch,li x7.1.high,AV.osl 51 10 (List.map zO x7.1.zones),AV.osl 55 1 (List.map zH x7.1.caches)]) rfl rfl (fun hc23=>⟨55,_,_,[],[AV.ptr 3 0,li a_p1,(li (at_ x2.1 i1))],[AV.ptr 0 0,li a_p1,(li (at_ x2.1 i1))],_,func55,rfl,by kernel_rfl,.fn 55,(zAK rfl (zAK (z5 rfl hc23) (zAK (z5 rfl hc23) rfl))),⟨zCe.ptr,zCe.of (zAt.nr rfl),zCe.of (zAt.nr rfl),trivial⟩,rfl,by kernel_rfl,by kernel_rfl,zIQ (zF3 hc23 hx7),rfl⟩) (fun hc23=>by obtain rfl:=Option.some.inj (zUk hc23 hx7); rfl)<|zo rfl rfl (fun hc24=>zt.step (zA6 (t:=x7.2) (z5 rfl hc24)))<|zA (zz (j := .lit undef) rfl rfl) ?_
         refine zF ?_
         refine zY h rfl (fun hb12 h => ?_) (fun hb12 h => ?_)
         ·refine zx (fun e' H' => ∃ (d4:List Int) (d5:Int) (d6:Int) (l3:List zp) (l4:List zL),Rep 131 0 e' H' (mkE [(1,(li a_p1)),(8,(AV.ptr 0 0)),(15,(li (at_ x2.1 i1))),(16,(AV.ptr 1 0))]) [.box 26 (zG ⟨[],0,0,[],[]⟩),.box 26 [ls cI d4,li d5,li d6,AV.osl 51 10 (List.map zO l3),AV.osl 55 1 (List.map zH l4)]]∧zGZ a_p1 x2 i1 d4 d5 d6 l3 l4=some r) ?_ ?_
          ·
           refine zI<|zC<|zA (zK underlying26 rfl rfl sizeOf24 rfl)<|zAF (zBA (k:=3) (o:=4) (t':=55) (sz:=1) (rows:=List.map zH x7.1.caches) rfl rfl)<|zA (zN isAgg24 rfl rfl rfl rfl)<|zA (zDx (f:=zH) (l:=x7.1.caches) underlying24 rfl rfl) ?_
           refine zA (zB rfl)<|zF<|zQ<|z6 (σ:=Nat×Int×(List Int)×Int×Int×(List zp)×(List zL)) (fun s=>s.1) (fun s e' H'=>match s with | (n1,i2,d7,d8,d9,l5,l6)=>Rep 131 0 e' H' (mkE [(1,(li a_p1)),(8,(AV.ptr 0 0)),(15,(li (at_ x2.1 i1))),(16,(AV.ptr 1 0)),(93,(li (x7.1.caches.length:Int))),(94,(li i2))]) [.box 26 (zG ⟨[],0,0,[],[]⟩),.box 26 [ls cI d7,li d8,li d9,AV.osl 51 10 (List.map zO l5),AV.osl 55 1 (List.map zH l6)]]∧zDF a_p1 x2 i1 x7 n1 i2 d7 d8 d9 l5 l6=some r) (z9,0,x7.1.nodes,x7.1.batch,x7.1.high,x7.1.zones,x7.1.caches) ⟨Rep.trans (zAJ (k:=3) (j:=5) (o:=4) rfl rfl rfl rfl) (zAE [1,3] (l:=[(1,(li a_p1)),(8,(AV.ptr 0 0)),(15,(li (at_ x2.1 i1))),(16,(AV.ptr 1 0)),(93,(li (x7.1.caches.length:Int))),(94,(li 0))]) rfl rfl (by kernel_rfl)),h⟩ ?_
           clear h
           rintro ⟨n1,i2,d7,d8,d9,l5,l6⟩ e' H' ⟨hrep,h⟩
           cases n1 with
           | zero=>exact absurd (show (none:Option _)=some r from h) (by simp)
           | succ n1 =>
            replace h:zGc a_p1 x2 i1 x7 (zDF a_p1 x2 i1 x7 n1) i2 d7 d8 d9 l5 l6=some r:=h
            unfold zGc at h
            refine zV hrep ?_
            clear hrep
            refine zI<|zC<|zA (ze rfl rfl)<|zF<|zI ?_
            refine zY h rfl (fun hb13 h => ?_) (fun hb13 h => ?_)
            ·refine zP ?_
             refine zx (fun e' H' => ∃ (d10:List Int) (d11:Int) (d12:Int) (l7:List zp) (l8:List zL),Rep 131 0 e' H' (mkE [(1,(li a_p1)),(8,(AV.ptr 0 0)),(15,(li (at_ x2.1 i1))),(16,(AV.ptr 1 0)),(93,(li (x7.1.caches.length:Int))),(94,(li i2))]) [.box 26 (zG ⟨[],0,0,[],[]⟩),.box 26 [ls cI d10,li d11,li d12,AV.osl 51 10 (List.map zO l7),AV.osl 55 1 (List.map zH l8)]]∧zEq (zDF a_p1 x2 i1 x7 n1) i2 d10 d11 d12 l7 l8=some r) ?_ ?_
             ·
              refine zQ<|zI<|zC<|zA (zB rfl)<|zA (zD rfl)<|zF ?_
              refine zI<|zC<|zA (zB rfl)<|zA (zB rfl)<|zA (z7 rfl rfl)<|zF ?_
              refine zY h rfl (fun hb15 h => ?_) (fun hb15 h => ?_)
              ·refine zC<|zA (zB rfl)<|zA (zB rfl)<|zR h fun x9 hx9 h=>zDw (k:=1) (la:=[AV.ptr 1 0,li i2,(li (at_ x2.1 i1))]) (la':=[AV.ptr 0 0,li i2,(li (at_ x2.1 i1))]) (r:=(.tup [])) (S:=[]) (en' := .box 26 [ls cI x9.nodes,li x9.batch,li x9.high,AV.osl 51 10 (List.map zO x9.zones),AV.osl 55 1 (List.map zH x9.caches)]) func56 rfl (by kernel_rfl) (.fn 56) rfl ⟨zCe.ptr,zCe.of (zAt.nr rfl),zCe.of (zAt.nr rfl),trivial⟩ rfl rfl (by kernel_rfl) (by kernel_rfl) (zGU hx9) rfl (.inl rfl)<|zF ?_
               exact ⟨x9.nodes,x9.batch,x9.high,x9.zones,x9.caches,zAE [0,1] rfl rfl (by kernel_rfl),h⟩
              ·refine zP ?_
               exact ⟨d7,d8,d9,l5,l6,zAE [0,1] rfl rfl (by kernel_rfl),h⟩
             ·
              clear h
              rintro e' H' ⟨d10,d11,d12,l7,l8,hrep,h⟩
              refine zV hrep ?_
              clear hrep
              unfold zEq at h
              refine zC<|zM h fun hb14 h=>zA (zf rfl rfl hb14)<|zA (zB rfl)<|zF ?_
              exact ⟨(n1,(i2+1),d10,d11,d12,l7,l8),Nat.lt_succ_self _,zAE [0,1] rfl rfl (by kernel_rfl),h⟩
            ·refine zy ?_
             exact ⟨d7,d8,d9,l5,l6,zAE [0,1] rfl rfl (by kernel_rfl),h⟩
          ·
           clear h
           rintro e' H' ⟨d4,d5,d6,l3,l4,hrep,h⟩
           refine zV hrep ?_
           clear hrep
           unfold zGZ at h
           refine zC<|zA (zB rfl)<|zA (zB rfl)<|zR h fun x8 hx8 h=>zDw (k:=1) (la:=[AV.ptr 1 0,li a_p1,(li (at_ x2.1 i1))]) (la':=[AV.ptr 0 0,li a_p1,(li (at_ x2.1 i1))]) (r:=(AV.lit (.bool x8.2))) (S:=[]) (en' := .box 26 [ls cI x8.1.nodes,li x8.1.batch,li x8.1.high,AV.osl 51 10 (List.map zO x8.1.zones),AV.osl 55 1 (List.map zH x8.1.caches)]) func55 rfl (by kernel_rfl) (.fn 55) rfl ⟨zCe.ptr,zCe.of (zAt.nr rfl),zCe.of (zAt.nr rfl),trivial⟩ rfl rfl (by kernel_rfl) (by kernel_rfl) (zIQ hx8) rfl (.inl rfl)<|zF ?_
           exact ⟨x8.1.nodes,x8.1.batch,x8.1.high,x8.1.zones,x8.1.caches,zAE [0,1] rfl rfl (by kernel_rfl),h⟩
         ·refine zP ?_
          exact ⟨x7.1.nodes,x7.1.batch,x7.1.high,x7.1.zones,x7.1.caches,zAE [1,3] rfl rfl (by kernel_rfl),h⟩
        ·
         clear h
         rintro e' H' ⟨d1,d2,d3,l1,l2,hrep,h⟩
         refine zV hrep ?_
         clear hrep
         unfold zEw at h
         refine zI<|zC<|zA (zK underlying26 rfl rfl sizeOf24 rfl)<|zAF (zBA (k:=1) (o:=4) (t':=55) (sz:=1) (rows:=List.map zH l2) rfl rfl)<|zA (zN isAgg24 rfl rfl rfl rfl)<|zA (zB rfl) ?_
         refine zM h fun hb8 h=>zA (zAC (f:=zH) (l:=l2) (i:=a_p1) underlying24 sizeOf55 rfl rfl rfl hb8)<|zA (zCT (f:=zH) (l:=l2) (i:=a_p1) (c:=0) (q:=1) (la:=(zH (at_ l2 a_p1))) isAgg55 sizeOf55 rfl rfl (by first | rfl | omega) hb8 rfl rfl rfl)<|zA (zB rfl)<|zR h fun x6 hx6 h=>zi func57 rfl (by kernel_rfl) (.fn 57) rfl rfl (zMh hx6) rfl ?_
         refine zA (zB rfl)<|zA (zg rfl rfl)<|zA (zg rfl rfl)<|zA (zg rfl rfl)<|za (H':=[.box 26 (zG ⟨[],0,0,[],[]⟩),.box 26 [ls cI d1,li d2,li d3,AV.osl 51 10 (List.map zO l1),AV.hd 2],.vec 55 1 (List.map zH l2),.box 55 [(ls (cS cI) ([]:List (List Int)))]]) (zv (t:=55) (vs:=[.slice none 0 0]) (cs:=[.sl false []]) zeroValue55 (by kernel_rfl) rfl ⟨zh.nils,trivial⟩)<|zm (H':=[.box 26 (zG ⟨[],0,0,[],[]⟩),.box 26 [ls cI d1,li d2,li d3,AV.osl 51 10 (List.map zO l1),AV.hd 2],.vec 55 1 (List.map zH l2),.box 55 (zH x6.1)]) (zZ (k:=3) (o:=0) (cs:=[(ls (cS cI) ([]:List (List Int)))]) (la:=(zH x6.1)) sizeOf55 rfl rfl rfl rfl) ?_
         refine zA (zD rfl)<|zA (zD rfl)<|zF<|zI<|zI<|zC ?_
         refine zA (zB rfl)<|zA (z7 rfl rfl)<|zF ?_
         refine zY h rfl (fun hb9 h => ?_) (fun hb9 h => ?_)
         ·refine zI<|zC<|zA (z8 (pl:=[(0,1),(1,1),(2,1),(3,1),(4,1)]) (zs:=[.slice none 0 0,.int .i64 0,.int .i64 0,.slice none 0 0,.slice none 0 0]) (zc:=[.sl false [],.lit (.int .i64 0),.lit (.int .i64 0),.sl false [],.sl false []]) (res:=(zG (⟨([]:List Int),0,0,([]:List zp),([]:List zL)⟩:zJ))) (fun _=>by kernel_rfl) rfl (⟨zh.nils,⟨zh.refl _,⟨zh.refl _,⟨zh.nils,⟨zh.nils,trivial⟩⟩⟩⟩⟩) (by exact zFX.refl _))<|zA (zB rfl)<|zm (H':=[.box 26 (zG (⟨([]:List Int),0,0,([]:List zp),([]:List zL)⟩:zJ)),.box 26 [ls cI d1,li d2,li d3,AV.osl 51 10 (List.map zO l1),AV.hd 2],.vec 55 1 (List.map zH l2),.box 55 (zH x6.1)]) (zZ (k:=0) (o:=0) (cs:=(zG ⟨[],0,0,[],[]⟩)) (la:=(zG (⟨([]:List Int),0,0,([]:List zp),([]:List zL)⟩:zJ))) sizeOf26 rfl rfl rfl rfl)<|zA (zD rfl) ?_
          refine zA (zD rfl)<|zF<|zb ?_
          show zAQ _ _ _ _ _ _
          obtain rfl:=Option.some.inj h
          exact zC6 (zFa isAgg26 sizeOf26 rfl rfl rfl rfl) (zAM rfl rfl) (zAM rfl rfl) rfl
         ·refine zP<|zI<|zC<|zA (zK underlying26 rfl rfl sizeOf24 rfl)<|zA (zN isAgg24 rfl rfl rfl rfl)<|zA (zB rfl) ?_
          refine zA (zS (k:=3) (o:=0) (m:=1) isAgg55 sizeOf55 rfl rfl rfl rfl rfl)<|zA (zAC (f:=zH) (l:=l2) (i:=a_p1) underlying24 sizeOf55 rfl rfl rfl hb8)<|zm (H':=[.box 26 (zG ⟨[],0,0,[],[]⟩),.box 26 [ls cI d1,li d2,li d3,AV.osl 51 10 (List.map zO l1),AV.hd 2],.vec 55 1 (List.map zH (l2.set a_p1.toNat x6.1)),.box 55 (zH x6.1)]) (zCM (k:=2) (o:=(a_p1.toNat*1)) (f:=zH) (l:=l2) (i:=a_p1) (z:=x6.1) sizeOf55 (fun _=>rfl) rfl rfl (by first | rfl | omega) hb8 rfl rfl)<|zF<|zI<|zC ?_
          refine zAF (zBb (k:=1) (o:=3) (rows':=List.map zO l1) rfl rfl (zAP (fun _=>rfl)))<|zAF (zAJ (k:=1) (j:=2) (o:=4) rfl rfl rfl rfl)<|zAF (zBb (k:=1) (o:=4) (rows':=List.map zH (l2.set a_p1.toNat x6.1)) rfl rfl (zAP (fun _=>rfl)))<|zA (zS (k:=1) (o:=0) (m:=5) isAgg26 sizeOf26 rfl rfl rfl rfl rfl)<|zA (zB rfl)<|zm (H':=[.box 26 (zG (⟨d1,d2,d3,l1,l2.set a_p1.toNat x6.1⟩:zJ)),.box 26 (zG ⟨d1,d2,d3,l1,l2.set a_p1.toNat x6.1⟩),.dead,.box 55 (zH x6.1)]) (zZ (k:=0) (o:=0) (cs:=(zG ⟨[],0,0,[],[]⟩)) (la:=(zG (⟨d1,d2,d3,l1,l2.set a_p1.toNat x6.1⟩:zJ))) sizeOf26 rfl rfl rfl rfl) ?_
          refine zA (zD rfl)<|zA (zD rfl)<|zF<|zb ?_
          show zAQ _ _ _ _ _ _
          obtain rfl:=Option.some.inj h
          exact zC6 (zFa isAgg26 sizeOf26 rfl rfl rfl rfl) (zAM rfl rfl) (zAM rfl rfl) rfl
      ·
       clear h
       rintro e' H' ⟨hrep,h⟩
       refine zV hrep ?_
       clear hrep
       unfold zGG at h
       refine zC<|zM h fun hb5 h=>zA (zf rfl rfl hb5)<|zA (zB rfl)<|zF ?_
       exact ⟨(n0,(i1+1)),Nat.lt_succ_self _,zAE [0,1] rfl rfl (by kernel_rfl),h⟩
     ·refine zy ?_
      exact ⟨zAE [1] rfl rfl (by kernel_rfl),h⟩
   ·
    clear h
    rintro e' H' ⟨hrep,h⟩
    refine zV hrep ?_
    clear hrep
    unfold zGi at h
    refine zI<|zC<|zA (z8 (pl:=[(0,1),(1,1),(2,1),(3,1),(4,1)]) (zs:=[.slice none 0 0,.int .i64 0,.int .i64 0,.slice none 0 0,.slice none 0 0]) (zc:=[.sl false [],.lit (.int .i64 0),.lit (.int .i64 0),.sl false [],.sl false []]) (res:=(zG (⟨([]:List Int),0,0,([]:List zp),([]:List zL)⟩:zJ))) (fun _=>by kernel_rfl) rfl (⟨zh.nils,⟨zh.refl _,⟨zh.refl _,⟨zh.nils,⟨zh.nils,trivial⟩⟩⟩⟩⟩) (by exact zFX.refl _))<|zm (H':=[.box 26 (zG (⟨([]:List Int),0,0,([]:List zp),([]:List zL)⟩:zJ))]) (zZ (k:=0) (o:=0) (cs:=(zG ⟨[],0,0,[],[]⟩)) (la:=(zG (⟨([]:List Int),0,0,([]:List zp),([]:List zL)⟩:zJ))) sizeOf26 rfl rfl rfl rfl)<|zA (zD rfl)<|zA (zD rfl) ?_
    refine zF<|zb ?_
    show zAQ _ _ _ _ _ _
    obtain rfl:=Option.some.inj h
    exact zC6 (zFa isAgg26 sizeOf26 rfl rfl rfl rfl) (zAM rfl rfl) (zAM rfl rfl) rfl
theorem zJG {a_s:List Int} {a_v:Int} {r:Int} (h:zDA a_s a_v=some r):PFn prog 144 [ls cI a_s,li a_v] (li r):=by
 refine zq func144 rfl ntmps144 results144 rfl ?_
 unfold zDA at h
 refine zI<|zC<|zA (zD rfl)<|zF ?_
 refine zx (fun e' H'=>Rep 19 0 e' H' (mkE []) []∧zD3  = some r) ?_ ?_
 ·
  refine zI<|zC<|zA (zB rfl)<|zA (zX underlying22 rfl)<|zA (zB rfl)<|zF ?_
  refine zQ<|z6 (σ:=Nat×Int) (fun s=>s.1) (fun s e' H'=>match s with | (n0,i1)=>Rep 19 0 e' H' (mkE [(0,(ls cI a_s)),(1,(li a_v)),(7,(li (a_s.length:Int))),(8,(li i1))]) []∧zA0 a_s a_v n0 i1=some r) (z9,0) ⟨zAE [] rfl rfl (by kernel_rfl),h⟩ ?_
  clear h
  rintro ⟨n0,i1⟩ e' H' ⟨hrep,h⟩
  cases n0 with
  | zero=>exact absurd (show (none:Option _)=some r from h) (by simp)
  | succ n0 =>
   replace h:zA2 a_s a_v (zA0 a_s a_v n0) i1=some r:=h
   unfold zA2 at h
   refine zV hrep ?_
   clear hrep
   refine zI<|zC<|zA (ze rfl rfl)<|zF<|zI ?_
   refine zY h rfl (fun hb1 h => ?_) (fun hb1 h => ?_)
   ·refine zP<|zI<|zQ<|zI<|zC<|zA (zB rfl) ?_
    refine zA (zD rfl)<|zF<|zI<|zC<|zA (zB rfl)<|zA (zB rfl) ?_
    refine zA (zB rfl)<|zM h fun hb2 h=>zA (zU underlying22 sizeOf3 (fun _=>rfl) rfl rfl hb2)<|zA (zW (o:=0) isAgg3 rfl rfl)<|zA (zBR rfl rfl)<|zF ?_
    refine zY h rfl (fun hb3 h => ?_) (fun hb3 h => ?_)
    ·refine zI<|zC<|zA (zB rfl)<|zA (zD rfl)<|zF<|zb ?_
     show zAQ _ _ _ _ _ _
     obtain rfl:=Option.some.inj h
     exact zu (zAM rfl rfl)
    ·refine zP<|zC<|zM h fun hb4 h=>zA (zf rfl rfl hb4)<|zA (zB rfl)<|zF ?_
     exact ⟨(n0,(i1+1)),Nat.lt_succ_self _,zAE [] rfl rfl (by kernel_rfl),h⟩
   ·refine zy ?_
    exact ⟨zAE [] rfl rfl (by kernel_rfl),h⟩
 ·
  clear h
  rintro e' H' ⟨hrep,h⟩
  refine zV hrep ?_
  clear hrep
  unfold zD3 at h
  refine zI<|zC<|zA (zD rfl)<|zF<|zb ?_
  show zAQ _ _ _ _ _ _
  obtain rfl:=Option.some.inj h
  exact zu (zAM rfl rfl)
theorem zIK {a_s:List Int} {a_v:Int} {r:Bool} (h:zBc a_s a_v=some r):PFn prog 128 [ls cI a_s,li a_v] (AV.lit (.bool r)):=by
 refine zq func128 rfl ntmps128 results128 rfl ?_
 unfold zBc at h
 refine zI<|zC<|zA (zD rfl)<|zF<|zI<|zC ?_
 refine zA (zB rfl)<|zA (zB rfl)<|zR h fun x1 hx1 h=>zi func144 rfl (by kernel_rfl) (.fn 144) rfl rfl (zJG hx1) rfl<|zA (zAp rfl rfl)<|zA (zD rfl) ?_
 refine zF<|zb ?_
 show zAQ _ _ _ _ _ _
 obtain rfl:=Option.some.inj h
 exact zu (zAM rfl rfl)
theorem zJm {a_c:zL} {c_0:Int} {c_1:Int} {r:Bool} (h:zBC a_c c_0 c_1=some r):PFn prog 127 [(AV.agg (zH a_c)),(AV.rp [li c_0] 0),(AV.rp [li c_1] 0)] (AV.lit (.bool r)):=by
 refine zq func127 rfl ntmps127 results127 rfl ?_
 unfold zBC at h
 refine zI<|zC<|za (H':=[.box 55 (zH a_c)]) (zw (t:=55) rfl)<|zA (zD rfl)<|zF<|zI ?_
 refine zM h fun hb1 h=>zR h fun x1 hx1 h => ?_
 show AW _ _ _ _ _ _ [.box 55 (zH a_c)]
 refine zAx (n:=12) (m:=0) [.head 0 0,.head 0 0,.head 0 0,.head 0 0,.head 0 0,.head 0 0,.head 0 0,.head 0 0] [] [AV.ptr 0 0,(ls (cS cI) a_c.lists),li c_0,(AV.rp ((cS cI) (at_ a_c.lists c_0)) 0),(ls cI (at_ a_c.lists c_0)),li c_1,(AV.lit (.bool x1)),(AV.lit (.bool x1))] [[.box 55 (zH a_c)]] (by kernel_rfl) (by kernel_rfl) ⟨?_,?_,?_,?_,?_,?_,?_,?_,trivial⟩ ?_
 ·exact D1 fun e s p=>zK (k:=0) (o:=0) (off:=0) underlying55 rfl rfl sizeOf53 (s 3 rfl)
 ·exact D1 fun e s p=>zN (k:=0) (o:=0) isAgg53 p.1 rfl rfl rfl
 ·exact D1 fun e s p=>zW (o:=0) isAgg3 (s 1 rfl) rfl
 ·exact D1 fun e s p=>zU (f:=(cS cI)) (l:=a_c.lists) (i:=c_0) underlying53 sizeOf22 (fun _=>rfl) p.1 p.2.1 hb1
 ·exact D1 fun e s p=>zW (o:=0) isAgg22 p.1 rfl
 ·exact D1 fun e s p=>zW (o:=0) isAgg3 (s 2 rfl) rfl
 ·
  intro e7 hs7 hp7
  refine zi (r:=(AV.lit (.bool x1))) (la:=[(ls cI (at_ a_c.lists c_0)),li c_1]) func128 rfl (by kernel_rfl) (.fn 128) (zAK hp7.1 (zAK hp7.2.1 rfl)) rfl (zIK hx1) rfl ?_
  exact zF ⟨fun _=>rfl,rfl⟩
 ·exact D1 fun e s p=>zD p.2.2.2.2.2.2.2.2.1
 intro e9 hs9 hq1
 refine zV (zBY (l:=[(4,(AV.lit (.bool x1)))]) ⟨(hq1 7 (by decide) (by decide)),trivial⟩)<|zb ?_
 show zAQ _ _ _ _ _ _
 obtain rfl:=Option.some.inj h
 exact zu (zAM rfl rfl)
theorem zDp {a_s : List zL} {a_f : zL → Option Bool} {g_a_f : FuncId} {cf_a_f : Func} {code_a_f : Code} {caps_a_f : List AV} (hcf_a_f : Tryz.prog.funcs[g_a_f]? = some cf_a_f) (hcb_a_f : cf_a_f.body = some code_a_f) (hcn_a_f : (cf_a_f.name == "runtime.NumGoroutine") = false) (hnr_a_f : caps_a_f.all nr = true) (hg_a_f : ∀ {x0 : zL} {y : Bool}, a_f x0 = some y → PFn prog g_a_f ((AV.agg (zH x0)) :: caps_a_f) (AV.lit (.bool y))) {r : Int} (h : zAi a_s a_f = some r) : PFn prog 126 [(ls zH a_s), (AV.clo g_a_f caps_a_f)] (li r) := by
 refine zq func126 rfl ntmps126 results126 rfl ?_
 unfold zAi at h
 refine zI<|zC<|zA (zD rfl)<|zF ?_
 refine zx (fun e' H'=>Rep 19 0 e' H' (mkE []) []∧zAs  = some r) ?_ ?_
 ·
  refine zI<|zC<|zA (zB rfl)<|zA (zX underlying24 rfl)<|zA (zB rfl)<|zF ?_
  refine zQ<|z6 (σ:=Nat×Int) (fun s=>s.1) (fun s e' H'=>match s with | (n0,i1)=>Rep 19 0 e' H' (mkE [(0,(ls zH a_s)),(1,(AV.clo g_a_f caps_a_f)),(7,(li (a_s.length:Int))),(8,(li i1))]) []∧zAA a_s a_f n0 i1=some r) (z9,0) ⟨zBe (n:=19) (m:=0) [] (l:=[(0,(ls zH a_s)),(1,(AV.clo g_a_f caps_a_f)),(7,(li (a_s.length:Int))),(8,(li 0))]) ⟨⟨Sub.refl _,by kernel_rfl⟩,⟨zEj hnr_a_f,zEk hnr_a_f⟩,⟨Sub.refl _,by kernel_rfl⟩,⟨Sub.refl _,by kernel_rfl⟩,trivial⟩ rfl rfl trivial,h⟩ ?_
  clear h
  rintro ⟨n0,i1⟩ e' H' ⟨hrep,h⟩
  cases n0 with
  | zero=>exact absurd (show (none:Option _)=some r from h) (by simp)
  | succ n0 =>
   replace h:zAB a_s a_f (zAA a_s a_f n0) i1=some r:=h
   unfold zAB at h
   refine zV hrep ?_
   clear hrep
   refine zI<|zC<|zA (ze rfl rfl)<|zF<|zI ?_
   refine zY h rfl (fun hb1 h => ?_) (fun hb1 h => ?_)
   ·refine zP<|zI<|zQ<|zI<|zC<|zA (zB rfl) ?_
    refine zA (zD rfl)<|zF<|zI<|zC<|zA (zB rfl)<|zA (zB rfl) ?_
    refine zA (zB rfl)<|zM h fun hb2 h=>zA (zU underlying24 sizeOf55 (fun _=>rfl) rfl rfl hb2)<|zA (zAb (row:=(zH (at_ a_s i1))) (o:=0) (m:=1) (la:=(zH (at_ a_s i1))) isAgg55 sizeOf55 rfl rfl rfl)<|zR h fun x1 hx1 h=>zAw (S:=[]) hcf_a_f hcb_a_f hcn_a_f (.clo (caps:=caps_a_f) rfl) rfl (zDY.c (zAt.nr rfl) (zDY.nrs hnr_a_f)) (hg_a_f hx1) (.inl rfl) rfl ?_
    refine zF ?_
    refine zY h rfl (fun hb3 h => ?_) (fun hb3 h => ?_)
    ·refine zI<|zC<|zA (zB rfl)<|zA (zD rfl)<|zF<|zb ?_
     show zAQ _ _ _ _ _ _
     obtain rfl:=Option.some.inj h
     exact zu (zAM rfl rfl)
    ·refine zP<|zC<|zM h fun hb4 h=>zA (zf rfl rfl hb4)<|zA (zB rfl)<|zF ?_
     exact ⟨(n0,(i1+1)),Nat.lt_succ_self _,zBe (n:=19) (m:=0) [] (l:=[(0,(ls zH a_s)),(1,(AV.clo g_a_f caps_a_f)),(7,(li (a_s.length:Int))),(8,(li (i1+1)))]) ⟨⟨Sub.refl _,by kernel_rfl⟩,⟨zEj hnr_a_f,zEk hnr_a_f⟩,⟨Sub.refl _,by kernel_rfl⟩,⟨Sub.refl _,by kernel_rfl⟩,trivial⟩ rfl rfl trivial,h⟩
   ·refine zy ?_
    exact ⟨zAE [] rfl rfl (by kernel_rfl),h⟩
 ·
  clear h
  rintro e' H' ⟨hrep,h⟩
  refine zV hrep ?_
  clear hrep
  unfold zAs at h
  refine zI<|zC<|zA (zD rfl)<|zF<|zb ?_
  show zAQ _ _ _ _ _ _
  obtain rfl:=Option.some.inj h
  exact zu (zAM rfl rfl)
theorem zKU {a_a:zJ} {a_z:Int} {a_frame:Int} {r:Int} (h:zEW a_a a_z a_frame=some r):PFn prog 74 [(AV.agg (zG a_a)),li a_z,li a_frame] (li r):=by
 refine zq func74 rfl ntmps74 results74 rfl ?_
 unfold zEW at h
 refine zI<|zC<|za (H':=[.box 26 (zG a_a)]) (zw (t:=26) rfl)<|za (H':=[.box 26 (zG a_a),.box 3 [li a_z]]) (zI6 (t:=3) (a:=(li a_z)) rfl rfl)<|za (H':=[.box 26 (zG a_a),.box 3 [li a_z],.box 3 [li a_frame]]) (zI6 (t:=3) (a:=(li a_frame)) rfl rfl)<|zA (zD rfl) ?_
 refine zF<|zI<|zC<|zA (zK underlying26 rfl rfl sizeOf24 rfl)<|zA (zN isAgg24 rfl rfl rfl rfl)<|zA (zK4 (la:=[AV.ptr 1 0,AV.ptr 2 0]) rfl) ?_
 refine zR h fun x1 hx1 h=>zAw (r':=(li x1)) (la:=[ls zH a_a.caches,(AV.clo 127 [AV.ptr 1 0,AV.ptr 2 0])]) (la':=[ls zH a_a.caches,(AV.clo 127 [(AV.rp [li a_z] 0),(AV.rp [li a_frame] 0)])]) (r:=(li x1)) (S:=[1,2]) func126 rfl (by kernel_rfl) (.fn 126) rfl ⟨zAt.nr rfl,zAt.clo (⟨zAt.ptr (cs:=[li a_z]) rfl rfl rfl,zAt.ptr (cs:=[li a_frame]) rfl rfl rfl,trivial⟩),trivial⟩ (zDp func127 rfl (by kernel_rfl) rfl (fun hy=>zJm  hy) hx1) (.inr trivial) rfl<|zA (zD rfl)<|zF<|zb ?_
 show zAQ _ _ _ _ _ _
 obtain rfl:=Option.some.inj h
 exact zu (zAM rfl rfl)
theorem zJA {a_a:zJ} {a_z:Int} {a_frame:Int} {r:Bool} (h:zEg a_a a_z a_frame=some r):PFn prog 50 [(AV.agg (zG a_a)),li a_z,li a_frame] (AV.lit (.bool r)):=by
 refine zq func50 rfl ntmps50 results50 rfl ?_
 unfold zEg at h
 refine zI<|zC<|za (H':=[.box 26 (zG a_a)]) (zw (t:=26) rfl)<|zA (zD rfl)<|zF<|zI ?_
 refine zC<|zA (zK underlying26 rfl rfl sizeOf23 rfl)<|zA (zN isAgg23 rfl rfl rfl rfl)<|zA (zB rfl)<|zM h fun hb1 h=>zA (zU underlying23 sizeOf51 (fun _=>rfl) rfl rfl hb1) ?_
 refine zA (zAb (row:=(zO (at_ a_a.zones a_z))) (o:=0) (m:=10) (la:=(zO (at_ a_a.zones a_z))) isAgg51 sizeOf51 rfl rfl rfl)<|zA (zB rfl)<|zR h fun x1 hx1 h=>zi func45 rfl (by kernel_rfl) (.fn 45) rfl rfl (zJn hx1) rfl<|zA (zB rfl)<|zT rfl rfl (fun hc1=>zt.step (zS (k:=0) (o:=0) (m:=5) isAgg26 sizeOf26 rfl rfl rfl rfl rfl)) ?_
 refine zT rfl rfl (fun hc2=>zt.step (zB rfl))<|zT rfl rfl (fun hc3=>zt.step (zB rfl))<|zR h fun x2 hx2 h=>zCA (g:=14) (s:=x1) (r':=(li x2)) rfl rfl (fun hc4=>⟨74,_,_,[],[(AV.agg (zG a_a)),li a_z,li a_frame],[(AV.agg (zG a_a)),li a_z,li a_frame],li x2,[],func74,rfl,by kernel_rfl,.fn 74,(zAK (z5 rfl hc4) (zAK (z5 rfl hc4) (zAK (z5 rfl hc4) rfl))),⟨zAt.nr rfl,zAt.nr rfl,zAt.nr rfl,trivial⟩,zKU (zF3 hc4 hx2),.inl rfl,rfl⟩)<|zT rfl rfl (fun hc5=>zt.step (zAp (z5 rfl hc5) rfl))<|zA (zd rfl rfl) ?_
 refine zA (zD rfl)<|zF<|zb ?_
 show zAQ _ _ _ _ _ _
 obtain rfl:=Option.some.inj h
 exact zu (zAM rfl rfl)
theorem zIM {a_a:zJ} {a_frame:Int} {r:Bool} (h:zFx a_a a_frame=some r):PFn prog 19 [(AV.agg (zG a_a)),li a_frame] (AV.lit (.bool r)):=by
 refine zq func19 rfl ntmps19 results19 rfl ?_
 unfold zFx at h
 refine zI<|zC<|za (H':=[.box 26 (zG a_a)]) (zw (t:=26) rfl)<|zA (zD rfl)<|zF<|zI ?_
 refine zI<|zC<|zA (zS (k:=0) (o:=0) (m:=5) isAgg26 sizeOf26 rfl rfl rfl rfl rfl)<|zR h fun x1 hx1 h=>zi func13 rfl (by kernel_rfl) (.fn 13) rfl rfl (zA3 hx1) rfl<|zA (z7 rfl rfl) ?_
 refine zF ?_
 refine zY h rfl (fun hb1 h => ?_) (fun hb1 h => ?_)
 ·refine zI<|zC<|zA (zD rfl)<|zF<|zb ?_
  show zAQ _ _ _ _ _ _
  obtain rfl:=Option.some.inj h
  exact zu (zAM rfl rfl)
 ·refine zP<|zI<|zC<|zA (zS (k:=0) (o:=0) (m:=5) isAgg26 sizeOf26 rfl rfl rfl rfl rfl)<|zA (zB rfl)<|zR h fun x2 hx2 h => ?_
  refine zi func44 rfl (by kernel_rfl) (.fn 44) rfl rfl (zFW hx2) rfl<|zA (zD rfl)<|zF<|zI<|zC<|zA (zB rfl) ?_
  refine zA (zAp rfl rfl)<|zA (zB rfl)<|zo rfl rfl (fun hc1=>zt.step (zS (k:=0) (o:=0) (m:=5) isAgg26 sizeOf26 rfl rfl rfl rfl rfl))<|zo rfl rfl (fun hc2=>zt.step (zB rfl))<|zo rfl rfl (fun hc3=>zt.step (zB rfl))<|zR h fun x3 hx3 h => ?_
  refine zCp (g:=14) (s:=decide (0≤x2)) (r':=(AV.lit (.bool x3))) rfl rfl (fun hc4=>⟨50,_,_,[],[(AV.agg (zG a_a)),li x2,li a_frame],[(AV.agg (zG a_a)),li x2,li a_frame],(AV.lit (.bool x3)),[],func50,rfl,by kernel_rfl,.fn 50,(zAK (z5 rfl hc4) (zAK (z5 rfl hc4) (zAK (z5 rfl hc4) rfl))),⟨zAt.nr rfl,zAt.nr rfl,zAt.nr rfl,trivial⟩,zJA (zF3 hc4 hx3),.inl rfl,rfl⟩)<|zA (zz (j := .lit undef) rfl rfl)<|zA (zD rfl)<|zF<|zb ?_
  show zAQ _ _ _ _ _ _
  obtain rfl:=Option.some.inj h
  exact zu (zAM rfl rfl)
theorem zKm {a_a:zJ} {a_z:Int} {r:Int} (h:zIH a_a a_z=some r):PFn prog 21 [(AV.agg (zG a_a)),li a_z] (li r):=by
 refine zq func21 rfl ntmps21 results21 rfl ?_
 unfold zIH at h
 refine zI<|zC<|za (H':=[.box 26 (zG a_a)]) (zw (t:=26) rfl)<|zA (zD rfl)<|zF<|zI ?_
 refine zI<|zC<|zA (zS (k:=0) (o:=0) (m:=5) isAgg26 sizeOf26 rfl rfl rfl rfl rfl)<|zR h fun x1 hx1 h=>zi func13 rfl (by kernel_rfl) (.fn 13) rfl rfl (zA3 hx1) rfl<|zA (z7 rfl rfl) ?_
 refine zA (zB rfl)<|zT rfl rfl (fun hc1=>zt.step (zB rfl))<|zT rfl rfl (fun hc2=>zt.step (ze (z5 rfl hc2) rfl))<|zA (zd rfl rfl)<|zA (zB rfl)<|zT rfl rfl (fun hc3=>zt.step (zB rfl)) ?_
 refine zT rfl rfl (fun hc4=>zt.step (zK underlying26 rfl rfl sizeOf23 rfl))<|zT rfl rfl (fun hc5=>zt.step (zN isAgg23 (z5 rfl hc5) rfl rfl rfl))<|zT rfl rfl (fun hc6=>zt.step (zX underlying23 (z5 rfl hc6)))<|zT rfl rfl (fun hc7=>zt.step (zAp (z5 rfl hc7) (z5 rfl hc7)))<|zA (zd rfl rfl)<|zF ?_
 refine zY h rfl (fun hb1 h => ?_) (fun hb1 h => ?_)
 ·refine zI<|zC<|zA (zD rfl)<|zF<|zb ?_
  show zAQ _ _ _ _ _ _
  obtain rfl:=Option.some.inj h
  exact zu (zAM rfl rfl)
 ·refine zP<|zI<|zC<|zA (zS (k:=0) (o:=0) (m:=5) isAgg26 sizeOf26 rfl rfl rfl rfl rfl)<|zA (zB rfl)<|zR h fun x2 hx2 h => ?_
  refine zi func52 rfl (by kernel_rfl) (.fn 52) rfl rfl (zGH hx2) rfl<|zA (zD rfl)<|zF<|zb ?_
  show zAQ _ _ _ _ _ _
  obtain rfl:=Option.some.inj h
  exact zu (zAM rfl rfl)
theorem zLF {a_a:zJ} {a_frame:Int} {r:Int} (h:zIg a_a a_frame=some r):PFn prog 17 [(AV.agg (zG a_a)),li a_frame] (li r):=by
 refine zq func17 rfl ntmps17 results17 rfl ?_
 unfold zIg at h
 refine zI<|zC<|za (H':=[.box 26 (zG a_a)]) (zw (t:=26) rfl)<|zA (zD rfl)<|zF<|zI ?_
 refine zI<|zC<|zA (zS (k:=0) (o:=0) (m:=5) isAgg26 sizeOf26 rfl rfl rfl rfl rfl)<|zR h fun x1 hx1 h=>zi func13 rfl (by kernel_rfl) (.fn 13) rfl rfl (zA3 hx1) rfl<|zA (z7 rfl rfl) ?_
 refine zF ?_
 refine zY h rfl (fun hb1 h => ?_) (fun hb1 h => ?_)
 ·refine zI<|zC<|zA (zD rfl)<|zF<|zb ?_
  show zAQ _ _ _ _ _ _
  obtain rfl:=Option.some.inj h
  exact zu (zAM rfl rfl)
 ·refine zP<|zI<|zC<|zA (zS (k:=0) (o:=0) (m:=5) isAgg26 sizeOf26 rfl rfl rfl rfl rfl)<|zA (zB rfl)<|zR h fun x2 hx2 h => ?_
  refine zi func44 rfl (by kernel_rfl) (.fn 44) rfl rfl (zFW hx2) rfl<|zA (zD rfl)<|zF<|zb ?_
  show zAQ _ _ _ _ _ _
  obtain rfl:=Option.some.inj h
  exact zu (zAM rfl rfl)
theorem zKv {a_p0:zL} {a_p1:Int} {a_p2:Int} {a_p3:Int} {a_p4:Int} {r:zL×(List Int)×Int} (h:zH3 a_p0 a_p1 a_p2 a_p3 a_p4=some r):PFn prog 67 [(AV.agg (zH a_p0)),li a_p1,li a_p2,li a_p3,li a_p4] (AV.tup [(AV.agg (zH r.1)),ls cI r.2.1,li r.2.2]):=by
 refine zq func67 rfl ntmps67 results67 rfl ?_
 unfold zH3 at h
 refine zI<|zC<|za (H':=[.box 55 (zH a_p0)]) (zw (t:=55) rfl)<|za (H':=[.box 55 (zH a_p0),.box 55 [(ls (cS cI) ([]:List (List Int)))]]) (zv (t:=55) (vs:=[.slice none 0 0]) (cs:=[.sl false []]) zeroValue55 (by kernel_rfl) rfl ⟨zh.nils,trivial⟩)<|zA (zD rfl)<|zA (zD rfl) ?_
 refine zF<|zI<|zI<|zC<|zA (zS (k:=0) (o:=0) (m:=1) isAgg55 sizeOf55 rfl rfl rfl rfl rfl)<|zA (zB rfl) ?_
 refine zR h fun x1 hx1 h=>zi func111 rfl (by kernel_rfl) (.fn 111) rfl rfl (zGn hx1) rfl<|zA (zD rfl)<|zF<|zI<|zC ?_
 refine zA (zB rfl)<|zA (z7 rfl rfl)<|zF ?_
 refine zY h rfl (fun hb1 h => ?_) (fun hb1 h => ?_)
 ·refine zI<|zC<|zA (z8 (pl:=[(0,1)]) (zs:=[.slice none 0 0]) (zc:=[.sl false []]) (res:=(zH (⟨([]:List (List Int))⟩:zL))) (fun _=>by kernel_rfl) rfl (⟨zh.nils,trivial⟩) (by exact zFX.refl _))<|zA (zB rfl)<|zm (H':=[.box 55 (zH a_p0),.box 55 (zH (⟨([]:List (List Int))⟩:zL))]) (zZ (k:=1) (o:=0) (cs:=[(ls (cS cI) ([]:List (List Int)))]) (la:=(zH (⟨([]:List (List Int))⟩:zL))) sizeOf55 rfl rfl rfl rfl)<|zA (zD rfl) ?_
  refine zA (zD rfl)<|zF<|zb ?_
  show zAQ _ _ _ _ _ _
  obtain rfl:=Option.some.inj h
  exact zC6 (zFa isAgg55 sizeOf55 rfl rfl rfl rfl) (zHs (zAM rfl rfl) zh.nils) (zAM rfl rfl) rfl
 ·refine zP<|zI<|zI<|zC<|zA (zB rfl)<|zR h fun x2 hx2 h => ?_
  refine zi func88 rfl (by kernel_rfl) (.fn 88) rfl rfl (zHA hx2) rfl<|zA (zA6 (t:=x2) rfl)<|zF ?_
  refine zY h rfl (fun hb2 h => ?_) (fun hb2 h => ?_)
  ·refine zI<|zC<|zA (z8 (pl:=[(0,1)]) (zs:=[.slice none 0 0]) (zc:=[.sl false []]) (res:=(zH (⟨([]:List (List Int))⟩:zL))) (fun _=>by kernel_rfl) rfl (⟨zh.nils,trivial⟩) (by exact zFX.refl _))<|zm (H':=[.box 55 (zH a_p0),.box 55 (zH (⟨([]:List (List Int))⟩:zL))]) (zZ (k:=1) (o:=0) (cs:=[(ls (cS cI) ([]:List (List Int)))]) (la:=(zH (⟨([]:List (List Int))⟩:zL))) sizeOf55 rfl rfl rfl rfl)<|zA (zD rfl)<|zA (zD rfl) ?_
   refine zF<|zb ?_
   show zAQ _ _ _ _ _ _
   obtain rfl:=Option.some.inj h
   exact zC6 (zFa isAgg55 sizeOf55 rfl rfl rfl rfl) (zHs (zAM rfl rfl) zh.nils) (zAM rfl rfl) rfl
  ·refine zP<|zI<|zI<|zC<|zA (zB rfl)<|zA (ze rfl rfl) ?_
   refine zA (zB rfl)<|zT rfl rfl (fun hc1=>zt.step (zB rfl))<|zT rfl rfl (fun hc2=>zt.step (zB rfl))<|zT rfl rfl (fun hc3=>zt.step (zAl (z5 rfl hc3) (z5 rfl hc3)))<|zA (zd rfl rfl)<|zF ?_
   refine zY h rfl (fun hb3 h => ?_) (fun hb3 h => ?_)
   ·refine zI<|zC<|zA (z8 (pl:=[(0,1)]) (zs:=[.slice none 0 0]) (zc:=[.sl false []]) (res:=(zH (⟨([]:List (List Int))⟩:zL))) (fun _=>by kernel_rfl) rfl (⟨zh.nils,trivial⟩) (by exact zFX.refl _))<|zm (H':=[.box 55 (zH a_p0),.box 55 (zH (⟨([]:List (List Int))⟩:zL))]) (zZ (k:=1) (o:=0) (cs:=[(ls (cS cI) ([]:List (List Int)))]) (la:=(zH (⟨([]:List (List Int))⟩:zL))) sizeOf55 rfl rfl rfl rfl)<|zA (zD rfl)<|zA (zD rfl) ?_
    refine zF<|zb ?_
    show zAQ _ _ _ _ _ _
    obtain rfl:=Option.some.inj h
    exact zC6 (zFa isAgg55 sizeOf55 rfl rfl rfl rfl) (zHs (zAM rfl rfl) zh.nils) (zAM rfl rfl) rfl
   ·refine zP<|zI<|zI<|zC<|zA (zS (k:=0) (o:=0) (m:=1) isAgg55 sizeOf55 rfl rfl rfl rfl rfl)<|zR h fun x3 hx3 h => ?_
    refine zMT (es:=mI Value.bool x3) (la:=[(AV.agg (zH a_p0))]) (la':=[(AV.agg (zH a_p0))]) (S:=[]) func89 rfl (by kernel_rfl) (.fn 89) rfl ⟨zAt.nr rfl,trivial⟩ (zHm hx3)<|zA (zB rfl)<|zA (zMK (k:=2) (g:=Value.bool) (q:=a_p2) (l:=x3) (dflt:=false) (a:=(AV.lit (.bool (zLE false x3 a_p2)))) underlying58 underlying3 zeroValue4 rfl rfl rfl rfl)<|zF ?_
    refine zY h rfl (fun hb4 h => ?_) (fun hb4 h => ?_)
    ·refine zI<|zC<|zA (z8 (pl:=[(0,1)]) (zs:=[.slice none 0 0]) (zc:=[.sl false []]) (res:=(zH (⟨([]:List (List Int))⟩:zL))) (fun _=>by kernel_rfl) rfl (⟨zh.nils,trivial⟩) (by exact zFX.refl _))<|zm (H':=[.box 55 (zH a_p0),.box 55 (zH (⟨([]:List (List Int))⟩:zL)),.map (mI Value.bool x3)]) (zZ (k:=1) (o:=0) (cs:=[(ls (cS cI) ([]:List (List Int)))]) (la:=(zH (⟨([]:List (List Int))⟩:zL))) sizeOf55 rfl rfl rfl rfl)<|zA (zD rfl)<|zA (zD rfl) ?_
     refine zF<|zb ?_
     show zAQ _ _ _ _ _ _
     obtain rfl:=Option.some.inj h
     exact zC6 (zFa isAgg55 sizeOf55 rfl rfl rfl rfl) (zHs (zAM rfl rfl) zh.nils) (zAM rfl rfl) rfl
    ·refine zP<|zI<|zM h fun hb5 h=>zM h fun hb6 h=>zM h fun hb7 h => ?_
     show AW _ _ _ _ _ _ [.box 55 (zH a_p0),.box 55 [(ls (cS cI) ([]:List (List Int)))],.map (mI Value.bool x3)]
     refine zAx (n:=85) (m:=0) [.head 0 0,.head 0 0,.head 0 0,.head 0 0,.head 0 0,.head 0 0,.head 0 0,.head 0 0,.head 0 0,.head 0 0,.head 0 0,.head 0 0,.head 0 0,.tail 0,.head 1 1] [13] [AV.ptr 0 0,(ls (cS cI) a_p0.lists),li a_p1,(AV.rp ((cS cI) (at_ a_p0.lists a_p1)) 0),(ls cI (at_ a_p0.lists a_p1)),(li ((at_ a_p0.lists a_p1).length:Int)),AV.ptr 0 0,(ls (cS cI) a_p0.lists),li a_p1,(AV.rp ((cS cI) (at_ a_p0.lists a_p1)) 0),(ls cI (at_ a_p0.lists a_p1)),(li ((at_ a_p0.lists a_p1).length:Int)),(li (((at_ a_p0.lists a_p1).length:Int)+1)),AV.hd 3,AV.hd 3] [[.box 55 (zH a_p0),.box 55 [(ls (cS cI) ([]:List (List Int)))],.map (mI Value.bool x3)],[.box 55 (zH a_p0),.box 55 [(ls (cS cI) ([]:List (List Int)))],.map (mI Value.bool x3),.vec 3 1 (List.map cI (List.replicate ((at_ a_p0.lists a_p1).length:Int).toNat 0))]] (by kernel_rfl) (by kernel_rfl) ⟨?_,?_,?_,?_,?_,?_,?_,?_,?_,?_,?_,?_,?_,?_,?_,trivial⟩ ?_
     ·exact D1 fun e s p=>zK (k:=0) (o:=0) (off:=0) underlying55 rfl rfl sizeOf53 (s 5 rfl)
     ·exact D1 fun e s p=>zN (k:=0) (o:=0) isAgg53 p.1 rfl rfl rfl
     ·exact D1 fun e s p=>zB (s 1 rfl)
     ·exact D1 fun e s p=>zU (f:=(cS cI)) (l:=a_p0.lists) (i:=a_p1) underlying53 sizeOf22 (fun _=>rfl) p.1 p.2.1 hb5
     ·exact D1 fun e s p=>zW (o:=0) isAgg22 p.1 rfl
     ·exact D1 fun e s p=>zX (f:=cI) (l:=at_ a_p0.lists a_p1) underlying22 p.1
     ·exact D1 fun e s p=>zK (k:=0) (o:=0) (off:=0) underlying55 rfl rfl sizeOf53 (s 5 rfl)
     ·exact D1 fun e s p=>zN (k:=0) (o:=0) isAgg53 p.1 rfl rfl rfl
     ·exact D1 fun e s p=>zB (s 1 rfl)
     ·exact D1 fun e s p=>zU (f:=(cS cI)) (l:=a_p0.lists) (i:=a_p1) underlying53 sizeOf22 (fun _=>rfl) p.1 p.2.1 hb5
     ·exact D1 fun e s p=>zW (o:=0) isAgg22 p.1 rfl
     ·exact D1 fun e s p=>zX (f:=cI) (l:=at_ a_p0.lists a_p1) underlying22 p.1
     ·exact D1 fun e s p=>zf (a:=((at_ a_p0.lists a_p1).length:Int)) (b:=1) p.1 rfl hb6
     ·
      intro e14 hs14 hp14
      refine zDy (f:=cI) (a:=((at_ a_p0.lists a_p1).length:Int)) (c:=((at_ a_p0.lists a_p1).length:Int)+1) (d0:=0) zGe ⟨zh.refl _,trivial⟩ rfl underlying22 hp14.1 hp14.2.1 hb7 ?_
      exact zF ⟨fun _=>rfl,rfl⟩
     ·exact D1 fun e s p=>zD p.2.2.2.2.2.2.2.2.2.2.2.2.2.2.1
     intro e16 hs16 hq1
     refine zV (zBY (l:=[(1,(li a_p1)),(2,(li a_p2)),(3,(li a_p3)),(4,(li a_p4)),(5,(AV.ptr 0 0)),(10,(AV.ptr 1 0)),(14,(AV.hd 3))]) ⟨hs16 1 rfl,hs16 2 rfl,hs16 3 rfl,hs16 4 rfl,hs16 5 rfl,hs16 10 rfl,(hq1 14 (by decide) (by decide)),trivial⟩)<|zI<|zC<|zA (zB (av:=(AV.hd 3)) rfl)<|zA (zK (k:=0) (o:=0) (off:=0) underlying55 rfl rfl sizeOf53 rfl)<|zA (zN (k:=0) (o:=0) (a:=(ls (cS cI) a_p0.lists)) isAgg53 rfl rfl rfl rfl) ?_
     refine zA (zB rfl)<|zA (zU underlying53 sizeOf22 (fun _=>rfl) rfl rfl hb5)<|zA (zW (o:=0) isAgg22 rfl rfl)<|za (H':=[.box 55 (zH a_p0),.box 55 [(ls (cS cI) ([]:List (List Int)))],.map (mI Value.bool x3),.vec 3 1 (List.map cI (zCO (List.replicate ((at_ a_p0.lists a_p1).length:Int).toNat 0) (at_ a_p0.lists a_p1)))]) (zKH (f:=cI) (k:=3) (l:=List.replicate ((at_ a_p0.lists a_p1).length:Int).toNat 0) (l2:=at_ a_p0.lists a_p1) underlying22 sizeOf3 (fun _=>rfl) rfl rfl rfl)<|zF<|zI ?_
     refine zC<|zA (zB rfl)<|zA (zB rfl)<|zGP (a:=(li a_p2)) zGe underlying22 rfl rfl rfl rfl<|zM h fun hb8 h=>zDK (f:=cI) (k:=3) (j:=4) (l:=zCO (List.replicate ((at_ a_p0.lists a_p1).length:Int).toNat 0) (at_ a_p0.lists a_p1)) (l':=[a_p2]) zGe (fun _=>rfl) underlying22 rfl rfl rfl rfl hb8 ?_
     refine zA (zD rfl)<|zF<|zI<|zI<|zC<|zA (zB rfl) ?_
     refine zA (zDx (f:=cI) (l:=(zCO (List.replicate ((at_ a_p0.lists a_p1).length:Int).toNat 0) (at_ a_p0.lists a_p1))++[a_p2]) underlying22 rfl rfl)<|zA (zB rfl)<|zA (zCi rfl rfl)<|zF ?_
     refine zY h rfl (fun hb9 h => ?_) (fun hb9 h => ?_)
     ·refine zI<|zC<|zA (zS (k:=0) (o:=0) (m:=1) isAgg55 sizeOf55 rfl rfl rfl rfl rfl)<|zA (zB rfl)<|zA (zB rfl)<|zR h fun x4 hx4 h => ?_
      refine zAF (zET (j:=5) (ds:=[14,64,65,71]) (rows':=List.map cI ((zCO (List.replicate ((at_ a_p0.lists a_p1).length:Int).toNat 0) (at_ a_p0.lists a_p1))++[a_p2])) rfl (zAP (fun _=>rfl)) ⟨rfl,rfl,rfl,rfl,trivial⟩)<|zR h fun x5 hx5 h=>zi func112 rfl (by kernel_rfl) (.fn 112) rfl rfl (zD2 hx5) rfl<|zm (H':=[.box 55 (zH a_p0),.box 55 (zH x5),.map (mI Value.bool x3),.dead,.vec 3 1 (List.map cI [a_p2]),.dead]) (zZ (k:=1) (o:=0) (cs:=[(ls (cS cI) ([]:List (List Int)))]) (la:=(zH x5)) sizeOf55 rfl rfl rfl rfl)<|zA (zD rfl)<|zA (zD rfl) ?_
      refine zF<|zb ?_
      show zAQ _ _ _ _ _ _
      obtain rfl:=Option.some.inj h
      exact zC6 (zFa isAgg55 sizeOf55 rfl rfl rfl rfl) (zHs (zAM rfl rfl) zh.nils) (zAM rfl rfl) rfl
     ·refine zP<|zI<|zC<|zA (zB rfl)<|zM h fun hb10 h=>zDy (f:=cI) (a:=a_p3) (c:=a_p3) (d0:=0) zGe ⟨zh.refl _,trivial⟩ rfl underlying22 rfl rfl hb10 ?_
      refine zA (zD rfl)<|zF<|zI<|zC<|zA (zB rfl)<|zA (zB rfl) ?_
      refine za (H':=[.box 55 (zH a_p0),.box 55 [(ls (cS cI) ([]:List (List Int)))],.map (mI Value.bool x3),.dead,.vec 3 1 (List.map cI [a_p2]),.vec 3 1 (List.map cI ((zCO (List.replicate ((at_ a_p0.lists a_p1).length:Int).toNat 0) (at_ a_p0.lists a_p1))++[a_p2])),.vec 3 1 (List.map cI (zCO (List.replicate a_p3.toNat 0) ((zCO (List.replicate ((at_ a_p0.lists a_p1).length:Int).toNat 0) (at_ a_p0.lists a_p1))++[a_p2])))]) (zOp (f:=cI) (k:=6) (j:=5) (l:=List.replicate a_p3.toNat 0) (l2:=(zCO (List.replicate ((at_ a_p0.lists a_p1).length:Int).toNat 0) (at_ a_p0.lists a_p1))++[a_p2]) underlying22 sizeOf3 (fun _=>rfl) rfl rfl rfl rfl)<|zF<|zI<|zV (zET (j:=5) (ds:=[14,64,65,76]) (rows':=List.map cI ((zCO (List.replicate ((at_ a_p0.lists a_p1).length:Int).toNat 0) (at_ a_p0.lists a_p1))++[a_p2])) rfl (zAP (fun _=>rfl)) ⟨rfl,rfl,rfl,rfl,trivial⟩)<|zM h fun hb11 h=>zR h fun x6 hx6 h => ?_
      show AW _ _ _ _ _ _ [.box 55 (zH a_p0),.box 55 [(ls (cS cI) ([]:List (List Int)))],.map (mI Value.bool x3),.dead,.vec 3 1 (List.map cI [a_p2]),.dead,.vec 3 1 (List.map cI (zCO (List.replicate a_p3.toNat 0) ((zCO (List.replicate ((at_ a_p0.lists a_p1).length:Int).toNat 0) (at_ a_p0.lists a_p1))++[a_p2])))]
      refine zAx (n:=85) (m:=0) [.head 0 0,.head 0 0,.head 0 0,.head 0 0,.head 0 0,.head 0 0,.head 0 1,.tail 0,.head 1 1,.head 1 1] [7] [(AV.agg (zH a_p0)),li a_p1,(ls cI ((zCO (List.replicate ((at_ a_p0.lists a_p1).length:Int).toNat 0) (at_ a_p0.lists a_p1))++[a_p2])),li a_p3,(ls cI (zGB ((zCO (List.replicate ((at_ a_p0.lists a_p1).length:Int).toNat 0) (at_ a_p0.lists a_p1))++[a_p2]) a_p3 (((zCO (List.replicate ((at_ a_p0.lists a_p1).length:Int).toNat 0) (at_ a_p0.lists a_p1))++[a_p2]).length:Int))),(AV.agg (zH x6)),AV.hd 6,.any,AV.hd 6,li 0] [[.box 55 (zH a_p0),.box 55 [(ls (cS cI) ([]:List (List Int)))],.map (mI Value.bool x3),.dead,.vec 3 1 (List.map cI [a_p2]),.dead,.vec 3 1 (List.map cI (zCO (List.replicate a_p3.toNat 0) ((zCO (List.replicate ((at_ a_p0.lists a_p1).length:Int).toNat 0) (at_ a_p0.lists a_p1))++[a_p2])))],[.box 55 (zH a_p0),.box 55 (zH x6),.map (mI Value.bool x3),.dead,.vec 3 1 (List.map cI [a_p2]),.dead,.vec 3 1 (List.map cI (zCO (List.replicate a_p3.toNat 0) ((zCO (List.replicate ((at_ a_p0.lists a_p1).length:Int).toNat 0) (at_ a_p0.lists a_p1))++[a_p2])))]] (by kernel_rfl) (by kernel_rfl) ⟨?_,?_,?_,?_,?_,?_,⟨?_,?_⟩,?_,?_,?_,trivial⟩ ?_
      ·exact D1 fun e s p=>zS (k:=0) (o:=0) (m:=1) isAgg55 sizeOf55 (s 5 rfl) rfl rfl rfl rfl
      ·exact D1 fun e s p=>zB (s 1 rfl)
      ·exact D1 fun e s p=>zB (s 14 rfl)
      ·exact D1 fun e s p=>zB (s 3 rfl)
      ·exact D1 fun e s p=>zMQ (lo:=a_p3) (f:=cI) (l:=(zCO (List.replicate ((at_ a_p0.lists a_p1).length:Int).toNat 0) (at_ a_p0.lists a_p1))++[a_p2]) underlying22 sizeOf3 (fun _=>rfl) p.1 p.2.1 hb11
      ·
       intro e22 hs22 hp21
       refine zi (r:=(AV.agg (zH x6))) (la:=[(AV.agg (zH a_p0)),li a_p1,(ls cI (zGB ((zCO (List.replicate ((at_ a_p0.lists a_p1).length:Int).toNat 0) (at_ a_p0.lists a_p1))++[a_p2]) a_p3 (((zCO (List.replicate ((at_ a_p0.lists a_p1).length:Int).toNat 0) (at_ a_p0.lists a_p1))++[a_p2]).length:Int)))]) func112 rfl (by kernel_rfl) (.fn 112) (zAK hp21.1 (zAK hp21.2.1 (zAK hp21.2.2.1 rfl))) rfl (zD2 hx6) rfl ?_
       exact zF ⟨fun _=>rfl,rfl⟩
      ·exact D1 fun e s p=>zB (s 15 rfl)
      ·exact D1 fun e s p=>zB (s 15 rfl)
      ·
       intro e25 hs25 hp24
       refine zm (H':=[.box 55 (zH a_p0),.box 55 (zH x6),.map (mI Value.bool x3),.dead,.vec 3 1 (List.map cI [a_p2]),.dead,.vec 3 1 (List.map cI (zCO (List.replicate a_p3.toNat 0) ((zCO (List.replicate ((at_ a_p0.lists a_p1).length:Int).toNat 0) (at_ a_p0.lists a_p1))++[a_p2])))]) (zZ (k:=1) (o:=0) (cs:=[(ls (cS cI) ([]:List (List Int)))]) (la:=(zH x6)) sizeOf55 (by exact (hs25 10 rfl)) rfl rfl (by exact hp24.2.2.2.2.2.2.2.1)) ?_
       exact zF ⟨fun _=>rfl,rfl⟩
      ·exact D1 fun e s p=>zD p.2.2.2.2.2.2.2.2.1
      ·exact D1 fun e s p=>zD rfl
      intro e28 hs28 hq2
      refine zV (zBY (l:=[(10,(AV.ptr 1 0)),(11,(AV.hd 6)),(12,(li 0))]) ⟨hs28 10 rfl,(hq2 8 (by decide) (by decide)),(hq2 9 (by decide) (by decide)),trivial⟩)<|zV (zET (j:=6) (ds:=[11]) (rows':=List.map cI (zCO (List.replicate a_p3.toNat 0) ((zCO (List.replicate ((at_ a_p0.lists a_p1).length:Int).toNat 0) (at_ a_p0.lists a_p1))++[a_p2]))) rfl (zAP (fun _=>rfl)) ⟨rfl,trivial⟩)<|zb ?_
      show zAQ _ _ _ _ _ _
      obtain rfl:=Option.some.inj h
      exact zC6 (zFa isAgg55 sizeOf55 rfl rfl rfl rfl) (zAM rfl rfl) (zAM rfl rfl) rfl
theorem zI8 {a_p0:zJ} {a_p1:Int} {a_p2:Int} {r:zJ×Int} (h:zEh a_p0 a_p1 a_p2=some r):PFn prog 28 [(AV.agg (zG a_p0)),li a_p1,li a_p2] (AV.tup [(AV.agg (zG r.1)),li r.2]):=by
 refine zq func28 rfl ntmps28 results28 rfl ?_
 unfold zEh at h
 refine zI<|zC<|za (H':=[.box 26 (zG a_p0)]) (zw (t:=26) rfl)<|za (H':=[.box 26 (zG a_p0),.box 26 (zG ⟨[],0,0,[],[]⟩)]) (zv (t:=26) (vs:=[.slice none 0 0,.int .i64 0,.int .i64 0,.slice none 0 0,.slice none 0 0]) (cs:=[.sl false [],.lit (.int .i64 0),.lit (.int .i64 0),.sl false [],.sl false []]) zeroValue26 (by kernel_rfl) rfl ⟨zh.nils,zh.refl _,zh.refl _,zh.nils,zh.nils,trivial⟩)<|zA (zD rfl)<|zF ?_
 refine zI<|zI<|zC<|zA (zS (k:=0) (o:=0) (m:=5) isAgg26 sizeOf26 rfl rfl rfl rfl rfl)<|zR h fun x1 hx1 h=>zi func13 rfl (by kernel_rfl) (.fn 13) rfl rfl (zA3 hx1) rfl ?_
 refine zA (zD rfl)<|zF<|zI<|zC<|zA (zB rfl)<|zA (z7 rfl rfl) ?_
 refine zF ?_
 refine zY h rfl (fun hb1 h => ?_) (fun hb1 h => ?_)
 ·refine zI<|zC<|zA (z8 (pl:=[(0,1),(1,1),(2,1),(3,1),(4,1)]) (zs:=[.slice none 0 0,.int .i64 0,.int .i64 0,.slice none 0 0,.slice none 0 0]) (zc:=[.sl false [],.lit (.int .i64 0),.lit (.int .i64 0),.sl false [],.sl false []]) (res:=(zG (⟨([]:List Int),0,0,([]:List zp),([]:List zL)⟩:zJ))) (fun _=>by kernel_rfl) rfl (⟨zh.nils,⟨zh.refl _,⟨zh.refl _,⟨zh.nils,⟨zh.nils,trivial⟩⟩⟩⟩⟩) (by exact zFX.refl _))<|zA (zB rfl)<|zm (H':=[.box 26 (zG a_p0),.box 26 (zG (⟨([]:List Int),0,0,([]:List zp),([]:List zL)⟩:zJ))]) (zZ (k:=1) (o:=0) (cs:=(zG ⟨[],0,0,[],[]⟩)) (la:=(zG (⟨([]:List Int),0,0,([]:List zp),([]:List zL)⟩:zJ))) sizeOf26 rfl rfl rfl rfl)<|zA (zD rfl) ?_
  refine zF<|zb ?_
  show zAQ _ _ _ _ _ _
  obtain rfl:=Option.some.inj h
  exact zCR (zFa isAgg26 sizeOf26 rfl rfl rfl rfl) (zAM rfl rfl) rfl
 ·refine zP<|zI<|zC<|zA (zS (k:=0) (o:=0) (m:=5) isAgg26 sizeOf26 rfl rfl rfl rfl rfl)<|zA (zB rfl)<|zR h fun x2 hx2 h => ?_
  refine zi func44 rfl (by kernel_rfl) (.fn 44) rfl rfl (zFW hx2) rfl<|zA (zD rfl)<|zF<|zI<|zI<|zC ?_
  refine zA (zB rfl)<|zA (ze rfl rfl)<|zA (zB rfl)<|zT rfl rfl (fun hc1=>zt.step (zB rfl))<|zT rfl rfl (fun hc2=>zt.step (zK underlying26 rfl rfl sizeOf22 rfl))<|zT rfl rfl (fun hc3=>zt.step (zN isAgg22 (z5 rfl hc3) rfl rfl rfl)) ?_
  refine zT rfl rfl (fun hc4=>zt.step (zX underlying22 (z5 rfl hc4)))<|zT rfl rfl (fun hc5=>zt.step (zAp (z5 rfl hc5) (z5 rfl hc5)))<|zA (zd rfl rfl)<|zA (zB rfl)<|zT rfl rfl (fun hc6=>zt.step (zB rfl))<|zT rfl rfl (fun hc7=>zt.step (ze (z5 rfl hc7) rfl)) ?_
  refine zA (zd rfl rfl)<|zF ?_
  refine zY h rfl (fun hb2 h => ?_) (fun hb2 h => ?_)
  ·refine zI<|zC<|zA (z8 (pl:=[(0,1),(1,1),(2,1),(3,1),(4,1)]) (zs:=[.slice none 0 0,.int .i64 0,.int .i64 0,.slice none 0 0,.slice none 0 0]) (zc:=[.sl false [],.lit (.int .i64 0),.lit (.int .i64 0),.sl false [],.sl false []]) (res:=(zG (⟨([]:List Int),0,0,([]:List zp),([]:List zL)⟩:zJ))) (fun _=>by kernel_rfl) rfl (⟨zh.nils,⟨zh.refl _,⟨zh.refl _,⟨zh.nils,⟨zh.nils,trivial⟩⟩⟩⟩⟩) (by exact zFX.refl _))<|zm (H':=[.box 26 (zG a_p0),.box 26 (zG (⟨([]:List Int),0,0,([]:List zp),([]:List zL)⟩:zJ))]) (zZ (k:=1) (o:=0) (cs:=(zG ⟨[],0,0,[],[]⟩)) (la:=(zG (⟨([]:List Int),0,0,([]:List zp),([]:List zL)⟩:zJ))) sizeOf26 rfl rfl rfl rfl)<|zA (zD rfl)<|zF ?_
   refine zb ?_
   show zAQ _ _ _ _ _ _
   obtain rfl:=Option.some.inj h
   exact zCR (zFa isAgg26 sizeOf26 rfl rfl rfl rfl) (zAM rfl rfl) rfl
  ·refine zP<|zI<|zI<|zC<|zA (zS (k:=0) (o:=0) (m:=5) isAgg26 sizeOf26 rfl rfl rfl rfl rfl)<|zA (zB rfl) ?_
   refine zA (zB rfl)<|zR h fun x3 hx3 h=>zi func50 rfl (by kernel_rfl) (.fn 50) rfl rfl (zJA hx3) rfl<|zF ?_
   refine zY h rfl (fun hb3 h => ?_) (fun hb3 h => ?_)
   ·refine zI<|zC<|zA (z8 (pl:=[(0,1),(1,1),(2,1),(3,1),(4,1)]) (zs:=[.slice none 0 0,.int .i64 0,.int .i64 0,.slice none 0 0,.slice none 0 0]) (zc:=[.sl false [],.lit (.int .i64 0),.lit (.int .i64 0),.sl false [],.sl false []]) (res:=(zG (⟨([]:List Int),0,0,([]:List zp),([]:List zL)⟩:zJ))) (fun _=>by kernel_rfl) rfl (⟨zh.nils,⟨zh.refl _,⟨zh.refl _,⟨zh.nils,⟨zh.nils,trivial⟩⟩⟩⟩⟩) (by exact zFX.refl _))<|zm (H':=[.box 26 (zG a_p0),.box 26 (zG (⟨([]:List Int),0,0,([]:List zp),([]:List zL)⟩:zJ))]) (zZ (k:=1) (o:=0) (cs:=(zG ⟨[],0,0,[],[]⟩)) (la:=(zG (⟨([]:List Int),0,0,([]:List zp),([]:List zL)⟩:zJ))) sizeOf26 rfl rfl rfl rfl)<|zA (zD rfl)<|zF ?_
    refine zb ?_
    show zAQ _ _ _ _ _ _
    obtain rfl:=Option.some.inj h
    exact zCR (zFa isAgg26 sizeOf26 rfl rfl rfl rfl) (zAM rfl rfl) rfl
   ·refine zP<|zI<|zC<|zA (zS (k:=0) (o:=0) (m:=5) isAgg26 sizeOf26 rfl rfl rfl rfl rfl)<|zR h fun x4 hx4 h=>zHU (cs:=[ls cI x4.nodes,li x4.batch,li x4.high,AV.osl 51 10 (List.map zO x4.zones),AV.osl 55 1 (List.map zH x4.caches)]) (la:=[(AV.agg (zG a_p0))]) (la':=[(AV.agg (zG a_p0))]) (S:=[]) func54 rfl (by kernel_rfl) (.fn 54) rfl ⟨zAt.nr rfl,trivial⟩ (zEz hx4) (.inl rfl) ?_
    refine za (H':=[.box 26 (zG a_p0),.box 26 (zG ⟨[],0,0,[],[]⟩),.val (.agg [ls cI x4.nodes,li x4.batch,li x4.high,AV.osl 51 10 (List.map zO x4.zones),AV.osl 55 1 (List.map zH x4.caches)]),.box 26 (zG ⟨[],0,0,[],[]⟩)]) (zv (t:=26) (vs:=[.slice none 0 0,.int .i64 0,.int .i64 0,.slice none 0 0,.slice none 0 0]) (cs:=[.sl false [],.lit (.int .i64 0),.lit (.int .i64 0),.sl false [],.sl false []]) zeroValue26 (by kernel_rfl) rfl ⟨zh.nils,zh.refl _,zh.refl _,zh.nils,zh.nils,trivial⟩)<|zm (H':=[.box 26 (zG a_p0),.box 26 (zG ⟨[],0,0,[],[]⟩),.dead,.box 26 [ls cI x4.nodes,li x4.batch,li x4.high,AV.osl 51 10 (List.map zO x4.zones),AV.osl 55 1 (List.map zH x4.caches)]]) (zCd (k:=3) (o:=0) (j:=2) (cs:=(zG ⟨[],0,0,[],[]⟩)) (la:=[ls cI x4.nodes,li x4.batch,li x4.high,AV.osl 51 10 (List.map zO x4.zones),AV.osl 55 1 (List.map zH x4.caches)]) sizeOf26 rfl rfl rfl rfl rfl (by decide))<|zF<|zI<|zV (zBA (k:=3) (o:=4) (t':=55) (sz:=1) (rows:=List.map zH x4.caches) rfl rfl)<|zM h fun hb4 h => ?_
    refine zR h fun x5 hx5 h => ?_
    show AW _ _ _ _ _ _ [.box 26 (zG a_p0),.box 26 (zG ⟨[],0,0,[],[]⟩),.dead,.box 26 [ls cI x4.nodes,li x4.batch,li x4.high,AV.osl 51 10 (List.map zO x4.zones),AV.hd 4],.vec 55 1 (List.map zH x4.caches)]
    refine zAx (n:=73) (m:=0) [.head 0 1,.head 0 1,.head 0 1,.head 0 1,.head 0 1,.head 0 1,.head 0 1,.head 0 1,.head 0 1,.head 0 1,.head 0 1,.head 0 1,.head 0 1,.head 0 1,.head 0 2,.head 0 2,.tail 0,.tail 1,.head 2 2,.head 2 2] [16,17] [AV.ptr 3 4,AV.hd 4,li a_p1,(AV.ptr 4 (a_p1.toNat*1)),(AV.agg (zH (at_ x4.caches a_p1))),li x2,li a_p2,AV.ptr 3 1,li x4.batch,AV.ptr 3 2,li x4.high,(AV.tup [(AV.agg (zH x5.1)),ls cI x5.2.1,li x5.2.2]),(AV.tup [(AV.agg (zH x5.1)),ls cI x5.2.1,li x5.2.2]),(AV.agg (zH x5.1)),ls cI x5.2.1,li x5.2.2,AV.ptr 5 0,.any,ls cI x5.2.1,li x5.2.2] [[.box 26 (zG a_p0),.box 26 (zG ⟨[],0,0,[],[]⟩),.dead,.box 26 [ls cI x4.nodes,li x4.batch,li x4.high,AV.osl 51 10 (List.map zO x4.zones),AV.hd 4],.vec 55 1 (List.map zH x4.caches)],[.box 26 (zG a_p0),.box 26 (zG ⟨[],0,0,[],[]⟩),.dead,.box 26 [ls cI x4.nodes,li x4.batch,li x4.high,AV.osl 51 10 (List.map zO x4.zones),AV.hd 4],.vec 55 1 (List.map zH x4.caches),.box 55 [(ls (cS cI) ([]:List (List Int)))]],[.box 26 (zG a_p0),.box 26 (zG ⟨[],0,0,[],[]⟩),.dead,.box 26 [ls cI x4.nodes,li x4.batch,li x4.high,AV.osl 51 10 (List.map zO x4.zones),AV.hd 4],.vec 55 1 (List.map zH x4.caches),.box 55 (zH x5.1)]] (by kernel_rfl) (by kernel_rfl) ⟨⟨?_,?_⟩,⟨?_,?_⟩,⟨?_,?_⟩,⟨?_,?_⟩,⟨?_,?_⟩,⟨?_,?_⟩,⟨?_,?_⟩,⟨?_,?_⟩,⟨?_,?_⟩,⟨?_,?_⟩,⟨?_,?_⟩,⟨?_,?_⟩,⟨?_,?_⟩,⟨?_,?_⟩,⟨?_,?_,?_⟩,⟨?_,?_,?_⟩,?_,?_,?_,?_,trivial⟩ ?_
    ·exact D1 fun e s p=>zK (k:=3) (o:=0) (off:=4) underlying26 rfl rfl sizeOf24 (s 10 rfl)
    ·exact D1 fun e s p=>zK (k:=3) (o:=0) (off:=4) underlying26 rfl rfl sizeOf24 (s 10 rfl)
    ·exact D1 fun e s p=>zN (k:=3) (o:=4) isAgg24 p.1 rfl rfl rfl
    ·exact D1 fun e s p=>zN (k:=3) (o:=4) isAgg24 p.1 rfl rfl rfl
    ·exact D1 fun e s p=>zB (s 1 rfl)
    ·exact D1 fun e s p=>zB (s 1 rfl)
    ·exact D1 fun e s p=>zAC (f:=zH) (l:=x4.caches) (i:=a_p1) underlying24 sizeOf55 p.1 rfl p.2.1 hb4
    ·exact D1 fun e s p=>zAC (f:=zH) (l:=x4.caches) (i:=a_p1) underlying24 sizeOf55 p.1 rfl p.2.1 hb4
    ·exact D1 fun e s p=>zCT (f:=zH) (l:=x4.caches) (i:=a_p1) (c:=0) (q:=1) (la:=(zH (at_ x4.caches a_p1))) isAgg55 sizeOf55 p.1 rfl (by first | rfl | omega) hb4 rfl rfl rfl
    ·exact D1 fun e s p=>zCT (f:=zH) (l:=x4.caches) (i:=a_p1) (c:=0) (q:=1) (la:=(zH (at_ x4.caches a_p1))) isAgg55 sizeOf55 p.1 rfl (by first | rfl | omega) hb4 rfl rfl rfl
    ·exact D1 fun e s p=>zB (s 9 rfl)
    ·exact D1 fun e s p=>zB (s 9 rfl)
    ·exact D1 fun e s p=>zB (s 2 rfl)
    ·exact D1 fun e s p=>zB (s 2 rfl)
    ·exact D1 fun e s p=>zK (k:=3) (o:=0) (off:=1) underlying26 rfl rfl sizeOf3 (s 10 rfl)
    ·exact D1 fun e s p=>zK (k:=3) (o:=0) (off:=1) underlying26 rfl rfl sizeOf3 (s 10 rfl)
    ·exact D1 fun e s p=>zN (k:=3) (o:=1) isAgg3 p.1 rfl rfl rfl
    ·exact D1 fun e s p=>zN (k:=3) (o:=1) isAgg3 p.1 rfl rfl rfl
    ·exact D1 fun e s p=>zK (k:=3) (o:=0) (off:=2) underlying26 rfl rfl sizeOf3 (s 10 rfl)
    ·exact D1 fun e s p=>zK (k:=3) (o:=0) (off:=2) underlying26 rfl rfl sizeOf3 (s 10 rfl)
    ·exact D1 fun e s p=>zN (k:=3) (o:=2) isAgg3 p.1 rfl rfl rfl
    ·exact D1 fun e s p=>zN (k:=3) (o:=2) isAgg3 p.1 rfl rfl rfl
    ·
     intro e23 hs23 hp23
     refine zi (r:=(AV.tup [(AV.agg (zH x5.1)),ls cI x5.2.1,li x5.2.2])) (la:=[(AV.agg (zH (at_ x4.caches a_p1))),li x2,li a_p2,li x4.batch,li x4.high]) func67 rfl (by kernel_rfl) (.fn 67) (zAK hp23.1 (zAK hp23.2.1 (zAK hp23.2.2.1 (zAK hp23.2.2.2.1 (zAK hp23.2.2.2.2.1 rfl))))) rfl (zKv hx5) rfl ?_
     exact zF ⟨fun _=>rfl,rfl⟩
    ·
     intro e24 hs24 hp24
     refine zi (r:=(AV.tup [(AV.agg (zH x5.1)),ls cI x5.2.1,li x5.2.2])) (la:=[(AV.agg (zH (at_ x4.caches a_p1))),li x2,li a_p2,li x4.batch,li x4.high]) func67 rfl (by kernel_rfl) (.fn 67) (zAK hp24.1 (zAK hp24.2.1 (zAK hp24.2.2.1 (zAK hp24.2.2.2.1 (zAK hp24.2.2.2.2.1 rfl))))) rfl (zKv hx5) rfl ?_
     exact zF ⟨fun _=>rfl,rfl⟩
    ·exact D1 fun e s p=>zB p.1
    ·exact D1 fun e s p=>zB p.1
    ·exact D1 fun e s p=>zg p.1 rfl
    ·exact D1 fun e s p=>zg p.1 rfl
    ·exact D1 fun e s p=>zg p.1 rfl
    ·exact D1 fun e s p=>zg p.1 rfl
    ·exact D1 fun e s p=>zg p.1 rfl
    ·exact D1 fun e s p=>zg p.1 rfl
    ·exact D1 fun e s p=>zg p.1 rfl
    ·exact D1 fun e s p=>zg p.1 rfl
    ·
     intro e35 hs35 hp35
     refine za (H':=[.box 26 (zG a_p0),.box 26 (zG ⟨[],0,0,[],[]⟩),.dead,.box 26 [ls cI x4.nodes,li x4.batch,li x4.high,AV.osl 51 10 (List.map zO x4.zones),AV.hd 4],.vec 55 1 (List.map zH x4.caches),.box 55 [(ls (cS cI) ([]:List (List Int)))]]) (zv (t:=55) (vs:=[.slice none 0 0]) (cs:=[.sl false []]) zeroValue55 (by kernel_rfl) rfl ⟨zh.nils,trivial⟩) ?_
     exact zF ⟨fun _=>rfl,rfl⟩
    ·
     intro e36 hs36 hp36
     refine zm (H':=[.box 26 (zG a_p0),.box 26 (zG ⟨[],0,0,[],[]⟩),.dead,.box 26 [ls cI x4.nodes,li x4.batch,li x4.high,AV.osl 51 10 (List.map zO x4.zones),AV.hd 4],.vec 55 1 (List.map zH x4.caches),.box 55 (zH x5.1)]) (zZ (k:=5) (o:=0) (cs:=[(ls (cS cI) ([]:List (List Int)))]) (la:=(zH x5.1)) sizeOf55 (by exact hp36.2.2.2.2.2.2.2.2.2.2.2.2.2.2.2.2.2.2.2.1) rfl rfl (by exact hp36.2.2.2.2.2.2.2.2.2.2.2.2.2.2.2.2.1)) ?_
     exact zF ⟨fun _=>rfl,rfl⟩
    ·exact D1 fun e s p=>zD p.2.2.2.2.2.2.2.2.2.2.2.2.2.2.2.2.1
    ·exact D1 fun e s p=>zD p.2.2.2.2.2.2.2.2.2.2.2.2.2.2.2.2.2.1
    intro e39 hs39 hq1
    refine zV (zBY (l:=[(1,(li a_p1)),(6,(AV.ptr 1 0)),(9,(li x2)),(10,(AV.ptr 3 0)),(11,(AV.ptr 5 0)),(12,(ls cI x5.2.1)),(13,(li x5.2.2))]) ⟨hs39 1 rfl,hs39 6 rfl,hs39 9 rfl,hs39 10 rfl,(hq1 16 (by decide) (by decide)),(hq1 18 (by decide) (by decide)),(hq1 19 (by decide) (by decide)),trivial⟩)<|zI<|zI<|zC<|zA (zB (av:=(li x5.2.2)) rfl)<|zA (z7 (a:=x5.2.2) (b:=0) rfl rfl) ?_
    refine zF ?_
    refine zY h rfl (fun hb5 h => ?_) (fun hb5 h => ?_)
    ·refine zI<|zC<|zA (z8 (pl:=[(0,1),(1,1),(2,1),(3,1),(4,1)]) (zs:=[.slice none 0 0,.int .i64 0,.int .i64 0,.slice none 0 0,.slice none 0 0]) (zc:=[.sl false [],.lit (.int .i64 0),.lit (.int .i64 0),.sl false [],.sl false []]) (res:=(zG (⟨([]:List Int),0,0,([]:List zp),([]:List zL)⟩:zJ))) (fun _=>by kernel_rfl) rfl (⟨zh.nils,⟨zh.refl _,⟨zh.refl _,⟨zh.nils,⟨zh.nils,trivial⟩⟩⟩⟩⟩) (by exact zFX.refl _))<|zA (zB rfl)<|zm (H':=[.box 26 (zG a_p0),.box 26 (zG (⟨([]:List Int),0,0,([]:List zp),([]:List zL)⟩:zJ)),.dead,.box 26 [ls cI x4.nodes,li x4.batch,li x4.high,AV.osl 51 10 (List.map zO x4.zones),AV.hd 4],.vec 55 1 (List.map zH x4.caches),.box 55 (zH x5.1)]) (zZ (k:=1) (o:=0) (cs:=(zG ⟨[],0,0,[],[]⟩)) (la:=(zG (⟨([]:List Int),0,0,([]:List zp),([]:List zL)⟩:zJ))) sizeOf26 rfl rfl rfl rfl)<|zA (zD rfl) ?_
     refine zF<|zb ?_
     show zAQ _ _ _ _ _ _
     obtain rfl:=Option.some.inj h
     exact zCR (zFa isAgg26 sizeOf26 rfl rfl rfl rfl) (zAM rfl rfl) rfl
    ·refine zP<|zI<|zC<|zA (zK underlying26 rfl rfl sizeOf24 rfl)<|zA (zN isAgg24 rfl rfl rfl rfl)<|zA (zB rfl) ?_
     refine zA (zS (k:=5) (o:=0) (m:=1) isAgg55 sizeOf55 rfl rfl rfl rfl rfl)<|zA (zAC (f:=zH) (l:=x4.caches) (i:=a_p1) underlying24 sizeOf55 rfl rfl rfl hb4)<|zm (H':=[.box 26 (zG a_p0),.box 26 (zG ⟨[],0,0,[],[]⟩),.dead,.box 26 [ls cI x4.nodes,li x4.batch,li x4.high,AV.osl 51 10 (List.map zO x4.zones),AV.hd 4],.vec 55 1 (List.map zH (x4.caches.set a_p1.toNat x5.1)),.box 55 (zH x5.1)]) (zCM (k:=4) (o:=(a_p1.toNat*1)) (f:=zH) (l:=x4.caches) (i:=a_p1) (z:=x5.1) sizeOf55 (fun _=>rfl) rfl rfl (by first | rfl | omega) hb4 rfl rfl)<|zF<|zI<|zC ?_
     refine zA (zB rfl)<|zA (zB rfl)<|zAF (zAJ (k:=3) (j:=4) (o:=4) rfl rfl rfl rfl)<|zR h fun x6 hx6 h=>zDw (k:=3) (la:=[AV.ptr 3 0,li x2,ls cI x5.2.1]) (la':=[AV.ptr 0 0,li x2,ls cI x5.2.1]) (r:=(.tup [])) (S:=[]) (en' := .box 26 [ls cI x6.nodes,li x6.batch,li x6.high,AV.osl 51 10 (List.map zO x6.zones),AV.osl 55 1 (List.map zH x6.caches)]) func68 rfl (by kernel_rfl) (.fn 68) rfl ⟨zCe.ptr,zCe.of (zAt.nr rfl),zCe.of (zAt.nr rfl),trivial⟩ rfl rfl (by kernel_rfl) (by kernel_rfl) (zI7 hx6) rfl (.inl rfl)<|zF ?_
     refine zI<|zC<|zAF (zBb (k:=3) (o:=3) (rows':=List.map zO x6.zones) rfl rfl (zAP (fun _=>rfl)))<|zAF (zBb (k:=3) (o:=4) (rows':=List.map zH x6.caches) rfl rfl (zAP (fun _=>rfl)))<|zA (zS (k:=3) (o:=0) (m:=5) isAgg26 sizeOf26 rfl rfl rfl rfl rfl)<|zm (H':=[.box 26 (zG a_p0),.box 26 (zG (⟨x6.nodes,x6.batch,x6.high,x6.zones,x6.caches⟩:zJ)),.dead,.box 26 (zG ⟨x6.nodes,x6.batch,x6.high,x6.zones,x6.caches⟩),.dead,.box 55 (zH x5.1)]) (zZ (k:=1) (o:=0) (cs:=(zG ⟨[],0,0,[],[]⟩)) (la:=(zG (⟨x6.nodes,x6.batch,x6.high,x6.zones,x6.caches⟩:zJ))) sizeOf26 rfl rfl rfl rfl) ?_
     refine zA (zD rfl)<|zF<|zb ?_
     show zAQ _ _ _ _ _ _
     obtain rfl:=Option.some.inj h
     exact zCR (zFa isAgg26 sizeOf26 rfl rfl rfl rfl) (zAM rfl rfl) rfl
theorem zJU {a_p0:zJ} {a_p1:Int} {a_p2:Int} {r:zJ×Int×Int} (h:zFZ a_p0 a_p1 a_p2=some r):PFn prog 26 [(AV.agg (zG a_p0)),li a_p1,li a_p2] (AV.tup [(AV.agg (zG r.1)),li r.2.1,li r.2.2]):=by
 refine zq func26 rfl ntmps26 results26 rfl ?_
 unfold zFZ at h
 refine zI<|zC<|za (H':=[.box 26 (zG a_p0)]) (zw (t:=26) rfl)<|za (H':=[.box 26 (zG a_p0),.box 26 (zG ⟨[],0,0,[],[]⟩)]) (zv (t:=26) (vs:=[.slice none 0 0,.int .i64 0,.int .i64 0,.slice none 0 0,.slice none 0 0]) (cs:=[.sl false [],.lit (.int .i64 0),.lit (.int .i64 0),.sl false [],.sl false []]) zeroValue26 (by kernel_rfl) rfl ⟨zh.nils,zh.refl _,zh.refl _,zh.nils,zh.nils,trivial⟩)<|zA (zD rfl)<|zA (zD rfl) ?_
 refine zF<|zI<|zI<|zC<|zA (zS (k:=0) (o:=0) (m:=5) isAgg26 sizeOf26 rfl rfl rfl rfl rfl)<|zR h fun x1 hx1 h => ?_
 refine zi func13 rfl (by kernel_rfl) (.fn 13) rfl rfl (zA3 hx1) rfl<|zA (zD rfl)<|zF<|zI<|zC<|zA (zB rfl) ?_
 refine zA (z7 rfl rfl)<|zF ?_
 refine zY h rfl (fun hb1 h => ?_) (fun hb1 h => ?_)
 ·refine zI<|zC<|zA (z8 (pl:=[(0,1),(1,1),(2,1),(3,1),(4,1)]) (zs:=[.slice none 0 0,.int .i64 0,.int .i64 0,.slice none 0 0,.slice none 0 0]) (zc:=[.sl false [],.lit (.int .i64 0),.lit (.int .i64 0),.sl false [],.sl false []]) (res:=(zG (⟨([]:List Int),0,0,([]:List zp),([]:List zL)⟩:zJ))) (fun _=>by kernel_rfl) rfl (⟨zh.nils,⟨zh.refl _,⟨zh.refl _,⟨zh.nils,⟨zh.nils,trivial⟩⟩⟩⟩⟩) (by exact zFX.refl _))<|zA (zB rfl)<|zm (H':=[.box 26 (zG a_p0),.box 26 (zG (⟨([]:List Int),0,0,([]:List zp),([]:List zL)⟩:zJ))]) (zZ (k:=1) (o:=0) (cs:=(zG ⟨[],0,0,[],[]⟩)) (la:=(zG (⟨([]:List Int),0,0,([]:List zp),([]:List zL)⟩:zJ))) sizeOf26 rfl rfl rfl rfl)<|zA (zD rfl) ?_
  refine zA (zD rfl)<|zF<|zb ?_
  show zAQ _ _ _ _ _ _
  obtain rfl:=Option.some.inj h
  exact zC6 (zFa isAgg26 sizeOf26 rfl rfl rfl rfl) (zAM rfl rfl) (zAM rfl rfl) rfl
 ·refine zP<|zI<|zI<|zC<|zA (zB rfl)<|zA (ze rfl rfl) ?_
  refine zA (zB rfl)<|zT rfl rfl (fun hc1=>zt.step (zB rfl))<|zT rfl rfl (fun hc2=>zt.step (zK underlying26 rfl rfl sizeOf22 rfl))<|zT rfl rfl (fun hc3=>zt.step (zN isAgg22 (z5 rfl hc3) rfl rfl rfl))<|zT rfl rfl (fun hc4=>zt.step (zX underlying22 (z5 rfl hc4)))<|zT rfl rfl (fun hc5=>zt.step (zAp (z5 rfl hc5) (z5 rfl hc5))) ?_
  refine zA (zd rfl rfl)<|zA (zB rfl)<|zT rfl rfl (fun hc6=>zt.step (zB rfl))<|zT rfl rfl (fun hc7=>zt.step (ze (z5 rfl hc7) rfl))<|zA (zd rfl rfl)<|zA (zB rfl) ?_
  refine zT rfl rfl (fun hc8=>zt.step (zB rfl))<|zT rfl rfl (fun hc9=>zt.step (zAl (z5 rfl hc9) rfl))<|zA (zd rfl rfl)<|zF ?_
  refine zY h rfl (fun hb2 h => ?_) (fun hb2 h => ?_)
  ·refine zI<|zC<|zA (z8 (pl:=[(0,1),(1,1),(2,1),(3,1),(4,1)]) (zs:=[.slice none 0 0,.int .i64 0,.int .i64 0,.slice none 0 0,.slice none 0 0]) (zc:=[.sl false [],.lit (.int .i64 0),.lit (.int .i64 0),.sl false [],.sl false []]) (res:=(zG (⟨([]:List Int),0,0,([]:List zp),([]:List zL)⟩:zJ))) (fun _=>by kernel_rfl) rfl (⟨zh.nils,⟨zh.refl _,⟨zh.refl _,⟨zh.nils,⟨zh.nils,trivial⟩⟩⟩⟩⟩) (by exact zFX.refl _))<|zm (H':=[.box 26 (zG a_p0),.box 26 (zG (⟨([]:List Int),0,0,([]:List zp),([]:List zL)⟩:zJ))]) (zZ (k:=1) (o:=0) (cs:=(zG ⟨[],0,0,[],[]⟩)) (la:=(zG (⟨([]:List Int),0,0,([]:List zp),([]:List zL)⟩:zJ))) sizeOf26 rfl rfl rfl rfl)<|zA (zD rfl)<|zA (zD rfl) ?_
   refine zF<|zb ?_
   show zAQ _ _ _ _ _ _
   obtain rfl:=Option.some.inj h
   exact zC6 (zFa isAgg26 sizeOf26 rfl rfl rfl rfl) (zAM rfl rfl) (zAM rfl rfl) rfl
  ·refine zP<|zI<|zC<|zA (zS (k:=0) (o:=0) (m:=5) isAgg26 sizeOf26 rfl rfl rfl rfl rfl)<|zR h fun x2 hx2 h=>zHU (cs:=[ls cI x2.nodes,li x2.batch,li x2.high,AV.osl 51 10 (List.map zO x2.zones),AV.osl 55 1 (List.map zH x2.caches)]) (la:=[(AV.agg (zG a_p0))]) (la':=[(AV.agg (zG a_p0))]) (S:=[]) func54 rfl (by kernel_rfl) (.fn 54) rfl ⟨zAt.nr rfl,trivial⟩ (zEz hx2) (.inl rfl) ?_
   refine za (H':=[.box 26 (zG a_p0),.box 26 (zG ⟨[],0,0,[],[]⟩),.val (.agg [ls cI x2.nodes,li x2.batch,li x2.high,AV.osl 51 10 (List.map zO x2.zones),AV.osl 55 1 (List.map zH x2.caches)]),.box 26 (zG ⟨[],0,0,[],[]⟩)]) (zv (t:=26) (vs:=[.slice none 0 0,.int .i64 0,.int .i64 0,.slice none 0 0,.slice none 0 0]) (cs:=[.sl false [],.lit (.int .i64 0),.lit (.int .i64 0),.sl false [],.sl false []]) zeroValue26 (by kernel_rfl) rfl ⟨zh.nils,zh.refl _,zh.refl _,zh.nils,zh.nils,trivial⟩)<|zm (H':=[.box 26 (zG a_p0),.box 26 (zG ⟨[],0,0,[],[]⟩),.dead,.box 26 [ls cI x2.nodes,li x2.batch,li x2.high,AV.osl 51 10 (List.map zO x2.zones),AV.osl 55 1 (List.map zH x2.caches)]]) (zCd (k:=3) (o:=0) (j:=2) (cs:=(zG ⟨[],0,0,[],[]⟩)) (la:=[ls cI x2.nodes,li x2.batch,li x2.high,AV.osl 51 10 (List.map zO x2.zones),AV.osl 55 1 (List.map zH x2.caches)]) sizeOf26 rfl rfl rfl rfl rfl (by decide))<|zF<|zI<|zM h fun hb3 h=>zR h fun x3 hx3 h => ?_
   show AW _ _ _ _ _ _ [.box 26 (zG a_p0),.box 26 (zG ⟨[],0,0,[],[]⟩),.dead,.box 26 [ls cI x2.nodes,li x2.batch,li x2.high,AV.osl 51 10 (List.map zO x2.zones),AV.osl 55 1 (List.map zH x2.caches)]]
   refine zAx (n:=100) (m:=0) [.head 0 0,.head 0 0,.head 0 0,.head 0 0,.head 0 0,.head 0 0,.head 0 0,.head 0 0,.head 0 0,.head 0 0,.head 0 0,.head 0 0,.head 0 0] [] [AV.ptr 0 3,ls zO a_p0.zones,AV.ptr 0 0,ls cI a_p0.nodes,li a_p1,(AV.rp (cI (at_ a_p0.nodes a_p1)) 0),(li (at_ a_p0.nodes a_p1)),(AV.tup [ls cI x3.1,li x3.2]),(AV.tup [ls cI x3.1,li x3.2]),ls cI x3.1,li x3.2,ls cI x3.1,li x3.2] [[.box 26 (zG a_p0),.box 26 (zG ⟨[],0,0,[],[]⟩),.dead,.box 26 [ls cI x2.nodes,li x2.batch,li x2.high,AV.osl 51 10 (List.map zO x2.zones),AV.osl 55 1 (List.map zH x2.caches)]]] (by kernel_rfl) (by kernel_rfl) ⟨?_,?_,?_,?_,?_,?_,?_,?_,?_,?_,?_,?_,?_,trivial⟩ ?_
   ·exact D1 fun e s p=>zK (k:=0) (o:=0) (off:=3) underlying26 rfl rfl sizeOf23 (s 3 rfl)
   ·exact D1 fun e s p=>zN (k:=0) (o:=3) isAgg23 p.1 rfl rfl rfl
   ·exact D1 fun e s p=>zK (k:=0) (o:=0) (off:=0) underlying26 rfl rfl sizeOf22 (s 3 rfl)
   ·exact D1 fun e s p=>zN (k:=0) (o:=0) isAgg22 p.1 rfl rfl rfl
   ·exact D1 fun e s p=>zB (s 1 rfl)
   ·exact D1 fun e s p=>zU (f:=cI) (l:=a_p0.nodes) (i:=a_p1) underlying22 sizeOf3 (fun _=>rfl) p.1 p.2.1 hb3
   ·exact D1 fun e s p=>zW (o:=0) isAgg3 p.1 rfl
   ·
    intro e8 hs8 hp8
    refine zi (r:=(AV.tup [ls cI x3.1,li x3.2])) (la:=[ls zO a_p0.zones,(li (at_ a_p0.nodes a_p1)),(AV.lit (.bool false))]) func53 rfl (by kernel_rfl) (.fn 53) (zAK hp8.1 (zAK hp8.2.1 (zAK rfl rfl))) rfl (zI4 hx3) rfl ?_
    exact zF ⟨fun _=>rfl,rfl⟩
   ·exact D1 fun e s p=>zB p.1
   ·exact D1 fun e s p=>zg p.1 rfl
   ·exact D1 fun e s p=>zg p.1 rfl
   ·exact D1 fun e s p=>zD p.2.2.2.2.2.2.2.2.2.2.2.1
   ·exact D1 fun e s p=>zD p.2.2.2.2.2.2.2.2.2.2.2.2.1
   intro e14 hs14 hq1
   refine zV (zBY (l:=[(2,(li a_p2)),(6,(AV.ptr 1 0)),(10,(AV.ptr 3 0)),(11,(ls cI x3.1))]) ⟨hs14 2 rfl,hs14 6 rfl,hs14 10 rfl,(hq1 11 (by decide) (by decide)),trivial⟩) ?_
   refine zx (fun e' H'=>Rep 100 0 e' H' (mkE [(6,(AV.ptr 0 0))]) [.box 26 (zG ⟨[],0,0,[],[]⟩)]∧zEJ  = some r) ?_ ?_
   ·
    refine zI<|zC<|zA (zB rfl)<|zA (zX underlying22 rfl)<|zA (zB rfl)<|zF ?_
    refine zQ<|z6 (σ:=Nat×Int×(List Int)×Int×Int×(List zp)×(List zL)) (fun s=>s.1) (fun s e' H'=>match s with | (n0,i1,d1,d2,d3,l1,l2)=>Rep 100 0 e' H' (mkE [(2,(li a_p2)),(6,(AV.ptr 0 0)),(10,(AV.ptr 1 0)),(56,(ls cI x3.1)),(57,(li (x3.1.length:Int))),(58,(li i1))]) [.box 26 (zG ⟨[],0,0,[],[]⟩),.box 26 [ls cI d1,li d2,li d3,AV.osl 51 10 (List.map zO l1),AV.osl 55 1 (List.map zH l2)]]∧zAj a_p2 x3 n0 i1 d1 d2 d3 l1 l2=some r) (z9,0,x2.nodes,x2.batch,x2.high,x2.zones,x2.caches) ⟨zAE [1,3] rfl rfl (by kernel_rfl),h⟩ ?_
    clear h
    rintro ⟨n0,i1,d1,d2,d3,l1,l2⟩ e' H' ⟨hrep,h⟩
    cases n0 with
    | zero=>exact absurd (show (none:Option _)=some r from h) (by simp)
    | succ n0 =>
     replace h:zEA a_p2 x3 (zAj a_p2 x3 n0) i1 d1 d2 d3 l1 l2=some r:=h
     unfold zEA at h
     refine zV hrep ?_
     clear hrep
     refine zI<|zC<|zA (ze rfl rfl)<|zF<|zI ?_
     refine zY h rfl (fun hb4 h => ?_) (fun hb4 h => ?_)
     ·refine zP ?_
      refine zx (fun e' H' => ∃ (d4:List Int) (d5:Int) (d6:Int) (l3:List zp) (l4:List zL),Rep 100 0 e' H' (mkE [(2,(li a_p2)),(6,(AV.ptr 0 0)),(10,(AV.ptr 1 0)),(56,(ls cI x3.1)),(57,(li (x3.1.length:Int))),(58,(li i1))]) [.box 26 (zG ⟨[],0,0,[],[]⟩),.box 26 [ls cI d4,li d5,li d6,AV.osl 51 10 (List.map zO l3),AV.osl 55 1 (List.map zH l4)]]∧zCh (zAj a_p2 x3 n0) i1 d4 d5 d6 l3 l4=some r) ?_ ?_
      ·
       refine zQ<|zI<|zC<|zM h fun hb6 h=>zA (zU underlying22 sizeOf3 (fun _=>rfl) rfl rfl hb6)<|zA (zW (o:=0) isAgg3 rfl rfl) ?_
       refine zA (zD rfl)<|zF<|zI<|zI<|zV (zBA (k:=1) (o:=3) (t':=51) (sz:=10) (rows:=List.map zO l1) rfl rfl)<|zV (zBA (k:=1) (o:=4) (t':=55) (sz:=1) (rows:=List.map zH l2) rfl rfl) ?_
       refine zR h fun x4 hx4 h=>zM h fun hb7 h=>zM h fun hb8 h => ?_
       show AW _ _ _ _ _ _ [.box 26 (zG ⟨[],0,0,[],[]⟩),.box 26 [ls cI d1,li d2,li d3,AV.hd 2,AV.hd 3],.vec 51 10 (List.map zO l1),.vec 55 1 (List.map zH l2)]
       refine zAx (n:=100) (m:=0) [.head 0 0,.head 0 0,.head 0 0,.head 0 0,.head 0 0,.head 0 0] [] [(AV.agg [ls cI d1,li d2,li d3,AV.hd 2,AV.hd 3]),(li (at_ x3.1 i1)),li x4,li a_p2,(li ((1:Int)*2 ^ a_p2.toNat)),(AV.lit (.bool (decide (x4<((1:Int)*2 ^ a_p2.toNat)))))] [[.box 26 (zG ⟨[],0,0,[],[]⟩),.box 26 [ls cI d1,li d2,li d3,AV.hd 2,AV.hd 3],.vec 51 10 (List.map zO l1),.vec 55 1 (List.map zH l2)]] (by kernel_rfl) (by kernel_rfl) ⟨?_,?_,?_,?_,?_,?_,trivial⟩ ?_
       ·exact D1 fun e s p=>zS (k:=1) (o:=0) (m:=5) isAgg26 sizeOf26 (s 10 rfl) rfl rfl rfl rfl
       ·exact D1 fun e s p=>zB (s 14 rfl)
       ·
        intro e17 hs17 hp16
        refine zAw (r':=(li x4)) (la:=[(AV.agg [ls cI d1,li d2,li d3,AV.hd 2,AV.hd 3]),(li (at_ x3.1 i1))]) (la':=[(AV.agg (zG ⟨d1,d2,d3,l1,l2⟩)),(li (at_ x3.1 i1))]) (r:=(li x4)) (S:=[2,3]) func39 rfl (by kernel_rfl) (.fn 39) (zAK hp16.1 (zAK hp16.2.1 rfl)) ⟨zAt.agg (by exact ⟨zAt.nr rfl,⟨zAt.nr rfl,⟨zAt.nr rfl,⟨zIZ (fun _=>rfl) rfl rfl,⟨zIZ (fun _=>rfl) rfl rfl,trivial⟩⟩⟩⟩⟩),zAt.nr rfl,trivial⟩ (zG4 hx4) (.inr trivial) rfl ?_
        exact zF ⟨fun _=>rfl,rfl⟩
       ·exact D1 fun e s p=>zB (s 2 rfl)
       ·exact D1 fun e s p=>zDI (a:=1) (b:=a_p2) rfl p.1 hb7 hb8
       ·exact D1 fun e s p=>ze (a:=x4) (b:=(1:Int)*2 ^ a_p2.toNat) p.1 p.2.1
       intro e21 hs21 hq2
       refine zV (zBY (l:=[(2,(li a_p2)),(6,(AV.ptr 0 0)),(10,(AV.ptr 1 0)),(14,(li (at_ x3.1 i1))),(56,(ls cI x3.1)),(57,(li (x3.1.length:Int))),(58,(li i1)),(67,(AV.lit (.bool (decide (x4<((1:Int)*2 ^ a_p2.toNat))))))]) ⟨hs21 2 rfl,hs21 6 rfl,hs21 10 rfl,hs21 14 rfl,hs21 56 rfl,hs21 57 rfl,hs21 58 rfl,(hq2 5 (by decide) (by decide)),trivial⟩) ?_
       refine zY h rfl (fun hb9 h => ?_) (fun hb9 h => ?_)
       ·refine zy ?_
        exact ⟨d1,d2,d3,l1,l2,Rep.trans (zAJ (k:=1) (j:=2) (o:=3) rfl rfl rfl rfl) (Rep.trans (zAJ (k:=1) (j:=3) (o:=4) rfl rfl rfl rfl) (zAE [0,1] (l:=[(2,(li a_p2)),(6,(AV.ptr 0 0)),(10,(AV.ptr 1 0)),(56,(ls cI x3.1)),(57,(li (x3.1.length:Int))),(58,(li i1))]) rfl rfl (by kernel_rfl))),h⟩
       ·refine zP ?_
        refine zx (fun e' H' => ∃ (d7:List Int) (d8:Int) (d9:Int) (l5:List zp) (l6:List zL),Rep 100 0 e' H' (mkE [(2,(li a_p2)),(6,(AV.ptr 0 0)),(10,(AV.ptr 1 0)),(14,(li (at_ x3.1 i1))),(56,(ls cI x3.1)),(57,(li (x3.1.length:Int))),(58,(li i1))]) [.box 26 (zG ⟨[],0,0,[],[]⟩),.box 26 [ls cI d7,li d8,li d9,AV.osl 51 10 (List.map zO l5),AV.osl 55 1 (List.map zH l6)]]∧zEN (zAj a_p2 x3 n0) a_p2 x3 i1 d7 d8 d9 l5 l6=some r) ?_ ?_
        ·
         refine zI<|zC<|zA (zK underlying26 rfl rfl sizeOf24 rfl)<|zA (zN isAgg24 rfl rfl rfl rfl)<|zA (zDx (f:=zH) (l:=l2) underlying24 rfl rfl)<|zA (zB rfl) ?_
         refine zF<|zQ<|z6 (σ:=Nat×Int×(List Int)×Int×Int×(List zp)×(List zL)) (fun s=>s.1) (fun s e' H'=>match s with | (n1,i2,d10,d11,d12,l7,l8)=>Rep 100 0 e' H' (mkE [(2,(li a_p2)),(6,(AV.ptr 0 0)),(10,(AV.ptr 1 0)),(14,(li (at_ x3.1 i1))),(56,(ls cI x3.1)),(57,(li (x3.1.length:Int))),(58,(li i1)),(70,(li (l2.length:Int))),(71,(li i2))]) [.box 26 (zG ⟨[],0,0,[],[]⟩),.box 26 [ls cI d10,li d11,li d12,AV.osl 51 10 (List.map zO l7),AV.osl 55 1 (List.map zH l8)]]∧zCl (zAj a_p2 x3 n0) a_p2 x3 i1 l2 n1 i2 d10 d11 d12 l7 l8=some r) (z9,0,d1,d2,d3,l1,l2) ⟨Rep.trans (zAJ (k:=1) (j:=2) (o:=3) rfl rfl rfl rfl) (Rep.trans (zAJ (k:=1) (j:=3) (o:=4) rfl rfl rfl rfl) (zAE [0,1] (l:=[(2,(li a_p2)),(6,(AV.ptr 0 0)),(10,(AV.ptr 1 0)),(14,(li (at_ x3.1 i1))),(56,(ls cI x3.1)),(57,(li (x3.1.length:Int))),(58,(li i1)),(70,(li (l2.length:Int))),(71,(li 0))]) rfl rfl (by kernel_rfl))),h⟩ ?_
         clear h
         rintro ⟨n1,i2,d10,d11,d12,l7,l8⟩ e' H' ⟨hrep,h⟩
         cases n1 with
         | zero=>exact absurd (show (none:Option _)=some r from h) (by simp)
         | succ n1 =>
          replace h:zEM (zAj a_p2 x3 n0) a_p2 x3 i1 l2 (zCl (zAj a_p2 x3 n0) a_p2 x3 i1 l2 n1) i2 d10 d11 d12 l7 l8=some r:=h
          unfold zEM at h
          refine zV hrep ?_
          clear hrep
          refine zI<|zC<|zA (ze rfl rfl)<|zF<|zI ?_
          refine zY h rfl (fun hb12 h => ?_) (fun hb12 h => ?_)
          ·refine zP<|zI<|zQ<|zI<|zC<|zA (zB rfl) ?_
           refine zA (zD rfl)<|zF<|zC<|zA (zB rfl)<|zA (zB rfl)<|zR h fun x6 hx6 h => ?_
           refine zDw (k:=1) (la:=[AV.ptr 1 0,li i2,(li (at_ x3.1 i1))]) (la':=[AV.ptr 0 0,li i2,(li (at_ x3.1 i1))]) (r:=(.tup [])) (S:=[]) (en' := .box 26 [ls cI x6.nodes,li x6.batch,li x6.high,AV.osl 51 10 (List.map zO x6.zones),AV.osl 55 1 (List.map zH x6.caches)]) func56 rfl (by kernel_rfl) (.fn 56) rfl ⟨zCe.ptr,zCe.of (zAt.nr rfl),zCe.of (zAt.nr rfl),trivial⟩ rfl rfl (by kernel_rfl) (by kernel_rfl) (zGU hx6) rfl (.inl rfl)<|zF<|zC<|zM h fun hb13 h=>zA (zf rfl rfl hb13)<|zA (zB rfl) ?_
           refine zF ?_
           exact ⟨(n1,(i2+1),x6.nodes,x6.batch,x6.high,x6.zones,x6.caches),Nat.lt_succ_self _,zAE [0,1] rfl rfl (by kernel_rfl),h⟩
          ·refine zy ?_
           exact ⟨d10,d11,d12,l7,l8,zAE [0,1] rfl rfl (by kernel_rfl),h⟩
        ·
         clear h
         rintro e' H' ⟨d7,d8,d9,l5,l6,hrep,h⟩
         refine zV hrep ?_
         clear hrep
         unfold zEN at h
         refine zI<|zC<|zA (zK underlying26 rfl rfl sizeOf23 rfl)<|zAF (zBA (k:=1) (o:=3) (t':=51) (sz:=10) (rows:=List.map zO l5) rfl rfl)<|zA (zN isAgg23 rfl rfl rfl rfl)<|zA (zB rfl) ?_
         refine zM h fun hb10 h=>zA (zAC (f:=zO) (l:=l5) (i:=at_ x3.1 i1) underlying23 sizeOf51 rfl rfl rfl hb10)<|zA (zCT (f:=zO) (l:=l5) (i:=at_ x3.1 i1) (c:=0) (q:=10) (la:=(zO (at_ l5 (at_ x3.1 i1)))) isAgg51 sizeOf51 rfl rfl (by first | rfl | omega) hb10 rfl rfl rfl)<|zA (zB rfl)<|zR h fun x5 hx5 h=>zi func64 rfl (by kernel_rfl) (.fn 64) rfl rfl (zKP hx5) rfl ?_
         refine zA (zB rfl)<|zA (zg rfl rfl)<|zA (zg rfl rfl)<|zA (zg rfl rfl)<|za (H':=[.box 26 (zG ⟨[],0,0,[],[]⟩),.box 26 [ls cI d7,li d8,li d9,AV.hd 2,AV.osl 55 1 (List.map zH l6)],.vec 51 10 (List.map zO l5),.box 51 (zO ⟨0,0,0,0,0,(List.replicate 5 ([]:List Int))⟩)]) (zv (t:=51) (vs:=[.int .i64 0,.int .i64 0,.int .i64 0,.int .i64 0,.int .i64 0,.slice none 0 0,.slice none 0 0,.slice none 0 0,.slice none 0 0,.slice none 0 0]) (cs:=[.lit (.int .i64 0),.lit (.int .i64 0),.lit (.int .i64 0),.lit (.int .i64 0),.lit (.int .i64 0),.sl false [],.sl false [],.sl false [],.sl false [],.sl false []]) zeroValue51 (by kernel_rfl) rfl ⟨zh.refl _,zh.refl _,zh.refl _,zh.refl _,zh.refl _,zh.nils,zh.nils,zh.nils,zh.nils,zh.nils,trivial⟩)<|zm (H':=[.box 26 (zG ⟨[],0,0,[],[]⟩),.box 26 [ls cI d7,li d8,li d9,AV.hd 2,AV.osl 55 1 (List.map zH l6)],.vec 51 10 (List.map zO l5),.box 51 (zO x5.1)]) (zZ (k:=3) (o:=0) (cs:=(zO ⟨0,0,0,0,0,(List.replicate 5 ([]:List Int))⟩)) (la:=(zO x5.1)) sizeOf51 rfl rfl rfl rfl) ?_
         refine zA (zD rfl)<|zA (zD rfl)<|zF<|zI<|zC<|zA (zB rfl) ?_
         refine zA (zBR rfl rfl)<|zF ?_
         refine zY h rfl (fun hb11 h => ?_) (fun hb11 h => ?_)
         ·refine zI<|zC<|zA (zK underlying26 rfl rfl sizeOf23 rfl)<|zA (zN isAgg23 rfl rfl rfl rfl)<|zA (zB rfl)<|zA (zS (k:=3) (o:=0) (m:=10) isAgg51 sizeOf51 rfl rfl rfl rfl rfl) ?_
          refine zA (zAC (f:=zO) (l:=l5) (i:=at_ x3.1 i1) underlying23 sizeOf51 rfl rfl rfl hb10)<|zm (H':=[.box 26 (zG ⟨[],0,0,[],[]⟩),.box 26 [ls cI d7,li d8,li d9,AV.hd 2,AV.osl 55 1 (List.map zH l6)],.vec 51 10 (List.map zO (l5.set (at_ x3.1 i1).toNat x5.1)),.box 51 (zO x5.1)]) (zCM (k:=2) (o:=((at_ x3.1 i1).toNat*10)) (f:=zO) (l:=l5) (i:=at_ x3.1 i1) (z:=x5.1) sizeOf51 (fun _=>rfl) rfl rfl (by first | rfl | omega) hb10 rfl rfl)<|zF<|zI<|zC<|zAF (zAJ (k:=1) (j:=2) (o:=3) rfl rfl rfl rfl) ?_
          refine zAF (zBb (k:=1) (o:=3) (rows':=List.map zO (l5.set (at_ x3.1 i1).toNat x5.1)) rfl rfl (zAP (fun _=>rfl)))<|zAF (zBb (k:=1) (o:=4) (rows':=List.map zH l6) rfl rfl (zAP (fun _=>rfl)))<|zA (zS (k:=1) (o:=0) (m:=5) isAgg26 sizeOf26 rfl rfl rfl rfl rfl)<|zA (zB rfl)<|zm (H':=[.box 26 (zG (⟨d7,d8,d9,l5.set (at_ x3.1 i1).toNat x5.1,l6⟩:zJ)),.box 26 (zG ⟨d7,d8,d9,(l5.set (at_ x3.1 i1).toNat x5.1),l6⟩),.dead,.box 51 (zO x5.1)]) (zZ (k:=0) (o:=0) (cs:=(zG ⟨[],0,0,[],[]⟩)) (la:=(zG (⟨d7,d8,d9,l5.set (at_ x3.1 i1).toNat x5.1,l6⟩:zJ))) sizeOf26 rfl rfl rfl rfl)<|zA (zD rfl) ?_
          refine zA (zD rfl)<|zF<|zb ?_
          show zAQ _ _ _ _ _ _
          obtain rfl:=Option.some.inj h
          exact zC6 (zFa isAgg26 sizeOf26 rfl rfl rfl rfl) (zAM rfl rfl) (zAM rfl rfl) rfl
         ·refine zP ?_
          exact ⟨d7,d8,d9,l5,l6,Rep.trans (zAJ (k:=1) (j:=2) (o:=3) rfl rfl rfl rfl) (zAE [0,1] (l:=[(2,(li a_p2)),(6,(AV.ptr 0 0)),(10,(AV.ptr 1 0)),(56,(ls cI x3.1)),(57,(li (x3.1.length:Int))),(58,(li i1))]) rfl rfl (by kernel_rfl)),h⟩
      ·
       clear h
       rintro e' H' ⟨d4,d5,d6,l3,l4,hrep,h⟩
       refine zV hrep ?_
       clear hrep
       unfold zCh at h
       refine zC<|zM h fun hb5 h=>zA (zf rfl rfl hb5)<|zA (zB rfl)<|zF ?_
       exact ⟨(n0,(i1+1),d4,d5,d6,l3,l4),Nat.lt_succ_self _,zAE [0,1] rfl rfl (by kernel_rfl),h⟩
     ·refine zy ?_
      exact ⟨zAE [0] rfl rfl (by kernel_rfl),h⟩
   ·
    clear h
    rintro e' H' ⟨hrep,h⟩
    refine zV hrep ?_
    clear hrep
    unfold zEJ at h
    refine zI<|zC<|zA (z8 (pl:=[(0,1),(1,1),(2,1),(3,1),(4,1)]) (zs:=[.slice none 0 0,.int .i64 0,.int .i64 0,.slice none 0 0,.slice none 0 0]) (zc:=[.sl false [],.lit (.int .i64 0),.lit (.int .i64 0),.sl false [],.sl false []]) (res:=(zG (⟨([]:List Int),0,0,([]:List zp),([]:List zL)⟩:zJ))) (fun _=>by kernel_rfl) rfl (⟨zh.nils,⟨zh.refl _,⟨zh.refl _,⟨zh.nils,⟨zh.nils,trivial⟩⟩⟩⟩⟩) (by exact zFX.refl _))<|zm (H':=[.box 26 (zG (⟨([]:List Int),0,0,([]:List zp),([]:List zL)⟩:zJ))]) (zZ (k:=0) (o:=0) (cs:=(zG ⟨[],0,0,[],[]⟩)) (la:=(zG (⟨([]:List Int),0,0,([]:List zp),([]:List zL)⟩:zJ))) sizeOf26 rfl rfl rfl rfl)<|zA (zD rfl)<|zA (zD rfl) ?_
    refine zF<|zb ?_
    show zAQ _ _ _ _ _ _
    obtain rfl:=Option.some.inj h
    exact zC6 (zFa isAgg26 sizeOf26 rfl rfl rfl rfl) (zAM rfl rfl) (zAM rfl rfl) rfl
theorem zLC {a_a:zJ} {r:zJ} (h:zIJ a_a=some r):PFn prog 34 [(AV.agg (zG a_a))] (AV.agg (zG r)):=by
 refine zq func34 rfl ntmps34 results34 rfl ?_
 unfold zIJ at h
 refine zI<|zC<|za (H':=[.box 26 (zG a_a)]) (zw (t:=26) rfl)<|za (H':=[.box 26 (zG a_a),.box 26 (zG ⟨[],0,0,[],[]⟩)]) (zv (t:=26) (vs:=[.slice none 0 0,.int .i64 0,.int .i64 0,.slice none 0 0,.slice none 0 0]) (cs:=[.sl false [],.lit (.int .i64 0),.lit (.int .i64 0),.sl false [],.sl false []]) zeroValue26 (by kernel_rfl) rfl ⟨zh.nils,zh.refl _,zh.refl _,zh.nils,zh.nils,trivial⟩)<|zF<|zI ?_
 refine zI<|zC<|zA (zS (k:=0) (o:=0) (m:=5) isAgg26 sizeOf26 rfl rfl rfl rfl rfl)<|zR h fun x1 hx1 h=>zi func13 rfl (by kernel_rfl) (.fn 13) rfl rfl (zA3 hx1) rfl<|zA (z7 rfl rfl) ?_
 refine zF ?_
 refine zY h rfl (fun hb1 h => ?_) (fun hb1 h => ?_)
 ·refine zI<|zC<|zA (z8 (pl:=[(0,1),(1,1),(2,1),(3,1),(4,1)]) (zs:=[.slice none 0 0,.int .i64 0,.int .i64 0,.slice none 0 0,.slice none 0 0]) (zc:=[.sl false [],.lit (.int .i64 0),.lit (.int .i64 0),.sl false [],.sl false []]) (res:=(zG (⟨([]:List Int),0,0,([]:List zp),([]:List zL)⟩:zJ))) (fun _=>by kernel_rfl) rfl (⟨zh.nils,⟨zh.refl _,⟨zh.refl _,⟨zh.nils,⟨zh.nils,trivial⟩⟩⟩⟩⟩) (by exact zFX.refl _))<|zm (H':=[.box 26 (zG a_a),.box 26 (zG (⟨([]:List Int),0,0,([]:List zp),([]:List zL)⟩:zJ))]) (zZ (k:=1) (o:=0) (cs:=(zG ⟨[],0,0,[],[]⟩)) (la:=(zG (⟨([]:List Int),0,0,([]:List zp),([]:List zL)⟩:zJ))) sizeOf26 rfl rfl rfl rfl)<|zF<|zb ?_
  show zAQ _ _ _ _ _ _
  obtain rfl:=Option.some.inj h
  exact zu (zFa isAgg26 sizeOf26 rfl rfl rfl rfl)
 ·refine zP<|zI<|zC<|zA (zS (k:=0) (o:=0) (m:=5) isAgg26 sizeOf26 rfl rfl rfl rfl rfl)<|zR h fun x2 hx2 h=>zHU (cs:=[ls cI x2.nodes,li x2.batch,li x2.high,AV.osl 51 10 (List.map zO x2.zones),AV.osl 55 1 (List.map zH x2.caches)]) (la:=[(AV.agg (zG a_a))]) (la':=[(AV.agg (zG a_a))]) (S:=[]) func54 rfl (by kernel_rfl) (.fn 54) rfl ⟨zAt.nr rfl,trivial⟩ (zEz hx2) (.inl rfl) ?_
  refine za (H':=[.box 26 (zG a_a),.box 26 (zG ⟨[],0,0,[],[]⟩),.val (.agg [ls cI x2.nodes,li x2.batch,li x2.high,AV.osl 51 10 (List.map zO x2.zones),AV.osl 55 1 (List.map zH x2.caches)]),.box 26 (zG ⟨[],0,0,[],[]⟩)]) (zv (t:=26) (vs:=[.slice none 0 0,.int .i64 0,.int .i64 0,.slice none 0 0,.slice none 0 0]) (cs:=[.sl false [],.lit (.int .i64 0),.lit (.int .i64 0),.sl false [],.sl false []]) zeroValue26 (by kernel_rfl) rfl ⟨zh.nils,zh.refl _,zh.refl _,zh.nils,zh.nils,trivial⟩)<|zm (H':=[.box 26 (zG a_a),.box 26 (zG ⟨[],0,0,[],[]⟩),.dead,.box 26 [ls cI x2.nodes,li x2.batch,li x2.high,AV.osl 51 10 (List.map zO x2.zones),AV.osl 55 1 (List.map zH x2.caches)]]) (zCd (k:=3) (o:=0) (j:=2) (cs:=(zG ⟨[],0,0,[],[]⟩)) (la:=[ls cI x2.nodes,li x2.batch,li x2.high,AV.osl 51 10 (List.map zO x2.zones),AV.osl 55 1 (List.map zH x2.caches)]) sizeOf26 rfl rfl rfl rfl rfl (by decide))<|zF ?_
  refine zx (fun e' H' => ∃ (d1:List Int) (d2:Int) (d3:Int) (l1:List zp) (l2:List zL),Rep 30 0 e' H' (mkE [(2,(AV.ptr 0 0)),(3,(AV.ptr 1 0))]) [.box 26 (zG ⟨[],0,0,[],[]⟩),.box 26 [ls cI d1,li d2,li d3,AV.osl 51 10 (List.map zO l1),AV.osl 55 1 (List.map zH l2)]]∧zGV d1 d2 d3 l1 l2=some r) ?_ ?_
  ·
   refine zI<|zC<|zA (zK underlying26 rfl rfl sizeOf24 rfl)<|zAF (zBA (k:=3) (o:=4) (t':=55) (sz:=1) (rows:=List.map zH x2.caches) rfl rfl)<|zA (zN isAgg24 rfl rfl rfl rfl)<|zA (zDx (f:=zH) (l:=x2.caches) underlying24 rfl rfl) ?_
   refine zA (zB rfl)<|zF<|zQ<|z6 (σ:=Nat×Int×(List Int)×Int×Int×(List zp)×(List zL)) (fun s=>s.1) (fun s e' H'=>match s with | (n0,i1,d4,d5,d6,l3,l4)=>Rep 30 0 e' H' (mkE [(2,(AV.ptr 0 0)),(3,(AV.ptr 1 0)),(14,(li (x2.caches.length:Int))),(15,(li i1))]) [.box 26 (zG ⟨[],0,0,[],[]⟩),.box 26 [ls cI d4,li d5,li d6,AV.osl 51 10 (List.map zO l3),AV.osl 55 1 (List.map zH l4)]]∧zBV x2 n0 i1 d4 d5 d6 l3 l4=some r) (z9,0,x2.nodes,x2.batch,x2.high,x2.zones,x2.caches) ⟨Rep.trans (zAJ (k:=3) (j:=4) (o:=4) rfl rfl rfl rfl) (zAE [1,3] (l:=[(2,(AV.ptr 0 0)),(3,(AV.ptr 1 0)),(14,(li (x2.caches.length:Int))),(15,(li 0))]) rfl rfl (by kernel_rfl)),h⟩ ?_
   clear h
   rintro ⟨n0,i1,d4,d5,d6,l3,l4⟩ e' H' ⟨hrep,h⟩
   cases n0 with
   | zero=>exact absurd (show (none:Option _)=some r from h) (by simp)
   | succ n0 =>
    replace h:zGJ x2 (zBV x2 n0) i1 d4 d5 d6 l3 l4=some r:=h
    unfold zGJ at h
    refine zV hrep ?_
    clear hrep
    refine zI<|zC<|zA (ze rfl rfl)<|zF<|zI ?_
    refine zY h rfl (fun hb2 h => ?_) (fun hb2 h => ?_)
    ·refine zP ?_
     refine zx (fun e' H' => ∃ (d7:List Int) (d8:Int) (d9:Int) (l5:List zp) (l6:List zL),Rep 30 0 e' H' (mkE [(2,(AV.ptr 0 0)),(3,(AV.ptr 1 0)),(14,(li (x2.caches.length:Int))),(15,(li i1))]) [.box 26 (zG ⟨[],0,0,[],[]⟩),.box 26 [ls cI d7,li d8,li d9,AV.osl 51 10 (List.map zO l5),AV.osl 55 1 (List.map zH l6)]]∧zGs (zBV x2 n0) i1 d7 d8 d9 l5 l6=some r) ?_ ?_
     ·
      refine zQ<|zI<|zC<|zA (zB rfl)<|zA (zD rfl)<|zF ?_
      refine zI<|zC<|zA (zK underlying26 rfl rfl sizeOf23 rfl)<|zAF (zBA (k:=1) (o:=3) (t':=51) (sz:=10) (rows:=List.map zO l3) rfl rfl)<|zA (zN isAgg23 rfl rfl rfl rfl)<|zA (zDx (f:=zO) (l:=l3) underlying23 rfl rfl) ?_
      refine zA (zB rfl)<|zF<|zQ<|z6 (σ:=Nat×Int×(List Int)×Int×Int×(List zp)×(List zL)) (fun s=>s.1) (fun s e' H'=>match s with | (n1,i2,d10,d11,d12,l7,l8)=>Rep 30 0 e' H' (mkE [(2,(AV.ptr 0 0)),(3,(AV.ptr 1 0)),(4,(li i1)),(14,(li (x2.caches.length:Int))),(15,(li i1)),(20,(li (l3.length:Int))),(21,(li i2))]) [.box 26 (zG ⟨[],0,0,[],[]⟩),.box 26 [ls cI d10,li d11,li d12,AV.osl 51 10 (List.map zO l7),AV.osl 55 1 (List.map zH l8)]]∧zEx (zBV x2 n0) i1 l3 n1 i2 d10 d11 d12 l7 l8=some r) (z9,0,d4,d5,d6,l3,l4) ⟨Rep.trans (zAJ (k:=1) (j:=2) (o:=3) rfl rfl rfl rfl) (zAE [0,1] (l:=[(2,(AV.ptr 0 0)),(3,(AV.ptr 1 0)),(4,(li i1)),(14,(li (x2.caches.length:Int))),(15,(li i1)),(20,(li (l3.length:Int))),(21,(li 0))]) rfl rfl (by kernel_rfl)),h⟩ ?_
      clear h
      rintro ⟨n1,i2,d10,d11,d12,l7,l8⟩ e' H' ⟨hrep,h⟩
      cases n1 with
      | zero=>exact absurd (show (none:Option _)=some r from h) (by simp)
      | succ n1 =>
       replace h:zGF (zBV x2 n0) i1 l3 (zEx (zBV x2 n0) i1 l3 n1) i2 d10 d11 d12 l7 l8=some r:=h
       unfold zGF at h
       refine zV hrep ?_
       clear hrep
       refine zI<|zC<|zA (ze rfl rfl)<|zF<|zI ?_
       refine zY h rfl (fun hb4 h => ?_) (fun hb4 h => ?_)
       ·refine zP<|zI<|zQ<|zI<|zC<|zA (zB rfl) ?_
        refine zA (zD rfl)<|zF<|zC<|zA (zB rfl)<|zA (zB rfl)<|zR h fun x3 hx3 h => ?_
        refine zDw (k:=1) (la:=[AV.ptr 1 0,li i1,li i2]) (la':=[AV.ptr 0 0,li i1,li i2]) (r:=(.tup [])) (S:=[]) (en' := .box 26 [ls cI x3.nodes,li x3.batch,li x3.high,AV.osl 51 10 (List.map zO x3.zones),AV.osl 55 1 (List.map zH x3.caches)]) func56 rfl (by kernel_rfl) (.fn 56) rfl ⟨zCe.ptr,zCe.of (zAt.nr rfl),zCe.of (zAt.nr rfl),trivial⟩ rfl rfl (by kernel_rfl) (by kernel_rfl) (zGU hx3) rfl (.inl rfl)<|zF<|zC<|zM h fun hb5 h=>zA (zf rfl rfl hb5)<|zA (zB rfl) ?_
        refine zF ?_
        exact ⟨(n1,(i2+1),x3.nodes,x3.batch,x3.high,x3.zones,x3.caches),Nat.lt_succ_self _,zAE [0,1] rfl rfl (by kernel_rfl),h⟩
       ·refine zy ?_
        exact ⟨d10,d11,d12,l7,l8,zAE [0,1] rfl rfl (by kernel_rfl),h⟩
     ·
      clear h
      rintro e' H' ⟨d7,d8,d9,l5,l6,hrep,h⟩
      refine zV hrep ?_
      clear hrep
      unfold zGs at h
      refine zC<|zM h fun hb3 h=>zA (zf rfl rfl hb3)<|zA (zB rfl)<|zF ?_
      exact ⟨(n0,(i1+1),d7,d8,d9,l5,l6),Nat.lt_succ_self _,zAE [0,1] rfl rfl (by kernel_rfl),h⟩
    ·refine zy ?_
     exact ⟨d4,d5,d6,l3,l4,zAE [0,1] rfl rfl (by kernel_rfl),h⟩
  ·
   clear h
   rintro e' H' ⟨d1,d2,d3,l1,l2,hrep,h⟩
   refine zV hrep ?_
   clear hrep
   unfold zGV at h
   refine zI<|zC<|zAF (zBb (k:=1) (o:=3) (rows':=List.map zO l1) rfl rfl (zAP (fun _=>rfl)))<|zAF (zBb (k:=1) (o:=4) (rows':=List.map zH l2) rfl rfl (zAP (fun _=>rfl)))<|zA (zS (k:=1) (o:=0) (m:=5) isAgg26 sizeOf26 rfl rfl rfl rfl rfl)<|zm (H':=[.box 26 (zG (⟨d1,d2,d3,l1,l2⟩:zJ)),.box 26 (zG ⟨d1,d2,d3,l1,l2⟩)]) (zZ (k:=0) (o:=0) (cs:=(zG ⟨[],0,0,[],[]⟩)) (la:=(zG (⟨d1,d2,d3,l1,l2⟩:zJ))) sizeOf26 rfl rfl rfl rfl) ?_
   refine zF<|zb ?_
   show zAQ _ _ _ _ _ _
   obtain rfl:=Option.some.inj h
   exact zu (zFa isAgg26 sizeOf26 rfl rfl rfl rfl)
theorem zJB {a_a:List Int} {a_b:List Int} {r:Bool} (h:zEc a_a a_b=some r):PFn prog 61 [ls cI a_a,ls cI a_b] (AV.lit (.bool r)):=by
 refine zq func61 rfl ntmps61 results61 rfl ?_
 unfold zEc at h
 refine zI<|zC<|zA (zD rfl)<|zF<|zI<|zI ?_
 refine zC<|zA (zB rfl)<|zA (zX underlying22 rfl)<|zA (zB rfl)<|zA (zX underlying22 rfl)<|zA (z7 rfl rfl) ?_
 refine zF ?_
 refine zY h rfl (fun hb1 h => ?_) (fun hb1 h => ?_)
 ·refine zI<|zC<|zA (zD rfl)<|zF<|zb ?_
  show zAQ _ _ _ _ _ _
  obtain rfl:=Option.some.inj h
  exact zu (zAM rfl rfl)
 ·refine zP ?_
  refine zx (fun e' H'=>Rep 26 0 e' H' (mkE []) []∧zGy  = some r) ?_ ?_
  ·
   refine zI<|zC<|zA (zB rfl)<|zA (zX underlying22 rfl)<|zA (zB rfl)<|zF ?_
   refine zQ<|z6 (σ:=Nat×Int) (fun s=>s.1) (fun s e' H'=>match s with | (n0,i1)=>Rep 26 0 e' H' (mkE [(0,(ls cI a_a)),(1,(ls cI a_b)),(12,(li (a_a.length:Int))),(13,(li i1))]) []∧zD0 a_a a_b n0 i1=some r) (z9,0) ⟨zAE [] rfl rfl (by kernel_rfl),h⟩ ?_
   clear h
   rintro ⟨n0,i1⟩ e' H' ⟨hrep,h⟩
   cases n0 with
   | zero=>exact absurd (show (none:Option _)=some r from h) (by simp)
   | succ n0 =>
    replace h:zCB a_a a_b (zD0 a_a a_b n0) i1=some r:=h
    unfold zCB at h
    refine zV hrep ?_
    clear hrep
    refine zI<|zC<|zA (ze rfl rfl)<|zF<|zI ?_
    refine zY h rfl (fun hb2 h => ?_) (fun hb2 h => ?_)
    ·refine zP<|zI<|zQ<|zI<|zC<|zA (zB rfl) ?_
     refine zA (zD rfl)<|zF<|zI<|zM h fun hb3 h=>zM h fun hb4 h => ?_
     show AW _ _ _ _ _ _ []
     refine zAx (n:=26) (m:=0) [.head 0 0,.head 0 0,.head 0 0,.head 0 0,.head 0 0,.head 0 0,.head 0 0,.head 0 0,.head 0 0] [] [ls cI a_a,li i1,(AV.rp (cI (at_ a_a i1)) 0),(li (at_ a_a i1)),ls cI a_b,li i1,(AV.rp (cI (at_ a_b i1)) 0),(li (at_ a_b i1)),(AV.lit (.bool (!decide ((at_ a_a i1)=(at_ a_b i1)))))] [[]] (by kernel_rfl) (by kernel_rfl) ⟨?_,?_,?_,?_,?_,?_,?_,?_,?_,trivial⟩ ?_
     ·exact D1 fun e s p=>zB (s 0 rfl)
     ·exact D1 fun e s p=>zB (s 5 rfl)
     ·exact D1 fun e s p=>zU (f:=cI) (l:=a_a) (i:=i1) underlying22 sizeOf3 (fun _=>rfl) p.1 p.2.1 hb3
     ·exact D1 fun e s p=>zW (o:=0) isAgg3 p.1 rfl
     ·exact D1 fun e s p=>zB (s 1 rfl)
     ·exact D1 fun e s p=>zB (s 5 rfl)
     ·exact D1 fun e s p=>zU (f:=cI) (l:=a_b) (i:=i1) underlying22 sizeOf3 (fun _=>rfl) p.1 p.2.1 hb4
     ·exact D1 fun e s p=>zW (o:=0) isAgg3 p.1 rfl
     ·exact D1 fun e s p=>z7 (a:=at_ a_a i1) (b:=at_ a_b i1) p.1 p.2.1
     intro e10 hs10 hq1
     refine zV (zBY (l:=[(0,(ls cI a_a)),(1,(ls cI a_b)),(12,(li (a_a.length:Int))),(13,(li i1)),(24,(AV.lit (.bool (!decide ((at_ a_a i1)=(at_ a_b i1))))))]) ⟨hs10 0 rfl,hs10 1 rfl,hs10 12 rfl,hs10 13 rfl,(hq1 8 (by decide) (by decide)),trivial⟩) ?_
     refine zY h rfl (fun hb5 h => ?_) (fun hb5 h => ?_)
     ·refine zI<|zC<|zA (zD rfl)<|zF<|zb ?_
      show zAQ _ _ _ _ _ _
      obtain rfl:=Option.some.inj h
      exact zu (zAM rfl rfl)
     ·refine zP<|zC<|zM h fun hb6 h=>zA (zf rfl rfl hb6)<|zA (zB rfl)<|zF ?_
      exact ⟨(n0,(i1+1)),Nat.lt_succ_self _,zAE [] rfl rfl (by kernel_rfl),h⟩
    ·refine zy ?_
     exact ⟨zAE [] rfl rfl (by kernel_rfl),h⟩
  ·
   clear h
   rintro e' H' ⟨hrep,h⟩
   refine zV hrep ?_
   clear hrep
   unfold zGy at h
   refine zI<|zC<|zA (zD rfl)<|zF<|zb ?_
   show zAQ _ _ _ _ _ _
   obtain rfl:=Option.some.inj h
   exact zu (zAM rfl rfl)
theorem zLT {a_a:List Int} {a_b:List Int} {r:Bool} (h:zFe a_a a_b=some r):PFn prog 117 [ls cI a_a,ls cI a_b] (AV.lit (.bool r)):=by
 refine zq func117 rfl ntmps117 results117 rfl ?_
 unfold zFe at h
 refine zI<|zC<|zA (zD rfl)<|zF<|zI<|zI ?_
 refine zC<|zA (zB rfl)<|zA (zX underlying22 rfl)<|zA (zB rfl)<|zA (zX underlying22 rfl)<|zA (z7 rfl rfl) ?_
 refine zF ?_
 refine zY h rfl (fun hb1 h => ?_) (fun hb1 h => ?_)
 ·refine zI<|zC<|zA (zD rfl)<|zF<|zb ?_
  show zAQ _ _ _ _ _ _
  obtain rfl:=Option.some.inj h
  exact zu (zAM rfl rfl)
 ·refine zP ?_
  refine zx (fun e' H'=>Rep 26 0 e' H' (mkE []) []∧zGz  = some r) ?_ ?_
  ·
   refine zI<|zC<|zA (zD rfl)<|zF<|zQ<|z6 (σ:=Nat×Int) (fun s=>s.1) (fun s e' H'=>match s with | (n0,i1)=>Rep 26 0 e' H' (mkE [(0,(ls cI a_a)),(1,(ls cI a_b)),(5,(li i1))]) []∧zDz a_a a_b n0 i1=some r) (z9,0) ⟨zAE [] rfl rfl (by kernel_rfl),h⟩ ?_
   clear h
   rintro ⟨n0,i1⟩ e' H' ⟨hrep,h⟩
   cases n0 with
   | zero=>exact absurd (show (none:Option _)=some r from h) (by simp)
   | succ n0 =>
    replace h:zCD a_a a_b (zDz a_a a_b n0) i1=some r:=h
    unfold zCD at h
    refine zV hrep ?_
    clear hrep
    refine zI<|zI<|zC<|zA (zB rfl)<|zA (zB rfl)<|zA (zX underlying22 rfl) ?_
    refine zA (ze rfl rfl)<|zF ?_
    refine zY h rfl (fun hb2 h => ?_) (fun hb2 h => ?_)
    ·refine zP<|zI<|zQ<|zI<|zM h fun hb3 h=>zM h fun hb4 h => ?_
     show AW _ _ _ _ _ _ []
     refine zAx (n:=26) (m:=0) [.head 0 0,.head 0 0,.head 0 0,.head 0 0,.head 0 0,.head 0 0,.head 0 0,.head 0 0,.head 0 0] [] [ls cI a_a,li i1,(AV.rp (cI (at_ a_a i1)) 0),(li (at_ a_a i1)),ls cI a_b,li i1,(AV.rp (cI (at_ a_b i1)) 0),(li (at_ a_b i1)),(AV.lit (.bool (!decide ((at_ a_a i1)=(at_ a_b i1)))))] [[]] (by kernel_rfl) (by kernel_rfl) ⟨?_,?_,?_,?_,?_,?_,?_,?_,?_,trivial⟩ ?_
     ·exact D1 fun e s p=>zB (s 0 rfl)
     ·exact D1 fun e s p=>zB (s 5 rfl)
     ·exact D1 fun e s p=>zU (f:=cI) (l:=a_a) (i:=i1) underlying22 sizeOf3 (fun _=>rfl) p.1 p.2.1 hb3
     ·exact D1 fun e s p=>zW (o:=0) isAgg3 p.1 rfl
     ·exact D1 fun e s p=>zB (s 1 rfl)
     ·exact D1 fun e s p=>zB (s 5 rfl)
     ·exact D1 fun e s p=>zU (f:=cI) (l:=a_b) (i:=i1) underlying22 sizeOf3 (fun _=>rfl) p.1 p.2.1 hb4
     ·exact D1 fun e s p=>zW (o:=0) isAgg3 p.1 rfl
     ·exact D1 fun e s p=>z7 (a:=at_ a_a i1) (b:=at_ a_b i1) p.1 p.2.1
     intro e10 hs10 hq1
     refine zV (zBY (l:=[(0,(ls cI a_a)),(1,(ls cI a_b)),(5,(li i1)),(25,(AV.lit (.bool (!decide ((at_ a_a i1)=(at_ a_b i1))))))]) ⟨hs10 0 rfl,hs10 1 rfl,hs10 5 rfl,(hq1 8 (by decide) (by decide)),trivial⟩) ?_
     refine zY h rfl (fun hb5 h => ?_) (fun hb5 h => ?_)
     ·refine zI<|zC<|zA (zD rfl)<|zF<|zb ?_
      show zAQ _ _ _ _ _ _
      obtain rfl:=Option.some.inj h
      exact zu (zAM rfl rfl)
     ·refine zP<|zC<|zA (zB rfl)<|zM h fun hb6 h=>zA (zf rfl rfl hb6)<|zA (zD rfl) ?_
      refine zF ?_
      exact ⟨(n0,(i1+1)),Nat.lt_succ_self _,zAE [] rfl rfl (by kernel_rfl),h⟩
    ·refine zy ?_
     exact ⟨zAE [] rfl rfl (by kernel_rfl),h⟩
  ·
   clear h
   rintro e' H' ⟨hrep,h⟩
   refine zV hrep ?_
   clear hrep
   unfold zGz at h
   refine zI<|zC<|zA (zD rfl)<|zF<|zb ?_
   show zAQ _ _ _ _ _ _
   obtain rfl:=Option.some.inj h
   exact zu (zAM rfl rfl)
end Go.Proofs.YtplkliakhdkpcaaGreat
