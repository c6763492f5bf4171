/-
  The program computes what these functions give, part c.
-/
import Derived.Test.YtplkliakhdkpcaaGreatWb
set_option linter.unusedVariables false
set_option linter.unusedSimpArgs false
namespace Go.Proofs.YtplkliakhdkpcaaGreat
open Go Go.RowKit Go.Wk Go.Am Go.Proofs
set_option maxHeartbeats 4000000
theorem zIb {a_p0 : zL} {a_p1 : Int} {a_p2 : Int} {r : zL × Int × Int} (h : zE1 a_p0 a_p1 a_p2 = some r) : PFn Tryz.prog 26 [(AV.agg (zJ a_p0)), (li a_p1), (li a_p2)] (AV.tup [(AV.agg (zJ r.1)), (li r.2.1), (li r.2.2)]) := by
 refine zi Tryz.func26 rfl Tryz.ntmps26 Tryz.results26 rfl ?_
 unfold zE1 at h
 refine zI <| zC <| zb (H' := [.box 26 (zJ a_p0)]) (zu (t := 26) rfl) <| zb (H' := [.box 26 (zJ a_p0), .box 26 ([(ls cI ([] : List Int))] ++ ([(li 0)] ++ ([(li 0)] ++ ([(ls zO ([] : List zm))] ++ ([(ls zG ([] : List zK))] ++ [])))))]) (z6 (t := 26) (vs := [.slice none 0 0, .int .i64 0, .int .i64 0, .slice none 0 0, .slice none 0 0]) (cs := [.sl false [], .lit (.int .i64 0), .lit (.int .i64 0), .sl false [], .sl false []]) Tryz.zeroValue26 (by kernel_rfl) rfl ⟨zq.nils, zq.refl _, zq.refl _, zq.nils, zq.nils, trivial⟩) <| zA (zD rfl) <| zA (zD rfl) ?_
 refine zF <| zI <| zI <| zC <| zA (zT (k := 0) (o := 0) (m := 5) Tryz.isAgg26 Tryz.sizeOf26 rfl rfl rfl rfl rfl) ?_
 refine zP h ?_; clear h; intro x1 hx1 h
 refine zd Tryz.func13 rfl (by kernel_rfl) (.fn 13) rfl rfl (zAn hx1) rfl <| zA (zD rfl) <| zF <| zI <| zC <| zA (zB rfl) ?_
 refine zA (z7 rfl rfl) <| zF ?_
 refine zQ (!decide (x1 = 0)) rfl (fun hb1 => ?_) (fun hb1 => ?_)
 ·replace h := zo hb1 h
  refine zI <| zC <| zA (zAD (pl := [(0, 1), (1, 1), (2, 1), (3, 1), (4, 1)]) (zs := [.slice none 0 0, .int .i64 0, .int .i64 0, .slice none 0 0, .slice none 0 0]) (zc := [.sl false [], .lit (.int .i64 0), .lit (.int .i64 0), .sl false [], .sl false []]) (res := (zJ (⟨([] : List Int), 0, 0, ([] : List zm), ([] : List zK)⟩ : zL))) (fun _ => by kernel_rfl) rfl (⟨zq.nils, ⟨zq.refl _, ⟨zq.refl _, ⟨zq.nils, ⟨zq.nils, trivial⟩⟩⟩⟩⟩) (by exact zGB.refl _)) <| zA (zB rfl) <| zx (H' := [.box 26 (zJ a_p0), .box 26 (zJ (⟨([] : List Int), 0, 0, ([] : List zm), ([] : List zK)⟩ : zL))]) (zh (k := 1) (o := 0) (cs := ([(ls cI ([] : List Int))] ++ ([(li 0)] ++ ([(li 0)] ++ ([(ls zO ([] : List zm))] ++ ([(ls zG ([] : List zK))] ++ [])))))) (la := (zJ (⟨([] : List Int), 0, 0, ([] : List zm), ([] : List zK)⟩ : zL))) Tryz.sizeOf26 rfl rfl rfl rfl) <| zA (zD rfl) ?_
  refine zA (zD rfl) <| zF <| za ?_
  show zAS _ _ _ _ _ _
  obtain rfl := Option.some.inj h
  exact zEF (zHH Tryz.isAgg26 Tryz.sizeOf26 rfl rfl rfl rfl) (zAK rfl rfl) (zAK rfl rfl) rfl
 ·replace h := zv hb1 h
  refine zR <| zI <| zI <| zC <| zA (zB rfl) <| zA (zf rfl rfl) ?_
  refine zA (zB rfl) <| zU rfl rfl (fun hc1 => zj.step (zB rfl)) <| zU rfl rfl (fun hc2 => zj.step (zM Tryz.underlying26 rfl rfl Tryz.sizeOf22 rfl)) <| zU rfl rfl (fun hc3 => zj.step (zN Tryz.isAgg22 (zz rfl hc3) rfl rfl rfl)) <| zU rfl rfl (fun hc4 => zj.step (zX Tryz.underlying22 (zz rfl hc4))) <| zU rfl rfl (fun hc5 => zj.step (zAq (zz rfl hc5) (zz rfl hc5))) ?_
  refine zA (zZ rfl rfl) <| zA (zB rfl) <| zU rfl rfl (fun hc6 => zj.step (zB rfl)) <| zU rfl rfl (fun hc7 => zj.step (zf (zz rfl hc7) rfl)) <| zA (zZ rfl rfl) <| zA (zB rfl) ?_
  refine zU rfl rfl (fun hc8 => zj.step (zB rfl)) <| zU rfl rfl (fun hc9 => zj.step (zAp (zz rfl hc9) rfl)) <| zA (zZ rfl rfl) <| zF ?_
  refine zQ ((((decide (a_p1 < 0)) || (decide ((a_p0.nodes.length : Int) ≤ a_p1))) || (decide (a_p2 < 0))) || (decide (4 < a_p2))) rfl (fun hb2 => ?_) (fun hb2 => ?_)
  ·replace h := zo hb2 h
   refine zI <| zC <| zA (zAD (pl := [(0, 1), (1, 1), (2, 1), (3, 1), (4, 1)]) (zs := [.slice none 0 0, .int .i64 0, .int .i64 0, .slice none 0 0, .slice none 0 0]) (zc := [.sl false [], .lit (.int .i64 0), .lit (.int .i64 0), .sl false [], .sl false []]) (res := (zJ (⟨([] : List Int), 0, 0, ([] : List zm), ([] : List zK)⟩ : zL))) (fun _ => by kernel_rfl) rfl (⟨zq.nils, ⟨zq.refl _, ⟨zq.refl _, ⟨zq.nils, ⟨zq.nils, trivial⟩⟩⟩⟩⟩) (by exact zGB.refl _)) <| zx (H' := [.box 26 (zJ a_p0), .box 26 (zJ (⟨([] : List Int), 0, 0, ([] : List zm), ([] : List zK)⟩ : zL))]) (zh (k := 1) (o := 0) (cs := ([(ls cI ([] : List Int))] ++ ([(li 0)] ++ ([(li 0)] ++ ([(ls zO ([] : List zm))] ++ ([(ls zG ([] : List zK))] ++ [])))))) (la := (zJ (⟨([] : List Int), 0, 0, ([] : List zm), ([] : List zK)⟩ : zL))) Tryz.sizeOf26 rfl rfl rfl rfl) <| zA (zD rfl) <| zA (zD rfl) ?_
   refine zF <| za ?_
   show zAS _ _ _ _ _ _
   obtain rfl := Option.some.inj h
   exact zEF (zHH Tryz.isAgg26 Tryz.sizeOf26 rfl rfl rfl rfl) (zAK rfl rfl) (zAK rfl rfl) rfl
  ·replace h := zv hb2 h
   refine zR <| zI <| zC <| zA (zT (k := 0) (o := 0) (m := 5) Tryz.isAgg26 Tryz.sizeOf26 rfl rfl rfl rfl rfl) ?_
   refine zP h ?_; clear h; intro x2 hx2 h
   refine zIK (cs := ([(ls cI x2.nodes)] ++ ([(li x2.batch)] ++ ([(li x2.high)] ++ ([AV.osl 51 10 (List.map zO x2.zones)] ++ ([AV.osl 55 1 (List.map zG x2.caches)] ++ [])))))) (la := [(AV.agg (zJ a_p0))]) (la' := [(AV.agg (zJ a_p0))]) (S := []) Tryz.func54 rfl (by kernel_rfl) (.fn 54) rfl ⟨zAt.nr rfl, trivial⟩ (zEI hx2) (.inl rfl) <| zb (H' := [.box 26 (zJ a_p0), .box 26 ([(ls cI ([] : List Int))] ++ ([(li 0)] ++ ([(li 0)] ++ ([(ls zO ([] : List zm))] ++ ([(ls zG ([] : List zK))] ++ []))))), .val (.agg ([(ls cI x2.nodes)] ++ ([(li x2.batch)] ++ ([(li x2.high)] ++ ([AV.osl 51 10 (List.map zO x2.zones)] ++ ([AV.osl 55 1 (List.map zG x2.caches)] ++ [])))))), .box 26 ([(ls cI ([] : List Int))] ++ ([(li 0)] ++ ([(li 0)] ++ ([(ls zO ([] : List zm))] ++ ([(ls zG ([] : List zK))] ++ [])))))]) (z6 (t := 26) (vs := [.slice none 0 0, .int .i64 0, .int .i64 0, .slice none 0 0, .slice none 0 0]) (cs := [.sl false [], .lit (.int .i64 0), .lit (.int .i64 0), .sl false [], .sl false []]) Tryz.zeroValue26 (by kernel_rfl) rfl ⟨zq.nils, zq.refl _, zq.refl _, zq.nils, zq.nils, trivial⟩) <| zx (H' := [.box 26 (zJ a_p0), .box 26 ([(ls cI ([] : List Int))] ++ ([(li 0)] ++ ([(li 0)] ++ ([(ls zO ([] : List zm))] ++ ([(ls zG ([] : List zK))] ++ []))))), .dead, .box 26 ([(ls cI x2.nodes)] ++ ([(li x2.batch)] ++ ([(li x2.high)] ++ ([AV.osl 51 10 (List.map zO x2.zones)] ++ ([AV.osl 55 1 (List.map zG x2.caches)] ++ [])))))]) (zEk (k := 3) (o := 0) (j := 2) (cs := ([(ls cI ([] : List Int))] ++ ([(li 0)] ++ ([(li 0)] ++ ([(ls zO ([] : List zm))] ++ ([(ls zG ([] : List zK))] ++ [])))))) (la := ([(ls cI x2.nodes)] ++ ([(li x2.batch)] ++ ([(li x2.high)] ++ ([AV.osl 51 10 (List.map zO x2.zones)] ++ ([AV.osl 55 1 (List.map zG x2.caches)] ++ [])))))) Tryz.sizeOf26 rfl rfl rfl rfl rfl (by decide)) <| zF <| zI ?_
   have hb3 := (zH h).1
   replace h := (zH h).2
   refine zP h ?_; clear h; intro x3 hx3 h
   show AW _ _ _ _ _ _ [.box 26 (zJ a_p0), .box 26 ([(ls cI ([] : List Int))] ++ ([(li 0)] ++ ([(li 0)] ++ ([(ls zO ([] : List zm))] ++ ([(ls zG ([] : List zK))] ++ []))))), .dead, .box 26 ([(ls cI x2.nodes)] ++ ([(li x2.batch)] ++ ([(li x2.high)] ++ ([AV.osl 51 10 (List.map zO x2.zones)] ++ ([AV.osl 55 1 (List.map zG x2.caches)] ++ [])))))]
   refine zAz (n := 100) (m := 0) [.head 0 0, .head 0 0, .head 0 0, .head 0 0, .head 0 0, .head 0 0, .head 0 0, .head 0 0, .head 0 0, .head 0 0, .head 0 0, .head 0 0, .head 0 0] [] [(AV.ptr 0 3), (ls zO a_p0.zones), (AV.ptr 0 0), (ls cI a_p0.nodes), (li a_p1), (AV.rp (cI (at_ a_p0.nodes a_p1)) 0), (li (at_ a_p0.nodes a_p1)), (AV.tup [(ls cI x3.1), (li x3.2)]), (AV.tup [(ls cI x3.1), (li x3.2)]), (ls cI x3.1), (li x3.2), (ls cI x3.1), (li x3.2)] [[.box 26 (zJ a_p0), .box 26 ([(ls cI ([] : List Int))] ++ ([(li 0)] ++ ([(li 0)] ++ ([(ls zO ([] : List zm))] ++ ([(ls zG ([] : List zK))] ++ []))))), .dead, .box 26 ([(ls cI x2.nodes)] ++ ([(li x2.batch)] ++ ([(li x2.high)] ++ ([AV.osl 51 10 (List.map zO x2.zones)] ++ ([AV.osl 55 1 (List.map zG x2.caches)] ++ [])))))]] (by kernel_rfl) (by kernel_rfl) ⟨?_, ?_, ?_, ?_, ?_, ?_, ?_, ?_, ?_, ?_, ?_, ?_, ?_, trivial⟩ ?_
   ·exact fun e s p => zt (zM (k := 0) (o := 0) (off := 3) Tryz.underlying26 rfl rfl Tryz.sizeOf23 (s 3 rfl)) ⟨fun _ => rfl, rfl⟩
   ·exact fun e s p => zt (zN (k := 0) (o := 3) (a := (ls zO a_p0.zones)) Tryz.isAgg23 p.1 rfl rfl rfl) ⟨fun _ => rfl, rfl⟩
   ·exact fun e s p => zt (zM (k := 0) (o := 0) (off := 0) Tryz.underlying26 rfl rfl Tryz.sizeOf22 (s 3 rfl)) ⟨fun _ => rfl, rfl⟩
   ·exact fun e s p => zt (zN (k := 0) (o := 0) (a := (ls cI a_p0.nodes)) Tryz.isAgg22 p.1 rfl rfl rfl) ⟨fun _ => rfl, rfl⟩
   ·exact fun e s p => zt (zB (av := (li a_p1)) (s 1 rfl)) ⟨fun _ => rfl, rfl⟩
   ·exact fun e s p => zt (zV (f := cI) (l := a_p0.nodes) (i := a_p1) Tryz.underlying22 Tryz.sizeOf3 (fun _ => rfl) p.1 p.2.1 hb3) ⟨fun _ => rfl, rfl⟩
   ·exact fun e s p => zt (zW (row := (cI (at_ a_p0.nodes a_p1))) (o := 0) (a := (li (at_ a_p0.nodes a_p1))) Tryz.isAgg3 p.1 rfl) ⟨fun _ => rfl, rfl⟩
   ·
    intro e8 hs8 hp8
    refine zd (r := (AV.tup [(ls cI x3.1), (li x3.2)])) (la := [(ls zO a_p0.zones), (li (at_ a_p0.nodes a_p1)), (AV.lit (.bool false))]) Tryz.func53 rfl (by kernel_rfl) (.fn 53) (zAF hp8.1 (zAF hp8.2.1 (zAF rfl rfl))) rfl (zH9 hx3) rfl ?_
    exact zF ⟨fun _ => rfl, rfl⟩
   ·exact fun e s p => zt (zB (av := (AV.tup [(ls cI x3.1), (li x3.2)])) p.1) ⟨fun _ => rfl, rfl⟩
   ·exact fun e s p => zt (zl (la := [(ls cI x3.1), (li x3.2)]) p.1 rfl) ⟨fun _ => rfl, rfl⟩
   ·exact fun e s p => zt (zl (la := [(ls cI x3.1), (li x3.2)]) p.1 rfl) ⟨fun _ => rfl, rfl⟩
   ·exact fun e s p => zt (zD (av := (ls cI x3.1)) p.2.2.2.2.2.2.2.2.2.2.2.1) ⟨fun _ => rfl, rfl⟩
   ·exact fun e s p => zt (zD (av := (li x3.2)) p.2.2.2.2.2.2.2.2.2.2.2.2.1) ⟨fun _ => rfl, rfl⟩
   intro e14 hs14 hq1
   refine zY (zBV (l := [(2, (li a_p2)), (6, (AV.ptr 1 0)), (10, (AV.ptr 3 0)), (11, (ls cI x3.1))]) ⟨(hs14 2 rfl), (hs14 6 rfl), (hs14 10 rfl), (hq1 11 (by decide) (by decide)), trivial⟩) ?_
   refine z5 (fun e' H' => Rep 100 0 e' H' (mkE [(6, (AV.ptr 0 0))]) [.box 26 ([(ls cI ([] : List Int))] ++ ([(li 0)] ++ ([(li 0)] ++ ([(ls zO ([] : List zm))] ++ ([(ls zG ([] : List zK))] ++ [])))))] ∧ zDt  = some r) ?_ ?_
   ·
    refine zI <| zC <| zA (zB rfl) <| zA (zX Tryz.underlying22 rfl) <| zA (zB rfl) <| zF ?_
    refine zS <| z9 (σ := Nat × Int × (List Int) × Int × Int × (List zm) × (List zK)) (fun s => s.1) (fun s e' H' => match s with | (n0, i1, d1, d2, d3, l1, l2) => Rep 100 0 e' H' (mkE [(2, (li a_p2)), (6, (AV.ptr 0 0)), (10, (AV.ptr 1 0)), (56, (ls cI x3.1)), (57, (li (x3.1.length : Int))), (58, (li i1))]) [.box 26 ([(ls cI ([] : List Int))] ++ ([(li 0)] ++ ([(li 0)] ++ ([(ls zO ([] : List zm))] ++ ([(ls zG ([] : List zK))] ++ []))))), .box 26 ([(ls cI d1)] ++ ([(li d2)] ++ ([(li d3)] ++ ([AV.osl 51 10 (List.map zO l1)] ++ ([AV.osl 55 1 (List.map zG l2)] ++ [])))))] ∧ zAf a_p2 x3 n0 i1 d1 d2 d3 l1 l2 = some r) (zAC, 0, x2.nodes, x2.batch, x2.high, x2.zones, x2.caches) ⟨zAE [1, 3] rfl rfl (by kernel_rfl), h⟩ ?_
    clear h
    rintro ⟨n0, i1, d1, d2, d3, l1, l2⟩ e' H' ⟨hrep, h⟩
    cases n0 with
    | zero => exact absurd (show (none : Option _) = some r from h) (by simp)
    | succ n0 =>
     replace h : zDv a_p2 x3 (zAf a_p2 x3 n0) i1 d1 d2 d3 l1 l2 = some r := h
     unfold zDv at h
     refine zY hrep ?_
     clear hrep
     refine zI <| zC <| zA (zf rfl rfl) <| zF <| zI ?_
     refine zQ (decide (i1 < (x3.1.length : Int))) rfl (fun hb4 => ?_) (fun hb4 => ?_)
     ·replace h := zo hb4 h
      refine zR ?_
      refine z5 (fun e' H' => ∃ (d4 : List Int) (d5 : Int) (d6 : Int) (l3 : List zm) (l4 : List zK), Rep 100 0 e' H' (mkE [(2, (li a_p2)), (6, (AV.ptr 0 0)), (10, (AV.ptr 1 0)), (56, (ls cI x3.1)), (57, (li (x3.1.length : Int))), (58, (li i1))]) [.box 26 ([(ls cI ([] : List Int))] ++ ([(li 0)] ++ ([(li 0)] ++ ([(ls zO ([] : List zm))] ++ ([(ls zG ([] : List zK))] ++ []))))), .box 26 ([(ls cI d4)] ++ ([(li d5)] ++ ([(li d6)] ++ ([AV.osl 51 10 (List.map zO l3)] ++ ([AV.osl 55 1 (List.map zG l4)] ++ [])))))] ∧ zCX (zAf a_p2 x3 n0) i1 d4 d5 d6 l3 l4 = some r) ?_ ?_
      ·
       refine zS <| zI <| zC ?_
       have hb6 := (zH h).1
       replace h := (zH h).2
       refine zA (zV Tryz.underlying22 Tryz.sizeOf3 (fun _ => rfl) rfl rfl hb6) <| zA (zW (o := 0) Tryz.isAgg3 rfl rfl) <| zA (zD rfl) <| zF <| zI <| zI ?_
       refine zY (zB0 (k := 1) (o := 3) (t' := 51) (sz := 10) (rows := List.map zO l1) rfl rfl) <| zY (zB0 (k := 1) (o := 4) (t' := 55) (sz := 1) (rows := List.map zG l2) rfl rfl) ?_
       refine zP h ?_; clear h; intro x4 hx4 h
       have hb7 := (zH h).1
       replace h := (zH h).2
       have hb8 := (zH h).1
       replace h := (zH h).2
       show AW _ _ _ _ _ _ [.box 26 ([(ls cI ([] : List Int))] ++ ([(li 0)] ++ ([(li 0)] ++ ([(ls zO ([] : List zm))] ++ ([(ls zG ([] : List zK))] ++ []))))), .box 26 ([(ls cI d1)] ++ ([(li d2)] ++ ([(li d3)] ++ ([AV.hd 2] ++ ([AV.hd 3] ++ []))))), .vec 51 10 (List.map zO l1), .vec 55 1 (List.map zG l2)]
       refine zAz (n := 100) (m := 0) [.head 0 0, .head 0 0, .head 0 0, .head 0 0, .head 0 0, .head 0 0] [] [(AV.agg ([(ls cI d1)] ++ ([(li d2)] ++ ([(li d3)] ++ ([AV.hd 2] ++ ([AV.hd 3] ++ [])))))), (li (at_ x3.1 i1)), (li x4), (li a_p2), (li ((1 : Int) * 2 ^ a_p2.toNat)), (AV.lit (.bool (decide (x4 < ((1 : Int) * 2 ^ a_p2.toNat)))))] [[.box 26 ([(ls cI ([] : List Int))] ++ ([(li 0)] ++ ([(li 0)] ++ ([(ls zO ([] : List zm))] ++ ([(ls zG ([] : List zK))] ++ []))))), .box 26 ([(ls cI d1)] ++ ([(li d2)] ++ ([(li d3)] ++ ([AV.hd 2] ++ ([AV.hd 3] ++ []))))), .vec 51 10 (List.map zO l1), .vec 55 1 (List.map zG l2)]] (by kernel_rfl) (by kernel_rfl) ⟨?_, ?_, ?_, ?_, ?_, ?_, trivial⟩ ?_
       ·exact fun e s p => zt (zT (k := 1) (o := 0) (m := 5) (la := ([(ls cI d1)] ++ ([(li d2)] ++ ([(li d3)] ++ ([AV.hd 2] ++ ([AV.hd 3] ++ [])))))) Tryz.isAgg26 Tryz.sizeOf26 (s 10 rfl) rfl rfl rfl rfl) ⟨fun _ => rfl, rfl⟩
       ·exact fun e s p => zt (zB (av := (li (at_ x3.1 i1))) (s 14 rfl)) ⟨fun _ => rfl, rfl⟩
       ·
        intro e17 hs17 hp16
        refine zA3 (r' := (li x4)) (la := [(AV.agg ([(ls cI d1)] ++ ([(li d2)] ++ ([(li d3)] ++ ([AV.hd 2] ++ ([AV.hd 3] ++ [])))))), (li (at_ x3.1 i1))]) (la' := [(AV.agg ([(ls cI d1)] ++ ([(li d2)] ++ ([(li d3)] ++ ([(ls zO l1)] ++ ([(ls zG l2)] ++ [])))))), (li (at_ x3.1 i1))]) (r := (li x4)) (S := [2, 3]) Tryz.func39 rfl (by kernel_rfl) (.fn 39) (zAF hp16.1 (zAF hp16.2.1 rfl)) ⟨zAt.agg (by exact ⟨zAt.nr rfl, ⟨zAt.nr rfl, ⟨zAt.nr rfl, ⟨zIl (fun _ => rfl) rfl rfl, ⟨zIl (fun _ => rfl) rfl rfl, trivial⟩⟩⟩⟩⟩), zAt.nr rfl, trivial⟩ (zGH hx4) (.inr trivial) rfl ?_
        exact zF ⟨fun _ => rfl, rfl⟩
       ·exact fun e s p => zt (zB (av := (li a_p2)) (s 2 rfl)) ⟨fun _ => rfl, rfl⟩
       ·exact fun e s p => zt (zDp (a := 1) (b := a_p2) rfl p.1 hb7 hb8) ⟨fun _ => rfl, rfl⟩
       ·exact fun e s p => zt (zf (a := x4) (b := (1 : Int) * 2 ^ a_p2.toNat) p.1 p.2.1) ⟨fun _ => rfl, rfl⟩
       intro e21 hs21 hq2
       refine zY (zBV (l := [(2, (li a_p2)), (6, (AV.ptr 0 0)), (10, (AV.ptr 1 0)), (14, (li (at_ x3.1 i1))), (56, (ls cI x3.1)), (57, (li (x3.1.length : Int))), (58, (li i1)), (67, (AV.lit (.bool (decide (x4 < ((1 : Int) * 2 ^ a_p2.toNat))))))]) ⟨(hs21 2 rfl), (hs21 6 rfl), (hs21 10 rfl), (hs21 14 rfl), (hs21 56 rfl), (hs21 57 rfl), (hs21 58 rfl), (hq2 5 (by decide) (by decide)), trivial⟩) ?_
       refine zQ (decide (x4 < ((1 : Int) * 2 ^ a_p2.toNat))) rfl (fun hb9 => ?_) (fun hb9 => ?_)
       ·replace h := zo hb9 h
        refine z8 ?_
        exact ⟨d1, d2, d3, l1, l2, Rep.trans (zAP (k := 1) (j := 2) (o := 3) rfl rfl rfl rfl) (Rep.trans (zAP (k := 1) (j := 3) (o := 4) rfl rfl rfl rfl) (zAE [0, 1] (l := [(2, (li a_p2)), (6, (AV.ptr 0 0)), (10, (AV.ptr 1 0)), (56, (ls cI x3.1)), (57, (li (x3.1.length : Int))), (58, (li i1))]) rfl rfl (by kernel_rfl))), h⟩
       ·replace h := zv hb9 h
        refine zR ?_
        refine z5 (fun e' H' => ∃ (d7 : List Int) (d8 : Int) (d9 : Int) (l5 : List zm) (l6 : List zK), Rep 100 0 e' H' (mkE [(2, (li a_p2)), (6, (AV.ptr 0 0)), (10, (AV.ptr 1 0)), (14, (li (at_ x3.1 i1))), (56, (ls cI x3.1)), (57, (li (x3.1.length : Int))), (58, (li i1))]) [.box 26 ([(ls cI ([] : List Int))] ++ ([(li 0)] ++ ([(li 0)] ++ ([(ls zO ([] : List zm))] ++ ([(ls zG ([] : List zK))] ++ []))))), .box 26 ([(ls cI d7)] ++ ([(li d8)] ++ ([(li d9)] ++ ([AV.osl 51 10 (List.map zO l5)] ++ ([AV.osl 55 1 (List.map zG l6)] ++ [])))))] ∧ zDw (zAf a_p2 x3 n0) a_p2 x3 i1 d7 d8 d9 l5 l6 = some r) ?_ ?_
        ·
         refine zI <| zC <| zA (zM Tryz.underlying26 rfl rfl Tryz.sizeOf24 rfl) <| zA (zN Tryz.isAgg24 rfl rfl rfl rfl) <| zA (zEn (f := zG) (l := l2) Tryz.underlying24 rfl rfl) <| zA (zB rfl) ?_
         refine zF <| zS <| z9 (σ := Nat × Int × (List Int) × Int × Int × (List zm) × (List zK)) (fun s => s.1) (fun s e' H' => match s with | (n1, i2, d10, d11, d12, l7, l8) => Rep 100 0 e' H' (mkE [(2, (li a_p2)), (6, (AV.ptr 0 0)), (10, (AV.ptr 1 0)), (14, (li (at_ x3.1 i1))), (56, (ls cI x3.1)), (57, (li (x3.1.length : Int))), (58, (li i1)), (70, (li (l2.length : Int))), (71, (li i2))]) [.box 26 ([(ls cI ([] : List Int))] ++ ([(li 0)] ++ ([(li 0)] ++ ([(ls zO ([] : List zm))] ++ ([(ls zG ([] : List zK))] ++ []))))), .box 26 ([(ls cI d10)] ++ ([(li d11)] ++ ([(li d12)] ++ ([AV.osl 51 10 (List.map zO l7)] ++ ([AV.osl 55 1 (List.map zG l8)] ++ [])))))] ∧ zCV (zAf a_p2 x3 n0) a_p2 x3 i1 l2 n1 i2 d10 d11 d12 l7 l8 = some r) (zAC, 0, d1, d2, d3, l1, l2) ⟨Rep.trans (zAP (k := 1) (j := 2) (o := 3) rfl rfl rfl rfl) (Rep.trans (zAP (k := 1) (j := 3) (o := 4) rfl rfl rfl rfl) (zAE [0, 1] (l := [(2, (li a_p2)), (6, (AV.ptr 0 0)), (10, (AV.ptr 1 0)), (14, (li (at_ x3.1 i1))), (56, (ls cI x3.1)), (57, (li (x3.1.length : Int))), (58, (li i1)), (70, (li (l2.length : Int))), (71, (li 0))]) rfl rfl (by kernel_rfl))), h⟩ ?_
         clear h
         rintro ⟨n1, i2, d10, d11, d12, l7, l8⟩ e' H' ⟨hrep, h⟩
         cases n1 with
         | zero => exact absurd (show (none : Option _) = some r from h) (by simp)
         | succ n1 =>
          replace h : zDn (zAf a_p2 x3 n0) a_p2 x3 i1 l2 (zCV (zAf a_p2 x3 n0) a_p2 x3 i1 l2 n1) i2 d10 d11 d12 l7 l8 = some r := h
          unfold zDn at h
          refine zY hrep ?_
          clear hrep
          refine zI <| zC <| zA (zf rfl rfl) <| zF <| zI ?_
          refine zQ (decide (i2 < (l2.length : Int))) rfl (fun hb12 => ?_) (fun hb12 => ?_)
          ·replace h := zo hb12 h
           refine zR <| zI <| zS <| zI <| zC <| zA (zB rfl) ?_
           refine zA (zD rfl) <| zF <| zC <| zA (zB rfl) <| zA (zB rfl) ?_
           refine zP h ?_; clear h; intro x6 hx6 h
           refine zD2 (k := 1) (la := [(AV.ptr 1 0), (li i2), (li (at_ x3.1 i1))]) (la' := [(AV.ptr 0 0), (li i2), (li (at_ x3.1 i1))]) (r := (.tup [])) (S := []) (en' := .box 26 ([(ls cI x6.nodes)] ++ ([(li x6.batch)] ++ ([(li x6.high)] ++ ([AV.osl 51 10 (List.map zO x6.zones)] ++ ([AV.osl 55 1 (List.map zG x6.caches)] ++ [])))))) Tryz.func56 rfl (by kernel_rfl) (.fn 56) rfl ⟨zCn.ptr, zCn.of (zAt.nr rfl), zCn.of (zAt.nr rfl), trivial⟩ rfl rfl (by kernel_rfl) (by kernel_rfl) (zF5 hx6) rfl (.inl rfl) <| zF <| zC ?_
           have hb13 := (zH h).1
           replace h := (zH h).2
           refine zA (ze rfl rfl hb13) <| zA (zB rfl) <| zF ?_
           exact ⟨(n1, (i2 + 1), x6.nodes, x6.batch, x6.high, x6.zones, x6.caches), Nat.lt_succ_self _, zAE [0, 1] rfl rfl (by kernel_rfl), h⟩
          ·replace h := zv hb12 h
           refine z8 ?_
           exact ⟨d10, d11, d12, l7, l8, zAE [0, 1] rfl rfl (by kernel_rfl), h⟩
        ·
         clear h
         rintro e' H' ⟨d7, d8, d9, l5, l6, hrep, h⟩
         refine zY hrep ?_
         clear hrep
         unfold zDw at h
         refine zI <| zC <| zA (zM Tryz.underlying26 rfl rfl Tryz.sizeOf23 rfl) <| zAe (zB0 (k := 1) (o := 3) (t' := 51) (sz := 10) (rows := List.map zO l5) rfl rfl) <| zA (zN Tryz.isAgg23 rfl rfl rfl rfl) <| zA (zB rfl) ?_
         have hb10 := (zH h).1
         replace h := (zH h).2
         refine zA (zAI (f := zO) (l := l5) (i := at_ x3.1 i1) Tryz.underlying23 Tryz.sizeOf51 rfl rfl rfl hb10) <| zA (zDj (f := zO) (l := l5) (i := at_ x3.1 i1) (c := 0) (q := 10) (la := (zO (at_ l5 (at_ x3.1 i1)))) Tryz.isAgg51 Tryz.sizeOf51 rfl rfl (by first | rfl | omega) hb10 rfl rfl rfl) <| zA (zB rfl) ?_
         refine zP h ?_; clear h; intro x5 hx5 h
         refine zd Tryz.func64 rfl (by kernel_rfl) (.fn 64) rfl rfl (zJb hx5) rfl <| zA (zB rfl) <| zA (zl rfl rfl) <| zA (zl rfl rfl) <| zA (zl rfl rfl) <| zb (H' := [.box 26 ([(ls cI ([] : List Int))] ++ ([(li 0)] ++ ([(li 0)] ++ ([(ls zO ([] : List zm))] ++ ([(ls zG ([] : List zK))] ++ []))))), .box 26 ([(ls cI d7)] ++ ([(li d8)] ++ ([(li d9)] ++ ([AV.hd 2] ++ ([AV.osl 55 1 (List.map zG l6)] ++ []))))), .vec 51 10 (List.map zO l5), .box 51 ([(li 0)] ++ ([(li 0)] ++ ([(li 0)] ++ ([(li 0)] ++ ([(li 0)] ++ ((cA 5 (eS cI) ([] : List Int) (List.replicate 5 ([] : List Int))) ++ []))))))]) (z6 (t := 51) (vs := [.int .i64 0, .int .i64 0, .int .i64 0, .int .i64 0, .int .i64 0, .slice none 0 0, .slice none 0 0, .slice none 0 0, .slice none 0 0, .slice none 0 0]) (cs := [.lit (.int .i64 0), .lit (.int .i64 0), .lit (.int .i64 0), .lit (.int .i64 0), .lit (.int .i64 0), .sl false [], .sl false [], .sl false [], .sl false [], .sl false []]) Tryz.zeroValue51 (by kernel_rfl) rfl ⟨zq.refl _, zq.refl _, zq.refl _, zq.refl _, zq.refl _, zq.nils, zq.nils, zq.nils, zq.nils, zq.nils, trivial⟩) ?_
         refine zx (H' := [.box 26 ([(ls cI ([] : List Int))] ++ ([(li 0)] ++ ([(li 0)] ++ ([(ls zO ([] : List zm))] ++ ([(ls zG ([] : List zK))] ++ []))))), .box 26 ([(ls cI d7)] ++ ([(li d8)] ++ ([(li d9)] ++ ([AV.hd 2] ++ ([AV.osl 55 1 (List.map zG l6)] ++ []))))), .vec 51 10 (List.map zO l5), .box 51 (zO x5.1)]) (zh (k := 3) (o := 0) (cs := ([(li 0)] ++ ([(li 0)] ++ ([(li 0)] ++ ([(li 0)] ++ ([(li 0)] ++ ((cA 5 (eS cI) ([] : List Int) (List.replicate 5 ([] : List Int))) ++ []))))))) (la := (zO x5.1)) Tryz.sizeOf51 rfl rfl rfl rfl) <| zA (zD rfl) <| zA (zD rfl) <| zF <| zI <| zC ?_
         refine zA (zB rfl) <| zA (zBT rfl rfl) <| zF ?_
         refine zQ (decide (x5.2.2 = 0)) rfl (fun hb11 => ?_) (fun hb11 => ?_)
         ·replace h := zo hb11 h
          refine zI <| zC <| zA (zM Tryz.underlying26 rfl rfl Tryz.sizeOf23 rfl) <| zA (zN Tryz.isAgg23 rfl rfl rfl rfl) <| zA (zB rfl) <| zA (zT (k := 3) (o := 0) (m := 10) Tryz.isAgg51 Tryz.sizeOf51 rfl rfl rfl rfl rfl) ?_
          refine zA (zAI (f := zO) (l := l5) (i := at_ x3.1 i1) Tryz.underlying23 Tryz.sizeOf51 rfl rfl rfl hb10) <| zx (H' := [.box 26 ([(ls cI ([] : List Int))] ++ ([(li 0)] ++ ([(li 0)] ++ ([(ls zO ([] : List zm))] ++ ([(ls zG ([] : List zK))] ++ []))))), .box 26 ([(ls cI d7)] ++ ([(li d8)] ++ ([(li d9)] ++ ([AV.hd 2] ++ ([AV.osl 55 1 (List.map zG l6)] ++ []))))), .vec 51 10 (List.map zO (l5.set (at_ x3.1 i1).toNat x5.1)), .box 51 (zO x5.1)]) (zCw (k := 2) (o := ((at_ x3.1 i1).toNat * 10)) (f := zO) (l := l5) (i := at_ x3.1 i1) (z := x5.1) Tryz.sizeOf51 (fun _ => rfl) rfl rfl (by first | rfl | omega) hb10 rfl rfl) <| zF <| zI <| zC <| zAe (zAP (k := 1) (j := 2) (o := 3) rfl rfl rfl rfl) ?_
          refine zAe (zCL (k := 1) (o := 3) (rows' := List.map zO (l5.set (at_ x3.1 i1).toNat x5.1)) rfl rfl (zAa (fun _ => rfl))) <| zAe (zCL (k := 1) (o := 4) (rows' := List.map zG l6) rfl rfl (zAa (fun _ => rfl))) <| zA (zT (k := 1) (o := 0) (m := 5) Tryz.isAgg26 Tryz.sizeOf26 rfl rfl rfl rfl rfl) <| zA (zB rfl) <| zx (H' := [.box 26 (zJ (⟨d7, d8, d9, l5.set (at_ x3.1 i1).toNat x5.1, l6⟩ : zL)), .box 26 ([(ls cI d7)] ++ ([(li d8)] ++ ([(li d9)] ++ ([(ls zO (l5.set (at_ x3.1 i1).toNat x5.1))] ++ ([(ls zG l6)] ++ []))))), .dead, .box 51 (zO x5.1)]) (zh (k := 0) (o := 0) (cs := ([(ls cI ([] : List Int))] ++ ([(li 0)] ++ ([(li 0)] ++ ([(ls zO ([] : List zm))] ++ ([(ls zG ([] : List zK))] ++ [])))))) (la := (zJ (⟨d7, d8, d9, l5.set (at_ x3.1 i1).toNat x5.1, l6⟩ : zL))) Tryz.sizeOf26 rfl rfl rfl rfl) <| zA (zD rfl) ?_
          refine zA (zD rfl) <| zF <| za ?_
          show zAS _ _ _ _ _ _
          obtain rfl := Option.some.inj h
          exact zEF (zHH Tryz.isAgg26 Tryz.sizeOf26 rfl rfl rfl rfl) (zAK rfl rfl) (zAK rfl rfl) rfl
         ·replace h := zv hb11 h
          refine zR ?_
          exact ⟨d7, d8, d9, l5, l6, Rep.trans (zAP (k := 1) (j := 2) (o := 3) rfl rfl rfl rfl) (zAE [0, 1] (l := [(2, (li a_p2)), (6, (AV.ptr 0 0)), (10, (AV.ptr 1 0)), (56, (ls cI x3.1)), (57, (li (x3.1.length : Int))), (58, (li i1))]) rfl rfl (by kernel_rfl)), h⟩
      ·
       clear h
       rintro e' H' ⟨d4, d5, d6, l3, l4, hrep, h⟩
       refine zY hrep ?_
       clear hrep
       unfold zCX at h
       refine zC ?_
       have hb5 := (zH h).1
       replace h := (zH h).2
       refine zA (ze rfl rfl hb5) <| zA (zB rfl) <| zF ?_
       exact ⟨(n0, (i1 + 1), d4, d5, d6, l3, l4), Nat.lt_succ_self _, zAE [0, 1] rfl rfl (by kernel_rfl), h⟩
     ·replace h := zv hb4 h
      refine z8 ?_
      exact ⟨zAE [0] rfl rfl (by kernel_rfl), h⟩
   ·
    clear h
    rintro e' H' ⟨hrep, h⟩
    refine zY hrep ?_
    clear hrep
    unfold zDt at h
    refine zI <| zC <| zA (zAD (pl := [(0, 1), (1, 1), (2, 1), (3, 1), (4, 1)]) (zs := [.slice none 0 0, .int .i64 0, .int .i64 0, .slice none 0 0, .slice none 0 0]) (zc := [.sl false [], .lit (.int .i64 0), .lit (.int .i64 0), .sl false [], .sl false []]) (res := (zJ (⟨([] : List Int), 0, 0, ([] : List zm), ([] : List zK)⟩ : zL))) (fun _ => by kernel_rfl) rfl (⟨zq.nils, ⟨zq.refl _, ⟨zq.refl _, ⟨zq.nils, ⟨zq.nils, trivial⟩⟩⟩⟩⟩) (by exact zGB.refl _)) <| zx (H' := [.box 26 (zJ (⟨([] : List Int), 0, 0, ([] : List zm), ([] : List zK)⟩ : zL))]) (zh (k := 0) (o := 0) (cs := ([(ls cI ([] : List Int))] ++ ([(li 0)] ++ ([(li 0)] ++ ([(ls zO ([] : List zm))] ++ ([(ls zG ([] : List zK))] ++ [])))))) (la := (zJ (⟨([] : List Int), 0, 0, ([] : List zm), ([] : List zK)⟩ : zL))) Tryz.sizeOf26 rfl rfl rfl rfl) <| zA (zD rfl) <| zA (zD rfl) ?_
    refine zF <| za ?_
    show zAS _ _ _ _ _ _
    obtain rfl := Option.some.inj h
    exact zEF (zHH Tryz.isAgg26 Tryz.sizeOf26 rfl rfl rfl rfl) (zAK rfl rfl) (zAK rfl rfl) rfl
theorem zJt {a_a : zL} {r : zL} (h : zHT a_a = some r) : PFn Tryz.prog 34 [(AV.agg (zJ a_a))] (AV.agg (zJ r)) := by
 refine zi Tryz.func34 rfl Tryz.ntmps34 Tryz.results34 rfl ?_
 unfold zHT at h
 refine zI <| zC <| zb (H' := [.box 26 (zJ a_a)]) (zu (t := 26) rfl) <| zb (H' := [.box 26 (zJ a_a), .box 26 ([(ls cI ([] : List Int))] ++ ([(li 0)] ++ ([(li 0)] ++ ([(ls zO ([] : List zm))] ++ ([(ls zG ([] : List zK))] ++ [])))))]) (z6 (t := 26) (vs := [.slice none 0 0, .int .i64 0, .int .i64 0, .slice none 0 0, .slice none 0 0]) (cs := [.sl false [], .lit (.int .i64 0), .lit (.int .i64 0), .sl false [], .sl false []]) Tryz.zeroValue26 (by kernel_rfl) rfl ⟨zq.nils, zq.refl _, zq.refl _, zq.nils, zq.nils, trivial⟩) <| zF <| zI ?_
 refine zI <| zC <| zA (zT (k := 0) (o := 0) (m := 5) Tryz.isAgg26 Tryz.sizeOf26 rfl rfl rfl rfl rfl) ?_
 refine zP h ?_; clear h; intro x1 hx1 h
 refine zd Tryz.func13 rfl (by kernel_rfl) (.fn 13) rfl rfl (zAn hx1) rfl <| zA (z7 rfl rfl) <| zF ?_
 refine zQ (!decide (x1 = 0)) rfl (fun hb1 => ?_) (fun hb1 => ?_)
 ·replace h := zo hb1 h
  refine zI <| zC <| zA (zAD (pl := [(0, 1), (1, 1), (2, 1), (3, 1), (4, 1)]) (zs := [.slice none 0 0, .int .i64 0, .int .i64 0, .slice none 0 0, .slice none 0 0]) (zc := [.sl false [], .lit (.int .i64 0), .lit (.int .i64 0), .sl false [], .sl false []]) (res := (zJ (⟨([] : List Int), 0, 0, ([] : List zm), ([] : List zK)⟩ : zL))) (fun _ => by kernel_rfl) rfl (⟨zq.nils, ⟨zq.refl _, ⟨zq.refl _, ⟨zq.nils, ⟨zq.nils, trivial⟩⟩⟩⟩⟩) (by exact zGB.refl _)) <| zx (H' := [.box 26 (zJ a_a), .box 26 (zJ (⟨([] : List Int), 0, 0, ([] : List zm), ([] : List zK)⟩ : zL))]) (zh (k := 1) (o := 0) (cs := ([(ls cI ([] : List Int))] ++ ([(li 0)] ++ ([(li 0)] ++ ([(ls zO ([] : List zm))] ++ ([(ls zG ([] : List zK))] ++ [])))))) (la := (zJ (⟨([] : List Int), 0, 0, ([] : List zm), ([] : List zK)⟩ : zL))) Tryz.sizeOf26 rfl rfl rfl rfl) <| zF <| za ?_
  show zAS _ _ _ _ _ _
  obtain rfl := Option.some.inj h
  exact zp (zHH Tryz.isAgg26 Tryz.sizeOf26 rfl rfl rfl rfl)
 ·replace h := zv hb1 h
  refine zR <| zI <| zC <| zA (zT (k := 0) (o := 0) (m := 5) Tryz.isAgg26 Tryz.sizeOf26 rfl rfl rfl rfl rfl) ?_
  refine zP h ?_; clear h; intro x2 hx2 h
  refine zIK (cs := ([(ls cI x2.nodes)] ++ ([(li x2.batch)] ++ ([(li x2.high)] ++ ([AV.osl 51 10 (List.map zO x2.zones)] ++ ([AV.osl 55 1 (List.map zG x2.caches)] ++ [])))))) (la := [(AV.agg (zJ a_a))]) (la' := [(AV.agg (zJ a_a))]) (S := []) Tryz.func54 rfl (by kernel_rfl) (.fn 54) rfl ⟨zAt.nr rfl, trivial⟩ (zEI hx2) (.inl rfl) <| zb (H' := [.box 26 (zJ a_a), .box 26 ([(ls cI ([] : List Int))] ++ ([(li 0)] ++ ([(li 0)] ++ ([(ls zO ([] : List zm))] ++ ([(ls zG ([] : List zK))] ++ []))))), .val (.agg ([(ls cI x2.nodes)] ++ ([(li x2.batch)] ++ ([(li x2.high)] ++ ([AV.osl 51 10 (List.map zO x2.zones)] ++ ([AV.osl 55 1 (List.map zG x2.caches)] ++ [])))))), .box 26 ([(ls cI ([] : List Int))] ++ ([(li 0)] ++ ([(li 0)] ++ ([(ls zO ([] : List zm))] ++ ([(ls zG ([] : List zK))] ++ [])))))]) (z6 (t := 26) (vs := [.slice none 0 0, .int .i64 0, .int .i64 0, .slice none 0 0, .slice none 0 0]) (cs := [.sl false [], .lit (.int .i64 0), .lit (.int .i64 0), .sl false [], .sl false []]) Tryz.zeroValue26 (by kernel_rfl) rfl ⟨zq.nils, zq.refl _, zq.refl _, zq.nils, zq.nils, trivial⟩) <| zx (H' := [.box 26 (zJ a_a), .box 26 ([(ls cI ([] : List Int))] ++ ([(li 0)] ++ ([(li 0)] ++ ([(ls zO ([] : List zm))] ++ ([(ls zG ([] : List zK))] ++ []))))), .dead, .box 26 ([(ls cI x2.nodes)] ++ ([(li x2.batch)] ++ ([(li x2.high)] ++ ([AV.osl 51 10 (List.map zO x2.zones)] ++ ([AV.osl 55 1 (List.map zG x2.caches)] ++ [])))))]) (zEk (k := 3) (o := 0) (j := 2) (cs := ([(ls cI ([] : List Int))] ++ ([(li 0)] ++ ([(li 0)] ++ ([(ls zO ([] : List zm))] ++ ([(ls zG ([] : List zK))] ++ [])))))) (la := ([(ls cI x2.nodes)] ++ ([(li x2.batch)] ++ ([(li x2.high)] ++ ([AV.osl 51 10 (List.map zO x2.zones)] ++ ([AV.osl 55 1 (List.map zG x2.caches)] ++ [])))))) Tryz.sizeOf26 rfl rfl rfl rfl rfl (by decide)) <| zF ?_
  refine z5 (fun e' H' => ∃ (d1 : List Int) (d2 : Int) (d3 : Int) (l1 : List zm) (l2 : List zK), Rep 30 0 e' H' (mkE [(2, (AV.ptr 0 0)), (3, (AV.ptr 1 0))]) [.box 26 ([(ls cI ([] : List Int))] ++ ([(li 0)] ++ ([(li 0)] ++ ([(ls zO ([] : List zm))] ++ ([(ls zG ([] : List zK))] ++ []))))), .box 26 ([(ls cI d1)] ++ ([(li d2)] ++ ([(li d3)] ++ ([AV.osl 51 10 (List.map zO l1)] ++ ([AV.osl 55 1 (List.map zG l2)] ++ [])))))] ∧ zF0 d1 d2 d3 l1 l2 = some r) ?_ ?_
  ·
   refine zI <| zC <| zA (zM Tryz.underlying26 rfl rfl Tryz.sizeOf24 rfl) <| zAe (zB0 (k := 3) (o := 4) (t' := 55) (sz := 1) (rows := List.map zG x2.caches) rfl rfl) <| zA (zN Tryz.isAgg24 rfl rfl rfl rfl) <| zA (zEn (f := zG) (l := x2.caches) Tryz.underlying24 rfl rfl) ?_
   refine zA (zB rfl) <| zF <| zS <| z9 (σ := Nat × Int × (List Int) × Int × Int × (List zm) × (List zK)) (fun s => s.1) (fun s e' H' => match s with | (n0, i1, d4, d5, d6, l3, l4) => Rep 30 0 e' H' (mkE [(2, (AV.ptr 0 0)), (3, (AV.ptr 1 0)), (14, (li (x2.caches.length : Int))), (15, (li i1))]) [.box 26 ([(ls cI ([] : List Int))] ++ ([(li 0)] ++ ([(li 0)] ++ ([(ls zO ([] : List zm))] ++ ([(ls zG ([] : List zK))] ++ []))))), .box 26 ([(ls cI d4)] ++ ([(li d5)] ++ ([(li d6)] ++ ([AV.osl 51 10 (List.map zO l3)] ++ ([AV.osl 55 1 (List.map zG l4)] ++ [])))))] ∧ zBQ x2 n0 i1 d4 d5 d6 l3 l4 = some r) (zAC, 0, x2.nodes, x2.batch, x2.high, x2.zones, x2.caches) ⟨Rep.trans (zAP (k := 3) (j := 4) (o := 4) rfl rfl rfl rfl) (zAE [1, 3] (l := [(2, (AV.ptr 0 0)), (3, (AV.ptr 1 0)), (14, (li (x2.caches.length : Int))), (15, (li 0))]) rfl rfl (by kernel_rfl)), h⟩ ?_
   clear h
   rintro ⟨n0, i1, d4, d5, d6, l3, l4⟩ e' H' ⟨hrep, h⟩
   cases n0 with
   | zero => exact absurd (show (none : Option _) = some r from h) (by simp)
   | succ n0 =>
    replace h : zF6 x2 (zBQ x2 n0) i1 d4 d5 d6 l3 l4 = some r := h
    unfold zF6 at h
    refine zY hrep ?_
    clear hrep
    refine zI <| zC <| zA (zf rfl rfl) <| zF <| zI ?_
    refine zQ (decide (i1 < (x2.caches.length : Int))) rfl (fun hb2 => ?_) (fun hb2 => ?_)
    ·replace h := zo hb2 h
     refine zR ?_
     refine z5 (fun e' H' => ∃ (d7 : List Int) (d8 : Int) (d9 : Int) (l5 : List zm) (l6 : List zK), Rep 30 0 e' H' (mkE [(2, (AV.ptr 0 0)), (3, (AV.ptr 1 0)), (14, (li (x2.caches.length : Int))), (15, (li i1))]) [.box 26 ([(ls cI ([] : List Int))] ++ ([(li 0)] ++ ([(li 0)] ++ ([(ls zO ([] : List zm))] ++ ([(ls zG ([] : List zK))] ++ []))))), .box 26 ([(ls cI d7)] ++ ([(li d8)] ++ ([(li d9)] ++ ([AV.osl 51 10 (List.map zO l5)] ++ ([AV.osl 55 1 (List.map zG l6)] ++ [])))))] ∧ zFb (zBQ x2 n0) i1 d7 d8 d9 l5 l6 = some r) ?_ ?_
     ·
      refine zS <| zI <| zC <| zA (zB rfl) <| zA (zD rfl) <| zF ?_
      refine zI <| zC <| zA (zM Tryz.underlying26 rfl rfl Tryz.sizeOf23 rfl) <| zAe (zB0 (k := 1) (o := 3) (t' := 51) (sz := 10) (rows := List.map zO l3) rfl rfl) <| zA (zN Tryz.isAgg23 rfl rfl rfl rfl) <| zA (zEn (f := zO) (l := l3) Tryz.underlying23 rfl rfl) ?_
      refine zA (zB rfl) <| zF <| zS <| z9 (σ := Nat × Int × (List Int) × Int × Int × (List zm) × (List zK)) (fun s => s.1) (fun s e' H' => match s with | (n1, i2, d10, d11, d12, l7, l8) => Rep 30 0 e' H' (mkE [(2, (AV.ptr 0 0)), (3, (AV.ptr 1 0)), (4, (li i1)), (14, (li (x2.caches.length : Int))), (15, (li i1)), (20, (li (l3.length : Int))), (21, (li i2))]) [.box 26 ([(ls cI ([] : List Int))] ++ ([(li 0)] ++ ([(li 0)] ++ ([(ls zO ([] : List zm))] ++ ([(ls zG ([] : List zK))] ++ []))))), .box 26 ([(ls cI d10)] ++ ([(li d11)] ++ ([(li d12)] ++ ([AV.osl 51 10 (List.map zO l7)] ++ ([AV.osl 55 1 (List.map zG l8)] ++ [])))))] ∧ zEH (zBQ x2 n0) i1 l3 n1 i2 d10 d11 d12 l7 l8 = some r) (zAC, 0, d4, d5, d6, l3, l4) ⟨Rep.trans (zAP (k := 1) (j := 2) (o := 3) rfl rfl rfl rfl) (zAE [0, 1] (l := [(2, (AV.ptr 0 0)), (3, (AV.ptr 1 0)), (4, (li i1)), (14, (li (x2.caches.length : Int))), (15, (li i1)), (20, (li (l3.length : Int))), (21, (li 0))]) rfl rfl (by kernel_rfl)), h⟩ ?_
      clear h
      rintro ⟨n1, i2, d10, d11, d12, l7, l8⟩ e' H' ⟨hrep, h⟩
      cases n1 with
      | zero => exact absurd (show (none : Option _) = some r from h) (by simp)
      | succ n1 =>
       replace h : zFe (zBQ x2 n0) i1 l3 (zEH (zBQ x2 n0) i1 l3 n1) i2 d10 d11 d12 l7 l8 = some r := h
       unfold zFe at h
       refine zY hrep ?_
       clear hrep
       refine zI <| zC <| zA (zf rfl rfl) <| zF <| zI ?_
       refine zQ (decide (i2 < (l3.length : Int))) rfl (fun hb4 => ?_) (fun hb4 => ?_)
       ·replace h := zo hb4 h
        refine zR <| zI <| zS <| zI <| zC <| zA (zB rfl) ?_
        refine zA (zD rfl) <| zF <| zC <| zA (zB rfl) <| zA (zB rfl) ?_
        refine zP h ?_; clear h; intro x3 hx3 h
        refine zD2 (k := 1) (la := [(AV.ptr 1 0), (li i1), (li i2)]) (la' := [(AV.ptr 0 0), (li i1), (li i2)]) (r := (.tup [])) (S := []) (en' := .box 26 ([(ls cI x3.nodes)] ++ ([(li x3.batch)] ++ ([(li x3.high)] ++ ([AV.osl 51 10 (List.map zO x3.zones)] ++ ([AV.osl 55 1 (List.map zG x3.caches)] ++ [])))))) Tryz.func56 rfl (by kernel_rfl) (.fn 56) rfl ⟨zCn.ptr, zCn.of (zAt.nr rfl), zCn.of (zAt.nr rfl), trivial⟩ rfl rfl (by kernel_rfl) (by kernel_rfl) (zF5 hx3) rfl (.inl rfl) <| zF <| zC ?_
        have hb5 := (zH h).1
        replace h := (zH h).2
        refine zA (ze rfl rfl hb5) <| zA (zB rfl) <| zF ?_
        exact ⟨(n1, (i2 + 1), x3.nodes, x3.batch, x3.high, x3.zones, x3.caches), Nat.lt_succ_self _, zAE [0, 1] rfl rfl (by kernel_rfl), h⟩
       ·replace h := zv hb4 h
        refine z8 ?_
        exact ⟨d10, d11, d12, l7, l8, zAE [0, 1] rfl rfl (by kernel_rfl), h⟩
     ·
      clear h
      rintro e' H' ⟨d7, d8, d9, l5, l6, hrep, h⟩
      refine zY hrep ?_
      clear hrep
      unfold zFb at h
      refine zC ?_
      have hb3 := (zH h).1
      replace h := (zH h).2
      refine zA (ze rfl rfl hb3) <| zA (zB rfl) <| zF ?_
      exact ⟨(n0, (i1 + 1), d7, d8, d9, l5, l6), Nat.lt_succ_self _, zAE [0, 1] rfl rfl (by kernel_rfl), h⟩
    ·replace h := zv hb2 h
     refine z8 ?_
     exact ⟨d4, d5, d6, l3, l4, zAE [0, 1] rfl rfl (by kernel_rfl), h⟩
  ·
   clear h
   rintro e' H' ⟨d1, d2, d3, l1, l2, hrep, h⟩
   refine zY hrep ?_
   clear hrep
   unfold zF0 at h
   refine zI <| zC <| zAe (zCL (k := 1) (o := 3) (rows' := List.map zO l1) rfl rfl (zAa (fun _ => rfl))) <| zAe (zCL (k := 1) (o := 4) (rows' := List.map zG l2) rfl rfl (zAa (fun _ => rfl))) <| zA (zT (k := 1) (o := 0) (m := 5) Tryz.isAgg26 Tryz.sizeOf26 rfl rfl rfl rfl rfl) <| zx (H' := [.box 26 (zJ (⟨d1, d2, d3, l1, l2⟩ : zL)), .box 26 ([(ls cI d1)] ++ ([(li d2)] ++ ([(li d3)] ++ ([(ls zO l1)] ++ ([(ls zG l2)] ++ [])))))]) (zh (k := 0) (o := 0) (cs := ([(ls cI ([] : List Int))] ++ ([(li 0)] ++ ([(li 0)] ++ ([(ls zO ([] : List zm))] ++ ([(ls zG ([] : List zK))] ++ [])))))) (la := (zJ (⟨d1, d2, d3, l1, l2⟩ : zL))) Tryz.sizeOf26 rfl rfl rfl rfl) ?_
   refine zF <| za ?_
   show zAS _ _ _ _ _ _
   obtain rfl := Option.some.inj h
   exact zp (zHH Tryz.isAgg26 Tryz.sizeOf26 rfl rfl rfl rfl)
theorem zIB {a_a : List Int} {a_b : List Int} {r : Bool} (h : zGZ a_a a_b = some r) : PFn Tryz.prog 61 [(ls cI a_a), (ls cI a_b)] (AV.lit (.bool r)) := by
 refine zi Tryz.func61 rfl Tryz.ntmps61 Tryz.results61 rfl ?_
 unfold zGZ at h
 refine zI <| zC <| zA (zD rfl) <| zF <| zI <| zI ?_
 refine zC <| zA (zB rfl) <| zA (zX Tryz.underlying22 rfl) <| zA (zB rfl) <| zA (zX Tryz.underlying22 rfl) <| zA (z7 rfl rfl) ?_
 refine zF ?_
 refine zQ (!decide ((a_a.length : Int) = (a_b.length : Int))) rfl (fun hb1 => ?_) (fun hb1 => ?_)
 ·replace h := zo hb1 h
  refine zI <| zC <| zA (zD rfl) <| zF <| za ?_
  show zAS _ _ _ _ _ _
  obtain rfl := Option.some.inj h
  exact zp (zAK rfl rfl)
 ·replace h := zv hb1 h
  refine zR ?_
  refine z5 (fun e' H' => Rep 26 0 e' H' (mkE []) [] ∧ zGJ  = some r) ?_ ?_
  ·
   refine zI <| zC <| zA (zB rfl) <| zA (zX Tryz.underlying22 rfl) <| zA (zB rfl) <| zF ?_
   refine zS <| z9 (σ := Nat × Int) (fun s => s.1) (fun s e' H' => match s with | (n0, i1) => Rep 26 0 e' H' (mkE [(0, (ls cI a_a)), (1, (ls cI a_b)), (12, (li (a_a.length : Int))), (13, (li i1))]) [] ∧ zEv a_a a_b n0 i1 = some r) (zAC, 0) ⟨zAE [] rfl rfl (by kernel_rfl), h⟩ ?_
   clear h
   rintro ⟨n0, i1⟩ e' H' ⟨hrep, h⟩
   cases n0 with
   | zero => exact absurd (show (none : Option _) = some r from h) (by simp)
   | succ n0 =>
    replace h : zGL a_a a_b (zEv a_a a_b n0) i1 = some r := h
    unfold zGL at h
    refine zY hrep ?_
    clear hrep
    refine zI <| zC <| zA (zf rfl rfl) <| zF <| zI ?_
    refine zQ (decide (i1 < (a_a.length : Int))) rfl (fun hb2 => ?_) (fun hb2 => ?_)
    ·replace h := zo hb2 h
     refine zR <| zI <| zS <| zI <| zC <| zA (zB rfl) ?_
     refine zA (zD rfl) <| zF <| zI ?_
     have hb3 := (zH h).1
     replace h := (zH h).2
     have hb4 := (zH h).1
     replace h := (zH h).2
     show AW _ _ _ _ _ _ []
     refine zAz (n := 26) (m := 0) [.head 0 0, .head 0 0, .head 0 0, .head 0 0, .head 0 0, .head 0 0, .head 0 0, .head 0 0, .head 0 0] [] [(ls cI a_a), (li i1), (AV.rp (cI (at_ a_a i1)) 0), (li (at_ a_a i1)), (ls cI a_b), (li i1), (AV.rp (cI (at_ a_b i1)) 0), (li (at_ a_b i1)), (AV.lit (.bool (!decide ((at_ a_a i1) = (at_ a_b i1)))))] [[]] (by kernel_rfl) (by kernel_rfl) ⟨?_, ?_, ?_, ?_, ?_, ?_, ?_, ?_, ?_, trivial⟩ ?_
     ·exact fun e s p => zt (zB (av := (ls cI a_a)) (s 0 rfl)) ⟨fun _ => rfl, rfl⟩
     ·exact fun e s p => zt (zB (av := (li i1)) (s 5 rfl)) ⟨fun _ => rfl, rfl⟩
     ·exact fun e s p => zt (zV (f := cI) (l := a_a) (i := i1) Tryz.underlying22 Tryz.sizeOf3 (fun _ => rfl) p.1 p.2.1 hb3) ⟨fun _ => rfl, rfl⟩
     ·exact fun e s p => zt (zW (row := (cI (at_ a_a i1))) (o := 0) (a := (li (at_ a_a i1))) Tryz.isAgg3 p.1 rfl) ⟨fun _ => rfl, rfl⟩
     ·exact fun e s p => zt (zB (av := (ls cI a_b)) (s 1 rfl)) ⟨fun _ => rfl, rfl⟩
     ·exact fun e s p => zt (zB (av := (li i1)) (s 5 rfl)) ⟨fun _ => rfl, rfl⟩
     ·exact fun e s p => zt (zV (f := cI) (l := a_b) (i := i1) Tryz.underlying22 Tryz.sizeOf3 (fun _ => rfl) p.1 p.2.1 hb4) ⟨fun _ => rfl, rfl⟩
     ·exact fun e s p => zt (zW (row := (cI (at_ a_b i1))) (o := 0) (a := (li (at_ a_b i1))) Tryz.isAgg3 p.1 rfl) ⟨fun _ => rfl, rfl⟩
     ·exact fun e s p => zt (z7 (a := at_ a_a i1) (b := at_ a_b i1) p.1 p.2.1) ⟨fun _ => rfl, rfl⟩
     intro e10 hs10 hq1
     refine zY (zBV (l := [(0, (ls cI a_a)), (1, (ls cI a_b)), (12, (li (a_a.length : Int))), (13, (li i1)), (24, (AV.lit (.bool (!decide ((at_ a_a i1) = (at_ a_b i1))))))]) ⟨(hs10 0 rfl), (hs10 1 rfl), (hs10 12 rfl), (hs10 13 rfl), (hq1 8 (by decide) (by decide)), trivial⟩) ?_
     refine zQ (!decide ((at_ a_a i1) = (at_ a_b i1))) rfl (fun hb5 => ?_) (fun hb5 => ?_)
     ·replace h := zo hb5 h
      refine zI <| zC <| zA (zD rfl) <| zF <| za ?_
      show zAS _ _ _ _ _ _
      obtain rfl := Option.some.inj h
      exact zp (zAK rfl rfl)
     ·replace h := zv hb5 h
      refine zR <| zC ?_
      have hb6 := (zH h).1
      replace h := (zH h).2
      refine zA (ze rfl rfl hb6) <| zA (zB rfl) <| zF ?_
      exact ⟨(n0, (i1 + 1)), Nat.lt_succ_self _, zAE [] rfl rfl (by kernel_rfl), h⟩
    ·replace h := zv hb2 h
     refine z8 ?_
     exact ⟨zAE [] rfl rfl (by kernel_rfl), h⟩
  ·
   clear h
   rintro e' H' ⟨hrep, h⟩
   refine zY hrep ?_
   clear hrep
   unfold zGJ at h
   refine zI <| zC <| zA (zD rfl) <| zF <| za ?_
   show zAS _ _ _ _ _ _
   obtain rfl := Option.some.inj h
   exact zp (zAK rfl rfl)
theorem zKf {a_a : List Int} {a_b : List Int} {r : Bool} (h : zHq a_a a_b = some r) : PFn Tryz.prog 117 [(ls cI a_a), (ls cI a_b)] (AV.lit (.bool r)) := by
 refine zi Tryz.func117 rfl Tryz.ntmps117 Tryz.results117 rfl ?_
 unfold zHq at h
 refine zI <| zC <| zA (zD rfl) <| zF <| zI <| zI ?_
 refine zC <| zA (zB rfl) <| zA (zX Tryz.underlying22 rfl) <| zA (zB rfl) <| zA (zX Tryz.underlying22 rfl) <| zA (z7 rfl rfl) ?_
 refine zF ?_
 refine zQ (!decide ((a_a.length : Int) = (a_b.length : Int))) rfl (fun hb1 => ?_) (fun hb1 => ?_)
 ·replace h := zo hb1 h
  refine zI <| zC <| zA (zD rfl) <| zF <| za ?_
  show zAS _ _ _ _ _ _
  obtain rfl := Option.some.inj h
  exact zp (zAK rfl rfl)
 ·replace h := zv hb1 h
  refine zR ?_
  refine z5 (fun e' H' => Rep 26 0 e' H' (mkE []) [] ∧ zGK  = some r) ?_ ?_
  ·
   refine zI <| zC <| zA (zD rfl) <| zF <| zS <| z9 (σ := Nat × Int) (fun s => s.1) (fun s e' H' => match s with | (n0, i1) => Rep 26 0 e' H' (mkE [(0, (ls cI a_a)), (1, (ls cI a_b)), (5, (li i1))]) [] ∧ zEs a_a a_b n0 i1 = some r) (zAC, 0) ⟨zAE [] rfl rfl (by kernel_rfl), h⟩ ?_
   clear h
   rintro ⟨n0, i1⟩ e' H' ⟨hrep, h⟩
   cases n0 with
   | zero => exact absurd (show (none : Option _) = some r from h) (by simp)
   | succ n0 =>
    replace h : zGE a_a a_b (zEs a_a a_b n0) i1 = some r := h
    unfold zGE at h
    refine zY hrep ?_
    clear hrep
    refine zI <| zI <| zC <| zA (zB rfl) <| zA (zB rfl) <| zA (zX Tryz.underlying22 rfl) ?_
    refine zA (zf rfl rfl) <| zF ?_
    refine zQ (decide (i1 < (a_a.length : Int))) rfl (fun hb2 => ?_) (fun hb2 => ?_)
    ·replace h := zo hb2 h
     refine zR <| zI <| zS <| zI ?_
     have hb3 := (zH h).1
     replace h := (zH h).2
     have hb4 := (zH h).1
     replace h := (zH h).2
     show AW _ _ _ _ _ _ []
     refine zAz (n := 26) (m := 0) [.head 0 0, .head 0 0, .head 0 0, .head 0 0, .head 0 0, .head 0 0, .head 0 0, .head 0 0, .head 0 0] [] [(ls cI a_a), (li i1), (AV.rp (cI (at_ a_a i1)) 0), (li (at_ a_a i1)), (ls cI a_b), (li i1), (AV.rp (cI (at_ a_b i1)) 0), (li (at_ a_b i1)), (AV.lit (.bool (!decide ((at_ a_a i1) = (at_ a_b i1)))))] [[]] (by kernel_rfl) (by kernel_rfl) ⟨?_, ?_, ?_, ?_, ?_, ?_, ?_, ?_, ?_, trivial⟩ ?_
     ·exact fun e s p => zt (zB (av := (ls cI a_a)) (s 0 rfl)) ⟨fun _ => rfl, rfl⟩
     ·exact fun e s p => zt (zB (av := (li i1)) (s 5 rfl)) ⟨fun _ => rfl, rfl⟩
     ·exact fun e s p => zt (zV (f := cI) (l := a_a) (i := i1) Tryz.underlying22 Tryz.sizeOf3 (fun _ => rfl) p.1 p.2.1 hb3) ⟨fun _ => rfl, rfl⟩
     ·exact fun e s p => zt (zW (row := (cI (at_ a_a i1))) (o := 0) (a := (li (at_ a_a i1))) Tryz.isAgg3 p.1 rfl) ⟨fun _ => rfl, rfl⟩
     ·exact fun e s p => zt (zB (av := (ls cI a_b)) (s 1 rfl)) ⟨fun _ => rfl, rfl⟩
     ·exact fun e s p => zt (zB (av := (li i1)) (s 5 rfl)) ⟨fun _ => rfl, rfl⟩
     ·exact fun e s p => zt (zV (f := cI) (l := a_b) (i := i1) Tryz.underlying22 Tryz.sizeOf3 (fun _ => rfl) p.1 p.2.1 hb4) ⟨fun _ => rfl, rfl⟩
     ·exact fun e s p => zt (zW (row := (cI (at_ a_b i1))) (o := 0) (a := (li (at_ a_b i1))) Tryz.isAgg3 p.1 rfl) ⟨fun _ => rfl, rfl⟩
     ·exact fun e s p => zt (z7 (a := at_ a_a i1) (b := at_ a_b i1) p.1 p.2.1) ⟨fun _ => rfl, rfl⟩
     intro e10 hs10 hq1
     refine zY (zBV (l := [(0, (ls cI a_a)), (1, (ls cI a_b)), (5, (li i1)), (25, (AV.lit (.bool (!decide ((at_ a_a i1) = (at_ a_b i1))))))]) ⟨(hs10 0 rfl), (hs10 1 rfl), (hs10 5 rfl), (hq1 8 (by decide) (by decide)), trivial⟩) ?_
     refine zQ (!decide ((at_ a_a i1) = (at_ a_b i1))) rfl (fun hb5 => ?_) (fun hb5 => ?_)
     ·replace h := zo hb5 h
      refine zI <| zC <| zA (zD rfl) <| zF <| za ?_
      show zAS _ _ _ _ _ _
      obtain rfl := Option.some.inj h
      exact zp (zAK rfl rfl)
     ·replace h := zv hb5 h
      refine zR <| zC <| zA (zB rfl) ?_
      have hb6 := (zH h).1
      replace h := (zH h).2
      refine zA (ze rfl rfl hb6) <| zA (zD rfl) <| zF ?_
      exact ⟨(n0, (i1 + 1)), Nat.lt_succ_self _, zAE [] rfl rfl (by kernel_rfl), h⟩
    ·replace h := zv hb2 h
     refine z8 ?_
     exact ⟨zAE [] rfl rfl (by kernel_rfl), h⟩
  ·
   clear h
   rintro e' H' ⟨hrep, h⟩
   refine zY hrep ?_
   clear hrep
   unfold zGK at h
   refine zI <| zC <| zA (zD rfl) <| zF <| za ?_
   show zAS _ _ _ _ _ _
   obtain rfl := Option.some.inj h
   exact zp (zAK rfl rfl)
theorem zML {a_a : zm} {a_b : zm} {r : Bool} (h : zKb a_a a_b = some r) : PFn Tryz.prog 62 [(AV.agg (zO a_a)), (AV.agg (zO a_b))] (AV.lit (.bool r)) := by
 refine zi Tryz.func62 rfl Tryz.ntmps62 Tryz.results62 rfl ?_
 unfold zKb at h
 refine zI <| zC <| zb (H' := [.box 51 (zO a_a)]) (zu (t := 51) rfl) <| zb (H' := [.box 51 (zO a_a), .box 51 (zO a_b)]) (zu (t := 51) rfl) <| zA (zD rfl) <| zF ?_
 refine zI <| zI <| zC <| zA (zM Tryz.underlying51 rfl rfl Tryz.sizeOf3 rfl) <| zA (zN Tryz.isAgg3 rfl rfl rfl rfl) <| zA (zM Tryz.underlying51 rfl rfl Tryz.sizeOf3 rfl) ?_
 refine zA (zN Tryz.isAgg3 rfl rfl rfl rfl) <| zA (z7 rfl rfl) <| zA (zB rfl) <| zU rfl rfl (fun hc1 => zj.step (zM Tryz.underlying51 rfl rfl Tryz.sizeOf3 rfl)) <| zU rfl rfl (fun hc2 => zj.step (zN Tryz.isAgg3 (zz rfl hc2) rfl rfl rfl)) <| zU rfl rfl (fun hc3 => zj.step (zM Tryz.underlying51 rfl rfl Tryz.sizeOf3 rfl)) ?_
 refine zU rfl rfl (fun hc4 => zj.step (zN Tryz.isAgg3 (zz rfl hc4) rfl rfl rfl)) <| zU rfl rfl (fun hc5 => zj.step (z7 (zz rfl hc5) (zz rfl hc5))) <| zA (zZ rfl rfl) <| zA (zB rfl) <| zU rfl rfl (fun hc6 => zj.step (zM Tryz.underlying51 rfl rfl Tryz.sizeOf3 rfl)) <| zU rfl rfl (fun hc7 => zj.step (zN Tryz.isAgg3 (zz rfl hc7) rfl rfl rfl)) ?_
 refine zU rfl rfl (fun hc8 => zj.step (zM Tryz.underlying51 rfl rfl Tryz.sizeOf3 rfl)) <| zU rfl rfl (fun hc9 => zj.step (zN Tryz.isAgg3 (zz rfl hc9) rfl rfl rfl)) <| zU rfl rfl (fun hc10 => zj.step (z7 (zz rfl hc10) (zz rfl hc10))) <| zA (zZ rfl rfl) <| zA (zB rfl) <| zU rfl rfl (fun hc11 => zj.step (zM Tryz.underlying51 rfl rfl Tryz.sizeOf3 rfl)) ?_
 refine zU rfl rfl (fun hc12 => zj.step (zN Tryz.isAgg3 (zz rfl hc12) rfl rfl rfl)) <| zU rfl rfl (fun hc13 => zj.step (zM Tryz.underlying51 rfl rfl Tryz.sizeOf3 rfl)) <| zU rfl rfl (fun hc14 => zj.step (zN Tryz.isAgg3 (zz rfl hc14) rfl rfl rfl)) <| zU rfl rfl (fun hc15 => zj.step (z7 (zz rfl hc15) (zz rfl hc15))) <| zA (zZ rfl rfl) <| zA (zB rfl) ?_
 refine zU rfl rfl (fun hc16 => zj.step (zM Tryz.underlying51 rfl rfl Tryz.sizeOf3 rfl)) <| zU rfl rfl (fun hc17 => zj.step (zN Tryz.isAgg3 (zz rfl hc17) rfl rfl rfl)) <| zU rfl rfl (fun hc18 => zj.step (zM Tryz.underlying51 rfl rfl Tryz.sizeOf3 rfl)) <| zU rfl rfl (fun hc19 => zj.step (zN Tryz.isAgg3 (zz rfl hc19) rfl rfl rfl)) <| zU rfl rfl (fun hc20 => zj.step (z7 (zz rfl hc20) (zz rfl hc20))) <| zA (zZ rfl rfl) ?_
 refine zF ?_
 refine zQ (((((!decide (a_a.node = a_b.node)) || (!decide (a_a.kind = a_b.kind))) || (!decide (a_a.start = a_b.start))) || (!decide (a_a.count = a_b.count))) || (!decide (a_a.min = a_b.min))) rfl (fun hb1 => ?_) (fun hb1 => ?_)
 ·replace h := zo hb1 h
  refine zI <| zC <| zA (zD rfl) <| zF <| za ?_
  show zAS _ _ _ _ _ _
  obtain rfl := Option.some.inj h
  exact zp (zAK rfl rfl)
 ·replace h := zv hb1 h
  refine zR ?_
  refine z5 (fun e' H' => Rep 53 0 e' H' (mkE []) [] ∧ zIf  = some r) ?_ ?_
  ·
   refine zI <| zC <| zA (zD rfl) <| zF <| zS <| z9 (σ := Nat × Int) (fun s => s.1) (fun s e' H' => match s with | (n0, i1) => Rep 53 0 e' H' (mkE [(2, (AV.ptr 0 0)), (3, (AV.ptr 1 0)), (5, (li i1))]) [.box 51 (zO a_a), .box 51 (zO a_b)] ∧ zHE a_a a_b n0 i1 = some r) (zAC, 0) ⟨zAE [0, 1] rfl rfl (by kernel_rfl), h⟩ ?_
   clear h
   rintro ⟨n0, i1⟩ e' H' ⟨hrep, h⟩
   cases n0 with
   | zero => exact absurd (show (none : Option _) = some r from h) (by simp)
   | succ n0 =>
    replace h : zIP a_a a_b (zHE a_a a_b n0) i1 = some r := h
    unfold zIP at h
    refine zY hrep ?_
    clear hrep
    refine zI <| zI <| zC <| zA (zB rfl) <| zA (zCq rfl rfl) <| zF ?_
    refine zQ (decide (i1 ≤ 4)) rfl (fun hb2 => ?_) (fun hb2 => ?_)
    ·replace h := zo hb2 h
     refine zR <| zI <| zS <| zI ?_
     have hb3 := (zH h).1
     replace h := (zH h).2
     refine zP h ?_; clear h; intro x1 hx1 h
     show AW _ _ _ _ _ _ [.box 51 (zO a_a), .box 51 (zO a_b)]
     refine zAz (n := 53) (m := 0) [.head 0 0, .head 0 0, .head 0 0, .head 0 0, .head 0 0, .head 0 0, .head 0 0, .head 0 0, .head 0 0, .head 0 0] [] [(li i1), (AV.ptr 0 5), (AV.ptr 0 (5 + i1.toNat * 1)), (ls cI (a_a.free.getD i1.toNat ([] : List Int))), (li i1), (AV.ptr 1 5), (AV.ptr 1 (5 + i1.toNat * 1)), (ls cI (a_b.free.getD i1.toNat ([] : List Int))), (AV.lit (.bool x1)), (AV.lit (.bool (!x1)))] [[.box 51 (zO a_a), .box 51 (zO a_b)]] (by kernel_rfl) (by kernel_rfl) ⟨?_, ?_, ?_, ?_, ?_, ?_, ?_, ?_, ?_, ?_, trivial⟩ ?_
     ·exact fun e s p => zt (zB (av := (li i1)) (s 5 rfl)) ⟨fun _ => rfl, rfl⟩
     ·exact fun e s p => zt (zM (k := 0) (o := 0) (off := 5) Tryz.underlying51 rfl rfl Tryz.sizeOf49 (s 2 rfl)) ⟨fun _ => rfl, rfl⟩
     ·exact fun e s p => zt (zAL (m := 5) (s := 1) (i := i1) (k := 0) (o := 5) Tryz.underlying49 Tryz.sizeOf22 p.1 p.2.1 hb3) ⟨fun _ => rfl, rfl⟩
     ·exact fun e s p => zt (zAm (k := 0) (o := (5 + i1.toNat * 1)) (cs := (zO a_a)) (hd := ([(li a_a.node)] ++ [(li a_a.kind)] ++ [(li a_a.start)] ++ [(li a_a.count)] ++ [(li a_a.min)] ++ [])) (tl := ([])) (g := (eS cI)) (d0 := ([] : List Int)) (l := a_a.free) (N := 5) (i := i1.toNat) (a := (ls cI (a_a.free.getD i1.toNat ([] : List Int)))) Tryz.isAgg22 p.1 rfl rfl (congrArg (fun q => 5 + q) (Nat.mul_one _)) (zBW hb3).2 rfl rfl) ⟨fun _ => rfl, rfl⟩
     ·exact fun e s p => zt (zB (av := (li i1)) (s 5 rfl)) ⟨fun _ => rfl, rfl⟩
     ·exact fun e s p => zt (zM (k := 1) (o := 0) (off := 5) Tryz.underlying51 rfl rfl Tryz.sizeOf49 (s 3 rfl)) ⟨fun _ => rfl, rfl⟩
     ·exact fun e s p => zt (zAL (m := 5) (s := 1) (i := i1) (k := 1) (o := 5) Tryz.underlying49 Tryz.sizeOf22 p.1 p.2.1 hb3) ⟨fun _ => rfl, rfl⟩
     ·exact fun e s p => zt (zAm (k := 1) (o := (5 + i1.toNat * 1)) (cs := (zO a_b)) (hd := ([(li a_b.node)] ++ [(li a_b.kind)] ++ [(li a_b.start)] ++ [(li a_b.count)] ++ [(li a_b.min)] ++ [])) (tl := ([])) (g := (eS cI)) (d0 := ([] : List Int)) (l := a_b.free) (N := 5) (i := i1.toNat) (a := (ls cI (a_b.free.getD i1.toNat ([] : List Int)))) Tryz.isAgg22 p.1 rfl rfl (congrArg (fun q => 5 + q) (Nat.mul_one _)) (zBW hb3).2 rfl rfl) ⟨fun _ => rfl, rfl⟩
     ·
      intro e9 hs9 hp9
      refine zd (r := (AV.lit (.bool x1))) (la := [(ls cI (a_a.free.getD i1.toNat ([] : List Int))), (ls cI (a_b.free.getD i1.toNat ([] : List Int)))]) Tryz.func117 rfl (by kernel_rfl) (.fn 117) (zAF hp9.1 (zAF hp9.2.1 rfl)) rfl (zKf hx1) rfl ?_
      exact zF ⟨fun _ => rfl, rfl⟩
     ·exact fun e s p => zt (zA8 (t := x1) p.1) ⟨fun _ => rfl, rfl⟩
     intro e11 hs11 hq1
     refine zY (zBV (l := [(2, (AV.ptr 0 0)), (3, (AV.ptr 1 0)), (5, (li i1)), (52, (AV.lit (.bool (!x1))))]) ⟨(hs11 2 rfl), (hs11 3 rfl), (hs11 5 rfl), (hq1 9 (by decide) (by decide)), trivial⟩) ?_
     refine zQ (!x1) rfl (fun hb4 => ?_) (fun hb4 => ?_)
     ·replace h := zo hb4 h
      refine zI <| zC <| zA (zD rfl) <| zF <| za ?_
      show zAS _ _ _ _ _ _
      obtain rfl := Option.some.inj h
      exact zp (zAK rfl rfl)
     ·replace h := zv hb4 h
      refine zR <| zC <| zA (zB rfl) ?_
      have hb5 := (zH h).1
      replace h := (zH h).2
      refine zA (ze rfl rfl hb5) <| zA (zD rfl) <| zF ?_
      exact ⟨(n0, (i1 + 1)), Nat.lt_succ_self _, zAE [0, 1] rfl rfl (by kernel_rfl), h⟩
    ·replace h := zv hb2 h
     refine z8 ?_
     exact ⟨zAE [] rfl rfl (by kernel_rfl), h⟩
  ·
   clear h
   rintro e' H' ⟨hrep, h⟩
   refine zY hrep ?_
   clear hrep
   unfold zIf at h
   refine zI <| zC <| zA (zD rfl) <| zF <| za ?_
   show zAS _ _ _ _ _ _
   obtain rfl := Option.some.inj h
   exact zp (zAK rfl rfl)
theorem zMb {a_a : zK} {a_b : zK} {r : Bool} (h : zKQ a_a a_b = some r) : PFn Tryz.prog 63 [(AV.agg (zG a_a)), (AV.agg (zG a_b))] (AV.lit (.bool r)) := by
 refine zi Tryz.func63 rfl Tryz.ntmps63 Tryz.results63 rfl ?_
 unfold zKQ at h
 refine zI <| zC <| zb (H' := [.box 55 (zG a_a)]) (zu (t := 55) rfl) <| zb (H' := [.box 55 (zG a_a), .box 55 (zG a_b)]) (zu (t := 55) rfl) <| zA (zD rfl) <| zF ?_
 refine zI <| zI <| zC <| zA (zM Tryz.underlying55 rfl rfl Tryz.sizeOf53 rfl) <| zA (zN Tryz.isAgg53 rfl rfl rfl rfl) <| zA (zX Tryz.underlying53 rfl) ?_
 refine zA (zM Tryz.underlying55 rfl rfl Tryz.sizeOf53 rfl) <| zA (zN Tryz.isAgg53 rfl rfl rfl rfl) <| zA (zX Tryz.underlying53 rfl) <| zA (z7 rfl rfl) <| zF ?_
 refine zQ (!decide ((a_a.lists.length : Int) = (a_b.lists.length : Int))) rfl (fun hb1 => ?_) (fun hb1 => ?_)
 ·replace h := zo hb1 h
  refine zI <| zC <| zA (zD rfl) <| zF <| za ?_
  show zAS _ _ _ _ _ _
  obtain rfl := Option.some.inj h
  exact zp (zAK rfl rfl)
 ·replace h := zv hb1 h
  refine zR ?_
  refine z5 (fun e' H' => Rep 32 0 e' H' (mkE []) [] ∧ zIg  = some r) ?_ ?_
  ·
   refine zI <| zC <| zA (zM Tryz.underlying55 rfl rfl Tryz.sizeOf53 rfl) <| zA (zN Tryz.isAgg53 rfl rfl rfl rfl) <| zA (zX Tryz.underlying53 rfl) <| zA (zB rfl) ?_
   refine zF <| zS <| z9 (σ := Nat × Int) (fun s => s.1) (fun s e' H' => match s with | (n0, i1) => Rep 32 0 e' H' (mkE [(2, (AV.ptr 0 0)), (3, (AV.ptr 1 0)), (15, (li (a_a.lists.length : Int))), (16, (li i1))]) [.box 55 (zG a_a), .box 55 (zG a_b)] ∧ zHJ a_a a_b n0 i1 = some r) (zAC, 0) ⟨zAE [0, 1] rfl rfl (by kernel_rfl), h⟩ ?_
   clear h
   rintro ⟨n0, i1⟩ e' H' ⟨hrep, h⟩
   cases n0 with
   | zero => exact absurd (show (none : Option _) = some r from h) (by simp)
   | succ n0 =>
    replace h : zIV a_a a_b (zHJ a_a a_b n0) i1 = some r := h
    unfold zIV at h
    refine zY hrep ?_
    clear hrep
    refine zI <| zC <| zA (zf rfl rfl) <| zF <| zI ?_
    refine zQ (decide (i1 < (a_a.lists.length : Int))) rfl (fun hb2 => ?_) (fun hb2 => ?_)
    ·replace h := zo hb2 h
     refine zR <| zI <| zS <| zI <| zC <| zA (zB rfl) ?_
     refine zA (zD rfl) <| zF <| zI ?_
     have hb3 := (zH h).1
     replace h := (zH h).2
     have hb4 := (zH h).1
     replace h := (zH h).2
     refine zP h ?_; clear h; intro x1 hx1 h
     show AW _ _ _ _ _ _ [.box 55 (zG a_a), .box 55 (zG a_b)]
     refine zAz (n := 32) (m := 0) [.head 0 0, .head 0 0, .head 0 0, .head 0 0, .head 0 0, .head 0 0, .head 0 0, .head 0 0, .head 0 0, .head 0 0, .head 0 0, .head 0 0] [] [(AV.ptr 0 0), (ls (cS cI) a_a.lists), (li i1), (AV.rp ((cS cI) (at_ a_a.lists i1)) 0), (ls cI (at_ a_a.lists i1)), (AV.ptr 1 0), (ls (cS cI) a_b.lists), (li i1), (AV.rp ((cS cI) (at_ a_b.lists i1)) 0), (ls cI (at_ a_b.lists i1)), (AV.lit (.bool x1)), (AV.lit (.bool (!x1)))] [[.box 55 (zG a_a), .box 55 (zG a_b)]] (by kernel_rfl) (by kernel_rfl) ⟨?_, ?_, ?_, ?_, ?_, ?_, ?_, ?_, ?_, ?_, ?_, ?_, trivial⟩ ?_
     ·exact fun e s p => zt (zM (k := 0) (o := 0) (off := 0) Tryz.underlying55 rfl rfl Tryz.sizeOf53 (s 2 rfl)) ⟨fun _ => rfl, rfl⟩
     ·exact fun e s p => zt (zN (k := 0) (o := 0) (a := (ls (cS cI) a_a.lists)) Tryz.isAgg53 p.1 rfl rfl rfl) ⟨fun _ => rfl, rfl⟩
     ·exact fun e s p => zt (zB (av := (li i1)) (s 5 rfl)) ⟨fun _ => rfl, rfl⟩
     ·exact fun e s p => zt (zV (f := (cS cI)) (l := a_a.lists) (i := i1) Tryz.underlying53 Tryz.sizeOf22 (fun _ => rfl) p.1 p.2.1 hb3) ⟨fun _ => rfl, rfl⟩
     ·exact fun e s p => zt (zW (row := ((cS cI) (at_ a_a.lists i1))) (o := 0) (a := (ls cI (at_ a_a.lists i1))) Tryz.isAgg22 p.1 rfl) ⟨fun _ => rfl, rfl⟩
     ·exact fun e s p => zt (zM (k := 1) (o := 0) (off := 0) Tryz.underlying55 rfl rfl Tryz.sizeOf53 (s 3 rfl)) ⟨fun _ => rfl, rfl⟩
     ·exact fun e s p => zt (zN (k := 1) (o := 0) (a := (ls (cS cI) a_b.lists)) Tryz.isAgg53 p.1 rfl rfl rfl) ⟨fun _ => rfl, rfl⟩
     ·exact fun e s p => zt (zB (av := (li i1)) (s 5 rfl)) ⟨fun _ => rfl, rfl⟩
     ·exact fun e s p => zt (zV (f := (cS cI)) (l := a_b.lists) (i := i1) Tryz.underlying53 Tryz.sizeOf22 (fun _ => rfl) p.1 p.2.1 hb4) ⟨fun _ => rfl, rfl⟩
     ·exact fun e s p => zt (zW (row := ((cS cI) (at_ a_b.lists i1))) (o := 0) (a := (ls cI (at_ a_b.lists i1))) Tryz.isAgg22 p.1 rfl) ⟨fun _ => rfl, rfl⟩
     ·
      intro e11 hs11 hp11
      refine zd (r := (AV.lit (.bool x1))) (la := [(ls cI (at_ a_a.lists i1)), (ls cI (at_ a_b.lists i1))]) Tryz.func61 rfl (by kernel_rfl) (.fn 61) (zAF hp11.1 (zAF hp11.2.1 rfl)) rfl (zIB hx1) rfl ?_
      exact zF ⟨fun _ => rfl, rfl⟩
     ·exact fun e s p => zt (zA8 (t := x1) p.1) ⟨fun _ => rfl, rfl⟩
     intro e13 hs13 hq1
     refine zY (zBV (l := [(2, (AV.ptr 0 0)), (3, (AV.ptr 1 0)), (15, (li (a_a.lists.length : Int))), (16, (li i1)), (30, (AV.lit (.bool (!x1))))]) ⟨(hs13 2 rfl), (hs13 3 rfl), (hs13 15 rfl), (hs13 16 rfl), (hq1 11 (by decide) (by decide)), trivial⟩) ?_
     refine zQ (!x1) rfl (fun hb5 => ?_) (fun hb5 => ?_)
     ·replace h := zo hb5 h
      refine zI <| zC <| zA (zD rfl) <| zF <| za ?_
      show zAS _ _ _ _ _ _
      obtain rfl := Option.some.inj h
      exact zp (zAK rfl rfl)
     ·replace h := zv hb5 h
      refine zR <| zC ?_
      have hb6 := (zH h).1
      replace h := (zH h).2
      refine zA (ze rfl rfl hb6) <| zA (zB rfl) <| zF ?_
      exact ⟨(n0, (i1 + 1)), Nat.lt_succ_self _, zAE [0, 1] rfl rfl (by kernel_rfl), h⟩
    ·replace h := zv hb2 h
     refine z8 ?_
     exact ⟨zAE [] rfl rfl (by kernel_rfl), h⟩
  ·
   clear h
   rintro e' H' ⟨hrep, h⟩
   refine zY hrep ?_
   clear hrep
   unfold zIg at h
   refine zI <| zC <| zA (zD rfl) <| zF <| za ?_
   show zAS _ _ _ _ _ _
   obtain rfl := Option.some.inj h
   exact zp (zAK rfl rfl)
theorem zMP {a_p0 : zL} {a_p1 : zL} {r : Bool} (h : zKM a_p0 a_p1 = some r) : PFn Tryz.prog 25 [(AV.agg (zJ a_p0)), (AV.agg (zJ a_p1))] (AV.lit (.bool r)) := by
 refine zi Tryz.func25 rfl Tryz.ntmps25 Tryz.results25 rfl ?_
 unfold zKM at h
 refine zI <| zC <| zb (H' := [.box 26 (zJ a_p0)]) (zu (t := 26) rfl) <| zb (H' := [.box 26 (zJ a_p0), .box 26 (zJ a_p1)]) (zu (t := 26) rfl) <| zA (zD rfl) <| zF ?_
 refine zI <| zI <| zC <| zA (zM Tryz.underlying26 rfl rfl Tryz.sizeOf22 rfl) <| zA (zN Tryz.isAgg22 rfl rfl rfl rfl) <| zA (zM Tryz.underlying26 rfl rfl Tryz.sizeOf22 rfl) ?_
 refine zA (zN Tryz.isAgg22 rfl rfl rfl rfl) ?_
 refine zP h ?_; clear h; intro x1 hx1 h
 refine zd Tryz.func61 rfl (by kernel_rfl) (.fn 61) rfl rfl (zIB hx1) rfl <| zA (zA8 (t := x1) rfl) <| zA (zB rfl) <| zU rfl rfl (fun hc1 => zj.step (zM Tryz.underlying26 rfl rfl Tryz.sizeOf3 rfl)) <| zU rfl rfl (fun hc2 => zj.step (zN Tryz.isAgg3 (zz rfl hc2) rfl rfl rfl)) <| zU rfl rfl (fun hc3 => zj.step (zM Tryz.underlying26 rfl rfl Tryz.sizeOf3 rfl)) ?_
 refine zU rfl rfl (fun hc4 => zj.step (zN Tryz.isAgg3 (zz rfl hc4) rfl rfl rfl)) <| zU rfl rfl (fun hc5 => zj.step (z7 (zz rfl hc5) (zz rfl hc5))) <| zA (zZ rfl rfl) <| zA (zB rfl) <| zU rfl rfl (fun hc6 => zj.step (zM Tryz.underlying26 rfl rfl Tryz.sizeOf3 rfl)) <| zU rfl rfl (fun hc7 => zj.step (zN Tryz.isAgg3 (zz rfl hc7) rfl rfl rfl)) ?_
 refine zU rfl rfl (fun hc8 => zj.step (zM Tryz.underlying26 rfl rfl Tryz.sizeOf3 rfl)) <| zU rfl rfl (fun hc9 => zj.step (zN Tryz.isAgg3 (zz rfl hc9) rfl rfl rfl)) <| zU rfl rfl (fun hc10 => zj.step (z7 (zz rfl hc10) (zz rfl hc10))) <| zA (zZ rfl rfl) <| zA (zB rfl) <| zU rfl rfl (fun hc11 => zj.step (zM Tryz.underlying26 rfl rfl Tryz.sizeOf23 rfl)) ?_
 refine zU rfl rfl (fun hc12 => zj.step (zN Tryz.isAgg23 (zz rfl hc12) rfl rfl rfl)) <| zU rfl rfl (fun hc13 => zj.step (zX Tryz.underlying23 (zz rfl hc13))) <| zU rfl rfl (fun hc14 => zj.step (zM Tryz.underlying26 rfl rfl Tryz.sizeOf23 rfl)) <| zU rfl rfl (fun hc15 => zj.step (zN Tryz.isAgg23 (zz rfl hc15) rfl rfl rfl)) <| zU rfl rfl (fun hc16 => zj.step (zX Tryz.underlying23 (zz rfl hc16))) <| zU rfl rfl (fun hc17 => zj.step (z7 (zz rfl hc17) (zz rfl hc17))) ?_
 refine zA (zZ rfl rfl) <| zA (zB rfl) <| zU rfl rfl (fun hc18 => zj.step (zM Tryz.underlying26 rfl rfl Tryz.sizeOf24 rfl)) <| zU rfl rfl (fun hc19 => zj.step (zN Tryz.isAgg24 (zz rfl hc19) rfl rfl rfl)) <| zU rfl rfl (fun hc20 => zj.step (zX Tryz.underlying24 (zz rfl hc20))) <| zU rfl rfl (fun hc21 => zj.step (zM Tryz.underlying26 rfl rfl Tryz.sizeOf24 rfl)) ?_
 refine zU rfl rfl (fun hc22 => zj.step (zN Tryz.isAgg24 (zz rfl hc22) rfl rfl rfl)) <| zU rfl rfl (fun hc23 => zj.step (zX Tryz.underlying24 (zz rfl hc23))) <| zU rfl rfl (fun hc24 => zj.step (z7 (zz rfl hc24) (zz rfl hc24))) <| zA (zZ rfl rfl) <| zF ?_
 refine zQ (((((!x1) || (!decide (a_p0.batch = a_p1.batch))) || (!decide (a_p0.high = a_p1.high))) || (!decide ((a_p0.zones.length : Int) = (a_p1.zones.length : Int)))) || (!decide ((a_p0.caches.length : Int) = (a_p1.caches.length : Int)))) rfl (fun hb1 => ?_) (fun hb1 => ?_)
 ·replace h := zo hb1 h
  refine zI <| zC <| zA (zD rfl) <| zF <| za ?_
  show zAS _ _ _ _ _ _
  obtain rfl := Option.some.inj h
  exact zp (zAK rfl rfl)
 ·replace h := zv hb1 h
  refine zR ?_
  refine z5 (fun e' H' => Rep 83 0 e' H' (mkE [(2, (AV.ptr 0 0)), (3, (AV.ptr 1 0))]) [.box 26 (zJ a_p0), .box 26 (zJ a_p1)] ∧ zIZ a_p0 a_p1 = some r) ?_ ?_
  ·
   refine zI <| zC <| zA (zD rfl) <| zF <| zS <| z9 (σ := Nat × Int) (fun s => s.1) (fun s e' H' => match s with | (n1, i2) => Rep 83 0 e' H' (mkE [(2, (AV.ptr 0 0)), (3, (AV.ptr 1 0)), (5, (li i2))]) [.box 26 (zJ a_p0), .box 26 (zJ a_p1)] ∧ zHI a_p0 a_p1 n1 i2 = some r) (zAC, 0) ⟨zAE [0, 1] rfl rfl (by kernel_rfl), h⟩ ?_
   clear h
   rintro ⟨n1, i2⟩ e' H' ⟨hrep, h⟩
   cases n1 with
   | zero => exact absurd (show (none : Option _) = some r from h) (by simp)
   | succ n1 =>
    replace h : zIi a_p0 a_p1 (zHI a_p0 a_p1 n1) i2 = some r := h
    unfold zIi at h
    refine zY hrep ?_
    clear hrep
    refine zI <| zI <| zC <| zA (zB rfl) <| zA (zM Tryz.underlying26 rfl rfl Tryz.sizeOf23 rfl) <| zA (zN Tryz.isAgg23 rfl rfl rfl rfl) ?_
    refine zA (zX Tryz.underlying23 rfl) <| zA (zf rfl rfl) <| zF ?_
    refine zQ (decide (i2 < (a_p0.zones.length : Int))) rfl (fun hb7 => ?_) (fun hb7 => ?_)
    ·replace h := zo hb7 h
     refine zR <| zI <| zS <| zI ?_
     have hb8 := (zH h).1
     replace h := (zH h).2
     have hb9 := (zH h).1
     replace h := (zH h).2
     refine zP h ?_; clear h; intro x3 hx3 h
     show AW _ _ _ _ _ _ [.box 26 (zJ a_p0), .box 26 (zJ a_p1)]
     refine zAz (n := 83) (m := 0) [.head 0 0, .head 0 0, .head 0 0, .head 0 0, .head 0 0, .head 0 0, .head 0 0, .head 0 0, .head 0 0, .head 0 0, .head 0 0, .head 0 0] [] [(AV.ptr 0 3), (ls zO a_p0.zones), (li i2), (AV.rp (zO (at_ a_p0.zones i2)) 0), (AV.agg (zO (at_ a_p0.zones i2))), (AV.ptr 1 3), (ls zO a_p1.zones), (li i2), (AV.rp (zO (at_ a_p1.zones i2)) 0), (AV.agg (zO (at_ a_p1.zones i2))), (AV.lit (.bool x3)), (AV.lit (.bool (!x3)))] [[.box 26 (zJ a_p0), .box 26 (zJ a_p1)]] (by kernel_rfl) (by kernel_rfl) ⟨?_, ?_, ?_, ?_, ?_, ?_, ?_, ?_, ?_, ?_, ?_, ?_, trivial⟩ ?_
     ·exact fun e s p => zt (zM (k := 0) (o := 0) (off := 3) Tryz.underlying26 rfl rfl Tryz.sizeOf23 (s 2 rfl)) ⟨fun _ => rfl, rfl⟩
     ·exact fun e s p => zt (zN (k := 0) (o := 3) (a := (ls zO a_p0.zones)) Tryz.isAgg23 p.1 rfl rfl rfl) ⟨fun _ => rfl, rfl⟩
     ·exact fun e s p => zt (zB (av := (li i2)) (s 5 rfl)) ⟨fun _ => rfl, rfl⟩
     ·exact fun e s p => zt (zV (f := zO) (l := a_p0.zones) (i := i2) Tryz.underlying23 Tryz.sizeOf51 (fun _ => rfl) p.1 p.2.1 hb8) ⟨fun _ => rfl, rfl⟩
     ·exact fun e s p => zt (zAi (row := (zO (at_ a_p0.zones i2))) (o := 0) (m := 10) (la := (zO (at_ a_p0.zones i2))) Tryz.isAgg51 Tryz.sizeOf51 p.1 rfl rfl) ⟨fun _ => rfl, rfl⟩
     ·exact fun e s p => zt (zM (k := 1) (o := 0) (off := 3) Tryz.underlying26 rfl rfl Tryz.sizeOf23 (s 3 rfl)) ⟨fun _ => rfl, rfl⟩
     ·exact fun e s p => zt (zN (k := 1) (o := 3) (a := (ls zO a_p1.zones)) Tryz.isAgg23 p.1 rfl rfl rfl) ⟨fun _ => rfl, rfl⟩
     ·exact fun e s p => zt (zB (av := (li i2)) (s 5 rfl)) ⟨fun _ => rfl, rfl⟩
     ·exact fun e s p => zt (zV (f := zO) (l := a_p1.zones) (i := i2) Tryz.underlying23 Tryz.sizeOf51 (fun _ => rfl) p.1 p.2.1 hb9) ⟨fun _ => rfl, rfl⟩
     ·exact fun e s p => zt (zAi (row := (zO (at_ a_p1.zones i2))) (o := 0) (m := 10) (la := (zO (at_ a_p1.zones i2))) Tryz.isAgg51 Tryz.sizeOf51 p.1 rfl rfl) ⟨fun _ => rfl, rfl⟩
     ·
      intro e24 hs24 hp23
      refine zd (r := (AV.lit (.bool x3))) (la := [(AV.agg (zO (at_ a_p0.zones i2))), (AV.agg (zO (at_ a_p1.zones i2)))]) Tryz.func62 rfl (by kernel_rfl) (.fn 62) (zAF hp23.1 (zAF hp23.2.1 rfl)) rfl (zML hx3) rfl ?_
      exact zF ⟨fun _ => rfl, rfl⟩
     ·exact fun e s p => zt (zA8 (t := x3) p.1) ⟨fun _ => rfl, rfl⟩
     intro e26 hs26 hq2
     refine zY (zBV (l := [(2, (AV.ptr 0 0)), (3, (AV.ptr 1 0)), (5, (li i2)), (63, (AV.lit (.bool (!x3))))]) ⟨(hs26 2 rfl), (hs26 3 rfl), (hs26 5 rfl), (hq2 11 (by decide) (by decide)), trivial⟩) ?_
     refine zQ (!x3) rfl (fun hb10 => ?_) (fun hb10 => ?_)
     ·replace h := zo hb10 h
      refine zI <| zC <| zA (zD rfl) <| zF <| za ?_
      show zAS _ _ _ _ _ _
      obtain rfl := Option.some.inj h
      exact zp (zAK rfl rfl)
     ·replace h := zv hb10 h
      refine zR <| zC <| zA (zB rfl) ?_
      have hb11 := (zH h).1
      replace h := (zH h).2
      refine zA (ze rfl rfl hb11) <| zA (zD rfl) <| zF ?_
      exact ⟨(n1, (i2 + 1)), Nat.lt_succ_self _, zAE [0, 1] rfl rfl (by kernel_rfl), h⟩
    ·replace h := zv hb7 h
     refine z8 ?_
     exact ⟨zAE [0, 1] rfl rfl (by kernel_rfl), h⟩
  ·
   clear h
   rintro e' H' ⟨hrep, h⟩
   refine zY hrep ?_
   clear hrep
   unfold zIZ at h
   refine z5 (fun e' H' => Rep 83 0 e' H' (mkE []) [] ∧ zIW  = some r) ?_ ?_
   ·
    refine zI <| zC <| zA (zD rfl) <| zF <| zS <| z9 (σ := Nat × Int) (fun s => s.1) (fun s e' H' => match s with | (n0, i1) => Rep 83 0 e' H' (mkE [(2, (AV.ptr 0 0)), (3, (AV.ptr 1 0)), (6, (li i1))]) [.box 26 (zJ a_p0), .box 26 (zJ a_p1)] ∧ zHG a_p0 a_p1 n0 i1 = some r) (zAC, 0) ⟨zAE [0, 1] rfl rfl (by kernel_rfl), h⟩ ?_
    clear h
    rintro ⟨n0, i1⟩ e' H' ⟨hrep, h⟩
    cases n0 with
    | zero => exact absurd (show (none : Option _) = some r from h) (by simp)
    | succ n0 =>
     replace h : zIe a_p0 a_p1 (zHG a_p0 a_p1 n0) i1 = some r := h
     unfold zIe at h
     refine zY hrep ?_
     clear hrep
     refine zI <| zI <| zC <| zA (zB rfl) <| zA (zM Tryz.underlying26 rfl rfl Tryz.sizeOf24 rfl) <| zA (zN Tryz.isAgg24 rfl rfl rfl rfl) ?_
     refine zA (zX Tryz.underlying24 rfl) <| zA (zf rfl rfl) <| zF ?_
     refine zQ (decide (i1 < (a_p0.caches.length : Int))) rfl (fun hb2 => ?_) (fun hb2 => ?_)
     ·replace h := zo hb2 h
      refine zR <| zI <| zS <| zI ?_
      have hb3 := (zH h).1
      replace h := (zH h).2
      have hb4 := (zH h).1
      replace h := (zH h).2
      refine zP h ?_; clear h; intro x2 hx2 h
      show AW _ _ _ _ _ _ [.box 26 (zJ a_p0), .box 26 (zJ a_p1)]
      refine zAz (n := 83) (m := 0) [.head 0 0, .head 0 0, .head 0 0, .head 0 0, .head 0 0, .head 0 0, .head 0 0, .head 0 0, .head 0 0, .head 0 0, .head 0 0, .head 0 0] [] [(AV.ptr 0 4), (ls zG a_p0.caches), (li i1), (AV.rp (zG (at_ a_p0.caches i1)) 0), (AV.agg (zG (at_ a_p0.caches i1))), (AV.ptr 1 4), (ls zG a_p1.caches), (li i1), (AV.rp (zG (at_ a_p1.caches i1)) 0), (AV.agg (zG (at_ a_p1.caches i1))), (AV.lit (.bool x2)), (AV.lit (.bool (!x2)))] [[.box 26 (zJ a_p0), .box 26 (zJ a_p1)]] (by kernel_rfl) (by kernel_rfl) ⟨?_, ?_, ?_, ?_, ?_, ?_, ?_, ?_, ?_, ?_, ?_, ?_, trivial⟩ ?_
      ·exact fun e s p => zt (zM (k := 0) (o := 0) (off := 4) Tryz.underlying26 rfl rfl Tryz.sizeOf24 (s 2 rfl)) ⟨fun _ => rfl, rfl⟩
      ·exact fun e s p => zt (zN (k := 0) (o := 4) (a := (ls zG a_p0.caches)) Tryz.isAgg24 p.1 rfl rfl rfl) ⟨fun _ => rfl, rfl⟩
      ·exact fun e s p => zt (zB (av := (li i1)) (s 6 rfl)) ⟨fun _ => rfl, rfl⟩
      ·exact fun e s p => zt (zV (f := zG) (l := a_p0.caches) (i := i1) Tryz.underlying24 Tryz.sizeOf55 (fun _ => rfl) p.1 p.2.1 hb3) ⟨fun _ => rfl, rfl⟩
      ·exact fun e s p => zt (zAi (row := (zG (at_ a_p0.caches i1))) (o := 0) (m := 1) (la := (zG (at_ a_p0.caches i1))) Tryz.isAgg55 Tryz.sizeOf55 p.1 rfl rfl) ⟨fun _ => rfl, rfl⟩
      ·exact fun e s p => zt (zM (k := 1) (o := 0) (off := 4) Tryz.underlying26 rfl rfl Tryz.sizeOf24 (s 3 rfl)) ⟨fun _ => rfl, rfl⟩
      ·exact fun e s p => zt (zN (k := 1) (o := 4) (a := (ls zG a_p1.caches)) Tryz.isAgg24 p.1 rfl rfl rfl) ⟨fun _ => rfl, rfl⟩
      ·exact fun e s p => zt (zB (av := (li i1)) (s 6 rfl)) ⟨fun _ => rfl, rfl⟩
      ·exact fun e s p => zt (zV (f := zG) (l := a_p1.caches) (i := i1) Tryz.underlying24 Tryz.sizeOf55 (fun _ => rfl) p.1 p.2.1 hb4) ⟨fun _ => rfl, rfl⟩
      ·exact fun e s p => zt (zAi (row := (zG (at_ a_p1.caches i1))) (o := 0) (m := 1) (la := (zG (at_ a_p1.caches i1))) Tryz.isAgg55 Tryz.sizeOf55 p.1 rfl rfl) ⟨fun _ => rfl, rfl⟩
      ·
       intro e11 hs11 hp11
       refine zd (r := (AV.lit (.bool x2))) (la := [(AV.agg (zG (at_ a_p0.caches i1))), (AV.agg (zG (at_ a_p1.caches i1)))]) Tryz.func63 rfl (by kernel_rfl) (.fn 63) (zAF hp11.1 (zAF hp11.2.1 rfl)) rfl (zMb hx2) rfl ?_
       exact zF ⟨fun _ => rfl, rfl⟩
      ·exact fun e s p => zt (zA8 (t := x2) p.1) ⟨fun _ => rfl, rfl⟩
      intro e13 hs13 hq1
      refine zY (zBV (l := [(2, (AV.ptr 0 0)), (3, (AV.ptr 1 0)), (6, (li i1)), (82, (AV.lit (.bool (!x2))))]) ⟨(hs13 2 rfl), (hs13 3 rfl), (hs13 6 rfl), (hq1 11 (by decide) (by decide)), trivial⟩) ?_
      refine zQ (!x2) rfl (fun hb5 => ?_) (fun hb5 => ?_)
      ·replace h := zo hb5 h
       refine zI <| zC <| zA (zD rfl) <| zF <| za ?_
       show zAS _ _ _ _ _ _
       obtain rfl := Option.some.inj h
       exact zp (zAK rfl rfl)
      ·replace h := zv hb5 h
       refine zR <| zC <| zA (zB rfl) ?_
       have hb6 := (zH h).1
       replace h := (zH h).2
       refine zA (ze rfl rfl hb6) <| zA (zD rfl) <| zF ?_
       exact ⟨(n0, (i1 + 1)), Nat.lt_succ_self _, zAE [0, 1] rfl rfl (by kernel_rfl), h⟩
     ·replace h := zv hb2 h
      refine z8 ?_
      exact ⟨zAE [] rfl rfl (by kernel_rfl), h⟩
   ·
    clear h
    rintro e' H' ⟨hrep, h⟩
    refine zY hrep ?_
    clear hrep
    unfold zIW at h
    refine zI <| zC <| zA (zD rfl) <| zF <| za ?_
    show zAS _ _ _ _ _ _
    obtain rfl := Option.some.inj h
    exact zp (zAK rfl rfl)
theorem zJZ  {r : Bool} (h : zHM = some r) : PFn Tryz.prog 9 [] (AV.lit (.bool r)) := by
 refine zi Tryz.func9 rfl Tryz.ntmps9 Tryz.results9 rfl ?_
 unfold zHM at h
 refine zI <| zC <| zA (zD (av := (AV.lit (.bool false))) rfl) <| zF <| zI <| zC ?_
 refine zOH (N := 2) (pl := [(0, 1), (1, 1)]) (zs := [.int .i64 0, .int .i64 0]) (zc := [.lit (.int .i64 0), .lit (.int .i64 0)]) (rows := List.map cI [0, 1]) zIj Tryz.underlying22 rfl rfl rfl (by kernel_rfl) rfl (⟨zq.refl _, ⟨zq.refl _, trivial⟩⟩) ⟨(li 0), 0, 1, rfl, rfl, rfl, rfl, rfl, ⟨(li 1), 1, 1, rfl, rfl, rfl, rfl, rfl, (by exact zGB.refl _)⟩⟩ rfl rfl rfl <| zA (zAD (pl := [(0, 1), (1, 1), (2, 1), (3, 1)]) (zs := [.int .i64 0, .int .i64 0, .int .i64 0, .int .i64 0]) (zc := [.lit (.int .i64 0), .lit (.int .i64 0), .lit (.int .i64 0), .lit (.int .i64 0)]) (res := (zAQ (⟨0, 0, 8, 2⟩ : zBo))) (fun _ => by kernel_rfl) rfl (⟨zq.refl _, ⟨zq.refl _, ⟨zq.refl _, ⟨zq.refl _, trivial⟩⟩⟩⟩) ⟨(li 0), 0, 1, rfl, rfl, rfl, rfl, rfl, ⟨(li 0), 1, 1, rfl, rfl, rfl, rfl, rfl, ⟨(li 8), 2, 1, rfl, rfl, rfl, rfl, rfl, ⟨(li 2), 3, 1, rfl, rfl, rfl, rfl, rfl, (by exact zGB.refl _)⟩⟩⟩⟩) <| zA (zAD (pl := [(0, 1), (1, 1), (2, 1), (3, 1)]) (zs := [.int .i64 0, .int .i64 0, .int .i64 0, .int .i64 0]) (zc := [.lit (.int .i64 0), .lit (.int .i64 0), .lit (.int .i64 0), .lit (.int .i64 0)]) (res := (zAQ (⟨1, 1, 8, 0⟩ : zBo))) (fun _ => by kernel_rfl) rfl (⟨zq.refl _, ⟨zq.refl _, ⟨zq.refl _, ⟨zq.refl _, trivial⟩⟩⟩⟩) ⟨(li 1), 0, 1, rfl, rfl, rfl, rfl, rfl, ⟨(li 1), 1, 1, rfl, rfl, rfl, rfl, rfl, ⟨(li 8), 2, 1, rfl, rfl, rfl, rfl, rfl, ⟨(li 0), 3, 1, rfl, rfl, rfl, rfl, rfl, (by exact zGB.refl _)⟩⟩⟩⟩) <| zOH (N := 2) (pl := [(0, 4), (4, 4)]) (zs := [.int .i64 0, .int .i64 0, .int .i64 0, .int .i64 0, .int .i64 0, .int .i64 0, .int .i64 0, .int .i64 0]) (zc := [.lit (.int .i64 0), .lit (.int .i64 0), .lit (.int .i64 0), .lit (.int .i64 0), .lit (.int .i64 0), .lit (.int .i64 0), .lit (.int .i64 0), .lit (.int .i64 0)]) (rows := List.map zAQ [(⟨0, 0, 8, 2⟩ : zBo), (⟨1, 1, 8, 0⟩ : zBo)]) zSa Tryz.underlying47 rfl rfl rfl (by kernel_rfl) rfl (⟨zq.refl _, ⟨zq.refl _, ⟨zq.refl _, ⟨zq.refl _, ⟨zq.refl _, ⟨zq.refl _, ⟨zq.refl _, ⟨zq.refl _, trivial⟩⟩⟩⟩⟩⟩⟩⟩) ⟨(AV.agg (zAQ (⟨0, 0, 8, 2⟩ : zBo))), 0, 4, rfl, rfl, rfl, rfl, rfl, ⟨(AV.agg (zAQ (⟨1, 1, 8, 0⟩ : zBo))), 4, 4, rfl, rfl, rfl, rfl, rfl, (by exact zGB.refl _)⟩⟩ rfl rfl rfl ?_
 refine zP h ?_; clear h; intro x1 hx1 h
 refine zAe (zFJ (j := 0) (ds := [11]) (rows' := List.map cI [0, 1]) rfl (zAa (fun _ => rfl)) ⟨rfl, trivial⟩) ?_
 refine zP h ?_; clear h; intro x2 hx2 h
 refine zAe (zFJ (j := 1) (ds := [14]) (rows' := List.map zAQ [(⟨0, 0, 8, 2⟩ : zBo), (⟨1, 1, 8, 0⟩ : zBo)]) rfl (zAa (fun _ => rfl)) ⟨rfl, trivial⟩) ?_
 refine zP h ?_; clear h; intro x3 hx3 h
 refine zd Tryz.func36 rfl (by kernel_rfl) (.fn 36) rfl rfl (zKu hx3) rfl <| zA (zB rfl) <| zA (zl rfl rfl) <| zA (zl rfl rfl) <| zb (H' := [.dead, .dead, .box 26 ([(ls cI ([] : List Int))] ++ ([(li 0)] ++ ([(li 0)] ++ ([(ls zO ([] : List zm))] ++ ([(ls zG ([] : List zK))] ++ [])))))]) (z6 (t := 26) (vs := [.slice none 0 0, .int .i64 0, .int .i64 0, .slice none 0 0, .slice none 0 0]) (cs := [.sl false [], .lit (.int .i64 0), .lit (.int .i64 0), .sl false [], .sl false []]) Tryz.zeroValue26 (by kernel_rfl) rfl ⟨zq.nils, zq.refl _, zq.refl _, zq.nils, zq.nils, trivial⟩) <| zx (H' := [.dead, .dead, .box 26 (zJ x3.1)]) (zh (k := 2) (o := 0) (cs := ([(ls cI ([] : List Int))] ++ ([(li 0)] ++ ([(li 0)] ++ ([(ls zO ([] : List zm))] ++ ([(ls zG ([] : List zK))] ++ [])))))) (la := (zJ x3.1)) Tryz.sizeOf26 rfl rfl rfl rfl) ?_
 refine zA (zD (av := (li x3.2)) rfl) <| zF <| zI <| zI <| zC <| zA (zB (av := (li x3.2)) rfl) ?_
 refine zA (z7 rfl rfl) <| zA (zB rfl) <| zU rfl rfl (fun hc1 => zj.step (zM Tryz.underlying26 rfl rfl Tryz.sizeOf23 rfl)) <| zU rfl rfl (fun hc2 => zj.step (zN Tryz.isAgg23 (zz rfl hc2) rfl rfl rfl)) <| zU rfl rfl (fun hc3 => zj.step (zX Tryz.underlying23 (zz rfl hc3))) <| zU rfl rfl (fun hc4 => zj.step (z7 (zz rfl hc4) rfl)) ?_
 refine zA (zZ (s := !decide (x3.2 = 0)) (q := !decide ((x3.1.zones.length : Int) = 2)) (j := .lit undef) rfl rfl) <| zA (zB (av := (AV.lit (.bool ((!decide (x3.2 = 0)) || (!decide ((x3.1.zones.length : Int) = 2)))))) rfl) <| zU (g := 26) (s := (!decide (x3.2 = 0)) || (!decide ((x3.1.zones.length : Int) = 2))) rfl rfl (fun hc5 => zj.step (zM (k := 2) (o := 0) (off := 4) Tryz.underlying26 rfl rfl Tryz.sizeOf24 rfl)) <| zU (g := 26) (s := (!decide (x3.2 = 0)) || (!decide ((x3.1.zones.length : Int) = 2))) rfl rfl (fun hc6 => zj.step (zN (k := 2) (o := 4) (a := (ls zG x3.1.caches)) Tryz.isAgg24 (zz rfl hc6) rfl rfl rfl)) <| zU (g := 26) (s := (!decide (x3.2 = 0)) || (!decide ((x3.1.zones.length : Int) = 2))) rfl rfl (fun hc7 => zj.step (zX (f := zG) (l := x3.1.caches) Tryz.underlying24 (zz rfl hc7))) <| zU (g := 26) (s := (!decide (x3.2 = 0)) || (!decide ((x3.1.zones.length : Int) = 2))) rfl rfl (fun hc8 => zj.step (z7 (a := (x3.1.caches.length : Int)) (b := 2) (zz rfl hc8) rfl)) ?_
 refine zA (zZ rfl rfl) <| zA (zB rfl) <| zU rfl rfl (fun hc9 => zj.step (zT (k := 2) (o := 0) (m := 5) Tryz.isAgg26 Tryz.sizeOf26 rfl rfl rfl rfl rfl)) ?_
 refine zP h ?_; clear h; intro x4 hx4 h
 refine zBZ (g := 32) (s := ((!decide (x3.2 = 0)) || (!decide ((x3.1.zones.length : Int) = 2))) || (!decide ((x3.1.caches.length : Int) = 2))) (r' := (li x4)) rfl rfl (fun hc10 => ⟨13, _, _, [], [(AV.agg (zJ x3.1))], [(AV.agg (zJ x3.1))], (li x4), [], Tryz.func13, rfl, by kernel_rfl, (.fn 13), (zAF (zz rfl hc10) rfl), ⟨zAt.nr rfl, trivial⟩, zAn (zo hc10 hx4), .inl rfl, rfl⟩) <| zU (g := 32) (s := ((!decide (x3.2 = 0)) || (!decide ((x3.1.zones.length : Int) = 2))) || (!decide ((x3.1.caches.length : Int) = 2))) rfl rfl (fun hc11 => zj.step (z7 (a := x4) (b := 0) (zz rfl hc11) rfl)) <| zA (zZ (s := ((!decide (x3.2 = 0)) || (!decide ((x3.1.zones.length : Int) = 2))) || (!decide ((x3.1.caches.length : Int) = 2))) (q := !decide (x4 = 0)) (j := .lit undef) rfl rfl) <| zA (zB (av := (AV.lit (.bool ((((!decide (x3.2 = 0)) || (!decide ((x3.1.zones.length : Int) = 2))) || (!decide ((x3.1.caches.length : Int) = 2))) || (!decide (x4 = 0)))))) rfl) <| zU (g := 37) (s := (((!decide (x3.2 = 0)) || (!decide ((x3.1.zones.length : Int) = 2))) || (!decide ((x3.1.caches.length : Int) = 2))) || (!decide (x4 = 0))) rfl rfl (fun hc12 => zj.step (zT (k := 2) (o := 0) (m := 5) (la := (zJ x3.1)) Tryz.isAgg26 Tryz.sizeOf26 rfl rfl rfl rfl rfl)) ?_
 refine zP h ?_; clear h; intro x5 hx5 h
 refine zBZ (g := 37) (s := (((!decide (x3.2 = 0)) || (!decide ((x3.1.zones.length : Int) = 2))) || (!decide ((x3.1.caches.length : Int) = 2))) || (!decide (x4 = 0))) (r' := (li x5)) rfl rfl (fun hc13 => ⟨15, _, _, [], [(AV.agg (zJ x3.1))], [(AV.agg (zJ x3.1))], (li x5), [], Tryz.func15, rfl, by kernel_rfl, (.fn 15), (zAF (zz rfl hc13) rfl), ⟨zAt.nr rfl, trivial⟩, zHO (zo hc13 hx5), .inl rfl, rfl⟩) <| zU rfl rfl (fun hc14 => zj.step (z7 (zz rfl hc14) rfl)) <| zA (zZ rfl rfl) <| zF ?_
 refine zQ (((((!decide (x3.2 = 0)) || (!decide ((x3.1.zones.length : Int) = 2))) || (!decide ((x3.1.caches.length : Int) = 2))) || (!decide (x4 = 0))) || (!decide (x5 = 16))) rfl (fun hb1 => ?_) (fun hb1 => ?_)
 ·replace h := zo hb1 h
  refine zI <| zC <| zA (zD (av := (AV.lit (.bool false))) rfl) <| zF <| za ?_
  show zAS _ _ _ _ _ _
  obtain rfl := Option.some.inj h
  exact zp (zAK rfl rfl)
 ·replace h := zv hb1 h
  refine zR <| zI <| zC <| zA (zT (k := 2) (o := 0) (m := 5) (la := (zJ x3.1)) Tryz.isAgg26 Tryz.sizeOf26 rfl rfl rfl rfl rfl) ?_
  refine zP h ?_; clear h; intro x6 hx6 h
  refine zd Tryz.func11 rfl (by kernel_rfl) (.fn 11) rfl rfl (zGs hx6) rfl <| zA (zB rfl) <| zA (zl rfl rfl) <| zA (zl rfl rfl) <| zA (zD rfl) <| zA (zD rfl) ?_
  refine zF <| zI <| zC <| zA (zT (k := 2) (o := 0) (m := 5) (la := (zJ x3.1)) Tryz.isAgg26 Tryz.sizeOf26 rfl rfl rfl rfl rfl) ?_
  refine zP h ?_; clear h; intro x7 hx7 h
  refine zd Tryz.func23 rfl (by kernel_rfl) (.fn 23) rfl rfl (zKA hx7) rfl <| zA (zB rfl) <| zA (zl rfl rfl) <| zA (zl rfl rfl) <| zA (zl rfl rfl) <| zb (H' := [.dead, .dead, .box 26 (zJ x3.1), .box 26 ([(ls cI ([] : List Int))] ++ ([(li 0)] ++ ([(li 0)] ++ ([(ls zO ([] : List zm))] ++ ([(ls zG ([] : List zK))] ++ [])))))]) (z6 (t := 26) (vs := [.slice none 0 0, .int .i64 0, .int .i64 0, .slice none 0 0, .slice none 0 0]) (cs := [.sl false [], .lit (.int .i64 0), .lit (.int .i64 0), .sl false [], .sl false []]) Tryz.zeroValue26 (by kernel_rfl) rfl ⟨zq.nils, zq.refl _, zq.refl _, zq.nils, zq.nils, trivial⟩) ?_
  refine zx (H' := [.dead, .dead, .box 26 (zJ x3.1), .box 26 (zJ x7.1)]) (zh (k := 3) (o := 0) (cs := ([(ls cI ([] : List Int))] ++ ([(li 0)] ++ ([(li 0)] ++ ([(ls zO ([] : List zm))] ++ ([(ls zG ([] : List zK))] ++ [])))))) (la := (zJ x7.1)) Tryz.sizeOf26 rfl rfl rfl rfl) <| zA (zD (av := (li x7.2.1)) rfl) <| zA (zD (av := (li x7.2.2)) rfl) <| zF <| zI <| zI ?_
  refine zC <| zA (zB rfl) <| zA (z7 rfl rfl) <| zA (zB rfl) <| zU rfl rfl (fun hc15 => zj.step (zB rfl)) <| zU rfl rfl (fun hc16 => zj.step (z7 (zz rfl hc16) rfl)) ?_
  refine zA (zZ (s := !decide (x6.1 = 6)) (q := !decide (x6.2 = 14)) (j := .lit undef) rfl rfl) <| zA (zB (av := (AV.lit (.bool ((!decide (x6.1 = 6)) || (!decide (x6.2 = 14)))))) rfl) <| zU (g := 59) (s := (!decide (x6.1 = 6)) || (!decide (x6.2 = 14))) rfl rfl (fun hc17 => zj.step (zB (av := (li x7.2.2)) rfl)) <| zU (g := 59) (s := (!decide (x6.1 = 6)) || (!decide (x6.2 = 14))) rfl rfl (fun hc18 => zj.step (z7 (a := x7.2.2) (b := 0) (zz rfl hc18) rfl)) <| zA (zZ (s := (!decide (x6.1 = 6)) || (!decide (x6.2 = 14))) (q := !decide (x7.2.2 = 0)) (j := .lit undef) rfl rfl) <| zA (zB (av := (AV.lit (.bool (((!decide (x6.1 = 6)) || (!decide (x6.2 = 14))) || (!decide (x7.2.2 = 0)))))) rfl) ?_
  refine zU rfl rfl (fun hc19 => zj.step (zB rfl)) <| zU rfl rfl (fun hc20 => zj.step (z7 (zz rfl hc20) rfl)) <| zA (zZ rfl rfl) <| zA (zB rfl) <| zU rfl rfl (fun hc21 => zj.step (zT (k := 3) (o := 0) (m := 5) Tryz.isAgg26 Tryz.sizeOf26 rfl rfl rfl rfl rfl)) ?_
  refine zP h ?_; clear h; intro x8 hx8 h
  refine zBZ (g := 67) (s := (((!decide (x6.1 = 6)) || (!decide (x6.2 = 14))) || (!decide (x7.2.2 = 0))) || (!decide (x7.2.1 = 0))) (r' := (AV.lit (.bool x8))) rfl rfl (fun hc22 => ⟨19, _, _, [], [(AV.agg (zJ x7.1)), (li 0)], [(AV.agg (zJ x7.1)), (li 0)], (AV.lit (.bool x8)), [], Tryz.func19, rfl, by kernel_rfl, (.fn 19), (zAF (zz rfl hc22) (zAF rfl rfl)), ⟨zAt.nr rfl, zAt.nr rfl, trivial⟩, zFS (zo hc22 hx8), .inl rfl, rfl⟩) <| zA (zZ (s := (((!decide (x6.1 = 6)) || (!decide (x6.2 = 14))) || (!decide (x7.2.2 = 0))) || (!decide (x7.2.1 = 0))) (q := x8) (j := .lit undef) rfl rfl) <| zA (zB (av := (AV.lit (.bool (((((!decide (x6.1 = 6)) || (!decide (x6.2 = 14))) || (!decide (x7.2.2 = 0))) || (!decide (x7.2.1 = 0))) || x8)))) rfl) <| zU (g := 71) (s := ((((!decide (x6.1 = 6)) || (!decide (x6.2 = 14))) || (!decide (x7.2.2 = 0))) || (!decide (x7.2.1 = 0))) || x8) rfl rfl (fun hc23 => zj.step (zT (k := 3) (o := 0) (m := 5) (la := (zJ x7.1)) Tryz.isAgg26 Tryz.sizeOf26 rfl rfl rfl rfl rfl)) ?_
  refine zP h ?_; clear h; intro x9 hx9 h
  refine zBZ (g := 71) (s := ((((!decide (x6.1 = 6)) || (!decide (x6.2 = 14))) || (!decide (x7.2.2 = 0))) || (!decide (x7.2.1 = 0))) || x8) (r' := (AV.lit (.bool x9))) rfl rfl (fun hc24 => ⟨19, _, _, [], [(AV.agg (zJ x7.1)), (li 1)], [(AV.agg (zJ x7.1)), (li 1)], (AV.lit (.bool x9)), [], Tryz.func19, rfl, by kernel_rfl, (.fn 19), (zAF (zz rfl hc24) (zAF rfl rfl)), ⟨zAt.nr rfl, zAt.nr rfl, trivial⟩, zFS (zo hc24 hx9), .inl rfl, rfl⟩) <| zU rfl rfl (fun hc25 => zj.step (zA8 (t := x9) (zz rfl hc25))) <| zA (zZ rfl rfl) <| zA (zB rfl) <| zU rfl rfl (fun hc26 => zj.step (zT (k := 3) (o := 0) (m := 5) Tryz.isAgg26 Tryz.sizeOf26 rfl rfl rfl rfl rfl)) ?_
  refine zP h ?_; clear h; intro x10 hx10 h
  refine zBZ (g := 76) (s := (((((!decide (x6.1 = 6)) || (!decide (x6.2 = 14))) || (!decide (x7.2.2 = 0))) || (!decide (x7.2.1 = 0))) || x8) || (!x9)) (r' := (li x10)) rfl rfl (fun hc27 => ⟨21, _, _, [], [(AV.agg (zJ x7.1)), (li 0)], [(AV.agg (zJ x7.1)), (li 0)], (li x10), [], Tryz.func21, rfl, by kernel_rfl, (.fn 21), (zAF (zz rfl hc27) (zAF rfl rfl)), ⟨zAt.nr rfl, zAt.nr rfl, trivial⟩, zHh (zo hc27 hx10), .inl rfl, rfl⟩) <| zU (g := 76) (s := (((((!decide (x6.1 = 6)) || (!decide (x6.2 = 14))) || (!decide (x7.2.2 = 0))) || (!decide (x7.2.1 = 0))) || x8) || (!x9)) rfl rfl (fun hc28 => zj.step (z7 (a := x10) (b := 7) (zz rfl hc28) rfl)) <| zA (zZ (s := (((((!decide (x6.1 = 6)) || (!decide (x6.2 = 14))) || (!decide (x7.2.2 = 0))) || (!decide (x7.2.1 = 0))) || x8) || (!x9)) (q := !decide (x10 = 7)) (j := .lit undef) rfl rfl) <| zA (zB (av := (AV.lit (.bool (((((((!decide (x6.1 = 6)) || (!decide (x6.2 = 14))) || (!decide (x7.2.2 = 0))) || (!decide (x7.2.1 = 0))) || x8) || (!x9)) || (!decide (x10 = 7)))))) rfl) <| zU (g := 81) (s := ((((((!decide (x6.1 = 6)) || (!decide (x6.2 = 14))) || (!decide (x7.2.2 = 0))) || (!decide (x7.2.1 = 0))) || x8) || (!x9)) || (!decide (x10 = 7))) rfl rfl (fun hc29 => zj.step (zT (k := 3) (o := 0) (m := 5) (la := (zJ x7.1)) Tryz.isAgg26 Tryz.sizeOf26 rfl rfl rfl rfl rfl)) ?_
  refine zP h ?_; clear h; intro x11 hx11 h
  refine zBZ (g := 81) (s := ((((((!decide (x6.1 = 6)) || (!decide (x6.2 = 14))) || (!decide (x7.2.2 = 0))) || (!decide (x7.2.1 = 0))) || x8) || (!x9)) || (!decide (x10 = 7))) (r' := (li x11)) rfl rfl (fun hc30 => ⟨17, _, _, [], [(AV.agg (zJ x7.1)), (li 8)], [(AV.agg (zJ x7.1)), (li 8)], (li x11), [], Tryz.func17, rfl, by kernel_rfl, (.fn 17), (zAF (zz rfl hc30) (zAF rfl rfl)), ⟨zAt.nr rfl, zAt.nr rfl, trivial⟩, zIE (zo hc30 hx11), .inl rfl, rfl⟩) <| zU rfl rfl (fun hc31 => zj.step (z7 (zz rfl hc31) rfl)) <| zA (zZ rfl rfl) <| zF ?_
  refine zQ ((((((((!decide (x6.1 = 6)) || (!decide (x6.2 = 14))) || (!decide (x7.2.2 = 0))) || (!decide (x7.2.1 = 0))) || x8) || (!x9)) || (!decide (x10 = 7))) || (!decide (x11 = 1))) rfl (fun hb2 => ?_) (fun hb2 => ?_)
  ·replace h := zo hb2 h
   refine zI <| zC <| zA (zD (av := (AV.lit (.bool false))) rfl) <| zF <| za ?_
   show zAS _ _ _ _ _ _
   obtain rfl := Option.some.inj h
   exact zp (zAK rfl rfl)
  ·replace h := zv hb2 h
   refine zR <| zI <| zC <| zA (zT (k := 3) (o := 0) (m := 5) (la := (zJ x7.1)) Tryz.isAgg26 Tryz.sizeOf26 rfl rfl rfl rfl rfl) ?_
   refine zP h ?_; clear h; intro x12 hx12 h
   refine zd Tryz.func28 rfl (by kernel_rfl) (.fn 28) rfl rfl (zKL hx12) rfl <| zA (zB rfl) <| zA (zl rfl rfl) <| zA (zl rfl rfl) <| zb (H' := [.dead, .dead, .box 26 (zJ x3.1), .box 26 (zJ x7.1), .box 26 ([(ls cI ([] : List Int))] ++ ([(li 0)] ++ ([(li 0)] ++ ([(ls zO ([] : List zm))] ++ ([(ls zG ([] : List zK))] ++ [])))))]) (z6 (t := 26) (vs := [.slice none 0 0, .int .i64 0, .int .i64 0, .slice none 0 0, .slice none 0 0]) (cs := [.sl false [], .lit (.int .i64 0), .lit (.int .i64 0), .sl false [], .sl false []]) Tryz.zeroValue26 (by kernel_rfl) rfl ⟨zq.nils, zq.refl _, zq.refl _, zq.nils, zq.nils, trivial⟩) <| zx (H' := [.dead, .dead, .box 26 (zJ x3.1), .box 26 (zJ x7.1), .box 26 (zJ x12.1)]) (zh (k := 4) (o := 0) (cs := ([(ls cI ([] : List Int))] ++ ([(li 0)] ++ ([(li 0)] ++ ([(ls zO ([] : List zm))] ++ ([(ls zG ([] : List zK))] ++ [])))))) (la := (zJ x12.1)) Tryz.sizeOf26 rfl rfl rfl rfl) ?_
   refine zA (zD (av := (li x12.2)) rfl) <| zF <| zI <| zI <| zC <| zA (zB (av := (li x12.2)) rfl) ?_
   refine zA (z7 rfl rfl) <| zF ?_
   refine zQ (!decide (x12.2 = 0)) rfl (fun hb3 => ?_) (fun hb3 => ?_)
   ·replace h := zo hb3 h
    refine zI <| zC <| zA (zD (av := (AV.lit (.bool false))) rfl) <| zF <| za ?_
    show zAS _ _ _ _ _ _
    obtain rfl := Option.some.inj h
    exact zp (zAK rfl rfl)
   ·replace h := zv hb3 h
    refine zR <| zI <| zC <| zA (zT (k := 2) (o := 0) (m := 5) (la := (zJ x3.1)) Tryz.isAgg26 Tryz.sizeOf26 rfl rfl rfl rfl rfl) ?_
    refine zP h ?_; clear h; intro x13 hx13 h
    refine zd Tryz.func26 rfl (by kernel_rfl) (.fn 26) rfl rfl (zIb hx13) rfl <| zA (zB rfl) <| zA (zl rfl rfl) <| zA (zl rfl rfl) <| zA (zl rfl rfl) <| zb (H' := [.dead, .dead, .box 26 (zJ x3.1), .box 26 (zJ x7.1), .box 26 (zJ x12.1), .box 26 ([(ls cI ([] : List Int))] ++ ([(li 0)] ++ ([(li 0)] ++ ([(ls zO ([] : List zm))] ++ ([(ls zG ([] : List zK))] ++ [])))))]) (z6 (t := 26) (vs := [.slice none 0 0, .int .i64 0, .int .i64 0, .slice none 0 0, .slice none 0 0]) (cs := [.sl false [], .lit (.int .i64 0), .lit (.int .i64 0), .sl false [], .sl false []]) Tryz.zeroValue26 (by kernel_rfl) rfl ⟨zq.nils, zq.refl _, zq.refl _, zq.nils, zq.nils, trivial⟩) ?_
    refine zx (H' := [.dead, .dead, .box 26 (zJ x3.1), .box 26 (zJ x7.1), .box 26 (zJ x12.1), .box 26 (zJ x13.1)]) (zh (k := 5) (o := 0) (cs := ([(ls cI ([] : List Int))] ++ ([(li 0)] ++ ([(li 0)] ++ ([(ls zO ([] : List zm))] ++ ([(ls zG ([] : List zK))] ++ [])))))) (la := (zJ x13.1)) Tryz.sizeOf26 rfl rfl rfl rfl) <| zA (zD (av := (li x13.2.1)) rfl) <| zA (zD (av := (li x13.2.2)) rfl) <| zF <| zI ?_
    refine zP h ?_; clear h; intro x14 hx14 h
    refine zP h ?_; clear h; intro x15 hx15 h
    show AW _ _ _ _ _ _ [.dead, .dead, .box 26 (zJ x3.1), .box 26 (zJ x7.1), .box 26 (zJ x12.1), .box 26 (zJ x13.1)]
    refine zAz (n := 111) (m := 0) [.head 0 0, .head 0 0, .head 0 0, .head 0 0, .head 0 0, .head 0 0, .head 0 0, .head 0 0, .head 0 0, .head 0 0, .head 0 0, .head 0 0, .head 0 0] [] [(li x13.2.2), (AV.lit (.bool (decide (x13.2.2 = 0)))), (AV.lit (.bool (decide (x13.2.2 = 0)))), (bif decide (x13.2.2 = 0) then (li x13.2.1) else .lit undef), (bif decide (x13.2.2 = 0) then (AV.lit (.bool (decide (x13.2.1 = 8)))) else .lit undef), (AV.lit (.bool ((decide (x13.2.2 = 0)) && (decide (x13.2.1 = 8))))), (AV.lit (.bool ((decide (x13.2.2 = 0)) && (decide (x13.2.1 = 8))))), (bif (decide (x13.2.2 = 0)) && (decide (x13.2.1 = 8)) then (AV.agg (zJ x12.1)) else .lit undef), (bif (decide (x13.2.2 = 0)) && (decide (x13.2.1 = 8)) then (AV.agg (zJ x14)) else .lit undef), (bif (decide (x13.2.2 = 0)) && (decide (x13.2.1 = 8)) then (AV.agg (zJ x3.1)) else .lit undef), (bif (decide (x13.2.2 = 0)) && (decide (x13.2.1 = 8)) then (AV.lit (.bool x15)) else .lit undef), (AV.lit (.bool (((decide (x13.2.2 = 0)) && (decide (x13.2.1 = 8))) && x15))), (AV.lit (.bool (((decide (x13.2.2 = 0)) && (decide (x13.2.1 = 8))) && x15)))] [[.dead, .dead, .box 26 (zJ x3.1), .box 26 (zJ x7.1), .box 26 (zJ x12.1), .box 26 (zJ x13.1)]] (by kernel_rfl) (by kernel_rfl) ⟨?_, ?_, ?_, ?_, ?_, ?_, ?_, ?_, ?_, ?_, ?_, ?_, ?_, trivial⟩ ?_
    ·exact fun e s p => zt (zB (av := (li x13.2.2)) (s 2 rfl)) ⟨fun _ => rfl, rfl⟩
    ·exact fun e s p => zt (zBT (a := x13.2.2) (b := 0) p.1 rfl) ⟨fun _ => rfl, rfl⟩
    ·exact fun e s p => zt (zB (av := (AV.lit (.bool (decide (x13.2.2 = 0))))) p.1) ⟨fun _ => rfl, rfl⟩
    ·
     intro e4 hs4 hp4
     refine zg (g := 101) (s := decide (x13.2.2 = 0)) rfl hp4.1 (fun hc38 => zj.step (zB (av := (li x13.2.1)) (hs4 9 rfl))) ?_
     exact zF ⟨fun _ => rfl, rfl⟩
    ·
     intro e5 hs5 hp5
     refine zg (g := 101) (s := decide (x13.2.2 = 0)) rfl hp5.2.1 (fun hc39 => zj.step (zBT (a := x13.2.1) (b := 8) (zz hp5.1 hc39) rfl)) ?_
     exact zF ⟨fun _ => rfl, rfl⟩
    ·exact fun e s p => zt (zy (s := decide (x13.2.2 = 0)) (q := decide (x13.2.1 = 8)) (j := .lit undef) p.1 p.2.1) ⟨fun _ => rfl, rfl⟩
    ·exact fun e s p => zt (zB (av := (AV.lit (.bool ((decide (x13.2.2 = 0)) && (decide (x13.2.1 = 8)))))) p.1) ⟨fun _ => rfl, rfl⟩
    ·
     intro e8 hs8 hp8
     refine zg (g := 105) (s := (decide (x13.2.2 = 0)) && (decide (x13.2.1 = 8))) rfl hp8.1 (fun hc40 => zj.step (zT (k := 4) (o := 0) (m := 5) (la := (zJ x12.1)) Tryz.isAgg26 Tryz.sizeOf26 (hs8 7 rfl) rfl rfl rfl rfl)) ?_
     exact zF ⟨fun _ => rfl, rfl⟩
    ·
     intro e9 hs9 hp9
     refine zB1 (g := 105) (s := (decide (x13.2.2 = 0)) && (decide (x13.2.1 = 8))) (r' := (AV.agg (zJ x14))) rfl hp9.2.2.1 (fun hc41 => ⟨34, _, _, [], [(AV.agg (zJ x12.1))], [(AV.agg (zJ x12.1))], (AV.agg (zJ x14)), [], Tryz.func34, rfl, by kernel_rfl, (.fn 34), (zAF (zz hp9.1 hc41) rfl), ⟨zAt.nr rfl, trivial⟩, zJt (zo hc41 hx14), .inl rfl, rfl⟩) ?_
     exact zF ⟨fun _ => rfl, rfl⟩
    ·
     intro e10 hs10 hp10
     refine zg (g := 105) (s := (decide (x13.2.2 = 0)) && (decide (x13.2.1 = 8))) rfl hp10.1 (fun hc42 => zj.step (zT (k := 2) (o := 0) (m := 5) (la := (zJ x3.1)) Tryz.isAgg26 Tryz.sizeOf26 (hs10 1 rfl) rfl rfl rfl rfl)) ?_
     exact zF ⟨fun _ => rfl, rfl⟩
    ·
     intro e11 hs11 hp11
     refine zB1 (g := 105) (s := (decide (x13.2.2 = 0)) && (decide (x13.2.1 = 8))) (r' := (AV.lit (.bool x15))) rfl hp11.2.2.2.1 (fun hc43 => ⟨25, _, _, [], [(AV.agg (zJ x14)), (AV.agg (zJ x3.1))], [(AV.agg (zJ x14)), (AV.agg (zJ x3.1))], (AV.lit (.bool x15)), [], Tryz.func25, rfl, by kernel_rfl, (.fn 25), (zAF (zz hp11.2.2.1 hc43) (zAF (zz hp11.2.1 hc43) rfl)), ⟨zAt.nr rfl, zAt.nr rfl, trivial⟩, zMP (zo hc43 hx15), .inl rfl, rfl⟩) ?_
     exact zF ⟨fun _ => rfl, rfl⟩
    ·exact fun e s p => zt (zy (s := (decide (x13.2.2 = 0)) && (decide (x13.2.1 = 8))) (q := x15) (j := .lit undef) p.1 p.2.1) ⟨fun _ => rfl, rfl⟩
    ·exact fun e s p => zt (zD (av := (AV.lit (.bool (((decide (x13.2.2 = 0)) && (decide (x13.2.1 = 8))) && x15)))) p.2.2.2.2.2.2.2.2.2.2.2.2.2.1) ⟨fun _ => rfl, rfl⟩
    intro e14 hs14 hq1
    refine zY (zBV (l := [(0, (AV.lit (.bool (((decide (x13.2.2 = 0)) && (decide (x13.2.1 = 8))) && x15))))]) ⟨(hq1 12 (by decide) (by decide)), trivial⟩) <| za ?_
    show zAS _ _ _ _ _ _
    obtain rfl := Option.some.inj h
    exact zp (zAK rfl rfl)
theorem zM5 {a_z : zm} {r : Bool} (h : zKF a_z = some r) : PFn Tryz.prog 37 [(AV.agg (zO a_z))] (AV.lit (.bool r)) := by
 refine zi Tryz.func37 rfl Tryz.ntmps37 Tryz.results37 rfl ?_
 unfold zKF at h
 refine zI <| zC <| zb (H' := [.box 51 (zO a_z)]) (zu (t := 51) rfl) <| zA (zD rfl) <| zF ?_
 refine z5 (fun e' H' => Rep 14 0 e' H' (mkE []) [] ∧ zI2  = some r) ?_ ?_
 ·
  refine zI <| zC <| zA (zD rfl) <| zF <| zS <| z9 (σ := Nat × Int) (fun s => s.1) (fun s e' H' => match s with | (n0, i1) => Rep 14 0 e' H' (mkE [(1, (AV.ptr 0 0)), (3, (li i1))]) [.box 51 (zO a_z)] ∧ zEY a_z n0 i1 = some r) (zAC, 0) ⟨zAE [0] rfl rfl (by kernel_rfl), h⟩ ?_
  clear h
  rintro ⟨n0, i1⟩ e' H' ⟨hrep, h⟩
  cases n0 with
  | zero => exact absurd (show (none : Option _) = some r from h) (by simp)
  | succ n0 =>
   replace h : zEc a_z (zEY a_z n0) i1 = some r := h
   unfold zEc at h
   refine zY hrep ?_
   clear hrep
   refine zI <| zI <| zC <| zA (zB rfl) <| zA (zCq rfl rfl) <| zF ?_
   refine zQ (decide (i1 ≤ 4)) rfl (fun hb1 => ?_) (fun hb1 => ?_)
   ·replace h := zo hb1 h
    refine zR <| zI <| zS <| zI <| zC <| zA (zB rfl) ?_
    refine zA (zM Tryz.underlying51 rfl rfl Tryz.sizeOf49 rfl) ?_
    have hb2 := (zH h).1
    replace h := (zH h).2
    refine zA (zAL (m := 5) (s := 1) (i := i1) (k := 0) (o := 5) Tryz.underlying49 Tryz.sizeOf22 rfl rfl hb2) <| zA (zAm (k := 0) (o := (5 + i1.toNat * 1)) (cs := (zO a_z)) (hd := ([(li a_z.node)] ++ [(li a_z.kind)] ++ [(li a_z.start)] ++ [(li a_z.count)] ++ [(li a_z.min)] ++ [])) (tl := ([])) (g := (eS cI)) (d0 := ([] : List Int)) (l := a_z.free) (N := 5) (i := i1.toNat) (a := (ls cI (a_z.free.getD i1.toNat ([] : List Int)))) Tryz.isAgg22 rfl rfl rfl (congrArg (fun q => 5 + q) (Nat.mul_one _)) (zBW hb2).2 rfl rfl) <| zA (zX Tryz.underlying22 rfl) <| zA (zAp rfl rfl) <| zF ?_
    refine zQ (decide (300 < ((a_z.free.getD i1.toNat ([] : List Int)).length : Int))) rfl (fun hb3 => ?_) (fun hb3 => ?_)
    ·replace h := zo hb3 h
     refine zI <| zC <| zA (zD rfl) <| zF <| za ?_
     show zAS _ _ _ _ _ _
     obtain rfl := Option.some.inj h
     exact zp (zAK rfl rfl)
    ·replace h := zv hb3 h
     refine zR <| zC <| zA (zB rfl) ?_
     have hb4 := (zH h).1
     replace h := (zH h).2
     refine zA (ze rfl rfl hb4) <| zA (zD rfl) <| zF ?_
     exact ⟨(n0, (i1 + 1)), Nat.lt_succ_self _, zAE [0] rfl rfl (by kernel_rfl), h⟩
   ·replace h := zv hb1 h
    refine z8 ?_
    exact ⟨zAE [] rfl rfl (by kernel_rfl), h⟩
 ·
  clear h
  rintro e' H' ⟨hrep, h⟩
  refine zY hrep ?_
  clear hrep
  unfold zI2 at h
  refine zI <| zC <| zA (zD rfl) <| zF <| za ?_
  show zAS _ _ _ _ _ _
  obtain rfl := Option.some.inj h
  exact zp (zAK rfl rfl)
theorem zNE {a_c : zK} {r : Bool} (h : zI9 a_c = some r) : PFn Tryz.prog 38 [(AV.agg (zG a_c))] (AV.lit (.bool r)) := by
 refine zi Tryz.func38 rfl Tryz.ntmps38 Tryz.results38 rfl ?_
 unfold zI9 at h
 refine zI <| zC <| zb (H' := [.box 55 (zG a_c)]) (zu (t := 55) rfl) <| zA (zD rfl) <| zF <| zI ?_
 refine zI <| zC <| zA (zM Tryz.underlying55 rfl rfl Tryz.sizeOf53 rfl) <| zA (zN Tryz.isAgg53 rfl rfl rfl rfl) <| zA (zX Tryz.underlying53 rfl) <| zA (zAp rfl rfl) ?_
 refine zF ?_
 refine zQ (decide (20 < (a_c.lists.length : Int))) rfl (fun hb1 => ?_) (fun hb1 => ?_)
 ·replace h := zo hb1 h
  refine zI <| zC <| zA (zD rfl) <| zF <| za ?_
  show zAS _ _ _ _ _ _
  obtain rfl := Option.some.inj h
  exact zp (zAK rfl rfl)
 ·replace h := zv hb1 h
  refine zR ?_
  refine z5 (fun e' H' => Rep 20 0 e' H' (mkE []) [] ∧ zJI  = some r) ?_ ?_
  ·
   refine zI <| zC <| zA (zM Tryz.underlying55 rfl rfl Tryz.sizeOf53 rfl) <| zA (zN Tryz.isAgg53 rfl rfl rfl rfl) <| zA (zX Tryz.underlying53 rfl) <| zA (zB rfl) ?_
   refine zF <| zS <| z9 (σ := Nat × Int) (fun s => s.1) (fun s e' H' => match s with | (n0, i1) => Rep 20 0 e' H' (mkE [(10, (ls (cS cI) a_c.lists)), (11, (li (a_c.lists.length : Int))), (12, (li i1))]) [] ∧ zEf a_c n0 i1 = some r) (zAC, 0) ⟨zAE [] rfl rfl (by kernel_rfl), h⟩ ?_
   clear h
   rintro ⟨n0, i1⟩ e' H' ⟨hrep, h⟩
   cases n0 with
   | zero => exact absurd (show (none : Option _) = some r from h) (by simp)
   | succ n0 =>
    replace h : zEW a_c (zEf a_c n0) i1 = some r := h
    unfold zEW at h
    refine zY hrep ?_
    clear hrep
    refine zI <| zC <| zA (zf rfl rfl) <| zF <| zI ?_
    refine zQ (decide (i1 < (a_c.lists.length : Int))) rfl (fun hb2 => ?_) (fun hb2 => ?_)
    ·replace h := zo hb2 h
     refine zR <| zI <| zS <| zI <| zC ?_
     have hb3 := (zH h).1
     replace h := (zH h).2
     refine zA (zV Tryz.underlying53 Tryz.sizeOf22 (fun _ => rfl) rfl rfl hb3) <| zA (zW (o := 0) Tryz.isAgg22 rfl rfl) <| zA (zD rfl) <| zF <| zI <| zC ?_
     refine zA (zB rfl) <| zA (zX Tryz.underlying22 rfl) <| zA (zAp rfl rfl) <| zF ?_
     refine zQ (decide (300 < ((at_ a_c.lists i1).length : Int))) rfl (fun hb4 => ?_) (fun hb4 => ?_)
     ·replace h := zo hb4 h
      refine zI <| zC <| zA (zD rfl) <| zF <| za ?_
      show zAS _ _ _ _ _ _
      obtain rfl := Option.some.inj h
      exact zp (zAK rfl rfl)
     ·replace h := zv hb4 h
      refine zR <| zC ?_
      have hb5 := (zH h).1
      replace h := (zH h).2
      refine zA (ze rfl rfl hb5) <| zA (zB rfl) <| zF ?_
      exact ⟨(n0, (i1 + 1)), Nat.lt_succ_self _, zAE [] rfl rfl (by kernel_rfl), h⟩
    ·replace h := zv hb2 h
     refine z8 ?_
     exact ⟨zAE [] rfl rfl (by kernel_rfl), h⟩
  ·
   clear h
   rintro e' H' ⟨hrep, h⟩
   refine zY hrep ?_
   clear hrep
   unfold zJI at h
   refine zI <| zC <| zA (zD rfl) <| zF <| za ?_
   show zAS _ _ _ _ _ _
   obtain rfl := Option.some.inj h
   exact zp (zAK rfl rfl)
theorem zMw {a_a : zL} {r : Bool} (h : zJD a_a = some r) : PFn Tryz.prog 10 [(AV.agg (zJ a_a))] (AV.lit (.bool r)) := by
 refine zi Tryz.func10 rfl Tryz.ntmps10 Tryz.results10 rfl ?_
 unfold zJD at h
 refine zI <| zC <| zb (H' := [.box 26 (zJ a_a)]) (zu (t := 26) rfl) <| zA (zD rfl) <| zF <| zI ?_
 refine zI <| zC <| zA (zM Tryz.underlying26 rfl rfl Tryz.sizeOf22 rfl) <| zA (zN Tryz.isAgg22 rfl rfl rfl rfl) <| zA (zX Tryz.underlying22 rfl) <| zA (zAp rfl rfl) ?_
 refine zA (zB rfl) <| zU rfl rfl (fun hc1 => zj.step (zM Tryz.underlying26 rfl rfl Tryz.sizeOf23 rfl)) <| zU rfl rfl (fun hc2 => zj.step (zN Tryz.isAgg23 (zz rfl hc2) rfl rfl rfl)) <| zU rfl rfl (fun hc3 => zj.step (zX Tryz.underlying23 (zz rfl hc3))) <| zU rfl rfl (fun hc4 => zj.step (zAp (zz rfl hc4) rfl)) <| zA (zZ rfl rfl) ?_
 refine zA (zB rfl) <| zU rfl rfl (fun hc5 => zj.step (zM Tryz.underlying26 rfl rfl Tryz.sizeOf24 rfl)) <| zU rfl rfl (fun hc6 => zj.step (zN Tryz.isAgg24 (zz rfl hc6) rfl rfl rfl)) <| zU rfl rfl (fun hc7 => zj.step (zX Tryz.underlying24 (zz rfl hc7))) <| zU rfl rfl (fun hc8 => zj.step (zAp (zz rfl hc8) rfl)) <| zA (zZ rfl rfl) ?_
 refine zF ?_
 refine zQ (((decide (20 < (a_a.nodes.length : Int))) || (decide (20 < (a_a.zones.length : Int)))) || (decide (20 < (a_a.caches.length : Int)))) rfl (fun hb1 => ?_) (fun hb1 => ?_)
 ·replace h := zo hb1 h
  refine zI <| zC <| zA (zD rfl) <| zF <| za ?_
  show zAS _ _ _ _ _ _
  obtain rfl := Option.some.inj h
  exact zp (zAK rfl rfl)
 ·replace h := zv hb1 h
  refine zR ?_
  refine z5 (fun e' H' => Rep 49 0 e' H' (mkE [(1, (AV.ptr 0 0))]) [.box 26 (zJ a_a)] ∧ zJK a_a = some r) ?_ ?_
  ·
   refine zI <| zC <| zA (zD rfl) <| zF <| zS <| z9 (σ := Nat × Int) (fun s => s.1) (fun s e' H' => match s with | (n1, i2) => Rep 49 0 e' H' (mkE [(1, (AV.ptr 0 0)), (3, (li i2))]) [.box 26 (zJ a_a)] ∧ zEi a_a n1 i2 = some r) (zAC, 0) ⟨zAE [0] rfl rfl (by kernel_rfl), h⟩ ?_
   clear h
   rintro ⟨n1, i2⟩ e' H' ⟨hrep, h⟩
   cases n1 with
   | zero => exact absurd (show (none : Option _) = some r from h) (by simp)
   | succ n1 =>
    replace h : zEa a_a (zEi a_a n1) i2 = some r := h
    unfold zEa at h
    refine zY hrep ?_
    clear hrep
    refine zI <| zI <| zC <| zA (zB rfl) <| zA (zM Tryz.underlying26 rfl rfl Tryz.sizeOf23 rfl) <| zA (zN Tryz.isAgg23 rfl rfl rfl rfl) ?_
    refine zA (zX Tryz.underlying23 rfl) <| zA (zf rfl rfl) <| zF ?_
    refine zQ (decide (i2 < (a_a.zones.length : Int))) rfl (fun hb6 => ?_) (fun hb6 => ?_)
    ·replace h := zo hb6 h
     refine zR <| zI <| zS <| zI <| zC <| zA (zM Tryz.underlying26 rfl rfl Tryz.sizeOf23 rfl) ?_
     refine zA (zN Tryz.isAgg23 rfl rfl rfl rfl) <| zA (zB rfl) ?_
     have hb7 := (zH h).1
     replace h := (zH h).2
     refine zA (zV Tryz.underlying23 Tryz.sizeOf51 (fun _ => rfl) rfl rfl hb7) <| zA (zAi (row := (zO (at_ a_a.zones i2))) (o := 0) (m := 10) (la := (zO (at_ a_a.zones i2))) Tryz.isAgg51 Tryz.sizeOf51 rfl rfl rfl) ?_
     refine zP h ?_; clear h; intro x2 hx2 h
     refine zd Tryz.func37 rfl (by kernel_rfl) (.fn 37) rfl rfl (zM5 hx2) rfl <| zA (zA8 (t := x2) rfl) <| zF ?_
     refine zQ (!x2) rfl (fun hb8 => ?_) (fun hb8 => ?_)
     ·replace h := zo hb8 h
      refine zI <| zC <| zA (zD rfl) <| zF <| za ?_
      show zAS _ _ _ _ _ _
      obtain rfl := Option.some.inj h
      exact zp (zAK rfl rfl)
     ·replace h := zv hb8 h
      refine zR <| zC <| zA (zB rfl) ?_
      have hb9 := (zH h).1
      replace h := (zH h).2
      refine zA (ze rfl rfl hb9) <| zA (zD rfl) <| zF ?_
      exact ⟨(n1, (i2 + 1)), Nat.lt_succ_self _, zAE [0] rfl rfl (by kernel_rfl), h⟩
    ·replace h := zv hb6 h
     refine z8 ?_
     exact ⟨zAE [0] rfl rfl (by kernel_rfl), h⟩
  ·
   clear h
   rintro e' H' ⟨hrep, h⟩
   refine zY hrep ?_
   clear hrep
   unfold zJK at h
   refine z5 (fun e' H' => Rep 49 0 e' H' (mkE []) [] ∧ zI7  = some r) ?_ ?_
   ·
    refine zI <| zC <| zA (zD rfl) <| zF <| zS <| z9 (σ := Nat × Int) (fun s => s.1) (fun s e' H' => match s with | (n0, i1) => Rep 49 0 e' H' (mkE [(1, (AV.ptr 0 0)), (4, (li i1))]) [.box 26 (zJ a_a)] ∧ zEV a_a n0 i1 = some r) (zAC, 0) ⟨zAE [0] rfl rfl (by kernel_rfl), h⟩ ?_
    clear h
    rintro ⟨n0, i1⟩ e' H' ⟨hrep, h⟩
    cases n0 with
    | zero => exact absurd (show (none : Option _) = some r from h) (by simp)
    | succ n0 =>
     replace h : zEg a_a (zEV a_a n0) i1 = some r := h
     unfold zEg at h
     refine zY hrep ?_
     clear hrep
     refine zI <| zI <| zC <| zA (zB rfl) <| zA (zM Tryz.underlying26 rfl rfl Tryz.sizeOf24 rfl) <| zA (zN Tryz.isAgg24 rfl rfl rfl rfl) ?_
     refine zA (zX Tryz.underlying24 rfl) <| zA (zf rfl rfl) <| zF ?_
     refine zQ (decide (i1 < (a_a.caches.length : Int))) rfl (fun hb2 => ?_) (fun hb2 => ?_)
     ·replace h := zo hb2 h
      refine zR <| zI <| zS <| zI <| zC <| zA (zM Tryz.underlying26 rfl rfl Tryz.sizeOf24 rfl) ?_
      refine zA (zN Tryz.isAgg24 rfl rfl rfl rfl) <| zA (zB rfl) ?_
      have hb3 := (zH h).1
      replace h := (zH h).2
      refine zA (zV Tryz.underlying24 Tryz.sizeOf55 (fun _ => rfl) rfl rfl hb3) <| zA (zAi (row := (zG (at_ a_a.caches i1))) (o := 0) (m := 1) (la := (zG (at_ a_a.caches i1))) Tryz.isAgg55 Tryz.sizeOf55 rfl rfl rfl) ?_
      refine zP h ?_; clear h; intro x1 hx1 h
      refine zd Tryz.func38 rfl (by kernel_rfl) (.fn 38) rfl rfl (zNE hx1) rfl <| zA (zA8 (t := x1) rfl) <| zF ?_
      refine zQ (!x1) rfl (fun hb4 => ?_) (fun hb4 => ?_)
      ·replace h := zo hb4 h
       refine zI <| zC <| zA (zD rfl) <| zF <| za ?_
       show zAS _ _ _ _ _ _
       obtain rfl := Option.some.inj h
       exact zp (zAK rfl rfl)
      ·replace h := zv hb4 h
       refine zR <| zC <| zA (zB rfl) ?_
       have hb5 := (zH h).1
       replace h := (zH h).2
       refine zA (ze rfl rfl hb5) <| zA (zD rfl) <| zF ?_
       exact ⟨(n0, (i1 + 1)), Nat.lt_succ_self _, zAE [0] rfl rfl (by kernel_rfl), h⟩
     ·replace h := zv hb2 h
      refine z8 ?_
      exact ⟨zAE [] rfl rfl (by kernel_rfl), h⟩
   ·
    clear h
    rintro e' H' ⟨hrep, h⟩
    refine zY hrep ?_
    clear hrep
    unfold zI7 at h
    refine zI <| zC <| zA (zD rfl) <| zF <| za ?_
    show zAS _ _ _ _ _ _
    obtain rfl := Option.some.inj h
    exact zp (zAK rfl rfl)
theorem zKq {a_nodes : List Int} {a_batch : Int} {a_high : Int} {a_zones : Int} {r : Bool} (h : zFc a_nodes a_batch a_high a_zones = some r) : PFn Tryz.prog 46 [(ls cI a_nodes), (li a_batch), (li a_high), (li a_zones)] (AV.lit (.bool r)) := by
 refine zi Tryz.func46 rfl Tryz.ntmps46 Tryz.results46 rfl ?_
 unfold zFc at h
 refine zI <| zC <| zA (zD rfl) <| zF <| zI <| zI ?_
 refine zC <| zA (zB rfl) <| zA (zX Tryz.underlying22 rfl) <| zA (zf rfl rfl) <| zA (zB rfl) <| zU rfl rfl (fun hc1 => zj.step (zB rfl)) ?_
 refine zU rfl rfl (fun hc2 => zj.step (zX Tryz.underlying22 (zz rfl hc2))) <| zU rfl rfl (fun hc3 => zj.step (zAp (zz rfl hc3) rfl)) <| zA (zZ rfl rfl) <| zA (zB rfl) <| zU rfl rfl (fun hc4 => zj.step (zB rfl)) <| zU rfl rfl (fun hc5 => zj.step (zf (zz rfl hc5) rfl)) ?_
 refine zA (zZ rfl rfl) <| zA (zB rfl) <| zU rfl rfl (fun hc6 => zj.step (zB rfl)) <| zU rfl rfl (fun hc7 => zj.step (zB rfl)) <| zU rfl rfl (fun hc8 => zj.step (zAp (zz rfl hc8) (zz rfl hc8))) <| zA (zZ rfl rfl) ?_
 refine zA (zB rfl) <| zU rfl rfl (fun hc9 => zj.step (zB rfl)) <| zU rfl rfl (fun hc10 => zj.step (zAp (zz rfl hc10) rfl)) <| zA (zZ rfl rfl) <| zA (zB rfl) <| zU rfl rfl (fun hc11 => zj.step (zB rfl)) ?_
 refine zU rfl rfl (fun hc12 => zj.step (zf (zz rfl hc12) rfl)) <| zA (zZ rfl rfl) <| zA (zB rfl) <| zU rfl rfl (fun hc13 => zj.step (zB rfl)) <| zU rfl rfl (fun hc14 => zj.step (zAp (zz rfl hc14) rfl)) <| zA (zZ rfl rfl) ?_
 refine zF ?_
 refine zQ (((((((decide ((a_nodes.length : Int) < 1)) || (decide (4 < (a_nodes.length : Int)))) || (decide (a_batch < 1))) || (decide (a_high < a_batch))) || (decide (64 < a_high))) || (decide (a_zones < 1))) || (decide (6 < a_zones))) rfl (fun hb1 => ?_) (fun hb1 => ?_)
 ·replace h := zo hb1 h
  refine zI <| zC <| zA (zD rfl) <| zF <| za ?_
  show zAS _ _ _ _ _ _
  obtain rfl := Option.some.inj h
  exact zp (zAK rfl rfl)
 ·replace h := zv hb1 h
  refine zR ?_
  refine z5 (fun e' H' => Rep 57 0 e' H' (mkE []) [] ∧ zG8  = some r) ?_ ?_
  ·
   refine zI <| zC <| zA (zD rfl) <| zF <| zS <| z9 (σ := Nat × Int) (fun s => s.1) (fun s e' H' => match s with | (n0, i1) => Rep 57 0 e' H' (mkE [(0, (ls cI a_nodes)), (9, (li i1))]) [] ∧ zDz a_nodes n0 i1 = some r) (zAC, 0) ⟨zAE [] rfl rfl (by kernel_rfl), h⟩ ?_
   clear h
   rintro ⟨n0, i1⟩ e' H' ⟨hrep, h⟩
   cases n0 with
   | zero => exact absurd (show (none : Option _) = some r from h) (by simp)
   | succ n0 =>
    replace h : zCO a_nodes (zDz a_nodes n0) i1 = some r := h
    unfold zCO at h
    refine zY hrep ?_
    clear hrep
    refine zI <| zI <| zC <| zA (zB rfl) <| zA (zB rfl) <| zA (zX Tryz.underlying22 rfl) ?_
    refine zA (zf rfl rfl) <| zF ?_
    refine zQ (decide (i1 < (a_nodes.length : Int))) rfl (fun hb2 => ?_) (fun hb2 => ?_)
    ·replace h := zo hb2 h
     refine zR <| zI <| zS <| zI <| zC <| zA (zB rfl) ?_
     refine zA (zB rfl) ?_
     have hb3 := (zH h).1
     replace h := (zH h).2
     refine zA (zV Tryz.underlying22 Tryz.sizeOf3 (fun _ => rfl) rfl rfl hb3) <| zA (zW (o := 0) Tryz.isAgg3 rfl rfl) <| zA (zf rfl rfl) <| zA (zB rfl) <| zU rfl rfl (fun hc15 => zj.step (zB rfl)) <| zU rfl rfl (fun hc16 => zj.step (zB rfl)) ?_
     refine zU rfl rfl (fun hc17 => zj.step (zV Tryz.underlying22 Tryz.sizeOf3 (fun _ => rfl) (zz rfl hc17) (zz rfl hc17) hb3)) <| zU rfl rfl (fun hc18 => zj.step (zW (o := 0) Tryz.isAgg3 (zz rfl hc18) rfl)) <| zU rfl rfl (fun hc19 => zj.step (zAq (zz rfl hc19) rfl)) <| zA (zZ rfl rfl) <| zF ?_
     refine zQ ((decide ((at_ a_nodes i1) < 0)) || (decide (4 ≤ (at_ a_nodes i1)))) rfl (fun hb4 => ?_) (fun hb4 => ?_)
     ·replace h := zo hb4 h
      refine zI <| zC <| zA (zD rfl) <| zF <| za ?_
      show zAS _ _ _ _ _ _
      obtain rfl := Option.some.inj h
      exact zp (zAK rfl rfl)
     ·replace h := zv hb4 h
      refine zR <| zC <| zA (zB rfl) ?_
      have hb5 := (zH h).1
      replace h := (zH h).2
      refine zA (ze rfl rfl hb5) <| zA (zD rfl) <| zF ?_
      exact ⟨(n0, (i1 + 1)), Nat.lt_succ_self _, zAE [] rfl rfl (by kernel_rfl), h⟩
    ·replace h := zv hb2 h
     refine z8 ?_
     exact ⟨zAE [] rfl rfl (by kernel_rfl), h⟩
  ·
   clear h
   rintro e' H' ⟨hrep, h⟩
   refine zY hrep ?_
   clear hrep
   unfold zG8 at h
   refine zI <| zC <| zA (zD rfl) <| zF <| za ?_
   show zAS _ _ _ _ _ _
   obtain rfl := Option.some.inj h
   exact zp (zAK rfl rfl)
theorem zKr {a_z : zm} {r : Bool} (h : zF7 a_z = some r) : PFn Tryz.prog 93 [(AV.agg (zO a_z))] (AV.lit (.bool r)) := by
 refine zi Tryz.func93 rfl Tryz.ntmps93 Tryz.results93 rfl ?_
 unfold zF7 at h
 refine zI <| zC <| zb (H' := [.box 51 (zO a_z)]) (zu (t := 51) rfl) <| zA (zD rfl) <| zF <| zI ?_
 refine zI <| zC <| zA (zM Tryz.underlying51 rfl rfl Tryz.sizeOf3 rfl) <| zA (zN Tryz.isAgg3 rfl rfl rfl rfl) <| zA (zf rfl rfl) <| zA (zB rfl) ?_
 refine zU rfl rfl (fun hc1 => zj.step (zM Tryz.underlying51 rfl rfl Tryz.sizeOf3 rfl)) <| zU rfl rfl (fun hc2 => zj.step (zN Tryz.isAgg3 (zz rfl hc2) rfl rfl rfl)) <| zU rfl rfl (fun hc3 => zj.step (zAq (zz rfl hc3) rfl)) <| zA (zZ rfl rfl) <| zA (zB rfl) <| zU rfl rfl (fun hc4 => zj.step (zM Tryz.underlying51 rfl rfl Tryz.sizeOf3 rfl)) ?_
 refine zU rfl rfl (fun hc5 => zj.step (zN Tryz.isAgg3 (zz rfl hc5) rfl rfl rfl)) <| zU rfl rfl (fun hc6 => zj.step (z7 (zz rfl hc6) rfl)) <| zU rfl rfl (fun hc7 => zj.step (zB (zz rfl hc7))) <| zJn (g := 15) (s' := !((decide (a_z.node < 0)) || (decide (4 ≤ a_z.node)))) (s := !decide (a_z.kind = 0)) rfl rfl (fun hc8 => zj.step (zM Tryz.underlying51 rfl rfl Tryz.sizeOf3 rfl)) <| zJn (g := 15) (s' := !((decide (a_z.node < 0)) || (decide (4 ≤ a_z.node)))) (s := !decide (a_z.kind = 0)) rfl rfl (fun hc9 => zj.step (zN Tryz.isAgg3 (zz rfl hc9) rfl rfl rfl)) <| zJn (g := 15) (s' := !((decide (a_z.node < 0)) || (decide (4 ≤ a_z.node)))) (s := !decide (a_z.kind = 0)) rfl rfl (fun hc10 => zj.step (z7 (zz rfl hc10) rfl)) ?_
 refine zU rfl rfl (fun hc11 => zj.step (zy (j := .lit undef) (zz rfl hc11) (zM0 (c := !((decide (a_z.node < 0)) || (decide (4 ≤ a_z.node)))) (d := !decide (a_z.kind = 0)) (a := (AV.lit (.bool (!decide (a_z.kind = 1))))) (j := .lit undef) rfl hc11))) <| zA (zZ rfl rfl) <| zF ?_
 refine zQ (((decide (a_z.node < 0)) || (decide (4 ≤ a_z.node))) || ((!decide (a_z.kind = 0)) && (!decide (a_z.kind = 1)))) rfl (fun hb1 => ?_) (fun hb1 => ?_)
 ·replace h := zo hb1 h
  refine zI <| zC <| zA (zD rfl) <| zF <| za ?_
  show zAS _ _ _ _ _ _
  obtain rfl := Option.some.inj h
  exact zp (zAK rfl rfl)
 ·replace h := zv hb1 h
  refine zR <| zI <| zC <| zA (zM Tryz.underlying51 rfl rfl Tryz.sizeOf3 rfl) <| zA (zN Tryz.isAgg3 rfl rfl rfl rfl) <| zA (zAq rfl rfl) ?_
  refine zA (zB rfl) <| zg rfl rfl (fun hc12 => zj.step (zM Tryz.underlying51 rfl rfl Tryz.sizeOf3 rfl)) <| zg rfl rfl (fun hc13 => zj.step (zN Tryz.isAgg3 (zz rfl hc13) rfl rfl rfl)) <| zg rfl rfl (fun hc14 => zj.step (zAq (zz rfl hc14) rfl)) <| zA (zy (j := .lit undef) rfl rfl) <| zA (zB rfl) ?_
  refine zg rfl rfl (fun hc15 => zj.step (zM Tryz.underlying51 rfl rfl Tryz.sizeOf3 rfl)) <| zg rfl rfl (fun hc16 => zj.step (zN Tryz.isAgg3 (zz rfl hc16) rfl rfl rfl)) <| zg rfl rfl (fun hc17 => zj.step (zCq (zz rfl hc17) rfl)) <| zA (zy (j := .lit undef) rfl rfl) <| zA (zB rfl) <| zg rfl rfl (fun hc18 => zj.step (zM Tryz.underlying51 rfl rfl Tryz.sizeOf3 rfl)) ?_
  refine zg rfl rfl (fun hc19 => zj.step (zN Tryz.isAgg3 (zz rfl hc19) rfl rfl rfl)) <| zg rfl rfl (fun hc20 => zj.step (zM Tryz.underlying51 rfl rfl Tryz.sizeOf3 rfl)) <| zg rfl rfl (fun hc21 => zj.step (zN Tryz.isAgg3 (zz rfl hc21) rfl rfl rfl)) ?_
  have hb2 := (zH h).1
  replace h := (zH h).2
  refine zg rfl rfl (fun hc22 => zj.step (zB5 rfl (zz rfl hc22) (zFp hb2 hc22))) <| zg rfl rfl (fun hc23 => zj.step (zCq (zz rfl hc23) (zz rfl hc23))) <| zA (zy (j := .lit undef) rfl rfl) <| zA (zB rfl) <| zg rfl rfl (fun hc24 => zj.step (zM Tryz.underlying51 rfl rfl Tryz.sizeOf3 rfl)) <| zg rfl rfl (fun hc25 => zj.step (zN Tryz.isAgg3 (zz rfl hc25) rfl rfl rfl)) ?_
  refine zg rfl rfl (fun hc26 => zj.step (zAq (zz rfl hc26) rfl)) <| zA (zy (j := .lit undef) rfl rfl) <| zA (zB rfl) <| zg rfl rfl (fun hc27 => zj.step (zM Tryz.underlying51 rfl rfl Tryz.sizeOf3 rfl)) <| zg rfl rfl (fun hc28 => zj.step (zN Tryz.isAgg3 (zz rfl hc28) rfl rfl rfl)) <| zg rfl rfl (fun hc29 => zj.step (zM Tryz.underlying51 rfl rfl Tryz.sizeOf3 rfl)) ?_
  refine zg rfl rfl (fun hc30 => zj.step (zN Tryz.isAgg3 (zz rfl hc30) rfl rfl rfl)) <| zg rfl rfl (fun hc31 => zj.step (zCq (zz rfl hc31) (zz rfl hc31))) <| zA (zy (j := .lit undef) rfl rfl) <| zA (zD rfl) <| zF <| za ?_
  show zAS _ _ _ _ _ _
  obtain rfl := Option.some.inj h
  exact zp (zAK rfl rfl)
theorem zHx {a_z : zm} {a_frame : Int} {a_order : Int} {r : Bool} (h : zCp a_z a_frame a_order = some r) : PFn Tryz.prog 72 [(AV.agg (zO a_z)), (li a_frame), (li a_order)] (AV.lit (.bool r)) := by
 refine zi Tryz.func72 rfl Tryz.ntmps72 Tryz.results72 rfl ?_
 unfold zCp at h
 refine zI <| zC <| zb (H' := [.box 51 (zO a_z)]) (zu (t := 51) rfl) <| zA (zD rfl) <| zF <| zI ?_
 refine zI <| zC <| zA (zB rfl) <| zA (zf rfl rfl) <| zA (zB rfl) <| zU rfl rfl (fun hc1 => zj.step (zB rfl)) ?_
 refine zU rfl rfl (fun hc2 => zj.step (zAp (zz rfl hc2) rfl)) <| zA (zZ rfl rfl) <| zA (zB rfl) <| zU rfl rfl (fun hc3 => zj.step (zB rfl)) <| zU rfl rfl (fun hc4 => zj.step (zM Tryz.underlying51 rfl rfl Tryz.sizeOf3 rfl)) <| zU rfl rfl (fun hc5 => zj.step (zN Tryz.isAgg3 (zz rfl hc5) rfl rfl rfl)) ?_
 refine zU rfl rfl (fun hc6 => zj.step (zf (zz rfl hc6) (zz rfl hc6))) <| zA (zZ rfl rfl) <| zA (zB rfl) <| zU rfl rfl (fun hc7 => zj.step (zB rfl)) <| zU rfl rfl (fun hc8 => zj.step (zM Tryz.underlying51 rfl rfl Tryz.sizeOf3 rfl)) <| zU rfl rfl (fun hc9 => zj.step (zN Tryz.isAgg3 (zz rfl hc9) rfl rfl rfl)) ?_
 refine zU rfl rfl (fun hc10 => zj.step (zM Tryz.underlying51 rfl rfl Tryz.sizeOf3 rfl)) <| zU rfl rfl (fun hc11 => zj.step (zN Tryz.isAgg3 (zz rfl hc11) rfl rfl rfl)) ?_
 have hb1 := (zH h).1
 replace h := (zH h).2
 refine zU rfl rfl (fun hc12 => zj.step (ze (zz rfl hc12) (zz rfl hc12) (zFp hb1 hc12))) <| zU rfl rfl (fun hc13 => zj.step (zAq (zz rfl hc13) (zz rfl hc13))) <| zA (zZ rfl rfl) <| zF ?_
 refine zQ ((((decide (a_order < 0)) || (decide (4 < a_order))) || (decide (a_frame < a_z.start))) || (decide ((a_z.start + a_z.count) ≤ a_frame))) rfl (fun hb2 => ?_) (fun hb2 => ?_)
 ·replace h := zo hb2 h
  refine zI <| zC <| zA (zD rfl) <| zF <| za ?_
  show zAS _ _ _ _ _ _
  obtain rfl := Option.some.inj h
  exact zp (zAK rfl rfl)
 ·replace h := zv hb2 h
  refine zR <| zI <| zC <| zA (zB rfl) <| zA (zB rfl) ?_
  have hb3 := (zH h).1
  replace h := (zH h).2
  refine zA (zHQ (k' := .u64) (a := a_order) Tryz.underlying3 Tryz.underlying74 rfl hb3) ?_
  have hb4 := (zH h).1
  replace h := (zH h).2
  have hb5 := (zH h).1
  replace h := (zH h).2
  refine zA (zDp (a := 1) (b := a_order) rfl rfl hb4 hb5) ?_
  have hb6 := (zH h).1
  replace h := (zH h).2
  refine zA (zOR (k := .i64) (a := a_frame) (b := (1 : Int) * 2 ^ a_order.toNat) rfl rfl hb6) <| zA (zBT rfl rfl) <| zA (zB rfl) <| zg rfl rfl (fun hc14 => zj.step (zB rfl)) <| zg rfl rfl (fun hc15 => zj.step (zB rfl)) <| zg rfl rfl (fun hc16 => zj.step (zHQ (k' := .u64) (a := a_order) Tryz.underlying3 Tryz.underlying74 (zz rfl hc16) hb3)) ?_
  refine zg rfl rfl (fun hc17 => zj.step (zDp (a := 1) (b := a_order) rfl (zz rfl hc17) hb4 hb5)) ?_
  have hb7 := (zH h).1
  replace h := (zH h).2
  refine zg rfl rfl (fun hc18 => zj.step (ze (zz rfl hc18) (zz rfl hc18) (zFp hb7 hc18))) <| zg rfl rfl (fun hc19 => zj.step (zM Tryz.underlying51 rfl rfl Tryz.sizeOf3 rfl)) <| zg rfl rfl (fun hc20 => zj.step (zN Tryz.isAgg3 (zz rfl hc20) rfl rfl rfl)) <| zg rfl rfl (fun hc21 => zj.step (zM Tryz.underlying51 rfl rfl Tryz.sizeOf3 rfl)) <| zg rfl rfl (fun hc22 => zj.step (zN Tryz.isAgg3 (zz rfl hc22) rfl rfl rfl)) ?_
  have hb8 := (zH h).1
  replace h := (zH h).2
  refine zg rfl rfl (fun hc23 => zj.step (ze (zz rfl hc23) (zz rfl hc23) (zFp hb8 hc23))) <| zg rfl rfl (fun hc24 => zj.step (zCq (zz rfl hc24) (zz rfl hc24))) <| zA (zy (j := .lit undef) rfl rfl) <| zA (zD rfl) <| zF <| za ?_
  show zAS _ _ _ _ _ _
  obtain rfl := Option.some.inj h
  exact zp (zAK rfl rfl)
theorem zJx {a_z : zm} {r : Int} (h : zFy a_z = some r) : PFn Tryz.prog 94 [(AV.agg (zO a_z))] (li r) := by
 refine zi Tryz.func94 rfl Tryz.ntmps94 Tryz.results94 rfl ?_
 unfold zFy at h
 refine zI <| zC <| zb (H' := [.box 51 (zO a_z)]) (zu (t := 51) rfl) <| zA (zD rfl) <| zF ?_
 refine z5 (fun e' H' => Rep 49 0 e' H' (mkE []) [] ∧ zGA  = some r) ?_ ?_
 ·
  refine zI <| zC <| zA (zD rfl) <| zF <| zS <| z9 (σ := Nat × Int) (fun s => s.1) (fun s e' H' => match s with | (n0, i1) => Rep 49 0 e' H' (mkE [(1, (AV.ptr 0 0)), (3, (li i1))]) [.box 51 (zO a_z)] ∧ zBC a_z n0 i1 = some r) (zAC, 0) ⟨zAE [0] rfl rfl (by kernel_rfl), h⟩ ?_
  clear h
  rintro ⟨n0, i1⟩ e' H' ⟨hrep, h⟩
  cases n0 with
  | zero => exact absurd (show (none : Option _) = some r from h) (by simp)
  | succ n0 =>
   replace h : zBx a_z (zBC a_z n0) i1 = some r := h
   unfold zBx at h
   refine zY hrep ?_
   clear hrep
   refine zI <| zI <| zC <| zA (zB rfl) <| zA (zCq rfl rfl) <| zF ?_
   refine zQ (decide (i1 ≤ 4)) rfl (fun hb1 => ?_) (fun hb1 => ?_)
   ·replace h := zo hb1 h
    refine zR ?_
    refine z5 (fun e' H' => Rep 49 0 e' H' (mkE [(1, (AV.ptr 0 0)), (3, (li i1))]) [.box 51 (zO a_z)] ∧ zEM (zBC a_z n0) i1 = some r) ?_ ?_
    ·
     refine zS <| zI <| zC <| zA (zD rfl) <| zF <| zS ?_
     refine z9 (σ := Nat × Int) (fun s => s.1) (fun s e' H' => match s with | (n1, i2) => Rep 49 0 e' H' (mkE [(1, (AV.ptr 0 0)), (3, (li i1)), (4, (li i2))]) [.box 51 (zO a_z)] ∧ zC3 (zBC a_z n0) a_z i1 n1 i2 = some r) (zAC, 0) ⟨zAE [0] rfl rfl (by kernel_rfl), h⟩ ?_
     clear h
     rintro ⟨n1, i2⟩ e' H' ⟨hrep, h⟩
     cases n1 with
     | zero => exact absurd (show (none : Option _) = some r from h) (by simp)
     | succ n1 =>
      replace h : zBz (zBC a_z n0) a_z i1 (zC3 (zBC a_z n0) a_z i1 n1) i2 = some r := h
      unfold zBz at h
      refine zY hrep ?_
      clear hrep
      refine zI <| zI <| zC <| zA (zB rfl) <| zA (zB rfl) <| zA (zM Tryz.underlying51 rfl rfl Tryz.sizeOf49 rfl) ?_
      have hb3 := (zH h).1
      replace h := (zH h).2
      refine zA (zAL (m := 5) (s := 1) (i := i1) (k := 0) (o := 5) Tryz.underlying49 Tryz.sizeOf22 rfl rfl hb3) <| zA (zAm (k := 0) (o := (5 + i1.toNat * 1)) (cs := (zO a_z)) (hd := ([(li a_z.node)] ++ [(li a_z.kind)] ++ [(li a_z.start)] ++ [(li a_z.count)] ++ [(li a_z.min)] ++ [])) (tl := ([])) (g := (eS cI)) (d0 := ([] : List Int)) (l := a_z.free) (N := 5) (i := i1.toNat) (a := (ls cI (a_z.free.getD i1.toNat ([] : List Int)))) Tryz.isAgg22 rfl rfl rfl (congrArg (fun q => 5 + q) (Nat.mul_one _)) (zBW hb3).2 rfl rfl) <| zA (zX Tryz.underlying22 rfl) <| zA (zf rfl rfl) <| zF ?_
      refine zQ (decide (i2 < ((a_z.free.getD i1.toNat ([] : List Int)).length : Int))) rfl (fun hb4 => ?_) (fun hb4 => ?_)
      ·replace h := zo hb4 h
       refine zR <| zI <| zS <| zI <| zI ?_
       have hb5 := (zH h).1
       replace h := (zH h).2
       refine zP h ?_; clear h; intro x1 hx1 h
       show AW _ _ _ _ _ _ [.box 51 (zO a_z)]
       refine zAz (n := 49) (m := 0) [.head 0 0, .head 0 0, .head 0 0, .head 0 0, .head 0 0, .head 0 0, .head 0 0, .head 0 0, .head 0 0, .head 0 0, .head 0 0] [] [(AV.agg (zO a_z)), (li i1), (AV.ptr 0 5), (AV.ptr 0 (5 + i1.toNat * 1)), (ls cI (a_z.free.getD i1.toNat ([] : List Int))), (li i2), (AV.rp (cI (at_ (a_z.free.getD i1.toNat ([] : List Int)) i2)) 0), (li (at_ (a_z.free.getD i1.toNat ([] : List Int)) i2)), (li i1), (AV.lit (.bool x1)), (AV.lit (.bool (!x1)))] [[.box 51 (zO a_z)]] (by kernel_rfl) (by kernel_rfl) ⟨?_, ?_, ?_, ?_, ?_, ?_, ?_, ?_, ?_, ?_, ?_, trivial⟩ ?_
       ·exact fun e s p => zt (zT (k := 0) (o := 0) (m := 10) (la := (zO a_z)) Tryz.isAgg51 Tryz.sizeOf51 (s 1 rfl) rfl rfl rfl rfl) ⟨fun _ => rfl, rfl⟩
       ·exact fun e s p => zt (zB (av := (li i1)) (s 3 rfl)) ⟨fun _ => rfl, rfl⟩
       ·exact fun e s p => zt (zM (k := 0) (o := 0) (off := 5) Tryz.underlying51 rfl rfl Tryz.sizeOf49 (s 1 rfl)) ⟨fun _ => rfl, rfl⟩
       ·exact fun e s p => zt (zAL (m := 5) (s := 1) (i := i1) (k := 0) (o := 5) Tryz.underlying49 Tryz.sizeOf22 p.1 p.2.1 hb3) ⟨fun _ => rfl, rfl⟩
       ·exact fun e s p => zt (zAm (k := 0) (o := (5 + i1.toNat * 1)) (cs := (zO a_z)) (hd := ([(li a_z.node)] ++ [(li a_z.kind)] ++ [(li a_z.start)] ++ [(li a_z.count)] ++ [(li a_z.min)] ++ [])) (tl := ([])) (g := (eS cI)) (d0 := ([] : List Int)) (l := a_z.free) (N := 5) (i := i1.toNat) (a := (ls cI (a_z.free.getD i1.toNat ([] : List Int)))) Tryz.isAgg22 p.1 rfl rfl (congrArg (fun q => 5 + q) (Nat.mul_one _)) (zBW hb3).2 rfl rfl) ⟨fun _ => rfl, rfl⟩
       ·exact fun e s p => zt (zB (av := (li i2)) (s 4 rfl)) ⟨fun _ => rfl, rfl⟩
       ·exact fun e s p => zt (zV (f := cI) (l := a_z.free.getD i1.toNat ([] : List Int)) (i := i2) Tryz.underlying22 Tryz.sizeOf3 (fun _ => rfl) p.1 p.2.1 hb5) ⟨fun _ => rfl, rfl⟩
       ·exact fun e s p => zt (zW (row := (cI (at_ (a_z.free.getD i1.toNat ([] : List Int)) i2))) (o := 0) (a := (li (at_ (a_z.free.getD i1.toNat ([] : List Int)) i2))) Tryz.isAgg3 p.1 rfl) ⟨fun _ => rfl, rfl⟩
       ·exact fun e s p => zt (zB (av := (li i1)) (s 3 rfl)) ⟨fun _ => rfl, rfl⟩
       ·
        intro e10 hs10 hp10
        refine zd (r := (AV.lit (.bool x1))) (la := [(AV.agg (zO a_z)), (li (at_ (a_z.free.getD i1.toNat ([] : List Int)) i2)), (li i1)]) Tryz.func72 rfl (by kernel_rfl) (.fn 72) (zAF hp10.1 (zAF hp10.2.1 (zAF hp10.2.2.1 rfl))) rfl (zHx hx1) rfl ?_
        exact zF ⟨fun _ => rfl, rfl⟩
       ·exact fun e s p => zt (zA8 (t := x1) p.1) ⟨fun _ => rfl, rfl⟩
       intro e12 hs12 hq1
       refine zY (zBV (l := [(1, (AV.ptr 0 0)), (3, (li i1)), (4, (li i2)), (28, (AV.lit (.bool (!x1))))]) ⟨(hs12 1 rfl), (hs12 3 rfl), (hs12 4 rfl), (hq1 10 (by decide) (by decide)), trivial⟩) ?_
       refine zQ (!x1) rfl (fun hb6 => ?_) (fun hb6 => ?_)
       ·replace h := zo hb6 h
        refine zI <| zC <| zA (zD rfl) <| zF <| za ?_
        show zAS _ _ _ _ _ _
        obtain rfl := Option.some.inj h
        exact zp (zAK rfl rfl)
       ·replace h := zv hb6 h
        refine zR <| zI ?_
        have hb7 := (zH h).1
        replace h := (zH h).2
        have hb8 := (zH h).1
        replace h := (zH h).2
        show AW _ _ _ _ _ _ [.box 51 (zO a_z)]
        refine zAz (n := 49) (m := 0) [.head 0 0, .head 0 0, .head 0 0, .head 0 0, .head 0 0, .head 0 0, .head 0 0, .head 0 0, .head 0 0, .head 0 0, .head 0 0, .head 0 0, .head 0 0, .head 0 0, .head 0 0, .head 0 0, .head 0 0, .head 0 0, .head 0 0, .head 0 0] [] [(li i2), (AV.lit (.bool (decide (0 < i2)))), (AV.lit (.bool (decide (0 < i2)))), (bif decide (0 < i2) then (li i1) else .lit undef), (bif decide (0 < i2) then (AV.ptr 0 5) else .lit undef), (bif decide (0 < i2) then (AV.ptr 0 (5 + i1.toNat * 1)) else .lit undef), (bif decide (0 < i2) then (ls cI (a_z.free.getD i1.toNat ([] : List Int))) else .lit undef), (bif decide (0 < i2) then (li i2) else .lit undef), (bif decide (0 < i2) then (AV.rp (cI (at_ (a_z.free.getD i1.toNat ([] : List Int)) i2)) 0) else .lit undef), (bif decide (0 < i2) then (li (at_ (a_z.free.getD i1.toNat ([] : List Int)) i2)) else .lit undef), (bif decide (0 < i2) then (li i1) else .lit undef), (bif decide (0 < i2) then (AV.ptr 0 5) else .lit undef), (bif decide (0 < i2) then (AV.ptr 0 (5 + i1.toNat * 1)) else .lit undef), (bif decide (0 < i2) then (ls cI (a_z.free.getD i1.toNat ([] : List Int))) else .lit undef), (bif decide (0 < i2) then (li i2) else .lit undef), (bif decide (0 < i2) then (li (i2 - 1)) else .lit undef), (bif decide (0 < i2) then (AV.rp (cI (at_ (a_z.free.getD i1.toNat ([] : List Int)) (i2 - 1))) 0) else .lit undef), (bif decide (0 < i2) then (li (at_ (a_z.free.getD i1.toNat ([] : List Int)) (i2 - 1))) else .lit undef), (bif decide (0 < i2) then (AV.lit (.bool (decide ((at_ (a_z.free.getD i1.toNat ([] : List Int)) i2) ≤ (at_ (a_z.free.getD i1.toNat ([] : List Int)) (i2 - 1)))))) else .lit undef), (AV.lit (.bool ((decide (0 < i2)) && (decide ((at_ (a_z.free.getD i1.toNat ([] : List Int)) i2) ≤ (at_ (a_z.free.getD i1.toNat ([] : List Int)) (i2 - 1)))))))] [[.box 51 (zO a_z)]] (by kernel_rfl) (by kernel_rfl) ⟨?_, ?_, ?_, ?_, ?_, ?_, ?_, ?_, ?_, ?_, ?_, ?_, ?_, ?_, ?_, ?_, ?_, ?_, ?_, ?_, trivial⟩ ?_
        ·exact fun e s p => zt (zB (av := (li i2)) (s 4 rfl)) ⟨fun _ => rfl, rfl⟩
        ·exact fun e s p => zt (zAp (a := i2) (b := 0) p.1 rfl) ⟨fun _ => rfl, rfl⟩
        ·exact fun e s p => zt (zB (av := (AV.lit (.bool (decide (0 < i2))))) p.1) ⟨fun _ => rfl, rfl⟩
        ·
         intro e16 hs16 hp15
         refine zg (g := 31) (s := decide (0 < i2)) rfl hp15.1 (fun hc17 => zj.step (zB (av := (li i1)) (hs16 3 rfl))) ?_
         exact zF ⟨fun _ => rfl, rfl⟩
        ·
         intro e17 hs17 hp16
         refine zg (g := 31) (s := decide (0 < i2)) rfl hp16.1 (fun hc18 => zj.step (zM (k := 0) (o := 0) (off := 5) Tryz.underlying51 rfl rfl Tryz.sizeOf49 (hs17 1 rfl))) ?_
         exact zF ⟨fun _ => rfl, rfl⟩
        ·
         intro e18 hs18 hp17
         refine zg (g := 31) (s := decide (0 < i2)) rfl hp17.2.2.1 (fun hc19 => zj.step (zAL (m := 5) (s := 1) (i := i1) (k := 0) (o := 5) Tryz.underlying49 Tryz.sizeOf22 (zz hp17.1 hc19) (zz hp17.2.1 hc19) hb3)) ?_
         exact zF ⟨fun _ => rfl, rfl⟩
        ·
         intro e19 hs19 hp18
         refine zg (g := 31) (s := decide (0 < i2)) rfl hp18.2.1 (fun hc20 => zj.step (zAm (k := 0) (o := (5 + i1.toNat * 1)) (cs := (zO a_z)) (hd := ([(li a_z.node)] ++ [(li a_z.kind)] ++ [(li a_z.start)] ++ [(li a_z.count)] ++ [(li a_z.min)] ++ [])) (tl := ([])) (g := (eS cI)) (d0 := ([] : List Int)) (l := a_z.free) (N := 5) (i := i1.toNat) (a := (ls cI (a_z.free.getD i1.toNat ([] : List Int)))) Tryz.isAgg22 (zz hp18.1 hc20) rfl rfl (congrArg (fun q => 5 + q) (Nat.mul_one _)) (zBW hb3).2 rfl rfl)) ?_
         exact zF ⟨fun _ => rfl, rfl⟩
        ·
         intro e20 hs20 hp19
         refine zg (g := 31) (s := decide (0 < i2)) rfl hp19.1 (fun hc21 => zj.step (zB (av := (li i2)) (hs20 4 rfl))) ?_
         exact zF ⟨fun _ => rfl, rfl⟩
        ·
         intro e21 hs21 hp20
         refine zg (g := 31) (s := decide (0 < i2)) rfl hp20.2.2.1 (fun hc22 => zj.step (zV (f := cI) (l := a_z.free.getD i1.toNat ([] : List Int)) (i := i2) Tryz.underlying22 Tryz.sizeOf3 (fun _ => rfl) (zz hp20.1 hc22) (zz hp20.2.1 hc22) hb5)) ?_
         exact zF ⟨fun _ => rfl, rfl⟩
        ·
         intro e22 hs22 hp21
         refine zg (g := 31) (s := decide (0 < i2)) rfl hp21.2.1 (fun hc23 => zj.step (zW (row := (cI (at_ (a_z.free.getD i1.toNat ([] : List Int)) i2))) (o := 0) (a := (li (at_ (a_z.free.getD i1.toNat ([] : List Int)) i2))) Tryz.isAgg3 (zz hp21.1 hc23) rfl)) ?_
         exact zF ⟨fun _ => rfl, rfl⟩
        ·
         intro e23 hs23 hp22
         refine zg (g := 31) (s := decide (0 < i2)) rfl hp22.1 (fun hc24 => zj.step (zB (av := (li i1)) (hs23 3 rfl))) ?_
         exact zF ⟨fun _ => rfl, rfl⟩
        ·
         intro e24 hs24 hp23
         refine zg (g := 31) (s := decide (0 < i2)) rfl hp23.1 (fun hc25 => zj.step (zM (k := 0) (o := 0) (off := 5) Tryz.underlying51 rfl rfl Tryz.sizeOf49 (hs24 1 rfl))) ?_
         exact zF ⟨fun _ => rfl, rfl⟩
        ·
         intro e25 hs25 hp24
         refine zg (g := 31) (s := decide (0 < i2)) rfl hp24.2.2.1 (fun hc26 => zj.step (zAL (m := 5) (s := 1) (i := i1) (k := 0) (o := 5) Tryz.underlying49 Tryz.sizeOf22 (zz hp24.1 hc26) (zz hp24.2.1 hc26) hb3)) ?_
         exact zF ⟨fun _ => rfl, rfl⟩
        ·
         intro e26 hs26 hp25
         refine zg (g := 31) (s := decide (0 < i2)) rfl hp25.2.1 (fun hc27 => zj.step (zAm (k := 0) (o := (5 + i1.toNat * 1)) (cs := (zO a_z)) (hd := ([(li a_z.node)] ++ [(li a_z.kind)] ++ [(li a_z.start)] ++ [(li a_z.count)] ++ [(li a_z.min)] ++ [])) (tl := ([])) (g := (eS cI)) (d0 := ([] : List Int)) (l := a_z.free) (N := 5) (i := i1.toNat) (a := (ls cI (a_z.free.getD i1.toNat ([] : List Int)))) Tryz.isAgg22 (zz hp25.1 hc27) rfl rfl (congrArg (fun q => 5 + q) (Nat.mul_one _)) (zBW hb3).2 rfl rfl)) ?_
         exact zF ⟨fun _ => rfl, rfl⟩
        ·
         intro e27 hs27 hp26
         refine zg (g := 31) (s := decide (0 < i2)) rfl hp26.1 (fun hc28 => zj.step (zB (av := (li i2)) (hs27 4 rfl))) ?_
         exact zF ⟨fun _ => rfl, rfl⟩
        ·
         intro e28 hs28 hp27
         refine zg (g := 31) (s := decide (0 < i2)) rfl hp27.2.1 (fun hc29 => zj.step (zB5 (a := i2) (b := 1) (zz hp27.1 hc29) rfl (zFp hb7 hc29))) ?_
         exact zF ⟨fun _ => rfl, rfl⟩
        ·
         intro e29 hs29 hp28
         refine zg (g := 31) (s := decide (0 < i2)) rfl hp28.2.2.1 (fun hc30 => zj.step (zV (f := cI) (l := a_z.free.getD i1.toNat ([] : List Int)) (i := i2 - 1) Tryz.underlying22 Tryz.sizeOf3 (fun _ => rfl) (zz hp28.1 hc30) (zz hp28.2.1 hc30) (zFp hb8 hc30))) ?_
         exact zF ⟨fun _ => rfl, rfl⟩
        ·
         intro e30 hs30 hp29
         refine zg (g := 31) (s := decide (0 < i2)) rfl hp29.2.1 (fun hc31 => zj.step (zW (row := (cI (at_ (a_z.free.getD i1.toNat ([] : List Int)) (i2 - 1)))) (o := 0) (a := (li (at_ (a_z.free.getD i1.toNat ([] : List Int)) (i2 - 1)))) Tryz.isAgg3 (zz hp29.1 hc31) rfl)) ?_
         exact zF ⟨fun _ => rfl, rfl⟩
        ·
         intro e31 hs31 hp30
         refine zg (g := 31) (s := decide (0 < i2)) rfl hp30.2.2.1 (fun hc32 => zj.step (zCq (a := at_ (a_z.free.getD i1.toNat ([] : List Int)) i2) (b := at_ (a_z.free.getD i1.toNat ([] : List Int)) (i2 - 1)) (zz hp30.1 hc32) (zz hp30.2.1 hc32))) ?_
         exact zF ⟨fun _ => rfl, rfl⟩
        ·exact fun e s p => zt (zy (s := decide (0 < i2)) (q := decide ((at_ (a_z.free.getD i1.toNat ([] : List Int)) i2) ≤ (at_ (a_z.free.getD i1.toNat ([] : List Int)) (i2 - 1)))) (j := .lit undef) p.1 p.2.1) ⟨fun _ => rfl, rfl⟩
        intro e33 hs33 hq2
        refine zY (zBV (l := [(1, (AV.ptr 0 0)), (3, (li i1)), (4, (li i2)), (48, (AV.lit (.bool ((decide (0 < i2)) && (decide ((at_ (a_z.free.getD i1.toNat ([] : List Int)) i2) ≤ (at_ (a_z.free.getD i1.toNat ([] : List Int)) (i2 - 1))))))))]) ⟨(hs33 1 rfl), (hs33 3 rfl), (hs33 4 rfl), (hq2 19 (by decide) (by decide)), trivial⟩) ?_
        refine zQ ((decide (0 < i2)) && (decide ((at_ (a_z.free.getD i1.toNat ([] : List Int)) i2) ≤ (at_ (a_z.free.getD i1.toNat ([] : List Int)) (i2 - 1))))) rfl (fun hb9 => ?_) (fun hb9 => ?_)
        ·replace h := zo hb9 h
         refine zI <| zC <| zA (zD rfl) <| zF <| za ?_
         show zAS _ _ _ _ _ _
         obtain rfl := Option.some.inj h
         exact zp (zAK rfl rfl)
        ·replace h := zv hb9 h
         refine zR <| zC <| zA (zB rfl) ?_
         have hb10 := (zH h).1
         replace h := (zH h).2
         refine zA (ze rfl rfl hb10) <| zA (zD rfl) <| zF ?_
         exact ⟨(n1, (i2 + 1)), Nat.lt_succ_self _, zAE [0] rfl rfl (by kernel_rfl), h⟩
      ·replace h := zv hb4 h
       refine z8 ?_
       exact ⟨zAE [0] rfl rfl (by kernel_rfl), h⟩
    ·
     clear h
     rintro e' H' ⟨hrep, h⟩
     refine zY hrep ?_
     clear hrep
     unfold zEM at h
     refine zC <| zA (zB rfl) ?_
     have hb2 := (zH h).1
     replace h := (zH h).2
     refine zA (ze rfl rfl hb2) <| zA (zD rfl) <| zF ?_
     exact ⟨(n0, (i1 + 1)), Nat.lt_succ_self _, zAE [0] rfl rfl (by kernel_rfl), h⟩
   ·replace h := zv hb1 h
    refine z8 ?_
    exact ⟨zAE [] rfl rfl (by kernel_rfl), h⟩
 ·
  clear h
  rintro e' H' ⟨hrep, h⟩
  refine zY hrep ?_
  clear hrep
  unfold zGA at h
  refine zI <| zC <| zA (zD rfl) <| zF <| za ?_
  show zAS _ _ _ _ _ _
  obtain rfl := Option.some.inj h
  exact zp (zAK rfl rfl)
theorem zKn {a_z : zm} {r : List Int} (h : zIM a_z = some r) : PFn Tryz.prog 95 [(AV.agg (zO a_z))] (ls cI r) := by
 refine zi Tryz.func95 rfl Tryz.ntmps95 Tryz.results95 rfl ?_
 unfold zIM at h
 refine zI <| zC <| zb (H' := [.box 51 (zO a_z)]) (zu (t := 51) rfl) <| zA (zD rfl) <| zF <| zI ?_
 refine zC ?_
 have hb1 := (zH h).1
 replace h := (zH h).2
 refine zDy (f := cI) (a := 256) (c := 256) (d0 := 0) zIj ⟨zq.refl _, trivial⟩ rfl Tryz.underlying22 rfl rfl hb1 <| zA (zD rfl) <| zF ?_
 refine z5 (fun e' H' => ∃ (l1 : List Int), Rep 50 0 e' H' (mkE [(3, (AV.hd 0))]) [.vec 3 1 (List.map cI l1)] ∧ zJB l1 = some r) ?_ ?_
 ·
  refine zI <| zC <| zA (zD rfl) <| zF <| zS <| z9 (σ := Nat × Int × (List Int)) (fun s => s.1) (fun s e' H' => match s with | (n0, i1, l2) => Rep 50 0 e' H' (mkE [(1, (AV.ptr 0 0)), (3, (AV.hd 1)), (4, (li i1))]) [.box 51 (zO a_z), .vec 3 1 (List.map cI l2)] ∧ zBR a_z n0 i1 l2 = some r) (zAC, 0, (List.replicate (256 : Int).toNat 0)) ⟨zAE [0, 1] rfl rfl (by kernel_rfl), h⟩ ?_
  clear h
  rintro ⟨n0, i1, l2⟩ e' H' ⟨hrep, h⟩
  cases n0 with
  | zero => exact absurd (show (none : Option _) = some r from h) (by simp)
  | succ n0 =>
   replace h : zEb a_z (zBR a_z n0) i1 l2 = some r := h
   unfold zEb at h
   refine zY hrep ?_
   clear hrep
   refine zI <| zI <| zC <| zA (zB rfl) <| zA (zCq rfl rfl) <| zF ?_
   refine zQ (decide (i1 ≤ 4)) rfl (fun hb2 => ?_) (fun hb2 => ?_)
   ·replace h := zo hb2 h
    refine zR ?_
    refine z5 (fun e' H' => ∃ (l3 : List Int), Rep 50 0 e' H' (mkE [(1, (AV.ptr 0 0)), (3, (AV.hd 1)), (4, (li i1))]) [.box 51 (zO a_z), .vec 3 1 (List.map cI l3)] ∧ zHl (zBR a_z n0) i1 l3 = some r) ?_ ?_
    ·
     refine zS <| zI <| zC <| zA (zD rfl) <| zF <| zS ?_
     refine z9 (σ := Nat × Int × (List Int)) (fun s => s.1) (fun s e' H' => match s with | (n1, i2, l4) => Rep 50 0 e' H' (mkE [(1, (AV.ptr 0 0)), (3, (AV.hd 1)), (4, (li i1)), (5, (li i2))]) [.box 51 (zO a_z), .vec 3 1 (List.map cI l4)] ∧ zCa (zBR a_z n0) a_z i1 n1 i2 l4 = some r) (zAC, 0, l2) ⟨zAE [0, 1] rfl rfl (by kernel_rfl), h⟩ ?_
     clear h
     rintro ⟨n1, i2, l4⟩ e' H' ⟨hrep, h⟩
     cases n1 with
     | zero => exact absurd (show (none : Option _) = some r from h) (by simp)
     | succ n1 =>
      replace h : zEh (zBR a_z n0) a_z i1 (zCa (zBR a_z n0) a_z i1 n1) i2 l4 = some r := h
      unfold zEh at h
      refine zY hrep ?_
      clear hrep
      refine zI <| zI <| zC <| zA (zB rfl) <| zA (zB rfl) <| zA (zM Tryz.underlying51 rfl rfl Tryz.sizeOf49 rfl) ?_
      have hb4 := (zH h).1
      replace h := (zH h).2
      refine zA (zAL (m := 5) (s := 1) (i := i1) (k := 0) (o := 5) Tryz.underlying49 Tryz.sizeOf22 rfl rfl hb4) <| zA (zAm (k := 0) (o := (5 + i1.toNat * 1)) (cs := (zO a_z)) (hd := ([(li a_z.node)] ++ [(li a_z.kind)] ++ [(li a_z.start)] ++ [(li a_z.count)] ++ [(li a_z.min)] ++ [])) (tl := ([])) (g := (eS cI)) (d0 := ([] : List Int)) (l := a_z.free) (N := 5) (i := i1.toNat) (a := (ls cI (a_z.free.getD i1.toNat ([] : List Int)))) Tryz.isAgg22 rfl rfl rfl (congrArg (fun q => 5 + q) (Nat.mul_one _)) (zBW hb4).2 rfl rfl) <| zA (zX Tryz.underlying22 rfl) <| zA (zf rfl rfl) <| zF ?_
      refine zQ (decide (i2 < ((a_z.free.getD i1.toNat ([] : List Int)).length : Int))) rfl (fun hb5 => ?_) (fun hb5 => ?_)
      ·replace h := zo hb5 h
       refine zR ?_
       refine z5 (fun e' H' => ∃ (l5 : List Int), Rep 50 0 e' H' (mkE [(1, (AV.ptr 0 0)), (3, (AV.hd 1)), (4, (li i1)), (5, (li i2))]) [.box 51 (zO a_z), .vec 3 1 (List.map cI l5)] ∧ zHg (zCa (zBR a_z n0) a_z i1 n1) i2 l5 = some r) ?_ ?_
       ·
        refine zS <| zI <| zC <| zA (zB rfl) <| zA (zM Tryz.underlying51 rfl rfl Tryz.sizeOf49 rfl) <| zA (zAL (m := 5) (s := 1) (i := i1) (k := 0) (o := 5) Tryz.underlying49 Tryz.sizeOf22 rfl rfl hb4) ?_
        refine zA (zAm (k := 0) (o := (5 + i1.toNat * 1)) (cs := (zO a_z)) (hd := ([(li a_z.node)] ++ [(li a_z.kind)] ++ [(li a_z.start)] ++ [(li a_z.count)] ++ [(li a_z.min)] ++ [])) (tl := ([])) (g := (eS cI)) (d0 := ([] : List Int)) (l := a_z.free) (N := 5) (i := i1.toNat) (a := (ls cI (a_z.free.getD i1.toNat ([] : List Int)))) Tryz.isAgg22 rfl rfl rfl (congrArg (fun q => 5 + q) (Nat.mul_one _)) (zBW hb4).2 rfl rfl) <| zA (zB rfl) ?_
        have hb7 := (zH h).1
        replace h := (zH h).2
        refine zA (zV Tryz.underlying22 Tryz.sizeOf3 (fun _ => rfl) rfl rfl hb7) <| zA (zW (o := 0) Tryz.isAgg3 rfl rfl) <| zA (zD rfl) <| zF <| zS <| z9 (σ := Nat × Int × (List Int)) (fun s => s.1) (fun s e' H' => match s with | (n2, i3, l6) => Rep 50 0 e' H' (mkE [(1, (AV.ptr 0 0)), (3, (AV.hd 1)), (4, (li i1)), (5, (li i2)), (6, (li i3))]) [.box 51 (zO a_z), .vec 3 1 (List.map cI l6)] ∧ zGo (zCa (zBR a_z n0) a_z i1 n1) a_z i1 i2 n2 i3 l6 = some r) (zAC, (at_ (a_z.free.getD i1.toNat ([] : List Int)) i2), l4) ⟨zAE [0, 1] rfl rfl (by kernel_rfl), h⟩ ?_
        clear h
        rintro ⟨n2, i3, l6⟩ e' H' ⟨hrep, h⟩
        cases n2 with
        | zero => exact absurd (show (none : Option _) = some r from h) (by simp)
        | succ n2 =>
         replace h : zEd (zCa (zBR a_z n0) a_z i1 n1) a_z i1 i2 (zGo (zCa (zBR a_z n0) a_z i1 n1) a_z i1 i2 n2) i3 l6 = some r := h
         unfold zEd at h
         refine zY hrep ?_
         clear hrep
         refine zI <| zI <| zC <| zA (zB rfl) <| zA (zB rfl) <| zA (zM Tryz.underlying51 rfl rfl Tryz.sizeOf49 rfl) ?_
         have hb8 := (zH h).1
         replace h := (zH h).2
         refine zA (zAL (m := 5) (s := 1) (i := i1) (k := 0) (o := 5) Tryz.underlying49 Tryz.sizeOf22 rfl rfl hb8) <| zA (zAm (k := 0) (o := (5 + i1.toNat * 1)) (cs := (zO a_z)) (hd := ([(li a_z.node)] ++ [(li a_z.kind)] ++ [(li a_z.start)] ++ [(li a_z.count)] ++ [(li a_z.min)] ++ [])) (tl := ([])) (g := (eS cI)) (d0 := ([] : List Int)) (l := a_z.free) (N := 5) (i := i1.toNat) (a := (ls cI (a_z.free.getD i1.toNat ([] : List Int)))) Tryz.isAgg22 rfl rfl rfl (congrArg (fun q => 5 + q) (Nat.mul_one _)) (zBW hb8).2 rfl rfl) <| zA (zB rfl) ?_
         have hb9 := (zH h).1
         replace h := (zH h).2
         refine zA (zV Tryz.underlying22 Tryz.sizeOf3 (fun _ => rfl) rfl rfl hb9) <| zA (zW (o := 0) Tryz.isAgg3 rfl rfl) <| zA (zB rfl) ?_
         have hb10 := (zH h).1
         replace h := (zH h).2
         refine zA (zHQ (k' := .u64) (a := i1) Tryz.underlying3 Tryz.underlying74 rfl hb10) ?_
         have hb11 := (zH h).1
         replace h := (zH h).2
         have hb12 := (zH h).1
         replace h := (zH h).2
         refine zA (zDp (a := 1) (b := i1) rfl rfl hb11 hb12) ?_
         have hb13 := (zH h).1
         replace h := (zH h).2
         refine zA (ze rfl rfl hb13) <| zA (zf rfl rfl) <| zF ?_
         refine zQ (decide (i3 < ((at_ (a_z.free.getD i1.toNat ([] : List Int)) i2) + ((1 : Int) * 2 ^ i1.toNat)))) rfl (fun hb14 => ?_) (fun hb14 => ?_)
         ·replace h := zo hb14 h
          refine zR <| zI <| zS <| zC <| zA (zB rfl) <| zA (zB rfl) ?_
          have hb15 := (zH h).1
          replace h := (zH h).2
          refine zA (zAI (f := cI) (l := l6) (i := i3) Tryz.underlying22 Tryz.sizeOf3 rfl rfl rfl hb15) <| zA (zB4 (f := cI) (l := l6) (i := i3) (c := 0) (a := (li (at_ l6 i3))) Tryz.isAgg3 rfl rfl (by first | rfl | omega) hb15 rfl rfl) ?_
          have hb16 := (zH h).1
          replace h := (zH h).2
          refine zA (ze rfl rfl hb16) <| zA (zAI (f := cI) (l := l6) (i := i3) Tryz.underlying22 Tryz.sizeOf3 rfl rfl rfl hb15) <| zx (H' := [.box 51 (zO a_z), .vec 3 1 (List.map cI (l6.set i3.toNat ((at_ l6 i3) + 1)))]) (zDk (k := 1) (o := (i3.toNat * 1)) (f := cI) (l := l6) (i := i3) (c := 0) (a := (li ((at_ l6 i3) + 1))) (z := (at_ l6 i3) + 1) Tryz.sizeOf3 rfl rfl (by first | rfl | omega) hb15 rfl rfl rfl rfl rfl) <| zF <| zC <| zA (zB rfl) ?_
          have hb17 := (zH h).1
          replace h := (zH h).2
          refine zA (ze rfl rfl hb17) <| zA (zD rfl) <| zF ?_
          exact ⟨(n2, (i3 + 1), (l6.set i3.toNat ((at_ l6 i3) + 1))), Nat.lt_succ_self _, zAE [0, 1] rfl rfl (by kernel_rfl), h⟩
         ·replace h := zv hb14 h
          refine z8 ?_
          exact ⟨l6, zAE [0, 1] rfl rfl (by kernel_rfl), h⟩
       ·
        clear h
        rintro e' H' ⟨l5, hrep, h⟩
        refine zY hrep ?_
        clear hrep
        unfold zHg at h
        refine zC <| zA (zB rfl) ?_
        have hb6 := (zH h).1
        replace h := (zH h).2
        refine zA (ze rfl rfl hb6) <| zA (zD rfl) <| zF ?_
        exact ⟨(n1, (i2 + 1), l5), Nat.lt_succ_self _, zAE [0, 1] rfl rfl (by kernel_rfl), h⟩
      ·replace h := zv hb5 h
       refine z8 ?_
       exact ⟨l4, zAE [0, 1] rfl rfl (by kernel_rfl), h⟩
    ·
     clear h
     rintro e' H' ⟨l3, hrep, h⟩
     refine zY hrep ?_
     clear hrep
     unfold zHl at h
     refine zC <| zA (zB rfl) ?_
     have hb3 := (zH h).1
     replace h := (zH h).2
     refine zA (ze rfl rfl hb3) <| zA (zD rfl) <| zF ?_
     exact ⟨(n0, (i1 + 1), l3), Nat.lt_succ_self _, zAE [0, 1] rfl rfl (by kernel_rfl), h⟩
   ·replace h := zv hb2 h
    refine z8 ?_
    exact ⟨l2, zAE [1] rfl rfl (by kernel_rfl), h⟩
 ·
  clear h
  rintro e' H' ⟨l1, hrep, h⟩
  refine zY hrep ?_
  clear hrep
  unfold zJB at h
  refine zI <| zC <| zA (zB rfl) <| zA (zD rfl) <| zF <| zY (zFJ (j := 0) (ds := [2, 3, 49]) (rows' := List.map cI l1) rfl (zAa (fun _ => rfl)) ⟨rfl, rfl, rfl, trivial⟩) ?_
  refine za ?_
  show zAS _ _ _ _ _ _
  obtain rfl := Option.some.inj h
  exact zp (zAK rfl rfl)
theorem zJa {a_p0 : zm} {r : Int} (h : zGQ a_p0 = some r) : PFn Tryz.prog 47 [(AV.agg (zO a_p0))] (li r) := by
 refine zi Tryz.func47 rfl Tryz.ntmps47 Tryz.results47 rfl ?_
 unfold zGQ at h
 refine zI <| zC <| zb (H' := [.box 51 (zO a_p0)]) (zu (t := 51) rfl) <| zA (zD rfl) <| zF <| zI ?_
 refine zI <| zC <| zA (zT (k := 0) (o := 0) (m := 10) Tryz.isAgg51 Tryz.sizeOf51 rfl rfl rfl rfl rfl) ?_
 refine zP h ?_; clear h; intro x1 hx1 h
 refine zd Tryz.func93 rfl (by kernel_rfl) (.fn 93) rfl rfl (zKr hx1) rfl <| zA (zA8 (t := x1) rfl) <| zF ?_
 refine zQ (!x1) rfl (fun hb1 => ?_) (fun hb1 => ?_)
 ·replace h := zo hb1 h
  refine zI <| zC <| zA (zD rfl) <| zF <| za ?_
  show zAS _ _ _ _ _ _
  obtain rfl := Option.some.inj h
  exact zp (zAK rfl rfl)
 ·replace h := zv hb1 h
  refine zR <| zI <| zI <| zC <| zA (zT (k := 0) (o := 0) (m := 10) Tryz.isAgg51 Tryz.sizeOf51 rfl rfl rfl rfl rfl) ?_
  refine zP h ?_; clear h; intro x2 hx2 h
  refine zd Tryz.func94 rfl (by kernel_rfl) (.fn 94) rfl rfl (zJx hx2) rfl <| zA (zD rfl) <| zF <| zI <| zC <| zA (zB rfl) ?_
  refine zA (z7 rfl rfl) <| zF ?_
  refine zQ (!decide (x2 = 0)) rfl (fun hb2 => ?_) (fun hb2 => ?_)
  ·replace h := zo hb2 h
   refine zI <| zC <| zA (zB rfl) <| zA (zD rfl) <| zF <| za ?_
   show zAS _ _ _ _ _ _
   obtain rfl := Option.some.inj h
   exact zp (zAK rfl rfl)
  ·replace h := zv hb2 h
   refine zR <| zI <| zC <| zA (zT (k := 0) (o := 0) (m := 10) Tryz.isAgg51 Tryz.sizeOf51 rfl rfl rfl rfl rfl) ?_
   refine zP h ?_; clear h; intro x3 hx3 h
   refine zd Tryz.func95 rfl (by kernel_rfl) (.fn 95) rfl rfl (zKn hx3) rfl <| zA (zD rfl) <| zF ?_
   refine z5 (fun e' H' => Rep 76 0 e' H' (mkE [(1, (AV.ptr 0 0))]) [.box 51 (zO a_p0)] ∧ zD4 a_p0 = some r) ?_ ?_
   ·
    refine zI <| zC <| zA (zD rfl) <| zF <| zS <| z9 (σ := Nat × Int) (fun s => s.1) (fun s e' H' => match s with | (n2, i3) => Rep 76 0 e' H' (mkE [(1, (AV.ptr 0 0)), (4, (ls cI x3)), (5, (li i3))]) [.box 51 (zO a_p0)] ∧ zBi a_p0 x3 n2 i3 = some r) (zAC, 0) ⟨zAE [0] rfl rfl (by kernel_rfl), h⟩ ?_
    clear h
    rintro ⟨n2, i3⟩ e' H' ⟨hrep, h⟩
    cases n2 with
    | zero => exact absurd (show (none : Option _) = some r from h) (by simp)
    | succ n2 =>
     replace h : zDC a_p0 x3 (zBi a_p0 x3 n2) i3 = some r := h
     unfold zDC at h
     refine zY hrep ?_
     clear hrep
     refine zI <| zI <| zC <| zA (zB rfl) <| zA (zB rfl) <| zA (zX Tryz.underlying22 rfl) ?_
     refine zA (zf rfl rfl) <| zF ?_
     refine zQ (decide (i3 < (x3.length : Int))) rfl (fun hb17 => ?_) (fun hb17 => ?_)
     ·replace h := zo hb17 h
      refine zR <| zI <| zS <| zI <| zC <| zA (zB rfl) ?_
      refine zA (zB rfl) ?_
      have hb18 := (zH h).1
      replace h := (zH h).2
      refine zA (zV Tryz.underlying22 Tryz.sizeOf3 (fun _ => rfl) rfl rfl hb18) <| zA (zW (o := 0) Tryz.isAgg3 rfl rfl) <| zA (zAp rfl rfl) <| zF ?_
      refine zQ (decide (1 < (at_ x3 i3))) rfl (fun hb19 => ?_) (fun hb19 => ?_)
      ·replace h := zo hb19 h
       refine zI <| zC <| zA (zD rfl) <| zF <| za ?_
       show zAS _ _ _ _ _ _
       obtain rfl := Option.some.inj h
       exact zp (zAK rfl rfl)
      ·replace h := zv hb19 h
       refine zR <| zC <| zA (zB rfl) ?_
       have hb20 := (zH h).1
       replace h := (zH h).2
       refine zA (ze rfl rfl hb20) <| zA (zD rfl) <| zF ?_
       exact ⟨(n2, (i3 + 1)), Nat.lt_succ_self _, zAE [0] rfl rfl (by kernel_rfl), h⟩
     ·replace h := zv hb17 h
      refine z8 ?_
      exact ⟨zAE [0] rfl rfl (by kernel_rfl), h⟩
   ·
    clear h
    rintro e' H' ⟨hrep, h⟩
    refine zY hrep ?_
    clear hrep
    unfold zD4 at h
    refine z5 (fun e' H' => Rep 76 0 e' H' (mkE []) [] ∧ zHt  = some r) ?_ ?_
    ·
     refine zI <| zC <| zA (zD rfl) <| zF <| zS <| z9 (σ := Nat × Int) (fun s => s.1) (fun s e' H' => match s with | (n0, i1) => Rep 76 0 e' H' (mkE [(1, (AV.ptr 0 0)), (6, (li i1))]) [.box 51 (zO a_p0)] ∧ zBj a_p0 n0 i1 = some r) (zAC, 0) ⟨zAE [0] rfl rfl (by kernel_rfl), h⟩ ?_
     clear h
     rintro ⟨n0, i1⟩ e' H' ⟨hrep, h⟩
     cases n0 with
     | zero => exact absurd (show (none : Option _) = some r from h) (by simp)
     | succ n0 =>
      replace h : zDG a_p0 (zBj a_p0 n0) i1 = some r := h
      unfold zDG at h
      refine zY hrep ?_
      clear hrep
      refine zI <| zI <| zC <| zA (zB rfl) <| zA (zf rfl rfl) <| zF ?_
      refine zQ (decide (i1 < 4)) rfl (fun hb3 => ?_) (fun hb3 => ?_)
      ·replace h := zo hb3 h
       refine zR ?_
       refine z5 (fun e' H' => Rep 76 0 e' H' (mkE [(1, (AV.ptr 0 0)), (6, (li i1))]) [.box 51 (zO a_p0)] ∧ zGl (zBj a_p0 n0) i1 = some r) ?_ ?_
       ·
        refine zS <| zI <| zC <| zA (zD rfl) <| zF <| zS ?_
        refine z9 (σ := Nat × Int) (fun s => s.1) (fun s e' H' => match s with | (n1, i2) => Rep 76 0 e' H' (mkE [(1, (AV.ptr 0 0)), (6, (li i1)), (7, (li i2))]) [.box 51 (zO a_p0)] ∧ zBl (zBj a_p0 n0) a_p0 i1 n1 i2 = some r) (zAC, 1) ⟨zAE [0] rfl rfl (by kernel_rfl), h⟩ ?_
        clear h
        rintro ⟨n1, i2⟩ e' H' ⟨hrep, h⟩
        cases n1 with
        | zero => exact absurd (show (none : Option _) = some r from h) (by simp)
        | succ n1 =>
         replace h : zDO (zBj a_p0 n0) a_p0 i1 (zBl (zBj a_p0 n0) a_p0 i1 n1) i2 = some r := h
         unfold zDO at h
         refine zY hrep ?_
         clear hrep
         refine zI <| zI <| zC <| zA (zB rfl) <| zA (zB rfl) <| zA (zM Tryz.underlying51 rfl rfl Tryz.sizeOf49 rfl) ?_
         have hb5 := (zH h).1
         replace h := (zH h).2
         refine zA (zAL (m := 5) (s := 1) (i := i1) (k := 0) (o := 5) Tryz.underlying49 Tryz.sizeOf22 rfl rfl hb5) <| zA (zAm (k := 0) (o := (5 + i1.toNat * 1)) (cs := (zO a_p0)) (hd := ([(li a_p0.node)] ++ [(li a_p0.kind)] ++ [(li a_p0.start)] ++ [(li a_p0.count)] ++ [(li a_p0.min)] ++ [])) (tl := ([])) (g := (eS cI)) (d0 := ([] : List Int)) (l := a_p0.free) (N := 5) (i := i1.toNat) (a := (ls cI (a_p0.free.getD i1.toNat ([] : List Int)))) Tryz.isAgg22 rfl rfl rfl (congrArg (fun q => 5 + q) (Nat.mul_one _)) (zBW hb5).2 rfl rfl) <| zA (zX Tryz.underlying22 rfl) <| zA (zf rfl rfl) <| zF ?_
         refine zQ (decide (i2 < ((a_p0.free.getD i1.toNat ([] : List Int)).length : Int))) rfl (fun hb6 => ?_) (fun hb6 => ?_)
         ·replace h := zo hb6 h
          refine zR <| zI <| zS <| zI ?_
          have hb7 := (zH h).1
          replace h := (zH h).2
          have hb8 := (zH h).1
          replace h := (zH h).2
          have hb9 := (zH h).1
          replace h := (zH h).2
          have hb10 := (zH h).1
          replace h := (zH h).2
          have hb11 := (zH h).1
          replace h := (zH h).2
          have hb12 := (zH h).1
          replace h := (zH h).2
          have hb13 := (zH h).1
          replace h := (zH h).2
          have hb14 := (zH h).1
          replace h := (zH h).2
          refine zP h ?_; clear h; intro x4 hx4 h
          show AW _ _ _ _ _ _ [.box 51 (zO a_p0)]
          refine zAz (n := 76) (m := 0) [.head 0 0, .head 0 0, .head 0 0, .head 0 0, .head 0 0, .head 0 0, .head 0 0, .head 0 0, .head 0 0, .head 0 0, .head 0 0, .head 0 0, .head 0 0, .head 0 0, .head 0 0, .head 0 0, .head 0 0, .head 0 0, .head 0 0, .head 0 0, .head 0 0, .head 0 0, .head 0 0, .head 0 0, .head 0 0, .head 0 0, .head 0 0, .head 0 0, .head 0 0, .head 0 0, .head 0 0, .head 0 0, .head 0 0, .head 0 0] [] [(li i1), (AV.ptr 0 5), (AV.ptr 0 (5 + i1.toNat * 1)), (ls cI (a_p0.free.getD i1.toNat ([] : List Int))), (li i2), (AV.rp (cI (at_ (a_p0.free.getD i1.toNat ([] : List Int)) i2)) 0), (li (at_ (a_p0.free.getD i1.toNat ([] : List Int)) i2)), (li i1), (AV.ptr 0 5), (AV.ptr 0 (5 + i1.toNat * 1)), (ls cI (a_p0.free.getD i1.toNat ([] : List Int))), (li i2), (li (i2 - 1)), (AV.rp (cI (at_ (a_p0.free.getD i1.toNat ([] : List Int)) (i2 - 1))) 0), (li (at_ (a_p0.free.getD i1.toNat ([] : List Int)) (i2 - 1))), (li i1), (AV.lit (.int .u64 i1)), (li ((1 : Int) * 2 ^ i1.toNat)), (li ((at_ (a_p0.free.getD i1.toNat ([] : List Int)) (i2 - 1)) + ((1 : Int) * 2 ^ i1.toNat))), (AV.lit (.bool (decide ((at_ (a_p0.free.getD i1.toNat ([] : List Int)) i2) = ((at_ (a_p0.free.getD i1.toNat ([] : List Int)) (i2 - 1)) + ((1 : Int) * 2 ^ i1.toNat)))))), (AV.lit (.bool (decide ((at_ (a_p0.free.getD i1.toNat ([] : List Int)) i2) = ((at_ (a_p0.free.getD i1.toNat ([] : List Int)) (i2 - 1)) + ((1 : Int) * 2 ^ i1.toNat)))))), (bif decide ((at_ (a_p0.free.getD i1.toNat ([] : List Int)) i2) = ((at_ (a_p0.free.getD i1.toNat ([] : List Int)) (i2 - 1)) + ((1 : Int) * 2 ^ i1.toNat))) then (AV.agg (zO a_p0)) else .lit undef), (bif decide ((at_ (a_p0.free.getD i1.toNat ([] : List Int)) i2) = ((at_ (a_p0.free.getD i1.toNat ([] : List Int)) (i2 - 1)) + ((1 : Int) * 2 ^ i1.toNat))) then (li i1) else .lit undef), (bif decide ((at_ (a_p0.free.getD i1.toNat ([] : List Int)) i2) = ((at_ (a_p0.free.getD i1.toNat ([] : List Int)) (i2 - 1)) + ((1 : Int) * 2 ^ i1.toNat))) then (AV.ptr 0 5) else .lit undef), (bif decide ((at_ (a_p0.free.getD i1.toNat ([] : List Int)) i2) = ((at_ (a_p0.free.getD i1.toNat ([] : List Int)) (i2 - 1)) + ((1 : Int) * 2 ^ i1.toNat))) then (AV.ptr 0 (5 + i1.toNat * 1)) else .lit undef), (bif decide ((at_ (a_p0.free.getD i1.toNat ([] : List Int)) i2) = ((at_ (a_p0.free.getD i1.toNat ([] : List Int)) (i2 - 1)) + ((1 : Int) * 2 ^ i1.toNat))) then (ls cI (a_p0.free.getD i1.toNat ([] : List Int))) else .lit undef), (bif decide ((at_ (a_p0.free.getD i1.toNat ([] : List Int)) i2) = ((at_ (a_p0.free.getD i1.toNat ([] : List Int)) (i2 - 1)) + ((1 : Int) * 2 ^ i1.toNat))) then (li i2) else .lit undef), (bif decide ((at_ (a_p0.free.getD i1.toNat ([] : List Int)) i2) = ((at_ (a_p0.free.getD i1.toNat ([] : List Int)) (i2 - 1)) + ((1 : Int) * 2 ^ i1.toNat))) then (li (i2 - 1)) else .lit undef), (bif decide ((at_ (a_p0.free.getD i1.toNat ([] : List Int)) i2) = ((at_ (a_p0.free.getD i1.toNat ([] : List Int)) (i2 - 1)) + ((1 : Int) * 2 ^ i1.toNat))) then (AV.rp (cI (at_ (a_p0.free.getD i1.toNat ([] : List Int)) (i2 - 1))) 0) else .lit undef), (bif decide ((at_ (a_p0.free.getD i1.toNat ([] : List Int)) i2) = ((at_ (a_p0.free.getD i1.toNat ([] : List Int)) (i2 - 1)) + ((1 : Int) * 2 ^ i1.toNat))) then (li (at_ (a_p0.free.getD i1.toNat ([] : List Int)) (i2 - 1))) else .lit undef), (bif decide ((at_ (a_p0.free.getD i1.toNat ([] : List Int)) i2) = ((at_ (a_p0.free.getD i1.toNat ([] : List Int)) (i2 - 1)) + ((1 : Int) * 2 ^ i1.toNat))) then (li i1) else .lit undef), (bif decide ((at_ (a_p0.free.getD i1.toNat ([] : List Int)) i2) = ((at_ (a_p0.free.getD i1.toNat ([] : List Int)) (i2 - 1)) + ((1 : Int) * 2 ^ i1.toNat))) then (li (i1 + 1)) else .lit undef), (bif decide ((at_ (a_p0.free.getD i1.toNat ([] : List Int)) i2) = ((at_ (a_p0.free.getD i1.toNat ([] : List Int)) (i2 - 1)) + ((1 : Int) * 2 ^ i1.toNat))) then (AV.lit (.bool x4)) else .lit undef), (AV.lit (.bool ((decide ((at_ (a_p0.free.getD i1.toNat ([] : List Int)) i2) = ((at_ (a_p0.free.getD i1.toNat ([] : List Int)) (i2 - 1)) + ((1 : Int) * 2 ^ i1.toNat)))) && x4)))] [[.box 51 (zO a_p0)]] (by kernel_rfl) (by kernel_rfl) ⟨?_, ?_, ?_, ?_, ?_, ?_, ?_, ?_, ?_, ?_, ?_, ?_, ?_, ?_, ?_, ?_, ?_, ?_, ?_, ?_, ?_, ?_, ?_, ?_, ?_, ?_, ?_, ?_, ?_, ?_, ?_, ?_, ?_, ?_, trivial⟩ ?_
          ·exact fun e s p => zt (zB (av := (li i1)) (s 6 rfl)) ⟨fun _ => rfl, rfl⟩
          ·exact fun e s p => zt (zM (k := 0) (o := 0) (off := 5) Tryz.underlying51 rfl rfl Tryz.sizeOf49 (s 1 rfl)) ⟨fun _ => rfl, rfl⟩
          ·exact fun e s p => zt (zAL (m := 5) (s := 1) (i := i1) (k := 0) (o := 5) Tryz.underlying49 Tryz.sizeOf22 p.1 p.2.1 hb5) ⟨fun _ => rfl, rfl⟩
          ·exact fun e s p => zt (zAm (k := 0) (o := (5 + i1.toNat * 1)) (cs := (zO a_p0)) (hd := ([(li a_p0.node)] ++ [(li a_p0.kind)] ++ [(li a_p0.start)] ++ [(li a_p0.count)] ++ [(li a_p0.min)] ++ [])) (tl := ([])) (g := (eS cI)) (d0 := ([] : List Int)) (l := a_p0.free) (N := 5) (i := i1.toNat) (a := (ls cI (a_p0.free.getD i1.toNat ([] : List Int)))) Tryz.isAgg22 p.1 rfl rfl (congrArg (fun q => 5 + q) (Nat.mul_one _)) (zBW hb5).2 rfl rfl) ⟨fun _ => rfl, rfl⟩
          ·exact fun e s p => zt (zB (av := (li i2)) (s 7 rfl)) ⟨fun _ => rfl, rfl⟩
          ·exact fun e s p => zt (zV (f := cI) (l := a_p0.free.getD i1.toNat ([] : List Int)) (i := i2) Tryz.underlying22 Tryz.sizeOf3 (fun _ => rfl) p.1 p.2.1 hb7) ⟨fun _ => rfl, rfl⟩
          ·exact fun e s p => zt (zW (row := (cI (at_ (a_p0.free.getD i1.toNat ([] : List Int)) i2))) (o := 0) (a := (li (at_ (a_p0.free.getD i1.toNat ([] : List Int)) i2))) Tryz.isAgg3 p.1 rfl) ⟨fun _ => rfl, rfl⟩
          ·exact fun e s p => zt (zB (av := (li i1)) (s 6 rfl)) ⟨fun _ => rfl, rfl⟩
          ·exact fun e s p => zt (zM (k := 0) (o := 0) (off := 5) Tryz.underlying51 rfl rfl Tryz.sizeOf49 (s 1 rfl)) ⟨fun _ => rfl, rfl⟩
          ·exact fun e s p => zt (zAL (m := 5) (s := 1) (i := i1) (k := 0) (o := 5) Tryz.underlying49 Tryz.sizeOf22 p.1 p.2.1 hb5) ⟨fun _ => rfl, rfl⟩
          ·exact fun e s p => zt (zAm (k := 0) (o := (5 + i1.toNat * 1)) (cs := (zO a_p0)) (hd := ([(li a_p0.node)] ++ [(li a_p0.kind)] ++ [(li a_p0.start)] ++ [(li a_p0.count)] ++ [(li a_p0.min)] ++ [])) (tl := ([])) (g := (eS cI)) (d0 := ([] : List Int)) (l := a_p0.free) (N := 5) (i := i1.toNat) (a := (ls cI (a_p0.free.getD i1.toNat ([] : List Int)))) Tryz.isAgg22 p.1 rfl rfl (congrArg (fun q => 5 + q) (Nat.mul_one _)) (zBW hb5).2 rfl rfl) ⟨fun _ => rfl, rfl⟩
          ·exact fun e s p => zt (zB (av := (li i2)) (s 7 rfl)) ⟨fun _ => rfl, rfl⟩
          ·exact fun e s p => zt (zB5 (a := i2) (b := 1) p.1 rfl hb8) ⟨fun _ => rfl, rfl⟩
          ·exact fun e s p => zt (zV (f := cI) (l := a_p0.free.getD i1.toNat ([] : List Int)) (i := i2 - 1) Tryz.underlying22 Tryz.sizeOf3 (fun _ => rfl) p.1 p.2.1 hb9) ⟨fun _ => rfl, rfl⟩
          ·exact fun e s p => zt (zW (row := (cI (at_ (a_p0.free.getD i1.toNat ([] : List Int)) (i2 - 1)))) (o := 0) (a := (li (at_ (a_p0.free.getD i1.toNat ([] : List Int)) (i2 - 1)))) Tryz.isAgg3 p.1 rfl) ⟨fun _ => rfl, rfl⟩
          ·exact fun e s p => zt (zB (av := (li i1)) (s 6 rfl)) ⟨fun _ => rfl, rfl⟩
          ·exact fun e s p => zt (zHQ (k' := .u64) (a := i1) Tryz.underlying3 Tryz.underlying74 p.1 hb10) ⟨fun _ => rfl, rfl⟩
          ·exact fun e s p => zt (zDp (a := 1) (b := i1) rfl p.1 hb11 hb12) ⟨fun _ => rfl, rfl⟩
          ·exact fun e s p => zt (ze (a := at_ (a_p0.free.getD i1.toNat ([] : List Int)) (i2 - 1)) (b := (1 : Int) * 2 ^ i1.toNat) p.1 p.2.1 hb13) ⟨fun _ => rfl, rfl⟩
          ·exact fun e s p => zt (zBT (a := at_ (a_p0.free.getD i1.toNat ([] : List Int)) i2) (b := (at_ (a_p0.free.getD i1.toNat ([] : List Int)) (i2 - 1)) + ((1 : Int) * 2 ^ i1.toNat)) p.1 p.2.1) ⟨fun _ => rfl, rfl⟩
          ·exact fun e s p => zt (zB (av := (AV.lit (.bool (decide ((at_ (a_p0.free.getD i1.toNat ([] : List Int)) i2) = ((at_ (a_p0.free.getD i1.toNat ([] : List Int)) (i2 - 1)) + ((1 : Int) * 2 ^ i1.toNat))))))) p.1) ⟨fun _ => rfl, rfl⟩
          ·
           intro e22 hs22 hp22
           refine zg (g := 62) (s := decide ((at_ (a_p0.free.getD i1.toNat ([] : List Int)) i2) = ((at_ (a_p0.free.getD i1.toNat ([] : List Int)) (i2 - 1)) + ((1 : Int) * 2 ^ i1.toNat)))) rfl hp22.1 (fun hc13 => zj.step (zT (k := 0) (o := 0) (m := 10) (la := (zO a_p0)) Tryz.isAgg51 Tryz.sizeOf51 (hs22 1 rfl) rfl rfl rfl rfl)) ?_
           exact zF ⟨fun _ => rfl, rfl⟩
          ·
           intro e23 hs23 hp23
           refine zg (g := 62) (s := decide ((at_ (a_p0.free.getD i1.toNat ([] : List Int)) i2) = ((at_ (a_p0.free.getD i1.toNat ([] : List Int)) (i2 - 1)) + ((1 : Int) * 2 ^ i1.toNat)))) rfl hp23.1 (fun hc14 => zj.step (zB (av := (li i1)) (hs23 6 rfl))) ?_
           exact zF ⟨fun _ => rfl, rfl⟩
          ·
           intro e24 hs24 hp24
           refine zg (g := 62) (s := decide ((at_ (a_p0.free.getD i1.toNat ([] : List Int)) i2) = ((at_ (a_p0.free.getD i1.toNat ([] : List Int)) (i2 - 1)) + ((1 : Int) * 2 ^ i1.toNat)))) rfl hp24.1 (fun hc15 => zj.step (zM (k := 0) (o := 0) (off := 5) Tryz.underlying51 rfl rfl Tryz.sizeOf49 (hs24 1 rfl))) ?_
           exact zF ⟨fun _ => rfl, rfl⟩
          ·
           intro e25 hs25 hp25
           refine zg (g := 62) (s := decide ((at_ (a_p0.free.getD i1.toNat ([] : List Int)) i2) = ((at_ (a_p0.free.getD i1.toNat ([] : List Int)) (i2 - 1)) + ((1 : Int) * 2 ^ i1.toNat)))) rfl hp25.2.2.1 (fun hc16 => zj.step (zAL (m := 5) (s := 1) (i := i1) (k := 0) (o := 5) Tryz.underlying49 Tryz.sizeOf22 (zz hp25.1 hc16) (zz hp25.2.1 hc16) hb5)) ?_
           exact zF ⟨fun _ => rfl, rfl⟩
          ·
           intro e26 hs26 hp26
           refine zg (g := 62) (s := decide ((at_ (a_p0.free.getD i1.toNat ([] : List Int)) i2) = ((at_ (a_p0.free.getD i1.toNat ([] : List Int)) (i2 - 1)) + ((1 : Int) * 2 ^ i1.toNat)))) rfl hp26.2.1 (fun hc17 => zj.step (zAm (k := 0) (o := (5 + i1.toNat * 1)) (cs := (zO a_p0)) (hd := ([(li a_p0.node)] ++ [(li a_p0.kind)] ++ [(li a_p0.start)] ++ [(li a_p0.count)] ++ [(li a_p0.min)] ++ [])) (tl := ([])) (g := (eS cI)) (d0 := ([] : List Int)) (l := a_p0.free) (N := 5) (i := i1.toNat) (a := (ls cI (a_p0.free.getD i1.toNat ([] : List Int)))) Tryz.isAgg22 (zz hp26.1 hc17) rfl rfl (congrArg (fun q => 5 + q) (Nat.mul_one _)) (zBW hb5).2 rfl rfl)) ?_
           exact zF ⟨fun _ => rfl, rfl⟩
          ·
           intro e27 hs27 hp27
           refine zg (g := 62) (s := decide ((at_ (a_p0.free.getD i1.toNat ([] : List Int)) i2) = ((at_ (a_p0.free.getD i1.toNat ([] : List Int)) (i2 - 1)) + ((1 : Int) * 2 ^ i1.toNat)))) rfl hp27.1 (fun hc18 => zj.step (zB (av := (li i2)) (hs27 7 rfl))) ?_
           exact zF ⟨fun _ => rfl, rfl⟩
          ·
           intro e28 hs28 hp28
           refine zg (g := 62) (s := decide ((at_ (a_p0.free.getD i1.toNat ([] : List Int)) i2) = ((at_ (a_p0.free.getD i1.toNat ([] : List Int)) (i2 - 1)) + ((1 : Int) * 2 ^ i1.toNat)))) rfl hp28.2.1 (fun hc19 => zj.step (zB5 (a := i2) (b := 1) (zz hp28.1 hc19) rfl hb8)) ?_
           exact zF ⟨fun _ => rfl, rfl⟩
          ·
           intro e29 hs29 hp29
           refine zg (g := 62) (s := decide ((at_ (a_p0.free.getD i1.toNat ([] : List Int)) i2) = ((at_ (a_p0.free.getD i1.toNat ([] : List Int)) (i2 - 1)) + ((1 : Int) * 2 ^ i1.toNat)))) rfl hp29.2.2.1 (fun hc20 => zj.step (zV (f := cI) (l := a_p0.free.getD i1.toNat ([] : List Int)) (i := i2 - 1) Tryz.underlying22 Tryz.sizeOf3 (fun _ => rfl) (zz hp29.1 hc20) (zz hp29.2.1 hc20) hb9)) ?_
           exact zF ⟨fun _ => rfl, rfl⟩
          ·
           intro e30 hs30 hp30
           refine zg (g := 62) (s := decide ((at_ (a_p0.free.getD i1.toNat ([] : List Int)) i2) = ((at_ (a_p0.free.getD i1.toNat ([] : List Int)) (i2 - 1)) + ((1 : Int) * 2 ^ i1.toNat)))) rfl hp30.2.1 (fun hc21 => zj.step (zW (row := (cI (at_ (a_p0.free.getD i1.toNat ([] : List Int)) (i2 - 1)))) (o := 0) (a := (li (at_ (a_p0.free.getD i1.toNat ([] : List Int)) (i2 - 1)))) Tryz.isAgg3 (zz hp30.1 hc21) rfl)) ?_
           exact zF ⟨fun _ => rfl, rfl⟩
          ·
           intro e31 hs31 hp31
           refine zg (g := 62) (s := decide ((at_ (a_p0.free.getD i1.toNat ([] : List Int)) i2) = ((at_ (a_p0.free.getD i1.toNat ([] : List Int)) (i2 - 1)) + ((1 : Int) * 2 ^ i1.toNat)))) rfl hp31.1 (fun hc22 => zj.step (zB (av := (li i1)) (hs31 6 rfl))) ?_
           exact zF ⟨fun _ => rfl, rfl⟩
          ·
           intro e32 hs32 hp32
           refine zg (g := 62) (s := decide ((at_ (a_p0.free.getD i1.toNat ([] : List Int)) i2) = ((at_ (a_p0.free.getD i1.toNat ([] : List Int)) (i2 - 1)) + ((1 : Int) * 2 ^ i1.toNat)))) rfl hp32.2.1 (fun hc23 => zj.step (ze (a := i1) (b := 1) (zz hp32.1 hc23) rfl (zFp hb14 hc23))) ?_
           exact zF ⟨fun _ => rfl, rfl⟩
          ·
           intro e33 hs33 hp33
           refine zB1 (g := 62) (s := decide ((at_ (a_p0.free.getD i1.toNat ([] : List Int)) i2) = ((at_ (a_p0.free.getD i1.toNat ([] : List Int)) (i2 - 1)) + ((1 : Int) * 2 ^ i1.toNat)))) (r' := (AV.lit (.bool x4))) rfl hp33.2.2.2.2.1 (fun hc24 => ⟨72, _, _, [], [(AV.agg (zO a_p0)), (li (at_ (a_p0.free.getD i1.toNat ([] : List Int)) (i2 - 1))), (li (i1 + 1))], [(AV.agg (zO a_p0)), (li (at_ (a_p0.free.getD i1.toNat ([] : List Int)) (i2 - 1))), (li (i1 + 1))], (AV.lit (.bool x4)), [], Tryz.func72, rfl, by kernel_rfl, (.fn 72), (zAF (zz hp33.1 hc24) (zAF (zz hp33.2.1 hc24) (zAF (zz hp33.2.2.1 hc24) rfl))), ⟨zAt.nr rfl, zAt.nr rfl, zAt.nr rfl, trivial⟩, zHx (zo hc24 hx4), .inl rfl, rfl⟩) ?_
           exact zF ⟨fun _ => rfl, rfl⟩
          ·exact fun e s p => zt (zy (s := decide ((at_ (a_p0.free.getD i1.toNat ([] : List Int)) i2) = ((at_ (a_p0.free.getD i1.toNat ([] : List Int)) (i2 - 1)) + ((1 : Int) * 2 ^ i1.toNat)))) (q := x4) (j := .lit undef) p.1 p.2.1) ⟨fun _ => rfl, rfl⟩
          intro e35 hs35 hq1
          refine zY (zBV (l := [(1, (AV.ptr 0 0)), (6, (li i1)), (7, (li i2)), (75, (AV.lit (.bool ((decide ((at_ (a_p0.free.getD i1.toNat ([] : List Int)) i2) = ((at_ (a_p0.free.getD i1.toNat ([] : List Int)) (i2 - 1)) + ((1 : Int) * 2 ^ i1.toNat)))) && x4))))]) ⟨(hs35 1 rfl), (hs35 6 rfl), (hs35 7 rfl), (hq1 33 (by decide) (by decide)), trivial⟩) ?_
          refine zQ ((decide ((at_ (a_p0.free.getD i1.toNat ([] : List Int)) i2) = ((at_ (a_p0.free.getD i1.toNat ([] : List Int)) (i2 - 1)) + ((1 : Int) * 2 ^ i1.toNat)))) && x4) rfl (fun hb15 => ?_) (fun hb15 => ?_)
          ·replace h := zo hb15 h
           refine zI <| zC <| zA (zD rfl) <| zF <| za ?_
           show zAS _ _ _ _ _ _
           obtain rfl := Option.some.inj h
           exact zp (zAK rfl rfl)
          ·replace h := zv hb15 h
           refine zR <| zC <| zA (zB rfl) ?_
           have hb16 := (zH h).1
           replace h := (zH h).2
           refine zA (ze rfl rfl hb16) <| zA (zD rfl) <| zF ?_
           exact ⟨(n1, (i2 + 1)), Nat.lt_succ_self _, zAE [0] rfl rfl (by kernel_rfl), h⟩
         ·replace h := zv hb6 h
          refine z8 ?_
          exact ⟨zAE [0] rfl rfl (by kernel_rfl), h⟩
       ·
        clear h
        rintro e' H' ⟨hrep, h⟩
        refine zY hrep ?_
        clear hrep
        unfold zGl at h
        refine zC <| zA (zB rfl) ?_
        have hb4 := (zH h).1
        replace h := (zH h).2
        refine zA (ze rfl rfl hb4) <| zA (zD rfl) <| zF ?_
        exact ⟨(n0, (i1 + 1)), Nat.lt_succ_self _, zAE [0] rfl rfl (by kernel_rfl), h⟩
      ·replace h := zv hb3 h
       refine z8 ?_
       exact ⟨zAE [] rfl rfl (by kernel_rfl), h⟩
    ·
     clear h
     rintro e' H' ⟨hrep, h⟩
     refine zY hrep ?_
     clear hrep
     unfold zHt at h
     refine zI <| zC <| zA (zD rfl) <| zF <| za ?_
     show zAS _ _ _ _ _ _
     obtain rfl := Option.some.inj h
     exact zp (zAK rfl rfl)
theorem zKt {a_f : Int} {r : Bool} (h : zFf a_f = some r) : PFn Tryz.prog 123 [(li a_f)] (AV.lit (.bool r)) := by
 refine zi Tryz.func123 rfl Tryz.ntmps123 Tryz.results123 rfl ?_
 unfold zFf at h
 refine zI <| zC <| zA (zD rfl) <| zF <| zI <| zC ?_
 refine zA (zB rfl) <| zA (zf rfl rfl) <| zA (zB rfl) <| zU rfl rfl (fun hc1 => zj.step (zB rfl)) <| zU rfl rfl (fun hc2 => zj.step (zAq (zz rfl hc2) rfl)) <| zA (zZ rfl rfl) ?_
 refine zA (zD rfl) <| zF <| za ?_
 show zAS _ _ _ _ _ _
 obtain rfl := Option.some.inj h
 exact zp (zAK rfl rfl)
theorem zLo {a_p0 : zK} {a_p1 : Int} {r : Int} (h : zHZ a_p0 a_p1 = some r) : PFn Tryz.prog 96 [(AV.agg (zG a_p0)), (li a_p1)] (li r) := by
 refine zi Tryz.func96 rfl Tryz.ntmps96 Tryz.results96 rfl ?_
 unfold zHZ at h
 refine zI <| zC <| zb (H' := [.box 55 (zG a_p0)]) (zu (t := 55) rfl) <| zA (zD rfl) <| zF <| zI ?_
 refine zI <| zC <| zA (zB rfl) <| zA (zf rfl rfl) <| zA (zB rfl) <| zU rfl rfl (fun hc1 => zj.step (zB rfl)) ?_
 refine zU rfl rfl (fun hc2 => zj.step (zAp (zz rfl hc2) rfl)) <| zA (zZ rfl rfl) <| zF ?_
 refine zQ ((decide (a_p1 < 1)) || (decide (6 < a_p1))) rfl (fun hb1 => ?_) (fun hb1 => ?_)
 ·replace h := zo hb1 h
  refine zI <| zC <| zA (zD rfl) <| zF <| za ?_
  show zAS _ _ _ _ _ _
  obtain rfl := Option.some.inj h
  exact zp (zAK rfl rfl)
 ·replace h := zv hb1 h
  refine zR <| zI <| zI <| zC <| zA (zM Tryz.underlying55 rfl rfl Tryz.sizeOf53 rfl) <| zA (zN Tryz.isAgg53 rfl rfl rfl rfl) ?_
  refine zA (zX Tryz.underlying53 rfl) <| zA (zB rfl) <| zA (z7 rfl rfl) <| zF ?_
  refine zQ (!decide ((a_p0.lists.length : Int) = a_p1)) rfl (fun hb2 => ?_) (fun hb2 => ?_)
  ·replace h := zo hb2 h
   refine zI <| zC <| zA (zD rfl) <| zF <| za ?_
   show zAS _ _ _ _ _ _
   obtain rfl := Option.some.inj h
   exact zp (zAK rfl rfl)
  ·replace h := zv hb2 h
   refine zR ?_
   refine z5 (fun e' H' => Rep 65 0 e' H' (mkE [(2, (AV.ptr 0 0))]) [.box 55 (zG a_p0)] ∧ zE5 a_p0 = some r) ?_ ?_
   ·
    refine zI <| zC <| zA (zM Tryz.underlying55 rfl rfl Tryz.sizeOf53 rfl) <| zA (zN Tryz.isAgg53 rfl rfl rfl rfl) <| zA (zX Tryz.underlying53 rfl) <| zA (zB rfl) ?_
    refine zF <| zS <| z9 (σ := Nat × Int) (fun s => s.1) (fun s e' H' => match s with | (n2, i3) => Rep 65 0 e' H' (mkE [(2, (AV.ptr 0 0)), (26, (ls (cS cI) a_p0.lists)), (27, (li (a_p0.lists.length : Int))), (28, (li i3))]) [.box 55 (zG a_p0)] ∧ zCF a_p0 n2 i3 = some r) (zAC, 0) ⟨zAE [0] rfl rfl (by kernel_rfl), h⟩ ?_
    clear h
    rintro ⟨n2, i3⟩ e' H' ⟨hrep, h⟩
    cases n2 with
    | zero => exact absurd (show (none : Option _) = some r from h) (by simp)
    | succ n2 =>
     replace h : zDQ a_p0 (zCF a_p0 n2) i3 = some r := h
     unfold zDQ at h
     refine zY hrep ?_
     clear hrep
     refine zI <| zC <| zA (zf rfl rfl) <| zF <| zI ?_
     refine zQ (decide (i3 < (a_p0.lists.length : Int))) rfl (fun hb12 => ?_) (fun hb12 => ?_)
     ·replace h := zo hb12 h
      refine zR ?_
      refine z5 (fun e' H' => Rep 65 0 e' H' (mkE [(2, (AV.ptr 0 0)), (26, (ls (cS cI) a_p0.lists)), (27, (li (a_p0.lists.length : Int))), (28, (li i3))]) [.box 55 (zG a_p0)] ∧ zGh (zCF a_p0 n2) i3 = some r) ?_ ?_
      ·
       refine zS <| zI <| zC ?_
       have hb14 := (zH h).1
       replace h := (zH h).2
       refine zA (zV Tryz.underlying53 Tryz.sizeOf22 (fun _ => rfl) rfl rfl hb14) <| zA (zW (o := 0) Tryz.isAgg22 rfl rfl) <| zA (zD rfl) <| zF <| zI <| zC ?_
       refine zA (zB rfl) <| zA (zX Tryz.underlying22 rfl) <| zA (zB rfl) <| zF <| zS <| z9 (σ := Nat × Int) (fun s => s.1) (fun s e' H' => match s with | (n3, i4) => Rep 65 0 e' H' (mkE [(2, (AV.ptr 0 0)), (26, (ls (cS cI) a_p0.lists)), (27, (li (a_p0.lists.length : Int))), (28, (li i3)), (32, (ls cI (at_ a_p0.lists i3))), (33, (li ((at_ a_p0.lists i3).length : Int))), (34, (li i4))]) [.box 55 (zG a_p0)] ∧ zFD (zCF a_p0 n2) a_p0 i3 n3 i4 = some r) (zAC, 0) ⟨zAE [0] rfl rfl (by kernel_rfl), h⟩ ?_
       clear h
       rintro ⟨n3, i4⟩ e' H' ⟨hrep, h⟩
       cases n3 with
       | zero => exact absurd (show (none : Option _) = some r from h) (by simp)
       | succ n3 =>
        replace h : zDH (zCF a_p0 n2) a_p0 i3 (zFD (zCF a_p0 n2) a_p0 i3 n3) i4 = some r := h
        unfold zDH at h
        refine zY hrep ?_
        clear hrep
        refine zI <| zC <| zA (zf rfl rfl) <| zF <| zI ?_
        refine zQ (decide (i4 < ((at_ a_p0.lists i3).length : Int))) rfl (fun hb15 => ?_) (fun hb15 => ?_)
        ·replace h := zo hb15 h
         refine zR <| zI <| zS <| zI <| zC ?_
         have hb16 := (zH h).1
         replace h := (zH h).2
         refine zA (zV Tryz.underlying22 Tryz.sizeOf3 (fun _ => rfl) rfl rfl hb16) <| zA (zW (o := 0) Tryz.isAgg3 rfl rfl) <| zA (zD rfl) <| zF <| zI <| zC ?_
         refine zA (zB rfl) ?_
         refine zP h ?_; clear h; intro x1 hx1 h
         refine zd Tryz.func123 rfl (by kernel_rfl) (.fn 123) rfl rfl (zKt hx1) rfl <| zF ?_
         refine zQ (x1) rfl (fun hb17 => ?_) (fun hb17 => ?_)
         ·replace h := zo hb17 h
          refine zI <| zC <| zA (zD rfl) <| zF <| za ?_
          show zAS _ _ _ _ _ _
          obtain rfl := Option.some.inj h
          exact zp (zAK rfl rfl)
         ·replace h := zv hb17 h
          refine zR <| zC ?_
          have hb18 := (zH h).1
          replace h := (zH h).2
          refine zA (ze rfl rfl hb18) <| zA (zB rfl) <| zF ?_
          exact ⟨(n3, (i4 + 1)), Nat.lt_succ_self _, zAE [0] rfl rfl (by kernel_rfl), h⟩
        ·replace h := zv hb15 h
         refine z8 ?_
         exact ⟨zAE [0] rfl rfl (by kernel_rfl), h⟩
      ·
       clear h
       rintro e' H' ⟨hrep, h⟩
       refine zY hrep ?_
       clear hrep
       unfold zGh at h
       refine zC ?_
       have hb13 := (zH h).1
       replace h := (zH h).2
       refine zA (ze rfl rfl hb13) <| zA (zB rfl) <| zF ?_
       exact ⟨(n2, (i3 + 1)), Nat.lt_succ_self _, zAE [0] rfl rfl (by kernel_rfl), h⟩
     ·replace h := zv hb12 h
      refine z8 ?_
      exact ⟨zAE [0] rfl rfl (by kernel_rfl), h⟩
   ·
    clear h
    rintro e' H' ⟨hrep, h⟩
    refine zY hrep ?_
    clear hrep
    unfold zE5 at h
    refine zI <| zC ?_
    have hb3 := (zH h).1
    replace h := (zH h).2
    refine zDy (f := cB) (a := 256) (c := 256) (d0 := false) zSg ⟨zq.refl _, trivial⟩ rfl Tryz.underlying121 rfl rfl hb3 <| zA (zD rfl) <| zF ?_
    refine z5 (fun e' H' => Rep 65 0 e' H' (mkE []) [] ∧ zH3  = some r) ?_ ?_
    ·
     refine zI <| zC <| zA (zM Tryz.underlying55 rfl rfl Tryz.sizeOf53 rfl) <| zA (zN Tryz.isAgg53 rfl rfl rfl rfl) <| zA (zX Tryz.underlying53 rfl) <| zA (zB rfl) ?_
     refine zF <| zS <| z9 (σ := Nat × Int × (List Bool)) (fun s => s.1) (fun s e' H' => match s with | (n0, i1, l1) => Rep 65 0 e' H' (mkE [(9, (AV.hd 0)), (44, (ls (cS cI) a_p0.lists)), (45, (li (a_p0.lists.length : Int))), (46, (li i1))]) [.vec 4 1 (List.map cB l1)] ∧ zCB a_p0 n0 i1 l1 = some r) (zAC, 0, (List.replicate (256 : Int).toNat false)) ⟨zAE [1] rfl rfl (by kernel_rfl), h⟩ ?_
     clear h
     rintro ⟨n0, i1, l1⟩ e' H' ⟨hrep, h⟩
     cases n0 with
     | zero => exact absurd (show (none : Option _) = some r from h) (by simp)
     | succ n0 =>
      replace h : zDK a_p0 (zCB a_p0 n0) i1 l1 = some r := h
      unfold zDK at h
      refine zY hrep ?_
      clear hrep
      refine zI <| zC <| zA (zf rfl rfl) <| zF <| zI ?_
      refine zQ (decide (i1 < (a_p0.lists.length : Int))) rfl (fun hb4 => ?_) (fun hb4 => ?_)
      ·replace h := zo hb4 h
       refine zR ?_
       refine z5 (fun e' H' => ∃ (l2 : List Bool), Rep 65 0 e' H' (mkE [(9, (AV.hd 0)), (44, (ls (cS cI) a_p0.lists)), (45, (li (a_p0.lists.length : Int))), (46, (li i1))]) [.vec 4 1 (List.map cB l2)] ∧ zGc (zCB a_p0 n0) i1 l2 = some r) ?_ ?_
       ·
        refine zS <| zI <| zC ?_
        have hb6 := (zH h).1
        replace h := (zH h).2
        refine zA (zV Tryz.underlying53 Tryz.sizeOf22 (fun _ => rfl) rfl rfl hb6) <| zA (zW (o := 0) Tryz.isAgg22 rfl rfl) <| zA (zD rfl) <| zF <| zI <| zC ?_
        refine zA (zB rfl) <| zA (zX Tryz.underlying22 rfl) <| zA (zB rfl) <| zF <| zS <| z9 (σ := Nat × Int × (List Bool)) (fun s => s.1) (fun s e' H' => match s with | (n1, i2, l3) => Rep 65 0 e' H' (mkE [(9, (AV.hd 0)), (44, (ls (cS cI) a_p0.lists)), (45, (li (a_p0.lists.length : Int))), (46, (li i1)), (50, (ls cI (at_ a_p0.lists i1))), (51, (li ((at_ a_p0.lists i1).length : Int))), (52, (li i2))]) [.vec 4 1 (List.map cB l3)] ∧ zE9 (zCB a_p0 n0) a_p0 i1 n1 i2 l3 = some r) (zAC, 0, l1) ⟨zAE [0] rfl rfl (by kernel_rfl), h⟩ ?_
        clear h
        rintro ⟨n1, i2, l3⟩ e' H' ⟨hrep, h⟩
        cases n1 with
        | zero => exact absurd (show (none : Option _) = some r from h) (by simp)
        | succ n1 =>
         replace h : zC7 (zCB a_p0 n0) a_p0 i1 (zE9 (zCB a_p0 n0) a_p0 i1 n1) i2 l3 = some r := h
         unfold zC7 at h
         refine zY hrep ?_
         clear hrep
         refine zI <| zC <| zA (zf rfl rfl) <| zF <| zI ?_
         refine zQ (decide (i2 < ((at_ a_p0.lists i1).length : Int))) rfl (fun hb7 => ?_) (fun hb7 => ?_)
         ·replace h := zo hb7 h
          refine zR <| zI <| zS <| zI <| zC ?_
          have hb8 := (zH h).1
          replace h := (zH h).2
          refine zA (zV Tryz.underlying22 Tryz.sizeOf3 (fun _ => rfl) rfl rfl hb8) <| zA (zW (o := 0) Tryz.isAgg3 rfl rfl) <| zA (zD rfl) <| zF <| zI <| zI ?_
          refine zC <| zA (zB rfl) <| zA (zB rfl) ?_
          have hb9 := (zH h).1
          replace h := (zH h).2
          refine zA (zAI (f := cB) (l := l3) (i := at_ (at_ a_p0.lists i1) i2) Tryz.underlying121 Tryz.sizeOf4 rfl rfl rfl hb9) <| zA (zB4 (f := cB) (l := l3) (i := at_ (at_ a_p0.lists i1) i2) (c := 0) (a := (AV.lit (.bool (at_ l3 (at_ (at_ a_p0.lists i1) i2))))) Tryz.isAgg4 rfl rfl (by first | rfl | omega) hb9 rfl rfl) <| zF ?_
          refine zQ (at_ l3 (at_ (at_ a_p0.lists i1) i2)) rfl (fun hb10 => ?_) (fun hb10 => ?_)
          ·replace h := zo hb10 h
           refine zI <| zC <| zA (zD rfl) <| zF <| za ?_
           show zAS _ _ _ _ _ _
           obtain rfl := Option.some.inj h
           exact zp (zAK rfl rfl)
          ·replace h := zv hb10 h
           refine zR <| zC <| zA (zB rfl) <| zA (zB rfl) <| zA (zAI (f := cB) (l := l3) (i := at_ (at_ a_p0.lists i1) i2) Tryz.underlying121 Tryz.sizeOf4 rfl rfl rfl hb9) <| zx (H' := [.vec 4 1 (List.map cB (l3.set (at_ (at_ a_p0.lists i1) i2).toNat true))]) (zDk (k := 0) (o := ((at_ (at_ a_p0.lists i1) i2).toNat * 1)) (f := cB) (l := l3) (i := at_ (at_ a_p0.lists i1) i2) (c := 0) (a := (AV.lit (.bool true))) (z := true) Tryz.sizeOf4 rfl rfl (by first | rfl | omega) hb9 rfl rfl rfl rfl rfl) ?_
           refine zF <| zC ?_
           have hb11 := (zH h).1
           replace h := (zH h).2
           refine zA (ze rfl rfl hb11) <| zA (zB rfl) <| zF ?_
           exact ⟨(n1, (i2 + 1), (l3.set (at_ (at_ a_p0.lists i1) i2).toNat true)), Nat.lt_succ_self _, zAE [0] rfl rfl (by kernel_rfl), h⟩
         ·replace h := zv hb7 h
          refine z8 ?_
          exact ⟨l3, zAE [0] rfl rfl (by kernel_rfl), h⟩
       ·
        clear h
        rintro e' H' ⟨l2, hrep, h⟩
        refine zY hrep ?_
        clear hrep
        unfold zGc at h
        refine zC ?_
        have hb5 := (zH h).1
        replace h := (zH h).2
        refine zA (ze rfl rfl hb5) <| zA (zB rfl) <| zF ?_
        exact ⟨(n0, (i1 + 1), l2), Nat.lt_succ_self _, zAE [0] rfl rfl (by kernel_rfl), h⟩
      ·replace h := zv hb4 h
       refine z8 ?_
       exact ⟨zAE [] rfl rfl (by kernel_rfl), h⟩
    ·
     clear h
     rintro e' H' ⟨hrep, h⟩
     refine zY hrep ?_
     clear hrep
     unfold zH3 at h
     refine zI <| zC <| zA (zD rfl) <| zF <| za ?_
     show zAS _ _ _ _ _ _
     obtain rfl := Option.some.inj h
     exact zp (zAK rfl rfl)
theorem zI5 {a_z : zm} {a_frame : Int} {r : Bool} (h : zFX a_z a_frame = some r) : PFn Tryz.prog 98 [(AV.agg (zO a_z)), (li a_frame)] (AV.lit (.bool r)) := by
 refine zi Tryz.func98 rfl Tryz.ntmps98 Tryz.results98 rfl ?_
 unfold zFX at h
 refine zI <| zC <| zb (H' := [.box 51 (zO a_z)]) (zu (t := 51) rfl) <| zA (zD rfl) <| zF <| zI ?_
 refine zC <| zA (zT (k := 0) (o := 0) (m := 10) Tryz.isAgg51 Tryz.sizeOf51 rfl rfl rfl rfl rfl) ?_
 refine zP h ?_; clear h; intro x1 hx1 h
 refine zd Tryz.func47 rfl (by kernel_rfl) (.fn 47) rfl rfl (zJa hx1) rfl <| zA (zBT rfl rfl) <| zA (zB rfl) <| zg rfl rfl (fun hc1 => zj.step (zT (k := 0) (o := 0) (m := 10) Tryz.isAgg51 Tryz.sizeOf51 rfl rfl rfl rfl rfl)) <| zg rfl rfl (fun hc2 => zj.step (zB rfl)) ?_
 refine zP h ?_; clear h; intro x2 hx2 h
 refine zB1 (g := 8) (s := decide (x1 = 0)) (r' := (AV.lit (.bool x2))) rfl rfl (fun hc3 => ⟨72, _, _, [], [(AV.agg (zO a_z)), (li a_frame), (li 0)], [(AV.agg (zO a_z)), (li a_frame), (li 0)], (AV.lit (.bool x2)), [], Tryz.func72, rfl, by kernel_rfl, (.fn 72), (zAF (zz rfl hc3) (zAF (zz rfl hc3) (zAF rfl rfl))), ⟨zAt.nr rfl, zAt.nr rfl, zAt.nr rfl, trivial⟩, zHx (zo hc3 hx2), .inl rfl, rfl⟩) <| zA (zy (j := .lit undef) rfl rfl) <| zA (zB rfl) <| zg rfl rfl (fun hc4 => zj.step (zT (k := 0) (o := 0) (m := 10) Tryz.isAgg51 Tryz.sizeOf51 rfl rfl rfl rfl rfl)) ?_
 refine zP h ?_; clear h; intro x3 hx3 h
 refine zB1 (g := 13) (s := (decide (x1 = 0)) && x2) (r' := (ls cI x3)) rfl rfl (fun hc5 => ⟨95, _, _, [], [(AV.agg (zO a_z))], [(AV.agg (zO a_z))], (ls cI x3), [], Tryz.func95, rfl, by kernel_rfl, (.fn 95), (zAF (zz rfl hc5) rfl), ⟨zAt.nr rfl, trivial⟩, zKn (zo hc5 hx3), .inl rfl, rfl⟩) <| zg rfl rfl (fun hc6 => zj.step (zB rfl)) ?_
 have hb1 := (zH h).1
 replace h := (zH h).2
 refine zg rfl rfl (fun hc7 => zj.step (zV Tryz.underlying22 Tryz.sizeOf3 (fun _ => rfl) (zz rfl hc7) (zz rfl hc7) (zFp hb1 hc7))) <| zg rfl rfl (fun hc8 => zj.step (zW (o := 0) Tryz.isAgg3 (zz rfl hc8) rfl)) <| zg rfl rfl (fun hc9 => zj.step (zAp (zz rfl hc9) rfl)) <| zA (zy (j := .lit undef) rfl rfl) <| zA (zD rfl) <| zF ?_
 refine za ?_
 show zAS _ _ _ _ _ _
 obtain rfl := Option.some.inj h
 exact zp (zAK rfl rfl)
theorem zJU {a_p0 : zL} {r : Int} (h : zEp a_p0 = some r) : PFn Tryz.prog 97 [(AV.agg (zJ a_p0))] (li r) := by
 refine zi Tryz.func97 rfl Tryz.ntmps97 Tryz.results97 rfl ?_
 unfold zEp at h
 refine zI <| zC <| zb (H' := [.box 26 (zJ a_p0)]) (zu (t := 26) rfl) <| zA (zD rfl) <| zF <| zI ?_
 refine zC ?_
 have hb1 := (zH h).1
 replace h := (zH h).2
 refine zDy (f := cB) (a := 256) (c := 256) (d0 := false) zSg ⟨zq.refl _, trivial⟩ rfl Tryz.underlying121 rfl rfl hb1 <| zA (zD rfl) <| zF ?_
 refine z5 (fun e' H' => Rep 94 0 e' H' (mkE []) [] ∧ zE0  = some r) ?_ ?_
 ·
  refine zI <| zC <| zA (zD rfl) <| zF <| zS <| z9 (σ := Nat × Int × (List Bool)) (fun s => s.1) (fun s e' H' => match s with | (n0, i1, l1) => Rep 94 0 e' H' (mkE [(1, (AV.ptr 0 0)), (3, (AV.hd 1)), (4, (li i1))]) [.box 26 (zJ a_p0), .vec 4 1 (List.map cB l1)] ∧ zAJ a_p0 n0 i1 l1 = some r) (zAC, 0, (List.replicate (256 : Int).toNat false)) ⟨zAE [0, 1] rfl rfl (by kernel_rfl), h⟩ ?_
  clear h
  rintro ⟨n0, i1, l1⟩ e' H' ⟨hrep, h⟩
  cases n0 with
  | zero => exact absurd (show (none : Option _) = some r from h) (by simp)
  | succ n0 =>
   replace h : zBL a_p0 (zAJ a_p0 n0) i1 l1 = some r := h
   unfold zBL at h
   refine zY hrep ?_
   clear hrep
   refine zI <| zI <| zC <| zA (zB rfl) <| zA (zM Tryz.underlying26 rfl rfl Tryz.sizeOf24 rfl) <| zA (zN Tryz.isAgg24 rfl rfl rfl rfl) ?_
   refine zA (zX Tryz.underlying24 rfl) <| zA (zf rfl rfl) <| zF ?_
   refine zQ (decide (i1 < (a_p0.caches.length : Int))) rfl (fun hb2 => ?_) (fun hb2 => ?_)
   ·replace h := zo hb2 h
    refine zR ?_
    refine z5 (fun e' H' => ∃ (l2 : List Bool), Rep 94 0 e' H' (mkE [(1, (AV.ptr 0 0)), (3, (AV.hd 1)), (4, (li i1))]) [.box 26 (zJ a_p0), .vec 4 1 (List.map cB l2)] ∧ zDW (zAJ a_p0 n0) i1 l2 = some r) ?_ ?_
    ·
     refine zS <| zI <| zC <| zA (zD rfl) <| zF <| zS ?_
     refine z9 (σ := Nat × Int × (List Bool)) (fun s => s.1) (fun s e' H' => match s with | (n1, i2, l3) => Rep 94 0 e' H' (mkE [(1, (AV.ptr 0 0)), (3, (AV.hd 1)), (4, (li i1)), (5, (li i2))]) [.box 26 (zJ a_p0), .vec 4 1 (List.map cB l3)] ∧ zAY (zAJ a_p0 n0) a_p0 i1 n1 i2 l3 = some r) (zAC, 0, l1) ⟨zAE [0, 1] rfl rfl (by kernel_rfl), h⟩ ?_
     clear h
     rintro ⟨n1, i2, l3⟩ e' H' ⟨hrep, h⟩
     cases n1 with
     | zero => exact absurd (show (none : Option _) = some r from h) (by simp)
     | succ n1 =>
      replace h : zBM (zAJ a_p0 n0) a_p0 i1 (zAY (zAJ a_p0 n0) a_p0 i1 n1) i2 l3 = some r := h
      unfold zBM at h
      refine zY hrep ?_
      clear hrep
      refine zI <| zI <| zC <| zA (zB rfl) <| zA (zM Tryz.underlying26 rfl rfl Tryz.sizeOf23 rfl) <| zA (zN Tryz.isAgg23 rfl rfl rfl rfl) ?_
      refine zA (zX Tryz.underlying23 rfl) <| zA (zf rfl rfl) <| zF ?_
      refine zQ (decide (i2 < (a_p0.zones.length : Int))) rfl (fun hb4 => ?_) (fun hb4 => ?_)
      ·replace h := zo hb4 h
       refine zR ?_
       refine z5 (fun e' H' => ∃ (l4 : List Bool), Rep 94 0 e' H' (mkE [(1, (AV.ptr 0 0)), (3, (AV.hd 1)), (4, (li i1)), (5, (li i2))]) [.box 26 (zJ a_p0), .vec 4 1 (List.map cB l4)] ∧ zDU (zAY (zAJ a_p0 n0) a_p0 i1 n1) i2 l4 = some r) ?_ ?_
       ·
        refine zS <| zI <| zC <| zA (zM Tryz.underlying26 rfl rfl Tryz.sizeOf24 rfl) <| zA (zN Tryz.isAgg24 rfl rfl rfl rfl) <| zA (zB rfl) ?_
        have hb6 := (zH h).1
        replace h := (zH h).2
        refine zA (zV Tryz.underlying24 Tryz.sizeOf55 (fun _ => rfl) rfl rfl hb6) <| zA (zAy (row := (zG (at_ a_p0.caches i1))) (o := 0) (off := 0) Tryz.underlying55 rfl rfl Tryz.sizeOf53 rfl) <| zA (zW (o := 0) Tryz.isAgg53 rfl rfl) <| zA (zB rfl) ?_
        have hb7 := (zH h).1
        replace h := (zH h).2
        refine zA (zV Tryz.underlying53 Tryz.sizeOf22 (fun _ => rfl) rfl rfl hb7) <| zA (zW (o := 0) Tryz.isAgg22 rfl rfl) <| zA (zD rfl) <| zF <| zI <| zC ?_
        refine zA (zD rfl) <| zF <| zS <| z9 (σ := Nat × Int × (List Bool)) (fun s => s.1) (fun s e' H' => match s with | (n2, i3, l5) => Rep 94 0 e' H' (mkE [(1, (AV.ptr 0 0)), (3, (AV.hd 1)), (4, (li i1)), (5, (li i2)), (6, (ls cI (at_ ((at_ a_p0.caches i1).lists) i2))), (7, (li i3))]) [.box 26 (zJ a_p0), .vec 4 1 (List.map cB l5)] ∧ zB2 (zAY (zAJ a_p0 n0) a_p0 i1 n1) a_p0 i1 i2 n2 i3 l5 = some r) (zAC, 0, l3) ⟨zAE [0, 1] rfl rfl (by kernel_rfl), h⟩ ?_
        clear h
        rintro ⟨n2, i3, l5⟩ e' H' ⟨hrep, h⟩
        cases n2 with
        | zero => exact absurd (show (none : Option _) = some r from h) (by simp)
        | succ n2 =>
         replace h : zBP (zAY (zAJ a_p0 n0) a_p0 i1 n1) a_p0 i1 i2 (zB2 (zAY (zAJ a_p0 n0) a_p0 i1 n1) a_p0 i1 i2 n2) i3 l5 = some r := h
         unfold zBP at h
         refine zY hrep ?_
         clear hrep
         refine zI <| zI <| zC <| zA (zB rfl) <| zA (zB rfl) <| zA (zX Tryz.underlying22 rfl) ?_
         refine zA (zf rfl rfl) <| zF ?_
         refine zQ (decide (i3 < ((at_ ((at_ a_p0.caches i1).lists) i2).length : Int))) rfl (fun hb8 => ?_) (fun hb8 => ?_)
         ·replace h := zo hb8 h
          refine zR <| zI <| zS <| zI <| zI ?_
          have hb9 := (zH h).1
          replace h := (zH h).2
          have hb10 := (zH h).1
          replace h := (zH h).2
          have hb11 := (zH h).1
          replace h := (zH h).2
          show AW _ _ _ _ _ _ [.box 26 (zJ a_p0), .vec 4 1 (List.map cB l5)]
          refine zAz (n := 94) (m := 0) [.head 0 0, .head 0 0, .head 0 0, .head 0 0, .head 0 0, .head 0 0, .head 0 0, .head 0 0, .head 0 0, .head 0 0, .head 0 0, .head 0 0, .head 0 0, .head 0 0, .head 0 0, .head 0 0, .head 0 0, .head 0 0, .head 0 0, .head 0 0, .head 0 0, .head 0 0, .head 0 0, .head 0 0, .head 0 0, .head 0 0, .head 0 0, .head 0 0, .head 0 0, .head 0 0, .head 0 0] [] [(ls cI (at_ ((at_ a_p0.caches i1).lists) i2)), (li i3), (AV.rp (cI (at_ (at_ ((at_ a_p0.caches i1).lists) i2) i3)) 0), (li (at_ (at_ ((at_ a_p0.caches i1).lists) i2) i3)), (AV.ptr 0 3), (ls zO a_p0.zones), (li i2), (AV.rp (zO (at_ a_p0.zones i2)) 0), (AV.rp (zO (at_ a_p0.zones i2)) 2), (li ((at_ a_p0.zones i2).start)), (AV.lit (.bool (decide ((at_ (at_ ((at_ a_p0.caches i1).lists) i2) i3) < ((at_ a_p0.zones i2).start))))), (AV.lit (.bool (decide ((at_ (at_ ((at_ a_p0.caches i1).lists) i2) i3) < ((at_ a_p0.zones i2).start))))), (bif !(decide ((at_ (at_ ((at_ a_p0.caches i1).lists) i2) i3) < ((at_ a_p0.zones i2).start))) then (ls cI (at_ ((at_ a_p0.caches i1).lists) i2)) else .lit undef), (bif !(decide ((at_ (at_ ((at_ a_p0.caches i1).lists) i2) i3) < ((at_ a_p0.zones i2).start))) then (li i3) else .lit undef), (bif !(decide ((at_ (at_ ((at_ a_p0.caches i1).lists) i2) i3) < ((at_ a_p0.zones i2).start))) then (AV.rp (cI (at_ (at_ ((at_ a_p0.caches i1).lists) i2) i3)) 0) else .lit undef), (bif !(decide ((at_ (at_ ((at_ a_p0.caches i1).lists) i2) i3) < ((at_ a_p0.zones i2).start))) then (li (at_ (at_ ((at_ a_p0.caches i1).lists) i2) i3)) else .lit undef), (bif !(decide ((at_ (at_ ((at_ a_p0.caches i1).lists) i2) i3) < ((at_ a_p0.zones i2).start))) then (AV.ptr 0 3) else .lit undef), (bif !(decide ((at_ (at_ ((at_ a_p0.caches i1).lists) i2) i3) < ((at_ a_p0.zones i2).start))) then (ls zO a_p0.zones) else .lit undef), (bif !(decide ((at_ (at_ ((at_ a_p0.caches i1).lists) i2) i3) < ((at_ a_p0.zones i2).start))) then (li i2) else .lit undef), (bif !(decide ((at_ (at_ ((at_ a_p0.caches i1).lists) i2) i3) < ((at_ a_p0.zones i2).start))) then (AV.rp (zO (at_ a_p0.zones i2)) 0) else .lit undef), (bif !(decide ((at_ (at_ ((at_ a_p0.caches i1).lists) i2) i3) < ((at_ a_p0.zones i2).start))) then (AV.rp (zO (at_ a_p0.zones i2)) 2) else .lit undef), (bif !(decide ((at_ (at_ ((at_ a_p0.caches i1).lists) i2) i3) < ((at_ a_p0.zones i2).start))) then (li ((at_ a_p0.zones i2).start)) else .lit undef), (bif !(decide ((at_ (at_ ((at_ a_p0.caches i1).lists) i2) i3) < ((at_ a_p0.zones i2).start))) then (AV.ptr 0 3) else .lit undef), (bif !(decide ((at_ (at_ ((at_ a_p0.caches i1).lists) i2) i3) < ((at_ a_p0.zones i2).start))) then (ls zO a_p0.zones) else .lit undef), (bif !(decide ((at_ (at_ ((at_ a_p0.caches i1).lists) i2) i3) < ((at_ a_p0.zones i2).start))) then (li i2) else .lit undef), (bif !(decide ((at_ (at_ ((at_ a_p0.caches i1).lists) i2) i3) < ((at_ a_p0.zones i2).start))) then (AV.rp (zO (at_ a_p0.zones i2)) 0) else .lit undef), (bif !(decide ((at_ (at_ ((at_ a_p0.caches i1).lists) i2) i3) < ((at_ a_p0.zones i2).start))) then (AV.rp (zO (at_ a_p0.zones i2)) 3) else .lit undef), (bif !(decide ((at_ (at_ ((at_ a_p0.caches i1).lists) i2) i3) < ((at_ a_p0.zones i2).start))) then (li ((at_ a_p0.zones i2).count)) else .lit undef), (bif !(decide ((at_ (at_ ((at_ a_p0.caches i1).lists) i2) i3) < ((at_ a_p0.zones i2).start))) then (li (((at_ a_p0.zones i2).start) + ((at_ a_p0.zones i2).count))) else .lit undef), (bif !(decide ((at_ (at_ ((at_ a_p0.caches i1).lists) i2) i3) < ((at_ a_p0.zones i2).start))) then (AV.lit (.bool (decide ((((at_ a_p0.zones i2).start) + ((at_ a_p0.zones i2).count)) ≤ (at_ (at_ ((at_ a_p0.caches i1).lists) i2) i3))))) else .lit undef), (AV.lit (.bool ((decide ((at_ (at_ ((at_ a_p0.caches i1).lists) i2) i3) < ((at_ a_p0.zones i2).start))) || (decide ((((at_ a_p0.zones i2).start) + ((at_ a_p0.zones i2).count)) ≤ (at_ (at_ ((at_ a_p0.caches i1).lists) i2) i3))))))] [[.box 26 (zJ a_p0), .vec 4 1 (List.map cB l5)]] (by kernel_rfl) (by kernel_rfl) ⟨?_, ?_, ?_, ?_, ?_, ?_, ?_, ?_, ?_, ?_, ?_, ?_, ?_, ?_, ?_, ?_, ?_, ?_, ?_, ?_, ?_, ?_, ?_, ?_, ?_, ?_, ?_, ?_, ?_, ?_, ?_, trivial⟩ ?_
          ·exact fun e s p => zt (zB (av := (ls cI (at_ ((at_ a_p0.caches i1).lists) i2))) (s 6 rfl)) ⟨fun _ => rfl, rfl⟩
          ·exact fun e s p => zt (zB (av := (li i3)) (s 7 rfl)) ⟨fun _ => rfl, rfl⟩
          ·exact fun e s p => zt (zV (f := cI) (l := at_ ((at_ a_p0.caches i1).lists) i2) (i := i3) Tryz.underlying22 Tryz.sizeOf3 (fun _ => rfl) p.1 p.2.1 hb9) ⟨fun _ => rfl, rfl⟩
          ·exact fun e s p => zt (zW (row := (cI (at_ (at_ ((at_ a_p0.caches i1).lists) i2) i3))) (o := 0) (a := (li (at_ (at_ ((at_ a_p0.caches i1).lists) i2) i3))) Tryz.isAgg3 p.1 rfl) ⟨fun _ => rfl, rfl⟩
          ·exact fun e s p => zt (zM (k := 0) (o := 0) (off := 3) Tryz.underlying26 rfl rfl Tryz.sizeOf23 (s 1 rfl)) ⟨fun _ => rfl, rfl⟩
          ·exact fun e s p => zt (zN (k := 0) (o := 3) (a := (ls zO a_p0.zones)) Tryz.isAgg23 p.1 rfl rfl rfl) ⟨fun _ => rfl, rfl⟩
          ·exact fun e s p => zt (zB (av := (li i2)) (s 5 rfl)) ⟨fun _ => rfl, rfl⟩
          ·exact fun e s p => zt (zV (f := zO) (l := a_p0.zones) (i := i2) Tryz.underlying23 Tryz.sizeOf51 (fun _ => rfl) p.1 p.2.1 hb10) ⟨fun _ => rfl, rfl⟩
          ·exact fun e s p => zt (zAy (row := (zO (at_ a_p0.zones i2))) (o := 0) (off := 2) Tryz.underlying51 rfl rfl Tryz.sizeOf3 p.1) ⟨fun _ => rfl, rfl⟩
          ·exact fun e s p => zt (zW (row := (zO (at_ a_p0.zones i2))) (o := 2) (a := (li ((at_ a_p0.zones i2).start))) Tryz.isAgg3 p.1 rfl) ⟨fun _ => rfl, rfl⟩
          ·exact fun e s p => zt (zf (a := at_ (at_ ((at_ a_p0.caches i1).lists) i2) i3) (b := (at_ a_p0.zones i2).start) p.1 p.2.1) ⟨fun _ => rfl, rfl⟩
          ·exact fun e s p => zt (zB (av := (AV.lit (.bool (decide ((at_ (at_ ((at_ a_p0.caches i1).lists) i2) i3) < ((at_ a_p0.zones i2).start)))))) p.1) ⟨fun _ => rfl, rfl⟩
          ·
           intro e13 hs13 hp13
           refine zU (g := 49) (s := decide ((at_ (at_ ((at_ a_p0.caches i1).lists) i2) i3) < ((at_ a_p0.zones i2).start))) rfl hp13.1 (fun hc19 => zj.step (zB (av := (ls cI (at_ ((at_ a_p0.caches i1).lists) i2))) (hs13 6 rfl))) ?_
           exact zF ⟨fun _ => rfl, rfl⟩
          ·
           intro e14 hs14 hp14
           refine zU (g := 49) (s := decide ((at_ (at_ ((at_ a_p0.caches i1).lists) i2) i3) < ((at_ a_p0.zones i2).start))) rfl hp14.1 (fun hc20 => zj.step (zB (av := (li i3)) (hs14 7 rfl))) ?_
           exact zF ⟨fun _ => rfl, rfl⟩
          ·
           intro e15 hs15 hp15
           refine zU (g := 49) (s := decide ((at_ (at_ ((at_ a_p0.caches i1).lists) i2) i3) < ((at_ a_p0.zones i2).start))) rfl hp15.2.2.1 (fun hc21 => zj.step (zV (f := cI) (l := at_ ((at_ a_p0.caches i1).lists) i2) (i := i3) Tryz.underlying22 Tryz.sizeOf3 (fun _ => rfl) (zz hp15.1 hc21) (zz hp15.2.1 hc21) hb9)) ?_
           exact zF ⟨fun _ => rfl, rfl⟩
          ·
           intro e16 hs16 hp16
           refine zU (g := 49) (s := decide ((at_ (at_ ((at_ a_p0.caches i1).lists) i2) i3) < ((at_ a_p0.zones i2).start))) rfl hp16.2.1 (fun hc22 => zj.step (zW (row := (cI (at_ (at_ ((at_ a_p0.caches i1).lists) i2) i3))) (o := 0) (a := (li (at_ (at_ ((at_ a_p0.caches i1).lists) i2) i3))) Tryz.isAgg3 (zz hp16.1 hc22) rfl)) ?_
           exact zF ⟨fun _ => rfl, rfl⟩
          ·
           intro e17 hs17 hp17
           refine zU (g := 49) (s := decide ((at_ (at_ ((at_ a_p0.caches i1).lists) i2) i3) < ((at_ a_p0.zones i2).start))) rfl hp17.1 (fun hc23 => zj.step (zM (k := 0) (o := 0) (off := 3) Tryz.underlying26 rfl rfl Tryz.sizeOf23 (hs17 1 rfl))) ?_
           exact zF ⟨fun _ => rfl, rfl⟩
          ·
           intro e18 hs18 hp18
           refine zU (g := 49) (s := decide ((at_ (at_ ((at_ a_p0.caches i1).lists) i2) i3) < ((at_ a_p0.zones i2).start))) rfl hp18.2.1 (fun hc24 => zj.step (zN (k := 0) (o := 3) (a := (ls zO a_p0.zones)) Tryz.isAgg23 (zz hp18.1 hc24) rfl rfl rfl)) ?_
           exact zF ⟨fun _ => rfl, rfl⟩
          ·
           intro e19 hs19 hp19
           refine zU (g := 49) (s := decide ((at_ (at_ ((at_ a_p0.caches i1).lists) i2) i3) < ((at_ a_p0.zones i2).start))) rfl hp19.1 (fun hc25 => zj.step (zB (av := (li i2)) (hs19 5 rfl))) ?_
           exact zF ⟨fun _ => rfl, rfl⟩
          ·
           intro e20 hs20 hp20
           refine zU (g := 49) (s := decide ((at_ (at_ ((at_ a_p0.caches i1).lists) i2) i3) < ((at_ a_p0.zones i2).start))) rfl hp20.2.2.1 (fun hc26 => zj.step (zV (f := zO) (l := a_p0.zones) (i := i2) Tryz.underlying23 Tryz.sizeOf51 (fun _ => rfl) (zz hp20.1 hc26) (zz hp20.2.1 hc26) hb10)) ?_
           exact zF ⟨fun _ => rfl, rfl⟩
          ·
           intro e21 hs21 hp21
           refine zU (g := 49) (s := decide ((at_ (at_ ((at_ a_p0.caches i1).lists) i2) i3) < ((at_ a_p0.zones i2).start))) rfl hp21.2.1 (fun hc27 => zj.step (zAy (row := (zO (at_ a_p0.zones i2))) (o := 0) (off := 2) Tryz.underlying51 rfl rfl Tryz.sizeOf3 (zz hp21.1 hc27))) ?_
           exact zF ⟨fun _ => rfl, rfl⟩
          ·
           intro e22 hs22 hp22
           refine zU (g := 49) (s := decide ((at_ (at_ ((at_ a_p0.caches i1).lists) i2) i3) < ((at_ a_p0.zones i2).start))) rfl hp22.2.1 (fun hc28 => zj.step (zW (row := (zO (at_ a_p0.zones i2))) (o := 2) (a := (li ((at_ a_p0.zones i2).start))) Tryz.isAgg3 (zz hp22.1 hc28) rfl)) ?_
           exact zF ⟨fun _ => rfl, rfl⟩
          ·
           intro e23 hs23 hp23
           refine zU (g := 49) (s := decide ((at_ (at_ ((at_ a_p0.caches i1).lists) i2) i3) < ((at_ a_p0.zones i2).start))) rfl hp23.1 (fun hc29 => zj.step (zM (k := 0) (o := 0) (off := 3) Tryz.underlying26 rfl rfl Tryz.sizeOf23 (hs23 1 rfl))) ?_
           exact zF ⟨fun _ => rfl, rfl⟩
          ·
           intro e24 hs24 hp24
           refine zU (g := 49) (s := decide ((at_ (at_ ((at_ a_p0.caches i1).lists) i2) i3) < ((at_ a_p0.zones i2).start))) rfl hp24.2.1 (fun hc30 => zj.step (zN (k := 0) (o := 3) (a := (ls zO a_p0.zones)) Tryz.isAgg23 (zz hp24.1 hc30) rfl rfl rfl)) ?_
           exact zF ⟨fun _ => rfl, rfl⟩
          ·
           intro e25 hs25 hp25
           refine zU (g := 49) (s := decide ((at_ (at_ ((at_ a_p0.caches i1).lists) i2) i3) < ((at_ a_p0.zones i2).start))) rfl hp25.1 (fun hc31 => zj.step (zB (av := (li i2)) (hs25 5 rfl))) ?_
           exact zF ⟨fun _ => rfl, rfl⟩
          ·
           intro e26 hs26 hp26
           refine zU (g := 49) (s := decide ((at_ (at_ ((at_ a_p0.caches i1).lists) i2) i3) < ((at_ a_p0.zones i2).start))) rfl hp26.2.2.1 (fun hc32 => zj.step (zV (f := zO) (l := a_p0.zones) (i := i2) Tryz.underlying23 Tryz.sizeOf51 (fun _ => rfl) (zz hp26.1 hc32) (zz hp26.2.1 hc32) hb10)) ?_
           exact zF ⟨fun _ => rfl, rfl⟩
          ·
           intro e27 hs27 hp27
           refine zU (g := 49) (s := decide ((at_ (at_ ((at_ a_p0.caches i1).lists) i2) i3) < ((at_ a_p0.zones i2).start))) rfl hp27.2.1 (fun hc33 => zj.step (zAy (row := (zO (at_ a_p0.zones i2))) (o := 0) (off := 3) Tryz.underlying51 rfl rfl Tryz.sizeOf3 (zz hp27.1 hc33))) ?_
           exact zF ⟨fun _ => rfl, rfl⟩
          ·
           intro e28 hs28 hp28
           refine zU (g := 49) (s := decide ((at_ (at_ ((at_ a_p0.caches i1).lists) i2) i3) < ((at_ a_p0.zones i2).start))) rfl hp28.2.1 (fun hc34 => zj.step (zW (row := (zO (at_ a_p0.zones i2))) (o := 3) (a := (li ((at_ a_p0.zones i2).count))) Tryz.isAgg3 (zz hp28.1 hc34) rfl)) ?_
           exact zF ⟨fun _ => rfl, rfl⟩
          ·
           intro e29 hs29 hp29
           refine zU (g := 49) (s := decide ((at_ (at_ ((at_ a_p0.caches i1).lists) i2) i3) < ((at_ a_p0.zones i2).start))) rfl hp29.2.2.1 (fun hc35 => zj.step (ze (a := (at_ a_p0.zones i2).start) (b := (at_ a_p0.zones i2).count) (zz hp29.1 hc35) (zz hp29.2.1 hc35) (zFp hb11 hc35))) ?_
           exact zF ⟨fun _ => rfl, rfl⟩
          ·
           intro e30 hs30 hp30
           refine zU (g := 49) (s := decide ((at_ (at_ ((at_ a_p0.caches i1).lists) i2) i3) < ((at_ a_p0.zones i2).start))) rfl hp30.2.2.1 (fun hc36 => zj.step (zAq (a := at_ (at_ ((at_ a_p0.caches i1).lists) i2) i3) (b := ((at_ a_p0.zones i2).start) + ((at_ a_p0.zones i2).count)) (zz hp30.1 hc36) (zz hp30.2.1 hc36))) ?_
           exact zF ⟨fun _ => rfl, rfl⟩
          ·exact fun e s p => zt (zZ (s := decide ((at_ (at_ ((at_ a_p0.caches i1).lists) i2) i3) < ((at_ a_p0.zones i2).start))) (q := decide ((((at_ a_p0.zones i2).start) + ((at_ a_p0.zones i2).count)) ≤ (at_ (at_ ((at_ a_p0.caches i1).lists) i2) i3))) (j := .lit undef) p.1 p.2.1) ⟨fun _ => rfl, rfl⟩
          intro e32 hs32 hq1
          refine zY (zBV (l := [(1, (AV.ptr 0 0)), (3, (AV.hd 1)), (4, (li i1)), (5, (li i2)), (6, (ls cI (at_ ((at_ a_p0.caches i1).lists) i2))), (7, (li i3)), (68, (AV.lit (.bool ((decide ((at_ (at_ ((at_ a_p0.caches i1).lists) i2) i3) < ((at_ a_p0.zones i2).start))) || (decide ((((at_ a_p0.zones i2).start) + ((at_ a_p0.zones i2).count)) ≤ (at_ (at_ ((at_ a_p0.caches i1).lists) i2) i3)))))))]) ⟨(hs32 1 rfl), (hs32 3 rfl), (hs32 4 rfl), (hs32 5 rfl), (hs32 6 rfl), (hs32 7 rfl), (hq1 30 (by decide) (by decide)), trivial⟩) ?_
          refine zQ ((decide ((at_ (at_ ((at_ a_p0.caches i1).lists) i2) i3) < ((at_ a_p0.zones i2).start))) || (decide ((((at_ a_p0.zones i2).start) + ((at_ a_p0.zones i2).count)) ≤ (at_ (at_ ((at_ a_p0.caches i1).lists) i2) i3)))) rfl (fun hb12 => ?_) (fun hb12 => ?_)
          ·replace h := zo hb12 h
           refine zI <| zC <| zA (zD rfl) <| zF <| za ?_
           show zAS _ _ _ _ _ _
           obtain rfl := Option.some.inj h
           exact zp (zAK rfl rfl)
          ·replace h := zv hb12 h
           refine zR <| zI <| zI ?_
           have hb13 := (zH h).1
           replace h := (zH h).2
           refine zP h ?_; clear h; intro x1 hx1 h
           show AW _ _ _ _ _ _ [.box 26 (zJ a_p0), .vec 4 1 (List.map cB l5)]
           refine zAz (n := 94) (m := 0) [.head 0 0, .head 0 0, .head 0 0, .head 0 0, .head 0 0, .head 0 0, .head 0 0, .head 0 0, .head 0 0, .head 0 0, .head 0 0, .head 0 0, .head 0 0, .head 0 0, .head 0 0, .head 0 0, .head 0 0, .head 0 0, .head 0 0] [] [(AV.hd 1), (ls cI (at_ ((at_ a_p0.caches i1).lists) i2)), (li i3), (AV.rp (cI (at_ (at_ ((at_ a_p0.caches i1).lists) i2) i3)) 0), (li (at_ (at_ ((at_ a_p0.caches i1).lists) i2) i3)), (AV.ptr 1 ((at_ (at_ ((at_ a_p0.caches i1).lists) i2) i3).toNat * 1)), (AV.lit (.bool (at_ l5 (at_ (at_ ((at_ a_p0.caches i1).lists) i2) i3)))), (AV.lit (.bool (at_ l5 (at_ (at_ ((at_ a_p0.caches i1).lists) i2) i3)))), (bif !(at_ l5 (at_ (at_ ((at_ a_p0.caches i1).lists) i2) i3)) then (AV.ptr 0 3) else .lit undef), (bif !(at_ l5 (at_ (at_ ((at_ a_p0.caches i1).lists) i2) i3)) then (ls zO a_p0.zones) else .lit undef), (bif !(at_ l5 (at_ (at_ ((at_ a_p0.caches i1).lists) i2) i3)) then (li i2) else .lit undef), (bif !(at_ l5 (at_ (at_ ((at_ a_p0.caches i1).lists) i2) i3)) then (AV.rp (zO (at_ a_p0.zones i2)) 0) else .lit undef), (bif !(at_ l5 (at_ (at_ ((at_ a_p0.caches i1).lists) i2) i3)) then (AV.agg (zO (at_ a_p0.zones i2))) else .lit undef), (bif !(at_ l5 (at_ (at_ ((at_ a_p0.caches i1).lists) i2) i3)) then (ls cI (at_ ((at_ a_p0.caches i1).lists) i2)) else .lit undef), (bif !(at_ l5 (at_ (at_ ((at_ a_p0.caches i1).lists) i2) i3)) then (li i3) else .lit undef), (bif !(at_ l5 (at_ (at_ ((at_ a_p0.caches i1).lists) i2) i3)) then (AV.rp (cI (at_ (at_ ((at_ a_p0.caches i1).lists) i2) i3)) 0) else .lit undef), (bif !(at_ l5 (at_ (at_ ((at_ a_p0.caches i1).lists) i2) i3)) then (li (at_ (at_ ((at_ a_p0.caches i1).lists) i2) i3)) else .lit undef), (bif !(at_ l5 (at_ (at_ ((at_ a_p0.caches i1).lists) i2) i3)) then (AV.lit (.bool x1)) else .lit undef), (AV.lit (.bool ((at_ l5 (at_ (at_ ((at_ a_p0.caches i1).lists) i2) i3)) || x1)))] [[.box 26 (zJ a_p0), .vec 4 1 (List.map cB l5)]] (by kernel_rfl) (by kernel_rfl) ⟨?_, ?_, ?_, ?_, ?_, ?_, ?_, ?_, ?_, ?_, ?_, ?_, ?_, ?_, ?_, ?_, ?_, ?_, ?_, trivial⟩ ?_
           ·exact fun e s p => zt (zB (av := (AV.hd 1)) (s 3 rfl)) ⟨fun _ => rfl, rfl⟩
           ·exact fun e s p => zt (zB (av := (ls cI (at_ ((at_ a_p0.caches i1).lists) i2))) (s 6 rfl)) ⟨fun _ => rfl, rfl⟩
           ·exact fun e s p => zt (zB (av := (li i3)) (s 7 rfl)) ⟨fun _ => rfl, rfl⟩
           ·exact fun e s p => zt (zV (f := cI) (l := at_ ((at_ a_p0.caches i1).lists) i2) (i := i3) Tryz.underlying22 Tryz.sizeOf3 (fun _ => rfl) p.1 p.2.1 hb9) ⟨fun _ => rfl, rfl⟩
           ·exact fun e s p => zt (zW (row := (cI (at_ (at_ ((at_ a_p0.caches i1).lists) i2) i3))) (o := 0) (a := (li (at_ (at_ ((at_ a_p0.caches i1).lists) i2) i3))) Tryz.isAgg3 p.1 rfl) ⟨fun _ => rfl, rfl⟩
           ·exact fun e s p => zt (zAI (f := cB) (l := l5) (i := at_ (at_ ((at_ a_p0.caches i1).lists) i2) i3) Tryz.underlying121 Tryz.sizeOf4 p.1 rfl p.2.1 hb13) ⟨fun _ => rfl, rfl⟩
           ·exact fun e s p => zt (zB4 (f := cB) (l := l5) (i := at_ (at_ ((at_ a_p0.caches i1).lists) i2) i3) (c := 0) (a := (AV.lit (.bool (at_ l5 (at_ (at_ ((at_ a_p0.caches i1).lists) i2) i3))))) Tryz.isAgg4 p.1 rfl (by first | rfl | omega) hb13 rfl rfl) ⟨fun _ => rfl, rfl⟩
           ·exact fun e s p => zt (zB (av := (AV.lit (.bool (at_ l5 (at_ (at_ ((at_ a_p0.caches i1).lists) i2) i3))))) p.1) ⟨fun _ => rfl, rfl⟩
           ·
            intro e41 hs41 hp40
            refine zU (g := 76) (s := at_ l5 (at_ (at_ ((at_ a_p0.caches i1).lists) i2) i3)) rfl hp40.1 (fun hc47 => zj.step (zM (k := 0) (o := 0) (off := 3) Tryz.underlying26 rfl rfl Tryz.sizeOf23 (hs41 1 rfl))) ?_
            exact zF ⟨fun _ => rfl, rfl⟩
           ·
            intro e42 hs42 hp41
            refine zU (g := 76) (s := at_ l5 (at_ (at_ ((at_ a_p0.caches i1).lists) i2) i3)) rfl hp41.2.1 (fun hc48 => zj.step (zN (k := 0) (o := 3) (a := (ls zO a_p0.zones)) Tryz.isAgg23 (zz hp41.1 hc48) rfl rfl rfl)) ?_
            exact zF ⟨fun _ => rfl, rfl⟩
           ·
            intro e43 hs43 hp42
            refine zU (g := 76) (s := at_ l5 (at_ (at_ ((at_ a_p0.caches i1).lists) i2) i3)) rfl hp42.1 (fun hc49 => zj.step (zB (av := (li i2)) (hs43 5 rfl))) ?_
            exact zF ⟨fun _ => rfl, rfl⟩
           ·
            intro e44 hs44 hp43
            refine zU (g := 76) (s := at_ l5 (at_ (at_ ((at_ a_p0.caches i1).lists) i2) i3)) rfl hp43.2.2.1 (fun hc50 => zj.step (zV (f := zO) (l := a_p0.zones) (i := i2) Tryz.underlying23 Tryz.sizeOf51 (fun _ => rfl) (zz hp43.1 hc50) (zz hp43.2.1 hc50) hb10)) ?_
            exact zF ⟨fun _ => rfl, rfl⟩
           ·
            intro e45 hs45 hp44
            refine zU (g := 76) (s := at_ l5 (at_ (at_ ((at_ a_p0.caches i1).lists) i2) i3)) rfl hp44.2.1 (fun hc51 => zj.step (zAi (row := (zO (at_ a_p0.zones i2))) (o := 0) (m := 10) (la := (zO (at_ a_p0.zones i2))) Tryz.isAgg51 Tryz.sizeOf51 (zz hp44.1 hc51) rfl rfl)) ?_
            exact zF ⟨fun _ => rfl, rfl⟩
           ·
            intro e46 hs46 hp45
            refine zU (g := 76) (s := at_ l5 (at_ (at_ ((at_ a_p0.caches i1).lists) i2) i3)) rfl hp45.1 (fun hc52 => zj.step (zB (av := (ls cI (at_ ((at_ a_p0.caches i1).lists) i2))) (hs46 6 rfl))) ?_
            exact zF ⟨fun _ => rfl, rfl⟩
           ·
            intro e47 hs47 hp46
            refine zU (g := 76) (s := at_ l5 (at_ (at_ ((at_ a_p0.caches i1).lists) i2) i3)) rfl hp46.1 (fun hc53 => zj.step (zB (av := (li i3)) (hs47 7 rfl))) ?_
            exact zF ⟨fun _ => rfl, rfl⟩
           ·
            intro e48 hs48 hp47
            refine zU (g := 76) (s := at_ l5 (at_ (at_ ((at_ a_p0.caches i1).lists) i2) i3)) rfl hp47.2.2.1 (fun hc54 => zj.step (zV (f := cI) (l := at_ ((at_ a_p0.caches i1).lists) i2) (i := i3) Tryz.underlying22 Tryz.sizeOf3 (fun _ => rfl) (zz hp47.1 hc54) (zz hp47.2.1 hc54) hb9)) ?_
            exact zF ⟨fun _ => rfl, rfl⟩
           ·
            intro e49 hs49 hp48
            refine zU (g := 76) (s := at_ l5 (at_ (at_ ((at_ a_p0.caches i1).lists) i2) i3)) rfl hp48.2.1 (fun hc55 => zj.step (zW (row := (cI (at_ (at_ ((at_ a_p0.caches i1).lists) i2) i3))) (o := 0) (a := (li (at_ (at_ ((at_ a_p0.caches i1).lists) i2) i3))) Tryz.isAgg3 (zz hp48.1 hc55) rfl)) ?_
            exact zF ⟨fun _ => rfl, rfl⟩
           ·
            intro e50 hs50 hp49
            refine zBZ (g := 76) (s := at_ l5 (at_ (at_ ((at_ a_p0.caches i1).lists) i2) i3)) (r' := (AV.lit (.bool x1))) rfl hp49.2.2.2.1 (fun hc56 => ⟨98, _, _, [], [(AV.agg (zO (at_ a_p0.zones i2))), (li (at_ (at_ ((at_ a_p0.caches i1).lists) i2) i3))], [(AV.agg (zO (at_ a_p0.zones i2))), (li (at_ (at_ ((at_ a_p0.caches i1).lists) i2) i3))], (AV.lit (.bool x1)), [], Tryz.func98, rfl, by kernel_rfl, (.fn 98), (zAF (zz hp49.1 hc56) (zAF (zz hp49.2.1 hc56) rfl)), ⟨zAt.nr rfl, zAt.nr rfl, trivial⟩, zI5 (zo hc56 hx1), .inl rfl, rfl⟩) ?_
            exact zF ⟨fun _ => rfl, rfl⟩
           ·exact fun e s p => zt (zZ (s := at_ l5 (at_ (at_ ((at_ a_p0.caches i1).lists) i2) i3)) (q := x1) (j := .lit undef) p.1 p.2.1) ⟨fun _ => rfl, rfl⟩
           intro e52 hs52 hq2
           refine zY (zBV (l := [(1, (AV.ptr 0 0)), (3, (AV.hd 1)), (4, (li i1)), (5, (li i2)), (6, (ls cI (at_ ((at_ a_p0.caches i1).lists) i2))), (7, (li i3)), (87, (AV.lit (.bool ((at_ l5 (at_ (at_ ((at_ a_p0.caches i1).lists) i2) i3)) || x1))))]) ⟨(hs52 1 rfl), (hs52 3 rfl), (hs52 4 rfl), (hs52 5 rfl), (hs52 6 rfl), (hs52 7 rfl), (hq2 18 (by decide) (by decide)), trivial⟩) ?_
           refine zQ ((at_ l5 (at_ (at_ ((at_ a_p0.caches i1).lists) i2) i3)) || x1) rfl (fun hb14 => ?_) (fun hb14 => ?_)
           ·replace h := zo hb14 h
            refine zI <| zC <| zA (zD rfl) <| zF <| za ?_
            show zAS _ _ _ _ _ _
            obtain rfl := Option.some.inj h
            exact zp (zAK rfl rfl)
           ·replace h := zv hb14 h
            refine zR <| zC <| zA (zB rfl) <| zA (zB rfl) <| zA (zB rfl) <| zA (zV Tryz.underlying22 Tryz.sizeOf3 (fun _ => rfl) rfl rfl hb9) ?_
            refine zA (zW (o := 0) Tryz.isAgg3 rfl rfl) <| zA (zAI (f := cB) (l := l5) (i := at_ (at_ ((at_ a_p0.caches i1).lists) i2) i3) Tryz.underlying121 Tryz.sizeOf4 rfl rfl rfl hb13) <| zx (H' := [.box 26 (zJ a_p0), .vec 4 1 (List.map cB (l5.set (at_ (at_ ((at_ a_p0.caches i1).lists) i2) i3).toNat true))]) (zDk (k := 1) (o := ((at_ (at_ ((at_ a_p0.caches i1).lists) i2) i3).toNat * 1)) (f := cB) (l := l5) (i := at_ (at_ ((at_ a_p0.caches i1).lists) i2) i3) (c := 0) (a := (AV.lit (.bool true))) (z := true) Tryz.sizeOf4 rfl rfl (by first | rfl | omega) hb13 rfl rfl rfl rfl rfl) <| zF <| zC <| zA (zB rfl) ?_
            have hb15 := (zH h).1
            replace h := (zH h).2
            refine zA (ze rfl rfl hb15) <| zA (zD rfl) <| zF ?_
            exact ⟨(n2, (i3 + 1), (l5.set (at_ (at_ ((at_ a_p0.caches i1).lists) i2) i3).toNat true)), Nat.lt_succ_self _, zAE [0, 1] rfl rfl (by kernel_rfl), h⟩
         ·replace h := zv hb8 h
          refine z8 ?_
          exact ⟨l5, zAE [0, 1] rfl rfl (by kernel_rfl), h⟩
       ·
        clear h
        rintro e' H' ⟨l4, hrep, h⟩
        refine zY hrep ?_
        clear hrep
        unfold zDU at h
        refine zC <| zA (zB rfl) ?_
        have hb5 := (zH h).1
        replace h := (zH h).2
        refine zA (ze rfl rfl hb5) <| zA (zD rfl) <| zF ?_
        exact ⟨(n1, (i2 + 1), l4), Nat.lt_succ_self _, zAE [0, 1] rfl rfl (by kernel_rfl), h⟩
      ·replace h := zv hb4 h
       refine z8 ?_
       exact ⟨l3, zAE [0, 1] rfl rfl (by kernel_rfl), h⟩
    ·
     clear h
     rintro e' H' ⟨l2, hrep, h⟩
     refine zY hrep ?_
     clear hrep
     unfold zDW at h
     refine zC <| zA (zB rfl) ?_
     have hb3 := (zH h).1
     replace h := (zH h).2
     refine zA (ze rfl rfl hb3) <| zA (zD rfl) <| zF ?_
     exact ⟨(n0, (i1 + 1), l2), Nat.lt_succ_self _, zAE [0, 1] rfl rfl (by kernel_rfl), h⟩
   ·replace h := zv hb2 h
    refine z8 ?_
    exact ⟨zAE [] rfl rfl (by kernel_rfl), h⟩
 ·
  clear h
  rintro e' H' ⟨hrep, h⟩
  refine zY hrep ?_
  clear hrep
  unfold zE0 at h
  refine zI <| zC <| zA (zD rfl) <| zF <| za ?_
  show zAS _ _ _ _ _ _
  obtain rfl := Option.some.inj h
  exact zp (zAK rfl rfl)
theorem zJT {a_a : zL} {r : Int} (h : zEt a_a = some r) : PFn Tryz.prog 48 [(AV.agg (zJ a_a))] (li r) := by
 refine zi Tryz.func48 rfl Tryz.ntmps48 Tryz.results48 rfl ?_
 unfold zEt at h
 refine zI <| zC <| zb (H' := [.box 26 (zJ a_a)]) (zu (t := 26) rfl) <| zA (zD rfl) <| zF <| zI ?_
 refine zI <| zC <| zA (zM Tryz.underlying26 rfl rfl Tryz.sizeOf24 rfl) <| zA (zN Tryz.isAgg24 rfl rfl rfl rfl) <| zA (zX Tryz.underlying24 rfl) <| zA (zM Tryz.underlying26 rfl rfl Tryz.sizeOf22 rfl) ?_
 refine zA (zN Tryz.isAgg22 rfl rfl rfl rfl) <| zA (zX Tryz.underlying22 rfl) <| zA (z7 rfl rfl) <| zF ?_
 refine zQ (!decide ((a_a.caches.length : Int) = (a_a.nodes.length : Int))) rfl (fun hb1 => ?_) (fun hb1 => ?_)
 ·replace h := zo hb1 h
  refine zI <| zC <| zA (zD rfl) <| zF <| za ?_
  show zAS _ _ _ _ _ _
  obtain rfl := Option.some.inj h
  exact zp (zAK rfl rfl)
 ·replace h := zv hb1 h
  refine zR ?_
  refine z5 (fun e' H' => Rep 54 0 e' H' (mkE [(1, (AV.ptr 0 0))]) [.box 26 (zJ a_a)] ∧ zCU a_a = some r) ?_ ?_
  ·
   refine zI <| zC <| zA (zD rfl) <| zF <| zS <| z9 (σ := Nat × Int) (fun s => s.1) (fun s e' H' => match s with | (n0, i1) => Rep 54 0 e' H' (mkE [(1, (AV.ptr 0 0)), (3, (li i1))]) [.box 26 (zJ a_a)] ∧ zAv a_a n0 i1 = some r) (zAC, 0) ⟨zAE [0] rfl rfl (by kernel_rfl), h⟩ ?_
   clear h
   rintro ⟨n0, i1⟩ e' H' ⟨hrep, h⟩
   cases n0 with
   | zero => exact absurd (show (none : Option _) = some r from h) (by simp)
   | succ n0 =>
    replace h : zBN a_a (zAv a_a n0) i1 = some r := h
    unfold zBN at h
    refine zY hrep ?_
    clear hrep
    refine zI <| zI <| zC <| zA (zB rfl) <| zA (zM Tryz.underlying26 rfl rfl Tryz.sizeOf24 rfl) <| zA (zN Tryz.isAgg24 rfl rfl rfl rfl) ?_
    refine zA (zX Tryz.underlying24 rfl) <| zA (zf rfl rfl) <| zF ?_
    refine zQ (decide (i1 < (a_a.caches.length : Int))) rfl (fun hb2 => ?_) (fun hb2 => ?_)
    ·replace h := zo hb2 h
     refine zR ?_
     refine z5 (fun e' H' => Rep 54 0 e' H' (mkE [(1, (AV.ptr 0 0)), (3, (li i1))]) [.box 26 (zJ a_a)] ∧ zDV (zAv a_a n0) i1 = some r) ?_ ?_
     ·
      refine zS <| zI <| zI ?_
      have hb4 := (zH h).1
      replace h := (zH h).2
      refine zP h ?_; clear h; intro x2 hx2 h
      show AW _ _ _ _ _ _ [.box 26 (zJ a_a)]
      refine zAz (n := 54) (m := 0) [.head 0 0, .head 0 0, .head 0 0, .head 0 0, .head 0 0, .head 0 0, .head 0 0, .head 0 0, .head 0 0, .head 0 0] [] [(AV.ptr 0 4), (ls zG a_a.caches), (li i1), (AV.rp (zG (at_ a_a.caches i1)) 0), (AV.agg (zG (at_ a_a.caches i1))), (AV.ptr 0 3), (ls zO a_a.zones), (li (a_a.zones.length : Int)), (li x2), (li x2)] [[.box 26 (zJ a_a)]] (by kernel_rfl) (by kernel_rfl) ⟨?_, ?_, ?_, ?_, ?_, ?_, ?_, ?_, ?_, ?_, trivial⟩ ?_
      ·exact fun e s p => zt (zM (k := 0) (o := 0) (off := 4) Tryz.underlying26 rfl rfl Tryz.sizeOf24 (s 1 rfl)) ⟨fun _ => rfl, rfl⟩
      ·exact fun e s p => zt (zN (k := 0) (o := 4) (a := (ls zG a_a.caches)) Tryz.isAgg24 p.1 rfl rfl rfl) ⟨fun _ => rfl, rfl⟩
      ·exact fun e s p => zt (zB (av := (li i1)) (s 3 rfl)) ⟨fun _ => rfl, rfl⟩
      ·exact fun e s p => zt (zV (f := zG) (l := a_a.caches) (i := i1) Tryz.underlying24 Tryz.sizeOf55 (fun _ => rfl) p.1 p.2.1 hb4) ⟨fun _ => rfl, rfl⟩
      ·exact fun e s p => zt (zAi (row := (zG (at_ a_a.caches i1))) (o := 0) (m := 1) (la := (zG (at_ a_a.caches i1))) Tryz.isAgg55 Tryz.sizeOf55 p.1 rfl rfl) ⟨fun _ => rfl, rfl⟩
      ·exact fun e s p => zt (zM (k := 0) (o := 0) (off := 3) Tryz.underlying26 rfl rfl Tryz.sizeOf23 (s 1 rfl)) ⟨fun _ => rfl, rfl⟩
      ·exact fun e s p => zt (zN (k := 0) (o := 3) (a := (ls zO a_a.zones)) Tryz.isAgg23 p.1 rfl rfl rfl) ⟨fun _ => rfl, rfl⟩
      ·exact fun e s p => zt (zX (f := zO) (l := a_a.zones) Tryz.underlying23 p.1) ⟨fun _ => rfl, rfl⟩
      ·
       intro e9 hs9 hp9
       refine zd (r := (li x2)) (la := [(AV.agg (zG (at_ a_a.caches i1))), (li (a_a.zones.length : Int))]) Tryz.func96 rfl (by kernel_rfl) (.fn 96) (zAF hp9.1 (zAF hp9.2.1 rfl)) rfl (zLo hx2) rfl ?_
       exact zF ⟨fun _ => rfl, rfl⟩
      ·exact fun e s p => zt (zD (av := (li x2)) p.2.2.2.2.2.2.2.2.2.2.1) ⟨fun _ => rfl, rfl⟩
      intro e11 hs11 hq1
      refine zY (zBV (l := [(1, (AV.ptr 0 0)), (3, (li i1)), (4, (li x2))]) ⟨(hs11 1 rfl), (hs11 3 rfl), (hq1 9 (by decide) (by decide)), trivial⟩) <| zI <| zC <| zA (zB (av := (li x2)) rfl) <| zA (z7 (a := x2) (b := 0) rfl rfl) <| zF ?_
      refine zQ (!decide (x2 = 0)) rfl (fun hb5 => ?_) (fun hb5 => ?_)
      ·replace h := zo hb5 h
       refine zI <| zC <| zA (zB rfl) <| zA (zD rfl) <| zF <| za ?_
       show zAS _ _ _ _ _ _
       obtain rfl := Option.some.inj h
       exact zp (zAK rfl rfl)
      ·replace h := zv hb5 h
       refine zR <| zI <| zC <| zA (zD rfl) <| zF <| zS ?_
       refine z9 (σ := Nat × Int) (fun s => s.1) (fun s e' H' => match s with | (n1, i2) => Rep 54 0 e' H' (mkE [(1, (AV.ptr 0 0)), (3, (li i1)), (5, (li i2))]) [.box 26 (zJ a_a)] ∧ zCT (zAv a_a n0) a_a i1 n1 i2 = some r) (zAC, 0) ⟨zAE [0] rfl rfl (by kernel_rfl), h⟩ ?_
       clear h
       rintro ⟨n1, i2⟩ e' H' ⟨hrep, h⟩
       cases n1 with
       | zero => exact absurd (show (none : Option _) = some r from h) (by simp)
       | succ n1 =>
        replace h : zBO (zAv a_a n0) a_a i1 (zCT (zAv a_a n0) a_a i1 n1) i2 = some r := h
        unfold zBO at h
        refine zY hrep ?_
        clear hrep
        refine zI <| zI <| zC <| zA (zB rfl) <| zA (zM Tryz.underlying26 rfl rfl Tryz.sizeOf23 rfl) <| zA (zN Tryz.isAgg23 rfl rfl rfl rfl) ?_
        refine zA (zX Tryz.underlying23 rfl) <| zA (zf rfl rfl) <| zF ?_
        refine zQ (decide (i2 < (a_a.zones.length : Int))) rfl (fun hb6 => ?_) (fun hb6 => ?_)
        ·replace h := zo hb6 h
         refine zR <| zI <| zS <| zI ?_
         have hb7 := (zH h).1
         replace h := (zH h).2
         have hb8 := (zH h).1
         replace h := (zH h).2
         show AW _ _ _ _ _ _ [.box 26 (zJ a_a)]
         refine zAz (n := 54) (m := 0) [.head 0 0, .head 0 0, .head 0 0, .head 0 0, .head 0 0, .head 0 0, .head 0 0, .head 0 0, .head 0 0, .head 0 0, .head 0 0, .head 0 0, .head 0 0] [] [(AV.ptr 0 4), (ls zG a_a.caches), (li i1), (AV.rp (zG (at_ a_a.caches i1)) 0), (AV.rp (zG (at_ a_a.caches i1)) 0), (ls (cS cI) ((at_ a_a.caches i1).lists)), (li i2), (AV.rp ((cS cI) (at_ ((at_ a_a.caches i1).lists) i2)) 0), (ls cI (at_ ((at_ a_a.caches i1).lists) i2)), (li ((at_ ((at_ a_a.caches i1).lists) i2).length : Int)), (AV.ptr 0 2), (li a_a.high), (AV.lit (.bool (decide (a_a.high < ((at_ ((at_ a_a.caches i1).lists) i2).length : Int)))))] [[.box 26 (zJ a_a)]] (by kernel_rfl) (by kernel_rfl) ⟨?_, ?_, ?_, ?_, ?_, ?_, ?_, ?_, ?_, ?_, ?_, ?_, ?_, trivial⟩ ?_
         ·exact fun e s p => zt (zM (k := 0) (o := 0) (off := 4) Tryz.underlying26 rfl rfl Tryz.sizeOf24 (s 1 rfl)) ⟨fun _ => rfl, rfl⟩
         ·exact fun e s p => zt (zN (k := 0) (o := 4) (a := (ls zG a_a.caches)) Tryz.isAgg24 p.1 rfl rfl rfl) ⟨fun _ => rfl, rfl⟩
         ·exact fun e s p => zt (zB (av := (li i1)) (s 3 rfl)) ⟨fun _ => rfl, rfl⟩
         ·exact fun e s p => zt (zV (f := zG) (l := a_a.caches) (i := i1) Tryz.underlying24 Tryz.sizeOf55 (fun _ => rfl) p.1 p.2.1 hb7) ⟨fun _ => rfl, rfl⟩
         ·exact fun e s p => zt (zAy (row := (zG (at_ a_a.caches i1))) (o := 0) (off := 0) Tryz.underlying55 rfl rfl Tryz.sizeOf53 p.1) ⟨fun _ => rfl, rfl⟩
         ·exact fun e s p => zt (zW (row := (zG (at_ a_a.caches i1))) (o := 0) (a := (ls (cS cI) ((at_ a_a.caches i1).lists))) Tryz.isAgg53 p.1 rfl) ⟨fun _ => rfl, rfl⟩
         ·exact fun e s p => zt (zB (av := (li i2)) (s 5 rfl)) ⟨fun _ => rfl, rfl⟩
         ·exact fun e s p => zt (zV (f := (cS cI)) (l := (at_ a_a.caches i1).lists) (i := i2) Tryz.underlying53 Tryz.sizeOf22 (fun _ => rfl) p.1 p.2.1 hb8) ⟨fun _ => rfl, rfl⟩
         ·exact fun e s p => zt (zW (row := ((cS cI) (at_ ((at_ a_a.caches i1).lists) i2))) (o := 0) (a := (ls cI (at_ ((at_ a_a.caches i1).lists) i2))) Tryz.isAgg22 p.1 rfl) ⟨fun _ => rfl, rfl⟩
         ·exact fun e s p => zt (zX (f := cI) (l := at_ ((at_ a_a.caches i1).lists) i2) Tryz.underlying22 p.1) ⟨fun _ => rfl, rfl⟩
         ·exact fun e s p => zt (zM (k := 0) (o := 0) (off := 2) Tryz.underlying26 rfl rfl Tryz.sizeOf3 (s 1 rfl)) ⟨fun _ => rfl, rfl⟩
         ·exact fun e s p => zt (zN (k := 0) (o := 2) (a := (li a_a.high)) Tryz.isAgg3 p.1 rfl rfl rfl) ⟨fun _ => rfl, rfl⟩
         ·exact fun e s p => zt (zAp (a := ((at_ ((at_ a_a.caches i1).lists) i2).length : Int)) (b := a_a.high) p.1 p.2.1) ⟨fun _ => rfl, rfl⟩
         intro e25 hs25 hq2
         refine zY (zBV (l := [(1, (AV.ptr 0 0)), (3, (li i1)), (5, (li i2)), (51, (AV.lit (.bool (decide (a_a.high < ((at_ ((at_ a_a.caches i1).lists) i2).length : Int))))))]) ⟨(hs25 1 rfl), (hs25 3 rfl), (hs25 5 rfl), (hq2 12 (by decide) (by decide)), trivial⟩) ?_
         refine zQ (decide (a_a.high < ((at_ ((at_ a_a.caches i1).lists) i2).length : Int))) rfl (fun hb9 => ?_) (fun hb9 => ?_)
         ·replace h := zo hb9 h
          refine zI <| zC <| zA (zD rfl) <| zF <| za ?_
          show zAS _ _ _ _ _ _
          obtain rfl := Option.some.inj h
          exact zp (zAK rfl rfl)
         ·replace h := zv hb9 h
          refine zR <| zC <| zA (zB rfl) ?_
          have hb10 := (zH h).1
          replace h := (zH h).2
          refine zA (ze rfl rfl hb10) <| zA (zD rfl) <| zF ?_
          exact ⟨(n1, (i2 + 1)), Nat.lt_succ_self _, zAE [0] rfl rfl (by kernel_rfl), h⟩
        ·replace h := zv hb6 h
         refine z8 ?_
         exact ⟨zAE [0] rfl rfl (by kernel_rfl), h⟩
     ·
      clear h
      rintro e' H' ⟨hrep, h⟩
      refine zY hrep ?_
      clear hrep
      unfold zDV at h
      refine zC <| zA (zB rfl) ?_
      have hb3 := (zH h).1
      replace h := (zH h).2
      refine zA (ze rfl rfl hb3) <| zA (zD rfl) <| zF ?_
      exact ⟨(n0, (i1 + 1)), Nat.lt_succ_self _, zAE [0] rfl rfl (by kernel_rfl), h⟩
    ·replace h := zv hb2 h
     refine z8 ?_
     exact ⟨zAE [0] rfl rfl (by kernel_rfl), h⟩
  ·
   clear h
   rintro e' H' ⟨hrep, h⟩
   refine zY hrep ?_
   clear hrep
   unfold zCU at h
   refine zI <| zC <| zA (zT (k := 0) (o := 0) (m := 5) Tryz.isAgg26 Tryz.sizeOf26 rfl rfl rfl rfl rfl) ?_
   refine zP h ?_; clear h; intro x1 hx1 h
   refine zd Tryz.func97 rfl (by kernel_rfl) (.fn 97) rfl rfl (zJU hx1) rfl <| zA (zD rfl) <| zF <| za ?_
   show zAS _ _ _ _ _ _
   obtain rfl := Option.some.inj h
   exact zp (zAK rfl rfl)
theorem zFB {a_a : zL} {r : Int} (h : zDo a_a = some r) : PFn Tryz.prog 14 [(AV.agg (zJ a_a))] (li r) := by
 refine zi Tryz.func14 rfl Tryz.ntmps14 Tryz.results14 rfl ?_
 unfold zDo at h
 refine zI <| zC <| zb (H' := [.box 26 (zJ a_a)]) (zu (t := 26) rfl) <| zA (zD rfl) <| zF <| zI ?_
 refine zI <| zC <| zA (zM Tryz.underlying26 rfl rfl Tryz.sizeOf22 rfl) <| zA (zN Tryz.isAgg22 rfl rfl rfl rfl) <| zA (zM Tryz.underlying26 rfl rfl Tryz.sizeOf3 rfl) <| zA (zN Tryz.isAgg3 rfl rfl rfl rfl) ?_
 refine zA (zM Tryz.underlying26 rfl rfl Tryz.sizeOf3 rfl) <| zA (zN Tryz.isAgg3 rfl rfl rfl rfl) <| zA (zM Tryz.underlying26 rfl rfl Tryz.sizeOf23 rfl) <| zA (zN Tryz.isAgg23 rfl rfl rfl rfl) <| zA (zX Tryz.underlying23 rfl) ?_
 refine zP h ?_; clear h; intro x1 hx1 h
 refine zd Tryz.func46 rfl (by kernel_rfl) (.fn 46) rfl rfl (zKq hx1) rfl <| zA (zA8 (t := x1) rfl) <| zF ?_
 refine zQ (!x1) rfl (fun hb1 => ?_) (fun hb1 => ?_)
 ·replace h := zo hb1 h
  refine zI <| zC <| zA (zD rfl) <| zF <| za ?_
  show zAS _ _ _ _ _ _
  obtain rfl := Option.some.inj h
  exact zp (zAK rfl rfl)
 ·replace h := zv hb1 h
  refine zR <| zI <| zC <| zA (zD rfl) <| zF ?_
  refine z5 (fun e' H' => Rep 51 0 e' H' (mkE [(1, (AV.ptr 0 0))]) [.box 26 (zJ a_a)] ∧ zFE a_a = some r) ?_ ?_
  ·
   refine zI <| zC <| zA (zD rfl) <| zF <| zS <| z9 (σ := Nat × Int × Int) (fun s => s.1) (fun s e' H' => match s with | (n0, i1, i2) => Rep 51 0 e' H' (mkE [(1, (AV.ptr 0 0)), (3, (li i1)), (4, (li i2))]) [.box 26 (zJ a_a)] ∧ zFF a_a n0 i1 i2 = some r) (zAC, 0, 0) ⟨zAE [0] rfl rfl (by kernel_rfl), h⟩ ?_
   clear h
   rintro ⟨n0, i1, i2⟩ e' H' ⟨hrep, h⟩
   cases n0 with
   | zero => exact absurd (show (none : Option _) = some r from h) (by simp)
   | succ n0 =>
    replace h : zDA a_a (zFF a_a n0) i1 i2 = some r := h
    unfold zDA at h
    refine zY hrep ?_
    clear hrep
    refine zI <| zI <| zC <| zA (zB rfl) <| zA (zM Tryz.underlying26 rfl rfl Tryz.sizeOf23 rfl) <| zA (zN Tryz.isAgg23 rfl rfl rfl rfl) ?_
    refine zA (zX Tryz.underlying23 rfl) <| zA (zf rfl rfl) <| zF ?_
    refine zQ (decide (i2 < (a_a.zones.length : Int))) rfl (fun hb2 => ?_) (fun hb2 => ?_)
    ·replace h := zo hb2 h
     refine zR <| zI <| zS <| zI <| zI <| zC ?_
     refine zA (zM Tryz.underlying26 rfl rfl Tryz.sizeOf23 rfl) <| zA (zN Tryz.isAgg23 rfl rfl rfl rfl) <| zA (zB rfl) ?_
     have hb3 := (zH h).1
     replace h := (zH h).2
     refine zA (zV Tryz.underlying23 Tryz.sizeOf51 (fun _ => rfl) rfl rfl hb3) <| zA (zAi (row := (zO (at_ a_a.zones i2))) (o := 0) (m := 10) (la := (zO (at_ a_a.zones i2))) Tryz.isAgg51 Tryz.sizeOf51 rfl rfl rfl) ?_
     refine zP h ?_; clear h; intro x3 hx3 h
     refine zd Tryz.func47 rfl (by kernel_rfl) (.fn 47) rfl rfl (zJa hx3) rfl <| zA (zD rfl) <| zF <| zI <| zC <| zA (zB rfl) ?_
     refine zA (z7 rfl rfl) <| zF ?_
     refine zQ (!decide (x3 = 0)) rfl (fun hb4 => ?_) (fun hb4 => ?_)
     ·replace h := zo hb4 h
      refine zI <| zC <| zA (zB rfl) <| zA (zD rfl) <| zF <| za ?_
      show zAS _ _ _ _ _ _
      obtain rfl := Option.some.inj h
      exact zp (zAK rfl rfl)
     ·replace h := zv hb4 h
      refine zR <| zI <| zI <| zC <| zA (zM Tryz.underlying26 rfl rfl Tryz.sizeOf23 rfl) <| zA (zN Tryz.isAgg23 rfl rfl rfl rfl) ?_
      refine zA (zB rfl) <| zA (zV Tryz.underlying23 Tryz.sizeOf51 (fun _ => rfl) rfl rfl hb3) <| zA (zAy (row := (zO (at_ a_a.zones i2))) (o := 0) (off := 2) Tryz.underlying51 rfl rfl Tryz.sizeOf3 rfl) <| zA (zW (o := 2) Tryz.isAgg3 rfl rfl) <| zA (zB rfl) <| zA (z7 rfl rfl) ?_
      refine zF ?_
      refine zQ (!decide (((at_ a_a.zones i2).start) = i1)) rfl (fun hb5 => ?_) (fun hb5 => ?_)
      ·replace h := zo hb5 h
       refine zI <| zC <| zA (zD rfl) <| zF <| za ?_
       show zAS _ _ _ _ _ _
       obtain rfl := Option.some.inj h
       exact zp (zAK rfl rfl)
      ·replace h := zv hb5 h
       refine zR <| zC <| zA (zB rfl) <| zA (zM Tryz.underlying26 rfl rfl Tryz.sizeOf23 rfl) <| zA (zN Tryz.isAgg23 rfl rfl rfl rfl) <| zA (zB rfl) ?_
       refine zA (zV Tryz.underlying23 Tryz.sizeOf51 (fun _ => rfl) rfl rfl hb3) <| zA (zAy (row := (zO (at_ a_a.zones i2))) (o := 0) (off := 3) Tryz.underlying51 rfl rfl Tryz.sizeOf3 rfl) <| zA (zW (o := 3) Tryz.isAgg3 rfl rfl) ?_
       have hb6 := (zH h).1
       replace h := (zH h).2
       refine zA (ze rfl rfl hb6) <| zA (zD rfl) <| zF <| zC <| zA (zB rfl) ?_
       have hb7 := (zH h).1
       replace h := (zH h).2
       refine zA (ze rfl rfl hb7) <| zA (zD rfl) <| zF ?_
       exact ⟨(n0, (i1 + ((at_ a_a.zones i2).count)), (i2 + 1)), Nat.lt_succ_self _, zAE [0] rfl rfl (by kernel_rfl), h⟩
    ·replace h := zv hb2 h
     refine z8 ?_
     exact ⟨zAE [0] rfl rfl (by kernel_rfl), h⟩
  ·
   clear h
   rintro e' H' ⟨hrep, h⟩
   refine zY hrep ?_
   clear hrep
   unfold zFE at h
   refine zI <| zC <| zA (zT (k := 0) (o := 0) (m := 5) Tryz.isAgg26 Tryz.sizeOf26 rfl rfl rfl rfl rfl) ?_
   refine zP h ?_; clear h; intro x2 hx2 h
   refine zd Tryz.func48 rfl (by kernel_rfl) (.fn 48) rfl rfl (zJT hx2) rfl <| zA (zD rfl) <| zF <| za ?_
   show zAS _ _ _ _ _ _
   obtain rfl := Option.some.inj h
   exact zp (zAK rfl rfl)
theorem zJY {a_a : zL} {a_zone : Int} {r : Int} (h : zGW a_a a_zone = some r) : PFn Tryz.prog 40 [(AV.agg (zJ a_a)), (li a_zone)] (li r) := by
 refine zi Tryz.func40 rfl Tryz.ntmps40 Tryz.results40 rfl ?_
 unfold zGW at h
 refine zI <| zC <| zb (H' := [.box 26 (zJ a_a)]) (zu (t := 26) rfl) <| zA (zD rfl) <| zF <| zI ?_
 refine zC <| zA (zD rfl) <| zF ?_
 refine z5 (fun e' H' => ∃ (i1 : Int), Rep 46 0 e' H' (mkE [(1, (li a_zone)), (2, (AV.ptr 0 0)), (5, (li i1))]) [.box 26 (zJ a_a)] ∧ zGg a_a a_zone i1 = some r) ?_ ?_
 ·
  refine zI <| zC <| zA (zD rfl) <| zF <| zS <| z9 (σ := Nat × Int × Int) (fun s => s.1) (fun s e' H' => match s with | (n1, i5, i6) => Rep 46 0 e' H' (mkE [(1, (li a_zone)), (2, (AV.ptr 0 0)), (5, (li i5)), (6, (li i6))]) [.box 26 (zJ a_a)] ∧ zE4 a_a a_zone n1 i5 i6 = some r) (zAC, 0, 0) ⟨zAE [0] rfl rfl (by kernel_rfl), h⟩ ?_
  clear h
  rintro ⟨n1, i5, i6⟩ e' H' ⟨hrep, h⟩
  cases n1 with
  | zero => exact absurd (show (none : Option _) = some r from h) (by simp)
  | succ n1 =>
   replace h : zC9 a_a a_zone (zE4 a_a a_zone n1) i5 i6 = some r := h
   unfold zC9 at h
   refine zY hrep ?_
   clear hrep
   refine zI <| zI <| zC <| zA (zB rfl) <| zA (zCq rfl rfl) <| zF ?_
   refine zQ (decide (i6 ≤ 4)) rfl (fun hb6 => ?_) (fun hb6 => ?_)
   ·replace h := zo hb6 h
    refine zR <| zI <| zS <| zC <| zA (zB rfl) <| zA (zM Tryz.underlying26 rfl rfl Tryz.sizeOf23 rfl) ?_
    refine zA (zN Tryz.isAgg23 rfl rfl rfl rfl) <| zA (zB rfl) <| zA (zB rfl) ?_
    have hb7 := (zH h).1
    replace h := (zH h).2
    refine zA (zV Tryz.underlying23 Tryz.sizeOf51 (fun _ => rfl) rfl rfl hb7) <| zA (zAy (row := (zO (at_ a_a.zones a_zone))) (o := 0) (off := 5) Tryz.underlying51 rfl rfl Tryz.sizeOf49 rfl) ?_
    have hb8 := (zH h).1
    replace h := (zH h).2
    refine zA (zOo (m := 5) (s := 1) (i := i6) (row := (zO (at_ a_a.zones a_zone))) (o := 5) Tryz.underlying49 Tryz.sizeOf22 rfl rfl hb8) <| zA (zMg (o := (5 + i6.toNat * 1)) (cs := zO (at_ a_a.zones a_zone)) (hd := ([(li ((at_ a_a.zones a_zone).node))] ++ [(li ((at_ a_a.zones a_zone).kind))] ++ [(li ((at_ a_a.zones a_zone).start))] ++ [(li ((at_ a_a.zones a_zone).count))] ++ [(li ((at_ a_a.zones a_zone).min))] ++ [])) (tl := ([])) (g := (eS cI)) (d0 := ([] : List Int)) (l := (at_ a_a.zones a_zone).free) (N := 5) (i := i6.toNat) (a := (ls cI (((at_ a_a.zones a_zone).free).getD i6.toNat ([] : List Int)))) Tryz.isAgg22 rfl rfl (congrArg (fun q => 5 + q) (Nat.mul_one _)) (zBW hb8).2 rfl) <| zA (zX Tryz.underlying22 rfl) <| zA (zB rfl) ?_
    have hb9 := (zH h).1
    replace h := (zH h).2
    refine zA (zHQ (k' := .u64) (a := i6) Tryz.underlying3 Tryz.underlying74 rfl hb9) ?_
    have hb10 := (zH h).1
    replace h := (zH h).2
    have hb11 := (zH h).1
    replace h := (zH h).2
    refine zA (zDp (a := ((((at_ a_a.zones a_zone).free).getD i6.toNat ([] : List Int)).length : Int)) (b := i6) rfl rfl hb10 hb11) ?_
    have hb12 := (zH h).1
    replace h := (zH h).2
    refine zA (ze rfl rfl hb12) <| zA (zD rfl) <| zF <| zC <| zA (zB rfl) ?_
    have hb13 := (zH h).1
    replace h := (zH h).2
    refine zA (ze rfl rfl hb13) <| zA (zD rfl) <| zF ?_
    exact ⟨(n1, (i5 + (((((at_ a_a.zones a_zone).free).getD i6.toNat ([] : List Int)).length : Int) * 2 ^ i6.toNat)), (i6 + 1)), Nat.lt_succ_self _, zAE [0] rfl rfl (by kernel_rfl), h⟩
   ·replace h := zv hb6 h
    refine z8 ?_
    exact ⟨i5, zAE [0] rfl rfl (by kernel_rfl), h⟩
 ·
  clear h
  rintro e' H' ⟨i1, hrep, h⟩
  refine zY hrep ?_
  clear hrep
  unfold zGg at h
  refine z5 (fun e' H' => ∃ (i2 : Int), Rep 46 0 e' H' (mkE [(5, (li i2))]) [] ∧ zH2 i2 = some r) ?_ ?_
  ·
   refine zI <| zC <| zA (zD rfl) <| zF <| zS <| z9 (σ := Nat × Int × Int) (fun s => s.1) (fun s e' H' => match s with | (n0, i3, i4) => Rep 46 0 e' H' (mkE [(1, (li a_zone)), (2, (AV.ptr 0 0)), (5, (li i3)), (7, (li i4))]) [.box 26 (zJ a_a)] ∧ zFC a_a a_zone n0 i3 i4 = some r) (zAC, i1, 0) ⟨zAE [0] rfl rfl (by kernel_rfl), h⟩ ?_
   clear h
   rintro ⟨n0, i3, i4⟩ e' H' ⟨hrep, h⟩
   cases n0 with
   | zero => exact absurd (show (none : Option _) = some r from h) (by simp)
   | succ n0 =>
    replace h : zDM a_a a_zone (zFC a_a a_zone n0) i3 i4 = some r := h
    unfold zDM at h
    refine zY hrep ?_
    clear hrep
    refine zI <| zI <| zC <| zA (zB rfl) <| zA (zM Tryz.underlying26 rfl rfl Tryz.sizeOf24 rfl) <| zA (zN Tryz.isAgg24 rfl rfl rfl rfl) ?_
    refine zA (zX Tryz.underlying24 rfl) <| zA (zf rfl rfl) <| zF ?_
    refine zQ (decide (i4 < (a_a.caches.length : Int))) rfl (fun hb1 => ?_) (fun hb1 => ?_)
    ·replace h := zo hb1 h
     refine zR <| zI <| zS <| zC <| zA (zB rfl) <| zA (zM Tryz.underlying26 rfl rfl Tryz.sizeOf24 rfl) ?_
     refine zA (zN Tryz.isAgg24 rfl rfl rfl rfl) <| zA (zB rfl) ?_
     have hb2 := (zH h).1
     replace h := (zH h).2
     refine zA (zV Tryz.underlying24 Tryz.sizeOf55 (fun _ => rfl) rfl rfl hb2) <| zA (zAy (row := (zG (at_ a_a.caches i4))) (o := 0) (off := 0) Tryz.underlying55 rfl rfl Tryz.sizeOf53 rfl) <| zA (zW (o := 0) Tryz.isAgg53 rfl rfl) <| zA (zB rfl) ?_
     have hb3 := (zH h).1
     replace h := (zH h).2
     refine zA (zV Tryz.underlying53 Tryz.sizeOf22 (fun _ => rfl) rfl rfl hb3) <| zA (zW (o := 0) Tryz.isAgg22 rfl rfl) <| zA (zX Tryz.underlying22 rfl) ?_
     have hb4 := (zH h).1
     replace h := (zH h).2
     refine zA (ze rfl rfl hb4) <| zA (zD rfl) <| zF <| zC <| zA (zB rfl) ?_
     have hb5 := (zH h).1
     replace h := (zH h).2
     refine zA (ze rfl rfl hb5) <| zA (zD rfl) <| zF ?_
     exact ⟨(n0, (i3 + ((at_ ((at_ a_a.caches i4).lists) a_zone).length : Int)), (i4 + 1)), Nat.lt_succ_self _, zAE [0] rfl rfl (by kernel_rfl), h⟩
    ·replace h := zv hb1 h
     refine z8 ?_
     exact ⟨i3, zAE [] rfl rfl (by kernel_rfl), h⟩
  ·
   clear h
   rintro e' H' ⟨i2, hrep, h⟩
   refine zY hrep ?_
   clear hrep
   unfold zH2 at h
   refine zI <| zC <| zA (zB rfl) <| zA (zD rfl) <| zF <| za ?_
   show zAS _ _ _ _ _ _
   obtain rfl := Option.some.inj h
   exact zp (zAK rfl rfl)
theorem zKc {a_a : zL} {r : Int × Int} (h : zE7 a_a = some r) : PFn Tryz.prog 12 [(AV.agg (zJ a_a))] (AV.tup [(li r.1), (li r.2)]) := by
 refine zi Tryz.func12 rfl Tryz.ntmps12 Tryz.results12 rfl ?_
 unfold zE7 at h
 refine zI <| zC <| zb (H' := [.box 26 (zJ a_a)]) (zu (t := 26) rfl) <| zA (zD rfl) <| zA (zD rfl) <| zF ?_
 refine zI <| zI <| zC <| zA (zT (k := 0) (o := 0) (m := 5) Tryz.isAgg26 Tryz.sizeOf26 rfl rfl rfl rfl rfl) ?_
 refine zP h ?_; clear h; intro x1 hx1 h
 refine zd Tryz.func14 rfl (by kernel_rfl) (.fn 14) rfl rfl (zFB hx1) rfl <| zA (z7 rfl rfl) <| zF ?_
 refine zQ (!decide (x1 = 0)) rfl (fun hb1 => ?_) (fun hb1 => ?_)
 ·replace h := zo hb1 h
  refine zI <| zC <| zA (zD rfl) <| zA (zD rfl) <| zF <| za ?_
  show zAS _ _ _ _ _ _
  obtain rfl := Option.some.inj h
  exact zC1 (zAK rfl rfl) (zAK rfl rfl) rfl
 ·replace h := zv hb1 h
  refine zR <| zI <| zC <| zA (zD rfl) <| zA (zD rfl) <| zF ?_
  refine z5 (fun e' H' => ∃ (i1 : Int) (i2 : Int), Rep 43 0 e' H' (mkE [(4, (li i1)), (5, (li i2))]) [] ∧ zGR i1 i2 = some r) ?_ ?_
  ·
   refine zI <| zC <| zA (zD rfl) <| zF <| zS <| z9 (σ := Nat × Int × Int × Int) (fun s => s.1) (fun s e' H' => match s with | (n0, i3, i4, i5) => Rep 43 0 e' H' (mkE [(1, (AV.ptr 0 0)), (4, (li i3)), (5, (li i4)), (6, (li i5))]) [.box 26 (zJ a_a)] ∧ zBK a_a n0 i3 i4 i5 = some r) (zAC, 0, 0, 0) ⟨zAE [0] rfl rfl (by kernel_rfl), h⟩ ?_
   clear h
   rintro ⟨n0, i3, i4, i5⟩ e' H' ⟨hrep, h⟩
   cases n0 with
   | zero => exact absurd (show (none : Option _) = some r from h) (by simp)
   | succ n0 =>
    replace h : zB6 a_a (zBK a_a n0) i3 i4 i5 = some r := h
    unfold zB6 at h
    refine zY hrep ?_
    clear hrep
    refine zI <| zI <| zC <| zA (zB rfl) <| zA (zM Tryz.underlying26 rfl rfl Tryz.sizeOf23 rfl) <| zA (zN Tryz.isAgg23 rfl rfl rfl rfl) ?_
    refine zA (zX Tryz.underlying23 rfl) <| zA (zf rfl rfl) <| zF ?_
    refine zQ (decide (i5 < (a_a.zones.length : Int))) rfl (fun hb2 => ?_) (fun hb2 => ?_)
    ·replace h := zo hb2 h
     refine zR ?_
     refine z5 (fun e' H' => ∃ (i6 : Int) (i7 : Int), Rep 43 0 e' H' (mkE [(1, (AV.ptr 0 0)), (4, (li i6)), (5, (li i7)), (6, (li i5))]) [.box 26 (zJ a_a)] ∧ zDb (zBK a_a n0) i5 i6 i7 = some r) ?_ ?_
     ·
      refine zS <| zI ?_
      refine zP h ?_; clear h; intro x2 hx2 h
      have hb4 := (zH h).1
      replace h := (zH h).2
      have hb5 := (zH h).1
      replace h := (zH h).2
      show AW _ _ _ _ _ _ [.box 26 (zJ a_a)]
      refine zAz (n := 43) (m := 0) [.head 0 0, .head 0 0, .head 0 0, .head 0 0, .head 0 0, .head 0 0, .head 0 0, .head 0 0, .head 0 0, .head 0 0, .head 0 0] [] [(AV.agg (zJ a_a)), (li i5), (li x2), (AV.ptr 0 3), (ls zO a_a.zones), (li i5), (AV.rp (zO (at_ a_a.zones i5)) 0), (AV.rp (zO (at_ a_a.zones i5)) 4), (li ((at_ a_a.zones i5).min)), (li (x2 - ((at_ a_a.zones i5).min))), (li (x2 - ((at_ a_a.zones i5).min)))] [[.box 26 (zJ a_a)]] (by kernel_rfl) (by kernel_rfl) ⟨?_, ?_, ?_, ?_, ?_, ?_, ?_, ?_, ?_, ?_, ?_, trivial⟩ ?_
      ·exact fun e s p => zt (zT (k := 0) (o := 0) (m := 5) (la := (zJ a_a)) Tryz.isAgg26 Tryz.sizeOf26 (s 1 rfl) rfl rfl rfl rfl) ⟨fun _ => rfl, rfl⟩
      ·exact fun e s p => zt (zB (av := (li i5)) (s 6 rfl)) ⟨fun _ => rfl, rfl⟩
      ·
       intro e3 hs3 hp3
       refine zd (r := (li x2)) (la := [(AV.agg (zJ a_a)), (li i5)]) Tryz.func40 rfl (by kernel_rfl) (.fn 40) (zAF hp3.1 (zAF hp3.2.1 rfl)) rfl (zJY hx2) rfl ?_
       exact zF ⟨fun _ => rfl, rfl⟩
      ·exact fun e s p => zt (zM (k := 0) (o := 0) (off := 3) Tryz.underlying26 rfl rfl Tryz.sizeOf23 (s 1 rfl)) ⟨fun _ => rfl, rfl⟩
      ·exact fun e s p => zt (zN (k := 0) (o := 3) (a := (ls zO a_a.zones)) Tryz.isAgg23 p.1 rfl rfl rfl) ⟨fun _ => rfl, rfl⟩
      ·exact fun e s p => zt (zB (av := (li i5)) (s 6 rfl)) ⟨fun _ => rfl, rfl⟩
      ·exact fun e s p => zt (zV (f := zO) (l := a_a.zones) (i := i5) Tryz.underlying23 Tryz.sizeOf51 (fun _ => rfl) p.1 p.2.1 hb4) ⟨fun _ => rfl, rfl⟩
      ·exact fun e s p => zt (zAy (row := (zO (at_ a_a.zones i5))) (o := 0) (off := 4) Tryz.underlying51 rfl rfl Tryz.sizeOf3 p.1) ⟨fun _ => rfl, rfl⟩
      ·exact fun e s p => zt (zW (row := (zO (at_ a_a.zones i5))) (o := 4) (a := (li ((at_ a_a.zones i5).min))) Tryz.isAgg3 p.1 rfl) ⟨fun _ => rfl, rfl⟩
      ·exact fun e s p => zt (zB5 (a := x2) (b := (at_ a_a.zones i5).min) p.1 p.2.1 hb5) ⟨fun _ => rfl, rfl⟩
      ·exact fun e s p => zt (zD (av := (li (x2 - ((at_ a_a.zones i5).min)))) p.2.2.2.2.2.2.2.2.2.2.2.1) ⟨fun _ => rfl, rfl⟩
      intro e12 hs12 hq1
      refine zY (zBV (l := [(1, (AV.ptr 0 0)), (4, (li i3)), (5, (li i4)), (6, (li i5)), (7, (li (x2 - ((at_ a_a.zones i5).min))))]) ⟨(hs12 1 rfl), (hs12 4 rfl), (hs12 5 rfl), (hs12 6 rfl), (hq1 10 (by decide) (by decide)), trivial⟩) <| zI <| zC <| zA (zB (av := (li i4)) rfl) <| zA (zB (av := (li (x2 - ((at_ a_a.zones i5).min)))) rfl) ?_
      have hb6 := (zH h).1
      replace h := (zH h).2
      refine zA (ze rfl rfl hb6) <| zA (zD rfl) <| zF <| zI <| zC <| zA (zM Tryz.underlying26 rfl rfl Tryz.sizeOf23 rfl) ?_
      refine zA (zN Tryz.isAgg23 rfl rfl rfl rfl) <| zA (zB rfl) <| zA (zV Tryz.underlying23 Tryz.sizeOf51 (fun _ => rfl) rfl rfl hb4) <| zA (zAy (row := (zO (at_ a_a.zones i5))) (o := 0) (off := 1) Tryz.underlying51 rfl rfl Tryz.sizeOf3 rfl) <| zA (zW (o := 1) Tryz.isAgg3 rfl rfl) <| zA (zBT rfl rfl) ?_
      refine zF ?_
      refine zQ (decide (((at_ a_a.zones i5).kind) = 0)) rfl (fun hb7 => ?_) (fun hb7 => ?_)
      ·replace h := zo hb7 h
       refine zC <| zA (zB rfl) <| zA (zB rfl) ?_
       have hb8 := (zH h).1
       replace h := (zH h).2
       refine zA (ze rfl rfl hb8) <| zA (zD rfl) <| zF ?_
       exact ⟨(i3 + (x2 - ((at_ a_a.zones i5).min))), (i4 + (x2 - ((at_ a_a.zones i5).min))), zAE [0] rfl rfl (by kernel_rfl), h⟩
      ·replace h := zv hb7 h
       refine zR ?_
       exact ⟨i3, (i4 + (x2 - ((at_ a_a.zones i5).min))), zAE [0] rfl rfl (by kernel_rfl), h⟩
     ·
      clear h
      rintro e' H' ⟨i6, i7, hrep, h⟩
      refine zY hrep ?_
      clear hrep
      unfold zDb at h
      refine zC <| zA (zB rfl) ?_
      have hb3 := (zH h).1
      replace h := (zH h).2
      refine zA (ze rfl rfl hb3) <| zA (zD rfl) <| zF ?_
      exact ⟨(n0, i6, i7, (i5 + 1)), Nat.lt_succ_self _, zAE [0] rfl rfl (by kernel_rfl), h⟩
    ·replace h := zv hb2 h
     refine z8 ?_
     exact ⟨i3, i4, zAE [] rfl rfl (by kernel_rfl), h⟩
  ·
   clear h
   rintro e' H' ⟨i1, i2, hrep, h⟩
   refine zY hrep ?_
   clear hrep
   unfold zGR at h
   refine zI <| zC <| zA (zB rfl) <| zA (zB rfl) <| zA (zD rfl) <| zA (zD rfl) ?_
   refine zF <| za ?_
   show zAS _ _ _ _ _ _
   obtain rfl := Option.some.inj h
   exact zC1 (zAK rfl rfl) (zAK rfl rfl) rfl
theorem zLZ {a_a : zL} {r : Int} (h : zGn a_a = some r) : PFn Tryz.prog 16 [(AV.agg (zJ a_a))] (li r) := by
 refine zi Tryz.func16 rfl Tryz.ntmps16 Tryz.results16 rfl ?_
 unfold zGn at h
 refine zI <| zC <| zb (H' := [.box 26 (zJ a_a)]) (zu (t := 26) rfl) <| zA (zD rfl) <| zF <| zI ?_
 refine zI <| zC <| zA (zT (k := 0) (o := 0) (m := 5) Tryz.isAgg26 Tryz.sizeOf26 rfl rfl rfl rfl rfl) ?_
 refine zP h ?_; clear h; intro x1 hx1 h
 refine zd Tryz.func14 rfl (by kernel_rfl) (.fn 14) rfl rfl (zFB hx1) rfl <| zA (z7 rfl rfl) <| zF ?_
 refine zQ (!decide (x1 = 0)) rfl (fun hb1 => ?_) (fun hb1 => ?_)
 ·replace h := zo hb1 h
  refine zI <| zC <| zA (zD rfl) <| zF <| za ?_
  show zAS _ _ _ _ _ _
  obtain rfl := Option.some.inj h
  exact zp (zAK rfl rfl)
 ·replace h := zv hb1 h
  refine zR <| zI <| zC <| zA (zD rfl) <| zF ?_
  refine z5 (fun e' H' => ∃ (i1 : Int), Rep 24 0 e' H' (mkE [(3, (li i1))]) [] ∧ zHS i1 = some r) ?_ ?_
  ·
   refine zI <| zC <| zA (zD rfl) <| zF <| zS <| z9 (σ := Nat × Int × Int) (fun s => s.1) (fun s e' H' => match s with | (n0, i2, i3) => Rep 24 0 e' H' (mkE [(1, (AV.ptr 0 0)), (3, (li i2)), (4, (li i3))]) [.box 26 (zJ a_a)] ∧ zEj a_a n0 i2 i3 = some r) (zAC, 0, 0) ⟨zAE [0] rfl rfl (by kernel_rfl), h⟩ ?_
   clear h
   rintro ⟨n0, i2, i3⟩ e' H' ⟨hrep, h⟩
   cases n0 with
   | zero => exact absurd (show (none : Option _) = some r from h) (by simp)
   | succ n0 =>
    replace h : zCk a_a (zEj a_a n0) i2 i3 = some r := h
    unfold zCk at h
    refine zY hrep ?_
    clear hrep
    refine zI <| zI <| zC <| zA (zB rfl) <| zA (zM Tryz.underlying26 rfl rfl Tryz.sizeOf23 rfl) <| zA (zN Tryz.isAgg23 rfl rfl rfl rfl) ?_
    refine zA (zX Tryz.underlying23 rfl) <| zA (zf rfl rfl) <| zF ?_
    refine zQ (decide (i3 < (a_a.zones.length : Int))) rfl (fun hb2 => ?_) (fun hb2 => ?_)
    ·replace h := zo hb2 h
     refine zR <| zI <| zS <| zC <| zA (zB rfl) <| zA (zM Tryz.underlying26 rfl rfl Tryz.sizeOf23 rfl) ?_
     refine zA (zN Tryz.isAgg23 rfl rfl rfl rfl) <| zA (zB rfl) ?_
     have hb3 := (zH h).1
     replace h := (zH h).2
     refine zA (zV Tryz.underlying23 Tryz.sizeOf51 (fun _ => rfl) rfl rfl hb3) <| zA (zAy (row := (zO (at_ a_a.zones i3))) (o := 0) (off := 3) Tryz.underlying51 rfl rfl Tryz.sizeOf3 rfl) <| zA (zW (o := 3) Tryz.isAgg3 rfl rfl) ?_
     have hb4 := (zH h).1
     replace h := (zH h).2
     refine zA (ze rfl rfl hb4) <| zA (zD rfl) <| zF <| zC <| zA (zB rfl) ?_
     have hb5 := (zH h).1
     replace h := (zH h).2
     refine zA (ze rfl rfl hb5) <| zA (zD rfl) <| zF ?_
     exact ⟨(n0, (i2 + ((at_ a_a.zones i3).count)), (i3 + 1)), Nat.lt_succ_self _, zAE [0] rfl rfl (by kernel_rfl), h⟩
    ·replace h := zv hb2 h
     refine z8 ?_
     exact ⟨i2, zAE [] rfl rfl (by kernel_rfl), h⟩
  ·
   clear h
   rintro e' H' ⟨i1, hrep, h⟩
   refine zY hrep ?_
   clear hrep
   unfold zHS at h
   refine zI <| zC <| zA (zB rfl) <| zA (zD rfl) <| zF <| za ?_
   show zAS _ _ _ _ _ _
   obtain rfl := Option.some.inj h
   exact zp (zAK rfl rfl)
end Go.Proofs.YtplkliakhdkpcaaGreat
