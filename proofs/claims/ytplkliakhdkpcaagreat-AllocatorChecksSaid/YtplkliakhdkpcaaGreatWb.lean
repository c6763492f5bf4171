/-
  The program computes what these functions give, part b.
-/
import Derived.Test.YtplkliakhdkpcaaGreatWa
set_option linter.unusedVariables false
set_option linter.unusedSimpArgs false
namespace Go.Proofs.YtplkliakhdkpcaaGreat
open Go Go.RowKit Go.Wk Go.Am Go.Proofs
set_option maxHeartbeats 4000000
theorem zH9 {a_zones : List zm} {a_node : Int} {a_kernel : Bool} {r : (List Int) × Int} (h : zGf a_zones a_node a_kernel = some r) : PFn Tryz.prog 53 [(ls zO a_zones), (li a_node), (AV.lit (.bool a_kernel))] (AV.tup [(ls cI r.1), (li r.2)]) := by
 refine zi Tryz.func53 rfl Tryz.ntmps53 Tryz.results53 rfl ?_
 unfold zGf at h
 refine zI <| zC <| zb (H' := [.box 23 [(ls zO a_zones)]]) (zIG (t := 23) (a := (ls zO a_zones)) rfl rfl) <| zb (H' := [.box 23 [(ls zO a_zones)], .box 3 [(li a_node)]]) (zIG (t := 3) (a := (li a_node)) rfl rfl) <| zA (zD rfl) <| zA (zD rfl) ?_
 refine zF <| zI <| zI <| zC <| zA (zN Tryz.isAgg23 rfl rfl rfl rfl) <| zA (zN Tryz.isAgg3 rfl rfl rfl rfl) ?_
 refine zP h ?_; clear h; intro x1 hx1 h
 refine zd Tryz.func100 rfl (by kernel_rfl) (.fn 100) rfl rfl (zKh hx1) rfl <| zA (zD rfl) <| zF <| zI <| zC <| zA (zB rfl) ?_
 refine zA (z7 rfl rfl) <| zF ?_
 refine zQ (!decide (x1 = 0)) rfl (fun hb1 => ?_) (fun hb1 => ?_)
 ·replace h := zo hb1 h
  refine zI <| zC <| zA (zB rfl) <| zA (zD rfl) <| zA (zD rfl) <| zF ?_
  refine za ?_
  show zAS _ _ _ _ _ _
  obtain rfl := Option.some.inj h
  exact zC1 (zJG (zAK rfl rfl) zq.nils) (zAK rfl rfl) rfl
 ·replace h := zv hb1 h
  refine zR <| zI <| zC <| zA (zD rfl) <| zF ?_
  refine z5 (fun e' H' => ∃ (l1 : List Int), Rep 43 0 e' H' (mkE [(3, (AV.ptr 0 0)), (4, (AV.ptr 1 0)), (9, (AV.hd 2))]) [.box 23 [(ls zO a_zones)], .box 3 [(li a_node)], .vec 3 1 (List.map cI l1)] ∧ zGU a_zones a_node l1 = some r) ?_ ?_
  ·
   refine zI <| zC <| zA (zN Tryz.isAgg23 rfl rfl rfl rfl) <| zA (zX Tryz.underlying23 rfl) <| zA (zB rfl) <| zF ?_
   refine zS <| z9 (σ := Nat × Int × (List Int)) (fun s => s.1) (fun s e' H' => match s with | (n0, i1, l2) => Rep 43 0 e' H' (mkE [(2, (AV.lit (.bool a_kernel))), (3, (AV.ptr 0 0)), (4, (AV.ptr 1 0)), (9, (AV.hd 2)), (19, (ls zO a_zones)), (20, (li (a_zones.length : Int))), (21, (li i1))]) [.box 23 [(ls zO a_zones)], .box 3 [(li a_node)], .vec 3 1 (List.map cI l2)] ∧ zDa a_zones a_node a_kernel n0 i1 l2 = some r) (zAC, 0, []) ⟨Rep.trans (zO5 (d := 9) (el := 3) (sz := 1) rfl) (zAE [0, 1, 2] (l := [(2, (AV.lit (.bool a_kernel))), (3, (AV.ptr 0 0)), (4, (AV.ptr 1 0)), (9, (AV.hd 2)), (19, (ls zO a_zones)), (20, (li (a_zones.length : Int))), (21, (li 0))]) rfl rfl (by kernel_rfl)), h⟩ ?_
   clear h
   rintro ⟨n0, i1, l2⟩ e' H' ⟨hrep, h⟩
   cases n0 with
   | zero => exact absurd (show (none : Option _) = some r from h) (by simp)
   | succ n0 =>
    replace h : zGC a_zones a_node a_kernel (zDa a_zones a_node a_kernel n0) i1 l2 = some r := h
    unfold zGC at h
    refine zY hrep ?_
    clear hrep
    refine zI <| zC <| zA (zf rfl rfl) <| zF <| zI ?_
    refine zQ (decide (i1 < (a_zones.length : Int))) rfl (fun hb2 => ?_) (fun hb2 => ?_)
    ·replace h := zo hb2 h
     refine zR ?_
     refine z5 (fun e' H' => ∃ (l3 : List Int), Rep 43 0 e' H' (mkE [(2, (AV.lit (.bool a_kernel))), (3, (AV.ptr 0 0)), (4, (AV.ptr 1 0)), (9, (AV.hd 2)), (19, (ls zO a_zones)), (20, (li (a_zones.length : Int))), (21, (li i1))]) [.box 23 [(ls zO a_zones)], .box 3 [(li a_node)], .vec 3 1 (List.map cI l3)] ∧ zEm (zDa a_zones a_node a_kernel n0) i1 l3 = some r) ?_ ?_
     ·
      refine zS <| zI <| zC <| zA (zB rfl) ?_
      have hb4 := (zH h).1
      replace h := (zH h).2
      refine zA (zV Tryz.underlying23 Tryz.sizeOf51 (fun _ => rfl) rfl rfl hb4) <| zA (zAi (row := (zO (at_ a_zones i1))) (o := 0) (m := 10) (la := (zO (at_ a_zones i1))) Tryz.isAgg51 Tryz.sizeOf51 rfl rfl rfl) <| zb (H' := [.box 23 [(ls zO a_zones)], .box 3 [(li a_node)], .vec 3 1 (List.map cI l2), .box 51 ([(li 0)] ++ ([(li 0)] ++ ([(li 0)] ++ ([(li 0)] ++ ([(li 0)] ++ ((cA 5 (eS cI) ([] : List Int) (List.replicate 5 ([] : List Int))) ++ []))))))]) (z6 (t := 51) (vs := [.int .i64 0, .int .i64 0, .int .i64 0, .int .i64 0, .int .i64 0, .slice none 0 0, .slice none 0 0, .slice none 0 0, .slice none 0 0, .slice none 0 0]) (cs := [.lit (.int .i64 0), .lit (.int .i64 0), .lit (.int .i64 0), .lit (.int .i64 0), .lit (.int .i64 0), .sl false [], .sl false [], .sl false [], .sl false [], .sl false []]) Tryz.zeroValue51 (by kernel_rfl) rfl ⟨zq.refl _, zq.refl _, zq.refl _, zq.refl _, zq.refl _, zq.nils, zq.nils, zq.nils, zq.nils, zq.nils, trivial⟩) <| zA (zD rfl) <| zx (H' := [.box 23 [(ls zO a_zones)], .box 3 [(li a_node)], .vec 3 1 (List.map cI l2), .box 51 (zO (at_ a_zones i1))]) (zh (k := 3) (o := 0) (cs := ([(li 0)] ++ ([(li 0)] ++ ([(li 0)] ++ ([(li 0)] ++ ([(li 0)] ++ ((cA 5 (eS cI) ([] : List Int) (List.replicate 5 ([] : List Int))) ++ []))))))) (la := (zO (at_ a_zones i1))) Tryz.sizeOf51 rfl rfl rfl rfl) <| zF ?_
      refine zI <| zC <| zA (zB rfl) <| zA (zA8 (t := a_kernel) rfl) <| zA (zB rfl) <| zU rfl rfl (fun hc1 => zj.step (zM Tryz.underlying51 rfl rfl Tryz.sizeOf3 rfl)) ?_
      refine zU rfl rfl (fun hc2 => zj.step (zN Tryz.isAgg3 (zz rfl hc2) rfl rfl rfl)) <| zU rfl rfl (fun hc3 => zj.step (zBT (zz rfl hc3) rfl)) <| zA (zZ rfl rfl) <| zF ?_
      refine zQ ((!a_kernel) || (decide (((at_ a_zones i1).kind) = 0))) rfl (fun hb5 => ?_) (fun hb5 => ?_)
      ·replace h := zo hb5 h
       refine zC <| zA (zB rfl) <| zA (zB rfl) <| zIR (a := (li i1)) zIj Tryz.underlying22 rfl rfl rfl rfl ?_
       have hb6 := (zH h).1
       replace h := (zH h).2
       refine zGp (f := cI) (k := 2) (j := 4) (l := l2) (l' := [i1]) zIj (fun _ => rfl) Tryz.underlying22 rfl rfl rfl rfl hb6 <| zA (zD rfl) <| zF ?_
       exact ⟨(l2 ++ [i1]), zAE [0, 1, 5] rfl rfl (by kernel_rfl), h⟩
      ·replace h := zv hb5 h
       refine zR ?_
       exact ⟨l2, zAE [0, 1, 2] rfl rfl (by kernel_rfl), h⟩
     ·
      clear h
      rintro e' H' ⟨l3, hrep, h⟩
      refine zY hrep ?_
      clear hrep
      unfold zEm at h
      refine zC ?_
      have hb3 := (zH h).1
      replace h := (zH h).2
      refine zA (ze rfl rfl hb3) <| zA (zB rfl) <| zF ?_
      exact ⟨(n0, (i1 + 1), l3), Nat.lt_succ_self _, zAE [0, 1, 2] rfl rfl (by kernel_rfl), h⟩
    ·replace h := zv hb2 h
     refine z8 ?_
     exact ⟨l2, zAE [0, 1, 2] rfl rfl (by kernel_rfl), h⟩
  ·
   clear h
   rintro e' H' ⟨l1, hrep, h⟩
   refine zY hrep ?_
   clear hrep
   unfold zGU at h
   refine zI <| zC <| zA (zJs (la := [(AV.ptr 1 0), (AV.ptr 0 0)]) rfl) <| zb (H' := [.box 23 [(ls zO a_zones)], .box 3 [(li a_node)], .vec 3 1 (List.map cI l1), .box 100 [(AV.lit .nilFunc)]]) (z6 (t := 100) (vs := [.nilFunc]) (cs := [.lit .nilFunc]) Tryz.zeroValue100 (by kernel_rfl) rfl ⟨zq.refl _, trivial⟩) <| zx (H' := [.box 23 [(ls zO a_zones)], .box 3 [(li a_node)], .vec 3 1 (List.map cI l1), .box 100 [(AV.clo 101 [(AV.ptr 1 0), (AV.ptr 0 0)])]]) (zFR (k := 3) (o := 0) (cs := [(AV.lit .nilFunc)]) (a := (AV.clo 101 [(AV.ptr 1 0), (AV.ptr 0 0)])) Tryz.sizeOf100 rfl rfl rfl rfl rfl) <| zF ?_
   refine zI <| zC <| zA (zB rfl) <| zA (zJs (la := [(AV.ptr 3 0)]) rfl) ?_
   refine zP h ?_; clear h; intro x2 hx2 h
   refine zD2 (k := 2) (la := [(AV.hd 2), (AV.clo 104 [(AV.ptr 3 0)])]) (la' := [(AV.hd 0), (AV.clo 104 [(AV.rp [(AV.clo 101 [(AV.rp [(li a_node)] 0), (AV.rp [(ls zO a_zones)] 0)])] 0)])]) (r := (.tup [])) (S := [0, 1, 3]) (en' := .vec 3 1 (List.map cI x2)) Tryz.func103 rfl (by kernel_rfl) (.fn 103) rfl ⟨zCn.hd, zCn.of (zAt.clo (⟨zAt.ptrV (cs := [(AV.clo 101 [(AV.ptr 1 0), (AV.ptr 0 0)])]) rfl rfl rfl ⟨zAt.clo (⟨zAt.ptr (cs := [(li a_node)]) rfl rfl rfl, zAt.ptr (cs := [(ls zO a_zones)]) rfl rfl rfl, trivial⟩), trivial⟩, trivial⟩)), trivial⟩ rfl rfl rfl rfl (zFg Tryz.func104 rfl (by kernel_rfl) rfl (fun hy => zJr Tryz.func101 rfl (by kernel_rfl) rfl (fun hy => zJi  hy) hy) hx2) rfl (.inr ⟨rfl, zPY⟩) <| zF <| zI <| zC <| zA (zB rfl) <| zA (zD rfl) ?_
   refine zA (zD rfl) <| zF <| zY (zFJ (j := 2) (ds := [6, 9, 39, 42]) (rows' := List.map cI x2) rfl (zAa (fun _ => rfl)) ⟨rfl, rfl, rfl, rfl, trivial⟩) <| za ?_
   show zAS _ _ _ _ _ _
   obtain rfl := Option.some.inj h
   exact zC1 (zAK rfl rfl) (zAK rfl rfl) rfl
theorem zFa {a_s : List zm} {r : List zm} (h : zB8 a_s = some r) : PFn Tryz.prog 106 [(ls zO a_s)] (AV.osl 51 10 (List.map zO r)) := by
  refine zi Tryz.func106 rfl Tryz.ntmps106 Tryz.results106 rfl ?_
  unfold zB8 at h
  have hb1 := (zH h).1
  replace h := (zH h).2
  obtain rfl := Option.some.inj h
  refine zI <| zC <| zA (a := (.lit (.slice none 0 0))) (zD rfl) <| zF <| zI <| zI ?_
  refine zC <| zA (a := (ls zO a_s)) (zB rfl) ?_
  refine zKH (full := false) (rows := List.map zO a_s) Tryz.underlying23 rfl (fun b hb => ?_)
  refine zF ?_
  refine zQ b rfl (fun hbt => ?_) (fun hbt => ?_)
  · obtain rfl : a_s = [] := List.map_eq_nil_iff.1 (hb hbt)
    refine zI <| zC <| zA (a := (.lit (.slice none 0 0))) (zD rfl) <| zF <| za ?_
    exact zp (zJG (zAK rfl rfl) zq.nilo)
  · refine zR ?_
    refine zI <| zC <| zKw zOO Tryz.underlying23 <| zA (a := (ls zO a_s)) (zB rfl) <| zIc (f := zO) (k := 0) (l := []) (l' := a_s) zOO (fun _ => rfl) Tryz.underlying23 rfl rfl rfl hb1 <| zA (a := (.hd 1)) (zD rfl) ?_
    refine zF <| za ?_
    exact zp (zS5 (rows := List.map zO ([] ++ a_s)) rfl rfl)
theorem zD1 {a_s : List zK} {r : List zK} (h : zBH a_s = some r) : PFn Tryz.prog 107 [(ls zG a_s)] (AV.osl 55 1 (List.map zG r)) := by
  refine zi Tryz.func107 rfl Tryz.ntmps107 Tryz.results107 rfl ?_
  unfold zBH at h
  have hb1 := (zH h).1
  replace h := (zH h).2
  obtain rfl := Option.some.inj h
  refine zI <| zC <| zA (a := (.lit (.slice none 0 0))) (zD rfl) <| zF <| zI <| zI ?_
  refine zC <| zA (a := (ls zG a_s)) (zB rfl) ?_
  refine zKH (full := false) (rows := List.map zG a_s) Tryz.underlying24 rfl (fun b hb => ?_)
  refine zF ?_
  refine zQ b rfl (fun hbt => ?_) (fun hbt => ?_)
  · obtain rfl : a_s = [] := List.map_eq_nil_iff.1 (hb hbt)
    refine zI <| zC <| zA (a := (.lit (.slice none 0 0))) (zD rfl) <| zF <| za ?_
    exact zp (zJG (zAK rfl rfl) zq.nilo)
  · refine zR ?_
    refine zI <| zC <| zKw zNx Tryz.underlying24 <| zA (a := (ls zG a_s)) (zB rfl) <| zIc (f := zG) (k := 0) (l := []) (l' := a_s) zNx (fun _ => rfl) Tryz.underlying24 rfl rfl rfl hb1 <| zA (a := (.hd 1)) (zD rfl) ?_
    refine zF <| za ?_
    exact zp (zS5 (rows := List.map zG ([] ++ a_s)) rfl rfl)
theorem zH0 {a_s : List (List Int)} {r : List (List Int)} (h : zEC a_s = some r) : PFn Tryz.prog 108 [(ls (cS cI) a_s)] (AV.osl 22 1 (List.map (cS cI) r)) := by
  refine zi Tryz.func108 rfl Tryz.ntmps108 Tryz.results108 rfl ?_
  unfold zEC at h
  have hb1 := (zH h).1
  replace h := (zH h).2
  obtain rfl := Option.some.inj h
  refine zI <| zC <| zA (a := (.lit (.slice none 0 0))) (zD rfl) <| zF <| zI <| zI ?_
  refine zC <| zA (a := (ls (cS cI) a_s)) (zB rfl) ?_
  refine zKH (full := false) (rows := List.map (cS cI) a_s) Tryz.underlying53 rfl (fun b hb => ?_)
  refine zF ?_
  refine zQ b rfl (fun hbt => ?_) (fun hbt => ?_)
  · obtain rfl : a_s = [] := List.map_eq_nil_iff.1 (hb hbt)
    refine zI <| zC <| zA (a := (.lit (.slice none 0 0))) (zD rfl) <| zF <| za ?_
    exact zp (zJG (zAK rfl rfl) zq.nilo)
  · refine zR ?_
    refine zI <| zC <| zKw zNr Tryz.underlying53 <| zA (a := (ls (cS cI) a_s)) (zB rfl) <| zIc (f := (cS cI)) (k := 0) (l := []) (l' := a_s) zNr (fun _ => rfl) Tryz.underlying53 rfl rfl rfl hb1 <| zA (a := (.hd 1)) (zD rfl) ?_
    refine zF <| za ?_
    exact zp (zS5 (rows := List.map (cS cI) ([] ++ a_s)) rfl rfl)
theorem zEI {a_p0 : zL} {r : zL} (h : zDZ a_p0 = some r) : PFn Tryz.prog 54 [(AV.agg (zJ a_p0))] (AV.agg ([(ls cI r.nodes)] ++ ([(li r.batch)] ++ ([(li r.high)] ++ ([AV.osl 51 10 (List.map zO r.zones)] ++ ([AV.osl 55 1 (List.map zG r.caches)] ++ [])))))) := by
 refine zi Tryz.func54 rfl Tryz.ntmps54 Tryz.results54 rfl ?_
 unfold zDZ at h
 refine zI <| zC <| zb (H' := [.box 26 (zJ a_p0)]) (zu (t := 26) rfl) <| zb (H' := [.box 26 (zJ a_p0), .box 26 ([(ls cI ([] : List Int))] ++ ([(li 0)] ++ ([(li 0)] ++ ([(ls zO ([] : List zm))] ++ ([(ls zG ([] : List zK))] ++ [])))))]) (z6 (t := 26) (vs := [.slice none 0 0, .int .i64 0, .int .i64 0, .slice none 0 0, .slice none 0 0]) (cs := [.sl false [], .lit (.int .i64 0), .lit (.int .i64 0), .sl false [], .sl false []]) Tryz.zeroValue26 (by kernel_rfl) rfl ⟨zq.nils, zq.refl _, zq.refl _, zq.nils, zq.nils, trivial⟩) <| zF <| zI ?_
 refine zP h ?_; clear h; intro x1 hx1 h
 refine zP h ?_; clear h; intro x2 hx2 h
 refine zP h ?_; clear h; intro x3 hx3 h
 show AW _ _ _ _ _ _ [.box 26 (zJ a_p0), .box 26 ([(ls cI ([] : List Int))] ++ ([(li 0)] ++ ([(li 0)] ++ ([(ls zO ([] : List zm))] ++ ([(ls zG ([] : List zK))] ++ [])))))]
 refine zAz (n := 82) (m := 0) [.head 0 0, .head 0 0, .tail 0, .head 0 1, .head 0 1, .tail 1, .head 0 2, .head 0 2, .tail 2, .head 1 3, .tail 3, .head 4 4, .tail 4, .head 5 5, .tail 5] [2, 5, 8, 10, 12, 14] [(AV.ptr 0 0), (ls cI a_p0.nodes), (AV.hd 2), (AV.ptr 0 3), (ls zO a_p0.zones), (AV.hd 3), (AV.ptr 0 4), (ls zG a_p0.caches), (AV.hd 4), (AV.ptr 0 0), .any, (AV.ptr 0 3), .any, (AV.ptr 0 4), .any] [[.box 26 (zJ a_p0), .box 26 ([(ls cI ([] : List Int))] ++ ([(li 0)] ++ ([(li 0)] ++ ([(ls zO ([] : List zm))] ++ ([(ls zG ([] : List zK))] ++ [])))))], [.box 26 (zJ a_p0), .box 26 ([(ls cI ([] : List Int))] ++ ([(li 0)] ++ ([(li 0)] ++ ([(ls zO ([] : List zm))] ++ ([(ls zG ([] : List zK))] ++ []))))), .vec 3 1 (List.map cI x1)], [.box 26 (zJ a_p0), .box 26 ([(ls cI ([] : List Int))] ++ ([(li 0)] ++ ([(li 0)] ++ ([(ls zO ([] : List zm))] ++ ([(ls zG ([] : List zK))] ++ []))))), .vec 3 1 (List.map cI x1), .vec 51 10 (List.map zO x2)], [.box 26 (zJ a_p0), .box 26 ([(ls cI ([] : List Int))] ++ ([(li 0)] ++ ([(li 0)] ++ ([(ls zO ([] : List zm))] ++ ([(ls zG ([] : List zK))] ++ []))))), .vec 3 1 (List.map cI x1), .vec 51 10 (List.map zO x2), .vec 55 1 (List.map zG x3)], [.box 26 ([AV.hd 2] ++ ([(li a_p0.batch)] ++ ([(li a_p0.high)] ++ ([(ls zO a_p0.zones)] ++ ([(ls zG a_p0.caches)] ++ []))))), .box 26 ([(ls cI ([] : List Int))] ++ ([(li 0)] ++ ([(li 0)] ++ ([(ls zO ([] : List zm))] ++ ([(ls zG ([] : List zK))] ++ []))))), .vec 3 1 (List.map cI x1), .vec 51 10 (List.map zO x2), .vec 55 1 (List.map zG x3)], [.box 26 ([AV.hd 2] ++ ([(li a_p0.batch)] ++ ([(li a_p0.high)] ++ ([AV.hd 3] ++ ([(ls zG a_p0.caches)] ++ []))))), .box 26 ([(ls cI ([] : List Int))] ++ ([(li 0)] ++ ([(li 0)] ++ ([(ls zO ([] : List zm))] ++ ([(ls zG ([] : List zK))] ++ []))))), .vec 3 1 (List.map cI x1), .vec 51 10 (List.map zO x2), .vec 55 1 (List.map zG x3)], [.box 26 ([AV.hd 2] ++ ([(li a_p0.batch)] ++ ([(li a_p0.high)] ++ ([AV.hd 3] ++ ([AV.hd 4] ++ []))))), .box 26 ([(ls cI ([] : List Int))] ++ ([(li 0)] ++ ([(li 0)] ++ ([(ls zO ([] : List zm))] ++ ([(ls zG ([] : List zK))] ++ []))))), .vec 3 1 (List.map cI x1), .vec 51 10 (List.map zO x2), .vec 55 1 (List.map zG x3)]] (by kernel_rfl) (by kernel_rfl) ⟨?_, ?_, ?_, ⟨?_, ?_⟩, ⟨?_, ?_⟩, ?_, ⟨?_, ?_, ?_⟩, ⟨?_, ?_, ?_⟩, ?_, ⟨?_, ?_, ?_⟩, ?_, ?_, ?_, ?_, ?_, trivial⟩ ?_
 ·exact fun e s p => zt (zM (k := 0) (o := 0) (off := 0) Tryz.underlying26 rfl rfl Tryz.sizeOf22 (s 1 rfl)) ⟨fun _ => rfl, rfl⟩
 ·exact fun e s p => zt (zN (k := 0) (o := 0) (a := (ls cI a_p0.nodes)) Tryz.isAgg22 p.1 rfl rfl rfl) ⟨fun _ => rfl, rfl⟩
 ·
  intro e3 hs3 hp3
  refine zID (T := 3) (sz := 1) (rows := List.map cI x1) (la := [(ls cI a_p0.nodes)]) (la' := [(ls cI a_p0.nodes)]) (S := []) Tryz.func80 rfl (by kernel_rfl) (.fn 80) (zAF hp3.1 rfl) ⟨zAt.nr rfl, trivial⟩ (zAM hx1) (.inl rfl) ?_
  exact zF ⟨fun _ => rfl, rfl⟩
 ·exact fun e s p => zt (zM (k := 0) (o := 0) (off := 3) Tryz.underlying26 rfl rfl Tryz.sizeOf23 (s 1 rfl)) ⟨fun _ => rfl, rfl⟩
 ·exact fun e s p => zt (zM (k := 0) (o := 0) (off := 3) Tryz.underlying26 rfl rfl Tryz.sizeOf23 (s 1 rfl)) ⟨fun _ => rfl, rfl⟩
 ·exact fun e s p => zt (zN (k := 0) (o := 3) (a := (ls zO a_p0.zones)) Tryz.isAgg23 p.1 rfl rfl rfl) ⟨fun _ => rfl, rfl⟩
 ·exact fun e s p => zt (zN (k := 0) (o := 3) (a := (ls zO a_p0.zones)) Tryz.isAgg23 p.1 rfl rfl rfl) ⟨fun _ => rfl, rfl⟩
 ·
  intro e8 hs8 hp8
  refine zID (T := 51) (sz := 10) (rows := List.map zO x2) (la := [(ls zO a_p0.zones)]) (la' := [(ls zO a_p0.zones)]) (S := []) Tryz.func106 rfl (by kernel_rfl) (.fn 106) (zAF hp8.1 rfl) ⟨zAt.nr rfl, trivial⟩ (zFa hx2) (.inl rfl) ?_
  exact zF ⟨fun _ => rfl, rfl⟩
 ·exact fun e s p => zt (zM (k := 0) (o := 0) (off := 4) Tryz.underlying26 rfl rfl Tryz.sizeOf24 (s 1 rfl)) ⟨fun _ => rfl, rfl⟩
 ·exact fun e s p => zt (zM (k := 0) (o := 0) (off := 4) Tryz.underlying26 rfl rfl Tryz.sizeOf24 (s 1 rfl)) ⟨fun _ => rfl, rfl⟩
 ·exact fun e s p => zt (zM (k := 0) (o := 0) (off := 4) Tryz.underlying26 rfl rfl Tryz.sizeOf24 (s 1 rfl)) ⟨fun _ => rfl, rfl⟩
 ·exact fun e s p => zt (zN (k := 0) (o := 4) (a := (ls zG a_p0.caches)) Tryz.isAgg24 p.1 rfl rfl rfl) ⟨fun _ => rfl, rfl⟩
 ·exact fun e s p => zt (zN (k := 0) (o := 4) (a := (ls zG a_p0.caches)) Tryz.isAgg24 p.1 rfl rfl rfl) ⟨fun _ => rfl, rfl⟩
 ·exact fun e s p => zt (zN (k := 0) (o := 4) (a := (ls zG a_p0.caches)) Tryz.isAgg24 p.1 rfl rfl rfl) ⟨fun _ => rfl, rfl⟩
 ·
  intro e15 hs15 hp15
  refine zID (T := 55) (sz := 1) (rows := List.map zG x3) (la := [(ls zG a_p0.caches)]) (la' := [(ls zG a_p0.caches)]) (S := []) Tryz.func107 rfl (by kernel_rfl) (.fn 107) (zAF hp15.1 rfl) ⟨zAt.nr rfl, trivial⟩ (zD1 hx3) (.inl rfl) ?_
  exact zF ⟨fun _ => rfl, rfl⟩
 ·exact fun e s p => zt (zM (k := 0) (o := 0) (off := 0) Tryz.underlying26 rfl rfl Tryz.sizeOf22 (s 1 rfl)) ⟨fun _ => rfl, rfl⟩
 ·exact fun e s p => zt (zM (k := 0) (o := 0) (off := 0) Tryz.underlying26 rfl rfl Tryz.sizeOf22 (s 1 rfl)) ⟨fun _ => rfl, rfl⟩
 ·exact fun e s p => zt (zM (k := 0) (o := 0) (off := 0) Tryz.underlying26 rfl rfl Tryz.sizeOf22 (s 1 rfl)) ⟨fun _ => rfl, rfl⟩
 ·
  intro e19 hs19 hp19
  refine zx (H' := [.box 26 ([AV.hd 2] ++ ([(li a_p0.batch)] ++ ([(li a_p0.high)] ++ ([(ls zO a_p0.zones)] ++ ([(ls zG a_p0.caches)] ++ []))))), .box 26 ([(ls cI ([] : List Int))] ++ ([(li 0)] ++ ([(li 0)] ++ ([(ls zO ([] : List zm))] ++ ([(ls zG ([] : List zK))] ++ []))))), .vec 3 1 (List.map cI x1), .vec 51 10 (List.map zO x2), .vec 55 1 (List.map zG x3)]) (zFR (k := 0) (o := 0) (cs := (zJ a_p0)) (a := (AV.hd 2)) Tryz.sizeOf22 (by exact hp19.1) rfl rfl (by exact hp19.2.2.2.2.2.1) rfl) ?_
  exact zF ⟨fun _ => rfl, rfl⟩
 ·exact fun e s p => zt (zM (k := 0) (o := 0) (off := 3) Tryz.underlying26 rfl rfl Tryz.sizeOf23 (s 1 rfl)) ⟨fun _ => rfl, rfl⟩
 ·
  intro e21 hs21 hp21
  refine zx (H' := [.box 26 ([AV.hd 2] ++ ([(li a_p0.batch)] ++ ([(li a_p0.high)] ++ ([AV.hd 3] ++ ([(ls zG a_p0.caches)] ++ []))))), .box 26 ([(ls cI ([] : List Int))] ++ ([(li 0)] ++ ([(li 0)] ++ ([(ls zO ([] : List zm))] ++ ([(ls zG ([] : List zK))] ++ []))))), .vec 3 1 (List.map cI x1), .vec 51 10 (List.map zO x2), .vec 55 1 (List.map zG x3)]) (zFR (k := 0) (o := 3) (cs := ([AV.hd 2] ++ ([(li a_p0.batch)] ++ ([(li a_p0.high)] ++ ([(ls zO a_p0.zones)] ++ ([(ls zG a_p0.caches)] ++ [])))))) (a := (AV.hd 3)) Tryz.sizeOf23 (by exact hp21.1) rfl rfl (by exact hp21.2.2.2.2.2.2.2.2.1) rfl) ?_
  exact zF ⟨fun _ => rfl, rfl⟩
 ·exact fun e s p => zt (zM (k := 0) (o := 0) (off := 4) Tryz.underlying26 rfl rfl Tryz.sizeOf24 (s 1 rfl)) ⟨fun _ => rfl, rfl⟩
 ·
  intro e23 hs23 hp23
  refine zx (H' := [.box 26 ([AV.hd 2] ++ ([(li a_p0.batch)] ++ ([(li a_p0.high)] ++ ([AV.hd 3] ++ ([AV.hd 4] ++ []))))), .box 26 ([(ls cI ([] : List Int))] ++ ([(li 0)] ++ ([(li 0)] ++ ([(ls zO ([] : List zm))] ++ ([(ls zG ([] : List zK))] ++ []))))), .vec 3 1 (List.map cI x1), .vec 51 10 (List.map zO x2), .vec 55 1 (List.map zG x3)]) (zFR (k := 0) (o := 4) (cs := ([AV.hd 2] ++ ([(li a_p0.batch)] ++ ([(li a_p0.high)] ++ ([AV.hd 3] ++ ([(ls zG a_p0.caches)] ++ [])))))) (a := (AV.hd 4)) Tryz.sizeOf24 (by exact hp23.1) rfl rfl (by exact hp23.2.2.2.2.2.2.2.2.2.2.2.1) rfl) ?_
  exact zF ⟨fun _ => rfl, rfl⟩
 intro e24 hs24 hq1
 refine zY (zBV (l := [(1, (AV.ptr 0 0)), (2, (AV.ptr 1 0))]) ⟨(hs24 1 rfl), (hs24 2 rfl), trivial⟩) ?_
 refine z5 (fun e' H' => ∃ (l1 : List zm), Rep 82 0 e' H' (mkE [(1, (AV.ptr 0 0)), (2, (AV.ptr 1 0))]) [.box 26 ([AV.osl 3 1 (List.map cI x1)] ++ ([(li a_p0.batch)] ++ ([(li a_p0.high)] ++ ([AV.osl 51 10 (List.map zO l1)] ++ ([AV.osl 55 1 (List.map zG x3)] ++ []))))), .box 26 ([(ls cI ([] : List Int))] ++ ([(li 0)] ++ ([(li 0)] ++ ([(ls zO ([] : List zm))] ++ ([(ls zG ([] : List zK))] ++ [])))))] ∧ zF4 a_p0 x1 x3 l1 = some r) ?_ ?_
 ·
  refine zI <| zC <| zA (zM Tryz.underlying26 rfl rfl Tryz.sizeOf23 rfl) <| zA (zN Tryz.isAgg23 rfl rfl rfl rfl) <| zA (zEn (f := zO) (l := x2) Tryz.underlying23 rfl rfl) <| zA (zB rfl) ?_
  refine zF <| zS <| z9 (σ := Nat × Int × (List zm)) (fun s => s.1) (fun s e' H' => match s with | (n2, i3, l7) => Rep 82 0 e' H' (mkE [(1, (AV.ptr 0 0)), (2, (AV.ptr 1 0)), (22, (li (x2.length : Int))), (23, (li i3))]) [.box 26 ([AV.osl 3 1 (List.map cI x1)] ++ ([(li a_p0.batch)] ++ ([(li a_p0.high)] ++ ([AV.osl 51 10 (List.map zO l7)] ++ ([AV.osl 55 1 (List.map zG x3)] ++ []))))), .box 26 ([(ls cI ([] : List Int))] ++ ([(li 0)] ++ ([(li 0)] ++ ([(ls zO ([] : List zm))] ++ ([(ls zG ([] : List zK))] ++ [])))))] ∧ zBS a_p0 x1 x2 x3 n2 i3 l7 = some r) (zAC, 0, x2) ⟨Rep.trans (zAP (k := 0) (j := 2) (o := 0) rfl rfl rfl rfl) (Rep.trans (zAP (k := 0) (j := 3) (o := 3) rfl rfl rfl rfl) (Rep.trans (zAP (k := 0) (j := 4) (o := 4) rfl rfl rfl rfl) (zAE [0, 1] (l := [(1, (AV.ptr 0 0)), (2, (AV.ptr 1 0)), (22, (li (x2.length : Int))), (23, (li 0))]) rfl rfl (by kernel_rfl)))), h⟩ ?_
  clear h
  rintro ⟨n2, i3, l7⟩ e' H' ⟨hrep, h⟩
  cases n2 with
  | zero => exact absurd (show (none : Option _) = some r from h) (by simp)
  | succ n2 =>
   replace h : zFn a_p0 x1 x2 x3 (zBS a_p0 x1 x2 x3 n2) i3 l7 = some r := h
   unfold zFn at h
   refine zY hrep ?_
   clear hrep
   refine zI <| zC <| zA (zf rfl rfl) <| zF <| zI ?_
   refine zQ (decide (i3 < (x2.length : Int))) rfl (fun hb8 => ?_) (fun hb8 => ?_)
   ·replace h := zo hb8 h
    refine zR ?_
    refine z5 (fun e' H' => ∃ (l8 : List zm), Rep 82 0 e' H' (mkE [(1, (AV.ptr 0 0)), (2, (AV.ptr 1 0)), (22, (li (x2.length : Int))), (23, (li i3))]) [.box 26 ([AV.osl 3 1 (List.map cI x1)] ++ ([(li a_p0.batch)] ++ ([(li a_p0.high)] ++ ([AV.osl 51 10 (List.map zO l8)] ++ ([AV.osl 55 1 (List.map zG x3)] ++ []))))), .box 26 ([(ls cI ([] : List Int))] ++ ([(li 0)] ++ ([(li 0)] ++ ([(ls zO ([] : List zm))] ++ ([(ls zG ([] : List zK))] ++ [])))))] ∧ zFr (zBS a_p0 x1 x2 x3 n2) i3 l8 = some r) ?_ ?_
    ·
     refine zS <| zI <| zC <| zA (zB rfl) <| zA (zD rfl) <| zF ?_
     refine zI <| zC <| zA (zB rfl) <| zF <| zS <| z9 (σ := Nat × Int × (List zm)) (fun s => s.1) (fun s e' H' => match s with | (n3, i4, l9) => Rep 82 0 e' H' (mkE [(1, (AV.ptr 0 0)), (2, (AV.ptr 1 0)), (3, (li i3)), (22, (li (x2.length : Int))), (23, (li i3)), (26, (li i4))]) [.box 26 ([AV.osl 3 1 (List.map cI x1)] ++ ([(li a_p0.batch)] ++ ([(li a_p0.high)] ++ ([AV.osl 51 10 (List.map zO l9)] ++ ([AV.osl 55 1 (List.map zG x3)] ++ []))))), .box 26 ([(ls cI ([] : List Int))] ++ ([(li 0)] ++ ([(li 0)] ++ ([(ls zO ([] : List zm))] ++ ([(ls zG ([] : List zK))] ++ [])))))] ∧ zEN (zBS a_p0 x1 x2 x3 n2) i3 n3 i4 l9 = some r) (zAC, 0, l7) ⟨zAE [0, 1] rfl rfl (by kernel_rfl), h⟩ ?_
     clear h
     rintro ⟨n3, i4, l9⟩ e' H' ⟨hrep, h⟩
     cases n3 with
     | zero => exact absurd (show (none : Option _) = some r from h) (by simp)
     | succ n3 =>
      replace h : zFl (zBS a_p0 x1 x2 x3 n2) i3 (zEN (zBS a_p0 x1 x2 x3 n2) i3 n3) i4 l9 = some r := h
      unfold zFl at h
      refine zY hrep ?_
      clear hrep
      refine zI <| zC <| zA (zf rfl rfl) <| zF <| zI ?_
      refine zQ (decide (i4 < 5)) rfl (fun hb10 => ?_) (fun hb10 => ?_)
      ·replace h := zo hb10 h
       refine zR <| zI <| zS <| zI <| zC <| zA (zB rfl) ?_
       refine zA (zD rfl) <| zF <| zY (zB0 (k := 0) (o := 3) (t' := 51) (sz := 10) (rows := List.map zO l9) rfl rfl) ?_
       have hb11 := (zH h).1
       replace h := (zH h).2
       have hb12 := (zH h).1
       replace h := (zH h).2
       refine zP h ?_; clear h; intro x6 hx6 h
       show AW _ _ _ _ _ _ [.box 26 ([AV.osl 3 1 (List.map cI x1)] ++ ([(li a_p0.batch)] ++ ([(li a_p0.high)] ++ ([AV.hd 2] ++ ([AV.osl 55 1 (List.map zG x3)] ++ []))))), .box 26 ([(ls cI ([] : List Int))] ++ ([(li 0)] ++ ([(li 0)] ++ ([(ls zO ([] : List zm))] ++ ([(ls zG ([] : List zK))] ++ []))))), .vec 51 10 (List.map zO l9)]
       refine zAz (n := 82) (m := 0) [.head 0 0, .head 0 0, .head 0 0, .head 0 0, .head 0 0, .head 0 0, .head 0 0, .head 0 0, .head 0 0, .head 0 0, .head 0 0, .head 0 0, .head 0 0, .head 0 0, .head 0 0, .head 0 0, .tail 0] [16] [(AV.ptr 0 3), (AV.hd 2), (li i3), (li i4), (AV.ptr 0 3), (AV.hd 2), (li i3), (li i4), (AV.ptr 2 (i3.toNat * 10)), (AV.ptr 2 (i3.toNat * 10 + 5)), (AV.ptr 2 (i3.toNat * 10 + 5 + i4.toNat * 1)), (ls cI (((at_ l9 i3).free).getD i4.toNat ([] : List Int))), (ls cI x6), (AV.ptr 2 (i3.toNat * 10)), (AV.ptr 2 (i3.toNat * 10 + 5)), (AV.ptr 2 (i3.toNat * 10 + 5 + i4.toNat * 1)), .any] [[.box 26 ([AV.osl 3 1 (List.map cI x1)] ++ ([(li a_p0.batch)] ++ ([(li a_p0.high)] ++ ([AV.hd 2] ++ ([AV.osl 55 1 (List.map zG x3)] ++ []))))), .box 26 ([(ls cI ([] : List Int))] ++ ([(li 0)] ++ ([(li 0)] ++ ([(ls zO ([] : List zm))] ++ ([(ls zG ([] : List zK))] ++ []))))), .vec 51 10 (List.map zO l9)], [.box 26 ([AV.osl 3 1 (List.map cI x1)] ++ ([(li a_p0.batch)] ++ ([(li a_p0.high)] ++ ([AV.hd 2] ++ ([AV.osl 55 1 (List.map zG x3)] ++ []))))), .box 26 ([(ls cI ([] : List Int))] ++ ([(li 0)] ++ ([(li 0)] ++ ([(ls zO ([] : List zm))] ++ ([(ls zG ([] : List zK))] ++ []))))), .vec 51 10 (List.map zO (l9.set i3.toNat ({ at_ l9 i3 with free := zEO 5 ([] : List Int) ((at_ l9 i3).free) i4.toNat x6 })))]] (by kernel_rfl) (by kernel_rfl) ⟨?_, ?_, ?_, ?_, ?_, ?_, ?_, ?_, ?_, ?_, ?_, ?_, ?_, ?_, ?_, ?_, ?_, trivial⟩ ?_
       ·exact fun e s p => zt (zM (k := 0) (o := 0) (off := 3) Tryz.underlying26 rfl rfl Tryz.sizeOf23 (s 1 rfl)) ⟨fun _ => rfl, rfl⟩
       ·exact fun e s p => zt (zN (k := 0) (o := 3) (a := (AV.hd 2)) Tryz.isAgg23 p.1 rfl rfl rfl) ⟨fun _ => rfl, rfl⟩
       ·exact fun e s p => zt (zB (av := (li i3)) (s 3 rfl)) ⟨fun _ => rfl, rfl⟩
       ·exact fun e s p => zt (zB (av := (li i4)) (s 4 rfl)) ⟨fun _ => rfl, rfl⟩
       ·exact fun e s p => zt (zM (k := 0) (o := 0) (off := 3) Tryz.underlying26 rfl rfl Tryz.sizeOf23 (s 1 rfl)) ⟨fun _ => rfl, rfl⟩
       ·exact fun e s p => zt (zN (k := 0) (o := 3) (a := (AV.hd 2)) Tryz.isAgg23 p.1 rfl rfl rfl) ⟨fun _ => rfl, rfl⟩
       ·exact fun e s p => zt (zB (av := (li i3)) (s 3 rfl)) ⟨fun _ => rfl, rfl⟩
       ·exact fun e s p => zt (zB (av := (li i4)) (s 4 rfl)) ⟨fun _ => rfl, rfl⟩
       ·exact fun e s p => zt (zAI (f := zO) (l := l9) (i := i3) Tryz.underlying23 Tryz.sizeOf51 p.1 rfl p.2.1 hb11) ⟨fun _ => rfl, rfl⟩
       ·exact fun e s p => zt (zM (k := 2) (o := (i3.toNat * 10)) (off := 5) Tryz.underlying51 rfl rfl Tryz.sizeOf49 p.1) ⟨fun _ => rfl, rfl⟩
       ·exact fun e s p => zt (zAL (m := 5) (s := 1) (i := i4) (k := 2) (o := (i3.toNat * 10 + 5)) Tryz.underlying49 Tryz.sizeOf22 p.1 p.2.1 hb12) ⟨fun _ => rfl, rfl⟩
       ·exact fun e s p => zt (zB4 (f := zO) (l := l9) (i := i3) (c := 5 + i4.toNat) (a := (ls cI (((at_ l9 i3).free).getD i4.toNat ([] : List Int)))) Tryz.isAgg22 p.1 rfl (by first | rfl | omega) hb11 (zPa (n := 5) (g := (eS cI)) (d := ([] : List Int)) (l := (at_ l9 i3).free) (i := i4.toNat) (zBW hb12).2 ([(li ((at_ l9 i3).node))] ++ [(li ((at_ l9 i3).kind))] ++ [(li ((at_ l9 i3).start))] ++ [(li ((at_ l9 i3).count))] ++ [(li ((at_ l9 i3).min))] ++ []) ([])) rfl) ⟨fun _ => rfl, rfl⟩
       ·
        intro e37 hs37 hp36
        refine zA3 (r' := (ls cI x6)) (la := [(ls cI (((at_ l9 i3).free).getD i4.toNat ([] : List Int)))]) (la' := [(ls cI (((at_ l9 i3).free).getD i4.toNat ([] : List Int)))]) (r := (AV.osl 3 1 (List.map cI x6))) (S := []) Tryz.func80 rfl (by kernel_rfl) (.fn 80) (zAF hp36.1 rfl) ⟨zAt.nr rfl, trivial⟩ (zAM hx6) (.inl rfl) (congrArg (AV.sl false) (zAa (fun _ => rfl))) ?_
        exact zF ⟨fun _ => rfl, rfl⟩
       ·exact fun e s p => zt (zAI (f := zO) (l := l9) (i := i3) Tryz.underlying23 Tryz.sizeOf51 p.1 rfl p.2.1 hb11) ⟨fun _ => rfl, rfl⟩
       ·exact fun e s p => zt (zM (k := 2) (o := (i3.toNat * 10)) (off := 5) Tryz.underlying51 rfl rfl Tryz.sizeOf49 p.1) ⟨fun _ => rfl, rfl⟩
       ·exact fun e s p => zt (zAL (m := 5) (s := 1) (i := i4) (k := 2) (o := (i3.toNat * 10 + 5)) Tryz.underlying49 Tryz.sizeOf22 p.1 p.2.2.2.2.2.1 hb12) ⟨fun _ => rfl, rfl⟩
       ·
        intro e41 hs41 hp40
        refine zx (H' := [.box 26 ([AV.osl 3 1 (List.map cI x1)] ++ ([(li a_p0.batch)] ++ ([(li a_p0.high)] ++ ([AV.hd 2] ++ ([AV.osl 55 1 (List.map zG x3)] ++ []))))), .box 26 ([(ls cI ([] : List Int))] ++ ([(li 0)] ++ ([(li 0)] ++ ([(ls zO ([] : List zm))] ++ ([(ls zG ([] : List zK))] ++ []))))), .vec 51 10 (List.map zO (l9.set i3.toNat ({ at_ l9 i3 with free := zEO 5 ([] : List Int) ((at_ l9 i3).free) i4.toNat x6 })))]) (zDk (k := 2) (o := (i3.toNat * 10 + 5 + i4.toNat * 1)) (f := zO) (l := l9) (i := i3) (c := 5 + i4.toNat) (a := (ls cI x6)) (z := { at_ l9 i3 with free := zEO 5 ([] : List Int) ((at_ l9 i3).free) i4.toNat x6 }) Tryz.sizeOf22 (by exact hp40.1) rfl (by first | rfl | omega) hb11 (zRu hb12 rfl) (by exact hp40.2.2.2.2.2.2.2.2.2.2.2.2.2.2.2.1) rfl rfl (zQy (n := 5) (g := (eS cI)) (d := ([] : List Int)) (l := (at_ l9 i3).free) (i := i4.toNat) (x := x6) (zBW hb12).2 ([(li ((at_ l9 i3).node))] ++ [(li ((at_ l9 i3).kind))] ++ [(li ((at_ l9 i3).start))] ++ [(li ((at_ l9 i3).count))] ++ [(li ((at_ l9 i3).min))] ++ []) ([]))) ?_
        exact zF ⟨fun _ => rfl, rfl⟩
       intro e42 hs42 hq2
       refine zY (zBV (l := [(1, (AV.ptr 0 0)), (2, (AV.ptr 1 0)), (3, (li i3)), (22, (li (x2.length : Int))), (23, (li i3)), (26, (li i4))]) ⟨(hs42 1 rfl), (hs42 2 rfl), (hs42 3 rfl), (hs42 22 rfl), (hs42 23 rfl), (hs42 26 rfl), trivial⟩) <| zC ?_
       have hb13 := (zH h).1
       replace h := (zH h).2
       refine zA (ze rfl rfl hb13) <| zA (zB rfl) <| zF ?_
       exact ⟨(n3, (i4 + 1), (l9.set i3.toNat ({ at_ l9 i3 with free := zEO 5 ([] : List Int) ((at_ l9 i3).free) i4.toNat x6 }))), Nat.lt_succ_self _, Rep.trans (zAP (k := 0) (j := 2) (o := 3) rfl rfl rfl rfl) (zAE [0, 1] (l := [(1, (AV.ptr 0 0)), (2, (AV.ptr 1 0)), (3, (li i3)), (22, (li (x2.length : Int))), (23, (li i3)), (26, (li (i4 + 1)))]) rfl rfl (by kernel_rfl)), h⟩
      ·replace h := zv hb10 h
       refine z8 ?_
       exact ⟨l9, zAE [0, 1] rfl rfl (by kernel_rfl), h⟩
    ·
     clear h
     rintro e' H' ⟨l8, hrep, h⟩
     refine zY hrep ?_
     clear hrep
     unfold zFr at h
     refine zC ?_
     have hb9 := (zH h).1
     replace h := (zH h).2
     refine zA (ze rfl rfl hb9) <| zA (zB rfl) <| zF ?_
     exact ⟨(n2, (i3 + 1), l8), Nat.lt_succ_self _, zAE [0, 1] rfl rfl (by kernel_rfl), h⟩
   ·replace h := zv hb8 h
    refine z8 ?_
    exact ⟨l7, zAE [0, 1] rfl rfl (by kernel_rfl), h⟩
 ·
  clear h
  rintro e' H' ⟨l1, hrep, h⟩
  refine zY hrep ?_
  clear hrep
  unfold zF4 at h
  refine z5 (fun e' H' => ∃ (l2 : List zK), Rep 82 0 e' H' (mkE [(1, (AV.ptr 0 0)), (2, (AV.ptr 1 0))]) [.box 26 ([AV.osl 3 1 (List.map cI x1)] ++ ([(li a_p0.batch)] ++ ([(li a_p0.high)] ++ ([AV.osl 51 10 (List.map zO l1)] ++ ([AV.osl 55 1 (List.map zG l2)] ++ []))))), .box 26 ([(ls cI ([] : List Int))] ++ ([(li 0)] ++ ([(li 0)] ++ ([(ls zO ([] : List zm))] ++ ([(ls zG ([] : List zK))] ++ [])))))] ∧ zF1 a_p0 x1 l1 l2 = some r) ?_ ?_
  ·
   refine zI <| zC <| zA (zM Tryz.underlying26 rfl rfl Tryz.sizeOf24 rfl) <| zAe (zB0 (k := 0) (o := 4) (t' := 55) (sz := 1) (rows := List.map zG x3) rfl rfl) <| zA (zN Tryz.isAgg24 rfl rfl rfl rfl) <| zA (zEn (f := zG) (l := x3) Tryz.underlying24 rfl rfl) ?_
   refine zA (zB rfl) <| zF <| zS <| z9 (σ := Nat × Int × (List zK)) (fun s => s.1) (fun s e' H' => match s with | (n0, i1, l3) => Rep 82 0 e' H' (mkE [(1, (AV.ptr 0 0)), (2, (AV.ptr 1 0)), (49, (li (x3.length : Int))), (50, (li i1))]) [.box 26 ([AV.osl 3 1 (List.map cI x1)] ++ ([(li a_p0.batch)] ++ ([(li a_p0.high)] ++ ([AV.osl 51 10 (List.map zO l1)] ++ ([AV.osl 55 1 (List.map zG l3)] ++ []))))), .box 26 ([(ls cI ([] : List Int))] ++ ([(li 0)] ++ ([(li 0)] ++ ([(ls zO ([] : List zm))] ++ ([(ls zG ([] : List zK))] ++ [])))))] ∧ zBD a_p0 x1 x3 l1 n0 i1 l3 = some r) (zAC, 0, x3) ⟨Rep.trans (zAP (k := 0) (j := 2) (o := 4) rfl rfl rfl rfl) (zAE [0, 1] (l := [(1, (AV.ptr 0 0)), (2, (AV.ptr 1 0)), (49, (li (x3.length : Int))), (50, (li 0))]) rfl rfl (by kernel_rfl)), h⟩ ?_
   clear h
   rintro ⟨n0, i1, l3⟩ e' H' ⟨hrep, h⟩
   cases n0 with
   | zero => exact absurd (show (none : Option _) = some r from h) (by simp)
   | succ n0 =>
    replace h : zFw a_p0 x1 x3 l1 (zBD a_p0 x1 x3 l1 n0) i1 l3 = some r := h
    unfold zFw at h
    refine zY hrep ?_
    clear hrep
    refine zI <| zC <| zA (zf rfl rfl) <| zF <| zI ?_
    refine zQ (decide (i1 < (x3.length : Int))) rfl (fun hb1 => ?_) (fun hb1 => ?_)
    ·replace h := zo hb1 h
     refine zR ?_
     refine z5 (fun e' H' => ∃ (l4 : List zK), Rep 82 0 e' H' (mkE [(1, (AV.ptr 0 0)), (2, (AV.ptr 1 0)), (49, (li (x3.length : Int))), (50, (li i1))]) [.box 26 ([AV.osl 3 1 (List.map cI x1)] ++ ([(li a_p0.batch)] ++ ([(li a_p0.high)] ++ ([AV.osl 51 10 (List.map zO l1)] ++ ([AV.osl 55 1 (List.map zG l4)] ++ []))))), .box 26 ([(ls cI ([] : List Int))] ++ ([(li 0)] ++ ([(li 0)] ++ ([(ls zO ([] : List zm))] ++ ([(ls zG ([] : List zK))] ++ [])))))] ∧ zFz (zBD a_p0 x1 x3 l1 n0) i1 l4 = some r) ?_ ?_
     ·
      refine zS <| zI <| zC <| zA (zB rfl) <| zA (zD rfl) <| zF ?_
      refine zI <| zC <| zA (zM Tryz.underlying26 rfl rfl Tryz.sizeOf24 rfl) <| zAe (zB0 (k := 0) (o := 4) (t' := 55) (sz := 1) (rows := List.map zG l3) rfl rfl) <| zA (zN Tryz.isAgg24 rfl rfl rfl rfl) <| zA (zB rfl) ?_
      have hb3 := (zH h).1
      replace h := (zH h).2
      refine zA (zAI (f := zG) (l := l3) (i := i1) Tryz.underlying24 Tryz.sizeOf55 rfl rfl rfl hb3) <| zA (zM Tryz.underlying55 rfl rfl Tryz.sizeOf53 rfl) <| zA (zB4 (f := zG) (l := l3) (i := i1) (c := 0) (a := (ls (cS cI) ((at_ l3 i1).lists))) Tryz.isAgg53 rfl rfl (by first | rfl | omega) hb3 rfl rfl) ?_
      refine zP h ?_; clear h; intro x4 hx4 h
      refine zID (T := 22) (sz := 1) (rows := List.map (cS cI) x4) (la := [(ls (cS cI) ((at_ l3 i1).lists))]) (la' := [(ls (cS cI) ((at_ l3 i1).lists))]) (S := []) Tryz.func108 rfl (by kernel_rfl) (.fn 108) rfl ⟨zAt.nr rfl, trivial⟩ (zH0 hx4) (.inl rfl) <| zA (zD rfl) <| zF ?_
      refine z5 (fun e' H' => ∃ (l5 : List (List Int)), Rep 82 0 e' H' (mkE [(1, (AV.ptr 0 0)), (2, (AV.ptr 1 0)), (5, (li i1)), (6, (AV.hd 2)), (49, (li (x3.length : Int))), (50, (li i1))]) [.box 26 ([AV.osl 3 1 (List.map cI x1)] ++ ([(li a_p0.batch)] ++ ([(li a_p0.high)] ++ ([AV.osl 51 10 (List.map zO l1)] ++ ([AV.osl 55 1 (List.map zG l3)] ++ []))))), .box 26 ([(ls cI ([] : List Int))] ++ ([(li 0)] ++ ([(li 0)] ++ ([(ls zO ([] : List zm))] ++ ([(ls zG ([] : List zK))] ++ []))))), .vec 22 1 (List.map (cS cI) l5)] ∧ zFs (zBD a_p0 x1 x3 l1 n0) i1 l3 l5 = some r) ?_ ?_
      ·
       refine zI <| zC <| zA (zB rfl) <| zA (zEn (f := (cS cI)) (l := x4) Tryz.underlying53 rfl rfl) <| zA (zB rfl) <| zF ?_
       refine zS <| z9 (σ := Nat × Int × (List (List Int))) (fun s => s.1) (fun s e' H' => match s with | (n1, i2, l6) => Rep 82 0 e' H' (mkE [(1, (AV.ptr 0 0)), (2, (AV.ptr 1 0)), (5, (li i1)), (6, (AV.hd 2)), (49, (li (x3.length : Int))), (50, (li i1)), (61, (li (x4.length : Int))), (62, (li i2))]) [.box 26 ([AV.osl 3 1 (List.map cI x1)] ++ ([(li a_p0.batch)] ++ ([(li a_p0.high)] ++ ([AV.osl 51 10 (List.map zO l1)] ++ ([AV.osl 55 1 (List.map zG l3)] ++ []))))), .box 26 ([(ls cI ([] : List Int))] ++ ([(li 0)] ++ ([(li 0)] ++ ([(ls zO ([] : List zm))] ++ ([(ls zG ([] : List zK))] ++ []))))), .vec 22 1 (List.map (cS cI) l6)] ∧ zEE (zBD a_p0 x1 x3 l1 n0) i1 l3 x4 n1 i2 l6 = some r) (zAC, 0, x4) ⟨Rep.trans (zAP (k := 0) (j := 2) (o := 4) rfl rfl rfl rfl) (zAE [0, 1, 3] (l := [(1, (AV.ptr 0 0)), (2, (AV.ptr 1 0)), (5, (li i1)), (6, (AV.hd 2)), (49, (li (x3.length : Int))), (50, (li i1)), (61, (li (x4.length : Int))), (62, (li 0))]) rfl rfl (by kernel_rfl)), h⟩ ?_
       clear h
       rintro ⟨n1, i2, l6⟩ e' H' ⟨hrep, h⟩
       cases n1 with
       | zero => exact absurd (show (none : Option _) = some r from h) (by simp)
       | succ n1 =>
        replace h : zFu (zBD a_p0 x1 x3 l1 n0) i1 l3 x4 (zEE (zBD a_p0 x1 x3 l1 n0) i1 l3 x4 n1) i2 l6 = some r := h
        unfold zFu at h
        refine zY hrep ?_
        clear hrep
        refine zI <| zC <| zA (zf rfl rfl) <| zF <| zI ?_
        refine zQ (decide (i2 < (x4.length : Int))) rfl (fun hb5 => ?_) (fun hb5 => ?_)
        ·replace h := zo hb5 h
         refine zR <| zI <| zS <| zI <| zC <| zA (zB rfl) ?_
         refine zA (zD rfl) <| zF <| zC <| zA (zB rfl) <| zA (zB rfl) <| zA (zB rfl) ?_
         refine zA (zB rfl) ?_
         have hb6 := (zH h).1
         replace h := (zH h).2
         refine zA (zAI (f := (cS cI)) (l := l6) (i := i2) Tryz.underlying53 Tryz.sizeOf22 rfl rfl rfl hb6) <| zA (zB4 (f := (cS cI)) (l := l6) (i := i2) (c := 0) (a := (ls cI (at_ l6 i2))) Tryz.isAgg22 rfl rfl (by first | rfl | omega) hb6 rfl rfl) ?_
         refine zP h ?_; clear h; intro x5 hx5 h
         refine zID (T := 3) (sz := 1) (rows := List.map cI x5) (la := [(ls cI (at_ l6 i2))]) (la' := [(ls cI (at_ l6 i2))]) (S := []) Tryz.func80 rfl (by kernel_rfl) (.fn 80) rfl ⟨zAt.nr rfl, trivial⟩ (zAM hx5) (.inl rfl) <| zA (zAI (f := (cS cI)) (l := l6) (i := i2) Tryz.underlying53 Tryz.sizeOf22 rfl rfl rfl hb6) <| zx (H' := [.box 26 ([AV.osl 3 1 (List.map cI x1)] ++ ([(li a_p0.batch)] ++ ([(li a_p0.high)] ++ ([AV.osl 51 10 (List.map zO l1)] ++ ([AV.osl 55 1 (List.map zG l3)] ++ []))))), .box 26 ([(ls cI ([] : List Int))] ++ ([(li 0)] ++ ([(li 0)] ++ ([(ls zO ([] : List zm))] ++ ([(ls zG ([] : List zK))] ++ []))))), .vopen 22 1 (List.map (cS cI) l6) i2.toNat [.hd 3], .vec 3 1 (List.map cI x5)]) (zLB (k := 2) (j := 3) (i := i2.toNat) Tryz.sizeOf22 rfl rfl rfl (by rw [List.length_map]; exact (zBW hb6).2) rfl rfl) <| zF <| zC ?_
         have hb7 := (zH h).1
         replace h := (zH h).2
         refine zA (ze rfl rfl hb7) <| zA (zB rfl) <| zF ?_
         exact ⟨(n1, (i2 + 1), (l6.set i2.toNat x5)), Nat.lt_succ_self _, Rep.trans (zLO (k := 2) (j := 3) (f := cI) (l := l6) (l' := x5) (fun _ => rfl) rfl rfl rfl) (zAE [0, 1, 2] (l := [(1, (AV.ptr 0 0)), (2, (AV.ptr 1 0)), (5, (li i1)), (6, (AV.hd 2)), (49, (li (x3.length : Int))), (50, (li i1)), (61, (li (x4.length : Int))), (62, (li (i2 + 1)))]) rfl rfl (by kernel_rfl)), h⟩
        ·replace h := zv hb5 h
         refine z8 ?_
         exact ⟨l6, zAE [0, 1, 2] rfl rfl (by kernel_rfl), h⟩
      ·
       clear h
       rintro e' H' ⟨l5, hrep, h⟩
       refine zY hrep ?_
       clear hrep
       unfold zFs at h
       refine zC <| zA (zM Tryz.underlying26 rfl rfl Tryz.sizeOf24 rfl) <| zAe (zB0 (k := 0) (o := 4) (t' := 55) (sz := 1) (rows := List.map zG l3) rfl rfl) <| zA (zN Tryz.isAgg24 rfl rfl rfl rfl) <| zA (zB rfl) <| zA (zB rfl) ?_
       have hb4 := (zH h).1
       replace h := (zH h).2
       refine zA (zAI (f := zG) (l := l3) (i := i1) Tryz.underlying24 Tryz.sizeOf55 rfl rfl rfl hb4) <| zA (zM Tryz.underlying55 rfl rfl Tryz.sizeOf53 rfl) <| zAe (zFJ (j := 2) (ds := [6, 77]) (rows' := List.map (cS cI) l5) rfl (zAa (fun _ => rfl)) ⟨rfl, rfl, trivial⟩) <| zx (H' := [.box 26 ([AV.osl 3 1 (List.map cI x1)] ++ ([(li a_p0.batch)] ++ ([(li a_p0.high)] ++ ([AV.osl 51 10 (List.map zO l1)] ++ ([AV.hd 3] ++ []))))), .box 26 ([(ls cI ([] : List Int))] ++ ([(li 0)] ++ ([(li 0)] ++ ([(ls zO ([] : List zm))] ++ ([(ls zG ([] : List zK))] ++ []))))), .dead, .vec 55 1 (List.map zG (l3.set i1.toNat ({ at_ l3 i1 with lists := l5 })))]) (zDk (k := 3) (o := (i1.toNat * 1)) (f := zG) (l := l3) (i := i1) (c := 0) (a := (ls (cS cI) l5)) (z := { at_ l3 i1 with lists := l5 }) Tryz.sizeOf53 rfl rfl (by first | rfl | omega) hb4 rfl rfl rfl rfl rfl) <| zF ?_
       exact ⟨(l3.set i1.toNat ({ at_ l3 i1 with lists := l5 })), Rep.trans (zAP (k := 0) (j := 3) (o := 4) rfl rfl rfl rfl) (zAE [0, 1] (l := [(1, (AV.ptr 0 0)), (2, (AV.ptr 1 0)), (49, (li (x3.length : Int))), (50, (li i1))]) rfl rfl (by kernel_rfl)), h⟩
     ·
      clear h
      rintro e' H' ⟨l4, hrep, h⟩
      refine zY hrep ?_
      clear hrep
      unfold zFz at h
      refine zC ?_
      have hb2 := (zH h).1
      replace h := (zH h).2
      refine zA (ze rfl rfl hb2) <| zA (zB rfl) <| zF ?_
      exact ⟨(n0, (i1 + 1), l4), Nat.lt_succ_self _, zAE [0, 1] rfl rfl (by kernel_rfl), h⟩
    ·replace h := zv hb1 h
     refine z8 ?_
     exact ⟨l3, zAE [0, 1] rfl rfl (by kernel_rfl), h⟩
  ·
   clear h
   rintro e' H' ⟨l2, hrep, h⟩
   refine zY hrep ?_
   clear hrep
   unfold zF1 at h
   refine zI <| zC <| zAe (zCL (k := 0) (o := 0) (rows' := List.map cI x1) rfl rfl (zAa (fun _ => rfl))) <| zb (zLe (k := 0) (cs := ([(ls cI x1)] ++ ([(li a_p0.batch)] ++ ([(li a_p0.high)] ++ ([AV.osl 51 10 (List.map zO l1)] ++ ([AV.osl 55 1 (List.map zG l2)] ++ [])))))) (m := 5) Tryz.isAgg26 Tryz.sizeOf26 rfl rfl rfl) <| zx (H' := [.dead, .box 26 ([(ls cI x1)] ++ ([(li a_p0.batch)] ++ ([(li a_p0.high)] ++ ([AV.osl 51 10 (List.map zO l1)] ++ ([AV.osl 55 1 (List.map zG l2)] ++ []))))), .dead]) (zEk (k := 1) (o := 0) (j := 2) (cs := ([(ls cI ([] : List Int))] ++ ([(li 0)] ++ ([(li 0)] ++ ([(ls zO ([] : List zm))] ++ ([(ls zG ([] : List zK))] ++ [])))))) (la := ([(ls cI x1)] ++ ([(li a_p0.batch)] ++ ([(li a_p0.high)] ++ ([AV.osl 51 10 (List.map zO l1)] ++ ([AV.osl 55 1 (List.map zG l2)] ++ [])))))) Tryz.sizeOf26 rfl rfl rfl rfl rfl (by decide)) <| zF ?_
   refine za ?_
   show zAS _ _ _ _ _ _
   obtain rfl := Option.some.inj h
   exact zp (zHH Tryz.isAgg26 Tryz.sizeOf26 rfl rfl rfl rfl)
theorem zJd {a_z : zm} {r : zm} (h : zIU a_z = some r) : PFn Tryz.prog 118 [(AV.agg (zO a_z))] (AV.agg ([(li r.node)] ++ ([(li r.kind)] ++ ([(li r.start)] ++ ([(li r.count)] ++ ([(li r.min)] ++ ((cM 5 3 (5 : Int) r.free) ++ []))))))) := by
 refine zi Tryz.func118 rfl Tryz.ntmps118 Tryz.results118 rfl ?_
 unfold zIU at h
 refine zI <| zC <| zb (H' := [.box 51 (zO a_z)]) (zu (t := 51) rfl) <| zb (H' := [.box 51 (zO a_z), .box 51 ([(li 0)] ++ ([(li 0)] ++ ([(li 0)] ++ ([(li 0)] ++ ([(li 0)] ++ ((cA 5 (eS cI) ([] : List Int) (List.replicate 5 ([] : List Int))) ++ []))))))]) (z6 (t := 51) (vs := [.int .i64 0, .int .i64 0, .int .i64 0, .int .i64 0, .int .i64 0, .slice none 0 0, .slice none 0 0, .slice none 0 0, .slice none 0 0, .slice none 0 0]) (cs := [.lit (.int .i64 0), .lit (.int .i64 0), .lit (.int .i64 0), .lit (.int .i64 0), .lit (.int .i64 0), .sl false [], .sl false [], .sl false [], .sl false [], .sl false []]) Tryz.zeroValue51 (by kernel_rfl) rfl ⟨zq.refl _, zq.refl _, zq.refl _, zq.refl _, zq.refl _, zq.nils, zq.nils, zq.nils, zq.nils, zq.nils, trivial⟩) <| zF ?_
 refine z5 (fun e' H' => ∃ (l1 : List (List Int)) (i1 : Int), Rep 17 0 e' H' (mkE [(1, (AV.ptr 0 0)), (2, (AV.ptr 1 0))]) [.box 51 ([(li a_z.node)] ++ ([(li a_z.kind)] ++ ([(li a_z.start)] ++ ([(li a_z.count)] ++ ([(li a_z.min)] ++ ((cM 5 3 i1 l1) ++ [])))))), .box 51 ([(li 0)] ++ ([(li 0)] ++ ([(li 0)] ++ ([(li 0)] ++ ([(li 0)] ++ ((cA 5 (eS cI) ([] : List Int) (List.replicate 5 ([] : List Int))) ++ []))))))] ∧ zHs a_z l1 i1 = some r) ?_ ?_
 ·
  refine zI <| zC <| zA (zB rfl) <| zF <| zS <| z9 (σ := Nat × Int × (List (List Int))) (fun s => s.1) (fun s e' H' => match s with | (n0, i2, l2) => Rep 17 0 e' H' (mkE [(1, (AV.ptr 0 0)), (2, (AV.ptr 1 0)), (4, (li i2))]) [.box 51 ([(li a_z.node)] ++ ([(li a_z.kind)] ++ ([(li a_z.start)] ++ ([(li a_z.count)] ++ ([(li a_z.min)] ++ ((cM 5 3 i2 l2) ++ [])))))), .box 51 ([(li 0)] ++ ([(li 0)] ++ ([(li 0)] ++ ([(li 0)] ++ ([(li 0)] ++ ((cA 5 (eS cI) ([] : List Int) (List.replicate 5 ([] : List Int))) ++ []))))))] ∧ zGY a_z n0 i2 l2 = some r) (zAC, 0, a_z.free) ⟨zAE [0, 1] rfl rfl (by kernel_rfl), h⟩ ?_
  clear h
  rintro ⟨n0, i2, l2⟩ e' H' ⟨hrep, h⟩
  cases n0 with
  | zero => exact absurd (show (none : Option _) = some r from h) (by simp)
  | succ n0 =>
   replace h : zHw a_z (zGY a_z n0) i2 l2 = some r := h
   unfold zHw at h
   refine zY hrep ?_
   clear hrep
   refine zI <| zC <| zA (zf rfl rfl) <| zF <| zI ?_
   refine zQ (decide (i2 < 5)) rfl (fun hb2 => ?_) (fun hb2 => ?_)
   ·replace h := zo hb2 h
    refine zR <| zI <| zS <| zI <| zC <| zA (zB rfl) ?_
    refine zA (zD rfl) <| zF <| zC <| zA (zB rfl) <| zA (zB rfl) <| zA (zM Tryz.underlying51 rfl rfl Tryz.sizeOf49 rfl) ?_
    have hb3 := (zH h).1
    replace h := (zH h).2
    refine zA (zAL (m := 5) (s := 1) (i := i2) (k := 0) (o := 5) Tryz.underlying49 Tryz.sizeOf22 rfl rfl hb3) <| zA (zNX (k := 0) (o := (5 + i2.toNat * 1)) (cs := ([(li a_z.node)] ++ ([(li a_z.kind)] ++ ([(li a_z.start)] ++ ([(li a_z.count)] ++ ([(li a_z.min)] ++ ((cM 5 3 i2 l2) ++ []))))))) (hd := ([(li a_z.node)] ++ [(li a_z.kind)] ++ [(li a_z.start)] ++ [(li a_z.count)] ++ [(li a_z.min)] ++ [])) (tl := ([])) (N := 5) (T' := 3) (K := i2) (l := l2) (i := i2) Tryz.isAgg22 rfl rfl rfl (congrArg (fun q => 5 + q) (Nat.mul_one _)) hb3 (decide_eq_true (Int.le_refl _))) ?_
    refine zP h ?_; clear h; intro x1 hx1 h
    refine zID (T := 3) (sz := 1) (rows := List.map cI x1) (la := [(ls cI (l2.getD i2.toNat []))]) (la' := [(ls cI (l2.getD i2.toNat []))]) (S := []) Tryz.func80 rfl (by kernel_rfl) (.fn 80) rfl ⟨zAt.nr rfl, trivial⟩ (zAM hx1) (.inl rfl) <| zA (zM Tryz.underlying51 rfl rfl Tryz.sizeOf49 rfl) <| zA (zAL (m := 5) (s := 1) (i := i2) (k := 0) (o := 5) Tryz.underlying49 Tryz.sizeOf22 rfl rfl hb3) <| zx (H' := [.box 51 ([(li a_z.node)] ++ ([(li a_z.kind)] ++ ([(li a_z.start)] ++ ([(li a_z.count)] ++ ([(li a_z.min)] ++ ((List.set (cM 5 3 i2 l2) i2.toNat (AV.hd 2)) ++ [])))))), .box 51 ([(li 0)] ++ ([(li 0)] ++ ([(li 0)] ++ ([(li 0)] ++ ([(li 0)] ++ ((cA 5 (eS cI) ([] : List Int) (List.replicate 5 ([] : List Int))) ++ [])))))), .vec 3 1 (List.map cI x1)]) (zLN (k := 0) (o := (5 + i2.toNat * 1)) (cs := ([(li a_z.node)] ++ ([(li a_z.kind)] ++ ([(li a_z.start)] ++ ([(li a_z.count)] ++ ([(li a_z.min)] ++ ((cM 5 3 i2 l2) ++ []))))))) (hd := ([(li a_z.node)] ++ [(li a_z.kind)] ++ [(li a_z.start)] ++ [(li a_z.count)] ++ [(li a_z.min)] ++ [])) (tl := ([])) (s := (cM 5 3 i2 l2)) (i := i2) (a := (AV.hd 2)) Tryz.sizeOf22 rfl rfl rfl (congrArg (fun q => 5 + q) (Nat.mul_one _)) (zHj hb3) rfl rfl) <| zF <| zC ?_
    have hb4 := (zH h).1
    replace h := (zH h).2
    refine zA (ze rfl rfl hb4) <| zA (zB rfl) <| zF ?_
    exact ⟨(n0, (i2 + 1), (zEO 5 [] l2 i2.toNat x1)), Nat.lt_succ_self _, Rep.trans (zNq (K' := i2 + 1) (j := 2) (l' := x1) (k := 0) (cs := ([(li a_z.node)] ++ ([(li a_z.kind)] ++ ([(li a_z.start)] ++ ([(li a_z.count)] ++ ([(li a_z.min)] ++ ((List.set (cM 5 3 i2 l2) i2.toNat (AV.hd 2)) ++ []))))))) (hd := ([(li a_z.node)] ++ [(li a_z.kind)] ++ [(li a_z.start)] ++ [(li a_z.count)] ++ [(li a_z.min)] ++ [])) (tl := ([])) (N := 5) (T := 3) (K := i2) (l := l2) (i := i2) rfl rfl hb3 (decide_eq_true rfl) rfl rfl rfl) (zBd (n := 17) (m := 0) [0, 1] (l := [(1, (AV.ptr 0 0)), (2, (AV.ptr 1 0)), (4, (li (i2 + 1)))]) ⟨⟨Sub.refl _, by kernel_rfl⟩, ⟨Sub.refl _, by kernel_rfl⟩, ⟨Sub.refl _, by kernel_rfl⟩, trivial⟩ rfl rfl ⟨⟨rfl, zPp (hd := ([(li a_z.node)] ++ [(li a_z.kind)] ++ [(li a_z.start)] ++ [(li a_z.count)] ++ [(li a_z.min)] ++ [])) (tl := ([])) (N := 5) (T := 3) (K := i2 + 1) (l := zEO 5 [] l2 i2.toNat x1) (by kernel_rfl) (by kernel_rfl) rfl⟩, ⟨rfl, by kernel_rfl⟩, trivial⟩), h⟩
   ·replace h := zv hb2 h
    refine z8 ?_
    exact ⟨l2, i2, zBd (n := 17) (m := 0) [0, 1] (l := [(1, (AV.ptr 0 0)), (2, (AV.ptr 1 0))]) ⟨⟨Sub.refl _, by kernel_rfl⟩, ⟨Sub.refl _, by kernel_rfl⟩, trivial⟩ rfl rfl ⟨⟨rfl, zPp (hd := ([(li a_z.node)] ++ [(li a_z.kind)] ++ [(li a_z.start)] ++ [(li a_z.count)] ++ [(li a_z.min)] ++ [])) (tl := ([])) (N := 5) (T := 3) (K := i2) (l := l2) (by kernel_rfl) (by kernel_rfl) rfl⟩, ⟨rfl, by kernel_rfl⟩, trivial⟩, h⟩
 ·
  clear h
  rintro e' H' ⟨l1, i1, hrep, h⟩
  refine zY hrep ?_
  clear hrep
  unfold zHs at h
  refine zI <| zC ?_
  have hb1 := (zH h).1
  replace h := (zH h).2
  refine zAe (zO2 (k := 0) (cs := ([(li a_z.node)] ++ ([(li a_z.kind)] ++ ([(li a_z.start)] ++ ([(li a_z.count)] ++ ([(li a_z.min)] ++ ((cM 5 3 i1 l1) ++ []))))))) (hd := ([(li a_z.node)] ++ [(li a_z.kind)] ++ [(li a_z.start)] ++ [(li a_z.count)] ++ [(li a_z.min)] ++ [])) (tl := ([])) (N := 5) (T := 3) (K := i1) (l := l1) rfl rfl hb1) <| zb (zLe (k := 0) (cs := ([(li a_z.node)] ++ ([(li a_z.kind)] ++ ([(li a_z.start)] ++ ([(li a_z.count)] ++ ([(li a_z.min)] ++ ((cM 5 3 (5 : Int) l1) ++ []))))))) (m := 10) Tryz.isAgg51 Tryz.sizeOf51 rfl rfl rfl) <| zx (H' := [.dead, .box 51 ([(li a_z.node)] ++ ([(li a_z.kind)] ++ ([(li a_z.start)] ++ ([(li a_z.count)] ++ ([(li a_z.min)] ++ ((cM 5 3 (5 : Int) l1) ++ [])))))), .dead]) (zEk (k := 1) (o := 0) (j := 2) (cs := ([(li 0)] ++ ([(li 0)] ++ ([(li 0)] ++ ([(li 0)] ++ ([(li 0)] ++ ((cA 5 (eS cI) ([] : List Int) (List.replicate 5 ([] : List Int))) ++ []))))))) (la := ([(li a_z.node)] ++ ([(li a_z.kind)] ++ ([(li a_z.start)] ++ ([(li a_z.count)] ++ ([(li a_z.min)] ++ ((cM 5 3 (5 : Int) l1) ++ []))))))) Tryz.sizeOf51 rfl rfl rfl rfl rfl (by decide)) <| zF <| za ?_
  show zAS _ _ _ _ _ _
  obtain rfl := Option.some.inj h
  exact zp (zHH Tryz.isAgg51 Tryz.sizeOf51 rfl rfl rfl rfl)
theorem zJb {a_p0 : zm} {a_p1 : Int} {r : zm × Int × Int} (h : zIY a_p0 a_p1 = some r) : PFn Tryz.prog 64 [(AV.agg (zO a_p0)), (li a_p1)] (AV.tup [(AV.agg (zO r.1)), (li r.2.1), (li r.2.2)]) := by
 refine zi Tryz.func64 rfl Tryz.ntmps64 Tryz.results64 rfl ?_
 unfold zIY at h
 refine zI <| zC <| zb (H' := [.box 51 (zO a_p0)]) (zu (t := 51) rfl) <| zb (H' := [.box 51 (zO a_p0), .box 51 ([(li 0)] ++ ([(li 0)] ++ ([(li 0)] ++ ([(li 0)] ++ ([(li 0)] ++ ((cA 5 (eS cI) ([] : List Int) (List.replicate 5 ([] : List Int))) ++ []))))))]) (z6 (t := 51) (vs := [.int .i64 0, .int .i64 0, .int .i64 0, .int .i64 0, .int .i64 0, .slice none 0 0, .slice none 0 0, .slice none 0 0, .slice none 0 0, .slice none 0 0]) (cs := [.lit (.int .i64 0), .lit (.int .i64 0), .lit (.int .i64 0), .lit (.int .i64 0), .lit (.int .i64 0), .sl false [], .sl false [], .sl false [], .sl false [], .sl false []]) Tryz.zeroValue51 (by kernel_rfl) rfl ⟨zq.refl _, zq.refl _, zq.refl _, zq.refl _, zq.refl _, zq.nils, zq.nils, zq.nils, zq.nils, zq.nils, trivial⟩) <| zA (zD rfl) <| zA (zD rfl) ?_
 refine zF <| zI <| zI <| zC <| zA (zT (k := 0) (o := 0) (m := 10) Tryz.isAgg51 Tryz.sizeOf51 rfl rfl rfl rfl rfl) ?_
 refine zP h ?_; clear h; intro x1 hx1 h
 refine zd Tryz.func42 rfl (by kernel_rfl) (.fn 42) rfl rfl (zD6 hx1) rfl <| zA (zD rfl) <| zF <| zI <| zC <| zA (zB rfl) ?_
 refine zA (z7 rfl rfl) <| zF ?_
 refine zQ (!decide (x1 = 0)) rfl (fun hb1 => ?_) (fun hb1 => ?_)
 ·replace h := zo hb1 h
  refine zI <| zC <| zA (zAD (pl := [(0, 1), (1, 1), (2, 1), (3, 1), (4, 1), (5, 5)]) (zs := [.int .i64 0, .int .i64 0, .int .i64 0, .int .i64 0, .int .i64 0, .slice none 0 0, .slice none 0 0, .slice none 0 0, .slice none 0 0, .slice none 0 0]) (zc := [.lit (.int .i64 0), .lit (.int .i64 0), .lit (.int .i64 0), .lit (.int .i64 0), .lit (.int .i64 0), .sl false [], .sl false [], .sl false [], .sl false [], .sl false []]) (res := (zO (⟨0, 0, 0, 0, 0, (List.replicate 5 ([] : List Int))⟩ : zm))) (fun _ => by kernel_rfl) rfl (⟨zq.refl _, ⟨zq.refl _, ⟨zq.refl _, ⟨zq.refl _, ⟨zq.refl _, ⟨zq.nils, ⟨zq.nils, ⟨zq.nils, ⟨zq.nils, ⟨zq.nils, trivial⟩⟩⟩⟩⟩⟩⟩⟩⟩⟩) (by exact zGB.refl _)) <| zA (zB rfl) <| zx (H' := [.box 51 (zO a_p0), .box 51 (zO (⟨0, 0, 0, 0, 0, (List.replicate 5 ([] : List Int))⟩ : zm))]) (zh (k := 1) (o := 0) (cs := ([(li 0)] ++ ([(li 0)] ++ ([(li 0)] ++ ([(li 0)] ++ ([(li 0)] ++ ((cA 5 (eS cI) ([] : List Int) (List.replicate 5 ([] : List Int))) ++ []))))))) (la := (zO (⟨0, 0, 0, 0, 0, (List.replicate 5 ([] : List Int))⟩ : zm))) Tryz.sizeOf51 rfl rfl rfl rfl) <| zA (zD rfl) ?_
  refine zA (zD rfl) <| zF <| za ?_
  show zAS _ _ _ _ _ _
  obtain rfl := Option.some.inj h
  exact zEF (zHH Tryz.isAgg51 Tryz.sizeOf51 rfl rfl rfl rfl) (zAK rfl rfl) (zAK rfl rfl) rfl
 ·replace h := zv hb1 h
  refine zR <| zI <| zI <| zC <| zA (zB rfl) <| zA (zf rfl rfl) ?_
  refine zA (zB rfl) <| zU rfl rfl (fun hc1 => zj.step (zB rfl)) <| zU rfl rfl (fun hc2 => zj.step (zAp (zz rfl hc2) rfl)) <| zA (zZ rfl rfl) <| zF ?_
  refine zQ ((decide (a_p1 < 0)) || (decide (4 < a_p1))) rfl (fun hb2 => ?_) (fun hb2 => ?_)
  ·replace h := zo hb2 h
   refine zI <| zC <| zA (zAD (pl := [(0, 1), (1, 1), (2, 1), (3, 1), (4, 1), (5, 5)]) (zs := [.int .i64 0, .int .i64 0, .int .i64 0, .int .i64 0, .int .i64 0, .slice none 0 0, .slice none 0 0, .slice none 0 0, .slice none 0 0, .slice none 0 0]) (zc := [.lit (.int .i64 0), .lit (.int .i64 0), .lit (.int .i64 0), .lit (.int .i64 0), .lit (.int .i64 0), .sl false [], .sl false [], .sl false [], .sl false [], .sl false []]) (res := (zO (⟨0, 0, 0, 0, 0, (List.replicate 5 ([] : List Int))⟩ : zm))) (fun _ => by kernel_rfl) rfl (⟨zq.refl _, ⟨zq.refl _, ⟨zq.refl _, ⟨zq.refl _, ⟨zq.refl _, ⟨zq.nils, ⟨zq.nils, ⟨zq.nils, ⟨zq.nils, ⟨zq.nils, trivial⟩⟩⟩⟩⟩⟩⟩⟩⟩⟩) (by exact zGB.refl _)) <| zx (H' := [.box 51 (zO a_p0), .box 51 (zO (⟨0, 0, 0, 0, 0, (List.replicate 5 ([] : List Int))⟩ : zm))]) (zh (k := 1) (o := 0) (cs := ([(li 0)] ++ ([(li 0)] ++ ([(li 0)] ++ ([(li 0)] ++ ([(li 0)] ++ ((cA 5 (eS cI) ([] : List Int) (List.replicate 5 ([] : List Int))) ++ []))))))) (la := (zO (⟨0, 0, 0, 0, 0, (List.replicate 5 ([] : List Int))⟩ : zm))) Tryz.sizeOf51 rfl rfl rfl rfl) <| zA (zD rfl) <| zA (zD rfl) ?_
   refine zF <| za ?_
   show zAS _ _ _ _ _ _
   obtain rfl := Option.some.inj h
   exact zEF (zHH Tryz.isAgg51 Tryz.sizeOf51 rfl rfl rfl rfl) (zAK rfl rfl) (zAK rfl rfl) rfl
  ·replace h := zv hb2 h
   refine zR <| zI <| zC <| zA (zB rfl) <| zA (zD rfl) <| zF ?_
   refine z5 (fun e' H' => ∃ (i1 : Int), Rep 90 0 e' H' (mkE [(1, (li a_p1)), (2, (AV.ptr 0 0)), (4, (AV.ptr 1 0)), (8, (li i1))]) [.box 51 (zO a_p0), .box 51 ([(li 0)] ++ ([(li 0)] ++ ([(li 0)] ++ ([(li 0)] ++ ([(li 0)] ++ ((cA 5 (eS cI) ([] : List Int) (List.replicate 5 ([] : List Int))) ++ []))))))] ∧ zH4 a_p0 a_p1 i1 = some r) ?_ ?_
   ·
    refine zS <| z9 (σ := Nat × Int) (fun s => s.1) (fun s e' H' => match s with | (n1, i3) => Rep 90 0 e' H' (mkE [(1, (li a_p1)), (2, (AV.ptr 0 0)), (4, (AV.ptr 1 0)), (8, (li i3))]) [.box 51 (zO a_p0), .box 51 ([(li 0)] ++ ([(li 0)] ++ ([(li 0)] ++ ([(li 0)] ++ ([(li 0)] ++ ((cA 5 (eS cI) ([] : List Int) (List.replicate 5 ([] : List Int))) ++ []))))))] ∧ zGk a_p0 a_p1 n1 i3 = some r) (zAC, a_p1) ⟨zAE [0, 1] rfl rfl (by kernel_rfl), h⟩ ?_
    clear h
    rintro ⟨n1, i3⟩ e' H' ⟨hrep, h⟩
    cases n1 with
    | zero => exact absurd (show (none : Option _) = some r from h) (by simp)
    | succ n1 =>
     replace h : zH6 a_p0 a_p1 (zGk a_p0 a_p1 n1) i3 = some r := h
     unfold zH6 at h
     refine zY hrep ?_
     clear hrep
     refine zI <| zI <| zC <| zA (zB rfl) <| zA (zCq rfl rfl) <| zA (zB rfl) ?_
     refine zg rfl rfl (fun hc3 => zj.step (zB rfl)) <| zg rfl rfl (fun hc4 => zj.step (zM Tryz.underlying51 rfl rfl Tryz.sizeOf49 rfl)) ?_
     have hb17 := (zH h).1
     replace h := (zH h).2
     refine zg rfl rfl (fun hc5 => zj.step (zAL (m := 5) (s := 1) (i := i3) (k := 0) (o := 5) Tryz.underlying49 Tryz.sizeOf22 (zz rfl hc5) (zz rfl hc5) (zFp hb17 hc5))) <| zg rfl rfl (fun hc6 => zj.step (zAm (k := 0) (o := (5 + i3.toNat * 1)) (cs := (zO a_p0)) (hd := ([(li a_p0.node)] ++ [(li a_p0.kind)] ++ [(li a_p0.start)] ++ [(li a_p0.count)] ++ [(li a_p0.min)] ++ [])) (tl := ([])) (g := (eS cI)) (d0 := ([] : List Int)) (l := a_p0.free) (N := 5) (i := i3.toNat) (a := (ls cI (a_p0.free.getD i3.toNat ([] : List Int)))) Tryz.isAgg22 (zz rfl hc6) rfl rfl (congrArg (fun q => 5 + q) (Nat.mul_one _)) (zBW (zFp hb17 hc6)).2 rfl rfl)) <| zg rfl rfl (fun hc7 => zj.step (zX Tryz.underlying22 (zz rfl hc7))) <| zg rfl rfl (fun hc8 => zj.step (zBT (zz rfl hc8) rfl)) <| zA (zy (j := .lit undef) rfl rfl) <| zF ?_
     refine zQ ((decide (i3 ≤ 4)) && (decide (((a_p0.free.getD i3.toNat ([] : List Int)).length : Int) = 0))) rfl (fun hb18 => ?_) (fun hb18 => ?_)
     ·replace h := zo hb18 h
      refine zR <| zS <| zC <| zA (zB rfl) ?_
      have hb19 := (zH h).1
      replace h := (zH h).2
      refine zA (ze rfl rfl hb19) <| zA (zD rfl) <| zF ?_
      exact ⟨(n1, (i3 + 1)), Nat.lt_succ_self _, zAE [0, 1] rfl rfl (by kernel_rfl), h⟩
     ·replace h := zv hb18 h
      refine z8 ?_
      exact ⟨i3, zAE [0, 1] rfl rfl (by kernel_rfl), h⟩
   ·
    clear h
    rintro e' H' ⟨i1, hrep, h⟩
    refine zY hrep ?_
    clear hrep
    unfold zH4 at h
    refine zI <| zI <| zC <| zA (zB rfl) <| zA (zAp rfl rfl) <| zF ?_
    refine zQ (decide (4 < i1)) rfl (fun hb3 => ?_) (fun hb3 => ?_)
    ·replace h := zo hb3 h
     refine zI <| zC <| zA (zAD (pl := [(0, 1), (1, 1), (2, 1), (3, 1), (4, 1), (5, 5)]) (zs := [.int .i64 0, .int .i64 0, .int .i64 0, .int .i64 0, .int .i64 0, .slice none 0 0, .slice none 0 0, .slice none 0 0, .slice none 0 0, .slice none 0 0]) (zc := [.lit (.int .i64 0), .lit (.int .i64 0), .lit (.int .i64 0), .lit (.int .i64 0), .lit (.int .i64 0), .sl false [], .sl false [], .sl false [], .sl false [], .sl false []]) (res := (zO (⟨0, 0, 0, 0, 0, (List.replicate 5 ([] : List Int))⟩ : zm))) (fun _ => by kernel_rfl) rfl (⟨zq.refl _, ⟨zq.refl _, ⟨zq.refl _, ⟨zq.refl _, ⟨zq.refl _, ⟨zq.nils, ⟨zq.nils, ⟨zq.nils, ⟨zq.nils, ⟨zq.nils, trivial⟩⟩⟩⟩⟩⟩⟩⟩⟩⟩) (by exact zGB.refl _)) <| zx (H' := [.box 51 (zO a_p0), .box 51 (zO (⟨0, 0, 0, 0, 0, (List.replicate 5 ([] : List Int))⟩ : zm))]) (zh (k := 1) (o := 0) (cs := ([(li 0)] ++ ([(li 0)] ++ ([(li 0)] ++ ([(li 0)] ++ ([(li 0)] ++ ((cA 5 (eS cI) ([] : List Int) (List.replicate 5 ([] : List Int))) ++ []))))))) (la := (zO (⟨0, 0, 0, 0, 0, (List.replicate 5 ([] : List Int))⟩ : zm))) Tryz.sizeOf51 rfl rfl rfl rfl) <| zA (zD rfl) <| zA (zD rfl) ?_
     refine zF <| za ?_
     show zAS _ _ _ _ _ _
     obtain rfl := Option.some.inj h
     exact zEF (zHH Tryz.isAgg51 Tryz.sizeOf51 rfl rfl rfl rfl) (zAK rfl rfl) (zAK rfl rfl) rfl
    ·replace h := zv hb3 h
     refine zR <| zI <| zC <| zA (zT (k := 0) (o := 0) (m := 10) Tryz.isAgg51 Tryz.sizeOf51 rfl rfl rfl rfl rfl) ?_
     refine zP h ?_; clear h; intro x2 hx2 h
     refine zIK (cs := ([(li x2.node)] ++ ([(li x2.kind)] ++ ([(li x2.start)] ++ ([(li x2.count)] ++ ([(li x2.min)] ++ ((cM 5 3 (5 : Int) x2.free) ++ []))))))) (la := [(AV.agg (zO a_p0))]) (la' := [(AV.agg (zO a_p0))]) (S := []) Tryz.func118 rfl (by kernel_rfl) (.fn 118) rfl ⟨zAt.nr rfl, trivial⟩ (zJd hx2) (.inl rfl) <| zb (H' := [.box 51 (zO a_p0), .box 51 ([(li 0)] ++ ([(li 0)] ++ ([(li 0)] ++ ([(li 0)] ++ ([(li 0)] ++ ((cA 5 (eS cI) ([] : List Int) (List.replicate 5 ([] : List Int))) ++ [])))))), .val (.agg ([(li x2.node)] ++ ([(li x2.kind)] ++ ([(li x2.start)] ++ ([(li x2.count)] ++ ([(li x2.min)] ++ ((cM 5 3 (5 : Int) x2.free) ++ []))))))), .box 51 ([(li 0)] ++ ([(li 0)] ++ ([(li 0)] ++ ([(li 0)] ++ ([(li 0)] ++ ((cA 5 (eS cI) ([] : List Int) (List.replicate 5 ([] : List Int))) ++ []))))))]) (z6 (t := 51) (vs := [.int .i64 0, .int .i64 0, .int .i64 0, .int .i64 0, .int .i64 0, .slice none 0 0, .slice none 0 0, .slice none 0 0, .slice none 0 0, .slice none 0 0]) (cs := [.lit (.int .i64 0), .lit (.int .i64 0), .lit (.int .i64 0), .lit (.int .i64 0), .lit (.int .i64 0), .sl false [], .sl false [], .sl false [], .sl false [], .sl false []]) Tryz.zeroValue51 (by kernel_rfl) rfl ⟨zq.refl _, zq.refl _, zq.refl _, zq.refl _, zq.refl _, zq.nils, zq.nils, zq.nils, zq.nils, zq.nils, trivial⟩) <| zx (H' := [.box 51 (zO a_p0), .box 51 ([(li 0)] ++ ([(li 0)] ++ ([(li 0)] ++ ([(li 0)] ++ ([(li 0)] ++ ((cA 5 (eS cI) ([] : List Int) (List.replicate 5 ([] : List Int))) ++ [])))))), .dead, .box 51 ([(li x2.node)] ++ ([(li x2.kind)] ++ ([(li x2.start)] ++ ([(li x2.count)] ++ ([(li x2.min)] ++ ((cM 5 3 (5 : Int) x2.free) ++ []))))))]) (zEk (k := 3) (o := 0) (j := 2) (cs := ([(li 0)] ++ ([(li 0)] ++ ([(li 0)] ++ ([(li 0)] ++ ([(li 0)] ++ ((cA 5 (eS cI) ([] : List Int) (List.replicate 5 ([] : List Int))) ++ []))))))) (la := ([(li x2.node)] ++ ([(li x2.kind)] ++ ([(li x2.start)] ++ ([(li x2.count)] ++ ([(li x2.min)] ++ ((cM 5 3 (5 : Int) x2.free) ++ []))))))) Tryz.sizeOf51 rfl rfl rfl rfl rfl (by decide)) <| zF <| zI <| zC ?_
     refine zA (zB rfl) <| zA (zM Tryz.underlying51 rfl rfl Tryz.sizeOf49 rfl) ?_
     have hb4 := (zH h).1
     replace h := (zH h).2
     refine zA (zAL (m := 5) (s := 1) (i := i1) (k := 3) (o := 5) Tryz.underlying49 Tryz.sizeOf22 rfl rfl hb4) ?_
     have hb5 := (zH h).1
     replace h := (zH h).2
     refine zAe (zI1 (k := 3) (cs := ([(li x2.node)] ++ ([(li x2.kind)] ++ ([(li x2.start)] ++ ([(li x2.count)] ++ ([(li x2.min)] ++ ((cM 5 3 (5 : Int) x2.free) ++ []))))))) (hd := ([(li x2.node)] ++ [(li x2.kind)] ++ [(li x2.start)] ++ [(li x2.count)] ++ [(li x2.min)] ++ [])) (tl := ([])) (N := 5) (T := 3) (K := 5) (l := x2.free) (i := i1) rfl rfl hb4 hb5) <| zA (zEx (k := 3) (o := (5 + i1.toNat * 1)) (cs := ([(li x2.node)] ++ ([(li x2.kind)] ++ ([(li x2.start)] ++ ([(li x2.count)] ++ ([(li x2.min)] ++ ((List.set (cM 5 3 (5 : Int) x2.free) i1.toNat (AV.hd 4)) ++ []))))))) (hd := ([(li x2.node)] ++ [(li x2.kind)] ++ [(li x2.start)] ++ [(li x2.count)] ++ [(li x2.min)] ++ [])) (tl := ([])) (s := (cM 5 3 (5 : Int) x2.free)) (i := i1) (j := 4) Tryz.isAgg22 rfl rfl rfl (congrArg (fun q => 5 + q) (Nat.mul_one _)) (zHj hb4)) ?_
     have hb6 := (zH h).1
     replace h := (zH h).2
     refine zA (zAI (f := cI) (l := x2.free.getD i1.toNat []) (i := 0) Tryz.underlying22 Tryz.sizeOf3 rfl rfl rfl hb6) <| zA (zB4 (f := cI) (l := x2.free.getD i1.toNat []) (i := 0) (c := 0) (a := (li (at_ (x2.free.getD i1.toNat []) (0 : Int)))) Tryz.isAgg3 rfl rfl (by first | rfl | omega) hb6 rfl rfl) <| zA (zD rfl) <| zF <| zI <| zC ?_
     refine zA (zB rfl) <| zA (zB rfl) <| zA (zM Tryz.underlying51 rfl rfl Tryz.sizeOf49 rfl) <| zA (zAL (m := 5) (s := 1) (i := i1) (k := 3) (o := 5) Tryz.underlying49 Tryz.sizeOf22 rfl rfl hb4) <| zA (zEx (k := 3) (o := (5 + i1.toNat * 1)) (cs := ([(li x2.node)] ++ ([(li x2.kind)] ++ ([(li x2.start)] ++ ([(li x2.count)] ++ ([(li x2.min)] ++ ((List.set (cM 5 3 (5 : Int) x2.free) i1.toNat (AV.hd 4)) ++ []))))))) (hd := ([(li x2.node)] ++ [(li x2.kind)] ++ [(li x2.start)] ++ [(li x2.count)] ++ [(li x2.min)] ++ [])) (tl := ([])) (s := (cM 5 3 (5 : Int) x2.free)) (i := i1) (j := 4) Tryz.isAgg22 rfl rfl rfl (congrArg (fun q => 5 + q) (Nat.mul_one _)) (zHj hb4)) <| zAe (zFJ (j := 4) (ds := [48, 55]) (rows' := List.map cI (x2.free.getD i1.toNat [])) rfl (zAa (fun _ => rfl)) ⟨rfl, rfl, trivial⟩) ?_
     have hb7 := (zH h).1
     replace h := (zH h).2
     refine zA (zMy (lo := 1) (f := cI) (l := x2.free.getD i1.toNat []) Tryz.underlying22 Tryz.sizeOf3 (fun _ => rfl) rfl rfl hb7) <| zA (zM Tryz.underlying51 rfl rfl Tryz.sizeOf49 rfl) <| zA (zAL (m := 5) (s := 1) (i := i1) (k := 3) (o := 5) Tryz.underlying49 Tryz.sizeOf22 rfl rfl hb4) ?_
     have hb8 := (zH h).1
     replace h := (zH h).2
     refine zx (H' := [.box 51 (zO a_p0), .box 51 ([(li 0)] ++ ([(li 0)] ++ ([(li 0)] ++ ([(li 0)] ++ ([(li 0)] ++ ((cA 5 (eS cI) ([] : List Int) (List.replicate 5 ([] : List Int))) ++ [])))))), .dead, .box 51 ([(li x2.node)] ++ ([(li x2.kind)] ++ ([(li x2.start)] ++ ([(li x2.count)] ++ ([(li x2.min)] ++ ((List.set (cM 5 3 (5 : Int) x2.free) i1.toNat (ls cI (zJW (x2.free.getD i1.toNat []) 1 ((x2.free.getD i1.toNat []).length : Int)))) ++ [])))))), .dead]) (zHi (k := 3) (o := (5 + i1.toNat * 1)) (cs := ([(li x2.node)] ++ ([(li x2.kind)] ++ ([(li x2.start)] ++ ([(li x2.count)] ++ ([(li x2.min)] ++ ((List.set (cM 5 3 (5 : Int) x2.free) i1.toNat (AV.hd 4)) ++ []))))))) (hd := ([(li x2.node)] ++ [(li x2.kind)] ++ [(li x2.start)] ++ [(li x2.count)] ++ [(li x2.min)] ++ [])) (tl := ([])) (s := (cM 5 3 (5 : Int) x2.free)) (i := i1) (a := (ls cI (zJW (x2.free.getD i1.toNat []) 1 ((x2.free.getD i1.toNat []).length : Int)))) Tryz.sizeOf22 rfl rfl rfl (congrArg (fun q => 5 + q) (Nat.mul_one _)) (zHj hb4) rfl rfl) <| zF ?_
     refine z5 (fun e' H' => ∃ (l1 : List (List Int)), Rep 90 0 e' H' (mkE [(4, (AV.ptr 0 0)), (9, (AV.ptr 1 0)), (10, (li (at_ (x2.free.getD i1.toNat []) (0 : Int))))]) [.box 51 ([(li 0)] ++ ([(li 0)] ++ ([(li 0)] ++ ([(li 0)] ++ ([(li 0)] ++ ((cA 5 (eS cI) ([] : List Int) (List.replicate 5 ([] : List Int))) ++ [])))))), .box 51 ([(li x2.node)] ++ ([(li x2.kind)] ++ ([(li x2.start)] ++ ([(li x2.count)] ++ ([(li x2.min)] ++ ((cM 5 3 i1 l1) ++ []))))))] ∧ zH7 i1 x2 l1 = some r) ?_ ?_
     ·
      refine zS <| z9 (σ := Nat × Int × (List (List Int))) (fun s => s.1) (fun s e' H' => match s with | (n0, i2, l2) => Rep 90 0 e' H' (mkE [(1, (li a_p1)), (4, (AV.ptr 0 0)), (8, (li i2)), (9, (AV.ptr 1 0)), (10, (li (at_ (x2.free.getD i1.toNat []) (0 : Int))))]) [.box 51 ([(li 0)] ++ ([(li 0)] ++ ([(li 0)] ++ ([(li 0)] ++ ([(li 0)] ++ ((cA 5 (eS cI) ([] : List Int) (List.replicate 5 ([] : List Int))) ++ [])))))), .box 51 ([(li x2.node)] ++ ([(li x2.kind)] ++ ([(li x2.start)] ++ ([(li x2.count)] ++ ([(li x2.min)] ++ ((cM 5 3 i1 l2) ++ []))))))] ∧ zGd a_p1 i1 x2 n0 i2 l2 = some r) (zAC, i1, (zEO 5 [] x2.free i1.toNat (zJW (x2.free.getD i1.toNat []) 1 ((x2.free.getD i1.toNat []).length : Int)))) ⟨Rep.trans (zPX (l' := zJW (x2.free.getD i1.toNat []) 1 ((x2.free.getD i1.toNat []).length : Int)) (k := 3) (cs := ([(li x2.node)] ++ ([(li x2.kind)] ++ ([(li x2.start)] ++ ([(li x2.count)] ++ ([(li x2.min)] ++ ((List.set (cM 5 3 (5 : Int) x2.free) i1.toNat (ls cI (zJW (x2.free.getD i1.toNat []) 1 ((x2.free.getD i1.toNat []).length : Int)))) ++ []))))))) (hd := ([(li x2.node)] ++ [(li x2.kind)] ++ [(li x2.start)] ++ [(li x2.count)] ++ [(li x2.min)] ++ [])) (tl := ([])) (N := 5) (T := 3) (K := 5) (l := x2.free) (i := i1) rfl rfl hb4 hb8) (zBd (n := 90) (m := 0) [1, 3] (l := [(1, (li a_p1)), (4, (AV.ptr 0 0)), (8, (li i1)), (9, (AV.ptr 1 0)), (10, (li (at_ (x2.free.getD i1.toNat []) (0 : Int))))]) ⟨⟨Sub.refl _, by kernel_rfl⟩, ⟨Sub.refl _, by kernel_rfl⟩, ⟨Sub.refl _, by kernel_rfl⟩, ⟨Sub.refl _, by kernel_rfl⟩, ⟨Sub.refl _, by kernel_rfl⟩, trivial⟩ rfl rfl ⟨⟨rfl, by kernel_rfl⟩, ⟨rfl, zPp (hd := ([(li x2.node)] ++ [(li x2.kind)] ++ [(li x2.start)] ++ [(li x2.count)] ++ [(li x2.min)] ++ [])) (tl := ([])) (N := 5) (T := 3) (K := i1) (l := zEO 5 [] x2.free i1.toNat (zJW (x2.free.getD i1.toNat []) 1 ((x2.free.getD i1.toNat []).length : Int))) (by kernel_rfl) (by kernel_rfl) rfl⟩, trivial⟩), h⟩ ?_
      clear h
      rintro ⟨n0, i2, l2⟩ e' H' ⟨hrep, h⟩
      cases n0 with
      | zero => exact absurd (show (none : Option _) = some r from h) (by simp)
      | succ n0 =>
       replace h : zHr a_p1 i1 x2 (zGd a_p1 i1 x2 n0) i2 l2 = some r := h
       unfold zHr at h
       refine zY hrep ?_
       clear hrep
       refine zI <| zI <| zC <| zA (zB rfl) <| zA (zB rfl) <| zA (zAp rfl rfl) ?_
       refine zF ?_
       refine zQ (decide (a_p1 < i2)) rfl (fun hb9 => ?_) (fun hb9 => ?_)
       ·replace h := zo hb9 h
        refine zR <| zS <| zI <| zC <| zA (zB rfl) ?_
        have hb10 := (zH h).1
        replace h := (zH h).2
        refine zA (zB5 rfl rfl hb10) <| zA (zD rfl) <| zF <| zI <| zC <| zA (zB rfl) ?_
        refine zA (zB rfl) ?_
        have hb11 := (zH h).1
        replace h := (zH h).2
        have hb12 := (zH h).1
        replace h := (zH h).2
        refine zA (zDp (a := 1) (b := i2 - 1) rfl rfl hb11 hb12) ?_
        have hb13 := (zH h).1
        replace h := (zH h).2
        refine zA (ze rfl rfl hb13) <| zA (zD rfl) <| zF <| zI <| zC <| zA (zB rfl) ?_
        refine zA (zM Tryz.underlying51 rfl rfl Tryz.sizeOf49 rfl) ?_
        have hb14 := (zH h).1
        replace h := (zH h).2
        refine zA (zAL (m := 5) (s := 1) (i := i2 - 1) (k := 1) (o := 5) Tryz.underlying49 Tryz.sizeOf22 rfl rfl hb14) ?_
        have hb15 := (zH h).1
        replace h := (zH h).2
        refine zAe (zI1 (k := 1) (cs := ([(li x2.node)] ++ ([(li x2.kind)] ++ ([(li x2.start)] ++ ([(li x2.count)] ++ ([(li x2.min)] ++ ((cM 5 3 i1 l2) ++ []))))))) (hd := ([(li x2.node)] ++ [(li x2.kind)] ++ [(li x2.start)] ++ [(li x2.count)] ++ [(li x2.min)] ++ [])) (tl := ([])) (N := 5) (T := 3) (K := i1) (l := l2) (i := i2 - 1) rfl rfl hb14 hb15) <| zA (zEx (k := 1) (o := (5 + (i2 - 1).toNat * 1)) (cs := ([(li x2.node)] ++ ([(li x2.kind)] ++ ([(li x2.start)] ++ ([(li x2.count)] ++ ([(li x2.min)] ++ ((List.set (cM 5 3 i1 l2) (i2 - 1).toNat (AV.hd 2)) ++ []))))))) (hd := ([(li x2.node)] ++ [(li x2.kind)] ++ [(li x2.start)] ++ [(li x2.count)] ++ [(li x2.min)] ++ [])) (tl := ([])) (s := (cM 5 3 i1 l2)) (i := i2 - 1) (j := 2) Tryz.isAgg22 rfl rfl rfl (congrArg (fun q => 5 + q) (Nat.mul_one _)) (zHj hb14)) <| zA (zB rfl) ?_
        refine zP h ?_; clear h; intro x3 hx3 h
        refine zA3 (r' := (AV.tup [(li x3.1), (AV.lit (.bool x3.2))])) (la := [(AV.hd 2), (li ((at_ (x2.free.getD i1.toNat []) (0 : Int)) + ((1 : Int) * 2 ^ (i2 - 1).toNat)))]) (la' := [(ls cI (l2.getD (i2 - 1).toNat [])), (li ((at_ (x2.free.getD i1.toNat []) (0 : Int)) + ((1 : Int) * 2 ^ (i2 - 1).toNat)))]) (r := (AV.tup [(li x3.1), (AV.lit (.bool x3.2))])) (S := [2]) Tryz.func87 rfl (by kernel_rfl) (.fn 87) rfl ⟨zIl (fun _ => rfl) rfl rfl, zAt.nr rfl, trivial⟩ (zAw hx3) (.inr rfl) rfl <| zA (zB rfl) <| zA (zl rfl rfl) <| zA (zl rfl rfl) <| zA (zD rfl) <| zA (zD rfl) ?_
        refine zF <| zC <| zA (zB rfl) <| zA (zB rfl) <| zA (zM Tryz.underlying51 rfl rfl Tryz.sizeOf49 rfl) <| zA (zAL (m := 5) (s := 1) (i := i2 - 1) (k := 1) (o := 5) Tryz.underlying49 Tryz.sizeOf22 rfl rfl hb14) ?_
        refine zA (zEx (k := 1) (o := (5 + (i2 - 1).toNat * 1)) (cs := ([(li x2.node)] ++ ([(li x2.kind)] ++ ([(li x2.start)] ++ ([(li x2.count)] ++ ([(li x2.min)] ++ ((List.set (cM 5 3 i1 l2) (i2 - 1).toNat (AV.hd 2)) ++ []))))))) (hd := ([(li x2.node)] ++ [(li x2.kind)] ++ [(li x2.start)] ++ [(li x2.count)] ++ [(li x2.min)] ++ [])) (tl := ([])) (s := (cM 5 3 i1 l2)) (i := i2 - 1) (j := 2) Tryz.isAgg22 rfl rfl rfl (congrArg (fun q => 5 + q) (Nat.mul_one _)) (zHj hb14)) <| zA (zB rfl) <| zA (zB rfl) <| zIR (a := (li ((at_ (x2.free.getD i1.toNat []) (0 : Int)) + ((1 : Int) * 2 ^ (i2 - 1).toNat)))) zIj Tryz.underlying22 rfl rfl rfl rfl ?_
        have hb16 := (zH h).1
        replace h := (zH h).2
        refine zL2 (k := 2) (j := 3) (l := l2.getD (i2 - 1).toNat []) (i := x3.1) (q := (at_ (x2.free.getD i1.toNat []) (0 : Int)) + ((1 : Int) * 2 ^ (i2 - 1).toNat)) (fun a b c d e => zPS a b c d e) Tryz.func119 rfl (by kernel_rfl) rfl rfl rfl rfl rfl rfl hb16 <| zA (zM Tryz.underlying51 rfl rfl Tryz.sizeOf49 rfl) <| zA (zAL (m := 5) (s := 1) (i := i2 - 1) (k := 1) (o := 5) Tryz.underlying49 Tryz.sizeOf22 rfl rfl hb14) <| zx (H' := [.box 51 ([(li 0)] ++ ([(li 0)] ++ ([(li 0)] ++ ([(li 0)] ++ ([(li 0)] ++ ((cA 5 (eS cI) ([] : List Int) (List.replicate 5 ([] : List Int))) ++ [])))))), .box 51 ([(li x2.node)] ++ ([(li x2.kind)] ++ ([(li x2.start)] ++ ([(li x2.count)] ++ ([(li x2.min)] ++ ((List.set (cM 5 3 i1 l2) (i2 - 1).toNat (AV.hd 4)) ++ [])))))), .dead, .vec 3 1 (List.map cI [(at_ (x2.free.getD i1.toNat []) (0 : Int)) + ((1 : Int) * 2 ^ (i2 - 1).toNat)]), .vec 3 1 (List.map cI (zOs (l2.getD (i2 - 1).toNat []) x3.1 ((at_ (x2.free.getD i1.toNat []) (0 : Int)) + ((1 : Int) * 2 ^ (i2 - 1).toNat))))]) (zHi (k := 1) (o := (5 + (i2 - 1).toNat * 1)) (cs := ([(li x2.node)] ++ ([(li x2.kind)] ++ ([(li x2.start)] ++ ([(li x2.count)] ++ ([(li x2.min)] ++ ((List.set (cM 5 3 i1 l2) (i2 - 1).toNat (AV.hd 2)) ++ []))))))) (hd := ([(li x2.node)] ++ [(li x2.kind)] ++ [(li x2.start)] ++ [(li x2.count)] ++ [(li x2.min)] ++ [])) (tl := ([])) (s := (cM 5 3 i1 l2)) (i := i2 - 1) (a := (AV.hd 4)) Tryz.sizeOf22 rfl rfl rfl (congrArg (fun q => 5 + q) (Nat.mul_one _)) (zHj hb14) rfl rfl) <| zF ?_
        exact ⟨(n0, (i2 - 1), (zEO 5 [] l2 (i2 - 1).toNat (zOs (l2.getD (i2 - 1).toNat []) x3.1 ((at_ (x2.free.getD i1.toNat []) (0 : Int)) + ((1 : Int) * 2 ^ (i2 - 1).toNat))))), Nat.lt_succ_self _, Rep.trans (zJS (j := 4) (l' := zOs (l2.getD (i2 - 1).toNat []) x3.1 ((at_ (x2.free.getD i1.toNat []) (0 : Int)) + ((1 : Int) * 2 ^ (i2 - 1).toNat))) (k := 1) (cs := ([(li x2.node)] ++ ([(li x2.kind)] ++ ([(li x2.start)] ++ ([(li x2.count)] ++ ([(li x2.min)] ++ ((List.set (cM 5 3 i1 l2) (i2 - 1).toNat (AV.hd 4)) ++ []))))))) (hd := ([(li x2.node)] ++ [(li x2.kind)] ++ [(li x2.start)] ++ [(li x2.count)] ++ [(li x2.min)] ++ [])) (tl := ([])) (N := 5) (T := 3) (K := i1) (l := l2) (i := i2 - 1) rfl rfl hb14 hb15 rfl rfl) (zBd (n := 90) (m := 0) [0, 1] (l := [(1, (li a_p1)), (4, (AV.ptr 0 0)), (8, (li (i2 - 1))), (9, (AV.ptr 1 0)), (10, (li (at_ (x2.free.getD i1.toNat []) (0 : Int))))]) ⟨⟨Sub.refl _, by kernel_rfl⟩, ⟨Sub.refl _, by kernel_rfl⟩, ⟨Sub.refl _, by kernel_rfl⟩, ⟨Sub.refl _, by kernel_rfl⟩, ⟨Sub.refl _, by kernel_rfl⟩, trivial⟩ rfl rfl ⟨⟨rfl, by kernel_rfl⟩, ⟨rfl, zPp (hd := ([(li x2.node)] ++ [(li x2.kind)] ++ [(li x2.start)] ++ [(li x2.count)] ++ [(li x2.min)] ++ [])) (tl := ([])) (N := 5) (T := 3) (K := i1) (l := zEO 5 [] l2 (i2 - 1).toNat (zOs (l2.getD (i2 - 1).toNat []) x3.1 ((at_ (x2.free.getD i1.toNat []) (0 : Int)) + ((1 : Int) * 2 ^ (i2 - 1).toNat)))) (by kernel_rfl) (by kernel_rfl) rfl⟩, trivial⟩), h⟩
       ·replace h := zv hb9 h
        refine z8 ?_
        exact ⟨l2, zBd (n := 90) (m := 0) [0, 1] (l := [(4, (AV.ptr 0 0)), (9, (AV.ptr 1 0)), (10, (li (at_ (x2.free.getD i1.toNat []) (0 : Int))))]) ⟨⟨Sub.refl _, by kernel_rfl⟩, ⟨Sub.refl _, by kernel_rfl⟩, ⟨Sub.refl _, by kernel_rfl⟩, trivial⟩ rfl rfl ⟨⟨rfl, by kernel_rfl⟩, ⟨rfl, zPp (hd := ([(li x2.node)] ++ [(li x2.kind)] ++ [(li x2.start)] ++ [(li x2.count)] ++ [(li x2.min)] ++ [])) (tl := ([])) (N := 5) (T := 3) (K := i1) (l := l2) (by kernel_rfl) (by kernel_rfl) rfl⟩, trivial⟩, h⟩
     ·
      clear h
      rintro e' H' ⟨l1, hrep, h⟩
      refine zY hrep ?_
      clear hrep
      unfold zH7 at h
      refine zI <| zC <| zAe (zJu (k := 1) (cs := ([(li x2.node)] ++ ([(li x2.kind)] ++ ([(li x2.start)] ++ ([(li x2.count)] ++ ([(li x2.min)] ++ ((cM 5 3 i1 l1) ++ []))))))) (hd := ([(li x2.node)] ++ [(li x2.kind)] ++ [(li x2.start)] ++ [(li x2.count)] ++ [(li x2.min)] ++ [])) (tl := ([])) (N := 5) (T := 3) (K := i1) (l := l1) rfl rfl) <| zA (zT (k := 1) (o := 0) (m := 10) Tryz.isAgg51 Tryz.sizeOf51 rfl rfl rfl rfl rfl) <| zA (zB rfl) <| zx (H' := [.box 51 (zO (⟨x2.node, x2.kind, x2.start, x2.count, x2.min, l1⟩ : zm)), .box 51 ([(li x2.node)] ++ ([(li x2.kind)] ++ ([(li x2.start)] ++ ([(li x2.count)] ++ ([(li x2.min)] ++ ((cA 5 (eS cI) ([] : List Int) l1) ++ []))))))]) (zh (k := 0) (o := 0) (cs := ([(li 0)] ++ ([(li 0)] ++ ([(li 0)] ++ ([(li 0)] ++ ([(li 0)] ++ ((cA 5 (eS cI) ([] : List Int) (List.replicate 5 ([] : List Int))) ++ []))))))) (la := (zO (⟨x2.node, x2.kind, x2.start, x2.count, x2.min, l1⟩ : zm))) Tryz.sizeOf51 rfl rfl rfl rfl) ?_
      refine zA (zD rfl) <| zA (zD rfl) <| zF <| za ?_
      show zAS _ _ _ _ _ _
      obtain rfl := Option.some.inj h
      exact zEF (zHH Tryz.isAgg51 Tryz.sizeOf51 rfl rfl rfl rfl) (zAK rfl rfl) (zAK rfl rfl) rfl
theorem zFt {a_c : zK} {a_zone : Int} {r : Int} (h : zFV a_c a_zone = some r) : PFn Tryz.prog 111 [(AV.agg (zG a_c)), (li a_zone)] (li r) := by
 refine zi Tryz.func111 rfl Tryz.ntmps111 Tryz.results111 rfl ?_
 unfold zFV at h
 refine zI <| zC <| zb (H' := [.box 55 (zG a_c)]) (zu (t := 55) rfl) <| zA (zD rfl) <| zF <| zI ?_
 refine zI <| zC <| zA (zT (k := 0) (o := 0) (m := 1) Tryz.isAgg55 Tryz.sizeOf55 rfl rfl rfl rfl rfl) <| zA (zM Tryz.underlying55 rfl rfl Tryz.sizeOf53 rfl) <| zA (zN Tryz.isAgg53 rfl rfl rfl rfl) <| zA (zX Tryz.underlying53 rfl) ?_
 refine zP h ?_; clear h; intro x1 hx1 h
 refine zd Tryz.func43 rfl (by kernel_rfl) (.fn 43) rfl rfl (zI8 hx1) rfl <| zA (zD rfl) <| zF <| zI <| zC <| zA (zB rfl) ?_
 refine zA (z7 rfl rfl) <| zF ?_
 refine zQ (!decide (x1 = 0)) rfl (fun hb1 => ?_) (fun hb1 => ?_)
 ·replace h := zo hb1 h
  refine zI <| zC <| zA (zB rfl) <| zA (zD rfl) <| zF <| za ?_
  show zAS _ _ _ _ _ _
  obtain rfl := Option.some.inj h
  exact zp (zAK rfl rfl)
 ·replace h := zv hb1 h
  refine zR <| zI <| zI <| zC <| zA (zB rfl) <| zA (zf rfl rfl) ?_
  refine zA (zB rfl) <| zU rfl rfl (fun hc1 => zj.step (zB rfl)) <| zU rfl rfl (fun hc2 => zj.step (zM Tryz.underlying55 rfl rfl Tryz.sizeOf53 rfl)) <| zU rfl rfl (fun hc3 => zj.step (zN Tryz.isAgg53 (zz rfl hc3) rfl rfl rfl)) <| zU rfl rfl (fun hc4 => zj.step (zX Tryz.underlying53 (zz rfl hc4))) <| zU rfl rfl (fun hc5 => zj.step (zAq (zz rfl hc5) (zz rfl hc5))) ?_
  refine zA (zZ rfl rfl) <| zF ?_
  refine zQ ((decide (a_zone < 0)) || (decide ((a_c.lists.length : Int) ≤ a_zone))) rfl (fun hb2 => ?_) (fun hb2 => ?_)
  ·replace h := zo hb2 h
   refine zI <| zC <| zA (zD rfl) <| zF <| za ?_
   show zAS _ _ _ _ _ _
   obtain rfl := Option.some.inj h
   exact zp (zAK rfl rfl)
  ·replace h := zv hb2 h
   refine zR <| zI <| zC <| zA (zD rfl) <| zF <| za ?_
   show zAS _ _ _ _ _ _
   obtain rfl := Option.some.inj h
   exact zp (zAK rfl rfl)
theorem zDY {a_c : zK} {a_zone : Int} {a_l : List Int} {r : zK} (h : zCA a_c a_zone a_l = some r) : PFn Tryz.prog 112 [(AV.agg (zG a_c)), (li a_zone), (ls cI a_l)] (AV.agg (zG r)) := by
 refine zi Tryz.func112 rfl Tryz.ntmps112 Tryz.results112 rfl ?_
 unfold zCA at h
 refine zI <| zC <| zb (H' := [.box 55 (zG a_c)]) (zu (t := 55) rfl) <| zb (H' := [.box 55 (zG a_c), .box 55 ([(ls (cS cI) ([] : List (List Int)))] ++ [])]) (z6 (t := 55) (vs := [.slice none 0 0]) (cs := [.sl false []]) Tryz.zeroValue55 (by kernel_rfl) rfl ⟨zq.nils, trivial⟩) <| zF <| zI ?_
 refine zC <| zA (zM Tryz.underlying55 rfl rfl Tryz.sizeOf53 rfl) <| zA (zN Tryz.isAgg53 rfl rfl rfl rfl) <| zA (zX Tryz.underlying53 rfl) ?_
 have hb1 := (zH h).1
 replace h := (zH h).2
 refine zDy (f := (cS cI)) (a := (a_c.lists.length : Int)) (c := (a_c.lists.length : Int)) (d0 := ([] : List Int)) zNr ⟨zq.nils, trivial⟩ rfl Tryz.underlying53 rfl rfl hb1 <| zA (zAD (pl := [(0, 1)]) (zs := [.slice none 0 0]) (zc := [.sl false []]) (res := ([AV.hd 2] ++ [])) (fun _ => by kernel_rfl) rfl (⟨zq.nils, trivial⟩) ⟨(AV.hd 2), 0, 1, rfl, rfl, rfl, rfl, rfl, (by exact zGB.refl _)⟩) <| zb (H' := [.box 55 (zG a_c), .box 55 ([(ls (cS cI) ([] : List (List Int)))] ++ []), .vec 22 1 (List.map (cS cI) (List.replicate (a_c.lists.length : Int).toNat ([] : List Int))), .box 55 ([(ls (cS cI) ([] : List (List Int)))] ++ [])]) (z6 (t := 55) (vs := [.slice none 0 0]) (cs := [.sl false []]) Tryz.zeroValue55 (by kernel_rfl) rfl ⟨zq.nils, trivial⟩) <| zx (H' := [.box 55 (zG a_c), .box 55 ([(ls (cS cI) ([] : List (List Int)))] ++ []), .vec 22 1 (List.map (cS cI) (List.replicate (a_c.lists.length : Int).toNat ([] : List Int))), .box 55 ([AV.hd 2] ++ [])]) (zh (k := 3) (o := 0) (cs := ([(ls (cS cI) ([] : List (List Int)))] ++ [])) (la := ([AV.hd 2] ++ [])) Tryz.sizeOf55 rfl rfl rfl rfl) <| zF ?_
 refine z5 (fun e' H' => ∃ (l1 : List (List Int)), Rep 46 0 e' H' (mkE [(6, (AV.ptr 0 0)), (7, (AV.ptr 1 0))]) [.box 55 ([(ls (cS cI) ([] : List (List Int)))] ++ []), .box 55 ([AV.osl 22 1 (List.map (cS cI) l1)] ++ [])] ∧ zGF l1 = some r) ?_ ?_
 ·
  refine zI <| zC <| zA (zM Tryz.underlying55 rfl rfl Tryz.sizeOf53 rfl) <| zA (zN Tryz.isAgg53 rfl rfl rfl rfl) <| zA (zX Tryz.underlying53 rfl) <| zA (zB rfl) ?_
  refine zF <| zS <| z9 (σ := Nat × Int × (List (List Int))) (fun s => s.1) (fun s e' H' => match s with | (n0, i1, l2) => Rep 46 0 e' H' (mkE [(1, (li a_zone)), (2, (ls cI a_l)), (3, (AV.ptr 0 0)), (6, (AV.ptr 1 0)), (7, (AV.ptr 2 0)), (17, (li (a_c.lists.length : Int))), (18, (li i1))]) [.box 55 (zG a_c), .box 55 ([(ls (cS cI) ([] : List (List Int)))] ++ []), .box 55 ([AV.osl 22 1 (List.map (cS cI) l2)] ++ [])] ∧ zDf a_c a_zone a_l n0 i1 l2 = some r) (zAC, 0, (List.replicate (a_c.lists.length : Int).toNat ([] : List Int))) ⟨Rep.trans (zAP (k := 3) (j := 2) (o := 0) rfl rfl rfl rfl) (zAE [0, 1, 3] (l := [(1, (li a_zone)), (2, (ls cI a_l)), (3, (AV.ptr 0 0)), (6, (AV.ptr 1 0)), (7, (AV.ptr 2 0)), (17, (li (a_c.lists.length : Int))), (18, (li 0))]) rfl rfl (by kernel_rfl)), h⟩ ?_
  clear h
  rintro ⟨n0, i1, l2⟩ e' H' ⟨hrep, h⟩
  cases n0 with
  | zero => exact absurd (show (none : Option _) = some r from h) (by simp)
  | succ n0 =>
   replace h : zGX a_c a_zone a_l (zDf a_c a_zone a_l n0) i1 l2 = some r := h
   unfold zGX at h
   refine zY hrep ?_
   clear hrep
   refine zI <| zC <| zA (zf rfl rfl) <| zF <| zI ?_
   refine zQ (decide (i1 < (a_c.lists.length : Int))) rfl (fun hb2 => ?_) (fun hb2 => ?_)
   ·replace h := zo hb2 h
    refine zR <| zI <| zS <| zI <| zC <| zA (zB rfl) ?_
    refine zA (zD rfl) <| zF <| zI <| zC <| zA (zM Tryz.underlying55 rfl rfl Tryz.sizeOf53 rfl) <| zA (zN Tryz.isAgg53 rfl rfl rfl rfl) ?_
    refine zA (zB rfl) ?_
    have hb3 := (zH h).1
    replace h := (zH h).2
    refine zA (zV Tryz.underlying53 Tryz.sizeOf22 (fun _ => rfl) rfl rfl hb3) <| zA (zW (o := 0) Tryz.isAgg22 rfl rfl) <| zA (zD rfl) <| zF ?_
    refine z5 (fun e' H' => ∃ (d1 : List Int), Rep 46 0 e' H' (mkE [(1, (li a_zone)), (2, (ls cI a_l)), (3, (AV.ptr 0 0)), (6, (AV.ptr 1 0)), (7, (AV.ptr 2 0)), (8, (li i1)), (9, (ls cI d1)), (17, (li (a_c.lists.length : Int))), (18, (li i1))]) [.box 55 (zG a_c), .box 55 ([(ls (cS cI) ([] : List (List Int)))] ++ []), .box 55 ([AV.osl 22 1 (List.map (cS cI) l2)] ++ [])] ∧ zEr (zDf a_c a_zone a_l n0) i1 l2 d1 = some r) ?_ ?_
    ·
     refine zI <| zC <| zA (zB rfl) <| zA (zB rfl) <| zA (zBT rfl rfl) <| zF ?_
     refine zQ (decide (i1 = a_zone)) rfl (fun hb7 => ?_) (fun hb7 => ?_)
     ·replace h := zo hb7 h
      refine zC <| zA (zB rfl) <| zA (zD rfl) <| zF ?_
      exact ⟨a_l, zAE [0, 1, 2] rfl rfl (by kernel_rfl), h⟩
     ·replace h := zv hb7 h
      refine zR ?_
      exact ⟨(at_ a_c.lists i1), zAE [0, 1, 2] rfl rfl (by kernel_rfl), h⟩
    ·
     clear h
     rintro e' H' ⟨d1, hrep, h⟩
     refine zY hrep ?_
     clear hrep
     unfold zEr at h
     refine zI <| zY (zB0 (k := 2) (o := 0) (t' := 22) (sz := 1) (rows := List.map (cS cI) l2) rfl rfl) ?_
     have hb4 := (zH h).1
     replace h := (zH h).2
     have hb5 := (zH h).1
     replace h := (zH h).2
     show AW _ _ _ _ _ _ [.box 55 (zG a_c), .box 55 ([(ls (cS cI) ([] : List (List Int)))] ++ []), .box 55 ([AV.hd 3] ++ []), .vec 22 1 (List.map (cS cI) l2)]
     refine zAz (n := 46) (m := 0) [.head 0 1, .head 0 1, .head 0 1, .head 0 0, .head 0 0, .tail 0, .head 1 1, .tail 1] [5, 7] [(AV.ptr 2 0), (AV.hd 3), (li i1), (ls cI d1), (li (d1.length : Int)), (AV.hd 4), (AV.ptr 3 (i1.toNat * 1)), .any] [[.box 55 (zG a_c), .box 55 ([(ls (cS cI) ([] : List (List Int)))] ++ []), .box 55 ([AV.hd 3] ++ []), .vec 22 1 (List.map (cS cI) l2)], [.box 55 (zG a_c), .box 55 ([(ls (cS cI) ([] : List (List Int)))] ++ []), .box 55 ([AV.hd 3] ++ []), .vec 22 1 (List.map (cS cI) l2), .vec 3 1 (List.map cI (List.replicate (d1.length : Int).toNat 0))], [.box 55 (zG a_c), .box 55 ([(ls (cS cI) ([] : List (List Int)))] ++ []), .box 55 ([AV.hd 3] ++ []), .vopen 22 1 (List.map (cS cI) l2) i1.toNat [.hd 4], .vec 3 1 (List.map cI (List.replicate (d1.length : Int).toNat 0))]] (by kernel_rfl) (by kernel_rfl) ⟨⟨?_, ?_⟩, ⟨?_, ?_⟩, ⟨?_, ?_⟩, ?_, ?_, ?_, ?_, ?_, trivial⟩ ?_
     ·exact fun e s p => zt (zM (k := 2) (o := 0) (off := 0) Tryz.underlying55 rfl rfl Tryz.sizeOf53 (s 7 rfl)) ⟨fun _ => rfl, rfl⟩
     ·exact fun e s p => zt (zM (k := 2) (o := 0) (off := 0) Tryz.underlying55 rfl rfl Tryz.sizeOf53 (s 7 rfl)) ⟨fun _ => rfl, rfl⟩
     ·exact fun e s p => zt (zN (k := 2) (o := 0) (a := (AV.hd 3)) Tryz.isAgg53 p.1 rfl rfl rfl) ⟨fun _ => rfl, rfl⟩
     ·exact fun e s p => zt (zN (k := 2) (o := 0) (a := (AV.hd 3)) Tryz.isAgg53 p.1 rfl rfl rfl) ⟨fun _ => rfl, rfl⟩
     ·exact fun e s p => zt (zB (av := (li i1)) (s 8 rfl)) ⟨fun _ => rfl, rfl⟩
     ·exact fun e s p => zt (zB (av := (li i1)) (s 8 rfl)) ⟨fun _ => rfl, rfl⟩
     ·exact fun e s p => zt (zB (av := (ls cI d1)) (s 9 rfl)) ⟨fun _ => rfl, rfl⟩
     ·exact fun e s p => zt (zX (f := cI) (l := d1) Tryz.underlying22 p.1) ⟨fun _ => rfl, rfl⟩
     ·
      intro e9 hs9 hp9
      refine zDy (f := cI) (a := (d1.length : Int)) (c := (d1.length : Int)) (d0 := 0) zIj ⟨zq.refl _, trivial⟩ rfl Tryz.underlying22 hp9.2.1 hp9.2.1 hb4 ?_
      exact zF ⟨fun _ => rfl, rfl⟩
     ·exact fun e s p => zt (zAI (f := (cS cI)) (l := l2) (i := i1) Tryz.underlying53 Tryz.sizeOf22 p.2.2.2.1 rfl p.2.2.2.2.1 hb5) ⟨fun _ => rfl, rfl⟩
     ·
      intro e11 hs11 hp11
      refine zx (H' := [.box 55 (zG a_c), .box 55 ([(ls (cS cI) ([] : List (List Int)))] ++ []), .box 55 ([AV.hd 3] ++ []), .vopen 22 1 (List.map (cS cI) l2) i1.toNat [.hd 4], .vec 3 1 (List.map cI (List.replicate (d1.length : Int).toNat 0))]) (zLB (k := 3) (j := 4) (i := i1.toNat) Tryz.sizeOf22 (by exact hp11.1) rfl rfl (by rw [List.length_map]; exact (zBW hb5).2) (by exact hp11.2.2.2.2.2.2.2.1) rfl) ?_
      exact zF ⟨fun _ => rfl, rfl⟩
     intro e12 hs12 hq1
     refine zY (zBV (l := [(1, (li a_zone)), (2, (ls cI a_l)), (3, (AV.ptr 0 0)), (6, (AV.ptr 1 0)), (7, (AV.ptr 2 0)), (8, (li i1)), (9, (ls cI d1)), (17, (li (a_c.lists.length : Int))), (18, (li i1))]) ⟨(hs12 1 rfl), (hs12 2 rfl), (hs12 3 rfl), (hs12 6 rfl), (hs12 7 rfl), (hs12 8 rfl), (hs12 9 rfl), (hs12 17 rfl), (hs12 18 rfl), trivial⟩) <| zC <| zA (zM (k := 2) (o := 0) (off := 0) Tryz.underlying55 rfl rfl Tryz.sizeOf53 rfl) <| zA (zN (k := 2) (o := 0) (a := (AV.hd 3)) Tryz.isAgg53 rfl rfl rfl rfl) <| zA (zB (av := (li i1)) rfl) <| zA (zO1 (row := []) (i := i1) Tryz.underlying53 Tryz.sizeOf22 rfl rfl rfl (by rw [List.length_map]; exact hb5)) ?_
     refine zA (zOf (k := 3) (i := i1.toNat) (a := .hd 4) Tryz.isAgg22 rfl rfl rfl rfl) <| zA (zB rfl) <| zb (H' := [.box 55 (zG a_c), .box 55 ([(ls (cS cI) ([] : List (List Int)))] ++ []), .box 55 ([AV.hd 3] ++ []), .vopen 22 1 (List.map (cS cI) l2) i1.toNat [.hd 4], .vec 3 1 (List.map cI (zCK (List.replicate (d1.length : Int).toNat 0) d1))]) (zJM (f := cI) (k := 4) (l := List.replicate (d1.length : Int).toNat 0) (l2 := d1) Tryz.underlying22 Tryz.sizeOf3 (fun _ => rfl) rfl rfl rfl) <| zF <| zC ?_
     have hb6 := (zH h).1
     replace h := (zH h).2
     refine zA (ze rfl rfl hb6) <| zA (zB rfl) <| zF ?_
     exact ⟨(n0, (i1 + 1), (l2.set i1.toNat (zCK (List.replicate (d1.length : Int).toNat 0) d1))), Nat.lt_succ_self _, Rep.trans (zLO (k := 3) (j := 4) (f := cI) (l := l2) (l' := zCK (List.replicate (d1.length : Int).toNat 0) d1) (fun _ => rfl) rfl rfl rfl) (Rep.trans (zAP (k := 2) (j := 3) (o := 0) rfl rfl rfl rfl) (zAE [0, 1, 2] (l := [(1, (li a_zone)), (2, (ls cI a_l)), (3, (AV.ptr 0 0)), (6, (AV.ptr 1 0)), (7, (AV.ptr 2 0)), (17, (li (a_c.lists.length : Int))), (18, (li (i1 + 1)))]) rfl rfl (by kernel_rfl))), h⟩
   ·replace h := zv hb2 h
    refine z8 ?_
    exact ⟨l2, zAE [1, 2] rfl rfl (by kernel_rfl), h⟩
 ·
  clear h
  rintro e' H' ⟨l1, hrep, h⟩
  refine zY hrep ?_
  clear hrep
  unfold zGF at h
  refine zI <| zC <| zAe (zCL (k := 1) (o := 0) (rows' := List.map (cS cI) l1) rfl rfl (zAa (fun _ => rfl))) <| zA (zT (k := 1) (o := 0) (m := 1) Tryz.isAgg55 Tryz.sizeOf55 rfl rfl rfl rfl rfl) <| zx (H' := [.box 55 (zG (⟨l1⟩ : zK)), .box 55 ([(ls (cS cI) l1)] ++ [])]) (zh (k := 0) (o := 0) (cs := ([(ls (cS cI) ([] : List (List Int)))] ++ [])) (la := (zG (⟨l1⟩ : zK))) Tryz.sizeOf55 rfl rfl rfl rfl) <| zF ?_
  refine za ?_
  show zAS _ _ _ _ _ _
  obtain rfl := Option.some.inj h
  exact zp (zHH Tryz.isAgg55 Tryz.sizeOf55 rfl rfl rfl rfl)
theorem zKs {a_p0 : zK} {a_p1 : Int} {a_p2 : List Int} {r : zK × Int} (h : zHF a_p0 a_p1 a_p2 = some r) : PFn Tryz.prog 109 [(AV.agg (zG a_p0)), (li a_p1), (ls cI a_p2)] (AV.tup [(AV.agg (zG r.1)), (li r.2)]) := by
 refine zi Tryz.func109 rfl Tryz.ntmps109 Tryz.results109 rfl ?_
 unfold zHF at h
 refine zI <| zC <| zb (H' := [.box 55 (zG a_p0)]) (zu (t := 55) rfl) <| zb (H' := [.box 55 (zG a_p0), .box 55 ([(ls (cS cI) ([] : List (List Int)))] ++ [])]) (z6 (t := 55) (vs := [.slice none 0 0]) (cs := [.sl false []]) Tryz.zeroValue55 (by kernel_rfl) rfl ⟨zq.nils, trivial⟩) <| zA (zD rfl) <| zF ?_
 refine zI <| zI <| zC <| zA (zT (k := 0) (o := 0) (m := 1) Tryz.isAgg55 Tryz.sizeOf55 rfl rfl rfl rfl rfl) <| zA (zB rfl) ?_
 refine zP h ?_; clear h; intro x1 hx1 h
 refine zd Tryz.func111 rfl (by kernel_rfl) (.fn 111) rfl rfl (zFt hx1) rfl <| zA (zD rfl) <| zF <| zI <| zC <| zA (zB rfl) ?_
 refine zA (z7 rfl rfl) <| zF ?_
 refine zQ (!decide (x1 = 0)) rfl (fun hb1 => ?_) (fun hb1 => ?_)
 ·replace h := zo hb1 h
  refine zI <| zC <| zA (zAD (pl := [(0, 1)]) (zs := [.slice none 0 0]) (zc := [.sl false []]) (res := (zG (⟨([] : List (List Int))⟩ : zK))) (fun _ => by kernel_rfl) rfl (⟨zq.nils, trivial⟩) (by exact zGB.refl _)) <| zA (zB rfl) <| zx (H' := [.box 55 (zG a_p0), .box 55 (zG (⟨([] : List (List Int))⟩ : zK))]) (zh (k := 1) (o := 0) (cs := ([(ls (cS cI) ([] : List (List Int)))] ++ [])) (la := (zG (⟨([] : List (List Int))⟩ : zK))) Tryz.sizeOf55 rfl rfl rfl rfl) <| zA (zD rfl) ?_
  refine zF <| za ?_
  show zAS _ _ _ _ _ _
  obtain rfl := Option.some.inj h
  exact zC1 (zHH Tryz.isAgg55 Tryz.sizeOf55 rfl rfl rfl rfl) (zAK rfl rfl) rfl
 ·replace h := zv hb1 h
  refine zR <| zI <| zC <| zA (zT (k := 0) (o := 0) (m := 1) Tryz.isAgg55 Tryz.sizeOf55 rfl rfl rfl rfl rfl) ?_
  refine zP h ?_; clear h; intro x2 hx2 h
  refine zLR (es := mI Value.bool x2) (la := [(AV.agg (zG a_p0))]) (la' := [(AV.agg (zG a_p0))]) (S := []) Tryz.func89 rfl (by kernel_rfl) (.fn 89) rfl ⟨zAt.nr rfl, trivial⟩ (zGz hx2) <| zA (zD rfl) <| zF ?_
  refine z5 (fun e' H' => Rep 75 0 e' H' (mkE [(1, (li a_p1)), (2, (ls cI a_p2)), (3, (AV.ptr 0 0)), (6, (AV.ptr 1 0))]) [.box 55 (zG a_p0), .box 55 ([(ls (cS cI) ([] : List (List Int)))] ++ [])] ∧ zG9 a_p0 a_p1 a_p2 = some r) ?_ ?_
  ·
   refine zI <| zC <| zA (zB rfl) <| zA (zX Tryz.underlying22 rfl) <| zA (zB rfl) <| zF ?_
   refine zS <| z9 (σ := Nat × Int × (List (Int × Bool))) (fun s => s.1) (fun s e' H' => match s with | (n1, i2, l3) => Rep 75 0 e' H' (mkE [(1, (li a_p1)), (2, (ls cI a_p2)), (3, (AV.ptr 0 0)), (6, (AV.ptr 1 0)), (9, (AV.hd 2)), (23, (ls cI a_p2)), (24, (li (a_p2.length : Int))), (25, (li i2))]) [.box 55 (zG a_p0), .box 55 ([(ls (cS cI) ([] : List (List Int)))] ++ []), .map (mI Value.bool l3)] ∧ zFK a_p0 a_p1 a_p2 n1 i2 l3 = some r) (zAC, 0, x2) ⟨zAE [0, 1, 2] rfl rfl (by kernel_rfl), h⟩ ?_
   clear h
   rintro ⟨n1, i2, l3⟩ e' H' ⟨hrep, h⟩
   cases n1 with
   | zero => exact absurd (show (none : Option _) = some r from h) (by simp)
   | succ n1 =>
    replace h : zGw a_p0 a_p1 a_p2 (zFK a_p0 a_p1 a_p2 n1) i2 l3 = some r := h
    unfold zGw at h
    refine zY hrep ?_
    clear hrep
    refine zI <| zC <| zA (zf rfl rfl) <| zF <| zI ?_
    refine zQ (decide (i2 < (a_p2.length : Int))) rfl (fun hb10 => ?_) (fun hb10 => ?_)
    ·replace h := zo hb10 h
     refine zR <| zI <| zS <| zI <| zC ?_
     have hb11 := (zH h).1
     replace h := (zH h).2
     refine zA (zV Tryz.underlying22 Tryz.sizeOf3 (fun _ => rfl) rfl rfl hb11) <| zA (zW (o := 0) Tryz.isAgg3 rfl rfl) <| zA (zD rfl) <| zF <| zI <| zI ?_
     refine zC <| zA (zB rfl) ?_
     refine zP h ?_; clear h; intro x5 hx5 h
     refine zd Tryz.func88 rfl (by kernel_rfl) (.fn 88) rfl rfl (zGS hx5) rfl <| zA (zA8 (t := x5) rfl) <| zF ?_
     refine zQ (!x5) rfl (fun hb12 => ?_) (fun hb12 => ?_)
     ·replace h := zo hb12 h
      refine zI <| zC <| zA (zAD (pl := [(0, 1)]) (zs := [.slice none 0 0]) (zc := [.sl false []]) (res := (zG (⟨([] : List (List Int))⟩ : zK))) (fun _ => by kernel_rfl) rfl (⟨zq.nils, trivial⟩) (by exact zGB.refl _)) <| zx (H' := [.box 55 (zG a_p0), .box 55 (zG (⟨([] : List (List Int))⟩ : zK)), .map (mI Value.bool l3)]) (zh (k := 1) (o := 0) (cs := ([(ls (cS cI) ([] : List (List Int)))] ++ [])) (la := (zG (⟨([] : List (List Int))⟩ : zK))) Tryz.sizeOf55 rfl rfl rfl rfl) <| zA (zD rfl) <| zF ?_
      refine za ?_
      show zAS _ _ _ _ _ _
      obtain rfl := Option.some.inj h
      exact zC1 (zHH Tryz.isAgg55 Tryz.sizeOf55 rfl rfl rfl rfl) (zAK rfl rfl) rfl
     ·replace h := zv hb12 h
      refine zR <| zI <| zI <| zC <| zA (zB rfl) <| zA (zB rfl) ?_
      refine zA (zLb (k := 2) (g := Value.bool) (q := at_ a_p2 i2) (l := l3) (dflt := false) (a := (AV.lit (.bool (zJ6 false l3 (at_ a_p2 i2))))) Tryz.underlying58 Tryz.underlying3 Tryz.zeroValue4 rfl rfl rfl rfl) <| zF ?_
      refine zQ (zJ6 false l3 (at_ a_p2 i2)) rfl (fun hb13 => ?_) (fun hb13 => ?_)
      ·replace h := zo hb13 h
       refine zI <| zC <| zA (zAD (pl := [(0, 1)]) (zs := [.slice none 0 0]) (zc := [.sl false []]) (res := (zG (⟨([] : List (List Int))⟩ : zK))) (fun _ => by kernel_rfl) rfl (⟨zq.nils, trivial⟩) (by exact zGB.refl _)) <| zx (H' := [.box 55 (zG a_p0), .box 55 (zG (⟨([] : List (List Int))⟩ : zK)), .map (mI Value.bool l3)]) (zh (k := 1) (o := 0) (cs := ([(ls (cS cI) ([] : List (List Int)))] ++ [])) (la := (zG (⟨([] : List (List Int))⟩ : zK))) Tryz.sizeOf55 rfl rfl rfl rfl) <| zA (zD rfl) <| zF ?_
       refine za ?_
       show zAS _ _ _ _ _ _
       obtain rfl := Option.some.inj h
       exact zC1 (zHH Tryz.isAgg55 Tryz.sizeOf55 rfl rfl rfl rfl) (zAK rfl rfl) rfl
      ·replace h := zv hb13 h
       refine zR <| zC <| zA (zB rfl) <| zA (zB rfl) <| zx (H' := [.box 55 (zG a_p0), .box 55 ([(ls (cS cI) ([] : List (List Int)))] ++ []), .map (mI Value.bool (zIt l3 (at_ a_p2 i2) true))]) (zLV (k := 2) (g := Value.bool) (q := at_ a_p2 i2) (l := l3) (v := true) Tryz.underlying58 Tryz.underlying3 rfl rfl rfl rfl) <| zF ?_
       refine zC ?_
       have hb14 := (zH h).1
       replace h := (zH h).2
       refine zA (ze rfl rfl hb14) <| zA (zB rfl) <| zF ?_
       exact ⟨(n1, (i2 + 1), (zIt l3 (at_ a_p2 i2) true)), Nat.lt_succ_self _, zAE [0, 1, 2] rfl rfl (by kernel_rfl), h⟩
    ·replace h := zv hb10 h
     refine z8 ?_
     exact ⟨zAE [0, 1] rfl rfl (by kernel_rfl), h⟩
  ·
   clear h
   rintro e' H' ⟨hrep, h⟩
   refine zY hrep ?_
   clear hrep
   unfold zG9 at h
   refine zI <| zC <| zA (zM Tryz.underlying55 rfl rfl Tryz.sizeOf53 rfl) <| zA (zN Tryz.isAgg53 rfl rfl rfl rfl) <| zA (zB rfl) ?_
   have hb2 := (zH h).1
   replace h := (zH h).2
   refine zA (zV Tryz.underlying53 Tryz.sizeOf22 (fun _ => rfl) rfl rfl hb2) <| zA (zW (o := 0) Tryz.isAgg22 rfl rfl) <| zA (zX Tryz.underlying22 rfl) ?_
   have hb3 := (zH h).1
   replace h := (zH h).2
   refine zDy (f := cI) (a := ((at_ a_p0.lists a_p1).length : Int)) (c := ((at_ a_p0.lists a_p1).length : Int)) (d0 := 0) zIj ⟨zq.refl _, trivial⟩ rfl Tryz.underlying22 rfl rfl hb3 <| zA (zD rfl) <| zF <| zI <| zC <| zA (zB rfl) ?_
   refine zA (zM Tryz.underlying55 rfl rfl Tryz.sizeOf53 rfl) <| zA (zN Tryz.isAgg53 rfl rfl rfl rfl) <| zA (zB rfl) <| zA (zV Tryz.underlying53 Tryz.sizeOf22 (fun _ => rfl) rfl rfl hb2) <| zA (zW (o := 0) Tryz.isAgg22 rfl rfl) <| zb (H' := [.box 55 (zG a_p0), .box 55 ([(ls (cS cI) ([] : List (List Int)))] ++ []), .vec 3 1 (List.map cI (zCK (List.replicate ((at_ a_p0.lists a_p1).length : Int).toNat 0) (at_ a_p0.lists a_p1)))]) (zJM (f := cI) (k := 2) (l := List.replicate ((at_ a_p0.lists a_p1).length : Int).toNat 0) (l2 := at_ a_p0.lists a_p1) Tryz.underlying22 Tryz.sizeOf3 (fun _ => rfl) rfl rfl rfl) ?_
   refine zF ?_
   refine z5 (fun e' H' => ∃ (l1 : List Int), Rep 75 0 e' H' (mkE [(1, (li a_p1)), (3, (AV.ptr 0 0)), (6, (AV.ptr 1 0)), (12, (AV.hd 2))]) [.box 55 (zG a_p0), .box 55 ([(ls (cS cI) ([] : List (List Int)))] ++ []), .vec 3 1 (List.map cI l1)] ∧ zG0 a_p0 a_p1 l1 = some r) ?_ ?_
   ·
    refine zI <| zC <| zA (zB rfl) <| zA (zX Tryz.underlying22 rfl) <| zA (zB rfl) <| zF ?_
    refine zS <| z9 (σ := Nat × Int × (List Int)) (fun s => s.1) (fun s e' H' => match s with | (n0, i1, l2) => Rep 75 0 e' H' (mkE [(1, (li a_p1)), (2, (ls cI a_p2)), (3, (AV.ptr 0 0)), (6, (AV.ptr 1 0)), (12, (AV.hd 2)), (55, (li (a_p2.length : Int))), (56, (li i1))]) [.box 55 (zG a_p0), .box 55 ([(ls (cS cI) ([] : List (List Int)))] ++ []), .vec 3 1 (List.map cI l2)] ∧ zFP a_p0 a_p1 a_p2 n0 i1 l2 = some r) (zAC, 0, (zCK (List.replicate ((at_ a_p0.lists a_p1).length : Int).toNat 0) (at_ a_p0.lists a_p1))) ⟨zAE [0, 1, 2] rfl rfl (by kernel_rfl), h⟩ ?_
    clear h
    rintro ⟨n0, i1, l2⟩ e' H' ⟨hrep, h⟩
    cases n0 with
    | zero => exact absurd (show (none : Option _) = some r from h) (by simp)
    | succ n0 =>
     replace h : zGy a_p0 a_p1 a_p2 (zFP a_p0 a_p1 a_p2 n0) i1 l2 = some r := h
     unfold zGy at h
     refine zY hrep ?_
     clear hrep
     refine zI <| zC <| zA (zf rfl rfl) <| zF <| zI ?_
     refine zQ (decide (i1 < (a_p2.length : Int))) rfl (fun hb4 => ?_) (fun hb4 => ?_)
     ·replace h := zo hb4 h
      refine zR <| zI <| zS <| zI <| zC <| zA (zB rfl) ?_
      refine zA (zD rfl) <| zF <| zC <| zA (zB rfl) <| zA (zB rfl) <| zA (zB rfl) ?_
      refine zA (zX Tryz.underlying22 rfl) ?_
      have hb5 := (zH h).1
      replace h := (zH h).2
      refine zA (zB5 rfl rfl hb5) <| zA (zB rfl) ?_
      have hb6 := (zH h).1
      replace h := (zH h).2
      refine zA (zB5 rfl rfl hb6) ?_
      have hb7 := (zH h).1
      replace h := (zH h).2
      refine zA (zV Tryz.underlying22 Tryz.sizeOf3 (fun _ => rfl) rfl rfl hb7) <| zA (zW (o := 0) Tryz.isAgg3 rfl rfl) <| zIR (a := (li (at_ a_p2 (((a_p2.length : Int) - 1) - i1)))) zIj Tryz.underlying22 rfl rfl rfl rfl ?_
      have hb8 := (zH h).1
      replace h := (zH h).2
      refine zGp (f := cI) (k := 2) (j := 3) (l := l2) (l' := [at_ a_p2 (((a_p2.length : Int) - 1) - i1)]) zIj (fun _ => rfl) Tryz.underlying22 rfl rfl rfl rfl hb8 <| zA (zD rfl) <| zF <| zC ?_
      have hb9 := (zH h).1
      replace h := (zH h).2
      refine zA (ze rfl rfl hb9) <| zA (zB rfl) <| zF ?_
      exact ⟨(n0, (i1 + 1), (l2 ++ [at_ a_p2 (((a_p2.length : Int) - 1) - i1)])), Nat.lt_succ_self _, zAE [0, 1, 4] rfl rfl (by kernel_rfl), h⟩
     ·replace h := zv hb4 h
      refine z8 ?_
      exact ⟨l2, zAE [0, 1, 2] rfl rfl (by kernel_rfl), h⟩
   ·
    clear h
    rintro e' H' ⟨l1, hrep, h⟩
    refine zY hrep ?_
    clear hrep
    unfold zG0 at h
    refine zI <| zC <| zA (zT (k := 0) (o := 0) (m := 1) Tryz.isAgg55 Tryz.sizeOf55 rfl rfl rfl rfl rfl) <| zA (zB rfl) <| zA (zB rfl) ?_
    refine zP h ?_; clear h; intro x3 hx3 h
    refine zAe (zFJ (j := 2) (ds := [12, 73]) (rows' := List.map cI l1) rfl (zAa (fun _ => rfl)) ⟨rfl, rfl, trivial⟩) ?_
    refine zP h ?_; clear h; intro x4 hx4 h
    refine zd Tryz.func112 rfl (by kernel_rfl) (.fn 112) rfl rfl (zDY hx4) rfl <| zx (H' := [.box 55 (zG a_p0), .box 55 (zG x4), .dead]) (zh (k := 1) (o := 0) (cs := ([(ls (cS cI) ([] : List (List Int)))] ++ [])) (la := (zG x4)) Tryz.sizeOf55 rfl rfl rfl rfl) <| zA (zD rfl) <| zF <| za ?_
    show zAS _ _ _ _ _ _
    obtain rfl := Option.some.inj h
    exact zC1 (zHH Tryz.isAgg55 Tryz.sizeOf55 rfl rfl rfl rfl) (zAK rfl rfl) rfl
theorem zHR {a_p0 : zL} {a_p1 : Int} {a_p2 : Int} {r : zL × Bool} (h : zFN a_p0 a_p1 a_p2 = some r) : AFn Tryz.prog 55 [(AV.ptr 0 0), (li a_p1), (li a_p2)] [.box 26 ([(ls cI a_p0.nodes)] ++ ([(li a_p0.batch)] ++ ([(li a_p0.high)] ++ ([AV.osl 51 10 (List.map zO a_p0.zones)] ++ ([AV.osl 55 1 (List.map zG a_p0.caches)] ++ [])))))] (AV.lit (.bool r.2)) [.box 26 ([(ls cI r.1.nodes)] ++ ([(li r.1.batch)] ++ ([(li r.1.high)] ++ ([AV.osl 51 10 (List.map zO r.1.zones)] ++ ([AV.osl 55 1 (List.map zG r.1.caches)] ++ [])))))] := by
 refine zGV Tryz.func55 rfl Tryz.ntmps55 Tryz.results55 rfl ?_
 unfold zFN at h
 refine zI <| zC <| zA (zD rfl) <| zF <| zI <| zC ?_
 refine zA (zD rfl) <| zF ?_
 refine z5 (fun e' H' => ∃ (l1 : List zm) (l2 : List Int), Rep 70 1 e' H' (mkE [(0, (AV.ptr 0 0)), (1, (li a_p1)), (2, (li a_p2)), (7, (AV.hd 1))]) [.box 26 ([(ls cI a_p0.nodes)] ++ ([(li a_p0.batch)] ++ ([(li a_p0.high)] ++ ([AV.osl 51 10 (List.map zO l1)] ++ ([AV.osl 55 1 (List.map zG a_p0.caches)] ++ []))))), .vec 3 1 (List.map cI l2)] ∧ zDm a_p0 a_p1 a_p2 l1 l2 = some r) ?_ ?_
 ·
  refine zI <| zC <| zA (zB rfl) <| zA (zAb rfl) <| zA (zM Tryz.underlying26 rfl rfl Tryz.sizeOf3 rfl) <| zA (zN Tryz.isAgg3 rfl rfl rfl rfl) ?_
  refine zA (zB rfl) <| zF <| zS <| z9 (σ := Nat × Int × (List zm) × (List Int)) (fun s => s.1) (fun s e' H' => match s with | (n0, i1, l4, l5) => Rep 70 1 e' H' (mkE [(0, (AV.ptr 0 0)), (1, (li a_p1)), (2, (li a_p2)), (7, (AV.hd 1)), (16, (li a_p0.batch)), (17, (li i1))]) [.box 26 ([(ls cI a_p0.nodes)] ++ ([(li a_p0.batch)] ++ ([(li a_p0.high)] ++ ([AV.osl 51 10 (List.map zO l4)] ++ ([AV.osl 55 1 (List.map zG a_p0.caches)] ++ []))))), .vec 3 1 (List.map cI l5)] ∧ zDs a_p0 a_p1 a_p2 n0 i1 l4 l5 = some r) (zAC, 0, a_p0.zones, []) ⟨Rep.trans (zO5 (d := 7) (el := 3) (sz := 1) rfl) (zAE [0, 1] (l := [(0, (AV.ptr 0 0)), (1, (li a_p1)), (2, (li a_p2)), (7, (AV.hd 1)), (16, (li a_p0.batch)), (17, (li 0))]) rfl rfl (by kernel_rfl)), h⟩ ?_
  clear h
  rintro ⟨n0, i1, l4, l5⟩ e' H' ⟨hrep, h⟩
  cases n0 with
  | zero => exact absurd (show (none : Option _) = some r from h) (by simp)
  | succ n0 =>
   replace h : zFT a_p0 a_p1 a_p2 (zDs a_p0 a_p1 a_p2 n0) i1 l4 l5 = some r := h
   unfold zFT at h
   refine zY hrep ?_
   clear hrep
   refine zI <| zC <| zA (zf rfl rfl) <| zF <| zI ?_
   refine zQ (decide (i1 < a_p0.batch)) rfl (fun hb3 => ?_) (fun hb3 => ?_)
   ·replace h := zo hb3 h
    refine zR <| zI <| zS <| zI <| zC <| zA (zB rfl) ?_
    refine zA (zAb rfl) <| zA (zM Tryz.underlying26 rfl rfl Tryz.sizeOf23 rfl) <| zAe (zB0 (k := 0) (o := 3) (t' := 51) (sz := 10) (rows := List.map zO l4) rfl rfl) <| zA (zN Tryz.isAgg23 rfl rfl rfl rfl) <| zA (zB rfl) ?_
    have hb4 := (zH h).1
    replace h := (zH h).2
    refine zA (zAI (f := zO) (l := l4) (i := a_p2) Tryz.underlying23 Tryz.sizeOf51 rfl rfl rfl hb4) <| zA (zDj (f := zO) (l := l4) (i := a_p2) (c := 0) (q := 10) (la := (zO (at_ l4 a_p2))) Tryz.isAgg51 Tryz.sizeOf51 rfl rfl (by first | rfl | omega) hb4 rfl rfl rfl) ?_
    refine zP h ?_; clear h; intro x3 hx3 h
    refine zd Tryz.func64 rfl (by kernel_rfl) (.fn 64) rfl rfl (zJb hx3) rfl <| zA (zB rfl) <| zA (zl rfl rfl) <| zA (zl rfl rfl) <| zA (zl rfl rfl) <| zb (H' := [.box 26 ([(ls cI a_p0.nodes)] ++ ([(li a_p0.batch)] ++ ([(li a_p0.high)] ++ ([AV.hd 2] ++ ([AV.osl 55 1 (List.map zG a_p0.caches)] ++ []))))), .vec 3 1 (List.map cI l5), .vec 51 10 (List.map zO l4), .box 51 ([(li 0)] ++ ([(li 0)] ++ ([(li 0)] ++ ([(li 0)] ++ ([(li 0)] ++ ((cA 5 (eS cI) ([] : List Int) (List.replicate 5 ([] : List Int))) ++ []))))))]) (z6 (t := 51) (vs := [.int .i64 0, .int .i64 0, .int .i64 0, .int .i64 0, .int .i64 0, .slice none 0 0, .slice none 0 0, .slice none 0 0, .slice none 0 0, .slice none 0 0]) (cs := [.lit (.int .i64 0), .lit (.int .i64 0), .lit (.int .i64 0), .lit (.int .i64 0), .lit (.int .i64 0), .sl false [], .sl false [], .sl false [], .sl false [], .sl false []]) Tryz.zeroValue51 (by kernel_rfl) rfl ⟨zq.refl _, zq.refl _, zq.refl _, zq.refl _, zq.refl _, zq.nils, zq.nils, zq.nils, zq.nils, zq.nils, trivial⟩) ?_
    refine zx (H' := [.box 26 ([(ls cI a_p0.nodes)] ++ ([(li a_p0.batch)] ++ ([(li a_p0.high)] ++ ([AV.hd 2] ++ ([AV.osl 55 1 (List.map zG a_p0.caches)] ++ []))))), .vec 3 1 (List.map cI l5), .vec 51 10 (List.map zO l4), .box 51 (zO x3.1)]) (zh (k := 3) (o := 0) (cs := ([(li 0)] ++ ([(li 0)] ++ ([(li 0)] ++ ([(li 0)] ++ ([(li 0)] ++ ((cA 5 (eS cI) ([] : List Int) (List.replicate 5 ([] : List Int))) ++ []))))))) (la := (zO x3.1)) Tryz.sizeOf51 rfl rfl rfl rfl) <| zA (zD rfl) <| zA (zD rfl) <| zF <| zI <| zI ?_
    refine zC <| zA (zB rfl) <| zA (z7 rfl rfl) <| zF ?_
    refine zQ (!decide (x3.2.2 = 0)) rfl (fun hb5 => ?_) (fun hb5 => ?_)
    ·replace h := zo hb5 h
     refine z8 ?_
     exact ⟨l4, l5, Rep.trans (zAP (k := 0) (j := 2) (o := 3) rfl rfl rfl rfl) (zAE [0, 1] (l := [(0, (AV.ptr 0 0)), (1, (li a_p1)), (2, (li a_p2)), (7, (AV.hd 1))]) rfl rfl (by kernel_rfl)), h⟩
    ·replace h := zv hb5 h
     refine zR <| zI ?_
     show AW _ _ _ _ _ _ [.box 26 ([(ls cI a_p0.nodes)] ++ ([(li a_p0.batch)] ++ ([(li a_p0.high)] ++ ([AV.hd 2] ++ ([AV.osl 55 1 (List.map zG a_p0.caches)] ++ []))))), .vec 3 1 (List.map cI l5), .vec 51 10 (List.map zO l4), .box 51 (zO x3.1)]
     refine zAz (n := 70) (m := 1) [.head 0 0, .head 0 0, .head 0 0, .head 0 0, .head 0 0, .head 0 0, .head 0 0, .tail 0] [7] [(AV.ptr 0 0), (AV.ptr 0 0), (AV.ptr 0 3), (AV.hd 2), (li a_p2), (AV.agg (zO x3.1)), (AV.ptr 2 (a_p2.toNat * 10)), .any] [[.box 26 ([(ls cI a_p0.nodes)] ++ ([(li a_p0.batch)] ++ ([(li a_p0.high)] ++ ([AV.hd 2] ++ ([AV.osl 55 1 (List.map zG a_p0.caches)] ++ []))))), .vec 3 1 (List.map cI l5), .vec 51 10 (List.map zO l4), .box 51 (zO x3.1)], [.box 26 ([(ls cI a_p0.nodes)] ++ ([(li a_p0.batch)] ++ ([(li a_p0.high)] ++ ([AV.hd 2] ++ ([AV.osl 55 1 (List.map zG a_p0.caches)] ++ []))))), .vec 3 1 (List.map cI l5), .vec 51 10 (List.map zO (l4.set a_p2.toNat x3.1)), .box 51 (zO x3.1)]] (by kernel_rfl) (by kernel_rfl) ⟨?_, ?_, ?_, ?_, ?_, ?_, ?_, ?_, trivial⟩ ?_
     ·exact fun e s p => zt (zB (av := (AV.ptr 0 0)) (s 0 rfl)) ⟨fun _ => rfl, rfl⟩
     ·exact fun e s p => zt (zAb p.1) ⟨fun _ => rfl, rfl⟩
     ·exact fun e s p => zt (zM (k := 0) (o := 0) (off := 3) Tryz.underlying26 rfl rfl Tryz.sizeOf23 p.1) ⟨fun _ => rfl, rfl⟩
     ·exact fun e s p => zt (zN (k := 0) (o := 3) (a := (AV.hd 2)) Tryz.isAgg23 p.1 rfl rfl rfl) ⟨fun _ => rfl, rfl⟩
     ·exact fun e s p => zt (zB (av := (li a_p2)) (s 2 rfl)) ⟨fun _ => rfl, rfl⟩
     ·exact fun e s p => zt (zT (k := 3) (o := 0) (m := 10) (la := (zO x3.1)) Tryz.isAgg51 Tryz.sizeOf51 (s 8 rfl) rfl rfl rfl rfl) ⟨fun _ => rfl, rfl⟩
     ·exact fun e s p => zt (zAI (f := zO) (l := l4) (i := a_p2) Tryz.underlying23 Tryz.sizeOf51 p.2.2.2.2.2.1 rfl p.2.2.2.2.2.2.1 hb4) ⟨fun _ => rfl, rfl⟩
     ·
      intro e17 hs17 hp16
      refine zx (H' := [.box 26 ([(ls cI a_p0.nodes)] ++ ([(li a_p0.batch)] ++ ([(li a_p0.high)] ++ ([AV.hd 2] ++ ([AV.osl 55 1 (List.map zG a_p0.caches)] ++ []))))), .vec 3 1 (List.map cI l5), .vec 51 10 (List.map zO (l4.set a_p2.toNat x3.1)), .box 51 (zO x3.1)]) (zCw (k := 2) (o := (a_p2.toNat * 10)) (f := zO) (l := l4) (i := a_p2) (z := x3.1) Tryz.sizeOf51 (fun _ => rfl) (by exact hp16.1) rfl (by first | rfl | omega) hb4 (by exact hp16.2.2.2.2.2.2.2.1) rfl) ?_
      exact zF ⟨fun _ => rfl, rfl⟩
     intro e18 hs18 hq2
     refine zY (zBV (l := [(0, (AV.ptr 0 0)), (1, (li a_p1)), (2, (li a_p2)), (7, (AV.hd 1)), (9, (li x3.2.1)), (16, (li a_p0.batch)), (17, (li i1))]) ⟨(hs18 0 rfl), (hs18 1 rfl), (hs18 2 rfl), (hs18 7 rfl), (hs18 9 rfl), (hs18 16 rfl), (hs18 17 rfl), trivial⟩) <| zC <| zA (zB (av := (AV.hd 1)) rfl) <| zA (zB (av := (li x3.2.1)) rfl) <| zIR (a := (li x3.2.1)) zIj Tryz.underlying22 rfl rfl rfl rfl ?_
     have hb6 := (zH h).1
     replace h := (zH h).2
     refine zGp (f := cI) (k := 1) (j := 4) (l := l5) (l' := [x3.2.1]) zIj (fun _ => rfl) Tryz.underlying22 rfl rfl rfl rfl hb6 <| zA (zD rfl) <| zF <| zC ?_
     have hb7 := (zH h).1
     replace h := (zH h).2
     refine zA (ze rfl rfl hb7) <| zA (zB rfl) <| zF ?_
     exact ⟨(n0, (i1 + 1), (l4.set a_p2.toNat x3.1), (l5 ++ [x3.2.1])), Nat.lt_succ_self _, Rep.trans (zAP (k := 0) (j := 2) (o := 3) rfl rfl rfl rfl) (zAE [0, 5] (l := [(0, (AV.ptr 0 0)), (1, (li a_p1)), (2, (li a_p2)), (7, (AV.hd 1)), (16, (li a_p0.batch)), (17, (li (i1 + 1)))]) rfl rfl (by kernel_rfl)), h⟩
   ·replace h := zv hb3 h
    refine z8 ?_
    exact ⟨l4, l5, zAE [0, 1] rfl rfl (by kernel_rfl), h⟩
 ·
  clear h
  rintro e' H' ⟨l1, l2, hrep, h⟩
  refine zY hrep ?_
  clear hrep
  unfold zDm at h
  refine z5 (fun e' H' => ∃ (l3 : List zK), Rep 70 1 e' H' (mkE [(7, (ls cI l2))]) [.box 26 ([(ls cI a_p0.nodes)] ++ ([(li a_p0.batch)] ++ ([(li a_p0.high)] ++ ([AV.osl 51 10 (List.map zO l1)] ++ ([AV.osl 55 1 (List.map zG l3)] ++ [])))))] ∧ zDu a_p0 l1 l2 l3 = some r) ?_ ?_
  ·
   refine zI <| zC <| zA (zB rfl) <| zA (zAb rfl) <| zA (zM Tryz.underlying26 rfl rfl Tryz.sizeOf24 rfl) <| zAe (zB0 (k := 0) (o := 4) (t' := 55) (sz := 1) (rows := List.map zG a_p0.caches) rfl rfl) ?_
   refine zA (zN Tryz.isAgg24 rfl rfl rfl rfl) <| zA (zB rfl) ?_
   have hb1 := (zH h).1
   replace h := (zH h).2
   refine zA (zAI (f := zG) (l := a_p0.caches) (i := a_p1) Tryz.underlying24 Tryz.sizeOf55 rfl rfl rfl hb1) <| zA (zDj (f := zG) (l := a_p0.caches) (i := a_p1) (c := 0) (q := 1) (la := (zG (at_ a_p0.caches a_p1))) Tryz.isAgg55 Tryz.sizeOf55 rfl rfl (by first | rfl | omega) hb1 rfl rfl rfl) <| zA (zB rfl) <| zA (zB rfl) ?_
   refine zP h ?_; clear h; intro x1 hx1 h
   refine zAe (zFJ (j := 1) (ds := [7, 54]) (rows' := List.map cI l2) rfl (zAa (fun _ => rfl)) ⟨rfl, rfl, trivial⟩) ?_
   refine zP h ?_; clear h; intro x2 hx2 h
   refine zd Tryz.func109 rfl (by kernel_rfl) (.fn 109) rfl rfl (zKs hx2) rfl <| zA (zB rfl) <| zA (zl rfl rfl) <| zA (zl rfl rfl) <| zb (H' := [.box 26 ([(ls cI a_p0.nodes)] ++ ([(li a_p0.batch)] ++ ([(li a_p0.high)] ++ ([AV.osl 51 10 (List.map zO l1)] ++ ([AV.hd 2] ++ []))))), .dead, .vec 55 1 (List.map zG a_p0.caches), .box 55 ([(ls (cS cI) ([] : List (List Int)))] ++ [])]) (z6 (t := 55) (vs := [.slice none 0 0]) (cs := [.sl false []]) Tryz.zeroValue55 (by kernel_rfl) rfl ⟨zq.nils, trivial⟩) <| zx (H' := [.box 26 ([(ls cI a_p0.nodes)] ++ ([(li a_p0.batch)] ++ ([(li a_p0.high)] ++ ([AV.osl 51 10 (List.map zO l1)] ++ ([AV.hd 2] ++ []))))), .dead, .vec 55 1 (List.map zG a_p0.caches), .box 55 (zG x2.1)]) (zh (k := 3) (o := 0) (cs := ([(ls (cS cI) ([] : List (List Int)))] ++ [])) (la := (zG x2.1)) Tryz.sizeOf55 rfl rfl rfl rfl) ?_
   refine zA (zD rfl) <| zF <| zI <| zC <| zA (zB rfl) <| zA (zBT rfl rfl) ?_
   refine zF ?_
   refine zQ (decide (x2.2 = 0)) rfl (fun hb2 => ?_) (fun hb2 => ?_)
   ·replace h := zo hb2 h
    show AW _ _ _ _ _ _ [.box 26 ([(ls cI a_p0.nodes)] ++ ([(li a_p0.batch)] ++ ([(li a_p0.high)] ++ ([AV.osl 51 10 (List.map zO l1)] ++ ([AV.hd 2] ++ []))))), .dead, .vec 55 1 (List.map zG a_p0.caches), .box 55 (zG x2.1)]
    refine zAz (n := 70) (m := 1) [.head 0 0, .head 0 0, .head 0 0, .head 0 0, .head 0 0, .head 0 0, .head 0 0, .tail 0] [7] [(AV.ptr 0 0), (AV.ptr 0 0), (AV.ptr 0 4), (AV.hd 2), (li a_p1), (AV.agg (zG x2.1)), (AV.ptr 2 (a_p1.toNat * 1)), .any] [[.box 26 ([(ls cI a_p0.nodes)] ++ ([(li a_p0.batch)] ++ ([(li a_p0.high)] ++ ([AV.osl 51 10 (List.map zO l1)] ++ ([AV.hd 2] ++ []))))), .dead, .vec 55 1 (List.map zG a_p0.caches), .box 55 (zG x2.1)], [.box 26 ([(ls cI a_p0.nodes)] ++ ([(li a_p0.batch)] ++ ([(li a_p0.high)] ++ ([AV.osl 51 10 (List.map zO l1)] ++ ([AV.hd 2] ++ []))))), .dead, .vec 55 1 (List.map zG (a_p0.caches.set a_p1.toNat x2.1)), .box 55 (zG x2.1)]] (by kernel_rfl) (by kernel_rfl) ⟨?_, ?_, ?_, ?_, ?_, ?_, ?_, ?_, trivial⟩ ?_
    ·exact fun e s p => zt (zB (av := (AV.ptr 0 0)) (s 0 rfl)) ⟨fun _ => rfl, rfl⟩
    ·exact fun e s p => zt (zAb p.1) ⟨fun _ => rfl, rfl⟩
    ·exact fun e s p => zt (zM (k := 0) (o := 0) (off := 4) Tryz.underlying26 rfl rfl Tryz.sizeOf24 p.1) ⟨fun _ => rfl, rfl⟩
    ·exact fun e s p => zt (zN (k := 0) (o := 4) (a := (AV.hd 2)) Tryz.isAgg24 p.1 rfl rfl rfl) ⟨fun _ => rfl, rfl⟩
    ·exact fun e s p => zt (zB (av := (li a_p1)) (s 1 rfl)) ⟨fun _ => rfl, rfl⟩
    ·exact fun e s p => zt (zT (k := 3) (o := 0) (m := 1) (la := (zG x2.1)) Tryz.isAgg55 Tryz.sizeOf55 (s 11 rfl) rfl rfl rfl rfl) ⟨fun _ => rfl, rfl⟩
    ·exact fun e s p => zt (zAI (f := zG) (l := a_p0.caches) (i := a_p1) Tryz.underlying24 Tryz.sizeOf55 p.2.2.2.2.2.1 rfl p.2.2.2.2.2.2.1 hb1) ⟨fun _ => rfl, rfl⟩
    ·
     intro e8 hs8 hp8
     refine zx (H' := [.box 26 ([(ls cI a_p0.nodes)] ++ ([(li a_p0.batch)] ++ ([(li a_p0.high)] ++ ([AV.osl 51 10 (List.map zO l1)] ++ ([AV.hd 2] ++ []))))), .dead, .vec 55 1 (List.map zG (a_p0.caches.set a_p1.toNat x2.1)), .box 55 (zG x2.1)]) (zCw (k := 2) (o := (a_p1.toNat * 1)) (f := zG) (l := a_p0.caches) (i := a_p1) (z := x2.1) Tryz.sizeOf55 (fun _ => rfl) (by exact hp8.1) rfl (by first | rfl | omega) hb1 (by exact hp8.2.2.2.2.2.2.2.1) rfl) ?_
     exact zF ⟨fun _ => rfl, rfl⟩
    intro e9 hs9 hq1
    exact ⟨(a_p0.caches.set a_p1.toNat x2.1), Rep.trans (zBV (l := [(7, (ls cI l2))]) ⟨(hs9 7 rfl), trivial⟩) (Rep.trans (zAP (k := 0) (j := 2) (o := 4) (cs := ([(ls cI a_p0.nodes)] ++ ([(li a_p0.batch)] ++ ([(li a_p0.high)] ++ ([AV.osl 51 10 (List.map zO l1)] ++ ([AV.hd 2] ++ [])))))) rfl rfl rfl rfl) (zAE [0] (l := [(7, (ls cI l2))]) rfl rfl (by kernel_rfl))), h⟩
   ·replace h := zv hb2 h
    refine zR ?_
    exact ⟨a_p0.caches, Rep.trans (zAP (k := 0) (j := 2) (o := 4) rfl rfl rfl rfl) (zAE [0] (l := [(7, (ls cI l2))]) rfl rfl (by kernel_rfl)), h⟩
  ·
   clear h
   rintro e' H' ⟨l3, hrep, h⟩
   refine zY hrep ?_
   clear hrep
   unfold zDu at h
   refine zI <| zC <| zA (zB rfl) <| zA (zX Tryz.underlying22 rfl) <| zA (zAp rfl rfl) <| zA (zD rfl) ?_
   refine zF <| za ?_
   show zPF _ _ _ _ _ _ _ _
   obtain rfl := Option.some.inj h
   exact ⟨mkE [(6, (AV.lit (.bool (decide (0 < (l2.length : Int))))))], [.box 26 ([(ls cI a_p0.nodes)] ++ ([(li a_p0.batch)] ++ ([(li a_p0.high)] ++ ([AV.osl 51 10 (List.map zO l1)] ++ ([AV.osl 55 1 (List.map zG l3)] ++ [])))))], zAE [0] rfl rfl (by kernel_rfl), zSh rfl rfl⟩
theorem zK5 {a_c : zK} {a_zone : Int} {r : zK × (List Int) × Int} (h : zIz a_c a_zone = some r) : PFn Tryz.prog 110 [(AV.agg (zG a_c)), (li a_zone)] (AV.tup [(AV.agg (zG r.1)), (ls cI r.2.1), (li r.2.2)]) := by
 refine zi Tryz.func110 rfl Tryz.ntmps110 Tryz.results110 rfl ?_
 unfold zIz at h
 refine zI <| zC <| zb (H' := [.box 55 (zG a_c)]) (zu (t := 55) rfl) <| zb (H' := [.box 55 (zG a_c), .box 55 ([(ls (cS cI) ([] : List (List Int)))] ++ [])]) (z6 (t := 55) (vs := [.slice none 0 0]) (cs := [.sl false []]) Tryz.zeroValue55 (by kernel_rfl) rfl ⟨zq.nils, trivial⟩) <| zA (zD rfl) <| zA (zD rfl) ?_
 refine zF <| zI <| zI <| zC <| zA (zT (k := 0) (o := 0) (m := 1) Tryz.isAgg55 Tryz.sizeOf55 rfl rfl rfl rfl rfl) <| zA (zB rfl) ?_
 refine zP h ?_; clear h; intro x1 hx1 h
 refine zd Tryz.func111 rfl (by kernel_rfl) (.fn 111) rfl rfl (zFt hx1) rfl <| zA (zD rfl) <| zF <| zI <| zC <| zA (zB rfl) ?_
 refine zA (z7 rfl rfl) <| zF ?_
 refine zQ (!decide (x1 = 0)) rfl (fun hb1 => ?_) (fun hb1 => ?_)
 ·replace h := zo hb1 h
  refine zI <| zC <| zA (zAD (pl := [(0, 1)]) (zs := [.slice none 0 0]) (zc := [.sl false []]) (res := (zG (⟨([] : List (List Int))⟩ : zK))) (fun _ => by kernel_rfl) rfl (⟨zq.nils, trivial⟩) (by exact zGB.refl _)) <| zA (zB rfl) <| zx (H' := [.box 55 (zG a_c), .box 55 (zG (⟨([] : List (List Int))⟩ : zK))]) (zh (k := 1) (o := 0) (cs := ([(ls (cS cI) ([] : List (List Int)))] ++ [])) (la := (zG (⟨([] : List (List Int))⟩ : zK))) Tryz.sizeOf55 rfl rfl rfl rfl) <| zA (zD rfl) ?_
  refine zA (zD rfl) <| zF <| za ?_
  show zAS _ _ _ _ _ _
  obtain rfl := Option.some.inj h
  exact zEF (zHH Tryz.isAgg55 Tryz.sizeOf55 rfl rfl rfl rfl) (zJG (zAK rfl rfl) zq.nils) (zAK rfl rfl) rfl
 ·replace h := zv hb1 h
  refine zR <| zI <| zC <| zA (zM Tryz.underlying55 rfl rfl Tryz.sizeOf53 rfl) <| zA (zN Tryz.isAgg53 rfl rfl rfl rfl) <| zA (zB rfl) ?_
  have hb2 := (zH h).1
  replace h := (zH h).2
  refine zA (zV Tryz.underlying53 Tryz.sizeOf22 (fun _ => rfl) rfl rfl hb2) <| zA (zW (o := 0) Tryz.isAgg22 rfl rfl) <| zA (zX Tryz.underlying22 rfl) ?_
  have hb3 := (zH h).1
  replace h := (zH h).2
  refine zDy (f := cI) (a := ((at_ a_c.lists a_zone).length : Int)) (c := ((at_ a_c.lists a_zone).length : Int)) (d0 := 0) zIj ⟨zq.refl _, trivial⟩ rfl Tryz.underlying22 rfl rfl hb3 <| zA (zD rfl) <| zF <| zI <| zC <| zA (zB rfl) ?_
  refine zA (zM Tryz.underlying55 rfl rfl Tryz.sizeOf53 rfl) <| zA (zN Tryz.isAgg53 rfl rfl rfl rfl) <| zA (zB rfl) <| zA (zV Tryz.underlying53 Tryz.sizeOf22 (fun _ => rfl) rfl rfl hb2) <| zA (zW (o := 0) Tryz.isAgg22 rfl rfl) <| zb (H' := [.box 55 (zG a_c), .box 55 ([(ls (cS cI) ([] : List (List Int)))] ++ []), .vec 3 1 (List.map cI (zCK (List.replicate ((at_ a_c.lists a_zone).length : Int).toNat 0) (at_ a_c.lists a_zone)))]) (zJM (f := cI) (k := 2) (l := List.replicate ((at_ a_c.lists a_zone).length : Int).toNat 0) (l2 := at_ a_c.lists a_zone) Tryz.underlying22 Tryz.sizeOf3 (fun _ => rfl) rfl rfl rfl) ?_
  refine zF <| zI <| zC <| zA (zT (k := 0) (o := 0) (m := 1) Tryz.isAgg55 Tryz.sizeOf55 rfl rfl rfl rfl rfl) <| zA (zB rfl) ?_
  refine zP h ?_; clear h; intro x2 hx2 h
  refine zA3 (r' := (AV.agg (zG x2))) (la := [(AV.agg (zG a_c)), (li a_zone), (AV.lit (.slice none 0 0))]) (la' := [(AV.agg (zG a_c)), (li a_zone), (ls cI [])]) (r := (AV.agg (zG x2))) (S := []) Tryz.func112 rfl (by kernel_rfl) (.fn 112) rfl ⟨zAt.nr rfl, zAt.nr rfl, zAt.sub zq.nils rfl, trivial⟩ (zDY hx2) (.inl rfl) rfl <| zA (zB rfl) <| zx (H' := [.box 55 (zG a_c), .box 55 (zG x2), .vec 3 1 (List.map cI (zCK (List.replicate ((at_ a_c.lists a_zone).length : Int).toNat 0) (at_ a_c.lists a_zone)))]) (zh (k := 1) (o := 0) (cs := ([(ls (cS cI) ([] : List (List Int)))] ++ [])) (la := (zG x2)) Tryz.sizeOf55 rfl rfl rfl rfl) <| zA (zD rfl) <| zA (zD rfl) <| zF ?_
  refine zY (zFJ (j := 2) (ds := [5, 8, 22, 23, 33]) (rows' := List.map cI (zCK (List.replicate ((at_ a_c.lists a_zone).length : Int).toNat 0) (at_ a_c.lists a_zone))) rfl (zAa (fun _ => rfl)) ⟨rfl, rfl, rfl, rfl, rfl, trivial⟩) <| za ?_
  show zAS _ _ _ _ _ _
  obtain rfl := Option.some.inj h
  exact zEF (zHH Tryz.isAgg55 Tryz.sizeOf55 rfl rfl rfl rfl) (zAK rfl rfl) (zAK rfl rfl) rfl
theorem zMH {a_z : zm} {a_frame : Int} {a_order : Int} {r : zm × Int} (h : zKN a_z a_frame a_order = some r) : PFn Tryz.prog 71 [(AV.agg (zO a_z)), (li a_frame), (li a_order)] (AV.tup [(AV.agg (zO r.1)), (li r.2)]) := by
 refine zi Tryz.func71 rfl Tryz.ntmps71 Tryz.results71 rfl ?_
 unfold zKN at h
 refine zI <| zC <| zb (H' := [.box 51 (zO a_z)]) (zu (t := 51) rfl) <| zb (H' := [.box 51 (zO a_z), .box 51 ([(li 0)] ++ ([(li 0)] ++ ([(li 0)] ++ ([(li 0)] ++ ([(li 0)] ++ ((cA 5 (eS cI) ([] : List Int) (List.replicate 5 ([] : List Int))) ++ []))))))]) (z6 (t := 51) (vs := [.int .i64 0, .int .i64 0, .int .i64 0, .int .i64 0, .int .i64 0, .slice none 0 0, .slice none 0 0, .slice none 0 0, .slice none 0 0, .slice none 0 0]) (cs := [.lit (.int .i64 0), .lit (.int .i64 0), .lit (.int .i64 0), .lit (.int .i64 0), .lit (.int .i64 0), .sl false [], .sl false [], .sl false [], .sl false [], .sl false []]) Tryz.zeroValue51 (by kernel_rfl) rfl ⟨zq.refl _, zq.refl _, zq.refl _, zq.refl _, zq.refl _, zq.nils, zq.nils, zq.nils, zq.nils, zq.nils, trivial⟩) <| zA (zD rfl) <| zF ?_
 refine zI <| zI <| zC <| zA (zT (k := 0) (o := 0) (m := 10) Tryz.isAgg51 Tryz.sizeOf51 rfl rfl rfl rfl rfl) ?_
 refine zP h ?_; clear h; intro x1 hx1 h
 refine zd Tryz.func42 rfl (by kernel_rfl) (.fn 42) rfl rfl (zD6 hx1) rfl <| zA (zD rfl) <| zF <| zI <| zC <| zA (zB rfl) ?_
 refine zA (z7 rfl rfl) <| zF ?_
 refine zQ (!decide (x1 = 0)) rfl (fun hb1 => ?_) (fun hb1 => ?_)
 ·replace h := zo hb1 h
  refine zI <| zC <| zA (zAD (pl := [(0, 1), (1, 1), (2, 1), (3, 1), (4, 1), (5, 5)]) (zs := [.int .i64 0, .int .i64 0, .int .i64 0, .int .i64 0, .int .i64 0, .slice none 0 0, .slice none 0 0, .slice none 0 0, .slice none 0 0, .slice none 0 0]) (zc := [.lit (.int .i64 0), .lit (.int .i64 0), .lit (.int .i64 0), .lit (.int .i64 0), .lit (.int .i64 0), .sl false [], .sl false [], .sl false [], .sl false [], .sl false []]) (res := (zO (⟨0, 0, 0, 0, 0, (List.replicate 5 ([] : List Int))⟩ : zm))) (fun _ => by kernel_rfl) rfl (⟨zq.refl _, ⟨zq.refl _, ⟨zq.refl _, ⟨zq.refl _, ⟨zq.refl _, ⟨zq.nils, ⟨zq.nils, ⟨zq.nils, ⟨zq.nils, ⟨zq.nils, trivial⟩⟩⟩⟩⟩⟩⟩⟩⟩⟩) (by exact zGB.refl _)) <| zA (zB rfl) <| zx (H' := [.box 51 (zO a_z), .box 51 (zO (⟨0, 0, 0, 0, 0, (List.replicate 5 ([] : List Int))⟩ : zm))]) (zh (k := 1) (o := 0) (cs := ([(li 0)] ++ ([(li 0)] ++ ([(li 0)] ++ ([(li 0)] ++ ([(li 0)] ++ ((cA 5 (eS cI) ([] : List Int) (List.replicate 5 ([] : List Int))) ++ []))))))) (la := (zO (⟨0, 0, 0, 0, 0, (List.replicate 5 ([] : List Int))⟩ : zm))) Tryz.sizeOf51 rfl rfl rfl rfl) <| zA (zD rfl) ?_
  refine zF <| za ?_
  show zAS _ _ _ _ _ _
  obtain rfl := Option.some.inj h
  exact zC1 (zHH Tryz.isAgg51 Tryz.sizeOf51 rfl rfl rfl rfl) (zAK rfl rfl) rfl
 ·replace h := zv hb1 h
  refine zR <| zI <| zI <| zC <| zA (zB rfl) <| zA (zf rfl rfl) ?_
  refine zA (zB rfl) <| zU rfl rfl (fun hc1 => zj.step (zB rfl)) <| zU rfl rfl (fun hc2 => zj.step (zAp (zz rfl hc2) rfl)) <| zA (zZ rfl rfl) <| zA (zB rfl) <| zU rfl rfl (fun hc3 => zj.step (zT (k := 0) (o := 0) (m := 10) Tryz.isAgg51 Tryz.sizeOf51 rfl rfl rfl rfl rfl)) ?_
  refine zU rfl rfl (fun hc4 => zj.step (zB rfl)) <| zU rfl rfl (fun hc5 => zj.step (zB rfl)) ?_
  refine zP h ?_; clear h; intro x2 hx2 h
  refine zBZ (g := 25) (s := (decide (a_order < 0)) || (decide (4 < a_order))) (r' := (AV.lit (.bool x2))) rfl rfl (fun hc6 => ⟨86, _, _, [], [(AV.agg (zO a_z)), (li a_frame), (li a_order)], [(AV.agg ([(li a_z.node)] ++ ([(li a_z.kind)] ++ ([(li a_z.start)] ++ ([(li a_z.count)] ++ ([(li a_z.min)] ++ ([AV.any, AV.any, AV.any, AV.any, AV.any] ++ []))))))), (li a_frame), (li a_order)], (AV.lit (.bool x2)), [], Tryz.func86, rfl, by kernel_rfl, (.fn 86), (zAF (zz rfl hc6) (zAF (zz rfl hc6) (zAF (zz rfl hc6) rfl))), ⟨zJy (hd := ([(li a_z.node)] ++ [(li a_z.kind)] ++ [(li a_z.start)] ++ [(li a_z.count)] ++ [(li a_z.min)])) (tl := ((cA 5 (eS cI) ([] : List Int) a_z.free))) rfl, zAt.nr rfl, zAt.nr rfl, trivial⟩, zEe (zo hc6 hx2), .inl rfl, rfl⟩) <| zU rfl rfl (fun hc7 => zj.step (zA8 (t := x2) (zz rfl hc7))) <| zA (zZ rfl rfl) <| zF ?_
  refine zQ (((decide (a_order < 0)) || (decide (4 < a_order))) || (!x2)) rfl (fun hb2 => ?_) (fun hb2 => ?_)
  ·replace h := zo hb2 h
   refine zI <| zC <| zA (zAD (pl := [(0, 1), (1, 1), (2, 1), (3, 1), (4, 1), (5, 5)]) (zs := [.int .i64 0, .int .i64 0, .int .i64 0, .int .i64 0, .int .i64 0, .slice none 0 0, .slice none 0 0, .slice none 0 0, .slice none 0 0, .slice none 0 0]) (zc := [.lit (.int .i64 0), .lit (.int .i64 0), .lit (.int .i64 0), .lit (.int .i64 0), .lit (.int .i64 0), .sl false [], .sl false [], .sl false [], .sl false [], .sl false []]) (res := (zO (⟨0, 0, 0, 0, 0, (List.replicate 5 ([] : List Int))⟩ : zm))) (fun _ => by kernel_rfl) rfl (⟨zq.refl _, ⟨zq.refl _, ⟨zq.refl _, ⟨zq.refl _, ⟨zq.refl _, ⟨zq.nils, ⟨zq.nils, ⟨zq.nils, ⟨zq.nils, ⟨zq.nils, trivial⟩⟩⟩⟩⟩⟩⟩⟩⟩⟩) (by exact zGB.refl _)) <| zx (H' := [.box 51 (zO a_z), .box 51 (zO (⟨0, 0, 0, 0, 0, (List.replicate 5 ([] : List Int))⟩ : zm))]) (zh (k := 1) (o := 0) (cs := ([(li 0)] ++ ([(li 0)] ++ ([(li 0)] ++ ([(li 0)] ++ ([(li 0)] ++ ((cA 5 (eS cI) ([] : List Int) (List.replicate 5 ([] : List Int))) ++ []))))))) (la := (zO (⟨0, 0, 0, 0, 0, (List.replicate 5 ([] : List Int))⟩ : zm))) Tryz.sizeOf51 rfl rfl rfl rfl) <| zA (zD rfl) <| zF ?_
   refine za ?_
   show zAS _ _ _ _ _ _
   obtain rfl := Option.some.inj h
   exact zC1 (zHH Tryz.isAgg51 Tryz.sizeOf51 rfl rfl rfl rfl) (zAK rfl rfl) rfl
  ·replace h := zv hb2 h
   refine zR ?_
   refine z5 (fun e' H' => Rep 57 0 e' H' (mkE [(1, (li a_frame)), (2, (li a_order)), (3, (AV.ptr 0 0)), (6, (AV.ptr 1 0))]) [.box 51 (zO a_z), .box 51 ([(li 0)] ++ ([(li 0)] ++ ([(li 0)] ++ ([(li 0)] ++ ([(li 0)] ++ ((cA 5 (eS cI) ([] : List Int) (List.replicate 5 ([] : List Int))) ++ []))))))] ∧ zIQ a_z a_frame a_order = some r) ?_ ?_
   ·
    refine zI <| zC <| zA (zB rfl) <| zA (zD rfl) <| zF <| zS ?_
    refine z9 (σ := Nat × Int) (fun s => s.1) (fun s e' H' => match s with | (n0, i1) => Rep 57 0 e' H' (mkE [(1, (li a_frame)), (2, (li a_order)), (3, (AV.ptr 0 0)), (6, (AV.ptr 1 0)), (9, (li i1))]) [.box 51 (zO a_z), .box 51 ([(li 0)] ++ ([(li 0)] ++ ([(li 0)] ++ ([(li 0)] ++ ([(li 0)] ++ ((cA 5 (eS cI) ([] : List Int) (List.replicate 5 ([] : List Int))) ++ []))))))] ∧ zHK a_z a_frame a_order n0 i1 = some r) (zAC, a_frame) ⟨zAE [0, 1] rfl rfl (by kernel_rfl), h⟩ ?_
    clear h
    rintro ⟨n0, i1⟩ e' H' ⟨hrep, h⟩
    cases n0 with
    | zero => exact absurd (show (none : Option _) = some r from h) (by simp)
    | succ n0 =>
     replace h : zIo a_z a_frame a_order (zHK a_z a_frame a_order n0) i1 = some r := h
     unfold zIo at h
     refine zY hrep ?_
     clear hrep
     refine zI <| zI <| zC <| zA (zB rfl) <| zA (zB rfl) <| zA (zB rfl) ?_
     have hb3 := (zH h).1
     replace h := (zH h).2
     have hb4 := (zH h).1
     replace h := (zH h).2
     refine zA (zDp (a := 1) (b := a_order) rfl rfl hb3 hb4) ?_
     have hb5 := (zH h).1
     replace h := (zH h).2
     refine zA (ze rfl rfl hb5) <| zA (zf rfl rfl) <| zF ?_
     refine zQ (decide (i1 < (a_frame + ((1 : Int) * 2 ^ a_order.toNat)))) rfl (fun hb6 => ?_) (fun hb6 => ?_)
     ·replace h := zo hb6 h
      refine zR <| zI <| zS <| zI <| zC <| zA (zT (k := 0) (o := 0) (m := 10) Tryz.isAgg51 Tryz.sizeOf51 rfl rfl rfl rfl rfl) ?_
      refine zA (zB rfl) ?_
      refine zP h ?_; clear h; intro x5 hx5 h
      refine zd Tryz.func92 rfl (by kernel_rfl) (.fn 92) rfl rfl (zJe hx5) rfl <| zA (zB rfl) <| zA (zl rfl rfl) <| zA (zl rfl rfl) <| zA (zD rfl) <| zA (zD rfl) ?_
      refine zF <| zI <| zC <| zA (zB rfl) <| zA (zAq rfl rfl) <| zF ?_
      refine zQ (decide (0 ≤ x5.1)) rfl (fun hb7 => ?_) (fun hb7 => ?_)
      ·replace h := zo hb7 h
       refine zI <| zC <| zA (zAD (pl := [(0, 1), (1, 1), (2, 1), (3, 1), (4, 1), (5, 5)]) (zs := [.int .i64 0, .int .i64 0, .int .i64 0, .int .i64 0, .int .i64 0, .slice none 0 0, .slice none 0 0, .slice none 0 0, .slice none 0 0, .slice none 0 0]) (zc := [.lit (.int .i64 0), .lit (.int .i64 0), .lit (.int .i64 0), .lit (.int .i64 0), .lit (.int .i64 0), .sl false [], .sl false [], .sl false [], .sl false [], .sl false []]) (res := (zO (⟨0, 0, 0, 0, 0, (List.replicate 5 ([] : List Int))⟩ : zm))) (fun _ => by kernel_rfl) rfl (⟨zq.refl _, ⟨zq.refl _, ⟨zq.refl _, ⟨zq.refl _, ⟨zq.refl _, ⟨zq.nils, ⟨zq.nils, ⟨zq.nils, ⟨zq.nils, ⟨zq.nils, trivial⟩⟩⟩⟩⟩⟩⟩⟩⟩⟩) (by exact zGB.refl _)) <| zx (H' := [.box 51 (zO a_z), .box 51 (zO (⟨0, 0, 0, 0, 0, (List.replicate 5 ([] : List Int))⟩ : zm))]) (zh (k := 1) (o := 0) (cs := ([(li 0)] ++ ([(li 0)] ++ ([(li 0)] ++ ([(li 0)] ++ ([(li 0)] ++ ((cA 5 (eS cI) ([] : List Int) (List.replicate 5 ([] : List Int))) ++ []))))))) (la := (zO (⟨0, 0, 0, 0, 0, (List.replicate 5 ([] : List Int))⟩ : zm))) Tryz.sizeOf51 rfl rfl rfl rfl) <| zA (zD rfl) <| zF ?_
       refine za ?_
       show zAS _ _ _ _ _ _
       obtain rfl := Option.some.inj h
       exact zC1 (zHH Tryz.isAgg51 Tryz.sizeOf51 rfl rfl rfl rfl) (zAK rfl rfl) rfl
      ·replace h := zv hb7 h
       refine zR <| zC <| zA (zB rfl) ?_
       have hb8 := (zH h).1
       replace h := (zH h).2
       refine zA (ze rfl rfl hb8) <| zA (zD rfl) <| zF ?_
       exact ⟨(n0, (i1 + 1)), Nat.lt_succ_self _, zAE [0, 1] rfl rfl (by kernel_rfl), h⟩
     ·replace h := zv hb6 h
      refine z8 ?_
      exact ⟨zAE [0, 1] rfl rfl (by kernel_rfl), h⟩
   ·
    clear h
    rintro e' H' ⟨hrep, h⟩
    refine zY hrep ?_
    clear hrep
    unfold zIQ at h
    refine zI <| zC <| zA (zT (k := 0) (o := 0) (m := 10) Tryz.isAgg51 Tryz.sizeOf51 rfl rfl rfl rfl rfl) ?_
    refine zP h ?_; clear h; intro x3 hx3 h
    refine zIK (cs := ([(li x3.node)] ++ ([(li x3.kind)] ++ ([(li x3.start)] ++ ([(li x3.count)] ++ ([(li x3.min)] ++ ((cM 5 3 (5 : Int) x3.free) ++ []))))))) (la := [(AV.agg (zO a_z))]) (la' := [(AV.agg (zO a_z))]) (S := []) Tryz.func118 rfl (by kernel_rfl) (.fn 118) rfl ⟨zAt.nr rfl, trivial⟩ (zJd hx3) (.inl rfl) <| zb (H' := [.box 51 (zO a_z), .box 51 ([(li 0)] ++ ([(li 0)] ++ ([(li 0)] ++ ([(li 0)] ++ ([(li 0)] ++ ((cA 5 (eS cI) ([] : List Int) (List.replicate 5 ([] : List Int))) ++ [])))))), .val (.agg ([(li x3.node)] ++ ([(li x3.kind)] ++ ([(li x3.start)] ++ ([(li x3.count)] ++ ([(li x3.min)] ++ ((cM 5 3 (5 : Int) x3.free) ++ []))))))), .box 51 ([(li 0)] ++ ([(li 0)] ++ ([(li 0)] ++ ([(li 0)] ++ ([(li 0)] ++ ((cA 5 (eS cI) ([] : List Int) (List.replicate 5 ([] : List Int))) ++ []))))))]) (z6 (t := 51) (vs := [.int .i64 0, .int .i64 0, .int .i64 0, .int .i64 0, .int .i64 0, .slice none 0 0, .slice none 0 0, .slice none 0 0, .slice none 0 0, .slice none 0 0]) (cs := [.lit (.int .i64 0), .lit (.int .i64 0), .lit (.int .i64 0), .lit (.int .i64 0), .lit (.int .i64 0), .sl false [], .sl false [], .sl false [], .sl false [], .sl false []]) Tryz.zeroValue51 (by kernel_rfl) rfl ⟨zq.refl _, zq.refl _, zq.refl _, zq.refl _, zq.refl _, zq.nils, zq.nils, zq.nils, zq.nils, zq.nils, trivial⟩) <| zx (H' := [.box 51 (zO a_z), .box 51 ([(li 0)] ++ ([(li 0)] ++ ([(li 0)] ++ ([(li 0)] ++ ([(li 0)] ++ ((cA 5 (eS cI) ([] : List Int) (List.replicate 5 ([] : List Int))) ++ [])))))), .dead, .box 51 ([(li x3.node)] ++ ([(li x3.kind)] ++ ([(li x3.start)] ++ ([(li x3.count)] ++ ([(li x3.min)] ++ ((cM 5 3 (5 : Int) x3.free) ++ []))))))]) (zEk (k := 3) (o := 0) (j := 2) (cs := ([(li 0)] ++ ([(li 0)] ++ ([(li 0)] ++ ([(li 0)] ++ ([(li 0)] ++ ((cA 5 (eS cI) ([] : List Int) (List.replicate 5 ([] : List Int))) ++ []))))))) (la := ([(li x3.node)] ++ ([(li x3.kind)] ++ ([(li x3.start)] ++ ([(li x3.count)] ++ ([(li x3.min)] ++ ((cM 5 3 (5 : Int) x3.free) ++ []))))))) Tryz.sizeOf51 rfl rfl rfl rfl rfl (by decide)) <| zF <| zI <| zC ?_
    refine zA (zB rfl) <| zA (zB rfl) ?_
    refine zP h ?_; clear h; intro x4 hx4 h
    refine zD2 (k := 3) (la := [(AV.ptr 3 0), (li a_frame), (li a_order)]) (la' := [(AV.ptr 0 0), (li a_frame), (li a_order)]) (r := (.tup [])) (S := []) (en' := .box 51 ([(li x4.node)] ++ ([(li x4.kind)] ++ ([(li x4.start)] ++ ([(li x4.count)] ++ ([(li x4.min)] ++ ((cM 5 3 (5 : Int) x4.free) ++ []))))))) Tryz.func125 rfl (by kernel_rfl) (.fn 125) rfl ⟨zCn.ptr, zCn.of (zAt.nr rfl), zCn.of (zAt.nr rfl), trivial⟩ rfl rfl (by kernel_rfl) (by kernel_rfl) (zKl hx4) rfl (.inl rfl) <| zF <| zI <| zC <| zAe (zJu (k := 3) (cs := ([(li x4.node)] ++ ([(li x4.kind)] ++ ([(li x4.start)] ++ ([(li x4.count)] ++ ([(li x4.min)] ++ ((cM 5 3 (5 : Int) x4.free) ++ []))))))) (hd := ([(li x4.node)] ++ [(li x4.kind)] ++ [(li x4.start)] ++ [(li x4.count)] ++ [(li x4.min)] ++ [])) (tl := ([])) (N := 5) (T := 3) (K := 5) (l := x4.free) rfl rfl) <| zA (zT (k := 3) (o := 0) (m := 10) Tryz.isAgg51 Tryz.sizeOf51 rfl rfl rfl rfl rfl) ?_
    refine zx (H' := [.box 51 (zO a_z), .box 51 (zO (⟨x4.node, x4.kind, x4.start, x4.count, x4.min, x4.free⟩ : zm)), .dead, .box 51 ([(li x4.node)] ++ ([(li x4.kind)] ++ ([(li x4.start)] ++ ([(li x4.count)] ++ ([(li x4.min)] ++ ((cA 5 (eS cI) ([] : List Int) x4.free) ++ []))))))]) (zh (k := 1) (o := 0) (cs := ([(li 0)] ++ ([(li 0)] ++ ([(li 0)] ++ ([(li 0)] ++ ([(li 0)] ++ ((cA 5 (eS cI) ([] : List Int) (List.replicate 5 ([] : List Int))) ++ []))))))) (la := (zO (⟨x4.node, x4.kind, x4.start, x4.count, x4.min, x4.free⟩ : zm))) Tryz.sizeOf51 rfl rfl rfl rfl) <| zA (zD rfl) <| zF <| za ?_
    show zAS _ _ _ _ _ _
    obtain rfl := Option.some.inj h
    exact zC1 (zHH Tryz.isAgg51 Tryz.sizeOf51 rfl rfl rfl rfl) (zAK rfl rfl) rfl
theorem zIN {a_a : zL} {a_z : Int} {a_frames : List Int} {r : zL} (h : zGa a_a a_z a_frames = some r) : AFn Tryz.prog 68 [(AV.ptr 0 0), (li a_z), (ls cI a_frames)] [.box 26 ([(ls cI a_a.nodes)] ++ ([(li a_a.batch)] ++ ([(li a_a.high)] ++ ([AV.osl 51 10 (List.map zO a_a.zones)] ++ ([AV.osl 55 1 (List.map zG a_a.caches)] ++ [])))))] (.tup []) [.box 26 ([(ls cI r.nodes)] ++ ([(li r.batch)] ++ ([(li r.high)] ++ ([AV.osl 51 10 (List.map zO r.zones)] ++ ([AV.osl 55 1 (List.map zG r.caches)] ++ [])))))] := by
 refine zGV Tryz.func68 rfl Tryz.ntmps68 Tryz.results68 rfl ?_
 unfold zGa at h
 refine zI <| zC <| zA (zB rfl) <| zA (zX Tryz.underlying22 rfl) <| zA (zB rfl) <| zF ?_
 refine zS <| z9 (σ := Nat × Int × (List zm)) (fun s => s.1) (fun s e' H' => match s with | (n0, i1, l1) => Rep 38 1 e' H' (mkE [(0, (AV.ptr 0 0)), (1, (li a_z)), (10, (ls cI a_frames)), (11, (li (a_frames.length : Int))), (12, (li i1))]) [.box 26 ([(ls cI a_a.nodes)] ++ ([(li a_a.batch)] ++ ([(li a_a.high)] ++ ([AV.osl 51 10 (List.map zO l1)] ++ ([AV.osl 55 1 (List.map zG a_a.caches)] ++ [])))))] ∧ zDi a_a a_z a_frames n0 i1 l1 = some r) (zAC, 0, a_a.zones) ⟨zAE [0] rfl rfl (by kernel_rfl), h⟩ ?_
 clear h
 rintro ⟨n0, i1, l1⟩ e' H' ⟨hrep, h⟩
 cases n0 with
 | zero => exact absurd (show (none : Option _) = some r from h) (by simp)
 | succ n0 =>
  replace h : zGT a_a a_z a_frames (zDi a_a a_z a_frames n0) i1 l1 = some r := h
  unfold zGT at h
  refine zY hrep ?_
  clear hrep
  refine zI <| zC <| zA (zf rfl rfl) <| zF <| zI ?_
  refine zQ (decide (i1 < (a_frames.length : Int))) rfl (fun hb1 => ?_) (fun hb1 => ?_)
  ·replace h := zo hb1 h
   refine zR ?_
   refine z5 (fun e' H' => ∃ (l2 : List zm), Rep 38 1 e' H' (mkE [(0, (AV.ptr 0 0)), (1, (li a_z)), (10, (ls cI a_frames)), (11, (li (a_frames.length : Int))), (12, (li i1))]) [.box 26 ([(ls cI a_a.nodes)] ++ ([(li a_a.batch)] ++ ([(li a_a.high)] ++ ([AV.osl 51 10 (List.map zO l2)] ++ ([AV.osl 55 1 (List.map zG a_a.caches)] ++ [])))))] ∧ zEu (zDi a_a a_z a_frames n0) i1 l2 = some r) ?_ ?_
   ·
    refine zS <| zI <| zC ?_
    have hb3 := (zH h).1
    replace h := (zH h).2
    refine zA (zV Tryz.underlying22 Tryz.sizeOf3 (fun _ => rfl) rfl rfl hb3) <| zA (zW (o := 0) Tryz.isAgg3 rfl rfl) <| zA (zD rfl) <| zF <| zI <| zC ?_
    refine zA (zB rfl) <| zA (zAb rfl) <| zA (zM Tryz.underlying26 rfl rfl Tryz.sizeOf23 rfl) <| zAe (zB0 (k := 0) (o := 3) (t' := 51) (sz := 10) (rows := List.map zO l1) rfl rfl) <| zA (zN Tryz.isAgg23 rfl rfl rfl rfl) <| zA (zB rfl) ?_
    have hb4 := (zH h).1
    replace h := (zH h).2
    refine zA (zAI (f := zO) (l := l1) (i := a_z) Tryz.underlying23 Tryz.sizeOf51 rfl rfl rfl hb4) <| zA (zDj (f := zO) (l := l1) (i := a_z) (c := 0) (q := 10) (la := (zO (at_ l1 a_z))) Tryz.isAgg51 Tryz.sizeOf51 rfl rfl (by first | rfl | omega) hb4 rfl rfl rfl) <| zA (zB rfl) ?_
    refine zP h ?_; clear h; intro x1 hx1 h
    refine zd Tryz.func71 rfl (by kernel_rfl) (.fn 71) rfl rfl (zMH hx1) rfl <| zA (zB rfl) <| zA (zl rfl rfl) <| zA (zl rfl rfl) <| zb (H' := [.box 26 ([(ls cI a_a.nodes)] ++ ([(li a_a.batch)] ++ ([(li a_a.high)] ++ ([AV.hd 1] ++ ([AV.osl 55 1 (List.map zG a_a.caches)] ++ []))))), .vec 51 10 (List.map zO l1), .box 51 ([(li 0)] ++ ([(li 0)] ++ ([(li 0)] ++ ([(li 0)] ++ ([(li 0)] ++ ((cA 5 (eS cI) ([] : List Int) (List.replicate 5 ([] : List Int))) ++ []))))))]) (z6 (t := 51) (vs := [.int .i64 0, .int .i64 0, .int .i64 0, .int .i64 0, .int .i64 0, .slice none 0 0, .slice none 0 0, .slice none 0 0, .slice none 0 0, .slice none 0 0]) (cs := [.lit (.int .i64 0), .lit (.int .i64 0), .lit (.int .i64 0), .lit (.int .i64 0), .lit (.int .i64 0), .sl false [], .sl false [], .sl false [], .sl false [], .sl false []]) Tryz.zeroValue51 (by kernel_rfl) rfl ⟨zq.refl _, zq.refl _, zq.refl _, zq.refl _, zq.refl _, zq.nils, zq.nils, zq.nils, zq.nils, zq.nils, trivial⟩) <| zx (H' := [.box 26 ([(ls cI a_a.nodes)] ++ ([(li a_a.batch)] ++ ([(li a_a.high)] ++ ([AV.hd 1] ++ ([AV.osl 55 1 (List.map zG a_a.caches)] ++ []))))), .vec 51 10 (List.map zO l1), .box 51 (zO x1.1)]) (zh (k := 2) (o := 0) (cs := ([(li 0)] ++ ([(li 0)] ++ ([(li 0)] ++ ([(li 0)] ++ ([(li 0)] ++ ((cA 5 (eS cI) ([] : List Int) (List.replicate 5 ([] : List Int))) ++ []))))))) (la := (zO x1.1)) Tryz.sizeOf51 rfl rfl rfl rfl) ?_
    refine zA (zD rfl) <| zF <| zI <| zC <| zA (zB rfl) <| zA (zBT rfl rfl) ?_
    refine zF ?_
    refine zQ (decide (x1.2 = 0)) rfl (fun hb5 => ?_) (fun hb5 => ?_)
    ·replace h := zo hb5 h
     show AW _ _ _ _ _ _ [.box 26 ([(ls cI a_a.nodes)] ++ ([(li a_a.batch)] ++ ([(li a_a.high)] ++ ([AV.hd 1] ++ ([AV.osl 55 1 (List.map zG a_a.caches)] ++ []))))), .vec 51 10 (List.map zO l1), .box 51 (zO x1.1)]
     refine zAz (n := 38) (m := 1) [.head 0 0, .head 0 0, .head 0 0, .head 0 0, .head 0 0, .head 0 0, .head 0 0, .tail 0] [7] [(AV.ptr 0 0), (AV.ptr 0 0), (AV.ptr 0 3), (AV.hd 1), (li a_z), (AV.agg (zO x1.1)), (AV.ptr 1 (a_z.toNat * 10)), .any] [[.box 26 ([(ls cI a_a.nodes)] ++ ([(li a_a.batch)] ++ ([(li a_a.high)] ++ ([AV.hd 1] ++ ([AV.osl 55 1 (List.map zG a_a.caches)] ++ []))))), .vec 51 10 (List.map zO l1), .box 51 (zO x1.1)], [.box 26 ([(ls cI a_a.nodes)] ++ ([(li a_a.batch)] ++ ([(li a_a.high)] ++ ([AV.hd 1] ++ ([AV.osl 55 1 (List.map zG a_a.caches)] ++ []))))), .vec 51 10 (List.map zO (l1.set a_z.toNat x1.1)), .box 51 (zO x1.1)]] (by kernel_rfl) (by kernel_rfl) ⟨?_, ?_, ?_, ?_, ?_, ?_, ?_, ?_, trivial⟩ ?_
     ·exact fun e s p => zt (zB (av := (AV.ptr 0 0)) (s 0 rfl)) ⟨fun _ => rfl, rfl⟩
     ·exact fun e s p => zt (zAb p.1) ⟨fun _ => rfl, rfl⟩
     ·exact fun e s p => zt (zM (k := 0) (o := 0) (off := 3) Tryz.underlying26 rfl rfl Tryz.sizeOf23 p.1) ⟨fun _ => rfl, rfl⟩
     ·exact fun e s p => zt (zN (k := 0) (o := 3) (a := (AV.hd 1)) Tryz.isAgg23 p.1 rfl rfl rfl) ⟨fun _ => rfl, rfl⟩
     ·exact fun e s p => zt (zB (av := (li a_z)) (s 1 rfl)) ⟨fun _ => rfl, rfl⟩
     ·exact fun e s p => zt (zT (k := 2) (o := 0) (m := 10) (la := (zO x1.1)) Tryz.isAgg51 Tryz.sizeOf51 (s 8 rfl) rfl rfl rfl rfl) ⟨fun _ => rfl, rfl⟩
     ·exact fun e s p => zt (zAI (f := zO) (l := l1) (i := a_z) Tryz.underlying23 Tryz.sizeOf51 p.2.2.2.2.2.1 rfl p.2.2.2.2.2.2.1 hb4) ⟨fun _ => rfl, rfl⟩
     ·
      intro e8 hs8 hp8
      refine zx (H' := [.box 26 ([(ls cI a_a.nodes)] ++ ([(li a_a.batch)] ++ ([(li a_a.high)] ++ ([AV.hd 1] ++ ([AV.osl 55 1 (List.map zG a_a.caches)] ++ []))))), .vec 51 10 (List.map zO (l1.set a_z.toNat x1.1)), .box 51 (zO x1.1)]) (zCw (k := 1) (o := (a_z.toNat * 10)) (f := zO) (l := l1) (i := a_z) (z := x1.1) Tryz.sizeOf51 (fun _ => rfl) (by exact hp8.1) rfl (by first | rfl | omega) hb4 (by exact hp8.2.2.2.2.2.2.2.1) rfl) ?_
      exact zF ⟨fun _ => rfl, rfl⟩
     intro e9 hs9 hq1
     exact ⟨(l1.set a_z.toNat x1.1), Rep.trans (zBV (l := [(0, (AV.ptr 0 0)), (1, (li a_z)), (10, (ls cI a_frames)), (11, (li (a_frames.length : Int))), (12, (li i1))]) ⟨(hs9 0 rfl), (hs9 1 rfl), (hs9 10 rfl), (hs9 11 rfl), (hs9 12 rfl), trivial⟩) (Rep.trans (zAP (k := 0) (j := 1) (o := 3) (cs := ([(ls cI a_a.nodes)] ++ ([(li a_a.batch)] ++ ([(li a_a.high)] ++ ([AV.hd 1] ++ ([AV.osl 55 1 (List.map zG a_a.caches)] ++ [])))))) rfl rfl rfl rfl) (zAE [0] (l := [(0, (AV.ptr 0 0)), (1, (li a_z)), (10, (ls cI a_frames)), (11, (li (a_frames.length : Int))), (12, (li i1))]) rfl rfl (by kernel_rfl))), h⟩
    ·replace h := zv hb5 h
     refine zR ?_
     exact ⟨l1, Rep.trans (zAP (k := 0) (j := 1) (o := 3) rfl rfl rfl rfl) (zAE [0] (l := [(0, (AV.ptr 0 0)), (1, (li a_z)), (10, (ls cI a_frames)), (11, (li (a_frames.length : Int))), (12, (li i1))]) rfl rfl (by kernel_rfl)), h⟩
   ·
    clear h
    rintro e' H' ⟨l2, hrep, h⟩
    refine zY hrep ?_
    clear hrep
    unfold zEu at h
    refine zC ?_
    have hb2 := (zH h).1
    replace h := (zH h).2
    refine zA (ze rfl rfl hb2) <| zA (zB rfl) <| zF ?_
    exact ⟨(n0, (i1 + 1), l2), Nat.lt_succ_self _, zAE [0] rfl rfl (by kernel_rfl), h⟩
  ·replace h := zv hb1 h
   refine z8 ?_
   show zPF _ _ _ _ _ _ _ _
   obtain rfl := Option.some.inj h
   exact ⟨mkE [], [.box 26 ([(ls cI a_a.nodes)] ++ ([(li a_a.batch)] ++ ([(li a_a.high)] ++ ([AV.osl 51 10 (List.map zO l1)] ++ ([AV.osl 55 1 (List.map zG a_a.caches)] ++ [])))))], zAE [0] rfl rfl (by kernel_rfl), zLP rfl⟩
theorem zF5 {a_a : zL} {a_cpu : Int} {a_z : Int} {r : zL} (h : zEQ a_a a_cpu a_z = some r) : AFn Tryz.prog 56 [(AV.ptr 0 0), (li a_cpu), (li a_z)] [.box 26 ([(ls cI a_a.nodes)] ++ ([(li a_a.batch)] ++ ([(li a_a.high)] ++ ([AV.osl 51 10 (List.map zO a_a.zones)] ++ ([AV.osl 55 1 (List.map zG a_a.caches)] ++ [])))))] (.tup []) [.box 26 ([(ls cI r.nodes)] ++ ([(li r.batch)] ++ ([(li r.high)] ++ ([AV.osl 51 10 (List.map zO r.zones)] ++ ([AV.osl 55 1 (List.map zG r.caches)] ++ [])))))] := by
 refine zGV Tryz.func56 rfl Tryz.ntmps56 Tryz.results56 rfl ?_
 unfold zEQ at h
 refine zI <| zC <| zA (zB rfl) <| zA (zAb rfl) <| zA (zM Tryz.underlying26 rfl rfl Tryz.sizeOf24 rfl) <| zAe (zB0 (k := 0) (o := 4) (t' := 55) (sz := 1) (rows := List.map zG a_a.caches) rfl rfl) ?_
 refine zA (zN Tryz.isAgg24 rfl rfl rfl rfl) <| zA (zB rfl) ?_
 have hb1 := (zH h).1
 replace h := (zH h).2
 refine zA (zAI (f := zG) (l := a_a.caches) (i := a_cpu) Tryz.underlying24 Tryz.sizeOf55 rfl rfl rfl hb1) <| zA (zDj (f := zG) (l := a_a.caches) (i := a_cpu) (c := 0) (q := 1) (la := (zG (at_ a_a.caches a_cpu))) Tryz.isAgg55 Tryz.sizeOf55 rfl rfl (by first | rfl | omega) hb1 rfl rfl rfl) <| zA (zB rfl) ?_
 refine zP h ?_; clear h; intro x1 hx1 h
 refine zd Tryz.func110 rfl (by kernel_rfl) (.fn 110) rfl rfl (zK5 hx1) rfl <| zA (zB rfl) <| zA (zl rfl rfl) <| zA (zl rfl rfl) <| zA (zl rfl rfl) <| zb (H' := [.box 26 ([(ls cI a_a.nodes)] ++ ([(li a_a.batch)] ++ ([(li a_a.high)] ++ ([AV.osl 51 10 (List.map zO a_a.zones)] ++ ([AV.hd 1] ++ []))))), .vec 55 1 (List.map zG a_a.caches), .box 55 ([(ls (cS cI) ([] : List (List Int)))] ++ [])]) (z6 (t := 55) (vs := [.slice none 0 0]) (cs := [.sl false []]) Tryz.zeroValue55 (by kernel_rfl) rfl ⟨zq.nils, trivial⟩) ?_
 refine zx (H' := [.box 26 ([(ls cI a_a.nodes)] ++ ([(li a_a.batch)] ++ ([(li a_a.high)] ++ ([AV.osl 51 10 (List.map zO a_a.zones)] ++ ([AV.hd 1] ++ []))))), .vec 55 1 (List.map zG a_a.caches), .box 55 (zG x1.1)]) (zh (k := 2) (o := 0) (cs := ([(ls (cS cI) ([] : List (List Int)))] ++ [])) (la := (zG x1.1)) Tryz.sizeOf55 rfl rfl rfl rfl) <| zA (zD rfl) <| zA (zD rfl) <| zF <| zI <| zC ?_
 refine zA (zB rfl) <| zA (zBT rfl rfl) <| zF ?_
 refine zQ (decide (x1.2.2 = 0)) rfl (fun hb2 => ?_) (fun hb2 => ?_)
 ·replace h := zo hb2 h
  refine zI ?_
  show AW _ _ _ _ _ _ [.box 26 ([(ls cI a_a.nodes)] ++ ([(li a_a.batch)] ++ ([(li a_a.high)] ++ ([AV.osl 51 10 (List.map zO a_a.zones)] ++ ([AV.hd 1] ++ []))))), .vec 55 1 (List.map zG a_a.caches), .box 55 (zG x1.1)]
  refine zAz (n := 35) (m := 1) [.head 0 0, .head 0 0, .head 0 0, .head 0 0, .head 0 0, .head 0 0, .head 0 0, .tail 0] [7] [(AV.ptr 0 0), (AV.ptr 0 0), (AV.ptr 0 4), (AV.hd 1), (li a_cpu), (AV.agg (zG x1.1)), (AV.ptr 1 (a_cpu.toNat * 1)), .any] [[.box 26 ([(ls cI a_a.nodes)] ++ ([(li a_a.batch)] ++ ([(li a_a.high)] ++ ([AV.osl 51 10 (List.map zO a_a.zones)] ++ ([AV.hd 1] ++ []))))), .vec 55 1 (List.map zG a_a.caches), .box 55 (zG x1.1)], [.box 26 ([(ls cI a_a.nodes)] ++ ([(li a_a.batch)] ++ ([(li a_a.high)] ++ ([AV.osl 51 10 (List.map zO a_a.zones)] ++ ([AV.hd 1] ++ []))))), .vec 55 1 (List.map zG (a_a.caches.set a_cpu.toNat x1.1)), .box 55 (zG x1.1)]] (by kernel_rfl) (by kernel_rfl) ⟨?_, ?_, ?_, ?_, ?_, ?_, ?_, ?_, trivial⟩ ?_
  ·exact fun e s p => zt (zB (av := (AV.ptr 0 0)) (s 0 rfl)) ⟨fun _ => rfl, rfl⟩
  ·exact fun e s p => zt (zAb p.1) ⟨fun _ => rfl, rfl⟩
  ·exact fun e s p => zt (zM (k := 0) (o := 0) (off := 4) Tryz.underlying26 rfl rfl Tryz.sizeOf24 p.1) ⟨fun _ => rfl, rfl⟩
  ·exact fun e s p => zt (zN (k := 0) (o := 4) (a := (AV.hd 1)) Tryz.isAgg24 p.1 rfl rfl rfl) ⟨fun _ => rfl, rfl⟩
  ·exact fun e s p => zt (zB (av := (li a_cpu)) (s 1 rfl)) ⟨fun _ => rfl, rfl⟩
  ·exact fun e s p => zt (zT (k := 2) (o := 0) (m := 1) (la := (zG x1.1)) Tryz.isAgg55 Tryz.sizeOf55 (s 6 rfl) rfl rfl rfl rfl) ⟨fun _ => rfl, rfl⟩
  ·exact fun e s p => zt (zAI (f := zG) (l := a_a.caches) (i := a_cpu) Tryz.underlying24 Tryz.sizeOf55 p.2.2.2.2.2.1 rfl p.2.2.2.2.2.2.1 hb1) ⟨fun _ => rfl, rfl⟩
  ·
   intro e8 hs8 hp8
   refine zx (H' := [.box 26 ([(ls cI a_a.nodes)] ++ ([(li a_a.batch)] ++ ([(li a_a.high)] ++ ([AV.osl 51 10 (List.map zO a_a.zones)] ++ ([AV.hd 1] ++ []))))), .vec 55 1 (List.map zG (a_a.caches.set a_cpu.toNat x1.1)), .box 55 (zG x1.1)]) (zCw (k := 1) (o := (a_cpu.toNat * 1)) (f := zG) (l := a_a.caches) (i := a_cpu) (z := x1.1) Tryz.sizeOf55 (fun _ => rfl) (by exact hp8.1) rfl (by first | rfl | omega) hb1 (by exact hp8.2.2.2.2.2.2.2.1) rfl) ?_
   exact zF ⟨fun _ => rfl, rfl⟩
  intro e9 hs9 hq1
  refine zY (zBV (l := [(0, (AV.ptr 0 0)), (2, (li a_z)), (7, (ls cI x1.2.1))]) ⟨(hs9 0 rfl), (hs9 2 rfl), (hs9 7 rfl), trivial⟩) <| zC <| zA (zB (av := (AV.ptr 0 0)) rfl) <| zA (zB (av := (li a_z)) rfl) <| zA (zB (av := (ls cI x1.2.1)) rfl) <| zAe (zAP (k := 0) (j := 1) (o := 4) (cs := ([(ls cI a_a.nodes)] ++ ([(li a_a.batch)] ++ ([(li a_a.high)] ++ ([AV.osl 51 10 (List.map zO a_a.zones)] ++ ([AV.hd 1] ++ [])))))) rfl rfl rfl rfl) ?_
  refine zP h ?_; clear h; intro x2 hx2 h
  refine zD2 (k := 0) (la := [(AV.ptr 0 0), (li a_z), (ls cI x1.2.1)]) (la' := [(AV.ptr 0 0), (li a_z), (ls cI x1.2.1)]) (r := (.tup [])) (S := []) (en' := .box 26 ([(ls cI x2.nodes)] ++ ([(li x2.batch)] ++ ([(li x2.high)] ++ ([AV.osl 51 10 (List.map zO x2.zones)] ++ ([AV.osl 55 1 (List.map zG x2.caches)] ++ [])))))) Tryz.func68 rfl (by kernel_rfl) (.fn 68) rfl ⟨zCn.ptr, zCn.of (zAt.nr rfl), zCn.of (zAt.nr rfl), trivial⟩ rfl rfl (by kernel_rfl) (by kernel_rfl) (zIN hx2) rfl (.inl rfl) <| zF ?_
  show zPF _ _ _ _ _ _ _ _
  obtain rfl := Option.some.inj h
  exact ⟨mkE [], [.box 26 ([(ls cI x2.nodes)] ++ ([(li x2.batch)] ++ ([(li x2.high)] ++ ([AV.osl 51 10 (List.map zO x2.zones)] ++ ([AV.osl 55 1 (List.map zG x2.caches)] ++ [])))))], zAE [0] rfl rfl (by kernel_rfl), zLP rfl⟩
 ·replace h := zv hb2 h
  refine zR ?_
  show zPF _ _ _ _ _ _ _ _
  obtain rfl := Option.some.inj h
  exact ⟨mkE [], [.box 26 ([(ls cI a_a.nodes)] ++ ([(li a_a.batch)] ++ ([(li a_a.high)] ++ ([AV.osl 51 10 (List.map zO a_a.zones)] ++ ([AV.osl 55 1 (List.map zG a_a.caches)] ++ [])))))], Rep.trans (zAP (k := 0) (j := 1) (o := 4) rfl rfl rfl rfl) (zAE [0] (l := []) rfl rfl (by kernel_rfl)), zLP rfl⟩
theorem zLl {a_c : zK} {a_zone : Int} {r : zK × Int × Int} (h : zJl a_c a_zone = some r) : PFn Tryz.prog 57 [(AV.agg (zG a_c)), (li a_zone)] (AV.tup [(AV.agg (zG r.1)), (li r.2.1), (li r.2.2)]) := by
 refine zi Tryz.func57 rfl Tryz.ntmps57 Tryz.results57 rfl ?_
 unfold zJl at h
 refine zI <| zC <| zb (H' := [.box 55 (zG a_c)]) (zu (t := 55) rfl) <| zb (H' := [.box 55 (zG a_c), .box 55 ([(ls (cS cI) ([] : List (List Int)))] ++ [])]) (z6 (t := 55) (vs := [.slice none 0 0]) (cs := [.sl false []]) Tryz.zeroValue55 (by kernel_rfl) rfl ⟨zq.nils, trivial⟩) <| zA (zD rfl) <| zA (zD rfl) ?_
 refine zF <| zI <| zI <| zC <| zA (zT (k := 0) (o := 0) (m := 1) Tryz.isAgg55 Tryz.sizeOf55 rfl rfl rfl rfl rfl) <| zA (zB rfl) ?_
 refine zP h ?_; clear h; intro x1 hx1 h
 refine zd Tryz.func111 rfl (by kernel_rfl) (.fn 111) rfl rfl (zFt hx1) rfl <| zA (zD rfl) <| zF <| zI <| zC <| zA (zB rfl) ?_
 refine zA (z7 rfl rfl) <| zF ?_
 refine zQ (!decide (x1 = 0)) rfl (fun hb1 => ?_) (fun hb1 => ?_)
 ·replace h := zo hb1 h
  refine zI <| zC <| zA (zAD (pl := [(0, 1)]) (zs := [.slice none 0 0]) (zc := [.sl false []]) (res := (zG (⟨([] : List (List Int))⟩ : zK))) (fun _ => by kernel_rfl) rfl (⟨zq.nils, trivial⟩) (by exact zGB.refl _)) <| zA (zB rfl) <| zx (H' := [.box 55 (zG a_c), .box 55 (zG (⟨([] : List (List Int))⟩ : zK))]) (zh (k := 1) (o := 0) (cs := ([(ls (cS cI) ([] : List (List Int)))] ++ [])) (la := (zG (⟨([] : List (List Int))⟩ : zK))) Tryz.sizeOf55 rfl rfl rfl rfl) <| zA (zD rfl) ?_
  refine zA (zD rfl) <| zF <| za ?_
  show zAS _ _ _ _ _ _
  obtain rfl := Option.some.inj h
  exact zEF (zHH Tryz.isAgg55 Tryz.sizeOf55 rfl rfl rfl rfl) (zAK rfl rfl) (zAK rfl rfl) rfl
 ·replace h := zv hb1 h
  refine zR <| zI <| zC <| zA (zM Tryz.underlying55 rfl rfl Tryz.sizeOf53 rfl) <| zA (zN Tryz.isAgg53 rfl rfl rfl rfl) <| zA (zB rfl) ?_
  have hb2 := (zH h).1
  replace h := (zH h).2
  refine zA (zV Tryz.underlying53 Tryz.sizeOf22 (fun _ => rfl) rfl rfl hb2) <| zA (zW (o := 0) Tryz.isAgg22 rfl rfl) <| zA (zD rfl) <| zF <| zI <| zI ?_
  refine zC <| zA (zB rfl) <| zA (zX Tryz.underlying22 rfl) <| zA (zBT rfl rfl) <| zF ?_
  refine zQ (decide (((at_ a_c.lists a_zone).length : Int) = 0)) rfl (fun hb3 => ?_) (fun hb3 => ?_)
  ·replace h := zo hb3 h
   refine zI <| zC <| zA (zAD (pl := [(0, 1)]) (zs := [.slice none 0 0]) (zc := [.sl false []]) (res := (zG (⟨([] : List (List Int))⟩ : zK))) (fun _ => by kernel_rfl) rfl (⟨zq.nils, trivial⟩) (by exact zGB.refl _)) <| zx (H' := [.box 55 (zG a_c), .box 55 (zG (⟨([] : List (List Int))⟩ : zK))]) (zh (k := 1) (o := 0) (cs := ([(ls (cS cI) ([] : List (List Int)))] ++ [])) (la := (zG (⟨([] : List (List Int))⟩ : zK))) Tryz.sizeOf55 rfl rfl rfl rfl) <| zA (zD rfl) <| zA (zD rfl) ?_
   refine zF <| za ?_
   show zAS _ _ _ _ _ _
   obtain rfl := Option.some.inj h
   exact zEF (zHH Tryz.isAgg55 Tryz.sizeOf55 rfl rfl rfl rfl) (zAK rfl rfl) (zAK rfl rfl) rfl
  ·replace h := zv hb3 h
   refine zR <| zI <| zC <| zA (zB rfl) <| zA (zX Tryz.underlying22 rfl) ?_
   have hb4 := (zH h).1
   replace h := (zH h).2
   refine zA (zB5 rfl rfl hb4) <| zA (zD rfl) <| zF <| zI ?_
   have hb5 := (zH h).1
   replace h := (zH h).2
   refine zP h ?_; clear h; intro x2 hx2 h
   have hb6 := (zH h).1
   replace h := (zH h).2
   show AW _ _ _ _ _ _ [.box 55 (zG a_c), .box 55 ([(ls (cS cI) ([] : List (List Int)))] ++ [])]
   refine zAz (n := 39) (m := 0) [.head 0 0, .head 0 0, .head 0 0, .head 0 0, .head 0 0, .head 0 0, .head 0 1, .head 0 1, .head 0 1, .head 0 1, .tail 0, .head 1 1, .head 1 1] [10] [(AV.agg (zG a_c)), (li a_zone), (ls cI (at_ a_c.lists a_zone)), (li (((at_ a_c.lists a_zone).length : Int) - 1)), (ls cI (zJW (at_ a_c.lists a_zone) 0 (((at_ a_c.lists a_zone).length : Int) - 1))), (AV.agg (zG x2)), (ls cI (at_ a_c.lists a_zone)), (li (((at_ a_c.lists a_zone).length : Int) - 1)), (AV.rp (cI (at_ (at_ a_c.lists a_zone) (((at_ a_c.lists a_zone).length : Int) - 1))) 0), (li (at_ (at_ a_c.lists a_zone) (((at_ a_c.lists a_zone).length : Int) - 1))), .any, (li (at_ (at_ a_c.lists a_zone) (((at_ a_c.lists a_zone).length : Int) - 1))), (li 0)] [[.box 55 (zG a_c), .box 55 ([(ls (cS cI) ([] : List (List Int)))] ++ [])], [.box 55 (zG a_c), .box 55 (zG x2)]] (by kernel_rfl) (by kernel_rfl) ⟨?_, ?_, ?_, ?_, ?_, ?_, ⟨?_, ?_⟩, ⟨?_, ?_⟩, ⟨?_, ?_⟩, ⟨?_, ?_⟩, ?_, ?_, ?_, trivial⟩ ?_
   ·exact fun e s p => zt (zT (k := 0) (o := 0) (m := 1) (la := (zG a_c)) Tryz.isAgg55 Tryz.sizeOf55 (s 2 rfl) rfl rfl rfl rfl) ⟨fun _ => rfl, rfl⟩
   ·exact fun e s p => zt (zB (av := (li a_zone)) (s 1 rfl)) ⟨fun _ => rfl, rfl⟩
   ·exact fun e s p => zt (zB (av := (ls cI (at_ a_c.lists a_zone))) (s 8 rfl)) ⟨fun _ => rfl, rfl⟩
   ·exact fun e s p => zt (zB (av := (li (((at_ a_c.lists a_zone).length : Int) - 1))) (s 9 rfl)) ⟨fun _ => rfl, rfl⟩
   ·exact fun e s p => zt (zPV (hi := ((at_ a_c.lists a_zone).length : Int) - 1) (f := cI) (l := at_ a_c.lists a_zone) Tryz.underlying22 Tryz.sizeOf3 (fun _ => rfl) p.1 p.2.1 hb5) ⟨fun _ => rfl, rfl⟩
   ·
    intro e6 hs6 hp6
    refine zd (r := (AV.agg (zG x2))) (la := [(AV.agg (zG a_c)), (li a_zone), (ls cI (zJW (at_ a_c.lists a_zone) 0 (((at_ a_c.lists a_zone).length : Int) - 1)))]) Tryz.func112 rfl (by kernel_rfl) (.fn 112) (zAF hp6.1 (zAF hp6.2.1 (zAF hp6.2.2.1 rfl))) rfl (zDY hx2) rfl ?_
    exact zF ⟨fun _ => rfl, rfl⟩
   ·exact fun e s p => zt (zB (av := (ls cI (at_ a_c.lists a_zone))) (s 8 rfl)) ⟨fun _ => rfl, rfl⟩
   ·exact fun e s p => zt (zB (av := (ls cI (at_ a_c.lists a_zone))) (s 8 rfl)) ⟨fun _ => rfl, rfl⟩
   ·exact fun e s p => zt (zB (av := (li (((at_ a_c.lists a_zone).length : Int) - 1))) (s 9 rfl)) ⟨fun _ => rfl, rfl⟩
   ·exact fun e s p => zt (zB (av := (li (((at_ a_c.lists a_zone).length : Int) - 1))) (s 9 rfl)) ⟨fun _ => rfl, rfl⟩
   ·exact fun e s p => zt (zV (f := cI) (l := at_ a_c.lists a_zone) (i := ((at_ a_c.lists a_zone).length : Int) - 1) Tryz.underlying22 Tryz.sizeOf3 (fun _ => rfl) p.1 p.2.1 hb6) ⟨fun _ => rfl, rfl⟩
   ·exact fun e s p => zt (zV (f := cI) (l := at_ a_c.lists a_zone) (i := ((at_ a_c.lists a_zone).length : Int) - 1) Tryz.underlying22 Tryz.sizeOf3 (fun _ => rfl) p.1 p.2.1 hb6) ⟨fun _ => rfl, rfl⟩
   ·exact fun e s p => zt (zW (row := (cI (at_ (at_ a_c.lists a_zone) (((at_ a_c.lists a_zone).length : Int) - 1)))) (o := 0) (a := (li (at_ (at_ a_c.lists a_zone) (((at_ a_c.lists a_zone).length : Int) - 1)))) Tryz.isAgg3 p.1 rfl) ⟨fun _ => rfl, rfl⟩
   ·exact fun e s p => zt (zW (row := (cI (at_ (at_ a_c.lists a_zone) (((at_ a_c.lists a_zone).length : Int) - 1)))) (o := 0) (a := (li (at_ (at_ a_c.lists a_zone) (((at_ a_c.lists a_zone).length : Int) - 1)))) Tryz.isAgg3 p.1 rfl) ⟨fun _ => rfl, rfl⟩
   ·
    intro e15 hs15 hp15
    refine zx (H' := [.box 55 (zG a_c), .box 55 (zG x2)]) (zh (k := 1) (o := 0) (cs := ([(ls (cS cI) ([] : List (List Int)))] ++ [])) (la := (zG x2)) Tryz.sizeOf55 (by exact (hs15 4 rfl)) rfl rfl (by exact hp15.2.2.2.2.2.2.2.1)) ?_
    exact zF ⟨fun _ => rfl, rfl⟩
   ·exact fun e s p => zt (zD (av := (li (at_ (at_ a_c.lists a_zone) (((at_ a_c.lists a_zone).length : Int) - 1)))) p.2.2.2.2.2.2.2.2.2.2.2.1) ⟨fun _ => rfl, rfl⟩
   ·exact fun e s p => zt (zD (av := (li 0)) rfl) ⟨fun _ => rfl, rfl⟩
   intro e18 hs18 hq1
   refine zY (zBV (l := [(4, (AV.ptr 1 0)), (5, (li (at_ (at_ a_c.lists a_zone) (((at_ a_c.lists a_zone).length : Int) - 1)))), (6, (li 0))]) ⟨(hs18 4 rfl), (hq1 11 (by decide) (by decide)), (hq1 12 (by decide) (by decide)), trivial⟩) <| za ?_
   show zAS _ _ _ _ _ _
   obtain rfl := Option.some.inj h
   exact zEF (zHH Tryz.isAgg55 Tryz.sizeOf55 rfl rfl rfl rfl) (zAK rfl rfl) (zAK rfl rfl) rfl
theorem zKA {a_p0 : zL} {a_p1 : Int} {a_p2 : Bool} {a_p3 : Bool} {r : zL × Int × Int} (h : zHX a_p0 a_p1 a_p2 a_p3 = some r) : PFn Tryz.prog 23 [(AV.agg (zJ a_p0)), (li a_p1), (AV.lit (.bool a_p2)), (AV.lit (.bool a_p3))] (AV.tup [(AV.agg (zJ r.1)), (li r.2.1), (li r.2.2)]) := by
 refine zi Tryz.func23 rfl Tryz.ntmps23 Tryz.results23 rfl ?_
 unfold zHX at h
 refine zI <| zC <| zb (H' := [.box 26 (zJ a_p0)]) (zu (t := 26) rfl) <| zb (H' := [.box 26 (zJ a_p0), .box 26 ([(ls cI ([] : List Int))] ++ ([(li 0)] ++ ([(li 0)] ++ ([(ls zO ([] : List zm))] ++ ([(ls zG ([] : List zK))] ++ [])))))]) (z6 (t := 26) (vs := [.slice none 0 0, .int .i64 0, .int .i64 0, .slice none 0 0, .slice none 0 0]) (cs := [.sl false [], .lit (.int .i64 0), .lit (.int .i64 0), .sl false [], .sl false []]) Tryz.zeroValue26 (by kernel_rfl) rfl ⟨zq.nils, zq.refl _, zq.refl _, zq.nils, zq.nils, trivial⟩) <| zA (zD rfl) <| zA (zD rfl) ?_
 refine zF <| zI <| zI <| zC <| zA (zT (k := 0) (o := 0) (m := 5) Tryz.isAgg26 Tryz.sizeOf26 rfl rfl rfl rfl rfl) ?_
 refine zP h ?_; clear h; intro x1 hx1 h
 refine zd Tryz.func13 rfl (by kernel_rfl) (.fn 13) rfl rfl (zAn hx1) rfl <| zA (zD rfl) <| zF <| zI <| zC <| zA (zB rfl) ?_
 refine zA (z7 rfl rfl) <| zF ?_
 refine zQ (!decide (x1 = 0)) rfl (fun hb1 => ?_) (fun hb1 => ?_)
 ·replace h := zo hb1 h
  refine zI <| zC <| zA (zAD (pl := [(0, 1), (1, 1), (2, 1), (3, 1), (4, 1)]) (zs := [.slice none 0 0, .int .i64 0, .int .i64 0, .slice none 0 0, .slice none 0 0]) (zc := [.sl false [], .lit (.int .i64 0), .lit (.int .i64 0), .sl false [], .sl false []]) (res := (zJ (⟨([] : List Int), 0, 0, ([] : List zm), ([] : List zK)⟩ : zL))) (fun _ => by kernel_rfl) rfl (⟨zq.nils, ⟨zq.refl _, ⟨zq.refl _, ⟨zq.nils, ⟨zq.nils, trivial⟩⟩⟩⟩⟩) (by exact zGB.refl _)) <| zA (zB rfl) <| zx (H' := [.box 26 (zJ a_p0), .box 26 (zJ (⟨([] : List Int), 0, 0, ([] : List zm), ([] : List zK)⟩ : zL))]) (zh (k := 1) (o := 0) (cs := ([(ls cI ([] : List Int))] ++ ([(li 0)] ++ ([(li 0)] ++ ([(ls zO ([] : List zm))] ++ ([(ls zG ([] : List zK))] ++ [])))))) (la := (zJ (⟨([] : List Int), 0, 0, ([] : List zm), ([] : List zK)⟩ : zL))) Tryz.sizeOf26 rfl rfl rfl rfl) <| zA (zD rfl) ?_
  refine zA (zD rfl) <| zF <| za ?_
  show zAS _ _ _ _ _ _
  obtain rfl := Option.some.inj h
  exact zEF (zHH Tryz.isAgg26 Tryz.sizeOf26 rfl rfl rfl rfl) (zAK rfl rfl) (zAK rfl rfl) rfl
 ·replace h := zv hb1 h
  refine zR <| zI <| zI <| zC <| zA (zB rfl) <| zA (zf rfl rfl) ?_
  refine zA (zB rfl) <| zU rfl rfl (fun hc1 => zj.step (zB rfl)) <| zU rfl rfl (fun hc2 => zj.step (zM Tryz.underlying26 rfl rfl Tryz.sizeOf22 rfl)) <| zU rfl rfl (fun hc3 => zj.step (zN Tryz.isAgg22 (zz rfl hc3) rfl rfl rfl)) <| zU rfl rfl (fun hc4 => zj.step (zX Tryz.underlying22 (zz rfl hc4))) <| zU rfl rfl (fun hc5 => zj.step (zAq (zz rfl hc5) (zz rfl hc5))) ?_
  refine zA (zZ rfl rfl) <| zF ?_
  refine zQ ((decide (a_p1 < 0)) || (decide ((a_p0.nodes.length : Int) ≤ a_p1))) rfl (fun hb2 => ?_) (fun hb2 => ?_)
  ·replace h := zo hb2 h
   refine zI <| zC <| zA (zAD (pl := [(0, 1), (1, 1), (2, 1), (3, 1), (4, 1)]) (zs := [.slice none 0 0, .int .i64 0, .int .i64 0, .slice none 0 0, .slice none 0 0]) (zc := [.sl false [], .lit (.int .i64 0), .lit (.int .i64 0), .sl false [], .sl false []]) (res := (zJ (⟨([] : List Int), 0, 0, ([] : List zm), ([] : List zK)⟩ : zL))) (fun _ => by kernel_rfl) rfl (⟨zq.nils, ⟨zq.refl _, ⟨zq.refl _, ⟨zq.nils, ⟨zq.nils, trivial⟩⟩⟩⟩⟩) (by exact zGB.refl _)) <| zx (H' := [.box 26 (zJ a_p0), .box 26 (zJ (⟨([] : List Int), 0, 0, ([] : List zm), ([] : List zK)⟩ : zL))]) (zh (k := 1) (o := 0) (cs := ([(ls cI ([] : List Int))] ++ ([(li 0)] ++ ([(li 0)] ++ ([(ls zO ([] : List zm))] ++ ([(ls zG ([] : List zK))] ++ [])))))) (la := (zJ (⟨([] : List Int), 0, 0, ([] : List zm), ([] : List zK)⟩ : zL))) Tryz.sizeOf26 rfl rfl rfl rfl) <| zA (zD rfl) <| zA (zD rfl) ?_
   refine zF <| za ?_
   show zAS _ _ _ _ _ _
   obtain rfl := Option.some.inj h
   exact zEF (zHH Tryz.isAgg26 Tryz.sizeOf26 rfl rfl rfl rfl) (zAK rfl rfl) (zAK rfl rfl) rfl
  ·replace h := zv hb2 h
   refine zR <| zI ?_
   have hb3 := (zH h).1
   replace h := (zH h).2
   refine zP h ?_; clear h; intro x2 hx2 h
   show AW _ _ _ _ _ _ [.box 26 (zJ a_p0), .box 26 ([(ls cI ([] : List Int))] ++ ([(li 0)] ++ ([(li 0)] ++ ([(ls zO ([] : List zm))] ++ ([(ls zG ([] : List zK))] ++ [])))))]
   refine zAz (n := 131) (m := 0) [.head 0 0, .head 0 0, .head 0 0, .head 0 0, .head 0 0, .head 0 0, .head 0 0, .head 0 0, .head 0 0, .head 0 0, .head 0 0, .head 0 0, .head 0 0, .head 0 0] [] [(AV.ptr 0 3), (ls zO a_p0.zones), (AV.ptr 0 0), (ls cI a_p0.nodes), (li a_p1), (AV.rp (cI (at_ a_p0.nodes a_p1)) 0), (li (at_ a_p0.nodes a_p1)), (AV.lit (.bool a_p2)), (AV.tup [(ls cI x2.1), (li x2.2)]), (AV.tup [(ls cI x2.1), (li x2.2)]), (ls cI x2.1), (li x2.2), (ls cI x2.1), (li x2.2)] [[.box 26 (zJ a_p0), .box 26 ([(ls cI ([] : List Int))] ++ ([(li 0)] ++ ([(li 0)] ++ ([(ls zO ([] : List zm))] ++ ([(ls zG ([] : List zK))] ++ [])))))]] (by kernel_rfl) (by kernel_rfl) ⟨?_, ?_, ?_, ?_, ?_, ?_, ?_, ?_, ?_, ?_, ?_, ?_, ?_, ?_, trivial⟩ ?_
   ·exact fun e s p => zt (zM (k := 0) (o := 0) (off := 3) Tryz.underlying26 rfl rfl Tryz.sizeOf23 (s 4 rfl)) ⟨fun _ => rfl, rfl⟩
   ·exact fun e s p => zt (zN (k := 0) (o := 3) (a := (ls zO a_p0.zones)) Tryz.isAgg23 p.1 rfl rfl rfl) ⟨fun _ => rfl, rfl⟩
   ·exact fun e s p => zt (zM (k := 0) (o := 0) (off := 0) Tryz.underlying26 rfl rfl Tryz.sizeOf22 (s 4 rfl)) ⟨fun _ => rfl, rfl⟩
   ·exact fun e s p => zt (zN (k := 0) (o := 0) (a := (ls cI a_p0.nodes)) Tryz.isAgg22 p.1 rfl rfl rfl) ⟨fun _ => rfl, rfl⟩
   ·exact fun e s p => zt (zB (av := (li a_p1)) (s 1 rfl)) ⟨fun _ => rfl, rfl⟩
   ·exact fun e s p => zt (zV (f := cI) (l := a_p0.nodes) (i := a_p1) Tryz.underlying22 Tryz.sizeOf3 (fun _ => rfl) p.1 p.2.1 hb3) ⟨fun _ => rfl, rfl⟩
   ·exact fun e s p => zt (zW (row := (cI (at_ a_p0.nodes a_p1))) (o := 0) (a := (li (at_ a_p0.nodes a_p1))) Tryz.isAgg3 p.1 rfl) ⟨fun _ => rfl, rfl⟩
   ·exact fun e s p => zt (zB (av := (AV.lit (.bool a_p2))) (s 2 rfl)) ⟨fun _ => rfl, rfl⟩
   ·
    intro e9 hs9 hp9
    refine zd (r := (AV.tup [(ls cI x2.1), (li x2.2)])) (la := [(ls zO a_p0.zones), (li (at_ a_p0.nodes a_p1)), (AV.lit (.bool a_p2))]) Tryz.func53 rfl (by kernel_rfl) (.fn 53) (zAF hp9.1 (zAF hp9.2.1 (zAF hp9.2.2.1 rfl))) rfl (zH9 hx2) rfl ?_
    exact zF ⟨fun _ => rfl, rfl⟩
   ·exact fun e s p => zt (zB (av := (AV.tup [(ls cI x2.1), (li x2.2)])) p.1) ⟨fun _ => rfl, rfl⟩
   ·exact fun e s p => zt (zl (la := [(ls cI x2.1), (li x2.2)]) p.1 rfl) ⟨fun _ => rfl, rfl⟩
   ·exact fun e s p => zt (zl (la := [(ls cI x2.1), (li x2.2)]) p.1 rfl) ⟨fun _ => rfl, rfl⟩
   ·exact fun e s p => zt (zD (av := (ls cI x2.1)) p.2.2.2.2.2.2.2.2.2.2.2.2.1) ⟨fun _ => rfl, rfl⟩
   ·exact fun e s p => zt (zD (av := (li x2.2)) p.2.2.2.2.2.2.2.2.2.2.2.2.2.1) ⟨fun _ => rfl, rfl⟩
   intro e15 hs15 hq1
   refine zY (zBV (l := [(1, (li a_p1)), (3, (AV.lit (.bool a_p3))), (4, (AV.ptr 0 0)), (8, (AV.ptr 1 0)), (12, (ls cI x2.1))]) ⟨(hs15 1 rfl), (hs15 3 rfl), (hs15 4 rfl), (hs15 8 rfl), (hq1 12 (by decide) (by decide)), trivial⟩) ?_
   refine z5 (fun e' H' => Rep 131 0 e' H' (mkE [(8, (AV.ptr 0 0))]) [.box 26 ([(ls cI ([] : List Int))] ++ ([(li 0)] ++ ([(li 0)] ++ ([(ls zO ([] : List zm))] ++ ([(ls zG ([] : List zK))] ++ [])))))] ∧ zFo  = some r) ?_ ?_
   ·
    refine zI <| zC <| zA (zB rfl) <| zA (zX Tryz.underlying22 rfl) <| zA (zB rfl) <| zF ?_
    refine zS <| z9 (σ := Nat × Int) (fun s => s.1) (fun s e' H' => match s with | (n0, i1) => Rep 131 0 e' H' (mkE [(1, (li a_p1)), (3, (AV.lit (.bool a_p3))), (4, (AV.ptr 0 0)), (8, (AV.ptr 1 0)), (49, (ls cI x2.1)), (50, (li (x2.1.length : Int))), (51, (li i1))]) [.box 26 (zJ a_p0), .box 26 ([(ls cI ([] : List Int))] ++ ([(li 0)] ++ ([(li 0)] ++ ([(ls zO ([] : List zm))] ++ ([(ls zG ([] : List zK))] ++ [])))))] ∧ zCx a_p0 a_p1 a_p3 x2 n0 i1 = some r) (zAC, 0) ⟨zAE [0, 1] rfl rfl (by kernel_rfl), h⟩ ?_
    clear h
    rintro ⟨n0, i1⟩ e' H' ⟨hrep, h⟩
    cases n0 with
    | zero => exact absurd (show (none : Option _) = some r from h) (by simp)
    | succ n0 =>
     replace h : zF8 a_p0 a_p1 a_p3 x2 (zCx a_p0 a_p1 a_p3 x2 n0) i1 = some r := h
     unfold zF8 at h
     refine zY hrep ?_
     clear hrep
     refine zI <| zC <| zA (zf rfl rfl) <| zF <| zI ?_
     refine zQ (decide (i1 < (x2.1.length : Int))) rfl (fun hb4 => ?_) (fun hb4 => ?_)
     ·replace h := zo hb4 h
      refine zR ?_
      refine z5 (fun e' H' => Rep 131 0 e' H' (mkE [(1, (li a_p1)), (3, (AV.lit (.bool a_p3))), (4, (AV.ptr 0 0)), (8, (AV.ptr 1 0)), (49, (ls cI x2.1)), (50, (li (x2.1.length : Int))), (51, (li i1))]) [.box 26 (zJ a_p0), .box 26 ([(ls cI ([] : List Int))] ++ ([(li 0)] ++ ([(li 0)] ++ ([(ls zO ([] : List zm))] ++ ([(ls zG ([] : List zK))] ++ [])))))] ∧ zF3 (zCx a_p0 a_p1 a_p3 x2 n0) i1 = some r) ?_ ?_
      ·
       refine zS <| zI <| zC ?_
       have hb6 := (zH h).1
       replace h := (zH h).2
       refine zA (zV Tryz.underlying22 Tryz.sizeOf3 (fun _ => rfl) rfl rfl hb6) <| zA (zW (o := 0) Tryz.isAgg3 rfl rfl) <| zA (zD rfl) <| zF <| zI <| zI ?_
       refine zC <| zA (zB rfl) <| zA (zB rfl) <| zg rfl rfl (fun hc6 => zj.step (zT (k := 0) (o := 0) (m := 5) Tryz.isAgg26 Tryz.sizeOf26 rfl rfl rfl rfl rfl)) <| zg rfl rfl (fun hc7 => zj.step (zB rfl)) ?_
       refine zP h ?_; clear h; intro x3 hx3 h
       refine zB1 (g := 56) (s := a_p3) (r' := (li x3)) rfl rfl (fun hc8 => ⟨52, _, _, [], [(AV.agg (zJ a_p0)), (li (at_ x2.1 i1))], [(AV.agg (zJ a_p0)), (li (at_ x2.1 i1))], (li x3), [], Tryz.func52, rfl, by kernel_rfl, (.fn 52), (zAF (zz rfl hc8) (zAF (zz rfl hc8) rfl)), ⟨zAt.nr rfl, zAt.nr rfl, trivial⟩, zFm (zo hc8 hx3), .inl rfl, rfl⟩) <| zg rfl rfl (fun hc9 => zj.step (zBT (zz rfl hc9) rfl)) <| zA (zy (j := .lit undef) rfl rfl) <| zA (zB rfl) <| zU rfl rfl (fun hc10 => zj.step (zB rfl)) <| zU rfl rfl (fun hc11 => zj.step (zA8 (t := a_p3) (zz rfl hc11))) ?_
       refine zU rfl rfl (fun hc12 => zj.step (zB (zz rfl hc12))) <| zJn (g := 65) (s' := !(a_p3 && (decide (x3 = 0)))) (s := !a_p3) rfl rfl (fun hc13 => zj.step (zT (k := 0) (o := 0) (m := 5) Tryz.isAgg26 Tryz.sizeOf26 rfl rfl rfl rfl rfl)) <| zJn (g := 65) (s' := !(a_p3 && (decide (x3 = 0)))) (s := !a_p3) rfl rfl (fun hc14 => zj.step (zB rfl)) ?_
       refine zP h ?_; clear h; intro x4 hx4 h
       refine zK9 (g := 65) (s' := !(a_p3 && (decide (x3 = 0)))) (s := !a_p3) (r' := (li x4)) rfl rfl (fun hc15 => ⟨39, _, _, [], [(AV.agg (zJ a_p0)), (li (at_ x2.1 i1))], [(AV.agg (zJ a_p0)), (li (at_ x2.1 i1))], (li x4), [], Tryz.func39, rfl, by kernel_rfl, (.fn 39), (zAF (zz rfl hc15) (zAF (zz rfl hc15) rfl)), ⟨zAt.nr rfl, zAt.nr rfl, trivial⟩, zGH (zo hc15 hx4), .inl rfl, rfl⟩) <| zJn (g := 65) (s' := !(a_p3 && (decide (x3 = 0)))) (s := !a_p3) rfl rfl (fun hc16 => zj.step (zf (zz rfl hc16) rfl)) <| zU rfl rfl (fun hc17 => zj.step (zy (j := .lit undef) (zz rfl hc17) (zM0 (c := !(a_p3 && (decide (x3 = 0)))) (d := !a_p3) (a := (AV.lit (.bool (decide (x4 < 1))))) (j := .lit undef) rfl hc17))) <| zA (zZ rfl rfl) <| zF ?_
       refine zQ ((a_p3 && (decide (x3 = 0))) || ((!a_p3) && (decide (x4 < 1)))) rfl (fun hb7 => ?_) (fun hb7 => ?_)
       ·replace h := zo hb7 h
        refine z8 ?_
        exact ⟨zAE [0, 1] rfl rfl (by kernel_rfl), h⟩
       ·replace h := zv hb7 h
        refine zR <| zI <| zC <| zA (zT (k := 0) (o := 0) (m := 5) Tryz.isAgg26 Tryz.sizeOf26 rfl rfl rfl rfl rfl) ?_
        refine zP h ?_; clear h; intro x5 hx5 h
        refine zIK (cs := ([(ls cI x5.nodes)] ++ ([(li x5.batch)] ++ ([(li x5.high)] ++ ([AV.osl 51 10 (List.map zO x5.zones)] ++ ([AV.osl 55 1 (List.map zG x5.caches)] ++ [])))))) (la := [(AV.agg (zJ a_p0))]) (la' := [(AV.agg (zJ a_p0))]) (S := []) Tryz.func54 rfl (by kernel_rfl) (.fn 54) rfl ⟨zAt.nr rfl, trivial⟩ (zEI hx5) (.inl rfl) <| zb (H' := [.box 26 (zJ a_p0), .box 26 ([(ls cI ([] : List Int))] ++ ([(li 0)] ++ ([(li 0)] ++ ([(ls zO ([] : List zm))] ++ ([(ls zG ([] : List zK))] ++ []))))), .val (.agg ([(ls cI x5.nodes)] ++ ([(li x5.batch)] ++ ([(li x5.high)] ++ ([AV.osl 51 10 (List.map zO x5.zones)] ++ ([AV.osl 55 1 (List.map zG x5.caches)] ++ [])))))), .box 26 ([(ls cI ([] : List Int))] ++ ([(li 0)] ++ ([(li 0)] ++ ([(ls zO ([] : List zm))] ++ ([(ls zG ([] : List zK))] ++ [])))))]) (z6 (t := 26) (vs := [.slice none 0 0, .int .i64 0, .int .i64 0, .slice none 0 0, .slice none 0 0]) (cs := [.sl false [], .lit (.int .i64 0), .lit (.int .i64 0), .sl false [], .sl false []]) Tryz.zeroValue26 (by kernel_rfl) rfl ⟨zq.nils, zq.refl _, zq.refl _, zq.nils, zq.nils, trivial⟩) <| zx (H' := [.box 26 (zJ a_p0), .box 26 ([(ls cI ([] : List Int))] ++ ([(li 0)] ++ ([(li 0)] ++ ([(ls zO ([] : List zm))] ++ ([(ls zG ([] : List zK))] ++ []))))), .dead, .box 26 ([(ls cI x5.nodes)] ++ ([(li x5.batch)] ++ ([(li x5.high)] ++ ([AV.osl 51 10 (List.map zO x5.zones)] ++ ([AV.osl 55 1 (List.map zG x5.caches)] ++ [])))))]) (zEk (k := 3) (o := 0) (j := 2) (cs := ([(ls cI ([] : List Int))] ++ ([(li 0)] ++ ([(li 0)] ++ ([(ls zO ([] : List zm))] ++ ([(ls zG ([] : List zK))] ++ [])))))) (la := ([(ls cI x5.nodes)] ++ ([(li x5.batch)] ++ ([(li x5.high)] ++ ([AV.osl 51 10 (List.map zO x5.zones)] ++ ([AV.osl 55 1 (List.map zG x5.caches)] ++ [])))))) Tryz.sizeOf26 rfl rfl rfl rfl rfl (by decide)) <| zF ?_
        refine z5 (fun e' H' => ∃ (d1 : List Int) (d2 : Int) (d3 : Int) (l1 : List zm) (l2 : List zK), Rep 131 0 e' H' (mkE [(1, (li a_p1)), (8, (AV.ptr 0 0)), (15, (li (at_ x2.1 i1))), (16, (AV.ptr 1 0))]) [.box 26 ([(ls cI ([] : List Int))] ++ ([(li 0)] ++ ([(li 0)] ++ ([(ls zO ([] : List zm))] ++ ([(ls zG ([] : List zK))] ++ []))))), .box 26 ([(ls cI d1)] ++ ([(li d2)] ++ ([(li d3)] ++ ([AV.osl 51 10 (List.map zO l1)] ++ ([AV.osl 55 1 (List.map zG l2)] ++ [])))))] ∧ zEK a_p1 x2 i1 d1 d2 d3 l1 l2 = some r) ?_ ?_
        ·
         refine zI <| zC <| zA (zM Tryz.underlying26 rfl rfl Tryz.sizeOf24 rfl) <| zAe (zB0 (k := 3) (o := 4) (t' := 55) (sz := 1) (rows := List.map zG x5.caches) rfl rfl) <| zA (zN Tryz.isAgg24 rfl rfl rfl rfl) <| zA (zB rfl) ?_
         have hb10 := (zH h).1
         replace h := (zH h).2
         refine zA (zAI (f := zG) (l := x5.caches) (i := a_p1) Tryz.underlying24 Tryz.sizeOf55 rfl rfl rfl hb10) <| zA (zM Tryz.underlying55 rfl rfl Tryz.sizeOf53 rfl) <| zA (zB4 (f := zG) (l := x5.caches) (i := a_p1) (c := 0) (a := (ls (cS cI) ((at_ x5.caches a_p1).lists))) Tryz.isAgg53 rfl rfl (by first | rfl | omega) hb10 rfl rfl) <| zA (zB rfl) ?_
         have hb11 := (zH h).1
         replace h := (zH h).2
         refine zA (zV Tryz.underlying53 Tryz.sizeOf22 (fun _ => rfl) rfl rfl hb11) <| zA (zW (o := 0) Tryz.isAgg22 rfl rfl) <| zA (zX Tryz.underlying22 rfl) <| zA (zBT rfl rfl) <| zA (zB rfl) <| zg rfl rfl (fun hc18 => zj.step (zB rfl)) ?_
         refine zg rfl rfl (fun hc19 => zj.step (zB rfl)) <| zAe (zAP (k := 3) (j := 4) (o := 4) rfl rfl rfl rfl) ?_
         refine zP h ?_; clear h; intro x7 hx7 h
         refine zNk (g := 85) (s := decide (((at_ ((at_ x5.caches a_p1).lists) (at_ x2.1 i1)).length : Int) = 0)) (k := 3) (r := (AV.lit (.bool x7.2))) (en' := .box 26 ([(ls cI x7.1.nodes)] ++ ([(li x7.1.batch)] ++ ([(li x7.1.high)] ++ ([AV.osl 51 10 (List.map zO x7.1.zones)] ++ ([AV.osl 55 1 (List.map zG x7.1.caches)] ++ [])))))) rfl rfl (fun hc23 => ⟨55, _, _, [], [(AV.ptr 3 0), (li a_p1), (li (at_ x2.1 i1))], [(AV.ptr 0 0), (li a_p1), (li (at_ x2.1 i1))], _, Tryz.func55, rfl, by kernel_rfl, .fn 55, (zAF rfl (zAF (zz rfl hc23) (zAF (zz rfl hc23) rfl))), ⟨zCn.ptr, zCn.of (zAt.nr rfl), zCn.of (zAt.nr rfl), trivial⟩, rfl, by kernel_rfl, by kernel_rfl, zHR (zo hc23 hx7), rfl⟩) (fun hc23 => by obtain rfl := Option.some.inj (zv hc23 hx7); rfl) <| zg rfl rfl (fun hc24 => zj.step (zA8 (t := x7.2) (zz rfl hc24))) <| zA (zy (j := .lit undef) rfl rfl) <| zF ?_
         refine zQ ((decide (((at_ ((at_ x5.caches a_p1).lists) (at_ x2.1 i1)).length : Int) = 0)) && (!x7.2)) rfl (fun hb12 => ?_) (fun hb12 => ?_)
         ·replace h := zo hb12 h
          refine z5 (fun e' H' => ∃ (d4 : List Int) (d5 : Int) (d6 : Int) (l3 : List zm) (l4 : List zK), Rep 131 0 e' H' (mkE [(1, (li a_p1)), (8, (AV.ptr 0 0)), (15, (li (at_ x2.1 i1))), (16, (AV.ptr 1 0))]) [.box 26 ([(ls cI ([] : List Int))] ++ ([(li 0)] ++ ([(li 0)] ++ ([(ls zO ([] : List zm))] ++ ([(ls zG ([] : List zK))] ++ []))))), .box 26 ([(ls cI d4)] ++ ([(li d5)] ++ ([(li d6)] ++ ([AV.osl 51 10 (List.map zO l3)] ++ ([AV.osl 55 1 (List.map zG l4)] ++ [])))))] ∧ zFj a_p1 x2 i1 d4 d5 d6 l3 l4 = some r) ?_ ?_
          ·
           refine zI <| zC <| zA (zM Tryz.underlying26 rfl rfl Tryz.sizeOf24 rfl) <| zAe (zB0 (k := 3) (o := 4) (t' := 55) (sz := 1) (rows := List.map zG x7.1.caches) rfl rfl) <| zA (zN Tryz.isAgg24 rfl rfl rfl rfl) <| zA (zEn (f := zG) (l := x7.1.caches) Tryz.underlying24 rfl rfl) ?_
           refine zA (zB rfl) <| zF <| zS <| z9 (σ := Nat × Int × (List Int) × Int × Int × (List zm) × (List zK)) (fun s => s.1) (fun s e' H' => match s with | (n1, i2, d7, d8, d9, l5, l6) => Rep 131 0 e' H' (mkE [(1, (li a_p1)), (8, (AV.ptr 0 0)), (15, (li (at_ x2.1 i1))), (16, (AV.ptr 1 0)), (93, (li (x7.1.caches.length : Int))), (94, (li i2))]) [.box 26 ([(ls cI ([] : List Int))] ++ ([(li 0)] ++ ([(li 0)] ++ ([(ls zO ([] : List zm))] ++ ([(ls zG ([] : List zK))] ++ []))))), .box 26 ([(ls cI d7)] ++ ([(li d8)] ++ ([(li d9)] ++ ([AV.osl 51 10 (List.map zO l5)] ++ ([AV.osl 55 1 (List.map zG l6)] ++ [])))))] ∧ zC5 a_p1 x2 i1 x7 n1 i2 d7 d8 d9 l5 l6 = some r) (zAC, 0, x7.1.nodes, x7.1.batch, x7.1.high, x7.1.zones, x7.1.caches) ⟨Rep.trans (zAP (k := 3) (j := 5) (o := 4) rfl rfl rfl rfl) (zAE [1, 3] (l := [(1, (li a_p1)), (8, (AV.ptr 0 0)), (15, (li (at_ x2.1 i1))), (16, (AV.ptr 1 0)), (93, (li (x7.1.caches.length : Int))), (94, (li 0))]) rfl rfl (by kernel_rfl)), h⟩ ?_
           clear h
           rintro ⟨n1, i2, d7, d8, d9, l5, l6⟩ e' H' ⟨hrep, h⟩
           cases n1 with
           | zero => exact absurd (show (none : Option _) = some r from h) (by simp)
           | succ n1 =>
            replace h : zF9 a_p1 x2 i1 x7 (zC5 a_p1 x2 i1 x7 n1) i2 d7 d8 d9 l5 l6 = some r := h
            unfold zF9 at h
            refine zY hrep ?_
            clear hrep
            refine zI <| zC <| zA (zf rfl rfl) <| zF <| zI ?_
            refine zQ (decide (i2 < (x7.1.caches.length : Int))) rfl (fun hb13 => ?_) (fun hb13 => ?_)
            ·replace h := zo hb13 h
             refine zR ?_
             refine z5 (fun e' H' => ∃ (d10 : List Int) (d11 : Int) (d12 : Int) (l7 : List zm) (l8 : List zK), Rep 131 0 e' H' (mkE [(1, (li a_p1)), (8, (AV.ptr 0 0)), (15, (li (at_ x2.1 i1))), (16, (AV.ptr 1 0)), (93, (li (x7.1.caches.length : Int))), (94, (li i2))]) [.box 26 ([(ls cI ([] : List Int))] ++ ([(li 0)] ++ ([(li 0)] ++ ([(ls zO ([] : List zm))] ++ ([(ls zG ([] : List zK))] ++ []))))), .box 26 ([(ls cI d10)] ++ ([(li d11)] ++ ([(li d12)] ++ ([AV.osl 51 10 (List.map zO l7)] ++ ([AV.osl 55 1 (List.map zG l8)] ++ [])))))] ∧ zEJ (zC5 a_p1 x2 i1 x7 n1) i2 d10 d11 d12 l7 l8 = some r) ?_ ?_
             ·
              refine zS <| zI <| zC <| zA (zB rfl) <| zA (zD rfl) <| zF ?_
              refine zI <| zC <| zA (zB rfl) <| zA (zB rfl) <| zA (z7 rfl rfl) <| zF ?_
              refine zQ (!decide (i2 = a_p1)) rfl (fun hb15 => ?_) (fun hb15 => ?_)
              ·replace h := zo hb15 h
               refine zC <| zA (zB rfl) <| zA (zB rfl) ?_
               refine zP h ?_; clear h; intro x9 hx9 h
               refine zD2 (k := 1) (la := [(AV.ptr 1 0), (li i2), (li (at_ x2.1 i1))]) (la' := [(AV.ptr 0 0), (li i2), (li (at_ x2.1 i1))]) (r := (.tup [])) (S := []) (en' := .box 26 ([(ls cI x9.nodes)] ++ ([(li x9.batch)] ++ ([(li x9.high)] ++ ([AV.osl 51 10 (List.map zO x9.zones)] ++ ([AV.osl 55 1 (List.map zG x9.caches)] ++ [])))))) Tryz.func56 rfl (by kernel_rfl) (.fn 56) rfl ⟨zCn.ptr, zCn.of (zAt.nr rfl), zCn.of (zAt.nr rfl), trivial⟩ rfl rfl (by kernel_rfl) (by kernel_rfl) (zF5 hx9) rfl (.inl rfl) <| zF ?_
               exact ⟨x9.nodes, x9.batch, x9.high, x9.zones, x9.caches, zAE [0, 1] rfl rfl (by kernel_rfl), h⟩
              ·replace h := zv hb15 h
               refine zR ?_
               exact ⟨d7, d8, d9, l5, l6, zAE [0, 1] rfl rfl (by kernel_rfl), h⟩
             ·
              clear h
              rintro e' H' ⟨d10, d11, d12, l7, l8, hrep, h⟩
              refine zY hrep ?_
              clear hrep
              unfold zEJ at h
              refine zC ?_
              have hb14 := (zH h).1
              replace h := (zH h).2
              refine zA (ze rfl rfl hb14) <| zA (zB rfl) <| zF ?_
              exact ⟨(n1, (i2 + 1), d10, d11, d12, l7, l8), Nat.lt_succ_self _, zAE [0, 1] rfl rfl (by kernel_rfl), h⟩
            ·replace h := zv hb13 h
             refine z8 ?_
             exact ⟨d7, d8, d9, l5, l6, zAE [0, 1] rfl rfl (by kernel_rfl), h⟩
          ·
           clear h
           rintro e' H' ⟨d4, d5, d6, l3, l4, hrep, h⟩
           refine zY hrep ?_
           clear hrep
           unfold zFj at h
           refine zC <| zA (zB rfl) <| zA (zB rfl) ?_
           refine zP h ?_; clear h; intro x8 hx8 h
           refine zD2 (k := 1) (la := [(AV.ptr 1 0), (li a_p1), (li (at_ x2.1 i1))]) (la' := [(AV.ptr 0 0), (li a_p1), (li (at_ x2.1 i1))]) (r := (AV.lit (.bool x8.2))) (S := []) (en' := .box 26 ([(ls cI x8.1.nodes)] ++ ([(li x8.1.batch)] ++ ([(li x8.1.high)] ++ ([AV.osl 51 10 (List.map zO x8.1.zones)] ++ ([AV.osl 55 1 (List.map zG x8.1.caches)] ++ [])))))) Tryz.func55 rfl (by kernel_rfl) (.fn 55) rfl ⟨zCn.ptr, zCn.of (zAt.nr rfl), zCn.of (zAt.nr rfl), trivial⟩ rfl rfl (by kernel_rfl) (by kernel_rfl) (zHR hx8) rfl (.inl rfl) <| zF ?_
           exact ⟨x8.1.nodes, x8.1.batch, x8.1.high, x8.1.zones, x8.1.caches, zAE [0, 1] rfl rfl (by kernel_rfl), h⟩
         ·replace h := zv hb12 h
          refine zR ?_
          exact ⟨x7.1.nodes, x7.1.batch, x7.1.high, x7.1.zones, x7.1.caches, zAE [1, 3] rfl rfl (by kernel_rfl), h⟩
        ·
         clear h
         rintro e' H' ⟨d1, d2, d3, l1, l2, hrep, h⟩
         refine zY hrep ?_
         clear hrep
         unfold zEK at h
         refine zI <| zC <| zA (zM Tryz.underlying26 rfl rfl Tryz.sizeOf24 rfl) <| zAe (zB0 (k := 1) (o := 4) (t' := 55) (sz := 1) (rows := List.map zG l2) rfl rfl) <| zA (zN Tryz.isAgg24 rfl rfl rfl rfl) <| zA (zB rfl) ?_
         have hb8 := (zH h).1
         replace h := (zH h).2
         refine zA (zAI (f := zG) (l := l2) (i := a_p1) Tryz.underlying24 Tryz.sizeOf55 rfl rfl rfl hb8) <| zA (zDj (f := zG) (l := l2) (i := a_p1) (c := 0) (q := 1) (la := (zG (at_ l2 a_p1))) Tryz.isAgg55 Tryz.sizeOf55 rfl rfl (by first | rfl | omega) hb8 rfl rfl rfl) <| zA (zB rfl) ?_
         refine zP h ?_; clear h; intro x6 hx6 h
         refine zd Tryz.func57 rfl (by kernel_rfl) (.fn 57) rfl rfl (zLl hx6) rfl <| zA (zB rfl) <| zA (zl rfl rfl) <| zA (zl rfl rfl) <| zA (zl rfl rfl) <| zb (H' := [.box 26 ([(ls cI ([] : List Int))] ++ ([(li 0)] ++ ([(li 0)] ++ ([(ls zO ([] : List zm))] ++ ([(ls zG ([] : List zK))] ++ []))))), .box 26 ([(ls cI d1)] ++ ([(li d2)] ++ ([(li d3)] ++ ([AV.osl 51 10 (List.map zO l1)] ++ ([AV.hd 2] ++ []))))), .vec 55 1 (List.map zG l2), .box 55 ([(ls (cS cI) ([] : List (List Int)))] ++ [])]) (z6 (t := 55) (vs := [.slice none 0 0]) (cs := [.sl false []]) Tryz.zeroValue55 (by kernel_rfl) rfl ⟨zq.nils, trivial⟩) ?_
         refine zx (H' := [.box 26 ([(ls cI ([] : List Int))] ++ ([(li 0)] ++ ([(li 0)] ++ ([(ls zO ([] : List zm))] ++ ([(ls zG ([] : List zK))] ++ []))))), .box 26 ([(ls cI d1)] ++ ([(li d2)] ++ ([(li d3)] ++ ([AV.osl 51 10 (List.map zO l1)] ++ ([AV.hd 2] ++ []))))), .vec 55 1 (List.map zG l2), .box 55 (zG x6.1)]) (zh (k := 3) (o := 0) (cs := ([(ls (cS cI) ([] : List (List Int)))] ++ [])) (la := (zG x6.1)) Tryz.sizeOf55 rfl rfl rfl rfl) <| zA (zD rfl) <| zA (zD rfl) <| zF <| zI <| zI ?_
         refine zC <| zA (zB rfl) <| zA (z7 rfl rfl) <| zF ?_
         refine zQ (!decide (x6.2.2 = 0)) rfl (fun hb9 => ?_) (fun hb9 => ?_)
         ·replace h := zo hb9 h
          refine zI <| zC <| zA (zAD (pl := [(0, 1), (1, 1), (2, 1), (3, 1), (4, 1)]) (zs := [.slice none 0 0, .int .i64 0, .int .i64 0, .slice none 0 0, .slice none 0 0]) (zc := [.sl false [], .lit (.int .i64 0), .lit (.int .i64 0), .sl false [], .sl false []]) (res := (zJ (⟨([] : List Int), 0, 0, ([] : List zm), ([] : List zK)⟩ : zL))) (fun _ => by kernel_rfl) rfl (⟨zq.nils, ⟨zq.refl _, ⟨zq.refl _, ⟨zq.nils, ⟨zq.nils, trivial⟩⟩⟩⟩⟩) (by exact zGB.refl _)) <| zA (zB rfl) <| zx (H' := [.box 26 (zJ (⟨([] : List Int), 0, 0, ([] : List zm), ([] : List zK)⟩ : zL)), .box 26 ([(ls cI d1)] ++ ([(li d2)] ++ ([(li d3)] ++ ([AV.osl 51 10 (List.map zO l1)] ++ ([AV.hd 2] ++ []))))), .vec 55 1 (List.map zG l2), .box 55 (zG x6.1)]) (zh (k := 0) (o := 0) (cs := ([(ls cI ([] : List Int))] ++ ([(li 0)] ++ ([(li 0)] ++ ([(ls zO ([] : List zm))] ++ ([(ls zG ([] : List zK))] ++ [])))))) (la := (zJ (⟨([] : List Int), 0, 0, ([] : List zm), ([] : List zK)⟩ : zL))) Tryz.sizeOf26 rfl rfl rfl rfl) <| zA (zD rfl) ?_
          refine zA (zD rfl) <| zF <| za ?_
          show zAS _ _ _ _ _ _
          obtain rfl := Option.some.inj h
          exact zEF (zHH Tryz.isAgg26 Tryz.sizeOf26 rfl rfl rfl rfl) (zAK rfl rfl) (zAK rfl rfl) rfl
         ·replace h := zv hb9 h
          refine zR <| zI <| zC <| zA (zM Tryz.underlying26 rfl rfl Tryz.sizeOf24 rfl) <| zA (zN Tryz.isAgg24 rfl rfl rfl rfl) <| zA (zB rfl) ?_
          refine zA (zT (k := 3) (o := 0) (m := 1) Tryz.isAgg55 Tryz.sizeOf55 rfl rfl rfl rfl rfl) <| zA (zAI (f := zG) (l := l2) (i := a_p1) Tryz.underlying24 Tryz.sizeOf55 rfl rfl rfl hb8) <| zx (H' := [.box 26 ([(ls cI ([] : List Int))] ++ ([(li 0)] ++ ([(li 0)] ++ ([(ls zO ([] : List zm))] ++ ([(ls zG ([] : List zK))] ++ []))))), .box 26 ([(ls cI d1)] ++ ([(li d2)] ++ ([(li d3)] ++ ([AV.osl 51 10 (List.map zO l1)] ++ ([AV.hd 2] ++ []))))), .vec 55 1 (List.map zG (l2.set a_p1.toNat x6.1)), .box 55 (zG x6.1)]) (zCw (k := 2) (o := (a_p1.toNat * 1)) (f := zG) (l := l2) (i := a_p1) (z := x6.1) Tryz.sizeOf55 (fun _ => rfl) rfl rfl (by first | rfl | omega) hb8 rfl rfl) <| zF <| zI <| zC ?_
          refine zAe (zCL (k := 1) (o := 3) (rows' := List.map zO l1) rfl rfl (zAa (fun _ => rfl))) <| zAe (zAP (k := 1) (j := 2) (o := 4) rfl rfl rfl rfl) <| zAe (zCL (k := 1) (o := 4) (rows' := List.map zG (l2.set a_p1.toNat x6.1)) rfl rfl (zAa (fun _ => rfl))) <| zA (zT (k := 1) (o := 0) (m := 5) Tryz.isAgg26 Tryz.sizeOf26 rfl rfl rfl rfl rfl) <| zA (zB rfl) <| zx (H' := [.box 26 (zJ (⟨d1, d2, d3, l1, l2.set a_p1.toNat x6.1⟩ : zL)), .box 26 ([(ls cI d1)] ++ ([(li d2)] ++ ([(li d3)] ++ ([(ls zO l1)] ++ ([(ls zG (l2.set a_p1.toNat x6.1))] ++ []))))), .dead, .box 55 (zG x6.1)]) (zh (k := 0) (o := 0) (cs := ([(ls cI ([] : List Int))] ++ ([(li 0)] ++ ([(li 0)] ++ ([(ls zO ([] : List zm))] ++ ([(ls zG ([] : List zK))] ++ [])))))) (la := (zJ (⟨d1, d2, d3, l1, l2.set a_p1.toNat x6.1⟩ : zL))) Tryz.sizeOf26 rfl rfl rfl rfl) ?_
          refine zA (zD rfl) <| zA (zD rfl) <| zF <| za ?_
          show zAS _ _ _ _ _ _
          obtain rfl := Option.some.inj h
          exact zEF (zHH Tryz.isAgg26 Tryz.sizeOf26 rfl rfl rfl rfl) (zAK rfl rfl) (zAK rfl rfl) rfl
      ·
       clear h
       rintro e' H' ⟨hrep, h⟩
       refine zY hrep ?_
       clear hrep
       unfold zF3 at h
       refine zC ?_
       have hb5 := (zH h).1
       replace h := (zH h).2
       refine zA (ze rfl rfl hb5) <| zA (zB rfl) <| zF ?_
       exact ⟨(n0, (i1 + 1)), Nat.lt_succ_self _, zAE [0, 1] rfl rfl (by kernel_rfl), h⟩
     ·replace h := zv hb4 h
      refine z8 ?_
      exact ⟨zAE [1] rfl rfl (by kernel_rfl), h⟩
   ·
    clear h
    rintro e' H' ⟨hrep, h⟩
    refine zY hrep ?_
    clear hrep
    unfold zFo at h
    refine zI <| zC <| zA (zAD (pl := [(0, 1), (1, 1), (2, 1), (3, 1), (4, 1)]) (zs := [.slice none 0 0, .int .i64 0, .int .i64 0, .slice none 0 0, .slice none 0 0]) (zc := [.sl false [], .lit (.int .i64 0), .lit (.int .i64 0), .sl false [], .sl false []]) (res := (zJ (⟨([] : List Int), 0, 0, ([] : List zm), ([] : List zK)⟩ : zL))) (fun _ => by kernel_rfl) rfl (⟨zq.nils, ⟨zq.refl _, ⟨zq.refl _, ⟨zq.nils, ⟨zq.nils, trivial⟩⟩⟩⟩⟩) (by exact zGB.refl _)) <| zx (H' := [.box 26 (zJ (⟨([] : List Int), 0, 0, ([] : List zm), ([] : List zK)⟩ : zL))]) (zh (k := 0) (o := 0) (cs := ([(ls cI ([] : List Int))] ++ ([(li 0)] ++ ([(li 0)] ++ ([(ls zO ([] : List zm))] ++ ([(ls zG ([] : List zK))] ++ [])))))) (la := (zJ (⟨([] : List Int), 0, 0, ([] : List zm), ([] : List zK)⟩ : zL))) Tryz.sizeOf26 rfl rfl rfl rfl) <| zA (zD rfl) <| zA (zD rfl) ?_
    refine zF <| za ?_
    show zAS _ _ _ _ _ _
    obtain rfl := Option.some.inj h
    exact zEF (zHH Tryz.isAgg26 Tryz.sizeOf26 rfl rfl rfl rfl) (zAK rfl rfl) (zAK rfl rfl) rfl
theorem zIH {a_s : List Int} {a_v : Int} {r : Int} (h : zCv a_s a_v = some r) : PFn Tryz.prog 144 [(ls cI a_s), (li a_v)] (li r) := by
 refine zi Tryz.func144 rfl Tryz.ntmps144 Tryz.results144 rfl ?_
 unfold zCv at h
 refine zI <| zC <| zA (zD rfl) <| zF ?_
 refine z5 (fun e' H' => Rep 19 0 e' H' (mkE []) [] ∧ zDh  = some r) ?_ ?_
 ·
  refine zI <| zC <| zA (zB rfl) <| zA (zX Tryz.underlying22 rfl) <| zA (zB rfl) <| zF ?_
  refine zS <| z9 (σ := Nat × Int) (fun s => s.1) (fun s e' H' => match s with | (n0, i1) => Rep 19 0 e' H' (mkE [(0, (ls cI a_s)), (1, (li a_v)), (7, (li (a_s.length : Int))), (8, (li i1))]) [] ∧ zAx a_s a_v n0 i1 = some r) (zAC, 0) ⟨zAE [] rfl rfl (by kernel_rfl), h⟩ ?_
  clear h
  rintro ⟨n0, i1⟩ e' H' ⟨hrep, h⟩
  cases n0 with
  | zero => exact absurd (show (none : Option _) = some r from h) (by simp)
  | succ n0 =>
   replace h : zA0 a_s a_v (zAx a_s a_v n0) i1 = some r := h
   unfold zA0 at h
   refine zY hrep ?_
   clear hrep
   refine zI <| zC <| zA (zf rfl rfl) <| zF <| zI ?_
   refine zQ (decide (i1 < (a_s.length : Int))) rfl (fun hb1 => ?_) (fun hb1 => ?_)
   ·replace h := zo hb1 h
    refine zR <| zI <| zS <| zI <| zC <| zA (zB rfl) ?_
    refine zA (zD rfl) <| zF <| zI <| zC <| zA (zB rfl) <| zA (zB rfl) ?_
    refine zA (zB rfl) ?_
    have hb2 := (zH h).1
    replace h := (zH h).2
    refine zA (zV Tryz.underlying22 Tryz.sizeOf3 (fun _ => rfl) rfl rfl hb2) <| zA (zW (o := 0) Tryz.isAgg3 rfl rfl) <| zA (zBT rfl rfl) <| zF ?_
    refine zQ (decide (a_v = (at_ a_s i1))) rfl (fun hb3 => ?_) (fun hb3 => ?_)
    ·replace h := zo hb3 h
     refine zI <| zC <| zA (zB rfl) <| zA (zD rfl) <| zF <| za ?_
     show zAS _ _ _ _ _ _
     obtain rfl := Option.some.inj h
     exact zp (zAK rfl rfl)
    ·replace h := zv hb3 h
     refine zR <| zC ?_
     have hb4 := (zH h).1
     replace h := (zH h).2
     refine zA (ze rfl rfl hb4) <| zA (zB rfl) <| zF ?_
     exact ⟨(n0, (i1 + 1)), Nat.lt_succ_self _, zAE [] rfl rfl (by kernel_rfl), h⟩
   ·replace h := zv hb1 h
    refine z8 ?_
    exact ⟨zAE [] rfl rfl (by kernel_rfl), h⟩
 ·
  clear h
  rintro e' H' ⟨hrep, h⟩
  refine zY hrep ?_
  clear hrep
  unfold zDh at h
  refine zI <| zC <| zA (zD rfl) <| zF <| za ?_
  show zAS _ _ _ _ _ _
  obtain rfl := Option.some.inj h
  exact zp (zAK rfl rfl)
theorem zHN {a_s : List Int} {a_v : Int} {r : Bool} (h : zBa a_s a_v = some r) : PFn Tryz.prog 128 [(ls cI a_s), (li a_v)] (AV.lit (.bool r)) := by
 refine zi Tryz.func128 rfl Tryz.ntmps128 Tryz.results128 rfl ?_
 unfold zBa at h
 refine zI <| zC <| zA (zD rfl) <| zF <| zI <| zC ?_
 refine zA (zB rfl) <| zA (zB rfl) ?_
 refine zP h ?_; clear h; intro x1 hx1 h
 refine zd Tryz.func144 rfl (by kernel_rfl) (.fn 144) rfl rfl (zIH hx1) rfl <| zA (zAq rfl rfl) <| zA (zD rfl) <| zF <| za ?_
 show zAS _ _ _ _ _ _
 obtain rfl := Option.some.inj h
 exact zp (zAK rfl rfl)
theorem zJF {a_c : zK} {c_0 : Int} {c_1 : Int} {r : Bool} (h : zBB a_c c_0 c_1 = some r) : PFn Tryz.prog 127 [(AV.agg (zG a_c)), (AV.rp [(li c_0)] 0), (AV.rp [(li c_1)] 0)] (AV.lit (.bool r)) := by
 refine zi Tryz.func127 rfl Tryz.ntmps127 Tryz.results127 rfl ?_
 unfold zBB at h
 refine zI <| zC <| zb (H' := [.box 55 (zG a_c)]) (zu (t := 55) rfl) <| zA (zD rfl) <| zF <| zI ?_
 have hb1 := (zH h).1
 replace h := (zH h).2
 refine zP h ?_; clear h; intro x1 hx1 h
 show AW _ _ _ _ _ _ [.box 55 (zG a_c)]
 refine zAz (n := 12) (m := 0) [.head 0 0, .head 0 0, .head 0 0, .head 0 0, .head 0 0, .head 0 0, .head 0 0, .head 0 0] [] [(AV.ptr 0 0), (ls (cS cI) a_c.lists), (li c_0), (AV.rp ((cS cI) (at_ a_c.lists c_0)) 0), (ls cI (at_ a_c.lists c_0)), (li c_1), (AV.lit (.bool x1)), (AV.lit (.bool x1))] [[.box 55 (zG a_c)]] (by kernel_rfl) (by kernel_rfl) ⟨?_, ?_, ?_, ?_, ?_, ?_, ?_, ?_, trivial⟩ ?_
 ·exact fun e s p => zt (zM (k := 0) (o := 0) (off := 0) Tryz.underlying55 rfl rfl Tryz.sizeOf53 (s 3 rfl)) ⟨fun _ => rfl, rfl⟩
 ·exact fun e s p => zt (zN (k := 0) (o := 0) (a := (ls (cS cI) a_c.lists)) Tryz.isAgg53 p.1 rfl rfl rfl) ⟨fun _ => rfl, rfl⟩
 ·exact fun e s p => zt (zW (row := [(li c_0)]) (o := 0) (a := (li c_0)) Tryz.isAgg3 (s 1 rfl) rfl) ⟨fun _ => rfl, rfl⟩
 ·exact fun e s p => zt (zV (f := (cS cI)) (l := a_c.lists) (i := c_0) Tryz.underlying53 Tryz.sizeOf22 (fun _ => rfl) p.1 p.2.1 hb1) ⟨fun _ => rfl, rfl⟩
 ·exact fun e s p => zt (zW (row := ((cS cI) (at_ a_c.lists c_0))) (o := 0) (a := (ls cI (at_ a_c.lists c_0))) Tryz.isAgg22 p.1 rfl) ⟨fun _ => rfl, rfl⟩
 ·exact fun e s p => zt (zW (row := [(li c_1)]) (o := 0) (a := (li c_1)) Tryz.isAgg3 (s 2 rfl) rfl) ⟨fun _ => rfl, rfl⟩
 ·
  intro e7 hs7 hp7
  refine zd (r := (AV.lit (.bool x1))) (la := [(ls cI (at_ a_c.lists c_0)), (li c_1)]) Tryz.func128 rfl (by kernel_rfl) (.fn 128) (zAF hp7.1 (zAF hp7.2.1 rfl)) rfl (zHN hx1) rfl ?_
  exact zF ⟨fun _ => rfl, rfl⟩
 ·exact fun e s p => zt (zD (av := (AV.lit (.bool x1))) p.2.2.2.2.2.2.2.2.1) ⟨fun _ => rfl, rfl⟩
 intro e9 hs9 hq1
 refine zY (zBV (l := [(4, (AV.lit (.bool x1)))]) ⟨(hq1 7 (by decide) (by decide)), trivial⟩) <| za ?_
 show zAS _ _ _ _ _ _
 obtain rfl := Option.some.inj h
 exact zp (zAK rfl rfl)
theorem zDT {a_s : List zK} {a_f : zK → Option Bool} {g_a_f : FuncId} {cf_a_f : Func} {code_a_f : Code} {caps_a_f : List AV} (hcf_a_f : Tryz.prog.funcs[g_a_f]? = some cf_a_f) (hcb_a_f : cf_a_f.body = some code_a_f) (hcn_a_f : (cf_a_f.name == "runtime.NumGoroutine") = false) (hnr_a_f : caps_a_f.all nr = true) (hg_a_f : ∀ {x0 : zK} {y : Bool}, a_f x0 = some y → PFn Tryz.prog g_a_f ((AV.agg (zG x0)) :: caps_a_f) (AV.lit (.bool y))) {r : Int} (h : zAg a_s a_f = some r) : PFn Tryz.prog 126 [(ls zG a_s), (AV.clo g_a_f caps_a_f)] (li r) := by
 refine zi Tryz.func126 rfl Tryz.ntmps126 Tryz.results126 rfl ?_
 unfold zAg at h
 refine zI <| zC <| zA (zD rfl) <| zF ?_
 refine z5 (fun e' H' => Rep 19 0 e' H' (mkE []) [] ∧ zAu  = some r) ?_ ?_
 ·
  refine zI <| zC <| zA (zB rfl) <| zA (zX Tryz.underlying24 rfl) <| zA (zB rfl) <| zF ?_
  refine zS <| z9 (σ := Nat × Int) (fun s => s.1) (fun s e' H' => match s with | (n0, i1) => Rep 19 0 e' H' (mkE [(0, (ls zG a_s)), (1, (AV.clo g_a_f caps_a_f)), (7, (li (a_s.length : Int))), (8, (li i1))]) [] ∧ zAB a_s a_f n0 i1 = some r) (zAC, 0) ⟨zBd (n := 19) (m := 0) [] (l := [(0, (ls zG a_s)), (1, (AV.clo g_a_f caps_a_f)), (7, (li (a_s.length : Int))), (8, (li 0))]) ⟨⟨Sub.refl _, by kernel_rfl⟩, ⟨zD9 hnr_a_f, zEA hnr_a_f⟩, ⟨Sub.refl _, by kernel_rfl⟩, ⟨Sub.refl _, by kernel_rfl⟩, trivial⟩ rfl rfl trivial, h⟩ ?_
  clear h
  rintro ⟨n0, i1⟩ e' H' ⟨hrep, h⟩
  cases n0 with
  | zero => exact absurd (show (none : Option _) = some r from h) (by simp)
  | succ n0 =>
   replace h : zAA a_s a_f (zAB a_s a_f n0) i1 = some r := h
   unfold zAA at h
   refine zY hrep ?_
   clear hrep
   refine zI <| zC <| zA (zf rfl rfl) <| zF <| zI ?_
   refine zQ (decide (i1 < (a_s.length : Int))) rfl (fun hb1 => ?_) (fun hb1 => ?_)
   ·replace h := zo hb1 h
    refine zR <| zI <| zS <| zI <| zC <| zA (zB rfl) ?_
    refine zA (zD rfl) <| zF <| zI <| zC <| zA (zB rfl) <| zA (zB rfl) ?_
    refine zA (zB rfl) ?_
    have hb2 := (zH h).1
    replace h := (zH h).2
    refine zA (zV Tryz.underlying24 Tryz.sizeOf55 (fun _ => rfl) rfl rfl hb2) <| zA (zAi (row := (zG (at_ a_s i1))) (o := 0) (m := 1) (la := (zG (at_ a_s i1))) Tryz.isAgg55 Tryz.sizeOf55 rfl rfl rfl) ?_
    refine zP h ?_; clear h; intro x1 hx1 h
    refine zA3 (S := []) hcf_a_f hcb_a_f hcn_a_f (.clo (caps := caps_a_f) rfl) rfl (zDJ.c (zAt.nr rfl) (zDJ.nrs hnr_a_f)) (hg_a_f hx1) (.inl rfl) rfl <| zF ?_
    refine zQ (x1) rfl (fun hb3 => ?_) (fun hb3 => ?_)
    ·replace h := zo hb3 h
     refine zI <| zC <| zA (zB rfl) <| zA (zD rfl) <| zF <| za ?_
     show zAS _ _ _ _ _ _
     obtain rfl := Option.some.inj h
     exact zp (zAK rfl rfl)
    ·replace h := zv hb3 h
     refine zR <| zC ?_
     have hb4 := (zH h).1
     replace h := (zH h).2
     refine zA (ze rfl rfl hb4) <| zA (zB rfl) <| zF ?_
     exact ⟨(n0, (i1 + 1)), Nat.lt_succ_self _, zBd (n := 19) (m := 0) [] (l := [(0, (ls zG a_s)), (1, (AV.clo g_a_f caps_a_f)), (7, (li (a_s.length : Int))), (8, (li (i1 + 1)))]) ⟨⟨Sub.refl _, by kernel_rfl⟩, ⟨zD9 hnr_a_f, zEA hnr_a_f⟩, ⟨Sub.refl _, by kernel_rfl⟩, ⟨Sub.refl _, by kernel_rfl⟩, trivial⟩ rfl rfl trivial, h⟩
   ·replace h := zv hb1 h
    refine z8 ?_
    exact ⟨zAE [] rfl rfl (by kernel_rfl), h⟩
 ·
  clear h
  rintro e' H' ⟨hrep, h⟩
  refine zY hrep ?_
  clear hrep
  unfold zAu at h
  refine zI <| zC <| zA (zD rfl) <| zF <| za ?_
  show zAS _ _ _ _ _ _
  obtain rfl := Option.some.inj h
  exact zp (zAK rfl rfl)
theorem zJf {a_a : zL} {a_z : Int} {a_frame : Int} {r : Int} (h : zD0 a_a a_z a_frame = some r) : PFn Tryz.prog 74 [(AV.agg (zJ a_a)), (li a_z), (li a_frame)] (li r) := by
 refine zi Tryz.func74 rfl Tryz.ntmps74 Tryz.results74 rfl ?_
 unfold zD0 at h
 refine zI <| zC <| zb (H' := [.box 26 (zJ a_a)]) (zu (t := 26) rfl) <| zb (H' := [.box 26 (zJ a_a), .box 3 [(li a_z)]]) (zIG (t := 3) (a := (li a_z)) rfl rfl) <| zb (H' := [.box 26 (zJ a_a), .box 3 [(li a_z)], .box 3 [(li a_frame)]]) (zIG (t := 3) (a := (li a_frame)) rfl rfl) <| zA (zD rfl) ?_
 refine zF <| zI <| zC <| zA (zM Tryz.underlying26 rfl rfl Tryz.sizeOf24 rfl) <| zA (zN Tryz.isAgg24 rfl rfl rfl rfl) <| zA (zJs (la := [(AV.ptr 1 0), (AV.ptr 2 0)]) rfl) ?_
 refine zP h ?_; clear h; intro x1 hx1 h
 refine zA3 (r' := (li x1)) (la := [(ls zG a_a.caches), (AV.clo 127 [(AV.ptr 1 0), (AV.ptr 2 0)])]) (la' := [(ls zG a_a.caches), (AV.clo 127 [(AV.rp [(li a_z)] 0), (AV.rp [(li a_frame)] 0)])]) (r := (li x1)) (S := [1, 2]) Tryz.func126 rfl (by kernel_rfl) (.fn 126) rfl ⟨zAt.nr rfl, zAt.clo (⟨zAt.ptr (cs := [(li a_z)]) rfl rfl rfl, zAt.ptr (cs := [(li a_frame)]) rfl rfl rfl, trivial⟩), trivial⟩ (zDT Tryz.func127 rfl (by kernel_rfl) rfl (fun hy => zJF  hy) hx1) (.inr trivial) rfl <| zA (zD rfl) <| zF <| za ?_
 show zAS _ _ _ _ _ _
 obtain rfl := Option.some.inj h
 exact zp (zAK rfl rfl)
theorem zIJ {a_a : zL} {a_z : Int} {a_frame : Int} {r : Bool} (h : zD5 a_a a_z a_frame = some r) : PFn Tryz.prog 50 [(AV.agg (zJ a_a)), (li a_z), (li a_frame)] (AV.lit (.bool r)) := by
 refine zi Tryz.func50 rfl Tryz.ntmps50 Tryz.results50 rfl ?_
 unfold zD5 at h
 refine zI <| zC <| zb (H' := [.box 26 (zJ a_a)]) (zu (t := 26) rfl) <| zA (zD rfl) <| zF <| zI ?_
 refine zC <| zA (zM Tryz.underlying26 rfl rfl Tryz.sizeOf23 rfl) <| zA (zN Tryz.isAgg23 rfl rfl rfl rfl) <| zA (zB rfl) ?_
 have hb1 := (zH h).1
 replace h := (zH h).2
 refine zA (zV Tryz.underlying23 Tryz.sizeOf51 (fun _ => rfl) rfl rfl hb1) <| zA (zAi (row := (zO (at_ a_a.zones a_z))) (o := 0) (m := 10) (la := (zO (at_ a_a.zones a_z))) Tryz.isAgg51 Tryz.sizeOf51 rfl rfl rfl) <| zA (zB rfl) ?_
 refine zP h ?_; clear h; intro x1 hx1 h
 refine zd Tryz.func45 rfl (by kernel_rfl) (.fn 45) rfl rfl (zJC hx1) rfl <| zA (zB rfl) <| zU rfl rfl (fun hc1 => zj.step (zT (k := 0) (o := 0) (m := 5) Tryz.isAgg26 Tryz.sizeOf26 rfl rfl rfl rfl rfl)) <| zU rfl rfl (fun hc2 => zj.step (zB rfl)) <| zU rfl rfl (fun hc3 => zj.step (zB rfl)) ?_
 refine zP h ?_; clear h; intro x2 hx2 h
 refine zBZ (g := 14) (s := x1) (r' := (li x2)) rfl rfl (fun hc4 => ⟨74, _, _, [], [(AV.agg (zJ a_a)), (li a_z), (li a_frame)], [(AV.agg (zJ a_a)), (li a_z), (li a_frame)], (li x2), [], Tryz.func74, rfl, by kernel_rfl, (.fn 74), (zAF (zz rfl hc4) (zAF (zz rfl hc4) (zAF (zz rfl hc4) rfl))), ⟨zAt.nr rfl, zAt.nr rfl, zAt.nr rfl, trivial⟩, zJf (zo hc4 hx2), .inl rfl, rfl⟩) <| zU rfl rfl (fun hc5 => zj.step (zAq (zz rfl hc5) rfl)) <| zA (zZ rfl rfl) <| zA (zD rfl) <| zF <| za ?_
 show zAS _ _ _ _ _ _
 obtain rfl := Option.some.inj h
 exact zp (zAK rfl rfl)
theorem zFS {a_a : zL} {a_frame : Int} {r : Bool} (h : zCQ a_a a_frame = some r) : PFn Tryz.prog 19 [(AV.agg (zJ a_a)), (li a_frame)] (AV.lit (.bool r)) := by
 refine zi Tryz.func19 rfl Tryz.ntmps19 Tryz.results19 rfl ?_
 unfold zCQ at h
 refine zI <| zC <| zb (H' := [.box 26 (zJ a_a)]) (zu (t := 26) rfl) <| zA (zD rfl) <| zF <| zI ?_
 refine zI <| zC <| zA (zT (k := 0) (o := 0) (m := 5) Tryz.isAgg26 Tryz.sizeOf26 rfl rfl rfl rfl rfl) ?_
 refine zP h ?_; clear h; intro x1 hx1 h
 refine zd Tryz.func13 rfl (by kernel_rfl) (.fn 13) rfl rfl (zAn hx1) rfl <| zA (z7 rfl rfl) <| zF ?_
 refine zQ (!decide (x1 = 0)) rfl (fun hb1 => ?_) (fun hb1 => ?_)
 ·replace h := zo hb1 h
  refine zI <| zC <| zA (zD rfl) <| zF <| za ?_
  show zAS _ _ _ _ _ _
  obtain rfl := Option.some.inj h
  exact zp (zAK rfl rfl)
 ·replace h := zv hb1 h
  refine zR <| zI <| zC <| zA (zT (k := 0) (o := 0) (m := 5) Tryz.isAgg26 Tryz.sizeOf26 rfl rfl rfl rfl rfl) <| zA (zB rfl) ?_
  refine zP h ?_; clear h; intro x2 hx2 h
  refine zd Tryz.func44 rfl (by kernel_rfl) (.fn 44) rfl rfl (zEl hx2) rfl <| zA (zD rfl) <| zF <| zI <| zC <| zA (zB rfl) ?_
  refine zA (zAq rfl rfl) <| zA (zB rfl) <| zg rfl rfl (fun hc1 => zj.step (zT (k := 0) (o := 0) (m := 5) Tryz.isAgg26 Tryz.sizeOf26 rfl rfl rfl rfl rfl)) <| zg rfl rfl (fun hc2 => zj.step (zB rfl)) <| zg rfl rfl (fun hc3 => zj.step (zB rfl)) ?_
  refine zP h ?_; clear h; intro x3 hx3 h
  refine zB1 (g := 14) (s := decide (0 ≤ x2)) (r' := (AV.lit (.bool x3))) rfl rfl (fun hc4 => ⟨50, _, _, [], [(AV.agg (zJ a_a)), (li x2), (li a_frame)], [(AV.agg (zJ a_a)), (li x2), (li a_frame)], (AV.lit (.bool x3)), [], Tryz.func50, rfl, by kernel_rfl, (.fn 50), (zAF (zz rfl hc4) (zAF (zz rfl hc4) (zAF (zz rfl hc4) rfl))), ⟨zAt.nr rfl, zAt.nr rfl, zAt.nr rfl, trivial⟩, zIJ (zo hc4 hx3), .inl rfl, rfl⟩) <| zA (zy (j := .lit undef) rfl rfl) <| zA (zD rfl) <| zF <| za ?_
  show zAS _ _ _ _ _ _
  obtain rfl := Option.some.inj h
  exact zp (zAK rfl rfl)
theorem zHh {a_a : zL} {a_z : Int} {r : Int} (h : zDc a_a a_z = some r) : PFn Tryz.prog 21 [(AV.agg (zJ a_a)), (li a_z)] (li r) := by
 refine zi Tryz.func21 rfl Tryz.ntmps21 Tryz.results21 rfl ?_
 unfold zDc at h
 refine zI <| zC <| zb (H' := [.box 26 (zJ a_a)]) (zu (t := 26) rfl) <| zA (zD rfl) <| zF <| zI ?_
 refine zI <| zC <| zA (zT (k := 0) (o := 0) (m := 5) Tryz.isAgg26 Tryz.sizeOf26 rfl rfl rfl rfl rfl) ?_
 refine zP h ?_; clear h; intro x1 hx1 h
 refine zd Tryz.func13 rfl (by kernel_rfl) (.fn 13) rfl rfl (zAn hx1) rfl <| zA (z7 rfl rfl) <| zA (zB rfl) <| zU rfl rfl (fun hc1 => zj.step (zB rfl)) <| zU rfl rfl (fun hc2 => zj.step (zf (zz rfl hc2) rfl)) <| zA (zZ rfl rfl) ?_
 refine zA (zB rfl) <| zU rfl rfl (fun hc3 => zj.step (zB rfl)) <| zU rfl rfl (fun hc4 => zj.step (zM Tryz.underlying26 rfl rfl Tryz.sizeOf23 rfl)) <| zU rfl rfl (fun hc5 => zj.step (zN Tryz.isAgg23 (zz rfl hc5) rfl rfl rfl)) <| zU rfl rfl (fun hc6 => zj.step (zX Tryz.underlying23 (zz rfl hc6))) <| zU rfl rfl (fun hc7 => zj.step (zAq (zz rfl hc7) (zz rfl hc7))) ?_
 refine zA (zZ rfl rfl) <| zF ?_
 refine zQ (((!decide (x1 = 0)) || (decide (a_z < 0))) || (decide ((a_a.zones.length : Int) ≤ a_z))) rfl (fun hb1 => ?_) (fun hb1 => ?_)
 ·replace h := zo hb1 h
  refine zI <| zC <| zA (zD rfl) <| zF <| za ?_
  show zAS _ _ _ _ _ _
  obtain rfl := Option.some.inj h
  exact zp (zAK rfl rfl)
 ·replace h := zv hb1 h
  refine zR <| zI <| zC <| zA (zT (k := 0) (o := 0) (m := 5) Tryz.isAgg26 Tryz.sizeOf26 rfl rfl rfl rfl rfl) <| zA (zB rfl) ?_
  refine zP h ?_; clear h; intro x2 hx2 h
  refine zd Tryz.func52 rfl (by kernel_rfl) (.fn 52) rfl rfl (zFm hx2) rfl <| zA (zD rfl) <| zF <| za ?_
  show zAS _ _ _ _ _ _
  obtain rfl := Option.some.inj h
  exact zp (zAK rfl rfl)
theorem zIE {a_a : zL} {a_frame : Int} {r : Int} (h : zD8 a_a a_frame = some r) : PFn Tryz.prog 17 [(AV.agg (zJ a_a)), (li a_frame)] (li r) := by
 refine zi Tryz.func17 rfl Tryz.ntmps17 Tryz.results17 rfl ?_
 unfold zD8 at h
 refine zI <| zC <| zb (H' := [.box 26 (zJ a_a)]) (zu (t := 26) rfl) <| zA (zD rfl) <| zF <| zI ?_
 refine zI <| zC <| zA (zT (k := 0) (o := 0) (m := 5) Tryz.isAgg26 Tryz.sizeOf26 rfl rfl rfl rfl rfl) ?_
 refine zP h ?_; clear h; intro x1 hx1 h
 refine zd Tryz.func13 rfl (by kernel_rfl) (.fn 13) rfl rfl (zAn hx1) rfl <| zA (z7 rfl rfl) <| zF ?_
 refine zQ (!decide (x1 = 0)) rfl (fun hb1 => ?_) (fun hb1 => ?_)
 ·replace h := zo hb1 h
  refine zI <| zC <| zA (zD rfl) <| zF <| za ?_
  show zAS _ _ _ _ _ _
  obtain rfl := Option.some.inj h
  exact zp (zAK rfl rfl)
 ·replace h := zv hb1 h
  refine zR <| zI <| zC <| zA (zT (k := 0) (o := 0) (m := 5) Tryz.isAgg26 Tryz.sizeOf26 rfl rfl rfl rfl rfl) <| zA (zB rfl) ?_
  refine zP h ?_; clear h; intro x2 hx2 h
  refine zd Tryz.func44 rfl (by kernel_rfl) (.fn 44) rfl rfl (zEl hx2) rfl <| zA (zD rfl) <| zF <| za ?_
  show zAS _ _ _ _ _ _
  obtain rfl := Option.some.inj h
  exact zp (zAK rfl rfl)
theorem zKG {a_p0 : zK} {a_p1 : Int} {a_p2 : Int} {a_p3 : Int} {a_p4 : Int} {r : zK × (List Int) × Int} (h : zKP a_p0 a_p1 a_p2 a_p3 a_p4 = some r) : PFn Tryz.prog 67 [(AV.agg (zG a_p0)), (li a_p1), (li a_p2), (li a_p3), (li a_p4)] (AV.tup [(AV.agg (zG r.1)), (ls cI r.2.1), (li r.2.2)]) := by
 refine zi Tryz.func67 rfl Tryz.ntmps67 Tryz.results67 rfl ?_
 unfold zKP at h
 refine zI <| zC <| zb (H' := [.box 55 (zG a_p0)]) (zu (t := 55) rfl) <| zb (H' := [.box 55 (zG a_p0), .box 55 ([(ls (cS cI) ([] : List (List Int)))] ++ [])]) (z6 (t := 55) (vs := [.slice none 0 0]) (cs := [.sl false []]) Tryz.zeroValue55 (by kernel_rfl) rfl ⟨zq.nils, trivial⟩) <| zA (zD rfl) <| zA (zD rfl) ?_
 refine zF <| zI <| zI <| zC <| zA (zT (k := 0) (o := 0) (m := 1) Tryz.isAgg55 Tryz.sizeOf55 rfl rfl rfl rfl rfl) <| zA (zB rfl) ?_
 refine zP h ?_; clear h; intro x1 hx1 h
 refine zd Tryz.func111 rfl (by kernel_rfl) (.fn 111) rfl rfl (zFt hx1) rfl <| zA (zD rfl) <| zF <| zI <| zC <| zA (zB rfl) ?_
 refine zA (z7 rfl rfl) <| zF ?_
 refine zQ (!decide (x1 = 0)) rfl (fun hb1 => ?_) (fun hb1 => ?_)
 ·replace h := zo hb1 h
  refine zI <| zC <| zA (zAD (pl := [(0, 1)]) (zs := [.slice none 0 0]) (zc := [.sl false []]) (res := (zG (⟨([] : List (List Int))⟩ : zK))) (fun _ => by kernel_rfl) rfl (⟨zq.nils, trivial⟩) (by exact zGB.refl _)) <| zA (zB rfl) <| zx (H' := [.box 55 (zG a_p0), .box 55 (zG (⟨([] : List (List Int))⟩ : zK))]) (zh (k := 1) (o := 0) (cs := ([(ls (cS cI) ([] : List (List Int)))] ++ [])) (la := (zG (⟨([] : List (List Int))⟩ : zK))) Tryz.sizeOf55 rfl rfl rfl rfl) <| zA (zD rfl) ?_
  refine zA (zD rfl) <| zF <| za ?_
  show zAS _ _ _ _ _ _
  obtain rfl := Option.some.inj h
  exact zEF (zHH Tryz.isAgg55 Tryz.sizeOf55 rfl rfl rfl rfl) (zJG (zAK rfl rfl) zq.nils) (zAK rfl rfl) rfl
 ·replace h := zv hb1 h
  refine zR <| zI <| zI <| zC <| zA (zB rfl) ?_
  refine zP h ?_; clear h; intro x2 hx2 h
  refine zd Tryz.func88 rfl (by kernel_rfl) (.fn 88) rfl rfl (zGS hx2) rfl <| zA (zA8 (t := x2) rfl) <| zF ?_
  refine zQ (!x2) rfl (fun hb2 => ?_) (fun hb2 => ?_)
  ·replace h := zo hb2 h
   refine zI <| zC <| zA (zAD (pl := [(0, 1)]) (zs := [.slice none 0 0]) (zc := [.sl false []]) (res := (zG (⟨([] : List (List Int))⟩ : zK))) (fun _ => by kernel_rfl) rfl (⟨zq.nils, trivial⟩) (by exact zGB.refl _)) <| zx (H' := [.box 55 (zG a_p0), .box 55 (zG (⟨([] : List (List Int))⟩ : zK))]) (zh (k := 1) (o := 0) (cs := ([(ls (cS cI) ([] : List (List Int)))] ++ [])) (la := (zG (⟨([] : List (List Int))⟩ : zK))) Tryz.sizeOf55 rfl rfl rfl rfl) <| zA (zD rfl) <| zA (zD rfl) ?_
   refine zF <| za ?_
   show zAS _ _ _ _ _ _
   obtain rfl := Option.some.inj h
   exact zEF (zHH Tryz.isAgg55 Tryz.sizeOf55 rfl rfl rfl rfl) (zJG (zAK rfl rfl) zq.nils) (zAK rfl rfl) rfl
  ·replace h := zv hb2 h
   refine zR <| zI <| zI <| zC <| zA (zB rfl) <| zA (zf rfl rfl) ?_
   refine zA (zB rfl) <| zU rfl rfl (fun hc1 => zj.step (zB rfl)) <| zU rfl rfl (fun hc2 => zj.step (zB rfl)) <| zU rfl rfl (fun hc3 => zj.step (zAp (zz rfl hc3) (zz rfl hc3))) <| zA (zZ rfl rfl) <| zF ?_
   refine zQ ((decide (a_p3 < 1)) || (decide (a_p4 < a_p3))) rfl (fun hb3 => ?_) (fun hb3 => ?_)
   ·replace h := zo hb3 h
    refine zI <| zC <| zA (zAD (pl := [(0, 1)]) (zs := [.slice none 0 0]) (zc := [.sl false []]) (res := (zG (⟨([] : List (List Int))⟩ : zK))) (fun _ => by kernel_rfl) rfl (⟨zq.nils, trivial⟩) (by exact zGB.refl _)) <| zx (H' := [.box 55 (zG a_p0), .box 55 (zG (⟨([] : List (List Int))⟩ : zK))]) (zh (k := 1) (o := 0) (cs := ([(ls (cS cI) ([] : List (List Int)))] ++ [])) (la := (zG (⟨([] : List (List Int))⟩ : zK))) Tryz.sizeOf55 rfl rfl rfl rfl) <| zA (zD rfl) <| zA (zD rfl) ?_
    refine zF <| za ?_
    show zAS _ _ _ _ _ _
    obtain rfl := Option.some.inj h
    exact zEF (zHH Tryz.isAgg55 Tryz.sizeOf55 rfl rfl rfl rfl) (zJG (zAK rfl rfl) zq.nils) (zAK rfl rfl) rfl
   ·replace h := zv hb3 h
    refine zR <| zI <| zI <| zC <| zA (zT (k := 0) (o := 0) (m := 1) Tryz.isAgg55 Tryz.sizeOf55 rfl rfl rfl rfl rfl) ?_
    refine zP h ?_; clear h; intro x3 hx3 h
    refine zLR (es := mI Value.bool x3) (la := [(AV.agg (zG a_p0))]) (la' := [(AV.agg (zG a_p0))]) (S := []) Tryz.func89 rfl (by kernel_rfl) (.fn 89) rfl ⟨zAt.nr rfl, trivial⟩ (zGz hx3) <| zA (zB rfl) <| zA (zLb (k := 2) (g := Value.bool) (q := a_p2) (l := x3) (dflt := false) (a := (AV.lit (.bool (zJ6 false x3 a_p2)))) Tryz.underlying58 Tryz.underlying3 Tryz.zeroValue4 rfl rfl rfl rfl) <| zF ?_
    refine zQ (zJ6 false x3 a_p2) rfl (fun hb4 => ?_) (fun hb4 => ?_)
    ·replace h := zo hb4 h
     refine zI <| zC <| zA (zAD (pl := [(0, 1)]) (zs := [.slice none 0 0]) (zc := [.sl false []]) (res := (zG (⟨([] : List (List Int))⟩ : zK))) (fun _ => by kernel_rfl) rfl (⟨zq.nils, trivial⟩) (by exact zGB.refl _)) <| zx (H' := [.box 55 (zG a_p0), .box 55 (zG (⟨([] : List (List Int))⟩ : zK)), .map (mI Value.bool x3)]) (zh (k := 1) (o := 0) (cs := ([(ls (cS cI) ([] : List (List Int)))] ++ [])) (la := (zG (⟨([] : List (List Int))⟩ : zK))) Tryz.sizeOf55 rfl rfl rfl rfl) <| zA (zD rfl) <| zA (zD rfl) ?_
     refine zF <| za ?_
     show zAS _ _ _ _ _ _
     obtain rfl := Option.some.inj h
     exact zEF (zHH Tryz.isAgg55 Tryz.sizeOf55 rfl rfl rfl rfl) (zJG (zAK rfl rfl) zq.nils) (zAK rfl rfl) rfl
    ·replace h := zv hb4 h
     refine zR <| zI ?_
     have hb5 := (zH h).1
     replace h := (zH h).2
     have hb6 := (zH h).1
     replace h := (zH h).2
     have hb7 := (zH h).1
     replace h := (zH h).2
     show AW _ _ _ _ _ _ [.box 55 (zG a_p0), .box 55 ([(ls (cS cI) ([] : List (List Int)))] ++ []), .map (mI Value.bool x3)]
     refine zAz (n := 85) (m := 0) [.head 0 0, .head 0 0, .head 0 0, .head 0 0, .head 0 0, .head 0 0, .head 0 0, .head 0 0, .head 0 0, .head 0 0, .head 0 0, .head 0 0, .head 0 0, .tail 0, .head 1 1] [13] [(AV.ptr 0 0), (ls (cS cI) a_p0.lists), (li a_p1), (AV.rp ((cS cI) (at_ a_p0.lists a_p1)) 0), (ls cI (at_ a_p0.lists a_p1)), (li ((at_ a_p0.lists a_p1).length : Int)), (AV.ptr 0 0), (ls (cS cI) a_p0.lists), (li a_p1), (AV.rp ((cS cI) (at_ a_p0.lists a_p1)) 0), (ls cI (at_ a_p0.lists a_p1)), (li ((at_ a_p0.lists a_p1).length : Int)), (li (((at_ a_p0.lists a_p1).length : Int) + 1)), (AV.hd 3), (AV.hd 3)] [[.box 55 (zG a_p0), .box 55 ([(ls (cS cI) ([] : List (List Int)))] ++ []), .map (mI Value.bool x3)], [.box 55 (zG a_p0), .box 55 ([(ls (cS cI) ([] : List (List Int)))] ++ []), .map (mI Value.bool x3), .vec 3 1 (List.map cI (List.replicate ((at_ a_p0.lists a_p1).length : Int).toNat 0))]] (by kernel_rfl) (by kernel_rfl) ⟨?_, ?_, ?_, ?_, ?_, ?_, ?_, ?_, ?_, ?_, ?_, ?_, ?_, ?_, ?_, trivial⟩ ?_
     ·exact fun e s p => zt (zM (k := 0) (o := 0) (off := 0) Tryz.underlying55 rfl rfl Tryz.sizeOf53 (s 5 rfl)) ⟨fun _ => rfl, rfl⟩
     ·exact fun e s p => zt (zN (k := 0) (o := 0) (a := (ls (cS cI) a_p0.lists)) Tryz.isAgg53 p.1 rfl rfl rfl) ⟨fun _ => rfl, rfl⟩
     ·exact fun e s p => zt (zB (av := (li a_p1)) (s 1 rfl)) ⟨fun _ => rfl, rfl⟩
     ·exact fun e s p => zt (zV (f := (cS cI)) (l := a_p0.lists) (i := a_p1) Tryz.underlying53 Tryz.sizeOf22 (fun _ => rfl) p.1 p.2.1 hb5) ⟨fun _ => rfl, rfl⟩
     ·exact fun e s p => zt (zW (row := ((cS cI) (at_ a_p0.lists a_p1))) (o := 0) (a := (ls cI (at_ a_p0.lists a_p1))) Tryz.isAgg22 p.1 rfl) ⟨fun _ => rfl, rfl⟩
     ·exact fun e s p => zt (zX (f := cI) (l := at_ a_p0.lists a_p1) Tryz.underlying22 p.1) ⟨fun _ => rfl, rfl⟩
     ·exact fun e s p => zt (zM (k := 0) (o := 0) (off := 0) Tryz.underlying55 rfl rfl Tryz.sizeOf53 (s 5 rfl)) ⟨fun _ => rfl, rfl⟩
     ·exact fun e s p => zt (zN (k := 0) (o := 0) (a := (ls (cS cI) a_p0.lists)) Tryz.isAgg53 p.1 rfl rfl rfl) ⟨fun _ => rfl, rfl⟩
     ·exact fun e s p => zt (zB (av := (li a_p1)) (s 1 rfl)) ⟨fun _ => rfl, rfl⟩
     ·exact fun e s p => zt (zV (f := (cS cI)) (l := a_p0.lists) (i := a_p1) Tryz.underlying53 Tryz.sizeOf22 (fun _ => rfl) p.1 p.2.1 hb5) ⟨fun _ => rfl, rfl⟩
     ·exact fun e s p => zt (zW (row := ((cS cI) (at_ a_p0.lists a_p1))) (o := 0) (a := (ls cI (at_ a_p0.lists a_p1))) Tryz.isAgg22 p.1 rfl) ⟨fun _ => rfl, rfl⟩
     ·exact fun e s p => zt (zX (f := cI) (l := at_ a_p0.lists a_p1) Tryz.underlying22 p.1) ⟨fun _ => rfl, rfl⟩
     ·exact fun e s p => zt (ze (a := ((at_ a_p0.lists a_p1).length : Int)) (b := 1) p.1 rfl hb6) ⟨fun _ => rfl, rfl⟩
     ·
      intro e14 hs14 hp14
      refine zDy (f := cI) (a := ((at_ a_p0.lists a_p1).length : Int)) (c := ((at_ a_p0.lists a_p1).length : Int) + 1) (d0 := 0) zIj ⟨zq.refl _, trivial⟩ rfl Tryz.underlying22 hp14.1 hp14.2.1 hb7 ?_
      exact zF ⟨fun _ => rfl, rfl⟩
     ·exact fun e s p => zt (zD (av := (AV.hd 3)) p.2.2.2.2.2.2.2.2.2.2.2.2.2.2.1) ⟨fun _ => rfl, rfl⟩
     intro e16 hs16 hq1
     refine zY (zBV (l := [(1, (li a_p1)), (2, (li a_p2)), (3, (li a_p3)), (4, (li a_p4)), (5, (AV.ptr 0 0)), (10, (AV.ptr 1 0)), (14, (AV.hd 3))]) ⟨(hs16 1 rfl), (hs16 2 rfl), (hs16 3 rfl), (hs16 4 rfl), (hs16 5 rfl), (hs16 10 rfl), (hq1 14 (by decide) (by decide)), trivial⟩) <| zI <| zC <| zA (zB (av := (AV.hd 3)) rfl) <| zA (zM (k := 0) (o := 0) (off := 0) Tryz.underlying55 rfl rfl Tryz.sizeOf53 rfl) <| zA (zN (k := 0) (o := 0) (a := (ls (cS cI) a_p0.lists)) Tryz.isAgg53 rfl rfl rfl rfl) ?_
     refine zA (zB rfl) <| zA (zV Tryz.underlying53 Tryz.sizeOf22 (fun _ => rfl) rfl rfl hb5) <| zA (zW (o := 0) Tryz.isAgg22 rfl rfl) <| zb (H' := [.box 55 (zG a_p0), .box 55 ([(ls (cS cI) ([] : List (List Int)))] ++ []), .map (mI Value.bool x3), .vec 3 1 (List.map cI (zCK (List.replicate ((at_ a_p0.lists a_p1).length : Int).toNat 0) (at_ a_p0.lists a_p1)))]) (zJM (f := cI) (k := 3) (l := List.replicate ((at_ a_p0.lists a_p1).length : Int).toNat 0) (l2 := at_ a_p0.lists a_p1) Tryz.underlying22 Tryz.sizeOf3 (fun _ => rfl) rfl rfl rfl) <| zF <| zI ?_
     refine zC <| zA (zB rfl) <| zA (zB rfl) <| zIR (a := (li a_p2)) zIj Tryz.underlying22 rfl rfl rfl rfl ?_
     have hb8 := (zH h).1
     replace h := (zH h).2
     refine zGp (f := cI) (k := 3) (j := 4) (l := zCK (List.replicate ((at_ a_p0.lists a_p1).length : Int).toNat 0) (at_ a_p0.lists a_p1)) (l' := [a_p2]) zIj (fun _ => rfl) Tryz.underlying22 rfl rfl rfl rfl hb8 <| zA (zD rfl) <| zF <| zI <| zI <| zC ?_
     refine zA (zB rfl) <| zA (zEn (f := cI) (l := (zCK (List.replicate ((at_ a_p0.lists a_p1).length : Int).toNat 0) (at_ a_p0.lists a_p1)) ++ [a_p2]) Tryz.underlying22 rfl rfl) <| zA (zB rfl) <| zA (zCq rfl rfl) <| zF ?_
     refine zQ (decide ((((zCK (List.replicate ((at_ a_p0.lists a_p1).length : Int).toNat 0) (at_ a_p0.lists a_p1)) ++ [a_p2]).length : Int) ≤ a_p4)) rfl (fun hb9 => ?_) (fun hb9 => ?_)
     ·replace h := zo hb9 h
      refine zI <| zC <| zA (zT (k := 0) (o := 0) (m := 1) Tryz.isAgg55 Tryz.sizeOf55 rfl rfl rfl rfl rfl) <| zA (zB rfl) <| zA (zB rfl) ?_
      refine zP h ?_; clear h; intro x4 hx4 h
      refine zAe (zFJ (j := 5) (ds := [14, 64, 65, 71]) (rows' := List.map cI ((zCK (List.replicate ((at_ a_p0.lists a_p1).length : Int).toNat 0) (at_ a_p0.lists a_p1)) ++ [a_p2])) rfl (zAa (fun _ => rfl)) ⟨rfl, rfl, rfl, rfl, trivial⟩) ?_
      refine zP h ?_; clear h; intro x5 hx5 h
      refine zd Tryz.func112 rfl (by kernel_rfl) (.fn 112) rfl rfl (zDY hx5) rfl <| zx (H' := [.box 55 (zG a_p0), .box 55 (zG x5), .map (mI Value.bool x3), .dead, .vec 3 1 (List.map cI [a_p2]), .dead]) (zh (k := 1) (o := 0) (cs := ([(ls (cS cI) ([] : List (List Int)))] ++ [])) (la := (zG x5)) Tryz.sizeOf55 rfl rfl rfl rfl) <| zA (zD rfl) <| zA (zD rfl) <| zF <| za ?_
      show zAS _ _ _ _ _ _
      obtain rfl := Option.some.inj h
      exact zEF (zHH Tryz.isAgg55 Tryz.sizeOf55 rfl rfl rfl rfl) (zJG (zAK rfl rfl) zq.nils) (zAK rfl rfl) rfl
     ·replace h := zv hb9 h
      refine zR <| zI <| zC <| zA (zB rfl) ?_
      have hb10 := (zH h).1
      replace h := (zH h).2
      refine zDy (f := cI) (a := a_p3) (c := a_p3) (d0 := 0) zIj ⟨zq.refl _, trivial⟩ rfl Tryz.underlying22 rfl rfl hb10 <| zA (zD rfl) <| zF <| zI <| zC <| zA (zB rfl) ?_
      refine zA (zB rfl) <| zb (H' := [.box 55 (zG a_p0), .box 55 ([(ls (cS cI) ([] : List (List Int)))] ++ []), .map (mI Value.bool x3), .dead, .vec 3 1 (List.map cI [a_p2]), .vec 3 1 (List.map cI ((zCK (List.replicate ((at_ a_p0.lists a_p1).length : Int).toNat 0) (at_ a_p0.lists a_p1)) ++ [a_p2])), .vec 3 1 (List.map cI (zCK (List.replicate a_p3.toNat 0) ((zCK (List.replicate ((at_ a_p0.lists a_p1).length : Int).toNat 0) (at_ a_p0.lists a_p1)) ++ [a_p2])))]) (zNp (f := cI) (k := 6) (j := 5) (l := List.replicate a_p3.toNat 0) (l2 := (zCK (List.replicate ((at_ a_p0.lists a_p1).length : Int).toNat 0) (at_ a_p0.lists a_p1)) ++ [a_p2]) Tryz.underlying22 Tryz.sizeOf3 (fun _ => rfl) rfl rfl rfl rfl) <| zF <| zI <| zY (zFJ (j := 5) (ds := [14, 64, 65, 76]) (rows' := List.map cI ((zCK (List.replicate ((at_ a_p0.lists a_p1).length : Int).toNat 0) (at_ a_p0.lists a_p1)) ++ [a_p2])) rfl (zAa (fun _ => rfl)) ⟨rfl, rfl, rfl, rfl, trivial⟩) ?_
      have hb11 := (zH h).1
      replace h := (zH h).2
      refine zP h ?_; clear h; intro x6 hx6 h
      show AW _ _ _ _ _ _ [.box 55 (zG a_p0), .box 55 ([(ls (cS cI) ([] : List (List Int)))] ++ []), .map (mI Value.bool x3), .dead, .vec 3 1 (List.map cI [a_p2]), .dead, .vec 3 1 (List.map cI (zCK (List.replicate a_p3.toNat 0) ((zCK (List.replicate ((at_ a_p0.lists a_p1).length : Int).toNat 0) (at_ a_p0.lists a_p1)) ++ [a_p2])))]
      refine zAz (n := 85) (m := 0) [.head 0 0, .head 0 0, .head 0 0, .head 0 0, .head 0 0, .head 0 0, .head 0 1, .tail 0, .head 1 1, .head 1 1] [7] [(AV.agg (zG a_p0)), (li a_p1), (ls cI ((zCK (List.replicate ((at_ a_p0.lists a_p1).length : Int).toNat 0) (at_ a_p0.lists a_p1)) ++ [a_p2])), (li a_p3), (ls cI (zJW ((zCK (List.replicate ((at_ a_p0.lists a_p1).length : Int).toNat 0) (at_ a_p0.lists a_p1)) ++ [a_p2]) a_p3 (((zCK (List.replicate ((at_ a_p0.lists a_p1).length : Int).toNat 0) (at_ a_p0.lists a_p1)) ++ [a_p2]).length : Int))), (AV.agg (zG x6)), (AV.hd 6), .any, (AV.hd 6), (li 0)] [[.box 55 (zG a_p0), .box 55 ([(ls (cS cI) ([] : List (List Int)))] ++ []), .map (mI Value.bool x3), .dead, .vec 3 1 (List.map cI [a_p2]), .dead, .vec 3 1 (List.map cI (zCK (List.replicate a_p3.toNat 0) ((zCK (List.replicate ((at_ a_p0.lists a_p1).length : Int).toNat 0) (at_ a_p0.lists a_p1)) ++ [a_p2])))], [.box 55 (zG a_p0), .box 55 (zG x6), .map (mI Value.bool x3), .dead, .vec 3 1 (List.map cI [a_p2]), .dead, .vec 3 1 (List.map cI (zCK (List.replicate a_p3.toNat 0) ((zCK (List.replicate ((at_ a_p0.lists a_p1).length : Int).toNat 0) (at_ a_p0.lists a_p1)) ++ [a_p2])))]] (by kernel_rfl) (by kernel_rfl) ⟨?_, ?_, ?_, ?_, ?_, ?_, ⟨?_, ?_⟩, ?_, ?_, ?_, trivial⟩ ?_
      ·exact fun e s p => zt (zT (k := 0) (o := 0) (m := 1) (la := (zG a_p0)) Tryz.isAgg55 Tryz.sizeOf55 (s 5 rfl) rfl rfl rfl rfl) ⟨fun _ => rfl, rfl⟩
      ·exact fun e s p => zt (zB (av := (li a_p1)) (s 1 rfl)) ⟨fun _ => rfl, rfl⟩
      ·exact fun e s p => zt (zB (av := (ls cI ((zCK (List.replicate ((at_ a_p0.lists a_p1).length : Int).toNat 0) (at_ a_p0.lists a_p1)) ++ [a_p2]))) (s 14 rfl)) ⟨fun _ => rfl, rfl⟩
      ·exact fun e s p => zt (zB (av := (li a_p3)) (s 3 rfl)) ⟨fun _ => rfl, rfl⟩
      ·exact fun e s p => zt (zMy (lo := a_p3) (f := cI) (l := (zCK (List.replicate ((at_ a_p0.lists a_p1).length : Int).toNat 0) (at_ a_p0.lists a_p1)) ++ [a_p2]) Tryz.underlying22 Tryz.sizeOf3 (fun _ => rfl) p.1 p.2.1 hb11) ⟨fun _ => rfl, rfl⟩
      ·
       intro e22 hs22 hp21
       refine zd (r := (AV.agg (zG x6))) (la := [(AV.agg (zG a_p0)), (li a_p1), (ls cI (zJW ((zCK (List.replicate ((at_ a_p0.lists a_p1).length : Int).toNat 0) (at_ a_p0.lists a_p1)) ++ [a_p2]) a_p3 (((zCK (List.replicate ((at_ a_p0.lists a_p1).length : Int).toNat 0) (at_ a_p0.lists a_p1)) ++ [a_p2]).length : Int)))]) Tryz.func112 rfl (by kernel_rfl) (.fn 112) (zAF hp21.1 (zAF hp21.2.1 (zAF hp21.2.2.1 rfl))) rfl (zDY hx6) rfl ?_
       exact zF ⟨fun _ => rfl, rfl⟩
      ·exact fun e s p => zt (zB (av := (AV.hd 6)) (s 15 rfl)) ⟨fun _ => rfl, rfl⟩
      ·exact fun e s p => zt (zB (av := (AV.hd 6)) (s 15 rfl)) ⟨fun _ => rfl, rfl⟩
      ·
       intro e25 hs25 hp24
       refine zx (H' := [.box 55 (zG a_p0), .box 55 (zG x6), .map (mI Value.bool x3), .dead, .vec 3 1 (List.map cI [a_p2]), .dead, .vec 3 1 (List.map cI (zCK (List.replicate a_p3.toNat 0) ((zCK (List.replicate ((at_ a_p0.lists a_p1).length : Int).toNat 0) (at_ a_p0.lists a_p1)) ++ [a_p2])))]) (zh (k := 1) (o := 0) (cs := ([(ls (cS cI) ([] : List (List Int)))] ++ [])) (la := (zG x6)) Tryz.sizeOf55 (by exact (hs25 10 rfl)) rfl rfl (by exact hp24.2.2.2.2.2.2.2.1)) ?_
       exact zF ⟨fun _ => rfl, rfl⟩
      ·exact fun e s p => zt (zD (av := (AV.hd 6)) p.2.2.2.2.2.2.2.2.1) ⟨fun _ => rfl, rfl⟩
      ·exact fun e s p => zt (zD (av := (li 0)) rfl) ⟨fun _ => rfl, rfl⟩
      intro e28 hs28 hq2
      refine zY (zBV (l := [(10, (AV.ptr 1 0)), (11, (AV.hd 6)), (12, (li 0))]) ⟨(hs28 10 rfl), (hq2 8 (by decide) (by decide)), (hq2 9 (by decide) (by decide)), trivial⟩) <| zY (zFJ (j := 6) (ds := [11]) (rows' := List.map cI (zCK (List.replicate a_p3.toNat 0) ((zCK (List.replicate ((at_ a_p0.lists a_p1).length : Int).toNat 0) (at_ a_p0.lists a_p1)) ++ [a_p2]))) rfl (zAa (fun _ => rfl)) ⟨rfl, trivial⟩) <| za ?_
      show zAS _ _ _ _ _ _
      obtain rfl := Option.some.inj h
      exact zEF (zHH Tryz.isAgg55 Tryz.sizeOf55 rfl rfl rfl rfl) (zAK rfl rfl) (zAK rfl rfl) rfl
theorem zKL {a_p0 : zL} {a_p1 : Int} {a_p2 : Int} {r : zL × Int} (h : zH1 a_p0 a_p1 a_p2 = some r) : PFn Tryz.prog 28 [(AV.agg (zJ a_p0)), (li a_p1), (li a_p2)] (AV.tup [(AV.agg (zJ r.1)), (li r.2)]) := by
 refine zi Tryz.func28 rfl Tryz.ntmps28 Tryz.results28 rfl ?_
 unfold zH1 at h
 refine zI <| zC <| zb (H' := [.box 26 (zJ a_p0)]) (zu (t := 26) rfl) <| zb (H' := [.box 26 (zJ a_p0), .box 26 ([(ls cI ([] : List Int))] ++ ([(li 0)] ++ ([(li 0)] ++ ([(ls zO ([] : List zm))] ++ ([(ls zG ([] : List zK))] ++ [])))))]) (z6 (t := 26) (vs := [.slice none 0 0, .int .i64 0, .int .i64 0, .slice none 0 0, .slice none 0 0]) (cs := [.sl false [], .lit (.int .i64 0), .lit (.int .i64 0), .sl false [], .sl false []]) Tryz.zeroValue26 (by kernel_rfl) rfl ⟨zq.nils, zq.refl _, zq.refl _, zq.nils, zq.nils, trivial⟩) <| zA (zD rfl) <| zF ?_
 refine zI <| zI <| zC <| zA (zT (k := 0) (o := 0) (m := 5) Tryz.isAgg26 Tryz.sizeOf26 rfl rfl rfl rfl rfl) ?_
 refine zP h ?_; clear h; intro x1 hx1 h
 refine zd Tryz.func13 rfl (by kernel_rfl) (.fn 13) rfl rfl (zAn hx1) rfl <| zA (zD rfl) <| zF <| zI <| zC <| zA (zB rfl) ?_
 refine zA (z7 rfl rfl) <| zF ?_
 refine zQ (!decide (x1 = 0)) rfl (fun hb1 => ?_) (fun hb1 => ?_)
 ·replace h := zo hb1 h
  refine zI <| zC <| zA (zAD (pl := [(0, 1), (1, 1), (2, 1), (3, 1), (4, 1)]) (zs := [.slice none 0 0, .int .i64 0, .int .i64 0, .slice none 0 0, .slice none 0 0]) (zc := [.sl false [], .lit (.int .i64 0), .lit (.int .i64 0), .sl false [], .sl false []]) (res := (zJ (⟨([] : List Int), 0, 0, ([] : List zm), ([] : List zK)⟩ : zL))) (fun _ => by kernel_rfl) rfl (⟨zq.nils, ⟨zq.refl _, ⟨zq.refl _, ⟨zq.nils, ⟨zq.nils, trivial⟩⟩⟩⟩⟩) (by exact zGB.refl _)) <| zA (zB rfl) <| zx (H' := [.box 26 (zJ a_p0), .box 26 (zJ (⟨([] : List Int), 0, 0, ([] : List zm), ([] : List zK)⟩ : zL))]) (zh (k := 1) (o := 0) (cs := ([(ls cI ([] : List Int))] ++ ([(li 0)] ++ ([(li 0)] ++ ([(ls zO ([] : List zm))] ++ ([(ls zG ([] : List zK))] ++ [])))))) (la := (zJ (⟨([] : List Int), 0, 0, ([] : List zm), ([] : List zK)⟩ : zL))) Tryz.sizeOf26 rfl rfl rfl rfl) <| zA (zD rfl) ?_
  refine zF <| za ?_
  show zAS _ _ _ _ _ _
  obtain rfl := Option.some.inj h
  exact zC1 (zHH Tryz.isAgg26 Tryz.sizeOf26 rfl rfl rfl rfl) (zAK rfl rfl) rfl
 ·replace h := zv hb1 h
  refine zR <| zI <| zC <| zA (zT (k := 0) (o := 0) (m := 5) Tryz.isAgg26 Tryz.sizeOf26 rfl rfl rfl rfl rfl) <| zA (zB rfl) ?_
  refine zP h ?_; clear h; intro x2 hx2 h
  refine zd Tryz.func44 rfl (by kernel_rfl) (.fn 44) rfl rfl (zEl hx2) rfl <| zA (zD rfl) <| zF <| zI <| zI <| zC ?_
  refine zA (zB rfl) <| zA (zf rfl rfl) <| zA (zB rfl) <| zU rfl rfl (fun hc1 => zj.step (zB rfl)) <| zU rfl rfl (fun hc2 => zj.step (zM Tryz.underlying26 rfl rfl Tryz.sizeOf22 rfl)) <| zU rfl rfl (fun hc3 => zj.step (zN Tryz.isAgg22 (zz rfl hc3) rfl rfl rfl)) ?_
  refine zU rfl rfl (fun hc4 => zj.step (zX Tryz.underlying22 (zz rfl hc4))) <| zU rfl rfl (fun hc5 => zj.step (zAq (zz rfl hc5) (zz rfl hc5))) <| zA (zZ rfl rfl) <| zA (zB rfl) <| zU rfl rfl (fun hc6 => zj.step (zB rfl)) <| zU rfl rfl (fun hc7 => zj.step (zf (zz rfl hc7) rfl)) ?_
  refine zA (zZ rfl rfl) <| zF ?_
  refine zQ (((decide (a_p1 < 0)) || (decide ((a_p0.nodes.length : Int) ≤ a_p1))) || (decide (x2 < 0))) rfl (fun hb2 => ?_) (fun hb2 => ?_)
  ·replace h := zo hb2 h
   refine zI <| zC <| zA (zAD (pl := [(0, 1), (1, 1), (2, 1), (3, 1), (4, 1)]) (zs := [.slice none 0 0, .int .i64 0, .int .i64 0, .slice none 0 0, .slice none 0 0]) (zc := [.sl false [], .lit (.int .i64 0), .lit (.int .i64 0), .sl false [], .sl false []]) (res := (zJ (⟨([] : List Int), 0, 0, ([] : List zm), ([] : List zK)⟩ : zL))) (fun _ => by kernel_rfl) rfl (⟨zq.nils, ⟨zq.refl _, ⟨zq.refl _, ⟨zq.nils, ⟨zq.nils, trivial⟩⟩⟩⟩⟩) (by exact zGB.refl _)) <| zx (H' := [.box 26 (zJ a_p0), .box 26 (zJ (⟨([] : List Int), 0, 0, ([] : List zm), ([] : List zK)⟩ : zL))]) (zh (k := 1) (o := 0) (cs := ([(ls cI ([] : List Int))] ++ ([(li 0)] ++ ([(li 0)] ++ ([(ls zO ([] : List zm))] ++ ([(ls zG ([] : List zK))] ++ [])))))) (la := (zJ (⟨([] : List Int), 0, 0, ([] : List zm), ([] : List zK)⟩ : zL))) Tryz.sizeOf26 rfl rfl rfl rfl) <| zA (zD rfl) <| zF ?_
   refine za ?_
   show zAS _ _ _ _ _ _
   obtain rfl := Option.some.inj h
   exact zC1 (zHH Tryz.isAgg26 Tryz.sizeOf26 rfl rfl rfl rfl) (zAK rfl rfl) rfl
  ·replace h := zv hb2 h
   refine zR <| zI <| zI <| zC <| zA (zT (k := 0) (o := 0) (m := 5) Tryz.isAgg26 Tryz.sizeOf26 rfl rfl rfl rfl rfl) <| zA (zB rfl) ?_
   refine zA (zB rfl) ?_
   refine zP h ?_; clear h; intro x3 hx3 h
   refine zd Tryz.func50 rfl (by kernel_rfl) (.fn 50) rfl rfl (zIJ hx3) rfl <| zF ?_
   refine zQ (x3) rfl (fun hb3 => ?_) (fun hb3 => ?_)
   ·replace h := zo hb3 h
    refine zI <| zC <| zA (zAD (pl := [(0, 1), (1, 1), (2, 1), (3, 1), (4, 1)]) (zs := [.slice none 0 0, .int .i64 0, .int .i64 0, .slice none 0 0, .slice none 0 0]) (zc := [.sl false [], .lit (.int .i64 0), .lit (.int .i64 0), .sl false [], .sl false []]) (res := (zJ (⟨([] : List Int), 0, 0, ([] : List zm), ([] : List zK)⟩ : zL))) (fun _ => by kernel_rfl) rfl (⟨zq.nils, ⟨zq.refl _, ⟨zq.refl _, ⟨zq.nils, ⟨zq.nils, trivial⟩⟩⟩⟩⟩) (by exact zGB.refl _)) <| zx (H' := [.box 26 (zJ a_p0), .box 26 (zJ (⟨([] : List Int), 0, 0, ([] : List zm), ([] : List zK)⟩ : zL))]) (zh (k := 1) (o := 0) (cs := ([(ls cI ([] : List Int))] ++ ([(li 0)] ++ ([(li 0)] ++ ([(ls zO ([] : List zm))] ++ ([(ls zG ([] : List zK))] ++ [])))))) (la := (zJ (⟨([] : List Int), 0, 0, ([] : List zm), ([] : List zK)⟩ : zL))) Tryz.sizeOf26 rfl rfl rfl rfl) <| zA (zD rfl) <| zF ?_
    refine za ?_
    show zAS _ _ _ _ _ _
    obtain rfl := Option.some.inj h
    exact zC1 (zHH Tryz.isAgg26 Tryz.sizeOf26 rfl rfl rfl rfl) (zAK rfl rfl) rfl
   ·replace h := zv hb3 h
    refine zR <| zI <| zC <| zA (zT (k := 0) (o := 0) (m := 5) Tryz.isAgg26 Tryz.sizeOf26 rfl rfl rfl rfl rfl) ?_
    refine zP h ?_; clear h; intro x4 hx4 h
    refine zIK (cs := ([(ls cI x4.nodes)] ++ ([(li x4.batch)] ++ ([(li x4.high)] ++ ([AV.osl 51 10 (List.map zO x4.zones)] ++ ([AV.osl 55 1 (List.map zG x4.caches)] ++ [])))))) (la := [(AV.agg (zJ a_p0))]) (la' := [(AV.agg (zJ a_p0))]) (S := []) Tryz.func54 rfl (by kernel_rfl) (.fn 54) rfl ⟨zAt.nr rfl, trivial⟩ (zEI hx4) (.inl rfl) <| zb (H' := [.box 26 (zJ a_p0), .box 26 ([(ls cI ([] : List Int))] ++ ([(li 0)] ++ ([(li 0)] ++ ([(ls zO ([] : List zm))] ++ ([(ls zG ([] : List zK))] ++ []))))), .val (.agg ([(ls cI x4.nodes)] ++ ([(li x4.batch)] ++ ([(li x4.high)] ++ ([AV.osl 51 10 (List.map zO x4.zones)] ++ ([AV.osl 55 1 (List.map zG x4.caches)] ++ [])))))), .box 26 ([(ls cI ([] : List Int))] ++ ([(li 0)] ++ ([(li 0)] ++ ([(ls zO ([] : List zm))] ++ ([(ls zG ([] : List zK))] ++ [])))))]) (z6 (t := 26) (vs := [.slice none 0 0, .int .i64 0, .int .i64 0, .slice none 0 0, .slice none 0 0]) (cs := [.sl false [], .lit (.int .i64 0), .lit (.int .i64 0), .sl false [], .sl false []]) Tryz.zeroValue26 (by kernel_rfl) rfl ⟨zq.nils, zq.refl _, zq.refl _, zq.nils, zq.nils, trivial⟩) <| zx (H' := [.box 26 (zJ a_p0), .box 26 ([(ls cI ([] : List Int))] ++ ([(li 0)] ++ ([(li 0)] ++ ([(ls zO ([] : List zm))] ++ ([(ls zG ([] : List zK))] ++ []))))), .dead, .box 26 ([(ls cI x4.nodes)] ++ ([(li x4.batch)] ++ ([(li x4.high)] ++ ([AV.osl 51 10 (List.map zO x4.zones)] ++ ([AV.osl 55 1 (List.map zG x4.caches)] ++ [])))))]) (zEk (k := 3) (o := 0) (j := 2) (cs := ([(ls cI ([] : List Int))] ++ ([(li 0)] ++ ([(li 0)] ++ ([(ls zO ([] : List zm))] ++ ([(ls zG ([] : List zK))] ++ [])))))) (la := ([(ls cI x4.nodes)] ++ ([(li x4.batch)] ++ ([(li x4.high)] ++ ([AV.osl 51 10 (List.map zO x4.zones)] ++ ([AV.osl 55 1 (List.map zG x4.caches)] ++ [])))))) Tryz.sizeOf26 rfl rfl rfl rfl rfl (by decide)) <| zF <| zI <| zY (zB0 (k := 3) (o := 4) (t' := 55) (sz := 1) (rows := List.map zG x4.caches) rfl rfl) ?_
    have hb4 := (zH h).1
    replace h := (zH h).2
    refine zP h ?_; clear h; intro x5 hx5 h
    show AW _ _ _ _ _ _ [.box 26 (zJ a_p0), .box 26 ([(ls cI ([] : List Int))] ++ ([(li 0)] ++ ([(li 0)] ++ ([(ls zO ([] : List zm))] ++ ([(ls zG ([] : List zK))] ++ []))))), .dead, .box 26 ([(ls cI x4.nodes)] ++ ([(li x4.batch)] ++ ([(li x4.high)] ++ ([AV.osl 51 10 (List.map zO x4.zones)] ++ ([AV.hd 4] ++ []))))), .vec 55 1 (List.map zG x4.caches)]
    refine zAz (n := 73) (m := 0) [.head 0 1, .head 0 1, .head 0 1, .head 0 1, .head 0 1, .head 0 1, .head 0 1, .head 0 1, .head 0 1, .head 0 1, .head 0 1, .head 0 1, .head 0 1, .head 0 1, .head 0 2, .head 0 2, .tail 0, .tail 1, .head 2 2, .head 2 2] [16, 17] [(AV.ptr 3 4), (AV.hd 4), (li a_p1), (AV.ptr 4 (a_p1.toNat * 1)), (AV.agg (zG (at_ x4.caches a_p1))), (li x2), (li a_p2), (AV.ptr 3 1), (li x4.batch), (AV.ptr 3 2), (li x4.high), (AV.tup [(AV.agg (zG x5.1)), (ls cI x5.2.1), (li x5.2.2)]), (AV.tup [(AV.agg (zG x5.1)), (ls cI x5.2.1), (li x5.2.2)]), (AV.agg (zG x5.1)), (ls cI x5.2.1), (li x5.2.2), (AV.ptr 5 0), .any, (ls cI x5.2.1), (li x5.2.2)] [[.box 26 (zJ a_p0), .box 26 ([(ls cI ([] : List Int))] ++ ([(li 0)] ++ ([(li 0)] ++ ([(ls zO ([] : List zm))] ++ ([(ls zG ([] : List zK))] ++ []))))), .dead, .box 26 ([(ls cI x4.nodes)] ++ ([(li x4.batch)] ++ ([(li x4.high)] ++ ([AV.osl 51 10 (List.map zO x4.zones)] ++ ([AV.hd 4] ++ []))))), .vec 55 1 (List.map zG x4.caches)], [.box 26 (zJ a_p0), .box 26 ([(ls cI ([] : List Int))] ++ ([(li 0)] ++ ([(li 0)] ++ ([(ls zO ([] : List zm))] ++ ([(ls zG ([] : List zK))] ++ []))))), .dead, .box 26 ([(ls cI x4.nodes)] ++ ([(li x4.batch)] ++ ([(li x4.high)] ++ ([AV.osl 51 10 (List.map zO x4.zones)] ++ ([AV.hd 4] ++ []))))), .vec 55 1 (List.map zG x4.caches), .box 55 ([(ls (cS cI) ([] : List (List Int)))] ++ [])], [.box 26 (zJ a_p0), .box 26 ([(ls cI ([] : List Int))] ++ ([(li 0)] ++ ([(li 0)] ++ ([(ls zO ([] : List zm))] ++ ([(ls zG ([] : List zK))] ++ []))))), .dead, .box 26 ([(ls cI x4.nodes)] ++ ([(li x4.batch)] ++ ([(li x4.high)] ++ ([AV.osl 51 10 (List.map zO x4.zones)] ++ ([AV.hd 4] ++ []))))), .vec 55 1 (List.map zG x4.caches), .box 55 (zG x5.1)]] (by kernel_rfl) (by kernel_rfl) ⟨⟨?_, ?_⟩, ⟨?_, ?_⟩, ⟨?_, ?_⟩, ⟨?_, ?_⟩, ⟨?_, ?_⟩, ⟨?_, ?_⟩, ⟨?_, ?_⟩, ⟨?_, ?_⟩, ⟨?_, ?_⟩, ⟨?_, ?_⟩, ⟨?_, ?_⟩, ⟨?_, ?_⟩, ⟨?_, ?_⟩, ⟨?_, ?_⟩, ⟨?_, ?_, ?_⟩, ⟨?_, ?_, ?_⟩, ?_, ?_, ?_, ?_, trivial⟩ ?_
    ·exact fun e s p => zt (zM (k := 3) (o := 0) (off := 4) Tryz.underlying26 rfl rfl Tryz.sizeOf24 (s 10 rfl)) ⟨fun _ => rfl, rfl⟩
    ·exact fun e s p => zt (zM (k := 3) (o := 0) (off := 4) Tryz.underlying26 rfl rfl Tryz.sizeOf24 (s 10 rfl)) ⟨fun _ => rfl, rfl⟩
    ·exact fun e s p => zt (zN (k := 3) (o := 4) (a := (AV.hd 4)) Tryz.isAgg24 p.1 rfl rfl rfl) ⟨fun _ => rfl, rfl⟩
    ·exact fun e s p => zt (zN (k := 3) (o := 4) (a := (AV.hd 4)) Tryz.isAgg24 p.1 rfl rfl rfl) ⟨fun _ => rfl, rfl⟩
    ·exact fun e s p => zt (zB (av := (li a_p1)) (s 1 rfl)) ⟨fun _ => rfl, rfl⟩
    ·exact fun e s p => zt (zB (av := (li a_p1)) (s 1 rfl)) ⟨fun _ => rfl, rfl⟩
    ·exact fun e s p => zt (zAI (f := zG) (l := x4.caches) (i := a_p1) Tryz.underlying24 Tryz.sizeOf55 p.1 rfl p.2.1 hb4) ⟨fun _ => rfl, rfl⟩
    ·exact fun e s p => zt (zAI (f := zG) (l := x4.caches) (i := a_p1) Tryz.underlying24 Tryz.sizeOf55 p.1 rfl p.2.1 hb4) ⟨fun _ => rfl, rfl⟩
    ·exact fun e s p => zt (zDj (f := zG) (l := x4.caches) (i := a_p1) (c := 0) (q := 1) (la := (zG (at_ x4.caches a_p1))) Tryz.isAgg55 Tryz.sizeOf55 p.1 rfl (by first | rfl | omega) hb4 rfl rfl rfl) ⟨fun _ => rfl, rfl⟩
    ·exact fun e s p => zt (zDj (f := zG) (l := x4.caches) (i := a_p1) (c := 0) (q := 1) (la := (zG (at_ x4.caches a_p1))) Tryz.isAgg55 Tryz.sizeOf55 p.1 rfl (by first | rfl | omega) hb4 rfl rfl rfl) ⟨fun _ => rfl, rfl⟩
    ·exact fun e s p => zt (zB (av := (li x2)) (s 9 rfl)) ⟨fun _ => rfl, rfl⟩
    ·exact fun e s p => zt (zB (av := (li x2)) (s 9 rfl)) ⟨fun _ => rfl, rfl⟩
    ·exact fun e s p => zt (zB (av := (li a_p2)) (s 2 rfl)) ⟨fun _ => rfl, rfl⟩
    ·exact fun e s p => zt (zB (av := (li a_p2)) (s 2 rfl)) ⟨fun _ => rfl, rfl⟩
    ·exact fun e s p => zt (zM (k := 3) (o := 0) (off := 1) Tryz.underlying26 rfl rfl Tryz.sizeOf3 (s 10 rfl)) ⟨fun _ => rfl, rfl⟩
    ·exact fun e s p => zt (zM (k := 3) (o := 0) (off := 1) Tryz.underlying26 rfl rfl Tryz.sizeOf3 (s 10 rfl)) ⟨fun _ => rfl, rfl⟩
    ·exact fun e s p => zt (zN (k := 3) (o := 1) (a := (li x4.batch)) Tryz.isAgg3 p.1 rfl rfl rfl) ⟨fun _ => rfl, rfl⟩
    ·exact fun e s p => zt (zN (k := 3) (o := 1) (a := (li x4.batch)) Tryz.isAgg3 p.1 rfl rfl rfl) ⟨fun _ => rfl, rfl⟩
    ·exact fun e s p => zt (zM (k := 3) (o := 0) (off := 2) Tryz.underlying26 rfl rfl Tryz.sizeOf3 (s 10 rfl)) ⟨fun _ => rfl, rfl⟩
    ·exact fun e s p => zt (zM (k := 3) (o := 0) (off := 2) Tryz.underlying26 rfl rfl Tryz.sizeOf3 (s 10 rfl)) ⟨fun _ => rfl, rfl⟩
    ·exact fun e s p => zt (zN (k := 3) (o := 2) (a := (li x4.high)) Tryz.isAgg3 p.1 rfl rfl rfl) ⟨fun _ => rfl, rfl⟩
    ·exact fun e s p => zt (zN (k := 3) (o := 2) (a := (li x4.high)) Tryz.isAgg3 p.1 rfl rfl rfl) ⟨fun _ => rfl, rfl⟩
    ·
     intro e23 hs23 hp23
     refine zd (r := (AV.tup [(AV.agg (zG x5.1)), (ls cI x5.2.1), (li x5.2.2)])) (la := [(AV.agg (zG (at_ x4.caches a_p1))), (li x2), (li a_p2), (li x4.batch), (li x4.high)]) Tryz.func67 rfl (by kernel_rfl) (.fn 67) (zAF hp23.1 (zAF hp23.2.1 (zAF hp23.2.2.1 (zAF hp23.2.2.2.1 (zAF hp23.2.2.2.2.1 rfl))))) rfl (zKG hx5) rfl ?_
     exact zF ⟨fun _ => rfl, rfl⟩
    ·
     intro e24 hs24 hp24
     refine zd (r := (AV.tup [(AV.agg (zG x5.1)), (ls cI x5.2.1), (li x5.2.2)])) (la := [(AV.agg (zG (at_ x4.caches a_p1))), (li x2), (li a_p2), (li x4.batch), (li x4.high)]) Tryz.func67 rfl (by kernel_rfl) (.fn 67) (zAF hp24.1 (zAF hp24.2.1 (zAF hp24.2.2.1 (zAF hp24.2.2.2.1 (zAF hp24.2.2.2.2.1 rfl))))) rfl (zKG hx5) rfl ?_
     exact zF ⟨fun _ => rfl, rfl⟩
    ·exact fun e s p => zt (zB (av := (AV.tup [(AV.agg (zG x5.1)), (ls cI x5.2.1), (li x5.2.2)])) p.1) ⟨fun _ => rfl, rfl⟩
    ·exact fun e s p => zt (zB (av := (AV.tup [(AV.agg (zG x5.1)), (ls cI x5.2.1), (li x5.2.2)])) p.1) ⟨fun _ => rfl, rfl⟩
    ·exact fun e s p => zt (zl (la := [(AV.agg (zG x5.1)), (ls cI x5.2.1), (li x5.2.2)]) p.1 rfl) ⟨fun _ => rfl, rfl⟩
    ·exact fun e s p => zt (zl (la := [(AV.agg (zG x5.1)), (ls cI x5.2.1), (li x5.2.2)]) p.1 rfl) ⟨fun _ => rfl, rfl⟩
    ·exact fun e s p => zt (zl (la := [(AV.agg (zG x5.1)), (ls cI x5.2.1), (li x5.2.2)]) p.1 rfl) ⟨fun _ => rfl, rfl⟩
    ·exact fun e s p => zt (zl (la := [(AV.agg (zG x5.1)), (ls cI x5.2.1), (li x5.2.2)]) p.1 rfl) ⟨fun _ => rfl, rfl⟩
    ·exact fun e s p => zt (zl (la := [(AV.agg (zG x5.1)), (ls cI x5.2.1), (li x5.2.2)]) p.1 rfl) ⟨fun _ => rfl, rfl⟩
    ·exact fun e s p => zt (zl (la := [(AV.agg (zG x5.1)), (ls cI x5.2.1), (li x5.2.2)]) p.1 rfl) ⟨fun _ => rfl, rfl⟩
    ·exact fun e s p => zt (zl (la := [(AV.agg (zG x5.1)), (ls cI x5.2.1), (li x5.2.2)]) p.1 rfl) ⟨fun _ => rfl, rfl⟩
    ·exact fun e s p => zt (zl (la := [(AV.agg (zG x5.1)), (ls cI x5.2.1), (li x5.2.2)]) p.1 rfl) ⟨fun _ => rfl, rfl⟩
    ·
     intro e35 hs35 hp35
     refine zb (H' := [.box 26 (zJ a_p0), .box 26 ([(ls cI ([] : List Int))] ++ ([(li 0)] ++ ([(li 0)] ++ ([(ls zO ([] : List zm))] ++ ([(ls zG ([] : List zK))] ++ []))))), .dead, .box 26 ([(ls cI x4.nodes)] ++ ([(li x4.batch)] ++ ([(li x4.high)] ++ ([AV.osl 51 10 (List.map zO x4.zones)] ++ ([AV.hd 4] ++ []))))), .vec 55 1 (List.map zG x4.caches), .box 55 ([(ls (cS cI) ([] : List (List Int)))] ++ [])]) (z6 (t := 55) (vs := [.slice none 0 0]) (cs := [.sl false []]) Tryz.zeroValue55 (by kernel_rfl) rfl ⟨zq.nils, trivial⟩) ?_
     exact zF ⟨fun _ => rfl, rfl⟩
    ·
     intro e36 hs36 hp36
     refine zx (H' := [.box 26 (zJ a_p0), .box 26 ([(ls cI ([] : List Int))] ++ ([(li 0)] ++ ([(li 0)] ++ ([(ls zO ([] : List zm))] ++ ([(ls zG ([] : List zK))] ++ []))))), .dead, .box 26 ([(ls cI x4.nodes)] ++ ([(li x4.batch)] ++ ([(li x4.high)] ++ ([AV.osl 51 10 (List.map zO x4.zones)] ++ ([AV.hd 4] ++ []))))), .vec 55 1 (List.map zG x4.caches), .box 55 (zG x5.1)]) (zh (k := 5) (o := 0) (cs := ([(ls (cS cI) ([] : List (List Int)))] ++ [])) (la := (zG x5.1)) Tryz.sizeOf55 (by exact hp36.2.2.2.2.2.2.2.2.2.2.2.2.2.2.2.2.2.2.2.1) rfl rfl (by exact hp36.2.2.2.2.2.2.2.2.2.2.2.2.2.2.2.2.1)) ?_
     exact zF ⟨fun _ => rfl, rfl⟩
    ·exact fun e s p => zt (zD (av := (ls cI x5.2.1)) p.2.2.2.2.2.2.2.2.2.2.2.2.2.2.2.2.1) ⟨fun _ => rfl, rfl⟩
    ·exact fun e s p => zt (zD (av := (li x5.2.2)) p.2.2.2.2.2.2.2.2.2.2.2.2.2.2.2.2.2.1) ⟨fun _ => rfl, rfl⟩
    intro e39 hs39 hq1
    refine zY (zBV (l := [(1, (li a_p1)), (6, (AV.ptr 1 0)), (9, (li x2)), (10, (AV.ptr 3 0)), (11, (AV.ptr 5 0)), (12, (ls cI x5.2.1)), (13, (li x5.2.2))]) ⟨(hs39 1 rfl), (hs39 6 rfl), (hs39 9 rfl), (hs39 10 rfl), (hq1 16 (by decide) (by decide)), (hq1 18 (by decide) (by decide)), (hq1 19 (by decide) (by decide)), trivial⟩) <| zI <| zI <| zC <| zA (zB (av := (li x5.2.2)) rfl) <| zA (z7 (a := x5.2.2) (b := 0) rfl rfl) ?_
    refine zF ?_
    refine zQ (!decide (x5.2.2 = 0)) rfl (fun hb5 => ?_) (fun hb5 => ?_)
    ·replace h := zo hb5 h
     refine zI <| zC <| zA (zAD (pl := [(0, 1), (1, 1), (2, 1), (3, 1), (4, 1)]) (zs := [.slice none 0 0, .int .i64 0, .int .i64 0, .slice none 0 0, .slice none 0 0]) (zc := [.sl false [], .lit (.int .i64 0), .lit (.int .i64 0), .sl false [], .sl false []]) (res := (zJ (⟨([] : List Int), 0, 0, ([] : List zm), ([] : List zK)⟩ : zL))) (fun _ => by kernel_rfl) rfl (⟨zq.nils, ⟨zq.refl _, ⟨zq.refl _, ⟨zq.nils, ⟨zq.nils, trivial⟩⟩⟩⟩⟩) (by exact zGB.refl _)) <| zA (zB rfl) <| zx (H' := [.box 26 (zJ a_p0), .box 26 (zJ (⟨([] : List Int), 0, 0, ([] : List zm), ([] : List zK)⟩ : zL)), .dead, .box 26 ([(ls cI x4.nodes)] ++ ([(li x4.batch)] ++ ([(li x4.high)] ++ ([AV.osl 51 10 (List.map zO x4.zones)] ++ ([AV.hd 4] ++ []))))), .vec 55 1 (List.map zG x4.caches), .box 55 (zG x5.1)]) (zh (k := 1) (o := 0) (cs := ([(ls cI ([] : List Int))] ++ ([(li 0)] ++ ([(li 0)] ++ ([(ls zO ([] : List zm))] ++ ([(ls zG ([] : List zK))] ++ [])))))) (la := (zJ (⟨([] : List Int), 0, 0, ([] : List zm), ([] : List zK)⟩ : zL))) Tryz.sizeOf26 rfl rfl rfl rfl) <| zA (zD rfl) ?_
     refine zF <| za ?_
     show zAS _ _ _ _ _ _
     obtain rfl := Option.some.inj h
     exact zC1 (zHH Tryz.isAgg26 Tryz.sizeOf26 rfl rfl rfl rfl) (zAK rfl rfl) rfl
    ·replace h := zv hb5 h
     refine zR <| zI <| zC <| zA (zM Tryz.underlying26 rfl rfl Tryz.sizeOf24 rfl) <| zA (zN Tryz.isAgg24 rfl rfl rfl rfl) <| zA (zB rfl) ?_
     refine zA (zT (k := 5) (o := 0) (m := 1) Tryz.isAgg55 Tryz.sizeOf55 rfl rfl rfl rfl rfl) <| zA (zAI (f := zG) (l := x4.caches) (i := a_p1) Tryz.underlying24 Tryz.sizeOf55 rfl rfl rfl hb4) <| zx (H' := [.box 26 (zJ a_p0), .box 26 ([(ls cI ([] : List Int))] ++ ([(li 0)] ++ ([(li 0)] ++ ([(ls zO ([] : List zm))] ++ ([(ls zG ([] : List zK))] ++ []))))), .dead, .box 26 ([(ls cI x4.nodes)] ++ ([(li x4.batch)] ++ ([(li x4.high)] ++ ([AV.osl 51 10 (List.map zO x4.zones)] ++ ([AV.hd 4] ++ []))))), .vec 55 1 (List.map zG (x4.caches.set a_p1.toNat x5.1)), .box 55 (zG x5.1)]) (zCw (k := 4) (o := (a_p1.toNat * 1)) (f := zG) (l := x4.caches) (i := a_p1) (z := x5.1) Tryz.sizeOf55 (fun _ => rfl) rfl rfl (by first | rfl | omega) hb4 rfl rfl) <| zF <| zI <| zC ?_
     refine zA (zB rfl) <| zA (zB rfl) <| zAe (zAP (k := 3) (j := 4) (o := 4) rfl rfl rfl rfl) ?_
     refine zP h ?_; clear h; intro x6 hx6 h
     refine zD2 (k := 3) (la := [(AV.ptr 3 0), (li x2), (ls cI x5.2.1)]) (la' := [(AV.ptr 0 0), (li x2), (ls cI x5.2.1)]) (r := (.tup [])) (S := []) (en' := .box 26 ([(ls cI x6.nodes)] ++ ([(li x6.batch)] ++ ([(li x6.high)] ++ ([AV.osl 51 10 (List.map zO x6.zones)] ++ ([AV.osl 55 1 (List.map zG x6.caches)] ++ [])))))) Tryz.func68 rfl (by kernel_rfl) (.fn 68) rfl ⟨zCn.ptr, zCn.of (zAt.nr rfl), zCn.of (zAt.nr rfl), trivial⟩ rfl rfl (by kernel_rfl) (by kernel_rfl) (zIN hx6) rfl (.inl rfl) <| zF <| zI <| zC <| zAe (zCL (k := 3) (o := 3) (rows' := List.map zO x6.zones) rfl rfl (zAa (fun _ => rfl))) <| zAe (zCL (k := 3) (o := 4) (rows' := List.map zG x6.caches) rfl rfl (zAa (fun _ => rfl))) ?_
     refine zA (zT (k := 3) (o := 0) (m := 5) Tryz.isAgg26 Tryz.sizeOf26 rfl rfl rfl rfl rfl) <| zx (H' := [.box 26 (zJ a_p0), .box 26 (zJ (⟨x6.nodes, x6.batch, x6.high, x6.zones, x6.caches⟩ : zL)), .dead, .box 26 ([(ls cI x6.nodes)] ++ ([(li x6.batch)] ++ ([(li x6.high)] ++ ([(ls zO x6.zones)] ++ ([(ls zG x6.caches)] ++ []))))), .dead, .box 55 (zG x5.1)]) (zh (k := 1) (o := 0) (cs := ([(ls cI ([] : List Int))] ++ ([(li 0)] ++ ([(li 0)] ++ ([(ls zO ([] : List zm))] ++ ([(ls zG ([] : List zK))] ++ [])))))) (la := (zJ (⟨x6.nodes, x6.batch, x6.high, x6.zones, x6.caches⟩ : zL))) Tryz.sizeOf26 rfl rfl rfl rfl) <| zA (zD rfl) <| zF <| za ?_
     show zAS _ _ _ _ _ _
     obtain rfl := Option.some.inj h
     exact zC1 (zHH Tryz.isAgg26 Tryz.sizeOf26 rfl rfl rfl rfl) (zAK rfl rfl) rfl
end Go.Proofs.YtplkliakhdkpcaaGreat
