/-
  The program computes what these functions give, part d.
-/
import Derived.Test.YtplkliakhdkpcaaGreatWc
set_option linter.unusedVariables false
set_option linter.unusedSimpArgs false
namespace Go.Proofs.YtplkliakhdkpcaaGreat
open Go Go.RowKit Go.Wk Go.Am Go.Proofs
set_option maxHeartbeats 4000000
theorem zMp {a_a : zL} {a_frame : Int} {r : Int} (h : zIA a_a a_frame = some r) : PFn Tryz.prog 49 [(AV.agg (zJ a_a)), (li a_frame)] (li r) := by
 refine zi Tryz.func49 rfl Tryz.ntmps49 Tryz.results49 rfl ?_
 unfold zIA at h
 refine zI <| zC <| zb (H' := [.box 26 (zJ a_a)]) (zu (t := 26) rfl) <| zA (zD rfl) <| zF ?_
 refine z5 (fun e' H' => Rep 39 0 e' H' (mkE []) [] ∧ zIa  = some r) ?_ ?_
 ·
  refine zI <| zC <| zA (zD rfl) <| zF <| zS <| z9 (σ := Nat × Int) (fun s => s.1) (fun s e' H' => match s with | (n0, i1) => Rep 39 0 e' H' (mkE [(1, (li a_frame)), (2, (AV.ptr 0 0)), (5, (li i1))]) [.box 26 (zJ a_a)] ∧ zFh a_a a_frame n0 i1 = some r) (zAC, 0) ⟨zAE [0] rfl rfl (by kernel_rfl), h⟩ ?_
  clear h
  rintro ⟨n0, i1⟩ e' H' ⟨hrep, h⟩
  cases n0 with
  | zero => exact absurd (show (none : Option _) = some r from h) (by simp)
  | succ n0 =>
   replace h : zDl a_a a_frame (zFh a_a a_frame n0) i1 = some r := h
   unfold zDl at h
   refine zY hrep ?_
   clear hrep
   refine zI <| zI <| zC <| zA (zB rfl) <| zA (zM Tryz.underlying26 rfl rfl Tryz.sizeOf23 rfl) <| zA (zN Tryz.isAgg23 rfl rfl rfl rfl) ?_
   refine zA (zX Tryz.underlying23 rfl) <| zA (zf rfl rfl) <| zF ?_
   refine zQ (decide (i1 < (a_a.zones.length : Int))) rfl (fun hb1 => ?_) (fun hb1 => ?_)
   ·replace h := zo hb1 h
    refine zR <| zI <| zS <| zI ?_
    have hb2 := (zH h).1
    replace h := (zH h).2
    have hb3 := (zH h).1
    replace h := (zH h).2
    show AW _ _ _ _ _ _ [.box 26 (zJ a_a)]
    refine zAz (n := 39) (m := 0) [.head 0 0, .head 0 0, .head 0 0, .head 0 0, .head 0 0, .head 0 0, .head 0 0, .head 0 0, .head 0 0, .head 0 0, .head 0 0, .head 0 0, .head 0 0, .head 0 0, .head 0 0, .head 0 0, .head 0 0, .head 0 0, .head 0 0, .head 0 0, .head 0 0, .head 0 0, .head 0 0, .head 0 0, .head 0 0] [] [(li a_frame), (AV.ptr 0 3), (ls zO a_a.zones), (li i1), (AV.rp (zO (at_ a_a.zones i1)) 0), (AV.rp (zO (at_ a_a.zones i1)) 2), (li ((at_ a_a.zones i1).start)), (AV.lit (.bool (decide (((at_ a_a.zones i1).start) ≤ a_frame)))), (AV.lit (.bool (decide (((at_ a_a.zones i1).start) ≤ a_frame)))), (bif decide (((at_ a_a.zones i1).start) ≤ a_frame) then (li a_frame) else .lit undef), (bif decide (((at_ a_a.zones i1).start) ≤ a_frame) then (AV.ptr 0 3) else .lit undef), (bif decide (((at_ a_a.zones i1).start) ≤ a_frame) then (ls zO a_a.zones) else .lit undef), (bif decide (((at_ a_a.zones i1).start) ≤ a_frame) then (li i1) else .lit undef), (bif decide (((at_ a_a.zones i1).start) ≤ a_frame) then (AV.rp (zO (at_ a_a.zones i1)) 0) else .lit undef), (bif decide (((at_ a_a.zones i1).start) ≤ a_frame) then (AV.rp (zO (at_ a_a.zones i1)) 2) else .lit undef), (bif decide (((at_ a_a.zones i1).start) ≤ a_frame) then (li ((at_ a_a.zones i1).start)) else .lit undef), (bif decide (((at_ a_a.zones i1).start) ≤ a_frame) then (AV.ptr 0 3) else .lit undef), (bif decide (((at_ a_a.zones i1).start) ≤ a_frame) then (ls zO a_a.zones) else .lit undef), (bif decide (((at_ a_a.zones i1).start) ≤ a_frame) then (li i1) else .lit undef), (bif decide (((at_ a_a.zones i1).start) ≤ a_frame) then (AV.rp (zO (at_ a_a.zones i1)) 0) else .lit undef), (bif decide (((at_ a_a.zones i1).start) ≤ a_frame) then (AV.rp (zO (at_ a_a.zones i1)) 3) else .lit undef), (bif decide (((at_ a_a.zones i1).start) ≤ a_frame) then (li ((at_ a_a.zones i1).count)) else .lit undef), (bif decide (((at_ a_a.zones i1).start) ≤ a_frame) then (li (((at_ a_a.zones i1).start) + ((at_ a_a.zones i1).count))) else .lit undef), (bif decide (((at_ a_a.zones i1).start) ≤ a_frame) then (AV.lit (.bool (decide (a_frame < (((at_ a_a.zones i1).start) + ((at_ a_a.zones i1).count)))))) else .lit undef), (AV.lit (.bool ((decide (((at_ a_a.zones i1).start) ≤ a_frame)) && (decide (a_frame < (((at_ a_a.zones i1).start) + ((at_ a_a.zones i1).count)))))))] [[.box 26 (zJ a_a)]] (by kernel_rfl) (by kernel_rfl) ⟨?_, ?_, ?_, ?_, ?_, ?_, ?_, ?_, ?_, ?_, ?_, ?_, ?_, ?_, ?_, ?_, ?_, ?_, ?_, ?_, ?_, ?_, ?_, ?_, ?_, trivial⟩ ?_
    ·exact fun e s p => zt (zB (av := (li a_frame)) (s 1 rfl)) ⟨fun _ => rfl, rfl⟩
    ·exact fun e s p => zt (zM (k := 0) (o := 0) (off := 3) Tryz.underlying26 rfl rfl Tryz.sizeOf23 (s 2 rfl)) ⟨fun _ => rfl, rfl⟩
    ·exact fun e s p => zt (zN (k := 0) (o := 3) (a := (ls zO a_a.zones)) Tryz.isAgg23 p.1 rfl rfl rfl) ⟨fun _ => rfl, rfl⟩
    ·exact fun e s p => zt (zB (av := (li i1)) (s 5 rfl)) ⟨fun _ => rfl, rfl⟩
    ·exact fun e s p => zt (zV (f := zO) (l := a_a.zones) (i := i1) Tryz.underlying23 Tryz.sizeOf51 (fun _ => rfl) p.1 p.2.1 hb2) ⟨fun _ => rfl, rfl⟩
    ·exact fun e s p => zt (zAy (row := (zO (at_ a_a.zones i1))) (o := 0) (off := 2) Tryz.underlying51 rfl rfl Tryz.sizeOf3 p.1) ⟨fun _ => rfl, rfl⟩
    ·exact fun e s p => zt (zW (row := (zO (at_ a_a.zones i1))) (o := 2) (a := (li ((at_ a_a.zones i1).start))) Tryz.isAgg3 p.1 rfl) ⟨fun _ => rfl, rfl⟩
    ·exact fun e s p => zt (zAq (a := a_frame) (b := (at_ a_a.zones i1).start) p.1 p.2.1) ⟨fun _ => rfl, rfl⟩
    ·exact fun e s p => zt (zB (av := (AV.lit (.bool (decide (((at_ a_a.zones i1).start) ≤ a_frame))))) p.1) ⟨fun _ => rfl, rfl⟩
    ·
     intro e10 hs10 hp10
     refine zg (g := 21) (s := decide (((at_ a_a.zones i1).start) ≤ a_frame)) rfl hp10.1 (fun hc16 => zj.step (zB (av := (li a_frame)) (hs10 1 rfl))) ?_
     exact zF ⟨fun _ => rfl, rfl⟩
    ·
     intro e11 hs11 hp11
     refine zg (g := 21) (s := decide (((at_ a_a.zones i1).start) ≤ a_frame)) rfl hp11.1 (fun hc17 => zj.step (zM (k := 0) (o := 0) (off := 3) Tryz.underlying26 rfl rfl Tryz.sizeOf23 (hs11 2 rfl))) ?_
     exact zF ⟨fun _ => rfl, rfl⟩
    ·
     intro e12 hs12 hp12
     refine zg (g := 21) (s := decide (((at_ a_a.zones i1).start) ≤ a_frame)) rfl hp12.2.1 (fun hc18 => zj.step (zN (k := 0) (o := 3) (a := (ls zO a_a.zones)) Tryz.isAgg23 (zz hp12.1 hc18) rfl rfl rfl)) ?_
     exact zF ⟨fun _ => rfl, rfl⟩
    ·
     intro e13 hs13 hp13
     refine zg (g := 21) (s := decide (((at_ a_a.zones i1).start) ≤ a_frame)) rfl hp13.1 (fun hc19 => zj.step (zB (av := (li i1)) (hs13 5 rfl))) ?_
     exact zF ⟨fun _ => rfl, rfl⟩
    ·
     intro e14 hs14 hp14
     refine zg (g := 21) (s := decide (((at_ a_a.zones i1).start) ≤ a_frame)) rfl hp14.2.2.1 (fun hc20 => zj.step (zV (f := zO) (l := a_a.zones) (i := i1) Tryz.underlying23 Tryz.sizeOf51 (fun _ => rfl) (zz hp14.1 hc20) (zz hp14.2.1 hc20) hb2)) ?_
     exact zF ⟨fun _ => rfl, rfl⟩
    ·
     intro e15 hs15 hp15
     refine zg (g := 21) (s := decide (((at_ a_a.zones i1).start) ≤ a_frame)) rfl hp15.2.1 (fun hc21 => zj.step (zAy (row := (zO (at_ a_a.zones i1))) (o := 0) (off := 2) Tryz.underlying51 rfl rfl Tryz.sizeOf3 (zz hp15.1 hc21))) ?_
     exact zF ⟨fun _ => rfl, rfl⟩
    ·
     intro e16 hs16 hp16
     refine zg (g := 21) (s := decide (((at_ a_a.zones i1).start) ≤ a_frame)) rfl hp16.2.1 (fun hc22 => zj.step (zW (row := (zO (at_ a_a.zones i1))) (o := 2) (a := (li ((at_ a_a.zones i1).start))) Tryz.isAgg3 (zz hp16.1 hc22) rfl)) ?_
     exact zF ⟨fun _ => rfl, rfl⟩
    ·
     intro e17 hs17 hp17
     refine zg (g := 21) (s := decide (((at_ a_a.zones i1).start) ≤ a_frame)) rfl hp17.1 (fun hc23 => zj.step (zM (k := 0) (o := 0) (off := 3) Tryz.underlying26 rfl rfl Tryz.sizeOf23 (hs17 2 rfl))) ?_
     exact zF ⟨fun _ => rfl, rfl⟩
    ·
     intro e18 hs18 hp18
     refine zg (g := 21) (s := decide (((at_ a_a.zones i1).start) ≤ a_frame)) rfl hp18.2.1 (fun hc24 => zj.step (zN (k := 0) (o := 3) (a := (ls zO a_a.zones)) Tryz.isAgg23 (zz hp18.1 hc24) rfl rfl rfl)) ?_
     exact zF ⟨fun _ => rfl, rfl⟩
    ·
     intro e19 hs19 hp19
     refine zg (g := 21) (s := decide (((at_ a_a.zones i1).start) ≤ a_frame)) rfl hp19.1 (fun hc25 => zj.step (zB (av := (li i1)) (hs19 5 rfl))) ?_
     exact zF ⟨fun _ => rfl, rfl⟩
    ·
     intro e20 hs20 hp20
     refine zg (g := 21) (s := decide (((at_ a_a.zones i1).start) ≤ a_frame)) rfl hp20.2.2.1 (fun hc26 => zj.step (zV (f := zO) (l := a_a.zones) (i := i1) Tryz.underlying23 Tryz.sizeOf51 (fun _ => rfl) (zz hp20.1 hc26) (zz hp20.2.1 hc26) hb2)) ?_
     exact zF ⟨fun _ => rfl, rfl⟩
    ·
     intro e21 hs21 hp21
     refine zg (g := 21) (s := decide (((at_ a_a.zones i1).start) ≤ a_frame)) rfl hp21.2.1 (fun hc27 => zj.step (zAy (row := (zO (at_ a_a.zones i1))) (o := 0) (off := 3) Tryz.underlying51 rfl rfl Tryz.sizeOf3 (zz hp21.1 hc27))) ?_
     exact zF ⟨fun _ => rfl, rfl⟩
    ·
     intro e22 hs22 hp22
     refine zg (g := 21) (s := decide (((at_ a_a.zones i1).start) ≤ a_frame)) rfl hp22.2.1 (fun hc28 => zj.step (zW (row := (zO (at_ a_a.zones i1))) (o := 3) (a := (li ((at_ a_a.zones i1).count))) Tryz.isAgg3 (zz hp22.1 hc28) rfl)) ?_
     exact zF ⟨fun _ => rfl, rfl⟩
    ·
     intro e23 hs23 hp23
     refine zg (g := 21) (s := decide (((at_ a_a.zones i1).start) ≤ a_frame)) rfl hp23.2.2.1 (fun hc29 => zj.step (ze (a := (at_ a_a.zones i1).start) (b := (at_ a_a.zones i1).count) (zz hp23.1 hc29) (zz hp23.2.1 hc29) (zFp hb3 hc29))) ?_
     exact zF ⟨fun _ => rfl, rfl⟩
    ·
     intro e24 hs24 hp24
     refine zg (g := 21) (s := decide (((at_ a_a.zones i1).start) ≤ a_frame)) rfl hp24.2.2.1 (fun hc30 => zj.step (zf (a := a_frame) (b := ((at_ a_a.zones i1).start) + ((at_ a_a.zones i1).count)) (zz hp24.1 hc30) (zz hp24.2.1 hc30))) ?_
     exact zF ⟨fun _ => rfl, rfl⟩
    ·exact fun e s p => zt (zy (s := decide (((at_ a_a.zones i1).start) ≤ a_frame)) (q := decide (a_frame < (((at_ a_a.zones i1).start) + ((at_ a_a.zones i1).count)))) (j := .lit undef) p.1 p.2.1) ⟨fun _ => rfl, rfl⟩
    intro e26 hs26 hq1
    refine zY (zBV (l := [(1, (li a_frame)), (2, (AV.ptr 0 0)), (5, (li i1)), (37, (AV.lit (.bool ((decide (((at_ a_a.zones i1).start) ≤ a_frame)) && (decide (a_frame < (((at_ a_a.zones i1).start) + ((at_ a_a.zones i1).count))))))))]) ⟨(hs26 1 rfl), (hs26 2 rfl), (hs26 5 rfl), (hq1 24 (by decide) (by decide)), trivial⟩) ?_
    refine zQ ((decide (((at_ a_a.zones i1).start) ≤ a_frame)) && (decide (a_frame < (((at_ a_a.zones i1).start) + ((at_ a_a.zones i1).count))))) rfl (fun hb4 => ?_) (fun hb4 => ?_)
    ·replace h := zo hb4 h
     refine zI <| zC <| zA (zB rfl) <| zA (zD rfl) <| zF <| za ?_
     show zAS _ _ _ _ _ _
     obtain rfl := Option.some.inj h
     exact zp (zAK rfl rfl)
    ·replace h := zv hb4 h
     refine zR <| zC <| zA (zB rfl) ?_
     have hb5 := (zH h).1
     replace h := (zH h).2
     refine zA (ze rfl rfl hb5) <| zA (zD rfl) <| zF ?_
     exact ⟨(n0, (i1 + 1)), Nat.lt_succ_self _, zAE [0] rfl rfl (by kernel_rfl), h⟩
   ·replace h := zv hb1 h
    refine z8 ?_
    exact ⟨zAE [] rfl rfl (by kernel_rfl), h⟩
 ·
  clear h
  rintro e' H' ⟨hrep, h⟩
  refine zY hrep ?_
  clear hrep
  unfold zIa at h
  refine zI <| zC <| zA (zD rfl) <| zF <| za ?_
  show zAS _ _ _ _ _ _
  obtain rfl := Option.some.inj h
  exact zp (zAK rfl rfl)
theorem zKB {a_a : zL} {a_frame : Int} {r : Int} (h : zHL a_a a_frame = some r) : PFn Tryz.prog 18 [(AV.agg (zJ a_a)), (li a_frame)] (li r) := by
 refine zi Tryz.func18 rfl Tryz.ntmps18 Tryz.results18 rfl ?_
 unfold zHL at h
 refine zI <| zC <| zb (H' := [.box 26 (zJ a_a)]) (zu (t := 26) rfl) <| zA (zD rfl) <| zF <| zI ?_
 refine zI <| zC <| zA (zT (k := 0) (o := 0) (m := 5) Tryz.isAgg26 Tryz.sizeOf26 rfl rfl rfl rfl rfl) ?_
 refine zP h ?_; clear h; intro x1 hx1 h
 refine zd Tryz.func14 rfl (by kernel_rfl) (.fn 14) rfl rfl (zFB hx1) rfl <| zA (z7 rfl rfl) <| zF ?_
 refine zQ (!decide (x1 = 0)) rfl (fun hb1 => ?_) (fun hb1 => ?_)
 ·replace h := zo hb1 h
  refine zI <| zC <| zA (zD rfl) <| zF <| za ?_
  show zAS _ _ _ _ _ _
  obtain rfl := Option.some.inj h
  exact zp (zAK rfl rfl)
 ·replace h := zv hb1 h
  refine zR <| zI <| zC <| zA (zT (k := 0) (o := 0) (m := 5) Tryz.isAgg26 Tryz.sizeOf26 rfl rfl rfl rfl rfl) <| zA (zB rfl) ?_
  refine zP h ?_; clear h; intro x2 hx2 h
  refine zd Tryz.func49 rfl (by kernel_rfl) (.fn 49) rfl rfl (zMp hx2) rfl <| zA (zD rfl) <| zF <| za ?_
  show zAS _ _ _ _ _ _
  obtain rfl := Option.some.inj h
  exact zp (zAK rfl rfl)
theorem zLG {a_a : zL} {a_zone : Int} {a_frame : Int} {r : Int} (h : zHp a_a a_zone a_frame = some r) : PFn Tryz.prog 78 [(AV.agg (zJ a_a)), (li a_zone), (li a_frame)] (li r) := by
 refine zi Tryz.func78 rfl Tryz.ntmps78 Tryz.results78 rfl ?_
 unfold zHp at h
 refine zI <| zC <| zb (H' := [.box 26 (zJ a_a)]) (zu (t := 26) rfl) <| zA (zD rfl) <| zF ?_
 refine z5 (fun e' H' => Rep 45 0 e' H' (mkE []) [] ∧ zHd  = some r) ?_ ?_
 ·
  refine zI <| zC <| zA (zD rfl) <| zF <| zS <| z9 (σ := Nat × Int) (fun s => s.1) (fun s e' H' => match s with | (n0, i1) => Rep 45 0 e' H' (mkE [(1, (li a_zone)), (2, (li a_frame)), (3, (AV.ptr 0 0)), (7, (li i1))]) [.box 26 (zJ a_a)] ∧ zA7 a_a a_zone a_frame n0 i1 = some r) (zAC, 0) ⟨zAE [0] rfl rfl (by kernel_rfl), h⟩ ?_
  clear h
  rintro ⟨n0, i1⟩ e' H' ⟨hrep, h⟩
  cases n0 with
  | zero => exact absurd (show (none : Option _) = some r from h) (by simp)
  | succ n0 =>
   replace h : zCg a_a a_zone a_frame (zA7 a_a a_zone a_frame n0) i1 = some r := h
   unfold zCg at h
   refine zY hrep ?_
   clear hrep
   refine zI <| zI <| zC <| zA (zB rfl) <| zA (zM Tryz.underlying26 rfl rfl Tryz.sizeOf24 rfl) <| zA (zN Tryz.isAgg24 rfl rfl rfl rfl) ?_
   refine zA (zX Tryz.underlying24 rfl) <| zA (zf rfl rfl) <| zF ?_
   refine zQ (decide (i1 < (a_a.caches.length : Int))) rfl (fun hb1 => ?_) (fun hb1 => ?_)
   ·replace h := zo hb1 h
    refine zR ?_
    refine z5 (fun e' H' => Rep 45 0 e' H' (mkE [(1, (li a_zone)), (2, (li a_frame)), (3, (AV.ptr 0 0)), (7, (li i1))]) [.box 26 (zJ a_a)] ∧ zFv (zA7 a_a a_zone a_frame n0) i1 = some r) ?_ ?_
    ·
     refine zS <| zI <| zC <| zA (zD rfl) <| zF <| zS ?_
     refine z9 (σ := Nat × Int) (fun s => s.1) (fun s e' H' => match s with | (n1, i2) => Rep 45 0 e' H' (mkE [(1, (li a_zone)), (2, (li a_frame)), (3, (AV.ptr 0 0)), (7, (li i1)), (8, (li i2))]) [.box 26 (zJ a_a)] ∧ zBr (zA7 a_a a_zone a_frame n0) a_a a_zone a_frame i1 n1 i2 = some r) (zAC, 0) ⟨zAE [0] rfl rfl (by kernel_rfl), h⟩ ?_
     clear h
     rintro ⟨n1, i2⟩ e' H' ⟨hrep, h⟩
     cases n1 with
     | zero => exact absurd (show (none : Option _) = some r from h) (by simp)
     | succ n1 =>
      replace h : zCe (zA7 a_a a_zone a_frame n0) a_a a_zone a_frame i1 (zBr (zA7 a_a a_zone a_frame n0) a_a a_zone a_frame i1 n1) i2 = some r := h
      unfold zCe at h
      refine zY hrep ?_
      clear hrep
      refine zI <| zI <| zC <| zA (zB rfl) <| zA (zM Tryz.underlying26 rfl rfl Tryz.sizeOf24 rfl) <| zA (zN Tryz.isAgg24 rfl rfl rfl rfl) ?_
      refine zA (zB rfl) ?_
      have hb3 := (zH h).1
      replace h := (zH h).2
      refine zA (zV Tryz.underlying24 Tryz.sizeOf55 (fun _ => rfl) rfl rfl hb3) <| zA (zAy (row := (zG (at_ a_a.caches i1))) (o := 0) (off := 0) Tryz.underlying55 rfl rfl Tryz.sizeOf53 rfl) <| zA (zW (o := 0) Tryz.isAgg53 rfl rfl) <| zA (zB rfl) ?_
      have hb4 := (zH h).1
      replace h := (zH h).2
      refine zA (zV Tryz.underlying53 Tryz.sizeOf22 (fun _ => rfl) rfl rfl hb4) <| zA (zW (o := 0) Tryz.isAgg22 rfl rfl) <| zA (zX Tryz.underlying22 rfl) <| zA (zf rfl rfl) <| zF ?_
      refine zQ (decide (i2 < ((at_ ((at_ a_a.caches i1).lists) a_zone).length : Int))) rfl (fun hb5 => ?_) (fun hb5 => ?_)
      ·replace h := zo hb5 h
       refine zR <| zI <| zS <| zI <| zC <| zA (zM Tryz.underlying26 rfl rfl Tryz.sizeOf24 rfl) ?_
       refine zA (zN Tryz.isAgg24 rfl rfl rfl rfl) <| zA (zB rfl) <| zA (zV Tryz.underlying24 Tryz.sizeOf55 (fun _ => rfl) rfl rfl hb3) <| zA (zAy (row := (zG (at_ a_a.caches i1))) (o := 0) (off := 0) Tryz.underlying55 rfl rfl Tryz.sizeOf53 rfl) <| zA (zW (o := 0) Tryz.isAgg53 rfl rfl) <| zA (zB rfl) ?_
       refine zA (zV Tryz.underlying53 Tryz.sizeOf22 (fun _ => rfl) rfl rfl hb4) <| zA (zW (o := 0) Tryz.isAgg22 rfl rfl) <| zA (zB rfl) ?_
       have hb6 := (zH h).1
       replace h := (zH h).2
       refine zA (zV Tryz.underlying22 Tryz.sizeOf3 (fun _ => rfl) rfl rfl hb6) <| zA (zW (o := 0) Tryz.isAgg3 rfl rfl) <| zA (zB rfl) <| zA (zBT rfl rfl) <| zF ?_
       refine zQ (decide ((at_ (at_ ((at_ a_a.caches i1).lists) a_zone) i2) = a_frame)) rfl (fun hb7 => ?_) (fun hb7 => ?_)
       ·replace h := zo hb7 h
        refine zI <| zC <| zA (zB rfl) <| zA (zD rfl) <| zF <| za ?_
        show zAS _ _ _ _ _ _
        obtain rfl := Option.some.inj h
        exact zp (zAK rfl rfl)
       ·replace h := zv hb7 h
        refine zR <| zC <| zA (zB rfl) ?_
        have hb8 := (zH h).1
        replace h := (zH h).2
        refine zA (ze rfl rfl hb8) <| zA (zD rfl) <| zF ?_
        exact ⟨(n1, (i2 + 1)), Nat.lt_succ_self _, zAE [0] rfl rfl (by kernel_rfl), h⟩
      ·replace h := zv hb5 h
       refine z8 ?_
       exact ⟨zAE [0] rfl rfl (by kernel_rfl), h⟩
    ·
     clear h
     rintro e' H' ⟨hrep, h⟩
     refine zY hrep ?_
     clear hrep
     unfold zFv at h
     refine zC <| zA (zB rfl) ?_
     have hb2 := (zH h).1
     replace h := (zH h).2
     refine zA (ze rfl rfl hb2) <| zA (zD rfl) <| zF ?_
     exact ⟨(n0, (i1 + 1)), Nat.lt_succ_self _, zAE [0] rfl rfl (by kernel_rfl), h⟩
   ·replace h := zv hb1 h
    refine z8 ?_
    exact ⟨zAE [] rfl rfl (by kernel_rfl), h⟩
 ·
  clear h
  rintro e' H' ⟨hrep, h⟩
  refine zY hrep ?_
  clear hrep
  unfold zHd at h
  refine zI <| zC <| zA (zD rfl) <| zF <| za ?_
  show zAS _ _ _ _ _ _
  obtain rfl := Option.some.inj h
  exact zp (zAK rfl rfl)
theorem zMQ {a_a : zL} {a_zone : Int} {a_frame : Int} {r : Bool} (h : zIL a_a a_zone a_frame = some r) : PFn Tryz.prog 51 [(AV.agg (zJ a_a)), (li a_zone), (li a_frame)] (AV.lit (.bool r)) := by
 refine zi Tryz.func51 rfl Tryz.ntmps51 Tryz.results51 rfl ?_
 unfold zIL at h
 refine zI <| zC <| zb (H' := [.box 26 (zJ a_a)]) (zu (t := 26) rfl) <| zA (zD rfl) <| zF <| zI ?_
 refine zC <| zA (zM Tryz.underlying26 rfl rfl Tryz.sizeOf23 rfl) <| zA (zN Tryz.isAgg23 rfl rfl rfl rfl) <| zA (zB rfl) ?_
 have hb1 := (zH h).1
 replace h := (zH h).2
 refine zA (zV Tryz.underlying23 Tryz.sizeOf51 (fun _ => rfl) rfl rfl hb1) <| zA (zAi (row := (zO (at_ a_a.zones a_zone))) (o := 0) (m := 10) (la := (zO (at_ a_a.zones a_zone))) Tryz.isAgg51 Tryz.sizeOf51 rfl rfl rfl) <| zA (zB rfl) ?_
 refine zP h ?_; clear h; intro x1 hx1 h
 refine zd Tryz.func98 rfl (by kernel_rfl) (.fn 98) rfl rfl (zI5 hx1) rfl <| zA (zB rfl) <| zU rfl rfl (fun hc1 => zj.step (zT (k := 0) (o := 0) (m := 5) Tryz.isAgg26 Tryz.sizeOf26 rfl rfl rfl rfl rfl)) <| zU rfl rfl (fun hc2 => zj.step (zB rfl)) <| zU rfl rfl (fun hc3 => zj.step (zB rfl)) ?_
 refine zP h ?_; clear h; intro x2 hx2 h
 refine zBZ (g := 14) (s := x1) (r' := (li x2)) rfl rfl (fun hc4 => ⟨78, _, _, [], [(AV.agg (zJ a_a)), (li a_zone), (li a_frame)], [(AV.agg (zJ a_a)), (li a_zone), (li a_frame)], (li x2), [], Tryz.func78, rfl, by kernel_rfl, (.fn 78), (zAF (zz rfl hc4) (zAF (zz rfl hc4) (zAF (zz rfl hc4) rfl))), ⟨zAt.nr rfl, zAt.nr rfl, zAt.nr rfl, trivial⟩, zLG (zo hc4 hx2), .inl rfl, rfl⟩) <| zU rfl rfl (fun hc5 => zj.step (zAq (zz rfl hc5) rfl)) <| zA (zZ rfl rfl) <| zA (zD rfl) <| zF <| za ?_
 show zAS _ _ _ _ _ _
 obtain rfl := Option.some.inj h
 exact zp (zAK rfl rfl)
theorem zK7 {a_a : zL} {a_frame : Int} {r : Bool} (h : zGq a_a a_frame = some r) : PFn Tryz.prog 20 [(AV.agg (zJ a_a)), (li a_frame)] (AV.lit (.bool r)) := by
 refine zi Tryz.func20 rfl Tryz.ntmps20 Tryz.results20 rfl ?_
 unfold zGq at h
 refine zI <| zC <| zb (H' := [.box 26 (zJ a_a)]) (zu (t := 26) rfl) <| zA (zD rfl) <| zF <| zI ?_
 refine zC <| zA (zT (k := 0) (o := 0) (m := 5) Tryz.isAgg26 Tryz.sizeOf26 rfl rfl rfl rfl rfl) <| zA (zB rfl) ?_
 refine zP h ?_; clear h; intro x1 hx1 h
 refine zd Tryz.func18 rfl (by kernel_rfl) (.fn 18) rfl rfl (zKB hx1) rfl <| zA (zD rfl) <| zF <| zI <| zC <| zA (zB rfl) ?_
 refine zA (zAq rfl rfl) <| zA (zB rfl) <| zg rfl rfl (fun hc1 => zj.step (zT (k := 0) (o := 0) (m := 5) Tryz.isAgg26 Tryz.sizeOf26 rfl rfl rfl rfl rfl)) <| zg rfl rfl (fun hc2 => zj.step (zB rfl)) <| zg rfl rfl (fun hc3 => zj.step (zB rfl)) ?_
 refine zP h ?_; clear h; intro x2 hx2 h
 refine zB1 (g := 11) (s := decide (0 ≤ x1)) (r' := (AV.lit (.bool x2))) rfl rfl (fun hc4 => ⟨51, _, _, [], [(AV.agg (zJ a_a)), (li x1), (li a_frame)], [(AV.agg (zJ a_a)), (li x1), (li a_frame)], (AV.lit (.bool x2)), [], Tryz.func51, rfl, by kernel_rfl, (.fn 51), (zAF (zz rfl hc4) (zAF (zz rfl hc4) (zAF (zz rfl hc4) rfl))), ⟨zAt.nr rfl, zAt.nr rfl, zAt.nr rfl, trivial⟩, zMQ (zo hc4 hx2), .inl rfl, rfl⟩) <| zA (zy (j := .lit undef) rfl rfl) <| zA (zD rfl) <| zF <| za ?_
 show zAS _ _ _ _ _ _
 obtain rfl := Option.some.inj h
 exact zp (zAK rfl rfl)
theorem zLq {a_a : zL} {a_zone : Int} {r : Int} (h : zHW a_a a_zone = some r) : PFn Tryz.prog 22 [(AV.agg (zJ a_a)), (li a_zone)] (li r) := by
 refine zi Tryz.func22 rfl Tryz.ntmps22 Tryz.results22 rfl ?_
 unfold zHW at h
 refine zI <| zC <| zb (H' := [.box 26 (zJ a_a)]) (zu (t := 26) rfl) <| zA (zD rfl) <| zF <| zI ?_
 refine zI <| zC <| zA (zT (k := 0) (o := 0) (m := 5) Tryz.isAgg26 Tryz.sizeOf26 rfl rfl rfl rfl rfl) ?_
 refine zP h ?_; clear h; intro x1 hx1 h
 refine zd Tryz.func14 rfl (by kernel_rfl) (.fn 14) rfl rfl (zFB hx1) rfl <| zA (z7 rfl rfl) <| zA (zB rfl) <| zU rfl rfl (fun hc1 => zj.step (zB rfl)) <| zU rfl rfl (fun hc2 => zj.step (zf (zz rfl hc2) rfl)) <| zA (zZ rfl rfl) ?_
 refine zA (zB rfl) <| zU rfl rfl (fun hc3 => zj.step (zB rfl)) <| zU rfl rfl (fun hc4 => zj.step (zM Tryz.underlying26 rfl rfl Tryz.sizeOf23 rfl)) <| zU rfl rfl (fun hc5 => zj.step (zN Tryz.isAgg23 (zz rfl hc5) rfl rfl rfl)) <| zU rfl rfl (fun hc6 => zj.step (zX Tryz.underlying23 (zz rfl hc6))) <| zU rfl rfl (fun hc7 => zj.step (zAq (zz rfl hc7) (zz rfl hc7))) ?_
 refine zA (zZ rfl rfl) <| zF ?_
 refine zQ (((!decide (x1 = 0)) || (decide (a_zone < 0))) || (decide ((a_a.zones.length : Int) ≤ a_zone))) rfl (fun hb1 => ?_) (fun hb1 => ?_)
 ·replace h := zo hb1 h
  refine zI <| zC <| zA (zD rfl) <| zF <| za ?_
  show zAS _ _ _ _ _ _
  obtain rfl := Option.some.inj h
  exact zp (zAK rfl rfl)
 ·replace h := zv hb1 h
  refine zR <| zI <| zC <| zA (zT (k := 0) (o := 0) (m := 5) Tryz.isAgg26 Tryz.sizeOf26 rfl rfl rfl rfl rfl) <| zA (zB rfl) ?_
  refine zP h ?_; clear h; intro x2 hx2 h
  refine zd Tryz.func40 rfl (by kernel_rfl) (.fn 40) rfl rfl (zJY hx2) rfl <| zA (zD rfl) <| zF <| za ?_
  show zAS _ _ _ _ _ _
  obtain rfl := Option.some.inj h
  exact zp (zAK rfl rfl)
theorem zII {a_p0 : zL} {a_p1 : Int} {r : Bool} (h : zCz a_p0 a_p1 = some r) : PFn Tryz.prog 3 [(AV.agg (zJ a_p0)), (li a_p1)] (AV.lit (.bool r)) := by
 refine zi Tryz.func3 rfl Tryz.ntmps3 Tryz.results3 rfl ?_
 unfold zCz at h
 refine zI <| zC <| zb (H' := [.box 26 (zJ a_p0)]) (zu (t := 26) rfl) <| zA (zD rfl) <| zF <| zI ?_
 refine zI <| zC ?_
 refine zP h ?_; clear h; intro x1 hx1 h
 refine zd Tryz.func9 rfl (by kernel_rfl) (.fn 9) rfl rfl (zJZ hx1) rfl <| zA (zA8 (t := x1) rfl) <| zA (zB rfl) <| zU rfl rfl (fun hc1 => zj.step (zT (k := 0) (o := 0) (m := 5) Tryz.isAgg26 Tryz.sizeOf26 rfl rfl rfl rfl rfl)) ?_
 refine zP h ?_; clear h; intro x2 hx2 h
 refine zBZ (g := 11) (s := !x1) (r' := (AV.lit (.bool x2))) rfl rfl (fun hc2 => ⟨10, _, _, [], [(AV.agg (zJ a_p0))], [(AV.agg (zJ a_p0))], (AV.lit (.bool x2)), [], Tryz.func10, rfl, by kernel_rfl, (.fn 10), (zAF (zz rfl hc2) rfl), ⟨zAt.nr rfl, trivial⟩, zMw (zo hc2 hx2), .inl rfl, rfl⟩) <| zU rfl rfl (fun hc3 => zj.step (zA8 (t := x2) (zz rfl hc3))) <| zA (zZ rfl rfl) <| zF ?_
 refine zQ ((!x1) || (!x2)) rfl (fun hb1 => ?_) (fun hb1 => ?_)
 ·replace h := zo hb1 h
  refine zI <| zC ?_
  refine zP h ?_; clear h; intro x3 hx3 h
  refine zd Tryz.func9 rfl (by kernel_rfl) (.fn 9) rfl rfl (zJZ hx3) rfl <| zA (zD rfl) <| zF <| za ?_
  show zAS _ _ _ _ _ _
  obtain rfl := Option.some.inj h
  exact zp (zAK rfl rfl)
 ·replace h := zv hb1 h
  refine zR <| zI <| zC <| zA (zT (k := 0) (o := 0) (m := 5) Tryz.isAgg26 Tryz.sizeOf26 rfl rfl rfl rfl rfl) ?_
  refine zP h ?_; clear h; intro x4 hx4 h
  refine zd Tryz.func11 rfl (by kernel_rfl) (.fn 11) rfl rfl (zGs hx4) rfl <| zA (zB rfl) <| zA (zl rfl rfl) <| zA (zl rfl rfl) <| zA (zD rfl) <| zA (zD rfl) ?_
  refine zF <| zI <| zC <| zA (zT (k := 0) (o := 0) (m := 5) Tryz.isAgg26 Tryz.sizeOf26 rfl rfl rfl rfl rfl) ?_
  refine zP h ?_; clear h; intro x5 hx5 h
  refine zd Tryz.func12 rfl (by kernel_rfl) (.fn 12) rfl rfl (zKc hx5) rfl <| zA (zB rfl) <| zA (zl rfl rfl) <| zA (zl rfl rfl) <| zA (zD rfl) <| zA (zD rfl) ?_
  refine zF <| zI <| zI ?_
  refine zP h ?_; clear h; intro x6 hx6 h
  refine zP h ?_; clear h; intro x7 hx7 h
  refine zP h ?_; clear h; intro x8 hx8 h
  refine zP h ?_; clear h; intro x9 hx9 h
  show AW _ _ _ _ _ _ [.box 26 (zJ a_p0)]
  refine zAz (n := 74) (m := 0) [.head 0 0, .head 0 0, .head 0 0, .head 0 0, .head 0 0, .head 0 0, .head 0 0, .head 0 0, .head 0 0, .head 0 0, .head 0 0, .head 0 0, .head 0 0, .head 0 0, .head 0 0, .head 0 0, .head 0 0, .head 0 0, .head 0 0, .head 0 0, .head 0 0, .head 0 0] [] [(AV.agg (zJ a_p0)), (li x6), (AV.agg (zJ a_p0)), (li x7), (AV.lit (.bool (!decide (x6 = x7)))), (AV.lit (.bool (!decide (x6 = x7)))), (bif !(!decide (x6 = x7)) then (li x4.1) else .lit undef), (bif !(!decide (x6 = x7)) then (li x5.1) else .lit undef), (bif !(!decide (x6 = x7)) then (AV.lit (.bool (!decide (x4.1 = x5.1)))) else .lit undef), (AV.lit (.bool ((!decide (x6 = x7)) || (!decide (x4.1 = x5.1))))), (AV.lit (.bool ((!decide (x6 = x7)) || (!decide (x4.1 = x5.1))))), (bif !((!decide (x6 = x7)) || (!decide (x4.1 = x5.1))) then (li x4.2) else .lit undef), (bif !((!decide (x6 = x7)) || (!decide (x4.1 = x5.1))) then (li x5.2) else .lit undef), (bif !((!decide (x6 = x7)) || (!decide (x4.1 = x5.1))) then (AV.lit (.bool (!decide (x4.2 = x5.2)))) else .lit undef), (AV.lit (.bool (((!decide (x6 = x7)) || (!decide (x4.1 = x5.1))) || (!decide (x4.2 = x5.2))))), (AV.lit (.bool (((!decide (x6 = x7)) || (!decide (x4.1 = x5.1))) || (!decide (x4.2 = x5.2))))), (bif !(((!decide (x6 = x7)) || (!decide (x4.1 = x5.1))) || (!decide (x4.2 = x5.2))) then (AV.agg (zJ a_p0)) else .lit undef), (bif !(((!decide (x6 = x7)) || (!decide (x4.1 = x5.1))) || (!decide (x4.2 = x5.2))) then (li x8) else .lit undef), (bif !(((!decide (x6 = x7)) || (!decide (x4.1 = x5.1))) || (!decide (x4.2 = x5.2))) then (AV.agg (zJ a_p0)) else .lit undef), (bif !(((!decide (x6 = x7)) || (!decide (x4.1 = x5.1))) || (!decide (x4.2 = x5.2))) then (li x9) else .lit undef), (bif !(((!decide (x6 = x7)) || (!decide (x4.1 = x5.1))) || (!decide (x4.2 = x5.2))) then (AV.lit (.bool (!decide (x8 = x9)))) else .lit undef), (AV.lit (.bool ((((!decide (x6 = x7)) || (!decide (x4.1 = x5.1))) || (!decide (x4.2 = x5.2))) || (!decide (x8 = x9)))))] [[.box 26 (zJ a_p0)]] (by kernel_rfl) (by kernel_rfl) ⟨?_, ?_, ?_, ?_, ?_, ?_, ?_, ?_, ?_, ?_, ?_, ?_, ?_, ?_, ?_, ?_, ?_, ?_, ?_, ?_, ?_, ?_, trivial⟩ ?_
  ·exact fun e s p => zt (zT (k := 0) (o := 0) (m := 5) (la := (zJ a_p0)) Tryz.isAgg26 Tryz.sizeOf26 (s 2 rfl) rfl rfl rfl rfl) ⟨fun _ => rfl, rfl⟩
  ·
   intro e2 hs2 hp2
   refine zd (r := (li x6)) (la := [(AV.agg (zJ a_p0))]) Tryz.func13 rfl (by kernel_rfl) (.fn 13) (zAF hp2.1 rfl) rfl (zAn hx6) rfl ?_
   exact zF ⟨fun _ => rfl, rfl⟩
  ·exact fun e s p => zt (zT (k := 0) (o := 0) (m := 5) (la := (zJ a_p0)) Tryz.isAgg26 Tryz.sizeOf26 (s 2 rfl) rfl rfl rfl rfl) ⟨fun _ => rfl, rfl⟩
  ·
   intro e4 hs4 hp4
   refine zd (r := (li x7)) (la := [(AV.agg (zJ a_p0))]) Tryz.func14 rfl (by kernel_rfl) (.fn 14) (zAF hp4.1 rfl) rfl (zFB hx7) rfl ?_
   exact zF ⟨fun _ => rfl, rfl⟩
  ·exact fun e s p => zt (z7 (a := x6) (b := x7) p.1 p.2.1) ⟨fun _ => rfl, rfl⟩
  ·exact fun e s p => zt (zB (av := (AV.lit (.bool (!decide (x6 = x7))))) p.1) ⟨fun _ => rfl, rfl⟩
  ·
   intro e7 hs7 hp7
   refine zU (g := 32) (s := !decide (x6 = x7)) rfl hp7.1 (fun hc15 => zj.step (zB (av := (li x4.1)) (hs7 5 rfl))) ?_
   exact zF ⟨fun _ => rfl, rfl⟩
  ·
   intro e8 hs8 hp8
   refine zU (g := 32) (s := !decide (x6 = x7)) rfl hp8.1 (fun hc16 => zj.step (zB (av := (li x5.1)) (hs8 7 rfl))) ?_
   exact zF ⟨fun _ => rfl, rfl⟩
  ·
   intro e9 hs9 hp9
   refine zU (g := 32) (s := !decide (x6 = x7)) rfl hp9.2.2.1 (fun hc17 => zj.step (z7 (a := x4.1) (b := x5.1) (zz hp9.1 hc17) (zz hp9.2.1 hc17))) ?_
   exact zF ⟨fun _ => rfl, rfl⟩
  ·exact fun e s p => zt (zZ (s := !decide (x6 = x7)) (q := !decide (x4.1 = x5.1)) (j := .lit undef) p.1 p.2.1) ⟨fun _ => rfl, rfl⟩
  ·exact fun e s p => zt (zB (av := (AV.lit (.bool ((!decide (x6 = x7)) || (!decide (x4.1 = x5.1)))))) p.1) ⟨fun _ => rfl, rfl⟩
  ·
   intro e12 hs12 hp12
   refine zU (g := 37) (s := (!decide (x6 = x7)) || (!decide (x4.1 = x5.1))) rfl hp12.1 (fun hc18 => zj.step (zB (av := (li x4.2)) (hs12 6 rfl))) ?_
   exact zF ⟨fun _ => rfl, rfl⟩
  ·
   intro e13 hs13 hp13
   refine zU (g := 37) (s := (!decide (x6 = x7)) || (!decide (x4.1 = x5.1))) rfl hp13.1 (fun hc19 => zj.step (zB (av := (li x5.2)) (hs13 8 rfl))) ?_
   exact zF ⟨fun _ => rfl, rfl⟩
  ·
   intro e14 hs14 hp14
   refine zU (g := 37) (s := (!decide (x6 = x7)) || (!decide (x4.1 = x5.1))) rfl hp14.2.2.1 (fun hc20 => zj.step (z7 (a := x4.2) (b := x5.2) (zz hp14.1 hc20) (zz hp14.2.1 hc20))) ?_
   exact zF ⟨fun _ => rfl, rfl⟩
  ·exact fun e s p => zt (zZ (s := (!decide (x6 = x7)) || (!decide (x4.1 = x5.1))) (q := !decide (x4.2 = x5.2)) (j := .lit undef) p.1 p.2.1) ⟨fun _ => rfl, rfl⟩
  ·exact fun e s p => zt (zB (av := (AV.lit (.bool (((!decide (x6 = x7)) || (!decide (x4.1 = x5.1))) || (!decide (x4.2 = x5.2)))))) p.1) ⟨fun _ => rfl, rfl⟩
  ·
   intro e17 hs17 hp17
   refine zU (g := 42) (s := ((!decide (x6 = x7)) || (!decide (x4.1 = x5.1))) || (!decide (x4.2 = x5.2))) rfl hp17.1 (fun hc21 => zj.step (zT (k := 0) (o := 0) (m := 5) (la := (zJ a_p0)) Tryz.isAgg26 Tryz.sizeOf26 (hs17 2 rfl) rfl rfl rfl rfl)) ?_
   exact zF ⟨fun _ => rfl, rfl⟩
  ·
   intro e18 hs18 hp18
   refine zBZ (g := 42) (s := ((!decide (x6 = x7)) || (!decide (x4.1 = x5.1))) || (!decide (x4.2 = x5.2))) (r' := (li x8)) rfl hp18.2.2.1 (fun hc22 => ⟨15, _, _, [], [(AV.agg (zJ a_p0))], [(AV.agg (zJ a_p0))], (li x8), [], Tryz.func15, rfl, by kernel_rfl, (.fn 15), (zAF (zz hp18.1 hc22) rfl), ⟨zAt.nr rfl, trivial⟩, zHO (zo hc22 hx8), .inl rfl, rfl⟩) ?_
   exact zF ⟨fun _ => rfl, rfl⟩
  ·
   intro e19 hs19 hp19
   refine zU (g := 42) (s := ((!decide (x6 = x7)) || (!decide (x4.1 = x5.1))) || (!decide (x4.2 = x5.2))) rfl hp19.1 (fun hc23 => zj.step (zT (k := 0) (o := 0) (m := 5) (la := (zJ a_p0)) Tryz.isAgg26 Tryz.sizeOf26 (hs19 2 rfl) rfl rfl rfl rfl)) ?_
   exact zF ⟨fun _ => rfl, rfl⟩
  ·
   intro e20 hs20 hp20
   refine zBZ (g := 42) (s := ((!decide (x6 = x7)) || (!decide (x4.1 = x5.1))) || (!decide (x4.2 = x5.2))) (r' := (li x9)) rfl hp20.2.2.1 (fun hc24 => ⟨16, _, _, [], [(AV.agg (zJ a_p0))], [(AV.agg (zJ a_p0))], (li x9), [], Tryz.func16, rfl, by kernel_rfl, (.fn 16), (zAF (zz hp20.1 hc24) rfl), ⟨zAt.nr rfl, trivial⟩, zLZ (zo hc24 hx9), .inl rfl, rfl⟩) ?_
   exact zF ⟨fun _ => rfl, rfl⟩
  ·
   intro e21 hs21 hp21
   refine zU (g := 42) (s := ((!decide (x6 = x7)) || (!decide (x4.1 = x5.1))) || (!decide (x4.2 = x5.2))) rfl hp21.2.2.1 (fun hc25 => zj.step (z7 (a := x8) (b := x9) (zz hp21.1 hc25) (zz hp21.2.1 hc25))) ?_
   exact zF ⟨fun _ => rfl, rfl⟩
  ·exact fun e s p => zt (zZ (s := ((!decide (x6 = x7)) || (!decide (x4.1 = x5.1))) || (!decide (x4.2 = x5.2))) (q := !decide (x8 = x9)) (j := .lit undef) p.1 p.2.1) ⟨fun _ => rfl, rfl⟩
  intro e23 hs23 hq1
  refine zY (zBV (l := [(1, (li a_p1)), (2, (AV.ptr 0 0)), (48, (AV.lit (.bool ((((!decide (x6 = x7)) || (!decide (x4.1 = x5.1))) || (!decide (x4.2 = x5.2))) || (!decide (x8 = x9))))))]) ⟨(hs23 1 rfl), (hs23 2 rfl), (hq1 21 (by decide) (by decide)), trivial⟩) ?_
  refine zQ ((((!decide (x6 = x7)) || (!decide (x4.1 = x5.1))) || (!decide (x4.2 = x5.2))) || (!decide (x8 = x9))) rfl (fun hb2 => ?_) (fun hb2 => ?_)
  ·replace h := zo hb2 h
   refine zI <| zC <| zA (zD rfl) <| zF <| za ?_
   show zAS _ _ _ _ _ _
   obtain rfl := Option.some.inj h
   exact zp (zAK rfl rfl)
  ·replace h := zv hb2 h
   refine zR <| zI ?_
   refine zP h ?_; clear h; intro x10 hx10 h
   refine zP h ?_; clear h; intro x11 hx11 h
   refine zP h ?_; clear h; intro x12 hx12 h
   refine zP h ?_; clear h; intro x13 hx13 h
   refine zP h ?_; clear h; intro x14 hx14 h
   refine zP h ?_; clear h; intro x15 hx15 h
   show AW _ _ _ _ _ _ [.box 26 (zJ a_p0)]
   refine zAz (n := 74) (m := 0) [.head 0 0, .head 0 0, .head 0 0, .head 0 0, .head 0 0, .head 0 0, .head 0 0, .head 0 0, .head 0 0, .head 0 0, .head 0 0, .head 0 0, .head 0 0, .head 0 0, .head 0 0, .head 0 0, .head 0 0, .head 0 0, .head 0 0, .head 0 0, .head 0 0, .head 0 0, .head 0 0, .head 0 0, .head 0 0, .head 0 0] [] [(AV.agg (zJ a_p0)), (li a_p1), (li x10), (AV.agg (zJ a_p0)), (li a_p1), (li x11), (AV.lit (.bool (decide (x10 = x11)))), (AV.lit (.bool (decide (x10 = x11)))), (bif decide (x10 = x11) then (AV.agg (zJ a_p0)) else .lit undef), (bif decide (x10 = x11) then (li a_p1) else .lit undef), (bif decide (x10 = x11) then (AV.lit (.bool x12)) else .lit undef), (bif decide (x10 = x11) then (AV.agg (zJ a_p0)) else .lit undef), (bif decide (x10 = x11) then (li a_p1) else .lit undef), (bif decide (x10 = x11) then (AV.lit (.bool x13)) else .lit undef), (bif decide (x10 = x11) then (AV.lit (.bool (x12 == x13))) else .lit undef), (AV.lit (.bool ((decide (x10 = x11)) && (x12 == x13)))), (AV.lit (.bool ((decide (x10 = x11)) && (x12 == x13)))), (bif (decide (x10 = x11)) && (x12 == x13) then (AV.agg (zJ a_p0)) else .lit undef), (bif (decide (x10 = x11)) && (x12 == x13) then (li a_p1) else .lit undef), (bif (decide (x10 = x11)) && (x12 == x13) then (li x14) else .lit undef), (bif (decide (x10 = x11)) && (x12 == x13) then (AV.agg (zJ a_p0)) else .lit undef), (bif (decide (x10 = x11)) && (x12 == x13) then (li a_p1) else .lit undef), (bif (decide (x10 = x11)) && (x12 == x13) then (li x15) else .lit undef), (bif (decide (x10 = x11)) && (x12 == x13) then (AV.lit (.bool (decide (x14 = x15)))) else .lit undef), (AV.lit (.bool (((decide (x10 = x11)) && (x12 == x13)) && (decide (x14 = x15))))), (AV.lit (.bool (((decide (x10 = x11)) && (x12 == x13)) && (decide (x14 = x15)))))] [[.box 26 (zJ a_p0)]] (by kernel_rfl) (by kernel_rfl) ⟨?_, ?_, ?_, ?_, ?_, ?_, ?_, ?_, ?_, ?_, ?_, ?_, ?_, ?_, ?_, ?_, ?_, ?_, ?_, ?_, ?_, ?_, ?_, ?_, ?_, ?_, trivial⟩ ?_
   ·exact fun e s p => zt (zT (k := 0) (o := 0) (m := 5) (la := (zJ a_p0)) Tryz.isAgg26 Tryz.sizeOf26 (s 2 rfl) rfl rfl rfl rfl) ⟨fun _ => rfl, rfl⟩
   ·exact fun e s p => zt (zB (av := (li a_p1)) (s 1 rfl)) ⟨fun _ => rfl, rfl⟩
   ·
    intro e26 hs26 hp25
    refine zd (r := (li x10)) (la := [(AV.agg (zJ a_p0)), (li a_p1)]) Tryz.func17 rfl (by kernel_rfl) (.fn 17) (zAF hp25.1 (zAF hp25.2.1 rfl)) rfl (zIE hx10) rfl ?_
    exact zF ⟨fun _ => rfl, rfl⟩
   ·exact fun e s p => zt (zT (k := 0) (o := 0) (m := 5) (la := (zJ a_p0)) Tryz.isAgg26 Tryz.sizeOf26 (s 2 rfl) rfl rfl rfl rfl) ⟨fun _ => rfl, rfl⟩
   ·exact fun e s p => zt (zB (av := (li a_p1)) (s 1 rfl)) ⟨fun _ => rfl, rfl⟩
   ·
    intro e29 hs29 hp28
    refine zd (r := (li x11)) (la := [(AV.agg (zJ a_p0)), (li a_p1)]) Tryz.func18 rfl (by kernel_rfl) (.fn 18) (zAF hp28.1 (zAF hp28.2.1 rfl)) rfl (zKB hx11) rfl ?_
    exact zF ⟨fun _ => rfl, rfl⟩
   ·exact fun e s p => zt (zBT (a := x10) (b := x11) p.1 p.2.1) ⟨fun _ => rfl, rfl⟩
   ·exact fun e s p => zt (zB (av := (AV.lit (.bool (decide (x10 = x11))))) p.1) ⟨fun _ => rfl, rfl⟩
   ·
    intro e32 hs32 hp31
    refine zg (g := 56) (s := decide (x10 = x11)) rfl hp31.1 (fun hc40 => zj.step (zT (k := 0) (o := 0) (m := 5) (la := (zJ a_p0)) Tryz.isAgg26 Tryz.sizeOf26 (hs32 2 rfl) rfl rfl rfl rfl)) ?_
    exact zF ⟨fun _ => rfl, rfl⟩
   ·
    intro e33 hs33 hp32
    refine zg (g := 56) (s := decide (x10 = x11)) rfl hp32.1 (fun hc41 => zj.step (zB (av := (li a_p1)) (hs33 1 rfl))) ?_
    exact zF ⟨fun _ => rfl, rfl⟩
   ·
    intro e34 hs34 hp33
    refine zB1 (g := 56) (s := decide (x10 = x11)) (r' := (AV.lit (.bool x12))) rfl hp33.2.2.2.1 (fun hc42 => ⟨19, _, _, [], [(AV.agg (zJ a_p0)), (li a_p1)], [(AV.agg (zJ a_p0)), (li a_p1)], (AV.lit (.bool x12)), [], Tryz.func19, rfl, by kernel_rfl, (.fn 19), (zAF (zz hp33.1 hc42) (zAF (zz hp33.2.1 hc42) rfl)), ⟨zAt.nr rfl, zAt.nr rfl, trivial⟩, zFS (zo hc42 hx12), .inl rfl, rfl⟩) ?_
    exact zF ⟨fun _ => rfl, rfl⟩
   ·
    intro e35 hs35 hp34
    refine zg (g := 56) (s := decide (x10 = x11)) rfl hp34.1 (fun hc43 => zj.step (zT (k := 0) (o := 0) (m := 5) (la := (zJ a_p0)) Tryz.isAgg26 Tryz.sizeOf26 (hs35 2 rfl) rfl rfl rfl rfl)) ?_
    exact zF ⟨fun _ => rfl, rfl⟩
   ·
    intro e36 hs36 hp35
    refine zg (g := 56) (s := decide (x10 = x11)) rfl hp35.1 (fun hc44 => zj.step (zB (av := (li a_p1)) (hs36 1 rfl))) ?_
    exact zF ⟨fun _ => rfl, rfl⟩
   ·
    intro e37 hs37 hp36
    refine zB1 (g := 56) (s := decide (x10 = x11)) (r' := (AV.lit (.bool x13))) rfl hp36.2.2.2.1 (fun hc45 => ⟨20, _, _, [], [(AV.agg (zJ a_p0)), (li a_p1)], [(AV.agg (zJ a_p0)), (li a_p1)], (AV.lit (.bool x13)), [], Tryz.func20, rfl, by kernel_rfl, (.fn 20), (zAF (zz hp36.1 hc45) (zAF (zz hp36.2.1 hc45) rfl)), ⟨zAt.nr rfl, zAt.nr rfl, trivial⟩, zK7 (zo hc45 hx13), .inl rfl, rfl⟩) ?_
    exact zF ⟨fun _ => rfl, rfl⟩
   ·
    intro e38 hs38 hp37
    refine zg (g := 56) (s := decide (x10 = x11)) rfl hp37.2.2.1 (fun hc46 => zj.step (zPB (s := x12) (t := x13) Tryz.underlying4 (zz hp37.1 hc46) (zz hp37.2.1 hc46))) ?_
    exact zF ⟨fun _ => rfl, rfl⟩
   ·exact fun e s p => zt (zy (s := decide (x10 = x11)) (q := (x12 == x13)) (j := .lit undef) p.1 p.2.1) ⟨fun _ => rfl, rfl⟩
   ·exact fun e s p => zt (zB (av := (AV.lit (.bool ((decide (x10 = x11)) && (x12 == x13))))) p.1) ⟨fun _ => rfl, rfl⟩
   ·
    intro e41 hs41 hp40
    refine zg (g := 65) (s := (decide (x10 = x11)) && (x12 == x13)) rfl hp40.1 (fun hc47 => zj.step (zT (k := 0) (o := 0) (m := 5) (la := (zJ a_p0)) Tryz.isAgg26 Tryz.sizeOf26 (hs41 2 rfl) rfl rfl rfl rfl)) ?_
    exact zF ⟨fun _ => rfl, rfl⟩
   ·
    intro e42 hs42 hp41
    refine zg (g := 65) (s := (decide (x10 = x11)) && (x12 == x13)) rfl hp41.1 (fun hc48 => zj.step (zB (av := (li a_p1)) (hs42 1 rfl))) ?_
    exact zF ⟨fun _ => rfl, rfl⟩
   ·
    intro e43 hs43 hp42
    refine zB1 (g := 65) (s := (decide (x10 = x11)) && (x12 == x13)) (r' := (li x14)) rfl hp42.2.2.2.1 (fun hc49 => ⟨21, _, _, [], [(AV.agg (zJ a_p0)), (li a_p1)], [(AV.agg (zJ a_p0)), (li a_p1)], (li x14), [], Tryz.func21, rfl, by kernel_rfl, (.fn 21), (zAF (zz hp42.1 hc49) (zAF (zz hp42.2.1 hc49) rfl)), ⟨zAt.nr rfl, zAt.nr rfl, trivial⟩, zHh (zo hc49 hx14), .inl rfl, rfl⟩) ?_
    exact zF ⟨fun _ => rfl, rfl⟩
   ·
    intro e44 hs44 hp43
    refine zg (g := 65) (s := (decide (x10 = x11)) && (x12 == x13)) rfl hp43.1 (fun hc50 => zj.step (zT (k := 0) (o := 0) (m := 5) (la := (zJ a_p0)) Tryz.isAgg26 Tryz.sizeOf26 (hs44 2 rfl) rfl rfl rfl rfl)) ?_
    exact zF ⟨fun _ => rfl, rfl⟩
   ·
    intro e45 hs45 hp44
    refine zg (g := 65) (s := (decide (x10 = x11)) && (x12 == x13)) rfl hp44.1 (fun hc51 => zj.step (zB (av := (li a_p1)) (hs45 1 rfl))) ?_
    exact zF ⟨fun _ => rfl, rfl⟩
   ·
    intro e46 hs46 hp45
    refine zB1 (g := 65) (s := (decide (x10 = x11)) && (x12 == x13)) (r' := (li x15)) rfl hp45.2.2.2.1 (fun hc52 => ⟨22, _, _, [], [(AV.agg (zJ a_p0)), (li a_p1)], [(AV.agg (zJ a_p0)), (li a_p1)], (li x15), [], Tryz.func22, rfl, by kernel_rfl, (.fn 22), (zAF (zz hp45.1 hc52) (zAF (zz hp45.2.1 hc52) rfl)), ⟨zAt.nr rfl, zAt.nr rfl, trivial⟩, zLq (zo hc52 hx15), .inl rfl, rfl⟩) ?_
    exact zF ⟨fun _ => rfl, rfl⟩
   ·
    intro e47 hs47 hp46
    refine zg (g := 65) (s := (decide (x10 = x11)) && (x12 == x13)) rfl hp46.2.2.1 (fun hc53 => zj.step (zBT (a := x14) (b := x15) (zz hp46.1 hc53) (zz hp46.2.1 hc53))) ?_
    exact zF ⟨fun _ => rfl, rfl⟩
   ·exact fun e s p => zt (zy (s := (decide (x10 = x11)) && (x12 == x13)) (q := decide (x14 = x15)) (j := .lit undef) p.1 p.2.1) ⟨fun _ => rfl, rfl⟩
   ·exact fun e s p => zt (zD (av := (AV.lit (.bool (((decide (x10 = x11)) && (x12 == x13)) && (decide (x14 = x15)))))) p.2.2.2.2.2.2.2.2.2.2.2.2.2.2.2.2.2.2.2.2.2.2.2.2.2.2.1) ⟨fun _ => rfl, rfl⟩
   intro e50 hs50 hq2
   refine zY (zBV (l := [(4, (AV.lit (.bool (((decide (x10 = x11)) && (x12 == x13)) && (decide (x14 = x15))))))]) ⟨(hq2 25 (by decide) (by decide)), trivial⟩) <| za ?_
   show zAS _ _ _ _ _ _
   obtain rfl := Option.some.inj h
   exact zp (zAK rfl rfl)
end Go.Proofs.YtplkliakhdkpcaaGreat
