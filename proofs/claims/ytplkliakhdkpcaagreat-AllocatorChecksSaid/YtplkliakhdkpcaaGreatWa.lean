/-
  The program computes what these functions give, part a.
-/
import Derived.Test.YtplkliakhdkpcaaGreatD
import Derived.Test.YtplkliakhdkpcaaGreatLayB
import Derived.Test.YtplkliakhdkpcaaGreatAmY
set_option linter.unusedVariables false
set_option linter.unusedSimpArgs false
namespace Go.Proofs.YtplkliakhdkpcaaGreat
open Go Go.RowKit Go.Wk Go.Am Go.Proofs
set_option maxHeartbeats 4000000
theorem zIj : zKE Tryz.prog 3 1 (.int .i64 0) 8 := zKE.of (by kernel_rfl) rfl (by decide) (by decide)
theorem zNr : zKE Tryz.prog 22 1 (.slice none 0 0) 24 := zKE.of (by kernel_rfl) rfl (by decide) (by decide)
theorem zOO : zKE Tryz.prog 51 10 (.agg #[.int .i64 0, .int .i64 0, .int .i64 0, .int .i64 0, .int .i64 0, .slice none 0 0, .slice none 0 0, .slice none 0 0, .slice none 0 0, .slice none 0 0]) 160 := zKE.of (by kernel_rfl) rfl (by decide) (by decide)
theorem zNx : zKE Tryz.prog 55 1 (.agg #[.slice none 0 0]) 24 := zKE.of (by kernel_rfl) rfl (by decide) (by decide)
theorem zSa : zKE Tryz.prog 46 4 (.agg #[.int .i64 0, .int .i64 0, .int .i64 0, .int .i64 0]) 32 := zKE.of (by kernel_rfl) rfl (by decide) (by decide)
theorem zSg : zKE Tryz.prog 4 1 (.bool false) 1 := zKE.of (by kernel_rfl) rfl (by decide) (by decide)
theorem zAM {a_s : List Int} {r : List Int} (h : zBG a_s = some r) : PFn Tryz.prog 80 [(ls cI a_s)] (AV.osl 3 1 (List.map cI r)) := by
  refine zi Tryz.func80 rfl Tryz.ntmps80 Tryz.results80 rfl ?_
  unfold zBG at h
  have hb1 := (zH h).1
  replace h := (zH h).2
  obtain rfl := Option.some.inj h
  refine zI <| zC <| zA (a := (.lit (.slice none 0 0))) (zD rfl) <| zF <| zI <| zI ?_
  refine zC <| zA (a := (ls cI a_s)) (zB rfl) ?_
  refine zKH (full := false) (rows := List.map cI a_s) Tryz.underlying22 rfl (fun b hb => ?_)
  refine zF ?_
  refine zQ b rfl (fun hbt => ?_) (fun hbt => ?_)
  · obtain rfl : a_s = [] := List.map_eq_nil_iff.1 (hb hbt)
    refine zI <| zC <| zA (a := (.lit (.slice none 0 0))) (zD rfl) <| zF <| za ?_
    exact zp (zJG (zAK rfl rfl) zq.nilo)
  · refine zR ?_
    refine zI <| zC <| zKw zIj Tryz.underlying22 <| zA (a := (ls cI a_s)) (zB rfl) <| zIc (f := cI) (k := 0) (l := []) (l' := a_s) zIj (fun _ => rfl) Tryz.underlying22 rfl rfl rfl hb1 <| zA (a := (.hd 1)) (zD rfl) ?_
    refine zF <| za ?_
    exact zp (zS5 (rows := List.map cI ([] ++ a_s)) rfl rfl)
theorem zHD {a_s : List Int} {a_f : Int → Option Bool} {g_a_f : FuncId} {cf_a_f : Func} {code_a_f : Code} {caps_a_f : List AV} (hcf_a_f : Tryz.prog.funcs[g_a_f]? = some cf_a_f) (hcb_a_f : cf_a_f.body = some code_a_f) (hcn_a_f : (cf_a_f.name == "runtime.NumGoroutine") = false) (hnr_a_f : caps_a_f.all nr = true) (hg_a_f : ∀ {x0 : Int} {y : Bool}, a_f x0 = some y → PFn Tryz.prog g_a_f ((li x0) :: caps_a_f) (AV.lit (.bool y))) {r : Int} (h : zCD a_s a_f = some r) : PFn Tryz.prog 129 [(ls cI a_s), (AV.clo g_a_f caps_a_f)] (li r) := by
 refine zi Tryz.func129 rfl Tryz.ntmps129 Tryz.results129 rfl ?_
 unfold zCD at h
 refine zI <| zC <| zA (zD rfl) <| zF ?_
 refine z5 (fun e' H' => Rep 19 0 e' H' (mkE []) [] ∧ zCY  = some r) ?_ ?_
 ·
  refine zI <| zC <| zA (zB rfl) <| zA (zX Tryz.underlying22 rfl) <| zA (zB rfl) <| zF ?_
  refine zS <| z9 (σ := Nat × Int) (fun s => s.1) (fun s e' H' => match s with | (n0, i1) => Rep 19 0 e' H' (mkE [(0, (ls cI a_s)), (1, (AV.clo g_a_f caps_a_f)), (7, (li (a_s.length : Int))), (8, (li i1))]) [] ∧ zAU a_s a_f n0 i1 = some r) (zAC, 0) ⟨zBd (n := 19) (m := 0) [] (l := [(0, (ls cI a_s)), (1, (AV.clo g_a_f caps_a_f)), (7, (li (a_s.length : Int))), (8, (li 0))]) ⟨⟨Sub.refl _, by kernel_rfl⟩, ⟨zD9 hnr_a_f, zEA hnr_a_f⟩, ⟨Sub.refl _, by kernel_rfl⟩, ⟨Sub.refl _, by kernel_rfl⟩, trivial⟩ rfl rfl trivial, h⟩ ?_
  clear h
  rintro ⟨n0, i1⟩ e' H' ⟨hrep, h⟩
  cases n0 with
  | zero => exact absurd (show (none : Option _) = some r from h) (by simp)
  | succ n0 =>
   replace h : zAh a_s a_f (zAU a_s a_f n0) i1 = some r := h
   unfold zAh at h
   refine zY hrep ?_
   clear hrep
   refine zI <| zC <| zA (zf rfl rfl) <| zF <| zI ?_
   refine zQ (decide (i1 < (a_s.length : Int))) rfl (fun hb1 => ?_) (fun hb1 => ?_)
   ·replace h := zo hb1 h
    refine zR <| zI <| zS <| zI <| zC <| zA (zB rfl) ?_
    refine zA (zD rfl) <| zF <| zI <| zC <| zA (zB rfl) <| zA (zB rfl) ?_
    refine zA (zB rfl) ?_
    have hb2 := (zH h).1
    replace h := (zH h).2
    refine zA (zV Tryz.underlying22 Tryz.sizeOf3 (fun _ => rfl) rfl rfl hb2) <| zA (zW (o := 0) Tryz.isAgg3 rfl rfl) ?_
    refine zP h ?_; clear h; intro x1 hx1 h
    refine zA3 (S := []) hcf_a_f hcb_a_f hcn_a_f (.clo (caps := caps_a_f) rfl) rfl (zDJ.c (zAt.nr rfl) (zDJ.nrs hnr_a_f)) (hg_a_f hx1) (.inl rfl) rfl <| zF ?_
    refine zQ (x1) rfl (fun hb3 => ?_) (fun hb3 => ?_)
    ·replace h := zo hb3 h
     refine zI <| zC <| zA (zB rfl) <| zA (zD rfl) <| zF <| za ?_
     show zAS _ _ _ _ _ _
     obtain rfl := Option.some.inj h
     exact zp (zAK rfl rfl)
    ·replace h := zv hb3 h
     refine zR <| zC ?_
     have hb4 := (zH h).1
     replace h := (zH h).2
     refine zA (ze rfl rfl hb4) <| zA (zB rfl) <| zF ?_
     exact ⟨(n0, (i1 + 1)), Nat.lt_succ_self _, zBd (n := 19) (m := 0) [] (l := [(0, (ls cI a_s)), (1, (AV.clo g_a_f caps_a_f)), (7, (li (a_s.length : Int))), (8, (li (i1 + 1)))]) ⟨⟨Sub.refl _, by kernel_rfl⟩, ⟨zD9 hnr_a_f, zEA hnr_a_f⟩, ⟨Sub.refl _, by kernel_rfl⟩, ⟨Sub.refl _, by kernel_rfl⟩, trivial⟩ rfl rfl trivial, h⟩
   ·replace h := zv hb1 h
    refine z8 ?_
    exact ⟨zAE [] rfl rfl (by kernel_rfl), h⟩
 ·
  clear h
  rintro e' H' ⟨hrep, h⟩
  refine zY hrep ?_
  clear hrep
  unfold zCY at h
  refine zI <| zC <| zA (zD rfl) <| zF <| za ?_
  show zAS _ _ _ _ _ _
  obtain rfl := Option.some.inj h
  exact zp (zAK rfl rfl)
theorem zGI {a_s : List Int} {a_f : Int → Option Bool} {g_a_f : FuncId} {cf_a_f : Func} {code_a_f : Code} {caps_a_f : List AV} (hcf_a_f : Tryz.prog.funcs[g_a_f]? = some cf_a_f) (hcb_a_f : cf_a_f.body = some code_a_f) (hcn_a_f : (cf_a_f.name == "runtime.NumGoroutine") = false) (hnr_a_f : caps_a_f.all nr = true) (hg_a_f : ∀ {x0 : Int} {y : Bool}, a_f x0 = some y → PFn Tryz.prog g_a_f ((li x0) :: caps_a_f) (AV.lit (.bool y))) {r : Bool} (h : zBc a_s a_f = some r) : PFn Tryz.prog 83 [(ls cI a_s), (AV.clo g_a_f caps_a_f)] (AV.lit (.bool r)) := by
 refine zi Tryz.func83 rfl Tryz.ntmps83 Tryz.results83 rfl ?_
 unfold zBc at h
 refine zI <| zC <| zA (zD rfl) <| zF <| zI <| zC ?_
 refine zA (zB rfl) <| zA (zB rfl) ?_
 refine zP h ?_; clear h; intro x1 hx1 h
 refine zA3 (r' := (li x1)) (la := [(ls cI a_s), (AV.clo g_a_f caps_a_f)]) (la' := [(ls cI a_s), (AV.clo g_a_f caps_a_f)]) (r := (li x1)) (S := []) Tryz.func129 rfl (by kernel_rfl) (.fn 129) rfl ⟨zAt.nr rfl, zAt.clo (zDJ.nrs hnr_a_f), trivial⟩ (zHD hcf_a_f hcb_a_f hcn_a_f hnr_a_f hg_a_f hx1) (.inl rfl) rfl <| zA (zAq rfl rfl) <| zA (zD rfl) <| zF <| za ?_
 show zAS _ _ _ _ _ _
 obtain rfl := Option.some.inj h
 exact zp (zAK rfl rfl)
theorem zIr {a_n : Int} {r : Bool} (h : zCh a_n = some r) : PFn Tryz.prog 84 [(li a_n)] (AV.lit (.bool r)) := by
 refine zi Tryz.func84 rfl Tryz.ntmps84 Tryz.results84 rfl ?_
 unfold zCh at h
 refine zI <| zC <| zA (zD rfl) <| zF <| zI <| zC ?_
 refine zA (zB rfl) <| zA (zf rfl rfl) <| zA (zB rfl) <| zU rfl rfl (fun hc1 => zj.step (zB rfl)) <| zU rfl rfl (fun hc2 => zj.step (zAq (zz rfl hc2) rfl)) <| zA (zZ rfl rfl) ?_
 refine zA (zD rfl) <| zF <| za ?_
 show zAS _ _ _ _ _ _
 obtain rfl := Option.some.inj h
 exact zp (zAK rfl rfl)
theorem zHB {a_a : zL} {r : Bool} (h : zCb a_a = some r) : PFn Tryz.prog 41 [(AV.agg (zJ a_a))] (AV.lit (.bool r)) := by
 refine zi Tryz.func41 rfl Tryz.ntmps41 Tryz.results41 rfl ?_
 unfold zCb at h
 refine zI <| zC <| zb (H' := [.box 26 (zJ a_a)]) (zu (t := 26) rfl) <| zA (zD rfl) <| zF <| zI ?_
 refine zI <| zC <| zA (zM Tryz.underlying26 rfl rfl Tryz.sizeOf22 rfl) <| zA (zN Tryz.isAgg22 rfl rfl rfl rfl) <| zA (zX Tryz.underlying22 rfl) <| zA (zf rfl rfl) ?_
 refine zA (zB rfl) <| zU rfl rfl (fun hc1 => zj.step (zM Tryz.underlying26 rfl rfl Tryz.sizeOf22 rfl)) <| zU rfl rfl (fun hc2 => zj.step (zN Tryz.isAgg22 (zz rfl hc2) rfl rfl rfl)) <| zU rfl rfl (fun hc3 => zj.step (zX Tryz.underlying22 (zz rfl hc3))) <| zU rfl rfl (fun hc4 => zj.step (zAp (zz rfl hc4) rfl)) <| zA (zZ rfl rfl) ?_
 refine zA (zB rfl) <| zU rfl rfl (fun hc5 => zj.step (zM Tryz.underlying26 rfl rfl Tryz.sizeOf3 rfl)) <| zU rfl rfl (fun hc6 => zj.step (zN Tryz.isAgg3 (zz rfl hc6) rfl rfl rfl)) <| zU rfl rfl (fun hc7 => zj.step (zAp (zz rfl hc7) rfl)) <| zA (zZ rfl rfl) <| zA (zB rfl) ?_
 refine zU rfl rfl (fun hc8 => zj.step (zM Tryz.underlying26 rfl rfl Tryz.sizeOf3 rfl)) <| zU rfl rfl (fun hc9 => zj.step (zN Tryz.isAgg3 (zz rfl hc9) rfl rfl rfl)) <| zU rfl rfl (fun hc10 => zj.step (zf (zz rfl hc10) rfl)) <| zA (zZ rfl rfl) <| zA (zB rfl) <| zU rfl rfl (fun hc11 => zj.step (zM Tryz.underlying26 rfl rfl Tryz.sizeOf3 rfl)) ?_
 refine zU rfl rfl (fun hc12 => zj.step (zN Tryz.isAgg3 (zz rfl hc12) rfl rfl rfl)) <| zU rfl rfl (fun hc13 => zj.step (zM Tryz.underlying26 rfl rfl Tryz.sizeOf3 rfl)) <| zU rfl rfl (fun hc14 => zj.step (zN Tryz.isAgg3 (zz rfl hc14) rfl rfl rfl)) <| zU rfl rfl (fun hc15 => zj.step (zAp (zz rfl hc15) (zz rfl hc15))) <| zA (zZ rfl rfl) <| zA (zB rfl) ?_
 refine zU rfl rfl (fun hc16 => zj.step (zM Tryz.underlying26 rfl rfl Tryz.sizeOf23 rfl)) <| zU rfl rfl (fun hc17 => zj.step (zN Tryz.isAgg23 (zz rfl hc17) rfl rfl rfl)) <| zU rfl rfl (fun hc18 => zj.step (zX Tryz.underlying23 (zz rfl hc18))) <| zU rfl rfl (fun hc19 => zj.step (zf (zz rfl hc19) rfl)) <| zA (zZ rfl rfl) <| zA (zB rfl) ?_
 refine zU rfl rfl (fun hc20 => zj.step (zM Tryz.underlying26 rfl rfl Tryz.sizeOf23 rfl)) <| zU rfl rfl (fun hc21 => zj.step (zN Tryz.isAgg23 (zz rfl hc21) rfl rfl rfl)) <| zU rfl rfl (fun hc22 => zj.step (zX Tryz.underlying23 (zz rfl hc22))) <| zU rfl rfl (fun hc23 => zj.step (zAp (zz rfl hc23) rfl)) <| zA (zZ rfl rfl) <| zF ?_
 refine zQ (((((((decide ((a_a.nodes.length : Int) < 1)) || (decide (4 < (a_a.nodes.length : Int)))) || (decide (64 < a_a.high))) || (decide (a_a.batch < 1))) || (decide (a_a.high < a_a.batch))) || (decide ((a_a.zones.length : Int) < 1))) || (decide (6 < (a_a.zones.length : Int)))) rfl (fun hb1 => ?_) (fun hb1 => ?_)
 ·replace h := zo hb1 h
  refine zI <| zC <| zA (zD rfl) <| zF <| za ?_
  show zAS _ _ _ _ _ _
  obtain rfl := Option.some.inj h
  exact zp (zAK rfl rfl)
 ·replace h := zv hb1 h
  refine zR <| zI <| zC <| zA (zM Tryz.underlying26 rfl rfl Tryz.sizeOf22 rfl) <| zA (zN Tryz.isAgg22 rfl rfl rfl rfl) ?_
  refine zP h ?_; clear h; intro x1 hx1 h
  refine zA3 (r' := (AV.lit (.bool x1))) (la := [(ls cI a_a.nodes), (AV.clo 84 [])]) (la' := [(ls cI a_a.nodes), (AV.clo 84 [])]) (r := (AV.lit (.bool x1))) (S := []) Tryz.func83 rfl (by kernel_rfl) (.fn 83) rfl ⟨zAt.nr rfl, zAt.clo trivial, trivial⟩ (zGI Tryz.func84 rfl (by kernel_rfl) rfl (fun hy => zIr  hy) hx1) (.inl rfl) rfl <| zA (zA8 (t := x1) rfl) <| zA (zD rfl) <| zF <| za ?_
  show zAS _ _ _ _ _ _
  obtain rfl := Option.some.inj h
  exact zp (zAK rfl rfl)
theorem zJL {a_z : zm} {r : Bool} (h : zFZ a_z = some r) : PFn Tryz.prog 85 [(AV.agg ([(li a_z.node)] ++ ([(li a_z.kind)] ++ ([(li a_z.start)] ++ ([(li a_z.count)] ++ ([(li a_z.min)] ++ ([AV.any, AV.any, AV.any, AV.any, AV.any] ++ [])))))))] (AV.lit (.bool r)) := by
 refine zi Tryz.func85 rfl Tryz.ntmps85 Tryz.results85 rfl ?_
 unfold zFZ at h
 refine zI <| zC <| zb (H' := [.box 51 ([(li a_z.node)] ++ ([(li a_z.kind)] ++ ([(li a_z.start)] ++ ([(li a_z.count)] ++ ([(li a_z.min)] ++ ([AV.any, AV.any, AV.any, AV.any, AV.any] ++ []))))))]) (zu (t := 51) rfl) <| zA (zD rfl) <| zF <| zI ?_
 refine zC <| zA (zM Tryz.underlying51 rfl rfl Tryz.sizeOf3 rfl) <| zA (zN Tryz.isAgg3 rfl rfl rfl rfl) <| zA (zAq rfl rfl) <| zA (zB rfl) <| zg rfl rfl (fun hc1 => zj.step (zM Tryz.underlying51 rfl rfl Tryz.sizeOf3 rfl)) ?_
 refine zg rfl rfl (fun hc2 => zj.step (zN Tryz.isAgg3 (zz rfl hc2) rfl rfl rfl)) <| zg rfl rfl (fun hc3 => zj.step (zf (zz rfl hc3) rfl)) <| zA (zy (j := .lit undef) rfl rfl) <| zA (zB rfl) <| zg rfl rfl (fun hc4 => zj.step (zM Tryz.underlying51 rfl rfl Tryz.sizeOf3 rfl)) <| zg rfl rfl (fun hc5 => zj.step (zN Tryz.isAgg3 (zz rfl hc5) rfl rfl rfl)) ?_
 refine zg rfl rfl (fun hc6 => zj.step (zBT (zz rfl hc6) rfl)) <| zg rfl rfl (fun hc7 => zj.step (zB (zz rfl hc7))) <| zIT (g := 15) (s' := (decide (0 ≤ a_z.node)) && (decide (a_z.node < 4))) (s := decide (a_z.kind = 0)) rfl rfl (fun hc8 => zj.step (zM Tryz.underlying51 rfl rfl Tryz.sizeOf3 rfl)) <| zIT (g := 15) (s' := (decide (0 ≤ a_z.node)) && (decide (a_z.node < 4))) (s := decide (a_z.kind = 0)) rfl rfl (fun hc9 => zj.step (zN Tryz.isAgg3 (zz rfl hc9) rfl rfl rfl)) <| zIT (g := 15) (s' := (decide (0 ≤ a_z.node)) && (decide (a_z.node < 4))) (s := decide (a_z.kind = 0)) rfl rfl (fun hc10 => zj.step (zBT (zz rfl hc10) rfl)) <| zg rfl rfl (fun hc11 => zj.step (zZ (zz rfl hc11) (zM0 (c := (decide (0 ≤ a_z.node)) && (decide (a_z.node < 4))) (d := !(decide (a_z.kind = 0))) (a := (AV.lit (.bool (decide (a_z.kind = 1))))) (j := .lit undef) rfl hc11))) ?_
 refine zA (zy (j := .lit undef) rfl rfl) <| zA (zB rfl) <| zg rfl rfl (fun hc12 => zj.step (zM Tryz.underlying51 rfl rfl Tryz.sizeOf3 rfl)) <| zg rfl rfl (fun hc13 => zj.step (zN Tryz.isAgg3 (zz rfl hc13) rfl rfl rfl)) <| zg rfl rfl (fun hc14 => zj.step (zAq (zz rfl hc14) rfl)) <| zA (zy (j := .lit undef) rfl rfl) ?_
 refine zA (zB rfl) <| zg rfl rfl (fun hc15 => zj.step (zM Tryz.underlying51 rfl rfl Tryz.sizeOf3 rfl)) <| zg rfl rfl (fun hc16 => zj.step (zN Tryz.isAgg3 (zz rfl hc16) rfl rfl rfl)) <| zg rfl rfl (fun hc17 => zj.step (zf (zz rfl hc17) rfl)) <| zA (zy (j := .lit undef) rfl rfl) <| zA (zB rfl) ?_
 refine zg rfl rfl (fun hc18 => zj.step (zM Tryz.underlying51 rfl rfl Tryz.sizeOf3 rfl)) <| zg rfl rfl (fun hc19 => zj.step (zN Tryz.isAgg3 (zz rfl hc19) rfl rfl rfl)) <| zg rfl rfl (fun hc20 => zj.step (zAq (zz rfl hc20) rfl)) <| zA (zy (j := .lit undef) rfl rfl) <| zA (zB rfl) <| zg rfl rfl (fun hc21 => zj.step (zM Tryz.underlying51 rfl rfl Tryz.sizeOf3 rfl)) ?_
 refine zg rfl rfl (fun hc22 => zj.step (zN Tryz.isAgg3 (zz rfl hc22) rfl rfl rfl)) <| zg rfl rfl (fun hc23 => zj.step (zM Tryz.underlying51 rfl rfl Tryz.sizeOf3 rfl)) <| zg rfl rfl (fun hc24 => zj.step (zN Tryz.isAgg3 (zz rfl hc24) rfl rfl rfl)) ?_
 have hb1 := (zH h).1
 replace h := (zH h).2
 refine zg rfl rfl (fun hc25 => zj.step (zB5 rfl (zz rfl hc25) (zFp hb1 hc25))) <| zg rfl rfl (fun hc26 => zj.step (zCq (zz rfl hc26) (zz rfl hc26))) <| zA (zy (j := .lit undef) rfl rfl) <| zA (zB rfl) <| zg rfl rfl (fun hc27 => zj.step (zM Tryz.underlying51 rfl rfl Tryz.sizeOf3 rfl)) <| zg rfl rfl (fun hc28 => zj.step (zN Tryz.isAgg3 (zz rfl hc28) rfl rfl rfl)) ?_
 refine zg rfl rfl (fun hc29 => zj.step (zAq (zz rfl hc29) rfl)) <| zA (zy (j := .lit undef) rfl rfl) <| zA (zB rfl) <| zg rfl rfl (fun hc30 => zj.step (zM Tryz.underlying51 rfl rfl Tryz.sizeOf3 rfl)) <| zg rfl rfl (fun hc31 => zj.step (zN Tryz.isAgg3 (zz rfl hc31) rfl rfl rfl)) <| zg rfl rfl (fun hc32 => zj.step (zM Tryz.underlying51 rfl rfl Tryz.sizeOf3 rfl)) ?_
 refine zg rfl rfl (fun hc33 => zj.step (zN Tryz.isAgg3 (zz rfl hc33) rfl rfl rfl)) <| zg rfl rfl (fun hc34 => zj.step (zCq (zz rfl hc34) (zz rfl hc34))) <| zA (zy (j := .lit undef) rfl rfl) <| zA (zD rfl) <| zF <| za ?_
 show zAS _ _ _ _ _ _
 obtain rfl := Option.some.inj h
 exact zp (zAK rfl rfl)
theorem zFL {a_x : Int} {r : Bool} (h : zDr a_x = some r) : PFn Tryz.prog 137 [(li a_x)] (AV.lit (.bool r)) := by
 refine zi Tryz.func137 rfl Tryz.ntmps137 Tryz.results137 rfl ?_
 unfold zDr at h
 refine zI <| zC <| zA (zD rfl) <| zF <| zI <| zC ?_
 refine zA (zB rfl) <| zA (zB rfl) <| zA (z7 rfl rfl) <| zA (zD rfl) <| zF <| za ?_
 show zAS _ _ _ _ _ _
 obtain rfl := Option.some.inj h
 exact zp (zAK rfl rfl)
theorem zLd {a_x : Int} {a_y : Int} {r : Bool} (h : zGt a_x a_y = some r) : PFn Tryz.prog 131 [(li a_x), (li a_y)] (AV.lit (.bool r)) := by
 refine zi Tryz.func131 rfl Tryz.ntmps131 Tryz.results131 rfl ?_
 unfold zGt at h
 refine zI <| zC <| zA (zD rfl) <| zF <| zI <| zC ?_
 refine zA (zB rfl) ?_
 refine zP h ?_; clear h; intro x1 hx1 h
 refine zd Tryz.func137 rfl (by kernel_rfl) (.fn 137) rfl rfl (zFL hx1) rfl <| zA (zB rfl) <| zg rfl rfl (fun hc1 => zj.step (zB rfl)) ?_
 refine zP h ?_; clear h; intro x2 hx2 h
 refine zB1 (g := 7) (s := x1) (r' := (AV.lit (.bool x2))) rfl rfl (fun hc2 => ⟨137, _, _, [], [(li a_y)], [(li a_y)], (AV.lit (.bool x2)), [], Tryz.func137, rfl, by kernel_rfl, (.fn 137), (zAF (zz rfl hc2) rfl), ⟨zAt.nr rfl, trivial⟩, zFL (zo hc2 hx2), .inl rfl, rfl⟩) <| zg rfl rfl (fun hc3 => zj.step (zA8 (t := x2) (zz rfl hc3))) <| zA (zy (j := .lit undef) rfl rfl) <| zA (zB rfl) <| zU rfl rfl (fun hc4 => zj.step (zB rfl)) <| zU rfl rfl (fun hc5 => zj.step (zB rfl)) ?_
 refine zU rfl rfl (fun hc6 => zj.step (zf (zz rfl hc6) (zz rfl hc6))) <| zA (zZ rfl rfl) <| zA (zD rfl) <| zF <| za ?_
 show zAS _ _ _ _ _ _
 obtain rfl := Option.some.inj h
 exact zp (zAK rfl rfl)
theorem zHb {a_x : Int} {r : Bool} (h : zD3 a_x = some r) : PFn Tryz.prog 132 [(li a_x)] (AV.lit (.bool r)) := by
 refine zi Tryz.func132 rfl Tryz.ntmps132 Tryz.results132 rfl ?_
 unfold zD3 at h
 refine zI <| zC <| zA (zD rfl) <| zF <| zI <| zC ?_
 refine zA (zB rfl) <| zA (zB rfl) <| zA (z7 rfl rfl) <| zA (zD rfl) <| zF <| za ?_
 show zAS _ _ _ _ _ _
 obtain rfl := Option.some.inj h
 exact zp (zAK rfl rfl)
theorem zAw {a_x : List Int} {a_target : Int} {r : Int × Bool} (h : zAW a_x a_target = some r) : PFn Tryz.prog 87 [(ls cI a_x), (li a_target)] (AV.tup [(li r.1), (AV.lit (.bool r.2))]) := by
 refine zi Tryz.func87 rfl Tryz.ntmps87 Tryz.results87 rfl ?_
 unfold zAW at h
 refine zI <| zC <| zA (zD rfl) <| zA (zD rfl) <| zF <| zI ?_
 refine zC <| zA (zB rfl) <| zA (zX Tryz.underlying22 rfl) <| zA (zD rfl) <| zF <| zI ?_
 refine zC <| zA (zB rfl) <| zA (zD rfl) <| zA (zD rfl) <| zF ?_
 refine z5 (fun e' H' => ∃ (i1 : Int), Rep 54 0 e' H' (mkE [(0, (ls cI a_x)), (1, (li a_target)), (6, (li (a_x.length : Int))), (7, (li i1))]) [] ∧ zA2 a_x a_target i1 = some r) ?_ ?_
 ·
  refine zS <| z9 (σ := Nat × Int × Int) (fun s => s.1) (fun s e' H' => match s with | (n0, i2, i3) => Rep 54 0 e' H' (mkE [(0, (ls cI a_x)), (1, (li a_target)), (6, (li (a_x.length : Int))), (7, (li i2)), (8, (li i3))]) [] ∧ zA1 a_x a_target n0 i2 i3 = some r) (zAC, 0, (a_x.length : Int)) ⟨zAE [] rfl rfl (by kernel_rfl), h⟩ ?_
  clear h
  rintro ⟨n0, i2, i3⟩ e' H' ⟨hrep, h⟩
  cases n0 with
  | zero => exact absurd (show (none : Option _) = some r from h) (by simp)
  | succ n0 =>
   replace h : zAX a_x a_target (zA1 a_x a_target n0) i2 i3 = some r := h
   unfold zAX at h
   refine zY hrep ?_
   clear hrep
   refine zI <| zI <| zC <| zA (zB rfl) <| zA (zB rfl) <| zA (zf rfl rfl) ?_
   refine zF ?_
   refine zQ (decide (i2 < i3)) rfl (fun hb3 => ?_) (fun hb3 => ?_)
   ·replace h := zo hb3 h
    refine zR <| zS <| zI <| zC <| zA (zB rfl) <| zA (zB rfl) ?_
    have hb4 := (zH h).1
    replace h := (zH h).2
    refine zA (ze rfl rfl hb4) ?_
    have hb5 := (zH h).1
    replace h := (zH h).2
    refine zA (zHQ (k' := .u64) (a := i2 + i3) Tryz.underlying3 Tryz.underlying74 rfl hb5) <| zA (zQD (k := .u64) (a := i2 + i3) (b := 1) rfl rfl (by decide)) ?_
    have hb6 := (zH h).1
    replace h := (zH h).2
    refine zA (zHQ (k' := .i64) (a := (i2 + i3).fdiv (2 ^ (1 : Int).toNat)) Tryz.underlying74 Tryz.underlying3 rfl hb6) <| zA (zD rfl) <| zF <| zI <| zC <| zA (zB rfl) ?_
    refine zA (zB rfl) ?_
    have hb7 := (zH h).1
    replace h := (zH h).2
    refine zA (zV Tryz.underlying22 Tryz.sizeOf3 (fun _ => rfl) rfl rfl hb7) <| zA (zW (o := 0) Tryz.isAgg3 rfl rfl) <| zA (zB rfl) ?_
    refine zP h ?_; clear h; intro x3 hx3 h
    refine zd Tryz.func131 rfl (by kernel_rfl) (.fn 131) rfl rfl (zLd hx3) rfl <| zF ?_
    refine zQ (x3) rfl (fun hb8 => ?_) (fun hb8 => ?_)
    ·replace h := zo hb8 h
     refine zC <| zA (zB rfl) ?_
     have hb9 := (zH h).1
     replace h := (zH h).2
     refine zA (ze rfl rfl hb9) <| zA (zD rfl) <| zF ?_
     exact ⟨(n0, (((i2 + i3).fdiv (2 ^ (1 : Int).toNat)) + 1), i3), Nat.lt_succ_self _, zAE [] rfl rfl (by kernel_rfl), h⟩
    ·replace h := zv hb8 h
     refine zC <| zA (zB rfl) <| zA (zD rfl) <| zF ?_
     exact ⟨(n0, i2, ((i2 + i3).fdiv (2 ^ (1 : Int).toNat))), Nat.lt_succ_self _, zAE [] rfl rfl (by kernel_rfl), h⟩
   ·replace h := zv hb3 h
    refine z8 ?_
    exact ⟨i2, zAE [] rfl rfl (by kernel_rfl), h⟩
 ·
  clear h
  rintro e' H' ⟨i1, hrep, h⟩
  refine zY hrep ?_
  clear hrep
  unfold zA2 at h
  refine zI <| zC <| zA (zB rfl) <| zA (zB rfl) <| zA (zB rfl) <| zA (zf rfl rfl) ?_
  refine zA (zB rfl) <| zg rfl rfl (fun hc1 => zj.step (zB rfl)) <| zg rfl rfl (fun hc2 => zj.step (zB rfl)) ?_
  have hb1 := (zH h).1
  replace h := (zH h).2
  refine zg rfl rfl (fun hc3 => zj.step (zV Tryz.underlying22 Tryz.sizeOf3 (fun _ => rfl) (zz rfl hc3) (zz rfl hc3) (zFp hb1 hc3))) <| zg rfl rfl (fun hc4 => zj.step (zW (o := 0) Tryz.isAgg3 (zz rfl hc4) rfl)) <| zg rfl rfl (fun hc5 => zj.step (zB rfl)) <| zg rfl rfl (fun hc6 => zj.step (zBT (zz rfl hc6) (zz rfl hc6))) <| zg rfl rfl (fun hc7 => zj.step (zB (zz rfl hc7))) <| zIT (g := 42) (s' := decide (i1 < (a_x.length : Int))) (s := decide ((at_ a_x i1) = a_target)) rfl rfl (fun hc8 => zj.step (zB rfl)) ?_
  refine zIT (g := 42) (s' := decide (i1 < (a_x.length : Int))) (s := decide ((at_ a_x i1) = a_target)) rfl rfl (fun hc9 => zj.step (zB rfl)) ?_
  have hb2 := (zH h).1
  replace h := (zH h).2
  refine zIT (g := 42) (s' := decide (i1 < (a_x.length : Int))) (s := decide ((at_ a_x i1) = a_target)) rfl rfl (fun hc10 => zj.step (zV Tryz.underlying22 Tryz.sizeOf3 (fun _ => rfl) (zz rfl hc10) (zz rfl hc10) (zFp hb2 hc10))) <| zIT (g := 42) (s' := decide (i1 < (a_x.length : Int))) (s := decide ((at_ a_x i1) = a_target)) rfl rfl (fun hc11 => zj.step (zW (o := 0) Tryz.isAgg3 (zz rfl hc11) rfl)) ?_
  refine zP h ?_; clear h; intro x1 hx1 h
  refine zNg (g := 42) (s' := decide (i1 < (a_x.length : Int))) (s := decide ((at_ a_x i1) = a_target)) (r' := (AV.lit (.bool x1))) rfl rfl (fun hc12 => ⟨132, _, _, [], [(li (at_ a_x i1))], [(li (at_ a_x i1))], (AV.lit (.bool x1)), [], Tryz.func132, rfl, by kernel_rfl, (.fn 132), (zAF (zz rfl hc12) rfl), ⟨zAt.nr rfl, trivial⟩, zHb (zo hc12 hx1), .inl rfl, rfl⟩) <| zIT (g := 42) (s' := decide (i1 < (a_x.length : Int))) (s := decide ((at_ a_x i1) = a_target)) rfl rfl (fun hc13 => zj.step (zB (zz rfl hc13))) <| zJn (g := 48) (s' := (decide (i1 < (a_x.length : Int)) && !(decide ((at_ a_x i1) = a_target)))) (s := x1) rfl rfl (fun hc14 => zj.step (zB rfl)) ?_
  refine zP h ?_; clear h; intro x2 hx2 h
  refine zK9 (g := 48) (s' := (decide (i1 < (a_x.length : Int)) && !(decide ((at_ a_x i1) = a_target)))) (s := x1) (r' := (AV.lit (.bool x2))) rfl rfl (fun hc15 => ⟨132, _, _, [], [(li a_target)], [(li a_target)], (AV.lit (.bool x2)), [], Tryz.func132, rfl, by kernel_rfl, (.fn 132), (zAF (zz rfl hc15) rfl), ⟨zAt.nr rfl, trivial⟩, zHb (zo hc15 hx2), .inl rfl, rfl⟩) <| zIT (g := 42) (s' := decide (i1 < (a_x.length : Int))) (s := decide ((at_ a_x i1) = a_target)) rfl rfl (fun hc16 => zj.step (zy (j := .lit undef) (zz rfl hc16) (zM0 (c := (decide (i1 < (a_x.length : Int)) && !(decide ((at_ a_x i1) = a_target)))) (d := x1) (a := (AV.lit (.bool x2))) (j := .lit undef) rfl hc16))) <| zg rfl rfl (fun hc17 => zj.step (zZ (zz rfl hc17) (zM0 (c := decide (i1 < (a_x.length : Int))) (d := !(decide ((at_ a_x i1) = a_target))) (a := (AV.lit (.bool (x1 && x2)))) (j := .lit undef) rfl hc17))) <| zA (zy (j := .lit undef) rfl rfl) <| zA (zD rfl) <| zA (zD rfl) ?_
  refine zF <| za ?_
  show zAS _ _ _ _ _ _
  obtain rfl := Option.some.inj h
  exact zC1 (zAK rfl rfl) (zAK rfl rfl) rfl
theorem zEe {a_z : zm} {a_frame : Int} {a_order : Int} {r : Bool} (h : zCI a_z a_frame a_order = some r) : PFn Tryz.prog 86 [(AV.agg ([(li a_z.node)] ++ ([(li a_z.kind)] ++ ([(li a_z.start)] ++ ([(li a_z.count)] ++ ([(li a_z.min)] ++ ([AV.any, AV.any, AV.any, AV.any, AV.any] ++ []))))))), (li a_frame), (li a_order)] (AV.lit (.bool r)) := by
 refine zi Tryz.func86 rfl Tryz.ntmps86 Tryz.results86 rfl ?_
 unfold zCI at h
 refine zI <| zC <| zb (H' := [.box 51 ([(li a_z.node)] ++ ([(li a_z.kind)] ++ ([(li a_z.start)] ++ ([(li a_z.count)] ++ ([(li a_z.min)] ++ ([AV.any, AV.any, AV.any, AV.any, AV.any] ++ []))))))]) (zu (t := 51) rfl) <| zA (zD rfl) <| zF <| zI ?_
 refine zC <| zA (zB rfl) ?_
 have hb1 := (zH h).1
 replace h := (zH h).2
 have hb2 := (zH h).1
 replace h := (zH h).2
 refine zA (zDp (a := 1) (b := a_order) rfl rfl hb1 hb2) <| zA (zD rfl) <| zF <| zI <| zC <| zA (zB rfl) ?_
 refine zA (zM Tryz.underlying51 rfl rfl Tryz.sizeOf3 rfl) <| zA (zN Tryz.isAgg3 rfl rfl rfl rfl) <| zA (zAq rfl rfl) <| zA (zB rfl) <| zg rfl rfl (fun hc1 => zj.step (zB rfl)) <| zg rfl rfl (fun hc2 => zj.step (zB rfl)) ?_
 have hb3 := (zH h).1
 replace h := (zH h).2
 refine zg rfl rfl (fun hc3 => zj.step (zOR (k := .i64) (a := a_frame) (b := (1 : Int) * 2 ^ a_order.toNat) (zz rfl hc3) (zz rfl hc3) (zFp hb3 hc3))) <| zg rfl rfl (fun hc4 => zj.step (zBT (zz rfl hc4) rfl)) <| zA (zy (j := .lit undef) rfl rfl) <| zA (zB rfl) <| zg rfl rfl (fun hc5 => zj.step (zB rfl)) <| zg rfl rfl (fun hc6 => zj.step (zM Tryz.underlying51 rfl rfl Tryz.sizeOf3 rfl)) ?_
 refine zg rfl rfl (fun hc7 => zj.step (zN Tryz.isAgg3 (zz rfl hc7) rfl rfl rfl)) <| zg rfl rfl (fun hc8 => zj.step (zCq (zz rfl hc8) (zz rfl hc8))) <| zA (zy (j := .lit undef) rfl rfl) <| zA (zB rfl) <| zg rfl rfl (fun hc9 => zj.step (zB rfl)) <| zg rfl rfl (fun hc10 => zj.step (zM Tryz.underlying51 rfl rfl Tryz.sizeOf3 rfl)) ?_
 refine zg rfl rfl (fun hc11 => zj.step (zN Tryz.isAgg3 (zz rfl hc11) rfl rfl rfl)) <| zg rfl rfl (fun hc12 => zj.step (zM Tryz.underlying51 rfl rfl Tryz.sizeOf3 rfl)) <| zg rfl rfl (fun hc13 => zj.step (zN Tryz.isAgg3 (zz rfl hc13) rfl rfl rfl)) ?_
 have hb4 := (zH h).1
 replace h := (zH h).2
 refine zg rfl rfl (fun hc14 => zj.step (ze (zz rfl hc14) (zz rfl hc14) (zFp hb4 hc14))) <| zg rfl rfl (fun hc15 => zj.step (zB rfl)) ?_
 have hb5 := (zH h).1
 replace h := (zH h).2
 refine zg rfl rfl (fun hc16 => zj.step (zB5 (zz rfl hc16) (zz rfl hc16) (zFp hb5 hc16))) <| zg rfl rfl (fun hc17 => zj.step (zCq (zz rfl hc17) (zz rfl hc17))) <| zA (zy (j := .lit undef) rfl rfl) <| zA (zD rfl) <| zF <| za ?_
 show zAS _ _ _ _ _ _
 obtain rfl := Option.some.inj h
 exact zp (zAK rfl rfl)
theorem zKl {a_p0 : zm} {a_p1 : Int} {a_p2 : Int} {r : zm} (h : zKC a_p0 a_p1 a_p2 = some r) : AFn Tryz.prog 125 [(AV.ptr 0 0), (li a_p1), (li a_p2)] [.box 51 ([(li a_p0.node)] ++ ([(li a_p0.kind)] ++ ([(li a_p0.start)] ++ ([(li a_p0.count)] ++ ([(li a_p0.min)] ++ ((cM 5 3 (5 : Int) a_p0.free) ++ []))))))] (.tup []) [.box 51 ([(li r.node)] ++ ([(li r.kind)] ++ ([(li r.start)] ++ ([(li r.count)] ++ ([(li r.min)] ++ ((cM 5 3 (5 : Int) r.free) ++ []))))))] := by
 refine zGV Tryz.func125 rfl Tryz.ntmps125 Tryz.results125 rfl ?_
 unfold zKC at h
 refine z5 (fun e' H' => ∃ (i1 : Int) (i2 : Int) (l1 : List (List Int)), Rep 88 1 e' H' (mkE [(0, (AV.ptr 0 0)), (1, (li i1)), (2, (li i2))]) [.box 51 ([(li a_p0.node)] ++ ([(li a_p0.kind)] ++ ([(li a_p0.start)] ++ ([(li a_p0.count)] ++ ([(li a_p0.min)] ++ ((cM 5 3 (5 : Int) l1) ++ []))))))] ∧ zHo a_p0 i1 i2 l1 = some r) ?_ ?_
 ·
  refine zS <| z9 (σ := Nat × Int × Int × (List (List Int))) (fun s => s.1) (fun s e' H' => match s with | (n0, i3, i4, l2) => Rep 88 1 e' H' (mkE [(0, (AV.ptr 0 0)), (1, (li i3)), (2, (li i4))]) [.box 51 ([(li a_p0.node)] ++ ([(li a_p0.kind)] ++ ([(li a_p0.start)] ++ ([(li a_p0.count)] ++ ([(li a_p0.min)] ++ ((cM 5 3 (5 : Int) l2) ++ []))))))] ∧ zHm a_p0 n0 i3 i4 l2 = some r) (zAC, a_p1, a_p2, a_p0.free) ⟨zAE [0] rfl rfl (by kernel_rfl), h⟩ ?_
  clear h
  rintro ⟨n0, i3, i4, l2⟩ e' H' ⟨hrep, h⟩
  cases n0 with
  | zero => exact absurd (show (none : Option _) = some r from h) (by simp)
  | succ n0 =>
   replace h : zI6 a_p0 (zHm a_p0 n0) i3 i4 l2 = some r := h
   unfold zI6 at h
   refine zY hrep ?_
   clear hrep
   refine zI <| zI <| zC <| zA (zB rfl) <| zA (zf rfl rfl) <| zF ?_
   refine zQ (decide (i4 < 4)) rfl (fun hb4 => ?_) (fun hb4 => ?_)
   ·replace h := zo hb4 h
    refine zR <| zS <| zI <| zC <| zA (zB rfl) <| zA (zB rfl) ?_
    have hb5 := (zH h).1
    replace h := (zH h).2
    have hb6 := (zH h).1
    replace h := (zH h).2
    refine zA (zDp (a := 1) (b := i4) rfl rfl hb5 hb6) <| zA (zOE (k := .i64) (a := i3) (b := (1 : Int) * 2 ^ i4.toNat) rfl rfl) <| zA (zD rfl) <| zF <| zI <| zC ?_
    refine zA (zB rfl) <| zA (zB rfl) <| zA (zAb rfl) <| zA (zM Tryz.underlying51 rfl rfl Tryz.sizeOf49 rfl) ?_
    have hb7 := (zH h).1
    replace h := (zH h).2
    refine zA (zAL (m := 5) (s := 1) (i := i4) (k := 0) (o := 5) Tryz.underlying49 Tryz.sizeOf22 rfl rfl hb7) ?_
    have hb8 := (zH h).1
    replace h := (zH h).2
    refine zAe (zI1 (k := 0) (cs := ([(li a_p0.node)] ++ ([(li a_p0.kind)] ++ ([(li a_p0.start)] ++ ([(li a_p0.count)] ++ ([(li a_p0.min)] ++ ((cM 5 3 (5 : Int) l2) ++ []))))))) (hd := ([(li a_p0.node)] ++ [(li a_p0.kind)] ++ [(li a_p0.start)] ++ [(li a_p0.count)] ++ [(li a_p0.min)] ++ [])) (tl := ([])) (N := 5) (T := 3) (K := 5) (l := l2) (i := i4) rfl rfl hb7 hb8) <| zA (zEx (k := 0) (o := (5 + i4.toNat * 1)) (cs := ([(li a_p0.node)] ++ ([(li a_p0.kind)] ++ ([(li a_p0.start)] ++ ([(li a_p0.count)] ++ ([(li a_p0.min)] ++ ((List.set (cM 5 3 (5 : Int) l2) i4.toNat (AV.hd 1)) ++ []))))))) (hd := ([(li a_p0.node)] ++ [(li a_p0.kind)] ++ [(li a_p0.start)] ++ [(li a_p0.count)] ++ [(li a_p0.min)] ++ [])) (tl := ([])) (s := (cM 5 3 (5 : Int) l2)) (i := i4) (j := 1) Tryz.isAgg22 rfl rfl rfl (congrArg (fun q => 5 + q) (Nat.mul_one _)) (zHj hb7)) <| zA (zB rfl) ?_
    refine zP h ?_; clear h; intro x2 hx2 h
    refine zA3 (r' := (AV.tup [(li x2.1), (AV.lit (.bool x2.2))])) (la := [(AV.hd 1), (li (zKK .xor .i64 i3 ((1 : Int) * 2 ^ i4.toNat)))]) (la' := [(ls cI (l2.getD i4.toNat [])), (li (zKK .xor .i64 i3 ((1 : Int) * 2 ^ i4.toNat)))]) (r := (AV.tup [(li x2.1), (AV.lit (.bool x2.2))])) (S := [1]) Tryz.func87 rfl (by kernel_rfl) (.fn 87) rfl ⟨zIl (fun _ => rfl) rfl rfl, zAt.nr rfl, trivial⟩ (zAw hx2) (.inr rfl) rfl <| zA (zB rfl) <| zA (zl rfl rfl) <| zA (zl rfl rfl) <| zA (zD rfl) <| zA (zD rfl) ?_
    refine zF <| zI <| zI <| zC <| zA (zB rfl) <| zA (zA8 (t := x2.2) rfl) ?_
    refine zA (zB rfl) <| zU rfl rfl (fun hc1 => zj.step (zB rfl)) <| zU rfl rfl (fun hc2 => zj.step (zAb (zz rfl hc2))) <| zAe (zJS (j := 1) (l' := l2.getD i4.toNat []) (k := 0) (cs := ([(li a_p0.node)] ++ ([(li a_p0.kind)] ++ ([(li a_p0.start)] ++ ([(li a_p0.count)] ++ ([(li a_p0.min)] ++ ((List.set (cM 5 3 (5 : Int) l2) i4.toNat (AV.hd 1)) ++ []))))))) (hd := ([(li a_p0.node)] ++ [(li a_p0.kind)] ++ [(li a_p0.start)] ++ [(li a_p0.count)] ++ [(li a_p0.min)] ++ [])) (tl := ([])) (N := 5) (T := 3) (K := 5) (l := l2) (i := i4) rfl rfl hb7 hb8 rfl rfl) <| zU rfl rfl (fun hc3 => zj.step (zL6 (k := 0) (o := 0) (m := 10) (la := ([(li a_p0.node)] ++ ([(li a_p0.kind)] ++ ([(li a_p0.start)] ++ ([(li a_p0.count)] ++ ([(li a_p0.min)] ++ ([AV.any, AV.any, AV.any, AV.any, AV.any] ++ []))))))) Tryz.isAgg51 Tryz.sizeOf51 (zz rfl hc3) rfl rfl rfl)) <| zU rfl rfl (fun hc4 => zj.step (zB rfl)) ?_
    refine zU rfl rfl (fun hc5 => zj.step (zB rfl)) <| zU rfl rfl (fun hc6 => zj.step (zMK (a := i3) (b := zKK .xor .i64 i3 ((1 : Int) * 2 ^ i4.toNat)) (zz rfl hc6) (zz rfl hc6))) <| zU rfl rfl (fun hc7 => zj.step (zB rfl)) ?_
    have hb9 := (zH h).1
    replace h := (zH h).2
    refine zU rfl rfl (fun hc8 => zj.step (ze (zz rfl hc8) rfl (zFp hb9 hc8))) ?_
    refine zP h ?_; clear h; intro x3 hx3 h
    refine zBZ (g := 30) (s := !x2.2) (r' := (AV.lit (.bool x3))) rfl rfl (fun hc9 => ⟨86, _, _, [], [(AV.agg ([(li a_p0.node)] ++ ([(li a_p0.kind)] ++ ([(li a_p0.start)] ++ ([(li a_p0.count)] ++ ([(li a_p0.min)] ++ ([AV.any, AV.any, AV.any, AV.any, AV.any] ++ []))))))), (li (min i3 (zKK .xor .i64 i3 ((1 : Int) * 2 ^ i4.toNat)))), (li (i4 + 1))], [(AV.agg ([(li ((⟨a_p0.node, a_p0.kind, a_p0.start, a_p0.count, a_p0.min, zEO 5 [] l2 i4.toNat (l2.getD i4.toNat [])⟩ : zm).node))] ++ ([(li ((⟨a_p0.node, a_p0.kind, a_p0.start, a_p0.count, a_p0.min, zEO 5 [] l2 i4.toNat (l2.getD i4.toNat [])⟩ : zm).kind))] ++ ([(li ((⟨a_p0.node, a_p0.kind, a_p0.start, a_p0.count, a_p0.min, zEO 5 [] l2 i4.toNat (l2.getD i4.toNat [])⟩ : zm).start))] ++ ([(li ((⟨a_p0.node, a_p0.kind, a_p0.start, a_p0.count, a_p0.min, zEO 5 [] l2 i4.toNat (l2.getD i4.toNat [])⟩ : zm).count))] ++ ([(li ((⟨a_p0.node, a_p0.kind, a_p0.start, a_p0.count, a_p0.min, zEO 5 [] l2 i4.toNat (l2.getD i4.toNat [])⟩ : zm).min))] ++ ([AV.any, AV.any, AV.any, AV.any, AV.any] ++ []))))))), (li (min i3 (zKK .xor .i64 i3 ((1 : Int) * 2 ^ i4.toNat)))), (li (i4 + 1))], (AV.lit (.bool x3)), [], Tryz.func86, rfl, by kernel_rfl, (.fn 86), (zAF (zz rfl hc9) (zAF (zz rfl hc9) (zAF (zz rfl hc9) rfl))), ⟨zAt.nr rfl, zAt.nr rfl, zAt.nr rfl, trivial⟩, zEe (zo hc9 hx3), .inl rfl, rfl⟩) <| zU rfl rfl (fun hc10 => zj.step (zA8 (t := x3) (zz rfl hc10))) <| zA (zZ rfl rfl) <| zF ?_
    refine zQ ((!x2.2) || (!x3)) rfl (fun hb10 => ?_) (fun hb10 => ?_)
    ·replace h := zo hb10 h
     refine z8 ?_
     exact ⟨i3, i4, (zEO 5 [] l2 i4.toNat (l2.getD i4.toNat [])), zAE [0] rfl rfl (by kernel_rfl), h⟩
    ·replace h := zv hb10 h
     refine zR <| zI <| zY (zI1 (k := 0) (cs := ([(li a_p0.node)] ++ ([(li a_p0.kind)] ++ ([(li a_p0.start)] ++ ([(li a_p0.count)] ++ ([(li a_p0.min)] ++ ((cM 5 3 (5 : Int) (zEO 5 [] l2 i4.toNat (l2.getD i4.toNat []))) ++ []))))))) (hd := ([(li a_p0.node)] ++ [(li a_p0.kind)] ++ [(li a_p0.start)] ++ [(li a_p0.count)] ++ [(li a_p0.min)] ++ [])) (tl := ([])) (N := 5) (T := 3) (K := 5) (l := zEO 5 [] l2 i4.toNat (l2.getD i4.toNat [])) (i := i4) rfl rfl hb7 hb8) ?_
     have hb11 := (zH h).1
     replace h := (zH h).2
     have hb12 := (zH h).1
     replace h := (zH h).2
     show AW _ _ _ _ _ _ [.box 51 ([(li a_p0.node)] ++ ([(li a_p0.kind)] ++ ([(li a_p0.start)] ++ ([(li a_p0.count)] ++ ([(li a_p0.min)] ++ ((List.set (cM 5 3 (5 : Int) (zEO 5 [] l2 i4.toNat (l2.getD i4.toNat []))) i4.toNat (AV.hd 2)) ++ [])))))), .dead, .vec 3 1 (List.map cI ((zEO 5 [] l2 i4.toNat (l2.getD i4.toNat [])).getD i4.toNat []))]
     refine zAz (n := 88) (m := 1) [.head 0 1, .head 0 1, .head 0 0, .head 0 0, .head 0 0, .head 0 0, .head 0 0, .head 0 0, .head 0 0, .head 0 0, .head 0 0, .tail 0, .head 0 1, .head 0 1, .head 1 1, .tail 1] [11, 15] [(AV.ptr 0 0), (li i4), (AV.ptr 0 0), (li i4), (AV.ptr 0 0), (AV.ptr 0 5), (AV.ptr 0 (5 + i4.toNat * 1)), (AV.hd 2), (li x2.1), (li x2.1), (li (x2.1 + 1)), (AV.hd 3), (AV.ptr 0 0), (AV.ptr 0 5), (AV.ptr 0 (5 + i4.toNat * 1)), .any] [[.box 51 ([(li a_p0.node)] ++ ([(li a_p0.kind)] ++ ([(li a_p0.start)] ++ ([(li a_p0.count)] ++ ([(li a_p0.min)] ++ ((List.set (cM 5 3 (5 : Int) (zEO 5 [] l2 i4.toNat (l2.getD i4.toNat []))) i4.toNat (AV.hd 2)) ++ [])))))), .dead, .vec 3 1 (List.map cI ((zEO 5 [] l2 i4.toNat (l2.getD i4.toNat [])).getD i4.toNat []))], [.box 51 ([(li a_p0.node)] ++ ([(li a_p0.kind)] ++ ([(li a_p0.start)] ++ ([(li a_p0.count)] ++ ([(li a_p0.min)] ++ ((List.set (cM 5 3 (5 : Int) (zEO 5 [] l2 i4.toNat (l2.getD i4.toNat []))) i4.toNat (AV.hd 2)) ++ [])))))), .dead, .dead, .vec 3 1 (List.map cI (zRy ((zEO 5 [] l2 i4.toNat (l2.getD i4.toNat [])).getD i4.toNat []) x2.1))], [.box 51 ([(li a_p0.node)] ++ ([(li a_p0.kind)] ++ ([(li a_p0.start)] ++ ([(li a_p0.count)] ++ ([(li a_p0.min)] ++ ((List.set (cM 5 3 (5 : Int) (zEO 5 [] l2 i4.toNat (l2.getD i4.toNat []))) i4.toNat (AV.hd 3)) ++ [])))))), .dead, .dead, .vec 3 1 (List.map cI (zRy ((zEO 5 [] l2 i4.toNat (l2.getD i4.toNat [])).getD i4.toNat []) x2.1))]] (by kernel_rfl) (by kernel_rfl) ⟨⟨?_, ?_⟩, ⟨?_, ?_⟩, ?_, ?_, ?_, ?_, ?_, ?_, ?_, ?_, ?_, ?_, ⟨?_, ?_⟩, ⟨?_, ?_⟩, ?_, ?_, trivial⟩ ?_
     ·exact fun e s p => zt (zB (av := (AV.ptr 0 0)) (s 0 rfl)) ⟨fun _ => rfl, rfl⟩
     ·exact fun e s p => zt (zB (av := (AV.ptr 0 0)) (s 0 rfl)) ⟨fun _ => rfl, rfl⟩
     ·exact fun e s p => zt (zB (av := (li i4)) (s 2 rfl)) ⟨fun _ => rfl, rfl⟩
     ·exact fun e s p => zt (zB (av := (li i4)) (s 2 rfl)) ⟨fun _ => rfl, rfl⟩
     ·exact fun e s p => zt (zB (av := (AV.ptr 0 0)) (s 0 rfl)) ⟨fun _ => rfl, rfl⟩
     ·exact fun e s p => zt (zB (av := (li i4)) (s 2 rfl)) ⟨fun _ => rfl, rfl⟩
     ·exact fun e s p => zt (zAb p.1) ⟨fun _ => rfl, rfl⟩
     ·exact fun e s p => zt (zM (k := 0) (o := 0) (off := 5) Tryz.underlying51 rfl rfl Tryz.sizeOf49 p.1) ⟨fun _ => rfl, rfl⟩
     ·exact fun e s p => zt (zAL (m := 5) (s := 1) (i := i4) (k := 0) (o := 5) Tryz.underlying49 Tryz.sizeOf22 p.1 p.2.1 hb7) ⟨fun _ => rfl, rfl⟩
     ·exact fun e s p => zt (zEx (k := 0) (o := (5 + i4.toNat * 1)) (cs := ([(li a_p0.node)] ++ ([(li a_p0.kind)] ++ ([(li a_p0.start)] ++ ([(li a_p0.count)] ++ ([(li a_p0.min)] ++ ((List.set (cM 5 3 (5 : Int) (zEO 5 [] l2 i4.toNat (l2.getD i4.toNat []))) i4.toNat (AV.hd 2)) ++ []))))))) (hd := ([(li a_p0.node)] ++ [(li a_p0.kind)] ++ [(li a_p0.start)] ++ [(li a_p0.count)] ++ [(li a_p0.min)] ++ [])) (tl := ([])) (s := (cM 5 3 (5 : Int) (zEO 5 [] l2 i4.toNat (l2.getD i4.toNat [])))) (i := i4) (j := 2) Tryz.isAgg22 p.1 rfl rfl (congrArg (fun q => 5 + q) (Nat.mul_one _)) (zHj hb7)) ⟨fun _ => rfl, rfl⟩
     ·exact fun e s p => zt (zB (av := (li x2.1)) (s 7 rfl)) ⟨fun _ => rfl, rfl⟩
     ·exact fun e s p => zt (zB (av := (li x2.1)) (s 7 rfl)) ⟨fun _ => rfl, rfl⟩
     ·exact fun e s p => zt (ze (a := x2.1) (b := 1) p.1 rfl hb11) ⟨fun _ => rfl, rfl⟩
     ·
      intro e46 hs46 hp45
      refine zOl (k := 2) (l := (zEO 5 [] l2 i4.toNat (l2.getD i4.toNat [])).getD i4.toNat []) (i := x2.1) (q := x2.1 + 1) (fun a b => zR8 a b) Tryz.func130 rfl (by kernel_rfl) hp45.1 rfl hp45.2.1 hp45.2.2.1 hb12 ?_
      exact zF ⟨fun _ => rfl, rfl⟩
     ·exact fun e s p => zt (zAb p.1) ⟨fun _ => rfl, rfl⟩
     ·exact fun e s p => zt (zAb p.1) ⟨fun _ => rfl, rfl⟩
     ·exact fun e s p => zt (zM (k := 0) (o := 0) (off := 5) Tryz.underlying51 rfl rfl Tryz.sizeOf49 p.1) ⟨fun _ => rfl, rfl⟩
     ·exact fun e s p => zt (zM (k := 0) (o := 0) (off := 5) Tryz.underlying51 rfl rfl Tryz.sizeOf49 p.1) ⟨fun _ => rfl, rfl⟩
     ·exact fun e s p => zt (zAL (m := 5) (s := 1) (i := i4) (k := 0) (o := 5) Tryz.underlying49 Tryz.sizeOf22 p.1 p.2.2.2.1 hb7) ⟨fun _ => rfl, rfl⟩
     ·
      intro e52 hs52 hp51
      refine zx (H' := [.box 51 ([(li a_p0.node)] ++ ([(li a_p0.kind)] ++ ([(li a_p0.start)] ++ ([(li a_p0.count)] ++ ([(li a_p0.min)] ++ ((List.set (cM 5 3 (5 : Int) (zEO 5 [] l2 i4.toNat (l2.getD i4.toNat []))) i4.toNat (AV.hd 3)) ++ [])))))), .dead, .dead, .vec 3 1 (List.map cI (zRy ((zEO 5 [] l2 i4.toNat (l2.getD i4.toNat [])).getD i4.toNat []) x2.1))]) (zHi (k := 0) (o := (5 + i4.toNat * 1)) (cs := ([(li a_p0.node)] ++ ([(li a_p0.kind)] ++ ([(li a_p0.start)] ++ ([(li a_p0.count)] ++ ([(li a_p0.min)] ++ ((List.set (cM 5 3 (5 : Int) (zEO 5 [] l2 i4.toNat (l2.getD i4.toNat []))) i4.toNat (AV.hd 2)) ++ []))))))) (hd := ([(li a_p0.node)] ++ [(li a_p0.kind)] ++ [(li a_p0.start)] ++ [(li a_p0.count)] ++ [(li a_p0.min)] ++ [])) (tl := ([])) (s := (cM 5 3 (5 : Int) (zEO 5 [] l2 i4.toNat (l2.getD i4.toNat [])))) (i := i4) (a := (AV.hd 3)) Tryz.sizeOf22 (by exact hp51.1) rfl rfl (congrArg (fun q => 5 + q) (Nat.mul_one _)) (zHj hb7) (by exact hp51.2.2.2.2.2.2.2.2.2.2.2.2.2.2.1) rfl) ?_
      exact zF ⟨fun _ => rfl, rfl⟩
     intro e53 hs53 hq2
     refine zY (zBV (l := [(0, (AV.ptr 0 0)), (1, (li i3)), (2, (li i4)), (6, (li (zKK .xor .i64 i3 ((1 : Int) * 2 ^ i4.toNat))))]) ⟨(hs53 0 rfl), (hs53 1 rfl), (hs53 2 rfl), (hs53 6 rfl), trivial⟩) <| zI <| zC <| zA (zB (av := (li i3)) rfl) <| zA (zB (av := (li (zKK .xor .i64 i3 ((1 : Int) * 2 ^ i4.toNat)))) rfl) <| zA (zMK (a := i3) (b := zKK .xor .i64 i3 ((1 : Int) * 2 ^ i4.toNat)) rfl rfl) ?_
     refine zA (zD rfl) <| zF <| zC <| zA (zB rfl) ?_
     have hb13 := (zH h).1
     replace h := (zH h).2
     refine zA (ze rfl rfl hb13) <| zA (zD rfl) <| zF ?_
     exact ⟨(n0, (min i3 (zKK .xor .i64 i3 ((1 : Int) * 2 ^ i4.toNat))), (i4 + 1), (zEO 5 [] (zEO 5 [] l2 i4.toNat (l2.getD i4.toNat [])) i4.toNat (zRy ((zEO 5 [] l2 i4.toNat (l2.getD i4.toNat [])).getD i4.toNat []) x2.1))), Nat.lt_succ_self _, Rep.trans (zJS (j := 3) (l' := zRy ((zEO 5 [] l2 i4.toNat (l2.getD i4.toNat [])).getD i4.toNat []) x2.1) (k := 0) (cs := ([(li a_p0.node)] ++ ([(li a_p0.kind)] ++ ([(li a_p0.start)] ++ ([(li a_p0.count)] ++ ([(li a_p0.min)] ++ ((List.set (cM 5 3 (5 : Int) (zEO 5 [] l2 i4.toNat (l2.getD i4.toNat []))) i4.toNat (AV.hd 3)) ++ []))))))) (hd := ([(li a_p0.node)] ++ [(li a_p0.kind)] ++ [(li a_p0.start)] ++ [(li a_p0.count)] ++ [(li a_p0.min)] ++ [])) (tl := ([])) (N := 5) (T := 3) (K := 5) (l := zEO 5 [] l2 i4.toNat (l2.getD i4.toNat [])) (i := i4) rfl rfl hb7 hb8 rfl rfl) (zAE [0] (l := [(0, (AV.ptr 0 0)), (1, (li (min i3 (zKK .xor .i64 i3 ((1 : Int) * 2 ^ i4.toNat))))), (2, (li (i4 + 1)))]) rfl rfl (by kernel_rfl)), h⟩
   ·replace h := zv hb4 h
    refine z8 ?_
    exact ⟨i3, i4, l2, zAE [0] rfl rfl (by kernel_rfl), h⟩
 ·
  clear h
  rintro e' H' ⟨i1, i2, l1, hrep, h⟩
  refine zY hrep ?_
  clear hrep
  unfold zHo at h
  refine zI <| zC <| zA (zB rfl) <| zA (zB rfl) <| zA (zAb rfl) <| zA (zM Tryz.underlying51 rfl rfl Tryz.sizeOf49 rfl) ?_
  have hb1 := (zH h).1
  replace h := (zH h).2
  refine zA (zAL (m := 5) (s := 1) (i := i2) (k := 0) (o := 5) Tryz.underlying49 Tryz.sizeOf22 rfl rfl hb1) ?_
  have hb2 := (zH h).1
  replace h := (zH h).2
  refine zAe (zI1 (k := 0) (cs := ([(li a_p0.node)] ++ ([(li a_p0.kind)] ++ ([(li a_p0.start)] ++ ([(li a_p0.count)] ++ ([(li a_p0.min)] ++ ((cM 5 3 (5 : Int) l1) ++ []))))))) (hd := ([(li a_p0.node)] ++ [(li a_p0.kind)] ++ [(li a_p0.start)] ++ [(li a_p0.count)] ++ [(li a_p0.min)] ++ [])) (tl := ([])) (N := 5) (T := 3) (K := 5) (l := l1) (i := i2) rfl rfl hb1 hb2) <| zA (zEx (k := 0) (o := (5 + i2.toNat * 1)) (cs := ([(li a_p0.node)] ++ ([(li a_p0.kind)] ++ ([(li a_p0.start)] ++ ([(li a_p0.count)] ++ ([(li a_p0.min)] ++ ((List.set (cM 5 3 (5 : Int) l1) i2.toNat (AV.hd 1)) ++ []))))))) (hd := ([(li a_p0.node)] ++ [(li a_p0.kind)] ++ [(li a_p0.start)] ++ [(li a_p0.count)] ++ [(li a_p0.min)] ++ [])) (tl := ([])) (s := (cM 5 3 (5 : Int) l1)) (i := i2) (j := 1) Tryz.isAgg22 rfl rfl rfl (congrArg (fun q => 5 + q) (Nat.mul_one _)) (zHj hb1)) <| zA (zB rfl) ?_
  refine zP h ?_; clear h; intro x1 hx1 h
  refine zA3 (r' := (AV.tup [(li x1.1), (AV.lit (.bool x1.2))])) (la := [(AV.hd 1), (li i1)]) (la' := [(ls cI (l1.getD i2.toNat [])), (li i1)]) (r := (AV.tup [(li x1.1), (AV.lit (.bool x1.2))])) (S := [1]) Tryz.func87 rfl (by kernel_rfl) (.fn 87) rfl ⟨zIl (fun _ => rfl) rfl rfl, zAt.nr rfl, trivial⟩ (zAw hx1) (.inr rfl) rfl <| zA (zB rfl) <| zA (zl rfl rfl) <| zA (zl rfl rfl) <| zA (zD rfl) <| zA (zD rfl) ?_
  refine zF ?_
  have hb3 := (zH h).1
  replace h := (zH h).2
  show AW _ _ _ _ _ _ [.box 51 ([(li a_p0.node)] ++ ([(li a_p0.kind)] ++ ([(li a_p0.start)] ++ ([(li a_p0.count)] ++ ([(li a_p0.min)] ++ ((List.set (cM 5 3 (5 : Int) l1) i2.toNat (AV.hd 1)) ++ [])))))), .vec 3 1 (List.map cI (l1.getD i2.toNat []))]
  refine zAz (n := 88) (m := 1) [.head 0 2, .head 0 2, .head 0 1, .head 0 1, .head 0 1, .head 0 1, .head 0 1, .head 0 1, .head 0 1, .head 0 0, .tail 0, .tail 1, .head 0 2, .head 0 2, .head 2 2, .tail 2] [10, 11, 15] [(AV.ptr 0 0), (li i2), (AV.ptr 0 0), (li i2), (AV.ptr 0 0), (AV.ptr 0 5), (AV.ptr 0 (5 + i2.toNat * 1)), (AV.hd 1), (li x1.1), (li i1), (AV.hd 2), (AV.hd 3), (AV.ptr 0 0), (AV.ptr 0 5), (AV.ptr 0 (5 + i2.toNat * 1)), .any] [[.box 51 ([(li a_p0.node)] ++ ([(li a_p0.kind)] ++ ([(li a_p0.start)] ++ ([(li a_p0.count)] ++ ([(li a_p0.min)] ++ ((List.set (cM 5 3 (5 : Int) l1) i2.toNat (AV.hd 1)) ++ [])))))), .vec 3 1 (List.map cI (l1.getD i2.toNat []))], [.box 51 ([(li a_p0.node)] ++ ([(li a_p0.kind)] ++ ([(li a_p0.start)] ++ ([(li a_p0.count)] ++ ([(li a_p0.min)] ++ ((List.set (cM 5 3 (5 : Int) l1) i2.toNat (AV.hd 1)) ++ [])))))), .vec 3 1 (List.map cI (l1.getD i2.toNat [])), .vec 3 1 (List.map cI [i1])], [.box 51 ([(li a_p0.node)] ++ ([(li a_p0.kind)] ++ ([(li a_p0.start)] ++ ([(li a_p0.count)] ++ ([(li a_p0.min)] ++ ((List.set (cM 5 3 (5 : Int) l1) i2.toNat (AV.hd 1)) ++ [])))))), .dead, .vec 3 1 (List.map cI [i1]), .vec 3 1 (List.map cI (zOs (l1.getD i2.toNat []) x1.1 i1))], [.box 51 ([(li a_p0.node)] ++ ([(li a_p0.kind)] ++ ([(li a_p0.start)] ++ ([(li a_p0.count)] ++ ([(li a_p0.min)] ++ ((List.set (cM 5 3 (5 : Int) l1) i2.toNat (AV.hd 3)) ++ [])))))), .dead, .vec 3 1 (List.map cI [i1]), .vec 3 1 (List.map cI (zOs (l1.getD i2.toNat []) x1.1 i1))]] (by kernel_rfl) (by kernel_rfl) ⟨⟨?_, ?_, ?_⟩, ⟨?_, ?_, ?_⟩, ⟨?_, ?_⟩, ⟨?_, ?_⟩, ⟨?_, ?_⟩, ⟨?_, ?_⟩, ⟨?_, ?_⟩, ⟨?_, ?_⟩, ⟨?_, ?_⟩, ?_, ?_, ?_, ⟨?_, ?_, ?_⟩, ⟨?_, ?_, ?_⟩, ?_, ?_, trivial⟩ ?_
  ·exact fun e s p => zt (zB (av := (AV.ptr 0 0)) (s 0 rfl)) ⟨fun _ => rfl, rfl⟩
  ·exact fun e s p => zt (zB (av := (AV.ptr 0 0)) (s 0 rfl)) ⟨fun _ => rfl, rfl⟩
  ·exact fun e s p => zt (zB (av := (AV.ptr 0 0)) (s 0 rfl)) ⟨fun _ => rfl, rfl⟩
  ·exact fun e s p => zt (zB (av := (li i2)) (s 2 rfl)) ⟨fun _ => rfl, rfl⟩
  ·exact fun e s p => zt (zB (av := (li i2)) (s 2 rfl)) ⟨fun _ => rfl, rfl⟩
  ·exact fun e s p => zt (zB (av := (li i2)) (s 2 rfl)) ⟨fun _ => rfl, rfl⟩
  ·exact fun e s p => zt (zB (av := (AV.ptr 0 0)) (s 0 rfl)) ⟨fun _ => rfl, rfl⟩
  ·exact fun e s p => zt (zB (av := (AV.ptr 0 0)) (s 0 rfl)) ⟨fun _ => rfl, rfl⟩
  ·exact fun e s p => zt (zB (av := (li i2)) (s 2 rfl)) ⟨fun _ => rfl, rfl⟩
  ·exact fun e s p => zt (zB (av := (li i2)) (s 2 rfl)) ⟨fun _ => rfl, rfl⟩
  ·exact fun e s p => zt (zAb p.1) ⟨fun _ => rfl, rfl⟩
  ·exact fun e s p => zt (zAb p.1) ⟨fun _ => rfl, rfl⟩
  ·exact fun e s p => zt (zM (k := 0) (o := 0) (off := 5) Tryz.underlying51 rfl rfl Tryz.sizeOf49 p.1) ⟨fun _ => rfl, rfl⟩
  ·exact fun e s p => zt (zM (k := 0) (o := 0) (off := 5) Tryz.underlying51 rfl rfl Tryz.sizeOf49 p.1) ⟨fun _ => rfl, rfl⟩
  ·exact fun e s p => zt (zAL (m := 5) (s := 1) (i := i2) (k := 0) (o := 5) Tryz.underlying49 Tryz.sizeOf22 p.1 p.2.1 hb1) ⟨fun _ => rfl, rfl⟩
  ·exact fun e s p => zt (zAL (m := 5) (s := 1) (i := i2) (k := 0) (o := 5) Tryz.underlying49 Tryz.sizeOf22 p.1 p.2.1 hb1) ⟨fun _ => rfl, rfl⟩
  ·exact fun e s p => zt (zEx (k := 0) (o := (5 + i2.toNat * 1)) (cs := ([(li a_p0.node)] ++ ([(li a_p0.kind)] ++ ([(li a_p0.start)] ++ ([(li a_p0.count)] ++ ([(li a_p0.min)] ++ ((List.set (cM 5 3 (5 : Int) l1) i2.toNat (AV.hd 1)) ++ []))))))) (hd := ([(li a_p0.node)] ++ [(li a_p0.kind)] ++ [(li a_p0.start)] ++ [(li a_p0.count)] ++ [(li a_p0.min)] ++ [])) (tl := ([])) (s := (cM 5 3 (5 : Int) l1)) (i := i2) (j := 1) Tryz.isAgg22 p.1 rfl rfl (congrArg (fun q => 5 + q) (Nat.mul_one _)) (zHj hb1)) ⟨fun _ => rfl, rfl⟩
  ·exact fun e s p => zt (zEx (k := 0) (o := (5 + i2.toNat * 1)) (cs := ([(li a_p0.node)] ++ ([(li a_p0.kind)] ++ ([(li a_p0.start)] ++ ([(li a_p0.count)] ++ ([(li a_p0.min)] ++ ((List.set (cM 5 3 (5 : Int) l1) i2.toNat (AV.hd 1)) ++ []))))))) (hd := ([(li a_p0.node)] ++ [(li a_p0.kind)] ++ [(li a_p0.start)] ++ [(li a_p0.count)] ++ [(li a_p0.min)] ++ [])) (tl := ([])) (s := (cM 5 3 (5 : Int) l1)) (i := i2) (j := 1) Tryz.isAgg22 p.1 rfl rfl (congrArg (fun q => 5 + q) (Nat.mul_one _)) (zHj hb1)) ⟨fun _ => rfl, rfl⟩
  ·exact fun e s p => zt (zB (av := (li x1.1)) (s 9 rfl)) ⟨fun _ => rfl, rfl⟩
  ·exact fun e s p => zt (zB (av := (li x1.1)) (s 9 rfl)) ⟨fun _ => rfl, rfl⟩
  ·exact fun e s p => zt (zB (av := (li i1)) (s 1 rfl)) ⟨fun _ => rfl, rfl⟩
  ·
   intro e22 hs22 hp22
   refine zIR (a := (li i1)) zIj Tryz.underlying22 hp22.1 rfl rfl rfl ?_
   exact zF ⟨fun _ => rfl, rfl⟩
  ·
   intro e23 hs23 hp23
   refine zL2 (k := 1) (j := 2) (l := l1.getD i2.toNat []) (i := x1.1) (q := i1) (fun a b c d e => zPS a b c d e) Tryz.func119 rfl (by kernel_rfl) hp23.1 rfl hp23.2.1 hp23.2.2.1 rfl rfl hb3 ?_
   exact zF ⟨fun _ => rfl, rfl⟩
  ·exact fun e s p => zt (zAb p.1) ⟨fun _ => rfl, rfl⟩
  ·exact fun e s p => zt (zAb p.1) ⟨fun _ => rfl, rfl⟩
  ·exact fun e s p => zt (zAb p.1) ⟨fun _ => rfl, rfl⟩
  ·exact fun e s p => zt (zM (k := 0) (o := 0) (off := 5) Tryz.underlying51 rfl rfl Tryz.sizeOf49 p.1) ⟨fun _ => rfl, rfl⟩
  ·exact fun e s p => zt (zM (k := 0) (o := 0) (off := 5) Tryz.underlying51 rfl rfl Tryz.sizeOf49 p.1) ⟨fun _ => rfl, rfl⟩
  ·exact fun e s p => zt (zM (k := 0) (o := 0) (off := 5) Tryz.underlying51 rfl rfl Tryz.sizeOf49 p.1) ⟨fun _ => rfl, rfl⟩
  ·exact fun e s p => zt (zAL (m := 5) (s := 1) (i := i2) (k := 0) (o := 5) Tryz.underlying49 Tryz.sizeOf22 p.1 p.2.2.2.1 hb1) ⟨fun _ => rfl, rfl⟩
  ·
   intro e31 hs31 hp31
   refine zx (H' := [.box 51 ([(li a_p0.node)] ++ ([(li a_p0.kind)] ++ ([(li a_p0.start)] ++ ([(li a_p0.count)] ++ ([(li a_p0.min)] ++ ((List.set (cM 5 3 (5 : Int) l1) i2.toNat (AV.hd 3)) ++ [])))))), .dead, .vec 3 1 (List.map cI [i1]), .vec 3 1 (List.map cI (zOs (l1.getD i2.toNat []) x1.1 i1))]) (zHi (k := 0) (o := (5 + i2.toNat * 1)) (cs := ([(li a_p0.node)] ++ ([(li a_p0.kind)] ++ ([(li a_p0.start)] ++ ([(li a_p0.count)] ++ ([(li a_p0.min)] ++ ((List.set (cM 5 3 (5 : Int) l1) i2.toNat (AV.hd 1)) ++ []))))))) (hd := ([(li a_p0.node)] ++ [(li a_p0.kind)] ++ [(li a_p0.start)] ++ [(li a_p0.count)] ++ [(li a_p0.min)] ++ [])) (tl := ([])) (s := (cM 5 3 (5 : Int) l1)) (i := i2) (a := (AV.hd 3)) Tryz.sizeOf22 (by exact hp31.1) rfl rfl (congrArg (fun q => 5 + q) (Nat.mul_one _)) (zHj hb1) (by exact hp31.2.2.2.2.2.2.2.2.2.2.2.2.2.2.1) rfl) ?_
   exact zF ⟨fun _ => rfl, rfl⟩
  intro e32 hs32 hq1
  show zPF _ _ _ _ _ _ _ _
  obtain rfl := Option.some.inj h
  exact ⟨mkE [], [.box 51 ([(li a_p0.node)] ++ ([(li a_p0.kind)] ++ ([(li a_p0.start)] ++ ([(li a_p0.count)] ++ ([(li a_p0.min)] ++ ((cM 5 3 (5 : Int) (zEO 5 [] l1 i2.toNat (zOs (l1.getD i2.toNat []) x1.1 i1))) ++ []))))))], Rep.trans (zBV (l := []) trivial) (Rep.trans (zJS (j := 3) (l' := zOs (l1.getD i2.toNat []) x1.1 i1) (k := 0) (cs := ([(li a_p0.node)] ++ ([(li a_p0.kind)] ++ ([(li a_p0.start)] ++ ([(li a_p0.count)] ++ ([(li a_p0.min)] ++ ((List.set (cM 5 3 (5 : Int) l1) i2.toNat (AV.hd 3)) ++ []))))))) (hd := ([(li a_p0.node)] ++ [(li a_p0.kind)] ++ [(li a_p0.start)] ++ [(li a_p0.count)] ++ [(li a_p0.min)] ++ [])) (tl := ([])) (N := 5) (T := 3) (K := 5) (l := l1) (i := i2) rfl rfl hb1 hb2 rfl rfl) (zAE [0] (l := []) rfl rfl (by kernel_rfl))), zLP rfl⟩
theorem zMx {a_node : Int} {a_kind : Int} {a_start : Int} {a_count : Int} {a_least : Int} {r : zm × Int} (h : zLH a_node a_kind a_start a_count a_least = some r) : PFn Tryz.prog 81 [(li a_node), (li a_kind), (li a_start), (li a_count), (li a_least)] (AV.tup [(AV.agg (zO r.1)), (li r.2)]) := by
 refine zi Tryz.func81 rfl Tryz.ntmps81 Tryz.results81 rfl ?_
 unfold zLH at h
 refine zI <| zC <| zb (H' := [.box 51 ([(li 0)] ++ ([(li 0)] ++ ([(li 0)] ++ ([(li 0)] ++ ([(li 0)] ++ ((cA 5 (eS cI) ([] : List Int) (List.replicate 5 ([] : List Int))) ++ []))))))]) (z6 (t := 51) (vs := [.int .i64 0, .int .i64 0, .int .i64 0, .int .i64 0, .int .i64 0, .slice none 0 0, .slice none 0 0, .slice none 0 0, .slice none 0 0, .slice none 0 0]) (cs := [.lit (.int .i64 0), .lit (.int .i64 0), .lit (.int .i64 0), .lit (.int .i64 0), .lit (.int .i64 0), .sl false [], .sl false [], .sl false [], .sl false [], .sl false []]) Tryz.zeroValue51 (by kernel_rfl) rfl ⟨zq.refl _, zq.refl _, zq.refl _, zq.refl _, zq.refl _, zq.nils, zq.nils, zq.nils, zq.nils, zq.nils, trivial⟩) <| zA (zD rfl) <| zF <| zI ?_
 refine zC <| zA (zB rfl) <| zA (zB rfl) <| zA (zB rfl) <| zA (zB rfl) <| zA (zB rfl) ?_
 refine zA (zAD (pl := [(0, 1), (1, 1), (2, 1), (3, 1), (4, 1), (5, 5)]) (zs := [.int .i64 0, .int .i64 0, .int .i64 0, .int .i64 0, .int .i64 0, .slice none 0 0, .slice none 0 0, .slice none 0 0, .slice none 0 0, .slice none 0 0]) (zc := [.lit (.int .i64 0), .lit (.int .i64 0), .lit (.int .i64 0), .lit (.int .i64 0), .lit (.int .i64 0), .osl 3 1 [], .osl 3 1 [], .osl 3 1 [], .osl 3 1 [], .osl 3 1 []]) (res := ([(li a_node)] ++ ([(li a_kind)] ++ ([(li a_start)] ++ ([(li a_count)] ++ ([(li a_least)] ++ ((cM 5 3 (5 : Int) (List.replicate 5 ([] : List Int))) ++ []))))))) (fun _ => by kernel_rfl) rfl (⟨zq.refl _, ⟨zq.refl _, ⟨zq.refl _, ⟨zq.refl _, ⟨zq.refl _, ⟨zq.nilo, ⟨zq.nilo, ⟨zq.nilo, ⟨zq.nilo, ⟨zq.nilo, trivial⟩⟩⟩⟩⟩⟩⟩⟩⟩⟩) ⟨(li a_node), 0, 1, rfl, rfl, rfl, rfl, rfl, ⟨(li a_kind), 1, 1, rfl, rfl, rfl, rfl, rfl, ⟨(li a_start), 2, 1, rfl, rfl, rfl, rfl, rfl, ⟨(li a_count), 3, 1, rfl, rfl, rfl, rfl, rfl, ⟨(li a_least), 4, 1, rfl, rfl, rfl, rfl, rfl, (by exact zGB.refl _)⟩⟩⟩⟩⟩) <| zb (H' := [.box 51 ([(li 0)] ++ ([(li 0)] ++ ([(li 0)] ++ ([(li 0)] ++ ([(li 0)] ++ ((cA 5 (eS cI) ([] : List Int) (List.replicate 5 ([] : List Int))) ++ [])))))), .box 51 ([(li 0)] ++ ([(li 0)] ++ ([(li 0)] ++ ([(li 0)] ++ ([(li 0)] ++ ((cA 5 (eS cI) ([] : List Int) (List.replicate 5 ([] : List Int))) ++ []))))))]) (z6 (t := 51) (vs := [.int .i64 0, .int .i64 0, .int .i64 0, .int .i64 0, .int .i64 0, .slice none 0 0, .slice none 0 0, .slice none 0 0, .slice none 0 0, .slice none 0 0]) (cs := [.lit (.int .i64 0), .lit (.int .i64 0), .lit (.int .i64 0), .lit (.int .i64 0), .lit (.int .i64 0), .sl false [], .sl false [], .sl false [], .sl false [], .sl false []]) Tryz.zeroValue51 (by kernel_rfl) rfl ⟨zq.refl _, zq.refl _, zq.refl _, zq.refl _, zq.refl _, zq.nils, zq.nils, zq.nils, zq.nils, zq.nils, trivial⟩) <| zx (H' := [.box 51 ([(li 0)] ++ ([(li 0)] ++ ([(li 0)] ++ ([(li 0)] ++ ([(li 0)] ++ ((cA 5 (eS cI) ([] : List Int) (List.replicate 5 ([] : List Int))) ++ [])))))), .box 51 ([(li a_node)] ++ ([(li a_kind)] ++ ([(li a_start)] ++ ([(li a_count)] ++ ([(li a_least)] ++ ((cM 5 3 (5 : Int) (List.replicate 5 ([] : List Int))) ++ []))))))]) (zh (k := 1) (o := 0) (cs := ([(li 0)] ++ ([(li 0)] ++ ([(li 0)] ++ ([(li 0)] ++ ([(li 0)] ++ ((cA 5 (eS cI) ([] : List Int) (List.replicate 5 ([] : List Int))) ++ []))))))) (la := ([(li a_node)] ++ ([(li a_kind)] ++ ([(li a_start)] ++ ([(li a_count)] ++ ([(li a_least)] ++ ((cM 5 3 (5 : Int) (List.replicate 5 ([] : List Int))) ++ []))))))) Tryz.sizeOf51 rfl rfl rfl rfl) <| zF <| zI <| zI ?_
 refine zC <| zA (zL6 (k := 1) (o := 0) (m := 10) (la := ([(li a_node)] ++ ([(li a_kind)] ++ ([(li a_start)] ++ ([(li a_count)] ++ ([(li a_least)] ++ ([AV.any, AV.any, AV.any, AV.any, AV.any] ++ []))))))) Tryz.isAgg51 Tryz.sizeOf51 rfl rfl rfl rfl) ?_
 refine zP h ?_; clear h; intro x1 hx1 h
 refine zA3 (r' := (AV.lit (.bool x1))) (la := [(AV.agg ([(li a_node)] ++ ([(li a_kind)] ++ ([(li a_start)] ++ ([(li a_count)] ++ ([(li a_least)] ++ ([AV.any, AV.any, AV.any, AV.any, AV.any] ++ [])))))))]) (la' := [(AV.agg ([(li ((⟨a_node, a_kind, a_start, a_count, a_least, (List.replicate 5 ([] : List Int))⟩ : zm).node))] ++ ([(li ((⟨a_node, a_kind, a_start, a_count, a_least, (List.replicate 5 ([] : List Int))⟩ : zm).kind))] ++ ([(li ((⟨a_node, a_kind, a_start, a_count, a_least, (List.replicate 5 ([] : List Int))⟩ : zm).start))] ++ ([(li ((⟨a_node, a_kind, a_start, a_count, a_least, (List.replicate 5 ([] : List Int))⟩ : zm).count))] ++ ([(li ((⟨a_node, a_kind, a_start, a_count, a_least, (List.replicate 5 ([] : List Int))⟩ : zm).min))] ++ ([AV.any, AV.any, AV.any, AV.any, AV.any] ++ [])))))))]) (r := (AV.lit (.bool x1))) (S := []) Tryz.func85 rfl (by kernel_rfl) (.fn 85) rfl ⟨zAt.nr rfl, trivial⟩ (zJL hx1) (.inl rfl) rfl <| zA (zA8 (t := x1) rfl) <| zF ?_
 refine zQ (!x1) rfl (fun hb1 => ?_) (fun hb1 => ?_)
 ·replace h := zo hb1 h
  refine zI <| zC <| zA (zAD (pl := [(0, 1), (1, 1), (2, 1), (3, 1), (4, 1), (5, 5)]) (zs := [.int .i64 0, .int .i64 0, .int .i64 0, .int .i64 0, .int .i64 0, .slice none 0 0, .slice none 0 0, .slice none 0 0, .slice none 0 0, .slice none 0 0]) (zc := [.lit (.int .i64 0), .lit (.int .i64 0), .lit (.int .i64 0), .lit (.int .i64 0), .lit (.int .i64 0), .osl 3 1 [], .osl 3 1 [], .osl 3 1 [], .osl 3 1 [], .osl 3 1 []]) (res := ([(li 0)] ++ ([(li 0)] ++ ([(li 0)] ++ ([(li 0)] ++ ([(li 0)] ++ ((cM 5 3 (5 : Int) (List.replicate 5 ([] : List Int))) ++ []))))))) (fun _ => by kernel_rfl) rfl (⟨zq.refl _, ⟨zq.refl _, ⟨zq.refl _, ⟨zq.refl _, ⟨zq.refl _, ⟨zq.nilo, ⟨zq.nilo, ⟨zq.nilo, ⟨zq.nilo, ⟨zq.nilo, trivial⟩⟩⟩⟩⟩⟩⟩⟩⟩⟩) (by exact zGB.refl _)) <| zx (H' := [.box 51 ([(li 0)] ++ ([(li 0)] ++ ([(li 0)] ++ ([(li 0)] ++ ([(li 0)] ++ ((cM 5 3 (5 : Int) (List.replicate 5 ([] : List Int))) ++ [])))))), .box 51 ([(li a_node)] ++ ([(li a_kind)] ++ ([(li a_start)] ++ ([(li a_count)] ++ ([(li a_least)] ++ ((cM 5 3 (5 : Int) (List.replicate 5 ([] : List Int))) ++ []))))))]) (zh (k := 0) (o := 0) (cs := ([(li 0)] ++ ([(li 0)] ++ ([(li 0)] ++ ([(li 0)] ++ ([(li 0)] ++ ((cA 5 (eS cI) ([] : List Int) (List.replicate 5 ([] : List Int))) ++ []))))))) (la := ([(li 0)] ++ ([(li 0)] ++ ([(li 0)] ++ ([(li 0)] ++ ([(li 0)] ++ ((cM 5 3 (5 : Int) (List.replicate 5 ([] : List Int))) ++ []))))))) Tryz.sizeOf51 rfl rfl rfl rfl) <| zA (zD rfl) <| zF ?_
  refine zY (zJu (k := 0) (cs := ([(li 0)] ++ ([(li 0)] ++ ([(li 0)] ++ ([(li 0)] ++ ([(li 0)] ++ ((cM 5 3 (5 : Int) (List.replicate 5 ([] : List Int))) ++ []))))))) (hd := ([(li 0)] ++ [(li 0)] ++ [(li 0)] ++ [(li 0)] ++ [(li 0)] ++ [])) (tl := ([])) (N := 5) (T := 3) (K := 5) (l := (List.replicate 5 ([] : List Int))) rfl rfl) <| za ?_
  show zAS _ _ _ _ _ _
  obtain rfl := Option.some.inj h
  exact zC1 (zHH Tryz.isAgg51 Tryz.sizeOf51 rfl rfl rfl rfl) (zAK rfl rfl) rfl
 ·replace h := zv hb1 h
  refine zR ?_
  refine z5 (fun e' H' => ∃ (d1 : Int) (d2 : Int) (d3 : Int) (d4 : Int) (d5 : Int) (l1 : List (List Int)), Rep 35 0 e' H' (mkE [(10, (AV.ptr 0 0)), (12, (AV.ptr 1 0))]) [.box 51 ([(li 0)] ++ ([(li 0)] ++ ([(li 0)] ++ ([(li 0)] ++ ([(li 0)] ++ ((cA 5 (eS cI) ([] : List Int) (List.replicate 5 ([] : List Int))) ++ [])))))), .box 51 ([(li d1)] ++ ([(li d2)] ++ ([(li d3)] ++ ([(li d4)] ++ ([(li d5)] ++ ((cM 5 3 (5 : Int) l1) ++ []))))))] ∧ zJE d1 d2 d3 d4 d5 l1 = some r) ?_ ?_
  ·
   refine zI <| zC <| zA (zB rfl) <| zA (zD rfl) <| zF <| zS ?_
   refine z9 (σ := Nat × Int × Int × Int × Int × Int × Int × (List (List Int))) (fun s => s.1) (fun s e' H' => match s with | (n0, i1, d6, d7, d8, d9, d10, l2) => Rep 35 0 e' H' (mkE [(2, (li a_start)), (3, (li a_count)), (10, (AV.ptr 0 0)), (12, (AV.ptr 1 0)), (13, (li i1))]) [.box 51 ([(li 0)] ++ ([(li 0)] ++ ([(li 0)] ++ ([(li 0)] ++ ([(li 0)] ++ ((cA 5 (eS cI) ([] : List Int) (List.replicate 5 ([] : List Int))) ++ [])))))), .box 51 ([(li d6)] ++ ([(li d7)] ++ ([(li d8)] ++ ([(li d9)] ++ ([(li d10)] ++ ((cM 5 3 (5 : Int) l2) ++ []))))))] ∧ zHn a_start a_count n0 i1 d6 d7 d8 d9 d10 l2 = some r) (zAC, a_start, a_node, a_kind, a_start, a_count, a_least, (List.replicate 5 ([] : List Int))) ⟨zAE [0, 1] rfl rfl (by kernel_rfl), h⟩ ?_
   clear h
   rintro ⟨n0, i1, d6, d7, d8, d9, d10, l2⟩ e' H' ⟨hrep, h⟩
   cases n0 with
   | zero => exact absurd (show (none : Option _) = some r from h) (by simp)
   | succ n0 =>
    replace h : zI0 a_start a_count (zHn a_start a_count n0) i1 d6 d7 d8 d9 d10 l2 = some r := h
    unfold zI0 at h
    refine zY hrep ?_
    clear hrep
    refine zI <| zI <| zC <| zA (zB rfl) <| zA (zB rfl) <| zA (zB rfl) ?_
    have hb2 := (zH h).1
    replace h := (zH h).2
    refine zA (ze rfl rfl hb2) <| zA (zf rfl rfl) <| zF ?_
    refine zQ (decide (i1 < (a_start + a_count))) rfl (fun hb3 => ?_) (fun hb3 => ?_)
    ·replace h := zo hb3 h
     refine zR <| zI <| zS <| zC <| zA (zB rfl) ?_
     refine zP h ?_; clear h; intro x2 hx2 h
     refine zD2 (k := 1) (la := [(AV.ptr 1 0), (li i1), (li 0)]) (la' := [(AV.ptr 0 0), (li i1), (li 0)]) (r := (.tup [])) (S := []) (en' := .box 51 ([(li x2.node)] ++ ([(li x2.kind)] ++ ([(li x2.start)] ++ ([(li x2.count)] ++ ([(li x2.min)] ++ ((cM 5 3 (5 : Int) x2.free) ++ []))))))) Tryz.func125 rfl (by kernel_rfl) (.fn 125) rfl ⟨zCn.ptr, zCn.of (zAt.nr rfl), zCn.of (zAt.nr rfl), trivial⟩ rfl rfl (by kernel_rfl) (by kernel_rfl) (zKl hx2) rfl (.inl rfl) <| zF <| zC <| zA (zB rfl) ?_
     have hb4 := (zH h).1
     replace h := (zH h).2
     refine zA (ze rfl rfl hb4) <| zA (zD rfl) <| zF ?_
     exact ⟨(n0, (i1 + 1), x2.node, x2.kind, x2.start, x2.count, x2.min, x2.free), Nat.lt_succ_self _, zAE [0, 1] rfl rfl (by kernel_rfl), h⟩
    ·replace h := zv hb3 h
     refine z8 ?_
     exact ⟨d6, d7, d8, d9, d10, l2, zAE [0, 1] rfl rfl (by kernel_rfl), h⟩
  ·
   clear h
   rintro e' H' ⟨d1, d2, d3, d4, d5, l1, hrep, h⟩
   refine zY hrep ?_
   clear hrep
   unfold zJE at h
   refine zI <| zC <| zAe (zJu (k := 1) (cs := ([(li d1)] ++ ([(li d2)] ++ ([(li d3)] ++ ([(li d4)] ++ ([(li d5)] ++ ((cM 5 3 (5 : Int) l1) ++ []))))))) (hd := ([(li d1)] ++ [(li d2)] ++ [(li d3)] ++ [(li d4)] ++ [(li d5)] ++ [])) (tl := ([])) (N := 5) (T := 3) (K := 5) (l := l1) rfl rfl) <| zA (zT (k := 1) (o := 0) (m := 10) Tryz.isAgg51 Tryz.sizeOf51 rfl rfl rfl rfl rfl) <| zx (H' := [.box 51 (zO (⟨d1, d2, d3, d4, d5, l1⟩ : zm)), .box 51 ([(li d1)] ++ ([(li d2)] ++ ([(li d3)] ++ ([(li d4)] ++ ([(li d5)] ++ ((cA 5 (eS cI) ([] : List Int) l1) ++ []))))))]) (zh (k := 0) (o := 0) (cs := ([(li 0)] ++ ([(li 0)] ++ ([(li 0)] ++ ([(li 0)] ++ ([(li 0)] ++ ((cA 5 (eS cI) ([] : List Int) (List.replicate 5 ([] : List Int))) ++ []))))))) (la := (zO (⟨d1, d2, d3, d4, d5, l1⟩ : zm))) Tryz.sizeOf51 rfl rfl rfl rfl) <| zA (zD rfl) ?_
   refine zF <| za ?_
   show zAS _ _ _ _ _ _
   obtain rfl := Option.some.inj h
   exact zC1 (zHH Tryz.isAgg51 Tryz.sizeOf51 rfl rfl rfl rfl) (zAK rfl rfl) rfl
theorem zMF {a_zones : Int} {r : zK × Int} (h : zKY a_zones = some r) : PFn Tryz.prog 82 [(li a_zones)] (AV.tup [(AV.agg (zG r.1)), (li r.2)]) := by
 refine zi Tryz.func82 rfl Tryz.ntmps82 Tryz.results82 rfl ?_
 unfold zKY at h
 refine zI <| zC <| zb (H' := [.box 55 ([(ls (cS cI) ([] : List (List Int)))] ++ [])]) (z6 (t := 55) (vs := [.slice none 0 0]) (cs := [.sl false []]) Tryz.zeroValue55 (by kernel_rfl) rfl ⟨zq.nils, trivial⟩) <| zA (zD rfl) <| zF <| zI ?_
 refine zI <| zC <| zA (zB rfl) <| zA (zf rfl rfl) <| zA (zB rfl) <| zU rfl rfl (fun hc1 => zj.step (zB rfl)) ?_
 refine zU rfl rfl (fun hc2 => zj.step (zAp (zz rfl hc2) rfl)) <| zA (zZ rfl rfl) <| zF ?_
 refine zQ ((decide (a_zones < 1)) || (decide (6 < a_zones))) rfl (fun hb1 => ?_) (fun hb1 => ?_)
 ·replace h := zo hb1 h
  refine zI <| zC <| zA (zAD (pl := [(0, 1)]) (zs := [.slice none 0 0]) (zc := [.sl false []]) (res := (zG (⟨([] : List (List Int))⟩ : zK))) (fun _ => by kernel_rfl) rfl (⟨zq.nils, trivial⟩) (by exact zGB.refl _)) <| zx (H' := [.box 55 (zG (⟨([] : List (List Int))⟩ : zK))]) (zh (k := 0) (o := 0) (cs := ([(ls (cS cI) ([] : List (List Int)))] ++ [])) (la := (zG (⟨([] : List (List Int))⟩ : zK))) Tryz.sizeOf55 rfl rfl rfl rfl) <| zA (zD rfl) <| zF ?_
  refine za ?_
  show zAS _ _ _ _ _ _
  obtain rfl := Option.some.inj h
  exact zC1 (zHH Tryz.isAgg55 Tryz.sizeOf55 rfl rfl rfl rfl) (zAK rfl rfl) rfl
 ·replace h := zv hb1 h
  refine zR <| zI <| zC <| zA (zB rfl) ?_
  have hb2 := (zH h).1
  replace h := (zH h).2
  refine zDy (f := (cS cI)) (a := a_zones) (c := a_zones) (d0 := ([] : List Int)) zNr ⟨zq.nils, trivial⟩ rfl Tryz.underlying53 rfl rfl hb2 <| zA (zAD (pl := [(0, 1)]) (zs := [.slice none 0 0]) (zc := [.sl false []]) (res := ([AV.hd 1] ++ [])) (fun _ => by kernel_rfl) rfl (⟨zq.nils, trivial⟩) ⟨(AV.hd 1), 0, 1, rfl, rfl, rfl, rfl, rfl, (by exact zGB.refl _)⟩) <| zx (H' := [.box 55 ([AV.hd 1] ++ []), .vec 22 1 (List.map (cS cI) (List.replicate a_zones.toNat ([] : List Int)))]) (zh (k := 0) (o := 0) (cs := ([(ls (cS cI) ([] : List (List Int)))] ++ [])) (la := ([AV.hd 1] ++ [])) Tryz.sizeOf55 rfl rfl rfl rfl) <| zA (zD rfl) <| zF <| zY (zAP (k := 0) (j := 1) (o := 0) rfl rfl rfl rfl) ?_
  refine zY (zCL (k := 0) (o := 0) (rows' := List.map (cS cI) (List.replicate a_zones.toNat ([] : List Int))) rfl rfl (zAa (fun _ => rfl))) <| za ?_
  show zAS _ _ _ _ _ _
  obtain rfl := Option.some.inj h
  exact zC1 (zHH Tryz.isAgg55 Tryz.sizeOf55 rfl rfl rfl rfl) (zAK rfl rfl) rfl
theorem zKu {a_p0 : List Int} {a_p1 : Int} {a_p2 : Int} {a_p3 : List zBo} {r : zL × Int} (h : zFd a_p0 a_p1 a_p2 a_p3 = some r) : PFn Tryz.prog 36 [(ls cI a_p0), (li a_p1), (li a_p2), (ls zAQ a_p3)] (AV.tup [(AV.agg (zJ r.1)), (li r.2)]) := by
 refine zi Tryz.func36 rfl Tryz.ntmps36 Tryz.results36 rfl ?_
 unfold zFd at h
 refine zI <| zC <| zb (H' := [.box 26 ([(ls cI ([] : List Int))] ++ ([(li 0)] ++ ([(li 0)] ++ ([(ls zO ([] : List zm))] ++ ([(ls zG ([] : List zK))] ++ [])))))]) (z6 (t := 26) (vs := [.slice none 0 0, .int .i64 0, .int .i64 0, .slice none 0 0, .slice none 0 0]) (cs := [.sl false [], .lit (.int .i64 0), .lit (.int .i64 0), .sl false [], .sl false []]) Tryz.zeroValue26 (by kernel_rfl) rfl ⟨zq.nils, zq.refl _, zq.refl _, zq.nils, zq.nils, trivial⟩) <| zA (zD rfl) <| zF ?_
 refine z5 (fun e' H' => ∃ (d1 : List Int), Rep 82 0 e' H' (mkE [(0, (ls cI a_p0)), (3, (ls zAQ a_p3)), (8, (AV.ptr 0 0)), (10, (AV.ptr 1 0))]) [.box 26 ([(ls cI ([] : List Int))] ++ ([(li 0)] ++ ([(li 0)] ++ ([(ls zO ([] : List zm))] ++ ([(ls zG ([] : List zK))] ++ []))))), .box 26 ([(ls cI d1)] ++ ([(li a_p1)] ++ ([(li a_p2)] ++ ([AV.osl 51 10 (List.map zO (List.replicate (a_p3.length : Int).toNat (zIu)))] ++ ([AV.osl 55 1 (List.map zG ([] : List zK))] ++ [])))))] ∧ zG1 a_p0 a_p1 a_p2 a_p3 d1 = some r) ?_ ?_
 ·
  refine zP h ?_; clear h; intro x4 hx4 h
  have hb11 := (zH h).1
  replace h := (zH h).2
  show AW _ _ _ _ _ _ [.box 26 ([(ls cI ([] : List Int))] ++ ([(li 0)] ++ ([(li 0)] ++ ([(ls zO ([] : List zm))] ++ ([(ls zG ([] : List zK))] ++ [])))))]
  refine zP8 (n := 82) (m := 0) 6 8 [9] [6, 7, 8] [.head 0 2, .head 0 2, .head 0 2, .head 0 2, .head 0 0, .head 0 0, .tail 0, .head 1 2, .tail 1, .tail 2] [.head 0 2, .head 0 2, .head 0 2, .head 0 2, .head 0 1, .head 0 1, .tail 1, .head 2 2, .tail 0, .tail 2] [(ls cI a_p0), (ls cI x4), (li a_p1), (li a_p2), (ls zAQ a_p3), (li (a_p3.length : Int)), (AV.hd 1), (AV.agg ([(ls cI x4)] ++ ([(li a_p1)] ++ ([(li a_p2)] ++ ([AV.hd 1] ++ ([AV.osl 55 1 (List.map zG ([] : List zK))] ++ [])))))), (AV.ptr 2 0), .any] [(ls cI a_p0), (ls cI x4), (li a_p1), (li a_p2), (ls zAQ a_p3), (li (a_p3.length : Int)), (AV.hd 2), (AV.agg ([(ls cI x4)] ++ ([(li a_p1)] ++ ([(li a_p2)] ++ ([AV.hd 2] ++ ([AV.osl 55 1 (List.map zG ([] : List zK))] ++ [])))))), (AV.ptr 1 0), .any] [[.box 26 ([(ls cI ([] : List Int))] ++ ([(li 0)] ++ ([(li 0)] ++ ([(ls zO ([] : List zm))] ++ ([(ls zG ([] : List zK))] ++ [])))))], [.box 26 ([(ls cI ([] : List Int))] ++ ([(li 0)] ++ ([(li 0)] ++ ([(ls zO ([] : List zm))] ++ ([(ls zG ([] : List zK))] ++ []))))), .vec 51 10 (List.map zO (List.replicate (a_p3.length : Int).toNat (zIu)))], [.box 26 ([(ls cI ([] : List Int))] ++ ([(li 0)] ++ ([(li 0)] ++ ([(ls zO ([] : List zm))] ++ ([(ls zG ([] : List zK))] ++ []))))), .vec 51 10 (List.map zO (List.replicate (a_p3.length : Int).toNat (zIu))), .box 26 ([(ls cI ([] : List Int))] ++ ([(li 0)] ++ ([(li 0)] ++ ([(ls zO ([] : List zm))] ++ ([(ls zG ([] : List zK))] ++ [])))))], [.box 26 ([(ls cI ([] : List Int))] ++ ([(li 0)] ++ ([(li 0)] ++ ([(ls zO ([] : List zm))] ++ ([(ls zG ([] : List zK))] ++ []))))), .vec 51 10 (List.map zO (List.replicate (a_p3.length : Int).toNat (zIu))), .box 26 ([(ls cI x4)] ++ ([(li a_p1)] ++ ([(li a_p2)] ++ ([AV.hd 1] ++ ([AV.osl 55 1 (List.map zG ([] : List zK))] ++ [])))))]] [[.box 26 ([(ls cI ([] : List Int))] ++ ([(li 0)] ++ ([(li 0)] ++ ([(ls zO ([] : List zm))] ++ ([(ls zG ([] : List zK))] ++ [])))))], [.box 26 ([(ls cI ([] : List Int))] ++ ([(li 0)] ++ ([(li 0)] ++ ([(ls zO ([] : List zm))] ++ ([(ls zG ([] : List zK))] ++ []))))), .box 26 ([(ls cI ([] : List Int))] ++ ([(li 0)] ++ ([(li 0)] ++ ([(ls zO ([] : List zm))] ++ ([(ls zG ([] : List zK))] ++ [])))))], [.box 26 ([(ls cI ([] : List Int))] ++ ([(li 0)] ++ ([(li 0)] ++ ([(ls zO ([] : List zm))] ++ ([(ls zG ([] : List zK))] ++ []))))), .box 26 ([(ls cI ([] : List Int))] ++ ([(li 0)] ++ ([(li 0)] ++ ([(ls zO ([] : List zm))] ++ ([(ls zG ([] : List zK))] ++ []))))), .vec 51 10 (List.map zO (List.replicate (a_p3.length : Int).toNat (zIu)))], [.box 26 ([(ls cI ([] : List Int))] ++ ([(li 0)] ++ ([(li 0)] ++ ([(ls zO ([] : List zm))] ++ ([(ls zG ([] : List zK))] ++ []))))), .box 26 ([(ls cI x4)] ++ ([(li a_p1)] ++ ([(li a_p2)] ++ ([AV.hd 2] ++ ([AV.osl 55 1 (List.map zG ([] : List zK))] ++ []))))), .vec 51 10 (List.map zO (List.replicate (a_p3.length : Int).toNat (zIu)))]] (by kernel_rfl) (by kernel_rfl) (by kernel_rfl) ⟨(.inr rfl), ⟨(.inr rfl), ⟨(.inr rfl), ⟨(.inr rfl), ⟨(.inr rfl), ⟨(.inr rfl), ⟨(.inl rfl), ⟨(.inl rfl), ⟨(.inl rfl), ⟨(.inr rfl), trivial⟩⟩⟩⟩⟩⟩⟩⟩⟩⟩ (by kernel_rfl) rfl rfl ⟨⟨?_, ?_, ?_⟩, ⟨?_, ?_, ?_⟩, ⟨?_, ?_, ?_⟩, ⟨?_, ?_, ?_⟩, ?_, ?_, ?_, ⟨?_, ?_⟩, ?_, ?_, trivial⟩ ⟨⟨?_, ?_, ?_⟩, ⟨?_, ?_, ?_⟩, ⟨?_, ?_, ?_⟩, ⟨?_, ?_, ?_⟩, ⟨?_, ?_⟩, ⟨?_, ?_⟩, ?_, ?_, ?_, ?_, trivial⟩ ?_ ?_
  ·exact fun e s p => zt (zB (av := (ls cI a_p0)) (s 0 rfl)) ⟨fun _ => rfl, rfl⟩
  ·exact fun e s p => zt (zB (av := (ls cI a_p0)) (s 0 rfl)) ⟨fun _ => rfl, rfl⟩
  ·exact fun e s p => zt (zB (av := (ls cI a_p0)) (s 0 rfl)) ⟨fun _ => rfl, rfl⟩
  ·
   intro e4 hs4 hp4
   refine zA3 (r' := (ls cI x4)) (la := [(ls cI a_p0)]) (la' := [(ls cI a_p0)]) (r := (AV.osl 3 1 (List.map cI x4))) (S := []) Tryz.func80 rfl (by kernel_rfl) (.fn 80) (zAF hp4.1 rfl) ⟨zAt.nr rfl, trivial⟩ (zAM hx4) (.inl rfl) (congrArg (AV.sl false) (zAa (fun _ => rfl))) ?_
   exact zF ⟨fun _ => rfl, rfl⟩
  ·
   intro e5 hs5 hp5
   refine zA3 (r' := (ls cI x4)) (la := [(ls cI a_p0)]) (la' := [(ls cI a_p0)]) (r := (AV.osl 3 1 (List.map cI x4))) (S := []) Tryz.func80 rfl (by kernel_rfl) (.fn 80) (zAF hp5.1 rfl) ⟨zAt.nr rfl, trivial⟩ (zAM hx4) (.inl rfl) (congrArg (AV.sl false) (zAa (fun _ => rfl))) ?_
   exact zF ⟨fun _ => rfl, rfl⟩
  ·
   intro e6 hs6 hp6
   refine zA3 (r' := (ls cI x4)) (la := [(ls cI a_p0)]) (la' := [(ls cI a_p0)]) (r := (AV.osl 3 1 (List.map cI x4))) (S := []) Tryz.func80 rfl (by kernel_rfl) (.fn 80) (zAF hp6.1 rfl) ⟨zAt.nr rfl, trivial⟩ (zAM hx4) (.inl rfl) (congrArg (AV.sl false) (zAa (fun _ => rfl))) ?_
   exact zF ⟨fun _ => rfl, rfl⟩
  ·exact fun e s p => zt (zB (av := (li a_p1)) (s 1 rfl)) ⟨fun _ => rfl, rfl⟩
  ·exact fun e s p => zt (zB (av := (li a_p1)) (s 1 rfl)) ⟨fun _ => rfl, rfl⟩
  ·exact fun e s p => zt (zB (av := (li a_p1)) (s 1 rfl)) ⟨fun _ => rfl, rfl⟩
  ·exact fun e s p => zt (zB (av := (li a_p2)) (s 2 rfl)) ⟨fun _ => rfl, rfl⟩
  ·exact fun e s p => zt (zB (av := (li a_p2)) (s 2 rfl)) ⟨fun _ => rfl, rfl⟩
  ·exact fun e s p => zt (zB (av := (li a_p2)) (s 2 rfl)) ⟨fun _ => rfl, rfl⟩
  ·exact fun e s p => zt (zB (av := (ls zAQ a_p3)) (s 3 rfl)) ⟨fun _ => rfl, rfl⟩
  ·exact fun e s p => zt (zX (f := zAQ) (l := a_p3) Tryz.underlying47 p.1) ⟨fun _ => rfl, rfl⟩
  ·
   intro e15 hs15 hp15
   refine zDy (f := zO) (a := (a_p3.length : Int)) (c := (a_p3.length : Int)) (d0 := (zIu)) zOO ⟨zq.refl _, ⟨zq.refl _, ⟨zq.refl _, ⟨zq.refl _, ⟨zq.refl _, ⟨zq.nils, ⟨zq.nils, ⟨zq.nils, ⟨zq.nils, ⟨zq.nils, trivial⟩⟩⟩⟩⟩⟩⟩⟩⟩⟩ rfl Tryz.underlying23 hp15.2.1 hp15.2.1 hb11 ?_
   exact zF ⟨fun _ => rfl, rfl⟩
  ·exact fun e s p => zt (zAD (pl := [(0, 1), (1, 1), (2, 1), (3, 1), (4, 1)]) (zs := [.slice none 0 0, .int .i64 0, .int .i64 0, .slice none 0 0, .slice none 0 0]) (zc := [.osl 3 1 [], .lit (.int .i64 0), .lit (.int .i64 0), .osl 51 10 [], .osl 55 1 []]) (res := ([(ls cI x4)] ++ ([(li a_p1)] ++ ([(li a_p2)] ++ ([AV.hd 1] ++ ([AV.osl 55 1 (List.map zG ([] : List zK))] ++ [])))))) (fun _ => by kernel_rfl) rfl (⟨zq.nilo, ⟨zq.refl _, ⟨zq.refl _, ⟨zq.nilo, ⟨zq.nilo, trivial⟩⟩⟩⟩⟩) ⟨(ls cI x4), 0, 1, rfl, p.1, rfl, rfl, rfl, ⟨(li a_p1), 1, 1, rfl, p.2.1, rfl, rfl, rfl, ⟨(li a_p2), 2, 1, rfl, p.2.2.1, rfl, rfl, rfl, ⟨(AV.hd 1), 3, 1, rfl, p.2.2.2.1, rfl, rfl, rfl, (by exact zGB.refl _)⟩⟩⟩⟩) ⟨fun _ => rfl, rfl⟩
  ·exact fun e s p => zt (zAD (pl := [(0, 1), (1, 1), (2, 1), (3, 1), (4, 1)]) (zs := [.slice none 0 0, .int .i64 0, .int .i64 0, .slice none 0 0, .slice none 0 0]) (zc := [.osl 3 1 [], .lit (.int .i64 0), .lit (.int .i64 0), .osl 51 10 [], .osl 55 1 []]) (res := ([(ls cI x4)] ++ ([(li a_p1)] ++ ([(li a_p2)] ++ ([AV.hd 1] ++ ([AV.osl 55 1 (List.map zG ([] : List zK))] ++ [])))))) (fun _ => by kernel_rfl) rfl (⟨zq.nilo, ⟨zq.refl _, ⟨zq.refl _, ⟨zq.nilo, ⟨zq.nilo, trivial⟩⟩⟩⟩⟩) ⟨(ls cI x4), 0, 1, rfl, p.1, rfl, rfl, rfl, ⟨(li a_p1), 1, 1, rfl, p.2.1, rfl, rfl, rfl, ⟨(li a_p2), 2, 1, rfl, p.2.2.1, rfl, rfl, rfl, ⟨(AV.hd 1), 3, 1, rfl, p.2.2.2.1, rfl, rfl, rfl, (by exact zGB.refl _)⟩⟩⟩⟩) ⟨fun _ => rfl, rfl⟩
  ·
   intro e18 hs18 hp18
   refine zb (H' := [.box 26 ([(ls cI ([] : List Int))] ++ ([(li 0)] ++ ([(li 0)] ++ ([(ls zO ([] : List zm))] ++ ([(ls zG ([] : List zK))] ++ []))))), .vec 51 10 (List.map zO (List.replicate (a_p3.length : Int).toNat (zIu))), .box 26 ([(ls cI ([] : List Int))] ++ ([(li 0)] ++ ([(li 0)] ++ ([(ls zO ([] : List zm))] ++ ([(ls zG ([] : List zK))] ++ [])))))]) (z6 (t := 26) (vs := [.slice none 0 0, .int .i64 0, .int .i64 0, .slice none 0 0, .slice none 0 0]) (cs := [.sl false [], .lit (.int .i64 0), .lit (.int .i64 0), .sl false [], .sl false []]) Tryz.zeroValue26 (by kernel_rfl) rfl ⟨zq.nils, zq.refl _, zq.refl _, zq.nils, zq.nils, trivial⟩) ?_
   exact zF ⟨fun _ => rfl, rfl⟩
  ·
   intro e19 hs19 hp19
   refine zx (H' := [.box 26 ([(ls cI ([] : List Int))] ++ ([(li 0)] ++ ([(li 0)] ++ ([(ls zO ([] : List zm))] ++ ([(ls zG ([] : List zK))] ++ []))))), .vec 51 10 (List.map zO (List.replicate (a_p3.length : Int).toNat (zIu))), .box 26 ([(ls cI x4)] ++ ([(li a_p1)] ++ ([(li a_p2)] ++ ([AV.hd 1] ++ ([AV.osl 55 1 (List.map zG ([] : List zK))] ++ [])))))]) (zh (k := 2) (o := 0) (cs := ([(ls cI ([] : List Int))] ++ ([(li 0)] ++ ([(li 0)] ++ ([(ls zO ([] : List zm))] ++ ([(ls zG ([] : List zK))] ++ [])))))) (la := ([(ls cI x4)] ++ ([(li a_p1)] ++ ([(li a_p2)] ++ ([AV.hd 1] ++ ([AV.osl 55 1 (List.map zG ([] : List zK))] ++ [])))))) Tryz.sizeOf26 (by exact hp19.2.2.2.2.2.2.2.2.2.2.2.1) rfl rfl (by exact hp19.2.2.2.2.2.2.2.2.2.2.1)) ?_
   exact zF ⟨fun _ => rfl, rfl⟩
  ·exact fun e s p => zt (zB (av := (ls cI a_p0)) (s 0 rfl)) ⟨fun _ => rfl, rfl⟩
  ·exact fun e s p => zt (zB (av := (ls cI a_p0)) (s 0 rfl)) ⟨fun _ => rfl, rfl⟩
  ·exact fun e s p => zt (zB (av := (ls cI a_p0)) (s 0 rfl)) ⟨fun _ => rfl, rfl⟩
  ·
   intro e23 hs23 hp23
   refine zA3 (r' := (ls cI x4)) (la := [(ls cI a_p0)]) (la' := [(ls cI a_p0)]) (r := (AV.osl 3 1 (List.map cI x4))) (S := []) Tryz.func80 rfl (by kernel_rfl) (.fn 80) (zAF hp23.1 rfl) ⟨zAt.nr rfl, trivial⟩ (zAM hx4) (.inl rfl) (congrArg (AV.sl false) (zAa (fun _ => rfl))) ?_
   exact zF ⟨fun _ => rfl, rfl⟩
  ·
   intro e24 hs24 hp24
   refine zA3 (r' := (ls cI x4)) (la := [(ls cI a_p0)]) (la' := [(ls cI a_p0)]) (r := (AV.osl 3 1 (List.map cI x4))) (S := []) Tryz.func80 rfl (by kernel_rfl) (.fn 80) (zAF hp24.1 rfl) ⟨zAt.nr rfl, trivial⟩ (zAM hx4) (.inl rfl) (congrArg (AV.sl false) (zAa (fun _ => rfl))) ?_
   exact zF ⟨fun _ => rfl, rfl⟩
  ·
   intro e25 hs25 hp25
   refine zA3 (r' := (ls cI x4)) (la := [(ls cI a_p0)]) (la' := [(ls cI a_p0)]) (r := (AV.osl 3 1 (List.map cI x4))) (S := []) Tryz.func80 rfl (by kernel_rfl) (.fn 80) (zAF hp25.1 rfl) ⟨zAt.nr rfl, trivial⟩ (zAM hx4) (.inl rfl) (congrArg (AV.sl false) (zAa (fun _ => rfl))) ?_
   exact zF ⟨fun _ => rfl, rfl⟩
  ·exact fun e s p => zt (zB (av := (li a_p1)) (s 1 rfl)) ⟨fun _ => rfl, rfl⟩
  ·exact fun e s p => zt (zB (av := (li a_p1)) (s 1 rfl)) ⟨fun _ => rfl, rfl⟩
  ·exact fun e s p => zt (zB (av := (li a_p1)) (s 1 rfl)) ⟨fun _ => rfl, rfl⟩
  ·exact fun e s p => zt (zB (av := (li a_p2)) (s 2 rfl)) ⟨fun _ => rfl, rfl⟩
  ·exact fun e s p => zt (zB (av := (li a_p2)) (s 2 rfl)) ⟨fun _ => rfl, rfl⟩
  ·exact fun e s p => zt (zB (av := (li a_p2)) (s 2 rfl)) ⟨fun _ => rfl, rfl⟩
  ·exact fun e s p => zt (zB (av := (ls zAQ a_p3)) (s 3 rfl)) ⟨fun _ => rfl, rfl⟩
  ·exact fun e s p => zt (zB (av := (ls zAQ a_p3)) (s 3 rfl)) ⟨fun _ => rfl, rfl⟩
  ·exact fun e s p => zt (zX (f := zAQ) (l := a_p3) Tryz.underlying47 p.1) ⟨fun _ => rfl, rfl⟩
  ·exact fun e s p => zt (zX (f := zAQ) (l := a_p3) Tryz.underlying47 p.1) ⟨fun _ => rfl, rfl⟩
  ·
   intro e36 hs36 hp36
   refine zDy (f := zO) (a := (a_p3.length : Int)) (c := (a_p3.length : Int)) (d0 := (zIu)) zOO ⟨zq.refl _, ⟨zq.refl _, ⟨zq.refl _, ⟨zq.refl _, ⟨zq.refl _, ⟨zq.nils, ⟨zq.nils, ⟨zq.nils, ⟨zq.nils, ⟨zq.nils, trivial⟩⟩⟩⟩⟩⟩⟩⟩⟩⟩ rfl Tryz.underlying23 hp36.2.1 hp36.2.1 hb11 ?_
   exact zF ⟨fun _ => rfl, rfl⟩
  ·exact fun e s p => zt (zAD (pl := [(0, 1), (1, 1), (2, 1), (3, 1), (4, 1)]) (zs := [.slice none 0 0, .int .i64 0, .int .i64 0, .slice none 0 0, .slice none 0 0]) (zc := [.osl 3 1 [], .lit (.int .i64 0), .lit (.int .i64 0), .osl 51 10 [], .osl 55 1 []]) (res := ([(ls cI x4)] ++ ([(li a_p1)] ++ ([(li a_p2)] ++ ([AV.hd 2] ++ ([AV.osl 55 1 (List.map zG ([] : List zK))] ++ [])))))) (fun _ => by kernel_rfl) rfl (⟨zq.nilo, ⟨zq.refl _, ⟨zq.refl _, ⟨zq.nilo, ⟨zq.nilo, trivial⟩⟩⟩⟩⟩) ⟨(ls cI x4), 0, 1, rfl, p.1, rfl, rfl, rfl, ⟨(li a_p1), 1, 1, rfl, p.2.1, rfl, rfl, rfl, ⟨(li a_p2), 2, 1, rfl, p.2.2.1, rfl, rfl, rfl, ⟨(AV.hd 2), 3, 1, rfl, p.2.2.2.1, rfl, rfl, rfl, (by exact zGB.refl _)⟩⟩⟩⟩) ⟨fun _ => rfl, rfl⟩
  ·
   intro e38 hs38 hp38
   refine zb (H' := [.box 26 ([(ls cI ([] : List Int))] ++ ([(li 0)] ++ ([(li 0)] ++ ([(ls zO ([] : List zm))] ++ ([(ls zG ([] : List zK))] ++ []))))), .box 26 ([(ls cI ([] : List Int))] ++ ([(li 0)] ++ ([(li 0)] ++ ([(ls zO ([] : List zm))] ++ ([(ls zG ([] : List zK))] ++ [])))))]) (z6 (t := 26) (vs := [.slice none 0 0, .int .i64 0, .int .i64 0, .slice none 0 0, .slice none 0 0]) (cs := [.sl false [], .lit (.int .i64 0), .lit (.int .i64 0), .sl false [], .sl false []]) Tryz.zeroValue26 (by kernel_rfl) rfl ⟨zq.nils, zq.refl _, zq.refl _, zq.nils, zq.nils, trivial⟩) ?_
   exact zF ⟨fun _ => rfl, rfl⟩
  ·
   intro e39 hs39 hp39
   refine zx (H' := [.box 26 ([(ls cI ([] : List Int))] ++ ([(li 0)] ++ ([(li 0)] ++ ([(ls zO ([] : List zm))] ++ ([(ls zG ([] : List zK))] ++ []))))), .box 26 ([(ls cI x4)] ++ ([(li a_p1)] ++ ([(li a_p2)] ++ ([AV.hd 2] ++ ([AV.osl 55 1 (List.map zG ([] : List zK))] ++ []))))), .vec 51 10 (List.map zO (List.replicate (a_p3.length : Int).toNat (zIu)))]) (zh (k := 1) (o := 0) (cs := ([(ls cI ([] : List Int))] ++ ([(li 0)] ++ ([(li 0)] ++ ([(ls zO ([] : List zm))] ++ ([(ls zG ([] : List zK))] ++ [])))))) (la := ([(ls cI x4)] ++ ([(li a_p1)] ++ ([(li a_p2)] ++ ([AV.hd 2] ++ ([AV.osl 55 1 (List.map zG ([] : List zK))] ++ [])))))) Tryz.sizeOf26 (by exact hp39.2.2.2.2.2.2.2.2.2.2.2.1) rfl rfl (by exact hp39.2.2.2.2.2.2.2.2.2.2.1)) ?_
   exact zF ⟨fun _ => rfl, rfl⟩
  ·
   intro e40 hs40 hq1
   exact ⟨x4, Rep.trans (zBV (l := [(0, (ls cI a_p0)), (3, (ls zAQ a_p3)), (8, (AV.ptr 0 0)), (10, (AV.ptr 2 0))]) ⟨(hs40 0 rfl), (hs40 3 rfl), (hs40 8 rfl), (hq1 8 (by decide) (by decide)), trivial⟩) (Rep.trans (zAP (k := 2) (j := 1) (o := 3) (cs := ([(ls cI x4)] ++ ([(li a_p1)] ++ ([(li a_p2)] ++ ([AV.hd 1] ++ ([AV.osl 55 1 (List.map zG ([] : List zK))] ++ [])))))) rfl rfl rfl rfl) (zAE [0, 2] (l := [(0, (ls cI a_p0)), (3, (ls zAQ a_p3)), (8, (AV.ptr 0 0)), (10, (AV.ptr 1 0))]) rfl rfl (by kernel_rfl))), h⟩
  ·
   intro e41 hs41 hq2
   exact ⟨x4, Rep.trans (zBV (l := [(0, (ls cI a_p0)), (3, (ls zAQ a_p3)), (8, (AV.ptr 0 0)), (10, (AV.ptr 1 0))]) ⟨(hs41 0 rfl), (hs41 3 rfl), (hs41 8 rfl), (hq2 8 (by decide) (by decide)), trivial⟩) (Rep.trans (zAP (k := 1) (j := 2) (o := 3) (cs := ([(ls cI x4)] ++ ([(li a_p1)] ++ ([(li a_p2)] ++ ([AV.hd 2] ++ ([AV.osl 55 1 (List.map zG ([] : List zK))] ++ [])))))) rfl rfl rfl rfl) (zAE [0, 1] (l := [(0, (ls cI a_p0)), (3, (ls zAQ a_p3)), (8, (AV.ptr 0 0)), (10, (AV.ptr 1 0))]) rfl rfl (by kernel_rfl))), h⟩
 ·
  clear h
  rintro e' H' ⟨d1, hrep, h⟩
  refine zY hrep ?_
  clear hrep
  unfold zG1 at h
  refine zI <| zI <| zC <| zAe (zB0 (k := 1) (o := 3) (t' := 51) (sz := 10) (rows := List.map zO (List.replicate (a_p3.length : Int).toNat (zIu))) rfl rfl) <| zAe (zB0 (k := 1) (o := 4) (t' := 55) (sz := 1) (rows := List.map zG ([] : List zK)) rfl rfl) <| zA (zT (k := 1) (o := 0) (m := 5) Tryz.isAgg26 Tryz.sizeOf26 rfl rfl rfl rfl rfl) ?_
  refine zP h ?_; clear h; intro x1 hx1 h
  refine zA3 (r' := (AV.lit (.bool x1))) (la := [(AV.agg ([(ls cI d1)] ++ ([(li a_p1)] ++ ([(li a_p2)] ++ ([AV.hd 2] ++ ([AV.hd 3] ++ []))))))]) (la' := [(AV.agg ([(ls cI d1)] ++ ([(li a_p1)] ++ ([(li a_p2)] ++ ([(ls zO (List.replicate (a_p3.length : Int).toNat (zIu)))] ++ ([(ls zG ([] : List zK))] ++ []))))))]) (r := (AV.lit (.bool x1))) (S := [2, 3]) Tryz.func41 rfl (by kernel_rfl) (.fn 41) rfl ⟨zAt.agg (by exact ⟨zAt.nr rfl, ⟨zAt.nr rfl, ⟨zAt.nr rfl, ⟨zIl (fun _ => rfl) rfl rfl, ⟨zIl (fun _ => rfl) rfl rfl, trivial⟩⟩⟩⟩⟩), trivial⟩ (zHB hx1) (.inr trivial) rfl <| zA (zA8 (t := x1) rfl) <| zF ?_
  refine zQ (!x1) rfl (fun hb1 => ?_) (fun hb1 => ?_)
  ·replace h := zo hb1 h
   refine zI <| zC <| zA (zAD (pl := [(0, 1), (1, 1), (2, 1), (3, 1), (4, 1)]) (zs := [.slice none 0 0, .int .i64 0, .int .i64 0, .slice none 0 0, .slice none 0 0]) (zc := [.osl 3 1 [], .lit (.int .i64 0), .lit (.int .i64 0), .osl 51 10 [], .osl 55 1 []]) (res := ([AV.osl 3 1 (List.map cI ([] : List Int))] ++ ([(li 0)] ++ ([(li 0)] ++ ([AV.osl 51 10 (List.map zO ([] : List zm))] ++ ([AV.osl 55 1 (List.map zG ([] : List zK))] ++ [])))))) (fun _ => by kernel_rfl) rfl (⟨zq.nilo, ⟨zq.refl _, ⟨zq.refl _, ⟨zq.nilo, ⟨zq.nilo, trivial⟩⟩⟩⟩⟩) (by exact zGB.refl _)) <| zx (H' := [.box 26 ([AV.osl 3 1 (List.map cI ([] : List Int))] ++ ([(li 0)] ++ ([(li 0)] ++ ([AV.osl 51 10 (List.map zO ([] : List zm))] ++ ([AV.osl 55 1 (List.map zG ([] : List zK))] ++ []))))), .box 26 ([(ls cI d1)] ++ ([(li a_p1)] ++ ([(li a_p2)] ++ ([AV.hd 2] ++ ([AV.hd 3] ++ []))))), .vec 51 10 (List.map zO (List.replicate (a_p3.length : Int).toNat (zIu))), .vec 55 1 (List.map zG ([] : List zK))]) (zh (k := 0) (o := 0) (cs := ([(ls cI ([] : List Int))] ++ ([(li 0)] ++ ([(li 0)] ++ ([(ls zO ([] : List zm))] ++ ([(ls zG ([] : List zK))] ++ [])))))) (la := ([AV.osl 3 1 (List.map cI ([] : List Int))] ++ ([(li 0)] ++ ([(li 0)] ++ ([AV.osl 51 10 (List.map zO ([] : List zm))] ++ ([AV.osl 55 1 (List.map zG ([] : List zK))] ++ [])))))) Tryz.sizeOf26 rfl rfl rfl rfl) <| zA (zD rfl) <| zF ?_
   refine zY (zCL (k := 0) (o := 0) (rows' := List.map cI ([] : List Int)) rfl rfl (zAa (fun _ => rfl))) <| zY (zCL (k := 0) (o := 3) (rows' := List.map zO ([] : List zm)) rfl rfl (zAa (fun _ => rfl))) <| zY (zCL (k := 0) (o := 4) (rows' := List.map zG ([] : List zK)) rfl rfl (zAa (fun _ => rfl))) <| za ?_
   show zAS _ _ _ _ _ _
   obtain rfl := Option.some.inj h
   exact zC1 (zHH Tryz.isAgg26 Tryz.sizeOf26 rfl rfl rfl rfl) (zAK rfl rfl) rfl
  ·replace h := zv hb1 h
   refine zR <| zI <| zC <| zA (zD rfl) <| zF ?_
   refine z5 (fun e' H' => ∃ (l1 : List zm), Rep 82 0 e' H' (mkE [(0, (ls cI a_p0)), (3, (ls zAQ a_p3)), (8, (AV.ptr 0 0)), (10, (AV.ptr 1 0))]) [.box 26 ([(ls cI ([] : List Int))] ++ ([(li 0)] ++ ([(li 0)] ++ ([(ls zO ([] : List zm))] ++ ([(ls zG ([] : List zK))] ++ []))))), .box 26 ([(ls cI d1)] ++ ([(li a_p1)] ++ ([(li a_p2)] ++ ([AV.osl 51 10 (List.map zO l1)] ++ ([AV.osl 55 1 (List.map zG ([] : List zK))] ++ [])))))] ∧ zGu a_p0 a_p1 a_p2 a_p3 d1 l1 = some r) ?_ ?_
   ·
    refine zI <| zC <| zA (zB rfl) <| zA (zX Tryz.underlying47 rfl) <| zA (zB rfl) <| zF ?_
    refine zS <| z9 (σ := Nat × Int × Int × (List zm)) (fun s => s.1) (fun s e' H' => match s with | (n1, i2, i3, l4) => Rep 82 0 e' H' (mkE [(0, (ls cI a_p0)), (3, (ls zAQ a_p3)), (8, (AV.ptr 0 0)), (10, (AV.ptr 1 0)), (11, (li i2)), (30, (ls zAQ a_p3)), (31, (li (a_p3.length : Int))), (32, (li i3))]) [.box 26 ([(ls cI ([] : List Int))] ++ ([(li 0)] ++ ([(li 0)] ++ ([(ls zO ([] : List zm))] ++ ([(ls zG ([] : List zK))] ++ []))))), .box 26 ([(ls cI d1)] ++ ([(li a_p1)] ++ ([(li a_p2)] ++ ([AV.osl 51 10 (List.map zO l4)] ++ ([AV.osl 55 1 (List.map zG ([] : List zK))] ++ [])))))] ∧ zFI a_p0 a_p1 a_p2 a_p3 d1 n1 i2 i3 l4 = some r) (zAC, 0, 0, (List.replicate (a_p3.length : Int).toNat (zIu))) ⟨Rep.trans (zAP (k := 1) (j := 2) (o := 3) rfl rfl rfl rfl) (Rep.trans (zAP (k := 1) (j := 3) (o := 4) rfl rfl rfl rfl) (zAE [0, 1] (l := [(0, (ls cI a_p0)), (3, (ls zAQ a_p3)), (8, (AV.ptr 0 0)), (10, (AV.ptr 1 0)), (11, (li 0)), (30, (ls zAQ a_p3)), (31, (li (a_p3.length : Int))), (32, (li 0))]) rfl rfl (by kernel_rfl))), h⟩ ?_
    clear h
    rintro ⟨n1, i2, i3, l4⟩ e' H' ⟨hrep, h⟩
    cases n1 with
    | zero => exact absurd (show (none : Option _) = some r from h) (by simp)
    | succ n1 =>
     replace h : zGv a_p0 a_p1 a_p2 a_p3 d1 (zFI a_p0 a_p1 a_p2 a_p3 d1 n1) i2 i3 l4 = some r := h
     unfold zGv at h
     refine zY hrep ?_
     clear hrep
     refine zI <| zC <| zA (zf rfl rfl) <| zF <| zI ?_
     refine zQ (decide (i3 < (a_p3.length : Int))) rfl (fun hb5 => ?_) (fun hb5 => ?_)
     ·replace h := zo hb5 h
      refine zR <| zI <| zS <| zI <| zC <| zA (zB rfl) ?_
      have hb6 := (zH h).1
      replace h := (zH h).2
      refine zA (zV Tryz.underlying47 Tryz.sizeOf46 (fun _ => rfl) rfl rfl hb6) <| zA (zAi (row := (zAQ (at_ a_p3 i3))) (o := 0) (m := 4) (la := (zAQ (at_ a_p3 i3))) Tryz.isAgg46 Tryz.sizeOf46 rfl rfl rfl) <| zb (H' := [.box 26 ([(ls cI ([] : List Int))] ++ ([(li 0)] ++ ([(li 0)] ++ ([(ls zO ([] : List zm))] ++ ([(ls zG ([] : List zK))] ++ []))))), .box 26 ([(ls cI d1)] ++ ([(li a_p1)] ++ ([(li a_p2)] ++ ([AV.osl 51 10 (List.map zO l4)] ++ ([AV.osl 55 1 (List.map zG ([] : List zK))] ++ []))))), .box 46 ([(li 0)] ++ ([(li 0)] ++ ([(li 0)] ++ ([(li 0)] ++ []))))]) (z6 (t := 46) (vs := [.int .i64 0, .int .i64 0, .int .i64 0, .int .i64 0]) (cs := [.lit (.int .i64 0), .lit (.int .i64 0), .lit (.int .i64 0), .lit (.int .i64 0)]) Tryz.zeroValue46 (by kernel_rfl) rfl ⟨zq.refl _, zq.refl _, zq.refl _, zq.refl _, trivial⟩) <| zA (zD rfl) <| zx (H' := [.box 26 ([(ls cI ([] : List Int))] ++ ([(li 0)] ++ ([(li 0)] ++ ([(ls zO ([] : List zm))] ++ ([(ls zG ([] : List zK))] ++ []))))), .box 26 ([(ls cI d1)] ++ ([(li a_p1)] ++ ([(li a_p2)] ++ ([AV.osl 51 10 (List.map zO l4)] ++ ([AV.osl 55 1 (List.map zG ([] : List zK))] ++ []))))), .box 46 (zAQ (at_ a_p3 i3))]) (zh (k := 2) (o := 0) (cs := ([(li 0)] ++ ([(li 0)] ++ ([(li 0)] ++ ([(li 0)] ++ []))))) (la := (zAQ (at_ a_p3 i3))) Tryz.sizeOf46 rfl rfl rfl rfl) <| zF ?_
      refine zI <| zC <| zA (zM Tryz.underlying46 rfl rfl Tryz.sizeOf3 rfl) <| zA (zN Tryz.isAgg3 rfl rfl rfl rfl) <| zA (zM Tryz.underlying46 rfl rfl Tryz.sizeOf3 rfl) <| zA (zN Tryz.isAgg3 rfl rfl rfl rfl) ?_
      refine zA (zB rfl) <| zA (zM Tryz.underlying46 rfl rfl Tryz.sizeOf3 rfl) <| zA (zN Tryz.isAgg3 rfl rfl rfl rfl) <| zA (zM Tryz.underlying46 rfl rfl Tryz.sizeOf3 rfl) <| zA (zN Tryz.isAgg3 rfl rfl rfl rfl) ?_
      refine zP h ?_; clear h; intro x3 hx3 h
      refine zd Tryz.func81 rfl (by kernel_rfl) (.fn 81) rfl rfl (zMx hx3) rfl <| zA (zB rfl) <| zA (zl rfl rfl) <| zA (zl rfl rfl) <| zb (H' := [.box 26 ([(ls cI ([] : List Int))] ++ ([(li 0)] ++ ([(li 0)] ++ ([(ls zO ([] : List zm))] ++ ([(ls zG ([] : List zK))] ++ []))))), .box 26 ([(ls cI d1)] ++ ([(li a_p1)] ++ ([(li a_p2)] ++ ([AV.osl 51 10 (List.map zO l4)] ++ ([AV.osl 55 1 (List.map zG ([] : List zK))] ++ []))))), .box 46 (zAQ (at_ a_p3 i3)), .box 51 ([(li 0)] ++ ([(li 0)] ++ ([(li 0)] ++ ([(li 0)] ++ ([(li 0)] ++ ((cA 5 (eS cI) ([] : List Int) (List.replicate 5 ([] : List Int))) ++ []))))))]) (z6 (t := 51) (vs := [.int .i64 0, .int .i64 0, .int .i64 0, .int .i64 0, .int .i64 0, .slice none 0 0, .slice none 0 0, .slice none 0 0, .slice none 0 0, .slice none 0 0]) (cs := [.lit (.int .i64 0), .lit (.int .i64 0), .lit (.int .i64 0), .lit (.int .i64 0), .lit (.int .i64 0), .sl false [], .sl false [], .sl false [], .sl false [], .sl false []]) Tryz.zeroValue51 (by kernel_rfl) rfl ⟨zq.refl _, zq.refl _, zq.refl _, zq.refl _, zq.refl _, zq.nils, zq.nils, zq.nils, zq.nils, zq.nils, trivial⟩) <| zx (H' := [.box 26 ([(ls cI ([] : List Int))] ++ ([(li 0)] ++ ([(li 0)] ++ ([(ls zO ([] : List zm))] ++ ([(ls zG ([] : List zK))] ++ []))))), .box 26 ([(ls cI d1)] ++ ([(li a_p1)] ++ ([(li a_p2)] ++ ([AV.osl 51 10 (List.map zO l4)] ++ ([AV.osl 55 1 (List.map zG ([] : List zK))] ++ []))))), .box 46 (zAQ (at_ a_p3 i3)), .box 51 (zO x3.1)]) (zh (k := 3) (o := 0) (cs := ([(li 0)] ++ ([(li 0)] ++ ([(li 0)] ++ ([(li 0)] ++ ([(li 0)] ++ ((cA 5 (eS cI) ([] : List Int) (List.replicate 5 ([] : List Int))) ++ []))))))) (la := (zO x3.1)) Tryz.sizeOf51 rfl rfl rfl rfl) ?_
      refine zA (zD rfl) <| zF <| zI <| zI <| zC <| zA (zB rfl) ?_
      refine zA (z7 rfl rfl) <| zF ?_
      refine zQ (!decide (x3.2 = 0)) rfl (fun hb7 => ?_) (fun hb7 => ?_)
      ·replace h := zo hb7 h
       refine zI <| zC <| zA (zAD (pl := [(0, 1), (1, 1), (2, 1), (3, 1), (4, 1)]) (zs := [.slice none 0 0, .int .i64 0, .int .i64 0, .slice none 0 0, .slice none 0 0]) (zc := [.osl 3 1 [], .lit (.int .i64 0), .lit (.int .i64 0), .osl 51 10 [], .osl 55 1 []]) (res := ([AV.osl 3 1 (List.map cI ([] : List Int))] ++ ([(li 0)] ++ ([(li 0)] ++ ([AV.osl 51 10 (List.map zO ([] : List zm))] ++ ([AV.osl 55 1 (List.map zG ([] : List zK))] ++ [])))))) (fun _ => by kernel_rfl) rfl (⟨zq.nilo, ⟨zq.refl _, ⟨zq.refl _, ⟨zq.nilo, ⟨zq.nilo, trivial⟩⟩⟩⟩⟩) (by exact zGB.refl _)) <| zA (zB rfl) <| zx (H' := [.box 26 ([AV.osl 3 1 (List.map cI ([] : List Int))] ++ ([(li 0)] ++ ([(li 0)] ++ ([AV.osl 51 10 (List.map zO ([] : List zm))] ++ ([AV.osl 55 1 (List.map zG ([] : List zK))] ++ []))))), .box 26 ([(ls cI d1)] ++ ([(li a_p1)] ++ ([(li a_p2)] ++ ([AV.osl 51 10 (List.map zO l4)] ++ ([AV.osl 55 1 (List.map zG ([] : List zK))] ++ []))))), .box 46 (zAQ (at_ a_p3 i3)), .box 51 (zO x3.1)]) (zh (k := 0) (o := 0) (cs := ([(ls cI ([] : List Int))] ++ ([(li 0)] ++ ([(li 0)] ++ ([(ls zO ([] : List zm))] ++ ([(ls zG ([] : List zK))] ++ [])))))) (la := ([AV.osl 3 1 (List.map cI ([] : List Int))] ++ ([(li 0)] ++ ([(li 0)] ++ ([AV.osl 51 10 (List.map zO ([] : List zm))] ++ ([AV.osl 55 1 (List.map zG ([] : List zK))] ++ [])))))) Tryz.sizeOf26 rfl rfl rfl rfl) <| zA (zD rfl) ?_
       refine zF <| zY (zCL (k := 0) (o := 0) (rows' := List.map cI ([] : List Int)) rfl rfl (zAa (fun _ => rfl))) <| zY (zCL (k := 0) (o := 3) (rows' := List.map zO ([] : List zm)) rfl rfl (zAa (fun _ => rfl))) <| zY (zCL (k := 0) (o := 4) (rows' := List.map zG ([] : List zK)) rfl rfl (zAa (fun _ => rfl))) <| za ?_
       show zAS _ _ _ _ _ _
       obtain rfl := Option.some.inj h
       exact zC1 (zHH Tryz.isAgg26 Tryz.sizeOf26 rfl rfl rfl rfl) (zAK rfl rfl) rfl
      ·replace h := zv hb7 h
       refine zR <| zI <| zC <| zA (zM Tryz.underlying26 rfl rfl Tryz.sizeOf23 rfl) <| zAe (zB0 (k := 1) (o := 3) (t' := 51) (sz := 10) (rows := List.map zO l4) rfl rfl) <| zA (zN Tryz.isAgg23 rfl rfl rfl rfl) ?_
       refine zA (zB rfl) <| zA (zT (k := 3) (o := 0) (m := 10) Tryz.isAgg51 Tryz.sizeOf51 rfl rfl rfl rfl rfl) ?_
       have hb8 := (zH h).1
       replace h := (zH h).2
       refine zA (zAI (f := zO) (l := l4) (i := i3) Tryz.underlying23 Tryz.sizeOf51 rfl rfl rfl hb8) <| zx (H' := [.box 26 ([(ls cI ([] : List Int))] ++ ([(li 0)] ++ ([(li 0)] ++ ([(ls zO ([] : List zm))] ++ ([(ls zG ([] : List zK))] ++ []))))), .box 26 ([(ls cI d1)] ++ ([(li a_p1)] ++ ([(li a_p2)] ++ ([AV.hd 4] ++ ([AV.osl 55 1 (List.map zG ([] : List zK))] ++ []))))), .box 46 (zAQ (at_ a_p3 i3)), .box 51 (zO x3.1), .vec 51 10 (List.map zO (l4.set i3.toNat x3.1))]) (zCw (k := 4) (o := (i3.toNat * 10)) (f := zO) (l := l4) (i := i3) (z := x3.1) Tryz.sizeOf51 (fun _ => rfl) rfl rfl (by first | rfl | omega) hb8 rfl rfl) <| zF <| zC <| zA (zB rfl) <| zA (zM Tryz.underlying46 rfl rfl Tryz.sizeOf3 rfl) ?_
       refine zA (zN Tryz.isAgg3 rfl rfl rfl rfl) ?_
       have hb9 := (zH h).1
       replace h := (zH h).2
       refine zA (ze rfl rfl hb9) <| zA (zD rfl) <| zF <| zC ?_
       have hb10 := (zH h).1
       replace h := (zH h).2
       refine zA (ze rfl rfl hb10) <| zA (zB rfl) <| zF ?_
       exact ⟨(n1, (i2 + ((at_ a_p3 i3).count)), (i3 + 1), (l4.set i3.toNat x3.1)), Nat.lt_succ_self _, Rep.trans (zAP (k := 1) (j := 4) (o := 3) rfl rfl rfl rfl) (zAE [0, 1] (l := [(0, (ls cI a_p0)), (3, (ls zAQ a_p3)), (8, (AV.ptr 0 0)), (10, (AV.ptr 1 0)), (11, (li (i2 + ((at_ a_p3 i3).count)))), (30, (ls zAQ a_p3)), (31, (li (a_p3.length : Int))), (32, (li (i3 + 1)))]) rfl rfl (by kernel_rfl)), h⟩
     ·replace h := zv hb5 h
      refine z8 ?_
      exact ⟨l4, zAE [0, 1] rfl rfl (by kernel_rfl), h⟩
   ·
    clear h
    rintro e' H' ⟨l1, hrep, h⟩
    refine zY hrep ?_
    clear hrep
    unfold zGu at h
    refine z5 (fun e' H' => ∃ (l2 : List zK), Rep 82 0 e' H' (mkE [(8, (AV.ptr 0 0)), (10, (AV.ptr 1 0))]) [.box 26 ([(ls cI ([] : List Int))] ++ ([(li 0)] ++ ([(li 0)] ++ ([(ls zO ([] : List zm))] ++ ([(ls zG ([] : List zK))] ++ []))))), .box 26 ([(ls cI d1)] ++ ([(li a_p1)] ++ ([(li a_p2)] ++ ([AV.osl 51 10 (List.map zO l1)] ++ ([AV.osl 55 1 (List.map zG l2)] ++ [])))))] ∧ zG4 a_p1 a_p2 d1 l1 l2 = some r) ?_ ?_
    ·
     refine zI <| zC <| zA (zB rfl) <| zA (zX Tryz.underlying22 rfl) <| zA (zB rfl) <| zF ?_
     refine zS <| z9 (σ := Nat × Int × (List zK)) (fun s => s.1) (fun s e' H' => match s with | (n0, i1, l3) => Rep 82 0 e' H' (mkE [(3, (ls zAQ a_p3)), (8, (AV.ptr 0 0)), (10, (AV.ptr 1 0)), (65, (li (a_p0.length : Int))), (66, (li i1))]) [.box 26 ([(ls cI ([] : List Int))] ++ ([(li 0)] ++ ([(li 0)] ++ ([(ls zO ([] : List zm))] ++ ([(ls zG ([] : List zK))] ++ []))))), .box 26 ([(ls cI d1)] ++ ([(li a_p1)] ++ ([(li a_p2)] ++ ([AV.osl 51 10 (List.map zO l1)] ++ ([AV.osl 55 1 (List.map zG l3)] ++ [])))))] ∧ zFM a_p0 a_p1 a_p2 a_p3 d1 l1 n0 i1 l3 = some r) (zAC, 0, ([] : List zK)) ⟨zAE [0, 1] rfl rfl (by kernel_rfl), h⟩ ?_
     clear h
     rintro ⟨n0, i1, l3⟩ e' H' ⟨hrep, h⟩
     cases n0 with
     | zero => exact absurd (show (none : Option _) = some r from h) (by simp)
     | succ n0 =>
      replace h : zG2 a_p0 a_p1 a_p2 a_p3 d1 l1 (zFM a_p0 a_p1 a_p2 a_p3 d1 l1 n0) i1 l3 = some r := h
      unfold zG2 at h
      refine zY hrep ?_
      clear hrep
      refine zI <| zC <| zA (zf rfl rfl) <| zF <| zI ?_
      refine zQ (decide (i1 < (a_p0.length : Int))) rfl (fun hb2 => ?_) (fun hb2 => ?_)
      ·replace h := zo hb2 h
       refine zR <| zI <| zS <| zI <| zC <| zA (zB rfl) ?_
       refine zA (zX Tryz.underlying47 rfl) ?_
       refine zP h ?_; clear h; intro x2 hx2 h
       refine zd Tryz.func82 rfl (by kernel_rfl) (.fn 82) rfl rfl (zMF hx2) rfl <| zA (zB rfl) <| zA (zl rfl rfl) <| zA (zl rfl rfl) <| zb (H' := [.box 26 ([(ls cI ([] : List Int))] ++ ([(li 0)] ++ ([(li 0)] ++ ([(ls zO ([] : List zm))] ++ ([(ls zG ([] : List zK))] ++ []))))), .box 26 ([(ls cI d1)] ++ ([(li a_p1)] ++ ([(li a_p2)] ++ ([AV.osl 51 10 (List.map zO l1)] ++ ([AV.osl 55 1 (List.map zG l3)] ++ []))))), .box 55 ([(ls (cS cI) ([] : List (List Int)))] ++ [])]) (z6 (t := 55) (vs := [.slice none 0 0]) (cs := [.sl false []]) Tryz.zeroValue55 (by kernel_rfl) rfl ⟨zq.nils, trivial⟩) <| zx (H' := [.box 26 ([(ls cI ([] : List Int))] ++ ([(li 0)] ++ ([(li 0)] ++ ([(ls zO ([] : List zm))] ++ ([(ls zG ([] : List zK))] ++ []))))), .box 26 ([(ls cI d1)] ++ ([(li a_p1)] ++ ([(li a_p2)] ++ ([AV.osl 51 10 (List.map zO l1)] ++ ([AV.osl 55 1 (List.map zG l3)] ++ []))))), .box 55 (zG x2.1)]) (zh (k := 2) (o := 0) (cs := ([(ls (cS cI) ([] : List (List Int)))] ++ [])) (la := (zG x2.1)) Tryz.sizeOf55 rfl rfl rfl rfl) ?_
       refine zA (zD rfl) <| zF <| zC <| zA (zM Tryz.underlying26 rfl rfl Tryz.sizeOf24 rfl) <| zAe (zB0 (k := 1) (o := 4) (t' := 55) (sz := 1) (rows := List.map zG l3) rfl rfl) <| zA (zN Tryz.isAgg24 rfl rfl rfl rfl) ?_
       refine zA (zT (k := 2) (o := 0) (m := 1) Tryz.isAgg55 Tryz.sizeOf55 rfl rfl rfl rfl rfl) <| zIR (a := (AV.agg (zG x2.1))) zNx Tryz.underlying24 rfl rfl rfl rfl ?_
       have hb3 := (zH h).1
       replace h := (zH h).2
       refine zGp (f := zG) (k := 3) (j := 4) (l := l3) (l' := [x2.1]) zNx (fun _ => rfl) Tryz.underlying24 rfl rfl rfl rfl hb3 <| zA (zM Tryz.underlying26 rfl rfl Tryz.sizeOf24 rfl) <| zx (H' := [.box 26 ([(ls cI ([] : List Int))] ++ ([(li 0)] ++ ([(li 0)] ++ ([(ls zO ([] : List zm))] ++ ([(ls zG ([] : List zK))] ++ []))))), .box 26 ([(ls cI d1)] ++ ([(li a_p1)] ++ ([(li a_p2)] ++ ([AV.osl 51 10 (List.map zO l1)] ++ ([AV.hd 5] ++ []))))), .box 55 (zG x2.1), .dead, .vec 55 1 (List.map zG [x2.1]), .vec 55 1 (List.map zG (l3 ++ [x2.1]))]) (zFR (k := 1) (o := 4) (cs := ([(ls cI d1)] ++ ([(li a_p1)] ++ ([(li a_p2)] ++ ([AV.osl 51 10 (List.map zO l1)] ++ ([AV.hd 3] ++ [])))))) (a := (AV.hd 5)) Tryz.sizeOf24 rfl rfl rfl rfl rfl) <| zF <| zC ?_
       have hb4 := (zH h).1
       replace h := (zH h).2
       refine zA (ze rfl rfl hb4) <| zA (zB rfl) <| zF ?_
       exact ⟨(n0, (i1 + 1), (l3 ++ [x2.1])), Nat.lt_succ_self _, Rep.trans (zAP (k := 1) (j := 5) (o := 4) rfl rfl rfl rfl) (zAE [0, 1] (l := [(3, (ls zAQ a_p3)), (8, (AV.ptr 0 0)), (10, (AV.ptr 1 0)), (65, (li (a_p0.length : Int))), (66, (li (i1 + 1)))]) rfl rfl (by kernel_rfl)), h⟩
      ·replace h := zv hb2 h
       refine z8 ?_
       exact ⟨l3, zAE [0, 1] rfl rfl (by kernel_rfl), h⟩
    ·
     clear h
     rintro e' H' ⟨l2, hrep, h⟩
     refine zY hrep ?_
     clear hrep
     unfold zG4 at h
     refine zI <| zC <| zAe (zCL (k := 1) (o := 3) (rows' := List.map zO l1) rfl rfl (zAa (fun _ => rfl))) <| zAe (zCL (k := 1) (o := 4) (rows' := List.map zG l2) rfl rfl (zAa (fun _ => rfl))) <| zA (zT (k := 1) (o := 0) (m := 5) Tryz.isAgg26 Tryz.sizeOf26 rfl rfl rfl rfl rfl) <| zx (H' := [.box 26 (zJ (⟨d1, a_p1, a_p2, l1, l2⟩ : zL)), .box 26 ([(ls cI d1)] ++ ([(li a_p1)] ++ ([(li a_p2)] ++ ([(ls zO l1)] ++ ([(ls zG l2)] ++ [])))))]) (zh (k := 0) (o := 0) (cs := ([(ls cI ([] : List Int))] ++ ([(li 0)] ++ ([(li 0)] ++ ([(ls zO ([] : List zm))] ++ ([(ls zG ([] : List zK))] ++ [])))))) (la := (zJ (⟨d1, a_p1, a_p2, l1, l2⟩ : zL))) Tryz.sizeOf26 rfl rfl rfl rfl) ?_
     refine zA (zD rfl) <| zF <| za ?_
     show zAS _ _ _ _ _ _
     obtain rfl := Option.some.inj h
     exact zC1 (zHH Tryz.isAgg26 Tryz.sizeOf26 rfl rfl rfl rfl) (zAK rfl rfl) rfl
theorem zD6 {a_p0 : zm} {r : Int} (h : zDS a_p0 = some r) : PFn Tryz.prog 42 [(AV.agg (zO a_p0))] (li r) := by
 refine zi Tryz.func42 rfl Tryz.ntmps42 Tryz.results42 rfl ?_
 unfold zDS at h
 refine zI <| zC <| zb (H' := [.box 51 (zO a_p0)]) (zu (t := 51) rfl) <| zA (zD rfl) <| zF <| zI ?_
 refine zI <| zC <| zA (zT (k := 0) (o := 0) (m := 10) Tryz.isAgg51 Tryz.sizeOf51 rfl rfl rfl rfl rfl) ?_
 refine zP h ?_; clear h; intro x1 hx1 h
 refine zA3 (r' := (AV.lit (.bool x1))) (la := [(AV.agg (zO a_p0))]) (la' := [(AV.agg ([(li a_p0.node)] ++ ([(li a_p0.kind)] ++ ([(li a_p0.start)] ++ ([(li a_p0.count)] ++ ([(li a_p0.min)] ++ ([AV.any, AV.any, AV.any, AV.any, AV.any] ++ [])))))))]) (r := (AV.lit (.bool x1))) (S := []) Tryz.func85 rfl (by kernel_rfl) (.fn 85) rfl ⟨zJy (hd := ([(li a_p0.node)] ++ [(li a_p0.kind)] ++ [(li a_p0.start)] ++ [(li a_p0.count)] ++ [(li a_p0.min)])) (tl := ((cA 5 (eS cI) ([] : List Int) a_p0.free))) rfl, trivial⟩ (zJL hx1) (.inl rfl) rfl <| zA (zA8 (t := x1) rfl) <| zF ?_
 refine zQ (!x1) rfl (fun hb1 => ?_) (fun hb1 => ?_)
 ·replace h := zo hb1 h
  refine zI <| zC <| zA (zD rfl) <| zF <| za ?_
  show zAS _ _ _ _ _ _
  obtain rfl := Option.some.inj h
  exact zp (zAK rfl rfl)
 ·replace h := zv hb1 h
  refine zR ?_
  refine z5 (fun e' H' => Rep 118 0 e' H' (mkE [(1, (AV.ptr 0 0))]) [.box 51 (zO a_p0)] ∧ zE3 a_p0 = some r) ?_ ?_
  ·
   refine zI <| zC <| zA (zM Tryz.underlying51 rfl rfl Tryz.sizeOf49 rfl) <| zA (zT (k := 0) (o := 5) (m := 5) Tryz.isAgg49 Tryz.sizeOf49 rfl rfl rfl rfl rfl) <| zA (zB rfl) <| zF ?_
   refine zS <| z9 (σ := Nat × Int) (fun s => s.1) (fun s e' H' => match s with | (n5, i6) => Rep 118 0 e' H' (mkE [(1, (AV.ptr 0 0)), (23, (AV.agg (cA 5 (eS cI) ([] : List Int) a_p0.free))), (24, (li i6))]) [.box 51 (zO a_p0)] ∧ zCE a_p0 n5 i6 = some r) (zAC, 0) ⟨zAE [0] rfl rfl (by kernel_rfl), h⟩ ?_
   clear h
   rintro ⟨n5, i6⟩ e' H' ⟨hrep, h⟩
   cases n5 with
   | zero => exact absurd (show (none : Option _) = some r from h) (by simp)
   | succ n5 =>
    replace h : zDL a_p0 (zCE a_p0 n5) i6 = some r := h
    unfold zDL at h
    refine zY hrep ?_
    clear hrep
    refine zI <| zC <| zA (zf rfl rfl) <| zF <| zI ?_
    refine zQ (decide (i6 < 5)) rfl (fun hb26 => ?_) (fun hb26 => ?_)
    ·replace h := zo hb26 h
     refine zR ?_
     refine z5 (fun e' H' => Rep 118 0 e' H' (mkE [(1, (AV.ptr 0 0)), (23, (AV.agg (cA 5 (eS cI) ([] : List Int) a_p0.free))), (24, (li i6))]) [.box 51 (zO a_p0)] ∧ zGj (zCE a_p0 n5) i6 = some r) ?_ ?_
     ·
      refine zS <| zI <| zC <| zA (zB rfl) ?_
      have hb28 := (zH h).1
      replace h := (zH h).2
      refine zA (zLW (la := cA 5 (eS cI) ([] : List Int) a_p0.free) (i := i6) (a := (ls cI (a_p0.free.getD i6.toNat ([] : List Int)))) Tryz.underlying49 Tryz.sizeOf22 Tryz.isAgg22 rfl rfl hb28 (zNm (zBW hb28).2) rfl) <| zA (zD rfl) <| zA (zD rfl) <| zF <| zI <| zC ?_
      refine zA (zB rfl) <| zA (zX Tryz.underlying22 rfl) <| zA (zB rfl) <| zF <| zS <| z9 (σ := Nat × Int) (fun s => s.1) (fun s e' H' => match s with | (n6, i7) => Rep 118 0 e' H' (mkE [(1, (AV.ptr 0 0)), (3, (li i6)), (4, (ls cI (a_p0.free.getD i6.toNat ([] : List Int)))), (23, (AV.agg (cA 5 (eS cI) ([] : List Int) a_p0.free))), (24, (li i6)), (28, (ls cI (a_p0.free.getD i6.toNat ([] : List Int)))), (29, (li ((a_p0.free.getD i6.toNat ([] : List Int)).length : Int))), (30, (li i7))]) [.box 51 (zO a_p0)] ∧ zE8 (zCE a_p0 n5) a_p0 i6 n6 i7 = some r) (zAC, 0) ⟨zAE [0] rfl rfl (by kernel_rfl), h⟩ ?_
      clear h
      rintro ⟨n6, i7⟩ e' H' ⟨hrep, h⟩
      cases n6 with
      | zero => exact absurd (show (none : Option _) = some r from h) (by simp)
      | succ n6 =>
       replace h : zDB (zCE a_p0 n5) a_p0 i6 (zE8 (zCE a_p0 n5) a_p0 i6 n6) i7 = some r := h
       unfold zDB at h
       refine zY hrep ?_
       clear hrep
       refine zI <| zC <| zA (zf rfl rfl) <| zF <| zI ?_
       refine zQ (decide (i7 < ((a_p0.free.getD i6.toNat ([] : List Int)).length : Int))) rfl (fun hb29 => ?_) (fun hb29 => ?_)
       ·replace h := zo hb29 h
        refine zR <| zI <| zS <| zI <| zC <| zA (zB rfl) ?_
        have hb30 := (zH h).1
        replace h := (zH h).2
        refine zA (zV Tryz.underlying22 Tryz.sizeOf3 (fun _ => rfl) rfl rfl hb30) <| zA (zW (o := 0) Tryz.isAgg3 rfl rfl) <| zA (zD rfl) <| zA (zD rfl) <| zF <| zI ?_
        refine zI <| zC <| zA (zT (k := 0) (o := 0) (m := 10) Tryz.isAgg51 Tryz.sizeOf51 rfl rfl rfl rfl rfl) <| zA (zB rfl) <| zA (zB rfl) ?_
        refine zP h ?_; clear h; intro x4 hx4 h
        refine zA3 (r' := (AV.lit (.bool x4))) (la := [(AV.agg (zO a_p0)), (li (at_ (a_p0.free.getD i6.toNat ([] : List Int)) i7)), (li i6)]) (la' := [(AV.agg ([(li a_p0.node)] ++ ([(li a_p0.kind)] ++ ([(li a_p0.start)] ++ ([(li a_p0.count)] ++ ([(li a_p0.min)] ++ ([AV.any, AV.any, AV.any, AV.any, AV.any] ++ []))))))), (li (at_ (a_p0.free.getD i6.toNat ([] : List Int)) i7)), (li i6)]) (r := (AV.lit (.bool x4))) (S := []) Tryz.func86 rfl (by kernel_rfl) (.fn 86) rfl ⟨zJy (hd := ([(li a_p0.node)] ++ [(li a_p0.kind)] ++ [(li a_p0.start)] ++ [(li a_p0.count)] ++ [(li a_p0.min)])) (tl := ((cA 5 (eS cI) ([] : List Int) a_p0.free))) rfl, zAt.nr rfl, zAt.nr rfl, trivial⟩ (zEe hx4) (.inl rfl) rfl <| zA (zA8 (t := x4) rfl) <| zF ?_
        refine zQ (!x4) rfl (fun hb31 => ?_) (fun hb31 => ?_)
        ·replace h := zo hb31 h
         refine zI <| zC <| zA (zD rfl) <| zF <| za ?_
         show zAS _ _ _ _ _ _
         obtain rfl := Option.some.inj h
         exact zp (zAK rfl rfl)
        ·replace h := zv hb31 h
         refine zR <| zI <| zC <| zA (zB rfl) <| zA (zAp rfl rfl) <| zA (zB rfl) ?_
         refine zg rfl rfl (fun hc8 => zj.step (zB rfl)) <| zg rfl rfl (fun hc9 => zj.step (zB rfl)) ?_
         have hb32 := (zH h).1
         replace h := (zH h).2
         refine zg rfl rfl (fun hc10 => zj.step (zB5 (zz rfl hc10) rfl (zFp hb32 hc10))) ?_
         have hb33 := (zH h).1
         replace h := (zH h).2
         refine zg rfl rfl (fun hc11 => zj.step (zV Tryz.underlying22 Tryz.sizeOf3 (fun _ => rfl) (zz rfl hc11) (zz rfl hc11) (zFp hb33 hc11))) <| zg rfl rfl (fun hc12 => zj.step (zW (o := 0) Tryz.isAgg3 (zz rfl hc12) rfl)) <| zg rfl rfl (fun hc13 => zj.step (zB rfl)) <| zg rfl rfl (fun hc14 => zj.step (zAq (zz rfl hc14) (zz rfl hc14))) <| zA (zy (j := .lit undef) rfl rfl) <| zF ?_
         refine zQ ((decide (0 < i7)) && (decide ((at_ (a_p0.free.getD i6.toNat ([] : List Int)) i7) ≤ (at_ (a_p0.free.getD i6.toNat ([] : List Int)) (i7 - 1))))) rfl (fun hb34 => ?_) (fun hb34 => ?_)
         ·replace h := zo hb34 h
          refine zI <| zC <| zA (zD rfl) <| zF <| za ?_
          show zAS _ _ _ _ _ _
          obtain rfl := Option.some.inj h
          exact zp (zAK rfl rfl)
         ·replace h := zv hb34 h
          refine zR <| zC ?_
          have hb35 := (zH h).1
          replace h := (zH h).2
          refine zA (ze rfl rfl hb35) <| zA (zB rfl) <| zF ?_
          exact ⟨(n6, (i7 + 1)), Nat.lt_succ_self _, zAE [0] rfl rfl (by kernel_rfl), h⟩
       ·replace h := zv hb29 h
        refine z8 ?_
        exact ⟨zAE [0] rfl rfl (by kernel_rfl), h⟩
     ·
      clear h
      rintro e' H' ⟨hrep, h⟩
      refine zY hrep ?_
      clear hrep
      unfold zGj at h
      refine zC ?_
      have hb27 := (zH h).1
      replace h := (zH h).2
      refine zA (ze rfl rfl hb27) <| zA (zB rfl) <| zF ?_
      exact ⟨(n5, (i6 + 1)), Nat.lt_succ_self _, zAE [0] rfl rfl (by kernel_rfl), h⟩
    ·replace h := zv hb26 h
     refine z8 ?_
     exact ⟨zAE [0] rfl rfl (by kernel_rfl), h⟩
  ·
   clear h
   rintro e' H' ⟨hrep, h⟩
   refine zY hrep ?_
   clear hrep
   unfold zE3 at h
   refine zI <| zC <| zb (H' := [.box 51 (zO a_p0), .box 91 (cA 256 eB false (List.replicate 256 false))]) (z6 (t := 91) (vs := List.replicate 256 (.bool false)) (cs := (cA 256 eB false (List.replicate 256 false))) Tryz.zeroValue91 (by kernel_rfl) (by kernel_rfl) (zQN (zq.refl _))) <| zF ?_
   refine z5 (fun e' H' => Rep 118 0 e' H' (mkE [(1, (AV.ptr 0 0))]) [.box 51 (zO a_p0)] ∧ zDD a_p0 = some r) ?_ ?_
   ·
    refine zI <| zC <| zA (zM Tryz.underlying51 rfl rfl Tryz.sizeOf49 rfl) <| zA (zT (k := 0) (o := 5) (m := 5) Tryz.isAgg49 Tryz.sizeOf49 rfl rfl rfl rfl rfl) <| zA (zB rfl) <| zF ?_
    refine zS <| z9 (σ := Nat × Int × (List Bool)) (fun s => s.1) (fun s e' H' => match s with | (n2, i3, d1) => Rep 118 0 e' H' (mkE [(1, (AV.ptr 0 0)), (7, (AV.ptr 1 0)), (54, (AV.agg (cA 5 (eS cI) ([] : List Int) a_p0.free))), (55, (li i3))]) [.box 51 (zO a_p0), .box 91 (cA 256 eB false d1)] ∧ zBA a_p0 n2 i3 d1 = some r) (zAC, 0, (List.replicate 256 false)) ⟨zAE [0, 1] rfl rfl (by kernel_rfl), h⟩ ?_
    clear h
    rintro ⟨n2, i3, d1⟩ e' H' ⟨hrep, h⟩
    cases n2 with
    | zero => exact absurd (show (none : Option _) = some r from h) (by simp)
    | succ n2 =>
     replace h : zDN a_p0 (zBA a_p0 n2) i3 d1 = some r := h
     unfold zDN at h
     refine zY hrep ?_
     clear hrep
     refine zI <| zC <| zA (zf rfl rfl) <| zF <| zI ?_
     refine zQ (decide (i3 < 5)) rfl (fun hb13 => ?_) (fun hb13 => ?_)
     ·replace h := zo hb13 h
      refine zR ?_
      refine z5 (fun e' H' => ∃ (d2 : List Bool), Rep 118 0 e' H' (mkE [(1, (AV.ptr 0 0)), (7, (AV.ptr 1 0)), (54, (AV.agg (cA 5 (eS cI) ([] : List Int) a_p0.free))), (55, (li i3))]) [.box 51 (zO a_p0), .box 91 (cA 256 eB false d2)] ∧ zGe (zBA a_p0 n2) i3 d2 = some r) ?_ ?_
      ·
       refine zS <| zI <| zC <| zA (zB rfl) ?_
       have hb15 := (zH h).1
       replace h := (zH h).2
       refine zA (zLW (la := cA 5 (eS cI) ([] : List Int) a_p0.free) (i := i3) (a := (ls cI (a_p0.free.getD i3.toNat ([] : List Int)))) Tryz.underlying49 Tryz.sizeOf22 Tryz.isAgg22 rfl rfl hb15 (zNm (zBW hb15).2) rfl) <| zA (zD rfl) <| zA (zD rfl) <| zF <| zI <| zC ?_
       refine zA (zB rfl) <| zA (zX Tryz.underlying22 rfl) <| zA (zB rfl) <| zF <| zS <| z9 (σ := Nat × Int × (List Bool)) (fun s => s.1) (fun s e' H' => match s with | (n3, i4, d3) => Rep 118 0 e' H' (mkE [(1, (AV.ptr 0 0)), (7, (AV.ptr 1 0)), (8, (li i3)), (54, (AV.agg (cA 5 (eS cI) ([] : List Int) a_p0.free))), (55, (li i3)), (59, (ls cI (a_p0.free.getD i3.toNat ([] : List Int)))), (60, (li ((a_p0.free.getD i3.toNat ([] : List Int)).length : Int))), (61, (li i4))]) [.box 51 (zO a_p0), .box 91 (cA 256 eB false d3)] ∧ zBk (zBA a_p0 n2) a_p0 i3 n3 i4 d3 = some r) (zAC, 0, d1) ⟨zAE [0, 1] rfl rfl (by kernel_rfl), h⟩ ?_
       clear h
       rintro ⟨n3, i4, d3⟩ e' H' ⟨hrep, h⟩
       cases n3 with
       | zero => exact absurd (show (none : Option _) = some r from h) (by simp)
       | succ n3 =>
        replace h : zDF (zBA a_p0 n2) a_p0 i3 (zBk (zBA a_p0 n2) a_p0 i3 n3) i4 d3 = some r := h
        unfold zDF at h
        refine zY hrep ?_
        clear hrep
        refine zI <| zC <| zA (zf rfl rfl) <| zF <| zI ?_
        refine zQ (decide (i4 < ((a_p0.free.getD i3.toNat ([] : List Int)).length : Int))) rfl (fun hb16 => ?_) (fun hb16 => ?_)
        ·replace h := zo hb16 h
         refine zR ?_
         refine z5 (fun e' H' => ∃ (d4 : List Bool), Rep 118 0 e' H' (mkE [(1, (AV.ptr 0 0)), (7, (AV.ptr 1 0)), (8, (li i3)), (54, (AV.agg (cA 5 (eS cI) ([] : List Int) a_p0.free))), (55, (li i3)), (59, (ls cI (a_p0.free.getD i3.toNat ([] : List Int)))), (60, (li ((a_p0.free.getD i3.toNat ([] : List Int)).length : Int))), (61, (li i4))]) [.box 51 (zO a_p0), .box 91 (cA 256 eB false d4)] ∧ zGm (zBk (zBA a_p0 n2) a_p0 i3 n3) i4 d4 = some r) ?_ ?_
         ·
          refine zS <| zI <| zC ?_
          have hb18 := (zH h).1
          replace h := (zH h).2
          refine zA (zV Tryz.underlying22 Tryz.sizeOf3 (fun _ => rfl) rfl rfl hb18) <| zA (zW (o := 0) Tryz.isAgg3 rfl rfl) <| zA (zD rfl) <| zF <| zI <| zC ?_
          refine zA (zB rfl) <| zA (zD rfl) <| zF <| zS <| z9 (σ := Nat × Int × (List Bool)) (fun s => s.1) (fun s e' H' => match s with | (n4, i5, d5) => Rep 118 0 e' H' (mkE [(1, (AV.ptr 0 0)), (7, (AV.ptr 1 0)), (8, (li i3)), (11, (li (at_ (a_p0.free.getD i3.toNat ([] : List Int)) i4))), (12, (li i5)), (54, (AV.agg (cA 5 (eS cI) ([] : List Int) a_p0.free))), (55, (li i3)), (59, (ls cI (a_p0.free.getD i3.toNat ([] : List Int)))), (60, (li ((a_p0.free.getD i3.toNat ([] : List Int)).length : Int))), (61, (li i4))]) [.box 51 (zO a_p0), .box 91 (cA 256 eB false d5)] ∧ zE6 (zBk (zBA a_p0 n2) a_p0 i3 n3) a_p0 i3 i4 n4 i5 d5 = some r) (zAC, (at_ (a_p0.free.getD i3.toNat ([] : List Int)) i4), d3) ⟨zAE [0, 1] rfl rfl (by kernel_rfl), h⟩ ?_
          clear h
          rintro ⟨n4, i5, d5⟩ e' H' ⟨hrep, h⟩
          cases n4 with
          | zero => exact absurd (show (none : Option _) = some r from h) (by simp)
          | succ n4 =>
           replace h : zDI (zBk (zBA a_p0 n2) a_p0 i3 n3) a_p0 i3 i4 (zE6 (zBk (zBA a_p0 n2) a_p0 i3 n3) a_p0 i3 i4 n4) i5 d5 = some r := h
           unfold zDI at h
           refine zY hrep ?_
           clear hrep
           refine zI <| zI <| zC <| zA (zB rfl) <| zA (zB rfl) <| zA (zB rfl) ?_
           have hb19 := (zH h).1
           replace h := (zH h).2
           have hb20 := (zH h).1
           replace h := (zH h).2
           refine zA (zDp (a := 1) (b := i3) rfl rfl hb19 hb20) ?_
           have hb21 := (zH h).1
           replace h := (zH h).2
           refine zA (ze rfl rfl hb21) <| zA (zf rfl rfl) <| zF ?_
           refine zQ (decide (i5 < ((at_ (a_p0.free.getD i3.toNat ([] : List Int)) i4) + ((1 : Int) * 2 ^ i3.toNat)))) rfl (fun hb22 => ?_) (fun hb22 => ?_)
           ·replace h := zo hb22 h
            refine zR <| zI <| zS <| zI <| zI <| zC ?_
            refine zA (zB rfl) ?_
            have hb23 := (zH h).1
            replace h := (zH h).2
            refine zA (zAL (m := 256) (s := 1) (i := i5) (k := 1) (o := 0) Tryz.underlying91 Tryz.sizeOf4 rfl rfl hb23) <| zA (zMO (k := 1) (o := (0 + i5.toNat * 1)) (g := eB) (d0 := false) (l := d5) (N := 256) (i := i5.toNat) (a := (AV.lit (.bool (d5.getD i5.toNat false)))) Tryz.isAgg4 rfl rfl (congrArg (fun q => 0 + q) (Nat.mul_one _)) (zBW hb23).2 rfl rfl) <| zF ?_
            refine zQ (d5.getD i5.toNat false) rfl (fun hb24 => ?_) (fun hb24 => ?_)
            ·replace h := zo hb24 h
             refine zI <| zC <| zA (zD rfl) <| zF <| za ?_
             show zAS _ _ _ _ _ _
             obtain rfl := Option.some.inj h
             exact zp (zAK rfl rfl)
            ·replace h := zv hb24 h
             refine zR <| zC <| zA (zB rfl) <| zA (zAL (m := 256) (s := 1) (i := i5) (k := 1) (o := 0) Tryz.underlying91 Tryz.sizeOf4 rfl rfl hb23) <| zx (H' := [.box 51 (zO a_p0), .box 91 (cA 256 eB false (zEO 256 false d5 i5.toNat true))]) (zLm (k := 1) (o := (0 + i5.toNat * 1)) (g := eB) (d0 := false) (l := d5) (N := 256) (i := i5.toNat) (v := true) (a := (AV.lit (.bool true))) Tryz.sizeOf4 rfl rfl (congrArg (fun q => 0 + q) (Nat.mul_one _)) (zBW hb23).2 rfl rfl rfl) <| zF ?_
             refine zC <| zA (zB rfl) ?_
             have hb25 := (zH h).1
             replace h := (zH h).2
             refine zA (ze rfl rfl hb25) <| zA (zD rfl) <| zF ?_
             exact ⟨(n4, (i5 + 1), (zEO 256 false d5 i5.toNat true)), Nat.lt_succ_self _, zAE [0, 1] rfl rfl (by kernel_rfl), h⟩
           ·replace h := zv hb22 h
            refine z8 ?_
            exact ⟨d5, zAE [0, 1] rfl rfl (by kernel_rfl), h⟩
         ·
          clear h
          rintro e' H' ⟨d4, hrep, h⟩
          refine zY hrep ?_
          clear hrep
          unfold zGm at h
          refine zC ?_
          have hb17 := (zH h).1
          replace h := (zH h).2
          refine zA (ze rfl rfl hb17) <| zA (zB rfl) <| zF ?_
          exact ⟨(n3, (i4 + 1), d4), Nat.lt_succ_self _, zAE [0, 1] rfl rfl (by kernel_rfl), h⟩
        ·replace h := zv hb16 h
         refine z8 ?_
         exact ⟨d3, zAE [0, 1] rfl rfl (by kernel_rfl), h⟩
      ·
       clear h
       rintro e' H' ⟨d2, hrep, h⟩
       refine zY hrep ?_
       clear hrep
       unfold zGe at h
       refine zC ?_
       have hb14 := (zH h).1
       replace h := (zH h).2
       refine zA (ze rfl rfl hb14) <| zA (zB rfl) <| zF ?_
       exact ⟨(n2, (i3 + 1), d2), Nat.lt_succ_self _, zAE [0, 1] rfl rfl (by kernel_rfl), h⟩
     ·replace h := zv hb13 h
      refine z8 ?_
      exact ⟨zAE [0] rfl rfl (by kernel_rfl), h⟩
   ·
    clear h
    rintro e' H' ⟨hrep, h⟩
    refine zY hrep ?_
    clear hrep
    unfold zDD at h
    refine z5 (fun e' H' => Rep 118 0 e' H' (mkE []) [] ∧ zHz  = some r) ?_ ?_
    ·
     refine zI <| zC <| zA (zB rfl) <| zF <| zS <| z9 (σ := Nat × Int) (fun s => s.1) (fun s e' H' => match s with | (n0, i1) => Rep 118 0 e' H' (mkE [(1, (AV.ptr 0 0)), (81, (li i1))]) [.box 51 (zO a_p0)] ∧ zCC a_p0 n0 i1 = some r) (zAC, 0) ⟨zAE [0] rfl rfl (by kernel_rfl), h⟩ ?_
     clear h
     rintro ⟨n0, i1⟩ e' H' ⟨hrep, h⟩
     cases n0 with
     | zero => exact absurd (show (none : Option _) = some r from h) (by simp)
     | succ n0 =>
      replace h : zDE a_p0 (zCC a_p0 n0) i1 = some r := h
      unfold zDE at h
      refine zY hrep ?_
      clear hrep
      refine zI <| zC <| zA (zf rfl rfl) <| zF <| zI ?_
      refine zQ (decide (i1 < 4)) rfl (fun hb2 => ?_) (fun hb2 => ?_)
      ·replace h := zo hb2 h
       refine zR ?_
       refine z5 (fun e' H' => Rep 118 0 e' H' (mkE [(1, (AV.ptr 0 0)), (81, (li i1))]) [.box 51 (zO a_p0)] ∧ zGi (zCC a_p0 n0) i1 = some r) ?_ ?_
       ·
        refine zS <| zI <| zC <| zA (zB rfl) <| zA (zD rfl) <| zF ?_
        refine zI <| zC <| zA (zB rfl) <| zA (zM Tryz.underlying51 rfl rfl Tryz.sizeOf49 rfl) ?_
        have hb4 := (zH h).1
        replace h := (zH h).2
        refine zA (zAL (m := 5) (s := 1) (i := i1) (k := 0) (o := 5) Tryz.underlying49 Tryz.sizeOf22 rfl rfl hb4) <| zA (zAm (k := 0) (o := (5 + i1.toNat * 1)) (cs := (zO a_p0)) (hd := ([(li a_p0.node)] ++ [(li a_p0.kind)] ++ [(li a_p0.start)] ++ [(li a_p0.count)] ++ [(li a_p0.min)] ++ [])) (tl := ([])) (g := (eS cI)) (d0 := ([] : List Int)) (l := a_p0.free) (N := 5) (i := i1.toNat) (a := (ls cI (a_p0.free.getD i1.toNat ([] : List Int)))) Tryz.isAgg22 rfl rfl rfl (congrArg (fun q => 5 + q) (Nat.mul_one _)) (zBW hb4).2 rfl rfl) <| zA (zX Tryz.underlying22 rfl) <| zA (zB rfl) <| zF <| zS ?_
        refine z9 (σ := Nat × Int) (fun s => s.1) (fun s e' H' => match s with | (n1, i2) => Rep 118 0 e' H' (mkE [(1, (AV.ptr 0 0)), (13, (li i1)), (81, (li i1)), (87, (ls cI (a_p0.free.getD i1.toNat ([] : List Int)))), (88, (li ((a_p0.free.getD i1.toNat ([] : List Int)).length : Int))), (89, (li i2))]) [.box 51 (zO a_p0)] ∧ zFA (zCC a_p0 n0) a_p0 i1 n1 i2 = some r) (zAC, 0) ⟨zAE [0] rfl rfl (by kernel_rfl), h⟩ ?_
        clear h
        rintro ⟨n1, i2⟩ e' H' ⟨hrep, h⟩
        cases n1 with
        | zero => exact absurd (show (none : Option _) = some r from h) (by simp)
        | succ n1 =>
         replace h : zDR (zCC a_p0 n0) a_p0 i1 (zFA (zCC a_p0 n0) a_p0 i1 n1) i2 = some r := h
         unfold zDR at h
         refine zY hrep ?_
         clear hrep
         refine zI <| zC <| zA (zf rfl rfl) <| zF <| zI ?_
         refine zQ (decide (i2 < ((a_p0.free.getD i1.toNat ([] : List Int)).length : Int))) rfl (fun hb5 => ?_) (fun hb5 => ?_)
         ·replace h := zo hb5 h
          refine zR <| zI <| zS <| zI <| zC ?_
          have hb6 := (zH h).1
          replace h := (zH h).2
          refine zA (zV Tryz.underlying22 Tryz.sizeOf3 (fun _ => rfl) rfl rfl hb6) <| zA (zW (o := 0) Tryz.isAgg3 rfl rfl) <| zA (zD rfl) <| zF <| zI <| zC ?_
          refine zA (zB rfl) <| zA (zB rfl) ?_
          have hb7 := (zH h).1
          replace h := (zH h).2
          have hb8 := (zH h).1
          replace h := (zH h).2
          refine zA (zDp (a := 1) (b := i1) rfl rfl hb7 hb8) <| zA (zOE (k := .i64) (a := at_ (a_p0.free.getD i1.toNat ([] : List Int)) i2) (b := (1 : Int) * 2 ^ i1.toNat) rfl rfl) <| zA (zD rfl) <| zF <| zI <| zC ?_
          refine zA (zB rfl) <| zA (zM Tryz.underlying51 rfl rfl Tryz.sizeOf49 rfl) ?_
          have hb9 := (zH h).1
          replace h := (zH h).2
          refine zA (zAL (m := 5) (s := 1) (i := i1) (k := 0) (o := 5) Tryz.underlying49 Tryz.sizeOf22 rfl rfl hb9) <| zA (zAm (k := 0) (o := (5 + i1.toNat * 1)) (cs := (zO a_p0)) (hd := ([(li a_p0.node)] ++ [(li a_p0.kind)] ++ [(li a_p0.start)] ++ [(li a_p0.count)] ++ [(li a_p0.min)] ++ [])) (tl := ([])) (g := (eS cI)) (d0 := ([] : List Int)) (l := a_p0.free) (N := 5) (i := i1.toNat) (a := (ls cI (a_p0.free.getD i1.toNat ([] : List Int)))) Tryz.isAgg22 rfl rfl rfl (congrArg (fun q => 5 + q) (Nat.mul_one _)) (zBW hb9).2 rfl rfl) <| zA (zB rfl) ?_
          refine zP h ?_; clear h; intro x2 hx2 h
          refine zd Tryz.func87 rfl (by kernel_rfl) (.fn 87) rfl rfl (zAw hx2) rfl <| zA (zB rfl) <| zA (zl rfl rfl) <| zA (zl rfl rfl) <| zA (zD rfl) <| zA (zD rfl) ?_
          refine zF <| zI <| zC <| zA (zB rfl) <| zA (zB rfl) <| zg rfl rfl (fun hc1 => zj.step (zT (k := 0) (o := 0) (m := 10) Tryz.isAgg51 Tryz.sizeOf51 rfl rfl rfl rfl rfl)) ?_
          refine zg rfl rfl (fun hc2 => zj.step (zB rfl)) <| zg rfl rfl (fun hc3 => zj.step (zB rfl)) <| zg rfl rfl (fun hc4 => zj.step (zMK (a := at_ (a_p0.free.getD i1.toNat ([] : List Int)) i2) (b := zKK .xor .i64 (at_ (a_p0.free.getD i1.toNat ([] : List Int)) i2) ((1 : Int) * 2 ^ i1.toNat)) (zz rfl hc4) (zz rfl hc4))) <| zg rfl rfl (fun hc5 => zj.step (zB rfl)) ?_
          have hb10 := (zH h).1
          replace h := (zH h).2
          refine zg rfl rfl (fun hc6 => zj.step (ze (zz rfl hc6) rfl (zFp hb10 hc6))) ?_
          refine zP h ?_; clear h; intro x3 hx3 h
          refine zB1 (g := 107) (s := x2.2) (r' := (AV.lit (.bool x3))) rfl rfl (fun hc7 => ⟨86, _, _, [], [(AV.agg (zO a_p0)), (li (min (at_ (a_p0.free.getD i1.toNat ([] : List Int)) i2) (zKK .xor .i64 (at_ (a_p0.free.getD i1.toNat ([] : List Int)) i2) ((1 : Int) * 2 ^ i1.toNat)))), (li (i1 + 1))], [(AV.agg ([(li a_p0.node)] ++ ([(li a_p0.kind)] ++ ([(li a_p0.start)] ++ ([(li a_p0.count)] ++ ([(li a_p0.min)] ++ ([AV.any, AV.any, AV.any, AV.any, AV.any] ++ []))))))), (li (min (at_ (a_p0.free.getD i1.toNat ([] : List Int)) i2) (zKK .xor .i64 (at_ (a_p0.free.getD i1.toNat ([] : List Int)) i2) ((1 : Int) * 2 ^ i1.toNat)))), (li (i1 + 1))], (AV.lit (.bool x3)), [], Tryz.func86, rfl, by kernel_rfl, (.fn 86), (zAF (zz rfl hc7) (zAF (zz rfl hc7) (zAF (zz rfl hc7) rfl))), ⟨zJy (hd := ([(li a_p0.node)] ++ [(li a_p0.kind)] ++ [(li a_p0.start)] ++ [(li a_p0.count)] ++ [(li a_p0.min)])) (tl := ((cA 5 (eS cI) ([] : List Int) a_p0.free))) rfl, zAt.nr rfl, zAt.nr rfl, trivial⟩, zEe (zo hc7 hx3), .inl rfl, rfl⟩) <| zA (zy (j := .lit undef) rfl rfl) <| zF ?_
          refine zQ (x2.2 && x3) rfl (fun hb11 => ?_) (fun hb11 => ?_)
          ·replace h := zo hb11 h
           refine zI <| zC <| zA (zD rfl) <| zF <| za ?_
           show zAS _ _ _ _ _ _
           obtain rfl := Option.some.inj h
           exact zp (zAK rfl rfl)
          ·replace h := zv hb11 h
           refine zR <| zC ?_
           have hb12 := (zH h).1
           replace h := (zH h).2
           refine zA (ze rfl rfl hb12) <| zA (zB rfl) <| zF ?_
           exact ⟨(n1, (i2 + 1)), Nat.lt_succ_self _, zAE [0] rfl rfl (by kernel_rfl), h⟩
         ·replace h := zv hb5 h
          refine z8 ?_
          exact ⟨zAE [0] rfl rfl (by kernel_rfl), h⟩
       ·
        clear h
        rintro e' H' ⟨hrep, h⟩
        refine zY hrep ?_
        clear hrep
        unfold zGi at h
        refine zC ?_
        have hb3 := (zH h).1
        replace h := (zH h).2
        refine zA (ze rfl rfl hb3) <| zA (zB rfl) <| zF ?_
        exact ⟨(n0, (i1 + 1)), Nat.lt_succ_self _, zAE [0] rfl rfl (by kernel_rfl), h⟩
      ·replace h := zv hb2 h
       refine z8 ?_
       exact ⟨zAE [] rfl rfl (by kernel_rfl), h⟩
    ·
     clear h
     rintro e' H' ⟨hrep, h⟩
     refine zY hrep ?_
     clear hrep
     unfold zHz at h
     refine zI <| zC <| zA (zD rfl) <| zF <| za ?_
     show zAS _ _ _ _ _ _
     obtain rfl := Option.some.inj h
     exact zp (zAK rfl rfl)
theorem zGS {a_f : Int} {r : Bool} (h : zFG a_f = some r) : PFn Tryz.prog 88 [(li a_f)] (AV.lit (.bool r)) := by
 refine zi Tryz.func88 rfl Tryz.ntmps88 Tryz.results88 rfl ?_
 unfold zFG at h
 refine zI <| zC <| zA (zD rfl) <| zF <| zI <| zC ?_
 refine zA (zB rfl) <| zA (zAq rfl rfl) <| zA (zB rfl) <| zg rfl rfl (fun hc1 => zj.step (zB rfl)) <| zg rfl rfl (fun hc2 => zj.step (zf (zz rfl hc2) rfl)) <| zA (zy (j := .lit undef) rfl rfl) ?_
 refine zA (zD rfl) <| zF <| za ?_
 show zAS _ _ _ _ _ _
 obtain rfl := Option.some.inj h
 exact zp (zAK rfl rfl)
theorem zGz {a_c : zK} {r : List (Int × Bool)} (h : zEw a_c = some r) : PFn Tryz.prog 89 [(AV.agg (zG a_c))] (AV.omap (mI Value.bool r)) := by
 refine zi Tryz.func89 rfl Tryz.ntmps89 Tryz.results89 rfl ?_
 unfold zEw at h
 refine zI <| zC <| zb (H' := [.box 55 (zG a_c)]) (zu (t := 55) rfl) <| zA (zD rfl) <| zF <| zI ?_
 refine zC <| zb (H' := [.box 55 (zG a_c), .map (mI Value.bool ([] : List (Int × Bool)))]) (zJ9) <| zA (zD rfl) <| zF ?_
 refine z5 (fun e' H' => ∃ (l1 : List (Int × Bool)), Rep 27 0 e' H' (mkE [(3, (AV.hd 0))]) [.map (mI Value.bool l1)] ∧ zG3 l1 = some r) ?_ ?_
 ·
  refine zI <| zC <| zA (zM Tryz.underlying55 rfl rfl Tryz.sizeOf53 rfl) <| zA (zN Tryz.isAgg53 rfl rfl rfl rfl) <| zA (zX Tryz.underlying53 rfl) <| zA (zB rfl) ?_
  refine zF <| zS <| z9 (σ := Nat × Int × (List (Int × Bool))) (fun s => s.1) (fun s e' H' => match s with | (n0, i1, l2) => Rep 27 0 e' H' (mkE [(3, (AV.hd 0)), (10, (ls (cS cI) a_c.lists)), (11, (li (a_c.lists.length : Int))), (12, (li i1))]) [.map (mI Value.bool l2)] ∧ zBY a_c n0 i1 l2 = some r) (zAC, 0, ([] : List (Int × Bool))) ⟨zAE [1] rfl rfl (by kernel_rfl), h⟩ ?_
  clear h
  rintro ⟨n0, i1, l2⟩ e' H' ⟨hrep, h⟩
  cases n0 with
  | zero => exact absurd (show (none : Option _) = some r from h) (by simp)
  | succ n0 =>
   replace h : zCR a_c (zBY a_c n0) i1 l2 = some r := h
   unfold zCR at h
   refine zY hrep ?_
   clear hrep
   refine zI <| zC <| zA (zf rfl rfl) <| zF <| zI ?_
   refine zQ (decide (i1 < (a_c.lists.length : Int))) rfl (fun hb1 => ?_) (fun hb1 => ?_)
   ·replace h := zo hb1 h
    refine zR ?_
    refine z5 (fun e' H' => ∃ (l3 : List (Int × Bool)), Rep 27 0 e' H' (mkE [(3, (AV.hd 0)), (10, (ls (cS cI) a_c.lists)), (11, (li (a_c.lists.length : Int))), (12, (li i1))]) [.map (mI Value.bool l3)] ∧ zFO (zBY a_c n0) i1 l3 = some r) ?_ ?_
    ·
     refine zS <| zI <| zC ?_
     have hb3 := (zH h).1
     replace h := (zH h).2
     refine zA (zV Tryz.underlying53 Tryz.sizeOf22 (fun _ => rfl) rfl rfl hb3) <| zA (zW (o := 0) Tryz.isAgg22 rfl rfl) <| zA (zD rfl) <| zF <| zI <| zC ?_
     refine zA (zB rfl) <| zA (zX Tryz.underlying22 rfl) <| zA (zB rfl) <| zF <| zS <| z9 (σ := Nat × Int × (List (Int × Bool))) (fun s => s.1) (fun s e' H' => match s with | (n1, i2, l4) => Rep 27 0 e' H' (mkE [(3, (AV.hd 0)), (10, (ls (cS cI) a_c.lists)), (11, (li (a_c.lists.length : Int))), (12, (li i1)), (16, (ls cI (at_ a_c.lists i1))), (17, (li ((at_ a_c.lists i1).length : Int))), (18, (li i2))]) [.map (mI Value.bool l4)] ∧ zDx (zBY a_c n0) a_c i1 n1 i2 l4 = some r) (zAC, 0, l2) ⟨zAE [0] rfl rfl (by kernel_rfl), h⟩ ?_
     clear h
     rintro ⟨n1, i2, l4⟩ e' H' ⟨hrep, h⟩
     cases n1 with
     | zero => exact absurd (show (none : Option _) = some r from h) (by simp)
     | succ n1 =>
      replace h : zCS (zBY a_c n0) a_c i1 (zDx (zBY a_c n0) a_c i1 n1) i2 l4 = some r := h
      unfold zCS at h
      refine zY hrep ?_
      clear hrep
      refine zI <| zC <| zA (zf rfl rfl) <| zF <| zI ?_
      refine zQ (decide (i2 < ((at_ a_c.lists i1).length : Int))) rfl (fun hb4 => ?_) (fun hb4 => ?_)
      ·replace h := zo hb4 h
       refine zR <| zI <| zS <| zI <| zC ?_
       have hb5 := (zH h).1
       replace h := (zH h).2
       refine zA (zV Tryz.underlying22 Tryz.sizeOf3 (fun _ => rfl) rfl rfl hb5) <| zA (zW (o := 0) Tryz.isAgg3 rfl rfl) <| zA (zD rfl) <| zF <| zC <| zA (zB rfl) ?_
       refine zA (zB rfl) <| zx (H' := [.map (mI Value.bool (zIt l4 (at_ (at_ a_c.lists i1) i2) true))]) (zLV (k := 0) (g := Value.bool) (q := at_ (at_ a_c.lists i1) i2) (l := l4) (v := true) Tryz.underlying58 Tryz.underlying3 rfl rfl rfl rfl) <| zF <| zC ?_
       have hb6 := (zH h).1
       replace h := (zH h).2
       refine zA (ze rfl rfl hb6) <| zA (zB rfl) <| zF ?_
       exact ⟨(n1, (i2 + 1), (zIt l4 (at_ (at_ a_c.lists i1) i2) true)), Nat.lt_succ_self _, zAE [0] rfl rfl (by kernel_rfl), h⟩
      ·replace h := zv hb4 h
       refine z8 ?_
       exact ⟨l4, zAE [0] rfl rfl (by kernel_rfl), h⟩
    ·
     clear h
     rintro e' H' ⟨l3, hrep, h⟩
     refine zY hrep ?_
     clear hrep
     unfold zFO at h
     refine zC ?_
     have hb2 := (zH h).1
     replace h := (zH h).2
     refine zA (ze rfl rfl hb2) <| zA (zB rfl) <| zF ?_
     exact ⟨(n0, (i1 + 1), l3), Nat.lt_succ_self _, zAE [0] rfl rfl (by kernel_rfl), h⟩
   ·replace h := zv hb1 h
    refine z8 ?_
    exact ⟨l2, zAE [0] rfl rfl (by kernel_rfl), h⟩
 ·
  clear h
  rintro e' H' ⟨l1, hrep, h⟩
  refine zY hrep ?_
  clear hrep
  unfold zG3 at h
  refine zI <| zC <| zA (zB rfl) <| zA (zD rfl) <| zF <| za ?_
  show zAS _ _ _ _ _ _
  obtain rfl := Option.some.inj h
  exact zp (zTZ rfl rfl)
theorem zI8 {a_c : zK} {a_zones : Int} {r : Int} (h : zFW a_c a_zones = some r) : PFn Tryz.prog 43 [(AV.agg (zG a_c)), (li a_zones)] (li r) := by
 refine zi Tryz.func43 rfl Tryz.ntmps43 Tryz.results43 rfl ?_
 unfold zFW at h
 refine zI <| zC <| zb (H' := [.box 55 (zG a_c)]) (zu (t := 55) rfl) <| zA (zD rfl) <| zF <| zI ?_
 refine zI <| zC <| zA (zB rfl) <| zA (zf rfl rfl) <| zA (zB rfl) <| zU rfl rfl (fun hc1 => zj.step (zB rfl)) ?_
 refine zU rfl rfl (fun hc2 => zj.step (zAp (zz rfl hc2) rfl)) <| zA (zZ rfl rfl) <| zF ?_
 refine zQ ((decide (a_zones < 1)) || (decide (6 < a_zones))) rfl (fun hb1 => ?_) (fun hb1 => ?_)
 ·replace h := zo hb1 h
  refine zI <| zC <| zA (zD rfl) <| zF <| za ?_
  show zAS _ _ _ _ _ _
  obtain rfl := Option.some.inj h
  exact zp (zAK rfl rfl)
 ·replace h := zv hb1 h
  refine zR <| zI <| zI <| zC <| zA (zM Tryz.underlying55 rfl rfl Tryz.sizeOf53 rfl) <| zA (zN Tryz.isAgg53 rfl rfl rfl rfl) ?_
  refine zA (zX Tryz.underlying53 rfl) <| zA (zB rfl) <| zA (z7 rfl rfl) <| zF ?_
  refine zQ (!decide ((a_c.lists.length : Int) = a_zones)) rfl (fun hb2 => ?_) (fun hb2 => ?_)
  ·replace h := zo hb2 h
   refine zI <| zC <| zA (zD rfl) <| zF <| za ?_
   show zAS _ _ _ _ _ _
   obtain rfl := Option.some.inj h
   exact zp (zAK rfl rfl)
  ·replace h := zv hb2 h
   refine zR <| zI <| zC <| zA (zD rfl) <| zF ?_
   refine z5 (fun e' H' => ∃ (i1 : Int), Rep 48 0 e' H' (mkE [(2, (AV.ptr 0 0)), (5, (li i1))]) [.box 55 (zG a_c)] ∧ zER a_c i1 = some r) ?_ ?_
   ·
    refine zI <| zC <| zA (zM Tryz.underlying55 rfl rfl Tryz.sizeOf53 rfl) <| zA (zN Tryz.isAgg53 rfl rfl rfl rfl) <| zA (zX Tryz.underlying53 rfl) <| zA (zB rfl) ?_
    refine zF <| zS <| z9 (σ := Nat × Int × Int) (fun s => s.1) (fun s e' H' => match s with | (n0, i2, i3) => Rep 48 0 e' H' (mkE [(2, (AV.ptr 0 0)), (5, (li i2)), (22, (ls (cS cI) a_c.lists)), (23, (li (a_c.lists.length : Int))), (24, (li i3))]) [.box 55 (zG a_c)] ∧ zBX a_c n0 i2 i3 = some r) (zAC, 0, 0) ⟨zAE [0] rfl rfl (by kernel_rfl), h⟩ ?_
    clear h
    rintro ⟨n0, i2, i3⟩ e' H' ⟨hrep, h⟩
    cases n0 with
    | zero => exact absurd (show (none : Option _) = some r from h) (by simp)
    | succ n0 =>
     replace h : zCm a_c (zBX a_c n0) i2 i3 = some r := h
     unfold zCm at h
     refine zY hrep ?_
     clear hrep
     refine zI <| zC <| zA (zf rfl rfl) <| zF <| zI ?_
     refine zQ (decide (i3 < (a_c.lists.length : Int))) rfl (fun hb4 => ?_) (fun hb4 => ?_)
     ·replace h := zo hb4 h
      refine zR ?_
      refine z5 (fun e' H' => Rep 48 0 e' H' (mkE [(2, (AV.ptr 0 0)), (5, (li (i2 + ((at_ a_c.lists i3).length : Int)))), (22, (ls (cS cI) a_c.lists)), (23, (li (a_c.lists.length : Int))), (24, (li i3))]) [.box 55 (zG a_c)] ∧ zFq (zBX a_c n0) a_c i2 i3 = some r) ?_ ?_
      ·
       refine zS <| zI <| zC ?_
       have hb6 := (zH h).1
       replace h := (zH h).2
       refine zA (zV Tryz.underlying53 Tryz.sizeOf22 (fun _ => rfl) rfl rfl hb6) <| zA (zW (o := 0) Tryz.isAgg22 rfl rfl) <| zA (zD rfl) <| zF ?_
       refine z5 (fun e' H' => Rep 48 0 e' H' (mkE [(2, (AV.ptr 0 0)), (5, (li i2)), (7, (ls cI (at_ a_c.lists i3))), (22, (ls (cS cI) a_c.lists)), (23, (li (a_c.lists.length : Int))), (24, (li i3))]) [.box 55 (zG a_c)] ∧ zF2 (zBX a_c n0) a_c i2 i3 = some r) ?_ ?_
       ·
        refine zI <| zC <| zA (zB rfl) <| zA (zX Tryz.underlying22 rfl) <| zA (zB rfl) <| zF ?_
        refine zS <| z9 (σ := Nat × Int) (fun s => s.1) (fun s e' H' => match s with | (n1, i4) => Rep 48 0 e' H' (mkE [(2, (AV.ptr 0 0)), (5, (li i2)), (7, (ls cI (at_ a_c.lists i3))), (22, (ls (cS cI) a_c.lists)), (23, (li (a_c.lists.length : Int))), (24, (li i3)), (28, (ls cI (at_ a_c.lists i3))), (29, (li ((at_ a_c.lists i3).length : Int))), (30, (li i4))]) [.box 55 (zG a_c)] ∧ zEU (zBX a_c n0) a_c i2 i3 n1 i4 = some r) (zAC, 0) ⟨zAE [0] rfl rfl (by kernel_rfl), h⟩ ?_
        clear h
        rintro ⟨n1, i4⟩ e' H' ⟨hrep, h⟩
        cases n1 with
        | zero => exact absurd (show (none : Option _) = some r from h) (by simp)
        | succ n1 =>
         replace h : zCc (zBX a_c n0) a_c i2 i3 (zEU (zBX a_c n0) a_c i2 i3 n1) i4 = some r := h
         unfold zCc at h
         refine zY hrep ?_
         clear hrep
         refine zI <| zC <| zA (zf rfl rfl) <| zF <| zI ?_
         refine zQ (decide (i4 < ((at_ a_c.lists i3).length : Int))) rfl (fun hb8 => ?_) (fun hb8 => ?_)
         ·replace h := zo hb8 h
          refine zR <| zI <| zS <| zI <| zC ?_
          have hb9 := (zH h).1
          replace h := (zH h).2
          refine zA (zV Tryz.underlying22 Tryz.sizeOf3 (fun _ => rfl) rfl rfl hb9) <| zA (zW (o := 0) Tryz.isAgg3 rfl rfl) <| zA (zD rfl) <| zF <| zI <| zC ?_
          refine zA (zB rfl) ?_
          refine zP h ?_; clear h; intro x2 hx2 h
          refine zd Tryz.func88 rfl (by kernel_rfl) (.fn 88) rfl rfl (zGS hx2) rfl <| zA (zA8 (t := x2) rfl) <| zF ?_
          refine zQ (!x2) rfl (fun hb10 => ?_) (fun hb10 => ?_)
          ·replace h := zo hb10 h
           refine zI <| zC <| zA (zD rfl) <| zF <| za ?_
           show zAS _ _ _ _ _ _
           obtain rfl := Option.some.inj h
           exact zp (zAK rfl rfl)
          ·replace h := zv hb10 h
           refine zR <| zC ?_
           have hb11 := (zH h).1
           replace h := (zH h).2
           refine zA (ze rfl rfl hb11) <| zA (zB rfl) <| zF ?_
           exact ⟨(n1, (i4 + 1)), Nat.lt_succ_self _, zAE [0] rfl rfl (by kernel_rfl), h⟩
         ·replace h := zv hb8 h
          refine z8 ?_
          exact ⟨zAE [0] rfl rfl (by kernel_rfl), h⟩
       ·
        clear h
        rintro e' H' ⟨hrep, h⟩
        refine zY hrep ?_
        clear hrep
        unfold zF2 at h
        refine zC <| zA (zB rfl) <| zA (zB rfl) <| zA (zX Tryz.underlying22 rfl) ?_
        have hb7 := (zH h).1
        replace h := (zH h).2
        refine zA (ze rfl rfl hb7) <| zA (zD rfl) <| zF ?_
        exact ⟨zAE [0] rfl rfl (by kernel_rfl), h⟩
      ·
       clear h
       rintro e' H' ⟨hrep, h⟩
       refine zY hrep ?_
       clear hrep
       unfold zFq at h
       refine zC ?_
       have hb5 := (zH h).1
       replace h := (zH h).2
       refine zA (ze rfl rfl hb5) <| zA (zB rfl) <| zF ?_
       exact ⟨(n0, (i2 + ((at_ a_c.lists i3).length : Int)), (i3 + 1)), Nat.lt_succ_self _, zAE [0] rfl rfl (by kernel_rfl), h⟩
     ·replace h := zv hb4 h
      refine z8 ?_
      exact ⟨i2, zAE [0] rfl rfl (by kernel_rfl), h⟩
   ·
    clear h
    rintro e' H' ⟨i1, hrep, h⟩
    refine zY hrep ?_
    clear hrep
    unfold zER at h
    refine zI <| zI <| zC <| zA (zT (k := 0) (o := 0) (m := 1) Tryz.isAgg55 Tryz.sizeOf55 rfl rfl rfl rfl rfl) ?_
    refine zP h ?_; clear h; intro x1 hx1 h
    refine zLR (es := mI Value.bool x1) (la := [(AV.agg (zG a_c))]) (la' := [(AV.agg (zG a_c))]) (S := []) Tryz.func89 rfl (by kernel_rfl) (.fn 89) rfl ⟨zAt.nr rfl, trivial⟩ (zGz hx1) <| zA (zOu (k := 1) (g := Value.bool) (l := x1) Tryz.underlying58 rfl rfl) <| zA (zB rfl) <| zA (z7 rfl rfl) <| zF ?_
    refine zQ (!decide ((x1.length : Int) = i1)) rfl (fun hb3 => ?_) (fun hb3 => ?_)
    ·replace h := zo hb3 h
     refine zI <| zC <| zA (zD rfl) <| zF <| za ?_
     show zAS _ _ _ _ _ _
     obtain rfl := Option.some.inj h
     exact zp (zAK rfl rfl)
    ·replace h := zv hb3 h
     refine zR <| zI <| zC <| zA (zD rfl) <| zF <| za ?_
     show zAS _ _ _ _ _ _
     obtain rfl := Option.some.inj h
     exact zp (zAK rfl rfl)
theorem zJh {a_z : zm} {c_0 : Int} {r : Bool} (h : zCN a_z c_0 = some r) : PFn Tryz.prog 91 [(AV.agg (zO a_z)), (AV.rp [(li c_0)] 0)] (AV.lit (.bool r)) := by
 refine zi Tryz.func91 rfl Tryz.ntmps91 Tryz.results91 rfl ?_
 unfold zCN at h
 refine zI <| zC <| zb (H' := [.box 51 (zO a_z)]) (zu (t := 51) rfl) <| zA (zD rfl) <| zF <| zI ?_
 refine zC <| zA (zW (o := 0) Tryz.isAgg3 rfl rfl) <| zA (zM Tryz.underlying51 rfl rfl Tryz.sizeOf3 rfl) <| zA (zN Tryz.isAgg3 rfl rfl rfl rfl) <| zA (zAq rfl rfl) <| zA (zB rfl) ?_
 refine zg rfl rfl (fun hc1 => zj.step (zW (o := 0) Tryz.isAgg3 rfl rfl)) <| zg rfl rfl (fun hc2 => zj.step (zM Tryz.underlying51 rfl rfl Tryz.sizeOf3 rfl)) <| zg rfl rfl (fun hc3 => zj.step (zN Tryz.isAgg3 (zz rfl hc3) rfl rfl rfl)) <| zg rfl rfl (fun hc4 => zj.step (zM Tryz.underlying51 rfl rfl Tryz.sizeOf3 rfl)) <| zg rfl rfl (fun hc5 => zj.step (zN Tryz.isAgg3 (zz rfl hc5) rfl rfl rfl)) ?_
 have hb1 := (zH h).1
 replace h := (zH h).2
 refine zg rfl rfl (fun hc6 => zj.step (ze (zz rfl hc6) (zz rfl hc6) (zFp hb1 hc6))) <| zg rfl rfl (fun hc7 => zj.step (zf (zz rfl hc7) (zz rfl hc7))) <| zA (zy (j := .lit undef) rfl rfl) <| zA (zD rfl) <| zF <| za ?_
 show zAS _ _ _ _ _ _
 obtain rfl := Option.some.inj h
 exact zp (zAK rfl rfl)
theorem zEq {a_s : List zm} {a_f : zm → Option Bool} {g_a_f : FuncId} {cf_a_f : Func} {code_a_f : Code} {caps_a_f : List AV} (hcf_a_f : Tryz.prog.funcs[g_a_f]? = some cf_a_f) (hcb_a_f : cf_a_f.body = some code_a_f) (hcn_a_f : (cf_a_f.name == "runtime.NumGoroutine") = false) (hnr_a_f : caps_a_f.all nr = true) (hg_a_f : ∀ {x0 : zm} {y : Bool}, a_f x0 = some y → PFn Tryz.prog g_a_f ((AV.agg (zO x0)) :: caps_a_f) (AV.lit (.bool y))) {r : Int} (h : zA4 a_s a_f = some r) : PFn Tryz.prog 90 [(ls zO a_s), (AV.clo g_a_f caps_a_f)] (li r) := by
 refine zi Tryz.func90 rfl Tryz.ntmps90 Tryz.results90 rfl ?_
 unfold zA4 at h
 refine zI <| zC <| zA (zD rfl) <| zF ?_
 refine z5 (fun e' H' => Rep 19 0 e' H' (mkE []) [] ∧ zBJ  = some r) ?_ ?_
 ·
  refine zI <| zC <| zA (zB rfl) <| zA (zX Tryz.underlying23 rfl) <| zA (zB rfl) <| zF ?_
  refine zS <| z9 (σ := Nat × Int) (fun s => s.1) (fun s e' H' => match s with | (n0, i1) => Rep 19 0 e' H' (mkE [(0, (ls zO a_s)), (1, (AV.clo g_a_f caps_a_f)), (7, (li (a_s.length : Int))), (8, (li i1))]) [] ∧ zAd a_s a_f n0 i1 = some r) (zAC, 0) ⟨zBd (n := 19) (m := 0) [] (l := [(0, (ls zO a_s)), (1, (AV.clo g_a_f caps_a_f)), (7, (li (a_s.length : Int))), (8, (li 0))]) ⟨⟨Sub.refl _, by kernel_rfl⟩, ⟨zD9 hnr_a_f, zEA hnr_a_f⟩, ⟨Sub.refl _, by kernel_rfl⟩, ⟨Sub.refl _, by kernel_rfl⟩, trivial⟩ rfl rfl trivial, h⟩ ?_
  clear h
  rintro ⟨n0, i1⟩ e' H' ⟨hrep, h⟩
  cases n0 with
  | zero => exact absurd (show (none : Option _) = some r from h) (by simp)
  | succ n0 =>
   replace h : zAG a_s a_f (zAd a_s a_f n0) i1 = some r := h
   unfold zAG at h
   refine zY hrep ?_
   clear hrep
   refine zI <| zC <| zA (zf rfl rfl) <| zF <| zI ?_
   refine zQ (decide (i1 < (a_s.length : Int))) rfl (fun hb1 => ?_) (fun hb1 => ?_)
   ·replace h := zo hb1 h
    refine zR <| zI <| zS <| zI <| zC <| zA (zB rfl) ?_
    refine zA (zD rfl) <| zF <| zI <| zC <| zA (zB rfl) <| zA (zB rfl) ?_
    refine zA (zB rfl) ?_
    have hb2 := (zH h).1
    replace h := (zH h).2
    refine zA (zV Tryz.underlying23 Tryz.sizeOf51 (fun _ => rfl) rfl rfl hb2) <| zA (zAi (row := (zO (at_ a_s i1))) (o := 0) (m := 10) (la := (zO (at_ a_s i1))) Tryz.isAgg51 Tryz.sizeOf51 rfl rfl rfl) ?_
    refine zP h ?_; clear h; intro x1 hx1 h
    refine zA3 (S := []) hcf_a_f hcb_a_f hcn_a_f (.clo (caps := caps_a_f) rfl) rfl (zDJ.c (zAt.nr rfl) (zDJ.nrs hnr_a_f)) (hg_a_f hx1) (.inl rfl) rfl <| zF ?_
    refine zQ (x1) rfl (fun hb3 => ?_) (fun hb3 => ?_)
    ·replace h := zo hb3 h
     refine zI <| zC <| zA (zB rfl) <| zA (zD rfl) <| zF <| za ?_
     show zAS _ _ _ _ _ _
     obtain rfl := Option.some.inj h
     exact zp (zAK rfl rfl)
    ·replace h := zv hb3 h
     refine zR <| zC ?_
     have hb4 := (zH h).1
     replace h := (zH h).2
     refine zA (ze rfl rfl hb4) <| zA (zB rfl) <| zF ?_
     exact ⟨(n0, (i1 + 1)), Nat.lt_succ_self _, zBd (n := 19) (m := 0) [] (l := [(0, (ls zO a_s)), (1, (AV.clo g_a_f caps_a_f)), (7, (li (a_s.length : Int))), (8, (li (i1 + 1)))]) ⟨⟨Sub.refl _, by kernel_rfl⟩, ⟨zD9 hnr_a_f, zEA hnr_a_f⟩, ⟨Sub.refl _, by kernel_rfl⟩, ⟨Sub.refl _, by kernel_rfl⟩, trivial⟩ rfl rfl trivial, h⟩
   ·replace h := zv hb1 h
    refine z8 ?_
    exact ⟨zAE [] rfl rfl (by kernel_rfl), h⟩
 ·
  clear h
  rintro e' H' ⟨hrep, h⟩
  refine zY hrep ?_
  clear hrep
  unfold zBJ at h
  refine zI <| zC <| zA (zD rfl) <| zF <| za ?_
  show zAS _ _ _ _ _ _
  obtain rfl := Option.some.inj h
  exact zp (zAK rfl rfl)
theorem zEl {a_a : zL} {a_frame : Int} {r : Int} (h : zCZ a_a a_frame = some r) : PFn Tryz.prog 44 [(AV.agg (zJ a_a)), (li a_frame)] (li r) := by
 refine zi Tryz.func44 rfl Tryz.ntmps44 Tryz.results44 rfl ?_
 unfold zCZ at h
 refine zI <| zC <| zb (H' := [.box 26 (zJ a_a)]) (zu (t := 26) rfl) <| zb (H' := [.box 26 (zJ a_a), .box 3 [(li a_frame)]]) (zIG (t := 3) (a := (li a_frame)) rfl rfl) <| zA (zD rfl) <| zF ?_
 refine zI <| zC <| zA (zM Tryz.underlying26 rfl rfl Tryz.sizeOf23 rfl) <| zA (zN Tryz.isAgg23 rfl rfl rfl rfl) <| zA (zJs (la := [(AV.ptr 1 0)]) rfl) ?_
 refine zP h ?_; clear h; intro x1 hx1 h
 refine zA3 (r' := (li x1)) (la := [(ls zO a_a.zones), (AV.clo 91 [(AV.ptr 1 0)])]) (la' := [(ls zO a_a.zones), (AV.clo 91 [(AV.rp [(li a_frame)] 0)])]) (r := (li x1)) (S := [1]) Tryz.func90 rfl (by kernel_rfl) (.fn 90) rfl ⟨zAt.nr rfl, zAt.clo (⟨zAt.ptr (cs := [(li a_frame)]) rfl rfl rfl, trivial⟩), trivial⟩ (zEq Tryz.func91 rfl (by kernel_rfl) rfl (fun hy => zJh  hy) hx1) (.inr trivial) rfl <| zA (zD rfl) <| zF <| za ?_
 show zAS _ _ _ _ _ _
 obtain rfl := Option.some.inj h
 exact zp (zAK rfl rfl)
theorem zJe {a_z : zm} {a_frame : Int} {r : Int × Int} (h : zHa a_z a_frame = some r) : PFn Tryz.prog 92 [(AV.agg (zO a_z)), (li a_frame)] (AV.tup [(li r.1), (li r.2)]) := by
 refine zi Tryz.func92 rfl Tryz.ntmps92 Tryz.results92 rfl ?_
 unfold zHa at h
 refine zI <| zC <| zb (H' := [.box 51 (zO a_z)]) (zu (t := 51) rfl) <| zA (zD rfl) <| zA (zD rfl) <| zF ?_
 refine z5 (fun e' H' => Rep 31 0 e' H' (mkE []) [] ∧ zHu  = some r) ?_ ?_
 ·
  refine zI <| zC <| zA (zB rfl) <| zF <| zS <| z9 (σ := Nat × Int) (fun s => s.1) (fun s e' H' => match s with | (n0, i1) => Rep 31 0 e' H' (mkE [(1, (li a_frame)), (2, (AV.ptr 0 0)), (10, (li i1))]) [.box 51 (zO a_z)] ∧ zC8 a_z a_frame n0 i1 = some r) (zAC, 0) ⟨zAE [0] rfl rfl (by kernel_rfl), h⟩ ?_
  clear h
  rintro ⟨n0, i1⟩ e' H' ⟨hrep, h⟩
  cases n0 with
  | zero => exact absurd (show (none : Option _) = some r from h) (by simp)
  | succ n0 =>
   replace h : zDP a_z a_frame (zC8 a_z a_frame n0) i1 = some r := h
   unfold zDP at h
   refine zY hrep ?_
   clear hrep
   refine zI <| zC <| zA (zf rfl rfl) <| zF <| zI ?_
   refine zQ (decide (i1 < 5)) rfl (fun hb1 => ?_) (fun hb1 => ?_)
   ·replace h := zo hb1 h
    refine zR <| zI <| zS <| zI <| zC <| zA (zB rfl) ?_
    refine zA (zD rfl) <| zF <| zI <| zC <| zA (zB rfl) <| zA (zB rfl) ?_
    have hb2 := (zH h).1
    replace h := (zH h).2
    have hb3 := (zH h).1
    replace h := (zH h).2
    refine zA (zDp (a := 1) (b := i1) rfl rfl hb2 hb3) ?_
    have hb4 := (zH h).1
    replace h := (zH h).2
    refine zA (zB5 rfl rfl hb4) <| zA (zNZ (k := .i64) (a := a_frame) (b := ((1 : Int) * 2 ^ i1.toNat) - 1) rfl rfl) <| zA (zD rfl) <| zF <| zI <| zC ?_
    refine zA (zB rfl) <| zA (zM Tryz.underlying51 rfl rfl Tryz.sizeOf49 rfl) ?_
    have hb5 := (zH h).1
    replace h := (zH h).2
    refine zA (zAL (m := 5) (s := 1) (i := i1) (k := 0) (o := 5) Tryz.underlying49 Tryz.sizeOf22 rfl rfl hb5) <| zA (zAm (k := 0) (o := (5 + i1.toNat * 1)) (cs := (zO a_z)) (hd := ([(li a_z.node)] ++ [(li a_z.kind)] ++ [(li a_z.start)] ++ [(li a_z.count)] ++ [(li a_z.min)] ++ [])) (tl := ([])) (g := (eS cI)) (d0 := ([] : List Int)) (l := a_z.free) (N := 5) (i := i1.toNat) (a := (ls cI (a_z.free.getD i1.toNat ([] : List Int)))) Tryz.isAgg22 rfl rfl rfl (congrArg (fun q => 5 + q) (Nat.mul_one _)) (zBW hb5).2 rfl rfl) <| zA (zB rfl) ?_
    refine zP h ?_; clear h; intro x1 hx1 h
    refine zd Tryz.func87 rfl (by kernel_rfl) (.fn 87) rfl rfl (zAw hx1) rfl <| zA (zB rfl) <| zA (zl rfl rfl) <| zA (zl rfl rfl) <| zA (zD rfl) <| zA (zD rfl) ?_
    refine zF <| zI <| zC <| zA (zB rfl) <| zF ?_
    refine zQ (x1.2) rfl (fun hb6 => ?_) (fun hb6 => ?_)
    ·replace h := zo hb6 h
     refine zI <| zC <| zA (zB rfl) <| zA (zB rfl) <| zA (zD rfl) <| zA (zD rfl) ?_
     refine zF <| za ?_
     show zAS _ _ _ _ _ _
     obtain rfl := Option.some.inj h
     exact zC1 (zAK rfl rfl) (zAK rfl rfl) rfl
    ·replace h := zv hb6 h
     refine zR <| zC ?_
     have hb7 := (zH h).1
     replace h := (zH h).2
     refine zA (ze rfl rfl hb7) <| zA (zB rfl) <| zF ?_
     exact ⟨(n0, (i1 + 1)), Nat.lt_succ_self _, zAE [0] rfl rfl (by kernel_rfl), h⟩
   ·replace h := zv hb1 h
    refine z8 ?_
    exact ⟨zAE [] rfl rfl (by kernel_rfl), h⟩
 ·
  clear h
  rintro e' H' ⟨hrep, h⟩
  refine zY hrep ?_
  clear hrep
  unfold zHu at h
  refine zI <| zC <| zA (zD rfl) <| zA (zD rfl) <| zF <| za ?_
  show zAS _ _ _ _ _ _
  obtain rfl := Option.some.inj h
  exact zC1 (zAK rfl rfl) (zAK rfl rfl) rfl
theorem zJC {a_z : zm} {a_frame : Int} {r : Bool} (h : zFY a_z a_frame = some r) : PFn Tryz.prog 45 [(AV.agg (zO a_z)), (li a_frame)] (AV.lit (.bool r)) := by
 refine zi Tryz.func45 rfl Tryz.ntmps45 Tryz.results45 rfl ?_
 unfold zFY at h
 refine zI <| zC <| zb (H' := [.box 51 (zO a_z)]) (zu (t := 51) rfl) <| zA (zD rfl) <| zF <| zI ?_
 refine zI <| zC <| zA (zT (k := 0) (o := 0) (m := 10) Tryz.isAgg51 Tryz.sizeOf51 rfl rfl rfl rfl rfl) ?_
 refine zP h ?_; clear h; intro x1 hx1 h
 refine zd Tryz.func42 rfl (by kernel_rfl) (.fn 42) rfl rfl (zD6 hx1) rfl <| zA (z7 rfl rfl) <| zA (zB rfl) <| zU rfl rfl (fun hc1 => zj.step (zT (k := 0) (o := 0) (m := 10) Tryz.isAgg51 Tryz.sizeOf51 rfl rfl rfl rfl rfl)) <| zU rfl rfl (fun hc2 => zj.step (zB rfl)) ?_
 refine zP h ?_; clear h; intro x2 hx2 h
 refine zBZ (g := 10) (s := !decide (x1 = 0)) (r' := (AV.lit (.bool x2))) rfl rfl (fun hc3 => ⟨86, _, _, [], [(AV.agg (zO a_z)), (li a_frame), (li 0)], [(AV.agg ([(li a_z.node)] ++ ([(li a_z.kind)] ++ ([(li a_z.start)] ++ ([(li a_z.count)] ++ ([(li a_z.min)] ++ ([AV.any, AV.any, AV.any, AV.any, AV.any] ++ []))))))), (li a_frame), (li 0)], (AV.lit (.bool x2)), [], Tryz.func86, rfl, by kernel_rfl, (.fn 86), (zAF (zz rfl hc3) (zAF (zz rfl hc3) (zAF rfl rfl))), ⟨zJy (hd := ([(li a_z.node)] ++ [(li a_z.kind)] ++ [(li a_z.start)] ++ [(li a_z.count)] ++ [(li a_z.min)])) (tl := ((cA 5 (eS cI) ([] : List Int) a_z.free))) rfl, zAt.nr rfl, zAt.nr rfl, trivial⟩, zEe (zo hc3 hx2), .inl rfl, rfl⟩) <| zU rfl rfl (fun hc4 => zj.step (zA8 (t := x2) (zz rfl hc4))) <| zA (zZ rfl rfl) <| zF ?_
 refine zQ ((!decide (x1 = 0)) || (!x2)) rfl (fun hb1 => ?_) (fun hb1 => ?_)
 ·replace h := zo hb1 h
  refine zI <| zC <| zA (zD rfl) <| zF <| za ?_
  show zAS _ _ _ _ _ _
  obtain rfl := Option.some.inj h
  exact zp (zAK rfl rfl)
 ·replace h := zv hb1 h
  refine zR <| zI <| zC <| zA (zT (k := 0) (o := 0) (m := 10) Tryz.isAgg51 Tryz.sizeOf51 rfl rfl rfl rfl rfl) <| zA (zB rfl) ?_
  refine zP h ?_; clear h; intro x3 hx3 h
  refine zd Tryz.func92 rfl (by kernel_rfl) (.fn 92) rfl rfl (zJe hx3) rfl <| zA (zB rfl) <| zA (zl rfl rfl) <| zA (zl rfl rfl) <| zA (zD rfl) <| zA (zD rfl) ?_
  refine zF <| zI <| zC <| zA (zB rfl) <| zA (zAq rfl rfl) <| zA (zD rfl) ?_
  refine zF <| za ?_
  show zAS _ _ _ _ _ _
  obtain rfl := Option.some.inj h
  exact zp (zAK rfl rfl)
theorem zAn {a_p0 : zL} {r : Int} (h : zAk a_p0 = some r) : PFn Tryz.prog 13 [(AV.agg (zJ a_p0))] (li r) := by
 refine zi Tryz.func13 rfl Tryz.ntmps13 Tryz.results13 rfl ?_
 unfold zAk at h
 refine zI <| zC <| zb (H' := [.box 26 (zJ a_p0)]) (zu (t := 26) rfl) <| zA (zD rfl) <| zF <| zI ?_
 refine zI <| zC <| zA (zT (k := 0) (o := 0) (m := 5) Tryz.isAgg26 Tryz.sizeOf26 rfl rfl rfl rfl rfl) ?_
 refine zP h ?_; clear h; intro x1 hx1 h
 refine zd Tryz.func41 rfl (by kernel_rfl) (.fn 41) rfl rfl (zHB hx1) rfl <| zA (zA8 (t := x1) rfl) <| zF ?_
 refine zQ (!x1) rfl (fun hb1 => ?_) (fun hb1 => ?_)
 ·replace h := zo hb1 h
  refine zI <| zC <| zA (zD rfl) <| zF <| za ?_
  show zAS _ _ _ _ _ _
  obtain rfl := Option.some.inj h
  exact zp (zAK rfl rfl)
 ·replace h := zv hb1 h
  refine zR <| zI <| zC <| zA (zD rfl) <| zF ?_
  refine z5 (fun e' H' => Rep 123 0 e' H' (mkE [(1, (AV.ptr 0 0))]) [.box 26 (zJ a_p0)] ∧ zCy a_p0 = some r) ?_ ?_
  ·
   refine zI <| zC <| zA (zM Tryz.underlying26 rfl rfl Tryz.sizeOf23 rfl) <| zA (zN Tryz.isAgg23 rfl rfl rfl rfl) <| zA (zX Tryz.underlying23 rfl) <| zA (zB rfl) ?_
   refine zF <| zS <| z9 (σ := Nat × Int × Int) (fun s => s.1) (fun s e' H' => match s with | (n5, i6, i7) => Rep 123 0 e' H' (mkE [(1, (AV.ptr 0 0)), (3, (li i6)), (23, (ls zO a_p0.zones)), (24, (li (a_p0.zones.length : Int))), (25, (li i7))]) [.box 26 (zJ a_p0)] ∧ zC0 a_p0 n5 i6 i7 = some r) (zAC, 0, 0) ⟨zAE [0] rfl rfl (by kernel_rfl), h⟩ ?_
   clear h
   rintro ⟨n5, i6, i7⟩ e' H' ⟨hrep, h⟩
   cases n5 with
   | zero => exact absurd (show (none : Option _) = some r from h) (by simp)
   | succ n5 =>
    replace h : zBq a_p0 (zC0 a_p0 n5) i6 i7 = some r := h
    unfold zBq at h
    refine zY hrep ?_
    clear hrep
    refine zI <| zC <| zA (zf rfl rfl) <| zF <| zI ?_
    refine zQ (decide (i7 < (a_p0.zones.length : Int))) rfl (fun hb23 => ?_) (fun hb23 => ?_)
    ·replace h := zo hb23 h
     refine zR <| zI <| zS <| zI <| zC ?_
     have hb24 := (zH h).1
     replace h := (zH h).2
     refine zA (zV Tryz.underlying23 Tryz.sizeOf51 (fun _ => rfl) rfl rfl hb24) <| zA (zAi (row := (zO (at_ a_p0.zones i7))) (o := 0) (m := 10) (la := (zO (at_ a_p0.zones i7))) Tryz.isAgg51 Tryz.sizeOf51 rfl rfl rfl) <| zb (H' := [.box 26 (zJ a_p0), .box 51 ([(li 0)] ++ ([(li 0)] ++ ([(li 0)] ++ ([(li 0)] ++ ([(li 0)] ++ ((cA 5 (eS cI) ([] : List Int) (List.replicate 5 ([] : List Int))) ++ []))))))]) (z6 (t := 51) (vs := [.int .i64 0, .int .i64 0, .int .i64 0, .int .i64 0, .int .i64 0, .slice none 0 0, .slice none 0 0, .slice none 0 0, .slice none 0 0, .slice none 0 0]) (cs := [.lit (.int .i64 0), .lit (.int .i64 0), .lit (.int .i64 0), .lit (.int .i64 0), .lit (.int .i64 0), .sl false [], .sl false [], .sl false [], .sl false [], .sl false []]) Tryz.zeroValue51 (by kernel_rfl) rfl ⟨zq.refl _, zq.refl _, zq.refl _, zq.refl _, zq.refl _, zq.nils, zq.nils, zq.nils, zq.nils, zq.nils, trivial⟩) <| zx (H' := [.box 26 (zJ a_p0), .box 51 (zO (at_ a_p0.zones i7))]) (zh (k := 1) (o := 0) (cs := ([(li 0)] ++ ([(li 0)] ++ ([(li 0)] ++ ([(li 0)] ++ ([(li 0)] ++ ((cA 5 (eS cI) ([] : List Int) (List.replicate 5 ([] : List Int))) ++ []))))))) (la := (zO (at_ a_p0.zones i7))) Tryz.sizeOf51 rfl rfl rfl rfl) <| zF <| zI ?_
     refine zI <| zC <| zA (zT (k := 1) (o := 0) (m := 10) Tryz.isAgg51 Tryz.sizeOf51 rfl rfl rfl rfl rfl) ?_
     refine zP h ?_; clear h; intro x5 hx5 h
     refine zd Tryz.func42 rfl (by kernel_rfl) (.fn 42) rfl rfl (zD6 hx5) rfl <| zA (zD rfl) <| zF <| zI <| zC <| zA (zB rfl) ?_
     refine zA (z7 rfl rfl) <| zF ?_
     refine zQ (!decide (x5 = 0)) rfl (fun hb25 => ?_) (fun hb25 => ?_)
     ·replace h := zo hb25 h
      refine zI <| zC <| zA (zB rfl) <| zA (zD rfl) <| zF <| za ?_
      show zAS _ _ _ _ _ _
      obtain rfl := Option.some.inj h
      exact zp (zAK rfl rfl)
     ·replace h := zv hb25 h
      refine zR <| zI <| zI <| zC <| zA (zM Tryz.underlying51 rfl rfl Tryz.sizeOf3 rfl) <| zA (zN Tryz.isAgg3 rfl rfl rfl rfl) ?_
      refine zA (zB rfl) <| zA (z7 rfl rfl) <| zF ?_
      refine zQ (!decide (((at_ a_p0.zones i7).start) = i6)) rfl (fun hb26 => ?_) (fun hb26 => ?_)
      ·replace h := zo hb26 h
       refine zI <| zC <| zA (zD rfl) <| zF <| za ?_
       show zAS _ _ _ _ _ _
       obtain rfl := Option.some.inj h
       exact zp (zAK rfl rfl)
      ·replace h := zv hb26 h
       refine zR <| zC <| zA (zB rfl) <| zA (zM Tryz.underlying51 rfl rfl Tryz.sizeOf3 rfl) <| zA (zN Tryz.isAgg3 rfl rfl rfl rfl) ?_
       have hb27 := (zH h).1
       replace h := (zH h).2
       refine zA (ze rfl rfl hb27) <| zA (zD rfl) <| zF <| zC ?_
       have hb28 := (zH h).1
       replace h := (zH h).2
       refine zA (ze rfl rfl hb28) <| zA (zB rfl) <| zF ?_
       exact ⟨(n5, (i6 + ((at_ a_p0.zones i7).count)), (i7 + 1)), Nat.lt_succ_self _, zAE [0] rfl rfl (by kernel_rfl), h⟩
    ·replace h := zv hb23 h
     refine z8 ?_
     exact ⟨zAE [0] rfl rfl (by kernel_rfl), h⟩
  ·
   clear h
   rintro e' H' ⟨hrep, h⟩
   refine zY hrep ?_
   clear hrep
   unfold zCy at h
   refine zI <| zI <| zC <| zA (zM Tryz.underlying26 rfl rfl Tryz.sizeOf24 rfl) <| zA (zN Tryz.isAgg24 rfl rfl rfl rfl) <| zA (zX Tryz.underlying24 rfl) ?_
   refine zA (zM Tryz.underlying26 rfl rfl Tryz.sizeOf22 rfl) <| zA (zN Tryz.isAgg22 rfl rfl rfl rfl) <| zA (zX Tryz.underlying22 rfl) <| zA (z7 rfl rfl) <| zF ?_
   refine zQ (!decide ((a_p0.caches.length : Int) = (a_p0.nodes.length : Int))) rfl (fun hb2 => ?_) (fun hb2 => ?_)
   ·replace h := zo hb2 h
    refine zI <| zC <| zA (zD rfl) <| zF <| za ?_
    show zAS _ _ _ _ _ _
    obtain rfl := Option.some.inj h
    exact zp (zAK rfl rfl)
   ·replace h := zv hb2 h
    refine zR ?_
    refine z5 (fun e' H' => Rep 123 0 e' H' (mkE [(1, (AV.ptr 0 0))]) [.box 26 (zJ a_p0)] ∧ zC4 a_p0 = some r) ?_ ?_
    ·
     refine zI <| zC <| zA (zM Tryz.underlying26 rfl rfl Tryz.sizeOf24 rfl) <| zA (zN Tryz.isAgg24 rfl rfl rfl rfl) <| zA (zX Tryz.underlying24 rfl) <| zA (zB rfl) ?_
     refine zF <| zS <| z9 (σ := Nat × Int) (fun s => s.1) (fun s e' H' => match s with | (n3, i4) => Rep 123 0 e' H' (mkE [(1, (AV.ptr 0 0)), (51, (ls zG a_p0.caches)), (52, (li (a_p0.caches.length : Int))), (53, (li i4))]) [.box 26 (zJ a_p0)] ∧ zBE a_p0 n3 i4 = some r) (zAC, 0) ⟨zAE [0] rfl rfl (by kernel_rfl), h⟩ ?_
     clear h
     rintro ⟨n3, i4⟩ e' H' ⟨hrep, h⟩
     cases n3 with
     | zero => exact absurd (show (none : Option _) = some r from h) (by simp)
     | succ n3 =>
      replace h : zBm a_p0 (zBE a_p0 n3) i4 = some r := h
      unfold zBm at h
      refine zY hrep ?_
      clear hrep
      refine zI <| zC <| zA (zf rfl rfl) <| zF <| zI ?_
      refine zQ (decide (i4 < (a_p0.caches.length : Int))) rfl (fun hb15 => ?_) (fun hb15 => ?_)
      ·replace h := zo hb15 h
       refine zR ?_
       refine z5 (fun e' H' => Rep 123 0 e' H' (mkE [(1, (AV.ptr 0 0)), (51, (ls zG a_p0.caches)), (52, (li (a_p0.caches.length : Int))), (53, (li i4))]) [.box 26 (zJ a_p0)] ∧ zEL (zBE a_p0 n3) i4 = some r) ?_ ?_
       ·
        refine zS <| zI <| zC ?_
        have hb17 := (zH h).1
        replace h := (zH h).2
        refine zA (zV Tryz.underlying24 Tryz.sizeOf55 (fun _ => rfl) rfl rfl hb17) <| zA (zAi (row := (zG (at_ a_p0.caches i4))) (o := 0) (m := 1) (la := (zG (at_ a_p0.caches i4))) Tryz.isAgg55 Tryz.sizeOf55 rfl rfl rfl) <| zb (H' := [.box 26 (zJ a_p0), .box 55 ([(ls (cS cI) ([] : List (List Int)))] ++ [])]) (z6 (t := 55) (vs := [.slice none 0 0]) (cs := [.sl false []]) Tryz.zeroValue55 (by kernel_rfl) rfl ⟨zq.nils, trivial⟩) <| zx (H' := [.box 26 (zJ a_p0), .box 55 (zG (at_ a_p0.caches i4))]) (zh (k := 1) (o := 0) (cs := ([(ls (cS cI) ([] : List (List Int)))] ++ [])) (la := (zG (at_ a_p0.caches i4))) Tryz.sizeOf55 rfl rfl rfl rfl) <| zF <| zI ?_
        refine zI <| zC <| zA (zT (k := 1) (o := 0) (m := 1) Tryz.isAgg55 Tryz.sizeOf55 rfl rfl rfl rfl rfl) <| zA (zM Tryz.underlying26 rfl rfl Tryz.sizeOf23 rfl) <| zA (zN Tryz.isAgg23 rfl rfl rfl rfl) <| zA (zX Tryz.underlying23 rfl) ?_
        refine zP h ?_; clear h; intro x4 hx4 h
        refine zd Tryz.func43 rfl (by kernel_rfl) (.fn 43) rfl rfl (zI8 hx4) rfl <| zA (zD rfl) <| zF <| zI <| zC <| zA (zB rfl) ?_
        refine zA (z7 rfl rfl) <| zF ?_
        refine zQ (!decide (x4 = 0)) rfl (fun hb18 => ?_) (fun hb18 => ?_)
        ·replace h := zo hb18 h
         refine zI <| zC <| zA (zB rfl) <| zA (zD rfl) <| zF <| za ?_
         show zAS _ _ _ _ _ _
         obtain rfl := Option.some.inj h
         exact zp (zAK rfl rfl)
        ·replace h := zv hb18 h
         refine zR <| zI <| zC <| zA (zM Tryz.underlying55 rfl rfl Tryz.sizeOf53 rfl) <| zA (zN Tryz.isAgg53 rfl rfl rfl rfl) <| zA (zX Tryz.underlying53 rfl) ?_
         refine zA (zB rfl) <| zF <| zS <| z9 (σ := Nat × Int) (fun s => s.1) (fun s e' H' => match s with | (n4, i5) => Rep 123 0 e' H' (mkE [(1, (AV.ptr 0 0)), (51, (ls zG a_p0.caches)), (52, (li (a_p0.caches.length : Int))), (53, (li i4)), (66, (ls (cS cI) ((at_ a_p0.caches i4).lists))), (67, (li (((at_ a_p0.caches i4).lists).length : Int))), (68, (li i5))]) [.box 26 (zJ a_p0)] ∧ zC6 (zBE a_p0 n3) a_p0 i4 n4 i5 = some r) (zAC, 0) ⟨zAE [0] rfl rfl (by kernel_rfl), h⟩ ?_
         clear h
         rintro ⟨n4, i5⟩ e' H' ⟨hrep, h⟩
         cases n4 with
         | zero => exact absurd (show (none : Option _) = some r from h) (by simp)
         | succ n4 =>
          replace h : zBy (zBE a_p0 n3) a_p0 i4 (zC6 (zBE a_p0 n3) a_p0 i4 n4) i5 = some r := h
          unfold zBy at h
          refine zY hrep ?_
          clear hrep
          refine zI <| zC <| zA (zf rfl rfl) <| zF <| zI ?_
          refine zQ (decide (i5 < (((at_ a_p0.caches i4).lists).length : Int))) rfl (fun hb19 => ?_) (fun hb19 => ?_)
          ·replace h := zo hb19 h
           refine zR <| zI <| zS <| zI <| zC ?_
           have hb20 := (zH h).1
           replace h := (zH h).2
           refine zA (zV Tryz.underlying53 Tryz.sizeOf22 (fun _ => rfl) rfl rfl hb20) <| zA (zW (o := 0) Tryz.isAgg22 rfl rfl) <| zA (zD rfl) <| zF <| zI <| zC ?_
           refine zA (zB rfl) <| zA (zX Tryz.underlying22 rfl) <| zA (zM Tryz.underlying26 rfl rfl Tryz.sizeOf3 rfl) <| zA (zN Tryz.isAgg3 rfl rfl rfl rfl) <| zA (zAp rfl rfl) <| zF ?_
           refine zQ (decide (a_p0.high < ((at_ ((at_ a_p0.caches i4).lists) i5).length : Int))) rfl (fun hb21 => ?_) (fun hb21 => ?_)
           ·replace h := zo hb21 h
            refine zI <| zC <| zA (zD rfl) <| zF <| za ?_
            show zAS _ _ _ _ _ _
            obtain rfl := Option.some.inj h
            exact zp (zAK rfl rfl)
           ·replace h := zv hb21 h
            refine zR <| zC ?_
            have hb22 := (zH h).1
            replace h := (zH h).2
            refine zA (ze rfl rfl hb22) <| zA (zB rfl) <| zF ?_
            exact ⟨(n4, (i5 + 1)), Nat.lt_succ_self _, zAE [0] rfl rfl (by kernel_rfl), h⟩
          ·replace h := zv hb19 h
           refine z8 ?_
           exact ⟨zAE [0] rfl rfl (by kernel_rfl), h⟩
       ·
        clear h
        rintro e' H' ⟨hrep, h⟩
        refine zY hrep ?_
        clear hrep
        unfold zEL at h
        refine zC ?_
        have hb16 := (zH h).1
        replace h := (zH h).2
        refine zA (ze rfl rfl hb16) <| zA (zB rfl) <| zF ?_
        exact ⟨(n3, (i4 + 1)), Nat.lt_succ_self _, zAE [0] rfl rfl (by kernel_rfl), h⟩
      ·replace h := zv hb15 h
       refine z8 ?_
       exact ⟨zAE [0] rfl rfl (by kernel_rfl), h⟩
    ·
     clear h
     rintro e' H' ⟨hrep, h⟩
     refine zY hrep ?_
     clear hrep
     unfold zC4 at h
     refine zI <| zC <| zb (H' := [.box 26 (zJ a_p0), .map (mI Value.bool ([] : List (Int × Bool)))]) (zJ9) <| zA (zD rfl) <| zF ?_
     refine z5 (fun e' H' => Rep 123 0 e' H' (mkE []) [] ∧ zFi  = some r) ?_ ?_
     ·
      refine zI <| zC <| zA (zM Tryz.underlying26 rfl rfl Tryz.sizeOf24 rfl) <| zA (zN Tryz.isAgg24 rfl rfl rfl rfl) <| zA (zX Tryz.underlying24 rfl) <| zA (zB rfl) ?_
      refine zF <| zS <| z9 (σ := Nat × Int × (List (Int × Bool))) (fun s => s.1) (fun s e' H' => match s with | (n0, i1, l1) => Rep 123 0 e' H' (mkE [(1, (AV.ptr 0 0)), (12, (AV.hd 1)), (81, (ls zG a_p0.caches)), (82, (li (a_p0.caches.length : Int))), (83, (li i1))]) [.box 26 (zJ a_p0), .map (mI Value.bool l1)] ∧ zAV a_p0 n0 i1 l1 = some r) (zAC, 0, ([] : List (Int × Bool))) ⟨zAE [0, 1] rfl rfl (by kernel_rfl), h⟩ ?_
      clear h
      rintro ⟨n0, i1, l1⟩ e' H' ⟨hrep, h⟩
      cases n0 with
      | zero => exact absurd (show (none : Option _) = some r from h) (by simp)
      | succ n0 =>
       replace h : zBv a_p0 (zAV a_p0 n0) i1 l1 = some r := h
       unfold zBv at h
       refine zY hrep ?_
       clear hrep
       refine zI <| zC <| zA (zf rfl rfl) <| zF <| zI ?_
       refine zQ (decide (i1 < (a_p0.caches.length : Int))) rfl (fun hb3 => ?_) (fun hb3 => ?_)
       ·replace h := zo hb3 h
        refine zR ?_
        refine z5 (fun e' H' => ∃ (l2 : List (Int × Bool)), Rep 123 0 e' H' (mkE [(1, (AV.ptr 0 0)), (12, (AV.hd 1)), (81, (ls zG a_p0.caches)), (82, (li (a_p0.caches.length : Int))), (83, (li i1))]) [.box 26 (zJ a_p0), .map (mI Value.bool l2)] ∧ zED (zAV a_p0 n0) i1 l2 = some r) ?_ ?_
        ·
         refine zS <| zI <| zC ?_
         have hb5 := (zH h).1
         replace h := (zH h).2
         refine zA (zV Tryz.underlying24 Tryz.sizeOf55 (fun _ => rfl) rfl rfl hb5) <| zA (zAi (row := (zG (at_ a_p0.caches i1))) (o := 0) (m := 1) (la := (zG (at_ a_p0.caches i1))) Tryz.isAgg55 Tryz.sizeOf55 rfl rfl rfl) <| zb (H' := [.box 26 (zJ a_p0), .map (mI Value.bool l1), .box 55 ([(ls (cS cI) ([] : List (List Int)))] ++ [])]) (z6 (t := 55) (vs := [.slice none 0 0]) (cs := [.sl false []]) Tryz.zeroValue55 (by kernel_rfl) rfl ⟨zq.nils, trivial⟩) <| zx (H' := [.box 26 (zJ a_p0), .map (mI Value.bool l1), .box 55 (zG (at_ a_p0.caches i1))]) (zh (k := 2) (o := 0) (cs := ([(ls (cS cI) ([] : List (List Int)))] ++ [])) (la := (zG (at_ a_p0.caches i1))) Tryz.sizeOf55 rfl rfl rfl rfl) <| zF <| zI ?_
         refine zC <| zA (zM Tryz.underlying55 rfl rfl Tryz.sizeOf53 rfl) <| zA (zN Tryz.isAgg53 rfl rfl rfl rfl) <| zA (zX Tryz.underlying53 rfl) <| zA (zB rfl) <| zF ?_
         refine zS <| z9 (σ := Nat × Int × (List (Int × Bool))) (fun s => s.1) (fun s e' H' => match s with | (n1, i2, l3) => Rep 123 0 e' H' (mkE [(1, (AV.ptr 0 0)), (12, (AV.hd 1)), (81, (ls zG a_p0.caches)), (82, (li (a_p0.caches.length : Int))), (83, (li i1)), (88, (ls (cS cI) ((at_ a_p0.caches i1).lists))), (89, (li (((at_ a_p0.caches i1).lists).length : Int))), (90, (li i2))]) [.box 26 (zJ a_p0), .map (mI Value.bool l3)] ∧ zAj (zAV a_p0 n0) a_p0 i1 n1 i2 l3 = some r) (zAC, 0, l1) ⟨zAE [0, 1] rfl rfl (by kernel_rfl), h⟩ ?_
         clear h
         rintro ⟨n1, i2, l3⟩ e' H' ⟨hrep, h⟩
         cases n1 with
         | zero => exact absurd (show (none : Option _) = some r from h) (by simp)
         | succ n1 =>
          replace h : zBt (zAV a_p0 n0) a_p0 i1 (zAj (zAV a_p0 n0) a_p0 i1 n1) i2 l3 = some r := h
          unfold zBt at h
          refine zY hrep ?_
          clear hrep
          refine zI <| zC <| zA (zf rfl rfl) <| zF <| zI ?_
          refine zQ (decide (i2 < (((at_ a_p0.caches i1).lists).length : Int))) rfl (fun hb6 => ?_) (fun hb6 => ?_)
          ·replace h := zo hb6 h
           refine zR ?_
           refine z5 (fun e' H' => ∃ (l4 : List (Int × Bool)), Rep 123 0 e' H' (mkE [(1, (AV.ptr 0 0)), (12, (AV.hd 1)), (81, (ls zG a_p0.caches)), (82, (li (a_p0.caches.length : Int))), (83, (li i1)), (88, (ls (cS cI) ((at_ a_p0.caches i1).lists))), (89, (li (((at_ a_p0.caches i1).lists).length : Int))), (90, (li i2))]) [.box 26 (zJ a_p0), .map (mI Value.bool l4)] ∧ zEG (zAj (zAV a_p0 n0) a_p0 i1 n1) i2 l4 = some r) ?_ ?_
           ·
            refine zS <| zI <| zC <| zA (zB rfl) ?_
            have hb8 := (zH h).1
            replace h := (zH h).2
            refine zA (zV Tryz.underlying53 Tryz.sizeOf22 (fun _ => rfl) rfl rfl hb8) <| zA (zW (o := 0) Tryz.isAgg22 rfl rfl) <| zA (zD rfl) <| zA (zD rfl) <| zF <| zI ?_
            refine zC <| zA (zB rfl) <| zA (zX Tryz.underlying22 rfl) <| zA (zB rfl) <| zF <| zS ?_
            refine z9 (σ := Nat × Int × (List (Int × Bool))) (fun s => s.1) (fun s e' H' => match s with | (n2, i3, l5) => Rep 123 0 e' H' (mkE [(1, (AV.ptr 0 0)), (12, (AV.hd 1)), (15, (li i2)), (81, (ls zG a_p0.caches)), (82, (li (a_p0.caches.length : Int))), (83, (li i1)), (88, (ls (cS cI) ((at_ a_p0.caches i1).lists))), (89, (li (((at_ a_p0.caches i1).lists).length : Int))), (90, (li i2)), (95, (ls cI (at_ ((at_ a_p0.caches i1).lists) i2))), (96, (li ((at_ ((at_ a_p0.caches i1).lists) i2).length : Int))), (97, (li i3))]) [.box 26 (zJ a_p0), .map (mI Value.bool l5)] ∧ zBU (zAj (zAV a_p0 n0) a_p0 i1 n1) a_p0 i1 i2 n2 i3 l5 = some r) (zAC, 0, l3) ⟨zAE [0, 1] rfl rfl (by kernel_rfl), h⟩ ?_
            clear h
            rintro ⟨n2, i3, l5⟩ e' H' ⟨hrep, h⟩
            cases n2 with
            | zero => exact absurd (show (none : Option _) = some r from h) (by simp)
            | succ n2 =>
             replace h : zBu (zAj (zAV a_p0 n0) a_p0 i1 n1) a_p0 i1 i2 (zBU (zAj (zAV a_p0 n0) a_p0 i1 n1) a_p0 i1 i2 n2) i3 l5 = some r := h
             unfold zBu at h
             refine zY hrep ?_
             clear hrep
             refine zI <| zC <| zA (zf rfl rfl) <| zF <| zI ?_
             refine zQ (decide (i3 < ((at_ ((at_ a_p0.caches i1).lists) i2).length : Int))) rfl (fun hb9 => ?_) (fun hb9 => ?_)
             ·replace h := zo hb9 h
              refine zR <| zI <| zS <| zI <| zC ?_
              have hb10 := (zH h).1
              replace h := (zH h).2
              refine zA (zV Tryz.underlying22 Tryz.sizeOf3 (fun _ => rfl) rfl rfl hb10) <| zA (zW (o := 0) Tryz.isAgg3 rfl rfl) <| zA (zD rfl) <| zF <| zI <| zI ?_
              refine zC <| zA (zT (k := 0) (o := 0) (m := 5) Tryz.isAgg26 Tryz.sizeOf26 rfl rfl rfl rfl rfl) <| zA (zB rfl) ?_
              refine zP h ?_; clear h; intro x2 hx2 h
              refine zd Tryz.func44 rfl (by kernel_rfl) (.fn 44) rfl rfl (zEl hx2) rfl <| zA (zB rfl) <| zA (z7 rfl rfl) <| zF ?_
              refine zQ (!decide (x2 = i2)) rfl (fun hb11 => ?_) (fun hb11 => ?_)
              ·replace h := zo hb11 h
               refine zI <| zC <| zA (zD rfl) <| zF <| za ?_
               show zAS _ _ _ _ _ _
               obtain rfl := Option.some.inj h
               exact zp (zAK rfl rfl)
              ·replace h := zv hb11 h
               refine zR <| zI <| zI <| zC <| zA (zB rfl) <| zA (zB rfl) ?_
               refine zA (zLb (k := 1) (g := Value.bool) (q := at_ (at_ ((at_ a_p0.caches i1).lists) i2) i3) (l := l5) (dflt := false) (a := (AV.lit (.bool (zJ6 false l5 (at_ (at_ ((at_ a_p0.caches i1).lists) i2) i3))))) Tryz.underlying58 Tryz.underlying3 Tryz.zeroValue4 rfl rfl rfl rfl) <| zA (zB rfl) <| zU rfl rfl (fun hc1 => zj.step (zM Tryz.underlying26 rfl rfl Tryz.sizeOf23 rfl)) <| zU rfl rfl (fun hc2 => zj.step (zN Tryz.isAgg23 (zz rfl hc2) rfl rfl rfl)) <| zU rfl rfl (fun hc3 => zj.step (zB rfl)) ?_
               have hb12 := (zH h).1
               replace h := (zH h).2
               refine zU rfl rfl (fun hc4 => zj.step (zV Tryz.underlying23 Tryz.sizeOf51 (fun _ => rfl) (zz rfl hc4) (zz rfl hc4) (zFp hb12 hc4))) <| zU rfl rfl (fun hc5 => zj.step (zAi (row := (zO (at_ a_p0.zones i2))) (o := 0) (m := 10) (la := (zO (at_ a_p0.zones i2))) Tryz.isAgg51 Tryz.sizeOf51 (zz rfl hc5) rfl rfl)) <| zU rfl rfl (fun hc6 => zj.step (zB rfl)) ?_
               refine zP h ?_; clear h; intro x3 hx3 h
               refine zBZ (g := 109) (s := zJ6 false l5 (at_ (at_ ((at_ a_p0.caches i1).lists) i2) i3)) (r' := (AV.lit (.bool x3))) rfl rfl (fun hc7 => ⟨45, _, _, [], [(AV.agg (zO (at_ a_p0.zones i2))), (li (at_ (at_ ((at_ a_p0.caches i1).lists) i2) i3))], [(AV.agg (zO (at_ a_p0.zones i2))), (li (at_ (at_ ((at_ a_p0.caches i1).lists) i2) i3))], (AV.lit (.bool x3)), [], Tryz.func45, rfl, by kernel_rfl, (.fn 45), (zAF (zz rfl hc7) (zAF (zz rfl hc7) rfl)), ⟨zAt.nr rfl, zAt.nr rfl, trivial⟩, zJC (zo hc7 hx3), .inl rfl, rfl⟩) <| zA (zZ rfl rfl) <| zF ?_
               refine zQ ((zJ6 false l5 (at_ (at_ ((at_ a_p0.caches i1).lists) i2) i3)) || x3) rfl (fun hb13 => ?_) (fun hb13 => ?_)
               ·replace h := zo hb13 h
                refine zI <| zC <| zA (zD rfl) <| zF <| za ?_
                show zAS _ _ _ _ _ _
                obtain rfl := Option.some.inj h
                exact zp (zAK rfl rfl)
               ·replace h := zv hb13 h
                refine zR <| zC <| zA (zB rfl) <| zA (zB rfl) <| zx (H' := [.box 26 (zJ a_p0), .map (mI Value.bool (zIt l5 (at_ (at_ ((at_ a_p0.caches i1).lists) i2) i3) true))]) (zLV (k := 1) (g := Value.bool) (q := at_ (at_ ((at_ a_p0.caches i1).lists) i2) i3) (l := l5) (v := true) Tryz.underlying58 Tryz.underlying3 rfl rfl rfl rfl) <| zF ?_
                refine zC ?_
                have hb14 := (zH h).1
                replace h := (zH h).2
                refine zA (ze rfl rfl hb14) <| zA (zB rfl) <| zF ?_
                exact ⟨(n2, (i3 + 1), (zIt l5 (at_ (at_ ((at_ a_p0.caches i1).lists) i2) i3) true)), Nat.lt_succ_self _, zAE [0, 1] rfl rfl (by kernel_rfl), h⟩
             ·replace h := zv hb9 h
              refine z8 ?_
              exact ⟨l5, zAE [0, 1] rfl rfl (by kernel_rfl), h⟩
           ·
            clear h
            rintro e' H' ⟨l4, hrep, h⟩
            refine zY hrep ?_
            clear hrep
            unfold zEG at h
            refine zC ?_
            have hb7 := (zH h).1
            replace h := (zH h).2
            refine zA (ze rfl rfl hb7) <| zA (zB rfl) <| zF ?_
            exact ⟨(n1, (i2 + 1), l4), Nat.lt_succ_self _, zAE [0, 1] rfl rfl (by kernel_rfl), h⟩
          ·replace h := zv hb6 h
           refine z8 ?_
           exact ⟨l3, zAE [0, 1] rfl rfl (by kernel_rfl), h⟩
        ·
         clear h
         rintro e' H' ⟨l2, hrep, h⟩
         refine zY hrep ?_
         clear hrep
         unfold zED at h
         refine zC ?_
         have hb4 := (zH h).1
         replace h := (zH h).2
         refine zA (ze rfl rfl hb4) <| zA (zB rfl) <| zF ?_
         exact ⟨(n0, (i1 + 1), l2), Nat.lt_succ_self _, zAE [0, 1] rfl rfl (by kernel_rfl), h⟩
       ·replace h := zv hb3 h
        refine z8 ?_
        exact ⟨zAE [] rfl rfl (by kernel_rfl), h⟩
     ·
      clear h
      rintro e' H' ⟨hrep, h⟩
      refine zY hrep ?_
      clear hrep
      unfold zFi at h
      refine zI <| zC <| zA (zD rfl) <| zF <| za ?_
      show zAS _ _ _ _ _ _
      obtain rfl := Option.some.inj h
      exact zp (zAK rfl rfl)
theorem zHO {a_a : zL} {r : Int} (h : zCt a_a = some r) : PFn Tryz.prog 15 [(AV.agg (zJ a_a))] (li r) := by
 refine zi Tryz.func15 rfl Tryz.ntmps15 Tryz.results15 rfl ?_
 unfold zCt at h
 refine zI <| zC <| zb (H' := [.box 26 (zJ a_a)]) (zu (t := 26) rfl) <| zA (zD rfl) <| zF <| zI ?_
 refine zI <| zC <| zA (zT (k := 0) (o := 0) (m := 5) Tryz.isAgg26 Tryz.sizeOf26 rfl rfl rfl rfl rfl) ?_
 refine zP h ?_; clear h; intro x1 hx1 h
 refine zd Tryz.func13 rfl (by kernel_rfl) (.fn 13) rfl rfl (zAn hx1) rfl <| zA (z7 rfl rfl) <| zF ?_
 refine zQ (!decide (x1 = 0)) rfl (fun hb1 => ?_) (fun hb1 => ?_)
 ·replace h := zo hb1 h
  refine zI <| zC <| zA (zD rfl) <| zF <| za ?_
  show zAS _ _ _ _ _ _
  obtain rfl := Option.some.inj h
  exact zp (zAK rfl rfl)
 ·replace h := zv hb1 h
  refine zR <| zI <| zC <| zA (zM Tryz.underlying26 rfl rfl Tryz.sizeOf23 rfl) <| zA (zN Tryz.isAgg23 rfl rfl rfl rfl) <| zA (zM Tryz.underlying26 rfl rfl Tryz.sizeOf23 rfl) ?_
  refine zA (zN Tryz.isAgg23 rfl rfl rfl rfl) <| zA (zX Tryz.underlying23 rfl) ?_
  have hb2 := (zH h).1
  replace h := (zH h).2
  refine zA (zB5 rfl rfl hb2) ?_
  have hb3 := (zH h).1
  replace h := (zH h).2
  refine zA (zV Tryz.underlying23 Tryz.sizeOf51 (fun _ => rfl) rfl rfl hb3) <| zA (zAi (row := (zO (at_ a_a.zones ((a_a.zones.length : Int) - 1)))) (o := 0) (m := 10) (la := (zO (at_ a_a.zones ((a_a.zones.length : Int) - 1)))) Tryz.isAgg51 Tryz.sizeOf51 rfl rfl rfl) <| zb (H' := [.box 26 (zJ a_a), .box 51 ([(li 0)] ++ ([(li 0)] ++ ([(li 0)] ++ ([(li 0)] ++ ([(li 0)] ++ ((cA 5 (eS cI) ([] : List Int) (List.replicate 5 ([] : List Int))) ++ []))))))]) (z6 (t := 51) (vs := [.int .i64 0, .int .i64 0, .int .i64 0, .int .i64 0, .int .i64 0, .slice none 0 0, .slice none 0 0, .slice none 0 0, .slice none 0 0, .slice none 0 0]) (cs := [.lit (.int .i64 0), .lit (.int .i64 0), .lit (.int .i64 0), .lit (.int .i64 0), .lit (.int .i64 0), .sl false [], .sl false [], .sl false [], .sl false [], .sl false []]) Tryz.zeroValue51 (by kernel_rfl) rfl ⟨zq.refl _, zq.refl _, zq.refl _, zq.refl _, zq.refl _, zq.nils, zq.nils, zq.nils, zq.nils, zq.nils, trivial⟩) <| zx (H' := [.box 26 (zJ a_a), .box 51 (zO (at_ a_a.zones ((a_a.zones.length : Int) - 1)))]) (zh (k := 1) (o := 0) (cs := ([(li 0)] ++ ([(li 0)] ++ ([(li 0)] ++ ([(li 0)] ++ ([(li 0)] ++ ((cA 5 (eS cI) ([] : List Int) (List.replicate 5 ([] : List Int))) ++ []))))))) (la := (zO (at_ a_a.zones ((a_a.zones.length : Int) - 1)))) Tryz.sizeOf51 rfl rfl rfl rfl) <| zF <| zI ?_
  refine zC <| zA (zM Tryz.underlying51 rfl rfl Tryz.sizeOf3 rfl) <| zA (zN Tryz.isAgg3 rfl rfl rfl rfl) <| zA (zM Tryz.underlying51 rfl rfl Tryz.sizeOf3 rfl) <| zA (zN Tryz.isAgg3 rfl rfl rfl rfl) ?_
  have hb4 := (zH h).1
  replace h := (zH h).2
  refine zA (ze rfl rfl hb4) <| zA (zD rfl) <| zF <| za ?_
  show zAS _ _ _ _ _ _
  obtain rfl := Option.some.inj h
  exact zp (zAK rfl rfl)
theorem zKZ {a_z : zm} {a_order : Int} {r : Int} (h : zGb a_z a_order = some r) : PFn Tryz.prog 133 [(AV.agg (zO a_z)), (li a_order)] (li r) := by
 refine zi Tryz.func133 rfl Tryz.ntmps133 Tryz.results133 rfl ?_
 unfold zGb at h
 refine zI <| zC <| zb (H' := [.box 51 (zO a_z)]) (zu (t := 51) rfl) <| zA (zD rfl) <| zF <| zI ?_
 refine zI <| zC <| zA (zT (k := 0) (o := 0) (m := 10) Tryz.isAgg51 Tryz.sizeOf51 rfl rfl rfl rfl rfl) ?_
 refine zP h ?_; clear h; intro x1 hx1 h
 refine zd Tryz.func42 rfl (by kernel_rfl) (.fn 42) rfl rfl (zD6 hx1) rfl <| zA (z7 rfl rfl) <| zA (zB rfl) <| zU rfl rfl (fun hc1 => zj.step (zB rfl)) <| zU rfl rfl (fun hc2 => zj.step (zf (zz rfl hc2) rfl)) <| zA (zZ rfl rfl) ?_
 refine zA (zB rfl) <| zU rfl rfl (fun hc3 => zj.step (zB rfl)) <| zU rfl rfl (fun hc4 => zj.step (zAp (zz rfl hc4) rfl)) <| zA (zZ rfl rfl) <| zF ?_
 refine zQ (((!decide (x1 = 0)) || (decide (a_order < 0))) || (decide (4 < a_order))) rfl (fun hb1 => ?_) (fun hb1 => ?_)
 ·replace h := zo hb1 h
  refine zI <| zC <| zA (zD rfl) <| zF <| za ?_
  show zAS _ _ _ _ _ _
  obtain rfl := Option.some.inj h
  exact zp (zAK rfl rfl)
 ·replace h := zv hb1 h
  refine zR <| zI <| zC <| zA (zD rfl) <| zF ?_
  refine z5 (fun e' H' => ∃ (i1 : Int), Rep 36 0 e' H' (mkE [(5, (li i1))]) [] ∧ zGG i1 = some r) ?_ ?_
  ·
   refine zI <| zC <| zA (zM Tryz.underlying51 rfl rfl Tryz.sizeOf49 rfl) <| zA (zB rfl) <| zAe (zQh (k := 0) (cs := (zO a_z)) (cs' := (zO a_z)) (ds := [(2, 0), (19, 5)]) rfl rfl rfl ⟨rfl, rfl, trivial⟩) ?_
   have hb2 := (zH h).1
   replace h := (zH h).2
   have hb3 := (zH h).1
   replace h := (zH h).2
   refine zA (zME (o := 5) (cs := (zO a_z)) (hd := ([(li a_z.node)] ++ [(li a_z.kind)] ++ [(li a_z.start)] ++ [(li a_z.count)] ++ [(li a_z.min)] ++ [])) (tl := ([])) (g := (eS cI)) (d0 := ([] : List Int)) (l := a_z.free) (hi := a_order) (f := (cS cI)) Tryz.underlying49 Tryz.sizeOf22 rfl rfl rfl (fun _ => rfl) rfl hb2 hb3 rfl) <| zA (zX Tryz.underlying53 rfl) <| zA (zB rfl) <| zF <| zS <| z9 (σ := Nat × Int × Int) (fun s => s.1) (fun s e' H' => match s with | (n0, i2, i3) => Rep 36 0 e' H' (mkE [(5, (li i2)), (21, (ls (cS cI) (zJW a_z.free 0 a_order))), (22, (li ((zJW a_z.free 0 a_order).length : Int))), (23, (li i3))]) [] ∧ zDe a_z a_order n0 i2 i3 = some r) (zAC, 0, 0) ⟨zAE [] rfl rfl (by kernel_rfl), h⟩ ?_
   clear h
   rintro ⟨n0, i2, i3⟩ e' H' ⟨hrep, h⟩
   cases n0 with
   | zero => exact absurd (show (none : Option _) = some r from h) (by simp)
   | succ n0 =>
    replace h : zB7 a_z a_order (zDe a_z a_order n0) i2 i3 = some r := h
    unfold zB7 at h
    refine zY hrep ?_
    clear hrep
    refine zI <| zC <| zA (zf rfl rfl) <| zF <| zI ?_
    refine zQ (decide (i3 < ((zJW a_z.free 0 a_order).length : Int))) rfl (fun hb4 => ?_) (fun hb4 => ?_)
    ·replace h := zo hb4 h
     refine zR <| zI <| zS <| zI <| zC <| zA (zB rfl) ?_
     have hb5 := (zH h).1
     replace h := (zH h).2
     refine zA (zV Tryz.underlying53 Tryz.sizeOf22 (fun _ => rfl) rfl rfl hb5) <| zA (zW (o := 0) Tryz.isAgg22 rfl rfl) <| zA (zD rfl) <| zA (zD rfl) <| zF <| zC ?_
     refine zA (zB rfl) <| zA (zB rfl) <| zA (zX Tryz.underlying22 rfl) <| zA (zB rfl) ?_
     have hb6 := (zH h).1
     replace h := (zH h).2
     have hb7 := (zH h).1
     replace h := (zH h).2
     refine zA (zDp (a := ((at_ (zJW a_z.free 0 a_order) i3).length : Int)) (b := i3) rfl rfl hb6 hb7) ?_
     have hb8 := (zH h).1
     replace h := (zH h).2
     refine zA (ze rfl rfl hb8) <| zA (zD rfl) <| zF <| zC ?_
     have hb9 := (zH h).1
     replace h := (zH h).2
     refine zA (ze rfl rfl hb9) <| zA (zB rfl) <| zF ?_
     exact ⟨(n0, (i2 + (((at_ (zJW a_z.free 0 a_order) i3).length : Int) * 2 ^ i3.toNat)), (i3 + 1)), Nat.lt_succ_self _, zAE [] rfl rfl (by kernel_rfl), h⟩
    ·replace h := zv hb4 h
     refine z8 ?_
     exact ⟨i2, zAE [] rfl rfl (by kernel_rfl), h⟩
  ·
   clear h
   rintro e' H' ⟨i1, hrep, h⟩
   refine zY hrep ?_
   clear hrep
   unfold zGG at h
   refine zI <| zC <| zA (zB rfl) <| zA (zD rfl) <| zF <| za ?_
   show zAS _ _ _ _ _ _
   obtain rfl := Option.some.inj h
   exact zp (zAK rfl rfl)
theorem zMD {a_z : zm} {r : Int} (h : zJP a_z = some r) : PFn Tryz.prog 134 [(AV.agg (zO a_z))] (li r) := by
 refine zi Tryz.func134 rfl Tryz.ntmps134 Tryz.results134 rfl ?_
 unfold zJP at h
 refine zI <| zC <| zb (H' := [.box 51 (zO a_z)]) (zu (t := 51) rfl) <| zA (zD rfl) <| zF <| zI ?_
 refine zI <| zC <| zA (zT (k := 0) (o := 0) (m := 10) Tryz.isAgg51 Tryz.sizeOf51 rfl rfl rfl rfl rfl) ?_
 refine zP h ?_; clear h; intro x1 hx1 h
 refine zd Tryz.func42 rfl (by kernel_rfl) (.fn 42) rfl rfl (zD6 hx1) rfl <| zA (z7 rfl rfl) <| zF ?_
 refine zQ (!decide (x1 = 0)) rfl (fun hb1 => ?_) (fun hb1 => ?_)
 ·replace h := zo hb1 h
  refine zI <| zC <| zA (zD rfl) <| zF <| za ?_
  show zAS _ _ _ _ _ _
  obtain rfl := Option.some.inj h
  exact zp (zAK rfl rfl)
 ·replace h := zv hb1 h
  refine zR <| zI <| zC <| zA (zM Tryz.underlying51 rfl rfl Tryz.sizeOf49 rfl) <| zA (zAL (m := 5) (s := 1) (i := 4) (k := 0) (o := 5) Tryz.underlying49 Tryz.sizeOf22 rfl rfl (by decide)) <| zA (zAm (k := 0) (o := 9) (cs := (zO a_z)) (hd := ([(li a_z.node)] ++ [(li a_z.kind)] ++ [(li a_z.start)] ++ [(li a_z.count)] ++ [(li a_z.min)] ++ [])) (tl := ([])) (g := (eS cI)) (d0 := ([] : List Int)) (l := a_z.free) (N := 5) (i := (4 : Int).toNat) (a := (ls cI (a_z.free.getD (4 : Int).toNat ([] : List Int)))) Tryz.isAgg22 rfl rfl rfl rfl (by decide) rfl rfl) ?_
  refine zA (zX Tryz.underlying22 rfl) ?_
  have hb2 := (zH h).1
  replace h := (zH h).2
  refine zA (zDp (a := ((a_z.free.getD (4 : Int).toNat ([] : List Int)).length : Int)) (b := 4) rfl rfl (by decide) hb2) <| zA (zD rfl) <| zF <| za ?_
  show zAS _ _ _ _ _ _
  obtain rfl := Option.some.inj h
  exact zp (zAK rfl rfl)
theorem zLn {a_z : zm} {r : Int} (h : zHU a_z = some r) : PFn Tryz.prog 99 [(AV.agg (zO a_z))] (li r) := by
 refine zi Tryz.func99 rfl Tryz.ntmps99 Tryz.results99 rfl ?_
 unfold zHU at h
 refine zI <| zC <| zb (H' := [.box 51 (zO a_z)]) (zu (t := 51) rfl) <| zA (zD rfl) <| zF <| zI ?_
 refine zP h ?_; clear h; intro x1 hx1 h
 refine zP h ?_; clear h; intro x2 hx2 h
 have hb1 := (zH h).1
 replace h := (zH h).2
 show AW _ _ _ _ _ _ [.box 51 (zO a_z)]
 refine zAz (n := 8) (m := 0) [.head 0 0, .head 0 0, .head 0 0, .head 0 0, .head 0 0, .head 0 0] [] [(AV.agg (zO a_z)), (li x1), (AV.agg (zO a_z)), (li x2), (li (x1 + x2)), (li (x1 + x2))] [[.box 51 (zO a_z)]] (by kernel_rfl) (by kernel_rfl) ⟨?_, ?_, ?_, ?_, ?_, ?_, trivial⟩ ?_
 ·exact fun e s p => zt (zT (k := 0) (o := 0) (m := 10) (la := (zO a_z)) Tryz.isAgg51 Tryz.sizeOf51 (s 1 rfl) rfl rfl rfl rfl) ⟨fun _ => rfl, rfl⟩
 ·
  intro e2 hs2 hp2
  refine zd (r := (li x1)) (la := [(AV.agg (zO a_z)), (li 4)]) Tryz.func133 rfl (by kernel_rfl) (.fn 133) (zAF hp2.1 (zAF rfl rfl)) rfl (zKZ hx1) rfl ?_
  exact zF ⟨fun _ => rfl, rfl⟩
 ·exact fun e s p => zt (zT (k := 0) (o := 0) (m := 10) (la := (zO a_z)) Tryz.isAgg51 Tryz.sizeOf51 (s 1 rfl) rfl rfl rfl rfl) ⟨fun _ => rfl, rfl⟩
 ·
  intro e4 hs4 hp4
  refine zd (r := (li x2)) (la := [(AV.agg (zO a_z))]) Tryz.func134 rfl (by kernel_rfl) (.fn 134) (zAF hp4.1 rfl) rfl (zMD hx2) rfl ?_
  exact zF ⟨fun _ => rfl, rfl⟩
 ·exact fun e s p => zt (ze (a := x1) (b := x2) p.1 p.2.1 hb1) ⟨fun _ => rfl, rfl⟩
 ·exact fun e s p => zt (zD (av := (li (x1 + x2))) p.2.2.2.2.2.2.1) ⟨fun _ => rfl, rfl⟩
 intro e7 hs7 hq1
 refine zY (zBV (l := [(2, (li (x1 + x2)))]) ⟨(hq1 5 (by decide) (by decide)), trivial⟩) <| za ?_
 show zAS _ _ _ _ _ _
 obtain rfl := Option.some.inj h
 exact zp (zAK rfl rfl)
theorem zFm {a_a : zL} {a_z : Int} {r : Int} (h : zCl a_a a_z = some r) : PFn Tryz.prog 52 [(AV.agg (zJ a_a)), (li a_z)] (li r) := by
 refine zi Tryz.func52 rfl Tryz.ntmps52 Tryz.results52 rfl ?_
 unfold zCl at h
 refine zI <| zC <| zb (H' := [.box 26 (zJ a_a)]) (zu (t := 26) rfl) <| zA (zD rfl) <| zF <| zI ?_
 refine zC <| zA (zM Tryz.underlying26 rfl rfl Tryz.sizeOf23 rfl) <| zA (zN Tryz.isAgg23 rfl rfl rfl rfl) <| zA (zB rfl) ?_
 have hb1 := (zH h).1
 replace h := (zH h).2
 refine zA (zV Tryz.underlying23 Tryz.sizeOf51 (fun _ => rfl) rfl rfl hb1) <| zA (zAi (row := (zO (at_ a_a.zones a_z))) (o := 0) (m := 10) (la := (zO (at_ a_a.zones a_z))) Tryz.isAgg51 Tryz.sizeOf51 rfl rfl rfl) ?_
 refine zP h ?_; clear h; intro x1 hx1 h
 refine zd Tryz.func99 rfl (by kernel_rfl) (.fn 99) rfl rfl (zLn hx1) rfl <| zA (zD rfl) <| zF ?_
 refine z5 (fun e' H' => ∃ (i1 : Int), Rep 31 0 e' H' (mkE [(5, (li i1))]) [] ∧ zFx i1 = some r) ?_ ?_
 ·
  refine zI <| zC <| zA (zM Tryz.underlying26 rfl rfl Tryz.sizeOf24 rfl) <| zA (zN Tryz.isAgg24 rfl rfl rfl rfl) <| zA (zX Tryz.underlying24 rfl) <| zA (zB rfl) ?_
  refine zF <| zS <| z9 (σ := Nat × Int × Int) (fun s => s.1) (fun s e' H' => match s with | (n0, i2, i3) => Rep 31 0 e' H' (mkE [(1, (li a_z)), (5, (li i2)), (15, (ls zG a_a.caches)), (16, (li (a_a.caches.length : Int))), (17, (li i3))]) [] ∧ zCu a_a a_z n0 i2 i3 = some r) (zAC, x1, 0) ⟨zAE [] rfl rfl (by kernel_rfl), h⟩ ?_
  clear h
  rintro ⟨n0, i2, i3⟩ e' H' ⟨hrep, h⟩
  cases n0 with
  | zero => exact absurd (show (none : Option _) = some r from h) (by simp)
  | succ n0 =>
   replace h : zBp a_a a_z (zCu a_a a_z n0) i2 i3 = some r := h
   unfold zBp at h
   refine zY hrep ?_
   clear hrep
   refine zI <| zC <| zA (zf rfl rfl) <| zF <| zI ?_
   refine zQ (decide (i3 < (a_a.caches.length : Int))) rfl (fun hb2 => ?_) (fun hb2 => ?_)
   ·replace h := zo hb2 h
    refine zR <| zI <| zS <| zI <| zC ?_
    have hb3 := (zH h).1
    replace h := (zH h).2
    refine zA (zV Tryz.underlying24 Tryz.sizeOf55 (fun _ => rfl) rfl rfl hb3) <| zA (zAi (row := (zG (at_ a_a.caches i3))) (o := 0) (m := 1) (la := (zG (at_ a_a.caches i3))) Tryz.isAgg55 Tryz.sizeOf55 rfl rfl rfl) <| zb (H' := [.box 55 ([(ls (cS cI) ([] : List (List Int)))] ++ [])]) (z6 (t := 55) (vs := [.slice none 0 0]) (cs := [.sl false []]) Tryz.zeroValue55 (by kernel_rfl) rfl ⟨zq.nils, trivial⟩) <| zx (H' := [.box 55 (zG (at_ a_a.caches i3))]) (zh (k := 0) (o := 0) (cs := ([(ls (cS cI) ([] : List (List Int)))] ++ [])) (la := (zG (at_ a_a.caches i3))) Tryz.sizeOf55 rfl rfl rfl rfl) <| zF <| zC ?_
    refine zA (zB rfl) <| zA (zM Tryz.underlying55 rfl rfl Tryz.sizeOf53 rfl) <| zA (zN Tryz.isAgg53 rfl rfl rfl rfl) <| zA (zB rfl) ?_
    have hb4 := (zH h).1
    replace h := (zH h).2
    refine zA (zV Tryz.underlying53 Tryz.sizeOf22 (fun _ => rfl) rfl rfl hb4) <| zA (zW (o := 0) Tryz.isAgg22 rfl rfl) <| zA (zX Tryz.underlying22 rfl) ?_
    have hb5 := (zH h).1
    replace h := (zH h).2
    refine zA (ze rfl rfl hb5) <| zA (zD rfl) <| zF <| zC ?_
    have hb6 := (zH h).1
    replace h := (zH h).2
    refine zA (ze rfl rfl hb6) <| zA (zB rfl) <| zF ?_
    exact ⟨(n0, (i2 + ((at_ ((at_ a_a.caches i3).lists) a_z).length : Int)), (i3 + 1)), Nat.lt_succ_self _, zAE [] rfl rfl (by kernel_rfl), h⟩
   ·replace h := zv hb2 h
    refine z8 ?_
    exact ⟨i2, zAE [] rfl rfl (by kernel_rfl), h⟩
 ·
  clear h
  rintro e' H' ⟨i1, hrep, h⟩
  refine zY hrep ?_
  clear hrep
  unfold zFx at h
  refine zI <| zC <| zA (zB rfl) <| zA (zD rfl) <| zF <| za ?_
  show zAS _ _ _ _ _ _
  obtain rfl := Option.some.inj h
  exact zp (zAK rfl rfl)
theorem zGH {a_a : zL} {a_z : Int} {r : Int} (h : zD7 a_a a_z = some r) : PFn Tryz.prog 39 [(AV.agg (zJ a_a)), (li a_z)] (li r) := by
 refine zi Tryz.func39 rfl Tryz.ntmps39 Tryz.results39 rfl ?_
 unfold zD7 at h
 refine zI <| zC <| zb (H' := [.box 26 (zJ a_a)]) (zu (t := 26) rfl) <| zA (zD rfl) <| zF <| zI ?_
 refine zP h ?_; clear h; intro x1 hx1 h
 have hb1 := (zH h).1
 replace h := (zH h).2
 have hb2 := (zH h).1
 replace h := (zH h).2
 show AW _ _ _ _ _ _ [.box 26 (zJ a_a)]
 refine zAz (n := 15) (m := 0) [.head 0 0, .head 0 0, .head 0 0, .head 0 0, .head 0 0, .head 0 0, .head 0 0, .head 0 0, .head 0 0, .head 0 0, .head 0 0] [] [(AV.agg (zJ a_a)), (li a_z), (li x1), (AV.ptr 0 3), (ls zO a_a.zones), (li a_z), (AV.rp (zO (at_ a_a.zones a_z)) 0), (AV.rp (zO (at_ a_a.zones a_z)) 4), (li ((at_ a_a.zones a_z).min)), (li (x1 - ((at_ a_a.zones a_z).min))), (li (x1 - ((at_ a_a.zones a_z).min)))] [[.box 26 (zJ a_a)]] (by kernel_rfl) (by kernel_rfl) ⟨?_, ?_, ?_, ?_, ?_, ?_, ?_, ?_, ?_, ?_, ?_, trivial⟩ ?_
 ·exact fun e s p => zt (zT (k := 0) (o := 0) (m := 5) (la := (zJ a_a)) Tryz.isAgg26 Tryz.sizeOf26 (s 2 rfl) rfl rfl rfl rfl) ⟨fun _ => rfl, rfl⟩
 ·exact fun e s p => zt (zB (av := (li a_z)) (s 1 rfl)) ⟨fun _ => rfl, rfl⟩
 ·
  intro e3 hs3 hp3
  refine zd (r := (li x1)) (la := [(AV.agg (zJ a_a)), (li a_z)]) Tryz.func52 rfl (by kernel_rfl) (.fn 52) (zAF hp3.1 (zAF hp3.2.1 rfl)) rfl (zFm hx1) rfl ?_
  exact zF ⟨fun _ => rfl, rfl⟩
 ·exact fun e s p => zt (zM (k := 0) (o := 0) (off := 3) Tryz.underlying26 rfl rfl Tryz.sizeOf23 (s 2 rfl)) ⟨fun _ => rfl, rfl⟩
 ·exact fun e s p => zt (zN (k := 0) (o := 3) (a := (ls zO a_a.zones)) Tryz.isAgg23 p.1 rfl rfl rfl) ⟨fun _ => rfl, rfl⟩
 ·exact fun e s p => zt (zB (av := (li a_z)) (s 1 rfl)) ⟨fun _ => rfl, rfl⟩
 ·exact fun e s p => zt (zV (f := zO) (l := a_a.zones) (i := a_z) Tryz.underlying23 Tryz.sizeOf51 (fun _ => rfl) p.1 p.2.1 hb1) ⟨fun _ => rfl, rfl⟩
 ·exact fun e s p => zt (zAy (row := (zO (at_ a_a.zones a_z))) (o := 0) (off := 4) Tryz.underlying51 rfl rfl Tryz.sizeOf3 p.1) ⟨fun _ => rfl, rfl⟩
 ·exact fun e s p => zt (zW (row := (zO (at_ a_a.zones a_z))) (o := 4) (a := (li ((at_ a_a.zones a_z).min))) Tryz.isAgg3 p.1 rfl) ⟨fun _ => rfl, rfl⟩
 ·exact fun e s p => zt (zB5 (a := x1) (b := (at_ a_a.zones a_z).min) p.1 p.2.1 hb2) ⟨fun _ => rfl, rfl⟩
 ·exact fun e s p => zt (zD (av := (li (x1 - ((at_ a_a.zones a_z).min)))) p.2.2.2.2.2.2.2.2.2.2.2.1) ⟨fun _ => rfl, rfl⟩
 intro e12 hs12 hq1
 refine zY (zBV (l := [(4, (li (x1 - ((at_ a_a.zones a_z).min))))]) ⟨(hq1 10 (by decide) (by decide)), trivial⟩) <| za ?_
 show zAS _ _ _ _ _ _
 obtain rfl := Option.some.inj h
 exact zp (zAK rfl rfl)
theorem zGs {a_a : zL} {r : Int × Int} (h : zCM a_a = some r) : PFn Tryz.prog 11 [(AV.agg (zJ a_a))] (AV.tup [(li r.1), (li r.2)]) := by
 refine zi Tryz.func11 rfl Tryz.ntmps11 Tryz.results11 rfl ?_
 unfold zCM at h
 refine zI <| zC <| zb (H' := [.box 26 (zJ a_a)]) (zu (t := 26) rfl) <| zA (zD rfl) <| zA (zD rfl) <| zF ?_
 refine zI <| zI <| zC <| zA (zT (k := 0) (o := 0) (m := 5) Tryz.isAgg26 Tryz.sizeOf26 rfl rfl rfl rfl rfl) ?_
 refine zP h ?_; clear h; intro x1 hx1 h
 refine zd Tryz.func13 rfl (by kernel_rfl) (.fn 13) rfl rfl (zAn hx1) rfl <| zA (z7 rfl rfl) <| zF ?_
 refine zQ (!decide (x1 = 0)) rfl (fun hb1 => ?_) (fun hb1 => ?_)
 ·replace h := zo hb1 h
  refine zI <| zC <| zA (zD rfl) <| zA (zD rfl) <| zF <| za ?_
  show zAS _ _ _ _ _ _
  obtain rfl := Option.some.inj h
  exact zC1 (zAK rfl rfl) (zAK rfl rfl) rfl
 ·replace h := zv hb1 h
  refine zR <| zI <| zC <| zA (zD rfl) <| zA (zD rfl) <| zF ?_
  refine z5 (fun e' H' => ∃ (i1 : Int) (i2 : Int), Rep 35 0 e' H' (mkE [(4, (li i1)), (5, (li i2))]) [] ∧ zEP i1 i2 = some r) ?_ ?_
  ·
   refine zI <| zC <| zA (zM Tryz.underlying26 rfl rfl Tryz.sizeOf23 rfl) <| zA (zN Tryz.isAgg23 rfl rfl rfl rfl) <| zA (zX Tryz.underlying23 rfl) <| zA (zB rfl) ?_
   refine zF <| zS <| z9 (σ := Nat × Int × Int × Int) (fun s => s.1) (fun s e' H' => match s with | (n0, i3, i4, i5) => Rep 35 0 e' H' (mkE [(1, (AV.ptr 0 0)), (4, (li i3)), (5, (li i4)), (13, (ls zO a_a.zones)), (14, (li (a_a.zones.length : Int))), (15, (li i5))]) [.box 26 (zJ a_a)] ∧ zAo a_a n0 i3 i4 i5 = some r) (zAC, 0, 0, 0) ⟨zAE [0] rfl rfl (by kernel_rfl), h⟩ ?_
   clear h
   rintro ⟨n0, i3, i4, i5⟩ e' H' ⟨hrep, h⟩
   cases n0 with
   | zero => exact absurd (show (none : Option _) = some r from h) (by simp)
   | succ n0 =>
    replace h : zBF a_a (zAo a_a n0) i3 i4 i5 = some r := h
    unfold zBF at h
    refine zY hrep ?_
    clear hrep
    refine zI <| zC <| zA (zf rfl rfl) <| zF <| zI ?_
    refine zQ (decide (i5 < (a_a.zones.length : Int))) rfl (fun hb2 => ?_) (fun hb2 => ?_)
    ·replace h := zo hb2 h
     refine zR ?_
     refine z5 (fun e' H' => ∃ (i6 : Int) (i7 : Int), Rep 35 0 e' H' (mkE [(1, (AV.ptr 0 0)), (4, (li i6)), (5, (li i7)), (13, (ls zO a_a.zones)), (14, (li (a_a.zones.length : Int))), (15, (li i5))]) [.box 26 (zJ a_a)] ∧ zCJ (zAo a_a n0) i5 i6 i7 = some r) ?_ ?_
     ·
      refine zS <| zI <| zC <| zA (zB rfl) ?_
      have hb4 := (zH h).1
      replace h := (zH h).2
      refine zA (zV Tryz.underlying23 Tryz.sizeOf51 (fun _ => rfl) rfl rfl hb4) <| zA (zAi (row := (zO (at_ a_a.zones i5))) (o := 0) (m := 10) (la := (zO (at_ a_a.zones i5))) Tryz.isAgg51 Tryz.sizeOf51 rfl rfl rfl) <| zb (H' := [.box 26 (zJ a_a), .box 51 ([(li 0)] ++ ([(li 0)] ++ ([(li 0)] ++ ([(li 0)] ++ ([(li 0)] ++ ((cA 5 (eS cI) ([] : List Int) (List.replicate 5 ([] : List Int))) ++ []))))))]) (z6 (t := 51) (vs := [.int .i64 0, .int .i64 0, .int .i64 0, .int .i64 0, .int .i64 0, .slice none 0 0, .slice none 0 0, .slice none 0 0, .slice none 0 0, .slice none 0 0]) (cs := [.lit (.int .i64 0), .lit (.int .i64 0), .lit (.int .i64 0), .lit (.int .i64 0), .lit (.int .i64 0), .sl false [], .sl false [], .sl false [], .sl false [], .sl false []]) Tryz.zeroValue51 (by kernel_rfl) rfl ⟨zq.refl _, zq.refl _, zq.refl _, zq.refl _, zq.refl _, zq.nils, zq.nils, zq.nils, zq.nils, zq.nils, trivial⟩) <| zA (zD rfl) <| zx (H' := [.box 26 (zJ a_a), .box 51 (zO (at_ a_a.zones i5))]) (zh (k := 1) (o := 0) (cs := ([(li 0)] ++ ([(li 0)] ++ ([(li 0)] ++ ([(li 0)] ++ ([(li 0)] ++ ((cA 5 (eS cI) ([] : List Int) (List.replicate 5 ([] : List Int))) ++ []))))))) (la := (zO (at_ a_a.zones i5))) Tryz.sizeOf51 rfl rfl rfl rfl) <| zF ?_
      refine zI <| zC <| zA (zT (k := 0) (o := 0) (m := 5) Tryz.isAgg26 Tryz.sizeOf26 rfl rfl rfl rfl rfl) <| zA (zB rfl) ?_
      refine zP h ?_; clear h; intro x2 hx2 h
      refine zd Tryz.func39 rfl (by kernel_rfl) (.fn 39) rfl rfl (zGH hx2) rfl <| zA (zD rfl) <| zF <| zI <| zC <| zA (zB rfl) ?_
      refine zA (zB rfl) ?_
      have hb5 := (zH h).1
      replace h := (zH h).2
      refine zA (ze rfl rfl hb5) <| zA (zD rfl) <| zF <| zI <| zC <| zA (zM Tryz.underlying51 rfl rfl Tryz.sizeOf3 rfl) ?_
      refine zA (zN Tryz.isAgg3 rfl rfl rfl rfl) <| zA (zBT rfl rfl) <| zF ?_
      refine zQ (decide (((at_ a_a.zones i5).kind) = 0)) rfl (fun hb6 => ?_) (fun hb6 => ?_)
      ·replace h := zo hb6 h
       refine zC <| zA (zB rfl) <| zA (zB rfl) ?_
       have hb7 := (zH h).1
       replace h := (zH h).2
       refine zA (ze rfl rfl hb7) <| zA (zD rfl) <| zF ?_
       exact ⟨(i3 + x2), (i4 + x2), zAE [0] rfl rfl (by kernel_rfl), h⟩
      ·replace h := zv hb6 h
       refine zR ?_
       exact ⟨i3, (i4 + x2), zAE [0] rfl rfl (by kernel_rfl), h⟩
     ·
      clear h
      rintro e' H' ⟨i6, i7, hrep, h⟩
      refine zY hrep ?_
      clear hrep
      unfold zCJ at h
      refine zC ?_
      have hb3 := (zH h).1
      replace h := (zH h).2
      refine zA (ze rfl rfl hb3) <| zA (zB rfl) <| zF ?_
      exact ⟨(n0, i6, i7, (i5 + 1)), Nat.lt_succ_self _, zAE [0] rfl rfl (by kernel_rfl), h⟩
    ·replace h := zv hb2 h
     refine z8 ?_
     exact ⟨i3, i4, zAE [] rfl rfl (by kernel_rfl), h⟩
  ·
   clear h
   rintro e' H' ⟨i1, i2, hrep, h⟩
   refine zY hrep ?_
   clear hrep
   unfold zEP at h
   refine zI <| zC <| zA (zB rfl) <| zA (zB rfl) <| zA (zD rfl) <| zA (zD rfl) ?_
   refine zF <| za ?_
   show zAS _ _ _ _ _ _
   obtain rfl := Option.some.inj h
   exact zC1 (zAK rfl rfl) (zAK rfl rfl) rfl
theorem zKe {a_zones : List zm} {r : Int} (h : zHv a_zones = some r) : PFn Tryz.prog 135 [(ls zO a_zones)] (li r) := by
 refine zi Tryz.func135 rfl Tryz.ntmps135 Tryz.results135 rfl ?_
 unfold zHv at h
 refine zI <| zC <| zA (zD rfl) <| zF <| zI <| zI ?_
 refine zC <| zA (zB rfl) <| zA (zX Tryz.underlying23 rfl) <| zA (zAp rfl rfl) <| zF ?_
 refine zQ (decide (6 < (a_zones.length : Int))) rfl (fun hb1 => ?_) (fun hb1 => ?_)
 ·replace h := zo hb1 h
  refine zI <| zC <| zA (zD rfl) <| zF <| za ?_
  show zAS _ _ _ _ _ _
  obtain rfl := Option.some.inj h
  exact zp (zAK rfl rfl)
 ·replace h := zv hb1 h
  refine zR ?_
  refine z5 (fun e' H' => Rep 31 0 e' H' (mkE []) [] ∧ zGN  = some r) ?_ ?_
  ·
   refine zI <| zC <| zA (zB rfl) <| zA (zX Tryz.underlying23 rfl) <| zA (zB rfl) <| zF ?_
   refine zS <| z9 (σ := Nat × Int) (fun s => s.1) (fun s e' H' => match s with | (n0, i1) => Rep 31 0 e' H' (mkE [(8, (ls zO a_zones)), (9, (li (a_zones.length : Int))), (10, (li i1))]) [] ∧ zEo a_zones n0 i1 = some r) (zAC, 0) ⟨zAE [] rfl rfl (by kernel_rfl), h⟩ ?_
   clear h
   rintro ⟨n0, i1⟩ e' H' ⟨hrep, h⟩
   cases n0 with
   | zero => exact absurd (show (none : Option _) = some r from h) (by simp)
   | succ n0 =>
    replace h : zGD a_zones (zEo a_zones n0) i1 = some r := h
    unfold zGD at h
    refine zY hrep ?_
    clear hrep
    refine zI <| zC <| zA (zf rfl rfl) <| zF <| zI ?_
    refine zQ (decide (i1 < (a_zones.length : Int))) rfl (fun hb2 => ?_) (fun hb2 => ?_)
    ·replace h := zo hb2 h
     refine zR <| zI <| zS <| zI <| zC ?_
     have hb3 := (zH h).1
     replace h := (zH h).2
     refine zA (zV Tryz.underlying23 Tryz.sizeOf51 (fun _ => rfl) rfl rfl hb3) <| zA (zAi (row := (zO (at_ a_zones i1))) (o := 0) (m := 10) (la := (zO (at_ a_zones i1))) Tryz.isAgg51 Tryz.sizeOf51 rfl rfl rfl) <| zb (H' := [.box 51 ([(li 0)] ++ ([(li 0)] ++ ([(li 0)] ++ ([(li 0)] ++ ([(li 0)] ++ ((cA 5 (eS cI) ([] : List Int) (List.replicate 5 ([] : List Int))) ++ []))))))]) (z6 (t := 51) (vs := [.int .i64 0, .int .i64 0, .int .i64 0, .int .i64 0, .int .i64 0, .slice none 0 0, .slice none 0 0, .slice none 0 0, .slice none 0 0, .slice none 0 0]) (cs := [.lit (.int .i64 0), .lit (.int .i64 0), .lit (.int .i64 0), .lit (.int .i64 0), .lit (.int .i64 0), .sl false [], .sl false [], .sl false [], .sl false [], .sl false []]) Tryz.zeroValue51 (by kernel_rfl) rfl ⟨zq.refl _, zq.refl _, zq.refl _, zq.refl _, zq.refl _, zq.nils, zq.nils, zq.nils, zq.nils, zq.nils, trivial⟩) <| zx (H' := [.box 51 (zO (at_ a_zones i1))]) (zh (k := 0) (o := 0) (cs := ([(li 0)] ++ ([(li 0)] ++ ([(li 0)] ++ ([(li 0)] ++ ([(li 0)] ++ ((cA 5 (eS cI) ([] : List Int) (List.replicate 5 ([] : List Int))) ++ []))))))) (la := (zO (at_ a_zones i1))) Tryz.sizeOf51 rfl rfl rfl rfl) <| zF <| zI ?_
     refine zI <| zC <| zA (zM Tryz.underlying51 rfl rfl Tryz.sizeOf3 rfl) <| zA (zN Tryz.isAgg3 rfl rfl rfl rfl) <| zA (zf rfl rfl) <| zA (zB rfl) ?_
     refine zU rfl rfl (fun hc1 => zj.step (zM Tryz.underlying51 rfl rfl Tryz.sizeOf3 rfl)) <| zU rfl rfl (fun hc2 => zj.step (zN Tryz.isAgg3 (zz rfl hc2) rfl rfl rfl)) <| zU rfl rfl (fun hc3 => zj.step (zAq (zz rfl hc3) rfl)) <| zA (zZ rfl rfl) <| zF ?_
     refine zQ ((decide (((at_ a_zones i1).node) < 0)) || (decide (4 ≤ ((at_ a_zones i1).node)))) rfl (fun hb4 => ?_) (fun hb4 => ?_)
     ·replace h := zo hb4 h
      refine zI <| zC <| zA (zD rfl) <| zF <| za ?_
      show zAS _ _ _ _ _ _
      obtain rfl := Option.some.inj h
      exact zp (zAK rfl rfl)
     ·replace h := zv hb4 h
      refine zR <| zI <| zC <| zA (zM Tryz.underlying51 rfl rfl Tryz.sizeOf3 rfl) <| zA (zN Tryz.isAgg3 rfl rfl rfl rfl) <| zA (z7 rfl rfl) ?_
      refine zA (zB rfl) <| zg rfl rfl (fun hc4 => zj.step (zM Tryz.underlying51 rfl rfl Tryz.sizeOf3 rfl)) <| zg rfl rfl (fun hc5 => zj.step (zN Tryz.isAgg3 (zz rfl hc5) rfl rfl rfl)) <| zg rfl rfl (fun hc6 => zj.step (z7 (zz rfl hc6) rfl)) <| zA (zy (j := .lit undef) rfl rfl) <| zF ?_
      refine zQ ((!decide (((at_ a_zones i1).kind) = 0)) && (!decide (((at_ a_zones i1).kind) = 1))) rfl (fun hb5 => ?_) (fun hb5 => ?_)
      ·replace h := zo hb5 h
       refine zI <| zC <| zA (zD rfl) <| zF <| za ?_
       show zAS _ _ _ _ _ _
       obtain rfl := Option.some.inj h
       exact zp (zAK rfl rfl)
      ·replace h := zv hb5 h
       refine zR <| zC ?_
       have hb6 := (zH h).1
       replace h := (zH h).2
       refine zA (ze rfl rfl hb6) <| zA (zB rfl) <| zF ?_
       exact ⟨(n0, (i1 + 1)), Nat.lt_succ_self _, zAE [] rfl rfl (by kernel_rfl), h⟩
    ·replace h := zv hb2 h
     refine z8 ?_
     exact ⟨zAE [] rfl rfl (by kernel_rfl), h⟩
  ·
   clear h
   rintro e' H' ⟨hrep, h⟩
   refine zY hrep ?_
   clear hrep
   unfold zGN at h
   refine zI <| zC <| zA (zD rfl) <| zF <| za ?_
   show zAS _ _ _ _ _ _
   obtain rfl := Option.some.inj h
   exact zp (zAK rfl rfl)
theorem zKh {a_zones : List zm} {a_node : Int} {r : Int} (h : zHy a_zones a_node = some r) : PFn Tryz.prog 100 [(ls zO a_zones), (li a_node)] (li r) := by
 refine zi Tryz.func100 rfl Tryz.ntmps100 Tryz.results100 rfl ?_
 unfold zHy at h
 refine zI <| zC <| zA (zD rfl) <| zF <| zI <| zI ?_
 refine zC <| zA (zB rfl) ?_
 refine zP h ?_; clear h; intro x1 hx1 h
 refine zd Tryz.func135 rfl (by kernel_rfl) (.fn 135) rfl rfl (zKe hx1) rfl <| zA (zD rfl) <| zF <| zI <| zC <| zA (zB rfl) ?_
 refine zA (z7 rfl rfl) <| zF ?_
 refine zQ (!decide (x1 = 0)) rfl (fun hb1 => ?_) (fun hb1 => ?_)
 ·replace h := zo hb1 h
  refine zI <| zC <| zA (zB rfl) <| zA (zD rfl) <| zF <| za ?_
  show zAS _ _ _ _ _ _
  obtain rfl := Option.some.inj h
  exact zp (zAK rfl rfl)
 ·replace h := zv hb1 h
  refine zR <| zI <| zI <| zC <| zA (zB rfl) <| zA (zf rfl rfl) ?_
  refine zA (zB rfl) <| zU rfl rfl (fun hc1 => zj.step (zB rfl)) <| zU rfl rfl (fun hc2 => zj.step (zAq (zz rfl hc2) rfl)) <| zA (zZ rfl rfl) <| zF ?_
  refine zQ ((decide (a_node < 0)) || (decide (4 ≤ a_node))) rfl (fun hb2 => ?_) (fun hb2 => ?_)
  ·replace h := zo hb2 h
   refine zI <| zC <| zA (zD rfl) <| zF <| za ?_
   show zAS _ _ _ _ _ _
   obtain rfl := Option.some.inj h
   exact zp (zAK rfl rfl)
  ·replace h := zv hb2 h
   refine zR <| zI <| zC <| zA (zD rfl) <| zF <| za ?_
   show zAS _ _ _ _ _ _
   obtain rfl := Option.some.inj h
   exact zp (zAK rfl rfl)
theorem zLE {a_from_ : Int} {a_node : Int} {r : Int} (h : zJH a_from_ a_node = some r) : PFn Tryz.prog 102 [(li a_from_), (li a_node)] (li r) := by
 refine zi Tryz.func102 rfl Tryz.ntmps102 Tryz.results102 rfl ?_
 unfold zJH at h
 refine zI <| zC <| zA (zD rfl) <| zF <| zI <| zI ?_
 refine zC <| zA (zB rfl) <| zA (zB rfl) <| zA (zf rfl rfl) <| zF ?_
 refine zQ (decide (a_node < a_from_)) rfl (fun hb1 => ?_) (fun hb1 => ?_)
 ·replace h := zo hb1 h
  refine zI <| zC <| zA (zB rfl) <| zA (zB rfl) ?_
  have hb2 := (zH h).1
  replace h := (zH h).2
  refine zA (zB5 rfl rfl hb2) ?_
  have hb3 := (zH h).1
  replace h := (zH h).2
  refine zA (zKD (a := 2) (b := a_from_ - a_node) rfl rfl hb3) <| zA (zD rfl) <| zF <| za ?_
  show zAS _ _ _ _ _ _
  obtain rfl := Option.some.inj h
  exact zp (zAK rfl rfl)
 ·replace h := zv hb1 h
  refine zR <| zI <| zC <| zA (zB rfl) <| zA (zB rfl) ?_
  have hb4 := (zH h).1
  replace h := (zH h).2
  refine zA (zB5 rfl rfl hb4) ?_
  have hb5 := (zH h).1
  replace h := (zH h).2
  refine zA (zKD (a := 2) (b := a_node - a_from_) rfl rfl hb5) ?_
  have hb6 := (zH h).1
  replace h := (zH h).2
  refine zA (ze rfl rfl hb6) <| zA (zD rfl) <| zF <| za ?_
  show zAS _ _ _ _ _ _
  obtain rfl := Option.some.inj h
  exact zp (zAK rfl rfl)
theorem zJi {a_i : Int} {c_0 : Int} {c_1 : List zm} {r : Int} (h : zGx a_i c_0 c_1 = some r) : PFn Tryz.prog 101 [(li a_i), (AV.rp [(li c_0)] 0), (AV.rp [(ls zO c_1)] 0)] (li r) := by
 refine zi Tryz.func101 rfl Tryz.ntmps101 Tryz.results101 rfl ?_
 unfold zGx at h
 refine zI <| zC <| zA (zD rfl) <| zF <| zI ?_
 have hb1 := (zH h).1
 replace h := (zH h).2
 refine zP h ?_; clear h; intro x1 hx1 h
 have hb2 := (zH h).1
 replace h := (zH h).2
 show AW _ _ _ _ _ _ []
 refine zAz (n := 23) (m := 0) [.head 0 0, .head 0 0, .head 0 0, .head 0 0, .head 0 0, .head 0 0, .head 0 0, .head 0 0, .head 0 0] [] [(li c_0), (ls zO c_1), (li a_i), (AV.rp (zO (at_ c_1 a_i)) 0), (AV.rp (zO (at_ c_1 a_i)) 0), (li ((at_ c_1 a_i).node)), (li x1), (li (2 * x1)), (li (2 * x1))] [[]] (by kernel_rfl) (by kernel_rfl) ⟨?_, ?_, ?_, ?_, ?_, ?_, ?_, ?_, ?_, trivial⟩ ?_
 ·exact fun e s p => zt (zW (row := [(li c_0)]) (o := 0) (a := (li c_0)) Tryz.isAgg3 (s 1 rfl) rfl) ⟨fun _ => rfl, rfl⟩
 ·exact fun e s p => zt (zW (row := [(ls zO c_1)]) (o := 0) (a := (ls zO c_1)) Tryz.isAgg23 (s 2 rfl) rfl) ⟨fun _ => rfl, rfl⟩
 ·exact fun e s p => zt (zB (av := (li a_i)) (s 0 rfl)) ⟨fun _ => rfl, rfl⟩
 ·exact fun e s p => zt (zV (f := zO) (l := c_1) (i := a_i) Tryz.underlying23 Tryz.sizeOf51 (fun _ => rfl) p.1 p.2.1 hb1) ⟨fun _ => rfl, rfl⟩
 ·exact fun e s p => zt (zAy (row := (zO (at_ c_1 a_i))) (o := 0) (off := 0) Tryz.underlying51 rfl rfl Tryz.sizeOf3 p.1) ⟨fun _ => rfl, rfl⟩
 ·exact fun e s p => zt (zW (row := (zO (at_ c_1 a_i))) (o := 0) (a := (li ((at_ c_1 a_i).node))) Tryz.isAgg3 p.1 rfl) ⟨fun _ => rfl, rfl⟩
 ·
  intro e7 hs7 hp7
  refine zd (r := (li x1)) (la := [(li c_0), (li ((at_ c_1 a_i).node))]) Tryz.func102 rfl (by kernel_rfl) (.fn 102) (zAF hp7.1 (zAF hp7.2.1 rfl)) rfl (zLE hx1) rfl ?_
  exact zF ⟨fun _ => rfl, rfl⟩
 ·exact fun e s p => zt (zKD (a := 2) (b := x1) rfl p.1 hb2) ⟨fun _ => rfl, rfl⟩
 ·exact fun e s p => zt (zD (av := (li (2 * x1))) p.2.2.2.2.2.2.2.2.2.1) ⟨fun _ => rfl, rfl⟩
 intro e10 hs10 hq1
 refine zY (zBV (l := [(0, (li a_i)), (2, (AV.rp [(ls zO c_1)] 0)), (5, (li (2 * x1)))]) ⟨(hs10 0 rfl), (hs10 2 rfl), (hq1 8 (by decide) (by decide)), trivial⟩) ?_
 refine z5 (fun e' H' => ∃ (i1 : Int), Rep 23 0 e' H' (mkE [(5, (li i1))]) [] ∧ zDq i1 = some r) ?_ ?_
 ·
  refine zI <| zC <| zA (zW (o := 0) Tryz.isAgg23 rfl rfl) <| zA (zB rfl) <| zA (zV Tryz.underlying23 Tryz.sizeOf51 (fun _ => rfl) rfl rfl hb1) <| zA (zAy (row := (zO (at_ c_1 a_i))) (o := 0) (off := 1) Tryz.underlying51 rfl rfl Tryz.sizeOf3 rfl) ?_
  refine zA (zW (o := 1) Tryz.isAgg3 rfl rfl) <| zA (zBT rfl rfl) <| zF ?_
  refine zQ (decide (((at_ c_1 a_i).kind) = 0)) rfl (fun hb3 => ?_) (fun hb3 => ?_)
  ·replace h := zo hb3 h
   refine zC <| zA (zB rfl) ?_
   have hb4 := (zH h).1
   replace h := (zH h).2
   refine zA (ze rfl rfl hb4) <| zA (zD rfl) <| zF ?_
   exact ⟨((2 * x1) + 1), zAE [] rfl rfl (by kernel_rfl), h⟩
  ·replace h := zv hb3 h
   refine zR ?_
   exact ⟨(2 * x1), zAE [] rfl rfl (by kernel_rfl), h⟩
 ·
  clear h
  rintro e' H' ⟨i1, hrep, h⟩
  refine zY hrep ?_
  clear hrep
  unfold zDq at h
  refine zI <| zC <| zA (zB rfl) <| zA (zD rfl) <| zF <| za ?_
  show zAS _ _ _ _ _ _
  obtain rfl := Option.some.inj h
  exact zp (zAK rfl rfl)
theorem zJ0 {a_x : Int} {a_y : Int} {r : Int} (h : zHY a_x a_y = some r) : PFn Tryz.prog 105 [(li a_x), (li a_y)] (li r) := by
 refine zi Tryz.func105 rfl Tryz.ntmps105 Tryz.results105 rfl ?_
 unfold zHY at h
 refine zI <| zC <| zA (zD rfl) <| zF <| zI <| zC ?_
 refine zA (zB rfl) ?_
 refine zP h ?_; clear h; intro x1 hx1 h
 refine zd Tryz.func137 rfl (by kernel_rfl) (.fn 137) rfl rfl (zFL hx1) rfl <| zA (zD rfl) <| zF <| zI <| zC <| zA (zB rfl) ?_
 refine zP h ?_; clear h; intro x2 hx2 h
 refine zd Tryz.func137 rfl (by kernel_rfl) (.fn 137) rfl rfl (zFL hx2) rfl <| zA (zD rfl) <| zF <| zI <| zI <| zC ?_
 refine zA (zB rfl) <| zF ?_
 refine zQ (x1) rfl (fun hb1 => ?_) (fun hb1 => ?_)
 ·replace h := zo hb1 h
  refine zI <| zI <| zC <| zA (zB rfl) <| zF ?_
  refine zQ (x2) rfl (fun hb2 => ?_) (fun hb2 => ?_)
  ·replace h := zo hb2 h
   refine zI <| zC <| zA (zD rfl) <| zF <| za ?_
   show zAS _ _ _ _ _ _
   obtain rfl := Option.some.inj h
   exact zp (zAK rfl rfl)
  ·replace h := zv hb2 h
   refine zR <| zI <| zC <| zA (zD rfl) <| zF <| za ?_
   show zAS _ _ _ _ _ _
   obtain rfl := Option.some.inj h
   exact zp (zAK rfl rfl)
 ·replace h := zv hb1 h
  refine zR <| zI <| zI <| zC <| zA (zB rfl) <| zF ?_
  refine zQ (x2) rfl (fun hb3 => ?_) (fun hb3 => ?_)
  ·replace h := zo hb3 h
   refine zI <| zC <| zA (zD rfl) <| zF <| za ?_
   show zAS _ _ _ _ _ _
   obtain rfl := Option.some.inj h
   exact zp (zAK rfl rfl)
  ·replace h := zv hb3 h
   refine zR <| zI <| zI <| zC <| zA (zB rfl) <| zA (zB rfl) ?_
   refine zA (zf rfl rfl) <| zF ?_
   refine zQ (decide (a_x < a_y)) rfl (fun hb4 => ?_) (fun hb4 => ?_)
   ·replace h := zo hb4 h
    refine zI <| zC <| zA (zD rfl) <| zF <| za ?_
    show zAS _ _ _ _ _ _
    obtain rfl := Option.some.inj h
    exact zp (zAK rfl rfl)
   ·replace h := zv hb4 h
    refine zR <| zI <| zI <| zC <| zA (zB rfl) <| zA (zB rfl) ?_
    refine zA (zAp rfl rfl) <| zF ?_
    refine zQ (decide (a_y < a_x)) rfl (fun hb5 => ?_) (fun hb5 => ?_)
    ·replace h := zo hb5 h
     refine zI <| zC <| zA (zD rfl) <| zF <| za ?_
     show zAS _ _ _ _ _ _
     obtain rfl := Option.some.inj h
     exact zp (zAK rfl rfl)
    ·replace h := zv hb5 h
     refine zR <| zI <| zC <| zA (zD rfl) <| zF <| za ?_
     show zAS _ _ _ _ _ _
     obtain rfl := Option.some.inj h
     exact zp (zAK rfl rfl)
theorem zJr {a_a : Int} {a_b : Int} {c_0 : Int → Option Int} {g_c_0 : FuncId} {cf_c_0 : Func} {code_c_0 : Code} {caps_c_0 : List AV} (hcf_c_0 : Tryz.prog.funcs[g_c_0]? = some cf_c_0) (hcb_c_0 : cf_c_0.body = some code_c_0) (hcn_c_0 : (cf_c_0.name == "runtime.NumGoroutine") = false) (hnr_c_0 : caps_c_0.all nr = true) (hg_c_0 : ∀ {x0 : Int} {y : Int}, c_0 x0 = some y → PFn Tryz.prog g_c_0 ((li x0) :: caps_c_0) (li y)) {r : Int} (h : zG7 a_a a_b c_0 = some r) : PFn Tryz.prog 104 [(li a_a), (li a_b), (AV.rp [(AV.clo g_c_0 caps_c_0)] 0)] (li r) := by
 refine zi Tryz.func104 rfl Tryz.ntmps104 Tryz.results104 rfl ?_
 unfold zG7 at h
 refine zI <| zC <| zA (zD rfl) <| zF <| zI ?_
 refine zP h ?_; clear h; intro x1 hx1 h
 refine zP h ?_; clear h; intro x2 hx2 h
 refine zP h ?_; clear h; intro x3 hx3 h
 show AW _ _ _ _ _ _ []
 refine zAz (n := 13) (m := 0) [.head 0 0, .head 0 0, .head 0 0, .head 0 0, .head 0 0, .head 0 0, .head 0 0, .head 0 0] [] [(AV.clo g_c_0 caps_c_0), (li a_a), (li x1), (AV.clo g_c_0 caps_c_0), (li a_b), (li x2), (li x3), (li x3)] [[]] (by kernel_rfl) (by kernel_rfl) ⟨?_, ?_, ?_, ?_, ?_, ?_, ?_, ?_, trivial⟩ ?_
 ·exact fun e s p => zt (zW (row := [(AV.clo g_c_0 caps_c_0)]) (o := 0) (a := (AV.clo g_c_0 caps_c_0)) Tryz.isAgg100 (s 2 rfl) rfl) ⟨fun _ => rfl, rfl⟩
 ·exact fun e s p => zt (zB (av := (li a_a)) (s 0 rfl)) ⟨fun _ => rfl, rfl⟩
 ·
  intro e3 hs3 hp3
  refine zA3 (la := (li a_a) :: caps_c_0) (la' := (li a_a) :: caps_c_0) (r := (li x1)) (r' := (li x1)) (S := []) hcf_c_0 hcb_c_0 hcn_c_0 (.clo (caps := caps_c_0) hp3.1) (zAF hp3.2.1 rfl) (zDJ.c (zAt.nr rfl) (zDJ.nrs hnr_c_0)) (hg_c_0 hx1) (.inl rfl) rfl ?_
  exact zF ⟨fun _ => rfl, rfl⟩
 ·exact fun e s p => zt (zW (row := [(AV.clo g_c_0 caps_c_0)]) (o := 0) (a := (AV.clo g_c_0 caps_c_0)) Tryz.isAgg100 (s 2 rfl) rfl) ⟨fun _ => rfl, rfl⟩
 ·exact fun e s p => zt (zB (av := (li a_b)) (s 1 rfl)) ⟨fun _ => rfl, rfl⟩
 ·
  intro e6 hs6 hp6
  refine zA3 (la := (li a_b) :: caps_c_0) (la' := (li a_b) :: caps_c_0) (r := (li x2)) (r' := (li x2)) (S := []) hcf_c_0 hcb_c_0 hcn_c_0 (.clo (caps := caps_c_0) hp6.1) (zAF hp6.2.1 rfl) (zDJ.c (zAt.nr rfl) (zDJ.nrs hnr_c_0)) (hg_c_0 hx2) (.inl rfl) rfl ?_
  exact zF ⟨fun _ => rfl, rfl⟩
 ·
  intro e7 hs7 hp7
  refine zd (r := (li x3)) (la := [(li x1), (li x2)]) Tryz.func105 rfl (by kernel_rfl) (.fn 105) (zAF hp7.1 (zAF hp7.2.2.1 rfl)) rfl (zJ0 hx3) rfl ?_
  exact zF ⟨fun _ => rfl, rfl⟩
 ·exact fun e s p => zt (zD (av := (li x3)) p.2.2.2.2.2.2.2.2.1) ⟨fun _ => rfl, rfl⟩
 intro e9 hs9 hq1
 refine zY (zBV (l := [(5, (li x3))]) ⟨(hq1 7 (by decide) (by decide)), trivial⟩) <| za ?_
 show zAS _ _ _ _ _ _
 obtain rfl := Option.some.inj h
 exact zp (zAK rfl rfl)
theorem zCs {a_data : List Int} {a_a : Int} {a_b : Int} {a_cmp : Int → Int → Option Int} {g_a_cmp : FuncId} {cf_a_cmp : Func} {code_a_cmp : Code} {caps_a_cmp : List AV} (hcf_a_cmp : Tryz.prog.funcs[g_a_cmp]? = some cf_a_cmp) (hcb_a_cmp : cf_a_cmp.body = some code_a_cmp) (hcn_a_cmp : (cf_a_cmp.name == "runtime.NumGoroutine") = false) (hnr_a_cmp : caps_a_cmp.all nr = true) (hg_a_cmp : ∀ {x0 : Int} {x1 : Int} {y : Int}, a_cmp x0 x1 = some y → PFn Tryz.prog g_a_cmp ((li x0) :: (li x1) :: caps_a_cmp) (li y)) {r : (List Int)} (h : zBI a_data a_a a_b a_cmp = some r) : AFn Tryz.prog 145 [(AV.hd 0), (li a_a), (li a_b), (AV.clo g_a_cmp caps_a_cmp)] [.vec 3 1 (List.map cI a_data)] (.tup []) [.vec 3 1 (List.map cI r)] := by
 refine zGV Tryz.func145 rfl Tryz.ntmps145 Tryz.results145 rfl ?_
 unfold zBI at h
 refine zI <| zC <| zA (zB rfl) ?_
 have hb1 := (zH h).1
 replace h := (zH h).2
 refine zA (ze rfl rfl hb1) <| zA (zD rfl) <| zF <| zS <| z9 (σ := Nat × Int × (List Int)) (fun s => s.1) (fun s e' H' => match s with | (n0, i1, l1) => Rep 53 1 e' H' (mkE [(0, (AV.hd 0)), (1, (li a_a)), (2, (li a_b)), (3, (AV.clo g_a_cmp caps_a_cmp)), (8, (li i1))]) [.vec 3 1 (List.map cI l1)] ∧ zAH a_a a_b a_cmp n0 i1 l1 = some r) (zAC, (a_a + 1), a_data) ⟨zBd (n := 53) (m := 1) [0] (l := [(0, (AV.hd 0)), (1, (li a_a)), (2, (li a_b)), (3, (AV.clo g_a_cmp caps_a_cmp)), (8, (li (a_a + 1)))]) ⟨⟨Sub.refl _, by kernel_rfl⟩, ⟨Sub.refl _, by kernel_rfl⟩, ⟨Sub.refl _, by kernel_rfl⟩, ⟨zD9 hnr_a_cmp, zEA hnr_a_cmp⟩, ⟨Sub.refl _, by kernel_rfl⟩, trivial⟩ rfl rfl ⟨⟨rfl, by kernel_rfl⟩, trivial⟩, h⟩ ?_
 clear h
 rintro ⟨n0, i1, l1⟩ e' H' ⟨hrep, h⟩
 cases n0 with
 | zero => exact absurd (show (none : Option _) = some r from h) (by simp)
 | succ n0 =>
  replace h : zBh a_a a_b a_cmp (zAH a_a a_b a_cmp n0) i1 l1 = some r := h
  unfold zBh at h
  refine zY hrep ?_
  clear hrep
  refine zI <| zI <| zC <| zA (zB rfl) <| zA (zB rfl) <| zA (zf rfl rfl) ?_
  refine zF ?_
  refine zQ (decide (i1 < a_b)) rfl (fun hb2 => ?_) (fun hb2 => ?_)
  ·replace h := zo hb2 h
   refine zR ?_
   refine z5 (fun e' H' => ∃ (l2 : List Int), Rep 53 1 e' H' (mkE [(0, (AV.hd 0)), (1, (li a_a)), (2, (li a_b)), (3, (AV.clo g_a_cmp caps_a_cmp)), (8, (li i1))]) [.vec 3 1 (List.map cI l2)] ∧ zBf (zAH a_a a_b a_cmp n0) i1 l2 = some r) ?_ ?_
   ·
    refine zS <| zI <| zC <| zA (zB rfl) <| zA (zD rfl) <| zF ?_
    refine zS <| z9 (σ := Nat × Int × (List Int)) (fun s => s.1) (fun s e' H' => match s with | (n1, i2, l3) => Rep 53 1 e' H' (mkE [(0, (AV.hd 0)), (1, (li a_a)), (2, (li a_b)), (3, (AV.clo g_a_cmp caps_a_cmp)), (8, (li i1)), (9, (li i2))]) [.vec 3 1 (List.map cI l3)] ∧ zA9 (zAH a_a a_b a_cmp n0) a_a a_cmp i1 n1 i2 l3 = some r) (zAC, i1, l1) ⟨zBd (n := 53) (m := 1) [0] (l := [(0, (AV.hd 0)), (1, (li a_a)), (2, (li a_b)), (3, (AV.clo g_a_cmp caps_a_cmp)), (8, (li i1)), (9, (li i1))]) ⟨⟨Sub.refl _, by kernel_rfl⟩, ⟨Sub.refl _, by kernel_rfl⟩, ⟨Sub.refl _, by kernel_rfl⟩, ⟨zD9 hnr_a_cmp, zEA hnr_a_cmp⟩, ⟨Sub.refl _, by kernel_rfl⟩, ⟨Sub.refl _, by kernel_rfl⟩, trivial⟩ rfl rfl ⟨⟨rfl, by kernel_rfl⟩, trivial⟩, h⟩ ?_
    clear h
    rintro ⟨n1, i2, l3⟩ e' H' ⟨hrep, h⟩
    cases n1 with
    | zero => exact absurd (show (none : Option _) = some r from h) (by simp)
    | succ n1 =>
     replace h : zBg (zAH a_a a_b a_cmp n0) a_a a_cmp i1 (zA9 (zAH a_a a_b a_cmp n0) a_a a_cmp i1 n1) i2 l3 = some r := h
     unfold zBg at h
     refine zY hrep ?_
     clear hrep
     refine zI <| zI ?_
     have hb4 := (zH h).1
     replace h := (zH h).2
     have hb5 := (zH h).1
     replace h := (zH h).2
     have hb6 := (zH h).1
     replace h := (zH h).2
     refine zP h ?_; clear h; intro x1 hx1 h
     show AW _ _ _ _ _ _ [.vec 3 1 (List.map cI l3)]
     refine zAz (n := 53) (m := 1) [.head 0 0, .head 0 0, .head 0 0, .head 0 0, .head 0 0, .head 0 0, .head 0 0, .head 0 0, .head 0 0, .head 0 0, .head 0 0, .head 0 0, .head 0 0, .head 0 0, .head 0 0, .head 0 0, .head 0 0] [] [(li i2), (li a_a), (AV.lit (.bool (decide (a_a < i2)))), (AV.lit (.bool (decide (a_a < i2)))), (bif decide (a_a < i2) then (AV.clo g_a_cmp caps_a_cmp) else .lit undef), (bif decide (a_a < i2) then (AV.hd 0) else .lit undef), (bif decide (a_a < i2) then (li i2) else .lit undef), (bif decide (a_a < i2) then (AV.ptr 0 (i2.toNat * 1)) else .lit undef), (bif decide (a_a < i2) then (li (at_ l3 i2)) else .lit undef), (bif decide (a_a < i2) then (AV.hd 0) else .lit undef), (bif decide (a_a < i2) then (li i2) else .lit undef), (bif decide (a_a < i2) then (li (i2 - 1)) else .lit undef), (bif decide (a_a < i2) then (AV.ptr 0 ((i2 - 1).toNat * 1)) else .lit undef), (bif decide (a_a < i2) then (li (at_ l3 (i2 - 1))) else .lit undef), (bif decide (a_a < i2) then (li x1) else .lit undef), (bif decide (a_a < i2) then (AV.lit (.bool (decide (x1 < 0)))) else .lit undef), (AV.lit (.bool ((decide (a_a < i2)) && (decide (x1 < 0)))))] [[.vec 3 1 (List.map cI l3)]] (by kernel_rfl) (by kernel_rfl) ⟨?_, ?_, ?_, ?_, ?_, ?_, ?_, ?_, ?_, ?_, ?_, ?_, ?_, ?_, ?_, ?_, ?_, trivial⟩ ?_
     ·exact fun e s p => zt (zB (av := (li i2)) (s 9 rfl)) ⟨fun _ => rfl, rfl⟩
     ·exact fun e s p => zt (zB (av := (li a_a)) (s 1 rfl)) ⟨fun _ => rfl, rfl⟩
     ·exact fun e s p => zt (zAp (a := i2) (b := a_a) p.1 p.2.1) ⟨fun _ => rfl, rfl⟩
     ·exact fun e s p => zt (zB (av := (AV.lit (.bool (decide (a_a < i2))))) p.1) ⟨fun _ => rfl, rfl⟩
     ·
      intro e5 hs5 hp5
      refine zg (g := 21) (s := decide (a_a < i2)) rfl hp5.1 (fun hc13 => zj.step (zB (av := (AV.clo g_a_cmp caps_a_cmp)) (hs5 3 rfl))) ?_
      exact zF ⟨fun _ => rfl, rfl⟩
     ·
      intro e6 hs6 hp6
      refine zg (g := 21) (s := decide (a_a < i2)) rfl hp6.1 (fun hc14 => zj.step (zB (av := (AV.hd 0)) (hs6 0 rfl))) ?_
      exact zF ⟨fun _ => rfl, rfl⟩
     ·
      intro e7 hs7 hp7
      refine zg (g := 21) (s := decide (a_a < i2)) rfl hp7.1 (fun hc15 => zj.step (zB (av := (li i2)) (hs7 9 rfl))) ?_
      exact zF ⟨fun _ => rfl, rfl⟩
     ·
      intro e8 hs8 hp8
      refine zg (g := 21) (s := decide (a_a < i2)) rfl hp8.2.2.1 (fun hc16 => zj.step (zAI (f := cI) (l := l3) (i := i2) Tryz.underlying22 Tryz.sizeOf3 (zz hp8.1 hc16) rfl (zz hp8.2.1 hc16) (zFp hb4 hc16))) ?_
      exact zF ⟨fun _ => rfl, rfl⟩
     ·
      intro e9 hs9 hp9
      refine zg (g := 21) (s := decide (a_a < i2)) rfl hp9.2.1 (fun hc17 => zj.step (zB4 (f := cI) (l := l3) (i := i2) (c := 0) (a := (li (at_ l3 i2))) Tryz.isAgg3 (zz hp9.1 hc17) rfl (by first | rfl | omega) (zFp hb4 hc17) rfl rfl)) ?_
      exact zF ⟨fun _ => rfl, rfl⟩
     ·
      intro e10 hs10 hp10
      refine zg (g := 21) (s := decide (a_a < i2)) rfl hp10.1 (fun hc18 => zj.step (zB (av := (AV.hd 0)) (hs10 0 rfl))) ?_
      exact zF ⟨fun _ => rfl, rfl⟩
     ·
      intro e11 hs11 hp11
      refine zg (g := 21) (s := decide (a_a < i2)) rfl hp11.1 (fun hc19 => zj.step (zB (av := (li i2)) (hs11 9 rfl))) ?_
      exact zF ⟨fun _ => rfl, rfl⟩
     ·
      intro e12 hs12 hp12
      refine zg (g := 21) (s := decide (a_a < i2)) rfl hp12.2.1 (fun hc20 => zj.step (zB5 (a := i2) (b := 1) (zz hp12.1 hc20) rfl (zFp hb5 hc20))) ?_
      exact zF ⟨fun _ => rfl, rfl⟩
     ·
      intro e13 hs13 hp13
      refine zg (g := 21) (s := decide (a_a < i2)) rfl hp13.2.2.1 (fun hc21 => zj.step (zAI (f := cI) (l := l3) (i := i2 - 1) Tryz.underlying22 Tryz.sizeOf3 (zz hp13.1 hc21) rfl (zz hp13.2.1 hc21) (zFp hb6 hc21))) ?_
      exact zF ⟨fun _ => rfl, rfl⟩
     ·
      intro e14 hs14 hp14
      refine zg (g := 21) (s := decide (a_a < i2)) rfl hp14.2.1 (fun hc22 => zj.step (zB4 (f := cI) (l := l3) (i := i2 - 1) (c := 0) (a := (li (at_ l3 (i2 - 1)))) Tryz.isAgg3 (zz hp14.1 hc22) rfl (by first | rfl | omega) (zFp hb6 hc22) rfl rfl)) ?_
      exact zF ⟨fun _ => rfl, rfl⟩
     ·
      intro e15 hs15 hp15
      refine zB1 (g := 21) (s := decide (a_a < i2)) (r' := (li x1)) rfl hp15.2.2.2.2.1 (fun hc23 => ⟨g_a_cmp, cf_a_cmp, code_a_cmp, caps_a_cmp, (li (at_ l3 i2)) :: (li (at_ l3 (i2 - 1))) :: caps_a_cmp, (li (at_ l3 i2)) :: (li (at_ l3 (i2 - 1))) :: caps_a_cmp, (li x1), [], hcf_a_cmp, hcb_a_cmp, hcn_a_cmp, .clo (zz hp15.1 hc23), (zAF (zz hp15.2.1 hc23) (zAF (zz hp15.2.2.1 hc23) rfl)), zDJ.c (zAt.nr rfl) (zDJ.c (zAt.nr rfl) (zDJ.nrs hnr_a_cmp)), hg_a_cmp (zo hc23 hx1), .inl rfl, rfl⟩) ?_
      exact zF ⟨fun _ => rfl, rfl⟩
     ·
      intro e16 hs16 hp16
      refine zg (g := 21) (s := decide (a_a < i2)) rfl hp16.2.1 (fun hc24 => zj.step (zf (a := x1) (b := 0) (zz hp16.1 hc24) rfl)) ?_
      exact zF ⟨fun _ => rfl, rfl⟩
     ·exact fun e s p => zt (zy (s := decide (a_a < i2)) (q := decide (x1 < 0)) (j := .lit undef) p.1 p.2.1) ⟨fun _ => rfl, rfl⟩
     intro e18 hs18 hq1
     refine zY (zBV (l := [(0, (AV.hd 0)), (1, (li a_a)), (2, (li a_b)), (3, (AV.clo g_a_cmp caps_a_cmp)), (8, (li i1)), (9, (li i2)), (34, (AV.lit (.bool ((decide (a_a < i2)) && (decide (x1 < 0))))))]) ⟨(hs18 0 rfl), (hs18 1 rfl), (hs18 2 rfl), (hs18 3 rfl), (hs18 8 rfl), (hs18 9 rfl), (hq1 16 (by decide) (by decide)), trivial⟩) ?_
     refine zQ ((decide (a_a < i2)) && (decide (x1 < 0))) rfl (fun hb7 => ?_) (fun hb7 => ?_)
     ·replace h := zo hb7 h
      refine zR <| zI <| zS ?_
      have hb8 := (zH h).1
      replace h := (zH h).2
      have hb9 := (zH h).1
      replace h := (zH h).2
      have hb10 := (zH h).1
      replace h := (zH h).2
      have hb11 := (zH h).1
      replace h := (zH h).2
      show AW _ _ _ _ _ _ [.vec 3 1 (List.map cI l3)]
      refine zAz (n := 53) (m := 1) [.head 0 0, .head 0 0, .head 0 1, .head 0 1, .head 0 1, .head 0 0, .head 0 0, .head 0 0, .head 0 0, .head 0 0, .head 0 0, .head 0 0, .head 0 0, .head 0 0, .head 0 0, .tail 0, .head 1 1, .tail 1] [15, 17] [(AV.hd 0), (li i2), (AV.hd 0), (li i2), (li (i2 - 1)), (AV.hd 0), (li i2), (li (i2 - 1)), (AV.ptr 0 ((i2 - 1).toNat * 1)), (li (at_ l3 (i2 - 1))), (AV.hd 0), (li i2), (AV.ptr 0 (i2.toNat * 1)), (li (at_ l3 i2)), (AV.ptr 0 (i2.toNat * 1)), .any, (AV.ptr 0 ((i2 - 1).toNat * 1)), .any] [[.vec 3 1 (List.map cI l3)], [.vec 3 1 (List.map cI (l3.set i2.toNat (at_ l3 (i2 - 1))))], [.vec 3 1 (List.map cI ((l3.set i2.toNat (at_ l3 (i2 - 1))).set (i2 - 1).toNat (at_ l3 i2)))]] (by kernel_rfl) (by kernel_rfl) ⟨?_, ?_, ⟨?_, ?_⟩, ⟨?_, ?_⟩, ⟨?_, ?_⟩, ?_, ?_, ?_, ?_, ?_, ?_, ?_, ?_, ?_, ?_, ?_, ?_, ?_, trivial⟩ ?_
      ·exact fun e s p => zt (zB (av := (AV.hd 0)) (s 0 rfl)) ⟨fun _ => rfl, rfl⟩
      ·exact fun e s p => zt (zB (av := (li i2)) (s 9 rfl)) ⟨fun _ => rfl, rfl⟩
      ·exact fun e s p => zt (zB (av := (AV.hd 0)) (s 0 rfl)) ⟨fun _ => rfl, rfl⟩
      ·exact fun e s p => zt (zB (av := (AV.hd 0)) (s 0 rfl)) ⟨fun _ => rfl, rfl⟩
      ·exact fun e s p => zt (zB (av := (li i2)) (s 9 rfl)) ⟨fun _ => rfl, rfl⟩
      ·exact fun e s p => zt (zB (av := (li i2)) (s 9 rfl)) ⟨fun _ => rfl, rfl⟩
      ·exact fun e s p => zt (zB5 (a := i2) (b := 1) p.1 rfl hb8) ⟨fun _ => rfl, rfl⟩
      ·exact fun e s p => zt (zB5 (a := i2) (b := 1) p.1 rfl hb8) ⟨fun _ => rfl, rfl⟩
      ·exact fun e s p => zt (zB (av := (AV.hd 0)) (s 0 rfl)) ⟨fun _ => rfl, rfl⟩
      ·exact fun e s p => zt (zB (av := (li i2)) (s 9 rfl)) ⟨fun _ => rfl, rfl⟩
      ·exact fun e s p => zt (zB5 (a := i2) (b := 1) p.1 rfl hb8) ⟨fun _ => rfl, rfl⟩
      ·exact fun e s p => zt (zAI (f := cI) (l := l3) (i := i2 - 1) Tryz.underlying22 Tryz.sizeOf3 p.1 rfl p.2.1 hb9) ⟨fun _ => rfl, rfl⟩
      ·exact fun e s p => zt (zB4 (f := cI) (l := l3) (i := i2 - 1) (c := 0) (a := (li (at_ l3 (i2 - 1)))) Tryz.isAgg3 p.1 rfl (by first | rfl | omega) hb9 rfl rfl) ⟨fun _ => rfl, rfl⟩
      ·exact fun e s p => zt (zB (av := (AV.hd 0)) (s 0 rfl)) ⟨fun _ => rfl, rfl⟩
      ·exact fun e s p => zt (zB (av := (li i2)) (s 9 rfl)) ⟨fun _ => rfl, rfl⟩
      ·exact fun e s p => zt (zAI (f := cI) (l := l3) (i := i2) Tryz.underlying22 Tryz.sizeOf3 p.1 rfl p.2.1 hb10) ⟨fun _ => rfl, rfl⟩
      ·exact fun e s p => zt (zB4 (f := cI) (l := l3) (i := i2) (c := 0) (a := (li (at_ l3 i2))) Tryz.isAgg3 p.1 rfl (by first | rfl | omega) hb10 rfl rfl) ⟨fun _ => rfl, rfl⟩
      ·exact fun e s p => zt (zAI (f := cI) (l := l3) (i := i2) Tryz.underlying22 Tryz.sizeOf3 p.2.2.1 rfl p.2.2.2.1 hb10) ⟨fun _ => rfl, rfl⟩
      ·
       intro e37 hs37 hp36
       refine zx (H' := [.vec 3 1 (List.map cI (l3.set i2.toNat (at_ l3 (i2 - 1))))]) (zDk (k := 0) (o := (i2.toNat * 1)) (f := cI) (l := l3) (i := i2) (c := 0) (a := (li (at_ l3 (i2 - 1)))) (z := at_ l3 (i2 - 1)) Tryz.sizeOf3 (by exact hp36.1) rfl (by first | rfl | omega) hb10 rfl (by exact hp36.2.2.2.2.2.2.2.2.2.2.2.1) rfl rfl rfl) ?_
       exact zF ⟨fun _ => rfl, rfl⟩
      ·exact fun e s p => zt (zAI (f := cI) (l := l3.set i2.toNat (at_ l3 (i2 - 1))) (i := i2 - 1) Tryz.underlying22 Tryz.sizeOf3 p.2.2.2.2.1 rfl p.2.2.2.2.2.2.1 hb11) ⟨fun _ => rfl, rfl⟩
      ·
       intro e39 hs39 hp38
       refine zx (H' := [.vec 3 1 (List.map cI ((l3.set i2.toNat (at_ l3 (i2 - 1))).set (i2 - 1).toNat (at_ l3 i2)))]) (zDk (k := 0) (o := ((i2 - 1).toNat * 1)) (f := cI) (l := l3.set i2.toNat (at_ l3 (i2 - 1))) (i := i2 - 1) (c := 0) (a := (li (at_ l3 i2))) (z := at_ l3 i2) Tryz.sizeOf3 (by exact hp38.1) rfl (by first | rfl | omega) hb11 rfl (by exact hp38.2.2.2.2.2.2.2.2.2.2.2.2.2.2.2.2.1) rfl rfl rfl) ?_
       exact zF ⟨fun _ => rfl, rfl⟩
      intro e40 hs40 hq2
      refine zY (zBV (l := [(0, (AV.hd 0)), (1, (li a_a)), (2, (li a_b)), (3, (AV.clo g_a_cmp caps_a_cmp)), (8, (li i1)), (9, (li i2))]) ⟨(hs40 0 rfl), (hs40 1 rfl), (hs40 2 rfl), (hs40 3 rfl), (hs40 8 rfl), (hs40 9 rfl), trivial⟩) <| zC <| zA (zB (av := (li i2)) rfl) <| zA (zB5 (a := i2) (b := 1) rfl rfl hb8) <| zA (zD (av := (li (i2 - 1))) rfl) <| zF ?_
      exact ⟨(n1, (i2 - 1), ((l3.set i2.toNat (at_ l3 (i2 - 1))).set (i2 - 1).toNat (at_ l3 i2))), Nat.lt_succ_self _, zBd (n := 53) (m := 1) [0] (l := [(0, (AV.hd 0)), (1, (li a_a)), (2, (li a_b)), (3, (AV.clo g_a_cmp caps_a_cmp)), (8, (li i1)), (9, (li (i2 - 1)))]) ⟨⟨Sub.refl _, by kernel_rfl⟩, ⟨Sub.refl _, by kernel_rfl⟩, ⟨Sub.refl _, by kernel_rfl⟩, ⟨zD9 hnr_a_cmp, zEA hnr_a_cmp⟩, ⟨Sub.refl _, by kernel_rfl⟩, ⟨Sub.refl _, by kernel_rfl⟩, trivial⟩ rfl rfl ⟨⟨rfl, by kernel_rfl⟩, trivial⟩, h⟩
     ·replace h := zv hb7 h
      refine z8 ?_
      exact ⟨l3, zBd (n := 53) (m := 1) [0] (l := [(0, (AV.hd 0)), (1, (li a_a)), (2, (li a_b)), (3, (AV.clo g_a_cmp caps_a_cmp)), (8, (li i1))]) ⟨⟨Sub.refl _, by kernel_rfl⟩, ⟨Sub.refl _, by kernel_rfl⟩, ⟨Sub.refl _, by kernel_rfl⟩, ⟨zD9 hnr_a_cmp, zEA hnr_a_cmp⟩, ⟨Sub.refl _, by kernel_rfl⟩, trivial⟩ rfl rfl ⟨⟨rfl, by kernel_rfl⟩, trivial⟩, h⟩
   ·
    clear h
    rintro e' H' ⟨l2, hrep, h⟩
    refine zY hrep ?_
    clear hrep
    unfold zBf at h
    refine zC <| zA (zB rfl) ?_
    have hb3 := (zH h).1
    replace h := (zH h).2
    refine zA (ze rfl rfl hb3) <| zA (zD rfl) <| zF ?_
    exact ⟨(n0, (i1 + 1), l2), Nat.lt_succ_self _, zBd (n := 53) (m := 1) [0] (l := [(0, (AV.hd 0)), (1, (li a_a)), (2, (li a_b)), (3, (AV.clo g_a_cmp caps_a_cmp)), (8, (li (i1 + 1)))]) ⟨⟨Sub.refl _, by kernel_rfl⟩, ⟨Sub.refl _, by kernel_rfl⟩, ⟨Sub.refl _, by kernel_rfl⟩, ⟨zD9 hnr_a_cmp, zEA hnr_a_cmp⟩, ⟨Sub.refl _, by kernel_rfl⟩, trivial⟩ rfl rfl ⟨⟨rfl, by kernel_rfl⟩, trivial⟩, h⟩
  ·replace h := zv hb2 h
   refine z8 ?_
   show zPF _ _ _ _ _ _ _ _
   obtain rfl := Option.some.inj h
   exact ⟨mkE [], [.vec 3 1 (List.map cI l1)], zAE [0] rfl rfl (by kernel_rfl), zLP rfl⟩
theorem zHc {a_data : List Int} {a_n : Int} {a_cmp : Int → Int → Option Int} {g_a_cmp : FuncId} {cf_a_cmp : Func} {code_a_cmp : Code} {caps_a_cmp : List AV} (hcf_a_cmp : Tryz.prog.funcs[g_a_cmp]? = some cf_a_cmp) (hcb_a_cmp : cf_a_cmp.body = some code_a_cmp) (hcn_a_cmp : (cf_a_cmp.name == "runtime.NumGoroutine") = false) (hnr_a_cmp : caps_a_cmp.all nr = true) (hg_a_cmp : ∀ {x0 : Int} {x1 : Int} {y : Int}, a_cmp x0 x1 = some y → PFn Tryz.prog g_a_cmp ((li x0) :: (li x1) :: caps_a_cmp) (li y)) {r : (List Int)} (h : zDg a_data a_n a_cmp = some r) : AFn Tryz.prog 136 [(AV.hd 0), (li a_n), (AV.clo g_a_cmp caps_a_cmp)] [.vec 3 1 (List.map cI a_data)] (.tup []) [.vec 3 1 (List.map cI r)] := by
 refine zGV Tryz.func136 rfl Tryz.ntmps136 Tryz.results136 rfl ?_
 unfold zDg at h
 refine zI <| zC <| zA (zD rfl) <| zF <| zI <| zC ?_
 refine zA (zB rfl) <| zA (zD rfl) <| zA (zD rfl) <| zF ?_
 refine z5 (fun e' H' => ∃ (i1 : Int) (l1 : List Int), Rep 63 1 e' H' (mkE [(0, (AV.hd 0)), (1, (li a_n)), (2, (AV.clo g_a_cmp caps_a_cmp)), (6, (li 20)), (7, (li i1))]) [.vec 3 1 (List.map cI l1)] ∧ zCj a_n a_cmp i1 l1 = some r) ?_ ?_
 ·
  refine zS <| z9 (σ := Nat × Int × Int × (List Int)) (fun s => s.1) (fun s e' H' => match s with | (n2, i3, i4, l2) => Rep 63 1 e' H' (mkE [(0, (AV.hd 0)), (1, (li a_n)), (2, (AV.clo g_a_cmp caps_a_cmp)), (6, (li 20)), (7, (li i3)), (8, (li i4))]) [.vec 3 1 (List.map cI l2)] ∧ zBs a_n a_cmp n2 i3 i4 l2 = some r) (zAC, 0, 20, a_data) ⟨zBd (n := 63) (m := 1) [0] (l := [(0, (AV.hd 0)), (1, (li a_n)), (2, (AV.clo g_a_cmp caps_a_cmp)), (6, (li 20)), (7, (li 0)), (8, (li 20))]) ⟨⟨Sub.refl _, by kernel_rfl⟩, ⟨Sub.refl _, by kernel_rfl⟩, ⟨zD9 hnr_a_cmp, zEA hnr_a_cmp⟩, ⟨Sub.refl _, by kernel_rfl⟩, ⟨Sub.refl _, by kernel_rfl⟩, ⟨Sub.refl _, by kernel_rfl⟩, trivial⟩ rfl rfl ⟨⟨rfl, by kernel_rfl⟩, trivial⟩, h⟩ ?_
  clear h
  rintro ⟨n2, i3, i4, l2⟩ e' H' ⟨hrep, h⟩
  cases n2 with
  | zero => exact absurd (show (none : Option _) = some r from h) (by simp)
  | succ n2 =>
   replace h : zCf a_n a_cmp (zBs a_n a_cmp n2) i3 i4 l2 = some r := h
   unfold zCf at h
   refine zY hrep ?_
   clear hrep
   refine zI <| zI <| zC <| zA (zB rfl) <| zA (zB rfl) <| zA (zCq rfl rfl) ?_
   refine zF ?_
   refine zQ (decide (i4 ≤ a_n)) rfl (fun hb8 => ?_) (fun hb8 => ?_)
   ·replace h := zo hb8 h
    refine zR <| zS <| zI <| zC <| zA (zB rfl) <| zA (zB rfl) ?_
    refine zA (zB rfl) <| zA (zB rfl) ?_
    refine zP h ?_; clear h; intro x2 hx2 h
    refine zD2 (k := 0) (la := [(AV.hd 0), (li i3), (li i4), (AV.clo g_a_cmp caps_a_cmp)]) (la' := [(AV.hd 0), (li i3), (li i4), (AV.clo g_a_cmp caps_a_cmp)]) (r := (.tup [])) (S := []) (en' := .vec 3 1 (List.map cI x2)) Tryz.func145 rfl (by kernel_rfl) (.fn 145) rfl ⟨zCn.hd, zCn.of (zAt.nr rfl), zCn.of (zAt.nr rfl), zCn.of (zAt.clo (zDJ.nrs hnr_a_cmp)), trivial⟩ rfl rfl rfl rfl (zCs hcf_a_cmp hcb_a_cmp hcn_a_cmp hnr_a_cmp hg_a_cmp hx2) rfl (.inl rfl) <| zF <| zI <| zC <| zA (zB rfl) <| zA (zD rfl) ?_
    refine zF <| zC <| zA (zB rfl) <| zA (zB rfl) ?_
    have hb9 := (zH h).1
    replace h := (zH h).2
    refine zA (ze rfl rfl hb9) <| zA (zD rfl) <| zF ?_
    exact ⟨(n2, i4, (i4 + 20), x2), Nat.lt_succ_self _, zBd (n := 63) (m := 1) [0] (l := [(0, (AV.hd 0)), (1, (li a_n)), (2, (AV.clo g_a_cmp caps_a_cmp)), (6, (li 20)), (7, (li i4)), (8, (li (i4 + 20)))]) ⟨⟨Sub.refl _, by kernel_rfl⟩, ⟨Sub.refl _, by kernel_rfl⟩, ⟨zD9 hnr_a_cmp, zEA hnr_a_cmp⟩, ⟨Sub.refl _, by kernel_rfl⟩, ⟨Sub.refl _, by kernel_rfl⟩, ⟨Sub.refl _, by kernel_rfl⟩, trivial⟩ rfl rfl ⟨⟨rfl, by kernel_rfl⟩, trivial⟩, h⟩
   ·replace h := zv hb8 h
    refine z8 ?_
    exact ⟨i3, l2, zBd (n := 63) (m := 1) [0] (l := [(0, (AV.hd 0)), (1, (li a_n)), (2, (AV.clo g_a_cmp caps_a_cmp)), (6, (li 20)), (7, (li i3))]) ⟨⟨Sub.refl _, by kernel_rfl⟩, ⟨Sub.refl _, by kernel_rfl⟩, ⟨zD9 hnr_a_cmp, zEA hnr_a_cmp⟩, ⟨Sub.refl _, by kernel_rfl⟩, ⟨Sub.refl _, by kernel_rfl⟩, trivial⟩ rfl rfl ⟨⟨rfl, by kernel_rfl⟩, trivial⟩, h⟩
 ·
  clear h
  rintro e' H' ⟨i1, l1, hrep, h⟩
  refine zY hrep ?_
  clear hrep
  unfold zCj at h
  refine zI <| zC <| zA (zB rfl) <| zA (zB rfl) <| zA (zB rfl) <| zA (zB rfl) ?_
  refine zP h ?_; clear h; intro x1 hx1 h
  refine zD2 (k := 0) (la := [(AV.hd 0), (li i1), (li a_n), (AV.clo g_a_cmp caps_a_cmp)]) (la' := [(AV.hd 0), (li i1), (li a_n), (AV.clo g_a_cmp caps_a_cmp)]) (r := (.tup [])) (S := []) (en' := .vec 3 1 (List.map cI x1)) Tryz.func145 rfl (by kernel_rfl) (.fn 145) rfl ⟨zCn.hd, zCn.of (zAt.nr rfl), zCn.of (zAt.nr rfl), zCn.of (zAt.clo (zDJ.nrs hnr_a_cmp)), trivial⟩ rfl rfl rfl rfl (zCs hcf_a_cmp hcb_a_cmp hcn_a_cmp hnr_a_cmp hg_a_cmp hx1) rfl (.inl rfl) <| zF <| zS <| z9 (σ := Nat × Int) (fun s => s.1) (fun s e' H' => match s with | (n0, i2) => Rep 63 1 e' H' (mkE [(0, (AV.hd 0)), (1, (li a_n)), (2, (AV.clo g_a_cmp caps_a_cmp)), (6, (li i2))]) [.vec 3 1 (List.map cI x1)] ∧ zAZ a_n x1 n0 i2 = some r) (zAC, 20) ⟨zBd (n := 63) (m := 1) [0] (l := [(0, (AV.hd 0)), (1, (li a_n)), (2, (AV.clo g_a_cmp caps_a_cmp)), (6, (li 20))]) ⟨⟨Sub.refl _, by kernel_rfl⟩, ⟨Sub.refl _, by kernel_rfl⟩, ⟨zD9 hnr_a_cmp, zEA hnr_a_cmp⟩, ⟨Sub.refl _, by kernel_rfl⟩, trivial⟩ rfl rfl ⟨⟨rfl, by kernel_rfl⟩, trivial⟩, h⟩ ?_
  clear h
  rintro ⟨n0, i2⟩ e' H' ⟨hrep, h⟩
  cases n0 with
  | zero => exact absurd (show (none : Option _) = some r from h) (by simp)
  | succ n0 =>
   replace h : zCo a_n x1 (zAZ a_n x1 n0) i2 = some r := h
   unfold zCo at h
   refine zY hrep ?_
   clear hrep
   refine zI <| zI <| zC <| zA (zB rfl) <| zA (zB rfl) <| zA (zf rfl rfl) ?_
   refine zF ?_
   refine zQ (decide (i2 < a_n)) rfl (fun hb1 => ?_) (fun hb1 => ?_)
   ·replace h := zo hb1 h
    refine zR <| zS <| zI <| zC <| zA (zB rfl) ?_
    have hb2 := (zH h).1
    replace h := (zH h).2
    refine zA (zKD (a := 2) (b := i2) rfl rfl hb2) <| zA (zD rfl) <| zA (zD rfl) <| zF ?_
    refine z5 (fun e' H' => Rep 63 1 e' H' (mkE [(0, (AV.hd 0)), (1, (li a_n)), (2, (AV.clo g_a_cmp caps_a_cmp)), (6, (li i2)), (7, (li 0))]) [.vec 3 1 (List.map cI x1)] ∧ zCd (zAZ a_n x1 n0) a_n i2 = some r) ?_ ?_
    ·
     refine zS <| z9 (σ := Nat) (fun s => s) (fun s e' H' => match s with | n1 => Rep 63 1 e' H' (mkE [(0, (AV.hd 0)), (1, (li a_n)), (2, (AV.clo g_a_cmp caps_a_cmp)), (6, (li i2)), (7, (li 0)), (8, (li (2 * i2)))]) [.vec 3 1 (List.map cI x1)] ∧ zBw (zAZ a_n x1 n0) a_n i2 n1 = some r) (zAC) ⟨zBd (n := 63) (m := 1) [0] (l := [(0, (AV.hd 0)), (1, (li a_n)), (2, (AV.clo g_a_cmp caps_a_cmp)), (6, (li i2)), (7, (li 0)), (8, (li (2 * i2)))]) ⟨⟨Sub.refl _, by kernel_rfl⟩, ⟨Sub.refl _, by kernel_rfl⟩, ⟨zD9 hnr_a_cmp, zEA hnr_a_cmp⟩, ⟨Sub.refl _, by kernel_rfl⟩, ⟨Sub.refl _, by kernel_rfl⟩, ⟨Sub.refl _, by kernel_rfl⟩, trivial⟩ rfl rfl ⟨⟨rfl, by kernel_rfl⟩, trivial⟩, h⟩ ?_
     clear h
     rintro n1 e' H' ⟨hrep, h⟩
     cases n1 with
     | zero => exact absurd (show (none : Option _) = some r from h) (by simp)
     | succ n1 =>
      replace h : zCi (zAZ a_n x1 n0) a_n i2 (zBw (zAZ a_n x1 n0) a_n i2 n1) = some r := h
      unfold zCi at h
      refine zY hrep ?_
      clear hrep
      refine zI <| zI <| zC <| zA (zB rfl) <| zA (zB rfl) <| zA (zCq rfl rfl) ?_
      refine zF ?_
      refine zQ (decide ((2 * i2) ≤ a_n)) rfl (fun hb6 => ?_) (fun hb6 => ?_)
      ·replace h := zo hb6 h
       refine zR <| zS <| zI <| zC <| zA (zB rfl) <| zA (zB rfl) ?_
       refine zA (zB rfl) <| zA (zB rfl) ?_
       have hb7 := (zH h).1
       replace h := (zH h).2
       refine zA (ze rfl rfl hb7) <| zA (zB rfl) <| zA (zB rfl) ?_
       exact absurd h (by simp)
      ·replace h := zv hb6 h
       refine z8 ?_
       exact ⟨zBd (n := 63) (m := 1) [0] (l := [(0, (AV.hd 0)), (1, (li a_n)), (2, (AV.clo g_a_cmp caps_a_cmp)), (6, (li i2)), (7, (li 0))]) ⟨⟨Sub.refl _, by kernel_rfl⟩, ⟨Sub.refl _, by kernel_rfl⟩, ⟨zD9 hnr_a_cmp, zEA hnr_a_cmp⟩, ⟨Sub.refl _, by kernel_rfl⟩, ⟨Sub.refl _, by kernel_rfl⟩, trivial⟩ rfl rfl ⟨⟨rfl, by kernel_rfl⟩, trivial⟩, h⟩
    ·
     clear h
     rintro e' H' ⟨hrep, h⟩
     refine zY hrep ?_
     clear hrep
     unfold zCd at h
     refine zI <| zI <| zC <| zA (zB rfl) <| zA (zB rfl) ?_
     have hb3 := (zH h).1
     replace h := (zH h).2
     refine zA (ze rfl rfl hb3) <| zA (zD rfl) <| zF <| zI <| zC <| zA (zB rfl) ?_
     refine zA (zB rfl) <| zA (zf rfl rfl) <| zF ?_
     refine zQ (decide ((0 + i2) < a_n)) rfl (fun hb4 => ?_) (fun hb4 => ?_)
     ·replace h := zo hb4 h
      refine zC <| zA (zB rfl) <| zA (zB rfl) <| zA (zB rfl) <| zA (zB rfl) <| zA (zB rfl) ?_
      exact absurd h (by simp)
     ·replace h := zv hb4 h
      refine zR <| zC <| zA (zB rfl) ?_
      have hb5 := (zH h).1
      replace h := (zH h).2
      refine zA (zKD (a := i2) (b := 2) rfl rfl hb5) <| zA (zD rfl) <| zF ?_
      exact ⟨(n0, (i2 * 2)), Nat.lt_succ_self _, zBd (n := 63) (m := 1) [0] (l := [(0, (AV.hd 0)), (1, (li a_n)), (2, (AV.clo g_a_cmp caps_a_cmp)), (6, (li (i2 * 2)))]) ⟨⟨Sub.refl _, by kernel_rfl⟩, ⟨Sub.refl _, by kernel_rfl⟩, ⟨zD9 hnr_a_cmp, zEA hnr_a_cmp⟩, ⟨Sub.refl _, by kernel_rfl⟩, trivial⟩ rfl rfl ⟨⟨rfl, by kernel_rfl⟩, trivial⟩, h⟩
   ·replace h := zv hb1 h
    refine z8 ?_
    show zPF _ _ _ _ _ _ _ _
    obtain rfl := Option.some.inj h
    exact ⟨mkE [], [.vec 3 1 (List.map cI x1)], zAE [0] rfl rfl (by kernel_rfl), zLP rfl⟩
theorem zFg {a_x : List Int} {a_cmp : Int → Int → Option Int} {g_a_cmp : FuncId} {cf_a_cmp : Func} {code_a_cmp : Code} {caps_a_cmp : List AV} (hcf_a_cmp : Tryz.prog.funcs[g_a_cmp]? = some cf_a_cmp) (hcb_a_cmp : cf_a_cmp.body = some code_a_cmp) (hcn_a_cmp : (cf_a_cmp.name == "runtime.NumGoroutine") = false) (hnr_a_cmp : caps_a_cmp.all nr = true) (hg_a_cmp : ∀ {x0 : Int} {x1 : Int} {y : Int}, a_cmp x0 x1 = some y → PFn Tryz.prog g_a_cmp ((li x0) :: (li x1) :: caps_a_cmp) (li y)) {r : (List Int)} (h : zCG a_x a_cmp = some r) : AFn Tryz.prog 103 [(AV.hd 0), (AV.clo g_a_cmp caps_a_cmp)] [.vec 3 1 (List.map cI a_x)] (.tup []) [.vec 3 1 (List.map cI r)] := by
 refine zGV Tryz.func103 rfl Tryz.ntmps103 Tryz.results103 rfl ?_
 unfold zCG at h
 refine zC <| zA (zB rfl) <| zA (zB rfl) <| zA (zEn (f := cI) (l := a_x) Tryz.underlying22 rfl rfl) <| zA (zB rfl) ?_
 refine zP h ?_; clear h; intro x1 hx1 h
 refine zD2 (k := 0) (la := [(AV.hd 0), (li (a_x.length : Int)), (AV.clo g_a_cmp caps_a_cmp)]) (la' := [(AV.hd 0), (li (a_x.length : Int)), (AV.clo g_a_cmp caps_a_cmp)]) (r := (.tup [])) (S := []) (en' := .vec 3 1 (List.map cI x1)) Tryz.func136 rfl (by kernel_rfl) (.fn 136) rfl ⟨zCn.hd, zCn.of (zAt.nr rfl), zCn.of (zAt.clo (zDJ.nrs hnr_a_cmp)), trivial⟩ rfl rfl rfl rfl (zHc hcf_a_cmp hcb_a_cmp hcn_a_cmp hnr_a_cmp hg_a_cmp hx1) rfl (.inl rfl) <| zF ?_
 show zPF _ _ _ _ _ _ _ _
 obtain rfl := Option.some.inj h
 exact ⟨mkE [], [.vec 3 1 (List.map cI x1)], zAE [0] rfl rfl (by kernel_rfl), zLP rfl⟩
end Go.Proofs.YtplkliakhdkpcaaGreat
