/-
  The program computes what these functions give, part a.
-/
import Derived.Test.YtplkliakhdkpcaaD
import Derived.Test.YtplkliakhdkpcaaLayB
import Derived.Test.YtplkliakhdkpcaaAmY
set_option linter.unusedVariables false
set_option linter.unusedSimpArgs false
namespace Go.Proofs.Ytplkliakhdkpcaa
open Go Go.RowKit Go.Wk Go.Am Go.Proofs
set_option maxHeartbeats 4000000
theorem elem3 : Elem Try.prog 3 1 (.int .i64 0) 8 := Elem.of (by kernel_rfl) rfl (by decide) (by decide)
theorem elem22 : Elem Try.prog 22 1 (.slice none 0 0) 24 := Elem.of (by kernel_rfl) rfl (by decide) (by decide)
theorem elem46 : Elem Try.prog 46 10 (.agg #[.int .i64 0, .int .i64 0, .int .i64 0, .int .i64 0, .int .i64 0, .slice none 0 0, .slice none 0 0, .slice none 0 0, .slice none 0 0, .slice none 0 0]) 160 := Elem.of (by kernel_rfl) rfl (by decide) (by decide)
theorem elem50 : Elem Try.prog 50 1 (.agg #[.slice none 0 0]) 24 := Elem.of (by kernel_rfl) rfl (by decide) (by decide)
theorem elem65 : Elem Try.prog 65 4 (.agg #[.int .i64 0, .int .i64 0, .int .i64 0, .int .i64 0]) 32 := Elem.of (by kernel_rfl) rfl (by decide) (by decide)
theorem slices_Clone_Lint_int_ok {a_s : List Int} {r : List Int} (h : slices_Clone_Lint_int a_s = some r) : PFn Try.prog 24 [(ls cI a_s)] (AV.osl 3 1 (List.map cI r)) := by
  refine PFn_enter Try.func24 rfl Try.ntmps24 Try.results24 rfl ?_
  unfold slices_Clone_Lint_int at h
  have hb1 := (chk_some h).1
  replace h := (chk_some h).2
  obtain rfl := Option.some.inj h
  refine AW_seq <| AW_region <| ALW_val (a := (.lit (.slice none 0 0))) (AVal_assign rfl) <| ALW_nil <| AW_seq <| AW_seq ?_
  refine AW_region <| ALW_val (a := (ls cI a_s)) (AVal_move rfl) ?_
  refine ALW_eqNil (full := false) (rows := List.map cI a_s) Try.underlying22 rfl (fun b hb => ?_)
  refine ALW_nil ?_
  refine AW_cond b rfl (fun hbt => ?_) (fun hbt => ?_)
  · obtain rfl : a_s = [] := List.map_eq_nil_iff.1 (hb hbt)
    refine AW_seq <| AW_region <| ALW_val (a := (.lit (.slice none 0 0))) (AVal_assign rfl) <| ALW_nil <| AW_ret ?_
    exact RetP_1 (R1_sub (R1_E rfl rfl) SubF.nilo)
  · refine AW_skip ?_
    refine AW_seq <| AW_region <| ALW_lit0 elem3 Try.underlying22 <| ALW_val (a := (ls cI a_s)) (AVal_move rfl) <| ALW_appendM (f := cI) (k := 0) (l := []) (l' := a_s) elem3 (fun _ => rfl) Try.underlying22 rfl rfl rfl hb1 <| ALW_val (a := (.hd 1)) (AVal_assign rfl) ?_
    refine ALW_nil <| AW_ret ?_
    exact RetP_1 (R1_V (rows := List.map cI ([] ++ a_s)) rfl rfl)
theorem slices_IndexFunc_Lint_int_ok {a_s : List Int} {a_f : Int → Option Bool} {g_a_f : FuncId} {cf_a_f : Func} {code_a_f : Code} {caps_a_f : List AV} (hcf_a_f : Try.prog.funcs[g_a_f]? = some cf_a_f) (hcb_a_f : cf_a_f.body = some code_a_f) (hcn_a_f : (cf_a_f.name == "runtime.NumGoroutine") = false) (hnr_a_f : caps_a_f.all nr = true) (hg_a_f : ∀ {x0 : Int} {y : Bool}, a_f x0 = some y → PFn Try.prog g_a_f ((li x0) :: caps_a_f) (AV.lit (.bool y))) {r : Int} (h : slices_IndexFunc_Lint_int a_s a_f = some r) : PFn Try.prog 84 [(ls cI a_s), (AV.clo g_a_f caps_a_f)] (li r) := by
 refine PFn_enter Try.func84 rfl Try.ntmps84 Try.results84 rfl ?_
 unfold slices_IndexFunc_Lint_int at h
 refine AW_seq <| AW_region <| ALW_val (AVal_assign rfl) <| ALW_nil ?_
 refine AW_seqJ (fun e' H' => Rep 19 0 e' H' (mkE []) [] ∧ slices_IndexFunc_Lint_int_j0  = some r) ?_ ?_
 ·
  refine AW_seq <| AW_region <| ALW_val (AVal_move rfl) <| ALW_val (AVal_lenM Try.underlying22 rfl) <| ALW_val (AVal_move rfl) <| ALW_nil ?_
  refine AW_block <| AW_loop (σ := Nat × Int) (fun s => s.1) (fun s e' H' => match s with | (n0, i1) => Rep 19 0 e' H' (mkE [(0, (ls cI a_s)), (1, (AV.clo g_a_f caps_a_f)), (7, (li (a_s.length : Int))), (8, (li i1))]) [] ∧ slices_IndexFunc_Lint_int_l0 a_s a_f n0 i1 = some r) (FUEL, 0) ⟨Rep_perm (n := 19) (m := 0) [] (l := [(0, (ls cI a_s)), (1, (AV.clo g_a_f caps_a_f)), (7, (li (a_s.length : Int))), (8, (li 0))]) ⟨⟨Sub.refl _, by kernel_rfl⟩, ⟨Sub_clo hnr_a_f, okA_clo hnr_a_f⟩, ⟨Sub.refl _, by kernel_rfl⟩, ⟨Sub.refl _, by kernel_rfl⟩, trivial⟩ rfl rfl trivial, h⟩ ?_
  clear h
  rintro ⟨n0, i1⟩ e' H' ⟨hrep, h⟩
  cases n0 with
  | zero => exact absurd (show (none : Option _) = some r from h) (by simp)
  | succ n0 =>
   replace h : slices_IndexFunc_Lint_int_b0 a_s a_f (slices_IndexFunc_Lint_int_l0 a_s a_f n0) i1 = some r := h
   unfold slices_IndexFunc_Lint_int_b0 at h
   refine AW_rep hrep ?_
   clear hrep
   refine AW_seq <| AW_region <| ALW_val (AVal_lss rfl rfl) <| ALW_nil <| AW_seq ?_
   refine AW_cond (decide (i1 < (a_s.length : Int))) rfl (fun hb1 => ?_) (fun hb1 => ?_)
   ·replace h := cnd_t hb1 h
    refine AW_skip <| AW_seq <| AW_block <| AW_seq <| AW_region <| ALW_val (AVal_move rfl) ?_
    refine ALW_val (AVal_assign rfl) <| ALW_nil <| AW_seq <| AW_region <| ALW_val (AVal_move rfl) <| ALW_val (AVal_move rfl) ?_
    refine ALW_val (AVal_move rfl) ?_
    have hb2 := (chk_some h).1
    replace h := (chk_some h).2
    refine ALW_val (AVal_idxSM Try.underlying22 Try.sizeOf3 (fun _ => rfl) rfl rfl hb2) <| ALW_val (AVal_loadR1 (o := 0) Try.isAgg3 rfl rfl) ?_
    refine bnd_elim h ?_; clear h; intro x1 hx1 h
    refine ALW_callE (S := []) hcf_a_f hcb_a_f hcn_a_f (.clo (caps := caps_a_f) rfl) rfl (ViewL.c (View.nr rfl) (ViewL.nrs hnr_a_f)) (hg_a_f hx1) (.inl rfl) rfl <| ALW_nil ?_
    refine AW_cond (x1) rfl (fun hb3 => ?_) (fun hb3 => ?_)
    ·replace h := cnd_t hb3 h
     refine AW_seq <| AW_region <| ALW_val (AVal_move rfl) <| ALW_val (AVal_assign rfl) <| ALW_nil <| AW_ret ?_
     show RetP _ _ _ _ _ _
     obtain rfl := Option.some.inj h
     exact RetP_1 (R1_E rfl rfl)
    ·replace h := cnd_f hb3 h
     refine AW_skip <| AW_region ?_
     have hb4 := (chk_some h).1
     replace h := (chk_some h).2
     refine ALW_val (AVal_add rfl rfl hb4) <| ALW_val (AVal_move rfl) <| ALW_nil ?_
     exact ⟨(n0, (i1 + 1)), Nat.lt_succ_self _, Rep_perm (n := 19) (m := 0) [] (l := [(0, (ls cI a_s)), (1, (AV.clo g_a_f caps_a_f)), (7, (li (a_s.length : Int))), (8, (li (i1 + 1)))]) ⟨⟨Sub.refl _, by kernel_rfl⟩, ⟨Sub_clo hnr_a_f, okA_clo hnr_a_f⟩, ⟨Sub.refl _, by kernel_rfl⟩, ⟨Sub.refl _, by kernel_rfl⟩, trivial⟩ rfl rfl trivial, h⟩
   ·replace h := cnd_f hb1 h
    refine AW_exit ?_
    exact ⟨RepP [] rfl rfl (by kernel_rfl), h⟩
 ·
  clear h
  rintro e' H' ⟨hrep, h⟩
  refine AW_rep hrep ?_
  clear hrep
  unfold slices_IndexFunc_Lint_int_j0 at h
  refine AW_seq <| AW_region <| ALW_val (AVal_assign rfl) <| ALW_nil <| AW_ret ?_
  show RetP _ _ _ _ _ _
  obtain rfl := Option.some.inj h
  exact RetP_1 (R1_E rfl rfl)
theorem slices_ContainsFunc_Lint_int_ok {a_s : List Int} {a_f : Int → Option Bool} {g_a_f : FuncId} {cf_a_f : Func} {code_a_f : Code} {caps_a_f : List AV} (hcf_a_f : Try.prog.funcs[g_a_f]? = some cf_a_f) (hcb_a_f : cf_a_f.body = some code_a_f) (hcn_a_f : (cf_a_f.name == "runtime.NumGoroutine") = false) (hnr_a_f : caps_a_f.all nr = true) (hg_a_f : ∀ {x0 : Int} {y : Bool}, a_f x0 = some y → PFn Try.prog g_a_f ((li x0) :: caps_a_f) (AV.lit (.bool y))) {r : Bool} (h : slices_ContainsFunc_Lint_int a_s a_f = some r) : PFn Try.prog 49 [(ls cI a_s), (AV.clo g_a_f caps_a_f)] (AV.lit (.bool r)) := by
 refine PFn_enter Try.func49 rfl Try.ntmps49 Try.results49 rfl ?_
 unfold slices_ContainsFunc_Lint_int at h
 refine AW_seq <| AW_region <| ALW_val (AVal_assign rfl) <| ALW_nil <| AW_seq <| AW_region ?_
 refine ALW_val (AVal_move rfl) <| ALW_val (AVal_move rfl) ?_
 refine bnd_elim h ?_; clear h; intro x1 hx1 h
 refine ALW_callE (r' := (li x1)) (la := [(ls cI a_s), (AV.clo g_a_f caps_a_f)]) (la' := [(ls cI a_s), (AV.clo g_a_f caps_a_f)]) (r := (li x1)) (S := []) Try.func84 rfl (by kernel_rfl) (.fn 84) rfl ⟨View.nr rfl, View.clo (ViewL.nrs hnr_a_f), trivial⟩ (slices_IndexFunc_Lint_int_ok hcf_a_f hcb_a_f hcn_a_f hnr_a_f hg_a_f hx1) (.inl rfl) rfl <| ALW_val (AVal_geq rfl rfl) <| ALW_val (AVal_assign rfl) <| ALW_nil <| AW_ret ?_
 show RetP _ _ _ _ _ _
 obtain rfl := Option.some.inj h
 exact RetP_1 (R1_E rfl rfl)
theorem allocator_machine_1_ok {a_n : Int} {r : Bool} (h : allocator_machine_1 a_n = some r) : PFn Try.prog 50 [(li a_n)] (AV.lit (.bool r)) := by
 refine PFn_enter Try.func50 rfl Try.ntmps50 Try.results50 rfl ?_
 unfold allocator_machine_1 at h
 refine AW_seq <| AW_region <| ALW_val (AVal_assign rfl) <| ALW_nil <| AW_seq <| AW_region ?_
 refine ALW_val (AVal_move rfl) <| ALW_val (AVal_lss rfl rfl) <| ALW_val (AVal_move rfl) <| ALW_g0 rfl rfl (fun hc1 => AVal.step (AVal_move rfl)) <| ALW_g0 rfl rfl (fun hc2 => AVal.step (AVal_geq (gd_t rfl hc2) rfl)) <| ALW_val (AVal_pick_or rfl rfl) ?_
 refine ALW_val (AVal_assign rfl) <| ALW_nil <| AW_ret ?_
 show RetP _ _ _ _ _ _
 obtain rfl := Option.some.inj h
 exact RetP_1 (R1_E rfl rfl)
theorem allocator_machine_ok {a_a : Allocator} {r : Bool} (h : allocator_machine a_a = some r) : PFn Try.prog 25 [(AV.agg (cAllocator a_a))] (AV.lit (.bool r)) := by
 refine PFn_enter Try.func25 rfl Try.ntmps25 Try.results25 rfl ?_
 unfold allocator_machine at h
 refine AW_seq <| AW_region <| ALW_step (H' := [.box 29 (cAllocator a_a)]) (AStep_boxA (t := 29) rfl) <| ALW_val (AVal_assign rfl) <| ALW_nil <| AW_seq ?_
 refine AW_seq <| AW_region <| ALW_val (AVal_field Try.underlying29 rfl rfl Try.sizeOf22 rfl) <| ALW_val (AVal_load1 Try.isAgg22 rfl rfl rfl rfl) <| ALW_val (AVal_lenM Try.underlying22 rfl) <| ALW_val (AVal_lss rfl rfl) ?_
 refine ALW_val (AVal_move rfl) <| ALW_g0 rfl rfl (fun hc1 => AVal.step (AVal_field Try.underlying29 rfl rfl Try.sizeOf22 rfl)) <| ALW_g0 rfl rfl (fun hc2 => AVal.step (AVal_load1 Try.isAgg22 (gd_t rfl hc2) rfl rfl rfl)) <| ALW_g0 rfl rfl (fun hc3 => AVal.step (AVal_lenM Try.underlying22 (gd_t rfl hc3))) <| ALW_g0 rfl rfl (fun hc4 => AVal.step (AVal_gtr (gd_t rfl hc4) rfl)) <| ALW_val (AVal_pick_or rfl rfl) ?_
 refine ALW_val (AVal_move rfl) <| ALW_g0 rfl rfl (fun hc5 => AVal.step (AVal_field Try.underlying29 rfl rfl Try.sizeOf3 rfl)) <| ALW_g0 rfl rfl (fun hc6 => AVal.step (AVal_load1 Try.isAgg3 (gd_t rfl hc6) rfl rfl rfl)) <| ALW_g0 rfl rfl (fun hc7 => AVal.step (AVal_gtr (gd_t rfl hc7) rfl)) <| ALW_val (AVal_pick_or rfl rfl) <| ALW_val (AVal_move rfl) ?_
 refine ALW_g0 rfl rfl (fun hc8 => AVal.step (AVal_field Try.underlying29 rfl rfl Try.sizeOf3 rfl)) <| ALW_g0 rfl rfl (fun hc9 => AVal.step (AVal_load1 Try.isAgg3 (gd_t rfl hc9) rfl rfl rfl)) <| ALW_g0 rfl rfl (fun hc10 => AVal.step (AVal_lss (gd_t rfl hc10) rfl)) <| ALW_val (AVal_pick_or rfl rfl) <| ALW_val (AVal_move rfl) <| ALW_g0 rfl rfl (fun hc11 => AVal.step (AVal_field Try.underlying29 rfl rfl Try.sizeOf3 rfl)) ?_
 refine ALW_g0 rfl rfl (fun hc12 => AVal.step (AVal_load1 Try.isAgg3 (gd_t rfl hc12) rfl rfl rfl)) <| ALW_g0 rfl rfl (fun hc13 => AVal.step (AVal_field Try.underlying29 rfl rfl Try.sizeOf3 rfl)) <| ALW_g0 rfl rfl (fun hc14 => AVal.step (AVal_load1 Try.isAgg3 (gd_t rfl hc14) rfl rfl rfl)) <| ALW_g0 rfl rfl (fun hc15 => AVal.step (AVal_gtr (gd_t rfl hc15) (gd_t rfl hc15))) <| ALW_val (AVal_pick_or rfl rfl) <| ALW_val (AVal_move rfl) ?_
 refine ALW_g0 rfl rfl (fun hc16 => AVal.step (AVal_field Try.underlying29 rfl rfl Try.sizeOf26 rfl)) <| ALW_g0 rfl rfl (fun hc17 => AVal.step (AVal_load1 Try.isAgg26 (gd_t rfl hc17) rfl rfl rfl)) <| ALW_g0 rfl rfl (fun hc18 => AVal.step (AVal_lenM Try.underlying26 (gd_t rfl hc18))) <| ALW_g0 rfl rfl (fun hc19 => AVal.step (AVal_lss (gd_t rfl hc19) rfl)) <| ALW_val (AVal_pick_or rfl rfl) <| ALW_val (AVal_move rfl) ?_
 refine ALW_g0 rfl rfl (fun hc20 => AVal.step (AVal_field Try.underlying29 rfl rfl Try.sizeOf26 rfl)) <| ALW_g0 rfl rfl (fun hc21 => AVal.step (AVal_load1 Try.isAgg26 (gd_t rfl hc21) rfl rfl rfl)) <| ALW_g0 rfl rfl (fun hc22 => AVal.step (AVal_lenM Try.underlying26 (gd_t rfl hc22))) <| ALW_g0 rfl rfl (fun hc23 => AVal.step (AVal_gtr (gd_t rfl hc23) rfl)) <| ALW_val (AVal_pick_or rfl rfl) <| ALW_nil ?_
 refine AW_cond (((((((decide ((a_a.nodes.length : Int) < 1)) || (decide (4 < (a_a.nodes.length : Int)))) || (decide (64 < a_a.high))) || (decide (a_a.batch < 1))) || (decide (a_a.high < a_a.batch))) || (decide ((a_a.zones.length : Int) < 1))) || (decide (6 < (a_a.zones.length : Int)))) rfl (fun hb1 => ?_) (fun hb1 => ?_)
 ·replace h := cnd_t hb1 h
  refine AW_seq <| AW_region <| ALW_val (AVal_assign rfl) <| ALW_nil <| AW_ret ?_
  show RetP _ _ _ _ _ _
  obtain rfl := Option.some.inj h
  exact RetP_1 (R1_E rfl rfl)
 ·replace h := cnd_f hb1 h
  refine AW_skip <| AW_seq <| AW_region <| ALW_val (AVal_field Try.underlying29 rfl rfl Try.sizeOf22 rfl) <| ALW_val (AVal_load1 Try.isAgg22 rfl rfl rfl rfl) ?_
  refine bnd_elim h ?_; clear h; intro x1 hx1 h
  refine ALW_callE (r' := (AV.lit (.bool x1))) (la := [(ls cI a_a.nodes), (AV.clo 50 [])]) (la' := [(ls cI a_a.nodes), (AV.clo 50 [])]) (r := (AV.lit (.bool x1))) (S := []) Try.func49 rfl (by kernel_rfl) (.fn 49) rfl ⟨View.nr rfl, View.clo trivial, trivial⟩ (slices_ContainsFunc_Lint_int_ok Try.func50 rfl (by kernel_rfl) rfl (fun hy => allocator_machine_1_ok  hy) hx1) (.inl rfl) rfl <| ALW_val (AVal_not (t := x1) rfl) <| ALW_val (AVal_assign rfl) <| ALW_nil <| AW_ret ?_
  show RetP _ _ _ _ _ _
  obtain rfl := Option.some.inj h
  exact RetP_1 (R1_E rfl rfl)
theorem buddy_ranges_ok {a_z : Zone} {r : Bool} (h : buddy_ranges a_z = some r) : PFn Try.prog 51 [(AV.agg ([(li a_z.node)] ++ ([(li a_z.kind)] ++ ([(li a_z.start)] ++ ([(li a_z.count)] ++ ([(li a_z.min)] ++ ([AV.any, AV.any, AV.any, AV.any, AV.any] ++ [])))))))] (AV.lit (.bool r)) := by
 refine PFn_enter Try.func51 rfl Try.ntmps51 Try.results51 rfl ?_
 unfold buddy_ranges at h
 refine AW_seq <| AW_region <| ALW_step (H' := [.box 46 ([(li a_z.node)] ++ ([(li a_z.kind)] ++ ([(li a_z.start)] ++ ([(li a_z.count)] ++ ([(li a_z.min)] ++ ([AV.any, AV.any, AV.any, AV.any, AV.any] ++ []))))))]) (AStep_boxA (t := 46) rfl) <| ALW_val (AVal_assign rfl) <| ALW_nil <| AW_seq ?_
 refine AW_region <| ALW_val (AVal_field Try.underlying46 rfl rfl Try.sizeOf3 rfl) <| ALW_val (AVal_load1 Try.isAgg3 rfl rfl rfl rfl) <| ALW_val (AVal_geq rfl rfl) <| ALW_val (AVal_move rfl) <| ALW_g1 rfl rfl (fun hc1 => AVal.step (AVal_field Try.underlying46 rfl rfl Try.sizeOf3 rfl)) ?_
 refine ALW_g1 rfl rfl (fun hc2 => AVal.step (AVal_load1 Try.isAgg3 (gd_t rfl hc2) rfl rfl rfl)) <| ALW_g1 rfl rfl (fun hc3 => AVal.step (AVal_lss (gd_t rfl hc3) rfl)) <| ALW_val (AVal_pick_and (j := .lit undef) rfl rfl) <| ALW_val (AVal_move rfl) <| ALW_g1 rfl rfl (fun hc4 => AVal.step (AVal_field Try.underlying46 rfl rfl Try.sizeOf3 rfl)) <| ALW_g1 rfl rfl (fun hc5 => AVal.step (AVal_load1 Try.isAgg3 (gd_t rfl hc5) rfl rfl rfl)) ?_
 refine ALW_g1 rfl rfl (fun hc6 => AVal.step (AVal_eql (gd_t rfl hc6) rfl)) <| ALW_g1 rfl rfl (fun hc7 => AVal.step (AVal_move (gd_t rfl hc7))) <| ALW_gn0 (g := 15) (s' := (decide (0 ≤ a_z.node)) && (decide (a_z.node < 4))) (s := decide (a_z.kind = 0)) rfl rfl (fun hc8 => AVal.step (AVal_field Try.underlying46 rfl rfl Try.sizeOf3 rfl)) <| ALW_gn0 (g := 15) (s' := (decide (0 ≤ a_z.node)) && (decide (a_z.node < 4))) (s := decide (a_z.kind = 0)) rfl rfl (fun hc9 => AVal.step (AVal_load1 Try.isAgg3 (gd_t rfl hc9) rfl rfl rfl)) <| ALW_gn0 (g := 15) (s' := (decide (0 ≤ a_z.node)) && (decide (a_z.node < 4))) (s := decide (a_z.kind = 0)) rfl rfl (fun hc10 => AVal.step (AVal_eql (gd_t rfl hc10) rfl)) <| ALW_g1 rfl rfl (fun hc11 => AVal.step (AVal_pick_or (gd_t rfl hc11) (gd_and (c := (decide (0 ≤ a_z.node)) && (decide (a_z.node < 4))) (d := !(decide (a_z.kind = 0))) (a := (AV.lit (.bool (decide (a_z.kind = 1))))) (j := .lit undef) rfl hc11))) ?_
 refine ALW_val (AVal_pick_and (j := .lit undef) rfl rfl) <| ALW_val (AVal_move rfl) <| ALW_g1 rfl rfl (fun hc12 => AVal.step (AVal_field Try.underlying46 rfl rfl Try.sizeOf3 rfl)) <| ALW_g1 rfl rfl (fun hc13 => AVal.step (AVal_load1 Try.isAgg3 (gd_t rfl hc13) rfl rfl rfl)) <| ALW_g1 rfl rfl (fun hc14 => AVal.step (AVal_geq (gd_t rfl hc14) rfl)) <| ALW_val (AVal_pick_and (j := .lit undef) rfl rfl) ?_
 refine ALW_val (AVal_move rfl) <| ALW_g1 rfl rfl (fun hc15 => AVal.step (AVal_field Try.underlying46 rfl rfl Try.sizeOf3 rfl)) <| ALW_g1 rfl rfl (fun hc16 => AVal.step (AVal_load1 Try.isAgg3 (gd_t rfl hc16) rfl rfl rfl)) <| ALW_g1 rfl rfl (fun hc17 => AVal.step (AVal_lss (gd_t rfl hc17) rfl)) <| ALW_val (AVal_pick_and (j := .lit undef) rfl rfl) <| ALW_val (AVal_move rfl) ?_
 refine ALW_g1 rfl rfl (fun hc18 => AVal.step (AVal_field Try.underlying46 rfl rfl Try.sizeOf3 rfl)) <| ALW_g1 rfl rfl (fun hc19 => AVal.step (AVal_load1 Try.isAgg3 (gd_t rfl hc19) rfl rfl rfl)) <| ALW_g1 rfl rfl (fun hc20 => AVal.step (AVal_geq (gd_t rfl hc20) rfl)) <| ALW_val (AVal_pick_and (j := .lit undef) rfl rfl) <| ALW_val (AVal_move rfl) <| ALW_g1 rfl rfl (fun hc21 => AVal.step (AVal_field Try.underlying46 rfl rfl Try.sizeOf3 rfl)) ?_
 refine ALW_g1 rfl rfl (fun hc22 => AVal.step (AVal_load1 Try.isAgg3 (gd_t rfl hc22) rfl rfl rfl)) <| ALW_g1 rfl rfl (fun hc23 => AVal.step (AVal_field Try.underlying46 rfl rfl Try.sizeOf3 rfl)) <| ALW_g1 rfl rfl (fun hc24 => AVal.step (AVal_load1 Try.isAgg3 (gd_t rfl hc24) rfl rfl rfl)) ?_
 have hb1 := (chk_some h).1
 replace h := (chk_some h).2
 refine ALW_g1 rfl rfl (fun hc25 => AVal.step (AVal_sub rfl (gd_t rfl hc25) (imp_t hb1 hc25))) <| ALW_g1 rfl rfl (fun hc26 => AVal.step (AVal_leq (gd_t rfl hc26) (gd_t rfl hc26))) <| ALW_val (AVal_pick_and (j := .lit undef) rfl rfl) <| ALW_val (AVal_move rfl) <| ALW_g1 rfl rfl (fun hc27 => AVal.step (AVal_field Try.underlying46 rfl rfl Try.sizeOf3 rfl)) <| ALW_g1 rfl rfl (fun hc28 => AVal.step (AVal_load1 Try.isAgg3 (gd_t rfl hc28) rfl rfl rfl)) ?_
 refine ALW_g1 rfl rfl (fun hc29 => AVal.step (AVal_geq (gd_t rfl hc29) rfl)) <| ALW_val (AVal_pick_and (j := .lit undef) rfl rfl) <| ALW_val (AVal_move rfl) <| ALW_g1 rfl rfl (fun hc30 => AVal.step (AVal_field Try.underlying46 rfl rfl Try.sizeOf3 rfl)) <| ALW_g1 rfl rfl (fun hc31 => AVal.step (AVal_load1 Try.isAgg3 (gd_t rfl hc31) rfl rfl rfl)) <| ALW_g1 rfl rfl (fun hc32 => AVal.step (AVal_field Try.underlying46 rfl rfl Try.sizeOf3 rfl)) ?_
 refine ALW_g1 rfl rfl (fun hc33 => AVal.step (AVal_load1 Try.isAgg3 (gd_t rfl hc33) rfl rfl rfl)) <| ALW_g1 rfl rfl (fun hc34 => AVal.step (AVal_leq (gd_t rfl hc34) (gd_t rfl hc34))) <| ALW_val (AVal_pick_and (j := .lit undef) rfl rfl) <| ALW_val (AVal_assign rfl) <| ALW_nil <| AW_ret ?_
 show RetP _ _ _ _ _ _
 obtain rfl := Option.some.inj h
 exact RetP_1 (R1_E rfl rfl)
theorem cmp_isNaN_int_ok {a_x : Int} {r : Bool} (h : cmp_isNaN_int a_x = some r) : PFn Try.prog 95 [(li a_x)] (AV.lit (.bool r)) := by
 refine PFn_enter Try.func95 rfl Try.ntmps95 Try.results95 rfl ?_
 unfold cmp_isNaN_int at h
 refine AW_seq <| AW_region <| ALW_val (AVal_assign rfl) <| ALW_nil <| AW_seq <| AW_region ?_
 refine ALW_val (AVal_move rfl) <| ALW_val (AVal_move rfl) <| ALW_val (AVal_neq rfl rfl) <| ALW_val (AVal_assign rfl) <| ALW_nil <| AW_ret ?_
 show RetP _ _ _ _ _ _
 obtain rfl := Option.some.inj h
 exact RetP_1 (R1_E rfl rfl)
theorem cmp_Less_int_ok {a_x : Int} {a_y : Int} {r : Bool} (h : cmp_Less_int a_x a_y = some r) : PFn Try.prog 91 [(li a_x), (li a_y)] (AV.lit (.bool r)) := by
 refine PFn_enter Try.func91 rfl Try.ntmps91 Try.results91 rfl ?_
 unfold cmp_Less_int at h
 refine AW_seq <| AW_region <| ALW_val (AVal_assign rfl) <| ALW_nil <| AW_seq <| AW_region ?_
 refine ALW_val (AVal_move rfl) ?_
 refine bnd_elim h ?_; clear h; intro x1 hx1 h
 refine ALW_callN Try.func95 rfl (by kernel_rfl) (.fn 95) rfl rfl (cmp_isNaN_int_ok hx1) rfl <| ALW_val (AVal_move rfl) <| ALW_g1 rfl rfl (fun hc1 => AVal.step (AVal_move rfl)) ?_
 refine bnd_elim h ?_; clear h; intro x2 hx2 h
 refine ALW_callG1 (g := 7) (s := x1) (r' := (AV.lit (.bool x2))) rfl rfl (fun hc2 => ⟨95, _, _, [], [(li a_y)], [(li a_y)], (AV.lit (.bool x2)), [], Try.func95, rfl, by kernel_rfl, (.fn 95), (lcons (gd_t rfl hc2) rfl), ⟨View.nr rfl, trivial⟩, cmp_isNaN_int_ok (cnd_t hc2 hx2), .inl rfl, rfl⟩) <| ALW_g1 rfl rfl (fun hc3 => AVal.step (AVal_not (t := x2) (gd_t rfl hc3))) <| ALW_val (AVal_pick_and (j := .lit undef) rfl rfl) <| ALW_val (AVal_move rfl) <| ALW_g0 rfl rfl (fun hc4 => AVal.step (AVal_move rfl)) <| ALW_g0 rfl rfl (fun hc5 => AVal.step (AVal_move rfl)) ?_
 refine ALW_g0 rfl rfl (fun hc6 => AVal.step (AVal_lss (gd_t rfl hc6) (gd_t rfl hc6))) <| ALW_val (AVal_pick_or rfl rfl) <| ALW_val (AVal_assign rfl) <| ALW_nil <| AW_ret ?_
 show RetP _ _ _ _ _ _
 obtain rfl := Option.some.inj h
 exact RetP_1 (R1_E rfl rfl)
theorem slices_isNaN_int_ok {a_x : Int} {r : Bool} (h : slices_isNaN_int a_x = some r) : PFn Try.prog 92 [(li a_x)] (AV.lit (.bool r)) := by
 refine PFn_enter Try.func92 rfl Try.ntmps92 Try.results92 rfl ?_
 unfold slices_isNaN_int at h
 refine AW_seq <| AW_region <| ALW_val (AVal_assign rfl) <| ALW_nil <| AW_seq <| AW_region ?_
 refine ALW_val (AVal_move rfl) <| ALW_val (AVal_move rfl) <| ALW_val (AVal_neq rfl rfl) <| ALW_val (AVal_assign rfl) <| ALW_nil <| AW_ret ?_
 show RetP _ _ _ _ _ _
 obtain rfl := Option.some.inj h
 exact RetP_1 (R1_E rfl rfl)
theorem slices_BinarySearch_Lint_int_ok {a_x : List Int} {a_target : Int} {r : Int × Bool} (h : slices_BinarySearch_Lint_int a_x a_target = some r) : PFn Try.prog 63 [(ls cI a_x), (li a_target)] (AV.tup [(li r.1), (AV.lit (.bool r.2))]) := by
 refine PFn_enter Try.func63 rfl Try.ntmps63 Try.results63 rfl ?_
 unfold slices_BinarySearch_Lint_int at h
 refine AW_seq <| AW_region <| ALW_val (AVal_assign rfl) <| ALW_val (AVal_assign rfl) <| ALW_nil <| AW_seq ?_
 refine AW_region <| ALW_val (AVal_move rfl) <| ALW_val (AVal_lenM Try.underlying22 rfl) <| ALW_val (AVal_assign rfl) <| ALW_nil <| AW_seq ?_
 refine AW_region <| ALW_val (AVal_move rfl) <| ALW_val (AVal_assign rfl) <| ALW_val (AVal_assign rfl) <| ALW_nil ?_
 refine AW_seqJ (fun e' H' => ∃ (i1 : Int), Rep 54 0 e' H' (mkE [(0, (ls cI a_x)), (1, (li a_target)), (6, (li (a_x.length : Int))), (7, (li i1))]) [] ∧ slices_BinarySearch_Lint_int_j0 a_x a_target i1 = some r) ?_ ?_
 ·
  refine AW_block <| AW_loop (σ := Nat × Int × Int) (fun s => s.1) (fun s e' H' => match s with | (n0, i2, i3) => Rep 54 0 e' H' (mkE [(0, (ls cI a_x)), (1, (li a_target)), (6, (li (a_x.length : Int))), (7, (li i2)), (8, (li i3))]) [] ∧ slices_BinarySearch_Lint_int_l0 a_x a_target n0 i2 i3 = some r) (FUEL, 0, (a_x.length : Int)) ⟨RepP [] rfl rfl (by kernel_rfl), h⟩ ?_
  clear h
  rintro ⟨n0, i2, i3⟩ e' H' ⟨hrep, h⟩
  cases n0 with
  | zero => exact absurd (show (none : Option _) = some r from h) (by simp)
  | succ n0 =>
   replace h : slices_BinarySearch_Lint_int_b0 a_x a_target (slices_BinarySearch_Lint_int_l0 a_x a_target n0) i2 i3 = some r := h
   unfold slices_BinarySearch_Lint_int_b0 at h
   refine AW_rep hrep ?_
   clear hrep
   refine AW_seq <| AW_seq <| AW_region <| ALW_val (AVal_move rfl) <| ALW_val (AVal_move rfl) <| ALW_val (AVal_lss rfl rfl) ?_
   refine ALW_nil ?_
   refine AW_cond (decide (i2 < i3)) rfl (fun hb3 => ?_) (fun hb3 => ?_)
   ·replace h := cnd_t hb3 h
    refine AW_skip <| AW_block <| AW_seq <| AW_region <| ALW_val (AVal_move rfl) <| ALW_val (AVal_move rfl) ?_
    have hb4 := (chk_some h).1
    replace h := (chk_some h).2
    refine ALW_val (AVal_add rfl rfl hb4) ?_
    have hb5 := (chk_some h).1
    replace h := (chk_some h).2
    refine ALW_val (AVal_conv (k' := .u64) (a := i2 + i3) Try.underlying3 Try.underlying47 rfl hb5) <| ALW_val (AVal_shr (k := .u64) (a := i2 + i3) (b := 1) rfl rfl (by decide)) ?_
    have hb6 := (chk_some h).1
    replace h := (chk_some h).2
    refine ALW_val (AVal_conv (k' := .i64) (a := (i2 + i3).fdiv (2 ^ (1 : Int).toNat)) Try.underlying47 Try.underlying3 rfl hb6) <| ALW_val (AVal_assign rfl) <| ALW_nil <| AW_seq <| AW_region <| ALW_val (AVal_move rfl) ?_
    refine ALW_val (AVal_move rfl) ?_
    have hb7 := (chk_some h).1
    replace h := (chk_some h).2
    refine ALW_val (AVal_idxSM Try.underlying22 Try.sizeOf3 (fun _ => rfl) rfl rfl hb7) <| ALW_val (AVal_loadR1 (o := 0) Try.isAgg3 rfl rfl) <| ALW_val (AVal_move rfl) ?_
    refine bnd_elim h ?_; clear h; intro x3 hx3 h
    refine ALW_callN Try.func91 rfl (by kernel_rfl) (.fn 91) rfl rfl (cmp_Less_int_ok hx3) rfl <| ALW_nil ?_
    refine AW_cond (x3) rfl (fun hb8 => ?_) (fun hb8 => ?_)
    ·replace h := cnd_t hb8 h
     refine AW_region <| ALW_val (AVal_move rfl) ?_
     have hb9 := (chk_some h).1
     replace h := (chk_some h).2
     refine ALW_val (AVal_add rfl rfl hb9) <| ALW_val (AVal_assign rfl) <| ALW_nil ?_
     exact ⟨(n0, (((i2 + i3).fdiv (2 ^ (1 : Int).toNat)) + 1), i3), Nat.lt_succ_self _, RepP [] rfl rfl (by kernel_rfl), h⟩
    ·replace h := cnd_f hb8 h
     refine AW_region <| ALW_val (AVal_move rfl) <| ALW_val (AVal_assign rfl) <| ALW_nil ?_
     exact ⟨(n0, i2, ((i2 + i3).fdiv (2 ^ (1 : Int).toNat))), Nat.lt_succ_self _, RepP [] rfl rfl (by kernel_rfl), h⟩
   ·replace h := cnd_f hb3 h
    refine AW_exit ?_
    exact ⟨i2, RepP [] rfl rfl (by kernel_rfl), h⟩
 ·
  clear h
  rintro e' H' ⟨i1, hrep, h⟩
  refine AW_rep hrep ?_
  clear hrep
  unfold slices_BinarySearch_Lint_int_j0 at h
  refine AW_seq <| AW_region <| ALW_val (AVal_move rfl) <| ALW_val (AVal_move rfl) <| ALW_val (AVal_move rfl) <| ALW_val (AVal_lss rfl rfl) ?_
  refine ALW_val (AVal_move rfl) <| ALW_g1 rfl rfl (fun hc1 => AVal.step (AVal_move rfl)) <| ALW_g1 rfl rfl (fun hc2 => AVal.step (AVal_move rfl)) ?_
  have hb1 := (chk_some h).1
  replace h := (chk_some h).2
  refine ALW_g1 rfl rfl (fun hc3 => AVal.step (AVal_idxSM Try.underlying22 Try.sizeOf3 (fun _ => rfl) (gd_t rfl hc3) (gd_t rfl hc3) (imp_t hb1 hc3))) <| ALW_g1 rfl rfl (fun hc4 => AVal.step (AVal_loadR1 (o := 0) Try.isAgg3 (gd_t rfl hc4) rfl)) <| ALW_g1 rfl rfl (fun hc5 => AVal.step (AVal_move rfl)) <| ALW_g1 rfl rfl (fun hc6 => AVal.step (AVal_eql (gd_t rfl hc6) (gd_t rfl hc6))) <| ALW_g1 rfl rfl (fun hc7 => AVal.step (AVal_move (gd_t rfl hc7))) <| ALW_gn0 (g := 42) (s' := decide (i1 < (a_x.length : Int))) (s := decide ((at_ a_x i1) = a_target)) rfl rfl (fun hc8 => AVal.step (AVal_move rfl)) ?_
  refine ALW_gn0 (g := 42) (s' := decide (i1 < (a_x.length : Int))) (s := decide ((at_ a_x i1) = a_target)) rfl rfl (fun hc9 => AVal.step (AVal_move rfl)) ?_
  have hb2 := (chk_some h).1
  replace h := (chk_some h).2
  refine ALW_gn0 (g := 42) (s' := decide (i1 < (a_x.length : Int))) (s := decide ((at_ a_x i1) = a_target)) rfl rfl (fun hc10 => AVal.step (AVal_idxSM Try.underlying22 Try.sizeOf3 (fun _ => rfl) (gd_t rfl hc10) (gd_t rfl hc10) (imp_t hb2 hc10))) <| ALW_gn0 (g := 42) (s' := decide (i1 < (a_x.length : Int))) (s := decide ((at_ a_x i1) = a_target)) rfl rfl (fun hc11 => AVal.step (AVal_loadR1 (o := 0) Try.isAgg3 (gd_t rfl hc11) rfl)) ?_
  refine bnd_elim h ?_; clear h; intro x1 hx1 h
  refine ALW_callGn0 (g := 42) (s' := decide (i1 < (a_x.length : Int))) (s := decide ((at_ a_x i1) = a_target)) (r' := (AV.lit (.bool x1))) rfl rfl (fun hc12 => ⟨92, _, _, [], [(li (at_ a_x i1))], [(li (at_ a_x i1))], (AV.lit (.bool x1)), [], Try.func92, rfl, by kernel_rfl, (.fn 92), (lcons (gd_t rfl hc12) rfl), ⟨View.nr rfl, trivial⟩, slices_isNaN_int_ok (cnd_t hc12 hx1), .inl rfl, rfl⟩) <| ALW_gn0 (g := 42) (s' := decide (i1 < (a_x.length : Int))) (s := decide ((at_ a_x i1) = a_target)) rfl rfl (fun hc13 => AVal.step (AVal_move (gd_t rfl hc13))) <| ALW_gn1 (g := 48) (s' := (decide (i1 < (a_x.length : Int)) && !(decide ((at_ a_x i1) = a_target)))) (s := x1) rfl rfl (fun hc14 => AVal.step (AVal_move rfl)) ?_
  refine bnd_elim h ?_; clear h; intro x2 hx2 h
  refine ALW_callGn1 (g := 48) (s' := (decide (i1 < (a_x.length : Int)) && !(decide ((at_ a_x i1) = a_target)))) (s := x1) (r' := (AV.lit (.bool x2))) rfl rfl (fun hc15 => ⟨92, _, _, [], [(li a_target)], [(li a_target)], (AV.lit (.bool x2)), [], Try.func92, rfl, by kernel_rfl, (.fn 92), (lcons (gd_t rfl hc15) rfl), ⟨View.nr rfl, trivial⟩, slices_isNaN_int_ok (cnd_t hc15 hx2), .inl rfl, rfl⟩) <| ALW_gn0 (g := 42) (s' := decide (i1 < (a_x.length : Int))) (s := decide ((at_ a_x i1) = a_target)) rfl rfl (fun hc16 => AVal.step (AVal_pick_and (j := .lit undef) (gd_t rfl hc16) (gd_and (c := (decide (i1 < (a_x.length : Int)) && !(decide ((at_ a_x i1) = a_target)))) (d := x1) (a := (AV.lit (.bool x2))) (j := .lit undef) rfl hc16))) <| ALW_g1 rfl rfl (fun hc17 => AVal.step (AVal_pick_or (gd_t rfl hc17) (gd_and (c := decide (i1 < (a_x.length : Int))) (d := !(decide ((at_ a_x i1) = a_target))) (a := (AV.lit (.bool (x1 && x2)))) (j := .lit undef) rfl hc17))) <| ALW_val (AVal_pick_and (j := .lit undef) rfl rfl) <| ALW_val (AVal_assign rfl) <| ALW_val (AVal_assign rfl) ?_
  refine ALW_nil <| AW_ret ?_
  show RetP _ _ _ _ _ _
  obtain rfl := Option.some.inj h
  exact RetP_2 (R1_E rfl rfl) (R1_E rfl rfl) rfl
theorem buddy_inside_ok {a_z : Zone} {a_frame : Int} {a_order : Int} {r : Bool} (h : buddy_inside a_z a_frame a_order = some r) : PFn Try.prog 62 [(AV.agg ([(li a_z.node)] ++ ([(li a_z.kind)] ++ ([(li a_z.start)] ++ ([(li a_z.count)] ++ ([(li a_z.min)] ++ ([AV.any, AV.any, AV.any, AV.any, AV.any] ++ []))))))), (li a_frame), (li a_order)] (AV.lit (.bool r)) := by
 refine PFn_enter Try.func62 rfl Try.ntmps62 Try.results62 rfl ?_
 unfold buddy_inside at h
 refine AW_seq <| AW_region <| ALW_step (H' := [.box 46 ([(li a_z.node)] ++ ([(li a_z.kind)] ++ ([(li a_z.start)] ++ ([(li a_z.count)] ++ ([(li a_z.min)] ++ ([AV.any, AV.any, AV.any, AV.any, AV.any] ++ []))))))]) (AStep_boxA (t := 46) rfl) <| ALW_val (AVal_assign rfl) <| ALW_nil <| AW_seq ?_
 refine AW_region <| ALW_val (AVal_move rfl) ?_
 have hb1 := (chk_some h).1
 replace h := (chk_some h).2
 have hb2 := (chk_some h).1
 replace h := (chk_some h).2
 refine ALW_val (AVal_shl (a := 1) (b := a_order) rfl rfl hb1 hb2) <| ALW_val (AVal_assign rfl) <| ALW_nil <| AW_seq <| AW_region <| ALW_val (AVal_move rfl) ?_
 refine ALW_val (AVal_field Try.underlying46 rfl rfl Try.sizeOf3 rfl) <| ALW_val (AVal_load1 Try.isAgg3 rfl rfl rfl rfl) <| ALW_val (AVal_geq rfl rfl) <| ALW_val (AVal_move rfl) <| ALW_g1 rfl rfl (fun hc1 => AVal.step (AVal_move rfl)) <| ALW_g1 rfl rfl (fun hc2 => AVal.step (AVal_move rfl)) ?_
 have hb3 := (chk_some h).1
 replace h := (chk_some h).2
 refine ALW_g1 rfl rfl (fun hc3 => AVal.step (AVal_rem (k := .i64) (a := a_frame) (b := (1 : Int) * 2 ^ a_order.toNat) (gd_t rfl hc3) (gd_t rfl hc3) (imp_t hb3 hc3))) <| ALW_g1 rfl rfl (fun hc4 => AVal.step (AVal_eql (gd_t rfl hc4) rfl)) <| ALW_val (AVal_pick_and (j := .lit undef) rfl rfl) <| ALW_val (AVal_move rfl) <| ALW_g1 rfl rfl (fun hc5 => AVal.step (AVal_move rfl)) <| ALW_g1 rfl rfl (fun hc6 => AVal.step (AVal_field Try.underlying46 rfl rfl Try.sizeOf3 rfl)) ?_
 refine ALW_g1 rfl rfl (fun hc7 => AVal.step (AVal_load1 Try.isAgg3 (gd_t rfl hc7) rfl rfl rfl)) <| ALW_g1 rfl rfl (fun hc8 => AVal.step (AVal_leq (gd_t rfl hc8) (gd_t rfl hc8))) <| ALW_val (AVal_pick_and (j := .lit undef) rfl rfl) <| ALW_val (AVal_move rfl) <| ALW_g1 rfl rfl (fun hc9 => AVal.step (AVal_move rfl)) <| ALW_g1 rfl rfl (fun hc10 => AVal.step (AVal_field Try.underlying46 rfl rfl Try.sizeOf3 rfl)) ?_
 refine ALW_g1 rfl rfl (fun hc11 => AVal.step (AVal_load1 Try.isAgg3 (gd_t rfl hc11) rfl rfl rfl)) <| ALW_g1 rfl rfl (fun hc12 => AVal.step (AVal_field Try.underlying46 rfl rfl Try.sizeOf3 rfl)) <| ALW_g1 rfl rfl (fun hc13 => AVal.step (AVal_load1 Try.isAgg3 (gd_t rfl hc13) rfl rfl rfl)) ?_
 have hb4 := (chk_some h).1
 replace h := (chk_some h).2
 refine ALW_g1 rfl rfl (fun hc14 => AVal.step (AVal_add (gd_t rfl hc14) (gd_t rfl hc14) (imp_t hb4 hc14))) <| ALW_g1 rfl rfl (fun hc15 => AVal.step (AVal_move rfl)) ?_
 have hb5 := (chk_some h).1
 replace h := (chk_some h).2
 refine ALW_g1 rfl rfl (fun hc16 => AVal.step (AVal_sub (gd_t rfl hc16) (gd_t rfl hc16) (imp_t hb5 hc16))) <| ALW_g1 rfl rfl (fun hc17 => AVal.step (AVal_leq (gd_t rfl hc17) (gd_t rfl hc17))) <| ALW_val (AVal_pick_and (j := .lit undef) rfl rfl) <| ALW_val (AVal_assign rfl) <| ALW_nil <| AW_ret ?_
 show RetP _ _ _ _ _ _
 obtain rfl := Option.some.inj h
 exact RetP_1 (R1_E rfl rfl)
theorem buddy_put_ok {a_p0 : Zone} {a_p1 : Int} {a_p2 : Int} {r : Zone} (h : buddy_put a_p0 a_p1 a_p2 = some r) : AFn Try.prog 52 [(AV.ptr 0 0), (li a_p1), (li a_p2)] [.box 46 ([(li a_p0.node)] ++ ([(li a_p0.kind)] ++ ([(li a_p0.start)] ++ ([(li a_p0.count)] ++ ([(li a_p0.min)] ++ ((cM 5 3 (5 : Int) a_p0.free) ++ []))))))] (.tup []) [.box 46 ([(li r.node)] ++ ([(li r.kind)] ++ ([(li r.start)] ++ ([(li r.count)] ++ ([(li r.min)] ++ ((cM 5 3 (5 : Int) r.free) ++ []))))))] := by
 refine AFn_enter2 Try.func52 rfl Try.ntmps52 Try.results52 rfl ?_
 unfold buddy_put at h
 refine AW_seqJ (fun e' H' => ∃ (i1 : Int) (i2 : Int) (l1 : List (List Int)), Rep 88 1 e' H' (mkE [(0, (AV.ptr 0 0)), (1, (li i1)), (2, (li i2))]) [.box 46 ([(li a_p0.node)] ++ ([(li a_p0.kind)] ++ ([(li a_p0.start)] ++ ([(li a_p0.count)] ++ ([(li a_p0.min)] ++ ((cM 5 3 (5 : Int) l1) ++ []))))))] ∧ buddy_put_j0 a_p0 i1 i2 l1 = some r) ?_ ?_
 ·
  refine AW_block <| AW_loop (σ := Nat × Int × Int × (List (List Int))) (fun s => s.1) (fun s e' H' => match s with | (n0, i3, i4, l2) => Rep 88 1 e' H' (mkE [(0, (AV.ptr 0 0)), (1, (li i3)), (2, (li i4))]) [.box 46 ([(li a_p0.node)] ++ ([(li a_p0.kind)] ++ ([(li a_p0.start)] ++ ([(li a_p0.count)] ++ ([(li a_p0.min)] ++ ((cM 5 3 (5 : Int) l2) ++ []))))))] ∧ buddy_put_l0 a_p0 n0 i3 i4 l2 = some r) (FUEL, a_p1, a_p2, a_p0.free) ⟨RepP [0] rfl rfl (by kernel_rfl), h⟩ ?_
  clear h
  rintro ⟨n0, i3, i4, l2⟩ e' H' ⟨hrep, h⟩
  cases n0 with
  | zero => exact absurd (show (none : Option _) = some r from h) (by simp)
  | succ n0 =>
   replace h : buddy_put_b0 a_p0 (buddy_put_l0 a_p0 n0) i3 i4 l2 = some r := h
   unfold buddy_put_b0 at h
   refine AW_rep hrep ?_
   clear hrep
   refine AW_seq <| AW_seq <| AW_region <| ALW_val (AVal_move rfl) <| ALW_val (AVal_lss rfl rfl) <| ALW_nil ?_
   refine AW_cond (decide (i4 < 4)) rfl (fun hb4 => ?_) (fun hb4 => ?_)
   ·replace h := cnd_t hb4 h
    refine AW_skip <| AW_block <| AW_seq <| AW_region <| ALW_val (AVal_move rfl) <| ALW_val (AVal_move rfl) ?_
    have hb5 := (chk_some h).1
    replace h := (chk_some h).2
    have hb6 := (chk_some h).1
    replace h := (chk_some h).2
    refine ALW_val (AVal_shl (a := 1) (b := i4) rfl rfl hb5 hb6) <| ALW_val (AVal_xor (k := .i64) (a := i3) (b := (1 : Int) * 2 ^ i4.toNat) rfl rfl) <| ALW_val (AVal_assign rfl) <| ALW_nil <| AW_seq <| AW_region ?_
    refine ALW_val (AVal_move rfl) <| ALW_val (AVal_move rfl) <| ALW_val (AVal_nilCheck rfl) <| ALW_val (AVal_field Try.underlying46 rfl rfl Try.sizeOf44 rfl) ?_
    have hb7 := (chk_some h).1
    replace h := (chk_some h).2
    refine ALW_val (AVal_idxA (m := 5) (s := 1) (i := i4) (k := 0) (o := 5) Try.underlying44 Try.sizeOf22 rfl rfl hb7) ?_
    have hb8 := (chk_some h).1
    replace h := (chk_some h).2
    refine ALW_rep (Rep_openM (k := 0) (cs := ([(li a_p0.node)] ++ ([(li a_p0.kind)] ++ ([(li a_p0.start)] ++ ([(li a_p0.count)] ++ ([(li a_p0.min)] ++ ((cM 5 3 (5 : Int) l2) ++ []))))))) (hd := ([(li a_p0.node)] ++ [(li a_p0.kind)] ++ [(li a_p0.start)] ++ [(li a_p0.count)] ++ [(li a_p0.min)] ++ [])) (tl := ([])) (N := 5) (T := 3) (K := 5) (l := l2) (i := i4) rfl rfl hb7 hb8) <| ALW_val (AVal_loadM (k := 0) (o := (5 + i4.toNat * 1)) (cs := ([(li a_p0.node)] ++ ([(li a_p0.kind)] ++ ([(li a_p0.start)] ++ ([(li a_p0.count)] ++ ([(li a_p0.min)] ++ ((List.set (cM 5 3 (5 : Int) l2) i4.toNat (AV.hd 1)) ++ []))))))) (hd := ([(li a_p0.node)] ++ [(li a_p0.kind)] ++ [(li a_p0.start)] ++ [(li a_p0.count)] ++ [(li a_p0.min)] ++ [])) (tl := ([])) (s := (cM 5 3 (5 : Int) l2)) (i := i4) (j := 1) Try.isAgg22 rfl rfl rfl (congrArg (fun q => 5 + q) (Nat.mul_one _)) (blt_cM hb7)) <| ALW_val (AVal_move rfl) ?_
    refine bnd_elim h ?_; clear h; intro x2 hx2 h
    refine ALW_callE (r' := (AV.tup [(li x2.1), (AV.lit (.bool x2.2))])) (la := [(AV.hd 1), (li (bitF .xor .i64 i3 ((1 : Int) * 2 ^ i4.toNat)))]) (la' := [(ls cI (l2.getD i4.toNat [])), (li (bitF .xor .i64 i3 ((1 : Int) * 2 ^ i4.toNat)))]) (r := (AV.tup [(li x2.1), (AV.lit (.bool x2.2))])) (S := [1]) Try.func63 rfl (by kernel_rfl) (.fn 63) rfl ⟨View_hdM (fun _ => rfl) rfl rfl, View.nr rfl, trivial⟩ (slices_BinarySearch_Lint_int_ok hx2) (.inr rfl) rfl <| ALW_val (AVal_move rfl) <| ALW_val (AVal_extract rfl rfl) <| ALW_val (AVal_extract rfl rfl) <| ALW_val (AVal_assign rfl) <| ALW_val (AVal_assign rfl) ?_
    refine ALW_nil <| AW_seq <| AW_seq <| AW_region <| ALW_val (AVal_move rfl) <| ALW_val (AVal_not (t := x2.2) rfl) ?_
    refine ALW_val (AVal_move rfl) <| ALW_g0 rfl rfl (fun hc1 => AVal.step (AVal_move rfl)) <| ALW_g0 rfl rfl (fun hc2 => AVal.step (AVal_nilCheck (gd_t rfl hc2))) <| ALW_rep (Rep_closeM (j := 1) (l' := l2.getD i4.toNat []) (k := 0) (cs := ([(li a_p0.node)] ++ ([(li a_p0.kind)] ++ ([(li a_p0.start)] ++ ([(li a_p0.count)] ++ ([(li a_p0.min)] ++ ((List.set (cM 5 3 (5 : Int) l2) i4.toNat (AV.hd 1)) ++ []))))))) (hd := ([(li a_p0.node)] ++ [(li a_p0.kind)] ++ [(li a_p0.start)] ++ [(li a_p0.count)] ++ [(li a_p0.min)] ++ [])) (tl := ([])) (N := 5) (T := 3) (K := 5) (l := l2) (i := i4) rfl rfl hb7 hb8 rfl rfl) <| ALW_g0 rfl rfl (fun hc3 => AVal.step (AVal_loadW (k := 0) (o := 0) (m := 10) (la := ([(li a_p0.node)] ++ ([(li a_p0.kind)] ++ ([(li a_p0.start)] ++ ([(li a_p0.count)] ++ ([(li a_p0.min)] ++ ([AV.any, AV.any, AV.any, AV.any, AV.any] ++ []))))))) Try.isAgg46 Try.sizeOf46 (gd_t rfl hc3) rfl rfl rfl)) <| ALW_g0 rfl rfl (fun hc4 => AVal.step (AVal_move rfl)) ?_
    refine ALW_g0 rfl rfl (fun hc5 => AVal.step (AVal_move rfl)) <| ALW_g0 rfl rfl (fun hc6 => AVal.step (AVal_min (a := i3) (b := bitF .xor .i64 i3 ((1 : Int) * 2 ^ i4.toNat)) (gd_t rfl hc6) (gd_t rfl hc6))) <| ALW_g0 rfl rfl (fun hc7 => AVal.step (AVal_move rfl)) ?_
    have hb9 := (chk_some h).1
    replace h := (chk_some h).2
    refine ALW_g0 rfl rfl (fun hc8 => AVal.step (AVal_add (gd_t rfl hc8) rfl (imp_t hb9 hc8))) ?_
    refine bnd_elim h ?_; clear h; intro x3 hx3 h
    refine ALW_callG0 (g := 30) (s := !x2.2) (r' := (AV.lit (.bool x3))) rfl rfl (fun hc9 => ⟨62, _, _, [], [(AV.agg ([(li a_p0.node)] ++ ([(li a_p0.kind)] ++ ([(li a_p0.start)] ++ ([(li a_p0.count)] ++ ([(li a_p0.min)] ++ ([AV.any, AV.any, AV.any, AV.any, AV.any] ++ []))))))), (li (min i3 (bitF .xor .i64 i3 ((1 : Int) * 2 ^ i4.toNat)))), (li (i4 + 1))], [(AV.agg ([(li ((⟨a_p0.node, a_p0.kind, a_p0.start, a_p0.count, a_p0.min, setA 5 [] l2 i4.toNat (l2.getD i4.toNat [])⟩ : Zone).node))] ++ ([(li ((⟨a_p0.node, a_p0.kind, a_p0.start, a_p0.count, a_p0.min, setA 5 [] l2 i4.toNat (l2.getD i4.toNat [])⟩ : Zone).kind))] ++ ([(li ((⟨a_p0.node, a_p0.kind, a_p0.start, a_p0.count, a_p0.min, setA 5 [] l2 i4.toNat (l2.getD i4.toNat [])⟩ : Zone).start))] ++ ([(li ((⟨a_p0.node, a_p0.kind, a_p0.start, a_p0.count, a_p0.min, setA 5 [] l2 i4.toNat (l2.getD i4.toNat [])⟩ : Zone).count))] ++ ([(li ((⟨a_p0.node, a_p0.kind, a_p0.start, a_p0.count, a_p0.min, setA 5 [] l2 i4.toNat (l2.getD i4.toNat [])⟩ : Zone).min))] ++ ([AV.any, AV.any, AV.any, AV.any, AV.any] ++ []))))))), (li (min i3 (bitF .xor .i64 i3 ((1 : Int) * 2 ^ i4.toNat)))), (li (i4 + 1))], (AV.lit (.bool x3)), [], Try.func62, rfl, by kernel_rfl, (.fn 62), (lcons (gd_t rfl hc9) (lcons (gd_t rfl hc9) (lcons (gd_t rfl hc9) rfl))), ⟨View.nr rfl, View.nr rfl, View.nr rfl, trivial⟩, buddy_inside_ok (cnd_t hc9 hx3), .inl rfl, rfl⟩) <| ALW_g0 rfl rfl (fun hc10 => AVal.step (AVal_not (t := x3) (gd_t rfl hc10))) <| ALW_val (AVal_pick_or rfl rfl) <| ALW_nil ?_
    refine AW_cond ((!x2.2) || (!x3)) rfl (fun hb10 => ?_) (fun hb10 => ?_)
    ·replace h := cnd_t hb10 h
     refine AW_exit ?_
     exact ⟨i3, i4, (setA 5 [] l2 i4.toNat (l2.getD i4.toNat [])), RepP [0] rfl rfl (by kernel_rfl), h⟩
    ·replace h := cnd_f hb10 h
     refine AW_skip <| AW_seq <| AW_rep (Rep_openM (k := 0) (cs := ([(li a_p0.node)] ++ ([(li a_p0.kind)] ++ ([(li a_p0.start)] ++ ([(li a_p0.count)] ++ ([(li a_p0.min)] ++ ((cM 5 3 (5 : Int) (setA 5 [] l2 i4.toNat (l2.getD i4.toNat []))) ++ []))))))) (hd := ([(li a_p0.node)] ++ [(li a_p0.kind)] ++ [(li a_p0.start)] ++ [(li a_p0.count)] ++ [(li a_p0.min)] ++ [])) (tl := ([])) (N := 5) (T := 3) (K := 5) (l := setA 5 [] l2 i4.toNat (l2.getD i4.toNat [])) (i := i4) rfl rfl hb7 hb8) ?_
     have hb11 := (chk_some h).1
     replace h := (chk_some h).2
     have hb12 := (chk_some h).1
     replace h := (chk_some h).2
     show AW _ _ _ _ _ _ [.box 46 ([(li a_p0.node)] ++ ([(li a_p0.kind)] ++ ([(li a_p0.start)] ++ ([(li a_p0.count)] ++ ([(li a_p0.min)] ++ ((List.set (cM 5 3 (5 : Int) (setA 5 [] l2 i4.toNat (l2.getD i4.toNat []))) i4.toNat (AV.hd 2)) ++ [])))))), .dead, .vec 3 1 (List.map cI ((setA 5 [] l2 i4.toNat (l2.getD i4.toNat [])).getD i4.toNat []))]
     refine AW_draw (n := 88) (m := 1) [.head 0 1, .head 0 1, .head 0 0, .head 0 0, .head 0 0, .head 0 0, .head 0 0, .head 0 0, .head 0 0, .head 0 0, .head 0 0, .tail 0, .head 0 1, .head 0 1, .head 1 1, .tail 1] [11, 15] [(AV.ptr 0 0), (li i4), (AV.ptr 0 0), (li i4), (AV.ptr 0 0), (AV.ptr 0 5), (AV.ptr 0 (5 + i4.toNat * 1)), (AV.hd 2), (li x2.1), (li x2.1), (li (x2.1 + 1)), (AV.hd 3), (AV.ptr 0 0), (AV.ptr 0 5), (AV.ptr 0 (5 + i4.toNat * 1)), .any] [[.box 46 ([(li a_p0.node)] ++ ([(li a_p0.kind)] ++ ([(li a_p0.start)] ++ ([(li a_p0.count)] ++ ([(li a_p0.min)] ++ ((List.set (cM 5 3 (5 : Int) (setA 5 [] l2 i4.toNat (l2.getD i4.toNat []))) i4.toNat (AV.hd 2)) ++ [])))))), .dead, .vec 3 1 (List.map cI ((setA 5 [] l2 i4.toNat (l2.getD i4.toNat [])).getD i4.toNat []))], [.box 46 ([(li a_p0.node)] ++ ([(li a_p0.kind)] ++ ([(li a_p0.start)] ++ ([(li a_p0.count)] ++ ([(li a_p0.min)] ++ ((List.set (cM 5 3 (5 : Int) (setA 5 [] l2 i4.toNat (l2.getD i4.toNat []))) i4.toNat (AV.hd 2)) ++ [])))))), .dead, .dead, .vec 3 1 (List.map cI (delL ((setA 5 [] l2 i4.toNat (l2.getD i4.toNat [])).getD i4.toNat []) x2.1))], [.box 46 ([(li a_p0.node)] ++ ([(li a_p0.kind)] ++ ([(li a_p0.start)] ++ ([(li a_p0.count)] ++ ([(li a_p0.min)] ++ ((List.set (cM 5 3 (5 : Int) (setA 5 [] l2 i4.toNat (l2.getD i4.toNat []))) i4.toNat (AV.hd 3)) ++ [])))))), .dead, .dead, .vec 3 1 (List.map cI (delL ((setA 5 [] l2 i4.toNat (l2.getD i4.toNat [])).getD i4.toNat []) x2.1))]] (by kernel_rfl) (by kernel_rfl) ⟨⟨?_, ?_⟩, ⟨?_, ?_⟩, ?_, ?_, ?_, ?_, ?_, ?_, ?_, ?_, ?_, ?_, ⟨?_, ?_⟩, ⟨?_, ?_⟩, ?_, ?_, trivial⟩ ?_
     ·exact fun e s p => ALW1 (AVal_move (av := (AV.ptr 0 0)) (s 0 rfl)) ⟨fun _ => rfl, rfl⟩
     ·exact fun e s p => ALW1 (AVal_move (av := (AV.ptr 0 0)) (s 0 rfl)) ⟨fun _ => rfl, rfl⟩
     ·exact fun e s p => ALW1 (AVal_move (av := (li i4)) (s 2 rfl)) ⟨fun _ => rfl, rfl⟩
     ·exact fun e s p => ALW1 (AVal_move (av := (li i4)) (s 2 rfl)) ⟨fun _ => rfl, rfl⟩
     ·exact fun e s p => ALW1 (AVal_move (av := (AV.ptr 0 0)) (s 0 rfl)) ⟨fun _ => rfl, rfl⟩
     ·exact fun e s p => ALW1 (AVal_move (av := (li i4)) (s 2 rfl)) ⟨fun _ => rfl, rfl⟩
     ·exact fun e s p => ALW1 (AVal_nilCheck p.1) ⟨fun _ => rfl, rfl⟩
     ·exact fun e s p => ALW1 (AVal_field (k := 0) (o := 0) (off := 5) Try.underlying46 rfl rfl Try.sizeOf44 p.1) ⟨fun _ => rfl, rfl⟩
     ·exact fun e s p => ALW1 (AVal_idxA (m := 5) (s := 1) (i := i4) (k := 0) (o := 5) Try.underlying44 Try.sizeOf22 p.1 p.2.1 hb7) ⟨fun _ => rfl, rfl⟩
     ·exact fun e s p => ALW1 (AVal_loadM (k := 0) (o := (5 + i4.toNat * 1)) (cs := ([(li a_p0.node)] ++ ([(li a_p0.kind)] ++ ([(li a_p0.start)] ++ ([(li a_p0.count)] ++ ([(li a_p0.min)] ++ ((List.set (cM 5 3 (5 : Int) (setA 5 [] l2 i4.toNat (l2.getD i4.toNat []))) i4.toNat (AV.hd 2)) ++ []))))))) (hd := ([(li a_p0.node)] ++ [(li a_p0.kind)] ++ [(li a_p0.start)] ++ [(li a_p0.count)] ++ [(li a_p0.min)] ++ [])) (tl := ([])) (s := (cM 5 3 (5 : Int) (setA 5 [] l2 i4.toNat (l2.getD i4.toNat [])))) (i := i4) (j := 2) Try.isAgg22 p.1 rfl rfl (congrArg (fun q => 5 + q) (Nat.mul_one _)) (blt_cM hb7)) ⟨fun _ => rfl, rfl⟩
     ·exact fun e s p => ALW1 (AVal_move (av := (li x2.1)) (s 7 rfl)) ⟨fun _ => rfl, rfl⟩
     ·exact fun e s p => ALW1 (AVal_move (av := (li x2.1)) (s 7 rfl)) ⟨fun _ => rfl, rfl⟩
     ·exact fun e s p => ALW1 (AVal_add (a := x2.1) (b := 1) p.1 rfl hb11) ⟨fun _ => rfl, rfl⟩
     ·
      intro e46 hs46 hp45
      refine ALW_delete (k := 2) (l := (setA 5 [] l2 i4.toNat (l2.getD i4.toNat [])).getD i4.toNat []) (i := x2.1) (q := x2.1 + 1) (fun a b => deleteP a b) Try.func85 rfl (by kernel_rfl) hp45.1 rfl hp45.2.1 hp45.2.2.1 hb12 ?_
      exact ALW_nil ⟨fun _ => rfl, rfl⟩
     ·exact fun e s p => ALW1 (AVal_nilCheck p.1) ⟨fun _ => rfl, rfl⟩
     ·exact fun e s p => ALW1 (AVal_nilCheck p.1) ⟨fun _ => rfl, rfl⟩
     ·exact fun e s p => ALW1 (AVal_field (k := 0) (o := 0) (off := 5) Try.underlying46 rfl rfl Try.sizeOf44 p.1) ⟨fun _ => rfl, rfl⟩
     ·exact fun e s p => ALW1 (AVal_field (k := 0) (o := 0) (off := 5) Try.underlying46 rfl rfl Try.sizeOf44 p.1) ⟨fun _ => rfl, rfl⟩
     ·exact fun e s p => ALW1 (AVal_idxA (m := 5) (s := 1) (i := i4) (k := 0) (o := 5) Try.underlying44 Try.sizeOf22 p.1 p.2.2.2.1 hb7) ⟨fun _ => rfl, rfl⟩
     ·
      intro e52 hs52 hp51
      refine ALW_act (H' := [.box 46 ([(li a_p0.node)] ++ ([(li a_p0.kind)] ++ ([(li a_p0.start)] ++ ([(li a_p0.count)] ++ ([(li a_p0.min)] ++ ((List.set (cM 5 3 (5 : Int) (setA 5 [] l2 i4.toNat (l2.getD i4.toNat []))) i4.toNat (AV.hd 3)) ++ [])))))), .dead, .dead, .vec 3 1 (List.map cI (delL ((setA 5 [] l2 i4.toNat (l2.getD i4.toNat [])).getD i4.toNat []) x2.1))]) (AAct_storeM2 (k := 0) (o := (5 + i4.toNat * 1)) (cs := ([(li a_p0.node)] ++ ([(li a_p0.kind)] ++ ([(li a_p0.start)] ++ ([(li a_p0.count)] ++ ([(li a_p0.min)] ++ ((List.set (cM 5 3 (5 : Int) (setA 5 [] l2 i4.toNat (l2.getD i4.toNat []))) i4.toNat (AV.hd 2)) ++ []))))))) (hd := ([(li a_p0.node)] ++ [(li a_p0.kind)] ++ [(li a_p0.start)] ++ [(li a_p0.count)] ++ [(li a_p0.min)] ++ [])) (tl := ([])) (s := (cM 5 3 (5 : Int) (setA 5 [] l2 i4.toNat (l2.getD i4.toNat [])))) (i := i4) (a := (AV.hd 3)) Try.sizeOf22 (by exact hp51.1) rfl rfl (congrArg (fun q => 5 + q) (Nat.mul_one _)) (blt_cM hb7) (by exact hp51.2.2.2.2.2.2.2.2.2.2.2.2.2.2.1) rfl) ?_
      exact ALW_nil ⟨fun _ => rfl, rfl⟩
     intro e53 hs53 hq2
     refine AW_rep (Rep_mk (l := [(0, (AV.ptr 0 0)), (1, (li i3)), (2, (li i4)), (6, (li (bitF .xor .i64 i3 ((1 : Int) * 2 ^ i4.toNat))))]) ⟨(hs53 0 rfl), (hs53 1 rfl), (hs53 2 rfl), (hs53 6 rfl), trivial⟩) <| AW_seq <| AW_region <| ALW_val (AVal_move (av := (li i3)) rfl) <| ALW_val (AVal_move (av := (li (bitF .xor .i64 i3 ((1 : Int) * 2 ^ i4.toNat)))) rfl) <| ALW_val (AVal_min (a := i3) (b := bitF .xor .i64 i3 ((1 : Int) * 2 ^ i4.toNat)) rfl rfl) ?_
     refine ALW_val (AVal_assign rfl) <| ALW_nil <| AW_region <| ALW_val (AVal_move rfl) ?_
     have hb13 := (chk_some h).1
     replace h := (chk_some h).2
     refine ALW_val (AVal_add rfl rfl hb13) <| ALW_val (AVal_assign rfl) <| ALW_nil ?_
     exact ⟨(n0, (min i3 (bitF .xor .i64 i3 ((1 : Int) * 2 ^ i4.toNat))), (i4 + 1), (setA 5 [] (setA 5 [] l2 i4.toNat (l2.getD i4.toNat [])) i4.toNat (delL ((setA 5 [] l2 i4.toNat (l2.getD i4.toNat [])).getD i4.toNat []) x2.1))), Nat.lt_succ_self _, Rep.trans (Rep_closeM (j := 3) (l' := delL ((setA 5 [] l2 i4.toNat (l2.getD i4.toNat [])).getD i4.toNat []) x2.1) (k := 0) (cs := ([(li a_p0.node)] ++ ([(li a_p0.kind)] ++ ([(li a_p0.start)] ++ ([(li a_p0.count)] ++ ([(li a_p0.min)] ++ ((List.set (cM 5 3 (5 : Int) (setA 5 [] l2 i4.toNat (l2.getD i4.toNat []))) i4.toNat (AV.hd 3)) ++ []))))))) (hd := ([(li a_p0.node)] ++ [(li a_p0.kind)] ++ [(li a_p0.start)] ++ [(li a_p0.count)] ++ [(li a_p0.min)] ++ [])) (tl := ([])) (N := 5) (T := 3) (K := 5) (l := setA 5 [] l2 i4.toNat (l2.getD i4.toNat [])) (i := i4) rfl rfl hb7 hb8 rfl rfl) (RepP [0] (l := [(0, (AV.ptr 0 0)), (1, (li (min i3 (bitF .xor .i64 i3 ((1 : Int) * 2 ^ i4.toNat))))), (2, (li (i4 + 1)))]) rfl rfl (by kernel_rfl)), h⟩
   ·replace h := cnd_f hb4 h
    refine AW_exit ?_
    exact ⟨i3, i4, l2, RepP [0] rfl rfl (by kernel_rfl), h⟩
 ·
  clear h
  rintro e' H' ⟨i1, i2, l1, hrep, h⟩
  refine AW_rep hrep ?_
  clear hrep
  unfold buddy_put_j0 at h
  refine AW_seq <| AW_region <| ALW_val (AVal_move rfl) <| ALW_val (AVal_move rfl) <| ALW_val (AVal_nilCheck rfl) <| ALW_val (AVal_field Try.underlying46 rfl rfl Try.sizeOf44 rfl) ?_
  have hb1 := (chk_some h).1
  replace h := (chk_some h).2
  refine ALW_val (AVal_idxA (m := 5) (s := 1) (i := i2) (k := 0) (o := 5) Try.underlying44 Try.sizeOf22 rfl rfl hb1) ?_
  have hb2 := (chk_some h).1
  replace h := (chk_some h).2
  refine ALW_rep (Rep_openM (k := 0) (cs := ([(li a_p0.node)] ++ ([(li a_p0.kind)] ++ ([(li a_p0.start)] ++ ([(li a_p0.count)] ++ ([(li a_p0.min)] ++ ((cM 5 3 (5 : Int) l1) ++ []))))))) (hd := ([(li a_p0.node)] ++ [(li a_p0.kind)] ++ [(li a_p0.start)] ++ [(li a_p0.count)] ++ [(li a_p0.min)] ++ [])) (tl := ([])) (N := 5) (T := 3) (K := 5) (l := l1) (i := i2) rfl rfl hb1 hb2) <| ALW_val (AVal_loadM (k := 0) (o := (5 + i2.toNat * 1)) (cs := ([(li a_p0.node)] ++ ([(li a_p0.kind)] ++ ([(li a_p0.start)] ++ ([(li a_p0.count)] ++ ([(li a_p0.min)] ++ ((List.set (cM 5 3 (5 : Int) l1) i2.toNat (AV.hd 1)) ++ []))))))) (hd := ([(li a_p0.node)] ++ [(li a_p0.kind)] ++ [(li a_p0.start)] ++ [(li a_p0.count)] ++ [(li a_p0.min)] ++ [])) (tl := ([])) (s := (cM 5 3 (5 : Int) l1)) (i := i2) (j := 1) Try.isAgg22 rfl rfl rfl (congrArg (fun q => 5 + q) (Nat.mul_one _)) (blt_cM hb1)) <| ALW_val (AVal_move rfl) ?_
  refine bnd_elim h ?_; clear h; intro x1 hx1 h
  refine ALW_callE (r' := (AV.tup [(li x1.1), (AV.lit (.bool x1.2))])) (la := [(AV.hd 1), (li i1)]) (la' := [(ls cI (l1.getD i2.toNat [])), (li i1)]) (r := (AV.tup [(li x1.1), (AV.lit (.bool x1.2))])) (S := [1]) Try.func63 rfl (by kernel_rfl) (.fn 63) rfl ⟨View_hdM (fun _ => rfl) rfl rfl, View.nr rfl, trivial⟩ (slices_BinarySearch_Lint_int_ok hx1) (.inr rfl) rfl <| ALW_val (AVal_move rfl) <| ALW_val (AVal_extract rfl rfl) <| ALW_val (AVal_extract rfl rfl) <| ALW_val (AVal_assign rfl) <| ALW_val (AVal_assign rfl) ?_
  refine ALW_nil ?_
  have hb3 := (chk_some h).1
  replace h := (chk_some h).2
  show AW _ _ _ _ _ _ [.box 46 ([(li a_p0.node)] ++ ([(li a_p0.kind)] ++ ([(li a_p0.start)] ++ ([(li a_p0.count)] ++ ([(li a_p0.min)] ++ ((List.set (cM 5 3 (5 : Int) l1) i2.toNat (AV.hd 1)) ++ [])))))), .vec 3 1 (List.map cI (l1.getD i2.toNat []))]
  refine AW_draw (n := 88) (m := 1) [.head 0 2, .head 0 2, .head 0 1, .head 0 1, .head 0 1, .head 0 1, .head 0 1, .head 0 1, .head 0 1, .head 0 0, .tail 0, .tail 1, .head 0 2, .head 0 2, .head 2 2, .tail 2] [10, 11, 15] [(AV.ptr 0 0), (li i2), (AV.ptr 0 0), (li i2), (AV.ptr 0 0), (AV.ptr 0 5), (AV.ptr 0 (5 + i2.toNat * 1)), (AV.hd 1), (li x1.1), (li i1), (AV.hd 2), (AV.hd 3), (AV.ptr 0 0), (AV.ptr 0 5), (AV.ptr 0 (5 + i2.toNat * 1)), .any] [[.box 46 ([(li a_p0.node)] ++ ([(li a_p0.kind)] ++ ([(li a_p0.start)] ++ ([(li a_p0.count)] ++ ([(li a_p0.min)] ++ ((List.set (cM 5 3 (5 : Int) l1) i2.toNat (AV.hd 1)) ++ [])))))), .vec 3 1 (List.map cI (l1.getD i2.toNat []))], [.box 46 ([(li a_p0.node)] ++ ([(li a_p0.kind)] ++ ([(li a_p0.start)] ++ ([(li a_p0.count)] ++ ([(li a_p0.min)] ++ ((List.set (cM 5 3 (5 : Int) l1) i2.toNat (AV.hd 1)) ++ [])))))), .vec 3 1 (List.map cI (l1.getD i2.toNat [])), .vec 3 1 (List.map cI [i1])], [.box 46 ([(li a_p0.node)] ++ ([(li a_p0.kind)] ++ ([(li a_p0.start)] ++ ([(li a_p0.count)] ++ ([(li a_p0.min)] ++ ((List.set (cM 5 3 (5 : Int) l1) i2.toNat (AV.hd 1)) ++ [])))))), .dead, .vec 3 1 (List.map cI [i1]), .vec 3 1 (List.map cI (insL (l1.getD i2.toNat []) x1.1 i1))], [.box 46 ([(li a_p0.node)] ++ ([(li a_p0.kind)] ++ ([(li a_p0.start)] ++ ([(li a_p0.count)] ++ ([(li a_p0.min)] ++ ((List.set (cM 5 3 (5 : Int) l1) i2.toNat (AV.hd 3)) ++ [])))))), .dead, .vec 3 1 (List.map cI [i1]), .vec 3 1 (List.map cI (insL (l1.getD i2.toNat []) x1.1 i1))]] (by kernel_rfl) (by kernel_rfl) ⟨⟨?_, ?_, ?_⟩, ⟨?_, ?_, ?_⟩, ⟨?_, ?_⟩, ⟨?_, ?_⟩, ⟨?_, ?_⟩, ⟨?_, ?_⟩, ⟨?_, ?_⟩, ⟨?_, ?_⟩, ⟨?_, ?_⟩, ?_, ?_, ?_, ⟨?_, ?_, ?_⟩, ⟨?_, ?_, ?_⟩, ?_, ?_, trivial⟩ ?_
  ·exact fun e s p => ALW1 (AVal_move (av := (AV.ptr 0 0)) (s 0 rfl)) ⟨fun _ => rfl, rfl⟩
  ·exact fun e s p => ALW1 (AVal_move (av := (AV.ptr 0 0)) (s 0 rfl)) ⟨fun _ => rfl, rfl⟩
  ·exact fun e s p => ALW1 (AVal_move (av := (AV.ptr 0 0)) (s 0 rfl)) ⟨fun _ => rfl, rfl⟩
  ·exact fun e s p => ALW1 (AVal_move (av := (li i2)) (s 2 rfl)) ⟨fun _ => rfl, rfl⟩
  ·exact fun e s p => ALW1 (AVal_move (av := (li i2)) (s 2 rfl)) ⟨fun _ => rfl, rfl⟩
  ·exact fun e s p => ALW1 (AVal_move (av := (li i2)) (s 2 rfl)) ⟨fun _ => rfl, rfl⟩
  ·exact fun e s p => ALW1 (AVal_move (av := (AV.ptr 0 0)) (s 0 rfl)) ⟨fun _ => rfl, rfl⟩
  ·exact fun e s p => ALW1 (AVal_move (av := (AV.ptr 0 0)) (s 0 rfl)) ⟨fun _ => rfl, rfl⟩
  ·exact fun e s p => ALW1 (AVal_move (av := (li i2)) (s 2 rfl)) ⟨fun _ => rfl, rfl⟩
  ·exact fun e s p => ALW1 (AVal_move (av := (li i2)) (s 2 rfl)) ⟨fun _ => rfl, rfl⟩
  ·exact fun e s p => ALW1 (AVal_nilCheck p.1) ⟨fun _ => rfl, rfl⟩
  ·exact fun e s p => ALW1 (AVal_nilCheck p.1) ⟨fun _ => rfl, rfl⟩
  ·exact fun e s p => ALW1 (AVal_field (k := 0) (o := 0) (off := 5) Try.underlying46 rfl rfl Try.sizeOf44 p.1) ⟨fun _ => rfl, rfl⟩
  ·exact fun e s p => ALW1 (AVal_field (k := 0) (o := 0) (off := 5) Try.underlying46 rfl rfl Try.sizeOf44 p.1) ⟨fun _ => rfl, rfl⟩
  ·exact fun e s p => ALW1 (AVal_idxA (m := 5) (s := 1) (i := i2) (k := 0) (o := 5) Try.underlying44 Try.sizeOf22 p.1 p.2.1 hb1) ⟨fun _ => rfl, rfl⟩
  ·exact fun e s p => ALW1 (AVal_idxA (m := 5) (s := 1) (i := i2) (k := 0) (o := 5) Try.underlying44 Try.sizeOf22 p.1 p.2.1 hb1) ⟨fun _ => rfl, rfl⟩
  ·exact fun e s p => ALW1 (AVal_loadM (k := 0) (o := (5 + i2.toNat * 1)) (cs := ([(li a_p0.node)] ++ ([(li a_p0.kind)] ++ ([(li a_p0.start)] ++ ([(li a_p0.count)] ++ ([(li a_p0.min)] ++ ((List.set (cM 5 3 (5 : Int) l1) i2.toNat (AV.hd 1)) ++ []))))))) (hd := ([(li a_p0.node)] ++ [(li a_p0.kind)] ++ [(li a_p0.start)] ++ [(li a_p0.count)] ++ [(li a_p0.min)] ++ [])) (tl := ([])) (s := (cM 5 3 (5 : Int) l1)) (i := i2) (j := 1) Try.isAgg22 p.1 rfl rfl (congrArg (fun q => 5 + q) (Nat.mul_one _)) (blt_cM hb1)) ⟨fun _ => rfl, rfl⟩
  ·exact fun e s p => ALW1 (AVal_loadM (k := 0) (o := (5 + i2.toNat * 1)) (cs := ([(li a_p0.node)] ++ ([(li a_p0.kind)] ++ ([(li a_p0.start)] ++ ([(li a_p0.count)] ++ ([(li a_p0.min)] ++ ((List.set (cM 5 3 (5 : Int) l1) i2.toNat (AV.hd 1)) ++ []))))))) (hd := ([(li a_p0.node)] ++ [(li a_p0.kind)] ++ [(li a_p0.start)] ++ [(li a_p0.count)] ++ [(li a_p0.min)] ++ [])) (tl := ([])) (s := (cM 5 3 (5 : Int) l1)) (i := i2) (j := 1) Try.isAgg22 p.1 rfl rfl (congrArg (fun q => 5 + q) (Nat.mul_one _)) (blt_cM hb1)) ⟨fun _ => rfl, rfl⟩
  ·exact fun e s p => ALW1 (AVal_move (av := (li x1.1)) (s 9 rfl)) ⟨fun _ => rfl, rfl⟩
  ·exact fun e s p => ALW1 (AVal_move (av := (li x1.1)) (s 9 rfl)) ⟨fun _ => rfl, rfl⟩
  ·exact fun e s p => ALW1 (AVal_move (av := (li i1)) (s 1 rfl)) ⟨fun _ => rfl, rfl⟩
  ·
   intro e22 hs22 hp22
   refine ALW_lit1 (a := (li i1)) elem3 Try.underlying22 hp22.1 rfl rfl rfl ?_
   exact ALW_nil ⟨fun _ => rfl, rfl⟩
  ·
   intro e23 hs23 hp23
   refine ALW_insert (k := 1) (j := 2) (l := l1.getD i2.toNat []) (i := x1.1) (q := i1) (fun a b c d e => insertP a b c d e) Try.func83 rfl (by kernel_rfl) hp23.1 rfl hp23.2.1 hp23.2.2.1 rfl rfl hb3 ?_
   exact ALW_nil ⟨fun _ => rfl, rfl⟩
  ·exact fun e s p => ALW1 (AVal_nilCheck p.1) ⟨fun _ => rfl, rfl⟩
  ·exact fun e s p => ALW1 (AVal_nilCheck p.1) ⟨fun _ => rfl, rfl⟩
  ·exact fun e s p => ALW1 (AVal_nilCheck p.1) ⟨fun _ => rfl, rfl⟩
  ·exact fun e s p => ALW1 (AVal_field (k := 0) (o := 0) (off := 5) Try.underlying46 rfl rfl Try.sizeOf44 p.1) ⟨fun _ => rfl, rfl⟩
  ·exact fun e s p => ALW1 (AVal_field (k := 0) (o := 0) (off := 5) Try.underlying46 rfl rfl Try.sizeOf44 p.1) ⟨fun _ => rfl, rfl⟩
  ·exact fun e s p => ALW1 (AVal_field (k := 0) (o := 0) (off := 5) Try.underlying46 rfl rfl Try.sizeOf44 p.1) ⟨fun _ => rfl, rfl⟩
  ·exact fun e s p => ALW1 (AVal_idxA (m := 5) (s := 1) (i := i2) (k := 0) (o := 5) Try.underlying44 Try.sizeOf22 p.1 p.2.2.2.1 hb1) ⟨fun _ => rfl, rfl⟩
  ·
   intro e31 hs31 hp31
   refine ALW_act (H' := [.box 46 ([(li a_p0.node)] ++ ([(li a_p0.kind)] ++ ([(li a_p0.start)] ++ ([(li a_p0.count)] ++ ([(li a_p0.min)] ++ ((List.set (cM 5 3 (5 : Int) l1) i2.toNat (AV.hd 3)) ++ [])))))), .dead, .vec 3 1 (List.map cI [i1]), .vec 3 1 (List.map cI (insL (l1.getD i2.toNat []) x1.1 i1))]) (AAct_storeM2 (k := 0) (o := (5 + i2.toNat * 1)) (cs := ([(li a_p0.node)] ++ ([(li a_p0.kind)] ++ ([(li a_p0.start)] ++ ([(li a_p0.count)] ++ ([(li a_p0.min)] ++ ((List.set (cM 5 3 (5 : Int) l1) i2.toNat (AV.hd 1)) ++ []))))))) (hd := ([(li a_p0.node)] ++ [(li a_p0.kind)] ++ [(li a_p0.start)] ++ [(li a_p0.count)] ++ [(li a_p0.min)] ++ [])) (tl := ([])) (s := (cM 5 3 (5 : Int) l1)) (i := i2) (a := (AV.hd 3)) Try.sizeOf22 (by exact hp31.1) rfl rfl (congrArg (fun q => 5 + q) (Nat.mul_one _)) (blt_cM hb1) (by exact hp31.2.2.2.2.2.2.2.2.2.2.2.2.2.2.1) rfl) ?_
   exact ALW_nil ⟨fun _ => rfl, rfl⟩
  intro e32 hs32 hq1
  show RetB _ _ _ _ _ _ _ _
  obtain rfl := Option.some.inj h
  exact ⟨mkE [], [.box 46 ([(li a_p0.node)] ++ ([(li a_p0.kind)] ++ ([(li a_p0.start)] ++ ([(li a_p0.count)] ++ ([(li a_p0.min)] ++ ((cM 5 3 (5 : Int) (setA 5 [] l1 i2.toNat (insL (l1.getD i2.toNat []) x1.1 i1))) ++ []))))))], Rep.trans (Rep_mk (l := []) trivial) (Rep.trans (Rep_closeM (j := 3) (l' := insL (l1.getD i2.toNat []) x1.1 i1) (k := 0) (cs := ([(li a_p0.node)] ++ ([(li a_p0.kind)] ++ ([(li a_p0.start)] ++ ([(li a_p0.count)] ++ ([(li a_p0.min)] ++ ((List.set (cM 5 3 (5 : Int) l1) i2.toNat (AV.hd 3)) ++ []))))))) (hd := ([(li a_p0.node)] ++ [(li a_p0.kind)] ++ [(li a_p0.start)] ++ [(li a_p0.count)] ++ [(li a_p0.min)] ++ [])) (tl := ([])) (N := 5) (T := 3) (K := 5) (l := l1) (i := i2) rfl rfl hb1 hb2 rfl rfl) (RepP [0] (l := []) rfl rfl (by kernel_rfl))), RetA_0 rfl⟩
theorem buddy_New_ok {a_node : Int} {a_kind : Int} {a_start : Int} {a_count : Int} {a_least : Int} {r : Zone × Int} (h : buddy_New a_node a_kind a_start a_count a_least = some r) : PFn Try.prog 26 [(li a_node), (li a_kind), (li a_start), (li a_count), (li a_least)] (AV.tup [(AV.agg (cZone r.1)), (li r.2)]) := by
 refine PFn_enter Try.func26 rfl Try.ntmps26 Try.results26 rfl ?_
 unfold buddy_New at h
 refine AW_seq <| AW_region <| ALW_step (H' := [.box 46 ([(li 0)] ++ ([(li 0)] ++ ([(li 0)] ++ ([(li 0)] ++ ([(li 0)] ++ ((cA 5 (eS cI) ([] : List Int) (List.replicate 5 ([] : List Int))) ++ []))))))]) (AStep_alloc (t := 46) (vs := [.int .i64 0, .int .i64 0, .int .i64 0, .int .i64 0, .int .i64 0, .slice none 0 0, .slice none 0 0, .slice none 0 0, .slice none 0 0, .slice none 0 0]) (cs := [.lit (.int .i64 0), .lit (.int .i64 0), .lit (.int .i64 0), .lit (.int .i64 0), .lit (.int .i64 0), .sl false [], .sl false [], .sl false [], .sl false [], .sl false []]) Try.zeroValue46 (by kernel_rfl) rfl ⟨SubF.refl _, SubF.refl _, SubF.refl _, SubF.refl _, SubF.refl _, SubF.nils, SubF.nils, SubF.nils, SubF.nils, SubF.nils, trivial⟩) <| ALW_val (AVal_assign rfl) <| ALW_nil <| AW_seq ?_
 refine AW_region <| ALW_val (AVal_move rfl) <| ALW_val (AVal_move rfl) <| ALW_val (AVal_move rfl) <| ALW_val (AVal_move rfl) <| ALW_val (AVal_move rfl) ?_
 refine ALW_val (AVal_build (pl := [(0, 1), (1, 1), (2, 1), (3, 1), (4, 1), (5, 5)]) (zs := [.int .i64 0, .int .i64 0, .int .i64 0, .int .i64 0, .int .i64 0, .slice none 0 0, .slice none 0 0, .slice none 0 0, .slice none 0 0, .slice none 0 0]) (zc := [.lit (.int .i64 0), .lit (.int .i64 0), .lit (.int .i64 0), .lit (.int .i64 0), .lit (.int .i64 0), .osl 3 1 [], .osl 3 1 [], .osl 3 1 [], .osl 3 1 [], .osl 3 1 []]) (res := ([(li a_node)] ++ ([(li a_kind)] ++ ([(li a_start)] ++ ([(li a_count)] ++ ([(li a_least)] ++ ((cM 5 3 (5 : Int) (List.replicate 5 ([] : List Int))) ++ []))))))) (fun _ => by kernel_rfl) rfl (⟨SubF.refl _, ⟨SubF.refl _, ⟨SubF.refl _, ⟨SubF.refl _, ⟨SubF.refl _, ⟨SubF.nilo, ⟨SubF.nilo, ⟨SubF.nilo, ⟨SubF.nilo, ⟨SubF.nilo, trivial⟩⟩⟩⟩⟩⟩⟩⟩⟩⟩) ⟨(li a_node), 0, 1, rfl, rfl, rfl, rfl, rfl, ⟨(li a_kind), 1, 1, rfl, rfl, rfl, rfl, rfl, ⟨(li a_start), 2, 1, rfl, rfl, rfl, rfl, rfl, ⟨(li a_count), 3, 1, rfl, rfl, rfl, rfl, rfl, ⟨(li a_least), 4, 1, rfl, rfl, rfl, rfl, rfl, (by exact SubL.refl _)⟩⟩⟩⟩⟩) <| ALW_step (H' := [.box 46 ([(li 0)] ++ ([(li 0)] ++ ([(li 0)] ++ ([(li 0)] ++ ([(li 0)] ++ ((cA 5 (eS cI) ([] : List Int) (List.replicate 5 ([] : List Int))) ++ [])))))), .box 46 ([(li 0)] ++ ([(li 0)] ++ ([(li 0)] ++ ([(li 0)] ++ ([(li 0)] ++ ((cA 5 (eS cI) ([] : List Int) (List.replicate 5 ([] : List Int))) ++ []))))))]) (AStep_alloc (t := 46) (vs := [.int .i64 0, .int .i64 0, .int .i64 0, .int .i64 0, .int .i64 0, .slice none 0 0, .slice none 0 0, .slice none 0 0, .slice none 0 0, .slice none 0 0]) (cs := [.lit (.int .i64 0), .lit (.int .i64 0), .lit (.int .i64 0), .lit (.int .i64 0), .lit (.int .i64 0), .sl false [], .sl false [], .sl false [], .sl false [], .sl false []]) Try.zeroValue46 (by kernel_rfl) rfl ⟨SubF.refl _, SubF.refl _, SubF.refl _, SubF.refl _, SubF.refl _, SubF.nils, SubF.nils, SubF.nils, SubF.nils, SubF.nils, trivial⟩) <| ALW_act (H' := [.box 46 ([(li 0)] ++ ([(li 0)] ++ ([(li 0)] ++ ([(li 0)] ++ ([(li 0)] ++ ((cA 5 (eS cI) ([] : List Int) (List.replicate 5 ([] : List Int))) ++ [])))))), .box 46 ([(li a_node)] ++ ([(li a_kind)] ++ ([(li a_start)] ++ ([(li a_count)] ++ ([(li a_least)] ++ ((cM 5 3 (5 : Int) (List.replicate 5 ([] : List Int))) ++ []))))))]) (AAct_storeA (k := 1) (o := 0) (cs := ([(li 0)] ++ ([(li 0)] ++ ([(li 0)] ++ ([(li 0)] ++ ([(li 0)] ++ ((cA 5 (eS cI) ([] : List Int) (List.replicate 5 ([] : List Int))) ++ []))))))) (la := ([(li a_node)] ++ ([(li a_kind)] ++ ([(li a_start)] ++ ([(li a_count)] ++ ([(li a_least)] ++ ((cM 5 3 (5 : Int) (List.replicate 5 ([] : List Int))) ++ []))))))) Try.sizeOf46 rfl rfl rfl rfl) <| ALW_nil <| AW_seq <| AW_seq ?_
 refine AW_region <| ALW_val (AVal_loadW (k := 1) (o := 0) (m := 10) (la := ([(li a_node)] ++ ([(li a_kind)] ++ ([(li a_start)] ++ ([(li a_count)] ++ ([(li a_least)] ++ ([AV.any, AV.any, AV.any, AV.any, AV.any] ++ []))))))) Try.isAgg46 Try.sizeOf46 rfl rfl rfl rfl) ?_
 refine bnd_elim h ?_; clear h; intro x1 hx1 h
 refine ALW_callE (r' := (AV.lit (.bool x1))) (la := [(AV.agg ([(li a_node)] ++ ([(li a_kind)] ++ ([(li a_start)] ++ ([(li a_count)] ++ ([(li a_least)] ++ ([AV.any, AV.any, AV.any, AV.any, AV.any] ++ [])))))))]) (la' := [(AV.agg ([(li ((⟨a_node, a_kind, a_start, a_count, a_least, (List.replicate 5 ([] : List Int))⟩ : Zone).node))] ++ ([(li ((⟨a_node, a_kind, a_start, a_count, a_least, (List.replicate 5 ([] : List Int))⟩ : Zone).kind))] ++ ([(li ((⟨a_node, a_kind, a_start, a_count, a_least, (List.replicate 5 ([] : List Int))⟩ : Zone).start))] ++ ([(li ((⟨a_node, a_kind, a_start, a_count, a_least, (List.replicate 5 ([] : List Int))⟩ : Zone).count))] ++ ([(li ((⟨a_node, a_kind, a_start, a_count, a_least, (List.replicate 5 ([] : List Int))⟩ : Zone).min))] ++ ([AV.any, AV.any, AV.any, AV.any, AV.any] ++ [])))))))]) (r := (AV.lit (.bool x1))) (S := []) Try.func51 rfl (by kernel_rfl) (.fn 51) rfl ⟨View.nr rfl, trivial⟩ (buddy_ranges_ok hx1) (.inl rfl) rfl <| ALW_val (AVal_not (t := x1) rfl) <| ALW_nil ?_
 refine AW_cond (!x1) rfl (fun hb1 => ?_) (fun hb1 => ?_)
 ·replace h := cnd_t hb1 h
  refine AW_seq <| AW_region <| ALW_val (AVal_build (pl := [(0, 1), (1, 1), (2, 1), (3, 1), (4, 1), (5, 5)]) (zs := [.int .i64 0, .int .i64 0, .int .i64 0, .int .i64 0, .int .i64 0, .slice none 0 0, .slice none 0 0, .slice none 0 0, .slice none 0 0, .slice none 0 0]) (zc := [.lit (.int .i64 0), .lit (.int .i64 0), .lit (.int .i64 0), .lit (.int .i64 0), .lit (.int .i64 0), .osl 3 1 [], .osl 3 1 [], .osl 3 1 [], .osl 3 1 [], .osl 3 1 []]) (res := ([(li 0)] ++ ([(li 0)] ++ ([(li 0)] ++ ([(li 0)] ++ ([(li 0)] ++ ((cM 5 3 (5 : Int) (List.replicate 5 ([] : List Int))) ++ []))))))) (fun _ => by kernel_rfl) rfl (⟨SubF.refl _, ⟨SubF.refl _, ⟨SubF.refl _, ⟨SubF.refl _, ⟨SubF.refl _, ⟨SubF.nilo, ⟨SubF.nilo, ⟨SubF.nilo, ⟨SubF.nilo, ⟨SubF.nilo, trivial⟩⟩⟩⟩⟩⟩⟩⟩⟩⟩) (by exact SubL.refl _)) <| ALW_act (H' := [.box 46 ([(li 0)] ++ ([(li 0)] ++ ([(li 0)] ++ ([(li 0)] ++ ([(li 0)] ++ ((cM 5 3 (5 : Int) (List.replicate 5 ([] : List Int))) ++ [])))))), .box 46 ([(li a_node)] ++ ([(li a_kind)] ++ ([(li a_start)] ++ ([(li a_count)] ++ ([(li a_least)] ++ ((cM 5 3 (5 : Int) (List.replicate 5 ([] : List Int))) ++ []))))))]) (AAct_storeA (k := 0) (o := 0) (cs := ([(li 0)] ++ ([(li 0)] ++ ([(li 0)] ++ ([(li 0)] ++ ([(li 0)] ++ ((cA 5 (eS cI) ([] : List Int) (List.replicate 5 ([] : List Int))) ++ []))))))) (la := ([(li 0)] ++ ([(li 0)] ++ ([(li 0)] ++ ([(li 0)] ++ ([(li 0)] ++ ((cM 5 3 (5 : Int) (List.replicate 5 ([] : List Int))) ++ []))))))) Try.sizeOf46 rfl rfl rfl rfl) <| ALW_val (AVal_assign rfl) <| ALW_nil ?_
  refine AW_rep (Rep_frzM0 (k := 0) (cs := ([(li 0)] ++ ([(li 0)] ++ ([(li 0)] ++ ([(li 0)] ++ ([(li 0)] ++ ((cM 5 3 (5 : Int) (List.replicate 5 ([] : List Int))) ++ []))))))) (hd := ([(li 0)] ++ [(li 0)] ++ [(li 0)] ++ [(li 0)] ++ [(li 0)] ++ [])) (tl := ([])) (N := 5) (T := 3) (K := 5) (l := (List.replicate 5 ([] : List Int))) rfl rfl) <| AW_ret ?_
  show RetP _ _ _ _ _ _
  obtain rfl := Option.some.inj h
  exact RetP_2 (R1_A Try.isAgg46 Try.sizeOf46 rfl rfl rfl rfl) (R1_E rfl rfl) rfl
 ·replace h := cnd_f hb1 h
  refine AW_skip ?_
  refine AW_seqJ (fun e' H' => ∃ (d1 : Int) (d2 : Int) (d3 : Int) (d4 : Int) (d5 : Int) (l1 : List (List Int)), Rep 35 0 e' H' (mkE [(10, (AV.ptr 0 0)), (12, (AV.ptr 1 0))]) [.box 46 ([(li 0)] ++ ([(li 0)] ++ ([(li 0)] ++ ([(li 0)] ++ ([(li 0)] ++ ((cA 5 (eS cI) ([] : List Int) (List.replicate 5 ([] : List Int))) ++ [])))))), .box 46 ([(li d1)] ++ ([(li d2)] ++ ([(li d3)] ++ ([(li d4)] ++ ([(li d5)] ++ ((cM 5 3 (5 : Int) l1) ++ []))))))] ∧ buddy_New_j0 d1 d2 d3 d4 d5 l1 = some r) ?_ ?_
  ·
   refine AW_seq <| AW_region <| ALW_val (AVal_move rfl) <| ALW_val (AVal_assign rfl) <| ALW_nil <| AW_block ?_
   refine AW_loop (σ := Nat × Int × Int × Int × Int × Int × Int × (List (List Int))) (fun s => s.1) (fun s e' H' => match s with | (n0, i1, d6, d7, d8, d9, d10, l2) => Rep 35 0 e' H' (mkE [(2, (li a_start)), (3, (li a_count)), (10, (AV.ptr 0 0)), (12, (AV.ptr 1 0)), (13, (li i1))]) [.box 46 ([(li 0)] ++ ([(li 0)] ++ ([(li 0)] ++ ([(li 0)] ++ ([(li 0)] ++ ((cA 5 (eS cI) ([] : List Int) (List.replicate 5 ([] : List Int))) ++ [])))))), .box 46 ([(li d6)] ++ ([(li d7)] ++ ([(li d8)] ++ ([(li d9)] ++ ([(li d10)] ++ ((cM 5 3 (5 : Int) l2) ++ []))))))] ∧ buddy_New_l0 a_start a_count n0 i1 d6 d7 d8 d9 d10 l2 = some r) (FUEL, a_start, a_node, a_kind, a_start, a_count, a_least, (List.replicate 5 ([] : List Int))) ⟨RepP [0, 1] rfl rfl (by kernel_rfl), h⟩ ?_
   clear h
   rintro ⟨n0, i1, d6, d7, d8, d9, d10, l2⟩ e' H' ⟨hrep, h⟩
   cases n0 with
   | zero => exact absurd (show (none : Option _) = some r from h) (by simp)
   | succ n0 =>
    replace h : buddy_New_b0 a_start a_count (buddy_New_l0 a_start a_count n0) i1 d6 d7 d8 d9 d10 l2 = some r := h
    unfold buddy_New_b0 at h
    refine AW_rep hrep ?_
    clear hrep
    refine AW_seq <| AW_seq <| AW_region <| ALW_val (AVal_move rfl) <| ALW_val (AVal_move rfl) <| ALW_val (AVal_move rfl) ?_
    have hb2 := (chk_some h).1
    replace h := (chk_some h).2
    refine ALW_val (AVal_add rfl rfl hb2) <| ALW_val (AVal_lss rfl rfl) <| ALW_nil ?_
    refine AW_cond (decide (i1 < (a_start + a_count))) rfl (fun hb3 => ?_) (fun hb3 => ?_)
    ·replace h := cnd_t hb3 h
     refine AW_skip <| AW_seq <| AW_block <| AW_region <| ALW_val (AVal_move rfl) ?_
     refine bnd_elim h ?_; clear h; intro x2 hx2 h
     refine ALW_callX (k := 1) (la := [(AV.ptr 1 0), (li i1), (li 0)]) (la' := [(AV.ptr 0 0), (li i1), (li 0)]) (r := (.tup [])) (S := []) (en' := .box 46 ([(li x2.node)] ++ ([(li x2.kind)] ++ ([(li x2.start)] ++ ([(li x2.count)] ++ ([(li x2.min)] ++ ((cM 5 3 (5 : Int) x2.free) ++ []))))))) Try.func52 rfl (by kernel_rfl) (.fn 52) rfl ⟨ViewK.ptr, ViewK.of (View.nr rfl), ViewK.of (View.nr rfl), trivial⟩ rfl rfl (by kernel_rfl) (by kernel_rfl) (buddy_put_ok hx2) rfl (.inl rfl) <| ALW_nil <| AW_region <| ALW_val (AVal_move rfl) ?_
     have hb4 := (chk_some h).1
     replace h := (chk_some h).2
     refine ALW_val (AVal_add rfl rfl hb4) <| ALW_val (AVal_assign rfl) <| ALW_nil ?_
     exact ⟨(n0, (i1 + 1), x2.node, x2.kind, x2.start, x2.count, x2.min, x2.free), Nat.lt_succ_self _, RepP [0, 1] rfl rfl (by kernel_rfl), h⟩
    ·replace h := cnd_f hb3 h
     refine AW_exit ?_
     exact ⟨d6, d7, d8, d9, d10, l2, RepP [0, 1] rfl rfl (by kernel_rfl), h⟩
  ·
   clear h
   rintro e' H' ⟨d1, d2, d3, d4, d5, l1, hrep, h⟩
   refine AW_rep hrep ?_
   clear hrep
   unfold buddy_New_j0 at h
   refine AW_seq <| AW_region <| ALW_rep (Rep_frzM0 (k := 1) (cs := ([(li d1)] ++ ([(li d2)] ++ ([(li d3)] ++ ([(li d4)] ++ ([(li d5)] ++ ((cM 5 3 (5 : Int) l1) ++ []))))))) (hd := ([(li d1)] ++ [(li d2)] ++ [(li d3)] ++ [(li d4)] ++ [(li d5)] ++ [])) (tl := ([])) (N := 5) (T := 3) (K := 5) (l := l1) rfl rfl) <| ALW_val (AVal_loadA (k := 1) (o := 0) (m := 10) Try.isAgg46 Try.sizeOf46 rfl rfl rfl rfl rfl) <| ALW_act (H' := [.box 46 (cZone (⟨d1, d2, d3, d4, d5, l1⟩ : Zone)), .box 46 ([(li d1)] ++ ([(li d2)] ++ ([(li d3)] ++ ([(li d4)] ++ ([(li d5)] ++ ((cA 5 (eS cI) ([] : List Int) l1) ++ []))))))]) (AAct_storeA (k := 0) (o := 0) (cs := ([(li 0)] ++ ([(li 0)] ++ ([(li 0)] ++ ([(li 0)] ++ ([(li 0)] ++ ((cA 5 (eS cI) ([] : List Int) (List.replicate 5 ([] : List Int))) ++ []))))))) (la := (cZone (⟨d1, d2, d3, d4, d5, l1⟩ : Zone))) Try.sizeOf46 rfl rfl rfl rfl) <| ALW_val (AVal_assign rfl) ?_
   refine ALW_nil <| AW_ret ?_
   show RetP _ _ _ _ _ _
   obtain rfl := Option.some.inj h
   exact RetP_2 (R1_A Try.isAgg46 Try.sizeOf46 rfl rfl rfl rfl) (R1_E rfl rfl) rfl
theorem percpu_New_ok {a_zones : Int} {r : CpuCache × Int} (h : percpu_New a_zones = some r) : PFn Try.prog 27 [(li a_zones)] (AV.tup [(AV.agg (cCpuCache r.1)), (li r.2)]) := by
 refine PFn_enter Try.func27 rfl Try.ntmps27 Try.results27 rfl ?_
 unfold percpu_New at h
 refine AW_seq <| AW_region <| ALW_step (H' := [.box 50 ([(ls (cS cI) ([] : List (List Int)))] ++ [])]) (AStep_alloc (t := 50) (vs := [.slice none 0 0]) (cs := [.sl false []]) Try.zeroValue50 (by kernel_rfl) rfl ⟨SubF.nils, trivial⟩) <| ALW_val (AVal_assign rfl) <| ALW_nil <| AW_seq ?_
 refine AW_seq <| AW_region <| ALW_val (AVal_move rfl) <| ALW_val (AVal_lss rfl rfl) <| ALW_val (AVal_move rfl) <| ALW_g0 rfl rfl (fun hc1 => AVal.step (AVal_move rfl)) ?_
 refine ALW_g0 rfl rfl (fun hc2 => AVal.step (AVal_gtr (gd_t rfl hc2) rfl)) <| ALW_val (AVal_pick_or rfl rfl) <| ALW_nil ?_
 refine AW_cond ((decide (a_zones < 1)) || (decide (6 < a_zones))) rfl (fun hb1 => ?_) (fun hb1 => ?_)
 ·replace h := cnd_t hb1 h
  refine AW_seq <| AW_region <| ALW_val (AVal_build (pl := [(0, 1)]) (zs := [.slice none 0 0]) (zc := [.sl false []]) (res := (cCpuCache (⟨([] : List (List Int))⟩ : CpuCache))) (fun _ => by kernel_rfl) rfl (⟨SubF.nils, trivial⟩) (by exact SubL.refl _)) <| ALW_act (H' := [.box 50 (cCpuCache (⟨([] : List (List Int))⟩ : CpuCache))]) (AAct_storeA (k := 0) (o := 0) (cs := ([(ls (cS cI) ([] : List (List Int)))] ++ [])) (la := (cCpuCache (⟨([] : List (List Int))⟩ : CpuCache))) Try.sizeOf50 rfl rfl rfl rfl) <| ALW_val (AVal_assign rfl) <| ALW_nil ?_
  refine AW_ret ?_
  show RetP _ _ _ _ _ _
  obtain rfl := Option.some.inj h
  exact RetP_2 (R1_A Try.isAgg50 Try.sizeOf50 rfl rfl rfl rfl) (R1_E rfl rfl) rfl
 ·replace h := cnd_f hb1 h
  refine AW_skip <| AW_seq <| AW_region <| ALW_val (AVal_move rfl) ?_
  have hb2 := (chk_some h).1
  replace h := (chk_some h).2
  refine ALW_makeM (f := (cS cI)) (a := a_zones) (c := a_zones) (d0 := ([] : List Int)) elem22 ⟨SubF.nils, trivial⟩ rfl Try.underlying48 rfl rfl hb2 <| ALW_val (AVal_build (pl := [(0, 1)]) (zs := [.slice none 0 0]) (zc := [.sl false []]) (res := ([AV.hd 1] ++ [])) (fun _ => by kernel_rfl) rfl (⟨SubF.nils, trivial⟩) ⟨(AV.hd 1), 0, 1, rfl, rfl, rfl, rfl, rfl, (by exact SubL.refl _)⟩) <| ALW_act (H' := [.box 50 ([AV.hd 1] ++ []), .vec 22 1 (List.map (cS cI) (List.replicate a_zones.toNat ([] : List Int)))]) (AAct_storeA (k := 0) (o := 0) (cs := ([(ls (cS cI) ([] : List (List Int)))] ++ [])) (la := ([AV.hd 1] ++ [])) Try.sizeOf50 rfl rfl rfl rfl) <| ALW_val (AVal_assign rfl) <| ALW_nil <| AW_rep (Rep_close (k := 0) (j := 1) (o := 0) rfl rfl rfl rfl) ?_
  refine AW_rep (Rep_frzC (k := 0) (o := 0) (rows' := List.map (cS cI) (List.replicate a_zones.toNat ([] : List Int))) rfl rfl (frzR_map (fun _ => rfl))) <| AW_ret ?_
  show RetP _ _ _ _ _ _
  obtain rfl := Option.some.inj h
  exact RetP_2 (R1_A Try.isAgg50 Try.sizeOf50 rfl rfl rfl rfl) (R1_E rfl rfl) rfl
theorem allocator_New_ok {a_p0 : List Int} {a_p1 : Int} {a_p2 : Int} {a_p3 : List ZoneSpec} {r : Allocator × Int} (h : allocator_New a_p0 a_p1 a_p2 a_p3 = some r) : PFn Try.prog 9 [(ls cI a_p0), (li a_p1), (li a_p2), (ls cZoneSpec a_p3)] (AV.tup [(AV.agg (cAllocator r.1)), (li r.2)]) := by
 refine PFn_enter Try.func9 rfl Try.ntmps9 Try.results9 rfl ?_
 unfold allocator_New at h
 refine AW_seq <| AW_region <| ALW_step (H' := [.box 29 ([(ls cI ([] : List Int))] ++ ([(li 0)] ++ ([(li 0)] ++ ([(ls cZone ([] : List Zone))] ++ ([(ls cCpuCache ([] : List CpuCache))] ++ [])))))]) (AStep_alloc (t := 29) (vs := [.slice none 0 0, .int .i64 0, .int .i64 0, .slice none 0 0, .slice none 0 0]) (cs := [.sl false [], .lit (.int .i64 0), .lit (.int .i64 0), .sl false [], .sl false []]) Try.zeroValue29 (by kernel_rfl) rfl ⟨SubF.nils, SubF.refl _, SubF.refl _, SubF.nils, SubF.nils, trivial⟩) <| ALW_val (AVal_assign rfl) <| ALW_nil ?_
 refine AW_seqJ (fun e' H' => ∃ (d1 : List Int), Rep 82 0 e' H' (mkE [(0, (ls cI a_p0)), (3, (ls cZoneSpec a_p3)), (8, (AV.ptr 0 0)), (10, (AV.ptr 1 0))]) [.box 29 ([(ls cI ([] : List Int))] ++ ([(li 0)] ++ ([(li 0)] ++ ([(ls cZone ([] : List Zone))] ++ ([(ls cCpuCache ([] : List CpuCache))] ++ []))))), .box 29 ([(ls cI d1)] ++ ([(li a_p1)] ++ ([(li a_p2)] ++ ([AV.osl 46 10 (List.map cZone (List.replicate (a_p3.length : Int).toNat (zZone)))] ++ ([AV.osl 50 1 (List.map cCpuCache ([] : List CpuCache))] ++ [])))))] ∧ allocator_New_j0 a_p0 a_p1 a_p2 a_p3 d1 = some r) ?_ ?_
 ·
  refine bnd_elim h ?_; clear h; intro x4 hx4 h
  have hb11 := (chk_some h).1
  replace h := (chk_some h).2
  show AW _ _ _ _ _ _ [.box 29 ([(ls cI ([] : List Int))] ++ ([(li 0)] ++ ([(li 0)] ++ ([(ls cZone ([] : List Zone))] ++ ([(ls cCpuCache ([] : List CpuCache))] ++ [])))))]
  refine AW_draw2 (n := 82) (m := 0) 6 8 [9] [6, 7, 8] [.head 0 2, .head 0 2, .head 0 2, .head 0 2, .head 0 0, .head 0 0, .tail 0, .head 1 2, .tail 1, .tail 2] [.head 0 2, .head 0 2, .head 0 2, .head 0 2, .head 0 1, .head 0 1, .tail 1, .head 2 2, .tail 0, .tail 2] [(ls cI a_p0), (ls cI x4), (li a_p1), (li a_p2), (ls cZoneSpec a_p3), (li (a_p3.length : Int)), (AV.hd 1), (AV.agg ([(ls cI x4)] ++ ([(li a_p1)] ++ ([(li a_p2)] ++ ([AV.hd 1] ++ ([AV.osl 50 1 (List.map cCpuCache ([] : List CpuCache))] ++ [])))))), (AV.ptr 2 0), .any] [(ls cI a_p0), (ls cI x4), (li a_p1), (li a_p2), (ls cZoneSpec a_p3), (li (a_p3.length : Int)), (AV.hd 2), (AV.agg ([(ls cI x4)] ++ ([(li a_p1)] ++ ([(li a_p2)] ++ ([AV.hd 2] ++ ([AV.osl 50 1 (List.map cCpuCache ([] : List CpuCache))] ++ [])))))), (AV.ptr 1 0), .any] [[.box 29 ([(ls cI ([] : List Int))] ++ ([(li 0)] ++ ([(li 0)] ++ ([(ls cZone ([] : List Zone))] ++ ([(ls cCpuCache ([] : List CpuCache))] ++ [])))))], [.box 29 ([(ls cI ([] : List Int))] ++ ([(li 0)] ++ ([(li 0)] ++ ([(ls cZone ([] : List Zone))] ++ ([(ls cCpuCache ([] : List CpuCache))] ++ []))))), .vec 46 10 (List.map cZone (List.replicate (a_p3.length : Int).toNat (zZone)))], [.box 29 ([(ls cI ([] : List Int))] ++ ([(li 0)] ++ ([(li 0)] ++ ([(ls cZone ([] : List Zone))] ++ ([(ls cCpuCache ([] : List CpuCache))] ++ []))))), .vec 46 10 (List.map cZone (List.replicate (a_p3.length : Int).toNat (zZone))), .box 29 ([(ls cI ([] : List Int))] ++ ([(li 0)] ++ ([(li 0)] ++ ([(ls cZone ([] : List Zone))] ++ ([(ls cCpuCache ([] : List CpuCache))] ++ [])))))], [.box 29 ([(ls cI ([] : List Int))] ++ ([(li 0)] ++ ([(li 0)] ++ ([(ls cZone ([] : List Zone))] ++ ([(ls cCpuCache ([] : List CpuCache))] ++ []))))), .vec 46 10 (List.map cZone (List.replicate (a_p3.length : Int).toNat (zZone))), .box 29 ([(ls cI x4)] ++ ([(li a_p1)] ++ ([(li a_p2)] ++ ([AV.hd 1] ++ ([AV.osl 50 1 (List.map cCpuCache ([] : List CpuCache))] ++ [])))))]] [[.box 29 ([(ls cI ([] : List Int))] ++ ([(li 0)] ++ ([(li 0)] ++ ([(ls cZone ([] : List Zone))] ++ ([(ls cCpuCache ([] : List CpuCache))] ++ [])))))], [.box 29 ([(ls cI ([] : List Int))] ++ ([(li 0)] ++ ([(li 0)] ++ ([(ls cZone ([] : List Zone))] ++ ([(ls cCpuCache ([] : List CpuCache))] ++ []))))), .box 29 ([(ls cI ([] : List Int))] ++ ([(li 0)] ++ ([(li 0)] ++ ([(ls cZone ([] : List Zone))] ++ ([(ls cCpuCache ([] : List CpuCache))] ++ [])))))], [.box 29 ([(ls cI ([] : List Int))] ++ ([(li 0)] ++ ([(li 0)] ++ ([(ls cZone ([] : List Zone))] ++ ([(ls cCpuCache ([] : List CpuCache))] ++ []))))), .box 29 ([(ls cI ([] : List Int))] ++ ([(li 0)] ++ ([(li 0)] ++ ([(ls cZone ([] : List Zone))] ++ ([(ls cCpuCache ([] : List CpuCache))] ++ []))))), .vec 46 10 (List.map cZone (List.replicate (a_p3.length : Int).toNat (zZone)))], [.box 29 ([(ls cI ([] : List Int))] ++ ([(li 0)] ++ ([(li 0)] ++ ([(ls cZone ([] : List Zone))] ++ ([(ls cCpuCache ([] : List CpuCache))] ++ []))))), .box 29 ([(ls cI x4)] ++ ([(li a_p1)] ++ ([(li a_p2)] ++ ([AV.hd 2] ++ ([AV.osl 50 1 (List.map cCpuCache ([] : List CpuCache))] ++ []))))), .vec 46 10 (List.map cZone (List.replicate (a_p3.length : Int).toNat (zZone)))]] (by kernel_rfl) (by kernel_rfl) (by kernel_rfl) ⟨(.inr rfl), ⟨(.inr rfl), ⟨(.inr rfl), ⟨(.inr rfl), ⟨(.inr rfl), ⟨(.inr rfl), ⟨(.inl rfl), ⟨(.inl rfl), ⟨(.inl rfl), ⟨(.inr rfl), trivial⟩⟩⟩⟩⟩⟩⟩⟩⟩⟩ (by kernel_rfl) rfl rfl ⟨⟨?_, ?_, ?_⟩, ⟨?_, ?_, ?_⟩, ⟨?_, ?_, ?_⟩, ⟨?_, ?_, ?_⟩, ?_, ?_, ?_, ⟨?_, ?_⟩, ?_, ?_, trivial⟩ ⟨⟨?_, ?_, ?_⟩, ⟨?_, ?_, ?_⟩, ⟨?_, ?_, ?_⟩, ⟨?_, ?_, ?_⟩, ⟨?_, ?_⟩, ⟨?_, ?_⟩, ?_, ?_, ?_, ?_, trivial⟩ ?_ ?_
  ·exact fun e s p => ALW1 (AVal_move (av := (ls cI a_p0)) (s 0 rfl)) ⟨fun _ => rfl, rfl⟩
  ·exact fun e s p => ALW1 (AVal_move (av := (ls cI a_p0)) (s 0 rfl)) ⟨fun _ => rfl, rfl⟩
  ·exact fun e s p => ALW1 (AVal_move (av := (ls cI a_p0)) (s 0 rfl)) ⟨fun _ => rfl, rfl⟩
  ·
   intro e4 hs4 hp4
   refine ALW_callE (r' := (ls cI x4)) (la := [(ls cI a_p0)]) (la' := [(ls cI a_p0)]) (r := (AV.osl 3 1 (List.map cI x4))) (S := []) Try.func24 rfl (by kernel_rfl) (.fn 24) (lcons hp4.1 rfl) ⟨View.nr rfl, trivial⟩ (slices_Clone_Lint_int_ok hx4) (.inl rfl) (congrArg (AV.sl false) (frzR_map (fun _ => rfl))) ?_
   exact ALW_nil ⟨fun _ => rfl, rfl⟩
  ·
   intro e5 hs5 hp5
   refine ALW_callE (r' := (ls cI x4)) (la := [(ls cI a_p0)]) (la' := [(ls cI a_p0)]) (r := (AV.osl 3 1 (List.map cI x4))) (S := []) Try.func24 rfl (by kernel_rfl) (.fn 24) (lcons hp5.1 rfl) ⟨View.nr rfl, trivial⟩ (slices_Clone_Lint_int_ok hx4) (.inl rfl) (congrArg (AV.sl false) (frzR_map (fun _ => rfl))) ?_
   exact ALW_nil ⟨fun _ => rfl, rfl⟩
  ·
   intro e6 hs6 hp6
   refine ALW_callE (r' := (ls cI x4)) (la := [(ls cI a_p0)]) (la' := [(ls cI a_p0)]) (r := (AV.osl 3 1 (List.map cI x4))) (S := []) Try.func24 rfl (by kernel_rfl) (.fn 24) (lcons hp6.1 rfl) ⟨View.nr rfl, trivial⟩ (slices_Clone_Lint_int_ok hx4) (.inl rfl) (congrArg (AV.sl false) (frzR_map (fun _ => rfl))) ?_
   exact ALW_nil ⟨fun _ => rfl, rfl⟩
  ·exact fun e s p => ALW1 (AVal_move (av := (li a_p1)) (s 1 rfl)) ⟨fun _ => rfl, rfl⟩
  ·exact fun e s p => ALW1 (AVal_move (av := (li a_p1)) (s 1 rfl)) ⟨fun _ => rfl, rfl⟩
  ·exact fun e s p => ALW1 (AVal_move (av := (li a_p1)) (s 1 rfl)) ⟨fun _ => rfl, rfl⟩
  ·exact fun e s p => ALW1 (AVal_move (av := (li a_p2)) (s 2 rfl)) ⟨fun _ => rfl, rfl⟩
  ·exact fun e s p => ALW1 (AVal_move (av := (li a_p2)) (s 2 rfl)) ⟨fun _ => rfl, rfl⟩
  ·exact fun e s p => ALW1 (AVal_move (av := (li a_p2)) (s 2 rfl)) ⟨fun _ => rfl, rfl⟩
  ·exact fun e s p => ALW1 (AVal_move (av := (ls cZoneSpec a_p3)) (s 3 rfl)) ⟨fun _ => rfl, rfl⟩
  ·exact fun e s p => ALW1 (AVal_lenM (f := cZoneSpec) (l := a_p3) Try.underlying24 p.1) ⟨fun _ => rfl, rfl⟩
  ·
   intro e15 hs15 hp15
   refine ALW_makeM (f := cZone) (a := (a_p3.length : Int)) (c := (a_p3.length : Int)) (d0 := (zZone)) elem46 ⟨SubF.refl _, ⟨SubF.refl _, ⟨SubF.refl _, ⟨SubF.refl _, ⟨SubF.refl _, ⟨SubF.nils, ⟨SubF.nils, ⟨SubF.nils, ⟨SubF.nils, ⟨SubF.nils, trivial⟩⟩⟩⟩⟩⟩⟩⟩⟩⟩ rfl Try.underlying26 hp15.2.1 hp15.2.1 hb11 ?_
   exact ALW_nil ⟨fun _ => rfl, rfl⟩
  ·exact fun e s p => ALW1 (AVal_build (pl := [(0, 1), (1, 1), (2, 1), (3, 1), (4, 1)]) (zs := [.slice none 0 0, .int .i64 0, .int .i64 0, .slice none 0 0, .slice none 0 0]) (zc := [.osl 3 1 [], .lit (.int .i64 0), .lit (.int .i64 0), .osl 46 10 [], .osl 50 1 []]) (res := ([(ls cI x4)] ++ ([(li a_p1)] ++ ([(li a_p2)] ++ ([AV.hd 1] ++ ([AV.osl 50 1 (List.map cCpuCache ([] : List CpuCache))] ++ [])))))) (fun _ => by kernel_rfl) rfl (⟨SubF.nilo, ⟨SubF.refl _, ⟨SubF.refl _, ⟨SubF.nilo, ⟨SubF.nilo, trivial⟩⟩⟩⟩⟩) ⟨(ls cI x4), 0, 1, rfl, p.1, rfl, rfl, rfl, ⟨(li a_p1), 1, 1, rfl, p.2.1, rfl, rfl, rfl, ⟨(li a_p2), 2, 1, rfl, p.2.2.1, rfl, rfl, rfl, ⟨(AV.hd 1), 3, 1, rfl, p.2.2.2.1, rfl, rfl, rfl, (by exact SubL.refl _)⟩⟩⟩⟩) ⟨fun _ => rfl, rfl⟩
  ·exact fun e s p => ALW1 (AVal_build (pl := [(0, 1), (1, 1), (2, 1), (3, 1), (4, 1)]) (zs := [.slice none 0 0, .int .i64 0, .int .i64 0, .slice none 0 0, .slice none 0 0]) (zc := [.osl 3 1 [], .lit (.int .i64 0), .lit (.int .i64 0), .osl 46 10 [], .osl 50 1 []]) (res := ([(ls cI x4)] ++ ([(li a_p1)] ++ ([(li a_p2)] ++ ([AV.hd 1] ++ ([AV.osl 50 1 (List.map cCpuCache ([] : List CpuCache))] ++ [])))))) (fun _ => by kernel_rfl) rfl (⟨SubF.nilo, ⟨SubF.refl _, ⟨SubF.refl _, ⟨SubF.nilo, ⟨SubF.nilo, trivial⟩⟩⟩⟩⟩) ⟨(ls cI x4), 0, 1, rfl, p.1, rfl, rfl, rfl, ⟨(li a_p1), 1, 1, rfl, p.2.1, rfl, rfl, rfl, ⟨(li a_p2), 2, 1, rfl, p.2.2.1, rfl, rfl, rfl, ⟨(AV.hd 1), 3, 1, rfl, p.2.2.2.1, rfl, rfl, rfl, (by exact SubL.refl _)⟩⟩⟩⟩) ⟨fun _ => rfl, rfl⟩
  ·
   intro e18 hs18 hp18
   refine ALW_step (H' := [.box 29 ([(ls cI ([] : List Int))] ++ ([(li 0)] ++ ([(li 0)] ++ ([(ls cZone ([] : List Zone))] ++ ([(ls cCpuCache ([] : List CpuCache))] ++ []))))), .vec 46 10 (List.map cZone (List.replicate (a_p3.length : Int).toNat (zZone))), .box 29 ([(ls cI ([] : List Int))] ++ ([(li 0)] ++ ([(li 0)] ++ ([(ls cZone ([] : List Zone))] ++ ([(ls cCpuCache ([] : List CpuCache))] ++ [])))))]) (AStep_alloc (t := 29) (vs := [.slice none 0 0, .int .i64 0, .int .i64 0, .slice none 0 0, .slice none 0 0]) (cs := [.sl false [], .lit (.int .i64 0), .lit (.int .i64 0), .sl false [], .sl false []]) Try.zeroValue29 (by kernel_rfl) rfl ⟨SubF.nils, SubF.refl _, SubF.refl _, SubF.nils, SubF.nils, trivial⟩) ?_
   exact ALW_nil ⟨fun _ => rfl, rfl⟩
  ·
   intro e19 hs19 hp19
   refine ALW_act (H' := [.box 29 ([(ls cI ([] : List Int))] ++ ([(li 0)] ++ ([(li 0)] ++ ([(ls cZone ([] : List Zone))] ++ ([(ls cCpuCache ([] : List CpuCache))] ++ []))))), .vec 46 10 (List.map cZone (List.replicate (a_p3.length : Int).toNat (zZone))), .box 29 ([(ls cI x4)] ++ ([(li a_p1)] ++ ([(li a_p2)] ++ ([AV.hd 1] ++ ([AV.osl 50 1 (List.map cCpuCache ([] : List CpuCache))] ++ [])))))]) (AAct_storeA (k := 2) (o := 0) (cs := ([(ls cI ([] : List Int))] ++ ([(li 0)] ++ ([(li 0)] ++ ([(ls cZone ([] : List Zone))] ++ ([(ls cCpuCache ([] : List CpuCache))] ++ [])))))) (la := ([(ls cI x4)] ++ ([(li a_p1)] ++ ([(li a_p2)] ++ ([AV.hd 1] ++ ([AV.osl 50 1 (List.map cCpuCache ([] : List CpuCache))] ++ [])))))) Try.sizeOf29 (by exact hp19.2.2.2.2.2.2.2.2.2.2.2.1) rfl rfl (by exact hp19.2.2.2.2.2.2.2.2.2.2.1)) ?_
   exact ALW_nil ⟨fun _ => rfl, rfl⟩
  ·exact fun e s p => ALW1 (AVal_move (av := (ls cI a_p0)) (s 0 rfl)) ⟨fun _ => rfl, rfl⟩
  ·exact fun e s p => ALW1 (AVal_move (av := (ls cI a_p0)) (s 0 rfl)) ⟨fun _ => rfl, rfl⟩
  ·exact fun e s p => ALW1 (AVal_move (av := (ls cI a_p0)) (s 0 rfl)) ⟨fun _ => rfl, rfl⟩
  ·
   intro e23 hs23 hp23
   refine ALW_callE (r' := (ls cI x4)) (la := [(ls cI a_p0)]) (la' := [(ls cI a_p0)]) (r := (AV.osl 3 1 (List.map cI x4))) (S := []) Try.func24 rfl (by kernel_rfl) (.fn 24) (lcons hp23.1 rfl) ⟨View.nr rfl, trivial⟩ (slices_Clone_Lint_int_ok hx4) (.inl rfl) (congrArg (AV.sl false) (frzR_map (fun _ => rfl))) ?_
   exact ALW_nil ⟨fun _ => rfl, rfl⟩
  ·
   intro e24 hs24 hp24
   refine ALW_callE (r' := (ls cI x4)) (la := [(ls cI a_p0)]) (la' := [(ls cI a_p0)]) (r := (AV.osl 3 1 (List.map cI x4))) (S := []) Try.func24 rfl (by kernel_rfl) (.fn 24) (lcons hp24.1 rfl) ⟨View.nr rfl, trivial⟩ (slices_Clone_Lint_int_ok hx4) (.inl rfl) (congrArg (AV.sl false) (frzR_map (fun _ => rfl))) ?_
   exact ALW_nil ⟨fun _ => rfl, rfl⟩
  ·
   intro e25 hs25 hp25
   refine ALW_callE (r' := (ls cI x4)) (la := [(ls cI a_p0)]) (la' := [(ls cI a_p0)]) (r := (AV.osl 3 1 (List.map cI x4))) (S := []) Try.func24 rfl (by kernel_rfl) (.fn 24) (lcons hp25.1 rfl) ⟨View.nr rfl, trivial⟩ (slices_Clone_Lint_int_ok hx4) (.inl rfl) (congrArg (AV.sl false) (frzR_map (fun _ => rfl))) ?_
   exact ALW_nil ⟨fun _ => rfl, rfl⟩
  ·exact fun e s p => ALW1 (AVal_move (av := (li a_p1)) (s 1 rfl)) ⟨fun _ => rfl, rfl⟩
  ·exact fun e s p => ALW1 (AVal_move (av := (li a_p1)) (s 1 rfl)) ⟨fun _ => rfl, rfl⟩
  ·exact fun e s p => ALW1 (AVal_move (av := (li a_p1)) (s 1 rfl)) ⟨fun _ => rfl, rfl⟩
  ·exact fun e s p => ALW1 (AVal_move (av := (li a_p2)) (s 2 rfl)) ⟨fun _ => rfl, rfl⟩
  ·exact fun e s p => ALW1 (AVal_move (av := (li a_p2)) (s 2 rfl)) ⟨fun _ => rfl, rfl⟩
  ·exact fun e s p => ALW1 (AVal_move (av := (li a_p2)) (s 2 rfl)) ⟨fun _ => rfl, rfl⟩
  ·exact fun e s p => ALW1 (AVal_move (av := (ls cZoneSpec a_p3)) (s 3 rfl)) ⟨fun _ => rfl, rfl⟩
  ·exact fun e s p => ALW1 (AVal_move (av := (ls cZoneSpec a_p3)) (s 3 rfl)) ⟨fun _ => rfl, rfl⟩
  ·exact fun e s p => ALW1 (AVal_lenM (f := cZoneSpec) (l := a_p3) Try.underlying24 p.1) ⟨fun _ => rfl, rfl⟩
  ·exact fun e s p => ALW1 (AVal_lenM (f := cZoneSpec) (l := a_p3) Try.underlying24 p.1) ⟨fun _ => rfl, rfl⟩
  ·
   intro e36 hs36 hp36
   refine ALW_makeM (f := cZone) (a := (a_p3.length : Int)) (c := (a_p3.length : Int)) (d0 := (zZone)) elem46 ⟨SubF.refl _, ⟨SubF.refl _, ⟨SubF.refl _, ⟨SubF.refl _, ⟨SubF.refl _, ⟨SubF.nils, ⟨SubF.nils, ⟨SubF.nils, ⟨SubF.nils, ⟨SubF.nils, trivial⟩⟩⟩⟩⟩⟩⟩⟩⟩⟩ rfl Try.underlying26 hp36.2.1 hp36.2.1 hb11 ?_
   exact ALW_nil ⟨fun _ => rfl, rfl⟩
  ·exact fun e s p => ALW1 (AVal_build (pl := [(0, 1), (1, 1), (2, 1), (3, 1), (4, 1)]) (zs := [.slice none 0 0, .int .i64 0, .int .i64 0, .slice none 0 0, .slice none 0 0]) (zc := [.osl 3 1 [], .lit (.int .i64 0), .lit (.int .i64 0), .osl 46 10 [], .osl 50 1 []]) (res := ([(ls cI x4)] ++ ([(li a_p1)] ++ ([(li a_p2)] ++ ([AV.hd 2] ++ ([AV.osl 50 1 (List.map cCpuCache ([] : List CpuCache))] ++ [])))))) (fun _ => by kernel_rfl) rfl (⟨SubF.nilo, ⟨SubF.refl _, ⟨SubF.refl _, ⟨SubF.nilo, ⟨SubF.nilo, trivial⟩⟩⟩⟩⟩) ⟨(ls cI x4), 0, 1, rfl, p.1, rfl, rfl, rfl, ⟨(li a_p1), 1, 1, rfl, p.2.1, rfl, rfl, rfl, ⟨(li a_p2), 2, 1, rfl, p.2.2.1, rfl, rfl, rfl, ⟨(AV.hd 2), 3, 1, rfl, p.2.2.2.1, rfl, rfl, rfl, (by exact SubL.refl _)⟩⟩⟩⟩) ⟨fun _ => rfl, rfl⟩
  ·
   intro e38 hs38 hp38
   refine ALW_step (H' := [.box 29 ([(ls cI ([] : List Int))] ++ ([(li 0)] ++ ([(li 0)] ++ ([(ls cZone ([] : List Zone))] ++ ([(ls cCpuCache ([] : List CpuCache))] ++ []))))), .box 29 ([(ls cI ([] : List Int))] ++ ([(li 0)] ++ ([(li 0)] ++ ([(ls cZone ([] : List Zone))] ++ ([(ls cCpuCache ([] : List CpuCache))] ++ [])))))]) (AStep_alloc (t := 29) (vs := [.slice none 0 0, .int .i64 0, .int .i64 0, .slice none 0 0, .slice none 0 0]) (cs := [.sl false [], .lit (.int .i64 0), .lit (.int .i64 0), .sl false [], .sl false []]) Try.zeroValue29 (by kernel_rfl) rfl ⟨SubF.nils, SubF.refl _, SubF.refl _, SubF.nils, SubF.nils, trivial⟩) ?_
   exact ALW_nil ⟨fun _ => rfl, rfl⟩
  ·
   intro e39 hs39 hp39
   refine ALW_act (H' := [.box 29 ([(ls cI ([] : List Int))] ++ ([(li 0)] ++ ([(li 0)] ++ ([(ls cZone ([] : List Zone))] ++ ([(ls cCpuCache ([] : List CpuCache))] ++ []))))), .box 29 ([(ls cI x4)] ++ ([(li a_p1)] ++ ([(li a_p2)] ++ ([AV.hd 2] ++ ([AV.osl 50 1 (List.map cCpuCache ([] : List CpuCache))] ++ []))))), .vec 46 10 (List.map cZone (List.replicate (a_p3.length : Int).toNat (zZone)))]) (AAct_storeA (k := 1) (o := 0) (cs := ([(ls cI ([] : List Int))] ++ ([(li 0)] ++ ([(li 0)] ++ ([(ls cZone ([] : List Zone))] ++ ([(ls cCpuCache ([] : List CpuCache))] ++ [])))))) (la := ([(ls cI x4)] ++ ([(li a_p1)] ++ ([(li a_p2)] ++ ([AV.hd 2] ++ ([AV.osl 50 1 (List.map cCpuCache ([] : List CpuCache))] ++ [])))))) Try.sizeOf29 (by exact hp39.2.2.2.2.2.2.2.2.2.2.2.1) rfl rfl (by exact hp39.2.2.2.2.2.2.2.2.2.2.1)) ?_
   exact ALW_nil ⟨fun _ => rfl, rfl⟩
  ·
   intro e40 hs40 hq1
   exact ⟨x4, Rep.trans (Rep_mk (l := [(0, (ls cI a_p0)), (3, (ls cZoneSpec a_p3)), (8, (AV.ptr 0 0)), (10, (AV.ptr 2 0))]) ⟨(hs40 0 rfl), (hs40 3 rfl), (hs40 8 rfl), (hq1 8 (by decide) (by decide)), trivial⟩) (Rep.trans (Rep_close (k := 2) (j := 1) (o := 3) (cs := ([(ls cI x4)] ++ ([(li a_p1)] ++ ([(li a_p2)] ++ ([AV.hd 1] ++ ([AV.osl 50 1 (List.map cCpuCache ([] : List CpuCache))] ++ [])))))) rfl rfl rfl rfl) (RepP [0, 2] (l := [(0, (ls cI a_p0)), (3, (ls cZoneSpec a_p3)), (8, (AV.ptr 0 0)), (10, (AV.ptr 1 0))]) rfl rfl (by kernel_rfl))), h⟩
  ·
   intro e41 hs41 hq2
   exact ⟨x4, Rep.trans (Rep_mk (l := [(0, (ls cI a_p0)), (3, (ls cZoneSpec a_p3)), (8, (AV.ptr 0 0)), (10, (AV.ptr 1 0))]) ⟨(hs41 0 rfl), (hs41 3 rfl), (hs41 8 rfl), (hq2 8 (by decide) (by decide)), trivial⟩) (Rep.trans (Rep_close (k := 1) (j := 2) (o := 3) (cs := ([(ls cI x4)] ++ ([(li a_p1)] ++ ([(li a_p2)] ++ ([AV.hd 2] ++ ([AV.osl 50 1 (List.map cCpuCache ([] : List CpuCache))] ++ [])))))) rfl rfl rfl rfl) (RepP [0, 1] (l := [(0, (ls cI a_p0)), (3, (ls cZoneSpec a_p3)), (8, (AV.ptr 0 0)), (10, (AV.ptr 1 0))]) rfl rfl (by kernel_rfl))), h⟩
 ·
  clear h
  rintro e' H' ⟨d1, hrep, h⟩
  refine AW_rep hrep ?_
  clear hrep
  unfold allocator_New_j0 at h
  refine AW_seq <| AW_seq <| AW_region <| ALW_rep (Rep_open (k := 1) (o := 3) (t' := 46) (sz := 10) (rows := List.map cZone (List.replicate (a_p3.length : Int).toNat (zZone))) rfl rfl) <| ALW_rep (Rep_open (k := 1) (o := 4) (t' := 50) (sz := 1) (rows := List.map cCpuCache ([] : List CpuCache)) rfl rfl) <| ALW_val (AVal_loadA (k := 1) (o := 0) (m := 5) Try.isAgg29 Try.sizeOf29 rfl rfl rfl rfl rfl) ?_
  refine bnd_elim h ?_; clear h; intro x1 hx1 h
  refine ALW_callE (r' := (AV.lit (.bool x1))) (la := [(AV.agg ([(ls cI d1)] ++ ([(li a_p1)] ++ ([(li a_p2)] ++ ([AV.hd 2] ++ ([AV.hd 3] ++ []))))))]) (la' := [(AV.agg ([(ls cI d1)] ++ ([(li a_p1)] ++ ([(li a_p2)] ++ ([(ls cZone (List.replicate (a_p3.length : Int).toNat (zZone)))] ++ ([(ls cCpuCache ([] : List CpuCache))] ++ []))))))]) (r := (AV.lit (.bool x1))) (S := [2, 3]) Try.func25 rfl (by kernel_rfl) (.fn 25) rfl ⟨View.agg (by exact ⟨View.nr rfl, ⟨View.nr rfl, ⟨View.nr rfl, ⟨View_hdM (fun _ => rfl) rfl rfl, ⟨View_hdM (fun _ => rfl) rfl rfl, trivial⟩⟩⟩⟩⟩), trivial⟩ (allocator_machine_ok hx1) (.inr trivial) rfl <| ALW_val (AVal_not (t := x1) rfl) <| ALW_nil ?_
  refine AW_cond (!x1) rfl (fun hb1 => ?_) (fun hb1 => ?_)
  ·replace h := cnd_t hb1 h
   refine AW_seq <| AW_region <| ALW_val (AVal_build (pl := [(0, 1), (1, 1), (2, 1), (3, 1), (4, 1)]) (zs := [.slice none 0 0, .int .i64 0, .int .i64 0, .slice none 0 0, .slice none 0 0]) (zc := [.osl 3 1 [], .lit (.int .i64 0), .lit (.int .i64 0), .osl 46 10 [], .osl 50 1 []]) (res := ([AV.osl 3 1 (List.map cI ([] : List Int))] ++ ([(li 0)] ++ ([(li 0)] ++ ([AV.osl 46 10 (List.map cZone ([] : List Zone))] ++ ([AV.osl 50 1 (List.map cCpuCache ([] : List CpuCache))] ++ [])))))) (fun _ => by kernel_rfl) rfl (⟨SubF.nilo, ⟨SubF.refl _, ⟨SubF.refl _, ⟨SubF.nilo, ⟨SubF.nilo, trivial⟩⟩⟩⟩⟩) (by exact SubL.refl _)) <| ALW_act (H' := [.box 29 ([AV.osl 3 1 (List.map cI ([] : List Int))] ++ ([(li 0)] ++ ([(li 0)] ++ ([AV.osl 46 10 (List.map cZone ([] : List Zone))] ++ ([AV.osl 50 1 (List.map cCpuCache ([] : List CpuCache))] ++ []))))), .box 29 ([(ls cI d1)] ++ ([(li a_p1)] ++ ([(li a_p2)] ++ ([AV.hd 2] ++ ([AV.hd 3] ++ []))))), .vec 46 10 (List.map cZone (List.replicate (a_p3.length : Int).toNat (zZone))), .vec 50 1 (List.map cCpuCache ([] : List CpuCache))]) (AAct_storeA (k := 0) (o := 0) (cs := ([(ls cI ([] : List Int))] ++ ([(li 0)] ++ ([(li 0)] ++ ([(ls cZone ([] : List Zone))] ++ ([(ls cCpuCache ([] : List CpuCache))] ++ [])))))) (la := ([AV.osl 3 1 (List.map cI ([] : List Int))] ++ ([(li 0)] ++ ([(li 0)] ++ ([AV.osl 46 10 (List.map cZone ([] : List Zone))] ++ ([AV.osl 50 1 (List.map cCpuCache ([] : List CpuCache))] ++ [])))))) Try.sizeOf29 rfl rfl rfl rfl) <| ALW_val (AVal_assign rfl) <| ALW_nil ?_
   refine AW_rep (Rep_frzC (k := 0) (o := 0) (rows' := List.map cI ([] : List Int)) rfl rfl (frzR_map (fun _ => rfl))) <| AW_rep (Rep_frzC (k := 0) (o := 3) (rows' := List.map cZone ([] : List Zone)) rfl rfl (frzR_map (fun _ => rfl))) <| AW_rep (Rep_frzC (k := 0) (o := 4) (rows' := List.map cCpuCache ([] : List CpuCache)) rfl rfl (frzR_map (fun _ => rfl))) <| AW_ret ?_
   show RetP _ _ _ _ _ _
   obtain rfl := Option.some.inj h
   exact RetP_2 (R1_A Try.isAgg29 Try.sizeOf29 rfl rfl rfl rfl) (R1_E rfl rfl) rfl
  ·replace h := cnd_f hb1 h
   refine AW_skip <| AW_seq <| AW_region <| ALW_val (AVal_assign rfl) <| ALW_nil ?_
   refine AW_seqJ (fun e' H' => ∃ (l1 : List Zone), Rep 82 0 e' H' (mkE [(0, (ls cI a_p0)), (3, (ls cZoneSpec a_p3)), (8, (AV.ptr 0 0)), (10, (AV.ptr 1 0))]) [.box 29 ([(ls cI ([] : List Int))] ++ ([(li 0)] ++ ([(li 0)] ++ ([(ls cZone ([] : List Zone))] ++ ([(ls cCpuCache ([] : List CpuCache))] ++ []))))), .box 29 ([(ls cI d1)] ++ ([(li a_p1)] ++ ([(li a_p2)] ++ ([AV.osl 46 10 (List.map cZone l1)] ++ ([AV.osl 50 1 (List.map cCpuCache ([] : List CpuCache))] ++ [])))))] ∧ allocator_New_j1 a_p0 a_p1 a_p2 a_p3 d1 l1 = some r) ?_ ?_
   ·
    refine AW_seq <| AW_region <| ALW_val (AVal_move rfl) <| ALW_val (AVal_lenM Try.underlying24 rfl) <| ALW_val (AVal_move rfl) <| ALW_nil ?_
    refine AW_block <| AW_loop (σ := Nat × Int × Int × (List Zone)) (fun s => s.1) (fun s e' H' => match s with | (n1, i2, i3, l4) => Rep 82 0 e' H' (mkE [(0, (ls cI a_p0)), (3, (ls cZoneSpec a_p3)), (8, (AV.ptr 0 0)), (10, (AV.ptr 1 0)), (11, (li i2)), (30, (ls cZoneSpec a_p3)), (31, (li (a_p3.length : Int))), (32, (li i3))]) [.box 29 ([(ls cI ([] : List Int))] ++ ([(li 0)] ++ ([(li 0)] ++ ([(ls cZone ([] : List Zone))] ++ ([(ls cCpuCache ([] : List CpuCache))] ++ []))))), .box 29 ([(ls cI d1)] ++ ([(li a_p1)] ++ ([(li a_p2)] ++ ([AV.osl 46 10 (List.map cZone l4)] ++ ([AV.osl 50 1 (List.map cCpuCache ([] : List CpuCache))] ++ [])))))] ∧ allocator_New_l1 a_p0 a_p1 a_p2 a_p3 d1 n1 i2 i3 l4 = some r) (FUEL, 0, 0, (List.replicate (a_p3.length : Int).toNat (zZone))) ⟨Rep.trans (Rep_close (k := 1) (j := 2) (o := 3) rfl rfl rfl rfl) (Rep.trans (Rep_close (k := 1) (j := 3) (o := 4) rfl rfl rfl rfl) (RepP [0, 1] (l := [(0, (ls cI a_p0)), (3, (ls cZoneSpec a_p3)), (8, (AV.ptr 0 0)), (10, (AV.ptr 1 0)), (11, (li 0)), (30, (ls cZoneSpec a_p3)), (31, (li (a_p3.length : Int))), (32, (li 0))]) rfl rfl (by kernel_rfl))), h⟩ ?_
    clear h
    rintro ⟨n1, i2, i3, l4⟩ e' H' ⟨hrep, h⟩
    cases n1 with
    | zero => exact absurd (show (none : Option _) = some r from h) (by simp)
    | succ n1 =>
     replace h : allocator_New_b1 a_p0 a_p1 a_p2 a_p3 d1 (allocator_New_l1 a_p0 a_p1 a_p2 a_p3 d1 n1) i2 i3 l4 = some r := h
     unfold allocator_New_b1 at h
     refine AW_rep hrep ?_
     clear hrep
     refine AW_seq <| AW_region <| ALW_val (AVal_lss rfl rfl) <| ALW_nil <| AW_seq ?_
     refine AW_cond (decide (i3 < (a_p3.length : Int))) rfl (fun hb5 => ?_) (fun hb5 => ?_)
     ·replace h := cnd_t hb5 h
      refine AW_skip <| AW_seq <| AW_block <| AW_seq <| AW_region <| ALW_val (AVal_move rfl) ?_
      have hb6 := (chk_some h).1
      replace h := (chk_some h).2
      refine ALW_val (AVal_idxSM Try.underlying24 Try.sizeOf65 (fun _ => rfl) rfl rfl hb6) <| ALW_val (AVal_loadRA (row := (cZoneSpec (at_ a_p3 i3))) (o := 0) (m := 4) (la := (cZoneSpec (at_ a_p3 i3))) Try.isAgg65 Try.sizeOf65 rfl rfl rfl) <| ALW_step (H' := [.box 29 ([(ls cI ([] : List Int))] ++ ([(li 0)] ++ ([(li 0)] ++ ([(ls cZone ([] : List Zone))] ++ ([(ls cCpuCache ([] : List CpuCache))] ++ []))))), .box 29 ([(ls cI d1)] ++ ([(li a_p1)] ++ ([(li a_p2)] ++ ([AV.osl 46 10 (List.map cZone l4)] ++ ([AV.osl 50 1 (List.map cCpuCache ([] : List CpuCache))] ++ []))))), .box 65 ([(li 0)] ++ ([(li 0)] ++ ([(li 0)] ++ ([(li 0)] ++ []))))]) (AStep_alloc (t := 65) (vs := [.int .i64 0, .int .i64 0, .int .i64 0, .int .i64 0]) (cs := [.lit (.int .i64 0), .lit (.int .i64 0), .lit (.int .i64 0), .lit (.int .i64 0)]) Try.zeroValue65 (by kernel_rfl) rfl ⟨SubF.refl _, SubF.refl _, SubF.refl _, SubF.refl _, trivial⟩) <| ALW_val (AVal_assign rfl) <| ALW_act (H' := [.box 29 ([(ls cI ([] : List Int))] ++ ([(li 0)] ++ ([(li 0)] ++ ([(ls cZone ([] : List Zone))] ++ ([(ls cCpuCache ([] : List CpuCache))] ++ []))))), .box 29 ([(ls cI d1)] ++ ([(li a_p1)] ++ ([(li a_p2)] ++ ([AV.osl 46 10 (List.map cZone l4)] ++ ([AV.osl 50 1 (List.map cCpuCache ([] : List CpuCache))] ++ []))))), .box 65 (cZoneSpec (at_ a_p3 i3))]) (AAct_storeA (k := 2) (o := 0) (cs := ([(li 0)] ++ ([(li 0)] ++ ([(li 0)] ++ ([(li 0)] ++ []))))) (la := (cZoneSpec (at_ a_p3 i3))) Try.sizeOf65 rfl rfl rfl rfl) <| ALW_nil ?_
      refine AW_seq <| AW_region <| ALW_val (AVal_field Try.underlying65 rfl rfl Try.sizeOf3 rfl) <| ALW_val (AVal_load1 Try.isAgg3 rfl rfl rfl rfl) <| ALW_val (AVal_field Try.underlying65 rfl rfl Try.sizeOf3 rfl) <| ALW_val (AVal_load1 Try.isAgg3 rfl rfl rfl rfl) ?_
      refine ALW_val (AVal_move rfl) <| ALW_val (AVal_field Try.underlying65 rfl rfl Try.sizeOf3 rfl) <| ALW_val (AVal_load1 Try.isAgg3 rfl rfl rfl rfl) <| ALW_val (AVal_field Try.underlying65 rfl rfl Try.sizeOf3 rfl) <| ALW_val (AVal_load1 Try.isAgg3 rfl rfl rfl rfl) ?_
      refine bnd_elim h ?_; clear h; intro x3 hx3 h
      refine ALW_callN Try.func26 rfl (by kernel_rfl) (.fn 26) rfl rfl (buddy_New_ok hx3) rfl <| ALW_val (AVal_move rfl) <| ALW_val (AVal_extract rfl rfl) <| ALW_val (AVal_extract rfl rfl) <| ALW_step (H' := [.box 29 ([(ls cI ([] : List Int))] ++ ([(li 0)] ++ ([(li 0)] ++ ([(ls cZone ([] : List Zone))] ++ ([(ls cCpuCache ([] : List CpuCache))] ++ []))))), .box 29 ([(ls cI d1)] ++ ([(li a_p1)] ++ ([(li a_p2)] ++ ([AV.osl 46 10 (List.map cZone l4)] ++ ([AV.osl 50 1 (List.map cCpuCache ([] : List CpuCache))] ++ []))))), .box 65 (cZoneSpec (at_ a_p3 i3)), .box 46 ([(li 0)] ++ ([(li 0)] ++ ([(li 0)] ++ ([(li 0)] ++ ([(li 0)] ++ ((cA 5 (eS cI) ([] : List Int) (List.replicate 5 ([] : List Int))) ++ []))))))]) (AStep_alloc (t := 46) (vs := [.int .i64 0, .int .i64 0, .int .i64 0, .int .i64 0, .int .i64 0, .slice none 0 0, .slice none 0 0, .slice none 0 0, .slice none 0 0, .slice none 0 0]) (cs := [.lit (.int .i64 0), .lit (.int .i64 0), .lit (.int .i64 0), .lit (.int .i64 0), .lit (.int .i64 0), .sl false [], .sl false [], .sl false [], .sl false [], .sl false []]) Try.zeroValue46 (by kernel_rfl) rfl ⟨SubF.refl _, SubF.refl _, SubF.refl _, SubF.refl _, SubF.refl _, SubF.nils, SubF.nils, SubF.nils, SubF.nils, SubF.nils, trivial⟩) <| ALW_act (H' := [.box 29 ([(ls cI ([] : List Int))] ++ ([(li 0)] ++ ([(li 0)] ++ ([(ls cZone ([] : List Zone))] ++ ([(ls cCpuCache ([] : List CpuCache))] ++ []))))), .box 29 ([(ls cI d1)] ++ ([(li a_p1)] ++ ([(li a_p2)] ++ ([AV.osl 46 10 (List.map cZone l4)] ++ ([AV.osl 50 1 (List.map cCpuCache ([] : List CpuCache))] ++ []))))), .box 65 (cZoneSpec (at_ a_p3 i3)), .box 46 (cZone x3.1)]) (AAct_storeA (k := 3) (o := 0) (cs := ([(li 0)] ++ ([(li 0)] ++ ([(li 0)] ++ ([(li 0)] ++ ([(li 0)] ++ ((cA 5 (eS cI) ([] : List Int) (List.replicate 5 ([] : List Int))) ++ []))))))) (la := (cZone x3.1)) Try.sizeOf46 rfl rfl rfl rfl) ?_
      refine ALW_val (AVal_assign rfl) <| ALW_nil <| AW_seq <| AW_seq <| AW_region <| ALW_val (AVal_move rfl) ?_
      refine ALW_val (AVal_neq rfl rfl) <| ALW_nil ?_
      refine AW_cond (!decide (x3.2 = 0)) rfl (fun hb7 => ?_) (fun hb7 => ?_)
      ·replace h := cnd_t hb7 h
       refine AW_seq <| AW_region <| ALW_val (AVal_build (pl := [(0, 1), (1, 1), (2, 1), (3, 1), (4, 1)]) (zs := [.slice none 0 0, .int .i64 0, .int .i64 0, .slice none 0 0, .slice none 0 0]) (zc := [.osl 3 1 [], .lit (.int .i64 0), .lit (.int .i64 0), .osl 46 10 [], .osl 50 1 []]) (res := ([AV.osl 3 1 (List.map cI ([] : List Int))] ++ ([(li 0)] ++ ([(li 0)] ++ ([AV.osl 46 10 (List.map cZone ([] : List Zone))] ++ ([AV.osl 50 1 (List.map cCpuCache ([] : List CpuCache))] ++ [])))))) (fun _ => by kernel_rfl) rfl (⟨SubF.nilo, ⟨SubF.refl _, ⟨SubF.refl _, ⟨SubF.nilo, ⟨SubF.nilo, trivial⟩⟩⟩⟩⟩) (by exact SubL.refl _)) <| ALW_val (AVal_move rfl) <| ALW_act (H' := [.box 29 ([AV.osl 3 1 (List.map cI ([] : List Int))] ++ ([(li 0)] ++ ([(li 0)] ++ ([AV.osl 46 10 (List.map cZone ([] : List Zone))] ++ ([AV.osl 50 1 (List.map cCpuCache ([] : List CpuCache))] ++ []))))), .box 29 ([(ls cI d1)] ++ ([(li a_p1)] ++ ([(li a_p2)] ++ ([AV.osl 46 10 (List.map cZone l4)] ++ ([AV.osl 50 1 (List.map cCpuCache ([] : List CpuCache))] ++ []))))), .box 65 (cZoneSpec (at_ a_p3 i3)), .box 46 (cZone x3.1)]) (AAct_storeA (k := 0) (o := 0) (cs := ([(ls cI ([] : List Int))] ++ ([(li 0)] ++ ([(li 0)] ++ ([(ls cZone ([] : List Zone))] ++ ([(ls cCpuCache ([] : List CpuCache))] ++ [])))))) (la := ([AV.osl 3 1 (List.map cI ([] : List Int))] ++ ([(li 0)] ++ ([(li 0)] ++ ([AV.osl 46 10 (List.map cZone ([] : List Zone))] ++ ([AV.osl 50 1 (List.map cCpuCache ([] : List CpuCache))] ++ [])))))) Try.sizeOf29 rfl rfl rfl rfl) <| ALW_val (AVal_assign rfl) ?_
       refine ALW_nil <| AW_rep (Rep_frzC (k := 0) (o := 0) (rows' := List.map cI ([] : List Int)) rfl rfl (frzR_map (fun _ => rfl))) <| AW_rep (Rep_frzC (k := 0) (o := 3) (rows' := List.map cZone ([] : List Zone)) rfl rfl (frzR_map (fun _ => rfl))) <| AW_rep (Rep_frzC (k := 0) (o := 4) (rows' := List.map cCpuCache ([] : List CpuCache)) rfl rfl (frzR_map (fun _ => rfl))) <| AW_ret ?_
       show RetP _ _ _ _ _ _
       obtain rfl := Option.some.inj h
       exact RetP_2 (R1_A Try.isAgg29 Try.sizeOf29 rfl rfl rfl rfl) (R1_E rfl rfl) rfl
      ·replace h := cnd_f hb7 h
       refine AW_skip <| AW_seq <| AW_region <| ALW_val (AVal_field Try.underlying29 rfl rfl Try.sizeOf26 rfl) <| ALW_rep (Rep_open (k := 1) (o := 3) (t' := 46) (sz := 10) (rows := List.map cZone l4) rfl rfl) <| ALW_val (AVal_load1 Try.isAgg26 rfl rfl rfl rfl) ?_
       refine ALW_val (AVal_move rfl) <| ALW_val (AVal_loadA (k := 3) (o := 0) (m := 10) Try.isAgg46 Try.sizeOf46 rfl rfl rfl rfl rfl) ?_
       have hb8 := (chk_some h).1
       replace h := (chk_some h).2
       refine ALW_val (AVal_idxVM (f := cZone) (l := l4) (i := i3) Try.underlying26 Try.sizeOf46 rfl rfl rfl hb8) <| ALW_act (H' := [.box 29 ([(ls cI ([] : List Int))] ++ ([(li 0)] ++ ([(li 0)] ++ ([(ls cZone ([] : List Zone))] ++ ([(ls cCpuCache ([] : List CpuCache))] ++ []))))), .box 29 ([(ls cI d1)] ++ ([(li a_p1)] ++ ([(li a_p2)] ++ ([AV.hd 4] ++ ([AV.osl 50 1 (List.map cCpuCache ([] : List CpuCache))] ++ []))))), .box 65 (cZoneSpec (at_ a_p3 i3)), .box 46 (cZone x3.1), .vec 46 10 (List.map cZone (l4.set i3.toNat x3.1))]) (AAct_storeVAM (k := 4) (o := (i3.toNat * 10)) (f := cZone) (l := l4) (i := i3) (z := x3.1) Try.sizeOf46 (fun _ => rfl) rfl rfl (by first | rfl | omega) hb8 rfl rfl) <| ALW_nil <| AW_region <| ALW_val (AVal_move rfl) <| ALW_val (AVal_field Try.underlying65 rfl rfl Try.sizeOf3 rfl) ?_
       refine ALW_val (AVal_load1 Try.isAgg3 rfl rfl rfl rfl) ?_
       have hb9 := (chk_some h).1
       replace h := (chk_some h).2
       refine ALW_val (AVal_add rfl rfl hb9) <| ALW_val (AVal_assign rfl) <| ALW_nil <| AW_region ?_
       have hb10 := (chk_some h).1
       replace h := (chk_some h).2
       refine ALW_val (AVal_add rfl rfl hb10) <| ALW_val (AVal_move rfl) <| ALW_nil ?_
       exact ⟨(n1, (i2 + ((at_ a_p3 i3).count)), (i3 + 1), (l4.set i3.toNat x3.1)), Nat.lt_succ_self _, Rep.trans (Rep_close (k := 1) (j := 4) (o := 3) rfl rfl rfl rfl) (RepP [0, 1] (l := [(0, (ls cI a_p0)), (3, (ls cZoneSpec a_p3)), (8, (AV.ptr 0 0)), (10, (AV.ptr 1 0)), (11, (li (i2 + ((at_ a_p3 i3).count)))), (30, (ls cZoneSpec a_p3)), (31, (li (a_p3.length : Int))), (32, (li (i3 + 1)))]) rfl rfl (by kernel_rfl)), h⟩
     ·replace h := cnd_f hb5 h
      refine AW_exit ?_
      exact ⟨l4, RepP [0, 1] rfl rfl (by kernel_rfl), h⟩
   ·
    clear h
    rintro e' H' ⟨l1, hrep, h⟩
    refine AW_rep hrep ?_
    clear hrep
    unfold allocator_New_j1 at h
    refine AW_seqJ (fun e' H' => ∃ (l2 : List CpuCache), Rep 82 0 e' H' (mkE [(8, (AV.ptr 0 0)), (10, (AV.ptr 1 0))]) [.box 29 ([(ls cI ([] : List Int))] ++ ([(li 0)] ++ ([(li 0)] ++ ([(ls cZone ([] : List Zone))] ++ ([(ls cCpuCache ([] : List CpuCache))] ++ []))))), .box 29 ([(ls cI d1)] ++ ([(li a_p1)] ++ ([(li a_p2)] ++ ([AV.osl 46 10 (List.map cZone l1)] ++ ([AV.osl 50 1 (List.map cCpuCache l2)] ++ [])))))] ∧ allocator_New_j2 a_p1 a_p2 d1 l1 l2 = some r) ?_ ?_
    ·
     refine AW_seq <| AW_region <| ALW_val (AVal_move rfl) <| ALW_val (AVal_lenM Try.underlying22 rfl) <| ALW_val (AVal_move rfl) <| ALW_nil ?_
     refine AW_block <| AW_loop (σ := Nat × Int × (List CpuCache)) (fun s => s.1) (fun s e' H' => match s with | (n0, i1, l3) => Rep 82 0 e' H' (mkE [(3, (ls cZoneSpec a_p3)), (8, (AV.ptr 0 0)), (10, (AV.ptr 1 0)), (65, (li (a_p0.length : Int))), (66, (li i1))]) [.box 29 ([(ls cI ([] : List Int))] ++ ([(li 0)] ++ ([(li 0)] ++ ([(ls cZone ([] : List Zone))] ++ ([(ls cCpuCache ([] : List CpuCache))] ++ []))))), .box 29 ([(ls cI d1)] ++ ([(li a_p1)] ++ ([(li a_p2)] ++ ([AV.osl 46 10 (List.map cZone l1)] ++ ([AV.osl 50 1 (List.map cCpuCache l3)] ++ [])))))] ∧ allocator_New_l0 a_p0 a_p1 a_p2 a_p3 d1 l1 n0 i1 l3 = some r) (FUEL, 0, ([] : List CpuCache)) ⟨RepP [0, 1] rfl rfl (by kernel_rfl), h⟩ ?_
     clear h
     rintro ⟨n0, i1, l3⟩ e' H' ⟨hrep, h⟩
     cases n0 with
     | zero => exact absurd (show (none : Option _) = some r from h) (by simp)
     | succ n0 =>
      replace h : allocator_New_b0 a_p0 a_p1 a_p2 a_p3 d1 l1 (allocator_New_l0 a_p0 a_p1 a_p2 a_p3 d1 l1 n0) i1 l3 = some r := h
      unfold allocator_New_b0 at h
      refine AW_rep hrep ?_
      clear hrep
      refine AW_seq <| AW_region <| ALW_val (AVal_lss rfl rfl) <| ALW_nil <| AW_seq ?_
      refine AW_cond (decide (i1 < (a_p0.length : Int))) rfl (fun hb2 => ?_) (fun hb2 => ?_)
      ·replace h := cnd_t hb2 h
       refine AW_skip <| AW_seq <| AW_block <| AW_seq <| AW_region <| ALW_val (AVal_move rfl) ?_
       refine ALW_val (AVal_lenM Try.underlying24 rfl) ?_
       refine bnd_elim h ?_; clear h; intro x2 hx2 h
       refine ALW_callN Try.func27 rfl (by kernel_rfl) (.fn 27) rfl rfl (percpu_New_ok hx2) rfl <| ALW_val (AVal_move rfl) <| ALW_val (AVal_extract rfl rfl) <| ALW_val (AVal_extract rfl rfl) <| ALW_step (H' := [.box 29 ([(ls cI ([] : List Int))] ++ ([(li 0)] ++ ([(li 0)] ++ ([(ls cZone ([] : List Zone))] ++ ([(ls cCpuCache ([] : List CpuCache))] ++ []))))), .box 29 ([(ls cI d1)] ++ ([(li a_p1)] ++ ([(li a_p2)] ++ ([AV.osl 46 10 (List.map cZone l1)] ++ ([AV.osl 50 1 (List.map cCpuCache l3)] ++ []))))), .box 50 ([(ls (cS cI) ([] : List (List Int)))] ++ [])]) (AStep_alloc (t := 50) (vs := [.slice none 0 0]) (cs := [.sl false []]) Try.zeroValue50 (by kernel_rfl) rfl ⟨SubF.nils, trivial⟩) <| ALW_act (H' := [.box 29 ([(ls cI ([] : List Int))] ++ ([(li 0)] ++ ([(li 0)] ++ ([(ls cZone ([] : List Zone))] ++ ([(ls cCpuCache ([] : List CpuCache))] ++ []))))), .box 29 ([(ls cI d1)] ++ ([(li a_p1)] ++ ([(li a_p2)] ++ ([AV.osl 46 10 (List.map cZone l1)] ++ ([AV.osl 50 1 (List.map cCpuCache l3)] ++ []))))), .box 50 (cCpuCache x2.1)]) (AAct_storeA (k := 2) (o := 0) (cs := ([(ls (cS cI) ([] : List (List Int)))] ++ [])) (la := (cCpuCache x2.1)) Try.sizeOf50 rfl rfl rfl rfl) ?_
       refine ALW_val (AVal_assign rfl) <| ALW_nil <| AW_region <| ALW_val (AVal_field Try.underlying29 rfl rfl Try.sizeOf27 rfl) <| ALW_rep (Rep_open (k := 1) (o := 4) (t' := 50) (sz := 1) (rows := List.map cCpuCache l3) rfl rfl) <| ALW_val (AVal_load1 Try.isAgg27 rfl rfl rfl rfl) ?_
       refine ALW_val (AVal_loadA (k := 2) (o := 0) (m := 1) Try.isAgg50 Try.sizeOf50 rfl rfl rfl rfl rfl) <| ALW_lit1 (a := (AV.agg (cCpuCache x2.1))) elem50 Try.underlying27 rfl rfl rfl rfl ?_
       have hb3 := (chk_some h).1
       replace h := (chk_some h).2
       refine ALW_appendVM (f := cCpuCache) (k := 3) (j := 4) (l := l3) (l' := [x2.1]) elem50 (fun _ => rfl) Try.underlying27 rfl rfl rfl rfl hb3 <| ALW_val (AVal_field Try.underlying29 rfl rfl Try.sizeOf27 rfl) <| ALW_act (H' := [.box 29 ([(ls cI ([] : List Int))] ++ ([(li 0)] ++ ([(li 0)] ++ ([(ls cZone ([] : List Zone))] ++ ([(ls cCpuCache ([] : List CpuCache))] ++ []))))), .box 29 ([(ls cI d1)] ++ ([(li a_p1)] ++ ([(li a_p2)] ++ ([AV.osl 46 10 (List.map cZone l1)] ++ ([AV.hd 5] ++ []))))), .box 50 (cCpuCache x2.1), .dead, .vec 50 1 (List.map cCpuCache [x2.1]), .vec 50 1 (List.map cCpuCache (l3 ++ [x2.1]))]) (AAct_store1 (k := 1) (o := 4) (cs := ([(ls cI d1)] ++ ([(li a_p1)] ++ ([(li a_p2)] ++ ([AV.osl 46 10 (List.map cZone l1)] ++ ([AV.hd 3] ++ [])))))) (a := (AV.hd 5)) Try.sizeOf27 rfl rfl rfl rfl rfl) <| ALW_nil <| AW_region ?_
       have hb4 := (chk_some h).1
       replace h := (chk_some h).2
       refine ALW_val (AVal_add rfl rfl hb4) <| ALW_val (AVal_move rfl) <| ALW_nil ?_
       exact ⟨(n0, (i1 + 1), (l3 ++ [x2.1])), Nat.lt_succ_self _, Rep.trans (Rep_close (k := 1) (j := 5) (o := 4) rfl rfl rfl rfl) (RepP [0, 1] (l := [(3, (ls cZoneSpec a_p3)), (8, (AV.ptr 0 0)), (10, (AV.ptr 1 0)), (65, (li (a_p0.length : Int))), (66, (li (i1 + 1)))]) rfl rfl (by kernel_rfl)), h⟩
      ·replace h := cnd_f hb2 h
       refine AW_exit ?_
       exact ⟨l3, RepP [0, 1] rfl rfl (by kernel_rfl), h⟩
    ·
     clear h
     rintro e' H' ⟨l2, hrep, h⟩
     refine AW_rep hrep ?_
     clear hrep
     unfold allocator_New_j2 at h
     refine AW_seq <| AW_region <| ALW_rep (Rep_frzC (k := 1) (o := 3) (rows' := List.map cZone l1) rfl rfl (frzR_map (fun _ => rfl))) <| ALW_rep (Rep_frzC (k := 1) (o := 4) (rows' := List.map cCpuCache l2) rfl rfl (frzR_map (fun _ => rfl))) <| ALW_val (AVal_loadA (k := 1) (o := 0) (m := 5) Try.isAgg29 Try.sizeOf29 rfl rfl rfl rfl rfl) <| ALW_act (H' := [.box 29 (cAllocator (⟨d1, a_p1, a_p2, l1, l2⟩ : Allocator)), .box 29 ([(ls cI d1)] ++ ([(li a_p1)] ++ ([(li a_p2)] ++ ([(ls cZone l1)] ++ ([(ls cCpuCache l2)] ++ [])))))]) (AAct_storeA (k := 0) (o := 0) (cs := ([(ls cI ([] : List Int))] ++ ([(li 0)] ++ ([(li 0)] ++ ([(ls cZone ([] : List Zone))] ++ ([(ls cCpuCache ([] : List CpuCache))] ++ [])))))) (la := (cAllocator (⟨d1, a_p1, a_p2, l1, l2⟩ : Allocator))) Try.sizeOf29 rfl rfl rfl rfl) ?_
     refine ALW_val (AVal_assign rfl) <| ALW_nil <| AW_ret ?_
     show RetP _ _ _ _ _ _
     obtain rfl := Option.some.inj h
     exact RetP_2 (R1_A Try.isAgg29 Try.sizeOf29 rfl rfl rfl rfl) (R1_E rfl rfl) rfl
theorem buddy_Check_ok {a_p0 : Zone} {r : Int} (h : buddy_Check a_p0 = some r) : PFn Try.prog 36 [(AV.agg (cZone a_p0))] (li r) := by
 refine PFn_enter Try.func36 rfl Try.ntmps36 Try.results36 rfl ?_
 unfold buddy_Check at h
 refine AW_seq <| AW_region <| ALW_step (H' := [.box 46 (cZone a_p0)]) (AStep_boxA (t := 46) rfl) <| ALW_val (AVal_assign rfl) <| ALW_nil <| AW_seq ?_
 refine AW_seq <| AW_region <| ALW_val (AVal_loadA (k := 0) (o := 0) (m := 10) Try.isAgg46 Try.sizeOf46 rfl rfl rfl rfl rfl) ?_
 refine bnd_elim h ?_; clear h; intro x1 hx1 h
 refine ALW_callE (r' := (AV.lit (.bool x1))) (la := [(AV.agg (cZone a_p0))]) (la' := [(AV.agg ([(li a_p0.node)] ++ ([(li a_p0.kind)] ++ ([(li a_p0.start)] ++ ([(li a_p0.count)] ++ ([(li a_p0.min)] ++ ([AV.any, AV.any, AV.any, AV.any, AV.any] ++ [])))))))]) (r := (AV.lit (.bool x1))) (S := []) Try.func51 rfl (by kernel_rfl) (.fn 51) rfl ⟨View_hdr (hd := ([(li a_p0.node)] ++ [(li a_p0.kind)] ++ [(li a_p0.start)] ++ [(li a_p0.count)] ++ [(li a_p0.min)])) (tl := ((cA 5 (eS cI) ([] : List Int) a_p0.free))) rfl, trivial⟩ (buddy_ranges_ok hx1) (.inl rfl) rfl <| ALW_val (AVal_not (t := x1) rfl) <| ALW_nil ?_
 refine AW_cond (!x1) rfl (fun hb1 => ?_) (fun hb1 => ?_)
 ·replace h := cnd_t hb1 h
  refine AW_seq <| AW_region <| ALW_val (AVal_assign rfl) <| ALW_nil <| AW_ret ?_
  show RetP _ _ _ _ _ _
  obtain rfl := Option.some.inj h
  exact RetP_1 (R1_E rfl rfl)
 ·replace h := cnd_f hb1 h
  refine AW_skip ?_
  refine AW_seqJ (fun e' H' => Rep 118 0 e' H' (mkE [(1, (AV.ptr 0 0))]) [.box 46 (cZone a_p0)] ∧ buddy_Check_j0 a_p0 = some r) ?_ ?_
  ·
   refine AW_seq <| AW_region <| ALW_val (AVal_field Try.underlying46 rfl rfl Try.sizeOf44 rfl) <| ALW_val (AVal_loadA (k := 0) (o := 5) (m := 5) Try.isAgg44 Try.sizeOf44 rfl rfl rfl rfl rfl) <| ALW_val (AVal_move rfl) <| ALW_nil ?_
   refine AW_block <| AW_loop (σ := Nat × Int) (fun s => s.1) (fun s e' H' => match s with | (n5, i6) => Rep 118 0 e' H' (mkE [(1, (AV.ptr 0 0)), (23, (AV.agg (cA 5 (eS cI) ([] : List Int) a_p0.free))), (24, (li i6))]) [.box 46 (cZone a_p0)] ∧ buddy_Check_l5 a_p0 n5 i6 = some r) (FUEL, 0) ⟨RepP [0] rfl rfl (by kernel_rfl), h⟩ ?_
   clear h
   rintro ⟨n5, i6⟩ e' H' ⟨hrep, h⟩
   cases n5 with
   | zero => exact absurd (show (none : Option _) = some r from h) (by simp)
   | succ n5 =>
    replace h : buddy_Check_b5 a_p0 (buddy_Check_l5 a_p0 n5) i6 = some r := h
    unfold buddy_Check_b5 at h
    refine AW_rep hrep ?_
    clear hrep
    refine AW_seq <| AW_region <| ALW_val (AVal_lss rfl rfl) <| ALW_nil <| AW_seq ?_
    refine AW_cond (decide (i6 < 5)) rfl (fun hb26 => ?_) (fun hb26 => ?_)
    ·replace h := cnd_t hb26 h
     refine AW_skip ?_
     refine AW_seqJ (fun e' H' => Rep 118 0 e' H' (mkE [(1, (AV.ptr 0 0)), (23, (AV.agg (cA 5 (eS cI) ([] : List Int) a_p0.free))), (24, (li i6))]) [.box 46 (cZone a_p0)] ∧ buddy_Check_j6 (buddy_Check_l5 a_p0 n5) i6 = some r) ?_ ?_
     ·
      refine AW_block <| AW_seq <| AW_region <| ALW_val (AVal_move rfl) ?_
      have hb28 := (chk_some h).1
      replace h := (chk_some h).2
      refine ALW_val (AVal_index1 (la := cA 5 (eS cI) ([] : List Int) a_p0.free) (i := i6) (a := (ls cI (a_p0.free.getD i6.toNat ([] : List Int)))) Try.underlying44 Try.sizeOf22 Try.isAgg22 rfl rfl hb28 (cA_get0 (inb_bd hb28).2) rfl) <| ALW_val (AVal_assign rfl) <| ALW_val (AVal_assign rfl) <| ALW_nil <| AW_seq <| AW_region ?_
      refine ALW_val (AVal_move rfl) <| ALW_val (AVal_lenM Try.underlying22 rfl) <| ALW_val (AVal_move rfl) <| ALW_nil <| AW_block <| AW_loop (σ := Nat × Int) (fun s => s.1) (fun s e' H' => match s with | (n6, i7) => Rep 118 0 e' H' (mkE [(1, (AV.ptr 0 0)), (3, (li i6)), (4, (ls cI (a_p0.free.getD i6.toNat ([] : List Int)))), (23, (AV.agg (cA 5 (eS cI) ([] : List Int) a_p0.free))), (24, (li i6)), (28, (ls cI (a_p0.free.getD i6.toNat ([] : List Int)))), (29, (li ((a_p0.free.getD i6.toNat ([] : List Int)).length : Int))), (30, (li i7))]) [.box 46 (cZone a_p0)] ∧ buddy_Check_l6 (buddy_Check_l5 a_p0 n5) a_p0 i6 n6 i7 = some r) (FUEL, 0) ⟨RepP [0] rfl rfl (by kernel_rfl), h⟩ ?_
      clear h
      rintro ⟨n6, i7⟩ e' H' ⟨hrep, h⟩
      cases n6 with
      | zero => exact absurd (show (none : Option _) = some r from h) (by simp)
      | succ n6 =>
       replace h : buddy_Check_b6 (buddy_Check_l5 a_p0 n5) a_p0 i6 (buddy_Check_l6 (buddy_Check_l5 a_p0 n5) a_p0 i6 n6) i7 = some r := h
       unfold buddy_Check_b6 at h
       refine AW_rep hrep ?_
       clear hrep
       refine AW_seq <| AW_region <| ALW_val (AVal_lss rfl rfl) <| ALW_nil <| AW_seq ?_
       refine AW_cond (decide (i7 < ((a_p0.free.getD i6.toNat ([] : List Int)).length : Int))) rfl (fun hb29 => ?_) (fun hb29 => ?_)
       ·replace h := cnd_t hb29 h
        refine AW_skip <| AW_seq <| AW_block <| AW_seq <| AW_region <| ALW_val (AVal_move rfl) ?_
        have hb30 := (chk_some h).1
        replace h := (chk_some h).2
        refine ALW_val (AVal_idxSM Try.underlying22 Try.sizeOf3 (fun _ => rfl) rfl rfl hb30) <| ALW_val (AVal_loadR1 (o := 0) Try.isAgg3 rfl rfl) <| ALW_val (AVal_assign rfl) <| ALW_val (AVal_assign rfl) <| ALW_nil <| AW_seq ?_
        refine AW_seq <| AW_region <| ALW_val (AVal_loadA (k := 0) (o := 0) (m := 10) Try.isAgg46 Try.sizeOf46 rfl rfl rfl rfl rfl) <| ALW_val (AVal_move rfl) <| ALW_val (AVal_move rfl) ?_
        refine bnd_elim h ?_; clear h; intro x4 hx4 h
        refine ALW_callE (r' := (AV.lit (.bool x4))) (la := [(AV.agg (cZone a_p0)), (li (at_ (a_p0.free.getD i6.toNat ([] : List Int)) i7)), (li i6)]) (la' := [(AV.agg ([(li a_p0.node)] ++ ([(li a_p0.kind)] ++ ([(li a_p0.start)] ++ ([(li a_p0.count)] ++ ([(li a_p0.min)] ++ ([AV.any, AV.any, AV.any, AV.any, AV.any] ++ []))))))), (li (at_ (a_p0.free.getD i6.toNat ([] : List Int)) i7)), (li i6)]) (r := (AV.lit (.bool x4))) (S := []) Try.func62 rfl (by kernel_rfl) (.fn 62) rfl ⟨View_hdr (hd := ([(li a_p0.node)] ++ [(li a_p0.kind)] ++ [(li a_p0.start)] ++ [(li a_p0.count)] ++ [(li a_p0.min)])) (tl := ((cA 5 (eS cI) ([] : List Int) a_p0.free))) rfl, View.nr rfl, View.nr rfl, trivial⟩ (buddy_inside_ok hx4) (.inl rfl) rfl <| ALW_val (AVal_not (t := x4) rfl) <| ALW_nil ?_
        refine AW_cond (!x4) rfl (fun hb31 => ?_) (fun hb31 => ?_)
        ·replace h := cnd_t hb31 h
         refine AW_seq <| AW_region <| ALW_val (AVal_assign rfl) <| ALW_nil <| AW_ret ?_
         show RetP _ _ _ _ _ _
         obtain rfl := Option.some.inj h
         exact RetP_1 (R1_E rfl rfl)
        ·replace h := cnd_f hb31 h
         refine AW_skip <| AW_seq <| AW_region <| ALW_val (AVal_move rfl) <| ALW_val (AVal_gtr rfl rfl) <| ALW_val (AVal_move rfl) ?_
         refine ALW_g1 rfl rfl (fun hc8 => AVal.step (AVal_move rfl)) <| ALW_g1 rfl rfl (fun hc9 => AVal.step (AVal_move rfl)) ?_
         have hb32 := (chk_some h).1
         replace h := (chk_some h).2
         refine ALW_g1 rfl rfl (fun hc10 => AVal.step (AVal_sub (gd_t rfl hc10) rfl (imp_t hb32 hc10))) ?_
         have hb33 := (chk_some h).1
         replace h := (chk_some h).2
         refine ALW_g1 rfl rfl (fun hc11 => AVal.step (AVal_idxSM Try.underlying22 Try.sizeOf3 (fun _ => rfl) (gd_t rfl hc11) (gd_t rfl hc11) (imp_t hb33 hc11))) <| ALW_g1 rfl rfl (fun hc12 => AVal.step (AVal_loadR1 (o := 0) Try.isAgg3 (gd_t rfl hc12) rfl)) <| ALW_g1 rfl rfl (fun hc13 => AVal.step (AVal_move rfl)) <| ALW_g1 rfl rfl (fun hc14 => AVal.step (AVal_geq (gd_t rfl hc14) (gd_t rfl hc14))) <| ALW_val (AVal_pick_and (j := .lit undef) rfl rfl) <| ALW_nil ?_
         refine AW_cond ((decide (0 < i7)) && (decide ((at_ (a_p0.free.getD i6.toNat ([] : List Int)) i7) ≤ (at_ (a_p0.free.getD i6.toNat ([] : List Int)) (i7 - 1))))) rfl (fun hb34 => ?_) (fun hb34 => ?_)
         ·replace h := cnd_t hb34 h
          refine AW_seq <| AW_region <| ALW_val (AVal_assign rfl) <| ALW_nil <| AW_ret ?_
          show RetP _ _ _ _ _ _
          obtain rfl := Option.some.inj h
          exact RetP_1 (R1_E rfl rfl)
         ·replace h := cnd_f hb34 h
          refine AW_skip <| AW_region ?_
          have hb35 := (chk_some h).1
          replace h := (chk_some h).2
          refine ALW_val (AVal_add rfl rfl hb35) <| ALW_val (AVal_move rfl) <| ALW_nil ?_
          exact ⟨(n6, (i7 + 1)), Nat.lt_succ_self _, RepP [0] rfl rfl (by kernel_rfl), h⟩
       ·replace h := cnd_f hb29 h
        refine AW_exit ?_
        exact ⟨RepP [0] rfl rfl (by kernel_rfl), h⟩
     ·
      clear h
      rintro e' H' ⟨hrep, h⟩
      refine AW_rep hrep ?_
      clear hrep
      unfold buddy_Check_j6 at h
      refine AW_region ?_
      have hb27 := (chk_some h).1
      replace h := (chk_some h).2
      refine ALW_val (AVal_add rfl rfl hb27) <| ALW_val (AVal_move rfl) <| ALW_nil ?_
      exact ⟨(n5, (i6 + 1)), Nat.lt_succ_self _, RepP [0] rfl rfl (by kernel_rfl), h⟩
    ·replace h := cnd_f hb26 h
     refine AW_exit ?_
     exact ⟨RepP [0] rfl rfl (by kernel_rfl), h⟩
  ·
   clear h
   rintro e' H' ⟨hrep, h⟩
   refine AW_rep hrep ?_
   clear hrep
   unfold buddy_Check_j0 at h
   refine AW_seq <| AW_region <| ALW_step (H' := [.box 46 (cZone a_p0), .box 109 (cA 256 eB false (List.replicate 256 false))]) (AStep_alloc (t := 109) (vs := List.replicate 256 (.bool false)) (cs := (cA 256 eB false (List.replicate 256 false))) Try.zeroValue109 (by kernel_rfl) (by kernel_rfl) (SubL_rep (SubF.refl _))) <| ALW_nil ?_
   refine AW_seqJ (fun e' H' => Rep 118 0 e' H' (mkE [(1, (AV.ptr 0 0))]) [.box 46 (cZone a_p0)] ∧ buddy_Check_j1 a_p0 = some r) ?_ ?_
   ·
    refine AW_seq <| AW_region <| ALW_val (AVal_field Try.underlying46 rfl rfl Try.sizeOf44 rfl) <| ALW_val (AVal_loadA (k := 0) (o := 5) (m := 5) Try.isAgg44 Try.sizeOf44 rfl rfl rfl rfl rfl) <| ALW_val (AVal_move rfl) <| ALW_nil ?_
    refine AW_block <| AW_loop (σ := Nat × Int × (List Bool)) (fun s => s.1) (fun s e' H' => match s with | (n2, i3, d1) => Rep 118 0 e' H' (mkE [(1, (AV.ptr 0 0)), (7, (AV.ptr 1 0)), (54, (AV.agg (cA 5 (eS cI) ([] : List Int) a_p0.free))), (55, (li i3))]) [.box 46 (cZone a_p0), .box 109 (cA 256 eB false d1)] ∧ buddy_Check_l2 a_p0 n2 i3 d1 = some r) (FUEL, 0, (List.replicate 256 false)) ⟨RepP [0, 1] rfl rfl (by kernel_rfl), h⟩ ?_
    clear h
    rintro ⟨n2, i3, d1⟩ e' H' ⟨hrep, h⟩
    cases n2 with
    | zero => exact absurd (show (none : Option _) = some r from h) (by simp)
    | succ n2 =>
     replace h : buddy_Check_b2 a_p0 (buddy_Check_l2 a_p0 n2) i3 d1 = some r := h
     unfold buddy_Check_b2 at h
     refine AW_rep hrep ?_
     clear hrep
     refine AW_seq <| AW_region <| ALW_val (AVal_lss rfl rfl) <| ALW_nil <| AW_seq ?_
     refine AW_cond (decide (i3 < 5)) rfl (fun hb13 => ?_) (fun hb13 => ?_)
     ·replace h := cnd_t hb13 h
      refine AW_skip ?_
      refine AW_seqJ (fun e' H' => ∃ (d2 : List Bool), Rep 118 0 e' H' (mkE [(1, (AV.ptr 0 0)), (7, (AV.ptr 1 0)), (54, (AV.agg (cA 5 (eS cI) ([] : List Int) a_p0.free))), (55, (li i3))]) [.box 46 (cZone a_p0), .box 109 (cA 256 eB false d2)] ∧ buddy_Check_j4 (buddy_Check_l2 a_p0 n2) i3 d2 = some r) ?_ ?_
      ·
       refine AW_block <| AW_seq <| AW_region <| ALW_val (AVal_move rfl) ?_
       have hb15 := (chk_some h).1
       replace h := (chk_some h).2
       refine ALW_val (AVal_index1 (la := cA 5 (eS cI) ([] : List Int) a_p0.free) (i := i3) (a := (ls cI (a_p0.free.getD i3.toNat ([] : List Int)))) Try.underlying44 Try.sizeOf22 Try.isAgg22 rfl rfl hb15 (cA_get0 (inb_bd hb15).2) rfl) <| ALW_val (AVal_assign rfl) <| ALW_val (AVal_assign rfl) <| ALW_nil <| AW_seq <| AW_region ?_
       refine ALW_val (AVal_move rfl) <| ALW_val (AVal_lenM Try.underlying22 rfl) <| ALW_val (AVal_move rfl) <| ALW_nil <| AW_block <| AW_loop (σ := Nat × Int × (List Bool)) (fun s => s.1) (fun s e' H' => match s with | (n3, i4, d3) => Rep 118 0 e' H' (mkE [(1, (AV.ptr 0 0)), (7, (AV.ptr 1 0)), (8, (li i3)), (54, (AV.agg (cA 5 (eS cI) ([] : List Int) a_p0.free))), (55, (li i3)), (59, (ls cI (a_p0.free.getD i3.toNat ([] : List Int)))), (60, (li ((a_p0.free.getD i3.toNat ([] : List Int)).length : Int))), (61, (li i4))]) [.box 46 (cZone a_p0), .box 109 (cA 256 eB false d3)] ∧ buddy_Check_l3 (buddy_Check_l2 a_p0 n2) a_p0 i3 n3 i4 d3 = some r) (FUEL, 0, d1) ⟨RepP [0, 1] rfl rfl (by kernel_rfl), h⟩ ?_
       clear h
       rintro ⟨n3, i4, d3⟩ e' H' ⟨hrep, h⟩
       cases n3 with
       | zero => exact absurd (show (none : Option _) = some r from h) (by simp)
       | succ n3 =>
        replace h : buddy_Check_b3 (buddy_Check_l2 a_p0 n2) a_p0 i3 (buddy_Check_l3 (buddy_Check_l2 a_p0 n2) a_p0 i3 n3) i4 d3 = some r := h
        unfold buddy_Check_b3 at h
        refine AW_rep hrep ?_
        clear hrep
        refine AW_seq <| AW_region <| ALW_val (AVal_lss rfl rfl) <| ALW_nil <| AW_seq ?_
        refine AW_cond (decide (i4 < ((a_p0.free.getD i3.toNat ([] : List Int)).length : Int))) rfl (fun hb16 => ?_) (fun hb16 => ?_)
        ·replace h := cnd_t hb16 h
         refine AW_skip ?_
         refine AW_seqJ (fun e' H' => ∃ (d4 : List Bool), Rep 118 0 e' H' (mkE [(1, (AV.ptr 0 0)), (7, (AV.ptr 1 0)), (8, (li i3)), (54, (AV.agg (cA 5 (eS cI) ([] : List Int) a_p0.free))), (55, (li i3)), (59, (ls cI (a_p0.free.getD i3.toNat ([] : List Int)))), (60, (li ((a_p0.free.getD i3.toNat ([] : List Int)).length : Int))), (61, (li i4))]) [.box 46 (cZone a_p0), .box 109 (cA 256 eB false d4)] ∧ buddy_Check_j5 (buddy_Check_l3 (buddy_Check_l2 a_p0 n2) a_p0 i3 n3) i4 d4 = some r) ?_ ?_
         ·
          refine AW_block <| AW_seq <| AW_region ?_
          have hb18 := (chk_some h).1
          replace h := (chk_some h).2
          refine ALW_val (AVal_idxSM Try.underlying22 Try.sizeOf3 (fun _ => rfl) rfl rfl hb18) <| ALW_val (AVal_loadR1 (o := 0) Try.isAgg3 rfl rfl) <| ALW_val (AVal_assign rfl) <| ALW_nil <| AW_seq <| AW_region ?_
          refine ALW_val (AVal_move rfl) <| ALW_val (AVal_assign rfl) <| ALW_nil <| AW_block <| AW_loop (σ := Nat × Int × (List Bool)) (fun s => s.1) (fun s e' H' => match s with | (n4, i5, d5) => Rep 118 0 e' H' (mkE [(1, (AV.ptr 0 0)), (7, (AV.ptr 1 0)), (8, (li i3)), (11, (li (at_ (a_p0.free.getD i3.toNat ([] : List Int)) i4))), (12, (li i5)), (54, (AV.agg (cA 5 (eS cI) ([] : List Int) a_p0.free))), (55, (li i3)), (59, (ls cI (a_p0.free.getD i3.toNat ([] : List Int)))), (60, (li ((a_p0.free.getD i3.toNat ([] : List Int)).length : Int))), (61, (li i4))]) [.box 46 (cZone a_p0), .box 109 (cA 256 eB false d5)] ∧ buddy_Check_l4 (buddy_Check_l3 (buddy_Check_l2 a_p0 n2) a_p0 i3 n3) a_p0 i3 i4 n4 i5 d5 = some r) (FUEL, (at_ (a_p0.free.getD i3.toNat ([] : List Int)) i4), d3) ⟨RepP [0, 1] rfl rfl (by kernel_rfl), h⟩ ?_
          clear h
          rintro ⟨n4, i5, d5⟩ e' H' ⟨hrep, h⟩
          cases n4 with
          | zero => exact absurd (show (none : Option _) = some r from h) (by simp)
          | succ n4 =>
           replace h : buddy_Check_b4 (buddy_Check_l3 (buddy_Check_l2 a_p0 n2) a_p0 i3 n3) a_p0 i3 i4 (buddy_Check_l4 (buddy_Check_l3 (buddy_Check_l2 a_p0 n2) a_p0 i3 n3) a_p0 i3 i4 n4) i5 d5 = some r := h
           unfold buddy_Check_b4 at h
           refine AW_rep hrep ?_
           clear hrep
           refine AW_seq <| AW_seq <| AW_region <| ALW_val (AVal_move rfl) <| ALW_val (AVal_move rfl) <| ALW_val (AVal_move rfl) ?_
           have hb19 := (chk_some h).1
           replace h := (chk_some h).2
           have hb20 := (chk_some h).1
           replace h := (chk_some h).2
           refine ALW_val (AVal_shl (a := 1) (b := i3) rfl rfl hb19 hb20) ?_
           have hb21 := (chk_some h).1
           replace h := (chk_some h).2
           refine ALW_val (AVal_add rfl rfl hb21) <| ALW_val (AVal_lss rfl rfl) <| ALW_nil ?_
           refine AW_cond (decide (i5 < ((at_ (a_p0.free.getD i3.toNat ([] : List Int)) i4) + ((1 : Int) * 2 ^ i3.toNat)))) rfl (fun hb22 => ?_) (fun hb22 => ?_)
           ·replace h := cnd_t hb22 h
            refine AW_skip <| AW_seq <| AW_block <| AW_seq <| AW_seq <| AW_region ?_
            refine ALW_val (AVal_move rfl) ?_
            have hb23 := (chk_some h).1
            replace h := (chk_some h).2
            refine ALW_val (AVal_idxA (m := 256) (s := 1) (i := i5) (k := 1) (o := 0) Try.underlying109 Try.sizeOf4 rfl rfl hb23) <| ALW_val (AVal_loadArr0 (k := 1) (o := (0 + i5.toNat * 1)) (g := eB) (d0 := false) (l := d5) (N := 256) (i := i5.toNat) (a := (AV.lit (.bool (d5.getD i5.toNat false)))) Try.isAgg4 rfl rfl (congrArg (fun q => 0 + q) (Nat.mul_one _)) (inb_bd hb23).2 rfl rfl) <| ALW_nil ?_
            refine AW_cond (d5.getD i5.toNat false) rfl (fun hb24 => ?_) (fun hb24 => ?_)
            ·replace h := cnd_t hb24 h
             refine AW_seq <| AW_region <| ALW_val (AVal_assign rfl) <| ALW_nil <| AW_ret ?_
             show RetP _ _ _ _ _ _
             obtain rfl := Option.some.inj h
             exact RetP_1 (R1_E rfl rfl)
            ·replace h := cnd_f hb24 h
             refine AW_skip <| AW_region <| ALW_val (AVal_move rfl) <| ALW_val (AVal_idxA (m := 256) (s := 1) (i := i5) (k := 1) (o := 0) Try.underlying109 Try.sizeOf4 rfl rfl hb23) <| ALW_act (H' := [.box 46 (cZone a_p0), .box 109 (cA 256 eB false (setA 256 false d5 i5.toNat true))]) (AAct_storeArr0 (k := 1) (o := (0 + i5.toNat * 1)) (g := eB) (d0 := false) (l := d5) (N := 256) (i := i5.toNat) (v := true) (a := (AV.lit (.bool true))) Try.sizeOf4 rfl rfl (congrArg (fun q => 0 + q) (Nat.mul_one _)) (inb_bd hb23).2 rfl rfl rfl) <| ALW_nil ?_
             refine AW_region <| ALW_val (AVal_move rfl) ?_
             have hb25 := (chk_some h).1
             replace h := (chk_some h).2
             refine ALW_val (AVal_add rfl rfl hb25) <| ALW_val (AVal_assign rfl) <| ALW_nil ?_
             exact ⟨(n4, (i5 + 1), (setA 256 false d5 i5.toNat true)), Nat.lt_succ_self _, RepP [0, 1] rfl rfl (by kernel_rfl), h⟩
           ·replace h := cnd_f hb22 h
            refine AW_exit ?_
            exact ⟨d5, RepP [0, 1] rfl rfl (by kernel_rfl), h⟩
         ·
          clear h
          rintro e' H' ⟨d4, hrep, h⟩
          refine AW_rep hrep ?_
          clear hrep
          unfold buddy_Check_j5 at h
          refine AW_region ?_
          have hb17 := (chk_some h).1
          replace h := (chk_some h).2
          refine ALW_val (AVal_add rfl rfl hb17) <| ALW_val (AVal_move rfl) <| ALW_nil ?_
          exact ⟨(n3, (i4 + 1), d4), Nat.lt_succ_self _, RepP [0, 1] rfl rfl (by kernel_rfl), h⟩
        ·replace h := cnd_f hb16 h
         refine AW_exit ?_
         exact ⟨d3, RepP [0, 1] rfl rfl (by kernel_rfl), h⟩
      ·
       clear h
       rintro e' H' ⟨d2, hrep, h⟩
       refine AW_rep hrep ?_
       clear hrep
       unfold buddy_Check_j4 at h
       refine AW_region ?_
       have hb14 := (chk_some h).1
       replace h := (chk_some h).2
       refine ALW_val (AVal_add rfl rfl hb14) <| ALW_val (AVal_move rfl) <| ALW_nil ?_
       exact ⟨(n2, (i3 + 1), d2), Nat.lt_succ_self _, RepP [0, 1] rfl rfl (by kernel_rfl), h⟩
     ·replace h := cnd_f hb13 h
      refine AW_exit ?_
      exact ⟨RepP [0] rfl rfl (by kernel_rfl), h⟩
   ·
    clear h
    rintro e' H' ⟨hrep, h⟩
    refine AW_rep hrep ?_
    clear hrep
    unfold buddy_Check_j1 at h
    refine AW_seqJ (fun e' H' => Rep 118 0 e' H' (mkE []) [] ∧ buddy_Check_j2  = some r) ?_ ?_
    ·
     refine AW_seq <| AW_region <| ALW_val (AVal_move rfl) <| ALW_nil <| AW_block <| AW_loop (σ := Nat × Int) (fun s => s.1) (fun s e' H' => match s with | (n0, i1) => Rep 118 0 e' H' (mkE [(1, (AV.ptr 0 0)), (81, (li i1))]) [.box 46 (cZone a_p0)] ∧ buddy_Check_l0 a_p0 n0 i1 = some r) (FUEL, 0) ⟨RepP [0] rfl rfl (by kernel_rfl), h⟩ ?_
     clear h
     rintro ⟨n0, i1⟩ e' H' ⟨hrep, h⟩
     cases n0 with
     | zero => exact absurd (show (none : Option _) = some r from h) (by simp)
     | succ n0 =>
      replace h : buddy_Check_b0 a_p0 (buddy_Check_l0 a_p0 n0) i1 = some r := h
      unfold buddy_Check_b0 at h
      refine AW_rep hrep ?_
      clear hrep
      refine AW_seq <| AW_region <| ALW_val (AVal_lss rfl rfl) <| ALW_nil <| AW_seq ?_
      refine AW_cond (decide (i1 < 4)) rfl (fun hb2 => ?_) (fun hb2 => ?_)
      ·replace h := cnd_t hb2 h
       refine AW_skip ?_
       refine AW_seqJ (fun e' H' => Rep 118 0 e' H' (mkE [(1, (AV.ptr 0 0)), (81, (li i1))]) [.box 46 (cZone a_p0)] ∧ buddy_Check_j3 (buddy_Check_l0 a_p0 n0) i1 = some r) ?_ ?_
       ·
        refine AW_block <| AW_seq <| AW_region <| ALW_val (AVal_move rfl) <| ALW_val (AVal_assign rfl) <| ALW_nil ?_
        refine AW_seq <| AW_region <| ALW_val (AVal_move rfl) <| ALW_val (AVal_field Try.underlying46 rfl rfl Try.sizeOf44 rfl) ?_
        have hb4 := (chk_some h).1
        replace h := (chk_some h).2
        refine ALW_val (AVal_idxA (m := 5) (s := 1) (i := i1) (k := 0) (o := 5) Try.underlying44 Try.sizeOf22 rfl rfl hb4) <| ALW_val (AVal_loadArr (k := 0) (o := (5 + i1.toNat * 1)) (cs := (cZone a_p0)) (hd := ([(li a_p0.node)] ++ [(li a_p0.kind)] ++ [(li a_p0.start)] ++ [(li a_p0.count)] ++ [(li a_p0.min)] ++ [])) (tl := ([])) (g := (eS cI)) (d0 := ([] : List Int)) (l := a_p0.free) (N := 5) (i := i1.toNat) (a := (ls cI (a_p0.free.getD i1.toNat ([] : List Int)))) Try.isAgg22 rfl rfl rfl (congrArg (fun q => 5 + q) (Nat.mul_one _)) (inb_bd hb4).2 rfl rfl) <| ALW_val (AVal_lenM Try.underlying22 rfl) <| ALW_val (AVal_move rfl) <| ALW_nil <| AW_block ?_
        refine AW_loop (σ := Nat × Int) (fun s => s.1) (fun s e' H' => match s with | (n1, i2) => Rep 118 0 e' H' (mkE [(1, (AV.ptr 0 0)), (13, (li i1)), (81, (li i1)), (87, (ls cI (a_p0.free.getD i1.toNat ([] : List Int)))), (88, (li ((a_p0.free.getD i1.toNat ([] : List Int)).length : Int))), (89, (li i2))]) [.box 46 (cZone a_p0)] ∧ buddy_Check_l1 (buddy_Check_l0 a_p0 n0) a_p0 i1 n1 i2 = some r) (FUEL, 0) ⟨RepP [0] rfl rfl (by kernel_rfl), h⟩ ?_
        clear h
        rintro ⟨n1, i2⟩ e' H' ⟨hrep, h⟩
        cases n1 with
        | zero => exact absurd (show (none : Option _) = some r from h) (by simp)
        | succ n1 =>
         replace h : buddy_Check_b1 (buddy_Check_l0 a_p0 n0) a_p0 i1 (buddy_Check_l1 (buddy_Check_l0 a_p0 n0) a_p0 i1 n1) i2 = some r := h
         unfold buddy_Check_b1 at h
         refine AW_rep hrep ?_
         clear hrep
         refine AW_seq <| AW_region <| ALW_val (AVal_lss rfl rfl) <| ALW_nil <| AW_seq ?_
         refine AW_cond (decide (i2 < ((a_p0.free.getD i1.toNat ([] : List Int)).length : Int))) rfl (fun hb5 => ?_) (fun hb5 => ?_)
         ·replace h := cnd_t hb5 h
          refine AW_skip <| AW_seq <| AW_block <| AW_seq <| AW_region ?_
          have hb6 := (chk_some h).1
          replace h := (chk_some h).2
          refine ALW_val (AVal_idxSM Try.underlying22 Try.sizeOf3 (fun _ => rfl) rfl rfl hb6) <| ALW_val (AVal_loadR1 (o := 0) Try.isAgg3 rfl rfl) <| ALW_val (AVal_assign rfl) <| ALW_nil <| AW_seq <| AW_region ?_
          refine ALW_val (AVal_move rfl) <| ALW_val (AVal_move rfl) ?_
          have hb7 := (chk_some h).1
          replace h := (chk_some h).2
          have hb8 := (chk_some h).1
          replace h := (chk_some h).2
          refine ALW_val (AVal_shl (a := 1) (b := i1) rfl rfl hb7 hb8) <| ALW_val (AVal_xor (k := .i64) (a := at_ (a_p0.free.getD i1.toNat ([] : List Int)) i2) (b := (1 : Int) * 2 ^ i1.toNat) rfl rfl) <| ALW_val (AVal_assign rfl) <| ALW_nil <| AW_seq <| AW_region ?_
          refine ALW_val (AVal_move rfl) <| ALW_val (AVal_field Try.underlying46 rfl rfl Try.sizeOf44 rfl) ?_
          have hb9 := (chk_some h).1
          replace h := (chk_some h).2
          refine ALW_val (AVal_idxA (m := 5) (s := 1) (i := i1) (k := 0) (o := 5) Try.underlying44 Try.sizeOf22 rfl rfl hb9) <| ALW_val (AVal_loadArr (k := 0) (o := (5 + i1.toNat * 1)) (cs := (cZone a_p0)) (hd := ([(li a_p0.node)] ++ [(li a_p0.kind)] ++ [(li a_p0.start)] ++ [(li a_p0.count)] ++ [(li a_p0.min)] ++ [])) (tl := ([])) (g := (eS cI)) (d0 := ([] : List Int)) (l := a_p0.free) (N := 5) (i := i1.toNat) (a := (ls cI (a_p0.free.getD i1.toNat ([] : List Int)))) Try.isAgg22 rfl rfl rfl (congrArg (fun q => 5 + q) (Nat.mul_one _)) (inb_bd hb9).2 rfl rfl) <| ALW_val (AVal_move rfl) ?_
          refine bnd_elim h ?_; clear h; intro x2 hx2 h
          refine ALW_callN Try.func63 rfl (by kernel_rfl) (.fn 63) rfl rfl (slices_BinarySearch_Lint_int_ok hx2) rfl <| ALW_val (AVal_move rfl) <| ALW_val (AVal_extract rfl rfl) <| ALW_val (AVal_extract rfl rfl) <| ALW_val (AVal_assign rfl) <| ALW_val (AVal_assign rfl) ?_
          refine ALW_nil <| AW_seq <| AW_region <| ALW_val (AVal_move rfl) <| ALW_val (AVal_move rfl) <| ALW_g1 rfl rfl (fun hc1 => AVal.step (AVal_loadA (k := 0) (o := 0) (m := 10) Try.isAgg46 Try.sizeOf46 rfl rfl rfl rfl rfl)) ?_
          refine ALW_g1 rfl rfl (fun hc2 => AVal.step (AVal_move rfl)) <| ALW_g1 rfl rfl (fun hc3 => AVal.step (AVal_move rfl)) <| ALW_g1 rfl rfl (fun hc4 => AVal.step (AVal_min (a := at_ (a_p0.free.getD i1.toNat ([] : List Int)) i2) (b := bitF .xor .i64 (at_ (a_p0.free.getD i1.toNat ([] : List Int)) i2) ((1 : Int) * 2 ^ i1.toNat)) (gd_t rfl hc4) (gd_t rfl hc4))) <| ALW_g1 rfl rfl (fun hc5 => AVal.step (AVal_move rfl)) ?_
          have hb10 := (chk_some h).1
          replace h := (chk_some h).2
          refine ALW_g1 rfl rfl (fun hc6 => AVal.step (AVal_add (gd_t rfl hc6) rfl (imp_t hb10 hc6))) ?_
          refine bnd_elim h ?_; clear h; intro x3 hx3 h
          refine ALW_callG1 (g := 107) (s := x2.2) (r' := (AV.lit (.bool x3))) rfl rfl (fun hc7 => ⟨62, _, _, [], [(AV.agg (cZone a_p0)), (li (min (at_ (a_p0.free.getD i1.toNat ([] : List Int)) i2) (bitF .xor .i64 (at_ (a_p0.free.getD i1.toNat ([] : List Int)) i2) ((1 : Int) * 2 ^ i1.toNat)))), (li (i1 + 1))], [(AV.agg ([(li a_p0.node)] ++ ([(li a_p0.kind)] ++ ([(li a_p0.start)] ++ ([(li a_p0.count)] ++ ([(li a_p0.min)] ++ ([AV.any, AV.any, AV.any, AV.any, AV.any] ++ []))))))), (li (min (at_ (a_p0.free.getD i1.toNat ([] : List Int)) i2) (bitF .xor .i64 (at_ (a_p0.free.getD i1.toNat ([] : List Int)) i2) ((1 : Int) * 2 ^ i1.toNat)))), (li (i1 + 1))], (AV.lit (.bool x3)), [], Try.func62, rfl, by kernel_rfl, (.fn 62), (lcons (gd_t rfl hc7) (lcons (gd_t rfl hc7) (lcons (gd_t rfl hc7) rfl))), ⟨View_hdr (hd := ([(li a_p0.node)] ++ [(li a_p0.kind)] ++ [(li a_p0.start)] ++ [(li a_p0.count)] ++ [(li a_p0.min)])) (tl := ((cA 5 (eS cI) ([] : List Int) a_p0.free))) rfl, View.nr rfl, View.nr rfl, trivial⟩, buddy_inside_ok (cnd_t hc7 hx3), .inl rfl, rfl⟩) <| ALW_val (AVal_pick_and (j := .lit undef) rfl rfl) <| ALW_nil ?_
          refine AW_cond (x2.2 && x3) rfl (fun hb11 => ?_) (fun hb11 => ?_)
          ·replace h := cnd_t hb11 h
           refine AW_seq <| AW_region <| ALW_val (AVal_assign rfl) <| ALW_nil <| AW_ret ?_
           show RetP _ _ _ _ _ _
           obtain rfl := Option.some.inj h
           exact RetP_1 (R1_E rfl rfl)
          ·replace h := cnd_f hb11 h
           refine AW_skip <| AW_region ?_
           have hb12 := (chk_some h).1
           replace h := (chk_some h).2
           refine ALW_val (AVal_add rfl rfl hb12) <| ALW_val (AVal_move rfl) <| ALW_nil ?_
           exact ⟨(n1, (i2 + 1)), Nat.lt_succ_self _, RepP [0] rfl rfl (by kernel_rfl), h⟩
         ·replace h := cnd_f hb5 h
          refine AW_exit ?_
          exact ⟨RepP [0] rfl rfl (by kernel_rfl), h⟩
       ·
        clear h
        rintro e' H' ⟨hrep, h⟩
        refine AW_rep hrep ?_
        clear hrep
        unfold buddy_Check_j3 at h
        refine AW_region ?_
        have hb3 := (chk_some h).1
        replace h := (chk_some h).2
        refine ALW_val (AVal_add rfl rfl hb3) <| ALW_val (AVal_move rfl) <| ALW_nil ?_
        exact ⟨(n0, (i1 + 1)), Nat.lt_succ_self _, RepP [0] rfl rfl (by kernel_rfl), h⟩
      ·replace h := cnd_f hb2 h
       refine AW_exit ?_
       exact ⟨RepP [] rfl rfl (by kernel_rfl), h⟩
    ·
     clear h
     rintro e' H' ⟨hrep, h⟩
     refine AW_rep hrep ?_
     clear hrep
     unfold buddy_Check_j2 at h
     refine AW_seq <| AW_region <| ALW_val (AVal_assign rfl) <| ALW_nil <| AW_ret ?_
     show RetP _ _ _ _ _ _
     obtain rfl := Option.some.inj h
     exact RetP_1 (R1_E rfl rfl)
theorem percpu_isFrame_ok {a_f : Int} {r : Bool} (h : percpu_isFrame a_f = some r) : PFn Try.prog 64 [(li a_f)] (AV.lit (.bool r)) := by
 refine PFn_enter Try.func64 rfl Try.ntmps64 Try.results64 rfl ?_
 unfold percpu_isFrame at h
 refine AW_seq <| AW_region <| ALW_val (AVal_assign rfl) <| ALW_nil <| AW_seq <| AW_region ?_
 refine ALW_val (AVal_move rfl) <| ALW_val (AVal_geq rfl rfl) <| ALW_val (AVal_move rfl) <| ALW_g1 rfl rfl (fun hc1 => AVal.step (AVal_move rfl)) <| ALW_g1 rfl rfl (fun hc2 => AVal.step (AVal_lss (gd_t rfl hc2) rfl)) <| ALW_val (AVal_pick_and (j := .lit undef) rfl rfl) ?_
 refine ALW_val (AVal_assign rfl) <| ALW_nil <| AW_ret ?_
 show RetP _ _ _ _ _ _
 obtain rfl := Option.some.inj h
 exact RetP_1 (R1_E rfl rfl)
theorem percpu_frames_ok {a_c : CpuCache} {r : List (Int × Bool)} (h : percpu_frames a_c = some r) : PFn Try.prog 65 [(AV.agg (cCpuCache a_c))] (AV.omap (mI Value.bool r)) := by
 refine PFn_enter Try.func65 rfl Try.ntmps65 Try.results65 rfl ?_
 unfold percpu_frames at h
 refine AW_seq <| AW_region <| ALW_step (H' := [.box 50 (cCpuCache a_c)]) (AStep_boxA (t := 50) rfl) <| ALW_val (AVal_assign rfl) <| ALW_nil <| AW_seq ?_
 refine AW_region <| ALW_step (H' := [.box 50 (cCpuCache a_c), .map (mI Value.bool ([] : List (Int × Bool)))]) (AStep_makeMap) <| ALW_val (AVal_assign rfl) <| ALW_nil ?_
 refine AW_seqJ (fun e' H' => ∃ (l1 : List (Int × Bool)), Rep 27 0 e' H' (mkE [(3, (AV.hd 0))]) [.map (mI Value.bool l1)] ∧ percpu_frames_j0 l1 = some r) ?_ ?_
 ·
  refine AW_seq <| AW_region <| ALW_val (AVal_field Try.underlying50 rfl rfl Try.sizeOf48 rfl) <| ALW_val (AVal_load1 Try.isAgg48 rfl rfl rfl rfl) <| ALW_val (AVal_lenM Try.underlying48 rfl) <| ALW_val (AVal_move rfl) ?_
  refine ALW_nil <| AW_block <| AW_loop (σ := Nat × Int × (List (Int × Bool))) (fun s => s.1) (fun s e' H' => match s with | (n0, i1, l2) => Rep 27 0 e' H' (mkE [(3, (AV.hd 0)), (10, (ls (cS cI) a_c.lists)), (11, (li (a_c.lists.length : Int))), (12, (li i1))]) [.map (mI Value.bool l2)] ∧ percpu_frames_l0 a_c n0 i1 l2 = some r) (FUEL, 0, ([] : List (Int × Bool))) ⟨RepP [1] rfl rfl (by kernel_rfl), h⟩ ?_
  clear h
  rintro ⟨n0, i1, l2⟩ e' H' ⟨hrep, h⟩
  cases n0 with
  | zero => exact absurd (show (none : Option _) = some r from h) (by simp)
  | succ n0 =>
   replace h : percpu_frames_b0 a_c (percpu_frames_l0 a_c n0) i1 l2 = some r := h
   unfold percpu_frames_b0 at h
   refine AW_rep hrep ?_
   clear hrep
   refine AW_seq <| AW_region <| ALW_val (AVal_lss rfl rfl) <| ALW_nil <| AW_seq ?_
   refine AW_cond (decide (i1 < (a_c.lists.length : Int))) rfl (fun hb1 => ?_) (fun hb1 => ?_)
   ·replace h := cnd_t hb1 h
    refine AW_skip ?_
    refine AW_seqJ (fun e' H' => ∃ (l3 : List (Int × Bool)), Rep 27 0 e' H' (mkE [(3, (AV.hd 0)), (10, (ls (cS cI) a_c.lists)), (11, (li (a_c.lists.length : Int))), (12, (li i1))]) [.map (mI Value.bool l3)] ∧ percpu_frames_j1 (percpu_frames_l0 a_c n0) i1 l3 = some r) ?_ ?_
    ·
     refine AW_block <| AW_seq <| AW_region ?_
     have hb3 := (chk_some h).1
     replace h := (chk_some h).2
     refine ALW_val (AVal_idxSM Try.underlying48 Try.sizeOf22 (fun _ => rfl) rfl rfl hb3) <| ALW_val (AVal_loadR1 (o := 0) Try.isAgg22 rfl rfl) <| ALW_val (AVal_assign rfl) <| ALW_nil <| AW_seq <| AW_region ?_
     refine ALW_val (AVal_move rfl) <| ALW_val (AVal_lenM Try.underlying22 rfl) <| ALW_val (AVal_move rfl) <| ALW_nil <| AW_block <| AW_loop (σ := Nat × Int × (List (Int × Bool))) (fun s => s.1) (fun s e' H' => match s with | (n1, i2, l4) => Rep 27 0 e' H' (mkE [(3, (AV.hd 0)), (10, (ls (cS cI) a_c.lists)), (11, (li (a_c.lists.length : Int))), (12, (li i1)), (16, (ls cI (at_ a_c.lists i1))), (17, (li ((at_ a_c.lists i1).length : Int))), (18, (li i2))]) [.map (mI Value.bool l4)] ∧ percpu_frames_l1 (percpu_frames_l0 a_c n0) a_c i1 n1 i2 l4 = some r) (FUEL, 0, l2) ⟨RepP [0] rfl rfl (by kernel_rfl), h⟩ ?_
     clear h
     rintro ⟨n1, i2, l4⟩ e' H' ⟨hrep, h⟩
     cases n1 with
     | zero => exact absurd (show (none : Option _) = some r from h) (by simp)
     | succ n1 =>
      replace h : percpu_frames_b1 (percpu_frames_l0 a_c n0) a_c i1 (percpu_frames_l1 (percpu_frames_l0 a_c n0) a_c i1 n1) i2 l4 = some r := h
      unfold percpu_frames_b1 at h
      refine AW_rep hrep ?_
      clear hrep
      refine AW_seq <| AW_region <| ALW_val (AVal_lss rfl rfl) <| ALW_nil <| AW_seq ?_
      refine AW_cond (decide (i2 < ((at_ a_c.lists i1).length : Int))) rfl (fun hb4 => ?_) (fun hb4 => ?_)
      ·replace h := cnd_t hb4 h
       refine AW_skip <| AW_seq <| AW_block <| AW_seq <| AW_region ?_
       have hb5 := (chk_some h).1
       replace h := (chk_some h).2
       refine ALW_val (AVal_idxSM Try.underlying22 Try.sizeOf3 (fun _ => rfl) rfl rfl hb5) <| ALW_val (AVal_loadR1 (o := 0) Try.isAgg3 rfl rfl) <| ALW_val (AVal_assign rfl) <| ALW_nil <| AW_region <| ALW_val (AVal_move rfl) ?_
       refine ALW_val (AVal_move rfl) <| ALW_act (H' := [.map (mI Value.bool (mset l4 (at_ (at_ a_c.lists i1) i2) true))]) (AAct_mset (k := 0) (g := Value.bool) (q := at_ (at_ a_c.lists i1) i2) (l := l4) (v := true) Try.underlying83 Try.underlying3 rfl rfl rfl rfl) <| ALW_nil <| AW_region ?_
       have hb6 := (chk_some h).1
       replace h := (chk_some h).2
       refine ALW_val (AVal_add rfl rfl hb6) <| ALW_val (AVal_move rfl) <| ALW_nil ?_
       exact ⟨(n1, (i2 + 1), (mset l4 (at_ (at_ a_c.lists i1) i2) true)), Nat.lt_succ_self _, RepP [0] rfl rfl (by kernel_rfl), h⟩
      ·replace h := cnd_f hb4 h
       refine AW_exit ?_
       exact ⟨l4, RepP [0] rfl rfl (by kernel_rfl), h⟩
    ·
     clear h
     rintro e' H' ⟨l3, hrep, h⟩
     refine AW_rep hrep ?_
     clear hrep
     unfold percpu_frames_j1 at h
     refine AW_region ?_
     have hb2 := (chk_some h).1
     replace h := (chk_some h).2
     refine ALW_val (AVal_add rfl rfl hb2) <| ALW_val (AVal_move rfl) <| ALW_nil ?_
     exact ⟨(n0, (i1 + 1), l3), Nat.lt_succ_self _, RepP [0] rfl rfl (by kernel_rfl), h⟩
   ·replace h := cnd_f hb1 h
    refine AW_exit ?_
    exact ⟨l2, RepP [0] rfl rfl (by kernel_rfl), h⟩
 ·
  clear h
  rintro e' H' ⟨l1, hrep, h⟩
  refine AW_rep hrep ?_
  clear hrep
  unfold percpu_frames_j0 at h
  refine AW_seq <| AW_region <| ALW_val (AVal_move rfl) <| ALW_val (AVal_assign rfl) <| ALW_nil <| AW_ret ?_
  show RetP _ _ _ _ _ _
  obtain rfl := Option.some.inj h
  exact RetP_1 (R1_M rfl rfl)
theorem percpu_Check_ok {a_c : CpuCache} {a_zones : Int} {r : Int} (h : percpu_Check a_c a_zones = some r) : PFn Try.prog 37 [(AV.agg (cCpuCache a_c)), (li a_zones)] (li r) := by
 refine PFn_enter Try.func37 rfl Try.ntmps37 Try.results37 rfl ?_
 unfold percpu_Check at h
 refine AW_seq <| AW_region <| ALW_step (H' := [.box 50 (cCpuCache a_c)]) (AStep_boxA (t := 50) rfl) <| ALW_val (AVal_assign rfl) <| ALW_nil <| AW_seq ?_
 refine AW_seq <| AW_region <| ALW_val (AVal_move rfl) <| ALW_val (AVal_lss rfl rfl) <| ALW_val (AVal_move rfl) <| ALW_g0 rfl rfl (fun hc1 => AVal.step (AVal_move rfl)) ?_
 refine ALW_g0 rfl rfl (fun hc2 => AVal.step (AVal_gtr (gd_t rfl hc2) rfl)) <| ALW_val (AVal_pick_or rfl rfl) <| ALW_nil ?_
 refine AW_cond ((decide (a_zones < 1)) || (decide (6 < a_zones))) rfl (fun hb1 => ?_) (fun hb1 => ?_)
 ·replace h := cnd_t hb1 h
  refine AW_seq <| AW_region <| ALW_val (AVal_assign rfl) <| ALW_nil <| AW_ret ?_
  show RetP _ _ _ _ _ _
  obtain rfl := Option.some.inj h
  exact RetP_1 (R1_E rfl rfl)
 ·replace h := cnd_f hb1 h
  refine AW_skip <| AW_seq <| AW_seq <| AW_region <| ALW_val (AVal_field Try.underlying50 rfl rfl Try.sizeOf48 rfl) <| ALW_val (AVal_load1 Try.isAgg48 rfl rfl rfl rfl) ?_
  refine ALW_val (AVal_lenM Try.underlying48 rfl) <| ALW_val (AVal_move rfl) <| ALW_val (AVal_neq rfl rfl) <| ALW_nil ?_
  refine AW_cond (!decide ((a_c.lists.length : Int) = a_zones)) rfl (fun hb2 => ?_) (fun hb2 => ?_)
  ·replace h := cnd_t hb2 h
   refine AW_seq <| AW_region <| ALW_val (AVal_assign rfl) <| ALW_nil <| AW_ret ?_
   show RetP _ _ _ _ _ _
   obtain rfl := Option.some.inj h
   exact RetP_1 (R1_E rfl rfl)
  ·replace h := cnd_f hb2 h
   refine AW_skip <| AW_seq <| AW_region <| ALW_val (AVal_assign rfl) <| ALW_nil ?_
   refine AW_seqJ (fun e' H' => ∃ (i1 : Int), Rep 48 0 e' H' (mkE [(2, (AV.ptr 0 0)), (5, (li i1))]) [.box 50 (cCpuCache a_c)] ∧ percpu_Check_j0 a_c i1 = some r) ?_ ?_
   ·
    refine AW_seq <| AW_region <| ALW_val (AVal_field Try.underlying50 rfl rfl Try.sizeOf48 rfl) <| ALW_val (AVal_load1 Try.isAgg48 rfl rfl rfl rfl) <| ALW_val (AVal_lenM Try.underlying48 rfl) <| ALW_val (AVal_move rfl) ?_
    refine ALW_nil <| AW_block <| AW_loop (σ := Nat × Int × Int) (fun s => s.1) (fun s e' H' => match s with | (n0, i2, i3) => Rep 48 0 e' H' (mkE [(2, (AV.ptr 0 0)), (5, (li i2)), (22, (ls (cS cI) a_c.lists)), (23, (li (a_c.lists.length : Int))), (24, (li i3))]) [.box 50 (cCpuCache a_c)] ∧ percpu_Check_l0 a_c n0 i2 i3 = some r) (FUEL, 0, 0) ⟨RepP [0] rfl rfl (by kernel_rfl), h⟩ ?_
    clear h
    rintro ⟨n0, i2, i3⟩ e' H' ⟨hrep, h⟩
    cases n0 with
    | zero => exact absurd (show (none : Option _) = some r from h) (by simp)
    | succ n0 =>
     replace h : percpu_Check_b0 a_c (percpu_Check_l0 a_c n0) i2 i3 = some r := h
     unfold percpu_Check_b0 at h
     refine AW_rep hrep ?_
     clear hrep
     refine AW_seq <| AW_region <| ALW_val (AVal_lss rfl rfl) <| ALW_nil <| AW_seq ?_
     refine AW_cond (decide (i3 < (a_c.lists.length : Int))) rfl (fun hb4 => ?_) (fun hb4 => ?_)
     ·replace h := cnd_t hb4 h
      refine AW_skip ?_
      refine AW_seqJ (fun e' H' => Rep 48 0 e' H' (mkE [(2, (AV.ptr 0 0)), (5, (li (i2 + ((at_ a_c.lists i3).length : Int)))), (22, (ls (cS cI) a_c.lists)), (23, (li (a_c.lists.length : Int))), (24, (li i3))]) [.box 50 (cCpuCache a_c)] ∧ percpu_Check_j1 (percpu_Check_l0 a_c n0) a_c i2 i3 = some r) ?_ ?_
      ·
       refine AW_block <| AW_seq <| AW_region ?_
       have hb6 := (chk_some h).1
       replace h := (chk_some h).2
       refine ALW_val (AVal_idxSM Try.underlying48 Try.sizeOf22 (fun _ => rfl) rfl rfl hb6) <| ALW_val (AVal_loadR1 (o := 0) Try.isAgg22 rfl rfl) <| ALW_val (AVal_assign rfl) <| ALW_nil ?_
       refine AW_seqJ (fun e' H' => Rep 48 0 e' H' (mkE [(2, (AV.ptr 0 0)), (5, (li i2)), (7, (ls cI (at_ a_c.lists i3))), (22, (ls (cS cI) a_c.lists)), (23, (li (a_c.lists.length : Int))), (24, (li i3))]) [.box 50 (cCpuCache a_c)] ∧ percpu_Check_j2 (percpu_Check_l0 a_c n0) a_c i2 i3 = some r) ?_ ?_
       ·
        refine AW_seq <| AW_region <| ALW_val (AVal_move rfl) <| ALW_val (AVal_lenM Try.underlying22 rfl) <| ALW_val (AVal_move rfl) <| ALW_nil ?_
        refine AW_block <| AW_loop (σ := Nat × Int) (fun s => s.1) (fun s e' H' => match s with | (n1, i4) => Rep 48 0 e' H' (mkE [(2, (AV.ptr 0 0)), (5, (li i2)), (7, (ls cI (at_ a_c.lists i3))), (22, (ls (cS cI) a_c.lists)), (23, (li (a_c.lists.length : Int))), (24, (li i3)), (28, (ls cI (at_ a_c.lists i3))), (29, (li ((at_ a_c.lists i3).length : Int))), (30, (li i4))]) [.box 50 (cCpuCache a_c)] ∧ percpu_Check_l1 (percpu_Check_l0 a_c n0) a_c i2 i3 n1 i4 = some r) (FUEL, 0) ⟨RepP [0] rfl rfl (by kernel_rfl), h⟩ ?_
        clear h
        rintro ⟨n1, i4⟩ e' H' ⟨hrep, h⟩
        cases n1 with
        | zero => exact absurd (show (none : Option _) = some r from h) (by simp)
        | succ n1 =>
         replace h : percpu_Check_b1 (percpu_Check_l0 a_c n0) a_c i2 i3 (percpu_Check_l1 (percpu_Check_l0 a_c n0) a_c i2 i3 n1) i4 = some r := h
         unfold percpu_Check_b1 at h
         refine AW_rep hrep ?_
         clear hrep
         refine AW_seq <| AW_region <| ALW_val (AVal_lss rfl rfl) <| ALW_nil <| AW_seq ?_
         refine AW_cond (decide (i4 < ((at_ a_c.lists i3).length : Int))) rfl (fun hb8 => ?_) (fun hb8 => ?_)
         ·replace h := cnd_t hb8 h
          refine AW_skip <| AW_seq <| AW_block <| AW_seq <| AW_region ?_
          have hb9 := (chk_some h).1
          replace h := (chk_some h).2
          refine ALW_val (AVal_idxSM Try.underlying22 Try.sizeOf3 (fun _ => rfl) rfl rfl hb9) <| ALW_val (AVal_loadR1 (o := 0) Try.isAgg3 rfl rfl) <| ALW_val (AVal_assign rfl) <| ALW_nil <| AW_seq <| AW_region ?_
          refine ALW_val (AVal_move rfl) ?_
          refine bnd_elim h ?_; clear h; intro x2 hx2 h
          refine ALW_callN Try.func64 rfl (by kernel_rfl) (.fn 64) rfl rfl (percpu_isFrame_ok hx2) rfl <| ALW_val (AVal_not (t := x2) rfl) <| ALW_nil ?_
          refine AW_cond (!x2) rfl (fun hb10 => ?_) (fun hb10 => ?_)
          ·replace h := cnd_t hb10 h
           refine AW_seq <| AW_region <| ALW_val (AVal_assign rfl) <| ALW_nil <| AW_ret ?_
           show RetP _ _ _ _ _ _
           obtain rfl := Option.some.inj h
           exact RetP_1 (R1_E rfl rfl)
          ·replace h := cnd_f hb10 h
           refine AW_skip <| AW_region ?_
           have hb11 := (chk_some h).1
           replace h := (chk_some h).2
           refine ALW_val (AVal_add rfl rfl hb11) <| ALW_val (AVal_move rfl) <| ALW_nil ?_
           exact ⟨(n1, (i4 + 1)), Nat.lt_succ_self _, RepP [0] rfl rfl (by kernel_rfl), h⟩
         ·replace h := cnd_f hb8 h
          refine AW_exit ?_
          exact ⟨RepP [0] rfl rfl (by kernel_rfl), h⟩
       ·
        clear h
        rintro e' H' ⟨hrep, h⟩
        refine AW_rep hrep ?_
        clear hrep
        unfold percpu_Check_j2 at h
        refine AW_region <| ALW_val (AVal_move rfl) <| ALW_val (AVal_move rfl) <| ALW_val (AVal_lenM Try.underlying22 rfl) ?_
        have hb7 := (chk_some h).1
        replace h := (chk_some h).2
        refine ALW_val (AVal_add rfl rfl hb7) <| ALW_val (AVal_assign rfl) <| ALW_nil ?_
        exact ⟨RepP [0] rfl rfl (by kernel_rfl), h⟩
      ·
       clear h
       rintro e' H' ⟨hrep, h⟩
       refine AW_rep hrep ?_
       clear hrep
       unfold percpu_Check_j1 at h
       refine AW_region ?_
       have hb5 := (chk_some h).1
       replace h := (chk_some h).2
       refine ALW_val (AVal_add rfl rfl hb5) <| ALW_val (AVal_move rfl) <| ALW_nil ?_
       exact ⟨(n0, (i2 + ((at_ a_c.lists i3).length : Int)), (i3 + 1)), Nat.lt_succ_self _, RepP [0] rfl rfl (by kernel_rfl), h⟩
     ·replace h := cnd_f hb4 h
      refine AW_exit ?_
      exact ⟨i2, RepP [0] rfl rfl (by kernel_rfl), h⟩
   ·
    clear h
    rintro e' H' ⟨i1, hrep, h⟩
    refine AW_rep hrep ?_
    clear hrep
    unfold percpu_Check_j0 at h
    refine AW_seq <| AW_seq <| AW_region <| ALW_val (AVal_loadA (k := 0) (o := 0) (m := 1) Try.isAgg50 Try.sizeOf50 rfl rfl rfl rfl rfl) ?_
    refine bnd_elim h ?_; clear h; intro x1 hx1 h
    refine ALW_callM (es := mI Value.bool x1) (la := [(AV.agg (cCpuCache a_c))]) (la' := [(AV.agg (cCpuCache a_c))]) (S := []) Try.func65 rfl (by kernel_rfl) (.fn 65) rfl ⟨View.nr rfl, trivial⟩ (percpu_frames_ok hx1) <| ALW_val (AVal_mlen (k := 1) (g := Value.bool) (l := x1) Try.underlying83 rfl rfl) <| ALW_val (AVal_move rfl) <| ALW_val (AVal_neq rfl rfl) <| ALW_nil ?_
    refine AW_cond (!decide ((x1.length : Int) = i1)) rfl (fun hb3 => ?_) (fun hb3 => ?_)
    ·replace h := cnd_t hb3 h
     refine AW_seq <| AW_region <| ALW_val (AVal_assign rfl) <| ALW_nil <| AW_ret ?_
     show RetP _ _ _ _ _ _
     obtain rfl := Option.some.inj h
     exact RetP_1 (R1_E rfl rfl)
    ·replace h := cnd_f hb3 h
     refine AW_skip <| AW_seq <| AW_region <| ALW_val (AVal_assign rfl) <| ALW_nil <| AW_ret ?_
     show RetP _ _ _ _ _ _
     obtain rfl := Option.some.inj h
     exact RetP_1 (R1_E rfl rfl)
theorem allocator_zone_1_ok {a_z : Zone} {c_0 : Int} {r : Bool} (h : allocator_zone_1 a_z c_0 = some r) : PFn Try.prog 61 [(AV.agg (cZone a_z)), (AV.rp [(li c_0)] 0)] (AV.lit (.bool r)) := by
 refine PFn_enter Try.func61 rfl Try.ntmps61 Try.results61 rfl ?_
 unfold allocator_zone_1 at h
 refine AW_seq <| AW_region <| ALW_step (H' := [.box 46 (cZone a_z)]) (AStep_boxA (t := 46) rfl) <| ALW_val (AVal_assign rfl) <| ALW_nil <| AW_seq ?_
 refine AW_region <| ALW_val (AVal_loadR1 (o := 0) Try.isAgg3 rfl rfl) <| ALW_val (AVal_field Try.underlying46 rfl rfl Try.sizeOf3 rfl) <| ALW_val (AVal_load1 Try.isAgg3 rfl rfl rfl rfl) <| ALW_val (AVal_geq rfl rfl) <| ALW_val (AVal_move rfl) ?_
 refine ALW_g1 rfl rfl (fun hc1 => AVal.step (AVal_loadR1 (o := 0) Try.isAgg3 rfl rfl)) <| ALW_g1 rfl rfl (fun hc2 => AVal.step (AVal_field Try.underlying46 rfl rfl Try.sizeOf3 rfl)) <| ALW_g1 rfl rfl (fun hc3 => AVal.step (AVal_load1 Try.isAgg3 (gd_t rfl hc3) rfl rfl rfl)) <| ALW_g1 rfl rfl (fun hc4 => AVal.step (AVal_field Try.underlying46 rfl rfl Try.sizeOf3 rfl)) <| ALW_g1 rfl rfl (fun hc5 => AVal.step (AVal_load1 Try.isAgg3 (gd_t rfl hc5) rfl rfl rfl)) ?_
 have hb1 := (chk_some h).1
 replace h := (chk_some h).2
 refine ALW_g1 rfl rfl (fun hc6 => AVal.step (AVal_add (gd_t rfl hc6) (gd_t rfl hc6) (imp_t hb1 hc6))) <| ALW_g1 rfl rfl (fun hc7 => AVal.step (AVal_lss (gd_t rfl hc7) (gd_t rfl hc7))) <| ALW_val (AVal_pick_and (j := .lit undef) rfl rfl) <| ALW_val (AVal_assign rfl) <| ALW_nil <| AW_ret ?_
 show RetP _ _ _ _ _ _
 obtain rfl := Option.some.inj h
 exact RetP_1 (R1_E rfl rfl)
theorem slices_IndexFunc_Lapi_Zone_api_Zone_ok {a_s : List Zone} {a_f : Zone → Option Bool} {g_a_f : FuncId} {cf_a_f : Func} {code_a_f : Code} {caps_a_f : List AV} (hcf_a_f : Try.prog.funcs[g_a_f]? = some cf_a_f) (hcb_a_f : cf_a_f.body = some code_a_f) (hcn_a_f : (cf_a_f.name == "runtime.NumGoroutine") = false) (hnr_a_f : caps_a_f.all nr = true) (hg_a_f : ∀ {x0 : Zone} {y : Bool}, a_f x0 = some y → PFn Try.prog g_a_f ((AV.agg (cZone x0)) :: caps_a_f) (AV.lit (.bool y))) {r : Int} (h : slices_IndexFunc_Lapi_Zone_api_Zone a_s a_f = some r) : PFn Try.prog 60 [(ls cZone a_s), (AV.clo g_a_f caps_a_f)] (li r) := by
 refine PFn_enter Try.func60 rfl Try.ntmps60 Try.results60 rfl ?_
 unfold slices_IndexFunc_Lapi_Zone_api_Zone at h
 refine AW_seq <| AW_region <| ALW_val (AVal_assign rfl) <| ALW_nil ?_
 refine AW_seqJ (fun e' H' => Rep 19 0 e' H' (mkE []) [] ∧ slices_IndexFunc_Lapi_Zone_api_Zone_j0  = some r) ?_ ?_
 ·
  refine AW_seq <| AW_region <| ALW_val (AVal_move rfl) <| ALW_val (AVal_lenM Try.underlying26 rfl) <| ALW_val (AVal_move rfl) <| ALW_nil ?_
  refine AW_block <| AW_loop (σ := Nat × Int) (fun s => s.1) (fun s e' H' => match s with | (n0, i1) => Rep 19 0 e' H' (mkE [(0, (ls cZone a_s)), (1, (AV.clo g_a_f caps_a_f)), (7, (li (a_s.length : Int))), (8, (li i1))]) [] ∧ slices_IndexFunc_Lapi_Zone_api_Zone_l0 a_s a_f n0 i1 = some r) (FUEL, 0) ⟨Rep_perm (n := 19) (m := 0) [] (l := [(0, (ls cZone a_s)), (1, (AV.clo g_a_f caps_a_f)), (7, (li (a_s.length : Int))), (8, (li 0))]) ⟨⟨Sub.refl _, by kernel_rfl⟩, ⟨Sub_clo hnr_a_f, okA_clo hnr_a_f⟩, ⟨Sub.refl _, by kernel_rfl⟩, ⟨Sub.refl _, by kernel_rfl⟩, trivial⟩ rfl rfl trivial, h⟩ ?_
  clear h
  rintro ⟨n0, i1⟩ e' H' ⟨hrep, h⟩
  cases n0 with
  | zero => exact absurd (show (none : Option _) = some r from h) (by simp)
  | succ n0 =>
   replace h : slices_IndexFunc_Lapi_Zone_api_Zone_b0 a_s a_f (slices_IndexFunc_Lapi_Zone_api_Zone_l0 a_s a_f n0) i1 = some r := h
   unfold slices_IndexFunc_Lapi_Zone_api_Zone_b0 at h
   refine AW_rep hrep ?_
   clear hrep
   refine AW_seq <| AW_region <| ALW_val (AVal_lss rfl rfl) <| ALW_nil <| AW_seq ?_
   refine AW_cond (decide (i1 < (a_s.length : Int))) rfl (fun hb1 => ?_) (fun hb1 => ?_)
   ·replace h := cnd_t hb1 h
    refine AW_skip <| AW_seq <| AW_block <| AW_seq <| AW_region <| ALW_val (AVal_move rfl) ?_
    refine ALW_val (AVal_assign rfl) <| ALW_nil <| AW_seq <| AW_region <| ALW_val (AVal_move rfl) <| ALW_val (AVal_move rfl) ?_
    refine ALW_val (AVal_move rfl) ?_
    have hb2 := (chk_some h).1
    replace h := (chk_some h).2
    refine ALW_val (AVal_idxSM Try.underlying26 Try.sizeOf46 (fun _ => rfl) rfl rfl hb2) <| ALW_val (AVal_loadRA (row := (cZone (at_ a_s i1))) (o := 0) (m := 10) (la := (cZone (at_ a_s i1))) Try.isAgg46 Try.sizeOf46 rfl rfl rfl) ?_
    refine bnd_elim h ?_; clear h; intro x1 hx1 h
    refine ALW_callE (S := []) hcf_a_f hcb_a_f hcn_a_f (.clo (caps := caps_a_f) rfl) rfl (ViewL.c (View.nr rfl) (ViewL.nrs hnr_a_f)) (hg_a_f hx1) (.inl rfl) rfl <| ALW_nil ?_
    refine AW_cond (x1) rfl (fun hb3 => ?_) (fun hb3 => ?_)
    ·replace h := cnd_t hb3 h
     refine AW_seq <| AW_region <| ALW_val (AVal_move rfl) <| ALW_val (AVal_assign rfl) <| ALW_nil <| AW_ret ?_
     show RetP _ _ _ _ _ _
     obtain rfl := Option.some.inj h
     exact RetP_1 (R1_E rfl rfl)
    ·replace h := cnd_f hb3 h
     refine AW_skip <| AW_region ?_
     have hb4 := (chk_some h).1
     replace h := (chk_some h).2
     refine ALW_val (AVal_add rfl rfl hb4) <| ALW_val (AVal_move rfl) <| ALW_nil ?_
     exact ⟨(n0, (i1 + 1)), Nat.lt_succ_self _, Rep_perm (n := 19) (m := 0) [] (l := [(0, (ls cZone a_s)), (1, (AV.clo g_a_f caps_a_f)), (7, (li (a_s.length : Int))), (8, (li (i1 + 1)))]) ⟨⟨Sub.refl _, by kernel_rfl⟩, ⟨Sub_clo hnr_a_f, okA_clo hnr_a_f⟩, ⟨Sub.refl _, by kernel_rfl⟩, ⟨Sub.refl _, by kernel_rfl⟩, trivial⟩ rfl rfl trivial, h⟩
   ·replace h := cnd_f hb1 h
    refine AW_exit ?_
    exact ⟨RepP [] rfl rfl (by kernel_rfl), h⟩
 ·
  clear h
  rintro e' H' ⟨hrep, h⟩
  refine AW_rep hrep ?_
  clear hrep
  unfold slices_IndexFunc_Lapi_Zone_api_Zone_j0 at h
  refine AW_seq <| AW_region <| ALW_val (AVal_assign rfl) <| ALW_nil <| AW_ret ?_
  show RetP _ _ _ _ _ _
  obtain rfl := Option.some.inj h
  exact RetP_1 (R1_E rfl rfl)
theorem allocator_zone_ok {a_a : Allocator} {a_frame : Int} {r : Int} (h : allocator_zone a_a a_frame = some r) : PFn Try.prog 34 [(AV.agg (cAllocator a_a)), (li a_frame)] (li r) := by
 refine PFn_enter Try.func34 rfl Try.ntmps34 Try.results34 rfl ?_
 unfold allocator_zone at h
 refine AW_seq <| AW_region <| ALW_step (H' := [.box 29 (cAllocator a_a)]) (AStep_boxA (t := 29) rfl) <| ALW_step (H' := [.box 29 (cAllocator a_a), .box 3 [(li a_frame)]]) (AStep_box1 (t := 3) (a := (li a_frame)) rfl rfl) <| ALW_val (AVal_assign rfl) <| ALW_nil ?_
 refine AW_seq <| AW_region <| ALW_val (AVal_field Try.underlying29 rfl rfl Try.sizeOf26 rfl) <| ALW_val (AVal_load1 Try.isAgg26 rfl rfl rfl rfl) <| ALW_val (AVal_func (la := [(AV.ptr 1 0)]) rfl) ?_
 refine bnd_elim h ?_; clear h; intro x1 hx1 h
 refine ALW_callE (r' := (li x1)) (la := [(ls cZone a_a.zones), (AV.clo 61 [(AV.ptr 1 0)])]) (la' := [(ls cZone a_a.zones), (AV.clo 61 [(AV.rp [(li a_frame)] 0)])]) (r := (li x1)) (S := [1]) Try.func60 rfl (by kernel_rfl) (.fn 60) rfl ⟨View.nr rfl, View.clo (⟨View.ptr (cs := [(li a_frame)]) rfl rfl rfl, trivial⟩), trivial⟩ (slices_IndexFunc_Lapi_Zone_api_Zone_ok Try.func61 rfl (by kernel_rfl) rfl (fun hy => allocator_zone_1_ok  hy) hx1) (.inr trivial) rfl <| ALW_val (AVal_assign rfl) <| ALW_nil <| AW_ret ?_
 show RetP _ _ _ _ _ _
 obtain rfl := Option.some.inj h
 exact RetP_1 (R1_E rfl rfl)
theorem buddy_block_ok {a_z : Zone} {a_frame : Int} {r : Int × Int} (h : buddy_block a_z a_frame = some r) : PFn Try.prog 66 [(AV.agg (cZone a_z)), (li a_frame)] (AV.tup [(li r.1), (li r.2)]) := by
 refine PFn_enter Try.func66 rfl Try.ntmps66 Try.results66 rfl ?_
 unfold buddy_block at h
 refine AW_seq <| AW_region <| ALW_step (H' := [.box 46 (cZone a_z)]) (AStep_boxA (t := 46) rfl) <| ALW_val (AVal_assign rfl) <| ALW_val (AVal_assign rfl) <| ALW_nil ?_
 refine AW_seqJ (fun e' H' => Rep 31 0 e' H' (mkE []) [] ∧ buddy_block_j0  = some r) ?_ ?_
 ·
  refine AW_seq <| AW_region <| ALW_val (AVal_move rfl) <| ALW_nil <| AW_block <| AW_loop (σ := Nat × Int) (fun s => s.1) (fun s e' H' => match s with | (n0, i1) => Rep 31 0 e' H' (mkE [(1, (li a_frame)), (2, (AV.ptr 0 0)), (10, (li i1))]) [.box 46 (cZone a_z)] ∧ buddy_block_l0 a_z a_frame n0 i1 = some r) (FUEL, 0) ⟨RepP [0] rfl rfl (by kernel_rfl), h⟩ ?_
  clear h
  rintro ⟨n0, i1⟩ e' H' ⟨hrep, h⟩
  cases n0 with
  | zero => exact absurd (show (none : Option _) = some r from h) (by simp)
  | succ n0 =>
   replace h : buddy_block_b0 a_z a_frame (buddy_block_l0 a_z a_frame n0) i1 = some r := h
   unfold buddy_block_b0 at h
   refine AW_rep hrep ?_
   clear hrep
   refine AW_seq <| AW_region <| ALW_val (AVal_lss rfl rfl) <| ALW_nil <| AW_seq ?_
   refine AW_cond (decide (i1 < 5)) rfl (fun hb1 => ?_) (fun hb1 => ?_)
   ·replace h := cnd_t hb1 h
    refine AW_skip <| AW_seq <| AW_block <| AW_seq <| AW_region <| ALW_val (AVal_move rfl) ?_
    refine ALW_val (AVal_assign rfl) <| ALW_nil <| AW_seq <| AW_region <| ALW_val (AVal_move rfl) <| ALW_val (AVal_move rfl) ?_
    have hb2 := (chk_some h).1
    replace h := (chk_some h).2
    have hb3 := (chk_some h).1
    replace h := (chk_some h).2
    refine ALW_val (AVal_shl (a := 1) (b := i1) rfl rfl hb2 hb3) ?_
    have hb4 := (chk_some h).1
    replace h := (chk_some h).2
    refine ALW_val (AVal_sub rfl rfl hb4) <| ALW_val (AVal_andNot (k := .i64) (a := a_frame) (b := ((1 : Int) * 2 ^ i1.toNat) - 1) rfl rfl) <| ALW_val (AVal_assign rfl) <| ALW_nil <| AW_seq <| AW_region ?_
    refine ALW_val (AVal_move rfl) <| ALW_val (AVal_field Try.underlying46 rfl rfl Try.sizeOf44 rfl) ?_
    have hb5 := (chk_some h).1
    replace h := (chk_some h).2
    refine ALW_val (AVal_idxA (m := 5) (s := 1) (i := i1) (k := 0) (o := 5) Try.underlying44 Try.sizeOf22 rfl rfl hb5) <| ALW_val (AVal_loadArr (k := 0) (o := (5 + i1.toNat * 1)) (cs := (cZone a_z)) (hd := ([(li a_z.node)] ++ [(li a_z.kind)] ++ [(li a_z.start)] ++ [(li a_z.count)] ++ [(li a_z.min)] ++ [])) (tl := ([])) (g := (eS cI)) (d0 := ([] : List Int)) (l := a_z.free) (N := 5) (i := i1.toNat) (a := (ls cI (a_z.free.getD i1.toNat ([] : List Int)))) Try.isAgg22 rfl rfl rfl (congrArg (fun q => 5 + q) (Nat.mul_one _)) (inb_bd hb5).2 rfl rfl) <| ALW_val (AVal_move rfl) ?_
    refine bnd_elim h ?_; clear h; intro x1 hx1 h
    refine ALW_callN Try.func63 rfl (by kernel_rfl) (.fn 63) rfl rfl (slices_BinarySearch_Lint_int_ok hx1) rfl <| ALW_val (AVal_move rfl) <| ALW_val (AVal_extract rfl rfl) <| ALW_val (AVal_extract rfl rfl) <| ALW_val (AVal_assign rfl) <| ALW_val (AVal_assign rfl) ?_
    refine ALW_nil <| AW_seq <| AW_region <| ALW_val (AVal_move rfl) <| ALW_nil ?_
    refine AW_cond (x1.2) rfl (fun hb6 => ?_) (fun hb6 => ?_)
    ·replace h := cnd_t hb6 h
     refine AW_seq <| AW_region <| ALW_val (AVal_move rfl) <| ALW_val (AVal_move rfl) <| ALW_val (AVal_assign rfl) <| ALW_val (AVal_assign rfl) ?_
     refine ALW_nil <| AW_ret ?_
     show RetP _ _ _ _ _ _
     obtain rfl := Option.some.inj h
     exact RetP_2 (R1_E rfl rfl) (R1_E rfl rfl) rfl
    ·replace h := cnd_f hb6 h
     refine AW_skip <| AW_region ?_
     have hb7 := (chk_some h).1
     replace h := (chk_some h).2
     refine ALW_val (AVal_add rfl rfl hb7) <| ALW_val (AVal_move rfl) <| ALW_nil ?_
     exact ⟨(n0, (i1 + 1)), Nat.lt_succ_self _, RepP [0] rfl rfl (by kernel_rfl), h⟩
   ·replace h := cnd_f hb1 h
    refine AW_exit ?_
    exact ⟨RepP [] rfl rfl (by kernel_rfl), h⟩
 ·
  clear h
  rintro e' H' ⟨hrep, h⟩
  refine AW_rep hrep ?_
  clear hrep
  unfold buddy_block_j0 at h
  refine AW_seq <| AW_region <| ALW_val (AVal_assign rfl) <| ALW_val (AVal_assign rfl) <| ALW_nil <| AW_ret ?_
  show RetP _ _ _ _ _ _
  obtain rfl := Option.some.inj h
  exact RetP_2 (R1_E rfl rfl) (R1_E rfl rfl) rfl
theorem buddy_IsFree_ok {a_z : Zone} {a_frame : Int} {r : Bool} (h : buddy_IsFree a_z a_frame = some r) : PFn Try.prog 38 [(AV.agg (cZone a_z)), (li a_frame)] (AV.lit (.bool r)) := by
 refine PFn_enter Try.func38 rfl Try.ntmps38 Try.results38 rfl ?_
 unfold buddy_IsFree at h
 refine AW_seq <| AW_region <| ALW_step (H' := [.box 46 (cZone a_z)]) (AStep_boxA (t := 46) rfl) <| ALW_val (AVal_assign rfl) <| ALW_nil <| AW_seq ?_
 refine AW_seq <| AW_region <| ALW_val (AVal_loadA (k := 0) (o := 0) (m := 10) Try.isAgg46 Try.sizeOf46 rfl rfl rfl rfl rfl) ?_
 refine bnd_elim h ?_; clear h; intro x1 hx1 h
 refine ALW_callN Try.func36 rfl (by kernel_rfl) (.fn 36) rfl rfl (buddy_Check_ok hx1) rfl <| ALW_val (AVal_neq rfl rfl) <| ALW_val (AVal_move rfl) <| ALW_g0 rfl rfl (fun hc1 => AVal.step (AVal_loadA (k := 0) (o := 0) (m := 10) Try.isAgg46 Try.sizeOf46 rfl rfl rfl rfl rfl)) <| ALW_g0 rfl rfl (fun hc2 => AVal.step (AVal_move rfl)) ?_
 refine bnd_elim h ?_; clear h; intro x2 hx2 h
 refine ALW_callG0 (g := 10) (s := !decide (x1 = 0)) (r' := (AV.lit (.bool x2))) rfl rfl (fun hc3 => ⟨62, _, _, [], [(AV.agg (cZone a_z)), (li a_frame), (li 0)], [(AV.agg ([(li a_z.node)] ++ ([(li a_z.kind)] ++ ([(li a_z.start)] ++ ([(li a_z.count)] ++ ([(li a_z.min)] ++ ([AV.any, AV.any, AV.any, AV.any, AV.any] ++ []))))))), (li a_frame), (li 0)], (AV.lit (.bool x2)), [], Try.func62, rfl, by kernel_rfl, (.fn 62), (lcons (gd_t rfl hc3) (lcons (gd_t rfl hc3) (lcons rfl rfl))), ⟨View_hdr (hd := ([(li a_z.node)] ++ [(li a_z.kind)] ++ [(li a_z.start)] ++ [(li a_z.count)] ++ [(li a_z.min)])) (tl := ((cA 5 (eS cI) ([] : List Int) a_z.free))) rfl, View.nr rfl, View.nr rfl, trivial⟩, buddy_inside_ok (cnd_t hc3 hx2), .inl rfl, rfl⟩) <| ALW_g0 rfl rfl (fun hc4 => AVal.step (AVal_not (t := x2) (gd_t rfl hc4))) <| ALW_val (AVal_pick_or rfl rfl) <| ALW_nil ?_
 refine AW_cond ((!decide (x1 = 0)) || (!x2)) rfl (fun hb1 => ?_) (fun hb1 => ?_)
 ·replace h := cnd_t hb1 h
  refine AW_seq <| AW_region <| ALW_val (AVal_assign rfl) <| ALW_nil <| AW_ret ?_
  show RetP _ _ _ _ _ _
  obtain rfl := Option.some.inj h
  exact RetP_1 (R1_E rfl rfl)
 ·replace h := cnd_f hb1 h
  refine AW_skip <| AW_seq <| AW_region <| ALW_val (AVal_loadA (k := 0) (o := 0) (m := 10) Try.isAgg46 Try.sizeOf46 rfl rfl rfl rfl rfl) <| ALW_val (AVal_move rfl) ?_
  refine bnd_elim h ?_; clear h; intro x3 hx3 h
  refine ALW_callN Try.func66 rfl (by kernel_rfl) (.fn 66) rfl rfl (buddy_block_ok hx3) rfl <| ALW_val (AVal_move rfl) <| ALW_val (AVal_extract rfl rfl) <| ALW_val (AVal_extract rfl rfl) <| ALW_val (AVal_assign rfl) <| ALW_val (AVal_assign rfl) ?_
  refine ALW_nil <| AW_seq <| AW_region <| ALW_val (AVal_move rfl) <| ALW_val (AVal_geq rfl rfl) <| ALW_val (AVal_assign rfl) ?_
  refine ALW_nil <| AW_ret ?_
  show RetP _ _ _ _ _ _
  obtain rfl := Option.some.inj h
  exact RetP_1 (R1_E rfl rfl)
theorem allocator_Check_ok {a_p0 : Allocator} {r : Int} (h : allocator_Check a_p0 = some r) : PFn Try.prog 15 [(AV.agg (cAllocator a_p0))] (li r) := by
 refine PFn_enter Try.func15 rfl Try.ntmps15 Try.results15 rfl ?_
 unfold allocator_Check at h
 refine AW_seq <| AW_region <| ALW_step (H' := [.box 29 (cAllocator a_p0)]) (AStep_boxA (t := 29) rfl) <| ALW_val (AVal_assign rfl) <| ALW_nil <| AW_seq ?_
 refine AW_seq <| AW_region <| ALW_val (AVal_loadA (k := 0) (o := 0) (m := 5) Try.isAgg29 Try.sizeOf29 rfl rfl rfl rfl rfl) ?_
 refine bnd_elim h ?_; clear h; intro x1 hx1 h
 refine ALW_callN Try.func25 rfl (by kernel_rfl) (.fn 25) rfl rfl (allocator_machine_ok hx1) rfl <| ALW_val (AVal_not (t := x1) rfl) <| ALW_nil ?_
 refine AW_cond (!x1) rfl (fun hb1 => ?_) (fun hb1 => ?_)
 ·replace h := cnd_t hb1 h
  refine AW_seq <| AW_region <| ALW_val (AVal_assign rfl) <| ALW_nil <| AW_ret ?_
  show RetP _ _ _ _ _ _
  obtain rfl := Option.some.inj h
  exact RetP_1 (R1_E rfl rfl)
 ·replace h := cnd_f hb1 h
  refine AW_skip <| AW_seq <| AW_region <| ALW_val (AVal_assign rfl) <| ALW_nil ?_
  refine AW_seqJ (fun e' H' => Rep 123 0 e' H' (mkE [(1, (AV.ptr 0 0))]) [.box 29 (cAllocator a_p0)] ∧ allocator_Check_j0 a_p0 = some r) ?_ ?_
  ·
   refine AW_seq <| AW_region <| ALW_val (AVal_field Try.underlying29 rfl rfl Try.sizeOf26 rfl) <| ALW_val (AVal_load1 Try.isAgg26 rfl rfl rfl rfl) <| ALW_val (AVal_lenM Try.underlying26 rfl) <| ALW_val (AVal_move rfl) ?_
   refine ALW_nil <| AW_block <| AW_loop (σ := Nat × Int × Int) (fun s => s.1) (fun s e' H' => match s with | (n5, i6, i7) => Rep 123 0 e' H' (mkE [(1, (AV.ptr 0 0)), (3, (li i6)), (23, (ls cZone a_p0.zones)), (24, (li (a_p0.zones.length : Int))), (25, (li i7))]) [.box 29 (cAllocator a_p0)] ∧ allocator_Check_l5 a_p0 n5 i6 i7 = some r) (FUEL, 0, 0) ⟨RepP [0] rfl rfl (by kernel_rfl), h⟩ ?_
   clear h
   rintro ⟨n5, i6, i7⟩ e' H' ⟨hrep, h⟩
   cases n5 with
   | zero => exact absurd (show (none : Option _) = some r from h) (by simp)
   | succ n5 =>
    replace h : allocator_Check_b5 a_p0 (allocator_Check_l5 a_p0 n5) i6 i7 = some r := h
    unfold allocator_Check_b5 at h
    refine AW_rep hrep ?_
    clear hrep
    refine AW_seq <| AW_region <| ALW_val (AVal_lss rfl rfl) <| ALW_nil <| AW_seq ?_
    refine AW_cond (decide (i7 < (a_p0.zones.length : Int))) rfl (fun hb23 => ?_) (fun hb23 => ?_)
    ·replace h := cnd_t hb23 h
     refine AW_skip <| AW_seq <| AW_block <| AW_seq <| AW_region ?_
     have hb24 := (chk_some h).1
     replace h := (chk_some h).2
     refine ALW_val (AVal_idxSM Try.underlying26 Try.sizeOf46 (fun _ => rfl) rfl rfl hb24) <| ALW_val (AVal_loadRA (row := (cZone (at_ a_p0.zones i7))) (o := 0) (m := 10) (la := (cZone (at_ a_p0.zones i7))) Try.isAgg46 Try.sizeOf46 rfl rfl rfl) <| ALW_step (H' := [.box 29 (cAllocator a_p0), .box 46 ([(li 0)] ++ ([(li 0)] ++ ([(li 0)] ++ ([(li 0)] ++ ([(li 0)] ++ ((cA 5 (eS cI) ([] : List Int) (List.replicate 5 ([] : List Int))) ++ []))))))]) (AStep_alloc (t := 46) (vs := [.int .i64 0, .int .i64 0, .int .i64 0, .int .i64 0, .int .i64 0, .slice none 0 0, .slice none 0 0, .slice none 0 0, .slice none 0 0, .slice none 0 0]) (cs := [.lit (.int .i64 0), .lit (.int .i64 0), .lit (.int .i64 0), .lit (.int .i64 0), .lit (.int .i64 0), .sl false [], .sl false [], .sl false [], .sl false [], .sl false []]) Try.zeroValue46 (by kernel_rfl) rfl ⟨SubF.refl _, SubF.refl _, SubF.refl _, SubF.refl _, SubF.refl _, SubF.nils, SubF.nils, SubF.nils, SubF.nils, SubF.nils, trivial⟩) <| ALW_act (H' := [.box 29 (cAllocator a_p0), .box 46 (cZone (at_ a_p0.zones i7))]) (AAct_storeA (k := 1) (o := 0) (cs := ([(li 0)] ++ ([(li 0)] ++ ([(li 0)] ++ ([(li 0)] ++ ([(li 0)] ++ ((cA 5 (eS cI) ([] : List Int) (List.replicate 5 ([] : List Int))) ++ []))))))) (la := (cZone (at_ a_p0.zones i7))) Try.sizeOf46 rfl rfl rfl rfl) <| ALW_nil <| AW_seq ?_
     refine AW_seq <| AW_region <| ALW_val (AVal_loadA (k := 1) (o := 0) (m := 10) Try.isAgg46 Try.sizeOf46 rfl rfl rfl rfl rfl) ?_
     refine bnd_elim h ?_; clear h; intro x5 hx5 h
     refine ALW_callN Try.func36 rfl (by kernel_rfl) (.fn 36) rfl rfl (buddy_Check_ok hx5) rfl <| ALW_val (AVal_assign rfl) <| ALW_nil <| AW_seq <| AW_region <| ALW_val (AVal_move rfl) ?_
     refine ALW_val (AVal_neq rfl rfl) <| ALW_nil ?_
     refine AW_cond (!decide (x5 = 0)) rfl (fun hb25 => ?_) (fun hb25 => ?_)
     ·replace h := cnd_t hb25 h
      refine AW_seq <| AW_region <| ALW_val (AVal_move rfl) <| ALW_val (AVal_assign rfl) <| ALW_nil <| AW_ret ?_
      show RetP _ _ _ _ _ _
      obtain rfl := Option.some.inj h
      exact RetP_1 (R1_E rfl rfl)
     ·replace h := cnd_f hb25 h
      refine AW_skip <| AW_seq <| AW_seq <| AW_region <| ALW_val (AVal_field Try.underlying46 rfl rfl Try.sizeOf3 rfl) <| ALW_val (AVal_load1 Try.isAgg3 rfl rfl rfl rfl) ?_
      refine ALW_val (AVal_move rfl) <| ALW_val (AVal_neq rfl rfl) <| ALW_nil ?_
      refine AW_cond (!decide (((at_ a_p0.zones i7).start) = i6)) rfl (fun hb26 => ?_) (fun hb26 => ?_)
      ·replace h := cnd_t hb26 h
       refine AW_seq <| AW_region <| ALW_val (AVal_assign rfl) <| ALW_nil <| AW_ret ?_
       show RetP _ _ _ _ _ _
       obtain rfl := Option.some.inj h
       exact RetP_1 (R1_E rfl rfl)
      ·replace h := cnd_f hb26 h
       refine AW_skip <| AW_region <| ALW_val (AVal_move rfl) <| ALW_val (AVal_field Try.underlying46 rfl rfl Try.sizeOf3 rfl) <| ALW_val (AVal_load1 Try.isAgg3 rfl rfl rfl rfl) ?_
       have hb27 := (chk_some h).1
       replace h := (chk_some h).2
       refine ALW_val (AVal_add rfl rfl hb27) <| ALW_val (AVal_assign rfl) <| ALW_nil <| AW_region ?_
       have hb28 := (chk_some h).1
       replace h := (chk_some h).2
       refine ALW_val (AVal_add rfl rfl hb28) <| ALW_val (AVal_move rfl) <| ALW_nil ?_
       exact ⟨(n5, (i6 + ((at_ a_p0.zones i7).count)), (i7 + 1)), Nat.lt_succ_self _, RepP [0] rfl rfl (by kernel_rfl), h⟩
    ·replace h := cnd_f hb23 h
     refine AW_exit ?_
     exact ⟨RepP [0] rfl rfl (by kernel_rfl), h⟩
  ·
   clear h
   rintro e' H' ⟨hrep, h⟩
   refine AW_rep hrep ?_
   clear hrep
   unfold allocator_Check_j0 at h
   refine AW_seq <| AW_seq <| AW_region <| ALW_val (AVal_field Try.underlying29 rfl rfl Try.sizeOf27 rfl) <| ALW_val (AVal_load1 Try.isAgg27 rfl rfl rfl rfl) <| ALW_val (AVal_lenM Try.underlying27 rfl) ?_
   refine ALW_val (AVal_field Try.underlying29 rfl rfl Try.sizeOf22 rfl) <| ALW_val (AVal_load1 Try.isAgg22 rfl rfl rfl rfl) <| ALW_val (AVal_lenM Try.underlying22 rfl) <| ALW_val (AVal_neq rfl rfl) <| ALW_nil ?_
   refine AW_cond (!decide ((a_p0.caches.length : Int) = (a_p0.nodes.length : Int))) rfl (fun hb2 => ?_) (fun hb2 => ?_)
   ·replace h := cnd_t hb2 h
    refine AW_seq <| AW_region <| ALW_val (AVal_assign rfl) <| ALW_nil <| AW_ret ?_
    show RetP _ _ _ _ _ _
    obtain rfl := Option.some.inj h
    exact RetP_1 (R1_E rfl rfl)
   ·replace h := cnd_f hb2 h
    refine AW_skip ?_
    refine AW_seqJ (fun e' H' => Rep 123 0 e' H' (mkE [(1, (AV.ptr 0 0))]) [.box 29 (cAllocator a_p0)] ∧ allocator_Check_j1 a_p0 = some r) ?_ ?_
    ·
     refine AW_seq <| AW_region <| ALW_val (AVal_field Try.underlying29 rfl rfl Try.sizeOf27 rfl) <| ALW_val (AVal_load1 Try.isAgg27 rfl rfl rfl rfl) <| ALW_val (AVal_lenM Try.underlying27 rfl) <| ALW_val (AVal_move rfl) ?_
     refine ALW_nil <| AW_block <| AW_loop (σ := Nat × Int) (fun s => s.1) (fun s e' H' => match s with | (n3, i4) => Rep 123 0 e' H' (mkE [(1, (AV.ptr 0 0)), (51, (ls cCpuCache a_p0.caches)), (52, (li (a_p0.caches.length : Int))), (53, (li i4))]) [.box 29 (cAllocator a_p0)] ∧ allocator_Check_l3 a_p0 n3 i4 = some r) (FUEL, 0) ⟨RepP [0] rfl rfl (by kernel_rfl), h⟩ ?_
     clear h
     rintro ⟨n3, i4⟩ e' H' ⟨hrep, h⟩
     cases n3 with
     | zero => exact absurd (show (none : Option _) = some r from h) (by simp)
     | succ n3 =>
      replace h : allocator_Check_b3 a_p0 (allocator_Check_l3 a_p0 n3) i4 = some r := h
      unfold allocator_Check_b3 at h
      refine AW_rep hrep ?_
      clear hrep
      refine AW_seq <| AW_region <| ALW_val (AVal_lss rfl rfl) <| ALW_nil <| AW_seq ?_
      refine AW_cond (decide (i4 < (a_p0.caches.length : Int))) rfl (fun hb15 => ?_) (fun hb15 => ?_)
      ·replace h := cnd_t hb15 h
       refine AW_skip ?_
       refine AW_seqJ (fun e' H' => Rep 123 0 e' H' (mkE [(1, (AV.ptr 0 0)), (51, (ls cCpuCache a_p0.caches)), (52, (li (a_p0.caches.length : Int))), (53, (li i4))]) [.box 29 (cAllocator a_p0)] ∧ allocator_Check_j5 (allocator_Check_l3 a_p0 n3) i4 = some r) ?_ ?_
       ·
        refine AW_block <| AW_seq <| AW_region ?_
        have hb17 := (chk_some h).1
        replace h := (chk_some h).2
        refine ALW_val (AVal_idxSM Try.underlying27 Try.sizeOf50 (fun _ => rfl) rfl rfl hb17) <| ALW_val (AVal_loadRA (row := (cCpuCache (at_ a_p0.caches i4))) (o := 0) (m := 1) (la := (cCpuCache (at_ a_p0.caches i4))) Try.isAgg50 Try.sizeOf50 rfl rfl rfl) <| ALW_step (H' := [.box 29 (cAllocator a_p0), .box 50 ([(ls (cS cI) ([] : List (List Int)))] ++ [])]) (AStep_alloc (t := 50) (vs := [.slice none 0 0]) (cs := [.sl false []]) Try.zeroValue50 (by kernel_rfl) rfl ⟨SubF.nils, trivial⟩) <| ALW_act (H' := [.box 29 (cAllocator a_p0), .box 50 (cCpuCache (at_ a_p0.caches i4))]) (AAct_storeA (k := 1) (o := 0) (cs := ([(ls (cS cI) ([] : List (List Int)))] ++ [])) (la := (cCpuCache (at_ a_p0.caches i4))) Try.sizeOf50 rfl rfl rfl rfl) <| ALW_nil <| AW_seq ?_
        refine AW_seq <| AW_region <| ALW_val (AVal_loadA (k := 1) (o := 0) (m := 1) Try.isAgg50 Try.sizeOf50 rfl rfl rfl rfl rfl) <| ALW_val (AVal_field Try.underlying29 rfl rfl Try.sizeOf26 rfl) <| ALW_val (AVal_load1 Try.isAgg26 rfl rfl rfl rfl) <| ALW_val (AVal_lenM Try.underlying26 rfl) ?_
        refine bnd_elim h ?_; clear h; intro x4 hx4 h
        refine ALW_callN Try.func37 rfl (by kernel_rfl) (.fn 37) rfl rfl (percpu_Check_ok hx4) rfl <| ALW_val (AVal_assign rfl) <| ALW_nil <| AW_seq <| AW_region <| ALW_val (AVal_move rfl) ?_
        refine ALW_val (AVal_neq rfl rfl) <| ALW_nil ?_
        refine AW_cond (!decide (x4 = 0)) rfl (fun hb18 => ?_) (fun hb18 => ?_)
        ·replace h := cnd_t hb18 h
         refine AW_seq <| AW_region <| ALW_val (AVal_move rfl) <| ALW_val (AVal_assign rfl) <| ALW_nil <| AW_ret ?_
         show RetP _ _ _ _ _ _
         obtain rfl := Option.some.inj h
         exact RetP_1 (R1_E rfl rfl)
        ·replace h := cnd_f hb18 h
         refine AW_skip <| AW_seq <| AW_region <| ALW_val (AVal_field Try.underlying50 rfl rfl Try.sizeOf48 rfl) <| ALW_val (AVal_load1 Try.isAgg48 rfl rfl rfl rfl) <| ALW_val (AVal_lenM Try.underlying48 rfl) ?_
         refine ALW_val (AVal_move rfl) <| ALW_nil <| AW_block <| AW_loop (σ := Nat × Int) (fun s => s.1) (fun s e' H' => match s with | (n4, i5) => Rep 123 0 e' H' (mkE [(1, (AV.ptr 0 0)), (51, (ls cCpuCache a_p0.caches)), (52, (li (a_p0.caches.length : Int))), (53, (li i4)), (66, (ls (cS cI) ((at_ a_p0.caches i4).lists))), (67, (li (((at_ a_p0.caches i4).lists).length : Int))), (68, (li i5))]) [.box 29 (cAllocator a_p0)] ∧ allocator_Check_l4 (allocator_Check_l3 a_p0 n3) a_p0 i4 n4 i5 = some r) (FUEL, 0) ⟨RepP [0] rfl rfl (by kernel_rfl), h⟩ ?_
         clear h
         rintro ⟨n4, i5⟩ e' H' ⟨hrep, h⟩
         cases n4 with
         | zero => exact absurd (show (none : Option _) = some r from h) (by simp)
         | succ n4 =>
          replace h : allocator_Check_b4 (allocator_Check_l3 a_p0 n3) a_p0 i4 (allocator_Check_l4 (allocator_Check_l3 a_p0 n3) a_p0 i4 n4) i5 = some r := h
          unfold allocator_Check_b4 at h
          refine AW_rep hrep ?_
          clear hrep
          refine AW_seq <| AW_region <| ALW_val (AVal_lss rfl rfl) <| ALW_nil <| AW_seq ?_
          refine AW_cond (decide (i5 < (((at_ a_p0.caches i4).lists).length : Int))) rfl (fun hb19 => ?_) (fun hb19 => ?_)
          ·replace h := cnd_t hb19 h
           refine AW_skip <| AW_seq <| AW_block <| AW_seq <| AW_region ?_
           have hb20 := (chk_some h).1
           replace h := (chk_some h).2
           refine ALW_val (AVal_idxSM Try.underlying48 Try.sizeOf22 (fun _ => rfl) rfl rfl hb20) <| ALW_val (AVal_loadR1 (o := 0) Try.isAgg22 rfl rfl) <| ALW_val (AVal_assign rfl) <| ALW_nil <| AW_seq <| AW_region ?_
           refine ALW_val (AVal_move rfl) <| ALW_val (AVal_lenM Try.underlying22 rfl) <| ALW_val (AVal_field Try.underlying29 rfl rfl Try.sizeOf3 rfl) <| ALW_val (AVal_load1 Try.isAgg3 rfl rfl rfl rfl) <| ALW_val (AVal_gtr rfl rfl) <| ALW_nil ?_
           refine AW_cond (decide (a_p0.high < ((at_ ((at_ a_p0.caches i4).lists) i5).length : Int))) rfl (fun hb21 => ?_) (fun hb21 => ?_)
           ·replace h := cnd_t hb21 h
            refine AW_seq <| AW_region <| ALW_val (AVal_assign rfl) <| ALW_nil <| AW_ret ?_
            show RetP _ _ _ _ _ _
            obtain rfl := Option.some.inj h
            exact RetP_1 (R1_E rfl rfl)
           ·replace h := cnd_f hb21 h
            refine AW_skip <| AW_region ?_
            have hb22 := (chk_some h).1
            replace h := (chk_some h).2
            refine ALW_val (AVal_add rfl rfl hb22) <| ALW_val (AVal_move rfl) <| ALW_nil ?_
            exact ⟨(n4, (i5 + 1)), Nat.lt_succ_self _, RepP [0] rfl rfl (by kernel_rfl), h⟩
          ·replace h := cnd_f hb19 h
           refine AW_exit ?_
           exact ⟨RepP [0] rfl rfl (by kernel_rfl), h⟩
       ·
        clear h
        rintro e' H' ⟨hrep, h⟩
        refine AW_rep hrep ?_
        clear hrep
        unfold allocator_Check_j5 at h
        refine AW_region ?_
        have hb16 := (chk_some h).1
        replace h := (chk_some h).2
        refine ALW_val (AVal_add rfl rfl hb16) <| ALW_val (AVal_move rfl) <| ALW_nil ?_
        exact ⟨(n3, (i4 + 1)), Nat.lt_succ_self _, RepP [0] rfl rfl (by kernel_rfl), h⟩
      ·replace h := cnd_f hb15 h
       refine AW_exit ?_
       exact ⟨RepP [0] rfl rfl (by kernel_rfl), h⟩
    ·
     clear h
     rintro e' H' ⟨hrep, h⟩
     refine AW_rep hrep ?_
     clear hrep
     unfold allocator_Check_j1 at h
     refine AW_seq <| AW_region <| ALW_step (H' := [.box 29 (cAllocator a_p0), .map (mI Value.bool ([] : List (Int × Bool)))]) (AStep_makeMap) <| ALW_val (AVal_assign rfl) <| ALW_nil ?_
     refine AW_seqJ (fun e' H' => Rep 123 0 e' H' (mkE []) [] ∧ allocator_Check_j2  = some r) ?_ ?_
     ·
      refine AW_seq <| AW_region <| ALW_val (AVal_field Try.underlying29 rfl rfl Try.sizeOf27 rfl) <| ALW_val (AVal_load1 Try.isAgg27 rfl rfl rfl rfl) <| ALW_val (AVal_lenM Try.underlying27 rfl) <| ALW_val (AVal_move rfl) ?_
      refine ALW_nil <| AW_block <| AW_loop (σ := Nat × Int × (List (Int × Bool))) (fun s => s.1) (fun s e' H' => match s with | (n0, i1, l1) => Rep 123 0 e' H' (mkE [(1, (AV.ptr 0 0)), (12, (AV.hd 1)), (81, (ls cCpuCache a_p0.caches)), (82, (li (a_p0.caches.length : Int))), (83, (li i1))]) [.box 29 (cAllocator a_p0), .map (mI Value.bool l1)] ∧ allocator_Check_l0 a_p0 n0 i1 l1 = some r) (FUEL, 0, ([] : List (Int × Bool))) ⟨RepP [0, 1] rfl rfl (by kernel_rfl), h⟩ ?_
      clear h
      rintro ⟨n0, i1, l1⟩ e' H' ⟨hrep, h⟩
      cases n0 with
      | zero => exact absurd (show (none : Option _) = some r from h) (by simp)
      | succ n0 =>
       replace h : allocator_Check_b0 a_p0 (allocator_Check_l0 a_p0 n0) i1 l1 = some r := h
       unfold allocator_Check_b0 at h
       refine AW_rep hrep ?_
       clear hrep
       refine AW_seq <| AW_region <| ALW_val (AVal_lss rfl rfl) <| ALW_nil <| AW_seq ?_
       refine AW_cond (decide (i1 < (a_p0.caches.length : Int))) rfl (fun hb3 => ?_) (fun hb3 => ?_)
       ·replace h := cnd_t hb3 h
        refine AW_skip ?_
        refine AW_seqJ (fun e' H' => ∃ (l2 : List (Int × Bool)), Rep 123 0 e' H' (mkE [(1, (AV.ptr 0 0)), (12, (AV.hd 1)), (81, (ls cCpuCache a_p0.caches)), (82, (li (a_p0.caches.length : Int))), (83, (li i1))]) [.box 29 (cAllocator a_p0), .map (mI Value.bool l2)] ∧ allocator_Check_j3 (allocator_Check_l0 a_p0 n0) i1 l2 = some r) ?_ ?_
        ·
         refine AW_block <| AW_seq <| AW_region ?_
         have hb5 := (chk_some h).1
         replace h := (chk_some h).2
         refine ALW_val (AVal_idxSM Try.underlying27 Try.sizeOf50 (fun _ => rfl) rfl rfl hb5) <| ALW_val (AVal_loadRA (row := (cCpuCache (at_ a_p0.caches i1))) (o := 0) (m := 1) (la := (cCpuCache (at_ a_p0.caches i1))) Try.isAgg50 Try.sizeOf50 rfl rfl rfl) <| ALW_step (H' := [.box 29 (cAllocator a_p0), .map (mI Value.bool l1), .box 50 ([(ls (cS cI) ([] : List (List Int)))] ++ [])]) (AStep_alloc (t := 50) (vs := [.slice none 0 0]) (cs := [.sl false []]) Try.zeroValue50 (by kernel_rfl) rfl ⟨SubF.nils, trivial⟩) <| ALW_act (H' := [.box 29 (cAllocator a_p0), .map (mI Value.bool l1), .box 50 (cCpuCache (at_ a_p0.caches i1))]) (AAct_storeA (k := 2) (o := 0) (cs := ([(ls (cS cI) ([] : List (List Int)))] ++ [])) (la := (cCpuCache (at_ a_p0.caches i1))) Try.sizeOf50 rfl rfl rfl rfl) <| ALW_nil <| AW_seq ?_
         refine AW_region <| ALW_val (AVal_field Try.underlying50 rfl rfl Try.sizeOf48 rfl) <| ALW_val (AVal_load1 Try.isAgg48 rfl rfl rfl rfl) <| ALW_val (AVal_lenM Try.underlying48 rfl) <| ALW_val (AVal_move rfl) <| ALW_nil ?_
         refine AW_block <| AW_loop (σ := Nat × Int × (List (Int × Bool))) (fun s => s.1) (fun s e' H' => match s with | (n1, i2, l3) => Rep 123 0 e' H' (mkE [(1, (AV.ptr 0 0)), (12, (AV.hd 1)), (81, (ls cCpuCache a_p0.caches)), (82, (li (a_p0.caches.length : Int))), (83, (li i1)), (88, (ls (cS cI) ((at_ a_p0.caches i1).lists))), (89, (li (((at_ a_p0.caches i1).lists).length : Int))), (90, (li i2))]) [.box 29 (cAllocator a_p0), .map (mI Value.bool l3)] ∧ allocator_Check_l1 (allocator_Check_l0 a_p0 n0) a_p0 i1 n1 i2 l3 = some r) (FUEL, 0, l1) ⟨RepP [0, 1] rfl rfl (by kernel_rfl), h⟩ ?_
         clear h
         rintro ⟨n1, i2, l3⟩ e' H' ⟨hrep, h⟩
         cases n1 with
         | zero => exact absurd (show (none : Option _) = some r from h) (by simp)
         | succ n1 =>
          replace h : allocator_Check_b1 (allocator_Check_l0 a_p0 n0) a_p0 i1 (allocator_Check_l1 (allocator_Check_l0 a_p0 n0) a_p0 i1 n1) i2 l3 = some r := h
          unfold allocator_Check_b1 at h
          refine AW_rep hrep ?_
          clear hrep
          refine AW_seq <| AW_region <| ALW_val (AVal_lss rfl rfl) <| ALW_nil <| AW_seq ?_
          refine AW_cond (decide (i2 < (((at_ a_p0.caches i1).lists).length : Int))) rfl (fun hb6 => ?_) (fun hb6 => ?_)
          ·replace h := cnd_t hb6 h
           refine AW_skip ?_
           refine AW_seqJ (fun e' H' => ∃ (l4 : List (Int × Bool)), Rep 123 0 e' H' (mkE [(1, (AV.ptr 0 0)), (12, (AV.hd 1)), (81, (ls cCpuCache a_p0.caches)), (82, (li (a_p0.caches.length : Int))), (83, (li i1)), (88, (ls (cS cI) ((at_ a_p0.caches i1).lists))), (89, (li (((at_ a_p0.caches i1).lists).length : Int))), (90, (li i2))]) [.box 29 (cAllocator a_p0), .map (mI Value.bool l4)] ∧ allocator_Check_j4 (allocator_Check_l1 (allocator_Check_l0 a_p0 n0) a_p0 i1 n1) i2 l4 = some r) ?_ ?_
           ·
            refine AW_block <| AW_seq <| AW_region <| ALW_val (AVal_move rfl) ?_
            have hb8 := (chk_some h).1
            replace h := (chk_some h).2
            refine ALW_val (AVal_idxSM Try.underlying48 Try.sizeOf22 (fun _ => rfl) rfl rfl hb8) <| ALW_val (AVal_loadR1 (o := 0) Try.isAgg22 rfl rfl) <| ALW_val (AVal_assign rfl) <| ALW_val (AVal_assign rfl) <| ALW_nil <| AW_seq ?_
            refine AW_region <| ALW_val (AVal_move rfl) <| ALW_val (AVal_lenM Try.underlying22 rfl) <| ALW_val (AVal_move rfl) <| ALW_nil <| AW_block ?_
            refine AW_loop (σ := Nat × Int × (List (Int × Bool))) (fun s => s.1) (fun s e' H' => match s with | (n2, i3, l5) => Rep 123 0 e' H' (mkE [(1, (AV.ptr 0 0)), (12, (AV.hd 1)), (15, (li i2)), (81, (ls cCpuCache a_p0.caches)), (82, (li (a_p0.caches.length : Int))), (83, (li i1)), (88, (ls (cS cI) ((at_ a_p0.caches i1).lists))), (89, (li (((at_ a_p0.caches i1).lists).length : Int))), (90, (li i2)), (95, (ls cI (at_ ((at_ a_p0.caches i1).lists) i2))), (96, (li ((at_ ((at_ a_p0.caches i1).lists) i2).length : Int))), (97, (li i3))]) [.box 29 (cAllocator a_p0), .map (mI Value.bool l5)] ∧ allocator_Check_l2 (allocator_Check_l1 (allocator_Check_l0 a_p0 n0) a_p0 i1 n1) a_p0 i1 i2 n2 i3 l5 = some r) (FUEL, 0, l3) ⟨RepP [0, 1] rfl rfl (by kernel_rfl), h⟩ ?_
            clear h
            rintro ⟨n2, i3, l5⟩ e' H' ⟨hrep, h⟩
            cases n2 with
            | zero => exact absurd (show (none : Option _) = some r from h) (by simp)
            | succ n2 =>
             replace h : allocator_Check_b2 (allocator_Check_l1 (allocator_Check_l0 a_p0 n0) a_p0 i1 n1) a_p0 i1 i2 (allocator_Check_l2 (allocator_Check_l1 (allocator_Check_l0 a_p0 n0) a_p0 i1 n1) a_p0 i1 i2 n2) i3 l5 = some r := h
             unfold allocator_Check_b2 at h
             refine AW_rep hrep ?_
             clear hrep
             refine AW_seq <| AW_region <| ALW_val (AVal_lss rfl rfl) <| ALW_nil <| AW_seq ?_
             refine AW_cond (decide (i3 < ((at_ ((at_ a_p0.caches i1).lists) i2).length : Int))) rfl (fun hb9 => ?_) (fun hb9 => ?_)
             ·replace h := cnd_t hb9 h
              refine AW_skip <| AW_seq <| AW_block <| AW_seq <| AW_region ?_
              have hb10 := (chk_some h).1
              replace h := (chk_some h).2
              refine ALW_val (AVal_idxSM Try.underlying22 Try.sizeOf3 (fun _ => rfl) rfl rfl hb10) <| ALW_val (AVal_loadR1 (o := 0) Try.isAgg3 rfl rfl) <| ALW_val (AVal_assign rfl) <| ALW_nil <| AW_seq <| AW_seq ?_
              refine AW_region <| ALW_val (AVal_loadA (k := 0) (o := 0) (m := 5) Try.isAgg29 Try.sizeOf29 rfl rfl rfl rfl rfl) <| ALW_val (AVal_move rfl) ?_
              refine bnd_elim h ?_; clear h; intro x2 hx2 h
              refine ALW_callN Try.func34 rfl (by kernel_rfl) (.fn 34) rfl rfl (allocator_zone_ok hx2) rfl <| ALW_val (AVal_move rfl) <| ALW_val (AVal_neq rfl rfl) <| ALW_nil ?_
              refine AW_cond (!decide (x2 = i2)) rfl (fun hb11 => ?_) (fun hb11 => ?_)
              ·replace h := cnd_t hb11 h
               refine AW_seq <| AW_region <| ALW_val (AVal_assign rfl) <| ALW_nil <| AW_ret ?_
               show RetP _ _ _ _ _ _
               obtain rfl := Option.some.inj h
               exact RetP_1 (R1_E rfl rfl)
              ·replace h := cnd_f hb11 h
               refine AW_skip <| AW_seq <| AW_seq <| AW_region <| ALW_val (AVal_move rfl) <| ALW_val (AVal_move rfl) ?_
               refine ALW_val (AVal_mget (k := 1) (g := Value.bool) (q := at_ (at_ ((at_ a_p0.caches i1).lists) i2) i3) (l := l5) (dflt := false) (a := (AV.lit (.bool (mget false l5 (at_ (at_ ((at_ a_p0.caches i1).lists) i2) i3))))) Try.underlying83 Try.underlying3 Try.zeroValue4 rfl rfl rfl rfl) <| ALW_val (AVal_move rfl) <| ALW_g0 rfl rfl (fun hc1 => AVal.step (AVal_field Try.underlying29 rfl rfl Try.sizeOf26 rfl)) <| ALW_g0 rfl rfl (fun hc2 => AVal.step (AVal_load1 Try.isAgg26 (gd_t rfl hc2) rfl rfl rfl)) <| ALW_g0 rfl rfl (fun hc3 => AVal.step (AVal_move rfl)) ?_
               have hb12 := (chk_some h).1
               replace h := (chk_some h).2
               refine ALW_g0 rfl rfl (fun hc4 => AVal.step (AVal_idxSM Try.underlying26 Try.sizeOf46 (fun _ => rfl) (gd_t rfl hc4) (gd_t rfl hc4) (imp_t hb12 hc4))) <| ALW_g0 rfl rfl (fun hc5 => AVal.step (AVal_loadRA (row := (cZone (at_ a_p0.zones i2))) (o := 0) (m := 10) (la := (cZone (at_ a_p0.zones i2))) Try.isAgg46 Try.sizeOf46 (gd_t rfl hc5) rfl rfl)) <| ALW_g0 rfl rfl (fun hc6 => AVal.step (AVal_move rfl)) ?_
               refine bnd_elim h ?_; clear h; intro x3 hx3 h
               refine ALW_callG0 (g := 109) (s := mget false l5 (at_ (at_ ((at_ a_p0.caches i1).lists) i2) i3)) (r' := (AV.lit (.bool x3))) rfl rfl (fun hc7 => ⟨38, _, _, [], [(AV.agg (cZone (at_ a_p0.zones i2))), (li (at_ (at_ ((at_ a_p0.caches i1).lists) i2) i3))], [(AV.agg (cZone (at_ a_p0.zones i2))), (li (at_ (at_ ((at_ a_p0.caches i1).lists) i2) i3))], (AV.lit (.bool x3)), [], Try.func38, rfl, by kernel_rfl, (.fn 38), (lcons (gd_t rfl hc7) (lcons (gd_t rfl hc7) rfl)), ⟨View.nr rfl, View.nr rfl, trivial⟩, buddy_IsFree_ok (cnd_t hc7 hx3), .inl rfl, rfl⟩) <| ALW_val (AVal_pick_or rfl rfl) <| ALW_nil ?_
               refine AW_cond ((mget false l5 (at_ (at_ ((at_ a_p0.caches i1).lists) i2) i3)) || x3) rfl (fun hb13 => ?_) (fun hb13 => ?_)
               ·replace h := cnd_t hb13 h
                refine AW_seq <| AW_region <| ALW_val (AVal_assign rfl) <| ALW_nil <| AW_ret ?_
                show RetP _ _ _ _ _ _
                obtain rfl := Option.some.inj h
                exact RetP_1 (R1_E rfl rfl)
               ·replace h := cnd_f hb13 h
                refine AW_skip <| AW_region <| ALW_val (AVal_move rfl) <| ALW_val (AVal_move rfl) <| ALW_act (H' := [.box 29 (cAllocator a_p0), .map (mI Value.bool (mset l5 (at_ (at_ ((at_ a_p0.caches i1).lists) i2) i3) true))]) (AAct_mset (k := 1) (g := Value.bool) (q := at_ (at_ ((at_ a_p0.caches i1).lists) i2) i3) (l := l5) (v := true) Try.underlying83 Try.underlying3 rfl rfl rfl rfl) <| ALW_nil ?_
                refine AW_region ?_
                have hb14 := (chk_some h).1
                replace h := (chk_some h).2
                refine ALW_val (AVal_add rfl rfl hb14) <| ALW_val (AVal_move rfl) <| ALW_nil ?_
                exact ⟨(n2, (i3 + 1), (mset l5 (at_ (at_ ((at_ a_p0.caches i1).lists) i2) i3) true)), Nat.lt_succ_self _, RepP [0, 1] rfl rfl (by kernel_rfl), h⟩
             ·replace h := cnd_f hb9 h
              refine AW_exit ?_
              exact ⟨l5, RepP [0, 1] rfl rfl (by kernel_rfl), h⟩
           ·
            clear h
            rintro e' H' ⟨l4, hrep, h⟩
            refine AW_rep hrep ?_
            clear hrep
            unfold allocator_Check_j4 at h
            refine AW_region ?_
            have hb7 := (chk_some h).1
            replace h := (chk_some h).2
            refine ALW_val (AVal_add rfl rfl hb7) <| ALW_val (AVal_move rfl) <| ALW_nil ?_
            exact ⟨(n1, (i2 + 1), l4), Nat.lt_succ_self _, RepP [0, 1] rfl rfl (by kernel_rfl), h⟩
          ·replace h := cnd_f hb6 h
           refine AW_exit ?_
           exact ⟨l3, RepP [0, 1] rfl rfl (by kernel_rfl), h⟩
        ·
         clear h
         rintro e' H' ⟨l2, hrep, h⟩
         refine AW_rep hrep ?_
         clear hrep
         unfold allocator_Check_j3 at h
         refine AW_region ?_
         have hb4 := (chk_some h).1
         replace h := (chk_some h).2
         refine ALW_val (AVal_add rfl rfl hb4) <| ALW_val (AVal_move rfl) <| ALW_nil ?_
         exact ⟨(n0, (i1 + 1), l2), Nat.lt_succ_self _, RepP [0, 1] rfl rfl (by kernel_rfl), h⟩
       ·replace h := cnd_f hb3 h
        refine AW_exit ?_
        exact ⟨RepP [] rfl rfl (by kernel_rfl), h⟩
     ·
      clear h
      rintro e' H' ⟨hrep, h⟩
      refine AW_rep hrep ?_
      clear hrep
      unfold allocator_Check_j2 at h
      refine AW_seq <| AW_region <| ALW_val (AVal_assign rfl) <| ALW_nil <| AW_ret ?_
      show RetP _ _ _ _ _ _
      obtain rfl := Option.some.inj h
      exact RetP_1 (R1_E rfl rfl)
theorem allocator_Frames_ok {a_a : Allocator} {r : Int} (h : allocator_Frames a_a = some r) : PFn Try.prog 13 [(AV.agg (cAllocator a_a))] (li r) := by
 refine PFn_enter Try.func13 rfl Try.ntmps13 Try.results13 rfl ?_
 unfold allocator_Frames at h
 refine AW_seq <| AW_region <| ALW_step (H' := [.box 29 (cAllocator a_a)]) (AStep_boxA (t := 29) rfl) <| ALW_val (AVal_assign rfl) <| ALW_nil <| AW_seq ?_
 refine AW_seq <| AW_region <| ALW_val (AVal_loadA (k := 0) (o := 0) (m := 5) Try.isAgg29 Try.sizeOf29 rfl rfl rfl rfl rfl) ?_
 refine bnd_elim h ?_; clear h; intro x1 hx1 h
 refine ALW_callN Try.func15 rfl (by kernel_rfl) (.fn 15) rfl rfl (allocator_Check_ok hx1) rfl <| ALW_val (AVal_neq rfl rfl) <| ALW_nil ?_
 refine AW_cond (!decide (x1 = 0)) rfl (fun hb1 => ?_) (fun hb1 => ?_)
 ·replace h := cnd_t hb1 h
  refine AW_seq <| AW_region <| ALW_val (AVal_assign rfl) <| ALW_nil <| AW_ret ?_
  show RetP _ _ _ _ _ _
  obtain rfl := Option.some.inj h
  exact RetP_1 (R1_E rfl rfl)
 ·replace h := cnd_f hb1 h
  refine AW_skip <| AW_seq <| AW_region <| ALW_val (AVal_field Try.underlying29 rfl rfl Try.sizeOf26 rfl) <| ALW_val (AVal_load1 Try.isAgg26 rfl rfl rfl rfl) <| ALW_val (AVal_field Try.underlying29 rfl rfl Try.sizeOf26 rfl) ?_
  refine ALW_val (AVal_load1 Try.isAgg26 rfl rfl rfl rfl) <| ALW_val (AVal_lenM Try.underlying26 rfl) ?_
  have hb2 := (chk_some h).1
  replace h := (chk_some h).2
  refine ALW_val (AVal_sub rfl rfl hb2) ?_
  have hb3 := (chk_some h).1
  replace h := (chk_some h).2
  refine ALW_val (AVal_idxSM Try.underlying26 Try.sizeOf46 (fun _ => rfl) rfl rfl hb3) <| ALW_val (AVal_loadRA (row := (cZone (at_ a_a.zones ((a_a.zones.length : Int) - 1)))) (o := 0) (m := 10) (la := (cZone (at_ a_a.zones ((a_a.zones.length : Int) - 1)))) Try.isAgg46 Try.sizeOf46 rfl rfl rfl) <| ALW_step (H' := [.box 29 (cAllocator a_a), .box 46 ([(li 0)] ++ ([(li 0)] ++ ([(li 0)] ++ ([(li 0)] ++ ([(li 0)] ++ ((cA 5 (eS cI) ([] : List Int) (List.replicate 5 ([] : List Int))) ++ []))))))]) (AStep_alloc (t := 46) (vs := [.int .i64 0, .int .i64 0, .int .i64 0, .int .i64 0, .int .i64 0, .slice none 0 0, .slice none 0 0, .slice none 0 0, .slice none 0 0, .slice none 0 0]) (cs := [.lit (.int .i64 0), .lit (.int .i64 0), .lit (.int .i64 0), .lit (.int .i64 0), .lit (.int .i64 0), .sl false [], .sl false [], .sl false [], .sl false [], .sl false []]) Try.zeroValue46 (by kernel_rfl) rfl ⟨SubF.refl _, SubF.refl _, SubF.refl _, SubF.refl _, SubF.refl _, SubF.nils, SubF.nils, SubF.nils, SubF.nils, SubF.nils, trivial⟩) <| ALW_act (H' := [.box 29 (cAllocator a_a), .box 46 (cZone (at_ a_a.zones ((a_a.zones.length : Int) - 1)))]) (AAct_storeA (k := 1) (o := 0) (cs := ([(li 0)] ++ ([(li 0)] ++ ([(li 0)] ++ ([(li 0)] ++ ([(li 0)] ++ ((cA 5 (eS cI) ([] : List Int) (List.replicate 5 ([] : List Int))) ++ []))))))) (la := (cZone (at_ a_a.zones ((a_a.zones.length : Int) - 1)))) Try.sizeOf46 rfl rfl rfl rfl) <| ALW_nil <| AW_seq ?_
  refine AW_region <| ALW_val (AVal_field Try.underlying46 rfl rfl Try.sizeOf3 rfl) <| ALW_val (AVal_load1 Try.isAgg3 rfl rfl rfl rfl) <| ALW_val (AVal_field Try.underlying46 rfl rfl Try.sizeOf3 rfl) <| ALW_val (AVal_load1 Try.isAgg3 rfl rfl rfl rfl) ?_
  have hb4 := (chk_some h).1
  replace h := (chk_some h).2
  refine ALW_val (AVal_add rfl rfl hb4) <| ALW_val (AVal_assign rfl) <| ALW_nil <| AW_ret ?_
  show RetP _ _ _ _ _ _
  obtain rfl := Option.some.inj h
  exact RetP_1 (R1_E rfl rfl)
theorem buddy_Unusable_ok {a_z : Zone} {a_order : Int} {r : Int} (h : buddy_Unusable a_z a_order = some r) : PFn Try.prog 96 [(AV.agg (cZone a_z)), (li a_order)] (li r) := by
 refine PFn_enter Try.func96 rfl Try.ntmps96 Try.results96 rfl ?_
 unfold buddy_Unusable at h
 refine AW_seq <| AW_region <| ALW_step (H' := [.box 46 (cZone a_z)]) (AStep_boxA (t := 46) rfl) <| ALW_val (AVal_assign rfl) <| ALW_nil <| AW_seq ?_
 refine AW_seq <| AW_region <| ALW_val (AVal_loadA (k := 0) (o := 0) (m := 10) Try.isAgg46 Try.sizeOf46 rfl rfl rfl rfl rfl) ?_
 refine bnd_elim h ?_; clear h; intro x1 hx1 h
 refine ALW_callN Try.func36 rfl (by kernel_rfl) (.fn 36) rfl rfl (buddy_Check_ok hx1) rfl <| ALW_val (AVal_neq rfl rfl) <| ALW_val (AVal_move rfl) <| ALW_g0 rfl rfl (fun hc1 => AVal.step (AVal_move rfl)) <| ALW_g0 rfl rfl (fun hc2 => AVal.step (AVal_lss (gd_t rfl hc2) rfl)) <| ALW_val (AVal_pick_or rfl rfl) ?_
 refine ALW_val (AVal_move rfl) <| ALW_g0 rfl rfl (fun hc3 => AVal.step (AVal_move rfl)) <| ALW_g0 rfl rfl (fun hc4 => AVal.step (AVal_gtr (gd_t rfl hc4) rfl)) <| ALW_val (AVal_pick_or rfl rfl) <| ALW_nil ?_
 refine AW_cond (((!decide (x1 = 0)) || (decide (a_order < 0))) || (decide (4 < a_order))) rfl (fun hb1 => ?_) (fun hb1 => ?_)
 ·replace h := cnd_t hb1 h
  refine AW_seq <| AW_region <| ALW_val (AVal_assign rfl) <| ALW_nil <| AW_ret ?_
  show RetP _ _ _ _ _ _
  obtain rfl := Option.some.inj h
  exact RetP_1 (R1_E rfl rfl)
 ·replace h := cnd_f hb1 h
  refine AW_skip <| AW_seq <| AW_region <| ALW_val (AVal_assign rfl) <| ALW_nil ?_
  refine AW_seqJ (fun e' H' => ∃ (i1 : Int), Rep 36 0 e' H' (mkE [(5, (li i1))]) [] ∧ buddy_Unusable_j0 i1 = some r) ?_ ?_
  ·
   refine AW_seq <| AW_region <| ALW_val (AVal_field Try.underlying46 rfl rfl Try.sizeOf44 rfl) <| ALW_val (AVal_move rfl) <| ALW_rep (Rep_frzP (k := 0) (cs := (cZone a_z)) (cs' := (cZone a_z)) (ds := [(2, 0), (19, 5)]) rfl rfl rfl ⟨rfl, rfl, trivial⟩) ?_
   have hb2 := (chk_some h).1
   replace h := (chk_some h).2
   have hb3 := (chk_some h).1
   replace h := (chk_some h).2
   refine ALW_val (AVal_sliceArr (o := 5) (cs := (cZone a_z)) (hd := ([(li a_z.node)] ++ [(li a_z.kind)] ++ [(li a_z.start)] ++ [(li a_z.count)] ++ [(li a_z.min)] ++ [])) (tl := ([])) (g := (eS cI)) (d0 := ([] : List Int)) (l := a_z.free) (hi := a_order) (f := (cS cI)) Try.underlying44 Try.sizeOf22 rfl rfl rfl (fun _ => rfl) rfl hb2 hb3 rfl) <| ALW_val (AVal_lenM Try.underlying48 rfl) <| ALW_val (AVal_move rfl) <| ALW_nil <| AW_block <| AW_loop (σ := Nat × Int × Int) (fun s => s.1) (fun s e' H' => match s with | (n0, i2, i3) => Rep 36 0 e' H' (mkE [(5, (li i2)), (21, (ls (cS cI) (cutL a_z.free 0 a_order))), (22, (li ((cutL a_z.free 0 a_order).length : Int))), (23, (li i3))]) [] ∧ buddy_Unusable_l0 a_z a_order n0 i2 i3 = some r) (FUEL, 0, 0) ⟨RepP [] rfl rfl (by kernel_rfl), h⟩ ?_
   clear h
   rintro ⟨n0, i2, i3⟩ e' H' ⟨hrep, h⟩
   cases n0 with
   | zero => exact absurd (show (none : Option _) = some r from h) (by simp)
   | succ n0 =>
    replace h : buddy_Unusable_b0 a_z a_order (buddy_Unusable_l0 a_z a_order n0) i2 i3 = some r := h
    unfold buddy_Unusable_b0 at h
    refine AW_rep hrep ?_
    clear hrep
    refine AW_seq <| AW_region <| ALW_val (AVal_lss rfl rfl) <| ALW_nil <| AW_seq ?_
    refine AW_cond (decide (i3 < ((cutL a_z.free 0 a_order).length : Int))) rfl (fun hb4 => ?_) (fun hb4 => ?_)
    ·replace h := cnd_t hb4 h
     refine AW_skip <| AW_seq <| AW_block <| AW_seq <| AW_region <| ALW_val (AVal_move rfl) ?_
     have hb5 := (chk_some h).1
     replace h := (chk_some h).2
     refine ALW_val (AVal_idxSM Try.underlying48 Try.sizeOf22 (fun _ => rfl) rfl rfl hb5) <| ALW_val (AVal_loadR1 (o := 0) Try.isAgg22 rfl rfl) <| ALW_val (AVal_assign rfl) <| ALW_val (AVal_assign rfl) <| ALW_nil <| AW_region ?_
     refine ALW_val (AVal_move rfl) <| ALW_val (AVal_move rfl) <| ALW_val (AVal_lenM Try.underlying22 rfl) <| ALW_val (AVal_move rfl) ?_
     have hb6 := (chk_some h).1
     replace h := (chk_some h).2
     have hb7 := (chk_some h).1
     replace h := (chk_some h).2
     refine ALW_val (AVal_shl (a := ((at_ (cutL a_z.free 0 a_order) i3).length : Int)) (b := i3) rfl rfl hb6 hb7) ?_
     have hb8 := (chk_some h).1
     replace h := (chk_some h).2
     refine ALW_val (AVal_add rfl rfl hb8) <| ALW_val (AVal_assign rfl) <| ALW_nil <| AW_region ?_
     have hb9 := (chk_some h).1
     replace h := (chk_some h).2
     refine ALW_val (AVal_add rfl rfl hb9) <| ALW_val (AVal_move rfl) <| ALW_nil ?_
     exact ⟨(n0, (i2 + (((at_ (cutL a_z.free 0 a_order) i3).length : Int) * 2 ^ i3.toNat)), (i3 + 1)), Nat.lt_succ_self _, RepP [] rfl rfl (by kernel_rfl), h⟩
    ·replace h := cnd_f hb4 h
     refine AW_exit ?_
     exact ⟨i2, RepP [] rfl rfl (by kernel_rfl), h⟩
  ·
   clear h
   rintro e' H' ⟨i1, hrep, h⟩
   refine AW_rep hrep ?_
   clear hrep
   unfold buddy_Unusable_j0 at h
   refine AW_seq <| AW_region <| ALW_val (AVal_move rfl) <| ALW_val (AVal_assign rfl) <| ALW_nil <| AW_ret ?_
   show RetP _ _ _ _ _ _
   obtain rfl := Option.some.inj h
   exact RetP_1 (R1_E rfl rfl)
theorem buddy_last_ok {a_z : Zone} {r : Int} (h : buddy_last a_z = some r) : PFn Try.prog 97 [(AV.agg (cZone a_z))] (li r) := by
 refine PFn_enter Try.func97 rfl Try.ntmps97 Try.results97 rfl ?_
 unfold buddy_last at h
 refine AW_seq <| AW_region <| ALW_step (H' := [.box 46 (cZone a_z)]) (AStep_boxA (t := 46) rfl) <| ALW_val (AVal_assign rfl) <| ALW_nil <| AW_seq ?_
 refine AW_seq <| AW_region <| ALW_val (AVal_loadA (k := 0) (o := 0) (m := 10) Try.isAgg46 Try.sizeOf46 rfl rfl rfl rfl rfl) ?_
 refine bnd_elim h ?_; clear h; intro x1 hx1 h
 refine ALW_callN Try.func36 rfl (by kernel_rfl) (.fn 36) rfl rfl (buddy_Check_ok hx1) rfl <| ALW_val (AVal_neq rfl rfl) <| ALW_nil ?_
 refine AW_cond (!decide (x1 = 0)) rfl (fun hb1 => ?_) (fun hb1 => ?_)
 ·replace h := cnd_t hb1 h
  refine AW_seq <| AW_region <| ALW_val (AVal_assign rfl) <| ALW_nil <| AW_ret ?_
  show RetP _ _ _ _ _ _
  obtain rfl := Option.some.inj h
  exact RetP_1 (R1_E rfl rfl)
 ·replace h := cnd_f hb1 h
  refine AW_skip <| AW_seq <| AW_region <| ALW_val (AVal_field Try.underlying46 rfl rfl Try.sizeOf44 rfl) <| ALW_val (AVal_idxA (m := 5) (s := 1) (i := 4) (k := 0) (o := 5) Try.underlying44 Try.sizeOf22 rfl rfl (by decide)) <| ALW_val (AVal_loadArr (k := 0) (o := 9) (cs := (cZone a_z)) (hd := ([(li a_z.node)] ++ [(li a_z.kind)] ++ [(li a_z.start)] ++ [(li a_z.count)] ++ [(li a_z.min)] ++ [])) (tl := ([])) (g := (eS cI)) (d0 := ([] : List Int)) (l := a_z.free) (N := 5) (i := (4 : Int).toNat) (a := (ls cI (a_z.free.getD (4 : Int).toNat ([] : List Int)))) Try.isAgg22 rfl rfl rfl rfl (by decide) rfl rfl) ?_
  refine ALW_val (AVal_lenM Try.underlying22 rfl) ?_
  have hb2 := (chk_some h).1
  replace h := (chk_some h).2
  refine ALW_val (AVal_shl (a := ((a_z.free.getD (4 : Int).toNat ([] : List Int)).length : Int)) (b := 4) rfl rfl (by decide) hb2) <| ALW_val (AVal_assign rfl) <| ALW_nil <| AW_ret ?_
  show RetP _ _ _ _ _ _
  obtain rfl := Option.some.inj h
  exact RetP_1 (R1_E rfl rfl)
theorem buddy_Count_ok {a_z : Zone} {r : Int} (h : buddy_Count a_z = some r) : PFn Try.prog 73 [(AV.agg (cZone a_z))] (li r) := by
 refine PFn_enter Try.func73 rfl Try.ntmps73 Try.results73 rfl ?_
 unfold buddy_Count at h
 refine AW_seq <| AW_region <| ALW_step (H' := [.box 46 (cZone a_z)]) (AStep_boxA (t := 46) rfl) <| ALW_val (AVal_assign rfl) <| ALW_nil <| AW_seq ?_
 refine bnd_elim h ?_; clear h; intro x1 hx1 h
 refine bnd_elim h ?_; clear h; intro x2 hx2 h
 have hb1 := (chk_some h).1
 replace h := (chk_some h).2
 show AW _ _ _ _ _ _ [.box 46 (cZone a_z)]
 refine AW_draw (n := 8) (m := 0) [.head 0 0, .head 0 0, .head 0 0, .head 0 0, .head 0 0, .head 0 0] [] [(AV.agg (cZone a_z)), (li x1), (AV.agg (cZone a_z)), (li x2), (li (x1 + x2)), (li (x1 + x2))] [[.box 46 (cZone a_z)]] (by kernel_rfl) (by kernel_rfl) ⟨?_, ?_, ?_, ?_, ?_, ?_, trivial⟩ ?_
 ·exact fun e s p => ALW1 (AVal_loadA (k := 0) (o := 0) (m := 10) (la := (cZone a_z)) Try.isAgg46 Try.sizeOf46 (s 1 rfl) rfl rfl rfl rfl) ⟨fun _ => rfl, rfl⟩
 ·
  intro e2 hs2 hp2
  refine ALW_callN (r := (li x1)) (la := [(AV.agg (cZone a_z)), (li 4)]) Try.func96 rfl (by kernel_rfl) (.fn 96) (lcons hp2.1 (lcons rfl rfl)) rfl (buddy_Unusable_ok hx1) rfl ?_
  exact ALW_nil ⟨fun _ => rfl, rfl⟩
 ·exact fun e s p => ALW1 (AVal_loadA (k := 0) (o := 0) (m := 10) (la := (cZone a_z)) Try.isAgg46 Try.sizeOf46 (s 1 rfl) rfl rfl rfl rfl) ⟨fun _ => rfl, rfl⟩
 ·
  intro e4 hs4 hp4
  refine ALW_callN (r := (li x2)) (la := [(AV.agg (cZone a_z))]) Try.func97 rfl (by kernel_rfl) (.fn 97) (lcons hp4.1 rfl) rfl (buddy_last_ok hx2) rfl ?_
  exact ALW_nil ⟨fun _ => rfl, rfl⟩
 ·exact fun e s p => ALW1 (AVal_add (a := x1) (b := x2) p.1 p.2.1 hb1) ⟨fun _ => rfl, rfl⟩
 ·exact fun e s p => ALW1 (AVal_assign (av := (li (x1 + x2))) p.2.2.2.2.2.2.1) ⟨fun _ => rfl, rfl⟩
 intro e7 hs7 hq1
 refine AW_rep (Rep_mk (l := [(2, (li (x1 + x2)))]) ⟨(hq1 5 (by decide) (by decide)), trivial⟩) <| AW_ret ?_
 show RetP _ _ _ _ _ _
 obtain rfl := Option.some.inj h
 exact RetP_1 (R1_E rfl rfl)
theorem allocator_count_ok {a_a : Allocator} {a_z : Int} {r : Int} (h : allocator_count a_a a_z = some r) : PFn Try.prog 41 [(AV.agg (cAllocator a_a)), (li a_z)] (li r) := by
 refine PFn_enter Try.func41 rfl Try.ntmps41 Try.results41 rfl ?_
 unfold allocator_count at h
 refine AW_seq <| AW_region <| ALW_step (H' := [.box 29 (cAllocator a_a)]) (AStep_boxA (t := 29) rfl) <| ALW_val (AVal_assign rfl) <| ALW_nil <| AW_seq ?_
 refine AW_region <| ALW_val (AVal_field Try.underlying29 rfl rfl Try.sizeOf26 rfl) <| ALW_val (AVal_load1 Try.isAgg26 rfl rfl rfl rfl) <| ALW_val (AVal_move rfl) ?_
 have hb1 := (chk_some h).1
 replace h := (chk_some h).2
 refine ALW_val (AVal_idxSM Try.underlying26 Try.sizeOf46 (fun _ => rfl) rfl rfl hb1) <| ALW_val (AVal_loadRA (row := (cZone (at_ a_a.zones a_z))) (o := 0) (m := 10) (la := (cZone (at_ a_a.zones a_z))) Try.isAgg46 Try.sizeOf46 rfl rfl rfl) ?_
 refine bnd_elim h ?_; clear h; intro x1 hx1 h
 refine ALW_callN Try.func73 rfl (by kernel_rfl) (.fn 73) rfl rfl (buddy_Count_ok hx1) rfl <| ALW_val (AVal_assign rfl) <| ALW_nil ?_
 refine AW_seqJ (fun e' H' => ∃ (i1 : Int), Rep 31 0 e' H' (mkE [(5, (li i1))]) [] ∧ allocator_count_j0 i1 = some r) ?_ ?_
 ·
  refine AW_seq <| AW_region <| ALW_val (AVal_field Try.underlying29 rfl rfl Try.sizeOf27 rfl) <| ALW_val (AVal_load1 Try.isAgg27 rfl rfl rfl rfl) <| ALW_val (AVal_lenM Try.underlying27 rfl) <| ALW_val (AVal_move rfl) ?_
  refine ALW_nil <| AW_block <| AW_loop (σ := Nat × Int × Int) (fun s => s.1) (fun s e' H' => match s with | (n0, i2, i3) => Rep 31 0 e' H' (mkE [(1, (li a_z)), (5, (li i2)), (15, (ls cCpuCache a_a.caches)), (16, (li (a_a.caches.length : Int))), (17, (li i3))]) [] ∧ allocator_count_l0 a_a a_z n0 i2 i3 = some r) (FUEL, x1, 0) ⟨RepP [] rfl rfl (by kernel_rfl), h⟩ ?_
  clear h
  rintro ⟨n0, i2, i3⟩ e' H' ⟨hrep, h⟩
  cases n0 with
  | zero => exact absurd (show (none : Option _) = some r from h) (by simp)
  | succ n0 =>
   replace h : allocator_count_b0 a_a a_z (allocator_count_l0 a_a a_z n0) i2 i3 = some r := h
   unfold allocator_count_b0 at h
   refine AW_rep hrep ?_
   clear hrep
   refine AW_seq <| AW_region <| ALW_val (AVal_lss rfl rfl) <| ALW_nil <| AW_seq ?_
   refine AW_cond (decide (i3 < (a_a.caches.length : Int))) rfl (fun hb2 => ?_) (fun hb2 => ?_)
   ·replace h := cnd_t hb2 h
    refine AW_skip <| AW_seq <| AW_block <| AW_seq <| AW_region ?_
    have hb3 := (chk_some h).1
    replace h := (chk_some h).2
    refine ALW_val (AVal_idxSM Try.underlying27 Try.sizeOf50 (fun _ => rfl) rfl rfl hb3) <| ALW_val (AVal_loadRA (row := (cCpuCache (at_ a_a.caches i3))) (o := 0) (m := 1) (la := (cCpuCache (at_ a_a.caches i3))) Try.isAgg50 Try.sizeOf50 rfl rfl rfl) <| ALW_step (H' := [.box 50 ([(ls (cS cI) ([] : List (List Int)))] ++ [])]) (AStep_alloc (t := 50) (vs := [.slice none 0 0]) (cs := [.sl false []]) Try.zeroValue50 (by kernel_rfl) rfl ⟨SubF.nils, trivial⟩) <| ALW_act (H' := [.box 50 (cCpuCache (at_ a_a.caches i3))]) (AAct_storeA (k := 0) (o := 0) (cs := ([(ls (cS cI) ([] : List (List Int)))] ++ [])) (la := (cCpuCache (at_ a_a.caches i3))) Try.sizeOf50 rfl rfl rfl rfl) <| ALW_nil <| AW_region ?_
    refine ALW_val (AVal_move rfl) <| ALW_val (AVal_field Try.underlying50 rfl rfl Try.sizeOf48 rfl) <| ALW_val (AVal_load1 Try.isAgg48 rfl rfl rfl rfl) <| ALW_val (AVal_move rfl) ?_
    have hb4 := (chk_some h).1
    replace h := (chk_some h).2
    refine ALW_val (AVal_idxSM Try.underlying48 Try.sizeOf22 (fun _ => rfl) rfl rfl hb4) <| ALW_val (AVal_loadR1 (o := 0) Try.isAgg22 rfl rfl) <| ALW_val (AVal_lenM Try.underlying22 rfl) ?_
    have hb5 := (chk_some h).1
    replace h := (chk_some h).2
    refine ALW_val (AVal_add rfl rfl hb5) <| ALW_val (AVal_assign rfl) <| ALW_nil <| AW_region ?_
    have hb6 := (chk_some h).1
    replace h := (chk_some h).2
    refine ALW_val (AVal_add rfl rfl hb6) <| ALW_val (AVal_move rfl) <| ALW_nil ?_
    exact ⟨(n0, (i2 + ((at_ ((at_ a_a.caches i3).lists) a_z).length : Int)), (i3 + 1)), Nat.lt_succ_self _, RepP [] rfl rfl (by kernel_rfl), h⟩
   ·replace h := cnd_f hb2 h
    refine AW_exit ?_
    exact ⟨i2, RepP [] rfl rfl (by kernel_rfl), h⟩
 ·
  clear h
  rintro e' H' ⟨i1, hrep, h⟩
  refine AW_rep hrep ?_
  clear hrep
  unfold allocator_count_j0 at h
  refine AW_seq <| AW_region <| ALW_val (AVal_move rfl) <| ALW_val (AVal_assign rfl) <| ALW_nil <| AW_ret ?_
  show RetP _ _ _ _ _ _
  obtain rfl := Option.some.inj h
  exact RetP_1 (R1_E rfl rfl)
theorem allocator_room_ok {a_a : Allocator} {a_z : Int} {r : Int} (h : allocator_room a_a a_z = some r) : PFn Try.prog 39 [(AV.agg (cAllocator a_a)), (li a_z)] (li r) := by
 refine PFn_enter Try.func39 rfl Try.ntmps39 Try.results39 rfl ?_
 unfold allocator_room at h
 refine AW_seq <| AW_region <| ALW_step (H' := [.box 29 (cAllocator a_a)]) (AStep_boxA (t := 29) rfl) <| ALW_val (AVal_assign rfl) <| ALW_nil <| AW_seq ?_
 refine bnd_elim h ?_; clear h; intro x1 hx1 h
 have hb1 := (chk_some h).1
 replace h := (chk_some h).2
 have hb2 := (chk_some h).1
 replace h := (chk_some h).2
 show AW _ _ _ _ _ _ [.box 29 (cAllocator a_a)]
 refine AW_draw (n := 15) (m := 0) [.head 0 0, .head 0 0, .head 0 0, .head 0 0, .head 0 0, .head 0 0, .head 0 0, .head 0 0, .head 0 0, .head 0 0, .head 0 0] [] [(AV.agg (cAllocator a_a)), (li a_z), (li x1), (AV.ptr 0 3), (ls cZone a_a.zones), (li a_z), (AV.rp (cZone (at_ a_a.zones a_z)) 0), (AV.rp (cZone (at_ a_a.zones a_z)) 4), (li ((at_ a_a.zones a_z).min)), (li (x1 - ((at_ a_a.zones a_z).min))), (li (x1 - ((at_ a_a.zones a_z).min)))] [[.box 29 (cAllocator a_a)]] (by kernel_rfl) (by kernel_rfl) ⟨?_, ?_, ?_, ?_, ?_, ?_, ?_, ?_, ?_, ?_, ?_, trivial⟩ ?_
 ·exact fun e s p => ALW1 (AVal_loadA (k := 0) (o := 0) (m := 5) (la := (cAllocator a_a)) Try.isAgg29 Try.sizeOf29 (s 2 rfl) rfl rfl rfl rfl) ⟨fun _ => rfl, rfl⟩
 ·exact fun e s p => ALW1 (AVal_move (av := (li a_z)) (s 1 rfl)) ⟨fun _ => rfl, rfl⟩
 ·
  intro e3 hs3 hp3
  refine ALW_callN (r := (li x1)) (la := [(AV.agg (cAllocator a_a)), (li a_z)]) Try.func41 rfl (by kernel_rfl) (.fn 41) (lcons hp3.1 (lcons hp3.2.1 rfl)) rfl (allocator_count_ok hx1) rfl ?_
  exact ALW_nil ⟨fun _ => rfl, rfl⟩
 ·exact fun e s p => ALW1 (AVal_field (k := 0) (o := 0) (off := 3) Try.underlying29 rfl rfl Try.sizeOf26 (s 2 rfl)) ⟨fun _ => rfl, rfl⟩
 ·exact fun e s p => ALW1 (AVal_load1 (k := 0) (o := 3) (a := (ls cZone a_a.zones)) Try.isAgg26 p.1 rfl rfl rfl) ⟨fun _ => rfl, rfl⟩
 ·exact fun e s p => ALW1 (AVal_move (av := (li a_z)) (s 1 rfl)) ⟨fun _ => rfl, rfl⟩
 ·exact fun e s p => ALW1 (AVal_idxSM (f := cZone) (l := a_a.zones) (i := a_z) Try.underlying26 Try.sizeOf46 (fun _ => rfl) p.1 p.2.1 hb1) ⟨fun _ => rfl, rfl⟩
 ·exact fun e s p => ALW1 (AVal_fieldR (row := (cZone (at_ a_a.zones a_z))) (o := 0) (off := 4) Try.underlying46 rfl rfl Try.sizeOf3 p.1) ⟨fun _ => rfl, rfl⟩
 ·exact fun e s p => ALW1 (AVal_loadR1 (row := (cZone (at_ a_a.zones a_z))) (o := 4) (a := (li ((at_ a_a.zones a_z).min))) Try.isAgg3 p.1 rfl) ⟨fun _ => rfl, rfl⟩
 ·exact fun e s p => ALW1 (AVal_sub (a := x1) (b := (at_ a_a.zones a_z).min) p.1 p.2.1 hb2) ⟨fun _ => rfl, rfl⟩
 ·exact fun e s p => ALW1 (AVal_assign (av := (li (x1 - ((at_ a_a.zones a_z).min)))) p.2.2.2.2.2.2.2.2.2.2.2.1) ⟨fun _ => rfl, rfl⟩
 intro e12 hs12 hq1
 refine AW_rep (Rep_mk (l := [(4, (li (x1 - ((at_ a_a.zones a_z).min))))]) ⟨(hq1 10 (by decide) (by decide)), trivial⟩) <| AW_ret ?_
 show RetP _ _ _ _ _ _
 obtain rfl := Option.some.inj h
 exact RetP_1 (R1_E rfl rfl)
theorem allocator_Headroom_ok {a_a : Allocator} {r : Int × Int} (h : allocator_Headroom a_a = some r) : PFn Try.prog 16 [(AV.agg (cAllocator a_a))] (AV.tup [(li r.1), (li r.2)]) := by
 refine PFn_enter Try.func16 rfl Try.ntmps16 Try.results16 rfl ?_
 unfold allocator_Headroom at h
 refine AW_seq <| AW_region <| ALW_step (H' := [.box 29 (cAllocator a_a)]) (AStep_boxA (t := 29) rfl) <| ALW_val (AVal_assign rfl) <| ALW_val (AVal_assign rfl) <| ALW_nil ?_
 refine AW_seq <| AW_seq <| AW_region <| ALW_val (AVal_loadA (k := 0) (o := 0) (m := 5) Try.isAgg29 Try.sizeOf29 rfl rfl rfl rfl rfl) ?_
 refine bnd_elim h ?_; clear h; intro x1 hx1 h
 refine ALW_callN Try.func15 rfl (by kernel_rfl) (.fn 15) rfl rfl (allocator_Check_ok hx1) rfl <| ALW_val (AVal_neq rfl rfl) <| ALW_nil ?_
 refine AW_cond (!decide (x1 = 0)) rfl (fun hb1 => ?_) (fun hb1 => ?_)
 ·replace h := cnd_t hb1 h
  refine AW_seq <| AW_region <| ALW_val (AVal_assign rfl) <| ALW_val (AVal_assign rfl) <| ALW_nil <| AW_ret ?_
  show RetP _ _ _ _ _ _
  obtain rfl := Option.some.inj h
  exact RetP_2 (R1_E rfl rfl) (R1_E rfl rfl) rfl
 ·replace h := cnd_f hb1 h
  refine AW_skip <| AW_seq <| AW_region <| ALW_val (AVal_assign rfl) <| ALW_val (AVal_assign rfl) <| ALW_nil ?_
  refine AW_seqJ (fun e' H' => ∃ (i1 : Int) (i2 : Int), Rep 35 0 e' H' (mkE [(4, (li i1)), (5, (li i2))]) [] ∧ allocator_Headroom_j0 i1 i2 = some r) ?_ ?_
  ·
   refine AW_seq <| AW_region <| ALW_val (AVal_field Try.underlying29 rfl rfl Try.sizeOf26 rfl) <| ALW_val (AVal_load1 Try.isAgg26 rfl rfl rfl rfl) <| ALW_val (AVal_lenM Try.underlying26 rfl) <| ALW_val (AVal_move rfl) ?_
   refine ALW_nil <| AW_block <| AW_loop (σ := Nat × Int × Int × Int) (fun s => s.1) (fun s e' H' => match s with | (n0, i3, i4, i5) => Rep 35 0 e' H' (mkE [(1, (AV.ptr 0 0)), (4, (li i3)), (5, (li i4)), (13, (ls cZone a_a.zones)), (14, (li (a_a.zones.length : Int))), (15, (li i5))]) [.box 29 (cAllocator a_a)] ∧ allocator_Headroom_l0 a_a n0 i3 i4 i5 = some r) (FUEL, 0, 0, 0) ⟨RepP [0] rfl rfl (by kernel_rfl), h⟩ ?_
   clear h
   rintro ⟨n0, i3, i4, i5⟩ e' H' ⟨hrep, h⟩
   cases n0 with
   | zero => exact absurd (show (none : Option _) = some r from h) (by simp)
   | succ n0 =>
    replace h : allocator_Headroom_b0 a_a (allocator_Headroom_l0 a_a n0) i3 i4 i5 = some r := h
    unfold allocator_Headroom_b0 at h
    refine AW_rep hrep ?_
    clear hrep
    refine AW_seq <| AW_region <| ALW_val (AVal_lss rfl rfl) <| ALW_nil <| AW_seq ?_
    refine AW_cond (decide (i5 < (a_a.zones.length : Int))) rfl (fun hb2 => ?_) (fun hb2 => ?_)
    ·replace h := cnd_t hb2 h
     refine AW_skip ?_
     refine AW_seqJ (fun e' H' => ∃ (i6 : Int) (i7 : Int), Rep 35 0 e' H' (mkE [(1, (AV.ptr 0 0)), (4, (li i6)), (5, (li i7)), (13, (ls cZone a_a.zones)), (14, (li (a_a.zones.length : Int))), (15, (li i5))]) [.box 29 (cAllocator a_a)] ∧ allocator_Headroom_j1 (allocator_Headroom_l0 a_a n0) i5 i6 i7 = some r) ?_ ?_
     ·
      refine AW_block <| AW_seq <| AW_region <| ALW_val (AVal_move rfl) ?_
      have hb4 := (chk_some h).1
      replace h := (chk_some h).2
      refine ALW_val (AVal_idxSM Try.underlying26 Try.sizeOf46 (fun _ => rfl) rfl rfl hb4) <| ALW_val (AVal_loadRA (row := (cZone (at_ a_a.zones i5))) (o := 0) (m := 10) (la := (cZone (at_ a_a.zones i5))) Try.isAgg46 Try.sizeOf46 rfl rfl rfl) <| ALW_step (H' := [.box 29 (cAllocator a_a), .box 46 ([(li 0)] ++ ([(li 0)] ++ ([(li 0)] ++ ([(li 0)] ++ ([(li 0)] ++ ((cA 5 (eS cI) ([] : List Int) (List.replicate 5 ([] : List Int))) ++ []))))))]) (AStep_alloc (t := 46) (vs := [.int .i64 0, .int .i64 0, .int .i64 0, .int .i64 0, .int .i64 0, .slice none 0 0, .slice none 0 0, .slice none 0 0, .slice none 0 0, .slice none 0 0]) (cs := [.lit (.int .i64 0), .lit (.int .i64 0), .lit (.int .i64 0), .lit (.int .i64 0), .lit (.int .i64 0), .sl false [], .sl false [], .sl false [], .sl false [], .sl false []]) Try.zeroValue46 (by kernel_rfl) rfl ⟨SubF.refl _, SubF.refl _, SubF.refl _, SubF.refl _, SubF.refl _, SubF.nils, SubF.nils, SubF.nils, SubF.nils, SubF.nils, trivial⟩) <| ALW_val (AVal_assign rfl) <| ALW_act (H' := [.box 29 (cAllocator a_a), .box 46 (cZone (at_ a_a.zones i5))]) (AAct_storeA (k := 1) (o := 0) (cs := ([(li 0)] ++ ([(li 0)] ++ ([(li 0)] ++ ([(li 0)] ++ ([(li 0)] ++ ((cA 5 (eS cI) ([] : List Int) (List.replicate 5 ([] : List Int))) ++ []))))))) (la := (cZone (at_ a_a.zones i5))) Try.sizeOf46 rfl rfl rfl rfl) <| ALW_nil ?_
      refine AW_seq <| AW_region <| ALW_val (AVal_loadA (k := 0) (o := 0) (m := 5) Try.isAgg29 Try.sizeOf29 rfl rfl rfl rfl rfl) <| ALW_val (AVal_move rfl) ?_
      refine bnd_elim h ?_; clear h; intro x2 hx2 h
      refine ALW_callN Try.func39 rfl (by kernel_rfl) (.fn 39) rfl rfl (allocator_room_ok hx2) rfl <| ALW_val (AVal_assign rfl) <| ALW_nil <| AW_seq <| AW_region <| ALW_val (AVal_move rfl) ?_
      refine ALW_val (AVal_move rfl) ?_
      have hb5 := (chk_some h).1
      replace h := (chk_some h).2
      refine ALW_val (AVal_add rfl rfl hb5) <| ALW_val (AVal_assign rfl) <| ALW_nil <| AW_seq <| AW_region <| ALW_val (AVal_field Try.underlying46 rfl rfl Try.sizeOf3 rfl) ?_
      refine ALW_val (AVal_load1 Try.isAgg3 rfl rfl rfl rfl) <| ALW_val (AVal_eql rfl rfl) <| ALW_nil ?_
      refine AW_cond (decide (((at_ a_a.zones i5).kind) = 0)) rfl (fun hb6 => ?_) (fun hb6 => ?_)
      ·replace h := cnd_t hb6 h
       refine AW_region <| ALW_val (AVal_move rfl) <| ALW_val (AVal_move rfl) ?_
       have hb7 := (chk_some h).1
       replace h := (chk_some h).2
       refine ALW_val (AVal_add rfl rfl hb7) <| ALW_val (AVal_assign rfl) <| ALW_nil ?_
       exact ⟨(i3 + x2), (i4 + x2), RepP [0] rfl rfl (by kernel_rfl), h⟩
      ·replace h := cnd_f hb6 h
       refine AW_skip ?_
       exact ⟨i3, (i4 + x2), RepP [0] rfl rfl (by kernel_rfl), h⟩
     ·
      clear h
      rintro e' H' ⟨i6, i7, hrep, h⟩
      refine AW_rep hrep ?_
      clear hrep
      unfold allocator_Headroom_j1 at h
      refine AW_region ?_
      have hb3 := (chk_some h).1
      replace h := (chk_some h).2
      refine ALW_val (AVal_add rfl rfl hb3) <| ALW_val (AVal_move rfl) <| ALW_nil ?_
      exact ⟨(n0, i6, i7, (i5 + 1)), Nat.lt_succ_self _, RepP [0] rfl rfl (by kernel_rfl), h⟩
    ·replace h := cnd_f hb2 h
     refine AW_exit ?_
     exact ⟨i3, i4, RepP [] rfl rfl (by kernel_rfl), h⟩
  ·
   clear h
   rintro e' H' ⟨i1, i2, hrep, h⟩
   refine AW_rep hrep ?_
   clear hrep
   unfold allocator_Headroom_j0 at h
   refine AW_seq <| AW_region <| ALW_val (AVal_move rfl) <| ALW_val (AVal_move rfl) <| ALW_val (AVal_assign rfl) <| ALW_val (AVal_assign rfl) ?_
   refine ALW_nil <| AW_ret ?_
   show RetP _ _ _ _ _ _
   obtain rfl := Option.some.inj h
   exact RetP_2 (R1_E rfl rfl) (R1_E rfl rfl) rfl
theorem zonelist_Check_ok {a_zones : List Zone} {r : Int} (h : zonelist_Check a_zones = some r) : PFn Try.prog 93 [(ls cZone a_zones)] (li r) := by
 refine PFn_enter Try.func93 rfl Try.ntmps93 Try.results93 rfl ?_
 unfold zonelist_Check at h
 refine AW_seq <| AW_region <| ALW_val (AVal_assign rfl) <| ALW_nil <| AW_seq <| AW_seq ?_
 refine AW_region <| ALW_val (AVal_move rfl) <| ALW_val (AVal_lenM Try.underlying26 rfl) <| ALW_val (AVal_gtr rfl rfl) <| ALW_nil ?_
 refine AW_cond (decide (6 < (a_zones.length : Int))) rfl (fun hb1 => ?_) (fun hb1 => ?_)
 ·replace h := cnd_t hb1 h
  refine AW_seq <| AW_region <| ALW_val (AVal_assign rfl) <| ALW_nil <| AW_ret ?_
  show RetP _ _ _ _ _ _
  obtain rfl := Option.some.inj h
  exact RetP_1 (R1_E rfl rfl)
 ·replace h := cnd_f hb1 h
  refine AW_skip ?_
  refine AW_seqJ (fun e' H' => Rep 31 0 e' H' (mkE []) [] ∧ zonelist_Check_j0  = some r) ?_ ?_
  ·
   refine AW_seq <| AW_region <| ALW_val (AVal_move rfl) <| ALW_val (AVal_lenM Try.underlying26 rfl) <| ALW_val (AVal_move rfl) <| ALW_nil ?_
   refine AW_block <| AW_loop (σ := Nat × Int) (fun s => s.1) (fun s e' H' => match s with | (n0, i1) => Rep 31 0 e' H' (mkE [(8, (ls cZone a_zones)), (9, (li (a_zones.length : Int))), (10, (li i1))]) [] ∧ zonelist_Check_l0 a_zones n0 i1 = some r) (FUEL, 0) ⟨RepP [] rfl rfl (by kernel_rfl), h⟩ ?_
   clear h
   rintro ⟨n0, i1⟩ e' H' ⟨hrep, h⟩
   cases n0 with
   | zero => exact absurd (show (none : Option _) = some r from h) (by simp)
   | succ n0 =>
    replace h : zonelist_Check_b0 a_zones (zonelist_Check_l0 a_zones n0) i1 = some r := h
    unfold zonelist_Check_b0 at h
    refine AW_rep hrep ?_
    clear hrep
    refine AW_seq <| AW_region <| ALW_val (AVal_lss rfl rfl) <| ALW_nil <| AW_seq ?_
    refine AW_cond (decide (i1 < (a_zones.length : Int))) rfl (fun hb2 => ?_) (fun hb2 => ?_)
    ·replace h := cnd_t hb2 h
     refine AW_skip <| AW_seq <| AW_block <| AW_seq <| AW_region ?_
     have hb3 := (chk_some h).1
     replace h := (chk_some h).2
     refine ALW_val (AVal_idxSM Try.underlying26 Try.sizeOf46 (fun _ => rfl) rfl rfl hb3) <| ALW_val (AVal_loadRA (row := (cZone (at_ a_zones i1))) (o := 0) (m := 10) (la := (cZone (at_ a_zones i1))) Try.isAgg46 Try.sizeOf46 rfl rfl rfl) <| ALW_step (H' := [.box 46 ([(li 0)] ++ ([(li 0)] ++ ([(li 0)] ++ ([(li 0)] ++ ([(li 0)] ++ ((cA 5 (eS cI) ([] : List Int) (List.replicate 5 ([] : List Int))) ++ []))))))]) (AStep_alloc (t := 46) (vs := [.int .i64 0, .int .i64 0, .int .i64 0, .int .i64 0, .int .i64 0, .slice none 0 0, .slice none 0 0, .slice none 0 0, .slice none 0 0, .slice none 0 0]) (cs := [.lit (.int .i64 0), .lit (.int .i64 0), .lit (.int .i64 0), .lit (.int .i64 0), .lit (.int .i64 0), .sl false [], .sl false [], .sl false [], .sl false [], .sl false []]) Try.zeroValue46 (by kernel_rfl) rfl ⟨SubF.refl _, SubF.refl _, SubF.refl _, SubF.refl _, SubF.refl _, SubF.nils, SubF.nils, SubF.nils, SubF.nils, SubF.nils, trivial⟩) <| ALW_act (H' := [.box 46 (cZone (at_ a_zones i1))]) (AAct_storeA (k := 0) (o := 0) (cs := ([(li 0)] ++ ([(li 0)] ++ ([(li 0)] ++ ([(li 0)] ++ ([(li 0)] ++ ((cA 5 (eS cI) ([] : List Int) (List.replicate 5 ([] : List Int))) ++ []))))))) (la := (cZone (at_ a_zones i1))) Try.sizeOf46 rfl rfl rfl rfl) <| ALW_nil <| AW_seq ?_
     refine AW_seq <| AW_region <| ALW_val (AVal_field Try.underlying46 rfl rfl Try.sizeOf3 rfl) <| ALW_val (AVal_load1 Try.isAgg3 rfl rfl rfl rfl) <| ALW_val (AVal_lss rfl rfl) <| ALW_val (AVal_move rfl) ?_
     refine ALW_g0 rfl rfl (fun hc1 => AVal.step (AVal_field Try.underlying46 rfl rfl Try.sizeOf3 rfl)) <| ALW_g0 rfl rfl (fun hc2 => AVal.step (AVal_load1 Try.isAgg3 (gd_t rfl hc2) rfl rfl rfl)) <| ALW_g0 rfl rfl (fun hc3 => AVal.step (AVal_geq (gd_t rfl hc3) rfl)) <| ALW_val (AVal_pick_or rfl rfl) <| ALW_nil ?_
     refine AW_cond ((decide (((at_ a_zones i1).node) < 0)) || (decide (4 ≤ ((at_ a_zones i1).node)))) rfl (fun hb4 => ?_) (fun hb4 => ?_)
     ·replace h := cnd_t hb4 h
      refine AW_seq <| AW_region <| ALW_val (AVal_assign rfl) <| ALW_nil <| AW_ret ?_
      show RetP _ _ _ _ _ _
      obtain rfl := Option.some.inj h
      exact RetP_1 (R1_E rfl rfl)
     ·replace h := cnd_f hb4 h
      refine AW_skip <| AW_seq <| AW_region <| ALW_val (AVal_field Try.underlying46 rfl rfl Try.sizeOf3 rfl) <| ALW_val (AVal_load1 Try.isAgg3 rfl rfl rfl rfl) <| ALW_val (AVal_neq rfl rfl) ?_
      refine ALW_val (AVal_move rfl) <| ALW_g1 rfl rfl (fun hc4 => AVal.step (AVal_field Try.underlying46 rfl rfl Try.sizeOf3 rfl)) <| ALW_g1 rfl rfl (fun hc5 => AVal.step (AVal_load1 Try.isAgg3 (gd_t rfl hc5) rfl rfl rfl)) <| ALW_g1 rfl rfl (fun hc6 => AVal.step (AVal_neq (gd_t rfl hc6) rfl)) <| ALW_val (AVal_pick_and (j := .lit undef) rfl rfl) <| ALW_nil ?_
      refine AW_cond ((!decide (((at_ a_zones i1).kind) = 0)) && (!decide (((at_ a_zones i1).kind) = 1))) rfl (fun hb5 => ?_) (fun hb5 => ?_)
      ·replace h := cnd_t hb5 h
       refine AW_seq <| AW_region <| ALW_val (AVal_assign rfl) <| ALW_nil <| AW_ret ?_
       show RetP _ _ _ _ _ _
       obtain rfl := Option.some.inj h
       exact RetP_1 (R1_E rfl rfl)
      ·replace h := cnd_f hb5 h
       refine AW_skip <| AW_region ?_
       have hb6 := (chk_some h).1
       replace h := (chk_some h).2
       refine ALW_val (AVal_add rfl rfl hb6) <| ALW_val (AVal_move rfl) <| ALW_nil ?_
       exact ⟨(n0, (i1 + 1)), Nat.lt_succ_self _, RepP [] rfl rfl (by kernel_rfl), h⟩
    ·replace h := cnd_f hb2 h
     refine AW_exit ?_
     exact ⟨RepP [] rfl rfl (by kernel_rfl), h⟩
  ·
   clear h
   rintro e' H' ⟨hrep, h⟩
   refine AW_rep hrep ?_
   clear hrep
   unfold zonelist_Check_j0 at h
   refine AW_seq <| AW_region <| ALW_val (AVal_assign rfl) <| ALW_nil <| AW_ret ?_
   show RetP _ _ _ _ _ _
   obtain rfl := Option.some.inj h
   exact RetP_1 (R1_E rfl rfl)
theorem zonelist_check_ok {a_zones : List Zone} {a_node : Int} {r : Int} (h : zonelist_check a_zones a_node = some r) : PFn Try.prog 67 [(ls cZone a_zones), (li a_node)] (li r) := by
 refine PFn_enter Try.func67 rfl Try.ntmps67 Try.results67 rfl ?_
 unfold zonelist_check at h
 refine AW_seq <| AW_region <| ALW_val (AVal_assign rfl) <| ALW_nil <| AW_seq <| AW_seq ?_
 refine AW_region <| ALW_val (AVal_move rfl) ?_
 refine bnd_elim h ?_; clear h; intro x1 hx1 h
 refine ALW_callN Try.func93 rfl (by kernel_rfl) (.fn 93) rfl rfl (zonelist_Check_ok hx1) rfl <| ALW_val (AVal_assign rfl) <| ALW_nil <| AW_seq <| AW_region <| ALW_val (AVal_move rfl) ?_
 refine ALW_val (AVal_neq rfl rfl) <| ALW_nil ?_
 refine AW_cond (!decide (x1 = 0)) rfl (fun hb1 => ?_) (fun hb1 => ?_)
 ·replace h := cnd_t hb1 h
  refine AW_seq <| AW_region <| ALW_val (AVal_move rfl) <| ALW_val (AVal_assign rfl) <| ALW_nil <| AW_ret ?_
  show RetP _ _ _ _ _ _
  obtain rfl := Option.some.inj h
  exact RetP_1 (R1_E rfl rfl)
 ·replace h := cnd_f hb1 h
  refine AW_skip <| AW_seq <| AW_seq <| AW_region <| ALW_val (AVal_move rfl) <| ALW_val (AVal_lss rfl rfl) ?_
  refine ALW_val (AVal_move rfl) <| ALW_g0 rfl rfl (fun hc1 => AVal.step (AVal_move rfl)) <| ALW_g0 rfl rfl (fun hc2 => AVal.step (AVal_geq (gd_t rfl hc2) rfl)) <| ALW_val (AVal_pick_or rfl rfl) <| ALW_nil ?_
  refine AW_cond ((decide (a_node < 0)) || (decide (4 ≤ a_node))) rfl (fun hb2 => ?_) (fun hb2 => ?_)
  ·replace h := cnd_t hb2 h
   refine AW_seq <| AW_region <| ALW_val (AVal_assign rfl) <| ALW_nil <| AW_ret ?_
   show RetP _ _ _ _ _ _
   obtain rfl := Option.some.inj h
   exact RetP_1 (R1_E rfl rfl)
  ·replace h := cnd_f hb2 h
   refine AW_skip <| AW_seq <| AW_region <| ALW_val (AVal_assign rfl) <| ALW_nil <| AW_ret ?_
   show RetP _ _ _ _ _ _
   obtain rfl := Option.some.inj h
   exact RetP_1 (R1_E rfl rfl)
theorem zonelist_key_ok {a_from_ : Int} {a_node : Int} {r : Int} (h : zonelist_key a_from_ a_node = some r) : PFn Try.prog 69 [(li a_from_), (li a_node)] (li r) := by
 refine PFn_enter Try.func69 rfl Try.ntmps69 Try.results69 rfl ?_
 unfold zonelist_key at h
 refine AW_seq <| AW_region <| ALW_val (AVal_assign rfl) <| ALW_nil <| AW_seq <| AW_seq ?_
 refine AW_region <| ALW_val (AVal_move rfl) <| ALW_val (AVal_move rfl) <| ALW_val (AVal_lss rfl rfl) <| ALW_nil ?_
 refine AW_cond (decide (a_node < a_from_)) rfl (fun hb1 => ?_) (fun hb1 => ?_)
 ·replace h := cnd_t hb1 h
  refine AW_seq <| AW_region <| ALW_val (AVal_move rfl) <| ALW_val (AVal_move rfl) ?_
  have hb2 := (chk_some h).1
  replace h := (chk_some h).2
  refine ALW_val (AVal_sub rfl rfl hb2) ?_
  have hb3 := (chk_some h).1
  replace h := (chk_some h).2
  refine ALW_val (AVal_mul (a := 2) (b := a_from_ - a_node) rfl rfl hb3) <| ALW_val (AVal_assign rfl) <| ALW_nil <| AW_ret ?_
  show RetP _ _ _ _ _ _
  obtain rfl := Option.some.inj h
  exact RetP_1 (R1_E rfl rfl)
 ·replace h := cnd_f hb1 h
  refine AW_skip <| AW_seq <| AW_region <| ALW_val (AVal_move rfl) <| ALW_val (AVal_move rfl) ?_
  have hb4 := (chk_some h).1
  replace h := (chk_some h).2
  refine ALW_val (AVal_sub rfl rfl hb4) ?_
  have hb5 := (chk_some h).1
  replace h := (chk_some h).2
  refine ALW_val (AVal_mul (a := 2) (b := a_node - a_from_) rfl rfl hb5) ?_
  have hb6 := (chk_some h).1
  replace h := (chk_some h).2
  refine ALW_val (AVal_add rfl rfl hb6) <| ALW_val (AVal_assign rfl) <| ALW_nil <| AW_ret ?_
  show RetP _ _ _ _ _ _
  obtain rfl := Option.some.inj h
  exact RetP_1 (R1_E rfl rfl)
theorem zonelist_Order_1_ok {a_i : Int} {c_0 : Int} {c_1 : List Zone} {r : Int} (h : zonelist_Order_1 a_i c_0 c_1 = some r) : PFn Try.prog 68 [(li a_i), (AV.rp [(li c_0)] 0), (AV.rp [(ls cZone c_1)] 0)] (li r) := by
 refine PFn_enter Try.func68 rfl Try.ntmps68 Try.results68 rfl ?_
 unfold zonelist_Order_1 at h
 refine AW_seq <| AW_region <| ALW_val (AVal_assign rfl) <| ALW_nil <| AW_seq ?_
 have hb1 := (chk_some h).1
 replace h := (chk_some h).2
 refine bnd_elim h ?_; clear h; intro x1 hx1 h
 have hb2 := (chk_some h).1
 replace h := (chk_some h).2
 show AW _ _ _ _ _ _ []
 refine AW_draw (n := 23) (m := 0) [.head 0 0, .head 0 0, .head 0 0, .head 0 0, .head 0 0, .head 0 0, .head 0 0, .head 0 0, .head 0 0] [] [(li c_0), (ls cZone c_1), (li a_i), (AV.rp (cZone (at_ c_1 a_i)) 0), (AV.rp (cZone (at_ c_1 a_i)) 0), (li ((at_ c_1 a_i).node)), (li x1), (li (2 * x1)), (li (2 * x1))] [[]] (by kernel_rfl) (by kernel_rfl) ⟨?_, ?_, ?_, ?_, ?_, ?_, ?_, ?_, ?_, trivial⟩ ?_
 ·exact fun e s p => ALW1 (AVal_loadR1 (row := [(li c_0)]) (o := 0) (a := (li c_0)) Try.isAgg3 (s 1 rfl) rfl) ⟨fun _ => rfl, rfl⟩
 ·exact fun e s p => ALW1 (AVal_loadR1 (row := [(ls cZone c_1)]) (o := 0) (a := (ls cZone c_1)) Try.isAgg26 (s 2 rfl) rfl) ⟨fun _ => rfl, rfl⟩
 ·exact fun e s p => ALW1 (AVal_move (av := (li a_i)) (s 0 rfl)) ⟨fun _ => rfl, rfl⟩
 ·exact fun e s p => ALW1 (AVal_idxSM (f := cZone) (l := c_1) (i := a_i) Try.underlying26 Try.sizeOf46 (fun _ => rfl) p.1 p.2.1 hb1) ⟨fun _ => rfl, rfl⟩
 ·exact fun e s p => ALW1 (AVal_fieldR (row := (cZone (at_ c_1 a_i))) (o := 0) (off := 0) Try.underlying46 rfl rfl Try.sizeOf3 p.1) ⟨fun _ => rfl, rfl⟩
 ·exact fun e s p => ALW1 (AVal_loadR1 (row := (cZone (at_ c_1 a_i))) (o := 0) (a := (li ((at_ c_1 a_i).node))) Try.isAgg3 p.1 rfl) ⟨fun _ => rfl, rfl⟩
 ·
  intro e7 hs7 hp7
  refine ALW_callN (r := (li x1)) (la := [(li c_0), (li ((at_ c_1 a_i).node))]) Try.func69 rfl (by kernel_rfl) (.fn 69) (lcons hp7.1 (lcons hp7.2.1 rfl)) rfl (zonelist_key_ok hx1) rfl ?_
  exact ALW_nil ⟨fun _ => rfl, rfl⟩
 ·exact fun e s p => ALW1 (AVal_mul (a := 2) (b := x1) rfl p.1 hb2) ⟨fun _ => rfl, rfl⟩
 ·exact fun e s p => ALW1 (AVal_assign (av := (li (2 * x1))) p.2.2.2.2.2.2.2.2.2.1) ⟨fun _ => rfl, rfl⟩
 intro e10 hs10 hq1
 refine AW_rep (Rep_mk (l := [(0, (li a_i)), (2, (AV.rp [(ls cZone c_1)] 0)), (5, (li (2 * x1)))]) ⟨(hs10 0 rfl), (hs10 2 rfl), (hq1 8 (by decide) (by decide)), trivial⟩) ?_
 refine AW_seqJ (fun e' H' => ∃ (i1 : Int), Rep 23 0 e' H' (mkE [(5, (li i1))]) [] ∧ zonelist_Order_1_j0 i1 = some r) ?_ ?_
 ·
  refine AW_seq <| AW_region <| ALW_val (AVal_loadR1 (o := 0) Try.isAgg26 rfl rfl) <| ALW_val (AVal_move rfl) <| ALW_val (AVal_idxSM Try.underlying26 Try.sizeOf46 (fun _ => rfl) rfl rfl hb1) <| ALW_val (AVal_fieldR (row := (cZone (at_ c_1 a_i))) (o := 0) (off := 1) Try.underlying46 rfl rfl Try.sizeOf3 rfl) ?_
  refine ALW_val (AVal_loadR1 (o := 1) Try.isAgg3 rfl rfl) <| ALW_val (AVal_eql rfl rfl) <| ALW_nil ?_
  refine AW_cond (decide (((at_ c_1 a_i).kind) = 0)) rfl (fun hb3 => ?_) (fun hb3 => ?_)
  ·replace h := cnd_t hb3 h
   refine AW_region <| ALW_val (AVal_move rfl) ?_
   have hb4 := (chk_some h).1
   replace h := (chk_some h).2
   refine ALW_val (AVal_add rfl rfl hb4) <| ALW_val (AVal_assign rfl) <| ALW_nil ?_
   exact ⟨((2 * x1) + 1), RepP [] rfl rfl (by kernel_rfl), h⟩
  ·replace h := cnd_f hb3 h
   refine AW_skip ?_
   exact ⟨(2 * x1), RepP [] rfl rfl (by kernel_rfl), h⟩
 ·
  clear h
  rintro e' H' ⟨i1, hrep, h⟩
  refine AW_rep hrep ?_
  clear hrep
  unfold zonelist_Order_1_j0 at h
  refine AW_seq <| AW_region <| ALW_val (AVal_move rfl) <| ALW_val (AVal_assign rfl) <| ALW_nil <| AW_ret ?_
  show RetP _ _ _ _ _ _
  obtain rfl := Option.some.inj h
  exact RetP_1 (R1_E rfl rfl)
theorem cmp_Compare_int_ok {a_x : Int} {a_y : Int} {r : Int} (h : cmp_Compare_int a_x a_y = some r) : PFn Try.prog 72 [(li a_x), (li a_y)] (li r) := by
 refine PFn_enter Try.func72 rfl Try.ntmps72 Try.results72 rfl ?_
 unfold cmp_Compare_int at h
 refine AW_seq <| AW_region <| ALW_val (AVal_assign rfl) <| ALW_nil <| AW_seq <| AW_region ?_
 refine ALW_val (AVal_move rfl) ?_
 refine bnd_elim h ?_; clear h; intro x1 hx1 h
 refine ALW_callN Try.func95 rfl (by kernel_rfl) (.fn 95) rfl rfl (cmp_isNaN_int_ok hx1) rfl <| ALW_val (AVal_assign rfl) <| ALW_nil <| AW_seq <| AW_region <| ALW_val (AVal_move rfl) ?_
 refine bnd_elim h ?_; clear h; intro x2 hx2 h
 refine ALW_callN Try.func95 rfl (by kernel_rfl) (.fn 95) rfl rfl (cmp_isNaN_int_ok hx2) rfl <| ALW_val (AVal_assign rfl) <| ALW_nil <| AW_seq <| AW_seq <| AW_region ?_
 refine ALW_val (AVal_move rfl) <| ALW_nil ?_
 refine AW_cond (x1) rfl (fun hb1 => ?_) (fun hb1 => ?_)
 ·replace h := cnd_t hb1 h
  refine AW_seq <| AW_seq <| AW_region <| ALW_val (AVal_move rfl) <| ALW_nil ?_
  refine AW_cond (x2) rfl (fun hb2 => ?_) (fun hb2 => ?_)
  ·replace h := cnd_t hb2 h
   refine AW_seq <| AW_region <| ALW_val (AVal_assign rfl) <| ALW_nil <| AW_ret ?_
   show RetP _ _ _ _ _ _
   obtain rfl := Option.some.inj h
   exact RetP_1 (R1_E rfl rfl)
  ·replace h := cnd_f hb2 h
   refine AW_skip <| AW_seq <| AW_region <| ALW_val (AVal_assign rfl) <| ALW_nil <| AW_ret ?_
   show RetP _ _ _ _ _ _
   obtain rfl := Option.some.inj h
   exact RetP_1 (R1_E rfl rfl)
 ·replace h := cnd_f hb1 h
  refine AW_skip <| AW_seq <| AW_seq <| AW_region <| ALW_val (AVal_move rfl) <| ALW_nil ?_
  refine AW_cond (x2) rfl (fun hb3 => ?_) (fun hb3 => ?_)
  ·replace h := cnd_t hb3 h
   refine AW_seq <| AW_region <| ALW_val (AVal_assign rfl) <| ALW_nil <| AW_ret ?_
   show RetP _ _ _ _ _ _
   obtain rfl := Option.some.inj h
   exact RetP_1 (R1_E rfl rfl)
  ·replace h := cnd_f hb3 h
   refine AW_skip <| AW_seq <| AW_seq <| AW_region <| ALW_val (AVal_move rfl) <| ALW_val (AVal_move rfl) ?_
   refine ALW_val (AVal_lss rfl rfl) <| ALW_nil ?_
   refine AW_cond (decide (a_x < a_y)) rfl (fun hb4 => ?_) (fun hb4 => ?_)
   ·replace h := cnd_t hb4 h
    refine AW_seq <| AW_region <| ALW_val (AVal_assign rfl) <| ALW_nil <| AW_ret ?_
    show RetP _ _ _ _ _ _
    obtain rfl := Option.some.inj h
    exact RetP_1 (R1_E rfl rfl)
   ·replace h := cnd_f hb4 h
    refine AW_skip <| AW_seq <| AW_seq <| AW_region <| ALW_val (AVal_move rfl) <| ALW_val (AVal_move rfl) ?_
    refine ALW_val (AVal_gtr rfl rfl) <| ALW_nil ?_
    refine AW_cond (decide (a_y < a_x)) rfl (fun hb5 => ?_) (fun hb5 => ?_)
    ·replace h := cnd_t hb5 h
     refine AW_seq <| AW_region <| ALW_val (AVal_assign rfl) <| ALW_nil <| AW_ret ?_
     show RetP _ _ _ _ _ _
     obtain rfl := Option.some.inj h
     exact RetP_1 (R1_E rfl rfl)
    ·replace h := cnd_f hb5 h
     refine AW_skip <| AW_seq <| AW_region <| ALW_val (AVal_assign rfl) <| ALW_nil <| AW_ret ?_
     show RetP _ _ _ _ _ _
     obtain rfl := Option.some.inj h
     exact RetP_1 (R1_E rfl rfl)
theorem zonelist_Order_2_ok {a_a : Int} {a_b : Int} {c_0 : Int → Option Int} {g_c_0 : FuncId} {cf_c_0 : Func} {code_c_0 : Code} {caps_c_0 : List AV} (hcf_c_0 : Try.prog.funcs[g_c_0]? = some cf_c_0) (hcb_c_0 : cf_c_0.body = some code_c_0) (hcn_c_0 : (cf_c_0.name == "runtime.NumGoroutine") = false) (hnr_c_0 : caps_c_0.all nr = true) (hg_c_0 : ∀ {x0 : Int} {y : Int}, c_0 x0 = some y → PFn Try.prog g_c_0 ((li x0) :: caps_c_0) (li y)) {r : Int} (h : zonelist_Order_2 a_a a_b c_0 = some r) : PFn Try.prog 71 [(li a_a), (li a_b), (AV.rp [(AV.clo g_c_0 caps_c_0)] 0)] (li r) := by
 refine PFn_enter Try.func71 rfl Try.ntmps71 Try.results71 rfl ?_
 unfold zonelist_Order_2 at h
 refine AW_seq <| AW_region <| ALW_val (AVal_assign rfl) <| ALW_nil <| AW_seq ?_
 refine bnd_elim h ?_; clear h; intro x1 hx1 h
 refine bnd_elim h ?_; clear h; intro x2 hx2 h
 refine bnd_elim h ?_; clear h; intro x3 hx3 h
 show AW _ _ _ _ _ _ []
 refine AW_draw (n := 13) (m := 0) [.head 0 0, .head 0 0, .head 0 0, .head 0 0, .head 0 0, .head 0 0, .head 0 0, .head 0 0] [] [(AV.clo g_c_0 caps_c_0), (li a_a), (li x1), (AV.clo g_c_0 caps_c_0), (li a_b), (li x2), (li x3), (li x3)] [[]] (by kernel_rfl) (by kernel_rfl) ⟨?_, ?_, ?_, ?_, ?_, ?_, ?_, ?_, trivial⟩ ?_
 ·exact fun e s p => ALW1 (AVal_loadR1 (row := [(AV.clo g_c_0 caps_c_0)]) (o := 0) (a := (AV.clo g_c_0 caps_c_0)) Try.isAgg116 (s 2 rfl) rfl) ⟨fun _ => rfl, rfl⟩
 ·exact fun e s p => ALW1 (AVal_move (av := (li a_a)) (s 0 rfl)) ⟨fun _ => rfl, rfl⟩
 ·
  intro e3 hs3 hp3
  refine ALW_callE (la := (li a_a) :: caps_c_0) (la' := (li a_a) :: caps_c_0) (r := (li x1)) (r' := (li x1)) (S := []) hcf_c_0 hcb_c_0 hcn_c_0 (.clo (caps := caps_c_0) hp3.1) (lcons hp3.2.1 rfl) (ViewL.c (View.nr rfl) (ViewL.nrs hnr_c_0)) (hg_c_0 hx1) (.inl rfl) rfl ?_
  exact ALW_nil ⟨fun _ => rfl, rfl⟩
 ·exact fun e s p => ALW1 (AVal_loadR1 (row := [(AV.clo g_c_0 caps_c_0)]) (o := 0) (a := (AV.clo g_c_0 caps_c_0)) Try.isAgg116 (s 2 rfl) rfl) ⟨fun _ => rfl, rfl⟩
 ·exact fun e s p => ALW1 (AVal_move (av := (li a_b)) (s 1 rfl)) ⟨fun _ => rfl, rfl⟩
 ·
  intro e6 hs6 hp6
  refine ALW_callE (la := (li a_b) :: caps_c_0) (la' := (li a_b) :: caps_c_0) (r := (li x2)) (r' := (li x2)) (S := []) hcf_c_0 hcb_c_0 hcn_c_0 (.clo (caps := caps_c_0) hp6.1) (lcons hp6.2.1 rfl) (ViewL.c (View.nr rfl) (ViewL.nrs hnr_c_0)) (hg_c_0 hx2) (.inl rfl) rfl ?_
  exact ALW_nil ⟨fun _ => rfl, rfl⟩
 ·
  intro e7 hs7 hp7
  refine ALW_callN (r := (li x3)) (la := [(li x1), (li x2)]) Try.func72 rfl (by kernel_rfl) (.fn 72) (lcons hp7.1 (lcons hp7.2.2.1 rfl)) rfl (cmp_Compare_int_ok hx3) rfl ?_
  exact ALW_nil ⟨fun _ => rfl, rfl⟩
 ·exact fun e s p => ALW1 (AVal_assign (av := (li x3)) p.2.2.2.2.2.2.2.2.1) ⟨fun _ => rfl, rfl⟩
 intro e9 hs9 hq1
 refine AW_rep (Rep_mk (l := [(5, (li x3))]) ⟨(hq1 7 (by decide) (by decide)), trivial⟩) <| AW_ret ?_
 show RetP _ _ _ _ _ _
 obtain rfl := Option.some.inj h
 exact RetP_1 (R1_E rfl rfl)
theorem slices_insertionSortCmpFunc_int_ok {a_data : List Int} {a_a : Int} {a_b : Int} {a_cmp : Int → Int → Option Int} {g_a_cmp : FuncId} {cf_a_cmp : Func} {code_a_cmp : Code} {caps_a_cmp : List AV} (hcf_a_cmp : Try.prog.funcs[g_a_cmp]? = some cf_a_cmp) (hcb_a_cmp : cf_a_cmp.body = some code_a_cmp) (hcn_a_cmp : (cf_a_cmp.name == "runtime.NumGoroutine") = false) (hnr_a_cmp : caps_a_cmp.all nr = true) (hg_a_cmp : ∀ {x0 : Int} {x1 : Int} {y : Int}, a_cmp x0 x1 = some y → PFn Try.prog g_a_cmp ((li x0) :: (li x1) :: caps_a_cmp) (li y)) {r : (List Int)} (h : slices_insertionSortCmpFunc_int a_data a_a a_b a_cmp = some r) : AFn Try.prog 101 [(AV.hd 0), (li a_a), (li a_b), (AV.clo g_a_cmp caps_a_cmp)] [.vec 3 1 (List.map cI a_data)] (.tup []) [.vec 3 1 (List.map cI r)] := by
 refine AFn_enter2 Try.func101 rfl Try.ntmps101 Try.results101 rfl ?_
 unfold slices_insertionSortCmpFunc_int at h
 refine AW_seq <| AW_region <| ALW_val (AVal_move rfl) ?_
 have hb1 := (chk_some h).1
 replace h := (chk_some h).2
 refine ALW_val (AVal_add rfl rfl hb1) <| ALW_val (AVal_assign rfl) <| ALW_nil <| AW_block <| AW_loop (σ := Nat × Int × (List Int)) (fun s => s.1) (fun s e' H' => match s with | (n0, i1, l1) => Rep 53 1 e' H' (mkE [(0, (AV.hd 0)), (1, (li a_a)), (2, (li a_b)), (3, (AV.clo g_a_cmp caps_a_cmp)), (8, (li i1))]) [.vec 3 1 (List.map cI l1)] ∧ slices_insertionSortCmpFunc_int_l0 a_a a_b a_cmp n0 i1 l1 = some r) (FUEL, (a_a + 1), a_data) ⟨Rep_perm (n := 53) (m := 1) [0] (l := [(0, (AV.hd 0)), (1, (li a_a)), (2, (li a_b)), (3, (AV.clo g_a_cmp caps_a_cmp)), (8, (li (a_a + 1)))]) ⟨⟨Sub.refl _, by kernel_rfl⟩, ⟨Sub.refl _, by kernel_rfl⟩, ⟨Sub.refl _, by kernel_rfl⟩, ⟨Sub_clo hnr_a_cmp, okA_clo hnr_a_cmp⟩, ⟨Sub.refl _, by kernel_rfl⟩, trivial⟩ rfl rfl ⟨⟨rfl, by kernel_rfl⟩, trivial⟩, h⟩ ?_
 clear h
 rintro ⟨n0, i1, l1⟩ e' H' ⟨hrep, h⟩
 cases n0 with
 | zero => exact absurd (show (none : Option _) = some r from h) (by simp)
 | succ n0 =>
  replace h : slices_insertionSortCmpFunc_int_b0 a_a a_b a_cmp (slices_insertionSortCmpFunc_int_l0 a_a a_b a_cmp n0) i1 l1 = some r := h
  unfold slices_insertionSortCmpFunc_int_b0 at h
  refine AW_rep hrep ?_
  clear hrep
  refine AW_seq <| AW_seq <| AW_region <| ALW_val (AVal_move rfl) <| ALW_val (AVal_move rfl) <| ALW_val (AVal_lss rfl rfl) ?_
  refine ALW_nil ?_
  refine AW_cond (decide (i1 < a_b)) rfl (fun hb2 => ?_) (fun hb2 => ?_)
  ·replace h := cnd_t hb2 h
   refine AW_skip ?_
   refine AW_seqJ (fun e' H' => ∃ (l2 : List Int), Rep 53 1 e' H' (mkE [(0, (AV.hd 0)), (1, (li a_a)), (2, (li a_b)), (3, (AV.clo g_a_cmp caps_a_cmp)), (8, (li i1))]) [.vec 3 1 (List.map cI l2)] ∧ slices_insertionSortCmpFunc_int_j0 (slices_insertionSortCmpFunc_int_l0 a_a a_b a_cmp n0) i1 l2 = some r) ?_ ?_
   ·
    refine AW_block <| AW_seq <| AW_region <| ALW_val (AVal_move rfl) <| ALW_val (AVal_assign rfl) <| ALW_nil ?_
    refine AW_block <| AW_loop (σ := Nat × Int × (List Int)) (fun s => s.1) (fun s e' H' => match s with | (n1, i2, l3) => Rep 53 1 e' H' (mkE [(0, (AV.hd 0)), (1, (li a_a)), (2, (li a_b)), (3, (AV.clo g_a_cmp caps_a_cmp)), (8, (li i1)), (9, (li i2))]) [.vec 3 1 (List.map cI l3)] ∧ slices_insertionSortCmpFunc_int_l1 (slices_insertionSortCmpFunc_int_l0 a_a a_b a_cmp n0) a_a a_cmp i1 n1 i2 l3 = some r) (FUEL, i1, l1) ⟨Rep_perm (n := 53) (m := 1) [0] (l := [(0, (AV.hd 0)), (1, (li a_a)), (2, (li a_b)), (3, (AV.clo g_a_cmp caps_a_cmp)), (8, (li i1)), (9, (li i1))]) ⟨⟨Sub.refl _, by kernel_rfl⟩, ⟨Sub.refl _, by kernel_rfl⟩, ⟨Sub.refl _, by kernel_rfl⟩, ⟨Sub_clo hnr_a_cmp, okA_clo hnr_a_cmp⟩, ⟨Sub.refl _, by kernel_rfl⟩, ⟨Sub.refl _, by kernel_rfl⟩, trivial⟩ rfl rfl ⟨⟨rfl, by kernel_rfl⟩, trivial⟩, h⟩ ?_
    clear h
    rintro ⟨n1, i2, l3⟩ e' H' ⟨hrep, h⟩
    cases n1 with
    | zero => exact absurd (show (none : Option _) = some r from h) (by simp)
    | succ n1 =>
     replace h : slices_insertionSortCmpFunc_int_b1 (slices_insertionSortCmpFunc_int_l0 a_a a_b a_cmp n0) a_a a_cmp i1 (slices_insertionSortCmpFunc_int_l1 (slices_insertionSortCmpFunc_int_l0 a_a a_b a_cmp n0) a_a a_cmp i1 n1) i2 l3 = some r := h
     unfold slices_insertionSortCmpFunc_int_b1 at h
     refine AW_rep hrep ?_
     clear hrep
     refine AW_seq <| AW_seq ?_
     have hb4 := (chk_some h).1
     replace h := (chk_some h).2
     have hb5 := (chk_some h).1
     replace h := (chk_some h).2
     have hb6 := (chk_some h).1
     replace h := (chk_some h).2
     refine bnd_elim h ?_; clear h; intro x1 hx1 h
     show AW _ _ _ _ _ _ [.vec 3 1 (List.map cI l3)]
     refine AW_draw (n := 53) (m := 1) [.head 0 0, .head 0 0, .head 0 0, .head 0 0, .head 0 0, .head 0 0, .head 0 0, .head 0 0, .head 0 0, .head 0 0, .head 0 0, .head 0 0, .head 0 0, .head 0 0, .head 0 0, .head 0 0, .head 0 0] [] [(li i2), (li a_a), (AV.lit (.bool (decide (a_a < i2)))), (AV.lit (.bool (decide (a_a < i2)))), (bif decide (a_a < i2) then (AV.clo g_a_cmp caps_a_cmp) else .lit undef), (bif decide (a_a < i2) then (AV.hd 0) else .lit undef), (bif decide (a_a < i2) then (li i2) else .lit undef), (bif decide (a_a < i2) then (AV.ptr 0 (i2.toNat * 1)) else .lit undef), (bif decide (a_a < i2) then (li (at_ l3 i2)) else .lit undef), (bif decide (a_a < i2) then (AV.hd 0) else .lit undef), (bif decide (a_a < i2) then (li i2) else .lit undef), (bif decide (a_a < i2) then (li (i2 - 1)) else .lit undef), (bif decide (a_a < i2) then (AV.ptr 0 ((i2 - 1).toNat * 1)) else .lit undef), (bif decide (a_a < i2) then (li (at_ l3 (i2 - 1))) else .lit undef), (bif decide (a_a < i2) then (li x1) else .lit undef), (bif decide (a_a < i2) then (AV.lit (.bool (decide (x1 < 0)))) else .lit undef), (AV.lit (.bool ((decide (a_a < i2)) && (decide (x1 < 0)))))] [[.vec 3 1 (List.map cI l3)]] (by kernel_rfl) (by kernel_rfl) ⟨?_, ?_, ?_, ?_, ?_, ?_, ?_, ?_, ?_, ?_, ?_, ?_, ?_, ?_, ?_, ?_, ?_, trivial⟩ ?_
     ·exact fun e s p => ALW1 (AVal_move (av := (li i2)) (s 9 rfl)) ⟨fun _ => rfl, rfl⟩
     ·exact fun e s p => ALW1 (AVal_move (av := (li a_a)) (s 1 rfl)) ⟨fun _ => rfl, rfl⟩
     ·exact fun e s p => ALW1 (AVal_gtr (a := i2) (b := a_a) p.1 p.2.1) ⟨fun _ => rfl, rfl⟩
     ·exact fun e s p => ALW1 (AVal_move (av := (AV.lit (.bool (decide (a_a < i2))))) p.1) ⟨fun _ => rfl, rfl⟩
     ·
      intro e5 hs5 hp5
      refine ALW_g1 (g := 21) (s := decide (a_a < i2)) rfl hp5.1 (fun hc13 => AVal.step (AVal_move (av := (AV.clo g_a_cmp caps_a_cmp)) (hs5 3 rfl))) ?_
      exact ALW_nil ⟨fun _ => rfl, rfl⟩
     ·
      intro e6 hs6 hp6
      refine ALW_g1 (g := 21) (s := decide (a_a < i2)) rfl hp6.1 (fun hc14 => AVal.step (AVal_move (av := (AV.hd 0)) (hs6 0 rfl))) ?_
      exact ALW_nil ⟨fun _ => rfl, rfl⟩
     ·
      intro e7 hs7 hp7
      refine ALW_g1 (g := 21) (s := decide (a_a < i2)) rfl hp7.1 (fun hc15 => AVal.step (AVal_move (av := (li i2)) (hs7 9 rfl))) ?_
      exact ALW_nil ⟨fun _ => rfl, rfl⟩
     ·
      intro e8 hs8 hp8
      refine ALW_g1 (g := 21) (s := decide (a_a < i2)) rfl hp8.2.2.1 (fun hc16 => AVal.step (AVal_idxVM (f := cI) (l := l3) (i := i2) Try.underlying22 Try.sizeOf3 (gd_t hp8.1 hc16) rfl (gd_t hp8.2.1 hc16) (imp_t hb4 hc16))) ?_
      exact ALW_nil ⟨fun _ => rfl, rfl⟩
     ·
      intro e9 hs9 hp9
      refine ALW_g1 (g := 21) (s := decide (a_a < i2)) rfl hp9.2.1 (fun hc17 => AVal.step (AVal_loadV1M (f := cI) (l := l3) (i := i2) (c := 0) (a := (li (at_ l3 i2))) Try.isAgg3 (gd_t hp9.1 hc17) rfl (by first | rfl | omega) (imp_t hb4 hc17) rfl rfl)) ?_
      exact ALW_nil ⟨fun _ => rfl, rfl⟩
     ·
      intro e10 hs10 hp10
      refine ALW_g1 (g := 21) (s := decide (a_a < i2)) rfl hp10.1 (fun hc18 => AVal.step (AVal_move (av := (AV.hd 0)) (hs10 0 rfl))) ?_
      exact ALW_nil ⟨fun _ => rfl, rfl⟩
     ·
      intro e11 hs11 hp11
      refine ALW_g1 (g := 21) (s := decide (a_a < i2)) rfl hp11.1 (fun hc19 => AVal.step (AVal_move (av := (li i2)) (hs11 9 rfl))) ?_
      exact ALW_nil ⟨fun _ => rfl, rfl⟩
     ·
      intro e12 hs12 hp12
      refine ALW_g1 (g := 21) (s := decide (a_a < i2)) rfl hp12.2.1 (fun hc20 => AVal.step (AVal_sub (a := i2) (b := 1) (gd_t hp12.1 hc20) rfl (imp_t hb5 hc20))) ?_
      exact ALW_nil ⟨fun _ => rfl, rfl⟩
     ·
      intro e13 hs13 hp13
      refine ALW_g1 (g := 21) (s := decide (a_a < i2)) rfl hp13.2.2.1 (fun hc21 => AVal.step (AVal_idxVM (f := cI) (l := l3) (i := i2 - 1) Try.underlying22 Try.sizeOf3 (gd_t hp13.1 hc21) rfl (gd_t hp13.2.1 hc21) (imp_t hb6 hc21))) ?_
      exact ALW_nil ⟨fun _ => rfl, rfl⟩
     ·
      intro e14 hs14 hp14
      refine ALW_g1 (g := 21) (s := decide (a_a < i2)) rfl hp14.2.1 (fun hc22 => AVal.step (AVal_loadV1M (f := cI) (l := l3) (i := i2 - 1) (c := 0) (a := (li (at_ l3 (i2 - 1)))) Try.isAgg3 (gd_t hp14.1 hc22) rfl (by first | rfl | omega) (imp_t hb6 hc22) rfl rfl)) ?_
      exact ALW_nil ⟨fun _ => rfl, rfl⟩
     ·
      intro e15 hs15 hp15
      refine ALW_callG1 (g := 21) (s := decide (a_a < i2)) (r' := (li x1)) rfl hp15.2.2.2.2.1 (fun hc23 => ⟨g_a_cmp, cf_a_cmp, code_a_cmp, caps_a_cmp, (li (at_ l3 i2)) :: (li (at_ l3 (i2 - 1))) :: caps_a_cmp, (li (at_ l3 i2)) :: (li (at_ l3 (i2 - 1))) :: caps_a_cmp, (li x1), [], hcf_a_cmp, hcb_a_cmp, hcn_a_cmp, .clo (gd_t hp15.1 hc23), (lcons (gd_t hp15.2.1 hc23) (lcons (gd_t hp15.2.2.1 hc23) rfl)), ViewL.c (View.nr rfl) (ViewL.c (View.nr rfl) (ViewL.nrs hnr_a_cmp)), hg_a_cmp (cnd_t hc23 hx1), .inl rfl, rfl⟩) ?_
      exact ALW_nil ⟨fun _ => rfl, rfl⟩
     ·
      intro e16 hs16 hp16
      refine ALW_g1 (g := 21) (s := decide (a_a < i2)) rfl hp16.2.1 (fun hc24 => AVal.step (AVal_lss (a := x1) (b := 0) (gd_t hp16.1 hc24) rfl)) ?_
      exact ALW_nil ⟨fun _ => rfl, rfl⟩
     ·exact fun e s p => ALW1 (AVal_pick_and (s := decide (a_a < i2)) (q := decide (x1 < 0)) (j := .lit undef) p.1 p.2.1) ⟨fun _ => rfl, rfl⟩
     intro e18 hs18 hq1
     refine AW_rep (Rep_mk (l := [(0, (AV.hd 0)), (1, (li a_a)), (2, (li a_b)), (3, (AV.clo g_a_cmp caps_a_cmp)), (8, (li i1)), (9, (li i2)), (34, (AV.lit (.bool ((decide (a_a < i2)) && (decide (x1 < 0))))))]) ⟨(hs18 0 rfl), (hs18 1 rfl), (hs18 2 rfl), (hs18 3 rfl), (hs18 8 rfl), (hs18 9 rfl), (hq1 16 (by decide) (by decide)), trivial⟩) ?_
     refine AW_cond ((decide (a_a < i2)) && (decide (x1 < 0))) rfl (fun hb7 => ?_) (fun hb7 => ?_)
     ·replace h := cnd_t hb7 h
      refine AW_skip <| AW_seq <| AW_block ?_
      have hb8 := (chk_some h).1
      replace h := (chk_some h).2
      have hb9 := (chk_some h).1
      replace h := (chk_some h).2
      have hb10 := (chk_some h).1
      replace h := (chk_some h).2
      have hb11 := (chk_some h).1
      replace h := (chk_some h).2
      show AW _ _ _ _ _ _ [.vec 3 1 (List.map cI l3)]
      refine AW_draw (n := 53) (m := 1) [.head 0 0, .head 0 0, .head 0 1, .head 0 1, .head 0 1, .head 0 0, .head 0 0, .head 0 0, .head 0 0, .head 0 0, .head 0 0, .head 0 0, .head 0 0, .head 0 0, .head 0 0, .tail 0, .head 1 1, .tail 1] [15, 17] [(AV.hd 0), (li i2), (AV.hd 0), (li i2), (li (i2 - 1)), (AV.hd 0), (li i2), (li (i2 - 1)), (AV.ptr 0 ((i2 - 1).toNat * 1)), (li (at_ l3 (i2 - 1))), (AV.hd 0), (li i2), (AV.ptr 0 (i2.toNat * 1)), (li (at_ l3 i2)), (AV.ptr 0 (i2.toNat * 1)), .any, (AV.ptr 0 ((i2 - 1).toNat * 1)), .any] [[.vec 3 1 (List.map cI l3)], [.vec 3 1 (List.map cI (l3.set i2.toNat (at_ l3 (i2 - 1))))], [.vec 3 1 (List.map cI ((l3.set i2.toNat (at_ l3 (i2 - 1))).set (i2 - 1).toNat (at_ l3 i2)))]] (by kernel_rfl) (by kernel_rfl) ⟨?_, ?_, ⟨?_, ?_⟩, ⟨?_, ?_⟩, ⟨?_, ?_⟩, ?_, ?_, ?_, ?_, ?_, ?_, ?_, ?_, ?_, ?_, ?_, ?_, ?_, trivial⟩ ?_
      ·exact fun e s p => ALW1 (AVal_move (av := (AV.hd 0)) (s 0 rfl)) ⟨fun _ => rfl, rfl⟩
      ·exact fun e s p => ALW1 (AVal_move (av := (li i2)) (s 9 rfl)) ⟨fun _ => rfl, rfl⟩
      ·exact fun e s p => ALW1 (AVal_move (av := (AV.hd 0)) (s 0 rfl)) ⟨fun _ => rfl, rfl⟩
      ·exact fun e s p => ALW1 (AVal_move (av := (AV.hd 0)) (s 0 rfl)) ⟨fun _ => rfl, rfl⟩
      ·exact fun e s p => ALW1 (AVal_move (av := (li i2)) (s 9 rfl)) ⟨fun _ => rfl, rfl⟩
      ·exact fun e s p => ALW1 (AVal_move (av := (li i2)) (s 9 rfl)) ⟨fun _ => rfl, rfl⟩
      ·exact fun e s p => ALW1 (AVal_sub (a := i2) (b := 1) p.1 rfl hb8) ⟨fun _ => rfl, rfl⟩
      ·exact fun e s p => ALW1 (AVal_sub (a := i2) (b := 1) p.1 rfl hb8) ⟨fun _ => rfl, rfl⟩
      ·exact fun e s p => ALW1 (AVal_move (av := (AV.hd 0)) (s 0 rfl)) ⟨fun _ => rfl, rfl⟩
      ·exact fun e s p => ALW1 (AVal_move (av := (li i2)) (s 9 rfl)) ⟨fun _ => rfl, rfl⟩
      ·exact fun e s p => ALW1 (AVal_sub (a := i2) (b := 1) p.1 rfl hb8) ⟨fun _ => rfl, rfl⟩
      ·exact fun e s p => ALW1 (AVal_idxVM (f := cI) (l := l3) (i := i2 - 1) Try.underlying22 Try.sizeOf3 p.1 rfl p.2.1 hb9) ⟨fun _ => rfl, rfl⟩
      ·exact fun e s p => ALW1 (AVal_loadV1M (f := cI) (l := l3) (i := i2 - 1) (c := 0) (a := (li (at_ l3 (i2 - 1)))) Try.isAgg3 p.1 rfl (by first | rfl | omega) hb9 rfl rfl) ⟨fun _ => rfl, rfl⟩
      ·exact fun e s p => ALW1 (AVal_move (av := (AV.hd 0)) (s 0 rfl)) ⟨fun _ => rfl, rfl⟩
      ·exact fun e s p => ALW1 (AVal_move (av := (li i2)) (s 9 rfl)) ⟨fun _ => rfl, rfl⟩
      ·exact fun e s p => ALW1 (AVal_idxVM (f := cI) (l := l3) (i := i2) Try.underlying22 Try.sizeOf3 p.1 rfl p.2.1 hb10) ⟨fun _ => rfl, rfl⟩
      ·exact fun e s p => ALW1 (AVal_loadV1M (f := cI) (l := l3) (i := i2) (c := 0) (a := (li (at_ l3 i2))) Try.isAgg3 p.1 rfl (by first | rfl | omega) hb10 rfl rfl) ⟨fun _ => rfl, rfl⟩
      ·exact fun e s p => ALW1 (AVal_idxVM (f := cI) (l := l3) (i := i2) Try.underlying22 Try.sizeOf3 p.2.2.1 rfl p.2.2.2.1 hb10) ⟨fun _ => rfl, rfl⟩
      ·
       intro e37 hs37 hp36
       refine ALW_act (H' := [.vec 3 1 (List.map cI (l3.set i2.toNat (at_ l3 (i2 - 1))))]) (AAct_storeV1M (k := 0) (o := (i2.toNat * 1)) (f := cI) (l := l3) (i := i2) (c := 0) (a := (li (at_ l3 (i2 - 1)))) (z := at_ l3 (i2 - 1)) Try.sizeOf3 (by exact hp36.1) rfl (by first | rfl | omega) hb10 rfl (by exact hp36.2.2.2.2.2.2.2.2.2.2.2.1) rfl rfl rfl) ?_
       exact ALW_nil ⟨fun _ => rfl, rfl⟩
      ·exact fun e s p => ALW1 (AVal_idxVM (f := cI) (l := l3.set i2.toNat (at_ l3 (i2 - 1))) (i := i2 - 1) Try.underlying22 Try.sizeOf3 p.2.2.2.2.1 rfl p.2.2.2.2.2.2.1 hb11) ⟨fun _ => rfl, rfl⟩
      ·
       intro e39 hs39 hp38
       refine ALW_act (H' := [.vec 3 1 (List.map cI ((l3.set i2.toNat (at_ l3 (i2 - 1))).set (i2 - 1).toNat (at_ l3 i2)))]) (AAct_storeV1M (k := 0) (o := ((i2 - 1).toNat * 1)) (f := cI) (l := l3.set i2.toNat (at_ l3 (i2 - 1))) (i := i2 - 1) (c := 0) (a := (li (at_ l3 i2))) (z := at_ l3 i2) Try.sizeOf3 (by exact hp38.1) rfl (by first | rfl | omega) hb11 rfl (by exact hp38.2.2.2.2.2.2.2.2.2.2.2.2.2.2.2.2.1) rfl rfl rfl) ?_
       exact ALW_nil ⟨fun _ => rfl, rfl⟩
      intro e40 hs40 hq2
      refine AW_rep (Rep_mk (l := [(0, (AV.hd 0)), (1, (li a_a)), (2, (li a_b)), (3, (AV.clo g_a_cmp caps_a_cmp)), (8, (li i1)), (9, (li i2))]) ⟨(hs40 0 rfl), (hs40 1 rfl), (hs40 2 rfl), (hs40 3 rfl), (hs40 8 rfl), (hs40 9 rfl), trivial⟩) <| AW_region <| ALW_val (AVal_move (av := (li i2)) rfl) <| ALW_val (AVal_sub (a := i2) (b := 1) rfl rfl hb8) <| ALW_val (AVal_assign (av := (li (i2 - 1))) rfl) <| ALW_nil ?_
      exact ⟨(n1, (i2 - 1), ((l3.set i2.toNat (at_ l3 (i2 - 1))).set (i2 - 1).toNat (at_ l3 i2))), Nat.lt_succ_self _, Rep_perm (n := 53) (m := 1) [0] (l := [(0, (AV.hd 0)), (1, (li a_a)), (2, (li a_b)), (3, (AV.clo g_a_cmp caps_a_cmp)), (8, (li i1)), (9, (li (i2 - 1)))]) ⟨⟨Sub.refl _, by kernel_rfl⟩, ⟨Sub.refl _, by kernel_rfl⟩, ⟨Sub.refl _, by kernel_rfl⟩, ⟨Sub_clo hnr_a_cmp, okA_clo hnr_a_cmp⟩, ⟨Sub.refl _, by kernel_rfl⟩, ⟨Sub.refl _, by kernel_rfl⟩, trivial⟩ rfl rfl ⟨⟨rfl, by kernel_rfl⟩, trivial⟩, h⟩
     ·replace h := cnd_f hb7 h
      refine AW_exit ?_
      exact ⟨l3, Rep_perm (n := 53) (m := 1) [0] (l := [(0, (AV.hd 0)), (1, (li a_a)), (2, (li a_b)), (3, (AV.clo g_a_cmp caps_a_cmp)), (8, (li i1))]) ⟨⟨Sub.refl _, by kernel_rfl⟩, ⟨Sub.refl _, by kernel_rfl⟩, ⟨Sub.refl _, by kernel_rfl⟩, ⟨Sub_clo hnr_a_cmp, okA_clo hnr_a_cmp⟩, ⟨Sub.refl _, by kernel_rfl⟩, trivial⟩ rfl rfl ⟨⟨rfl, by kernel_rfl⟩, trivial⟩, h⟩
   ·
    clear h
    rintro e' H' ⟨l2, hrep, h⟩
    refine AW_rep hrep ?_
    clear hrep
    unfold slices_insertionSortCmpFunc_int_j0 at h
    refine AW_region <| ALW_val (AVal_move rfl) ?_
    have hb3 := (chk_some h).1
    replace h := (chk_some h).2
    refine ALW_val (AVal_add rfl rfl hb3) <| ALW_val (AVal_assign rfl) <| ALW_nil ?_
    exact ⟨(n0, (i1 + 1), l2), Nat.lt_succ_self _, Rep_perm (n := 53) (m := 1) [0] (l := [(0, (AV.hd 0)), (1, (li a_a)), (2, (li a_b)), (3, (AV.clo g_a_cmp caps_a_cmp)), (8, (li (i1 + 1)))]) ⟨⟨Sub.refl _, by kernel_rfl⟩, ⟨Sub.refl _, by kernel_rfl⟩, ⟨Sub.refl _, by kernel_rfl⟩, ⟨Sub_clo hnr_a_cmp, okA_clo hnr_a_cmp⟩, ⟨Sub.refl _, by kernel_rfl⟩, trivial⟩ rfl rfl ⟨⟨rfl, by kernel_rfl⟩, trivial⟩, h⟩
  ·replace h := cnd_f hb2 h
   refine AW_exit ?_
   show RetB _ _ _ _ _ _ _ _
   obtain rfl := Option.some.inj h
   exact ⟨mkE [], [.vec 3 1 (List.map cI l1)], RepP [0] rfl rfl (by kernel_rfl), RetA_0 rfl⟩
end Go.Proofs.Ytplkliakhdkpcaa
