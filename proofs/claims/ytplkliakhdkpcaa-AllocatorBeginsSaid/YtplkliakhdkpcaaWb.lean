/-
  The program computes what these functions give, part b.
-/
import Derived.Test.YtplkliakhdkpcaaWa
set_option linter.unusedVariables false
set_option linter.unusedSimpArgs false
namespace Go.Proofs.Ytplkliakhdkpcaa
open Go Go.RowKit Go.Wk Go.Am Go.Proofs
set_option maxHeartbeats 4000000
theorem slices_stableCmpFunc_int_ok {a_data : List Int} {a_n : Int} {a_cmp : Int → Int → Option Int} {g_a_cmp : FuncId} {cf_a_cmp : Func} {code_a_cmp : Code} {caps_a_cmp : List AV} (hcf_a_cmp : Try.prog.funcs[g_a_cmp]? = some cf_a_cmp) (hcb_a_cmp : cf_a_cmp.body = some code_a_cmp) (hcn_a_cmp : (cf_a_cmp.name == "runtime.NumGoroutine") = false) (hnr_a_cmp : caps_a_cmp.all nr = true) (hg_a_cmp : ∀ {x0 : Int} {x1 : Int} {y : Int}, a_cmp x0 x1 = some y → PFn Try.prog g_a_cmp ((li x0) :: (li x1) :: caps_a_cmp) (li y)) {r : (List Int)} (h : slices_stableCmpFunc_int a_data a_n a_cmp = some r) : AFn Try.prog 94 [(AV.hd 0), (li a_n), (AV.clo g_a_cmp caps_a_cmp)] [.vec 3 1 (List.map cI a_data)] (.tup []) [.vec 3 1 (List.map cI r)] := by
 refine AFn_enter2 Try.func94 rfl Try.ntmps94 Try.results94 rfl ?_
 unfold slices_stableCmpFunc_int at h
 refine AW_seq <| AW_region <| ALW_val (AVal_assign rfl) <| ALW_nil <| AW_seq <| AW_region ?_
 refine ALW_val (AVal_move rfl) <| ALW_val (AVal_assign rfl) <| ALW_val (AVal_assign rfl) <| ALW_nil ?_
 refine AW_seqJ (fun e' H' => ∃ (i1 : Int) (l1 : List Int), Rep 63 1 e' H' (mkE [(0, (AV.hd 0)), (1, (li a_n)), (2, (AV.clo g_a_cmp caps_a_cmp)), (6, (li 20)), (7, (li i1))]) [.vec 3 1 (List.map cI l1)] ∧ slices_stableCmpFunc_int_j0 a_n a_cmp i1 l1 = some r) ?_ ?_
 ·
  refine AW_block <| AW_loop (σ := Nat × Int × Int × (List Int)) (fun s => s.1) (fun s e' H' => match s with | (n2, i3, i4, l2) => Rep 63 1 e' H' (mkE [(0, (AV.hd 0)), (1, (li a_n)), (2, (AV.clo g_a_cmp caps_a_cmp)), (6, (li 20)), (7, (li i3)), (8, (li i4))]) [.vec 3 1 (List.map cI l2)] ∧ slices_stableCmpFunc_int_l2 a_n a_cmp n2 i3 i4 l2 = some r) (FUEL, 0, 20, a_data) ⟨Rep_perm (n := 63) (m := 1) [0] (l := [(0, (AV.hd 0)), (1, (li a_n)), (2, (AV.clo g_a_cmp caps_a_cmp)), (6, (li 20)), (7, (li 0)), (8, (li 20))]) ⟨⟨Sub.refl _, by kernel_rfl⟩, ⟨Sub.refl _, by kernel_rfl⟩, ⟨Sub_clo hnr_a_cmp, okA_clo hnr_a_cmp⟩, ⟨Sub.refl _, by kernel_rfl⟩, ⟨Sub.refl _, by kernel_rfl⟩, ⟨Sub.refl _, by kernel_rfl⟩, trivial⟩ rfl rfl ⟨⟨rfl, by kernel_rfl⟩, trivial⟩, h⟩ ?_
  clear h
  rintro ⟨n2, i3, i4, l2⟩ e' H' ⟨hrep, h⟩
  cases n2 with
  | zero => exact absurd (show (none : Option _) = some r from h) (by simp)
  | succ n2 =>
   replace h : slices_stableCmpFunc_int_b2 a_n a_cmp (slices_stableCmpFunc_int_l2 a_n a_cmp n2) i3 i4 l2 = some r := h
   unfold slices_stableCmpFunc_int_b2 at h
   refine AW_rep hrep ?_
   clear hrep
   refine AW_seq <| AW_seq <| AW_region <| ALW_val (AVal_move rfl) <| ALW_val (AVal_move rfl) <| ALW_val (AVal_leq rfl rfl) ?_
   refine ALW_nil ?_
   refine AW_cond (decide (i4 ≤ a_n)) rfl (fun hb8 => ?_) (fun hb8 => ?_)
   ·replace h := cnd_t hb8 h
    refine AW_skip <| AW_block <| AW_seq <| AW_region <| ALW_val (AVal_move rfl) <| ALW_val (AVal_move rfl) ?_
    refine ALW_val (AVal_move rfl) <| ALW_val (AVal_move rfl) ?_
    refine bnd_elim h ?_; clear h; intro x2 hx2 h
    refine ALW_callX (k := 0) (la := [(AV.hd 0), (li i3), (li i4), (AV.clo g_a_cmp caps_a_cmp)]) (la' := [(AV.hd 0), (li i3), (li i4), (AV.clo g_a_cmp caps_a_cmp)]) (r := (.tup [])) (S := []) (en' := .vec 3 1 (List.map cI x2)) Try.func101 rfl (by kernel_rfl) (.fn 101) rfl ⟨ViewK.hd, ViewK.of (View.nr rfl), ViewK.of (View.nr rfl), ViewK.of (View.clo (ViewL.nrs hnr_a_cmp)), trivial⟩ rfl rfl rfl rfl (slices_insertionSortCmpFunc_int_ok hcf_a_cmp hcb_a_cmp hcn_a_cmp hnr_a_cmp hg_a_cmp hx2) rfl (.inl rfl) <| ALW_nil <| AW_seq <| AW_region <| ALW_val (AVal_move rfl) <| ALW_val (AVal_assign rfl) ?_
    refine ALW_nil <| AW_region <| ALW_val (AVal_move rfl) <| ALW_val (AVal_move rfl) ?_
    have hb9 := (chk_some h).1
    replace h := (chk_some h).2
    refine ALW_val (AVal_add rfl rfl hb9) <| ALW_val (AVal_assign rfl) <| ALW_nil ?_
    exact ⟨(n2, i4, (i4 + 20), x2), Nat.lt_succ_self _, Rep_perm (n := 63) (m := 1) [0] (l := [(0, (AV.hd 0)), (1, (li a_n)), (2, (AV.clo g_a_cmp caps_a_cmp)), (6, (li 20)), (7, (li i4)), (8, (li (i4 + 20)))]) ⟨⟨Sub.refl _, by kernel_rfl⟩, ⟨Sub.refl _, by kernel_rfl⟩, ⟨Sub_clo hnr_a_cmp, okA_clo hnr_a_cmp⟩, ⟨Sub.refl _, by kernel_rfl⟩, ⟨Sub.refl _, by kernel_rfl⟩, ⟨Sub.refl _, by kernel_rfl⟩, trivial⟩ rfl rfl ⟨⟨rfl, by kernel_rfl⟩, trivial⟩, h⟩
   ·replace h := cnd_f hb8 h
    refine AW_exit ?_
    exact ⟨i3, l2, Rep_perm (n := 63) (m := 1) [0] (l := [(0, (AV.hd 0)), (1, (li a_n)), (2, (AV.clo g_a_cmp caps_a_cmp)), (6, (li 20)), (7, (li i3))]) ⟨⟨Sub.refl _, by kernel_rfl⟩, ⟨Sub.refl _, by kernel_rfl⟩, ⟨Sub_clo hnr_a_cmp, okA_clo hnr_a_cmp⟩, ⟨Sub.refl _, by kernel_rfl⟩, ⟨Sub.refl _, by kernel_rfl⟩, trivial⟩ rfl rfl ⟨⟨rfl, by kernel_rfl⟩, trivial⟩, h⟩
 ·
  clear h
  rintro e' H' ⟨i1, l1, hrep, h⟩
  refine AW_rep hrep ?_
  clear hrep
  unfold slices_stableCmpFunc_int_j0 at h
  refine AW_seq <| AW_region <| ALW_val (AVal_move rfl) <| ALW_val (AVal_move rfl) <| ALW_val (AVal_move rfl) <| ALW_val (AVal_move rfl) ?_
  refine bnd_elim h ?_; clear h; intro x1 hx1 h
  refine ALW_callX (k := 0) (la := [(AV.hd 0), (li i1), (li a_n), (AV.clo g_a_cmp caps_a_cmp)]) (la' := [(AV.hd 0), (li i1), (li a_n), (AV.clo g_a_cmp caps_a_cmp)]) (r := (.tup [])) (S := []) (en' := .vec 3 1 (List.map cI x1)) Try.func101 rfl (by kernel_rfl) (.fn 101) rfl ⟨ViewK.hd, ViewK.of (View.nr rfl), ViewK.of (View.nr rfl), ViewK.of (View.clo (ViewL.nrs hnr_a_cmp)), trivial⟩ rfl rfl rfl rfl (slices_insertionSortCmpFunc_int_ok hcf_a_cmp hcb_a_cmp hcn_a_cmp hnr_a_cmp hg_a_cmp hx1) rfl (.inl rfl) <| ALW_nil <| AW_block <| AW_loop (σ := Nat × Int) (fun s => s.1) (fun s e' H' => match s with | (n0, i2) => Rep 63 1 e' H' (mkE [(0, (AV.hd 0)), (1, (li a_n)), (2, (AV.clo g_a_cmp caps_a_cmp)), (6, (li i2))]) [.vec 3 1 (List.map cI x1)] ∧ slices_stableCmpFunc_int_l0 a_n x1 n0 i2 = some r) (FUEL, 20) ⟨Rep_perm (n := 63) (m := 1) [0] (l := [(0, (AV.hd 0)), (1, (li a_n)), (2, (AV.clo g_a_cmp caps_a_cmp)), (6, (li 20))]) ⟨⟨Sub.refl _, by kernel_rfl⟩, ⟨Sub.refl _, by kernel_rfl⟩, ⟨Sub_clo hnr_a_cmp, okA_clo hnr_a_cmp⟩, ⟨Sub.refl _, by kernel_rfl⟩, trivial⟩ rfl rfl ⟨⟨rfl, by kernel_rfl⟩, trivial⟩, h⟩ ?_
  clear h
  rintro ⟨n0, i2⟩ e' H' ⟨hrep, h⟩
  cases n0 with
  | zero => exact absurd (show (none : Option _) = some r from h) (by simp)
  | succ n0 =>
   replace h : slices_stableCmpFunc_int_b0 a_n x1 (slices_stableCmpFunc_int_l0 a_n x1 n0) i2 = some r := h
   unfold slices_stableCmpFunc_int_b0 at h
   refine AW_rep hrep ?_
   clear hrep
   refine AW_seq <| AW_seq <| AW_region <| ALW_val (AVal_move rfl) <| ALW_val (AVal_move rfl) <| ALW_val (AVal_lss rfl rfl) ?_
   refine ALW_nil ?_
   refine AW_cond (decide (i2 < a_n)) rfl (fun hb1 => ?_) (fun hb1 => ?_)
   ·replace h := cnd_t hb1 h
    refine AW_skip <| AW_block <| AW_seq <| AW_region <| ALW_val (AVal_move rfl) ?_
    have hb2 := (chk_some h).1
    replace h := (chk_some h).2
    refine ALW_val (AVal_mul (a := 2) (b := i2) rfl rfl hb2) <| ALW_val (AVal_assign rfl) <| ALW_val (AVal_assign rfl) <| ALW_nil ?_
    refine AW_seqJ (fun e' H' => Rep 63 1 e' H' (mkE [(0, (AV.hd 0)), (1, (li a_n)), (2, (AV.clo g_a_cmp caps_a_cmp)), (6, (li i2)), (7, (li 0))]) [.vec 3 1 (List.map cI x1)] ∧ slices_stableCmpFunc_int_j1 (slices_stableCmpFunc_int_l0 a_n x1 n0) a_n i2 = some r) ?_ ?_
    ·
     refine AW_block <| AW_loop (σ := Nat) (fun s => s) (fun s e' H' => match s with | n1 => Rep 63 1 e' H' (mkE [(0, (AV.hd 0)), (1, (li a_n)), (2, (AV.clo g_a_cmp caps_a_cmp)), (6, (li i2)), (7, (li 0)), (8, (li (2 * i2)))]) [.vec 3 1 (List.map cI x1)] ∧ slices_stableCmpFunc_int_l1 (slices_stableCmpFunc_int_l0 a_n x1 n0) a_n i2 n1 = some r) (FUEL) ⟨Rep_perm (n := 63) (m := 1) [0] (l := [(0, (AV.hd 0)), (1, (li a_n)), (2, (AV.clo g_a_cmp caps_a_cmp)), (6, (li i2)), (7, (li 0)), (8, (li (2 * i2)))]) ⟨⟨Sub.refl _, by kernel_rfl⟩, ⟨Sub.refl _, by kernel_rfl⟩, ⟨Sub_clo hnr_a_cmp, okA_clo hnr_a_cmp⟩, ⟨Sub.refl _, by kernel_rfl⟩, ⟨Sub.refl _, by kernel_rfl⟩, ⟨Sub.refl _, by kernel_rfl⟩, trivial⟩ rfl rfl ⟨⟨rfl, by kernel_rfl⟩, trivial⟩, h⟩ ?_
     clear h
     rintro n1 e' H' ⟨hrep, h⟩
     cases n1 with
     | zero => exact absurd (show (none : Option _) = some r from h) (by simp)
     | succ n1 =>
      replace h : slices_stableCmpFunc_int_b1 (slices_stableCmpFunc_int_l0 a_n x1 n0) a_n i2 (slices_stableCmpFunc_int_l1 (slices_stableCmpFunc_int_l0 a_n x1 n0) a_n i2 n1) = some r := h
      unfold slices_stableCmpFunc_int_b1 at h
      refine AW_rep hrep ?_
      clear hrep
      refine AW_seq <| AW_seq <| AW_region <| ALW_val (AVal_move rfl) <| ALW_val (AVal_move rfl) <| ALW_val (AVal_leq rfl rfl) ?_
      refine ALW_nil ?_
      refine AW_cond (decide ((2 * i2) ≤ a_n)) rfl (fun hb6 => ?_) (fun hb6 => ?_)
      ·replace h := cnd_t hb6 h
       refine AW_skip <| AW_block <| AW_seq <| AW_region <| ALW_val (AVal_move rfl) <| ALW_val (AVal_move rfl) ?_
       refine ALW_val (AVal_move rfl) <| ALW_val (AVal_move rfl) ?_
       have hb7 := (chk_some h).1
       replace h := (chk_some h).2
       refine ALW_val (AVal_add rfl rfl hb7) <| ALW_val (AVal_move rfl) <| ALW_val (AVal_move rfl) ?_
       exact absurd h (by simp)
      ·replace h := cnd_f hb6 h
       refine AW_exit ?_
       exact ⟨Rep_perm (n := 63) (m := 1) [0] (l := [(0, (AV.hd 0)), (1, (li a_n)), (2, (AV.clo g_a_cmp caps_a_cmp)), (6, (li i2)), (7, (li 0))]) ⟨⟨Sub.refl _, by kernel_rfl⟩, ⟨Sub.refl _, by kernel_rfl⟩, ⟨Sub_clo hnr_a_cmp, okA_clo hnr_a_cmp⟩, ⟨Sub.refl _, by kernel_rfl⟩, ⟨Sub.refl _, by kernel_rfl⟩, trivial⟩ rfl rfl ⟨⟨rfl, by kernel_rfl⟩, trivial⟩, h⟩
    ·
     clear h
     rintro e' H' ⟨hrep, h⟩
     refine AW_rep hrep ?_
     clear hrep
     unfold slices_stableCmpFunc_int_j1 at h
     refine AW_seq <| AW_seq <| AW_region <| ALW_val (AVal_move rfl) <| ALW_val (AVal_move rfl) ?_
     have hb3 := (chk_some h).1
     replace h := (chk_some h).2
     refine ALW_val (AVal_add rfl rfl hb3) <| ALW_val (AVal_assign rfl) <| ALW_nil <| AW_seq <| AW_region <| ALW_val (AVal_move rfl) ?_
     refine ALW_val (AVal_move rfl) <| ALW_val (AVal_lss rfl rfl) <| ALW_nil ?_
     refine AW_cond (decide ((0 + i2) < a_n)) rfl (fun hb4 => ?_) (fun hb4 => ?_)
     ·replace h := cnd_t hb4 h
      refine AW_region <| ALW_val (AVal_move rfl) <| ALW_val (AVal_move rfl) <| ALW_val (AVal_move rfl) <| ALW_val (AVal_move rfl) <| ALW_val (AVal_move rfl) ?_
      exact absurd h (by simp)
     ·replace h := cnd_f hb4 h
      refine AW_skip <| AW_region <| ALW_val (AVal_move rfl) ?_
      have hb5 := (chk_some h).1
      replace h := (chk_some h).2
      refine ALW_val (AVal_mul (a := i2) (b := 2) rfl rfl hb5) <| ALW_val (AVal_assign rfl) <| ALW_nil ?_
      exact ⟨(n0, (i2 * 2)), Nat.lt_succ_self _, Rep_perm (n := 63) (m := 1) [0] (l := [(0, (AV.hd 0)), (1, (li a_n)), (2, (AV.clo g_a_cmp caps_a_cmp)), (6, (li (i2 * 2)))]) ⟨⟨Sub.refl _, by kernel_rfl⟩, ⟨Sub.refl _, by kernel_rfl⟩, ⟨Sub_clo hnr_a_cmp, okA_clo hnr_a_cmp⟩, ⟨Sub.refl _, by kernel_rfl⟩, trivial⟩ rfl rfl ⟨⟨rfl, by kernel_rfl⟩, trivial⟩, h⟩
   ·replace h := cnd_f hb1 h
    refine AW_exit ?_
    show RetB _ _ _ _ _ _ _ _
    obtain rfl := Option.some.inj h
    exact ⟨mkE [], [.vec 3 1 (List.map cI x1)], RepP [0] rfl rfl (by kernel_rfl), RetA_0 rfl⟩
theorem slices_SortStableFunc_Lint_int_ok {a_x : List Int} {a_cmp : Int → Int → Option Int} {g_a_cmp : FuncId} {cf_a_cmp : Func} {code_a_cmp : Code} {caps_a_cmp : List AV} (hcf_a_cmp : Try.prog.funcs[g_a_cmp]? = some cf_a_cmp) (hcb_a_cmp : cf_a_cmp.body = some code_a_cmp) (hcn_a_cmp : (cf_a_cmp.name == "runtime.NumGoroutine") = false) (hnr_a_cmp : caps_a_cmp.all nr = true) (hg_a_cmp : ∀ {x0 : Int} {x1 : Int} {y : Int}, a_cmp x0 x1 = some y → PFn Try.prog g_a_cmp ((li x0) :: (li x1) :: caps_a_cmp) (li y)) {r : (List Int)} (h : slices_SortStableFunc_Lint_int a_x a_cmp = some r) : AFn Try.prog 70 [(AV.hd 0), (AV.clo g_a_cmp caps_a_cmp)] [.vec 3 1 (List.map cI a_x)] (.tup []) [.vec 3 1 (List.map cI r)] := by
 refine AFn_enter2 Try.func70 rfl Try.ntmps70 Try.results70 rfl ?_
 unfold slices_SortStableFunc_Lint_int at h
 refine AW_region <| ALW_val (AVal_move rfl) <| ALW_val (AVal_move rfl) <| ALW_val (AVal_lenVM (f := cI) (l := a_x) Try.underlying22 rfl rfl) <| ALW_val (AVal_move rfl) ?_
 refine bnd_elim h ?_; clear h; intro x1 hx1 h
 refine ALW_callX (k := 0) (la := [(AV.hd 0), (li (a_x.length : Int)), (AV.clo g_a_cmp caps_a_cmp)]) (la' := [(AV.hd 0), (li (a_x.length : Int)), (AV.clo g_a_cmp caps_a_cmp)]) (r := (.tup [])) (S := []) (en' := .vec 3 1 (List.map cI x1)) Try.func94 rfl (by kernel_rfl) (.fn 94) rfl ⟨ViewK.hd, ViewK.of (View.nr rfl), ViewK.of (View.clo (ViewL.nrs hnr_a_cmp)), trivial⟩ rfl rfl rfl rfl (slices_stableCmpFunc_int_ok hcf_a_cmp hcb_a_cmp hcn_a_cmp hnr_a_cmp hg_a_cmp hx1) rfl (.inl rfl) <| ALW_nil ?_
 show RetB _ _ _ _ _ _ _ _
 obtain rfl := Option.some.inj h
 exact ⟨mkE [], [.vec 3 1 (List.map cI x1)], RepP [0] rfl rfl (by kernel_rfl), RetA_0 rfl⟩
theorem zonelist_Order_ok {a_zones : List Zone} {a_node : Int} {a_kernel : Bool} {r : (List Int) × Int} (h : zonelist_Order a_zones a_node a_kernel = some r) : PFn Try.prog 40 [(ls cZone a_zones), (li a_node), (AV.lit (.bool a_kernel))] (AV.tup [(ls cI r.1), (li r.2)]) := by
 refine PFn_enter Try.func40 rfl Try.ntmps40 Try.results40 rfl ?_
 unfold zonelist_Order at h
 refine AW_seq <| AW_region <| ALW_step (H' := [.box 26 [(ls cZone a_zones)]]) (AStep_box1 (t := 26) (a := (ls cZone a_zones)) rfl rfl) <| ALW_step (H' := [.box 26 [(ls cZone a_zones)], .box 3 [(li a_node)]]) (AStep_box1 (t := 3) (a := (li a_node)) rfl rfl) <| ALW_val (AVal_assign rfl) <| ALW_val (AVal_assign rfl) ?_
 refine ALW_nil <| AW_seq <| AW_seq <| AW_region <| ALW_val (AVal_load1 Try.isAgg26 rfl rfl rfl rfl) <| ALW_val (AVal_load1 Try.isAgg3 rfl rfl rfl rfl) ?_
 refine bnd_elim h ?_; clear h; intro x1 hx1 h
 refine ALW_callN Try.func67 rfl (by kernel_rfl) (.fn 67) rfl rfl (zonelist_check_ok hx1) rfl <| ALW_val (AVal_assign rfl) <| ALW_nil <| AW_seq <| AW_region <| ALW_val (AVal_move rfl) ?_
 refine ALW_val (AVal_neq rfl rfl) <| ALW_nil ?_
 refine AW_cond (!decide (x1 = 0)) rfl (fun hb1 => ?_) (fun hb1 => ?_)
 ·replace h := cnd_t hb1 h
  refine AW_seq <| AW_region <| ALW_val (AVal_move rfl) <| ALW_val (AVal_assign rfl) <| ALW_val (AVal_assign rfl) <| ALW_nil ?_
  refine AW_ret ?_
  show RetP _ _ _ _ _ _
  obtain rfl := Option.some.inj h
  exact RetP_2 (R1_sub (R1_E rfl rfl) SubF.nils) (R1_E rfl rfl) rfl
 ·replace h := cnd_f hb1 h
  refine AW_skip <| AW_seq <| AW_region <| ALW_val (AVal_assign rfl) <| ALW_nil ?_
  refine AW_seqJ (fun e' H' => ∃ (l1 : List Int), Rep 43 0 e' H' (mkE [(3, (AV.ptr 0 0)), (4, (AV.ptr 1 0)), (9, (AV.hd 2))]) [.box 26 [(ls cZone a_zones)], .box 3 [(li a_node)], .vec 3 1 (List.map cI l1)] ∧ zonelist_Order_j0 a_zones a_node l1 = some r) ?_ ?_
  ·
   refine AW_seq <| AW_region <| ALW_val (AVal_load1 Try.isAgg26 rfl rfl rfl rfl) <| ALW_val (AVal_lenM Try.underlying26 rfl) <| ALW_val (AVal_move rfl) <| ALW_nil ?_
   refine AW_block <| AW_loop (σ := Nat × Int × (List Int)) (fun s => s.1) (fun s e' H' => match s with | (n0, i1, l2) => Rep 43 0 e' H' (mkE [(2, (AV.lit (.bool a_kernel))), (3, (AV.ptr 0 0)), (4, (AV.ptr 1 0)), (9, (AV.hd 2)), (19, (ls cZone a_zones)), (20, (li (a_zones.length : Int))), (21, (li i1))]) [.box 26 [(ls cZone a_zones)], .box 3 [(li a_node)], .vec 3 1 (List.map cI l2)] ∧ zonelist_Order_l0 a_zones a_node a_kernel n0 i1 l2 = some r) (FUEL, 0, []) ⟨Rep.trans (Rep_nil (d := 9) (el := 3) (sz := 1) rfl) (RepP [0, 1, 2] (l := [(2, (AV.lit (.bool a_kernel))), (3, (AV.ptr 0 0)), (4, (AV.ptr 1 0)), (9, (AV.hd 2)), (19, (ls cZone a_zones)), (20, (li (a_zones.length : Int))), (21, (li 0))]) rfl rfl (by kernel_rfl)), h⟩ ?_
   clear h
   rintro ⟨n0, i1, l2⟩ e' H' ⟨hrep, h⟩
   cases n0 with
   | zero => exact absurd (show (none : Option _) = some r from h) (by simp)
   | succ n0 =>
    replace h : zonelist_Order_b0 a_zones a_node a_kernel (zonelist_Order_l0 a_zones a_node a_kernel n0) i1 l2 = some r := h
    unfold zonelist_Order_b0 at h
    refine AW_rep hrep ?_
    clear hrep
    refine AW_seq <| AW_region <| ALW_val (AVal_lss rfl rfl) <| ALW_nil <| AW_seq ?_
    refine AW_cond (decide (i1 < (a_zones.length : Int))) rfl (fun hb2 => ?_) (fun hb2 => ?_)
    ·replace h := cnd_t hb2 h
     refine AW_skip ?_
     refine AW_seqJ (fun e' H' => ∃ (l3 : List Int), Rep 43 0 e' H' (mkE [(2, (AV.lit (.bool a_kernel))), (3, (AV.ptr 0 0)), (4, (AV.ptr 1 0)), (9, (AV.hd 2)), (19, (ls cZone a_zones)), (20, (li (a_zones.length : Int))), (21, (li i1))]) [.box 26 [(ls cZone a_zones)], .box 3 [(li a_node)], .vec 3 1 (List.map cI l3)] ∧ zonelist_Order_j1 (zonelist_Order_l0 a_zones a_node a_kernel n0) i1 l3 = some r) ?_ ?_
     ·
      refine AW_block <| AW_seq <| AW_region <| ALW_val (AVal_move rfl) ?_
      have hb4 := (chk_some h).1
      replace h := (chk_some h).2
      refine ALW_val (AVal_idxSM Try.underlying26 Try.sizeOf46 (fun _ => rfl) rfl rfl hb4) <| ALW_val (AVal_loadRA (row := (cZone (at_ a_zones i1))) (o := 0) (m := 10) (la := (cZone (at_ a_zones i1))) Try.isAgg46 Try.sizeOf46 rfl rfl rfl) <| ALW_step (H' := [.box 26 [(ls cZone a_zones)], .box 3 [(li a_node)], .vec 3 1 (List.map cI l2), .box 46 ([(li 0)] ++ ([(li 0)] ++ ([(li 0)] ++ ([(li 0)] ++ ([(li 0)] ++ ((cA 5 (eS cI) ([] : List Int) (List.replicate 5 ([] : List Int))) ++ []))))))]) (AStep_alloc (t := 46) (vs := [.int .i64 0, .int .i64 0, .int .i64 0, .int .i64 0, .int .i64 0, .slice none 0 0, .slice none 0 0, .slice none 0 0, .slice none 0 0, .slice none 0 0]) (cs := [.lit (.int .i64 0), .lit (.int .i64 0), .lit (.int .i64 0), .lit (.int .i64 0), .lit (.int .i64 0), .sl false [], .sl false [], .sl false [], .sl false [], .sl false []]) Try.zeroValue46 (by kernel_rfl) rfl ⟨SubF.refl _, SubF.refl _, SubF.refl _, SubF.refl _, SubF.refl _, SubF.nils, SubF.nils, SubF.nils, SubF.nils, SubF.nils, trivial⟩) <| ALW_val (AVal_assign rfl) <| ALW_act (H' := [.box 26 [(ls cZone a_zones)], .box 3 [(li a_node)], .vec 3 1 (List.map cI l2), .box 46 (cZone (at_ a_zones i1))]) (AAct_storeA (k := 3) (o := 0) (cs := ([(li 0)] ++ ([(li 0)] ++ ([(li 0)] ++ ([(li 0)] ++ ([(li 0)] ++ ((cA 5 (eS cI) ([] : List Int) (List.replicate 5 ([] : List Int))) ++ []))))))) (la := (cZone (at_ a_zones i1))) Try.sizeOf46 rfl rfl rfl rfl) <| ALW_nil ?_
      refine AW_seq <| AW_region <| ALW_val (AVal_move rfl) <| ALW_val (AVal_not (t := a_kernel) rfl) <| ALW_val (AVal_move rfl) <| ALW_g0 rfl rfl (fun hc1 => AVal.step (AVal_field Try.underlying46 rfl rfl Try.sizeOf3 rfl)) ?_
      refine ALW_g0 rfl rfl (fun hc2 => AVal.step (AVal_load1 Try.isAgg3 (gd_t rfl hc2) rfl rfl rfl)) <| ALW_g0 rfl rfl (fun hc3 => AVal.step (AVal_eql (gd_t rfl hc3) rfl)) <| ALW_val (AVal_pick_or rfl rfl) <| ALW_nil ?_
      refine AW_cond ((!a_kernel) || (decide (((at_ a_zones i1).kind) = 0))) rfl (fun hb5 => ?_) (fun hb5 => ?_)
      ·replace h := cnd_t hb5 h
       refine AW_region <| ALW_val (AVal_move rfl) <| ALW_val (AVal_move rfl) <| ALW_lit1 (a := (li i1)) elem3 Try.underlying22 rfl rfl rfl rfl ?_
       have hb6 := (chk_some h).1
       replace h := (chk_some h).2
       refine ALW_appendVM (f := cI) (k := 2) (j := 4) (l := l2) (l' := [i1]) elem3 (fun _ => rfl) Try.underlying22 rfl rfl rfl rfl hb6 <| ALW_val (AVal_assign rfl) <| ALW_nil ?_
       exact ⟨(l2 ++ [i1]), RepP [0, 1, 5] rfl rfl (by kernel_rfl), h⟩
      ·replace h := cnd_f hb5 h
       refine AW_skip ?_
       exact ⟨l2, RepP [0, 1, 2] rfl rfl (by kernel_rfl), h⟩
     ·
      clear h
      rintro e' H' ⟨l3, hrep, h⟩
      refine AW_rep hrep ?_
      clear hrep
      unfold zonelist_Order_j1 at h
      refine AW_region ?_
      have hb3 := (chk_some h).1
      replace h := (chk_some h).2
      refine ALW_val (AVal_add rfl rfl hb3) <| ALW_val (AVal_move rfl) <| ALW_nil ?_
      exact ⟨(n0, (i1 + 1), l3), Nat.lt_succ_self _, RepP [0, 1, 2] rfl rfl (by kernel_rfl), h⟩
    ·replace h := cnd_f hb2 h
     refine AW_exit ?_
     exact ⟨l2, RepP [0, 1, 2] rfl rfl (by kernel_rfl), h⟩
  ·
   clear h
   rintro e' H' ⟨l1, hrep, h⟩
   refine AW_rep hrep ?_
   clear hrep
   unfold zonelist_Order_j0 at h
   refine AW_seq <| AW_region <| ALW_val (AVal_func (la := [(AV.ptr 1 0), (AV.ptr 0 0)]) rfl) <| ALW_step (H' := [.box 26 [(ls cZone a_zones)], .box 3 [(li a_node)], .vec 3 1 (List.map cI l1), .box 116 [(AV.lit .nilFunc)]]) (AStep_alloc (t := 116) (vs := [.nilFunc]) (cs := [.lit .nilFunc]) Try.zeroValue116 (by kernel_rfl) rfl ⟨SubF.refl _, trivial⟩) <| ALW_act (H' := [.box 26 [(ls cZone a_zones)], .box 3 [(li a_node)], .vec 3 1 (List.map cI l1), .box 116 [(AV.clo 68 [(AV.ptr 1 0), (AV.ptr 0 0)])]]) (AAct_store1 (k := 3) (o := 0) (cs := [(AV.lit .nilFunc)]) (a := (AV.clo 68 [(AV.ptr 1 0), (AV.ptr 0 0)])) Try.sizeOf116 rfl rfl rfl rfl rfl) <| ALW_nil ?_
   refine AW_seq <| AW_region <| ALW_val (AVal_move rfl) <| ALW_val (AVal_func (la := [(AV.ptr 3 0)]) rfl) ?_
   refine bnd_elim h ?_; clear h; intro x2 hx2 h
   refine ALW_callX (k := 2) (la := [(AV.hd 2), (AV.clo 71 [(AV.ptr 3 0)])]) (la' := [(AV.hd 0), (AV.clo 71 [(AV.rp [(AV.clo 68 [(AV.rp [(li a_node)] 0), (AV.rp [(ls cZone a_zones)] 0)])] 0)])]) (r := (.tup [])) (S := [0, 1, 3]) (en' := .vec 3 1 (List.map cI x2)) Try.func70 rfl (by kernel_rfl) (.fn 70) rfl ⟨ViewK.hd, ViewK.of (View.clo (⟨View.ptrV (cs := [(AV.clo 68 [(AV.ptr 1 0), (AV.ptr 0 0)])]) rfl rfl rfl ⟨View.clo (⟨View.ptr (cs := [(li a_node)]) rfl rfl rfl, View.ptr (cs := [(ls cZone a_zones)]) rfl rfl rfl, trivial⟩), trivial⟩, trivial⟩)), trivial⟩ rfl rfl rfl rfl (slices_SortStableFunc_Lint_int_ok Try.func71 rfl (by kernel_rfl) rfl (fun hy => zonelist_Order_2_ok Try.func68 rfl (by kernel_rfl) rfl (fun hy => zonelist_Order_1_ok  hy) hy) hx2) rfl (.inr ⟨rfl, enCL_ints⟩) <| ALW_nil <| AW_seq <| AW_region <| ALW_val (AVal_move rfl) <| ALW_val (AVal_assign rfl) ?_
   refine ALW_val (AVal_assign rfl) <| ALW_nil <| AW_rep (Rep_frzL (j := 2) (ds := [6, 9, 39, 42]) (rows' := List.map cI x2) rfl (frzR_map (fun _ => rfl)) ⟨rfl, rfl, rfl, rfl, trivial⟩) <| AW_ret ?_
   show RetP _ _ _ _ _ _
   obtain rfl := Option.some.inj h
   exact RetP_2 (R1_E rfl rfl) (R1_E rfl rfl) rfl
theorem slices_Clone_Lapi_Zone_api_Zone_ok {a_s : List Zone} {r : List Zone} (h : slices_Clone_Lapi_Zone_api_Zone a_s = some r) : PFn Try.prog 74 [(ls cZone a_s)] (AV.osl 46 10 (List.map cZone r)) := by
  refine PFn_enter Try.func74 rfl Try.ntmps74 Try.results74 rfl ?_
  unfold slices_Clone_Lapi_Zone_api_Zone at h
  have hb1 := (chk_some h).1
  replace h := (chk_some h).2
  obtain rfl := Option.some.inj h
  refine AW_seq <| AW_region <| ALW_val (a := (.lit (.slice none 0 0))) (AVal_assign rfl) <| ALW_nil <| AW_seq <| AW_seq ?_
  refine AW_region <| ALW_val (a := (ls cZone a_s)) (AVal_move rfl) ?_
  refine ALW_eqNil (full := false) (rows := List.map cZone a_s) Try.underlying26 rfl (fun b hb => ?_)
  refine ALW_nil ?_
  refine AW_cond b rfl (fun hbt => ?_) (fun hbt => ?_)
  · obtain rfl : a_s = [] := List.map_eq_nil_iff.1 (hb hbt)
    refine AW_seq <| AW_region <| ALW_val (a := (.lit (.slice none 0 0))) (AVal_assign rfl) <| ALW_nil <| AW_ret ?_
    exact RetP_1 (R1_sub (R1_E rfl rfl) SubF.nilo)
  · refine AW_skip ?_
    refine AW_seq <| AW_region <| ALW_lit0 elem46 Try.underlying26 <| ALW_val (a := (ls cZone a_s)) (AVal_move rfl) <| ALW_appendM (f := cZone) (k := 0) (l := []) (l' := a_s) elem46 (fun _ => rfl) Try.underlying26 rfl rfl rfl hb1 <| ALW_val (a := (.hd 1)) (AVal_assign rfl) ?_
    refine ALW_nil <| AW_ret ?_
    exact RetP_1 (R1_V (rows := List.map cZone ([] ++ a_s)) rfl rfl)
theorem slices_Clone_Lapi_CpuCache_api_CpuCache_ok {a_s : List CpuCache} {r : List CpuCache} (h : slices_Clone_Lapi_CpuCache_api_CpuCache a_s = some r) : PFn Try.prog 75 [(ls cCpuCache a_s)] (AV.osl 50 1 (List.map cCpuCache r)) := by
  refine PFn_enter Try.func75 rfl Try.ntmps75 Try.results75 rfl ?_
  unfold slices_Clone_Lapi_CpuCache_api_CpuCache at h
  have hb1 := (chk_some h).1
  replace h := (chk_some h).2
  obtain rfl := Option.some.inj h
  refine AW_seq <| AW_region <| ALW_val (a := (.lit (.slice none 0 0))) (AVal_assign rfl) <| ALW_nil <| AW_seq <| AW_seq ?_
  refine AW_region <| ALW_val (a := (ls cCpuCache a_s)) (AVal_move rfl) ?_
  refine ALW_eqNil (full := false) (rows := List.map cCpuCache a_s) Try.underlying27 rfl (fun b hb => ?_)
  refine ALW_nil ?_
  refine AW_cond b rfl (fun hbt => ?_) (fun hbt => ?_)
  · obtain rfl : a_s = [] := List.map_eq_nil_iff.1 (hb hbt)
    refine AW_seq <| AW_region <| ALW_val (a := (.lit (.slice none 0 0))) (AVal_assign rfl) <| ALW_nil <| AW_ret ?_
    exact RetP_1 (R1_sub (R1_E rfl rfl) SubF.nilo)
  · refine AW_skip ?_
    refine AW_seq <| AW_region <| ALW_lit0 elem50 Try.underlying27 <| ALW_val (a := (ls cCpuCache a_s)) (AVal_move rfl) <| ALW_appendM (f := cCpuCache) (k := 0) (l := []) (l' := a_s) elem50 (fun _ => rfl) Try.underlying27 rfl rfl rfl hb1 <| ALW_val (a := (.hd 1)) (AVal_assign rfl) ?_
    refine ALW_nil <| AW_ret ?_
    exact RetP_1 (R1_V (rows := List.map cCpuCache ([] ++ a_s)) rfl rfl)
theorem slices_Clone_Lint_Lint_ok {a_s : List (List Int)} {r : List (List Int)} (h : slices_Clone_Lint_Lint a_s = some r) : PFn Try.prog 76 [(ls (cS cI) a_s)] (AV.osl 22 1 (List.map (cS cI) r)) := by
  refine PFn_enter Try.func76 rfl Try.ntmps76 Try.results76 rfl ?_
  unfold slices_Clone_Lint_Lint at h
  have hb1 := (chk_some h).1
  replace h := (chk_some h).2
  obtain rfl := Option.some.inj h
  refine AW_seq <| AW_region <| ALW_val (a := (.lit (.slice none 0 0))) (AVal_assign rfl) <| ALW_nil <| AW_seq <| AW_seq ?_
  refine AW_region <| ALW_val (a := (ls (cS cI) a_s)) (AVal_move rfl) ?_
  refine ALW_eqNil (full := false) (rows := List.map (cS cI) a_s) Try.underlying48 rfl (fun b hb => ?_)
  refine ALW_nil ?_
  refine AW_cond b rfl (fun hbt => ?_) (fun hbt => ?_)
  · obtain rfl : a_s = [] := List.map_eq_nil_iff.1 (hb hbt)
    refine AW_seq <| AW_region <| ALW_val (a := (.lit (.slice none 0 0))) (AVal_assign rfl) <| ALW_nil <| AW_ret ?_
    exact RetP_1 (R1_sub (R1_E rfl rfl) SubF.nilo)
  · refine AW_skip ?_
    refine AW_seq <| AW_region <| ALW_lit0 elem22 Try.underlying48 <| ALW_val (a := (ls (cS cI) a_s)) (AVal_move rfl) <| ALW_appendM (f := (cS cI)) (k := 0) (l := []) (l' := a_s) elem22 (fun _ => rfl) Try.underlying48 rfl rfl rfl hb1 <| ALW_val (a := (.hd 1)) (AVal_assign rfl) ?_
    refine ALW_nil <| AW_ret ?_
    exact RetP_1 (R1_V (rows := List.map (cS cI) ([] ++ a_s)) rfl rfl)
theorem allocator_clone_ok {a_p0 : Allocator} {r : Allocator} (h : allocator_clone a_p0 = some r) : PFn Try.prog 42 [(AV.agg (cAllocator a_p0))] (AV.agg ([(ls cI r.nodes)] ++ ([(li r.batch)] ++ ([(li r.high)] ++ ([AV.osl 46 10 (List.map cZone r.zones)] ++ ([AV.osl 50 1 (List.map cCpuCache r.caches)] ++ [])))))) := by
 refine PFn_enter Try.func42 rfl Try.ntmps42 Try.results42 rfl ?_
 unfold allocator_clone at h
 refine AW_seq <| AW_region <| ALW_step (H' := [.box 29 (cAllocator a_p0)]) (AStep_boxA (t := 29) rfl) <| ALW_step (H' := [.box 29 (cAllocator a_p0), .box 29 ([(ls cI ([] : List Int))] ++ ([(li 0)] ++ ([(li 0)] ++ ([(ls cZone ([] : List Zone))] ++ ([(ls cCpuCache ([] : List CpuCache))] ++ [])))))]) (AStep_alloc (t := 29) (vs := [.slice none 0 0, .int .i64 0, .int .i64 0, .slice none 0 0, .slice none 0 0]) (cs := [.sl false [], .lit (.int .i64 0), .lit (.int .i64 0), .sl false [], .sl false []]) Try.zeroValue29 (by kernel_rfl) rfl ⟨SubF.nils, SubF.refl _, SubF.refl _, SubF.nils, SubF.nils, trivial⟩) <| ALW_nil <| AW_seq ?_
 refine bnd_elim h ?_; clear h; intro x1 hx1 h
 refine bnd_elim h ?_; clear h; intro x2 hx2 h
 refine bnd_elim h ?_; clear h; intro x3 hx3 h
 show AW _ _ _ _ _ _ [.box 29 (cAllocator a_p0), .box 29 ([(ls cI ([] : List Int))] ++ ([(li 0)] ++ ([(li 0)] ++ ([(ls cZone ([] : List Zone))] ++ ([(ls cCpuCache ([] : List CpuCache))] ++ [])))))]
 refine AW_draw (n := 82) (m := 0) [.head 0 0, .head 0 0, .tail 0, .head 0 1, .head 0 1, .tail 1, .head 0 2, .head 0 2, .tail 2, .head 1 3, .tail 3, .head 4 4, .tail 4, .head 5 5, .tail 5] [2, 5, 8, 10, 12, 14] [(AV.ptr 0 0), (ls cI a_p0.nodes), (AV.hd 2), (AV.ptr 0 3), (ls cZone a_p0.zones), (AV.hd 3), (AV.ptr 0 4), (ls cCpuCache a_p0.caches), (AV.hd 4), (AV.ptr 0 0), .any, (AV.ptr 0 3), .any, (AV.ptr 0 4), .any] [[.box 29 (cAllocator a_p0), .box 29 ([(ls cI ([] : List Int))] ++ ([(li 0)] ++ ([(li 0)] ++ ([(ls cZone ([] : List Zone))] ++ ([(ls cCpuCache ([] : List CpuCache))] ++ [])))))], [.box 29 (cAllocator a_p0), .box 29 ([(ls cI ([] : List Int))] ++ ([(li 0)] ++ ([(li 0)] ++ ([(ls cZone ([] : List Zone))] ++ ([(ls cCpuCache ([] : List CpuCache))] ++ []))))), .vec 3 1 (List.map cI x1)], [.box 29 (cAllocator a_p0), .box 29 ([(ls cI ([] : List Int))] ++ ([(li 0)] ++ ([(li 0)] ++ ([(ls cZone ([] : List Zone))] ++ ([(ls cCpuCache ([] : List CpuCache))] ++ []))))), .vec 3 1 (List.map cI x1), .vec 46 10 (List.map cZone x2)], [.box 29 (cAllocator a_p0), .box 29 ([(ls cI ([] : List Int))] ++ ([(li 0)] ++ ([(li 0)] ++ ([(ls cZone ([] : List Zone))] ++ ([(ls cCpuCache ([] : List CpuCache))] ++ []))))), .vec 3 1 (List.map cI x1), .vec 46 10 (List.map cZone x2), .vec 50 1 (List.map cCpuCache x3)], [.box 29 ([AV.hd 2] ++ ([(li a_p0.batch)] ++ ([(li a_p0.high)] ++ ([(ls cZone a_p0.zones)] ++ ([(ls cCpuCache a_p0.caches)] ++ []))))), .box 29 ([(ls cI ([] : List Int))] ++ ([(li 0)] ++ ([(li 0)] ++ ([(ls cZone ([] : List Zone))] ++ ([(ls cCpuCache ([] : List CpuCache))] ++ []))))), .vec 3 1 (List.map cI x1), .vec 46 10 (List.map cZone x2), .vec 50 1 (List.map cCpuCache x3)], [.box 29 ([AV.hd 2] ++ ([(li a_p0.batch)] ++ ([(li a_p0.high)] ++ ([AV.hd 3] ++ ([(ls cCpuCache a_p0.caches)] ++ []))))), .box 29 ([(ls cI ([] : List Int))] ++ ([(li 0)] ++ ([(li 0)] ++ ([(ls cZone ([] : List Zone))] ++ ([(ls cCpuCache ([] : List CpuCache))] ++ []))))), .vec 3 1 (List.map cI x1), .vec 46 10 (List.map cZone x2), .vec 50 1 (List.map cCpuCache x3)], [.box 29 ([AV.hd 2] ++ ([(li a_p0.batch)] ++ ([(li a_p0.high)] ++ ([AV.hd 3] ++ ([AV.hd 4] ++ []))))), .box 29 ([(ls cI ([] : List Int))] ++ ([(li 0)] ++ ([(li 0)] ++ ([(ls cZone ([] : List Zone))] ++ ([(ls cCpuCache ([] : List CpuCache))] ++ []))))), .vec 3 1 (List.map cI x1), .vec 46 10 (List.map cZone x2), .vec 50 1 (List.map cCpuCache x3)]] (by kernel_rfl) (by kernel_rfl) ⟨?_, ?_, ?_, ⟨?_, ?_⟩, ⟨?_, ?_⟩, ?_, ⟨?_, ?_, ?_⟩, ⟨?_, ?_, ?_⟩, ?_, ⟨?_, ?_, ?_⟩, ?_, ?_, ?_, ?_, ?_, trivial⟩ ?_
 ·exact fun e s p => ALW1 (AVal_field (k := 0) (o := 0) (off := 0) Try.underlying29 rfl rfl Try.sizeOf22 (s 1 rfl)) ⟨fun _ => rfl, rfl⟩
 ·exact fun e s p => ALW1 (AVal_load1 (k := 0) (o := 0) (a := (ls cI a_p0.nodes)) Try.isAgg22 p.1 rfl rfl rfl) ⟨fun _ => rfl, rfl⟩
 ·
  intro e3 hs3 hp3
  refine ALW_callV (T := 3) (sz := 1) (rows := List.map cI x1) (la := [(ls cI a_p0.nodes)]) (la' := [(ls cI a_p0.nodes)]) (S := []) Try.func24 rfl (by kernel_rfl) (.fn 24) (lcons hp3.1 rfl) ⟨View.nr rfl, trivial⟩ (slices_Clone_Lint_int_ok hx1) (.inl rfl) ?_
  exact ALW_nil ⟨fun _ => rfl, rfl⟩
 ·exact fun e s p => ALW1 (AVal_field (k := 0) (o := 0) (off := 3) Try.underlying29 rfl rfl Try.sizeOf26 (s 1 rfl)) ⟨fun _ => rfl, rfl⟩
 ·exact fun e s p => ALW1 (AVal_field (k := 0) (o := 0) (off := 3) Try.underlying29 rfl rfl Try.sizeOf26 (s 1 rfl)) ⟨fun _ => rfl, rfl⟩
 ·exact fun e s p => ALW1 (AVal_load1 (k := 0) (o := 3) (a := (ls cZone a_p0.zones)) Try.isAgg26 p.1 rfl rfl rfl) ⟨fun _ => rfl, rfl⟩
 ·exact fun e s p => ALW1 (AVal_load1 (k := 0) (o := 3) (a := (ls cZone a_p0.zones)) Try.isAgg26 p.1 rfl rfl rfl) ⟨fun _ => rfl, rfl⟩
 ·
  intro e8 hs8 hp8
  refine ALW_callV (T := 46) (sz := 10) (rows := List.map cZone x2) (la := [(ls cZone a_p0.zones)]) (la' := [(ls cZone a_p0.zones)]) (S := []) Try.func74 rfl (by kernel_rfl) (.fn 74) (lcons hp8.1 rfl) ⟨View.nr rfl, trivial⟩ (slices_Clone_Lapi_Zone_api_Zone_ok hx2) (.inl rfl) ?_
  exact ALW_nil ⟨fun _ => rfl, rfl⟩
 ·exact fun e s p => ALW1 (AVal_field (k := 0) (o := 0) (off := 4) Try.underlying29 rfl rfl Try.sizeOf27 (s 1 rfl)) ⟨fun _ => rfl, rfl⟩
 ·exact fun e s p => ALW1 (AVal_field (k := 0) (o := 0) (off := 4) Try.underlying29 rfl rfl Try.sizeOf27 (s 1 rfl)) ⟨fun _ => rfl, rfl⟩
 ·exact fun e s p => ALW1 (AVal_field (k := 0) (o := 0) (off := 4) Try.underlying29 rfl rfl Try.sizeOf27 (s 1 rfl)) ⟨fun _ => rfl, rfl⟩
 ·exact fun e s p => ALW1 (AVal_load1 (k := 0) (o := 4) (a := (ls cCpuCache a_p0.caches)) Try.isAgg27 p.1 rfl rfl rfl) ⟨fun _ => rfl, rfl⟩
 ·exact fun e s p => ALW1 (AVal_load1 (k := 0) (o := 4) (a := (ls cCpuCache a_p0.caches)) Try.isAgg27 p.1 rfl rfl rfl) ⟨fun _ => rfl, rfl⟩
 ·exact fun e s p => ALW1 (AVal_load1 (k := 0) (o := 4) (a := (ls cCpuCache a_p0.caches)) Try.isAgg27 p.1 rfl rfl rfl) ⟨fun _ => rfl, rfl⟩
 ·
  intro e15 hs15 hp15
  refine ALW_callV (T := 50) (sz := 1) (rows := List.map cCpuCache x3) (la := [(ls cCpuCache a_p0.caches)]) (la' := [(ls cCpuCache a_p0.caches)]) (S := []) Try.func75 rfl (by kernel_rfl) (.fn 75) (lcons hp15.1 rfl) ⟨View.nr rfl, trivial⟩ (slices_Clone_Lapi_CpuCache_api_CpuCache_ok hx3) (.inl rfl) ?_
  exact ALW_nil ⟨fun _ => rfl, rfl⟩
 ·exact fun e s p => ALW1 (AVal_field (k := 0) (o := 0) (off := 0) Try.underlying29 rfl rfl Try.sizeOf22 (s 1 rfl)) ⟨fun _ => rfl, rfl⟩
 ·exact fun e s p => ALW1 (AVal_field (k := 0) (o := 0) (off := 0) Try.underlying29 rfl rfl Try.sizeOf22 (s 1 rfl)) ⟨fun _ => rfl, rfl⟩
 ·exact fun e s p => ALW1 (AVal_field (k := 0) (o := 0) (off := 0) Try.underlying29 rfl rfl Try.sizeOf22 (s 1 rfl)) ⟨fun _ => rfl, rfl⟩
 ·
  intro e19 hs19 hp19
  refine ALW_act (H' := [.box 29 ([AV.hd 2] ++ ([(li a_p0.batch)] ++ ([(li a_p0.high)] ++ ([(ls cZone a_p0.zones)] ++ ([(ls cCpuCache a_p0.caches)] ++ []))))), .box 29 ([(ls cI ([] : List Int))] ++ ([(li 0)] ++ ([(li 0)] ++ ([(ls cZone ([] : List Zone))] ++ ([(ls cCpuCache ([] : List CpuCache))] ++ []))))), .vec 3 1 (List.map cI x1), .vec 46 10 (List.map cZone x2), .vec 50 1 (List.map cCpuCache x3)]) (AAct_store1 (k := 0) (o := 0) (cs := (cAllocator a_p0)) (a := (AV.hd 2)) Try.sizeOf22 (by exact hp19.1) rfl rfl (by exact hp19.2.2.2.2.2.1) rfl) ?_
  exact ALW_nil ⟨fun _ => rfl, rfl⟩
 ·exact fun e s p => ALW1 (AVal_field (k := 0) (o := 0) (off := 3) Try.underlying29 rfl rfl Try.sizeOf26 (s 1 rfl)) ⟨fun _ => rfl, rfl⟩
 ·
  intro e21 hs21 hp21
  refine ALW_act (H' := [.box 29 ([AV.hd 2] ++ ([(li a_p0.batch)] ++ ([(li a_p0.high)] ++ ([AV.hd 3] ++ ([(ls cCpuCache a_p0.caches)] ++ []))))), .box 29 ([(ls cI ([] : List Int))] ++ ([(li 0)] ++ ([(li 0)] ++ ([(ls cZone ([] : List Zone))] ++ ([(ls cCpuCache ([] : List CpuCache))] ++ []))))), .vec 3 1 (List.map cI x1), .vec 46 10 (List.map cZone x2), .vec 50 1 (List.map cCpuCache x3)]) (AAct_store1 (k := 0) (o := 3) (cs := ([AV.hd 2] ++ ([(li a_p0.batch)] ++ ([(li a_p0.high)] ++ ([(ls cZone a_p0.zones)] ++ ([(ls cCpuCache a_p0.caches)] ++ [])))))) (a := (AV.hd 3)) Try.sizeOf26 (by exact hp21.1) rfl rfl (by exact hp21.2.2.2.2.2.2.2.2.1) rfl) ?_
  exact ALW_nil ⟨fun _ => rfl, rfl⟩
 ·exact fun e s p => ALW1 (AVal_field (k := 0) (o := 0) (off := 4) Try.underlying29 rfl rfl Try.sizeOf27 (s 1 rfl)) ⟨fun _ => rfl, rfl⟩
 ·
  intro e23 hs23 hp23
  refine ALW_act (H' := [.box 29 ([AV.hd 2] ++ ([(li a_p0.batch)] ++ ([(li a_p0.high)] ++ ([AV.hd 3] ++ ([AV.hd 4] ++ []))))), .box 29 ([(ls cI ([] : List Int))] ++ ([(li 0)] ++ ([(li 0)] ++ ([(ls cZone ([] : List Zone))] ++ ([(ls cCpuCache ([] : List CpuCache))] ++ []))))), .vec 3 1 (List.map cI x1), .vec 46 10 (List.map cZone x2), .vec 50 1 (List.map cCpuCache x3)]) (AAct_store1 (k := 0) (o := 4) (cs := ([AV.hd 2] ++ ([(li a_p0.batch)] ++ ([(li a_p0.high)] ++ ([AV.hd 3] ++ ([(ls cCpuCache a_p0.caches)] ++ [])))))) (a := (AV.hd 4)) Try.sizeOf27 (by exact hp23.1) rfl rfl (by exact hp23.2.2.2.2.2.2.2.2.2.2.2.1) rfl) ?_
  exact ALW_nil ⟨fun _ => rfl, rfl⟩
 intro e24 hs24 hq1
 refine AW_rep (Rep_mk (l := [(1, (AV.ptr 0 0)), (2, (AV.ptr 1 0))]) ⟨(hs24 1 rfl), (hs24 2 rfl), trivial⟩) ?_
 refine AW_seqJ (fun e' H' => ∃ (l1 : List Zone), Rep 82 0 e' H' (mkE [(1, (AV.ptr 0 0)), (2, (AV.ptr 1 0))]) [.box 29 ([AV.osl 3 1 (List.map cI x1)] ++ ([(li a_p0.batch)] ++ ([(li a_p0.high)] ++ ([AV.osl 46 10 (List.map cZone l1)] ++ ([AV.osl 50 1 (List.map cCpuCache x3)] ++ []))))), .box 29 ([(ls cI ([] : List Int))] ++ ([(li 0)] ++ ([(li 0)] ++ ([(ls cZone ([] : List Zone))] ++ ([(ls cCpuCache ([] : List CpuCache))] ++ [])))))] ∧ allocator_clone_j0 a_p0 x1 x3 l1 = some r) ?_ ?_
 ·
  refine AW_seq <| AW_region <| ALW_val (AVal_field Try.underlying29 rfl rfl Try.sizeOf26 rfl) <| ALW_val (AVal_load1 Try.isAgg26 rfl rfl rfl rfl) <| ALW_val (AVal_lenVM (f := cZone) (l := x2) Try.underlying26 rfl rfl) <| ALW_val (AVal_move rfl) ?_
  refine ALW_nil <| AW_block <| AW_loop (σ := Nat × Int × (List Zone)) (fun s => s.1) (fun s e' H' => match s with | (n2, i3, l7) => Rep 82 0 e' H' (mkE [(1, (AV.ptr 0 0)), (2, (AV.ptr 1 0)), (22, (li (x2.length : Int))), (23, (li i3))]) [.box 29 ([AV.osl 3 1 (List.map cI x1)] ++ ([(li a_p0.batch)] ++ ([(li a_p0.high)] ++ ([AV.osl 46 10 (List.map cZone l7)] ++ ([AV.osl 50 1 (List.map cCpuCache x3)] ++ []))))), .box 29 ([(ls cI ([] : List Int))] ++ ([(li 0)] ++ ([(li 0)] ++ ([(ls cZone ([] : List Zone))] ++ ([(ls cCpuCache ([] : List CpuCache))] ++ [])))))] ∧ allocator_clone_l2 a_p0 x1 x2 x3 n2 i3 l7 = some r) (FUEL, 0, x2) ⟨Rep.trans (Rep_close (k := 0) (j := 2) (o := 0) rfl rfl rfl rfl) (Rep.trans (Rep_close (k := 0) (j := 3) (o := 3) rfl rfl rfl rfl) (Rep.trans (Rep_close (k := 0) (j := 4) (o := 4) rfl rfl rfl rfl) (RepP [0, 1] (l := [(1, (AV.ptr 0 0)), (2, (AV.ptr 1 0)), (22, (li (x2.length : Int))), (23, (li 0))]) rfl rfl (by kernel_rfl)))), h⟩ ?_
  clear h
  rintro ⟨n2, i3, l7⟩ e' H' ⟨hrep, h⟩
  cases n2 with
  | zero => exact absurd (show (none : Option _) = some r from h) (by simp)
  | succ n2 =>
   replace h : allocator_clone_b2 a_p0 x1 x2 x3 (allocator_clone_l2 a_p0 x1 x2 x3 n2) i3 l7 = some r := h
   unfold allocator_clone_b2 at h
   refine AW_rep hrep ?_
   clear hrep
   refine AW_seq <| AW_region <| ALW_val (AVal_lss rfl rfl) <| ALW_nil <| AW_seq ?_
   refine AW_cond (decide (i3 < (x2.length : Int))) rfl (fun hb8 => ?_) (fun hb8 => ?_)
   ·replace h := cnd_t hb8 h
    refine AW_skip ?_
    refine AW_seqJ (fun e' H' => ∃ (l8 : List Zone), Rep 82 0 e' H' (mkE [(1, (AV.ptr 0 0)), (2, (AV.ptr 1 0)), (22, (li (x2.length : Int))), (23, (li i3))]) [.box 29 ([AV.osl 3 1 (List.map cI x1)] ++ ([(li a_p0.batch)] ++ ([(li a_p0.high)] ++ ([AV.osl 46 10 (List.map cZone l8)] ++ ([AV.osl 50 1 (List.map cCpuCache x3)] ++ []))))), .box 29 ([(ls cI ([] : List Int))] ++ ([(li 0)] ++ ([(li 0)] ++ ([(ls cZone ([] : List Zone))] ++ ([(ls cCpuCache ([] : List CpuCache))] ++ [])))))] ∧ allocator_clone_j4 (allocator_clone_l2 a_p0 x1 x2 x3 n2) i3 l8 = some r) ?_ ?_
    ·
     refine AW_block <| AW_seq <| AW_region <| ALW_val (AVal_move rfl) <| ALW_val (AVal_assign rfl) <| ALW_nil ?_
     refine AW_seq <| AW_region <| ALW_val (AVal_move rfl) <| ALW_nil <| AW_block <| AW_loop (σ := Nat × Int × (List Zone)) (fun s => s.1) (fun s e' H' => match s with | (n3, i4, l9) => Rep 82 0 e' H' (mkE [(1, (AV.ptr 0 0)), (2, (AV.ptr 1 0)), (3, (li i3)), (22, (li (x2.length : Int))), (23, (li i3)), (26, (li i4))]) [.box 29 ([AV.osl 3 1 (List.map cI x1)] ++ ([(li a_p0.batch)] ++ ([(li a_p0.high)] ++ ([AV.osl 46 10 (List.map cZone l9)] ++ ([AV.osl 50 1 (List.map cCpuCache x3)] ++ []))))), .box 29 ([(ls cI ([] : List Int))] ++ ([(li 0)] ++ ([(li 0)] ++ ([(ls cZone ([] : List Zone))] ++ ([(ls cCpuCache ([] : List CpuCache))] ++ [])))))] ∧ allocator_clone_l3 (allocator_clone_l2 a_p0 x1 x2 x3 n2) i3 n3 i4 l9 = some r) (FUEL, 0, l7) ⟨RepP [0, 1] rfl rfl (by kernel_rfl), h⟩ ?_
     clear h
     rintro ⟨n3, i4, l9⟩ e' H' ⟨hrep, h⟩
     cases n3 with
     | zero => exact absurd (show (none : Option _) = some r from h) (by simp)
     | succ n3 =>
      replace h : allocator_clone_b3 (allocator_clone_l2 a_p0 x1 x2 x3 n2) i3 (allocator_clone_l3 (allocator_clone_l2 a_p0 x1 x2 x3 n2) i3 n3) i4 l9 = some r := h
      unfold allocator_clone_b3 at h
      refine AW_rep hrep ?_
      clear hrep
      refine AW_seq <| AW_region <| ALW_val (AVal_lss rfl rfl) <| ALW_nil <| AW_seq ?_
      refine AW_cond (decide (i4 < 5)) rfl (fun hb10 => ?_) (fun hb10 => ?_)
      ·replace h := cnd_t hb10 h
       refine AW_skip <| AW_seq <| AW_block <| AW_seq <| AW_region <| ALW_val (AVal_move rfl) ?_
       refine ALW_val (AVal_assign rfl) <| ALW_nil <| AW_rep (Rep_open (k := 0) (o := 3) (t' := 46) (sz := 10) (rows := List.map cZone l9) rfl rfl) ?_
       have hb11 := (chk_some h).1
       replace h := (chk_some h).2
       have hb12 := (chk_some h).1
       replace h := (chk_some h).2
       refine bnd_elim h ?_; clear h; intro x6 hx6 h
       show AW _ _ _ _ _ _ [.box 29 ([AV.osl 3 1 (List.map cI x1)] ++ ([(li a_p0.batch)] ++ ([(li a_p0.high)] ++ ([AV.hd 2] ++ ([AV.osl 50 1 (List.map cCpuCache x3)] ++ []))))), .box 29 ([(ls cI ([] : List Int))] ++ ([(li 0)] ++ ([(li 0)] ++ ([(ls cZone ([] : List Zone))] ++ ([(ls cCpuCache ([] : List CpuCache))] ++ []))))), .vec 46 10 (List.map cZone l9)]
       refine AW_draw (n := 82) (m := 0) [.head 0 0, .head 0 0, .head 0 0, .head 0 0, .head 0 0, .head 0 0, .head 0 0, .head 0 0, .head 0 0, .head 0 0, .head 0 0, .head 0 0, .head 0 0, .head 0 0, .head 0 0, .head 0 0, .tail 0] [16] [(AV.ptr 0 3), (AV.hd 2), (li i3), (li i4), (AV.ptr 0 3), (AV.hd 2), (li i3), (li i4), (AV.ptr 2 (i3.toNat * 10)), (AV.ptr 2 (i3.toNat * 10 + 5)), (AV.ptr 2 (i3.toNat * 10 + 5 + i4.toNat * 1)), (ls cI (((at_ l9 i3).free).getD i4.toNat ([] : List Int))), (ls cI x6), (AV.ptr 2 (i3.toNat * 10)), (AV.ptr 2 (i3.toNat * 10 + 5)), (AV.ptr 2 (i3.toNat * 10 + 5 + i4.toNat * 1)), .any] [[.box 29 ([AV.osl 3 1 (List.map cI x1)] ++ ([(li a_p0.batch)] ++ ([(li a_p0.high)] ++ ([AV.hd 2] ++ ([AV.osl 50 1 (List.map cCpuCache x3)] ++ []))))), .box 29 ([(ls cI ([] : List Int))] ++ ([(li 0)] ++ ([(li 0)] ++ ([(ls cZone ([] : List Zone))] ++ ([(ls cCpuCache ([] : List CpuCache))] ++ []))))), .vec 46 10 (List.map cZone l9)], [.box 29 ([AV.osl 3 1 (List.map cI x1)] ++ ([(li a_p0.batch)] ++ ([(li a_p0.high)] ++ ([AV.hd 2] ++ ([AV.osl 50 1 (List.map cCpuCache x3)] ++ []))))), .box 29 ([(ls cI ([] : List Int))] ++ ([(li 0)] ++ ([(li 0)] ++ ([(ls cZone ([] : List Zone))] ++ ([(ls cCpuCache ([] : List CpuCache))] ++ []))))), .vec 46 10 (List.map cZone (l9.set i3.toNat ({ at_ l9 i3 with free := setA 5 ([] : List Int) ((at_ l9 i3).free) i4.toNat x6 })))]] (by kernel_rfl) (by kernel_rfl) ⟨?_, ?_, ?_, ?_, ?_, ?_, ?_, ?_, ?_, ?_, ?_, ?_, ?_, ?_, ?_, ?_, ?_, trivial⟩ ?_
       ·exact fun e s p => ALW1 (AVal_field (k := 0) (o := 0) (off := 3) Try.underlying29 rfl rfl Try.sizeOf26 (s 1 rfl)) ⟨fun _ => rfl, rfl⟩
       ·exact fun e s p => ALW1 (AVal_load1 (k := 0) (o := 3) (a := (AV.hd 2)) Try.isAgg26 p.1 rfl rfl rfl) ⟨fun _ => rfl, rfl⟩
       ·exact fun e s p => ALW1 (AVal_move (av := (li i3)) (s 3 rfl)) ⟨fun _ => rfl, rfl⟩
       ·exact fun e s p => ALW1 (AVal_move (av := (li i4)) (s 4 rfl)) ⟨fun _ => rfl, rfl⟩
       ·exact fun e s p => ALW1 (AVal_field (k := 0) (o := 0) (off := 3) Try.underlying29 rfl rfl Try.sizeOf26 (s 1 rfl)) ⟨fun _ => rfl, rfl⟩
       ·exact fun e s p => ALW1 (AVal_load1 (k := 0) (o := 3) (a := (AV.hd 2)) Try.isAgg26 p.1 rfl rfl rfl) ⟨fun _ => rfl, rfl⟩
       ·exact fun e s p => ALW1 (AVal_move (av := (li i3)) (s 3 rfl)) ⟨fun _ => rfl, rfl⟩
       ·exact fun e s p => ALW1 (AVal_move (av := (li i4)) (s 4 rfl)) ⟨fun _ => rfl, rfl⟩
       ·exact fun e s p => ALW1 (AVal_idxVM (f := cZone) (l := l9) (i := i3) Try.underlying26 Try.sizeOf46 p.1 rfl p.2.1 hb11) ⟨fun _ => rfl, rfl⟩
       ·exact fun e s p => ALW1 (AVal_field (k := 2) (o := (i3.toNat * 10)) (off := 5) Try.underlying46 rfl rfl Try.sizeOf44 p.1) ⟨fun _ => rfl, rfl⟩
       ·exact fun e s p => ALW1 (AVal_idxA (m := 5) (s := 1) (i := i4) (k := 2) (o := (i3.toNat * 10 + 5)) Try.underlying44 Try.sizeOf22 p.1 p.2.1 hb12) ⟨fun _ => rfl, rfl⟩
       ·exact fun e s p => ALW1 (AVal_loadV1M (f := cZone) (l := l9) (i := i3) (c := 5 + i4.toNat) (a := (ls cI (((at_ l9 i3).free).getD i4.toNat ([] : List Int)))) Try.isAgg22 p.1 rfl (by first | rfl | omega) hb11 (cA_get (n := 5) (g := (eS cI)) (d := ([] : List Int)) (l := (at_ l9 i3).free) (i := i4.toNat) (inb_bd hb12).2 ([(li ((at_ l9 i3).node))] ++ [(li ((at_ l9 i3).kind))] ++ [(li ((at_ l9 i3).start))] ++ [(li ((at_ l9 i3).count))] ++ [(li ((at_ l9 i3).min))] ++ []) ([])) rfl) ⟨fun _ => rfl, rfl⟩
       ·
        intro e37 hs37 hp36
        refine ALW_callE (r' := (ls cI x6)) (la := [(ls cI (((at_ l9 i3).free).getD i4.toNat ([] : List Int)))]) (la' := [(ls cI (((at_ l9 i3).free).getD i4.toNat ([] : List Int)))]) (r := (AV.osl 3 1 (List.map cI x6))) (S := []) Try.func24 rfl (by kernel_rfl) (.fn 24) (lcons hp36.1 rfl) ⟨View.nr rfl, trivial⟩ (slices_Clone_Lint_int_ok hx6) (.inl rfl) (congrArg (AV.sl false) (frzR_map (fun _ => rfl))) ?_
        exact ALW_nil ⟨fun _ => rfl, rfl⟩
       ·exact fun e s p => ALW1 (AVal_idxVM (f := cZone) (l := l9) (i := i3) Try.underlying26 Try.sizeOf46 p.1 rfl p.2.1 hb11) ⟨fun _ => rfl, rfl⟩
       ·exact fun e s p => ALW1 (AVal_field (k := 2) (o := (i3.toNat * 10)) (off := 5) Try.underlying46 rfl rfl Try.sizeOf44 p.1) ⟨fun _ => rfl, rfl⟩
       ·exact fun e s p => ALW1 (AVal_idxA (m := 5) (s := 1) (i := i4) (k := 2) (o := (i3.toNat * 10 + 5)) Try.underlying44 Try.sizeOf22 p.1 p.2.2.2.2.2.1 hb12) ⟨fun _ => rfl, rfl⟩
       ·
        intro e41 hs41 hp40
        refine ALW_act (H' := [.box 29 ([AV.osl 3 1 (List.map cI x1)] ++ ([(li a_p0.batch)] ++ ([(li a_p0.high)] ++ ([AV.hd 2] ++ ([AV.osl 50 1 (List.map cCpuCache x3)] ++ []))))), .box 29 ([(ls cI ([] : List Int))] ++ ([(li 0)] ++ ([(li 0)] ++ ([(ls cZone ([] : List Zone))] ++ ([(ls cCpuCache ([] : List CpuCache))] ++ []))))), .vec 46 10 (List.map cZone (l9.set i3.toNat ({ at_ l9 i3 with free := setA 5 ([] : List Int) ((at_ l9 i3).free) i4.toNat x6 })))]) (AAct_storeV1M (k := 2) (o := (i3.toNat * 10 + 5 + i4.toNat * 1)) (f := cZone) (l := l9) (i := i3) (c := 5 + i4.toNat) (a := (ls cI x6)) (z := { at_ l9 i3 with free := setA 5 ([] : List Int) ((at_ l9 i3).free) i4.toNat x6 }) Try.sizeOf22 (by exact hp40.1) rfl (by first | rfl | omega) hb11 (blt_arr hb12 rfl) (by exact hp40.2.2.2.2.2.2.2.2.2.2.2.2.2.2.2.1) rfl rfl (cA_set (n := 5) (g := (eS cI)) (d := ([] : List Int)) (l := (at_ l9 i3).free) (i := i4.toNat) (x := x6) (inb_bd hb12).2 ([(li ((at_ l9 i3).node))] ++ [(li ((at_ l9 i3).kind))] ++ [(li ((at_ l9 i3).start))] ++ [(li ((at_ l9 i3).count))] ++ [(li ((at_ l9 i3).min))] ++ []) ([]))) ?_
        exact ALW_nil ⟨fun _ => rfl, rfl⟩
       intro e42 hs42 hq2
       refine AW_rep (Rep_mk (l := [(1, (AV.ptr 0 0)), (2, (AV.ptr 1 0)), (3, (li i3)), (22, (li (x2.length : Int))), (23, (li i3)), (26, (li i4))]) ⟨(hs42 1 rfl), (hs42 2 rfl), (hs42 3 rfl), (hs42 22 rfl), (hs42 23 rfl), (hs42 26 rfl), trivial⟩) <| AW_region ?_
       have hb13 := (chk_some h).1
       replace h := (chk_some h).2
       refine ALW_val (AVal_add rfl rfl hb13) <| ALW_val (AVal_move rfl) <| ALW_nil ?_
       exact ⟨(n3, (i4 + 1), (l9.set i3.toNat ({ at_ l9 i3 with free := setA 5 ([] : List Int) ((at_ l9 i3).free) i4.toNat x6 }))), Nat.lt_succ_self _, Rep.trans (Rep_close (k := 0) (j := 2) (o := 3) rfl rfl rfl rfl) (RepP [0, 1] (l := [(1, (AV.ptr 0 0)), (2, (AV.ptr 1 0)), (3, (li i3)), (22, (li (x2.length : Int))), (23, (li i3)), (26, (li (i4 + 1)))]) rfl rfl (by kernel_rfl)), h⟩
      ·replace h := cnd_f hb10 h
       refine AW_exit ?_
       exact ⟨l9, RepP [0, 1] rfl rfl (by kernel_rfl), h⟩
    ·
     clear h
     rintro e' H' ⟨l8, hrep, h⟩
     refine AW_rep hrep ?_
     clear hrep
     unfold allocator_clone_j4 at h
     refine AW_region ?_
     have hb9 := (chk_some h).1
     replace h := (chk_some h).2
     refine ALW_val (AVal_add rfl rfl hb9) <| ALW_val (AVal_move rfl) <| ALW_nil ?_
     exact ⟨(n2, (i3 + 1), l8), Nat.lt_succ_self _, RepP [0, 1] rfl rfl (by kernel_rfl), h⟩
   ·replace h := cnd_f hb8 h
    refine AW_exit ?_
    exact ⟨l7, RepP [0, 1] rfl rfl (by kernel_rfl), h⟩
 ·
  clear h
  rintro e' H' ⟨l1, hrep, h⟩
  refine AW_rep hrep ?_
  clear hrep
  unfold allocator_clone_j0 at h
  refine AW_seqJ (fun e' H' => ∃ (l2 : List CpuCache), Rep 82 0 e' H' (mkE [(1, (AV.ptr 0 0)), (2, (AV.ptr 1 0))]) [.box 29 ([AV.osl 3 1 (List.map cI x1)] ++ ([(li a_p0.batch)] ++ ([(li a_p0.high)] ++ ([AV.osl 46 10 (List.map cZone l1)] ++ ([AV.osl 50 1 (List.map cCpuCache l2)] ++ []))))), .box 29 ([(ls cI ([] : List Int))] ++ ([(li 0)] ++ ([(li 0)] ++ ([(ls cZone ([] : List Zone))] ++ ([(ls cCpuCache ([] : List CpuCache))] ++ [])))))] ∧ allocator_clone_j1 a_p0 x1 l1 l2 = some r) ?_ ?_
  ·
   refine AW_seq <| AW_region <| ALW_val (AVal_field Try.underlying29 rfl rfl Try.sizeOf27 rfl) <| ALW_rep (Rep_open (k := 0) (o := 4) (t' := 50) (sz := 1) (rows := List.map cCpuCache x3) rfl rfl) <| ALW_val (AVal_load1 Try.isAgg27 rfl rfl rfl rfl) <| ALW_val (AVal_lenVM (f := cCpuCache) (l := x3) Try.underlying27 rfl rfl) ?_
   refine ALW_val (AVal_move rfl) <| ALW_nil <| AW_block <| AW_loop (σ := Nat × Int × (List CpuCache)) (fun s => s.1) (fun s e' H' => match s with | (n0, i1, l3) => Rep 82 0 e' H' (mkE [(1, (AV.ptr 0 0)), (2, (AV.ptr 1 0)), (49, (li (x3.length : Int))), (50, (li i1))]) [.box 29 ([AV.osl 3 1 (List.map cI x1)] ++ ([(li a_p0.batch)] ++ ([(li a_p0.high)] ++ ([AV.osl 46 10 (List.map cZone l1)] ++ ([AV.osl 50 1 (List.map cCpuCache l3)] ++ []))))), .box 29 ([(ls cI ([] : List Int))] ++ ([(li 0)] ++ ([(li 0)] ++ ([(ls cZone ([] : List Zone))] ++ ([(ls cCpuCache ([] : List CpuCache))] ++ [])))))] ∧ allocator_clone_l0 a_p0 x1 x3 l1 n0 i1 l3 = some r) (FUEL, 0, x3) ⟨Rep.trans (Rep_close (k := 0) (j := 2) (o := 4) rfl rfl rfl rfl) (RepP [0, 1] (l := [(1, (AV.ptr 0 0)), (2, (AV.ptr 1 0)), (49, (li (x3.length : Int))), (50, (li 0))]) rfl rfl (by kernel_rfl)), h⟩ ?_
   clear h
   rintro ⟨n0, i1, l3⟩ e' H' ⟨hrep, h⟩
   cases n0 with
   | zero => exact absurd (show (none : Option _) = some r from h) (by simp)
   | succ n0 =>
    replace h : allocator_clone_b0 a_p0 x1 x3 l1 (allocator_clone_l0 a_p0 x1 x3 l1 n0) i1 l3 = some r := h
    unfold allocator_clone_b0 at h
    refine AW_rep hrep ?_
    clear hrep
    refine AW_seq <| AW_region <| ALW_val (AVal_lss rfl rfl) <| ALW_nil <| AW_seq ?_
    refine AW_cond (decide (i1 < (x3.length : Int))) rfl (fun hb1 => ?_) (fun hb1 => ?_)
    ·replace h := cnd_t hb1 h
     refine AW_skip ?_
     refine AW_seqJ (fun e' H' => ∃ (l4 : List CpuCache), Rep 82 0 e' H' (mkE [(1, (AV.ptr 0 0)), (2, (AV.ptr 1 0)), (49, (li (x3.length : Int))), (50, (li i1))]) [.box 29 ([AV.osl 3 1 (List.map cI x1)] ++ ([(li a_p0.batch)] ++ ([(li a_p0.high)] ++ ([AV.osl 46 10 (List.map cZone l1)] ++ ([AV.osl 50 1 (List.map cCpuCache l4)] ++ []))))), .box 29 ([(ls cI ([] : List Int))] ++ ([(li 0)] ++ ([(li 0)] ++ ([(ls cZone ([] : List Zone))] ++ ([(ls cCpuCache ([] : List CpuCache))] ++ [])))))] ∧ allocator_clone_j2 (allocator_clone_l0 a_p0 x1 x3 l1 n0) i1 l4 = some r) ?_ ?_
     ·
      refine AW_block <| AW_seq <| AW_region <| ALW_val (AVal_move rfl) <| ALW_val (AVal_assign rfl) <| ALW_nil ?_
      refine AW_seq <| AW_region <| ALW_val (AVal_field Try.underlying29 rfl rfl Try.sizeOf27 rfl) <| ALW_rep (Rep_open (k := 0) (o := 4) (t' := 50) (sz := 1) (rows := List.map cCpuCache l3) rfl rfl) <| ALW_val (AVal_load1 Try.isAgg27 rfl rfl rfl rfl) <| ALW_val (AVal_move rfl) ?_
      have hb3 := (chk_some h).1
      replace h := (chk_some h).2
      refine ALW_val (AVal_idxVM (f := cCpuCache) (l := l3) (i := i1) Try.underlying27 Try.sizeOf50 rfl rfl rfl hb3) <| ALW_val (AVal_field Try.underlying50 rfl rfl Try.sizeOf48 rfl) <| ALW_val (AVal_loadV1M (f := cCpuCache) (l := l3) (i := i1) (c := 0) (a := (ls (cS cI) ((at_ l3 i1).lists))) Try.isAgg48 rfl rfl (by first | rfl | omega) hb3 rfl rfl) ?_
      refine bnd_elim h ?_; clear h; intro x4 hx4 h
      refine ALW_callV (T := 22) (sz := 1) (rows := List.map (cS cI) x4) (la := [(ls (cS cI) ((at_ l3 i1).lists))]) (la' := [(ls (cS cI) ((at_ l3 i1).lists))]) (S := []) Try.func76 rfl (by kernel_rfl) (.fn 76) rfl ⟨View.nr rfl, trivial⟩ (slices_Clone_Lint_Lint_ok hx4) (.inl rfl) <| ALW_val (AVal_assign rfl) <| ALW_nil ?_
      refine AW_seqJ (fun e' H' => ∃ (l5 : List (List Int)), Rep 82 0 e' H' (mkE [(1, (AV.ptr 0 0)), (2, (AV.ptr 1 0)), (5, (li i1)), (6, (AV.hd 2)), (49, (li (x3.length : Int))), (50, (li i1))]) [.box 29 ([AV.osl 3 1 (List.map cI x1)] ++ ([(li a_p0.batch)] ++ ([(li a_p0.high)] ++ ([AV.osl 46 10 (List.map cZone l1)] ++ ([AV.osl 50 1 (List.map cCpuCache l3)] ++ []))))), .box 29 ([(ls cI ([] : List Int))] ++ ([(li 0)] ++ ([(li 0)] ++ ([(ls cZone ([] : List Zone))] ++ ([(ls cCpuCache ([] : List CpuCache))] ++ []))))), .vec 22 1 (List.map (cS cI) l5)] ∧ allocator_clone_j3 (allocator_clone_l0 a_p0 x1 x3 l1 n0) i1 l3 l5 = some r) ?_ ?_
      ·
       refine AW_seq <| AW_region <| ALW_val (AVal_move rfl) <| ALW_val (AVal_lenVM (f := (cS cI)) (l := x4) Try.underlying48 rfl rfl) <| ALW_val (AVal_move rfl) <| ALW_nil ?_
       refine AW_block <| AW_loop (σ := Nat × Int × (List (List Int))) (fun s => s.1) (fun s e' H' => match s with | (n1, i2, l6) => Rep 82 0 e' H' (mkE [(1, (AV.ptr 0 0)), (2, (AV.ptr 1 0)), (5, (li i1)), (6, (AV.hd 2)), (49, (li (x3.length : Int))), (50, (li i1)), (61, (li (x4.length : Int))), (62, (li i2))]) [.box 29 ([AV.osl 3 1 (List.map cI x1)] ++ ([(li a_p0.batch)] ++ ([(li a_p0.high)] ++ ([AV.osl 46 10 (List.map cZone l1)] ++ ([AV.osl 50 1 (List.map cCpuCache l3)] ++ []))))), .box 29 ([(ls cI ([] : List Int))] ++ ([(li 0)] ++ ([(li 0)] ++ ([(ls cZone ([] : List Zone))] ++ ([(ls cCpuCache ([] : List CpuCache))] ++ []))))), .vec 22 1 (List.map (cS cI) l6)] ∧ allocator_clone_l1 (allocator_clone_l0 a_p0 x1 x3 l1 n0) i1 l3 x4 n1 i2 l6 = some r) (FUEL, 0, x4) ⟨Rep.trans (Rep_close (k := 0) (j := 2) (o := 4) rfl rfl rfl rfl) (RepP [0, 1, 3] (l := [(1, (AV.ptr 0 0)), (2, (AV.ptr 1 0)), (5, (li i1)), (6, (AV.hd 2)), (49, (li (x3.length : Int))), (50, (li i1)), (61, (li (x4.length : Int))), (62, (li 0))]) rfl rfl (by kernel_rfl)), h⟩ ?_
       clear h
       rintro ⟨n1, i2, l6⟩ e' H' ⟨hrep, h⟩
       cases n1 with
       | zero => exact absurd (show (none : Option _) = some r from h) (by simp)
       | succ n1 =>
        replace h : allocator_clone_b1 (allocator_clone_l0 a_p0 x1 x3 l1 n0) i1 l3 x4 (allocator_clone_l1 (allocator_clone_l0 a_p0 x1 x3 l1 n0) i1 l3 x4 n1) i2 l6 = some r := h
        unfold allocator_clone_b1 at h
        refine AW_rep hrep ?_
        clear hrep
        refine AW_seq <| AW_region <| ALW_val (AVal_lss rfl rfl) <| ALW_nil <| AW_seq ?_
        refine AW_cond (decide (i2 < (x4.length : Int))) rfl (fun hb5 => ?_) (fun hb5 => ?_)
        ·replace h := cnd_t hb5 h
         refine AW_skip <| AW_seq <| AW_block <| AW_seq <| AW_region <| ALW_val (AVal_move rfl) ?_
         refine ALW_val (AVal_assign rfl) <| ALW_nil <| AW_region <| ALW_val (AVal_move rfl) <| ALW_val (AVal_move rfl) <| ALW_val (AVal_move rfl) ?_
         refine ALW_val (AVal_move rfl) ?_
         have hb6 := (chk_some h).1
         replace h := (chk_some h).2
         refine ALW_val (AVal_idxVM (f := (cS cI)) (l := l6) (i := i2) Try.underlying48 Try.sizeOf22 rfl rfl rfl hb6) <| ALW_val (AVal_loadV1M (f := (cS cI)) (l := l6) (i := i2) (c := 0) (a := (ls cI (at_ l6 i2))) Try.isAgg22 rfl rfl (by first | rfl | omega) hb6 rfl rfl) ?_
         refine bnd_elim h ?_; clear h; intro x5 hx5 h
         refine ALW_callV (T := 3) (sz := 1) (rows := List.map cI x5) (la := [(ls cI (at_ l6 i2))]) (la' := [(ls cI (at_ l6 i2))]) (S := []) Try.func24 rfl (by kernel_rfl) (.fn 24) rfl ⟨View.nr rfl, trivial⟩ (slices_Clone_Lint_int_ok hx5) (.inl rfl) <| ALW_val (AVal_idxVM (f := (cS cI)) (l := l6) (i := i2) Try.underlying48 Try.sizeOf22 rfl rfl rfl hb6) <| ALW_act (H' := [.box 29 ([AV.osl 3 1 (List.map cI x1)] ++ ([(li a_p0.batch)] ++ ([(li a_p0.high)] ++ ([AV.osl 46 10 (List.map cZone l1)] ++ ([AV.osl 50 1 (List.map cCpuCache l3)] ++ []))))), .box 29 ([(ls cI ([] : List Int))] ++ ([(li 0)] ++ ([(li 0)] ++ ([(ls cZone ([] : List Zone))] ++ ([(ls cCpuCache ([] : List CpuCache))] ++ []))))), .vopen 22 1 (List.map (cS cI) l6) i2.toNat [.hd 3], .vec 3 1 (List.map cI x5)]) (AAct_storeO (k := 2) (j := 3) (i := i2.toNat) Try.sizeOf22 rfl rfl rfl (by rw [List.length_map]; exact (inb_bd hb6).2) rfl rfl) <| ALW_nil <| AW_region ?_
         have hb7 := (chk_some h).1
         replace h := (chk_some h).2
         refine ALW_val (AVal_add rfl rfl hb7) <| ALW_val (AVal_move rfl) <| ALW_nil ?_
         exact ⟨(n1, (i2 + 1), (l6.set i2.toNat x5)), Nat.lt_succ_self _, Rep.trans (Rep_vcloseM (k := 2) (j := 3) (f := cI) (l := l6) (l' := x5) (fun _ => rfl) rfl rfl rfl) (RepP [0, 1, 2] (l := [(1, (AV.ptr 0 0)), (2, (AV.ptr 1 0)), (5, (li i1)), (6, (AV.hd 2)), (49, (li (x3.length : Int))), (50, (li i1)), (61, (li (x4.length : Int))), (62, (li (i2 + 1)))]) rfl rfl (by kernel_rfl)), h⟩
        ·replace h := cnd_f hb5 h
         refine AW_exit ?_
         exact ⟨l6, RepP [0, 1, 2] rfl rfl (by kernel_rfl), h⟩
      ·
       clear h
       rintro e' H' ⟨l5, hrep, h⟩
       refine AW_rep hrep ?_
       clear hrep
       unfold allocator_clone_j3 at h
       refine AW_region <| ALW_val (AVal_field Try.underlying29 rfl rfl Try.sizeOf27 rfl) <| ALW_rep (Rep_open (k := 0) (o := 4) (t' := 50) (sz := 1) (rows := List.map cCpuCache l3) rfl rfl) <| ALW_val (AVal_load1 Try.isAgg27 rfl rfl rfl rfl) <| ALW_val (AVal_move rfl) <| ALW_val (AVal_move rfl) ?_
       have hb4 := (chk_some h).1
       replace h := (chk_some h).2
       refine ALW_val (AVal_idxVM (f := cCpuCache) (l := l3) (i := i1) Try.underlying27 Try.sizeOf50 rfl rfl rfl hb4) <| ALW_val (AVal_field Try.underlying50 rfl rfl Try.sizeOf48 rfl) <| ALW_rep (Rep_frzL (j := 2) (ds := [6, 77]) (rows' := List.map (cS cI) l5) rfl (frzR_map (fun _ => rfl)) ⟨rfl, rfl, trivial⟩) <| ALW_act (H' := [.box 29 ([AV.osl 3 1 (List.map cI x1)] ++ ([(li a_p0.batch)] ++ ([(li a_p0.high)] ++ ([AV.osl 46 10 (List.map cZone l1)] ++ ([AV.hd 3] ++ []))))), .box 29 ([(ls cI ([] : List Int))] ++ ([(li 0)] ++ ([(li 0)] ++ ([(ls cZone ([] : List Zone))] ++ ([(ls cCpuCache ([] : List CpuCache))] ++ []))))), .dead, .vec 50 1 (List.map cCpuCache (l3.set i1.toNat ({ at_ l3 i1 with lists := l5 })))]) (AAct_storeV1M (k := 3) (o := (i1.toNat * 1)) (f := cCpuCache) (l := l3) (i := i1) (c := 0) (a := (ls (cS cI) l5)) (z := { at_ l3 i1 with lists := l5 }) Try.sizeOf48 rfl rfl (by first | rfl | omega) hb4 rfl rfl rfl rfl rfl) <| ALW_nil ?_
       exact ⟨(l3.set i1.toNat ({ at_ l3 i1 with lists := l5 })), Rep.trans (Rep_close (k := 0) (j := 3) (o := 4) rfl rfl rfl rfl) (RepP [0, 1] (l := [(1, (AV.ptr 0 0)), (2, (AV.ptr 1 0)), (49, (li (x3.length : Int))), (50, (li i1))]) rfl rfl (by kernel_rfl)), h⟩
     ·
      clear h
      rintro e' H' ⟨l4, hrep, h⟩
      refine AW_rep hrep ?_
      clear hrep
      unfold allocator_clone_j2 at h
      refine AW_region ?_
      have hb2 := (chk_some h).1
      replace h := (chk_some h).2
      refine ALW_val (AVal_add rfl rfl hb2) <| ALW_val (AVal_move rfl) <| ALW_nil ?_
      exact ⟨(n0, (i1 + 1), l4), Nat.lt_succ_self _, RepP [0, 1] rfl rfl (by kernel_rfl), h⟩
    ·replace h := cnd_f hb1 h
     refine AW_exit ?_
     exact ⟨l3, RepP [0, 1] rfl rfl (by kernel_rfl), h⟩
  ·
   clear h
   rintro e' H' ⟨l2, hrep, h⟩
   refine AW_rep hrep ?_
   clear hrep
   unfold allocator_clone_j1 at h
   refine AW_seq <| AW_region <| ALW_rep (Rep_frzC (k := 0) (o := 0) (rows' := List.map cI x1) rfl rfl (frzR_map (fun _ => rfl))) <| ALW_step (AStep_loadT (k := 0) (cs := ([(ls cI x1)] ++ ([(li a_p0.batch)] ++ ([(li a_p0.high)] ++ ([AV.osl 46 10 (List.map cZone l1)] ++ ([AV.osl 50 1 (List.map cCpuCache l2)] ++ [])))))) (m := 5) Try.isAgg29 Try.sizeOf29 rfl rfl rfl) <| ALW_act (H' := [.dead, .box 29 ([(ls cI x1)] ++ ([(li a_p0.batch)] ++ ([(li a_p0.high)] ++ ([AV.osl 46 10 (List.map cZone l1)] ++ ([AV.osl 50 1 (List.map cCpuCache l2)] ++ []))))), .dead]) (AAct_storeT (k := 1) (o := 0) (j := 2) (cs := ([(ls cI ([] : List Int))] ++ ([(li 0)] ++ ([(li 0)] ++ ([(ls cZone ([] : List Zone))] ++ ([(ls cCpuCache ([] : List CpuCache))] ++ [])))))) (la := ([(ls cI x1)] ++ ([(li a_p0.batch)] ++ ([(li a_p0.high)] ++ ([AV.osl 46 10 (List.map cZone l1)] ++ ([AV.osl 50 1 (List.map cCpuCache l2)] ++ [])))))) Try.sizeOf29 rfl rfl rfl rfl rfl (by decide)) <| ALW_nil ?_
   refine AW_ret ?_
   show RetP _ _ _ _ _ _
   obtain rfl := Option.some.inj h
   exact RetP_1 (R1_A Try.isAgg29 Try.sizeOf29 rfl rfl rfl rfl)
theorem buddy_clone_ok {a_z : Zone} {r : Zone} (h : buddy_clone a_z = some r) : PFn Try.prog 82 [(AV.agg (cZone a_z))] (AV.agg ([(li r.node)] ++ ([(li r.kind)] ++ ([(li r.start)] ++ ([(li r.count)] ++ ([(li r.min)] ++ ((cM 5 3 (5 : Int) r.free) ++ []))))))) := by
 refine PFn_enter Try.func82 rfl Try.ntmps82 Try.results82 rfl ?_
 unfold buddy_clone at h
 refine AW_seq <| AW_region <| ALW_step (H' := [.box 46 (cZone a_z)]) (AStep_boxA (t := 46) rfl) <| ALW_step (H' := [.box 46 (cZone a_z), .box 46 ([(li 0)] ++ ([(li 0)] ++ ([(li 0)] ++ ([(li 0)] ++ ([(li 0)] ++ ((cA 5 (eS cI) ([] : List Int) (List.replicate 5 ([] : List Int))) ++ []))))))]) (AStep_alloc (t := 46) (vs := [.int .i64 0, .int .i64 0, .int .i64 0, .int .i64 0, .int .i64 0, .slice none 0 0, .slice none 0 0, .slice none 0 0, .slice none 0 0, .slice none 0 0]) (cs := [.lit (.int .i64 0), .lit (.int .i64 0), .lit (.int .i64 0), .lit (.int .i64 0), .lit (.int .i64 0), .sl false [], .sl false [], .sl false [], .sl false [], .sl false []]) Try.zeroValue46 (by kernel_rfl) rfl ⟨SubF.refl _, SubF.refl _, SubF.refl _, SubF.refl _, SubF.refl _, SubF.nils, SubF.nils, SubF.nils, SubF.nils, SubF.nils, trivial⟩) <| ALW_nil ?_
 refine AW_seqJ (fun e' H' => ∃ (l1 : List (List Int)) (i1 : Int), Rep 17 0 e' H' (mkE [(1, (AV.ptr 0 0)), (2, (AV.ptr 1 0))]) [.box 46 ([(li a_z.node)] ++ ([(li a_z.kind)] ++ ([(li a_z.start)] ++ ([(li a_z.count)] ++ ([(li a_z.min)] ++ ((cM 5 3 i1 l1) ++ [])))))), .box 46 ([(li 0)] ++ ([(li 0)] ++ ([(li 0)] ++ ([(li 0)] ++ ([(li 0)] ++ ((cA 5 (eS cI) ([] : List Int) (List.replicate 5 ([] : List Int))) ++ []))))))] ∧ buddy_clone_j0 a_z l1 i1 = some r) ?_ ?_
 ·
  refine AW_seq <| AW_region <| ALW_val (AVal_move rfl) <| ALW_nil <| AW_block <| AW_loop (σ := Nat × Int × (List (List Int))) (fun s => s.1) (fun s e' H' => match s with | (n0, i2, l2) => Rep 17 0 e' H' (mkE [(1, (AV.ptr 0 0)), (2, (AV.ptr 1 0)), (4, (li i2))]) [.box 46 ([(li a_z.node)] ++ ([(li a_z.kind)] ++ ([(li a_z.start)] ++ ([(li a_z.count)] ++ ([(li a_z.min)] ++ ((cM 5 3 i2 l2) ++ [])))))), .box 46 ([(li 0)] ++ ([(li 0)] ++ ([(li 0)] ++ ([(li 0)] ++ ([(li 0)] ++ ((cA 5 (eS cI) ([] : List Int) (List.replicate 5 ([] : List Int))) ++ []))))))] ∧ buddy_clone_l0 a_z n0 i2 l2 = some r) (FUEL, 0, a_z.free) ⟨RepP [0, 1] rfl rfl (by kernel_rfl), h⟩ ?_
  clear h
  rintro ⟨n0, i2, l2⟩ e' H' ⟨hrep, h⟩
  cases n0 with
  | zero => exact absurd (show (none : Option _) = some r from h) (by simp)
  | succ n0 =>
   replace h : buddy_clone_b0 a_z (buddy_clone_l0 a_z n0) i2 l2 = some r := h
   unfold buddy_clone_b0 at h
   refine AW_rep hrep ?_
   clear hrep
   refine AW_seq <| AW_region <| ALW_val (AVal_lss rfl rfl) <| ALW_nil <| AW_seq ?_
   refine AW_cond (decide (i2 < 5)) rfl (fun hb2 => ?_) (fun hb2 => ?_)
   ·replace h := cnd_t hb2 h
    refine AW_skip <| AW_seq <| AW_block <| AW_seq <| AW_region <| ALW_val (AVal_move rfl) ?_
    refine ALW_val (AVal_assign rfl) <| ALW_nil <| AW_region <| ALW_val (AVal_move rfl) <| ALW_val (AVal_move rfl) <| ALW_val (AVal_field Try.underlying46 rfl rfl Try.sizeOf44 rfl) ?_
    have hb3 := (chk_some h).1
    replace h := (chk_some h).2
    refine ALW_val (AVal_idxA (m := 5) (s := 1) (i := i2) (k := 0) (o := 5) Try.underlying44 Try.sizeOf22 rfl rfl hb3) <| ALW_val (AVal_loadMf (k := 0) (o := (5 + i2.toNat * 1)) (cs := ([(li a_z.node)] ++ ([(li a_z.kind)] ++ ([(li a_z.start)] ++ ([(li a_z.count)] ++ ([(li a_z.min)] ++ ((cM 5 3 i2 l2) ++ []))))))) (hd := ([(li a_z.node)] ++ [(li a_z.kind)] ++ [(li a_z.start)] ++ [(li a_z.count)] ++ [(li a_z.min)] ++ [])) (tl := ([])) (N := 5) (T' := 3) (K := i2) (l := l2) (i := i2) Try.isAgg22 rfl rfl rfl (congrArg (fun q => 5 + q) (Nat.mul_one _)) hb3 (decide_eq_true (Int.le_refl _))) ?_
    refine bnd_elim h ?_; clear h; intro x1 hx1 h
    refine ALW_callV (T := 3) (sz := 1) (rows := List.map cI x1) (la := [(ls cI (l2.getD i2.toNat []))]) (la' := [(ls cI (l2.getD i2.toNat []))]) (S := []) Try.func24 rfl (by kernel_rfl) (.fn 24) rfl ⟨View.nr rfl, trivial⟩ (slices_Clone_Lint_int_ok hx1) (.inl rfl) <| ALW_val (AVal_field Try.underlying46 rfl rfl Try.sizeOf44 rfl) <| ALW_val (AVal_idxA (m := 5) (s := 1) (i := i2) (k := 0) (o := 5) Try.underlying44 Try.sizeOf22 rfl rfl hb3) <| ALW_act (H' := [.box 46 ([(li a_z.node)] ++ ([(li a_z.kind)] ++ ([(li a_z.start)] ++ ([(li a_z.count)] ++ ([(li a_z.min)] ++ ((List.set (cM 5 3 i2 l2) i2.toNat (AV.hd 2)) ++ [])))))), .box 46 ([(li 0)] ++ ([(li 0)] ++ ([(li 0)] ++ ([(li 0)] ++ ([(li 0)] ++ ((cA 5 (eS cI) ([] : List Int) (List.replicate 5 ([] : List Int))) ++ [])))))), .vec 3 1 (List.map cI x1)]) (AAct_storeM (k := 0) (o := (5 + i2.toNat * 1)) (cs := ([(li a_z.node)] ++ ([(li a_z.kind)] ++ ([(li a_z.start)] ++ ([(li a_z.count)] ++ ([(li a_z.min)] ++ ((cM 5 3 i2 l2) ++ []))))))) (hd := ([(li a_z.node)] ++ [(li a_z.kind)] ++ [(li a_z.start)] ++ [(li a_z.count)] ++ [(li a_z.min)] ++ [])) (tl := ([])) (s := (cM 5 3 i2 l2)) (i := i2) (a := (AV.hd 2)) Try.sizeOf22 rfl rfl rfl (congrArg (fun q => 5 + q) (Nat.mul_one _)) (blt_cM hb3) rfl rfl) <| ALW_nil <| AW_region ?_
    have hb4 := (chk_some h).1
    replace h := (chk_some h).2
    refine ALW_val (AVal_add rfl rfl hb4) <| ALW_val (AVal_move rfl) <| ALW_nil ?_
    exact ⟨(n0, (i2 + 1), (setA 5 [] l2 i2.toNat x1)), Nat.lt_succ_self _, Rep.trans (Rep_closeM1 (K' := i2 + 1) (j := 2) (l' := x1) (k := 0) (cs := ([(li a_z.node)] ++ ([(li a_z.kind)] ++ ([(li a_z.start)] ++ ([(li a_z.count)] ++ ([(li a_z.min)] ++ ((List.set (cM 5 3 i2 l2) i2.toNat (AV.hd 2)) ++ []))))))) (hd := ([(li a_z.node)] ++ [(li a_z.kind)] ++ [(li a_z.start)] ++ [(li a_z.count)] ++ [(li a_z.min)] ++ [])) (tl := ([])) (N := 5) (T := 3) (K := i2) (l := l2) (i := i2) rfl rfl hb3 (decide_eq_true rfl) rfl rfl rfl) (Rep_perm (n := 17) (m := 0) [0, 1] (l := [(1, (AV.ptr 0 0)), (2, (AV.ptr 1 0)), (4, (li (i2 + 1)))]) ⟨⟨Sub.refl _, by kernel_rfl⟩, ⟨Sub.refl _, by kernel_rfl⟩, ⟨Sub.refl _, by kernel_rfl⟩, trivial⟩ rfl rfl ⟨⟨rfl, okR_M (hd := ([(li a_z.node)] ++ [(li a_z.kind)] ++ [(li a_z.start)] ++ [(li a_z.count)] ++ [(li a_z.min)] ++ [])) (tl := ([])) (N := 5) (T := 3) (K := i2 + 1) (l := setA 5 [] l2 i2.toNat x1) (by kernel_rfl) (by kernel_rfl) rfl⟩, ⟨rfl, by kernel_rfl⟩, trivial⟩), h⟩
   ·replace h := cnd_f hb2 h
    refine AW_exit ?_
    exact ⟨l2, i2, Rep_perm (n := 17) (m := 0) [0, 1] (l := [(1, (AV.ptr 0 0)), (2, (AV.ptr 1 0))]) ⟨⟨Sub.refl _, by kernel_rfl⟩, ⟨Sub.refl _, by kernel_rfl⟩, trivial⟩ rfl rfl ⟨⟨rfl, okR_M (hd := ([(li a_z.node)] ++ [(li a_z.kind)] ++ [(li a_z.start)] ++ [(li a_z.count)] ++ [(li a_z.min)] ++ [])) (tl := ([])) (N := 5) (T := 3) (K := i2) (l := l2) (by kernel_rfl) (by kernel_rfl) rfl⟩, ⟨rfl, by kernel_rfl⟩, trivial⟩, h⟩
 ·
  clear h
  rintro e' H' ⟨l1, i1, hrep, h⟩
  refine AW_rep hrep ?_
  clear hrep
  unfold buddy_clone_j0 at h
  refine AW_seq <| AW_region ?_
  have hb1 := (chk_some h).1
  replace h := (chk_some h).2
  refine ALW_rep (Rep_fullM (k := 0) (cs := ([(li a_z.node)] ++ ([(li a_z.kind)] ++ ([(li a_z.start)] ++ ([(li a_z.count)] ++ ([(li a_z.min)] ++ ((cM 5 3 i1 l1) ++ []))))))) (hd := ([(li a_z.node)] ++ [(li a_z.kind)] ++ [(li a_z.start)] ++ [(li a_z.count)] ++ [(li a_z.min)] ++ [])) (tl := ([])) (N := 5) (T := 3) (K := i1) (l := l1) rfl rfl hb1) <| ALW_step (AStep_loadT (k := 0) (cs := ([(li a_z.node)] ++ ([(li a_z.kind)] ++ ([(li a_z.start)] ++ ([(li a_z.count)] ++ ([(li a_z.min)] ++ ((cM 5 3 (5 : Int) l1) ++ []))))))) (m := 10) Try.isAgg46 Try.sizeOf46 rfl rfl rfl) <| ALW_act (H' := [.dead, .box 46 ([(li a_z.node)] ++ ([(li a_z.kind)] ++ ([(li a_z.start)] ++ ([(li a_z.count)] ++ ([(li a_z.min)] ++ ((cM 5 3 (5 : Int) l1) ++ [])))))), .dead]) (AAct_storeT (k := 1) (o := 0) (j := 2) (cs := ([(li 0)] ++ ([(li 0)] ++ ([(li 0)] ++ ([(li 0)] ++ ([(li 0)] ++ ((cA 5 (eS cI) ([] : List Int) (List.replicate 5 ([] : List Int))) ++ []))))))) (la := ([(li a_z.node)] ++ ([(li a_z.kind)] ++ ([(li a_z.start)] ++ ([(li a_z.count)] ++ ([(li a_z.min)] ++ ((cM 5 3 (5 : Int) l1) ++ []))))))) Try.sizeOf46 rfl rfl rfl rfl rfl (by decide)) <| ALW_nil <| AW_ret ?_
  show RetP _ _ _ _ _ _
  obtain rfl := Option.some.inj h
  exact RetP_1 (R1_A Try.isAgg46 Try.sizeOf46 rfl rfl rfl rfl)
theorem buddy_Alloc_ok {a_p0 : Zone} {a_p1 : Int} {r : Zone × Int × Int} (h : buddy_Alloc a_p0 a_p1 = some r) : PFn Try.prog 48 [(AV.agg (cZone a_p0)), (li a_p1)] (AV.tup [(AV.agg (cZone r.1)), (li r.2.1), (li r.2.2)]) := by
 refine PFn_enter Try.func48 rfl Try.ntmps48 Try.results48 rfl ?_
 unfold buddy_Alloc at h
 refine AW_seq <| AW_region <| ALW_step (H' := [.box 46 (cZone a_p0)]) (AStep_boxA (t := 46) rfl) <| ALW_step (H' := [.box 46 (cZone a_p0), .box 46 ([(li 0)] ++ ([(li 0)] ++ ([(li 0)] ++ ([(li 0)] ++ ([(li 0)] ++ ((cA 5 (eS cI) ([] : List Int) (List.replicate 5 ([] : List Int))) ++ []))))))]) (AStep_alloc (t := 46) (vs := [.int .i64 0, .int .i64 0, .int .i64 0, .int .i64 0, .int .i64 0, .slice none 0 0, .slice none 0 0, .slice none 0 0, .slice none 0 0, .slice none 0 0]) (cs := [.lit (.int .i64 0), .lit (.int .i64 0), .lit (.int .i64 0), .lit (.int .i64 0), .lit (.int .i64 0), .sl false [], .sl false [], .sl false [], .sl false [], .sl false []]) Try.zeroValue46 (by kernel_rfl) rfl ⟨SubF.refl _, SubF.refl _, SubF.refl _, SubF.refl _, SubF.refl _, SubF.nils, SubF.nils, SubF.nils, SubF.nils, SubF.nils, trivial⟩) <| ALW_val (AVal_assign rfl) <| ALW_val (AVal_assign rfl) ?_
 refine ALW_nil <| AW_seq <| AW_seq <| AW_region <| ALW_val (AVal_loadA (k := 0) (o := 0) (m := 10) Try.isAgg46 Try.sizeOf46 rfl rfl rfl rfl rfl) ?_
 refine bnd_elim h ?_; clear h; intro x1 hx1 h
 refine ALW_callN Try.func36 rfl (by kernel_rfl) (.fn 36) rfl rfl (buddy_Check_ok hx1) rfl <| ALW_val (AVal_assign rfl) <| ALW_nil <| AW_seq <| AW_region <| ALW_val (AVal_move rfl) ?_
 refine ALW_val (AVal_neq rfl rfl) <| ALW_nil ?_
 refine AW_cond (!decide (x1 = 0)) rfl (fun hb1 => ?_) (fun hb1 => ?_)
 ·replace h := cnd_t hb1 h
  refine AW_seq <| AW_region <| ALW_val (AVal_build (pl := [(0, 1), (1, 1), (2, 1), (3, 1), (4, 1), (5, 5)]) (zs := [.int .i64 0, .int .i64 0, .int .i64 0, .int .i64 0, .int .i64 0, .slice none 0 0, .slice none 0 0, .slice none 0 0, .slice none 0 0, .slice none 0 0]) (zc := [.lit (.int .i64 0), .lit (.int .i64 0), .lit (.int .i64 0), .lit (.int .i64 0), .lit (.int .i64 0), .sl false [], .sl false [], .sl false [], .sl false [], .sl false []]) (res := (cZone (⟨0, 0, 0, 0, 0, (List.replicate 5 ([] : List Int))⟩ : Zone))) (fun _ => by kernel_rfl) rfl (⟨SubF.refl _, ⟨SubF.refl _, ⟨SubF.refl _, ⟨SubF.refl _, ⟨SubF.refl _, ⟨SubF.nils, ⟨SubF.nils, ⟨SubF.nils, ⟨SubF.nils, ⟨SubF.nils, trivial⟩⟩⟩⟩⟩⟩⟩⟩⟩⟩) (by exact SubL.refl _)) <| ALW_val (AVal_move rfl) <| ALW_act (H' := [.box 46 (cZone a_p0), .box 46 (cZone (⟨0, 0, 0, 0, 0, (List.replicate 5 ([] : List Int))⟩ : Zone))]) (AAct_storeA (k := 1) (o := 0) (cs := ([(li 0)] ++ ([(li 0)] ++ ([(li 0)] ++ ([(li 0)] ++ ([(li 0)] ++ ((cA 5 (eS cI) ([] : List Int) (List.replicate 5 ([] : List Int))) ++ []))))))) (la := (cZone (⟨0, 0, 0, 0, 0, (List.replicate 5 ([] : List Int))⟩ : Zone))) Try.sizeOf46 rfl rfl rfl rfl) <| ALW_val (AVal_assign rfl) ?_
  refine ALW_val (AVal_assign rfl) <| ALW_nil <| AW_ret ?_
  show RetP _ _ _ _ _ _
  obtain rfl := Option.some.inj h
  exact RetP_3 (R1_A Try.isAgg46 Try.sizeOf46 rfl rfl rfl rfl) (R1_E rfl rfl) (R1_E rfl rfl) rfl
 ·replace h := cnd_f hb1 h
  refine AW_skip <| AW_seq <| AW_seq <| AW_region <| ALW_val (AVal_move rfl) <| ALW_val (AVal_lss rfl rfl) ?_
  refine ALW_val (AVal_move rfl) <| ALW_g0 rfl rfl (fun hc1 => AVal.step (AVal_move rfl)) <| ALW_g0 rfl rfl (fun hc2 => AVal.step (AVal_gtr (gd_t rfl hc2) rfl)) <| ALW_val (AVal_pick_or rfl rfl) <| ALW_nil ?_
  refine AW_cond ((decide (a_p1 < 0)) || (decide (4 < a_p1))) rfl (fun hb2 => ?_) (fun hb2 => ?_)
  ·replace h := cnd_t hb2 h
   refine AW_seq <| AW_region <| ALW_val (AVal_build (pl := [(0, 1), (1, 1), (2, 1), (3, 1), (4, 1), (5, 5)]) (zs := [.int .i64 0, .int .i64 0, .int .i64 0, .int .i64 0, .int .i64 0, .slice none 0 0, .slice none 0 0, .slice none 0 0, .slice none 0 0, .slice none 0 0]) (zc := [.lit (.int .i64 0), .lit (.int .i64 0), .lit (.int .i64 0), .lit (.int .i64 0), .lit (.int .i64 0), .sl false [], .sl false [], .sl false [], .sl false [], .sl false []]) (res := (cZone (⟨0, 0, 0, 0, 0, (List.replicate 5 ([] : List Int))⟩ : Zone))) (fun _ => by kernel_rfl) rfl (⟨SubF.refl _, ⟨SubF.refl _, ⟨SubF.refl _, ⟨SubF.refl _, ⟨SubF.refl _, ⟨SubF.nils, ⟨SubF.nils, ⟨SubF.nils, ⟨SubF.nils, ⟨SubF.nils, trivial⟩⟩⟩⟩⟩⟩⟩⟩⟩⟩) (by exact SubL.refl _)) <| ALW_act (H' := [.box 46 (cZone a_p0), .box 46 (cZone (⟨0, 0, 0, 0, 0, (List.replicate 5 ([] : List Int))⟩ : Zone))]) (AAct_storeA (k := 1) (o := 0) (cs := ([(li 0)] ++ ([(li 0)] ++ ([(li 0)] ++ ([(li 0)] ++ ([(li 0)] ++ ((cA 5 (eS cI) ([] : List Int) (List.replicate 5 ([] : List Int))) ++ []))))))) (la := (cZone (⟨0, 0, 0, 0, 0, (List.replicate 5 ([] : List Int))⟩ : Zone))) Try.sizeOf46 rfl rfl rfl rfl) <| ALW_val (AVal_assign rfl) <| ALW_val (AVal_assign rfl) ?_
   refine ALW_nil <| AW_ret ?_
   show RetP _ _ _ _ _ _
   obtain rfl := Option.some.inj h
   exact RetP_3 (R1_A Try.isAgg46 Try.sizeOf46 rfl rfl rfl rfl) (R1_E rfl rfl) (R1_E rfl rfl) rfl
  ·replace h := cnd_f hb2 h
   refine AW_skip <| AW_seq <| AW_region <| ALW_val (AVal_move rfl) <| ALW_val (AVal_assign rfl) <| ALW_nil ?_
   refine AW_seqJ (fun e' H' => ∃ (i1 : Int), Rep 90 0 e' H' (mkE [(1, (li a_p1)), (2, (AV.ptr 0 0)), (4, (AV.ptr 1 0)), (8, (li i1))]) [.box 46 (cZone a_p0), .box 46 ([(li 0)] ++ ([(li 0)] ++ ([(li 0)] ++ ([(li 0)] ++ ([(li 0)] ++ ((cA 5 (eS cI) ([] : List Int) (List.replicate 5 ([] : List Int))) ++ []))))))] ∧ buddy_Alloc_j0 a_p0 a_p1 i1 = some r) ?_ ?_
   ·
    refine AW_block <| AW_loop (σ := Nat × Int) (fun s => s.1) (fun s e' H' => match s with | (n1, i3) => Rep 90 0 e' H' (mkE [(1, (li a_p1)), (2, (AV.ptr 0 0)), (4, (AV.ptr 1 0)), (8, (li i3))]) [.box 46 (cZone a_p0), .box 46 ([(li 0)] ++ ([(li 0)] ++ ([(li 0)] ++ ([(li 0)] ++ ([(li 0)] ++ ((cA 5 (eS cI) ([] : List Int) (List.replicate 5 ([] : List Int))) ++ []))))))] ∧ buddy_Alloc_l1 a_p0 a_p1 n1 i3 = some r) (FUEL, a_p1) ⟨RepP [0, 1] rfl rfl (by kernel_rfl), h⟩ ?_
    clear h
    rintro ⟨n1, i3⟩ e' H' ⟨hrep, h⟩
    cases n1 with
    | zero => exact absurd (show (none : Option _) = some r from h) (by simp)
    | succ n1 =>
     replace h : buddy_Alloc_b1 a_p0 a_p1 (buddy_Alloc_l1 a_p0 a_p1 n1) i3 = some r := h
     unfold buddy_Alloc_b1 at h
     refine AW_rep hrep ?_
     clear hrep
     refine AW_seq <| AW_seq <| AW_region <| ALW_val (AVal_move rfl) <| ALW_val (AVal_leq rfl rfl) <| ALW_val (AVal_move rfl) ?_
     refine ALW_g1 rfl rfl (fun hc3 => AVal.step (AVal_move rfl)) <| ALW_g1 rfl rfl (fun hc4 => AVal.step (AVal_field Try.underlying46 rfl rfl Try.sizeOf44 rfl)) ?_
     have hb17 := (chk_some h).1
     replace h := (chk_some h).2
     refine ALW_g1 rfl rfl (fun hc5 => AVal.step (AVal_idxA (m := 5) (s := 1) (i := i3) (k := 0) (o := 5) Try.underlying44 Try.sizeOf22 (gd_t rfl hc5) (gd_t rfl hc5) (imp_t hb17 hc5))) <| ALW_g1 rfl rfl (fun hc6 => AVal.step (AVal_loadArr (k := 0) (o := (5 + i3.toNat * 1)) (cs := (cZone a_p0)) (hd := ([(li a_p0.node)] ++ [(li a_p0.kind)] ++ [(li a_p0.start)] ++ [(li a_p0.count)] ++ [(li a_p0.min)] ++ [])) (tl := ([])) (g := (eS cI)) (d0 := ([] : List Int)) (l := a_p0.free) (N := 5) (i := i3.toNat) (a := (ls cI (a_p0.free.getD i3.toNat ([] : List Int)))) Try.isAgg22 (gd_t rfl hc6) rfl rfl (congrArg (fun q => 5 + q) (Nat.mul_one _)) (inb_bd (imp_t hb17 hc6)).2 rfl rfl)) <| ALW_g1 rfl rfl (fun hc7 => AVal.step (AVal_lenM Try.underlying22 (gd_t rfl hc7))) <| ALW_g1 rfl rfl (fun hc8 => AVal.step (AVal_eql (gd_t rfl hc8) rfl)) <| ALW_val (AVal_pick_and (j := .lit undef) rfl rfl) <| ALW_nil ?_
     refine AW_cond ((decide (i3 ≤ 4)) && (decide (((a_p0.free.getD i3.toNat ([] : List Int)).length : Int) = 0))) rfl (fun hb18 => ?_) (fun hb18 => ?_)
     ·replace h := cnd_t hb18 h
      refine AW_skip <| AW_block <| AW_region <| ALW_val (AVal_move rfl) ?_
      have hb19 := (chk_some h).1
      replace h := (chk_some h).2
      refine ALW_val (AVal_add rfl rfl hb19) <| ALW_val (AVal_assign rfl) <| ALW_nil ?_
      exact ⟨(n1, (i3 + 1)), Nat.lt_succ_self _, RepP [0, 1] rfl rfl (by kernel_rfl), h⟩
     ·replace h := cnd_f hb18 h
      refine AW_exit ?_
      exact ⟨i3, RepP [0, 1] rfl rfl (by kernel_rfl), h⟩
   ·
    clear h
    rintro e' H' ⟨i1, hrep, h⟩
    refine AW_rep hrep ?_
    clear hrep
    unfold buddy_Alloc_j0 at h
    refine AW_seq <| AW_seq <| AW_region <| ALW_val (AVal_move rfl) <| ALW_val (AVal_gtr rfl rfl) <| ALW_nil ?_
    refine AW_cond (decide (4 < i1)) rfl (fun hb3 => ?_) (fun hb3 => ?_)
    ·replace h := cnd_t hb3 h
     refine AW_seq <| AW_region <| ALW_val (AVal_build (pl := [(0, 1), (1, 1), (2, 1), (3, 1), (4, 1), (5, 5)]) (zs := [.int .i64 0, .int .i64 0, .int .i64 0, .int .i64 0, .int .i64 0, .slice none 0 0, .slice none 0 0, .slice none 0 0, .slice none 0 0, .slice none 0 0]) (zc := [.lit (.int .i64 0), .lit (.int .i64 0), .lit (.int .i64 0), .lit (.int .i64 0), .lit (.int .i64 0), .sl false [], .sl false [], .sl false [], .sl false [], .sl false []]) (res := (cZone (⟨0, 0, 0, 0, 0, (List.replicate 5 ([] : List Int))⟩ : Zone))) (fun _ => by kernel_rfl) rfl (⟨SubF.refl _, ⟨SubF.refl _, ⟨SubF.refl _, ⟨SubF.refl _, ⟨SubF.refl _, ⟨SubF.nils, ⟨SubF.nils, ⟨SubF.nils, ⟨SubF.nils, ⟨SubF.nils, trivial⟩⟩⟩⟩⟩⟩⟩⟩⟩⟩) (by exact SubL.refl _)) <| ALW_act (H' := [.box 46 (cZone a_p0), .box 46 (cZone (⟨0, 0, 0, 0, 0, (List.replicate 5 ([] : List Int))⟩ : Zone))]) (AAct_storeA (k := 1) (o := 0) (cs := ([(li 0)] ++ ([(li 0)] ++ ([(li 0)] ++ ([(li 0)] ++ ([(li 0)] ++ ((cA 5 (eS cI) ([] : List Int) (List.replicate 5 ([] : List Int))) ++ []))))))) (la := (cZone (⟨0, 0, 0, 0, 0, (List.replicate 5 ([] : List Int))⟩ : Zone))) Try.sizeOf46 rfl rfl rfl rfl) <| ALW_val (AVal_assign rfl) <| ALW_val (AVal_assign rfl) ?_
     refine ALW_nil <| AW_ret ?_
     show RetP _ _ _ _ _ _
     obtain rfl := Option.some.inj h
     exact RetP_3 (R1_A Try.isAgg46 Try.sizeOf46 rfl rfl rfl rfl) (R1_E rfl rfl) (R1_E rfl rfl) rfl
    ·replace h := cnd_f hb3 h
     refine AW_skip <| AW_seq <| AW_region <| ALW_val (AVal_loadA (k := 0) (o := 0) (m := 10) Try.isAgg46 Try.sizeOf46 rfl rfl rfl rfl rfl) ?_
     refine bnd_elim h ?_; clear h; intro x2 hx2 h
     refine ALW_callA (cs := ([(li x2.node)] ++ ([(li x2.kind)] ++ ([(li x2.start)] ++ ([(li x2.count)] ++ ([(li x2.min)] ++ ((cM 5 3 (5 : Int) x2.free) ++ []))))))) (la := [(AV.agg (cZone a_p0))]) (la' := [(AV.agg (cZone a_p0))]) (S := []) Try.func82 rfl (by kernel_rfl) (.fn 82) rfl ⟨View.nr rfl, trivial⟩ (buddy_clone_ok hx2) (.inl rfl) <| ALW_step (H' := [.box 46 (cZone a_p0), .box 46 ([(li 0)] ++ ([(li 0)] ++ ([(li 0)] ++ ([(li 0)] ++ ([(li 0)] ++ ((cA 5 (eS cI) ([] : List Int) (List.replicate 5 ([] : List Int))) ++ [])))))), .val (.agg ([(li x2.node)] ++ ([(li x2.kind)] ++ ([(li x2.start)] ++ ([(li x2.count)] ++ ([(li x2.min)] ++ ((cM 5 3 (5 : Int) x2.free) ++ []))))))), .box 46 ([(li 0)] ++ ([(li 0)] ++ ([(li 0)] ++ ([(li 0)] ++ ([(li 0)] ++ ((cA 5 (eS cI) ([] : List Int) (List.replicate 5 ([] : List Int))) ++ []))))))]) (AStep_alloc (t := 46) (vs := [.int .i64 0, .int .i64 0, .int .i64 0, .int .i64 0, .int .i64 0, .slice none 0 0, .slice none 0 0, .slice none 0 0, .slice none 0 0, .slice none 0 0]) (cs := [.lit (.int .i64 0), .lit (.int .i64 0), .lit (.int .i64 0), .lit (.int .i64 0), .lit (.int .i64 0), .sl false [], .sl false [], .sl false [], .sl false [], .sl false []]) Try.zeroValue46 (by kernel_rfl) rfl ⟨SubF.refl _, SubF.refl _, SubF.refl _, SubF.refl _, SubF.refl _, SubF.nils, SubF.nils, SubF.nils, SubF.nils, SubF.nils, trivial⟩) <| ALW_act (H' := [.box 46 (cZone a_p0), .box 46 ([(li 0)] ++ ([(li 0)] ++ ([(li 0)] ++ ([(li 0)] ++ ([(li 0)] ++ ((cA 5 (eS cI) ([] : List Int) (List.replicate 5 ([] : List Int))) ++ [])))))), .dead, .box 46 ([(li x2.node)] ++ ([(li x2.kind)] ++ ([(li x2.start)] ++ ([(li x2.count)] ++ ([(li x2.min)] ++ ((cM 5 3 (5 : Int) x2.free) ++ []))))))]) (AAct_storeT (k := 3) (o := 0) (j := 2) (cs := ([(li 0)] ++ ([(li 0)] ++ ([(li 0)] ++ ([(li 0)] ++ ([(li 0)] ++ ((cA 5 (eS cI) ([] : List Int) (List.replicate 5 ([] : List Int))) ++ []))))))) (la := ([(li x2.node)] ++ ([(li x2.kind)] ++ ([(li x2.start)] ++ ([(li x2.count)] ++ ([(li x2.min)] ++ ((cM 5 3 (5 : Int) x2.free) ++ []))))))) Try.sizeOf46 rfl rfl rfl rfl rfl (by decide)) <| ALW_nil <| AW_seq <| AW_region ?_
     refine ALW_val (AVal_move rfl) <| ALW_val (AVal_field Try.underlying46 rfl rfl Try.sizeOf44 rfl) ?_
     have hb4 := (chk_some h).1
     replace h := (chk_some h).2
     refine ALW_val (AVal_idxA (m := 5) (s := 1) (i := i1) (k := 3) (o := 5) Try.underlying44 Try.sizeOf22 rfl rfl hb4) ?_
     have hb5 := (chk_some h).1
     replace h := (chk_some h).2
     refine ALW_rep (Rep_openM (k := 3) (cs := ([(li x2.node)] ++ ([(li x2.kind)] ++ ([(li x2.start)] ++ ([(li x2.count)] ++ ([(li x2.min)] ++ ((cM 5 3 (5 : Int) x2.free) ++ []))))))) (hd := ([(li x2.node)] ++ [(li x2.kind)] ++ [(li x2.start)] ++ [(li x2.count)] ++ [(li x2.min)] ++ [])) (tl := ([])) (N := 5) (T := 3) (K := 5) (l := x2.free) (i := i1) rfl rfl hb4 hb5) <| ALW_val (AVal_loadM (k := 3) (o := (5 + i1.toNat * 1)) (cs := ([(li x2.node)] ++ ([(li x2.kind)] ++ ([(li x2.start)] ++ ([(li x2.count)] ++ ([(li x2.min)] ++ ((List.set (cM 5 3 (5 : Int) x2.free) i1.toNat (AV.hd 4)) ++ []))))))) (hd := ([(li x2.node)] ++ [(li x2.kind)] ++ [(li x2.start)] ++ [(li x2.count)] ++ [(li x2.min)] ++ [])) (tl := ([])) (s := (cM 5 3 (5 : Int) x2.free)) (i := i1) (j := 4) Try.isAgg22 rfl rfl rfl (congrArg (fun q => 5 + q) (Nat.mul_one _)) (blt_cM hb4)) ?_
     have hb6 := (chk_some h).1
     replace h := (chk_some h).2
     refine ALW_val (AVal_idxVM (f := cI) (l := x2.free.getD i1.toNat []) (i := 0) Try.underlying22 Try.sizeOf3 rfl rfl rfl hb6) <| ALW_val (AVal_loadV1M (f := cI) (l := x2.free.getD i1.toNat []) (i := 0) (c := 0) (a := (li (at_ (x2.free.getD i1.toNat []) (0 : Int)))) Try.isAgg3 rfl rfl (by first | rfl | omega) hb6 rfl rfl) <| ALW_val (AVal_assign rfl) <| ALW_nil <| AW_seq <| AW_region ?_
     refine ALW_val (AVal_move rfl) <| ALW_val (AVal_move rfl) <| ALW_val (AVal_field Try.underlying46 rfl rfl Try.sizeOf44 rfl) <| ALW_val (AVal_idxA (m := 5) (s := 1) (i := i1) (k := 3) (o := 5) Try.underlying44 Try.sizeOf22 rfl rfl hb4) <| ALW_val (AVal_loadM (k := 3) (o := (5 + i1.toNat * 1)) (cs := ([(li x2.node)] ++ ([(li x2.kind)] ++ ([(li x2.start)] ++ ([(li x2.count)] ++ ([(li x2.min)] ++ ((List.set (cM 5 3 (5 : Int) x2.free) i1.toNat (AV.hd 4)) ++ []))))))) (hd := ([(li x2.node)] ++ [(li x2.kind)] ++ [(li x2.start)] ++ [(li x2.count)] ++ [(li x2.min)] ++ [])) (tl := ([])) (s := (cM 5 3 (5 : Int) x2.free)) (i := i1) (j := 4) Try.isAgg22 rfl rfl rfl (congrArg (fun q => 5 + q) (Nat.mul_one _)) (blt_cM hb4)) <| ALW_rep (Rep_frzL (j := 4) (ds := [48, 55]) (rows' := List.map cI (x2.free.getD i1.toNat [])) rfl (frzR_map (fun _ => rfl)) ⟨rfl, rfl, trivial⟩) ?_
     have hb7 := (chk_some h).1
     replace h := (chk_some h).2
     refine ALW_val (AVal_cutL (lo := 1) (f := cI) (l := x2.free.getD i1.toNat []) Try.underlying22 Try.sizeOf3 (fun _ => rfl) rfl rfl hb7) <| ALW_val (AVal_field Try.underlying46 rfl rfl Try.sizeOf44 rfl) <| ALW_val (AVal_idxA (m := 5) (s := 1) (i := i1) (k := 3) (o := 5) Try.underlying44 Try.sizeOf22 rfl rfl hb4) ?_
     have hb8 := (chk_some h).1
     replace h := (chk_some h).2
     refine ALW_act (H' := [.box 46 (cZone a_p0), .box 46 ([(li 0)] ++ ([(li 0)] ++ ([(li 0)] ++ ([(li 0)] ++ ([(li 0)] ++ ((cA 5 (eS cI) ([] : List Int) (List.replicate 5 ([] : List Int))) ++ [])))))), .dead, .box 46 ([(li x2.node)] ++ ([(li x2.kind)] ++ ([(li x2.start)] ++ ([(li x2.count)] ++ ([(li x2.min)] ++ ((List.set (cM 5 3 (5 : Int) x2.free) i1.toNat (ls cI (cutL (x2.free.getD i1.toNat []) 1 ((x2.free.getD i1.toNat []).length : Int)))) ++ [])))))), .dead]) (AAct_storeM2 (k := 3) (o := (5 + i1.toNat * 1)) (cs := ([(li x2.node)] ++ ([(li x2.kind)] ++ ([(li x2.start)] ++ ([(li x2.count)] ++ ([(li x2.min)] ++ ((List.set (cM 5 3 (5 : Int) x2.free) i1.toNat (AV.hd 4)) ++ []))))))) (hd := ([(li x2.node)] ++ [(li x2.kind)] ++ [(li x2.start)] ++ [(li x2.count)] ++ [(li x2.min)] ++ [])) (tl := ([])) (s := (cM 5 3 (5 : Int) x2.free)) (i := i1) (a := (ls cI (cutL (x2.free.getD i1.toNat []) 1 ((x2.free.getD i1.toNat []).length : Int)))) Try.sizeOf22 rfl rfl rfl (congrArg (fun q => 5 + q) (Nat.mul_one _)) (blt_cM hb4) rfl rfl) <| ALW_nil ?_
     refine AW_seqJ (fun e' H' => ∃ (l1 : List (List Int)), Rep 90 0 e' H' (mkE [(4, (AV.ptr 0 0)), (9, (AV.ptr 1 0)), (10, (li (at_ (x2.free.getD i1.toNat []) (0 : Int))))]) [.box 46 ([(li 0)] ++ ([(li 0)] ++ ([(li 0)] ++ ([(li 0)] ++ ([(li 0)] ++ ((cA 5 (eS cI) ([] : List Int) (List.replicate 5 ([] : List Int))) ++ [])))))), .box 46 ([(li x2.node)] ++ ([(li x2.kind)] ++ ([(li x2.start)] ++ ([(li x2.count)] ++ ([(li x2.min)] ++ ((cM 5 3 i1 l1) ++ []))))))] ∧ buddy_Alloc_j1 i1 x2 l1 = some r) ?_ ?_
     ·
      refine AW_block <| AW_loop (σ := Nat × Int × (List (List Int))) (fun s => s.1) (fun s e' H' => match s with | (n0, i2, l2) => Rep 90 0 e' H' (mkE [(1, (li a_p1)), (4, (AV.ptr 0 0)), (8, (li i2)), (9, (AV.ptr 1 0)), (10, (li (at_ (x2.free.getD i1.toNat []) (0 : Int))))]) [.box 46 ([(li 0)] ++ ([(li 0)] ++ ([(li 0)] ++ ([(li 0)] ++ ([(li 0)] ++ ((cA 5 (eS cI) ([] : List Int) (List.replicate 5 ([] : List Int))) ++ [])))))), .box 46 ([(li x2.node)] ++ ([(li x2.kind)] ++ ([(li x2.start)] ++ ([(li x2.count)] ++ ([(li x2.min)] ++ ((cM 5 3 i1 l2) ++ []))))))] ∧ buddy_Alloc_l0 a_p1 i1 x2 n0 i2 l2 = some r) (FUEL, i1, (setA 5 [] x2.free i1.toNat (cutL (x2.free.getD i1.toNat []) 1 ((x2.free.getD i1.toNat []).length : Int)))) ⟨Rep.trans (Rep_frzMi (l' := cutL (x2.free.getD i1.toNat []) 1 ((x2.free.getD i1.toNat []).length : Int)) (k := 3) (cs := ([(li x2.node)] ++ ([(li x2.kind)] ++ ([(li x2.start)] ++ ([(li x2.count)] ++ ([(li x2.min)] ++ ((List.set (cM 5 3 (5 : Int) x2.free) i1.toNat (ls cI (cutL (x2.free.getD i1.toNat []) 1 ((x2.free.getD i1.toNat []).length : Int)))) ++ []))))))) (hd := ([(li x2.node)] ++ [(li x2.kind)] ++ [(li x2.start)] ++ [(li x2.count)] ++ [(li x2.min)] ++ [])) (tl := ([])) (N := 5) (T := 3) (K := 5) (l := x2.free) (i := i1) rfl rfl hb4 hb8) (Rep_perm (n := 90) (m := 0) [1, 3] (l := [(1, (li a_p1)), (4, (AV.ptr 0 0)), (8, (li i1)), (9, (AV.ptr 1 0)), (10, (li (at_ (x2.free.getD i1.toNat []) (0 : Int))))]) ⟨⟨Sub.refl _, by kernel_rfl⟩, ⟨Sub.refl _, by kernel_rfl⟩, ⟨Sub.refl _, by kernel_rfl⟩, ⟨Sub.refl _, by kernel_rfl⟩, ⟨Sub.refl _, by kernel_rfl⟩, trivial⟩ rfl rfl ⟨⟨rfl, by kernel_rfl⟩, ⟨rfl, okR_M (hd := ([(li x2.node)] ++ [(li x2.kind)] ++ [(li x2.start)] ++ [(li x2.count)] ++ [(li x2.min)] ++ [])) (tl := ([])) (N := 5) (T := 3) (K := i1) (l := setA 5 [] x2.free i1.toNat (cutL (x2.free.getD i1.toNat []) 1 ((x2.free.getD i1.toNat []).length : Int))) (by kernel_rfl) (by kernel_rfl) rfl⟩, trivial⟩), h⟩ ?_
      clear h
      rintro ⟨n0, i2, l2⟩ e' H' ⟨hrep, h⟩
      cases n0 with
      | zero => exact absurd (show (none : Option _) = some r from h) (by simp)
      | succ n0 =>
       replace h : buddy_Alloc_b0 a_p1 i1 x2 (buddy_Alloc_l0 a_p1 i1 x2 n0) i2 l2 = some r := h
       unfold buddy_Alloc_b0 at h
       refine AW_rep hrep ?_
       clear hrep
       refine AW_seq <| AW_seq <| AW_region <| ALW_val (AVal_move rfl) <| ALW_val (AVal_move rfl) <| ALW_val (AVal_gtr rfl rfl) ?_
       refine ALW_nil ?_
       refine AW_cond (decide (a_p1 < i2)) rfl (fun hb9 => ?_) (fun hb9 => ?_)
       ·replace h := cnd_t hb9 h
        refine AW_skip <| AW_block <| AW_seq <| AW_region <| ALW_val (AVal_move rfl) ?_
        have hb10 := (chk_some h).1
        replace h := (chk_some h).2
        refine ALW_val (AVal_sub rfl rfl hb10) <| ALW_val (AVal_assign rfl) <| ALW_nil <| AW_seq <| AW_region <| ALW_val (AVal_move rfl) ?_
        refine ALW_val (AVal_move rfl) ?_
        have hb11 := (chk_some h).1
        replace h := (chk_some h).2
        have hb12 := (chk_some h).1
        replace h := (chk_some h).2
        refine ALW_val (AVal_shl (a := 1) (b := i2 - 1) rfl rfl hb11 hb12) ?_
        have hb13 := (chk_some h).1
        replace h := (chk_some h).2
        refine ALW_val (AVal_add rfl rfl hb13) <| ALW_val (AVal_assign rfl) <| ALW_nil <| AW_seq <| AW_region <| ALW_val (AVal_move rfl) ?_
        refine ALW_val (AVal_field Try.underlying46 rfl rfl Try.sizeOf44 rfl) ?_
        have hb14 := (chk_some h).1
        replace h := (chk_some h).2
        refine ALW_val (AVal_idxA (m := 5) (s := 1) (i := i2 - 1) (k := 1) (o := 5) Try.underlying44 Try.sizeOf22 rfl rfl hb14) ?_
        have hb15 := (chk_some h).1
        replace h := (chk_some h).2
        refine ALW_rep (Rep_openM (k := 1) (cs := ([(li x2.node)] ++ ([(li x2.kind)] ++ ([(li x2.start)] ++ ([(li x2.count)] ++ ([(li x2.min)] ++ ((cM 5 3 i1 l2) ++ []))))))) (hd := ([(li x2.node)] ++ [(li x2.kind)] ++ [(li x2.start)] ++ [(li x2.count)] ++ [(li x2.min)] ++ [])) (tl := ([])) (N := 5) (T := 3) (K := i1) (l := l2) (i := i2 - 1) rfl rfl hb14 hb15) <| ALW_val (AVal_loadM (k := 1) (o := (5 + (i2 - 1).toNat * 1)) (cs := ([(li x2.node)] ++ ([(li x2.kind)] ++ ([(li x2.start)] ++ ([(li x2.count)] ++ ([(li x2.min)] ++ ((List.set (cM 5 3 i1 l2) (i2 - 1).toNat (AV.hd 2)) ++ []))))))) (hd := ([(li x2.node)] ++ [(li x2.kind)] ++ [(li x2.start)] ++ [(li x2.count)] ++ [(li x2.min)] ++ [])) (tl := ([])) (s := (cM 5 3 i1 l2)) (i := i2 - 1) (j := 2) Try.isAgg22 rfl rfl rfl (congrArg (fun q => 5 + q) (Nat.mul_one _)) (blt_cM hb14)) <| ALW_val (AVal_move rfl) ?_
        refine bnd_elim h ?_; clear h; intro x3 hx3 h
        refine ALW_callE (r' := (AV.tup [(li x3.1), (AV.lit (.bool x3.2))])) (la := [(AV.hd 2), (li ((at_ (x2.free.getD i1.toNat []) (0 : Int)) + ((1 : Int) * 2 ^ (i2 - 1).toNat)))]) (la' := [(ls cI (l2.getD (i2 - 1).toNat [])), (li ((at_ (x2.free.getD i1.toNat []) (0 : Int)) + ((1 : Int) * 2 ^ (i2 - 1).toNat)))]) (r := (AV.tup [(li x3.1), (AV.lit (.bool x3.2))])) (S := [2]) Try.func63 rfl (by kernel_rfl) (.fn 63) rfl ⟨View_hdM (fun _ => rfl) rfl rfl, View.nr rfl, trivial⟩ (slices_BinarySearch_Lint_int_ok hx3) (.inr rfl) rfl <| ALW_val (AVal_move rfl) <| ALW_val (AVal_extract rfl rfl) <| ALW_val (AVal_extract rfl rfl) <| ALW_val (AVal_assign rfl) <| ALW_val (AVal_assign rfl) ?_
        refine ALW_nil <| AW_region <| ALW_val (AVal_move rfl) <| ALW_val (AVal_move rfl) <| ALW_val (AVal_field Try.underlying46 rfl rfl Try.sizeOf44 rfl) <| ALW_val (AVal_idxA (m := 5) (s := 1) (i := i2 - 1) (k := 1) (o := 5) Try.underlying44 Try.sizeOf22 rfl rfl hb14) ?_
        refine ALW_val (AVal_loadM (k := 1) (o := (5 + (i2 - 1).toNat * 1)) (cs := ([(li x2.node)] ++ ([(li x2.kind)] ++ ([(li x2.start)] ++ ([(li x2.count)] ++ ([(li x2.min)] ++ ((List.set (cM 5 3 i1 l2) (i2 - 1).toNat (AV.hd 2)) ++ []))))))) (hd := ([(li x2.node)] ++ [(li x2.kind)] ++ [(li x2.start)] ++ [(li x2.count)] ++ [(li x2.min)] ++ [])) (tl := ([])) (s := (cM 5 3 i1 l2)) (i := i2 - 1) (j := 2) Try.isAgg22 rfl rfl rfl (congrArg (fun q => 5 + q) (Nat.mul_one _)) (blt_cM hb14)) <| ALW_val (AVal_move rfl) <| ALW_val (AVal_move rfl) <| ALW_lit1 (a := (li ((at_ (x2.free.getD i1.toNat []) (0 : Int)) + ((1 : Int) * 2 ^ (i2 - 1).toNat)))) elem3 Try.underlying22 rfl rfl rfl rfl ?_
        have hb16 := (chk_some h).1
        replace h := (chk_some h).2
        refine ALW_insert (k := 2) (j := 3) (l := l2.getD (i2 - 1).toNat []) (i := x3.1) (q := (at_ (x2.free.getD i1.toNat []) (0 : Int)) + ((1 : Int) * 2 ^ (i2 - 1).toNat)) (fun a b c d e => insertP a b c d e) Try.func83 rfl (by kernel_rfl) rfl rfl rfl rfl rfl rfl hb16 <| ALW_val (AVal_field Try.underlying46 rfl rfl Try.sizeOf44 rfl) <| ALW_val (AVal_idxA (m := 5) (s := 1) (i := i2 - 1) (k := 1) (o := 5) Try.underlying44 Try.sizeOf22 rfl rfl hb14) <| ALW_act (H' := [.box 46 ([(li 0)] ++ ([(li 0)] ++ ([(li 0)] ++ ([(li 0)] ++ ([(li 0)] ++ ((cA 5 (eS cI) ([] : List Int) (List.replicate 5 ([] : List Int))) ++ [])))))), .box 46 ([(li x2.node)] ++ ([(li x2.kind)] ++ ([(li x2.start)] ++ ([(li x2.count)] ++ ([(li x2.min)] ++ ((List.set (cM 5 3 i1 l2) (i2 - 1).toNat (AV.hd 4)) ++ [])))))), .dead, .vec 3 1 (List.map cI [(at_ (x2.free.getD i1.toNat []) (0 : Int)) + ((1 : Int) * 2 ^ (i2 - 1).toNat)]), .vec 3 1 (List.map cI (insL (l2.getD (i2 - 1).toNat []) x3.1 ((at_ (x2.free.getD i1.toNat []) (0 : Int)) + ((1 : Int) * 2 ^ (i2 - 1).toNat))))]) (AAct_storeM2 (k := 1) (o := (5 + (i2 - 1).toNat * 1)) (cs := ([(li x2.node)] ++ ([(li x2.kind)] ++ ([(li x2.start)] ++ ([(li x2.count)] ++ ([(li x2.min)] ++ ((List.set (cM 5 3 i1 l2) (i2 - 1).toNat (AV.hd 2)) ++ []))))))) (hd := ([(li x2.node)] ++ [(li x2.kind)] ++ [(li x2.start)] ++ [(li x2.count)] ++ [(li x2.min)] ++ [])) (tl := ([])) (s := (cM 5 3 i1 l2)) (i := i2 - 1) (a := (AV.hd 4)) Try.sizeOf22 rfl rfl rfl (congrArg (fun q => 5 + q) (Nat.mul_one _)) (blt_cM hb14) rfl rfl) <| ALW_nil ?_
        exact ⟨(n0, (i2 - 1), (setA 5 [] l2 (i2 - 1).toNat (insL (l2.getD (i2 - 1).toNat []) x3.1 ((at_ (x2.free.getD i1.toNat []) (0 : Int)) + ((1 : Int) * 2 ^ (i2 - 1).toNat))))), Nat.lt_succ_self _, Rep.trans (Rep_closeM (j := 4) (l' := insL (l2.getD (i2 - 1).toNat []) x3.1 ((at_ (x2.free.getD i1.toNat []) (0 : Int)) + ((1 : Int) * 2 ^ (i2 - 1).toNat))) (k := 1) (cs := ([(li x2.node)] ++ ([(li x2.kind)] ++ ([(li x2.start)] ++ ([(li x2.count)] ++ ([(li x2.min)] ++ ((List.set (cM 5 3 i1 l2) (i2 - 1).toNat (AV.hd 4)) ++ []))))))) (hd := ([(li x2.node)] ++ [(li x2.kind)] ++ [(li x2.start)] ++ [(li x2.count)] ++ [(li x2.min)] ++ [])) (tl := ([])) (N := 5) (T := 3) (K := i1) (l := l2) (i := i2 - 1) rfl rfl hb14 hb15 rfl rfl) (Rep_perm (n := 90) (m := 0) [0, 1] (l := [(1, (li a_p1)), (4, (AV.ptr 0 0)), (8, (li (i2 - 1))), (9, (AV.ptr 1 0)), (10, (li (at_ (x2.free.getD i1.toNat []) (0 : Int))))]) ⟨⟨Sub.refl _, by kernel_rfl⟩, ⟨Sub.refl _, by kernel_rfl⟩, ⟨Sub.refl _, by kernel_rfl⟩, ⟨Sub.refl _, by kernel_rfl⟩, ⟨Sub.refl _, by kernel_rfl⟩, trivial⟩ rfl rfl ⟨⟨rfl, by kernel_rfl⟩, ⟨rfl, okR_M (hd := ([(li x2.node)] ++ [(li x2.kind)] ++ [(li x2.start)] ++ [(li x2.count)] ++ [(li x2.min)] ++ [])) (tl := ([])) (N := 5) (T := 3) (K := i1) (l := setA 5 [] l2 (i2 - 1).toNat (insL (l2.getD (i2 - 1).toNat []) x3.1 ((at_ (x2.free.getD i1.toNat []) (0 : Int)) + ((1 : Int) * 2 ^ (i2 - 1).toNat)))) (by kernel_rfl) (by kernel_rfl) rfl⟩, trivial⟩), h⟩
       ·replace h := cnd_f hb9 h
        refine AW_exit ?_
        exact ⟨l2, Rep_perm (n := 90) (m := 0) [0, 1] (l := [(4, (AV.ptr 0 0)), (9, (AV.ptr 1 0)), (10, (li (at_ (x2.free.getD i1.toNat []) (0 : Int))))]) ⟨⟨Sub.refl _, by kernel_rfl⟩, ⟨Sub.refl _, by kernel_rfl⟩, ⟨Sub.refl _, by kernel_rfl⟩, trivial⟩ rfl rfl ⟨⟨rfl, by kernel_rfl⟩, ⟨rfl, okR_M (hd := ([(li x2.node)] ++ [(li x2.kind)] ++ [(li x2.start)] ++ [(li x2.count)] ++ [(li x2.min)] ++ [])) (tl := ([])) (N := 5) (T := 3) (K := i1) (l := l2) (by kernel_rfl) (by kernel_rfl) rfl⟩, trivial⟩, h⟩
     ·
      clear h
      rintro e' H' ⟨l1, hrep, h⟩
      refine AW_rep hrep ?_
      clear hrep
      unfold buddy_Alloc_j1 at h
      refine AW_seq <| AW_region <| ALW_rep (Rep_frzM0 (k := 1) (cs := ([(li x2.node)] ++ ([(li x2.kind)] ++ ([(li x2.start)] ++ ([(li x2.count)] ++ ([(li x2.min)] ++ ((cM 5 3 i1 l1) ++ []))))))) (hd := ([(li x2.node)] ++ [(li x2.kind)] ++ [(li x2.start)] ++ [(li x2.count)] ++ [(li x2.min)] ++ [])) (tl := ([])) (N := 5) (T := 3) (K := i1) (l := l1) rfl rfl) <| ALW_val (AVal_loadA (k := 1) (o := 0) (m := 10) Try.isAgg46 Try.sizeOf46 rfl rfl rfl rfl rfl) <| ALW_val (AVal_move rfl) <| ALW_act (H' := [.box 46 (cZone (⟨x2.node, x2.kind, x2.start, x2.count, x2.min, l1⟩ : Zone)), .box 46 ([(li x2.node)] ++ ([(li x2.kind)] ++ ([(li x2.start)] ++ ([(li x2.count)] ++ ([(li x2.min)] ++ ((cA 5 (eS cI) ([] : List Int) l1) ++ []))))))]) (AAct_storeA (k := 0) (o := 0) (cs := ([(li 0)] ++ ([(li 0)] ++ ([(li 0)] ++ ([(li 0)] ++ ([(li 0)] ++ ((cA 5 (eS cI) ([] : List Int) (List.replicate 5 ([] : List Int))) ++ []))))))) (la := (cZone (⟨x2.node, x2.kind, x2.start, x2.count, x2.min, l1⟩ : Zone))) Try.sizeOf46 rfl rfl rfl rfl) ?_
      refine ALW_val (AVal_assign rfl) <| ALW_val (AVal_assign rfl) <| ALW_nil <| AW_ret ?_
      show RetP _ _ _ _ _ _
      obtain rfl := Option.some.inj h
      exact RetP_3 (R1_A Try.isAgg46 Try.sizeOf46 rfl rfl rfl rfl) (R1_E rfl rfl) (R1_E rfl rfl) rfl
theorem percpu_check_ok {a_c : CpuCache} {a_zone : Int} {r : Int} (h : percpu_check a_c a_zone = some r) : PFn Try.prog 79 [(AV.agg (cCpuCache a_c)), (li a_zone)] (li r) := by
 refine PFn_enter Try.func79 rfl Try.ntmps79 Try.results79 rfl ?_
 unfold percpu_check at h
 refine AW_seq <| AW_region <| ALW_step (H' := [.box 50 (cCpuCache a_c)]) (AStep_boxA (t := 50) rfl) <| ALW_val (AVal_assign rfl) <| ALW_nil <| AW_seq ?_
 refine AW_seq <| AW_region <| ALW_val (AVal_loadA (k := 0) (o := 0) (m := 1) Try.isAgg50 Try.sizeOf50 rfl rfl rfl rfl rfl) <| ALW_val (AVal_field Try.underlying50 rfl rfl Try.sizeOf48 rfl) <| ALW_val (AVal_load1 Try.isAgg48 rfl rfl rfl rfl) <| ALW_val (AVal_lenM Try.underlying48 rfl) ?_
 refine bnd_elim h ?_; clear h; intro x1 hx1 h
 refine ALW_callN Try.func37 rfl (by kernel_rfl) (.fn 37) rfl rfl (percpu_Check_ok hx1) rfl <| ALW_val (AVal_assign rfl) <| ALW_nil <| AW_seq <| AW_region <| ALW_val (AVal_move rfl) ?_
 refine ALW_val (AVal_neq rfl rfl) <| ALW_nil ?_
 refine AW_cond (!decide (x1 = 0)) rfl (fun hb1 => ?_) (fun hb1 => ?_)
 ·replace h := cnd_t hb1 h
  refine AW_seq <| AW_region <| ALW_val (AVal_move rfl) <| ALW_val (AVal_assign rfl) <| ALW_nil <| AW_ret ?_
  show RetP _ _ _ _ _ _
  obtain rfl := Option.some.inj h
  exact RetP_1 (R1_E rfl rfl)
 ·replace h := cnd_f hb1 h
  refine AW_skip <| AW_seq <| AW_seq <| AW_region <| ALW_val (AVal_move rfl) <| ALW_val (AVal_lss rfl rfl) ?_
  refine ALW_val (AVal_move rfl) <| ALW_g0 rfl rfl (fun hc1 => AVal.step (AVal_move rfl)) <| ALW_g0 rfl rfl (fun hc2 => AVal.step (AVal_field Try.underlying50 rfl rfl Try.sizeOf48 rfl)) <| ALW_g0 rfl rfl (fun hc3 => AVal.step (AVal_load1 Try.isAgg48 (gd_t rfl hc3) rfl rfl rfl)) <| ALW_g0 rfl rfl (fun hc4 => AVal.step (AVal_lenM Try.underlying48 (gd_t rfl hc4))) <| ALW_g0 rfl rfl (fun hc5 => AVal.step (AVal_geq (gd_t rfl hc5) (gd_t rfl hc5))) ?_
  refine ALW_val (AVal_pick_or rfl rfl) <| ALW_nil ?_
  refine AW_cond ((decide (a_zone < 0)) || (decide ((a_c.lists.length : Int) ≤ a_zone))) rfl (fun hb2 => ?_) (fun hb2 => ?_)
  ·replace h := cnd_t hb2 h
   refine AW_seq <| AW_region <| ALW_val (AVal_assign rfl) <| ALW_nil <| AW_ret ?_
   show RetP _ _ _ _ _ _
   obtain rfl := Option.some.inj h
   exact RetP_1 (R1_E rfl rfl)
  ·replace h := cnd_f hb2 h
   refine AW_skip <| AW_seq <| AW_region <| ALW_val (AVal_assign rfl) <| ALW_nil <| AW_ret ?_
   show RetP _ _ _ _ _ _
   obtain rfl := Option.some.inj h
   exact RetP_1 (R1_E rfl rfl)
theorem percpu_replace_ok {a_c : CpuCache} {a_zone : Int} {a_l : List Int} {r : CpuCache} (h : percpu_replace a_c a_zone a_l = some r) : PFn Try.prog 80 [(AV.agg (cCpuCache a_c)), (li a_zone), (ls cI a_l)] (AV.agg (cCpuCache r)) := by
 refine PFn_enter Try.func80 rfl Try.ntmps80 Try.results80 rfl ?_
 unfold percpu_replace at h
 refine AW_seq <| AW_region <| ALW_step (H' := [.box 50 (cCpuCache a_c)]) (AStep_boxA (t := 50) rfl) <| ALW_step (H' := [.box 50 (cCpuCache a_c), .box 50 ([(ls (cS cI) ([] : List (List Int)))] ++ [])]) (AStep_alloc (t := 50) (vs := [.slice none 0 0]) (cs := [.sl false []]) Try.zeroValue50 (by kernel_rfl) rfl ⟨SubF.nils, trivial⟩) <| ALW_nil <| AW_seq ?_
 refine AW_region <| ALW_val (AVal_field Try.underlying50 rfl rfl Try.sizeOf48 rfl) <| ALW_val (AVal_load1 Try.isAgg48 rfl rfl rfl rfl) <| ALW_val (AVal_lenM Try.underlying48 rfl) ?_
 have hb1 := (chk_some h).1
 replace h := (chk_some h).2
 refine ALW_makeM (f := (cS cI)) (a := (a_c.lists.length : Int)) (c := (a_c.lists.length : Int)) (d0 := ([] : List Int)) elem22 ⟨SubF.nils, trivial⟩ rfl Try.underlying48 rfl rfl hb1 <| ALW_val (AVal_build (pl := [(0, 1)]) (zs := [.slice none 0 0]) (zc := [.sl false []]) (res := ([AV.hd 2] ++ [])) (fun _ => by kernel_rfl) rfl (⟨SubF.nils, trivial⟩) ⟨(AV.hd 2), 0, 1, rfl, rfl, rfl, rfl, rfl, (by exact SubL.refl _)⟩) <| ALW_step (H' := [.box 50 (cCpuCache a_c), .box 50 ([(ls (cS cI) ([] : List (List Int)))] ++ []), .vec 22 1 (List.map (cS cI) (List.replicate (a_c.lists.length : Int).toNat ([] : List Int))), .box 50 ([(ls (cS cI) ([] : List (List Int)))] ++ [])]) (AStep_alloc (t := 50) (vs := [.slice none 0 0]) (cs := [.sl false []]) Try.zeroValue50 (by kernel_rfl) rfl ⟨SubF.nils, trivial⟩) <| ALW_act (H' := [.box 50 (cCpuCache a_c), .box 50 ([(ls (cS cI) ([] : List (List Int)))] ++ []), .vec 22 1 (List.map (cS cI) (List.replicate (a_c.lists.length : Int).toNat ([] : List Int))), .box 50 ([AV.hd 2] ++ [])]) (AAct_storeA (k := 3) (o := 0) (cs := ([(ls (cS cI) ([] : List (List Int)))] ++ [])) (la := ([AV.hd 2] ++ [])) Try.sizeOf50 rfl rfl rfl rfl) <| ALW_nil ?_
 refine AW_seqJ (fun e' H' => ∃ (l1 : List (List Int)), Rep 46 0 e' H' (mkE [(6, (AV.ptr 0 0)), (7, (AV.ptr 1 0))]) [.box 50 ([(ls (cS cI) ([] : List (List Int)))] ++ []), .box 50 ([AV.osl 22 1 (List.map (cS cI) l1)] ++ [])] ∧ percpu_replace_j0 l1 = some r) ?_ ?_
 ·
  refine AW_seq <| AW_region <| ALW_val (AVal_field Try.underlying50 rfl rfl Try.sizeOf48 rfl) <| ALW_val (AVal_load1 Try.isAgg48 rfl rfl rfl rfl) <| ALW_val (AVal_lenM Try.underlying48 rfl) <| ALW_val (AVal_move rfl) ?_
  refine ALW_nil <| AW_block <| AW_loop (σ := Nat × Int × (List (List Int))) (fun s => s.1) (fun s e' H' => match s with | (n0, i1, l2) => Rep 46 0 e' H' (mkE [(1, (li a_zone)), (2, (ls cI a_l)), (3, (AV.ptr 0 0)), (6, (AV.ptr 1 0)), (7, (AV.ptr 2 0)), (17, (li (a_c.lists.length : Int))), (18, (li i1))]) [.box 50 (cCpuCache a_c), .box 50 ([(ls (cS cI) ([] : List (List Int)))] ++ []), .box 50 ([AV.osl 22 1 (List.map (cS cI) l2)] ++ [])] ∧ percpu_replace_l0 a_c a_zone a_l n0 i1 l2 = some r) (FUEL, 0, (List.replicate (a_c.lists.length : Int).toNat ([] : List Int))) ⟨Rep.trans (Rep_close (k := 3) (j := 2) (o := 0) rfl rfl rfl rfl) (RepP [0, 1, 3] (l := [(1, (li a_zone)), (2, (ls cI a_l)), (3, (AV.ptr 0 0)), (6, (AV.ptr 1 0)), (7, (AV.ptr 2 0)), (17, (li (a_c.lists.length : Int))), (18, (li 0))]) rfl rfl (by kernel_rfl)), h⟩ ?_
  clear h
  rintro ⟨n0, i1, l2⟩ e' H' ⟨hrep, h⟩
  cases n0 with
  | zero => exact absurd (show (none : Option _) = some r from h) (by simp)
  | succ n0 =>
   replace h : percpu_replace_b0 a_c a_zone a_l (percpu_replace_l0 a_c a_zone a_l n0) i1 l2 = some r := h
   unfold percpu_replace_b0 at h
   refine AW_rep hrep ?_
   clear hrep
   refine AW_seq <| AW_region <| ALW_val (AVal_lss rfl rfl) <| ALW_nil <| AW_seq ?_
   refine AW_cond (decide (i1 < (a_c.lists.length : Int))) rfl (fun hb2 => ?_) (fun hb2 => ?_)
   ·replace h := cnd_t hb2 h
    refine AW_skip <| AW_seq <| AW_block <| AW_seq <| AW_region <| ALW_val (AVal_move rfl) ?_
    refine ALW_val (AVal_assign rfl) <| ALW_nil <| AW_seq <| AW_region <| ALW_val (AVal_field Try.underlying50 rfl rfl Try.sizeOf48 rfl) <| ALW_val (AVal_load1 Try.isAgg48 rfl rfl rfl rfl) ?_
    refine ALW_val (AVal_move rfl) ?_
    have hb3 := (chk_some h).1
    replace h := (chk_some h).2
    refine ALW_val (AVal_idxSM Try.underlying48 Try.sizeOf22 (fun _ => rfl) rfl rfl hb3) <| ALW_val (AVal_loadR1 (o := 0) Try.isAgg22 rfl rfl) <| ALW_val (AVal_assign rfl) <| ALW_nil ?_
    refine AW_seqJ (fun e' H' => ∃ (d1 : List Int), Rep 46 0 e' H' (mkE [(1, (li a_zone)), (2, (ls cI a_l)), (3, (AV.ptr 0 0)), (6, (AV.ptr 1 0)), (7, (AV.ptr 2 0)), (8, (li i1)), (9, (ls cI d1)), (17, (li (a_c.lists.length : Int))), (18, (li i1))]) [.box 50 (cCpuCache a_c), .box 50 ([(ls (cS cI) ([] : List (List Int)))] ++ []), .box 50 ([AV.osl 22 1 (List.map (cS cI) l2)] ++ [])] ∧ percpu_replace_j1 (percpu_replace_l0 a_c a_zone a_l n0) i1 l2 d1 = some r) ?_ ?_
    ·
     refine AW_seq <| AW_region <| ALW_val (AVal_move rfl) <| ALW_val (AVal_move rfl) <| ALW_val (AVal_eql rfl rfl) <| ALW_nil ?_
     refine AW_cond (decide (i1 = a_zone)) rfl (fun hb7 => ?_) (fun hb7 => ?_)
     ·replace h := cnd_t hb7 h
      refine AW_region <| ALW_val (AVal_move rfl) <| ALW_val (AVal_assign rfl) <| ALW_nil ?_
      exact ⟨a_l, RepP [0, 1, 2] rfl rfl (by kernel_rfl), h⟩
     ·replace h := cnd_f hb7 h
      refine AW_skip ?_
      exact ⟨(at_ a_c.lists i1), RepP [0, 1, 2] rfl rfl (by kernel_rfl), h⟩
    ·
     clear h
     rintro e' H' ⟨d1, hrep, h⟩
     refine AW_rep hrep ?_
     clear hrep
     unfold percpu_replace_j1 at h
     refine AW_seq <| AW_rep (Rep_open (k := 2) (o := 0) (t' := 22) (sz := 1) (rows := List.map (cS cI) l2) rfl rfl) ?_
     have hb4 := (chk_some h).1
     replace h := (chk_some h).2
     have hb5 := (chk_some h).1
     replace h := (chk_some h).2
     show AW _ _ _ _ _ _ [.box 50 (cCpuCache a_c), .box 50 ([(ls (cS cI) ([] : List (List Int)))] ++ []), .box 50 ([AV.hd 3] ++ []), .vec 22 1 (List.map (cS cI) l2)]
     refine AW_draw (n := 46) (m := 0) [.head 0 1, .head 0 1, .head 0 1, .head 0 0, .head 0 0, .tail 0, .head 1 1, .tail 1] [5, 7] [(AV.ptr 2 0), (AV.hd 3), (li i1), (ls cI d1), (li (d1.length : Int)), (AV.hd 4), (AV.ptr 3 (i1.toNat * 1)), .any] [[.box 50 (cCpuCache a_c), .box 50 ([(ls (cS cI) ([] : List (List Int)))] ++ []), .box 50 ([AV.hd 3] ++ []), .vec 22 1 (List.map (cS cI) l2)], [.box 50 (cCpuCache a_c), .box 50 ([(ls (cS cI) ([] : List (List Int)))] ++ []), .box 50 ([AV.hd 3] ++ []), .vec 22 1 (List.map (cS cI) l2), .vec 3 1 (List.map cI (List.replicate (d1.length : Int).toNat 0))], [.box 50 (cCpuCache a_c), .box 50 ([(ls (cS cI) ([] : List (List Int)))] ++ []), .box 50 ([AV.hd 3] ++ []), .vopen 22 1 (List.map (cS cI) l2) i1.toNat [.hd 4], .vec 3 1 (List.map cI (List.replicate (d1.length : Int).toNat 0))]] (by kernel_rfl) (by kernel_rfl) ⟨⟨?_, ?_⟩, ⟨?_, ?_⟩, ⟨?_, ?_⟩, ?_, ?_, ?_, ?_, ?_, trivial⟩ ?_
     ·exact fun e s p => ALW1 (AVal_field (k := 2) (o := 0) (off := 0) Try.underlying50 rfl rfl Try.sizeOf48 (s 7 rfl)) ⟨fun _ => rfl, rfl⟩
     ·exact fun e s p => ALW1 (AVal_field (k := 2) (o := 0) (off := 0) Try.underlying50 rfl rfl Try.sizeOf48 (s 7 rfl)) ⟨fun _ => rfl, rfl⟩
     ·exact fun e s p => ALW1 (AVal_load1 (k := 2) (o := 0) (a := (AV.hd 3)) Try.isAgg48 p.1 rfl rfl rfl) ⟨fun _ => rfl, rfl⟩
     ·exact fun e s p => ALW1 (AVal_load1 (k := 2) (o := 0) (a := (AV.hd 3)) Try.isAgg48 p.1 rfl rfl rfl) ⟨fun _ => rfl, rfl⟩
     ·exact fun e s p => ALW1 (AVal_move (av := (li i1)) (s 8 rfl)) ⟨fun _ => rfl, rfl⟩
     ·exact fun e s p => ALW1 (AVal_move (av := (li i1)) (s 8 rfl)) ⟨fun _ => rfl, rfl⟩
     ·exact fun e s p => ALW1 (AVal_move (av := (ls cI d1)) (s 9 rfl)) ⟨fun _ => rfl, rfl⟩
     ·exact fun e s p => ALW1 (AVal_lenM (f := cI) (l := d1) Try.underlying22 p.1) ⟨fun _ => rfl, rfl⟩
     ·
      intro e9 hs9 hp9
      refine ALW_makeM (f := cI) (a := (d1.length : Int)) (c := (d1.length : Int)) (d0 := 0) elem3 ⟨SubF.refl _, trivial⟩ rfl Try.underlying22 hp9.2.1 hp9.2.1 hb4 ?_
      exact ALW_nil ⟨fun _ => rfl, rfl⟩
     ·exact fun e s p => ALW1 (AVal_idxVM (f := (cS cI)) (l := l2) (i := i1) Try.underlying48 Try.sizeOf22 p.2.2.2.1 rfl p.2.2.2.2.1 hb5) ⟨fun _ => rfl, rfl⟩
     ·
      intro e11 hs11 hp11
      refine ALW_act (H' := [.box 50 (cCpuCache a_c), .box 50 ([(ls (cS cI) ([] : List (List Int)))] ++ []), .box 50 ([AV.hd 3] ++ []), .vopen 22 1 (List.map (cS cI) l2) i1.toNat [.hd 4], .vec 3 1 (List.map cI (List.replicate (d1.length : Int).toNat 0))]) (AAct_storeO (k := 3) (j := 4) (i := i1.toNat) Try.sizeOf22 (by exact hp11.1) rfl rfl (by rw [List.length_map]; exact (inb_bd hb5).2) (by exact hp11.2.2.2.2.2.2.2.1) rfl) ?_
      exact ALW_nil ⟨fun _ => rfl, rfl⟩
     intro e12 hs12 hq1
     refine AW_rep (Rep_mk (l := [(1, (li a_zone)), (2, (ls cI a_l)), (3, (AV.ptr 0 0)), (6, (AV.ptr 1 0)), (7, (AV.ptr 2 0)), (8, (li i1)), (9, (ls cI d1)), (17, (li (a_c.lists.length : Int))), (18, (li i1))]) ⟨(hs12 1 rfl), (hs12 2 rfl), (hs12 3 rfl), (hs12 6 rfl), (hs12 7 rfl), (hs12 8 rfl), (hs12 9 rfl), (hs12 17 rfl), (hs12 18 rfl), trivial⟩) <| AW_region <| ALW_val (AVal_field (k := 2) (o := 0) (off := 0) Try.underlying50 rfl rfl Try.sizeOf48 rfl) <| ALW_val (AVal_load1 (k := 2) (o := 0) (a := (AV.hd 3)) Try.isAgg48 rfl rfl rfl rfl) <| ALW_val (AVal_move (av := (li i1)) rfl) <| ALW_val (AVal_idxO (row := []) (i := i1) Try.underlying48 Try.sizeOf22 rfl rfl rfl (by rw [List.length_map]; exact hb5)) ?_
     refine ALW_val (AVal_loadO (k := 3) (i := i1.toNat) (a := .hd 4) Try.isAgg22 rfl rfl rfl rfl) <| ALW_val (AVal_move rfl) <| ALW_step (H' := [.box 50 (cCpuCache a_c), .box 50 ([(ls (cS cI) ([] : List (List Int)))] ++ []), .box 50 ([AV.hd 3] ++ []), .vopen 22 1 (List.map (cS cI) l2) i1.toNat [.hd 4], .vec 3 1 (List.map cI (copyL (List.replicate (d1.length : Int).toNat 0) d1))]) (AStep_copy (f := cI) (k := 4) (l := List.replicate (d1.length : Int).toNat 0) (l2 := d1) Try.underlying22 Try.sizeOf3 (fun _ => rfl) rfl rfl rfl) <| ALW_nil <| AW_region ?_
     have hb6 := (chk_some h).1
     replace h := (chk_some h).2
     refine ALW_val (AVal_add rfl rfl hb6) <| ALW_val (AVal_move rfl) <| ALW_nil ?_
     exact ⟨(n0, (i1 + 1), (l2.set i1.toNat (copyL (List.replicate (d1.length : Int).toNat 0) d1))), Nat.lt_succ_self _, Rep.trans (Rep_vcloseM (k := 3) (j := 4) (f := cI) (l := l2) (l' := copyL (List.replicate (d1.length : Int).toNat 0) d1) (fun _ => rfl) rfl rfl rfl) (Rep.trans (Rep_close (k := 2) (j := 3) (o := 0) rfl rfl rfl rfl) (RepP [0, 1, 2] (l := [(1, (li a_zone)), (2, (ls cI a_l)), (3, (AV.ptr 0 0)), (6, (AV.ptr 1 0)), (7, (AV.ptr 2 0)), (17, (li (a_c.lists.length : Int))), (18, (li (i1 + 1)))]) rfl rfl (by kernel_rfl))), h⟩
   ·replace h := cnd_f hb2 h
    refine AW_exit ?_
    exact ⟨l2, RepP [1, 2] rfl rfl (by kernel_rfl), h⟩
 ·
  clear h
  rintro e' H' ⟨l1, hrep, h⟩
  refine AW_rep hrep ?_
  clear hrep
  unfold percpu_replace_j0 at h
  refine AW_seq <| AW_region <| ALW_rep (Rep_frzC (k := 1) (o := 0) (rows' := List.map (cS cI) l1) rfl rfl (frzR_map (fun _ => rfl))) <| ALW_val (AVal_loadA (k := 1) (o := 0) (m := 1) Try.isAgg50 Try.sizeOf50 rfl rfl rfl rfl rfl) <| ALW_act (H' := [.box 50 (cCpuCache (⟨l1⟩ : CpuCache)), .box 50 ([(ls (cS cI) l1)] ++ [])]) (AAct_storeA (k := 0) (o := 0) (cs := ([(ls (cS cI) ([] : List (List Int)))] ++ [])) (la := (cCpuCache (⟨l1⟩ : CpuCache))) Try.sizeOf50 rfl rfl rfl rfl) <| ALW_nil ?_
  refine AW_ret ?_
  show RetP _ _ _ _ _ _
  obtain rfl := Option.some.inj h
  exact RetP_1 (R1_A Try.isAgg50 Try.sizeOf50 rfl rfl rfl rfl)
theorem percpu_Refill_ok {a_p0 : CpuCache} {a_p1 : Int} {a_p2 : List Int} {r : CpuCache × Int} (h : percpu_Refill a_p0 a_p1 a_p2 = some r) : PFn Try.prog 77 [(AV.agg (cCpuCache a_p0)), (li a_p1), (ls cI a_p2)] (AV.tup [(AV.agg (cCpuCache r.1)), (li r.2)]) := by
 refine PFn_enter Try.func77 rfl Try.ntmps77 Try.results77 rfl ?_
 unfold percpu_Refill at h
 refine AW_seq <| AW_region <| ALW_step (H' := [.box 50 (cCpuCache a_p0)]) (AStep_boxA (t := 50) rfl) <| ALW_step (H' := [.box 50 (cCpuCache a_p0), .box 50 ([(ls (cS cI) ([] : List (List Int)))] ++ [])]) (AStep_alloc (t := 50) (vs := [.slice none 0 0]) (cs := [.sl false []]) Try.zeroValue50 (by kernel_rfl) rfl ⟨SubF.nils, trivial⟩) <| ALW_val (AVal_assign rfl) <| ALW_nil ?_
 refine AW_seq <| AW_seq <| AW_region <| ALW_val (AVal_loadA (k := 0) (o := 0) (m := 1) Try.isAgg50 Try.sizeOf50 rfl rfl rfl rfl rfl) <| ALW_val (AVal_move rfl) ?_
 refine bnd_elim h ?_; clear h; intro x1 hx1 h
 refine ALW_callN Try.func79 rfl (by kernel_rfl) (.fn 79) rfl rfl (percpu_check_ok hx1) rfl <| ALW_val (AVal_assign rfl) <| ALW_nil <| AW_seq <| AW_region <| ALW_val (AVal_move rfl) ?_
 refine ALW_val (AVal_neq rfl rfl) <| ALW_nil ?_
 refine AW_cond (!decide (x1 = 0)) rfl (fun hb1 => ?_) (fun hb1 => ?_)
 ·replace h := cnd_t hb1 h
  refine AW_seq <| AW_region <| ALW_val (AVal_build (pl := [(0, 1)]) (zs := [.slice none 0 0]) (zc := [.sl false []]) (res := (cCpuCache (⟨([] : List (List Int))⟩ : CpuCache))) (fun _ => by kernel_rfl) rfl (⟨SubF.nils, trivial⟩) (by exact SubL.refl _)) <| ALW_val (AVal_move rfl) <| ALW_act (H' := [.box 50 (cCpuCache a_p0), .box 50 (cCpuCache (⟨([] : List (List Int))⟩ : CpuCache))]) (AAct_storeA (k := 1) (o := 0) (cs := ([(ls (cS cI) ([] : List (List Int)))] ++ [])) (la := (cCpuCache (⟨([] : List (List Int))⟩ : CpuCache))) Try.sizeOf50 rfl rfl rfl rfl) <| ALW_val (AVal_assign rfl) ?_
  refine ALW_nil <| AW_ret ?_
  show RetP _ _ _ _ _ _
  obtain rfl := Option.some.inj h
  exact RetP_2 (R1_A Try.isAgg50 Try.sizeOf50 rfl rfl rfl rfl) (R1_E rfl rfl) rfl
 ·replace h := cnd_f hb1 h
  refine AW_skip <| AW_seq <| AW_region <| ALW_val (AVal_loadA (k := 0) (o := 0) (m := 1) Try.isAgg50 Try.sizeOf50 rfl rfl rfl rfl rfl) ?_
  refine bnd_elim h ?_; clear h; intro x2 hx2 h
  refine ALW_callM (es := mI Value.bool x2) (la := [(AV.agg (cCpuCache a_p0))]) (la' := [(AV.agg (cCpuCache a_p0))]) (S := []) Try.func65 rfl (by kernel_rfl) (.fn 65) rfl ⟨View.nr rfl, trivial⟩ (percpu_frames_ok hx2) <| ALW_val (AVal_assign rfl) <| ALW_nil ?_
  refine AW_seqJ (fun e' H' => Rep 75 0 e' H' (mkE [(1, (li a_p1)), (2, (ls cI a_p2)), (3, (AV.ptr 0 0)), (6, (AV.ptr 1 0))]) [.box 50 (cCpuCache a_p0), .box 50 ([(ls (cS cI) ([] : List (List Int)))] ++ [])] ∧ percpu_Refill_j0 a_p0 a_p1 a_p2 = some r) ?_ ?_
  ·
   refine AW_seq <| AW_region <| ALW_val (AVal_move rfl) <| ALW_val (AVal_lenM Try.underlying22 rfl) <| ALW_val (AVal_move rfl) <| ALW_nil ?_
   refine AW_block <| AW_loop (σ := Nat × Int × (List (Int × Bool))) (fun s => s.1) (fun s e' H' => match s with | (n1, i2, l3) => Rep 75 0 e' H' (mkE [(1, (li a_p1)), (2, (ls cI a_p2)), (3, (AV.ptr 0 0)), (6, (AV.ptr 1 0)), (9, (AV.hd 2)), (23, (ls cI a_p2)), (24, (li (a_p2.length : Int))), (25, (li i2))]) [.box 50 (cCpuCache a_p0), .box 50 ([(ls (cS cI) ([] : List (List Int)))] ++ []), .map (mI Value.bool l3)] ∧ percpu_Refill_l1 a_p0 a_p1 a_p2 n1 i2 l3 = some r) (FUEL, 0, x2) ⟨RepP [0, 1, 2] rfl rfl (by kernel_rfl), h⟩ ?_
   clear h
   rintro ⟨n1, i2, l3⟩ e' H' ⟨hrep, h⟩
   cases n1 with
   | zero => exact absurd (show (none : Option _) = some r from h) (by simp)
   | succ n1 =>
    replace h : percpu_Refill_b1 a_p0 a_p1 a_p2 (percpu_Refill_l1 a_p0 a_p1 a_p2 n1) i2 l3 = some r := h
    unfold percpu_Refill_b1 at h
    refine AW_rep hrep ?_
    clear hrep
    refine AW_seq <| AW_region <| ALW_val (AVal_lss rfl rfl) <| ALW_nil <| AW_seq ?_
    refine AW_cond (decide (i2 < (a_p2.length : Int))) rfl (fun hb10 => ?_) (fun hb10 => ?_)
    ·replace h := cnd_t hb10 h
     refine AW_skip <| AW_seq <| AW_block <| AW_seq <| AW_region ?_
     have hb11 := (chk_some h).1
     replace h := (chk_some h).2
     refine ALW_val (AVal_idxSM Try.underlying22 Try.sizeOf3 (fun _ => rfl) rfl rfl hb11) <| ALW_val (AVal_loadR1 (o := 0) Try.isAgg3 rfl rfl) <| ALW_val (AVal_assign rfl) <| ALW_nil <| AW_seq <| AW_seq ?_
     refine AW_region <| ALW_val (AVal_move rfl) ?_
     refine bnd_elim h ?_; clear h; intro x5 hx5 h
     refine ALW_callN Try.func64 rfl (by kernel_rfl) (.fn 64) rfl rfl (percpu_isFrame_ok hx5) rfl <| ALW_val (AVal_not (t := x5) rfl) <| ALW_nil ?_
     refine AW_cond (!x5) rfl (fun hb12 => ?_) (fun hb12 => ?_)
     ·replace h := cnd_t hb12 h
      refine AW_seq <| AW_region <| ALW_val (AVal_build (pl := [(0, 1)]) (zs := [.slice none 0 0]) (zc := [.sl false []]) (res := (cCpuCache (⟨([] : List (List Int))⟩ : CpuCache))) (fun _ => by kernel_rfl) rfl (⟨SubF.nils, trivial⟩) (by exact SubL.refl _)) <| ALW_act (H' := [.box 50 (cCpuCache a_p0), .box 50 (cCpuCache (⟨([] : List (List Int))⟩ : CpuCache)), .map (mI Value.bool l3)]) (AAct_storeA (k := 1) (o := 0) (cs := ([(ls (cS cI) ([] : List (List Int)))] ++ [])) (la := (cCpuCache (⟨([] : List (List Int))⟩ : CpuCache))) Try.sizeOf50 rfl rfl rfl rfl) <| ALW_val (AVal_assign rfl) <| ALW_nil ?_
      refine AW_ret ?_
      show RetP _ _ _ _ _ _
      obtain rfl := Option.some.inj h
      exact RetP_2 (R1_A Try.isAgg50 Try.sizeOf50 rfl rfl rfl rfl) (R1_E rfl rfl) rfl
     ·replace h := cnd_f hb12 h
      refine AW_skip <| AW_seq <| AW_seq <| AW_region <| ALW_val (AVal_move rfl) <| ALW_val (AVal_move rfl) ?_
      refine ALW_val (AVal_mget (k := 2) (g := Value.bool) (q := at_ a_p2 i2) (l := l3) (dflt := false) (a := (AV.lit (.bool (mget false l3 (at_ a_p2 i2))))) Try.underlying83 Try.underlying3 Try.zeroValue4 rfl rfl rfl rfl) <| ALW_nil ?_
      refine AW_cond (mget false l3 (at_ a_p2 i2)) rfl (fun hb13 => ?_) (fun hb13 => ?_)
      ·replace h := cnd_t hb13 h
       refine AW_seq <| AW_region <| ALW_val (AVal_build (pl := [(0, 1)]) (zs := [.slice none 0 0]) (zc := [.sl false []]) (res := (cCpuCache (⟨([] : List (List Int))⟩ : CpuCache))) (fun _ => by kernel_rfl) rfl (⟨SubF.nils, trivial⟩) (by exact SubL.refl _)) <| ALW_act (H' := [.box 50 (cCpuCache a_p0), .box 50 (cCpuCache (⟨([] : List (List Int))⟩ : CpuCache)), .map (mI Value.bool l3)]) (AAct_storeA (k := 1) (o := 0) (cs := ([(ls (cS cI) ([] : List (List Int)))] ++ [])) (la := (cCpuCache (⟨([] : List (List Int))⟩ : CpuCache))) Try.sizeOf50 rfl rfl rfl rfl) <| ALW_val (AVal_assign rfl) <| ALW_nil ?_
       refine AW_ret ?_
       show RetP _ _ _ _ _ _
       obtain rfl := Option.some.inj h
       exact RetP_2 (R1_A Try.isAgg50 Try.sizeOf50 rfl rfl rfl rfl) (R1_E rfl rfl) rfl
      ·replace h := cnd_f hb13 h
       refine AW_skip <| AW_region <| ALW_val (AVal_move rfl) <| ALW_val (AVal_move rfl) <| ALW_act (H' := [.box 50 (cCpuCache a_p0), .box 50 ([(ls (cS cI) ([] : List (List Int)))] ++ []), .map (mI Value.bool (mset l3 (at_ a_p2 i2) true))]) (AAct_mset (k := 2) (g := Value.bool) (q := at_ a_p2 i2) (l := l3) (v := true) Try.underlying83 Try.underlying3 rfl rfl rfl rfl) <| ALW_nil ?_
       refine AW_region ?_
       have hb14 := (chk_some h).1
       replace h := (chk_some h).2
       refine ALW_val (AVal_add rfl rfl hb14) <| ALW_val (AVal_move rfl) <| ALW_nil ?_
       exact ⟨(n1, (i2 + 1), (mset l3 (at_ a_p2 i2) true)), Nat.lt_succ_self _, RepP [0, 1, 2] rfl rfl (by kernel_rfl), h⟩
    ·replace h := cnd_f hb10 h
     refine AW_exit ?_
     exact ⟨RepP [0, 1] rfl rfl (by kernel_rfl), h⟩
  ·
   clear h
   rintro e' H' ⟨hrep, h⟩
   refine AW_rep hrep ?_
   clear hrep
   unfold percpu_Refill_j0 at h
   refine AW_seq <| AW_region <| ALW_val (AVal_field Try.underlying50 rfl rfl Try.sizeOf48 rfl) <| ALW_val (AVal_load1 Try.isAgg48 rfl rfl rfl rfl) <| ALW_val (AVal_move rfl) ?_
   have hb2 := (chk_some h).1
   replace h := (chk_some h).2
   refine ALW_val (AVal_idxSM Try.underlying48 Try.sizeOf22 (fun _ => rfl) rfl rfl hb2) <| ALW_val (AVal_loadR1 (o := 0) Try.isAgg22 rfl rfl) <| ALW_val (AVal_lenM Try.underlying22 rfl) ?_
   have hb3 := (chk_some h).1
   replace h := (chk_some h).2
   refine ALW_makeM (f := cI) (a := ((at_ a_p0.lists a_p1).length : Int)) (c := ((at_ a_p0.lists a_p1).length : Int)) (d0 := 0) elem3 ⟨SubF.refl _, trivial⟩ rfl Try.underlying22 rfl rfl hb3 <| ALW_val (AVal_assign rfl) <| ALW_nil <| AW_seq <| AW_region <| ALW_val (AVal_move rfl) ?_
   refine ALW_val (AVal_field Try.underlying50 rfl rfl Try.sizeOf48 rfl) <| ALW_val (AVal_load1 Try.isAgg48 rfl rfl rfl rfl) <| ALW_val (AVal_move rfl) <| ALW_val (AVal_idxSM Try.underlying48 Try.sizeOf22 (fun _ => rfl) rfl rfl hb2) <| ALW_val (AVal_loadR1 (o := 0) Try.isAgg22 rfl rfl) <| ALW_step (H' := [.box 50 (cCpuCache a_p0), .box 50 ([(ls (cS cI) ([] : List (List Int)))] ++ []), .vec 3 1 (List.map cI (copyL (List.replicate ((at_ a_p0.lists a_p1).length : Int).toNat 0) (at_ a_p0.lists a_p1)))]) (AStep_copy (f := cI) (k := 2) (l := List.replicate ((at_ a_p0.lists a_p1).length : Int).toNat 0) (l2 := at_ a_p0.lists a_p1) Try.underlying22 Try.sizeOf3 (fun _ => rfl) rfl rfl rfl) ?_
   refine ALW_nil ?_
   refine AW_seqJ (fun e' H' => ∃ (l1 : List Int), Rep 75 0 e' H' (mkE [(1, (li a_p1)), (3, (AV.ptr 0 0)), (6, (AV.ptr 1 0)), (12, (AV.hd 2))]) [.box 50 (cCpuCache a_p0), .box 50 ([(ls (cS cI) ([] : List (List Int)))] ++ []), .vec 3 1 (List.map cI l1)] ∧ percpu_Refill_j1 a_p0 a_p1 l1 = some r) ?_ ?_
   ·
    refine AW_seq <| AW_region <| ALW_val (AVal_move rfl) <| ALW_val (AVal_lenM Try.underlying22 rfl) <| ALW_val (AVal_move rfl) <| ALW_nil ?_
    refine AW_block <| AW_loop (σ := Nat × Int × (List Int)) (fun s => s.1) (fun s e' H' => match s with | (n0, i1, l2) => Rep 75 0 e' H' (mkE [(1, (li a_p1)), (2, (ls cI a_p2)), (3, (AV.ptr 0 0)), (6, (AV.ptr 1 0)), (12, (AV.hd 2)), (55, (li (a_p2.length : Int))), (56, (li i1))]) [.box 50 (cCpuCache a_p0), .box 50 ([(ls (cS cI) ([] : List (List Int)))] ++ []), .vec 3 1 (List.map cI l2)] ∧ percpu_Refill_l0 a_p0 a_p1 a_p2 n0 i1 l2 = some r) (FUEL, 0, (copyL (List.replicate ((at_ a_p0.lists a_p1).length : Int).toNat 0) (at_ a_p0.lists a_p1))) ⟨RepP [0, 1, 2] rfl rfl (by kernel_rfl), h⟩ ?_
    clear h
    rintro ⟨n0, i1, l2⟩ e' H' ⟨hrep, h⟩
    cases n0 with
    | zero => exact absurd (show (none : Option _) = some r from h) (by simp)
    | succ n0 =>
     replace h : percpu_Refill_b0 a_p0 a_p1 a_p2 (percpu_Refill_l0 a_p0 a_p1 a_p2 n0) i1 l2 = some r := h
     unfold percpu_Refill_b0 at h
     refine AW_rep hrep ?_
     clear hrep
     refine AW_seq <| AW_region <| ALW_val (AVal_lss rfl rfl) <| ALW_nil <| AW_seq ?_
     refine AW_cond (decide (i1 < (a_p2.length : Int))) rfl (fun hb4 => ?_) (fun hb4 => ?_)
     ·replace h := cnd_t hb4 h
      refine AW_skip <| AW_seq <| AW_block <| AW_seq <| AW_region <| ALW_val (AVal_move rfl) ?_
      refine ALW_val (AVal_assign rfl) <| ALW_nil <| AW_region <| ALW_val (AVal_move rfl) <| ALW_val (AVal_move rfl) <| ALW_val (AVal_move rfl) ?_
      refine ALW_val (AVal_lenM Try.underlying22 rfl) ?_
      have hb5 := (chk_some h).1
      replace h := (chk_some h).2
      refine ALW_val (AVal_sub rfl rfl hb5) <| ALW_val (AVal_move rfl) ?_
      have hb6 := (chk_some h).1
      replace h := (chk_some h).2
      refine ALW_val (AVal_sub rfl rfl hb6) ?_
      have hb7 := (chk_some h).1
      replace h := (chk_some h).2
      refine ALW_val (AVal_idxSM Try.underlying22 Try.sizeOf3 (fun _ => rfl) rfl rfl hb7) <| ALW_val (AVal_loadR1 (o := 0) Try.isAgg3 rfl rfl) <| ALW_lit1 (a := (li (at_ a_p2 (((a_p2.length : Int) - 1) - i1)))) elem3 Try.underlying22 rfl rfl rfl rfl ?_
      have hb8 := (chk_some h).1
      replace h := (chk_some h).2
      refine ALW_appendVM (f := cI) (k := 2) (j := 3) (l := l2) (l' := [at_ a_p2 (((a_p2.length : Int) - 1) - i1)]) elem3 (fun _ => rfl) Try.underlying22 rfl rfl rfl rfl hb8 <| ALW_val (AVal_assign rfl) <| ALW_nil <| AW_region ?_
      have hb9 := (chk_some h).1
      replace h := (chk_some h).2
      refine ALW_val (AVal_add rfl rfl hb9) <| ALW_val (AVal_move rfl) <| ALW_nil ?_
      exact ⟨(n0, (i1 + 1), (l2 ++ [at_ a_p2 (((a_p2.length : Int) - 1) - i1)])), Nat.lt_succ_self _, RepP [0, 1, 4] rfl rfl (by kernel_rfl), h⟩
     ·replace h := cnd_f hb4 h
      refine AW_exit ?_
      exact ⟨l2, RepP [0, 1, 2] rfl rfl (by kernel_rfl), h⟩
   ·
    clear h
    rintro e' H' ⟨l1, hrep, h⟩
    refine AW_rep hrep ?_
    clear hrep
    unfold percpu_Refill_j1 at h
    refine AW_seq <| AW_region <| ALW_val (AVal_loadA (k := 0) (o := 0) (m := 1) Try.isAgg50 Try.sizeOf50 rfl rfl rfl rfl rfl) <| ALW_val (AVal_move rfl) <| ALW_val (AVal_move rfl) ?_
    refine bnd_elim h ?_; clear h; intro x3 hx3 h
    refine ALW_rep (Rep_frzL (j := 2) (ds := [12, 73]) (rows' := List.map cI l1) rfl (frzR_map (fun _ => rfl)) ⟨rfl, rfl, trivial⟩) ?_
    refine bnd_elim h ?_; clear h; intro x4 hx4 h
    refine ALW_callN Try.func80 rfl (by kernel_rfl) (.fn 80) rfl rfl (percpu_replace_ok hx4) rfl <| ALW_act (H' := [.box 50 (cCpuCache a_p0), .box 50 (cCpuCache x4), .dead]) (AAct_storeA (k := 1) (o := 0) (cs := ([(ls (cS cI) ([] : List (List Int)))] ++ [])) (la := (cCpuCache x4)) Try.sizeOf50 rfl rfl rfl rfl) <| ALW_val (AVal_assign rfl) <| ALW_nil <| AW_ret ?_
    show RetP _ _ _ _ _ _
    obtain rfl := Option.some.inj h
    exact RetP_2 (R1_A Try.isAgg50 Try.sizeOf50 rfl rfl rfl rfl) (R1_E rfl rfl) rfl
theorem allocator_refill_ok {a_p0 : Allocator} {a_p1 : Int} {a_p2 : Int} {r : Allocator × Bool} (h : allocator_refill a_p0 a_p1 a_p2 = some r) : AFn Try.prog 43 [(AV.ptr 0 0), (li a_p1), (li a_p2)] [.box 29 ([(ls cI a_p0.nodes)] ++ ([(li a_p0.batch)] ++ ([(li a_p0.high)] ++ ([AV.osl 46 10 (List.map cZone a_p0.zones)] ++ ([AV.osl 50 1 (List.map cCpuCache a_p0.caches)] ++ [])))))] (AV.lit (.bool r.2)) [.box 29 ([(ls cI r.1.nodes)] ++ ([(li r.1.batch)] ++ ([(li r.1.high)] ++ ([AV.osl 46 10 (List.map cZone r.1.zones)] ++ ([AV.osl 50 1 (List.map cCpuCache r.1.caches)] ++ [])))))] := by
 refine AFn_enter2 Try.func43 rfl Try.ntmps43 Try.results43 rfl ?_
 unfold allocator_refill at h
 refine AW_seq <| AW_region <| ALW_val (AVal_assign rfl) <| ALW_nil <| AW_seq <| AW_region ?_
 refine ALW_val (AVal_assign rfl) <| ALW_nil ?_
 refine AW_seqJ (fun e' H' => ∃ (l1 : List Zone) (l2 : List Int), Rep 70 1 e' H' (mkE [(0, (AV.ptr 0 0)), (1, (li a_p1)), (2, (li a_p2)), (7, (AV.hd 1))]) [.box 29 ([(ls cI a_p0.nodes)] ++ ([(li a_p0.batch)] ++ ([(li a_p0.high)] ++ ([AV.osl 46 10 (List.map cZone l1)] ++ ([AV.osl 50 1 (List.map cCpuCache a_p0.caches)] ++ []))))), .vec 3 1 (List.map cI l2)] ∧ allocator_refill_j0 a_p0 a_p1 a_p2 l1 l2 = some r) ?_ ?_
 ·
  refine AW_seq <| AW_region <| ALW_val (AVal_move rfl) <| ALW_val (AVal_nilCheck rfl) <| ALW_val (AVal_field Try.underlying29 rfl rfl Try.sizeOf3 rfl) <| ALW_val (AVal_load1 Try.isAgg3 rfl rfl rfl rfl) ?_
  refine ALW_val (AVal_move rfl) <| ALW_nil <| AW_block <| AW_loop (σ := Nat × Int × (List Zone) × (List Int)) (fun s => s.1) (fun s e' H' => match s with | (n0, i1, l4, l5) => Rep 70 1 e' H' (mkE [(0, (AV.ptr 0 0)), (1, (li a_p1)), (2, (li a_p2)), (7, (AV.hd 1)), (16, (li a_p0.batch)), (17, (li i1))]) [.box 29 ([(ls cI a_p0.nodes)] ++ ([(li a_p0.batch)] ++ ([(li a_p0.high)] ++ ([AV.osl 46 10 (List.map cZone l4)] ++ ([AV.osl 50 1 (List.map cCpuCache a_p0.caches)] ++ []))))), .vec 3 1 (List.map cI l5)] ∧ allocator_refill_l0 a_p0 a_p1 a_p2 n0 i1 l4 l5 = some r) (FUEL, 0, a_p0.zones, []) ⟨Rep.trans (Rep_nil (d := 7) (el := 3) (sz := 1) rfl) (RepP [0, 1] (l := [(0, (AV.ptr 0 0)), (1, (li a_p1)), (2, (li a_p2)), (7, (AV.hd 1)), (16, (li a_p0.batch)), (17, (li 0))]) rfl rfl (by kernel_rfl)), h⟩ ?_
  clear h
  rintro ⟨n0, i1, l4, l5⟩ e' H' ⟨hrep, h⟩
  cases n0 with
  | zero => exact absurd (show (none : Option _) = some r from h) (by simp)
  | succ n0 =>
   replace h : allocator_refill_b0 a_p0 a_p1 a_p2 (allocator_refill_l0 a_p0 a_p1 a_p2 n0) i1 l4 l5 = some r := h
   unfold allocator_refill_b0 at h
   refine AW_rep hrep ?_
   clear hrep
   refine AW_seq <| AW_region <| ALW_val (AVal_lss rfl rfl) <| ALW_nil <| AW_seq ?_
   refine AW_cond (decide (i1 < a_p0.batch)) rfl (fun hb3 => ?_) (fun hb3 => ?_)
   ·replace h := cnd_t hb3 h
    refine AW_skip <| AW_seq <| AW_block <| AW_seq <| AW_region <| ALW_val (AVal_move rfl) ?_
    refine ALW_val (AVal_nilCheck rfl) <| ALW_val (AVal_field Try.underlying29 rfl rfl Try.sizeOf26 rfl) <| ALW_rep (Rep_open (k := 0) (o := 3) (t' := 46) (sz := 10) (rows := List.map cZone l4) rfl rfl) <| ALW_val (AVal_load1 Try.isAgg26 rfl rfl rfl rfl) <| ALW_val (AVal_move rfl) ?_
    have hb4 := (chk_some h).1
    replace h := (chk_some h).2
    refine ALW_val (AVal_idxVM (f := cZone) (l := l4) (i := a_p2) Try.underlying26 Try.sizeOf46 rfl rfl rfl hb4) <| ALW_val (AVal_loadVAM (f := cZone) (l := l4) (i := a_p2) (c := 0) (q := 10) (la := (cZone (at_ l4 a_p2))) Try.isAgg46 Try.sizeOf46 rfl rfl (by first | rfl | omega) hb4 rfl rfl rfl) ?_
    refine bnd_elim h ?_; clear h; intro x3 hx3 h
    refine ALW_callN Try.func48 rfl (by kernel_rfl) (.fn 48) rfl rfl (buddy_Alloc_ok hx3) rfl <| ALW_val (AVal_move rfl) <| ALW_val (AVal_extract rfl rfl) <| ALW_val (AVal_extract rfl rfl) <| ALW_val (AVal_extract rfl rfl) <| ALW_step (H' := [.box 29 ([(ls cI a_p0.nodes)] ++ ([(li a_p0.batch)] ++ ([(li a_p0.high)] ++ ([AV.hd 2] ++ ([AV.osl 50 1 (List.map cCpuCache a_p0.caches)] ++ []))))), .vec 3 1 (List.map cI l5), .vec 46 10 (List.map cZone l4), .box 46 ([(li 0)] ++ ([(li 0)] ++ ([(li 0)] ++ ([(li 0)] ++ ([(li 0)] ++ ((cA 5 (eS cI) ([] : List Int) (List.replicate 5 ([] : List Int))) ++ []))))))]) (AStep_alloc (t := 46) (vs := [.int .i64 0, .int .i64 0, .int .i64 0, .int .i64 0, .int .i64 0, .slice none 0 0, .slice none 0 0, .slice none 0 0, .slice none 0 0, .slice none 0 0]) (cs := [.lit (.int .i64 0), .lit (.int .i64 0), .lit (.int .i64 0), .lit (.int .i64 0), .lit (.int .i64 0), .sl false [], .sl false [], .sl false [], .sl false [], .sl false []]) Try.zeroValue46 (by kernel_rfl) rfl ⟨SubF.refl _, SubF.refl _, SubF.refl _, SubF.refl _, SubF.refl _, SubF.nils, SubF.nils, SubF.nils, SubF.nils, SubF.nils, trivial⟩) ?_
    refine ALW_act (H' := [.box 29 ([(ls cI a_p0.nodes)] ++ ([(li a_p0.batch)] ++ ([(li a_p0.high)] ++ ([AV.hd 2] ++ ([AV.osl 50 1 (List.map cCpuCache a_p0.caches)] ++ []))))), .vec 3 1 (List.map cI l5), .vec 46 10 (List.map cZone l4), .box 46 (cZone x3.1)]) (AAct_storeA (k := 3) (o := 0) (cs := ([(li 0)] ++ ([(li 0)] ++ ([(li 0)] ++ ([(li 0)] ++ ([(li 0)] ++ ((cA 5 (eS cI) ([] : List Int) (List.replicate 5 ([] : List Int))) ++ []))))))) (la := (cZone x3.1)) Try.sizeOf46 rfl rfl rfl rfl) <| ALW_val (AVal_assign rfl) <| ALW_val (AVal_assign rfl) <| ALW_nil <| AW_seq <| AW_seq ?_
    refine AW_region <| ALW_val (AVal_move rfl) <| ALW_val (AVal_neq rfl rfl) <| ALW_nil ?_
    refine AW_cond (!decide (x3.2.2 = 0)) rfl (fun hb5 => ?_) (fun hb5 => ?_)
    ·replace h := cnd_t hb5 h
     refine AW_exit ?_
     exact ⟨l4, l5, Rep.trans (Rep_close (k := 0) (j := 2) (o := 3) rfl rfl rfl rfl) (RepP [0, 1] (l := [(0, (AV.ptr 0 0)), (1, (li a_p1)), (2, (li a_p2)), (7, (AV.hd 1))]) rfl rfl (by kernel_rfl)), h⟩
    ·replace h := cnd_f hb5 h
     refine AW_skip <| AW_seq ?_
     show AW _ _ _ _ _ _ [.box 29 ([(ls cI a_p0.nodes)] ++ ([(li a_p0.batch)] ++ ([(li a_p0.high)] ++ ([AV.hd 2] ++ ([AV.osl 50 1 (List.map cCpuCache a_p0.caches)] ++ []))))), .vec 3 1 (List.map cI l5), .vec 46 10 (List.map cZone l4), .box 46 (cZone x3.1)]
     refine AW_draw (n := 70) (m := 1) [.head 0 0, .head 0 0, .head 0 0, .head 0 0, .head 0 0, .head 0 0, .head 0 0, .tail 0] [7] [(AV.ptr 0 0), (AV.ptr 0 0), (AV.ptr 0 3), (AV.hd 2), (li a_p2), (AV.agg (cZone x3.1)), (AV.ptr 2 (a_p2.toNat * 10)), .any] [[.box 29 ([(ls cI a_p0.nodes)] ++ ([(li a_p0.batch)] ++ ([(li a_p0.high)] ++ ([AV.hd 2] ++ ([AV.osl 50 1 (List.map cCpuCache a_p0.caches)] ++ []))))), .vec 3 1 (List.map cI l5), .vec 46 10 (List.map cZone l4), .box 46 (cZone x3.1)], [.box 29 ([(ls cI a_p0.nodes)] ++ ([(li a_p0.batch)] ++ ([(li a_p0.high)] ++ ([AV.hd 2] ++ ([AV.osl 50 1 (List.map cCpuCache a_p0.caches)] ++ []))))), .vec 3 1 (List.map cI l5), .vec 46 10 (List.map cZone (l4.set a_p2.toNat x3.1)), .box 46 (cZone x3.1)]] (by kernel_rfl) (by kernel_rfl) ⟨?_, ?_, ?_, ?_, ?_, ?_, ?_, ?_, trivial⟩ ?_
     ·exact fun e s p => ALW1 (AVal_move (av := (AV.ptr 0 0)) (s 0 rfl)) ⟨fun _ => rfl, rfl⟩
     ·exact fun e s p => ALW1 (AVal_nilCheck p.1) ⟨fun _ => rfl, rfl⟩
     ·exact fun e s p => ALW1 (AVal_field (k := 0) (o := 0) (off := 3) Try.underlying29 rfl rfl Try.sizeOf26 p.1) ⟨fun _ => rfl, rfl⟩
     ·exact fun e s p => ALW1 (AVal_load1 (k := 0) (o := 3) (a := (AV.hd 2)) Try.isAgg26 p.1 rfl rfl rfl) ⟨fun _ => rfl, rfl⟩
     ·exact fun e s p => ALW1 (AVal_move (av := (li a_p2)) (s 2 rfl)) ⟨fun _ => rfl, rfl⟩
     ·exact fun e s p => ALW1 (AVal_loadA (k := 3) (o := 0) (m := 10) (la := (cZone x3.1)) Try.isAgg46 Try.sizeOf46 (s 8 rfl) rfl rfl rfl rfl) ⟨fun _ => rfl, rfl⟩
     ·exact fun e s p => ALW1 (AVal_idxVM (f := cZone) (l := l4) (i := a_p2) Try.underlying26 Try.sizeOf46 p.2.2.2.2.2.1 rfl p.2.2.2.2.2.2.1 hb4) ⟨fun _ => rfl, rfl⟩
     ·
      intro e17 hs17 hp16
      refine ALW_act (H' := [.box 29 ([(ls cI a_p0.nodes)] ++ ([(li a_p0.batch)] ++ ([(li a_p0.high)] ++ ([AV.hd 2] ++ ([AV.osl 50 1 (List.map cCpuCache a_p0.caches)] ++ []))))), .vec 3 1 (List.map cI l5), .vec 46 10 (List.map cZone (l4.set a_p2.toNat x3.1)), .box 46 (cZone x3.1)]) (AAct_storeVAM (k := 2) (o := (a_p2.toNat * 10)) (f := cZone) (l := l4) (i := a_p2) (z := x3.1) Try.sizeOf46 (fun _ => rfl) (by exact hp16.1) rfl (by first | rfl | omega) hb4 (by exact hp16.2.2.2.2.2.2.2.1) rfl) ?_
      exact ALW_nil ⟨fun _ => rfl, rfl⟩
     intro e18 hs18 hq2
     refine AW_rep (Rep_mk (l := [(0, (AV.ptr 0 0)), (1, (li a_p1)), (2, (li a_p2)), (7, (AV.hd 1)), (9, (li x3.2.1)), (16, (li a_p0.batch)), (17, (li i1))]) ⟨(hs18 0 rfl), (hs18 1 rfl), (hs18 2 rfl), (hs18 7 rfl), (hs18 9 rfl), (hs18 16 rfl), (hs18 17 rfl), trivial⟩) <| AW_region <| ALW_val (AVal_move (av := (AV.hd 1)) rfl) <| ALW_val (AVal_move (av := (li x3.2.1)) rfl) <| ALW_lit1 (a := (li x3.2.1)) elem3 Try.underlying22 rfl rfl rfl rfl ?_
     have hb6 := (chk_some h).1
     replace h := (chk_some h).2
     refine ALW_appendVM (f := cI) (k := 1) (j := 4) (l := l5) (l' := [x3.2.1]) elem3 (fun _ => rfl) Try.underlying22 rfl rfl rfl rfl hb6 <| ALW_val (AVal_assign rfl) <| ALW_nil <| AW_region ?_
     have hb7 := (chk_some h).1
     replace h := (chk_some h).2
     refine ALW_val (AVal_add rfl rfl hb7) <| ALW_val (AVal_move rfl) <| ALW_nil ?_
     exact ⟨(n0, (i1 + 1), (l4.set a_p2.toNat x3.1), (l5 ++ [x3.2.1])), Nat.lt_succ_self _, Rep.trans (Rep_close (k := 0) (j := 2) (o := 3) rfl rfl rfl rfl) (RepP [0, 5] (l := [(0, (AV.ptr 0 0)), (1, (li a_p1)), (2, (li a_p2)), (7, (AV.hd 1)), (16, (li a_p0.batch)), (17, (li (i1 + 1)))]) rfl rfl (by kernel_rfl)), h⟩
   ·replace h := cnd_f hb3 h
    refine AW_exit ?_
    exact ⟨l4, l5, RepP [0, 1] rfl rfl (by kernel_rfl), h⟩
 ·
  clear h
  rintro e' H' ⟨l1, l2, hrep, h⟩
  refine AW_rep hrep ?_
  clear hrep
  unfold allocator_refill_j0 at h
  refine AW_seqJ (fun e' H' => ∃ (l3 : List CpuCache), Rep 70 1 e' H' (mkE [(7, (ls cI l2))]) [.box 29 ([(ls cI a_p0.nodes)] ++ ([(li a_p0.batch)] ++ ([(li a_p0.high)] ++ ([AV.osl 46 10 (List.map cZone l1)] ++ ([AV.osl 50 1 (List.map cCpuCache l3)] ++ [])))))] ∧ allocator_refill_j1 a_p0 l1 l2 l3 = some r) ?_ ?_
  ·
   refine AW_seq <| AW_region <| ALW_val (AVal_move rfl) <| ALW_val (AVal_nilCheck rfl) <| ALW_val (AVal_field Try.underlying29 rfl rfl Try.sizeOf27 rfl) <| ALW_rep (Rep_open (k := 0) (o := 4) (t' := 50) (sz := 1) (rows := List.map cCpuCache a_p0.caches) rfl rfl) ?_
   refine ALW_val (AVal_load1 Try.isAgg27 rfl rfl rfl rfl) <| ALW_val (AVal_move rfl) ?_
   have hb1 := (chk_some h).1
   replace h := (chk_some h).2
   refine ALW_val (AVal_idxVM (f := cCpuCache) (l := a_p0.caches) (i := a_p1) Try.underlying27 Try.sizeOf50 rfl rfl rfl hb1) <| ALW_val (AVal_loadVAM (f := cCpuCache) (l := a_p0.caches) (i := a_p1) (c := 0) (q := 1) (la := (cCpuCache (at_ a_p0.caches a_p1))) Try.isAgg50 Try.sizeOf50 rfl rfl (by first | rfl | omega) hb1 rfl rfl rfl) <| ALW_val (AVal_move rfl) <| ALW_val (AVal_move rfl) ?_
   refine bnd_elim h ?_; clear h; intro x1 hx1 h
   refine ALW_rep (Rep_frzL (j := 1) (ds := [7, 54]) (rows' := List.map cI l2) rfl (frzR_map (fun _ => rfl)) ⟨rfl, rfl, trivial⟩) ?_
   refine bnd_elim h ?_; clear h; intro x2 hx2 h
   refine ALW_callN Try.func77 rfl (by kernel_rfl) (.fn 77) rfl rfl (percpu_Refill_ok hx2) rfl <| ALW_val (AVal_move rfl) <| ALW_val (AVal_extract rfl rfl) <| ALW_val (AVal_extract rfl rfl) <| ALW_step (H' := [.box 29 ([(ls cI a_p0.nodes)] ++ ([(li a_p0.batch)] ++ ([(li a_p0.high)] ++ ([AV.osl 46 10 (List.map cZone l1)] ++ ([AV.hd 2] ++ []))))), .dead, .vec 50 1 (List.map cCpuCache a_p0.caches), .box 50 ([(ls (cS cI) ([] : List (List Int)))] ++ [])]) (AStep_alloc (t := 50) (vs := [.slice none 0 0]) (cs := [.sl false []]) Try.zeroValue50 (by kernel_rfl) rfl ⟨SubF.nils, trivial⟩) <| ALW_act (H' := [.box 29 ([(ls cI a_p0.nodes)] ++ ([(li a_p0.batch)] ++ ([(li a_p0.high)] ++ ([AV.osl 46 10 (List.map cZone l1)] ++ ([AV.hd 2] ++ []))))), .dead, .vec 50 1 (List.map cCpuCache a_p0.caches), .box 50 (cCpuCache x2.1)]) (AAct_storeA (k := 3) (o := 0) (cs := ([(ls (cS cI) ([] : List (List Int)))] ++ [])) (la := (cCpuCache x2.1)) Try.sizeOf50 rfl rfl rfl rfl) ?_
   refine ALW_val (AVal_assign rfl) <| ALW_nil <| AW_seq <| AW_region <| ALW_val (AVal_move rfl) <| ALW_val (AVal_eql rfl rfl) ?_
   refine ALW_nil ?_
   refine AW_cond (decide (x2.2 = 0)) rfl (fun hb2 => ?_) (fun hb2 => ?_)
   ·replace h := cnd_t hb2 h
    show AW _ _ _ _ _ _ [.box 29 ([(ls cI a_p0.nodes)] ++ ([(li a_p0.batch)] ++ ([(li a_p0.high)] ++ ([AV.osl 46 10 (List.map cZone l1)] ++ ([AV.hd 2] ++ []))))), .dead, .vec 50 1 (List.map cCpuCache a_p0.caches), .box 50 (cCpuCache x2.1)]
    refine AW_draw (n := 70) (m := 1) [.head 0 0, .head 0 0, .head 0 0, .head 0 0, .head 0 0, .head 0 0, .head 0 0, .tail 0] [7] [(AV.ptr 0 0), (AV.ptr 0 0), (AV.ptr 0 4), (AV.hd 2), (li a_p1), (AV.agg (cCpuCache x2.1)), (AV.ptr 2 (a_p1.toNat * 1)), .any] [[.box 29 ([(ls cI a_p0.nodes)] ++ ([(li a_p0.batch)] ++ ([(li a_p0.high)] ++ ([AV.osl 46 10 (List.map cZone l1)] ++ ([AV.hd 2] ++ []))))), .dead, .vec 50 1 (List.map cCpuCache a_p0.caches), .box 50 (cCpuCache x2.1)], [.box 29 ([(ls cI a_p0.nodes)] ++ ([(li a_p0.batch)] ++ ([(li a_p0.high)] ++ ([AV.osl 46 10 (List.map cZone l1)] ++ ([AV.hd 2] ++ []))))), .dead, .vec 50 1 (List.map cCpuCache (a_p0.caches.set a_p1.toNat x2.1)), .box 50 (cCpuCache x2.1)]] (by kernel_rfl) (by kernel_rfl) ⟨?_, ?_, ?_, ?_, ?_, ?_, ?_, ?_, trivial⟩ ?_
    ·exact fun e s p => ALW1 (AVal_move (av := (AV.ptr 0 0)) (s 0 rfl)) ⟨fun _ => rfl, rfl⟩
    ·exact fun e s p => ALW1 (AVal_nilCheck p.1) ⟨fun _ => rfl, rfl⟩
    ·exact fun e s p => ALW1 (AVal_field (k := 0) (o := 0) (off := 4) Try.underlying29 rfl rfl Try.sizeOf27 p.1) ⟨fun _ => rfl, rfl⟩
    ·exact fun e s p => ALW1 (AVal_load1 (k := 0) (o := 4) (a := (AV.hd 2)) Try.isAgg27 p.1 rfl rfl rfl) ⟨fun _ => rfl, rfl⟩
    ·exact fun e s p => ALW1 (AVal_move (av := (li a_p1)) (s 1 rfl)) ⟨fun _ => rfl, rfl⟩
    ·exact fun e s p => ALW1 (AVal_loadA (k := 3) (o := 0) (m := 1) (la := (cCpuCache x2.1)) Try.isAgg50 Try.sizeOf50 (s 11 rfl) rfl rfl rfl rfl) ⟨fun _ => rfl, rfl⟩
    ·exact fun e s p => ALW1 (AVal_idxVM (f := cCpuCache) (l := a_p0.caches) (i := a_p1) Try.underlying27 Try.sizeOf50 p.2.2.2.2.2.1 rfl p.2.2.2.2.2.2.1 hb1) ⟨fun _ => rfl, rfl⟩
    ·
     intro e8 hs8 hp8
     refine ALW_act (H' := [.box 29 ([(ls cI a_p0.nodes)] ++ ([(li a_p0.batch)] ++ ([(li a_p0.high)] ++ ([AV.osl 46 10 (List.map cZone l1)] ++ ([AV.hd 2] ++ []))))), .dead, .vec 50 1 (List.map cCpuCache (a_p0.caches.set a_p1.toNat x2.1)), .box 50 (cCpuCache x2.1)]) (AAct_storeVAM (k := 2) (o := (a_p1.toNat * 1)) (f := cCpuCache) (l := a_p0.caches) (i := a_p1) (z := x2.1) Try.sizeOf50 (fun _ => rfl) (by exact hp8.1) rfl (by first | rfl | omega) hb1 (by exact hp8.2.2.2.2.2.2.2.1) rfl) ?_
     exact ALW_nil ⟨fun _ => rfl, rfl⟩
    intro e9 hs9 hq1
    exact ⟨(a_p0.caches.set a_p1.toNat x2.1), Rep.trans (Rep_mk (l := [(7, (ls cI l2))]) ⟨(hs9 7 rfl), trivial⟩) (Rep.trans (Rep_close (k := 0) (j := 2) (o := 4) (cs := ([(ls cI a_p0.nodes)] ++ ([(li a_p0.batch)] ++ ([(li a_p0.high)] ++ ([AV.osl 46 10 (List.map cZone l1)] ++ ([AV.hd 2] ++ [])))))) rfl rfl rfl rfl) (RepP [0] (l := [(7, (ls cI l2))]) rfl rfl (by kernel_rfl))), h⟩
   ·replace h := cnd_f hb2 h
    refine AW_skip ?_
    exact ⟨a_p0.caches, Rep.trans (Rep_close (k := 0) (j := 2) (o := 4) rfl rfl rfl rfl) (RepP [0] (l := [(7, (ls cI l2))]) rfl rfl (by kernel_rfl)), h⟩
  ·
   clear h
   rintro e' H' ⟨l3, hrep, h⟩
   refine AW_rep hrep ?_
   clear hrep
   unfold allocator_refill_j1 at h
   refine AW_seq <| AW_region <| ALW_val (AVal_move rfl) <| ALW_val (AVal_lenM Try.underlying22 rfl) <| ALW_val (AVal_gtr rfl rfl) <| ALW_val (AVal_assign rfl) ?_
   refine ALW_nil <| AW_ret ?_
   show RetB _ _ _ _ _ _ _ _
   obtain rfl := Option.some.inj h
   exact ⟨mkE [(6, (AV.lit (.bool (decide (0 < (l2.length : Int))))))], [.box 29 ([(ls cI a_p0.nodes)] ++ ([(li a_p0.batch)] ++ ([(li a_p0.high)] ++ ([AV.osl 46 10 (List.map cZone l1)] ++ ([AV.osl 50 1 (List.map cCpuCache l3)] ++ [])))))], RepP [0] rfl rfl (by kernel_rfl), RetA_1 rfl rfl⟩
theorem percpu_Drain_ok {a_c : CpuCache} {a_zone : Int} {r : CpuCache × (List Int) × Int} (h : percpu_Drain a_c a_zone = some r) : PFn Try.prog 78 [(AV.agg (cCpuCache a_c)), (li a_zone)] (AV.tup [(AV.agg (cCpuCache r.1)), (ls cI r.2.1), (li r.2.2)]) := by
 refine PFn_enter Try.func78 rfl Try.ntmps78 Try.results78 rfl ?_
 unfold percpu_Drain at h
 refine AW_seq <| AW_region <| ALW_step (H' := [.box 50 (cCpuCache a_c)]) (AStep_boxA (t := 50) rfl) <| ALW_step (H' := [.box 50 (cCpuCache a_c), .box 50 ([(ls (cS cI) ([] : List (List Int)))] ++ [])]) (AStep_alloc (t := 50) (vs := [.slice none 0 0]) (cs := [.sl false []]) Try.zeroValue50 (by kernel_rfl) rfl ⟨SubF.nils, trivial⟩) <| ALW_val (AVal_assign rfl) <| ALW_val (AVal_assign rfl) ?_
 refine ALW_nil <| AW_seq <| AW_seq <| AW_region <| ALW_val (AVal_loadA (k := 0) (o := 0) (m := 1) Try.isAgg50 Try.sizeOf50 rfl rfl rfl rfl rfl) <| ALW_val (AVal_move rfl) ?_
 refine bnd_elim h ?_; clear h; intro x1 hx1 h
 refine ALW_callN Try.func79 rfl (by kernel_rfl) (.fn 79) rfl rfl (percpu_check_ok hx1) rfl <| ALW_val (AVal_assign rfl) <| ALW_nil <| AW_seq <| AW_region <| ALW_val (AVal_move rfl) ?_
 refine ALW_val (AVal_neq rfl rfl) <| ALW_nil ?_
 refine AW_cond (!decide (x1 = 0)) rfl (fun hb1 => ?_) (fun hb1 => ?_)
 ·replace h := cnd_t hb1 h
  refine AW_seq <| AW_region <| ALW_val (AVal_build (pl := [(0, 1)]) (zs := [.slice none 0 0]) (zc := [.sl false []]) (res := (cCpuCache (⟨([] : List (List Int))⟩ : CpuCache))) (fun _ => by kernel_rfl) rfl (⟨SubF.nils, trivial⟩) (by exact SubL.refl _)) <| ALW_val (AVal_move rfl) <| ALW_act (H' := [.box 50 (cCpuCache a_c), .box 50 (cCpuCache (⟨([] : List (List Int))⟩ : CpuCache))]) (AAct_storeA (k := 1) (o := 0) (cs := ([(ls (cS cI) ([] : List (List Int)))] ++ [])) (la := (cCpuCache (⟨([] : List (List Int))⟩ : CpuCache))) Try.sizeOf50 rfl rfl rfl rfl) <| ALW_val (AVal_assign rfl) ?_
  refine ALW_val (AVal_assign rfl) <| ALW_nil <| AW_ret ?_
  show RetP _ _ _ _ _ _
  obtain rfl := Option.some.inj h
  exact RetP_3 (R1_A Try.isAgg50 Try.sizeOf50 rfl rfl rfl rfl) (R1_sub (R1_E rfl rfl) SubF.nils) (R1_E rfl rfl) rfl
 ·replace h := cnd_f hb1 h
  refine AW_skip <| AW_seq <| AW_region <| ALW_val (AVal_field Try.underlying50 rfl rfl Try.sizeOf48 rfl) <| ALW_val (AVal_load1 Try.isAgg48 rfl rfl rfl rfl) <| ALW_val (AVal_move rfl) ?_
  have hb2 := (chk_some h).1
  replace h := (chk_some h).2
  refine ALW_val (AVal_idxSM Try.underlying48 Try.sizeOf22 (fun _ => rfl) rfl rfl hb2) <| ALW_val (AVal_loadR1 (o := 0) Try.isAgg22 rfl rfl) <| ALW_val (AVal_lenM Try.underlying22 rfl) ?_
  have hb3 := (chk_some h).1
  replace h := (chk_some h).2
  refine ALW_makeM (f := cI) (a := ((at_ a_c.lists a_zone).length : Int)) (c := ((at_ a_c.lists a_zone).length : Int)) (d0 := 0) elem3 ⟨SubF.refl _, trivial⟩ rfl Try.underlying22 rfl rfl hb3 <| ALW_val (AVal_assign rfl) <| ALW_nil <| AW_seq <| AW_region <| ALW_val (AVal_move rfl) ?_
  refine ALW_val (AVal_field Try.underlying50 rfl rfl Try.sizeOf48 rfl) <| ALW_val (AVal_load1 Try.isAgg48 rfl rfl rfl rfl) <| ALW_val (AVal_move rfl) <| ALW_val (AVal_idxSM Try.underlying48 Try.sizeOf22 (fun _ => rfl) rfl rfl hb2) <| ALW_val (AVal_loadR1 (o := 0) Try.isAgg22 rfl rfl) <| ALW_step (H' := [.box 50 (cCpuCache a_c), .box 50 ([(ls (cS cI) ([] : List (List Int)))] ++ []), .vec 3 1 (List.map cI (copyL (List.replicate ((at_ a_c.lists a_zone).length : Int).toNat 0) (at_ a_c.lists a_zone)))]) (AStep_copy (f := cI) (k := 2) (l := List.replicate ((at_ a_c.lists a_zone).length : Int).toNat 0) (l2 := at_ a_c.lists a_zone) Try.underlying22 Try.sizeOf3 (fun _ => rfl) rfl rfl rfl) ?_
  refine ALW_nil <| AW_seq <| AW_region <| ALW_val (AVal_loadA (k := 0) (o := 0) (m := 1) Try.isAgg50 Try.sizeOf50 rfl rfl rfl rfl rfl) <| ALW_val (AVal_move rfl) ?_
  refine bnd_elim h ?_; clear h; intro x2 hx2 h
  refine ALW_callE (r' := (AV.agg (cCpuCache x2))) (la := [(AV.agg (cCpuCache a_c)), (li a_zone), (AV.lit (.slice none 0 0))]) (la' := [(AV.agg (cCpuCache a_c)), (li a_zone), (ls cI [])]) (r := (AV.agg (cCpuCache x2))) (S := []) Try.func80 rfl (by kernel_rfl) (.fn 80) rfl ⟨View.nr rfl, View.nr rfl, View.sub SubF.nils rfl, trivial⟩ (percpu_replace_ok hx2) (.inl rfl) rfl <| ALW_val (AVal_move rfl) <| ALW_act (H' := [.box 50 (cCpuCache a_c), .box 50 (cCpuCache x2), .vec 3 1 (List.map cI (copyL (List.replicate ((at_ a_c.lists a_zone).length : Int).toNat 0) (at_ a_c.lists a_zone)))]) (AAct_storeA (k := 1) (o := 0) (cs := ([(ls (cS cI) ([] : List (List Int)))] ++ [])) (la := (cCpuCache x2)) Try.sizeOf50 rfl rfl rfl rfl) <| ALW_val (AVal_assign rfl) <| ALW_val (AVal_assign rfl) <| ALW_nil ?_
  refine AW_rep (Rep_frzL (j := 2) (ds := [5, 8, 22, 23, 33]) (rows' := List.map cI (copyL (List.replicate ((at_ a_c.lists a_zone).length : Int).toNat 0) (at_ a_c.lists a_zone))) rfl (frzR_map (fun _ => rfl)) ⟨rfl, rfl, rfl, rfl, rfl, trivial⟩) <| AW_ret ?_
  show RetP _ _ _ _ _ _
  obtain rfl := Option.some.inj h
  exact RetP_3 (R1_A Try.isAgg50 Try.sizeOf50 rfl rfl rfl rfl) (R1_E rfl rfl) (R1_E rfl rfl) rfl
theorem buddy_Free_ok {a_z : Zone} {a_frame : Int} {a_order : Int} {r : Zone × Int} (h : buddy_Free a_z a_frame a_order = some r) : PFn Try.prog 81 [(AV.agg (cZone a_z)), (li a_frame), (li a_order)] (AV.tup [(AV.agg (cZone r.1)), (li r.2)]) := by
 refine PFn_enter Try.func81 rfl Try.ntmps81 Try.results81 rfl ?_
 unfold buddy_Free at h
 refine AW_seq <| AW_region <| ALW_step (H' := [.box 46 (cZone a_z)]) (AStep_boxA (t := 46) rfl) <| ALW_step (H' := [.box 46 (cZone a_z), .box 46 ([(li 0)] ++ ([(li 0)] ++ ([(li 0)] ++ ([(li 0)] ++ ([(li 0)] ++ ((cA 5 (eS cI) ([] : List Int) (List.replicate 5 ([] : List Int))) ++ []))))))]) (AStep_alloc (t := 46) (vs := [.int .i64 0, .int .i64 0, .int .i64 0, .int .i64 0, .int .i64 0, .slice none 0 0, .slice none 0 0, .slice none 0 0, .slice none 0 0, .slice none 0 0]) (cs := [.lit (.int .i64 0), .lit (.int .i64 0), .lit (.int .i64 0), .lit (.int .i64 0), .lit (.int .i64 0), .sl false [], .sl false [], .sl false [], .sl false [], .sl false []]) Try.zeroValue46 (by kernel_rfl) rfl ⟨SubF.refl _, SubF.refl _, SubF.refl _, SubF.refl _, SubF.refl _, SubF.nils, SubF.nils, SubF.nils, SubF.nils, SubF.nils, trivial⟩) <| ALW_val (AVal_assign rfl) <| ALW_nil ?_
 refine AW_seq <| AW_seq <| AW_region <| ALW_val (AVal_loadA (k := 0) (o := 0) (m := 10) Try.isAgg46 Try.sizeOf46 rfl rfl rfl rfl rfl) ?_
 refine bnd_elim h ?_; clear h; intro x1 hx1 h
 refine ALW_callN Try.func36 rfl (by kernel_rfl) (.fn 36) rfl rfl (buddy_Check_ok hx1) rfl <| ALW_val (AVal_assign rfl) <| ALW_nil <| AW_seq <| AW_region <| ALW_val (AVal_move rfl) ?_
 refine ALW_val (AVal_neq rfl rfl) <| ALW_nil ?_
 refine AW_cond (!decide (x1 = 0)) rfl (fun hb1 => ?_) (fun hb1 => ?_)
 ·replace h := cnd_t hb1 h
  refine AW_seq <| AW_region <| ALW_val (AVal_build (pl := [(0, 1), (1, 1), (2, 1), (3, 1), (4, 1), (5, 5)]) (zs := [.int .i64 0, .int .i64 0, .int .i64 0, .int .i64 0, .int .i64 0, .slice none 0 0, .slice none 0 0, .slice none 0 0, .slice none 0 0, .slice none 0 0]) (zc := [.lit (.int .i64 0), .lit (.int .i64 0), .lit (.int .i64 0), .lit (.int .i64 0), .lit (.int .i64 0), .sl false [], .sl false [], .sl false [], .sl false [], .sl false []]) (res := (cZone (⟨0, 0, 0, 0, 0, (List.replicate 5 ([] : List Int))⟩ : Zone))) (fun _ => by kernel_rfl) rfl (⟨SubF.refl _, ⟨SubF.refl _, ⟨SubF.refl _, ⟨SubF.refl _, ⟨SubF.refl _, ⟨SubF.nils, ⟨SubF.nils, ⟨SubF.nils, ⟨SubF.nils, ⟨SubF.nils, trivial⟩⟩⟩⟩⟩⟩⟩⟩⟩⟩) (by exact SubL.refl _)) <| ALW_val (AVal_move rfl) <| ALW_act (H' := [.box 46 (cZone a_z), .box 46 (cZone (⟨0, 0, 0, 0, 0, (List.replicate 5 ([] : List Int))⟩ : Zone))]) (AAct_storeA (k := 1) (o := 0) (cs := ([(li 0)] ++ ([(li 0)] ++ ([(li 0)] ++ ([(li 0)] ++ ([(li 0)] ++ ((cA 5 (eS cI) ([] : List Int) (List.replicate 5 ([] : List Int))) ++ []))))))) (la := (cZone (⟨0, 0, 0, 0, 0, (List.replicate 5 ([] : List Int))⟩ : Zone))) Try.sizeOf46 rfl rfl rfl rfl) <| ALW_val (AVal_assign rfl) ?_
  refine ALW_nil <| AW_ret ?_
  show RetP _ _ _ _ _ _
  obtain rfl := Option.some.inj h
  exact RetP_2 (R1_A Try.isAgg46 Try.sizeOf46 rfl rfl rfl rfl) (R1_E rfl rfl) rfl
 ·replace h := cnd_f hb1 h
  refine AW_skip <| AW_seq <| AW_seq <| AW_region <| ALW_val (AVal_move rfl) <| ALW_val (AVal_lss rfl rfl) ?_
  refine ALW_val (AVal_move rfl) <| ALW_g0 rfl rfl (fun hc1 => AVal.step (AVal_move rfl)) <| ALW_g0 rfl rfl (fun hc2 => AVal.step (AVal_gtr (gd_t rfl hc2) rfl)) <| ALW_val (AVal_pick_or rfl rfl) <| ALW_val (AVal_move rfl) <| ALW_g0 rfl rfl (fun hc3 => AVal.step (AVal_loadA (k := 0) (o := 0) (m := 10) Try.isAgg46 Try.sizeOf46 rfl rfl rfl rfl rfl)) ?_
  refine ALW_g0 rfl rfl (fun hc4 => AVal.step (AVal_move rfl)) <| ALW_g0 rfl rfl (fun hc5 => AVal.step (AVal_move rfl)) ?_
  refine bnd_elim h ?_; clear h; intro x2 hx2 h
  refine ALW_callG0 (g := 25) (s := (decide (a_order < 0)) || (decide (4 < a_order))) (r' := (AV.lit (.bool x2))) rfl rfl (fun hc6 => ⟨62, _, _, [], [(AV.agg (cZone a_z)), (li a_frame), (li a_order)], [(AV.agg ([(li a_z.node)] ++ ([(li a_z.kind)] ++ ([(li a_z.start)] ++ ([(li a_z.count)] ++ ([(li a_z.min)] ++ ([AV.any, AV.any, AV.any, AV.any, AV.any] ++ []))))))), (li a_frame), (li a_order)], (AV.lit (.bool x2)), [], Try.func62, rfl, by kernel_rfl, (.fn 62), (lcons (gd_t rfl hc6) (lcons (gd_t rfl hc6) (lcons (gd_t rfl hc6) rfl))), ⟨View_hdr (hd := ([(li a_z.node)] ++ [(li a_z.kind)] ++ [(li a_z.start)] ++ [(li a_z.count)] ++ [(li a_z.min)])) (tl := ((cA 5 (eS cI) ([] : List Int) a_z.free))) rfl, View.nr rfl, View.nr rfl, trivial⟩, buddy_inside_ok (cnd_t hc6 hx2), .inl rfl, rfl⟩) <| ALW_g0 rfl rfl (fun hc7 => AVal.step (AVal_not (t := x2) (gd_t rfl hc7))) <| ALW_val (AVal_pick_or rfl rfl) <| ALW_nil ?_
  refine AW_cond (((decide (a_order < 0)) || (decide (4 < a_order))) || (!x2)) rfl (fun hb2 => ?_) (fun hb2 => ?_)
  ·replace h := cnd_t hb2 h
   refine AW_seq <| AW_region <| ALW_val (AVal_build (pl := [(0, 1), (1, 1), (2, 1), (3, 1), (4, 1), (5, 5)]) (zs := [.int .i64 0, .int .i64 0, .int .i64 0, .int .i64 0, .int .i64 0, .slice none 0 0, .slice none 0 0, .slice none 0 0, .slice none 0 0, .slice none 0 0]) (zc := [.lit (.int .i64 0), .lit (.int .i64 0), .lit (.int .i64 0), .lit (.int .i64 0), .lit (.int .i64 0), .sl false [], .sl false [], .sl false [], .sl false [], .sl false []]) (res := (cZone (⟨0, 0, 0, 0, 0, (List.replicate 5 ([] : List Int))⟩ : Zone))) (fun _ => by kernel_rfl) rfl (⟨SubF.refl _, ⟨SubF.refl _, ⟨SubF.refl _, ⟨SubF.refl _, ⟨SubF.refl _, ⟨SubF.nils, ⟨SubF.nils, ⟨SubF.nils, ⟨SubF.nils, ⟨SubF.nils, trivial⟩⟩⟩⟩⟩⟩⟩⟩⟩⟩) (by exact SubL.refl _)) <| ALW_act (H' := [.box 46 (cZone a_z), .box 46 (cZone (⟨0, 0, 0, 0, 0, (List.replicate 5 ([] : List Int))⟩ : Zone))]) (AAct_storeA (k := 1) (o := 0) (cs := ([(li 0)] ++ ([(li 0)] ++ ([(li 0)] ++ ([(li 0)] ++ ([(li 0)] ++ ((cA 5 (eS cI) ([] : List Int) (List.replicate 5 ([] : List Int))) ++ []))))))) (la := (cZone (⟨0, 0, 0, 0, 0, (List.replicate 5 ([] : List Int))⟩ : Zone))) Try.sizeOf46 rfl rfl rfl rfl) <| ALW_val (AVal_assign rfl) <| ALW_nil ?_
   refine AW_ret ?_
   show RetP _ _ _ _ _ _
   obtain rfl := Option.some.inj h
   exact RetP_2 (R1_A Try.isAgg46 Try.sizeOf46 rfl rfl rfl rfl) (R1_E rfl rfl) rfl
  ·replace h := cnd_f hb2 h
   refine AW_skip ?_
   refine AW_seqJ (fun e' H' => Rep 57 0 e' H' (mkE [(1, (li a_frame)), (2, (li a_order)), (3, (AV.ptr 0 0)), (6, (AV.ptr 1 0))]) [.box 46 (cZone a_z), .box 46 ([(li 0)] ++ ([(li 0)] ++ ([(li 0)] ++ ([(li 0)] ++ ([(li 0)] ++ ((cA 5 (eS cI) ([] : List Int) (List.replicate 5 ([] : List Int))) ++ []))))))] ∧ buddy_Free_j0 a_z a_frame a_order = some r) ?_ ?_
   ·
    refine AW_seq <| AW_region <| ALW_val (AVal_move rfl) <| ALW_val (AVal_assign rfl) <| ALW_nil <| AW_block ?_
    refine AW_loop (σ := Nat × Int) (fun s => s.1) (fun s e' H' => match s with | (n0, i1) => Rep 57 0 e' H' (mkE [(1, (li a_frame)), (2, (li a_order)), (3, (AV.ptr 0 0)), (6, (AV.ptr 1 0)), (9, (li i1))]) [.box 46 (cZone a_z), .box 46 ([(li 0)] ++ ([(li 0)] ++ ([(li 0)] ++ ([(li 0)] ++ ([(li 0)] ++ ((cA 5 (eS cI) ([] : List Int) (List.replicate 5 ([] : List Int))) ++ []))))))] ∧ buddy_Free_l0 a_z a_frame a_order n0 i1 = some r) (FUEL, a_frame) ⟨RepP [0, 1] rfl rfl (by kernel_rfl), h⟩ ?_
    clear h
    rintro ⟨n0, i1⟩ e' H' ⟨hrep, h⟩
    cases n0 with
    | zero => exact absurd (show (none : Option _) = some r from h) (by simp)
    | succ n0 =>
     replace h : buddy_Free_b0 a_z a_frame a_order (buddy_Free_l0 a_z a_frame a_order n0) i1 = some r := h
     unfold buddy_Free_b0 at h
     refine AW_rep hrep ?_
     clear hrep
     refine AW_seq <| AW_seq <| AW_region <| ALW_val (AVal_move rfl) <| ALW_val (AVal_move rfl) <| ALW_val (AVal_move rfl) ?_
     have hb3 := (chk_some h).1
     replace h := (chk_some h).2
     have hb4 := (chk_some h).1
     replace h := (chk_some h).2
     refine ALW_val (AVal_shl (a := 1) (b := a_order) rfl rfl hb3 hb4) ?_
     have hb5 := (chk_some h).1
     replace h := (chk_some h).2
     refine ALW_val (AVal_add rfl rfl hb5) <| ALW_val (AVal_lss rfl rfl) <| ALW_nil ?_
     refine AW_cond (decide (i1 < (a_frame + ((1 : Int) * 2 ^ a_order.toNat)))) rfl (fun hb6 => ?_) (fun hb6 => ?_)
     ·replace h := cnd_t hb6 h
      refine AW_skip <| AW_seq <| AW_block <| AW_seq <| AW_region <| ALW_val (AVal_loadA (k := 0) (o := 0) (m := 10) Try.isAgg46 Try.sizeOf46 rfl rfl rfl rfl rfl) ?_
      refine ALW_val (AVal_move rfl) ?_
      refine bnd_elim h ?_; clear h; intro x5 hx5 h
      refine ALW_callN Try.func66 rfl (by kernel_rfl) (.fn 66) rfl rfl (buddy_block_ok hx5) rfl <| ALW_val (AVal_move rfl) <| ALW_val (AVal_extract rfl rfl) <| ALW_val (AVal_extract rfl rfl) <| ALW_val (AVal_assign rfl) <| ALW_val (AVal_assign rfl) ?_
      refine ALW_nil <| AW_seq <| AW_region <| ALW_val (AVal_move rfl) <| ALW_val (AVal_geq rfl rfl) <| ALW_nil ?_
      refine AW_cond (decide (0 ≤ x5.1)) rfl (fun hb7 => ?_) (fun hb7 => ?_)
      ·replace h := cnd_t hb7 h
       refine AW_seq <| AW_region <| ALW_val (AVal_build (pl := [(0, 1), (1, 1), (2, 1), (3, 1), (4, 1), (5, 5)]) (zs := [.int .i64 0, .int .i64 0, .int .i64 0, .int .i64 0, .int .i64 0, .slice none 0 0, .slice none 0 0, .slice none 0 0, .slice none 0 0, .slice none 0 0]) (zc := [.lit (.int .i64 0), .lit (.int .i64 0), .lit (.int .i64 0), .lit (.int .i64 0), .lit (.int .i64 0), .sl false [], .sl false [], .sl false [], .sl false [], .sl false []]) (res := (cZone (⟨0, 0, 0, 0, 0, (List.replicate 5 ([] : List Int))⟩ : Zone))) (fun _ => by kernel_rfl) rfl (⟨SubF.refl _, ⟨SubF.refl _, ⟨SubF.refl _, ⟨SubF.refl _, ⟨SubF.refl _, ⟨SubF.nils, ⟨SubF.nils, ⟨SubF.nils, ⟨SubF.nils, ⟨SubF.nils, trivial⟩⟩⟩⟩⟩⟩⟩⟩⟩⟩) (by exact SubL.refl _)) <| ALW_act (H' := [.box 46 (cZone a_z), .box 46 (cZone (⟨0, 0, 0, 0, 0, (List.replicate 5 ([] : List Int))⟩ : Zone))]) (AAct_storeA (k := 1) (o := 0) (cs := ([(li 0)] ++ ([(li 0)] ++ ([(li 0)] ++ ([(li 0)] ++ ([(li 0)] ++ ((cA 5 (eS cI) ([] : List Int) (List.replicate 5 ([] : List Int))) ++ []))))))) (la := (cZone (⟨0, 0, 0, 0, 0, (List.replicate 5 ([] : List Int))⟩ : Zone))) Try.sizeOf46 rfl rfl rfl rfl) <| ALW_val (AVal_assign rfl) <| ALW_nil ?_
       refine AW_ret ?_
       show RetP _ _ _ _ _ _
       obtain rfl := Option.some.inj h
       exact RetP_2 (R1_A Try.isAgg46 Try.sizeOf46 rfl rfl rfl rfl) (R1_E rfl rfl) rfl
      ·replace h := cnd_f hb7 h
       refine AW_skip <| AW_region <| ALW_val (AVal_move rfl) ?_
       have hb8 := (chk_some h).1
       replace h := (chk_some h).2
       refine ALW_val (AVal_add rfl rfl hb8) <| ALW_val (AVal_assign rfl) <| ALW_nil ?_
       exact ⟨(n0, (i1 + 1)), Nat.lt_succ_self _, RepP [0, 1] rfl rfl (by kernel_rfl), h⟩
     ·replace h := cnd_f hb6 h
      refine AW_exit ?_
      exact ⟨RepP [0, 1] rfl rfl (by kernel_rfl), h⟩
   ·
    clear h
    rintro e' H' ⟨hrep, h⟩
    refine AW_rep hrep ?_
    clear hrep
    unfold buddy_Free_j0 at h
    refine AW_seq <| AW_region <| ALW_val (AVal_loadA (k := 0) (o := 0) (m := 10) Try.isAgg46 Try.sizeOf46 rfl rfl rfl rfl rfl) ?_
    refine bnd_elim h ?_; clear h; intro x3 hx3 h
    refine ALW_callA (cs := ([(li x3.node)] ++ ([(li x3.kind)] ++ ([(li x3.start)] ++ ([(li x3.count)] ++ ([(li x3.min)] ++ ((cM 5 3 (5 : Int) x3.free) ++ []))))))) (la := [(AV.agg (cZone a_z))]) (la' := [(AV.agg (cZone a_z))]) (S := []) Try.func82 rfl (by kernel_rfl) (.fn 82) rfl ⟨View.nr rfl, trivial⟩ (buddy_clone_ok hx3) (.inl rfl) <| ALW_step (H' := [.box 46 (cZone a_z), .box 46 ([(li 0)] ++ ([(li 0)] ++ ([(li 0)] ++ ([(li 0)] ++ ([(li 0)] ++ ((cA 5 (eS cI) ([] : List Int) (List.replicate 5 ([] : List Int))) ++ [])))))), .val (.agg ([(li x3.node)] ++ ([(li x3.kind)] ++ ([(li x3.start)] ++ ([(li x3.count)] ++ ([(li x3.min)] ++ ((cM 5 3 (5 : Int) x3.free) ++ []))))))), .box 46 ([(li 0)] ++ ([(li 0)] ++ ([(li 0)] ++ ([(li 0)] ++ ([(li 0)] ++ ((cA 5 (eS cI) ([] : List Int) (List.replicate 5 ([] : List Int))) ++ []))))))]) (AStep_alloc (t := 46) (vs := [.int .i64 0, .int .i64 0, .int .i64 0, .int .i64 0, .int .i64 0, .slice none 0 0, .slice none 0 0, .slice none 0 0, .slice none 0 0, .slice none 0 0]) (cs := [.lit (.int .i64 0), .lit (.int .i64 0), .lit (.int .i64 0), .lit (.int .i64 0), .lit (.int .i64 0), .sl false [], .sl false [], .sl false [], .sl false [], .sl false []]) Try.zeroValue46 (by kernel_rfl) rfl ⟨SubF.refl _, SubF.refl _, SubF.refl _, SubF.refl _, SubF.refl _, SubF.nils, SubF.nils, SubF.nils, SubF.nils, SubF.nils, trivial⟩) <| ALW_act (H' := [.box 46 (cZone a_z), .box 46 ([(li 0)] ++ ([(li 0)] ++ ([(li 0)] ++ ([(li 0)] ++ ([(li 0)] ++ ((cA 5 (eS cI) ([] : List Int) (List.replicate 5 ([] : List Int))) ++ [])))))), .dead, .box 46 ([(li x3.node)] ++ ([(li x3.kind)] ++ ([(li x3.start)] ++ ([(li x3.count)] ++ ([(li x3.min)] ++ ((cM 5 3 (5 : Int) x3.free) ++ []))))))]) (AAct_storeT (k := 3) (o := 0) (j := 2) (cs := ([(li 0)] ++ ([(li 0)] ++ ([(li 0)] ++ ([(li 0)] ++ ([(li 0)] ++ ((cA 5 (eS cI) ([] : List Int) (List.replicate 5 ([] : List Int))) ++ []))))))) (la := ([(li x3.node)] ++ ([(li x3.kind)] ++ ([(li x3.start)] ++ ([(li x3.count)] ++ ([(li x3.min)] ++ ((cM 5 3 (5 : Int) x3.free) ++ []))))))) Try.sizeOf46 rfl rfl rfl rfl rfl (by decide)) <| ALW_nil <| AW_seq <| AW_region ?_
    refine ALW_val (AVal_move rfl) <| ALW_val (AVal_move rfl) ?_
    refine bnd_elim h ?_; clear h; intro x4 hx4 h
    refine ALW_callX (k := 3) (la := [(AV.ptr 3 0), (li a_frame), (li a_order)]) (la' := [(AV.ptr 0 0), (li a_frame), (li a_order)]) (r := (.tup [])) (S := []) (en' := .box 46 ([(li x4.node)] ++ ([(li x4.kind)] ++ ([(li x4.start)] ++ ([(li x4.count)] ++ ([(li x4.min)] ++ ((cM 5 3 (5 : Int) x4.free) ++ []))))))) Try.func52 rfl (by kernel_rfl) (.fn 52) rfl ⟨ViewK.ptr, ViewK.of (View.nr rfl), ViewK.of (View.nr rfl), trivial⟩ rfl rfl (by kernel_rfl) (by kernel_rfl) (buddy_put_ok hx4) rfl (.inl rfl) <| ALW_nil <| AW_seq <| AW_region <| ALW_rep (Rep_frzM0 (k := 3) (cs := ([(li x4.node)] ++ ([(li x4.kind)] ++ ([(li x4.start)] ++ ([(li x4.count)] ++ ([(li x4.min)] ++ ((cM 5 3 (5 : Int) x4.free) ++ []))))))) (hd := ([(li x4.node)] ++ [(li x4.kind)] ++ [(li x4.start)] ++ [(li x4.count)] ++ [(li x4.min)] ++ [])) (tl := ([])) (N := 5) (T := 3) (K := 5) (l := x4.free) rfl rfl) <| ALW_val (AVal_loadA (k := 3) (o := 0) (m := 10) Try.isAgg46 Try.sizeOf46 rfl rfl rfl rfl rfl) ?_
    refine ALW_act (H' := [.box 46 (cZone a_z), .box 46 (cZone (⟨x4.node, x4.kind, x4.start, x4.count, x4.min, x4.free⟩ : Zone)), .dead, .box 46 ([(li x4.node)] ++ ([(li x4.kind)] ++ ([(li x4.start)] ++ ([(li x4.count)] ++ ([(li x4.min)] ++ ((cA 5 (eS cI) ([] : List Int) x4.free) ++ []))))))]) (AAct_storeA (k := 1) (o := 0) (cs := ([(li 0)] ++ ([(li 0)] ++ ([(li 0)] ++ ([(li 0)] ++ ([(li 0)] ++ ((cA 5 (eS cI) ([] : List Int) (List.replicate 5 ([] : List Int))) ++ []))))))) (la := (cZone (⟨x4.node, x4.kind, x4.start, x4.count, x4.min, x4.free⟩ : Zone))) Try.sizeOf46 rfl rfl rfl rfl) <| ALW_val (AVal_assign rfl) <| ALW_nil <| AW_ret ?_
    show RetP _ _ _ _ _ _
    obtain rfl := Option.some.inj h
    exact RetP_2 (R1_A Try.isAgg46 Try.sizeOf46 rfl rfl rfl rfl) (R1_E rfl rfl) rfl
theorem allocator_give_ok {a_a : Allocator} {a_z : Int} {a_frames : List Int} {r : Allocator} (h : allocator_give a_a a_z a_frames = some r) : AFn Try.prog 47 [(AV.ptr 0 0), (li a_z), (ls cI a_frames)] [.box 29 ([(ls cI a_a.nodes)] ++ ([(li a_a.batch)] ++ ([(li a_a.high)] ++ ([AV.osl 46 10 (List.map cZone a_a.zones)] ++ ([AV.osl 50 1 (List.map cCpuCache a_a.caches)] ++ [])))))] (.tup []) [.box 29 ([(ls cI r.nodes)] ++ ([(li r.batch)] ++ ([(li r.high)] ++ ([AV.osl 46 10 (List.map cZone r.zones)] ++ ([AV.osl 50 1 (List.map cCpuCache r.caches)] ++ [])))))] := by
 refine AFn_enter2 Try.func47 rfl Try.ntmps47 Try.results47 rfl ?_
 unfold allocator_give at h
 refine AW_seq <| AW_region <| ALW_val (AVal_move rfl) <| ALW_val (AVal_lenM Try.underlying22 rfl) <| ALW_val (AVal_move rfl) <| ALW_nil ?_
 refine AW_block <| AW_loop (σ := Nat × Int × (List Zone)) (fun s => s.1) (fun s e' H' => match s with | (n0, i1, l1) => Rep 38 1 e' H' (mkE [(0, (AV.ptr 0 0)), (1, (li a_z)), (10, (ls cI a_frames)), (11, (li (a_frames.length : Int))), (12, (li i1))]) [.box 29 ([(ls cI a_a.nodes)] ++ ([(li a_a.batch)] ++ ([(li a_a.high)] ++ ([AV.osl 46 10 (List.map cZone l1)] ++ ([AV.osl 50 1 (List.map cCpuCache a_a.caches)] ++ [])))))] ∧ allocator_give_l0 a_a a_z a_frames n0 i1 l1 = some r) (FUEL, 0, a_a.zones) ⟨RepP [0] rfl rfl (by kernel_rfl), h⟩ ?_
 clear h
 rintro ⟨n0, i1, l1⟩ e' H' ⟨hrep, h⟩
 cases n0 with
 | zero => exact absurd (show (none : Option _) = some r from h) (by simp)
 | succ n0 =>
  replace h : allocator_give_b0 a_a a_z a_frames (allocator_give_l0 a_a a_z a_frames n0) i1 l1 = some r := h
  unfold allocator_give_b0 at h
  refine AW_rep hrep ?_
  clear hrep
  refine AW_seq <| AW_region <| ALW_val (AVal_lss rfl rfl) <| ALW_nil <| AW_seq ?_
  refine AW_cond (decide (i1 < (a_frames.length : Int))) rfl (fun hb1 => ?_) (fun hb1 => ?_)
  ·replace h := cnd_t hb1 h
   refine AW_skip ?_
   refine AW_seqJ (fun e' H' => ∃ (l2 : List Zone), Rep 38 1 e' H' (mkE [(0, (AV.ptr 0 0)), (1, (li a_z)), (10, (ls cI a_frames)), (11, (li (a_frames.length : Int))), (12, (li i1))]) [.box 29 ([(ls cI a_a.nodes)] ++ ([(li a_a.batch)] ++ ([(li a_a.high)] ++ ([AV.osl 46 10 (List.map cZone l2)] ++ ([AV.osl 50 1 (List.map cCpuCache a_a.caches)] ++ [])))))] ∧ allocator_give_j0 (allocator_give_l0 a_a a_z a_frames n0) i1 l2 = some r) ?_ ?_
   ·
    refine AW_block <| AW_seq <| AW_region ?_
    have hb3 := (chk_some h).1
    replace h := (chk_some h).2
    refine ALW_val (AVal_idxSM Try.underlying22 Try.sizeOf3 (fun _ => rfl) rfl rfl hb3) <| ALW_val (AVal_loadR1 (o := 0) Try.isAgg3 rfl rfl) <| ALW_val (AVal_assign rfl) <| ALW_nil <| AW_seq <| AW_region ?_
    refine ALW_val (AVal_move rfl) <| ALW_val (AVal_nilCheck rfl) <| ALW_val (AVal_field Try.underlying29 rfl rfl Try.sizeOf26 rfl) <| ALW_rep (Rep_open (k := 0) (o := 3) (t' := 46) (sz := 10) (rows := List.map cZone l1) rfl rfl) <| ALW_val (AVal_load1 Try.isAgg26 rfl rfl rfl rfl) <| ALW_val (AVal_move rfl) ?_
    have hb4 := (chk_some h).1
    replace h := (chk_some h).2
    refine ALW_val (AVal_idxVM (f := cZone) (l := l1) (i := a_z) Try.underlying26 Try.sizeOf46 rfl rfl rfl hb4) <| ALW_val (AVal_loadVAM (f := cZone) (l := l1) (i := a_z) (c := 0) (q := 10) (la := (cZone (at_ l1 a_z))) Try.isAgg46 Try.sizeOf46 rfl rfl (by first | rfl | omega) hb4 rfl rfl rfl) <| ALW_val (AVal_move rfl) ?_
    refine bnd_elim h ?_; clear h; intro x1 hx1 h
    refine ALW_callN Try.func81 rfl (by kernel_rfl) (.fn 81) rfl rfl (buddy_Free_ok hx1) rfl <| ALW_val (AVal_move rfl) <| ALW_val (AVal_extract rfl rfl) <| ALW_val (AVal_extract rfl rfl) <| ALW_step (H' := [.box 29 ([(ls cI a_a.nodes)] ++ ([(li a_a.batch)] ++ ([(li a_a.high)] ++ ([AV.hd 1] ++ ([AV.osl 50 1 (List.map cCpuCache a_a.caches)] ++ []))))), .vec 46 10 (List.map cZone l1), .box 46 ([(li 0)] ++ ([(li 0)] ++ ([(li 0)] ++ ([(li 0)] ++ ([(li 0)] ++ ((cA 5 (eS cI) ([] : List Int) (List.replicate 5 ([] : List Int))) ++ []))))))]) (AStep_alloc (t := 46) (vs := [.int .i64 0, .int .i64 0, .int .i64 0, .int .i64 0, .int .i64 0, .slice none 0 0, .slice none 0 0, .slice none 0 0, .slice none 0 0, .slice none 0 0]) (cs := [.lit (.int .i64 0), .lit (.int .i64 0), .lit (.int .i64 0), .lit (.int .i64 0), .lit (.int .i64 0), .sl false [], .sl false [], .sl false [], .sl false [], .sl false []]) Try.zeroValue46 (by kernel_rfl) rfl ⟨SubF.refl _, SubF.refl _, SubF.refl _, SubF.refl _, SubF.refl _, SubF.nils, SubF.nils, SubF.nils, SubF.nils, SubF.nils, trivial⟩) <| ALW_act (H' := [.box 29 ([(ls cI a_a.nodes)] ++ ([(li a_a.batch)] ++ ([(li a_a.high)] ++ ([AV.hd 1] ++ ([AV.osl 50 1 (List.map cCpuCache a_a.caches)] ++ []))))), .vec 46 10 (List.map cZone l1), .box 46 (cZone x1.1)]) (AAct_storeA (k := 2) (o := 0) (cs := ([(li 0)] ++ ([(li 0)] ++ ([(li 0)] ++ ([(li 0)] ++ ([(li 0)] ++ ((cA 5 (eS cI) ([] : List Int) (List.replicate 5 ([] : List Int))) ++ []))))))) (la := (cZone x1.1)) Try.sizeOf46 rfl rfl rfl rfl) ?_
    refine ALW_val (AVal_assign rfl) <| ALW_nil <| AW_seq <| AW_region <| ALW_val (AVal_move rfl) <| ALW_val (AVal_eql rfl rfl) ?_
    refine ALW_nil ?_
    refine AW_cond (decide (x1.2 = 0)) rfl (fun hb5 => ?_) (fun hb5 => ?_)
    ·replace h := cnd_t hb5 h
     show AW _ _ _ _ _ _ [.box 29 ([(ls cI a_a.nodes)] ++ ([(li a_a.batch)] ++ ([(li a_a.high)] ++ ([AV.hd 1] ++ ([AV.osl 50 1 (List.map cCpuCache a_a.caches)] ++ []))))), .vec 46 10 (List.map cZone l1), .box 46 (cZone x1.1)]
     refine AW_draw (n := 38) (m := 1) [.head 0 0, .head 0 0, .head 0 0, .head 0 0, .head 0 0, .head 0 0, .head 0 0, .tail 0] [7] [(AV.ptr 0 0), (AV.ptr 0 0), (AV.ptr 0 3), (AV.hd 1), (li a_z), (AV.agg (cZone x1.1)), (AV.ptr 1 (a_z.toNat * 10)), .any] [[.box 29 ([(ls cI a_a.nodes)] ++ ([(li a_a.batch)] ++ ([(li a_a.high)] ++ ([AV.hd 1] ++ ([AV.osl 50 1 (List.map cCpuCache a_a.caches)] ++ []))))), .vec 46 10 (List.map cZone l1), .box 46 (cZone x1.1)], [.box 29 ([(ls cI a_a.nodes)] ++ ([(li a_a.batch)] ++ ([(li a_a.high)] ++ ([AV.hd 1] ++ ([AV.osl 50 1 (List.map cCpuCache a_a.caches)] ++ []))))), .vec 46 10 (List.map cZone (l1.set a_z.toNat x1.1)), .box 46 (cZone x1.1)]] (by kernel_rfl) (by kernel_rfl) ⟨?_, ?_, ?_, ?_, ?_, ?_, ?_, ?_, trivial⟩ ?_
     ·exact fun e s p => ALW1 (AVal_move (av := (AV.ptr 0 0)) (s 0 rfl)) ⟨fun _ => rfl, rfl⟩
     ·exact fun e s p => ALW1 (AVal_nilCheck p.1) ⟨fun _ => rfl, rfl⟩
     ·exact fun e s p => ALW1 (AVal_field (k := 0) (o := 0) (off := 3) Try.underlying29 rfl rfl Try.sizeOf26 p.1) ⟨fun _ => rfl, rfl⟩
     ·exact fun e s p => ALW1 (AVal_load1 (k := 0) (o := 3) (a := (AV.hd 1)) Try.isAgg26 p.1 rfl rfl rfl) ⟨fun _ => rfl, rfl⟩
     ·exact fun e s p => ALW1 (AVal_move (av := (li a_z)) (s 1 rfl)) ⟨fun _ => rfl, rfl⟩
     ·exact fun e s p => ALW1 (AVal_loadA (k := 2) (o := 0) (m := 10) (la := (cZone x1.1)) Try.isAgg46 Try.sizeOf46 (s 8 rfl) rfl rfl rfl rfl) ⟨fun _ => rfl, rfl⟩
     ·exact fun e s p => ALW1 (AVal_idxVM (f := cZone) (l := l1) (i := a_z) Try.underlying26 Try.sizeOf46 p.2.2.2.2.2.1 rfl p.2.2.2.2.2.2.1 hb4) ⟨fun _ => rfl, rfl⟩
     ·
      intro e8 hs8 hp8
      refine ALW_act (H' := [.box 29 ([(ls cI a_a.nodes)] ++ ([(li a_a.batch)] ++ ([(li a_a.high)] ++ ([AV.hd 1] ++ ([AV.osl 50 1 (List.map cCpuCache a_a.caches)] ++ []))))), .vec 46 10 (List.map cZone (l1.set a_z.toNat x1.1)), .box 46 (cZone x1.1)]) (AAct_storeVAM (k := 1) (o := (a_z.toNat * 10)) (f := cZone) (l := l1) (i := a_z) (z := x1.1) Try.sizeOf46 (fun _ => rfl) (by exact hp8.1) rfl (by first | rfl | omega) hb4 (by exact hp8.2.2.2.2.2.2.2.1) rfl) ?_
      exact ALW_nil ⟨fun _ => rfl, rfl⟩
     intro e9 hs9 hq1
     exact ⟨(l1.set a_z.toNat x1.1), Rep.trans (Rep_mk (l := [(0, (AV.ptr 0 0)), (1, (li a_z)), (10, (ls cI a_frames)), (11, (li (a_frames.length : Int))), (12, (li i1))]) ⟨(hs9 0 rfl), (hs9 1 rfl), (hs9 10 rfl), (hs9 11 rfl), (hs9 12 rfl), trivial⟩) (Rep.trans (Rep_close (k := 0) (j := 1) (o := 3) (cs := ([(ls cI a_a.nodes)] ++ ([(li a_a.batch)] ++ ([(li a_a.high)] ++ ([AV.hd 1] ++ ([AV.osl 50 1 (List.map cCpuCache a_a.caches)] ++ [])))))) rfl rfl rfl rfl) (RepP [0] (l := [(0, (AV.ptr 0 0)), (1, (li a_z)), (10, (ls cI a_frames)), (11, (li (a_frames.length : Int))), (12, (li i1))]) rfl rfl (by kernel_rfl))), h⟩
    ·replace h := cnd_f hb5 h
     refine AW_skip ?_
     exact ⟨l1, Rep.trans (Rep_close (k := 0) (j := 1) (o := 3) rfl rfl rfl rfl) (RepP [0] (l := [(0, (AV.ptr 0 0)), (1, (li a_z)), (10, (ls cI a_frames)), (11, (li (a_frames.length : Int))), (12, (li i1))]) rfl rfl (by kernel_rfl)), h⟩
   ·
    clear h
    rintro e' H' ⟨l2, hrep, h⟩
    refine AW_rep hrep ?_
    clear hrep
    unfold allocator_give_j0 at h
    refine AW_region ?_
    have hb2 := (chk_some h).1
    replace h := (chk_some h).2
    refine ALW_val (AVal_add rfl rfl hb2) <| ALW_val (AVal_move rfl) <| ALW_nil ?_
    exact ⟨(n0, (i1 + 1), l2), Nat.lt_succ_self _, RepP [0] rfl rfl (by kernel_rfl), h⟩
  ·replace h := cnd_f hb1 h
   refine AW_exit ?_
   show RetB _ _ _ _ _ _ _ _
   obtain rfl := Option.some.inj h
   exact ⟨mkE [], [.box 29 ([(ls cI a_a.nodes)] ++ ([(li a_a.batch)] ++ ([(li a_a.high)] ++ ([AV.osl 46 10 (List.map cZone l1)] ++ ([AV.osl 50 1 (List.map cCpuCache a_a.caches)] ++ [])))))], RepP [0] rfl rfl (by kernel_rfl), RetA_0 rfl⟩
theorem allocator_drain_ok {a_a : Allocator} {a_cpu : Int} {a_z : Int} {r : Allocator} (h : allocator_drain a_a a_cpu a_z = some r) : AFn Try.prog 44 [(AV.ptr 0 0), (li a_cpu), (li a_z)] [.box 29 ([(ls cI a_a.nodes)] ++ ([(li a_a.batch)] ++ ([(li a_a.high)] ++ ([AV.osl 46 10 (List.map cZone a_a.zones)] ++ ([AV.osl 50 1 (List.map cCpuCache a_a.caches)] ++ [])))))] (.tup []) [.box 29 ([(ls cI r.nodes)] ++ ([(li r.batch)] ++ ([(li r.high)] ++ ([AV.osl 46 10 (List.map cZone r.zones)] ++ ([AV.osl 50 1 (List.map cCpuCache r.caches)] ++ [])))))] := by
 refine AFn_enter2 Try.func44 rfl Try.ntmps44 Try.results44 rfl ?_
 unfold allocator_drain at h
 refine AW_seq <| AW_region <| ALW_val (AVal_move rfl) <| ALW_val (AVal_nilCheck rfl) <| ALW_val (AVal_field Try.underlying29 rfl rfl Try.sizeOf27 rfl) <| ALW_rep (Rep_open (k := 0) (o := 4) (t' := 50) (sz := 1) (rows := List.map cCpuCache a_a.caches) rfl rfl) ?_
 refine ALW_val (AVal_load1 Try.isAgg27 rfl rfl rfl rfl) <| ALW_val (AVal_move rfl) ?_
 have hb1 := (chk_some h).1
 replace h := (chk_some h).2
 refine ALW_val (AVal_idxVM (f := cCpuCache) (l := a_a.caches) (i := a_cpu) Try.underlying27 Try.sizeOf50 rfl rfl rfl hb1) <| ALW_val (AVal_loadVAM (f := cCpuCache) (l := a_a.caches) (i := a_cpu) (c := 0) (q := 1) (la := (cCpuCache (at_ a_a.caches a_cpu))) Try.isAgg50 Try.sizeOf50 rfl rfl (by first | rfl | omega) hb1 rfl rfl rfl) <| ALW_val (AVal_move rfl) ?_
 refine bnd_elim h ?_; clear h; intro x1 hx1 h
 refine ALW_callN Try.func78 rfl (by kernel_rfl) (.fn 78) rfl rfl (percpu_Drain_ok hx1) rfl <| ALW_val (AVal_move rfl) <| ALW_val (AVal_extract rfl rfl) <| ALW_val (AVal_extract rfl rfl) <| ALW_val (AVal_extract rfl rfl) <| ALW_step (H' := [.box 29 ([(ls cI a_a.nodes)] ++ ([(li a_a.batch)] ++ ([(li a_a.high)] ++ ([AV.osl 46 10 (List.map cZone a_a.zones)] ++ ([AV.hd 1] ++ []))))), .vec 50 1 (List.map cCpuCache a_a.caches), .box 50 ([(ls (cS cI) ([] : List (List Int)))] ++ [])]) (AStep_alloc (t := 50) (vs := [.slice none 0 0]) (cs := [.sl false []]) Try.zeroValue50 (by kernel_rfl) rfl ⟨SubF.nils, trivial⟩) ?_
 refine ALW_act (H' := [.box 29 ([(ls cI a_a.nodes)] ++ ([(li a_a.batch)] ++ ([(li a_a.high)] ++ ([AV.osl 46 10 (List.map cZone a_a.zones)] ++ ([AV.hd 1] ++ []))))), .vec 50 1 (List.map cCpuCache a_a.caches), .box 50 (cCpuCache x1.1)]) (AAct_storeA (k := 2) (o := 0) (cs := ([(ls (cS cI) ([] : List (List Int)))] ++ [])) (la := (cCpuCache x1.1)) Try.sizeOf50 rfl rfl rfl rfl) <| ALW_val (AVal_assign rfl) <| ALW_val (AVal_assign rfl) <| ALW_nil <| AW_seq <| AW_region ?_
 refine ALW_val (AVal_move rfl) <| ALW_val (AVal_eql rfl rfl) <| ALW_nil ?_
 refine AW_cond (decide (x1.2.2 = 0)) rfl (fun hb2 => ?_) (fun hb2 => ?_)
 ·replace h := cnd_t hb2 h
  refine AW_seq ?_
  show AW _ _ _ _ _ _ [.box 29 ([(ls cI a_a.nodes)] ++ ([(li a_a.batch)] ++ ([(li a_a.high)] ++ ([AV.osl 46 10 (List.map cZone a_a.zones)] ++ ([AV.hd 1] ++ []))))), .vec 50 1 (List.map cCpuCache a_a.caches), .box 50 (cCpuCache x1.1)]
  refine AW_draw (n := 35) (m := 1) [.head 0 0, .head 0 0, .head 0 0, .head 0 0, .head 0 0, .head 0 0, .head 0 0, .tail 0] [7] [(AV.ptr 0 0), (AV.ptr 0 0), (AV.ptr 0 4), (AV.hd 1), (li a_cpu), (AV.agg (cCpuCache x1.1)), (AV.ptr 1 (a_cpu.toNat * 1)), .any] [[.box 29 ([(ls cI a_a.nodes)] ++ ([(li a_a.batch)] ++ ([(li a_a.high)] ++ ([AV.osl 46 10 (List.map cZone a_a.zones)] ++ ([AV.hd 1] ++ []))))), .vec 50 1 (List.map cCpuCache a_a.caches), .box 50 (cCpuCache x1.1)], [.box 29 ([(ls cI a_a.nodes)] ++ ([(li a_a.batch)] ++ ([(li a_a.high)] ++ ([AV.osl 46 10 (List.map cZone a_a.zones)] ++ ([AV.hd 1] ++ []))))), .vec 50 1 (List.map cCpuCache (a_a.caches.set a_cpu.toNat x1.1)), .box 50 (cCpuCache x1.1)]] (by kernel_rfl) (by kernel_rfl) ⟨?_, ?_, ?_, ?_, ?_, ?_, ?_, ?_, trivial⟩ ?_
  ·exact fun e s p => ALW1 (AVal_move (av := (AV.ptr 0 0)) (s 0 rfl)) ⟨fun _ => rfl, rfl⟩
  ·exact fun e s p => ALW1 (AVal_nilCheck p.1) ⟨fun _ => rfl, rfl⟩
  ·exact fun e s p => ALW1 (AVal_field (k := 0) (o := 0) (off := 4) Try.underlying29 rfl rfl Try.sizeOf27 p.1) ⟨fun _ => rfl, rfl⟩
  ·exact fun e s p => ALW1 (AVal_load1 (k := 0) (o := 4) (a := (AV.hd 1)) Try.isAgg27 p.1 rfl rfl rfl) ⟨fun _ => rfl, rfl⟩
  ·exact fun e s p => ALW1 (AVal_move (av := (li a_cpu)) (s 1 rfl)) ⟨fun _ => rfl, rfl⟩
  ·exact fun e s p => ALW1 (AVal_loadA (k := 2) (o := 0) (m := 1) (la := (cCpuCache x1.1)) Try.isAgg50 Try.sizeOf50 (s 6 rfl) rfl rfl rfl rfl) ⟨fun _ => rfl, rfl⟩
  ·exact fun e s p => ALW1 (AVal_idxVM (f := cCpuCache) (l := a_a.caches) (i := a_cpu) Try.underlying27 Try.sizeOf50 p.2.2.2.2.2.1 rfl p.2.2.2.2.2.2.1 hb1) ⟨fun _ => rfl, rfl⟩
  ·
   intro e8 hs8 hp8
   refine ALW_act (H' := [.box 29 ([(ls cI a_a.nodes)] ++ ([(li a_a.batch)] ++ ([(li a_a.high)] ++ ([AV.osl 46 10 (List.map cZone a_a.zones)] ++ ([AV.hd 1] ++ []))))), .vec 50 1 (List.map cCpuCache (a_a.caches.set a_cpu.toNat x1.1)), .box 50 (cCpuCache x1.1)]) (AAct_storeVAM (k := 1) (o := (a_cpu.toNat * 1)) (f := cCpuCache) (l := a_a.caches) (i := a_cpu) (z := x1.1) Try.sizeOf50 (fun _ => rfl) (by exact hp8.1) rfl (by first | rfl | omega) hb1 (by exact hp8.2.2.2.2.2.2.2.1) rfl) ?_
   exact ALW_nil ⟨fun _ => rfl, rfl⟩
  intro e9 hs9 hq1
  refine AW_rep (Rep_mk (l := [(0, (AV.ptr 0 0)), (2, (li a_z)), (7, (ls cI x1.2.1))]) ⟨(hs9 0 rfl), (hs9 2 rfl), (hs9 7 rfl), trivial⟩) <| AW_region <| ALW_val (AVal_move (av := (AV.ptr 0 0)) rfl) <| ALW_val (AVal_move (av := (li a_z)) rfl) <| ALW_val (AVal_move (av := (ls cI x1.2.1)) rfl) <| ALW_rep (Rep_close (k := 0) (j := 1) (o := 4) (cs := ([(ls cI a_a.nodes)] ++ ([(li a_a.batch)] ++ ([(li a_a.high)] ++ ([AV.osl 46 10 (List.map cZone a_a.zones)] ++ ([AV.hd 1] ++ [])))))) rfl rfl rfl rfl) ?_
  refine bnd_elim h ?_; clear h; intro x2 hx2 h
  refine ALW_callX (k := 0) (la := [(AV.ptr 0 0), (li a_z), (ls cI x1.2.1)]) (la' := [(AV.ptr 0 0), (li a_z), (ls cI x1.2.1)]) (r := (.tup [])) (S := []) (en' := .box 29 ([(ls cI x2.nodes)] ++ ([(li x2.batch)] ++ ([(li x2.high)] ++ ([AV.osl 46 10 (List.map cZone x2.zones)] ++ ([AV.osl 50 1 (List.map cCpuCache x2.caches)] ++ [])))))) Try.func47 rfl (by kernel_rfl) (.fn 47) rfl ⟨ViewK.ptr, ViewK.of (View.nr rfl), ViewK.of (View.nr rfl), trivial⟩ rfl rfl (by kernel_rfl) (by kernel_rfl) (allocator_give_ok hx2) rfl (.inl rfl) <| ALW_nil ?_
  show RetB _ _ _ _ _ _ _ _
  obtain rfl := Option.some.inj h
  exact ⟨mkE [], [.box 29 ([(ls cI x2.nodes)] ++ ([(li x2.batch)] ++ ([(li x2.high)] ++ ([AV.osl 46 10 (List.map cZone x2.zones)] ++ ([AV.osl 50 1 (List.map cCpuCache x2.caches)] ++ [])))))], RepP [0] rfl rfl (by kernel_rfl), RetA_0 rfl⟩
 ·replace h := cnd_f hb2 h
  refine AW_skip ?_
  show RetB _ _ _ _ _ _ _ _
  obtain rfl := Option.some.inj h
  exact ⟨mkE [], [.box 29 ([(ls cI a_a.nodes)] ++ ([(li a_a.batch)] ++ ([(li a_a.high)] ++ ([AV.osl 46 10 (List.map cZone a_a.zones)] ++ ([AV.osl 50 1 (List.map cCpuCache a_a.caches)] ++ [])))))], Rep.trans (Rep_close (k := 0) (j := 1) (o := 4) rfl rfl rfl rfl) (RepP [0] (l := []) rfl rfl (by kernel_rfl)), RetA_0 rfl⟩
theorem percpu_Take_ok {a_c : CpuCache} {a_zone : Int} {r : CpuCache × Int × Int} (h : percpu_Take a_c a_zone = some r) : PFn Try.prog 45 [(AV.agg (cCpuCache a_c)), (li a_zone)] (AV.tup [(AV.agg (cCpuCache r.1)), (li r.2.1), (li r.2.2)]) := by
 refine PFn_enter Try.func45 rfl Try.ntmps45 Try.results45 rfl ?_
 unfold percpu_Take at h
 refine AW_seq <| AW_region <| ALW_step (H' := [.box 50 (cCpuCache a_c)]) (AStep_boxA (t := 50) rfl) <| ALW_step (H' := [.box 50 (cCpuCache a_c), .box 50 ([(ls (cS cI) ([] : List (List Int)))] ++ [])]) (AStep_alloc (t := 50) (vs := [.slice none 0 0]) (cs := [.sl false []]) Try.zeroValue50 (by kernel_rfl) rfl ⟨SubF.nils, trivial⟩) <| ALW_val (AVal_assign rfl) <| ALW_val (AVal_assign rfl) ?_
 refine ALW_nil <| AW_seq <| AW_seq <| AW_region <| ALW_val (AVal_loadA (k := 0) (o := 0) (m := 1) Try.isAgg50 Try.sizeOf50 rfl rfl rfl rfl rfl) <| ALW_val (AVal_move rfl) ?_
 refine bnd_elim h ?_; clear h; intro x1 hx1 h
 refine ALW_callN Try.func79 rfl (by kernel_rfl) (.fn 79) rfl rfl (percpu_check_ok hx1) rfl <| ALW_val (AVal_assign rfl) <| ALW_nil <| AW_seq <| AW_region <| ALW_val (AVal_move rfl) ?_
 refine ALW_val (AVal_neq rfl rfl) <| ALW_nil ?_
 refine AW_cond (!decide (x1 = 0)) rfl (fun hb1 => ?_) (fun hb1 => ?_)
 ·replace h := cnd_t hb1 h
  refine AW_seq <| AW_region <| ALW_val (AVal_build (pl := [(0, 1)]) (zs := [.slice none 0 0]) (zc := [.sl false []]) (res := (cCpuCache (⟨([] : List (List Int))⟩ : CpuCache))) (fun _ => by kernel_rfl) rfl (⟨SubF.nils, trivial⟩) (by exact SubL.refl _)) <| ALW_val (AVal_move rfl) <| ALW_act (H' := [.box 50 (cCpuCache a_c), .box 50 (cCpuCache (⟨([] : List (List Int))⟩ : CpuCache))]) (AAct_storeA (k := 1) (o := 0) (cs := ([(ls (cS cI) ([] : List (List Int)))] ++ [])) (la := (cCpuCache (⟨([] : List (List Int))⟩ : CpuCache))) Try.sizeOf50 rfl rfl rfl rfl) <| ALW_val (AVal_assign rfl) ?_
  refine ALW_val (AVal_assign rfl) <| ALW_nil <| AW_ret ?_
  show RetP _ _ _ _ _ _
  obtain rfl := Option.some.inj h
  exact RetP_3 (R1_A Try.isAgg50 Try.sizeOf50 rfl rfl rfl rfl) (R1_E rfl rfl) (R1_E rfl rfl) rfl
 ·replace h := cnd_f hb1 h
  refine AW_skip <| AW_seq <| AW_region <| ALW_val (AVal_field Try.underlying50 rfl rfl Try.sizeOf48 rfl) <| ALW_val (AVal_load1 Try.isAgg48 rfl rfl rfl rfl) <| ALW_val (AVal_move rfl) ?_
  have hb2 := (chk_some h).1
  replace h := (chk_some h).2
  refine ALW_val (AVal_idxSM Try.underlying48 Try.sizeOf22 (fun _ => rfl) rfl rfl hb2) <| ALW_val (AVal_loadR1 (o := 0) Try.isAgg22 rfl rfl) <| ALW_val (AVal_assign rfl) <| ALW_nil <| AW_seq <| AW_seq ?_
  refine AW_region <| ALW_val (AVal_move rfl) <| ALW_val (AVal_lenM Try.underlying22 rfl) <| ALW_val (AVal_eql rfl rfl) <| ALW_nil ?_
  refine AW_cond (decide (((at_ a_c.lists a_zone).length : Int) = 0)) rfl (fun hb3 => ?_) (fun hb3 => ?_)
  ·replace h := cnd_t hb3 h
   refine AW_seq <| AW_region <| ALW_val (AVal_build (pl := [(0, 1)]) (zs := [.slice none 0 0]) (zc := [.sl false []]) (res := (cCpuCache (⟨([] : List (List Int))⟩ : CpuCache))) (fun _ => by kernel_rfl) rfl (⟨SubF.nils, trivial⟩) (by exact SubL.refl _)) <| ALW_act (H' := [.box 50 (cCpuCache a_c), .box 50 (cCpuCache (⟨([] : List (List Int))⟩ : CpuCache))]) (AAct_storeA (k := 1) (o := 0) (cs := ([(ls (cS cI) ([] : List (List Int)))] ++ [])) (la := (cCpuCache (⟨([] : List (List Int))⟩ : CpuCache))) Try.sizeOf50 rfl rfl rfl rfl) <| ALW_val (AVal_assign rfl) <| ALW_val (AVal_assign rfl) ?_
   refine ALW_nil <| AW_ret ?_
   show RetP _ _ _ _ _ _
   obtain rfl := Option.some.inj h
   exact RetP_3 (R1_A Try.isAgg50 Try.sizeOf50 rfl rfl rfl rfl) (R1_E rfl rfl) (R1_E rfl rfl) rfl
  ·replace h := cnd_f hb3 h
   refine AW_skip <| AW_seq <| AW_region <| ALW_val (AVal_move rfl) <| ALW_val (AVal_lenM Try.underlying22 rfl) ?_
   have hb4 := (chk_some h).1
   replace h := (chk_some h).2
   refine ALW_val (AVal_sub rfl rfl hb4) <| ALW_val (AVal_assign rfl) <| ALW_nil <| AW_seq ?_
   have hb5 := (chk_some h).1
   replace h := (chk_some h).2
   refine bnd_elim h ?_; clear h; intro x2 hx2 h
   have hb6 := (chk_some h).1
   replace h := (chk_some h).2
   show AW _ _ _ _ _ _ [.box 50 (cCpuCache a_c), .box 50 ([(ls (cS cI) ([] : List (List Int)))] ++ [])]
   refine AW_draw (n := 39) (m := 0) [.head 0 0, .head 0 0, .head 0 0, .head 0 0, .head 0 0, .head 0 0, .head 0 1, .head 0 1, .head 0 1, .head 0 1, .tail 0, .head 1 1, .head 1 1] [10] [(AV.agg (cCpuCache a_c)), (li a_zone), (ls cI (at_ a_c.lists a_zone)), (li (((at_ a_c.lists a_zone).length : Int) - 1)), (ls cI (cutL (at_ a_c.lists a_zone) 0 (((at_ a_c.lists a_zone).length : Int) - 1))), (AV.agg (cCpuCache x2)), (ls cI (at_ a_c.lists a_zone)), (li (((at_ a_c.lists a_zone).length : Int) - 1)), (AV.rp (cI (at_ (at_ a_c.lists a_zone) (((at_ a_c.lists a_zone).length : Int) - 1))) 0), (li (at_ (at_ a_c.lists a_zone) (((at_ a_c.lists a_zone).length : Int) - 1))), .any, (li (at_ (at_ a_c.lists a_zone) (((at_ a_c.lists a_zone).length : Int) - 1))), (li 0)] [[.box 50 (cCpuCache a_c), .box 50 ([(ls (cS cI) ([] : List (List Int)))] ++ [])], [.box 50 (cCpuCache a_c), .box 50 (cCpuCache x2)]] (by kernel_rfl) (by kernel_rfl) ⟨?_, ?_, ?_, ?_, ?_, ?_, ⟨?_, ?_⟩, ⟨?_, ?_⟩, ⟨?_, ?_⟩, ⟨?_, ?_⟩, ?_, ?_, ?_, trivial⟩ ?_
   ·exact fun e s p => ALW1 (AVal_loadA (k := 0) (o := 0) (m := 1) (la := (cCpuCache a_c)) Try.isAgg50 Try.sizeOf50 (s 2 rfl) rfl rfl rfl rfl) ⟨fun _ => rfl, rfl⟩
   ·exact fun e s p => ALW1 (AVal_move (av := (li a_zone)) (s 1 rfl)) ⟨fun _ => rfl, rfl⟩
   ·exact fun e s p => ALW1 (AVal_move (av := (ls cI (at_ a_c.lists a_zone))) (s 8 rfl)) ⟨fun _ => rfl, rfl⟩
   ·exact fun e s p => ALW1 (AVal_move (av := (li (((at_ a_c.lists a_zone).length : Int) - 1))) (s 9 rfl)) ⟨fun _ => rfl, rfl⟩
   ·exact fun e s p => ALW1 (AVal_cutH (hi := ((at_ a_c.lists a_zone).length : Int) - 1) (f := cI) (l := at_ a_c.lists a_zone) Try.underlying22 Try.sizeOf3 (fun _ => rfl) p.1 p.2.1 hb5) ⟨fun _ => rfl, rfl⟩
   ·
    intro e6 hs6 hp6
    refine ALW_callN (r := (AV.agg (cCpuCache x2))) (la := [(AV.agg (cCpuCache a_c)), (li a_zone), (ls cI (cutL (at_ a_c.lists a_zone) 0 (((at_ a_c.lists a_zone).length : Int) - 1)))]) Try.func80 rfl (by kernel_rfl) (.fn 80) (lcons hp6.1 (lcons hp6.2.1 (lcons hp6.2.2.1 rfl))) rfl (percpu_replace_ok hx2) rfl ?_
    exact ALW_nil ⟨fun _ => rfl, rfl⟩
   ·exact fun e s p => ALW1 (AVal_move (av := (ls cI (at_ a_c.lists a_zone))) (s 8 rfl)) ⟨fun _ => rfl, rfl⟩
   ·exact fun e s p => ALW1 (AVal_move (av := (ls cI (at_ a_c.lists a_zone))) (s 8 rfl)) ⟨fun _ => rfl, rfl⟩
   ·exact fun e s p => ALW1 (AVal_move (av := (li (((at_ a_c.lists a_zone).length : Int) - 1))) (s 9 rfl)) ⟨fun _ => rfl, rfl⟩
   ·exact fun e s p => ALW1 (AVal_move (av := (li (((at_ a_c.lists a_zone).length : Int) - 1))) (s 9 rfl)) ⟨fun _ => rfl, rfl⟩
   ·exact fun e s p => ALW1 (AVal_idxSM (f := cI) (l := at_ a_c.lists a_zone) (i := ((at_ a_c.lists a_zone).length : Int) - 1) Try.underlying22 Try.sizeOf3 (fun _ => rfl) p.1 p.2.1 hb6) ⟨fun _ => rfl, rfl⟩
   ·exact fun e s p => ALW1 (AVal_idxSM (f := cI) (l := at_ a_c.lists a_zone) (i := ((at_ a_c.lists a_zone).length : Int) - 1) Try.underlying22 Try.sizeOf3 (fun _ => rfl) p.1 p.2.1 hb6) ⟨fun _ => rfl, rfl⟩
   ·exact fun e s p => ALW1 (AVal_loadR1 (row := (cI (at_ (at_ a_c.lists a_zone) (((at_ a_c.lists a_zone).length : Int) - 1)))) (o := 0) (a := (li (at_ (at_ a_c.lists a_zone) (((at_ a_c.lists a_zone).length : Int) - 1)))) Try.isAgg3 p.1 rfl) ⟨fun _ => rfl, rfl⟩
   ·exact fun e s p => ALW1 (AVal_loadR1 (row := (cI (at_ (at_ a_c.lists a_zone) (((at_ a_c.lists a_zone).length : Int) - 1)))) (o := 0) (a := (li (at_ (at_ a_c.lists a_zone) (((at_ a_c.lists a_zone).length : Int) - 1)))) Try.isAgg3 p.1 rfl) ⟨fun _ => rfl, rfl⟩
   ·
    intro e15 hs15 hp15
    refine ALW_act (H' := [.box 50 (cCpuCache a_c), .box 50 (cCpuCache x2)]) (AAct_storeA (k := 1) (o := 0) (cs := ([(ls (cS cI) ([] : List (List Int)))] ++ [])) (la := (cCpuCache x2)) Try.sizeOf50 (by exact (hs15 4 rfl)) rfl rfl (by exact hp15.2.2.2.2.2.2.2.1)) ?_
    exact ALW_nil ⟨fun _ => rfl, rfl⟩
   ·exact fun e s p => ALW1 (AVal_assign (av := (li (at_ (at_ a_c.lists a_zone) (((at_ a_c.lists a_zone).length : Int) - 1)))) p.2.2.2.2.2.2.2.2.2.2.2.1) ⟨fun _ => rfl, rfl⟩
   ·exact fun e s p => ALW1 (AVal_assign (av := (li 0)) rfl) ⟨fun _ => rfl, rfl⟩
   intro e18 hs18 hq1
   refine AW_rep (Rep_mk (l := [(4, (AV.ptr 1 0)), (5, (li (at_ (at_ a_c.lists a_zone) (((at_ a_c.lists a_zone).length : Int) - 1)))), (6, (li 0))]) ⟨(hs18 4 rfl), (hq1 11 (by decide) (by decide)), (hq1 12 (by decide) (by decide)), trivial⟩) <| AW_ret ?_
   show RetP _ _ _ _ _ _
   obtain rfl := Option.some.inj h
   exact RetP_3 (R1_A Try.isAgg50 Try.sizeOf50 rfl rfl rfl rfl) (R1_E rfl rfl) (R1_E rfl rfl) rfl
theorem allocator_Alloc_ok {a_p0 : Allocator} {a_p1 : Int} {a_p2 : Bool} {a_p3 : Bool} {r : Allocator × Int × Int} (h : allocator_Alloc a_p0 a_p1 a_p2 a_p3 = some r) : PFn Try.prog 17 [(AV.agg (cAllocator a_p0)), (li a_p1), (AV.lit (.bool a_p2)), (AV.lit (.bool a_p3))] (AV.tup [(AV.agg (cAllocator r.1)), (li r.2.1), (li r.2.2)]) := by
 refine PFn_enter Try.func17 rfl Try.ntmps17 Try.results17 rfl ?_
 unfold allocator_Alloc at h
 refine AW_seq <| AW_region <| ALW_step (H' := [.box 29 (cAllocator a_p0)]) (AStep_boxA (t := 29) rfl) <| ALW_step (H' := [.box 29 (cAllocator a_p0), .box 29 ([(ls cI ([] : List Int))] ++ ([(li 0)] ++ ([(li 0)] ++ ([(ls cZone ([] : List Zone))] ++ ([(ls cCpuCache ([] : List CpuCache))] ++ [])))))]) (AStep_alloc (t := 29) (vs := [.slice none 0 0, .int .i64 0, .int .i64 0, .slice none 0 0, .slice none 0 0]) (cs := [.sl false [], .lit (.int .i64 0), .lit (.int .i64 0), .sl false [], .sl false []]) Try.zeroValue29 (by kernel_rfl) rfl ⟨SubF.nils, SubF.refl _, SubF.refl _, SubF.nils, SubF.nils, trivial⟩) <| ALW_val (AVal_assign rfl) <| ALW_val (AVal_assign rfl) ?_
 refine ALW_nil <| AW_seq <| AW_seq <| AW_region <| ALW_val (AVal_loadA (k := 0) (o := 0) (m := 5) Try.isAgg29 Try.sizeOf29 rfl rfl rfl rfl rfl) ?_
 refine bnd_elim h ?_; clear h; intro x1 hx1 h
 refine ALW_callN Try.func15 rfl (by kernel_rfl) (.fn 15) rfl rfl (allocator_Check_ok hx1) rfl <| ALW_val (AVal_assign rfl) <| ALW_nil <| AW_seq <| AW_region <| ALW_val (AVal_move rfl) ?_
 refine ALW_val (AVal_neq rfl rfl) <| ALW_nil ?_
 refine AW_cond (!decide (x1 = 0)) rfl (fun hb1 => ?_) (fun hb1 => ?_)
 ·replace h := cnd_t hb1 h
  refine AW_seq <| AW_region <| ALW_val (AVal_build (pl := [(0, 1), (1, 1), (2, 1), (3, 1), (4, 1)]) (zs := [.slice none 0 0, .int .i64 0, .int .i64 0, .slice none 0 0, .slice none 0 0]) (zc := [.sl false [], .lit (.int .i64 0), .lit (.int .i64 0), .sl false [], .sl false []]) (res := (cAllocator (⟨([] : List Int), 0, 0, ([] : List Zone), ([] : List CpuCache)⟩ : Allocator))) (fun _ => by kernel_rfl) rfl (⟨SubF.nils, ⟨SubF.refl _, ⟨SubF.refl _, ⟨SubF.nils, ⟨SubF.nils, trivial⟩⟩⟩⟩⟩) (by exact SubL.refl _)) <| ALW_val (AVal_move rfl) <| ALW_act (H' := [.box 29 (cAllocator a_p0), .box 29 (cAllocator (⟨([] : List Int), 0, 0, ([] : List Zone), ([] : List CpuCache)⟩ : Allocator))]) (AAct_storeA (k := 1) (o := 0) (cs := ([(ls cI ([] : List Int))] ++ ([(li 0)] ++ ([(li 0)] ++ ([(ls cZone ([] : List Zone))] ++ ([(ls cCpuCache ([] : List CpuCache))] ++ [])))))) (la := (cAllocator (⟨([] : List Int), 0, 0, ([] : List Zone), ([] : List CpuCache)⟩ : Allocator))) Try.sizeOf29 rfl rfl rfl rfl) <| ALW_val (AVal_assign rfl) ?_
  refine ALW_val (AVal_assign rfl) <| ALW_nil <| AW_ret ?_
  show RetP _ _ _ _ _ _
  obtain rfl := Option.some.inj h
  exact RetP_3 (R1_A Try.isAgg29 Try.sizeOf29 rfl rfl rfl rfl) (R1_E rfl rfl) (R1_E rfl rfl) rfl
 ·replace h := cnd_f hb1 h
  refine AW_skip <| AW_seq <| AW_seq <| AW_region <| ALW_val (AVal_move rfl) <| ALW_val (AVal_lss rfl rfl) ?_
  refine ALW_val (AVal_move rfl) <| ALW_g0 rfl rfl (fun hc1 => AVal.step (AVal_move rfl)) <| ALW_g0 rfl rfl (fun hc2 => AVal.step (AVal_field Try.underlying29 rfl rfl Try.sizeOf22 rfl)) <| ALW_g0 rfl rfl (fun hc3 => AVal.step (AVal_load1 Try.isAgg22 (gd_t rfl hc3) rfl rfl rfl)) <| ALW_g0 rfl rfl (fun hc4 => AVal.step (AVal_lenM Try.underlying22 (gd_t rfl hc4))) <| ALW_g0 rfl rfl (fun hc5 => AVal.step (AVal_geq (gd_t rfl hc5) (gd_t rfl hc5))) ?_
  refine ALW_val (AVal_pick_or rfl rfl) <| ALW_nil ?_
  refine AW_cond ((decide (a_p1 < 0)) || (decide ((a_p0.nodes.length : Int) ≤ a_p1))) rfl (fun hb2 => ?_) (fun hb2 => ?_)
  ·replace h := cnd_t hb2 h
   refine AW_seq <| AW_region <| ALW_val (AVal_build (pl := [(0, 1), (1, 1), (2, 1), (3, 1), (4, 1)]) (zs := [.slice none 0 0, .int .i64 0, .int .i64 0, .slice none 0 0, .slice none 0 0]) (zc := [.sl false [], .lit (.int .i64 0), .lit (.int .i64 0), .sl false [], .sl false []]) (res := (cAllocator (⟨([] : List Int), 0, 0, ([] : List Zone), ([] : List CpuCache)⟩ : Allocator))) (fun _ => by kernel_rfl) rfl (⟨SubF.nils, ⟨SubF.refl _, ⟨SubF.refl _, ⟨SubF.nils, ⟨SubF.nils, trivial⟩⟩⟩⟩⟩) (by exact SubL.refl _)) <| ALW_act (H' := [.box 29 (cAllocator a_p0), .box 29 (cAllocator (⟨([] : List Int), 0, 0, ([] : List Zone), ([] : List CpuCache)⟩ : Allocator))]) (AAct_storeA (k := 1) (o := 0) (cs := ([(ls cI ([] : List Int))] ++ ([(li 0)] ++ ([(li 0)] ++ ([(ls cZone ([] : List Zone))] ++ ([(ls cCpuCache ([] : List CpuCache))] ++ [])))))) (la := (cAllocator (⟨([] : List Int), 0, 0, ([] : List Zone), ([] : List CpuCache)⟩ : Allocator))) Try.sizeOf29 rfl rfl rfl rfl) <| ALW_val (AVal_assign rfl) <| ALW_val (AVal_assign rfl) ?_
   refine ALW_nil <| AW_ret ?_
   show RetP _ _ _ _ _ _
   obtain rfl := Option.some.inj h
   exact RetP_3 (R1_A Try.isAgg29 Try.sizeOf29 rfl rfl rfl rfl) (R1_E rfl rfl) (R1_E rfl rfl) rfl
  ·replace h := cnd_f hb2 h
   refine AW_skip <| AW_seq ?_
   have hb3 := (chk_some h).1
   replace h := (chk_some h).2
   refine bnd_elim h ?_; clear h; intro x2 hx2 h
   show AW _ _ _ _ _ _ [.box 29 (cAllocator a_p0), .box 29 ([(ls cI ([] : List Int))] ++ ([(li 0)] ++ ([(li 0)] ++ ([(ls cZone ([] : List Zone))] ++ ([(ls cCpuCache ([] : List CpuCache))] ++ [])))))]
   refine AW_draw (n := 131) (m := 0) [.head 0 0, .head 0 0, .head 0 0, .head 0 0, .head 0 0, .head 0 0, .head 0 0, .head 0 0, .head 0 0, .head 0 0, .head 0 0, .head 0 0, .head 0 0, .head 0 0] [] [(AV.ptr 0 3), (ls cZone a_p0.zones), (AV.ptr 0 0), (ls cI a_p0.nodes), (li a_p1), (AV.rp (cI (at_ a_p0.nodes a_p1)) 0), (li (at_ a_p0.nodes a_p1)), (AV.lit (.bool a_p2)), (AV.tup [(ls cI x2.1), (li x2.2)]), (AV.tup [(ls cI x2.1), (li x2.2)]), (ls cI x2.1), (li x2.2), (ls cI x2.1), (li x2.2)] [[.box 29 (cAllocator a_p0), .box 29 ([(ls cI ([] : List Int))] ++ ([(li 0)] ++ ([(li 0)] ++ ([(ls cZone ([] : List Zone))] ++ ([(ls cCpuCache ([] : List CpuCache))] ++ [])))))]] (by kernel_rfl) (by kernel_rfl) ⟨?_, ?_, ?_, ?_, ?_, ?_, ?_, ?_, ?_, ?_, ?_, ?_, ?_, ?_, trivial⟩ ?_
   ·exact fun e s p => ALW1 (AVal_field (k := 0) (o := 0) (off := 3) Try.underlying29 rfl rfl Try.sizeOf26 (s 4 rfl)) ⟨fun _ => rfl, rfl⟩
   ·exact fun e s p => ALW1 (AVal_load1 (k := 0) (o := 3) (a := (ls cZone a_p0.zones)) Try.isAgg26 p.1 rfl rfl rfl) ⟨fun _ => rfl, rfl⟩
   ·exact fun e s p => ALW1 (AVal_field (k := 0) (o := 0) (off := 0) Try.underlying29 rfl rfl Try.sizeOf22 (s 4 rfl)) ⟨fun _ => rfl, rfl⟩
   ·exact fun e s p => ALW1 (AVal_load1 (k := 0) (o := 0) (a := (ls cI a_p0.nodes)) Try.isAgg22 p.1 rfl rfl rfl) ⟨fun _ => rfl, rfl⟩
   ·exact fun e s p => ALW1 (AVal_move (av := (li a_p1)) (s 1 rfl)) ⟨fun _ => rfl, rfl⟩
   ·exact fun e s p => ALW1 (AVal_idxSM (f := cI) (l := a_p0.nodes) (i := a_p1) Try.underlying22 Try.sizeOf3 (fun _ => rfl) p.1 p.2.1 hb3) ⟨fun _ => rfl, rfl⟩
   ·exact fun e s p => ALW1 (AVal_loadR1 (row := (cI (at_ a_p0.nodes a_p1))) (o := 0) (a := (li (at_ a_p0.nodes a_p1))) Try.isAgg3 p.1 rfl) ⟨fun _ => rfl, rfl⟩
   ·exact fun e s p => ALW1 (AVal_move (av := (AV.lit (.bool a_p2))) (s 2 rfl)) ⟨fun _ => rfl, rfl⟩
   ·
    intro e9 hs9 hp9
    refine ALW_callN (r := (AV.tup [(ls cI x2.1), (li x2.2)])) (la := [(ls cZone a_p0.zones), (li (at_ a_p0.nodes a_p1)), (AV.lit (.bool a_p2))]) Try.func40 rfl (by kernel_rfl) (.fn 40) (lcons hp9.1 (lcons hp9.2.1 (lcons hp9.2.2.1 rfl))) rfl (zonelist_Order_ok hx2) rfl ?_
    exact ALW_nil ⟨fun _ => rfl, rfl⟩
   ·exact fun e s p => ALW1 (AVal_move (av := (AV.tup [(ls cI x2.1), (li x2.2)])) p.1) ⟨fun _ => rfl, rfl⟩
   ·exact fun e s p => ALW1 (AVal_extract (la := [(ls cI x2.1), (li x2.2)]) p.1 rfl) ⟨fun _ => rfl, rfl⟩
   ·exact fun e s p => ALW1 (AVal_extract (la := [(ls cI x2.1), (li x2.2)]) p.1 rfl) ⟨fun _ => rfl, rfl⟩
   ·exact fun e s p => ALW1 (AVal_assign (av := (ls cI x2.1)) p.2.2.2.2.2.2.2.2.2.2.2.2.1) ⟨fun _ => rfl, rfl⟩
   ·exact fun e s p => ALW1 (AVal_assign (av := (li x2.2)) p.2.2.2.2.2.2.2.2.2.2.2.2.2.1) ⟨fun _ => rfl, rfl⟩
   intro e15 hs15 hq1
   refine AW_rep (Rep_mk (l := [(1, (li a_p1)), (3, (AV.lit (.bool a_p3))), (4, (AV.ptr 0 0)), (8, (AV.ptr 1 0)), (12, (ls cI x2.1))]) ⟨(hs15 1 rfl), (hs15 3 rfl), (hs15 4 rfl), (hs15 8 rfl), (hq1 12 (by decide) (by decide)), trivial⟩) ?_
   refine AW_seqJ (fun e' H' => Rep 131 0 e' H' (mkE [(8, (AV.ptr 0 0))]) [.box 29 ([(ls cI ([] : List Int))] ++ ([(li 0)] ++ ([(li 0)] ++ ([(ls cZone ([] : List Zone))] ++ ([(ls cCpuCache ([] : List CpuCache))] ++ [])))))] ∧ allocator_Alloc_j0  = some r) ?_ ?_
   ·
    refine AW_seq <| AW_region <| ALW_val (AVal_move rfl) <| ALW_val (AVal_lenM Try.underlying22 rfl) <| ALW_val (AVal_move rfl) <| ALW_nil ?_
    refine AW_block <| AW_loop (σ := Nat × Int) (fun s => s.1) (fun s e' H' => match s with | (n0, i1) => Rep 131 0 e' H' (mkE [(1, (li a_p1)), (3, (AV.lit (.bool a_p3))), (4, (AV.ptr 0 0)), (8, (AV.ptr 1 0)), (49, (ls cI x2.1)), (50, (li (x2.1.length : Int))), (51, (li i1))]) [.box 29 (cAllocator a_p0), .box 29 ([(ls cI ([] : List Int))] ++ ([(li 0)] ++ ([(li 0)] ++ ([(ls cZone ([] : List Zone))] ++ ([(ls cCpuCache ([] : List CpuCache))] ++ [])))))] ∧ allocator_Alloc_l0 a_p0 a_p1 a_p3 x2 n0 i1 = some r) (FUEL, 0) ⟨RepP [0, 1] rfl rfl (by kernel_rfl), h⟩ ?_
    clear h
    rintro ⟨n0, i1⟩ e' H' ⟨hrep, h⟩
    cases n0 with
    | zero => exact absurd (show (none : Option _) = some r from h) (by simp)
    | succ n0 =>
     replace h : allocator_Alloc_b0 a_p0 a_p1 a_p3 x2 (allocator_Alloc_l0 a_p0 a_p1 a_p3 x2 n0) i1 = some r := h
     unfold allocator_Alloc_b0 at h
     refine AW_rep hrep ?_
     clear hrep
     refine AW_seq <| AW_region <| ALW_val (AVal_lss rfl rfl) <| ALW_nil <| AW_seq ?_
     refine AW_cond (decide (i1 < (x2.1.length : Int))) rfl (fun hb4 => ?_) (fun hb4 => ?_)
     ·replace h := cnd_t hb4 h
      refine AW_skip ?_
      refine AW_seqJ (fun e' H' => Rep 131 0 e' H' (mkE [(1, (li a_p1)), (3, (AV.lit (.bool a_p3))), (4, (AV.ptr 0 0)), (8, (AV.ptr 1 0)), (49, (ls cI x2.1)), (50, (li (x2.1.length : Int))), (51, (li i1))]) [.box 29 (cAllocator a_p0), .box 29 ([(ls cI ([] : List Int))] ++ ([(li 0)] ++ ([(li 0)] ++ ([(ls cZone ([] : List Zone))] ++ ([(ls cCpuCache ([] : List CpuCache))] ++ [])))))] ∧ allocator_Alloc_j1 (allocator_Alloc_l0 a_p0 a_p1 a_p3 x2 n0) i1 = some r) ?_ ?_
      ·
       refine AW_block <| AW_seq <| AW_region ?_
       have hb6 := (chk_some h).1
       replace h := (chk_some h).2
       refine ALW_val (AVal_idxSM Try.underlying22 Try.sizeOf3 (fun _ => rfl) rfl rfl hb6) <| ALW_val (AVal_loadR1 (o := 0) Try.isAgg3 rfl rfl) <| ALW_val (AVal_assign rfl) <| ALW_nil <| AW_seq <| AW_seq ?_
       refine AW_region <| ALW_val (AVal_move rfl) <| ALW_val (AVal_move rfl) <| ALW_g1 rfl rfl (fun hc6 => AVal.step (AVal_loadA (k := 0) (o := 0) (m := 5) Try.isAgg29 Try.sizeOf29 rfl rfl rfl rfl rfl)) <| ALW_g1 rfl rfl (fun hc7 => AVal.step (AVal_move rfl)) ?_
       refine bnd_elim h ?_; clear h; intro x3 hx3 h
       refine ALW_callG1 (g := 56) (s := a_p3) (r' := (li x3)) rfl rfl (fun hc8 => ⟨41, _, _, [], [(AV.agg (cAllocator a_p0)), (li (at_ x2.1 i1))], [(AV.agg (cAllocator a_p0)), (li (at_ x2.1 i1))], (li x3), [], Try.func41, rfl, by kernel_rfl, (.fn 41), (lcons (gd_t rfl hc8) (lcons (gd_t rfl hc8) rfl)), ⟨View.nr rfl, View.nr rfl, trivial⟩, allocator_count_ok (cnd_t hc8 hx3), .inl rfl, rfl⟩) <| ALW_g1 rfl rfl (fun hc9 => AVal.step (AVal_eql (gd_t rfl hc9) rfl)) <| ALW_val (AVal_pick_and (j := .lit undef) rfl rfl) <| ALW_val (AVal_move rfl) <| ALW_g0 rfl rfl (fun hc10 => AVal.step (AVal_move rfl)) <| ALW_g0 rfl rfl (fun hc11 => AVal.step (AVal_not (t := a_p3) (gd_t rfl hc11))) ?_
       refine ALW_g0 rfl rfl (fun hc12 => AVal.step (AVal_move (gd_t rfl hc12))) <| ALW_gn1 (g := 65) (s' := !(a_p3 && (decide (x3 = 0)))) (s := !a_p3) rfl rfl (fun hc13 => AVal.step (AVal_loadA (k := 0) (o := 0) (m := 5) Try.isAgg29 Try.sizeOf29 rfl rfl rfl rfl rfl)) <| ALW_gn1 (g := 65) (s' := !(a_p3 && (decide (x3 = 0)))) (s := !a_p3) rfl rfl (fun hc14 => AVal.step (AVal_move rfl)) ?_
       refine bnd_elim h ?_; clear h; intro x4 hx4 h
       refine ALW_callGn1 (g := 65) (s' := !(a_p3 && (decide (x3 = 0)))) (s := !a_p3) (r' := (li x4)) rfl rfl (fun hc15 => ⟨39, _, _, [], [(AV.agg (cAllocator a_p0)), (li (at_ x2.1 i1))], [(AV.agg (cAllocator a_p0)), (li (at_ x2.1 i1))], (li x4), [], Try.func39, rfl, by kernel_rfl, (.fn 39), (lcons (gd_t rfl hc15) (lcons (gd_t rfl hc15) rfl)), ⟨View.nr rfl, View.nr rfl, trivial⟩, allocator_room_ok (cnd_t hc15 hx4), .inl rfl, rfl⟩) <| ALW_gn1 (g := 65) (s' := !(a_p3 && (decide (x3 = 0)))) (s := !a_p3) rfl rfl (fun hc16 => AVal.step (AVal_lss (gd_t rfl hc16) rfl)) <| ALW_g0 rfl rfl (fun hc17 => AVal.step (AVal_pick_and (j := .lit undef) (gd_t rfl hc17) (gd_and (c := !(a_p3 && (decide (x3 = 0)))) (d := !a_p3) (a := (AV.lit (.bool (decide (x4 < 1))))) (j := .lit undef) rfl hc17))) <| ALW_val (AVal_pick_or rfl rfl) <| ALW_nil ?_
       refine AW_cond ((a_p3 && (decide (x3 = 0))) || ((!a_p3) && (decide (x4 < 1)))) rfl (fun hb7 => ?_) (fun hb7 => ?_)
       ·replace h := cnd_t hb7 h
        refine AW_exit ?_
        exact ⟨RepP [0, 1] rfl rfl (by kernel_rfl), h⟩
       ·replace h := cnd_f hb7 h
        refine AW_skip <| AW_seq <| AW_region <| ALW_val (AVal_loadA (k := 0) (o := 0) (m := 5) Try.isAgg29 Try.sizeOf29 rfl rfl rfl rfl rfl) ?_
        refine bnd_elim h ?_; clear h; intro x5 hx5 h
        refine ALW_callA (cs := ([(ls cI x5.nodes)] ++ ([(li x5.batch)] ++ ([(li x5.high)] ++ ([AV.osl 46 10 (List.map cZone x5.zones)] ++ ([AV.osl 50 1 (List.map cCpuCache x5.caches)] ++ [])))))) (la := [(AV.agg (cAllocator a_p0))]) (la' := [(AV.agg (cAllocator a_p0))]) (S := []) Try.func42 rfl (by kernel_rfl) (.fn 42) rfl ⟨View.nr rfl, trivial⟩ (allocator_clone_ok hx5) (.inl rfl) <| ALW_step (H' := [.box 29 (cAllocator a_p0), .box 29 ([(ls cI ([] : List Int))] ++ ([(li 0)] ++ ([(li 0)] ++ ([(ls cZone ([] : List Zone))] ++ ([(ls cCpuCache ([] : List CpuCache))] ++ []))))), .val (.agg ([(ls cI x5.nodes)] ++ ([(li x5.batch)] ++ ([(li x5.high)] ++ ([AV.osl 46 10 (List.map cZone x5.zones)] ++ ([AV.osl 50 1 (List.map cCpuCache x5.caches)] ++ [])))))), .box 29 ([(ls cI ([] : List Int))] ++ ([(li 0)] ++ ([(li 0)] ++ ([(ls cZone ([] : List Zone))] ++ ([(ls cCpuCache ([] : List CpuCache))] ++ [])))))]) (AStep_alloc (t := 29) (vs := [.slice none 0 0, .int .i64 0, .int .i64 0, .slice none 0 0, .slice none 0 0]) (cs := [.sl false [], .lit (.int .i64 0), .lit (.int .i64 0), .sl false [], .sl false []]) Try.zeroValue29 (by kernel_rfl) rfl ⟨SubF.nils, SubF.refl _, SubF.refl _, SubF.nils, SubF.nils, trivial⟩) <| ALW_act (H' := [.box 29 (cAllocator a_p0), .box 29 ([(ls cI ([] : List Int))] ++ ([(li 0)] ++ ([(li 0)] ++ ([(ls cZone ([] : List Zone))] ++ ([(ls cCpuCache ([] : List CpuCache))] ++ []))))), .dead, .box 29 ([(ls cI x5.nodes)] ++ ([(li x5.batch)] ++ ([(li x5.high)] ++ ([AV.osl 46 10 (List.map cZone x5.zones)] ++ ([AV.osl 50 1 (List.map cCpuCache x5.caches)] ++ [])))))]) (AAct_storeT (k := 3) (o := 0) (j := 2) (cs := ([(ls cI ([] : List Int))] ++ ([(li 0)] ++ ([(li 0)] ++ ([(ls cZone ([] : List Zone))] ++ ([(ls cCpuCache ([] : List CpuCache))] ++ [])))))) (la := ([(ls cI x5.nodes)] ++ ([(li x5.batch)] ++ ([(li x5.high)] ++ ([AV.osl 46 10 (List.map cZone x5.zones)] ++ ([AV.osl 50 1 (List.map cCpuCache x5.caches)] ++ [])))))) Try.sizeOf29 rfl rfl rfl rfl rfl (by decide)) <| ALW_nil ?_
        refine AW_seqJ (fun e' H' => ∃ (d1 : List Int) (d2 : Int) (d3 : Int) (l1 : List Zone) (l2 : List CpuCache), Rep 131 0 e' H' (mkE [(1, (li a_p1)), (8, (AV.ptr 0 0)), (15, (li (at_ x2.1 i1))), (16, (AV.ptr 1 0))]) [.box 29 ([(ls cI ([] : List Int))] ++ ([(li 0)] ++ ([(li 0)] ++ ([(ls cZone ([] : List Zone))] ++ ([(ls cCpuCache ([] : List CpuCache))] ++ []))))), .box 29 ([(ls cI d1)] ++ ([(li d2)] ++ ([(li d3)] ++ ([AV.osl 46 10 (List.map cZone l1)] ++ ([AV.osl 50 1 (List.map cCpuCache l2)] ++ [])))))] ∧ allocator_Alloc_j2 a_p1 x2 i1 d1 d2 d3 l1 l2 = some r) ?_ ?_
        ·
         refine AW_seq <| AW_region <| ALW_val (AVal_field Try.underlying29 rfl rfl Try.sizeOf27 rfl) <| ALW_rep (Rep_open (k := 3) (o := 4) (t' := 50) (sz := 1) (rows := List.map cCpuCache x5.caches) rfl rfl) <| ALW_val (AVal_load1 Try.isAgg27 rfl rfl rfl rfl) <| ALW_val (AVal_move rfl) ?_
         have hb10 := (chk_some h).1
         replace h := (chk_some h).2
         refine ALW_val (AVal_idxVM (f := cCpuCache) (l := x5.caches) (i := a_p1) Try.underlying27 Try.sizeOf50 rfl rfl rfl hb10) <| ALW_val (AVal_field Try.underlying50 rfl rfl Try.sizeOf48 rfl) <| ALW_val (AVal_loadV1M (f := cCpuCache) (l := x5.caches) (i := a_p1) (c := 0) (a := (ls (cS cI) ((at_ x5.caches a_p1).lists))) Try.isAgg48 rfl rfl (by first | rfl | omega) hb10 rfl rfl) <| ALW_val (AVal_move rfl) ?_
         have hb11 := (chk_some h).1
         replace h := (chk_some h).2
         refine ALW_val (AVal_idxSM Try.underlying48 Try.sizeOf22 (fun _ => rfl) rfl rfl hb11) <| ALW_val (AVal_loadR1 (o := 0) Try.isAgg22 rfl rfl) <| ALW_val (AVal_lenM Try.underlying22 rfl) <| ALW_val (AVal_eql rfl rfl) <| ALW_val (AVal_move rfl) <| ALW_g1 rfl rfl (fun hc18 => AVal.step (AVal_move rfl)) ?_
         refine ALW_g1 rfl rfl (fun hc19 => AVal.step (AVal_move rfl)) <| ALW_rep (Rep_close (k := 3) (j := 4) (o := 4) rfl rfl rfl rfl) ?_
         refine bnd_elim h ?_; clear h; intro x7 hx7 h
         refine ALW_callXG1 (g := 85) (s := decide (((at_ ((at_ x5.caches a_p1).lists) (at_ x2.1 i1)).length : Int) = 0)) (k := 3) (r := (AV.lit (.bool x7.2))) (en' := .box 29 ([(ls cI x7.1.nodes)] ++ ([(li x7.1.batch)] ++ ([(li x7.1.high)] ++ ([AV.osl 46 10 (List.map cZone x7.1.zones)] ++ ([AV.osl 50 1 (List.map cCpuCache x7.1.caches)] ++ [])))))) rfl rfl (fun hc23 => ⟨43, _, _, [], [(AV.ptr 3 0), (li a_p1), (li (at_ x2.1 i1))], [(AV.ptr 0 0), (li a_p1), (li (at_ x2.1 i1))], _, Try.func43, rfl, by kernel_rfl, .fn 43, (lcons rfl (lcons (gd_t rfl hc23) (lcons (gd_t rfl hc23) rfl))), ⟨ViewK.ptr, ViewK.of (View.nr rfl), ViewK.of (View.nr rfl), trivial⟩, rfl, by kernel_rfl, by kernel_rfl, allocator_refill_ok (cnd_t hc23 hx7), rfl⟩) (fun hc23 => by obtain rfl := Option.some.inj (cnd_f hc23 hx7); rfl) <| ALW_g1 rfl rfl (fun hc24 => AVal.step (AVal_not (t := x7.2) (gd_t rfl hc24))) <| ALW_val (AVal_pick_and (j := .lit undef) rfl rfl) <| ALW_nil ?_
         refine AW_cond ((decide (((at_ ((at_ x5.caches a_p1).lists) (at_ x2.1 i1)).length : Int) = 0)) && (!x7.2)) rfl (fun hb12 => ?_) (fun hb12 => ?_)
         ·replace h := cnd_t hb12 h
          refine AW_seqJ (fun e' H' => ∃ (d4 : List Int) (d5 : Int) (d6 : Int) (l3 : List Zone) (l4 : List CpuCache), Rep 131 0 e' H' (mkE [(1, (li a_p1)), (8, (AV.ptr 0 0)), (15, (li (at_ x2.1 i1))), (16, (AV.ptr 1 0))]) [.box 29 ([(ls cI ([] : List Int))] ++ ([(li 0)] ++ ([(li 0)] ++ ([(ls cZone ([] : List Zone))] ++ ([(ls cCpuCache ([] : List CpuCache))] ++ []))))), .box 29 ([(ls cI d4)] ++ ([(li d5)] ++ ([(li d6)] ++ ([AV.osl 46 10 (List.map cZone l3)] ++ ([AV.osl 50 1 (List.map cCpuCache l4)] ++ [])))))] ∧ allocator_Alloc_j3 a_p1 x2 i1 d4 d5 d6 l3 l4 = some r) ?_ ?_
          ·
           refine AW_seq <| AW_region <| ALW_val (AVal_field Try.underlying29 rfl rfl Try.sizeOf27 rfl) <| ALW_rep (Rep_open (k := 3) (o := 4) (t' := 50) (sz := 1) (rows := List.map cCpuCache x7.1.caches) rfl rfl) <| ALW_val (AVal_load1 Try.isAgg27 rfl rfl rfl rfl) <| ALW_val (AVal_lenVM (f := cCpuCache) (l := x7.1.caches) Try.underlying27 rfl rfl) ?_
           refine ALW_val (AVal_move rfl) <| ALW_nil <| AW_block <| AW_loop (σ := Nat × Int × (List Int) × Int × Int × (List Zone) × (List CpuCache)) (fun s => s.1) (fun s e' H' => match s with | (n1, i2, d7, d8, d9, l5, l6) => Rep 131 0 e' H' (mkE [(1, (li a_p1)), (8, (AV.ptr 0 0)), (15, (li (at_ x2.1 i1))), (16, (AV.ptr 1 0)), (93, (li (x7.1.caches.length : Int))), (94, (li i2))]) [.box 29 ([(ls cI ([] : List Int))] ++ ([(li 0)] ++ ([(li 0)] ++ ([(ls cZone ([] : List Zone))] ++ ([(ls cCpuCache ([] : List CpuCache))] ++ []))))), .box 29 ([(ls cI d7)] ++ ([(li d8)] ++ ([(li d9)] ++ ([AV.osl 46 10 (List.map cZone l5)] ++ ([AV.osl 50 1 (List.map cCpuCache l6)] ++ [])))))] ∧ allocator_Alloc_l1 a_p1 x2 i1 x7 n1 i2 d7 d8 d9 l5 l6 = some r) (FUEL, 0, x7.1.nodes, x7.1.batch, x7.1.high, x7.1.zones, x7.1.caches) ⟨Rep.trans (Rep_close (k := 3) (j := 5) (o := 4) rfl rfl rfl rfl) (RepP [1, 3] (l := [(1, (li a_p1)), (8, (AV.ptr 0 0)), (15, (li (at_ x2.1 i1))), (16, (AV.ptr 1 0)), (93, (li (x7.1.caches.length : Int))), (94, (li 0))]) rfl rfl (by kernel_rfl)), h⟩ ?_
           clear h
           rintro ⟨n1, i2, d7, d8, d9, l5, l6⟩ e' H' ⟨hrep, h⟩
           cases n1 with
           | zero => exact absurd (show (none : Option _) = some r from h) (by simp)
           | succ n1 =>
            replace h : allocator_Alloc_b1 a_p1 x2 i1 x7 (allocator_Alloc_l1 a_p1 x2 i1 x7 n1) i2 d7 d8 d9 l5 l6 = some r := h
            unfold allocator_Alloc_b1 at h
            refine AW_rep hrep ?_
            clear hrep
            refine AW_seq <| AW_region <| ALW_val (AVal_lss rfl rfl) <| ALW_nil <| AW_seq ?_
            refine AW_cond (decide (i2 < (x7.1.caches.length : Int))) rfl (fun hb13 => ?_) (fun hb13 => ?_)
            ·replace h := cnd_t hb13 h
             refine AW_skip ?_
             refine AW_seqJ (fun e' H' => ∃ (d10 : List Int) (d11 : Int) (d12 : Int) (l7 : List Zone) (l8 : List CpuCache), Rep 131 0 e' H' (mkE [(1, (li a_p1)), (8, (AV.ptr 0 0)), (15, (li (at_ x2.1 i1))), (16, (AV.ptr 1 0)), (93, (li (x7.1.caches.length : Int))), (94, (li i2))]) [.box 29 ([(ls cI ([] : List Int))] ++ ([(li 0)] ++ ([(li 0)] ++ ([(ls cZone ([] : List Zone))] ++ ([(ls cCpuCache ([] : List CpuCache))] ++ []))))), .box 29 ([(ls cI d10)] ++ ([(li d11)] ++ ([(li d12)] ++ ([AV.osl 46 10 (List.map cZone l7)] ++ ([AV.osl 50 1 (List.map cCpuCache l8)] ++ [])))))] ∧ allocator_Alloc_j4 (allocator_Alloc_l1 a_p1 x2 i1 x7 n1) i2 d10 d11 d12 l7 l8 = some r) ?_ ?_
             ·
              refine AW_block <| AW_seq <| AW_region <| ALW_val (AVal_move rfl) <| ALW_val (AVal_assign rfl) <| ALW_nil ?_
              refine AW_seq <| AW_region <| ALW_val (AVal_move rfl) <| ALW_val (AVal_move rfl) <| ALW_val (AVal_neq rfl rfl) <| ALW_nil ?_
              refine AW_cond (!decide (i2 = a_p1)) rfl (fun hb15 => ?_) (fun hb15 => ?_)
              ·replace h := cnd_t hb15 h
               refine AW_region <| ALW_val (AVal_move rfl) <| ALW_val (AVal_move rfl) ?_
               refine bnd_elim h ?_; clear h; intro x9 hx9 h
               refine ALW_callX (k := 1) (la := [(AV.ptr 1 0), (li i2), (li (at_ x2.1 i1))]) (la' := [(AV.ptr 0 0), (li i2), (li (at_ x2.1 i1))]) (r := (.tup [])) (S := []) (en' := .box 29 ([(ls cI x9.nodes)] ++ ([(li x9.batch)] ++ ([(li x9.high)] ++ ([AV.osl 46 10 (List.map cZone x9.zones)] ++ ([AV.osl 50 1 (List.map cCpuCache x9.caches)] ++ [])))))) Try.func44 rfl (by kernel_rfl) (.fn 44) rfl ⟨ViewK.ptr, ViewK.of (View.nr rfl), ViewK.of (View.nr rfl), trivial⟩ rfl rfl (by kernel_rfl) (by kernel_rfl) (allocator_drain_ok hx9) rfl (.inl rfl) <| ALW_nil ?_
               exact ⟨x9.nodes, x9.batch, x9.high, x9.zones, x9.caches, RepP [0, 1] rfl rfl (by kernel_rfl), h⟩
              ·replace h := cnd_f hb15 h
               refine AW_skip ?_
               exact ⟨d7, d8, d9, l5, l6, RepP [0, 1] rfl rfl (by kernel_rfl), h⟩
             ·
              clear h
              rintro e' H' ⟨d10, d11, d12, l7, l8, hrep, h⟩
              refine AW_rep hrep ?_
              clear hrep
              unfold allocator_Alloc_j4 at h
              refine AW_region ?_
              have hb14 := (chk_some h).1
              replace h := (chk_some h).2
              refine ALW_val (AVal_add rfl rfl hb14) <| ALW_val (AVal_move rfl) <| ALW_nil ?_
              exact ⟨(n1, (i2 + 1), d10, d11, d12, l7, l8), Nat.lt_succ_self _, RepP [0, 1] rfl rfl (by kernel_rfl), h⟩
            ·replace h := cnd_f hb13 h
             refine AW_exit ?_
             exact ⟨d7, d8, d9, l5, l6, RepP [0, 1] rfl rfl (by kernel_rfl), h⟩
          ·
           clear h
           rintro e' H' ⟨d4, d5, d6, l3, l4, hrep, h⟩
           refine AW_rep hrep ?_
           clear hrep
           unfold allocator_Alloc_j3 at h
           refine AW_region <| ALW_val (AVal_move rfl) <| ALW_val (AVal_move rfl) ?_
           refine bnd_elim h ?_; clear h; intro x8 hx8 h
           refine ALW_callX (k := 1) (la := [(AV.ptr 1 0), (li a_p1), (li (at_ x2.1 i1))]) (la' := [(AV.ptr 0 0), (li a_p1), (li (at_ x2.1 i1))]) (r := (AV.lit (.bool x8.2))) (S := []) (en' := .box 29 ([(ls cI x8.1.nodes)] ++ ([(li x8.1.batch)] ++ ([(li x8.1.high)] ++ ([AV.osl 46 10 (List.map cZone x8.1.zones)] ++ ([AV.osl 50 1 (List.map cCpuCache x8.1.caches)] ++ [])))))) Try.func43 rfl (by kernel_rfl) (.fn 43) rfl ⟨ViewK.ptr, ViewK.of (View.nr rfl), ViewK.of (View.nr rfl), trivial⟩ rfl rfl (by kernel_rfl) (by kernel_rfl) (allocator_refill_ok hx8) rfl (.inl rfl) <| ALW_nil ?_
           exact ⟨x8.1.nodes, x8.1.batch, x8.1.high, x8.1.zones, x8.1.caches, RepP [0, 1] rfl rfl (by kernel_rfl), h⟩
         ·replace h := cnd_f hb12 h
          refine AW_skip ?_
          exact ⟨x7.1.nodes, x7.1.batch, x7.1.high, x7.1.zones, x7.1.caches, RepP [1, 3] rfl rfl (by kernel_rfl), h⟩
        ·
         clear h
         rintro e' H' ⟨d1, d2, d3, l1, l2, hrep, h⟩
         refine AW_rep hrep ?_
         clear hrep
         unfold allocator_Alloc_j2 at h
         refine AW_seq <| AW_region <| ALW_val (AVal_field Try.underlying29 rfl rfl Try.sizeOf27 rfl) <| ALW_rep (Rep_open (k := 1) (o := 4) (t' := 50) (sz := 1) (rows := List.map cCpuCache l2) rfl rfl) <| ALW_val (AVal_load1 Try.isAgg27 rfl rfl rfl rfl) <| ALW_val (AVal_move rfl) ?_
         have hb8 := (chk_some h).1
         replace h := (chk_some h).2
         refine ALW_val (AVal_idxVM (f := cCpuCache) (l := l2) (i := a_p1) Try.underlying27 Try.sizeOf50 rfl rfl rfl hb8) <| ALW_val (AVal_loadVAM (f := cCpuCache) (l := l2) (i := a_p1) (c := 0) (q := 1) (la := (cCpuCache (at_ l2 a_p1))) Try.isAgg50 Try.sizeOf50 rfl rfl (by first | rfl | omega) hb8 rfl rfl rfl) <| ALW_val (AVal_move rfl) ?_
         refine bnd_elim h ?_; clear h; intro x6 hx6 h
         refine ALW_callN Try.func45 rfl (by kernel_rfl) (.fn 45) rfl rfl (percpu_Take_ok hx6) rfl <| ALW_val (AVal_move rfl) <| ALW_val (AVal_extract rfl rfl) <| ALW_val (AVal_extract rfl rfl) <| ALW_val (AVal_extract rfl rfl) <| ALW_step (H' := [.box 29 ([(ls cI ([] : List Int))] ++ ([(li 0)] ++ ([(li 0)] ++ ([(ls cZone ([] : List Zone))] ++ ([(ls cCpuCache ([] : List CpuCache))] ++ []))))), .box 29 ([(ls cI d1)] ++ ([(li d2)] ++ ([(li d3)] ++ ([AV.osl 46 10 (List.map cZone l1)] ++ ([AV.hd 2] ++ []))))), .vec 50 1 (List.map cCpuCache l2), .box 50 ([(ls (cS cI) ([] : List (List Int)))] ++ [])]) (AStep_alloc (t := 50) (vs := [.slice none 0 0]) (cs := [.sl false []]) Try.zeroValue50 (by kernel_rfl) rfl ⟨SubF.nils, trivial⟩) ?_
         refine ALW_act (H' := [.box 29 ([(ls cI ([] : List Int))] ++ ([(li 0)] ++ ([(li 0)] ++ ([(ls cZone ([] : List Zone))] ++ ([(ls cCpuCache ([] : List CpuCache))] ++ []))))), .box 29 ([(ls cI d1)] ++ ([(li d2)] ++ ([(li d3)] ++ ([AV.osl 46 10 (List.map cZone l1)] ++ ([AV.hd 2] ++ []))))), .vec 50 1 (List.map cCpuCache l2), .box 50 (cCpuCache x6.1)]) (AAct_storeA (k := 3) (o := 0) (cs := ([(ls (cS cI) ([] : List (List Int)))] ++ [])) (la := (cCpuCache x6.1)) Try.sizeOf50 rfl rfl rfl rfl) <| ALW_val (AVal_assign rfl) <| ALW_val (AVal_assign rfl) <| ALW_nil <| AW_seq <| AW_seq ?_
         refine AW_region <| ALW_val (AVal_move rfl) <| ALW_val (AVal_neq rfl rfl) <| ALW_nil ?_
         refine AW_cond (!decide (x6.2.2 = 0)) rfl (fun hb9 => ?_) (fun hb9 => ?_)
         ·replace h := cnd_t hb9 h
          refine AW_seq <| AW_region <| ALW_val (AVal_build (pl := [(0, 1), (1, 1), (2, 1), (3, 1), (4, 1)]) (zs := [.slice none 0 0, .int .i64 0, .int .i64 0, .slice none 0 0, .slice none 0 0]) (zc := [.sl false [], .lit (.int .i64 0), .lit (.int .i64 0), .sl false [], .sl false []]) (res := (cAllocator (⟨([] : List Int), 0, 0, ([] : List Zone), ([] : List CpuCache)⟩ : Allocator))) (fun _ => by kernel_rfl) rfl (⟨SubF.nils, ⟨SubF.refl _, ⟨SubF.refl _, ⟨SubF.nils, ⟨SubF.nils, trivial⟩⟩⟩⟩⟩) (by exact SubL.refl _)) <| ALW_val (AVal_move rfl) <| ALW_act (H' := [.box 29 (cAllocator (⟨([] : List Int), 0, 0, ([] : List Zone), ([] : List CpuCache)⟩ : Allocator)), .box 29 ([(ls cI d1)] ++ ([(li d2)] ++ ([(li d3)] ++ ([AV.osl 46 10 (List.map cZone l1)] ++ ([AV.hd 2] ++ []))))), .vec 50 1 (List.map cCpuCache l2), .box 50 (cCpuCache x6.1)]) (AAct_storeA (k := 0) (o := 0) (cs := ([(ls cI ([] : List Int))] ++ ([(li 0)] ++ ([(li 0)] ++ ([(ls cZone ([] : List Zone))] ++ ([(ls cCpuCache ([] : List CpuCache))] ++ [])))))) (la := (cAllocator (⟨([] : List Int), 0, 0, ([] : List Zone), ([] : List CpuCache)⟩ : Allocator))) Try.sizeOf29 rfl rfl rfl rfl) <| ALW_val (AVal_assign rfl) ?_
          refine ALW_val (AVal_assign rfl) <| ALW_nil <| AW_ret ?_
          show RetP _ _ _ _ _ _
          obtain rfl := Option.some.inj h
          exact RetP_3 (R1_A Try.isAgg29 Try.sizeOf29 rfl rfl rfl rfl) (R1_E rfl rfl) (R1_E rfl rfl) rfl
         ·replace h := cnd_f hb9 h
          refine AW_skip <| AW_seq <| AW_region <| ALW_val (AVal_field Try.underlying29 rfl rfl Try.sizeOf27 rfl) <| ALW_val (AVal_load1 Try.isAgg27 rfl rfl rfl rfl) <| ALW_val (AVal_move rfl) ?_
          refine ALW_val (AVal_loadA (k := 3) (o := 0) (m := 1) Try.isAgg50 Try.sizeOf50 rfl rfl rfl rfl rfl) <| ALW_val (AVal_idxVM (f := cCpuCache) (l := l2) (i := a_p1) Try.underlying27 Try.sizeOf50 rfl rfl rfl hb8) <| ALW_act (H' := [.box 29 ([(ls cI ([] : List Int))] ++ ([(li 0)] ++ ([(li 0)] ++ ([(ls cZone ([] : List Zone))] ++ ([(ls cCpuCache ([] : List CpuCache))] ++ []))))), .box 29 ([(ls cI d1)] ++ ([(li d2)] ++ ([(li d3)] ++ ([AV.osl 46 10 (List.map cZone l1)] ++ ([AV.hd 2] ++ []))))), .vec 50 1 (List.map cCpuCache (l2.set a_p1.toNat x6.1)), .box 50 (cCpuCache x6.1)]) (AAct_storeVAM (k := 2) (o := (a_p1.toNat * 1)) (f := cCpuCache) (l := l2) (i := a_p1) (z := x6.1) Try.sizeOf50 (fun _ => rfl) rfl rfl (by first | rfl | omega) hb8 rfl rfl) <| ALW_nil <| AW_seq <| AW_region ?_
          refine ALW_rep (Rep_frzC (k := 1) (o := 3) (rows' := List.map cZone l1) rfl rfl (frzR_map (fun _ => rfl))) <| ALW_rep (Rep_close (k := 1) (j := 2) (o := 4) rfl rfl rfl rfl) <| ALW_rep (Rep_frzC (k := 1) (o := 4) (rows' := List.map cCpuCache (l2.set a_p1.toNat x6.1)) rfl rfl (frzR_map (fun _ => rfl))) <| ALW_val (AVal_loadA (k := 1) (o := 0) (m := 5) Try.isAgg29 Try.sizeOf29 rfl rfl rfl rfl rfl) <| ALW_val (AVal_move rfl) <| ALW_act (H' := [.box 29 (cAllocator (⟨d1, d2, d3, l1, l2.set a_p1.toNat x6.1⟩ : Allocator)), .box 29 ([(ls cI d1)] ++ ([(li d2)] ++ ([(li d3)] ++ ([(ls cZone l1)] ++ ([(ls cCpuCache (l2.set a_p1.toNat x6.1))] ++ []))))), .dead, .box 50 (cCpuCache x6.1)]) (AAct_storeA (k := 0) (o := 0) (cs := ([(ls cI ([] : List Int))] ++ ([(li 0)] ++ ([(li 0)] ++ ([(ls cZone ([] : List Zone))] ++ ([(ls cCpuCache ([] : List CpuCache))] ++ [])))))) (la := (cAllocator (⟨d1, d2, d3, l1, l2.set a_p1.toNat x6.1⟩ : Allocator))) Try.sizeOf29 rfl rfl rfl rfl) ?_
          refine ALW_val (AVal_assign rfl) <| ALW_val (AVal_assign rfl) <| ALW_nil <| AW_ret ?_
          show RetP _ _ _ _ _ _
          obtain rfl := Option.some.inj h
          exact RetP_3 (R1_A Try.isAgg29 Try.sizeOf29 rfl rfl rfl rfl) (R1_E rfl rfl) (R1_E rfl rfl) rfl
      ·
       clear h
       rintro e' H' ⟨hrep, h⟩
       refine AW_rep hrep ?_
       clear hrep
       unfold allocator_Alloc_j1 at h
       refine AW_region ?_
       have hb5 := (chk_some h).1
       replace h := (chk_some h).2
       refine ALW_val (AVal_add rfl rfl hb5) <| ALW_val (AVal_move rfl) <| ALW_nil ?_
       exact ⟨(n0, (i1 + 1)), Nat.lt_succ_self _, RepP [0, 1] rfl rfl (by kernel_rfl), h⟩
     ·replace h := cnd_f hb4 h
      refine AW_exit ?_
      exact ⟨RepP [1] rfl rfl (by kernel_rfl), h⟩
   ·
    clear h
    rintro e' H' ⟨hrep, h⟩
    refine AW_rep hrep ?_
    clear hrep
    unfold allocator_Alloc_j0 at h
    refine AW_seq <| AW_region <| ALW_val (AVal_build (pl := [(0, 1), (1, 1), (2, 1), (3, 1), (4, 1)]) (zs := [.slice none 0 0, .int .i64 0, .int .i64 0, .slice none 0 0, .slice none 0 0]) (zc := [.sl false [], .lit (.int .i64 0), .lit (.int .i64 0), .sl false [], .sl false []]) (res := (cAllocator (⟨([] : List Int), 0, 0, ([] : List Zone), ([] : List CpuCache)⟩ : Allocator))) (fun _ => by kernel_rfl) rfl (⟨SubF.nils, ⟨SubF.refl _, ⟨SubF.refl _, ⟨SubF.nils, ⟨SubF.nils, trivial⟩⟩⟩⟩⟩) (by exact SubL.refl _)) <| ALW_act (H' := [.box 29 (cAllocator (⟨([] : List Int), 0, 0, ([] : List Zone), ([] : List CpuCache)⟩ : Allocator))]) (AAct_storeA (k := 0) (o := 0) (cs := ([(ls cI ([] : List Int))] ++ ([(li 0)] ++ ([(li 0)] ++ ([(ls cZone ([] : List Zone))] ++ ([(ls cCpuCache ([] : List CpuCache))] ++ [])))))) (la := (cAllocator (⟨([] : List Int), 0, 0, ([] : List Zone), ([] : List CpuCache)⟩ : Allocator))) Try.sizeOf29 rfl rfl rfl rfl) <| ALW_val (AVal_assign rfl) <| ALW_val (AVal_assign rfl) ?_
    refine ALW_nil <| AW_ret ?_
    show RetP _ _ _ _ _ _
    obtain rfl := Option.some.inj h
    exact RetP_3 (R1_A Try.isAgg29 Try.sizeOf29 rfl rfl rfl rfl) (R1_E rfl rfl) (R1_E rfl rfl) rfl
theorem slices_Index_Lint_int_ok {a_s : List Int} {a_v : Int} {r : Int} (h : slices_Index_Lint_int a_s a_v = some r) : PFn Try.prog 100 [(ls cI a_s), (li a_v)] (li r) := by
 refine PFn_enter Try.func100 rfl Try.ntmps100 Try.results100 rfl ?_
 unfold slices_Index_Lint_int at h
 refine AW_seq <| AW_region <| ALW_val (AVal_assign rfl) <| ALW_nil ?_
 refine AW_seqJ (fun e' H' => Rep 19 0 e' H' (mkE []) [] ∧ slices_Index_Lint_int_j0  = some r) ?_ ?_
 ·
  refine AW_seq <| AW_region <| ALW_val (AVal_move rfl) <| ALW_val (AVal_lenM Try.underlying22 rfl) <| ALW_val (AVal_move rfl) <| ALW_nil ?_
  refine AW_block <| AW_loop (σ := Nat × Int) (fun s => s.1) (fun s e' H' => match s with | (n0, i1) => Rep 19 0 e' H' (mkE [(0, (ls cI a_s)), (1, (li a_v)), (7, (li (a_s.length : Int))), (8, (li i1))]) [] ∧ slices_Index_Lint_int_l0 a_s a_v n0 i1 = some r) (FUEL, 0) ⟨RepP [] rfl rfl (by kernel_rfl), h⟩ ?_
  clear h
  rintro ⟨n0, i1⟩ e' H' ⟨hrep, h⟩
  cases n0 with
  | zero => exact absurd (show (none : Option _) = some r from h) (by simp)
  | succ n0 =>
   replace h : slices_Index_Lint_int_b0 a_s a_v (slices_Index_Lint_int_l0 a_s a_v n0) i1 = some r := h
   unfold slices_Index_Lint_int_b0 at h
   refine AW_rep hrep ?_
   clear hrep
   refine AW_seq <| AW_region <| ALW_val (AVal_lss rfl rfl) <| ALW_nil <| AW_seq ?_
   refine AW_cond (decide (i1 < (a_s.length : Int))) rfl (fun hb1 => ?_) (fun hb1 => ?_)
   ·replace h := cnd_t hb1 h
    refine AW_skip <| AW_seq <| AW_block <| AW_seq <| AW_region <| ALW_val (AVal_move rfl) ?_
    refine ALW_val (AVal_assign rfl) <| ALW_nil <| AW_seq <| AW_region <| ALW_val (AVal_move rfl) <| ALW_val (AVal_move rfl) ?_
    refine ALW_val (AVal_move rfl) ?_
    have hb2 := (chk_some h).1
    replace h := (chk_some h).2
    refine ALW_val (AVal_idxSM Try.underlying22 Try.sizeOf3 (fun _ => rfl) rfl rfl hb2) <| ALW_val (AVal_loadR1 (o := 0) Try.isAgg3 rfl rfl) <| ALW_val (AVal_eql rfl rfl) <| ALW_nil ?_
    refine AW_cond (decide (a_v = (at_ a_s i1))) rfl (fun hb3 => ?_) (fun hb3 => ?_)
    ·replace h := cnd_t hb3 h
     refine AW_seq <| AW_region <| ALW_val (AVal_move rfl) <| ALW_val (AVal_assign rfl) <| ALW_nil <| AW_ret ?_
     show RetP _ _ _ _ _ _
     obtain rfl := Option.some.inj h
     exact RetP_1 (R1_E rfl rfl)
    ·replace h := cnd_f hb3 h
     refine AW_skip <| AW_region ?_
     have hb4 := (chk_some h).1
     replace h := (chk_some h).2
     refine ALW_val (AVal_add rfl rfl hb4) <| ALW_val (AVal_move rfl) <| ALW_nil ?_
     exact ⟨(n0, (i1 + 1)), Nat.lt_succ_self _, RepP [] rfl rfl (by kernel_rfl), h⟩
   ·replace h := cnd_f hb1 h
    refine AW_exit ?_
    exact ⟨RepP [] rfl rfl (by kernel_rfl), h⟩
 ·
  clear h
  rintro e' H' ⟨hrep, h⟩
  refine AW_rep hrep ?_
  clear hrep
  unfold slices_Index_Lint_int_j0 at h
  refine AW_seq <| AW_region <| ALW_val (AVal_assign rfl) <| ALW_nil <| AW_ret ?_
  show RetP _ _ _ _ _ _
  obtain rfl := Option.some.inj h
  exact RetP_1 (R1_E rfl rfl)
theorem slices_Contains_Lint_int_ok {a_s : List Int} {a_v : Int} {r : Bool} (h : slices_Contains_Lint_int a_s a_v = some r) : PFn Try.prog 90 [(ls cI a_s), (li a_v)] (AV.lit (.bool r)) := by
 refine PFn_enter Try.func90 rfl Try.ntmps90 Try.results90 rfl ?_
 unfold slices_Contains_Lint_int at h
 refine AW_seq <| AW_region <| ALW_val (AVal_assign rfl) <| ALW_nil <| AW_seq <| AW_region ?_
 refine ALW_val (AVal_move rfl) <| ALW_val (AVal_move rfl) ?_
 refine bnd_elim h ?_; clear h; intro x1 hx1 h
 refine ALW_callN Try.func100 rfl (by kernel_rfl) (.fn 100) rfl rfl (slices_Index_Lint_int_ok hx1) rfl <| ALW_val (AVal_geq rfl rfl) <| ALW_val (AVal_assign rfl) <| ALW_nil <| AW_ret ?_
 show RetP _ _ _ _ _ _
 obtain rfl := Option.some.inj h
 exact RetP_1 (R1_E rfl rfl)
theorem allocator_cached_1_ok {a_c : CpuCache} {c_0 : Int} {c_1 : Int} {r : Bool} (h : allocator_cached_1 a_c c_0 c_1 = some r) : PFn Try.prog 89 [(AV.agg (cCpuCache a_c)), (AV.rp [(li c_0)] 0), (AV.rp [(li c_1)] 0)] (AV.lit (.bool r)) := by
 refine PFn_enter Try.func89 rfl Try.ntmps89 Try.results89 rfl ?_
 unfold allocator_cached_1 at h
 refine AW_seq <| AW_region <| ALW_step (H' := [.box 50 (cCpuCache a_c)]) (AStep_boxA (t := 50) rfl) <| ALW_val (AVal_assign rfl) <| ALW_nil <| AW_seq ?_
 have hb1 := (chk_some h).1
 replace h := (chk_some h).2
 refine bnd_elim h ?_; clear h; intro x1 hx1 h
 show AW _ _ _ _ _ _ [.box 50 (cCpuCache a_c)]
 refine AW_draw (n := 12) (m := 0) [.head 0 0, .head 0 0, .head 0 0, .head 0 0, .head 0 0, .head 0 0, .head 0 0, .head 0 0] [] [(AV.ptr 0 0), (ls (cS cI) a_c.lists), (li c_0), (AV.rp ((cS cI) (at_ a_c.lists c_0)) 0), (ls cI (at_ a_c.lists c_0)), (li c_1), (AV.lit (.bool x1)), (AV.lit (.bool x1))] [[.box 50 (cCpuCache a_c)]] (by kernel_rfl) (by kernel_rfl) ⟨?_, ?_, ?_, ?_, ?_, ?_, ?_, ?_, trivial⟩ ?_
 ·exact fun e s p => ALW1 (AVal_field (k := 0) (o := 0) (off := 0) Try.underlying50 rfl rfl Try.sizeOf48 (s 3 rfl)) ⟨fun _ => rfl, rfl⟩
 ·exact fun e s p => ALW1 (AVal_load1 (k := 0) (o := 0) (a := (ls (cS cI) a_c.lists)) Try.isAgg48 p.1 rfl rfl rfl) ⟨fun _ => rfl, rfl⟩
 ·exact fun e s p => ALW1 (AVal_loadR1 (row := [(li c_0)]) (o := 0) (a := (li c_0)) Try.isAgg3 (s 1 rfl) rfl) ⟨fun _ => rfl, rfl⟩
 ·exact fun e s p => ALW1 (AVal_idxSM (f := (cS cI)) (l := a_c.lists) (i := c_0) Try.underlying48 Try.sizeOf22 (fun _ => rfl) p.1 p.2.1 hb1) ⟨fun _ => rfl, rfl⟩
 ·exact fun e s p => ALW1 (AVal_loadR1 (row := ((cS cI) (at_ a_c.lists c_0))) (o := 0) (a := (ls cI (at_ a_c.lists c_0))) Try.isAgg22 p.1 rfl) ⟨fun _ => rfl, rfl⟩
 ·exact fun e s p => ALW1 (AVal_loadR1 (row := [(li c_1)]) (o := 0) (a := (li c_1)) Try.isAgg3 (s 2 rfl) rfl) ⟨fun _ => rfl, rfl⟩
 ·
  intro e7 hs7 hp7
  refine ALW_callN (r := (AV.lit (.bool x1))) (la := [(ls cI (at_ a_c.lists c_0)), (li c_1)]) Try.func90 rfl (by kernel_rfl) (.fn 90) (lcons hp7.1 (lcons hp7.2.1 rfl)) rfl (slices_Contains_Lint_int_ok hx1) rfl ?_
  exact ALW_nil ⟨fun _ => rfl, rfl⟩
 ·exact fun e s p => ALW1 (AVal_assign (av := (AV.lit (.bool x1))) p.2.2.2.2.2.2.2.2.1) ⟨fun _ => rfl, rfl⟩
 intro e9 hs9 hq1
 refine AW_rep (Rep_mk (l := [(4, (AV.lit (.bool x1)))]) ⟨(hq1 7 (by decide) (by decide)), trivial⟩) <| AW_ret ?_
 show RetP _ _ _ _ _ _
 obtain rfl := Option.some.inj h
 exact RetP_1 (R1_E rfl rfl)
theorem slices_IndexFunc_Lapi_CpuCache_api_CpuCache_ok {a_s : List CpuCache} {a_f : CpuCache → Option Bool} {g_a_f : FuncId} {cf_a_f : Func} {code_a_f : Code} {caps_a_f : List AV} (hcf_a_f : Try.prog.funcs[g_a_f]? = some cf_a_f) (hcb_a_f : cf_a_f.body = some code_a_f) (hcn_a_f : (cf_a_f.name == "runtime.NumGoroutine") = false) (hnr_a_f : caps_a_f.all nr = true) (hg_a_f : ∀ {x0 : CpuCache} {y : Bool}, a_f x0 = some y → PFn Try.prog g_a_f ((AV.agg (cCpuCache x0)) :: caps_a_f) (AV.lit (.bool y))) {r : Int} (h : slices_IndexFunc_Lapi_CpuCache_api_CpuCache a_s a_f = some r) : PFn Try.prog 88 [(ls cCpuCache a_s), (AV.clo g_a_f caps_a_f)] (li r) := by
 refine PFn_enter Try.func88 rfl Try.ntmps88 Try.results88 rfl ?_
 unfold slices_IndexFunc_Lapi_CpuCache_api_CpuCache at h
 refine AW_seq <| AW_region <| ALW_val (AVal_assign rfl) <| ALW_nil ?_
 refine AW_seqJ (fun e' H' => Rep 19 0 e' H' (mkE []) [] ∧ slices_IndexFunc_Lapi_CpuCache_api_CpuCache_j0  = some r) ?_ ?_
 ·
  refine AW_seq <| AW_region <| ALW_val (AVal_move rfl) <| ALW_val (AVal_lenM Try.underlying27 rfl) <| ALW_val (AVal_move rfl) <| ALW_nil ?_
  refine AW_block <| AW_loop (σ := Nat × Int) (fun s => s.1) (fun s e' H' => match s with | (n0, i1) => Rep 19 0 e' H' (mkE [(0, (ls cCpuCache a_s)), (1, (AV.clo g_a_f caps_a_f)), (7, (li (a_s.length : Int))), (8, (li i1))]) [] ∧ slices_IndexFunc_Lapi_CpuCache_api_CpuCache_l0 a_s a_f n0 i1 = some r) (FUEL, 0) ⟨Rep_perm (n := 19) (m := 0) [] (l := [(0, (ls cCpuCache a_s)), (1, (AV.clo g_a_f caps_a_f)), (7, (li (a_s.length : Int))), (8, (li 0))]) ⟨⟨Sub.refl _, by kernel_rfl⟩, ⟨Sub_clo hnr_a_f, okA_clo hnr_a_f⟩, ⟨Sub.refl _, by kernel_rfl⟩, ⟨Sub.refl _, by kernel_rfl⟩, trivial⟩ rfl rfl trivial, h⟩ ?_
  clear h
  rintro ⟨n0, i1⟩ e' H' ⟨hrep, h⟩
  cases n0 with
  | zero => exact absurd (show (none : Option _) = some r from h) (by simp)
  | succ n0 =>
   replace h : slices_IndexFunc_Lapi_CpuCache_api_CpuCache_b0 a_s a_f (slices_IndexFunc_Lapi_CpuCache_api_CpuCache_l0 a_s a_f n0) i1 = some r := h
   unfold slices_IndexFunc_Lapi_CpuCache_api_CpuCache_b0 at h
   refine AW_rep hrep ?_
   clear hrep
   refine AW_seq <| AW_region <| ALW_val (AVal_lss rfl rfl) <| ALW_nil <| AW_seq ?_
   refine AW_cond (decide (i1 < (a_s.length : Int))) rfl (fun hb1 => ?_) (fun hb1 => ?_)
   ·replace h := cnd_t hb1 h
    refine AW_skip <| AW_seq <| AW_block <| AW_seq <| AW_region <| ALW_val (AVal_move rfl) ?_
    refine ALW_val (AVal_assign rfl) <| ALW_nil <| AW_seq <| AW_region <| ALW_val (AVal_move rfl) <| ALW_val (AVal_move rfl) ?_
    refine ALW_val (AVal_move rfl) ?_
    have hb2 := (chk_some h).1
    replace h := (chk_some h).2
    refine ALW_val (AVal_idxSM Try.underlying27 Try.sizeOf50 (fun _ => rfl) rfl rfl hb2) <| ALW_val (AVal_loadRA (row := (cCpuCache (at_ a_s i1))) (o := 0) (m := 1) (la := (cCpuCache (at_ a_s i1))) Try.isAgg50 Try.sizeOf50 rfl rfl rfl) ?_
    refine bnd_elim h ?_; clear h; intro x1 hx1 h
    refine ALW_callE (S := []) hcf_a_f hcb_a_f hcn_a_f (.clo (caps := caps_a_f) rfl) rfl (ViewL.c (View.nr rfl) (ViewL.nrs hnr_a_f)) (hg_a_f hx1) (.inl rfl) rfl <| ALW_nil ?_
    refine AW_cond (x1) rfl (fun hb3 => ?_) (fun hb3 => ?_)
    ·replace h := cnd_t hb3 h
     refine AW_seq <| AW_region <| ALW_val (AVal_move rfl) <| ALW_val (AVal_assign rfl) <| ALW_nil <| AW_ret ?_
     show RetP _ _ _ _ _ _
     obtain rfl := Option.some.inj h
     exact RetP_1 (R1_E rfl rfl)
    ·replace h := cnd_f hb3 h
     refine AW_skip <| AW_region ?_
     have hb4 := (chk_some h).1
     replace h := (chk_some h).2
     refine ALW_val (AVal_add rfl rfl hb4) <| ALW_val (AVal_move rfl) <| ALW_nil ?_
     exact ⟨(n0, (i1 + 1)), Nat.lt_succ_self _, Rep_perm (n := 19) (m := 0) [] (l := [(0, (ls cCpuCache a_s)), (1, (AV.clo g_a_f caps_a_f)), (7, (li (a_s.length : Int))), (8, (li (i1 + 1)))]) ⟨⟨Sub.refl _, by kernel_rfl⟩, ⟨Sub_clo hnr_a_f, okA_clo hnr_a_f⟩, ⟨Sub.refl _, by kernel_rfl⟩, ⟨Sub.refl _, by kernel_rfl⟩, trivial⟩ rfl rfl trivial, h⟩
   ·replace h := cnd_f hb1 h
    refine AW_exit ?_
    exact ⟨RepP [] rfl rfl (by kernel_rfl), h⟩
 ·
  clear h
  rintro e' H' ⟨hrep, h⟩
  refine AW_rep hrep ?_
  clear hrep
  unfold slices_IndexFunc_Lapi_CpuCache_api_CpuCache_j0 at h
  refine AW_seq <| AW_region <| ALW_val (AVal_assign rfl) <| ALW_nil <| AW_ret ?_
  show RetP _ _ _ _ _ _
  obtain rfl := Option.some.inj h
  exact RetP_1 (R1_E rfl rfl)
theorem allocator_cached_ok {a_a : Allocator} {a_z : Int} {a_frame : Int} {r : Int} (h : allocator_cached a_a a_z a_frame = some r) : PFn Try.prog 56 [(AV.agg (cAllocator a_a)), (li a_z), (li a_frame)] (li r) := by
 refine PFn_enter Try.func56 rfl Try.ntmps56 Try.results56 rfl ?_
 unfold allocator_cached at h
 refine AW_seq <| AW_region <| ALW_step (H' := [.box 29 (cAllocator a_a)]) (AStep_boxA (t := 29) rfl) <| ALW_step (H' := [.box 29 (cAllocator a_a), .box 3 [(li a_z)]]) (AStep_box1 (t := 3) (a := (li a_z)) rfl rfl) <| ALW_step (H' := [.box 29 (cAllocator a_a), .box 3 [(li a_z)], .box 3 [(li a_frame)]]) (AStep_box1 (t := 3) (a := (li a_frame)) rfl rfl) <| ALW_val (AVal_assign rfl) ?_
 refine ALW_nil <| AW_seq <| AW_region <| ALW_val (AVal_field Try.underlying29 rfl rfl Try.sizeOf27 rfl) <| ALW_val (AVal_load1 Try.isAgg27 rfl rfl rfl rfl) <| ALW_val (AVal_func (la := [(AV.ptr 1 0), (AV.ptr 2 0)]) rfl) ?_
 refine bnd_elim h ?_; clear h; intro x1 hx1 h
 refine ALW_callE (r' := (li x1)) (la := [(ls cCpuCache a_a.caches), (AV.clo 89 [(AV.ptr 1 0), (AV.ptr 2 0)])]) (la' := [(ls cCpuCache a_a.caches), (AV.clo 89 [(AV.rp [(li a_z)] 0), (AV.rp [(li a_frame)] 0)])]) (r := (li x1)) (S := [1, 2]) Try.func88 rfl (by kernel_rfl) (.fn 88) rfl ⟨View.nr rfl, View.clo (⟨View.ptr (cs := [(li a_z)]) rfl rfl rfl, View.ptr (cs := [(li a_frame)]) rfl rfl rfl, trivial⟩), trivial⟩ (slices_IndexFunc_Lapi_CpuCache_api_CpuCache_ok Try.func89 rfl (by kernel_rfl) rfl (fun hy => allocator_cached_1_ok  hy) hx1) (.inr trivial) rfl <| ALW_val (AVal_assign rfl) <| ALW_nil <| AW_ret ?_
 show RetP _ _ _ _ _ _
 obtain rfl := Option.some.inj h
 exact RetP_1 (R1_E rfl rfl)
theorem allocator_free_ok {a_a : Allocator} {a_z : Int} {a_frame : Int} {r : Bool} (h : allocator_free a_a a_z a_frame = some r) : PFn Try.prog 35 [(AV.agg (cAllocator a_a)), (li a_z), (li a_frame)] (AV.lit (.bool r)) := by
 refine PFn_enter Try.func35 rfl Try.ntmps35 Try.results35 rfl ?_
 unfold allocator_free at h
 refine AW_seq <| AW_region <| ALW_step (H' := [.box 29 (cAllocator a_a)]) (AStep_boxA (t := 29) rfl) <| ALW_val (AVal_assign rfl) <| ALW_nil <| AW_seq ?_
 refine AW_region <| ALW_val (AVal_field Try.underlying29 rfl rfl Try.sizeOf26 rfl) <| ALW_val (AVal_load1 Try.isAgg26 rfl rfl rfl rfl) <| ALW_val (AVal_move rfl) ?_
 have hb1 := (chk_some h).1
 replace h := (chk_some h).2
 refine ALW_val (AVal_idxSM Try.underlying26 Try.sizeOf46 (fun _ => rfl) rfl rfl hb1) <| ALW_val (AVal_loadRA (row := (cZone (at_ a_a.zones a_z))) (o := 0) (m := 10) (la := (cZone (at_ a_a.zones a_z))) Try.isAgg46 Try.sizeOf46 rfl rfl rfl) <| ALW_val (AVal_move rfl) ?_
 refine bnd_elim h ?_; clear h; intro x1 hx1 h
 refine ALW_callN Try.func38 rfl (by kernel_rfl) (.fn 38) rfl rfl (buddy_IsFree_ok hx1) rfl <| ALW_val (AVal_move rfl) <| ALW_g0 rfl rfl (fun hc1 => AVal.step (AVal_loadA (k := 0) (o := 0) (m := 5) Try.isAgg29 Try.sizeOf29 rfl rfl rfl rfl rfl)) <| ALW_g0 rfl rfl (fun hc2 => AVal.step (AVal_move rfl)) <| ALW_g0 rfl rfl (fun hc3 => AVal.step (AVal_move rfl)) ?_
 refine bnd_elim h ?_; clear h; intro x2 hx2 h
 refine ALW_callG0 (g := 14) (s := x1) (r' := (li x2)) rfl rfl (fun hc4 => ⟨56, _, _, [], [(AV.agg (cAllocator a_a)), (li a_z), (li a_frame)], [(AV.agg (cAllocator a_a)), (li a_z), (li a_frame)], (li x2), [], Try.func56, rfl, by kernel_rfl, (.fn 56), (lcons (gd_t rfl hc4) (lcons (gd_t rfl hc4) (lcons (gd_t rfl hc4) rfl))), ⟨View.nr rfl, View.nr rfl, View.nr rfl, trivial⟩, allocator_cached_ok (cnd_t hc4 hx2), .inl rfl, rfl⟩) <| ALW_g0 rfl rfl (fun hc5 => AVal.step (AVal_geq (gd_t rfl hc5) rfl)) <| ALW_val (AVal_pick_or rfl rfl) <| ALW_val (AVal_assign rfl) <| ALW_nil <| AW_ret ?_
 show RetP _ _ _ _ _ _
 obtain rfl := Option.some.inj h
 exact RetP_1 (R1_E rfl rfl)
theorem allocator_IsFree_ok {a_a : Allocator} {a_frame : Int} {r : Bool} (h : allocator_IsFree a_a a_frame = some r) : PFn Try.prog 14 [(AV.agg (cAllocator a_a)), (li a_frame)] (AV.lit (.bool r)) := by
 refine PFn_enter Try.func14 rfl Try.ntmps14 Try.results14 rfl ?_
 unfold allocator_IsFree at h
 refine AW_seq <| AW_region <| ALW_step (H' := [.box 29 (cAllocator a_a)]) (AStep_boxA (t := 29) rfl) <| ALW_val (AVal_assign rfl) <| ALW_nil <| AW_seq ?_
 refine AW_seq <| AW_region <| ALW_val (AVal_loadA (k := 0) (o := 0) (m := 5) Try.isAgg29 Try.sizeOf29 rfl rfl rfl rfl rfl) ?_
 refine bnd_elim h ?_; clear h; intro x1 hx1 h
 refine ALW_callN Try.func15 rfl (by kernel_rfl) (.fn 15) rfl rfl (allocator_Check_ok hx1) rfl <| ALW_val (AVal_neq rfl rfl) <| ALW_nil ?_
 refine AW_cond (!decide (x1 = 0)) rfl (fun hb1 => ?_) (fun hb1 => ?_)
 ·replace h := cnd_t hb1 h
  refine AW_seq <| AW_region <| ALW_val (AVal_assign rfl) <| ALW_nil <| AW_ret ?_
  show RetP _ _ _ _ _ _
  obtain rfl := Option.some.inj h
  exact RetP_1 (R1_E rfl rfl)
 ·replace h := cnd_f hb1 h
  refine AW_skip <| AW_seq <| AW_region <| ALW_val (AVal_loadA (k := 0) (o := 0) (m := 5) Try.isAgg29 Try.sizeOf29 rfl rfl rfl rfl rfl) <| ALW_val (AVal_move rfl) ?_
  refine bnd_elim h ?_; clear h; intro x2 hx2 h
  refine ALW_callN Try.func34 rfl (by kernel_rfl) (.fn 34) rfl rfl (allocator_zone_ok hx2) rfl <| ALW_val (AVal_assign rfl) <| ALW_nil <| AW_seq <| AW_region <| ALW_val (AVal_move rfl) ?_
  refine ALW_val (AVal_geq rfl rfl) <| ALW_val (AVal_move rfl) <| ALW_g1 rfl rfl (fun hc1 => AVal.step (AVal_loadA (k := 0) (o := 0) (m := 5) Try.isAgg29 Try.sizeOf29 rfl rfl rfl rfl rfl)) <| ALW_g1 rfl rfl (fun hc2 => AVal.step (AVal_move rfl)) <| ALW_g1 rfl rfl (fun hc3 => AVal.step (AVal_move rfl)) ?_
  refine bnd_elim h ?_; clear h; intro x3 hx3 h
  refine ALW_callG1 (g := 14) (s := decide (0 ≤ x2)) (r' := (AV.lit (.bool x3))) rfl rfl (fun hc4 => ⟨35, _, _, [], [(AV.agg (cAllocator a_a)), (li x2), (li a_frame)], [(AV.agg (cAllocator a_a)), (li x2), (li a_frame)], (AV.lit (.bool x3)), [], Try.func35, rfl, by kernel_rfl, (.fn 35), (lcons (gd_t rfl hc4) (lcons (gd_t rfl hc4) (lcons (gd_t rfl hc4) rfl))), ⟨View.nr rfl, View.nr rfl, View.nr rfl, trivial⟩, allocator_free_ok (cnd_t hc4 hx3), .inl rfl, rfl⟩) <| ALW_val (AVal_pick_and (j := .lit undef) rfl rfl) <| ALW_val (AVal_assign rfl) <| ALW_nil <| AW_ret ?_
  show RetP _ _ _ _ _ _
  obtain rfl := Option.some.inj h
  exact RetP_1 (R1_E rfl rfl)
theorem allocator_Count_ok {a_a : Allocator} {a_z : Int} {r : Int} (h : allocator_Count a_a a_z = some r) : PFn Try.prog 18 [(AV.agg (cAllocator a_a)), (li a_z)] (li r) := by
 refine PFn_enter Try.func18 rfl Try.ntmps18 Try.results18 rfl ?_
 unfold allocator_Count at h
 refine AW_seq <| AW_region <| ALW_step (H' := [.box 29 (cAllocator a_a)]) (AStep_boxA (t := 29) rfl) <| ALW_val (AVal_assign rfl) <| ALW_nil <| AW_seq ?_
 refine AW_seq <| AW_region <| ALW_val (AVal_loadA (k := 0) (o := 0) (m := 5) Try.isAgg29 Try.sizeOf29 rfl rfl rfl rfl rfl) ?_
 refine bnd_elim h ?_; clear h; intro x1 hx1 h
 refine ALW_callN Try.func15 rfl (by kernel_rfl) (.fn 15) rfl rfl (allocator_Check_ok hx1) rfl <| ALW_val (AVal_neq rfl rfl) <| ALW_val (AVal_move rfl) <| ALW_g0 rfl rfl (fun hc1 => AVal.step (AVal_move rfl)) <| ALW_g0 rfl rfl (fun hc2 => AVal.step (AVal_lss (gd_t rfl hc2) rfl)) <| ALW_val (AVal_pick_or rfl rfl) ?_
 refine ALW_val (AVal_move rfl) <| ALW_g0 rfl rfl (fun hc3 => AVal.step (AVal_move rfl)) <| ALW_g0 rfl rfl (fun hc4 => AVal.step (AVal_field Try.underlying29 rfl rfl Try.sizeOf26 rfl)) <| ALW_g0 rfl rfl (fun hc5 => AVal.step (AVal_load1 Try.isAgg26 (gd_t rfl hc5) rfl rfl rfl)) <| ALW_g0 rfl rfl (fun hc6 => AVal.step (AVal_lenM Try.underlying26 (gd_t rfl hc6))) <| ALW_g0 rfl rfl (fun hc7 => AVal.step (AVal_geq (gd_t rfl hc7) (gd_t rfl hc7))) ?_
 refine ALW_val (AVal_pick_or rfl rfl) <| ALW_nil ?_
 refine AW_cond (((!decide (x1 = 0)) || (decide (a_z < 0))) || (decide ((a_a.zones.length : Int) ≤ a_z))) rfl (fun hb1 => ?_) (fun hb1 => ?_)
 ·replace h := cnd_t hb1 h
  refine AW_seq <| AW_region <| ALW_val (AVal_assign rfl) <| ALW_nil <| AW_ret ?_
  show RetP _ _ _ _ _ _
  obtain rfl := Option.some.inj h
  exact RetP_1 (R1_E rfl rfl)
 ·replace h := cnd_f hb1 h
  refine AW_skip <| AW_seq <| AW_region <| ALW_val (AVal_loadA (k := 0) (o := 0) (m := 5) Try.isAgg29 Try.sizeOf29 rfl rfl rfl rfl rfl) <| ALW_val (AVal_move rfl) ?_
  refine bnd_elim h ?_; clear h; intro x2 hx2 h
  refine ALW_callN Try.func41 rfl (by kernel_rfl) (.fn 41) rfl rfl (allocator_count_ok hx2) rfl <| ALW_val (AVal_assign rfl) <| ALW_nil <| AW_ret ?_
  show RetP _ _ _ _ _ _
  obtain rfl := Option.some.inj h
  exact RetP_1 (R1_E rfl rfl)
theorem allocator_Zone_ok {a_a : Allocator} {a_frame : Int} {r : Int} (h : allocator_Zone a_a a_frame = some r) : PFn Try.prog 19 [(AV.agg (cAllocator a_a)), (li a_frame)] (li r) := by
 refine PFn_enter Try.func19 rfl Try.ntmps19 Try.results19 rfl ?_
 unfold allocator_Zone at h
 refine AW_seq <| AW_region <| ALW_step (H' := [.box 29 (cAllocator a_a)]) (AStep_boxA (t := 29) rfl) <| ALW_val (AVal_assign rfl) <| ALW_nil <| AW_seq ?_
 refine AW_seq <| AW_region <| ALW_val (AVal_loadA (k := 0) (o := 0) (m := 5) Try.isAgg29 Try.sizeOf29 rfl rfl rfl rfl rfl) ?_
 refine bnd_elim h ?_; clear h; intro x1 hx1 h
 refine ALW_callN Try.func15 rfl (by kernel_rfl) (.fn 15) rfl rfl (allocator_Check_ok hx1) rfl <| ALW_val (AVal_neq rfl rfl) <| ALW_nil ?_
 refine AW_cond (!decide (x1 = 0)) rfl (fun hb1 => ?_) (fun hb1 => ?_)
 ·replace h := cnd_t hb1 h
  refine AW_seq <| AW_region <| ALW_val (AVal_assign rfl) <| ALW_nil <| AW_ret ?_
  show RetP _ _ _ _ _ _
  obtain rfl := Option.some.inj h
  exact RetP_1 (R1_E rfl rfl)
 ·replace h := cnd_f hb1 h
  refine AW_skip <| AW_seq <| AW_region <| ALW_val (AVal_loadA (k := 0) (o := 0) (m := 5) Try.isAgg29 Try.sizeOf29 rfl rfl rfl rfl rfl) <| ALW_val (AVal_move rfl) ?_
  refine bnd_elim h ?_; clear h; intro x2 hx2 h
  refine ALW_callN Try.func34 rfl (by kernel_rfl) (.fn 34) rfl rfl (allocator_zone_ok hx2) rfl <| ALW_val (AVal_assign rfl) <| ALW_nil <| AW_ret ?_
  show RetP _ _ _ _ _ _
  obtain rfl := Option.some.inj h
  exact RetP_1 (R1_E rfl rfl)
theorem percpu_Put_ok {a_p0 : CpuCache} {a_p1 : Int} {a_p2 : Int} {a_p3 : Int} {a_p4 : Int} {r : CpuCache × (List Int) × Int} (h : percpu_Put a_p0 a_p1 a_p2 a_p3 a_p4 = some r) : PFn Try.prog 46 [(AV.agg (cCpuCache a_p0)), (li a_p1), (li a_p2), (li a_p3), (li a_p4)] (AV.tup [(AV.agg (cCpuCache r.1)), (ls cI r.2.1), (li r.2.2)]) := by
 refine PFn_enter Try.func46 rfl Try.ntmps46 Try.results46 rfl ?_
 unfold percpu_Put at h
 refine AW_seq <| AW_region <| ALW_step (H' := [.box 50 (cCpuCache a_p0)]) (AStep_boxA (t := 50) rfl) <| ALW_step (H' := [.box 50 (cCpuCache a_p0), .box 50 ([(ls (cS cI) ([] : List (List Int)))] ++ [])]) (AStep_alloc (t := 50) (vs := [.slice none 0 0]) (cs := [.sl false []]) Try.zeroValue50 (by kernel_rfl) rfl ⟨SubF.nils, trivial⟩) <| ALW_val (AVal_assign rfl) <| ALW_val (AVal_assign rfl) ?_
 refine ALW_nil <| AW_seq <| AW_seq <| AW_region <| ALW_val (AVal_loadA (k := 0) (o := 0) (m := 1) Try.isAgg50 Try.sizeOf50 rfl rfl rfl rfl rfl) <| ALW_val (AVal_move rfl) ?_
 refine bnd_elim h ?_; clear h; intro x1 hx1 h
 refine ALW_callN Try.func79 rfl (by kernel_rfl) (.fn 79) rfl rfl (percpu_check_ok hx1) rfl <| ALW_val (AVal_assign rfl) <| ALW_nil <| AW_seq <| AW_region <| ALW_val (AVal_move rfl) ?_
 refine ALW_val (AVal_neq rfl rfl) <| ALW_nil ?_
 refine AW_cond (!decide (x1 = 0)) rfl (fun hb1 => ?_) (fun hb1 => ?_)
 ·replace h := cnd_t hb1 h
  refine AW_seq <| AW_region <| ALW_val (AVal_build (pl := [(0, 1)]) (zs := [.slice none 0 0]) (zc := [.sl false []]) (res := (cCpuCache (⟨([] : List (List Int))⟩ : CpuCache))) (fun _ => by kernel_rfl) rfl (⟨SubF.nils, trivial⟩) (by exact SubL.refl _)) <| ALW_val (AVal_move rfl) <| ALW_act (H' := [.box 50 (cCpuCache a_p0), .box 50 (cCpuCache (⟨([] : List (List Int))⟩ : CpuCache))]) (AAct_storeA (k := 1) (o := 0) (cs := ([(ls (cS cI) ([] : List (List Int)))] ++ [])) (la := (cCpuCache (⟨([] : List (List Int))⟩ : CpuCache))) Try.sizeOf50 rfl rfl rfl rfl) <| ALW_val (AVal_assign rfl) ?_
  refine ALW_val (AVal_assign rfl) <| ALW_nil <| AW_ret ?_
  show RetP _ _ _ _ _ _
  obtain rfl := Option.some.inj h
  exact RetP_3 (R1_A Try.isAgg50 Try.sizeOf50 rfl rfl rfl rfl) (R1_sub (R1_E rfl rfl) SubF.nils) (R1_E rfl rfl) rfl
 ·replace h := cnd_f hb1 h
  refine AW_skip <| AW_seq <| AW_seq <| AW_region <| ALW_val (AVal_move rfl) ?_
  refine bnd_elim h ?_; clear h; intro x2 hx2 h
  refine ALW_callN Try.func64 rfl (by kernel_rfl) (.fn 64) rfl rfl (percpu_isFrame_ok hx2) rfl <| ALW_val (AVal_not (t := x2) rfl) <| ALW_nil ?_
  refine AW_cond (!x2) rfl (fun hb2 => ?_) (fun hb2 => ?_)
  ·replace h := cnd_t hb2 h
   refine AW_seq <| AW_region <| ALW_val (AVal_build (pl := [(0, 1)]) (zs := [.slice none 0 0]) (zc := [.sl false []]) (res := (cCpuCache (⟨([] : List (List Int))⟩ : CpuCache))) (fun _ => by kernel_rfl) rfl (⟨SubF.nils, trivial⟩) (by exact SubL.refl _)) <| ALW_act (H' := [.box 50 (cCpuCache a_p0), .box 50 (cCpuCache (⟨([] : List (List Int))⟩ : CpuCache))]) (AAct_storeA (k := 1) (o := 0) (cs := ([(ls (cS cI) ([] : List (List Int)))] ++ [])) (la := (cCpuCache (⟨([] : List (List Int))⟩ : CpuCache))) Try.sizeOf50 rfl rfl rfl rfl) <| ALW_val (AVal_assign rfl) <| ALW_val (AVal_assign rfl) ?_
   refine ALW_nil <| AW_ret ?_
   show RetP _ _ _ _ _ _
   obtain rfl := Option.some.inj h
   exact RetP_3 (R1_A Try.isAgg50 Try.sizeOf50 rfl rfl rfl rfl) (R1_sub (R1_E rfl rfl) SubF.nils) (R1_E rfl rfl) rfl
  ·replace h := cnd_f hb2 h
   refine AW_skip <| AW_seq <| AW_seq <| AW_region <| ALW_val (AVal_move rfl) <| ALW_val (AVal_lss rfl rfl) ?_
   refine ALW_val (AVal_move rfl) <| ALW_g0 rfl rfl (fun hc1 => AVal.step (AVal_move rfl)) <| ALW_g0 rfl rfl (fun hc2 => AVal.step (AVal_move rfl)) <| ALW_g0 rfl rfl (fun hc3 => AVal.step (AVal_gtr (gd_t rfl hc3) (gd_t rfl hc3))) <| ALW_val (AVal_pick_or rfl rfl) <| ALW_nil ?_
   refine AW_cond ((decide (a_p3 < 1)) || (decide (a_p4 < a_p3))) rfl (fun hb3 => ?_) (fun hb3 => ?_)
   ·replace h := cnd_t hb3 h
    refine AW_seq <| AW_region <| ALW_val (AVal_build (pl := [(0, 1)]) (zs := [.slice none 0 0]) (zc := [.sl false []]) (res := (cCpuCache (⟨([] : List (List Int))⟩ : CpuCache))) (fun _ => by kernel_rfl) rfl (⟨SubF.nils, trivial⟩) (by exact SubL.refl _)) <| ALW_act (H' := [.box 50 (cCpuCache a_p0), .box 50 (cCpuCache (⟨([] : List (List Int))⟩ : CpuCache))]) (AAct_storeA (k := 1) (o := 0) (cs := ([(ls (cS cI) ([] : List (List Int)))] ++ [])) (la := (cCpuCache (⟨([] : List (List Int))⟩ : CpuCache))) Try.sizeOf50 rfl rfl rfl rfl) <| ALW_val (AVal_assign rfl) <| ALW_val (AVal_assign rfl) ?_
    refine ALW_nil <| AW_ret ?_
    show RetP _ _ _ _ _ _
    obtain rfl := Option.some.inj h
    exact RetP_3 (R1_A Try.isAgg50 Try.sizeOf50 rfl rfl rfl rfl) (R1_sub (R1_E rfl rfl) SubF.nils) (R1_E rfl rfl) rfl
   ·replace h := cnd_f hb3 h
    refine AW_skip <| AW_seq <| AW_seq <| AW_region <| ALW_val (AVal_loadA (k := 0) (o := 0) (m := 1) Try.isAgg50 Try.sizeOf50 rfl rfl rfl rfl rfl) ?_
    refine bnd_elim h ?_; clear h; intro x3 hx3 h
    refine ALW_callM (es := mI Value.bool x3) (la := [(AV.agg (cCpuCache a_p0))]) (la' := [(AV.agg (cCpuCache a_p0))]) (S := []) Try.func65 rfl (by kernel_rfl) (.fn 65) rfl ⟨View.nr rfl, trivial⟩ (percpu_frames_ok hx3) <| ALW_val (AVal_move rfl) <| ALW_val (AVal_mget (k := 2) (g := Value.bool) (q := a_p2) (l := x3) (dflt := false) (a := (AV.lit (.bool (mget false x3 a_p2)))) Try.underlying83 Try.underlying3 Try.zeroValue4 rfl rfl rfl rfl) <| ALW_nil ?_
    refine AW_cond (mget false x3 a_p2) rfl (fun hb4 => ?_) (fun hb4 => ?_)
    ·replace h := cnd_t hb4 h
     refine AW_seq <| AW_region <| ALW_val (AVal_build (pl := [(0, 1)]) (zs := [.slice none 0 0]) (zc := [.sl false []]) (res := (cCpuCache (⟨([] : List (List Int))⟩ : CpuCache))) (fun _ => by kernel_rfl) rfl (⟨SubF.nils, trivial⟩) (by exact SubL.refl _)) <| ALW_act (H' := [.box 50 (cCpuCache a_p0), .box 50 (cCpuCache (⟨([] : List (List Int))⟩ : CpuCache)), .map (mI Value.bool x3)]) (AAct_storeA (k := 1) (o := 0) (cs := ([(ls (cS cI) ([] : List (List Int)))] ++ [])) (la := (cCpuCache (⟨([] : List (List Int))⟩ : CpuCache))) Try.sizeOf50 rfl rfl rfl rfl) <| ALW_val (AVal_assign rfl) <| ALW_val (AVal_assign rfl) ?_
     refine ALW_nil <| AW_ret ?_
     show RetP _ _ _ _ _ _
     obtain rfl := Option.some.inj h
     exact RetP_3 (R1_A Try.isAgg50 Try.sizeOf50 rfl rfl rfl rfl) (R1_sub (R1_E rfl rfl) SubF.nils) (R1_E rfl rfl) rfl
    ·replace h := cnd_f hb4 h
     refine AW_skip <| AW_seq ?_
     have hb5 := (chk_some h).1
     replace h := (chk_some h).2
     have hb6 := (chk_some h).1
     replace h := (chk_some h).2
     have hb7 := (chk_some h).1
     replace h := (chk_some h).2
     show AW _ _ _ _ _ _ [.box 50 (cCpuCache a_p0), .box 50 ([(ls (cS cI) ([] : List (List Int)))] ++ []), .map (mI Value.bool x3)]
     refine AW_draw (n := 85) (m := 0) [.head 0 0, .head 0 0, .head 0 0, .head 0 0, .head 0 0, .head 0 0, .head 0 0, .head 0 0, .head 0 0, .head 0 0, .head 0 0, .head 0 0, .head 0 0, .tail 0, .head 1 1] [13] [(AV.ptr 0 0), (ls (cS cI) a_p0.lists), (li a_p1), (AV.rp ((cS cI) (at_ a_p0.lists a_p1)) 0), (ls cI (at_ a_p0.lists a_p1)), (li ((at_ a_p0.lists a_p1).length : Int)), (AV.ptr 0 0), (ls (cS cI) a_p0.lists), (li a_p1), (AV.rp ((cS cI) (at_ a_p0.lists a_p1)) 0), (ls cI (at_ a_p0.lists a_p1)), (li ((at_ a_p0.lists a_p1).length : Int)), (li (((at_ a_p0.lists a_p1).length : Int) + 1)), (AV.hd 3), (AV.hd 3)] [[.box 50 (cCpuCache a_p0), .box 50 ([(ls (cS cI) ([] : List (List Int)))] ++ []), .map (mI Value.bool x3)], [.box 50 (cCpuCache a_p0), .box 50 ([(ls (cS cI) ([] : List (List Int)))] ++ []), .map (mI Value.bool x3), .vec 3 1 (List.map cI (List.replicate ((at_ a_p0.lists a_p1).length : Int).toNat 0))]] (by kernel_rfl) (by kernel_rfl) ⟨?_, ?_, ?_, ?_, ?_, ?_, ?_, ?_, ?_, ?_, ?_, ?_, ?_, ?_, ?_, trivial⟩ ?_
     ·exact fun e s p => ALW1 (AVal_field (k := 0) (o := 0) (off := 0) Try.underlying50 rfl rfl Try.sizeOf48 (s 5 rfl)) ⟨fun _ => rfl, rfl⟩
     ·exact fun e s p => ALW1 (AVal_load1 (k := 0) (o := 0) (a := (ls (cS cI) a_p0.lists)) Try.isAgg48 p.1 rfl rfl rfl) ⟨fun _ => rfl, rfl⟩
     ·exact fun e s p => ALW1 (AVal_move (av := (li a_p1)) (s 1 rfl)) ⟨fun _ => rfl, rfl⟩
     ·exact fun e s p => ALW1 (AVal_idxSM (f := (cS cI)) (l := a_p0.lists) (i := a_p1) Try.underlying48 Try.sizeOf22 (fun _ => rfl) p.1 p.2.1 hb5) ⟨fun _ => rfl, rfl⟩
     ·exact fun e s p => ALW1 (AVal_loadR1 (row := ((cS cI) (at_ a_p0.lists a_p1))) (o := 0) (a := (ls cI (at_ a_p0.lists a_p1))) Try.isAgg22 p.1 rfl) ⟨fun _ => rfl, rfl⟩
     ·exact fun e s p => ALW1 (AVal_lenM (f := cI) (l := at_ a_p0.lists a_p1) Try.underlying22 p.1) ⟨fun _ => rfl, rfl⟩
     ·exact fun e s p => ALW1 (AVal_field (k := 0) (o := 0) (off := 0) Try.underlying50 rfl rfl Try.sizeOf48 (s 5 rfl)) ⟨fun _ => rfl, rfl⟩
     ·exact fun e s p => ALW1 (AVal_load1 (k := 0) (o := 0) (a := (ls (cS cI) a_p0.lists)) Try.isAgg48 p.1 rfl rfl rfl) ⟨fun _ => rfl, rfl⟩
     ·exact fun e s p => ALW1 (AVal_move (av := (li a_p1)) (s 1 rfl)) ⟨fun _ => rfl, rfl⟩
     ·exact fun e s p => ALW1 (AVal_idxSM (f := (cS cI)) (l := a_p0.lists) (i := a_p1) Try.underlying48 Try.sizeOf22 (fun _ => rfl) p.1 p.2.1 hb5) ⟨fun _ => rfl, rfl⟩
     ·exact fun e s p => ALW1 (AVal_loadR1 (row := ((cS cI) (at_ a_p0.lists a_p1))) (o := 0) (a := (ls cI (at_ a_p0.lists a_p1))) Try.isAgg22 p.1 rfl) ⟨fun _ => rfl, rfl⟩
     ·exact fun e s p => ALW1 (AVal_lenM (f := cI) (l := at_ a_p0.lists a_p1) Try.underlying22 p.1) ⟨fun _ => rfl, rfl⟩
     ·exact fun e s p => ALW1 (AVal_add (a := ((at_ a_p0.lists a_p1).length : Int)) (b := 1) p.1 rfl hb6) ⟨fun _ => rfl, rfl⟩
     ·
      intro e14 hs14 hp14
      refine ALW_makeM (f := cI) (a := ((at_ a_p0.lists a_p1).length : Int)) (c := ((at_ a_p0.lists a_p1).length : Int) + 1) (d0 := 0) elem3 ⟨SubF.refl _, trivial⟩ rfl Try.underlying22 hp14.1 hp14.2.1 hb7 ?_
      exact ALW_nil ⟨fun _ => rfl, rfl⟩
     ·exact fun e s p => ALW1 (AVal_assign (av := (AV.hd 3)) p.2.2.2.2.2.2.2.2.2.2.2.2.2.2.1) ⟨fun _ => rfl, rfl⟩
     intro e16 hs16 hq1
     refine AW_rep (Rep_mk (l := [(1, (li a_p1)), (2, (li a_p2)), (3, (li a_p3)), (4, (li a_p4)), (5, (AV.ptr 0 0)), (10, (AV.ptr 1 0)), (14, (AV.hd 3))]) ⟨(hs16 1 rfl), (hs16 2 rfl), (hs16 3 rfl), (hs16 4 rfl), (hs16 5 rfl), (hs16 10 rfl), (hq1 14 (by decide) (by decide)), trivial⟩) <| AW_seq <| AW_region <| ALW_val (AVal_move (av := (AV.hd 3)) rfl) <| ALW_val (AVal_field (k := 0) (o := 0) (off := 0) Try.underlying50 rfl rfl Try.sizeOf48 rfl) <| ALW_val (AVal_load1 (k := 0) (o := 0) (a := (ls (cS cI) a_p0.lists)) Try.isAgg48 rfl rfl rfl rfl) ?_
     refine ALW_val (AVal_move rfl) <| ALW_val (AVal_idxSM Try.underlying48 Try.sizeOf22 (fun _ => rfl) rfl rfl hb5) <| ALW_val (AVal_loadR1 (o := 0) Try.isAgg22 rfl rfl) <| ALW_step (H' := [.box 50 (cCpuCache a_p0), .box 50 ([(ls (cS cI) ([] : List (List Int)))] ++ []), .map (mI Value.bool x3), .vec 3 1 (List.map cI (copyL (List.replicate ((at_ a_p0.lists a_p1).length : Int).toNat 0) (at_ a_p0.lists a_p1)))]) (AStep_copy (f := cI) (k := 3) (l := List.replicate ((at_ a_p0.lists a_p1).length : Int).toNat 0) (l2 := at_ a_p0.lists a_p1) Try.underlying22 Try.sizeOf3 (fun _ => rfl) rfl rfl rfl) <| ALW_nil <| AW_seq ?_
     refine AW_region <| ALW_val (AVal_move rfl) <| ALW_val (AVal_move rfl) <| ALW_lit1 (a := (li a_p2)) elem3 Try.underlying22 rfl rfl rfl rfl ?_
     have hb8 := (chk_some h).1
     replace h := (chk_some h).2
     refine ALW_appendVM (f := cI) (k := 3) (j := 4) (l := copyL (List.replicate ((at_ a_p0.lists a_p1).length : Int).toNat 0) (at_ a_p0.lists a_p1)) (l' := [a_p2]) elem3 (fun _ => rfl) Try.underlying22 rfl rfl rfl rfl hb8 <| ALW_val (AVal_assign rfl) <| ALW_nil <| AW_seq <| AW_seq <| AW_region ?_
     refine ALW_val (AVal_move rfl) <| ALW_val (AVal_lenVM (f := cI) (l := (copyL (List.replicate ((at_ a_p0.lists a_p1).length : Int).toNat 0) (at_ a_p0.lists a_p1)) ++ [a_p2]) Try.underlying22 rfl rfl) <| ALW_val (AVal_move rfl) <| ALW_val (AVal_leq rfl rfl) <| ALW_nil ?_
     refine AW_cond (decide ((((copyL (List.replicate ((at_ a_p0.lists a_p1).length : Int).toNat 0) (at_ a_p0.lists a_p1)) ++ [a_p2]).length : Int) ≤ a_p4)) rfl (fun hb9 => ?_) (fun hb9 => ?_)
     ·replace h := cnd_t hb9 h
      refine AW_seq <| AW_region <| ALW_val (AVal_loadA (k := 0) (o := 0) (m := 1) Try.isAgg50 Try.sizeOf50 rfl rfl rfl rfl rfl) <| ALW_val (AVal_move rfl) <| ALW_val (AVal_move rfl) ?_
      refine bnd_elim h ?_; clear h; intro x4 hx4 h
      refine ALW_rep (Rep_frzL (j := 5) (ds := [14, 64, 65, 71]) (rows' := List.map cI ((copyL (List.replicate ((at_ a_p0.lists a_p1).length : Int).toNat 0) (at_ a_p0.lists a_p1)) ++ [a_p2])) rfl (frzR_map (fun _ => rfl)) ⟨rfl, rfl, rfl, rfl, trivial⟩) ?_
      refine bnd_elim h ?_; clear h; intro x5 hx5 h
      refine ALW_callN Try.func80 rfl (by kernel_rfl) (.fn 80) rfl rfl (percpu_replace_ok hx5) rfl <| ALW_act (H' := [.box 50 (cCpuCache a_p0), .box 50 (cCpuCache x5), .map (mI Value.bool x3), .dead, .vec 3 1 (List.map cI [a_p2]), .dead]) (AAct_storeA (k := 1) (o := 0) (cs := ([(ls (cS cI) ([] : List (List Int)))] ++ [])) (la := (cCpuCache x5)) Try.sizeOf50 rfl rfl rfl rfl) <| ALW_val (AVal_assign rfl) <| ALW_val (AVal_assign rfl) <| ALW_nil <| AW_ret ?_
      show RetP _ _ _ _ _ _
      obtain rfl := Option.some.inj h
      exact RetP_3 (R1_A Try.isAgg50 Try.sizeOf50 rfl rfl rfl rfl) (R1_sub (R1_E rfl rfl) SubF.nils) (R1_E rfl rfl) rfl
     ·replace h := cnd_f hb9 h
      refine AW_skip <| AW_seq <| AW_region <| ALW_val (AVal_move rfl) ?_
      have hb10 := (chk_some h).1
      replace h := (chk_some h).2
      refine ALW_makeM (f := cI) (a := a_p3) (c := a_p3) (d0 := 0) elem3 ⟨SubF.refl _, trivial⟩ rfl Try.underlying22 rfl rfl hb10 <| ALW_val (AVal_assign rfl) <| ALW_nil <| AW_seq <| AW_region <| ALW_val (AVal_move rfl) ?_
      refine ALW_val (AVal_move rfl) <| ALW_step (H' := [.box 50 (cCpuCache a_p0), .box 50 ([(ls (cS cI) ([] : List (List Int)))] ++ []), .map (mI Value.bool x3), .dead, .vec 3 1 (List.map cI [a_p2]), .vec 3 1 (List.map cI ((copyL (List.replicate ((at_ a_p0.lists a_p1).length : Int).toNat 0) (at_ a_p0.lists a_p1)) ++ [a_p2])), .vec 3 1 (List.map cI (copyL (List.replicate a_p3.toNat 0) ((copyL (List.replicate ((at_ a_p0.lists a_p1).length : Int).toNat 0) (at_ a_p0.lists a_p1)) ++ [a_p2])))]) (AStep_copyV (f := cI) (k := 6) (j := 5) (l := List.replicate a_p3.toNat 0) (l2 := (copyL (List.replicate ((at_ a_p0.lists a_p1).length : Int).toNat 0) (at_ a_p0.lists a_p1)) ++ [a_p2]) Try.underlying22 Try.sizeOf3 (fun _ => rfl) rfl rfl rfl rfl) <| ALW_nil <| AW_seq <| AW_rep (Rep_frzL (j := 5) (ds := [14, 64, 65, 76]) (rows' := List.map cI ((copyL (List.replicate ((at_ a_p0.lists a_p1).length : Int).toNat 0) (at_ a_p0.lists a_p1)) ++ [a_p2])) rfl (frzR_map (fun _ => rfl)) ⟨rfl, rfl, rfl, rfl, trivial⟩) ?_
      have hb11 := (chk_some h).1
      replace h := (chk_some h).2
      refine bnd_elim h ?_; clear h; intro x6 hx6 h
      show AW _ _ _ _ _ _ [.box 50 (cCpuCache a_p0), .box 50 ([(ls (cS cI) ([] : List (List Int)))] ++ []), .map (mI Value.bool x3), .dead, .vec 3 1 (List.map cI [a_p2]), .dead, .vec 3 1 (List.map cI (copyL (List.replicate a_p3.toNat 0) ((copyL (List.replicate ((at_ a_p0.lists a_p1).length : Int).toNat 0) (at_ a_p0.lists a_p1)) ++ [a_p2])))]
      refine AW_draw (n := 85) (m := 0) [.head 0 0, .head 0 0, .head 0 0, .head 0 0, .head 0 0, .head 0 0, .head 0 1, .tail 0, .head 1 1, .head 1 1] [7] [(AV.agg (cCpuCache a_p0)), (li a_p1), (ls cI ((copyL (List.replicate ((at_ a_p0.lists a_p1).length : Int).toNat 0) (at_ a_p0.lists a_p1)) ++ [a_p2])), (li a_p3), (ls cI (cutL ((copyL (List.replicate ((at_ a_p0.lists a_p1).length : Int).toNat 0) (at_ a_p0.lists a_p1)) ++ [a_p2]) a_p3 (((copyL (List.replicate ((at_ a_p0.lists a_p1).length : Int).toNat 0) (at_ a_p0.lists a_p1)) ++ [a_p2]).length : Int))), (AV.agg (cCpuCache x6)), (AV.hd 6), .any, (AV.hd 6), (li 0)] [[.box 50 (cCpuCache a_p0), .box 50 ([(ls (cS cI) ([] : List (List Int)))] ++ []), .map (mI Value.bool x3), .dead, .vec 3 1 (List.map cI [a_p2]), .dead, .vec 3 1 (List.map cI (copyL (List.replicate a_p3.toNat 0) ((copyL (List.replicate ((at_ a_p0.lists a_p1).length : Int).toNat 0) (at_ a_p0.lists a_p1)) ++ [a_p2])))], [.box 50 (cCpuCache a_p0), .box 50 (cCpuCache x6), .map (mI Value.bool x3), .dead, .vec 3 1 (List.map cI [a_p2]), .dead, .vec 3 1 (List.map cI (copyL (List.replicate a_p3.toNat 0) ((copyL (List.replicate ((at_ a_p0.lists a_p1).length : Int).toNat 0) (at_ a_p0.lists a_p1)) ++ [a_p2])))]] (by kernel_rfl) (by kernel_rfl) ⟨?_, ?_, ?_, ?_, ?_, ?_, ⟨?_, ?_⟩, ?_, ?_, ?_, trivial⟩ ?_
      ·exact fun e s p => ALW1 (AVal_loadA (k := 0) (o := 0) (m := 1) (la := (cCpuCache a_p0)) Try.isAgg50 Try.sizeOf50 (s 5 rfl) rfl rfl rfl rfl) ⟨fun _ => rfl, rfl⟩
      ·exact fun e s p => ALW1 (AVal_move (av := (li a_p1)) (s 1 rfl)) ⟨fun _ => rfl, rfl⟩
      ·exact fun e s p => ALW1 (AVal_move (av := (ls cI ((copyL (List.replicate ((at_ a_p0.lists a_p1).length : Int).toNat 0) (at_ a_p0.lists a_p1)) ++ [a_p2]))) (s 14 rfl)) ⟨fun _ => rfl, rfl⟩
      ·exact fun e s p => ALW1 (AVal_move (av := (li a_p3)) (s 3 rfl)) ⟨fun _ => rfl, rfl⟩
      ·exact fun e s p => ALW1 (AVal_cutL (lo := a_p3) (f := cI) (l := (copyL (List.replicate ((at_ a_p0.lists a_p1).length : Int).toNat 0) (at_ a_p0.lists a_p1)) ++ [a_p2]) Try.underlying22 Try.sizeOf3 (fun _ => rfl) p.1 p.2.1 hb11) ⟨fun _ => rfl, rfl⟩
      ·
       intro e22 hs22 hp21
       refine ALW_callN (r := (AV.agg (cCpuCache x6))) (la := [(AV.agg (cCpuCache a_p0)), (li a_p1), (ls cI (cutL ((copyL (List.replicate ((at_ a_p0.lists a_p1).length : Int).toNat 0) (at_ a_p0.lists a_p1)) ++ [a_p2]) a_p3 (((copyL (List.replicate ((at_ a_p0.lists a_p1).length : Int).toNat 0) (at_ a_p0.lists a_p1)) ++ [a_p2]).length : Int)))]) Try.func80 rfl (by kernel_rfl) (.fn 80) (lcons hp21.1 (lcons hp21.2.1 (lcons hp21.2.2.1 rfl))) rfl (percpu_replace_ok hx6) rfl ?_
       exact ALW_nil ⟨fun _ => rfl, rfl⟩
      ·exact fun e s p => ALW1 (AVal_move (av := (AV.hd 6)) (s 15 rfl)) ⟨fun _ => rfl, rfl⟩
      ·exact fun e s p => ALW1 (AVal_move (av := (AV.hd 6)) (s 15 rfl)) ⟨fun _ => rfl, rfl⟩
      ·
       intro e25 hs25 hp24
       refine ALW_act (H' := [.box 50 (cCpuCache a_p0), .box 50 (cCpuCache x6), .map (mI Value.bool x3), .dead, .vec 3 1 (List.map cI [a_p2]), .dead, .vec 3 1 (List.map cI (copyL (List.replicate a_p3.toNat 0) ((copyL (List.replicate ((at_ a_p0.lists a_p1).length : Int).toNat 0) (at_ a_p0.lists a_p1)) ++ [a_p2])))]) (AAct_storeA (k := 1) (o := 0) (cs := ([(ls (cS cI) ([] : List (List Int)))] ++ [])) (la := (cCpuCache x6)) Try.sizeOf50 (by exact (hs25 10 rfl)) rfl rfl (by exact hp24.2.2.2.2.2.2.2.1)) ?_
       exact ALW_nil ⟨fun _ => rfl, rfl⟩
      ·exact fun e s p => ALW1 (AVal_assign (av := (AV.hd 6)) p.2.2.2.2.2.2.2.2.1) ⟨fun _ => rfl, rfl⟩
      ·exact fun e s p => ALW1 (AVal_assign (av := (li 0)) rfl) ⟨fun _ => rfl, rfl⟩
      intro e28 hs28 hq2
      refine AW_rep (Rep_mk (l := [(10, (AV.ptr 1 0)), (11, (AV.hd 6)), (12, (li 0))]) ⟨(hs28 10 rfl), (hq2 8 (by decide) (by decide)), (hq2 9 (by decide) (by decide)), trivial⟩) <| AW_rep (Rep_frzL (j := 6) (ds := [11]) (rows' := List.map cI (copyL (List.replicate a_p3.toNat 0) ((copyL (List.replicate ((at_ a_p0.lists a_p1).length : Int).toNat 0) (at_ a_p0.lists a_p1)) ++ [a_p2]))) rfl (frzR_map (fun _ => rfl)) ⟨rfl, trivial⟩) <| AW_ret ?_
      show RetP _ _ _ _ _ _
      obtain rfl := Option.some.inj h
      exact RetP_3 (R1_A Try.isAgg50 Try.sizeOf50 rfl rfl rfl rfl) (R1_E rfl rfl) (R1_E rfl rfl) rfl
end Go.Proofs.Ytplkliakhdkpcaa
