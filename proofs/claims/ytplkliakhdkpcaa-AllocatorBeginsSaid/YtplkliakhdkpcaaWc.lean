/-
  The program computes what these functions give, part c.
-/
import Derived.Test.YtplkliakhdkpcaaWb
set_option linter.unusedVariables false
set_option linter.unusedSimpArgs false
namespace Go.Proofs.Ytplkliakhdkpcaa
open Go Go.RowKit Go.Wk Go.Am Go.Proofs
set_option maxHeartbeats 4000000
theorem allocator_Free_ok {a_p0 : Allocator} {a_p1 : Int} {a_p2 : Int} {r : Allocator × Int} (h : allocator_Free a_p0 a_p1 a_p2 = some r) : PFn Try.prog 20 [(AV.agg (cAllocator a_p0)), (li a_p1), (li a_p2)] (AV.tup [(AV.agg (cAllocator r.1)), (li r.2)]) := by
 refine PFn_enter Try.func20 rfl Try.ntmps20 Try.results20 rfl ?_
 unfold allocator_Free at h
 refine AW_seq <| AW_region <| ALW_step (H' := [.box 29 (cAllocator a_p0)]) (AStep_boxA (t := 29) rfl) <| ALW_step (H' := [.box 29 (cAllocator a_p0), .box 29 ([(ls cI ([] : List Int))] ++ ([(li 0)] ++ ([(li 0)] ++ ([(ls cZone ([] : List Zone))] ++ ([(ls cCpuCache ([] : List CpuCache))] ++ [])))))]) (AStep_alloc (t := 29) (vs := [.slice none 0 0, .int .i64 0, .int .i64 0, .slice none 0 0, .slice none 0 0]) (cs := [.sl false [], .lit (.int .i64 0), .lit (.int .i64 0), .sl false [], .sl false []]) Try.zeroValue29 (by kernel_rfl) rfl ⟨SubF.nils, SubF.refl _, SubF.refl _, SubF.nils, SubF.nils, trivial⟩) <| ALW_val (AVal_assign rfl) <| ALW_nil ?_
 refine AW_seq <| AW_seq <| AW_region <| ALW_val (AVal_loadA (k := 0) (o := 0) (m := 5) Try.isAgg29 Try.sizeOf29 rfl rfl rfl rfl rfl) ?_
 refine bnd_elim h ?_; clear h; intro x1 hx1 h
 refine ALW_callN Try.func15 rfl (by kernel_rfl) (.fn 15) rfl rfl (allocator_Check_ok hx1) rfl <| ALW_val (AVal_assign rfl) <| ALW_nil <| AW_seq <| AW_region <| ALW_val (AVal_move rfl) ?_
 refine ALW_val (AVal_neq rfl rfl) <| ALW_nil ?_
 refine AW_cond (!decide (x1 = 0)) rfl (fun hb1 => ?_) (fun hb1 => ?_)
 ·replace h := cnd_t hb1 h
  refine AW_seq <| AW_region <| ALW_val (AVal_build (pl := [(0, 1), (1, 1), (2, 1), (3, 1), (4, 1)]) (zs := [.slice none 0 0, .int .i64 0, .int .i64 0, .slice none 0 0, .slice none 0 0]) (zc := [.sl false [], .lit (.int .i64 0), .lit (.int .i64 0), .sl false [], .sl false []]) (res := (cAllocator (⟨([] : List Int), 0, 0, ([] : List Zone), ([] : List CpuCache)⟩ : Allocator))) (fun _ => by kernel_rfl) rfl (⟨SubF.nils, ⟨SubF.refl _, ⟨SubF.refl _, ⟨SubF.nils, ⟨SubF.nils, trivial⟩⟩⟩⟩⟩) (by exact SubL.refl _)) <| ALW_val (AVal_move rfl) <| ALW_act (H' := [.box 29 (cAllocator a_p0), .box 29 (cAllocator (⟨([] : List Int), 0, 0, ([] : List Zone), ([] : List CpuCache)⟩ : Allocator))]) (AAct_storeA (k := 1) (o := 0) (cs := ([(ls cI ([] : List Int))] ++ ([(li 0)] ++ ([(li 0)] ++ ([(ls cZone ([] : List Zone))] ++ ([(ls cCpuCache ([] : List CpuCache))] ++ [])))))) (la := (cAllocator (⟨([] : List Int), 0, 0, ([] : List Zone), ([] : List CpuCache)⟩ : Allocator))) Try.sizeOf29 rfl rfl rfl rfl) <| ALW_val (AVal_assign rfl) ?_
  refine ALW_nil <| AW_ret ?_
  show RetP _ _ _ _ _ _
  obtain rfl := Option.some.inj h
  exact RetP_2 (R1_A Try.isAgg29 Try.sizeOf29 rfl rfl rfl rfl) (R1_E rfl rfl) rfl
 ·replace h := cnd_f hb1 h
  refine AW_skip <| AW_seq <| AW_region <| ALW_val (AVal_loadA (k := 0) (o := 0) (m := 5) Try.isAgg29 Try.sizeOf29 rfl rfl rfl rfl rfl) <| ALW_val (AVal_move rfl) ?_
  refine bnd_elim h ?_; clear h; intro x2 hx2 h
  refine ALW_callN Try.func34 rfl (by kernel_rfl) (.fn 34) rfl rfl (allocator_zone_ok hx2) rfl <| ALW_val (AVal_assign rfl) <| ALW_nil <| AW_seq <| AW_seq <| AW_region ?_
  refine ALW_val (AVal_move rfl) <| ALW_val (AVal_lss rfl rfl) <| ALW_val (AVal_move rfl) <| ALW_g0 rfl rfl (fun hc1 => AVal.step (AVal_move rfl)) <| ALW_g0 rfl rfl (fun hc2 => AVal.step (AVal_field Try.underlying29 rfl rfl Try.sizeOf22 rfl)) <| ALW_g0 rfl rfl (fun hc3 => AVal.step (AVal_load1 Try.isAgg22 (gd_t rfl hc3) rfl rfl rfl)) ?_
  refine ALW_g0 rfl rfl (fun hc4 => AVal.step (AVal_lenM Try.underlying22 (gd_t rfl hc4))) <| ALW_g0 rfl rfl (fun hc5 => AVal.step (AVal_geq (gd_t rfl hc5) (gd_t rfl hc5))) <| ALW_val (AVal_pick_or rfl rfl) <| ALW_val (AVal_move rfl) <| ALW_g0 rfl rfl (fun hc6 => AVal.step (AVal_move rfl)) <| ALW_g0 rfl rfl (fun hc7 => AVal.step (AVal_lss (gd_t rfl hc7) rfl)) ?_
  refine ALW_val (AVal_pick_or rfl rfl) <| ALW_nil ?_
  refine AW_cond (((decide (a_p1 < 0)) || (decide ((a_p0.nodes.length : Int) ≤ a_p1))) || (decide (x2 < 0))) rfl (fun hb2 => ?_) (fun hb2 => ?_)
  ·replace h := cnd_t hb2 h
   refine AW_seq <| AW_region <| ALW_val (AVal_build (pl := [(0, 1), (1, 1), (2, 1), (3, 1), (4, 1)]) (zs := [.slice none 0 0, .int .i64 0, .int .i64 0, .slice none 0 0, .slice none 0 0]) (zc := [.sl false [], .lit (.int .i64 0), .lit (.int .i64 0), .sl false [], .sl false []]) (res := (cAllocator (⟨([] : List Int), 0, 0, ([] : List Zone), ([] : List CpuCache)⟩ : Allocator))) (fun _ => by kernel_rfl) rfl (⟨SubF.nils, ⟨SubF.refl _, ⟨SubF.refl _, ⟨SubF.nils, ⟨SubF.nils, trivial⟩⟩⟩⟩⟩) (by exact SubL.refl _)) <| ALW_act (H' := [.box 29 (cAllocator a_p0), .box 29 (cAllocator (⟨([] : List Int), 0, 0, ([] : List Zone), ([] : List CpuCache)⟩ : Allocator))]) (AAct_storeA (k := 1) (o := 0) (cs := ([(ls cI ([] : List Int))] ++ ([(li 0)] ++ ([(li 0)] ++ ([(ls cZone ([] : List Zone))] ++ ([(ls cCpuCache ([] : List CpuCache))] ++ [])))))) (la := (cAllocator (⟨([] : List Int), 0, 0, ([] : List Zone), ([] : List CpuCache)⟩ : Allocator))) Try.sizeOf29 rfl rfl rfl rfl) <| ALW_val (AVal_assign rfl) <| ALW_nil ?_
   refine AW_ret ?_
   show RetP _ _ _ _ _ _
   obtain rfl := Option.some.inj h
   exact RetP_2 (R1_A Try.isAgg29 Try.sizeOf29 rfl rfl rfl rfl) (R1_E rfl rfl) rfl
  ·replace h := cnd_f hb2 h
   refine AW_skip <| AW_seq <| AW_seq <| AW_region <| ALW_val (AVal_loadA (k := 0) (o := 0) (m := 5) Try.isAgg29 Try.sizeOf29 rfl rfl rfl rfl rfl) <| ALW_val (AVal_move rfl) ?_
   refine ALW_val (AVal_move rfl) ?_
   refine bnd_elim h ?_; clear h; intro x3 hx3 h
   refine ALW_callN Try.func35 rfl (by kernel_rfl) (.fn 35) rfl rfl (allocator_free_ok hx3) rfl <| ALW_nil ?_
   refine AW_cond (x3) rfl (fun hb3 => ?_) (fun hb3 => ?_)
   ·replace h := cnd_t hb3 h
    refine AW_seq <| AW_region <| ALW_val (AVal_build (pl := [(0, 1), (1, 1), (2, 1), (3, 1), (4, 1)]) (zs := [.slice none 0 0, .int .i64 0, .int .i64 0, .slice none 0 0, .slice none 0 0]) (zc := [.sl false [], .lit (.int .i64 0), .lit (.int .i64 0), .sl false [], .sl false []]) (res := (cAllocator (⟨([] : List Int), 0, 0, ([] : List Zone), ([] : List CpuCache)⟩ : Allocator))) (fun _ => by kernel_rfl) rfl (⟨SubF.nils, ⟨SubF.refl _, ⟨SubF.refl _, ⟨SubF.nils, ⟨SubF.nils, trivial⟩⟩⟩⟩⟩) (by exact SubL.refl _)) <| ALW_act (H' := [.box 29 (cAllocator a_p0), .box 29 (cAllocator (⟨([] : List Int), 0, 0, ([] : List Zone), ([] : List CpuCache)⟩ : Allocator))]) (AAct_storeA (k := 1) (o := 0) (cs := ([(ls cI ([] : List Int))] ++ ([(li 0)] ++ ([(li 0)] ++ ([(ls cZone ([] : List Zone))] ++ ([(ls cCpuCache ([] : List CpuCache))] ++ [])))))) (la := (cAllocator (⟨([] : List Int), 0, 0, ([] : List Zone), ([] : List CpuCache)⟩ : Allocator))) Try.sizeOf29 rfl rfl rfl rfl) <| ALW_val (AVal_assign rfl) <| ALW_nil ?_
    refine AW_ret ?_
    show RetP _ _ _ _ _ _
    obtain rfl := Option.some.inj h
    exact RetP_2 (R1_A Try.isAgg29 Try.sizeOf29 rfl rfl rfl rfl) (R1_E rfl rfl) rfl
   ·replace h := cnd_f hb3 h
    refine AW_skip <| AW_seq <| AW_region <| ALW_val (AVal_loadA (k := 0) (o := 0) (m := 5) Try.isAgg29 Try.sizeOf29 rfl rfl rfl rfl rfl) ?_
    refine bnd_elim h ?_; clear h; intro x4 hx4 h
    refine ALW_callA (cs := ([(ls cI x4.nodes)] ++ ([(li x4.batch)] ++ ([(li x4.high)] ++ ([AV.osl 46 10 (List.map cZone x4.zones)] ++ ([AV.osl 50 1 (List.map cCpuCache x4.caches)] ++ [])))))) (la := [(AV.agg (cAllocator a_p0))]) (la' := [(AV.agg (cAllocator a_p0))]) (S := []) Try.func42 rfl (by kernel_rfl) (.fn 42) rfl ⟨View.nr rfl, trivial⟩ (allocator_clone_ok hx4) (.inl rfl) <| ALW_step (H' := [.box 29 (cAllocator a_p0), .box 29 ([(ls cI ([] : List Int))] ++ ([(li 0)] ++ ([(li 0)] ++ ([(ls cZone ([] : List Zone))] ++ ([(ls cCpuCache ([] : List CpuCache))] ++ []))))), .val (.agg ([(ls cI x4.nodes)] ++ ([(li x4.batch)] ++ ([(li x4.high)] ++ ([AV.osl 46 10 (List.map cZone x4.zones)] ++ ([AV.osl 50 1 (List.map cCpuCache x4.caches)] ++ [])))))), .box 29 ([(ls cI ([] : List Int))] ++ ([(li 0)] ++ ([(li 0)] ++ ([(ls cZone ([] : List Zone))] ++ ([(ls cCpuCache ([] : List CpuCache))] ++ [])))))]) (AStep_alloc (t := 29) (vs := [.slice none 0 0, .int .i64 0, .int .i64 0, .slice none 0 0, .slice none 0 0]) (cs := [.sl false [], .lit (.int .i64 0), .lit (.int .i64 0), .sl false [], .sl false []]) Try.zeroValue29 (by kernel_rfl) rfl ⟨SubF.nils, SubF.refl _, SubF.refl _, SubF.nils, SubF.nils, trivial⟩) <| ALW_act (H' := [.box 29 (cAllocator a_p0), .box 29 ([(ls cI ([] : List Int))] ++ ([(li 0)] ++ ([(li 0)] ++ ([(ls cZone ([] : List Zone))] ++ ([(ls cCpuCache ([] : List CpuCache))] ++ []))))), .dead, .box 29 ([(ls cI x4.nodes)] ++ ([(li x4.batch)] ++ ([(li x4.high)] ++ ([AV.osl 46 10 (List.map cZone x4.zones)] ++ ([AV.osl 50 1 (List.map cCpuCache x4.caches)] ++ [])))))]) (AAct_storeT (k := 3) (o := 0) (j := 2) (cs := ([(ls cI ([] : List Int))] ++ ([(li 0)] ++ ([(li 0)] ++ ([(ls cZone ([] : List Zone))] ++ ([(ls cCpuCache ([] : List CpuCache))] ++ [])))))) (la := ([(ls cI x4.nodes)] ++ ([(li x4.batch)] ++ ([(li x4.high)] ++ ([AV.osl 46 10 (List.map cZone x4.zones)] ++ ([AV.osl 50 1 (List.map cCpuCache x4.caches)] ++ [])))))) Try.sizeOf29 rfl rfl rfl rfl rfl (by decide)) <| ALW_nil <| AW_seq <| AW_rep (Rep_open (k := 3) (o := 4) (t' := 50) (sz := 1) (rows := List.map cCpuCache x4.caches) rfl rfl) ?_
    have hb4 := (chk_some h).1
    replace h := (chk_some h).2
    refine bnd_elim h ?_; clear h; intro x5 hx5 h
    show AW _ _ _ _ _ _ [.box 29 (cAllocator a_p0), .box 29 ([(ls cI ([] : List Int))] ++ ([(li 0)] ++ ([(li 0)] ++ ([(ls cZone ([] : List Zone))] ++ ([(ls cCpuCache ([] : List CpuCache))] ++ []))))), .dead, .box 29 ([(ls cI x4.nodes)] ++ ([(li x4.batch)] ++ ([(li x4.high)] ++ ([AV.osl 46 10 (List.map cZone x4.zones)] ++ ([AV.hd 4] ++ []))))), .vec 50 1 (List.map cCpuCache x4.caches)]
    refine AW_draw (n := 73) (m := 0) [.head 0 1, .head 0 1, .head 0 1, .head 0 1, .head 0 1, .head 0 1, .head 0 1, .head 0 1, .head 0 1, .head 0 1, .head 0 1, .head 0 1, .head 0 1, .head 0 1, .head 0 2, .head 0 2, .tail 0, .tail 1, .head 2 2, .head 2 2] [16, 17] [(AV.ptr 3 4), (AV.hd 4), (li a_p1), (AV.ptr 4 (a_p1.toNat * 1)), (AV.agg (cCpuCache (at_ x4.caches a_p1))), (li x2), (li a_p2), (AV.ptr 3 1), (li x4.batch), (AV.ptr 3 2), (li x4.high), (AV.tup [(AV.agg (cCpuCache x5.1)), (ls cI x5.2.1), (li x5.2.2)]), (AV.tup [(AV.agg (cCpuCache x5.1)), (ls cI x5.2.1), (li x5.2.2)]), (AV.agg (cCpuCache x5.1)), (ls cI x5.2.1), (li x5.2.2), (AV.ptr 5 0), .any, (ls cI x5.2.1), (li x5.2.2)] [[.box 29 (cAllocator a_p0), .box 29 ([(ls cI ([] : List Int))] ++ ([(li 0)] ++ ([(li 0)] ++ ([(ls cZone ([] : List Zone))] ++ ([(ls cCpuCache ([] : List CpuCache))] ++ []))))), .dead, .box 29 ([(ls cI x4.nodes)] ++ ([(li x4.batch)] ++ ([(li x4.high)] ++ ([AV.osl 46 10 (List.map cZone x4.zones)] ++ ([AV.hd 4] ++ []))))), .vec 50 1 (List.map cCpuCache x4.caches)], [.box 29 (cAllocator a_p0), .box 29 ([(ls cI ([] : List Int))] ++ ([(li 0)] ++ ([(li 0)] ++ ([(ls cZone ([] : List Zone))] ++ ([(ls cCpuCache ([] : List CpuCache))] ++ []))))), .dead, .box 29 ([(ls cI x4.nodes)] ++ ([(li x4.batch)] ++ ([(li x4.high)] ++ ([AV.osl 46 10 (List.map cZone x4.zones)] ++ ([AV.hd 4] ++ []))))), .vec 50 1 (List.map cCpuCache x4.caches), .box 50 ([(ls (cS cI) ([] : List (List Int)))] ++ [])], [.box 29 (cAllocator a_p0), .box 29 ([(ls cI ([] : List Int))] ++ ([(li 0)] ++ ([(li 0)] ++ ([(ls cZone ([] : List Zone))] ++ ([(ls cCpuCache ([] : List CpuCache))] ++ []))))), .dead, .box 29 ([(ls cI x4.nodes)] ++ ([(li x4.batch)] ++ ([(li x4.high)] ++ ([AV.osl 46 10 (List.map cZone x4.zones)] ++ ([AV.hd 4] ++ []))))), .vec 50 1 (List.map cCpuCache x4.caches), .box 50 (cCpuCache x5.1)]] (by kernel_rfl) (by kernel_rfl) ⟨⟨?_, ?_⟩, ⟨?_, ?_⟩, ⟨?_, ?_⟩, ⟨?_, ?_⟩, ⟨?_, ?_⟩, ⟨?_, ?_⟩, ⟨?_, ?_⟩, ⟨?_, ?_⟩, ⟨?_, ?_⟩, ⟨?_, ?_⟩, ⟨?_, ?_⟩, ⟨?_, ?_⟩, ⟨?_, ?_⟩, ⟨?_, ?_⟩, ⟨?_, ?_, ?_⟩, ⟨?_, ?_, ?_⟩, ?_, ?_, ?_, ?_, trivial⟩ ?_
    ·exact fun e s p => ALW1 (AVal_field (k := 3) (o := 0) (off := 4) Try.underlying29 rfl rfl Try.sizeOf27 (s 10 rfl)) ⟨fun _ => rfl, rfl⟩
    ·exact fun e s p => ALW1 (AVal_field (k := 3) (o := 0) (off := 4) Try.underlying29 rfl rfl Try.sizeOf27 (s 10 rfl)) ⟨fun _ => rfl, rfl⟩
    ·exact fun e s p => ALW1 (AVal_load1 (k := 3) (o := 4) (a := (AV.hd 4)) Try.isAgg27 p.1 rfl rfl rfl) ⟨fun _ => rfl, rfl⟩
    ·exact fun e s p => ALW1 (AVal_load1 (k := 3) (o := 4) (a := (AV.hd 4)) Try.isAgg27 p.1 rfl rfl rfl) ⟨fun _ => rfl, rfl⟩
    ·exact fun e s p => ALW1 (AVal_move (av := (li a_p1)) (s 1 rfl)) ⟨fun _ => rfl, rfl⟩
    ·exact fun e s p => ALW1 (AVal_move (av := (li a_p1)) (s 1 rfl)) ⟨fun _ => rfl, rfl⟩
    ·exact fun e s p => ALW1 (AVal_idxVM (f := cCpuCache) (l := x4.caches) (i := a_p1) Try.underlying27 Try.sizeOf50 p.1 rfl p.2.1 hb4) ⟨fun _ => rfl, rfl⟩
    ·exact fun e s p => ALW1 (AVal_idxVM (f := cCpuCache) (l := x4.caches) (i := a_p1) Try.underlying27 Try.sizeOf50 p.1 rfl p.2.1 hb4) ⟨fun _ => rfl, rfl⟩
    ·exact fun e s p => ALW1 (AVal_loadVAM (f := cCpuCache) (l := x4.caches) (i := a_p1) (c := 0) (q := 1) (la := (cCpuCache (at_ x4.caches a_p1))) Try.isAgg50 Try.sizeOf50 p.1 rfl (by first | rfl | omega) hb4 rfl rfl rfl) ⟨fun _ => rfl, rfl⟩
    ·exact fun e s p => ALW1 (AVal_loadVAM (f := cCpuCache) (l := x4.caches) (i := a_p1) (c := 0) (q := 1) (la := (cCpuCache (at_ x4.caches a_p1))) Try.isAgg50 Try.sizeOf50 p.1 rfl (by first | rfl | omega) hb4 rfl rfl rfl) ⟨fun _ => rfl, rfl⟩
    ·exact fun e s p => ALW1 (AVal_move (av := (li x2)) (s 9 rfl)) ⟨fun _ => rfl, rfl⟩
    ·exact fun e s p => ALW1 (AVal_move (av := (li x2)) (s 9 rfl)) ⟨fun _ => rfl, rfl⟩
    ·exact fun e s p => ALW1 (AVal_move (av := (li a_p2)) (s 2 rfl)) ⟨fun _ => rfl, rfl⟩
    ·exact fun e s p => ALW1 (AVal_move (av := (li a_p2)) (s 2 rfl)) ⟨fun _ => rfl, rfl⟩
    ·exact fun e s p => ALW1 (AVal_field (k := 3) (o := 0) (off := 1) Try.underlying29 rfl rfl Try.sizeOf3 (s 10 rfl)) ⟨fun _ => rfl, rfl⟩
    ·exact fun e s p => ALW1 (AVal_field (k := 3) (o := 0) (off := 1) Try.underlying29 rfl rfl Try.sizeOf3 (s 10 rfl)) ⟨fun _ => rfl, rfl⟩
    ·exact fun e s p => ALW1 (AVal_load1 (k := 3) (o := 1) (a := (li x4.batch)) Try.isAgg3 p.1 rfl rfl rfl) ⟨fun _ => rfl, rfl⟩
    ·exact fun e s p => ALW1 (AVal_load1 (k := 3) (o := 1) (a := (li x4.batch)) Try.isAgg3 p.1 rfl rfl rfl) ⟨fun _ => rfl, rfl⟩
    ·exact fun e s p => ALW1 (AVal_field (k := 3) (o := 0) (off := 2) Try.underlying29 rfl rfl Try.sizeOf3 (s 10 rfl)) ⟨fun _ => rfl, rfl⟩
    ·exact fun e s p => ALW1 (AVal_field (k := 3) (o := 0) (off := 2) Try.underlying29 rfl rfl Try.sizeOf3 (s 10 rfl)) ⟨fun _ => rfl, rfl⟩
    ·exact fun e s p => ALW1 (AVal_load1 (k := 3) (o := 2) (a := (li x4.high)) Try.isAgg3 p.1 rfl rfl rfl) ⟨fun _ => rfl, rfl⟩
    ·exact fun e s p => ALW1 (AVal_load1 (k := 3) (o := 2) (a := (li x4.high)) Try.isAgg3 p.1 rfl rfl rfl) ⟨fun _ => rfl, rfl⟩
    ·
     intro e23 hs23 hp23
     refine ALW_callN (r := (AV.tup [(AV.agg (cCpuCache x5.1)), (ls cI x5.2.1), (li x5.2.2)])) (la := [(AV.agg (cCpuCache (at_ x4.caches a_p1))), (li x2), (li a_p2), (li x4.batch), (li x4.high)]) Try.func46 rfl (by kernel_rfl) (.fn 46) (lcons hp23.1 (lcons hp23.2.1 (lcons hp23.2.2.1 (lcons hp23.2.2.2.1 (lcons hp23.2.2.2.2.1 rfl))))) rfl (percpu_Put_ok hx5) rfl ?_
     exact ALW_nil ⟨fun _ => rfl, rfl⟩
    ·
     intro e24 hs24 hp24
     refine ALW_callN (r := (AV.tup [(AV.agg (cCpuCache x5.1)), (ls cI x5.2.1), (li x5.2.2)])) (la := [(AV.agg (cCpuCache (at_ x4.caches a_p1))), (li x2), (li a_p2), (li x4.batch), (li x4.high)]) Try.func46 rfl (by kernel_rfl) (.fn 46) (lcons hp24.1 (lcons hp24.2.1 (lcons hp24.2.2.1 (lcons hp24.2.2.2.1 (lcons hp24.2.2.2.2.1 rfl))))) rfl (percpu_Put_ok hx5) rfl ?_
     exact ALW_nil ⟨fun _ => rfl, rfl⟩
    ·exact fun e s p => ALW1 (AVal_move (av := (AV.tup [(AV.agg (cCpuCache x5.1)), (ls cI x5.2.1), (li x5.2.2)])) p.1) ⟨fun _ => rfl, rfl⟩
    ·exact fun e s p => ALW1 (AVal_move (av := (AV.tup [(AV.agg (cCpuCache x5.1)), (ls cI x5.2.1), (li x5.2.2)])) p.1) ⟨fun _ => rfl, rfl⟩
    ·exact fun e s p => ALW1 (AVal_extract (la := [(AV.agg (cCpuCache x5.1)), (ls cI x5.2.1), (li x5.2.2)]) p.1 rfl) ⟨fun _ => rfl, rfl⟩
    ·exact fun e s p => ALW1 (AVal_extract (la := [(AV.agg (cCpuCache x5.1)), (ls cI x5.2.1), (li x5.2.2)]) p.1 rfl) ⟨fun _ => rfl, rfl⟩
    ·exact fun e s p => ALW1 (AVal_extract (la := [(AV.agg (cCpuCache x5.1)), (ls cI x5.2.1), (li x5.2.2)]) p.1 rfl) ⟨fun _ => rfl, rfl⟩
    ·exact fun e s p => ALW1 (AVal_extract (la := [(AV.agg (cCpuCache x5.1)), (ls cI x5.2.1), (li x5.2.2)]) p.1 rfl) ⟨fun _ => rfl, rfl⟩
    ·exact fun e s p => ALW1 (AVal_extract (la := [(AV.agg (cCpuCache x5.1)), (ls cI x5.2.1), (li x5.2.2)]) p.1 rfl) ⟨fun _ => rfl, rfl⟩
    ·exact fun e s p => ALW1 (AVal_extract (la := [(AV.agg (cCpuCache x5.1)), (ls cI x5.2.1), (li x5.2.2)]) p.1 rfl) ⟨fun _ => rfl, rfl⟩
    ·exact fun e s p => ALW1 (AVal_extract (la := [(AV.agg (cCpuCache x5.1)), (ls cI x5.2.1), (li x5.2.2)]) p.1 rfl) ⟨fun _ => rfl, rfl⟩
    ·exact fun e s p => ALW1 (AVal_extract (la := [(AV.agg (cCpuCache x5.1)), (ls cI x5.2.1), (li x5.2.2)]) p.1 rfl) ⟨fun _ => rfl, rfl⟩
    ·
     intro e35 hs35 hp35
     refine ALW_step (H' := [.box 29 (cAllocator a_p0), .box 29 ([(ls cI ([] : List Int))] ++ ([(li 0)] ++ ([(li 0)] ++ ([(ls cZone ([] : List Zone))] ++ ([(ls cCpuCache ([] : List CpuCache))] ++ []))))), .dead, .box 29 ([(ls cI x4.nodes)] ++ ([(li x4.batch)] ++ ([(li x4.high)] ++ ([AV.osl 46 10 (List.map cZone x4.zones)] ++ ([AV.hd 4] ++ []))))), .vec 50 1 (List.map cCpuCache x4.caches), .box 50 ([(ls (cS cI) ([] : List (List Int)))] ++ [])]) (AStep_alloc (t := 50) (vs := [.slice none 0 0]) (cs := [.sl false []]) Try.zeroValue50 (by kernel_rfl) rfl ⟨SubF.nils, trivial⟩) ?_
     exact ALW_nil ⟨fun _ => rfl, rfl⟩
    ·
     intro e36 hs36 hp36
     refine ALW_act (H' := [.box 29 (cAllocator a_p0), .box 29 ([(ls cI ([] : List Int))] ++ ([(li 0)] ++ ([(li 0)] ++ ([(ls cZone ([] : List Zone))] ++ ([(ls cCpuCache ([] : List CpuCache))] ++ []))))), .dead, .box 29 ([(ls cI x4.nodes)] ++ ([(li x4.batch)] ++ ([(li x4.high)] ++ ([AV.osl 46 10 (List.map cZone x4.zones)] ++ ([AV.hd 4] ++ []))))), .vec 50 1 (List.map cCpuCache x4.caches), .box 50 (cCpuCache x5.1)]) (AAct_storeA (k := 5) (o := 0) (cs := ([(ls (cS cI) ([] : List (List Int)))] ++ [])) (la := (cCpuCache x5.1)) Try.sizeOf50 (by exact hp36.2.2.2.2.2.2.2.2.2.2.2.2.2.2.2.2.2.2.2.1) rfl rfl (by exact hp36.2.2.2.2.2.2.2.2.2.2.2.2.2.2.2.2.1)) ?_
     exact ALW_nil ⟨fun _ => rfl, rfl⟩
    ·exact fun e s p => ALW1 (AVal_assign (av := (ls cI x5.2.1)) p.2.2.2.2.2.2.2.2.2.2.2.2.2.2.2.2.1) ⟨fun _ => rfl, rfl⟩
    ·exact fun e s p => ALW1 (AVal_assign (av := (li x5.2.2)) p.2.2.2.2.2.2.2.2.2.2.2.2.2.2.2.2.2.1) ⟨fun _ => rfl, rfl⟩
    intro e39 hs39 hq1
    refine AW_rep (Rep_mk (l := [(1, (li a_p1)), (6, (AV.ptr 1 0)), (9, (li x2)), (10, (AV.ptr 3 0)), (11, (AV.ptr 5 0)), (12, (ls cI x5.2.1)), (13, (li x5.2.2))]) ⟨(hs39 1 rfl), (hs39 6 rfl), (hs39 9 rfl), (hs39 10 rfl), (hq1 16 (by decide) (by decide)), (hq1 18 (by decide) (by decide)), (hq1 19 (by decide) (by decide)), trivial⟩) <| AW_seq <| AW_seq <| AW_region <| ALW_val (AVal_move (av := (li x5.2.2)) rfl) <| ALW_val (AVal_neq (a := x5.2.2) (b := 0) rfl rfl) ?_
    refine ALW_nil ?_
    refine AW_cond (!decide (x5.2.2 = 0)) rfl (fun hb5 => ?_) (fun hb5 => ?_)
    ·replace h := cnd_t hb5 h
     refine AW_seq <| AW_region <| ALW_val (AVal_build (pl := [(0, 1), (1, 1), (2, 1), (3, 1), (4, 1)]) (zs := [.slice none 0 0, .int .i64 0, .int .i64 0, .slice none 0 0, .slice none 0 0]) (zc := [.sl false [], .lit (.int .i64 0), .lit (.int .i64 0), .sl false [], .sl false []]) (res := (cAllocator (⟨([] : List Int), 0, 0, ([] : List Zone), ([] : List CpuCache)⟩ : Allocator))) (fun _ => by kernel_rfl) rfl (⟨SubF.nils, ⟨SubF.refl _, ⟨SubF.refl _, ⟨SubF.nils, ⟨SubF.nils, trivial⟩⟩⟩⟩⟩) (by exact SubL.refl _)) <| ALW_val (AVal_move rfl) <| ALW_act (H' := [.box 29 (cAllocator a_p0), .box 29 (cAllocator (⟨([] : List Int), 0, 0, ([] : List Zone), ([] : List CpuCache)⟩ : Allocator)), .dead, .box 29 ([(ls cI x4.nodes)] ++ ([(li x4.batch)] ++ ([(li x4.high)] ++ ([AV.osl 46 10 (List.map cZone x4.zones)] ++ ([AV.hd 4] ++ []))))), .vec 50 1 (List.map cCpuCache x4.caches), .box 50 (cCpuCache x5.1)]) (AAct_storeA (k := 1) (o := 0) (cs := ([(ls cI ([] : List Int))] ++ ([(li 0)] ++ ([(li 0)] ++ ([(ls cZone ([] : List Zone))] ++ ([(ls cCpuCache ([] : List CpuCache))] ++ [])))))) (la := (cAllocator (⟨([] : List Int), 0, 0, ([] : List Zone), ([] : List CpuCache)⟩ : Allocator))) Try.sizeOf29 rfl rfl rfl rfl) <| ALW_val (AVal_assign rfl) ?_
     refine ALW_nil <| AW_ret ?_
     show RetP _ _ _ _ _ _
     obtain rfl := Option.some.inj h
     exact RetP_2 (R1_A Try.isAgg29 Try.sizeOf29 rfl rfl rfl rfl) (R1_E rfl rfl) rfl
    ·replace h := cnd_f hb5 h
     refine AW_skip <| AW_seq <| AW_region <| ALW_val (AVal_field Try.underlying29 rfl rfl Try.sizeOf27 rfl) <| ALW_val (AVal_load1 Try.isAgg27 rfl rfl rfl rfl) <| ALW_val (AVal_move rfl) ?_
     refine ALW_val (AVal_loadA (k := 5) (o := 0) (m := 1) Try.isAgg50 Try.sizeOf50 rfl rfl rfl rfl rfl) <| ALW_val (AVal_idxVM (f := cCpuCache) (l := x4.caches) (i := a_p1) Try.underlying27 Try.sizeOf50 rfl rfl rfl hb4) <| ALW_act (H' := [.box 29 (cAllocator a_p0), .box 29 ([(ls cI ([] : List Int))] ++ ([(li 0)] ++ ([(li 0)] ++ ([(ls cZone ([] : List Zone))] ++ ([(ls cCpuCache ([] : List CpuCache))] ++ []))))), .dead, .box 29 ([(ls cI x4.nodes)] ++ ([(li x4.batch)] ++ ([(li x4.high)] ++ ([AV.osl 46 10 (List.map cZone x4.zones)] ++ ([AV.hd 4] ++ []))))), .vec 50 1 (List.map cCpuCache (x4.caches.set a_p1.toNat x5.1)), .box 50 (cCpuCache x5.1)]) (AAct_storeVAM (k := 4) (o := (a_p1.toNat * 1)) (f := cCpuCache) (l := x4.caches) (i := a_p1) (z := x5.1) Try.sizeOf50 (fun _ => rfl) rfl rfl (by first | rfl | omega) hb4 rfl rfl) <| ALW_nil <| AW_seq <| AW_region ?_
     refine ALW_val (AVal_move rfl) <| ALW_val (AVal_move rfl) <| ALW_rep (Rep_close (k := 3) (j := 4) (o := 4) rfl rfl rfl rfl) ?_
     refine bnd_elim h ?_; clear h; intro x6 hx6 h
     refine ALW_callX (k := 3) (la := [(AV.ptr 3 0), (li x2), (ls cI x5.2.1)]) (la' := [(AV.ptr 0 0), (li x2), (ls cI x5.2.1)]) (r := (.tup [])) (S := []) (en' := .box 29 ([(ls cI x6.nodes)] ++ ([(li x6.batch)] ++ ([(li x6.high)] ++ ([AV.osl 46 10 (List.map cZone x6.zones)] ++ ([AV.osl 50 1 (List.map cCpuCache x6.caches)] ++ [])))))) Try.func47 rfl (by kernel_rfl) (.fn 47) rfl ⟨ViewK.ptr, ViewK.of (View.nr rfl), ViewK.of (View.nr rfl), trivial⟩ rfl rfl (by kernel_rfl) (by kernel_rfl) (allocator_give_ok hx6) rfl (.inl rfl) <| ALW_nil <| AW_seq <| AW_region <| ALW_rep (Rep_frzC (k := 3) (o := 3) (rows' := List.map cZone x6.zones) rfl rfl (frzR_map (fun _ => rfl))) <| ALW_rep (Rep_frzC (k := 3) (o := 4) (rows' := List.map cCpuCache x6.caches) rfl rfl (frzR_map (fun _ => rfl))) ?_
     refine ALW_val (AVal_loadA (k := 3) (o := 0) (m := 5) Try.isAgg29 Try.sizeOf29 rfl rfl rfl rfl rfl) <| ALW_act (H' := [.box 29 (cAllocator a_p0), .box 29 (cAllocator (⟨x6.nodes, x6.batch, x6.high, x6.zones, x6.caches⟩ : Allocator)), .dead, .box 29 ([(ls cI x6.nodes)] ++ ([(li x6.batch)] ++ ([(li x6.high)] ++ ([(ls cZone x6.zones)] ++ ([(ls cCpuCache x6.caches)] ++ []))))), .dead, .box 50 (cCpuCache x5.1)]) (AAct_storeA (k := 1) (o := 0) (cs := ([(ls cI ([] : List Int))] ++ ([(li 0)] ++ ([(li 0)] ++ ([(ls cZone ([] : List Zone))] ++ ([(ls cCpuCache ([] : List CpuCache))] ++ [])))))) (la := (cAllocator (⟨x6.nodes, x6.batch, x6.high, x6.zones, x6.caches⟩ : Allocator))) Try.sizeOf29 rfl rfl rfl rfl) <| ALW_val (AVal_assign rfl) <| ALW_nil <| AW_ret ?_
     show RetP _ _ _ _ _ _
     obtain rfl := Option.some.inj h
     exact RetP_2 (R1_A Try.isAgg29 Try.sizeOf29 rfl rfl rfl rfl) (R1_E rfl rfl) rfl
theorem allocator_AllocBlock_ok {a_p0 : Allocator} {a_p1 : Int} {a_p2 : Int} {r : Allocator × Int × Int} (h : allocator_AllocBlock a_p0 a_p1 a_p2 = some r) : PFn Try.prog 23 [(AV.agg (cAllocator a_p0)), (li a_p1), (li a_p2)] (AV.tup [(AV.agg (cAllocator r.1)), (li r.2.1), (li r.2.2)]) := by
 refine PFn_enter Try.func23 rfl Try.ntmps23 Try.results23 rfl ?_
 unfold allocator_AllocBlock at h
 refine AW_seq <| AW_region <| ALW_step (H' := [.box 29 (cAllocator a_p0)]) (AStep_boxA (t := 29) rfl) <| ALW_step (H' := [.box 29 (cAllocator a_p0), .box 29 ([(ls cI ([] : List Int))] ++ ([(li 0)] ++ ([(li 0)] ++ ([(ls cZone ([] : List Zone))] ++ ([(ls cCpuCache ([] : List CpuCache))] ++ [])))))]) (AStep_alloc (t := 29) (vs := [.slice none 0 0, .int .i64 0, .int .i64 0, .slice none 0 0, .slice none 0 0]) (cs := [.sl false [], .lit (.int .i64 0), .lit (.int .i64 0), .sl false [], .sl false []]) Try.zeroValue29 (by kernel_rfl) rfl ⟨SubF.nils, SubF.refl _, SubF.refl _, SubF.nils, SubF.nils, trivial⟩) <| ALW_val (AVal_assign rfl) <| ALW_val (AVal_assign rfl) ?_
 refine ALW_nil <| AW_seq <| AW_seq <| AW_region <| ALW_val (AVal_loadA (k := 0) (o := 0) (m := 5) Try.isAgg29 Try.sizeOf29 rfl rfl rfl rfl rfl) ?_
 refine bnd_elim h ?_; clear h; intro x1 hx1 h
 refine ALW_callN Try.func15 rfl (by kernel_rfl) (.fn 15) rfl rfl (allocator_Check_ok hx1) rfl <| ALW_val (AVal_assign rfl) <| ALW_nil <| AW_seq <| AW_region <| ALW_val (AVal_move rfl) ?_
 refine ALW_val (AVal_neq rfl rfl) <| ALW_nil ?_
 refine AW_cond (!decide (x1 = 0)) rfl (fun hb1 => ?_) (fun hb1 => ?_)
 ·replace h := cnd_t hb1 h
  refine AW_seq <| AW_region <| ALW_val (AVal_build (pl := [(0, 1), (1, 1), (2, 1), (3, 1), (4, 1)]) (zs := [.slice none 0 0, .int .i64 0, .int .i64 0, .slice none 0 0, .slice none 0 0]) (zc := [.sl false [], .lit (.int .i64 0), .lit (.int .i64 0), .sl false [], .sl false []]) (res := (cAllocator (⟨([] : List Int), 0, 0, ([] : List Zone), ([] : List CpuCache)⟩ : Allocator))) (fun _ => by kernel_rfl) rfl (⟨SubF.nils, ⟨SubF.refl _, ⟨SubF.refl _, ⟨SubF.nils, ⟨SubF.nils, trivial⟩⟩⟩⟩⟩) (by exact SubL.refl _)) <| ALW_val (AVal_move rfl) <| ALW_act (H' := [.box 29 (cAllocator a_p0), .box 29 (cAllocator (⟨([] : List Int), 0, 0, ([] : List Zone), ([] : List CpuCache)⟩ : Allocator))]) (AAct_storeA (k := 1) (o := 0) (cs := ([(ls cI ([] : List Int))] ++ ([(li 0)] ++ ([(li 0)] ++ ([(ls cZone ([] : List Zone))] ++ ([(ls cCpuCache ([] : List CpuCache))] ++ [])))))) (la := (cAllocator (⟨([] : List Int), 0, 0, ([] : List Zone), ([] : List CpuCache)⟩ : Allocator))) Try.sizeOf29 rfl rfl rfl rfl) <| ALW_val (AVal_assign rfl) ?_
  refine ALW_val (AVal_assign rfl) <| ALW_nil <| AW_ret ?_
  show RetP _ _ _ _ _ _
  obtain rfl := Option.some.inj h
  exact RetP_3 (R1_A Try.isAgg29 Try.sizeOf29 rfl rfl rfl rfl) (R1_E rfl rfl) (R1_E rfl rfl) rfl
 ·replace h := cnd_f hb1 h
  refine AW_skip <| AW_seq <| AW_seq <| AW_region <| ALW_val (AVal_move rfl) <| ALW_val (AVal_lss rfl rfl) ?_
  refine ALW_val (AVal_move rfl) <| ALW_g0 rfl rfl (fun hc1 => AVal.step (AVal_move rfl)) <| ALW_g0 rfl rfl (fun hc2 => AVal.step (AVal_field Try.underlying29 rfl rfl Try.sizeOf22 rfl)) <| ALW_g0 rfl rfl (fun hc3 => AVal.step (AVal_load1 Try.isAgg22 (gd_t rfl hc3) rfl rfl rfl)) <| ALW_g0 rfl rfl (fun hc4 => AVal.step (AVal_lenM Try.underlying22 (gd_t rfl hc4))) <| ALW_g0 rfl rfl (fun hc5 => AVal.step (AVal_geq (gd_t rfl hc5) (gd_t rfl hc5))) ?_
  refine ALW_val (AVal_pick_or rfl rfl) <| ALW_val (AVal_move rfl) <| ALW_g0 rfl rfl (fun hc6 => AVal.step (AVal_move rfl)) <| ALW_g0 rfl rfl (fun hc7 => AVal.step (AVal_lss (gd_t rfl hc7) rfl)) <| ALW_val (AVal_pick_or rfl rfl) <| ALW_val (AVal_move rfl) ?_
  refine ALW_g0 rfl rfl (fun hc8 => AVal.step (AVal_move rfl)) <| ALW_g0 rfl rfl (fun hc9 => AVal.step (AVal_gtr (gd_t rfl hc9) rfl)) <| ALW_val (AVal_pick_or rfl rfl) <| ALW_nil ?_
  refine AW_cond ((((decide (a_p1 < 0)) || (decide ((a_p0.nodes.length : Int) ≤ a_p1))) || (decide (a_p2 < 0))) || (decide (4 < a_p2))) rfl (fun hb2 => ?_) (fun hb2 => ?_)
  ·replace h := cnd_t hb2 h
   refine AW_seq <| AW_region <| ALW_val (AVal_build (pl := [(0, 1), (1, 1), (2, 1), (3, 1), (4, 1)]) (zs := [.slice none 0 0, .int .i64 0, .int .i64 0, .slice none 0 0, .slice none 0 0]) (zc := [.sl false [], .lit (.int .i64 0), .lit (.int .i64 0), .sl false [], .sl false []]) (res := (cAllocator (⟨([] : List Int), 0, 0, ([] : List Zone), ([] : List CpuCache)⟩ : Allocator))) (fun _ => by kernel_rfl) rfl (⟨SubF.nils, ⟨SubF.refl _, ⟨SubF.refl _, ⟨SubF.nils, ⟨SubF.nils, trivial⟩⟩⟩⟩⟩) (by exact SubL.refl _)) <| ALW_act (H' := [.box 29 (cAllocator a_p0), .box 29 (cAllocator (⟨([] : List Int), 0, 0, ([] : List Zone), ([] : List CpuCache)⟩ : Allocator))]) (AAct_storeA (k := 1) (o := 0) (cs := ([(ls cI ([] : List Int))] ++ ([(li 0)] ++ ([(li 0)] ++ ([(ls cZone ([] : List Zone))] ++ ([(ls cCpuCache ([] : List CpuCache))] ++ [])))))) (la := (cAllocator (⟨([] : List Int), 0, 0, ([] : List Zone), ([] : List CpuCache)⟩ : Allocator))) Try.sizeOf29 rfl rfl rfl rfl) <| ALW_val (AVal_assign rfl) <| ALW_val (AVal_assign rfl) ?_
   refine ALW_nil <| AW_ret ?_
   show RetP _ _ _ _ _ _
   obtain rfl := Option.some.inj h
   exact RetP_3 (R1_A Try.isAgg29 Try.sizeOf29 rfl rfl rfl rfl) (R1_E rfl rfl) (R1_E rfl rfl) rfl
  ·replace h := cnd_f hb2 h
   refine AW_skip <| AW_seq <| AW_region <| ALW_val (AVal_loadA (k := 0) (o := 0) (m := 5) Try.isAgg29 Try.sizeOf29 rfl rfl rfl rfl rfl) ?_
   refine bnd_elim h ?_; clear h; intro x2 hx2 h
   refine ALW_callA (cs := ([(ls cI x2.nodes)] ++ ([(li x2.batch)] ++ ([(li x2.high)] ++ ([AV.osl 46 10 (List.map cZone x2.zones)] ++ ([AV.osl 50 1 (List.map cCpuCache x2.caches)] ++ [])))))) (la := [(AV.agg (cAllocator a_p0))]) (la' := [(AV.agg (cAllocator a_p0))]) (S := []) Try.func42 rfl (by kernel_rfl) (.fn 42) rfl ⟨View.nr rfl, trivial⟩ (allocator_clone_ok hx2) (.inl rfl) <| ALW_step (H' := [.box 29 (cAllocator a_p0), .box 29 ([(ls cI ([] : List Int))] ++ ([(li 0)] ++ ([(li 0)] ++ ([(ls cZone ([] : List Zone))] ++ ([(ls cCpuCache ([] : List CpuCache))] ++ []))))), .val (.agg ([(ls cI x2.nodes)] ++ ([(li x2.batch)] ++ ([(li x2.high)] ++ ([AV.osl 46 10 (List.map cZone x2.zones)] ++ ([AV.osl 50 1 (List.map cCpuCache x2.caches)] ++ [])))))), .box 29 ([(ls cI ([] : List Int))] ++ ([(li 0)] ++ ([(li 0)] ++ ([(ls cZone ([] : List Zone))] ++ ([(ls cCpuCache ([] : List CpuCache))] ++ [])))))]) (AStep_alloc (t := 29) (vs := [.slice none 0 0, .int .i64 0, .int .i64 0, .slice none 0 0, .slice none 0 0]) (cs := [.sl false [], .lit (.int .i64 0), .lit (.int .i64 0), .sl false [], .sl false []]) Try.zeroValue29 (by kernel_rfl) rfl ⟨SubF.nils, SubF.refl _, SubF.refl _, SubF.nils, SubF.nils, trivial⟩) <| ALW_act (H' := [.box 29 (cAllocator a_p0), .box 29 ([(ls cI ([] : List Int))] ++ ([(li 0)] ++ ([(li 0)] ++ ([(ls cZone ([] : List Zone))] ++ ([(ls cCpuCache ([] : List CpuCache))] ++ []))))), .dead, .box 29 ([(ls cI x2.nodes)] ++ ([(li x2.batch)] ++ ([(li x2.high)] ++ ([AV.osl 46 10 (List.map cZone x2.zones)] ++ ([AV.osl 50 1 (List.map cCpuCache x2.caches)] ++ [])))))]) (AAct_storeT (k := 3) (o := 0) (j := 2) (cs := ([(ls cI ([] : List Int))] ++ ([(li 0)] ++ ([(li 0)] ++ ([(ls cZone ([] : List Zone))] ++ ([(ls cCpuCache ([] : List CpuCache))] ++ [])))))) (la := ([(ls cI x2.nodes)] ++ ([(li x2.batch)] ++ ([(li x2.high)] ++ ([AV.osl 46 10 (List.map cZone x2.zones)] ++ ([AV.osl 50 1 (List.map cCpuCache x2.caches)] ++ [])))))) Try.sizeOf29 rfl rfl rfl rfl rfl (by decide)) <| ALW_nil <| AW_seq ?_
   have hb3 := (chk_some h).1
   replace h := (chk_some h).2
   refine bnd_elim h ?_; clear h; intro x3 hx3 h
   show AW _ _ _ _ _ _ [.box 29 (cAllocator a_p0), .box 29 ([(ls cI ([] : List Int))] ++ ([(li 0)] ++ ([(li 0)] ++ ([(ls cZone ([] : List Zone))] ++ ([(ls cCpuCache ([] : List CpuCache))] ++ []))))), .dead, .box 29 ([(ls cI x2.nodes)] ++ ([(li x2.batch)] ++ ([(li x2.high)] ++ ([AV.osl 46 10 (List.map cZone x2.zones)] ++ ([AV.osl 50 1 (List.map cCpuCache x2.caches)] ++ [])))))]
   refine AW_draw (n := 100) (m := 0) [.head 0 0, .head 0 0, .head 0 0, .head 0 0, .head 0 0, .head 0 0, .head 0 0, .head 0 0, .head 0 0, .head 0 0, .head 0 0, .head 0 0, .head 0 0] [] [(AV.ptr 0 3), (ls cZone a_p0.zones), (AV.ptr 0 0), (ls cI a_p0.nodes), (li a_p1), (AV.rp (cI (at_ a_p0.nodes a_p1)) 0), (li (at_ a_p0.nodes a_p1)), (AV.tup [(ls cI x3.1), (li x3.2)]), (AV.tup [(ls cI x3.1), (li x3.2)]), (ls cI x3.1), (li x3.2), (ls cI x3.1), (li x3.2)] [[.box 29 (cAllocator a_p0), .box 29 ([(ls cI ([] : List Int))] ++ ([(li 0)] ++ ([(li 0)] ++ ([(ls cZone ([] : List Zone))] ++ ([(ls cCpuCache ([] : List CpuCache))] ++ []))))), .dead, .box 29 ([(ls cI x2.nodes)] ++ ([(li x2.batch)] ++ ([(li x2.high)] ++ ([AV.osl 46 10 (List.map cZone x2.zones)] ++ ([AV.osl 50 1 (List.map cCpuCache x2.caches)] ++ [])))))]] (by kernel_rfl) (by kernel_rfl) ⟨?_, ?_, ?_, ?_, ?_, ?_, ?_, ?_, ?_, ?_, ?_, ?_, ?_, trivial⟩ ?_
   ·exact fun e s p => ALW1 (AVal_field (k := 0) (o := 0) (off := 3) Try.underlying29 rfl rfl Try.sizeOf26 (s 3 rfl)) ⟨fun _ => rfl, rfl⟩
   ·exact fun e s p => ALW1 (AVal_load1 (k := 0) (o := 3) (a := (ls cZone a_p0.zones)) Try.isAgg26 p.1 rfl rfl rfl) ⟨fun _ => rfl, rfl⟩
   ·exact fun e s p => ALW1 (AVal_field (k := 0) (o := 0) (off := 0) Try.underlying29 rfl rfl Try.sizeOf22 (s 3 rfl)) ⟨fun _ => rfl, rfl⟩
   ·exact fun e s p => ALW1 (AVal_load1 (k := 0) (o := 0) (a := (ls cI a_p0.nodes)) Try.isAgg22 p.1 rfl rfl rfl) ⟨fun _ => rfl, rfl⟩
   ·exact fun e s p => ALW1 (AVal_move (av := (li a_p1)) (s 1 rfl)) ⟨fun _ => rfl, rfl⟩
   ·exact fun e s p => ALW1 (AVal_idxSM (f := cI) (l := a_p0.nodes) (i := a_p1) Try.underlying22 Try.sizeOf3 (fun _ => rfl) p.1 p.2.1 hb3) ⟨fun _ => rfl, rfl⟩
   ·exact fun e s p => ALW1 (AVal_loadR1 (row := (cI (at_ a_p0.nodes a_p1))) (o := 0) (a := (li (at_ a_p0.nodes a_p1))) Try.isAgg3 p.1 rfl) ⟨fun _ => rfl, rfl⟩
   ·
    intro e8 hs8 hp8
    refine ALW_callN (r := (AV.tup [(ls cI x3.1), (li x3.2)])) (la := [(ls cZone a_p0.zones), (li (at_ a_p0.nodes a_p1)), (AV.lit (.bool false))]) Try.func40 rfl (by kernel_rfl) (.fn 40) (lcons hp8.1 (lcons hp8.2.1 (lcons rfl rfl))) rfl (zonelist_Order_ok hx3) rfl ?_
    exact ALW_nil ⟨fun _ => rfl, rfl⟩
   ·exact fun e s p => ALW1 (AVal_move (av := (AV.tup [(ls cI x3.1), (li x3.2)])) p.1) ⟨fun _ => rfl, rfl⟩
   ·exact fun e s p => ALW1 (AVal_extract (la := [(ls cI x3.1), (li x3.2)]) p.1 rfl) ⟨fun _ => rfl, rfl⟩
   ·exact fun e s p => ALW1 (AVal_extract (la := [(ls cI x3.1), (li x3.2)]) p.1 rfl) ⟨fun _ => rfl, rfl⟩
   ·exact fun e s p => ALW1 (AVal_assign (av := (ls cI x3.1)) p.2.2.2.2.2.2.2.2.2.2.2.1) ⟨fun _ => rfl, rfl⟩
   ·exact fun e s p => ALW1 (AVal_assign (av := (li x3.2)) p.2.2.2.2.2.2.2.2.2.2.2.2.1) ⟨fun _ => rfl, rfl⟩
   intro e14 hs14 hq1
   refine AW_rep (Rep_mk (l := [(2, (li a_p2)), (6, (AV.ptr 1 0)), (10, (AV.ptr 3 0)), (11, (ls cI x3.1))]) ⟨(hs14 2 rfl), (hs14 6 rfl), (hs14 10 rfl), (hq1 11 (by decide) (by decide)), trivial⟩) ?_
   refine AW_seqJ (fun e' H' => Rep 100 0 e' H' (mkE [(6, (AV.ptr 0 0))]) [.box 29 ([(ls cI ([] : List Int))] ++ ([(li 0)] ++ ([(li 0)] ++ ([(ls cZone ([] : List Zone))] ++ ([(ls cCpuCache ([] : List CpuCache))] ++ [])))))] ∧ allocator_AllocBlock_j0  = some r) ?_ ?_
   ·
    refine AW_seq <| AW_region <| ALW_val (AVal_move rfl) <| ALW_val (AVal_lenM Try.underlying22 rfl) <| ALW_val (AVal_move rfl) <| ALW_nil ?_
    refine AW_block <| AW_loop (σ := Nat × Int × (List Int) × Int × Int × (List Zone) × (List CpuCache)) (fun s => s.1) (fun s e' H' => match s with | (n0, i1, d1, d2, d3, l1, l2) => Rep 100 0 e' H' (mkE [(2, (li a_p2)), (6, (AV.ptr 0 0)), (10, (AV.ptr 1 0)), (56, (ls cI x3.1)), (57, (li (x3.1.length : Int))), (58, (li i1))]) [.box 29 ([(ls cI ([] : List Int))] ++ ([(li 0)] ++ ([(li 0)] ++ ([(ls cZone ([] : List Zone))] ++ ([(ls cCpuCache ([] : List CpuCache))] ++ []))))), .box 29 ([(ls cI d1)] ++ ([(li d2)] ++ ([(li d3)] ++ ([AV.osl 46 10 (List.map cZone l1)] ++ ([AV.osl 50 1 (List.map cCpuCache l2)] ++ [])))))] ∧ allocator_AllocBlock_l0 a_p2 x3 n0 i1 d1 d2 d3 l1 l2 = some r) (FUEL, 0, x2.nodes, x2.batch, x2.high, x2.zones, x2.caches) ⟨RepP [1, 3] rfl rfl (by kernel_rfl), h⟩ ?_
    clear h
    rintro ⟨n0, i1, d1, d2, d3, l1, l2⟩ e' H' ⟨hrep, h⟩
    cases n0 with
    | zero => exact absurd (show (none : Option _) = some r from h) (by simp)
    | succ n0 =>
     replace h : allocator_AllocBlock_b0 a_p2 x3 (allocator_AllocBlock_l0 a_p2 x3 n0) i1 d1 d2 d3 l1 l2 = some r := h
     unfold allocator_AllocBlock_b0 at h
     refine AW_rep hrep ?_
     clear hrep
     refine AW_seq <| AW_region <| ALW_val (AVal_lss rfl rfl) <| ALW_nil <| AW_seq ?_
     refine AW_cond (decide (i1 < (x3.1.length : Int))) rfl (fun hb4 => ?_) (fun hb4 => ?_)
     ·replace h := cnd_t hb4 h
      refine AW_skip ?_
      refine AW_seqJ (fun e' H' => ∃ (d4 : List Int) (d5 : Int) (d6 : Int) (l3 : List Zone) (l4 : List CpuCache), Rep 100 0 e' H' (mkE [(2, (li a_p2)), (6, (AV.ptr 0 0)), (10, (AV.ptr 1 0)), (56, (ls cI x3.1)), (57, (li (x3.1.length : Int))), (58, (li i1))]) [.box 29 ([(ls cI ([] : List Int))] ++ ([(li 0)] ++ ([(li 0)] ++ ([(ls cZone ([] : List Zone))] ++ ([(ls cCpuCache ([] : List CpuCache))] ++ []))))), .box 29 ([(ls cI d4)] ++ ([(li d5)] ++ ([(li d6)] ++ ([AV.osl 46 10 (List.map cZone l3)] ++ ([AV.osl 50 1 (List.map cCpuCache l4)] ++ [])))))] ∧ allocator_AllocBlock_j1 (allocator_AllocBlock_l0 a_p2 x3 n0) i1 d4 d5 d6 l3 l4 = some r) ?_ ?_
      ·
       refine AW_block <| AW_seq <| AW_region ?_
       have hb6 := (chk_some h).1
       replace h := (chk_some h).2
       refine ALW_val (AVal_idxSM Try.underlying22 Try.sizeOf3 (fun _ => rfl) rfl rfl hb6) <| ALW_val (AVal_loadR1 (o := 0) Try.isAgg3 rfl rfl) <| ALW_val (AVal_assign rfl) <| ALW_nil <| AW_seq <| AW_seq ?_
       refine AW_rep (Rep_open (k := 1) (o := 3) (t' := 46) (sz := 10) (rows := List.map cZone l1) rfl rfl) <| AW_rep (Rep_open (k := 1) (o := 4) (t' := 50) (sz := 1) (rows := List.map cCpuCache l2) rfl rfl) ?_
       refine bnd_elim h ?_; clear h; intro x4 hx4 h
       have hb7 := (chk_some h).1
       replace h := (chk_some h).2
       have hb8 := (chk_some h).1
       replace h := (chk_some h).2
       show AW _ _ _ _ _ _ [.box 29 ([(ls cI ([] : List Int))] ++ ([(li 0)] ++ ([(li 0)] ++ ([(ls cZone ([] : List Zone))] ++ ([(ls cCpuCache ([] : List CpuCache))] ++ []))))), .box 29 ([(ls cI d1)] ++ ([(li d2)] ++ ([(li d3)] ++ ([AV.hd 2] ++ ([AV.hd 3] ++ []))))), .vec 46 10 (List.map cZone l1), .vec 50 1 (List.map cCpuCache l2)]
       refine AW_draw (n := 100) (m := 0) [.head 0 0, .head 0 0, .head 0 0, .head 0 0, .head 0 0, .head 0 0] [] [(AV.agg ([(ls cI d1)] ++ ([(li d2)] ++ ([(li d3)] ++ ([AV.hd 2] ++ ([AV.hd 3] ++ [])))))), (li (at_ x3.1 i1)), (li x4), (li a_p2), (li ((1 : Int) * 2 ^ a_p2.toNat)), (AV.lit (.bool (decide (x4 < ((1 : Int) * 2 ^ a_p2.toNat)))))] [[.box 29 ([(ls cI ([] : List Int))] ++ ([(li 0)] ++ ([(li 0)] ++ ([(ls cZone ([] : List Zone))] ++ ([(ls cCpuCache ([] : List CpuCache))] ++ []))))), .box 29 ([(ls cI d1)] ++ ([(li d2)] ++ ([(li d3)] ++ ([AV.hd 2] ++ ([AV.hd 3] ++ []))))), .vec 46 10 (List.map cZone l1), .vec 50 1 (List.map cCpuCache l2)]] (by kernel_rfl) (by kernel_rfl) ⟨?_, ?_, ?_, ?_, ?_, ?_, trivial⟩ ?_
       ·exact fun e s p => ALW1 (AVal_loadA (k := 1) (o := 0) (m := 5) (la := ([(ls cI d1)] ++ ([(li d2)] ++ ([(li d3)] ++ ([AV.hd 2] ++ ([AV.hd 3] ++ [])))))) Try.isAgg29 Try.sizeOf29 (s 10 rfl) rfl rfl rfl rfl) ⟨fun _ => rfl, rfl⟩
       ·exact fun e s p => ALW1 (AVal_move (av := (li (at_ x3.1 i1))) (s 14 rfl)) ⟨fun _ => rfl, rfl⟩
       ·
        intro e17 hs17 hp16
        refine ALW_callE (r' := (li x4)) (la := [(AV.agg ([(ls cI d1)] ++ ([(li d2)] ++ ([(li d3)] ++ ([AV.hd 2] ++ ([AV.hd 3] ++ [])))))), (li (at_ x3.1 i1))]) (la' := [(AV.agg ([(ls cI d1)] ++ ([(li d2)] ++ ([(li d3)] ++ ([(ls cZone l1)] ++ ([(ls cCpuCache l2)] ++ [])))))), (li (at_ x3.1 i1))]) (r := (li x4)) (S := [2, 3]) Try.func39 rfl (by kernel_rfl) (.fn 39) (lcons hp16.1 (lcons hp16.2.1 rfl)) ⟨View.agg (by exact ⟨View.nr rfl, ⟨View.nr rfl, ⟨View.nr rfl, ⟨View_hdM (fun _ => rfl) rfl rfl, ⟨View_hdM (fun _ => rfl) rfl rfl, trivial⟩⟩⟩⟩⟩), View.nr rfl, trivial⟩ (allocator_room_ok hx4) (.inr trivial) rfl ?_
        exact ALW_nil ⟨fun _ => rfl, rfl⟩
       ·exact fun e s p => ALW1 (AVal_move (av := (li a_p2)) (s 2 rfl)) ⟨fun _ => rfl, rfl⟩
       ·exact fun e s p => ALW1 (AVal_shl (a := 1) (b := a_p2) rfl p.1 hb7 hb8) ⟨fun _ => rfl, rfl⟩
       ·exact fun e s p => ALW1 (AVal_lss (a := x4) (b := (1 : Int) * 2 ^ a_p2.toNat) p.1 p.2.1) ⟨fun _ => rfl, rfl⟩
       intro e21 hs21 hq2
       refine AW_rep (Rep_mk (l := [(2, (li a_p2)), (6, (AV.ptr 0 0)), (10, (AV.ptr 1 0)), (14, (li (at_ x3.1 i1))), (56, (ls cI x3.1)), (57, (li (x3.1.length : Int))), (58, (li i1)), (67, (AV.lit (.bool (decide (x4 < ((1 : Int) * 2 ^ a_p2.toNat))))))]) ⟨(hs21 2 rfl), (hs21 6 rfl), (hs21 10 rfl), (hs21 14 rfl), (hs21 56 rfl), (hs21 57 rfl), (hs21 58 rfl), (hq2 5 (by decide) (by decide)), trivial⟩) ?_
       refine AW_cond (decide (x4 < ((1 : Int) * 2 ^ a_p2.toNat))) rfl (fun hb9 => ?_) (fun hb9 => ?_)
       ·replace h := cnd_t hb9 h
        refine AW_exit ?_
        exact ⟨d1, d2, d3, l1, l2, Rep.trans (Rep_close (k := 1) (j := 2) (o := 3) rfl rfl rfl rfl) (Rep.trans (Rep_close (k := 1) (j := 3) (o := 4) rfl rfl rfl rfl) (RepP [0, 1] (l := [(2, (li a_p2)), (6, (AV.ptr 0 0)), (10, (AV.ptr 1 0)), (56, (ls cI x3.1)), (57, (li (x3.1.length : Int))), (58, (li i1))]) rfl rfl (by kernel_rfl))), h⟩
       ·replace h := cnd_f hb9 h
        refine AW_skip ?_
        refine AW_seqJ (fun e' H' => ∃ (d7 : List Int) (d8 : Int) (d9 : Int) (l5 : List Zone) (l6 : List CpuCache), Rep 100 0 e' H' (mkE [(2, (li a_p2)), (6, (AV.ptr 0 0)), (10, (AV.ptr 1 0)), (14, (li (at_ x3.1 i1))), (56, (ls cI x3.1)), (57, (li (x3.1.length : Int))), (58, (li i1))]) [.box 29 ([(ls cI ([] : List Int))] ++ ([(li 0)] ++ ([(li 0)] ++ ([(ls cZone ([] : List Zone))] ++ ([(ls cCpuCache ([] : List CpuCache))] ++ []))))), .box 29 ([(ls cI d7)] ++ ([(li d8)] ++ ([(li d9)] ++ ([AV.osl 46 10 (List.map cZone l5)] ++ ([AV.osl 50 1 (List.map cCpuCache l6)] ++ [])))))] ∧ allocator_AllocBlock_j2 (allocator_AllocBlock_l0 a_p2 x3 n0) a_p2 x3 i1 d7 d8 d9 l5 l6 = some r) ?_ ?_
        ·
         refine AW_seq <| AW_region <| ALW_val (AVal_field Try.underlying29 rfl rfl Try.sizeOf27 rfl) <| ALW_val (AVal_load1 Try.isAgg27 rfl rfl rfl rfl) <| ALW_val (AVal_lenVM (f := cCpuCache) (l := l2) Try.underlying27 rfl rfl) <| ALW_val (AVal_move rfl) ?_
         refine ALW_nil <| AW_block <| AW_loop (σ := Nat × Int × (List Int) × Int × Int × (List Zone) × (List CpuCache)) (fun s => s.1) (fun s e' H' => match s with | (n1, i2, d10, d11, d12, l7, l8) => Rep 100 0 e' H' (mkE [(2, (li a_p2)), (6, (AV.ptr 0 0)), (10, (AV.ptr 1 0)), (14, (li (at_ x3.1 i1))), (56, (ls cI x3.1)), (57, (li (x3.1.length : Int))), (58, (li i1)), (70, (li (l2.length : Int))), (71, (li i2))]) [.box 29 ([(ls cI ([] : List Int))] ++ ([(li 0)] ++ ([(li 0)] ++ ([(ls cZone ([] : List Zone))] ++ ([(ls cCpuCache ([] : List CpuCache))] ++ []))))), .box 29 ([(ls cI d10)] ++ ([(li d11)] ++ ([(li d12)] ++ ([AV.osl 46 10 (List.map cZone l7)] ++ ([AV.osl 50 1 (List.map cCpuCache l8)] ++ [])))))] ∧ allocator_AllocBlock_l1 (allocator_AllocBlock_l0 a_p2 x3 n0) a_p2 x3 i1 l2 n1 i2 d10 d11 d12 l7 l8 = some r) (FUEL, 0, d1, d2, d3, l1, l2) ⟨Rep.trans (Rep_close (k := 1) (j := 2) (o := 3) rfl rfl rfl rfl) (Rep.trans (Rep_close (k := 1) (j := 3) (o := 4) rfl rfl rfl rfl) (RepP [0, 1] (l := [(2, (li a_p2)), (6, (AV.ptr 0 0)), (10, (AV.ptr 1 0)), (14, (li (at_ x3.1 i1))), (56, (ls cI x3.1)), (57, (li (x3.1.length : Int))), (58, (li i1)), (70, (li (l2.length : Int))), (71, (li 0))]) rfl rfl (by kernel_rfl))), h⟩ ?_
         clear h
         rintro ⟨n1, i2, d10, d11, d12, l7, l8⟩ e' H' ⟨hrep, h⟩
         cases n1 with
         | zero => exact absurd (show (none : Option _) = some r from h) (by simp)
         | succ n1 =>
          replace h : allocator_AllocBlock_b1 (allocator_AllocBlock_l0 a_p2 x3 n0) a_p2 x3 i1 l2 (allocator_AllocBlock_l1 (allocator_AllocBlock_l0 a_p2 x3 n0) a_p2 x3 i1 l2 n1) i2 d10 d11 d12 l7 l8 = some r := h
          unfold allocator_AllocBlock_b1 at h
          refine AW_rep hrep ?_
          clear hrep
          refine AW_seq <| AW_region <| ALW_val (AVal_lss rfl rfl) <| ALW_nil <| AW_seq ?_
          refine AW_cond (decide (i2 < (l2.length : Int))) rfl (fun hb12 => ?_) (fun hb12 => ?_)
          ·replace h := cnd_t hb12 h
           refine AW_skip <| AW_seq <| AW_block <| AW_seq <| AW_region <| ALW_val (AVal_move rfl) ?_
           refine ALW_val (AVal_assign rfl) <| ALW_nil <| AW_region <| ALW_val (AVal_move rfl) <| ALW_val (AVal_move rfl) ?_
           refine bnd_elim h ?_; clear h; intro x6 hx6 h
           refine ALW_callX (k := 1) (la := [(AV.ptr 1 0), (li i2), (li (at_ x3.1 i1))]) (la' := [(AV.ptr 0 0), (li i2), (li (at_ x3.1 i1))]) (r := (.tup [])) (S := []) (en' := .box 29 ([(ls cI x6.nodes)] ++ ([(li x6.batch)] ++ ([(li x6.high)] ++ ([AV.osl 46 10 (List.map cZone x6.zones)] ++ ([AV.osl 50 1 (List.map cCpuCache x6.caches)] ++ [])))))) Try.func44 rfl (by kernel_rfl) (.fn 44) rfl ⟨ViewK.ptr, ViewK.of (View.nr rfl), ViewK.of (View.nr rfl), trivial⟩ rfl rfl (by kernel_rfl) (by kernel_rfl) (allocator_drain_ok hx6) rfl (.inl rfl) <| ALW_nil <| AW_region ?_
           have hb13 := (chk_some h).1
           replace h := (chk_some h).2
           refine ALW_val (AVal_add rfl rfl hb13) <| ALW_val (AVal_move rfl) <| ALW_nil ?_
           exact ⟨(n1, (i2 + 1), x6.nodes, x6.batch, x6.high, x6.zones, x6.caches), Nat.lt_succ_self _, RepP [0, 1] rfl rfl (by kernel_rfl), h⟩
          ·replace h := cnd_f hb12 h
           refine AW_exit ?_
           exact ⟨d10, d11, d12, l7, l8, RepP [0, 1] rfl rfl (by kernel_rfl), h⟩
        ·
         clear h
         rintro e' H' ⟨d7, d8, d9, l5, l6, hrep, h⟩
         refine AW_rep hrep ?_
         clear hrep
         unfold allocator_AllocBlock_j2 at h
         refine AW_seq <| AW_region <| ALW_val (AVal_field Try.underlying29 rfl rfl Try.sizeOf26 rfl) <| ALW_rep (Rep_open (k := 1) (o := 3) (t' := 46) (sz := 10) (rows := List.map cZone l5) rfl rfl) <| ALW_val (AVal_load1 Try.isAgg26 rfl rfl rfl rfl) <| ALW_val (AVal_move rfl) ?_
         have hb10 := (chk_some h).1
         replace h := (chk_some h).2
         refine ALW_val (AVal_idxVM (f := cZone) (l := l5) (i := at_ x3.1 i1) Try.underlying26 Try.sizeOf46 rfl rfl rfl hb10) <| ALW_val (AVal_loadVAM (f := cZone) (l := l5) (i := at_ x3.1 i1) (c := 0) (q := 10) (la := (cZone (at_ l5 (at_ x3.1 i1)))) Try.isAgg46 Try.sizeOf46 rfl rfl (by first | rfl | omega) hb10 rfl rfl rfl) <| ALW_val (AVal_move rfl) ?_
         refine bnd_elim h ?_; clear h; intro x5 hx5 h
         refine ALW_callN Try.func48 rfl (by kernel_rfl) (.fn 48) rfl rfl (buddy_Alloc_ok hx5) rfl <| ALW_val (AVal_move rfl) <| ALW_val (AVal_extract rfl rfl) <| ALW_val (AVal_extract rfl rfl) <| ALW_val (AVal_extract rfl rfl) <| ALW_step (H' := [.box 29 ([(ls cI ([] : List Int))] ++ ([(li 0)] ++ ([(li 0)] ++ ([(ls cZone ([] : List Zone))] ++ ([(ls cCpuCache ([] : List CpuCache))] ++ []))))), .box 29 ([(ls cI d7)] ++ ([(li d8)] ++ ([(li d9)] ++ ([AV.hd 2] ++ ([AV.osl 50 1 (List.map cCpuCache l6)] ++ []))))), .vec 46 10 (List.map cZone l5), .box 46 ([(li 0)] ++ ([(li 0)] ++ ([(li 0)] ++ ([(li 0)] ++ ([(li 0)] ++ ((cA 5 (eS cI) ([] : List Int) (List.replicate 5 ([] : List Int))) ++ []))))))]) (AStep_alloc (t := 46) (vs := [.int .i64 0, .int .i64 0, .int .i64 0, .int .i64 0, .int .i64 0, .slice none 0 0, .slice none 0 0, .slice none 0 0, .slice none 0 0, .slice none 0 0]) (cs := [.lit (.int .i64 0), .lit (.int .i64 0), .lit (.int .i64 0), .lit (.int .i64 0), .lit (.int .i64 0), .sl false [], .sl false [], .sl false [], .sl false [], .sl false []]) Try.zeroValue46 (by kernel_rfl) rfl ⟨SubF.refl _, SubF.refl _, SubF.refl _, SubF.refl _, SubF.refl _, SubF.nils, SubF.nils, SubF.nils, SubF.nils, SubF.nils, trivial⟩) ?_
         refine ALW_act (H' := [.box 29 ([(ls cI ([] : List Int))] ++ ([(li 0)] ++ ([(li 0)] ++ ([(ls cZone ([] : List Zone))] ++ ([(ls cCpuCache ([] : List CpuCache))] ++ []))))), .box 29 ([(ls cI d7)] ++ ([(li d8)] ++ ([(li d9)] ++ ([AV.hd 2] ++ ([AV.osl 50 1 (List.map cCpuCache l6)] ++ []))))), .vec 46 10 (List.map cZone l5), .box 46 (cZone x5.1)]) (AAct_storeA (k := 3) (o := 0) (cs := ([(li 0)] ++ ([(li 0)] ++ ([(li 0)] ++ ([(li 0)] ++ ([(li 0)] ++ ((cA 5 (eS cI) ([] : List Int) (List.replicate 5 ([] : List Int))) ++ []))))))) (la := (cZone x5.1)) Try.sizeOf46 rfl rfl rfl rfl) <| ALW_val (AVal_assign rfl) <| ALW_val (AVal_assign rfl) <| ALW_nil <| AW_seq <| AW_region ?_
         refine ALW_val (AVal_move rfl) <| ALW_val (AVal_eql rfl rfl) <| ALW_nil ?_
         refine AW_cond (decide (x5.2.2 = 0)) rfl (fun hb11 => ?_) (fun hb11 => ?_)
         ·replace h := cnd_t hb11 h
          refine AW_seq <| AW_region <| ALW_val (AVal_field Try.underlying29 rfl rfl Try.sizeOf26 rfl) <| ALW_val (AVal_load1 Try.isAgg26 rfl rfl rfl rfl) <| ALW_val (AVal_move rfl) <| ALW_val (AVal_loadA (k := 3) (o := 0) (m := 10) Try.isAgg46 Try.sizeOf46 rfl rfl rfl rfl rfl) ?_
          refine ALW_val (AVal_idxVM (f := cZone) (l := l5) (i := at_ x3.1 i1) Try.underlying26 Try.sizeOf46 rfl rfl rfl hb10) <| ALW_act (H' := [.box 29 ([(ls cI ([] : List Int))] ++ ([(li 0)] ++ ([(li 0)] ++ ([(ls cZone ([] : List Zone))] ++ ([(ls cCpuCache ([] : List CpuCache))] ++ []))))), .box 29 ([(ls cI d7)] ++ ([(li d8)] ++ ([(li d9)] ++ ([AV.hd 2] ++ ([AV.osl 50 1 (List.map cCpuCache l6)] ++ []))))), .vec 46 10 (List.map cZone (l5.set (at_ x3.1 i1).toNat x5.1)), .box 46 (cZone x5.1)]) (AAct_storeVAM (k := 2) (o := ((at_ x3.1 i1).toNat * 10)) (f := cZone) (l := l5) (i := at_ x3.1 i1) (z := x5.1) Try.sizeOf46 (fun _ => rfl) rfl rfl (by first | rfl | omega) hb10 rfl rfl) <| ALW_nil <| AW_seq <| AW_region <| ALW_rep (Rep_close (k := 1) (j := 2) (o := 3) rfl rfl rfl rfl) ?_
          refine ALW_rep (Rep_frzC (k := 1) (o := 3) (rows' := List.map cZone (l5.set (at_ x3.1 i1).toNat x5.1)) rfl rfl (frzR_map (fun _ => rfl))) <| ALW_rep (Rep_frzC (k := 1) (o := 4) (rows' := List.map cCpuCache l6) rfl rfl (frzR_map (fun _ => rfl))) <| ALW_val (AVal_loadA (k := 1) (o := 0) (m := 5) Try.isAgg29 Try.sizeOf29 rfl rfl rfl rfl rfl) <| ALW_val (AVal_move rfl) <| ALW_act (H' := [.box 29 (cAllocator (⟨d7, d8, d9, l5.set (at_ x3.1 i1).toNat x5.1, l6⟩ : Allocator)), .box 29 ([(ls cI d7)] ++ ([(li d8)] ++ ([(li d9)] ++ ([(ls cZone (l5.set (at_ x3.1 i1).toNat x5.1))] ++ ([(ls cCpuCache l6)] ++ []))))), .dead, .box 46 (cZone x5.1)]) (AAct_storeA (k := 0) (o := 0) (cs := ([(ls cI ([] : List Int))] ++ ([(li 0)] ++ ([(li 0)] ++ ([(ls cZone ([] : List Zone))] ++ ([(ls cCpuCache ([] : List CpuCache))] ++ [])))))) (la := (cAllocator (⟨d7, d8, d9, l5.set (at_ x3.1 i1).toNat x5.1, l6⟩ : Allocator))) Try.sizeOf29 rfl rfl rfl rfl) <| ALW_val (AVal_assign rfl) ?_
          refine ALW_val (AVal_assign rfl) <| ALW_nil <| AW_ret ?_
          show RetP _ _ _ _ _ _
          obtain rfl := Option.some.inj h
          exact RetP_3 (R1_A Try.isAgg29 Try.sizeOf29 rfl rfl rfl rfl) (R1_E rfl rfl) (R1_E rfl rfl) rfl
         ·replace h := cnd_f hb11 h
          refine AW_skip ?_
          exact ⟨d7, d8, d9, l5, l6, Rep.trans (Rep_close (k := 1) (j := 2) (o := 3) rfl rfl rfl rfl) (RepP [0, 1] (l := [(2, (li a_p2)), (6, (AV.ptr 0 0)), (10, (AV.ptr 1 0)), (56, (ls cI x3.1)), (57, (li (x3.1.length : Int))), (58, (li i1))]) rfl rfl (by kernel_rfl)), h⟩
      ·
       clear h
       rintro e' H' ⟨d4, d5, d6, l3, l4, hrep, h⟩
       refine AW_rep hrep ?_
       clear hrep
       unfold allocator_AllocBlock_j1 at h
       refine AW_region ?_
       have hb5 := (chk_some h).1
       replace h := (chk_some h).2
       refine ALW_val (AVal_add rfl rfl hb5) <| ALW_val (AVal_move rfl) <| ALW_nil ?_
       exact ⟨(n0, (i1 + 1), d4, d5, d6, l3, l4), Nat.lt_succ_self _, RepP [0, 1] rfl rfl (by kernel_rfl), h⟩
     ·replace h := cnd_f hb4 h
      refine AW_exit ?_
      exact ⟨RepP [0] rfl rfl (by kernel_rfl), h⟩
   ·
    clear h
    rintro e' H' ⟨hrep, h⟩
    refine AW_rep hrep ?_
    clear hrep
    unfold allocator_AllocBlock_j0 at h
    refine AW_seq <| AW_region <| ALW_val (AVal_build (pl := [(0, 1), (1, 1), (2, 1), (3, 1), (4, 1)]) (zs := [.slice none 0 0, .int .i64 0, .int .i64 0, .slice none 0 0, .slice none 0 0]) (zc := [.sl false [], .lit (.int .i64 0), .lit (.int .i64 0), .sl false [], .sl false []]) (res := (cAllocator (⟨([] : List Int), 0, 0, ([] : List Zone), ([] : List CpuCache)⟩ : Allocator))) (fun _ => by kernel_rfl) rfl (⟨SubF.nils, ⟨SubF.refl _, ⟨SubF.refl _, ⟨SubF.nils, ⟨SubF.nils, trivial⟩⟩⟩⟩⟩) (by exact SubL.refl _)) <| ALW_act (H' := [.box 29 (cAllocator (⟨([] : List Int), 0, 0, ([] : List Zone), ([] : List CpuCache)⟩ : Allocator))]) (AAct_storeA (k := 0) (o := 0) (cs := ([(ls cI ([] : List Int))] ++ ([(li 0)] ++ ([(li 0)] ++ ([(ls cZone ([] : List Zone))] ++ ([(ls cCpuCache ([] : List CpuCache))] ++ [])))))) (la := (cAllocator (⟨([] : List Int), 0, 0, ([] : List Zone), ([] : List CpuCache)⟩ : Allocator))) Try.sizeOf29 rfl rfl rfl rfl) <| ALW_val (AVal_assign rfl) <| ALW_val (AVal_assign rfl) ?_
    refine ALW_nil <| AW_ret ?_
    show RetP _ _ _ _ _ _
    obtain rfl := Option.some.inj h
    exact RetP_3 (R1_A Try.isAgg29 Try.sizeOf29 rfl rfl rfl rfl) (R1_E rfl rfl) (R1_E rfl rfl) rfl
theorem allocator_Drain_ok {a_a : Allocator} {r : Allocator} (h : allocator_Drain a_a = some r) : PFn Try.prog 22 [(AV.agg (cAllocator a_a))] (AV.agg (cAllocator r)) := by
 refine PFn_enter Try.func22 rfl Try.ntmps22 Try.results22 rfl ?_
 unfold allocator_Drain at h
 refine AW_seq <| AW_region <| ALW_step (H' := [.box 29 (cAllocator a_a)]) (AStep_boxA (t := 29) rfl) <| ALW_step (H' := [.box 29 (cAllocator a_a), .box 29 ([(ls cI ([] : List Int))] ++ ([(li 0)] ++ ([(li 0)] ++ ([(ls cZone ([] : List Zone))] ++ ([(ls cCpuCache ([] : List CpuCache))] ++ [])))))]) (AStep_alloc (t := 29) (vs := [.slice none 0 0, .int .i64 0, .int .i64 0, .slice none 0 0, .slice none 0 0]) (cs := [.sl false [], .lit (.int .i64 0), .lit (.int .i64 0), .sl false [], .sl false []]) Try.zeroValue29 (by kernel_rfl) rfl ⟨SubF.nils, SubF.refl _, SubF.refl _, SubF.nils, SubF.nils, trivial⟩) <| ALW_nil <| AW_seq ?_
 refine AW_seq <| AW_region <| ALW_val (AVal_loadA (k := 0) (o := 0) (m := 5) Try.isAgg29 Try.sizeOf29 rfl rfl rfl rfl rfl) ?_
 refine bnd_elim h ?_; clear h; intro x1 hx1 h
 refine ALW_callN Try.func15 rfl (by kernel_rfl) (.fn 15) rfl rfl (allocator_Check_ok hx1) rfl <| ALW_val (AVal_neq rfl rfl) <| ALW_nil ?_
 refine AW_cond (!decide (x1 = 0)) rfl (fun hb1 => ?_) (fun hb1 => ?_)
 ·replace h := cnd_t hb1 h
  refine AW_seq <| AW_region <| ALW_val (AVal_build (pl := [(0, 1), (1, 1), (2, 1), (3, 1), (4, 1)]) (zs := [.slice none 0 0, .int .i64 0, .int .i64 0, .slice none 0 0, .slice none 0 0]) (zc := [.sl false [], .lit (.int .i64 0), .lit (.int .i64 0), .sl false [], .sl false []]) (res := (cAllocator (⟨([] : List Int), 0, 0, ([] : List Zone), ([] : List CpuCache)⟩ : Allocator))) (fun _ => by kernel_rfl) rfl (⟨SubF.nils, ⟨SubF.refl _, ⟨SubF.refl _, ⟨SubF.nils, ⟨SubF.nils, trivial⟩⟩⟩⟩⟩) (by exact SubL.refl _)) <| ALW_act (H' := [.box 29 (cAllocator a_a), .box 29 (cAllocator (⟨([] : List Int), 0, 0, ([] : List Zone), ([] : List CpuCache)⟩ : Allocator))]) (AAct_storeA (k := 1) (o := 0) (cs := ([(ls cI ([] : List Int))] ++ ([(li 0)] ++ ([(li 0)] ++ ([(ls cZone ([] : List Zone))] ++ ([(ls cCpuCache ([] : List CpuCache))] ++ [])))))) (la := (cAllocator (⟨([] : List Int), 0, 0, ([] : List Zone), ([] : List CpuCache)⟩ : Allocator))) Try.sizeOf29 rfl rfl rfl rfl) <| ALW_nil <| AW_ret ?_
  show RetP _ _ _ _ _ _
  obtain rfl := Option.some.inj h
  exact RetP_1 (R1_A Try.isAgg29 Try.sizeOf29 rfl rfl rfl rfl)
 ·replace h := cnd_f hb1 h
  refine AW_skip <| AW_seq <| AW_region <| ALW_val (AVal_loadA (k := 0) (o := 0) (m := 5) Try.isAgg29 Try.sizeOf29 rfl rfl rfl rfl rfl) ?_
  refine bnd_elim h ?_; clear h; intro x2 hx2 h
  refine ALW_callA (cs := ([(ls cI x2.nodes)] ++ ([(li x2.batch)] ++ ([(li x2.high)] ++ ([AV.osl 46 10 (List.map cZone x2.zones)] ++ ([AV.osl 50 1 (List.map cCpuCache x2.caches)] ++ [])))))) (la := [(AV.agg (cAllocator a_a))]) (la' := [(AV.agg (cAllocator a_a))]) (S := []) Try.func42 rfl (by kernel_rfl) (.fn 42) rfl ⟨View.nr rfl, trivial⟩ (allocator_clone_ok hx2) (.inl rfl) <| ALW_step (H' := [.box 29 (cAllocator a_a), .box 29 ([(ls cI ([] : List Int))] ++ ([(li 0)] ++ ([(li 0)] ++ ([(ls cZone ([] : List Zone))] ++ ([(ls cCpuCache ([] : List CpuCache))] ++ []))))), .val (.agg ([(ls cI x2.nodes)] ++ ([(li x2.batch)] ++ ([(li x2.high)] ++ ([AV.osl 46 10 (List.map cZone x2.zones)] ++ ([AV.osl 50 1 (List.map cCpuCache x2.caches)] ++ [])))))), .box 29 ([(ls cI ([] : List Int))] ++ ([(li 0)] ++ ([(li 0)] ++ ([(ls cZone ([] : List Zone))] ++ ([(ls cCpuCache ([] : List CpuCache))] ++ [])))))]) (AStep_alloc (t := 29) (vs := [.slice none 0 0, .int .i64 0, .int .i64 0, .slice none 0 0, .slice none 0 0]) (cs := [.sl false [], .lit (.int .i64 0), .lit (.int .i64 0), .sl false [], .sl false []]) Try.zeroValue29 (by kernel_rfl) rfl ⟨SubF.nils, SubF.refl _, SubF.refl _, SubF.nils, SubF.nils, trivial⟩) <| ALW_act (H' := [.box 29 (cAllocator a_a), .box 29 ([(ls cI ([] : List Int))] ++ ([(li 0)] ++ ([(li 0)] ++ ([(ls cZone ([] : List Zone))] ++ ([(ls cCpuCache ([] : List CpuCache))] ++ []))))), .dead, .box 29 ([(ls cI x2.nodes)] ++ ([(li x2.batch)] ++ ([(li x2.high)] ++ ([AV.osl 46 10 (List.map cZone x2.zones)] ++ ([AV.osl 50 1 (List.map cCpuCache x2.caches)] ++ [])))))]) (AAct_storeT (k := 3) (o := 0) (j := 2) (cs := ([(ls cI ([] : List Int))] ++ ([(li 0)] ++ ([(li 0)] ++ ([(ls cZone ([] : List Zone))] ++ ([(ls cCpuCache ([] : List CpuCache))] ++ [])))))) (la := ([(ls cI x2.nodes)] ++ ([(li x2.batch)] ++ ([(li x2.high)] ++ ([AV.osl 46 10 (List.map cZone x2.zones)] ++ ([AV.osl 50 1 (List.map cCpuCache x2.caches)] ++ [])))))) Try.sizeOf29 rfl rfl rfl rfl rfl (by decide)) <| ALW_nil ?_
  refine AW_seqJ (fun e' H' => ∃ (d1 : List Int) (d2 : Int) (d3 : Int) (l1 : List Zone) (l2 : List CpuCache), Rep 30 0 e' H' (mkE [(2, (AV.ptr 0 0)), (3, (AV.ptr 1 0))]) [.box 29 ([(ls cI ([] : List Int))] ++ ([(li 0)] ++ ([(li 0)] ++ ([(ls cZone ([] : List Zone))] ++ ([(ls cCpuCache ([] : List CpuCache))] ++ []))))), .box 29 ([(ls cI d1)] ++ ([(li d2)] ++ ([(li d3)] ++ ([AV.osl 46 10 (List.map cZone l1)] ++ ([AV.osl 50 1 (List.map cCpuCache l2)] ++ [])))))] ∧ allocator_Drain_j0 d1 d2 d3 l1 l2 = some r) ?_ ?_
  ·
   refine AW_seq <| AW_region <| ALW_val (AVal_field Try.underlying29 rfl rfl Try.sizeOf27 rfl) <| ALW_rep (Rep_open (k := 3) (o := 4) (t' := 50) (sz := 1) (rows := List.map cCpuCache x2.caches) rfl rfl) <| ALW_val (AVal_load1 Try.isAgg27 rfl rfl rfl rfl) <| ALW_val (AVal_lenVM (f := cCpuCache) (l := x2.caches) Try.underlying27 rfl rfl) ?_
   refine ALW_val (AVal_move rfl) <| ALW_nil <| AW_block <| AW_loop (σ := Nat × Int × (List Int) × Int × Int × (List Zone) × (List CpuCache)) (fun s => s.1) (fun s e' H' => match s with | (n0, i1, d4, d5, d6, l3, l4) => Rep 30 0 e' H' (mkE [(2, (AV.ptr 0 0)), (3, (AV.ptr 1 0)), (14, (li (x2.caches.length : Int))), (15, (li i1))]) [.box 29 ([(ls cI ([] : List Int))] ++ ([(li 0)] ++ ([(li 0)] ++ ([(ls cZone ([] : List Zone))] ++ ([(ls cCpuCache ([] : List CpuCache))] ++ []))))), .box 29 ([(ls cI d4)] ++ ([(li d5)] ++ ([(li d6)] ++ ([AV.osl 46 10 (List.map cZone l3)] ++ ([AV.osl 50 1 (List.map cCpuCache l4)] ++ [])))))] ∧ allocator_Drain_l0 x2 n0 i1 d4 d5 d6 l3 l4 = some r) (FUEL, 0, x2.nodes, x2.batch, x2.high, x2.zones, x2.caches) ⟨Rep.trans (Rep_close (k := 3) (j := 4) (o := 4) rfl rfl rfl rfl) (RepP [1, 3] (l := [(2, (AV.ptr 0 0)), (3, (AV.ptr 1 0)), (14, (li (x2.caches.length : Int))), (15, (li 0))]) rfl rfl (by kernel_rfl)), h⟩ ?_
   clear h
   rintro ⟨n0, i1, d4, d5, d6, l3, l4⟩ e' H' ⟨hrep, h⟩
   cases n0 with
   | zero => exact absurd (show (none : Option _) = some r from h) (by simp)
   | succ n0 =>
    replace h : allocator_Drain_b0 x2 (allocator_Drain_l0 x2 n0) i1 d4 d5 d6 l3 l4 = some r := h
    unfold allocator_Drain_b0 at h
    refine AW_rep hrep ?_
    clear hrep
    refine AW_seq <| AW_region <| ALW_val (AVal_lss rfl rfl) <| ALW_nil <| AW_seq ?_
    refine AW_cond (decide (i1 < (x2.caches.length : Int))) rfl (fun hb2 => ?_) (fun hb2 => ?_)
    ·replace h := cnd_t hb2 h
     refine AW_skip ?_
     refine AW_seqJ (fun e' H' => ∃ (d7 : List Int) (d8 : Int) (d9 : Int) (l5 : List Zone) (l6 : List CpuCache), Rep 30 0 e' H' (mkE [(2, (AV.ptr 0 0)), (3, (AV.ptr 1 0)), (14, (li (x2.caches.length : Int))), (15, (li i1))]) [.box 29 ([(ls cI ([] : List Int))] ++ ([(li 0)] ++ ([(li 0)] ++ ([(ls cZone ([] : List Zone))] ++ ([(ls cCpuCache ([] : List CpuCache))] ++ []))))), .box 29 ([(ls cI d7)] ++ ([(li d8)] ++ ([(li d9)] ++ ([AV.osl 46 10 (List.map cZone l5)] ++ ([AV.osl 50 1 (List.map cCpuCache l6)] ++ [])))))] ∧ allocator_Drain_j1 (allocator_Drain_l0 x2 n0) i1 d7 d8 d9 l5 l6 = some r) ?_ ?_
     ·
      refine AW_block <| AW_seq <| AW_region <| ALW_val (AVal_move rfl) <| ALW_val (AVal_assign rfl) <| ALW_nil ?_
      refine AW_seq <| AW_region <| ALW_val (AVal_field Try.underlying29 rfl rfl Try.sizeOf26 rfl) <| ALW_rep (Rep_open (k := 1) (o := 3) (t' := 46) (sz := 10) (rows := List.map cZone l3) rfl rfl) <| ALW_val (AVal_load1 Try.isAgg26 rfl rfl rfl rfl) <| ALW_val (AVal_lenVM (f := cZone) (l := l3) Try.underlying26 rfl rfl) ?_
      refine ALW_val (AVal_move rfl) <| ALW_nil <| AW_block <| AW_loop (σ := Nat × Int × (List Int) × Int × Int × (List Zone) × (List CpuCache)) (fun s => s.1) (fun s e' H' => match s with | (n1, i2, d10, d11, d12, l7, l8) => Rep 30 0 e' H' (mkE [(2, (AV.ptr 0 0)), (3, (AV.ptr 1 0)), (4, (li i1)), (14, (li (x2.caches.length : Int))), (15, (li i1)), (20, (li (l3.length : Int))), (21, (li i2))]) [.box 29 ([(ls cI ([] : List Int))] ++ ([(li 0)] ++ ([(li 0)] ++ ([(ls cZone ([] : List Zone))] ++ ([(ls cCpuCache ([] : List CpuCache))] ++ []))))), .box 29 ([(ls cI d10)] ++ ([(li d11)] ++ ([(li d12)] ++ ([AV.osl 46 10 (List.map cZone l7)] ++ ([AV.osl 50 1 (List.map cCpuCache l8)] ++ [])))))] ∧ allocator_Drain_l1 (allocator_Drain_l0 x2 n0) i1 l3 n1 i2 d10 d11 d12 l7 l8 = some r) (FUEL, 0, d4, d5, d6, l3, l4) ⟨Rep.trans (Rep_close (k := 1) (j := 2) (o := 3) rfl rfl rfl rfl) (RepP [0, 1] (l := [(2, (AV.ptr 0 0)), (3, (AV.ptr 1 0)), (4, (li i1)), (14, (li (x2.caches.length : Int))), (15, (li i1)), (20, (li (l3.length : Int))), (21, (li 0))]) rfl rfl (by kernel_rfl)), h⟩ ?_
      clear h
      rintro ⟨n1, i2, d10, d11, d12, l7, l8⟩ e' H' ⟨hrep, h⟩
      cases n1 with
      | zero => exact absurd (show (none : Option _) = some r from h) (by simp)
      | succ n1 =>
       replace h : allocator_Drain_b1 (allocator_Drain_l0 x2 n0) i1 l3 (allocator_Drain_l1 (allocator_Drain_l0 x2 n0) i1 l3 n1) i2 d10 d11 d12 l7 l8 = some r := h
       unfold allocator_Drain_b1 at h
       refine AW_rep hrep ?_
       clear hrep
       refine AW_seq <| AW_region <| ALW_val (AVal_lss rfl rfl) <| ALW_nil <| AW_seq ?_
       refine AW_cond (decide (i2 < (l3.length : Int))) rfl (fun hb4 => ?_) (fun hb4 => ?_)
       ·replace h := cnd_t hb4 h
        refine AW_skip <| AW_seq <| AW_block <| AW_seq <| AW_region <| ALW_val (AVal_move rfl) ?_
        refine ALW_val (AVal_assign rfl) <| ALW_nil <| AW_region <| ALW_val (AVal_move rfl) <| ALW_val (AVal_move rfl) ?_
        refine bnd_elim h ?_; clear h; intro x3 hx3 h
        refine ALW_callX (k := 1) (la := [(AV.ptr 1 0), (li i1), (li i2)]) (la' := [(AV.ptr 0 0), (li i1), (li i2)]) (r := (.tup [])) (S := []) (en' := .box 29 ([(ls cI x3.nodes)] ++ ([(li x3.batch)] ++ ([(li x3.high)] ++ ([AV.osl 46 10 (List.map cZone x3.zones)] ++ ([AV.osl 50 1 (List.map cCpuCache x3.caches)] ++ [])))))) Try.func44 rfl (by kernel_rfl) (.fn 44) rfl ⟨ViewK.ptr, ViewK.of (View.nr rfl), ViewK.of (View.nr rfl), trivial⟩ rfl rfl (by kernel_rfl) (by kernel_rfl) (allocator_drain_ok hx3) rfl (.inl rfl) <| ALW_nil <| AW_region ?_
        have hb5 := (chk_some h).1
        replace h := (chk_some h).2
        refine ALW_val (AVal_add rfl rfl hb5) <| ALW_val (AVal_move rfl) <| ALW_nil ?_
        exact ⟨(n1, (i2 + 1), x3.nodes, x3.batch, x3.high, x3.zones, x3.caches), Nat.lt_succ_self _, RepP [0, 1] rfl rfl (by kernel_rfl), h⟩
       ·replace h := cnd_f hb4 h
        refine AW_exit ?_
        exact ⟨d10, d11, d12, l7, l8, RepP [0, 1] rfl rfl (by kernel_rfl), h⟩
     ·
      clear h
      rintro e' H' ⟨d7, d8, d9, l5, l6, hrep, h⟩
      refine AW_rep hrep ?_
      clear hrep
      unfold allocator_Drain_j1 at h
      refine AW_region ?_
      have hb3 := (chk_some h).1
      replace h := (chk_some h).2
      refine ALW_val (AVal_add rfl rfl hb3) <| ALW_val (AVal_move rfl) <| ALW_nil ?_
      exact ⟨(n0, (i1 + 1), d7, d8, d9, l5, l6), Nat.lt_succ_self _, RepP [0, 1] rfl rfl (by kernel_rfl), h⟩
    ·replace h := cnd_f hb2 h
     refine AW_exit ?_
     exact ⟨d4, d5, d6, l3, l4, RepP [0, 1] rfl rfl (by kernel_rfl), h⟩
  ·
   clear h
   rintro e' H' ⟨d1, d2, d3, l1, l2, hrep, h⟩
   refine AW_rep hrep ?_
   clear hrep
   unfold allocator_Drain_j0 at h
   refine AW_seq <| AW_region <| ALW_rep (Rep_frzC (k := 1) (o := 3) (rows' := List.map cZone l1) rfl rfl (frzR_map (fun _ => rfl))) <| ALW_rep (Rep_frzC (k := 1) (o := 4) (rows' := List.map cCpuCache l2) rfl rfl (frzR_map (fun _ => rfl))) <| ALW_val (AVal_loadA (k := 1) (o := 0) (m := 5) Try.isAgg29 Try.sizeOf29 rfl rfl rfl rfl rfl) <| ALW_act (H' := [.box 29 (cAllocator (⟨d1, d2, d3, l1, l2⟩ : Allocator)), .box 29 ([(ls cI d1)] ++ ([(li d2)] ++ ([(li d3)] ++ ([(ls cZone l1)] ++ ([(ls cCpuCache l2)] ++ [])))))]) (AAct_storeA (k := 0) (o := 0) (cs := ([(ls cI ([] : List Int))] ++ ([(li 0)] ++ ([(li 0)] ++ ([(ls cZone ([] : List Zone))] ++ ([(ls cCpuCache ([] : List CpuCache))] ++ [])))))) (la := (cAllocator (⟨d1, d2, d3, l1, l2⟩ : Allocator))) Try.sizeOf29 rfl rfl rfl rfl) ?_
   refine ALW_nil <| AW_ret ?_
   show RetP _ _ _ _ _ _
   obtain rfl := Option.some.inj h
   exact RetP_1 (R1_A Try.isAgg29 Try.sizeOf29 rfl rfl rfl rfl)
theorem ref14_SameList_ok {a_a : List Int} {a_b : List Int} {r : Bool} (h : ref14_SameList a_a a_b = some r) : PFn Try.prog 30 [(ls cI a_a), (ls cI a_b)] (AV.lit (.bool r)) := by
 refine PFn_enter Try.func30 rfl Try.ntmps30 Try.results30 rfl ?_
 unfold ref14_SameList at h
 refine AW_seq <| AW_region <| ALW_val (AVal_assign rfl) <| ALW_nil <| AW_seq <| AW_seq ?_
 refine AW_region <| ALW_val (AVal_move rfl) <| ALW_val (AVal_lenM Try.underlying22 rfl) <| ALW_val (AVal_move rfl) <| ALW_val (AVal_lenM Try.underlying22 rfl) <| ALW_val (AVal_neq rfl rfl) ?_
 refine ALW_nil ?_
 refine AW_cond (!decide ((a_a.length : Int) = (a_b.length : Int))) rfl (fun hb1 => ?_) (fun hb1 => ?_)
 ·replace h := cnd_t hb1 h
  refine AW_seq <| AW_region <| ALW_val (AVal_assign rfl) <| ALW_nil <| AW_ret ?_
  show RetP _ _ _ _ _ _
  obtain rfl := Option.some.inj h
  exact RetP_1 (R1_E rfl rfl)
 ·replace h := cnd_f hb1 h
  refine AW_skip ?_
  refine AW_seqJ (fun e' H' => Rep 26 0 e' H' (mkE []) [] ∧ ref14_SameList_j0  = some r) ?_ ?_
  ·
   refine AW_seq <| AW_region <| ALW_val (AVal_move rfl) <| ALW_val (AVal_lenM Try.underlying22 rfl) <| ALW_val (AVal_move rfl) <| ALW_nil ?_
   refine AW_block <| AW_loop (σ := Nat × Int) (fun s => s.1) (fun s e' H' => match s with | (n0, i1) => Rep 26 0 e' H' (mkE [(0, (ls cI a_a)), (1, (ls cI a_b)), (12, (li (a_a.length : Int))), (13, (li i1))]) [] ∧ ref14_SameList_l0 a_a a_b n0 i1 = some r) (FUEL, 0) ⟨RepP [] rfl rfl (by kernel_rfl), h⟩ ?_
   clear h
   rintro ⟨n0, i1⟩ e' H' ⟨hrep, h⟩
   cases n0 with
   | zero => exact absurd (show (none : Option _) = some r from h) (by simp)
   | succ n0 =>
    replace h : ref14_SameList_b0 a_a a_b (ref14_SameList_l0 a_a a_b n0) i1 = some r := h
    unfold ref14_SameList_b0 at h
    refine AW_rep hrep ?_
    clear hrep
    refine AW_seq <| AW_region <| ALW_val (AVal_lss rfl rfl) <| ALW_nil <| AW_seq ?_
    refine AW_cond (decide (i1 < (a_a.length : Int))) rfl (fun hb2 => ?_) (fun hb2 => ?_)
    ·replace h := cnd_t hb2 h
     refine AW_skip <| AW_seq <| AW_block <| AW_seq <| AW_region <| ALW_val (AVal_move rfl) ?_
     refine ALW_val (AVal_assign rfl) <| ALW_nil <| AW_seq ?_
     have hb3 := (chk_some h).1
     replace h := (chk_some h).2
     have hb4 := (chk_some h).1
     replace h := (chk_some h).2
     show AW _ _ _ _ _ _ []
     refine AW_draw (n := 26) (m := 0) [.head 0 0, .head 0 0, .head 0 0, .head 0 0, .head 0 0, .head 0 0, .head 0 0, .head 0 0, .head 0 0] [] [(ls cI a_a), (li i1), (AV.rp (cI (at_ a_a i1)) 0), (li (at_ a_a i1)), (ls cI a_b), (li i1), (AV.rp (cI (at_ a_b i1)) 0), (li (at_ a_b i1)), (AV.lit (.bool (!decide ((at_ a_a i1) = (at_ a_b i1)))))] [[]] (by kernel_rfl) (by kernel_rfl) ⟨?_, ?_, ?_, ?_, ?_, ?_, ?_, ?_, ?_, trivial⟩ ?_
     ·exact fun e s p => ALW1 (AVal_move (av := (ls cI a_a)) (s 0 rfl)) ⟨fun _ => rfl, rfl⟩
     ·exact fun e s p => ALW1 (AVal_move (av := (li i1)) (s 5 rfl)) ⟨fun _ => rfl, rfl⟩
     ·exact fun e s p => ALW1 (AVal_idxSM (f := cI) (l := a_a) (i := i1) Try.underlying22 Try.sizeOf3 (fun _ => rfl) p.1 p.2.1 hb3) ⟨fun _ => rfl, rfl⟩
     ·exact fun e s p => ALW1 (AVal_loadR1 (row := (cI (at_ a_a i1))) (o := 0) (a := (li (at_ a_a i1))) Try.isAgg3 p.1 rfl) ⟨fun _ => rfl, rfl⟩
     ·exact fun e s p => ALW1 (AVal_move (av := (ls cI a_b)) (s 1 rfl)) ⟨fun _ => rfl, rfl⟩
     ·exact fun e s p => ALW1 (AVal_move (av := (li i1)) (s 5 rfl)) ⟨fun _ => rfl, rfl⟩
     ·exact fun e s p => ALW1 (AVal_idxSM (f := cI) (l := a_b) (i := i1) Try.underlying22 Try.sizeOf3 (fun _ => rfl) p.1 p.2.1 hb4) ⟨fun _ => rfl, rfl⟩
     ·exact fun e s p => ALW1 (AVal_loadR1 (row := (cI (at_ a_b i1))) (o := 0) (a := (li (at_ a_b i1))) Try.isAgg3 p.1 rfl) ⟨fun _ => rfl, rfl⟩
     ·exact fun e s p => ALW1 (AVal_neq (a := at_ a_a i1) (b := at_ a_b i1) p.1 p.2.1) ⟨fun _ => rfl, rfl⟩
     intro e10 hs10 hq1
     refine AW_rep (Rep_mk (l := [(0, (ls cI a_a)), (1, (ls cI a_b)), (12, (li (a_a.length : Int))), (13, (li i1)), (24, (AV.lit (.bool (!decide ((at_ a_a i1) = (at_ a_b i1))))))]) ⟨(hs10 0 rfl), (hs10 1 rfl), (hs10 12 rfl), (hs10 13 rfl), (hq1 8 (by decide) (by decide)), trivial⟩) ?_
     refine AW_cond (!decide ((at_ a_a i1) = (at_ a_b i1))) rfl (fun hb5 => ?_) (fun hb5 => ?_)
     ·replace h := cnd_t hb5 h
      refine AW_seq <| AW_region <| ALW_val (AVal_assign rfl) <| ALW_nil <| AW_ret ?_
      show RetP _ _ _ _ _ _
      obtain rfl := Option.some.inj h
      exact RetP_1 (R1_E rfl rfl)
     ·replace h := cnd_f hb5 h
      refine AW_skip <| AW_region ?_
      have hb6 := (chk_some h).1
      replace h := (chk_some h).2
      refine ALW_val (AVal_add rfl rfl hb6) <| ALW_val (AVal_move rfl) <| ALW_nil ?_
      exact ⟨(n0, (i1 + 1)), Nat.lt_succ_self _, RepP [] rfl rfl (by kernel_rfl), h⟩
    ·replace h := cnd_f hb2 h
     refine AW_exit ?_
     exact ⟨RepP [] rfl rfl (by kernel_rfl), h⟩
  ·
   clear h
   rintro e' H' ⟨hrep, h⟩
   refine AW_rep hrep ?_
   clear hrep
   unfold ref14_SameList_j0 at h
   refine AW_seq <| AW_region <| ALW_val (AVal_assign rfl) <| ALW_nil <| AW_ret ?_
   show RetP _ _ _ _ _ _
   obtain rfl := Option.some.inj h
   exact RetP_1 (R1_E rfl rfl)
theorem ref12_SameInts_ok {a_a : List Int} {a_b : List Int} {r : Bool} (h : ref12_SameInts a_a a_b = some r) : PFn Try.prog 55 [(ls cI a_a), (ls cI a_b)] (AV.lit (.bool r)) := by
 refine PFn_enter Try.func55 rfl Try.ntmps55 Try.results55 rfl ?_
 unfold ref12_SameInts at h
 refine AW_seq <| AW_region <| ALW_val (AVal_assign rfl) <| ALW_nil <| AW_seq <| AW_seq ?_
 refine AW_region <| ALW_val (AVal_move rfl) <| ALW_val (AVal_lenM Try.underlying22 rfl) <| ALW_val (AVal_move rfl) <| ALW_val (AVal_lenM Try.underlying22 rfl) <| ALW_val (AVal_neq rfl rfl) ?_
 refine ALW_nil ?_
 refine AW_cond (!decide ((a_a.length : Int) = (a_b.length : Int))) rfl (fun hb1 => ?_) (fun hb1 => ?_)
 ·replace h := cnd_t hb1 h
  refine AW_seq <| AW_region <| ALW_val (AVal_assign rfl) <| ALW_nil <| AW_ret ?_
  show RetP _ _ _ _ _ _
  obtain rfl := Option.some.inj h
  exact RetP_1 (R1_E rfl rfl)
 ·replace h := cnd_f hb1 h
  refine AW_skip ?_
  refine AW_seqJ (fun e' H' => Rep 26 0 e' H' (mkE []) [] ∧ ref12_SameInts_j0  = some r) ?_ ?_
  ·
   refine AW_seq <| AW_region <| ALW_val (AVal_assign rfl) <| ALW_nil <| AW_block <| AW_loop (σ := Nat × Int) (fun s => s.1) (fun s e' H' => match s with | (n0, i1) => Rep 26 0 e' H' (mkE [(0, (ls cI a_a)), (1, (ls cI a_b)), (5, (li i1))]) [] ∧ ref12_SameInts_l0 a_a a_b n0 i1 = some r) (FUEL, 0) ⟨RepP [] rfl rfl (by kernel_rfl), h⟩ ?_
   clear h
   rintro ⟨n0, i1⟩ e' H' ⟨hrep, h⟩
   cases n0 with
   | zero => exact absurd (show (none : Option _) = some r from h) (by simp)
   | succ n0 =>
    replace h : ref12_SameInts_b0 a_a a_b (ref12_SameInts_l0 a_a a_b n0) i1 = some r := h
    unfold ref12_SameInts_b0 at h
    refine AW_rep hrep ?_
    clear hrep
    refine AW_seq <| AW_seq <| AW_region <| ALW_val (AVal_move rfl) <| ALW_val (AVal_move rfl) <| ALW_val (AVal_lenM Try.underlying22 rfl) ?_
    refine ALW_val (AVal_lss rfl rfl) <| ALW_nil ?_
    refine AW_cond (decide (i1 < (a_a.length : Int))) rfl (fun hb2 => ?_) (fun hb2 => ?_)
    ·replace h := cnd_t hb2 h
     refine AW_skip <| AW_seq <| AW_block <| AW_seq ?_
     have hb3 := (chk_some h).1
     replace h := (chk_some h).2
     have hb4 := (chk_some h).1
     replace h := (chk_some h).2
     show AW _ _ _ _ _ _ []
     refine AW_draw (n := 26) (m := 0) [.head 0 0, .head 0 0, .head 0 0, .head 0 0, .head 0 0, .head 0 0, .head 0 0, .head 0 0, .head 0 0] [] [(ls cI a_a), (li i1), (AV.rp (cI (at_ a_a i1)) 0), (li (at_ a_a i1)), (ls cI a_b), (li i1), (AV.rp (cI (at_ a_b i1)) 0), (li (at_ a_b i1)), (AV.lit (.bool (!decide ((at_ a_a i1) = (at_ a_b i1)))))] [[]] (by kernel_rfl) (by kernel_rfl) ⟨?_, ?_, ?_, ?_, ?_, ?_, ?_, ?_, ?_, trivial⟩ ?_
     ·exact fun e s p => ALW1 (AVal_move (av := (ls cI a_a)) (s 0 rfl)) ⟨fun _ => rfl, rfl⟩
     ·exact fun e s p => ALW1 (AVal_move (av := (li i1)) (s 5 rfl)) ⟨fun _ => rfl, rfl⟩
     ·exact fun e s p => ALW1 (AVal_idxSM (f := cI) (l := a_a) (i := i1) Try.underlying22 Try.sizeOf3 (fun _ => rfl) p.1 p.2.1 hb3) ⟨fun _ => rfl, rfl⟩
     ·exact fun e s p => ALW1 (AVal_loadR1 (row := (cI (at_ a_a i1))) (o := 0) (a := (li (at_ a_a i1))) Try.isAgg3 p.1 rfl) ⟨fun _ => rfl, rfl⟩
     ·exact fun e s p => ALW1 (AVal_move (av := (ls cI a_b)) (s 1 rfl)) ⟨fun _ => rfl, rfl⟩
     ·exact fun e s p => ALW1 (AVal_move (av := (li i1)) (s 5 rfl)) ⟨fun _ => rfl, rfl⟩
     ·exact fun e s p => ALW1 (AVal_idxSM (f := cI) (l := a_b) (i := i1) Try.underlying22 Try.sizeOf3 (fun _ => rfl) p.1 p.2.1 hb4) ⟨fun _ => rfl, rfl⟩
     ·exact fun e s p => ALW1 (AVal_loadR1 (row := (cI (at_ a_b i1))) (o := 0) (a := (li (at_ a_b i1))) Try.isAgg3 p.1 rfl) ⟨fun _ => rfl, rfl⟩
     ·exact fun e s p => ALW1 (AVal_neq (a := at_ a_a i1) (b := at_ a_b i1) p.1 p.2.1) ⟨fun _ => rfl, rfl⟩
     intro e10 hs10 hq1
     refine AW_rep (Rep_mk (l := [(0, (ls cI a_a)), (1, (ls cI a_b)), (5, (li i1)), (25, (AV.lit (.bool (!decide ((at_ a_a i1) = (at_ a_b i1))))))]) ⟨(hs10 0 rfl), (hs10 1 rfl), (hs10 5 rfl), (hq1 8 (by decide) (by decide)), trivial⟩) ?_
     refine AW_cond (!decide ((at_ a_a i1) = (at_ a_b i1))) rfl (fun hb5 => ?_) (fun hb5 => ?_)
     ·replace h := cnd_t hb5 h
      refine AW_seq <| AW_region <| ALW_val (AVal_assign rfl) <| ALW_nil <| AW_ret ?_
      show RetP _ _ _ _ _ _
      obtain rfl := Option.some.inj h
      exact RetP_1 (R1_E rfl rfl)
     ·replace h := cnd_f hb5 h
      refine AW_skip <| AW_region <| ALW_val (AVal_move rfl) ?_
      have hb6 := (chk_some h).1
      replace h := (chk_some h).2
      refine ALW_val (AVal_add rfl rfl hb6) <| ALW_val (AVal_assign rfl) <| ALW_nil ?_
      exact ⟨(n0, (i1 + 1)), Nat.lt_succ_self _, RepP [] rfl rfl (by kernel_rfl), h⟩
    ·replace h := cnd_f hb2 h
     refine AW_exit ?_
     exact ⟨RepP [] rfl rfl (by kernel_rfl), h⟩
  ·
   clear h
   rintro e' H' ⟨hrep, h⟩
   refine AW_rep hrep ?_
   clear hrep
   unfold ref12_SameInts_j0 at h
   refine AW_seq <| AW_region <| ALW_val (AVal_assign rfl) <| ALW_nil <| AW_ret ?_
   show RetP _ _ _ _ _ _
   obtain rfl := Option.some.inj h
   exact RetP_1 (R1_E rfl rfl)
theorem ref12_Same_ok {a_a : Zone} {a_b : Zone} {r : Bool} (h : ref12_Same a_a a_b = some r) : PFn Try.prog 31 [(AV.agg (cZone a_a)), (AV.agg (cZone a_b))] (AV.lit (.bool r)) := by
 refine PFn_enter Try.func31 rfl Try.ntmps31 Try.results31 rfl ?_
 unfold ref12_Same at h
 refine AW_seq <| AW_region <| ALW_step (H' := [.box 46 (cZone a_a)]) (AStep_boxA (t := 46) rfl) <| ALW_step (H' := [.box 46 (cZone a_a), .box 46 (cZone a_b)]) (AStep_boxA (t := 46) rfl) <| ALW_val (AVal_assign rfl) <| ALW_nil ?_
 refine AW_seq <| AW_seq <| AW_region <| ALW_val (AVal_field Try.underlying46 rfl rfl Try.sizeOf3 rfl) <| ALW_val (AVal_load1 Try.isAgg3 rfl rfl rfl rfl) <| ALW_val (AVal_field Try.underlying46 rfl rfl Try.sizeOf3 rfl) ?_
 refine ALW_val (AVal_load1 Try.isAgg3 rfl rfl rfl rfl) <| ALW_val (AVal_neq rfl rfl) <| ALW_val (AVal_move rfl) <| ALW_g0 rfl rfl (fun hc1 => AVal.step (AVal_field Try.underlying46 rfl rfl Try.sizeOf3 rfl)) <| ALW_g0 rfl rfl (fun hc2 => AVal.step (AVal_load1 Try.isAgg3 (gd_t rfl hc2) rfl rfl rfl)) <| ALW_g0 rfl rfl (fun hc3 => AVal.step (AVal_field Try.underlying46 rfl rfl Try.sizeOf3 rfl)) ?_
 refine ALW_g0 rfl rfl (fun hc4 => AVal.step (AVal_load1 Try.isAgg3 (gd_t rfl hc4) rfl rfl rfl)) <| ALW_g0 rfl rfl (fun hc5 => AVal.step (AVal_neq (gd_t rfl hc5) (gd_t rfl hc5))) <| ALW_val (AVal_pick_or rfl rfl) <| ALW_val (AVal_move rfl) <| ALW_g0 rfl rfl (fun hc6 => AVal.step (AVal_field Try.underlying46 rfl rfl Try.sizeOf3 rfl)) <| ALW_g0 rfl rfl (fun hc7 => AVal.step (AVal_load1 Try.isAgg3 (gd_t rfl hc7) rfl rfl rfl)) ?_
 refine ALW_g0 rfl rfl (fun hc8 => AVal.step (AVal_field Try.underlying46 rfl rfl Try.sizeOf3 rfl)) <| ALW_g0 rfl rfl (fun hc9 => AVal.step (AVal_load1 Try.isAgg3 (gd_t rfl hc9) rfl rfl rfl)) <| ALW_g0 rfl rfl (fun hc10 => AVal.step (AVal_neq (gd_t rfl hc10) (gd_t rfl hc10))) <| ALW_val (AVal_pick_or rfl rfl) <| ALW_val (AVal_move rfl) <| ALW_g0 rfl rfl (fun hc11 => AVal.step (AVal_field Try.underlying46 rfl rfl Try.sizeOf3 rfl)) ?_
 refine ALW_g0 rfl rfl (fun hc12 => AVal.step (AVal_load1 Try.isAgg3 (gd_t rfl hc12) rfl rfl rfl)) <| ALW_g0 rfl rfl (fun hc13 => AVal.step (AVal_field Try.underlying46 rfl rfl Try.sizeOf3 rfl)) <| ALW_g0 rfl rfl (fun hc14 => AVal.step (AVal_load1 Try.isAgg3 (gd_t rfl hc14) rfl rfl rfl)) <| ALW_g0 rfl rfl (fun hc15 => AVal.step (AVal_neq (gd_t rfl hc15) (gd_t rfl hc15))) <| ALW_val (AVal_pick_or rfl rfl) <| ALW_val (AVal_move rfl) ?_
 refine ALW_g0 rfl rfl (fun hc16 => AVal.step (AVal_field Try.underlying46 rfl rfl Try.sizeOf3 rfl)) <| ALW_g0 rfl rfl (fun hc17 => AVal.step (AVal_load1 Try.isAgg3 (gd_t rfl hc17) rfl rfl rfl)) <| ALW_g0 rfl rfl (fun hc18 => AVal.step (AVal_field Try.underlying46 rfl rfl Try.sizeOf3 rfl)) <| ALW_g0 rfl rfl (fun hc19 => AVal.step (AVal_load1 Try.isAgg3 (gd_t rfl hc19) rfl rfl rfl)) <| ALW_g0 rfl rfl (fun hc20 => AVal.step (AVal_neq (gd_t rfl hc20) (gd_t rfl hc20))) <| ALW_val (AVal_pick_or rfl rfl) ?_
 refine ALW_nil ?_
 refine AW_cond (((((!decide (a_a.node = a_b.node)) || (!decide (a_a.kind = a_b.kind))) || (!decide (a_a.start = a_b.start))) || (!decide (a_a.count = a_b.count))) || (!decide (a_a.min = a_b.min))) rfl (fun hb1 => ?_) (fun hb1 => ?_)
 ·replace h := cnd_t hb1 h
  refine AW_seq <| AW_region <| ALW_val (AVal_assign rfl) <| ALW_nil <| AW_ret ?_
  show RetP _ _ _ _ _ _
  obtain rfl := Option.some.inj h
  exact RetP_1 (R1_E rfl rfl)
 ·replace h := cnd_f hb1 h
  refine AW_skip ?_
  refine AW_seqJ (fun e' H' => Rep 53 0 e' H' (mkE []) [] ∧ ref12_Same_j0  = some r) ?_ ?_
  ·
   refine AW_seq <| AW_region <| ALW_val (AVal_assign rfl) <| ALW_nil <| AW_block <| AW_loop (σ := Nat × Int) (fun s => s.1) (fun s e' H' => match s with | (n0, i1) => Rep 53 0 e' H' (mkE [(2, (AV.ptr 0 0)), (3, (AV.ptr 1 0)), (5, (li i1))]) [.box 46 (cZone a_a), .box 46 (cZone a_b)] ∧ ref12_Same_l0 a_a a_b n0 i1 = some r) (FUEL, 0) ⟨RepP [0, 1] rfl rfl (by kernel_rfl), h⟩ ?_
   clear h
   rintro ⟨n0, i1⟩ e' H' ⟨hrep, h⟩
   cases n0 with
   | zero => exact absurd (show (none : Option _) = some r from h) (by simp)
   | succ n0 =>
    replace h : ref12_Same_b0 a_a a_b (ref12_Same_l0 a_a a_b n0) i1 = some r := h
    unfold ref12_Same_b0 at h
    refine AW_rep hrep ?_
    clear hrep
    refine AW_seq <| AW_seq <| AW_region <| ALW_val (AVal_move rfl) <| ALW_val (AVal_leq rfl rfl) <| ALW_nil ?_
    refine AW_cond (decide (i1 ≤ 4)) rfl (fun hb2 => ?_) (fun hb2 => ?_)
    ·replace h := cnd_t hb2 h
     refine AW_skip <| AW_seq <| AW_block <| AW_seq ?_
     have hb3 := (chk_some h).1
     replace h := (chk_some h).2
     refine bnd_elim h ?_; clear h; intro x1 hx1 h
     show AW _ _ _ _ _ _ [.box 46 (cZone a_a), .box 46 (cZone a_b)]
     refine AW_draw (n := 53) (m := 0) [.head 0 0, .head 0 0, .head 0 0, .head 0 0, .head 0 0, .head 0 0, .head 0 0, .head 0 0, .head 0 0, .head 0 0] [] [(li i1), (AV.ptr 0 5), (AV.ptr 0 (5 + i1.toNat * 1)), (ls cI (a_a.free.getD i1.toNat ([] : List Int))), (li i1), (AV.ptr 1 5), (AV.ptr 1 (5 + i1.toNat * 1)), (ls cI (a_b.free.getD i1.toNat ([] : List Int))), (AV.lit (.bool x1)), (AV.lit (.bool (!x1)))] [[.box 46 (cZone a_a), .box 46 (cZone a_b)]] (by kernel_rfl) (by kernel_rfl) ⟨?_, ?_, ?_, ?_, ?_, ?_, ?_, ?_, ?_, ?_, trivial⟩ ?_
     ·exact fun e s p => ALW1 (AVal_move (av := (li i1)) (s 5 rfl)) ⟨fun _ => rfl, rfl⟩
     ·exact fun e s p => ALW1 (AVal_field (k := 0) (o := 0) (off := 5) Try.underlying46 rfl rfl Try.sizeOf44 (s 2 rfl)) ⟨fun _ => rfl, rfl⟩
     ·exact fun e s p => ALW1 (AVal_idxA (m := 5) (s := 1) (i := i1) (k := 0) (o := 5) Try.underlying44 Try.sizeOf22 p.1 p.2.1 hb3) ⟨fun _ => rfl, rfl⟩
     ·exact fun e s p => ALW1 (AVal_loadArr (k := 0) (o := (5 + i1.toNat * 1)) (cs := (cZone a_a)) (hd := ([(li a_a.node)] ++ [(li a_a.kind)] ++ [(li a_a.start)] ++ [(li a_a.count)] ++ [(li a_a.min)] ++ [])) (tl := ([])) (g := (eS cI)) (d0 := ([] : List Int)) (l := a_a.free) (N := 5) (i := i1.toNat) (a := (ls cI (a_a.free.getD i1.toNat ([] : List Int)))) Try.isAgg22 p.1 rfl rfl (congrArg (fun q => 5 + q) (Nat.mul_one _)) (inb_bd hb3).2 rfl rfl) ⟨fun _ => rfl, rfl⟩
     ·exact fun e s p => ALW1 (AVal_move (av := (li i1)) (s 5 rfl)) ⟨fun _ => rfl, rfl⟩
     ·exact fun e s p => ALW1 (AVal_field (k := 1) (o := 0) (off := 5) Try.underlying46 rfl rfl Try.sizeOf44 (s 3 rfl)) ⟨fun _ => rfl, rfl⟩
     ·exact fun e s p => ALW1 (AVal_idxA (m := 5) (s := 1) (i := i1) (k := 1) (o := 5) Try.underlying44 Try.sizeOf22 p.1 p.2.1 hb3) ⟨fun _ => rfl, rfl⟩
     ·exact fun e s p => ALW1 (AVal_loadArr (k := 1) (o := (5 + i1.toNat * 1)) (cs := (cZone a_b)) (hd := ([(li a_b.node)] ++ [(li a_b.kind)] ++ [(li a_b.start)] ++ [(li a_b.count)] ++ [(li a_b.min)] ++ [])) (tl := ([])) (g := (eS cI)) (d0 := ([] : List Int)) (l := a_b.free) (N := 5) (i := i1.toNat) (a := (ls cI (a_b.free.getD i1.toNat ([] : List Int)))) Try.isAgg22 p.1 rfl rfl (congrArg (fun q => 5 + q) (Nat.mul_one _)) (inb_bd hb3).2 rfl rfl) ⟨fun _ => rfl, rfl⟩
     ·
      intro e9 hs9 hp9
      refine ALW_callN (r := (AV.lit (.bool x1))) (la := [(ls cI (a_a.free.getD i1.toNat ([] : List Int))), (ls cI (a_b.free.getD i1.toNat ([] : List Int)))]) Try.func55 rfl (by kernel_rfl) (.fn 55) (lcons hp9.1 (lcons hp9.2.1 rfl)) rfl (ref12_SameInts_ok hx1) rfl ?_
      exact ALW_nil ⟨fun _ => rfl, rfl⟩
     ·exact fun e s p => ALW1 (AVal_not (t := x1) p.1) ⟨fun _ => rfl, rfl⟩
     intro e11 hs11 hq1
     refine AW_rep (Rep_mk (l := [(2, (AV.ptr 0 0)), (3, (AV.ptr 1 0)), (5, (li i1)), (52, (AV.lit (.bool (!x1))))]) ⟨(hs11 2 rfl), (hs11 3 rfl), (hs11 5 rfl), (hq1 9 (by decide) (by decide)), trivial⟩) ?_
     refine AW_cond (!x1) rfl (fun hb4 => ?_) (fun hb4 => ?_)
     ·replace h := cnd_t hb4 h
      refine AW_seq <| AW_region <| ALW_val (AVal_assign rfl) <| ALW_nil <| AW_ret ?_
      show RetP _ _ _ _ _ _
      obtain rfl := Option.some.inj h
      exact RetP_1 (R1_E rfl rfl)
     ·replace h := cnd_f hb4 h
      refine AW_skip <| AW_region <| ALW_val (AVal_move rfl) ?_
      have hb5 := (chk_some h).1
      replace h := (chk_some h).2
      refine ALW_val (AVal_add rfl rfl hb5) <| ALW_val (AVal_assign rfl) <| ALW_nil ?_
      exact ⟨(n0, (i1 + 1)), Nat.lt_succ_self _, RepP [0, 1] rfl rfl (by kernel_rfl), h⟩
    ·replace h := cnd_f hb2 h
     refine AW_exit ?_
     exact ⟨RepP [] rfl rfl (by kernel_rfl), h⟩
  ·
   clear h
   rintro e' H' ⟨hrep, h⟩
   refine AW_rep hrep ?_
   clear hrep
   unfold ref12_Same_j0 at h
   refine AW_seq <| AW_region <| ALW_val (AVal_assign rfl) <| ALW_nil <| AW_ret ?_
   show RetP _ _ _ _ _ _
   obtain rfl := Option.some.inj h
   exact RetP_1 (R1_E rfl rfl)
theorem ref14_Same_ok {a_a : CpuCache} {a_b : CpuCache} {r : Bool} (h : ref14_Same a_a a_b = some r) : PFn Try.prog 32 [(AV.agg (cCpuCache a_a)), (AV.agg (cCpuCache a_b))] (AV.lit (.bool r)) := by
 refine PFn_enter Try.func32 rfl Try.ntmps32 Try.results32 rfl ?_
 unfold ref14_Same at h
 refine AW_seq <| AW_region <| ALW_step (H' := [.box 50 (cCpuCache a_a)]) (AStep_boxA (t := 50) rfl) <| ALW_step (H' := [.box 50 (cCpuCache a_a), .box 50 (cCpuCache a_b)]) (AStep_boxA (t := 50) rfl) <| ALW_val (AVal_assign rfl) <| ALW_nil ?_
 refine AW_seq <| AW_seq <| AW_region <| ALW_val (AVal_field Try.underlying50 rfl rfl Try.sizeOf48 rfl) <| ALW_val (AVal_load1 Try.isAgg48 rfl rfl rfl rfl) <| ALW_val (AVal_lenM Try.underlying48 rfl) ?_
 refine ALW_val (AVal_field Try.underlying50 rfl rfl Try.sizeOf48 rfl) <| ALW_val (AVal_load1 Try.isAgg48 rfl rfl rfl rfl) <| ALW_val (AVal_lenM Try.underlying48 rfl) <| ALW_val (AVal_neq rfl rfl) <| ALW_nil ?_
 refine AW_cond (!decide ((a_a.lists.length : Int) = (a_b.lists.length : Int))) rfl (fun hb1 => ?_) (fun hb1 => ?_)
 ·replace h := cnd_t hb1 h
  refine AW_seq <| AW_region <| ALW_val (AVal_assign rfl) <| ALW_nil <| AW_ret ?_
  show RetP _ _ _ _ _ _
  obtain rfl := Option.some.inj h
  exact RetP_1 (R1_E rfl rfl)
 ·replace h := cnd_f hb1 h
  refine AW_skip ?_
  refine AW_seqJ (fun e' H' => Rep 32 0 e' H' (mkE []) [] ∧ ref14_Same_j0  = some r) ?_ ?_
  ·
   refine AW_seq <| AW_region <| ALW_val (AVal_field Try.underlying50 rfl rfl Try.sizeOf48 rfl) <| ALW_val (AVal_load1 Try.isAgg48 rfl rfl rfl rfl) <| ALW_val (AVal_lenM Try.underlying48 rfl) <| ALW_val (AVal_move rfl) ?_
   refine ALW_nil <| AW_block <| AW_loop (σ := Nat × Int) (fun s => s.1) (fun s e' H' => match s with | (n0, i1) => Rep 32 0 e' H' (mkE [(2, (AV.ptr 0 0)), (3, (AV.ptr 1 0)), (15, (li (a_a.lists.length : Int))), (16, (li i1))]) [.box 50 (cCpuCache a_a), .box 50 (cCpuCache a_b)] ∧ ref14_Same_l0 a_a a_b n0 i1 = some r) (FUEL, 0) ⟨RepP [0, 1] rfl rfl (by kernel_rfl), h⟩ ?_
   clear h
   rintro ⟨n0, i1⟩ e' H' ⟨hrep, h⟩
   cases n0 with
   | zero => exact absurd (show (none : Option _) = some r from h) (by simp)
   | succ n0 =>
    replace h : ref14_Same_b0 a_a a_b (ref14_Same_l0 a_a a_b n0) i1 = some r := h
    unfold ref14_Same_b0 at h
    refine AW_rep hrep ?_
    clear hrep
    refine AW_seq <| AW_region <| ALW_val (AVal_lss rfl rfl) <| ALW_nil <| AW_seq ?_
    refine AW_cond (decide (i1 < (a_a.lists.length : Int))) rfl (fun hb2 => ?_) (fun hb2 => ?_)
    ·replace h := cnd_t hb2 h
     refine AW_skip <| AW_seq <| AW_block <| AW_seq <| AW_region <| ALW_val (AVal_move rfl) ?_
     refine ALW_val (AVal_assign rfl) <| ALW_nil <| AW_seq ?_
     have hb3 := (chk_some h).1
     replace h := (chk_some h).2
     have hb4 := (chk_some h).1
     replace h := (chk_some h).2
     refine bnd_elim h ?_; clear h; intro x1 hx1 h
     show AW _ _ _ _ _ _ [.box 50 (cCpuCache a_a), .box 50 (cCpuCache a_b)]
     refine AW_draw (n := 32) (m := 0) [.head 0 0, .head 0 0, .head 0 0, .head 0 0, .head 0 0, .head 0 0, .head 0 0, .head 0 0, .head 0 0, .head 0 0, .head 0 0, .head 0 0] [] [(AV.ptr 0 0), (ls (cS cI) a_a.lists), (li i1), (AV.rp ((cS cI) (at_ a_a.lists i1)) 0), (ls cI (at_ a_a.lists i1)), (AV.ptr 1 0), (ls (cS cI) a_b.lists), (li i1), (AV.rp ((cS cI) (at_ a_b.lists i1)) 0), (ls cI (at_ a_b.lists i1)), (AV.lit (.bool x1)), (AV.lit (.bool (!x1)))] [[.box 50 (cCpuCache a_a), .box 50 (cCpuCache a_b)]] (by kernel_rfl) (by kernel_rfl) ⟨?_, ?_, ?_, ?_, ?_, ?_, ?_, ?_, ?_, ?_, ?_, ?_, trivial⟩ ?_
     ·exact fun e s p => ALW1 (AVal_field (k := 0) (o := 0) (off := 0) Try.underlying50 rfl rfl Try.sizeOf48 (s 2 rfl)) ⟨fun _ => rfl, rfl⟩
     ·exact fun e s p => ALW1 (AVal_load1 (k := 0) (o := 0) (a := (ls (cS cI) a_a.lists)) Try.isAgg48 p.1 rfl rfl rfl) ⟨fun _ => rfl, rfl⟩
     ·exact fun e s p => ALW1 (AVal_move (av := (li i1)) (s 5 rfl)) ⟨fun _ => rfl, rfl⟩
     ·exact fun e s p => ALW1 (AVal_idxSM (f := (cS cI)) (l := a_a.lists) (i := i1) Try.underlying48 Try.sizeOf22 (fun _ => rfl) p.1 p.2.1 hb3) ⟨fun _ => rfl, rfl⟩
     ·exact fun e s p => ALW1 (AVal_loadR1 (row := ((cS cI) (at_ a_a.lists i1))) (o := 0) (a := (ls cI (at_ a_a.lists i1))) Try.isAgg22 p.1 rfl) ⟨fun _ => rfl, rfl⟩
     ·exact fun e s p => ALW1 (AVal_field (k := 1) (o := 0) (off := 0) Try.underlying50 rfl rfl Try.sizeOf48 (s 3 rfl)) ⟨fun _ => rfl, rfl⟩
     ·exact fun e s p => ALW1 (AVal_load1 (k := 1) (o := 0) (a := (ls (cS cI) a_b.lists)) Try.isAgg48 p.1 rfl rfl rfl) ⟨fun _ => rfl, rfl⟩
     ·exact fun e s p => ALW1 (AVal_move (av := (li i1)) (s 5 rfl)) ⟨fun _ => rfl, rfl⟩
     ·exact fun e s p => ALW1 (AVal_idxSM (f := (cS cI)) (l := a_b.lists) (i := i1) Try.underlying48 Try.sizeOf22 (fun _ => rfl) p.1 p.2.1 hb4) ⟨fun _ => rfl, rfl⟩
     ·exact fun e s p => ALW1 (AVal_loadR1 (row := ((cS cI) (at_ a_b.lists i1))) (o := 0) (a := (ls cI (at_ a_b.lists i1))) Try.isAgg22 p.1 rfl) ⟨fun _ => rfl, rfl⟩
     ·
      intro e11 hs11 hp11
      refine ALW_callN (r := (AV.lit (.bool x1))) (la := [(ls cI (at_ a_a.lists i1)), (ls cI (at_ a_b.lists i1))]) Try.func30 rfl (by kernel_rfl) (.fn 30) (lcons hp11.1 (lcons hp11.2.1 rfl)) rfl (ref14_SameList_ok hx1) rfl ?_
      exact ALW_nil ⟨fun _ => rfl, rfl⟩
     ·exact fun e s p => ALW1 (AVal_not (t := x1) p.1) ⟨fun _ => rfl, rfl⟩
     intro e13 hs13 hq1
     refine AW_rep (Rep_mk (l := [(2, (AV.ptr 0 0)), (3, (AV.ptr 1 0)), (15, (li (a_a.lists.length : Int))), (16, (li i1)), (30, (AV.lit (.bool (!x1))))]) ⟨(hs13 2 rfl), (hs13 3 rfl), (hs13 15 rfl), (hs13 16 rfl), (hq1 11 (by decide) (by decide)), trivial⟩) ?_
     refine AW_cond (!x1) rfl (fun hb5 => ?_) (fun hb5 => ?_)
     ·replace h := cnd_t hb5 h
      refine AW_seq <| AW_region <| ALW_val (AVal_assign rfl) <| ALW_nil <| AW_ret ?_
      show RetP _ _ _ _ _ _
      obtain rfl := Option.some.inj h
      exact RetP_1 (R1_E rfl rfl)
     ·replace h := cnd_f hb5 h
      refine AW_skip <| AW_region ?_
      have hb6 := (chk_some h).1
      replace h := (chk_some h).2
      refine ALW_val (AVal_add rfl rfl hb6) <| ALW_val (AVal_move rfl) <| ALW_nil ?_
      exact ⟨(n0, (i1 + 1)), Nat.lt_succ_self _, RepP [0, 1] rfl rfl (by kernel_rfl), h⟩
    ·replace h := cnd_f hb2 h
     refine AW_exit ?_
     exact ⟨RepP [] rfl rfl (by kernel_rfl), h⟩
  ·
   clear h
   rintro e' H' ⟨hrep, h⟩
   refine AW_rep hrep ?_
   clear hrep
   unfold ref14_Same_j0 at h
   refine AW_seq <| AW_region <| ALW_val (AVal_assign rfl) <| ALW_nil <| AW_ret ?_
   show RetP _ _ _ _ _ _
   obtain rfl := Option.some.inj h
   exact RetP_1 (R1_E rfl rfl)
theorem ref17_Same_ok {a_p0 : Allocator} {a_p1 : Allocator} {r : Bool} (h : ref17_Same a_p0 a_p1 = some r) : PFn Try.prog 11 [(AV.agg (cAllocator a_p0)), (AV.agg (cAllocator a_p1))] (AV.lit (.bool r)) := by
 refine PFn_enter Try.func11 rfl Try.ntmps11 Try.results11 rfl ?_
 unfold ref17_Same at h
 refine AW_seq <| AW_region <| ALW_step (H' := [.box 29 (cAllocator a_p0)]) (AStep_boxA (t := 29) rfl) <| ALW_step (H' := [.box 29 (cAllocator a_p0), .box 29 (cAllocator a_p1)]) (AStep_boxA (t := 29) rfl) <| ALW_val (AVal_assign rfl) <| ALW_nil ?_
 refine AW_seq <| AW_seq <| AW_region <| ALW_val (AVal_field Try.underlying29 rfl rfl Try.sizeOf22 rfl) <| ALW_val (AVal_load1 Try.isAgg22 rfl rfl rfl rfl) <| ALW_val (AVal_field Try.underlying29 rfl rfl Try.sizeOf22 rfl) ?_
 refine ALW_val (AVal_load1 Try.isAgg22 rfl rfl rfl rfl) ?_
 refine bnd_elim h ?_; clear h; intro x1 hx1 h
 refine ALW_callN Try.func30 rfl (by kernel_rfl) (.fn 30) rfl rfl (ref14_SameList_ok hx1) rfl <| ALW_val (AVal_not (t := x1) rfl) <| ALW_val (AVal_move rfl) <| ALW_g0 rfl rfl (fun hc1 => AVal.step (AVal_field Try.underlying29 rfl rfl Try.sizeOf3 rfl)) <| ALW_g0 rfl rfl (fun hc2 => AVal.step (AVal_load1 Try.isAgg3 (gd_t rfl hc2) rfl rfl rfl)) <| ALW_g0 rfl rfl (fun hc3 => AVal.step (AVal_field Try.underlying29 rfl rfl Try.sizeOf3 rfl)) ?_
 refine ALW_g0 rfl rfl (fun hc4 => AVal.step (AVal_load1 Try.isAgg3 (gd_t rfl hc4) rfl rfl rfl)) <| ALW_g0 rfl rfl (fun hc5 => AVal.step (AVal_neq (gd_t rfl hc5) (gd_t rfl hc5))) <| ALW_val (AVal_pick_or rfl rfl) <| ALW_val (AVal_move rfl) <| ALW_g0 rfl rfl (fun hc6 => AVal.step (AVal_field Try.underlying29 rfl rfl Try.sizeOf3 rfl)) <| ALW_g0 rfl rfl (fun hc7 => AVal.step (AVal_load1 Try.isAgg3 (gd_t rfl hc7) rfl rfl rfl)) ?_
 refine ALW_g0 rfl rfl (fun hc8 => AVal.step (AVal_field Try.underlying29 rfl rfl Try.sizeOf3 rfl)) <| ALW_g0 rfl rfl (fun hc9 => AVal.step (AVal_load1 Try.isAgg3 (gd_t rfl hc9) rfl rfl rfl)) <| ALW_g0 rfl rfl (fun hc10 => AVal.step (AVal_neq (gd_t rfl hc10) (gd_t rfl hc10))) <| ALW_val (AVal_pick_or rfl rfl) <| ALW_val (AVal_move rfl) <| ALW_g0 rfl rfl (fun hc11 => AVal.step (AVal_field Try.underlying29 rfl rfl Try.sizeOf26 rfl)) ?_
 refine ALW_g0 rfl rfl (fun hc12 => AVal.step (AVal_load1 Try.isAgg26 (gd_t rfl hc12) rfl rfl rfl)) <| ALW_g0 rfl rfl (fun hc13 => AVal.step (AVal_lenM Try.underlying26 (gd_t rfl hc13))) <| ALW_g0 rfl rfl (fun hc14 => AVal.step (AVal_field Try.underlying29 rfl rfl Try.sizeOf26 rfl)) <| ALW_g0 rfl rfl (fun hc15 => AVal.step (AVal_load1 Try.isAgg26 (gd_t rfl hc15) rfl rfl rfl)) <| ALW_g0 rfl rfl (fun hc16 => AVal.step (AVal_lenM Try.underlying26 (gd_t rfl hc16))) <| ALW_g0 rfl rfl (fun hc17 => AVal.step (AVal_neq (gd_t rfl hc17) (gd_t rfl hc17))) ?_
 refine ALW_val (AVal_pick_or rfl rfl) <| ALW_val (AVal_move rfl) <| ALW_g0 rfl rfl (fun hc18 => AVal.step (AVal_field Try.underlying29 rfl rfl Try.sizeOf27 rfl)) <| ALW_g0 rfl rfl (fun hc19 => AVal.step (AVal_load1 Try.isAgg27 (gd_t rfl hc19) rfl rfl rfl)) <| ALW_g0 rfl rfl (fun hc20 => AVal.step (AVal_lenM Try.underlying27 (gd_t rfl hc20))) <| ALW_g0 rfl rfl (fun hc21 => AVal.step (AVal_field Try.underlying29 rfl rfl Try.sizeOf27 rfl)) ?_
 refine ALW_g0 rfl rfl (fun hc22 => AVal.step (AVal_load1 Try.isAgg27 (gd_t rfl hc22) rfl rfl rfl)) <| ALW_g0 rfl rfl (fun hc23 => AVal.step (AVal_lenM Try.underlying27 (gd_t rfl hc23))) <| ALW_g0 rfl rfl (fun hc24 => AVal.step (AVal_neq (gd_t rfl hc24) (gd_t rfl hc24))) <| ALW_val (AVal_pick_or rfl rfl) <| ALW_nil ?_
 refine AW_cond (((((!x1) || (!decide (a_p0.batch = a_p1.batch))) || (!decide (a_p0.high = a_p1.high))) || (!decide ((a_p0.zones.length : Int) = (a_p1.zones.length : Int)))) || (!decide ((a_p0.caches.length : Int) = (a_p1.caches.length : Int)))) rfl (fun hb1 => ?_) (fun hb1 => ?_)
 ·replace h := cnd_t hb1 h
  refine AW_seq <| AW_region <| ALW_val (AVal_assign rfl) <| ALW_nil <| AW_ret ?_
  show RetP _ _ _ _ _ _
  obtain rfl := Option.some.inj h
  exact RetP_1 (R1_E rfl rfl)
 ·replace h := cnd_f hb1 h
  refine AW_skip ?_
  refine AW_seqJ (fun e' H' => Rep 83 0 e' H' (mkE [(2, (AV.ptr 0 0)), (3, (AV.ptr 1 0))]) [.box 29 (cAllocator a_p0), .box 29 (cAllocator a_p1)] ∧ ref17_Same_j0 a_p0 a_p1 = some r) ?_ ?_
  ·
   refine AW_seq <| AW_region <| ALW_val (AVal_assign rfl) <| ALW_nil <| AW_block <| AW_loop (σ := Nat × Int) (fun s => s.1) (fun s e' H' => match s with | (n1, i2) => Rep 83 0 e' H' (mkE [(2, (AV.ptr 0 0)), (3, (AV.ptr 1 0)), (5, (li i2))]) [.box 29 (cAllocator a_p0), .box 29 (cAllocator a_p1)] ∧ ref17_Same_l1 a_p0 a_p1 n1 i2 = some r) (FUEL, 0) ⟨RepP [0, 1] rfl rfl (by kernel_rfl), h⟩ ?_
   clear h
   rintro ⟨n1, i2⟩ e' H' ⟨hrep, h⟩
   cases n1 with
   | zero => exact absurd (show (none : Option _) = some r from h) (by simp)
   | succ n1 =>
    replace h : ref17_Same_b1 a_p0 a_p1 (ref17_Same_l1 a_p0 a_p1 n1) i2 = some r := h
    unfold ref17_Same_b1 at h
    refine AW_rep hrep ?_
    clear hrep
    refine AW_seq <| AW_seq <| AW_region <| ALW_val (AVal_move rfl) <| ALW_val (AVal_field Try.underlying29 rfl rfl Try.sizeOf26 rfl) <| ALW_val (AVal_load1 Try.isAgg26 rfl rfl rfl rfl) ?_
    refine ALW_val (AVal_lenM Try.underlying26 rfl) <| ALW_val (AVal_lss rfl rfl) <| ALW_nil ?_
    refine AW_cond (decide (i2 < (a_p0.zones.length : Int))) rfl (fun hb7 => ?_) (fun hb7 => ?_)
    ·replace h := cnd_t hb7 h
     refine AW_skip <| AW_seq <| AW_block <| AW_seq ?_
     have hb8 := (chk_some h).1
     replace h := (chk_some h).2
     have hb9 := (chk_some h).1
     replace h := (chk_some h).2
     refine bnd_elim h ?_; clear h; intro x3 hx3 h
     show AW _ _ _ _ _ _ [.box 29 (cAllocator a_p0), .box 29 (cAllocator a_p1)]
     refine AW_draw (n := 83) (m := 0) [.head 0 0, .head 0 0, .head 0 0, .head 0 0, .head 0 0, .head 0 0, .head 0 0, .head 0 0, .head 0 0, .head 0 0, .head 0 0, .head 0 0] [] [(AV.ptr 0 3), (ls cZone a_p0.zones), (li i2), (AV.rp (cZone (at_ a_p0.zones i2)) 0), (AV.agg (cZone (at_ a_p0.zones i2))), (AV.ptr 1 3), (ls cZone a_p1.zones), (li i2), (AV.rp (cZone (at_ a_p1.zones i2)) 0), (AV.agg (cZone (at_ a_p1.zones i2))), (AV.lit (.bool x3)), (AV.lit (.bool (!x3)))] [[.box 29 (cAllocator a_p0), .box 29 (cAllocator a_p1)]] (by kernel_rfl) (by kernel_rfl) ⟨?_, ?_, ?_, ?_, ?_, ?_, ?_, ?_, ?_, ?_, ?_, ?_, trivial⟩ ?_
     ·exact fun e s p => ALW1 (AVal_field (k := 0) (o := 0) (off := 3) Try.underlying29 rfl rfl Try.sizeOf26 (s 2 rfl)) ⟨fun _ => rfl, rfl⟩
     ·exact fun e s p => ALW1 (AVal_load1 (k := 0) (o := 3) (a := (ls cZone a_p0.zones)) Try.isAgg26 p.1 rfl rfl rfl) ⟨fun _ => rfl, rfl⟩
     ·exact fun e s p => ALW1 (AVal_move (av := (li i2)) (s 5 rfl)) ⟨fun _ => rfl, rfl⟩
     ·exact fun e s p => ALW1 (AVal_idxSM (f := cZone) (l := a_p0.zones) (i := i2) Try.underlying26 Try.sizeOf46 (fun _ => rfl) p.1 p.2.1 hb8) ⟨fun _ => rfl, rfl⟩
     ·exact fun e s p => ALW1 (AVal_loadRA (row := (cZone (at_ a_p0.zones i2))) (o := 0) (m := 10) (la := (cZone (at_ a_p0.zones i2))) Try.isAgg46 Try.sizeOf46 p.1 rfl rfl) ⟨fun _ => rfl, rfl⟩
     ·exact fun e s p => ALW1 (AVal_field (k := 1) (o := 0) (off := 3) Try.underlying29 rfl rfl Try.sizeOf26 (s 3 rfl)) ⟨fun _ => rfl, rfl⟩
     ·exact fun e s p => ALW1 (AVal_load1 (k := 1) (o := 3) (a := (ls cZone a_p1.zones)) Try.isAgg26 p.1 rfl rfl rfl) ⟨fun _ => rfl, rfl⟩
     ·exact fun e s p => ALW1 (AVal_move (av := (li i2)) (s 5 rfl)) ⟨fun _ => rfl, rfl⟩
     ·exact fun e s p => ALW1 (AVal_idxSM (f := cZone) (l := a_p1.zones) (i := i2) Try.underlying26 Try.sizeOf46 (fun _ => rfl) p.1 p.2.1 hb9) ⟨fun _ => rfl, rfl⟩
     ·exact fun e s p => ALW1 (AVal_loadRA (row := (cZone (at_ a_p1.zones i2))) (o := 0) (m := 10) (la := (cZone (at_ a_p1.zones i2))) Try.isAgg46 Try.sizeOf46 p.1 rfl rfl) ⟨fun _ => rfl, rfl⟩
     ·
      intro e24 hs24 hp23
      refine ALW_callN (r := (AV.lit (.bool x3))) (la := [(AV.agg (cZone (at_ a_p0.zones i2))), (AV.agg (cZone (at_ a_p1.zones i2)))]) Try.func31 rfl (by kernel_rfl) (.fn 31) (lcons hp23.1 (lcons hp23.2.1 rfl)) rfl (ref12_Same_ok hx3) rfl ?_
      exact ALW_nil ⟨fun _ => rfl, rfl⟩
     ·exact fun e s p => ALW1 (AVal_not (t := x3) p.1) ⟨fun _ => rfl, rfl⟩
     intro e26 hs26 hq2
     refine AW_rep (Rep_mk (l := [(2, (AV.ptr 0 0)), (3, (AV.ptr 1 0)), (5, (li i2)), (63, (AV.lit (.bool (!x3))))]) ⟨(hs26 2 rfl), (hs26 3 rfl), (hs26 5 rfl), (hq2 11 (by decide) (by decide)), trivial⟩) ?_
     refine AW_cond (!x3) rfl (fun hb10 => ?_) (fun hb10 => ?_)
     ·replace h := cnd_t hb10 h
      refine AW_seq <| AW_region <| ALW_val (AVal_assign rfl) <| ALW_nil <| AW_ret ?_
      show RetP _ _ _ _ _ _
      obtain rfl := Option.some.inj h
      exact RetP_1 (R1_E rfl rfl)
     ·replace h := cnd_f hb10 h
      refine AW_skip <| AW_region <| ALW_val (AVal_move rfl) ?_
      have hb11 := (chk_some h).1
      replace h := (chk_some h).2
      refine ALW_val (AVal_add rfl rfl hb11) <| ALW_val (AVal_assign rfl) <| ALW_nil ?_
      exact ⟨(n1, (i2 + 1)), Nat.lt_succ_self _, RepP [0, 1] rfl rfl (by kernel_rfl), h⟩
    ·replace h := cnd_f hb7 h
     refine AW_exit ?_
     exact ⟨RepP [0, 1] rfl rfl (by kernel_rfl), h⟩
  ·
   clear h
   rintro e' H' ⟨hrep, h⟩
   refine AW_rep hrep ?_
   clear hrep
   unfold ref17_Same_j0 at h
   refine AW_seqJ (fun e' H' => Rep 83 0 e' H' (mkE []) [] ∧ ref17_Same_j1  = some r) ?_ ?_
   ·
    refine AW_seq <| AW_region <| ALW_val (AVal_assign rfl) <| ALW_nil <| AW_block <| AW_loop (σ := Nat × Int) (fun s => s.1) (fun s e' H' => match s with | (n0, i1) => Rep 83 0 e' H' (mkE [(2, (AV.ptr 0 0)), (3, (AV.ptr 1 0)), (6, (li i1))]) [.box 29 (cAllocator a_p0), .box 29 (cAllocator a_p1)] ∧ ref17_Same_l0 a_p0 a_p1 n0 i1 = some r) (FUEL, 0) ⟨RepP [0, 1] rfl rfl (by kernel_rfl), h⟩ ?_
    clear h
    rintro ⟨n0, i1⟩ e' H' ⟨hrep, h⟩
    cases n0 with
    | zero => exact absurd (show (none : Option _) = some r from h) (by simp)
    | succ n0 =>
     replace h : ref17_Same_b0 a_p0 a_p1 (ref17_Same_l0 a_p0 a_p1 n0) i1 = some r := h
     unfold ref17_Same_b0 at h
     refine AW_rep hrep ?_
     clear hrep
     refine AW_seq <| AW_seq <| AW_region <| ALW_val (AVal_move rfl) <| ALW_val (AVal_field Try.underlying29 rfl rfl Try.sizeOf27 rfl) <| ALW_val (AVal_load1 Try.isAgg27 rfl rfl rfl rfl) ?_
     refine ALW_val (AVal_lenM Try.underlying27 rfl) <| ALW_val (AVal_lss rfl rfl) <| ALW_nil ?_
     refine AW_cond (decide (i1 < (a_p0.caches.length : Int))) rfl (fun hb2 => ?_) (fun hb2 => ?_)
     ·replace h := cnd_t hb2 h
      refine AW_skip <| AW_seq <| AW_block <| AW_seq ?_
      have hb3 := (chk_some h).1
      replace h := (chk_some h).2
      have hb4 := (chk_some h).1
      replace h := (chk_some h).2
      refine bnd_elim h ?_; clear h; intro x2 hx2 h
      show AW _ _ _ _ _ _ [.box 29 (cAllocator a_p0), .box 29 (cAllocator a_p1)]
      refine AW_draw (n := 83) (m := 0) [.head 0 0, .head 0 0, .head 0 0, .head 0 0, .head 0 0, .head 0 0, .head 0 0, .head 0 0, .head 0 0, .head 0 0, .head 0 0, .head 0 0] [] [(AV.ptr 0 4), (ls cCpuCache a_p0.caches), (li i1), (AV.rp (cCpuCache (at_ a_p0.caches i1)) 0), (AV.agg (cCpuCache (at_ a_p0.caches i1))), (AV.ptr 1 4), (ls cCpuCache a_p1.caches), (li i1), (AV.rp (cCpuCache (at_ a_p1.caches i1)) 0), (AV.agg (cCpuCache (at_ a_p1.caches i1))), (AV.lit (.bool x2)), (AV.lit (.bool (!x2)))] [[.box 29 (cAllocator a_p0), .box 29 (cAllocator a_p1)]] (by kernel_rfl) (by kernel_rfl) ⟨?_, ?_, ?_, ?_, ?_, ?_, ?_, ?_, ?_, ?_, ?_, ?_, trivial⟩ ?_
      ·exact fun e s p => ALW1 (AVal_field (k := 0) (o := 0) (off := 4) Try.underlying29 rfl rfl Try.sizeOf27 (s 2 rfl)) ⟨fun _ => rfl, rfl⟩
      ·exact fun e s p => ALW1 (AVal_load1 (k := 0) (o := 4) (a := (ls cCpuCache a_p0.caches)) Try.isAgg27 p.1 rfl rfl rfl) ⟨fun _ => rfl, rfl⟩
      ·exact fun e s p => ALW1 (AVal_move (av := (li i1)) (s 6 rfl)) ⟨fun _ => rfl, rfl⟩
      ·exact fun e s p => ALW1 (AVal_idxSM (f := cCpuCache) (l := a_p0.caches) (i := i1) Try.underlying27 Try.sizeOf50 (fun _ => rfl) p.1 p.2.1 hb3) ⟨fun _ => rfl, rfl⟩
      ·exact fun e s p => ALW1 (AVal_loadRA (row := (cCpuCache (at_ a_p0.caches i1))) (o := 0) (m := 1) (la := (cCpuCache (at_ a_p0.caches i1))) Try.isAgg50 Try.sizeOf50 p.1 rfl rfl) ⟨fun _ => rfl, rfl⟩
      ·exact fun e s p => ALW1 (AVal_field (k := 1) (o := 0) (off := 4) Try.underlying29 rfl rfl Try.sizeOf27 (s 3 rfl)) ⟨fun _ => rfl, rfl⟩
      ·exact fun e s p => ALW1 (AVal_load1 (k := 1) (o := 4) (a := (ls cCpuCache a_p1.caches)) Try.isAgg27 p.1 rfl rfl rfl) ⟨fun _ => rfl, rfl⟩
      ·exact fun e s p => ALW1 (AVal_move (av := (li i1)) (s 6 rfl)) ⟨fun _ => rfl, rfl⟩
      ·exact fun e s p => ALW1 (AVal_idxSM (f := cCpuCache) (l := a_p1.caches) (i := i1) Try.underlying27 Try.sizeOf50 (fun _ => rfl) p.1 p.2.1 hb4) ⟨fun _ => rfl, rfl⟩
      ·exact fun e s p => ALW1 (AVal_loadRA (row := (cCpuCache (at_ a_p1.caches i1))) (o := 0) (m := 1) (la := (cCpuCache (at_ a_p1.caches i1))) Try.isAgg50 Try.sizeOf50 p.1 rfl rfl) ⟨fun _ => rfl, rfl⟩
      ·
       intro e11 hs11 hp11
       refine ALW_callN (r := (AV.lit (.bool x2))) (la := [(AV.agg (cCpuCache (at_ a_p0.caches i1))), (AV.agg (cCpuCache (at_ a_p1.caches i1)))]) Try.func32 rfl (by kernel_rfl) (.fn 32) (lcons hp11.1 (lcons hp11.2.1 rfl)) rfl (ref14_Same_ok hx2) rfl ?_
       exact ALW_nil ⟨fun _ => rfl, rfl⟩
      ·exact fun e s p => ALW1 (AVal_not (t := x2) p.1) ⟨fun _ => rfl, rfl⟩
      intro e13 hs13 hq1
      refine AW_rep (Rep_mk (l := [(2, (AV.ptr 0 0)), (3, (AV.ptr 1 0)), (6, (li i1)), (82, (AV.lit (.bool (!x2))))]) ⟨(hs13 2 rfl), (hs13 3 rfl), (hs13 6 rfl), (hq1 11 (by decide) (by decide)), trivial⟩) ?_
      refine AW_cond (!x2) rfl (fun hb5 => ?_) (fun hb5 => ?_)
      ·replace h := cnd_t hb5 h
       refine AW_seq <| AW_region <| ALW_val (AVal_assign rfl) <| ALW_nil <| AW_ret ?_
       show RetP _ _ _ _ _ _
       obtain rfl := Option.some.inj h
       exact RetP_1 (R1_E rfl rfl)
      ·replace h := cnd_f hb5 h
       refine AW_skip <| AW_region <| ALW_val (AVal_move rfl) ?_
       have hb6 := (chk_some h).1
       replace h := (chk_some h).2
       refine ALW_val (AVal_add rfl rfl hb6) <| ALW_val (AVal_assign rfl) <| ALW_nil ?_
       exact ⟨(n0, (i1 + 1)), Nat.lt_succ_self _, RepP [0, 1] rfl rfl (by kernel_rfl), h⟩
     ·replace h := cnd_f hb2 h
      refine AW_exit ?_
      exact ⟨RepP [] rfl rfl (by kernel_rfl), h⟩
   ·
    clear h
    rintro e' H' ⟨hrep, h⟩
    refine AW_rep hrep ?_
    clear hrep
    unfold ref17_Same_j1 at h
    refine AW_seq <| AW_region <| ALW_val (AVal_assign rfl) <| ALW_nil <| AW_ret ?_
    show RetP _ _ _ _ _ _
    obtain rfl := Option.some.inj h
    exact RetP_1 (R1_E rfl rfl)
theorem law17_awake_ok  {r : Bool} (h : law17_awake = some r) : PFn Try.prog 8 [] (AV.lit (.bool r)) := by
 refine PFn_enter Try.func8 rfl Try.ntmps8 Try.results8 rfl ?_
 unfold law17_awake at h
 refine AW_seq <| AW_region <| ALW_val (AVal_assign (av := (AV.lit (.bool false))) rfl) <| ALW_nil <| AW_seq <| AW_region ?_
 refine ALW_litN (N := 2) (pl := [(0, 1), (1, 1)]) (zs := [.int .i64 0, .int .i64 0]) (zc := [.lit (.int .i64 0), .lit (.int .i64 0)]) (rows := List.map cI [0, 1]) elem3 Try.underlying22 rfl rfl rfl (by kernel_rfl) rfl (⟨SubF.refl _, ⟨SubF.refl _, trivial⟩⟩) ⟨(li 0), 0, 1, rfl, rfl, rfl, rfl, rfl, ⟨(li 1), 1, 1, rfl, rfl, rfl, rfl, rfl, (by exact SubL.refl _)⟩⟩ rfl rfl rfl <| ALW_val (AVal_build (pl := [(0, 1), (1, 1), (2, 1), (3, 1)]) (zs := [.int .i64 0, .int .i64 0, .int .i64 0, .int .i64 0]) (zc := [.lit (.int .i64 0), .lit (.int .i64 0), .lit (.int .i64 0), .lit (.int .i64 0)]) (res := (cZoneSpec (⟨0, 0, 8, 2⟩ : ZoneSpec))) (fun _ => by kernel_rfl) rfl (⟨SubF.refl _, ⟨SubF.refl _, ⟨SubF.refl _, ⟨SubF.refl _, trivial⟩⟩⟩⟩) ⟨(li 0), 0, 1, rfl, rfl, rfl, rfl, rfl, ⟨(li 0), 1, 1, rfl, rfl, rfl, rfl, rfl, ⟨(li 8), 2, 1, rfl, rfl, rfl, rfl, rfl, ⟨(li 2), 3, 1, rfl, rfl, rfl, rfl, rfl, (by exact SubL.refl _)⟩⟩⟩⟩) <| ALW_val (AVal_build (pl := [(0, 1), (1, 1), (2, 1), (3, 1)]) (zs := [.int .i64 0, .int .i64 0, .int .i64 0, .int .i64 0]) (zc := [.lit (.int .i64 0), .lit (.int .i64 0), .lit (.int .i64 0), .lit (.int .i64 0)]) (res := (cZoneSpec (⟨1, 1, 8, 0⟩ : ZoneSpec))) (fun _ => by kernel_rfl) rfl (⟨SubF.refl _, ⟨SubF.refl _, ⟨SubF.refl _, ⟨SubF.refl _, trivial⟩⟩⟩⟩) ⟨(li 1), 0, 1, rfl, rfl, rfl, rfl, rfl, ⟨(li 1), 1, 1, rfl, rfl, rfl, rfl, rfl, ⟨(li 8), 2, 1, rfl, rfl, rfl, rfl, rfl, ⟨(li 0), 3, 1, rfl, rfl, rfl, rfl, rfl, (by exact SubL.refl _)⟩⟩⟩⟩) <| ALW_litN (N := 2) (pl := [(0, 4), (4, 4)]) (zs := [.int .i64 0, .int .i64 0, .int .i64 0, .int .i64 0, .int .i64 0, .int .i64 0, .int .i64 0, .int .i64 0]) (zc := [.lit (.int .i64 0), .lit (.int .i64 0), .lit (.int .i64 0), .lit (.int .i64 0), .lit (.int .i64 0), .lit (.int .i64 0), .lit (.int .i64 0), .lit (.int .i64 0)]) (rows := List.map cZoneSpec [(⟨0, 0, 8, 2⟩ : ZoneSpec), (⟨1, 1, 8, 0⟩ : ZoneSpec)]) elem65 Try.underlying24 rfl rfl rfl (by kernel_rfl) rfl (⟨SubF.refl _, ⟨SubF.refl _, ⟨SubF.refl _, ⟨SubF.refl _, ⟨SubF.refl _, ⟨SubF.refl _, ⟨SubF.refl _, ⟨SubF.refl _, trivial⟩⟩⟩⟩⟩⟩⟩⟩) ⟨(AV.agg (cZoneSpec (⟨0, 0, 8, 2⟩ : ZoneSpec))), 0, 4, rfl, rfl, rfl, rfl, rfl, ⟨(AV.agg (cZoneSpec (⟨1, 1, 8, 0⟩ : ZoneSpec))), 4, 4, rfl, rfl, rfl, rfl, rfl, (by exact SubL.refl _)⟩⟩ rfl rfl rfl ?_
 refine bnd_elim h ?_; clear h; intro x1 hx1 h
 refine ALW_rep (Rep_frzL (j := 0) (ds := [11]) (rows' := List.map cI [0, 1]) rfl (frzR_map (fun _ => rfl)) ⟨rfl, trivial⟩) ?_
 refine bnd_elim h ?_; clear h; intro x2 hx2 h
 refine ALW_rep (Rep_frzL (j := 1) (ds := [14]) (rows' := List.map cZoneSpec [(⟨0, 0, 8, 2⟩ : ZoneSpec), (⟨1, 1, 8, 0⟩ : ZoneSpec)]) rfl (frzR_map (fun _ => rfl)) ⟨rfl, trivial⟩) ?_
 refine bnd_elim h ?_; clear h; intro x3 hx3 h
 refine ALW_callN Try.func9 rfl (by kernel_rfl) (.fn 9) rfl rfl (allocator_New_ok hx3) rfl <| ALW_val (AVal_move rfl) <| ALW_val (AVal_extract rfl rfl) <| ALW_val (AVal_extract rfl rfl) <| ALW_step (H' := [.dead, .dead, .box 29 ([(ls cI ([] : List Int))] ++ ([(li 0)] ++ ([(li 0)] ++ ([(ls cZone ([] : List Zone))] ++ ([(ls cCpuCache ([] : List CpuCache))] ++ [])))))]) (AStep_alloc (t := 29) (vs := [.slice none 0 0, .int .i64 0, .int .i64 0, .slice none 0 0, .slice none 0 0]) (cs := [.sl false [], .lit (.int .i64 0), .lit (.int .i64 0), .sl false [], .sl false []]) Try.zeroValue29 (by kernel_rfl) rfl ⟨SubF.nils, SubF.refl _, SubF.refl _, SubF.nils, SubF.nils, trivial⟩) <| ALW_act (H' := [.dead, .dead, .box 29 (cAllocator x3.1)]) (AAct_storeA (k := 2) (o := 0) (cs := ([(ls cI ([] : List Int))] ++ ([(li 0)] ++ ([(li 0)] ++ ([(ls cZone ([] : List Zone))] ++ ([(ls cCpuCache ([] : List CpuCache))] ++ [])))))) (la := (cAllocator x3.1)) Try.sizeOf29 rfl rfl rfl rfl) ?_
 refine ALW_val (AVal_assign (av := (li x3.2)) rfl) <| ALW_nil <| AW_seq <| AW_seq <| AW_region <| ALW_val (AVal_move (av := (li x3.2)) rfl) ?_
 refine ALW_val (AVal_neq rfl rfl) <| ALW_val (AVal_move rfl) <| ALW_g0 rfl rfl (fun hc1 => AVal.step (AVal_field Try.underlying29 rfl rfl Try.sizeOf26 rfl)) <| ALW_g0 rfl rfl (fun hc2 => AVal.step (AVal_load1 Try.isAgg26 (gd_t rfl hc2) rfl rfl rfl)) <| ALW_g0 rfl rfl (fun hc3 => AVal.step (AVal_lenM Try.underlying26 (gd_t rfl hc3))) <| ALW_g0 rfl rfl (fun hc4 => AVal.step (AVal_neq (gd_t rfl hc4) rfl)) ?_
 refine ALW_val (AVal_pick_or (s := !decide (x3.2 = 0)) (q := !decide ((x3.1.zones.length : Int) = 2)) (j := .lit undef) rfl rfl) <| ALW_val (AVal_move (av := (AV.lit (.bool ((!decide (x3.2 = 0)) || (!decide ((x3.1.zones.length : Int) = 2)))))) rfl) <| ALW_g0 (g := 26) (s := (!decide (x3.2 = 0)) || (!decide ((x3.1.zones.length : Int) = 2))) rfl rfl (fun hc5 => AVal.step (AVal_field (k := 2) (o := 0) (off := 4) Try.underlying29 rfl rfl Try.sizeOf27 rfl)) <| ALW_g0 (g := 26) (s := (!decide (x3.2 = 0)) || (!decide ((x3.1.zones.length : Int) = 2))) rfl rfl (fun hc6 => AVal.step (AVal_load1 (k := 2) (o := 4) (a := (ls cCpuCache x3.1.caches)) Try.isAgg27 (gd_t rfl hc6) rfl rfl rfl)) <| ALW_g0 (g := 26) (s := (!decide (x3.2 = 0)) || (!decide ((x3.1.zones.length : Int) = 2))) rfl rfl (fun hc7 => AVal.step (AVal_lenM (f := cCpuCache) (l := x3.1.caches) Try.underlying27 (gd_t rfl hc7))) <| ALW_g0 (g := 26) (s := (!decide (x3.2 = 0)) || (!decide ((x3.1.zones.length : Int) = 2))) rfl rfl (fun hc8 => AVal.step (AVal_neq (a := (x3.1.caches.length : Int)) (b := 2) (gd_t rfl hc8) rfl)) ?_
 refine ALW_val (AVal_pick_or rfl rfl) <| ALW_val (AVal_move rfl) <| ALW_g0 rfl rfl (fun hc9 => AVal.step (AVal_loadA (k := 2) (o := 0) (m := 5) Try.isAgg29 Try.sizeOf29 rfl rfl rfl rfl rfl)) ?_
 refine bnd_elim h ?_; clear h; intro x4 hx4 h
 refine ALW_callG0 (g := 32) (s := ((!decide (x3.2 = 0)) || (!decide ((x3.1.zones.length : Int) = 2))) || (!decide ((x3.1.caches.length : Int) = 2))) (r' := (li x4)) rfl rfl (fun hc10 => ⟨15, _, _, [], [(AV.agg (cAllocator x3.1))], [(AV.agg (cAllocator x3.1))], (li x4), [], Try.func15, rfl, by kernel_rfl, (.fn 15), (lcons (gd_t rfl hc10) rfl), ⟨View.nr rfl, trivial⟩, allocator_Check_ok (cnd_t hc10 hx4), .inl rfl, rfl⟩) <| ALW_g0 (g := 32) (s := ((!decide (x3.2 = 0)) || (!decide ((x3.1.zones.length : Int) = 2))) || (!decide ((x3.1.caches.length : Int) = 2))) rfl rfl (fun hc11 => AVal.step (AVal_neq (a := x4) (b := 0) (gd_t rfl hc11) rfl)) <| ALW_val (AVal_pick_or (s := ((!decide (x3.2 = 0)) || (!decide ((x3.1.zones.length : Int) = 2))) || (!decide ((x3.1.caches.length : Int) = 2))) (q := !decide (x4 = 0)) (j := .lit undef) rfl rfl) <| ALW_val (AVal_move (av := (AV.lit (.bool ((((!decide (x3.2 = 0)) || (!decide ((x3.1.zones.length : Int) = 2))) || (!decide ((x3.1.caches.length : Int) = 2))) || (!decide (x4 = 0)))))) rfl) <| ALW_g0 (g := 37) (s := (((!decide (x3.2 = 0)) || (!decide ((x3.1.zones.length : Int) = 2))) || (!decide ((x3.1.caches.length : Int) = 2))) || (!decide (x4 = 0))) rfl rfl (fun hc12 => AVal.step (AVal_loadA (k := 2) (o := 0) (m := 5) (la := (cAllocator x3.1)) Try.isAgg29 Try.sizeOf29 rfl rfl rfl rfl rfl)) ?_
 refine bnd_elim h ?_; clear h; intro x5 hx5 h
 refine ALW_callG0 (g := 37) (s := (((!decide (x3.2 = 0)) || (!decide ((x3.1.zones.length : Int) = 2))) || (!decide ((x3.1.caches.length : Int) = 2))) || (!decide (x4 = 0))) (r' := (li x5)) rfl rfl (fun hc13 => ⟨13, _, _, [], [(AV.agg (cAllocator x3.1))], [(AV.agg (cAllocator x3.1))], (li x5), [], Try.func13, rfl, by kernel_rfl, (.fn 13), (lcons (gd_t rfl hc13) rfl), ⟨View.nr rfl, trivial⟩, allocator_Frames_ok (cnd_t hc13 hx5), .inl rfl, rfl⟩) <| ALW_g0 rfl rfl (fun hc14 => AVal.step (AVal_neq (gd_t rfl hc14) rfl)) <| ALW_val (AVal_pick_or rfl rfl) <| ALW_nil ?_
 refine AW_cond (((((!decide (x3.2 = 0)) || (!decide ((x3.1.zones.length : Int) = 2))) || (!decide ((x3.1.caches.length : Int) = 2))) || (!decide (x4 = 0))) || (!decide (x5 = 16))) rfl (fun hb1 => ?_) (fun hb1 => ?_)
 ·replace h := cnd_t hb1 h
  refine AW_seq <| AW_region <| ALW_val (AVal_assign (av := (AV.lit (.bool false))) rfl) <| ALW_nil <| AW_ret ?_
  show RetP _ _ _ _ _ _
  obtain rfl := Option.some.inj h
  exact RetP_1 (R1_E rfl rfl)
 ·replace h := cnd_f hb1 h
  refine AW_skip <| AW_seq <| AW_region <| ALW_val (AVal_loadA (k := 2) (o := 0) (m := 5) (la := (cAllocator x3.1)) Try.isAgg29 Try.sizeOf29 rfl rfl rfl rfl rfl) ?_
  refine bnd_elim h ?_; clear h; intro x6 hx6 h
  refine ALW_callN Try.func16 rfl (by kernel_rfl) (.fn 16) rfl rfl (allocator_Headroom_ok hx6) rfl <| ALW_val (AVal_move rfl) <| ALW_val (AVal_extract rfl rfl) <| ALW_val (AVal_extract rfl rfl) <| ALW_val (AVal_assign rfl) <| ALW_val (AVal_assign rfl) ?_
  refine ALW_nil <| AW_seq <| AW_region <| ALW_val (AVal_loadA (k := 2) (o := 0) (m := 5) (la := (cAllocator x3.1)) Try.isAgg29 Try.sizeOf29 rfl rfl rfl rfl rfl) ?_
  refine bnd_elim h ?_; clear h; intro x7 hx7 h
  refine ALW_callN Try.func17 rfl (by kernel_rfl) (.fn 17) rfl rfl (allocator_Alloc_ok hx7) rfl <| ALW_val (AVal_move rfl) <| ALW_val (AVal_extract rfl rfl) <| ALW_val (AVal_extract rfl rfl) <| ALW_val (AVal_extract rfl rfl) <| ALW_step (H' := [.dead, .dead, .box 29 (cAllocator x3.1), .box 29 ([(ls cI ([] : List Int))] ++ ([(li 0)] ++ ([(li 0)] ++ ([(ls cZone ([] : List Zone))] ++ ([(ls cCpuCache ([] : List CpuCache))] ++ [])))))]) (AStep_alloc (t := 29) (vs := [.slice none 0 0, .int .i64 0, .int .i64 0, .slice none 0 0, .slice none 0 0]) (cs := [.sl false [], .lit (.int .i64 0), .lit (.int .i64 0), .sl false [], .sl false []]) Try.zeroValue29 (by kernel_rfl) rfl ⟨SubF.nils, SubF.refl _, SubF.refl _, SubF.nils, SubF.nils, trivial⟩) ?_
  refine ALW_act (H' := [.dead, .dead, .box 29 (cAllocator x3.1), .box 29 (cAllocator x7.1)]) (AAct_storeA (k := 3) (o := 0) (cs := ([(ls cI ([] : List Int))] ++ ([(li 0)] ++ ([(li 0)] ++ ([(ls cZone ([] : List Zone))] ++ ([(ls cCpuCache ([] : List CpuCache))] ++ [])))))) (la := (cAllocator x7.1)) Try.sizeOf29 rfl rfl rfl rfl) <| ALW_val (AVal_assign (av := (li x7.2.1)) rfl) <| ALW_val (AVal_assign (av := (li x7.2.2)) rfl) <| ALW_nil <| AW_seq <| AW_seq ?_
  refine AW_region <| ALW_val (AVal_move rfl) <| ALW_val (AVal_neq rfl rfl) <| ALW_val (AVal_move rfl) <| ALW_g0 rfl rfl (fun hc15 => AVal.step (AVal_move rfl)) <| ALW_g0 rfl rfl (fun hc16 => AVal.step (AVal_neq (gd_t rfl hc16) rfl)) ?_
  refine ALW_val (AVal_pick_or (s := !decide (x6.1 = 6)) (q := !decide (x6.2 = 14)) (j := .lit undef) rfl rfl) <| ALW_val (AVal_move (av := (AV.lit (.bool ((!decide (x6.1 = 6)) || (!decide (x6.2 = 14)))))) rfl) <| ALW_g0 (g := 59) (s := (!decide (x6.1 = 6)) || (!decide (x6.2 = 14))) rfl rfl (fun hc17 => AVal.step (AVal_move (av := (li x7.2.2)) rfl)) <| ALW_g0 (g := 59) (s := (!decide (x6.1 = 6)) || (!decide (x6.2 = 14))) rfl rfl (fun hc18 => AVal.step (AVal_neq (a := x7.2.2) (b := 0) (gd_t rfl hc18) rfl)) <| ALW_val (AVal_pick_or (s := (!decide (x6.1 = 6)) || (!decide (x6.2 = 14))) (q := !decide (x7.2.2 = 0)) (j := .lit undef) rfl rfl) <| ALW_val (AVal_move (av := (AV.lit (.bool (((!decide (x6.1 = 6)) || (!decide (x6.2 = 14))) || (!decide (x7.2.2 = 0)))))) rfl) ?_
  refine ALW_g0 rfl rfl (fun hc19 => AVal.step (AVal_move rfl)) <| ALW_g0 rfl rfl (fun hc20 => AVal.step (AVal_neq (gd_t rfl hc20) rfl)) <| ALW_val (AVal_pick_or rfl rfl) <| ALW_val (AVal_move rfl) <| ALW_g0 rfl rfl (fun hc21 => AVal.step (AVal_loadA (k := 3) (o := 0) (m := 5) Try.isAgg29 Try.sizeOf29 rfl rfl rfl rfl rfl)) ?_
  refine bnd_elim h ?_; clear h; intro x8 hx8 h
  refine ALW_callG0 (g := 67) (s := (((!decide (x6.1 = 6)) || (!decide (x6.2 = 14))) || (!decide (x7.2.2 = 0))) || (!decide (x7.2.1 = 0))) (r' := (AV.lit (.bool x8))) rfl rfl (fun hc22 => ⟨14, _, _, [], [(AV.agg (cAllocator x7.1)), (li 0)], [(AV.agg (cAllocator x7.1)), (li 0)], (AV.lit (.bool x8)), [], Try.func14, rfl, by kernel_rfl, (.fn 14), (lcons (gd_t rfl hc22) (lcons rfl rfl)), ⟨View.nr rfl, View.nr rfl, trivial⟩, allocator_IsFree_ok (cnd_t hc22 hx8), .inl rfl, rfl⟩) <| ALW_val (AVal_pick_or (s := (((!decide (x6.1 = 6)) || (!decide (x6.2 = 14))) || (!decide (x7.2.2 = 0))) || (!decide (x7.2.1 = 0))) (q := x8) (j := .lit undef) rfl rfl) <| ALW_val (AVal_move (av := (AV.lit (.bool (((((!decide (x6.1 = 6)) || (!decide (x6.2 = 14))) || (!decide (x7.2.2 = 0))) || (!decide (x7.2.1 = 0))) || x8)))) rfl) <| ALW_g0 (g := 71) (s := ((((!decide (x6.1 = 6)) || (!decide (x6.2 = 14))) || (!decide (x7.2.2 = 0))) || (!decide (x7.2.1 = 0))) || x8) rfl rfl (fun hc23 => AVal.step (AVal_loadA (k := 3) (o := 0) (m := 5) (la := (cAllocator x7.1)) Try.isAgg29 Try.sizeOf29 rfl rfl rfl rfl rfl)) ?_
  refine bnd_elim h ?_; clear h; intro x9 hx9 h
  refine ALW_callG0 (g := 71) (s := ((((!decide (x6.1 = 6)) || (!decide (x6.2 = 14))) || (!decide (x7.2.2 = 0))) || (!decide (x7.2.1 = 0))) || x8) (r' := (AV.lit (.bool x9))) rfl rfl (fun hc24 => ⟨14, _, _, [], [(AV.agg (cAllocator x7.1)), (li 1)], [(AV.agg (cAllocator x7.1)), (li 1)], (AV.lit (.bool x9)), [], Try.func14, rfl, by kernel_rfl, (.fn 14), (lcons (gd_t rfl hc24) (lcons rfl rfl)), ⟨View.nr rfl, View.nr rfl, trivial⟩, allocator_IsFree_ok (cnd_t hc24 hx9), .inl rfl, rfl⟩) <| ALW_g0 rfl rfl (fun hc25 => AVal.step (AVal_not (t := x9) (gd_t rfl hc25))) <| ALW_val (AVal_pick_or rfl rfl) <| ALW_val (AVal_move rfl) <| ALW_g0 rfl rfl (fun hc26 => AVal.step (AVal_loadA (k := 3) (o := 0) (m := 5) Try.isAgg29 Try.sizeOf29 rfl rfl rfl rfl rfl)) ?_
  refine bnd_elim h ?_; clear h; intro x10 hx10 h
  refine ALW_callG0 (g := 76) (s := (((((!decide (x6.1 = 6)) || (!decide (x6.2 = 14))) || (!decide (x7.2.2 = 0))) || (!decide (x7.2.1 = 0))) || x8) || (!x9)) (r' := (li x10)) rfl rfl (fun hc27 => ⟨18, _, _, [], [(AV.agg (cAllocator x7.1)), (li 0)], [(AV.agg (cAllocator x7.1)), (li 0)], (li x10), [], Try.func18, rfl, by kernel_rfl, (.fn 18), (lcons (gd_t rfl hc27) (lcons rfl rfl)), ⟨View.nr rfl, View.nr rfl, trivial⟩, allocator_Count_ok (cnd_t hc27 hx10), .inl rfl, rfl⟩) <| ALW_g0 (g := 76) (s := (((((!decide (x6.1 = 6)) || (!decide (x6.2 = 14))) || (!decide (x7.2.2 = 0))) || (!decide (x7.2.1 = 0))) || x8) || (!x9)) rfl rfl (fun hc28 => AVal.step (AVal_neq (a := x10) (b := 7) (gd_t rfl hc28) rfl)) <| ALW_val (AVal_pick_or (s := (((((!decide (x6.1 = 6)) || (!decide (x6.2 = 14))) || (!decide (x7.2.2 = 0))) || (!decide (x7.2.1 = 0))) || x8) || (!x9)) (q := !decide (x10 = 7)) (j := .lit undef) rfl rfl) <| ALW_val (AVal_move (av := (AV.lit (.bool (((((((!decide (x6.1 = 6)) || (!decide (x6.2 = 14))) || (!decide (x7.2.2 = 0))) || (!decide (x7.2.1 = 0))) || x8) || (!x9)) || (!decide (x10 = 7)))))) rfl) <| ALW_g0 (g := 81) (s := ((((((!decide (x6.1 = 6)) || (!decide (x6.2 = 14))) || (!decide (x7.2.2 = 0))) || (!decide (x7.2.1 = 0))) || x8) || (!x9)) || (!decide (x10 = 7))) rfl rfl (fun hc29 => AVal.step (AVal_loadA (k := 3) (o := 0) (m := 5) (la := (cAllocator x7.1)) Try.isAgg29 Try.sizeOf29 rfl rfl rfl rfl rfl)) ?_
  refine bnd_elim h ?_; clear h; intro x11 hx11 h
  refine ALW_callG0 (g := 81) (s := ((((((!decide (x6.1 = 6)) || (!decide (x6.2 = 14))) || (!decide (x7.2.2 = 0))) || (!decide (x7.2.1 = 0))) || x8) || (!x9)) || (!decide (x10 = 7))) (r' := (li x11)) rfl rfl (fun hc30 => ⟨19, _, _, [], [(AV.agg (cAllocator x7.1)), (li 8)], [(AV.agg (cAllocator x7.1)), (li 8)], (li x11), [], Try.func19, rfl, by kernel_rfl, (.fn 19), (lcons (gd_t rfl hc30) (lcons rfl rfl)), ⟨View.nr rfl, View.nr rfl, trivial⟩, allocator_Zone_ok (cnd_t hc30 hx11), .inl rfl, rfl⟩) <| ALW_g0 rfl rfl (fun hc31 => AVal.step (AVal_neq (gd_t rfl hc31) rfl)) <| ALW_val (AVal_pick_or rfl rfl) <| ALW_nil ?_
  refine AW_cond ((((((((!decide (x6.1 = 6)) || (!decide (x6.2 = 14))) || (!decide (x7.2.2 = 0))) || (!decide (x7.2.1 = 0))) || x8) || (!x9)) || (!decide (x10 = 7))) || (!decide (x11 = 1))) rfl (fun hb2 => ?_) (fun hb2 => ?_)
  ·replace h := cnd_t hb2 h
   refine AW_seq <| AW_region <| ALW_val (AVal_assign (av := (AV.lit (.bool false))) rfl) <| ALW_nil <| AW_ret ?_
   show RetP _ _ _ _ _ _
   obtain rfl := Option.some.inj h
   exact RetP_1 (R1_E rfl rfl)
  ·replace h := cnd_f hb2 h
   refine AW_skip <| AW_seq <| AW_region <| ALW_val (AVal_loadA (k := 3) (o := 0) (m := 5) (la := (cAllocator x7.1)) Try.isAgg29 Try.sizeOf29 rfl rfl rfl rfl rfl) ?_
   refine bnd_elim h ?_; clear h; intro x12 hx12 h
   refine ALW_callN Try.func20 rfl (by kernel_rfl) (.fn 20) rfl rfl (allocator_Free_ok hx12) rfl <| ALW_val (AVal_move rfl) <| ALW_val (AVal_extract rfl rfl) <| ALW_val (AVal_extract rfl rfl) <| ALW_step (H' := [.dead, .dead, .box 29 (cAllocator x3.1), .box 29 (cAllocator x7.1), .box 29 ([(ls cI ([] : List Int))] ++ ([(li 0)] ++ ([(li 0)] ++ ([(ls cZone ([] : List Zone))] ++ ([(ls cCpuCache ([] : List CpuCache))] ++ [])))))]) (AStep_alloc (t := 29) (vs := [.slice none 0 0, .int .i64 0, .int .i64 0, .slice none 0 0, .slice none 0 0]) (cs := [.sl false [], .lit (.int .i64 0), .lit (.int .i64 0), .sl false [], .sl false []]) Try.zeroValue29 (by kernel_rfl) rfl ⟨SubF.nils, SubF.refl _, SubF.refl _, SubF.nils, SubF.nils, trivial⟩) <| ALW_act (H' := [.dead, .dead, .box 29 (cAllocator x3.1), .box 29 (cAllocator x7.1), .box 29 (cAllocator x12.1)]) (AAct_storeA (k := 4) (o := 0) (cs := ([(ls cI ([] : List Int))] ++ ([(li 0)] ++ ([(li 0)] ++ ([(ls cZone ([] : List Zone))] ++ ([(ls cCpuCache ([] : List CpuCache))] ++ [])))))) (la := (cAllocator x12.1)) Try.sizeOf29 rfl rfl rfl rfl) ?_
   refine ALW_val (AVal_assign (av := (li x12.2)) rfl) <| ALW_nil <| AW_seq <| AW_seq <| AW_region <| ALW_val (AVal_move (av := (li x12.2)) rfl) ?_
   refine ALW_val (AVal_neq rfl rfl) <| ALW_nil ?_
   refine AW_cond (!decide (x12.2 = 0)) rfl (fun hb3 => ?_) (fun hb3 => ?_)
   ·replace h := cnd_t hb3 h
    refine AW_seq <| AW_region <| ALW_val (AVal_assign (av := (AV.lit (.bool false))) rfl) <| ALW_nil <| AW_ret ?_
    show RetP _ _ _ _ _ _
    obtain rfl := Option.some.inj h
    exact RetP_1 (R1_E rfl rfl)
   ·replace h := cnd_f hb3 h
    refine AW_skip <| AW_seq <| AW_region <| ALW_val (AVal_loadA (k := 2) (o := 0) (m := 5) (la := (cAllocator x3.1)) Try.isAgg29 Try.sizeOf29 rfl rfl rfl rfl rfl) ?_
    refine bnd_elim h ?_; clear h; intro x13 hx13 h
    refine ALW_callN Try.func23 rfl (by kernel_rfl) (.fn 23) rfl rfl (allocator_AllocBlock_ok hx13) rfl <| ALW_val (AVal_move rfl) <| ALW_val (AVal_extract rfl rfl) <| ALW_val (AVal_extract rfl rfl) <| ALW_val (AVal_extract rfl rfl) <| ALW_step (H' := [.dead, .dead, .box 29 (cAllocator x3.1), .box 29 (cAllocator x7.1), .box 29 (cAllocator x12.1), .box 29 ([(ls cI ([] : List Int))] ++ ([(li 0)] ++ ([(li 0)] ++ ([(ls cZone ([] : List Zone))] ++ ([(ls cCpuCache ([] : List CpuCache))] ++ [])))))]) (AStep_alloc (t := 29) (vs := [.slice none 0 0, .int .i64 0, .int .i64 0, .slice none 0 0, .slice none 0 0]) (cs := [.sl false [], .lit (.int .i64 0), .lit (.int .i64 0), .sl false [], .sl false []]) Try.zeroValue29 (by kernel_rfl) rfl ⟨SubF.nils, SubF.refl _, SubF.refl _, SubF.nils, SubF.nils, trivial⟩) ?_
    refine ALW_act (H' := [.dead, .dead, .box 29 (cAllocator x3.1), .box 29 (cAllocator x7.1), .box 29 (cAllocator x12.1), .box 29 (cAllocator x13.1)]) (AAct_storeA (k := 5) (o := 0) (cs := ([(ls cI ([] : List Int))] ++ ([(li 0)] ++ ([(li 0)] ++ ([(ls cZone ([] : List Zone))] ++ ([(ls cCpuCache ([] : List CpuCache))] ++ [])))))) (la := (cAllocator x13.1)) Try.sizeOf29 rfl rfl rfl rfl) <| ALW_val (AVal_assign (av := (li x13.2.1)) rfl) <| ALW_val (AVal_assign (av := (li x13.2.2)) rfl) <| ALW_nil <| AW_seq ?_
    refine bnd_elim h ?_; clear h; intro x14 hx14 h
    refine bnd_elim h ?_; clear h; intro x15 hx15 h
    show AW _ _ _ _ _ _ [.dead, .dead, .box 29 (cAllocator x3.1), .box 29 (cAllocator x7.1), .box 29 (cAllocator x12.1), .box 29 (cAllocator x13.1)]
    refine AW_draw (n := 111) (m := 0) [.head 0 0, .head 0 0, .head 0 0, .head 0 0, .head 0 0, .head 0 0, .head 0 0, .head 0 0, .head 0 0, .head 0 0, .head 0 0, .head 0 0, .head 0 0] [] [(li x13.2.2), (AV.lit (.bool (decide (x13.2.2 = 0)))), (AV.lit (.bool (decide (x13.2.2 = 0)))), (bif decide (x13.2.2 = 0) then (li x13.2.1) else .lit undef), (bif decide (x13.2.2 = 0) then (AV.lit (.bool (decide (x13.2.1 = 8)))) else .lit undef), (AV.lit (.bool ((decide (x13.2.2 = 0)) && (decide (x13.2.1 = 8))))), (AV.lit (.bool ((decide (x13.2.2 = 0)) && (decide (x13.2.1 = 8))))), (bif (decide (x13.2.2 = 0)) && (decide (x13.2.1 = 8)) then (AV.agg (cAllocator x12.1)) else .lit undef), (bif (decide (x13.2.2 = 0)) && (decide (x13.2.1 = 8)) then (AV.agg (cAllocator x14)) else .lit undef), (bif (decide (x13.2.2 = 0)) && (decide (x13.2.1 = 8)) then (AV.agg (cAllocator x3.1)) else .lit undef), (bif (decide (x13.2.2 = 0)) && (decide (x13.2.1 = 8)) then (AV.lit (.bool x15)) else .lit undef), (AV.lit (.bool (((decide (x13.2.2 = 0)) && (decide (x13.2.1 = 8))) && x15))), (AV.lit (.bool (((decide (x13.2.2 = 0)) && (decide (x13.2.1 = 8))) && x15)))] [[.dead, .dead, .box 29 (cAllocator x3.1), .box 29 (cAllocator x7.1), .box 29 (cAllocator x12.1), .box 29 (cAllocator x13.1)]] (by kernel_rfl) (by kernel_rfl) ⟨?_, ?_, ?_, ?_, ?_, ?_, ?_, ?_, ?_, ?_, ?_, ?_, ?_, trivial⟩ ?_
    ·exact fun e s p => ALW1 (AVal_move (av := (li x13.2.2)) (s 2 rfl)) ⟨fun _ => rfl, rfl⟩
    ·exact fun e s p => ALW1 (AVal_eql (a := x13.2.2) (b := 0) p.1 rfl) ⟨fun _ => rfl, rfl⟩
    ·exact fun e s p => ALW1 (AVal_move (av := (AV.lit (.bool (decide (x13.2.2 = 0))))) p.1) ⟨fun _ => rfl, rfl⟩
    ·
     intro e4 hs4 hp4
     refine ALW_g1 (g := 101) (s := decide (x13.2.2 = 0)) rfl hp4.1 (fun hc38 => AVal.step (AVal_move (av := (li x13.2.1)) (hs4 9 rfl))) ?_
     exact ALW_nil ⟨fun _ => rfl, rfl⟩
    ·
     intro e5 hs5 hp5
     refine ALW_g1 (g := 101) (s := decide (x13.2.2 = 0)) rfl hp5.2.1 (fun hc39 => AVal.step (AVal_eql (a := x13.2.1) (b := 8) (gd_t hp5.1 hc39) rfl)) ?_
     exact ALW_nil ⟨fun _ => rfl, rfl⟩
    ·exact fun e s p => ALW1 (AVal_pick_and (s := decide (x13.2.2 = 0)) (q := decide (x13.2.1 = 8)) (j := .lit undef) p.1 p.2.1) ⟨fun _ => rfl, rfl⟩
    ·exact fun e s p => ALW1 (AVal_move (av := (AV.lit (.bool ((decide (x13.2.2 = 0)) && (decide (x13.2.1 = 8)))))) p.1) ⟨fun _ => rfl, rfl⟩
    ·
     intro e8 hs8 hp8
     refine ALW_g1 (g := 105) (s := (decide (x13.2.2 = 0)) && (decide (x13.2.1 = 8))) rfl hp8.1 (fun hc40 => AVal.step (AVal_loadA (k := 4) (o := 0) (m := 5) (la := (cAllocator x12.1)) Try.isAgg29 Try.sizeOf29 (hs8 7 rfl) rfl rfl rfl rfl)) ?_
     exact ALW_nil ⟨fun _ => rfl, rfl⟩
    ·
     intro e9 hs9 hp9
     refine ALW_callG1 (g := 105) (s := (decide (x13.2.2 = 0)) && (decide (x13.2.1 = 8))) (r' := (AV.agg (cAllocator x14))) rfl hp9.2.2.1 (fun hc41 => ⟨22, _, _, [], [(AV.agg (cAllocator x12.1))], [(AV.agg (cAllocator x12.1))], (AV.agg (cAllocator x14)), [], Try.func22, rfl, by kernel_rfl, (.fn 22), (lcons (gd_t hp9.1 hc41) rfl), ⟨View.nr rfl, trivial⟩, allocator_Drain_ok (cnd_t hc41 hx14), .inl rfl, rfl⟩) ?_
     exact ALW_nil ⟨fun _ => rfl, rfl⟩
    ·
     intro e10 hs10 hp10
     refine ALW_g1 (g := 105) (s := (decide (x13.2.2 = 0)) && (decide (x13.2.1 = 8))) rfl hp10.1 (fun hc42 => AVal.step (AVal_loadA (k := 2) (o := 0) (m := 5) (la := (cAllocator x3.1)) Try.isAgg29 Try.sizeOf29 (hs10 1 rfl) rfl rfl rfl rfl)) ?_
     exact ALW_nil ⟨fun _ => rfl, rfl⟩
    ·
     intro e11 hs11 hp11
     refine ALW_callG1 (g := 105) (s := (decide (x13.2.2 = 0)) && (decide (x13.2.1 = 8))) (r' := (AV.lit (.bool x15))) rfl hp11.2.2.2.1 (fun hc43 => ⟨11, _, _, [], [(AV.agg (cAllocator x14)), (AV.agg (cAllocator x3.1))], [(AV.agg (cAllocator x14)), (AV.agg (cAllocator x3.1))], (AV.lit (.bool x15)), [], Try.func11, rfl, by kernel_rfl, (.fn 11), (lcons (gd_t hp11.2.2.1 hc43) (lcons (gd_t hp11.2.1 hc43) rfl)), ⟨View.nr rfl, View.nr rfl, trivial⟩, ref17_Same_ok (cnd_t hc43 hx15), .inl rfl, rfl⟩) ?_
     exact ALW_nil ⟨fun _ => rfl, rfl⟩
    ·exact fun e s p => ALW1 (AVal_pick_and (s := (decide (x13.2.2 = 0)) && (decide (x13.2.1 = 8))) (q := x15) (j := .lit undef) p.1 p.2.1) ⟨fun _ => rfl, rfl⟩
    ·exact fun e s p => ALW1 (AVal_assign (av := (AV.lit (.bool (((decide (x13.2.2 = 0)) && (decide (x13.2.1 = 8))) && x15)))) p.2.2.2.2.2.2.2.2.2.2.2.2.2.1) ⟨fun _ => rfl, rfl⟩
    intro e14 hs14 hq1
    refine AW_rep (Rep_mk (l := [(0, (AV.lit (.bool (((decide (x13.2.2 = 0)) && (decide (x13.2.1 = 8))) && x15))))]) ⟨(hq1 12 (by decide) (by decide)), trivial⟩) <| AW_ret ?_
    show RetP _ _ _ _ _ _
    obtain rfl := Option.some.inj h
    exact RetP_1 (R1_E rfl rfl)
theorem ref17_inRange_ok {a_nodes : List Int} {a_batch : Int} {a_high : Int} {a_zones : Int} {r : Bool} (h : ref17_inRange a_nodes a_batch a_high a_zones = some r) : PFn Try.prog 28 [(ls cI a_nodes), (li a_batch), (li a_high), (li a_zones)] (AV.lit (.bool r)) := by
 refine PFn_enter Try.func28 rfl Try.ntmps28 Try.results28 rfl ?_
 unfold ref17_inRange at h
 refine AW_seq <| AW_region <| ALW_val (AVal_assign rfl) <| ALW_nil <| AW_seq <| AW_seq ?_
 refine AW_region <| ALW_val (AVal_move rfl) <| ALW_val (AVal_lenM Try.underlying22 rfl) <| ALW_val (AVal_lss rfl rfl) <| ALW_val (AVal_move rfl) <| ALW_g0 rfl rfl (fun hc1 => AVal.step (AVal_move rfl)) ?_
 refine ALW_g0 rfl rfl (fun hc2 => AVal.step (AVal_lenM Try.underlying22 (gd_t rfl hc2))) <| ALW_g0 rfl rfl (fun hc3 => AVal.step (AVal_gtr (gd_t rfl hc3) rfl)) <| ALW_val (AVal_pick_or rfl rfl) <| ALW_val (AVal_move rfl) <| ALW_g0 rfl rfl (fun hc4 => AVal.step (AVal_move rfl)) <| ALW_g0 rfl rfl (fun hc5 => AVal.step (AVal_lss (gd_t rfl hc5) rfl)) ?_
 refine ALW_val (AVal_pick_or rfl rfl) <| ALW_val (AVal_move rfl) <| ALW_g0 rfl rfl (fun hc6 => AVal.step (AVal_move rfl)) <| ALW_g0 rfl rfl (fun hc7 => AVal.step (AVal_move rfl)) <| ALW_g0 rfl rfl (fun hc8 => AVal.step (AVal_gtr (gd_t rfl hc8) (gd_t rfl hc8))) <| ALW_val (AVal_pick_or rfl rfl) ?_
 refine ALW_val (AVal_move rfl) <| ALW_g0 rfl rfl (fun hc9 => AVal.step (AVal_move rfl)) <| ALW_g0 rfl rfl (fun hc10 => AVal.step (AVal_gtr (gd_t rfl hc10) rfl)) <| ALW_val (AVal_pick_or rfl rfl) <| ALW_val (AVal_move rfl) <| ALW_g0 rfl rfl (fun hc11 => AVal.step (AVal_move rfl)) ?_
 refine ALW_g0 rfl rfl (fun hc12 => AVal.step (AVal_lss (gd_t rfl hc12) rfl)) <| ALW_val (AVal_pick_or rfl rfl) <| ALW_val (AVal_move rfl) <| ALW_g0 rfl rfl (fun hc13 => AVal.step (AVal_move rfl)) <| ALW_g0 rfl rfl (fun hc14 => AVal.step (AVal_gtr (gd_t rfl hc14) rfl)) <| ALW_val (AVal_pick_or rfl rfl) ?_
 refine ALW_nil ?_
 refine AW_cond (((((((decide ((a_nodes.length : Int) < 1)) || (decide (4 < (a_nodes.length : Int)))) || (decide (a_batch < 1))) || (decide (a_high < a_batch))) || (decide (64 < a_high))) || (decide (a_zones < 1))) || (decide (6 < a_zones))) rfl (fun hb1 => ?_) (fun hb1 => ?_)
 ·replace h := cnd_t hb1 h
  refine AW_seq <| AW_region <| ALW_val (AVal_assign rfl) <| ALW_nil <| AW_ret ?_
  show RetP _ _ _ _ _ _
  obtain rfl := Option.some.inj h
  exact RetP_1 (R1_E rfl rfl)
 ·replace h := cnd_f hb1 h
  refine AW_skip ?_
  refine AW_seqJ (fun e' H' => Rep 57 0 e' H' (mkE []) [] ∧ ref17_inRange_j0  = some r) ?_ ?_
  ·
   refine AW_seq <| AW_region <| ALW_val (AVal_assign rfl) <| ALW_nil <| AW_block <| AW_loop (σ := Nat × Int) (fun s => s.1) (fun s e' H' => match s with | (n0, i1) => Rep 57 0 e' H' (mkE [(0, (ls cI a_nodes)), (9, (li i1))]) [] ∧ ref17_inRange_l0 a_nodes n0 i1 = some r) (FUEL, 0) ⟨RepP [] rfl rfl (by kernel_rfl), h⟩ ?_
   clear h
   rintro ⟨n0, i1⟩ e' H' ⟨hrep, h⟩
   cases n0 with
   | zero => exact absurd (show (none : Option _) = some r from h) (by simp)
   | succ n0 =>
    replace h : ref17_inRange_b0 a_nodes (ref17_inRange_l0 a_nodes n0) i1 = some r := h
    unfold ref17_inRange_b0 at h
    refine AW_rep hrep ?_
    clear hrep
    refine AW_seq <| AW_seq <| AW_region <| ALW_val (AVal_move rfl) <| ALW_val (AVal_move rfl) <| ALW_val (AVal_lenM Try.underlying22 rfl) ?_
    refine ALW_val (AVal_lss rfl rfl) <| ALW_nil ?_
    refine AW_cond (decide (i1 < (a_nodes.length : Int))) rfl (fun hb2 => ?_) (fun hb2 => ?_)
    ·replace h := cnd_t hb2 h
     refine AW_skip <| AW_seq <| AW_block <| AW_seq <| AW_region <| ALW_val (AVal_move rfl) ?_
     refine ALW_val (AVal_move rfl) ?_
     have hb3 := (chk_some h).1
     replace h := (chk_some h).2
     refine ALW_val (AVal_idxSM Try.underlying22 Try.sizeOf3 (fun _ => rfl) rfl rfl hb3) <| ALW_val (AVal_loadR1 (o := 0) Try.isAgg3 rfl rfl) <| ALW_val (AVal_lss rfl rfl) <| ALW_val (AVal_move rfl) <| ALW_g0 rfl rfl (fun hc15 => AVal.step (AVal_move rfl)) <| ALW_g0 rfl rfl (fun hc16 => AVal.step (AVal_move rfl)) ?_
     refine ALW_g0 rfl rfl (fun hc17 => AVal.step (AVal_idxSM Try.underlying22 Try.sizeOf3 (fun _ => rfl) (gd_t rfl hc17) (gd_t rfl hc17) hb3)) <| ALW_g0 rfl rfl (fun hc18 => AVal.step (AVal_loadR1 (o := 0) Try.isAgg3 (gd_t rfl hc18) rfl)) <| ALW_g0 rfl rfl (fun hc19 => AVal.step (AVal_geq (gd_t rfl hc19) rfl)) <| ALW_val (AVal_pick_or rfl rfl) <| ALW_nil ?_
     refine AW_cond ((decide ((at_ a_nodes i1) < 0)) || (decide (4 ≤ (at_ a_nodes i1)))) rfl (fun hb4 => ?_) (fun hb4 => ?_)
     ·replace h := cnd_t hb4 h
      refine AW_seq <| AW_region <| ALW_val (AVal_assign rfl) <| ALW_nil <| AW_ret ?_
      show RetP _ _ _ _ _ _
      obtain rfl := Option.some.inj h
      exact RetP_1 (R1_E rfl rfl)
     ·replace h := cnd_f hb4 h
      refine AW_skip <| AW_region <| ALW_val (AVal_move rfl) ?_
      have hb5 := (chk_some h).1
      replace h := (chk_some h).2
      refine ALW_val (AVal_add rfl rfl hb5) <| ALW_val (AVal_assign rfl) <| ALW_nil ?_
      exact ⟨(n0, (i1 + 1)), Nat.lt_succ_self _, RepP [] rfl rfl (by kernel_rfl), h⟩
    ·replace h := cnd_f hb2 h
     refine AW_exit ?_
     exact ⟨RepP [] rfl rfl (by kernel_rfl), h⟩
  ·
   clear h
   rintro e' H' ⟨hrep, h⟩
   refine AW_rep hrep ?_
   clear hrep
   unfold ref17_inRange_j0 at h
   refine AW_seq <| AW_region <| ALW_val (AVal_assign rfl) <| ALW_nil <| AW_ret ?_
   show RetP _ _ _ _ _ _
   obtain rfl := Option.some.inj h
   exact RetP_1 (R1_E rfl rfl)
theorem ref12_InRange_ok {a_z : Zone} {r : Bool} (h : ref12_InRange a_z = some r) : PFn Try.prog 53 [(AV.agg (cZone a_z))] (AV.lit (.bool r)) := by
 refine PFn_enter Try.func53 rfl Try.ntmps53 Try.results53 rfl ?_
 unfold ref12_InRange at h
 refine AW_seq <| AW_region <| ALW_step (H' := [.box 46 (cZone a_z)]) (AStep_boxA (t := 46) rfl) <| ALW_val (AVal_assign rfl) <| ALW_nil <| AW_seq ?_
 refine AW_seq <| AW_region <| ALW_val (AVal_field Try.underlying46 rfl rfl Try.sizeOf3 rfl) <| ALW_val (AVal_load1 Try.isAgg3 rfl rfl rfl rfl) <| ALW_val (AVal_lss rfl rfl) <| ALW_val (AVal_move rfl) ?_
 refine ALW_g0 rfl rfl (fun hc1 => AVal.step (AVal_field Try.underlying46 rfl rfl Try.sizeOf3 rfl)) <| ALW_g0 rfl rfl (fun hc2 => AVal.step (AVal_load1 Try.isAgg3 (gd_t rfl hc2) rfl rfl rfl)) <| ALW_g0 rfl rfl (fun hc3 => AVal.step (AVal_geq (gd_t rfl hc3) rfl)) <| ALW_val (AVal_pick_or rfl rfl) <| ALW_val (AVal_move rfl) <| ALW_g0 rfl rfl (fun hc4 => AVal.step (AVal_field Try.underlying46 rfl rfl Try.sizeOf3 rfl)) ?_
 refine ALW_g0 rfl rfl (fun hc5 => AVal.step (AVal_load1 Try.isAgg3 (gd_t rfl hc5) rfl rfl rfl)) <| ALW_g0 rfl rfl (fun hc6 => AVal.step (AVal_neq (gd_t rfl hc6) rfl)) <| ALW_g0 rfl rfl (fun hc7 => AVal.step (AVal_move (gd_t rfl hc7))) <| ALW_gn1 (g := 15) (s' := !((decide (a_z.node < 0)) || (decide (4 ≤ a_z.node)))) (s := !decide (a_z.kind = 0)) rfl rfl (fun hc8 => AVal.step (AVal_field Try.underlying46 rfl rfl Try.sizeOf3 rfl)) <| ALW_gn1 (g := 15) (s' := !((decide (a_z.node < 0)) || (decide (4 ≤ a_z.node)))) (s := !decide (a_z.kind = 0)) rfl rfl (fun hc9 => AVal.step (AVal_load1 Try.isAgg3 (gd_t rfl hc9) rfl rfl rfl)) <| ALW_gn1 (g := 15) (s' := !((decide (a_z.node < 0)) || (decide (4 ≤ a_z.node)))) (s := !decide (a_z.kind = 0)) rfl rfl (fun hc10 => AVal.step (AVal_neq (gd_t rfl hc10) rfl)) ?_
 refine ALW_g0 rfl rfl (fun hc11 => AVal.step (AVal_pick_and (j := .lit undef) (gd_t rfl hc11) (gd_and (c := !((decide (a_z.node < 0)) || (decide (4 ≤ a_z.node)))) (d := !decide (a_z.kind = 0)) (a := (AV.lit (.bool (!decide (a_z.kind = 1))))) (j := .lit undef) rfl hc11))) <| ALW_val (AVal_pick_or rfl rfl) <| ALW_nil ?_
 refine AW_cond (((decide (a_z.node < 0)) || (decide (4 ≤ a_z.node))) || ((!decide (a_z.kind = 0)) && (!decide (a_z.kind = 1)))) rfl (fun hb1 => ?_) (fun hb1 => ?_)
 ·replace h := cnd_t hb1 h
  refine AW_seq <| AW_region <| ALW_val (AVal_assign rfl) <| ALW_nil <| AW_ret ?_
  show RetP _ _ _ _ _ _
  obtain rfl := Option.some.inj h
  exact RetP_1 (R1_E rfl rfl)
 ·replace h := cnd_f hb1 h
  refine AW_skip <| AW_seq <| AW_region <| ALW_val (AVal_field Try.underlying46 rfl rfl Try.sizeOf3 rfl) <| ALW_val (AVal_load1 Try.isAgg3 rfl rfl rfl rfl) <| ALW_val (AVal_geq rfl rfl) ?_
  refine ALW_val (AVal_move rfl) <| ALW_g1 rfl rfl (fun hc12 => AVal.step (AVal_field Try.underlying46 rfl rfl Try.sizeOf3 rfl)) <| ALW_g1 rfl rfl (fun hc13 => AVal.step (AVal_load1 Try.isAgg3 (gd_t rfl hc13) rfl rfl rfl)) <| ALW_g1 rfl rfl (fun hc14 => AVal.step (AVal_geq (gd_t rfl hc14) rfl)) <| ALW_val (AVal_pick_and (j := .lit undef) rfl rfl) <| ALW_val (AVal_move rfl) ?_
  refine ALW_g1 rfl rfl (fun hc15 => AVal.step (AVal_field Try.underlying46 rfl rfl Try.sizeOf3 rfl)) <| ALW_g1 rfl rfl (fun hc16 => AVal.step (AVal_load1 Try.isAgg3 (gd_t rfl hc16) rfl rfl rfl)) <| ALW_g1 rfl rfl (fun hc17 => AVal.step (AVal_leq (gd_t rfl hc17) rfl)) <| ALW_val (AVal_pick_and (j := .lit undef) rfl rfl) <| ALW_val (AVal_move rfl) <| ALW_g1 rfl rfl (fun hc18 => AVal.step (AVal_field Try.underlying46 rfl rfl Try.sizeOf3 rfl)) ?_
  refine ALW_g1 rfl rfl (fun hc19 => AVal.step (AVal_load1 Try.isAgg3 (gd_t rfl hc19) rfl rfl rfl)) <| ALW_g1 rfl rfl (fun hc20 => AVal.step (AVal_field Try.underlying46 rfl rfl Try.sizeOf3 rfl)) <| ALW_g1 rfl rfl (fun hc21 => AVal.step (AVal_load1 Try.isAgg3 (gd_t rfl hc21) rfl rfl rfl)) ?_
  have hb2 := (chk_some h).1
  replace h := (chk_some h).2
  refine ALW_g1 rfl rfl (fun hc22 => AVal.step (AVal_sub rfl (gd_t rfl hc22) (imp_t hb2 hc22))) <| ALW_g1 rfl rfl (fun hc23 => AVal.step (AVal_leq (gd_t rfl hc23) (gd_t rfl hc23))) <| ALW_val (AVal_pick_and (j := .lit undef) rfl rfl) <| ALW_val (AVal_move rfl) <| ALW_g1 rfl rfl (fun hc24 => AVal.step (AVal_field Try.underlying46 rfl rfl Try.sizeOf3 rfl)) <| ALW_g1 rfl rfl (fun hc25 => AVal.step (AVal_load1 Try.isAgg3 (gd_t rfl hc25) rfl rfl rfl)) ?_
  refine ALW_g1 rfl rfl (fun hc26 => AVal.step (AVal_geq (gd_t rfl hc26) rfl)) <| ALW_val (AVal_pick_and (j := .lit undef) rfl rfl) <| ALW_val (AVal_move rfl) <| ALW_g1 rfl rfl (fun hc27 => AVal.step (AVal_field Try.underlying46 rfl rfl Try.sizeOf3 rfl)) <| ALW_g1 rfl rfl (fun hc28 => AVal.step (AVal_load1 Try.isAgg3 (gd_t rfl hc28) rfl rfl rfl)) <| ALW_g1 rfl rfl (fun hc29 => AVal.step (AVal_field Try.underlying46 rfl rfl Try.sizeOf3 rfl)) ?_
  refine ALW_g1 rfl rfl (fun hc30 => AVal.step (AVal_load1 Try.isAgg3 (gd_t rfl hc30) rfl rfl rfl)) <| ALW_g1 rfl rfl (fun hc31 => AVal.step (AVal_leq (gd_t rfl hc31) (gd_t rfl hc31))) <| ALW_val (AVal_pick_and (j := .lit undef) rfl rfl) <| ALW_val (AVal_assign rfl) <| ALW_nil <| AW_ret ?_
  show RetP _ _ _ _ _ _
  obtain rfl := Option.some.inj h
  exact RetP_1 (R1_E rfl rfl)
theorem ref12_Block_ok {a_z : Zone} {a_frame : Int} {a_order : Int} {r : Bool} (h : ref12_Block a_z a_frame a_order = some r) : PFn Try.prog 86 [(AV.agg (cZone a_z)), (li a_frame), (li a_order)] (AV.lit (.bool r)) := by
 refine PFn_enter Try.func86 rfl Try.ntmps86 Try.results86 rfl ?_
 unfold ref12_Block at h
 refine AW_seq <| AW_region <| ALW_step (H' := [.box 46 (cZone a_z)]) (AStep_boxA (t := 46) rfl) <| ALW_val (AVal_assign rfl) <| ALW_nil <| AW_seq ?_
 refine AW_seq <| AW_region <| ALW_val (AVal_move rfl) <| ALW_val (AVal_lss rfl rfl) <| ALW_val (AVal_move rfl) <| ALW_g0 rfl rfl (fun hc1 => AVal.step (AVal_move rfl)) ?_
 refine ALW_g0 rfl rfl (fun hc2 => AVal.step (AVal_gtr (gd_t rfl hc2) rfl)) <| ALW_val (AVal_pick_or rfl rfl) <| ALW_val (AVal_move rfl) <| ALW_g0 rfl rfl (fun hc3 => AVal.step (AVal_move rfl)) <| ALW_g0 rfl rfl (fun hc4 => AVal.step (AVal_field Try.underlying46 rfl rfl Try.sizeOf3 rfl)) <| ALW_g0 rfl rfl (fun hc5 => AVal.step (AVal_load1 Try.isAgg3 (gd_t rfl hc5) rfl rfl rfl)) ?_
 refine ALW_g0 rfl rfl (fun hc6 => AVal.step (AVal_lss (gd_t rfl hc6) (gd_t rfl hc6))) <| ALW_val (AVal_pick_or rfl rfl) <| ALW_val (AVal_move rfl) <| ALW_g0 rfl rfl (fun hc7 => AVal.step (AVal_move rfl)) <| ALW_g0 rfl rfl (fun hc8 => AVal.step (AVal_field Try.underlying46 rfl rfl Try.sizeOf3 rfl)) <| ALW_g0 rfl rfl (fun hc9 => AVal.step (AVal_load1 Try.isAgg3 (gd_t rfl hc9) rfl rfl rfl)) ?_
 refine ALW_g0 rfl rfl (fun hc10 => AVal.step (AVal_field Try.underlying46 rfl rfl Try.sizeOf3 rfl)) <| ALW_g0 rfl rfl (fun hc11 => AVal.step (AVal_load1 Try.isAgg3 (gd_t rfl hc11) rfl rfl rfl)) ?_
 have hb1 := (chk_some h).1
 replace h := (chk_some h).2
 refine ALW_g0 rfl rfl (fun hc12 => AVal.step (AVal_add (gd_t rfl hc12) (gd_t rfl hc12) (imp_t hb1 hc12))) <| ALW_g0 rfl rfl (fun hc13 => AVal.step (AVal_geq (gd_t rfl hc13) (gd_t rfl hc13))) <| ALW_val (AVal_pick_or rfl rfl) <| ALW_nil ?_
 refine AW_cond ((((decide (a_order < 0)) || (decide (4 < a_order))) || (decide (a_frame < a_z.start))) || (decide ((a_z.start + a_z.count) ≤ a_frame))) rfl (fun hb2 => ?_) (fun hb2 => ?_)
 ·replace h := cnd_t hb2 h
  refine AW_seq <| AW_region <| ALW_val (AVal_assign rfl) <| ALW_nil <| AW_ret ?_
  show RetP _ _ _ _ _ _
  obtain rfl := Option.some.inj h
  exact RetP_1 (R1_E rfl rfl)
 ·replace h := cnd_f hb2 h
  refine AW_skip <| AW_seq <| AW_region <| ALW_val (AVal_move rfl) <| ALW_val (AVal_move rfl) ?_
  have hb3 := (chk_some h).1
  replace h := (chk_some h).2
  refine ALW_val (AVal_conv (k' := .u64) (a := a_order) Try.underlying3 Try.underlying47 rfl hb3) ?_
  have hb4 := (chk_some h).1
  replace h := (chk_some h).2
  have hb5 := (chk_some h).1
  replace h := (chk_some h).2
  refine ALW_val (AVal_shl (a := 1) (b := a_order) rfl rfl hb4 hb5) ?_
  have hb6 := (chk_some h).1
  replace h := (chk_some h).2
  refine ALW_val (AVal_rem (k := .i64) (a := a_frame) (b := (1 : Int) * 2 ^ a_order.toNat) rfl rfl hb6) <| ALW_val (AVal_eql rfl rfl) <| ALW_val (AVal_move rfl) <| ALW_g1 rfl rfl (fun hc14 => AVal.step (AVal_move rfl)) <| ALW_g1 rfl rfl (fun hc15 => AVal.step (AVal_move rfl)) <| ALW_g1 rfl rfl (fun hc16 => AVal.step (AVal_conv (k' := .u64) (a := a_order) Try.underlying3 Try.underlying47 (gd_t rfl hc16) hb3)) ?_
  refine ALW_g1 rfl rfl (fun hc17 => AVal.step (AVal_shl (a := 1) (b := a_order) rfl (gd_t rfl hc17) hb4 hb5)) ?_
  have hb7 := (chk_some h).1
  replace h := (chk_some h).2
  refine ALW_g1 rfl rfl (fun hc18 => AVal.step (AVal_add (gd_t rfl hc18) (gd_t rfl hc18) (imp_t hb7 hc18))) <| ALW_g1 rfl rfl (fun hc19 => AVal.step (AVal_field Try.underlying46 rfl rfl Try.sizeOf3 rfl)) <| ALW_g1 rfl rfl (fun hc20 => AVal.step (AVal_load1 Try.isAgg3 (gd_t rfl hc20) rfl rfl rfl)) <| ALW_g1 rfl rfl (fun hc21 => AVal.step (AVal_field Try.underlying46 rfl rfl Try.sizeOf3 rfl)) <| ALW_g1 rfl rfl (fun hc22 => AVal.step (AVal_load1 Try.isAgg3 (gd_t rfl hc22) rfl rfl rfl)) ?_
  have hb8 := (chk_some h).1
  replace h := (chk_some h).2
  refine ALW_g1 rfl rfl (fun hc23 => AVal.step (AVal_add (gd_t rfl hc23) (gd_t rfl hc23) (imp_t hb8 hc23))) <| ALW_g1 rfl rfl (fun hc24 => AVal.step (AVal_leq (gd_t rfl hc24) (gd_t rfl hc24))) <| ALW_val (AVal_pick_and (j := .lit undef) rfl rfl) <| ALW_val (AVal_assign rfl) <| ALW_nil <| AW_ret ?_
  show RetP _ _ _ _ _ _
  obtain rfl := Option.some.inj h
  exact RetP_1 (R1_E rfl rfl)
theorem ref12_all_ok {a_s : List Int} {a_frame : Int} {a_order : Int} {r : Bool} (h : ref12_all a_s a_frame a_order = some r) : PFn Try.prog 87 [(ls cI a_s), (li a_frame), (li a_order)] (AV.lit (.bool r)) := by
 refine PFn_enter Try.func87 rfl Try.ntmps87 Try.results87 rfl ?_
 unfold ref12_all at h
 refine AW_seq <| AW_region <| ALW_val (AVal_assign rfl) <| ALW_nil ?_
 refine AW_seqJ (fun e' H' => Rep 23 0 e' H' (mkE []) [] ∧ ref12_all_j0  = some r) ?_ ?_
 ·
  refine AW_seq <| AW_region <| ALW_val (AVal_move rfl) <| ALW_val (AVal_assign rfl) <| ALW_nil <| AW_block ?_
  refine AW_loop (σ := Nat × Int) (fun s => s.1) (fun s e' H' => match s with | (n0, i1) => Rep 23 0 e' H' (mkE [(0, (ls cI a_s)), (1, (li a_frame)), (2, (li a_order)), (7, (li i1))]) [] ∧ ref12_all_l0 a_s a_frame a_order n0 i1 = some r) (FUEL, a_frame) ⟨RepP [] rfl rfl (by kernel_rfl), h⟩ ?_
  clear h
  rintro ⟨n0, i1⟩ e' H' ⟨hrep, h⟩
  cases n0 with
  | zero => exact absurd (show (none : Option _) = some r from h) (by simp)
  | succ n0 =>
   replace h : ref12_all_b0 a_s a_frame a_order (ref12_all_l0 a_s a_frame a_order n0) i1 = some r := h
   unfold ref12_all_b0 at h
   refine AW_rep hrep ?_
   clear hrep
   refine AW_seq <| AW_seq <| AW_region <| ALW_val (AVal_move rfl) <| ALW_val (AVal_move rfl) <| ALW_val (AVal_move rfl) ?_
   have hb1 := (chk_some h).1
   replace h := (chk_some h).2
   refine ALW_val (AVal_conv (k' := .u64) (a := a_order) Try.underlying3 Try.underlying47 rfl hb1) ?_
   have hb2 := (chk_some h).1
   replace h := (chk_some h).2
   have hb3 := (chk_some h).1
   replace h := (chk_some h).2
   refine ALW_val (AVal_shl (a := 1) (b := a_order) rfl rfl hb2 hb3) ?_
   have hb4 := (chk_some h).1
   replace h := (chk_some h).2
   refine ALW_val (AVal_add rfl rfl hb4) <| ALW_val (AVal_lss rfl rfl) <| ALW_nil ?_
   refine AW_cond (decide (i1 < (a_frame + ((1 : Int) * 2 ^ a_order.toNat)))) rfl (fun hb5 => ?_) (fun hb5 => ?_)
   ·replace h := cnd_t hb5 h
    refine AW_skip <| AW_seq <| AW_block <| AW_seq <| AW_region <| ALW_val (AVal_move rfl) ?_
    refine ALW_val (AVal_move rfl) ?_
    have hb6 := (chk_some h).1
    replace h := (chk_some h).2
    refine ALW_val (AVal_idxSM Try.underlying22 Try.sizeOf3 (fun _ => rfl) rfl rfl hb6) <| ALW_val (AVal_loadR1 (o := 0) Try.isAgg3 rfl rfl) <| ALW_val (AVal_eql rfl rfl) <| ALW_nil ?_
    refine AW_cond (decide ((at_ a_s i1) = 0)) rfl (fun hb7 => ?_) (fun hb7 => ?_)
    ·replace h := cnd_t hb7 h
     refine AW_seq <| AW_region <| ALW_val (AVal_assign rfl) <| ALW_nil <| AW_ret ?_
     show RetP _ _ _ _ _ _
     obtain rfl := Option.some.inj h
     exact RetP_1 (R1_E rfl rfl)
    ·replace h := cnd_f hb7 h
     refine AW_skip <| AW_region <| ALW_val (AVal_move rfl) ?_
     have hb8 := (chk_some h).1
     replace h := (chk_some h).2
     refine ALW_val (AVal_add rfl rfl hb8) <| ALW_val (AVal_assign rfl) <| ALW_nil ?_
     exact ⟨(n0, (i1 + 1)), Nat.lt_succ_self _, RepP [] rfl rfl (by kernel_rfl), h⟩
   ·replace h := cnd_f hb5 h
    refine AW_exit ?_
    exact ⟨RepP [] rfl rfl (by kernel_rfl), h⟩
 ·
  clear h
  rintro e' H' ⟨hrep, h⟩
  refine AW_rep hrep ?_
  clear hrep
  unfold ref12_all_j0 at h
  refine AW_seq <| AW_region <| ALW_val (AVal_assign rfl) <| ALW_nil <| AW_ret ?_
  show RetP _ _ _ _ _ _
  obtain rfl := Option.some.inj h
  exact RetP_1 (R1_E rfl rfl)
theorem ref12_with_ok {a_p0 : Zone} {a_p1 : List Int} {r : Zone} (h : ref12_with a_p0 a_p1 = some r) : PFn Try.prog 54 [(AV.agg (cZone a_p0)), (ls cI a_p1)] (AV.agg (cZone r)) := by
 refine PFn_enter Try.func54 rfl Try.ntmps54 Try.results54 rfl ?_
 unfold ref12_with at h
 refine AW_seq <| AW_region <| ALW_step (H' := [.box 46 (cZone a_p0)]) (AStep_boxA (t := 46) rfl) <| ALW_step (H' := [.box 46 (cZone a_p0), .box 46 ([(li 0)] ++ ([(li 0)] ++ ([(li 0)] ++ ([(li 0)] ++ ([(li 0)] ++ ((cA 5 (eS cI) ([] : List Int) (List.replicate 5 ([] : List Int))) ++ []))))))]) (AStep_alloc (t := 46) (vs := [.int .i64 0, .int .i64 0, .int .i64 0, .int .i64 0, .int .i64 0, .slice none 0 0, .slice none 0 0, .slice none 0 0, .slice none 0 0, .slice none 0 0]) (cs := [.lit (.int .i64 0), .lit (.int .i64 0), .lit (.int .i64 0), .lit (.int .i64 0), .lit (.int .i64 0), .sl false [], .sl false [], .sl false [], .sl false [], .sl false []]) Try.zeroValue46 (by kernel_rfl) rfl ⟨SubF.refl _, SubF.refl _, SubF.refl _, SubF.refl _, SubF.refl _, SubF.nils, SubF.nils, SubF.nils, SubF.nils, SubF.nils, trivial⟩) <| ALW_nil <| AW_seq ?_
 refine AW_region <| ALW_val (AVal_field Try.underlying46 rfl rfl Try.sizeOf3 rfl) <| ALW_val (AVal_load1 Try.isAgg3 rfl rfl rfl rfl) <| ALW_val (AVal_field Try.underlying46 rfl rfl Try.sizeOf3 rfl) <| ALW_val (AVal_load1 Try.isAgg3 rfl rfl rfl rfl) <| ALW_val (AVal_field Try.underlying46 rfl rfl Try.sizeOf3 rfl) ?_
 refine ALW_val (AVal_load1 Try.isAgg3 rfl rfl rfl rfl) <| ALW_val (AVal_field Try.underlying46 rfl rfl Try.sizeOf3 rfl) <| ALW_val (AVal_load1 Try.isAgg3 rfl rfl rfl rfl) <| ALW_val (AVal_field Try.underlying46 rfl rfl Try.sizeOf3 rfl) <| ALW_val (AVal_load1 Try.isAgg3 rfl rfl rfl rfl) <| ALW_val (AVal_build (pl := [(0, 1), (1, 1), (2, 1), (3, 1), (4, 1), (5, 5)]) (zs := [.int .i64 0, .int .i64 0, .int .i64 0, .int .i64 0, .int .i64 0, .slice none 0 0, .slice none 0 0, .slice none 0 0, .slice none 0 0, .slice none 0 0]) (zc := [.lit (.int .i64 0), .lit (.int .i64 0), .lit (.int .i64 0), .lit (.int .i64 0), .lit (.int .i64 0), .osl 3 1 [], .osl 3 1 [], .osl 3 1 [], .osl 3 1 [], .osl 3 1 []]) (res := ([(li a_p0.node)] ++ ([(li a_p0.kind)] ++ ([(li a_p0.start)] ++ ([(li a_p0.count)] ++ ([(li a_p0.min)] ++ ((cM 5 3 (5 : Int) (List.replicate 5 ([] : List Int))) ++ []))))))) (fun _ => by kernel_rfl) rfl (⟨SubF.refl _, ⟨SubF.refl _, ⟨SubF.refl _, ⟨SubF.refl _, ⟨SubF.refl _, ⟨SubF.nilo, ⟨SubF.nilo, ⟨SubF.nilo, ⟨SubF.nilo, ⟨SubF.nilo, trivial⟩⟩⟩⟩⟩⟩⟩⟩⟩⟩) ⟨(li a_p0.node), 0, 1, rfl, rfl, rfl, rfl, rfl, ⟨(li a_p0.kind), 1, 1, rfl, rfl, rfl, rfl, rfl, ⟨(li a_p0.start), 2, 1, rfl, rfl, rfl, rfl, rfl, ⟨(li a_p0.count), 3, 1, rfl, rfl, rfl, rfl, rfl, ⟨(li a_p0.min), 4, 1, rfl, rfl, rfl, rfl, rfl, (by exact SubL.refl _)⟩⟩⟩⟩⟩) ?_
 refine ALW_step (H' := [.box 46 (cZone a_p0), .box 46 ([(li 0)] ++ ([(li 0)] ++ ([(li 0)] ++ ([(li 0)] ++ ([(li 0)] ++ ((cA 5 (eS cI) ([] : List Int) (List.replicate 5 ([] : List Int))) ++ [])))))), .box 46 ([(li 0)] ++ ([(li 0)] ++ ([(li 0)] ++ ([(li 0)] ++ ([(li 0)] ++ ((cA 5 (eS cI) ([] : List Int) (List.replicate 5 ([] : List Int))) ++ []))))))]) (AStep_alloc (t := 46) (vs := [.int .i64 0, .int .i64 0, .int .i64 0, .int .i64 0, .int .i64 0, .slice none 0 0, .slice none 0 0, .slice none 0 0, .slice none 0 0, .slice none 0 0]) (cs := [.lit (.int .i64 0), .lit (.int .i64 0), .lit (.int .i64 0), .lit (.int .i64 0), .lit (.int .i64 0), .sl false [], .sl false [], .sl false [], .sl false [], .sl false []]) Try.zeroValue46 (by kernel_rfl) rfl ⟨SubF.refl _, SubF.refl _, SubF.refl _, SubF.refl _, SubF.refl _, SubF.nils, SubF.nils, SubF.nils, SubF.nils, SubF.nils, trivial⟩) <| ALW_act (H' := [.box 46 (cZone a_p0), .box 46 ([(li 0)] ++ ([(li 0)] ++ ([(li 0)] ++ ([(li 0)] ++ ([(li 0)] ++ ((cA 5 (eS cI) ([] : List Int) (List.replicate 5 ([] : List Int))) ++ [])))))), .box 46 ([(li a_p0.node)] ++ ([(li a_p0.kind)] ++ ([(li a_p0.start)] ++ ([(li a_p0.count)] ++ ([(li a_p0.min)] ++ ((cM 5 3 (5 : Int) (List.replicate 5 ([] : List Int))) ++ []))))))]) (AAct_storeA (k := 2) (o := 0) (cs := ([(li 0)] ++ ([(li 0)] ++ ([(li 0)] ++ ([(li 0)] ++ ([(li 0)] ++ ((cA 5 (eS cI) ([] : List Int) (List.replicate 5 ([] : List Int))) ++ []))))))) (la := ([(li a_p0.node)] ++ ([(li a_p0.kind)] ++ ([(li a_p0.start)] ++ ([(li a_p0.count)] ++ ([(li a_p0.min)] ++ ((cM 5 3 (5 : Int) (List.replicate 5 ([] : List Int))) ++ []))))))) Try.sizeOf46 rfl rfl rfl rfl) <| ALW_nil <| AW_seq <| AW_region <| ALW_val (AVal_move rfl) ?_
 refine ALW_val (AVal_lenM Try.underlying22 rfl) ?_
 have hb1 := (chk_some h).1
 replace h := (chk_some h).2
 refine ALW_makeM (f := cI) (a := (a_p1.length : Int)) (c := (a_p1.length : Int)) (d0 := 0) elem3 ⟨SubF.refl _, trivial⟩ rfl Try.underlying22 rfl rfl hb1 <| ALW_val (AVal_assign rfl) <| ALW_nil ?_
 refine AW_seqJ (fun e' H' => ∃ (l1 : List Int), Rep 87 0 e' H' (mkE [(2, (AV.ptr 0 0)), (4, (AV.ptr 1 0)), (5, (AV.ptr 2 0)), (6, (AV.hd 3))]) [.box 46 (cZone a_p0), .box 46 ([(li 0)] ++ ([(li 0)] ++ ([(li 0)] ++ ([(li 0)] ++ ([(li 0)] ++ ((cA 5 (eS cI) ([] : List Int) (List.replicate 5 ([] : List Int))) ++ [])))))), .box 46 ([(li a_p0.node)] ++ ([(li a_p0.kind)] ++ ([(li a_p0.start)] ++ ([(li a_p0.count)] ++ ([(li a_p0.min)] ++ ((cM 5 3 (5 : Int) (List.replicate 5 ([] : List Int))) ++ [])))))), .vec 3 1 (List.map cI l1)] ∧ ref12_with_j0 a_p0 l1 = some r) ?_ ?_
 ·
  refine AW_seq <| AW_region <| ALW_val (AVal_assign rfl) <| ALW_nil <| AW_block <| AW_loop (σ := Nat × Int × (List Int)) (fun s => s.1) (fun s e' H' => match s with | (n3, i4, l12) => Rep 87 0 e' H' (mkE [(1, (ls cI a_p1)), (2, (AV.ptr 0 0)), (4, (AV.ptr 1 0)), (5, (AV.ptr 2 0)), (6, (AV.hd 3)), (7, (li i4))]) [.box 46 (cZone a_p0), .box 46 ([(li 0)] ++ ([(li 0)] ++ ([(li 0)] ++ ([(li 0)] ++ ([(li 0)] ++ ((cA 5 (eS cI) ([] : List Int) (List.replicate 5 ([] : List Int))) ++ [])))))), .box 46 ([(li a_p0.node)] ++ ([(li a_p0.kind)] ++ ([(li a_p0.start)] ++ ([(li a_p0.count)] ++ ([(li a_p0.min)] ++ ((cM 5 3 (5 : Int) (List.replicate 5 ([] : List Int))) ++ [])))))), .vec 3 1 (List.map cI l12)] ∧ ref12_with_l3 a_p0 a_p1 n3 i4 l12 = some r) (FUEL, 0, (List.replicate (a_p1.length : Int).toNat 0)) ⟨RepP [0, 1, 2, 3] rfl rfl (by kernel_rfl), h⟩ ?_
  clear h
  rintro ⟨n3, i4, l12⟩ e' H' ⟨hrep, h⟩
  cases n3 with
  | zero => exact absurd (show (none : Option _) = some r from h) (by simp)
  | succ n3 =>
   replace h : ref12_with_b3 a_p0 a_p1 (ref12_with_l3 a_p0 a_p1 n3) i4 l12 = some r := h
   unfold ref12_with_b3 at h
   refine AW_rep hrep ?_
   clear hrep
   refine AW_seq <| AW_seq <| AW_region <| ALW_val (AVal_move rfl) <| ALW_val (AVal_move rfl) <| ALW_val (AVal_lenM Try.underlying22 rfl) ?_
   refine ALW_val (AVal_lss rfl rfl) <| ALW_nil ?_
   refine AW_cond (decide (i4 < (a_p1.length : Int))) rfl (fun hb18 => ?_) (fun hb18 => ?_)
   ·replace h := cnd_t hb18 h
    refine AW_skip <| AW_seq <| AW_block <| AW_region <| ALW_val (AVal_move rfl) <| ALW_val (AVal_move rfl) ?_
    refine ALW_val (AVal_move rfl) <| ALW_val (AVal_move rfl) ?_
    have hb19 := (chk_some h).1
    replace h := (chk_some h).2
    refine ALW_val (AVal_idxSM Try.underlying22 Try.sizeOf3 (fun _ => rfl) rfl rfl hb19) <| ALW_val (AVal_loadR1 (o := 0) Try.isAgg3 rfl rfl) ?_
    have hb20 := (chk_some h).1
    replace h := (chk_some h).2
    refine ALW_val (AVal_idxVM (f := cI) (l := l12) (i := i4) Try.underlying22 Try.sizeOf3 rfl rfl rfl hb20) <| ALW_act (H' := [.box 46 (cZone a_p0), .box 46 ([(li 0)] ++ ([(li 0)] ++ ([(li 0)] ++ ([(li 0)] ++ ([(li 0)] ++ ((cA 5 (eS cI) ([] : List Int) (List.replicate 5 ([] : List Int))) ++ [])))))), .box 46 ([(li a_p0.node)] ++ ([(li a_p0.kind)] ++ ([(li a_p0.start)] ++ ([(li a_p0.count)] ++ ([(li a_p0.min)] ++ ((cM 5 3 (5 : Int) (List.replicate 5 ([] : List Int))) ++ [])))))), .vec 3 1 (List.map cI (l12.set i4.toNat (at_ a_p1 i4)))]) (AAct_storeV1M (k := 3) (o := (i4.toNat * 1)) (f := cI) (l := l12) (i := i4) (c := 0) (a := (li (at_ a_p1 i4))) (z := at_ a_p1 i4) Try.sizeOf3 rfl rfl (by first | rfl | omega) hb20 rfl rfl rfl rfl rfl) <| ALW_nil <| AW_region <| ALW_val (AVal_move rfl) ?_
    have hb21 := (chk_some h).1
    replace h := (chk_some h).2
    refine ALW_val (AVal_add rfl rfl hb21) <| ALW_val (AVal_assign rfl) <| ALW_nil ?_
    exact ⟨(n3, (i4 + 1), (l12.set i4.toNat (at_ a_p1 i4))), Nat.lt_succ_self _, RepP [0, 1, 2, 3] rfl rfl (by kernel_rfl), h⟩
   ·replace h := cnd_f hb18 h
    refine AW_exit ?_
    exact ⟨l12, RepP [0, 1, 2, 3] rfl rfl (by kernel_rfl), h⟩
 ·
  clear h
  rintro e' H' ⟨l1, hrep, h⟩
  refine AW_rep hrep ?_
  clear hrep
  unfold ref12_with_j0 at h
  refine AW_seqJ (fun e' H' => ∃ (l2 : List (List Int)), Rep 87 0 e' H' (mkE [(4, (AV.ptr 0 0)), (5, (AV.ptr 1 0))]) [.box 46 ([(li 0)] ++ ([(li 0)] ++ ([(li 0)] ++ ([(li 0)] ++ ([(li 0)] ++ ((cA 5 (eS cI) ([] : List Int) (List.replicate 5 ([] : List Int))) ++ [])))))), .box 46 ([(li a_p0.node)] ++ ([(li a_p0.kind)] ++ ([(li a_p0.start)] ++ ([(li a_p0.count)] ++ ([(li a_p0.min)] ++ ((cM 5 3 (5 : Int) l2) ++ []))))))] ∧ ref12_with_j1 a_p0 l2 = some r) ?_ ?_
  ·
   refine AW_seq <| AW_region <| ALW_val (AVal_assign rfl) <| ALW_nil <| AW_block <| AW_loop (σ := Nat × Int × (List (List Int)) × (List Int)) (fun s => s.1) (fun s e' H' => match s with | (n0, i1, l3, l4) => Rep 87 0 e' H' (mkE [(2, (AV.ptr 0 0)), (4, (AV.ptr 1 0)), (5, (AV.ptr 2 0)), (6, (AV.hd 3)), (8, (li i1))]) [.box 46 (cZone a_p0), .box 46 ([(li 0)] ++ ([(li 0)] ++ ([(li 0)] ++ ([(li 0)] ++ ([(li 0)] ++ ((cA 5 (eS cI) ([] : List Int) (List.replicate 5 ([] : List Int))) ++ [])))))), .box 46 ([(li a_p0.node)] ++ ([(li a_p0.kind)] ++ ([(li a_p0.start)] ++ ([(li a_p0.count)] ++ ([(li a_p0.min)] ++ ((cM 5 3 (5 : Int) l3) ++ [])))))), .vec 3 1 (List.map cI l4)] ∧ ref12_with_l0 a_p0 n0 i1 l3 l4 = some r) (FUEL, 4, (List.replicate 5 ([] : List Int)), l1) ⟨RepP [0, 1, 2, 3] rfl rfl (by kernel_rfl), h⟩ ?_
   clear h
   rintro ⟨n0, i1, l3, l4⟩ e' H' ⟨hrep, h⟩
   cases n0 with
   | zero => exact absurd (show (none : Option _) = some r from h) (by simp)
   | succ n0 =>
    replace h : ref12_with_b0 a_p0 (ref12_with_l0 a_p0 n0) i1 l3 l4 = some r := h
    unfold ref12_with_b0 at h
    refine AW_rep hrep ?_
    clear hrep
    refine AW_seq <| AW_seq <| AW_region <| ALW_val (AVal_move rfl) <| ALW_val (AVal_geq rfl rfl) <| ALW_nil ?_
    refine AW_cond (decide (0 ≤ i1)) rfl (fun hb2 => ?_) (fun hb2 => ?_)
    ·replace h := cnd_t hb2 h
     refine AW_skip ?_
     refine AW_seqJ (fun e' H' => ∃ (l5 : List (List Int)) (l6 : List Int), Rep 87 0 e' H' (mkE [(2, (AV.ptr 0 0)), (4, (AV.ptr 1 0)), (5, (AV.ptr 2 0)), (6, (AV.hd 3)), (8, (li i1))]) [.box 46 (cZone a_p0), .box 46 ([(li 0)] ++ ([(li 0)] ++ ([(li 0)] ++ ([(li 0)] ++ ([(li 0)] ++ ((cA 5 (eS cI) ([] : List Int) (List.replicate 5 ([] : List Int))) ++ [])))))), .box 46 ([(li a_p0.node)] ++ ([(li a_p0.kind)] ++ ([(li a_p0.start)] ++ ([(li a_p0.count)] ++ ([(li a_p0.min)] ++ ((cM 5 3 (5 : Int) l5) ++ [])))))), .vec 3 1 (List.map cI l6)] ∧ ref12_with_j2 (ref12_with_l0 a_p0 n0) i1 l5 l6 = some r) ?_ ?_
     ·
      refine AW_block <| AW_seq <| AW_region <| ALW_val (AVal_field Try.underlying46 rfl rfl Try.sizeOf3 rfl) <| ALW_val (AVal_load1 Try.isAgg3 rfl rfl rfl rfl) <| ALW_val (AVal_assign rfl) ?_
      refine ALW_nil <| AW_block <| AW_loop (σ := Nat × Int × (List (List Int)) × (List Int)) (fun s => s.1) (fun s e' H' => match s with | (n1, i2, l7, l8) => Rep 87 0 e' H' (mkE [(2, (AV.ptr 0 0)), (4, (AV.ptr 1 0)), (5, (AV.ptr 2 0)), (6, (AV.hd 3)), (8, (li i1)), (9, (li i2))]) [.box 46 (cZone a_p0), .box 46 ([(li 0)] ++ ([(li 0)] ++ ([(li 0)] ++ ([(li 0)] ++ ([(li 0)] ++ ((cA 5 (eS cI) ([] : List Int) (List.replicate 5 ([] : List Int))) ++ [])))))), .box 46 ([(li a_p0.node)] ++ ([(li a_p0.kind)] ++ ([(li a_p0.start)] ++ ([(li a_p0.count)] ++ ([(li a_p0.min)] ++ ((cM 5 3 (5 : Int) l7) ++ [])))))), .vec 3 1 (List.map cI l8)] ∧ ref12_with_l1 (ref12_with_l0 a_p0 n0) a_p0 i1 n1 i2 l7 l8 = some r) (FUEL, a_p0.start, l3, l4) ⟨RepP [0, 1, 2, 3] rfl rfl (by kernel_rfl), h⟩ ?_
      clear h
      rintro ⟨n1, i2, l7, l8⟩ e' H' ⟨hrep, h⟩
      cases n1 with
      | zero => exact absurd (show (none : Option _) = some r from h) (by simp)
      | succ n1 =>
       replace h : ref12_with_b1 (ref12_with_l0 a_p0 n0) a_p0 i1 (ref12_with_l1 (ref12_with_l0 a_p0 n0) a_p0 i1 n1) i2 l7 l8 = some r := h
       unfold ref12_with_b1 at h
       refine AW_rep hrep ?_
       clear hrep
       refine AW_seq <| AW_seq <| AW_region <| ALW_val (AVal_move rfl) <| ALW_val (AVal_field Try.underlying46 rfl rfl Try.sizeOf3 rfl) <| ALW_val (AVal_load1 Try.isAgg3 rfl rfl rfl rfl) ?_
       refine ALW_val (AVal_field Try.underlying46 rfl rfl Try.sizeOf3 rfl) <| ALW_val (AVal_load1 Try.isAgg3 rfl rfl rfl rfl) ?_
       have hb4 := (chk_some h).1
       replace h := (chk_some h).2
       refine ALW_val (AVal_add rfl rfl hb4) <| ALW_val (AVal_lss rfl rfl) <| ALW_nil ?_
       refine AW_cond (decide (i2 < (a_p0.start + a_p0.count))) rfl (fun hb5 => ?_) (fun hb5 => ?_)
       ·replace h := cnd_t hb5 h
        refine AW_skip ?_
        refine AW_seqJ (fun e' H' => ∃ (l9 : List (List Int)) (l10 : List Int), Rep 87 0 e' H' (mkE [(2, (AV.ptr 0 0)), (4, (AV.ptr 1 0)), (5, (AV.ptr 2 0)), (6, (AV.hd 3)), (8, (li i1)), (9, (li i2))]) [.box 46 (cZone a_p0), .box 46 ([(li 0)] ++ ([(li 0)] ++ ([(li 0)] ++ ([(li 0)] ++ ([(li 0)] ++ ((cA 5 (eS cI) ([] : List Int) (List.replicate 5 ([] : List Int))) ++ [])))))), .box 46 ([(li a_p0.node)] ++ ([(li a_p0.kind)] ++ ([(li a_p0.start)] ++ ([(li a_p0.count)] ++ ([(li a_p0.min)] ++ ((cM 5 3 (5 : Int) l9) ++ [])))))), .vec 3 1 (List.map cI l10)] ∧ ref12_with_j3 (ref12_with_l1 (ref12_with_l0 a_p0 n0) a_p0 i1 n1) i2 l9 l10 = some r) ?_ ?_
        ·
         refine AW_block <| AW_seq <| AW_region <| ALW_val (AVal_loadA (k := 0) (o := 0) (m := 10) Try.isAgg46 Try.sizeOf46 rfl rfl rfl rfl rfl) <| ALW_val (AVal_move rfl) <| ALW_val (AVal_move rfl) ?_
         refine bnd_elim h ?_; clear h; intro x1 hx1 h
         refine ALW_callN Try.func86 rfl (by kernel_rfl) (.fn 86) rfl rfl (ref12_Block_ok hx1) rfl <| ALW_val (AVal_move rfl) <| ALW_g1 rfl rfl (fun hc1 => AVal.step (AVal_move rfl)) <| ALW_g1 rfl rfl (fun hc2 => AVal.step (AVal_move rfl)) <| ALW_g1 rfl rfl (fun hc3 => AVal.step (AVal_move rfl)) ?_
         refine bnd_elim h ?_; clear h; intro x2 hx2 h
         refine ALW_callG1 (g := 57) (s := x1) (r' := (AV.lit (.bool x2))) rfl rfl (fun hc4 => ⟨87, _, _, [], [(AV.hd 3), (li i2), (li i1)], [(ls cI l8), (li i2), (li i1)], (AV.lit (.bool x2)), [3], Try.func87, rfl, by kernel_rfl, (.fn 87), (lcons (gd_t rfl hc4) (lcons (gd_t rfl hc4) (lcons (gd_t rfl hc4) rfl))), ⟨View_hdM (fun _ => rfl) rfl rfl, View.nr rfl, View.nr rfl, trivial⟩, ref12_all_ok (cnd_t hc4 hx2), .inr trivial, rfl⟩) <| ALW_val (AVal_pick_and (j := .lit undef) rfl rfl) <| ALW_nil ?_
         refine AW_cond (x1 && x2) rfl (fun hb7 => ?_) (fun hb7 => ?_)
         ·replace h := cnd_t hb7 h
          refine AW_seq <| AW_region <| ALW_val (AVal_move rfl) <| ALW_val (AVal_move rfl) <| ALW_val (AVal_field Try.underlying46 rfl rfl Try.sizeOf44 rfl) ?_
          have hb8 := (chk_some h).1
          replace h := (chk_some h).2
          refine ALW_val (AVal_idxA (m := 5) (s := 1) (i := i1) (k := 2) (o := 5) Try.underlying44 Try.sizeOf22 rfl rfl hb8) ?_
          have hb9 := (chk_some h).1
          replace h := (chk_some h).2
          refine ALW_rep (Rep_openM (k := 2) (cs := ([(li a_p0.node)] ++ ([(li a_p0.kind)] ++ ([(li a_p0.start)] ++ ([(li a_p0.count)] ++ ([(li a_p0.min)] ++ ((cM 5 3 (5 : Int) l7) ++ []))))))) (hd := ([(li a_p0.node)] ++ [(li a_p0.kind)] ++ [(li a_p0.start)] ++ [(li a_p0.count)] ++ [(li a_p0.min)] ++ [])) (tl := ([])) (N := 5) (T := 3) (K := 5) (l := l7) (i := i1) rfl rfl hb8 hb9) <| ALW_val (AVal_loadM (k := 2) (o := (5 + i1.toNat * 1)) (cs := ([(li a_p0.node)] ++ ([(li a_p0.kind)] ++ ([(li a_p0.start)] ++ ([(li a_p0.count)] ++ ([(li a_p0.min)] ++ ((List.set (cM 5 3 (5 : Int) l7) i1.toNat (AV.hd 4)) ++ []))))))) (hd := ([(li a_p0.node)] ++ [(li a_p0.kind)] ++ [(li a_p0.start)] ++ [(li a_p0.count)] ++ [(li a_p0.min)] ++ [])) (tl := ([])) (s := (cM 5 3 (5 : Int) l7)) (i := i1) (j := 4) Try.isAgg22 rfl rfl rfl (congrArg (fun q => 5 + q) (Nat.mul_one _)) (blt_cM hb8)) <| ALW_val (AVal_move rfl) <| ALW_lit1 (a := (li i2)) elem3 Try.underlying22 rfl rfl rfl rfl ?_
          have hb10 := (chk_some h).1
          replace h := (chk_some h).2
          refine ALW_appendVM (f := cI) (k := 4) (j := 5) (l := l7.getD i1.toNat []) (l' := [i2]) elem3 (fun _ => rfl) Try.underlying22 rfl rfl rfl rfl hb10 <| ALW_val (AVal_field Try.underlying46 rfl rfl Try.sizeOf44 rfl) <| ALW_val (AVal_idxA (m := 5) (s := 1) (i := i1) (k := 2) (o := 5) Try.underlying44 Try.sizeOf22 rfl rfl hb8) <| ALW_act (H' := [.box 46 (cZone a_p0), .box 46 ([(li 0)] ++ ([(li 0)] ++ ([(li 0)] ++ ([(li 0)] ++ ([(li 0)] ++ ((cA 5 (eS cI) ([] : List Int) (List.replicate 5 ([] : List Int))) ++ [])))))), .box 46 ([(li a_p0.node)] ++ ([(li a_p0.kind)] ++ ([(li a_p0.start)] ++ ([(li a_p0.count)] ++ ([(li a_p0.min)] ++ ((List.set (cM 5 3 (5 : Int) l7) i1.toNat (AV.hd 6)) ++ [])))))), .vec 3 1 (List.map cI l8), .dead, .vec 3 1 (List.map cI [i2]), .vec 3 1 (List.map cI ((l7.getD i1.toNat []) ++ [i2]))]) (AAct_storeM2 (k := 2) (o := (5 + i1.toNat * 1)) (cs := ([(li a_p0.node)] ++ ([(li a_p0.kind)] ++ ([(li a_p0.start)] ++ ([(li a_p0.count)] ++ ([(li a_p0.min)] ++ ((List.set (cM 5 3 (5 : Int) l7) i1.toNat (AV.hd 4)) ++ []))))))) (hd := ([(li a_p0.node)] ++ [(li a_p0.kind)] ++ [(li a_p0.start)] ++ [(li a_p0.count)] ++ [(li a_p0.min)] ++ [])) (tl := ([])) (s := (cM 5 3 (5 : Int) l7)) (i := i1) (a := (AV.hd 6)) Try.sizeOf22 rfl rfl rfl (congrArg (fun q => 5 + q) (Nat.mul_one _)) (blt_cM hb8) rfl rfl) <| ALW_nil <| AW_seq ?_
          refine AW_region <| ALW_val (AVal_move rfl) <| ALW_val (AVal_assign rfl) <| ALW_nil <| AW_block <| AW_loop (σ := Nat × Int × (List Int)) (fun s => s.1) (fun s e' H' => match s with | (n2, i3, l11) => Rep 87 0 e' H' (mkE [(2, (AV.ptr 0 0)), (4, (AV.ptr 1 0)), (5, (AV.ptr 2 0)), (6, (AV.hd 3)), (8, (li i1)), (9, (li i2)), (10, (li i3))]) [.box 46 (cZone a_p0), .box 46 ([(li 0)] ++ ([(li 0)] ++ ([(li 0)] ++ ([(li 0)] ++ ([(li 0)] ++ ((cA 5 (eS cI) ([] : List Int) (List.replicate 5 ([] : List Int))) ++ [])))))), .box 46 ([(li a_p0.node)] ++ ([(li a_p0.kind)] ++ ([(li a_p0.start)] ++ ([(li a_p0.count)] ++ ([(li a_p0.min)] ++ ((cM 5 3 (5 : Int) (setA 5 [] l7 i1.toNat ((l7.getD i1.toNat []) ++ [i2]))) ++ [])))))), .vec 3 1 (List.map cI l11)] ∧ ref12_with_l2 (ref12_with_l1 (ref12_with_l0 a_p0 n0) a_p0 i1 n1) i1 i2 l7 n2 i3 l11 = some r) (FUEL, i2, l8) ⟨Rep.trans (Rep_closeM (j := 6) (l' := (l7.getD i1.toNat []) ++ [i2]) (k := 2) (cs := ([(li a_p0.node)] ++ ([(li a_p0.kind)] ++ ([(li a_p0.start)] ++ ([(li a_p0.count)] ++ ([(li a_p0.min)] ++ ((List.set (cM 5 3 (5 : Int) l7) i1.toNat (AV.hd 6)) ++ []))))))) (hd := ([(li a_p0.node)] ++ [(li a_p0.kind)] ++ [(li a_p0.start)] ++ [(li a_p0.count)] ++ [(li a_p0.min)] ++ [])) (tl := ([])) (N := 5) (T := 3) (K := 5) (l := l7) (i := i1) rfl rfl hb8 hb9 rfl rfl) (RepP [0, 1, 2, 3] (l := [(2, (AV.ptr 0 0)), (4, (AV.ptr 1 0)), (5, (AV.ptr 2 0)), (6, (AV.hd 3)), (8, (li i1)), (9, (li i2)), (10, (li i2))]) rfl rfl (by kernel_rfl)), h⟩ ?_
          clear h
          rintro ⟨n2, i3, l11⟩ e' H' ⟨hrep, h⟩
          cases n2 with
          | zero => exact absurd (show (none : Option _) = some r from h) (by simp)
          | succ n2 =>
           replace h : ref12_with_b2 (ref12_with_l1 (ref12_with_l0 a_p0 n0) a_p0 i1 n1) i1 i2 l7 (ref12_with_l2 (ref12_with_l1 (ref12_with_l0 a_p0 n0) a_p0 i1 n1) i1 i2 l7 n2) i3 l11 = some r := h
           unfold ref12_with_b2 at h
           refine AW_rep hrep ?_
           clear hrep
           refine AW_seq <| AW_seq <| AW_region <| ALW_val (AVal_move rfl) <| ALW_val (AVal_move rfl) <| ALW_val (AVal_move rfl) ?_
           have hb11 := (chk_some h).1
           replace h := (chk_some h).2
           refine ALW_val (AVal_conv (k' := .u64) (a := i1) Try.underlying3 Try.underlying47 rfl hb11) ?_
           have hb12 := (chk_some h).1
           replace h := (chk_some h).2
           have hb13 := (chk_some h).1
           replace h := (chk_some h).2
           refine ALW_val (AVal_shl (a := 1) (b := i1) rfl rfl hb12 hb13) ?_
           have hb14 := (chk_some h).1
           replace h := (chk_some h).2
           refine ALW_val (AVal_add rfl rfl hb14) <| ALW_val (AVal_lss rfl rfl) <| ALW_nil ?_
           refine AW_cond (decide (i3 < (i2 + ((1 : Int) * 2 ^ i1.toNat)))) rfl (fun hb15 => ?_) (fun hb15 => ?_)
           ·replace h := cnd_t hb15 h
            refine AW_skip <| AW_seq <| AW_block <| AW_region <| ALW_val (AVal_move rfl) <| ALW_val (AVal_move rfl) ?_
            have hb16 := (chk_some h).1
            replace h := (chk_some h).2
            refine ALW_val (AVal_idxVM (f := cI) (l := l11) (i := i3) Try.underlying22 Try.sizeOf3 rfl rfl rfl hb16) <| ALW_act (H' := [.box 46 (cZone a_p0), .box 46 ([(li 0)] ++ ([(li 0)] ++ ([(li 0)] ++ ([(li 0)] ++ ([(li 0)] ++ ((cA 5 (eS cI) ([] : List Int) (List.replicate 5 ([] : List Int))) ++ [])))))), .box 46 ([(li a_p0.node)] ++ ([(li a_p0.kind)] ++ ([(li a_p0.start)] ++ ([(li a_p0.count)] ++ ([(li a_p0.min)] ++ ((cM 5 3 (5 : Int) (setA 5 [] l7 i1.toNat ((l7.getD i1.toNat []) ++ [i2]))) ++ [])))))), .vec 3 1 (List.map cI (l11.set i3.toNat 0))]) (AAct_storeV1M (k := 3) (o := (i3.toNat * 1)) (f := cI) (l := l11) (i := i3) (c := 0) (a := (li 0)) (z := 0) Try.sizeOf3 rfl rfl (by first | rfl | omega) hb16 rfl rfl rfl rfl rfl) <| ALW_nil <| AW_region <| ALW_val (AVal_move rfl) ?_
            have hb17 := (chk_some h).1
            replace h := (chk_some h).2
            refine ALW_val (AVal_add rfl rfl hb17) <| ALW_val (AVal_assign rfl) <| ALW_nil ?_
            exact ⟨(n2, (i3 + 1), (l11.set i3.toNat 0)), Nat.lt_succ_self _, RepP [0, 1, 2, 3] rfl rfl (by kernel_rfl), h⟩
           ·replace h := cnd_f hb15 h
            refine AW_exit ?_
            exact ⟨(setA 5 [] l7 i1.toNat ((l7.getD i1.toNat []) ++ [i2])), l11, RepP [0, 1, 2, 3] rfl rfl (by kernel_rfl), h⟩
         ·replace h := cnd_f hb7 h
          refine AW_skip ?_
          exact ⟨l7, l8, RepP [0, 1, 2, 3] rfl rfl (by kernel_rfl), h⟩
        ·
         clear h
         rintro e' H' ⟨l9, l10, hrep, h⟩
         refine AW_rep hrep ?_
         clear hrep
         unfold ref12_with_j3 at h
         refine AW_region <| ALW_val (AVal_move rfl) ?_
         have hb6 := (chk_some h).1
         replace h := (chk_some h).2
         refine ALW_val (AVal_add rfl rfl hb6) <| ALW_val (AVal_assign rfl) <| ALW_nil ?_
         exact ⟨(n1, (i2 + 1), l9, l10), Nat.lt_succ_self _, RepP [0, 1, 2, 3] rfl rfl (by kernel_rfl), h⟩
       ·replace h := cnd_f hb5 h
        refine AW_exit ?_
        exact ⟨l7, l8, RepP [0, 1, 2, 3] rfl rfl (by kernel_rfl), h⟩
     ·
      clear h
      rintro e' H' ⟨l5, l6, hrep, h⟩
      refine AW_rep hrep ?_
      clear hrep
      unfold ref12_with_j2 at h
      refine AW_region <| ALW_val (AVal_move rfl) ?_
      have hb3 := (chk_some h).1
      replace h := (chk_some h).2
      refine ALW_val (AVal_sub rfl rfl hb3) <| ALW_val (AVal_assign rfl) <| ALW_nil ?_
      exact ⟨(n0, (i1 - 1), l5, l6), Nat.lt_succ_self _, RepP [0, 1, 2, 3] rfl rfl (by kernel_rfl), h⟩
    ·replace h := cnd_f hb2 h
     refine AW_exit ?_
     exact ⟨l3, RepP [1, 2] rfl rfl (by kernel_rfl), h⟩
  ·
   clear h
   rintro e' H' ⟨l2, hrep, h⟩
   refine AW_rep hrep ?_
   clear hrep
   unfold ref12_with_j1 at h
   refine AW_seq <| AW_region <| ALW_rep (Rep_frzM0 (k := 1) (cs := ([(li a_p0.node)] ++ ([(li a_p0.kind)] ++ ([(li a_p0.start)] ++ ([(li a_p0.count)] ++ ([(li a_p0.min)] ++ ((cM 5 3 (5 : Int) l2) ++ []))))))) (hd := ([(li a_p0.node)] ++ [(li a_p0.kind)] ++ [(li a_p0.start)] ++ [(li a_p0.count)] ++ [(li a_p0.min)] ++ [])) (tl := ([])) (N := 5) (T := 3) (K := 5) (l := l2) rfl rfl) <| ALW_val (AVal_loadA (k := 1) (o := 0) (m := 10) Try.isAgg46 Try.sizeOf46 rfl rfl rfl rfl rfl) <| ALW_act (H' := [.box 46 (cZone (⟨a_p0.node, a_p0.kind, a_p0.start, a_p0.count, a_p0.min, l2⟩ : Zone)), .box 46 ([(li a_p0.node)] ++ ([(li a_p0.kind)] ++ ([(li a_p0.start)] ++ ([(li a_p0.count)] ++ ([(li a_p0.min)] ++ ((cA 5 (eS cI) ([] : List Int) l2) ++ []))))))]) (AAct_storeA (k := 0) (o := 0) (cs := ([(li 0)] ++ ([(li 0)] ++ ([(li 0)] ++ ([(li 0)] ++ ([(li 0)] ++ ((cA 5 (eS cI) ([] : List Int) (List.replicate 5 ([] : List Int))) ++ []))))))) (la := (cZone (⟨a_p0.node, a_p0.kind, a_p0.start, a_p0.count, a_p0.min, l2⟩ : Zone))) Try.sizeOf46 rfl rfl rfl rfl) <| ALW_nil ?_
   refine AW_ret ?_
   show RetP _ _ _ _ _ _
   obtain rfl := Option.some.inj h
   exact RetP_1 (R1_A Try.isAgg46 Try.sizeOf46 rfl rfl rfl rfl)
theorem ref12_New_ok {a_node : Int} {a_kind : Int} {a_start : Int} {a_count : Int} {a_min : Int} {r : Zone × Int} (h : ref12_New a_node a_kind a_start a_count a_min = some r) : PFn Try.prog 29 [(li a_node), (li a_kind), (li a_start), (li a_count), (li a_min)] (AV.tup [(AV.agg (cZone r.1)), (li r.2)]) := by
 refine PFn_enter Try.func29 rfl Try.ntmps29 Try.results29 rfl ?_
 unfold ref12_New at h
 refine AW_seq <| AW_region <| ALW_step (H' := [.box 46 ([(li 0)] ++ ([(li 0)] ++ ([(li 0)] ++ ([(li 0)] ++ ([(li 0)] ++ ((cA 5 (eS cI) ([] : List Int) (List.replicate 5 ([] : List Int))) ++ []))))))]) (AStep_alloc (t := 46) (vs := [.int .i64 0, .int .i64 0, .int .i64 0, .int .i64 0, .int .i64 0, .slice none 0 0, .slice none 0 0, .slice none 0 0, .slice none 0 0, .slice none 0 0]) (cs := [.lit (.int .i64 0), .lit (.int .i64 0), .lit (.int .i64 0), .lit (.int .i64 0), .lit (.int .i64 0), .sl false [], .sl false [], .sl false [], .sl false [], .sl false []]) Try.zeroValue46 (by kernel_rfl) rfl ⟨SubF.refl _, SubF.refl _, SubF.refl _, SubF.refl _, SubF.refl _, SubF.nils, SubF.nils, SubF.nils, SubF.nils, SubF.nils, trivial⟩) <| ALW_val (AVal_assign rfl) <| ALW_nil <| AW_seq ?_
 refine AW_region <| ALW_val (AVal_move rfl) <| ALW_val (AVal_move rfl) <| ALW_val (AVal_move rfl) <| ALW_val (AVal_move rfl) <| ALW_val (AVal_move rfl) ?_
 refine ALW_val (AVal_build (pl := [(0, 1), (1, 1), (2, 1), (3, 1), (4, 1), (5, 5)]) (zs := [.int .i64 0, .int .i64 0, .int .i64 0, .int .i64 0, .int .i64 0, .slice none 0 0, .slice none 0 0, .slice none 0 0, .slice none 0 0, .slice none 0 0]) (zc := [.lit (.int .i64 0), .lit (.int .i64 0), .lit (.int .i64 0), .lit (.int .i64 0), .lit (.int .i64 0), .sl false [], .sl false [], .sl false [], .sl false [], .sl false []]) (res := (cZone (⟨a_node, a_kind, a_start, a_count, a_min, (List.replicate 5 ([] : List Int))⟩ : Zone))) (fun _ => by kernel_rfl) rfl (⟨SubF.refl _, ⟨SubF.refl _, ⟨SubF.refl _, ⟨SubF.refl _, ⟨SubF.refl _, ⟨SubF.nils, ⟨SubF.nils, ⟨SubF.nils, ⟨SubF.nils, ⟨SubF.nils, trivial⟩⟩⟩⟩⟩⟩⟩⟩⟩⟩) ⟨(li a_node), 0, 1, rfl, rfl, rfl, rfl, rfl, ⟨(li a_kind), 1, 1, rfl, rfl, rfl, rfl, rfl, ⟨(li a_start), 2, 1, rfl, rfl, rfl, rfl, rfl, ⟨(li a_count), 3, 1, rfl, rfl, rfl, rfl, rfl, ⟨(li a_min), 4, 1, rfl, rfl, rfl, rfl, rfl, (by exact SubL.refl _)⟩⟩⟩⟩⟩) <| ALW_step (H' := [.box 46 ([(li 0)] ++ ([(li 0)] ++ ([(li 0)] ++ ([(li 0)] ++ ([(li 0)] ++ ((cA 5 (eS cI) ([] : List Int) (List.replicate 5 ([] : List Int))) ++ [])))))), .box 46 ([(li 0)] ++ ([(li 0)] ++ ([(li 0)] ++ ([(li 0)] ++ ([(li 0)] ++ ((cA 5 (eS cI) ([] : List Int) (List.replicate 5 ([] : List Int))) ++ []))))))]) (AStep_alloc (t := 46) (vs := [.int .i64 0, .int .i64 0, .int .i64 0, .int .i64 0, .int .i64 0, .slice none 0 0, .slice none 0 0, .slice none 0 0, .slice none 0 0, .slice none 0 0]) (cs := [.lit (.int .i64 0), .lit (.int .i64 0), .lit (.int .i64 0), .lit (.int .i64 0), .lit (.int .i64 0), .sl false [], .sl false [], .sl false [], .sl false [], .sl false []]) Try.zeroValue46 (by kernel_rfl) rfl ⟨SubF.refl _, SubF.refl _, SubF.refl _, SubF.refl _, SubF.refl _, SubF.nils, SubF.nils, SubF.nils, SubF.nils, SubF.nils, trivial⟩) <| ALW_act (H' := [.box 46 ([(li 0)] ++ ([(li 0)] ++ ([(li 0)] ++ ([(li 0)] ++ ([(li 0)] ++ ((cA 5 (eS cI) ([] : List Int) (List.replicate 5 ([] : List Int))) ++ [])))))), .box 46 (cZone (⟨a_node, a_kind, a_start, a_count, a_min, (List.replicate 5 ([] : List Int))⟩ : Zone))]) (AAct_storeA (k := 1) (o := 0) (cs := ([(li 0)] ++ ([(li 0)] ++ ([(li 0)] ++ ([(li 0)] ++ ([(li 0)] ++ ((cA 5 (eS cI) ([] : List Int) (List.replicate 5 ([] : List Int))) ++ []))))))) (la := (cZone (⟨a_node, a_kind, a_start, a_count, a_min, (List.replicate 5 ([] : List Int))⟩ : Zone))) Try.sizeOf46 rfl rfl rfl rfl) <| ALW_nil <| AW_seq <| AW_seq ?_
 refine AW_region <| ALW_val (AVal_loadA (k := 1) (o := 0) (m := 10) Try.isAgg46 Try.sizeOf46 rfl rfl rfl rfl rfl) ?_
 refine bnd_elim h ?_; clear h; intro x1 hx1 h
 refine ALW_callN Try.func53 rfl (by kernel_rfl) (.fn 53) rfl rfl (ref12_InRange_ok hx1) rfl <| ALW_val (AVal_not (t := x1) rfl) <| ALW_nil ?_
 refine AW_cond (!x1) rfl (fun hb1 => ?_) (fun hb1 => ?_)
 ·replace h := cnd_t hb1 h
  refine AW_seq <| AW_region <| ALW_val (AVal_build (pl := [(0, 1), (1, 1), (2, 1), (3, 1), (4, 1), (5, 5)]) (zs := [.int .i64 0, .int .i64 0, .int .i64 0, .int .i64 0, .int .i64 0, .slice none 0 0, .slice none 0 0, .slice none 0 0, .slice none 0 0, .slice none 0 0]) (zc := [.lit (.int .i64 0), .lit (.int .i64 0), .lit (.int .i64 0), .lit (.int .i64 0), .lit (.int .i64 0), .sl false [], .sl false [], .sl false [], .sl false [], .sl false []]) (res := (cZone (⟨0, 0, 0, 0, 0, (List.replicate 5 ([] : List Int))⟩ : Zone))) (fun _ => by kernel_rfl) rfl (⟨SubF.refl _, ⟨SubF.refl _, ⟨SubF.refl _, ⟨SubF.refl _, ⟨SubF.refl _, ⟨SubF.nils, ⟨SubF.nils, ⟨SubF.nils, ⟨SubF.nils, ⟨SubF.nils, trivial⟩⟩⟩⟩⟩⟩⟩⟩⟩⟩) (by exact SubL.refl _)) <| ALW_act (H' := [.box 46 (cZone (⟨0, 0, 0, 0, 0, (List.replicate 5 ([] : List Int))⟩ : Zone)), .box 46 (cZone (⟨a_node, a_kind, a_start, a_count, a_min, (List.replicate 5 ([] : List Int))⟩ : Zone))]) (AAct_storeA (k := 0) (o := 0) (cs := ([(li 0)] ++ ([(li 0)] ++ ([(li 0)] ++ ([(li 0)] ++ ([(li 0)] ++ ((cA 5 (eS cI) ([] : List Int) (List.replicate 5 ([] : List Int))) ++ []))))))) (la := (cZone (⟨0, 0, 0, 0, 0, (List.replicate 5 ([] : List Int))⟩ : Zone))) Try.sizeOf46 rfl rfl rfl rfl) <| ALW_val (AVal_assign rfl) <| ALW_nil ?_
  refine AW_ret ?_
  show RetP _ _ _ _ _ _
  obtain rfl := Option.some.inj h
  exact RetP_2 (R1_A Try.isAgg46 Try.sizeOf46 rfl rfl rfl rfl) (R1_E rfl rfl) rfl
 ·replace h := cnd_f hb1 h
  refine AW_skip <| AW_seq <| AW_region ?_
  have hb2 := (chk_some h).1
  replace h := (chk_some h).2
  refine ALW_makeM (f := cI) (a := 256) (c := 256) (d0 := 0) elem3 ⟨SubF.refl _, trivial⟩ rfl Try.underlying22 rfl rfl hb2 <| ALW_val (AVal_assign rfl) <| ALW_nil ?_
  refine AW_seqJ (fun e' H' => ∃ (l1 : List Int), Rep 40 0 e' H' (mkE [(10, (AV.ptr 0 0)), (12, (AV.ptr 1 0)), (13, (AV.hd 2))]) [.box 46 ([(li 0)] ++ ([(li 0)] ++ ([(li 0)] ++ ([(li 0)] ++ ([(li 0)] ++ ((cA 5 (eS cI) ([] : List Int) (List.replicate 5 ([] : List Int))) ++ [])))))), .box 46 (cZone (⟨a_node, a_kind, a_start, a_count, a_min, (List.replicate 5 ([] : List Int))⟩ : Zone)), .vec 3 1 (List.map cI l1)] ∧ ref12_New_j0 a_node a_kind a_start a_count a_min l1 = some r) ?_ ?_
  ·
   refine AW_seq <| AW_region <| ALW_val (AVal_move rfl) <| ALW_val (AVal_assign rfl) <| ALW_nil <| AW_block ?_
   refine AW_loop (σ := Nat × Int × (List Int)) (fun s => s.1) (fun s e' H' => match s with | (n0, i1, l2) => Rep 40 0 e' H' (mkE [(2, (li a_start)), (3, (li a_count)), (10, (AV.ptr 0 0)), (12, (AV.ptr 1 0)), (13, (AV.hd 2)), (14, (li i1))]) [.box 46 ([(li 0)] ++ ([(li 0)] ++ ([(li 0)] ++ ([(li 0)] ++ ([(li 0)] ++ ((cA 5 (eS cI) ([] : List Int) (List.replicate 5 ([] : List Int))) ++ [])))))), .box 46 (cZone (⟨a_node, a_kind, a_start, a_count, a_min, (List.replicate 5 ([] : List Int))⟩ : Zone)), .vec 3 1 (List.map cI l2)] ∧ ref12_New_l0 a_node a_kind a_start a_count a_min n0 i1 l2 = some r) (FUEL, a_start, (List.replicate (256 : Int).toNat 0)) ⟨RepP [0, 1, 2] rfl rfl (by kernel_rfl), h⟩ ?_
   clear h
   rintro ⟨n0, i1, l2⟩ e' H' ⟨hrep, h⟩
   cases n0 with
   | zero => exact absurd (show (none : Option _) = some r from h) (by simp)
   | succ n0 =>
    replace h : ref12_New_b0 a_node a_kind a_start a_count a_min (ref12_New_l0 a_node a_kind a_start a_count a_min n0) i1 l2 = some r := h
    unfold ref12_New_b0 at h
    refine AW_rep hrep ?_
    clear hrep
    refine AW_seq <| AW_seq <| AW_region <| ALW_val (AVal_move rfl) <| ALW_val (AVal_move rfl) <| ALW_val (AVal_move rfl) ?_
    have hb3 := (chk_some h).1
    replace h := (chk_some h).2
    refine ALW_val (AVal_add rfl rfl hb3) <| ALW_val (AVal_lss rfl rfl) <| ALW_nil ?_
    refine AW_cond (decide (i1 < (a_start + a_count))) rfl (fun hb4 => ?_) (fun hb4 => ?_)
    ·replace h := cnd_t hb4 h
     refine AW_skip <| AW_seq <| AW_block <| AW_region <| ALW_val (AVal_move rfl) <| ALW_val (AVal_move rfl) ?_
     have hb5 := (chk_some h).1
     replace h := (chk_some h).2
     refine ALW_val (AVal_idxVM (f := cI) (l := l2) (i := i1) Try.underlying22 Try.sizeOf3 rfl rfl rfl hb5) <| ALW_act (H' := [.box 46 ([(li 0)] ++ ([(li 0)] ++ ([(li 0)] ++ ([(li 0)] ++ ([(li 0)] ++ ((cA 5 (eS cI) ([] : List Int) (List.replicate 5 ([] : List Int))) ++ [])))))), .box 46 (cZone (⟨a_node, a_kind, a_start, a_count, a_min, (List.replicate 5 ([] : List Int))⟩ : Zone)), .vec 3 1 (List.map cI (l2.set i1.toNat 1))]) (AAct_storeV1M (k := 2) (o := (i1.toNat * 1)) (f := cI) (l := l2) (i := i1) (c := 0) (a := (li 1)) (z := 1) Try.sizeOf3 rfl rfl (by first | rfl | omega) hb5 rfl rfl rfl rfl rfl) <| ALW_nil <| AW_region <| ALW_val (AVal_move rfl) ?_
     have hb6 := (chk_some h).1
     replace h := (chk_some h).2
     refine ALW_val (AVal_add rfl rfl hb6) <| ALW_val (AVal_assign rfl) <| ALW_nil ?_
     exact ⟨(n0, (i1 + 1), (l2.set i1.toNat 1)), Nat.lt_succ_self _, RepP [0, 1, 2] rfl rfl (by kernel_rfl), h⟩
    ·replace h := cnd_f hb4 h
     refine AW_exit ?_
     exact ⟨l2, RepP [0, 1, 2] rfl rfl (by kernel_rfl), h⟩
  ·
   clear h
   rintro e' H' ⟨l1, hrep, h⟩
   refine AW_rep hrep ?_
   clear hrep
   unfold ref12_New_j0 at h
   refine AW_seq <| AW_region <| ALW_val (AVal_loadA (k := 1) (o := 0) (m := 10) Try.isAgg46 Try.sizeOf46 rfl rfl rfl rfl rfl) <| ALW_val (AVal_move rfl) ?_
   refine bnd_elim h ?_; clear h; intro x2 hx2 h
   refine ALW_rep (Rep_frzL (j := 2) (ds := [13, 38]) (rows' := List.map cI l1) rfl (frzR_map (fun _ => rfl)) ⟨rfl, rfl, trivial⟩) ?_
   refine bnd_elim h ?_; clear h; intro x3 hx3 h
   refine ALW_callN Try.func54 rfl (by kernel_rfl) (.fn 54) rfl rfl (ref12_with_ok hx3) rfl <| ALW_act (H' := [.box 46 (cZone x3), .box 46 (cZone (⟨a_node, a_kind, a_start, a_count, a_min, (List.replicate 5 ([] : List Int))⟩ : Zone)), .dead]) (AAct_storeA (k := 0) (o := 0) (cs := ([(li 0)] ++ ([(li 0)] ++ ([(li 0)] ++ ([(li 0)] ++ ([(li 0)] ++ ((cA 5 (eS cI) ([] : List Int) (List.replicate 5 ([] : List Int))) ++ []))))))) (la := (cZone x3)) Try.sizeOf46 rfl rfl rfl rfl) <| ALW_val (AVal_assign rfl) <| ALW_nil <| AW_ret ?_
   show RetP _ _ _ _ _ _
   obtain rfl := Option.some.inj h
   exact RetP_2 (R1_A Try.isAgg46 Try.sizeOf46 rfl rfl rfl rfl) (R1_E rfl rfl) rfl
theorem ref17_New_ok {a_p0 : List Int} {a_p1 : Int} {a_p2 : Int} {a_p3 : List ZoneSpec} {r : Allocator × Int} (h : ref17_New a_p0 a_p1 a_p2 a_p3 = some r) : PFn Try.prog 10 [(ls cI a_p0), (li a_p1), (li a_p2), (ls cZoneSpec a_p3)] (AV.tup [(AV.agg (cAllocator r.1)), (li r.2)]) := by
 refine PFn_enter Try.func10 rfl Try.ntmps10 Try.results10 rfl ?_
 unfold ref17_New at h
 refine AW_seq <| AW_region <| ALW_step (H' := [.box 29 ([(ls cI ([] : List Int))] ++ ([(li 0)] ++ ([(li 0)] ++ ([(ls cZone ([] : List Zone))] ++ ([(ls cCpuCache ([] : List CpuCache))] ++ [])))))]) (AStep_alloc (t := 29) (vs := [.slice none 0 0, .int .i64 0, .int .i64 0, .slice none 0 0, .slice none 0 0]) (cs := [.sl false [], .lit (.int .i64 0), .lit (.int .i64 0), .sl false [], .sl false []]) Try.zeroValue29 (by kernel_rfl) rfl ⟨SubF.nils, SubF.refl _, SubF.refl _, SubF.nils, SubF.nils, trivial⟩) <| ALW_val (AVal_assign rfl) <| ALW_nil <| AW_seq ?_
 refine AW_seq <| AW_region <| ALW_val (AVal_move rfl) <| ALW_val (AVal_move rfl) <| ALW_val (AVal_move rfl) <| ALW_val (AVal_move rfl) ?_
 refine ALW_val (AVal_lenM Try.underlying24 rfl) ?_
 refine bnd_elim h ?_; clear h; intro x1 hx1 h
 refine ALW_callN Try.func28 rfl (by kernel_rfl) (.fn 28) rfl rfl (ref17_inRange_ok hx1) rfl <| ALW_val (AVal_not (t := x1) rfl) <| ALW_nil ?_
 refine AW_cond (!x1) rfl (fun hb1 => ?_) (fun hb1 => ?_)
 ·replace h := cnd_t hb1 h
  refine AW_seq <| AW_region <| ALW_val (AVal_build (pl := [(0, 1), (1, 1), (2, 1), (3, 1), (4, 1)]) (zs := [.slice none 0 0, .int .i64 0, .int .i64 0, .slice none 0 0, .slice none 0 0]) (zc := [.osl 3 1 [], .lit (.int .i64 0), .lit (.int .i64 0), .osl 46 10 [], .osl 50 1 []]) (res := ([AV.osl 3 1 (List.map cI ([] : List Int))] ++ ([(li 0)] ++ ([(li 0)] ++ ([AV.osl 46 10 (List.map cZone ([] : List Zone))] ++ ([AV.osl 50 1 (List.map cCpuCache ([] : List CpuCache))] ++ [])))))) (fun _ => by kernel_rfl) rfl (⟨SubF.nilo, ⟨SubF.refl _, ⟨SubF.refl _, ⟨SubF.nilo, ⟨SubF.nilo, trivial⟩⟩⟩⟩⟩) (by exact SubL.refl _)) <| ALW_act (H' := [.box 29 ([AV.osl 3 1 (List.map cI ([] : List Int))] ++ ([(li 0)] ++ ([(li 0)] ++ ([AV.osl 46 10 (List.map cZone ([] : List Zone))] ++ ([AV.osl 50 1 (List.map cCpuCache ([] : List CpuCache))] ++ [])))))]) (AAct_storeA (k := 0) (o := 0) (cs := ([(ls cI ([] : List Int))] ++ ([(li 0)] ++ ([(li 0)] ++ ([(ls cZone ([] : List Zone))] ++ ([(ls cCpuCache ([] : List CpuCache))] ++ [])))))) (la := ([AV.osl 3 1 (List.map cI ([] : List Int))] ++ ([(li 0)] ++ ([(li 0)] ++ ([AV.osl 46 10 (List.map cZone ([] : List Zone))] ++ ([AV.osl 50 1 (List.map cCpuCache ([] : List CpuCache))] ++ [])))))) Try.sizeOf29 rfl rfl rfl rfl) <| ALW_val (AVal_assign rfl) <| ALW_nil ?_
  refine AW_rep (Rep_frzC (k := 0) (o := 0) (rows' := List.map cI ([] : List Int)) rfl rfl (frzR_map (fun _ => rfl))) <| AW_rep (Rep_frzC (k := 0) (o := 3) (rows' := List.map cZone ([] : List Zone)) rfl rfl (frzR_map (fun _ => rfl))) <| AW_rep (Rep_frzC (k := 0) (o := 4) (rows' := List.map cCpuCache ([] : List CpuCache)) rfl rfl (frzR_map (fun _ => rfl))) <| AW_ret ?_
  show RetP _ _ _ _ _ _
  obtain rfl := Option.some.inj h
  exact RetP_2 (R1_A Try.isAgg29 Try.sizeOf29 rfl rfl rfl rfl) (R1_E rfl rfl) rfl
 ·replace h := cnd_f hb1 h
  refine AW_skip <| AW_seq <| AW_region <| ALW_val (AVal_move rfl) <| ALW_val (AVal_move rfl) <| ALW_val (AVal_build (pl := [(0, 1), (1, 1), (2, 1), (3, 1), (4, 1)]) (zs := [.slice none 0 0, .int .i64 0, .int .i64 0, .slice none 0 0, .slice none 0 0]) (zc := [.osl 3 1 [], .lit (.int .i64 0), .lit (.int .i64 0), .osl 46 10 [], .osl 50 1 []]) (res := ([AV.osl 3 1 (List.map cI ([] : List Int))] ++ ([(li a_p1)] ++ ([(li a_p2)] ++ ([AV.osl 46 10 (List.map cZone ([] : List Zone))] ++ ([AV.osl 50 1 (List.map cCpuCache ([] : List CpuCache))] ++ [])))))) (fun _ => by kernel_rfl) rfl (⟨SubF.nilo, ⟨SubF.refl _, ⟨SubF.refl _, ⟨SubF.nilo, ⟨SubF.nilo, trivial⟩⟩⟩⟩⟩) ⟨(li a_p1), 1, 1, rfl, rfl, rfl, rfl, rfl, ⟨(li a_p2), 2, 1, rfl, rfl, rfl, rfl, rfl, (by exact SubL.refl _)⟩⟩) ?_
  refine ALW_step (H' := [.box 29 ([(ls cI ([] : List Int))] ++ ([(li 0)] ++ ([(li 0)] ++ ([(ls cZone ([] : List Zone))] ++ ([(ls cCpuCache ([] : List CpuCache))] ++ []))))), .box 29 ([(ls cI ([] : List Int))] ++ ([(li 0)] ++ ([(li 0)] ++ ([(ls cZone ([] : List Zone))] ++ ([(ls cCpuCache ([] : List CpuCache))] ++ [])))))]) (AStep_alloc (t := 29) (vs := [.slice none 0 0, .int .i64 0, .int .i64 0, .slice none 0 0, .slice none 0 0]) (cs := [.sl false [], .lit (.int .i64 0), .lit (.int .i64 0), .sl false [], .sl false []]) Try.zeroValue29 (by kernel_rfl) rfl ⟨SubF.nils, SubF.refl _, SubF.refl _, SubF.nils, SubF.nils, trivial⟩) <| ALW_act (H' := [.box 29 ([(ls cI ([] : List Int))] ++ ([(li 0)] ++ ([(li 0)] ++ ([(ls cZone ([] : List Zone))] ++ ([(ls cCpuCache ([] : List CpuCache))] ++ []))))), .box 29 ([AV.osl 3 1 (List.map cI ([] : List Int))] ++ ([(li a_p1)] ++ ([(li a_p2)] ++ ([AV.osl 46 10 (List.map cZone ([] : List Zone))] ++ ([AV.osl 50 1 (List.map cCpuCache ([] : List CpuCache))] ++ [])))))]) (AAct_storeA (k := 1) (o := 0) (cs := ([(ls cI ([] : List Int))] ++ ([(li 0)] ++ ([(li 0)] ++ ([(ls cZone ([] : List Zone))] ++ ([(ls cCpuCache ([] : List CpuCache))] ++ [])))))) (la := ([AV.osl 3 1 (List.map cI ([] : List Int))] ++ ([(li a_p1)] ++ ([(li a_p2)] ++ ([AV.osl 46 10 (List.map cZone ([] : List Zone))] ++ ([AV.osl 50 1 (List.map cCpuCache ([] : List CpuCache))] ++ [])))))) Try.sizeOf29 rfl rfl rfl rfl) <| ALW_nil <| AW_seq <| AW_region <| ALW_val (AVal_field Try.underlying29 rfl rfl Try.sizeOf22 rfl) ?_
  refine ALW_rep (Rep_open (k := 1) (o := 0) (t' := 3) (sz := 1) (rows := List.map cI ([] : List Int)) rfl rfl) <| ALW_val (AVal_load1 Try.isAgg22 rfl rfl rfl rfl) <| ALW_val (AVal_move rfl) ?_
  have hb2 := (chk_some h).1
  replace h := (chk_some h).2
  refine ALW_appendM (f := cI) (k := 2) (l := ([] : List Int)) (l' := a_p0) elem3 (fun _ => rfl) Try.underlying22 rfl rfl rfl hb2 <| ALW_val (AVal_field Try.underlying29 rfl rfl Try.sizeOf22 rfl) <| ALW_act (H' := [.box 29 ([(ls cI ([] : List Int))] ++ ([(li 0)] ++ ([(li 0)] ++ ([(ls cZone ([] : List Zone))] ++ ([(ls cCpuCache ([] : List CpuCache))] ++ []))))), .box 29 ([AV.hd 3] ++ ([(li a_p1)] ++ ([(li a_p2)] ++ ([AV.osl 46 10 (List.map cZone ([] : List Zone))] ++ ([AV.osl 50 1 (List.map cCpuCache ([] : List CpuCache))] ++ []))))), .dead, .vec 3 1 (List.map cI (([] : List Int) ++ a_p0))]) (AAct_store1 (k := 1) (o := 0) (cs := ([AV.hd 2] ++ ([(li a_p1)] ++ ([(li a_p2)] ++ ([AV.osl 46 10 (List.map cZone ([] : List Zone))] ++ ([AV.osl 50 1 (List.map cCpuCache ([] : List CpuCache))] ++ [])))))) (a := (AV.hd 3)) Try.sizeOf22 rfl rfl rfl rfl rfl) <| ALW_nil <| AW_seq <| AW_region ?_
  refine ALW_val (AVal_assign rfl) <| ALW_nil ?_
  refine AW_seqJ (fun e' H' => ∃ (l1 : List Zone), Rep 96 0 e' H' (mkE [(0, (ls cI a_p0)), (3, (ls cZoneSpec a_p3)), (8, (AV.ptr 0 0)), (10, (AV.ptr 1 0))]) [.box 29 ([(ls cI ([] : List Int))] ++ ([(li 0)] ++ ([(li 0)] ++ ([(ls cZone ([] : List Zone))] ++ ([(ls cCpuCache ([] : List CpuCache))] ++ []))))), .box 29 ([AV.osl 3 1 (List.map cI (([] : List Int) ++ a_p0))] ++ ([(li a_p1)] ++ ([(li a_p2)] ++ ([AV.osl 46 10 (List.map cZone l1)] ++ ([AV.osl 50 1 (List.map cCpuCache ([] : List CpuCache))] ++ [])))))] ∧ ref17_New_j0 a_p0 a_p1 a_p2 a_p3 l1 = some r) ?_ ?_
  ·
   refine AW_seq <| AW_region <| ALW_val (AVal_assign rfl) <| ALW_nil <| AW_block <| AW_loop (σ := Nat × Int × Int × (List Zone)) (fun s => s.1) (fun s e' H' => match s with | (n1, i2, i3, l4) => Rep 96 0 e' H' (mkE [(0, (ls cI a_p0)), (3, (ls cZoneSpec a_p3)), (8, (AV.ptr 0 0)), (10, (AV.ptr 1 0)), (11, (li i2)), (12, (li i3))]) [.box 29 ([(ls cI ([] : List Int))] ++ ([(li 0)] ++ ([(li 0)] ++ ([(ls cZone ([] : List Zone))] ++ ([(ls cCpuCache ([] : List CpuCache))] ++ []))))), .box 29 ([AV.osl 3 1 (List.map cI (([] : List Int) ++ a_p0))] ++ ([(li a_p1)] ++ ([(li a_p2)] ++ ([AV.osl 46 10 (List.map cZone l4)] ++ ([AV.osl 50 1 (List.map cCpuCache ([] : List CpuCache))] ++ [])))))] ∧ ref17_New_l1 a_p0 a_p1 a_p2 a_p3 n1 i2 i3 l4 = some r) (FUEL, 0, 0, ([] : List Zone)) ⟨Rep.trans (Rep_close (k := 1) (j := 3) (o := 0) rfl rfl rfl rfl) (RepP [0, 1] (l := [(0, (ls cI a_p0)), (3, (ls cZoneSpec a_p3)), (8, (AV.ptr 0 0)), (10, (AV.ptr 1 0)), (11, (li 0)), (12, (li 0))]) rfl rfl (by kernel_rfl)), h⟩ ?_
   clear h
   rintro ⟨n1, i2, i3, l4⟩ e' H' ⟨hrep, h⟩
   cases n1 with
   | zero => exact absurd (show (none : Option _) = some r from h) (by simp)
   | succ n1 =>
    replace h : ref17_New_b1 a_p0 a_p1 a_p2 a_p3 (ref17_New_l1 a_p0 a_p1 a_p2 a_p3 n1) i2 i3 l4 = some r := h
    unfold ref17_New_b1 at h
    refine AW_rep hrep ?_
    clear hrep
    refine AW_seq <| AW_seq <| AW_region <| ALW_val (AVal_move rfl) <| ALW_val (AVal_move rfl) <| ALW_val (AVal_lenM Try.underlying24 rfl) ?_
    refine ALW_val (AVal_lss rfl rfl) <| ALW_nil ?_
    refine AW_cond (decide (i3 < (a_p3.length : Int))) rfl (fun hb7 => ?_) (fun hb7 => ?_)
    ·replace h := cnd_t hb7 h
     refine AW_skip <| AW_seq <| AW_block <| AW_seq ?_
     have hb8 := (chk_some h).1
     replace h := (chk_some h).2
     refine bnd_elim h ?_; clear h; intro x2 hx2 h
     show AW _ _ _ _ _ _ [.box 29 ([(ls cI ([] : List Int))] ++ ([(li 0)] ++ ([(li 0)] ++ ([(ls cZone ([] : List Zone))] ++ ([(ls cCpuCache ([] : List CpuCache))] ++ []))))), .box 29 ([AV.osl 3 1 (List.map cI (([] : List Int) ++ a_p0))] ++ ([(li a_p1)] ++ ([(li a_p2)] ++ ([AV.osl 46 10 (List.map cZone l4)] ++ ([AV.osl 50 1 (List.map cCpuCache ([] : List CpuCache))] ++ [])))))]
     refine AW_draw (n := 96) (m := 0) [.head 0 1, .head 0 1, .head 0 1, .head 0 1, .head 0 1, .head 0 1, .head 0 1, .head 0 1, .head 0 1, .head 0 1, .head 0 1, .head 0 1, .head 0 1, .head 0 1, .head 0 1, .head 0 1, .head 0 1, .head 0 1, .head 0 1, .head 0 1, .head 0 1, .head 0 1, .head 0 1, .head 0 1, .head 0 2, .tail 0, .tail 1, .head 2 2] [25, 26] [(ls cZoneSpec a_p3), (li i3), (AV.rp (cZoneSpec (at_ a_p3 i3)) 0), (AV.rp (cZoneSpec (at_ a_p3 i3)) 0), (li ((at_ a_p3 i3).node)), (ls cZoneSpec a_p3), (li i3), (AV.rp (cZoneSpec (at_ a_p3 i3)) 0), (AV.rp (cZoneSpec (at_ a_p3 i3)) 1), (li ((at_ a_p3 i3).kind)), (li i2), (ls cZoneSpec a_p3), (li i3), (AV.rp (cZoneSpec (at_ a_p3 i3)) 0), (AV.rp (cZoneSpec (at_ a_p3 i3)) 2), (li ((at_ a_p3 i3).count)), (ls cZoneSpec a_p3), (li i3), (AV.rp (cZoneSpec (at_ a_p3 i3)) 0), (AV.rp (cZoneSpec (at_ a_p3 i3)) 3), (li ((at_ a_p3 i3).min)), (AV.tup [(AV.agg (cZone x2.1)), (li x2.2)]), (AV.tup [(AV.agg (cZone x2.1)), (li x2.2)]), (AV.agg (cZone x2.1)), (li x2.2), (AV.ptr 2 0), .any, (li x2.2)] [[.box 29 ([(ls cI ([] : List Int))] ++ ([(li 0)] ++ ([(li 0)] ++ ([(ls cZone ([] : List Zone))] ++ ([(ls cCpuCache ([] : List CpuCache))] ++ []))))), .box 29 ([AV.osl 3 1 (List.map cI (([] : List Int) ++ a_p0))] ++ ([(li a_p1)] ++ ([(li a_p2)] ++ ([AV.osl 46 10 (List.map cZone l4)] ++ ([AV.osl 50 1 (List.map cCpuCache ([] : List CpuCache))] ++ [])))))], [.box 29 ([(ls cI ([] : List Int))] ++ ([(li 0)] ++ ([(li 0)] ++ ([(ls cZone ([] : List Zone))] ++ ([(ls cCpuCache ([] : List CpuCache))] ++ []))))), .box 29 ([AV.osl 3 1 (List.map cI (([] : List Int) ++ a_p0))] ++ ([(li a_p1)] ++ ([(li a_p2)] ++ ([AV.osl 46 10 (List.map cZone l4)] ++ ([AV.osl 50 1 (List.map cCpuCache ([] : List CpuCache))] ++ []))))), .box 46 ([(li 0)] ++ ([(li 0)] ++ ([(li 0)] ++ ([(li 0)] ++ ([(li 0)] ++ ((cA 5 (eS cI) ([] : List Int) (List.replicate 5 ([] : List Int))) ++ []))))))], [.box 29 ([(ls cI ([] : List Int))] ++ ([(li 0)] ++ ([(li 0)] ++ ([(ls cZone ([] : List Zone))] ++ ([(ls cCpuCache ([] : List CpuCache))] ++ []))))), .box 29 ([AV.osl 3 1 (List.map cI (([] : List Int) ++ a_p0))] ++ ([(li a_p1)] ++ ([(li a_p2)] ++ ([AV.osl 46 10 (List.map cZone l4)] ++ ([AV.osl 50 1 (List.map cCpuCache ([] : List CpuCache))] ++ []))))), .box 46 (cZone x2.1)]] (by kernel_rfl) (by kernel_rfl) ⟨⟨?_, ?_⟩, ⟨?_, ?_⟩, ⟨?_, ?_⟩, ⟨?_, ?_⟩, ⟨?_, ?_⟩, ⟨?_, ?_⟩, ⟨?_, ?_⟩, ⟨?_, ?_⟩, ⟨?_, ?_⟩, ⟨?_, ?_⟩, ⟨?_, ?_⟩, ⟨?_, ?_⟩, ⟨?_, ?_⟩, ⟨?_, ?_⟩, ⟨?_, ?_⟩, ⟨?_, ?_⟩, ⟨?_, ?_⟩, ⟨?_, ?_⟩, ⟨?_, ?_⟩, ⟨?_, ?_⟩, ⟨?_, ?_⟩, ⟨?_, ?_⟩, ⟨?_, ?_⟩, ⟨?_, ?_⟩, ⟨?_, ?_, ?_⟩, ?_, ?_, ?_, trivial⟩ ?_
     ·exact fun e s p => ALW1 (AVal_move (av := (ls cZoneSpec a_p3)) (s 3 rfl)) ⟨fun _ => rfl, rfl⟩
     ·exact fun e s p => ALW1 (AVal_move (av := (ls cZoneSpec a_p3)) (s 3 rfl)) ⟨fun _ => rfl, rfl⟩
     ·exact fun e s p => ALW1 (AVal_move (av := (li i3)) (s 12 rfl)) ⟨fun _ => rfl, rfl⟩
     ·exact fun e s p => ALW1 (AVal_move (av := (li i3)) (s 12 rfl)) ⟨fun _ => rfl, rfl⟩
     ·exact fun e s p => ALW1 (AVal_idxSM (f := cZoneSpec) (l := a_p3) (i := i3) Try.underlying24 Try.sizeOf65 (fun _ => rfl) p.1 p.2.1 hb8) ⟨fun _ => rfl, rfl⟩
     ·exact fun e s p => ALW1 (AVal_idxSM (f := cZoneSpec) (l := a_p3) (i := i3) Try.underlying24 Try.sizeOf65 (fun _ => rfl) p.1 p.2.1 hb8) ⟨fun _ => rfl, rfl⟩
     ·exact fun e s p => ALW1 (AVal_fieldR (row := (cZoneSpec (at_ a_p3 i3))) (o := 0) (off := 0) Try.underlying65 rfl rfl Try.sizeOf3 p.1) ⟨fun _ => rfl, rfl⟩
     ·exact fun e s p => ALW1 (AVal_fieldR (row := (cZoneSpec (at_ a_p3 i3))) (o := 0) (off := 0) Try.underlying65 rfl rfl Try.sizeOf3 p.1) ⟨fun _ => rfl, rfl⟩
     ·exact fun e s p => ALW1 (AVal_loadR1 (row := (cZoneSpec (at_ a_p3 i3))) (o := 0) (a := (li ((at_ a_p3 i3).node))) Try.isAgg3 p.1 rfl) ⟨fun _ => rfl, rfl⟩
     ·exact fun e s p => ALW1 (AVal_loadR1 (row := (cZoneSpec (at_ a_p3 i3))) (o := 0) (a := (li ((at_ a_p3 i3).node))) Try.isAgg3 p.1 rfl) ⟨fun _ => rfl, rfl⟩
     ·exact fun e s p => ALW1 (AVal_move (av := (ls cZoneSpec a_p3)) (s 3 rfl)) ⟨fun _ => rfl, rfl⟩
     ·exact fun e s p => ALW1 (AVal_move (av := (ls cZoneSpec a_p3)) (s 3 rfl)) ⟨fun _ => rfl, rfl⟩
     ·exact fun e s p => ALW1 (AVal_move (av := (li i3)) (s 12 rfl)) ⟨fun _ => rfl, rfl⟩
     ·exact fun e s p => ALW1 (AVal_move (av := (li i3)) (s 12 rfl)) ⟨fun _ => rfl, rfl⟩
     ·exact fun e s p => ALW1 (AVal_idxSM (f := cZoneSpec) (l := a_p3) (i := i3) Try.underlying24 Try.sizeOf65 (fun _ => rfl) p.1 p.2.1 hb8) ⟨fun _ => rfl, rfl⟩
     ·exact fun e s p => ALW1 (AVal_idxSM (f := cZoneSpec) (l := a_p3) (i := i3) Try.underlying24 Try.sizeOf65 (fun _ => rfl) p.1 p.2.1 hb8) ⟨fun _ => rfl, rfl⟩
     ·exact fun e s p => ALW1 (AVal_fieldR (row := (cZoneSpec (at_ a_p3 i3))) (o := 0) (off := 1) Try.underlying65 rfl rfl Try.sizeOf3 p.1) ⟨fun _ => rfl, rfl⟩
     ·exact fun e s p => ALW1 (AVal_fieldR (row := (cZoneSpec (at_ a_p3 i3))) (o := 0) (off := 1) Try.underlying65 rfl rfl Try.sizeOf3 p.1) ⟨fun _ => rfl, rfl⟩
     ·exact fun e s p => ALW1 (AVal_loadR1 (row := (cZoneSpec (at_ a_p3 i3))) (o := 1) (a := (li ((at_ a_p3 i3).kind))) Try.isAgg3 p.1 rfl) ⟨fun _ => rfl, rfl⟩
     ·exact fun e s p => ALW1 (AVal_loadR1 (row := (cZoneSpec (at_ a_p3 i3))) (o := 1) (a := (li ((at_ a_p3 i3).kind))) Try.isAgg3 p.1 rfl) ⟨fun _ => rfl, rfl⟩
     ·exact fun e s p => ALW1 (AVal_move (av := (li i2)) (s 11 rfl)) ⟨fun _ => rfl, rfl⟩
     ·exact fun e s p => ALW1 (AVal_move (av := (li i2)) (s 11 rfl)) ⟨fun _ => rfl, rfl⟩
     ·exact fun e s p => ALW1 (AVal_move (av := (ls cZoneSpec a_p3)) (s 3 rfl)) ⟨fun _ => rfl, rfl⟩
     ·exact fun e s p => ALW1 (AVal_move (av := (ls cZoneSpec a_p3)) (s 3 rfl)) ⟨fun _ => rfl, rfl⟩
     ·exact fun e s p => ALW1 (AVal_move (av := (li i3)) (s 12 rfl)) ⟨fun _ => rfl, rfl⟩
     ·exact fun e s p => ALW1 (AVal_move (av := (li i3)) (s 12 rfl)) ⟨fun _ => rfl, rfl⟩
     ·exact fun e s p => ALW1 (AVal_idxSM (f := cZoneSpec) (l := a_p3) (i := i3) Try.underlying24 Try.sizeOf65 (fun _ => rfl) p.1 p.2.1 hb8) ⟨fun _ => rfl, rfl⟩
     ·exact fun e s p => ALW1 (AVal_idxSM (f := cZoneSpec) (l := a_p3) (i := i3) Try.underlying24 Try.sizeOf65 (fun _ => rfl) p.1 p.2.1 hb8) ⟨fun _ => rfl, rfl⟩
     ·exact fun e s p => ALW1 (AVal_fieldR (row := (cZoneSpec (at_ a_p3 i3))) (o := 0) (off := 2) Try.underlying65 rfl rfl Try.sizeOf3 p.1) ⟨fun _ => rfl, rfl⟩
     ·exact fun e s p => ALW1 (AVal_fieldR (row := (cZoneSpec (at_ a_p3 i3))) (o := 0) (off := 2) Try.underlying65 rfl rfl Try.sizeOf3 p.1) ⟨fun _ => rfl, rfl⟩
     ·exact fun e s p => ALW1 (AVal_loadR1 (row := (cZoneSpec (at_ a_p3 i3))) (o := 2) (a := (li ((at_ a_p3 i3).count))) Try.isAgg3 p.1 rfl) ⟨fun _ => rfl, rfl⟩
     ·exact fun e s p => ALW1 (AVal_loadR1 (row := (cZoneSpec (at_ a_p3 i3))) (o := 2) (a := (li ((at_ a_p3 i3).count))) Try.isAgg3 p.1 rfl) ⟨fun _ => rfl, rfl⟩
     ·exact fun e s p => ALW1 (AVal_move (av := (ls cZoneSpec a_p3)) (s 3 rfl)) ⟨fun _ => rfl, rfl⟩
     ·exact fun e s p => ALW1 (AVal_move (av := (ls cZoneSpec a_p3)) (s 3 rfl)) ⟨fun _ => rfl, rfl⟩
     ·exact fun e s p => ALW1 (AVal_move (av := (li i3)) (s 12 rfl)) ⟨fun _ => rfl, rfl⟩
     ·exact fun e s p => ALW1 (AVal_move (av := (li i3)) (s 12 rfl)) ⟨fun _ => rfl, rfl⟩
     ·exact fun e s p => ALW1 (AVal_idxSM (f := cZoneSpec) (l := a_p3) (i := i3) Try.underlying24 Try.sizeOf65 (fun _ => rfl) p.1 p.2.1 hb8) ⟨fun _ => rfl, rfl⟩
     ·exact fun e s p => ALW1 (AVal_idxSM (f := cZoneSpec) (l := a_p3) (i := i3) Try.underlying24 Try.sizeOf65 (fun _ => rfl) p.1 p.2.1 hb8) ⟨fun _ => rfl, rfl⟩
     ·exact fun e s p => ALW1 (AVal_fieldR (row := (cZoneSpec (at_ a_p3 i3))) (o := 0) (off := 3) Try.underlying65 rfl rfl Try.sizeOf3 p.1) ⟨fun _ => rfl, rfl⟩
     ·exact fun e s p => ALW1 (AVal_fieldR (row := (cZoneSpec (at_ a_p3 i3))) (o := 0) (off := 3) Try.underlying65 rfl rfl Try.sizeOf3 p.1) ⟨fun _ => rfl, rfl⟩
     ·exact fun e s p => ALW1 (AVal_loadR1 (row := (cZoneSpec (at_ a_p3 i3))) (o := 3) (a := (li ((at_ a_p3 i3).min))) Try.isAgg3 p.1 rfl) ⟨fun _ => rfl, rfl⟩
     ·exact fun e s p => ALW1 (AVal_loadR1 (row := (cZoneSpec (at_ a_p3 i3))) (o := 3) (a := (li ((at_ a_p3 i3).min))) Try.isAgg3 p.1 rfl) ⟨fun _ => rfl, rfl⟩
     ·
      intro e58 hs58 hp57
      refine ALW_callN (r := (AV.tup [(AV.agg (cZone x2.1)), (li x2.2)])) (la := [(li ((at_ a_p3 i3).node)), (li ((at_ a_p3 i3).kind)), (li i2), (li ((at_ a_p3 i3).count)), (li ((at_ a_p3 i3).min))]) Try.func29 rfl (by kernel_rfl) (.fn 29) (lcons hp57.1 (lcons hp57.2.1 (lcons hp57.2.2.1 (lcons hp57.2.2.2.1 (lcons hp57.2.2.2.2.1 rfl))))) rfl (ref12_New_ok hx2) rfl ?_
      exact ALW_nil ⟨fun _ => rfl, rfl⟩
     ·
      intro e59 hs59 hp58
      refine ALW_callN (r := (AV.tup [(AV.agg (cZone x2.1)), (li x2.2)])) (la := [(li ((at_ a_p3 i3).node)), (li ((at_ a_p3 i3).kind)), (li i2), (li ((at_ a_p3 i3).count)), (li ((at_ a_p3 i3).min))]) Try.func29 rfl (by kernel_rfl) (.fn 29) (lcons hp58.1 (lcons hp58.2.1 (lcons hp58.2.2.1 (lcons hp58.2.2.2.1 (lcons hp58.2.2.2.2.1 rfl))))) rfl (ref12_New_ok hx2) rfl ?_
      exact ALW_nil ⟨fun _ => rfl, rfl⟩
     ·exact fun e s p => ALW1 (AVal_move (av := (AV.tup [(AV.agg (cZone x2.1)), (li x2.2)])) p.1) ⟨fun _ => rfl, rfl⟩
     ·exact fun e s p => ALW1 (AVal_move (av := (AV.tup [(AV.agg (cZone x2.1)), (li x2.2)])) p.1) ⟨fun _ => rfl, rfl⟩
     ·exact fun e s p => ALW1 (AVal_extract (la := [(AV.agg (cZone x2.1)), (li x2.2)]) p.1 rfl) ⟨fun _ => rfl, rfl⟩
     ·exact fun e s p => ALW1 (AVal_extract (la := [(AV.agg (cZone x2.1)), (li x2.2)]) p.1 rfl) ⟨fun _ => rfl, rfl⟩
     ·exact fun e s p => ALW1 (AVal_extract (la := [(AV.agg (cZone x2.1)), (li x2.2)]) p.1 rfl) ⟨fun _ => rfl, rfl⟩
     ·exact fun e s p => ALW1 (AVal_extract (la := [(AV.agg (cZone x2.1)), (li x2.2)]) p.1 rfl) ⟨fun _ => rfl, rfl⟩
     ·exact fun e s p => ALW1 (AVal_extract (la := [(AV.agg (cZone x2.1)), (li x2.2)]) p.1 rfl) ⟨fun _ => rfl, rfl⟩
     ·
      intro e67 hs67 hp66
      refine ALW_step (H' := [.box 29 ([(ls cI ([] : List Int))] ++ ([(li 0)] ++ ([(li 0)] ++ ([(ls cZone ([] : List Zone))] ++ ([(ls cCpuCache ([] : List CpuCache))] ++ []))))), .box 29 ([AV.osl 3 1 (List.map cI (([] : List Int) ++ a_p0))] ++ ([(li a_p1)] ++ ([(li a_p2)] ++ ([AV.osl 46 10 (List.map cZone l4)] ++ ([AV.osl 50 1 (List.map cCpuCache ([] : List CpuCache))] ++ []))))), .box 46 ([(li 0)] ++ ([(li 0)] ++ ([(li 0)] ++ ([(li 0)] ++ ([(li 0)] ++ ((cA 5 (eS cI) ([] : List Int) (List.replicate 5 ([] : List Int))) ++ []))))))]) (AStep_alloc (t := 46) (vs := [.int .i64 0, .int .i64 0, .int .i64 0, .int .i64 0, .int .i64 0, .slice none 0 0, .slice none 0 0, .slice none 0 0, .slice none 0 0, .slice none 0 0]) (cs := [.lit (.int .i64 0), .lit (.int .i64 0), .lit (.int .i64 0), .lit (.int .i64 0), .lit (.int .i64 0), .sl false [], .sl false [], .sl false [], .sl false [], .sl false []]) Try.zeroValue46 (by kernel_rfl) rfl ⟨SubF.refl _, SubF.refl _, SubF.refl _, SubF.refl _, SubF.refl _, SubF.nils, SubF.nils, SubF.nils, SubF.nils, SubF.nils, trivial⟩) ?_
      exact ALW_nil ⟨fun _ => rfl, rfl⟩
     ·
      intro e68 hs68 hp67
      refine ALW_act (H' := [.box 29 ([(ls cI ([] : List Int))] ++ ([(li 0)] ++ ([(li 0)] ++ ([(ls cZone ([] : List Zone))] ++ ([(ls cCpuCache ([] : List CpuCache))] ++ []))))), .box 29 ([AV.osl 3 1 (List.map cI (([] : List Int) ++ a_p0))] ++ ([(li a_p1)] ++ ([(li a_p2)] ++ ([AV.osl 46 10 (List.map cZone l4)] ++ ([AV.osl 50 1 (List.map cCpuCache ([] : List CpuCache))] ++ []))))), .box 46 (cZone x2.1)]) (AAct_storeA (k := 2) (o := 0) (cs := ([(li 0)] ++ ([(li 0)] ++ ([(li 0)] ++ ([(li 0)] ++ ([(li 0)] ++ ((cA 5 (eS cI) ([] : List Int) (List.replicate 5 ([] : List Int))) ++ []))))))) (la := (cZone x2.1)) Try.sizeOf46 (by exact hp67.2.2.2.2.2.2.2.2.2.2.2.2.2.2.2.2.2.2.2.2.2.2.2.2.2.2.2.2.1) rfl rfl (by exact hp67.2.2.2.2.2.2.2.2.2.2.2.2.2.2.2.2.2.2.2.2.2.2.2.2.2.2.1)) ?_
      exact ALW_nil ⟨fun _ => rfl, rfl⟩
     ·exact fun e s p => ALW1 (AVal_assign (av := (li x2.2)) p.2.2.2.2.2.2.2.2.2.2.2.2.2.2.2.2.2.2.2.2.2.2.2.2.2.2.1) ⟨fun _ => rfl, rfl⟩
     intro e70 hs70 hq2
     refine AW_rep (Rep_mk (l := [(0, (ls cI a_p0)), (3, (ls cZoneSpec a_p3)), (8, (AV.ptr 0 0)), (10, (AV.ptr 1 0)), (11, (li i2)), (12, (li i3)), (13, (AV.ptr 2 0)), (14, (li x2.2))]) ⟨(hs70 0 rfl), (hs70 3 rfl), (hs70 8 rfl), (hs70 10 rfl), (hs70 11 rfl), (hs70 12 rfl), (hq2 25 (by decide) (by decide)), (hq2 27 (by decide) (by decide)), trivial⟩) <| AW_seq <| AW_seq <| AW_region <| ALW_val (AVal_move (av := (li x2.2)) rfl) <| ALW_val (AVal_neq (a := x2.2) (b := 0) rfl rfl) ?_
     refine ALW_nil ?_
     refine AW_cond (!decide (x2.2 = 0)) rfl (fun hb9 => ?_) (fun hb9 => ?_)
     ·replace h := cnd_t hb9 h
      refine AW_seq <| AW_region <| ALW_val (AVal_build (pl := [(0, 1), (1, 1), (2, 1), (3, 1), (4, 1)]) (zs := [.slice none 0 0, .int .i64 0, .int .i64 0, .slice none 0 0, .slice none 0 0]) (zc := [.osl 3 1 [], .lit (.int .i64 0), .lit (.int .i64 0), .osl 46 10 [], .osl 50 1 []]) (res := ([AV.osl 3 1 (List.map cI ([] : List Int))] ++ ([(li 0)] ++ ([(li 0)] ++ ([AV.osl 46 10 (List.map cZone ([] : List Zone))] ++ ([AV.osl 50 1 (List.map cCpuCache ([] : List CpuCache))] ++ [])))))) (fun _ => by kernel_rfl) rfl (⟨SubF.nilo, ⟨SubF.refl _, ⟨SubF.refl _, ⟨SubF.nilo, ⟨SubF.nilo, trivial⟩⟩⟩⟩⟩) (by exact SubL.refl _)) <| ALW_val (AVal_move rfl) <| ALW_act (H' := [.box 29 ([AV.osl 3 1 (List.map cI ([] : List Int))] ++ ([(li 0)] ++ ([(li 0)] ++ ([AV.osl 46 10 (List.map cZone ([] : List Zone))] ++ ([AV.osl 50 1 (List.map cCpuCache ([] : List CpuCache))] ++ []))))), .box 29 ([AV.osl 3 1 (List.map cI (([] : List Int) ++ a_p0))] ++ ([(li a_p1)] ++ ([(li a_p2)] ++ ([AV.osl 46 10 (List.map cZone l4)] ++ ([AV.osl 50 1 (List.map cCpuCache ([] : List CpuCache))] ++ []))))), .box 46 (cZone x2.1)]) (AAct_storeA (k := 0) (o := 0) (cs := ([(ls cI ([] : List Int))] ++ ([(li 0)] ++ ([(li 0)] ++ ([(ls cZone ([] : List Zone))] ++ ([(ls cCpuCache ([] : List CpuCache))] ++ [])))))) (la := ([AV.osl 3 1 (List.map cI ([] : List Int))] ++ ([(li 0)] ++ ([(li 0)] ++ ([AV.osl 46 10 (List.map cZone ([] : List Zone))] ++ ([AV.osl 50 1 (List.map cCpuCache ([] : List CpuCache))] ++ [])))))) Try.sizeOf29 rfl rfl rfl rfl) <| ALW_val (AVal_assign rfl) ?_
      refine ALW_nil <| AW_rep (Rep_frzC (k := 0) (o := 0) (rows' := List.map cI ([] : List Int)) rfl rfl (frzR_map (fun _ => rfl))) <| AW_rep (Rep_frzC (k := 0) (o := 3) (rows' := List.map cZone ([] : List Zone)) rfl rfl (frzR_map (fun _ => rfl))) <| AW_rep (Rep_frzC (k := 0) (o := 4) (rows' := List.map cCpuCache ([] : List CpuCache)) rfl rfl (frzR_map (fun _ => rfl))) <| AW_ret ?_
      show RetP _ _ _ _ _ _
      obtain rfl := Option.some.inj h
      exact RetP_2 (R1_A Try.isAgg29 Try.sizeOf29 rfl rfl rfl rfl) (R1_E rfl rfl) rfl
     ·replace h := cnd_f hb9 h
      refine AW_skip <| AW_seq <| AW_region <| ALW_val (AVal_field Try.underlying29 rfl rfl Try.sizeOf26 rfl) <| ALW_rep (Rep_open (k := 1) (o := 3) (t' := 46) (sz := 10) (rows := List.map cZone l4) rfl rfl) <| ALW_val (AVal_load1 Try.isAgg26 rfl rfl rfl rfl) ?_
      refine ALW_val (AVal_loadA (k := 2) (o := 0) (m := 10) Try.isAgg46 Try.sizeOf46 rfl rfl rfl rfl rfl) <| ALW_lit1 (a := (AV.agg (cZone x2.1))) elem46 Try.underlying26 rfl rfl rfl rfl ?_
      have hb10 := (chk_some h).1
      replace h := (chk_some h).2
      refine ALW_appendVM (f := cZone) (k := 3) (j := 4) (l := l4) (l' := [x2.1]) elem46 (fun _ => rfl) Try.underlying26 rfl rfl rfl rfl hb10 <| ALW_val (AVal_field Try.underlying29 rfl rfl Try.sizeOf26 rfl) <| ALW_act (H' := [.box 29 ([(ls cI ([] : List Int))] ++ ([(li 0)] ++ ([(li 0)] ++ ([(ls cZone ([] : List Zone))] ++ ([(ls cCpuCache ([] : List CpuCache))] ++ []))))), .box 29 ([AV.osl 3 1 (List.map cI (([] : List Int) ++ a_p0))] ++ ([(li a_p1)] ++ ([(li a_p2)] ++ ([AV.hd 5] ++ ([AV.osl 50 1 (List.map cCpuCache ([] : List CpuCache))] ++ []))))), .box 46 (cZone x2.1), .dead, .vec 46 10 (List.map cZone [x2.1]), .vec 46 10 (List.map cZone (l4 ++ [x2.1]))]) (AAct_store1 (k := 1) (o := 3) (cs := ([AV.osl 3 1 (List.map cI (([] : List Int) ++ a_p0))] ++ ([(li a_p1)] ++ ([(li a_p2)] ++ ([AV.hd 3] ++ ([AV.osl 50 1 (List.map cCpuCache ([] : List CpuCache))] ++ [])))))) (a := (AV.hd 5)) Try.sizeOf26 rfl rfl rfl rfl rfl) <| ALW_nil <| AW_region <| ALW_val (AVal_move rfl) ?_
      refine ALW_val (AVal_move rfl) <| ALW_val (AVal_move rfl) <| ALW_val (AVal_idxSM Try.underlying24 Try.sizeOf65 (fun _ => rfl) rfl rfl hb8) <| ALW_val (AVal_fieldR (row := (cZoneSpec (at_ a_p3 i3))) (o := 0) (off := 2) Try.underlying65 rfl rfl Try.sizeOf3 rfl) <| ALW_val (AVal_loadR1 (o := 2) Try.isAgg3 rfl rfl) ?_
      have hb11 := (chk_some h).1
      replace h := (chk_some h).2
      refine ALW_val (AVal_add rfl rfl hb11) <| ALW_val (AVal_assign rfl) <| ALW_nil <| AW_region <| ALW_val (AVal_move rfl) ?_
      have hb12 := (chk_some h).1
      replace h := (chk_some h).2
      refine ALW_val (AVal_add rfl rfl hb12) <| ALW_val (AVal_assign rfl) <| ALW_nil ?_
      exact ⟨(n1, (i2 + ((at_ a_p3 i3).count)), (i3 + 1), (l4 ++ [x2.1])), Nat.lt_succ_self _, Rep.trans (Rep_close (k := 1) (j := 5) (o := 3) rfl rfl rfl rfl) (RepP [0, 1] (l := [(0, (ls cI a_p0)), (3, (ls cZoneSpec a_p3)), (8, (AV.ptr 0 0)), (10, (AV.ptr 1 0)), (11, (li (i2 + ((at_ a_p3 i3).count)))), (12, (li (i3 + 1)))]) rfl rfl (by kernel_rfl)), h⟩
    ·replace h := cnd_f hb7 h
     refine AW_exit ?_
     exact ⟨l4, RepP [0, 1] rfl rfl (by kernel_rfl), h⟩
  ·
   clear h
   rintro e' H' ⟨l1, hrep, h⟩
   refine AW_rep hrep ?_
   clear hrep
   unfold ref17_New_j0 at h
   refine AW_seqJ (fun e' H' => ∃ (l2 : List CpuCache), Rep 96 0 e' H' (mkE [(8, (AV.ptr 0 0)), (10, (AV.ptr 1 0))]) [.box 29 ([(ls cI ([] : List Int))] ++ ([(li 0)] ++ ([(li 0)] ++ ([(ls cZone ([] : List Zone))] ++ ([(ls cCpuCache ([] : List CpuCache))] ++ []))))), .box 29 ([AV.osl 3 1 (List.map cI (([] : List Int) ++ a_p0))] ++ ([(li a_p1)] ++ ([(li a_p2)] ++ ([AV.osl 46 10 (List.map cZone l1)] ++ ([AV.osl 50 1 (List.map cCpuCache l2)] ++ [])))))] ∧ ref17_New_j1 a_p0 a_p1 a_p2 l1 l2 = some r) ?_ ?_
   ·
    refine AW_seq <| AW_region <| ALW_val (AVal_assign rfl) <| ALW_nil <| AW_block <| AW_loop (σ := Nat × Int × (List CpuCache)) (fun s => s.1) (fun s e' H' => match s with | (n0, i1, l3) => Rep 96 0 e' H' (mkE [(0, (ls cI a_p0)), (3, (ls cZoneSpec a_p3)), (8, (AV.ptr 0 0)), (10, (AV.ptr 1 0)), (15, (li i1))]) [.box 29 ([(ls cI ([] : List Int))] ++ ([(li 0)] ++ ([(li 0)] ++ ([(ls cZone ([] : List Zone))] ++ ([(ls cCpuCache ([] : List CpuCache))] ++ []))))), .box 29 ([AV.osl 3 1 (List.map cI (([] : List Int) ++ a_p0))] ++ ([(li a_p1)] ++ ([(li a_p2)] ++ ([AV.osl 46 10 (List.map cZone l1)] ++ ([AV.osl 50 1 (List.map cCpuCache l3)] ++ [])))))] ∧ ref17_New_l0 a_p0 a_p1 a_p2 a_p3 l1 n0 i1 l3 = some r) (FUEL, 0, ([] : List CpuCache)) ⟨RepP [0, 1] rfl rfl (by kernel_rfl), h⟩ ?_
    clear h
    rintro ⟨n0, i1, l3⟩ e' H' ⟨hrep, h⟩
    cases n0 with
    | zero => exact absurd (show (none : Option _) = some r from h) (by simp)
    | succ n0 =>
     replace h : ref17_New_b0 a_p0 a_p1 a_p2 a_p3 l1 (ref17_New_l0 a_p0 a_p1 a_p2 a_p3 l1 n0) i1 l3 = some r := h
     unfold ref17_New_b0 at h
     refine AW_rep hrep ?_
     clear hrep
     refine AW_seq <| AW_seq <| AW_region <| ALW_val (AVal_move rfl) <| ALW_val (AVal_move rfl) <| ALW_val (AVal_lenM Try.underlying22 rfl) ?_
     refine ALW_val (AVal_lss rfl rfl) <| ALW_nil ?_
     refine AW_cond (decide (i1 < (a_p0.length : Int))) rfl (fun hb3 => ?_) (fun hb3 => ?_)
     ·replace h := cnd_t hb3 h
      refine AW_skip <| AW_seq <| AW_block <| AW_rep (Rep_open (k := 1) (o := 4) (t' := 50) (sz := 1) (rows := List.map cCpuCache l3) rfl rfl) ?_
      have hb4 := (chk_some h).1
      replace h := (chk_some h).2
      have hb5 := (chk_some h).1
      replace h := (chk_some h).2
      show AW _ _ _ _ _ _ [.box 29 ([(ls cI ([] : List Int))] ++ ([(li 0)] ++ ([(li 0)] ++ ([(ls cZone ([] : List Zone))] ++ ([(ls cCpuCache ([] : List CpuCache))] ++ []))))), .box 29 ([AV.osl 3 1 (List.map cI (([] : List Int) ++ a_p0))] ++ ([(li a_p1)] ++ ([(li a_p2)] ++ ([AV.osl 46 10 (List.map cZone l1)] ++ ([AV.hd 2] ++ []))))), .vec 50 1 (List.map cCpuCache l3)]
      refine AW_draw (n := 96) (m := 0) [.head 0 2, .head 0 2, .head 0 0, .head 0 0, .tail 0, .head 1 1, .tail 1, .tail 2, .head 3 3, .tail 3] [4, 6, 7, 9] [(AV.ptr 1 4), (AV.hd 2), (ls cZoneSpec a_p3), (li (a_p3.length : Int)), (AV.hd 3), (AV.agg ([AV.hd 3] ++ [])), (AV.hd 4), (AV.hd 5), (AV.ptr 1 4), .any] [[.box 29 ([(ls cI ([] : List Int))] ++ ([(li 0)] ++ ([(li 0)] ++ ([(ls cZone ([] : List Zone))] ++ ([(ls cCpuCache ([] : List CpuCache))] ++ []))))), .box 29 ([AV.osl 3 1 (List.map cI (([] : List Int) ++ a_p0))] ++ ([(li a_p1)] ++ ([(li a_p2)] ++ ([AV.osl 46 10 (List.map cZone l1)] ++ ([AV.hd 2] ++ []))))), .vec 50 1 (List.map cCpuCache l3)], [.box 29 ([(ls cI ([] : List Int))] ++ ([(li 0)] ++ ([(li 0)] ++ ([(ls cZone ([] : List Zone))] ++ ([(ls cCpuCache ([] : List CpuCache))] ++ []))))), .box 29 ([AV.osl 3 1 (List.map cI (([] : List Int) ++ a_p0))] ++ ([(li a_p1)] ++ ([(li a_p2)] ++ ([AV.osl 46 10 (List.map cZone l1)] ++ ([AV.hd 2] ++ []))))), .vec 50 1 (List.map cCpuCache l3), .vec 22 1 (List.map (cS cI) (List.replicate (a_p3.length : Int).toNat ([] : List Int)))], [.box 29 ([(ls cI ([] : List Int))] ++ ([(li 0)] ++ ([(li 0)] ++ ([(ls cZone ([] : List Zone))] ++ ([(ls cCpuCache ([] : List CpuCache))] ++ []))))), .box 29 ([AV.osl 3 1 (List.map cI (([] : List Int) ++ a_p0))] ++ ([(li a_p1)] ++ ([(li a_p2)] ++ ([AV.osl 46 10 (List.map cZone l1)] ++ ([AV.hd 2] ++ []))))), .vec 50 1 (List.map cCpuCache l3), .dead, .vec 50 1 (List.map cCpuCache [(⟨List.replicate (a_p3.length : Int).toNat ([] : List Int)⟩ : CpuCache)])], [.box 29 ([(ls cI ([] : List Int))] ++ ([(li 0)] ++ ([(li 0)] ++ ([(ls cZone ([] : List Zone))] ++ ([(ls cCpuCache ([] : List CpuCache))] ++ []))))), .box 29 ([AV.osl 3 1 (List.map cI (([] : List Int) ++ a_p0))] ++ ([(li a_p1)] ++ ([(li a_p2)] ++ ([AV.osl 46 10 (List.map cZone l1)] ++ ([AV.hd 2] ++ []))))), .dead, .dead, .vec 50 1 (List.map cCpuCache [(⟨List.replicate (a_p3.length : Int).toNat ([] : List Int)⟩ : CpuCache)]), .vec 50 1 (List.map cCpuCache (l3 ++ [(⟨List.replicate (a_p3.length : Int).toNat ([] : List Int)⟩ : CpuCache)]))], [.box 29 ([(ls cI ([] : List Int))] ++ ([(li 0)] ++ ([(li 0)] ++ ([(ls cZone ([] : List Zone))] ++ ([(ls cCpuCache ([] : List CpuCache))] ++ []))))), .box 29 ([AV.osl 3 1 (List.map cI (([] : List Int) ++ a_p0))] ++ ([(li a_p1)] ++ ([(li a_p2)] ++ ([AV.osl 46 10 (List.map cZone l1)] ++ ([AV.hd 5] ++ []))))), .dead, .dead, .vec 50 1 (List.map cCpuCache [(⟨List.replicate (a_p3.length : Int).toNat ([] : List Int)⟩ : CpuCache)]), .vec 50 1 (List.map cCpuCache (l3 ++ [(⟨List.replicate (a_p3.length : Int).toNat ([] : List Int)⟩ : CpuCache)]))]] (by kernel_rfl) (by kernel_rfl) ⟨⟨?_, ?_, ?_⟩, ⟨?_, ?_, ?_⟩, ?_, ?_, ?_, ?_, ?_, ?_, ?_, ?_, trivial⟩ ?_
      ·exact fun e s p => ALW1 (AVal_field (k := 1) (o := 0) (off := 4) Try.underlying29 rfl rfl Try.sizeOf27 (s 10 rfl)) ⟨fun _ => rfl, rfl⟩
      ·exact fun e s p => ALW1 (AVal_field (k := 1) (o := 0) (off := 4) Try.underlying29 rfl rfl Try.sizeOf27 (s 10 rfl)) ⟨fun _ => rfl, rfl⟩
      ·exact fun e s p => ALW1 (AVal_field (k := 1) (o := 0) (off := 4) Try.underlying29 rfl rfl Try.sizeOf27 (s 10 rfl)) ⟨fun _ => rfl, rfl⟩
      ·exact fun e s p => ALW1 (AVal_load1 (k := 1) (o := 4) (a := (AV.hd 2)) Try.isAgg27 p.1 rfl rfl rfl) ⟨fun _ => rfl, rfl⟩
      ·exact fun e s p => ALW1 (AVal_load1 (k := 1) (o := 4) (a := (AV.hd 2)) Try.isAgg27 p.1 rfl rfl rfl) ⟨fun _ => rfl, rfl⟩
      ·exact fun e s p => ALW1 (AVal_load1 (k := 1) (o := 4) (a := (AV.hd 2)) Try.isAgg27 p.1 rfl rfl rfl) ⟨fun _ => rfl, rfl⟩
      ·exact fun e s p => ALW1 (AVal_move (av := (ls cZoneSpec a_p3)) (s 3 rfl)) ⟨fun _ => rfl, rfl⟩
      ·exact fun e s p => ALW1 (AVal_lenM (f := cZoneSpec) (l := a_p3) Try.underlying24 p.1) ⟨fun _ => rfl, rfl⟩
      ·
       intro e9 hs9 hp9
       refine ALW_makeM (f := (cS cI)) (a := (a_p3.length : Int)) (c := (a_p3.length : Int)) (d0 := ([] : List Int)) elem22 ⟨SubF.nils, trivial⟩ rfl Try.underlying48 hp9.2.1 hp9.2.1 hb4 ?_
       exact ALW_nil ⟨fun _ => rfl, rfl⟩
      ·exact fun e s p => ALW1 (AVal_build (pl := [(0, 1)]) (zs := [.slice none 0 0]) (zc := [.osl 22 1 []]) (res := ([AV.hd 3] ++ [])) (fun _ => by kernel_rfl) rfl (⟨SubF.nilo, trivial⟩) ⟨(AV.hd 3), 0, 1, rfl, p.1, rfl, rfl, rfl, (by exact SubL.refl _)⟩) ⟨fun _ => rfl, rfl⟩
      ·
       intro e11 hs11 hp11
       refine ALW_lit1F (cs := ([AV.hd 3] ++ [])) (j := 3) (cs' := cCpuCache (⟨List.replicate (a_p3.length : Int).toNat ([] : List Int)⟩ : CpuCache)) elem50 Try.underlying27 hp11.1 rfl (frzR_map (f := (cS cI)) (fun _ => rfl)) rfl rfl rfl rfl ?_
       exact ALW_nil ⟨fun _ => rfl, rfl⟩
      ·
       intro e12 hs12 hp12
       refine ALW_appendVM (f := cCpuCache) (k := 2) (j := 4) (l := l3) (l' := [(⟨List.replicate (a_p3.length : Int).toNat ([] : List Int)⟩ : CpuCache)]) elem50 (fun _ => rfl) Try.underlying27 hp12.1 rfl hp12.2.1 rfl hb5 ?_
       exact ALW_nil ⟨fun _ => rfl, rfl⟩
      ·exact fun e s p => ALW1 (AVal_field (k := 1) (o := 0) (off := 4) Try.underlying29 rfl rfl Try.sizeOf27 (s 10 rfl)) ⟨fun _ => rfl, rfl⟩
      ·
       intro e14 hs14 hp14
       refine ALW_act (H' := [.box 29 ([(ls cI ([] : List Int))] ++ ([(li 0)] ++ ([(li 0)] ++ ([(ls cZone ([] : List Zone))] ++ ([(ls cCpuCache ([] : List CpuCache))] ++ []))))), .box 29 ([AV.osl 3 1 (List.map cI (([] : List Int) ++ a_p0))] ++ ([(li a_p1)] ++ ([(li a_p2)] ++ ([AV.osl 46 10 (List.map cZone l1)] ++ ([AV.hd 5] ++ []))))), .dead, .dead, .vec 50 1 (List.map cCpuCache [(⟨List.replicate (a_p3.length : Int).toNat ([] : List Int)⟩ : CpuCache)]), .vec 50 1 (List.map cCpuCache (l3 ++ [(⟨List.replicate (a_p3.length : Int).toNat ([] : List Int)⟩ : CpuCache)]))]) (AAct_store1 (k := 1) (o := 4) (cs := ([AV.osl 3 1 (List.map cI (([] : List Int) ++ a_p0))] ++ ([(li a_p1)] ++ ([(li a_p2)] ++ ([AV.osl 46 10 (List.map cZone l1)] ++ ([AV.hd 2] ++ [])))))) (a := (AV.hd 5)) Try.sizeOf27 (by exact hp14.1) rfl rfl (by exact hp14.2.2.2.2.2.2.2.2.2.2.1) rfl) ?_
       exact ALW_nil ⟨fun _ => rfl, rfl⟩
      intro e15 hs15 hq1
      refine AW_rep (Rep_mk (l := [(0, (ls cI a_p0)), (3, (ls cZoneSpec a_p3)), (8, (AV.ptr 0 0)), (10, (AV.ptr 1 0)), (15, (li i1))]) ⟨(hs15 0 rfl), (hs15 3 rfl), (hs15 8 rfl), (hs15 10 rfl), (hs15 15 rfl), trivial⟩) <| AW_region <| ALW_val (AVal_move (av := (li i1)) rfl) ?_
      have hb6 := (chk_some h).1
      replace h := (chk_some h).2
      refine ALW_val (AVal_add rfl rfl hb6) <| ALW_val (AVal_assign rfl) <| ALW_nil ?_
      exact ⟨(n0, (i1 + 1), (l3 ++ [(⟨List.replicate (a_p3.length : Int).toNat ([] : List Int)⟩ : CpuCache)])), Nat.lt_succ_self _, Rep.trans (Rep_close (k := 1) (j := 5) (o := 4) rfl rfl rfl rfl) (RepP [0, 1] (l := [(0, (ls cI a_p0)), (3, (ls cZoneSpec a_p3)), (8, (AV.ptr 0 0)), (10, (AV.ptr 1 0)), (15, (li (i1 + 1)))]) rfl rfl (by kernel_rfl)), h⟩
     ·replace h := cnd_f hb3 h
      refine AW_exit ?_
      exact ⟨l3, RepP [0, 1] rfl rfl (by kernel_rfl), h⟩
   ·
    clear h
    rintro e' H' ⟨l2, hrep, h⟩
    refine AW_rep hrep ?_
    clear hrep
    unfold ref17_New_j1 at h
    refine AW_seq <| AW_region <| ALW_rep (Rep_frzC (k := 1) (o := 0) (rows' := List.map cI (([] : List Int) ++ a_p0)) rfl rfl (frzR_map (fun _ => rfl))) <| ALW_rep (Rep_frzC (k := 1) (o := 3) (rows' := List.map cZone l1) rfl rfl (frzR_map (fun _ => rfl))) <| ALW_rep (Rep_frzC (k := 1) (o := 4) (rows' := List.map cCpuCache l2) rfl rfl (frzR_map (fun _ => rfl))) <| ALW_val (AVal_loadA (k := 1) (o := 0) (m := 5) Try.isAgg29 Try.sizeOf29 rfl rfl rfl rfl rfl) ?_
    refine ALW_act (H' := [.box 29 (cAllocator (⟨([] : List Int) ++ a_p0, a_p1, a_p2, l1, l2⟩ : Allocator)), .box 29 ([(ls cI (([] : List Int) ++ a_p0))] ++ ([(li a_p1)] ++ ([(li a_p2)] ++ ([(ls cZone l1)] ++ ([(ls cCpuCache l2)] ++ [])))))]) (AAct_storeA (k := 0) (o := 0) (cs := ([(ls cI ([] : List Int))] ++ ([(li 0)] ++ ([(li 0)] ++ ([(ls cZone ([] : List Zone))] ++ ([(ls cCpuCache ([] : List CpuCache))] ++ [])))))) (la := (cAllocator (⟨([] : List Int) ++ a_p0, a_p1, a_p2, l1, l2⟩ : Allocator))) Try.sizeOf29 rfl rfl rfl rfl) <| ALW_val (AVal_assign rfl) <| ALW_nil <| AW_ret ?_
    show RetP _ _ _ _ _ _
    obtain rfl := Option.some.inj h
    exact RetP_2 (R1_A Try.isAgg29 Try.sizeOf29 rfl rfl rfl rfl) (R1_E rfl rfl) rfl
theorem law17_AllocatorBegins_ok {a_nodes : List Int} {a_p : List Int} {a_l : List ZoneSpec} {r : Bool} (h : law17_AllocatorBegins a_nodes a_p a_l = some r) : PFn Try.prog 3 [(ls cI a_nodes), (AV.agg (cA 2 eI 0 a_p)), (ls cZoneSpec a_l)] (AV.lit (.bool r)) := by
 refine PFn_enter Try.func3 rfl Try.ntmps3 Try.results3 rfl ?_
 unfold law17_AllocatorBegins at h
 refine AW_seq <| AW_region <| ALW_step (H' := [.box 23 (cA 2 eI 0 a_p)]) (AStep_boxA (t := 23) rfl) <| ALW_val (AVal_assign rfl) <| ALW_nil <| AW_seq ?_
 refine AW_seq <| AW_region ?_
 refine bnd_elim h ?_; clear h; intro x1 hx1 h
 refine ALW_callN Try.func8 rfl (by kernel_rfl) (.fn 8) rfl rfl (law17_awake_ok hx1) rfl <| ALW_val (AVal_not (t := x1) rfl) <| ALW_val (AVal_move rfl) <| ALW_g0 rfl rfl (fun hc1 => AVal.step (AVal_move rfl)) <| ALW_g0 rfl rfl (fun hc2 => AVal.step (AVal_lenM Try.underlying22 (gd_t rfl hc2))) <| ALW_g0 rfl rfl (fun hc3 => AVal.step (AVal_gtr (gd_t rfl hc3) rfl)) ?_
 refine ALW_val (AVal_pick_or rfl rfl) <| ALW_val (AVal_move rfl) <| ALW_g0 rfl rfl (fun hc4 => AVal.step (AVal_move rfl)) <| ALW_g0 rfl rfl (fun hc5 => AVal.step (AVal_lenM Try.underlying24 (gd_t rfl hc5))) <| ALW_g0 rfl rfl (fun hc6 => AVal.step (AVal_gtr (gd_t rfl hc6) rfl)) <| ALW_val (AVal_pick_or rfl rfl) ?_
 refine ALW_nil ?_
 refine AW_cond (((!x1) || (decide (20 < (a_nodes.length : Int)))) || (decide (20 < (a_l.length : Int)))) rfl (fun hb1 => ?_) (fun hb1 => ?_)
 ·replace h := cnd_t hb1 h
  refine AW_seq <| AW_region ?_
  refine bnd_elim h ?_; clear h; intro x2 hx2 h
  refine ALW_callN Try.func8 rfl (by kernel_rfl) (.fn 8) rfl rfl (law17_awake_ok hx2) rfl <| ALW_val (AVal_assign rfl) <| ALW_nil <| AW_ret ?_
  show RetP _ _ _ _ _ _
  obtain rfl := Option.some.inj h
  exact RetP_1 (R1_E rfl rfl)
 ·replace h := cnd_f hb1 h
  refine AW_skip <| AW_seq <| AW_region <| ALW_val (AVal_move rfl) <| ALW_val (AVal_idxA (m := 2) (s := 1) (i := 0) (k := 0) (o := 0) Try.underlying23 Try.sizeOf3 rfl rfl (by decide)) <| ALW_val (AVal_loadArr0 (k := 0) (o := 0) (g := eI) (d0 := 0) (l := a_p) (N := 2) (i := (0 : Int).toNat) (a := (li (a_p.getD (0 : Int).toNat 0))) Try.isAgg3 rfl rfl rfl (by decide) rfl rfl) ?_
  refine ALW_val (AVal_idxA (m := 2) (s := 1) (i := 1) (k := 0) (o := 0) Try.underlying23 Try.sizeOf3 rfl rfl (by decide)) <| ALW_val (AVal_loadArr0 (k := 0) (o := 1) (g := eI) (d0 := 0) (l := a_p) (N := 2) (i := (1 : Int).toNat) (a := (li (a_p.getD (1 : Int).toNat 0))) Try.isAgg3 rfl rfl rfl (by decide) rfl rfl) <| ALW_val (AVal_move rfl) ?_
  refine bnd_elim h ?_; clear h; intro x3 hx3 h
  refine ALW_callN Try.func9 rfl (by kernel_rfl) (.fn 9) rfl rfl (allocator_New_ok hx3) rfl <| ALW_val (AVal_move rfl) <| ALW_val (AVal_extract rfl rfl) <| ALW_val (AVal_extract rfl rfl) <| ALW_step (H' := [.box 23 (cA 2 eI 0 a_p), .box 29 ([(ls cI ([] : List Int))] ++ ([(li 0)] ++ ([(li 0)] ++ ([(ls cZone ([] : List Zone))] ++ ([(ls cCpuCache ([] : List CpuCache))] ++ [])))))]) (AStep_alloc (t := 29) (vs := [.slice none 0 0, .int .i64 0, .int .i64 0, .slice none 0 0, .slice none 0 0]) (cs := [.sl false [], .lit (.int .i64 0), .lit (.int .i64 0), .sl false [], .sl false []]) Try.zeroValue29 (by kernel_rfl) rfl ⟨SubF.nils, SubF.refl _, SubF.refl _, SubF.nils, SubF.nils, trivial⟩) <| ALW_act (H' := [.box 23 (cA 2 eI 0 a_p), .box 29 (cAllocator x3.1)]) (AAct_storeA (k := 1) (o := 0) (cs := ([(ls cI ([] : List Int))] ++ ([(li 0)] ++ ([(li 0)] ++ ([(ls cZone ([] : List Zone))] ++ ([(ls cCpuCache ([] : List CpuCache))] ++ [])))))) (la := (cAllocator x3.1)) Try.sizeOf29 rfl rfl rfl rfl) ?_
  refine ALW_val (AVal_assign rfl) <| ALW_nil <| AW_seq <| AW_region <| ALW_val (AVal_move rfl) <| ALW_val (AVal_idxA (m := 2) (s := 1) (i := 0) (k := 0) (o := 0) Try.underlying23 Try.sizeOf3 rfl rfl (by decide)) ?_
  refine ALW_val (AVal_loadArr0 (k := 0) (o := 0) (g := eI) (d0 := 0) (l := a_p) (N := 2) (i := (0 : Int).toNat) (a := (li (a_p.getD (0 : Int).toNat 0))) Try.isAgg3 rfl rfl rfl (by decide) rfl rfl) <| ALW_val (AVal_idxA (m := 2) (s := 1) (i := 1) (k := 0) (o := 0) Try.underlying23 Try.sizeOf3 rfl rfl (by decide)) <| ALW_val (AVal_loadArr0 (k := 0) (o := 1) (g := eI) (d0 := 0) (l := a_p) (N := 2) (i := (1 : Int).toNat) (a := (li (a_p.getD (1 : Int).toNat 0))) Try.isAgg3 rfl rfl rfl (by decide) rfl rfl) <| ALW_val (AVal_move rfl) ?_
  refine bnd_elim h ?_; clear h; intro x4 hx4 h
  refine ALW_callN Try.func10 rfl (by kernel_rfl) (.fn 10) rfl rfl (ref17_New_ok hx4) rfl <| ALW_val (AVal_move rfl) <| ALW_val (AVal_extract rfl rfl) <| ALW_val (AVal_extract rfl rfl) <| ALW_step (H' := [.box 23 (cA 2 eI 0 a_p), .box 29 (cAllocator x3.1), .box 29 ([(ls cI ([] : List Int))] ++ ([(li 0)] ++ ([(li 0)] ++ ([(ls cZone ([] : List Zone))] ++ ([(ls cCpuCache ([] : List CpuCache))] ++ [])))))]) (AStep_alloc (t := 29) (vs := [.slice none 0 0, .int .i64 0, .int .i64 0, .slice none 0 0, .slice none 0 0]) (cs := [.sl false [], .lit (.int .i64 0), .lit (.int .i64 0), .sl false [], .sl false []]) Try.zeroValue29 (by kernel_rfl) rfl ⟨SubF.nils, SubF.refl _, SubF.refl _, SubF.nils, SubF.nils, trivial⟩) <| ALW_act (H' := [.box 23 (cA 2 eI 0 a_p), .box 29 (cAllocator x3.1), .box 29 (cAllocator x4.1)]) (AAct_storeA (k := 2) (o := 0) (cs := ([(ls cI ([] : List Int))] ++ ([(li 0)] ++ ([(li 0)] ++ ([(ls cZone ([] : List Zone))] ++ ([(ls cCpuCache ([] : List CpuCache))] ++ [])))))) (la := (cAllocator x4.1)) Try.sizeOf29 rfl rfl rfl rfl) ?_
  refine ALW_val (AVal_assign rfl) <| ALW_nil <| AW_seq <| AW_region <| ALW_val (AVal_move rfl) <| ALW_val (AVal_move rfl) ?_
  refine ALW_val (AVal_eql rfl rfl) <| ALW_val (AVal_move rfl) <| ALW_g1 rfl rfl (fun hc7 => AVal.step (AVal_loadA (k := 1) (o := 0) (m := 5) Try.isAgg29 Try.sizeOf29 rfl rfl rfl rfl rfl)) <| ALW_g1 rfl rfl (fun hc8 => AVal.step (AVal_loadA (k := 2) (o := 0) (m := 5) Try.isAgg29 Try.sizeOf29 rfl rfl rfl rfl rfl)) ?_
  refine bnd_elim h ?_; clear h; intro x5 hx5 h
  refine ALW_callG1 (g := 47) (s := decide (x3.2 = x4.2)) (r' := (AV.lit (.bool x5))) rfl rfl (fun hc9 => ⟨11, _, _, [], [(AV.agg (cAllocator x3.1)), (AV.agg (cAllocator x4.1))], [(AV.agg (cAllocator x3.1)), (AV.agg (cAllocator x4.1))], (AV.lit (.bool x5)), [], Try.func11, rfl, by kernel_rfl, (.fn 11), (lcons (gd_t rfl hc9) (lcons (gd_t rfl hc9) rfl)), ⟨View.nr rfl, View.nr rfl, trivial⟩, ref17_Same_ok (cnd_t hc9 hx5), .inl rfl, rfl⟩) <| ALW_val (AVal_pick_and (j := .lit undef) rfl rfl) <| ALW_val (AVal_assign rfl) <| ALW_nil <| AW_ret ?_
  show RetP _ _ _ _ _ _
  obtain rfl := Option.some.inj h
  exact RetP_1 (R1_E rfl rfl)
end Go.Proofs.Ytplkliakhdkpcaa
