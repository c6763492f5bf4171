/-
  The statement AllocatorBegins.
-/
import Derived.Test.YtplkliakhdkpcaaRows
import Derived.Test.YtplkliakhdkpcaaWc
import Derived.Test.YtplkliakhdkpcaaPd
import Derived.Test.YtplkliakhdkpcaaRdA
import Derived.WideKeyArr2
set_option linter.unusedVariables false
set_option linter.unusedSimpArgs false
namespace Go.Proofs.Ytplkliakhdkpcaa
open Go Go.ChangeShapes Go.WideShapes Go.ChangeAt Go.RowKit Go.Wk Go.Am
theorem own : ownKnob Try.prog.godebug = none := by kernel_rfl
theorem laidOut : laidOutB Try.prog = true := by kernel_rfl
theorem rdInt : RdC Try.prog 3 cI (fun n => (Lit.int .i64 n).wf = true) := rdC_int Try.underlying3
theorem rdNodes : RdC Try.prog 22 (cS cI) (fun l => (∀ x, x ∈ l → (Lit.int .i64 x).wf = true) ∧ l.length ≤ 140737488351232) := rdC_slice Try.underlying22 (of_decide_eq_true (by kernel_rfl)) (of_decide_eq_true (by kernel_rfl)) rdInt
theorem rdTwo : RdC Try.prog 23 (cA 2 eI 0) (fun l => l.length = 2 ∧ ∀ x, x ∈ l → (Lit.int .i64 x).wf = true) := rdC_arr 0 Try.underlying23 (by kernel_rfl) (by kernel_rfl) rdInt
theorem rdSpec : RdC Try.prog 65 cZoneSpec (fun _ => True) :=
  RdC.map (rdC_struct (tot := 4) Try.underlying65 (by kernel_rfl) (rdF_cons (s := 1) rdInt rfl (by kernel_rfl) (rdF_cons (s := 1) rdInt rfl (by kernel_rfl) (rdF_cons (s := 1) rdInt rfl (by kernel_rfl) (rdF_cons (s := 1) rdInt rfl (by kernel_rfl) (rdF_nil rfl))))))
    (fun x => ⟨x.1, x.2.1, x.2.2.1, x.2.2.2.1⟩) (fun _ => rfl) (fun _ _ => trivial)
theorem rdSpecs : RdC Try.prog 24 (cS cZoneSpec) (fun l => (∀ x, x ∈ l → True) ∧ l.length ≤ 140737488351232) := rdC_slice Try.underlying24 (of_decide_eq_true (by kernel_rfl)) (of_decide_eq_true (by kernel_rfl)) rdSpec
set_option maxRecDepth 100000 in
theorem begins_lifted (os : Os) (started : os.Started) (H : Type) (enc : TypeId × Value → H) :
    ReturnsInHanded {} Try.checked os 3 .any (Rows.allocatorBeginsSpec.pre6 enc Try.prog Try.f3 Rows.allocatorBeginsRow.domain false) (Rows.allocatorBeginsSpec.post enc Try.prog Try.f3 false true false false) := by
  refine returnsInHanded_of_change_sized (C := Try.checked) own started (by kernel_rfl) Try.func3
    (ChangeSpec.witness6 (enc := enc) (C := Try.checked) false ⟨#[], #[.slice none 0 0, .agg #[.int .i64 0, .int .i64 0], .slice none 0 0], []⟩ 8 (by kernel_rfl) (by kernel_rfl) (by kernel_rfl) (by kernel_rfl)) ?_
  intro W base args ds gs before hval0 hW hcnd0 hsz0 _
  have hsz : (DataW.weightsEach Try.prog (Try.f3.params.toList ++ Rows.allocatorBeginsSpec.plain.varTypes Try.prog) (ds ++ gs)).all (· ≤ reachBytes) = true := hsz0
  have hval : ∀ (j : Nat) t v, Try.f3.params[j]? = some t → args[j]? = some v → Value.okWide Try.prog W .any base t v := hval0
  clear hcnd0 hsz0 hval0
  have hW' := hW
  obtain ⟨p, q, hA0, hV, rfl, hfz, hnd⟩ := hW
  have hA : DataW.TrodAll enc Try.prog W 0 (fun _ => true) true Try.f3.params.toList args.toList ds p := hA0
  clear hA0
  rw [Try.params3] at hA hval hsz
  obtain ⟨v0, v1, v2, d0, d1, d2, p0, p1, p2, rfl, rfl, rfl, h0, h1, h2⟩ := trodAll_three hA
  obtain ⟨rfl, rfl⟩ := trodVars_none hV
  simp only [List.append_nil] at hW' hsz
  have hlt := hW'.lt
  have hwt : ∀ (j : Nat) (t : TypeId) (d : DataW H), ([22, 23, 24] : List TypeId)[j]? = some t → [d0, d1, d2][j]? = some d → ∀ n, n ∈ d.weights Try.prog t → n ≤ reachBytes := by
    intro j t d ht hd n hn
    have := List.all_eq_true.1 hsz n (DataW.weights_mem_each (ts := [22, 23, 24] ++ Rows.allocatorBeginsSpec.plain.varTypes Try.prog) (by rw [List.getElem?_append_left (by have := (List.getElem?_eq_some_iff.1 ht).1; exact this)]; exact ht) hd n hn)
    simpa using this
  obtain ⟨a0, n0, c0, rfl⟩ := okWide_slice Try.underlying22 (hval 0 22 v0 rfl rfl)
  obtain ⟨a2, n2, c2, rfl⟩ := okWide_slice Try.underlying24 (hval 2 24 v2 rfl rfl)
  obtain ⟨xs, rfl, hxs⟩ := Go.WideMaps.okWide_arr (k := 23) (e := 3) (n := 2) ⟨Try.underlying23, by kernel_rfl, by kernel_rfl, by kernel_rfl⟩ (hval 1 23 v1 rfl rfl)
  obtain ⟨nodes, r0, _⟩ := rdNodes.arg1 (g := eS cI) h0 (hwt 0 22 d0 rfl rfl) rfl
  obtain ⟨two, r1, _⟩ := rdTwo.argA h1 (hwt 1 23 d1 rfl rfl) rfl
  obtain ⟨l, r2, _⟩ := rdSpecs.arg1 (g := eS cZoneSpec) h2 (hwt 2 24 d2 rfl rfl) rfl
  have hk : ∀ (W' : World), Below W.heap.size W W' → ∀ (t : TypeId) (v : Value) (d : DataW H) (ps : List MemPlace), Try.prog.readableRec t = true → t < Try.prog.types.size → DataW.Trod enc Try.prog W 0 (fun _ => true) true t v d ps → (∀ x ∈ ps, x.block < W.heap.size) → DataW.Trod enc Try.prog W' 0 (fun b => decide (b < W.heap.size)) true t v d ps :=
    fun W' hb t v d ps hr hs h hl => Below.trod laidOut hr hs h hb hl
  refine (law17_AllocatorBegins_ok (begins_t nodes two l) W noB _ (fun x h => h.elim) (show VRt W noB [] _ [_, _, _] [] from ?_)).mono ?_
  · unfold VRt
    refine ⟨_, _, [], [], rfl, rfl, r0, ?_⟩
    unfold VRt
    refine ⟨_, _, [], [], rfl, rfl, r1, ?_⟩
    unfold VRt
    refine ⟨_, _, [], [], rfl, rfl, r2, ?_⟩
    unfold VRt
    exact ⟨rfl, rfl⟩
  · rintro v W' ⟨fr, hv, _, _, kp⟩
    unfold VR at hv
    obtain ⟨rfl, _⟩ := hv
    have hb : Below W.heap.size W W' := ⟨kp.os, kp.tape, kp.output, kp.size, fun k hk => kp.block k hk id⟩
    refine ⟨_, _, _, [], _, [], hW', trodAll_mk1 (shut_bool Try.underlying4 true), trodAll_mk3 (hk W' hb _ _ _ _ (by kernel_rfl) (of_decide_eq_true (by kernel_rfl)) h0 (fun x hx => hlt x (by simp [hx]))) (hk W' hb _ _ _ _ (by kernel_rfl) (of_decide_eq_true (by kernel_rfl)) h1 (fun x hx => hlt x (by simp [hx]))) (hk W' hb _ _ _ _ (by kernel_rfl) (of_decide_eq_true (by kernel_rfl)) h2 (fun x hx => hlt x (by simp [hx]))), rfl, hb.frame _, fun h => by cases h⟩
theorem allocatorBegins_holds : Rows.AllocatorBeginsSaid :=
  OpenClaim.holds_of_wide 3 Try.f3 rfl rfl rfl rfl rfl rfl rfl ⟨rfl, rfl, rfl, rfl, rfl⟩ rfl rfl rfl rfl rfl (by kernel_rfl) Try.func3 (by kernel_rfl)
    (of_decide_eq_true (by kernel_rfl)) (by unfold Func.isWrapper; first | (rw [if_pos (by decide +kernel)]; kernel_rfl) | (rw [if_neg (by decide +kernel)]; exact ⟨rfl, rfl⟩))
    (fun os started H enc _ => begins_lifted os started H enc)
end Go.Proofs.Ytplkliakhdkpcaa
