/-
  The law AllocatorBegins on the printed functions: it gives true for all lists of at most 2 ^ 40 elements. No program in sight.
-/
import Derived.Test.YtplkliakhdkpcaaPc
set_option linter.unusedVariables false
set_option linter.unusedSimpArgs false
namespace Go.Proofs.Ytplkliakhdkpcaa
open Go Go.RowKit Go.Wk Go.Am
theorem idx_loop {l : List Int} {f : Int → Option Bool} {p : Int → Bool} (hf : ∀ x, f x = some (p x)) (hl : l.length ≤ 1099511627776) : ∀ (m n i : Nat), i + m = l.length → m < n → ∃ r, slices_IndexFunc_Lint_int_l0 l f n (i : Int) = some r ∧ decide (0 ≤ r) = (l.drop i).any p := by
  intro m
  induction m with
  | zero =>
    intro n i h1 h2
    obtain ⟨n, rfl⟩ : ∃ q, n = q + 1 := ⟨n - 1, by omega⟩
    refine ⟨-1, ?_, ?_⟩
    · show slices_IndexFunc_Lint_int_b0 _ _ _ _ = _
      unfold slices_IndexFunc_Lint_int_b0
      rw [cnd_0 (df (by omega))]
      rfl
    · rw [List.drop_eq_nil_of_le (by omega)]
      rfl
  | succ m ih =>
    intro n i h1 h2
    obtain ⟨n, rfl⟩ : ∃ q, n = q + 1 := ⟨n - 1, by omega⟩
    have hi : i < l.length := by omega
    have hs : slices_IndexFunc_Lint_int_l0 l f (n + 1) (i : Int) = cnd (p l[i]) (some (i : Int)) (slices_IndexFunc_Lint_int_l0 l f n ((i + 1 : Nat) : Int)) := by
      show slices_IndexFunc_Lint_int_b0 _ _ _ _ = _
      unfold slices_IndexFunc_Lint_int_b0
      rw [cnd_1 (dt (by omega)), chk_t (inb_n hi), hf, bnd1, at_n hi, chk_t (inI_t (by omega))]
      rfl
    rw [hs, List.drop_eq_getElem_cons hi, List.any_cons]
    cases hp : p l[i] with
    | true => exact ⟨i, rfl, by rw [dt (by omega)]; rfl⟩
    | false => simpa [cnd] using ih n (i + 1) (by omega) (by omega)
def badNode (n : Int) : Bool := decide (n < 0) || decide (4 ≤ n)
def badSizes (k b h z : Int) : Bool := decide (k < 1) || decide (4 < k) || decide (64 < h) || decide (b < 1) || decide (h < b) || decide (z < 1) || decide (6 < z)
def fitM (nodes : List Int) (b h z : Int) : Bool := !badSizes (nodes.length : Int) b h z && !nodes.any badNode
theorem machine_eq {a : Allocator} (hl : a.nodes.length ≤ 1099511627776) : allocator_machine a = some (fitM a.nodes a.batch a.high (a.zones.length : Int)) := by
  unfold allocator_machine fitM
  show cnd (badSizes (a.nodes.length : Int) a.batch a.high (a.zones.length : Int)) _ _ = _
  cases badSizes (a.nodes.length : Int) a.batch a.high (a.zones.length : Int) with
  | true => rfl
  | false =>
    obtain ⟨r, h1, h2⟩ := idx_loop (l := a.nodes) (f := fun y => allocator_machine_1 y) (p := badNode) (fun x => rfl) hl a.nodes.length FUEL 0 (by omega) (by unfold FUEL; omega)
    unfold slices_ContainsFunc_Lint_int slices_IndexFunc_Lint_int
    show (((slices_IndexFunc_Lint_int_l0 a.nodes (fun y => allocator_machine_1 y) FUEL ((0 : Nat) : Int)).bind _).bind _) = _
    rw [h1, bnd1, bnd1, h2]
    rfl
theorem nodes_loop {l : List Int} (hl : l.length ≤ 1099511627776) : ∀ (m n i : Nat), i + m = l.length → m < n → ref17_inRange_l0 l n (i : Int) = some (!(l.drop i).any badNode) := by
  intro m
  induction m with
  | zero =>
    intro n i h1 h2
    obtain ⟨n, rfl⟩ : ∃ q, n = q + 1 := ⟨n - 1, by omega⟩
    show ref17_inRange_b0 _ _ _ = _
    unfold ref17_inRange_b0
    rw [cnd_0 (df (by omega)), List.drop_eq_nil_of_le (by omega)]
    rfl
  | succ m ih =>
    intro n i h1 h2
    obtain ⟨n, rfl⟩ : ∃ q, n = q + 1 := ⟨n - 1, by omega⟩
    have hi : i < l.length := by omega
    show ref17_inRange_b0 _ _ _ = _
    unfold ref17_inRange_b0
    rw [cnd_1 (dt (by omega)), chk_t (inb_n hi), at_n hi, chk_t (inI_t (by omega)), List.drop_eq_getElem_cons hi, List.any_cons]
    show cnd (badNode l[i]) _ _ = _
    cases badNode l[i] with
    | true => rfl
    | false => exact ih n (i + 1) (by omega) (by omega)
theorem range_eq {nodes : List Int} {b h z : Int} (hl : nodes.length ≤ 1099511627776) : ref17_inRange nodes b h z = some (fitM nodes b h z) := by
  unfold ref17_inRange fitM
  have e : (((((((decide ((nodes.length : Int) < 1)) || (decide (4 < (nodes.length : Int)))) || (decide (b < 1))) || (decide (h < b))) || (decide (64 < h))) || (decide (z < 1))) || (decide (6 < z))) = badSizes (nodes.length : Int) b h z := by
    rw [Bool.eq_iff_iff]
    unfold badSizes
    simp only [Bool.or_eq_true, decide_eq_true_eq]
    omega
  rw [e]
  cases badSizes (nodes.length : Int) b h z with
  | true => rfl
  | false => exact nodes_loop hl nodes.length FUEL 0 (by omega) (by unfold FUEL; omega)
structure Sm (a : Allocator) : Prop where
  n : a.nodes.length ≤ 1099511627776
  z : a.zones.length ≤ 1099511627776
  c : a.caches.length ≤ 1099511627776
  f : ∀ z, z ∈ a.zones → ∀ k, (z.free.getD k []).length ≤ 1099511627776
  l : ∀ c, c ∈ a.caches → c.lists.length ≤ 1099511627776 ∧ ∀ l, l ∈ c.lists → l.length ≤ 1099511627776
theorem sl14 {l : List Int} (hl : l.length ≤ 1099511627776) : ∀ (m n i : Nat), i + m = l.length → m < n → ref14_SameList_l0 l l n (i : Int) = some true := by
  intro m
  induction m with
  | zero =>
    intro n i h1 h2
    obtain ⟨n, rfl⟩ : ∃ q, n = q + 1 := ⟨n - 1, by omega⟩
    show ref14_SameList_b0 _ _ _ _ = _
    unfold ref14_SameList_b0
    rw [cnd_0 (df (by omega))]
    rfl
  | succ m ih =>
    intro n i h1 h2
    obtain ⟨n, rfl⟩ : ∃ q, n = q + 1 := ⟨n - 1, by omega⟩
    show ref14_SameList_b0 _ _ _ _ = _
    unfold ref14_SameList_b0
    rw [cnd_1 (dt (by omega)), chk_t (inb_n (by omega)), chk_t (inb_n (by omega)), dt rfl]
    refine (cnd_0 (by rfl)).trans ?_
    rw [chk_t (inI_t (by omega))]
    exact ih n (i + 1) (by omega) (by omega)
theorem same_list {l : List Int} (hl : l.length ≤ 1099511627776) : ref14_SameList l l = some true := by
  unfold ref14_SameList
  rw [dt rfl]
  exact sl14 hl l.length FUEL 0 (by omega) (by unfold FUEL; omega)
theorem sl12 {l : List Int} (hl : l.length ≤ 1099511627776) : ∀ (m n i : Nat), i + m = l.length → m < n → ref12_SameInts_l0 l l n (i : Int) = some true := by
  intro m
  induction m with
  | zero =>
    intro n i h1 h2
    obtain ⟨n, rfl⟩ : ∃ q, n = q + 1 := ⟨n - 1, by omega⟩
    show ref12_SameInts_b0 _ _ _ _ = _
    unfold ref12_SameInts_b0
    rw [cnd_0 (df (by omega))]
    rfl
  | succ m ih =>
    intro n i h1 h2
    obtain ⟨n, rfl⟩ : ∃ q, n = q + 1 := ⟨n - 1, by omega⟩
    show ref12_SameInts_b0 _ _ _ _ = _
    unfold ref12_SameInts_b0
    rw [cnd_1 (dt (by omega)), chk_t (inb_n (by omega)), chk_t (inb_n (by omega)), dt rfl]
    refine (cnd_0 (by rfl)).trans ?_
    rw [chk_t (inI_t (by omega))]
    exact ih n (i + 1) (by omega) (by omega)
theorem same_ints {l : List Int} (hl : l.length ≤ 1099511627776) : ref12_SameInts l l = some true := by
  unfold ref12_SameInts
  rw [dt rfl]
  exact sl12 hl l.length FUEL 0 (by omega) (by unfold FUEL; omega)
theorem same12_loop {z : Zone} (hz : ∀ k, (z.free.getD k []).length ≤ 1099511627776) : ∀ (m n i : Nat), i + m = 5 → m < n → ref12_Same_l0 z z n (i : Int) = some true := by
  intro m
  induction m with
  | zero =>
    intro n i h1 h2
    obtain ⟨n, rfl⟩ : ∃ q, n = q + 1 := ⟨n - 1, by omega⟩
    show ref12_Same_b0 _ _ _ _ = _
    unfold ref12_Same_b0
    rw [cnd_0 (df (by omega))]
    rfl
  | succ m ih =>
    intro n i h1 h2
    obtain ⟨n, rfl⟩ : ∃ q, n = q + 1 := ⟨n - 1, by omega⟩
    show ref12_Same_b0 _ _ _ _ = _
    unfold ref12_Same_b0
    rw [cnd_1 (dt (by omega)), chk_t (inb_n (by omega)), same_ints (hz _), bnd1]
    refine (cnd_0 (by rfl)).trans ?_
    rw [chk_t (inI_t (by omega))]
    exact ih n (i + 1) (by omega) (by omega)
theorem same12 {z : Zone} (hz : ∀ k, (z.free.getD k []).length ≤ 1099511627776) : ref12_Same z z = some true := by
  unfold ref12_Same
  rw [dt rfl, dt rfl, dt rfl, dt rfl, dt rfl]
  exact same12_loop hz 5 FUEL 0 (by omega) (by unfold FUEL; omega)
theorem same14_loop {c : CpuCache} (h1 : c.lists.length ≤ 1099511627776) (h2 : ∀ l, l ∈ c.lists → l.length ≤ 1099511627776) : ∀ (m n i : Nat), i + m = c.lists.length → m < n → ref14_Same_l0 c c n (i : Int) = some true := by
  intro m
  induction m with
  | zero =>
    intro n i h3 h4
    obtain ⟨n, rfl⟩ : ∃ q, n = q + 1 := ⟨n - 1, by omega⟩
    show ref14_Same_b0 _ _ _ _ = _
    unfold ref14_Same_b0
    rw [cnd_0 (df (by omega))]
    rfl
  | succ m ih =>
    intro n i h3 h4
    obtain ⟨n, rfl⟩ : ∃ q, n = q + 1 := ⟨n - 1, by omega⟩
    show ref14_Same_b0 _ _ _ _ = _
    unfold ref14_Same_b0
    have hi : i < c.lists.length := by omega
    rw [cnd_1 (dt (by omega)), chk_t (inb_n hi), chk_t (inb_n hi), at_n hi, same_list (h2 _ (List.getElem_mem hi)), bnd1]
    refine (cnd_0 (by rfl)).trans ?_
    rw [chk_t (inI_t (by omega))]
    exact ih n (i + 1) (by omega) (by omega)
theorem same14 {c : CpuCache} (h1 : c.lists.length ≤ 1099511627776) (h2 : ∀ l, l ∈ c.lists → l.length ≤ 1099511627776) : ref14_Same c c = some true := by
  unfold ref14_Same
  rw [dt rfl]
  exact same14_loop h1 h2 c.lists.length FUEL 0 (by omega) (by unfold FUEL; omega)
theorem same17_c {a : Allocator} (h : Sm a) : ∀ (m n i : Nat), i + m = a.caches.length → m < n → ref17_Same_l0 a a n (i : Int) = some true := by
  have hc := h.c
  intro m
  induction m with
  | zero =>
    intro n i h3 h4
    obtain ⟨n, rfl⟩ : ∃ q, n = q + 1 := ⟨n - 1, by omega⟩
    show ref17_Same_b0 _ _ _ _ = _
    unfold ref17_Same_b0
    rw [cnd_0 (df (by omega))]
    rfl
  | succ m ih =>
    intro n i h3 h4
    obtain ⟨n, rfl⟩ : ∃ q, n = q + 1 := ⟨n - 1, by omega⟩
    show ref17_Same_b0 _ _ _ _ = _
    unfold ref17_Same_b0
    have hi : i < a.caches.length := by omega
    have hl := h.l _ (List.getElem_mem hi)
    rw [cnd_1 (dt (by omega)), chk_t (inb_n hi), chk_t (inb_n hi), at_n hi, same14 hl.1 hl.2, bnd1]
    refine (cnd_0 (by rfl)).trans ?_
    rw [chk_t (inI_t (by omega))]
    exact ih n (i + 1) (by omega) (by omega)
theorem same17_z {a : Allocator} (h : Sm a) : ∀ (m n i : Nat), i + m = a.zones.length → m < n → ref17_Same_l1 a a n (i : Int) = some true := by
  have hc := h.z
  intro m
  induction m with
  | zero =>
    intro n i h3 h4
    obtain ⟨n, rfl⟩ : ∃ q, n = q + 1 := ⟨n - 1, by omega⟩
    show ref17_Same_b1 _ _ _ _ = _
    unfold ref17_Same_b1
    rw [cnd_0 (df (by omega))]
    exact same17_c h a.caches.length FUEL 0 (by omega) (by have := h.c; unfold FUEL; omega)
  | succ m ih =>
    intro n i h3 h4
    obtain ⟨n, rfl⟩ : ∃ q, n = q + 1 := ⟨n - 1, by omega⟩
    show ref17_Same_b1 _ _ _ _ = _
    unfold ref17_Same_b1
    have hi : i < a.zones.length := by omega
    rw [cnd_1 (dt (by omega)), chk_t (inb_n hi), chk_t (inb_n hi), at_n hi, same12 (h.f _ (List.getElem_mem hi)), bnd1]
    refine (cnd_0 (by rfl)).trans ?_
    rw [chk_t (inI_t (by omega))]
    exact ih n (i + 1) (by omega) (by omega)
theorem same17 {a : Allocator} (h : Sm a) : ref17_Same a a = some true := by
  unfold ref17_Same
  rw [same_list h.n, bnd1, dt rfl, dt rfl, dt rfl, dt rfl]
  exact same17_z h a.zones.length FUEL 0 (by omega) (by have := h.z; unfold FUEL; omega)
theorem newR_len (node kind start count least : Int) (k : Nat) : ((newR node kind start count least).1.free.getD k []).length ≤ 256 := by
  unfold newR
  split
  · rename_i hr
    by_cases hc : 0 ≤ count
    · have h := (fill_ok hr rfl count.toNat (by show _ ≤ count; omega)).1.putI
      exact h.len' k
    · have hb := ranges_bd hr
      exact absurd hb.2.2.2.2.2.1 (by show ¬ 1 ≤ count; omega)
  · show (zeroZ'.free.getD k []).length ≤ 256
    have := lst_empty (z := zeroZ') rfl k
    unfold lst at this
    rw [this]
    simp
theorem newR_ok {node kind start count least : Int} (h : (newR node kind start count least).2 = 0) : 0 ≤ start ∧ 1 ≤ count ∧ start + count ≤ 256 := by
  unfold newR at h
  split at h
  · rename_i hr
    have hb : 0 ≤ node ∧ node < 4 ∧ (kind = 0 ∨ kind = 1) ∧ 0 ≤ start ∧ start < 256 ∧ 1 ≤ count ∧ count ≤ 256 - start ∧ 0 ≤ least ∧ least ≤ count := ranges_bd hr
    omega
  · cases h
def Both (x y : Option (Allocator × Int)) : Prop := ∃ r, x = some r ∧ y = some r ∧ Sm r.1
section
variable {nodes : List Int} {b h : Int} {l : List ZoneSpec}
theorem sm_zero : Sm ⟨([] : List Int), 0, 0, ([] : List Zone), ([] : List CpuCache)⟩ := ⟨by simp, by simp, by simp, by simp, by simp⟩
theorem caches_both (hn : nodes.length ≤ 20) (h1 : 1 ≤ l.length) (h6 : l.length ≤ 6) {zs : List Zone} (hz : zs.length ≤ 20) (hf : ∀ z, z ∈ zs → ∀ k, (z.free.getD k []).length ≤ 256) : ∀ (m n i : Nat) (cs : List CpuCache), i + m = nodes.length → m < n → cs.length = i →
    (∀ c, c ∈ cs → c = ⟨List.replicate l.length []⟩) → Both (allocator_New_l0 nodes b h l nodes zs n (i : Int) cs) (ref17_New_l0 nodes b h l zs n (i : Int) cs) := by
  intro m
  induction m with
  | zero =>
    intro n i cs h2 h3 h4 h5
    obtain ⟨n, rfl⟩ : ∃ q, n = q + 1 := ⟨n - 1, by omega⟩
    refine ⟨(⟨nodes, b, h, zs, cs⟩, 0), ?_, ?_, ⟨?_, ?_, ?_, ?_, ?_⟩⟩
    · show allocator_New_b0 _ _ _ _ _ _ _ _ _ = _
      unfold allocator_New_b0
      rw [cnd_0 (df (by omega))]
      rfl
    · show ref17_New_b0 _ _ _ _ _ _ _ _ = _
      unfold ref17_New_b0
      rw [cnd_0 (df (by omega))]
      rfl
    · show nodes.length ≤ _; omega
    · show zs.length ≤ _; omega
    · show cs.length ≤ _; omega
    · intro z hz k
      have := hf z hz k
      omega
    · intro c hc
      rw [h5 c hc]
      refine ⟨by show (List.replicate l.length []).length ≤ _; rw [List.length_replicate]; omega, fun q hq => ?_⟩
      rw [List.eq_of_mem_replicate hq]
      simp
  | succ m ih =>
    intro n i cs h2 h3 h4 h5
    obtain ⟨n, rfl⟩ : ∃ q, n = q + 1 := ⟨n - 1, by omega⟩
    have hp : percpu_New (l.length : Int) = some (⟨List.replicate l.length []⟩, 0) := by
      unfold percpu_New
      rw [df (p := (l.length : Int) < 1) (by omega), df (p := 6 < (l.length : Int)) (by omega)]
      refine (cnd_0 (by rfl)).trans ?_
      rw [dt (p := 0 ≤ (l.length : Int)) (by omega), dt (p := (l.length : Int) ≤ (l.length : Int)) (by omega), dt (p := (l.length : Int) * (24 : Int) ≤ 4294967296) (by omega)]
      rfl
    have e1 : allocator_New_l0 nodes b h l nodes zs (n + 1) (i : Int) cs = allocator_New_l0 nodes b h l nodes zs n ((i + 1 : Nat) : Int) (cs ++ [⟨List.replicate l.length []⟩]) := by
      show allocator_New_b0 _ _ _ _ _ _ _ _ _ = _
      unfold allocator_New_b0
      rw [cnd_1 (dt (by omega)), hp, bnd1, chk_t (dt (by show (_ + 1) * 24 ≤ _; omega)), chk_t (inI_t (by omega))]
      rfl
    have e2 : ref17_New_l0 nodes b h l zs (n + 1) (i : Int) cs = ref17_New_l0 nodes b h l zs n ((i + 1 : Nat) : Int) (cs ++ [⟨List.replicate l.length []⟩]) := by
      show ref17_New_b0 _ _ _ _ _ _ _ _ = _
      unfold ref17_New_b0
      rw [cnd_1 (dt (by omega)), dt (p := 0 ≤ (l.length : Int)) (by omega), dt (p := (l.length : Int) ≤ (l.length : Int)) (by omega), dt (p := (l.length : Int) * (24 : Int) ≤ 4294967296) (by omega), chk_t (by rfl), chk_t (dt (by show (_ + 1) * 24 ≤ _; omega)), chk_t (inI_t (by omega))]
      rfl
    rw [e1, e2]
    refine ih n (i + 1) _ (by omega) (by omega) (by rw [List.length_append, h4]; rfl) (fun c hc => ?_)
    rcases List.mem_append.1 hc with hc | hc
    · exact h5 c hc
    · simpa using hc
theorem zones_both (hn : nodes.length ≤ 20) (h1 : 1 ≤ l.length) (h6 : l.length ≤ 6) : ∀ (m n i : Nat) (start : Int) (zs : List Zone), i + m = l.length → m < n → zs.length = l.length → 0 ≤ start → start ≤ 256 →
    (∀ z, z ∈ zs → ∀ k, (z.free.getD k []).length ≤ 256) → Both (allocator_New_l1 nodes b h l nodes n start (i : Int) zs) (ref17_New_l1 nodes b h l n start (i : Int) (zs.take i)) := by
  intro m
  induction m with
  | zero =>
    intro n i start zs h2 h3 h4 hs0 hs1 hf
    obtain ⟨n, rfl⟩ : ∃ q, n = q + 1 := ⟨n - 1, by omega⟩
    have e1 : allocator_New_l1 nodes b h l nodes (n + 1) start (i : Int) zs = allocator_New_l0 nodes b h l nodes zs FUEL ((0 : Nat) : Int) [] := by
      show allocator_New_b1 _ _ _ _ _ _ _ _ _ = _
      unfold allocator_New_b1
      rw [cnd_0 (df (by omega))]
      rfl
    have e2 : ref17_New_l1 nodes b h l (n + 1) start (i : Int) (zs.take i) = ref17_New_l0 nodes b h l zs FUEL ((0 : Nat) : Int) [] := by
      show ref17_New_b1 _ _ _ _ _ _ _ _ = _
      unfold ref17_New_b1
      rw [cnd_0 (df (by omega)), List.take_of_length_le (by omega)]
      rfl
    rw [e1, e2]
    exact caches_both hn h1 h6 (by omega) hf nodes.length FUEL 0 [] (by omega) (by unfold FUEL; omega) rfl (fun c hc => absurd hc (by simp))
  | succ m ih =>
    intro n i start zs h2 h3 h4 hs0 hs1 hf
    obtain ⟨n, rfl⟩ : ∃ q, n = q + 1 := ⟨n - 1, by omega⟩
    have hi : i < l.length := by omega
    have hz := newR_len l[i].node l[i].kind start l[i].count l[i].min
    have hk := newR_ok (node := l[i].node) (kind := l[i].kind) (start := start) (count := l[i].count) (least := l[i].min)
    have e1 : ∀ (x : Zone × Int), newR l[i].node l[i].kind start l[i].count l[i].min = x → (x.2 = 0 → inI (start + l[i].count) = true) → allocator_New_l1 nodes b h l nodes (n + 1) start (i : Int) zs = cnd (!decide (x.2 = 0)) (some (⟨[], 0, 0, [], []⟩, x.2)) (allocator_New_l1 nodes b h l nodes n (start + l[i].count) ((i + 1 : Nat) : Int) (zs.set i x.1)) := by
      intro x hx hI
      show allocator_New_b1 _ _ _ _ _ _ _ _ _ = _
      unfold allocator_New_b1
      rw [cnd_1 (dt (by omega)), chk_t (inb_n hi), at_n hi, bnew_eq (inI_t (by omega)), bnd1, hx]
      by_cases h0 : x.2 = 0
      · rw [dt h0, chk_t (inb_n (by omega)), chk_t (hI h0), chk_t (inI_t (by omega))]
        rfl
      · rw [df h0]
        rfl
    have e2 : ∀ (x : Zone × Int), newR l[i].node l[i].kind start l[i].count l[i].min = x → (x.2 = 0 → inI (start + l[i].count) = true) → ref17_New_l1 nodes b h l (n + 1) start (i : Int) (zs.take i) = cnd (!decide (x.2 = 0)) (some (⟨[], 0, 0, [], []⟩, x.2)) (ref17_New_l1 nodes b h l n (start + l[i].count) ((i + 1 : Nat) : Int) (zs.take i ++ [x.1])) := by
      intro x hx hI
      show ref17_New_b1 _ _ _ _ _ _ _ _ = _
      unfold ref17_New_b1
      rw [cnd_1 (dt (by omega)), chk_t (inb_n hi), at_n hi, rnew_eq, bnd1, hx]
      by_cases h0 : x.2 = 0
      · rw [dt h0, chk_t (dt (by show (_ + 1) * 160 ≤ _; rw [List.length_take]; omega)), chk_t (hI h0), chk_t (inI_t (by omega))]
        rfl
      · rw [df h0]
        rfl
    generalize hx : newR l[i].node l[i].kind start l[i].count l[i].min = x at hz hk
    have hI : x.2 = 0 → inI (start + l[i].count) = true := fun h0 => inI_t (by have := hk h0; omega)
    rw [e1 x hx hI, e2 x hx hI]
    by_cases h0 : x.2 = 0
    · have hb := hk h0
      rw [dt h0]
      have hset : zs.take i ++ [x.1] = (zs.set i x.1).take (i + 1) := by
        rw [List.take_add_one, List.getElem?_set_self (by omega), List.take_set_of_le (Nat.le_refl _)]
        rfl
      rw [hset]
      refine ih n (i + 1) _ _ (by omega) (by omega) (by rw [List.length_set]; exact h4) (by omega) (by omega) (fun z hzm => ?_)
      rcases List.mem_or_eq_of_mem_set hzm with hzm | rfl
      · exact hf z hzm
      · exact hz
    · rw [df h0]
      exact ⟨_, rfl, rfl, sm_zero⟩
theorem new_both (hn : nodes.length ≤ 20) (hl : l.length ≤ 20) : Both (allocator_New nodes b h l) (ref17_New nodes b h l) := by
  unfold allocator_New ref17_New slices_Clone_Lint_int allocator_New_j0
  rw [range_eq (by omega), bnd1, chk_t (dt (by show (0 + _) * 8 ≤ _; omega)), bnd1, dt (p := 0 ≤ (l.length : Int)) (by omega), dt (p := (l.length : Int) ≤ (l.length : Int)) (by omega), dt (p := (l.length : Int) * (160 : Int) ≤ 4294967296) (by omega), chk_t (by rfl), machine_eq (by show nodes.length ≤ _; omega), bnd1]
  show Both (cnd (!fitM nodes b h ((List.replicate (l.length : Int).toNat zZone).length : Int)) _ _) _
  rw [List.length_replicate, Int.toNat_natCast]
  cases hm : fitM nodes b h (l.length : Int) with
  | false => exact ⟨_, rfl, rfl, sm_zero⟩
  | true =>
    have h16 : 1 ≤ l.length ∧ l.length ≤ 6 := by
      unfold fitM badSizes at hm
      simp at hm
      omega
    rw [Bool.not_true, cnd_0 rfl, cnd_0 rfl, chk_t (dt (by show (0 + _) * 8 ≤ _; omega))]
    exact zones_both (b := b) (h := h) hn h16.1 h16.2 l.length FUEL 0 0 (List.replicate l.length zZone) (by omega) (by unfold FUEL; omega) (by rw [List.length_replicate]) (by omega) (by omega) (fun z hz k => by
      rw [List.eq_of_mem_replicate hz]
      have := lst_empty (z := zZone) rfl k
      unfold lst at this
      rw [this]
      simp)
end
set_option maxRecDepth 100000 in
theorem awake_t : law17_awake = some true := by kernel_rfl
theorem begins_t (nodes p : List Int) (l : List ZoneSpec) : law17_AllocatorBegins nodes p l = some true := by
  unfold law17_AllocatorBegins
  rw [awake_t, bnd1]
  by_cases hn : nodes.length ≤ 20
  · by_cases hl : l.length ≤ 20
    · rw [df (p := 20 < (nodes.length : Int)) (by omega), df (p := 20 < (l.length : Int)) (by omega)]
      refine (cnd_0 (by rfl)).trans ?_
      obtain ⟨r, h1, h2, h3⟩ := new_both (nodes := nodes) (b := p.getD (0 : Int).toNat 0) (h := p.getD (1 : Int).toNat 0) (l := l) hn hl
      rw [h1, bnd1, h2, bnd1, dt rfl, cnd_1 rfl, same17 h3]
      rfl
    · rw [dt (p := 20 < (l.length : Int)) (by omega), Bool.or_true]
      rfl
  · rw [dt (p := 20 < (nodes.length : Int)) (by omega)]
    rfl
end Go.Proofs.Ytplkliakhdkpcaa
