/-
  The functions that the program's functions compute, as Lean functions in Option, and their data.
-/
import Derived.Test.YtplkliakhdkpcaaAmX
set_option linter.unusedVariables false
set_option linter.unusedSimpArgs false
namespace Go.Proofs.Ytplkliakhdkpcaa
open Go Go.RowKit Go.Wk Go.Am Go.Proofs
set_option maxHeartbeats 4000000
structure Zone where
  node : Int
  kind : Int
  start : Int
  count : Int
  min : Int
  free : List (List Int)
deriving DecidableEq, Inhabited
def cZone (x : Zone) : List AV := cI x.node ++ (cI x.kind ++ (cI x.start ++ (cI x.count ++ (cI x.min ++ ((cA 5 (eS cI) ([] : List Int)) x.free ++ [])))))
def zZone : Zone := ⟨0, 0, 0, 0, 0, (List.replicate 5 ([] : List Int))⟩
structure CpuCache where
  lists : List (List Int)
deriving DecidableEq, Inhabited
def cCpuCache (x : CpuCache) : List AV := (cS (cS cI)) x.lists ++ []
structure Allocator where
  nodes : List Int
  batch : Int
  high : Int
  zones : List Zone
  caches : List CpuCache
deriving DecidableEq, Inhabited
def cAllocator (x : Allocator) : List AV := (cS cI) x.nodes ++ (cI x.batch ++ (cI x.high ++ ((cS cZone) x.zones ++ ((cS cCpuCache) x.caches ++ []))))
structure ZoneSpec where
  node : Int
  kind : Int
  count : Int
  min : Int
deriving DecidableEq, Inhabited
def cZoneSpec (x : ZoneSpec) : List AV := cI x.node ++ (cI x.kind ++ (cI x.count ++ (cI x.min ++ [])))
def slices_Clone_Lint_int (a_s : List Int) : Option (List Int) :=
 chk (decide ((([] : List Int).length + a_s.length) * 8 ≤ 4294967296)) <|
 some a_s
def slices_IndexFunc_Lint_int_j0  : Option Int :=
 some (-1)
def slices_IndexFunc_Lint_int_b0 (a_s : List Int) (a_f : Int → Option Bool) (self0 : Int → Option Int) (i1 : Int) : Option Int :=
 cnd (decide (i1 < (a_s.length : Int))) (
 chk (inb i1 a_s.length) <|
 (a_f (at_ a_s i1)).bind fun x1 =>
 cnd (x1) (
 some i1) (
 chk (inI (i1 + 1)) <|
 self0 (i1 + 1))) (
 slices_IndexFunc_Lint_int_j0 )
def slices_IndexFunc_Lint_int_l0 (a_s : List Int) (a_f : Int → Option Bool) : Nat → Int → Option Int
  | 0, _ => none
  | n + 1, i1 => slices_IndexFunc_Lint_int_b0 a_s a_f (slices_IndexFunc_Lint_int_l0 a_s a_f n) i1
def slices_IndexFunc_Lint_int (a_s : List Int) (a_f : Int → Option Bool) : Option Int :=
 slices_IndexFunc_Lint_int_l0 a_s a_f FUEL 0
def slices_ContainsFunc_Lint_int (a_s : List Int) (a_f : Int → Option Bool) : Option Bool :=
 (slices_IndexFunc_Lint_int a_s a_f).bind fun x1 =>
 some (decide (0 ≤ x1))
def allocator_machine_1 (a_n : Int) : Option Bool :=
 some ((decide (a_n < 0)) || (decide (4 ≤ a_n)))
def allocator_machine (a_a : Allocator) : Option Bool :=
 cnd (((((((decide ((a_a.nodes.length : Int) < 1)) || (decide (4 < (a_a.nodes.length : Int)))) || (decide (64 < a_a.high))) || (decide (a_a.batch < 1))) || (decide (a_a.high < a_a.batch))) || (decide ((a_a.zones.length : Int) < 1))) || (decide (6 < (a_a.zones.length : Int)))) (
 some false) (
 (slices_ContainsFunc_Lint_int a_a.nodes (fun y0 => allocator_machine_1 y0)).bind fun x1 =>
 some (!x1))
def buddy_ranges (a_z : Zone) : Option Bool :=
 chk (!((((((decide (0 ≤ a_z.node)) && (decide (a_z.node < 4))) && ((decide (a_z.kind = 0)) || (decide (a_z.kind = 1)))) && (decide (0 ≤ a_z.start))) && (decide (a_z.start < 256))) && (decide (1 ≤ a_z.count))) || inI (256 - a_z.start)) <|
 some (((((((((decide (0 ≤ a_z.node)) && (decide (a_z.node < 4))) && ((decide (a_z.kind = 0)) || (decide (a_z.kind = 1)))) && (decide (0 ≤ a_z.start))) && (decide (a_z.start < 256))) && (decide (1 ≤ a_z.count))) && (decide (a_z.count ≤ (256 - a_z.start)))) && (decide (0 ≤ a_z.min))) && (decide (a_z.min ≤ a_z.count)))
def cmp_isNaN_int (a_x : Int) : Option Bool :=
 some (!decide (a_x = a_x))
def cmp_Less_int (a_x : Int) (a_y : Int) : Option Bool :=
 (cmp_isNaN_int a_x).bind fun x1 =>
 (cnd x1 (cmp_isNaN_int a_y) (some default)).bind fun x2 =>
 some ((x1 && (!x2)) || (decide (a_x < a_y)))
def slices_isNaN_int (a_x : Int) : Option Bool :=
 some (!decide (a_x = a_x))
def slices_BinarySearch_Lint_int_j0 (a_x : List Int) (a_target : Int) (i1 : Int) : Option (Int × Bool) :=
 chk (!(decide (i1 < (a_x.length : Int))) || inb i1 a_x.length) <|
 chk (!(decide (i1 < (a_x.length : Int)) && !(decide ((at_ a_x i1) = a_target))) || inb i1 a_x.length) <|
 (cnd (decide (i1 < (a_x.length : Int)) && !(decide ((at_ a_x i1) = a_target))) (slices_isNaN_int (at_ a_x i1)) (some default)).bind fun x1 =>
 (cnd ((decide (i1 < (a_x.length : Int)) && !(decide ((at_ a_x i1) = a_target))) && x1) (slices_isNaN_int a_target) (some default)).bind fun x2 =>
 some (i1, (decide (i1 < (a_x.length : Int))) && ((decide ((at_ a_x i1) = a_target)) || (x1 && x2)))
def slices_BinarySearch_Lint_int_b0 (a_x : List Int) (a_target : Int) (self0 : Int → Int → Option (Int × Bool)) (i2 : Int) (i3 : Int) : Option (Int × Bool) :=
 cnd (decide (i2 < i3)) (
 chk (inI (i2 + i3)) <|
 chk (decide (IntKind.u64.wrap (i2 + i3) = (i2 + i3))) <|
 chk (decide (IntKind.i64.wrap ((i2 + i3).fdiv (2 ^ (1 : Int).toNat)) = ((i2 + i3).fdiv (2 ^ (1 : Int).toNat)))) <|
 chk (inb ((i2 + i3).fdiv (2 ^ (1 : Int).toNat)) a_x.length) <|
 (cmp_Less_int (at_ a_x ((i2 + i3).fdiv (2 ^ (1 : Int).toNat))) a_target).bind fun x3 =>
 cnd (x3) (
 chk (inI (((i2 + i3).fdiv (2 ^ (1 : Int).toNat)) + 1)) <|
 self0 (((i2 + i3).fdiv (2 ^ (1 : Int).toNat)) + 1) i3) (
 self0 i2 ((i2 + i3).fdiv (2 ^ (1 : Int).toNat)))) (
 slices_BinarySearch_Lint_int_j0 a_x a_target i2)
def slices_BinarySearch_Lint_int_l0 (a_x : List Int) (a_target : Int) : Nat → Int → Int → Option (Int × Bool)
  | 0, _, _ => none
  | n + 1, i2, i3 => slices_BinarySearch_Lint_int_b0 a_x a_target (slices_BinarySearch_Lint_int_l0 a_x a_target n) i2 i3
def slices_BinarySearch_Lint_int (a_x : List Int) (a_target : Int) : Option (Int × Bool) :=
 slices_BinarySearch_Lint_int_l0 a_x a_target FUEL 0 (a_x.length : Int)
def buddy_inside (a_z : Zone) (a_frame : Int) (a_order : Int) : Option Bool :=
 chk (shOk a_order) <|
 chk (inI ((1 : Int) * 2 ^ a_order.toNat)) <|
 chk (!(decide (a_z.start ≤ a_frame)) || (!decide (((1 : Int) * 2 ^ a_order.toNat) = 0))) <|
 chk (!(((decide (a_z.start ≤ a_frame)) && (decide ((a_frame.tmod ((1 : Int) * 2 ^ a_order.toNat)) = 0))) && (decide (((1 : Int) * 2 ^ a_order.toNat) ≤ a_z.count))) || inI (a_z.start + a_z.count)) <|
 chk (!(((decide (a_z.start ≤ a_frame)) && (decide ((a_frame.tmod ((1 : Int) * 2 ^ a_order.toNat)) = 0))) && (decide (((1 : Int) * 2 ^ a_order.toNat) ≤ a_z.count))) || inI ((a_z.start + a_z.count) - ((1 : Int) * 2 ^ a_order.toNat))) <|
 some ((((decide (a_z.start ≤ a_frame)) && (decide ((a_frame.tmod ((1 : Int) * 2 ^ a_order.toNat)) = 0))) && (decide (((1 : Int) * 2 ^ a_order.toNat) ≤ a_z.count))) && (decide (a_frame ≤ ((a_z.start + a_z.count) - ((1 : Int) * 2 ^ a_order.toNat)))))
def buddy_put_j0 (a_p0 : Zone) (i1 : Int) (i2 : Int) (l1 : List (List Int)) : Option Zone :=
 chk (inb i2 5) <|
 chk (decide (i2 < (5 : Int))) <|
 (slices_BinarySearch_Lint_int (l1.getD i2.toNat []) i1).bind fun x1 =>
 chk (insOk (l1.getD i2.toNat []) x1.1) <|
 some (⟨a_p0.node, a_p0.kind, a_p0.start, a_p0.count, a_p0.min, setA 5 [] l1 i2.toNat (insL (l1.getD i2.toNat []) x1.1 i1)⟩ : Zone)
def buddy_put_b0 (a_p0 : Zone) (self0 : Int → Int → (List (List Int)) → Option Zone) (i3 : Int) (i4 : Int) (l2 : List (List Int)) : Option Zone :=
 cnd (decide (i4 < 4)) (
 chk (shOk i4) <|
 chk (inI ((1 : Int) * 2 ^ i4.toNat)) <|
 chk (inb i4 5) <|
 chk (decide (i4 < (5 : Int))) <|
 (slices_BinarySearch_Lint_int (l2.getD i4.toNat []) (bitF .xor .i64 i3 ((1 : Int) * 2 ^ i4.toNat))).bind fun x2 =>
 chk (!(!(!x2.2)) || inI (i4 + 1)) <|
 (cnd (!(!x2.2)) (buddy_inside (⟨a_p0.node, a_p0.kind, a_p0.start, a_p0.count, a_p0.min, setA 5 [] l2 i4.toNat (l2.getD i4.toNat [])⟩ : Zone) (min i3 (bitF .xor .i64 i3 ((1 : Int) * 2 ^ i4.toNat))) (i4 + 1)) (some default)).bind fun x3 =>
 cnd ((!x2.2) || (!x3)) (
 buddy_put_j0 a_p0 i3 i4 (setA 5 [] l2 i4.toNat (l2.getD i4.toNat []))) (
 chk (inI (x2.1 + 1)) <|
 chk (delOk ((setA 5 [] l2 i4.toNat (l2.getD i4.toNat [])).getD i4.toNat []) x2.1 (x2.1 + 1)) <|
 chk (inI (i4 + 1)) <|
 self0 (min i3 (bitF .xor .i64 i3 ((1 : Int) * 2 ^ i4.toNat))) (i4 + 1) (setA 5 [] (setA 5 [] l2 i4.toNat (l2.getD i4.toNat [])) i4.toNat (delL ((setA 5 [] l2 i4.toNat (l2.getD i4.toNat [])).getD i4.toNat []) x2.1)))) (
 buddy_put_j0 a_p0 i3 i4 l2)
def buddy_put_l0 (a_p0 : Zone) : Nat → Int → Int → (List (List Int)) → Option Zone
  | 0, _, _, _ => none
  | n + 1, i3, i4, l2 => buddy_put_b0 a_p0 (buddy_put_l0 a_p0 n) i3 i4 l2
def buddy_put (a_p0 : Zone) (a_p1 : Int) (a_p2 : Int) : Option Zone :=
 buddy_put_l0 a_p0 FUEL a_p1 a_p2 a_p0.free
def buddy_New_j0 (d1 : Int) (d2 : Int) (d3 : Int) (d4 : Int) (d5 : Int) (l1 : List (List Int)) : Option (Zone × Int) :=
 some ((⟨d1, d2, d3, d4, d5, l1⟩ : Zone), 0)
def buddy_New_b0 (a_start : Int) (a_count : Int) (self0 : Int → Int → Int → Int → Int → Int → (List (List Int)) → Option (Zone × Int)) (i1 : Int) (d6 : Int) (d7 : Int) (d8 : Int) (d9 : Int) (d10 : Int) (l2 : List (List Int)) : Option (Zone × Int) :=
 chk (inI (a_start + a_count)) <|
 cnd (decide (i1 < (a_start + a_count))) (
 (buddy_put (⟨d6, d7, d8, d9, d10, l2⟩ : Zone) i1 0).bind fun x2 =>
 chk (inI (i1 + 1)) <|
 self0 (i1 + 1) x2.node x2.kind x2.start x2.count x2.min x2.free) (
 buddy_New_j0 d6 d7 d8 d9 d10 l2)
def buddy_New_l0 (a_start : Int) (a_count : Int) : Nat → Int → Int → Int → Int → Int → Int → (List (List Int)) → Option (Zone × Int)
  | 0, _, _, _, _, _, _, _ => none
  | n + 1, i1, d6, d7, d8, d9, d10, l2 => buddy_New_b0 a_start a_count (buddy_New_l0 a_start a_count n) i1 d6 d7 d8 d9 d10 l2
def buddy_New (a_node : Int) (a_kind : Int) (a_start : Int) (a_count : Int) (a_least : Int) : Option (Zone × Int) :=
 (buddy_ranges (⟨a_node, a_kind, a_start, a_count, a_least, (List.replicate 5 ([] : List Int))⟩ : Zone)).bind fun x1 =>
 cnd (!x1) (
 some ((⟨0, 0, 0, 0, 0, (List.replicate 5 ([] : List Int))⟩ : Zone), 2)) (
 buddy_New_l0 a_start a_count FUEL a_start a_node a_kind a_start a_count a_least (List.replicate 5 ([] : List Int)))
def percpu_New (a_zones : Int) : Option (CpuCache × Int) :=
 cnd ((decide (a_zones < 1)) || (decide (6 < a_zones))) (
 some ((⟨([] : List (List Int))⟩ : CpuCache), 1)) (
 chk (decide (0 ≤ a_zones) && decide (a_zones ≤ a_zones) && decide (a_zones * (24 : Int) ≤ 4294967296)) <|
 some ((⟨List.replicate a_zones.toNat ([] : List Int)⟩ : CpuCache), 0))
def allocator_New_j2 (a_p1 : Int) (a_p2 : Int) (d1 : List Int) (l1 : List Zone) (l2 : List CpuCache) : Option (Allocator × Int) :=
 some ((⟨d1, a_p1, a_p2, l1, l2⟩ : Allocator), 0)
def allocator_New_b0 (a_p0 : List Int) (a_p1 : Int) (a_p2 : Int) (a_p3 : List ZoneSpec) (d1 : List Int) (l1 : List Zone) (self0 : Int → (List CpuCache) → Option (Allocator × Int)) (i1 : Int) (l3 : List CpuCache) : Option (Allocator × Int) :=
 cnd (decide (i1 < (a_p0.length : Int))) (
 (percpu_New (a_p3.length : Int)).bind fun x2 =>
 chk (decide ((l3.length + [x2.1].length) * 24 ≤ 4294967296)) <|
 chk (inI (i1 + 1)) <|
 self0 (i1 + 1) (l3 ++ [x2.1])) (
 allocator_New_j2 a_p1 a_p2 d1 l1 l3)
def allocator_New_l0 (a_p0 : List Int) (a_p1 : Int) (a_p2 : Int) (a_p3 : List ZoneSpec) (d1 : List Int) (l1 : List Zone) : Nat → Int → (List CpuCache) → Option (Allocator × Int)
  | 0, _, _ => none
  | n + 1, i1, l3 => allocator_New_b0 a_p0 a_p1 a_p2 a_p3 d1 l1 (allocator_New_l0 a_p0 a_p1 a_p2 a_p3 d1 l1 n) i1 l3
def allocator_New_j1 (a_p0 : List Int) (a_p1 : Int) (a_p2 : Int) (a_p3 : List ZoneSpec) (d1 : List Int) (l1 : List Zone) : Option (Allocator × Int) :=
 allocator_New_l0 a_p0 a_p1 a_p2 a_p3 d1 l1 FUEL 0 ([] : List CpuCache)
def allocator_New_b1 (a_p0 : List Int) (a_p1 : Int) (a_p2 : Int) (a_p3 : List ZoneSpec) (d1 : List Int) (self1 : Int → Int → (List Zone) → Option (Allocator × Int)) (i2 : Int) (i3 : Int) (l4 : List Zone) : Option (Allocator × Int) :=
 cnd (decide (i3 < (a_p3.length : Int))) (
 chk (inb i3 a_p3.length) <|
 (buddy_New ((at_ a_p3 i3).node) ((at_ a_p3 i3).kind) i2 ((at_ a_p3 i3).count) ((at_ a_p3 i3).min)).bind fun x3 =>
 cnd (!decide (x3.2 = 0)) (
 some ((⟨([] : List Int), 0, 0, ([] : List Zone), ([] : List CpuCache)⟩ : Allocator), x3.2)) (
 chk (inb i3 l4.length) <|
 chk (inI (i2 + ((at_ a_p3 i3).count))) <|
 chk (inI (i3 + 1)) <|
 self1 (i2 + ((at_ a_p3 i3).count)) (i3 + 1) (l4.set i3.toNat x3.1))) (
 allocator_New_j1 a_p0 a_p1 a_p2 a_p3 d1 l4)
def allocator_New_l1 (a_p0 : List Int) (a_p1 : Int) (a_p2 : Int) (a_p3 : List ZoneSpec) (d1 : List Int) : Nat → Int → Int → (List Zone) → Option (Allocator × Int)
  | 0, _, _, _ => none
  | n + 1, i2, i3, l4 => allocator_New_b1 a_p0 a_p1 a_p2 a_p3 d1 (allocator_New_l1 a_p0 a_p1 a_p2 a_p3 d1 n) i2 i3 l4
def allocator_New_j0 (a_p0 : List Int) (a_p1 : Int) (a_p2 : Int) (a_p3 : List ZoneSpec) (d1 : List Int) : Option (Allocator × Int) :=
 (allocator_machine (⟨d1, a_p1, a_p2, List.replicate (a_p3.length : Int).toNat (zZone), ([] : List CpuCache)⟩ : Allocator)).bind fun x1 =>
 cnd (!x1) (
 some ((⟨([] : List Int), 0, 0, ([] : List Zone), ([] : List CpuCache)⟩ : Allocator), 2)) (
 allocator_New_l1 a_p0 a_p1 a_p2 a_p3 d1 FUEL 0 0 (List.replicate (a_p3.length : Int).toNat (zZone)))
def allocator_New (a_p0 : List Int) (a_p1 : Int) (a_p2 : Int) (a_p3 : List ZoneSpec) : Option (Allocator × Int) :=
 (slices_Clone_Lint_int a_p0).bind fun x4 =>
 chk (decide (0 ≤ (a_p3.length : Int)) && decide ((a_p3.length : Int) ≤ (a_p3.length : Int)) && decide ((a_p3.length : Int) * (160 : Int) ≤ 4294967296)) <|
 allocator_New_j0 a_p0 a_p1 a_p2 a_p3 x4
def buddy_Check_j2  : Option Int :=
 some 0
def buddy_Check_j3 (self0 : Int → Option Int) (i1 : Int) : Option Int :=
 chk (inI (i1 + 1)) <|
 self0 (i1 + 1)
def buddy_Check_b1 (self0 : Int → Option Int) (a_p0 : Zone) (i1 : Int) (self1 : Int → Option Int) (i2 : Int) : Option Int :=
 cnd (decide (i2 < ((a_p0.free.getD i1.toNat ([] : List Int)).length : Int))) (
 chk (inb i2 (a_p0.free.getD i1.toNat ([] : List Int)).length) <|
 chk (shOk i1) <|
 chk (inI ((1 : Int) * 2 ^ i1.toNat)) <|
 chk (inb i1 5) <|
 (slices_BinarySearch_Lint_int (a_p0.free.getD i1.toNat ([] : List Int)) (bitF .xor .i64 (at_ (a_p0.free.getD i1.toNat ([] : List Int)) i2) ((1 : Int) * 2 ^ i1.toNat))).bind fun x2 =>
 chk (!x2.2 || inI (i1 + 1)) <|
 (cnd x2.2 (buddy_inside a_p0 (min (at_ (a_p0.free.getD i1.toNat ([] : List Int)) i2) (bitF .xor .i64 (at_ (a_p0.free.getD i1.toNat ([] : List Int)) i2) ((1 : Int) * 2 ^ i1.toNat))) (i1 + 1)) (some default)).bind fun x3 =>
 cnd (x2.2 && x3) (
 some 11) (
 chk (inI (i2 + 1)) <|
 self1 (i2 + 1))) (
 buddy_Check_j3 self0 i1)
def buddy_Check_l1 (self0 : Int → Option Int) (a_p0 : Zone) (i1 : Int) : Nat → Int → Option Int
  | 0, _ => none
  | n + 1, i2 => buddy_Check_b1 self0 a_p0 i1 (buddy_Check_l1 self0 a_p0 i1 n) i2
def buddy_Check_b0 (a_p0 : Zone) (self0 : Int → Option Int) (i1 : Int) : Option Int :=
 cnd (decide (i1 < 4)) (
 chk (inb i1 5) <|
 buddy_Check_l1 self0 a_p0 i1 FUEL 0) (
 buddy_Check_j2 )
def buddy_Check_l0 (a_p0 : Zone) : Nat → Int → Option Int
  | 0, _ => none
  | n + 1, i1 => buddy_Check_b0 a_p0 (buddy_Check_l0 a_p0 n) i1
def buddy_Check_j1 (a_p0 : Zone) : Option Int :=
 buddy_Check_l0 a_p0 FUEL 0
def buddy_Check_j4 (self2 : Int → (List Bool) → Option Int) (i3 : Int) (d2 : List Bool) : Option Int :=
 chk (inI (i3 + 1)) <|
 self2 (i3 + 1) d2
def buddy_Check_j5 (self3 : Int → (List Bool) → Option Int) (i4 : Int) (d4 : List Bool) : Option Int :=
 chk (inI (i4 + 1)) <|
 self3 (i4 + 1) d4
def buddy_Check_b4 (self3 : Int → (List Bool) → Option Int) (a_p0 : Zone) (i3 : Int) (i4 : Int) (self4 : Int → (List Bool) → Option Int) (i5 : Int) (d5 : List Bool) : Option Int :=
 chk (shOk i3) <|
 chk (inI ((1 : Int) * 2 ^ i3.toNat)) <|
 chk (inI ((at_ (a_p0.free.getD i3.toNat ([] : List Int)) i4) + ((1 : Int) * 2 ^ i3.toNat))) <|
 cnd (decide (i5 < ((at_ (a_p0.free.getD i3.toNat ([] : List Int)) i4) + ((1 : Int) * 2 ^ i3.toNat)))) (
 chk (inb i5 256) <|
 cnd (d5.getD i5.toNat false) (
 some 7) (
 chk (inI (i5 + 1)) <|
 self4 (i5 + 1) (setA 256 false d5 i5.toNat true))) (
 buddy_Check_j5 self3 i4 d5)
def buddy_Check_l4 (self3 : Int → (List Bool) → Option Int) (a_p0 : Zone) (i3 : Int) (i4 : Int) : Nat → Int → (List Bool) → Option Int
  | 0, _, _ => none
  | n + 1, i5, d5 => buddy_Check_b4 self3 a_p0 i3 i4 (buddy_Check_l4 self3 a_p0 i3 i4 n) i5 d5
def buddy_Check_b3 (self2 : Int → (List Bool) → Option Int) (a_p0 : Zone) (i3 : Int) (self3 : Int → (List Bool) → Option Int) (i4 : Int) (d3 : List Bool) : Option Int :=
 cnd (decide (i4 < ((a_p0.free.getD i3.toNat ([] : List Int)).length : Int))) (
 chk (inb i4 (a_p0.free.getD i3.toNat ([] : List Int)).length) <|
 buddy_Check_l4 self3 a_p0 i3 i4 FUEL (at_ (a_p0.free.getD i3.toNat ([] : List Int)) i4) d3) (
 buddy_Check_j4 self2 i3 d3)
def buddy_Check_l3 (self2 : Int → (List Bool) → Option Int) (a_p0 : Zone) (i3 : Int) : Nat → Int → (List Bool) → Option Int
  | 0, _, _ => none
  | n + 1, i4, d3 => buddy_Check_b3 self2 a_p0 i3 (buddy_Check_l3 self2 a_p0 i3 n) i4 d3
def buddy_Check_b2 (a_p0 : Zone) (self2 : Int → (List Bool) → Option Int) (i3 : Int) (d1 : List Bool) : Option Int :=
 cnd (decide (i3 < 5)) (
 chk (inb i3 5) <|
 buddy_Check_l3 self2 a_p0 i3 FUEL 0 d1) (
 buddy_Check_j1 a_p0)
def buddy_Check_l2 (a_p0 : Zone) : Nat → Int → (List Bool) → Option Int
  | 0, _, _ => none
  | n + 1, i3, d1 => buddy_Check_b2 a_p0 (buddy_Check_l2 a_p0 n) i3 d1
def buddy_Check_j0 (a_p0 : Zone) : Option Int :=
 buddy_Check_l2 a_p0 FUEL 0 (List.replicate 256 false)
def buddy_Check_j6 (self5 : Int → Option Int) (i6 : Int) : Option Int :=
 chk (inI (i6 + 1)) <|
 self5 (i6 + 1)
def buddy_Check_b6 (self5 : Int → Option Int) (a_p0 : Zone) (i6 : Int) (self6 : Int → Option Int) (i7 : Int) : Option Int :=
 cnd (decide (i7 < ((a_p0.free.getD i6.toNat ([] : List Int)).length : Int))) (
 chk (inb i7 (a_p0.free.getD i6.toNat ([] : List Int)).length) <|
 (buddy_inside a_p0 (at_ (a_p0.free.getD i6.toNat ([] : List Int)) i7) i6).bind fun x4 =>
 cnd (!x4) (
 some 3) (
 chk (!(decide (0 < i7)) || inI (i7 - 1)) <|
 chk (!(decide (0 < i7)) || inb (i7 - 1) (a_p0.free.getD i6.toNat ([] : List Int)).length) <|
 cnd ((decide (0 < i7)) && (decide ((at_ (a_p0.free.getD i6.toNat ([] : List Int)) i7) ≤ (at_ (a_p0.free.getD i6.toNat ([] : List Int)) (i7 - 1))))) (
 some 10) (
 chk (inI (i7 + 1)) <|
 self6 (i7 + 1)))) (
 buddy_Check_j6 self5 i6)
def buddy_Check_l6 (self5 : Int → Option Int) (a_p0 : Zone) (i6 : Int) : Nat → Int → Option Int
  | 0, _ => none
  | n + 1, i7 => buddy_Check_b6 self5 a_p0 i6 (buddy_Check_l6 self5 a_p0 i6 n) i7
def buddy_Check_b5 (a_p0 : Zone) (self5 : Int → Option Int) (i6 : Int) : Option Int :=
 cnd (decide (i6 < 5)) (
 chk (inb i6 5) <|
 buddy_Check_l6 self5 a_p0 i6 FUEL 0) (
 buddy_Check_j0 a_p0)
def buddy_Check_l5 (a_p0 : Zone) : Nat → Int → Option Int
  | 0, _ => none
  | n + 1, i6 => buddy_Check_b5 a_p0 (buddy_Check_l5 a_p0 n) i6
def buddy_Check (a_p0 : Zone) : Option Int :=
 (buddy_ranges a_p0).bind fun x1 =>
 cnd (!x1) (
 some 2) (
 buddy_Check_l5 a_p0 FUEL 0)
def percpu_isFrame (a_f : Int) : Option Bool :=
 some ((decide (0 ≤ a_f)) && (decide (a_f < 256)))
def percpu_frames_j0 (l1 : List (Int × Bool)) : Option (List (Int × Bool)) :=
 some l1
def percpu_frames_j1 (self0 : Int → (List (Int × Bool)) → Option (List (Int × Bool))) (i1 : Int) (l3 : List (Int × Bool)) : Option (List (Int × Bool)) :=
 chk (inI (i1 + 1)) <|
 self0 (i1 + 1) l3
def percpu_frames_b1 (self0 : Int → (List (Int × Bool)) → Option (List (Int × Bool))) (a_c : CpuCache) (i1 : Int) (self1 : Int → (List (Int × Bool)) → Option (List (Int × Bool))) (i2 : Int) (l4 : List (Int × Bool)) : Option (List (Int × Bool)) :=
 cnd (decide (i2 < ((at_ a_c.lists i1).length : Int))) (
 chk (inb i2 (at_ a_c.lists i1).length) <|
 chk (inI (i2 + 1)) <|
 self1 (i2 + 1) (mset l4 (at_ (at_ a_c.lists i1) i2) true)) (
 percpu_frames_j1 self0 i1 l4)
def percpu_frames_l1 (self0 : Int → (List (Int × Bool)) → Option (List (Int × Bool))) (a_c : CpuCache) (i1 : Int) : Nat → Int → (List (Int × Bool)) → Option (List (Int × Bool))
  | 0, _, _ => none
  | n + 1, i2, l4 => percpu_frames_b1 self0 a_c i1 (percpu_frames_l1 self0 a_c i1 n) i2 l4
def percpu_frames_b0 (a_c : CpuCache) (self0 : Int → (List (Int × Bool)) → Option (List (Int × Bool))) (i1 : Int) (l2 : List (Int × Bool)) : Option (List (Int × Bool)) :=
 cnd (decide (i1 < (a_c.lists.length : Int))) (
 chk (inb i1 a_c.lists.length) <|
 percpu_frames_l1 self0 a_c i1 FUEL 0 l2) (
 percpu_frames_j0 l2)
def percpu_frames_l0 (a_c : CpuCache) : Nat → Int → (List (Int × Bool)) → Option (List (Int × Bool))
  | 0, _, _ => none
  | n + 1, i1, l2 => percpu_frames_b0 a_c (percpu_frames_l0 a_c n) i1 l2
def percpu_frames (a_c : CpuCache) : Option (List (Int × Bool)) :=
 percpu_frames_l0 a_c FUEL 0 ([] : List (Int × Bool))
def percpu_Check_j0 (a_c : CpuCache) (i1 : Int) : Option Int :=
 (percpu_frames a_c).bind fun x1 =>
 cnd (!decide ((x1.length : Int) = i1)) (
 some 7) (
 some 0)
def percpu_Check_j1 (self0 : Int → Int → Option Int) (a_c : CpuCache) (i2 : Int) (i3 : Int) : Option Int :=
 chk (inI (i3 + 1)) <|
 self0 (i2 + ((at_ a_c.lists i3).length : Int)) (i3 + 1)
def percpu_Check_j2 (self0 : Int → Int → Option Int) (a_c : CpuCache) (i2 : Int) (i3 : Int) : Option Int :=
 chk (inI (i2 + ((at_ a_c.lists i3).length : Int))) <|
 percpu_Check_j1 self0 a_c i2 i3
def percpu_Check_b1 (self0 : Int → Int → Option Int) (a_c : CpuCache) (i2 : Int) (i3 : Int) (self1 : Int → Option Int) (i4 : Int) : Option Int :=
 cnd (decide (i4 < ((at_ a_c.lists i3).length : Int))) (
 chk (inb i4 (at_ a_c.lists i3).length) <|
 (percpu_isFrame (at_ (at_ a_c.lists i3) i4)).bind fun x2 =>
 cnd (!x2) (
 some 2) (
 chk (inI (i4 + 1)) <|
 self1 (i4 + 1))) (
 percpu_Check_j2 self0 a_c i2 i3)
def percpu_Check_l1 (self0 : Int → Int → Option Int) (a_c : CpuCache) (i2 : Int) (i3 : Int) : Nat → Int → Option Int
  | 0, _ => none
  | n + 1, i4 => percpu_Check_b1 self0 a_c i2 i3 (percpu_Check_l1 self0 a_c i2 i3 n) i4
def percpu_Check_b0 (a_c : CpuCache) (self0 : Int → Int → Option Int) (i2 : Int) (i3 : Int) : Option Int :=
 cnd (decide (i3 < (a_c.lists.length : Int))) (
 chk (inb i3 a_c.lists.length) <|
 percpu_Check_l1 self0 a_c i2 i3 FUEL 0) (
 percpu_Check_j0 a_c i2)
def percpu_Check_l0 (a_c : CpuCache) : Nat → Int → Int → Option Int
  | 0, _, _ => none
  | n + 1, i2, i3 => percpu_Check_b0 a_c (percpu_Check_l0 a_c n) i2 i3
def percpu_Check (a_c : CpuCache) (a_zones : Int) : Option Int :=
 cnd ((decide (a_zones < 1)) || (decide (6 < a_zones))) (
 some 1) (
 cnd (!decide ((a_c.lists.length : Int) = a_zones)) (
 some 3) (
 percpu_Check_l0 a_c FUEL 0 0))
def allocator_zone_1 (a_z : Zone) (c_0 : Int) : Option Bool :=
 chk (!(decide (a_z.start ≤ c_0)) || inI (a_z.start + a_z.count)) <|
 some ((decide (a_z.start ≤ c_0)) && (decide (c_0 < (a_z.start + a_z.count))))
def slices_IndexFunc_Lapi_Zone_api_Zone_j0  : Option Int :=
 some (-1)
def slices_IndexFunc_Lapi_Zone_api_Zone_b0 (a_s : List Zone) (a_f : Zone → Option Bool) (self0 : Int → Option Int) (i1 : Int) : Option Int :=
 cnd (decide (i1 < (a_s.length : Int))) (
 chk (inb i1 a_s.length) <|
 (a_f (at_ a_s i1)).bind fun x1 =>
 cnd (x1) (
 some i1) (
 chk (inI (i1 + 1)) <|
 self0 (i1 + 1))) (
 slices_IndexFunc_Lapi_Zone_api_Zone_j0 )
def slices_IndexFunc_Lapi_Zone_api_Zone_l0 (a_s : List Zone) (a_f : Zone → Option Bool) : Nat → Int → Option Int
  | 0, _ => none
  | n + 1, i1 => slices_IndexFunc_Lapi_Zone_api_Zone_b0 a_s a_f (slices_IndexFunc_Lapi_Zone_api_Zone_l0 a_s a_f n) i1
def slices_IndexFunc_Lapi_Zone_api_Zone (a_s : List Zone) (a_f : Zone → Option Bool) : Option Int :=
 slices_IndexFunc_Lapi_Zone_api_Zone_l0 a_s a_f FUEL 0
def allocator_zone (a_a : Allocator) (a_frame : Int) : Option Int :=
 (slices_IndexFunc_Lapi_Zone_api_Zone a_a.zones (fun y0 => allocator_zone_1 y0 a_frame)).bind fun x1 =>
 some x1
def buddy_block_j0  : Option (Int × Int) :=
 some ((-1), 0)
def buddy_block_b0 (a_z : Zone) (a_frame : Int) (self0 : Int → Option (Int × Int)) (i1 : Int) : Option (Int × Int) :=
 cnd (decide (i1 < 5)) (
 chk (shOk i1) <|
 chk (inI ((1 : Int) * 2 ^ i1.toNat)) <|
 chk (inI (((1 : Int) * 2 ^ i1.toNat) - 1)) <|
 chk (inb i1 5) <|
 (slices_BinarySearch_Lint_int (a_z.free.getD i1.toNat ([] : List Int)) (bitF .andNot .i64 a_frame (((1 : Int) * 2 ^ i1.toNat) - 1))).bind fun x1 =>
 cnd (x1.2) (
 some (i1, bitF .andNot .i64 a_frame (((1 : Int) * 2 ^ i1.toNat) - 1))) (
 chk (inI (i1 + 1)) <|
 self0 (i1 + 1))) (
 buddy_block_j0 )
def buddy_block_l0 (a_z : Zone) (a_frame : Int) : Nat → Int → Option (Int × Int)
  | 0, _ => none
  | n + 1, i1 => buddy_block_b0 a_z a_frame (buddy_block_l0 a_z a_frame n) i1
def buddy_block (a_z : Zone) (a_frame : Int) : Option (Int × Int) :=
 buddy_block_l0 a_z a_frame FUEL 0
def buddy_IsFree (a_z : Zone) (a_frame : Int) : Option Bool :=
 (buddy_Check a_z).bind fun x1 =>
 (cnd (!(!decide (x1 = 0))) (buddy_inside a_z a_frame 0) (some default)).bind fun x2 =>
 cnd ((!decide (x1 = 0)) || (!x2)) (
 some false) (
 (buddy_block a_z a_frame).bind fun x3 =>
 some (decide (0 ≤ x3.1)))
def allocator_Check_j2  : Option Int :=
 some 0
def allocator_Check_j3 (self0 : Int → (List (Int × Bool)) → Option Int) (i1 : Int) (l2 : List (Int × Bool)) : Option Int :=
 chk (inI (i1 + 1)) <|
 self0 (i1 + 1) l2
def allocator_Check_j4 (self1 : Int → (List (Int × Bool)) → Option Int) (i2 : Int) (l4 : List (Int × Bool)) : Option Int :=
 chk (inI (i2 + 1)) <|
 self1 (i2 + 1) l4
def allocator_Check_b2 (self1 : Int → (List (Int × Bool)) → Option Int) (a_p0 : Allocator) (i1 : Int) (i2 : Int) (self2 : Int → (List (Int × Bool)) → Option Int) (i3 : Int) (l5 : List (Int × Bool)) : Option Int :=
 cnd (decide (i3 < ((at_ ((at_ a_p0.caches i1).lists) i2).length : Int))) (
 chk (inb i3 (at_ ((at_ a_p0.caches i1).lists) i2).length) <|
 (allocator_zone a_p0 (at_ (at_ ((at_ a_p0.caches i1).lists) i2) i3)).bind fun x2 =>
 cnd (!decide (x2 = i2)) (
 some 2) (
 chk (!(!(mget false l5 (at_ (at_ ((at_ a_p0.caches i1).lists) i2) i3))) || inb i2 a_p0.zones.length) <|
 (cnd (!(mget false l5 (at_ (at_ ((at_ a_p0.caches i1).lists) i2) i3))) (buddy_IsFree (at_ a_p0.zones i2) (at_ (at_ ((at_ a_p0.caches i1).lists) i2) i3)) (some default)).bind fun x3 =>
 cnd ((mget false l5 (at_ (at_ ((at_ a_p0.caches i1).lists) i2) i3)) || x3) (
 some 7) (
 chk (inI (i3 + 1)) <|
 self2 (i3 + 1) (mset l5 (at_ (at_ ((at_ a_p0.caches i1).lists) i2) i3) true)))) (
 allocator_Check_j4 self1 i2 l5)
def allocator_Check_l2 (self1 : Int → (List (Int × Bool)) → Option Int) (a_p0 : Allocator) (i1 : Int) (i2 : Int) : Nat → Int → (List (Int × Bool)) → Option Int
  | 0, _, _ => none
  | n + 1, i3, l5 => allocator_Check_b2 self1 a_p0 i1 i2 (allocator_Check_l2 self1 a_p0 i1 i2 n) i3 l5
def allocator_Check_b1 (self0 : Int → (List (Int × Bool)) → Option Int) (a_p0 : Allocator) (i1 : Int) (self1 : Int → (List (Int × Bool)) → Option Int) (i2 : Int) (l3 : List (Int × Bool)) : Option Int :=
 cnd (decide (i2 < (((at_ a_p0.caches i1).lists).length : Int))) (
 chk (inb i2 ((at_ a_p0.caches i1).lists).length) <|
 allocator_Check_l2 self1 a_p0 i1 i2 FUEL 0 l3) (
 allocator_Check_j3 self0 i1 l3)
def allocator_Check_l1 (self0 : Int → (List (Int × Bool)) → Option Int) (a_p0 : Allocator) (i1 : Int) : Nat → Int → (List (Int × Bool)) → Option Int
  | 0, _, _ => none
  | n + 1, i2, l3 => allocator_Check_b1 self0 a_p0 i1 (allocator_Check_l1 self0 a_p0 i1 n) i2 l3
def allocator_Check_b0 (a_p0 : Allocator) (self0 : Int → (List (Int × Bool)) → Option Int) (i1 : Int) (l1 : List (Int × Bool)) : Option Int :=
 cnd (decide (i1 < (a_p0.caches.length : Int))) (
 chk (inb i1 a_p0.caches.length) <|
 allocator_Check_l1 self0 a_p0 i1 FUEL 0 l1) (
 allocator_Check_j2 )
def allocator_Check_l0 (a_p0 : Allocator) : Nat → Int → (List (Int × Bool)) → Option Int
  | 0, _, _ => none
  | n + 1, i1, l1 => allocator_Check_b0 a_p0 (allocator_Check_l0 a_p0 n) i1 l1
def allocator_Check_j1 (a_p0 : Allocator) : Option Int :=
 allocator_Check_l0 a_p0 FUEL 0 ([] : List (Int × Bool))
def allocator_Check_j5 (self3 : Int → Option Int) (i4 : Int) : Option Int :=
 chk (inI (i4 + 1)) <|
 self3 (i4 + 1)
def allocator_Check_b4 (self3 : Int → Option Int) (a_p0 : Allocator) (i4 : Int) (self4 : Int → Option Int) (i5 : Int) : Option Int :=
 cnd (decide (i5 < (((at_ a_p0.caches i4).lists).length : Int))) (
 chk (inb i5 ((at_ a_p0.caches i4).lists).length) <|
 cnd (decide (a_p0.high < ((at_ ((at_ a_p0.caches i4).lists) i5).length : Int))) (
 some 9) (
 chk (inI (i5 + 1)) <|
 self4 (i5 + 1))) (
 allocator_Check_j5 self3 i4)
def allocator_Check_l4 (self3 : Int → Option Int) (a_p0 : Allocator) (i4 : Int) : Nat → Int → Option Int
  | 0, _ => none
  | n + 1, i5 => allocator_Check_b4 self3 a_p0 i4 (allocator_Check_l4 self3 a_p0 i4 n) i5
def allocator_Check_b3 (a_p0 : Allocator) (self3 : Int → Option Int) (i4 : Int) : Option Int :=
 cnd (decide (i4 < (a_p0.caches.length : Int))) (
 chk (inb i4 a_p0.caches.length) <|
 (percpu_Check (at_ a_p0.caches i4) (a_p0.zones.length : Int)).bind fun x4 =>
 cnd (!decide (x4 = 0)) (
 some x4) (
 allocator_Check_l4 self3 a_p0 i4 FUEL 0)) (
 allocator_Check_j1 a_p0)
def allocator_Check_l3 (a_p0 : Allocator) : Nat → Int → Option Int
  | 0, _ => none
  | n + 1, i4 => allocator_Check_b3 a_p0 (allocator_Check_l3 a_p0 n) i4
def allocator_Check_j0 (a_p0 : Allocator) : Option Int :=
 cnd (!decide ((a_p0.caches.length : Int) = (a_p0.nodes.length : Int))) (
 some 3) (
 allocator_Check_l3 a_p0 FUEL 0)
def allocator_Check_b5 (a_p0 : Allocator) (self5 : Int → Int → Option Int) (i6 : Int) (i7 : Int) : Option Int :=
 cnd (decide (i7 < (a_p0.zones.length : Int))) (
 chk (inb i7 a_p0.zones.length) <|
 (buddy_Check (at_ a_p0.zones i7)).bind fun x5 =>
 cnd (!decide (x5 = 0)) (
 some x5) (
 cnd (!decide (((at_ a_p0.zones i7).start) = i6)) (
 some 10) (
 chk (inI (i6 + ((at_ a_p0.zones i7).count))) <|
 chk (inI (i7 + 1)) <|
 self5 (i6 + ((at_ a_p0.zones i7).count)) (i7 + 1)))) (
 allocator_Check_j0 a_p0)
def allocator_Check_l5 (a_p0 : Allocator) : Nat → Int → Int → Option Int
  | 0, _, _ => none
  | n + 1, i6, i7 => allocator_Check_b5 a_p0 (allocator_Check_l5 a_p0 n) i6 i7
def allocator_Check (a_p0 : Allocator) : Option Int :=
 (allocator_machine a_p0).bind fun x1 =>
 cnd (!x1) (
 some 2) (
 allocator_Check_l5 a_p0 FUEL 0 0)
def allocator_Frames (a_a : Allocator) : Option Int :=
 (allocator_Check a_a).bind fun x1 =>
 cnd (!decide (x1 = 0)) (
 some 0) (
 chk (inI ((a_a.zones.length : Int) - 1)) <|
 chk (inb ((a_a.zones.length : Int) - 1) a_a.zones.length) <|
 chk (inI (((at_ a_a.zones ((a_a.zones.length : Int) - 1)).start) + ((at_ a_a.zones ((a_a.zones.length : Int) - 1)).count))) <|
 some (((at_ a_a.zones ((a_a.zones.length : Int) - 1)).start) + ((at_ a_a.zones ((a_a.zones.length : Int) - 1)).count)))
def buddy_Unusable_j0 (i1 : Int) : Option Int :=
 some i1
def buddy_Unusable_b0 (a_z : Zone) (a_order : Int) (self0 : Int → Int → Option Int) (i2 : Int) (i3 : Int) : Option Int :=
 cnd (decide (i3 < ((cutL a_z.free 0 a_order).length : Int))) (
 chk (inb i3 (cutL a_z.free 0 a_order).length) <|
 chk (shOk i3) <|
 chk (inI (((at_ (cutL a_z.free 0 a_order) i3).length : Int) * 2 ^ i3.toNat)) <|
 chk (inI (i2 + (((at_ (cutL a_z.free 0 a_order) i3).length : Int) * 2 ^ i3.toNat))) <|
 chk (inI (i3 + 1)) <|
 self0 (i2 + (((at_ (cutL a_z.free 0 a_order) i3).length : Int) * 2 ^ i3.toNat)) (i3 + 1)) (
 buddy_Unusable_j0 i2)
def buddy_Unusable_l0 (a_z : Zone) (a_order : Int) : Nat → Int → Int → Option Int
  | 0, _, _ => none
  | n + 1, i2, i3 => buddy_Unusable_b0 a_z a_order (buddy_Unusable_l0 a_z a_order n) i2 i3
def buddy_Unusable (a_z : Zone) (a_order : Int) : Option Int :=
 (buddy_Check a_z).bind fun x1 =>
 cnd (((!decide (x1 = 0)) || (decide (a_order < 0))) || (decide (4 < a_order))) (
 some 0) (
 chk (cutOk 0 a_order 5) <|
 chk (decide (a_z.free.length = 5)) <|
 buddy_Unusable_l0 a_z a_order FUEL 0 0)
def buddy_last (a_z : Zone) : Option Int :=
 (buddy_Check a_z).bind fun x1 =>
 cnd (!decide (x1 = 0)) (
 some 0) (
 chk (inI (((a_z.free.getD (4 : Int).toNat ([] : List Int)).length : Int) * 2 ^ (4 : Int).toNat)) <|
 some (((a_z.free.getD (4 : Int).toNat ([] : List Int)).length : Int) * 2 ^ (4 : Int).toNat))
def buddy_Count (a_z : Zone) : Option Int :=
 (buddy_Unusable a_z 4).bind fun x1 =>
 (buddy_last a_z).bind fun x2 =>
 chk (inI (x1 + x2)) <|
 some (x1 + x2)
def allocator_count_j0 (i1 : Int) : Option Int :=
 some i1
def allocator_count_b0 (a_a : Allocator) (a_z : Int) (self0 : Int → Int → Option Int) (i2 : Int) (i3 : Int) : Option Int :=
 cnd (decide (i3 < (a_a.caches.length : Int))) (
 chk (inb i3 a_a.caches.length) <|
 chk (inb a_z ((at_ a_a.caches i3).lists).length) <|
 chk (inI (i2 + ((at_ ((at_ a_a.caches i3).lists) a_z).length : Int))) <|
 chk (inI (i3 + 1)) <|
 self0 (i2 + ((at_ ((at_ a_a.caches i3).lists) a_z).length : Int)) (i3 + 1)) (
 allocator_count_j0 i2)
def allocator_count_l0 (a_a : Allocator) (a_z : Int) : Nat → Int → Int → Option Int
  | 0, _, _ => none
  | n + 1, i2, i3 => allocator_count_b0 a_a a_z (allocator_count_l0 a_a a_z n) i2 i3
def allocator_count (a_a : Allocator) (a_z : Int) : Option Int :=
 chk (inb a_z a_a.zones.length) <|
 (buddy_Count (at_ a_a.zones a_z)).bind fun x1 =>
 allocator_count_l0 a_a a_z FUEL x1 0
def allocator_room (a_a : Allocator) (a_z : Int) : Option Int :=
 (allocator_count a_a a_z).bind fun x1 =>
 chk (inb a_z a_a.zones.length) <|
 chk (inI (x1 - ((at_ a_a.zones a_z).min))) <|
 some (x1 - ((at_ a_a.zones a_z).min))
def allocator_Headroom_j0 (i1 : Int) (i2 : Int) : Option (Int × Int) :=
 some (i1, i2)
def allocator_Headroom_j1 (self0 : Int → Int → Int → Option (Int × Int)) (i5 : Int) (i6 : Int) (i7 : Int) : Option (Int × Int) :=
 chk (inI (i5 + 1)) <|
 self0 i6 i7 (i5 + 1)
def allocator_Headroom_b0 (a_a : Allocator) (self0 : Int → Int → Int → Option (Int × Int)) (i3 : Int) (i4 : Int) (i5 : Int) : Option (Int × Int) :=
 cnd (decide (i5 < (a_a.zones.length : Int))) (
 chk (inb i5 a_a.zones.length) <|
 (allocator_room a_a i5).bind fun x2 =>
 chk (inI (i4 + x2)) <|
 cnd (decide (((at_ a_a.zones i5).kind) = 0)) (
 chk (inI (i3 + x2)) <|
 allocator_Headroom_j1 self0 i5 (i3 + x2) (i4 + x2)) (
 allocator_Headroom_j1 self0 i5 i3 (i4 + x2))) (
 allocator_Headroom_j0 i3 i4)
def allocator_Headroom_l0 (a_a : Allocator) : Nat → Int → Int → Int → Option (Int × Int)
  | 0, _, _, _ => none
  | n + 1, i3, i4, i5 => allocator_Headroom_b0 a_a (allocator_Headroom_l0 a_a n) i3 i4 i5
def allocator_Headroom (a_a : Allocator) : Option (Int × Int) :=
 (allocator_Check a_a).bind fun x1 =>
 cnd (!decide (x1 = 0)) (
 some (0, 0)) (
 allocator_Headroom_l0 a_a FUEL 0 0 0)
def zonelist_Check_j0  : Option Int :=
 some 0
def zonelist_Check_b0 (a_zones : List Zone) (self0 : Int → Option Int) (i1 : Int) : Option Int :=
 cnd (decide (i1 < (a_zones.length : Int))) (
 chk (inb i1 a_zones.length) <|
 cnd ((decide (((at_ a_zones i1).node) < 0)) || (decide (4 ≤ ((at_ a_zones i1).node)))) (
 some 2) (
 cnd ((!decide (((at_ a_zones i1).kind) = 0)) && (!decide (((at_ a_zones i1).kind) = 1))) (
 some 1) (
 chk (inI (i1 + 1)) <|
 self0 (i1 + 1)))) (
 zonelist_Check_j0 )
def zonelist_Check_l0 (a_zones : List Zone) : Nat → Int → Option Int
  | 0, _ => none
  | n + 1, i1 => zonelist_Check_b0 a_zones (zonelist_Check_l0 a_zones n) i1
def zonelist_Check (a_zones : List Zone) : Option Int :=
 cnd (decide (6 < (a_zones.length : Int))) (
 some 9) (
 zonelist_Check_l0 a_zones FUEL 0)
def zonelist_check (a_zones : List Zone) (a_node : Int) : Option Int :=
 (zonelist_Check a_zones).bind fun x1 =>
 cnd (!decide (x1 = 0)) (
 some x1) (
 cnd ((decide (a_node < 0)) || (decide (4 ≤ a_node))) (
 some 2) (
 some 0))
def zonelist_key (a_from_ : Int) (a_node : Int) : Option Int :=
 cnd (decide (a_node < a_from_)) (
 chk (inI (a_from_ - a_node)) <|
 chk (inI (2 * (a_from_ - a_node))) <|
 some (2 * (a_from_ - a_node))) (
 chk (inI (a_node - a_from_)) <|
 chk (inI (2 * (a_node - a_from_))) <|
 chk (inI ((2 * (a_node - a_from_)) + 1)) <|
 some ((2 * (a_node - a_from_)) + 1))
def zonelist_Order_1_j0 (i1 : Int) : Option Int :=
 some i1
def zonelist_Order_1 (a_i : Int) (c_0 : Int) (c_1 : List Zone) : Option Int :=
 chk (inb a_i c_1.length) <|
 (zonelist_key c_0 ((at_ c_1 a_i).node)).bind fun x1 =>
 chk (inI (2 * x1)) <|
 cnd (decide (((at_ c_1 a_i).kind) = 0)) (
 chk (inI ((2 * x1) + 1)) <|
 zonelist_Order_1_j0 ((2 * x1) + 1)) (
 zonelist_Order_1_j0 (2 * x1))
def cmp_Compare_int (a_x : Int) (a_y : Int) : Option Int :=
 (cmp_isNaN_int a_x).bind fun x1 =>
 (cmp_isNaN_int a_y).bind fun x2 =>
 cnd (x1) (
 cnd (x2) (
 some 0) (
 some (-1))) (
 cnd (x2) (
 some 1) (
 cnd (decide (a_x < a_y)) (
 some (-1)) (
 cnd (decide (a_y < a_x)) (
 some 1) (
 some 0))))
def zonelist_Order_2 (a_a : Int) (a_b : Int) (c_0 : Int → Option Int) : Option Int :=
 (c_0 a_a).bind fun x1 =>
 (c_0 a_b).bind fun x2 =>
 (cmp_Compare_int x1 x2).bind fun x3 =>
 some x3
def slices_insertionSortCmpFunc_int_j0 (self0 : Int → (List Int) → Option (List Int)) (i1 : Int) (l2 : List Int) : Option (List Int) :=
 chk (inI (i1 + 1)) <|
 self0 (i1 + 1) l2
def slices_insertionSortCmpFunc_int_b1 (self0 : Int → (List Int) → Option (List Int)) (a_a : Int) (a_cmp : Int → Int → Option Int) (i1 : Int) (self1 : Int → (List Int) → Option (List Int)) (i2 : Int) (l3 : List Int) : Option (List Int) :=
 chk (!(decide (a_a < i2)) || inb i2 l3.length) <|
 chk (!(decide (a_a < i2)) || inI (i2 - 1)) <|
 chk (!(decide (a_a < i2)) || inb (i2 - 1) l3.length) <|
 (cnd (decide (a_a < i2)) (a_cmp (at_ l3 i2) (at_ l3 (i2 - 1))) (some default)).bind fun x1 =>
 cnd ((decide (a_a < i2)) && (decide (x1 < 0))) (
 chk (inI (i2 - 1)) <|
 chk (inb (i2 - 1) l3.length) <|
 chk (inb i2 l3.length) <|
 chk (inb (i2 - 1) (l3.set i2.toNat (at_ l3 (i2 - 1))).length) <|
 self1 (i2 - 1) ((l3.set i2.toNat (at_ l3 (i2 - 1))).set (i2 - 1).toNat (at_ l3 i2))) (
 slices_insertionSortCmpFunc_int_j0 self0 i1 l3)
def slices_insertionSortCmpFunc_int_l1 (self0 : Int → (List Int) → Option (List Int)) (a_a : Int) (a_cmp : Int → Int → Option Int) (i1 : Int) : Nat → Int → (List Int) → Option (List Int)
  | 0, _, _ => none
  | n + 1, i2, l3 => slices_insertionSortCmpFunc_int_b1 self0 a_a a_cmp i1 (slices_insertionSortCmpFunc_int_l1 self0 a_a a_cmp i1 n) i2 l3
def slices_insertionSortCmpFunc_int_b0 (a_a : Int) (a_b : Int) (a_cmp : Int → Int → Option Int) (self0 : Int → (List Int) → Option (List Int)) (i1 : Int) (l1 : List Int) : Option (List Int) :=
 cnd (decide (i1 < a_b)) (
 slices_insertionSortCmpFunc_int_l1 self0 a_a a_cmp i1 FUEL i1 l1) (
 some l1)
def slices_insertionSortCmpFunc_int_l0 (a_a : Int) (a_b : Int) (a_cmp : Int → Int → Option Int) : Nat → Int → (List Int) → Option (List Int)
  | 0, _, _ => none
  | n + 1, i1, l1 => slices_insertionSortCmpFunc_int_b0 a_a a_b a_cmp (slices_insertionSortCmpFunc_int_l0 a_a a_b a_cmp n) i1 l1
def slices_insertionSortCmpFunc_int (a_data : List Int) (a_a : Int) (a_b : Int) (a_cmp : Int → Int → Option Int) : Option (List Int) :=
 chk (inI (a_a + 1)) <|
 slices_insertionSortCmpFunc_int_l0 a_a a_b a_cmp FUEL (a_a + 1) a_data
def slices_stableCmpFunc_int_j1 (self0 : Int → Option (List Int)) (a_n : Int) (i2 : Int) : Option (List Int) :=
 chk (inI (0 + i2)) <|
 cnd (decide ((0 + i2) < a_n)) (
 none) (
 chk (inI (i2 * 2)) <|
 self0 (i2 * 2))
def slices_stableCmpFunc_int_b1 (self0 : Int → Option (List Int)) (a_n : Int) (i2 : Int) (self1 : Option (List Int))  : Option (List Int) :=
 cnd (decide ((2 * i2) ≤ a_n)) (
 chk (inI (0 + i2)) <|
 none) (
 slices_stableCmpFunc_int_j1 self0 a_n i2)
def slices_stableCmpFunc_int_l1 (self0 : Int → Option (List Int)) (a_n : Int) (i2 : Int) : Nat → Option (List Int)
  | 0 => none
  | n + 1 => slices_stableCmpFunc_int_b1 self0 a_n i2 (slices_stableCmpFunc_int_l1 self0 a_n i2 n)
def slices_stableCmpFunc_int_b0 (a_n : Int) (x1 : (List Int)) (self0 : Int → Option (List Int)) (i2 : Int) : Option (List Int) :=
 cnd (decide (i2 < a_n)) (
 chk (inI (2 * i2)) <|
 slices_stableCmpFunc_int_l1 self0 a_n i2 FUEL) (
 some x1)
def slices_stableCmpFunc_int_l0 (a_n : Int) (x1 : (List Int)) : Nat → Int → Option (List Int)
  | 0, _ => none
  | n + 1, i2 => slices_stableCmpFunc_int_b0 a_n x1 (slices_stableCmpFunc_int_l0 a_n x1 n) i2
def slices_stableCmpFunc_int_j0 (a_n : Int) (a_cmp : Int → Int → Option Int) (i1 : Int) (l1 : List Int) : Option (List Int) :=
 (slices_insertionSortCmpFunc_int l1 i1 a_n a_cmp).bind fun x1 =>
 slices_stableCmpFunc_int_l0 a_n x1 FUEL 20
def slices_stableCmpFunc_int_b2 (a_n : Int) (a_cmp : Int → Int → Option Int) (self2 : Int → Int → (List Int) → Option (List Int)) (i3 : Int) (i4 : Int) (l2 : List Int) : Option (List Int) :=
 cnd (decide (i4 ≤ a_n)) (
 (slices_insertionSortCmpFunc_int l2 i3 i4 a_cmp).bind fun x2 =>
 chk (inI (i4 + 20)) <|
 self2 i4 (i4 + 20) x2) (
 slices_stableCmpFunc_int_j0 a_n a_cmp i3 l2)
def slices_stableCmpFunc_int_l2 (a_n : Int) (a_cmp : Int → Int → Option Int) : Nat → Int → Int → (List Int) → Option (List Int)
  | 0, _, _, _ => none
  | n + 1, i3, i4, l2 => slices_stableCmpFunc_int_b2 a_n a_cmp (slices_stableCmpFunc_int_l2 a_n a_cmp n) i3 i4 l2
def slices_stableCmpFunc_int (a_data : List Int) (a_n : Int) (a_cmp : Int → Int → Option Int) : Option (List Int) :=
 slices_stableCmpFunc_int_l2 a_n a_cmp FUEL 0 20 a_data
def slices_SortStableFunc_Lint_int (a_x : List Int) (a_cmp : Int → Int → Option Int) : Option (List Int) :=
 (slices_stableCmpFunc_int a_x (a_x.length : Int) a_cmp).bind fun x1 =>
 some x1
def zonelist_Order_j0 (a_zones : List Zone) (a_node : Int) (l1 : List Int) : Option ((List Int) × Int) :=
 (slices_SortStableFunc_Lint_int l1 (fun y0 y1 => zonelist_Order_2 y0 y1 (fun y0 => zonelist_Order_1 y0 a_node a_zones))).bind fun x2 =>
 some (x2, 0)
def zonelist_Order_j1 (self0 : Int → (List Int) → Option ((List Int) × Int)) (i1 : Int) (l3 : List Int) : Option ((List Int) × Int) :=
 chk (inI (i1 + 1)) <|
 self0 (i1 + 1) l3
def zonelist_Order_b0 (a_zones : List Zone) (a_node : Int) (a_kernel : Bool) (self0 : Int → (List Int) → Option ((List Int) × Int)) (i1 : Int) (l2 : List Int) : Option ((List Int) × Int) :=
 cnd (decide (i1 < (a_zones.length : Int))) (
 chk (inb i1 a_zones.length) <|
 cnd ((!a_kernel) || (decide (((at_ a_zones i1).kind) = 0))) (
 chk (decide ((l2.length + [i1].length) * 8 ≤ 4294967296)) <|
 zonelist_Order_j1 self0 i1 (l2 ++ [i1])) (
 zonelist_Order_j1 self0 i1 l2)) (
 zonelist_Order_j0 a_zones a_node l2)
def zonelist_Order_l0 (a_zones : List Zone) (a_node : Int) (a_kernel : Bool) : Nat → Int → (List Int) → Option ((List Int) × Int)
  | 0, _, _ => none
  | n + 1, i1, l2 => zonelist_Order_b0 a_zones a_node a_kernel (zonelist_Order_l0 a_zones a_node a_kernel n) i1 l2
def zonelist_Order (a_zones : List Zone) (a_node : Int) (a_kernel : Bool) : Option ((List Int) × Int) :=
 (zonelist_check a_zones a_node).bind fun x1 =>
 cnd (!decide (x1 = 0)) (
 some ([], x1)) (
 zonelist_Order_l0 a_zones a_node a_kernel FUEL 0 [])
def slices_Clone_Lapi_Zone_api_Zone (a_s : List Zone) : Option (List Zone) :=
 chk (decide ((([] : List Zone).length + a_s.length) * 160 ≤ 4294967296)) <|
 some a_s
def slices_Clone_Lapi_CpuCache_api_CpuCache (a_s : List CpuCache) : Option (List CpuCache) :=
 chk (decide ((([] : List CpuCache).length + a_s.length) * 24 ≤ 4294967296)) <|
 some a_s
def slices_Clone_Lint_Lint (a_s : List (List Int)) : Option (List (List Int)) :=
 chk (decide ((([] : List (List Int)).length + a_s.length) * 24 ≤ 4294967296)) <|
 some a_s
def allocator_clone_j1 (a_p0 : Allocator) (x1 : List Int) (l1 : List Zone) (l2 : List CpuCache) : Option Allocator :=
 some (⟨x1, a_p0.batch, a_p0.high, l1, l2⟩ : Allocator)
def allocator_clone_j2 (self0 : Int → (List CpuCache) → Option Allocator) (i1 : Int) (l4 : List CpuCache) : Option Allocator :=
 chk (inI (i1 + 1)) <|
 self0 (i1 + 1) l4
def allocator_clone_j3 (self0 : Int → (List CpuCache) → Option Allocator) (i1 : Int) (l3 : List CpuCache) (l5 : List (List Int)) : Option Allocator :=
 chk (inb i1 l3.length) <|
 allocator_clone_j2 self0 i1 (l3.set i1.toNat ({ at_ l3 i1 with lists := l5 }))
def allocator_clone_b1 (self0 : Int → (List CpuCache) → Option Allocator) (i1 : Int) (l3 : List CpuCache) (x4 : List (List Int)) (self1 : Int → (List (List Int)) → Option Allocator) (i2 : Int) (l6 : List (List Int)) : Option Allocator :=
 cnd (decide (i2 < (x4.length : Int))) (
 chk (inb i2 l6.length) <|
 (slices_Clone_Lint_int (at_ l6 i2)).bind fun x5 =>
 chk (inI (i2 + 1)) <|
 self1 (i2 + 1) (l6.set i2.toNat x5)) (
 allocator_clone_j3 self0 i1 l3 l6)
def allocator_clone_l1 (self0 : Int → (List CpuCache) → Option Allocator) (i1 : Int) (l3 : List CpuCache) (x4 : List (List Int)) : Nat → Int → (List (List Int)) → Option Allocator
  | 0, _, _ => none
  | n + 1, i2, l6 => allocator_clone_b1 self0 i1 l3 x4 (allocator_clone_l1 self0 i1 l3 x4 n) i2 l6
def allocator_clone_b0 (a_p0 : Allocator) (x1 : List Int) (x3 : List CpuCache) (l1 : List Zone) (self0 : Int → (List CpuCache) → Option Allocator) (i1 : Int) (l3 : List CpuCache) : Option Allocator :=
 cnd (decide (i1 < (x3.length : Int))) (
 chk (inb i1 l3.length) <|
 (slices_Clone_Lint_Lint ((at_ l3 i1).lists)).bind fun x4 =>
 allocator_clone_l1 self0 i1 l3 x4 FUEL 0 x4) (
 allocator_clone_j1 a_p0 x1 l1 l3)
def allocator_clone_l0 (a_p0 : Allocator) (x1 : List Int) (x3 : List CpuCache) (l1 : List Zone) : Nat → Int → (List CpuCache) → Option Allocator
  | 0, _, _ => none
  | n + 1, i1, l3 => allocator_clone_b0 a_p0 x1 x3 l1 (allocator_clone_l0 a_p0 x1 x3 l1 n) i1 l3
def allocator_clone_j0 (a_p0 : Allocator) (x1 : List Int) (x3 : List CpuCache) (l1 : List Zone) : Option Allocator :=
 allocator_clone_l0 a_p0 x1 x3 l1 FUEL 0 x3
def allocator_clone_j4 (self2 : Int → (List Zone) → Option Allocator) (i3 : Int) (l8 : List Zone) : Option Allocator :=
 chk (inI (i3 + 1)) <|
 self2 (i3 + 1) l8
def allocator_clone_b3 (self2 : Int → (List Zone) → Option Allocator) (i3 : Int) (self3 : Int → (List Zone) → Option Allocator) (i4 : Int) (l9 : List Zone) : Option Allocator :=
 cnd (decide (i4 < 5)) (
 chk (inb i3 l9.length) <|
 chk (inb i4 5) <|
 (slices_Clone_Lint_int (((at_ l9 i3).free).getD i4.toNat ([] : List Int))).bind fun x6 =>
 chk (inI (i4 + 1)) <|
 self3 (i4 + 1) (l9.set i3.toNat ({ at_ l9 i3 with free := setA 5 ([] : List Int) ((at_ l9 i3).free) i4.toNat x6 }))) (
 allocator_clone_j4 self2 i3 l9)
def allocator_clone_l3 (self2 : Int → (List Zone) → Option Allocator) (i3 : Int) : Nat → Int → (List Zone) → Option Allocator
  | 0, _, _ => none
  | n + 1, i4, l9 => allocator_clone_b3 self2 i3 (allocator_clone_l3 self2 i3 n) i4 l9
def allocator_clone_b2 (a_p0 : Allocator) (x1 : List Int) (x2 : List Zone) (x3 : List CpuCache) (self2 : Int → (List Zone) → Option Allocator) (i3 : Int) (l7 : List Zone) : Option Allocator :=
 cnd (decide (i3 < (x2.length : Int))) (
 allocator_clone_l3 self2 i3 FUEL 0 l7) (
 allocator_clone_j0 a_p0 x1 x3 l7)
def allocator_clone_l2 (a_p0 : Allocator) (x1 : List Int) (x2 : List Zone) (x3 : List CpuCache) : Nat → Int → (List Zone) → Option Allocator
  | 0, _, _ => none
  | n + 1, i3, l7 => allocator_clone_b2 a_p0 x1 x2 x3 (allocator_clone_l2 a_p0 x1 x2 x3 n) i3 l7
def allocator_clone (a_p0 : Allocator) : Option Allocator :=
 (slices_Clone_Lint_int a_p0.nodes).bind fun x1 =>
 (slices_Clone_Lapi_Zone_api_Zone a_p0.zones).bind fun x2 =>
 (slices_Clone_Lapi_CpuCache_api_CpuCache a_p0.caches).bind fun x3 =>
 allocator_clone_l2 a_p0 x1 x2 x3 FUEL 0 x2
def buddy_clone_j0 (a_z : Zone) (l1 : List (List Int)) (i1 : Int) : Option Zone :=
 chk (decide ((5 : Int) ≤ i1)) <|
 some (⟨a_z.node, a_z.kind, a_z.start, a_z.count, a_z.min, l1⟩ : Zone)
def buddy_clone_b0 (a_z : Zone) (self0 : Int → (List (List Int)) → Option Zone) (i2 : Int) (l2 : List (List Int)) : Option Zone :=
 cnd (decide (i2 < 5)) (
 chk (inb i2 5) <|
 (slices_Clone_Lint_int (l2.getD i2.toNat [])).bind fun x1 =>
 chk (inI (i2 + 1)) <|
 self0 (i2 + 1) (setA 5 [] l2 i2.toNat x1)) (
 buddy_clone_j0 a_z l2 i2)
def buddy_clone_l0 (a_z : Zone) : Nat → Int → (List (List Int)) → Option Zone
  | 0, _, _ => none
  | n + 1, i2, l2 => buddy_clone_b0 a_z (buddy_clone_l0 a_z n) i2 l2
def buddy_clone (a_z : Zone) : Option Zone :=
 buddy_clone_l0 a_z FUEL 0 a_z.free
def buddy_Alloc_j1 (i1 : Int) (x2 : Zone) (l1 : List (List Int)) : Option (Zone × Int × Int) :=
 some ((⟨x2.node, x2.kind, x2.start, x2.count, x2.min, l1⟩ : Zone), at_ (x2.free.getD i1.toNat []) (0 : Int), 0)
def buddy_Alloc_b0 (a_p1 : Int) (i1 : Int) (x2 : Zone) (self0 : Int → (List (List Int)) → Option (Zone × Int × Int)) (i2 : Int) (l2 : List (List Int)) : Option (Zone × Int × Int) :=
 cnd (decide (a_p1 < i2)) (
 chk (inI (i2 - 1)) <|
 chk (shOk (i2 - 1)) <|
 chk (inI ((1 : Int) * 2 ^ (i2 - 1).toNat)) <|
 chk (inI ((at_ (x2.free.getD i1.toNat []) (0 : Int)) + ((1 : Int) * 2 ^ (i2 - 1).toNat))) <|
 chk (inb (i2 - 1) 5) <|
 chk (decide ((i2 - 1) < i1)) <|
 (slices_BinarySearch_Lint_int (l2.getD (i2 - 1).toNat []) ((at_ (x2.free.getD i1.toNat []) (0 : Int)) + ((1 : Int) * 2 ^ (i2 - 1).toNat))).bind fun x3 =>
 chk (insOk (l2.getD (i2 - 1).toNat []) x3.1) <|
 self0 (i2 - 1) (setA 5 [] l2 (i2 - 1).toNat (insL (l2.getD (i2 - 1).toNat []) x3.1 ((at_ (x2.free.getD i1.toNat []) (0 : Int)) + ((1 : Int) * 2 ^ (i2 - 1).toNat))))) (
 buddy_Alloc_j1 i1 x2 l2)
def buddy_Alloc_l0 (a_p1 : Int) (i1 : Int) (x2 : Zone) : Nat → Int → (List (List Int)) → Option (Zone × Int × Int)
  | 0, _, _ => none
  | n + 1, i2, l2 => buddy_Alloc_b0 a_p1 i1 x2 (buddy_Alloc_l0 a_p1 i1 x2 n) i2 l2
def buddy_Alloc_j0 (a_p0 : Zone) (a_p1 : Int) (i1 : Int) : Option (Zone × Int × Int) :=
 cnd (decide (4 < i1)) (
 some ((⟨0, 0, 0, 0, 0, (List.replicate 5 ([] : List Int))⟩ : Zone), 0, 16)) (
 (buddy_clone a_p0).bind fun x2 =>
 chk (inb i1 5) <|
 chk (decide (i1 < (5 : Int))) <|
 chk (inb (0 : Int) (x2.free.getD i1.toNat []).length) <|
 chk (cutOk 1 ((x2.free.getD i1.toNat []).length : Int) (x2.free.getD i1.toNat []).length) <|
 chk (decide (i1 ≤ (5 : Int))) <|
 buddy_Alloc_l0 a_p1 i1 x2 FUEL i1 (setA 5 [] x2.free i1.toNat (cutL (x2.free.getD i1.toNat []) 1 ((x2.free.getD i1.toNat []).length : Int))))
def buddy_Alloc_b1 (a_p0 : Zone) (a_p1 : Int) (self1 : Int → Option (Zone × Int × Int)) (i3 : Int) : Option (Zone × Int × Int) :=
 chk (!(decide (i3 ≤ 4)) || inb i3 5) <|
 cnd ((decide (i3 ≤ 4)) && (decide (((a_p0.free.getD i3.toNat ([] : List Int)).length : Int) = 0))) (
 chk (inI (i3 + 1)) <|
 self1 (i3 + 1)) (
 buddy_Alloc_j0 a_p0 a_p1 i3)
def buddy_Alloc_l1 (a_p0 : Zone) (a_p1 : Int) : Nat → Int → Option (Zone × Int × Int)
  | 0, _ => none
  | n + 1, i3 => buddy_Alloc_b1 a_p0 a_p1 (buddy_Alloc_l1 a_p0 a_p1 n) i3
def buddy_Alloc (a_p0 : Zone) (a_p1 : Int) : Option (Zone × Int × Int) :=
 (buddy_Check a_p0).bind fun x1 =>
 cnd (!decide (x1 = 0)) (
 some ((⟨0, 0, 0, 0, 0, (List.replicate 5 ([] : List Int))⟩ : Zone), 0, x1)) (
 cnd ((decide (a_p1 < 0)) || (decide (4 < a_p1))) (
 some ((⟨0, 0, 0, 0, 0, (List.replicate 5 ([] : List Int))⟩ : Zone), 0, 2)) (
 buddy_Alloc_l1 a_p0 a_p1 FUEL a_p1))
def percpu_check (a_c : CpuCache) (a_zone : Int) : Option Int :=
 (percpu_Check a_c (a_c.lists.length : Int)).bind fun x1 =>
 cnd (!decide (x1 = 0)) (
 some x1) (
 cnd ((decide (a_zone < 0)) || (decide ((a_c.lists.length : Int) ≤ a_zone))) (
 some 2) (
 some 0))
def percpu_replace_j0 (l1 : List (List Int)) : Option CpuCache :=
 some (⟨l1⟩ : CpuCache)
def percpu_replace_j1 (self0 : Int → (List (List Int)) → Option CpuCache) (i1 : Int) (l2 : List (List Int)) (d1 : List Int) : Option CpuCache :=
 chk (decide (0 ≤ (d1.length : Int)) && decide ((d1.length : Int) ≤ (d1.length : Int)) && decide ((d1.length : Int) * (8 : Int) ≤ 4294967296)) <|
 chk (inb i1 l2.length) <|
 chk (inI (i1 + 1)) <|
 self0 (i1 + 1) (l2.set i1.toNat (copyL (List.replicate (d1.length : Int).toNat 0) d1))
def percpu_replace_b0 (a_c : CpuCache) (a_zone : Int) (a_l : List Int) (self0 : Int → (List (List Int)) → Option CpuCache) (i1 : Int) (l2 : List (List Int)) : Option CpuCache :=
 cnd (decide (i1 < (a_c.lists.length : Int))) (
 chk (inb i1 a_c.lists.length) <|
 cnd (decide (i1 = a_zone)) (
 percpu_replace_j1 self0 i1 l2 a_l) (
 percpu_replace_j1 self0 i1 l2 (at_ a_c.lists i1))) (
 percpu_replace_j0 l2)
def percpu_replace_l0 (a_c : CpuCache) (a_zone : Int) (a_l : List Int) : Nat → Int → (List (List Int)) → Option CpuCache
  | 0, _, _ => none
  | n + 1, i1, l2 => percpu_replace_b0 a_c a_zone a_l (percpu_replace_l0 a_c a_zone a_l n) i1 l2
def percpu_replace (a_c : CpuCache) (a_zone : Int) (a_l : List Int) : Option CpuCache :=
 chk (decide (0 ≤ (a_c.lists.length : Int)) && decide ((a_c.lists.length : Int) ≤ (a_c.lists.length : Int)) && decide ((a_c.lists.length : Int) * (24 : Int) ≤ 4294967296)) <|
 percpu_replace_l0 a_c a_zone a_l FUEL 0 (List.replicate (a_c.lists.length : Int).toNat ([] : List Int))
def percpu_Refill_j1 (a_p0 : CpuCache) (a_p1 : Int) (l1 : List Int) : Option (CpuCache × Int) :=
 (percpu_replace a_p0 a_p1 l1).bind fun x3 =>
 (percpu_replace a_p0 a_p1 l1).bind fun x4 =>
 some (x4, 0)
def percpu_Refill_b0 (a_p0 : CpuCache) (a_p1 : Int) (a_p2 : List Int) (self0 : Int → (List Int) → Option (CpuCache × Int)) (i1 : Int) (l2 : List Int) : Option (CpuCache × Int) :=
 cnd (decide (i1 < (a_p2.length : Int))) (
 chk (inI ((a_p2.length : Int) - 1)) <|
 chk (inI (((a_p2.length : Int) - 1) - i1)) <|
 chk (inb (((a_p2.length : Int) - 1) - i1) a_p2.length) <|
 chk (decide ((l2.length + [at_ a_p2 (((a_p2.length : Int) - 1) - i1)].length) * 8 ≤ 4294967296)) <|
 chk (inI (i1 + 1)) <|
 self0 (i1 + 1) (l2 ++ [at_ a_p2 (((a_p2.length : Int) - 1) - i1)])) (
 percpu_Refill_j1 a_p0 a_p1 l2)
def percpu_Refill_l0 (a_p0 : CpuCache) (a_p1 : Int) (a_p2 : List Int) : Nat → Int → (List Int) → Option (CpuCache × Int)
  | 0, _, _ => none
  | n + 1, i1, l2 => percpu_Refill_b0 a_p0 a_p1 a_p2 (percpu_Refill_l0 a_p0 a_p1 a_p2 n) i1 l2
def percpu_Refill_j0 (a_p0 : CpuCache) (a_p1 : Int) (a_p2 : List Int) : Option (CpuCache × Int) :=
 chk (inb a_p1 a_p0.lists.length) <|
 chk (decide (0 ≤ ((at_ a_p0.lists a_p1).length : Int)) && decide (((at_ a_p0.lists a_p1).length : Int) ≤ ((at_ a_p0.lists a_p1).length : Int)) && decide (((at_ a_p0.lists a_p1).length : Int) * (8 : Int) ≤ 4294967296)) <|
 percpu_Refill_l0 a_p0 a_p1 a_p2 FUEL 0 (copyL (List.replicate ((at_ a_p0.lists a_p1).length : Int).toNat 0) (at_ a_p0.lists a_p1))
def percpu_Refill_b1 (a_p0 : CpuCache) (a_p1 : Int) (a_p2 : List Int) (self1 : Int → (List (Int × Bool)) → Option (CpuCache × Int)) (i2 : Int) (l3 : List (Int × Bool)) : Option (CpuCache × Int) :=
 cnd (decide (i2 < (a_p2.length : Int))) (
 chk (inb i2 a_p2.length) <|
 (percpu_isFrame (at_ a_p2 i2)).bind fun x5 =>
 cnd (!x5) (
 some ((⟨([] : List (List Int))⟩ : CpuCache), 2)) (
 cnd (mget false l3 (at_ a_p2 i2)) (
 some ((⟨([] : List (List Int))⟩ : CpuCache), 7)) (
 chk (inI (i2 + 1)) <|
 self1 (i2 + 1) (mset l3 (at_ a_p2 i2) true)))) (
 percpu_Refill_j0 a_p0 a_p1 a_p2)
def percpu_Refill_l1 (a_p0 : CpuCache) (a_p1 : Int) (a_p2 : List Int) : Nat → Int → (List (Int × Bool)) → Option (CpuCache × Int)
  | 0, _, _ => none
  | n + 1, i2, l3 => percpu_Refill_b1 a_p0 a_p1 a_p2 (percpu_Refill_l1 a_p0 a_p1 a_p2 n) i2 l3
def percpu_Refill (a_p0 : CpuCache) (a_p1 : Int) (a_p2 : List Int) : Option (CpuCache × Int) :=
 (percpu_check a_p0 a_p1).bind fun x1 =>
 cnd (!decide (x1 = 0)) (
 some ((⟨([] : List (List Int))⟩ : CpuCache), x1)) (
 (percpu_frames a_p0).bind fun x2 =>
 percpu_Refill_l1 a_p0 a_p1 a_p2 FUEL 0 x2)
def allocator_refill_j1 (a_p0 : Allocator) (l1 : List Zone) (l2 : List Int) (l3 : List CpuCache) : Option (Allocator × Bool) :=
 some ((⟨a_p0.nodes, a_p0.batch, a_p0.high, l1, l3⟩ : Allocator), decide (0 < (l2.length : Int)))
def allocator_refill_j0 (a_p0 : Allocator) (a_p1 : Int) (a_p2 : Int) (l1 : List Zone) (l2 : List Int) : Option (Allocator × Bool) :=
 chk (inb a_p1 a_p0.caches.length) <|
 (percpu_Refill (at_ a_p0.caches a_p1) a_p2 l2).bind fun x1 =>
 (percpu_Refill (at_ a_p0.caches a_p1) a_p2 l2).bind fun x2 =>
 cnd (decide (x2.2 = 0)) (
 allocator_refill_j1 a_p0 l1 l2 (a_p0.caches.set a_p1.toNat x2.1)) (
 allocator_refill_j1 a_p0 l1 l2 a_p0.caches)
def allocator_refill_b0 (a_p0 : Allocator) (a_p1 : Int) (a_p2 : Int) (self0 : Int → (List Zone) → (List Int) → Option (Allocator × Bool)) (i1 : Int) (l4 : List Zone) (l5 : List Int) : Option (Allocator × Bool) :=
 cnd (decide (i1 < a_p0.batch)) (
 chk (inb a_p2 l4.length) <|
 (buddy_Alloc (at_ l4 a_p2) 0).bind fun x3 =>
 cnd (!decide (x3.2.2 = 0)) (
 allocator_refill_j0 a_p0 a_p1 a_p2 l4 l5) (
 chk (decide ((l5.length + [x3.2.1].length) * 8 ≤ 4294967296)) <|
 chk (inI (i1 + 1)) <|
 self0 (i1 + 1) (l4.set a_p2.toNat x3.1) (l5 ++ [x3.2.1]))) (
 allocator_refill_j0 a_p0 a_p1 a_p2 l4 l5)
def allocator_refill_l0 (a_p0 : Allocator) (a_p1 : Int) (a_p2 : Int) : Nat → Int → (List Zone) → (List Int) → Option (Allocator × Bool)
  | 0, _, _, _ => none
  | n + 1, i1, l4, l5 => allocator_refill_b0 a_p0 a_p1 a_p2 (allocator_refill_l0 a_p0 a_p1 a_p2 n) i1 l4 l5
def allocator_refill (a_p0 : Allocator) (a_p1 : Int) (a_p2 : Int) : Option (Allocator × Bool) :=
 allocator_refill_l0 a_p0 a_p1 a_p2 FUEL 0 a_p0.zones []
def percpu_Drain (a_c : CpuCache) (a_zone : Int) : Option (CpuCache × (List Int) × Int) :=
 (percpu_check a_c a_zone).bind fun x1 =>
 cnd (!decide (x1 = 0)) (
 some ((⟨([] : List (List Int))⟩ : CpuCache), [], x1)) (
 chk (inb a_zone a_c.lists.length) <|
 chk (decide (0 ≤ ((at_ a_c.lists a_zone).length : Int)) && decide (((at_ a_c.lists a_zone).length : Int) ≤ ((at_ a_c.lists a_zone).length : Int)) && decide (((at_ a_c.lists a_zone).length : Int) * (8 : Int) ≤ 4294967296)) <|
 (percpu_replace a_c a_zone []).bind fun x2 =>
 some (x2, copyL (List.replicate ((at_ a_c.lists a_zone).length : Int).toNat 0) (at_ a_c.lists a_zone), 0))
def buddy_Free_j0 (a_z : Zone) (a_frame : Int) (a_order : Int) : Option (Zone × Int) :=
 (buddy_clone a_z).bind fun x3 =>
 (buddy_put (⟨x3.node, x3.kind, x3.start, x3.count, x3.min, x3.free⟩ : Zone) a_frame a_order).bind fun x4 =>
 some ((⟨x4.node, x4.kind, x4.start, x4.count, x4.min, x4.free⟩ : Zone), 0)
def buddy_Free_b0 (a_z : Zone) (a_frame : Int) (a_order : Int) (self0 : Int → Option (Zone × Int)) (i1 : Int) : Option (Zone × Int) :=
 chk (shOk a_order) <|
 chk (inI ((1 : Int) * 2 ^ a_order.toNat)) <|
 chk (inI (a_frame + ((1 : Int) * 2 ^ a_order.toNat))) <|
 cnd (decide (i1 < (a_frame + ((1 : Int) * 2 ^ a_order.toNat)))) (
 (buddy_block a_z i1).bind fun x5 =>
 cnd (decide (0 ≤ x5.1)) (
 some ((⟨0, 0, 0, 0, 0, (List.replicate 5 ([] : List Int))⟩ : Zone), 7)) (
 chk (inI (i1 + 1)) <|
 self0 (i1 + 1))) (
 buddy_Free_j0 a_z a_frame a_order)
def buddy_Free_l0 (a_z : Zone) (a_frame : Int) (a_order : Int) : Nat → Int → Option (Zone × Int)
  | 0, _ => none
  | n + 1, i1 => buddy_Free_b0 a_z a_frame a_order (buddy_Free_l0 a_z a_frame a_order n) i1
def buddy_Free (a_z : Zone) (a_frame : Int) (a_order : Int) : Option (Zone × Int) :=
 (buddy_Check a_z).bind fun x1 =>
 cnd (!decide (x1 = 0)) (
 some ((⟨0, 0, 0, 0, 0, (List.replicate 5 ([] : List Int))⟩ : Zone), x1)) (
 (cnd (!((decide (a_order < 0)) || (decide (4 < a_order)))) (buddy_inside a_z a_frame a_order) (some default)).bind fun x2 =>
 cnd (((decide (a_order < 0)) || (decide (4 < a_order))) || (!x2)) (
 some ((⟨0, 0, 0, 0, 0, (List.replicate 5 ([] : List Int))⟩ : Zone), 2)) (
 buddy_Free_l0 a_z a_frame a_order FUEL a_frame))
def allocator_give_j0 (self0 : Int → (List Zone) → Option Allocator) (i1 : Int) (l2 : List Zone) : Option Allocator :=
 chk (inI (i1 + 1)) <|
 self0 (i1 + 1) l2
def allocator_give_b0 (a_a : Allocator) (a_z : Int) (a_frames : List Int) (self0 : Int → (List Zone) → Option Allocator) (i1 : Int) (l1 : List Zone) : Option Allocator :=
 cnd (decide (i1 < (a_frames.length : Int))) (
 chk (inb i1 a_frames.length) <|
 chk (inb a_z l1.length) <|
 (buddy_Free (at_ l1 a_z) (at_ a_frames i1) 0).bind fun x1 =>
 cnd (decide (x1.2 = 0)) (
 allocator_give_j0 self0 i1 (l1.set a_z.toNat x1.1)) (
 allocator_give_j0 self0 i1 l1)) (
 some (⟨a_a.nodes, a_a.batch, a_a.high, l1, a_a.caches⟩ : Allocator))
def allocator_give_l0 (a_a : Allocator) (a_z : Int) (a_frames : List Int) : Nat → Int → (List Zone) → Option Allocator
  | 0, _, _ => none
  | n + 1, i1, l1 => allocator_give_b0 a_a a_z a_frames (allocator_give_l0 a_a a_z a_frames n) i1 l1
def allocator_give (a_a : Allocator) (a_z : Int) (a_frames : List Int) : Option Allocator :=
 allocator_give_l0 a_a a_z a_frames FUEL 0 a_a.zones
def allocator_drain (a_a : Allocator) (a_cpu : Int) (a_z : Int) : Option Allocator :=
 chk (inb a_cpu a_a.caches.length) <|
 (percpu_Drain (at_ a_a.caches a_cpu) a_z).bind fun x1 =>
 cnd (decide (x1.2.2 = 0)) (
 (allocator_give (⟨a_a.nodes, a_a.batch, a_a.high, a_a.zones, a_a.caches.set a_cpu.toNat x1.1⟩ : Allocator) a_z x1.2.1).bind fun x2 =>
 some (⟨x2.nodes, x2.batch, x2.high, x2.zones, x2.caches⟩ : Allocator)) (
 some (⟨a_a.nodes, a_a.batch, a_a.high, a_a.zones, a_a.caches⟩ : Allocator))
def percpu_Take (a_c : CpuCache) (a_zone : Int) : Option (CpuCache × Int × Int) :=
 (percpu_check a_c a_zone).bind fun x1 =>
 cnd (!decide (x1 = 0)) (
 some ((⟨([] : List (List Int))⟩ : CpuCache), 0, x1)) (
 chk (inb a_zone a_c.lists.length) <|
 cnd (decide (((at_ a_c.lists a_zone).length : Int) = 0)) (
 some ((⟨([] : List (List Int))⟩ : CpuCache), 0, 6)) (
 chk (inI (((at_ a_c.lists a_zone).length : Int) - 1)) <|
 chk (cutOk 0 (((at_ a_c.lists a_zone).length : Int) - 1) (at_ a_c.lists a_zone).length) <|
 (percpu_replace a_c a_zone (cutL (at_ a_c.lists a_zone) 0 (((at_ a_c.lists a_zone).length : Int) - 1))).bind fun x2 =>
 chk (inb (((at_ a_c.lists a_zone).length : Int) - 1) (at_ a_c.lists a_zone).length) <|
 some (x2, at_ (at_ a_c.lists a_zone) (((at_ a_c.lists a_zone).length : Int) - 1), 0)))
def allocator_Alloc_j0  : Option (Allocator × Int × Int) :=
 some ((⟨([] : List Int), 0, 0, ([] : List Zone), ([] : List CpuCache)⟩ : Allocator), 0, 16)
def allocator_Alloc_j1 (self0 : Int → Option (Allocator × Int × Int)) (i1 : Int) : Option (Allocator × Int × Int) :=
 chk (inI (i1 + 1)) <|
 self0 (i1 + 1)
def allocator_Alloc_j2 (a_p1 : Int) (x2 : (List Int) × Int) (i1 : Int) (d1 : List Int) (d2 : Int) (d3 : Int) (l1 : List Zone) (l2 : List CpuCache) : Option (Allocator × Int × Int) :=
 chk (inb a_p1 l2.length) <|
 (percpu_Take (at_ l2 a_p1) (at_ x2.1 i1)).bind fun x6 =>
 cnd (!decide (x6.2.2 = 0)) (
 some ((⟨([] : List Int), 0, 0, ([] : List Zone), ([] : List CpuCache)⟩ : Allocator), 0, x6.2.2)) (
 some ((⟨d1, d2, d3, l1, l2.set a_p1.toNat x6.1⟩ : Allocator), x6.2.1, 0))
def allocator_Alloc_j3 (a_p1 : Int) (x2 : (List Int) × Int) (i1 : Int) (d4 : List Int) (d5 : Int) (d6 : Int) (l3 : List Zone) (l4 : List CpuCache) : Option (Allocator × Int × Int) :=
 (allocator_refill (⟨d4, d5, d6, l3, l4⟩ : Allocator) a_p1 (at_ x2.1 i1)).bind fun x8 =>
 allocator_Alloc_j2 a_p1 x2 i1 x8.1.nodes x8.1.batch x8.1.high x8.1.zones x8.1.caches
def allocator_Alloc_j4 (self1 : Int → (List Int) → Int → Int → (List Zone) → (List CpuCache) → Option (Allocator × Int × Int)) (i2 : Int) (d10 : List Int) (d11 : Int) (d12 : Int) (l7 : List Zone) (l8 : List CpuCache) : Option (Allocator × Int × Int) :=
 chk (inI (i2 + 1)) <|
 self1 (i2 + 1) d10 d11 d12 l7 l8
def allocator_Alloc_b1 (a_p1 : Int) (x2 : (List Int) × Int) (i1 : Int) (x7 : Allocator × Bool) (self1 : Int → (List Int) → Int → Int → (List Zone) → (List CpuCache) → Option (Allocator × Int × Int)) (i2 : Int) (d7 : List Int) (d8 : Int) (d9 : Int) (l5 : List Zone) (l6 : List CpuCache) : Option (Allocator × Int × Int) :=
 cnd (decide (i2 < (x7.1.caches.length : Int))) (
 cnd (!decide (i2 = a_p1)) (
 (allocator_drain (⟨d7, d8, d9, l5, l6⟩ : Allocator) i2 (at_ x2.1 i1)).bind fun x9 =>
 allocator_Alloc_j4 self1 i2 x9.nodes x9.batch x9.high x9.zones x9.caches) (
 allocator_Alloc_j4 self1 i2 d7 d8 d9 l5 l6)) (
 allocator_Alloc_j3 a_p1 x2 i1 d7 d8 d9 l5 l6)
def allocator_Alloc_l1 (a_p1 : Int) (x2 : (List Int) × Int) (i1 : Int) (x7 : Allocator × Bool) : Nat → Int → (List Int) → Int → Int → (List Zone) → (List CpuCache) → Option (Allocator × Int × Int)
  | 0, _, _, _, _, _, _ => none
  | n + 1, i2, d7, d8, d9, l5, l6 => allocator_Alloc_b1 a_p1 x2 i1 x7 (allocator_Alloc_l1 a_p1 x2 i1 x7 n) i2 d7 d8 d9 l5 l6
def allocator_Alloc_b0 (a_p0 : Allocator) (a_p1 : Int) (a_p3 : Bool) (x2 : (List Int) × Int) (self0 : Int → Option (Allocator × Int × Int)) (i1 : Int) : Option (Allocator × Int × Int) :=
 cnd (decide (i1 < (x2.1.length : Int))) (
 chk (inb i1 x2.1.length) <|
 (cnd a_p3 (allocator_count a_p0 (at_ x2.1 i1)) (some default)).bind fun x3 =>
 (cnd (!(a_p3 && (decide (x3 = 0))) && !a_p3) (allocator_room a_p0 (at_ x2.1 i1)) (some default)).bind fun x4 =>
 cnd ((a_p3 && (decide (x3 = 0))) || ((!a_p3) && (decide (x4 < 1)))) (
 allocator_Alloc_j1 self0 i1) (
 (allocator_clone a_p0).bind fun x5 =>
 chk (inb a_p1 x5.caches.length) <|
 chk (inb (at_ x2.1 i1) ((at_ x5.caches a_p1).lists).length) <|
 (cnd (decide (((at_ ((at_ x5.caches a_p1).lists) (at_ x2.1 i1)).length : Int) = 0)) (allocator_refill (⟨x5.nodes, x5.batch, x5.high, x5.zones, x5.caches⟩ : Allocator) a_p1 (at_ x2.1 i1)) (some ((⟨x5.nodes, x5.batch, x5.high, x5.zones, x5.caches⟩ : Allocator), default))).bind fun x7 =>
 cnd ((decide (((at_ ((at_ x5.caches a_p1).lists) (at_ x2.1 i1)).length : Int) = 0)) && (!x7.2)) (
 allocator_Alloc_l1 a_p1 x2 i1 x7 FUEL 0 x7.1.nodes x7.1.batch x7.1.high x7.1.zones x7.1.caches) (
 allocator_Alloc_j2 a_p1 x2 i1 x7.1.nodes x7.1.batch x7.1.high x7.1.zones x7.1.caches))) (
 allocator_Alloc_j0 )
def allocator_Alloc_l0 (a_p0 : Allocator) (a_p1 : Int) (a_p3 : Bool) (x2 : (List Int) × Int) : Nat → Int → Option (Allocator × Int × Int)
  | 0, _ => none
  | n + 1, i1 => allocator_Alloc_b0 a_p0 a_p1 a_p3 x2 (allocator_Alloc_l0 a_p0 a_p1 a_p3 x2 n) i1
def allocator_Alloc (a_p0 : Allocator) (a_p1 : Int) (a_p2 : Bool) (a_p3 : Bool) : Option (Allocator × Int × Int) :=
 (allocator_Check a_p0).bind fun x1 =>
 cnd (!decide (x1 = 0)) (
 some ((⟨([] : List Int), 0, 0, ([] : List Zone), ([] : List CpuCache)⟩ : Allocator), 0, x1)) (
 cnd ((decide (a_p1 < 0)) || (decide ((a_p0.nodes.length : Int) ≤ a_p1))) (
 some ((⟨([] : List Int), 0, 0, ([] : List Zone), ([] : List CpuCache)⟩ : Allocator), 0, 2)) (
 chk (inb a_p1 a_p0.nodes.length) <|
 (zonelist_Order a_p0.zones (at_ a_p0.nodes a_p1) a_p2).bind fun x2 =>
 allocator_Alloc_l0 a_p0 a_p1 a_p3 x2 FUEL 0))
def slices_Index_Lint_int_j0  : Option Int :=
 some (-1)
def slices_Index_Lint_int_b0 (a_s : List Int) (a_v : Int) (self0 : Int → Option Int) (i1 : Int) : Option Int :=
 cnd (decide (i1 < (a_s.length : Int))) (
 chk (inb i1 a_s.length) <|
 cnd (decide (a_v = (at_ a_s i1))) (
 some i1) (
 chk (inI (i1 + 1)) <|
 self0 (i1 + 1))) (
 slices_Index_Lint_int_j0 )
def slices_Index_Lint_int_l0 (a_s : List Int) (a_v : Int) : Nat → Int → Option Int
  | 0, _ => none
  | n + 1, i1 => slices_Index_Lint_int_b0 a_s a_v (slices_Index_Lint_int_l0 a_s a_v n) i1
def slices_Index_Lint_int (a_s : List Int) (a_v : Int) : Option Int :=
 slices_Index_Lint_int_l0 a_s a_v FUEL 0
def slices_Contains_Lint_int (a_s : List Int) (a_v : Int) : Option Bool :=
 (slices_Index_Lint_int a_s a_v).bind fun x1 =>
 some (decide (0 ≤ x1))
def allocator_cached_1 (a_c : CpuCache) (c_0 : Int) (c_1 : Int) : Option Bool :=
 chk (inb c_0 a_c.lists.length) <|
 (slices_Contains_Lint_int (at_ a_c.lists c_0) c_1).bind fun x1 =>
 some x1
def slices_IndexFunc_Lapi_CpuCache_api_CpuCache_j0  : Option Int :=
 some (-1)
def slices_IndexFunc_Lapi_CpuCache_api_CpuCache_b0 (a_s : List CpuCache) (a_f : CpuCache → Option Bool) (self0 : Int → Option Int) (i1 : Int) : Option Int :=
 cnd (decide (i1 < (a_s.length : Int))) (
 chk (inb i1 a_s.length) <|
 (a_f (at_ a_s i1)).bind fun x1 =>
 cnd (x1) (
 some i1) (
 chk (inI (i1 + 1)) <|
 self0 (i1 + 1))) (
 slices_IndexFunc_Lapi_CpuCache_api_CpuCache_j0 )
def slices_IndexFunc_Lapi_CpuCache_api_CpuCache_l0 (a_s : List CpuCache) (a_f : CpuCache → Option Bool) : Nat → Int → Option Int
  | 0, _ => none
  | n + 1, i1 => slices_IndexFunc_Lapi_CpuCache_api_CpuCache_b0 a_s a_f (slices_IndexFunc_Lapi_CpuCache_api_CpuCache_l0 a_s a_f n) i1
def slices_IndexFunc_Lapi_CpuCache_api_CpuCache (a_s : List CpuCache) (a_f : CpuCache → Option Bool) : Option Int :=
 slices_IndexFunc_Lapi_CpuCache_api_CpuCache_l0 a_s a_f FUEL 0
def allocator_cached (a_a : Allocator) (a_z : Int) (a_frame : Int) : Option Int :=
 (slices_IndexFunc_Lapi_CpuCache_api_CpuCache a_a.caches (fun y0 => allocator_cached_1 y0 a_z a_frame)).bind fun x1 =>
 some x1
def allocator_free (a_a : Allocator) (a_z : Int) (a_frame : Int) : Option Bool :=
 chk (inb a_z a_a.zones.length) <|
 (buddy_IsFree (at_ a_a.zones a_z) a_frame).bind fun x1 =>
 (cnd (!x1) (allocator_cached a_a a_z a_frame) (some default)).bind fun x2 =>
 some (x1 || (decide (0 ≤ x2)))
def allocator_IsFree (a_a : Allocator) (a_frame : Int) : Option Bool :=
 (allocator_Check a_a).bind fun x1 =>
 cnd (!decide (x1 = 0)) (
 some false) (
 (allocator_zone a_a a_frame).bind fun x2 =>
 (cnd (decide (0 ≤ x2)) (allocator_free a_a x2 a_frame) (some default)).bind fun x3 =>
 some ((decide (0 ≤ x2)) && x3))
def allocator_Count (a_a : Allocator) (a_z : Int) : Option Int :=
 (allocator_Check a_a).bind fun x1 =>
 cnd (((!decide (x1 = 0)) || (decide (a_z < 0))) || (decide ((a_a.zones.length : Int) ≤ a_z))) (
 some 0) (
 (allocator_count a_a a_z).bind fun x2 =>
 some x2)
def allocator_Zone (a_a : Allocator) (a_frame : Int) : Option Int :=
 (allocator_Check a_a).bind fun x1 =>
 cnd (!decide (x1 = 0)) (
 some (-1)) (
 (allocator_zone a_a a_frame).bind fun x2 =>
 some x2)
def percpu_Put (a_p0 : CpuCache) (a_p1 : Int) (a_p2 : Int) (a_p3 : Int) (a_p4 : Int) : Option (CpuCache × (List Int) × Int) :=
 (percpu_check a_p0 a_p1).bind fun x1 =>
 cnd (!decide (x1 = 0)) (
 some ((⟨([] : List (List Int))⟩ : CpuCache), [], x1)) (
 (percpu_isFrame a_p2).bind fun x2 =>
 cnd (!x2) (
 some ((⟨([] : List (List Int))⟩ : CpuCache), [], 2)) (
 cnd ((decide (a_p3 < 1)) || (decide (a_p4 < a_p3))) (
 some ((⟨([] : List (List Int))⟩ : CpuCache), [], 1)) (
 (percpu_frames a_p0).bind fun x3 =>
 cnd (mget false x3 a_p2) (
 some ((⟨([] : List (List Int))⟩ : CpuCache), [], 7)) (
 chk (inb a_p1 a_p0.lists.length) <|
 chk (inI (((at_ a_p0.lists a_p1).length : Int) + 1)) <|
 chk (decide (0 ≤ ((at_ a_p0.lists a_p1).length : Int)) && decide (((at_ a_p0.lists a_p1).length : Int) ≤ (((at_ a_p0.lists a_p1).length : Int) + 1)) && decide ((((at_ a_p0.lists a_p1).length : Int) + 1) * (8 : Int) ≤ 4294967296)) <|
 chk (decide (((copyL (List.replicate ((at_ a_p0.lists a_p1).length : Int).toNat 0) (at_ a_p0.lists a_p1)).length + [a_p2].length) * 8 ≤ 4294967296)) <|
 cnd (decide ((((copyL (List.replicate ((at_ a_p0.lists a_p1).length : Int).toNat 0) (at_ a_p0.lists a_p1)) ++ [a_p2]).length : Int) ≤ a_p4)) (
 (percpu_replace a_p0 a_p1 ((copyL (List.replicate ((at_ a_p0.lists a_p1).length : Int).toNat 0) (at_ a_p0.lists a_p1)) ++ [a_p2])).bind fun x4 =>
 (percpu_replace a_p0 a_p1 ((copyL (List.replicate ((at_ a_p0.lists a_p1).length : Int).toNat 0) (at_ a_p0.lists a_p1)) ++ [a_p2])).bind fun x5 =>
 some (x5, [], 0)) (
 chk (decide (0 ≤ a_p3) && decide (a_p3 ≤ a_p3) && decide (a_p3 * (8 : Int) ≤ 4294967296)) <|
 chk (cutOk a_p3 (((copyL (List.replicate ((at_ a_p0.lists a_p1).length : Int).toNat 0) (at_ a_p0.lists a_p1)) ++ [a_p2]).length : Int) ((copyL (List.replicate ((at_ a_p0.lists a_p1).length : Int).toNat 0) (at_ a_p0.lists a_p1)) ++ [a_p2]).length) <|
 (percpu_replace a_p0 a_p1 (cutL ((copyL (List.replicate ((at_ a_p0.lists a_p1).length : Int).toNat 0) (at_ a_p0.lists a_p1)) ++ [a_p2]) a_p3 (((copyL (List.replicate ((at_ a_p0.lists a_p1).length : Int).toNat 0) (at_ a_p0.lists a_p1)) ++ [a_p2]).length : Int))).bind fun x6 =>
 some (x6, copyL (List.replicate a_p3.toNat 0) ((copyL (List.replicate ((at_ a_p0.lists a_p1).length : Int).toNat 0) (at_ a_p0.lists a_p1)) ++ [a_p2]), 0))))))
def allocator_Free (a_p0 : Allocator) (a_p1 : Int) (a_p2 : Int) : Option (Allocator × Int) :=
 (allocator_Check a_p0).bind fun x1 =>
 cnd (!decide (x1 = 0)) (
 some ((⟨([] : List Int), 0, 0, ([] : List Zone), ([] : List CpuCache)⟩ : Allocator), x1)) (
 (allocator_zone a_p0 a_p2).bind fun x2 =>
 cnd (((decide (a_p1 < 0)) || (decide ((a_p0.nodes.length : Int) ≤ a_p1))) || (decide (x2 < 0))) (
 some ((⟨([] : List Int), 0, 0, ([] : List Zone), ([] : List CpuCache)⟩ : Allocator), 2)) (
 (allocator_free a_p0 x2 a_p2).bind fun x3 =>
 cnd (x3) (
 some ((⟨([] : List Int), 0, 0, ([] : List Zone), ([] : List CpuCache)⟩ : Allocator), 7)) (
 (allocator_clone a_p0).bind fun x4 =>
 chk (inb a_p1 x4.caches.length) <|
 (percpu_Put (at_ x4.caches a_p1) x2 a_p2 x4.batch x4.high).bind fun x5 =>
 cnd (!decide (x5.2.2 = 0)) (
 some ((⟨([] : List Int), 0, 0, ([] : List Zone), ([] : List CpuCache)⟩ : Allocator), x5.2.2)) (
 (allocator_give (⟨x4.nodes, x4.batch, x4.high, x4.zones, x4.caches.set a_p1.toNat x5.1⟩ : Allocator) x2 x5.2.1).bind fun x6 =>
 some ((⟨x6.nodes, x6.batch, x6.high, x6.zones, x6.caches⟩ : Allocator), 0)))))
def allocator_AllocBlock_j0  : Option (Allocator × Int × Int) :=
 some ((⟨([] : List Int), 0, 0, ([] : List Zone), ([] : List CpuCache)⟩ : Allocator), 0, 16)
def allocator_AllocBlock_j1 (self0 : Int → (List Int) → Int → Int → (List Zone) → (List CpuCache) → Option (Allocator × Int × Int)) (i1 : Int) (d4 : List Int) (d5 : Int) (d6 : Int) (l3 : List Zone) (l4 : List CpuCache) : Option (Allocator × Int × Int) :=
 chk (inI (i1 + 1)) <|
 self0 (i1 + 1) d4 d5 d6 l3 l4
def allocator_AllocBlock_j2 (self0 : Int → (List Int) → Int → Int → (List Zone) → (List CpuCache) → Option (Allocator × Int × Int)) (a_p2 : Int) (x3 : (List Int) × Int) (i1 : Int) (d7 : List Int) (d8 : Int) (d9 : Int) (l5 : List Zone) (l6 : List CpuCache) : Option (Allocator × Int × Int) :=
 chk (inb (at_ x3.1 i1) l5.length) <|
 (buddy_Alloc (at_ l5 (at_ x3.1 i1)) a_p2).bind fun x5 =>
 cnd (decide (x5.2.2 = 0)) (
 some ((⟨d7, d8, d9, l5.set (at_ x3.1 i1).toNat x5.1, l6⟩ : Allocator), x5.2.1, 0)) (
 allocator_AllocBlock_j1 self0 i1 d7 d8 d9 l5 l6)
def allocator_AllocBlock_b1 (self0 : Int → (List Int) → Int → Int → (List Zone) → (List CpuCache) → Option (Allocator × Int × Int)) (a_p2 : Int) (x3 : (List Int) × Int) (i1 : Int) (l2 : List CpuCache) (self1 : Int → (List Int) → Int → Int → (List Zone) → (List CpuCache) → Option (Allocator × Int × Int)) (i2 : Int) (d10 : List Int) (d11 : Int) (d12 : Int) (l7 : List Zone) (l8 : List CpuCache) : Option (Allocator × Int × Int) :=
 cnd (decide (i2 < (l2.length : Int))) (
 (allocator_drain (⟨d10, d11, d12, l7, l8⟩ : Allocator) i2 (at_ x3.1 i1)).bind fun x6 =>
 chk (inI (i2 + 1)) <|
 self1 (i2 + 1) x6.nodes x6.batch x6.high x6.zones x6.caches) (
 allocator_AllocBlock_j2 self0 a_p2 x3 i1 d10 d11 d12 l7 l8)
def allocator_AllocBlock_l1 (self0 : Int → (List Int) → Int → Int → (List Zone) → (List CpuCache) → Option (Allocator × Int × Int)) (a_p2 : Int) (x3 : (List Int) × Int) (i1 : Int) (l2 : List CpuCache) : Nat → Int → (List Int) → Int → Int → (List Zone) → (List CpuCache) → Option (Allocator × Int × Int)
  | 0, _, _, _, _, _, _ => none
  | n + 1, i2, d10, d11, d12, l7, l8 => allocator_AllocBlock_b1 self0 a_p2 x3 i1 l2 (allocator_AllocBlock_l1 self0 a_p2 x3 i1 l2 n) i2 d10 d11 d12 l7 l8
def allocator_AllocBlock_b0 (a_p2 : Int) (x3 : (List Int) × Int) (self0 : Int → (List Int) → Int → Int → (List Zone) → (List CpuCache) → Option (Allocator × Int × Int)) (i1 : Int) (d1 : List Int) (d2 : Int) (d3 : Int) (l1 : List Zone) (l2 : List CpuCache) : Option (Allocator × Int × Int) :=
 cnd (decide (i1 < (x3.1.length : Int))) (
 chk (inb i1 x3.1.length) <|
 (allocator_room (⟨d1, d2, d3, l1, l2⟩ : Allocator) (at_ x3.1 i1)).bind fun x4 =>
 chk (shOk a_p2) <|
 chk (inI ((1 : Int) * 2 ^ a_p2.toNat)) <|
 cnd (decide (x4 < ((1 : Int) * 2 ^ a_p2.toNat))) (
 allocator_AllocBlock_j1 self0 i1 d1 d2 d3 l1 l2) (
 allocator_AllocBlock_l1 self0 a_p2 x3 i1 l2 FUEL 0 d1 d2 d3 l1 l2)) (
 allocator_AllocBlock_j0 )
def allocator_AllocBlock_l0 (a_p2 : Int) (x3 : (List Int) × Int) : Nat → Int → (List Int) → Int → Int → (List Zone) → (List CpuCache) → Option (Allocator × Int × Int)
  | 0, _, _, _, _, _, _ => none
  | n + 1, i1, d1, d2, d3, l1, l2 => allocator_AllocBlock_b0 a_p2 x3 (allocator_AllocBlock_l0 a_p2 x3 n) i1 d1 d2 d3 l1 l2
def allocator_AllocBlock (a_p0 : Allocator) (a_p1 : Int) (a_p2 : Int) : Option (Allocator × Int × Int) :=
 (allocator_Check a_p0).bind fun x1 =>
 cnd (!decide (x1 = 0)) (
 some ((⟨([] : List Int), 0, 0, ([] : List Zone), ([] : List CpuCache)⟩ : Allocator), 0, x1)) (
 cnd ((((decide (a_p1 < 0)) || (decide ((a_p0.nodes.length : Int) ≤ a_p1))) || (decide (a_p2 < 0))) || (decide (4 < a_p2))) (
 some ((⟨([] : List Int), 0, 0, ([] : List Zone), ([] : List CpuCache)⟩ : Allocator), 0, 2)) (
 (allocator_clone a_p0).bind fun x2 =>
 chk (inb a_p1 a_p0.nodes.length) <|
 (zonelist_Order a_p0.zones (at_ a_p0.nodes a_p1) false).bind fun x3 =>
 allocator_AllocBlock_l0 a_p2 x3 FUEL 0 x2.nodes x2.batch x2.high x2.zones x2.caches))
def allocator_Drain_j0 (d1 : List Int) (d2 : Int) (d3 : Int) (l1 : List Zone) (l2 : List CpuCache) : Option Allocator :=
 some (⟨d1, d2, d3, l1, l2⟩ : Allocator)
def allocator_Drain_j1 (self0 : Int → (List Int) → Int → Int → (List Zone) → (List CpuCache) → Option Allocator) (i1 : Int) (d7 : List Int) (d8 : Int) (d9 : Int) (l5 : List Zone) (l6 : List CpuCache) : Option Allocator :=
 chk (inI (i1 + 1)) <|
 self0 (i1 + 1) d7 d8 d9 l5 l6
def allocator_Drain_b1 (self0 : Int → (List Int) → Int → Int → (List Zone) → (List CpuCache) → Option Allocator) (i1 : Int) (l3 : List Zone) (self1 : Int → (List Int) → Int → Int → (List Zone) → (List CpuCache) → Option Allocator) (i2 : Int) (d10 : List Int) (d11 : Int) (d12 : Int) (l7 : List Zone) (l8 : List CpuCache) : Option Allocator :=
 cnd (decide (i2 < (l3.length : Int))) (
 (allocator_drain (⟨d10, d11, d12, l7, l8⟩ : Allocator) i1 i2).bind fun x3 =>
 chk (inI (i2 + 1)) <|
 self1 (i2 + 1) x3.nodes x3.batch x3.high x3.zones x3.caches) (
 allocator_Drain_j1 self0 i1 d10 d11 d12 l7 l8)
def allocator_Drain_l1 (self0 : Int → (List Int) → Int → Int → (List Zone) → (List CpuCache) → Option Allocator) (i1 : Int) (l3 : List Zone) : Nat → Int → (List Int) → Int → Int → (List Zone) → (List CpuCache) → Option Allocator
  | 0, _, _, _, _, _, _ => none
  | n + 1, i2, d10, d11, d12, l7, l8 => allocator_Drain_b1 self0 i1 l3 (allocator_Drain_l1 self0 i1 l3 n) i2 d10 d11 d12 l7 l8
def allocator_Drain_b0 (x2 : Allocator) (self0 : Int → (List Int) → Int → Int → (List Zone) → (List CpuCache) → Option Allocator) (i1 : Int) (d4 : List Int) (d5 : Int) (d6 : Int) (l3 : List Zone) (l4 : List CpuCache) : Option Allocator :=
 cnd (decide (i1 < (x2.caches.length : Int))) (
 allocator_Drain_l1 self0 i1 l3 FUEL 0 d4 d5 d6 l3 l4) (
 allocator_Drain_j0 d4 d5 d6 l3 l4)
def allocator_Drain_l0 (x2 : Allocator) : Nat → Int → (List Int) → Int → Int → (List Zone) → (List CpuCache) → Option Allocator
  | 0, _, _, _, _, _, _ => none
  | n + 1, i1, d4, d5, d6, l3, l4 => allocator_Drain_b0 x2 (allocator_Drain_l0 x2 n) i1 d4 d5 d6 l3 l4
def allocator_Drain (a_a : Allocator) : Option Allocator :=
 (allocator_Check a_a).bind fun x1 =>
 cnd (!decide (x1 = 0)) (
 some (⟨([] : List Int), 0, 0, ([] : List Zone), ([] : List CpuCache)⟩ : Allocator)) (
 (allocator_clone a_a).bind fun x2 =>
 allocator_Drain_l0 x2 FUEL 0 x2.nodes x2.batch x2.high x2.zones x2.caches)
def ref14_SameList_j0  : Option Bool :=
 some true
def ref14_SameList_b0 (a_a : List Int) (a_b : List Int) (self0 : Int → Option Bool) (i1 : Int) : Option Bool :=
 cnd (decide (i1 < (a_a.length : Int))) (
 chk (inb i1 a_a.length) <|
 chk (inb i1 a_b.length) <|
 cnd (!decide ((at_ a_a i1) = (at_ a_b i1))) (
 some false) (
 chk (inI (i1 + 1)) <|
 self0 (i1 + 1))) (
 ref14_SameList_j0 )
def ref14_SameList_l0 (a_a : List Int) (a_b : List Int) : Nat → Int → Option Bool
  | 0, _ => none
  | n + 1, i1 => ref14_SameList_b0 a_a a_b (ref14_SameList_l0 a_a a_b n) i1
def ref14_SameList (a_a : List Int) (a_b : List Int) : Option Bool :=
 cnd (!decide ((a_a.length : Int) = (a_b.length : Int))) (
 some false) (
 ref14_SameList_l0 a_a a_b FUEL 0)
def ref12_SameInts_j0  : Option Bool :=
 some true
def ref12_SameInts_b0 (a_a : List Int) (a_b : List Int) (self0 : Int → Option Bool) (i1 : Int) : Option Bool :=
 cnd (decide (i1 < (a_a.length : Int))) (
 chk (inb i1 a_a.length) <|
 chk (inb i1 a_b.length) <|
 cnd (!decide ((at_ a_a i1) = (at_ a_b i1))) (
 some false) (
 chk (inI (i1 + 1)) <|
 self0 (i1 + 1))) (
 ref12_SameInts_j0 )
def ref12_SameInts_l0 (a_a : List Int) (a_b : List Int) : Nat → Int → Option Bool
  | 0, _ => none
  | n + 1, i1 => ref12_SameInts_b0 a_a a_b (ref12_SameInts_l0 a_a a_b n) i1
def ref12_SameInts (a_a : List Int) (a_b : List Int) : Option Bool :=
 cnd (!decide ((a_a.length : Int) = (a_b.length : Int))) (
 some false) (
 ref12_SameInts_l0 a_a a_b FUEL 0)
def ref12_Same_j0  : Option Bool :=
 some true
def ref12_Same_b0 (a_a : Zone) (a_b : Zone) (self0 : Int → Option Bool) (i1 : Int) : Option Bool :=
 cnd (decide (i1 ≤ 4)) (
 chk (inb i1 5) <|
 (ref12_SameInts (a_a.free.getD i1.toNat ([] : List Int)) (a_b.free.getD i1.toNat ([] : List Int))).bind fun x1 =>
 cnd (!x1) (
 some false) (
 chk (inI (i1 + 1)) <|
 self0 (i1 + 1))) (
 ref12_Same_j0 )
def ref12_Same_l0 (a_a : Zone) (a_b : Zone) : Nat → Int → Option Bool
  | 0, _ => none
  | n + 1, i1 => ref12_Same_b0 a_a a_b (ref12_Same_l0 a_a a_b n) i1
def ref12_Same (a_a : Zone) (a_b : Zone) : Option Bool :=
 cnd (((((!decide (a_a.node = a_b.node)) || (!decide (a_a.kind = a_b.kind))) || (!decide (a_a.start = a_b.start))) || (!decide (a_a.count = a_b.count))) || (!decide (a_a.min = a_b.min))) (
 some false) (
 ref12_Same_l0 a_a a_b FUEL 0)
def ref14_Same_j0  : Option Bool :=
 some true
def ref14_Same_b0 (a_a : CpuCache) (a_b : CpuCache) (self0 : Int → Option Bool) (i1 : Int) : Option Bool :=
 cnd (decide (i1 < (a_a.lists.length : Int))) (
 chk (inb i1 a_a.lists.length) <|
 chk (inb i1 a_b.lists.length) <|
 (ref14_SameList (at_ a_a.lists i1) (at_ a_b.lists i1)).bind fun x1 =>
 cnd (!x1) (
 some false) (
 chk (inI (i1 + 1)) <|
 self0 (i1 + 1))) (
 ref14_Same_j0 )
def ref14_Same_l0 (a_a : CpuCache) (a_b : CpuCache) : Nat → Int → Option Bool
  | 0, _ => none
  | n + 1, i1 => ref14_Same_b0 a_a a_b (ref14_Same_l0 a_a a_b n) i1
def ref14_Same (a_a : CpuCache) (a_b : CpuCache) : Option Bool :=
 cnd (!decide ((a_a.lists.length : Int) = (a_b.lists.length : Int))) (
 some false) (
 ref14_Same_l0 a_a a_b FUEL 0)
def ref17_Same_j1  : Option Bool :=
 some true
def ref17_Same_b0 (a_p0 : Allocator) (a_p1 : Allocator) (self0 : Int → Option Bool) (i1 : Int) : Option Bool :=
 cnd (decide (i1 < (a_p0.caches.length : Int))) (
 chk (inb i1 a_p0.caches.length) <|
 chk (inb i1 a_p1.caches.length) <|
 (ref14_Same (at_ a_p0.caches i1) (at_ a_p1.caches i1)).bind fun x2 =>
 cnd (!x2) (
 some false) (
 chk (inI (i1 + 1)) <|
 self0 (i1 + 1))) (
 ref17_Same_j1 )
def ref17_Same_l0 (a_p0 : Allocator) (a_p1 : Allocator) : Nat → Int → Option Bool
  | 0, _ => none
  | n + 1, i1 => ref17_Same_b0 a_p0 a_p1 (ref17_Same_l0 a_p0 a_p1 n) i1
def ref17_Same_j0 (a_p0 : Allocator) (a_p1 : Allocator) : Option Bool :=
 ref17_Same_l0 a_p0 a_p1 FUEL 0
def ref17_Same_b1 (a_p0 : Allocator) (a_p1 : Allocator) (self1 : Int → Option Bool) (i2 : Int) : Option Bool :=
 cnd (decide (i2 < (a_p0.zones.length : Int))) (
 chk (inb i2 a_p0.zones.length) <|
 chk (inb i2 a_p1.zones.length) <|
 (ref12_Same (at_ a_p0.zones i2) (at_ a_p1.zones i2)).bind fun x3 =>
 cnd (!x3) (
 some false) (
 chk (inI (i2 + 1)) <|
 self1 (i2 + 1))) (
 ref17_Same_j0 a_p0 a_p1)
def ref17_Same_l1 (a_p0 : Allocator) (a_p1 : Allocator) : Nat → Int → Option Bool
  | 0, _ => none
  | n + 1, i2 => ref17_Same_b1 a_p0 a_p1 (ref17_Same_l1 a_p0 a_p1 n) i2
def ref17_Same (a_p0 : Allocator) (a_p1 : Allocator) : Option Bool :=
 (ref14_SameList a_p0.nodes a_p1.nodes).bind fun x1 =>
 cnd (((((!x1) || (!decide (a_p0.batch = a_p1.batch))) || (!decide (a_p0.high = a_p1.high))) || (!decide ((a_p0.zones.length : Int) = (a_p1.zones.length : Int)))) || (!decide ((a_p0.caches.length : Int) = (a_p1.caches.length : Int)))) (
 some false) (
 ref17_Same_l1 a_p0 a_p1 FUEL 0)
def law17_awake  : Option Bool :=
 (allocator_New [0, 1] 2 3 [(⟨0, 0, 8, 2⟩ : ZoneSpec), (⟨1, 1, 8, 0⟩ : ZoneSpec)]).bind fun x1 =>
 (allocator_New [0, 1] 2 3 [(⟨0, 0, 8, 2⟩ : ZoneSpec), (⟨1, 1, 8, 0⟩ : ZoneSpec)]).bind fun x2 =>
 (allocator_New [0, 1] 2 3 [(⟨0, 0, 8, 2⟩ : ZoneSpec), (⟨1, 1, 8, 0⟩ : ZoneSpec)]).bind fun x3 =>
 (cnd (!(((!decide (x3.2 = 0)) || (!decide ((x3.1.zones.length : Int) = 2))) || (!decide ((x3.1.caches.length : Int) = 2)))) (allocator_Check x3.1) (some default)).bind fun x4 =>
 (cnd (!((((!decide (x3.2 = 0)) || (!decide ((x3.1.zones.length : Int) = 2))) || (!decide ((x3.1.caches.length : Int) = 2))) || (!decide (x4 = 0)))) (allocator_Frames x3.1) (some default)).bind fun x5 =>
 cnd (((((!decide (x3.2 = 0)) || (!decide ((x3.1.zones.length : Int) = 2))) || (!decide ((x3.1.caches.length : Int) = 2))) || (!decide (x4 = 0))) || (!decide (x5 = 16))) (
 some false) (
 (allocator_Headroom x3.1).bind fun x6 =>
 (allocator_Alloc x3.1 0 true false).bind fun x7 =>
 (cnd (!((((!decide (x6.1 = 6)) || (!decide (x6.2 = 14))) || (!decide (x7.2.2 = 0))) || (!decide (x7.2.1 = 0)))) (allocator_IsFree x7.1 0) (some default)).bind fun x8 =>
 (cnd (!(((((!decide (x6.1 = 6)) || (!decide (x6.2 = 14))) || (!decide (x7.2.2 = 0))) || (!decide (x7.2.1 = 0))) || x8)) (allocator_IsFree x7.1 1) (some default)).bind fun x9 =>
 (cnd (!((((((!decide (x6.1 = 6)) || (!decide (x6.2 = 14))) || (!decide (x7.2.2 = 0))) || (!decide (x7.2.1 = 0))) || x8) || (!x9))) (allocator_Count x7.1 0) (some default)).bind fun x10 =>
 (cnd (!(((((((!decide (x6.1 = 6)) || (!decide (x6.2 = 14))) || (!decide (x7.2.2 = 0))) || (!decide (x7.2.1 = 0))) || x8) || (!x9)) || (!decide (x10 = 7)))) (allocator_Zone x7.1 8) (some default)).bind fun x11 =>
 cnd ((((((((!decide (x6.1 = 6)) || (!decide (x6.2 = 14))) || (!decide (x7.2.2 = 0))) || (!decide (x7.2.1 = 0))) || x8) || (!x9)) || (!decide (x10 = 7))) || (!decide (x11 = 1))) (
 some false) (
 (allocator_Free x7.1 1 0).bind fun x12 =>
 cnd (!decide (x12.2 = 0)) (
 some false) (
 (allocator_AllocBlock x3.1 1 3).bind fun x13 =>
 (cnd ((decide (x13.2.2 = 0)) && (decide (x13.2.1 = 8))) (allocator_Drain x12.1) (some default)).bind fun x14 =>
 (cnd ((decide (x13.2.2 = 0)) && (decide (x13.2.1 = 8))) (ref17_Same x14 x3.1) (some default)).bind fun x15 =>
 some (((decide (x13.2.2 = 0)) && (decide (x13.2.1 = 8))) && x15))))
def ref17_inRange_j0  : Option Bool :=
 some true
def ref17_inRange_b0 (a_nodes : List Int) (self0 : Int → Option Bool) (i1 : Int) : Option Bool :=
 cnd (decide (i1 < (a_nodes.length : Int))) (
 chk (inb i1 a_nodes.length) <|
 cnd ((decide ((at_ a_nodes i1) < 0)) || (decide (4 ≤ (at_ a_nodes i1)))) (
 some false) (
 chk (inI (i1 + 1)) <|
 self0 (i1 + 1))) (
 ref17_inRange_j0 )
def ref17_inRange_l0 (a_nodes : List Int) : Nat → Int → Option Bool
  | 0, _ => none
  | n + 1, i1 => ref17_inRange_b0 a_nodes (ref17_inRange_l0 a_nodes n) i1
def ref17_inRange (a_nodes : List Int) (a_batch : Int) (a_high : Int) (a_zones : Int) : Option Bool :=
 cnd (((((((decide ((a_nodes.length : Int) < 1)) || (decide (4 < (a_nodes.length : Int)))) || (decide (a_batch < 1))) || (decide (a_high < a_batch))) || (decide (64 < a_high))) || (decide (a_zones < 1))) || (decide (6 < a_zones))) (
 some false) (
 ref17_inRange_l0 a_nodes FUEL 0)
def ref12_InRange (a_z : Zone) : Option Bool :=
 cnd (((decide (a_z.node < 0)) || (decide (4 ≤ a_z.node))) || ((!decide (a_z.kind = 0)) && (!decide (a_z.kind = 1)))) (
 some false) (
 chk (!(((decide (0 ≤ a_z.start)) && (decide (1 ≤ a_z.count))) && (decide (a_z.count ≤ 256))) || inI (256 - a_z.count)) <|
 some ((((((decide (0 ≤ a_z.start)) && (decide (1 ≤ a_z.count))) && (decide (a_z.count ≤ 256))) && (decide (a_z.start ≤ (256 - a_z.count)))) && (decide (0 ≤ a_z.min))) && (decide (a_z.min ≤ a_z.count))))
def ref12_Block (a_z : Zone) (a_frame : Int) (a_order : Int) : Option Bool :=
 chk (!(!(((decide (a_order < 0)) || (decide (4 < a_order))) || (decide (a_frame < a_z.start)))) || inI (a_z.start + a_z.count)) <|
 cnd ((((decide (a_order < 0)) || (decide (4 < a_order))) || (decide (a_frame < a_z.start))) || (decide ((a_z.start + a_z.count) ≤ a_frame))) (
 some false) (
 chk (decide (IntKind.u64.wrap a_order = a_order)) <|
 chk (shOk a_order) <|
 chk (inI ((1 : Int) * 2 ^ a_order.toNat)) <|
 chk (!decide (((1 : Int) * 2 ^ a_order.toNat) = 0)) <|
 chk (!(decide ((a_frame.tmod ((1 : Int) * 2 ^ a_order.toNat)) = 0)) || inI (a_frame + ((1 : Int) * 2 ^ a_order.toNat))) <|
 chk (!(decide ((a_frame.tmod ((1 : Int) * 2 ^ a_order.toNat)) = 0)) || inI (a_z.start + a_z.count)) <|
 some ((decide ((a_frame.tmod ((1 : Int) * 2 ^ a_order.toNat)) = 0)) && (decide ((a_frame + ((1 : Int) * 2 ^ a_order.toNat)) ≤ (a_z.start + a_z.count)))))
def ref12_all_j0  : Option Bool :=
 some true
def ref12_all_b0 (a_s : List Int) (a_frame : Int) (a_order : Int) (self0 : Int → Option Bool) (i1 : Int) : Option Bool :=
 chk (decide (IntKind.u64.wrap a_order = a_order)) <|
 chk (shOk a_order) <|
 chk (inI ((1 : Int) * 2 ^ a_order.toNat)) <|
 chk (inI (a_frame + ((1 : Int) * 2 ^ a_order.toNat))) <|
 cnd (decide (i1 < (a_frame + ((1 : Int) * 2 ^ a_order.toNat)))) (
 chk (inb i1 a_s.length) <|
 cnd (decide ((at_ a_s i1) = 0)) (
 some false) (
 chk (inI (i1 + 1)) <|
 self0 (i1 + 1))) (
 ref12_all_j0 )
def ref12_all_l0 (a_s : List Int) (a_frame : Int) (a_order : Int) : Nat → Int → Option Bool
  | 0, _ => none
  | n + 1, i1 => ref12_all_b0 a_s a_frame a_order (ref12_all_l0 a_s a_frame a_order n) i1
def ref12_all (a_s : List Int) (a_frame : Int) (a_order : Int) : Option Bool :=
 ref12_all_l0 a_s a_frame a_order FUEL a_frame
def ref12_with_j1 (a_p0 : Zone) (l2 : List (List Int)) : Option Zone :=
 some (⟨a_p0.node, a_p0.kind, a_p0.start, a_p0.count, a_p0.min, l2⟩ : Zone)
def ref12_with_j2 (self0 : Int → (List (List Int)) → (List Int) → Option Zone) (i1 : Int) (l5 : List (List Int)) (l6 : List Int) : Option Zone :=
 chk (inI (i1 - 1)) <|
 self0 (i1 - 1) l5 l6
def ref12_with_j3 (self1 : Int → (List (List Int)) → (List Int) → Option Zone) (i2 : Int) (l9 : List (List Int)) (l10 : List Int) : Option Zone :=
 chk (inI (i2 + 1)) <|
 self1 (i2 + 1) l9 l10
def ref12_with_b2 (self1 : Int → (List (List Int)) → (List Int) → Option Zone) (i1 : Int) (i2 : Int) (l7 : List (List Int)) (self2 : Int → (List Int) → Option Zone) (i3 : Int) (l11 : List Int) : Option Zone :=
 chk (decide (IntKind.u64.wrap i1 = i1)) <|
 chk (shOk i1) <|
 chk (inI ((1 : Int) * 2 ^ i1.toNat)) <|
 chk (inI (i2 + ((1 : Int) * 2 ^ i1.toNat))) <|
 cnd (decide (i3 < (i2 + ((1 : Int) * 2 ^ i1.toNat)))) (
 chk (inb i3 l11.length) <|
 chk (inI (i3 + 1)) <|
 self2 (i3 + 1) (l11.set i3.toNat 0)) (
 ref12_with_j3 self1 i2 (setA 5 [] l7 i1.toNat ((l7.getD i1.toNat []) ++ [i2])) l11)
def ref12_with_l2 (self1 : Int → (List (List Int)) → (List Int) → Option Zone) (i1 : Int) (i2 : Int) (l7 : List (List Int)) : Nat → Int → (List Int) → Option Zone
  | 0, _, _ => none
  | n + 1, i3, l11 => ref12_with_b2 self1 i1 i2 l7 (ref12_with_l2 self1 i1 i2 l7 n) i3 l11
def ref12_with_b1 (self0 : Int → (List (List Int)) → (List Int) → Option Zone) (a_p0 : Zone) (i1 : Int) (self1 : Int → (List (List Int)) → (List Int) → Option Zone) (i2 : Int) (l7 : List (List Int)) (l8 : List Int) : Option Zone :=
 chk (inI (a_p0.start + a_p0.count)) <|
 cnd (decide (i2 < (a_p0.start + a_p0.count))) (
 (ref12_Block a_p0 i2 i1).bind fun x1 =>
 (cnd x1 (ref12_all l8 i2 i1) (some default)).bind fun x2 =>
 cnd (x1 && x2) (
 chk (inb i1 5) <|
 chk (decide (i1 < (5 : Int))) <|
 chk (decide (((l7.getD i1.toNat []).length + [i2].length) * 8 ≤ 4294967296)) <|
 ref12_with_l2 self1 i1 i2 l7 FUEL i2 l8) (
 ref12_with_j3 self1 i2 l7 l8)) (
 ref12_with_j2 self0 i1 l7 l8)
def ref12_with_l1 (self0 : Int → (List (List Int)) → (List Int) → Option Zone) (a_p0 : Zone) (i1 : Int) : Nat → Int → (List (List Int)) → (List Int) → Option Zone
  | 0, _, _, _ => none
  | n + 1, i2, l7, l8 => ref12_with_b1 self0 a_p0 i1 (ref12_with_l1 self0 a_p0 i1 n) i2 l7 l8
def ref12_with_b0 (a_p0 : Zone) (self0 : Int → (List (List Int)) → (List Int) → Option Zone) (i1 : Int) (l3 : List (List Int)) (l4 : List Int) : Option Zone :=
 cnd (decide (0 ≤ i1)) (
 ref12_with_l1 self0 a_p0 i1 FUEL a_p0.start l3 l4) (
 ref12_with_j1 a_p0 l3)
def ref12_with_l0 (a_p0 : Zone) : Nat → Int → (List (List Int)) → (List Int) → Option Zone
  | 0, _, _, _ => none
  | n + 1, i1, l3, l4 => ref12_with_b0 a_p0 (ref12_with_l0 a_p0 n) i1 l3 l4
def ref12_with_j0 (a_p0 : Zone) (l1 : List Int) : Option Zone :=
 ref12_with_l0 a_p0 FUEL 4 (List.replicate 5 ([] : List Int)) l1
def ref12_with_b3 (a_p0 : Zone) (a_p1 : List Int) (self3 : Int → (List Int) → Option Zone) (i4 : Int) (l12 : List Int) : Option Zone :=
 cnd (decide (i4 < (a_p1.length : Int))) (
 chk (inb i4 a_p1.length) <|
 chk (inb i4 l12.length) <|
 chk (inI (i4 + 1)) <|
 self3 (i4 + 1) (l12.set i4.toNat (at_ a_p1 i4))) (
 ref12_with_j0 a_p0 l12)
def ref12_with_l3 (a_p0 : Zone) (a_p1 : List Int) : Nat → Int → (List Int) → Option Zone
  | 0, _, _ => none
  | n + 1, i4, l12 => ref12_with_b3 a_p0 a_p1 (ref12_with_l3 a_p0 a_p1 n) i4 l12
def ref12_with (a_p0 : Zone) (a_p1 : List Int) : Option Zone :=
 chk (decide (0 ≤ (a_p1.length : Int)) && decide ((a_p1.length : Int) ≤ (a_p1.length : Int)) && decide ((a_p1.length : Int) * (8 : Int) ≤ 4294967296)) <|
 ref12_with_l3 a_p0 a_p1 FUEL 0 (List.replicate (a_p1.length : Int).toNat 0)
def ref12_New_j0 (a_node : Int) (a_kind : Int) (a_start : Int) (a_count : Int) (a_min : Int) (l1 : List Int) : Option (Zone × Int) :=
 (ref12_with (⟨a_node, a_kind, a_start, a_count, a_min, (List.replicate 5 ([] : List Int))⟩ : Zone) l1).bind fun x2 =>
 (ref12_with (⟨a_node, a_kind, a_start, a_count, a_min, (List.replicate 5 ([] : List Int))⟩ : Zone) l1).bind fun x3 =>
 some (x3, 0)
def ref12_New_b0 (a_node : Int) (a_kind : Int) (a_start : Int) (a_count : Int) (a_min : Int) (self0 : Int → (List Int) → Option (Zone × Int)) (i1 : Int) (l2 : List Int) : Option (Zone × Int) :=
 chk (inI (a_start + a_count)) <|
 cnd (decide (i1 < (a_start + a_count))) (
 chk (inb i1 l2.length) <|
 chk (inI (i1 + 1)) <|
 self0 (i1 + 1) (l2.set i1.toNat 1)) (
 ref12_New_j0 a_node a_kind a_start a_count a_min l2)
def ref12_New_l0 (a_node : Int) (a_kind : Int) (a_start : Int) (a_count : Int) (a_min : Int) : Nat → Int → (List Int) → Option (Zone × Int)
  | 0, _, _ => none
  | n + 1, i1, l2 => ref12_New_b0 a_node a_kind a_start a_count a_min (ref12_New_l0 a_node a_kind a_start a_count a_min n) i1 l2
def ref12_New (a_node : Int) (a_kind : Int) (a_start : Int) (a_count : Int) (a_min : Int) : Option (Zone × Int) :=
 (ref12_InRange (⟨a_node, a_kind, a_start, a_count, a_min, (List.replicate 5 ([] : List Int))⟩ : Zone)).bind fun x1 =>
 cnd (!x1) (
 some ((⟨0, 0, 0, 0, 0, (List.replicate 5 ([] : List Int))⟩ : Zone), 2)) (
 chk (decide (0 ≤ (256 : Int)) && decide ((256 : Int) ≤ (256 : Int)) && decide ((256 : Int) * (8 : Int) ≤ 4294967296)) <|
 ref12_New_l0 a_node a_kind a_start a_count a_min FUEL a_start (List.replicate (256 : Int).toNat 0))
def ref17_New_j1 (a_p0 : List Int) (a_p1 : Int) (a_p2 : Int) (l1 : List Zone) (l2 : List CpuCache) : Option (Allocator × Int) :=
 some ((⟨([] : List Int) ++ a_p0, a_p1, a_p2, l1, l2⟩ : Allocator), 0)
def ref17_New_b0 (a_p0 : List Int) (a_p1 : Int) (a_p2 : Int) (a_p3 : List ZoneSpec) (l1 : List Zone) (self0 : Int → (List CpuCache) → Option (Allocator × Int)) (i1 : Int) (l3 : List CpuCache) : Option (Allocator × Int) :=
 cnd (decide (i1 < (a_p0.length : Int))) (
 chk (decide (0 ≤ (a_p3.length : Int)) && decide ((a_p3.length : Int) ≤ (a_p3.length : Int)) && decide ((a_p3.length : Int) * (24 : Int) ≤ 4294967296)) <|
 chk (decide ((l3.length + [(⟨List.replicate (a_p3.length : Int).toNat ([] : List Int)⟩ : CpuCache)].length) * 24 ≤ 4294967296)) <|
 chk (inI (i1 + 1)) <|
 self0 (i1 + 1) (l3 ++ [(⟨List.replicate (a_p3.length : Int).toNat ([] : List Int)⟩ : CpuCache)])) (
 ref17_New_j1 a_p0 a_p1 a_p2 l1 l3)
def ref17_New_l0 (a_p0 : List Int) (a_p1 : Int) (a_p2 : Int) (a_p3 : List ZoneSpec) (l1 : List Zone) : Nat → Int → (List CpuCache) → Option (Allocator × Int)
  | 0, _, _ => none
  | n + 1, i1, l3 => ref17_New_b0 a_p0 a_p1 a_p2 a_p3 l1 (ref17_New_l0 a_p0 a_p1 a_p2 a_p3 l1 n) i1 l3
def ref17_New_j0 (a_p0 : List Int) (a_p1 : Int) (a_p2 : Int) (a_p3 : List ZoneSpec) (l1 : List Zone) : Option (Allocator × Int) :=
 ref17_New_l0 a_p0 a_p1 a_p2 a_p3 l1 FUEL 0 ([] : List CpuCache)
def ref17_New_b1 (a_p0 : List Int) (a_p1 : Int) (a_p2 : Int) (a_p3 : List ZoneSpec) (self1 : Int → Int → (List Zone) → Option (Allocator × Int)) (i2 : Int) (i3 : Int) (l4 : List Zone) : Option (Allocator × Int) :=
 cnd (decide (i3 < (a_p3.length : Int))) (
 chk (inb i3 a_p3.length) <|
 (ref12_New ((at_ a_p3 i3).node) ((at_ a_p3 i3).kind) i2 ((at_ a_p3 i3).count) ((at_ a_p3 i3).min)).bind fun x2 =>
 cnd (!decide (x2.2 = 0)) (
 some ((⟨([] : List Int), 0, 0, ([] : List Zone), ([] : List CpuCache)⟩ : Allocator), x2.2)) (
 chk (decide ((l4.length + [x2.1].length) * 160 ≤ 4294967296)) <|
 chk (inI (i2 + ((at_ a_p3 i3).count))) <|
 chk (inI (i3 + 1)) <|
 self1 (i2 + ((at_ a_p3 i3).count)) (i3 + 1) (l4 ++ [x2.1]))) (
 ref17_New_j0 a_p0 a_p1 a_p2 a_p3 l4)
def ref17_New_l1 (a_p0 : List Int) (a_p1 : Int) (a_p2 : Int) (a_p3 : List ZoneSpec) : Nat → Int → Int → (List Zone) → Option (Allocator × Int)
  | 0, _, _, _ => none
  | n + 1, i2, i3, l4 => ref17_New_b1 a_p0 a_p1 a_p2 a_p3 (ref17_New_l1 a_p0 a_p1 a_p2 a_p3 n) i2 i3 l4
def ref17_New (a_p0 : List Int) (a_p1 : Int) (a_p2 : Int) (a_p3 : List ZoneSpec) : Option (Allocator × Int) :=
 (ref17_inRange a_p0 a_p1 a_p2 (a_p3.length : Int)).bind fun x1 =>
 cnd (!x1) (
 some ((⟨([] : List Int), 0, 0, ([] : List Zone), ([] : List CpuCache)⟩ : Allocator), 2)) (
 chk (decide ((([] : List Int).length + a_p0.length) * 8 ≤ 4294967296)) <|
 ref17_New_l1 a_p0 a_p1 a_p2 a_p3 FUEL 0 0 ([] : List Zone))
def law17_AllocatorBegins (a_nodes : List Int) (a_p : List Int) (a_l : List ZoneSpec) : Option Bool :=
 (law17_awake).bind fun x1 =>
 cnd (((!x1) || (decide (20 < (a_nodes.length : Int)))) || (decide (20 < (a_l.length : Int)))) (
 (law17_awake).bind fun x2 =>
 some x2) (
 (allocator_New a_nodes (a_p.getD (0 : Int).toNat 0) (a_p.getD (1 : Int).toNat 0) a_l).bind fun x3 =>
 (ref17_New a_nodes (a_p.getD (0 : Int).toNat 0) (a_p.getD (1 : Int).toNat 0) a_l).bind fun x4 =>
 (cnd (decide (x3.2 = x4.2)) (ref17_Same x3.1 x4.1) (some default)).bind fun x5 =>
 some ((decide (x3.2 = x4.2)) && x5))
end Go.Proofs.Ytplkliakhdkpcaa
