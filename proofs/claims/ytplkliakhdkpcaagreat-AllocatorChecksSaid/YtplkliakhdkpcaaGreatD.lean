/-
  The functions that the program's functions compute, as Lean functions in Option, and their data.
-/
import Derived.Test.YtplkliakhdkpcaaGreatAmX
set_option linter.unusedVariables false
set_option linter.unusedSimpArgs false
namespace Go.Proofs.YtplkliakhdkpcaaGreat
open Go Go.RowKit Go.Wk Go.Am Go.Proofs
set_option maxHeartbeats 4000000
structure zm where
  node : Int
  kind : Int
  start : Int
  count : Int
  min : Int
  free : List (List Int)
deriving DecidableEq, Inhabited
def zO (x : zm) : List AV := cI x.node ++ (cI x.kind ++ (cI x.start ++ (cI x.count ++ (cI x.min ++ ((cA 5 (eS cI) ([] : List Int)) x.free ++ [])))))
def zIu : zm := ⟨0, 0, 0, 0, 0, (List.replicate 5 ([] : List Int))⟩
structure zK where
  lists : List (List Int)
deriving DecidableEq, Inhabited
def zG (x : zK) : List AV := (cS (cS cI)) x.lists ++ []
structure zL where
  nodes : List Int
  batch : Int
  high : Int
  zones : List zm
  caches : List zK
deriving DecidableEq, Inhabited
def zJ (x : zL) : List AV := (cS cI) x.nodes ++ (cI x.batch ++ (cI x.high ++ ((cS zO) x.zones ++ ((cS zG) x.caches ++ []))))
structure zBo where
  node : Int
  kind : Int
  count : Int
  min : Int
deriving DecidableEq, Inhabited
def zAQ (x : zBo) : List AV := cI x.node ++ (cI x.kind ++ (cI x.count ++ (cI x.min ++ [])))
def zBG (a_s : List Int) : Option (List Int) :=
 chk (decide ((([] : List Int).length + a_s.length) * 8 ≤ 4294967296)) <|
 some a_s
def zCY  : Option Int :=
 some (-1)
def zAh (a_s : List Int) (a_f : Int → Option Bool) (self0 : Int → Option Int) (i1 : Int) : Option Int :=
 cnd (decide (i1 < (a_s.length : Int))) (
 chk (inb i1 a_s.length) <|
 (a_f (at_ a_s i1)).bind fun x1 =>
 cnd (x1) (
 some i1) (
 chk (inI (i1 + 1)) <|
 self0 (i1 + 1))) (
 zCY )
def zAU (a_s : List Int) (a_f : Int → Option Bool) : Nat → Int → Option Int
  | 0, _ => none
  | n + 1, i1 => zAh a_s a_f (zAU a_s a_f n) i1
def zCD (a_s : List Int) (a_f : Int → Option Bool) : Option Int :=
 zAU a_s a_f zAC 0
def zBc (a_s : List Int) (a_f : Int → Option Bool) : Option Bool :=
 (zCD a_s a_f).bind fun x1 =>
 some (decide (0 ≤ x1))
def zCh (a_n : Int) : Option Bool :=
 some ((decide (a_n < 0)) || (decide (4 ≤ a_n)))
def zCb (a_a : zL) : Option Bool :=
 cnd (((((((decide ((a_a.nodes.length : Int) < 1)) || (decide (4 < (a_a.nodes.length : Int)))) || (decide (64 < a_a.high))) || (decide (a_a.batch < 1))) || (decide (a_a.high < a_a.batch))) || (decide ((a_a.zones.length : Int) < 1))) || (decide (6 < (a_a.zones.length : Int)))) (
 some false) (
 (zBc a_a.nodes (fun y0 => zCh y0)).bind fun x1 =>
 some (!x1))
def zFZ (a_z : zm) : Option Bool :=
 chk (!((((((decide (0 ≤ a_z.node)) && (decide (a_z.node < 4))) && ((decide (a_z.kind = 0)) || (decide (a_z.kind = 1)))) && (decide (0 ≤ a_z.start))) && (decide (a_z.start < 256))) && (decide (1 ≤ a_z.count))) || inI (256 - a_z.start)) <|
 some (((((((((decide (0 ≤ a_z.node)) && (decide (a_z.node < 4))) && ((decide (a_z.kind = 0)) || (decide (a_z.kind = 1)))) && (decide (0 ≤ a_z.start))) && (decide (a_z.start < 256))) && (decide (1 ≤ a_z.count))) && (decide (a_z.count ≤ (256 - a_z.start)))) && (decide (0 ≤ a_z.min))) && (decide (a_z.min ≤ a_z.count)))
def zDr (a_x : Int) : Option Bool :=
 some (!decide (a_x = a_x))
def zGt (a_x : Int) (a_y : Int) : Option Bool :=
 (zDr a_x).bind fun x1 =>
 (cnd x1 (zDr a_y) (some default)).bind fun x2 =>
 some ((x1 && (!x2)) || (decide (a_x < a_y)))
def zD3 (a_x : Int) : Option Bool :=
 some (!decide (a_x = a_x))
def zA2 (a_x : List Int) (a_target : Int) (i1 : Int) : Option (Int × Bool) :=
 chk (!(decide (i1 < (a_x.length : Int))) || inb i1 a_x.length) <|
 chk (!(decide (i1 < (a_x.length : Int)) && !(decide ((at_ a_x i1) = a_target))) || inb i1 a_x.length) <|
 (cnd (decide (i1 < (a_x.length : Int)) && !(decide ((at_ a_x i1) = a_target))) (zD3 (at_ a_x i1)) (some default)).bind fun x1 =>
 (cnd ((decide (i1 < (a_x.length : Int)) && !(decide ((at_ a_x i1) = a_target))) && x1) (zD3 a_target) (some default)).bind fun x2 =>
 some (i1, (decide (i1 < (a_x.length : Int))) && ((decide ((at_ a_x i1) = a_target)) || (x1 && x2)))
def zAX (a_x : List Int) (a_target : Int) (self0 : Int → Int → Option (Int × Bool)) (i2 : Int) (i3 : Int) : Option (Int × Bool) :=
 cnd (decide (i2 < i3)) (
 chk (inI (i2 + i3)) <|
 chk (decide (IntKind.u64.wrap (i2 + i3) = (i2 + i3))) <|
 chk (decide (IntKind.i64.wrap ((i2 + i3).fdiv (2 ^ (1 : Int).toNat)) = ((i2 + i3).fdiv (2 ^ (1 : Int).toNat)))) <|
 chk (inb ((i2 + i3).fdiv (2 ^ (1 : Int).toNat)) a_x.length) <|
 (zGt (at_ a_x ((i2 + i3).fdiv (2 ^ (1 : Int).toNat))) a_target).bind fun x3 =>
 cnd (x3) (
 chk (inI (((i2 + i3).fdiv (2 ^ (1 : Int).toNat)) + 1)) <|
 self0 (((i2 + i3).fdiv (2 ^ (1 : Int).toNat)) + 1) i3) (
 self0 i2 ((i2 + i3).fdiv (2 ^ (1 : Int).toNat)))) (
 zA2 a_x a_target i2)
def zA1 (a_x : List Int) (a_target : Int) : Nat → Int → Int → Option (Int × Bool)
  | 0, _, _ => none
  | n + 1, i2, i3 => zAX a_x a_target (zA1 a_x a_target n) i2 i3
def zAW (a_x : List Int) (a_target : Int) : Option (Int × Bool) :=
 zA1 a_x a_target zAC 0 (a_x.length : Int)
def zCI (a_z : zm) (a_frame : Int) (a_order : Int) : Option Bool :=
 chk (zMt a_order) <|
 chk (inI ((1 : Int) * 2 ^ a_order.toNat)) <|
 chk (!(decide (a_z.start ≤ a_frame)) || (!decide (((1 : Int) * 2 ^ a_order.toNat) = 0))) <|
 chk (!(((decide (a_z.start ≤ a_frame)) && (decide ((a_frame.tmod ((1 : Int) * 2 ^ a_order.toNat)) = 0))) && (decide (((1 : Int) * 2 ^ a_order.toNat) ≤ a_z.count))) || inI (a_z.start + a_z.count)) <|
 chk (!(((decide (a_z.start ≤ a_frame)) && (decide ((a_frame.tmod ((1 : Int) * 2 ^ a_order.toNat)) = 0))) && (decide (((1 : Int) * 2 ^ a_order.toNat) ≤ a_z.count))) || inI ((a_z.start + a_z.count) - ((1 : Int) * 2 ^ a_order.toNat))) <|
 some ((((decide (a_z.start ≤ a_frame)) && (decide ((a_frame.tmod ((1 : Int) * 2 ^ a_order.toNat)) = 0))) && (decide (((1 : Int) * 2 ^ a_order.toNat) ≤ a_z.count))) && (decide (a_frame ≤ ((a_z.start + a_z.count) - ((1 : Int) * 2 ^ a_order.toNat)))))
def zHo (a_p0 : zm) (i1 : Int) (i2 : Int) (l1 : List (List Int)) : Option zm :=
 chk (inb i2 5) <|
 chk (decide (i2 < (5 : Int))) <|
 (zAW (l1.getD i2.toNat []) i1).bind fun x1 =>
 chk (zQi (l1.getD i2.toNat []) x1.1) <|
 some (⟨a_p0.node, a_p0.kind, a_p0.start, a_p0.count, a_p0.min, zEO 5 [] l1 i2.toNat (zOs (l1.getD i2.toNat []) x1.1 i1)⟩ : zm)
def zI6 (a_p0 : zm) (self0 : Int → Int → (List (List Int)) → Option zm) (i3 : Int) (i4 : Int) (l2 : List (List Int)) : Option zm :=
 cnd (decide (i4 < 4)) (
 chk (zMt i4) <|
 chk (inI ((1 : Int) * 2 ^ i4.toNat)) <|
 chk (inb i4 5) <|
 chk (decide (i4 < (5 : Int))) <|
 (zAW (l2.getD i4.toNat []) (zKK .xor .i64 i3 ((1 : Int) * 2 ^ i4.toNat))).bind fun x2 =>
 chk (!(!(!x2.2)) || inI (i4 + 1)) <|
 (cnd (!(!x2.2)) (zCI (⟨a_p0.node, a_p0.kind, a_p0.start, a_p0.count, a_p0.min, zEO 5 [] l2 i4.toNat (l2.getD i4.toNat [])⟩ : zm) (min i3 (zKK .xor .i64 i3 ((1 : Int) * 2 ^ i4.toNat))) (i4 + 1)) (some default)).bind fun x3 =>
 cnd ((!x2.2) || (!x3)) (
 zHo a_p0 i3 i4 (zEO 5 [] l2 i4.toNat (l2.getD i4.toNat []))) (
 chk (inI (x2.1 + 1)) <|
 chk (zQ5 ((zEO 5 [] l2 i4.toNat (l2.getD i4.toNat [])).getD i4.toNat []) x2.1 (x2.1 + 1)) <|
 chk (inI (i4 + 1)) <|
 self0 (min i3 (zKK .xor .i64 i3 ((1 : Int) * 2 ^ i4.toNat))) (i4 + 1) (zEO 5 [] (zEO 5 [] l2 i4.toNat (l2.getD i4.toNat [])) i4.toNat (zRy ((zEO 5 [] l2 i4.toNat (l2.getD i4.toNat [])).getD i4.toNat []) x2.1)))) (
 zHo a_p0 i3 i4 l2)
def zHm (a_p0 : zm) : Nat → Int → Int → (List (List Int)) → Option zm
  | 0, _, _, _ => none
  | n + 1, i3, i4, l2 => zI6 a_p0 (zHm a_p0 n) i3 i4 l2
def zKC (a_p0 : zm) (a_p1 : Int) (a_p2 : Int) : Option zm :=
 zHm a_p0 zAC a_p1 a_p2 a_p0.free
def zJE (d1 : Int) (d2 : Int) (d3 : Int) (d4 : Int) (d5 : Int) (l1 : List (List Int)) : Option (zm × Int) :=
 some ((⟨d1, d2, d3, d4, d5, l1⟩ : zm), 0)
def zI0 (a_start : Int) (a_count : Int) (self0 : Int → Int → Int → Int → Int → Int → (List (List Int)) → Option (zm × Int)) (i1 : Int) (d6 : Int) (d7 : Int) (d8 : Int) (d9 : Int) (d10 : Int) (l2 : List (List Int)) : Option (zm × Int) :=
 chk (inI (a_start + a_count)) <|
 cnd (decide (i1 < (a_start + a_count))) (
 (zKC (⟨d6, d7, d8, d9, d10, l2⟩ : zm) i1 0).bind fun x2 =>
 chk (inI (i1 + 1)) <|
 self0 (i1 + 1) x2.node x2.kind x2.start x2.count x2.min x2.free) (
 zJE d6 d7 d8 d9 d10 l2)
def zHn (a_start : Int) (a_count : Int) : Nat → Int → Int → Int → Int → Int → Int → (List (List Int)) → Option (zm × Int)
  | 0, _, _, _, _, _, _, _ => none
  | n + 1, i1, d6, d7, d8, d9, d10, l2 => zI0 a_start a_count (zHn a_start a_count n) i1 d6 d7 d8 d9 d10 l2
def zLH (a_node : Int) (a_kind : Int) (a_start : Int) (a_count : Int) (a_least : Int) : Option (zm × Int) :=
 (zFZ (⟨a_node, a_kind, a_start, a_count, a_least, (List.replicate 5 ([] : List Int))⟩ : zm)).bind fun x1 =>
 cnd (!x1) (
 some ((⟨0, 0, 0, 0, 0, (List.replicate 5 ([] : List Int))⟩ : zm), 2)) (
 zHn a_start a_count zAC a_start a_node a_kind a_start a_count a_least (List.replicate 5 ([] : List Int)))
def zKY (a_zones : Int) : Option (zK × Int) :=
 cnd ((decide (a_zones < 1)) || (decide (6 < a_zones))) (
 some ((⟨([] : List (List Int))⟩ : zK), 1)) (
 chk (decide (0 ≤ a_zones) && decide (a_zones ≤ a_zones) && decide (a_zones * (24 : Int) ≤ 4294967296)) <|
 some ((⟨List.replicate a_zones.toNat ([] : List Int)⟩ : zK), 0))
def zG4 (a_p1 : Int) (a_p2 : Int) (d1 : List Int) (l1 : List zm) (l2 : List zK) : Option (zL × Int) :=
 some ((⟨d1, a_p1, a_p2, l1, l2⟩ : zL), 0)
def zG2 (a_p0 : List Int) (a_p1 : Int) (a_p2 : Int) (a_p3 : List zBo) (d1 : List Int) (l1 : List zm) (self0 : Int → (List zK) → Option (zL × Int)) (i1 : Int) (l3 : List zK) : Option (zL × Int) :=
 cnd (decide (i1 < (a_p0.length : Int))) (
 (zKY (a_p3.length : Int)).bind fun x2 =>
 chk (decide ((l3.length + [x2.1].length) * 24 ≤ 4294967296)) <|
 chk (inI (i1 + 1)) <|
 self0 (i1 + 1) (l3 ++ [x2.1])) (
 zG4 a_p1 a_p2 d1 l1 l3)
def zFM (a_p0 : List Int) (a_p1 : Int) (a_p2 : Int) (a_p3 : List zBo) (d1 : List Int) (l1 : List zm) : Nat → Int → (List zK) → Option (zL × Int)
  | 0, _, _ => none
  | n + 1, i1, l3 => zG2 a_p0 a_p1 a_p2 a_p3 d1 l1 (zFM a_p0 a_p1 a_p2 a_p3 d1 l1 n) i1 l3
def zGu (a_p0 : List Int) (a_p1 : Int) (a_p2 : Int) (a_p3 : List zBo) (d1 : List Int) (l1 : List zm) : Option (zL × Int) :=
 zFM a_p0 a_p1 a_p2 a_p3 d1 l1 zAC 0 ([] : List zK)
def zGv (a_p0 : List Int) (a_p1 : Int) (a_p2 : Int) (a_p3 : List zBo) (d1 : List Int) (self1 : Int → Int → (List zm) → Option (zL × Int)) (i2 : Int) (i3 : Int) (l4 : List zm) : Option (zL × Int) :=
 cnd (decide (i3 < (a_p3.length : Int))) (
 chk (inb i3 a_p3.length) <|
 (zLH ((at_ a_p3 i3).node) ((at_ a_p3 i3).kind) i2 ((at_ a_p3 i3).count) ((at_ a_p3 i3).min)).bind fun x3 =>
 cnd (!decide (x3.2 = 0)) (
 some ((⟨([] : List Int), 0, 0, ([] : List zm), ([] : List zK)⟩ : zL), x3.2)) (
 chk (inb i3 l4.length) <|
 chk (inI (i2 + ((at_ a_p3 i3).count))) <|
 chk (inI (i3 + 1)) <|
 self1 (i2 + ((at_ a_p3 i3).count)) (i3 + 1) (l4.set i3.toNat x3.1))) (
 zGu a_p0 a_p1 a_p2 a_p3 d1 l4)
def zFI (a_p0 : List Int) (a_p1 : Int) (a_p2 : Int) (a_p3 : List zBo) (d1 : List Int) : Nat → Int → Int → (List zm) → Option (zL × Int)
  | 0, _, _, _ => none
  | n + 1, i2, i3, l4 => zGv a_p0 a_p1 a_p2 a_p3 d1 (zFI a_p0 a_p1 a_p2 a_p3 d1 n) i2 i3 l4
def zG1 (a_p0 : List Int) (a_p1 : Int) (a_p2 : Int) (a_p3 : List zBo) (d1 : List Int) : Option (zL × Int) :=
 (zCb (⟨d1, a_p1, a_p2, List.replicate (a_p3.length : Int).toNat (zIu), ([] : List zK)⟩ : zL)).bind fun x1 =>
 cnd (!x1) (
 some ((⟨([] : List Int), 0, 0, ([] : List zm), ([] : List zK)⟩ : zL), 2)) (
 zFI a_p0 a_p1 a_p2 a_p3 d1 zAC 0 0 (List.replicate (a_p3.length : Int).toNat (zIu)))
def zFd (a_p0 : List Int) (a_p1 : Int) (a_p2 : Int) (a_p3 : List zBo) : Option (zL × Int) :=
 (zBG a_p0).bind fun x4 =>
 chk (decide (0 ≤ (a_p3.length : Int)) && decide ((a_p3.length : Int) ≤ (a_p3.length : Int)) && decide ((a_p3.length : Int) * (160 : Int) ≤ 4294967296)) <|
 zG1 a_p0 a_p1 a_p2 a_p3 x4
def zHz  : Option Int :=
 some 0
def zGi (self0 : Int → Option Int) (i1 : Int) : Option Int :=
 chk (inI (i1 + 1)) <|
 self0 (i1 + 1)
def zDR (self0 : Int → Option Int) (a_p0 : zm) (i1 : Int) (self1 : Int → Option Int) (i2 : Int) : Option Int :=
 cnd (decide (i2 < ((a_p0.free.getD i1.toNat ([] : List Int)).length : Int))) (
 chk (inb i2 (a_p0.free.getD i1.toNat ([] : List Int)).length) <|
 chk (zMt i1) <|
 chk (inI ((1 : Int) * 2 ^ i1.toNat)) <|
 chk (inb i1 5) <|
 (zAW (a_p0.free.getD i1.toNat ([] : List Int)) (zKK .xor .i64 (at_ (a_p0.free.getD i1.toNat ([] : List Int)) i2) ((1 : Int) * 2 ^ i1.toNat))).bind fun x2 =>
 chk (!x2.2 || inI (i1 + 1)) <|
 (cnd x2.2 (zCI a_p0 (min (at_ (a_p0.free.getD i1.toNat ([] : List Int)) i2) (zKK .xor .i64 (at_ (a_p0.free.getD i1.toNat ([] : List Int)) i2) ((1 : Int) * 2 ^ i1.toNat))) (i1 + 1)) (some default)).bind fun x3 =>
 cnd (x2.2 && x3) (
 some 11) (
 chk (inI (i2 + 1)) <|
 self1 (i2 + 1))) (
 zGi self0 i1)
def zFA (self0 : Int → Option Int) (a_p0 : zm) (i1 : Int) : Nat → Int → Option Int
  | 0, _ => none
  | n + 1, i2 => zDR self0 a_p0 i1 (zFA self0 a_p0 i1 n) i2
def zDE (a_p0 : zm) (self0 : Int → Option Int) (i1 : Int) : Option Int :=
 cnd (decide (i1 < 4)) (
 chk (inb i1 5) <|
 zFA self0 a_p0 i1 zAC 0) (
 zHz )
def zCC (a_p0 : zm) : Nat → Int → Option Int
  | 0, _ => none
  | n + 1, i1 => zDE a_p0 (zCC a_p0 n) i1
def zDD (a_p0 : zm) : Option Int :=
 zCC a_p0 zAC 0
def zGe (self2 : Int → (List Bool) → Option Int) (i3 : Int) (d2 : List Bool) : Option Int :=
 chk (inI (i3 + 1)) <|
 self2 (i3 + 1) d2
def zGm (self3 : Int → (List Bool) → Option Int) (i4 : Int) (d4 : List Bool) : Option Int :=
 chk (inI (i4 + 1)) <|
 self3 (i4 + 1) d4
def zDI (self3 : Int → (List Bool) → Option Int) (a_p0 : zm) (i3 : Int) (i4 : Int) (self4 : Int → (List Bool) → Option Int) (i5 : Int) (d5 : List Bool) : Option Int :=
 chk (zMt i3) <|
 chk (inI ((1 : Int) * 2 ^ i3.toNat)) <|
 chk (inI ((at_ (a_p0.free.getD i3.toNat ([] : List Int)) i4) + ((1 : Int) * 2 ^ i3.toNat))) <|
 cnd (decide (i5 < ((at_ (a_p0.free.getD i3.toNat ([] : List Int)) i4) + ((1 : Int) * 2 ^ i3.toNat)))) (
 chk (inb i5 256) <|
 cnd (d5.getD i5.toNat false) (
 some 7) (
 chk (inI (i5 + 1)) <|
 self4 (i5 + 1) (zEO 256 false d5 i5.toNat true))) (
 zGm self3 i4 d5)
def zE6 (self3 : Int → (List Bool) → Option Int) (a_p0 : zm) (i3 : Int) (i4 : Int) : Nat → Int → (List Bool) → Option Int
  | 0, _, _ => none
  | n + 1, i5, d5 => zDI self3 a_p0 i3 i4 (zE6 self3 a_p0 i3 i4 n) i5 d5
def zDF (self2 : Int → (List Bool) → Option Int) (a_p0 : zm) (i3 : Int) (self3 : Int → (List Bool) → Option Int) (i4 : Int) (d3 : List Bool) : Option Int :=
 cnd (decide (i4 < ((a_p0.free.getD i3.toNat ([] : List Int)).length : Int))) (
 chk (inb i4 (a_p0.free.getD i3.toNat ([] : List Int)).length) <|
 zE6 self3 a_p0 i3 i4 zAC (at_ (a_p0.free.getD i3.toNat ([] : List Int)) i4) d3) (
 zGe self2 i3 d3)
def zBk (self2 : Int → (List Bool) → Option Int) (a_p0 : zm) (i3 : Int) : Nat → Int → (List Bool) → Option Int
  | 0, _, _ => none
  | n + 1, i4, d3 => zDF self2 a_p0 i3 (zBk self2 a_p0 i3 n) i4 d3
def zDN (a_p0 : zm) (self2 : Int → (List Bool) → Option Int) (i3 : Int) (d1 : List Bool) : Option Int :=
 cnd (decide (i3 < 5)) (
 chk (inb i3 5) <|
 zBk self2 a_p0 i3 zAC 0 d1) (
 zDD a_p0)
def zBA (a_p0 : zm) : Nat → Int → (List Bool) → Option Int
  | 0, _, _ => none
  | n + 1, i3, d1 => zDN a_p0 (zBA a_p0 n) i3 d1
def zE3 (a_p0 : zm) : Option Int :=
 zBA a_p0 zAC 0 (List.replicate 256 false)
def zGj (self5 : Int → Option Int) (i6 : Int) : Option Int :=
 chk (inI (i6 + 1)) <|
 self5 (i6 + 1)
def zDB (self5 : Int → Option Int) (a_p0 : zm) (i6 : Int) (self6 : Int → Option Int) (i7 : Int) : Option Int :=
 cnd (decide (i7 < ((a_p0.free.getD i6.toNat ([] : List Int)).length : Int))) (
 chk (inb i7 (a_p0.free.getD i6.toNat ([] : List Int)).length) <|
 (zCI a_p0 (at_ (a_p0.free.getD i6.toNat ([] : List Int)) i7) i6).bind fun x4 =>
 cnd (!x4) (
 some 3) (
 chk (!(decide (0 < i7)) || inI (i7 - 1)) <|
 chk (!(decide (0 < i7)) || inb (i7 - 1) (a_p0.free.getD i6.toNat ([] : List Int)).length) <|
 cnd ((decide (0 < i7)) && (decide ((at_ (a_p0.free.getD i6.toNat ([] : List Int)) i7) ≤ (at_ (a_p0.free.getD i6.toNat ([] : List Int)) (i7 - 1))))) (
 some 10) (
 chk (inI (i7 + 1)) <|
 self6 (i7 + 1)))) (
 zGj self5 i6)
def zE8 (self5 : Int → Option Int) (a_p0 : zm) (i6 : Int) : Nat → Int → Option Int
  | 0, _ => none
  | n + 1, i7 => zDB self5 a_p0 i6 (zE8 self5 a_p0 i6 n) i7
def zDL (a_p0 : zm) (self5 : Int → Option Int) (i6 : Int) : Option Int :=
 cnd (decide (i6 < 5)) (
 chk (inb i6 5) <|
 zE8 self5 a_p0 i6 zAC 0) (
 zE3 a_p0)
def zCE (a_p0 : zm) : Nat → Int → Option Int
  | 0, _ => none
  | n + 1, i6 => zDL a_p0 (zCE a_p0 n) i6
def zDS (a_p0 : zm) : Option Int :=
 (zFZ a_p0).bind fun x1 =>
 cnd (!x1) (
 some 2) (
 zCE a_p0 zAC 0)
def zFG (a_f : Int) : Option Bool :=
 some ((decide (0 ≤ a_f)) && (decide (a_f < 256)))
def zG3 (l1 : List (Int × Bool)) : Option (List (Int × Bool)) :=
 some l1
def zFO (self0 : Int → (List (Int × Bool)) → Option (List (Int × Bool))) (i1 : Int) (l3 : List (Int × Bool)) : Option (List (Int × Bool)) :=
 chk (inI (i1 + 1)) <|
 self0 (i1 + 1) l3
def zCS (self0 : Int → (List (Int × Bool)) → Option (List (Int × Bool))) (a_c : zK) (i1 : Int) (self1 : Int → (List (Int × Bool)) → Option (List (Int × Bool))) (i2 : Int) (l4 : List (Int × Bool)) : Option (List (Int × Bool)) :=
 cnd (decide (i2 < ((at_ a_c.lists i1).length : Int))) (
 chk (inb i2 (at_ a_c.lists i1).length) <|
 chk (inI (i2 + 1)) <|
 self1 (i2 + 1) (zIt l4 (at_ (at_ a_c.lists i1) i2) true)) (
 zFO self0 i1 l4)
def zDx (self0 : Int → (List (Int × Bool)) → Option (List (Int × Bool))) (a_c : zK) (i1 : Int) : Nat → Int → (List (Int × Bool)) → Option (List (Int × Bool))
  | 0, _, _ => none
  | n + 1, i2, l4 => zCS self0 a_c i1 (zDx self0 a_c i1 n) i2 l4
def zCR (a_c : zK) (self0 : Int → (List (Int × Bool)) → Option (List (Int × Bool))) (i1 : Int) (l2 : List (Int × Bool)) : Option (List (Int × Bool)) :=
 cnd (decide (i1 < (a_c.lists.length : Int))) (
 chk (inb i1 a_c.lists.length) <|
 zDx self0 a_c i1 zAC 0 l2) (
 zG3 l2)
def zBY (a_c : zK) : Nat → Int → (List (Int × Bool)) → Option (List (Int × Bool))
  | 0, _, _ => none
  | n + 1, i1, l2 => zCR a_c (zBY a_c n) i1 l2
def zEw (a_c : zK) : Option (List (Int × Bool)) :=
 zBY a_c zAC 0 ([] : List (Int × Bool))
def zER (a_c : zK) (i1 : Int) : Option Int :=
 (zEw a_c).bind fun x1 =>
 cnd (!decide ((x1.length : Int) = i1)) (
 some 7) (
 some 0)
def zFq (self0 : Int → Int → Option Int) (a_c : zK) (i2 : Int) (i3 : Int) : Option Int :=
 chk (inI (i3 + 1)) <|
 self0 (i2 + ((at_ a_c.lists i3).length : Int)) (i3 + 1)
def zF2 (self0 : Int → Int → Option Int) (a_c : zK) (i2 : Int) (i3 : Int) : Option Int :=
 chk (inI (i2 + ((at_ a_c.lists i3).length : Int))) <|
 zFq self0 a_c i2 i3
def zCc (self0 : Int → Int → Option Int) (a_c : zK) (i2 : Int) (i3 : Int) (self1 : Int → Option Int) (i4 : Int) : Option Int :=
 cnd (decide (i4 < ((at_ a_c.lists i3).length : Int))) (
 chk (inb i4 (at_ a_c.lists i3).length) <|
 (zFG (at_ (at_ a_c.lists i3) i4)).bind fun x2 =>
 cnd (!x2) (
 some 2) (
 chk (inI (i4 + 1)) <|
 self1 (i4 + 1))) (
 zF2 self0 a_c i2 i3)
def zEU (self0 : Int → Int → Option Int) (a_c : zK) (i2 : Int) (i3 : Int) : Nat → Int → Option Int
  | 0, _ => none
  | n + 1, i4 => zCc self0 a_c i2 i3 (zEU self0 a_c i2 i3 n) i4
def zCm (a_c : zK) (self0 : Int → Int → Option Int) (i2 : Int) (i3 : Int) : Option Int :=
 cnd (decide (i3 < (a_c.lists.length : Int))) (
 chk (inb i3 a_c.lists.length) <|
 zEU self0 a_c i2 i3 zAC 0) (
 zER a_c i2)
def zBX (a_c : zK) : Nat → Int → Int → Option Int
  | 0, _, _ => none
  | n + 1, i2, i3 => zCm a_c (zBX a_c n) i2 i3
def zFW (a_c : zK) (a_zones : Int) : Option Int :=
 cnd ((decide (a_zones < 1)) || (decide (6 < a_zones))) (
 some 1) (
 cnd (!decide ((a_c.lists.length : Int) = a_zones)) (
 some 3) (
 zBX a_c zAC 0 0))
def zCN (a_z : zm) (c_0 : Int) : Option Bool :=
 chk (!(decide (a_z.start ≤ c_0)) || inI (a_z.start + a_z.count)) <|
 some ((decide (a_z.start ≤ c_0)) && (decide (c_0 < (a_z.start + a_z.count))))
def zBJ  : Option Int :=
 some (-1)
def zAG (a_s : List zm) (a_f : zm → Option Bool) (self0 : Int → Option Int) (i1 : Int) : Option Int :=
 cnd (decide (i1 < (a_s.length : Int))) (
 chk (inb i1 a_s.length) <|
 (a_f (at_ a_s i1)).bind fun x1 =>
 cnd (x1) (
 some i1) (
 chk (inI (i1 + 1)) <|
 self0 (i1 + 1))) (
 zBJ )
def zAd (a_s : List zm) (a_f : zm → Option Bool) : Nat → Int → Option Int
  | 0, _ => none
  | n + 1, i1 => zAG a_s a_f (zAd a_s a_f n) i1
def zA4 (a_s : List zm) (a_f : zm → Option Bool) : Option Int :=
 zAd a_s a_f zAC 0
def zCZ (a_a : zL) (a_frame : Int) : Option Int :=
 (zA4 a_a.zones (fun y0 => zCN y0 a_frame)).bind fun x1 =>
 some x1
def zHu  : Option (Int × Int) :=
 some ((-1), 0)
def zDP (a_z : zm) (a_frame : Int) (self0 : Int → Option (Int × Int)) (i1 : Int) : Option (Int × Int) :=
 cnd (decide (i1 < 5)) (
 chk (zMt i1) <|
 chk (inI ((1 : Int) * 2 ^ i1.toNat)) <|
 chk (inI (((1 : Int) * 2 ^ i1.toNat) - 1)) <|
 chk (inb i1 5) <|
 (zAW (a_z.free.getD i1.toNat ([] : List Int)) (zKK .andNot .i64 a_frame (((1 : Int) * 2 ^ i1.toNat) - 1))).bind fun x1 =>
 cnd (x1.2) (
 some (i1, zKK .andNot .i64 a_frame (((1 : Int) * 2 ^ i1.toNat) - 1))) (
 chk (inI (i1 + 1)) <|
 self0 (i1 + 1))) (
 zHu )
def zC8 (a_z : zm) (a_frame : Int) : Nat → Int → Option (Int × Int)
  | 0, _ => none
  | n + 1, i1 => zDP a_z a_frame (zC8 a_z a_frame n) i1
def zHa (a_z : zm) (a_frame : Int) : Option (Int × Int) :=
 zC8 a_z a_frame zAC 0
def zFY (a_z : zm) (a_frame : Int) : Option Bool :=
 (zDS a_z).bind fun x1 =>
 (cnd (!(!decide (x1 = 0))) (zCI a_z a_frame 0) (some default)).bind fun x2 =>
 cnd ((!decide (x1 = 0)) || (!x2)) (
 some false) (
 (zHa a_z a_frame).bind fun x3 =>
 some (decide (0 ≤ x3.1)))
def zFi  : Option Int :=
 some 0
def zED (self0 : Int → (List (Int × Bool)) → Option Int) (i1 : Int) (l2 : List (Int × Bool)) : Option Int :=
 chk (inI (i1 + 1)) <|
 self0 (i1 + 1) l2
def zEG (self1 : Int → (List (Int × Bool)) → Option Int) (i2 : Int) (l4 : List (Int × Bool)) : Option Int :=
 chk (inI (i2 + 1)) <|
 self1 (i2 + 1) l4
def zBu (self1 : Int → (List (Int × Bool)) → Option Int) (a_p0 : zL) (i1 : Int) (i2 : Int) (self2 : Int → (List (Int × Bool)) → Option Int) (i3 : Int) (l5 : List (Int × Bool)) : Option Int :=
 cnd (decide (i3 < ((at_ ((at_ a_p0.caches i1).lists) i2).length : Int))) (
 chk (inb i3 (at_ ((at_ a_p0.caches i1).lists) i2).length) <|
 (zCZ a_p0 (at_ (at_ ((at_ a_p0.caches i1).lists) i2) i3)).bind fun x2 =>
 cnd (!decide (x2 = i2)) (
 some 2) (
 chk (!(!(zJ6 false l5 (at_ (at_ ((at_ a_p0.caches i1).lists) i2) i3))) || inb i2 a_p0.zones.length) <|
 (cnd (!(zJ6 false l5 (at_ (at_ ((at_ a_p0.caches i1).lists) i2) i3))) (zFY (at_ a_p0.zones i2) (at_ (at_ ((at_ a_p0.caches i1).lists) i2) i3)) (some default)).bind fun x3 =>
 cnd ((zJ6 false l5 (at_ (at_ ((at_ a_p0.caches i1).lists) i2) i3)) || x3) (
 some 7) (
 chk (inI (i3 + 1)) <|
 self2 (i3 + 1) (zIt l5 (at_ (at_ ((at_ a_p0.caches i1).lists) i2) i3) true)))) (
 zEG self1 i2 l5)
def zBU (self1 : Int → (List (Int × Bool)) → Option Int) (a_p0 : zL) (i1 : Int) (i2 : Int) : Nat → Int → (List (Int × Bool)) → Option Int
  | 0, _, _ => none
  | n + 1, i3, l5 => zBu self1 a_p0 i1 i2 (zBU self1 a_p0 i1 i2 n) i3 l5
def zBt (self0 : Int → (List (Int × Bool)) → Option Int) (a_p0 : zL) (i1 : Int) (self1 : Int → (List (Int × Bool)) → Option Int) (i2 : Int) (l3 : List (Int × Bool)) : Option Int :=
 cnd (decide (i2 < (((at_ a_p0.caches i1).lists).length : Int))) (
 chk (inb i2 ((at_ a_p0.caches i1).lists).length) <|
 zBU self1 a_p0 i1 i2 zAC 0 l3) (
 zED self0 i1 l3)
def zAj (self0 : Int → (List (Int × Bool)) → Option Int) (a_p0 : zL) (i1 : Int) : Nat → Int → (List (Int × Bool)) → Option Int
  | 0, _, _ => none
  | n + 1, i2, l3 => zBt self0 a_p0 i1 (zAj self0 a_p0 i1 n) i2 l3
def zBv (a_p0 : zL) (self0 : Int → (List (Int × Bool)) → Option Int) (i1 : Int) (l1 : List (Int × Bool)) : Option Int :=
 cnd (decide (i1 < (a_p0.caches.length : Int))) (
 chk (inb i1 a_p0.caches.length) <|
 zAj self0 a_p0 i1 zAC 0 l1) (
 zFi )
def zAV (a_p0 : zL) : Nat → Int → (List (Int × Bool)) → Option Int
  | 0, _, _ => none
  | n + 1, i1, l1 => zBv a_p0 (zAV a_p0 n) i1 l1
def zC4 (a_p0 : zL) : Option Int :=
 zAV a_p0 zAC 0 ([] : List (Int × Bool))
def zEL (self3 : Int → Option Int) (i4 : Int) : Option Int :=
 chk (inI (i4 + 1)) <|
 self3 (i4 + 1)
def zBy (self3 : Int → Option Int) (a_p0 : zL) (i4 : Int) (self4 : Int → Option Int) (i5 : Int) : Option Int :=
 cnd (decide (i5 < (((at_ a_p0.caches i4).lists).length : Int))) (
 chk (inb i5 ((at_ a_p0.caches i4).lists).length) <|
 cnd (decide (a_p0.high < ((at_ ((at_ a_p0.caches i4).lists) i5).length : Int))) (
 some 9) (
 chk (inI (i5 + 1)) <|
 self4 (i5 + 1))) (
 zEL self3 i4)
def zC6 (self3 : Int → Option Int) (a_p0 : zL) (i4 : Int) : Nat → Int → Option Int
  | 0, _ => none
  | n + 1, i5 => zBy self3 a_p0 i4 (zC6 self3 a_p0 i4 n) i5
def zBm (a_p0 : zL) (self3 : Int → Option Int) (i4 : Int) : Option Int :=
 cnd (decide (i4 < (a_p0.caches.length : Int))) (
 chk (inb i4 a_p0.caches.length) <|
 (zFW (at_ a_p0.caches i4) (a_p0.zones.length : Int)).bind fun x4 =>
 cnd (!decide (x4 = 0)) (
 some x4) (
 zC6 self3 a_p0 i4 zAC 0)) (
 zC4 a_p0)
def zBE (a_p0 : zL) : Nat → Int → Option Int
  | 0, _ => none
  | n + 1, i4 => zBm a_p0 (zBE a_p0 n) i4
def zCy (a_p0 : zL) : Option Int :=
 cnd (!decide ((a_p0.caches.length : Int) = (a_p0.nodes.length : Int))) (
 some 3) (
 zBE a_p0 zAC 0)
def zBq (a_p0 : zL) (self5 : Int → Int → Option Int) (i6 : Int) (i7 : Int) : Option Int :=
 cnd (decide (i7 < (a_p0.zones.length : Int))) (
 chk (inb i7 a_p0.zones.length) <|
 (zDS (at_ a_p0.zones i7)).bind fun x5 =>
 cnd (!decide (x5 = 0)) (
 some x5) (
 cnd (!decide (((at_ a_p0.zones i7).start) = i6)) (
 some 10) (
 chk (inI (i6 + ((at_ a_p0.zones i7).count))) <|
 chk (inI (i7 + 1)) <|
 self5 (i6 + ((at_ a_p0.zones i7).count)) (i7 + 1)))) (
 zCy a_p0)
def zC0 (a_p0 : zL) : Nat → Int → Int → Option Int
  | 0, _, _ => none
  | n + 1, i6, i7 => zBq a_p0 (zC0 a_p0 n) i6 i7
def zAk (a_p0 : zL) : Option Int :=
 (zCb a_p0).bind fun x1 =>
 cnd (!x1) (
 some 2) (
 zC0 a_p0 zAC 0 0)
def zCt (a_a : zL) : Option Int :=
 (zAk a_a).bind fun x1 =>
 cnd (!decide (x1 = 0)) (
 some 0) (
 chk (inI ((a_a.zones.length : Int) - 1)) <|
 chk (inb ((a_a.zones.length : Int) - 1) a_a.zones.length) <|
 chk (inI (((at_ a_a.zones ((a_a.zones.length : Int) - 1)).start) + ((at_ a_a.zones ((a_a.zones.length : Int) - 1)).count))) <|
 some (((at_ a_a.zones ((a_a.zones.length : Int) - 1)).start) + ((at_ a_a.zones ((a_a.zones.length : Int) - 1)).count)))
def zGG (i1 : Int) : Option Int :=
 some i1
def zB7 (a_z : zm) (a_order : Int) (self0 : Int → Int → Option Int) (i2 : Int) (i3 : Int) : Option Int :=
 cnd (decide (i3 < ((zJW a_z.free 0 a_order).length : Int))) (
 chk (inb i3 (zJW a_z.free 0 a_order).length) <|
 chk (zMt i3) <|
 chk (inI (((at_ (zJW a_z.free 0 a_order) i3).length : Int) * 2 ^ i3.toNat)) <|
 chk (inI (i2 + (((at_ (zJW a_z.free 0 a_order) i3).length : Int) * 2 ^ i3.toNat))) <|
 chk (inI (i3 + 1)) <|
 self0 (i2 + (((at_ (zJW a_z.free 0 a_order) i3).length : Int) * 2 ^ i3.toNat)) (i3 + 1)) (
 zGG i2)
def zDe (a_z : zm) (a_order : Int) : Nat → Int → Int → Option Int
  | 0, _, _ => none
  | n + 1, i2, i3 => zB7 a_z a_order (zDe a_z a_order n) i2 i3
def zGb (a_z : zm) (a_order : Int) : Option Int :=
 (zDS a_z).bind fun x1 =>
 cnd (((!decide (x1 = 0)) || (decide (a_order < 0))) || (decide (4 < a_order))) (
 some 0) (
 chk (zMZ 0 a_order 5) <|
 chk (decide (a_z.free.length = 5)) <|
 zDe a_z a_order zAC 0 0)
def zJP (a_z : zm) : Option Int :=
 (zDS a_z).bind fun x1 =>
 cnd (!decide (x1 = 0)) (
 some 0) (
 chk (inI (((a_z.free.getD (4 : Int).toNat ([] : List Int)).length : Int) * 2 ^ (4 : Int).toNat)) <|
 some (((a_z.free.getD (4 : Int).toNat ([] : List Int)).length : Int) * 2 ^ (4 : Int).toNat))
def zHU (a_z : zm) : Option Int :=
 (zGb a_z 4).bind fun x1 =>
 (zJP a_z).bind fun x2 =>
 chk (inI (x1 + x2)) <|
 some (x1 + x2)
def zFx (i1 : Int) : Option Int :=
 some i1
def zBp (a_a : zL) (a_z : Int) (self0 : Int → Int → Option Int) (i2 : Int) (i3 : Int) : Option Int :=
 cnd (decide (i3 < (a_a.caches.length : Int))) (
 chk (inb i3 a_a.caches.length) <|
 chk (inb a_z ((at_ a_a.caches i3).lists).length) <|
 chk (inI (i2 + ((at_ ((at_ a_a.caches i3).lists) a_z).length : Int))) <|
 chk (inI (i3 + 1)) <|
 self0 (i2 + ((at_ ((at_ a_a.caches i3).lists) a_z).length : Int)) (i3 + 1)) (
 zFx i2)
def zCu (a_a : zL) (a_z : Int) : Nat → Int → Int → Option Int
  | 0, _, _ => none
  | n + 1, i2, i3 => zBp a_a a_z (zCu a_a a_z n) i2 i3
def zCl (a_a : zL) (a_z : Int) : Option Int :=
 chk (inb a_z a_a.zones.length) <|
 (zHU (at_ a_a.zones a_z)).bind fun x1 =>
 zCu a_a a_z zAC x1 0
def zD7 (a_a : zL) (a_z : Int) : Option Int :=
 (zCl a_a a_z).bind fun x1 =>
 chk (inb a_z a_a.zones.length) <|
 chk (inI (x1 - ((at_ a_a.zones a_z).min))) <|
 some (x1 - ((at_ a_a.zones a_z).min))
def zEP (i1 : Int) (i2 : Int) : Option (Int × Int) :=
 some (i1, i2)
def zCJ (self0 : Int → Int → Int → Option (Int × Int)) (i5 : Int) (i6 : Int) (i7 : Int) : Option (Int × Int) :=
 chk (inI (i5 + 1)) <|
 self0 i6 i7 (i5 + 1)
def zBF (a_a : zL) (self0 : Int → Int → Int → Option (Int × Int)) (i3 : Int) (i4 : Int) (i5 : Int) : Option (Int × Int) :=
 cnd (decide (i5 < (a_a.zones.length : Int))) (
 chk (inb i5 a_a.zones.length) <|
 (zD7 a_a i5).bind fun x2 =>
 chk (inI (i4 + x2)) <|
 cnd (decide (((at_ a_a.zones i5).kind) = 0)) (
 chk (inI (i3 + x2)) <|
 zCJ self0 i5 (i3 + x2) (i4 + x2)) (
 zCJ self0 i5 i3 (i4 + x2))) (
 zEP i3 i4)
def zAo (a_a : zL) : Nat → Int → Int → Int → Option (Int × Int)
  | 0, _, _, _ => none
  | n + 1, i3, i4, i5 => zBF a_a (zAo a_a n) i3 i4 i5
def zCM (a_a : zL) : Option (Int × Int) :=
 (zAk a_a).bind fun x1 =>
 cnd (!decide (x1 = 0)) (
 some (0, 0)) (
 zAo a_a zAC 0 0 0)
def zGN  : Option Int :=
 some 0
def zGD (a_zones : List zm) (self0 : Int → Option Int) (i1 : Int) : Option Int :=
 cnd (decide (i1 < (a_zones.length : Int))) (
 chk (inb i1 a_zones.length) <|
 cnd ((decide (((at_ a_zones i1).node) < 0)) || (decide (4 ≤ ((at_ a_zones i1).node)))) (
 some 2) (
 cnd ((!decide (((at_ a_zones i1).kind) = 0)) && (!decide (((at_ a_zones i1).kind) = 1))) (
 some 1) (
 chk (inI (i1 + 1)) <|
 self0 (i1 + 1)))) (
 zGN )
def zEo (a_zones : List zm) : Nat → Int → Option Int
  | 0, _ => none
  | n + 1, i1 => zGD a_zones (zEo a_zones n) i1
def zHv (a_zones : List zm) : Option Int :=
 cnd (decide (6 < (a_zones.length : Int))) (
 some 9) (
 zEo a_zones zAC 0)
def zHy (a_zones : List zm) (a_node : Int) : Option Int :=
 (zHv a_zones).bind fun x1 =>
 cnd (!decide (x1 = 0)) (
 some x1) (
 cnd ((decide (a_node < 0)) || (decide (4 ≤ a_node))) (
 some 2) (
 some 0))
def zJH (a_from_ : Int) (a_node : Int) : Option Int :=
 cnd (decide (a_node < a_from_)) (
 chk (inI (a_from_ - a_node)) <|
 chk (inI (2 * (a_from_ - a_node))) <|
 some (2 * (a_from_ - a_node))) (
 chk (inI (a_node - a_from_)) <|
 chk (inI (2 * (a_node - a_from_))) <|
 chk (inI ((2 * (a_node - a_from_)) + 1)) <|
 some ((2 * (a_node - a_from_)) + 1))
def zDq (i1 : Int) : Option Int :=
 some i1
def zGx (a_i : Int) (c_0 : Int) (c_1 : List zm) : Option Int :=
 chk (inb a_i c_1.length) <|
 (zJH c_0 ((at_ c_1 a_i).node)).bind fun x1 =>
 chk (inI (2 * x1)) <|
 cnd (decide (((at_ c_1 a_i).kind) = 0)) (
 chk (inI ((2 * x1) + 1)) <|
 zDq ((2 * x1) + 1)) (
 zDq (2 * x1))
def zHY (a_x : Int) (a_y : Int) : Option Int :=
 (zDr a_x).bind fun x1 =>
 (zDr a_y).bind fun x2 =>
 cnd (x1) (
 cnd (x2) (
 some 0) (
 some (-1))) (
 cnd (x2) (
 some 1) (
 cnd (decide (a_x < a_y)) (
 some (-1)) (
 cnd (decide (a_y < a_x)) (
 some 1) (
 some 0))))
def zG7 (a_a : Int) (a_b : Int) (c_0 : Int → Option Int) : Option Int :=
 (c_0 a_a).bind fun x1 =>
 (c_0 a_b).bind fun x2 =>
 (zHY x1 x2).bind fun x3 =>
 some x3
def zBf (self0 : Int → (List Int) → Option (List Int)) (i1 : Int) (l2 : List Int) : Option (List Int) :=
 chk (inI (i1 + 1)) <|
 self0 (i1 + 1) l2
def zBg (self0 : Int → (List Int) → Option (List Int)) (a_a : Int) (a_cmp : Int → Int → Option Int) (i1 : Int) (self1 : Int → (List Int) → Option (List Int)) (i2 : Int) (l3 : List Int) : Option (List Int) :=
 chk (!(decide (a_a < i2)) || inb i2 l3.length) <|
 chk (!(decide (a_a < i2)) || inI (i2 - 1)) <|
 chk (!(decide (a_a < i2)) || inb (i2 - 1) l3.length) <|
 (cnd (decide (a_a < i2)) (a_cmp (at_ l3 i2) (at_ l3 (i2 - 1))) (some default)).bind fun x1 =>
 cnd ((decide (a_a < i2)) && (decide (x1 < 0))) (
 chk (inI (i2 - 1)) <|
 chk (inb (i2 - 1) l3.length) <|
 chk (inb i2 l3.length) <|
 chk (inb (i2 - 1) (l3.set i2.toNat (at_ l3 (i2 - 1))).length) <|
 self1 (i2 - 1) ((l3.set i2.toNat (at_ l3 (i2 - 1))).set (i2 - 1).toNat (at_ l3 i2))) (
 zBf self0 i1 l3)
def zA9 (self0 : Int → (List Int) → Option (List Int)) (a_a : Int) (a_cmp : Int → Int → Option Int) (i1 : Int) : Nat → Int → (List Int) → Option (List Int)
  | 0, _, _ => none
  | n + 1, i2, l3 => zBg self0 a_a a_cmp i1 (zA9 self0 a_a a_cmp i1 n) i2 l3
def zBh (a_a : Int) (a_b : Int) (a_cmp : Int → Int → Option Int) (self0 : Int → (List Int) → Option (List Int)) (i1 : Int) (l1 : List Int) : Option (List Int) :=
 cnd (decide (i1 < a_b)) (
 zA9 self0 a_a a_cmp i1 zAC i1 l1) (
 some l1)
def zAH (a_a : Int) (a_b : Int) (a_cmp : Int → Int → Option Int) : Nat → Int → (List Int) → Option (List Int)
  | 0, _, _ => none
  | n + 1, i1, l1 => zBh a_a a_b a_cmp (zAH a_a a_b a_cmp n) i1 l1
def zBI (a_data : List Int) (a_a : Int) (a_b : Int) (a_cmp : Int → Int → Option Int) : Option (List Int) :=
 chk (inI (a_a + 1)) <|
 zAH a_a a_b a_cmp zAC (a_a + 1) a_data
def zCd (self0 : Int → Option (List Int)) (a_n : Int) (i2 : Int) : Option (List Int) :=
 chk (inI (0 + i2)) <|
 cnd (decide ((0 + i2) < a_n)) (
 none) (
 chk (inI (i2 * 2)) <|
 self0 (i2 * 2))
def zCi (self0 : Int → Option (List Int)) (a_n : Int) (i2 : Int) (self1 : Option (List Int))  : Option (List Int) :=
 cnd (decide ((2 * i2) ≤ a_n)) (
 chk (inI (0 + i2)) <|
 none) (
 zCd self0 a_n i2)
def zBw (self0 : Int → Option (List Int)) (a_n : Int) (i2 : Int) : Nat → Option (List Int)
  | 0 => none
  | n + 1 => zCi self0 a_n i2 (zBw self0 a_n i2 n)
def zCo (a_n : Int) (x1 : (List Int)) (self0 : Int → Option (List Int)) (i2 : Int) : Option (List Int) :=
 cnd (decide (i2 < a_n)) (
 chk (inI (2 * i2)) <|
 zBw self0 a_n i2 zAC) (
 some x1)
def zAZ (a_n : Int) (x1 : (List Int)) : Nat → Int → Option (List Int)
  | 0, _ => none
  | n + 1, i2 => zCo a_n x1 (zAZ a_n x1 n) i2
def zCj (a_n : Int) (a_cmp : Int → Int → Option Int) (i1 : Int) (l1 : List Int) : Option (List Int) :=
 (zBI l1 i1 a_n a_cmp).bind fun x1 =>
 zAZ a_n x1 zAC 20
def zCf (a_n : Int) (a_cmp : Int → Int → Option Int) (self2 : Int → Int → (List Int) → Option (List Int)) (i3 : Int) (i4 : Int) (l2 : List Int) : Option (List Int) :=
 cnd (decide (i4 ≤ a_n)) (
 (zBI l2 i3 i4 a_cmp).bind fun x2 =>
 chk (inI (i4 + 20)) <|
 self2 i4 (i4 + 20) x2) (
 zCj a_n a_cmp i3 l2)
def zBs (a_n : Int) (a_cmp : Int → Int → Option Int) : Nat → Int → Int → (List Int) → Option (List Int)
  | 0, _, _, _ => none
  | n + 1, i3, i4, l2 => zCf a_n a_cmp (zBs a_n a_cmp n) i3 i4 l2
def zDg (a_data : List Int) (a_n : Int) (a_cmp : Int → Int → Option Int) : Option (List Int) :=
 zBs a_n a_cmp zAC 0 20 a_data
def zCG (a_x : List Int) (a_cmp : Int → Int → Option Int) : Option (List Int) :=
 (zDg a_x (a_x.length : Int) a_cmp).bind fun x1 =>
 some x1
def zGU (a_zones : List zm) (a_node : Int) (l1 : List Int) : Option ((List Int) × Int) :=
 (zCG l1 (fun y0 y1 => zG7 y0 y1 (fun y0 => zGx y0 a_node a_zones))).bind fun x2 =>
 some (x2, 0)
def zEm (self0 : Int → (List Int) → Option ((List Int) × Int)) (i1 : Int) (l3 : List Int) : Option ((List Int) × Int) :=
 chk (inI (i1 + 1)) <|
 self0 (i1 + 1) l3
def zGC (a_zones : List zm) (a_node : Int) (a_kernel : Bool) (self0 : Int → (List Int) → Option ((List Int) × Int)) (i1 : Int) (l2 : List Int) : Option ((List Int) × Int) :=
 cnd (decide (i1 < (a_zones.length : Int))) (
 chk (inb i1 a_zones.length) <|
 cnd ((!a_kernel) || (decide (((at_ a_zones i1).kind) = 0))) (
 chk (decide ((l2.length + [i1].length) * 8 ≤ 4294967296)) <|
 zEm self0 i1 (l2 ++ [i1])) (
 zEm self0 i1 l2)) (
 zGU a_zones a_node l2)
def zDa (a_zones : List zm) (a_node : Int) (a_kernel : Bool) : Nat → Int → (List Int) → Option ((List Int) × Int)
  | 0, _, _ => none
  | n + 1, i1, l2 => zGC a_zones a_node a_kernel (zDa a_zones a_node a_kernel n) i1 l2
def zGf (a_zones : List zm) (a_node : Int) (a_kernel : Bool) : Option ((List Int) × Int) :=
 (zHy a_zones a_node).bind fun x1 =>
 cnd (!decide (x1 = 0)) (
 some ([], x1)) (
 zDa a_zones a_node a_kernel zAC 0 [])
def zB8 (a_s : List zm) : Option (List zm) :=
 chk (decide ((([] : List zm).length + a_s.length) * 160 ≤ 4294967296)) <|
 some a_s
def zBH (a_s : List zK) : Option (List zK) :=
 chk (decide ((([] : List zK).length + a_s.length) * 24 ≤ 4294967296)) <|
 some a_s
def zEC (a_s : List (List Int)) : Option (List (List Int)) :=
 chk (decide ((([] : List (List Int)).length + a_s.length) * 24 ≤ 4294967296)) <|
 some a_s
def zF1 (a_p0 : zL) (x1 : List Int) (l1 : List zm) (l2 : List zK) : Option zL :=
 some (⟨x1, a_p0.batch, a_p0.high, l1, l2⟩ : zL)
def zFz (self0 : Int → (List zK) → Option zL) (i1 : Int) (l4 : List zK) : Option zL :=
 chk (inI (i1 + 1)) <|
 self0 (i1 + 1) l4
def zFs (self0 : Int → (List zK) → Option zL) (i1 : Int) (l3 : List zK) (l5 : List (List Int)) : Option zL :=
 chk (inb i1 l3.length) <|
 zFz self0 i1 (l3.set i1.toNat ({ at_ l3 i1 with lists := l5 }))
def zFu (self0 : Int → (List zK) → Option zL) (i1 : Int) (l3 : List zK) (x4 : List (List Int)) (self1 : Int → (List (List Int)) → Option zL) (i2 : Int) (l6 : List (List Int)) : Option zL :=
 cnd (decide (i2 < (x4.length : Int))) (
 chk (inb i2 l6.length) <|
 (zBG (at_ l6 i2)).bind fun x5 =>
 chk (inI (i2 + 1)) <|
 self1 (i2 + 1) (l6.set i2.toNat x5)) (
 zFs self0 i1 l3 l6)
def zEE (self0 : Int → (List zK) → Option zL) (i1 : Int) (l3 : List zK) (x4 : List (List Int)) : Nat → Int → (List (List Int)) → Option zL
  | 0, _, _ => none
  | n + 1, i2, l6 => zFu self0 i1 l3 x4 (zEE self0 i1 l3 x4 n) i2 l6
def zFw (a_p0 : zL) (x1 : List Int) (x3 : List zK) (l1 : List zm) (self0 : Int → (List zK) → Option zL) (i1 : Int) (l3 : List zK) : Option zL :=
 cnd (decide (i1 < (x3.length : Int))) (
 chk (inb i1 l3.length) <|
 (zEC ((at_ l3 i1).lists)).bind fun x4 =>
 zEE self0 i1 l3 x4 zAC 0 x4) (
 zF1 a_p0 x1 l1 l3)
def zBD (a_p0 : zL) (x1 : List Int) (x3 : List zK) (l1 : List zm) : Nat → Int → (List zK) → Option zL
  | 0, _, _ => none
  | n + 1, i1, l3 => zFw a_p0 x1 x3 l1 (zBD a_p0 x1 x3 l1 n) i1 l3
def zF4 (a_p0 : zL) (x1 : List Int) (x3 : List zK) (l1 : List zm) : Option zL :=
 zBD a_p0 x1 x3 l1 zAC 0 x3
def zFr (self2 : Int → (List zm) → Option zL) (i3 : Int) (l8 : List zm) : Option zL :=
 chk (inI (i3 + 1)) <|
 self2 (i3 + 1) l8
def zFl (self2 : Int → (List zm) → Option zL) (i3 : Int) (self3 : Int → (List zm) → Option zL) (i4 : Int) (l9 : List zm) : Option zL :=
 cnd (decide (i4 < 5)) (
 chk (inb i3 l9.length) <|
 chk (inb i4 5) <|
 (zBG (((at_ l9 i3).free).getD i4.toNat ([] : List Int))).bind fun x6 =>
 chk (inI (i4 + 1)) <|
 self3 (i4 + 1) (l9.set i3.toNat ({ at_ l9 i3 with free := zEO 5 ([] : List Int) ((at_ l9 i3).free) i4.toNat x6 }))) (
 zFr self2 i3 l9)
def zEN (self2 : Int → (List zm) → Option zL) (i3 : Int) : Nat → Int → (List zm) → Option zL
  | 0, _, _ => none
  | n + 1, i4, l9 => zFl self2 i3 (zEN self2 i3 n) i4 l9
def zFn (a_p0 : zL) (x1 : List Int) (x2 : List zm) (x3 : List zK) (self2 : Int → (List zm) → Option zL) (i3 : Int) (l7 : List zm) : Option zL :=
 cnd (decide (i3 < (x2.length : Int))) (
 zEN self2 i3 zAC 0 l7) (
 zF4 a_p0 x1 x3 l7)
def zBS (a_p0 : zL) (x1 : List Int) (x2 : List zm) (x3 : List zK) : Nat → Int → (List zm) → Option zL
  | 0, _, _ => none
  | n + 1, i3, l7 => zFn a_p0 x1 x2 x3 (zBS a_p0 x1 x2 x3 n) i3 l7
def zDZ (a_p0 : zL) : Option zL :=
 (zBG a_p0.nodes).bind fun x1 =>
 (zB8 a_p0.zones).bind fun x2 =>
 (zBH a_p0.caches).bind fun x3 =>
 zBS a_p0 x1 x2 x3 zAC 0 x2
def zHs (a_z : zm) (l1 : List (List Int)) (i1 : Int) : Option zm :=
 chk (decide ((5 : Int) ≤ i1)) <|
 some (⟨a_z.node, a_z.kind, a_z.start, a_z.count, a_z.min, l1⟩ : zm)
def zHw (a_z : zm) (self0 : Int → (List (List Int)) → Option zm) (i2 : Int) (l2 : List (List Int)) : Option zm :=
 cnd (decide (i2 < 5)) (
 chk (inb i2 5) <|
 (zBG (l2.getD i2.toNat [])).bind fun x1 =>
 chk (inI (i2 + 1)) <|
 self0 (i2 + 1) (zEO 5 [] l2 i2.toNat x1)) (
 zHs a_z l2 i2)
def zGY (a_z : zm) : Nat → Int → (List (List Int)) → Option zm
  | 0, _, _ => none
  | n + 1, i2, l2 => zHw a_z (zGY a_z n) i2 l2
def zIU (a_z : zm) : Option zm :=
 zGY a_z zAC 0 a_z.free
def zH7 (i1 : Int) (x2 : zm) (l1 : List (List Int)) : Option (zm × Int × Int) :=
 some ((⟨x2.node, x2.kind, x2.start, x2.count, x2.min, l1⟩ : zm), at_ (x2.free.getD i1.toNat []) (0 : Int), 0)
def zHr (a_p1 : Int) (i1 : Int) (x2 : zm) (self0 : Int → (List (List Int)) → Option (zm × Int × Int)) (i2 : Int) (l2 : List (List Int)) : Option (zm × Int × Int) :=
 cnd (decide (a_p1 < i2)) (
 chk (inI (i2 - 1)) <|
 chk (zMt (i2 - 1)) <|
 chk (inI ((1 : Int) * 2 ^ (i2 - 1).toNat)) <|
 chk (inI ((at_ (x2.free.getD i1.toNat []) (0 : Int)) + ((1 : Int) * 2 ^ (i2 - 1).toNat))) <|
 chk (inb (i2 - 1) 5) <|
 chk (decide ((i2 - 1) < i1)) <|
 (zAW (l2.getD (i2 - 1).toNat []) ((at_ (x2.free.getD i1.toNat []) (0 : Int)) + ((1 : Int) * 2 ^ (i2 - 1).toNat))).bind fun x3 =>
 chk (zQi (l2.getD (i2 - 1).toNat []) x3.1) <|
 self0 (i2 - 1) (zEO 5 [] l2 (i2 - 1).toNat (zOs (l2.getD (i2 - 1).toNat []) x3.1 ((at_ (x2.free.getD i1.toNat []) (0 : Int)) + ((1 : Int) * 2 ^ (i2 - 1).toNat))))) (
 zH7 i1 x2 l2)
def zGd (a_p1 : Int) (i1 : Int) (x2 : zm) : Nat → Int → (List (List Int)) → Option (zm × Int × Int)
  | 0, _, _ => none
  | n + 1, i2, l2 => zHr a_p1 i1 x2 (zGd a_p1 i1 x2 n) i2 l2
def zH4 (a_p0 : zm) (a_p1 : Int) (i1 : Int) : Option (zm × Int × Int) :=
 cnd (decide (4 < i1)) (
 some ((⟨0, 0, 0, 0, 0, (List.replicate 5 ([] : List Int))⟩ : zm), 0, 16)) (
 (zIU a_p0).bind fun x2 =>
 chk (inb i1 5) <|
 chk (decide (i1 < (5 : Int))) <|
 chk (inb (0 : Int) (x2.free.getD i1.toNat []).length) <|
 chk (zMZ 1 ((x2.free.getD i1.toNat []).length : Int) (x2.free.getD i1.toNat []).length) <|
 chk (decide (i1 ≤ (5 : Int))) <|
 zGd a_p1 i1 x2 zAC i1 (zEO 5 [] x2.free i1.toNat (zJW (x2.free.getD i1.toNat []) 1 ((x2.free.getD i1.toNat []).length : Int))))
def zH6 (a_p0 : zm) (a_p1 : Int) (self1 : Int → Option (zm × Int × Int)) (i3 : Int) : Option (zm × Int × Int) :=
 chk (!(decide (i3 ≤ 4)) || inb i3 5) <|
 cnd ((decide (i3 ≤ 4)) && (decide (((a_p0.free.getD i3.toNat ([] : List Int)).length : Int) = 0))) (
 chk (inI (i3 + 1)) <|
 self1 (i3 + 1)) (
 zH4 a_p0 a_p1 i3)
def zGk (a_p0 : zm) (a_p1 : Int) : Nat → Int → Option (zm × Int × Int)
  | 0, _ => none
  | n + 1, i3 => zH6 a_p0 a_p1 (zGk a_p0 a_p1 n) i3
def zIY (a_p0 : zm) (a_p1 : Int) : Option (zm × Int × Int) :=
 (zDS a_p0).bind fun x1 =>
 cnd (!decide (x1 = 0)) (
 some ((⟨0, 0, 0, 0, 0, (List.replicate 5 ([] : List Int))⟩ : zm), 0, x1)) (
 cnd ((decide (a_p1 < 0)) || (decide (4 < a_p1))) (
 some ((⟨0, 0, 0, 0, 0, (List.replicate 5 ([] : List Int))⟩ : zm), 0, 2)) (
 zGk a_p0 a_p1 zAC a_p1))
def zFV (a_c : zK) (a_zone : Int) : Option Int :=
 (zFW a_c (a_c.lists.length : Int)).bind fun x1 =>
 cnd (!decide (x1 = 0)) (
 some x1) (
 cnd ((decide (a_zone < 0)) || (decide ((a_c.lists.length : Int) ≤ a_zone))) (
 some 2) (
 some 0))
def zGF (l1 : List (List Int)) : Option zK :=
 some (⟨l1⟩ : zK)
def zEr (self0 : Int → (List (List Int)) → Option zK) (i1 : Int) (l2 : List (List Int)) (d1 : List Int) : Option zK :=
 chk (decide (0 ≤ (d1.length : Int)) && decide ((d1.length : Int) ≤ (d1.length : Int)) && decide ((d1.length : Int) * (8 : Int) ≤ 4294967296)) <|
 chk (inb i1 l2.length) <|
 chk (inI (i1 + 1)) <|
 self0 (i1 + 1) (l2.set i1.toNat (zCK (List.replicate (d1.length : Int).toNat 0) d1))
def zGX (a_c : zK) (a_zone : Int) (a_l : List Int) (self0 : Int → (List (List Int)) → Option zK) (i1 : Int) (l2 : List (List Int)) : Option zK :=
 cnd (decide (i1 < (a_c.lists.length : Int))) (
 chk (inb i1 a_c.lists.length) <|
 cnd (decide (i1 = a_zone)) (
 zEr self0 i1 l2 a_l) (
 zEr self0 i1 l2 (at_ a_c.lists i1))) (
 zGF l2)
def zDf (a_c : zK) (a_zone : Int) (a_l : List Int) : Nat → Int → (List (List Int)) → Option zK
  | 0, _, _ => none
  | n + 1, i1, l2 => zGX a_c a_zone a_l (zDf a_c a_zone a_l n) i1 l2
def zCA (a_c : zK) (a_zone : Int) (a_l : List Int) : Option zK :=
 chk (decide (0 ≤ (a_c.lists.length : Int)) && decide ((a_c.lists.length : Int) ≤ (a_c.lists.length : Int)) && decide ((a_c.lists.length : Int) * (24 : Int) ≤ 4294967296)) <|
 zDf a_c a_zone a_l zAC 0 (List.replicate (a_c.lists.length : Int).toNat ([] : List Int))
def zG0 (a_p0 : zK) (a_p1 : Int) (l1 : List Int) : Option (zK × Int) :=
 (zCA a_p0 a_p1 l1).bind fun x3 =>
 (zCA a_p0 a_p1 l1).bind fun x4 =>
 some (x4, 0)
def zGy (a_p0 : zK) (a_p1 : Int) (a_p2 : List Int) (self0 : Int → (List Int) → Option (zK × Int)) (i1 : Int) (l2 : List Int) : Option (zK × Int) :=
 cnd (decide (i1 < (a_p2.length : Int))) (
 chk (inI ((a_p2.length : Int) - 1)) <|
 chk (inI (((a_p2.length : Int) - 1) - i1)) <|
 chk (inb (((a_p2.length : Int) - 1) - i1) a_p2.length) <|
 chk (decide ((l2.length + [at_ a_p2 (((a_p2.length : Int) - 1) - i1)].length) * 8 ≤ 4294967296)) <|
 chk (inI (i1 + 1)) <|
 self0 (i1 + 1) (l2 ++ [at_ a_p2 (((a_p2.length : Int) - 1) - i1)])) (
 zG0 a_p0 a_p1 l2)
def zFP (a_p0 : zK) (a_p1 : Int) (a_p2 : List Int) : Nat → Int → (List Int) → Option (zK × Int)
  | 0, _, _ => none
  | n + 1, i1, l2 => zGy a_p0 a_p1 a_p2 (zFP a_p0 a_p1 a_p2 n) i1 l2
def zG9 (a_p0 : zK) (a_p1 : Int) (a_p2 : List Int) : Option (zK × Int) :=
 chk (inb a_p1 a_p0.lists.length) <|
 chk (decide (0 ≤ ((at_ a_p0.lists a_p1).length : Int)) && decide (((at_ a_p0.lists a_p1).length : Int) ≤ ((at_ a_p0.lists a_p1).length : Int)) && decide (((at_ a_p0.lists a_p1).length : Int) * (8 : Int) ≤ 4294967296)) <|
 zFP a_p0 a_p1 a_p2 zAC 0 (zCK (List.replicate ((at_ a_p0.lists a_p1).length : Int).toNat 0) (at_ a_p0.lists a_p1))
def zGw (a_p0 : zK) (a_p1 : Int) (a_p2 : List Int) (self1 : Int → (List (Int × Bool)) → Option (zK × Int)) (i2 : Int) (l3 : List (Int × Bool)) : Option (zK × Int) :=
 cnd (decide (i2 < (a_p2.length : Int))) (
 chk (inb i2 a_p2.length) <|
 (zFG (at_ a_p2 i2)).bind fun x5 =>
 cnd (!x5) (
 some ((⟨([] : List (List Int))⟩ : zK), 2)) (
 cnd (zJ6 false l3 (at_ a_p2 i2)) (
 some ((⟨([] : List (List Int))⟩ : zK), 7)) (
 chk (inI (i2 + 1)) <|
 self1 (i2 + 1) (zIt l3 (at_ a_p2 i2) true)))) (
 zG9 a_p0 a_p1 a_p2)
def zFK (a_p0 : zK) (a_p1 : Int) (a_p2 : List Int) : Nat → Int → (List (Int × Bool)) → Option (zK × Int)
  | 0, _, _ => none
  | n + 1, i2, l3 => zGw a_p0 a_p1 a_p2 (zFK a_p0 a_p1 a_p2 n) i2 l3
def zHF (a_p0 : zK) (a_p1 : Int) (a_p2 : List Int) : Option (zK × Int) :=
 (zFV a_p0 a_p1).bind fun x1 =>
 cnd (!decide (x1 = 0)) (
 some ((⟨([] : List (List Int))⟩ : zK), x1)) (
 (zEw a_p0).bind fun x2 =>
 zFK a_p0 a_p1 a_p2 zAC 0 x2)
def zDu (a_p0 : zL) (l1 : List zm) (l2 : List Int) (l3 : List zK) : Option (zL × Bool) :=
 some ((⟨a_p0.nodes, a_p0.batch, a_p0.high, l1, l3⟩ : zL), decide (0 < (l2.length : Int)))
def zDm (a_p0 : zL) (a_p1 : Int) (a_p2 : Int) (l1 : List zm) (l2 : List Int) : Option (zL × Bool) :=
 chk (inb a_p1 a_p0.caches.length) <|
 (zHF (at_ a_p0.caches a_p1) a_p2 l2).bind fun x1 =>
 (zHF (at_ a_p0.caches a_p1) a_p2 l2).bind fun x2 =>
 cnd (decide (x2.2 = 0)) (
 zDu a_p0 l1 l2 (a_p0.caches.set a_p1.toNat x2.1)) (
 zDu a_p0 l1 l2 a_p0.caches)
def zFT (a_p0 : zL) (a_p1 : Int) (a_p2 : Int) (self0 : Int → (List zm) → (List Int) → Option (zL × Bool)) (i1 : Int) (l4 : List zm) (l5 : List Int) : Option (zL × Bool) :=
 cnd (decide (i1 < a_p0.batch)) (
 chk (inb a_p2 l4.length) <|
 (zIY (at_ l4 a_p2) 0).bind fun x3 =>
 cnd (!decide (x3.2.2 = 0)) (
 zDm a_p0 a_p1 a_p2 l4 l5) (
 chk (decide ((l5.length + [x3.2.1].length) * 8 ≤ 4294967296)) <|
 chk (inI (i1 + 1)) <|
 self0 (i1 + 1) (l4.set a_p2.toNat x3.1) (l5 ++ [x3.2.1]))) (
 zDm a_p0 a_p1 a_p2 l4 l5)
def zDs (a_p0 : zL) (a_p1 : Int) (a_p2 : Int) : Nat → Int → (List zm) → (List Int) → Option (zL × Bool)
  | 0, _, _, _ => none
  | n + 1, i1, l4, l5 => zFT a_p0 a_p1 a_p2 (zDs a_p0 a_p1 a_p2 n) i1 l4 l5
def zFN (a_p0 : zL) (a_p1 : Int) (a_p2 : Int) : Option (zL × Bool) :=
 zDs a_p0 a_p1 a_p2 zAC 0 a_p0.zones []
def zIz (a_c : zK) (a_zone : Int) : Option (zK × (List Int) × Int) :=
 (zFV a_c a_zone).bind fun x1 =>
 cnd (!decide (x1 = 0)) (
 some ((⟨([] : List (List Int))⟩ : zK), [], x1)) (
 chk (inb a_zone a_c.lists.length) <|
 chk (decide (0 ≤ ((at_ a_c.lists a_zone).length : Int)) && decide (((at_ a_c.lists a_zone).length : Int) ≤ ((at_ a_c.lists a_zone).length : Int)) && decide (((at_ a_c.lists a_zone).length : Int) * (8 : Int) ≤ 4294967296)) <|
 (zCA a_c a_zone []).bind fun x2 =>
 some (x2, zCK (List.replicate ((at_ a_c.lists a_zone).length : Int).toNat 0) (at_ a_c.lists a_zone), 0))
def zIQ (a_z : zm) (a_frame : Int) (a_order : Int) : Option (zm × Int) :=
 (zIU a_z).bind fun x3 =>
 (zKC (⟨x3.node, x3.kind, x3.start, x3.count, x3.min, x3.free⟩ : zm) a_frame a_order).bind fun x4 =>
 some ((⟨x4.node, x4.kind, x4.start, x4.count, x4.min, x4.free⟩ : zm), 0)
def zIo (a_z : zm) (a_frame : Int) (a_order : Int) (self0 : Int → Option (zm × Int)) (i1 : Int) : Option (zm × Int) :=
 chk (zMt a_order) <|
 chk (inI ((1 : Int) * 2 ^ a_order.toNat)) <|
 chk (inI (a_frame + ((1 : Int) * 2 ^ a_order.toNat))) <|
 cnd (decide (i1 < (a_frame + ((1 : Int) * 2 ^ a_order.toNat)))) (
 (zHa a_z i1).bind fun x5 =>
 cnd (decide (0 ≤ x5.1)) (
 some ((⟨0, 0, 0, 0, 0, (List.replicate 5 ([] : List Int))⟩ : zm), 7)) (
 chk (inI (i1 + 1)) <|
 self0 (i1 + 1))) (
 zIQ a_z a_frame a_order)
def zHK (a_z : zm) (a_frame : Int) (a_order : Int) : Nat → Int → Option (zm × Int)
  | 0, _ => none
  | n + 1, i1 => zIo a_z a_frame a_order (zHK a_z a_frame a_order n) i1
def zKN (a_z : zm) (a_frame : Int) (a_order : Int) : Option (zm × Int) :=
 (zDS a_z).bind fun x1 =>
 cnd (!decide (x1 = 0)) (
 some ((⟨0, 0, 0, 0, 0, (List.replicate 5 ([] : List Int))⟩ : zm), x1)) (
 (cnd (!((decide (a_order < 0)) || (decide (4 < a_order)))) (zCI a_z a_frame a_order) (some default)).bind fun x2 =>
 cnd (((decide (a_order < 0)) || (decide (4 < a_order))) || (!x2)) (
 some ((⟨0, 0, 0, 0, 0, (List.replicate 5 ([] : List Int))⟩ : zm), 2)) (
 zHK a_z a_frame a_order zAC a_frame))
def zEu (self0 : Int → (List zm) → Option zL) (i1 : Int) (l2 : List zm) : Option zL :=
 chk (inI (i1 + 1)) <|
 self0 (i1 + 1) l2
def zGT (a_a : zL) (a_z : Int) (a_frames : List Int) (self0 : Int → (List zm) → Option zL) (i1 : Int) (l1 : List zm) : Option zL :=
 cnd (decide (i1 < (a_frames.length : Int))) (
 chk (inb i1 a_frames.length) <|
 chk (inb a_z l1.length) <|
 (zKN (at_ l1 a_z) (at_ a_frames i1) 0).bind fun x1 =>
 cnd (decide (x1.2 = 0)) (
 zEu self0 i1 (l1.set a_z.toNat x1.1)) (
 zEu self0 i1 l1)) (
 some (⟨a_a.nodes, a_a.batch, a_a.high, l1, a_a.caches⟩ : zL))
def zDi (a_a : zL) (a_z : Int) (a_frames : List Int) : Nat → Int → (List zm) → Option zL
  | 0, _, _ => none
  | n + 1, i1, l1 => zGT a_a a_z a_frames (zDi a_a a_z a_frames n) i1 l1
def zGa (a_a : zL) (a_z : Int) (a_frames : List Int) : Option zL :=
 zDi a_a a_z a_frames zAC 0 a_a.zones
def zEQ (a_a : zL) (a_cpu : Int) (a_z : Int) : Option zL :=
 chk (inb a_cpu a_a.caches.length) <|
 (zIz (at_ a_a.caches a_cpu) a_z).bind fun x1 =>
 cnd (decide (x1.2.2 = 0)) (
 (zGa (⟨a_a.nodes, a_a.batch, a_a.high, a_a.zones, a_a.caches.set a_cpu.toNat x1.1⟩ : zL) a_z x1.2.1).bind fun x2 =>
 some (⟨x2.nodes, x2.batch, x2.high, x2.zones, x2.caches⟩ : zL)) (
 some (⟨a_a.nodes, a_a.batch, a_a.high, a_a.zones, a_a.caches⟩ : zL))
def zJl (a_c : zK) (a_zone : Int) : Option (zK × Int × Int) :=
 (zFV a_c a_zone).bind fun x1 =>
 cnd (!decide (x1 = 0)) (
 some ((⟨([] : List (List Int))⟩ : zK), 0, x1)) (
 chk (inb a_zone a_c.lists.length) <|
 cnd (decide (((at_ a_c.lists a_zone).length : Int) = 0)) (
 some ((⟨([] : List (List Int))⟩ : zK), 0, 6)) (
 chk (inI (((at_ a_c.lists a_zone).length : Int) - 1)) <|
 chk (zMZ 0 (((at_ a_c.lists a_zone).length : Int) - 1) (at_ a_c.lists a_zone).length) <|
 (zCA a_c a_zone (zJW (at_ a_c.lists a_zone) 0 (((at_ a_c.lists a_zone).length : Int) - 1))).bind fun x2 =>
 chk (inb (((at_ a_c.lists a_zone).length : Int) - 1) (at_ a_c.lists a_zone).length) <|
 some (x2, at_ (at_ a_c.lists a_zone) (((at_ a_c.lists a_zone).length : Int) - 1), 0)))
def zFo  : Option (zL × Int × Int) :=
 some ((⟨([] : List Int), 0, 0, ([] : List zm), ([] : List zK)⟩ : zL), 0, 16)
def zF3 (self0 : Int → Option (zL × Int × Int)) (i1 : Int) : Option (zL × Int × Int) :=
 chk (inI (i1 + 1)) <|
 self0 (i1 + 1)
def zEK (a_p1 : Int) (x2 : (List Int) × Int) (i1 : Int) (d1 : List Int) (d2 : Int) (d3 : Int) (l1 : List zm) (l2 : List zK) : Option (zL × Int × Int) :=
 chk (inb a_p1 l2.length) <|
 (zJl (at_ l2 a_p1) (at_ x2.1 i1)).bind fun x6 =>
 cnd (!decide (x6.2.2 = 0)) (
 some ((⟨([] : List Int), 0, 0, ([] : List zm), ([] : List zK)⟩ : zL), 0, x6.2.2)) (
 some ((⟨d1, d2, d3, l1, l2.set a_p1.toNat x6.1⟩ : zL), x6.2.1, 0))
def zFj (a_p1 : Int) (x2 : (List Int) × Int) (i1 : Int) (d4 : List Int) (d5 : Int) (d6 : Int) (l3 : List zm) (l4 : List zK) : Option (zL × Int × Int) :=
 (zFN (⟨d4, d5, d6, l3, l4⟩ : zL) a_p1 (at_ x2.1 i1)).bind fun x8 =>
 zEK a_p1 x2 i1 x8.1.nodes x8.1.batch x8.1.high x8.1.zones x8.1.caches
def zEJ (self1 : Int → (List Int) → Int → Int → (List zm) → (List zK) → Option (zL × Int × Int)) (i2 : Int) (d10 : List Int) (d11 : Int) (d12 : Int) (l7 : List zm) (l8 : List zK) : Option (zL × Int × Int) :=
 chk (inI (i2 + 1)) <|
 self1 (i2 + 1) d10 d11 d12 l7 l8
def zF9 (a_p1 : Int) (x2 : (List Int) × Int) (i1 : Int) (x7 : zL × Bool) (self1 : Int → (List Int) → Int → Int → (List zm) → (List zK) → Option (zL × Int × Int)) (i2 : Int) (d7 : List Int) (d8 : Int) (d9 : Int) (l5 : List zm) (l6 : List zK) : Option (zL × Int × Int) :=
 cnd (decide (i2 < (x7.1.caches.length : Int))) (
 cnd (!decide (i2 = a_p1)) (
 (zEQ (⟨d7, d8, d9, l5, l6⟩ : zL) i2 (at_ x2.1 i1)).bind fun x9 =>
 zEJ self1 i2 x9.nodes x9.batch x9.high x9.zones x9.caches) (
 zEJ self1 i2 d7 d8 d9 l5 l6)) (
 zFj a_p1 x2 i1 d7 d8 d9 l5 l6)
def zC5 (a_p1 : Int) (x2 : (List Int) × Int) (i1 : Int) (x7 : zL × Bool) : Nat → Int → (List Int) → Int → Int → (List zm) → (List zK) → Option (zL × Int × Int)
  | 0, _, _, _, _, _, _ => none
  | n + 1, i2, d7, d8, d9, l5, l6 => zF9 a_p1 x2 i1 x7 (zC5 a_p1 x2 i1 x7 n) i2 d7 d8 d9 l5 l6
def zF8 (a_p0 : zL) (a_p1 : Int) (a_p3 : Bool) (x2 : (List Int) × Int) (self0 : Int → Option (zL × Int × Int)) (i1 : Int) : Option (zL × Int × Int) :=
 cnd (decide (i1 < (x2.1.length : Int))) (
 chk (inb i1 x2.1.length) <|
 (cnd a_p3 (zCl a_p0 (at_ x2.1 i1)) (some default)).bind fun x3 =>
 (cnd (!(a_p3 && (decide (x3 = 0))) && !a_p3) (zD7 a_p0 (at_ x2.1 i1)) (some default)).bind fun x4 =>
 cnd ((a_p3 && (decide (x3 = 0))) || ((!a_p3) && (decide (x4 < 1)))) (
 zF3 self0 i1) (
 (zDZ a_p0).bind fun x5 =>
 chk (inb a_p1 x5.caches.length) <|
 chk (inb (at_ x2.1 i1) ((at_ x5.caches a_p1).lists).length) <|
 (cnd (decide (((at_ ((at_ x5.caches a_p1).lists) (at_ x2.1 i1)).length : Int) = 0)) (zFN (⟨x5.nodes, x5.batch, x5.high, x5.zones, x5.caches⟩ : zL) a_p1 (at_ x2.1 i1)) (some ((⟨x5.nodes, x5.batch, x5.high, x5.zones, x5.caches⟩ : zL), default))).bind fun x7 =>
 cnd ((decide (((at_ ((at_ x5.caches a_p1).lists) (at_ x2.1 i1)).length : Int) = 0)) && (!x7.2)) (
 zC5 a_p1 x2 i1 x7 zAC 0 x7.1.nodes x7.1.batch x7.1.high x7.1.zones x7.1.caches) (
 zEK a_p1 x2 i1 x7.1.nodes x7.1.batch x7.1.high x7.1.zones x7.1.caches))) (
 zFo )
def zCx (a_p0 : zL) (a_p1 : Int) (a_p3 : Bool) (x2 : (List Int) × Int) : Nat → Int → Option (zL × Int × Int)
  | 0, _ => none
  | n + 1, i1 => zF8 a_p0 a_p1 a_p3 x2 (zCx a_p0 a_p1 a_p3 x2 n) i1
def zHX (a_p0 : zL) (a_p1 : Int) (a_p2 : Bool) (a_p3 : Bool) : Option (zL × Int × Int) :=
 (zAk a_p0).bind fun x1 =>
 cnd (!decide (x1 = 0)) (
 some ((⟨([] : List Int), 0, 0, ([] : List zm), ([] : List zK)⟩ : zL), 0, x1)) (
 cnd ((decide (a_p1 < 0)) || (decide ((a_p0.nodes.length : Int) ≤ a_p1))) (
 some ((⟨([] : List Int), 0, 0, ([] : List zm), ([] : List zK)⟩ : zL), 0, 2)) (
 chk (inb a_p1 a_p0.nodes.length) <|
 (zGf a_p0.zones (at_ a_p0.nodes a_p1) a_p2).bind fun x2 =>
 zCx a_p0 a_p1 a_p3 x2 zAC 0))
def zDh  : Option Int :=
 some (-1)
def zA0 (a_s : List Int) (a_v : Int) (self0 : Int → Option Int) (i1 : Int) : Option Int :=
 cnd (decide (i1 < (a_s.length : Int))) (
 chk (inb i1 a_s.length) <|
 cnd (decide (a_v = (at_ a_s i1))) (
 some i1) (
 chk (inI (i1 + 1)) <|
 self0 (i1 + 1))) (
 zDh )
def zAx (a_s : List Int) (a_v : Int) : Nat → Int → Option Int
  | 0, _ => none
  | n + 1, i1 => zA0 a_s a_v (zAx a_s a_v n) i1
def zCv (a_s : List Int) (a_v : Int) : Option Int :=
 zAx a_s a_v zAC 0
def zBa (a_s : List Int) (a_v : Int) : Option Bool :=
 (zCv a_s a_v).bind fun x1 =>
 some (decide (0 ≤ x1))
def zBB (a_c : zK) (c_0 : Int) (c_1 : Int) : Option Bool :=
 chk (inb c_0 a_c.lists.length) <|
 (zBa (at_ a_c.lists c_0) c_1).bind fun x1 =>
 some x1
def zAu  : Option Int :=
 some (-1)
def zAA (a_s : List zK) (a_f : zK → Option Bool) (self0 : Int → Option Int) (i1 : Int) : Option Int :=
 cnd (decide (i1 < (a_s.length : Int))) (
 chk (inb i1 a_s.length) <|
 (a_f (at_ a_s i1)).bind fun x1 =>
 cnd (x1) (
 some i1) (
 chk (inI (i1 + 1)) <|
 self0 (i1 + 1))) (
 zAu )
def zAB (a_s : List zK) (a_f : zK → Option Bool) : Nat → Int → Option Int
  | 0, _ => none
  | n + 1, i1 => zAA a_s a_f (zAB a_s a_f n) i1
def zAg (a_s : List zK) (a_f : zK → Option Bool) : Option Int :=
 zAB a_s a_f zAC 0
def zD0 (a_a : zL) (a_z : Int) (a_frame : Int) : Option Int :=
 (zAg a_a.caches (fun y0 => zBB y0 a_z a_frame)).bind fun x1 =>
 some x1
def zD5 (a_a : zL) (a_z : Int) (a_frame : Int) : Option Bool :=
 chk (inb a_z a_a.zones.length) <|
 (zFY (at_ a_a.zones a_z) a_frame).bind fun x1 =>
 (cnd (!x1) (zD0 a_a a_z a_frame) (some default)).bind fun x2 =>
 some (x1 || (decide (0 ≤ x2)))
def zCQ (a_a : zL) (a_frame : Int) : Option Bool :=
 (zAk a_a).bind fun x1 =>
 cnd (!decide (x1 = 0)) (
 some false) (
 (zCZ a_a a_frame).bind fun x2 =>
 (cnd (decide (0 ≤ x2)) (zD5 a_a x2 a_frame) (some default)).bind fun x3 =>
 some ((decide (0 ≤ x2)) && x3))
def zDc (a_a : zL) (a_z : Int) : Option Int :=
 (zAk a_a).bind fun x1 =>
 cnd (((!decide (x1 = 0)) || (decide (a_z < 0))) || (decide ((a_a.zones.length : Int) ≤ a_z))) (
 some 0) (
 (zCl a_a a_z).bind fun x2 =>
 some x2)
def zD8 (a_a : zL) (a_frame : Int) : Option Int :=
 (zAk a_a).bind fun x1 =>
 cnd (!decide (x1 = 0)) (
 some (-1)) (
 (zCZ a_a a_frame).bind fun x2 =>
 some x2)
def zKP (a_p0 : zK) (a_p1 : Int) (a_p2 : Int) (a_p3 : Int) (a_p4 : Int) : Option (zK × (List Int) × Int) :=
 (zFV a_p0 a_p1).bind fun x1 =>
 cnd (!decide (x1 = 0)) (
 some ((⟨([] : List (List Int))⟩ : zK), [], x1)) (
 (zFG a_p2).bind fun x2 =>
 cnd (!x2) (
 some ((⟨([] : List (List Int))⟩ : zK), [], 2)) (
 cnd ((decide (a_p3 < 1)) || (decide (a_p4 < a_p3))) (
 some ((⟨([] : List (List Int))⟩ : zK), [], 1)) (
 (zEw a_p0).bind fun x3 =>
 cnd (zJ6 false x3 a_p2) (
 some ((⟨([] : List (List Int))⟩ : zK), [], 7)) (
 chk (inb a_p1 a_p0.lists.length) <|
 chk (inI (((at_ a_p0.lists a_p1).length : Int) + 1)) <|
 chk (decide (0 ≤ ((at_ a_p0.lists a_p1).length : Int)) && decide (((at_ a_p0.lists a_p1).length : Int) ≤ (((at_ a_p0.lists a_p1).length : Int) + 1)) && decide ((((at_ a_p0.lists a_p1).length : Int) + 1) * (8 : Int) ≤ 4294967296)) <|
 chk (decide (((zCK (List.replicate ((at_ a_p0.lists a_p1).length : Int).toNat 0) (at_ a_p0.lists a_p1)).length + [a_p2].length) * 8 ≤ 4294967296)) <|
 cnd (decide ((((zCK (List.replicate ((at_ a_p0.lists a_p1).length : Int).toNat 0) (at_ a_p0.lists a_p1)) ++ [a_p2]).length : Int) ≤ a_p4)) (
 (zCA a_p0 a_p1 ((zCK (List.replicate ((at_ a_p0.lists a_p1).length : Int).toNat 0) (at_ a_p0.lists a_p1)) ++ [a_p2])).bind fun x4 =>
 (zCA a_p0 a_p1 ((zCK (List.replicate ((at_ a_p0.lists a_p1).length : Int).toNat 0) (at_ a_p0.lists a_p1)) ++ [a_p2])).bind fun x5 =>
 some (x5, [], 0)) (
 chk (decide (0 ≤ a_p3) && decide (a_p3 ≤ a_p3) && decide (a_p3 * (8 : Int) ≤ 4294967296)) <|
 chk (zMZ a_p3 (((zCK (List.replicate ((at_ a_p0.lists a_p1).length : Int).toNat 0) (at_ a_p0.lists a_p1)) ++ [a_p2]).length : Int) ((zCK (List.replicate ((at_ a_p0.lists a_p1).length : Int).toNat 0) (at_ a_p0.lists a_p1)) ++ [a_p2]).length) <|
 (zCA a_p0 a_p1 (zJW ((zCK (List.replicate ((at_ a_p0.lists a_p1).length : Int).toNat 0) (at_ a_p0.lists a_p1)) ++ [a_p2]) a_p3 (((zCK (List.replicate ((at_ a_p0.lists a_p1).length : Int).toNat 0) (at_ a_p0.lists a_p1)) ++ [a_p2]).length : Int))).bind fun x6 =>
 some (x6, zCK (List.replicate a_p3.toNat 0) ((zCK (List.replicate ((at_ a_p0.lists a_p1).length : Int).toNat 0) (at_ a_p0.lists a_p1)) ++ [a_p2]), 0))))))
def zH1 (a_p0 : zL) (a_p1 : Int) (a_p2 : Int) : Option (zL × Int) :=
 (zAk a_p0).bind fun x1 =>
 cnd (!decide (x1 = 0)) (
 some ((⟨([] : List Int), 0, 0, ([] : List zm), ([] : List zK)⟩ : zL), x1)) (
 (zCZ a_p0 a_p2).bind fun x2 =>
 cnd (((decide (a_p1 < 0)) || (decide ((a_p0.nodes.length : Int) ≤ a_p1))) || (decide (x2 < 0))) (
 some ((⟨([] : List Int), 0, 0, ([] : List zm), ([] : List zK)⟩ : zL), 2)) (
 (zD5 a_p0 x2 a_p2).bind fun x3 =>
 cnd (x3) (
 some ((⟨([] : List Int), 0, 0, ([] : List zm), ([] : List zK)⟩ : zL), 7)) (
 (zDZ a_p0).bind fun x4 =>
 chk (inb a_p1 x4.caches.length) <|
 (zKP (at_ x4.caches a_p1) x2 a_p2 x4.batch x4.high).bind fun x5 =>
 cnd (!decide (x5.2.2 = 0)) (
 some ((⟨([] : List Int), 0, 0, ([] : List zm), ([] : List zK)⟩ : zL), x5.2.2)) (
 (zGa (⟨x4.nodes, x4.batch, x4.high, x4.zones, x4.caches.set a_p1.toNat x5.1⟩ : zL) x2 x5.2.1).bind fun x6 =>
 some ((⟨x6.nodes, x6.batch, x6.high, x6.zones, x6.caches⟩ : zL), 0)))))
def zDt  : Option (zL × Int × Int) :=
 some ((⟨([] : List Int), 0, 0, ([] : List zm), ([] : List zK)⟩ : zL), 0, 16)
def zCX (self0 : Int → (List Int) → Int → Int → (List zm) → (List zK) → Option (zL × Int × Int)) (i1 : Int) (d4 : List Int) (d5 : Int) (d6 : Int) (l3 : List zm) (l4 : List zK) : Option (zL × Int × Int) :=
 chk (inI (i1 + 1)) <|
 self0 (i1 + 1) d4 d5 d6 l3 l4
def zDw (self0 : Int → (List Int) → Int → Int → (List zm) → (List zK) → Option (zL × Int × Int)) (a_p2 : Int) (x3 : (List Int) × Int) (i1 : Int) (d7 : List Int) (d8 : Int) (d9 : Int) (l5 : List zm) (l6 : List zK) : Option (zL × Int × Int) :=
 chk (inb (at_ x3.1 i1) l5.length) <|
 (zIY (at_ l5 (at_ x3.1 i1)) a_p2).bind fun x5 =>
 cnd (decide (x5.2.2 = 0)) (
 some ((⟨d7, d8, d9, l5.set (at_ x3.1 i1).toNat x5.1, l6⟩ : zL), x5.2.1, 0)) (
 zCX self0 i1 d7 d8 d9 l5 l6)
def zDn (self0 : Int → (List Int) → Int → Int → (List zm) → (List zK) → Option (zL × Int × Int)) (a_p2 : Int) (x3 : (List Int) × Int) (i1 : Int) (l2 : List zK) (self1 : Int → (List Int) → Int → Int → (List zm) → (List zK) → Option (zL × Int × Int)) (i2 : Int) (d10 : List Int) (d11 : Int) (d12 : Int) (l7 : List zm) (l8 : List zK) : Option (zL × Int × Int) :=
 cnd (decide (i2 < (l2.length : Int))) (
 (zEQ (⟨d10, d11, d12, l7, l8⟩ : zL) i2 (at_ x3.1 i1)).bind fun x6 =>
 chk (inI (i2 + 1)) <|
 self1 (i2 + 1) x6.nodes x6.batch x6.high x6.zones x6.caches) (
 zDw self0 a_p2 x3 i1 d10 d11 d12 l7 l8)
def zCV (self0 : Int → (List Int) → Int → Int → (List zm) → (List zK) → Option (zL × Int × Int)) (a_p2 : Int) (x3 : (List Int) × Int) (i1 : Int) (l2 : List zK) : Nat → Int → (List Int) → Int → Int → (List zm) → (List zK) → Option (zL × Int × Int)
  | 0, _, _, _, _, _, _ => none
  | n + 1, i2, d10, d11, d12, l7, l8 => zDn self0 a_p2 x3 i1 l2 (zCV self0 a_p2 x3 i1 l2 n) i2 d10 d11 d12 l7 l8
def zDv (a_p2 : Int) (x3 : (List Int) × Int) (self0 : Int → (List Int) → Int → Int → (List zm) → (List zK) → Option (zL × Int × Int)) (i1 : Int) (d1 : List Int) (d2 : Int) (d3 : Int) (l1 : List zm) (l2 : List zK) : Option (zL × Int × Int) :=
 cnd (decide (i1 < (x3.1.length : Int))) (
 chk (inb i1 x3.1.length) <|
 (zD7 (⟨d1, d2, d3, l1, l2⟩ : zL) (at_ x3.1 i1)).bind fun x4 =>
 chk (zMt a_p2) <|
 chk (inI ((1 : Int) * 2 ^ a_p2.toNat)) <|
 cnd (decide (x4 < ((1 : Int) * 2 ^ a_p2.toNat))) (
 zCX self0 i1 d1 d2 d3 l1 l2) (
 zCV self0 a_p2 x3 i1 l2 zAC 0 d1 d2 d3 l1 l2)) (
 zDt )
def zAf (a_p2 : Int) (x3 : (List Int) × Int) : Nat → Int → (List Int) → Int → Int → (List zm) → (List zK) → Option (zL × Int × Int)
  | 0, _, _, _, _, _, _ => none
  | n + 1, i1, d1, d2, d3, l1, l2 => zDv a_p2 x3 (zAf a_p2 x3 n) i1 d1 d2 d3 l1 l2
def zE1 (a_p0 : zL) (a_p1 : Int) (a_p2 : Int) : Option (zL × Int × Int) :=
 (zAk a_p0).bind fun x1 =>
 cnd (!decide (x1 = 0)) (
 some ((⟨([] : List Int), 0, 0, ([] : List zm), ([] : List zK)⟩ : zL), 0, x1)) (
 cnd ((((decide (a_p1 < 0)) || (decide ((a_p0.nodes.length : Int) ≤ a_p1))) || (decide (a_p2 < 0))) || (decide (4 < a_p2))) (
 some ((⟨([] : List Int), 0, 0, ([] : List zm), ([] : List zK)⟩ : zL), 0, 2)) (
 (zDZ a_p0).bind fun x2 =>
 chk (inb a_p1 a_p0.nodes.length) <|
 (zGf a_p0.zones (at_ a_p0.nodes a_p1) false).bind fun x3 =>
 zAf a_p2 x3 zAC 0 x2.nodes x2.batch x2.high x2.zones x2.caches))
def zF0 (d1 : List Int) (d2 : Int) (d3 : Int) (l1 : List zm) (l2 : List zK) : Option zL :=
 some (⟨d1, d2, d3, l1, l2⟩ : zL)
def zFb (self0 : Int → (List Int) → Int → Int → (List zm) → (List zK) → Option zL) (i1 : Int) (d7 : List Int) (d8 : Int) (d9 : Int) (l5 : List zm) (l6 : List zK) : Option zL :=
 chk (inI (i1 + 1)) <|
 self0 (i1 + 1) d7 d8 d9 l5 l6
def zFe (self0 : Int → (List Int) → Int → Int → (List zm) → (List zK) → Option zL) (i1 : Int) (l3 : List zm) (self1 : Int → (List Int) → Int → Int → (List zm) → (List zK) → Option zL) (i2 : Int) (d10 : List Int) (d11 : Int) (d12 : Int) (l7 : List zm) (l8 : List zK) : Option zL :=
 cnd (decide (i2 < (l3.length : Int))) (
 (zEQ (⟨d10, d11, d12, l7, l8⟩ : zL) i1 i2).bind fun x3 =>
 chk (inI (i2 + 1)) <|
 self1 (i2 + 1) x3.nodes x3.batch x3.high x3.zones x3.caches) (
 zFb self0 i1 d10 d11 d12 l7 l8)
def zEH (self0 : Int → (List Int) → Int → Int → (List zm) → (List zK) → Option zL) (i1 : Int) (l3 : List zm) : Nat → Int → (List Int) → Int → Int → (List zm) → (List zK) → Option zL
  | 0, _, _, _, _, _, _ => none
  | n + 1, i2, d10, d11, d12, l7, l8 => zFe self0 i1 l3 (zEH self0 i1 l3 n) i2 d10 d11 d12 l7 l8
def zF6 (x2 : zL) (self0 : Int → (List Int) → Int → Int → (List zm) → (List zK) → Option zL) (i1 : Int) (d4 : List Int) (d5 : Int) (d6 : Int) (l3 : List zm) (l4 : List zK) : Option zL :=
 cnd (decide (i1 < (x2.caches.length : Int))) (
 zEH self0 i1 l3 zAC 0 d4 d5 d6 l3 l4) (
 zF0 d4 d5 d6 l3 l4)
def zBQ (x2 : zL) : Nat → Int → (List Int) → Int → Int → (List zm) → (List zK) → Option zL
  | 0, _, _, _, _, _, _ => none
  | n + 1, i1, d4, d5, d6, l3, l4 => zF6 x2 (zBQ x2 n) i1 d4 d5 d6 l3 l4
def zHT (a_a : zL) : Option zL :=
 (zAk a_a).bind fun x1 =>
 cnd (!decide (x1 = 0)) (
 some (⟨([] : List Int), 0, 0, ([] : List zm), ([] : List zK)⟩ : zL)) (
 (zDZ a_a).bind fun x2 =>
 zBQ x2 zAC 0 x2.nodes x2.batch x2.high x2.zones x2.caches)
def zGJ  : Option Bool :=
 some true
def zGL (a_a : List Int) (a_b : List Int) (self0 : Int → Option Bool) (i1 : Int) : Option Bool :=
 cnd (decide (i1 < (a_a.length : Int))) (
 chk (inb i1 a_a.length) <|
 chk (inb i1 a_b.length) <|
 cnd (!decide ((at_ a_a i1) = (at_ a_b i1))) (
 some false) (
 chk (inI (i1 + 1)) <|
 self0 (i1 + 1))) (
 zGJ )
def zEv (a_a : List Int) (a_b : List Int) : Nat → Int → Option Bool
  | 0, _ => none
  | n + 1, i1 => zGL a_a a_b (zEv a_a a_b n) i1
def zGZ (a_a : List Int) (a_b : List Int) : Option Bool :=
 cnd (!decide ((a_a.length : Int) = (a_b.length : Int))) (
 some false) (
 zEv a_a a_b zAC 0)
def zGK  : Option Bool :=
 some true
def zGE (a_a : List Int) (a_b : List Int) (self0 : Int → Option Bool) (i1 : Int) : Option Bool :=
 cnd (decide (i1 < (a_a.length : Int))) (
 chk (inb i1 a_a.length) <|
 chk (inb i1 a_b.length) <|
 cnd (!decide ((at_ a_a i1) = (at_ a_b i1))) (
 some false) (
 chk (inI (i1 + 1)) <|
 self0 (i1 + 1))) (
 zGK )
def zEs (a_a : List Int) (a_b : List Int) : Nat → Int → Option Bool
  | 0, _ => none
  | n + 1, i1 => zGE a_a a_b (zEs a_a a_b n) i1
def zHq (a_a : List Int) (a_b : List Int) : Option Bool :=
 cnd (!decide ((a_a.length : Int) = (a_b.length : Int))) (
 some false) (
 zEs a_a a_b zAC 0)
def zIf  : Option Bool :=
 some true
def zIP (a_a : zm) (a_b : zm) (self0 : Int → Option Bool) (i1 : Int) : Option Bool :=
 cnd (decide (i1 ≤ 4)) (
 chk (inb i1 5) <|
 (zHq (a_a.free.getD i1.toNat ([] : List Int)) (a_b.free.getD i1.toNat ([] : List Int))).bind fun x1 =>
 cnd (!x1) (
 some false) (
 chk (inI (i1 + 1)) <|
 self0 (i1 + 1))) (
 zIf )
def zHE (a_a : zm) (a_b : zm) : Nat → Int → Option Bool
  | 0, _ => none
  | n + 1, i1 => zIP a_a a_b (zHE a_a a_b n) i1
def zKb (a_a : zm) (a_b : zm) : Option Bool :=
 cnd (((((!decide (a_a.node = a_b.node)) || (!decide (a_a.kind = a_b.kind))) || (!decide (a_a.start = a_b.start))) || (!decide (a_a.count = a_b.count))) || (!decide (a_a.min = a_b.min))) (
 some false) (
 zHE a_a a_b zAC 0)
def zIg  : Option Bool :=
 some true
def zIV (a_a : zK) (a_b : zK) (self0 : Int → Option Bool) (i1 : Int) : Option Bool :=
 cnd (decide (i1 < (a_a.lists.length : Int))) (
 chk (inb i1 a_a.lists.length) <|
 chk (inb i1 a_b.lists.length) <|
 (zGZ (at_ a_a.lists i1) (at_ a_b.lists i1)).bind fun x1 =>
 cnd (!x1) (
 some false) (
 chk (inI (i1 + 1)) <|
 self0 (i1 + 1))) (
 zIg )
def zHJ (a_a : zK) (a_b : zK) : Nat → Int → Option Bool
  | 0, _ => none
  | n + 1, i1 => zIV a_a a_b (zHJ a_a a_b n) i1
def zKQ (a_a : zK) (a_b : zK) : Option Bool :=
 cnd (!decide ((a_a.lists.length : Int) = (a_b.lists.length : Int))) (
 some false) (
 zHJ a_a a_b zAC 0)
def zIW  : Option Bool :=
 some true
def zIe (a_p0 : zL) (a_p1 : zL) (self0 : Int → Option Bool) (i1 : Int) : Option Bool :=
 cnd (decide (i1 < (a_p0.caches.length : Int))) (
 chk (inb i1 a_p0.caches.length) <|
 chk (inb i1 a_p1.caches.length) <|
 (zKQ (at_ a_p0.caches i1) (at_ a_p1.caches i1)).bind fun x2 =>
 cnd (!x2) (
 some false) (
 chk (inI (i1 + 1)) <|
 self0 (i1 + 1))) (
 zIW )
def zHG (a_p0 : zL) (a_p1 : zL) : Nat → Int → Option Bool
  | 0, _ => none
  | n + 1, i1 => zIe a_p0 a_p1 (zHG a_p0 a_p1 n) i1
def zIZ (a_p0 : zL) (a_p1 : zL) : Option Bool :=
 zHG a_p0 a_p1 zAC 0
def zIi (a_p0 : zL) (a_p1 : zL) (self1 : Int → Option Bool) (i2 : Int) : Option Bool :=
 cnd (decide (i2 < (a_p0.zones.length : Int))) (
 chk (inb i2 a_p0.zones.length) <|
 chk (inb i2 a_p1.zones.length) <|
 (zKb (at_ a_p0.zones i2) (at_ a_p1.zones i2)).bind fun x3 =>
 cnd (!x3) (
 some false) (
 chk (inI (i2 + 1)) <|
 self1 (i2 + 1))) (
 zIZ a_p0 a_p1)
def zHI (a_p0 : zL) (a_p1 : zL) : Nat → Int → Option Bool
  | 0, _ => none
  | n + 1, i2 => zIi a_p0 a_p1 (zHI a_p0 a_p1 n) i2
def zKM (a_p0 : zL) (a_p1 : zL) : Option Bool :=
 (zGZ a_p0.nodes a_p1.nodes).bind fun x1 =>
 cnd (((((!x1) || (!decide (a_p0.batch = a_p1.batch))) || (!decide (a_p0.high = a_p1.high))) || (!decide ((a_p0.zones.length : Int) = (a_p1.zones.length : Int)))) || (!decide ((a_p0.caches.length : Int) = (a_p1.caches.length : Int)))) (
 some false) (
 zHI a_p0 a_p1 zAC 0)
def zHM  : Option Bool :=
 (zFd [0, 1] 2 3 [(⟨0, 0, 8, 2⟩ : zBo), (⟨1, 1, 8, 0⟩ : zBo)]).bind fun x1 =>
 (zFd [0, 1] 2 3 [(⟨0, 0, 8, 2⟩ : zBo), (⟨1, 1, 8, 0⟩ : zBo)]).bind fun x2 =>
 (zFd [0, 1] 2 3 [(⟨0, 0, 8, 2⟩ : zBo), (⟨1, 1, 8, 0⟩ : zBo)]).bind fun x3 =>
 (cnd (!(((!decide (x3.2 = 0)) || (!decide ((x3.1.zones.length : Int) = 2))) || (!decide ((x3.1.caches.length : Int) = 2)))) (zAk x3.1) (some default)).bind fun x4 =>
 (cnd (!((((!decide (x3.2 = 0)) || (!decide ((x3.1.zones.length : Int) = 2))) || (!decide ((x3.1.caches.length : Int) = 2))) || (!decide (x4 = 0)))) (zCt x3.1) (some default)).bind fun x5 =>
 cnd (((((!decide (x3.2 = 0)) || (!decide ((x3.1.zones.length : Int) = 2))) || (!decide ((x3.1.caches.length : Int) = 2))) || (!decide (x4 = 0))) || (!decide (x5 = 16))) (
 some false) (
 (zCM x3.1).bind fun x6 =>
 (zHX x3.1 0 true false).bind fun x7 =>
 (cnd (!((((!decide (x6.1 = 6)) || (!decide (x6.2 = 14))) || (!decide (x7.2.2 = 0))) || (!decide (x7.2.1 = 0)))) (zCQ x7.1 0) (some default)).bind fun x8 =>
 (cnd (!(((((!decide (x6.1 = 6)) || (!decide (x6.2 = 14))) || (!decide (x7.2.2 = 0))) || (!decide (x7.2.1 = 0))) || x8)) (zCQ x7.1 1) (some default)).bind fun x9 =>
 (cnd (!((((((!decide (x6.1 = 6)) || (!decide (x6.2 = 14))) || (!decide (x7.2.2 = 0))) || (!decide (x7.2.1 = 0))) || x8) || (!x9))) (zDc x7.1 0) (some default)).bind fun x10 =>
 (cnd (!(((((((!decide (x6.1 = 6)) || (!decide (x6.2 = 14))) || (!decide (x7.2.2 = 0))) || (!decide (x7.2.1 = 0))) || x8) || (!x9)) || (!decide (x10 = 7)))) (zD8 x7.1 8) (some default)).bind fun x11 =>
 cnd ((((((((!decide (x6.1 = 6)) || (!decide (x6.2 = 14))) || (!decide (x7.2.2 = 0))) || (!decide (x7.2.1 = 0))) || x8) || (!x9)) || (!decide (x10 = 7))) || (!decide (x11 = 1))) (
 some false) (
 (zH1 x7.1 1 0).bind fun x12 =>
 cnd (!decide (x12.2 = 0)) (
 some false) (
 (zE1 x3.1 1 3).bind fun x13 =>
 (cnd ((decide (x13.2.2 = 0)) && (decide (x13.2.1 = 8))) (zHT x12.1) (some default)).bind fun x14 =>
 (cnd ((decide (x13.2.2 = 0)) && (decide (x13.2.1 = 8))) (zKM x14 x3.1) (some default)).bind fun x15 =>
 some (((decide (x13.2.2 = 0)) && (decide (x13.2.1 = 8))) && x15))))
def zI2  : Option Bool :=
 some true
def zEc (a_z : zm) (self0 : Int → Option Bool) (i1 : Int) : Option Bool :=
 cnd (decide (i1 ≤ 4)) (
 chk (inb i1 5) <|
 cnd (decide (300 < ((a_z.free.getD i1.toNat ([] : List Int)).length : Int))) (
 some false) (
 chk (inI (i1 + 1)) <|
 self0 (i1 + 1))) (
 zI2 )
def zEY (a_z : zm) : Nat → Int → Option Bool
  | 0, _ => none
  | n + 1, i1 => zEc a_z (zEY a_z n) i1
def zKF (a_z : zm) : Option Bool :=
 zEY a_z zAC 0
def zJI  : Option Bool :=
 some true
def zEW (a_c : zK) (self0 : Int → Option Bool) (i1 : Int) : Option Bool :=
 cnd (decide (i1 < (a_c.lists.length : Int))) (
 chk (inb i1 a_c.lists.length) <|
 cnd (decide (300 < ((at_ a_c.lists i1).length : Int))) (
 some false) (
 chk (inI (i1 + 1)) <|
 self0 (i1 + 1))) (
 zJI )
def zEf (a_c : zK) : Nat → Int → Option Bool
  | 0, _ => none
  | n + 1, i1 => zEW a_c (zEf a_c n) i1
def zI9 (a_c : zK) : Option Bool :=
 cnd (decide (20 < (a_c.lists.length : Int))) (
 some false) (
 zEf a_c zAC 0)
def zI7  : Option Bool :=
 some true
def zEg (a_a : zL) (self0 : Int → Option Bool) (i1 : Int) : Option Bool :=
 cnd (decide (i1 < (a_a.caches.length : Int))) (
 chk (inb i1 a_a.caches.length) <|
 (zI9 (at_ a_a.caches i1)).bind fun x1 =>
 cnd (!x1) (
 some false) (
 chk (inI (i1 + 1)) <|
 self0 (i1 + 1))) (
 zI7 )
def zEV (a_a : zL) : Nat → Int → Option Bool
  | 0, _ => none
  | n + 1, i1 => zEg a_a (zEV a_a n) i1
def zJK (a_a : zL) : Option Bool :=
 zEV a_a zAC 0
def zEa (a_a : zL) (self1 : Int → Option Bool) (i2 : Int) : Option Bool :=
 cnd (decide (i2 < (a_a.zones.length : Int))) (
 chk (inb i2 a_a.zones.length) <|
 (zKF (at_ a_a.zones i2)).bind fun x2 =>
 cnd (!x2) (
 some false) (
 chk (inI (i2 + 1)) <|
 self1 (i2 + 1))) (
 zJK a_a)
def zEi (a_a : zL) : Nat → Int → Option Bool
  | 0, _ => none
  | n + 1, i2 => zEa a_a (zEi a_a n) i2
def zJD (a_a : zL) : Option Bool :=
 cnd (((decide (20 < (a_a.nodes.length : Int))) || (decide (20 < (a_a.zones.length : Int)))) || (decide (20 < (a_a.caches.length : Int)))) (
 some false) (
 zEi a_a zAC 0)
def zG8  : Option Bool :=
 some true
def zCO (a_nodes : List Int) (self0 : Int → Option Bool) (i1 : Int) : Option Bool :=
 cnd (decide (i1 < (a_nodes.length : Int))) (
 chk (inb i1 a_nodes.length) <|
 cnd ((decide ((at_ a_nodes i1) < 0)) || (decide (4 ≤ (at_ a_nodes i1)))) (
 some false) (
 chk (inI (i1 + 1)) <|
 self0 (i1 + 1))) (
 zG8 )
def zDz (a_nodes : List Int) : Nat → Int → Option Bool
  | 0, _ => none
  | n + 1, i1 => zCO a_nodes (zDz a_nodes n) i1
def zFc (a_nodes : List Int) (a_batch : Int) (a_high : Int) (a_zones : Int) : Option Bool :=
 cnd (((((((decide ((a_nodes.length : Int) < 1)) || (decide (4 < (a_nodes.length : Int)))) || (decide (a_batch < 1))) || (decide (a_high < a_batch))) || (decide (64 < a_high))) || (decide (a_zones < 1))) || (decide (6 < a_zones))) (
 some false) (
 zDz a_nodes zAC 0)
def zF7 (a_z : zm) : Option Bool :=
 cnd (((decide (a_z.node < 0)) || (decide (4 ≤ a_z.node))) || ((!decide (a_z.kind = 0)) && (!decide (a_z.kind = 1)))) (
 some false) (
 chk (!(((decide (0 ≤ a_z.start)) && (decide (1 ≤ a_z.count))) && (decide (a_z.count ≤ 256))) || inI (256 - a_z.count)) <|
 some ((((((decide (0 ≤ a_z.start)) && (decide (1 ≤ a_z.count))) && (decide (a_z.count ≤ 256))) && (decide (a_z.start ≤ (256 - a_z.count)))) && (decide (0 ≤ a_z.min))) && (decide (a_z.min ≤ a_z.count))))
def zCp (a_z : zm) (a_frame : Int) (a_order : Int) : Option Bool :=
 chk (!(!(((decide (a_order < 0)) || (decide (4 < a_order))) || (decide (a_frame < a_z.start)))) || inI (a_z.start + a_z.count)) <|
 cnd ((((decide (a_order < 0)) || (decide (4 < a_order))) || (decide (a_frame < a_z.start))) || (decide ((a_z.start + a_z.count) ≤ a_frame))) (
 some false) (
 chk (decide (IntKind.u64.wrap a_order = a_order)) <|
 chk (zMt a_order) <|
 chk (inI ((1 : Int) * 2 ^ a_order.toNat)) <|
 chk (!decide (((1 : Int) * 2 ^ a_order.toNat) = 0)) <|
 chk (!(decide ((a_frame.tmod ((1 : Int) * 2 ^ a_order.toNat)) = 0)) || inI (a_frame + ((1 : Int) * 2 ^ a_order.toNat))) <|
 chk (!(decide ((a_frame.tmod ((1 : Int) * 2 ^ a_order.toNat)) = 0)) || inI (a_z.start + a_z.count)) <|
 some ((decide ((a_frame.tmod ((1 : Int) * 2 ^ a_order.toNat)) = 0)) && (decide ((a_frame + ((1 : Int) * 2 ^ a_order.toNat)) ≤ (a_z.start + a_z.count)))))
def zGA  : Option Int :=
 some 0
def zEM (self0 : Int → Option Int) (i1 : Int) : Option Int :=
 chk (inI (i1 + 1)) <|
 self0 (i1 + 1)
def zBz (self0 : Int → Option Int) (a_z : zm) (i1 : Int) (self1 : Int → Option Int) (i2 : Int) : Option Int :=
 chk (inb i1 5) <|
 cnd (decide (i2 < ((a_z.free.getD i1.toNat ([] : List Int)).length : Int))) (
 chk (inb i2 (a_z.free.getD i1.toNat ([] : List Int)).length) <|
 (zCp a_z (at_ (a_z.free.getD i1.toNat ([] : List Int)) i2) i1).bind fun x1 =>
 cnd (!x1) (
 some 3) (
 chk (!(decide (0 < i2)) || inI (i2 - 1)) <|
 chk (!(decide (0 < i2)) || inb (i2 - 1) (a_z.free.getD i1.toNat ([] : List Int)).length) <|
 cnd ((decide (0 < i2)) && (decide ((at_ (a_z.free.getD i1.toNat ([] : List Int)) i2) ≤ (at_ (a_z.free.getD i1.toNat ([] : List Int)) (i2 - 1))))) (
 some 10) (
 chk (inI (i2 + 1)) <|
 self1 (i2 + 1)))) (
 zEM self0 i1)
def zC3 (self0 : Int → Option Int) (a_z : zm) (i1 : Int) : Nat → Int → Option Int
  | 0, _ => none
  | n + 1, i2 => zBz self0 a_z i1 (zC3 self0 a_z i1 n) i2
def zBx (a_z : zm) (self0 : Int → Option Int) (i1 : Int) : Option Int :=
 cnd (decide (i1 ≤ 4)) (
 zC3 self0 a_z i1 zAC 0) (
 zGA )
def zBC (a_z : zm) : Nat → Int → Option Int
  | 0, _ => none
  | n + 1, i1 => zBx a_z (zBC a_z n) i1
def zFy (a_z : zm) : Option Int :=
 zBC a_z zAC 0
def zJB (l1 : List Int) : Option (List Int) :=
 some l1
def zHl (self0 : Int → (List Int) → Option (List Int)) (i1 : Int) (l3 : List Int) : Option (List Int) :=
 chk (inI (i1 + 1)) <|
 self0 (i1 + 1) l3
def zHg (self1 : Int → (List Int) → Option (List Int)) (i2 : Int) (l5 : List Int) : Option (List Int) :=
 chk (inI (i2 + 1)) <|
 self1 (i2 + 1) l5
def zEd (self1 : Int → (List Int) → Option (List Int)) (a_z : zm) (i1 : Int) (i2 : Int) (self2 : Int → (List Int) → Option (List Int)) (i3 : Int) (l6 : List Int) : Option (List Int) :=
 chk (inb i1 5) <|
 chk (inb i2 (a_z.free.getD i1.toNat ([] : List Int)).length) <|
 chk (decide (IntKind.u64.wrap i1 = i1)) <|
 chk (zMt i1) <|
 chk (inI ((1 : Int) * 2 ^ i1.toNat)) <|
 chk (inI ((at_ (a_z.free.getD i1.toNat ([] : List Int)) i2) + ((1 : Int) * 2 ^ i1.toNat))) <|
 cnd (decide (i3 < ((at_ (a_z.free.getD i1.toNat ([] : List Int)) i2) + ((1 : Int) * 2 ^ i1.toNat)))) (
 chk (inb i3 l6.length) <|
 chk (inI ((at_ l6 i3) + 1)) <|
 chk (inI (i3 + 1)) <|
 self2 (i3 + 1) (l6.set i3.toNat ((at_ l6 i3) + 1))) (
 zHg self1 i2 l6)
def zGo (self1 : Int → (List Int) → Option (List Int)) (a_z : zm) (i1 : Int) (i2 : Int) : Nat → Int → (List Int) → Option (List Int)
  | 0, _, _ => none
  | n + 1, i3, l6 => zEd self1 a_z i1 i2 (zGo self1 a_z i1 i2 n) i3 l6
def zEh (self0 : Int → (List Int) → Option (List Int)) (a_z : zm) (i1 : Int) (self1 : Int → (List Int) → Option (List Int)) (i2 : Int) (l4 : List Int) : Option (List Int) :=
 chk (inb i1 5) <|
 cnd (decide (i2 < ((a_z.free.getD i1.toNat ([] : List Int)).length : Int))) (
 chk (inb i2 (a_z.free.getD i1.toNat ([] : List Int)).length) <|
 zGo self1 a_z i1 i2 zAC (at_ (a_z.free.getD i1.toNat ([] : List Int)) i2) l4) (
 zHl self0 i1 l4)
def zCa (self0 : Int → (List Int) → Option (List Int)) (a_z : zm) (i1 : Int) : Nat → Int → (List Int) → Option (List Int)
  | 0, _, _ => none
  | n + 1, i2, l4 => zEh self0 a_z i1 (zCa self0 a_z i1 n) i2 l4
def zEb (a_z : zm) (self0 : Int → (List Int) → Option (List Int)) (i1 : Int) (l2 : List Int) : Option (List Int) :=
 cnd (decide (i1 ≤ 4)) (
 zCa self0 a_z i1 zAC 0 l2) (
 zJB l2)
def zBR (a_z : zm) : Nat → Int → (List Int) → Option (List Int)
  | 0, _, _ => none
  | n + 1, i1, l2 => zEb a_z (zBR a_z n) i1 l2
def zIM (a_z : zm) : Option (List Int) :=
 chk (decide (0 ≤ (256 : Int)) && decide ((256 : Int) ≤ (256 : Int)) && decide ((256 : Int) * (8 : Int) ≤ 4294967296)) <|
 zBR a_z zAC 0 (List.replicate (256 : Int).toNat 0)
def zHt  : Option Int :=
 some 0
def zGl (self0 : Int → Option Int) (i1 : Int) : Option Int :=
 chk (inI (i1 + 1)) <|
 self0 (i1 + 1)
def zDO (self0 : Int → Option Int) (a_p0 : zm) (i1 : Int) (self1 : Int → Option Int) (i2 : Int) : Option Int :=
 chk (inb i1 5) <|
 cnd (decide (i2 < ((a_p0.free.getD i1.toNat ([] : List Int)).length : Int))) (
 chk (inb i2 (a_p0.free.getD i1.toNat ([] : List Int)).length) <|
 chk (inI (i2 - 1)) <|
 chk (inb (i2 - 1) (a_p0.free.getD i1.toNat ([] : List Int)).length) <|
 chk (decide (IntKind.u64.wrap i1 = i1)) <|
 chk (zMt i1) <|
 chk (inI ((1 : Int) * 2 ^ i1.toNat)) <|
 chk (inI ((at_ (a_p0.free.getD i1.toNat ([] : List Int)) (i2 - 1)) + ((1 : Int) * 2 ^ i1.toNat))) <|
 chk (!(decide ((at_ (a_p0.free.getD i1.toNat ([] : List Int)) i2) = ((at_ (a_p0.free.getD i1.toNat ([] : List Int)) (i2 - 1)) + ((1 : Int) * 2 ^ i1.toNat)))) || inI (i1 + 1)) <|
 (cnd (decide ((at_ (a_p0.free.getD i1.toNat ([] : List Int)) i2) = ((at_ (a_p0.free.getD i1.toNat ([] : List Int)) (i2 - 1)) + ((1 : Int) * 2 ^ i1.toNat)))) (zCp a_p0 (at_ (a_p0.free.getD i1.toNat ([] : List Int)) (i2 - 1)) (i1 + 1)) (some default)).bind fun x4 =>
 cnd ((decide ((at_ (a_p0.free.getD i1.toNat ([] : List Int)) i2) = ((at_ (a_p0.free.getD i1.toNat ([] : List Int)) (i2 - 1)) + ((1 : Int) * 2 ^ i1.toNat)))) && x4) (
 some 11) (
 chk (inI (i2 + 1)) <|
 self1 (i2 + 1))) (
 zGl self0 i1)
def zBl (self0 : Int → Option Int) (a_p0 : zm) (i1 : Int) : Nat → Int → Option Int
  | 0, _ => none
  | n + 1, i2 => zDO self0 a_p0 i1 (zBl self0 a_p0 i1 n) i2
def zDG (a_p0 : zm) (self0 : Int → Option Int) (i1 : Int) : Option Int :=
 cnd (decide (i1 < 4)) (
 zBl self0 a_p0 i1 zAC 1) (
 zHt )
def zBj (a_p0 : zm) : Nat → Int → Option Int
  | 0, _ => none
  | n + 1, i1 => zDG a_p0 (zBj a_p0 n) i1
def zD4 (a_p0 : zm) : Option Int :=
 zBj a_p0 zAC 0
def zDC (a_p0 : zm) (x3 : List Int) (self2 : Int → Option Int) (i3 : Int) : Option Int :=
 cnd (decide (i3 < (x3.length : Int))) (
 chk (inb i3 x3.length) <|
 cnd (decide (1 < (at_ x3 i3))) (
 some 7) (
 chk (inI (i3 + 1)) <|
 self2 (i3 + 1))) (
 zD4 a_p0)
def zBi (a_p0 : zm) (x3 : List Int) : Nat → Int → Option Int
  | 0, _ => none
  | n + 1, i3 => zDC a_p0 x3 (zBi a_p0 x3 n) i3
def zGQ (a_p0 : zm) : Option Int :=
 (zF7 a_p0).bind fun x1 =>
 cnd (!x1) (
 some 2) (
 (zFy a_p0).bind fun x2 =>
 cnd (!decide (x2 = 0)) (
 some x2) (
 (zIM a_p0).bind fun x3 =>
 zBi a_p0 x3 zAC 0))
def zFf (a_f : Int) : Option Bool :=
 some ((decide (a_f < 0)) || (decide (256 ≤ a_f)))
def zH3  : Option Int :=
 some 0
def zGc (self0 : Int → (List Bool) → Option Int) (i1 : Int) (l2 : List Bool) : Option Int :=
 chk (inI (i1 + 1)) <|
 self0 (i1 + 1) l2
def zC7 (self0 : Int → (List Bool) → Option Int) (a_p0 : zK) (i1 : Int) (self1 : Int → (List Bool) → Option Int) (i2 : Int) (l3 : List Bool) : Option Int :=
 cnd (decide (i2 < ((at_ a_p0.lists i1).length : Int))) (
 chk (inb i2 (at_ a_p0.lists i1).length) <|
 chk (inb (at_ (at_ a_p0.lists i1) i2) l3.length) <|
 cnd (at_ l3 (at_ (at_ a_p0.lists i1) i2)) (
 some 7) (
 chk (inI (i2 + 1)) <|
 self1 (i2 + 1) (l3.set (at_ (at_ a_p0.lists i1) i2).toNat true))) (
 zGc self0 i1 l3)
def zE9 (self0 : Int → (List Bool) → Option Int) (a_p0 : zK) (i1 : Int) : Nat → Int → (List Bool) → Option Int
  | 0, _, _ => none
  | n + 1, i2, l3 => zC7 self0 a_p0 i1 (zE9 self0 a_p0 i1 n) i2 l3
def zDK (a_p0 : zK) (self0 : Int → (List Bool) → Option Int) (i1 : Int) (l1 : List Bool) : Option Int :=
 cnd (decide (i1 < (a_p0.lists.length : Int))) (
 chk (inb i1 a_p0.lists.length) <|
 zE9 self0 a_p0 i1 zAC 0 l1) (
 zH3 )
def zCB (a_p0 : zK) : Nat → Int → (List Bool) → Option Int
  | 0, _, _ => none
  | n + 1, i1, l1 => zDK a_p0 (zCB a_p0 n) i1 l1
def zE5 (a_p0 : zK) : Option Int :=
 chk (decide (0 ≤ (256 : Int)) && decide ((256 : Int) ≤ (256 : Int)) && decide ((256 : Int) * (1 : Int) ≤ 4294967296)) <|
 zCB a_p0 zAC 0 (List.replicate (256 : Int).toNat false)
def zGh (self2 : Int → Option Int) (i3 : Int) : Option Int :=
 chk (inI (i3 + 1)) <|
 self2 (i3 + 1)
def zDH (self2 : Int → Option Int) (a_p0 : zK) (i3 : Int) (self3 : Int → Option Int) (i4 : Int) : Option Int :=
 cnd (decide (i4 < ((at_ a_p0.lists i3).length : Int))) (
 chk (inb i4 (at_ a_p0.lists i3).length) <|
 (zFf (at_ (at_ a_p0.lists i3) i4)).bind fun x1 =>
 cnd (x1) (
 some 2) (
 chk (inI (i4 + 1)) <|
 self3 (i4 + 1))) (
 zGh self2 i3)
def zFD (self2 : Int → Option Int) (a_p0 : zK) (i3 : Int) : Nat → Int → Option Int
  | 0, _ => none
  | n + 1, i4 => zDH self2 a_p0 i3 (zFD self2 a_p0 i3 n) i4
def zDQ (a_p0 : zK) (self2 : Int → Option Int) (i3 : Int) : Option Int :=
 cnd (decide (i3 < (a_p0.lists.length : Int))) (
 chk (inb i3 a_p0.lists.length) <|
 zFD self2 a_p0 i3 zAC 0) (
 zE5 a_p0)
def zCF (a_p0 : zK) : Nat → Int → Option Int
  | 0, _ => none
  | n + 1, i3 => zDQ a_p0 (zCF a_p0 n) i3
def zHZ (a_p0 : zK) (a_p1 : Int) : Option Int :=
 cnd ((decide (a_p1 < 1)) || (decide (6 < a_p1))) (
 some 1) (
 cnd (!decide ((a_p0.lists.length : Int) = a_p1)) (
 some 3) (
 zCF a_p0 zAC 0))
def zFX (a_z : zm) (a_frame : Int) : Option Bool :=
 (zGQ a_z).bind fun x1 =>
 (cnd (decide (x1 = 0)) (zCp a_z a_frame 0) (some default)).bind fun x2 =>
 (cnd ((decide (x1 = 0)) && x2) (zIM a_z) (some default)).bind fun x3 =>
 chk (!((decide (x1 = 0)) && x2) || inb a_frame x3.length) <|
 some (((decide (x1 = 0)) && x2) && (decide (0 < (at_ x3 a_frame))))
def zE0  : Option Int :=
 some 0
def zDW (self0 : Int → (List Bool) → Option Int) (i1 : Int) (l2 : List Bool) : Option Int :=
 chk (inI (i1 + 1)) <|
 self0 (i1 + 1) l2
def zDU (self1 : Int → (List Bool) → Option Int) (i2 : Int) (l4 : List Bool) : Option Int :=
 chk (inI (i2 + 1)) <|
 self1 (i2 + 1) l4
def zBP (self1 : Int → (List Bool) → Option Int) (a_p0 : zL) (i1 : Int) (i2 : Int) (self2 : Int → (List Bool) → Option Int) (i3 : Int) (l5 : List Bool) : Option Int :=
 cnd (decide (i3 < ((at_ ((at_ a_p0.caches i1).lists) i2).length : Int))) (
 chk (inb i3 (at_ ((at_ a_p0.caches i1).lists) i2).length) <|
 chk (inb i2 a_p0.zones.length) <|
 chk (!(!(decide ((at_ (at_ ((at_ a_p0.caches i1).lists) i2) i3) < ((at_ a_p0.zones i2).start)))) || inI (((at_ a_p0.zones i2).start) + ((at_ a_p0.zones i2).count))) <|
 cnd ((decide ((at_ (at_ ((at_ a_p0.caches i1).lists) i2) i3) < ((at_ a_p0.zones i2).start))) || (decide ((((at_ a_p0.zones i2).start) + ((at_ a_p0.zones i2).count)) ≤ (at_ (at_ ((at_ a_p0.caches i1).lists) i2) i3)))) (
 some 2) (
 chk (inb (at_ (at_ ((at_ a_p0.caches i1).lists) i2) i3) l5.length) <|
 (cnd (!(at_ l5 (at_ (at_ ((at_ a_p0.caches i1).lists) i2) i3))) (zFX (at_ a_p0.zones i2) (at_ (at_ ((at_ a_p0.caches i1).lists) i2) i3)) (some default)).bind fun x1 =>
 cnd ((at_ l5 (at_ (at_ ((at_ a_p0.caches i1).lists) i2) i3)) || x1) (
 some 7) (
 chk (inI (i3 + 1)) <|
 self2 (i3 + 1) (l5.set (at_ (at_ ((at_ a_p0.caches i1).lists) i2) i3).toNat true)))) (
 zDU self1 i2 l5)
def zB2 (self1 : Int → (List Bool) → Option Int) (a_p0 : zL) (i1 : Int) (i2 : Int) : Nat → Int → (List Bool) → Option Int
  | 0, _, _ => none
  | n + 1, i3, l5 => zBP self1 a_p0 i1 i2 (zB2 self1 a_p0 i1 i2 n) i3 l5
def zBM (self0 : Int → (List Bool) → Option Int) (a_p0 : zL) (i1 : Int) (self1 : Int → (List Bool) → Option Int) (i2 : Int) (l3 : List Bool) : Option Int :=
 cnd (decide (i2 < (a_p0.zones.length : Int))) (
 chk (inb i1 a_p0.caches.length) <|
 chk (inb i2 ((at_ a_p0.caches i1).lists).length) <|
 zB2 self1 a_p0 i1 i2 zAC 0 l3) (
 zDW self0 i1 l3)
def zAY (self0 : Int → (List Bool) → Option Int) (a_p0 : zL) (i1 : Int) : Nat → Int → (List Bool) → Option Int
  | 0, _, _ => none
  | n + 1, i2, l3 => zBM self0 a_p0 i1 (zAY self0 a_p0 i1 n) i2 l3
def zBL (a_p0 : zL) (self0 : Int → (List Bool) → Option Int) (i1 : Int) (l1 : List Bool) : Option Int :=
 cnd (decide (i1 < (a_p0.caches.length : Int))) (
 zAY self0 a_p0 i1 zAC 0 l1) (
 zE0 )
def zAJ (a_p0 : zL) : Nat → Int → (List Bool) → Option Int
  | 0, _, _ => none
  | n + 1, i1, l1 => zBL a_p0 (zAJ a_p0 n) i1 l1
def zEp (a_p0 : zL) : Option Int :=
 chk (decide (0 ≤ (256 : Int)) && decide ((256 : Int) ≤ (256 : Int)) && decide ((256 : Int) * (1 : Int) ≤ 4294967296)) <|
 zAJ a_p0 zAC 0 (List.replicate (256 : Int).toNat false)
def zCU (a_a : zL) : Option Int :=
 (zEp a_a).bind fun x1 =>
 some x1
def zDV (self0 : Int → Option Int) (i1 : Int) : Option Int :=
 chk (inI (i1 + 1)) <|
 self0 (i1 + 1)
def zBO (self0 : Int → Option Int) (a_a : zL) (i1 : Int) (self1 : Int → Option Int) (i2 : Int) : Option Int :=
 cnd (decide (i2 < (a_a.zones.length : Int))) (
 chk (inb i1 a_a.caches.length) <|
 chk (inb i2 ((at_ a_a.caches i1).lists).length) <|
 cnd (decide (a_a.high < ((at_ ((at_ a_a.caches i1).lists) i2).length : Int))) (
 some 9) (
 chk (inI (i2 + 1)) <|
 self1 (i2 + 1))) (
 zDV self0 i1)
def zCT (self0 : Int → Option Int) (a_a : zL) (i1 : Int) : Nat → Int → Option Int
  | 0, _ => none
  | n + 1, i2 => zBO self0 a_a i1 (zCT self0 a_a i1 n) i2
def zBN (a_a : zL) (self0 : Int → Option Int) (i1 : Int) : Option Int :=
 cnd (decide (i1 < (a_a.caches.length : Int))) (
 chk (inb i1 a_a.caches.length) <|
 (zHZ (at_ a_a.caches i1) (a_a.zones.length : Int)).bind fun x2 =>
 cnd (!decide (x2 = 0)) (
 some x2) (
 zCT self0 a_a i1 zAC 0)) (
 zCU a_a)
def zAv (a_a : zL) : Nat → Int → Option Int
  | 0, _ => none
  | n + 1, i1 => zBN a_a (zAv a_a n) i1
def zEt (a_a : zL) : Option Int :=
 cnd (!decide ((a_a.caches.length : Int) = (a_a.nodes.length : Int))) (
 some 3) (
 zAv a_a zAC 0)
def zFE (a_a : zL) : Option Int :=
 (zEt a_a).bind fun x2 =>
 some x2
def zDA (a_a : zL) (self0 : Int → Int → Option Int) (i1 : Int) (i2 : Int) : Option Int :=
 cnd (decide (i2 < (a_a.zones.length : Int))) (
 chk (inb i2 a_a.zones.length) <|
 (zGQ (at_ a_a.zones i2)).bind fun x3 =>
 cnd (!decide (x3 = 0)) (
 some x3) (
 cnd (!decide (((at_ a_a.zones i2).start) = i1)) (
 some 10) (
 chk (inI (i1 + ((at_ a_a.zones i2).count))) <|
 chk (inI (i2 + 1)) <|
 self0 (i1 + ((at_ a_a.zones i2).count)) (i2 + 1)))) (
 zFE a_a)
def zFF (a_a : zL) : Nat → Int → Int → Option Int
  | 0, _, _ => none
  | n + 1, i1, i2 => zDA a_a (zFF a_a n) i1 i2
def zDo (a_a : zL) : Option Int :=
 (zFc a_a.nodes a_a.batch a_a.high (a_a.zones.length : Int)).bind fun x1 =>
 cnd (!x1) (
 some 2) (
 zFF a_a zAC 0 0)
def zH2 (i2 : Int) : Option Int :=
 some i2
def zDM (a_a : zL) (a_zone : Int) (self0 : Int → Int → Option Int) (i3 : Int) (i4 : Int) : Option Int :=
 cnd (decide (i4 < (a_a.caches.length : Int))) (
 chk (inb i4 a_a.caches.length) <|
 chk (inb a_zone ((at_ a_a.caches i4).lists).length) <|
 chk (inI (i3 + ((at_ ((at_ a_a.caches i4).lists) a_zone).length : Int))) <|
 chk (inI (i4 + 1)) <|
 self0 (i3 + ((at_ ((at_ a_a.caches i4).lists) a_zone).length : Int)) (i4 + 1)) (
 zH2 i3)
def zFC (a_a : zL) (a_zone : Int) : Nat → Int → Int → Option Int
  | 0, _, _ => none
  | n + 1, i3, i4 => zDM a_a a_zone (zFC a_a a_zone n) i3 i4
def zGg (a_a : zL) (a_zone : Int) (i1 : Int) : Option Int :=
 zFC a_a a_zone zAC i1 0
def zC9 (a_a : zL) (a_zone : Int) (self1 : Int → Int → Option Int) (i5 : Int) (i6 : Int) : Option Int :=
 cnd (decide (i6 ≤ 4)) (
 chk (inb a_zone a_a.zones.length) <|
 chk (inb i6 5) <|
 chk (decide (IntKind.u64.wrap i6 = i6)) <|
 chk (zMt i6) <|
 chk (inI (((((at_ a_a.zones a_zone).free).getD i6.toNat ([] : List Int)).length : Int) * 2 ^ i6.toNat)) <|
 chk (inI (i5 + (((((at_ a_a.zones a_zone).free).getD i6.toNat ([] : List Int)).length : Int) * 2 ^ i6.toNat))) <|
 chk (inI (i6 + 1)) <|
 self1 (i5 + (((((at_ a_a.zones a_zone).free).getD i6.toNat ([] : List Int)).length : Int) * 2 ^ i6.toNat)) (i6 + 1)) (
 zGg a_a a_zone i5)
def zE4 (a_a : zL) (a_zone : Int) : Nat → Int → Int → Option Int
  | 0, _, _ => none
  | n + 1, i5, i6 => zC9 a_a a_zone (zE4 a_a a_zone n) i5 i6
def zGW (a_a : zL) (a_zone : Int) : Option Int :=
 zE4 a_a a_zone zAC 0 0
def zGR (i1 : Int) (i2 : Int) : Option (Int × Int) :=
 some (i1, i2)
def zDb (self0 : Int → Int → Int → Option (Int × Int)) (i5 : Int) (i6 : Int) (i7 : Int) : Option (Int × Int) :=
 chk (inI (i5 + 1)) <|
 self0 i6 i7 (i5 + 1)
def zB6 (a_a : zL) (self0 : Int → Int → Int → Option (Int × Int)) (i3 : Int) (i4 : Int) (i5 : Int) : Option (Int × Int) :=
 cnd (decide (i5 < (a_a.zones.length : Int))) (
 (zGW a_a i5).bind fun x2 =>
 chk (inb i5 a_a.zones.length) <|
 chk (inI (x2 - ((at_ a_a.zones i5).min))) <|
 chk (inI (i4 + (x2 - ((at_ a_a.zones i5).min)))) <|
 cnd (decide (((at_ a_a.zones i5).kind) = 0)) (
 chk (inI (i3 + (x2 - ((at_ a_a.zones i5).min)))) <|
 zDb self0 i5 (i3 + (x2 - ((at_ a_a.zones i5).min))) (i4 + (x2 - ((at_ a_a.zones i5).min)))) (
 zDb self0 i5 i3 (i4 + (x2 - ((at_ a_a.zones i5).min))))) (
 zGR i3 i4)
def zBK (a_a : zL) : Nat → Int → Int → Int → Option (Int × Int)
  | 0, _, _, _ => none
  | n + 1, i3, i4, i5 => zB6 a_a (zBK a_a n) i3 i4 i5
def zE7 (a_a : zL) : Option (Int × Int) :=
 (zDo a_a).bind fun x1 =>
 cnd (!decide (x1 = 0)) (
 some (0, 0)) (
 zBK a_a zAC 0 0 0)
def zHS (i1 : Int) : Option Int :=
 some i1
def zCk (a_a : zL) (self0 : Int → Int → Option Int) (i2 : Int) (i3 : Int) : Option Int :=
 cnd (decide (i3 < (a_a.zones.length : Int))) (
 chk (inb i3 a_a.zones.length) <|
 chk (inI (i2 + ((at_ a_a.zones i3).count))) <|
 chk (inI (i3 + 1)) <|
 self0 (i2 + ((at_ a_a.zones i3).count)) (i3 + 1)) (
 zHS i2)
def zEj (a_a : zL) : Nat → Int → Int → Option Int
  | 0, _, _ => none
  | n + 1, i2, i3 => zCk a_a (zEj a_a n) i2 i3
def zGn (a_a : zL) : Option Int :=
 (zDo a_a).bind fun x1 =>
 cnd (!decide (x1 = 0)) (
 some 0) (
 zEj a_a zAC 0 0)
def zIa  : Option Int :=
 some (-1)
def zDl (a_a : zL) (a_frame : Int) (self0 : Int → Option Int) (i1 : Int) : Option Int :=
 cnd (decide (i1 < (a_a.zones.length : Int))) (
 chk (inb i1 a_a.zones.length) <|
 chk (!(decide (((at_ a_a.zones i1).start) ≤ a_frame)) || inI (((at_ a_a.zones i1).start) + ((at_ a_a.zones i1).count))) <|
 cnd ((decide (((at_ a_a.zones i1).start) ≤ a_frame)) && (decide (a_frame < (((at_ a_a.zones i1).start) + ((at_ a_a.zones i1).count))))) (
 some i1) (
 chk (inI (i1 + 1)) <|
 self0 (i1 + 1))) (
 zIa )
def zFh (a_a : zL) (a_frame : Int) : Nat → Int → Option Int
  | 0, _ => none
  | n + 1, i1 => zDl a_a a_frame (zFh a_a a_frame n) i1
def zIA (a_a : zL) (a_frame : Int) : Option Int :=
 zFh a_a a_frame zAC 0
def zHL (a_a : zL) (a_frame : Int) : Option Int :=
 (zDo a_a).bind fun x1 =>
 cnd (!decide (x1 = 0)) (
 some (-1)) (
 (zIA a_a a_frame).bind fun x2 =>
 some x2)
def zHd  : Option Int :=
 some (-1)
def zFv (self0 : Int → Option Int) (i1 : Int) : Option Int :=
 chk (inI (i1 + 1)) <|
 self0 (i1 + 1)
def zCe (self0 : Int → Option Int) (a_a : zL) (a_zone : Int) (a_frame : Int) (i1 : Int) (self1 : Int → Option Int) (i2 : Int) : Option Int :=
 chk (inb i1 a_a.caches.length) <|
 chk (inb a_zone ((at_ a_a.caches i1).lists).length) <|
 cnd (decide (i2 < ((at_ ((at_ a_a.caches i1).lists) a_zone).length : Int))) (
 chk (inb i2 (at_ ((at_ a_a.caches i1).lists) a_zone).length) <|
 cnd (decide ((at_ (at_ ((at_ a_a.caches i1).lists) a_zone) i2) = a_frame)) (
 some i1) (
 chk (inI (i2 + 1)) <|
 self1 (i2 + 1))) (
 zFv self0 i1)
def zBr (self0 : Int → Option Int) (a_a : zL) (a_zone : Int) (a_frame : Int) (i1 : Int) : Nat → Int → Option Int
  | 0, _ => none
  | n + 1, i2 => zCe self0 a_a a_zone a_frame i1 (zBr self0 a_a a_zone a_frame i1 n) i2
def zCg (a_a : zL) (a_zone : Int) (a_frame : Int) (self0 : Int → Option Int) (i1 : Int) : Option Int :=
 cnd (decide (i1 < (a_a.caches.length : Int))) (
 zBr self0 a_a a_zone a_frame i1 zAC 0) (
 zHd )
def zA7 (a_a : zL) (a_zone : Int) (a_frame : Int) : Nat → Int → Option Int
  | 0, _ => none
  | n + 1, i1 => zCg a_a a_zone a_frame (zA7 a_a a_zone a_frame n) i1
def zHp (a_a : zL) (a_zone : Int) (a_frame : Int) : Option Int :=
 zA7 a_a a_zone a_frame zAC 0
def zIL (a_a : zL) (a_zone : Int) (a_frame : Int) : Option Bool :=
 chk (inb a_zone a_a.zones.length) <|
 (zFX (at_ a_a.zones a_zone) a_frame).bind fun x1 =>
 (cnd (!x1) (zHp a_a a_zone a_frame) (some default)).bind fun x2 =>
 some (x1 || (decide (0 ≤ x2)))
def zGq (a_a : zL) (a_frame : Int) : Option Bool :=
 (zHL a_a a_frame).bind fun x1 =>
 (cnd (decide (0 ≤ x1)) (zIL a_a x1 a_frame) (some default)).bind fun x2 =>
 some ((decide (0 ≤ x1)) && x2)
def zHW (a_a : zL) (a_zone : Int) : Option Int :=
 (zDo a_a).bind fun x1 =>
 cnd (((!decide (x1 = 0)) || (decide (a_zone < 0))) || (decide ((a_a.zones.length : Int) ≤ a_zone))) (
 some 0) (
 (zGW a_a a_zone).bind fun x2 =>
 some x2)
def zCz (a_p0 : zL) (a_p1 : Int) : Option Bool :=
 (zHM).bind fun x1 =>
 (cnd (!(!x1)) (zJD a_p0) (some default)).bind fun x2 =>
 cnd ((!x1) || (!x2)) (
 (zHM).bind fun x3 =>
 some x3) (
 (zCM a_p0).bind fun x4 =>
 (zE7 a_p0).bind fun x5 =>
 (zAk a_p0).bind fun x6 =>
 (zDo a_p0).bind fun x7 =>
 (cnd (!(((!decide (x6 = x7)) || (!decide (x4.1 = x5.1))) || (!decide (x4.2 = x5.2)))) (zCt a_p0) (some default)).bind fun x8 =>
 (cnd (!(((!decide (x6 = x7)) || (!decide (x4.1 = x5.1))) || (!decide (x4.2 = x5.2)))) (zGn a_p0) (some default)).bind fun x9 =>
 cnd ((((!decide (x6 = x7)) || (!decide (x4.1 = x5.1))) || (!decide (x4.2 = x5.2))) || (!decide (x8 = x9))) (
 some false) (
 (zD8 a_p0 a_p1).bind fun x10 =>
 (zHL a_p0 a_p1).bind fun x11 =>
 (cnd (decide (x10 = x11)) (zCQ a_p0 a_p1) (some default)).bind fun x12 =>
 (cnd (decide (x10 = x11)) (zGq a_p0 a_p1) (some default)).bind fun x13 =>
 (cnd ((decide (x10 = x11)) && (x12 == x13)) (zDc a_p0 a_p1) (some default)).bind fun x14 =>
 (cnd ((decide (x10 = x11)) && (x12 == x13)) (zHW a_p0 a_p1) (some default)).bind fun x15 =>
 some (((decide (x10 = x11)) && (x12 == x13)) && (decide (x14 = x15)))))
end Go.Proofs.YtplkliakhdkpcaaGreat
