/-
  The functions that the program's functions compute, as Lean functions in Option, and their data.
-/
import Derived.Test.YtplkliakhdkpcaaGreatAmX
set_option linter.unusedVariables false
set_option linter.unusedSimpArgs false
namespace Go.Proofs.YtplkliakhdkpcaaGreat
open Go Go.RowKit Go.Wk Go.Am Go.Proofs
set_option maxHeartbeats 4000000
structure zo where
  node:Int
  kind:Int
  start:Int
  count:Int
  min:Int
  free:List (List Int)
deriving DecidableEq,Inhabited
def zO (x:zo):List AV:=cI x.node++(cI x.kind++(cI x.start++(cI x.count++(cI x.min++((cA 5 (eS cI) ([]:List Int)) x.free++[])))))
def zJl:zo:=⟨0,0,0,0,0,(List.replicate 5 ([]:List Int))⟩
structure zL where
  lists:List (List Int)
deriving DecidableEq,Inhabited
def zI (x:zL):List AV:=(cS (cS cI)) x.lists++[]
structure zJ where
  nodes:List Int
  batch:Int
  high:Int
  zones:List zo
  caches:List zL
deriving DecidableEq,Inhabited
def zG (x:zJ):List AV:=(cS cI) x.nodes++(cI x.batch++(cI x.high++((cS zO) x.zones++((cS zI) x.caches++[]))))
structure zBz where
  node:Int
  kind:Int
  count:Int
  min:Int
deriving DecidableEq,Inhabited
def zAc (x:zBz):List AV:=cI x.node++(cI x.kind++(cI x.count++(cI x.min++[])))
def zAo (a_s:List Int):Option (List Int) :=
 chk (decide ((([]:List Int).length+a_s.length)*8≤4294967296)) <|
 some a_s
def zCh  : Option Int :=
 some (-1)
def zAh (a_s:List Int) (a_f:Int→Option Bool) (self0:Int→Option Int) (i1:Int):Option Int :=
 cnd (decide (i1<(a_s.length:Int))) (
 chk (inb i1 a_s.length) <|
 (a_f (at_ a_s i1)).bind fun x1 =>
 cnd (x1) (
 some i1) (
 chk (inI (i1+1)) <|
 self0 (i1+1))) (
 zCh )
def zAV (a_s:List Int) (a_f:Int→Option Bool):Nat→Int→Option Int
  | 0,_=>none
  | n+1,i1=>zAh a_s a_f (zAV a_s a_f n) i1
def zCK (a_s:List Int) (a_f:Int→Option Bool):Option Int :=
 zAV a_s a_f z9 0
def zBg (a_s:List Int) (a_f:Int→Option Bool):Option Bool :=
 (zCK a_s a_f).bind fun x1 =>
 some (decide (0≤x1))
def zCx (a_n:Int):Option Bool :=
 some ((decide (a_n<0))||(decide (4≤a_n)))
def zCk (a_a:zJ):Option Bool :=
 cnd (((((((decide ((a_a.nodes.length:Int)<1))||(decide (4<(a_a.nodes.length:Int))))||(decide (64<a_a.high)))||(decide (a_a.batch<1)))||(decide (a_a.high<a_a.batch)))||(decide ((a_a.zones.length:Int)<1)))||(decide (6<(a_a.zones.length:Int)))) (
 some false) (
 (zBg a_a.nodes (fun y0=>zCx y0)).bind fun x1 =>
 some (!x1))
def zF4 (a_z:zo):Option Bool :=
 chk (!((((((decide (0≤a_z.node))&&(decide (a_z.node<4)))&&((decide (a_z.kind=0))||(decide (a_z.kind=1))))&&(decide (0≤a_z.start)))&&(decide (a_z.start<256)))&&(decide (1≤a_z.count)))||inI (256 - a_z.start)) <|
 some (((((((((decide (0≤a_z.node))&&(decide (a_z.node<4)))&&((decide (a_z.kind=0))||(decide (a_z.kind=1))))&&(decide (0≤a_z.start)))&&(decide (a_z.start<256)))&&(decide (1≤a_z.count)))&&(decide (a_z.count≤(256 - a_z.start))))&&(decide (0≤a_z.min)))&&(decide (a_z.min≤a_z.count)))
def zD5 (a_x:Int):Option Bool :=
 some (!decide (a_x=a_x))
def zHN (a_x:Int) (a_y:Int):Option Bool :=
 (zD5 a_x).bind fun x1 =>
 (cnd x1 (zD5 a_y) (some default)).bind fun x2 =>
 some ((x1&&(!x2))||(decide (a_x<a_y)))
def zEQ (a_x:Int):Option Bool :=
 some (!decide (a_x=a_x))
def zA0 (a_x:List Int) (a_target:Int) (i1:Int):Option (Int×Bool) :=
 chk (!(decide (i1<(a_x.length:Int)))||inb i1 a_x.length) <|
 chk (!(decide (i1<(a_x.length:Int)) && !(decide ((at_ a_x i1)=a_target)))||inb i1 a_x.length) <|
 (cnd (decide (i1<(a_x.length:Int)) && !(decide ((at_ a_x i1)=a_target))) (zEQ (at_ a_x i1)) (some default)).bind fun x1 =>
 (cnd ((decide (i1<(a_x.length:Int)) && !(decide ((at_ a_x i1)=a_target)))&&x1) (zEQ a_target) (some default)).bind fun x2 =>
 some (i1,(decide (i1<(a_x.length:Int)))&&((decide ((at_ a_x i1)=a_target))||(x1&&x2)))
def zAW (a_x:List Int) (a_target:Int) (self0:Int→Int→Option (Int×Bool)) (i2:Int) (i3:Int):Option (Int×Bool) :=
 cnd (decide (i2<i3)) (
 chk (inI (i2+i3)) <|
 chk (decide (IntKind.u64.wrap (i2+i3)=(i2+i3))) <|
 chk (decide (IntKind.i64.wrap ((i2+i3).fdiv (2 ^ (1:Int).toNat))=((i2+i3).fdiv (2 ^ (1:Int).toNat)))) <|
 chk (inb ((i2+i3).fdiv (2 ^ (1:Int).toNat)) a_x.length) <|
 (zHN (at_ a_x ((i2+i3).fdiv (2 ^ (1:Int).toNat))) a_target).bind fun x3 =>
 cnd (x3) (
 chk (inI (((i2+i3).fdiv (2 ^ (1:Int).toNat))+1)) <|
 self0 (((i2+i3).fdiv (2 ^ (1:Int).toNat))+1) i3) (
 self0 i2 ((i2+i3).fdiv (2 ^ (1:Int).toNat)))) (
 zA0 a_x a_target i2)
def zAz (a_x:List Int) (a_target:Int):Nat→Int→Int→Option (Int×Bool)
  | 0,_,_=>none
  | n+1,i2,i3=>zAW a_x a_target (zAz a_x a_target n) i2 i3
def zAT (a_x:List Int) (a_target:Int):Option (Int×Bool) :=
 zAz a_x a_target z9 0 (a_x.length:Int)
def zCF (a_z:zo) (a_frame:Int) (a_order:Int):Option Bool :=
 chk (zLc a_order) <|
 chk (inI ((1:Int)*2 ^ a_order.toNat)) <|
 chk (!(decide (a_z.start≤a_frame))||(!decide (((1:Int)*2 ^ a_order.toNat)=0))) <|
 chk (!(((decide (a_z.start≤a_frame))&&(decide ((a_frame.tmod ((1:Int)*2 ^ a_order.toNat))=0)))&&(decide (((1:Int)*2 ^ a_order.toNat)≤a_z.count)))||inI (a_z.start+a_z.count)) <|
 chk (!(((decide (a_z.start≤a_frame))&&(decide ((a_frame.tmod ((1:Int)*2 ^ a_order.toNat))=0)))&&(decide (((1:Int)*2 ^ a_order.toNat)≤a_z.count)))||inI ((a_z.start+a_z.count) - ((1:Int)*2 ^ a_order.toNat))) <|
 some ((((decide (a_z.start≤a_frame))&&(decide ((a_frame.tmod ((1:Int)*2 ^ a_order.toNat))=0)))&&(decide (((1:Int)*2 ^ a_order.toNat)≤a_z.count)))&&(decide (a_frame≤((a_z.start+a_z.count) - ((1:Int)*2 ^ a_order.toNat)))))
def zF7 (a_p0:zo) (i1:Int) (i2:Int) (l1:List (List Int)):Option zo :=
 chk (inb i2 5) <|
 chk (decide (i2<(5:Int))) <|
 (zAT (l1.getD i2.toNat []) i1).bind fun x1 =>
 chk (zPZ (l1.getD i2.toNat []) x1.1) <|
 some (⟨a_p0.node,a_p0.kind,a_p0.start,a_p0.count,a_p0.min,zDl 5 [] l1 i2.toNat (zPq (l1.getD i2.toNat []) x1.1 i1)⟩:zo)
def zFB (a_p0:zo) (self0:Int→Int→(List (List Int))→Option zo) (i3:Int) (i4:Int) (l2:List (List Int)):Option zo :=
 cnd (decide (i4<4)) (
 chk (zLc i4) <|
 chk (inI ((1:Int)*2 ^ i4.toNat)) <|
 chk (inb i4 5) <|
 chk (decide (i4<(5:Int))) <|
 (zAT (l2.getD i4.toNat []) (zLD .xor .i64 i3 ((1:Int)*2 ^ i4.toNat))).bind fun x2 =>
 chk (!(!(!x2.2))||inI (i4+1)) <|
 (cnd (!(!x2.2)) (zCF (⟨a_p0.node,a_p0.kind,a_p0.start,a_p0.count,a_p0.min,zDl 5 [] l2 i4.toNat (l2.getD i4.toNat [])⟩:zo) (min i3 (zLD .xor .i64 i3 ((1:Int)*2 ^ i4.toNat))) (i4+1)) (some default)).bind fun x3 =>
 cnd ((!x2.2)||(!x3)) (
 zF7 a_p0 i3 i4 (zDl 5 [] l2 i4.toNat (l2.getD i4.toNat []))) (
 chk (inI (x2.1+1)) <|
 chk (zQb ((zDl 5 [] l2 i4.toNat (l2.getD i4.toNat [])).getD i4.toNat []) x2.1 (x2.1+1)) <|
 chk (inI (i4+1)) <|
 self0 (min i3 (zLD .xor .i64 i3 ((1:Int)*2 ^ i4.toNat))) (i4+1) (zDl 5 [] (zDl 5 [] l2 i4.toNat (l2.getD i4.toNat [])) i4.toNat (zRw ((zDl 5 [] l2 i4.toNat (l2.getD i4.toNat [])).getD i4.toNat []) x2.1)))) (
 zF7 a_p0 i3 i4 l2)
def zHT (a_p0:zo):Nat→Int→Int→(List (List Int))→Option zo
  | 0,_,_,_=>none
  | n+1,i3,i4,l2=>zFB a_p0 (zHT a_p0 n) i3 i4 l2
def zI4 (a_p0:zo) (a_p1:Int) (a_p2:Int):Option zo :=
 zHT a_p0 z9 a_p1 a_p2 a_p0.free
def zJd (d1:Int) (d2:Int) (d3:Int) (d4:Int) (d5:Int) (l1:List (List Int)):Option (zo×Int) :=
 some ((⟨d1,d2,d3,d4,d5,l1⟩:zo),0)
def zJY (a_start:Int) (a_count:Int) (self0:Int→Int→Int→Int→Int→Int→(List (List Int))→Option (zo×Int)) (i1:Int) (d6:Int) (d7:Int) (d8:Int) (d9:Int) (d10:Int) (l2:List (List Int)):Option (zo×Int) :=
 chk (inI (a_start+a_count)) <|
 cnd (decide (i1<(a_start+a_count))) (
 (zI4 (⟨d6,d7,d8,d9,d10,l2⟩:zo) i1 0).bind fun x2 =>
 chk (inI (i1+1)) <|
 self0 (i1+1) x2.node x2.kind x2.start x2.count x2.min x2.free) (
 zJd d6 d7 d8 d9 d10 l2)
def zIL (a_start:Int) (a_count:Int):Nat→Int→Int→Int→Int→Int→Int→(List (List Int))→Option (zo×Int)
  | 0,_,_,_,_,_,_,_=>none
  | n+1,i1,d6,d7,d8,d9,d10,l2=>zJY a_start a_count (zIL a_start a_count n) i1 d6 d7 d8 d9 d10 l2
def zL9 (a_node:Int) (a_kind:Int) (a_start:Int) (a_count:Int) (a_least:Int):Option (zo×Int) :=
 (zF4 (⟨a_node,a_kind,a_start,a_count,a_least,(List.replicate 5 ([]:List Int))⟩:zo)).bind fun x1 =>
 cnd (!x1) (
 some ((⟨0,0,0,0,0,(List.replicate 5 ([]:List Int))⟩:zo),2)) (
 zIL a_start a_count z9 a_start a_node a_kind a_start a_count a_least (List.replicate 5 ([]:List Int)))
def zK9 (a_zones:Int):Option (zL×Int) :=
 cnd ((decide (a_zones<1))||(decide (6<a_zones))) (
 some ((⟨([]:List (List Int))⟩:zL),1)) (
 chk (decide (0≤a_zones)&&decide (a_zones≤a_zones)&&decide (a_zones*(24:Int)≤4294967296)) <|
 some ((⟨List.replicate a_zones.toNat ([]:List Int)⟩:zL),0))
def zHV (a_p1:Int) (a_p2:Int) (d1:List Int) (l1:List zo) (l2:List zL):Option (zJ×Int) :=
 some ((⟨d1,a_p1,a_p2,l1,l2⟩:zJ),0)
def zHc (a_p0:List Int) (a_p1:Int) (a_p2:Int) (a_p3:List zBz) (d1:List Int) (l1:List zo) (self0:Int→(List zL)→Option (zJ×Int)) (i1:Int) (l3:List zL):Option (zJ×Int) :=
 cnd (decide (i1<(a_p0.length:Int))) (
 (zK9 (a_p3.length:Int)).bind fun x2 =>
 chk (decide ((l3.length+[x2.1].length)*24≤4294967296)) <|
 chk (inI (i1+1)) <|
 self0 (i1+1) (l3++[x2.1])) (
 zHV a_p1 a_p2 d1 l1 l3)
def zFp (a_p0:List Int) (a_p1:Int) (a_p2:Int) (a_p3:List zBz) (d1:List Int) (l1:List zo):Nat→Int→(List zL)→Option (zJ×Int)
  | 0,_,_=>none
  | n+1,i1,l3=>zHc a_p0 a_p1 a_p2 a_p3 d1 l1 (zFp a_p0 a_p1 a_p2 a_p3 d1 l1 n) i1 l3
def zHn (a_p0:List Int) (a_p1:Int) (a_p2:Int) (a_p3:List zBz) (d1:List Int) (l1:List zo):Option (zJ×Int) :=
 zFp a_p0 a_p1 a_p2 a_p3 d1 l1 z9 0 ([]:List zL)
def zHe (a_p0:List Int) (a_p1:Int) (a_p2:Int) (a_p3:List zBz) (d1:List Int) (self1:Int→Int→(List zo)→Option (zJ×Int)) (i2:Int) (i3:Int) (l4:List zo):Option (zJ×Int) :=
 cnd (decide (i3<(a_p3.length:Int))) (
 chk (inb i3 a_p3.length) <|
 (zL9 ((at_ a_p3 i3).node) ((at_ a_p3 i3).kind) i2 ((at_ a_p3 i3).count) ((at_ a_p3 i3).min)).bind fun x3 =>
 cnd (!decide (x3.2=0)) (
 some ((⟨([]:List Int),0,0,([]:List zo),([]:List zL)⟩:zJ),x3.2)) (
 chk (inb i3 l4.length) <|
 chk (inI (i2+((at_ a_p3 i3).count))) <|
 chk (inI (i3+1)) <|
 self1 (i2+((at_ a_p3 i3).count)) (i3+1) (l4.set i3.toNat x3.1))) (
 zHn a_p0 a_p1 a_p2 a_p3 d1 l4)
def zFy (a_p0:List Int) (a_p1:Int) (a_p2:Int) (a_p3:List zBz) (d1:List Int):Nat→Int→Int→(List zo)→Option (zJ×Int)
  | 0,_,_,_=>none
  | n+1,i2,i3,l4=>zHe a_p0 a_p1 a_p2 a_p3 d1 (zFy a_p0 a_p1 a_p2 a_p3 d1 n) i2 i3 l4
def zHh (a_p0:List Int) (a_p1:Int) (a_p2:Int) (a_p3:List zBz) (d1:List Int):Option (zJ×Int) :=
 (zCk (⟨d1,a_p1,a_p2,List.replicate (a_p3.length:Int).toNat (zJl),([]:List zL)⟩:zJ)).bind fun x1 =>
 cnd (!x1) (
 some ((⟨([]:List Int),0,0,([]:List zo),([]:List zL)⟩:zJ),2)) (
 zFy a_p0 a_p1 a_p2 a_p3 d1 z9 0 0 (List.replicate (a_p3.length:Int).toNat (zJl)))
def zGU (a_p0:List Int) (a_p1:Int) (a_p2:Int) (a_p3:List zBz):Option (zJ×Int) :=
 (zAo a_p0).bind fun x4 =>
 chk (decide (0≤(a_p3.length:Int))&&decide ((a_p3.length:Int)≤(a_p3.length:Int))&&decide ((a_p3.length:Int)*(160:Int)≤4294967296)) <|
 zHh a_p0 a_p1 a_p2 a_p3 x4
def zIj  : Option Int :=
 some 0
def zG8 (self0:Int→Option Int) (i1:Int):Option Int :=
 chk (inI (i1+1)) <|
 self0 (i1+1)
def zDQ (self0:Int→Option Int) (a_p0:zo) (i1:Int) (self1:Int→Option Int) (i2:Int):Option Int :=
 cnd (decide (i2<((a_p0.free.getD i1.toNat ([]:List Int)).length:Int))) (
 chk (inb i2 (a_p0.free.getD i1.toNat ([]:List Int)).length) <|
 chk (zLc i1) <|
 chk (inI ((1:Int)*2 ^ i1.toNat)) <|
 chk (inb i1 5) <|
 (zAT (a_p0.free.getD i1.toNat ([]:List Int)) (zLD .xor .i64 (at_ (a_p0.free.getD i1.toNat ([]:List Int)) i2) ((1:Int)*2 ^ i1.toNat))).bind fun x2 =>
 chk (!x2.2||inI (i1+1)) <|
 (cnd x2.2 (zCF a_p0 (min (at_ (a_p0.free.getD i1.toNat ([]:List Int)) i2) (zLD .xor .i64 (at_ (a_p0.free.getD i1.toNat ([]:List Int)) i2) ((1:Int)*2 ^ i1.toNat))) (i1+1)) (some default)).bind fun x3 =>
 cnd (x2.2&&x3) (
 some 11) (
 chk (inI (i2+1)) <|
 self1 (i2+1))) (
 zG8 self0 i1)
def zFa (self0:Int→Option Int) (a_p0:zo) (i1:Int):Nat→Int→Option Int
  | 0,_=>none
  | n+1,i2=>zDQ self0 a_p0 i1 (zFa self0 a_p0 i1 n) i2
def zDb (a_p0:zo) (self0:Int→Option Int) (i1:Int):Option Int :=
 cnd (decide (i1<4)) (
 chk (inb i1 5) <|
 zFa self0 a_p0 i1 z9 0) (
 zIj )
def zCQ (a_p0:zo):Nat→Int→Option Int
  | 0,_=>none
  | n+1,i1=>zDb a_p0 (zCQ a_p0 n) i1
def zDO (a_p0:zo):Option Int :=
 zCQ a_p0 z9 0
def zHF (self2:Int→(List Bool)→Option Int) (i3:Int) (d2:List Bool):Option Int :=
 chk (inI (i3+1)) <|
 self2 (i3+1) d2
def zHM (self3:Int→(List Bool)→Option Int) (i4:Int) (d4:List Bool):Option Int :=
 chk (inI (i4+1)) <|
 self3 (i4+1) d4
def zDP (self3:Int→(List Bool)→Option Int) (a_p0:zo) (i3:Int) (i4:Int) (self4:Int→(List Bool)→Option Int) (i5:Int) (d5:List Bool):Option Int :=
 chk (zLc i3) <|
 chk (inI ((1:Int)*2 ^ i3.toNat)) <|
 chk (inI ((at_ (a_p0.free.getD i3.toNat ([]:List Int)) i4)+((1:Int)*2 ^ i3.toNat))) <|
 cnd (decide (i5<((at_ (a_p0.free.getD i3.toNat ([]:List Int)) i4)+((1:Int)*2 ^ i3.toNat)))) (
 chk (inb i5 256) <|
 cnd (d5.getD i5.toNat false) (
 some 7) (
 chk (inI (i5+1)) <|
 self4 (i5+1) (zDl 256 false d5 i5.toNat true))) (
 zHM self3 i4 d5)
def zFX (self3:Int→(List Bool)→Option Int) (a_p0:zo) (i3:Int) (i4:Int):Nat→Int→(List Bool)→Option Int
  | 0,_,_=>none
  | n+1,i5,d5=>zDP self3 a_p0 i3 i4 (zFX self3 a_p0 i3 i4 n) i5 d5
def zDM (self2:Int→(List Bool)→Option Int) (a_p0:zo) (i3:Int) (self3:Int→(List Bool)→Option Int) (i4:Int) (d3:List Bool):Option Int :=
 cnd (decide (i4<((a_p0.free.getD i3.toNat ([]:List Int)).length:Int))) (
 chk (inb i4 (a_p0.free.getD i3.toNat ([]:List Int)).length) <|
 zFX self3 a_p0 i3 i4 z9 (at_ (a_p0.free.getD i3.toNat ([]:List Int)) i4) d3) (
 zHF self2 i3 d3)
def zBp (self2:Int→(List Bool)→Option Int) (a_p0:zo) (i3:Int):Nat→Int→(List Bool)→Option Int
  | 0,_,_=>none
  | n+1,i4,d3=>zDM self2 a_p0 i3 (zBp self2 a_p0 i3 n) i4 d3
def zDi (a_p0:zo) (self2:Int→(List Bool)→Option Int) (i3:Int) (d1:List Bool):Option Int :=
 cnd (decide (i3<5)) (
 chk (inb i3 5) <|
 zBp self2 a_p0 i3 z9 0 d1) (
 zDO a_p0)
def zBA (a_p0:zo):Nat→Int→(List Bool)→Option Int
  | 0,_,_=>none
  | n+1,i3,d1=>zDi a_p0 (zBA a_p0 n) i3 d1
def zFl (a_p0:zo):Option Int :=
 zBA a_p0 z9 0 (List.replicate 256 false)
def zHH (self5:Int→Option Int) (i6:Int):Option Int :=
 chk (inI (i6+1)) <|
 self5 (i6+1)
def zDa (self5:Int→Option Int) (a_p0:zo) (i6:Int) (self6:Int→Option Int) (i7:Int):Option Int :=
 cnd (decide (i7<((a_p0.free.getD i6.toNat ([]:List Int)).length:Int))) (
 chk (inb i7 (a_p0.free.getD i6.toNat ([]:List Int)).length) <|
 (zCF a_p0 (at_ (a_p0.free.getD i6.toNat ([]:List Int)) i7) i6).bind fun x4 =>
 cnd (!x4) (
 some 3) (
 chk (!(decide (0<i7))||inI (i7 - 1)) <|
 chk (!(decide (0<i7))||inb (i7 - 1) (a_p0.free.getD i6.toNat ([]:List Int)).length) <|
 cnd ((decide (0<i7))&&(decide ((at_ (a_p0.free.getD i6.toNat ([]:List Int)) i7)≤(at_ (a_p0.free.getD i6.toNat ([]:List Int)) (i7 - 1))))) (
 some 10) (
 chk (inI (i7+1)) <|
 self6 (i7+1)))) (
 zHH self5 i6)
def zFe (self5:Int→Option Int) (a_p0:zo) (i6:Int):Nat→Int→Option Int
  | 0,_=>none
  | n+1,i7=>zDa self5 a_p0 i6 (zFe self5 a_p0 i6 n) i7
def zDd (a_p0:zo) (self5:Int→Option Int) (i6:Int):Option Int :=
 cnd (decide (i6<5)) (
 chk (inb i6 5) <|
 zFe self5 a_p0 i6 z9 0) (
 zFl a_p0)
def zCM (a_p0:zo):Nat→Int→Option Int
  | 0,_=>none
  | n+1,i6=>zDd a_p0 (zCM a_p0 n) i6
def zDT (a_p0:zo):Option Int :=
 (zF4 a_p0).bind fun x1 =>
 cnd (!x1) (
 some 2) (
 zCM a_p0 z9 0)
def zFY (a_f:Int):Option Bool :=
 some ((decide (0≤a_f))&&(decide (a_f<256)))
def zHf (l1:List (Int×Bool)):Option (List (Int×Bool)) :=
 some l1
def zFw (self0:Int→(List (Int×Bool))→Option (List (Int×Bool))) (i1:Int) (l3:List (Int×Bool)):Option (List (Int×Bool)) :=
 chk (inI (i1+1)) <|
 self0 (i1+1) l3
def zCX (self0:Int→(List (Int×Bool))→Option (List (Int×Bool))) (a_c:zL) (i1:Int) (self1:Int→(List (Int×Bool))→Option (List (Int×Bool))) (i2:Int) (l4:List (Int×Bool)):Option (List (Int×Bool)) :=
 cnd (decide (i2<((at_ a_c.lists i1).length:Int))) (
 chk (inb i2 (at_ a_c.lists i1).length) <|
 chk (inI (i2+1)) <|
 self1 (i2+1) (zJQ l4 (at_ (at_ a_c.lists i1) i2) true)) (
 zFw self0 i1 l4)
def zEP (self0:Int→(List (Int×Bool))→Option (List (Int×Bool))) (a_c:zL) (i1:Int):Nat→Int→(List (Int×Bool))→Option (List (Int×Bool))
  | 0,_,_=>none
  | n+1,i2,l4=>zCX self0 a_c i1 (zEP self0 a_c i1 n) i2 l4
def zCb (a_c:zL) (self0:Int→(List (Int×Bool))→Option (List (Int×Bool))) (i1:Int) (l2:List (Int×Bool)):Option (List (Int×Bool)) :=
 cnd (decide (i1<(a_c.lists.length:Int))) (
 chk (inb i1 a_c.lists.length) <|
 zEP self0 a_c i1 z9 0 l2) (
 zHf l2)
def zBc (a_c:zL):Nat→Int→(List (Int×Bool))→Option (List (Int×Bool))
  | 0,_,_=>none
  | n+1,i1,l2=>zCb a_c (zBc a_c n) i1 l2
def zFO (a_c:zL):Option (List (Int×Bool)) :=
 zBc a_c z9 0 ([]:List (Int×Bool))
def zE4 (a_c:zL) (i1:Int):Option Int :=
 (zFO a_c).bind fun x1 =>
 cnd (!decide ((x1.length:Int)=i1)) (
 some 7) (
 some 0)
def zGM (self0:Int→Int→Option Int) (a_c:zL) (i2:Int) (i3:Int):Option Int :=
 chk (inI (i3+1)) <|
 self0 (i2+((at_ a_c.lists i3).length:Int)) (i3+1)
def zGd (self0:Int→Int→Option Int) (a_c:zL) (i2:Int) (i3:Int):Option Int :=
 chk (inI (i2+((at_ a_c.lists i3).length:Int))) <|
 zGM self0 a_c i2 i3
def zCo (self0:Int→Int→Option Int) (a_c:zL) (i2:Int) (i3:Int) (self1:Int→Option Int) (i4:Int):Option Int :=
 cnd (decide (i4<((at_ a_c.lists i3).length:Int))) (
 chk (inb i4 (at_ a_c.lists i3).length) <|
 (zFY (at_ (at_ a_c.lists i3) i4)).bind fun x2 =>
 cnd (!x2) (
 some 2) (
 chk (inI (i4+1)) <|
 self1 (i4+1))) (
 zGd self0 a_c i2 i3)
def zE1 (self0:Int→Int→Option Int) (a_c:zL) (i2:Int) (i3:Int):Nat→Int→Option Int
  | 0,_=>none
  | n+1,i4=>zCo self0 a_c i2 i3 (zE1 self0 a_c i2 i3 n) i4
def zCy (a_c:zL) (self0:Int→Int→Option Int) (i2:Int) (i3:Int):Option Int :=
 cnd (decide (i3<(a_c.lists.length:Int))) (
 chk (inb i3 a_c.lists.length) <|
 zE1 self0 a_c i2 i3 z9 0) (
 zE4 a_c i2)
def zBb (a_c:zL):Nat→Int→Int→Option Int
  | 0,_,_=>none
  | n+1,i2,i3=>zCy a_c (zBb a_c n) i2 i3
def zF3 (a_c:zL) (a_zones:Int):Option Int :=
 cnd ((decide (a_zones<1))||(decide (6<a_zones))) (
 some 1) (
 cnd (!decide ((a_c.lists.length:Int)=a_zones)) (
 some 3) (
 zBb a_c z9 0 0))
def zCY (a_z:zo) (c_0:Int):Option Bool :=
 chk (!(decide (a_z.start≤c_0))||inI (a_z.start+a_z.count)) <|
 some ((decide (a_z.start≤c_0))&&(decide (c_0<(a_z.start+a_z.count))))
def zBI  : Option Int :=
 some (-1)
def zAH (a_s:List zo) (a_f:zo→Option Bool) (self0:Int→Option Int) (i1:Int):Option Int :=
 cnd (decide (i1<(a_s.length:Int))) (
 chk (inb i1 a_s.length) <|
 (a_f (at_ a_s i1)).bind fun x1 =>
 cnd (x1) (
 some i1) (
 chk (inI (i1+1)) <|
 self0 (i1+1))) (
 zBI )
def zAe (a_s:List zo) (a_f:zo→Option Bool):Nat→Int→Option Int
  | 0,_=>none
  | n+1,i1=>zAH a_s a_f (zAe a_s a_f n) i1
def zA7 (a_s:List zo) (a_f:zo→Option Bool):Option Int :=
 zAe a_s a_f z9 0
def zBq (a_a:zJ) (a_frame:Int):Option Int :=
 (zA7 a_a.zones (fun y0=>zCY y0 a_frame)).bind fun x1 =>
 some x1
def zIS  : Option (Int×Int) :=
 some ((-1),0)
def zDZ (a_z:zo) (a_frame:Int) (self0:Int→Option (Int×Int)) (i1:Int):Option (Int×Int) :=
 cnd (decide (i1<5)) (
 chk (zLc i1) <|
 chk (inI ((1:Int)*2 ^ i1.toNat)) <|
 chk (inI (((1:Int)*2 ^ i1.toNat) - 1)) <|
 chk (inb i1 5) <|
 (zAT (a_z.free.getD i1.toNat ([]:List Int)) (zLD .andNot .i64 a_frame (((1:Int)*2 ^ i1.toNat) - 1))).bind fun x1 =>
 cnd (x1.2) (
 some (i1,zLD .andNot .i64 a_frame (((1:Int)*2 ^ i1.toNat) - 1))) (
 chk (inI (i1+1)) <|
 self0 (i1+1))) (
 zIS )
def zDU (a_z:zo) (a_frame:Int):Nat→Int→Option (Int×Int)
  | 0,_=>none
  | n+1,i1=>zDZ a_z a_frame (zDU a_z a_frame n) i1
def zGz (a_z:zo) (a_frame:Int):Option (Int×Int) :=
 zDU a_z a_frame z9 0
def zF2 (a_z:zo) (a_frame:Int):Option Bool :=
 (zDT a_z).bind fun x1 =>
 (cnd (!(!decide (x1=0))) (zCF a_z a_frame 0) (some default)).bind fun x2 =>
 cnd ((!decide (x1=0))||(!x2)) (
 some false) (
 (zGz a_z a_frame).bind fun x3 =>
 some (decide (0≤x3.1)))
def zGQ  : Option Int :=
 some 0
def zEi (self0:Int→(List (Int×Bool))→Option Int) (i1:Int) (l2:List (Int×Bool)):Option Int :=
 chk (inI (i1+1)) <|
 self0 (i1+1) l2
def zEd (self1:Int→(List (Int×Bool))→Option Int) (i2:Int) (l4:List (Int×Bool)):Option Int :=
 chk (inI (i2+1)) <|
 self1 (i2+1) l4
def zBw (self1:Int→(List (Int×Bool))→Option Int) (a_p0:zJ) (i1:Int) (i2:Int) (self2:Int→(List (Int×Bool))→Option Int) (i3:Int) (l5:List (Int×Bool)):Option Int :=
 cnd (decide (i3<((at_ ((at_ a_p0.caches i1).lists) i2).length:Int))) (
 chk (inb i3 (at_ ((at_ a_p0.caches i1).lists) i2).length) <|
 (zBq a_p0 (at_ (at_ ((at_ a_p0.caches i1).lists) i2) i3)).bind fun x2 =>
 cnd (!decide (x2=i2)) (
 some 2) (
 chk (!(!(zLQ false l5 (at_ (at_ ((at_ a_p0.caches i1).lists) i2) i3)))||inb i2 a_p0.zones.length) <|
 (cnd (!(zLQ false l5 (at_ (at_ ((at_ a_p0.caches i1).lists) i2) i3))) (zF2 (at_ a_p0.zones i2) (at_ (at_ ((at_ a_p0.caches i1).lists) i2) i3)) (some default)).bind fun x3 =>
 cnd ((zLQ false l5 (at_ (at_ ((at_ a_p0.caches i1).lists) i2) i3))||x3) (
 some 7) (
 chk (inI (i3+1)) <|
 self2 (i3+1) (zJQ l5 (at_ (at_ ((at_ a_p0.caches i1).lists) i2) i3) true)))) (
 zEd self1 i2 l5)
def zBZ (self1:Int→(List (Int×Bool))→Option Int) (a_p0:zJ) (i1:Int) (i2:Int):Nat→Int→(List (Int×Bool))→Option Int
  | 0,_,_=>none
  | n+1,i3,l5=>zBw self1 a_p0 i1 i2 (zBZ self1 a_p0 i1 i2 n) i3 l5
def zB6 (self0:Int→(List (Int×Bool))→Option Int) (a_p0:zJ) (i1:Int) (self1:Int→(List (Int×Bool))→Option Int) (i2:Int) (l3:List (Int×Bool)):Option Int :=
 cnd (decide (i2<(((at_ a_p0.caches i1).lists).length:Int))) (
 chk (inb i2 ((at_ a_p0.caches i1).lists).length) <|
 zBZ self1 a_p0 i1 i2 z9 0 l3) (
 zEi self0 i1 l3)
def zAk (self0:Int→(List (Int×Bool))→Option Int) (a_p0:zJ) (i1:Int):Nat→Int→(List (Int×Bool))→Option Int
  | 0,_,_=>none
  | n+1,i2,l3=>zB6 self0 a_p0 i1 (zAk self0 a_p0 i1 n) i2 l3
def zB0 (a_p0:zJ) (self0:Int→(List (Int×Bool))→Option Int) (i1:Int) (l1:List (Int×Bool)):Option Int :=
 cnd (decide (i1<(a_p0.caches.length:Int))) (
 chk (inb i1 a_p0.caches.length) <|
 zAk self0 a_p0 i1 z9 0 l1) (
 zGQ )
def zAU (a_p0:zJ):Nat→Int→(List (Int×Bool))→Option Int
  | 0,_,_=>none
  | n+1,i1,l1=>zB0 a_p0 (zAU a_p0 n) i1 l1
def zDK (a_p0:zJ):Option Int :=
 zAU a_p0 z9 0 ([]:List (Int×Bool))
def zEp (self3:Int→Option Int) (i4:Int):Option Int :=
 chk (inI (i4+1)) <|
 self3 (i4+1)
def zB3 (self3:Int→Option Int) (a_p0:zJ) (i4:Int) (self4:Int→Option Int) (i5:Int):Option Int :=
 cnd (decide (i5<(((at_ a_p0.caches i4).lists).length:Int))) (
 chk (inb i5 ((at_ a_p0.caches i4).lists).length) <|
 cnd (decide (a_p0.high<((at_ ((at_ a_p0.caches i4).lists) i5).length:Int))) (
 some 9) (
 chk (inI (i5+1)) <|
 self4 (i5+1))) (
 zEp self3 i4)
def zDI (self3:Int→Option Int) (a_p0:zJ) (i4:Int):Nat→Int→Option Int
  | 0,_=>none
  | n+1,i5=>zB3 self3 a_p0 i4 (zDI self3 a_p0 i4 n) i5
def zBt (a_p0:zJ) (self3:Int→Option Int) (i4:Int):Option Int :=
 cnd (decide (i4<(a_p0.caches.length:Int))) (
 chk (inb i4 a_p0.caches.length) <|
 (zF3 (at_ a_p0.caches i4) (a_p0.zones.length:Int)).bind fun x4 =>
 cnd (!decide (x4=0)) (
 some x4) (
 zDI self3 a_p0 i4 z9 0)) (
 zDK a_p0)
def zBC (a_p0:zJ):Nat→Int→Option Int
  | 0,_=>none
  | n+1,i4=>zBt a_p0 (zBC a_p0 n) i4
def zC7 (a_p0:zJ):Option Int :=
 cnd (!decide ((a_p0.caches.length:Int)=(a_p0.nodes.length:Int))) (
 some 3) (
 zBC a_p0 z9 0)
def zBy (a_p0:zJ) (self5:Int→Int→Option Int) (i6:Int) (i7:Int):Option Int :=
 cnd (decide (i7<(a_p0.zones.length:Int))) (
 chk (inb i7 a_p0.zones.length) <|
 (zDT (at_ a_p0.zones i7)).bind fun x5 =>
 cnd (!decide (x5=0)) (
 some x5) (
 cnd (!decide (((at_ a_p0.zones i7).start)=i6)) (
 some 10) (
 chk (inI (i6+((at_ a_p0.zones i7).count))) <|
 chk (inI (i7+1)) <|
 self5 (i6+((at_ a_p0.zones i7).count)) (i7+1)))) (
 zC7 a_p0)
def zDG (a_p0:zJ):Nat→Int→Int→Option Int
  | 0,_,_=>none
  | n+1,i6,i7=>zBy a_p0 (zDG a_p0 n) i6 i7
def zAl (a_p0:zJ):Option Int :=
 (zCk a_p0).bind fun x1 =>
 cnd (!x1) (
 some 2) (
 zDG a_p0 z9 0 0)
def zHZ (a_a:zJ):Option Int :=
 (zAl a_a).bind fun x1 =>
 cnd (!decide (x1=0)) (
 some 0) (
 chk (inI ((a_a.zones.length:Int) - 1)) <|
 chk (inb ((a_a.zones.length:Int) - 1) a_a.zones.length) <|
 chk (inI (((at_ a_a.zones ((a_a.zones.length:Int) - 1)).start)+((at_ a_a.zones ((a_a.zones.length:Int) - 1)).count))) <|
 some (((at_ a_a.zones ((a_a.zones.length:Int) - 1)).start)+((at_ a_a.zones ((a_a.zones.length:Int) - 1)).count)))
def zG3 (i1:Int):Option Int :=
 some i1
def zGx (a_z:zo) (a_order:Int) (self0:Int→Int→Option Int) (i2:Int) (i3:Int):Option Int :=
 cnd (decide (i3<((zKK a_z.free 0 a_order).length:Int))) (
 chk (inb i3 (zKK a_z.free 0 a_order).length) <|
 chk (zLc i3) <|
 chk (inI (((at_ (zKK a_z.free 0 a_order) i3).length:Int)*2 ^ i3.toNat)) <|
 chk (inI (i2+(((at_ (zKK a_z.free 0 a_order) i3).length:Int)*2 ^ i3.toNat))) <|
 chk (inI (i3+1)) <|
 self0 (i2+(((at_ (zKK a_z.free 0 a_order) i3).length:Int)*2 ^ i3.toNat)) (i3+1)) (
 zG3 i2)
def zFI (a_z:zo) (a_order:Int):Nat→Int→Int→Option Int
  | 0,_,_=>none
  | n+1,i2,i3=>zGx a_z a_order (zFI a_z a_order n) i2 i3
def zIe (a_z:zo) (a_order:Int):Option Int :=
 (zDT a_z).bind fun x1 =>
 cnd (((!decide (x1=0))||(decide (a_order<0)))||(decide (4<a_order))) (
 some 0) (
 chk (zNc 0 a_order 5) <|
 chk (decide (a_z.free.length=5)) <|
 zFI a_z a_order z9 0 0)
def zK7 (a_z:zo):Option Int :=
 (zDT a_z).bind fun x1 =>
 cnd (!decide (x1=0)) (
 some 0) (
 chk (inI (((a_z.free.getD (4:Int).toNat ([]:List Int)).length:Int)*2 ^ (4:Int).toNat)) <|
 some (((a_z.free.getD (4:Int).toNat ([]:List Int)).length:Int)*2 ^ (4:Int).toNat))
def zKX (a_z:zo):Option Int :=
 (zIe a_z 4).bind fun x1 =>
 (zK7 a_z).bind fun x2 =>
 chk (inI (x1+x2)) <|
 some (x1+x2)
def zGA (i1:Int):Option Int :=
 some i1
def zGO (a_a:zJ) (a_z:Int) (self0:Int→Int→Option Int) (i2:Int) (i3:Int):Option Int :=
 cnd (decide (i3<(a_a.caches.length:Int))) (
 chk (inb i3 a_a.caches.length) <|
 chk (inb a_z ((at_ a_a.caches i3).lists).length) <|
 chk (inI (i2+((at_ ((at_ a_a.caches i3).lists) a_z).length:Int))) <|
 chk (inI (i3+1)) <|
 self0 (i2+((at_ ((at_ a_a.caches i3).lists) a_z).length:Int)) (i3+1)) (
 zGA i2)
def zEg (a_a:zJ) (a_z:Int):Nat→Int→Int→Option Int
  | 0,_,_=>none
  | n+1,i2,i3=>zGO a_a a_z (zEg a_a a_z n) i2 i3
def zE8 (a_a:zJ) (a_z:Int):Option Int :=
 chk (inb a_z a_a.zones.length) <|
 (zKX (at_ a_a.zones a_z)).bind fun x1 =>
 zEg a_a a_z z9 x1 0
def zFg (a_a:zJ) (a_z:Int):Option Int :=
 (zE8 a_a a_z).bind fun x1 =>
 chk (inb a_z a_a.zones.length) <|
 chk (inI (x1 - ((at_ a_a.zones a_z).min))) <|
 some (x1 - ((at_ a_a.zones a_z).min))
def zFE (i1:Int) (i2:Int):Option (Int×Int) :=
 some (i1,i2)
def zDE (self0:Int→Int→Int→Option (Int×Int)) (i5:Int) (i6:Int) (i7:Int):Option (Int×Int) :=
 chk (inI (i5+1)) <|
 self0 i6 i7 (i5+1)
def zEz (a_a:zJ) (self0:Int→Int→Int→Option (Int×Int)) (i3:Int) (i4:Int) (i5:Int):Option (Int×Int) :=
 cnd (decide (i5<(a_a.zones.length:Int))) (
 chk (inb i5 a_a.zones.length) <|
 (zFg a_a i5).bind fun x2 =>
 chk (inI (i4+x2)) <|
 cnd (decide (((at_ a_a.zones i5).kind)=0)) (
 chk (inI (i3+x2)) <|
 zDE self0 i5 (i3+x2) (i4+x2)) (
 zDE self0 i5 i3 (i4+x2))) (
 zFE i3 i4)
def zCU (a_a:zJ):Nat→Int→Int→Int→Option (Int×Int)
  | 0,_,_,_=>none
  | n+1,i3,i4,i5=>zEz a_a (zCU a_a n) i3 i4 i5
def zGe (a_a:zJ):Option (Int×Int) :=
 (zAl a_a).bind fun x1 =>
 cnd (!decide (x1=0)) (
 some (0,0)) (
 zCU a_a z9 0 0 0)
def zGy  : Option Int :=
 some 0
def zGt (a_zones:List zo) (self0:Int→Option Int) (i1:Int):Option Int :=
 cnd (decide (i1<(a_zones.length:Int))) (
 chk (inb i1 a_zones.length) <|
 cnd ((decide (((at_ a_zones i1).node)<0))||(decide (4≤((at_ a_zones i1).node)))) (
 some 2) (
 cnd ((!decide (((at_ a_zones i1).kind)=0))&&(!decide (((at_ a_zones i1).kind)=1))) (
 some 1) (
 chk (inI (i1+1)) <|
 self0 (i1+1)))) (
 zGy )
def zFN (a_zones:List zo):Nat→Int→Option Int
  | 0,_=>none
  | n+1,i1=>zGt a_zones (zFN a_zones n) i1
def zIb (a_zones:List zo):Option Int :=
 cnd (decide (6<(a_zones.length:Int))) (
 some 9) (
 zFN a_zones z9 0)
def zIU (a_zones:List zo) (a_node:Int):Option Int :=
 (zIb a_zones).bind fun x1 =>
 cnd (!decide (x1=0)) (
 some x1) (
 cnd ((decide (a_node<0))||(decide (4≤a_node))) (
 some 2) (
 some 0))
def zJn (a_from_:Int) (a_node:Int):Option Int :=
 cnd (decide (a_node<a_from_)) (
 chk (inI (a_from_ - a_node)) <|
 chk (inI (2*(a_from_ - a_node))) <|
 some (2*(a_from_ - a_node))) (
 chk (inI (a_node - a_from_)) <|
 chk (inI (2*(a_node - a_from_))) <|
 chk (inI ((2*(a_node - a_from_))+1)) <|
 some ((2*(a_node - a_from_))+1))
def zEJ (i1:Int):Option Int :=
 some i1
def zHj (a_i:Int) (c_0:Int) (c_1:List zo):Option Int :=
 chk (inb a_i c_1.length) <|
 (zJn c_0 ((at_ c_1 a_i).node)).bind fun x1 =>
 chk (inI (2*x1)) <|
 cnd (decide (((at_ c_1 a_i).kind)=0)) (
 chk (inI ((2*x1)+1)) <|
 zEJ ((2*x1)+1)) (
 zEJ (2*x1))
def zIH (a_x:Int) (a_y:Int):Option Int :=
 (zD5 a_x).bind fun x1 =>
 (zD5 a_y).bind fun x2 =>
 cnd (x1) (
 cnd (x2) (
 some 0) (
 some (-1))) (
 cnd (x2) (
 some 1) (
 cnd (decide (a_x<a_y)) (
 some (-1)) (
 cnd (decide (a_y<a_x)) (
 some 1) (
 some 0))))
def zHY (a_a:Int) (a_b:Int) (c_0:Int→Option Int):Option Int :=
 (c_0 a_a).bind fun x1 =>
 (c_0 a_b).bind fun x2 =>
 (zIH x1 x2).bind fun x3 =>
 some x3
def zBk (self0:Int→(List Int)→Option (List Int)) (i1:Int) (l2:List Int):Option (List Int) :=
 chk (inI (i1+1)) <|
 self0 (i1+1) l2
def zBj (self0:Int→(List Int)→Option (List Int)) (a_a:Int) (a_cmp:Int→Int→Option Int) (i1:Int) (self1:Int→(List Int)→Option (List Int)) (i2:Int) (l3:List Int):Option (List Int) :=
 chk (!(decide (a_a<i2))||inb i2 l3.length) <|
 chk (!(decide (a_a<i2))||inI (i2 - 1)) <|
 chk (!(decide (a_a<i2))||inb (i2 - 1) l3.length) <|
 (cnd (decide (a_a<i2)) (a_cmp (at_ l3 i2) (at_ l3 (i2 - 1))) (some default)).bind fun x1 =>
 cnd ((decide (a_a<i2))&&(decide (x1<0))) (
 chk (inI (i2 - 1)) <|
 chk (inb (i2 - 1) l3.length) <|
 chk (inb i2 l3.length) <|
 chk (inb (i2 - 1) (l3.set i2.toNat (at_ l3 (i2 - 1))).length) <|
 self1 (i2 - 1) ((l3.set i2.toNat (at_ l3 (i2 - 1))).set (i2 - 1).toNat (at_ l3 i2))) (
 zBk self0 i1 l3)
def zA9 (self0:Int→(List Int)→Option (List Int)) (a_a:Int) (a_cmp:Int→Int→Option Int) (i1:Int):Nat→Int→(List Int)→Option (List Int)
  | 0,_,_=>none
  | n+1,i2,l3=>zBj self0 a_a a_cmp i1 (zA9 self0 a_a a_cmp i1 n) i2 l3
def zBi (a_a:Int) (a_b:Int) (a_cmp:Int→Int→Option Int) (self0:Int→(List Int)→Option (List Int)) (i1:Int) (l1:List Int):Option (List Int) :=
 cnd (decide (i1<a_b)) (
 zA9 self0 a_a a_cmp i1 z9 i1 l1) (
 some l1)
def zAI (a_a:Int) (a_b:Int) (a_cmp:Int→Int→Option Int):Nat→Int→(List Int)→Option (List Int)
  | 0,_,_=>none
  | n+1,i1,l1=>zBi a_a a_b a_cmp (zAI a_a a_b a_cmp n) i1 l1
def zBJ (a_data:List Int) (a_a:Int) (a_b:Int) (a_cmp:Int→Int→Option Int):Option (List Int) :=
 chk (inI (a_a+1)) <|
 zAI a_a a_b a_cmp z9 (a_a+1) a_data
def zCn (self0:Int→Option (List Int)) (a_n:Int) (i2:Int):Option (List Int) :=
 chk (inI (0+i2)) <|
 cnd (decide ((0+i2)<a_n)) (
 none) (
 chk (inI (i2*2)) <|
 self0 (i2*2))
def zCp (self0:Int→Option (List Int)) (a_n:Int) (i2:Int) (self1:Option (List Int))  : Option (List Int) :=
 cnd (decide ((2*i2)≤a_n)) (
 chk (inI (0+i2)) <|
 none) (
 zCn self0 a_n i2)
def zBs (self0:Int→Option (List Int)) (a_n:Int) (i2:Int):Nat→Option (List Int)
  | 0=>none
  | n+1=>zCp self0 a_n i2 (zBs self0 a_n i2 n)
def zCw (a_n:Int) (x1:(List Int)) (self0:Int→Option (List Int)) (i2:Int):Option (List Int) :=
 cnd (decide (i2<a_n)) (
 chk (inI (2*i2)) <|
 zBs self0 a_n i2 z9) (
 some x1)
def zAa (a_n:Int) (x1:(List Int)):Nat→Int→Option (List Int)
  | 0,_=>none
  | n+1,i2=>zCw a_n x1 (zAa a_n x1 n) i2
def zCq (a_n:Int) (a_cmp:Int→Int→Option Int) (i1:Int) (l1:List Int):Option (List Int) :=
 (zBJ l1 i1 a_n a_cmp).bind fun x1 =>
 zAa a_n x1 z9 20
def zCr (a_n:Int) (a_cmp:Int→Int→Option Int) (self2:Int→Int→(List Int)→Option (List Int)) (i3:Int) (i4:Int) (l2:List Int):Option (List Int) :=
 cnd (decide (i4≤a_n)) (
 (zBJ l2 i3 i4 a_cmp).bind fun x2 =>
 chk (inI (i4+20)) <|
 self2 i4 (i4+20) x2) (
 zCq a_n a_cmp i3 l2)
def zB2 (a_n:Int) (a_cmp:Int→Int→Option Int):Nat→Int→Int→(List Int)→Option (List Int)
  | 0,_,_,_=>none
  | n+1,i3,i4,l2=>zCr a_n a_cmp (zB2 a_n a_cmp n) i3 i4 l2
def zDw (a_data:List Int) (a_n:Int) (a_cmp:Int→Int→Option Int):Option (List Int) :=
 zB2 a_n a_cmp z9 0 20 a_data
def zCT (a_x:List Int) (a_cmp:Int→Int→Option Int):Option (List Int) :=
 (zDw a_x (a_x.length:Int) a_cmp).bind fun x1 =>
 some x1
def zGp (a_zones:List zo) (a_node:Int) (l1:List Int):Option ((List Int)×Int) :=
 (zCT l1 (fun y0 y1=>zHY y0 y1 (fun y0=>zHj y0 a_node a_zones))).bind fun x2 =>
 some (x2,0)
def zFJ (self0:Int→(List Int)→Option ((List Int)×Int)) (i1:Int) (l3:List Int):Option ((List Int)×Int) :=
 chk (inI (i1+1)) <|
 self0 (i1+1) l3
def zGo (a_zones:List zo) (a_node:Int) (a_kernel:Bool) (self0:Int→(List Int)→Option ((List Int)×Int)) (i1:Int) (l2:List Int):Option ((List Int)×Int) :=
 cnd (decide (i1<(a_zones.length:Int))) (
 chk (inb i1 a_zones.length) <|
 cnd ((!a_kernel)||(decide (((at_ a_zones i1).kind)=0))) (
 chk (decide ((l2.length+[i1].length)*8≤4294967296)) <|
 zFJ self0 i1 (l2++[i1])) (
 zFJ self0 i1 l2)) (
 zGp a_zones a_node l2)
def zDs (a_zones:List zo) (a_node:Int) (a_kernel:Bool):Nat→Int→(List Int)→Option ((List Int)×Int)
  | 0,_,_=>none
  | n+1,i1,l2=>zGo a_zones a_node a_kernel (zDs a_zones a_node a_kernel n) i1 l2
def zHG (a_zones:List zo) (a_node:Int) (a_kernel:Bool):Option ((List Int)×Int) :=
 (zIU a_zones a_node).bind fun x1 =>
 cnd (!decide (x1=0)) (
 some ([],x1)) (
 zDs a_zones a_node a_kernel z9 0 [])
def zBL (a_s:List zo):Option (List zo) :=
 chk (decide ((([]:List zo).length+a_s.length)*160≤4294967296)) <|
 some a_s
def zAn (a_s:List zL):Option (List zL) :=
 chk (decide ((([]:List zL).length+a_s.length)*24≤4294967296)) <|
 some a_s
def zC4 (a_s:List (List Int)):Option (List (List Int)) :=
 chk (decide ((([]:List (List Int)).length+a_s.length)*24≤4294967296)) <|
 some a_s
def zGX (a_p0:zJ) (x1:List Int) (l1:List zo) (l2:List zL):Option zJ :=
 some (⟨x1,a_p0.batch,a_p0.high,l1,l2⟩:zJ)
def zEf (self0:Int→(List zL)→Option zJ) (i1:Int) (l4:List zL):Option zJ :=
 chk (inI (i1+1)) <|
 self0 (i1+1) l4
def zEk (self0:Int→(List zL)→Option zJ) (i1:Int) (l3:List zL) (l5:List (List Int)):Option zJ :=
 chk (inb i1 l3.length) <|
 zEf self0 i1 (l3.set i1.toNat ({ at_ l3 i1 with lists:=l5 }))
def zB5 (self0:Int→(List zL)→Option zJ) (i1:Int) (l3:List zL) (x4:List (List Int)) (self1:Int→(List (List Int))→Option zJ) (i2:Int) (l6:List (List Int)):Option zJ :=
 cnd (decide (i2<(x4.length:Int))) (
 chk (inb i2 l6.length) <|
 (zAo (at_ l6 i2)).bind fun x5 =>
 chk (inI (i2+1)) <|
 self1 (i2+1) (l6.set i2.toNat x5)) (
 zEk self0 i1 l3 l6)
def zDD (self0:Int→(List zL)→Option zJ) (i1:Int) (l3:List zL) (x4:List (List Int)):Nat→Int→(List (List Int))→Option zJ
  | 0,_,_=>none
  | n+1,i2,l6=>zB5 self0 i1 l3 x4 (zDD self0 i1 l3 x4 n) i2 l6
def zCD (a_p0:zJ) (x1:List Int) (x3:List zL) (l1:List zo) (self0:Int→(List zL)→Option zJ) (i1:Int) (l3:List zL):Option zJ :=
 cnd (decide (i1<(x3.length:Int))) (
 chk (inb i1 l3.length) <|
 (zC4 ((at_ l3 i1).lists)).bind fun x4 =>
 zDD self0 i1 l3 x4 z9 0 x4) (
 zGX a_p0 x1 l1 l3)
def zA3 (a_p0:zJ) (x1:List Int) (x3:List zL) (l1:List zo):Nat→Int→(List zL)→Option zJ
  | 0,_,_=>none
  | n+1,i1,l3=>zCD a_p0 x1 x3 l1 (zA3 a_p0 x1 x3 l1 n) i1 l3
def zEm (a_p0:zJ) (x1:List Int) (x3:List zL) (l1:List zo):Option zJ :=
 zA3 a_p0 x1 x3 l1 z9 0 x3
def zEo (self2:Int→(List zo)→Option zJ) (i3:Int) (l8:List zo):Option zJ :=
 chk (inI (i3+1)) <|
 self2 (i3+1) l8
def zBu (self2:Int→(List zo)→Option zJ) (i3:Int) (self3:Int→(List zo)→Option zJ) (i4:Int) (l9:List zo):Option zJ :=
 cnd (decide (i4<5)) (
 chk (inb i3 l9.length) <|
 chk (inb i4 5) <|
 (zAo (((at_ l9 i3).free).getD i4.toNat ([]:List Int))).bind fun x6 =>
 chk (inI (i4+1)) <|
 self3 (i4+1) (l9.set i3.toNat ({ at_ l9 i3 with free:=zDl 5 ([]:List Int) ((at_ l9 i3).free) i4.toNat x6 }))) (
 zEo self2 i3 l9)
def zCV (self2:Int→(List zo)→Option zJ) (i3:Int):Nat→Int→(List zo)→Option zJ
  | 0,_,_=>none
  | n+1,i4,l9=>zBu self2 i3 (zCV self2 i3 n) i4 l9
def zB7 (a_p0:zJ) (x1:List Int) (x2:List zo) (x3:List zL) (self2:Int→(List zo)→Option zJ) (i3:Int) (l7:List zo):Option zJ :=
 cnd (decide (i3<(x2.length:Int))) (
 zCV self2 i3 z9 0 l7) (
 zEm a_p0 x1 x3 l7)
def zBG (a_p0:zJ) (x1:List Int) (x2:List zo) (x3:List zL):Nat→Int→(List zo)→Option zJ
  | 0,_,_=>none
  | n+1,i3,l7=>zB7 a_p0 x1 x2 x3 (zBG a_p0 x1 x2 x3 n) i3 l7
def zBx (a_p0:zJ):Option zJ :=
 (zAo a_p0.nodes).bind fun x1 =>
 (zBL a_p0.zones).bind fun x2 =>
 (zAn a_p0.caches).bind fun x3 =>
 zBG a_p0 x1 x2 x3 z9 0 x2
def zHE (a_z:zo) (l1:List (List Int)) (i1:Int):Option zo :=
 chk (decide ((5:Int)≤i1)) <|
 some (⟨a_z.node,a_z.kind,a_z.start,a_z.count,a_z.min,l1⟩:zo)
def zDS (a_z:zo) (self0:Int→(List (List Int))→Option zo) (i2:Int) (l2:List (List Int)):Option zo :=
 cnd (decide (i2<5)) (
 chk (inb i2 5) <|
 (zAo (l2.getD i2.toNat [])).bind fun x1 =>
 chk (inI (i2+1)) <|
 self0 (i2+1) (zDl 5 [] l2 i2.toNat x1)) (
 zHE a_z l2 i2)
def zFf (a_z:zo):Nat→Int→(List (List Int))→Option zo
  | 0,_,_=>none
  | n+1,i2,l2=>zDS a_z (zFf a_z n) i2 l2
def zIF (a_z:zo):Option zo :=
 zFf a_z z9 0 a_z.free
def zIW (i1:Int) (x2:zo) (l1:List (List Int)):Option (zo×Int×Int) :=
 some ((⟨x2.node,x2.kind,x2.start,x2.count,x2.min,l1⟩:zo),at_ (x2.free.getD i1.toNat []) (0:Int),0)
def zIZ (a_p1:Int) (i1:Int) (x2:zo) (self0:Int→(List (List Int))→Option (zo×Int×Int)) (i2:Int) (l2:List (List Int)):Option (zo×Int×Int) :=
 cnd (decide (a_p1<i2)) (
 chk (inI (i2 - 1)) <|
 chk (zLc (i2 - 1)) <|
 chk (inI ((1:Int)*2 ^ (i2 - 1).toNat)) <|
 chk (inI ((at_ (x2.free.getD i1.toNat []) (0:Int))+((1:Int)*2 ^ (i2 - 1).toNat))) <|
 chk (inb (i2 - 1) 5) <|
 chk (decide ((i2 - 1)<i1)) <|
 (zAT (l2.getD (i2 - 1).toNat []) ((at_ (x2.free.getD i1.toNat []) (0:Int))+((1:Int)*2 ^ (i2 - 1).toNat))).bind fun x3 =>
 chk (zPZ (l2.getD (i2 - 1).toNat []) x3.1) <|
 self0 (i2 - 1) (zDl 5 [] l2 (i2 - 1).toNat (zPq (l2.getD (i2 - 1).toNat []) x3.1 ((at_ (x2.free.getD i1.toNat []) (0:Int))+((1:Int)*2 ^ (i2 - 1).toNat))))) (
 zIW i1 x2 l2)
def zHI (a_p1:Int) (i1:Int) (x2:zo):Nat→Int→(List (List Int))→Option (zo×Int×Int)
  | 0,_,_=>none
  | n+1,i2,l2=>zIZ a_p1 i1 x2 (zHI a_p1 i1 x2 n) i2 l2
def zIl (a_p0:zo) (a_p1:Int) (i1:Int):Option (zo×Int×Int) :=
 cnd (decide (4<i1)) (
 some ((⟨0,0,0,0,0,(List.replicate 5 ([]:List Int))⟩:zo),0,16)) (
 (zIF a_p0).bind fun x2 =>
 chk (inb i1 5) <|
 chk (decide (i1<(5:Int))) <|
 chk (inb (0:Int) (x2.free.getD i1.toNat []).length) <|
 chk (zNc 1 ((x2.free.getD i1.toNat []).length:Int) (x2.free.getD i1.toNat []).length) <|
 chk (decide (i1≤(5:Int))) <|
 zHI a_p1 i1 x2 z9 i1 (zDl 5 [] x2.free i1.toNat (zKK (x2.free.getD i1.toNat []) 1 ((x2.free.getD i1.toNat []).length:Int))))
def zIV (a_p0:zo) (a_p1:Int) (self1:Int→Option (zo×Int×Int)) (i3:Int):Option (zo×Int×Int) :=
 chk (!(decide (i3≤4))||inb i3 5) <|
 cnd ((decide (i3≤4))&&(decide (((a_p0.free.getD i3.toNat ([]:List Int)).length:Int)=0))) (
 chk (inI (i3+1)) <|
 self1 (i3+1)) (
 zIl a_p0 a_p1 i3)
def zHD (a_p0:zo) (a_p1:Int):Nat→Int→Option (zo×Int×Int)
  | 0,_=>none
  | n+1,i3=>zIV a_p0 a_p1 (zHD a_p0 a_p1 n) i3
def zI8 (a_p0:zo) (a_p1:Int):Option (zo×Int×Int) :=
 (zDT a_p0).bind fun x1 =>
 cnd (!decide (x1=0)) (
 some ((⟨0,0,0,0,0,(List.replicate 5 ([]:List Int))⟩:zo),0,x1)) (
 cnd ((decide (a_p1<0))||(decide (4<a_p1))) (
 some ((⟨0,0,0,0,0,(List.replicate 5 ([]:List Int))⟩:zo),0,2)) (
 zHD a_p0 a_p1 z9 a_p1))
def zF5 (a_c:zL) (a_zone:Int):Option Int :=
 (zF3 a_c (a_c.lists.length:Int)).bind fun x1 =>
 cnd (!decide (x1=0)) (
 some x1) (
 cnd ((decide (a_zone<0))||(decide ((a_c.lists.length:Int)≤a_zone))) (
 some 2) (
 some 0))
def zGs (l1:List (List Int)):Option zL :=
 some (⟨l1⟩:zL)
def zFM (self0:Int→(List (List Int))→Option zL) (i1:Int) (l2:List (List Int)) (d1:List Int):Option zL :=
 chk (decide (0≤(d1.length:Int))&&decide ((d1.length:Int)≤(d1.length:Int))&&decide ((d1.length:Int)*(8:Int)≤4294967296)) <|
 chk (inb i1 l2.length) <|
 chk (inI (i1+1)) <|
 self0 (i1+1) (l2.set i1.toNat (zCd (List.replicate (d1.length:Int).toNat 0) d1))
def zGq (a_c:zL) (a_zone:Int) (a_l:List Int) (self0:Int→(List (List Int))→Option zL) (i1:Int) (l2:List (List Int)):Option zL :=
 cnd (decide (i1<(a_c.lists.length:Int))) (
 chk (inb i1 a_c.lists.length) <|
 cnd (decide (i1=a_zone)) (
 zFM self0 i1 l2 a_l) (
 zFM self0 i1 l2 (at_ a_c.lists i1))) (
 zGs l2)
def zDy (a_c:zL) (a_zone:Int) (a_l:List Int):Nat→Int→(List (List Int))→Option zL
  | 0,_,_=>none
  | n+1,i1,l2=>zGq a_c a_zone a_l (zDy a_c a_zone a_l n) i1 l2
def zCS (a_c:zL) (a_zone:Int) (a_l:List Int):Option zL :=
 chk (decide (0≤(a_c.lists.length:Int))&&decide ((a_c.lists.length:Int)≤(a_c.lists.length:Int))&&decide ((a_c.lists.length:Int)*(24:Int)≤4294967296)) <|
 zDy a_c a_zone a_l z9 0 (List.replicate (a_c.lists.length:Int).toNat ([]:List Int))
def zHW (a_p0:zL) (a_p1:Int) (l1:List Int):Option (zL×Int) :=
 (zCS a_p0 a_p1 l1).bind fun x3 =>
 (zCS a_p0 a_p1 l1).bind fun x4 =>
 some (x4,0)
def zHl (a_p0:zL) (a_p1:Int) (a_p2:List Int) (self0:Int→(List Int)→Option (zL×Int)) (i1:Int) (l2:List Int):Option (zL×Int) :=
 cnd (decide (i1<(a_p2.length:Int))) (
 chk (inI ((a_p2.length:Int) - 1)) <|
 chk (inI (((a_p2.length:Int) - 1) - i1)) <|
 chk (inb (((a_p2.length:Int) - 1) - i1) a_p2.length) <|
 chk (decide ((l2.length+[at_ a_p2 (((a_p2.length:Int) - 1) - i1)].length)*8≤4294967296)) <|
 chk (inI (i1+1)) <|
 self0 (i1+1) (l2++[at_ a_p2 (((a_p2.length:Int) - 1) - i1)])) (
 zHW a_p0 a_p1 l2)
def zFu (a_p0:zL) (a_p1:Int) (a_p2:List Int):Nat→Int→(List Int)→Option (zL×Int)
  | 0,_,_=>none
  | n+1,i1,l2=>zHl a_p0 a_p1 a_p2 (zFu a_p0 a_p1 a_p2 n) i1 l2
def zHb (a_p0:zL) (a_p1:Int) (a_p2:List Int):Option (zL×Int) :=
 chk (inb a_p1 a_p0.lists.length) <|
 chk (decide (0≤((at_ a_p0.lists a_p1).length:Int))&&decide (((at_ a_p0.lists a_p1).length:Int)≤((at_ a_p0.lists a_p1).length:Int))&&decide (((at_ a_p0.lists a_p1).length:Int)*(8:Int)≤4294967296)) <|
 zFu a_p0 a_p1 a_p2 z9 0 (zCd (List.replicate ((at_ a_p0.lists a_p1).length:Int).toNat 0) (at_ a_p0.lists a_p1))
def zHa (a_p0:zL) (a_p1:Int) (a_p2:List Int) (self1:Int→(List (Int×Bool))→Option (zL×Int)) (i2:Int) (l3:List (Int×Bool)):Option (zL×Int) :=
 cnd (decide (i2<(a_p2.length:Int))) (
 chk (inb i2 a_p2.length) <|
 (zFY (at_ a_p2 i2)).bind fun x5 =>
 cnd (!x5) (
 some ((⟨([]:List (List Int))⟩:zL),2)) (
 cnd (zLQ false l3 (at_ a_p2 i2)) (
 some ((⟨([]:List (List Int))⟩:zL),7)) (
 chk (inI (i2+1)) <|
 self1 (i2+1) (zJQ l3 (at_ a_p2 i2) true)))) (
 zHb a_p0 a_p1 a_p2)
def zFs (a_p0:zL) (a_p1:Int) (a_p2:List Int):Nat→Int→(List (Int×Bool))→Option (zL×Int)
  | 0,_,_=>none
  | n+1,i2,l3=>zHa a_p0 a_p1 a_p2 (zFs a_p0 a_p1 a_p2 n) i2 l3
def zHu (a_p0:zL) (a_p1:Int) (a_p2:List Int):Option (zL×Int) :=
 (zF5 a_p0 a_p1).bind fun x1 =>
 cnd (!decide (x1=0)) (
 some ((⟨([]:List (List Int))⟩:zL),x1)) (
 (zFO a_p0).bind fun x2 =>
 zFs a_p0 a_p1 a_p2 z9 0 x2)
def zEF (a_p0:zJ) (l1:List zo) (l2:List Int) (l3:List zL):Option (zJ×Bool) :=
 some ((⟨a_p0.nodes,a_p0.batch,a_p0.high,l1,l3⟩:zJ),decide (0<(l2.length:Int)))
def zD2 (a_p0:zJ) (a_p1:Int) (a_p2:Int) (l1:List zo) (l2:List Int):Option (zJ×Bool) :=
 chk (inb a_p1 a_p0.caches.length) <|
 (zHu (at_ a_p0.caches a_p1) a_p2 l2).bind fun x1 =>
 (zHu (at_ a_p0.caches a_p1) a_p2 l2).bind fun x2 =>
 cnd (decide (x2.2=0)) (
 zEF a_p0 l1 l2 (a_p0.caches.set a_p1.toNat x2.1)) (
 zEF a_p0 l1 l2 a_p0.caches)
def zF1 (a_p0:zJ) (a_p1:Int) (a_p2:Int) (self0:Int→(List zo)→(List Int)→Option (zJ×Bool)) (i1:Int) (l4:List zo) (l5:List Int):Option (zJ×Bool) :=
 cnd (decide (i1<a_p0.batch)) (
 chk (inb a_p2 l4.length) <|
 (zI8 (at_ l4 a_p2) 0).bind fun x3 =>
 cnd (!decide (x3.2.2=0)) (
 zD2 a_p0 a_p1 a_p2 l4 l5) (
 chk (decide ((l5.length+[x3.2.1].length)*8≤4294967296)) <|
 chk (inI (i1+1)) <|
 self0 (i1+1) (l4.set a_p2.toNat x3.1) (l5++[x3.2.1]))) (
 zD2 a_p0 a_p1 a_p2 l4 l5)
def zD1 (a_p0:zJ) (a_p1:Int) (a_p2:Int):Nat→Int→(List zo)→(List Int)→Option (zJ×Bool)
  | 0,_,_,_=>none
  | n+1,i1,l4,l5=>zF1 a_p0 a_p1 a_p2 (zD1 a_p0 a_p1 a_p2 n) i1 l4 l5
def zFx (a_p0:zJ) (a_p1:Int) (a_p2:Int):Option (zJ×Bool) :=
 zD1 a_p0 a_p1 a_p2 z9 0 a_p0.zones []
def zJv (a_c:zL) (a_zone:Int):Option (zL×(List Int)×Int) :=
 (zF5 a_c a_zone).bind fun x1 =>
 cnd (!decide (x1=0)) (
 some ((⟨([]:List (List Int))⟩:zL),[],x1)) (
 chk (inb a_zone a_c.lists.length) <|
 chk (decide (0≤((at_ a_c.lists a_zone).length:Int))&&decide (((at_ a_c.lists a_zone).length:Int)≤((at_ a_c.lists a_zone).length:Int))&&decide (((at_ a_c.lists a_zone).length:Int)*(8:Int)≤4294967296)) <|
 (zCS a_c a_zone []).bind fun x2 =>
 some (x2,zCd (List.replicate ((at_ a_c.lists a_zone).length:Int).toNat 0) (at_ a_c.lists a_zone),0))
def zHs (a_z:zo) (a_frame:Int) (a_order:Int):Option (zo×Int) :=
 (zIF a_z).bind fun x3 =>
 (zI4 (⟨x3.node,x3.kind,x3.start,x3.count,x3.min,x3.free⟩:zo) a_frame a_order).bind fun x4 =>
 some ((⟨x4.node,x4.kind,x4.start,x4.count,x4.min,x4.free⟩:zo),0)
def zEC (a_z:zo) (a_frame:Int) (a_order:Int) (self0:Int→Option (zo×Int)) (i1:Int):Option (zo×Int) :=
 chk (zLc a_order) <|
 chk (inI ((1:Int)*2 ^ a_order.toNat)) <|
 chk (inI (a_frame+((1:Int)*2 ^ a_order.toNat))) <|
 cnd (decide (i1<(a_frame+((1:Int)*2 ^ a_order.toNat)))) (
 (zGz a_z i1).bind fun x5 =>
 cnd (decide (0≤x5.1)) (
 some ((⟨0,0,0,0,0,(List.replicate 5 ([]:List Int))⟩:zo),7)) (
 chk (inI (i1+1)) <|
 self0 (i1+1))) (
 zHs a_z a_frame a_order)
def zGI (a_z:zo) (a_frame:Int) (a_order:Int):Nat→Int→Option (zo×Int)
  | 0,_=>none
  | n+1,i1=>zEC a_z a_frame a_order (zGI a_z a_frame a_order n) i1
def zHx (a_z:zo) (a_frame:Int) (a_order:Int):Option (zo×Int) :=
 (zDT a_z).bind fun x1 =>
 cnd (!decide (x1=0)) (
 some ((⟨0,0,0,0,0,(List.replicate 5 ([]:List Int))⟩:zo),x1)) (
 (cnd (!((decide (a_order<0))||(decide (4<a_order)))) (zCF a_z a_frame a_order) (some default)).bind fun x2 =>
 cnd (((decide (a_order<0))||(decide (4<a_order)))||(!x2)) (
 some ((⟨0,0,0,0,0,(List.replicate 5 ([]:List Int))⟩:zo),2)) (
 zGI a_z a_frame a_order z9 a_frame))
def zFK (self0:Int→(List zo)→Option zJ) (i1:Int) (l2:List zo):Option zJ :=
 chk (inI (i1+1)) <|
 self0 (i1+1) l2
def zG6 (a_a:zJ) (a_z:Int) (a_frames:List Int) (self0:Int→(List zo)→Option zJ) (i1:Int) (l1:List zo):Option zJ :=
 cnd (decide (i1<(a_frames.length:Int))) (
 chk (inb i1 a_frames.length) <|
 chk (inb a_z l1.length) <|
 (zHx (at_ l1 a_z) (at_ a_frames i1) 0).bind fun x1 =>
 cnd (decide (x1.2=0)) (
 zFK self0 i1 (l1.set a_z.toNat x1.1)) (
 zFK self0 i1 l1)) (
 some (⟨a_a.nodes,a_a.batch,a_a.high,l1,a_a.caches⟩:zJ))
def zDx (a_a:zJ) (a_z:Int) (a_frames:List Int):Nat→Int→(List zo)→Option zJ
  | 0,_,_=>none
  | n+1,i1,l1=>zG6 a_a a_z a_frames (zDx a_a a_z a_frames n) i1 l1
def zHC (a_a:zJ) (a_z:Int) (a_frames:List Int):Option zJ :=
 zDx a_a a_z a_frames z9 0 a_a.zones
def zEx (a_a:zJ) (a_cpu:Int) (a_z:Int):Option zJ :=
 chk (inb a_cpu a_a.caches.length) <|
 (zJv (at_ a_a.caches a_cpu) a_z).bind fun x1 =>
 cnd (decide (x1.2.2=0)) (
 (zHC (⟨a_a.nodes,a_a.batch,a_a.high,a_a.zones,a_a.caches.set a_cpu.toNat x1.1⟩:zJ) a_z x1.2.1).bind fun x2 =>
 some (⟨x2.nodes,x2.batch,x2.high,x2.zones,x2.caches⟩:zJ)) (
 some (⟨a_a.nodes,a_a.batch,a_a.high,a_a.zones,a_a.caches⟩:zJ))
def zKH (a_c:zL) (a_zone:Int):Option (zL×Int×Int) :=
 (zF5 a_c a_zone).bind fun x1 =>
 cnd (!decide (x1=0)) (
 some ((⟨([]:List (List Int))⟩:zL),0,x1)) (
 chk (inb a_zone a_c.lists.length) <|
 cnd (decide (((at_ a_c.lists a_zone).length:Int)=0)) (
 some ((⟨([]:List (List Int))⟩:zL),0,6)) (
 chk (inI (((at_ a_c.lists a_zone).length:Int) - 1)) <|
 chk (zNc 0 (((at_ a_c.lists a_zone).length:Int) - 1) (at_ a_c.lists a_zone).length) <|
 (zCS a_c a_zone (zKK (at_ a_c.lists a_zone) 0 (((at_ a_c.lists a_zone).length:Int) - 1))).bind fun x2 =>
 chk (inb (((at_ a_c.lists a_zone).length:Int) - 1) (at_ a_c.lists a_zone).length) <|
 some (x2,at_ (at_ a_c.lists a_zone) (((at_ a_c.lists a_zone).length:Int) - 1),0)))
def zGN  : Option (zJ×Int×Int) :=
 some ((⟨([]:List Int),0,0,([]:List zo),([]:List zL)⟩:zJ),0,16)
def zGh (self0:Int→Option (zJ×Int×Int)) (i1:Int):Option (zJ×Int×Int) :=
 chk (inI (i1+1)) <|
 self0 (i1+1)
def zEc (a_p1:Int) (x2:(List Int)×Int) (i1:Int) (d1:List Int) (d2:Int) (d3:Int) (l1:List zo) (l2:List zL):Option (zJ×Int×Int) :=
 chk (inb a_p1 l2.length) <|
 (zKH (at_ l2 a_p1) (at_ x2.1 i1)).bind fun x6 =>
 cnd (!decide (x6.2.2=0)) (
 some ((⟨([]:List Int),0,0,([]:List zo),([]:List zL)⟩:zJ),0,x6.2.2)) (
 some ((⟨d1,d2,d3,l1,l2.set a_p1.toNat x6.1⟩:zJ),x6.2.1,0))
def zGa (a_p1:Int) (x2:(List Int)×Int) (i1:Int) (d4:List Int) (d5:Int) (d6:Int) (l3:List zo) (l4:List zL):Option (zJ×Int×Int) :=
 (zFx (⟨d4,d5,d6,l3,l4⟩:zJ) a_p1 (at_ x2.1 i1)).bind fun x8 =>
 zEc a_p1 x2 i1 x8.1.nodes x8.1.batch x8.1.high x8.1.zones x8.1.caches
def zEn (self1:Int→(List Int)→Int→Int→(List zo)→(List zL)→Option (zJ×Int×Int)) (i2:Int) (d10:List Int) (d11:Int) (d12:Int) (l7:List zo) (l8:List zL):Option (zJ×Int×Int) :=
 chk (inI (i2+1)) <|
 self1 (i2+1) d10 d11 d12 l7 l8
def zGW (a_p1:Int) (x2:(List Int)×Int) (i1:Int) (x7:zJ×Bool) (self1:Int→(List Int)→Int→Int→(List zo)→(List zL)→Option (zJ×Int×Int)) (i2:Int) (d7:List Int) (d8:Int) (d9:Int) (l5:List zo) (l6:List zL):Option (zJ×Int×Int) :=
 cnd (decide (i2<(x7.1.caches.length:Int))) (
 cnd (!decide (i2=a_p1)) (
 (zEx (⟨d7,d8,d9,l5,l6⟩:zJ) i2 (at_ x2.1 i1)).bind fun x9 =>
 zEn self1 i2 x9.nodes x9.batch x9.high x9.zones x9.caches) (
 zEn self1 i2 d7 d8 d9 l5 l6)) (
 zGa a_p1 x2 i1 d7 d8 d9 l5 l6)
def zDB (a_p1:Int) (x2:(List Int)×Int) (i1:Int) (x7:zJ×Bool):Nat→Int→(List Int)→Int→Int→(List zo)→(List zL)→Option (zJ×Int×Int)
  | 0,_,_,_,_,_,_=>none
  | n+1,i2,d7,d8,d9,l5,l6=>zGW a_p1 x2 i1 x7 (zDB a_p1 x2 i1 x7 n) i2 d7 d8 d9 l5 l6
def zGc (a_p0:zJ) (a_p1:Int) (a_p3:Bool) (x2:(List Int)×Int) (self0:Int→Option (zJ×Int×Int)) (i1:Int):Option (zJ×Int×Int) :=
 cnd (decide (i1<(x2.1.length:Int))) (
 chk (inb i1 x2.1.length) <|
 (cnd a_p3 (zE8 a_p0 (at_ x2.1 i1)) (some default)).bind fun x3 =>
 (cnd (!(a_p3&&(decide (x3=0))) && !a_p3) (zFg a_p0 (at_ x2.1 i1)) (some default)).bind fun x4 =>
 cnd ((a_p3&&(decide (x3=0)))||((!a_p3)&&(decide (x4<1)))) (
 zGh self0 i1) (
 (zBx a_p0).bind fun x5 =>
 chk (inb a_p1 x5.caches.length) <|
 chk (inb (at_ x2.1 i1) ((at_ x5.caches a_p1).lists).length) <|
 (cnd (decide (((at_ ((at_ x5.caches a_p1).lists) (at_ x2.1 i1)).length:Int)=0)) (zFx (⟨x5.nodes,x5.batch,x5.high,x5.zones,x5.caches⟩:zJ) a_p1 (at_ x2.1 i1)) (some ((⟨x5.nodes,x5.batch,x5.high,x5.zones,x5.caches⟩:zJ),default))).bind fun x7 =>
 cnd ((decide (((at_ ((at_ x5.caches a_p1).lists) (at_ x2.1 i1)).length:Int)=0))&&(!x7.2)) (
 zDB a_p1 x2 i1 x7 z9 0 x7.1.nodes x7.1.batch x7.1.high x7.1.zones x7.1.caches) (
 zEc a_p1 x2 i1 x7.1.nodes x7.1.batch x7.1.high x7.1.zones x7.1.caches))) (
 zGN )
def zDJ (a_p0:zJ) (a_p1:Int) (a_p3:Bool) (x2:(List Int)×Int):Nat→Int→Option (zJ×Int×Int)
  | 0,_=>none
  | n+1,i1=>zGc a_p0 a_p1 a_p3 x2 (zDJ a_p0 a_p1 a_p3 x2 n) i1
def zHz (a_p0:zJ) (a_p1:Int) (a_p2:Bool) (a_p3:Bool):Option (zJ×Int×Int) :=
 (zAl a_p0).bind fun x1 =>
 cnd (!decide (x1=0)) (
 some ((⟨([]:List Int),0,0,([]:List zo),([]:List zL)⟩:zJ),0,x1)) (
 cnd ((decide (a_p1<0))||(decide ((a_p0.nodes.length:Int)≤a_p1))) (
 some ((⟨([]:List Int),0,0,([]:List zo),([]:List zL)⟩:zJ),0,2)) (
 chk (inb a_p1 a_p0.nodes.length) <|
 (zHG a_p0.zones (at_ a_p0.nodes a_p1) a_p2).bind fun x2 =>
 zDJ a_p0 a_p1 a_p3 x2 z9 0))
def zDz  : Option Int :=
 some (-1)
def zA1 (a_s:List Int) (a_v:Int) (self0:Int→Option Int) (i1:Int):Option Int :=
 cnd (decide (i1<(a_s.length:Int))) (
 chk (inb i1 a_s.length) <|
 cnd (decide (a_v=(at_ a_s i1))) (
 some i1) (
 chk (inI (i1+1)) <|
 self0 (i1+1))) (
 zDz )
def zAy (a_s:List Int) (a_v:Int):Nat→Int→Option Int
  | 0,_=>none
  | n+1,i1=>zA1 a_s a_v (zAy a_s a_v n) i1
def zC8 (a_s:List Int) (a_v:Int):Option Int :=
 zAy a_s a_v z9 0
def zBe (a_s:List Int) (a_v:Int):Option Bool :=
 (zC8 a_s a_v).bind fun x1 =>
 some (decide (0≤x1))
def zBF (a_c:zL) (c_0:Int) (c_1:Int):Option Bool :=
 chk (inb c_0 a_c.lists.length) <|
 (zBe (at_ a_c.lists c_0) c_1).bind fun x1 =>
 some x1
def zAt  : Option Int :=
 some (-1)
def zAB (a_s:List zL) (a_f:zL→Option Bool) (self0:Int→Option Int) (i1:Int):Option Int :=
 cnd (decide (i1<(a_s.length:Int))) (
 chk (inb i1 a_s.length) <|
 (a_f (at_ a_s i1)).bind fun x1 =>
 cnd (x1) (
 some i1) (
 chk (inI (i1+1)) <|
 self0 (i1+1))) (
 zAt )
def zAA (a_s:List zL) (a_f:zL→Option Bool):Nat→Int→Option Int
  | 0,_=>none
  | n+1,i1=>zAB a_s a_f (zAA a_s a_f n) i1
def zAi (a_s:List zL) (a_f:zL→Option Bool):Option Int :=
 zAA a_s a_f z9 0
def zEN (a_a:zJ) (a_z:Int) (a_frame:Int):Option Int :=
 (zAi a_a.caches (fun y0=>zBF y0 a_z a_frame)).bind fun x1 =>
 some x1
def zDN (a_a:zJ) (a_z:Int) (a_frame:Int):Option Bool :=
 chk (inb a_z a_a.zones.length) <|
 (zF2 (at_ a_a.zones a_z) a_frame).bind fun x1 =>
 (cnd (!x1) (zEN a_a a_z a_frame) (some default)).bind fun x2 =>
 some (x1||(decide (0≤x2)))
def zFv (a_a:zJ) (a_frame:Int):Option Bool :=
 (zAl a_a).bind fun x1 =>
 cnd (!decide (x1=0)) (
 some false) (
 (zBq a_a a_frame).bind fun x2 =>
 (cnd (decide (0≤x2)) (zDN a_a x2 a_frame) (some default)).bind fun x3 =>
 some ((decide (0≤x2))&&x3))
def zH0 (a_a:zJ) (a_z:Int):Option Int :=
 (zAl a_a).bind fun x1 =>
 cnd (((!decide (x1=0))||(decide (a_z<0)))||(decide ((a_a.zones.length:Int)≤a_z))) (
 some 0) (
 (zE8 a_a a_z).bind fun x2 =>
 some x2)
def zIa (a_a:zJ) (a_frame:Int):Option Int :=
 (zAl a_a).bind fun x1 =>
 cnd (!decide (x1=0)) (
 some (-1)) (
 (zBq a_a a_frame).bind fun x2 =>
 some x2)
def zK3 (a_p0:zL) (a_p1:Int) (a_p2:Int) (a_p3:Int) (a_p4:Int):Option (zL×(List Int)×Int) :=
 (zF5 a_p0 a_p1).bind fun x1 =>
 cnd (!decide (x1=0)) (
 some ((⟨([]:List (List Int))⟩:zL),[],x1)) (
 (zFY a_p2).bind fun x2 =>
 cnd (!x2) (
 some ((⟨([]:List (List Int))⟩:zL),[],2)) (
 cnd ((decide (a_p3<1))||(decide (a_p4<a_p3))) (
 some ((⟨([]:List (List Int))⟩:zL),[],1)) (
 (zFO a_p0).bind fun x3 =>
 cnd (zLQ false x3 a_p2) (
 some ((⟨([]:List (List Int))⟩:zL),[],7)) (
 chk (inb a_p1 a_p0.lists.length) <|
 chk (inI (((at_ a_p0.lists a_p1).length:Int)+1)) <|
 chk (decide (0≤((at_ a_p0.lists a_p1).length:Int))&&decide (((at_ a_p0.lists a_p1).length:Int)≤(((at_ a_p0.lists a_p1).length:Int)+1))&&decide ((((at_ a_p0.lists a_p1).length:Int)+1)*(8:Int)≤4294967296)) <|
 chk (decide (((zCd (List.replicate ((at_ a_p0.lists a_p1).length:Int).toNat 0) (at_ a_p0.lists a_p1)).length+[a_p2].length)*8≤4294967296)) <|
 cnd (decide ((((zCd (List.replicate ((at_ a_p0.lists a_p1).length:Int).toNat 0) (at_ a_p0.lists a_p1))++[a_p2]).length:Int)≤a_p4)) (
 (zCS a_p0 a_p1 ((zCd (List.replicate ((at_ a_p0.lists a_p1).length:Int).toNat 0) (at_ a_p0.lists a_p1))++[a_p2])).bind fun x4 =>
 (zCS a_p0 a_p1 ((zCd (List.replicate ((at_ a_p0.lists a_p1).length:Int).toNat 0) (at_ a_p0.lists a_p1))++[a_p2])).bind fun x5 =>
 some (x5,[],0)) (
 chk (decide (0≤a_p3)&&decide (a_p3≤a_p3)&&decide (a_p3*(8:Int)≤4294967296)) <|
 chk (zNc a_p3 (((zCd (List.replicate ((at_ a_p0.lists a_p1).length:Int).toNat 0) (at_ a_p0.lists a_p1))++[a_p2]).length:Int) ((zCd (List.replicate ((at_ a_p0.lists a_p1).length:Int).toNat 0) (at_ a_p0.lists a_p1))++[a_p2]).length) <|
 (zCS a_p0 a_p1 (zKK ((zCd (List.replicate ((at_ a_p0.lists a_p1).length:Int).toNat 0) (at_ a_p0.lists a_p1))++[a_p2]) a_p3 (((zCd (List.replicate ((at_ a_p0.lists a_p1).length:Int).toNat 0) (at_ a_p0.lists a_p1))++[a_p2]).length:Int))).bind fun x6 =>
 some (x6,zCd (List.replicate a_p3.toNat 0) ((zCd (List.replicate ((at_ a_p0.lists a_p1).length:Int).toNat 0) (at_ a_p0.lists a_p1))++[a_p2]),0))))))
def zIT (a_p0:zJ) (a_p1:Int) (a_p2:Int):Option (zJ×Int) :=
 (zAl a_p0).bind fun x1 =>
 cnd (!decide (x1=0)) (
 some ((⟨([]:List Int),0,0,([]:List zo),([]:List zL)⟩:zJ),x1)) (
 (zBq a_p0 a_p2).bind fun x2 =>
 cnd (((decide (a_p1<0))||(decide ((a_p0.nodes.length:Int)≤a_p1)))||(decide (x2<0))) (
 some ((⟨([]:List Int),0,0,([]:List zo),([]:List zL)⟩:zJ),2)) (
 (zDN a_p0 x2 a_p2).bind fun x3 =>
 cnd (x3) (
 some ((⟨([]:List Int),0,0,([]:List zo),([]:List zL)⟩:zJ),7)) (
 (zBx a_p0).bind fun x4 =>
 chk (inb a_p1 x4.caches.length) <|
 (zK3 (at_ x4.caches a_p1) x2 a_p2 x4.batch x4.high).bind fun x5 =>
 cnd (!decide (x5.2.2=0)) (
 some ((⟨([]:List Int),0,0,([]:List zo),([]:List zL)⟩:zJ),x5.2.2)) (
 (zHC (⟨x4.nodes,x4.batch,x4.high,x4.zones,x4.caches.set a_p1.toNat x5.1⟩:zJ) x2 x5.2.1).bind fun x6 =>
 some ((⟨x6.nodes,x6.batch,x6.high,x6.zones,x6.caches⟩:zJ),0)))))
def zD7  : Option (zJ×Int×Int) :=
 some ((⟨([]:List Int),0,0,([]:List zo),([]:List zL)⟩:zJ),0,16)
def zCf (self0:Int→(List Int)→Int→Int→(List zo)→(List zL)→Option (zJ×Int×Int)) (i1:Int) (d4:List Int) (d5:Int) (d6:Int) (l3:List zo) (l4:List zL):Option (zJ×Int×Int) :=
 chk (inI (i1+1)) <|
 self0 (i1+1) d4 d5 d6 l3 l4
def zEI (self0:Int→(List Int)→Int→Int→(List zo)→(List zL)→Option (zJ×Int×Int)) (a_p2:Int) (x3:(List Int)×Int) (i1:Int) (d7:List Int) (d8:Int) (d9:Int) (l5:List zo) (l6:List zL):Option (zJ×Int×Int) :=
 chk (inb (at_ x3.1 i1) l5.length) <|
 (zI8 (at_ l5 (at_ x3.1 i1)) a_p2).bind fun x5 =>
 cnd (decide (x5.2.2=0)) (
 some ((⟨d7,d8,d9,l5.set (at_ x3.1 i1).toNat x5.1,l6⟩:zJ),x5.2.1,0)) (
 zCf self0 i1 d7 d8 d9 l5 l6)
def zD6 (self0:Int→(List Int)→Int→Int→(List zo)→(List zL)→Option (zJ×Int×Int)) (a_p2:Int) (x3:(List Int)×Int) (i1:Int) (l2:List zL) (self1:Int→(List Int)→Int→Int→(List zo)→(List zL)→Option (zJ×Int×Int)) (i2:Int) (d10:List Int) (d11:Int) (d12:Int) (l7:List zo) (l8:List zL):Option (zJ×Int×Int) :=
 cnd (decide (i2<(l2.length:Int))) (
 (zEx (⟨d10,d11,d12,l7,l8⟩:zJ) i2 (at_ x3.1 i1)).bind fun x6 =>
 chk (inI (i2+1)) <|
 self1 (i2+1) x6.nodes x6.batch x6.high x6.zones x6.caches) (
 zEI self0 a_p2 x3 i1 d10 d11 d12 l7 l8)
def zCg (self0:Int→(List Int)→Int→Int→(List zo)→(List zL)→Option (zJ×Int×Int)) (a_p2:Int) (x3:(List Int)×Int) (i1:Int) (l2:List zL):Nat→Int→(List Int)→Int→Int→(List zo)→(List zL)→Option (zJ×Int×Int)
  | 0,_,_,_,_,_,_=>none
  | n+1,i2,d10,d11,d12,l7,l8=>zD6 self0 a_p2 x3 i1 l2 (zCg self0 a_p2 x3 i1 l2 n) i2 d10 d11 d12 l7 l8
def zEA (a_p2:Int) (x3:(List Int)×Int) (self0:Int→(List Int)→Int→Int→(List zo)→(List zL)→Option (zJ×Int×Int)) (i1:Int) (d1:List Int) (d2:Int) (d3:Int) (l1:List zo) (l2:List zL):Option (zJ×Int×Int) :=
 cnd (decide (i1<(x3.1.length:Int))) (
 chk (inb i1 x3.1.length) <|
 (zFg (⟨d1,d2,d3,l1,l2⟩:zJ) (at_ x3.1 i1)).bind fun x4 =>
 chk (zLc a_p2) <|
 chk (inI ((1:Int)*2 ^ a_p2.toNat)) <|
 cnd (decide (x4<((1:Int)*2 ^ a_p2.toNat))) (
 zCf self0 i1 d1 d2 d3 l1 l2) (
 zCg self0 a_p2 x3 i1 l2 z9 0 d1 d2 d3 l1 l2)) (
 zD7 )
def zAj (a_p2:Int) (x3:(List Int)×Int):Nat→Int→(List Int)→Int→Int→(List zo)→(List zL)→Option (zJ×Int×Int)
  | 0,_,_,_,_,_,_=>none
  | n+1,i1,d1,d2,d3,l1,l2=>zEA a_p2 x3 (zAj a_p2 x3 n) i1 d1 d2 d3 l1 l2
def zFT (a_p0:zJ) (a_p1:Int) (a_p2:Int):Option (zJ×Int×Int) :=
 (zAl a_p0).bind fun x1 =>
 cnd (!decide (x1=0)) (
 some ((⟨([]:List Int),0,0,([]:List zo),([]:List zL)⟩:zJ),0,x1)) (
 cnd ((((decide (a_p1<0))||(decide ((a_p0.nodes.length:Int)≤a_p1)))||(decide (a_p2<0)))||(decide (4<a_p2))) (
 some ((⟨([]:List Int),0,0,([]:List zo),([]:List zL)⟩:zJ),0,2)) (
 (zBx a_p0).bind fun x2 =>
 chk (inb a_p1 a_p0.nodes.length) <|
 (zHG a_p0.zones (at_ a_p0.nodes a_p1) false).bind fun x3 =>
 zAj a_p2 x3 z9 0 x2.nodes x2.batch x2.high x2.zones x2.caches))
def zGm (d1:List Int) (d2:Int) (d3:Int) (l1:List zo) (l2:List zL):Option zJ :=
 some (⟨d1,d2,d3,l1,l2⟩:zJ)
def zGS (self0:Int→(List Int)→Int→Int→(List zo)→(List zL)→Option zJ) (i1:Int) (d7:List Int) (d8:Int) (d9:Int) (l5:List zo) (l6:List zL):Option zJ :=
 chk (inI (i1+1)) <|
 self0 (i1+1) d7 d8 d9 l5 l6
def zGD (self0:Int→(List Int)→Int→Int→(List zo)→(List zL)→Option zJ) (i1:Int) (l3:List zo) (self1:Int→(List Int)→Int→Int→(List zo)→(List zL)→Option zJ) (i2:Int) (d10:List Int) (d11:Int) (d12:Int) (l7:List zo) (l8:List zL):Option zJ :=
 cnd (decide (i2<(l3.length:Int))) (
 (zEx (⟨d10,d11,d12,l7,l8⟩:zJ) i1 i2).bind fun x3 =>
 chk (inI (i2+1)) <|
 self1 (i2+1) x3.nodes x3.batch x3.high x3.zones x3.caches) (
 zGS self0 i1 d10 d11 d12 l7 l8)
def zEe (self0:Int→(List Int)→Int→Int→(List zo)→(List zL)→Option zJ) (i1:Int) (l3:List zo):Nat→Int→(List Int)→Int→Int→(List zo)→(List zL)→Option zJ
  | 0,_,_,_,_,_,_=>none
  | n+1,i2,d10,d11,d12,l7,l8=>zGD self0 i1 l3 (zEe self0 i1 l3 n) i2 d10 d11 d12 l7 l8
def zGH (x2:zJ) (self0:Int→(List Int)→Int→Int→(List zo)→(List zL)→Option zJ) (i1:Int) (d4:List Int) (d5:Int) (d6:Int) (l3:List zo) (l4:List zL):Option zJ :=
 cnd (decide (i1<(x2.caches.length:Int))) (
 zEe self0 i1 l3 z9 0 d4 d5 d6 l3 l4) (
 zGm d4 d5 d6 l3 l4)
def zBX (x2:zJ):Nat→Int→(List Int)→Int→Int→(List zo)→(List zL)→Option zJ
  | 0,_,_,_,_,_,_=>none
  | n+1,i1,d4,d5,d6,l3,l4=>zGH x2 (zBX x2 n) i1 d4 d5 d6 l3 l4
def zH8 (a_a:zJ):Option zJ :=
 (zAl a_a).bind fun x1 =>
 cnd (!decide (x1=0)) (
 some (⟨([]:List Int),0,0,([]:List zo),([]:List zL)⟩:zJ)) (
 (zBx a_a).bind fun x2 =>
 zBX x2 z9 0 x2.nodes x2.batch x2.high x2.zones x2.caches)
def zG1  : Option Bool :=
 some true
def zCI (a_a:List Int) (a_b:List Int) (self0:Int→Option Bool) (i1:Int):Option Bool :=
 cnd (decide (i1<(a_a.length:Int))) (
 chk (inb i1 a_a.length) <|
 chk (inb i1 a_b.length) <|
 cnd (!decide ((at_ a_a i1)=(at_ a_b i1))) (
 some false) (
 chk (inI (i1+1)) <|
 self0 (i1+1))) (
 zG1 )
def zDt (a_a:List Int) (a_b:List Int):Nat→Int→Option Bool
  | 0,_=>none
  | n+1,i1=>zCI a_a a_b (zDt a_a a_b n) i1
def zES (a_a:List Int) (a_b:List Int):Option Bool :=
 cnd (!decide ((a_a.length:Int)=(a_b.length:Int))) (
 some false) (
 zDt a_a a_b z9 0)
def zGw  : Option Bool :=
 some true
def zCG (a_a:List Int) (a_b:List Int) (self0:Int→Option Bool) (i1:Int):Option Bool :=
 cnd (decide (i1<(a_a.length:Int))) (
 chk (inb i1 a_a.length) <|
 chk (inb i1 a_b.length) <|
 cnd (!decide ((at_ a_a i1)=(at_ a_b i1))) (
 some false) (
 chk (inI (i1+1)) <|
 self0 (i1+1))) (
 zGw )
def zDr (a_a:List Int) (a_b:List Int):Nat→Int→Option Bool
  | 0,_=>none
  | n+1,i1=>zCG a_a a_b (zDr a_a a_b n) i1
def zFc (a_a:List Int) (a_b:List Int):Option Bool :=
 cnd (!decide ((a_a.length:Int)=(a_b.length:Int))) (
 some false) (
 zDr a_a a_b z9 0)
def zI5  : Option Bool :=
 some true
def zEE (a_a:zo) (a_b:zo) (self0:Int→Option Bool) (i1:Int):Option Bool :=
 cnd (decide (i1≤4)) (
 chk (inb i1 5) <|
 (zFc (a_a.free.getD i1.toNat ([]:List Int)) (a_b.free.getD i1.toNat ([]:List Int))).bind fun x1 =>
 cnd (!x1) (
 some false) (
 chk (inI (i1+1)) <|
 self0 (i1+1))) (
 zI5 )
def zGf (a_a:zo) (a_b:zo):Nat→Int→Option Bool
  | 0,_=>none
  | n+1,i1=>zEE a_a a_b (zGf a_a a_b n) i1
def zI1 (a_a:zo) (a_b:zo):Option Bool :=
 cnd (((((!decide (a_a.node=a_b.node))||(!decide (a_a.kind=a_b.kind)))||(!decide (a_a.start=a_b.start)))||(!decide (a_a.count=a_b.count)))||(!decide (a_a.min=a_b.min))) (
 some false) (
 zGf a_a a_b z9 0)
def zJJ  : Option Bool :=
 some true
def zD3 (a_a:zL) (a_b:zL) (self0:Int→Option Bool) (i1:Int):Option Bool :=
 cnd (decide (i1<(a_a.lists.length:Int))) (
 chk (inb i1 a_a.lists.length) <|
 chk (inb i1 a_b.lists.length) <|
 (zES (at_ a_a.lists i1) (at_ a_b.lists i1)).bind fun x1 =>
 cnd (!x1) (
 some false) (
 chk (inI (i1+1)) <|
 self0 (i1+1))) (
 zJJ )
def zF9 (a_a:zL) (a_b:zL):Nat→Int→Option Bool
  | 0,_=>none
  | n+1,i1=>zD3 a_a a_b (zF9 a_a a_b n) i1
def zIs (a_a:zL) (a_b:zL):Option Bool :=
 cnd (!decide ((a_a.lists.length:Int)=(a_b.lists.length:Int))) (
 some false) (
 zF9 a_a a_b z9 0)
def zJK  : Option Bool :=
 some true
def zD8 (a_p0:zJ) (a_p1:zJ) (self0:Int→Option Bool) (i1:Int):Option Bool :=
 cnd (decide (i1<(a_p0.caches.length:Int))) (
 chk (inb i1 a_p0.caches.length) <|
 chk (inb i1 a_p1.caches.length) <|
 (zIs (at_ a_p0.caches i1) (at_ a_p1.caches i1)).bind fun x2 =>
 cnd (!x2) (
 some false) (
 chk (inI (i1+1)) <|
 self0 (i1+1))) (
 zJK )
def zGZ (a_p0:zJ) (a_p1:zJ):Nat→Int→Option Bool
  | 0,_=>none
  | n+1,i1=>zD8 a_p0 a_p1 (zGZ a_p0 a_p1 n) i1
def zJB (a_p0:zJ) (a_p1:zJ):Option Bool :=
 zGZ a_p0 a_p1 z9 0
def zD9 (a_p0:zJ) (a_p1:zJ) (self1:Int→Option Bool) (i2:Int):Option Bool :=
 cnd (decide (i2<(a_p0.zones.length:Int))) (
 chk (inb i2 a_p0.zones.length) <|
 chk (inb i2 a_p1.zones.length) <|
 (zI1 (at_ a_p0.zones i2) (at_ a_p1.zones i2)).bind fun x3 =>
 cnd (!x3) (
 some false) (
 chk (inI (i2+1)) <|
 self1 (i2+1))) (
 zJB a_p0 a_p1)
def zGg (a_p0:zJ) (a_p1:zJ):Nat→Int→Option Bool
  | 0,_=>none
  | n+1,i2=>zD9 a_p0 a_p1 (zGg a_p0 a_p1 n) i2
def zHy (a_p0:zJ) (a_p1:zJ):Option Bool :=
 (zES a_p0.nodes a_p1.nodes).bind fun x1 =>
 cnd (((((!x1)||(!decide (a_p0.batch=a_p1.batch)))||(!decide (a_p0.high=a_p1.high)))||(!decide ((a_p0.zones.length:Int)=(a_p1.zones.length:Int))))||(!decide ((a_p0.caches.length:Int)=(a_p1.caches.length:Int)))) (
 some false) (
 zGg a_p0 a_p1 z9 0)
def zH3  : Option Bool :=
 (zGU [0,1] 2 3 [(⟨0,0,8,2⟩:zBz),(⟨1,1,8,0⟩:zBz)]).bind fun x1 =>
 (zGU [0,1] 2 3 [(⟨0,0,8,2⟩:zBz),(⟨1,1,8,0⟩:zBz)]).bind fun x2 =>
 (zGU [0,1] 2 3 [(⟨0,0,8,2⟩:zBz),(⟨1,1,8,0⟩:zBz)]).bind fun x3 =>
 (cnd (!(((!decide (x3.2=0))||(!decide ((x3.1.zones.length:Int)=2)))||(!decide ((x3.1.caches.length:Int)=2)))) (zAl x3.1) (some default)).bind fun x4 =>
 (cnd (!((((!decide (x3.2=0))||(!decide ((x3.1.zones.length:Int)=2)))||(!decide ((x3.1.caches.length:Int)=2)))||(!decide (x4=0)))) (zHZ x3.1) (some default)).bind fun x5 =>
 cnd (((((!decide (x3.2=0))||(!decide ((x3.1.zones.length:Int)=2)))||(!decide ((x3.1.caches.length:Int)=2)))||(!decide (x4=0)))||(!decide (x5=16))) (
 some false) (
 (zGe x3.1).bind fun x6 =>
 (zHz x3.1 0 true false).bind fun x7 =>
 (cnd (!((((!decide (x6.1=6))||(!decide (x6.2=14)))||(!decide (x7.2.2=0)))||(!decide (x7.2.1=0)))) (zFv x7.1 0) (some default)).bind fun x8 =>
 (cnd (!(((((!decide (x6.1=6))||(!decide (x6.2=14)))||(!decide (x7.2.2=0)))||(!decide (x7.2.1=0)))||x8)) (zFv x7.1 1) (some default)).bind fun x9 =>
 (cnd (!((((((!decide (x6.1=6))||(!decide (x6.2=14)))||(!decide (x7.2.2=0)))||(!decide (x7.2.1=0)))||x8)||(!x9))) (zH0 x7.1 0) (some default)).bind fun x10 =>
 (cnd (!(((((((!decide (x6.1=6))||(!decide (x6.2=14)))||(!decide (x7.2.2=0)))||(!decide (x7.2.1=0)))||x8)||(!x9))||(!decide (x10=7)))) (zIa x7.1 8) (some default)).bind fun x11 =>
 cnd ((((((((!decide (x6.1=6))||(!decide (x6.2=14)))||(!decide (x7.2.2=0)))||(!decide (x7.2.1=0)))||x8)||(!x9))||(!decide (x10=7)))||(!decide (x11=1))) (
 some false) (
 (zIT x7.1 1 0).bind fun x12 =>
 cnd (!decide (x12.2=0)) (
 some false) (
 (zFT x3.1 1 3).bind fun x13 =>
 (cnd ((decide (x13.2.2=0))&&(decide (x13.2.1=8))) (zH8 x12.1) (some default)).bind fun x14 =>
 (cnd ((decide (x13.2.2=0))&&(decide (x13.2.1=8))) (zHy x14 x3.1) (some default)).bind fun x15 =>
 some (((decide (x13.2.2=0))&&(decide (x13.2.1=8)))&&x15))))
def zJk  : Option Bool :=
 some true
def zE9 (a_z:zo) (self0:Int→Option Bool) (i1:Int):Option Bool :=
 cnd (decide (i1≤4)) (
 chk (inb i1 5) <|
 cnd (decide (300<((a_z.free.getD i1.toNat ([]:List Int)).length:Int))) (
 some false) (
 chk (inI (i1+1)) <|
 self0 (i1+1))) (
 zJk )
def zEy (a_z:zo):Nat→Int→Option Bool
  | 0,_=>none
  | n+1,i1=>zE9 a_z (zEy a_z n) i1
def zKf (a_z:zo):Option Bool :=
 zEy a_z z9 0
def zJ0  : Option Bool :=
 some true
def zFD (a_c:zL) (self0:Int→Option Bool) (i1:Int):Option Bool :=
 cnd (decide (i1<(a_c.lists.length:Int))) (
 chk (inb i1 a_c.lists.length) <|
 cnd (decide (300<((at_ a_c.lists i1).length:Int))) (
 some false) (
 chk (inI (i1+1)) <|
 self0 (i1+1))) (
 zJ0 )
def zE5 (a_c:zL):Nat→Int→Option Bool
  | 0,_=>none
  | n+1,i1=>zFD a_c (zE5 a_c n) i1
def zJS (a_c:zL):Option Bool :=
 cnd (decide (20<(a_c.lists.length:Int))) (
 some false) (
 zE5 a_c z9 0)
def zJw  : Option Bool :=
 some true
def zE0 (a_a:zJ) (self0:Int→Option Bool) (i1:Int):Option Bool :=
 cnd (decide (i1<(a_a.caches.length:Int))) (
 chk (inb i1 a_a.caches.length) <|
 (zJS (at_ a_a.caches i1)).bind fun x1 =>
 cnd (!x1) (
 some false) (
 chk (inI (i1+1)) <|
 self0 (i1+1))) (
 zJw )
def zEs (a_a:zJ):Nat→Int→Option Bool
  | 0,_=>none
  | n+1,i1=>zE0 a_a (zEs a_a n) i1
def zJf (a_a:zJ):Option Bool :=
 zEs a_a z9 0
def zEu (a_a:zJ) (self1:Int→Option Bool) (i2:Int):Option Bool :=
 cnd (decide (i2<(a_a.zones.length:Int))) (
 chk (inb i2 a_a.zones.length) <|
 (zKf (at_ a_a.zones i2)).bind fun x2 =>
 cnd (!x2) (
 some false) (
 chk (inI (i2+1)) <|
 self1 (i2+1))) (
 zJf a_a)
def zEt (a_a:zJ):Nat→Int→Option Bool
  | 0,_=>none
  | n+1,i2=>zEu a_a (zEt a_a n) i2
def zJs (a_a:zJ):Option Bool :=
 cnd (((decide (20<(a_a.nodes.length:Int)))||(decide (20<(a_a.zones.length:Int))))||(decide (20<(a_a.caches.length:Int)))) (
 some false) (
 zEt a_a z9 0)
def zC2 (a_p0:zJ) (a_p1:Int) (a_p2:Int) (x2:Int):Option (zJ×Int) :=
 (zBx a_p0).bind fun x4 =>
 chk (inb x2 x4.zones.length) <|
 (zHx (at_ x4.zones x2) a_p1 a_p2).bind fun x5 =>
 cnd (!decide (x5.2=0)) (
 some ((⟨([]:List Int),0,0,([]:List zo),([]:List zL)⟩:zJ),x5.2)) (
 some ((⟨x4.nodes,x4.batch,x4.high,x4.zones.set x2.toNat x5.1,x4.caches⟩:zJ),0))
def zBB (a_p0:zJ) (a_p1:Int) (a_p2:Int) (x2:Int) (self0:Int→Option (zJ×Int)) (i1:Int):Option (zJ×Int) :=
 chk (zLc a_p2) <|
 chk (inI ((1:Int)*2 ^ a_p2.toNat)) <|
 chk (inI (a_p1+((1:Int)*2 ^ a_p2.toNat))) <|
 cnd (decide (i1<(a_p1+((1:Int)*2 ^ a_p2.toNat)))) (
 (zDN a_p0 x2 i1).bind fun x6 =>
 cnd (x6) (
 some ((⟨([]:List Int),0,0,([]:List zo),([]:List zL)⟩:zJ),7)) (
 chk (inI (i1+1)) <|
 self0 (i1+1))) (
 zC2 a_p0 a_p1 a_p2 x2)
def zAu (a_p0:zJ) (a_p1:Int) (a_p2:Int) (x2:Int):Nat→Int→Option (zJ×Int)
  | 0,_=>none
  | n+1,i1=>zBB a_p0 a_p1 a_p2 x2 (zAu a_p0 a_p1 a_p2 x2 n) i1
def zCv (a_p0:zJ) (a_p1:Int) (a_p2:Int):Option (zJ×Int) :=
 (zAl a_p0).bind fun x1 =>
 cnd (!decide (x1=0)) (
 some ((⟨([]:List Int),0,0,([]:List zo),([]:List zL)⟩:zJ),x1)) (
 (zBq a_p0 a_p1).bind fun x2 =>
 chk (!(!(((decide (a_p2<0))||(decide (4<a_p2)))||(decide (x2<0))))||zLc a_p2) <|
 chk (!(!(((decide (a_p2<0))||(decide (4<a_p2)))||(decide (x2<0))))||inI ((1:Int)*2 ^ a_p2.toNat)) <|
 chk (!(!(((decide (a_p2<0))||(decide (4<a_p2)))||(decide (x2<0))))||(!decide (((1:Int)*2 ^ a_p2.toNat)=0))) <|
 chk (!(!((((decide (a_p2<0))||(decide (4<a_p2)))||(decide (x2<0)))||(!decide ((a_p1.tmod ((1:Int)*2 ^ a_p2.toNat))=0))))||zLc a_p2) <|
 chk (!(!((((decide (a_p2<0))||(decide (4<a_p2)))||(decide (x2<0)))||(!decide ((a_p1.tmod ((1:Int)*2 ^ a_p2.toNat))=0))))||inI ((1:Int)*2 ^ a_p2.toNat)) <|
 chk (!(!((((decide (a_p2<0))||(decide (4<a_p2)))||(decide (x2<0)))||(!decide ((a_p1.tmod ((1:Int)*2 ^ a_p2.toNat))=0))))||inI (a_p1+((1:Int)*2 ^ a_p2.toNat))) <|
 chk (!(!((((decide (a_p2<0))||(decide (4<a_p2)))||(decide (x2<0)))||(!decide ((a_p1.tmod ((1:Int)*2 ^ a_p2.toNat))=0))))||inI ((a_p1+((1:Int)*2 ^ a_p2.toNat)) - 1)) <|
 (cnd (!((((decide (a_p2<0))||(decide (4<a_p2)))||(decide (x2<0)))||(!decide ((a_p1.tmod ((1:Int)*2 ^ a_p2.toNat))=0)))) (zBq a_p0 ((a_p1+((1:Int)*2 ^ a_p2.toNat)) - 1)) (some default)).bind fun x3 =>
 cnd (((((decide (a_p2<0))||(decide (4<a_p2)))||(decide (x2<0)))||(!decide ((a_p1.tmod ((1:Int)*2 ^ a_p2.toNat))=0)))||(!decide (x3=x2))) (
 some ((⟨([]:List Int),0,0,([]:List zo),([]:List zL)⟩:zJ),2)) (
 zAu a_p0 a_p1 a_p2 x2 z9 a_p1))
def zHk  : Option Bool :=
 some true
def zCa (a_nodes:List Int) (self0:Int→Option Bool) (i1:Int):Option Bool :=
 cnd (decide (i1<(a_nodes.length:Int))) (
 chk (inb i1 a_nodes.length) <|
 cnd ((decide ((at_ a_nodes i1)<0))||(decide (4≤(at_ a_nodes i1)))) (
 some false) (
 chk (inI (i1+1)) <|
 self0 (i1+1))) (
 zHk )
def zER (a_nodes:List Int):Nat→Int→Option Bool
  | 0,_=>none
  | n+1,i1=>zCa a_nodes (zER a_nodes n) i1
def zGE (a_nodes:List Int) (a_batch:Int) (a_high:Int) (a_zones:Int):Option Bool :=
 cnd (((((((decide ((a_nodes.length:Int)<1))||(decide (4<(a_nodes.length:Int))))||(decide (a_batch<1)))||(decide (a_high<a_batch)))||(decide (64<a_high)))||(decide (a_zones<1)))||(decide (6<a_zones))) (
 some false) (
 zER a_nodes z9 0)
def zGY (a_z:zo):Option Bool :=
 cnd (((decide (a_z.node<0))||(decide (4≤a_z.node)))||((!decide (a_z.kind=0))&&(!decide (a_z.kind=1)))) (
 some false) (
 chk (!(((decide (0≤a_z.start))&&(decide (1≤a_z.count)))&&(decide (a_z.count≤256)))||inI (256 - a_z.count)) <|
 some ((((((decide (0≤a_z.start))&&(decide (1≤a_z.count)))&&(decide (a_z.count≤256)))&&(decide (a_z.start≤(256 - a_z.count))))&&(decide (0≤a_z.min)))&&(decide (a_z.min≤a_z.count))))
def zBR (a_z:zo) (a_frame:Int) (a_order:Int):Option Bool :=
 chk (!(!(((decide (a_order<0))||(decide (4<a_order)))||(decide (a_frame<a_z.start))))||inI (a_z.start+a_z.count)) <|
 cnd ((((decide (a_order<0))||(decide (4<a_order)))||(decide (a_frame<a_z.start)))||(decide ((a_z.start+a_z.count)≤a_frame))) (
 some false) (
 chk (decide (IntKind.u64.wrap a_order=a_order)) <|
 chk (zLc a_order) <|
 chk (inI ((1:Int)*2 ^ a_order.toNat)) <|
 chk (!decide (((1:Int)*2 ^ a_order.toNat)=0)) <|
 chk (!(decide ((a_frame.tmod ((1:Int)*2 ^ a_order.toNat))=0))||inI (a_frame+((1:Int)*2 ^ a_order.toNat))) <|
 chk (!(decide ((a_frame.tmod ((1:Int)*2 ^ a_order.toNat))=0))||inI (a_z.start+a_z.count)) <|
 some ((decide ((a_frame.tmod ((1:Int)*2 ^ a_order.toNat))=0))&&(decide ((a_frame+((1:Int)*2 ^ a_order.toNat))≤(a_z.start+a_z.count)))))
def zGi  : Option Int :=
 some 0
def zEq (self0:Int→Option Int) (i1:Int):Option Int :=
 chk (inI (i1+1)) <|
 self0 (i1+1)
def zCC (self0:Int→Option Int) (a_z:zo) (i1:Int) (self1:Int→Option Int) (i2:Int):Option Int :=
 chk (inb i1 5) <|
 cnd (decide (i2<((a_z.free.getD i1.toNat ([]:List Int)).length:Int))) (
 chk (inb i2 (a_z.free.getD i1.toNat ([]:List Int)).length) <|
 (zBR a_z (at_ (a_z.free.getD i1.toNat ([]:List Int)) i2) i1).bind fun x1 =>
 cnd (!x1) (
 some 3) (
 chk (!(decide (0<i2))||inI (i2 - 1)) <|
 chk (!(decide (0<i2))||inb (i2 - 1) (a_z.free.getD i1.toNat ([]:List Int)).length) <|
 cnd ((decide (0<i2))&&(decide ((at_ (a_z.free.getD i1.toNat ([]:List Int)) i2)≤(at_ (a_z.free.getD i1.toNat ([]:List Int)) (i2 - 1))))) (
 some 10) (
 chk (inI (i2+1)) <|
 self1 (i2+1)))) (
 zEq self0 i1)
def zDA (self0:Int→Option Int) (a_z:zo) (i1:Int):Nat→Int→Option Int
  | 0,_=>none
  | n+1,i2=>zCC self0 a_z i1 (zDA self0 a_z i1 n) i2
def zB4 (a_z:zo) (self0:Int→Option Int) (i1:Int):Option Int :=
 cnd (decide (i1≤4)) (
 zDA self0 a_z i1 z9 0) (
 zGi )
def zBD (a_z:zo):Nat→Int→Option Int
  | 0,_=>none
  | n+1,i1=>zB4 a_z (zBD a_z n) i1
def zGF (a_z:zo):Option Int :=
 zBD a_z z9 0
def zJp (l1:List Int):Option (List Int) :=
 some l1
def zIM (self0:Int→(List Int)→Option (List Int)) (i1:Int) (l3:List Int):Option (List Int) :=
 chk (inI (i1+1)) <|
 self0 (i1+1) l3
def zIO (self1:Int→(List Int)→Option (List Int)) (i2:Int) (l5:List Int):Option (List Int) :=
 chk (inI (i2+1)) <|
 self1 (i2+1) l5
def zFH (self1:Int→(List Int)→Option (List Int)) (a_z:zo) (i1:Int) (i2:Int) (self2:Int→(List Int)→Option (List Int)) (i3:Int) (l6:List Int):Option (List Int) :=
 chk (inb i1 5) <|
 chk (inb i2 (a_z.free.getD i1.toNat ([]:List Int)).length) <|
 chk (decide (IntKind.u64.wrap i1=i1)) <|
 chk (zLc i1) <|
 chk (inI ((1:Int)*2 ^ i1.toNat)) <|
 chk (inI ((at_ (a_z.free.getD i1.toNat ([]:List Int)) i2)+((1:Int)*2 ^ i1.toNat))) <|
 cnd (decide (i3<((at_ (a_z.free.getD i1.toNat ([]:List Int)) i2)+((1:Int)*2 ^ i1.toNat)))) (
 chk (inb i3 l6.length) <|
 chk (inI ((at_ l6 i3)+1)) <|
 chk (inI (i3+1)) <|
 self2 (i3+1) (l6.set i3.toNat ((at_ l6 i3)+1))) (
 zIO self1 i2 l6)
def zHQ (self1:Int→(List Int)→Option (List Int)) (a_z:zo) (i1:Int) (i2:Int):Nat→Int→(List Int)→Option (List Int)
  | 0,_,_=>none
  | n+1,i3,l6=>zFH self1 a_z i1 i2 (zHQ self1 a_z i1 i2 n) i3 l6
def zFA (self0:Int→(List Int)→Option (List Int)) (a_z:zo) (i1:Int) (self1:Int→(List Int)→Option (List Int)) (i2:Int) (l4:List Int):Option (List Int) :=
 chk (inb i1 5) <|
 cnd (decide (i2<((a_z.free.getD i1.toNat ([]:List Int)).length:Int))) (
 chk (inb i2 (a_z.free.getD i1.toNat ([]:List Int)).length) <|
 zHQ self1 a_z i1 i2 z9 (at_ (a_z.free.getD i1.toNat ([]:List Int)) i2) l4) (
 zIM self0 i1 l4)
def zCi (self0:Int→(List Int)→Option (List Int)) (a_z:zo) (i1:Int):Nat→Int→(List Int)→Option (List Int)
  | 0,_,_=>none
  | n+1,i2,l4=>zFA self0 a_z i1 (zCi self0 a_z i1 n) i2 l4
def zE7 (a_z:zo) (self0:Int→(List Int)→Option (List Int)) (i1:Int) (l2:List Int):Option (List Int) :=
 cnd (decide (i1≤4)) (
 zCi self0 a_z i1 z9 0 l2) (
 zJp l2)
def zBU (a_z:zo):Nat→Int→(List Int)→Option (List Int)
  | 0,_,_=>none
  | n+1,i1,l2=>zE7 a_z (zBU a_z n) i1 l2
def zIB (a_z:zo):Option (List Int) :=
 chk (decide (0≤(256:Int))&&decide ((256:Int)≤(256:Int))&&decide ((256:Int)*(8:Int)≤4294967296)) <|
 zBU a_z z9 0 (List.replicate (256:Int).toNat 0)
def zIX  : Option Int :=
 some 0
def zG9 (self0:Int→Option Int) (i1:Int):Option Int :=
 chk (inI (i1+1)) <|
 self0 (i1+1)
def zDX (self0:Int→Option Int) (a_p0:zo) (i1:Int) (self1:Int→Option Int) (i2:Int):Option Int :=
 chk (inb i1 5) <|
 cnd (decide (i2<((a_p0.free.getD i1.toNat ([]:List Int)).length:Int))) (
 chk (inb i2 (a_p0.free.getD i1.toNat ([]:List Int)).length) <|
 chk (inI (i2 - 1)) <|
 chk (inb (i2 - 1) (a_p0.free.getD i1.toNat ([]:List Int)).length) <|
 chk (decide (IntKind.u64.wrap i1=i1)) <|
 chk (zLc i1) <|
 chk (inI ((1:Int)*2 ^ i1.toNat)) <|
 chk (inI ((at_ (a_p0.free.getD i1.toNat ([]:List Int)) (i2 - 1))+((1:Int)*2 ^ i1.toNat))) <|
 chk (!(decide ((at_ (a_p0.free.getD i1.toNat ([]:List Int)) i2)=((at_ (a_p0.free.getD i1.toNat ([]:List Int)) (i2 - 1))+((1:Int)*2 ^ i1.toNat))))||inI (i1+1)) <|
 (cnd (decide ((at_ (a_p0.free.getD i1.toNat ([]:List Int)) i2)=((at_ (a_p0.free.getD i1.toNat ([]:List Int)) (i2 - 1))+((1:Int)*2 ^ i1.toNat)))) (zBR a_p0 (at_ (a_p0.free.getD i1.toNat ([]:List Int)) (i2 - 1)) (i1+1)) (some default)).bind fun x4 =>
 cnd ((decide ((at_ (a_p0.free.getD i1.toNat ([]:List Int)) i2)=((at_ (a_p0.free.getD i1.toNat ([]:List Int)) (i2 - 1))+((1:Int)*2 ^ i1.toNat))))&&x4) (
 some 11) (
 chk (inI (i2+1)) <|
 self1 (i2+1))) (
 zG9 self0 i1)
def zBo (self0:Int→Option Int) (a_p0:zo) (i1:Int):Nat→Int→Option Int
  | 0,_=>none
  | n+1,i2=>zDX self0 a_p0 i1 (zBo self0 a_p0 i1 n) i2
def zDe (a_p0:zo) (self0:Int→Option Int) (i1:Int):Option Int :=
 cnd (decide (i1<4)) (
 zBo self0 a_p0 i1 z9 1) (
 zIX )
def zBr (a_p0:zo):Nat→Int→Option Int
  | 0,_=>none
  | n+1,i1=>zDe a_p0 (zBr a_p0 n) i1
def zET (a_p0:zo):Option Int :=
 zBr a_p0 z9 0
def zDY (a_p0:zo) (x3:List Int) (self2:Int→Option Int) (i3:Int):Option Int :=
 cnd (decide (i3<(x3.length:Int))) (
 chk (inb i3 x3.length) <|
 cnd (decide (1<(at_ x3 i3))) (
 some 7) (
 chk (inI (i3+1)) <|
 self2 (i3+1))) (
 zET a_p0)
def zBn (a_p0:zo) (x3:List Int):Nat→Int→Option Int
  | 0,_=>none
  | n+1,i3=>zDY a_p0 x3 (zBn a_p0 x3 n) i3
def zFz (a_p0:zo):Option Int :=
 (zGY a_p0).bind fun x1 =>
 cnd (!x1) (
 some 2) (
 (zGF a_p0).bind fun x2 =>
 cnd (!decide (x2=0)) (
 some x2) (
 (zIB a_p0).bind fun x3 =>
 zBn a_p0 x3 z9 0))
def zGC (a_f:Int):Option Bool :=
 some ((decide (a_f<0))||(decide (256≤a_f)))
def zIi  : Option Int :=
 some 0
def zHL (self0:Int→(List Bool)→Option Int) (i1:Int) (l2:List Bool):Option Int :=
 chk (inI (i1+1)) <|
 self0 (i1+1) l2
def zDL (self0:Int→(List Bool)→Option Int) (a_p0:zL) (i1:Int) (self1:Int→(List Bool)→Option Int) (i2:Int) (l3:List Bool):Option Int :=
 cnd (decide (i2<((at_ a_p0.lists i1).length:Int))) (
 chk (inb i2 (at_ a_p0.lists i1).length) <|
 chk (inb (at_ (at_ a_p0.lists i1) i2) l3.length) <|
 cnd (at_ l3 (at_ (at_ a_p0.lists i1) i2)) (
 some 7) (
 chk (inI (i2+1)) <|
 self1 (i2+1) (l3.set (at_ (at_ a_p0.lists i1) i2).toNat true))) (
 zHL self0 i1 l3)
def zFn (self0:Int→(List Bool)→Option Int) (a_p0:zL) (i1:Int):Nat→Int→(List Bool)→Option Int
  | 0,_,_=>none
  | n+1,i2,l3=>zDL self0 a_p0 i1 (zFn self0 a_p0 i1 n) i2 l3
def zDk (a_p0:zL) (self0:Int→(List Bool)→Option Int) (i1:Int) (l1:List Bool):Option Int :=
 cnd (decide (i1<(a_p0.lists.length:Int))) (
 chk (inb i1 a_p0.lists.length) <|
 zFn self0 a_p0 i1 z9 0 l1) (
 zIi )
def zCJ (a_p0:zL):Nat→Int→(List Bool)→Option Int
  | 0,_,_=>none
  | n+1,i1,l1=>zDk a_p0 (zCJ a_p0 n) i1 l1
def zFb (a_p0:zL):Option Int :=
 chk (decide (0≤(256:Int))&&decide ((256:Int)≤(256:Int))&&decide ((256:Int)*(1:Int)≤4294967296)) <|
 zCJ a_p0 z9 0 (List.replicate (256:Int).toNat false)
def zHK (self2:Int→Option Int) (i3:Int):Option Int :=
 chk (inI (i3+1)) <|
 self2 (i3+1)
def zDg (self2:Int→Option Int) (a_p0:zL) (i3:Int) (self3:Int→Option Int) (i4:Int):Option Int :=
 cnd (decide (i4<((at_ a_p0.lists i3).length:Int))) (
 chk (inb i4 (at_ a_p0.lists i3).length) <|
 (zGC (at_ (at_ a_p0.lists i3) i4)).bind fun x1 =>
 cnd (x1) (
 some 2) (
 chk (inI (i4+1)) <|
 self3 (i4+1))) (
 zHK self2 i3)
def zFd (self2:Int→Option Int) (a_p0:zL) (i3:Int):Nat→Int→Option Int
  | 0,_=>none
  | n+1,i4=>zDg self2 a_p0 i3 (zFd self2 a_p0 i3 n) i4
def zDV (a_p0:zL) (self2:Int→Option Int) (i3:Int):Option Int :=
 cnd (decide (i3<(a_p0.lists.length:Int))) (
 chk (inb i3 a_p0.lists.length) <|
 zFd self2 a_p0 i3 z9 0) (
 zFb a_p0)
def zCL (a_p0:zL):Nat→Int→Option Int
  | 0,_=>none
  | n+1,i3=>zDV a_p0 (zCL a_p0 n) i3
def zID (a_p0:zL) (a_p1:Int):Option Int :=
 cnd ((decide (a_p1<1))||(decide (6<a_p1))) (
 some 1) (
 cnd (!decide ((a_p0.lists.length:Int)=a_p1)) (
 some 3) (
 zCL a_p0 z9 0))
def zF6 (a_z:zo) (a_frame:Int):Option Bool :=
 (zFz a_z).bind fun x1 =>
 (cnd (decide (x1=0)) (zBR a_z a_frame 0) (some default)).bind fun x2 =>
 (cnd ((decide (x1=0))&&x2) (zIB a_z) (some default)).bind fun x3 =>
 chk (!((decide (x1=0))&&x2)||inb a_frame x3.length) <|
 some (((decide (x1=0))&&x2)&&(decide (0<(at_ x3 a_frame))))
def zFW  : Option Int :=
 some 0
def zDo (self0:Int→(List Bool)→Option Int) (i1:Int) (l2:List Bool):Option Int :=
 chk (inI (i1+1)) <|
 self0 (i1+1) l2
def zDq (self1:Int→(List Bool)→Option Int) (i2:Int) (l4:List Bool):Option Int :=
 chk (inI (i2+1)) <|
 self1 (i2+1) l4
def zBQ (self1:Int→(List Bool)→Option Int) (a_p0:zJ) (i1:Int) (i2:Int) (self2:Int→(List Bool)→Option Int) (i3:Int) (l5:List Bool):Option Int :=
 cnd (decide (i3<((at_ ((at_ a_p0.caches i1).lists) i2).length:Int))) (
 chk (inb i3 (at_ ((at_ a_p0.caches i1).lists) i2).length) <|
 chk (inb i2 a_p0.zones.length) <|
 chk (!(!(decide ((at_ (at_ ((at_ a_p0.caches i1).lists) i2) i3)<((at_ a_p0.zones i2).start))))||inI (((at_ a_p0.zones i2).start)+((at_ a_p0.zones i2).count))) <|
 cnd ((decide ((at_ (at_ ((at_ a_p0.caches i1).lists) i2) i3)<((at_ a_p0.zones i2).start)))||(decide ((((at_ a_p0.zones i2).start)+((at_ a_p0.zones i2).count))≤(at_ (at_ ((at_ a_p0.caches i1).lists) i2) i3)))) (
 some 2) (
 chk (inb (at_ (at_ ((at_ a_p0.caches i1).lists) i2) i3) l5.length) <|
 (cnd (!(at_ l5 (at_ (at_ ((at_ a_p0.caches i1).lists) i2) i3))) (zF6 (at_ a_p0.zones i2) (at_ (at_ ((at_ a_p0.caches i1).lists) i2) i3)) (some default)).bind fun x1 =>
 cnd ((at_ l5 (at_ (at_ ((at_ a_p0.caches i1).lists) i2) i3))||x1) (
 some 7) (
 chk (inI (i3+1)) <|
 self2 (i3+1) (l5.set (at_ (at_ ((at_ a_p0.caches i1).lists) i2) i3).toNat true)))) (
 zDq self1 i2 l5)
def zCE (self1:Int→(List Bool)→Option Int) (a_p0:zJ) (i1:Int) (i2:Int):Nat→Int→(List Bool)→Option Int
  | 0,_,_=>none
  | n+1,i3,l5=>zBQ self1 a_p0 i1 i2 (zCE self1 a_p0 i1 i2 n) i3 l5
def zBS (self0:Int→(List Bool)→Option Int) (a_p0:zJ) (i1:Int) (self1:Int→(List Bool)→Option Int) (i2:Int) (l3:List Bool):Option Int :=
 cnd (decide (i2<(a_p0.zones.length:Int))) (
 chk (inb i1 a_p0.caches.length) <|
 chk (inb i2 ((at_ a_p0.caches i1).lists).length) <|
 zCE self1 a_p0 i1 i2 z9 0 l3) (
 zDo self0 i1 l3)
def zAZ (self0:Int→(List Bool)→Option Int) (a_p0:zJ) (i1:Int):Nat→Int→(List Bool)→Option Int
  | 0,_,_=>none
  | n+1,i2,l3=>zBS self0 a_p0 i1 (zAZ self0 a_p0 i1 n) i2 l3
def zBN (a_p0:zJ) (self0:Int→(List Bool)→Option Int) (i1:Int) (l1:List Bool):Option Int :=
 cnd (decide (i1<(a_p0.caches.length:Int))) (
 zAZ self0 a_p0 i1 z9 0 l1) (
 zFW )
def zAM (a_p0:zJ):Nat→Int→(List Bool)→Option Int
  | 0,_,_=>none
  | n+1,i1,l1=>zBN a_p0 (zAM a_p0 n) i1 l1
def zFL (a_p0:zJ):Option Int :=
 chk (decide (0≤(256:Int))&&decide ((256:Int)≤(256:Int))&&decide ((256:Int)*(1:Int)≤4294967296)) <|
 zAM a_p0 z9 0 (List.replicate (256:Int).toNat false)
def zCe (a_a:zJ):Option Int :=
 (zFL a_a).bind fun x1 =>
 some x1
def zDp (self0:Int→Option Int) (i1:Int):Option Int :=
 chk (inI (i1+1)) <|
 self0 (i1+1)
def zBM (self0:Int→Option Int) (a_a:zJ) (i1:Int) (self1:Int→Option Int) (i2:Int):Option Int :=
 cnd (decide (i2<(a_a.zones.length:Int))) (
 chk (inb i1 a_a.caches.length) <|
 chk (inb i2 ((at_ a_a.caches i1).lists).length) <|
 cnd (decide (a_a.high<((at_ ((at_ a_a.caches i1).lists) i2).length:Int))) (
 some 9) (
 chk (inI (i2+1)) <|
 self1 (i2+1))) (
 zDp self0 i1)
def zCc (self0:Int→Option Int) (a_a:zJ) (i1:Int):Nat→Int→Option Int
  | 0,_=>none
  | n+1,i2=>zBM self0 a_a i1 (zCc self0 a_a i1 n) i2
def zBO (a_a:zJ) (self0:Int→Option Int) (i1:Int):Option Int :=
 cnd (decide (i1<(a_a.caches.length:Int))) (
 chk (inb i1 a_a.caches.length) <|
 (zID (at_ a_a.caches i1) (a_a.zones.length:Int)).bind fun x2 =>
 cnd (!decide (x2=0)) (
 some x2) (
 zCc self0 a_a i1 z9 0)) (
 zCe a_a)
def zAw (a_a:zJ):Nat→Int→Option Int
  | 0,_=>none
  | n+1,i1=>zBO a_a (zAw a_a n) i1
def zFQ (a_a:zJ):Option Int :=
 cnd (!decide ((a_a.caches.length:Int)=(a_a.nodes.length:Int))) (
 some 3) (
 zAw a_a z9 0)
def zFj (a_a:zJ):Option Int :=
 (zFQ a_a).bind fun x2 =>
 some x2
def zDj (a_a:zJ) (self0:Int→Int→Option Int) (i1:Int) (i2:Int):Option Int :=
 cnd (decide (i2<(a_a.zones.length:Int))) (
 chk (inb i2 a_a.zones.length) <|
 (zFz (at_ a_a.zones i2)).bind fun x3 =>
 cnd (!decide (x3=0)) (
 some x3) (
 cnd (!decide (((at_ a_a.zones i2).start)=i1)) (
 some 10) (
 chk (inI (i1+((at_ a_a.zones i2).count))) <|
 chk (inI (i2+1)) <|
 self0 (i1+((at_ a_a.zones i2).count)) (i2+1)))) (
 zFj a_a)
def zFk (a_a:zJ):Nat→Int→Int→Option Int
  | 0,_,_=>none
  | n+1,i1,i2=>zDj a_a (zFk a_a n) i1 i2
def zIG (a_a:zJ):Option Int :=
 (zGE a_a.nodes a_a.batch a_a.high (a_a.zones.length:Int)).bind fun x1 =>
 cnd (!x1) (
 some 2) (
 zFk a_a z9 0 0)
def zI6  : Option Int :=
 some (-1)
def zEH (a_a:zJ) (a_frame:Int) (self0:Int→Option Int) (i1:Int):Option Int :=
 cnd (decide (i1<(a_a.zones.length:Int))) (
 chk (inb i1 a_a.zones.length) <|
 chk (!(decide (((at_ a_a.zones i1).start)≤a_frame))||inI (((at_ a_a.zones i1).start)+((at_ a_a.zones i1).count))) <|
 cnd ((decide (((at_ a_a.zones i1).start)≤a_frame))&&(decide (a_frame<(((at_ a_a.zones i1).start)+((at_ a_a.zones i1).count))))) (
 some i1) (
 chk (inI (i1+1)) <|
 self0 (i1+1))) (
 zI6 )
def zGG (a_a:zJ) (a_frame:Int):Nat→Int→Option Int
  | 0,_=>none
  | n+1,i1=>zEH a_a a_frame (zGG a_a a_frame n) i1
def zIo (a_a:zJ) (a_frame:Int):Option Int :=
 zGG a_a a_frame z9 0
def zH2  : Option Int :=
 some (-1)
def zGT (self0:Int→Option Int) (i1:Int):Option Int :=
 chk (inI (i1+1)) <|
 self0 (i1+1)
def zCt (self0:Int→Option Int) (a_a:zJ) (a_zone:Int) (a_frame:Int) (i1:Int) (self1:Int→Option Int) (i2:Int):Option Int :=
 chk (inb i1 a_a.caches.length) <|
 chk (inb a_zone ((at_ a_a.caches i1).lists).length) <|
 cnd (decide (i2<((at_ ((at_ a_a.caches i1).lists) a_zone).length:Int))) (
 chk (inb i2 (at_ ((at_ a_a.caches i1).lists) a_zone).length) <|
 cnd (decide ((at_ (at_ ((at_ a_a.caches i1).lists) a_zone) i2)=a_frame)) (
 some i1) (
 chk (inI (i2+1)) <|
 self1 (i2+1))) (
 zGT self0 i1)
def zB1 (self0:Int→Option Int) (a_a:zJ) (a_zone:Int) (a_frame:Int) (i1:Int):Nat→Int→Option Int
  | 0,_=>none
  | n+1,i2=>zCt self0 a_a a_zone a_frame i1 (zB1 self0 a_a a_zone a_frame i1 n) i2
def zCu (a_a:zJ) (a_zone:Int) (a_frame:Int) (self0:Int→Option Int) (i1:Int):Option Int :=
 cnd (decide (i1<(a_a.caches.length:Int))) (
 zB1 self0 a_a a_zone a_frame i1 z9 0) (
 zH2 )
def zA8 (a_a:zJ) (a_zone:Int) (a_frame:Int):Nat→Int→Option Int
  | 0,_=>none
  | n+1,i1=>zCu a_a a_zone a_frame (zA8 a_a a_zone a_frame n) i1
def zIR (a_a:zJ) (a_zone:Int) (a_frame:Int):Option Int :=
 zA8 a_a a_zone a_frame z9 0
def zI2 (a_a:zJ) (a_zone:Int) (a_frame:Int):Option Bool :=
 chk (inb a_zone a_a.zones.length) <|
 (zF6 (at_ a_a.zones a_zone) a_frame).bind fun x1 =>
 (cnd (!x1) (zIR a_a a_zone a_frame) (some default)).bind fun x2 =>
 some (x1||(decide (0≤x2)))
def zIk (l1:List (List Int)):Option zL :=
 some (⟨l1⟩:zL)
def zDc (a_c:zL) (self0:Int→(List (List Int))→Option zL) (i1:Int) (l2:List (List Int)):Option zL :=
 cnd (decide (i1<(a_c.lists.length:Int))) (
 chk (inb i1 a_c.lists.length) <|
 chk (decide ((([]:List Int).length+(at_ a_c.lists i1).length)*8≤4294967296)) <|
 chk (decide ((l2.length+[([]:List Int)++(at_ a_c.lists i1)].length)*24≤4294967296)) <|
 chk (inI (i1+1)) <|
 self0 (i1+1) (l2++[([]:List Int)++(at_ a_c.lists i1)])) (
 zIk l2)
def zFh (a_c:zL):Nat→Int→(List (List Int))→Option zL
  | 0,_,_=>none
  | n+1,i1,l2=>zDc a_c (zFh a_c n) i1 l2
def zI7 (a_c:zL):Option zL :=
 zFh a_c z9 0 ([]:List (List Int))
def zIm (a_p0:zJ) (l1:List zo) (l2:List zL):Option zJ :=
 some (⟨([]:List Int)++a_p0.nodes,a_p0.batch,a_p0.high,l1,l2⟩:zJ)
def zDW (a_p0:zJ) (l1:List zo) (self0:Int→(List zL)→Option zJ) (i1:Int) (l3:List zL):Option zJ :=
 cnd (decide (i1<(a_p0.caches.length:Int))) (
 chk (inb i1 a_p0.caches.length) <|
 (zI7 (at_ a_p0.caches i1)).bind fun x1 =>
 chk (decide ((l3.length+[x1].length)*24≤4294967296)) <|
 chk (inI (i1+1)) <|
 self0 (i1+1) (l3++[x1])) (
 zIm a_p0 l1 l3)
def zFi (a_p0:zJ) (l1:List zo):Nat→Int→(List zL)→Option zJ
  | 0,_,_=>none
  | n+1,i1,l3=>zDW a_p0 l1 (zFi a_p0 l1 n) i1 l3
def zHB (a_p0:zJ) (l1:List zo):Option zJ :=
 zFi a_p0 l1 z9 0 ([]:List zL)
def zHA (self1:Int→(List zo)→Option zJ) (i2:Int) (l5:List zo):Option zJ :=
 chk (inI (i2+1)) <|
 self1 (i2+1) l5
def zHJ (self1:Int→(List zo)→Option zJ) (a_p0:zJ) (i2:Int) (l4:List zo) (d1:List (List Int)):Option zJ :=
 chk (decide ((l4.length+[(⟨(at_ a_p0.zones i2).node,(at_ a_p0.zones i2).kind,(at_ a_p0.zones i2).start,(at_ a_p0.zones i2).count,(at_ a_p0.zones i2).min,d1⟩:zo)].length)*160≤4294967296)) <|
 zHA self1 i2 (l4++[(⟨(at_ a_p0.zones i2).node,(at_ a_p0.zones i2).kind,(at_ a_p0.zones i2).start,(at_ a_p0.zones i2).count,(at_ a_p0.zones i2).min,d1⟩:zo)])
def zDf (self1:Int→(List zo)→Option zJ) (a_p0:zJ) (i2:Int) (l4:List zo) (self2:Int→(List (List Int))→Option zJ) (i3:Int) (d2:List (List Int)):Option zJ :=
 cnd (decide (i3≤4)) (
 chk (inb i2 a_p0.zones.length) <|
 chk (inb i3 5) <|
 chk (decide ((([]:List Int).length+(((at_ a_p0.zones i2).free).getD i3.toNat ([]:List Int)).length)*8≤4294967296)) <|
 chk (inI (i3+1)) <|
 self2 (i3+1) (zDl 5 ([]:List Int) d2 i3.toNat (([]:List Int)++(((at_ a_p0.zones i2).free).getD i3.toNat ([]:List Int))))) (
 zHJ self1 a_p0 i2 l4 d2)
def zFo (self1:Int→(List zo)→Option zJ) (a_p0:zJ) (i2:Int) (l4:List zo):Nat→Int→(List (List Int))→Option zJ
  | 0,_,_=>none
  | n+1,i3,d2=>zDf self1 a_p0 i2 l4 (zFo self1 a_p0 i2 l4 n) i3 d2
def zDR (a_p0:zJ) (self1:Int→(List zo)→Option zJ) (i2:Int) (l4:List zo):Option zJ :=
 cnd (decide (i2<(a_p0.zones.length:Int))) (
 chk (inb i2 a_p0.zones.length) <|
 zFo self1 a_p0 i2 l4 z9 0 ((at_ a_p0.zones i2).free)) (
 zHB a_p0 l4)
def zBm (a_p0:zJ):Nat→Int→(List zo)→Option zJ
  | 0,_,_=>none
  | n+1,i2,l4=>zDR a_p0 (zBm a_p0 n) i2 l4
def zH1 (a_p0:zJ):Option zJ :=
 chk (decide ((([]:List Int).length+a_p0.nodes.length)*8≤4294967296)) <|
 zBm a_p0 z9 0 ([]:List zo)
def zJa  : Option Bool :=
 some true
def zE3 (a_s:List Int) (a_frame:Int) (a_order:Int) (self0:Int→Option Bool) (i1:Int):Option Bool :=
 chk (decide (IntKind.u64.wrap a_order=a_order)) <|
 chk (zLc a_order) <|
 chk (inI ((1:Int)*2 ^ a_order.toNat)) <|
 chk (inI (a_frame+((1:Int)*2 ^ a_order.toNat))) <|
 cnd (decide (i1<(a_frame+((1:Int)*2 ^ a_order.toNat)))) (
 chk (inb i1 a_s.length) <|
 cnd (decide ((at_ a_s i1)=0)) (
 some false) (
 chk (inI (i1+1)) <|
 self0 (i1+1))) (
 zJa )
def zHR (a_s:List Int) (a_frame:Int) (a_order:Int):Nat→Int→Option Bool
  | 0,_=>none
  | n+1,i1=>zE3 a_s a_frame a_order (zHR a_s a_frame a_order n) i1
def zKm (a_s:List Int) (a_frame:Int) (a_order:Int):Option Bool :=
 zHR a_s a_frame a_order z9 a_frame
def zJE (a_p0:zo) (l2:List (List Int)):Option zo :=
 some (⟨a_p0.node,a_p0.kind,a_p0.start,a_p0.count,a_p0.min,l2⟩:zo)
def zHv (self0:Int→(List (List Int))→(List Int)→Option zo) (i1:Int) (l5:List (List Int)) (l6:List Int):Option zo :=
 chk (inI (i1 - 1)) <|
 self0 (i1 - 1) l5 l6
def zEL (self1:Int→(List (List Int))→(List Int)→Option zo) (i2:Int) (l9:List (List Int)) (l10:List Int):Option zo :=
 chk (inI (i2+1)) <|
 self1 (i2+1) l9 l10
def zED (self1:Int→(List (List Int))→(List Int)→Option zo) (i1:Int) (i2:Int) (l7:List (List Int)) (self2:Int→(List Int)→Option zo) (i3:Int) (l11:List Int):Option zo :=
 chk (decide (IntKind.u64.wrap i1=i1)) <|
 chk (zLc i1) <|
 chk (inI ((1:Int)*2 ^ i1.toNat)) <|
 chk (inI (i2+((1:Int)*2 ^ i1.toNat))) <|
 cnd (decide (i3<(i2+((1:Int)*2 ^ i1.toNat)))) (
 chk (inb i3 l11.length) <|
 chk (inI (i3+1)) <|
 self2 (i3+1) (l11.set i3.toNat 0)) (
 zEL self1 i2 (zDl 5 [] l7 i1.toNat ((l7.getD i1.toNat [])++[i2])) l11)
def zGB (self1:Int→(List (List Int))→(List Int)→Option zo) (i1:Int) (i2:Int) (l7:List (List Int)):Nat→Int→(List Int)→Option zo
  | 0,_,_=>none
  | n+1,i3,l11=>zED self1 i1 i2 l7 (zGB self1 i1 i2 l7 n) i3 l11
def zEG (self0:Int→(List (List Int))→(List Int)→Option zo) (a_p0:zo) (i1:Int) (self1:Int→(List (List Int))→(List Int)→Option zo) (i2:Int) (l7:List (List Int)) (l8:List Int):Option zo :=
 chk (inI (a_p0.start+a_p0.count)) <|
 cnd (decide (i2<(a_p0.start+a_p0.count))) (
 (zBR a_p0 i2 i1).bind fun x1 =>
 (cnd x1 (zKm l8 i2 i1) (some default)).bind fun x2 =>
 cnd (x1&&x2) (
 chk (inb i1 5) <|
 chk (decide (i1<(5:Int))) <|
 chk (decide (((l7.getD i1.toNat []).length+[i2].length)*8≤4294967296)) <|
 zGB self1 i1 i2 l7 z9 i2 l8) (
 zEL self1 i2 l7 l8)) (
 zHv self0 i1 l7 l8)
def zCO (self0:Int→(List (List Int))→(List Int)→Option zo) (a_p0:zo) (i1:Int):Nat→Int→(List (List Int))→(List Int)→Option zo
  | 0,_,_,_=>none
  | n+1,i2,l7,l8=>zEG self0 a_p0 i1 (zCO self0 a_p0 i1 n) i2 l7 l8
def zEB (a_p0:zo) (self0:Int→(List (List Int))→(List Int)→Option zo) (i1:Int) (l3:List (List Int)) (l4:List Int):Option zo :=
 cnd (decide (0≤i1)) (
 zCO self0 a_p0 i1 z9 a_p0.start l3 l4) (
 zJE a_p0 l3)
def zBH (a_p0:zo):Nat→Int→(List (List Int))→(List Int)→Option zo
  | 0,_,_,_=>none
  | n+1,i1,l3,l4=>zEB a_p0 (zBH a_p0 n) i1 l3 l4
def zGl (a_p0:zo) (l1:List Int):Option zo :=
 zBH a_p0 z9 4 (List.replicate 5 ([]:List Int)) l1
def zEK (a_p0:zo) (a_p1:List Int) (self3:Int→(List Int)→Option zo) (i4:Int) (l12:List Int):Option zo :=
 cnd (decide (i4<(a_p1.length:Int))) (
 chk (inb i4 a_p1.length) <|
 chk (inb i4 l12.length) <|
 chk (inI (i4+1)) <|
 self3 (i4+1) (l12.set i4.toNat (at_ a_p1 i4))) (
 zGl a_p0 l12)
def zGj (a_p0:zo) (a_p1:List Int):Nat→Int→(List Int)→Option zo
  | 0,_,_=>none
  | n+1,i4,l12=>zEK a_p0 a_p1 (zGj a_p0 a_p1 n) i4 l12
def zG0 (a_p0:zo) (a_p1:List Int):Option zo :=
 chk (decide (0≤(a_p1.length:Int))&&decide ((a_p1.length:Int)≤(a_p1.length:Int))&&decide ((a_p1.length:Int)*(8:Int)≤4294967296)) <|
 zGj a_p0 a_p1 z9 0 (List.replicate (a_p1.length:Int).toNat 0)
def zHt (a_z:zo) (l1:List Int):Option (zo×Int) :=
 (zG0 a_z l1).bind fun x4 =>
 (zG0 a_z l1).bind fun x5 =>
 some (x5,0)
def zD4 (a_z:zo) (a_frame:Int) (a_order:Int) (self0:Int→(List Int)→Option (zo×Int)) (i1:Int) (l2:List Int):Option (zo×Int) :=
 chk (decide (IntKind.u64.wrap a_order=a_order)) <|
 chk (zLc a_order) <|
 chk (inI ((1:Int)*2 ^ a_order.toNat)) <|
 chk (inI (a_frame+((1:Int)*2 ^ a_order.toNat))) <|
 cnd (decide (i1<(a_frame+((1:Int)*2 ^ a_order.toNat)))) (
 chk (inb i1 l2.length) <|
 cnd (decide (0<(at_ l2 i1))) (
 some ((⟨0,0,0,0,0,(List.replicate 5 ([]:List Int))⟩:zo),7)) (
 chk (inI (i1+1)) <|
 self0 (i1+1) (l2.set i1.toNat 1))) (
 zHt a_z l2)
def zGK (a_z:zo) (a_frame:Int) (a_order:Int):Nat→Int→(List Int)→Option (zo×Int)
  | 0,_,_=>none
  | n+1,i1,l2=>zD4 a_z a_frame a_order (zGK a_z a_frame a_order n) i1 l2
def zIy (a_z:zo) (a_frame:Int) (a_order:Int):Option (zo×Int) :=
 (zFz a_z).bind fun x1 =>
 cnd (!decide (x1=0)) (
 some ((⟨0,0,0,0,0,(List.replicate 5 ([]:List Int))⟩:zo),x1)) (
 (zBR a_z a_frame a_order).bind fun x2 =>
 cnd (!x2) (
 some ((⟨0,0,0,0,0,(List.replicate 5 ([]:List Int))⟩:zo),2)) (
 (zIB a_z).bind fun x3 =>
 zGK a_z a_frame a_order z9 a_frame x3))
def zEj (a_p0:zJ) (a_p1:Int) (a_p2:Int) (x2:Int):Option (zJ×Int) :=
 (zH1 a_p0).bind fun x4 =>
 chk (inb x2 x4.zones.length) <|
 (zIy (at_ x4.zones x2) a_p1 a_p2).bind fun x5 =>
 some ((⟨x4.nodes,x4.batch,x4.high,x4.zones.set x2.toNat x5.1,x4.caches⟩:zJ),0)
def zB8 (a_p0:zJ) (a_p1:Int) (a_p2:Int) (x2:Int) (self0:Int→Option (zJ×Int)) (i1:Int):Option (zJ×Int) :=
 chk (decide (IntKind.u64.wrap a_p2=a_p2)) <|
 chk (zLc a_p2) <|
 chk (inI ((1:Int)*2 ^ a_p2.toNat)) <|
 chk (inI (a_p1+((1:Int)*2 ^ a_p2.toNat))) <|
 cnd (decide (i1<(a_p1+((1:Int)*2 ^ a_p2.toNat)))) (
 (zI2 a_p0 x2 i1).bind fun x6 =>
 cnd (x6) (
 some ((⟨([]:List Int),0,0,([]:List zo),([]:List zL)⟩:zJ),7)) (
 chk (inI (i1+1)) <|
 self0 (i1+1))) (
 zEj a_p0 a_p1 a_p2 x2)
def zBW (a_p0:zJ) (a_p1:Int) (a_p2:Int) (x2:Int):Nat→Int→Option (zJ×Int)
  | 0,_=>none
  | n+1,i1=>zB8 a_p0 a_p1 a_p2 x2 (zBW a_p0 a_p1 a_p2 x2 n) i1
def zFG (a_p0:zJ) (a_p1:Int) (a_p2:Int):Option (zJ×Int) :=
 (zIG a_p0).bind fun x1 =>
 cnd (!decide (x1=0)) (
 some ((⟨([]:List Int),0,0,([]:List zo),([]:List zL)⟩:zJ),x1)) (
 (zIo a_p0 a_p1).bind fun x2 =>
 chk (!(!(decide (x2<0)))||inb x2 a_p0.zones.length) <|
 (cnd (!(decide (x2<0))) (zBR (at_ a_p0.zones x2) a_p1 a_p2) (some default)).bind fun x3 =>
 cnd ((decide (x2<0))||(!x3)) (
 some ((⟨([]:List Int),0,0,([]:List zo),([]:List zL)⟩:zJ),2)) (
 zBW a_p0 a_p1 a_p2 x2 z9 a_p1))
def zC1 (a_a:zJ) (a_frame:Int) (a_order:Int):Option Bool :=
 (zH3).bind fun x1 =>
 (cnd (!(!x1)) (zJs a_a) (some default)).bind fun x2 =>
 cnd ((!x1)||(!x2)) (
 (zH3).bind fun x3 =>
 some x3) (
 (zCv a_a a_frame a_order).bind fun x4 =>
 (zFG a_a a_frame a_order).bind fun x5 =>
 (cnd (decide (x4.2=x5.2)) (zHy x4.1 x5.1) (some default)).bind fun x6 =>
 some ((decide (x4.2=x5.2))&&x6))
end Go.Proofs.YtplkliakhdkpcaaGreat
