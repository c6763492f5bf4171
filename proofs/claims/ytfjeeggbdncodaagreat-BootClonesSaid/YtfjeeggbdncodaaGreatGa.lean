/-
  Rules, functions and laws for the last text, part a.
-/
import Derived.Tactics
import Derived.Below
import Derived.Orders
import Derived.Laws.CopyRow
import Derived.Laws.Cells
import Derived.WalkKit
import Derived.Maps.AppendAt
import Derived.Laws.MakeOwn
set_option linter.unusedVariables false
set_option linter.unusedSimpArgs false
set_option linter.constructorNameAsVariable false
set_option linter.unusedSectionVars false
set_option linter.defProp false
noncomputable section
namespace Go
def G:=@List.getElem?_eq_getElem
def Y:=@List.mem_of_getElem?
def ae:=@Bool.and_eq_true
def aj:=@List.getElem?_eq_some_iff
def ar:=@Nat.le_refl
def au:=@Nat.eq_of_beq_eq_true
def av:=@decide_eq_true
def az:=@List.length_append
def aE:=@if_pos
def aG:=@if_neg
def aP:=@Nat.zero_le
def aQ:=@Nat.lt_of_lt_of_le
def aR:=@List.length_replicate
def aU:=@Nat.le_trans
def aX:=@decide_eq_false
def aY:=@List.length_take
def bf:=@Nat.lt_succ_self
def bi:=@List.append_nil
def bn:=@List.getElem?_of_mem
def bq:=@List.getElem?_set_self
def br:=@Nat.zero_add
def bx:=@List.length_cons
def bA:=@of_decide_eq_true
def bB:=@List.getElem?_append_right
def bC:=@List.length_set
def bD:=@List.mem_append
def bE:=@List.getElem?_set_ne
def bF:=@decide_eq_true_eq
def bJ:=@List.getElem?_append_left
def bO:=@List.take_length
def bR:=@List.all_eq_true
def bS:=@Nat.ble_eq
def bX:=@Int.le_refl
def bZ:=@List.mem_cons_self
def cj:=@List.mem_singleton
def ck:=@List.getD_eq_getElem?_getD
def cm:=@List.getElem?_replicate
def co:=@List.mem_cons
def cq:=@Nat.mul_le_mul_right
def cA:=@List.append_assoc
def cE:=@List.length_drop
def cM:=@List.mem_or_eq_of_mem_set
def cO:=@Nat.lt_or_ge
def cR:=@List.mem_append_right
def cT:=@List.all_cons
def cX:=@List.mem_cons_of_mem
def cZ:=@List.length_map
def db:=@Int.toNat_natCast
def de:=@Nat.blt_eq
def dh:=@List.eq_of_mem_replicate
def dz:=@Nat.le_succ
def dF:=@List.take_of_length_le
def dP:=@List.getElem?_cons_succ
def dQ:=@List.take_append_drop
def dR:=@List.drop_eq_getElem_cons
def dS:=@Bool.true_and
def dV:=@List.drop_eq_nil_of_le
def dX:=@List.mem_append_left
def ec:=@Bool.false_eq_true
def ee:=@Nat.sub_self
def el:=@Option.isSome_iff_exists
def ep:=@List.length_reverse
def eu:=@Option.some.inj
def ew:=@List.getElem_mem
def eB:=@List.mem_of_mem_take
def eJ:=@List.mem_range
def eM:=@List.length_singleton
def eN:=@Int.toNat_of_nonneg
def eP:=@Option.some.injEq
def eQ:=@List.set_set
def eR:=@List.length_eq_zero_iff
def eT:=@congrArg
def fa:=@List.getElem?_take
def ff:=@Bool.or_eq_true
def fh:=@Nat.add_zero
def ft:=@if_false
def fA:=@List.getElem?_eq_none
def fL:=@List.foldl_cons
def fR:=@cond_true
def fY:=@if_true
def fZ:=@Int.tmod_eq_emod_of_nonneg
def gf:=@Nat.zero_mul
def gg:=@List.take_zero
def go:=@Nat.add_mul
def gp:=@List.length_nil
def gz:=@List.getElem?_drop
def gF:=@List.pairwise_append
def gI:=@Nat.add_assoc
def gJ:=@List.all_nil
def gR:=@List.getElem?_set
def gZ:=@Nat.min_eq_left
def g5:=@List.replicate_succ
def hD:=@Int.add_zero
def hQ:=@Nat.mul_one
def hT:=@List.pairwise_iff_getElem
def hX:=@Array.getElem?_eq_getElem
def hY:=@List.pairwise_cons
def hZ:=@List.mem_replicate
def iw:=@List.nil_append
def ix:=@List.eq_nil_of_length_eq_zero
def iG:=@Nat.succ_mul
def iY:=@Nat.min_eq_right
def iZ:=@List.getElem?_eraseIdx
def i8:=@List.drop_drop
def jd:=@Nat.sub_zero
def jq:=@List.take_add_one
def jr:=@List.nodup_append
def js:=@List.getElem?_map
def jt:=@Iff.rfl
def ju:=@Bool.not_eq_true'
def jx:=@List.replicate_succ'
def jy:=@List.mem_of_mem_drop
def jJ:=@Int.ofNat_zero
def jS:=@Nat.mul_le_mul_left
def jT:=@Nat.le_max_right
def jU:=@List.mem_flatten
def kc:=@List.mem_singleton_self
def ke:=@List.getElem?_cons_zero
def ki:=@of_decide_eq_false
def kj:=@Nat.sub_add_cancel
def kA:=@Nat.zero_lt_one
def kC:=@Nat.max_eq_left
def kD:=@Nat.le_max_left
def kE:=@List.append_inj
def kM:=@cond_false
def kU:=@List.flatten_cons
def kV:=@Array.getElem?_toList
def lh:=@Bool.not_false
def li:=@Array.getD_eq_getD_getElem?
def ll:=@Int.ofNat_lt
def lm:=@Int.ofNat_le
def lG:=@Int.natCast_succ
def l4:=@List.countP_eq_zero
def l5:=@Bool.not_true
def ms:=@Option.map_some
def mC:=@Nat.lt_or_gt_of_ne
def mD:=@List.set_cons_zero
def mS:=@decide_eq_false_iff_not
def mT:=@Nat.le_of_eq
def mU:=@Int.zero_add
def mV:=@Int.pow_succ
def na:=@Bool.false_and
def ne:=@Bool.and_false
def nl:=@Nat.lt_trichotomy
def no:=@List.foldl_append
def nq:=@List.ext_getElem?
def nZ:=@List.set_append_right
def n5:=@Int.add_assoc
def ol:=@List.reverse_reverse
def oK:=@Int.lt_or_le
def o8:=@List.replicate_zero
def pa:=@List.flatten_append
def pk:=@Array.getElem_setIfInBounds
def pD:=@Nat.le_of_mul_le_mul_right
def qw:=@Nat.lt_succ_of_lt
def qx:=@Nat.lt_irrefl
def qy:=@Nat.le_succ_of_le
def qz:=@List.size_toArray
def qA:=@Bool.eq_false_iff
def rh:=@Nat.min_le_right
def ri:=@Nat.max_eq_right
def rk:=@Bool.not_eq_true
def rB:=@List.pairwise_singleton
def rC:=@Int.pow_zero
def rD:=@Int.eq_ofNat_of_zero_le
def sB:=@Nat.min_le_left
def sC:=@List.map_append
def sD:=@Int.natCast_pow
def sE:=@Array.getElem?_eq_none
def tp:=@Nat.one_mul
def tq:=@List.set_getElem_self
def tr:=@List.getElem?_toArray
def tt:=@List.getElem?_reverse
def tv:=@Classical.choose_spec
def tw:=@Array.getElem?_modify
def tG:=@Nat.mul_le_mul
def tH:=@List.nodup_nil
def tI:=@List.mapM_cons
def tN:=@Nat.add_le_add_right
def tO:=@List.mem_iff_getElem
def tP:=@List.length_eraseIdx
def u7:=@Nat.mul_assoc
def vb:=@List.take_nil
def vd:=@Int.ofNat_inj
def ve:=@Array.ext'
def wo:=@Nat.beq_refl
def wq:=@List.mem_map
def wt:=@Int.lt_trans
def wu:=@Int.le_trans
def wv:=@Int.le_of_lt
def ww:=@Bool.or_true
end Go
namespace Go.Hm
open Go
noncomputable section
inductive Tr(α:Type)where|e:Tr α|n(l:Tr α)(v:Option α)(r:Tr α):Tr α
def Tr.ap{α:Type}(t:Tr α):Nat->Option α:=Tr.rec (motive:=λ_=>Nat->Option α) (λ_=>none) (λ_ v _ a b k=>Bool.rec (Bool.rec (b (Nat.div (Nat.sub k 1) 2)) (a (Nat.div (Nat.sub k 1) 2)) (Nat.beq (Nat.mod k 2) 1)) v (Nat.beq k 0)) t
def Tr.put{α:Type}(v:Option α)(d:Nat):Tr α->Nat->Tr α:=Nat.rec (motive:=λ_=>Tr α->Nat->Tr α) (λt _=>t) (λ_ a t k=>Tr.rec (motive:=λ_=>Tr α) (Bool.rec (Bool.rec (.n .e none (a .e (Nat.div (Nat.sub k 1) 2))) (.n (a .e (Nat.div (Nat.sub k 1) 2)) none .e) (Nat.beq (Nat.mod k 2) 1)) (.n .e v .e) (Nat.beq k 0)) (λl u r _ _=>Bool.rec (Bool.rec (.n l u (a r (Nat.div (Nat.sub k 1) 2))) (.n (a l (Nat.div (Nat.sub k 1) 2)) u r) (Nat.beq (Nat.mod k 2) 1)) (.n l v r) (Nat.beq k 0)) t) d
def Tr.set{α:Type}(t:Tr α)(k:Nat)(v:α):Tr α:=Tr.put (some v) (Nat.succ (Nat.log2 (Nat.succ k))) t k
def Tr.nU{α:Type}(t:Tr α)(k:Nat):Tr α:=Tr.put none (Nat.succ (Nat.log2 (Nat.succ k))) t k
inductive HV where|any|undef|int(k:IntKind)(n:Int)|bool(b:Bool)|dH(s:ByteArray)|sc|ptr(b off:Nat)|cK|gO|mj|sl(b off len:Nat)|jz(b off len:Nat)|agg(cs:List HV)|nf(vs:List HV)|fn(f:FuncId)(caps:List HV)|sd|H2|map(b:Nat)deriving Inhabited
def QR:Value->Option HV| .bool b=>some (.bool b)| .int k n=>some (.int k n)| .string s=>some (.dH s)| .pointer none=>some .sc| .slice none 0 0=>some .cK| .map none=>some .H2| .nilFunc=>some .sd|_=>none
def Er:List Value->Option (List HV)|[]=>some []|v::b=>match QR v with
 |some a=>match Er b with|some l=>some (a::l)|none=>none
 |none=>none
def KR:Value->Option HV
 | .agg ⟨a⟩=>match Er a with|some l=>some (.agg l)|none=>none
 | .tuple ⟨[]⟩=>some .undef
 |v=>QR v
def iR:HV->Option (List HV)| .agg a=>some a| .any=>none| .undef=>none| .nf _=>none|v=>some [v]
inductive Sh where|slice(e:Nat)|fF(n e:Nat)|struct(offs:List (Nat×Nat))|int(k:IntKind)|bool|dH|map(k e:Nat)|QK
structure qq where
  agg : Bool
  size : Nat
  bytes : Nat
  zero : Option HV
  sh : Sh
structure gY where
  own : Bool
  z : Nat
  n : Nat
  c : Tr HV
inductive Obj where|cn(b:gY)|map(es:List (HV×HV))
structure St where
  nt : Nat
  dE : Tr HV
  hp : Tr Obj
  nx : Nat
  lk : List Nat
  df : HV
structure Cx where
  ti : Tr qq
  fn : Tr Func
  ext : Tr Nat
  DJ : Tr (List Bool)
def gY.ap(b:gY)(i:Nat):Option HV:=bif Nat.blt i b.n then b.c.ap i else none
def cu(b:gY)(o:Nat):Nat->Option (List HV)|0=>some []|k+1=>match b.ap o with
 |some v=>match cu b (Nat.add o 1) k with|some l=>some (v::l)|none=>none
 |none=>none
def cr(c:Tr HV)(o:Nat):List HV->Tr HV|[]=>c|v::a=>cr (c.set o v) (Nat.add o 1) a
def St.cn(s:St)(b:Nat):Option gY:=match s.hp.ap b with|some (.cn x)=>some x|_=>none
def St.bT(s:St)(z:Nat)(l:List HV):Nat×St:=(s.nx,⟨s.nt,s.dE,s.hp.set s.nx (.cn ⟨true,z,l.length,cr .e 0 l⟩),Nat.add s.nx 1,s.lk,s.df⟩)
def St.put(s:St)(d:Option Nat)(v:HV):St:=match d with|some t=>bif Nat.blt t s.nt then⟨s.nt,s.dE.set t v,s.hp,s.nx,s.lk,s.df⟩else s|none=>s
def St.tmp(s:St)(t:Nat):HV:=match s.dE.ap t with|some v=>v|none=>s.df
def St.ev(s:St):Operand->Option HV| .tmp t=>some (s.tmp t)| .const v=>KR v| .func f=>some (.fn f [])| .global _=>none
def St.kg(s:St):List Operand->Option (List HV)|[]=>some []|x::a=>match s.ev x with
 |some v=>match s.kg a with|some l=>some (v::l)|none=>none
 |none=>none
def bw(b:Nat):List Nat->Bool|[]=>false|a::l=>Nat.beq a b||bw b l
def St.gV(s:St)(b:Nat):Bool:=!bw b s.lk
def St.fD(s:St)(b o:Nat)(l:List HV):Option St:=match s.cn b with|some x=>bif x.own&&(s.gV b&&Nat.ble (Nat.add o l.length) x.n)then some ⟨s.nt,s.dE,s.hp.set b (.cn ⟨true,x.z,x.n,cr x.c o l⟩),s.nx,s.lk,s.df⟩else none|none=>none
def Cm(k:IntKind)(n:Int):Bool:=match k with| .i64=>decide (-9223372036854775808<=n)&&decide (n<=9223372036854775807)| .u64=>decide (0<=n)&&decide (n<=18446744073709551615)| .u8=>decide (0<=n)&&decide (n<=255)| .u32=>decide (0<=n)&&decide (n<=4294967295)|_=>false
def gj(k:IntKind)(n:Int):Int:=bif Cm k n then n else IntKind.wrap k n
def uP(op:BinOp)(k:IntKind)(a b:Int):Option HV:=match op with| .add=>some (.int k (gj k (Int.add a b)))| .sub=>some (.int k (gj k (Int.sub a b)))| .mul=>some (.int k (gj k (Int.mul a b)))| .quo=>bif decide (b=0)then none else some (.int k (gj k (Int.tdiv a b)))| .rem=>bif decide (b=0)then none else some (.int k (Int.tmod a b))| .eql=>some (.bool (decide (a=b)))| .neq=>some (.bool (!decide (a=b)))| .lss=>some (.bool (decide (a<b)))| .leq=>some (.bool (decide (a<=b)))| .gtr=>some (.bool (decide (b<a)))| .geq=>some (.bool (decide (b<=a)))| .and=>some (.int k (gj k (Int.ofNat (BitVec.ofInt k.bits a&&&BitVec.ofInt k.bits b).toNat)))| .or=>some (.int k (gj k (Int.ofNat (BitVec.ofInt k.bits a|||BitVec.ofInt k.bits b).toNat)))| .xor=>some (.int k (gj k (Int.ofNat (BitVec.ofInt k.bits a^^^BitVec.ofInt k.bits b).toNat)))| .andNot=>some (.int k (gj k (Int.ofNat (BitVec.ofInt k.bits a&&& ~~~BitVec.ofInt k.bits b).toNat)))|_=>none
def shift(left:Bool)(k:IntKind)(a b:Int):Option HV:=match b with| .ofNat s=>some (.int k (bif left then gj k (Int.mul a (Int.ofNat (Nat.pow 2 (Nat.min s k.bits))))else Int.fdiv a (Int.ofNat (Nat.pow 2 (Nat.min s k.bits)))))|_=>none
def yA:Bool->HV->HV->Option Bool|true,.int k a,.int c b=>bif decide (k=c)then some (decide (a=b))else none|false,.bool a,.bool b=>some (a==b)|_,_,_=>none
def ua:List Bool->List HV->List HV->Option Bool
 |[],[],[]=>some true
 |p::e,a::c,b::d=>match yA p a b with|some true=>ua e c d|r=>r
 |_,_,_=>none
def fW(op:BinOp)(b:Bool):Option HV:=match op with| .eql=>some (.bool b)| .neq=>some (.bool (!b))|_=>none
def lv(cx:Cx)(op:BinOp)(t:Nat)(x y:HV):Option HV:=match x,y with
 | .int k a,.int c b=>match op with| .shl=>shift true k a b| .shr=>shift false k a b|_=>bif decide (k=c)then uP op k a b else none
 | .dH a,.dH b=>match op with| .add=>bif Nat.ble (Nat.add a.size b.size) 1000000000 then some (.dH (a++b))else none|_=>fW op (a.toList==b.toList)
 | .bool a,.bool b=>match cx.ti.ap t with
  |some x=>match x.sh with| .bool=>fW op (a==b)|_=>none
  |none=>none
 | .agg a,.agg b=>match cx.DJ.ap t with
  |some m=>bif Nat.beq a.length m.length&&Nat.beq b.length m.length then match ua m a b with|some r=>fW op r|none=>none else none
  |none=>none
 |x,.cK=>match cx.ti.ap t with
  |some u=>match u.sh,x with| .slice _,.cK=>fW op true| .slice _,.sl _ _ _=>fW op false| .slice _,.jz _ _ _=>fW op false| .slice _,.gO=>fW op false| .slice _,.mj=>fW op false|_,_=>none
  |none=>none
 |_,_=>none
inductive Rs where|val(v:HV)(s:St)|G6(s:St)|call(f:FuncId)(args:List HV)
def i5:HV->Option Nat| .int _ (.ofNat n)=>some n|_=>none
def sK(cs:List HV):Nat->List HV->List HV|_,[]=>cs|o,v::a=>sK (cs.set o v) (Nat.add o 1) a
def sY(a:Nat->Option (Nat×Nat))(cs:List HV):List (Nat×HV)->Option (List HV)|[]=>some cs|(i,v)::b=>match a i with
 |some (o,z)=>match iR v with|some c=>bif Nat.beq c.length z&&Nat.ble (Nat.add o z) cs.length then sY a (sK cs o c) b else none|none=>none
 |none=>none
structure El where
  zc : List HV
  z : Nat
  lX : Nat
def Cx.wd(cx:Cx)(e:Nat):Option El:=match cx.ti.ap e with
 |some y=>match y.zero with
  |some v=>match iR v with|some c=>bif Nat.ble 1 y.size&&(Nat.ble 1 y.bytes&&Nat.beq c.length y.size)then some ⟨c,y.size,y.bytes⟩else none|none=>none
  |none=>none
 |none=>none
def Cx.gd(cx:Cx)(t:Nat):Option El:=match cx.ti.ap t with
 |some x=>match x.sh with| .slice e=>cx.wd e|_=>none
 |none=>none
def Cx.size(cx:Cx)(t:Nat):Option Nat:=match cx.ti.ap t with|some x=>some x.size|none=>none
def hJ(l:List HV):Nat->List HV|0=>[]|n+1=>l++hJ l n
def lenOf:HV->Option Nat| .cK=>some 0| .gO=>some 0| .mj=>some 0| .sl _ _ n=>some n| .jz _ _ n=>some n| .dH s=>some s.size|_=>none
def cellsOf(s:St)(z:Nat):HV->Option (List HV)
 | .cK=>some []
 | .gO=>some []
 | .mj=>some []
 | .sl b o n=>match s.cn b with|some x=>cu x o (Nat.mul n z)|none=>none
 | .jz b o n=>match s.cn b with|some x=>cu x o (Nat.mul n z)|none=>none
 |_=>none
def gL(n bytes:Nat):Bool:=Nat.ble (Nat.mul n bytes) 4294967296
def n7(s:St):Option Operand->Option (Option HV)|none=>some none|some x=>match s.ev x with|some v=>some (some v)|none=>none
def hM(s:St):List (Nat×Operand)->Option (List (Nat×HV))|[]=>some []|(i,x)::r=>match s.ev x with
 |some v=>match hM s r with|some l=>some ((i,v)::l)|none=>none
 |none=>none
def qO(q:IntKind)(k:Int):List (HV×HV)->Option (Option HV)|[]=>some none|(.int b a,v)::r=>bif decide (q=b)then bif decide (k=a)then some (some v)else qO q k r else none|_=>none
def vl(q:IntKind)(k:Int)(v:HV):List (HV×HV)->Option (List (HV×HV))
 |[]=>some [(.int q k,v)]
 |(.int b a,u)::r=>bif decide (q=b)then bif decide (k=a)then some ((.int q k,v)::r)else match vl q k v r with|some l=>some ((.int b a,u)::l)|none=>none else none
 |_=>none
def Cx.sS(cx:Cx)(t:Nat):Option Nat:=match cx.ti.ap t with
 |some x=>match x.sh with
  | .map k e=>match cx.ti.ap k with
   |some y=>match y.sh with| .int _=>some e|_=>none
   |none=>none
  |_=>none
 |none=>none
def Cx.xb(cx:Cx)(e:Nat):Option HV:=match cx.ti.ap e with|some y=>y.zero|none=>none
def gW(s:St)(z:Nat)(a:HV)(bT:List HV)(k:Nat):Option Rs:=match a with
 | .sl b o n=>match s.cn b with
  |some x=>bif x.own&&(s.gV b&&Nat.beq x.z z)then bif Nat.ble (Nat.add o (Nat.mul (Nat.add n k) z)) x.n then match s.fD b (Nat.add o (Nat.mul n z)) bT with|some d=>some (.val (.sl b o (Nat.add n k)) d)|none=>none else bif Nat.ble (Nat.add o (Nat.mul n z)) x.n then bif Nat.beq o 0 then some (.val (.sl s.nx 0 (Nat.add n k)) ⟨s.nt,s.dE,(s.hp.nU b).set s.nx (.cn ⟨true,z,Nat.mul (Nat.add n k) z,cr x.c (Nat.mul n z) bT⟩),Nat.add s.nx 1,s.lk,s.df⟩)else match cu x o (Nat.mul n z)with|some c=>some (.val (.sl s.nx 0 (Nat.add n k)) ⟨s.nt,s.dE,(s.hp.nU b).set s.nx (.cn ⟨true,z,Nat.mul (Nat.add n k) z,cr .e 0 (c++bT)⟩),Nat.add s.nx 1,s.lk,s.df⟩)|none=>none else none else none
  |none=>none
 | .cK=>bif Nat.beq k 0 then some (.val .cK s)else some (.val (.sl s.nx 0 k) (s.bT z bT).2)
 | .gO=>bif Nat.beq k 0 then some (.val .gO s)else some (.val (.sl s.nx 0 k) (s.bT z bT).2)
 |_=>none
section
variable(cx:Cx)(s:St)
def iQ(t:Nat)(a:HV):Option Rs:=match a with
 | .ptr b o=>match cx.ti.ap t with
  |some x=>match s.cn b with
   |some y=>bif x.agg then match cu y o x.size with|some l=>some (.val (.agg l) s)|none=>none else match y.ap o with|some v=>some (.val v s)|none=>none
   |none=>none
  |none=>none
 |_=>none
def qj(t:Nat)(a v:HV):Option Rs:=match a with
 | .ptr b o=>match cx.ti.ap t,iR v with
  |some x,some c=>bif Nat.beq c.length x.size then match s.fD b o c with|some d=>some (.G6 d)|none=>none else none
  |_,_=>none
 |_=>none
def mN(t:Nat)(a:HV)(i:Nat):Option Rs:=match a with
 | .ptr b o=>match cx.ti.ap t with
  |some x=>match x.sh with
   | .struct c=>match c[i]? with|some (p,.succ _)=>some (.val (.ptr b (Nat.add o p)) s)|_=>none
   |_=>none
  |none=>none
 |_=>none
def fJ(t:Nat)(a i:HV):Option Rs:=match cx.ti.ap t with
 |some x=>match i5 i with
  |some j=>match x.sh,a with
   | .fF n e,.ptr b o=>match cx.size e with|some z=>bif Nat.blt j n then some (.val (.ptr b (Nat.add o (Nat.mul j z))) s)else none|none=>none
   | .slice e,.sl b o n=>match cx.size e with|some z=>bif Nat.blt j n then some (.val (.ptr b (Nat.add o (Nat.mul j z))) s)else none|none=>none
   | .slice e,.jz b o n=>match cx.size e with|some z=>bif Nat.blt j n then some (.val (.ptr b (Nat.add o (Nat.mul j z))) s)else none|none=>none
   |_,_=>none
  |none=>none
 |none=>none
def nT(t:Nat):Option Rs:=match cx.ti.ap t with
 |some x=>match x.zero with
  |some z=>match iR z with|some c=>some (.val (.ptr s.nx 0) (s.bT 0 c).2)|none=>none
  |none=>none
 |none=>none
def la(t:Nat)(ps:List (Nat×HV)):Option Rs:=match cx.ti.ap t with
 |some x=>match x.zero with
  |some (.agg z)=>match x.sh with
   | .struct a=>match sY (λi=>a[i]?) z ps with|some l=>some (.val (.agg l) s)|none=>none
   | .fF _ e=>match cx.size e with
    |some q=>match sY (λi=>some (Nat.mul i q,q)) z ps with|some l=>some (.val (.agg l) s)|none=>none
    |none=>none
   |_=>none
  |_=>none
 |none=>none
def fg(t len:Nat)(ps:List (Nat×HV)):Option Rs:=match cx.gd t with
 |some y=>bif Nat.ble len 4000&&Nat.ble y.z 4000 then match sY (λi=>some (Nat.mul i y.z,y.z)) (hJ y.zc len) ps with|some l=>some (.val (.sl s.nx 0 len) (s.bT y.z l).2)|none=>none else none
 |none=>none
def iC(t:Nat)(l c:HV):Option Rs:=match cx.gd t,i5 l,i5 c with|some y,some m,some k=>bif Nat.ble m k&&gL k y.lX then some (.val (.sl s.nx 0 m) (s.bT y.z (hJ y.zc k)).2)else none|_,_,_=>none
def fw:Option HV->Option (Option Nat)|none=>some none|some v=>match i5 v with|some m=>some (some m)|none=>none
def dW(d:Nat):Option Nat->Nat|none=>d|some m=>m
def part(mk:Nat->Nat->Nat->HV)(b o z l h:Nat):HV:=bif Nat.beq h l&&!Nat.beq l 0 then .mj else mk b (Nat.add o (Nat.mul l z)) (Nat.sub h l)
def iH(y:gY)(b o n z l:Nat)(hi a:Option Nat):Option HV:=let h:=dW n hi;bif Nat.ble 1 z&&Nat.ble h 140737488355328&&(Nat.ble l h&&(Nat.beq y.z z&&Nat.ble (Nat.add o (Nat.mul h z)) y.n))then match a,hi with|none,_=>some (part .sl b o z l h)|some _,none=>none|some m,some _=>bif Nat.ble h m&&Nat.ble (Nat.add o (Nat.mul m z)) y.n then bif Nat.beq m l then some .gO else bif Nat.beq (Nat.add o (Nat.mul m z)) y.n then some (.sl b (Nat.add o (Nat.mul l z)) (Nat.sub h l))else some .any else none else none
def gT(v:HV)(l:Nat)(hi a:Option Nat):Option HV:=bif Nat.beq l 0&&(Nat.beq (dW 0 hi) 0&&Nat.beq (dW 0 a) 0)then match v,a,hi with| .cK,none,_=>some .cK| .cK,some _,some _=>some .cK| .gO,none,_=>some .gO| .gO,some _,some _=>some .gO| .mj,none,_=>some .mj| .mj,some _,some _=>some .gO|_,_,_=>none else none
def eG(t:Nat)(a:HV)(lo hi c:Option HV):Option Rs:=match cx.ti.ap t,fw lo,fw hi,fw c with
 |some x,some lo,some hi,some c=>let l:=dW 0 lo;match x.sh,a with
  | .slice e,.sl b o n=>match cx.size e,s.cn b with
   |some z,some y=>match iH y b o n z l hi c with|some v=>some (.val v s)|none=>none
   |_,_=>none
  | .slice e,.jz b o n=>match cx.size e,c with|some z,none=>let h:=dW n hi;bif Nat.ble l h&&Nat.ble h n then some (.val (part .jz b o z l h) s)else none|_,_=>none
  | .slice e,v=>match cx.size e,gT v l hi c with|some _,some u=>some (.val u s)|_,_=>none
  | .fF m e,.ptr b o=>match cx.size e,c with|some z,none=>let h:=dW m hi;bif Nat.ble m 1000000&&(Nat.ble l h&&Nat.ble h m)then some (.val (part .jz b o z l h) s)else none|_,_=>none
  | .dH,.dH b=>match c with|none=>let h:=dW b.size hi;bif Nat.ble l h&&Nat.ble h b.size then some (.val (.dH (b.extract l h)) s)else none|some _=>none
  |_,_=>none
 |_,_,_,_=>none
def pS:List HV->Option (List UInt8)
 |[]=>some []
 | .int .u8 (.ofNat n)::r=>match pS r with|some l=>some (UInt8.ofNat n::l)|none=>none
 |_=>none
def gx(rU d:Nat)(a:HV):Option Rs:=match cx.ti.ap rU,cx.ti.ap d with
 |some x,some y=>match y.sh,a with
  | .int k,.int _ n=>some (.val (.int k (gj k n)) s)
  | .dH,.dH b=>some (.val (.dH b) s)
  | .dH,v=>match x.sh with
   | .slice e=>match cx.ti.ap e with
    |some q=>match q.sh with
     | .int .u8=>match cellsOf s 1 v with
      |some l=>match pS l with|some c=>some (.val (.dH ⟨⟨c⟩⟩) s)|none=>none
      |none=>none
     |_=>none
    |none=>none
   |_=>none
  |_,_=>none
 |_,_=>none
def jg(z:Nat)(x:HV):Option (List HV×Nat):=match x with| .dH b=>bif Nat.beq z 1 then some (b.data.toList.map λc=> .int .u8 (Int.ofNat c.toNat),b.size)else none|v=>match cellsOf s z v,lenOf v with|some l,some k=>some (l,k)|_,_=>none
def oy(t:Nat)(x:HV):Bool:=match cx.ti.ap t with
 |some u=>match u.sh,x with| .dH,.dH _=>true| .slice _,.dH _=>false| .slice _,_=>true|_,_=>false
 |none=>false
def iu(t c:Nat)(a x:HV):Option Rs:=match cx.gd t with
 |some y=>bif oy cx c x then match jg s y.z x,lenOf a with|some (b,k),some m=>bif gL (Nat.add m k) y.lX then gW s y.z a b k else none|_,_=>none else none
 |none=>none
def rT(x:HV)(k m:Nat):Bool:=match x with| .dH _=>Nat.ble k m|_=>true
def s7(t d:Nat)(a x:HV):Option Rs:=match cx.gd t with
 |some y=>bif oy cx d x then match jg s y.z x,lenOf a with
  |some (l,k),some m=>bif rT x k m then match a with
   | .dH _=>none
   | .sl b o _=>match s.fD b o (l.take (Nat.mul (Nat.min k m) y.z))with|some c=>some (.val (.int .i64 (Int.ofNat (Nat.min k m))) c)|none=>none
   | .jz b o _=>match s.fD b o (l.take (Nat.mul (Nat.min k m) y.z))with|some c=>some (.val (.int .i64 (Int.ofNat (Nat.min k m))) c)|none=>none
   |_=>some (.val (.int .i64 0) s)else none
  |_,_=>none else none
 |none=>none
def oU(t:Nat)(a:HV):Option Rs:=match cx.gd t with
 |some y=>match a with
  | .sl b o n=>match s.fD b o (hJ y.zc n)with|some c=>some (.val .undef c)|none=>none
  | .cK=>some (.val .undef s)
  | .gO=>some (.val .undef s)
  | .mj=>some (.val .undef s)
  |_=>none
 |none=>none
def xF(c:Bool):List HV->Option HV|[.int .i64 a,.int .i64 b]=>some (.int .i64 (bif decide (a<=b)then bif c then b else a else bif c then a else b))|_=>none
def fz(b:Builtin)(ts:List Nat)(args:List HV):Option Rs:=match b,ts,args with
 | .len,[t],[v]=>match cx.ti.ap t with
  |some x=>match x.sh,v with
   | .map _ _,.H2=>some (.val (.int .i64 0) s)
   | .map _ _,.map b=>match s.hp.ap b with|some (.map d)=>some (.val (.int .i64 (Int.ofNat d.length)) s)|_=>none
   | .dH,.dH b=>some (.val (.int .i64 (Int.ofNat b.size)) s)
   | .slice _,.dH _=>none
   | .slice _,v=>match lenOf v with|some n=>some (.val (.int .i64 (Int.ofNat n)) s)|none=>none
   |_,_=>none
  |none=>none
 | .append,[t,c],[a,x]=>iu cx s t c a x
 | .copy,[t,c],[a,x]=>s7 cx s t c a x
 | .clear,[t],[a]=>oU cx s t a
 | .min,_,l=>match xF false l with|some v=>some (.val v s)|none=>none
 | .max,_,l=>match xF true l with|some v=>some (.val v s)|none=>none
 |_,_,_=>none
def mM(t:Nat)(v i:HV):Option Rs:=match i5 i with
 |some j=>match v with
  | .dH b=>match cx.ti.ap t with
   |some x=>match x.sh with
    | .dH=>match b[j]? with|some c=>some (.val (.int .u8 (Int.ofNat c.toNat)) s)|none=>none
    |_=>none
   |none=>none
  | .agg l=>match cx.ti.ap t with
   |some x=>match x.sh with
    | .fF m e=>match cx.ti.ap e with
     |some y=>bif !y.agg&&(Nat.beq y.size 1&&Nat.blt j m)then match l[j]? with|some v=>some (.val v s)|none=>none else none
     |none=>none
    |_=>none
   |none=>none
  |_=>none
 |none=>none
def wO(q:IntKind)(k:Int):HV->Option (Option HV)
 | .map b=>match s.hp.ap b with|some (.map a)=>qO q k a|_=>none
 | .H2=>some none
 |_=>none
def oC(t:Nat)(m i:HV)(ok:Bool):Option Rs:=match cx.sS t,i with
 |some e,.int q k=>match wO s q k m with
  |some (some v)=>some (.val (bif ok then .nf [v,.bool true]else v) s)
  |some none=>match cx.xb e with|some z=>some (.val (bif ok then .nf [z,.bool false]else z) s)|none=>none
  |none=>none
 |_,_=>none
def pL(t:Nat)(m i v:HV):Option Rs:=match cx.sS t,m,i with
 |some _,.map b,.int q k=>bif s.gV b then match s.hp.ap b with
  |some (.map a)=>match vl q k v a with|some c=>some (.G6 ⟨s.nt,s.dE,s.hp.set b (.map c),s.nx,s.lk,s.df⟩)|none=>none
  |_=>none else none
 |_,_,_=>none
def qW(c:HV)(a b:Option HV):Option Rs:=match c with
 | .bool true=>match a with|some v=>some (.val v s)|none=>none
 | .bool false=>match b with|some v=>some (.val v s)|none=>none
 |_=>none
def Ah(op:UnOp)(v:HV):Option Rs:=match op,v with| .not,.bool b=>some (.val (.bool (!b)) s)| .neg,.int k n=>some (.val (.int k (gj k (Int.sub 0 n))) s)|_,_=>none
def wQ(v:HV):Option Rs:=match v with| .ptr b o=>some (.val (.ptr b o) s)|_=>none
def lV(v:HV)(i:Nat):Option Rs:=match v with
 | .nf l=>match l[i]? with|some v=>some (.val v s)|none=>none
 |_=>none
def s8(v:HV):Option Rs:=match iR v with|some c=>some (.val (.ptr s.nx 0) (s.bT 0 c).2)|none=>none
def CH:Option Rs:=some (.val (.map s.nx) ⟨s.nt,s.dE,s.hp.set s.nx (.map []),Nat.add s.nx 1,s.lk,s.df⟩)
def GS(f:HV)(args:List HV):Option Rs:=match f with| .fn g a=>some (.call g (args++a))|_=>none
def fQ(k:HV->Option Rs)(x:Operand):Option Rs:=match s.ev x with|some v=>k v|none=>none
def lD(o:Op):Option Rs:=match o with
 | .move x=>fQ s (λv=>some (.val v s)) x
 | .assign x=>fQ s (λv=>some (.val v s)) x
 | .pick c a b=>fQ s (λv=>qW s v (s.ev a) (s.ev b)) c
 | .alloc t=>nT cx s t
 | .box _ x=>fQ s (λv=>s8 s v) x
 | .build t e=>match hM s e.toList with|some l=>la cx s t l|none=>none
 | .buildSlice t n e=>match hM s e.toList with|some l=>fg cx s t n l|none=>none
 | .load t a=>fQ s (λv=>iQ cx s t v) a
 | .store t a x=>fQ s (λv=>fQ s (λu=>qj cx s t v u) x) a
 | .nilCheck x=>fQ s (λv=>wQ s v) x
 | .binOp d t x y _=>fQ s (λv=>fQ s (λu=>match lv cx d t v u with|some r=>some (.val r s)|none=>none) y) x
 | .unOp d _ x=>fQ s (λv=>Ah s d v) x
 | .convert a b x=>fQ s (λv=>gx cx s a b v) x
 | .makeFunc (.func f) j g=>match j.toList,s.kg g.toList with|[],some l=>some (.val (.fn f l) s)|_,_=>none
 | .makeMap _ none=>CH s
 | .makeSlice t l c=>fQ s (λv=>fQ s (λu=>iC cx s t v u) c) l
 | .slice t x q p w=>match s.ev x,n7 s q,n7 s p,n7 s w with|some v,some l,some h,some m=>eG cx s t v l h m|_,_,_,_=>none
 | .fieldAddr t x i=>fQ s (λv=>mN cx s t v i) x
 | .indexAddr t x i=>fQ s (λv=>fQ s (λu=>fJ cx s t v u) i) x
 | .index t x i=>fQ s (λv=>fQ s (λu=>mM cx s t v u) i) x
 | .lookup t x i z=>fQ s (λv=>fQ s (λu=>oC cx s t v u z) i) x
 | .mapUpdate t m k v=>fQ s (λa=>fQ s (λb=>fQ s (λc=>pL cx s t a b c) v) k) m
 | .extract x i=>fQ s (λv=>lV s v i) x
 | .call c=>match c.callee with
  | .builtin b=>match s.kg c.args.toList with|some l=>fz cx s b c.argTypes.toList l|none=>none
  | .value f=>match s.kg c.args.toList with|some l=>fQ s (λv=>GS v l) f|none=>none
  |_=>none
 |_=>none
end
inductive Ex where|cS|ret|exit(id:Nat)
def lr:Nat->List HV->Tr HV->Tr HV|_,[],e=>e|i,v::a,e=>lr (Nat.add i 1) a (e.set i v)
def pY(cx:Cx)(s:St):List ResultVar->Option (List HV)
 |[]=>some []
 | .tmp t::r=>match pY cx s r with|some l=>some (s.tmp t::l)|none=>none
 | .cell a t::r=>match iQ cx s t (s.tmp a)with
  |some (.val u _)=>match pY cx s r with|some l=>some (u::l)|none=>none
  |_=>none
def one:List HV->HV|[v]=>v|l=> .nf l
abbrev od:=Code->St->Option (Ex×St)
def yO:Nat->List HV->St->Option (HV×St)|1,[.int .i64 (.ofNat n)],s=>bif Nat.ble n 1000000 then some (.sl s.nx 0 n,(s.bT 1 (List.replicate n .any)).2)else none|2,[],s=>some (.bool true,s)|_,_,_=>none
def call(cx:Cx)(d:od)(f:FuncId)(args:List HV)(s:St):Option (HV×St):=match cx.ext.ap f with|some q=>yO q args s|none=>match cx.fn.ap f with
 |some a=>match a.body with
  |some c=>bif Nat.ble args.length a.ntmps then match d c ⟨a.ntmps,lr 0 args .e,s.hp,s.nx,s.lk,.undef⟩with
   |some (.exit _,_)=>none
   |some (_,b)=>match pY cx b a.results.toList with|some l=>some (one l,⟨s.nt,s.dE,b.hp,b.nx,s.lk,s.df⟩)|none=>none
   |none=>none else none
  |none=>none
 |none=>none
def takes(s:St)(bG:Array Oper)(o:Oper):Option Bool:=match o.guard with|none=>some true|some (j,w)=>match(bG[j]?).bind (·.dst)with
 |some g=>match s.tmp g with| .bool b=>some (b==w)| .any=>none|_=>some false
 |none=>none
def gQ(cx:Cx)(c:od)(bG:Array Oper)(s:St)(o:Oper):Option St:=match takes s bG o with
 |some true=>match lD cx s o.op with
  |some (.val v a)=>some (a.put o.dst v)
  |some (.G6 a)=>some (a.put o.dst .undef)
  |some (.call f b)=>match call cx c f b s with|some (v,a)=>some (a.put o.dst v)|none=>none
  |none=>none
 |some false=>some (s.put o.dst .undef)
 |none=>none
def jM(cx:Cx)(a:od)(bG:Array Oper):St->List Oper->Option St|s,[]=>some s|s,o::r=>match gQ cx a bG s o with|some b=>jM cx a bG b r|none=>none
def fX:Op->Bool
 | .call c=>match c.callee with| .builtin .append=>true| .builtin .copy=>true| .builtin .clear=>true| .builtin _=>false|_=>true
 | .store _ _ _=>true
 | .mapUpdate _ _ _ _=>true
 |_=>false
def sj:Op->Bool| .alloc _=>true| .box _ _=>true| .buildSlice _ _ _=>true| .makeSlice _ _ _=>true| .makeMap _ _=>true|_=>false
def qN:Op->Bool| .load _ _=>true| .convert _ _ _=>true| .slice _ _ _ _ _=>true|_=>false
def ut:Op->Bool| .lookup _ _ _ _=>false| .insert _ _ _ _=>false| .mapEntry _ _ _=>false| .entryStore _ _ _ _=>false| .range _ _=>false| .next _ _=>false| .entry _=>false|_=>true
def sub(a b:Nat):Bool:=Nat.beq (Nat.land a b) a
def uO(i:Nat):Nat:=Nat.pow 2 i
def dk(m i:Nat):Bool:=Nat.beq (Nat.mod (Nat.div m (uO i)) 2) 1
def CW(T:Tr Nat)(i:Nat):List Edge->Nat->Option Nat|[],m=>some m|e::r,m=>match Region.binds .any e with|false=>CW T i r m|true=>bif Nat.blt e.on i then CW T i r (Nat.lor m (Nat.lor (uO e.on) ((T.ap e.on).getD 0)))else none
def I2:List Oper->Nat->Tr Nat->Option (Tr Nat)|[],_,a=>some a|o::r,i,a=>match CW a i o.after.toList 0 with|some m=>I2 r (Nat.add i 1) (a.set i m)|none=>none
def me(p:Op->Bool):List Oper->Nat->Nat|[],_=>0|o::r,i=>Nat.lor (bif p o.op then uO i else 0) (me p r (Nat.add i 1))
def yJ(m e:Nat):List Oper->Nat->List Nat|[],_=>[]|_::r,i=>bif dk m i&&!dk e i then i::yJ m e r (Nat.add i 1)else yJ m e r (Nat.add i 1)
structure PC where
  bG : List Oper
  T : Tr Nat
  ch : Nat
  fl : Nat
  ld : Nat
def PC.ob(p:PC)(i:Nat):Nat:=(p.T.ap i).getD 0
def GA(p:PC)(e:Nat):List Nat->Nat|[]=>0|l::r=>Nat.lor (bif sub (Nat.land (p.ob l) p.ch) e then Nat.lor (uO l) (p.ob l)else 0) (GA p e r)
def B9(p:PC)(e c:Nat):List Nat->List Nat|[]=>[]|l::r=>bif dk e l&&!dk (p.ob c) l then l::B9 p e c r else B9 p e c r
def FT(p:PC)(a:List Nat):Nat->List Nat->List (Nat×List Nat)|e,[]=>let m:=GA p e a;(yJ m e p.bG 0).map (λi=>(i,[]))++(yJ (Nat.sub (uO p.bG.length) 1) (Nat.lor e m) p.bG 0).map λi=>(i,[])|e,c::f=>let m:=GA p e a;let b:=Nat.lor e m;let d:=Nat.lor b (p.ob c);(yJ m e p.bG 0).map (λi=>(i,[]))++((yJ (p.ob c) b p.bG 0).map (λi=>(i,[]))++(c,B9 p d c a)::FT p a (Nat.lor d (uO c)) f)
def Gu:List Nat->Nat|[]=>0|l::r=>Nat.lor (uO l) (Gu r)
def sV(p:PC):Nat->List (Nat×List Nat)->Bool|e,[]=>Nat.beq e (Nat.sub (uO p.bG.length) 1)|e,(i,a)::r=>Nat.blt i p.bG.length&&(!dk e i&&(sub (p.ob i) e&&((!dk p.ch i||sub (Nat.land e p.ch) (p.ob i)&&(sub (Nat.land e p.fl) (p.ob i)&&sub (Nat.land e p.ld) (Nat.lor (p.ob i) (Gu a))))&&((!dk p.ld i||sub (Nat.land e p.ch) (p.ob i))&&sV p (Nat.lor e (uO i)) r))))
def tR:List Oper->Nat->Tr Nat->Option (Tr Nat)|[],_,a=>some a|o::r,i,a=>match o.dst with
 |some d=>match a.ap d with|some _=>none|none=>tR r (Nat.add i 1) (a.set d i)
 |none=>tR r (Nat.add i 1) a
def pZ(p:PC)(a:Tr Nat)(i:Nat):List Operand->Bool
 |[]=>true
 | .tmp t::r=>(match a.ap t with|some j=>Nat.beq j i||(dk (p.ob i) j||dk (p.ob j) i)|none=>true)&&pZ p a i r
 |_::r=>pZ p a i r
def yw(p:PC)(a:Tr Nat)(i:Nat):Option Operand->Bool
 |some (.tmp t)=>match a.ap t with|some j=>dk (p.ob i) j|none=>true
 |_=>true
def Il(p:PC)(i:Nat):Option (Nat×Bool)->Bool|some (j,_)=>dk (p.ob i) j|none=>true
def m7:Op->Option Operand| .load _ a=>some a| .convert _ _ a=>some a| .slice _ a _ _ _=>some a|_=>none
def xl(p:PC)(a:Tr Nat):List Oper->Nat->Bool|[],_=>true|o::r,i=>ut o.op&&(Il p i o.guard&&(pZ p a i o.op.operands.toList&&(yw p a i (m7 o.op)&&xl p a r (Nat.add i 1))))
structure Item where
  i : Nat
  o : Oper
  lk : List Operand
def G4(bG:List Oper):List Nat->Option (List Operand)|[]=>some []|l::r=>match bG[l]? with
 |some o=>match m7 o.op with
  |some a=>match G4 bG r with|some b=>some (a::b)|none=>none
  |none=>none
 |none=>none
def xE(bG:List Oper):List (Nat×List Nat)->Option (List Item)|[]=>some []|(i,b)::r=>match bG[i]? with
 |some o=>match G4 bG b with
  |some a=>match xE bG r with|some l=>some (⟨i,o,a⟩::l)|none=>none
  |none=>none
 |none=>none
def EJ(p:Op->Bool):List Oper->Nat->List Nat|[],_=>[]|o::r,i=>bif p o.op then i::EJ p r (Nat.add i 1)else EJ p r (Nat.add i 1)
def oF(bG:List Oper):Option (List Item):=match I2 bG 0 .e with
 |some a=>match tR bG 0 .e with|some b=>let p:PC:=⟨bG,a,me fX bG 0,me sj bG 0,me qN bG 0⟩;let l:=FT p (EJ qN bG 0) 0 (EJ fX bG 0);bif sV p 0 l&&xl p b bG 0 then xE bG l else none|none=>none
 |none=>none
def ip(s:St):List Operand->Option (List Nat)|[]=>some s.lk|a::r=>match ip s r with
 |some l=>match s.ev a with|some (.ptr b _)=>some (b::l)|some (.sl b _ _)=>some (b::l)|some (.jz b _ _)=>some (b::l)|some (.map _)=>none|some _=>some l|none=>none
 |none=>none
def ly(s:St):Op->Bool
 | .call c=>match c.callee with
  | .builtin .len=>match s.kg c.args.toList with|some [.map _]=>true|_=>false
  |_=>false
 |_=>false
def kh(s:St):List Operand->Tr HV|[]=> .e| .tmp t::r=>(kh s r).set t (s.tmp t)|_::r=>kh s r
def oB(bG:Array Oper)(o:Oper):List Operand:=match o.guard with
 |some (j,_)=>match(bG[j]?).bind (·.dst)with|some g=>[.tmp g]|none=>[]
 |none=>[]
def St.cut(s:St)(bG:Array Oper)(o:Oper)(l:List Nat):St:=⟨s.nt,kh s (oB bG o++o.op.operands.toList),s.hp,s.nx,l,.any⟩
def St.take(s:St)(o:Oper)(t:St):St:=⟨s.nt,match o.dst with|some d=>s.dE.set d (t.tmp d)|none=>s.dE,t.hp,t.nx,s.lk,s.df⟩
def ga(cx:Cx)(a:od)(bG:Array Oper):St->List Item->Option St|s,[]=>some s|s,x::r=>match ip s x.lk with
 |some l=>bif ly s x.o.op then none else match gQ cx a bG (s.cut bG x.o l) x.o with|some t=>ga cx a bG (s.take x.o t) r|none=>none
 |none=>none
def yx(cx:Cx)(e:od)(c:Code)(s:St):Option (Ex×St):=match c with
 | .skip=>some (.cS,s)
 | .region _ f false=>match jM cx e f s f.toList with|some d=>some (.cS,d)|none=>none
 | .region _ f true=>match oF f.toList with
  |some l=>match ga cx e f s l with|some d=>some (.cS,d)|none=>none
  |none=>none
 | .seq a b=>match e a s with|some (.cS,d)=>e b d|r=>r
 | .cond c a b=>match s.ev c with|some (.bool true)=>e a s|some (.bool false)=>e b s|_=>none
 | .block g b=>match e b s with|some (.exit j,d)=>bif Nat.beq j g then some (.cS,d)else some (.exit j,d)|r=>r
 | .loop b=>match e b s with|some (.cS,d)=>e (.loop b) d|r=>r
 | .exit g=>some (.exit g,s)
 | .ret=>some (.ret,s)
 |_=>none
def run(cx:Cx)(n:Nat):od:=Nat.rec (λ_ _=>none) (λ_ a=>yx cx a) n
def pl(P:Program)(t:Nat):Sh:=match P.underlying t with
 |some (.slice e)=> .slice e
 |some (.array n e)=> .fF n e
 |some (.struct a)=>match a.toList.mapM λf=>(P.info? f.type).map λi=>(f.offset,i.size)with|some l=> .struct l|none=> .QK
 |some (.int k)=> .int k
 |some .bool=> .bool
 |some .string=> .dH
 |some (.map k e)=> .map k e
 |_=> .QK
def LH(P:Program)(t:Nat):Bool:=match P.underlying t with|some (.struct _)=>true|some (.array _ _)=>true|_=>false
def qG(P:Program)(t:Nat):Option qq:=match P.info? t with
 |some i=>match P.underlying t with|none=>none|some _=>some ⟨LH P t,i.size,i.bytes,match i.zero with|some v=>KR v|none=>none,pl P t⟩
 |none=>none
def Et(P:Program):Nat->Tr qq|0=> .e|i+1=>match qG P i with|some x=>(Et P i).set i x|none=>Et P i
def Ev:List Func->Nat->Tr Func->Tr Func|[],_,t=>t|f::r,i,t=>Ev r (Nat.add i 1) (t.set i f)
end
end Go.Hm
namespace Go.Ls
open Go Go.Hm
noncomputable section
inductive U where|int(k:IntKind)|bool|dH|bc(e:U)|un|ah(a b:U)|fF(n:Nat)(e:U)|nil deriving DecidableEq
abbrev iT:U:= .int .i64
abbrev iU:U:= .ah iT .un
abbrev bU:U:= .ah .bool .un
abbrev lI:U:= .bc iT
@[reducible]def D:U->Type| .int _=>Int| .bool=>Bool| .dH=>ByteArray| .bc e=>List (D e)| .un=>Unit| .ah a b=>D a×D b| .fF _ e=>List (D e)| .nil=>Unit
def RK:(u:U)->D u| .int _=>(0:Int)| .bool=>false| .dH=>ByteArray.empty| .bc _=>[]| .un=>()| .ah a b=>(RK a,RK b)| .fF n e=>List.replicate n (RK e)| .nil=>()
def U.size:U->Nat| .un=>0| .ah a b=>Nat.add a.size b.size| .fF n e=>Nat.mul n e.size|_=>1
def U.ag:U->Bool| .un=>true| .ah _ _=>true| .fF _ _=>true|_=>false
def U.fO:U->Bool| .bc _=>false| .ah a b=>a.fO&&b.fO| .fF _ e=>e.fO|_=>true
def jC(u v:U)(x:D u):Option (D v):=match decEq u v with| .isTrue h=>some (h▸x)| .isFalse _=>none
def ad{α:Type}(b:Bool)(x y:Option α):Option α:=Bool.rec y x b
def aA{α:Type}(b:Bool)(x:Option α):Option α:=Bool.rec none x b
def am{α β:Type}(o:Option α)(f:α->Option β):Option β:=match o with|some x=>f x|none=>none
def aD{α β:Type}(o:Option (Sum α β))(f:α->Option β):Option β:=match o with|some (.inl x)=>f x|some (.inr r)=>some r|none=>none
def DH{α β:Type}(o:Option α):Option (Sum α β):=match o with|some x=>some (.inl x)|none=>none
def ao{α β:Type}(o:Option β):Option (Sum α β):=match o with|some x=>some (.inr x)|none=>none
def jk{α β:Type}(f:α->Option (Sum α β))(n:Nat):α->Option β:=Nat.rec (λ_=>none) (λ_ a x=>aD (f x) a) n
def Mt{α:Type 1}(a:α):{x:α//x=a}:=Classical.choice ⟨⟨a,rfl⟩⟩
def aB{α β:Type}(f:α->Option (Sum α β))(n:Nat)(x:α):Option β:=(Mt λ(α β:Type)(f:α->Option (Sum α β))(n:Nat)=>jk f n).1 α β f n x
def tk(op:BinOp)(k:IntKind)(a b:Int):Int:=match op with| .add=>gj k (Int.add a b)| .sub=>gj k (Int.sub a b)| .mul=>gj k (Int.mul a b)| .quo=>gj k (Int.tdiv a b)| .rem=>Int.tmod a b| .and=>gj k (Int.ofNat (BitVec.ofInt k.bits a&&&BitVec.ofInt k.bits b).toNat)| .or=>gj k (Int.ofNat (BitVec.ofInt k.bits a|||BitVec.ofInt k.bits b).toNat)| .xor=>gj k (Int.ofNat (BitVec.ofInt k.bits a^^^BitVec.ofInt k.bits b).toNat)| .andNot=>gj k (Int.ofNat (BitVec.ofInt k.bits a&&& ~~~BitVec.ofInt k.bits b).toNat)| .shl=>gj k (Int.mul a (Int.ofNat (Nat.pow 2 (Nat.min b.toNat k.bits))))| .shr=>Int.fdiv a (Int.ofNat (Nat.pow 2 (Nat.min b.toNat k.bits)))|_=>0
def DM(op:BinOp)(a b:Int):Bool:=match op with| .eql=>decide (a=b)| .neq=>!decide (a=b)| .lss=>decide (a<b)| .leq=>decide (a<=b)| .gtr=>decide (b<a)| .geq=>decide (b<=a)|_=>false
def cvC(k:IntKind)(x:Int):Int:=gj k x
def ek(k:IntKind)(x:Int):Int:=cvC k x
def ai(k:IntKind)(a b:Int):Int:=tk .add k a b
def bo(k:IntKind)(a b:Int):Int:=tk .sub k a b
def d8(k:IntKind)(a b:Int):Int:=tk .mul k a b
def pm(k:IntKind)(a b:Int):Int:=tk .quo k a b
def lM(k:IntKind)(a b:Int):Int:=tk .rem k a b
def acJ(k:IntKind)(a b:Int):Int:=tk .and k a b
def QL(k:IntKind)(a b:Int):Int:=tk .or k a b
def bK(k:IntKind)(a b:Int):Int:=tk .xor k a b
def jD(k:IntKind)(a b:Int):Int:=tk .andNot k a b
def fB(k:IntKind)(a b:Int):Int:=tk .shl k a b
def rV(k:IntKind)(a b:Int):Int:=tk .shr k a b
def v6(k:IntKind)(a:Int):Int:=tk .sub k 0 a
def a6(a b:Int):Bool:=DM .eql a b
def bH(a b:Int):Bool:=DM .neq a b
def ay(a b:Int):Bool:=DM .lss a b
def cL(a b:Int):Bool:=DM .leq a b
def xS(a b:Bool):Bool:=a==b
def bL(a:Bool):Bool:=!a
def fc(a b:Bool):Bool:=a&&b
def RB(a b:ByteArray):Bool:=a.toList==b.toList
def acI(a b:ByteArray):ByteArray:=a++b
def Xb(a b:ByteArray):Bool:=Nat.ble (Nat.add a.size b.size) 1000000000
def WO(b:Bool)(x y:Int):Int:=bif b then x else y
def bN(a b:Int):Int:=bif decide (a<=b)then a else b
def WV(a b:Int):Int:=bif decide (a<=b)then b else a
def ak{α:Type}(l:List α):Int:=Int.ofNat l.length
def wa(s:ByteArray):Int:=Int.ofNat s.size
def ax{α:Type}(l:List α)(i:Int):Option α:=match i with| .ofNat n=>l[n]?|_=>none
def atS(s:ByteArray)(i:Int):Option Int:=match i with
 | .ofNat n=>match s[n]? with|some c=>some (Int.ofNat c.toNat)|none=>none
 |_=>none
def a5{α:Type}(l:List α)(i:Int):Bool:=decide (0<=i)&&decide (i<Int.ofNat l.length)
def aI{α:Type}(l:List α)(i:Int)(x:α):List α:=l.set i.toNat x
def aM{α:Type}(l r:List α):List α:=l++r
def ae6{α:Type}(l:List α)(k lX:Nat):Bool:=gL (Nat.add l.length k) lX
def aO{α:Type}(l r:List α)(lX:Nat):Bool:=gL (Nat.add l.length r.length) lX
def gP(l c:Int)(lX:Nat):Bool:=decide (0<=l)&&(decide (l<=c)&&gL c.toNat lX)
def er{α:Type}(n:Int)(x:α):List α:=List.replicate n.toNat x
def dJ(lo hi n:Int):Bool:=decide (0<=lo)&&(decide (lo<=hi)&&decide (hi<=n))
def eX{α:Type}(l:List α)(lo hi:Int):List α:=(l.drop lo.toNat).take (hi.toNat-lo.toNat)
def acs(s:ByteArray)(lo hi:Int):ByteArray:=s.extract lo.toNat hi.toNat
def cV(a:Int):Bool:=decide (0<=a)
def bm{α:Type}(d:α)(l:List α)(i:Nat):α:=(l[i]?).getD d
def rp(l:List Int):Bool:=l.all λc=>decide (0<=c)
def d7{α:Type}(l r:List α):List α:=r.take l.length++l.drop r.length
def FP{α β:Type}(l:List α)(r:List β):Int:=Int.ofNat (Nat.min r.length l.length)
def tg(s:ByteArray):List Int:=s.data.toList.map λc=>Int.ofNat c.toNat
def D7(l:List Int):ByteArray:=⟨⟨l.map λc=>UInt8.ofNat c.toNat⟩⟩
def ig{α:Type}(l:List α)(i:Int):List α:=l.eraseIdx i.toNat
def sf(m:List (Int×Bool×Unit))(k:Int):Bool:=match m with|[]=>false|(a,b,_)::r=>bif decide (k=a)then b else sf r k
def B5(m:List (Int×Bool×Unit))(k:Int):Bool:=match m with|[]=>false|(a,_)::r=>decide (k=a)||B5 r k
def nL(m:List (Int×Bool×Unit))(k:Int)(v:Bool):List (Int×Bool×Unit):=match m with|[]=>[(k,v,())]|(a,w)::r=>bif decide (k=a)then(k,v,())::r else(a,w)::nL r k v
inductive SV where|any|undef|int(l:Bool)(k:IntKind)(x:Int)|bool(l b:Bool)|val(u:U)(x:D u)|agg(is:List SV)|nf(vs:List SV)|fn(f:FuncId)(caps:List SV)|sc|cK|gO|sd|box(m o:Nat)|sq(m o n:Nat)|row(m:Nat)|pz(m:Nat)(i:Int)(o:Nat)|sX(u:U)(x:D u)|vQ(m o n:Nat)(u:U)(j:Int)(p:Nat)|sub(m g:Nat)(j:Int)|map(m:Nat)|jz(m o n:Nat)|vw(m:Nat)(h:Int)|bv(m:Nat)(u:U)(x:D u)|tj(m:Nat)(u:U)(x:D u)|uk(k:IntKind)
inductive iK where|box(z:Nat)(is:List SV)|row(e:U)(xs:List (D e))|rows(g:Nat)(e:U)(xs:List (List (D e)))|mJ(e:U)(xs:List (List (D e)))(k:Int)|map(kvs:List (Int×Bool×Unit))|zn(c w:Bool)
def iK.rn:iK->Option Nat| .rows _ _ a=>some a.length| .mJ _ a _=>some a.length| .zn _ _=>some 0|_=>none
def mk:(u:U)->D u->SV| .int k,x=> .int false k x| .bool,b=> .bool false b| .dH,x=> .val .dH x| .bc e,x=> .val (.bc e) x| .un,x=> .val .un x| .ah a b,x=> .val (.ah a b) x| .fF n e,x=> .val (.fF n e) x| .nil,_=> .cK
def my(m:Nat):(u:U)->D u->SV| .int k,x=> .int false k x| .bool,b=> .bool false b| .dH,x=> .val .dH x| .bc e,x=> .bv m (.bc e) x| .un,x=> .val .un x| .ah a b,x=> .bv m (.ah a b) x| .fF n e,x=> .bv m (.fF n e) x| .nil,_=> .cK
def SV.ag:SV->Bool| .val u _=>u.ag| .bv _ u _=>u.ag| .agg _=>true|_=>false
mutual def SV.w:SV->Nat| .val u _=>u.size| .bv _ u _=>u.size| .agg is=>ws is|_=>1 def ws:List SV->Nat|[]=>0|i::is=>Nat.add i.w (ws is)end
def elems(e:U)(xs:List (D e)):Nat->Nat->List SV|_,0=>[]|i,n+1=>mk e (bm (RK e) xs i)::elems e xs (Nat.add i 1) n
def nS(m:Nat)(e:U)(xs:List (D e)):Nat->Nat->List SV|_,0=>[]|i,n+1=>my m e (bm (RK e) xs i)::nS m e xs (Nat.add i 1) n
def SV.split:SV->Option (List SV)| .agg d=>some d| .val (.ah a b) x=>some [mk a x.1,mk b x.2]| .val .un _=>some []| .val (.fF n e) c=>some (elems e c 0 n)| .bv m (.ah a b) x=>some [my m a x.1,my m b x.2]| .bv _ .un _=>some []| .bv m (.fF n e) c=>some (nS m e c 0 n)|_=>none
def qX:Nat->List SV->Nat->Option (List SV×List SV)|0,c,o=>bif Nat.beq o 0 then some ([],c)else none|f+1,c,o=>bif Nat.beq o 0 then some ([],c)else match c with|[]=>none|i::c=>bif Nat.ble i.w o then match qX f c (Nat.sub o i.w)with|some (a,b)=>some (i::a,b)|none=>none else match i.split with|some d=>qX f (d++c) o|none=>none
def FU:Nat:=1000
def tV:Nat->SV->SV|0,s=>s|f+1,s=>match s with| .val (.ah a .un) x=>tV f (mk a x.1)| .bv m (.ah a .un) x=>tV f (my m a x.1)|_=>s
def Qi:List SV->List SV|[i]=>[tV 5 i]|l=>l
def ux(a:List SV)(o z:Nat):Option (List SV):=match qX FU a o with
 |some (_,b)=>match qX FU b z with|some (c,_)=>some (Qi c)|none=>none
 |none=>none
def xt(c:List SV)(o z:Nat)(e:List SV):Option (List SV):=match qX FU c o with
 |some (a,b)=>match qX FU b z with|some (_,d)=>some (a++(e++d))|none=>none
 |none=>none
def Gm(ag:Bool):List SV->Option SV|[i]=>bif i.ag then bif ag then some i else none else bif ag then some (.agg [i])else some i|l=>bif ag then some (.agg l)else none
def SV.rt:SV->Option (List SV)| .any=>none| .undef=>none| .nf _=>none| .agg a=>some a|v=>some [v]
def wR:HV->SV| .int k n=> .int true k n| .bool b=> .bool true b| .dH s=> .val .dH s| .sc=> .sc| .cK=> .cK| .sd=> .sd|_=> .any
def ov:List HV->List SV|[]=>[]|v::a=>wR v::ov a
def WR:HV->SV| .undef=> .undef| .agg a=> .agg (ov a)|v=>wR v
structure SS where
  nt : Nat
  dE : Tr SV
  st : Tr iK
  nx : Nat
  lk : List Nat
  base : Nat
  wr : List Nat
  kp : List Nat
def SS.tmp(S:SS)(t:Nat):SV:=match S.dE.ap t with|some v=>v|none=> .any
def SS.mem(S:SS)(st:Tr iK)(nx:Nat):SS:=⟨S.nt,S.dE,st,nx,S.lk,S.base,S.wr,S.kp⟩
def SS.put(S:SS)(d:Option Nat)(v:SV):Option SS:=match d with|some t=>bif Nat.blt t S.nt then bif bw t S.kp then none else some ⟨S.nt,S.dE.set t v,S.st,S.nx,S.lk,S.base,S.wr,S.kp⟩else some S|none=>some S
def SS.ev(S:SS):Operand->Option SV
 | .tmp t=>some (S.tmp t)
 | .const v=>match KR v with|some a=>some (WR a)|none=>none
 | .func f=>some (.fn f [])
 | .global _=>none
def SS.kg(S:SS):List Operand->Option (List SV)|[]=>some []|x::a=>match S.ev x with
 |some v=>match S.kg a with|some l=>some (v::l)|none=>none
 |none=>none
def SS.jQ(S:SS)(m:Nat):Bool:=Nat.ble S.base m||bw m S.wr
def SS.kt(S:SS)(m:Nat):Bool:=S.jQ m&&!bw m S.lk
def SS.bT(S:SS)(e:iK):SS:=S.mem (S.st.set S.nx e) (Nat.add S.nx 1)
def SS.iy(S:SS)(m:Nat)(e:iK):SS:=S.mem (S.st.set m e) S.nx
def SS.mI(S:SS)(m:Nat):SS:=S.mem (S.st.nU m) S.nx
mutual def fb:SV->List Nat| .row m=>[m]| .sq m _ _=>[m]| .sub m _ _=>[m]| .jz m _ _=>[m]| .vw m _=>[m]| .bv m u _=>bif u.fO then []else [m]| .agg is=>dI is|_=>[]def dI:List SV->List Nat|[]=>[]|i::is=>fb i++dI is end
def Gg(st:Tr iK)(a:List SV->Option (List Nat)):List Nat->Option (List Nat)|[]=>some []|m::l=>match Gg st a l with
 |some r=>match st.ap m with
  |some (.box _ b)=>match a b with|some q=>some (m::(q++r))|none=>none
  |_=>some (m::r)
 |none=>none
def yE(st:Tr iK):Nat->List SV->Option (List Nat)
 |0,a=>match dI a with|[]=>some []|_=>none
 |k+1,a=>Gg st (yE st k) (dI a)
def lL(st:Tr iK)(a:List SV):Option (List Nat):=yE st 3 a
def SV.as(st:Tr iK)(u:U):SV->Option (D u)
 | .val v x=>jC v u x
 | .int _ k x=>jC (.int k) u x
 | .bool _ b=>jC .bool u b
 | .cK=>match u with| .bc e=>some ([]:List (D e))| .nil=>some ()|_=>none
 | .gO=>match u with| .bc e=>some ([]:List (D e))|_=>none
 | .row m=>match st.ap m with|some (.row e a)=>jC (.bc e) u a|some (.rows _ e a)=>jC (.bc (.bc e)) u a|_=>none
 | .vw m h=>match st.ap m with|some (.row e a)=>jC (.bc e) u (eX a 0 h)|_=>none
 | .sub m g j=>match st.ap m with
  |some (.rows c e a)=>bif Nat.beq g c then match ax a j with|some l=>jC (.bc e) u l|none=>none else none
  |_=>none
 | .bv m v x=>bif v.fO then jC v u x else match st.ap m with|some (.zn true _)=>jC v u x|_=>none
 |_=>none
def XQ:List SV->List SV|[]=>[]|_::l=>l
def Uj{α:Type}(g:List SV->Option (α×List SV))(n:Nat):List SV->Option (List α×List SV):=Nat.rec (λr=>some ([],r)) (λ_ a r=>match g r with
 |some (x,b)=>match a b with|some (l,c)=>some (x::l,c)|none=>none
 |none=>none) n
def tJ(st:Tr iK):Nat->(u:U)->List SV->Option (D u×List SV)|0,_,_=>none|f+1,u,c=>match match c with|i::_=>i.as st u|[]=>none with|some x=>some (x,XQ c)|none=>match u with
 | .un=>some ((),c)
 | .ah a b=>match tJ st f a c with
  |some (x,r)=>match tJ st f b r with|some (y,j)=>some ((x,y),j)|none=>none
  |none=>none
 | .fF n e=>Uj (tJ st f e) n c
 | .bc e=>match c with
  | .sq m o n::r=>match st.ap m with
   |some (.box z g)=>bif Nat.beq z e.size&&Nat.ble 1 z then match qX FU g o with
    |some (_,h)=>match Uj (tJ st f e) n h with|some (l,_)=>some (l,r)|none=>none
    |none=>none else none
   |_=>none
  |i::r=>match i.split with|some d=>tJ st f (.bc e) (d++r)|none=>none
  |[]=>none
 |u=>match c with
  |i::r=>match i.split with|some d=>tJ st f u (d++r)|none=>none
  |[]=>none
def HR(st:Tr iK)(u:U)(v:SV):Option (D u):=bif v.ag==u.ag then match v.rt with
 |some a=>match tJ st FU u a with|some (x,[])=>some x|_=>none
 |none=>none else none
def SS.sW(S:SS):List Nat->Option SS|[]=>some S|m::l=>bif S.jQ m then(S.mI m).sW l else none
def nJ(st:Tr iK):(u:U)->List SV->Option (D u)
 | .un,[]=>some ()
 | .ah a b,v::c=>match HR st a v with
  |some x=>match nJ st b c with|some y=>some (x,y)|none=>none
  |none=>none
 |_,_=>none
def lP(m:Nat):(u:U)->D u->List SV| .ah a b,x=>my m a x.1::lP m b x.2|_,_=>[]
def Ip:(u:U)->D u->Nat->Nat->Option ((w:U)×D w)| .ah a b,x,p,z=>bif Nat.blt p a.size then bif Nat.beq p 0&&Nat.beq z a.size then some ⟨a,x.1⟩else Ip a x.1 p z else Ip b x.2 (Nat.sub p a.size) z|_,_,_,_=>none
def md:(u:U)->D u->List SV| .ah a b,x=>mk a x.1::md b x.2|_,_=>[]
structure rA where
  a : U
  r : U
  F : D a → Option (D r)
def zU:List SV->SV|[v]=>v|l=> .nf l
inductive Kd where|v(u:U)|o(e:U)|s(e:U)
inductive Hi where|aL(t:Nat)|val(t:Nat)(u:U)|own(t:Nat)(e:U)|mu(t:Nat)(e:U)|mp(t:Nat)|rw(t:Nat)(e:U)|cell(t:Nat)(u:U)|box(t:Nat)(ks:List Kd)
structure Cy where
  cx : Cx
  tu : Nat → Option U
  ct : Tr rA
  hi : Tr (Tr (List Hi))
  sp : Tr Nat
  rj : Tr (List Hi)
def wK:List Kd->U|[]=> .un| .o e::r=> .ah (.bc e) (wK r)| .s e::r=> .ah (.bc (.bc e)) (wK r)| .v u::r=> .ah u (wK r)
def i6:List Hi->U|[]=> .un| .aL _::r=>i6 r| .val _ u::r=> .ah u (i6 r)| .own _ e::r=> .ah (.bc e) (i6 r)| .mu _ e::r=> .ah (.bc (.bc e)) (i6 r)| .rw _ e::r=> .ah (.bc e) (i6 r)| .cell _ u::r=> .ah u (i6 r)| .mp _::r=> .ah (.bc (.ah (.int .i64) (.ah .bool .un))) (i6 r)| .box _ a::r=> .ah (wK a) (i6 r)
end
noncomputable section
variable{R:Type}
def Xi(l b:Bool)(x y:Option R):Option R:=bif l then bif b then x else y else ad b x y
def IQ(l b:Bool)(x:Option R):Option R:=bif l then bif b then x else none else aA b x
def Y2(op:BinOp)(k:IntKind)(a b:Int):Int:=match op with| .add=>ai k a b| .sub=>bo k a b| .mul=>d8 k a b| .quo=>pm k a b| .rem=>lM k a b| .and=>acJ k a b| .or=>QL k a b| .xor=>bK k a b| .andNot=>jD k a b| .shl=>fB k a b| .shr=>rV k a b|_=>0
def YV(op:BinOp)(a b:Int):Bool:=match op with| .eql=>a6 a b| .neq=>bH a b| .lss=>ay a b| .leq=>cL a b| .gtr=>ay b a| .geq=>cL b a|_=>false
def Gk:BinOp->Nat| .quo=>1| .rem=>1| .shl=>2| .shr=>2| .eql=>3| .neq=>3| .lss=>3| .leq=>3| .gtr=>3| .geq=>3|_=>0
def Q1(l:Bool)(op:BinOp)(k:IntKind)(a b:Int):SV:=bif l then .int true k (tk op k a b)else .int false k (Y2 op k a b)
def Yl(l:Bool)(op:BinOp)(a b:Int):SV:=bif l then .bool true (DM op a b)else .bool false (YV op a b)
def nM(k a:IntKind):Bool:=decide (k=a)
def Ro(op:BinOp)(l:Bool)(k:IntKind)(a:Int)(c:Bool)(d:IntKind)(b:Int)(K:SV->Option R):Option R:=match Gk op with|0=>bif nM k d then K (Q1 (l&&c) op k a b)else none|1=>bif nM k d then IQ c (bif c then !decide (b=0)else bH b 0) (K (Q1 (l&&c) op k a b))else none|2=>IQ c (bif c then decide (0<=b)else cV b) (K (Q1 (l&&c) op k a b))|_=>bif nM k d then K (Yl (l&&c) op a b)else none
def Ld(op:BinOp)(l b:Bool):Option SV:=match op with| .eql=>some (.bool l b)| .neq=>some (.bool l (bif l then !b else bL b))|_=>none
def yZ:Nat->List SV->Option (List SV)|0,_=>none|_+1,[]=>some []|f+1,i::a=>bif i.ag then match i.split with|some b=>yZ f (b++a)|none=>none else match yZ f a with|some l=>some (i::l)|none=>none
def ER:List Bool->List SV->List SV->Option (Bool×Bool)
 |[],[],[]=>some (true,true)
 |true::d,.int l k a::r,.int c g b::f=>bif nM k g then match ER d r f with|some (m,e)=>some (l&&c&&m,bif l&&c&&m then decide (a=b)&&e else fc (a6 a b) e)|none=>none else none
 |false::d,.bool l a::r,.bool c b::f=>match ER d r f with|some (m,e)=>some (l&&c&&m,bif l&&c&&m then a==b&&e else fc (xS a b) e)|none=>none
 |_,_,_=>none
def pf(o:Option SV)(K:SV->Option R):Option R:=match o with|some v=>K v|none=>none
def xM(cx:Cx)(t:Nat)(p:Sh->Bool):Bool:=match cx.ti.ap t with|some x=>p x.sh|none=>false
def Ga:Sh->Bool| .bool=>true|_=>false
def HJ:Sh->Bool| .slice _=>true|_=>false
def XZ:Sh->Bool| .dH=>true|_=>false
def R4(cx:Cx)(op:BinOp)(t:Nat)(x y:SV)(K:SV->Option R):Option R:=match x,y with
 | .int l k a,.int c d b=>Ro op l k a c d b K
 | .bool l a,.bool c b=>bif xM cx t Ga then pf (Ld op (l&&c) (bif l&&c then a==b else xS a b)) K else none
 | .val .dH a,.val .dH b=>match op with| .add=>aA (Xb a b) (K (.val .dH (acI a b)))|_=>pf (Ld op false (RB a b)) K
 | .uk k,.int _ d _=>bif Nat.beq (Gk op) 0&&nM k d then K (.uk k)else none
 |x,.cK=>bif xM cx t HJ then match x with| .cK=>pf (Ld op true true) K| .sq _ _ _=>pf (Ld op true false) K|_=>none else none
 |x,y=>match cx.DJ.ap t with
  |some m=>bif x.ag&&y.ag then match x.rt,y.rt with
   |some f,some g=>match yZ FU f,yZ FU g with
    |some a,some b=>bif Nat.beq a.length m.length&&Nat.beq b.length m.length then match ER m a b with|some (l,e)=>pf (Ld op l e) K|none=>none else none
    |_,_=>none
   |_,_=>none else none
  |none=>none
def v8:SV->Option Nat| .int true _ (.ofNat n)=>some n|_=>none
def K9:SV->Option SV| .int _ k x=>some (.sX (.int k) x)| .bool _ b=>some (.sX .bool b)| .val u x=>some (.sX u x)|_=>none
def Xa(u:U)(x:D u)(p z:Nat):Option SV:=match ux [mk u x] p z with|some [i]=>K9 i|_=>none
def y5(b:Nat->Option (Nat×Nat))(a:List SV):List (Nat×SV)->Option (List SV)|[]=>some a|(i,v)::r=>match b i with
 |some (o,z)=>match v.rt with
  |some c=>bif Nat.beq (ws c) z then match xt a o z c with|some d=>y5 b d r|none=>none else none
  |none=>none
 |none=>none
def Kb(cx:Cx)(t:Nat):Option (List SV):=match cx.ti.ap t with
 |some x=>match x.zero with
  |some z=>match iR z with|some c=>some (ov c)|none=>none
  |none=>none
 |none=>none
def Iy(S:SS):List (Nat×Operand)->Option (List (Nat×SV))|[]=>some []|(i,x)::r=>match S.ev x with
 |some v=>match Iy S r with|some l=>some ((i,v)::l)|none=>none
 |none=>none
def HQ(l:List SV):Nat->List SV|0=>[]|n+1=>l++HQ l n
def Iz(S:SS):Option Operand->Option (Option SV)|none=>some none|some x=>match S.ev x with|some v=>some (some v)|none=>none
def lE(d:Int):Option SV->Option Int|none=>some d|some (.int _ _ x)=>some x|some _=>none
def vN:Option SV->Bool|none=>true|some (.int true _ x)=>decide (x=0)|_=>false
def xB(a:List SV):Bool:=match dI a with|[]=>true|_=>false
def SS.Mi(S:SS):SS:=S.mem S.st (Nat.add S.nx 1)
section
variable(cy:Cy)(S:SS)
def GB(t:Nat)(a:SV)(K:SV->Option R):Option R:=match cy.cx.ti.ap t with
 |some x=>match a with
  | .box m o=>match S.st.ap m with
   |some (.box _ d)=>match ux d o x.size with|some c=>pf (Gm x.agg c) K|none=>none
   |_=>none
  | .sX u v=>bif Nat.beq u.size x.size then match ux [mk u v] 0 x.size with|some c=>pf (Gm x.agg c) K|none=>none else none
  | .pz m i o=>match S.st.ap m with
   |some (.row e b)=>am (ax b i) λv=>match ux [mk e v] o x.size with|some c=>pf (Gm x.agg c) K|none=>none
   |some (.rows g _ b)=>bif Nat.beq o 0&&(Nat.beq x.size 1&&!x.agg)then aA (a5 b i) (K (.sub m g i))else none
   |_=>none
  | .tj m u v=>match S.st.ap m with
   |some (.zn true _)=>bif Nat.beq u.size x.size then match ux [my m u v] 0 x.size with|some c=>pf (Gm x.agg c) K|none=>none else none
   |some (.zn false _)=>bif Nat.beq x.size 1&&!x.agg then match u,v with| .int k,_=>K (.uk k)| .bc e,l=>K (.bv m (.bc e) l)|_,_=>none else none
   |_=>none
  | .vQ m o n u j p=>match S.st.ap m with
   |some (.box _ d)=>match ux d o (Nat.mul n u.size)with
    |some c=>match tJ S.st FU (.fF n u) c with
     |some (b,[])=>bif xB c then am (ax b j) λv=>match ux [mk u v] p x.size with|some c=>pf (Gm x.agg c) K|none=>none else none
     |_=>none
    |none=>none
   |_=>none
  |_=>none
 |none=>none
def Cs(u:U):SV->Option (List (D u)×SS)
 | .cK=>some ([],S)
 | .row m=>match S.st.ap m with
  |some (.row e a)=>match jC (.bc e) (.bc u) a with|some b=>bif S.kt m then some (b,S.mI m)else none|none=>none
  |_=>none
 |_=>none
def MZ(k:IntKind):SV->Bool| .int _ a _=>nM k a| .uk a=>nM k a|_=>false
def FQ(t:Nat)(a v:SV)(K:SS->Option R):Option R:=match cy.cx.ti.ap t with
 |some x=>match v.rt with
  |some c=>bif Nat.beq (ws c) x.size then match a with
   | .box m o=>match S.st.ap m with
    |some (.box z l)=>bif S.kt m then match xt l o x.size c with|some h=>K (S.iy m (.box z h))|none=>none else none
    |_=>none
   | .pz m i o=>match S.st.ap m with
    |some (.row e f)=>match lL S.st c with
     |some g=>bif S.kt m&&!bw m g then match S.sW g with
      |some b=>am (ax f i) λy=>match xt [mk e y] o x.size c with
       |some h=>match tJ S.st FU e h with|some (w,[])=>K (b.iy m (.row e (aI f i w)))|_=>none
       |none=>none
      |none=>none else none
     |none=>none
    |some (.rows _ e f)=>match c with
     |[w]=>match Cs S e w with|some (q,b)=>bif b.kt m&&(Nat.beq o 0&&(b.st.ap m).isSome)then aA (a5 f i) (K (b.iy m (.rows b.nx e (aI f i q))).Mi)else none|none=>none
     |_=>none
    |some (.mJ e f k)=>match c with
     |[w]=>match Cs S e w with|some (q,b)=>bif b.kt m&&(Nat.beq o 0&&(b.st.ap m).isSome)then aA (a6 i k) (K (b.iy m (.rows b.nx e (aI f i q))).Mi)else none|none=>none
     |_=>none
    |_=>none
   | .tj m u _=>match S.st.ap m,u with|some (.zn false true),.int k=>bif MZ k v&&!bw m S.lk then K S else none|_,_=>none
   | .vQ m o n u j p=>match S.st.ap m with
    |some (.box z l)=>match lL S.st c with
     |some g=>bif S.kt m&&!bw m g then match S.sW g with
      |some b=>match ux l o (Nat.mul n u.size)with
       |some d=>match tJ S.st FU (.fF n u) d with
        |some (f,[])=>bif xB d then am (ax f j) λy=>match xt [mk u y] p x.size c with
         |some h=>match tJ S.st FU u h with
          |some (w,[])=>match xt l o (Nat.mul n u.size) [.val (.fF n u) (aI f j w)]with|some r=>K (b.iy m (.box z r))|none=>none
          |_=>none
         |none=>none else none
        |_=>none
       |none=>none
      |none=>none else none
     |none=>none
    |_=>none
   |_=>none else none
  |none=>none
 |none=>none
def GO(t:Nat)(a:SV)(i:Nat)(K:SV->Option R):Option R:=match cy.cx.ti.ap t with
 |some x=>match x.sh with
  | .struct b=>match b[i]? with
   |some (p,.succ z)=>match a with
    | .box m o=>K (.box m (Nat.add o p))
    | .pz m j o=>match S.st.ap m with|some (.row _ _)=>K (.pz m j (Nat.add o p))|_=>none
    | .vQ m o n u j q=>K (.vQ m o n u j (Nat.add q p))
    | .sX u v=>pf (Xa u v p (.succ z)) K
    | .tj m u v=>match S.st.ap m with
     |some (.zn _ _)=>match Ip u v p (.succ z)with|some w=>K (.tj m w.1 w.2)|none=>none
     |_=>none
    |_=>none
   |_=>none
  |_=>none
 |none=>none
def Cq(t:Nat)(a i:SV)(K:SV->Option R):Option R:=match cy.cx.ti.ap t with
 |some x=>match x.sh with
  | .slice e=>match cy.cx.size e with
   |some z=>match a,i with
    | .val (.bc u) b,.int _ _ j=>bif Nat.beq u.size z then am (ax b j) λv=>K (.sX u v)else none
    | .row m,.int _ _ j=>match S.st.ap m with|some (.row u b)=>bif Nat.beq u.size z then aA (a5 b j) (K (.pz m j 0))else none|some (.rows _ _ b)=>bif Nat.beq 1 z then aA (a5 b j) (K (.pz m j 0))else none|some (.mJ _ b _)=>bif Nat.beq 1 z then aA (a5 b j) (K (.pz m j 0))else none|_=>none
    | .vw m q,.int _ _ j=>match S.st.ap m with|some (.row u b)=>bif Nat.beq u.size z then aA (a5 (eX b 0 q) j) (K (.pz m j 0))else none|_=>none
    | .bv m (.bc u) b,.int _ _ j=>match S.st.ap m with|some (.zn _ _)=>bif Nat.beq u.size z then am (ax b j) λv=>K (.tj m u v)else none|_=>none
    | .sq m o n,i=>match v8 i with|some j=>bif Nat.blt j n then K (.box m (Nat.add o (Nat.mul j z)))else none|none=>none
    | .jz m o n,i=>match v8 i with|some j=>bif Nat.blt j n then K (.box m (Nat.add o (Nat.mul j z)))else none|none=>none
    |_,_=>none
   |none=>none
  | .fF n e=>match cy.cx.size e with
   |some z=>match a,i with
    | .sX (.fF c u) b,.int _ _ j=>bif Nat.beq u.size z&&Nat.beq n c then am (ax b j) λv=>K (.sX u v)else none
    | .tj m (.fF c u) b,.int _ _ j=>match S.st.ap m with|some (.zn _ _)=>bif Nat.beq u.size z&&Nat.beq n c then am (ax b j) λv=>K (.tj m u v)else none|_=>none
    | .box m o,i=>match v8 i with|some j=>bif Nat.blt j n then K (.box m (Nat.add o (Nat.mul j z)))else none|none=>match i,cy.tu e with| .int _ _ j,some u=>bif Nat.beq u.size z then aA (cV j) (aA (ay j (Int.ofNat n)) (K (.vQ m o n u j 0)))else none|_,_=>none
    | .pz m k o,i=>match v8 i with
     |some j=>bif Nat.blt j n then match S.st.ap m with|some (.row _ _)=>K (.pz m k (Nat.add o (Nat.mul j z)))|_=>none else none
     |none=>none
    |_,_=>none
   |none=>none
  |_=>none
 |none=>none
def GG(t:Nat)(a i:SV)(K:SV->Option R):Option R:=match cy.cx.ti.ap t with
 |some x=>match x.sh with
  | .dH=>match a,i with| .val .dH s,.int _ _ j=>am (atS s j) λc=>K (.int false .u8 c)|_,_=>none
  | .fF m e=>match cy.cx.ti.ap e with
   |some y=>match v8 i with
    |some j=>bif a.ag&&(!y.agg&&(Nat.beq y.size 1&&Nat.blt j m))then match a.rt with
     |some b=>match ux b j 1 with|some c=>pf (Gm false c) K|none=>none
     |none=>none else none
    |none=>none
   |none=>none
  |_=>none
 |none=>none
def G0(t:Nat)(ps:List (Nat×SV))(K:SV->Option R):Option R:=match cy.cx.ti.ap t with
 |some x=>match x.zero with
  |some (.agg z)=>match x.sh with
   | .struct a=>match y5 (λi=>a[i]?) (ov z) ps with|some l=>K (.agg l)|none=>none
   | .fF _ e=>match cy.cx.size e with
    |some q=>match y5 (λi=>some (Nat.mul i q,q)) (ov z) ps with|some l=>K (.agg l)|none=>none
    |none=>none
   |_=>none
  |_=>none
 |none=>none
def Lh(t:Nat):Option U:=match cy.cx.ti.ap t with
 |some x=>match x.sh with
  | .slice e=>match cy.tu e with
   |some u=>match cy.cx.size e with|some z=>bif Nat.beq u.size z then some u else none|none=>none
   |none=>none
  |_=>none
 |none=>none
def th(t len:Nat)(ps:List (Nat×SV))(K:SV->SS->Option R):Option R:=match cy.cx.gd t with
 |some y=>bif Nat.ble len 4000&&Nat.ble y.z 4000 then bif Nat.beq len 0&&ps.isEmpty then match Lh cy t with|some u=>K (.row S.nx) (S.bT (.row u []))|none=>none else match y5 (λi=>some (Nat.mul i y.z,y.z)) (HQ (ov y.zc) len) ps with|some l=>K (.sq S.nx 0 len) (S.bT (.box y.z l))|none=>none else none
 |none=>none
def Gf:U->Option U| .bc e=>some e|_=>none
def ul(t:Nat)(l c:SV)(K:SV->SS->Option R):Option R:=match cy.cx.gd t,Lh cy t with
 |some y,some u=>match l,c with
  | .int _ _ m,.int _ _ k=>match tJ S.st FU u (ov y.zc)with
   |some (x,[])=>aA (gP m k y.lX) (match Gf u with
    |some e=>match y.zc with|[.cK]=>K (.row S.nx) (S.bT (.rows S.nx e (er m [])))|_=>none
    |none=>K (.row S.nx) (S.bT (.row u (er m x))))
   |_=>none
  |_,_=>none
 |_,_=>none
def AQ:SV->Option SV
 | .val .dH s=>some (.int false .i64 (wa s))
 | .val (.bc _) a=>some (.int false .i64 (ak a))
 | .cK=>some (.int true .i64 0)
 | .gO=>some (.int true .i64 0)
 | .sq _ _ n=>some (.int true .i64 (Int.ofNat n))
 | .jz _ _ n=>some (.int true .i64 (Int.ofNat n))
 | .vw m h=>match S.st.ap m with|some (.row _ _)=>some (.int false .i64 h)|_=>none
 | .row m=>match S.st.ap m with|some (.row _ a)=>some (.int false .i64 (ak a))|some (.rows _ _ a)=>some (.int false .i64 (ak a))|_=>none
 | .bv m (.bc _) a=>match S.st.ap m with|some (.zn _ _)=>some (.int false .i64 (ak a))|_=>none
 |_=>none
def GC(v:SV)(K:SV->Option R):Option R:=match v with
 | .sub m g j=>match S.st.ap m with|some (.rows a _ c)=>bif Nat.beq g a then am (ax c j) λl=>K (.int false .i64 (ak l))else none|_=>none
 | .map m=>match S.st.ap m with|some (.map b)=>K (.int false .i64 (ak b))|_=>none
 |_=>none
def KZ(t:Nat)(v:SV)(K:SV->Option R):Option R:=bif xM cy.cx t λs=>match s,v with| .dH,.val .dH _=>true| .slice _,.val .dH _=>false| .slice _,_=>true|_,_=>false then pf (AQ S v) K else none
def KL(u:U):SV->Option (List (D u)×SS)
 | .cK=>some ([],S)
 | .gO=>some ([],S)
 | .row m=>match S.st.ap m with
  |some (.row e a)=>match jC (.bc e) (.bc u) a with|some b=>bif S.kt m then some (b,S.mI m)else none|none=>none
  |_=>none
 | .vw m h=>match S.st.ap m with
  |some (.row e a)=>match jC (.bc e) (.bc u) a with|some b=>bif S.kt m then some (eX b 0 h,S.mI m)else none|none=>none
  |_=>none
 |_=>none
def Ko(a:SV)(K:SV->SS->Option R):Option R:=match a with
 | .sub m g j=>match S.st.ap m with|some (.rows c e b)=>bif Nat.beq g c&&S.kt m then am (ax b j) λl=>K (.row S.nx) ((S.iy m (.mJ e b j)).bT (.row e l))else none|_=>none
 |a=>K a S
def xL(cx:Cx)(t:Nat)(x:SV):Bool:=xM cx t λs=>match s,x with| .slice _,.val (.bc _) _=>true| .slice _,.cK=>true| .slice _,.gO=>true| .slice _,.sq _ _ _=>true| .slice _,.row _=>true| .slice _,.vw _ _=>true| .slice _,.sub _ _ _=>true| .slice _,.bv _ (.bc _) _=>true|_,_=>false
def uQ(t g:Nat)(a x:SV)(K:SV->SS->Option R):Option R:=match cy.cx.gd t,Lh cy t with
 |some y,some u=>bif xL cy.cx g x then match HR S.st (.bc u) x with
  |some c=>match lL S.st [x]with
   |some e=>match S.sW (bif u.fO then []else e)with
    |some f=>match KL f u a with|some (d,b)=>aA (aO d c y.lX) (K (.row b.nx) (b.bT (.row u (aM d c))))|none=>none
    |none=>none
   |none=>none
  |none=>none else none
 |_,_=>none
def UO(S:SS):SV->Bool
 | .row m=>match S.st.ap m with|some (.rows _ _ _)=>true|_=>false
 |_=>false
def K7(t f:Nat)(a x:SV)(K:SV->SS->Option R):Option R:=match cy.cx.gd t,Lh cy t with
 |some y,some u=>match a,x with
  | .row m,.sq k 0 1=>match S.st.ap m,S.st.ap k with
   |some (.rows _ e c),some (.box z [w])=>bif decide (u= .bc e)&&(Nat.beq z 1&&xL cy.cx f x)then match Cs S e w with|some (d,b)=>bif b.kt m&&(b.st.ap m).isSome then aA (aO c [d] y.lX) (K (.row b.nx) ((b.mI m).bT (.rows b.nx e (aM c [d]))))else none|none=>none else none
   |_,_=>none
  |_,_=>none
 |_,_=>none
def UP:Option SV->Bool|some (.int l _ _)=>l|_=>true
def F0(t:Nat)(a:SV)(lo hi c:Option SV)(K:SV->SS->Option R):Option R:=match cy.cx.ti.ap t with
 |some x=>match x.sh with
  | .slice e=>match cy.cx.size e with
   |some z=>match a,c with
    | .val (.bc u) b,none=>match lE 0 lo,lE (ak b) hi with|some l,some h=>bif Nat.beq u.size z&&Nat.ble 1 z then aA (dJ l h (ak b)) (K (.val (.bc u) (eX b l h)) S)else none|_,_=>none
    | .val (.bc u) b,some _=>bif Nat.beq u.size z&&Nat.ble 1 z&&vN lo&&vN hi&&vN c&&Option.isSome hi then K .gO S else none
    | .cK,none=>bif vN lo&&vN hi then K .cK S else match lE 0 lo,lE 0 hi with|some l,some h=>aA (dJ l h 0) (K .cK S)|_,_=>none
    | .cK,some _=>bif vN lo&&vN hi&&vN c&&Option.isSome hi then K .cK S else none
    | .gO,none=>bif vN lo&&vN hi then K .gO S else none
    | .gO,some _=>bif vN lo&&vN hi&&vN c&&Option.isSome hi then K .gO S else none
    | .row m,none=>match S.st.ap m with
     |some (.row u b)=>match lE (ak b) hi with
      |some h=>bif Nat.beq u.size z&&Nat.ble 1 z then bif vN lo then aA (dJ 0 h (ak b)) (K (.vw m h) S)else match lE 0 lo with|some l=>bif UP lo then bif S.jQ m then aA (dJ l h (ak b)) (K (.val (.bc u) (eX b l h)) (S.mI m))else none else aA (dJ l h (ak b)) (K .any S)|none=>none else none
      |none=>none
     |_=>none
    |_,_=>none
   |none=>none
  | .fF k e=>match cy.cx.size e,a,c with
   |some z,.box m o,none=>match match lo with|none=>some 0|some v=>v8 v,match hi with|none=>some k|some v=>v8 v with|some l,some h=>bif Nat.ble k 1000000&&(Nat.blt l h&&Nat.ble h k)then K (.jz m (Nat.add o (Nat.mul l z)) (Nat.sub h l)) S else none|_,_=>none
   |_,_,_=>none
  | .dH=>match a,c with
   | .val .dH s,none=>match lE 0 lo,lE (wa s) hi with|some l,some h=>aA (dJ l h (wa s)) (K (.val .dH (acs s l h)) S)|_,_=>none
   |_,_=>none
  |_=>none
 |none=>none
def ZU(rU:Nat):Bool:=match cy.cx.ti.ap rU with
 |some x=>match x.sh with
  | .slice e=>match cy.cx.ti.ap e with
   |some q=>match q.sh with| .int .u8=>true|_=>false
   |none=>false
  |_=>false
 |none=>false
def zg(S:SS)(rU d:Nat)(a:SV)(K:SV->Option R):Option R:=match cy.cx.ti.ap rU,cy.cx.ti.ap d with
 |some _,some y=>match y.sh,a with
  | .int k,.int l _ n=>K (bif l then .int true k (cvC k n)else .int false k (ek k n))
  | .dH,.val .dH b=>K (.val .dH b)
  | .dH,x=>bif ZU cy rU&&xL cy.cx rU x then match lL S.st [x]with
   |some _=>match HR S.st (.bc (.int .u8)) x with|some c=>aA (rp c) (K (.val .dH (D7 c)))|none=>none
   |none=>none else none
  |_,_=>none
 |_,_=>none
def UE(d:Bool):List SV->Option SV|[.int l .i64 a,.int c .i64 b]=>some (.int (l&&c) .i64 (bif d then WV a b else bN a b))|_=>none
def QI(c:SV)(a b:Option SV)(K:SV->Option R):Option R:=match c,a,b with| .bool true x,a,b=>bif x then pf a K else pf b K| .bool false x,some (.int _ k a),some (.int _ d b)=>bif nM k d then K (.int false k (WO x a b))else none| .bool false x,some a,some b=>ad x (K a) (K b)|_,_,_=>none
def XH(op:UnOp)(v:SV):Option SV:=match op,v with| .not,.bool l b=>some (.bool l (bif l then !b else bL b))| .neg,.int l k n=>some (bif l then .int true k (tk .sub k 0 n)else .int false k (v6 k n))|_,_=>none
def QV(S:SS)(v:SV):Option SV:=match v with
 | .box m o=>some (.box m o)
 | .pz m i o=>match S.st.ap m with|some (.row _ _)=>some (.pz m i o)|_=>none
 | .sX u x=>some (.sX u x)
 | .tj m u x=>match S.st.ap m with|some (.zn _ _)=>some (.tj m u x)|_=>none
 |_=>none
def y8(v:SV)(i:Nat):Option SV:=match v with| .nf l=>l[i]?|_=>none
def Ys:SV->Bool| .sub _ _ _=>true| .map _=>true|_=>false
def Qv(u:U)(a:Nat)(x:SV):Option (List (D u)):=match x with| .val .dH b=>bif xM cy.cx a XZ then jC (.bc (.int .u8)) (.bc u) (tg b)else none| .val .un _=>none|x=>bif xL cy.cx a x&&(u.fO&&(lL S.st [x]).isSome)then HR S.st (.bc u) x else none
def xg(x:SV)(k m:Int)(o:Option R):Option R:=match x with| .val .dH _=>aA (cL k m) o|_=>o
def Lj(t h:Nat)(a x:SV)(K:SV->SS->Option R):Option R:=match cy.cx.gd t,Lh cy t with
 |some y,some u=>match Qv cy S u h x with
  |some b=>match a with
   | .row m=>match S.st.ap m with
    |some (.row e d)=>match jC (.bc e) (.bc u) d with|some c=>bif S.kt m&&u.fO then xg x (ak b) (ak c) (K (.int false .i64 (FP c b)) (S.iy m (.row u (d7 c b))))else none|none=>none
    |_=>none
   | .sub m g j=>match S.st.ap m with
    |some (.rows f e d)=>bif Nat.beq g f&&(S.kt m&&u.fO)then am (ax d j) λl=>match jC (.bc e) (.bc u) l with
     |some c=>match jC (.bc u) (.bc e) (d7 c b)with|some i=>xg x (ak b) (ak c) (K (.int false .i64 (FP c b)) (S.iy m (.rows g e (aI d j i))))|none=>none
     |none=>none else none
    |_=>none
   | .cK=>xg x (ak b) 0 (K (.int true .i64 0) S)
   |_=>none
  |none=>none
 |_,_=>none
def ML(m:SV)(K:List (Int×Bool×Unit)->Nat->Option R):Option R:=match m with
 | .map m=>match S.st.ap m with|some (.map a)=>K a m|_=>none
 |_=>none
def P9(cx:Cx)(e:Nat):Bool:=match cx.xb e with|some (.bool false)=>true|_=>false
def B8(t:Nat)(m i:SV)(ok:Bool)(K:SV->Option R):Option R:=match cy.cx.sS t,i with|some e,.int _ .i64 k=>bif xM cy.cx e Ga&&P9 cy.cx e then ML S m λa _=>K (bif ok then .nf [.bool false (sf a k),.bool false (B5 a k)]else .bool false (sf a k))else none|_,_=>none
def A9(t:Nat)(m i v:SV)(K:SS->Option R):Option R:=match cy.cx.sS t,i,v with|some _,.int _ .i64 k,.bool _ b=>ML S m λa n=>bif S.kt n then K (S.iy n (.map (nL a k b)))else none|_,_,_=>none
def zm(b:Builtin)(ts:List Nat)(args:List SV)(K:SV->SS->Option R):Option R:=match b,ts,args with
 | .len,[t],[v]=>bif Ys v then bif xM cy.cx t λs=>match s,v with| .slice _,.sub _ _ _=>true| .map _ _,.map _=>true|_,_=>false then GC S v λr=>K r S else none else KZ cy S t v λr=>K r S
 | .copy,[t,c],[a,x]=>Lj cy S t c a x K
 | .append,[t,c],[a,x]=>Ko S a λb d=>bif UO d b then K7 cy d t c b x K else uQ cy d t c b x K
 | .min,_,l=>pf (UE false l) λr=>K r S
 | .max,_,l=>pf (UE true l) λr=>K r S
 |_,_,_=>none
end
def kY:List Hi->List Nat|[]=>[]| .aL t::r=>t::kY r| .box t _::r=>t::kY r| .rw t _::r=>t::kY r|_::r=>kY r
def Bf:List SV->List Nat|[]=>[]| .row m::r=>m::Bf r|_::r=>Bf r
def kH(S:SS):List Hi->List Nat
 |[]=>[]
 | .own t _::r=>match S.tmp t with| .row m=>m::kH S r|_=>kH S r
 | .mu t _::r=>match S.tmp t with| .row m=>m::kH S r|_=>kH S r
 | .mp t::r=>match S.tmp t with| .map m=>m::kH S r|_=>kH S r
 | .rw t _::r=>match S.tmp t with| .row m=>m::kH S r|_=>kH S r
 | .box t _::r=>match S.tmp t with
  | .box m _=>match S.st.ap m with|some (.box _ a)=>m::(Bf a++kH S r)|_=>kH S r
  |_=>kH S r
 |_::r=>kH S r
def pA(S:SS):List Nat->Bool|[]=>true|m::l=>S.jQ m&&pA S l
def Nf(a:List Nat):List Nat->Bool|[]=>true|m::l=>!bw m a&&Nf a l
def SS.km(S:SS)(n:Nat)(h:List Hi)(wr kp:List Nat):SS:=⟨S.nt,S.dE,S.st,S.nx,S.lk,n,wr,kY h++kp⟩
def SS.tD(S a:SS):SS:=⟨S.nt,S.dE,S.st,S.nx,S.lk,a.base,a.wr,a.kp⟩
def SS.il(S:SS)(t:Nat)(v:SV):SS:=⟨S.nt,S.dE.set t v,S.st,S.nx,S.lk,S.base,S.wr,S.kp⟩
mutual def jB(n:Nat):SV->Bool| .agg is=>pn n is| .nf is=>pn n is| .fn _ is=>pn n is| .box m _=>Nat.blt m n| .sq m _ _=>Nat.blt m n| .row m=>Nat.blt m n| .pz m _ _=>Nat.blt m n| .vQ m _ _ _ _ _=>Nat.blt m n| .sub m g _=>Nat.blt m n&&Nat.blt g n| .jz m _ _=>Nat.blt m n| .vw m _=>Nat.blt m n| .map m=>Nat.blt m n| .bv m _ _=>Nat.blt m n| .tj m _ _=>Nat.blt m n|_=>true def pn(n:Nat):List SV->Bool|[]=>true|i::is=>jB n i&&pn n is end
def BP(S:SS)(e:U)(v:SV)(a fr:List Nat):Option (List (D e)×List Nat):=match v with
 | .row m=>match S.st.ap m with
  |some (.row u b)=>match jC (.bc u) (.bc e) b with|some c=>bif S.kt m&&(!bw m a&&!bw m fr)then some (c,m::a)else none|none=>none
  |_=>none
 | .cK=>some ([],a)
 | .gO=>some ([],a)
 | .vw m h=>match S.st.ap m with
  |some (.row u b)=>match jC (.bc u) (.bc e) b with|some c=>bif S.kt m&&(!bw m a&&!bw m fr)then some (eX c 0 h,m::a)else none|none=>none
  |_=>none
 |_=>none
def BO(S:SS)(e:U)(v:SV)(a fr:List Nat):Option (List (List (D e))×List Nat):=match v with
 | .row m=>match S.st.ap m with
  |some (.rows _ u b)=>match jC (.bc (.bc u)) (.bc (.bc e)) b with|some c=>bif S.kt m&&(!bw m a&&!bw m fr)then some (c,m::a)else none|none=>none
  |_=>none
 | .cK=>some ([],a)
 |_=>none
def Yk(S:SS)(v:SV)(a fr:List Nat):Option (List (Int×Bool×Unit)×List Nat):=match v with
 | .map m=>match S.st.ap m with|some (.map b)=>bif S.kt m&&(!bw m a&&!bw m fr)then some (b,m::a)else none|_=>none
 |_=>none
def Hv(S:SS)(u:U)(b:List SV)(c fr:List Nat):Option (D u×List SV×List Nat):=match tJ S.st FU u b with
 |some (x,r)=>match lL S.st b with|some a=>bif pA S a&&Nf c a then some (x,r,a)else none|none=>none
 |none=>none
def Al(S:SS):(h:List Kd)->List SV->List Nat->List Nat->Option (D (wK h)×List Nat×List Nat)
 |[],[],b,a=>some ((),b,a)
 | .o e::r,v::f,b,a=>match BP S e v b a with
  |some (x,g)=>match Al S r f g a with|some (y,q)=>some ((x,y),q)|none=>none
  |none=>none
 | .s e::r,v::f,b,a=>match BO S e v b a with
  |some (x,g)=>match Al S r f g a with|some (y,q)=>some ((x,y),q)|none=>none
  |none=>none
 | .v u::r,f,b,a=>match qX FU f u.size with
  |some (c,d)=>match Hv S u c b a with
   |some (x,[],k)=>match Al S r d b (k++a)with|some (y,q)=>some ((x,y),q)|none=>none
   |_=>none
  |none=>none
 |_,_,_,_=>none
def jp(c S:SS):(h:List Hi)->List Nat->List Nat->Option (D (i6 h))
 |[],_,_=>some ()
 | .aL _::r,b,a=>jp c S r b a
 | .val t u::r,b,a=>bif(S.tmp t).ag==u.ag then match(S.tmp t).rt with
  |some f=>match Hv S u f b a with
   |some (x,[],k)=>match jp c S r b (k++a)with|some y=>some (x,y)|none=>none
   |_=>none
  |none=>none else none
 | .own t e::r,b,a=>match BP S e (S.tmp t) b a with
  |some (x,d)=>match jp c S r d a with|some y=>some (x,y)|none=>none
  |none=>none
 | .mu t e::r,b,a=>match BO S e (S.tmp t) b a with
  |some (x,d)=>match jp c S r d a with|some y=>some (x,y)|none=>none
  |none=>none
 | .mp t::r,b,a=>match Yk S (S.tmp t) b a with
  |some (x,d)=>match jp c S r d a with|some y=>some (x,y)|none=>none
  |none=>none
 | .cell t u::r,b,a=>match S.tmp t with
  | .box m 0=>match S.st.ap m with
   |some (.box z f)=>bif Nat.beq z 0&&(S.kt m&&(!bw m b&&!bw m a))then match Hv S u f (m::b) a with
    |some (x,[],k)=>match jp c S r (m::b) (k++a)with|some y=>some (x,y)|none=>none
    |_=>none else none
   |_=>none
  |_=>none
 | .rw t e::r,b,a=>match c.tmp t with
  | .row m=>match BP S e (.row m) b a with
   |some (x,d)=>match jp c S r d a with|some y=>some (x,y)|none=>none
   |none=>none
  |_=>none
 | .box t i::r,b,a=>match c.tmp t with
  | .box m _=>match c.st.ap m,S.st.ap m with
   |some (.box z _),some (.box j f)=>bif Nat.beq z j then match Al S i f b a with
    |some (x,d,g)=>bif S.kt m&&(!bw m d&&!bw m g)then match jp c S r (m::d) g with|some y=>some (x,y)|none=>none else none
    |none=>none else none
   |_,_=>none
  |_=>none
def jl:(a:List Kd)->D (wK a)->SS->List SV×SS|[],_,S=>([],S)| .o e::r,x,S=>(.row S.nx::(jl r x.2 (S.bT (.row e x.1))).1,(jl r x.2 (S.bT (.row e x.1))).2)| .s e::r,x,S=>(.row S.nx::(jl r x.2 (S.bT (.rows S.nx e x.1))).1,(jl r x.2 (S.bT (.rows S.nx e x.1))).2)| .v u::r,x,S=>(mk u x.1::(jl r x.2 S).1,(jl r x.2 S).2)
def oW(a:SS)(wr P:List Nat):(h:List Hi)->D (i6 h)->SS->Option SS|[],_,S=>some S| .aL _::r,d,S=>oW a wr P r d S| .val t u::r,d,S=>bif bw t P then none else oW a wr P r d.2 (S.il t (mk u d.1))| .own t e::r,d,S=>bif bw t P then none else oW a wr P r d.2 ((S.bT (.row e d.1)).il t (.row S.nx))| .mu t e::r,d,S=>bif bw t P then none else oW a wr P r d.2 ((S.bT (.rows S.nx e d.1)).il t (.row S.nx))| .mp t::r,d,S=>bif bw t P then none else oW a wr P r d.2 ((S.bT (.map d.1)).il t (.map S.nx))| .cell t u::r,d,S=>bif bw t P then none else oW a wr P r d.2 ((S.bT (.box 0 [mk u d.1])).il t (.box S.nx 0))| .rw _ _::_,_,_=>none| .box t b::r,d,S=>match a.tmp t with
 | .box m _=>bif bw m wr&&Nat.blt m a.nx then match a.st.ap m with|some (.box z _)=>oW a wr P r d.2 ((jl b d.1 S).2.iy m (.box z (jl b d.1 S).1))|_=>none else none
 |_=>none
def mH(st:Tr iK):List Nat->Tr iK|[]=>st|m::l=>(mH st l).nU m
def sR(a:SS):List Nat->Tr SV|[]=> .e|t::l=>(sR a l).set t (a.tmp t)
def Xh(a:SS)(h:List Hi)(wr:List Nat):SS:=⟨a.nt,sR a (kY h++a.kp),mH a.st wr,a.nx,a.lk,a.base,a.wr,a.kp⟩
def we(a:SS):(h:List Hi)->(wr:List Nat)->D (i6 h)->Option SS
 | .rw t e::r,wr,d=>match a.tmp t with
  | .row m=>match a.st.ap m with|some (.row u _)=>bif bw m wr&&(Nat.blt m a.nx&&decide (u=e))then oW a wr (kY (.rw t e::r)++a.kp) r d.2 ((Xh a (.rw t e::r) wr).iy m (.row e d.1))else none|_=>none
  |_=>none
 |h,wr,d=>oW a wr (kY h++a.kp) h d (Xh a h wr)
def qV:Nat->List SV->Tr SV->Tr SV|_,[],e=>e|i,v::a,e=>qV (Nat.add i 1) a (e.set i v)
abbrev tl:=∀(R:Type),Tr (List Hi)->Nat->Code->SS->(Ex->SS->Option R)->Option R
section
variable(cy:Cy)
def qI(S:SS):List ResultVar->(List SV->Option R)->Option R|[],b=>b []| .tmp t::r,b=>qI S r λl=>b (S.tmp t::l)| .cell a t::r,b=>GB cy S t (S.tmp a) λv=>qI S r λl=>b (v::l)
def callee(S:SS)(n:Nat)(args:List SV):SS:=⟨n,qV 0 args .e,S.st,S.nx,S.lk,S.base,S.wr,[]⟩
def Xf(S:SS)(a:SV)(i j:Int)(K:SV->SS->Option R):Option R:=match a with
 | .row m=>match S.st.ap m with
  |some (.row e c)=>match jC (.bc e) (.bc (.int .i64)) c with|some b=>bif S.kt m then aA (a5 b i) (aA (a6 j (ai .i64 i 1)) (aA (aO [] b 8) (K (.row S.nx) ((S.mI m).bT (.row (.int .i64) (ig b i))))))else none|none=>none
  |_=>none
 |_=>none
def Kv(S:SS)(f q:Nat)(args:List SV)(K:SV->SS->Option R):Option R:=match q,args with
 |1,[a,.int _ .i64 i,.int _ .i64 j]=>Xf S a i j K
 |2,[x]=>match cy.cx.fn.ap f with
  |some b=>match b.params.toList with|[t]=>uQ cy S t t .gO x K|_=>none
  |none=>none
 |3,args=>match cy.ct.ap f with
  |some c=>match nJ S.st c.a args with
   |some x=>match lL S.st args with|some []=>am (c.F x) λy=>K (zU (lP S.nx c.r y)) (S.bT (.zn true true))|_=>none
   |none=>none
  |none=>none
 |_,_=>none
def QG(g:tl)(f:FuncId)(b:Code)(h:List Hi)(S:SS)(K:SS->Option R):Option R:=bif pA S (kH S h)then am (g (D (i6 h)) (match cy.hi.ap f with|some h=>h|none=> .e) 0 b (S.km S.nx h (kH S h) S.kp) λe a=>match e with| .exit _=>none|_=>jp S a h [] []) λd=>match we S h (kH S h) d with|some c=>K c|none=>none else none
def SS.qM(S:SS):List Nat->SS|[]=>S|m::l=>match S.st.ap m with|some (.zn true true)=>bif S.jQ m then(S.iy m (.zn false true)).qM l else S.qM l|_=>S.qM l
def Lv(j:tl)(f:FuncId)(args:List SV)(S:SS)(K:SV->SS->Option R):Option R:=match cy.cx.ext.ap f with
 |some q=>bif Nat.beq q 2 then match args with|[]=>K (.bool true true) S|_=>none else none
 |none=>match cy.sp.ap f with|some q=>Kv cy S f q args K|none=>match cy.ct.ap f with
  |some c=>match nJ S.st c.a args with
   |some x=>match lL S.st args with
    |some g=>match S.sW (bif c.r.fO then []else g)with|some i=>am (c.F x) λy=>K (zU (md c.r y)) (bif c.r.fO then i.qM g else i)|none=>none
    |none=>none
   |none=>none
  |none=>match cy.cx.fn.ap f with
   |some d=>match d.body with
    |some b=>bif Nat.ble args.length d.ntmps then match cy.rj.ap f with
     |none=>j R (match cy.hi.ap f with|some h=>h|none=> .e) 0 b (callee S d.ntmps args) λe a=>match e with| .exit _=>none|_=>qI cy a d.results.toList λl=>K (zU l) (S.mem a.st a.nx)
     |some h=>QG cy j f b h (callee S d.ntmps args) λa=>qI cy a d.results.toList λl=>K (zU l) (S.mem a.st a.nx)else none
    |none=>none
   |none=>none
def jP(S:SS)(x:Operand)(K:SV->Option R):Option R:=match S.ev x with|some v=>K v|none=>none
def KO(w:tl)(S:SS)(o:Op)(K:SV->SS->Option R):Option R:=match o with
 | .move x=>jP S x λv=>K v S
 | .assign x=>jP S x λv=>K v S
 | .pick c a b=>jP S c λv=>QI v (S.ev a) (S.ev b) λr=>K r S
 | .alloc t=>match Kb cy.cx t with|some l=>K (.box S.nx 0) (S.bT (.box 0 l))|none=>none
 | .box _ x=>jP S x λv=>match v.rt with|some l=>K (.box S.nx 0) (S.bT (.box 0 l))|none=>none
 | .build t p=>match Iy S p.toList with|some l=>G0 cy t l λv=>K v S|none=>none
 | .buildSlice t n p=>match Iy S p.toList with|some l=>th cy S t n l K|none=>none
 | .load t a=>jP S a λv=>GB cy S t v λr=>K r S
 | .store t a x=>jP S a λv=>jP S x λu=>FQ cy S t v u λd=>K .undef d
 | .nilCheck x=>jP S x λv=>pf (QV S v) λr=>K r S
 | .binOp j t x y _=>jP S x λv=>jP S y λu=>R4 cy.cx j t v u λr=>K r S
 | .unOp j _ x=>jP S x λv=>pf (XH j v) λr=>K r S
 | .convert a b x=>jP S x λv=>zg cy S a b v λr=>K r S
 | .makeFunc (.func f) q e=>match q.toList,S.kg e.toList with|[],some l=>K (.fn f l) S|_,_=>none
 | .makeMap t none=>match cy.cx.sS t with|some _=>K (.map S.nx) (S.bT (.map []))|none=>none
 | .lookup t x i B=>jP S x λv=>jP S i λu=>B8 cy S t v u B λr=>K r S
 | .mapUpdate t m k v=>jP S m λa=>jP S k λb=>jP S v λc=>A9 cy S t a b c λd=>K .undef d
 | .makeSlice t l c=>jP S l λv=>jP S c λu=>ul cy S t v u K
 | .slice t x z s A=>jP S x λv=>match Iz S z,Iz S s,Iz S A with|some l,some h,some m=>F0 cy S t v l h m K|_,_,_=>none
 | .fieldAddr t x i=>jP S x λv=>GO cy S t v i λr=>K r S
 | .indexAddr t x i=>jP S x λv=>jP S i λu=>Cq cy S t v u λr=>K r S
 | .index t x i=>jP S x λv=>jP S i λu=>GG cy t v u λr=>K r S
 | .extract x i=>jP S x λv=>pf (y8 v i) λr=>K r S
 | .call c=>match c.callee with
  | .builtin b=>match S.kg c.args.toList with|some l=>zm cy S b c.argTypes.toList l K|none=>none
  | .value f=>match S.kg c.args.toList with
   |some l=>jP S f λv=>match v with| .fn g e=>Lv cy w g (l++e) S K|_=>none
   |none=>none
  |_=>none
 |_=>none
def tz(S:SS)(d:Option Nat)(v:SV)(K:SS->Option R):Option R:=match S.put d v with|some a=>K a|none=>none
def FR(c:tl)(bG:Array Oper)(S:SS)(o:Oper)(K:SS→Option R):Option R:=match o.guard with|none=>KO cy c S o.op fun v a=>tz a o.dst v K|some (j,w)=>match(bG[j]?).bind (·.dst)with
 |some g=>match S.tmp g with| .bool true b=>bif b==w then KO cy c S o.op fun v a=>tz a o.dst v K else tz S o.dst .undef K| .bool false b=>bif bw g S.kp then none else bif w then ad b (KO cy c (S.il g (.bool true true)) o.op fun v a=>tz a o.dst v K) (tz (S.il g (.bool true false)) o.dst .undef K)else ad b (tz (S.il g (.bool true true)) o.dst .undef K) (KO cy c (S.il g (.bool true false)) o.op fun v a=>tz a o.dst v K)| .undef=>tz S o.dst .undef K|_=>none
 |none=>none
def My(b:tl)(bG:Array Oper):SS->List Oper->(SS->Option R)->Option R|S,[],a=>a S|S,o::r,a=>FR cy b bG S o λc=>My b bG c r a
def Gz(S:SS):List Operand->Option (List Nat)|[]=>some S.lk|a::r=>match Gz S r with
 |some l=>match S.ev a with
  |some (.box m _)=>bif(S.st.ap m).isSome then some (m::l)else none
  |some (.sq m _ _)=>bif(S.st.ap m).isSome then some (m::l)else none
  |some (.jz m _ _)=>bif(S.st.ap m).isSome then some (m::l)else none
  |some (.row m)=>match S.st.ap m with|some (.row _ _)=>some (m::l)|some (.rows _ _ _)=>some (m::l)|some (.mJ _ _ _)=>some (m::l)|_=>none
  |some (.pz m _ _)=>match S.st.ap m with|some (.row _ _)=>some (m::l)|some (.rows _ _ _)=>some (m::l)|some (.mJ _ _ _)=>some (m::l)|_=>none
  |some (.vQ m _ _ _ _ _)=>bif(S.st.ap m).isSome then some (m::l)else none
  |some (.vw m _)=>match S.st.ap m with|some (.row _ _)=>some (m::l)|_=>none
  |some (.sub m g _)=>match S.st.ap m with|some (.rows b _ _)=>bif Nat.beq g b then some (m::l)else none|_=>none
  |some (.val _ _)=>some l
  |some (.sX _ _)=>some l
  |some (.bv m (.bc _) _)=>match S.st.ap m with|some (.zn _ _)=>some (m::l)|_=>none
  |some (.bv _ (.ah _ _) _)=>some l
  |some (.tj m _ _)=>match S.st.ap m with|some (.zn _ _)=>some (m::l)|_=>none
  |some (.uk _)=>some l
  |some (.int _ _ _)=>some l
  |some .cK=>some l
  |some .gO=>some l
  |some .undef=>some l
  |_=>none
 |none=>none
def KQ(S:SS):Op->Bool
 | .call c=>match c.callee with
  | .builtin .len=>match S.kg c.args.toList with
   |some [.any]=>false
   |some [.pz _ _ _]=>false
   |some [.row m]=>match S.st.ap m with|some (.row _ _)=>true|some (.rows _ _ _)=>true|_=>false
   |some [.vQ _ _ _ _ _ _]=>false
   |some [.vw m _]=>match S.st.ap m with|some (.row _ _)=>true|_=>false
   |some [.map _]=>false
   |some [.sub _ _ _]=>false
   |some _=>true
   |none=>false
  |_=>true
 |_=>true
def Yh(S:SS):Option Nat->Bool|some d=>!bw d S.kp|none=>true
def zf(S:SS):List Operand->Tr SV|[]=> .e| .tmp t::r=>(zf S r).set t (S.tmp t)|_::r=>zf S r
def SS.cut(S:SS)(bG:Array Oper)(o:Oper)(l:List Nat):SS:=⟨S.nt,zf S (oB bG o++o.op.operands.toList),S.st,S.nx,l,S.base,S.wr,S.kp⟩
def SS.take(S:SS)(o:Oper)(T:SS):SS:=⟨S.nt,match o.dst with|some d=>S.dE.set d (T.tmp d)|none=>S.dE,T.st,T.nx,S.lk,S.base,S.wr,S.kp⟩
def FX(bG:Array Oper)(o:Oper)(S:SS)(K:SS→Option R):Option R:=match o.guard with|none=>K S|some (j,_)=>match(bG[j]?).bind (·.dst)with
 |some g=>match S.tmp g with| .bool false b=>bif bw g S.kp then none else ad b (K (S.il g (.bool true true))) (K (S.il g (.bool true false)))|_=>K S
 |none=>K S
def AR(b:tl)(bG:Array Oper):SS->List Hm.Item->(SS->Option R)->Option R|S,[],a=>a S|S,x::r,a=>FX bG x.o S λS=>match Gz S x.lk with|some l=>bif KQ S x.o.op&&Yh S x.o.dst then FR cy b bG (S.cut bG x.o l) x.o λc=>AR b bG (S.take x.o c) r a else none|none=>none
def YI(k:tl):tl:=λR i m c S g=>match c with
 | .skip=>g .cS S
 | .region _ o false=>My cy k o S o.toList λf=>g .cS f
 | .region _ o true=>match oF o.toList with|some l=>AR cy k o S l λf=>g .cS f|none=>none
 | .seq a b=>k R i m a S λe f=>match e with| .cS=>k R i m b f g|e=>g e f
 | .cond c a b=>match S.ev c with|some (.bool l x)=>Xi l x (k R i m a S g) (k R i m b S g)|_=>none
 | .block n b=>match i.ap (Nat.mul 2 n)with
  |none=>k R i n b S λe f=>match e with| .exit j=>bif Nat.beq j n then g .cS f else g (.exit j) f|e=>g e f
  |some h=>bif pA S (kH S h)then aD (k (Sum (D (i6 h)) R) i n b (S.km S.nx h (kH S h) S.kp) λe f=>match e with| .exit j=>bif Nat.beq j n then DH (jp S f h [] [])else ao (g (.exit j) (f.tD S))| .cS=>DH (jp S f h [] [])| .ret=>ao (g .ret (f.tD S))) λd=>match we S h (kH S h) d with|some p=>g .cS p|none=>none else none
 | .loop b=>match i.ap (Nat.add (Nat.mul 2 m) 1)with
  |none=>k R i m b S λe f=>match e with| .cS=>k R i m (.loop b) f g|e=>g e f
  |some h=>bif pA S (kH S h)then match jp S (S.km S.nx h (kH S h) S.kp) h [] []with
   |some r=>aB (λd=>match we S h (kH S h) d with
    |some q=>k (Sum (D (i6 h)) R) i m b (q.km S.nx h (kH S h) S.kp) λe f=>match e with| .cS=>DH (jp S f h [] [])|e=>ao (g e (f.tD S))
    |none=>none) 1000000000 r
   |none=>none else none
 | .exit n=>g (.exit n) S
 | .ret=>g .ret S
 |_=>none
def ex(n:Nat):tl:=Nat.rec (λ_ _ _ _ _ _=>none) (λ_ a=>YI cy a) n
def GX(P:Program):Nat->Nat->Option U|0,_=>none|f+1,t=>match P.underlying t with
 |some (.int k)=>some (.int k)
 |some .bool=>some .bool
 |some .string=>some .dH
 |some (.slice e)=>match GX P f e with|some u=>some (.bc u)|none=>none
 |some (.array n e)=>match GX P f e with|some u=>some (.fF n u)|none=>none
 |some (.struct a)=>a.toList.foldr (λx r=>match GX P f x.type,r with|some u,some v=>some (.ah u v)|_,_=>none) (some .un)
 |_=>none
def GL(k:Nat)(a r:U)(H:Tr (List Hi))(fn:Func)(x:D a):Option (D r):=match fn.body with
 |some b=>bif Nat.ble (md a x).length fn.ntmps then ex cy k (D r) H 0 b ⟨fn.ntmps,qV 0 (md a x) .e,.e,0,[],0,[],[]⟩ λe c=>match e with| .exit _=>none|_=>qI cy c fn.results.toList λl=>match lL c.st l with|some _=>nJ c.st r l|none=>none else none
 |none=>none
def fnF(k:Nat)(a r:U)(H:Tr (List Hi))(fn:Func)(x:D a):Option (D r):=match fn.body with
 |some b=>bif Nat.ble (lP 0 a x).length fn.ntmps then ex cy k (D r) H 0 b ⟨fn.ntmps,qV 0 (lP 0 a x) .e,(Tr.e).set 0 (.zn true false),1,[0],1,[],[]⟩ λe c=>match e with| .exit _=>none|_=>qI cy c fn.results.toList λl=>match lL c.st l with|some d=>bif bw 0 d then none else nJ c.st r l|none=>none else none
 |none=>none
end
def zj(P:Program)(a:List Nat):Nat->Nat->Option U|0,_=>none|f+1,t=>bif bw t a then some .nil else match P.underlying t with
 |some (.int k)=>some (.int k)
 |some .bool=>some .bool
 |some .string=>some .dH
 |some (.slice e)=>match zj P a f e with|some u=>some (.bc u)|none=>none
 |some (.array n e)=>match zj P a f e with|some u=>some (.fF n u)|none=>none
 |some (.struct b)=>b.toList.foldr (λx r=>match zj P a f x.type,r with|some u,some v=>some (.ah u v)|_,_=>none) (some .un)
 |_=>none
end
end Go.Ls
namespace Go.Wk
open Go Go.RowKit
abbrev dN:=Nat->Value
def iy(F:dN)(d:Nat)(v:Value):dN:=λi=>bif Nat.beq i d then v else F i
def rM(F:dN):Option Nat->Value->dN|some d,v=>iy F d v|none,_=>F
theorem Ou(F:dN)(d:Nat)(v:Value):iy F d v d=v:=by simp[iy]
theorem mW(F:dN){d i:Nat}(v:Value)(h:i≠d):iy F d v i=F i:=by
 have:Nat.beq i d=false:=by cases a:Nat.beq i d with
  |false=>rfl
  |true=>exact absurd (au a) h
 simp[iy,this]
def fr(n:Nat)(F:dN):Act:=⟨Array.ofFn λi:Fin n=>F i.val,[]⟩
theorem Ru(n:Nat)(F:dN):(fr n F).tmps.size=n:=by simp[fr]
theorem UV{n t:Nat}(F:dN)(h:t<n):(fr n F).tmps[t]?=some (F t):=by simp[fr,h]
theorem Rv{n t:Nat}(F:dN)(h:t<n):(fr n F).tmps.getD t undef=F t:=by simp[Array.getD,fr,h]
theorem UU(n:Nat)(F:dN)(d:Nat)(v:Value):(fr n F).put (some d) v=fr n (iy F d v):=by
 unfold Act.put fr;simp only;congr 1;apply Array.ext;.simp
 .
  intro i b c;simp at b c;by_cases a:d=i;.subst a;simp[iy]
  .
   have:Nat.beq i d=false:=by cases e:Nat.beq i d with
    |false=>rfl
    |true=>exact absurd (au e).symm a
   rw[pk (by simpa using b),aG a];simp[iy,this]
theorem xP(n:Nat)(F:dN)(d:Option Nat)(v:Value):(fr n F).put d v=fr n (rM F d v):=by cases d with
 |none=>rfl
 |some d=>exact UU n F d v
def ev(n:Nat)(F:dN):Operand->Value| .tmp t=>bif Nat.blt t n then F t else undef| .const v=>v| .global g=> .pointer (some ⟨g,0,none⟩)| .func f=> .func (.func f) #[] #[]
theorem qh(n:Nat)(F:dN):(fr n F).eval=ev n F:=by
 funext x
 cases x with
  |tmp t=>
  show(fr n F).tmps.getD t undef=bif Nat.blt t n then F t else undef;by_cases h:t<n
  .
   have a:Nat.blt t n=true:=by simpa [de]using h
   rw[a];exact Rv F h
  .
   have a:Nat.blt t n=false:=by cases a:Nat.blt t n with
    |false=>rfl
    |true=>exact absurd (by simpa [de]using a) h
   rw[a];have:¬t<(fr n F).tmps.size:=by rw[Ru];exact h
   simp only[Array.getD,this,dif_neg,not_false_iff];rfl
  |_=>rfl
structure Am where
  cS : dN → World → Prop
  ret : dN → World → Prop
  uy : List (Nat × (dN → World → Prop))
def xG(b:Nat):List (Nat×(dN->World->Prop))->dN->World->Prop|[],_,_=>False|(j,k)::c,a,w=>bif Nat.beq b j then k a w else xG b c a w
def Lf(n:Nat)(K:Am):Exit->Act->World->Prop| .normal,a,w=>∃b,a=fr n b/\K.cS b w| .ret,a,w=>∃b,a=fr n b/\K.ret b w| .exit c,a,w=>∃b,a=fr n b/\xG c K.uy b w|_,_,_=>False
def W(P:Program)(n:Nat)(c:Code)(K:Am)(F:dN)(w:World):Prop:=c.wp P (Lf n K) (fr n F) w
section
variable{P:Program}{n:Nat}{K:Am}{F:dN}{w:World}
theorem Sl{x y:Code}(h:W P n x ⟨λF w=>W P n y K F w,K.ret,K.uy⟩ F w):W P n (.seq x y) K F w:=by refine wp_seq (Code.wp_mono ?_ h);intro e a w h;cases e with
 |normal=>obtain⟨F,rfl,b⟩:=h;exact b
 |ret=>exact h
 |exit d=>exact h
 |goto l=>exact h
 |panic c=>exact h
 |outgrown=>exact h
theorem Vm(h:K.cS F w):W P n .skip K F w:=wp_skip ⟨F,rfl,h⟩
theorem Y7(h:K.ret F w):W P n .ret K F w:=wp_ret ⟨F,rfl,h⟩
theorem Vo{a:Nat}(h:xG a K.uy F w):W P n (.exit a) K F w:=wp_exit ⟨F,rfl,h⟩
theorem C0{d:Nat}{c:Code}(h:W P n c ⟨K.cS,K.ret,(d,K.cS)::K.uy⟩ F w):W P n (.block d c) K F w:=by
 refine wp_block (Code.wp_mono ?_ h);intro e a w h
 cases e with
  |normal=>exact h
  |ret=>exact h
  |exit j=>
  obtain⟨F,rfl,b⟩:=h;unfold xG at b;unfold Exit.inBlock;by_cases f:j=d;.subst f;simp only[fY];have:Nat.beq j j=true:=wo j;rw[this]at b;exact⟨F,rfl,b⟩
  .
   have:Nat.beq j d=false:=by cases g:Nat.beq j d with
    |false=>rfl
    |true=>exact absurd (au g) f
   rw[this]at b;simp only[f,ft];exact⟨F,rfl,b⟩
  |goto l=>exact h
  |panic c=>exact h
  |outgrown=>exact h
theorem Nx{c:Operand}{x y:Code}{b:Bool}(a:ev n F c= .bool b)(f:b=true->W P n x K F w)(e:b=false->W P n y K F w):W P n (.cond c x y) K F w:=by
 have d:(fr n F).eval c= .bool b:=by rw[qh];exact a
 exact wp_cond_split d f e
theorem PF{c:Operand}{x y:Code}(a:ev n F c= .bool true)(b:W P n x K F w):W P n (.cond c x y) K F w:=Nx a (λ_=>b) λh=>by cases h
theorem PG{c:Operand}{x y:Code}(a:ev n F c= .bool false)(b:W P n y K F w):W P n (.cond c x y) K F w:=Nx a (λh=>by cases h) λ_=>b
theorem Vn{c:Code}{σ:Sort _}(m:σ->Nat)(j:σ->dN->World->Prop)(r:σ)(z:j r F w)(u0:∀s F w,j s F w->W P n c ⟨λt f=>∃i,m i<m s/\j i t f,K.ret,K.uy⟩ F w):W P n (.loop c) K F w:=by
 intro b k q
 have v0:∀o s F w,m s=o->j s F w->∃e p f,Lf n K e p f/\Arrives P (lone (b.at (fr n F) (.code c:: .inLoop c::k)) q w) b k q e p f:=by intro o;induction o using Nat.strongRecOn with
  |_ o w0=>intro s F w C A;obtain⟨e,h,g,d,a⟩:=u0 s F w A b (.inLoop c::k) q;cases e with
  |normal=>obtain⟨u,rfl,i,z0,B⟩:=d;obtain⟨y,v,t0,y0,D⟩:=w0 (m i) (C▸z0) i u g rfl B;exact⟨y,v,t0,y0,.of_steps (Steps.trans a (.one step_inLoop)) D⟩
  |exit x0=>exact⟨.exit x0,h,g,d,.pass (x:= .inLoop c) rfl (λ_ _=> .inl (by simp)) a⟩
  |goto l=>exact⟨.goto l,h,g,d,.pass (x:= .inLoop c) rfl (λ_ _=> .inl (by simp)) a⟩
  |ret=>exact⟨.ret,h,g,d,.pass (x:= .inLoop c) rfl (λ_ _=> .inl (by simp)) a⟩
  |panic x=>exact⟨.panic x,h,g,d,.pass (x:= .inLoop c) rfl (λ_ _=> .inl (by simp)) a⟩
  |outgrown=>exact⟨.outgrown,h,g,d,.pass (x:= .inLoop c) rfl (λ_ _=> .inl (by simp)) a⟩
 obtain⟨e,p,f,d,a⟩:=v0 _ r F w rfl z;exact⟨e,p,f,d,.of_steps (.one step_loop) a⟩
def LW(P:Program)(n:Nat)(bG:Array Oper)(l:List Oper)(k:dN->World->Prop)(F:dN)(w:World):Prop:=∀a:Exit->Act->World->Prop,(∀F w,k F w->a .normal (fr n F) w)->wpList P bG a l (fr n F) w
theorem PE{b:Nat}{l:List Oper}(h:LW P n l.toArray l K.cS F w):W P n (.region b l.toArray false) K F w:=wp_region_lit (h _ λF _ a=>⟨F,rfl,a⟩)
theorem Hc{bG:Array Oper}{k:dN->World->Prop}(h:k F w):LW P n bG [] k F w:=λ_ a=>a _ _ h
end
section
variable{P:Program}{n:Nat}{bG:Array Oper}{rest:List Oper}{k:dN->World->Prop}{F:dN}{w w':World}{o:Oper}{v:Value}
structure iL(P:Program)(n:Nat)(F:dN)(w:World)(o:Op)(v:Value)(w':World):Prop where run:∀(d:Option Nat)(t:Nat)(p:String)(af:Array Edge)(g:Option (Nat×Bool)),(execOp (ev n F) ⟨d,o,t,p,af,g⟩).run P w= .ok (.value v) w'
structure XB(P:Program)(n:Nat)(F:dN)(w:World)(o:Op)(w':World):Prop where run:∀(d:Option Nat)(t:Nat)(p:String)(af:Array Edge)(g:Option (Nat×Bool)),(execOp (ev n F) ⟨d,o,t,p,af,g⟩).run P w= .ok .skip w'
theorem Ht{j g:Nat}{b:Bool}(d:(bG[j]?).bind (·.dst)=some g)(hg:ev n F (.tmp g)= .bool b):yielded bG (fr n F).tmps j=some b:=by
 unfold yielded;rw[d];replace hg:(bif Nat.blt g n then F g else undef)= .bool b:=hg;by_cases h:g<n
 ·
  have a:Nat.blt g n=true:=by simpa [de]using h
  rw[a]at hg;simp only[Option.bind_some];rw[UV F h];have c:F g= .bool b:=hg;rw[c]
 ·
  have a:Nat.blt g n=false:=by cases a:Nat.blt g n with
   |false=>rfl
   |true=>exact absurd (by simpa [de]using a) h
  rw[a]at hg;cases hg
end
def zF(P:Program)(f:FuncId)(args:Array Value)(w:World)(R:Value->World->Prop):Prop:=Calls P f args w λe w'=>∃v,e= .returned v/\R v w'
theorem zF.mono{P:Program}{f:FuncId}{args:Array Value}{w:World}{R a:Value->World->Prop}(h:zF P f args w R)(d:∀v w',R v w'->a v w'):zF P f args w a:=Calls.mono h λ_ _⟨v,c,b⟩=>⟨v,c,d _ _ b⟩
section
variable{P:Program}{n:Nat}{bG:Array Oper}{rest:List Oper}{k:dN->World->Prop}{F:dN}{w w':World}
structure iK(P:Program)(n:Nat)(F:dN)(w:World)(o:Op)(f:FuncId)(args:Array Value):Prop where run:∀(d:Option Nat)(t:Nat)(p:String)(af:Array Edge)(g:Option (Nat×Bool)),(execOp (ev n F) ⟨d,o,t,p,af,g⟩).run P w= .ok (.enter f args) w
end
def oI(args:Array Value):dN:=λi=>args.getD i undef
def Vv(P:Program)(b:Array ResultVar)(n:Nat)(F:dN)(w:World)(v:Value):Prop:=∀a:Func,a.results=b->(results a (fr n F).tmps).run P w= .ok v w
theorem L0{P:Program}{f:FuncId}{fn:Func}{c:Code}{args:Array Value}{w:World}{R:Value->World->Prop}{n:Nat}{g:Array ResultVar}(s:P.funcs[f]?=some fn)(q:fn.body=some c)(u:fn.ntmps=n)(m:fn.results=g)(y:args.size<=n)(h:W P n c ⟨λF w=>∃v,Vv P g n F w v/\R v w,λF w=>∃v,Vv P g n F w v/\R v w,[]⟩ (oI args) w):zF P f args w R:=by
 refine calls_of_wp s q ?_
 have r:({tmps:=args++Array.replicate (fn.ntmps-args.size) undef,defers:=[]}:Act)=fr n (oI args):=by
  unfold fr;congr 1;rw[u];apply Array.ext;.simp;omega
  .
   intro i x p;simp at p;by_cases j:i<args.size;.simp[j,oI,Array.getD]
   .simp[Array.getElem_append,j,oI,Array.getD]
 rw[r];refine Code.wp_mono ?_ h;intro e a w h
 cases e with
  |normal=>obtain⟨F,rfl,v,d,b⟩:=h;exact⟨rfl,v,d fn m,v,rfl,b⟩
  |ret=>obtain⟨F,rfl,v,d,b⟩:=h;exact⟨rfl,v,d fn m,v,rfl,b⟩
  |exit z=>obtain⟨F,rfl,t⟩:=h;exact t
  |goto l=>exact h
  |panic c=>exact h.elim
  |outgrown=>exact h.elim
attribute [irreducible]W LW
structure Kp (D : List Nat) (w w' : World) : Prop where
  os : w'.os = w.os
  tape : w'.tape = w.tape
  output : w'.output = w.output
  size : w.heap.size ≤ w'.heap.size
  block : ∀ b, b < w.heap.size → b ∉ D → w'.heap[b]? = w.heap[b]?
theorem Kp.refl(D:List Nat)(w:World):Kp D w w:=⟨rfl,rfl,rfl,ar _,λ_ _ _=>rfl⟩
theorem Kp.trans{D:List Nat}{a b c:World}(h:Kp D a b)(k:Kp D b c):Kp D a c:=⟨k.os.trans h.os,k.tape.trans h.tape,k.output.trans h.output,aU h.size k.size,λi d e=>(k.block i (aQ d h.size) e).trans (h.block i d e)⟩
theorem Kp.alloc(w:World)(o:Obj):Kp [] w (w.alloc o):=⟨rfl,rfl,rfl,by simp,λb a _=>Below.heap_alloc w o b a⟩
theorem Kp.drew(w:World):Kp [] w w.drew:=⟨rfl,rfl,rfl,ar _,λ_ _ _=>rfl⟩
theorem Kp.setCell(w:World)(a:Addr)(v:Value):Kp [a.block] w (w.setCell a v):=⟨rfl,rfl,rfl,by simp[World.setCell],λb _ c=>Below.heap_setCell w a v b (by simpa using c)⟩
theorem oS{w:World}{b:Nat}{o:Obj}(h:w.heap[b]?=some o):b<w.heap.size:=by
 rcases cO b w.heap.size with c|a;.exact c
 .rw[sE a]at h;cases h
def gY(w:World)(b:Nat)(t:TypeId)(cs:List Value):Prop:=w.heap[b]?=some (.cells cs.toArray t (0,0))
def Dw(w:World)(b o:Nat)(cs:List Value):Prop:=∀j v,cs[j]?=some v->w.cell? ⟨b,o+j,none⟩=some v
theorem gN{β:Type}{l:List β}{i:Nat}{x:β}(h:l[i]?=some x):i<l.length:=(aj.1 h).1
section
variable{P:Program}{n:Nat}{F:dN}{w:World}
theorem PH{x:Operand}{v:Value}(h:ev n F x=v):iL P n F w (.move x) v w:=by refine⟨λd t p a g=>?_⟩;subst h;rfl
theorem Jf{x:Operand}{v:Value}(h:ev n F x=v):iL P n F w (.assign x) v w:=by refine⟨λd t p a g=>?_⟩;subst h;rfl
theorem Sn{ty:TypeId}{x:Operand}{b:Bool}(h:ev n F x= .bool b):iL P n F w (.unOp .not ty x) (.bool (!b)) w:=by refine⟨λd t p a g=>?_⟩;simp[execOp,h,Op.unary]
section
variable{ty ty2:TypeId}{x y:Operand}{k:IntKind}{a b:Int}
theorem Sr(c:ev n F x= .int k a)(e:ev n F y= .int k b):iL P n F w (.binOp .lss ty x y ty2) (.bool (decide (a<b))) w:=by refine⟨λd t p f g=>?_⟩;simp[execOp,c,e,go_sem]
theorem Ss(c:ev n F x= .int k a)(e:ev n F y= .int k b):iL P n F w (.binOp .leq ty x y ty2) (.bool (decide (a<=b))) w:=by refine⟨λd t p f g=>?_⟩;simp[execOp,c,e,go_sem]
theorem Sw(c:ev n F x= .int k a)(e:ev n F y= .int k b):iL P n F w (.binOp .gtr ty x y ty2) (.bool (decide (b<a))) w:=by refine⟨λd t p f g=>?_⟩;simp[execOp,c,e,go_sem]
theorem Sx(c:ev n F x= .int k a)(e:ev n F y= .int k b):iL P n F w (.binOp .geq ty x y ty2) (.bool (decide (b<=a))) w:=by refine⟨λd t p f g=>?_⟩;simp[execOp,c,e,go_sem]
theorem Sy(c:ev n F x= .int k a)(e:ev n F y= .int k b):iL P n F w (.binOp .eql ty x y ty2) (.bool (decide (a=b))) w:=by
 refine⟨λd t p f g=>?_⟩;have:(a==b)=decide (a=b):=by rw[Bool.eq_iff_iff];simp
 simp[execOp,c,e,go_sem,this]
theorem So(c:ev n F x= .int k a)(e:ev n F y= .int k b):iL P n F w (.binOp .neq ty x y ty2) (.bool (!decide (a=b))) w:=by
 refine⟨λd t p f g=>?_⟩;have:(a !=b)=!decide (a=b):=by rw[Bool.eq_iff_iff];simp
 simp[execOp,c,e,go_sem,this]
end
theorem LM{rU e:TypeId}{x:Operand}{k c:IntKind}{a:Int}{i:TypeDesc}(f:P.underlying rU=some i)(hd:P.underlying e=some (.int c))(h:ev n F x= .int k a):iL P n F w (.convert rU e x) (.int c (c.wrap a)) w:=by refine⟨λd t p j g=>?_⟩;simp[execOp,h,convert,run_underlying f,run_underlying hd,Conv.intToInt]
theorem Sp{x y:Operand}{f:Array TypeId}{a b:Int}(c:ev n F x= .int .i64 a)(e:ev n F y= .int .i64 b):iL P n F w (.call {callee:= .builtin .min,args:= #[x,y],argTypes:=f}) (.int .i64 (min a b)) w:=by
 refine⟨λd t p h g=>?_⟩;have:(if b<a then b else a)=min a b:=by omega
 simp[execOp,c,e,resolve,invoke,builtin,Builtin.min_,Builtin.min2,this]
theorem Sq{x y:Operand}{f:Array TypeId}{a b:Int}(c:ev n F x= .int .i64 a)(e:ev n F y= .int .i64 b):iL P n F w (.call {callee:= .builtin .max,args:= #[x,y],argTypes:=f}) (.int .i64 (max a b)) w:=by
 refine⟨λd t p h g=>?_⟩;have:(if a<b then b else a)=max a b:=by omega
 simp[execOp,c,e,resolve,invoke,builtin,Builtin.max_,Builtin.max2,this]
theorem G8{x:Operand}{c:Array Value}{i:Nat}{v:Value}(f:ev n F x= .tuple c)(e:c[i]?=some v):iL P n F w (.extract x i) v w:=by refine⟨λd t p h g=>?_⟩;simp[execOp,f,Instr.extract,e]
theorem Sv{t:TypeId}{x:Operand}{e:TypeId}{a:Option Addr}{m c:Nat}(f:P.underlying t=some (.slice e))(h:ev n F x= .slice a m c):iL P n F w (.call {callee:= .builtin .len,args:= #[x],argTypes:= #[t]}) (.int .i64 (m:Int)) w:=by refine⟨λd t p i g=>?_⟩;simp[execOp,h,resolve,invoke,builtin,Builtin.len_,run_underlying f,goInt]
theorem DU{x:Operand}{a:Addr}(c:ev n F x= .pointer (some a)):iL P n F w (.nilCheck x) (.pointer (some a)) w:=by refine⟨λd t p e g=>?_⟩;simp[execOp,c]
theorem LL{s:TypeId}{x:Operand}{i b o:Nat}{c:Array Field}{f:Field}{z:Nat}(j:P.underlying s=some (.struct c))(h:c[i]?=some f)(m:∀w,(sizeOf f.type).run P w= .ok (z+1) w)(l:ev n F x= .pointer (some ⟨b,o,none⟩)):iL P n F w (.fieldAddr s x i) (.pointer (some ⟨b,o+f.offset,none⟩)) w:=by refine⟨λd t p q g=>?_⟩;have e:Addr.add ⟨b,o,none⟩ f.offset=⟨b,o+f.offset,none⟩:=Addr.add_lit b o f.offset;simp[execOp,l,Instr.fieldAt,run_underlying j,h,Instr.sureAddr,fieldPlace,m,e]
theorem Fa{t e:TypeId}{x y:Operand}{k:IntKind}{b o m c s i:Nat}(j:P.underlying t=some (.slice e))(h:∀w,(sizeOf e).run P w= .ok s w)(l:ev n F x= .slice (some ⟨b,o,none⟩) m c)(q:ev n F y= .int k (i:Int))(hi:i<m):iL P n F w (.indexAddr t x y) (.pointer (some ⟨b,o+i*s,none⟩)) w:=by refine⟨λd t p r g=>?_⟩;have f:Addr.add ⟨b,o,none⟩ (i*s)=⟨b,o+i*s,none⟩:=Addr.add_lit b o _;simp[execOp,l,q,Instr.indexAt,asIntOf,run_underlying j,hi,h,f]
theorem PK{t e:TypeId}{x y:Operand}{k:IntKind}{b o m s i:Nat}(h:P.underlying t=some (.array m e))(f:∀w,(sizeOf e).run P w= .ok s w)(j:ev n F x= .pointer (some ⟨b,o,none⟩))(l:ev n F y= .int k (i:Int))(hi:i<m):iL P n F w (.indexAddr t x y) (.pointer (some ⟨b,o+i*s,none⟩)) w:=by refine⟨λd t p q g=>?_⟩;have c:Addr.add ⟨b,o,none⟩ (i*s)=⟨b,o+i*s,none⟩:=Addr.add_lit b o _;simp[execOp,j,l,Instr.indexAt,asIntOf,run_underlying h,Instr.sureAddr,hi,f,c]
theorem Je{t e:TypeId}{x y:Operand}{k:IntKind}{m i:Nat}{cs:List Value}{v:Value}(h:P.underlying t=some (.array m e))(f:∀w,(sizeOf e).run P w= .ok 1 w)(c:∀w,(isAgg e).run P w= .ok false w)(l:ev n F x= .agg cs.toArray)(o:ev n F y= .int k (i:Int))(hi:i<m)(j:cs[i]?=some v):iL P n F w (.index t x y) v w:=by refine⟨λd t p q g=>?_⟩;simp[execOp,l,o,Instr.index,asIntOf,run_underlying h,hi,part,f,c,j]
theorem OI{a:Addr}{v:Value}{m:Mode}(h:w.cell? a=some v):(load a m).run P w= .ok v w:=by simp[load,Sem.run,h]
theorem LK{t:TypeId}{x:Operand}{b o j:Nat}{cs:List Value}{v:Value}(c:∀w,(isAgg t).run P w= .ok false w)(i:ev n F x= .pointer (some ⟨b,o+j,none⟩))(e:Dw w b o cs)(h:cs[j]?=some v):iL P n F w (.load t x) v w:=by
 refine⟨λd m p l g=>?_⟩;have f:(loadVar t ⟨b,o+j,none⟩).run P w= .ok v w:=by simp only[loadVar,Sem.run_bind,c,Result.andThen_ok,ec,ft];exact OI (e j v h)
 simp only[execOp,i,Instr.loadAt,Instr.sureAddr,Sem.run_bind,Sem.run_pure,Result.andThen_ok,f]
theorem LJ{t:TypeId}{x:Operand}{b o:Nat}{cs:List Value}(e:∀w,(isAgg t).run P w= .ok true w)(i:∀w,(sizeOf t).run P w= .ok cs.length w)(l:ev n F x= .pointer (some ⟨b,o,none⟩))(f:Dw w b o cs):iL P n F w (.load t x) (.agg cs.toArray) w:=by
 refine⟨λd q p m g=>?_⟩;have h:(loadCells ⟨b,o,none⟩ cs.length).run P w= .ok cs.toArray w:=run_loadCells_list w ⟨b,o,none⟩ cs (λj v c=>by rw[Addr.add_lit];exact f j v c);have c:(loadVar t ⟨b,o,none⟩).run P w= .ok (.agg cs.toArray) w:=by simp only[loadVar,Sem.run_bind,e,i,h,Result.andThen_ok,fY,Sem.run_pure]
 simp only[execOp,l,Instr.loadAt,Instr.sureAddr,Sem.run_bind,Sem.run_pure,Result.andThen_ok,c]
theorem PL{f:FuncId}{cs:Array Operand}{c:Array Value}(h:cs.map (ev n F)=c):iL P n F w (.makeFunc (.func f) #[] cs) (.func (.func f) #[] c) w:=by refine⟨λd t p e g=>?_⟩;simp[execOp,Instr.makeFunc,h]
end
section
variable{P:Program}{n:Nat}{bG:Array Oper}{rest:List Oper}{k:dN->World->Prop}{F:dN}{w:World}
theorem LN{e:TypeId}{cs:List Value}{z:Value}(f:∀w,(zeroValue e).run P w= .ok z w)(c:z.cells=cs.toArray):iL P n F w (.alloc e) (.pointer (some ⟨w.heap.size,0,none⟩)) (w.alloc (.cells cs.toArray e)):=by refine⟨λd t p h g=>?_⟩;simp[execOp,Instr.alloc,f,newVar,newRow,c]
theorem gY.set{w:World}{b j:Nat}{t:TypeId}{cs:List Value}{v:Value}(h:gY w b t cs):gY (w.setCell ⟨b,j,none⟩ v) b t (cs.set j v):=by unfold gY at h⊢;simp[World.setCell,tw,h]
def wG(cs:List Value)(j:Nat)(c:List Value):List Value:=cs.take j++c++cs.drop (j+c.length)
theorem HY{cs c:List Value}{j:Nat}{v:Value}(h:j+(v::c).length<=cs.length):wG cs j (v::c)=wG (cs.set j v) (j+1) c:=by
 simp only[bx]at h;have f:j<cs.length:=by omega
 unfold wG;have d:(cs.set j v).take (j+1)=cs.take j++[v]:=by rw[List.take_succ_eq_append_getElem (by simpa using f)];rw[List.take_set,List.set_eq_of_length_le (by simp;omega)];simp
 have e:(cs.set j v).drop (j+1+c.length)=cs.drop (j+(v::c).length):=by rw[List.drop_set_of_lt (by omega)];congr 1;simp;omega
 rw[d,e];simp
theorem KH(cs:List Value)(j:Nat):wG cs j []=cs:=by simp[wG]
end
structure lc where
  BW : Int
  Ci : Int
  start : Int
  count : Int
  min : Int
  gV : List (List Int)
deriving DecidableEq
section
variable{P:Program}{n:Nat}{F:dN}{w w':World}
theorem Jc{c a b:Operand}{v:Value}(f:ev n F c= .bool true)(e:ev n F a=v):iL P n F w (.pick c a b) v w:=by refine⟨λd t p h g=>?_⟩;simp[execOp,f,e,asBool]
theorem Jd{c a b:Operand}{v:Value}(f:ev n F c= .bool false)(e:ev n F b=v):iL P n F w (.pick c a b) v w:=by refine⟨λd t p h g=>?_⟩;simp[execOp,f,e,asBool]
theorem FK(s:Nat):(2:Int)^s=((2^s:Nat):Int):=by norm_cast
structure Pl (w : World) (D : List Nat) (b o : Nat) (cs : List Value) : Prop where
  c : Dw w b o cs
  nd : b ∉ D
  lt : b < w.heap.size
end
section
variable{P:Program}{n:Nat}
theorem Ke{o:Oper}{a:Act}{K:Act->World->Prop}{Q:Exit->Act->World->Prop}{b:Act->World->Prop}{r:Result Next}(h:o.upon P a K (Exit.then b Q) r):o.upon P a K Q r:=by cases r with
 |ok x w=>cases x<;>exact h
 |halt x w=>cases x<;>exact h
theorem Hu{l:List Oper}{i:Nat}{o:Oper}{F:dN}{w:World}{k:dN->World->Prop}{Q:Exit->Act->World->Prop}{K:Act->World->Prop}(hi:l[i]?=some o)(h:LW P n l.toArray [o] k F w)(f:∀F w,k F w->K (fr n F) w):wpOp P l.toArray Q i K (fr n F) w:=by
 unfold LW at h;have a:=h (Exit.then K Q) λF w d=>f F w d;unfold wpOp;have e:l.toArray[i]?=some o:=by simpa using hi
 rw[e];simp only;unfold wpList at a;split
 .
  rename_i b;rw[aE b]at a;rcases a with a|a;.left;unfold Oper.wp at a⊢;have c:=Ke a;exact c
  .right;exact a
 .rename_i b;rw[aG b]at a;exact a
end
section
variable{P:Program}{n:Nat}{l:List Oper}{p:Nat}
def yn(l:List Oper)(a:Array Bool):Prop:=∀i o,l[i]?=some o->a.getD i false=true->∀e∈o.after.toList,Region.binds .any e=true->a.getD e.on false=true
theorem wF{a:Array Bool}{i:Nat}(m:a.size=l.length):i∈Region.ready .any l.toArray a↔∃o,l[i]?=some o∧a.getD i false=false∧∀e∈o.after.toList,Region.binds .any e=true→a.getD e.on false=true:=by
 unfold Region.ready;simp only[qz,List.mem_filter,eJ,ae,ju];constructor
 ·
  rintro⟨j,c,f⟩;have d:=G j;refine⟨l[i],d,?_,?_⟩
  ·
   have k:i<a.size:=by omega
   simp[Array.getD,k]at c⊢;exact c
  ·
   intro e h g;have b:(Option.map (fun x:Oper=>x.after.all fun e=>!Region.binds .any e||a.getD e.on false) l[i]?).getD false=true:=by simpa using f
   rw[d]at b;simp only[ms,Option.getD_some]at b;rw[←Array.all_toList,bR]at b;have:=b e h;simpa [g]using this
 ·
  rintro⟨o,d,c,f⟩;have j:=gN d;refine⟨j,?_,?_⟩
  ·
   have k:i<a.size:=by omega
   simp[Array.getD,k]at c⊢;exact c
  ·
   have b:(Option.map (fun x:Oper=>x.after.all fun e=>!Region.binds .any e||a.getD e.on false) l[i]?).getD false=true:=by rw[d];simp only[ms,Option.getD_some];rw[←Array.all_toList,bR];intro e h;cases g:Region.binds .any e with
    |false=>rfl
    |true=>simpa using f e h g
   simpa using b
def GY(a:Array Bool):Nat:=a.toList.countP λb=>!b
theorem RS{a:Array Bool}{i:Nat}(hi:i<a.size)(h:a.getD i false=false):GY (a.setIfInBounds i true)+1=GY a:=by
 unfold GY;rw[Array.toList_setIfInBounds];have c:a.toList[i]'(by simpa using hi)=false:=by simpa [Array.getD,hi]using h
 have d:i<a.toList.length:=by simpa using hi
 have e:=List.countP_set (p:=λb:Bool=>!b) (a:=true) d;simp only[c,l5,lh,ec,ft,fY]at e;rw[e];have f:0<a.toList.countP λb=>!b:=by rw[List.countP_pos_iff];exact⟨false,by rw[<-c];exact ew d,rfl⟩
 omega
theorem Pn{a:Array Bool}(h:GY a=0){i:Nat}(hi:i<a.size):a.getD i false=true:=by
 unfold GY at h;rw[l4]at h;have b:a[i]∈a.toList:=by rw[Array.mem_toList_iff];exact Array.getElem_mem hi
 have:=h _ b;simpa [Array.getD,hi]using this
theorem jF{a:Array Bool}{i j:Nat}(hi:i<a.size):(a.setIfInBounds i true).getD j false=if j=i then true else a.getD j false:=by
 by_cases h:j=i;.subst h;simp[Array.getD,hi]
 .
  have c:i≠j:=λe=>h e.symm;simp only[h,ft];unfold Array.getD;simp only[Array.size_setIfInBounds];split;.rename_i b;show(a.setIfInBounds i true)[j]'(by simpa using b)=a[j];rw[pk (by simpa using b),aG c]
  .rfl
end
def Fe(w:World)(T sz:Nat)(g:Option Nat)(v:Value)(rows:List (List Value)):Prop:=(∀r,r∈rows->r.length=sz)/\(g=none/\v= .slice none 0 0/\rows=[]\/∃b a c,g=some b/\v= .slice (some ⟨b,0,none⟩) rows.length a/\rows.length<=a/\(rows.length<=140737488355328/\a<=maxLen)/\gY w b T (rows.flatten++c)/\(rows.flatten++c).length=a*sz)
def W4(xs:List Int):List (List Value):=xs.map λx=>[Value.int .i64 x]
theorem EG{xs:List Int}{r:List Value}(h:r∈W4 xs):r.length=1:=by simp[W4]at h;obtain⟨x,_,rfl⟩:=h;rfl
theorem EP{rows:List (List Value)}{sz:Nat}(h:∀r,r∈rows->r.length=sz):rows.flatten.length=rows.length*sz:=by induction rows with
 |nil=>simp
 |cons r rows b=>rw[kU,az,b λr a=>h r (by simp[a]),h r (by simp),bx,iG];omega
theorem Pb{rows:List (List Value)}{sz:Nat}(h:∀r,r∈rows->r.length=sz){i j:Nat}{r:List Value}(b:rows[i]?=some r)(e:j<sz):rows.flatten[i*sz+j]?=r[j]?:=by induction rows generalizing i with
 |nil=>simp at b
 |cons a rows d=>rw[kU];have c:a.length=sz:=h a (by simp);cases i with
 |zero=>simp at b;subst b;rw[gf,br,bJ (by omega)]
 |succ i=>rw[bB (by rw[c,iG];omega),c];rw[show(i+1)*sz+j-sz=i*sz+j by rw[iG];omega];exact d (λr b=>h r (by simp[b])) (by simpa using b)
structure TS (P : Program) (e sz : Nat) (z : Value) (bytes : Nat) : Prop where
  tC : ∃ i, P.info? e = some i ∧ i.zero = some z ∧ i.size = sz ∧ i.bytes = bytes
  cells : z.cells.size = sz
  Z9 : 0 < sz
  R1 : 1 ≤ bytes
section
variable{P:Program}{n:Nat}{bG:Array Oper}{rest:List Oper}{k:dN->World->Prop}{F:dN}{w:World}{d ty:Nat}{p:String}{af:Array Edge}
theorem ph(z:Array Value)(c:Nat):madeCells z (c*z.size)=(List.replicate c z.toList).flatten.toArray:=by
 apply Array.ext;.rw[size_madeCells];simp[List.length_flatten]
 .
  intro i a m;rw[size_madeCells]at a
  have f:0<z.size:=by
   rcases Nat.eq_zero_or_pos z.size with h|h;.rw[h]at a;simp at a
   .exact h
  have o:i/z.size<c:=by rw[Nat.div_lt_iff_lt_mul f];exact a
  have b:i%z.size<z.size:=Nat.mod_lt _ f;have e:=Pb (rows:=List.replicate c z.toList) (sz:=z.size) (λr q=>by rw[dh q];simp) (i:=i/z.size) (j:=i%z.size) (r:=z.toList) (by rw[cm,aE o]) b;rw[Nat.div_add_mod']at e;have g:(madeCells z (c*z.size))[i]=z[i%z.size]:=by simp[madeCells,b]
  have j:(List.replicate c z.toList).flatten[i]?=some z[i%z.size]:=by rw[e];simp[b]
  have l:(List.replicate c z.toList).flatten.toArray[i]=(List.replicate c z.toList).flatten[i]'(by simpa using m):=by simp
  rw[g,l];exact(List.getElem_eq_iff _).2 j|>.symm
end
end Go.Wk
namespace Go.Hm
open Go Go.RowKit Go.Wk
section
variable{α:Type}
theorem Tr.kq(k:Nat):(Tr.e:Tr α).ap k=none:=rfl
theorem Tr.uw(l r:Tr α)(v:Option α)(k:Nat):(Tr.n l v r).ap k=if k=0 then v else if k%2=1 then l.ap ((k-1)/2)else r.ap ((k-1)/2):=by
 have e:(Tr.n l v r).ap k=bif Nat.beq k 0 then v else bif Nat.beq (Nat.mod k 2) 1 then l.ap (Nat.div (Nat.sub k 1) 2)else r.ap (Nat.div (Nat.sub k 1) 2):=by show Bool.rec (motive:=λ_=>Option α) (Bool.rec (motive:=λ_=>Option α) (r.ap (Nat.div (Nat.sub k 1) 2)) (l.ap (Nat.div (Nat.sub k 1) 2)) (Nat.beq (Nat.mod k 2) 1)) v (Nat.beq k 0)=_;cases Nat.beq k 0<;>cases Nat.beq (Nat.mod k 2) 1<;>rfl
 rw[e];by_cases h:k=0;.subst h;rfl
 .
  have b:Nat.beq k 0=false:=by cases k with
   |zero=>exact absurd rfl h
   |succ n=>rfl
  rw[b,aG h,kM];by_cases a:k%2=1
  .
   have:Nat.beq (Nat.mod k 2) 1=true:=by show Nat.beq (k%2) 1=true;rw[a];rfl
   rw[this,aE a];rfl
  .
   have:Nat.beq (Nat.mod k 2) 1=false:=by
    show Nat.beq (k%2) 1=false;have:k%2=0:=by omega
    rw[this];rfl
   rw[this,aG a];rfl
theorem Tr.X9(u:Option α)(d k:Nat):Tr.put u (d+1) .e k=if k=0 then .n .e u .e else if k%2=1 then .n (Tr.put u d .e ((k-1)/2)) none .e else .n .e none (Tr.put u d .e ((k-1)/2)):=by
 have e:Tr.put u (d+1) .e k=bif Nat.beq k 0 then Tr.n .e u .e else bif Nat.beq (Nat.mod k 2) 1 then .n (Tr.put u d .e (Nat.div (Nat.sub k 1) 2)) none .e else .n .e none (Tr.put u d .e (Nat.div (Nat.sub k 1) 2)):=by show Bool.rec (motive:=λ_=>Tr α) (Bool.rec (motive:=λ_=>Tr α) (.n .e none (Tr.put u d .e (Nat.div (Nat.sub k 1) 2))) (.n (Tr.put u d .e (Nat.div (Nat.sub k 1) 2)) none .e) (Nat.beq (Nat.mod k 2) 1)) (Tr.n .e u .e) (Nat.beq k 0)=_;cases Nat.beq k 0<;>cases Nat.beq (Nat.mod k 2) 1<;>rfl
 rw[e];by_cases h:k=0;.subst h;rfl
 .
  have b:Nat.beq k 0=false:=by cases k with
   |zero=>exact absurd rfl h
   |succ n=>rfl
  rw[b,aG h,kM];by_cases a:k%2=1
  .
   have:Nat.beq (Nat.mod k 2) 1=true:=by show Nat.beq (k%2) 1=true;rw[a];rfl
   rw[this,aE a];rfl
  .
   have:Nat.beq (Nat.mod k 2) 1=false:=by
    show Nat.beq (k%2) 1=false;have:k%2=0:=by omega
    rw[this];rfl
   rw[this,aG a];rfl
theorem Tr.X8(u v:Option α)(l r:Tr α)(d k:Nat):Tr.put u (d+1) (.n l v r) k=if k=0 then .n l u r else if k%2=1 then .n (Tr.put u d l ((k-1)/2)) v r else .n l v (Tr.put u d r ((k-1)/2)):=by
 have e:Tr.put u (d+1) (.n l v r) k=bif Nat.beq k 0 then Tr.n l u r else bif Nat.beq (Nat.mod k 2) 1 then .n (Tr.put u d l (Nat.div (Nat.sub k 1) 2)) v r else .n l v (Tr.put u d r (Nat.div (Nat.sub k 1) 2)):=by show Bool.rec (motive:=λ_=>Tr α) (Bool.rec (motive:=λ_=>Tr α) (.n l v (Tr.put u d r (Nat.div (Nat.sub k 1) 2))) (.n (Tr.put u d l (Nat.div (Nat.sub k 1) 2)) v r) (Nat.beq (Nat.mod k 2) 1)) (Tr.n l u r) (Nat.beq k 0)=_;cases Nat.beq k 0<;>cases Nat.beq (Nat.mod k 2) 1<;>rfl
 rw[e];by_cases h:k=0;.subst h;rfl
 .
  have b:Nat.beq k 0=false:=by cases k with
   |zero=>exact absurd rfl h
   |succ n=>rfl
  rw[b,aG h,kM];by_cases a:k%2=1
  .
   have:Nat.beq (Nat.mod k 2) 1=true:=by show Nat.beq (k%2) 1=true;rw[a];rfl
   rw[this,aE a];rfl
  .
   have:Nat.beq (Nat.mod k 2) 1=false:=by
    show Nat.beq (k%2) 1=false;have:k%2=0:=by omega
    rw[this];rfl
   rw[this,aG a];rfl
theorem Tr.Im(u:Option α):∀(d:Nat)(t:Tr α)(k j:Nat),k+1<2^d->(Tr.put u d t k).ap j=if j=k then u else t.ap j:=by
 intro d
 induction d with
  |zero=>intro t k j h;simp at h
  |succ d i=>
  intro t k j h;have p:2^(d+1)=2*2^d:=by rw[Nat.pow_succ];omega
  have m:∀(l r:Tr α)(v:Option α),(if k=0 then Tr.n l u r else if k%2=1 then Tr.n (Tr.put u d l ((k-1)/2)) v r else Tr.n l v (Tr.put u d r ((k-1)/2))).ap j=if j=k then u else(Tr.n l v r).ap j:=by
   intro l r v;by_cases f:k=0
   .
    rw[aE f,Tr.uw,Tr.uw,f];by_cases a:j=0;.rw[aE a,aE a]
    .rw[aG a,aG a,aG a]
   .
    rw[aG f];by_cases g:k%2=1
    .
     rw[aE g,Tr.uw,Tr.uw,i _ _ _ (by omega)];by_cases a:j=0;.rw[aE a,aE a,aG (by omega)]
     .
      rw[aG a,aG a];by_cases b:j%2=1
      .
       rw[aE b,aE b];by_cases c:j=k;.rw[aE c,c,aE rfl]
       .rw[aG c,aG (by omega)]
      .rw[aG b,aG b,aG (by omega)]
    .
     rw[aG g,Tr.uw,Tr.uw,i _ _ _ (by omega)];by_cases a:j=0;.rw[aE a,aE a,aG (by omega)]
     .
      rw[aG a,aG a];by_cases b:j%2=1;.rw[aE b,aE b,aG (by omega)]
      .
       rw[aG b,aG b];by_cases c:j=k;.rw[aE c,c,aE rfl]
       .rw[aG c,aG (by omega)]
  cases t with
   |e=>
   have:=m .e .e none;rw[Tr.X9];have o:(Tr.n Tr.e none Tr.e:Tr α).ap j=none:=by rw[Tr.uw];simp[Tr.kq]
   rw[o]at this;rw[Tr.kq];exact this
   |n l v r=>rw[Tr.X8];exact m l r v
theorem MN(k:Nat):k+1<2^Nat.succ (Nat.log2 (Nat.succ k)):=Nat.lt_log2_self
theorem Tr.dg(t:Tr α)(k j:Nat)(v:α):(t.set k v).ap j=if j=k then some v else t.ap j:=Tr.Im _ _ _ _ _ (MN k)
theorem Tr.gU(t:Tr α)(k j:Nat):(t.nU k).ap j=if j=k then none else t.ap j:=Tr.Im _ _ _ _ _ (MN k)
theorem Tr.a8(t:Tr α)(k:Nat)(v:α):(t.set k v).ap k=some v:=by rw[Tr.dg,aE rfl]
theorem Tr.bW(t:Tr α){k j:Nat}(v:α)(h:j≠k):(t.set k v).ap j=t.ap j:=by rw[Tr.dg,aG h]
end
structure RI where
  c : Nat
  o : Nat
  n : Nat
  z : Nat
  gq : Nat
abbrev Rn:=Nat->Option RI
mutual def VR(ρ:Rn):HV->Value->Prop| .any,_=>True| .undef,v=>v=undef| .int k n,v=>v= .int k n| .bool b,v=>v= .bool b| .dH s,v=>v= .string s| .sc,v=>v= .pointer none| .ptr b o,v=>∃r,ρ b=some r/\v= .pointer (some ⟨r.c,r.o+o,none⟩)| .cK,v=>v= .slice none 0 0| .gO,v=>∃a,v= .slice (some a) 0 0| .mj,v=>∃a c,v= .slice (some a) 0 c/\c<=maxLen| .sl b o n,v=>∃r cap,ρ b=some r/\v= .slice (some ⟨r.c,r.o+o,none⟩) n cap/\n<=cap/\r.n<=o+cap*r.z/\r.o+o+cap*r.z<=r.gq/\cap<=maxLen/\n<=140737488355328| .jz b o n,v=>∃r cap,ρ b=some r/\v= .slice (some ⟨r.c,r.o+o,none⟩) n cap/\n<=cap/\cap<=maxLen/\n<=140737488355328| .agg cs,v=>∃us,v= .agg us.toArray/\dY ρ cs us/\∀u,u∈us->u.oneCell'=true| .nf vs,v=>∃us,v= .tuple us.toArray/\dY ρ vs us| .fn f caps,v=>∃us,v= .func (.func f) #[] us.toArray/\dY ρ caps us| .sd,v=>v= .nilFunc| .H2,v=>v= .map none| .map b,v=>∃r,ρ b=some r/\v= .map (some r.c)def dY(ρ:Rn):List HV->List Value->Prop|[],us=>us=[]|a::l,us=>∃u us',us=u::us'/\VR ρ a u/\dY ρ l us' end
def tL(ρ a:Rn):Prop:=∀b r,ρ b=some r->a b=some r
theorem tL.refl(ρ:Rn):tL ρ ρ:=λ_ _ h=>h
mutual theorem VR.ext{ρ ρ':Rn}(e:tL ρ ρ'):∀(a:HV)(v:Value),VR ρ a v->VR ρ' a v
 | .any,_,h=>by unfold VR at*;trivial
 | .undef,_,h=>by unfold VR at*;exact h
 | .int _ _,_,h=>by unfold VR at*;exact h
 | .bool _,_,h=>by unfold VR at*;exact h
 | .dH _,_,h=>by unfold VR at*;exact h
 | .sc,_,h=>by unfold VR at*;exact h
 | .ptr b o,_,h=>by unfold VR at*;obtain⟨r,h1,h2⟩:=h;exact⟨r,e _ _ h1,h2⟩
 | .cK,_,h=>by unfold VR at*;exact h
 | .gO,_,h=>by unfold VR at*;exact h
 | .mj,_,h=>by unfold VR at*;exact h
 | .sl b o n,_,h=>by unfold VR at*;obtain⟨r,c,h1,h2⟩:=h;exact⟨r,c,e _ _ h1,h2⟩
 | .jz b o n,_,h=>by unfold VR at*;obtain⟨r,c,h1,h2⟩:=h;exact⟨r,c,e _ _ h1,h2⟩
 | .agg cs,_,h=>by unfold VR at*;obtain⟨us,h1,h2,h3⟩:=h;exact⟨us,h1,dY.ext e cs us h2,h3⟩
 | .nf cs,_,h=>by unfold VR at*;obtain⟨us,h1,h2⟩:=h;exact⟨us,h1,dY.ext e cs us h2⟩
 | .fn f cs,_,h=>by unfold VR at*;obtain⟨us,h1,h2⟩:=h;exact⟨us,h1,dY.ext e cs us h2⟩
 | .sd,_,h=>by unfold VR at*;exact h
 | .H2,_,h=>by unfold VR at*;exact h
 | .map b,_,h=>by unfold VR at*;obtain⟨r,h1,h2⟩:=h;exact⟨r,e _ _ h1,h2⟩theorem dY.ext{ρ ρ':Rn}(e:tL ρ ρ'):∀(a:List HV)(v:List Value),dY ρ a v->dY ρ' a v
 |[],_,h=>by unfold dY at*;exact h
 |a::l,_,h=>by unfold dY at*;obtain⟨u,us,h1,h2,h3⟩:=h;exact⟨u,us,h1,VR.ext e a u h2,dY.ext e l us h3⟩end
section
variable{ρ:Rn}
theorem fe:∀{a:List HV}{v:List Value},dY ρ a v->v.length=a.length
 |[],_,h=>by unfold dY at h;rw[h];rfl
 |a::l,_,h=>by unfold dY at h;obtain⟨u,d,rfl,c,b⟩:=h;simp[fe b]
theorem kw:∀{a:List HV}{v:List Value},dY ρ a v->∀(i:Nat)(x:HV),a[i]?=some x->∃u,v[i]?=some u/\VR ρ x u
 |[],_,h,i,x,b=>by simp at b
 |a::l,_,h,i,x,b=>by unfold dY at h;obtain⟨u,g,rfl,c,d⟩:=h;cases i with
  |zero=>simp at b;subst b;exact⟨u,rfl,c⟩
  |succ i=>simp at b;obtain⟨w,e,f⟩:=kw d i x b;exact⟨w,by simpa using e,f⟩
theorem vK:∀{a:List HV}{v:List Value},v.length=a.length->(∀(i:Nat)(x:HV)(u:Value),a[i]?=some x->v[i]?=some u->VR ρ x u)->dY ρ a v
 |[],v,b,h=>by unfold dY;exact eR.1 b
 |a::l,[],b,h=>by simp at b
 |a::l,u::e,b,h=>by unfold dY;exact⟨u,e,rfl,h 0 a u rfl rfl,vK (by simpa using b) λi x w c d=>h (i+1) x w (by simpa using c) (by simpa using d)⟩
theorem C4{a b:List HV}{u v:List Value}(h1:dY ρ a u)(h2:dY ρ b v):dY ρ (a++b) (u++v):=by
 refine vK (by simp[fe h1,fe h2]) λi x y d c=>?_;have g:=fe h1;rcases cO i a.length with h|h;.rw[bJ h]at d;rw[bJ (by omega)]at c;obtain⟨z,e,f⟩:=kw h1 i x d;rw[e]at c;cases c;exact f
 .rw[bB h]at d;rw[bB (by omega),g]at c;obtain⟨z,e,f⟩:=kw h2 _ x d;rw[e]at c;cases c;exact f
theorem PM{a:List HV}{v:List Value}(n:Nat)(h:dY ρ a v):dY ρ (a.take n) (v.take n):=vK (by simp[fe h]) λi x y b c=>by
 rw[fa]at b c;split at b;.rename_i f;rw[aE f]at c;obtain⟨z,d,e⟩:=kw h i x b;rw[d]at c;cases c;exact e
 .cases b
theorem oX{a:HV}{v:Value}{l:List HV}(b:iR a=some l)(h:VR ρ a v):dY ρ l v.cells.toList/\∀u,u∈v.cells.toList->u.oneCell'=true:=by
 cases a with
  |agg i=>cases b;unfold VR at h;obtain⟨j,rfl,e,f⟩:=h;exact⟨by simpa [Value.cells]using e,by simpa [Value.cells]using f⟩
  |any=>cases b
  |undef=>cases b
  |nf k=>cases b
  |_=>
  all_goals
   cases b;have c:v.oneCell'=true:=by unfold VR at h;first|(subst h;rfl)|(obtain⟨_,_,rfl⟩:=h;rfl)|(obtain⟨_,rfl⟩:=h;rfl)|(obtain⟨_,rfl,_⟩:=h;rfl)|(obtain⟨_,_,rfl,_⟩:=h;rfl)|(obtain⟨_,_,_,rfl,_⟩:=h;rfl)
   have g:v.cells.toList=[v]:=by cases v<;>first|rfl|(cases c)
   rw[g];refine⟨?_,λu d=>by simp at d;rw[d];exact c⟩;show dY ρ [_] _;unfold dY;exact⟨v,[],rfl,h,by unfold dY;rfl⟩
theorem H0{v:Value}{a:HV}(h:QR v=some a):VR ρ a v/\v.oneCell'=true:=by unfold QR at h;split at h;all_goals first|(cases h;exact⟨by unfold VR;rfl,rfl⟩)|cases h
theorem Ep:∀{b:List Value}{l:List HV},Er b=some l->dY ρ l b/\∀u,u∈b->u.oneCell'=true
 |[],l,h=>by cases h;exact⟨by unfold dY;rfl,λ_ h=>by cases h⟩
 |v::b,l,h=>by
  unfold Er at h
  cases d:QR v with
   |none=>rw[d]at h;cases h
   |some a=>
   rw[d]at h
   cases e:Er b with
    |none=>rw[e]at h;cases h
    |some k=>
    rw[e]at h;cases h;obtain⟨f,g⟩:=H0 (ρ:=ρ) d;obtain⟨i,j⟩:=Ep e;refine⟨by unfold dY;exact⟨v,b,rfl,f,i⟩,λu c=>?_⟩;rcases co.1 c with rfl|c;.exact g
    .exact j u c
theorem uh{v:Value}{a:HV}(h:KR v=some a):VR ρ a v:=by
 unfold KR at h;split at h
 .rename_i c;cases b:Er c with
  |none=>rw[b]at h;cases h
  |some l=>rw[b]at h;cases h;obtain⟨d,e⟩:=Ep (ρ:=ρ) b;unfold VR;exact⟨c,rfl,d,e⟩
 .cases h;unfold VR;rfl
 .exact(H0 h).1
end
def Av(ρ:Rn)(w:World)(r:RI)(x:gY):Prop:=x.n=r.n/\x.z=r.z/\r.c<w.heap.size/\(∀i v,i<x.n->x.c.ap i=some v->∃u,w.cell? ⟨r.c,r.o+i,none⟩=some u/\VR ρ v u/\u.oneCell'=true)/\(x.own=true->∃a b,w.heap[r.c]?=some (.cells a b (0,0))/\a.size=r.gq/\r.o+r.n<=r.gq)
def pe:Obj->Bool| .cn x=>x.own| .map _=>true
def hO(ρ:Rn):List (HV×HV)->List MapEntry->Prop|[],b=>b=[]|(k,v)::d,b=>∃e c,b=e::c/\(∃q a,k= .int q a)/\VR ρ k e.key/\VR ρ v e.val/\hO ρ d c
structure eY (ρ : Rn) (hp : Tr Obj) (w : World) : Prop where
  cn : ∀ b x r, hp.ap b = some (.cn x) → ρ b = some r → Av ρ w r x
  map : ∀ b es r, hp.ap b = some (.map es) → ρ b = some r → ∃ en clock, w.heap[r.c]? = some (.map en clock) ∧ hO ρ es en.toList
  inj : ∀ b b' o o' r r', b ≠ b' → hp.ap b = some o → pe o = true → hp.ap b' = some o' → ρ b = some r → ρ b' = some r' → r.c ≠ r'.c
def Dr(ρ:Rn)(hp:Tr Obj)(c:Nat):Prop:=∃b o r,hp.ap b=some o/\pe o=true/\ρ b=some r/\r.c=c
structure AK (S : Nat → Prop) (w w' : World) : Prop where
  os : w'.os = w.os
  tape : w'.tape = w.tape
  output : w'.output = w.output
  size : w.heap.size ≤ w'.heap.size
  block : ∀ b, b < w.heap.size → ¬ S b → w'.heap[b]? = w.heap[b]?
theorem AK.refl(S:Nat->Prop)(w:World):AK S w w:=⟨rfl,rfl,rfl,ar _,λ_ _ _=>rfl⟩
theorem AK.of{D:List Nat}{S:Nat->Prop}{w a:World}(h:Kp D w a)(f:∀b,b∈D->S b):AK S w a:=⟨h.os,h.tape,h.output,h.size,λb c e=>h.block b c λd=>e (f b d)⟩
structure fG (ρ : Rn) (s : St) (w : World) (ρ' : Rn) (s' : St) (w' : World) : Prop where
  rY : eY ρ' s'.hp w'
  ug : ∀ b, b < s.nx ∨ s'.nx ≤ b → ρ' b = ρ b
  kp : AK (Dr ρ s.hp) w w'
  dr : ∀ c, Dr ρ' s'.hp c → Dr ρ s.hp c ∨ w.heap.size ≤ c
  nx : s.nx ≤ s'.nx
def kx(ρ:Rn)(a b:Nat):Prop:=∀i,a<=i->i<b->ρ i=none
section
variable{ρ ρ' ρ'':Rn}{s s' s'':St}{w w' w'':World}
theorem fG.ext(h:fG ρ s w ρ' s' w')(u:kx ρ s.nx s'.nx):tL ρ ρ':=by
 intro b r d;rw[h.ug b,d];rcases cO b s.nx with a|a;.exact .inl a
 .
  rcases cO b s'.nx with c|c;.rw[u b a c]at d;cases d
  .exact .inr c
theorem fG.trans(h:fG ρ s w ρ' s' w')(k:fG ρ' s' w' ρ'' s'' w''):fG ρ s w ρ'' s'' w'':=by
 have j:=h.nx;have l:=k.nx;refine⟨k.rY,λb e=>?_,⟨k.kp.os.trans h.kp.os,k.kp.tape.trans h.kp.tape,k.kp.output.trans h.kp.output,aU h.kp.size k.kp.size,λb e d=>?_⟩,λc i=>?_,aU j l⟩;.rw[k.ug b (by omega),h.ug b (by omega)]
 .
  have f:=h.kp.size;rw[k.kp.block b (by omega) λg=>?_,h.kp.block b e d];rcases h.dr b g with a|a;.exact d a
  .omega
 .
  have f:=h.kp.size;rcases k.dr c i with a|a;.exact h.dr c a
  .right;omega
theorem kx.sub{a b c d:Nat}(u:kx ρ a d)(h1:a<=b)(h2:c<=d):kx ρ b c:=λi e f=>u i (by omega) (by omega)
theorem fG.undef(h:fG ρ s w ρ' s' w'){n:Nat}(u:kx ρ s.nx n):kx ρ' s'.nx n:=by intro i a b;have:=h.nx;rw[h.ug i (.inr a)];exact u i (by omega) b
theorem IV{c o:Nat}(h:w'.heap[c]?=w.heap[c]?):w'.cell? ⟨c,o,none⟩=w.cell? ⟨c,o,none⟩:=by unfold World.cell?;simp only[h]
theorem hO.ext(e:tL ρ ρ'):∀{a:List (HV×HV)}{b:List MapEntry},hO ρ a b->hO ρ' a b
 |[],_,h=>h
 |(k,v)::a,_,h=>by unfold hO at h⊢;obtain⟨x,c,d,f,g,i,j⟩:=h;exact⟨x,c,d,f,VR.ext e _ _ g,VR.ext e _ _ i,hO.ext e j⟩
end
theorem vZ{b:Nat}{t:TypeId}:∀(a:List Value)(o:Nat)(cs:List Value)(w:World),Wk.gY w b t cs->o+a.length<=cs.length->Wk.gY (w.setCells b o a) b t (wG cs o a)
 |[],o,cs,w,h,_=>by rw[KH];exact h
 |v::a,o,cs,w,h,c=>by rw[World.setCells,HY c];exact vZ a (o+1) (cs.set o v) _ h.set (by simp at c⊢;omega)
theorem Kp.setCells(b:Nat):∀(a:List Value)(o:Nat)(w:World),Kp [b] w (w.setCells b o a)
 |[],_,w=>Kp.refl _ w
 |v::a,o,w=>by rw[World.setCells];exact(Kp.setCell w ⟨b,o,none⟩ v).trans (Kp.setCells b a (o+1) _)
theorem aH{α:Type}(b:Bool)(x y:α):(bif b then x else y)=if b=true then x else y:=by cases b<;>rfl
theorem ku{a b:Nat}:Nat.blt a b=true↔a<b:=by rw[de]
theorem gK:∀(l:List HV)(c:Tr HV)(o i:Nat),(cr c o l).ap i=if o<=i/\i<o+l.length then l[i-o]? else c.ap i
 |[],c,o,i=>by rw[aG (by simp only[gp];omega)];rfl
 |v::a,c,o,i=>by
  show(cr (c.set o v) (o+1) a).ap i=_;rw[gK a,Tr.dg,bx];by_cases h:i=o;.subst h;rw[aG (by omega),aE rfl,aE (by omega),ee];rfl
  .
   rw[aG h];by_cases b:o+1<=i/\i<o+1+a.length
   .
    rw[aE b,aE (by omega)];have:i-o=i-(o+1)+1:=by omega
    rw[this,dP]
   .rw[aG b,aG (by omega)]
theorem gY.GJ(b:gY)(i:Nat):b.ap i=if i<b.n then b.c.ap i else none:=by
 unfold gY.ap;rw[aH];by_cases h:i<b.n;.rw[aE h,aE (ku.2 h)]
 .rw[aG h,aG λx=>h (ku.1 x)]
theorem qS{b:gY}:∀{k o:Nat}{l:List HV},cu b o k=some l->l.length=k/\∀i v,l[i]?=some v->o+i<b.n/\b.c.ap (o+i)=some v
 |0,o,l,h=>by cases h;exact⟨rfl,λi v a=>by simp at a⟩
 |k+1,o,l,h=>by
  unfold cu at h
  cases a:b.ap o with
   |none=>rw[a]at h;cases h
   |some v=>
   rw[a]at h
   cases d:cu b (Nat.add o 1) k with
    |none=>rw[d]at h;cases h
    |some g=>
    rw[d]at h;cases h;obtain⟨e,f⟩:=qS d;rw[gY.GJ]at a;refine⟨by simp[e],λi u c=>?_⟩
    cases i with
     |zero=>
     simp at c;subst c;split at a;.exact⟨by simpa,a⟩
     .cases a
     |succ i=>simp at c;have:=f i u c;rw[show o+(i+1)=Nat.add o 1+i by show _=o+1+i;omega];exact this
def pQ(ρ:Rn)(b:Nat)(r:RI):Rn:=λi=>if i=b then some r else ρ i
theorem gc(ρ:Rn)(b:Nat)(r:RI):pQ ρ b r b=some r:=by simp[pQ]
theorem kX(ρ:Rn){b i:Nat}(r:RI)(h:i≠b):pQ ρ b r i=ρ i:=by simp[pQ,h]
theorem yr{ρ:Rn}{b:Nat}{r:RI}(h:ρ b=none):tL ρ (pQ ρ b r):=λi q a=>by rw[kX];exact a;rintro rfl;rw[h]at a;cases a
section
variable{ρ:Rn}{s:St}{w w':World}
theorem Av.mv{d:Rn}{r:RI}{x:gY}(h:Av ρ w r x)(e:tL ρ d)(q:w.heap.size<=w'.heap.size)(c:w'.heap[r.c]?=w.heap[r.c]?):Av d w' r x:=by
 obtain⟨j,k,g,l,m⟩:=h;refine⟨j,k,aQ g q,λi v o t=>?_,λp=>?_⟩;.obtain⟨u,a,b,n⟩:=l i v o t;exact⟨u,by rw[IV c];exact a,VR.ext e _ _ b,n⟩
 .obtain⟨y,f,a,b⟩:=m p;exact⟨y,f,by rw[c];exact a,b⟩
theorem eY.at{hp:Tr Obj}(h:eY ρ hp w){b:Nat}{o:Obj}{r:RI}(h1:hp.ap b=some o)(h2:ρ b=some r):r.c<w.heap.size:=by cases o with
 |cn x=>exact(h.cn b x r h1 h2).2.2.1
 |map a=>obtain⟨e,d,c,f⟩:=h.map b a r h1 h2;exact oS c
theorem eY.step{f:Rn}{hp':Tr Obj}{b:Nat}(h:eY ρ s.hp w)(e:∀i,i≠b->f i=ρ i)(ex:tL ρ f)(D:w.heap.size<=w'.heap.size)(hp:∀i,i≠b->∀o,hp'.ap i=some o->s.hp.ap i=some o)(v:∀i o r,i≠b->hp'.ap i=some o->ρ i=some r->r.c<w.heap.size->w'.heap[r.c]?=w.heap[r.c]?)(B:∀x r,hp'.ap b=some (.cn x)->f b=some r->Av f w' r x)(C:∀m r,hp'.ap b=some (.map m)->f b=some r->∃p z,w'.heap[r.c]?=some (.map p z)/\hO f m p.toList)(hi:∀i o l r r',i≠b->hp'.ap i=some o->hp'.ap b=some l->pe o=true\/pe l=true->ρ i=some r->f b=some r'->r.c≠r'.c):eY f hp' w':=by
 refine⟨λi x r d c=>?_,λi m r d c=>?_,λi g o l r r' u d c j q n=>?_⟩
 .
  by_cases a:i=b;.subst a;exact B x r d c
  .rw[e i a]at c;have j:=h.cn i x r (hp i a _ d) c;exact j.mv ex D (v i _ r a d c j.2.2.1)
 .
  by_cases a:i=b;.subst a;exact C m r d c
  .rw[e i a]at c;obtain⟨p,y,t,A⟩:=h.map i m r (hp i a _ d) c;exact⟨p,y,by rw[v i _ r a d c (oS t)];exact t,A.ext ex⟩
 .
  by_cases a:i=b;.subst a;have k:g≠i:=λx=>u x.symm;rw[e g k]at n;exactλx=>hi g l o r' r k j d (.inr c) n q x.symm
  .
   rw[e i a]at q;by_cases k:g=b;.subst k;exact hi i o l r r' a d j (.inl c) q n
   .rw[e g k]at n;exact h.inj i g o l r r' u (hp i a _ d) c (hp g k _ j) q n
theorem nC{xs:Array Value}{T:TypeId}{a:Nat×Nat}{c i:Nat}(h:w.heap[c]?=some (.cells xs T a)):w.cell? ⟨c,i,none⟩=xs[i]?:=by unfold World.cell?;simp[h]
theorem fG.bT{z:Nat}{l:List HV}{us ex:List Value}{T:TypeId}{w1:World}(h:eY ρ s.hp w)(u:ρ s.nx=none)(t:dY ρ l us)(h1:∀x,x∈us->x.oneCell'=true)(r0:Kp [] w w1)(m:w1.heap=w.heap):fG ρ s w (pQ ρ s.nx ⟨w.heap.size,0,l.length,z,(us++ex).length⟩) (s.bT z l).2 (w1.alloc (.cells (us++ex).toArray T)):=by
 have q:(w1.alloc (.cells (us++ex).toArray T)).heap[w.heap.size]?=some (.cells (us++ex).toArray T (0,0)):=by have:=heap_alloc_new w1 (.cells (us++ex).toArray T);rw[m]at this;exact this
 have t0:∀c,c<w.heap.size->(w1.alloc (.cells (us++ex).toArray T)).heap[c]?=w.heap[c]?:=λc e=>by have:=(Kp.alloc w1 (.cells (us++ex).toArray T)).block c (by rw[m];exact e) (by simp);rw[this,m]
 have D:=yr (r:=⟨w.heap.size,0,l.length,z,(us++ex).length⟩) u;have v0:=fe t;have p:∀i,i≠s.nx->(s.hp.set s.nx (.cn ⟨true,z,l.length,cr .e 0 l⟩)).ap i=s.hp.ap i:=λi a=>Tr.bW _ _ a;have s0:w.heap.size<=(w1.alloc (.cells (us++ex).toArray T)).heap.size:=by have:=(Kp.alloc w1 (.cells (us++ex).toArray T)).size;rw[m]at this;exact this
 have w0:Kp [] w (w1.alloc (.cells (us++ex).toArray T)):=r0.trans (Kp.alloc _ _);refine⟨?_,?_,AK.of w0 (λ_ h=>by cases h),?_,dz _⟩
 .
  refine h.step (b:=s.nx) (λi a=>kX _ _ a) D s0 (λi a o k=>by rw[<-k];exact(p i a).symm) (λi o r a k d A=>t0 _ A) ?_ ?_ ?_
  .
   intro x r f d;rw[gc]at d;cases d;have q0:x=⟨true,z,l.length,cr .e 0 l⟩:=by have:=Tr.a8 s.hp s.nx (Obj.cn ⟨true,z,l.length,cr .e 0 l⟩);rw[show(s.bT z l).2.hp=s.hp.set s.nx (.cn ⟨true,z,l.length,cr .e 0 l⟩)from rfl,this]at f;cases f;rfl
   subst q0;refine⟨rfl,rfl,oS q,λi v a C=>?_,λ_=>⟨_,T,q,by simp,by simp[v0]⟩⟩;have a:i<l.length:=a;rw[gK,aE ⟨aP _,by omega⟩,jd]at C;obtain⟨y,n,x0⟩:=kw t i v C;refine⟨y,?_,VR.ext D _ _ x0,h1 y (Y n)⟩;rw[nC q];simp only[br,tr];rw[bJ (gN n)];exact n
  .intro p0 r f d;rw[show(s.bT z l).2.hp=s.hp.set s.nx (.cn ⟨true,z,l.length,cr .e 0 l⟩)from rfl,Tr.a8]at f;cases f
  .
   intro i o m0 r l0 a k o0 n0 d B;rw[gc]at B;cases B;have u0:s.hp.ap i=some o:=by rw[<-p i a];exact k
   intro e;simp only at e;have A:=h.at u0 d;omega
 .intro b j;refine kX _ _ ?_;have:(s.bT z l).2.nx=s.nx+1:=rfl;omega
 .
  intro c e;obtain⟨b,o,r,z0,y0,g,rfl⟩:=e;by_cases j:b=s.nx;.subst j;rw[gc]at g;cases g;exact .inr (ar _)
  .rw[kX _ _ j]at g;exact .inl ⟨b,o,r,by rw[<-p b j];exact z0,y0,g,rfl⟩
end
end Go.Hm
namespace Go.Ls
open Go Go.Hm
structure En where
  hp : Tr Hm.Obj
  Z : Nat → Prop
  mb : Nat → Option Nat
  ib : Nat → Nat → Option Nat
  st : Tr iK
  nx : Nat
  lo : Nat
section
variable{α:Type}
theorem qT{b:gY}:∀{k j o:Nat}{l:List HV},cu b o (k+j)=some l↔∃c d,l=c++d∧cu b o k=some c∧cu b (o+k) j=some d
 |0,j,o,l=>by
  constructor;·intro h;exact⟨[],l,rfl,rfl,by rw[br]at h;exact h⟩
  ·rintro⟨c,d,rfl,a,f⟩;cases a;rw[br];exact f
 |k+1,j,o,l=>by
  have e:cu b o (k+1+j)=match b.ap o with
   |some v=>match cu b (o+1) (k+j)with|some l=>some (v::l)|none=>none
   |none=>none:=by rw[Nat.add_right_comm];rfl
  have m:cu b o (k+1)=match b.ap o with
   |some v=>match cu b (o+1) k with|some l=>some (v::l)|none=>none
   |none=>none:=rfl
  rw[e,m]
  cases r:b.ap o with
   |none=>simp
   |some v=>
   simp only;have i:=fun l=>qT (b:=b) (k:=k) (j:=j) (o:=o+1) (l:=l);constructor
   ·
    intro h;split at h;·rename_i q p;cases h;obtain⟨c,d,rfl,a,f⟩:=(i q).1 p;exact⟨v::c,d,rfl,by rw[a],by rw[show o+(k+1)=o+1+k by omega];exact f⟩
    ·cases h
   ·
    rintro⟨c,d,rfl,a,f⟩;split at a;·rename_i g n;cases a;rw[(i (g++d)).2 ⟨g,d,rfl,n,by rw[show o+1+k=o+(k+1)by omega];exact f⟩];rfl
    ·cases a
theorem ie{b:gY}{k o:Nat}{l:List HV}(h:cu b o k=some l):l.length=k:=(qS h).1
theorem eL{b:gY}{k o p z:Nat}{l c1 c2 c3:List HV}(h:cu b o k=some l)(e:l=c1++(c2++c3))(h1:c1.length=p)(h2:c2.length=z):cu b (o+p) z=some c2:=by
 have m:=ie h;subst e;simp only[az]at m;have:k=p+(z+c3.length):=by omega
 subst this;obtain⟨x,y,c,i,j⟩:=qT.1 h;have d:=kE c (by rw[h1,ie i]);obtain⟨rfl,rfl⟩:=d;obtain⟨q,r,f,a,n⟩:=qT.1 j;have g:=kE f (by rw[h2,ie a]);obtain⟨rfl,rfl⟩:=g;exact a
def mB(R:List HV->α->Prop):List HV->List α->Prop|a,[]=>a=[]|a,x::b=>∃c d,a=c++d/\R c x/\mB R d b
def LR(hp:Tr Hm.Obj)(Z:Nat->Prop)(z:Nat)(R:List HV->α->Prop)(v:HV)(xs:List α):Prop:=xs=[]/\(v= .cK\/v= .gO\/v= .mj)\/∃b o y,(v= .sl b o xs.length/\y.z=z)/\Z b/\hp.ap b=some (.cn y)/\o+xs.length*z<=y.n/\xs.length<=140737488355328/\∀i x,xs[i]?=some x->∃a,cu y (o+i*z) z=some a/\R a x
theorem ky{R Q:List HV->α->Prop}(h:∀c x,R c x->Q c x):∀{cs:List HV}{xs:List α},mB R cs xs->mB Q cs xs|_,[],g=>g|_,x::xs,⟨c,d,e,a,b⟩=>⟨c,d,e,h _ _ a,ky h b⟩
theorem PP{hp hp':Tr Hm.Obj}{Z a:Nat->Prop}{z:Nat}{R Q:List HV->α->Prop}{v:HV}{xs:List α}(p:∀b,Z b->a b)(hh:∀b,Z b->hp'.ap b=hp.ap b)(h:∀c x,R c x->Q c x)(g:LR hp Z z R v xs):LR hp' a z Q v xs:=by
 rcases g with g|⟨b,o,y,f,d,j,k,l,m⟩;.exact .inl g
 .refine .inr ⟨b,o,y,f,p b d,by rw[hh b d];exact j,k,l,λi x n=>?_⟩;obtain⟨e,q,r⟩:=m i x n;exact⟨e,q,h _ _ r⟩
end
def dw(hp:Tr Hm.Obj)(Z:Nat->Prop):(u:U)->List HV->D u->Prop| .int k,f,x=>f=[.int k x]| .bool,f,x=>f=[.bool x]| .dH,f,x=>f=[.dH x]| .un,f,_=>f=[]| .nil,f,_=>f=[.cK]| .ah a b,f,x=>∃c d,f=c++d/\dw hp Z a c x.1/\dw hp Z b d x.2| .fF n e,f,g=>g.length=n/\mB (dw hp Z e) f g| .bc e,f,g=>∃v,f=[v]/\LR hp Z e.size (dw hp Z e) v g
theorem dw.mono{hp hp':Tr Hm.Obj}{Z j:Nat->Prop}(i:∀b,Z b->j b)(hh:∀b,Z b->hp'.ap b=hp.ap b):∀{u:U}{cs:List HV}{x:D u},dw hp Z u cs x->dw hp' j u cs x| .int _,_,_,h=>h| .bool,_,_,h=>h| .dH,_,_,h=>h| .un,_,_,h=>h| .nil,_,_,h=>h| .ah a b,_,_,⟨c,d,e,f,g⟩=>⟨c,d,e,f.mono i hh,g.mono i hh⟩| .fF n e,_,_,⟨f,g⟩=>⟨f,ky (λ_ _ h=>h.mono i hh) g⟩| .bc e,_,_,⟨v,f,g⟩=>⟨v,f,PP i hh (λ_ _ h=>h.mono i hh) g⟩
theorem mP{α:Type}{R:List HV->α->Prop}{z:Nat}(h:∀c x,R c x->c.length=z):∀{cs:List HV}{xs:List α},mB R cs xs->cs.length=xs.length*z
 |_,[],g=>by cases g;simp
 |_,x::xs,⟨c,d,e,a,b⟩=>by subst e;have:=mP h b;simp only[az,h c x a,this,bx,go];omega
theorem dw.len{hp:Tr Hm.Obj}{Z:Nat->Prop}:∀{u:U}{cs:List HV}{x:D u},dw hp Z u cs x->cs.length=u.size
 | .int _,_,_,h=>by cases h;rfl
 | .bool,_,_,h=>by cases h;rfl
 | .dH,_,_,h=>by cases h;rfl
 | .un,_,_,h=>by cases h;rfl
 | .nil,_,_,h=>by cases h;rfl
 | .ah a b,_,_,⟨c,d,e,f,g⟩=>by subst e;rw[az,f.len,g.len];rfl
 | .fF n e,_,_,⟨f,g⟩=>by rw[mP (λ_ _ h=>h.len) g,f];rfl
 | .bc e,_,_,⟨v,f,g⟩=>by subst f;rfl
def qE(hp:Tr Hm.Obj)(Z:Nat->Prop)(u:U)(v:HV)(x:D u):Prop:=bif u.ag then∃a,v= .agg a/\dw hp Z u a x else dw hp Z u [v] x
def oc:(u:U)->D u->D u->Prop| .ah a b,x,y=>oc a x.1 y.1/\oc b x.2 y.2| .fF _ e,x,y=>List.length x=List.length y/\∀(i:Nat)(a b:D e),x[i]?=some a->y[i]?=some b->oc e a b| .bc e,x,y=>List.length x=List.length y/\∀(i:Nat)(a b:D e),x[i]?=some a->y[i]?=some b->oc e a b|_,_,_=>True
def Su(c:Bool)(u:U)(x y:D u):Prop:=bif c then x=y else oc u x y
def Lc(v w:HV):Prop:=w=v\/∃k x y,v= .int k x/\w= .int k y
def Lo(o p:Option Hm.Obj):Prop:=p=o\/∃y z,o=some (.cn y)/\p=some (.cn z)/\z.own=y.own/\z.z=y.z/\z.n=y.n/\∀i v,y.ap i=some v->∃w,z.ap i=some w/\Lc v w
def Le(c:Bool)(o p:Option Hm.Obj):Prop:=bif c then p=o else Lo o p
def Bz(E:En)(m b:Nat):Prop:=∃i,E.ib m i=some b
def Zn(E:En)(m:Nat)(P:Bool->Prop):Prop:=∀c w,E.st.ap m=some (.zn c w)->P c
def BL(E:En)(m:Nat)(e:U)(v:HV)(xs:List (D e)):Prop:=Zn E m λc=>∃a,Su c (.bc e) a xs/\dw E.hp (Bz E m) (.bc e) [v] a
def SE(v:HV):Prop:=v= .cK\/v= .gO\/v= .mj\/∃b o n,v= .sl b o n
def PtV(v:HV):Prop:=∃b o,v= .ptr b o
theorem SE.cell{v:HV}(h:SE v):iR v=some [v]:=by rcases h with rfl|rfl|rfl|⟨b,o,n,rfl⟩<;>rfl
def oe(E:En)(m:Nat):(u:U)->List HV->D u->Prop| .int k,f,x=>f=[.int k x]| .bool,f,x=>f=[.bool x]| .dH,f,x=>f=[.dH x]| .un,f,_=>f=[]| .nil,f,_=>f=[.cK]| .ah a b,f,x=>∃c d,f=c++d/\oe E m a c x.1/\oe E m b d x.2| .fF n e,f,g=>g.length=n/\mB (oe E m e) f g| .bc e,f,g=>m<E.nx/\∃v,f=[v]/\SE v/\BL E m e v g
theorem oe.len{E:En}{m:Nat}:∀{u:U}{cs:List HV}{x:D u},oe E m u cs x->cs.length=u.size
 | .int _,_,_,h=>by cases h;rfl
 | .bool,_,_,h=>by cases h;rfl
 | .dH,_,_,h=>by cases h;rfl
 | .un,_,_,h=>by cases h;rfl
 | .nil,_,_,h=>by cases h;rfl
 | .ah a b,_,_,⟨c,d,e,f,g⟩=>by subst e;rw[az,f.len,g.len];rfl
 | .fF n e,_,_,⟨f,g⟩=>by rw[mP (λ_ _ h=>h.len) g,f];rfl
 | .bc e,_,_,⟨_,v,f,g⟩=>by subst f;rfl
def ge(o:Option Nat)(n:Nat)(v:HV):Prop:=match o with|some b=>v= .sl b 0 n|none=>n=0/\(v= .cK\/v= .gO)
def ia(a:Bool)(C:List HV->Prop)(v:HV):Prop:=bif a then∃b,v= .agg b/\C b else C [v]
mutual def CR(E:En):SV->List HV->Prop| .any,cs=>∃v,cs=[v]| .undef,cs=>cs=[.undef]| .int _ k x,cs=>cs=[.int k x]| .bool _ b,cs=>cs=[.bool b]| .val u x,cs=>dw E.hp E.Z u cs x| .agg is,cs=>dy E is cs| .nf vs,cs=>∃l,cs=[.nf l]/\Vs E vs l| .fn f caps,cs=>∃l,cs=[.fn f l]/\Vs E caps l| .sc,cs=>cs=[.sc]| .cK,cs=>cs=[.cK]| .gO,cs=>cs=[.cK]\/cs=[.gO]| .sd,cs=>cs=[.sd]| .box m o,cs=>m<E.nx/\∃b,E.mb m=some b/\cs=[.ptr b o]| .sq m o n,cs=>m<E.nx/\∃b,E.mb m=some b/\cs=[.sl b o n]/\n<=4000| .row m,cs=>m<E.nx/\∃v,cs=[v]/\iR v=some [v]/\(∀e xs,E.st.ap m=some (.row e xs)->ge (E.mb m) xs.length v)/\∀t k,E.st.ap m=some t->t.rn=some k->ge (E.mb m) k v| .pz m i o,cs=>m<E.nx/\∃v,cs=[v]/\iR v=some [v]/\(∀e xs,E.st.ap m=some (.row e xs)->∃b j,E.mb m=some b/\i=Int.ofNat j/\j<xs.length/\v= .ptr b (j*e.size+o))/\∀t k,E.st.ap m=some t->t.rn=some k->∃b j,E.mb m=some b/\i=Int.ofNat j/\j<k/\v= .ptr b (j+o)| .sX u x,cs=>∃b o y ds,cs=[.ptr b o]/\E.Z b/\E.hp.ap b=some (.cn y)/\cu y o u.size=some ds/\dw E.hp E.Z u ds x| .vQ m o n u j p,cs=>m<E.nx/\∃b k,E.mb m=some b/\j=Int.ofNat k/\k<n/\cs=[.ptr b (o+k*u.size+p)]| .sub m g j,cs=>m<E.nx/\g<E.nx/\∃v,cs=[v]/\iR v=some [v]/\∀e xs,E.st.ap m=some (.rows g e xs)->∃k l,j=Int.ofNat k/\xs[k]?=some l/\ge (E.ib m k) l.length v| .map m,cs=>m<E.nx/\∃b,E.mb m=some b/\cs=[.map b]| .jz m o n,cs=>m<E.nx/\∃b,E.mb m=some b/\cs=[.jz b o n]| .vw m q,cs=>m<E.nx/\∃v,cs=[v]/\iR v=some [v]/\∀e xs,E.st.ap m=some (.row e xs)->∃k,q=Int.ofNat k/\k<=xs.length/\ge (E.mb m) k v| .bv m u x,cs=>m<E.nx/\oe E m u cs x| .tj m u x,cs=>m<E.nx/\∃v,cs=[v]/\PtV v/\Zn E m λc=>∃b o y ds x',v= .ptr b o/\Bz E m b/\E.hp.ap b=some (.cn y)/\cu y o u.size=some ds/\dw E.hp (Bz E m) u ds x'/\Su c u x' x| .uk k,cs=>∃x,cs=[.int k x]def dy(E:En):List SV->List HV->Prop|[],cs=>cs=[]|i::is,cs=>∃c d,cs=c++d/\CR E i c/\dy E is d def Vs(E:En):List SV->List HV->Prop|[],l=>l=[]|s::ss,l=>∃v r,l=v::r/\ia s.ag (CR E s) v/\Vs E ss r end
def V(E:En)(s:SV)(v:HV):Prop:=ia s.ag (CR E s) v
mutual theorem CR.len{E:En}:∀{s:SV}{cs:List HV},CR E s cs->cs.length=s.w
 | .any,_,h=>by unfold CR at h;obtain⟨v,rfl⟩:=h;rfl
 | .undef,_,h=>by unfold CR at h;subst h;rfl
 | .int _ _ _,_,h=>by unfold CR at h;subst h;rfl
 | .bool _ _,_,h=>by unfold CR at h;subst h;rfl
 | .val u x,_,h=>by unfold CR at h;rw[h.len];rfl
 | .agg is,_,h=>by unfold CR at h;exact dy.len h
 | .nf _,_,h=>by unfold CR at h;obtain⟨l,rfl,_⟩:=h;rfl
 | .fn _ _,_,h=>by unfold CR at h;obtain⟨l,rfl,_⟩:=h;rfl
 | .sc,_,h=>by unfold CR at h;subst h;rfl
 | .cK,_,h=>by unfold CR at h;subst h;rfl
 | .gO,_,h=>by unfold CR at h;rcases h with rfl|rfl<;>rfl
 | .sd,_,h=>by unfold CR at h;subst h;rfl
 | .box _ _,_,h=>by unfold CR at h;obtain⟨_,b,_,rfl⟩:=h;rfl
 | .sq _ _ _,_,h=>by unfold CR at h;obtain⟨_,b,_,rfl,_⟩:=h;rfl
 | .row _,_,h=>by unfold CR at h;obtain⟨_,b,rfl,_⟩:=h;rfl
 | .pz _ _ _,_,h=>by unfold CR at h;obtain⟨_,b,rfl,_⟩:=h;rfl
 | .sX _ _,_,h=>by unfold CR at h;obtain⟨b,o,y,ds,rfl,_⟩:=h;rfl
 | .vQ _ _ _ _ _ _,_,h=>by unfold CR at h;obtain⟨_,b,k,_,_,_,rfl⟩:=h;rfl
 | .sub _ _ _,_,h=>by unfold CR at h;obtain⟨_,_,v,rfl,_⟩:=h;rfl
 | .map _,_,h=>by unfold CR at h;obtain⟨_,b,_,rfl⟩:=h;rfl
 | .jz _ _ _,_,h=>by unfold CR at h;obtain⟨_,b,_,rfl⟩:=h;rfl
 | .vw _ _,_,h=>by unfold CR at h;obtain⟨_,b,rfl,_⟩:=h;rfl
 | .bv _ _ _,_,h=>by unfold CR at h;rw[h.2.len];rfl
 | .tj _ _ _,_,h=>by unfold CR at h;obtain⟨_,b,rfl,_⟩:=h;rfl
 | .uk _,_,h=>by unfold CR at h;obtain⟨b,rfl⟩:=h;rfl theorem dy.len{E:En}:∀{is:List SV}{cs:List HV},dy E is cs->cs.length=ws is
 |[],_,h=>by unfold dy at h;subst h;rfl
 |i::is,_,h=>by unfold dy at h;obtain⟨c,d,rfl,h1,h2⟩:=h;rw[az,h1.len,dy.len h2];rfl end
theorem o7{E:En}:∀{f b:List SV}{cs:List HV},dy E (f++b) cs↔∃c d,cs=c++d∧dy E f c∧dy E b d
 |[],b,cs=>by
  constructor;·intro h;exact⟨[],cs,rfl,by unfold dy;rfl,h⟩
  ·rintro⟨c,d,rfl,a,e⟩;unfold dy at a;subst a;exact e
 |i::f,b,cs=>by
  constructor;·intro h;have h:dy E (i::(f++b)) cs:=h;unfold dy at h;obtain⟨c,d,rfl,a,e⟩:=h;obtain⟨k,n,rfl,g,j⟩:=o7.1 e;exact⟨c++k,n,by simp,by unfold dy;exact⟨c,k,rfl,a,g⟩,j⟩
  ·rintro⟨c,d,rfl,a,e⟩;unfold dy at a;obtain⟨m,l,rfl,g,j⟩:=a;show dy E (i::(f++b)) _;unfold dy;exact⟨m,l++d,by simp,g,o7.2 ⟨l,d,rfl,j,e⟩⟩
theorem dA{E:En}{i:SV}{cs:List HV}:dy E [i] cs↔CR E i cs:=by
 constructor;·intro h;unfold dy at h;obtain⟨c,d,rfl,b,a⟩:=h;unfold dy at a;subst a;simpa using b
 ·intro h;unfold dy;exact⟨cs,[],by simp,h,by unfold dy;rfl⟩
theorem nk{E:En}:∀{u:U}{cs:List HV}{x:D u},CR E (mk u x) cs↔dw E.hp E.Z u cs x
 | .int _,_,_=>by unfold mk CR;exact jt
 | .bool,_,_=>by unfold mk CR;exact jt
 | .dH,_,_=>by unfold mk CR;exact jt
 | .bc _,_,_=>by unfold mk CR;exact jt
 | .un,_,_=>by unfold mk CR;exact jt
 | .nil,_,_=>by unfold mk CR;exact jt
 | .ah _ _,_,_=>by unfold mk CR;exact jt
 | .fF _ _,_,_=>by unfold mk CR;exact jt
theorem tn{E:En}{m:Nat}(a:m<E.nx):∀{u:U}{cs:List HV}{x:D u},CR E (my m u x) cs↔oe E m u cs x
 | .int _,_,_=>by unfold my CR;exact jt
 | .bool,_,_=>by unfold my CR;exact jt
 | .dH,_,_=>by unfold my CR;exact jt
 | .bc _,_,_=>by unfold my CR;exact⟨fun h=>h.2,fun h=>⟨a,h⟩⟩
 | .un,_,_=>by unfold my CR;exact jt
 | .nil,_,_=>by unfold my CR;exact jt
 | .ah _ _,_,_=>by unfold my CR;exact⟨fun h=>h.2,fun h=>⟨a,h⟩⟩
 | .fF _ _,_,_=>by unfold my CR;exact⟨fun h=>h.2,fun h=>⟨a,h⟩⟩
theorem Vl{m:Nat}:∀{u:U}{x:D u},(my m u x).ag=u.ag| .int _,_=>rfl| .bool,_=>rfl| .dH,_=>rfl| .bc _,_=>rfl| .un,_=>rfl| .nil,_=>rfl| .ah _ _,_=>rfl| .fF _ _,_=>rfl
theorem Y5:∀{u:U}{x:D u},(mk u x).ag=u.ag| .int _,_=>rfl| .bool,_=>rfl| .dH,_=>rfl| .bc _,_=>rfl| .un,_=>rfl| .nil,_=>rfl| .ah _ _,_=>rfl| .fF _ _,_=>rfl
theorem Xo{E:En}{u:U}{v:HV}{x:D u}:V E (mk u x) v↔qE E.hp E.Z u v x:=by
 unfold V qE ia;rw[Y5];cases u.ag;·exact nk
 ·
  constructor;·rintro⟨a,b,c⟩;exact⟨a,b,nk.1 c⟩
  ·rintro⟨a,b,c⟩;exact⟨a,b,nk.2 c⟩
theorem CE{E:En}{e:U}{xs:List (D e)}:∀{n i:Nat}{cs:List HV},i+n=xs.length->mB (dw E.hp E.Z e) cs (xs.drop i)->dy E (elems e xs i n) cs
 |0,i,cs,g,h=>by have:xs.drop i=[]:=dV (by omega);rw[this]at h;unfold mB at h;subst h;unfold elems dy;rfl
 |n+1,i,cs,g,h=>by
  have a:i<xs.length:=by omega
  rw[dR a]at h;unfold mB at h;obtain⟨c,d,rfl,b,f⟩:=h;unfold elems dy;refine⟨c,d,rfl,?_,CE (i:=i+1) (by omega) f⟩;unfold bm;rw[G a];exact nk.2 b
theorem Ag{E:En}{m:Nat}(b:m<E.nx){e:U}{xs:List (D e)}:∀{n i:Nat}{cs:List HV},i+n=xs.length->mB (oe E m e) cs (xs.drop i)->dy E (nS m e xs i n) cs
 |0,i,cs,j,h=>by have:xs.drop i=[]:=dV (by omega);rw[this]at h;unfold mB at h;subst h;unfold nS dy;rfl
 |n+1,i,cs,j,h=>by
  have a:i<xs.length:=by omega
  rw[dR a]at h;unfold mB at h;obtain⟨c,d,rfl,f,g⟩:=h;unfold nS dy;refine⟨c,d,rfl,?_,Ag b (i:=i+1) (by omega) g⟩;unfold bm;rw[G a];exact(tn b).2 f
theorem wA{E:En}{s:SV}{ps:List SV}{cs:List HV}(h:s.split=some ps)(f:CR E s cs):dy E ps cs:=by
 unfold SV.split at h;split at h;.cases h;unfold CR at f;exact f
 .rename_i a b x;cases h;unfold CR at f;obtain⟨c,d,rfl,i,g⟩:=f;unfold dy;exact⟨c,d,rfl,nk.2 i,dA.2 (nk.2 g)⟩
 .cases h;unfold CR at f;unfold dy;exact f
 .rename_i n e k;cases h;unfold CR at f;obtain⟨i,g⟩:=f;exact CE (i:=0) (by omega) (by simpa using g)
 .cases h;unfold CR at f;obtain⟨j,c,d,rfl,i,g⟩:=f;unfold dy;exact⟨c,d,rfl,(tn j).2 i,dA.2 ((tn j).2 g)⟩
 .cases h;unfold CR at f;unfold dy;exact f.2
 .rename_i n e k;cases h;unfold CR at f;obtain⟨j,i,g⟩:=f;exact Ag j (i:=0) (by omega) (by simpa using g)
 .cases h
theorem pM{E:En}:∀{f:Nat}{g a b:List SV}{o:Nat}{cs:List HV},qX f g o=some (a,b)->dy E g cs->∃c d,cs=c++d/\c.length=o/\dy E a c/\dy E b d:=by
 intro f
 induction f with
  |zero=>
  intro g a b o cs h e;unfold qX at h;rw[aH]at h;split at h
  .
   rename_i j;cases h;have:o=0:=by simpa using j
   subst this;exact⟨[],cs,rfl,rfl,by unfold dy;rfl,e⟩
  .cases h
  |succ f p=>
  intro g a b o cs h e;unfold qX at h;rw[aH]at h;split at h
  .
   rename_i j;cases h;have:o=0:=by simpa using j
   subst this;exact⟨[],cs,rfl,rfl,by unfold dy;rfl,e⟩
  .
   split at h;.cases h
   .
    rename_i i g;rw[aH]at h;unfold dy at e;obtain⟨c,d,rfl,k,m⟩:=e;split at h
    .
     rename_i n;have n:i.w<=o:=by simpa using n
     split at h
     .
      rename_i w x u;cases h;obtain⟨l,q,rfl,r,s,t⟩:=p u m;refine⟨c++l,q,by simp,?_,?_,t⟩;.rw[az,r,k.len];show i.w+(o-i.w)=o;omega
      .unfold dy;exact⟨c,l,rfl,k,s⟩
     .cases h
    .
     split at h;.rename_i y v;exact p h (o7.2 ⟨c,d,rfl,wA v k,m⟩)
     .cases h
theorem Ba{E:En}:∀{f:Nat}{s:SV}{cs:List HV},CR E s cs->CR E (tV f s) cs
 |0,_,_,h=>h
 |f+1,s,cs,h=>by
  unfold tV;split;.rename_i a x;unfold CR dw at h;obtain⟨c,d,rfl,e,b⟩:=h;unfold dw at b;subst b;rw[bi];exact Ba (nk.2 e)
  .rename_i m a x;unfold CR oe at h;obtain⟨g,c,d,rfl,e,b⟩:=h;unfold oe at b;subst b;rw[bi];exact Ba ((tn g).2 e)
  .exact h
theorem Ov{E:En}{a:List SV}{cs:List HV}(h:dy E a cs):dy E (Qi a) cs:=by
 unfold Qi;split;.exact dA.2 (Ba (dA.1 h))
 .exact h
theorem mh{E:En}{e c:List SV}{o z:Nat}{cs:List HV}(h:ux e o z=some c)(m:dy E e cs):∃c1 c2 c3,cs=c1++(c2++c3)/\c1.length=o/\c2.length=z/\dy E c c2:=by
 unfold ux at h;split at h
 .
  rename_i a b k;split at h;.rename_i n d l;cases h;obtain⟨c1,x,rfl,f,p,g⟩:=pM k m;obtain⟨c2,c3,rfl,i,j,q⟩:=pM l g;exact⟨c1,c2,c3,rfl,f,i,Ov j⟩
  .cases h
 .cases h
theorem r8{E:En}{e f g:List SV}{o z:Nat}{cs c:List HV}(h:xt e o z f=some g)(r:dy E e cs)(q:dy E f c):∃c1 c2 c3,cs=c1++(c2++c3)/\c1.length=o/\c2.length=z/\dy E g (c1++(c++c3)):=by
 unfold xt at h;split at h
 .
  rename_i a b n;split at h;.rename_i s d p;cases h;obtain⟨c1,x,rfl,i,j,k⟩:=pM n r;obtain⟨c2,c3,rfl,l,t,m⟩:=pM p k;exact⟨c1,c2,c3,rfl,i,l,o7.2 ⟨c1,c++c3,rfl,j,o7.2 ⟨c,c3,rfl,q,m⟩⟩⟩
  .cases h
 .cases h
theorem lR {E : En} {s : SV} {is : List SV} {v : HV} (h : s.rt = some is) (hv : V E s v) : ∃ cs, iR v = some cs ∧ dy E is cs ∧ (s.ag = true → v = .agg cs) ∧ (s.ag = false → cs = [v]) := by
  unfold V ia at hv
  cases s with
  | any => cases h
  | undef => cases h
  | nf _ => cases h
  | agg is' =>
    cases h
    obtain ⟨cs, rfl, h2⟩ := hv
    unfold CR at h2
    exact ⟨cs, rfl, h2, fun _ => rfl, fun h => by cases h⟩
  | val u x =>
    cases h
    have ha : (SV.val u x).ag = u.ag := rfl
    rw [ha] at hv ⊢
    cases hu : u.ag with
    | true =>
      rw [hu] at hv
      obtain ⟨cs, rfl, h2⟩ := hv
      exact ⟨cs, rfl, dA.2 h2, fun _ => rfl, fun h => by cases h⟩
    | false =>
      rw [hu] at hv
      have hv : CR E (SV.val u x) [v] := hv
      refine ⟨[v], ?_, dA.2 hv, fun h => (by cases h), fun _ => rfl⟩
      unfold CR at hv
      cases u with
      | int _ => unfold dw at hv; cases hv; rfl
      | bool => unfold dw at hv; cases hv; rfl
      | dH => unfold dw at hv; cases hv; rfl
      | un => cases hu
      | nil => unfold dw at hv; cases hv; rfl
      | ah _ _ => cases hu
      | fF _ _ => cases hu
      | bc e =>
        unfold dw at hv
        obtain ⟨w, h1, h2⟩ := hv
        cases h1
        rcases h2 with ⟨_, h | h | h⟩ | ⟨b, o, y, h, _⟩
        · subst h; rfl
        · subst h; rfl
        · subst h; rfl
        · obtain ⟨h, _⟩ := h; subst h; rfl
  | int _ _ _ => cases h; have h2 : CR E _ [v] := hv; refine ⟨[v], ?_, dA.2 h2, fun h => (by cases h), fun _ => rfl⟩; unfold CR at h2; cases h2; rfl
  | bool _ _ => cases h; have h2 : CR E _ [v] := hv; refine ⟨[v], ?_, dA.2 h2, fun h => (by cases h), fun _ => rfl⟩; unfold CR at h2; cases h2; rfl
  | sc => cases h; have h2 : CR E _ [v] := hv; refine ⟨[v], ?_, dA.2 h2, fun h => (by cases h), fun _ => rfl⟩; unfold CR at h2; cases h2; rfl
  | cK => cases h; have h2 : CR E _ [v] := hv; refine ⟨[v], ?_, dA.2 h2, fun h => (by cases h), fun _ => rfl⟩; unfold CR at h2; cases h2; rfl
  | sd => cases h; have h2 : CR E _ [v] := hv; refine ⟨[v], ?_, dA.2 h2, fun h => (by cases h), fun _ => rfl⟩; unfold CR at h2; cases h2; rfl
  | gO => cases h; have h2 : CR E _ [v] := hv; refine ⟨[v], ?_, dA.2 h2, fun h => (by cases h), fun _ => rfl⟩; unfold CR at h2; rcases h2 with h2 | h2 <;> cases h2 <;> rfl
  | fn _ _ => cases h; have h2 : CR E _ [v] := hv; refine ⟨[v], ?_, dA.2 h2, fun h => (by cases h), fun _ => rfl⟩; unfold CR at h2; obtain ⟨l, h2, _⟩ := h2; cases h2; rfl
  | box _ _ => cases h; have h2 : CR E _ [v] := hv; refine ⟨[v], ?_, dA.2 h2, fun h => (by cases h), fun _ => rfl⟩; unfold CR at h2; obtain ⟨_, l, _, h2⟩ := h2; cases h2; rfl
  | sq _ _ _ => cases h; have h2 : CR E _ [v] := hv; refine ⟨[v], ?_, dA.2 h2, fun h => (by cases h), fun _ => rfl⟩; unfold CR at h2; obtain ⟨_, l, _, h2, _⟩ := h2; cases h2; rfl
  | sX _ _ => cases h; have h2 : CR E _ [v] := hv; refine ⟨[v], ?_, dA.2 h2, fun h => (by cases h), fun _ => rfl⟩; unfold CR at h2; obtain ⟨_, _, _, _, h2, _⟩ := h2; cases h2; rfl
  | row _ => cases h; have h2 : CR E _ [v] := hv; refine ⟨[v], ?_, dA.2 h2, fun h => (by cases h), fun _ => rfl⟩; unfold CR at h2; obtain ⟨_, l, h2, h3, _⟩ := h2; cases h2; exact h3
  | pz _ _ _ => cases h; have h2 : CR E _ [v] := hv; refine ⟨[v], ?_, dA.2 h2, fun h => (by cases h), fun _ => rfl⟩; unfold CR at h2; obtain ⟨_, l, h2, h3, _⟩ := h2; cases h2; exact h3
  | vQ _ _ _ _ _ _ => cases h; have h2 : CR E _ [v] := hv; refine ⟨[v], ?_, dA.2 h2, fun h => (by cases h), fun _ => rfl⟩; unfold CR at h2; obtain ⟨_, b, k, _, _, _, h2⟩ := h2; cases h2; rfl
  | sub _ _ _ => cases h; have h2 : CR E _ [v] := hv; refine ⟨[v], ?_, dA.2 h2, fun h => (by cases h), fun _ => rfl⟩; unfold CR at h2; obtain ⟨_, _, l, h2, h3, _⟩ := h2; cases h2; exact h3
  | map _ => cases h; have h2 : CR E _ [v] := hv; refine ⟨[v], ?_, dA.2 h2, fun h => (by cases h), fun _ => rfl⟩; unfold CR at h2; obtain ⟨_, l, _, h2⟩ := h2; cases h2; rfl
  | jz _ _ _ => cases h; have h2 : CR E _ [v] := hv; refine ⟨[v], ?_, dA.2 h2, fun h => (by cases h), fun _ => rfl⟩; unfold CR at h2; obtain ⟨_, l, _, h2⟩ := h2; cases h2; rfl
  | uk _ => cases h; have h2 : CR E _ [v] := hv; refine ⟨[v], ?_, dA.2 h2, fun h => (by cases h), fun _ => rfl⟩; unfold CR at h2; obtain ⟨x, h2⟩ := h2; cases h2; rfl
  | tj _ _ _ => cases h; have h2 : CR E _ [v] := hv; refine ⟨[v], ?_, dA.2 h2, fun h => (by cases h), fun _ => rfl⟩; unfold CR at h2; obtain ⟨_, l, h2, ⟨_, _, rfl⟩, _⟩ := h2; cases h2; rfl
  | bv m u x =>
    cases h
    have ha : (SV.bv m u x).ag = u.ag := rfl
    rw [ha] at hv ⊢
    cases hu : u.ag with
    | true =>
      rw [hu] at hv
      obtain ⟨cs, rfl, h2⟩ := hv
      exact ⟨cs, rfl, dA.2 h2, fun _ => rfl, fun h => by cases h⟩
    | false =>
      rw [hu] at hv
      have hv : CR E (SV.bv m u x) [v] := hv
      refine ⟨[v], ?_, dA.2 hv, fun h => (by cases h), fun _ => rfl⟩
      unfold CR at hv
      obtain ⟨_, hv⟩ := hv
      cases u with
      | int _ => unfold oe at hv; cases hv; rfl
      | bool => unfold oe at hv; cases hv; rfl
      | dH => unfold oe at hv; cases hv; rfl
      | un => cases hu
      | nil => unfold oe at hv; cases hv; rfl
      | ah _ _ => cases hu
      | fF _ _ => cases hu
      | bc e =>
        unfold oe at hv
        obtain ⟨_, w, h1, h2, _⟩ := hv
        cases h1
        exact h2.cell
  | vw _ _ => cases h; have h2 : CR E _ [v] := hv; refine ⟨[v], ?_, dA.2 h2, fun h => (by cases h), fun _ => rfl⟩; unfold CR at h2; obtain ⟨_, l, h2, h3, _⟩ := h2; cases h2; exact h3
def fp{e:U}(b xs:List (List (D e))):Prop:=∀(k:Nat)(l:List (D e)),b[k]?=some l->∃a:List (D e),xs[k]?=some a/\a.length=l.length
theorem fp.refl{e:U}{xs:List (List (D e))}:fp xs xs:=λ_ l h=>⟨l,h,rfl⟩
structure Fm (n : Nat) (E E' : En) : Prop where
  lo : E'.lo = E.lo
  zn : ∀ m c w, m < n → E'.st.ap m = some (.zn c w) → ∃ c', E.st.ap m = some (.zn c' w) ∧ (c = true → c' = true) ∧ (∀ k, E'.ib m k = E.ib m k) ∧ ∀ b, Bz E m b → Le c (E.hp.ap b) (E'.hp.ap b)
  z : ∀ b, E.Z b → E'.Z b
  h : ∀ b, E.Z b → E'.hp.ap b = E.hp.ap b
  nx : n ≤ E'.nx
  mb : ∀ m, m < n → E'.mb m = E.mb m
  row : ∀ m e xs, m < n → E'.st.ap m = some (.row e xs) → ∃ xs', E.st.ap m = some (.row e xs') ∧ xs'.length = xs.length
  Ay : ∀ m t k, m < n → E'.st.ap m = some t → t.rn = some k → ∃ t', E.st.ap m = some t' ∧ t'.rn = some k
  BA : ∀ m g e xs, m < n → g < n → E'.st.ap m = some (.rows g e xs) → ∃ xs', E.st.ap m = some (.rows g e xs') ∧ fp xs' xs ∧ ∀ k, E'.ib m k = E.ib m k
theorem fK(c:Bool)(o:Option Hm.Obj):Le c o o:=by
 unfold Le;cases c;.exact .inl rfl
 .rfl
theorem Lc.trans{u v w:HV}(a:Lc u v)(b:Lc v w):Lc u w:=by
 rcases a with rfl|⟨k,x,y,rfl,rfl⟩;.exact b
 .
  rcases b with rfl|⟨d,f,c,e,rfl⟩;.exact .inr ⟨k,x,y,rfl,rfl⟩
  .cases e;exact .inr ⟨k,x,c,rfl,rfl⟩
theorem Lo.trans{o p q:Option Hm.Obj}(a:Lo o p)(b:Lo p q):Lo o q:=by
 rcases a with rfl|⟨y,z,rfl,rfl,c,d,e,f⟩;.exact b
 .
  rcases b with rfl|⟨A,x,s,rfl,g,h,j,k⟩;.exact .inr ⟨y,z,rfl,rfl,c,d,e,f⟩
  .cases s;refine .inr ⟨y,x,rfl,rfl,g.trans c,h.trans d,j.trans e,λi v t=>?_⟩;obtain⟨w,l,m⟩:=f i v t;obtain⟨u,n,r⟩:=k i w l;exact⟨u,n,m.trans r⟩
theorem Le.lo{c:Bool}{o p:Option Hm.Obj}(h:Le c o p):Lo o p:=by
 unfold Le at h;cases c;.exact h
 .exact .inl h
theorem Le.tT{c a:Bool}{o p:Option Hm.Obj}(b:c=true->a=true)(h:Le a o p):Le c o p:=by cases c with
 |false=>exact h.lo
 |true=>rw[b rfl]at h;exact h
theorem Le.trans{c:Bool}{o p q:Option Hm.Obj}(a:Le c o p)(b:Le c p q):Le c o q:=by
 cases c;.exact Lo.trans a b
 .exact Eq.trans b a
theorem oc.refl:∀(u:U)(x:D u),oc u x x
 | .ah a b,x=>⟨oc.refl a x.1,oc.refl b x.2⟩
 | .fF _ e,x=>⟨rfl,λi a b d c=>by rw[d]at c;cases c;exact oc.refl e a⟩
 | .bc e,x=>⟨rfl,λi a b d c=>by rw[d]at c;cases c;exact oc.refl e a⟩
 | .int _,_=>trivial
 | .bool,_=>trivial
 | .dH,_=>trivial
 | .un,_=>trivial
 | .nil,_=>trivial
theorem ShL.trans{α:Type}{R:α->α->Prop}(g:∀a b c,R a b->R b c->R a c){x y z:List α}(a:x.length=y.length/\∀(i:Nat)(a b:α),x[i]?=some a->y[i]?=some b->R a b)(b:y.length=z.length/\∀(i:Nat)(a b:α),y[i]?=some a->z[i]?=some b->R a b):x.length=z.length/\∀(i:Nat)(a b:α),x[i]?=some a->z[i]?=some b->R a b:=by
 refine⟨a.1.trans b.1,λi p q d f=>?_⟩;have e:i<y.length:=by rw[<-a.1];exact(aj.1 d).1
 exact g _ _ _ (a.2 i p y[i] d (G e)) (b.2 i y[i] q (G e) f)
theorem oc.trans:∀{u:U}{x y z:D u},oc u x y->oc u y z->oc u x z| .ah a b,_,_,_,h,k=>⟨oc.trans h.1 k.1,oc.trans h.2 k.2⟩| .fF _ e,_,_,_,h,k=>ShL.trans (R:=oc e) (λ_ _ _ p q=>oc.trans p q) h k| .bc e,_,_,_,h,k=>ShL.trans (R:=oc e) (λ_ _ _ p q=>oc.trans p q) h k| .int _,_,_,_,_,_=>trivial| .bool,_,_,_,_,_=>trivial| .dH,_,_,_,_,_=>trivial| .un,_,_,_,_,_=>trivial| .nil,_,_,_,_,_=>trivial
theorem Su.sh{c:Bool}{u:U}{x y:D u}(h:Su c u x y):oc u x y:=by
 cases c;.exact h
 .have h:x=y:=h;rw[h];exact oc.refl u y
def vT:List HV->List HV->Prop|[],a=>a=[]|v::c,a=>∃w b,a=w::b/\Lc v w/\vT c b
theorem C8:∀{a b cs:List HV},vT (a++b) cs->∃c d,cs=c++d/\vT a c/\vT b d
 |[],b,cs,h=>⟨[],cs,rfl,rfl,h⟩
 |v::a,b,cs,⟨w,l,e,g,i⟩=>by obtain⟨c,d,f,j,k⟩:=C8 i;exact⟨w::c,d,by rw[e,f];rfl,⟨w,c,rfl,g,j⟩,k⟩
theorem wM{y z:gY}(h:∀i v,y.ap i=some v->∃w,z.ap i=some w/\Lc v w):∀{k o:Nat}{l:List HV},cu y o k=some l->∃c,cu z o k=some c/\vT l c
 |0,o,l,g=>by cases g;exact⟨[],rfl,rfl⟩
 |k+1,o,l,g=>by unfold cu at g⊢;cases b:y.ap o with
  |none=>rw[b]at g;cases g
  |some v=>rw[b]at g;simp only at g;cases a:cu y (o+1) k with
  |none=>rw[a]at g;cases g
  |some r=>rw[a]at g;cases g;obtain⟨w,e,f⟩:=h o v b;obtain⟨d,j,m⟩:=wM h a;exact⟨w::d,by rw[e,j],w,d,rfl,f,m⟩
theorem NB{α:Type}{R n:List HV->α->Prop}{Q:α->α->Prop}(h:∀cs x f,R cs x->vT cs f->∃m,n f m/\Q m x):∀{cs:List HV}{xs:List α}{f:List HV},mB R cs xs->vT cs f->∃ys,mB n f ys/\ys.length=xs.length/\∀(i:Nat)(a b:α),ys[i]?=some a->xs[i]?=some b->Q a b
 |cs,[],f,g,l=>by have g:cs=[]:=g;subst g;have l:f=[]:=l;exact⟨[],l,rfl,λi a b h=>by simp at h⟩
 |cs,x::xs,f,⟨c,d,e,q,r⟩,l=>by subst e;obtain⟨o,p,rfl,y,z⟩:=C8 l;obtain⟨m,s,t⟩:=h c x o q y;obtain⟨ys,u,v,w⟩:=NB h r z;refine⟨m::ys,⟨o,p,rfl,s,u⟩,by simp[v],λi a b j k=>?_⟩;cases i with
  |zero=>simp at j k;subst j k;exact t
  |succ i=>simp at j k;exact w i a b j k
theorem MP{α:Type}{P:Nat->α->Prop}:∀(n:Nat),(∀i,i<n->∃x,P i x)->∃l:List α,l.length=n/\∀i x,l[i]?=some x->P i x
 |0,_=>⟨[],rfl,λi x h=>by simp at h⟩
 |n+1,h=>by
  obtain⟨l,b,c⟩:=MP n λi d=>h i (by omega);obtain⟨x,e⟩:=h n (by omega);refine⟨l++[x],by simp[b],λi y a=>?_⟩;by_cases d:i<n;.rw[bJ (by omega)]at a;exact c i y a
  .
   rw[bB (by omega)]at a;have:i-l.length=0:=by have:=(aj.1 a).1;simp at this;omega
   rw[this]at a;simp at a;subst a;rw[show i=n by omega];exact e
theorem dw.lo{hp hp':Tr Hm.Obj}{Z:Nat->Prop}(t:∀b,Z b->Lo (hp.ap b) (hp'.ap b)):∀{u:U}{cs:List HV}{x:D u}{m:List HV},dw hp Z u cs x->vT cs m->∃p,dw hp' Z u m p/\oc u p x
 | .int k,cs,x,m,h,l=>by
  have h:cs=[.int k x]:=h;subst h;obtain⟨w,q,rfl,j,f⟩:=l;have f:q=[]:=f;subst f;rcases j with rfl|⟨A,p,y,e,rfl⟩;.exact⟨x,rfl,trivial⟩
  .cases e;exact⟨y,rfl,trivial⟩
 | .bool,cs,x,m,h,l=>by
  have h:cs=[.bool x]:=h;subst h;obtain⟨w,q,rfl,j,f⟩:=l;have f:q=[]:=f;subst f;rcases j with rfl|⟨A,p,y,e,rfl⟩;.exact⟨x,rfl,trivial⟩
  .cases e
 | .dH,cs,x,m,h,l=>by
  have h:cs=[.dH x]:=h;subst h;obtain⟨w,q,rfl,j,f⟩:=l;have f:q=[]:=f;subst f;rcases j with rfl|⟨A,p,y,e,rfl⟩;.exact⟨x,rfl,trivial⟩
  .cases e
 | .un,cs,x,m,h,l=>by have h:cs=[]:=h;subst h;exact⟨x,l,trivial⟩
 | .nil,cs,x,m,h,l=>by
  have h:cs=[.cK]:=h;subst h;obtain⟨w,q,rfl,j,f⟩:=l;have f:q=[]:=f;subst f;rcases j with rfl|⟨A,p,y,e,rfl⟩;.exact⟨x,rfl,trivial⟩
  .cases e
 | .ah a b,cs,x,m,⟨c,d,e,j,f⟩,l=>by subst e;obtain⟨p0,o0,rfl,y9,x9⟩:=C8 l;obtain⟨s9,B,r⟩:=dw.lo t j y9;obtain⟨r9,C,v0⟩:=dw.lo t f x9;exact⟨(s9,r9),⟨p0,o0,rfl,B,C⟩,r,v0⟩
 | .fF n e,cs,s,m,⟨j,f⟩,l=>by obtain⟨u0,B,r,C⟩:=NB (Q:=oc e) (λcs x m g l=>dw.lo t g l) f l;exact⟨u0,⟨r.trans j,B⟩,r,C⟩
 | .bc e,cs,s,m,⟨v,j,f⟩,l=>by
  subst j;obtain⟨w,q,rfl,j,w0⟩:=l;have w0:q=[]:=w0;subst w0;rcases f with⟨rfl,f⟩|⟨b,o,y,⟨rfl,c0⟩,t0,i0,h0,g0,f0⟩
  .
   have:w=v:=by
    rcases j with rfl|⟨A,p,y,rfl,_⟩;.rfl
    .rcases f with f|f|f<;>cases f
   subst this;exact⟨[],⟨w,rfl,.inl ⟨rfl,f⟩⟩,rfl,λi a b h=>by simp at h⟩
  .
   have:w= .sl b o s.length:=by
    rcases j with rfl|⟨A,p,y,e,_⟩;.rfl
    .cases e
   subst this;have z0:=t b t0;rw[i0]at z0
   have b0:∃z,hp'.ap b=some (.cn z)/\z.z=y.z/\z.n=y.n/\∀i v,y.ap i=some v->∃w,z.ap i=some w/\Lc v w:=by
    rcases z0 with z0|⟨p9,z,n0,m0,q9,l0,k0,j0⟩;.exact⟨y,z0,rfl,rfl,λi v h=>⟨v,h,.inl rfl⟩⟩
    .cases n0;exact⟨z,m0,l0,k0,j0⟩
   obtain⟨z,w9,v9,u9,t9⟩:=b0;obtain⟨u0,x0,r0⟩:=MP (P:=λi p=>(∃cs,cu z (o+i*e.size) e.size=some cs/\dw hp' Z e cs p)/\∀x,s[i]?=some x->oc e p x) s.length (λi s0=>by obtain⟨cs,B,r⟩:=f0 i s[i] (G s0);obtain⟨m,C,v0⟩:=wM t9 B;obtain⟨p,a0,z9⟩:=dw.lo t r v0;exact⟨p,⟨m,C,a0⟩,λx y0=>by rw[G s0]at y0;cases y0;exact z9⟩);refine⟨u0,⟨.sl b o s.length,rfl,.inr ⟨b,o,z,⟨by rw[x0],v9.trans c0⟩,t0,w9,by rw[x0,u9];exact h0,by rw[x0];exact g0,λi x y0=>(r0 i x y0).1⟩⟩,x0,λi a q0 e0 d0=>(r0 i a e0).2 q0 d0⟩
theorem Cc{a:Bool}{C b:List HV->Prop}{v:HV}(h:∀c,C c->b c)(g:ia a C v):ia a b v:=by
 unfold ia at*;cases a;.exact h _ g
 .obtain⟨d,e,f⟩:=g;exact⟨d,e,h _ f⟩
theorem zL{E E':En}{m:Nat}(h:∀k,E'.ib m k=E.ib m k)(b:Nat):Bz E' m b↔Bz E m b:=by
 unfold Bz;constructor;·rintro⟨i,g⟩;exact⟨i,by rw[←h i];exact g⟩
 ·rintro⟨i,g⟩;exact⟨i,by rw[h i];exact g⟩
theorem vT.refl:∀(cs:List HV),vT cs cs|[]=>rfl|v::a=>⟨v,a,rfl,.inl rfl,vT.refl a⟩
theorem P8{E E':En}{m:Nat}{c f:Bool}{u:U}{cs d:List HV}{x y:D u}(n:c=true->f=true)(hi:∀k,E'.ib m k=E.ib m k)(i:∀b,Bz E m b->Le c (E.hp.ap b) (E'.hp.ap b))(h:dw E.hp (Bz E m) u cs x)(e:Su f u x y)(o:c=true->d=cs)(p:vT cs d):∃a,Su c u a y/\dw E'.hp (Bz E' m) u d a:=by cases c with
 |true=>rw[o rfl];rw[n rfl]at e;exact⟨x,e,h.mono (λb=>(zL hi b).2) λb g=>i b g⟩
 |false=>obtain⟨a,j,l⟩:=h.lo (λb g=>(i b g).lo) p;exact⟨a,oc.trans l e.sh,j.mono (λb=>(zL hi b).2) λ_ _=>rfl⟩
theorem BL.fm{n:Nat}{E E':En}(f:Fm n E E'){m:Nat}(j:m<n){e:U}{v:HV}{xs:List (D e)}(h:BL E m e v xs):BL E' m e v xs:=by intro c w k;obtain⟨a,b,d,g,i⟩:=f.zn m c w j k;obtain⟨p,l,o⟩:=h a w b;exact P8 d g i o l (λ_=>rfl) (vT.refl _)
theorem oe.fm{n:Nat}{E E':En}(f:Fm n E E'){m:Nat}(j:m<n):∀{u:U}{cs:List HV}{x:D u},oe E m u cs x->oe E' m u cs x| .int _,_,_,h=>h| .bool,_,_,h=>h| .dH,_,_,h=>h| .un,_,_,h=>h| .nil,_,_,h=>h| .ah a b,_,_,⟨c,d,e,g,i⟩=>⟨c,d,e,g.fm f j,i.fm f j⟩| .fF n e,_,_,⟨g,i⟩=>⟨g,ky (λ_ _ h=>h.fm f j) i⟩| .bc e,_,_,⟨_,v,g,i,k⟩=>⟨aQ j f.nx,v,g,i,k.fm f j⟩
mutual theorem CR.fm{n:Nat}{E E':En}(f:Fm n E E'):∀{s:SV}{cs:List HV},n=E.nx\/jB n s=true->CR E s cs->CR E' s cs
 | .any,_,_,h=>by unfold CR at*;exact h
 | .undef,_,_,h=>by unfold CR at*;exact h
 | .int _ _ _,_,_,h=>by unfold CR at*;exact h
 | .bool _ _,_,_,h=>by unfold CR at*;exact h
 | .val u x,_,_,h=>by unfold CR at*;exact h.mono f.z f.h
 | .agg is,_,l,h=>by unfold CR at*;exact dy.fm f (l.imp_right λg=>by unfold jB at g;exact g) h
 | .nf vs,_,l,h=>by unfold CR at*;obtain⟨r,h1,h2⟩:=h;exact⟨r,h1,Vs.fm f (l.imp_right λg=>by unfold jB at g;exact g) h2⟩
 | .fn g vs,_,l,h=>by unfold CR at*;obtain⟨r,h1,h2⟩:=h;exact⟨r,h1,Vs.fm f (l.imp_right λg=>by unfold jB at g;exact g) h2⟩
 | .sc,_,_,h=>by unfold CR at*;exact h
 | .cK,_,_,h=>by unfold CR at*;exact h
 | .gO,_,_,h=>by unfold CR at*;exact h
 | .sd,_,_,h=>by unfold CR at*;exact h
 | .box m o,_,l,h=>by
  unfold CR at*;obtain⟨h1,b,h2,h3⟩:=h
  have hm:m<n:=by
   rcases l with rfl|l;.exact h1
   .unfold jB at l;simpa using l
  exact⟨aQ hm f.nx,b,by rw[f.mb m hm];exact h2,h3⟩
 | .sq m o k,_,l,h=>by
  unfold CR at*;obtain⟨h1,b,h2,h3⟩:=h
  have hm:m<n:=by
   rcases l with rfl|l;.exact h1
   .unfold jB at l;simpa using l
  exact⟨aQ hm f.nx,b,by rw[f.mb m hm];exact h2,h3⟩
 | .row m,_,l,h=>by
  unfold CR at*;obtain⟨h1,v,h2,h3,h4⟩:=h
  have hm:m<n:=by
   rcases l with rfl|l;.exact h1
   .unfold jB at l;simpa using l
  refine⟨aQ hm f.nx,v,h2,h3,λe xs hx=>?_,λt k hx hk=>?_⟩;.obtain⟨xs',g1,g2⟩:=f.row m e xs hm hx;rw[f.mb m hm,<-g2];exact h4.1 e xs' g1
  .obtain⟨t',g1,g2⟩:=f.Ay m t k hm hx hk;rw[f.mb m hm];exact h4.2 t' k g1 g2
 | .pz m i o,_,l,h=>by
  unfold CR at*;obtain⟨h1,v,h2,h3,h4⟩:=h
  have hm:m<n:=by
   rcases l with rfl|l;.exact h1
   .unfold jB at l;simpa using l
  refine⟨aQ hm f.nx,v,h2,h3,λe xs hx=>?_,λt k hx hk=>?_⟩;.obtain⟨xs',g1,g2⟩:=f.row m e xs hm hx;rw[f.mb m hm,<-g2];exact h4.1 e xs' g1
  .obtain⟨t',g1,g2⟩:=f.Ay m t k hm hx hk;rw[f.mb m hm];exact h4.2 t' k g1 g2
 | .vQ m o n' u j p,_,l,h=>by
  unfold CR at*;obtain⟨h1,b,k,h2,h3⟩:=h
  have hm:m<n:=by
   rcases l with rfl|l;.exact h1
   .unfold jB at l;simpa using l
  exact⟨aQ hm f.nx,b,k,by rw[f.mb m hm];exact h2,h3⟩
 | .map m,_,l,h=>by
  unfold CR at*;obtain⟨h1,b,h2,h3⟩:=h
  have hm:m<n:=by
   rcases l with rfl|l;.exact h1
   .unfold jB at l;simpa using l
  exact⟨aQ hm f.nx,b,by rw[f.mb m hm];exact h2,h3⟩
 | .jz m o k,_,l,h=>by
  unfold CR at*;obtain⟨h1,b,h2,h3⟩:=h
  have hm:m<n:=by
   rcases l with rfl|l;.exact h1
   .unfold jB at l;simpa using l
  exact⟨aQ hm f.nx,b,by rw[f.mb m hm];exact h2,h3⟩
 | .vw m q,_,l,h=>by
  unfold CR at*;obtain⟨h1,v,h2,h3,h4⟩:=h
  have hm:m<n:=by
   rcases l with rfl|l;.exact h1
   .unfold jB at l;simpa using l
  refine⟨aQ hm f.nx,v,h2,h3,λe xs hx=>?_⟩;obtain⟨xs',g1,g2⟩:=f.row m e xs hm hx;rw[f.mb m hm,<-g2];exact h4 e xs' g1
 | .sub m g j,_,l,h=>by
  unfold CR at*;obtain⟨h1,h0,v,h2,h3,h4⟩:=h
  have hm:m<n/\g<n:=by
   rcases l with rfl|l;.exact⟨h1,h0⟩
   .unfold jB at l;rw[ae]at l;exact⟨by simpa using l.1,by simpa using l.2⟩
  refine⟨aQ hm.1 f.nx,aQ hm.2 f.nx,v,h2,h3,λe xs hx=>?_⟩;obtain⟨xs',g1,g2,g3⟩:=f.BA m g e xs hm.1 hm.2 hx;obtain⟨k,l0,k1,k2,k3⟩:=h4 e xs' g1;obtain⟨l',q1,q2⟩:=g2 k l0 k2;exact⟨k,l',k1,q1,by rw[g3 k,q2];exact k3⟩
 | .sX u x,_,_,h=>by unfold CR at*;obtain⟨b,o,y,ds,h1,h2,h3,h4,h5⟩:=h;exact⟨b,o,y,ds,h1,f.z b h2,by rw[f.h b h2];exact h3,h4,h5.mono f.z f.h⟩
 | .uk _,_,_,h=>by unfold CR at*;exact h
 | .bv m u x,_,l,h=>by
  unfold CR at*;obtain⟨h1,h2⟩:=h
  have hm:m<n:=by
   rcases l with rfl|l;.exact h1
   .unfold jB at l;simpa using l
  exact⟨aQ hm f.nx,h2.fm f hm⟩
 | .tj m u x,_,l,h=>by
  unfold CR at*;obtain⟨h1,v,h2,h3,h4⟩:=h
  have hm:m<n:=by
   rcases l with rfl|l;.exact h1
   .unfold jB at l;simpa using l
  refine⟨aQ hm f.nx,v,h2,h3,λc w hx=>?_⟩;obtain⟨c',g1,g2,g3,g4⟩:=f.zn m c w hm hx;obtain⟨b,o,y,ds,x',k1,k2,k3,k4,k5,k6⟩:=h4 c' w g1;have hL:=g4 b k2;rw[k3]at hL
  have hz:∃z ds',E'.hp.ap b=some (.cn z)/\cu z o u.size=some ds'/\(c=true->ds'=ds)/\vT ds ds':=by
   cases c with
    |true=>exact⟨y,ds,hL,k4,λ_=>rfl,vT.refl _⟩
    |false=>
    rcases hL with hL|⟨y',z,e1,e2,e3,e4,e5,e6⟩;.exact⟨y,ds,hL,k4,λ_=>rfl,vT.refl _⟩
    .cases e1;obtain⟨ds',q1,q2⟩:=wM e6 k4;exact⟨z,ds',e2,q1,λh=>(by cases h),q2⟩
  obtain⟨z,ds',q1,q2,q3,q4⟩:=hz;obtain⟨x2,w1,w2⟩:=P8 g2 g3 g4 k5 k6 q3 q4;exact⟨b,o,z,ds',x2,k1,(zL g3 b).2 k2,q1,q2,w2,w1⟩theorem dy.fm{n:Nat}{E E':En}(f:Fm n E E'):∀{is:List SV}{cs:List HV},n=E.nx\/pn n is=true->dy E is cs->dy E' is cs
 |[],_,_,h=>by unfold dy at*;exact h
 |i::is,_,l,h=>by unfold dy at*;obtain⟨c,d,h1,h2,h3⟩:=h;exact⟨c,d,h1,CR.fm f (l.imp_right λg=>by unfold pn at g;simp only[ae]at g;exact g.1) h2,dy.fm f (l.imp_right λg=>by unfold pn at g;simp only[ae]at g;exact g.2) h3⟩theorem Vs.fm{n:Nat}{E E':En}(f:Fm n E E'):∀{is:List SV}{l:List HV},n=E.nx\/pn n is=true->Vs E is l->Vs E' is l
 |[],_,_,h=>by unfold Vs at*;exact h
 |i::is,_,l,h=>by unfold Vs at*;obtain⟨c,d,h1,h2,h3⟩:=h;exact⟨c,d,h1,Cc (λ_=>CR.fm f (l.imp_right λg=>by unfold pn at g;simp only[ae]at g;exact g.1)) h2,Vs.fm f (l.imp_right λg=>by unfold pn at g;simp only[ae]at g;exact g.2) h3⟩end
theorem V.fm{n:Nat}{E E':En}(f:Fm n E E'){s:SV}{v:HV}(l:n=E.nx\/jB n s=true)(h:V E s v):V E' s v:=Cc (λ_=>CR.fm f l) h
def gB(E:En)(o:Option Nat)(e:U)(xs:List (D e)):Prop:=match o with|none=>xs=[]|some b=>∃y,E.hp.ap b=some (.cn y)/\y.own=true/\y.z=e.size/\xs.length*e.size<=y.n/\∀i x,xs[i]?=some x->∃a,cu y (i*e.size) e.size=some a/\dw E.hp E.Z e a x
def Bk(E:En)(m b:Nat):Prop:=E.mb m=some b\/∃i,E.ib m i=some b
def zE(E:En)(m:Nat)(e:U)(xs:List (List (D e))):Prop:=∃b y,E.mb m=some b/\E.hp.ap b=some (.cn y)/\y.own=true/\y.z=1/\xs.length<=y.n/\(∀i l,xs[i]?=some l->l.length<=140737488355328/\(∃v,cu y i 1=some [v]/\ge (E.ib m i) l.length v)/\gB E (E.ib m i) e l)/\(∀i,xs.length<=i->E.ib m i=none)/\(∀i j c,E.ib m i=some c->E.ib m j=some c->i=j)/\∀i,E.ib m i≠some b
def LQ(E:En)(m:Nat)(e:U)(xs:List (List (D e)))(j:Nat):Prop:=∃b y,E.mb m=some b/\E.hp.ap b=some (.cn y)/\y.own=true/\y.z=1/\xs.length<=y.n/\(∀i l,i≠j->xs[i]?=some l->l.length<=140737488355328/\(∃v,cu y i 1=some [v]/\ge (E.ib m i) l.length v)/\gB E (E.ib m i) e l)/\(∀i,xs.length<=i->E.ib m i=none)/\(∀i j c,E.ib m i=some c->E.ib m j=some c->i=j)/\∀i,E.ib m i≠some b
def C6(E:En)(m:Nat)(e:U)(xs:List (List (D e))):Prop:=(E.mb m=none/\xs=[]/\∀i,E.ib m i=none)\/zE E m e xs
theorem C6.b{E:En}{m b:Nat}{e:U}{xs:List (List (D e))}(h:C6 E m e xs)(a:E.mb m=some b):zE E m e xs:=by
 rcases h with⟨h,_⟩|h;.rw[h]at a;cases a
 .exact h
theorem C6.p{E:En}{m j:Nat}{e:U}{xs:List (List (D e))}(h:C6 E m e xs)(a:j<xs.length):zE E m e xs:=by
 rcases h with⟨_,h,_⟩|h;.rw[h]at a;cases a
 .exact h
theorem zE.w{E:En}{m:Nat}{e:U}{xs:List (List (D e))}(j:Nat)(h:zE E m e xs):LQ E m e xs j:=by obtain⟨b,y,a,c,d,f,g,k,n⟩:=h;exact⟨b,y,a,c,d,f,g,λi l _ o=>k i l o,n⟩
def B6(a:List (Int×Bool×Unit)):List (HV×HV):=a.map λp=>(.int .i64 p.1,.bool p.2.1)
def ra(hp:Tr Hm.Obj)(b:Nat):Prop:=∃o,hp.ap b=some o/\∀y,o= .cn y->y.own=true
def oj(E:En)(m:Nat):iK->Prop| .box z d=>∃b y c,E.mb m=some b/\E.hp.ap b=some (.cn y)/\y.own=true/\y.z=z/\cu y 0 y.n=some c/\dy E d c| .row e a=>a.length<=140737488355328/\gB E (E.mb m) e a| .rows g e a=>g<E.nx/\a.length<=140737488355328/\C6 E m e a| .mJ e a k=>a.length<=140737488355328/\∃j,k=Int.ofNat j/\j<a.length/\E.ib m j=none/\LQ E m e a j| .map f=>∃b,E.mb m=some b/\E.hp.ap b=some (.map (B6 f))| .zn _ w=>E.mb m=none/\∀b,Bz E m b->w=true\/E.lo<=b->ra E.hp b
theorem gB.fm{E E':En}(m:∀b,E.Z b->E'.Z b)(hh:∀b,E.Z b->E'.hp.ap b=E.hp.ap b){o:Option Nat}{e:U}{xs:List (D e)}(k:∀b,o=some b->E'.hp.ap b=E.hp.ap b)(h:gB E o e xs):gB E' o e xs:=by unfold gB at*;cases o with
 |none=>exact h
 |some b=>obtain⟨y,c,d,f,g,j⟩:=h;refine⟨y,by rw[k b rfl];exact c,d,f,g,λi x l=>?_⟩;obtain⟨a,n,p⟩:=j i x l;exact⟨a,n,p.mono m hh⟩
theorem oj.fm{E E':En}(f:Fm E.nx E E'){m:Nat}{t:iK}(s:E'.mb m=E.mb m)(hi:∀k,E'.ib m k=E.ib m k)(o:∀b,Bk E m b->E'.hp.ap b=E.hp.ap b)(h:oj E m t):oj E' m t:=by
 cases t with
  |box z k0=>obtain⟨b,y,p0,a,r,w0,v0,o0,n0⟩:=h;exact⟨b,y,p0,by rw[s];exact a,by rw[o b (.inl a)];exact r,w0,v0,o0,dy.fm f (.inl rfl) n0⟩
  |row e q0=>obtain⟨a,r⟩:=h;refine⟨a,?_⟩;rw[s];exact r.fm f.z f.h λb l0=>o b (.inl l0)
  |rows g e q0=>
  obtain⟨s0,a,⟨d,n,v⟩|⟨b,y,p,u,A,B,C,D,z0,y0,x0⟩⟩:=h;.exact⟨aQ s0 f.nx,a,.inl ⟨by rw[s];exact d,n,λi=>by rw[hi];exact v i⟩⟩
  refine⟨aQ s0 f.nx,a,.inr ⟨b,y,by rw[s];exact p,by rw[o b (.inl p)];exact u,A,B,C,λi l t0=>?_,λi k=>by rw[hi];exact z0 i k,λi j c d n=>?_,λi=>by rw[hi];exact x0 i⟩⟩;.obtain⟨d,n,v⟩:=D i l t0;refine⟨d,by rw[hi];exact n,?_⟩;rw[hi];exact v.fm f.z f.h λc u0=>o c (.inr ⟨i,u0⟩)
  .rw[hi]at d n;exact y0 i j c d n
  |mJ e q0 q=>
  obtain⟨a,j,r,w0,v0,b,y,p,u,A,B,C,D,z0,y0,x0⟩:=h;refine⟨a,j,r,w0,by rw[hi];exact v0,b,y,by rw[s];exact p,by rw[o b (.inl p)];exact u,A,B,C,λi l m0 t0=>?_,λi k=>by rw[hi];exact z0 i k,λi j c d n=>?_,λi=>by rw[hi];exact x0 i⟩;.obtain⟨d,n,v⟩:=D i l m0 t0;refine⟨d,by rw[hi];exact n,?_⟩;rw[hi];exact v.fm f.z f.h λc u0=>o c (.inr ⟨i,u0⟩)
  .rw[hi]at d n;exact y0 i j c d n
  |map j0=>obtain⟨b,a,r⟩:=h;exact⟨b,by rw[s];exact a,by rw[o b (.inl a)];exact r⟩
  |zn c w=>refine⟨by rw[s];exact h.1,λb x r0=>?_⟩;have x:=(zL hi b).1 x;rw[f.lo]at r0;obtain⟨y,p,u⟩:=h.2 b x r0;exact⟨y,by rw[o b (.inr x)];exact p,u⟩
structure da (S : SS) (h : St) (E : En) : Prop where
  hp : E.hp = h.hp
  st : E.st = S.st
  nx : E.nx = S.nx
  lt : ∀ m e, S.st.ap m = some e → m < S.nx
  gm : ∀ m e, S.st.ap m = some e → oj E m e
  inj : ∀ m m' e e' b, S.st.ap m = some e → S.st.ap m' = some e' → Bk E m b → Bk E m' b → m = m'
  own : ∀ m e b, S.st.ap m = some e → Bk E m b → ¬ E.Z b ∧ b < h.nx
  z : ∀ b, E.Z b → b < h.nx
  fr : ∀ b, h.nx ≤ b → h.hp.ap b = none
  lk : ∀ b, bw b h.lk = true → b < h.nx ∧ ∀ m e, S.st.ap m = some e → Bk E m b → bw m S.lk = true
  rq : ∀ m b, Bk E m b → b < h.nx
  py : ∀ m e, S.st.ap m = some e → e.rn = none → ∀ k, E.ib m k = none
  zo : ∀ b, E.Z b → E.lo ≤ b → ra h.hp b
structure dN (S : SS) (h : St) (E : En) : Prop where
  nt : S.nt = h.nt
  v : ∀ t, V E (S.tmp t) (h.tmp t)
def Ow(S:SS)(E:En)(b:Nat):Prop:=∃m e,S.st.ap m=some e/\Bk E m b
structure Gr (S : SS) (h : St) (E : En) (S' : SS) (h' : St) (E' : En) : Prop where
  nt : h'.nt = h.nt
  lk : h'.lk = h.lk
  df : h'.df = h.df
  LP : S'.nt = S.nt
  Ha : S'.lk = S.lk
  base : S'.base = S.base
  wr : S'.wr = S.wr
  kp : S'.kp = S.kp
  nx : h.nx ≤ h'.nx
  wV : S.nx ≤ S'.nx
  z : ∀ b, E.Z b → E'.Z b
  z' : ∀ b, E'.Z b → E.Z b ∨ Ow S E b ∨ h.nx ≤ b
  DC : ∀ b, b < h.nx → ¬ Ow S E b → h'.hp.ap b = h.hp.ap b
  ow : ∀ b, Ow S' E' b → Ow S E b ∨ h.nx ≤ b
  mb : ∀ m, m < S.nx → E'.mb m = E.mb m
  uL : ∀ m, m < S.nx → S.jQ m = false → S'.st.ap m = S.st.ap m
  IE : ∀ m, m < S.nx → S.st.ap m = none → S'.st.ap m = none
  row : ∀ m e xs, m < S.nx → S'.st.ap m = some (.row e xs) → ∃ xs', S.st.ap m = some (.row e xs') ∧ xs'.length = xs.length
  O3 : ∀ b m e, bw b h.lk = true → S'.st.ap m = some e → Bk E' m b → ∃ e0, S.st.ap m = some e0 ∧ Bk E m b
  Ay : ∀ m t k, m < S.nx → S'.st.ap m = some t → t.rn = some k → ∃ t', S.st.ap m = some t' ∧ t'.rn = some k
  BA : ∀ m g e xs, m < S.nx → g < S.nx → S'.st.ap m = some (.rows g e xs) → ∃ xs', S.st.ap m = some (.rows g e xs') ∧ fp xs' xs ∧ ∀ k, E'.ib m k = E.ib m k
  ci : ∀ m, m < S.nx → S.jQ m = false → ∀ k, E'.ib m k = E.ib m k
  lo : E'.lo = E.lo
  zn : ∀ m c w, m < S.nx → S'.st.ap m = some (.zn c w) → ∃ c', S.st.ap m = some (.zn c' w) ∧ (c = true → c' = true) ∧ (∀ k, E'.ib m k = E.ib m k) ∧ ∀ b, Bz E m b → Le c (h.hp.ap b) (h'.hp.ap b)
section
variable{S S' S'':SS}{h h' h'':St}{E E' E'':En}
theorem Gr.refl:Gr S h E S h E:=⟨rfl,rfl,rfl,rfl,rfl,rfl,rfl,rfl,ar _,ar _,λ_ h=>h,λ_ h=> .inl h,λ_ _ _=>rfl,λ_ h=> .inl h,λ_ _=>rfl,λ_ _ _=>rfl,λ_ _ h=>h,λ_ _ a _ h=>⟨a,h,rfl⟩,λ_ _ e _ b d=>⟨e,b,d⟩,λ_ t _ _ h f=>⟨t,h,f⟩,λ_ _ _ a _ _ h=>⟨a,h,λ_ l h=>⟨l,h,rfl⟩,λ_=>rfl⟩,λ_ _ _ _=>rfl,rfl,λ_ c _ _ h=>⟨c,h,id,λ_=>rfl,λ_ _=>fK c _⟩⟩
theorem Gr.trans (a : Gr S h E S' h' E') (b : Gr S' h' E' S'' h'' E'') : Gr S h E S'' h'' E'' where
  nt := b.nt.trans a.nt
  lk := b.lk.trans a.lk
  df := b.df.trans a.df
  LP := b.LP.trans a.LP
  Ha := b.Ha.trans a.Ha
  base := b.base.trans a.base
  wr := b.wr.trans a.wr
  kp := b.kp.trans a.kp
  nx := aU a.nx b.nx
  wV := aU a.wV b.wV
  z := fun x hx => b.z x (a.z x hx)
  z' := fun x hx => by
    rcases b.z' x hx with h1 | h1 | h1
    · exact a.z' x h1
    · rcases a.ow x h1 with h2 | h2
      · exact .inr (.inl h2)
      · exact .inr (.inr h2)
    · exact .inr (.inr (aU a.nx h1))
  DC := fun x hx ho => by
    rw [b.DC x (aQ hx a.nx) (fun h1 => ?_), a.DC x hx ho]
    rcases a.ow x h1 with h2 | h2
    · exact ho h2
    · omega
  ow := fun x hx => by
    rcases b.ow x hx with h1 | h1
    · exact a.ow x h1
    · exact .inr (aU a.nx h1)
  mb := fun m hm => by rw [b.mb m (aQ hm a.wV), a.mb m hm]
  uL := fun m hm hc => by
    have : S'.jQ m = false := by unfold SS.jQ at *; rw [a.base, a.wr]; exact hc
    rw [b.uL m (aQ hm a.wV) this, a.uL m hm hc]
  IE := fun m hm hd => b.IE m (aQ hm a.wV) (a.IE m hm hd)
  row := fun m e xs hm hx => by
    obtain ⟨xs', g1, g2⟩ := b.row m e xs (aQ hm a.wV) hx
    obtain ⟨xs2, g3, g4⟩ := a.row m e xs' hm g1
    exact ⟨xs2, g3, g4.trans g2⟩
  O3 := fun x m e hx h1 h2 => by
    obtain ⟨e1, k1, k2⟩ := b.O3 x m e (by rw [a.lk]; exact hx) h1 h2
    exact a.O3 x m e1 hx k1 k2
  Ay := fun m t k hm hx hk => by
    obtain ⟨t1, q1, q2⟩ := b.Ay m t k (aQ hm a.wV) hx hk
    exact a.Ay m t1 k hm q1 q2
  BA := fun m g e xs hm hg hx => by
    obtain ⟨xs1, q1, q2, q3⟩ := b.BA m g e xs (aQ hm a.wV) (aQ hg a.wV) hx
    obtain ⟨xs2, q4, q5, q6⟩ := a.BA m g e xs1 hm hg q1
    refine ⟨xs2, q4, fun k l hl => ?_, fun k => (q3 k).trans (q6 k)⟩
    obtain ⟨l1, w1, w2⟩ := q5 k l hl
    obtain ⟨l2, w3, w4⟩ := q2 k l1 w1
    exact ⟨l2, w3, w4.trans w2⟩
  ci := fun m hm hc k => by
    have : S'.jQ m = false := by unfold SS.jQ at *; rw [a.base, a.wr]; exact hc
    rw [b.ci m (aQ hm a.wV) this, a.ci m hm hc]
  lo := b.lo.trans a.lo
  zn := fun m c w hm hx => by
    obtain ⟨c1, g1, g2, g3, g4⟩ := b.zn m c w (aQ hm a.wV) hx
    obtain ⟨c2, k1, k2, k3, k4⟩ := a.zn m c1 w hm g1
    exact ⟨c2, k1, fun h => k2 (g2 h), fun k => (g3 k).trans (k3 k), fun x hx => ((k4 x hx).tT g2).trans (g4 x ((zL k3 x).2 hx))⟩
theorem Gr.zh(g:Gr S h E S' h' E')(M:da S h E){b:Nat}(a:E.Z b):h'.hp.ap b=h.hp.ap b:=g.DC b (M.z b a) λ⟨m,e,c,d⟩=>(M.own m e b c d).1 a
theorem Gr.fm (g : Gr S h E S' h' E') (M : da S h E) (M' : da S' h' E') : Fm E.nx E E' where
  lo := g.lo
  zn := fun m c w hm hx => by
    rw [M'.st] at hx; rw [M.st, M'.hp, M.hp]
    exact g.zn m c w (by rw [← M.nx]; exact hm) hx
  z := g.z
  h := fun b hb => by rw [M'.hp, M.hp]; exact g.zh M hb
  nx := by rw [M.nx, M'.nx]; exact g.wV
  mb := fun m hm => g.mb m (by rw [← M.nx]; exact hm)
  row := fun m e xs hm hx => by
    rw [M'.st] at hx; rw [M.st]
    exact g.row m e xs (by rw [← M.nx]; exact hm) hx
  Ay := fun m t k hm hx hk => by
    rw [M'.st] at hx; rw [M.st]
    exact g.Ay m t k (by rw [← M.nx]; exact hm) hx hk
  BA := fun m g' e xs hm hg hx => by
    rw [M'.st] at hx; rw [M.st]
    exact g.BA m g' e xs (by rw [← M.nx]; exact hm) (by rw [← M.nx]; exact hg) hx
theorem V.gr(g:Gr S h E S' h' E')(M:da S h E)(a:da S' h' E'){s:SV}{v:HV}(b:V E s v):V E' s v:=b.fm (g.fm M a) (.inl rfl)
theorem dN.gr (g : Gr S h E S' h' E') (M : da S h E) (M' : da S' h' E') (e : dN S h E) (h1 : S'.dE = S.dE) (h2 : h'.dE = h.dE) : dN S' h' E' where
  nt := by rw [g.LP, g.nt]; exact e.nt
  v := fun t => by
    have e1 : S'.tmp t = S.tmp t := by unfold SS.tmp; rw [h1]
    have e2 : h'.tmp t = h.tmp t := by unfold St.tmp; rw [h2, g.df]
    rw [e1, e2]
    exact (e.v t).gr g M M'
def GK(E:En)(S:SS)(m:Nat):En:=⟨E.hp,λb=>E.Z b\/(S.st.ap m).isSome=true/\Bk E m b,E.mb,E.ib,S.st.nU m,E.nx,E.lo⟩
theorem vu{hp:Tr Hm.Obj}{b:Nat}{y:gY}(h:hp.ap b=some (.cn y))(k:y.own=true):ra hp b:=⟨_,h,λz e=>by cases e;exact k⟩
theorem gB.own{o:Option Nat}{e:U}{xs:List (D e)}{b:Nat}(h:gB E o e xs)(d:o=some b):ra E.hp b:=by subst d;obtain⟨y,a,c,_⟩:=h;exact vu a c
theorem uC{m b:Nat}{e:iK}(h:oj E m e)(x:e.rn=none->∀k,E.ib m k=none)(a:Bk E m b)(w0:E.lo<=b):ra E.hp b:=by
 cases e with
  |box z r0=>
  obtain⟨p,y,t0,d,n,A,_⟩:=h;rcases a with a|⟨i,a⟩;.rw[d]at a;cases a;exact vu n A
  .rw[x rfl i]at a;cases a
  |row e o=>
  rcases a with a|⟨i,a⟩;.exact h.2.own a
  .rw[x rfl i]at a;cases a
  |rows g e o=>
  obtain⟨s0,d,⟨v0,q0,u0⟩|⟨p,y,r,s,t,C,D,u,v,z0,y0⟩⟩:=h
  .
   rcases a with a|⟨i,a⟩;.rw[v0]at a;cases a
   .rw[u0 i]at a;cases a
  .
   rcases a with a|⟨i,a⟩;.rw[r]at a;cases a;exact vu s t
   .cases f:o[i]? with
    |none=>rw[v i (by simpa using f)]at a;cases a
    |some l=>exact(u i l f).2.2.own a
  |mJ e o q=>
  obtain⟨d,j,n,A,x0,p,y,r,s,t,C,D,u,v,z0,y0⟩:=h;rcases a with a|⟨i,a⟩;.rw[r]at a;cases a;exact vu s t
  .
   cases f:o[i]? with
    |none=>rw[v i (by simpa using f)]at a;cases a
    |some l=>
    by_cases B:i=j;.subst B;rw[x0]at a;cases a
    .exact(u i l B f).2.2.own a
  |map p0=>
  obtain⟨p,d,n⟩:=h;rcases a with a|⟨i,a⟩;.rw[d]at a;cases a;exact⟨_,n,λy e=>by cases e⟩
  .rw[x rfl i]at a;cases a
  |zn c w=>
  rcases a with a|a;.rw[h.1]at a;cases a
  .exact h.2 b a (.inr w0)
theorem yU(M:da S h E){m:Nat}(A:S.jQ m=true):da (S.mI m) h (GK E S m)/\Gr S h E (S.mI m) h (GK E S m):=by
 have v:∀j,(S.mI m).st.ap j=if j=m then none else S.st.ap j:=λj=>Tr.gU _ _ _
 have o:∀j e,(S.mI m).st.ap j=some e->j≠m/\S.st.ap j=some e:=by
  intro j e a;rw[v]at a;split at a;.cases a
  .exact⟨by assumption,a⟩
 have f:Fm E.nx E (GK E S m):=⟨rfl,λj c w _ p=>⟨c,by have:(S.st.nU m).ap j=some (.zn c w):=p;rw[M.st];exact(o j _ this).2,id,λ_=>rfl,λ_ _=>fK c _⟩,λb d=> .inl d,λ_ _=>rfl,ar _,λ_ _=>rfl,λj e s _ p=>⟨s,by have:(S.st.nU m).ap j=some (.row e s):=p;rw[M.st];exact(o j _ this).2,rfl⟩,λj t k _ p x=>⟨t,by have:(S.st.nU m).ap j=some t:=p;rw[M.st];exact(o j _ this).2,x⟩,λj g e s _ _ p=>⟨s,by have:(S.st.nU m).ap j=some (.rows g e s):=p;rw[M.st];exact(o j _ this).2,λ_ l h=>⟨l,h,rfl⟩,λ_=>rfl⟩⟩;refine⟨⟨M.hp,rfl,M.nx,λj e a=>M.lt j e (o j e a).2,λj e a=>(M.gm j e (o j e a).2).fm f rfl (λ_=>rfl) λ_ _=>rfl,λi j e q b C a n r=>M.inj i j e q b (o i e C).2 (o j q a).2 n r,λj e b a d=>?_,λb d=>?_,M.fr,λb d=>⟨(M.lk b d).1,λj e a D=>(M.lk b d).2 j e (o j e a).2 D⟩,M.rq,λj e a=>M.py j e (o j e a).2,λb d z=>?_⟩,?_⟩
 .
  obtain⟨z0,a⟩:=o j e a;refine⟨?_,(M.own j e b a d).2⟩;rintro(n|⟨n,r⟩);.exact(M.own j e b a d).1 n
  .obtain⟨q,u⟩:=el.1 n;exact z0 (M.inj j m e q b a u d r)
 .
  rcases d with n|⟨n,r⟩;.exact M.z b n
  .obtain⟨q,u⟩:=el.1 n;exact(M.own m q b u r).2
 .
  rcases d with n|⟨n,r⟩;.exact M.zo b n z
  .obtain⟨q,u⟩:=el.1 n;rw[<-M.hp];exact uC (M.gm m q u) (M.py m q u) r z
 .
  refine⟨rfl,rfl,rfl,rfl,rfl,rfl,rfl,rfl,ar _,ar _,λb d=> .inl d,λb d=>?_,λ_ _ _=>rfl,λb d=>?_,λ_ _=>rfl,λj _ y=>?_,λj _ B=>?_,λj e s _ p=>⟨s,(o j _ p).2,rfl⟩,λb j e _ a d=>⟨e,(o j e a).2,d⟩,λj t k _ p x=>⟨t,(o j _ p).2,x⟩,λj g e s _ _ p=>⟨s,(o j _ p).2,λ_ l h=>⟨l,h,rfl⟩,λ_=>rfl⟩,λ_ _ _ _=>rfl,rfl,λj c w _ p=>⟨c,(o j _ p).2,id,λ_=>rfl,λ_ _=>fK c _⟩⟩
  .
   rcases d with n|⟨n,r⟩;.exact .inl n
   .obtain⟨q,u⟩:=el.1 n;exact .inr (.inl ⟨m,q,u,r⟩)
  .obtain⟨j,e,a,d⟩:=d;exact .inl ⟨j,e,(o j e a).2,d⟩
  .
   rw[v];split;.subst_vars;rw[A]at y;cases y
   .rfl
  .
   rw[v];split;.rfl
   .exact B
theorem ny:∀{L:List Nat}{S c:SS}{E:En},da S h E->S.sW L=some c->∃d,da c h d/\Gr S h E c h d/\c.dE=S.dE/\(d.mb=E.mb/\d.ib=E.ib)/\(∀m e b,bw m L=true->S.st.ap m=some e->Bk E m b->d.Z b)/\(∀m,bw m L=false->c.st.ap m=S.st.ap m)/\c.nx=S.nx/\∀m,bw m L=true->c.st.ap m=none
 |[],S,c,E,i,f=>by cases f;exact⟨E,i,Gr.refl,rfl,⟨rfl,rfl⟩,λ_ _ _ a _ _=>(by cases a),λ_ _=>rfl,rfl,λ_ a=>by cases a⟩
 |m::L,S,c,E,i,f=>by
  unfold SS.sW at f;rw[aH]at f;split at f
  .
   rename_i y;obtain⟨q,s⟩:=yU i y;obtain⟨d,r,l,t,u,v,n,w,x⟩:=ny q f;refine⟨d,r,s.trans l,t,u,λj e b a p o=>?_,λj a=>?_,w,λj a=>?_⟩
   .
    by_cases g:j=m;.subst g;exact l.z b (.inr ⟨by rw[p];rfl,o⟩)
    .
     have a:bw j L=true:=by
      unfold bw at a
      have:Nat.beq m j=false:=by cases z:Nat.beq m j with
       |false=>rfl
       |true=>exact absurd (au z).symm g
      rw[this]at a;simpa using a
     refine v j e b a ?_ o;show(S.st.nU m).ap j=some e;rw[Tr.gU,aG g];exact p
   .unfold bw at a;simp only[Bool.or_eq_false_iff]at a;rw[n j a.2];show(S.st.nU m).ap j=_;rw[Tr.gU,aG];rintro rfl;have:=a.1;rw[show Nat.beq j j=true by simp]at this;cases this
   .
    by_cases k:bw j L=true;.exact x j k
    .
     have g:j=m:=by
      unfold bw at a;simp only[ff]at a;rcases a with a|a;.exact(au a).symm
      .exact absurd a k
     rw[n j (by simpa using k)];show(S.st.nU m).ap j=none;rw[Tr.gU,aE g]
  .cases f
end
theorem fq{b:Nat}:∀{l:List Nat},bw b l=true↔b∈l
 |[]=>by unfold bw;simp
 |a::l=>by
  unfold bw;rw[ff,fq,co];constructor
  ·
   rintro(h|h);·exact .inl (au h).symm
   ·exact .inr h
  ·
   rintro(h|h);·exact .inl (by subst h;simp)
   ·exact .inr h
theorem eo{u v:U}{x:D u}{y:D v}(h:jC u v x=some y):∃e:u=v,e▸x=y:=by
 unfold jC at h;split at h;.rename_i e _;cases h;exact⟨e,rfl⟩
 .cases h
theorem ka:dI []=[]:=by rw[dI]
theorem eW(i:SV)(a:List SV):dI (i::a)=fb i++dI a:=by rw[dI]
theorem pW:∀(a b:List SV),dI (a++b)=dI a++dI b
 |[],b=>by rw[ka];rfl
 |i::a,b=>by show dI (i::(a++b))=_;rw[eW,eW,pW a b,cA]
theorem uc:∀{u:U}{x:D u},fb (mk u x)=[]
 | .int _,_=>by unfold mk fb;rfl
 | .bool,_=>by unfold mk fb;rfl
 | .dH,_=>by unfold mk fb;rfl
 | .bc _,_=>by unfold mk fb;rfl
 | .un,_=>by unfold mk fb;rfl
 | .nil,_=>by unfold mk fb;rfl
 | .ah _ _,_=>by unfold mk fb;rfl
 | .fF _ _,_=>by unfold mk fb;rfl
theorem zX{e:U}{xs:List (D e)}:∀{n i:Nat},dI (elems e xs i n)=[]
 |0,_=>by unfold elems dI;rfl
 |n+1,i=>by unfold elems dI;rw[uc,zX];rfl
theorem yD{b:Bool}{m a:Nat}(h:a∈bif b then []else [m]):a=m:=by
 cases b;.have h:a∈[m]:=h;simpa using h
 .cases h
theorem yC{m a:Nat}:∀{u:U}{x:D u},a∈fb (my m u x)->a=m
 | .int _,_,h=>by unfold my fb at h;cases h
 | .bool,_,h=>by unfold my fb at h;cases h
 | .dH,_,h=>by unfold my fb at h;cases h
 | .bc _,_,h=>by unfold my fb at h;exact yD h
 | .un,_,h=>by unfold my fb at h;cases h
 | .nil,_,h=>by unfold my fb at h;cases h
 | .ah _ _,_,h=>by unfold my fb at h;exact yD h
 | .fF _ _,_,h=>by unfold my fb at h;exact yD h
theorem wD{m:Nat}:∀{u:U}{x:D u},u.fO=true->fb (my m u x)=[]
 | .int _,_,_=>by unfold my fb;rfl
 | .bool,_,_=>by unfold my fb;rfl
 | .dH,_,_=>by unfold my fb;rfl
 | .bc _,_,h=>by cases h
 | .un,_,_=>by unfold my fb;rfl
 | .nil,_,_=>by unfold my fb;rfl
 | .ah _ _,_,h=>by unfold my fb;rw[h];rfl
 | .fF _ _,_,h=>by unfold my fb;rw[h];rfl
theorem xo{m:Nat}{e:U}{xs:List (D e)}(h:e.fO=true):∀{n i:Nat},dI (nS m e xs i n)=[]
 |0,_=>by unfold nS dI;rfl
 |n+1,i=>by unfold nS dI;rw[wD h,xo h];rfl
theorem xp{m a:Nat}{e:U}{xs:List (D e)}:∀{n i:Nat},a∈dI (nS m e xs i n)->a=m
 |0,_,h=>by unfold nS dI at h;cases h
 |n+1,i,h=>by
  unfold nS at h;rw[eW]at h;rcases bD.1 h with h|h;.exact yC h
  .exact xp h
theorem zV{s:SV}{ps:List SV}(h:s.split=some ps)(m:Nat)(c:m∈dI ps):m∈fb s:=by
 unfold SV.split at h;split at h;.cases h;unfold fb;exact c
 .cases h;unfold dI dI at c;rw[uc,uc]at c;unfold dI at c;cases c
 .cases h;unfold dI at c;cases c
 .cases h;rw[zX]at c;cases c
 .rename_i g a b x;cases h;rw[eW,eW,ka,bi]at c;have f:m=g:=(bD.1 c).elim yC yC;subst f;unfold fb;cases d:(U.ah a b).fO with
  |false=>simp
  |true=>have d:(a.fO&&b.fO)=true:=d;rw[ae]at d;rw[wD d.1,wD d.2]at c;cases c
 .cases h;unfold dI at c;cases c
 .rename_i g n e i;cases h;have f:=xp c;subst f;unfold fb;cases d:(U.fF n e).fO with
  |false=>simp
  |true=>have d:e.fO=true:=d;rw[xo d]at c;cases c
 .cases h
theorem vp:∀{f:Nat}{d a b:List SV}{o:Nat},qX f d o=some (a,b)->∀m,m∈dI a\/m∈dI b->m∈dI d:=by
 intro f
 induction f with
  |zero=>
  intro d a b o h m c;unfold qX at h;rw[aH]at h;split at h;.cases h;rw[ka]at c;exact c.elim (λh=>by cases h) id
  .cases h
  |succ f g=>
  intro d a b o h m c;unfold qX at h;rw[aH]at h;split at h;.cases h;rw[ka]at c;exact c.elim (λh=>by cases h) id
  .
   split at h;.cases h
   .
    rename_i i d;rw[aH]at h;split at h
    .
     split at h
     .
      rename_i l n j;cases h;rw[eW]at c⊢;have:=g j m;simp only[bD]at c⊢;rcases c with(c|c)|c;.exact .inl c
      .exact .inr (this (.inl c))
      .exact .inr (this (.inr c))
     .cases h
    .
     split at h
     .
      rename_i p k;have:=g h m c;rw[pW]at this;rw[eW];rcases bD.1 this with e|e;.exact dX _ (zV k m e)
      .exact cR _ e
     .cases h
def qv(E:En)(Q:Nat->Prop):Nat->List SV->Prop|0,a=>dI a=[]|k+1,a=>∀m,m∈dI a->(∀e b,E.st.ap m=some e->Bk E m b->Q b)/\∀z c,E.st.ap m=some (.box z c)->qv E Q k c
section
variable{E:En}{Q:Nat->Prop}
theorem qv.sub{b a:List SV}(h:∀m,m∈dI a->m∈dI b):∀{k:Nat},qv E Q k b->qv E Q k a
 |0,c=>by unfold qv at*;cases e:dI a with
  |nil=>rfl
  |cons m l=>have:=h m (by rw[e];simp);rw[c]at this;cases this
 |k+1,c=>by unfold qv at*;exactλm d=>c m (h m d)
theorem BD{s:List SV->Option (List Nat)}:∀{M L:List Nat},Gg E.st s M=some L->∀m,m∈M->m∈L/\∀z k,E.st.ap m=some (.box z k)->∃q,s k=some q/\∀x,x∈q->x∈L
 |[],_,_,m,b=>by cases b
 |a::M,L,h,m,b=>by
  unfold Gg at h;split at h
  .
   rename_i r u;have p:=λb=>BD u m b;split at h
   .
    rename_i z k j;split at h
    .
     rename_i q t;cases h;rcases co.1 b with rfl|b;.exact⟨by simp,λe d c=>⟨q,by rw[j]at c;cases c;exact t,λx f=>by simp[f]⟩⟩
     .obtain⟨g,i⟩:=p b;exact⟨by simp[g],λe d c=>by obtain⟨o,l,n⟩:=i e d c;exact⟨o,l,λx f=>by simp[n x f]⟩⟩
    .cases h
   .
    rename_i j;cases h;rcases co.1 b with rfl|b;.exact⟨by simp,λe d c=>absurd c (j e d)⟩
    .obtain⟨g,i⟩:=p b;exact⟨by simp[g],λe d c=>by obtain⟨o,l,n⟩:=i e d c;exact⟨o,l,λx f=>by simp[n x f]⟩⟩
  .cases h
theorem kR:∀{k:Nat}{a:List SV}{L:List Nat},yE E.st k a=some L->(∀m e b,m∈L->E.st.ap m=some e->Bk E m b->Q b)->qv E Q k a
 |0,a,L,h,_=>by
  unfold yE at h;unfold qv;split at h;.assumption
  .cases h
 |k+1,a,L,h,c=>by unfold yE at h;unfold qv;intro m o;obtain⟨i,j⟩:=BD h m o;refine⟨λe b n l=>c m e b i n l,λz s r=>?_⟩;obtain⟨q,f,g⟩:=j z s r;exact kR f λd e b p=>c d e b (g d p)
theorem uG(c:∀m e b,E.st.ap m=some e->Bk E m b->Q b){a:List SV}{L:List Nat}{k:Nat}(h:yE E.st k a=some L):qv E Q k a:=kR h λm e b _=>c m e b
theorem AN{o:Option Nat}{e:U}{l:List (D e)}{w:HV}(k:∀c,o=some c->Q c)(n:∀b,E.Z b->Q b)(p:l.length<=140737488355328)(a:ge o l.length w)(k4:gB E o e l):LR E.hp Q e.size (dw E.hp Q e) w l:=by
 unfold ge at a;unfold gB at k4
 cases o with
  |none=>
  refine .inl ⟨k4,?_⟩;rcases a.2 with h|h;.exact .inl h
  .exact .inr (.inl h)
  |some c=>obtain⟨y,f,s,g,t,j⟩:=k4;refine .inr ⟨c,0,y,⟨a,g⟩,k c rfl,f,by omega,p,λi x m=>?_⟩;obtain⟨d,q,r⟩:=j i x m;exact⟨d,by rw[br];exact q,r.mono n λ_ _=>rfl⟩
theorem BE{o:Option Nat}{e:U}{xs:List (D e)}{k:Nat}(c:k<=xs.length)(h:gB E o e xs):gB E o e (eX xs 0 (Int.ofNat k)):=by
 have m:eX xs 0 (Int.ofNat k)=xs.take k:=by show(xs.drop 0).take (k-0)=_;simp
 rw[m];unfold gB at*
 cases o with
  |none=>rw[h];simp
  |some b=>
  obtain⟨y,d,f,g,j,l⟩:=h;refine⟨y,d,f,g,?_,λi x a=>?_⟩;.rw[aY,gZ c];exact aU (cq _ c) j
  .
   rw[fa]at a;split at a;.exact l i x a
   .cases a
theorem oe.rd{E:En}{Q:Nat->Prop}{m:Nat}{w:Bool}(i:E.st.ap m=some (.zn true w))(j:∀b,Bz E m b->Q b):∀{u:U}{cs:List HV}{x:D u},oe E m u cs x->dw E.hp Q u cs x
 | .int _,_,_,h=>h
 | .bool,_,_,h=>h
 | .dH,_,_,h=>h
 | .un,_,_,h=>h
 | .nil,_,_,h=>h
 | .ah a b,_,_,⟨c,d,e,f,g⟩=>⟨c,d,e,f.rd i j,g.rd i j⟩
 | .fF n e,_,_,⟨f,g⟩=>⟨f,ky (λ_ _ h=>h.rd i j) g⟩
 | .bc e,_,_,⟨_,v,f,g,l⟩=>by obtain⟨p,k,o⟩:=l true w i;have k:p=_:=k;subst f k;exact o.mono j λ_ _=>rfl
theorem oe.fO{E:En}{Q:Nat->Prop}{m:Nat}:∀{u:U}{cs:List HV}{x:D u},u.fO=true->oe E m u cs x->dw E.hp Q u cs x
 | .int _,_,_,_,h=>h
 | .bool,_,_,_,h=>h
 | .dH,_,_,_,h=>h
 | .un,_,_,_,h=>h
 | .nil,_,_,_,h=>h
 | .ah a b,_,_,f,⟨c,d,e,g,i⟩=>by have f:(a.fO&&b.fO)=true:=f;rw[ae]at f;exact⟨c,d,e,g.fO f.1,i.fO f.2⟩
 | .fF n e,_,_,f,⟨g,i⟩=>⟨g,ky (λ_ _ h=>h.fO f) i⟩
 | .bc e,_,_,f,_=>by cases f
theorem Vg(x0:∀b,E.Z b->Q b)(v0:∀m e,E.st.ap m=some e->oj E m e){u:U}{s:SV}{x:D u}{c:List HV}(h:s.as E.st u=some x)(a:CR E s c)(y0:∀m,m∈fb s->∀e b,E.st.ap m=some e->Bk E m b->Q b):dw E.hp Q u c x:=by
 unfold SV.as at h;split at h;.obtain⟨rfl,rfl⟩:=eo h;unfold CR at a;exact a.mono x0 λ_ _=>rfl
 .obtain⟨rfl,rfl⟩:=eo h;unfold CR at a;unfold dw;exact a
 .obtain⟨rfl,rfl⟩:=eo h;unfold CR at a;unfold dw;exact a
 .
  split at h;.cases h;unfold CR at a;unfold dw;exact⟨_,a,.inl ⟨rfl,.inl rfl⟩⟩
  .cases h;unfold CR at a;unfold dw;exact a
  .cases h
 .
  split at h
  .
   cases h;unfold CR at a;unfold dw;rcases a with a|a;.exact⟨_,a,.inl ⟨rfl,.inl rfl⟩⟩
   .exact⟨_,a,.inl ⟨rfl,.inr (.inl rfl)⟩⟩
  .cases h
 .
  rename_i m;split at h
  .
   rename_i e o n;obtain⟨p,d⟩:=eo h;subst p;have d:o=x:=d;subst d;unfold CR at a;obtain⟨p0,v,rfl,o0,f⟩:=a;have f:=f.1 e o n;obtain⟨C,z⟩:=v0 m _ n;unfold dw;refine⟨v,rfl,?_⟩;unfold gB at z;unfold ge at f
   cases z0:E.mb m with
    |none=>
    rw[z0]at f z;refine .inl ⟨z,?_⟩;rcases f.2 with h|h;.exact .inl h
    .exact .inr (.inl h)
    |some b=>rw[z0]at f z;obtain⟨y,t,B,t0,s0,r0⟩:=z;refine .inr ⟨b,0,y,⟨f,t0⟩,y0 m (by unfold fb;simp) _ b n (.inl z0),t,by omega,C,λi x l0=>?_⟩;obtain⟨g0,w0,k0⟩:=r0 i x l0;exact⟨g0,by rw[br];exact w0,k0.mono x0 λ_ _=>rfl⟩
  .
   rename_i g e o n;obtain⟨p,d⟩:=eo h;subst p;have d:o=x:=d;subst d;unfold CR at a;obtain⟨p0,v,rfl,o0,f⟩:=a;have f:=f.2 _ _ n rfl;obtain⟨_,C,⟨t,B,_⟩|⟨b,y,t,B,t0,s0,r0,q0,_⟩⟩:=v0 m _ n;.unfold dw;rw[t]at f;exact⟨v,rfl,.inl ⟨B,f.2.imp_right .inl⟩⟩
   unfold dw;refine⟨v,rfl,?_⟩;unfold ge at f;rw[t]at f;have i0:=λc A=>y0 m (by unfold fb;simp) _ c n A;refine .inr ⟨b,0,y,⟨f,s0⟩,i0 b (.inl t),B,?_,C,λi l l0=>?_⟩;.rw[br];show o.length*1<=y.n;omega
   .
    obtain⟨w0,⟨w,k0,e0⟩,j0⟩:=q0 i l l0;refine⟨[w],?_,?_⟩;.rw[br];show cu y (i*1) 1=_;rw[hQ];exact k0
    .unfold dw;exact⟨w,rfl,AN (λc A=>i0 c (.inr ⟨i,A⟩)) x0 w0 e0 j0⟩
  .cases h
 .
  rename_i m q;split at h
  .
   rename_i e o n;obtain⟨p,d⟩:=eo h;subst p;have d:eX o 0 q=x:=d;subst d;unfold CR at a;obtain⟨p0,v,rfl,o0,f⟩:=a;obtain⟨k,rfl,u0,f⟩:=f e o n;obtain⟨C,z⟩:=v0 m _ n;unfold dw;have r:(eX o 0 (Int.ofNat k)).length=k:=by show((o.drop 0).take (k-0)).length=k;simp;omega
   refine⟨v,rfl,AN (o:=E.mb m) (λc A=>y0 m (by unfold fb;simp) _ c n (.inl A)) x0 (by rw[r];omega) (by rw[r];exact f) ?_⟩;exact BE u0 z
  .cases h
 .
  rename_i m g j;split at h
  .
   rename_i d0 e o n;rw[aH]at h;split at h
   .
    rename_i m0;have m0:=au m0;subst m0;split at h;.rename_i l r;obtain⟨p,d⟩:=eo h;subst p;have d:l=x:=d;subst d;unfold CR at a;obtain⟨p0,c0,v,rfl,o0,f⟩:=a;obtain⟨k,b0,rfl,u0,f⟩:=f e o n;have r:o[k]?=some l:=r;rw[r]at u0;cases u0;obtain⟨_,C,f0⟩:=v0 m _ n;obtain⟨b,y,t,B,t0,s0,r0,q0,_⟩:=f0.p (aj.1 r).1;obtain⟨w0,_,j0⟩:=q0 k l r;unfold dw;exact⟨v,rfl,AN (λc A=>y0 m (by unfold fb;simp) _ c n (.inr ⟨k,A⟩)) x0 w0 f j0⟩
    .cases h
   .cases h
  .cases h
 .
  rename_i m v h0;rw[aH]at h;split at h;.rename_i n0;obtain⟨p,d⟩:=eo h;subst p;have d:h0=x:=d;subst d;unfold CR at a;exact a.2.fO n0
  rename_i n0;split at h;.rename_i w n;obtain⟨p,d⟩:=eo h;subst p;have d:h0=x:=d;subst d;unfold CR at a;exact a.2.rd n λb z0=>y0 m (by unfold fb;rw[show v.fO=false by simpa using n0];simp) _ b n (.inr z0)
  .cases h
 .cases h
theorem lf{α:Type}{R:List HV->α->Prop}{z:Nat}(f:∀c x,R c x->c.length=z):∀{xs:List α}{cs:List HV}{i:Nat}{x:α},mB R cs xs->xs[i]?=some x->∃c1 c2 c3,cs=c1++(c2++c3)/\c1.length=i*z/\c2.length=z/\R c2 x
 |[],_,_,_,_,h=>by simp at h
 |a::xs,cs,0,x,⟨c,d,e,b,g⟩,h=>by simp only[ke,eP]at h;subst h;exact⟨[],c,d,e,by simp,f _ _ b,b⟩
 |a::xs,cs,i+1,x,⟨c,d,e,b,g⟩,h=>by simp only[dP]at h;obtain⟨c1,c2,c3,j,k,l,m⟩:=lf f g h;refine⟨c++c1,c2,c3,by rw[e,j,cA],?_,l,m⟩;rw[az,f _ _ b,k,iG];omega
theorem BH{α:Type}{g:List SV->Option (α×List SV)}{R:List HV->α->Prop}{A:List Nat}(hg:∀a x r cs,g a=some (x,r)->dy E a cs->(∀m,m∈dI a->m∈A)->∃c d,cs=c++d/\R c x/\dy E r d/\∀m,m∈dI r->m∈dI a):∀{n:Nat}{a r:List SV}{xs:List α}{cs:List HV},Uj g n a=some (xs,r)->dy E a cs->(∀m,m∈dI a->m∈A)->xs.length=n/\∃c d,cs=c++d/\mB R c xs/\dy E r d/\∀m,m∈dI r->m∈dI a
 |0,a,r,xs,cs,h,f,e=>by cases h;exact⟨rfl,[],cs,rfl,rfl,f,λm b=>b⟩
 |n+1,a,r,xs,cs,h,f,e=>by
  have h:(match g a with
   |some (x,k)=>match Uj g n k with|some (l,o)=>some (x::l,o)|none=>none
   |none=>none)=some (xs,r):=h
  split at h
  .
   rename_i x k t;split at h;.rename_i l o u;cases h;obtain⟨c,d,rfl,q,s,j⟩:=hg _ _ _ _ t f e;obtain⟨v,i,p,rfl,w,y,z⟩:=BH hg u s λm b=>e m (j m b);exact⟨by simp[v],c++i,p,by simp,⟨c,i,rfl,q,w⟩,y,λm b=>j m (z m b)⟩
   .cases h
  .cases h
theorem rZ(g9:∀b,E.Z b->Q b)(j0:∀m e,E.st.ap m=some e->oj E m e):∀{f:Nat}{u:U}{p:List SV}{x:D u}{r:List SV}{cs:List HV}{k:Nat},tJ E.st f u p=some (x,r)->dy E p cs->qv E Q k p->∃c d,cs=c++d/\dw E.hp Q u c x/\dy E r d/\∀m,m∈dI r->m∈dI p:=by
 intro f
 induction f with
  |zero=>intro u p x r cs k h;cases h
  |succ f w0=>
  intro u p x r cs k h w s;unfold tJ at h
  have i9:∀(i:SV)(v A:List SV),p=i::v->i.split=some A->tJ E.st f u (A++v)=some (x,r)->∃c d,cs=c++d/\dw E.hp Q u c x/\dy E r d/\∀m,m∈dI r->m∈dI p:=by
   intro i v A t9 C j9;subst t9;unfold dy at w;obtain⟨c,d,rfl,q,t⟩:=w
   have f0:∀m,m∈dI (A++v)->m∈dI (i::v):=λm j=>by
    rw[pW]at j;rw[eW];rcases bD.1 j with j|j;.exact dX _ (zV C m j)
    .exact cR _ j
   obtain⟨v0,u0,z0,y0,B,t0⟩:=w0 j9 (o7.2 ⟨c,d,rfl,wA C q,t⟩) (s.sub λm j=>f0 m j);exact⟨v0,u0,z0,y0,B,λm j=>f0 m (t0 m j)⟩
  split at h
  .
   rename_i y p0;cases h;split at p0
   .
    rename_i i v;unfold dy at w;obtain⟨c,d,rfl,q,t⟩:=w;have g0:=eW i v;refine⟨c,d,rfl,Vg g9 j0 p0 q λm j e b o9 r9=>?_,t,λm j=>by rw[g0];exact cR _ j⟩;have j:m∈dI (i::v):=by rw[g0];exact dX _ j
    cases k with
     |zero=>unfold qv at s;rw[s]at j;cases j
     |succ k=>unfold qv at s;exact(s m j).1 e b o9 r9
   .cases p0
  .
   have x0:∀(g:Option (D u×List SV)),g=(match(generalizing:=false)p with
    |i::r=>match i.split with|some A=>tJ E.st f u (A++r)|none=>none
    |[]=>none)->g=some (x,r)->∃c d,cs=c++d/\dw E.hp Q u c x/\dy E r d/\∀m,m∈dI r->m∈dI p:=by intro g n9 h;rw[n9]at h;cases p with
    |nil=>cases h
    |cons i v=>simp only at h;cases C:i.split with
    |none=>rw[C]at h;cases h
    |some A=>rw[C]at h;exact i9 i v A rfl C h
   cases u with
    |un=>cases h;exact⟨[],cs,rfl,by unfold dw;rfl,w,λm j=>j⟩
    |ah a b=>
    simp only at h;split at h
    .
     rename_i x1 r1 q;split at h;.rename_i x2 r2 t;cases h;obtain⟨c,d,rfl,z0,y0,B⟩:=w0 q w s;obtain⟨v0,u0,rfl,o0,n0,m0⟩:=w0 t y0 (s.sub B);exact⟨c++v0,u0,by simp,by unfold dw;exact⟨c,v0,rfl,z0,o0⟩,n0,λm j=>B m (m0 m j)⟩
     .cases h
    .cases h
    |fF n e=>obtain⟨s9,c,d,z0,y0,B,t0⟩:=BH (A:=dI p) (λe9 x r k0 q t s0=>w0 q t (s.sub s0)) h w λm j=>j;exact⟨c,d,z0,by unfold dw;exact⟨s9,y0⟩,B,t0⟩
    |int _=>exact x0 _ rfl h
    |bool=>exact x0 _ rfl h
    |nil=>exact x0 _ rfl h
    |dH=>exact x0 _ rfl h
    |bc e=>
    cases p with
     |nil=>cases h
     |cons i v=>
     by_cases h0:∃m o n,i= .sq m o n
     .
      obtain⟨m,o,n,rfl⟩:=h0;simp only at h;split at h
      .
       rename_i z d9 j;rw[aH]at h;split at h
       .
        rename_i e0;simp only[ae,bS]at e0;have f9:z=e.size:=au e0.1;split at h
        .
         rename_i a0 d0 i0;split at h
         .
          rename_i l r2 l9;cases h;unfold dy at w;obtain⟨c,d,rfl,q,t⟩:=w;unfold CR at q;obtain⟨q1,b,z9,rfl,q3⟩:=q;obtain⟨b',y,k0,b0,a9,p3,p4,a0,p6⟩:=j0 m _ j;rw[z9]at b0;cases b0;obtain⟨u9,d2,rfl,x9,w2,w3⟩:=pM i0 p6;have q0:m∈dI (SV.sq m o n::r):=by rw[eW];unfold fb;simp
          obtain⟨k,rfl⟩:∃c9,k=c9+1:=by cases k with
           |zero=>unfold qv at s;rw[s]at q0;cases q0
           |succ k=>exact⟨k,rfl⟩
          unfold qv at s;obtain⟨v1,v2⟩:=s m q0;have q9:=v2 z d9 j;have p9:qv E Q k d0:=q9.sub λc0 r0=>vp i0 c0 (.inr r0);obtain⟨t0,t1,t2,t3,y9,t5,t6⟩:=BH (A:=dI d0) (λe9 x r k0 q t s0=>w0 q t (p9.sub s0)) l9 w3 λm j=>j;subst t3;have k9:=mP (z:=e.size) (λ_ _ h=>h.len) y9;have m9:=ie a0;simp only[az,x9,k9]at m9;refine⟨[.sl b o n],d,rfl,?_,t,λc0 r0=>by rw[eW];exact cR _ r0⟩;unfold dw;refine⟨_,rfl,.inr ⟨b,o,y,⟨by rw[t0],by rw[p4,f9]⟩,v1 _ b j (.inl z9),a9,by omega,by omega,λi x h9=>?_⟩⟩;obtain⟨w9,l0,v9,o0,n0,m0,b9⟩:=lf (z:=e.size) (λ_ _ h=>h.len) y9 h9;refine⟨l0,?_,b9⟩;have:=eL (p:=o+i*e.size) (z:=e.size) (c1:=u9++w9) (c2:=l0) (c3:=v9++t2) a0 (by rw[o0];simp) (by rw[az,x9,n0]) m0;rw[br]at this;exact this
         .cases h
        .cases h
       .cases h
      .cases h
     .refine x0 _ ?_ h;cases i<;>first|rfl|exact absurd ⟨_,_,_,rfl⟩ h0
theorem xr(A:∀b,E.Z b->Q b)(p:∀m e,E.st.ap m=some e->oj E m e){u:U}{s:SV}{x:D u}{v:HV}{k:Nat}(h:HR E.st u s=some x)(w:V E s v)(q:qv E Q k [s]):qE E.hp Q u v x:=by
 unfold HR at h;rw[aH]at h;split at h
 .
  rename_i a;have a:s.ag=u.ag:=by simpa using a
  split at h
  .
   rename_i B i;split at h
   .
    rename_i y z;cases h;obtain⟨C,y0,l,n,o⟩:=lR i w;have t:dI B=dI [s]:=by rw[eW,ka,bi];cases s<;>cases i<;>first|(rw[eW,ka,bi];done)|(unfold fb;rfl)
    obtain⟨c,d,rfl,f,g,z0⟩:=rZ A p z l (q.sub λm r=>by rw[<-t];exact r);unfold dy at g;subst g;rw[bi]at*;unfold qE
    cases j:u.ag with
     |true=>exact⟨c,n (a.trans j),f⟩
     |false=>rw[<-o (a.trans j)];exact f
   .cases h
  .cases h
 .cases h
end
def fI(hp:Tr Hm.Obj)(Z:Nat->Prop):(u:U)->List HV->D u->Prop| .un,l,_=>l=[]| .ah a b,l,x=>∃v r,l=v::r/\qE hp Z a v x.1/\fI hp Z b r x.2|_,_,_=>False
theorem qE.mono{hp hp':Tr Hm.Obj}{Z a:Nat->Prop}(d:∀b,Z b->a b)(hh:∀b,Z b->hp'.ap b=hp.ap b){u:U}{v:HV}{x:D u}(h:qE hp Z u v x):qE hp' a u v x:=by unfold qE at*;cases c:u.ag with
 |true=>rw[c]at h;obtain⟨e,f,g⟩:=h;exact⟨e,f,g.mono d hh⟩
 |false=>rw[c]at h;exact dw.mono d hh h
theorem lN{E:En}{Q:Nat->Prop}(n:∀b,E.Z b->Q b)(i:∀m e,E.st.ap m=some e->oj E m e){k:Nat}:∀{u:U}{d:List SV}{l:List HV}{x:D u},nJ E.st u d=some x->Vs E d l->qv E Q k d->fI E.hp Q u l x
 | .un,[],l,x,h,c,_=>by unfold Vs at c;exact c
 | .ah a b,v::d,l,x,h,c,j=>by
  unfold nJ at h;split at h
  .
   rename_i y s;split at h
   .
    rename_i w q;cases h;unfold Vs at c;obtain⟨u,r,rfl,o,p⟩:=c;have g:=eW v d;unfold fI;refine⟨u,r,rfl,xr n i s o (j.sub λm f=>?_),lN n i q p (j.sub λm f=>?_)⟩;.rw[eW,ka,bi]at f;rw[g];exact dX _ f
    .rw[g];exact cR _ f
   .cases h
  .cases h
 | .un,_::_,_,_,h,_,_=>by cases h
 | .ah _ _,[],_,_,h,_,_=>by cases h
 | .int _,[],_,_,h,_,_=>by cases h
 | .int _,_::_,_,_,h,_,_=>by cases h
 | .bool,[],_,_,h,_,_=>by cases h
 | .bool,_::_,_,_,h,_,_=>by cases h
 | .dH,[],_,_,h,_,_=>by cases h
 | .dH,_::_,_,_,h,_,_=>by cases h
 | .bc _,[],_,_,h,_,_=>by cases h
 | .bc _,_::_,_,_,h,_,_=>by cases h
 | .fF _ _,[],_,_,h,_,_=>by cases h
 | .fF _ _,_::_,_,_,h,_,_=>by cases h
theorem qK{E:En}:∀{u:U}{l:List HV}{x:D u},fI E.hp E.Z u l x->Vs E (md u x) l
 | .un,l,x,h=>by unfold fI at h;unfold md Vs;exact h
 | .ah a b,l,x,h=>by unfold fI at h;obtain⟨v,r,rfl,c,d⟩:=h;unfold md Vs;exact⟨v,r,rfl,Xo.2 c,qK d⟩
 | .int _,_,_,h=>h.elim
 | .bool,_,_,h=>h.elim
 | .dH,_,_,h=>h.elim
 | .bc _,_,_,h=>h.elim
 | .fF _ _,_,_,h=>h.elim
section
variable{R:Type}{r:R}
theorem sn{b:Bool}{x y:Option R}(h:ad b x y=some r):b=true/\x=some r\/b=false/\y=some r:=by
 cases b;.exact .inr ⟨rfl,h⟩
 .exact .inl ⟨rfl,h⟩
theorem eC{b:Bool}{x:Option R}(h:aA b x=some r):b=true/\x=some r:=by
 cases b;.cases h
 .exact⟨rfl,h⟩
theorem Ln{l b:Bool}{x y:Option R}(h:Xi l b x y=some r):b=true/\x=some r\/b=false/\y=some r:=by
 cases l;.exact sn h
 .
  cases b;.exact .inr ⟨rfl,h⟩
  .exact .inl ⟨rfl,h⟩
theorem CK{l b:Bool}{x:Option R}(h:IQ l b x=some r):b=true/\x=some r:=by
 cases l;.exact eC h
 .
  cases b;.cases h
  .exact⟨rfl,h⟩
theorem iv{α:Type}{o:Option α}{f:α->Option R}(h:am o f=some r):∃x,o=some x/\f x=some r:=by
 cases o;.cases h
 .exact⟨_,rfl,h⟩
theorem jG{o:Option SV}{K:SV->Option R}(h:pf o K=some r):∃s,o=some s/\K s=some r:=by
 cases o;.cases h
 .exact⟨_,rfl,h⟩
theorem Vh(op:BinOp)(k:IntKind)(a b:Int)(h:Gk op≠3):Y2 op k a b=tk op k a b:=by cases op<;>first|rfl|exact absurd rfl h
theorem U9(op:BinOp)(a b:Int):YV op a b=DM op a b:=by cases op<;>rfl
theorem oT{k a:IntKind}(h:nM k a=true):k=a:=by simpa [nM]using h
end
section
variable{E:En}
theorem dT{l:Bool}{k:IntKind}{x:Int}{v:HV}:V E (.int l k x) v↔v= .int k x:=by unfold V ia;show CR E (.int l k x) [v]↔_;unfold CR;simp
theorem iV{l b:Bool}{v:HV}:V E (.bool l b) v↔v= .bool b:=by unfold V ia;show CR E (.bool l b) [v]↔_;unfold CR;simp
theorem qn{s:ByteArray}{v:HV}:V E (.val .dH s) v↔v= .dH s:=by unfold V ia;show CR E (.val .dH s) [v]↔_;unfold CR dw;simp
theorem qm{v:HV}:V E .undef v↔v= .undef:=by unfold V ia;show CR E .undef [v]↔_;unfold CR;simp
theorem G9{v:HV}:V E .any v:=by unfold V ia;show CR E .any [v];unfold CR;exact⟨v,rfl⟩
theorem lF{v:HV}:V E .cK v↔v= .cK:=by unfold V ia;show CR E .cK [v]↔_;unfold CR;simp
theorem qp{v:HV}:V E .gO v↔v= .cK∨v= .gO:=by unfold V ia;show CR E .gO [v]↔_;unfold CR;simp
theorem zC{c:List SV}{v:HV}:V E (.agg c) v↔∃cs,v= .agg cs∧dy E c cs:=by
 unfold V ia;show(∃cs,v= .agg cs∧CR E (.agg c) cs)↔_;constructor;·rintro⟨cs,b,a⟩;unfold CR at a;exact⟨cs,b,a⟩
 ·rintro⟨cs,b,a⟩;exact⟨cs,b,by unfold CR;exact a⟩
theorem C1{a:List SV}{v:HV}:V E (.nf a) v↔∃l,v= .nf l∧Vs E a l:=by unfold V ia;show CR E (.nf a) [v]↔_;unfold CR;simp
theorem Ny{f:FuncId}{a:List SV}{v:HV}:V E (.fn f a) v↔∃l,v= .fn f l∧Vs E a l:=by unfold V ia;show CR E (.fn f a) [v]↔_;unfold CR;simp
theorem lZ{m o:Nat}{v:HV}:V E (.box m o) v↔m<E.nx∧∃b,E.mb m=some b∧v= .ptr b o:=by unfold V ia;show CR E (.box m o) [v]↔_;unfold CR;simp
theorem uS{m o n:Nat}{v:HV}:V E (.sq m o n) v↔m<E.nx∧∃b,E.mb m=some b∧v= .sl b o n∧n≤4000:=by unfold V ia;show CR E (.sq m o n) [v]↔_;unfold CR;simp
theorem ij{m:Nat}{v:HV}:V E (.row m) v↔m<E.nx∧iR v=some [v]∧(∀e xs,E.st.ap m=some (.row e xs)→ge (E.mb m) xs.length v)∧∀t k,E.st.ap m=some t→t.rn=some k→ge (E.mb m) k v:=by unfold V ia;show CR E (.row m) [v]↔_;unfold CR;simp
theorem nY{m o:Nat}{i:Int}{v:HV}:V E (.pz m i o) v↔m<E.nx∧iR v=some [v]∧(∀e xs,E.st.ap m=some (.row e xs)→∃b j,E.mb m=some b∧i=Int.ofNat j∧j<xs.length∧v= .ptr b (j*e.size+o))∧∀t k,E.st.ap m=some t→t.rn=some k→∃b j,E.mb m=some b∧i=Int.ofNat j∧j<k∧v= .ptr b (j+o):=by unfold V ia;show CR E (.pz m i o) [v]↔_;unfold CR;simp
theorem wU{m o n p:Nat}{u:U}{j:Int}{v:HV}:V E (.vQ m o n u j p) v↔m<E.nx∧∃b k,E.mb m=some b∧j=Int.ofNat k∧k<n∧v= .ptr b (o+k*u.size+p):=by unfold V ia;show CR E (.vQ m o n u j p) [v]↔_;unfold CR;simp
theorem C2{m g:Nat}{j:Int}{v:HV}:V E (.sub m g j) v↔m<E.nx∧g<E.nx∧iR v=some [v]∧∀e xs,E.st.ap m=some (.rows g e xs)→∃k l,j=Int.ofNat k∧xs[k]?=some l∧ge (E.ib m k) l.length v:=by unfold V ia;show CR E (.sub m g j) [v]↔_;unfold CR;simp
theorem C3{m:Nat}{v:HV}:V E (.map m) v↔m<E.nx∧∃b,E.mb m=some b∧v= .map b:=by unfold V ia;show CR E (.map m) [v]↔_;unfold CR;simp
theorem zB{m o n:Nat}{v:HV}:V E (.jz m o n) v↔m<E.nx∧∃b,E.mb m=some b∧v= .jz b o n:=by unfold V ia;show CR E (.jz m o n) [v]↔_;unfold CR;simp
theorem x6{m:Nat}{q:Int}{v:HV}:V E (.vw m q) v↔m<E.nx∧iR v=some [v]∧∀e xs,E.st.ap m=some (.row e xs)→∃k,q=Int.ofNat k∧k≤xs.length∧ge (E.mb m) k v:=by unfold V ia;show CR E (.vw m q) [v]↔_;unfold CR;simp
theorem qo{u:U}{x:D u}{v:HV}:V E (.sX u x) v↔∃b o y a,v= .ptr b o∧E.Z b∧E.hp.ap b=some (.cn y)∧cu y o u.size=some a∧dw E.hp E.Z u a x:=by unfold V ia;show CR E (.sX u x) [v]↔_;unfold CR;simp
theorem Fc{k:IntKind}{v:HV}:V E (.uk k) v↔∃x,v= .int k x:=by unfold V ia;show CR E (.uk k) [v]↔_;unfold CR;simp
theorem rx{m:Nat}{u:U}{x:D u}{v:HV}:V E (.tj m u x) v↔m<E.nx∧PtV v∧Zn E m fun c=>∃b o y a d,v= .ptr b o∧Bz E m b∧E.hp.ap b=some (.cn y)∧cu y o u.size=some a∧dw E.hp (Bz E m) u a d∧Su c u d x:=by unfold V ia;show CR E (.tj m u x) [v]↔_;unfold CR;simp
theorem zz{m:Nat}{e:U}{xs:List (D e)}{v:HV}:V E (.bv m (.bc e) xs) v↔m<E.nx∧SE v∧BL E m e v xs:=by
 unfold V ia;show CR E (.bv m (.bc e) xs) [v]↔_;unfold CR oe;constructor;·rintro⟨a,_,w,d,b,c⟩;cases d;exact⟨a,b,c⟩
 ·rintro⟨a,b,c⟩;exact⟨a,a,v,rfl,b,c⟩
theorem oJ{e:U}{xs:List (D e)}{v:HV}:V E (.val (.bc e) xs) v↔LR E.hp E.Z e.size (dw E.hp E.Z e) v xs:=by unfold V ia;show CR E (.val (.bc e) xs) [v]↔_;unfold CR dw;simp
theorem Hq{s:SV}{cs:List HV}(h:s.ag=false)(b:CR E s cs):∃v,cs=[v]/\V E s v:=by
 have c:s.w=1:=by
  cases s<;>first|rfl|skip
  .rename_i u x;have h:u.ag=false:=h;show u.size=1;cases u<;>first|rfl|cases h
  .cases h
  .rename_i m u x;have h:u.ag=false:=h;show u.size=1;cases u<;>first|rfl|cases h
 have a:=b.len;rw[c]at a
 cases cs with
  |nil=>cases a
  |cons v cs=>cases cs with
  |cons _ _=>cases a
  |nil=>exact⟨v,rfl,by unfold V ia;rw[h];exact b⟩
theorem CM(v:HV):CR E (wR v) [v]:=by cases v<;>unfold wR CR<;>first|rfl|exact⟨_,rfl⟩
theorem nh:∀(c:List HV),dy E (ov c) c
 |[]=>by unfold ov dy;rfl
 |v::c=>by unfold ov dy;exact⟨[v],c,rfl,CM v,nh c⟩
theorem Pp(v:HV):(wR v).ag=false:=by cases v<;>rfl
theorem OQ(v:HV):V E (WR v) v:=by
 have h:∀v,V E (wR v) v:=λv=>by unfold V ia;rw[Pp];exact CM v
 have h:=h v;cases v<;>first|exact h|exact qm.2 rfl|exact zC.2 ⟨_,rfl,nh _⟩
variable{S:SS}{h:St}
theorem bV(c:dN S h E){x:Operand}{s:SV}(b:S.ev x=some s):∃v,h.ev x=some v/\V E s v:=by
 unfold SS.ev at b;split at b;.cases b;exact⟨_,rfl,c.v _⟩
 .
  split at b;.rename_i a d;cases b;exact⟨a,d,OQ a⟩
  .cases b
 .cases b;exact⟨_,rfl,Ny.2 ⟨[],rfl,by unfold Vs;rfl⟩⟩
 .cases b
theorem mL(c:dN S h E):∀{xs:List Operand}{l:List SV},S.kg xs=some l->∃b,h.kg xs=some b/\Vs E l b
 |[],l,a=>by cases a;exact⟨[],rfl,by unfold Vs;rfl⟩
 |x::xs,l,a=>by
  unfold SS.kg at a;split at a
  .
   rename_i s i;split at a;.rename_i k j;cases a;obtain⟨v,d,e⟩:=bV c i;obtain⟨b,f,g⟩:=mL c j;exact⟨v::b,by unfold St.kg;rw[d,f],by unfold Vs;exact⟨v,b,rfl,e,g⟩⟩
   .cases a
  .cases a
def Gv(E:En){R:Type}(K:SV->Option R)(r:R)(o:Option HV):Prop:=∃s v,o=some v/\V E s v/\K s=some r
section
variable{R:Type}{r:R}{K:SV->Option R}
theorem qd{b:Int}(h:0<=b):b=Int.ofNat b.toNat:=by cases b with
 |ofNat n=>rfl
 |negSucc n=>exact absurd h (by omega)
theorem E8{op:BinOp}(k:IntKind)(a b:Int)(h:Gk op=0):uP op k a b=some (.int k (tk op k a b)):=by cases op<;>first|rfl|cases h
theorem PA{op:BinOp}(k:IntKind)(a b:Int)(h:Gk op=3):uP op k a b=some (.bool (DM op a b)):=by cases op<;>first|rfl|cases h
theorem Sd{op:BinOp}(k:IntKind)(a b:Int)(h:Gk op=1)(c:b≠0):uP op k a b=some (.int k (tk op k a b)):=by
 cases op<;>first|(cases h;done)|skip
 .show(bif decide (b=0)then none else some (HV.int k (gj k (Int.tdiv a b))))=_;rw[aX c];rfl
 .show(bif decide (b=0)then none else some (HV.int k (Int.tmod a b)))=_;rw[aX c];rfl
theorem LO{l:Bool}{op:BinOp}{k:IntKind}{a b:Int}(h:Gk op≠3):V E (Q1 l op k a b) (.int k (tk op k a b)):=by
 unfold Q1;cases l;.show V E (.int false k (Y2 op k a b)) _;rw[Vh op k a b h];exact dT.2 rfl
 .exact dT.2 rfl
theorem Y8{l:Bool}{op:BinOp}{a b:Int}:V E (Yl l op a b) (.bool (DM op a b)):=by
 unfold Yl;cases l;.show V E (.bool false (YV op a b)) _;rw[U9];exact iV.2 rfl
 .exact iV.2 rfl
theorem O8{cx:Cx}{op:BinOp}{t:Nat}{l o:Bool}{k i:IntKind}{a b:Int}(c:Ro op l k a o i b K=some r):Gv E K r (lv cx op t (.int k a) (.int i b)):=by
 have j:Gk op≠2->lv cx op t (.int k a) (.int i b)=bif decide (k=i)then uP op k a b else none:=by intro h;cases op<;>first|rfl|exact absurd rfl h
 unfold Ro at c;split at c
 .
  rename_i d;rw[aH]at c;split at c;.rename_i g;refine⟨_,_,?_,LO (by rw[d];decide),c⟩;rw[j (by rw[d];decide),av (oT g)];exact E8 k a b d
  .cases c
 .
  rename_i d;rw[aH]at c;split at c
  .
   rename_i g;obtain⟨e,f⟩:=CK c
   have p:b≠0:=by
    cases o;.have e:(!decide (b=0))=true:=e;simpa using e
    .have e:(!decide (b=0))=true:=e;simpa using e
   refine⟨_,_,?_,LO (by rw[d];decide),f⟩;rw[j (by rw[d];decide),av (oT g)];exact Sd k a b d p
  .cases c
 .
  rename_i d;obtain⟨e,f⟩:=CK c;have e:0<=b:=by simpa [cV]using e
  refine⟨_,_,?_,LO (by rw[d];decide),f⟩;obtain⟨n,rfl⟩:∃n:Nat,b=Int.ofNat n:=⟨_,qd e⟩;cases op<;>first|rfl|cases d
 .
  rename_i d e f;have m:Gk op=3:=by cases op<;>first|rfl|exact absurd rfl d|exact absurd rfl e|exact absurd rfl f
  rw[aH]at c;split at c;.rename_i g;refine⟨_,_,?_,Y8,c⟩;rw[j (by rw[m];decide),av (oT g)];exact PA k a b m
  .cases c
theorem uB{op:BinOp}{l b:Bool}(d:pf (Ld op l b) K=some r):Gv E K r (fW op b):=by
 obtain⟨s,a,c⟩:=jG d;unfold Ld at a;split at a;.cases a;exact⟨_,_,rfl,iV.2 rfl,c⟩
 .cases a;refine⟨_,_,rfl,iV.2 ?_,c⟩;cases l<;>rfl
 .cases a
theorem Cv:∀{f:Nat}{a l:List SV}{cs:List HV},yZ f a=some l->dy E a cs->dy E l cs:=by
 intro f
 induction f with
  |zero=>intro a l cs h;cases h
  |succ f j=>
  intro a l cs h b
  cases a with
   |nil=>cases h;exact b
   |cons i a=>
   unfold yZ at h;rw[aH]at h;unfold dy at b;obtain⟨c,d,rfl,e,g⟩:=b;split at h
   .
    split at h;.rename_i o m;exact j h (o7.2 ⟨c,d,rfl,wA m e,g⟩)
    .cases h
   .
    split at h;.rename_i n k;cases h;unfold dy;exact⟨c,d,rfl,e,j k g⟩
    .cases h
theorem Pe{ps:List Bool}:∀{a b:List SV}{ca cb:List HV}{l e:Bool},ER ps a b=some (l,e)->dy E a ca->dy E b cb->ua ps ca cb=some e/\ca.length=a.length/\cb.length=b.length:=by
 induction ps with
  |nil=>
  intro a b ca cb l e h g i;unfold ER at h;split at h;.unfold dy at g i;subst g;subst i;cases h;exact⟨rfl,rfl,rfl⟩
  .rename_i f;cases f
  .rename_i f;cases f
  .cases h
  |cons p ps C=>
  intro a b ca cb l e h g i;unfold ER at h;split at h;.rename_i f;cases f
  .
   rename_i x0 l k x a o w0 y b f;cases f;rw[aH]at h;unfold dy at g i;obtain⟨c,d,rfl,m,w⟩:=g;obtain⟨D,s,rfl,n,z⟩:=i;unfold CR at m n;subst m;subst n;split at h
   .
    rename_i A;have A:=oT A;subst A;split at h
    .
     rename_i q z0 B;cases h;obtain⟨t,u,v⟩:=C B w z;refine⟨?_,by simp[u],by simp[v]⟩;show(match yA true (.int k x) (.int k y)with|some true=>ua ps d s|r=>r)=_;have y0:yA true (.int k x) (.int k y)=some (decide (x=y)):=by show(bif decide (k=k)then some (decide (x=y))else none)=_;rw[av rfl];rfl
     rw[y0];by_cases j:x=y;.rw[av j];simp only;rw[t];cases l&&o&&q<;>simp[a6,DM,fc,j]
     .rw[aX j];cases l&&o&&q<;>simp[a6,DM,fc,j]
    .cases h
   .cases h
  .
   rename_i x0 l x a o y b f;cases f;unfold dy at g i;obtain⟨c,d,rfl,m,w⟩:=g;obtain⟨D,s,rfl,n,z⟩:=i;unfold CR at m n;subst m;subst n;split at h
   .
    rename_i q z0 B;cases h;obtain⟨t,u,v⟩:=C B w z;refine⟨?_,by simp[u],by simp[v]⟩;show(match some (x==y)with|some true=>ua ps d s|r=>r)=_;cases j:x==y;.cases l&&o&&q<;>simp[xS,fc,j]
    .simp only;rw[t];cases l&&o&&q<;>simp[xS,fc,j]
   .cases h
  .cases h
theorem oz{cx:Cx}{t:Nat}{p:Sh->Bool}(h:xM cx t p=true):∃x,cx.ti.ap t=some x/\p x.sh=true:=by
 unfold xM at h;split at h;.exact⟨_,by assumption,h⟩
 .cases h
theorem DB{s:Sh}(h:HJ s=true):∃e,s= .slice e:=by cases s<;>first|exact⟨_,rfl⟩|cases h
theorem F5{s:Sh}(h:Ga s=true):s= .bool:=by cases s<;>first|rfl|cases h
theorem Pt{cx:Cx}{op:BinOp}{t:Nat}{x y:SV}{a b:HV}(c:R4 cx op t x y K=some r)(d:V E x a)(f:V E y b):Gv E K r (lv cx op t a b):=by
 unfold R4 at c;split at c;.rw[dT]at d f;subst d;subst f;exact O8 c
 .
  rw[iV]at d f;subst d;subst f;rename_i l j y0 p;rw[aH]at c;split at c
  .
   rename_i B;obtain⟨u,i,g⟩:=oz B;have g:=F5 g
   have:lv cx op t (.bool j) (.bool p)=fW op (j==p):=by
    show(match cx.ti.ap t with
     |some x=>match x.sh with| .bool=>_|_=>none
     |none=>none)=_
    rw[i];simp only;rw[g]
   rw[this];have e:(bif l&&y0 then j==p else xS j p)=(j==p):=by cases l&&y0<;>rfl
   rw[e]at c;exact uB c
  .cases c
 .
  rw[qn]at d f;subst d;subst f;split at c;.obtain⟨i,g⟩:=eC c;refine⟨_,_,?_,qn.2 rfl,g⟩;show(bif Nat.ble _ _ then _ else none)=_;unfold Xb at i;rw[i];rfl
  .
   rename_i k0;have:∀s C,lv cx op t (.dH s) (.dH C)=fW op (s.toList==C.toList):=by intro s C;cases op<;>first|rfl|exact absurd rfl k0
   rw[this];exact uB c
 .
  rename_i k l z0 y;rw[Fc]at d;rw[dT]at f;obtain⟨n,rfl⟩:=d;subst f;rw[aH]at c;split at c
  .
   rename_i z;rw[ae]at z;have D:=au z.1;refine⟨_,.int k (tk op k n y),?_,Fc.2 ⟨_,rfl⟩,c⟩;have:lv cx op t (.int k n) (.int z0 y)=bif decide (k=z0)then uP op k n y else none:=by cases op<;>first|rfl|exact absurd D (by decide)
   rw[this,av (oT z.2)];exact E8 k n y D
  .cases c
 .
  rename_i d0;rw[lF]at f;subst f;rw[aH]at c;split at c
  .
   rename_i B;obtain⟨u,i,g⟩:=oz B;obtain⟨e,g⟩:=DB g;split at c
   .
    rw[lF]at d;subst d
    have:lv cx op t .cK .cK=fW op true:=by
     show(match cx.ti.ap t with
      |some u=>match u.sh,HV.cK with| .slice _,.cK=>fW op true| .slice _,.sl _ _ _=>fW op false| .slice _,.jz _ _ _=>fW op false| .slice _,.gO=>fW op false| .slice _,.mj=>fW op false|_,_=>none
      |none=>none)=_
     rw[i];simp only;rw[g]
    rw[this];exact uB c
   .
    rename_i m o n;rw[uS]at d;obtain⟨_,b,_,rfl,_⟩:=d
    have:lv cx op t (.sl b o n) .cK=fW op false:=by
     show(match cx.ti.ap t with
      |some u=>match u.sh,HV.sl b o n with| .slice _,.cK=>fW op true| .slice _,.sl _ _ _=>fW op false| .slice _,.jz _ _ _=>fW op false| .slice _,.gO=>fW op false| .slice _,.mj=>fW op false|_,_=>none
      |none=>none)=_
     rw[i];simp only;rw[g]
    rw[this];exact uB c
   .cases c
  .cases c
 .
  split at c
  .
   rename_i m l0;rw[aH]at c;split at c
   .
    rename_i w;simp only[ae]at w;split at c
    .
     rename_i c0 b0 n0 m0;obtain⟨q,j0,x0,w0,i0⟩:=lR n0 d;obtain⟨v,h0,v0,u0,g0⟩:=lR m0 f;have:=w0 w.1;subst this;have:=u0 w.2;subst this;split at c
     .
      rename_i f0 e0 p0 o0;rw[aH]at c;split at c
      .
       rename_i A;simp only[ae]at A;split at c
       .
        rename_i l e q0;obtain⟨t0,s0,r0⟩:=Pe q0 (Cv p0 x0) (Cv o0 v0)
        have:lv cx op t (.agg q) (.agg v)=fW op e:=by
         show(match cx.DJ.ap t with
          |some m=>bif Nat.beq q.length m.length&&Nat.beq v.length m.length then match ua m q v with|some r=>fW op r|none=>none else none
          |none=>none)=_
         rw[l0];simp only;rw[s0,r0,A.1,A.2,t0];rfl
        rw[this];exact uB c
       .cases c
      .cases c
     .cases c
    .cases c
   .cases c
  .cases c
end
end
def Pu(E:En){R:Type}(h:St)(K:SV->Option R)(r:R)(o:Option Rs):Prop:=∃s v,o=some (.val v h)/\V E s v/\K s=some r
theorem qR{y:gY}{o:Nat}{v:HV}(h:cu y o 1=some [v]):y.ap o=some v:=by
 have h:(match y.ap o with
  |some v=>match some ([]:List HV)with|some l=>some (v::l)|none=>none
  |none=>none)=some [v]:=h
 split at h;.cases h;assumption
 .cases h
theorem jb{h:St}{b:Nat}{y:gY}(g:h.hp.ap b=some (.cn y)):h.cn b=some y:=by unfold St.cn;rw[g]
theorem kv{α:Type}{l:List α}{i:Int}{x:α}(h:ax l i=some x):∃n:Nat,i=Int.ofNat n/\l[n]?=some x:=by
 unfold ax at h;split at h;.exact⟨_,rfl,h⟩
 .cases h
section
variable{E:En}{S:SS}{h:St}{cy:Cy}{R:Type}{r:R}{K:SV->Option R}
theorem HZ{ag:Bool}{c:List SV}{s:SV}{cs:List HV}(a:Gm ag c=some s)(b:dy E c cs):(ag=true->V E s (.agg cs))/\(ag=false->∃v,cs=[v]/\V E s v):=by
 unfold Gm at a;split at a
 .
  rename_i i;rw[aH]at a;split at a
  .rename_i d;cases ag with
   |false=>cases a
   |true=>cases a;refine⟨λ_=>?_,λh=>by cases h⟩;unfold V ia;rw[d];exact⟨cs,rfl,dA.1 b⟩
  .rename_i d;cases ag with
   |false=>cases a;exact⟨λh=>(by cases h),λ_=>Hq (by simpa using d) (dA.1 b)⟩
   |true=>cases a;exact⟨λ_=>zC.2 ⟨cs,rfl,b⟩,λh=>by cases h⟩
 .cases ag with
  |false=>cases a
  |true=>cases a;exact⟨λ_=>zC.2 ⟨cs,rfl,b⟩,λh=>by cases h⟩
theorem xI{t:Nat}{x:qq}{b o:Nat}{y:gY}{c:List HV}(e:cy.cx.ti.ap t=some x)(d:h.cn b=some y)(hg:cu y o x.size=some c):(x.agg=true->iQ cy.cx h t (.ptr b o)=some (.val (.agg c) h))/\∀v,x.agg=false->c=[v]->iQ cy.cx h t (.ptr b o)=some (.val v h):=by
 refine⟨λa=>?_,λv a i=>?_⟩;.unfold iQ;simp only;rw[e];simp only;rw[d];simp only;rw[a,hg];rfl
 .
  subst i;have g:=ie hg;unfold iQ;simp only;rw[e];simp only;rw[d];simp only;have f:cu y o 1=some [v]:=by have:x.size=1:=g.symm;rw[this]at hg;exact hg
  rw[a,qR f];rfl
theorem uo{t:Nat}{x:qq}{b o:Nat}{y:gY}{c:List SV}{cs:List HV}(n:cy.cx.ti.ap t=some x)(j:h.cn b=some y)(hg:cu y o x.size=some cs)(k:dy E c cs)(l:pf (Gm x.agg c) K=some r):Pu E h K r (iQ cy.cx h t (.ptr b o)):=by obtain⟨s,i,d⟩:=jG l;obtain⟨f,g⟩:=xI (h:=h) n j hg;obtain⟨p,q⟩:=HZ i k;cases a:x.agg with
 |true=>exact⟨s,_,f a,p a,d⟩
 |false=>obtain⟨v,e,m⟩:=q a;exact⟨s,v,g v a e,m,d⟩
theorem BF{o:Option Nat}{n:Nat}{v:HV}(h:ge o n v):iR v=some [v]:=by unfold ge at h;cases o with
 |none=>rcases h.2 with rfl|rfl<;>rfl
 |some b=>rw[h];rfl
theorem Gn{a:List SV}(h:xB a=true):dI a=[]:=by
 unfold xB at h;split at h;.assumption
 .cases h
theorem Nw(M:da S h E){n:Nat}{u:U}{c:List SV}{xs:List (D u)}{cs:List HV}(j:tJ S.st FU (.fF n u) c=some (xs,[]))(f:dy E c cs)(i:xB c=true):xs.length=n/\mB (dw E.hp E.Z u) cs xs:=by obtain⟨k,l,a,b,d,_⟩:=rZ (k:=0) (Q:=E.Z) (E:=E) (λ_ h=>h) (λm e g=>M.gm m e (by rw[<-M.st];exact g)) (by rw[M.st];exact j) f (by unfold qv;exact Gn i);unfold dy at d;subst d;rw[bi]at a;subst a;unfold dw at b;exact b
theorem Su.ah{c:Bool}{a b:U}{x y:D (.ah a b)}(h:Su c (.ah a b) x y):Su c a x.1 y.1/\Su c b x.2 y.2:=by
 cases c;.exact h
 .have h:x=y:=h;subst h;exact⟨rfl,rfl⟩
theorem Su.bm{c:Bool}{e:U}{xs ys:List (D e)}(h:Su c (.bc e) xs ys):List.length xs=List.length ys/\∀(i:Nat)(b:D e),ys[i]?=some b->∃a,xs[i]?=some a/\Su c e a b:=by
 cases c
 .
  have h:List.length xs=List.length ys/\∀(i:Nat)(a b:D e),xs[i]?=some a->ys[i]?=some b->oc e a b:=h;refine⟨h.1,λi b d=>?_⟩;have f:i<xs.length:=by rw[h.1];exact(aj.1 d).1
  exact⟨xs[i],G f,h.2 i _ b (G f) d⟩
 .have h:xs=ys:=h;subst h;exact⟨rfl,λi b d=>⟨b,d,rfl⟩⟩
theorem Ej{hp:Tr Hm.Obj}{Z:Nat->Prop}{e:U}{v:HV}{xs:List (D e)}(h:LR hp Z e.size (dw hp Z e) v xs):SE v:=by
 rcases h with⟨_,h|h|h⟩|⟨b,o,y,⟨h,_⟩,_⟩;.exact .inl h
 .exact .inr (.inl h)
 .exact .inr (.inr (.inl h))
 .exact .inr (.inr (.inr ⟨_,_,_,h⟩))
theorem BL.of{m:Nat}{c w:Bool}{e:U}{v:HV}{xs ys:List (D e)}(d:E.st.ap m=some (.zn c w))(h:dw E.hp (Bz E m) (.bc e) [v] ys)(b:Su c (.bc e) ys xs):BL E m e v xs:=λf g a=>by rw[d]at a;cases a;exact⟨ys,b,h⟩
theorem dw.zb{m:Nat}{w:Bool}(i:m<E.nx)(j:E.st.ap m=some (.zn true w)):∀{u:U}{cs:List HV}{x:D u},dw E.hp (Bz E m) u cs x->oe E m u cs x| .int _,_,_,h=>h| .bool,_,_,h=>h| .dH,_,_,h=>h| .un,_,_,h=>h| .nil,_,_,h=>h| .ah a b,_,_,⟨c,d,e,g,f⟩=>⟨c,d,e,g.zb i j,f.zb i j⟩| .fF n e,_,_,⟨g,f⟩=>⟨g,ky (λ_ _ h=>h.zb i j) f⟩| .bc e,_,k,⟨v,g,f⟩=>⟨i,v,g,Ej f,BL.of j (ys:=k) ⟨v,rfl,f⟩ rfl⟩
theorem yY{hp:Tr Hm.Obj}{Z:Nat->Prop}{c:Bool}:∀{u:U}{x i:D u}{p z:Nat}{q:(w:U)×D w}{j:List HV},Ip u x p z=some q->dw hp Z u j i->Su c u i x->∃(c1 c2 c3:List HV)(y:D q.1),j=c1++(c2++c3)/\c1.length=p/\c2.length=q.1.size/\dw hp Z q.1 c2 y/\Su c q.1 y q.2
 | .ah a b,x,i,p,z,q,j,h,⟨s,d,e,g,A⟩,n=>by
  unfold Ip at h;rw[aH]at h;split at h
  .
   rw[aH]at h;split at h;.rename_i t;rw[ae]at t;have hp:=au t.1;cases h;exact⟨[],s,d,i.1,e,hp.symm,g.len,g,n.ah.1⟩
   .obtain⟨c1,c2,c3,y,k,f,o,l,m⟩:=yY h g n.ah.1;exact⟨c1,c2,c3++d,y,by rw[e,k];simp,f,o,l,m⟩
  .
   rename_i v;have v:¬p<a.size:=by simpa [de]using v
   obtain⟨c1,c2,c3,y,k,f,o,l,m⟩:=yY h A n.ah.2;have f:c1.length=p-a.size:=f;exact⟨s++c1,c2,c3,y,by rw[e,k];simp,by rw[az,g.len,f];omega,o,l,m⟩
 | .int _,_,_,_,_,_,_,h,_,_=>by cases h
 | .bool,_,_,_,_,_,_,h,_,_=>by cases h
 | .dH,_,_,_,_,_,_,h,_,_=>by cases h
 | .bc _,_,_,_,_,_,_,h,_,_=>by cases h
 | .un,_,_,_,_,_,_,h,_,_=>by cases h
 | .fF _ _,_,_,_,_,_,_,h,_,_=>by cases h
 | .nil,_,_,_,_,_,_,h,_,_=>by cases h
theorem Cb(M:da S h E){t:Nat}{s:SV}{a:HV}(d:GB cy S t s K=some r)(q:V E s a):Pu E h K r (iQ cy.cx h t a):=by
 unfold GB at d;split at d
 .
  rename_i x w0;split at d
  .
   rename_i m o;rw[lZ]at q;obtain⟨_,b,y0,rfl⟩:=q;split at d
   .
    rename_i z is f;split at d;.rename_i c A;obtain⟨t9,y,s9,B,s0,y9,x9,r0,n0⟩:=M.gm m _ f;rw[y0]at B;cases B;obtain⟨l0,k0,j0,rfl,D,z0,u0⟩:=mh A n0;have:=eL r0 rfl D z0;rw[br]at this;exact uo w0 (jb (by rw[<-M.hp];exact s0)) this u0 d
    .cases d
   .cases d
  .
   rename_i u v;rw[qo]at q;obtain⟨b,o,y,f0,rfl,h1,l9,k9,j9⟩:=q;rw[aH]at d;split at d
   .
    rename_i A;have q0:=au A;split at d;.rename_i c A;obtain⟨l0,k0,j0,rfl,D,z0,u0⟩:=mh A (dA.2 (nk.2 j9));have:=eL k9 rfl D z0;rw[fh]at this;exact uo w0 (jb (by rw[<-M.hp];exact l9)) this u0 d
    .cases d
   .cases d
  .
   rename_i m i o;rw[nY]at q;obtain⟨_,_,q⟩:=q;split at d
   .
    rename_i e m0 f;obtain⟨w,a9,C⟩:=iv d;clear d;obtain⟨b,j,y0,rfl,e0,rfl⟩:=q.1 e m0 (by rw[M.st];exact f);obtain⟨n,c0,a0⟩:=kv a9;cases c0;obtain⟨_,b0⟩:=M.gm m _ f;unfold gB at b0;rw[y0]at b0;obtain⟨y,B,s0,y9,x9,r0⟩:=b0;obtain⟨s9,D,z0⟩:=r0 j w a0;split at C;.rename_i c A;obtain⟨l0,k0,j0,rfl,w9,v9,u9⟩:=mh A (dA.2 (nk.2 z0));exact uo w0 (jb (by rw[<-M.hp];exact B)) (eL D rfl w9 v9) u9 C
    .cases C
   .
    rename_i g e m0 f;rw[aH]at d;split at d
    .
     rename_i x0;simp only[ae]at x0;obtain⟨hin,C⟩:=eC d;obtain⟨b,j,y0,rfl,e0,rfl⟩:=q.2 _ _ (by rw[M.st];exact f) rfl;obtain⟨g9,_,i9⟩:=M.gm m _ f;obtain⟨t9,y,B,s0,y9,x9,r0,n0,_⟩:=i9.b y0;rw[y0]at B;cases B;have r9:m0[j]?=some (m0[j]'e0):=G e0;obtain⟨k1,⟨w,z9,v0⟩,p0⟩:=n0 j _ r9;have d9:=au x0.1;have q0:=au x0.2.1;subst d9;have i0:x.agg=false:=by simpa using x0.2.2
     have h0:cu y (j+0) x.size=some [w]:=by rw[q0];exact z9
     refine⟨_,w,(xI (h:=h) w0 (jb (by rw[<-M.hp];exact s0)) h0).2 w i0 rfl,C2.2 ⟨by assumption,g9,BF v0,λe' xs' q9=>?_⟩,C⟩;rw[M.st,f]at q9;cases q9;exact⟨j,_,rfl,r9,v0⟩
    .cases d
   .cases d
  .
   rename_i m u v;rw[rx]at q;obtain⟨d0,_,q⟩:=q;split at d
   .
    rename_i w f;rw[<-M.st]at f;obtain⟨b,o,y,f0,g0,rfl,z9,v0,p0,t0,o0⟩:=q true w f;have o0:g0=v:=o0;subst o0;rw[aH]at d;split at d
    .
     split at d;.rename_i c A;obtain⟨l0,k0,j0,rfl,D,z0,u0⟩:=mh A (dA.2 ((tn d0).2 (t0.zb d0 f)));have:=eL p0 rfl D z0;rw[fh]at this;exact uo w0 (jb (by rw[<-M.hp];exact v0)) this u0 d
     .cases d
    .cases d
   .
    rename_i w f;rw[<-M.st]at f;obtain⟨b,o,y,f0,g0,rfl,z9,v0,p0,t0,o0⟩:=q false w f;rw[aH]at d;split at d
    .
     rename_i x0;rw[ae]at x0;have q0:=au x0.1;have i0:x.agg=false:=by simpa using x0.2
     split at d;.rename_i k _;have t0:f0=[.int k g0]:=t0;subst t0;exact⟨_,_,(xI (h:=h) w0 (jb (by rw[<-M.hp];exact v0)) (by rw[q0];exact p0)).2 (.int k g0) i0 rfl,Fc.2 ⟨_,rfl⟩,d⟩
     .rename_i e l;obtain⟨o9,rfl,p9⟩:=t0;exact⟨_,_,(xI (h:=h) w0 (jb (by rw[<-M.hp];exact v0)) (by rw[q0];exact p0)).2 o9 i0 rfl,zz.2 ⟨d0,Ej p9,BL.of f ⟨o9,rfl,p9⟩ o0⟩,d⟩
     .cases d
    .cases d
   .cases d
  .
   rename_i m o n u j p;rw[wU]at q;obtain⟨_,b,k,y0,rfl,hkn,rfl⟩:=q;split at d
   .
    rename_i z is f;split at d
    .
     rename_i c A;split at d
     .
      rename_i m0 c9;rw[aH]at d;split at d
      .
       rename_i e9;obtain⟨v,b9,C⟩:=iv d;obtain⟨t9,y,s9,B,s0,y9,x9,r0,n0⟩:=M.gm m _ f;rw[y0]at B;cases B;obtain⟨l0,k0,j0,rfl,D,z0,u0⟩:=mh A n0;have h0:=eL r0 rfl D z0;rw[br]at h0;obtain⟨g1,m9⟩:=Nw M c9 u0 e9;obtain⟨n',c0,a0⟩:=kv b9;cases c0;obtain⟨d1,d2,d3,n9,w9,v9,u9⟩:=lf (z:=u.size) (λ_ _ h=>h.len) m9 a0;have f9:=eL h0 n9 w9 v9;split at C;.rename_i c' h9;obtain⟨f1,f2,f3,rfl,v1,v2,v3⟩:=mh h9 (dA.2 (nk.2 u9));exact uo w0 (jb (by rw[<-M.hp];exact s0)) (eL f9 rfl v1 v2) v3 C
       .cases C
      .cases d
     .cases d
    .cases d
   .cases d
  .cases d
 .cases d
theorem K8{i s:SV}{b o:Nat}{y:gY}{c:List HV}(hi:K9 i=some s)(e:E.Z b)(d:E.hp.ap b=some (.cn y))(hg:cu y o c.length=some c)(a:CR E i c):V E s (.ptr b o):=by
 unfold K9 at hi;split at hi
 .
  rename_i l k x;cases hi;have a:dw E.hp E.Z (.int k) c x:=by unfold CR at a;unfold dw;exact a
  exact qo.2 ⟨b,o,y,c,rfl,e,d,by rw[<-a.len];exact hg,a⟩
 .
  rename_i l x;cases hi;have a:dw E.hp E.Z .bool c x:=by unfold CR at a;unfold dw;exact a
  exact qo.2 ⟨b,o,y,c,rfl,e,d,by rw[<-a.len];exact hg,a⟩
 .
  rename_i u x;cases hi;have a:dw E.hp E.Z u c x:=by unfold CR at a;exact a
  exact qo.2 ⟨b,o,y,c,rfl,e,d,by rw[<-a.len];exact hg,a⟩
 .cases hi
theorem It(M:da S h E){t i:Nat}{s:SV}{a:HV}(d:GO cy S t s i K=some r)(f:V E s a):Pu E h K r (mN cy.cx h t a i):=by
 unfold GO at d;split at d
 .
  rename_i x f0;split at d
  .
   rename_i p9 g0;split at d
   .
    rename_i p z i0;have A:∀b o,mN cy.cx h t (.ptr b o) i=some (.val (.ptr b (o+p)) h):=by intro b o;unfold mN;simp only;rw[f0];simp only;rw[g0];simp only;rw[i0];rfl
    split at d;.rename_i m o;rw[lZ]at f;obtain⟨l,b,w0,rfl⟩:=f;exact⟨_,_,A b o,lZ.2 ⟨l,b,w0,rfl⟩,d⟩
    .
     rename_i m j o;rw[nY]at f;obtain⟨l,s0,x0⟩:=f;split at d;.rename_i e u9 g;rw[<-M.st]at g;obtain⟨b,q,z0,y0,o0,rfl⟩:=x0.1 e u9 g;refine⟨_,_,A b _,nY.2 ⟨l,rfl,λr9 n9 B=>?_,λt k B l0=>by rw[g]at B;cases B;cases l0⟩,d⟩;rw[g]at B;cases B;exact⟨b,q,z0,y0,o0,by show HV.ptr b (q*e.size+o+p)=HV.ptr b (q*e.size+(o+p));rw[gI]⟩
     .cases d
    .rename_i m o n u j q;rw[wU]at f;obtain⟨l,b,k,w0,rfl,k0,rfl⟩:=f;exact⟨_,_,A b _,wU.2 ⟨l,b,k,w0,rfl,k0,by show HV.ptr b (o+k*u.size+q+p)=HV.ptr b (o+k*u.size+(q+p));rw[gI]⟩,d⟩
    .
     rename_i u v;rw[qo]at f;obtain⟨b,o,y,p0,rfl,l,s0,x0,n0⟩:=f;obtain⟨x9,C,D⟩:=jG d;unfold Xa at C;split at C;.rename_i q9 m0;obtain⟨r0,u0,q0,rfl,w9,v0,v9⟩:=mh m0 (dA.2 (nk.2 n0));exact⟨x9,_,A b o,K8 C l s0 (by rw[v0];exact eL x0 rfl w9 v0) (dA.1 v9),D⟩
     .cases C
    .
     rename_i m u v;rw[rx]at f;obtain⟨j0,_,f⟩:=f;split at d
     .
      rename_i c w g;rw[<-M.st]at g;obtain⟨b,o,y,p0,o9,rfl,e0,d0,c0,b0,a0⟩:=f c w g;split at d;.rename_i q h0;obtain⟨r0,u0,q0,t9,D,z9,y9,z0,y0⟩:=yY h0 b0 a0;exact⟨_,_,A b o,rx.2 ⟨j0,⟨_,_,rfl⟩,λs9 v0 t0=>by rw[g]at t0;cases t0;exact⟨b,o+p,y,u0,t9,rfl,e0,d0,eL c0 D z9 y9,z0,y0⟩⟩,d⟩
      .cases d
     .cases d
    .cases d
   .cases d
  .cases d
 .cases d
theorem ox{s:SV}{j:Nat}(a:v8 s=some j):∃k,s= .int true k (.ofNat j):=by
 unfold v8 at a;split at a;.cases a;exact⟨_,rfl⟩
 .cases a
theorem GH(M:da S h E){t:Nat}{s i:SV}{a w:HV}(d:Cq cy S t s i K=some r)(D:V E s a)(hi:V E i w):Pu E h K r (fJ cy.cx h t a w):=by
 unfold Cq at d;split at d
 .
  rename_i x r0;split at d
  .
   rename_i e t0;split at d
   .
    rename_i z s0;split at d
    .
     rename_i u y0 l k j;rw[dT]at hi;subst hi;rw[aH]at d;split at d
     .
      rename_i A;have A:=au A;subst A;obtain⟨v,k0,w0⟩:=iv d;clear d;obtain⟨n,rfl,o0⟩:=kv k0;rw[oJ]at D;have f:n<y0.length:=by have:=aj.1 o0;exact this.1
      have v0:Nat.blt n y0.length=true:=by simpa [de]using f
      rcases D with⟨w9,_⟩|⟨b,o,y,C,q0,p,n0,f0,m0⟩;.rw[w9]at f;cases f
      .obtain⟨x9,i0,h0⟩:=m0 n v o0;refine⟨_,.ptr b (o+n*u.size),?_,qo.2 ⟨b,o+n*u.size,y,x9,rfl,q0,p,i0,h0⟩,w0⟩;obtain⟨C,_⟩:=C;subst C;unfold fJ;rw[r0];simp only[i5];rw[t0];simp only;rw[s0];simp only;rw[v0];rfl
     .cases d
    .
     rename_i m l k j;rw[dT]at hi;subst hi;split at d
     .
      rename_i u y0 B;rw[aH]at d;split at d
      .
       rename_i A;have A:=au A;subst A;obtain⟨x0,w0⟩:=eC d;unfold a5 at x0;simp only[ae,bF]at x0;obtain⟨n,rfl⟩:∃n:Nat,j=Int.ofNat n:=⟨_,qd x0.1⟩;have f:n<y0.length:=ll.1 x0.2;have v0:Nat.blt n y0.length=true:=by simpa [de]using f
       rw[ij]at D;obtain⟨C,q0,p⟩:=D;rw[<-M.st]at B;have p:=p.1 u y0 B;unfold ge at p
       cases u0:E.mb m with
        |none=>rw[u0]at p;rw[p.1]at f;cases f
        |some b=>
        rw[u0]at p;subst p;refine⟨_,.ptr b (0+n*u.size),?_,nY.2 ⟨C,rfl,λa0 z9 z0=>?_,λt k z0 p0=>by rw[B]at z0;cases z0;cases p0⟩,w0⟩;.unfold fJ;rw[r0];simp only[i5];rw[t0];simp only;rw[s0];simp only;rw[v0];rfl
        .rw[B]at z0;cases z0;exact⟨b,n,u0,rfl,f,by rw[br];rfl⟩
      .cases d
     .
      rename_i g u y0 B;rw[aH]at d;split at d
      .
       rename_i A;have A:=au A;subst A;obtain⟨x0,w0⟩:=eC d;unfold a5 at x0;simp only[ae,bF]at x0;obtain⟨n,rfl⟩:∃n:Nat,j=Int.ofNat n:=⟨_,qd x0.1⟩;have f:n<y0.length:=ll.1 x0.2;have v0:Nat.blt n y0.length=true:=by simpa [de]using f
       rw[ij]at D;obtain⟨C,q0,p⟩:=D;obtain⟨_,_,e9⟩:=M.gm m _ B;obtain⟨b,y,c0,_⟩:=e9.p f;rw[<-M.st]at B;have p:=p.2 _ _ B rfl;unfold ge at p;rw[c0]at p;subst p;refine⟨_,.ptr b (0+n*1),?_,nY.2 ⟨C,rfl,λa0 z9 z0=>(by rw[B]at z0;cases z0),λt k z0 p0=>?_⟩,w0⟩;.unfold fJ;rw[r0];simp only[i5];rw[t0];simp only;rw[s0];simp only;rw[v0];rfl
       .rw[B]at z0;cases z0;cases p0;exact⟨b,n,c0,rfl,f,by rw[br,hQ];rfl⟩
      .cases d
     .
      rename_i u y0 q B;rw[aH]at d;split at d
      .
       rename_i A;have A:=au A;subst A;obtain⟨x0,w0⟩:=eC d;unfold a5 at x0;simp only[ae,bF]at x0;obtain⟨n,rfl⟩:∃n:Nat,j=Int.ofNat n:=⟨_,qd x0.1⟩;have f:n<y0.length:=ll.1 x0.2;have v0:Nat.blt n y0.length=true:=by simpa [de]using f
       rw[ij]at D;obtain⟨C,q0,p⟩:=D;obtain⟨_,_,_,_,_,b,y,c0,_⟩:=M.gm m _ B;rw[<-M.st]at B;have p:=p.2 _ _ B rfl;unfold ge at p;rw[c0]at p;subst p;refine⟨_,.ptr b (0+n*1),?_,nY.2 ⟨C,rfl,λa0 z9 z0=>(by rw[B]at z0;cases z0),λt k z0 p0=>?_⟩,w0⟩;.unfold fJ;rw[r0];simp only[i5];rw[t0];simp only;rw[s0];simp only;rw[v0];rfl
       .rw[B]at z0;cases z0;cases p0;exact⟨b,n,c0,rfl,f,by rw[br,hQ];rfl⟩
      .cases d
     .cases d
    .
     rename_i m q l k j;rw[dT]at hi;subst hi;split at d
     .
      rename_i u y0 B;rw[aH]at d;split at d
      .
       rename_i A;have A:=au A;subst A;obtain⟨x0,w0⟩:=eC d;unfold a5 at x0;simp only[ae,bF]at x0;obtain⟨n,rfl⟩:∃n:Nat,j=Int.ofNat n:=⟨_,qd x0.1⟩;have f:n<(eX y0 0 q).length:=ll.1 x0.2;rw[x6]at D;obtain⟨C,q0,p⟩:=D;rw[<-M.st]at B;obtain⟨j0,rfl,hkk,p⟩:=p u y0 B;have c9:(eX y0 0 (Int.ofNat j0)).length=j0:=by show((y0.drop 0).take (j0-0)).length=j0;simp;omega
       rw[c9]at f;have v0:Nat.blt n j0=true:=by simpa [de]using f
       unfold ge at p
       cases u0:E.mb m with
        |none=>rw[u0]at p;omega
        |some b=>
        rw[u0]at p;subst p;refine⟨_,.ptr b (0+n*u.size),?_,nY.2 ⟨C,rfl,λa0 z9 z0=>?_,λt k z0 p0=>by rw[B]at z0;cases z0;cases p0⟩,w0⟩;.unfold fJ;rw[r0];simp only[i5];rw[t0];simp only;rw[s0];simp only;rw[v0];rfl
        .rw[B]at z0;cases z0;exact⟨b,n,u0,rfl,by omega,by rw[br];rfl⟩
      .cases d
     .cases d
    .
     rename_i m u y0 l k j;rw[dT]at hi;subst hi;rw[zz]at D;obtain⟨u9,_,D⟩:=D;split at d
     .
      rename_i c m9 B;rw[<-M.st]at B;obtain⟨l9,d0,b0,C,f9⟩:=D c m9 B;cases C;rw[aH]at d;split at d
      .
       rename_i A;have A:=au A;subst A;obtain⟨v,k0,w0⟩:=iv d;clear d;obtain⟨n,rfl,o0⟩:=kv k0;obtain⟨b0,e0,t9⟩:=d0.bm.2 n v o0;have f:n<l9.length:=(aj.1 e0).1;have v0:Nat.blt n l9.length=true:=by simpa [de]using f
       rcases f9 with⟨w9,_⟩|⟨b,o,y,C,q0,p,n0,f0,m0⟩;.rw[w9]at f;cases f
       .obtain⟨x9,i0,h0⟩:=m0 n b0 e0;refine⟨_,.ptr b (o+n*u.size),?_,rx.2 ⟨u9,⟨_,_,rfl⟩,λj9 w2 g0=>by rw[B]at g0;cases g0;exact⟨b,o+n*u.size,y,x9,b0,rfl,q0,p,i0,h0,t9⟩⟩,w0⟩;obtain⟨C,_⟩:=C;subst C;unfold fJ;rw[r0];simp only[i5];rw[t0];simp only;rw[s0];simp only;rw[v0];rfl
      .cases d
     .cases d
    .
     rename_i m o n;split at d
     .
      rename_i j l0;obtain⟨k,rfl⟩:=ox l0;rw[dT]at hi;subst hi;rw[aH]at d;split at d;.rename_i f;rw[uS]at D;obtain⟨C,b,u0,rfl,_⟩:=D;refine⟨_,.ptr b (o+j*z),?_,lZ.2 ⟨C,b,u0,rfl⟩,d⟩;unfold fJ;rw[r0];simp only[i5];rw[t0];simp only;rw[s0];simp only;rw[f];rfl
      .cases d
     .cases d
    .
     rename_i m o n;split at d
     .
      rename_i j l0;obtain⟨k,rfl⟩:=ox l0;rw[dT]at hi;subst hi;rw[aH]at d;split at d;.rename_i f;rw[zB]at D;obtain⟨C,b,u0,rfl⟩:=D;refine⟨_,.ptr b (o+j*z),?_,lZ.2 ⟨C,b,u0,rfl⟩,d⟩;unfold fJ;rw[r0];simp only[i5];rw[t0];simp only;rw[s0];simp only;rw[f];rfl
      .cases d
     .cases d
    .cases d
   .cases d
  .
   rename_i n e t0;split at d
   .
    rename_i z s0;split at d
    .
     rename_i a9 u y0 l k j;rw[dT]at hi;subst hi;rw[aH]at d;split at d
     .
      rename_i A;simp only[ae]at A;have s9:=au A.1;have r9:=au A.2;subst s9;subst r9;obtain⟨v,k0,w0⟩:=iv d;clear d;obtain⟨q,rfl,o0⟩:=kv k0;rw[qo]at D;obtain⟨b,o,y,h9,rfl,C,q0,p,n0⟩:=D;unfold dw at n0;obtain⟨f0,m0⟩:=n0;have f:q<n:=by have:=aj.1 o0;rw[<-f0];exact this.1
      have v0:Nat.blt q n=true:=by simpa [de]using f
      obtain⟨k9,y9,i9,q9,p9,o9,n9⟩:=lf (z:=u.size) (λ_ _ h=>h.len) m0 o0;refine⟨_,.ptr b (o+q*u.size),?_,qo.2 ⟨b,o+q*u.size,y,y9,rfl,C,q0,eL p q9 p9 o9,n9⟩,w0⟩;unfold fJ;rw[r0];simp only[i5];rw[t0];simp only;rw[s0];simp only;rw[v0];rfl
     .cases d
    .
     rename_i m a9 u y0 l k j;rw[dT]at hi;subst hi;rw[rx]at D;obtain⟨u9,_,D⟩:=D;split at d
     .
      rename_i c m9 B;rw[<-M.st]at B;obtain⟨b,o,y,h9,x',rfl,C,q0,p,n0,d0⟩:=D c m9 B;rw[aH]at d;split at d
      .
       rename_i A;simp only[ae]at A;have s9:=au A.1;have r9:=au A.2;subst s9;subst r9;obtain⟨v,k0,w0⟩:=iv d;clear d;obtain⟨q,rfl,o0⟩:=kv k0;unfold dw at n0;obtain⟨f0,m0⟩:=n0;have d0:Su c (.bc u) x' y0:=d0;obtain⟨b0,e0,t9⟩:=d0.bm.2 q v o0;have f:q<n:=by have:=aj.1 e0;rw[<-f0];exact this.1
       have v0:Nat.blt q n=true:=by simpa [de]using f
       obtain⟨k9,y9,i9,q9,p9,o9,n9⟩:=lf (z:=u.size) (λ_ _ h=>h.len) m0 e0;refine⟨_,.ptr b (o+q*u.size),?_,rx.2 ⟨u9,⟨_,_,rfl⟩,λj9 w2 g0=>by rw[B]at g0;cases g0;exact⟨b,o+q*u.size,y,y9,b0,rfl,C,q0,eL p q9 p9 o9,n9,t9⟩⟩,w0⟩;unfold fJ;rw[r0];simp only[i5];rw[t0];simp only;rw[s0];simp only;rw[v0];rfl
      .cases d
     .cases d
    .
     rename_i m o;split at d
     .
      rename_i j l0;obtain⟨k,rfl⟩:=ox l0;rw[dT]at hi;subst hi;rw[aH]at d;split at d;.rename_i f;rw[lZ]at D;obtain⟨C,b,u0,rfl⟩:=D;refine⟨_,.ptr b (o+j*z),?_,lZ.2 ⟨C,b,u0,rfl⟩,d⟩;unfold fJ;rw[r0];simp only[i5];rw[t0];simp only;rw[s0];simp only;rw[f];rfl
      .cases d
     .
      split at d
      .
       rename_i l k j u hu _;rw[dT]at hi;subst hi;rw[aH]at d;split at d
       .
        rename_i A;have A:=au A;subst A;obtain⟨v9,w0⟩:=eC d;obtain⟨d9,b9⟩:=eC w0;have v9:0<=j:=by simpa [cV]using v9
        obtain⟨q,rfl⟩:∃q:Nat,j=Int.ofNat q:=⟨_,qd v9⟩;have f:q<n:=ll.1 (bA d9);have v0:Nat.blt q n=true:=by simpa [de]using f
        rw[lZ]at D;obtain⟨C,b,u0,rfl⟩:=D;refine⟨_,.ptr b (o+q*u.size),?_,wU.2 ⟨C,b,q,u0,rfl,f,rfl⟩,b9⟩;unfold fJ;rw[r0];simp only[i5];rw[t0];simp only;rw[s0];simp only;rw[v0];rfl
       .cases d
      .cases d
    .
     rename_i m k o;split at d
     .
      rename_i j l0;obtain⟨j0,rfl⟩:=ox l0;rw[dT]at hi;subst hi;rw[aH]at d;split at d
      .
       rename_i f;split at d
       .
        rename_i u y0 B;rw[nY]at D;obtain⟨C,q0,p⟩:=D;rw[<-M.st]at B;obtain⟨b,q,i0,h0,g9,rfl⟩:=p.1 u y0 B;refine⟨_,.ptr b (q*u.size+o+j*z),?_,nY.2 ⟨C,rfl,λa0 z9 z0=>?_,λt k z0 p0=>by rw[B]at z0;cases z0;cases p0⟩,d⟩;.unfold fJ;rw[r0];simp only[i5];rw[t0];simp only;rw[s0];simp only;rw[f];rfl
        .rw[B]at z0;cases z0;exact⟨b,q,i0,h0,g9,by show HV.ptr b (q*u.size+o+j*z)=HV.ptr b (q*u.size+(o+j*z));rw[gI]⟩
       .cases d
      .cases d
     .cases d
    .cases d
   .cases d
  .cases d
 .cases d
theorem Ik{t:Nat}{s i:SV}{a w:HV}(b:GG cy t s i K=some r)(f:V E s a)(hi:V E i w):Pu E h K r (mM cy.cx h t a w):=by
 unfold GG at b;split at b
 .
  rename_i x p;split at b
  .
   rename_i o;split at b
   .
    rename_i s l k j;rw[dT]at hi;rw[qn]at f;subst hi;subst f;obtain⟨c,d,y0⟩:=iv b;unfold atS at d;split at d
    .
     rename_i n;split at d;.rename_i q C;cases d;refine⟨_,.int .u8 (Int.ofNat q.toNat),?_,dT.2 rfl,y0⟩;unfold mM;simp only[i5];rw[p];simp only;rw[o];simp only;rw[C]
     .cases d
    .cases d
   .cases b
  .
   rename_i m e o;split at b
   .
    rename_i y w0;split at b
    .
     rename_i j z0;obtain⟨k,rfl⟩:=ox z0;rw[dT]at hi;subst hi;rw[aH]at b;split at b
     .
      rename_i g;rw[ae]at g;split at b
      .
       rename_i l0 D;split at b;.rename_i c d;obtain⟨s0,A,B⟩:=jG b;obtain⟨p0,r0,u,z,q0⟩:=lR D f;have:=z g.1;subst this;obtain⟨o0,n0,m0,rfl,v0,k0,u0⟩:=mh d u;obtain⟨_,t0⟩:=HZ A u0;obtain⟨v,rfl,x0⟩:=t0 rfl;refine⟨s0,v,?_,x0,B⟩;unfold mM;simp only[i5];rw[p];simp only;rw[o];simp only;rw[w0];simp only;rw[g.2];rw[bB (by omega),v0,ee];rfl
       .cases b
      .cases b
     .cases b
    .cases b
   .cases b
  .cases b
 .cases b
def PV(E:En):List (Nat×SV)->List (Nat×HV)->Prop|[],l=>l=[]|(i,s)::r,l=>∃v q,l=(i,v)::q/\V E s v/\PV E r q
theorem za(b:dN S h E):∀{ps:List (Nat×Operand)}{l:List (Nat×SV)},Iy S ps=some l->∃q,hM h ps=some q/\PV E l q
 |[],l,a=>by cases a;exact⟨[],rfl,rfl⟩
 |(i,x)::ps,l,a=>by
  unfold Iy at a;split at a
  .
   rename_i s g;split at a;.rename_i k j;cases a;obtain⟨v,c,d⟩:=bV b g;obtain⟨q,e,f⟩:=za b j;exact⟨(i,v)::q,by unfold hM;rw[c,e],v,q,rfl,d,f⟩
   .cases a
  .cases a
theorem zT:∀{c c1 c2 c3:List HV},c2.length=c.length->sK (c1++(c2++c3)) c1.length c=c1++(c++c3)
 |[],c1,c2,c3,a=>by
  have:c2=[]:=by cases c2 with
   |nil=>rfl
   |cons _ _=>cases a
  subst this;rfl
 |v::c,c1,[],c3,a=>by cases a
 |v::c,c1,w::c2,c3,a=>by
  show sK ((c1++(w::c2++c3)).set c1.length v) (c1.length+1) c=_;have e:(c1++(w::c2++c3)).set c1.length v=c1++[v]++(c2++c3):=by rw[nZ _ _ (ar _),ee];simp
  rw[e];have:=zT (c:=c) (c1:=c1++[v]) (c2:=c2) (c3:=c3) (by simpa using a);rw[az]at this;rw[show c1.length+1=c1.length+[v].length from rfl,this];simp
theorem sZ{j:Nat->Option (Nat×Nat)}:∀{ps:List (Nat×SV)}{e:List (Nat×HV)}{d l:List SV}{cs:List HV},y5 j d ps=some l->PV E ps e->dy E d cs->∃c,sY j cs e=some c/\dy E l c
 |[],e,d,l,cs,a,b,f=>by cases a;unfold PV at b;subst b;exact⟨cs,rfl,f⟩
 |(i,s)::ps,e,d,l,cs,a,b,f=>by
  unfold PV at b;obtain⟨v,q,rfl,z0,D⟩:=b;unfold y5 at a;split at a
  .
   rename_i o z B;split at a
   .
    rename_i c A;rw[aH]at a;split at a
    .
     rename_i g;have g:=au g;split at a
     .
      rename_i t0 C;obtain⟨k,y,t,_,_⟩:=lR A z0;obtain⟨m,n,p,rfl,y0,x0,w0⟩:=r8 C f t;have u:k.length=z:=by rw[t.len,g]
      obtain⟨w,v0,u0⟩:=sZ a D w0;refine⟨w,?_,u0⟩;unfold sY;rw[B];simp only;rw[y];simp only;have x:(Nat.beq k.length z&&Nat.ble (Nat.add o z) (m++(n++p)).length)=true:=by rw[ae];refine⟨by simp[u],?_⟩;simp only[bS,az];show o+z<=_;omega
      rw[x];show sY j (sK (m++(n++p)) o k) q=some w;rw[<-y0,zT (by rw[x0,u])];exact v0
     .cases a
    .cases a
   .cases a
  .cases a
theorem IY{t:Nat}{ps:List (Nat×SV)}{k:List (Nat×HV)}(a:G0 cy t ps K=some r)(hp:PV E ps k):Pu E h K r (la cy.cx h t k):=by
 unfold G0 at a;split at a
 .
  rename_i x i;split at a
  .
   rename_i z j;split at a
   .
    rename_i o g;split at a;.rename_i l f;obtain⟨c,b,d⟩:=sZ f hp (nh z);refine⟨_,.agg c,?_,zC.2 ⟨c,rfl,d⟩,a⟩;unfold la;rw[i];simp only;rw[j];simp only;rw[g];simp only;rw[b]
    .cases a
   .
    rename_i n e g;split at a
    .
     rename_i q m;split at a;.rename_i l f;obtain⟨c,b,d⟩:=sZ f hp (nh z);refine⟨_,.agg c,?_,zC.2 ⟨c,rfl,d⟩,a⟩;unfold la;rw[i];simp only;rw[j];simp only;rw[g];simp only;rw[m];simp only;rw[b]
     .cases a
    .cases a
   .cases a
  .cases a
 .cases a
theorem oo{o:Option Nat}{n:Nat}{v:HV}(h:ge o n v):lenOf v=some n:=by
 unfold ge at h
 cases o with
  |none=>
  obtain⟨a,rfl|rfl⟩:=h;.rw[a];rfl
  .rw[a];rfl
  |some b=>rw[h];rfl
theorem yF{o:Option Nat}{n:Nat}{s:ByteArray}(h:ge o n (.dH s)):False:=by unfold ge at h;cases o with
 |none=>rcases h.2 with h|h<;>cases h
 |some b=>cases h
theorem Ig(M:da S h E){s l:SV}{v:HV}(d:AQ S s=some l)(a:V E s v):∃n,lenOf v=some n/\V E l (.int .i64 (Int.ofNat n)):=by
 unfold AQ at d;split at d;.cases d;rw[qn]at a;subst a;exact⟨_,rfl,dT.2 rfl⟩
 .
  rename_i u f;cases d;rw[oJ]at a;refine⟨f.length,?_,dT.2 rfl⟩;rcases a with⟨rfl,rfl|rfl|rfl⟩|⟨b,o,y,⟨j,_⟩,_⟩;.rfl
  .rfl
  .rfl
  .subst j;rfl
 .cases d;rw[lF]at a;subst a;exact⟨0,rfl,dT.2 rfl⟩
 .
  cases d;rw[qp]at a;rcases a with rfl|rfl;.exact⟨0,rfl,dT.2 rfl⟩
  .exact⟨0,rfl,dT.2 rfl⟩
 .cases d;rw[uS]at a;obtain⟨_,b,_,rfl,_⟩:=a;exact⟨_,rfl,dT.2 rfl⟩
 .cases d;rw[zB]at a;obtain⟨_,b,_,rfl⟩:=a;exact⟨_,rfl,dT.2 rfl⟩
 .
  rename_i m q;split at d;.rename_i u f e;cases d;rw[x6]at a;obtain⟨_,_,i⟩:=a;rw[<-M.st]at e;obtain⟨k,rfl,_,i⟩:=i u f e;exact⟨k,oo i,dT.2 rfl⟩
  .cases d
 .
  rename_i m;split at d;.rename_i u f e;cases d;rw[ij]at a;obtain⟨_,_,i⟩:=a;rw[<-M.st]at e;exact⟨f.length,oo (i.1 u f e),dT.2 rfl⟩
  .rename_i g u f e;cases d;rw[ij]at a;obtain⟨_,_,i⟩:=a;rw[<-M.st]at e;exact⟨f.length,oo (i.2 _ _ e rfl),dT.2 rfl⟩
  .cases d
 .
  rename_i m u f;split at d
  .
   rename_i c w e;cases d;rw[zz]at a;rw[<-M.st]at e;obtain⟨z,t,x,j,p⟩:=a.2.2 c w e;cases j;refine⟨f.length,?_,dT.2 rfl⟩;rw[<-t.bm.1];rcases p with⟨rfl,rfl|rfl|rfl⟩|⟨b,o,y,⟨j,_⟩,_⟩;.rfl
   .rfl
   .rfl
   .subst j;rfl
  .cases d
 .cases d
theorem O4(M:da S h E){t:Nat}{s:SV}{v:HV}(j:KZ cy S t s K=some r)(a:V E s v):Pu E h K r (fz cy.cx h .len [t] [v]):=by
 unfold KZ at j;rw[aH]at j;split at j
 .
  rename_i y0;obtain⟨x,x0,z⟩:=oz y0;obtain⟨w0,d,C⟩:=jG j;obtain⟨n,i,B⟩:=Ig M d a;refine⟨w0,.int .i64 (Int.ofNat n),?_,B,C⟩;unfold fz;simp only;rw[x0];simp only;split at z;.rename_i p;rw[qn]at a;subst a;rw[p];cases i;rfl
  .cases z
  .
   rename_i e p z0;rw[p]
   cases v with
    |dH b=>
    exfalso;unfold AQ at d;split at d;.exact z0 _ rfl
    .rw[oJ]at a;rcases a with⟨_,h|h|h⟩|⟨b,o,y,⟨h,_⟩,_⟩<;>cases h
    .rw[lF]at a;cases a
    .rw[qp]at a;rcases a with h|h<;>cases h
    .rw[uS]at a;obtain⟨_,b,_,h,_⟩:=a;cases h
    .rw[zB]at a;obtain⟨_,b,_,h⟩:=a;cases h
    .
     rename_i m q;split at d;.rename_i u l f;rw[x6]at a;obtain⟨k,_,_,this⟩:=a.2.2 u l (by rw[M.st];exact f);exact yF this
     .cases d
    .
     rename_i m;split at d;.rename_i u l f;rw[ij]at a;exact yF (a.2.2.1 u l (by rw[M.st];exact f))
     .rename_i g u l f;rw[ij]at a;exact yF (a.2.2.2 _ _ (by rw[M.st];exact f) rfl)
     .cases d
    .
     rename_i m u l;split at d;.rename_i c w f;rw[zz]at a;obtain⟨u0,_,v0,A,D⟩:=a.2.2 c w (by rw[M.st];exact f);cases A;rcases D with⟨_,h|h|h⟩|⟨b,o,y,⟨h,_⟩,_⟩<;>cases h
     .cases d
    .cases d
    |_=>first|(simp only;rw[i];done)|(cases i;done)|(simp only[lenOf]at i⊢;cases i;rfl)
  .cases z
 .cases j
theorem H5{f:Bool}{l:List SV}{k:List HV}{s:SV}(c:UE f l=some s)(j:Vs E l k):∃v,xF f k=some v/\V E s v:=by
 unfold UE at c;split at c;.rename_i m a n b;cases c;unfold Vs at j;obtain⟨q,o,rfl,d,g⟩:=j;unfold Vs at g;obtain⟨t,p,rfl,e,i⟩:=g;unfold Vs at i;subst i;have d:=dT.1 d;have e:=dT.1 e;subst d;subst e;refine⟨_,rfl,dT.2 ?_⟩;unfold bN WV;cases f<;>cases decide (a<=b)<;>rfl
 .cases c
theorem KE{c:SV}{w:HV}{a b:Option SV}{x y:Option HV}(d:QI c a b K=some r)(z:V E c w)(t:∀s,a=some s->∃v,x=some v/\V E s v)(u:∀s,b=some s->∃v,y=some v/\V E s v):Pu E h K r (qW h w x y):=by
 cases c with
  |bool l q=>
  rw[iV]at z;subst z
  cases l with
   |true=>
   have d:(bif q then pf a K else pf b K)=some r:=by cases a<;>cases b<;>exact d
   cases q with
    |true=>obtain⟨s,e,j⟩:=jG d;obtain⟨v,rfl,g⟩:=t s e;exact⟨s,v,rfl,g,j⟩
    |false=>obtain⟨s,e,j⟩:=jG d;obtain⟨v,rfl,g⟩:=u s e;exact⟨s,v,rfl,g,j⟩
   |false=>
   cases a with
    |none=>cases b<;>cases d
    |some a=>
    cases b with
     |none=>cases a<;>cases d
     |some b=>
     obtain⟨v,rfl,g⟩:=t _ rfl;obtain⟨D,rfl,i⟩:=u _ rfl
     have C:ad q (K a) (K b)=some r->Pu E h K r (qW h (.bool q) (some v) (some D)):=by
      intro d;rcases sn d with⟨rfl,e⟩|⟨rfl,e⟩;.exact⟨_,_,rfl,g,e⟩
      .exact⟨_,_,rfl,i,e⟩
     by_cases A:∃l k n B o p,a= .int l k n/\b= .int B o p
     .
      obtain⟨l,k,n,B,o,p,rfl,rfl⟩:=A;have f:(bif nM k o then K (.int false k (WO q n p))else none)=some r:=d;rw[aH]at f;split at f
      .rename_i m;have m:=oT m;subst m;rw[dT]at g i;subst g;subst i;cases q with
       |true=>exact⟨_,_,rfl,dT.2 rfl,f⟩
       |false=>exact⟨_,_,rfl,dT.2 rfl,f⟩
      .cases f
     .
      apply C;cases a<;>first|exact d|skip
      cases b<;>first|exact d|exact absurd ⟨_,_,_,_,_,_,rfl,rfl⟩ A
  |_=>cases a<;>cases b<;>cases d
theorem Qk{op:UnOp}{s d:SV}{v:HV}(a:XH op s=some d)(c:V E s v):∃w,Ah h op v=some (.val w h)/\V E d w:=by
 unfold XH at a;split at a;.rename_i l b;cases a;rw[iV]at c;subst c;refine⟨_,rfl,iV.2 ?_⟩;cases l<;>rfl
 .
  rename_i l k n;cases a;rw[dT]at c;subst c;refine⟨_,rfl,?_⟩;cases l;.exact dT.2 rfl
  .exact dT.2 rfl
 .cases a
theorem OT(M:da S h E){s k:SV}{v:HV}(d:QV S s=some k)(a:V E s v):∃w,wQ h v=some (.val w h)/\V E k w:=by
 unfold QV at d;split at d;.cases d;have f:=a;rw[lZ]at a;obtain⟨_,b,_,rfl⟩:=a;exact⟨_,rfl,f⟩
 .
  rename_i m i o;split at d;.rename_i e l g;cases d;have f:=a;rw[nY]at a;obtain⟨b,j,_,_,_,rfl⟩:=a.2.2.1 e l (by rw[M.st];exact g);exact⟨_,rfl,f⟩
  .cases d
 .cases d;have f:=a;rw[qo]at a;obtain⟨b,o,_,_,rfl,_⟩:=a;exact⟨_,rfl,f⟩
 .
  rename_i m u x;split at d;.rename_i c w g;cases d;have f:=a;rw[rx]at a;obtain⟨b,o,_,_,_,rfl,_⟩:=a.2.2 c w (by rw[M.st];exact g);exact⟨_,rfl,f⟩
  .cases d
 .cases d
theorem G7:∀{l:List SV}{c:List HV}{i:Nat}{s:SV},Vs E l c->l[i]?=some s->∃v,c[i]?=some v/\V E s v
 |[],_,_,_,_,b=>by simp at b
 |a::l,c,i,s,d,b=>by unfold Vs at d;obtain⟨v,r,rfl,g,j⟩:=d;cases i with
  |zero=>simp only[ke,eP]at b;subst b;exact⟨v,rfl,g⟩
  |succ i=>simp only[dP]at b;obtain⟨w,e,f⟩:=G7 j b;exact⟨w,by simpa using e,f⟩
theorem DI{s c:SV}{v:HV}{i:Nat}(a:y8 s i=some c)(b:V E s v):∃w,lV h v i=some (.val w h)/\V E c w:=by
 unfold y8 at a;split at a;.rename_i l;rw[C1]at b;obtain⟨f,rfl,b⟩:=b;obtain⟨w,d,e⟩:=G7 b a;refine⟨w,?_,e⟩;unfold lV;simp only;rw[d]
 .cases a
end
theorem fy{y:gY}:∀{k o:Nat}{l:List HV},cu y o k=some l↔l.length=k∧∀i,i<k→o+i<y.n∧y.c.ap (o+i)=l[i]?
 |0,o,l=>by
  constructor;·intro h;cases h;exact⟨rfl,fun i c=>by cases c⟩
  ·rintro⟨h,_⟩;cases l with
   |nil=>rfl
   |cons _ _=>cases h
 |k+1,o,l=>by
  constructor;·intro h;obtain⟨a,b⟩:=qS h;refine⟨a,fun i c=>?_⟩;have e:l[i]?=some (l[i]'(by omega)):=G (by omega);obtain⟨g,j⟩:=b i _ e;exact⟨g,by rw[j,e]⟩
  ·
   rintro⟨a,b⟩
   cases l with
    |nil=>cases a
    |cons v l=>
    have d:=b 0 (by omega);have n:=(fy (y:=y) (k:=k) (o:=o+1) (l:=l)).2 ⟨by simpa using a,fun i c=>by have:=b (i+1) (by omega);rw[show o+(i+1)=o+1+i by omega]at this;simpa using this⟩
    have m:y.ap o=some v:=by
     unfold gY.ap;have f:Nat.blt o y.n=true:=by have:=d.1;rw[de];omega
     rw[f];have:=d.2;simpa using this
    show(match y.ap o with
     |some v=>match cu y (o+1) k with|some l=>some (v::l)|none=>none
     |none=>none)=_
    rw[m,n]
theorem wN{y:gY}{w:Bool}{z n a k:Nat}{c c1 c2 c3:List HV}(hg:cu y a k=some (c1++(c2++c3)))(h:c2.length=c.length)(m:y.n<=n):cu ⟨w,z,n,cr y.c (a+c1.length) c⟩ a k=some (c1++(c++c3)):=by
 rw[fy]at hg⊢;obtain⟨f,g⟩:=hg;simp only[az]at f⊢;refine⟨by omega,λi j=>?_⟩;obtain⟨l,e⟩:=g i j;refine⟨by show a+i<n;omega,?_⟩;show(cr y.c (a+c1.length) c).ap (a+i)=_;rw[gK];by_cases d:a+c1.length<=a+i/\a+i<a+c1.length+c.length;.rw[aE d];rw[bB (by omega),bJ (by omega)];congr 1;omega
 .
  rw[aG d,e];by_cases b:i<c1.length;.rw[bJ b,bJ b]
  .rw[bB (by omega),bB (by omega),bB (by omega),bB (by omega),h]
theorem nw{y:gY}{w:Bool}{z n a k p:Nat}{c l:List HV}(hg:cu y a k=some l)(hd:a+k<=p\/p+c.length<=a)(h:a+k<=n):cu ⟨w,z,n,cr y.c p c⟩ a k=some l:=by rw[fy]at hg⊢;obtain⟨d,e⟩:=hg;refine⟨d,λi f=>?_⟩;obtain⟨g,b⟩:=e i f;refine⟨by show a+i<n;omega,?_⟩;show(cr y.c p c).ap (a+i)=_;rw[gK,aG (by omega),b]
theorem ic{T:Tr HV}{w:Bool}{z n p:Nat}{c:List HV}(b:p+c.length<=n):cu ⟨w,z,n,cr T p c⟩ p c.length=some c:=by rw[fy];refine⟨rfl,λi a=>⟨by show p+i<n;omega,?_⟩⟩;show(cr T p c).ap (p+i)=_;rw[gK,aE (by omega)];congr 1;omega
theorem se{i n z:Nat}(h:i<n):i*z+z<=n*z:=by have:=cq z (Nat.succ_le_of_lt h);rw[iG]at this;exact this
section
variable{α:Type}{R:List HV->α->Prop}
theorem Hb{y:gY}{z:Nat}(k:∀c x,R c x->c.length=z):∀{xs:List α}{o:Nat},(∀i x,xs[i]?=some x->∃cs,cu y (o+i*z) z=some cs/\R cs x)->∃cs,cu y o (xs.length*z)=some cs/\mB R cs xs
 |[],o,_=>⟨[],by rw[gp,gf];rfl,rfl⟩
 |x::xs,o,h=>by obtain⟨c,a,f⟩:=h 0 x (by simp);obtain⟨d,g,j⟩:=Hb k (xs:=xs) (o:=o+z) (λi w l=>by obtain⟨cs,b,e⟩:=h (i+1) w (by simpa using l);refine⟨cs,?_,e⟩;rw[show o+z+i*z=o+(i+1)*z by rw[iG];omega];exact b);rw[gf,fh]at a;refine⟨c++d,?_,⟨c,d,rfl,f,j⟩⟩;rw[bx,iG,Nat.add_comm];exact qT.2 ⟨c,d,rfl,a,g⟩
theorem HN{y:gY}{w:Bool}{z z' n:Nat}{xs bT:List α}{c:List HV}(b:∀c x,R c x->c.length=z)(h:∀i x,xs[i]?=some x->∃cs,cu y (i*z) z=some cs/\R cs x)(d:mB R c bT)(l:(xs.length+bT.length)*z<=n)(i:Nat)(x:α)(a:(xs++bT)[i]?=some x):∃cs,cu ⟨w,z',n,cr y.c (xs.length*z) c⟩ (i*z) z=some cs/\R cs x:=by
 have t:=mP b d;rw[go]at l;by_cases e:i<xs.length;.rw[bJ e]at a;obtain⟨cs,g,j⟩:=h i x a;have:=se (z:=z) e;exact⟨cs,nw g (.inl this) (by omega),j⟩
 .rw[bB (by omega)]at a;obtain⟨r,f,s,m,o,p,q⟩:=lf b d a;refine⟨f,?_,q⟩;have k:=ic (T:=y.c) (w:=w) (z:=z') (n:=n) (p:=xs.length*z) (c:=c) (by omega);have:=eL k m o p;rw[<-go,show xs.length+(i-xs.length)=i by omega]at this;exact this
theorem QD{y:gY}{w:Bool}{z z' n j p:Nat}{xs:List α}{t e:α}{c c1 c2 c3:List HV}(h:∀i x,xs[i]?=some x->∃cs,cu y (i*z) z=some cs/\R cs x)(r:xs[j]?=some t)(hg:cu y (j*z) z=some (c1++(c2++c3)))(hp:c1.length=p)(l:c2.length=c.length)(g:R (c1++(c++c3)) e)(q:y.n<=n)(i:Nat)(x:α)(a:(xs.set j e)[i]?=some x):∃cs,cu ⟨w,z',n,cr y.c (j*z+p) c⟩ (i*z) z=some cs/\R cs x:=by
 have m:j<xs.length:=(aj.1 r).1;have o:=ie hg;simp only[az]at o;by_cases d:i=j;.subst d;rw[bq m]at a;cases a;subst hp;exact⟨_,wN hg l q,g⟩
 .
  rw[bE λh=>d h.symm]at a;obtain⟨cs,b,f⟩:=h i x a
  have k:i*z+z<=n:=by
   rw[fy]at b;by_cases s:z=0;.subst s;rw[fy]at hg;omega
   .have:=(b.2 (z-1) (by omega)).1;omega
  refine⟨cs,nw b ?_ k,f⟩;rcases mC d with h|h;.have:=se (z:=z) h;exact .inl (by omega)
  .have:=se (z:=z) h;exact .inr (by omega)
end
section
variable{S:SS}{h:St}{E:En}
def tK(E:En)(hp':Tr Hm.Obj)(n:Nat)(o:Option Nat)(q:Nat->Option Nat)(st:Tr iK):En:=⟨hp',E.Z,λj=>bif Nat.beq j n then o else E.mb j,λj k=>bif Nat.beq j n then q k else E.ib j k,st,n+1,E.lo⟩
def OV(E:En)(hp':Tr Hm.Obj)(n:Nat)(o:Option Nat)(st:Tr iK):En:=tK E hp' n o (λ_=>none) st
theorem kb{a b:Nat}(h:a≠b):Nat.beq a b=false:=by cases c:Nat.beq a b with
 |false=>rfl
 |true=>exact absurd (au c) h
theorem uR(M:da S h E){st1:Tr iK}{hp':Tr Hm.Obj}{nx':Nat}{o:Option Nat}{q:Nat→Option Nat}{e:iK}(h1:∀j e,st1.ap j=some e→S.st.ap j=some e)(h2:∀j,S.st.ap j≠none→st1.ap j=none→S.jQ j=true)(z:∀b,b<h.nx→hp'.ap b=h.hp.ap b∨∃j e,S.st.ap j=some e∧Bk E j b∧st1.ap j=none)(n0:h.nx≤nx')(s9:∀b,nx'≤b→hp'.ap b=none)(p0:e.rn=none→∀k,q k=none)(t0:∀b,(o=some b∨∃k,q k=some b)→b<nx'∧(h.nx≤b∨∃j e,S.st.ap j=some e∧Bk E j b∧st1.ap j=none∧bw j S.lk=false))(t9:(∀u cs x,dw E.hp E.Z u cs x→dw hp' E.Z u cs x)→(∀d0 cs,dy E d0 cs→dy (tK E hp' S.nx o q (st1.set S.nx e)) d0 cs)→oj (tK E hp' S.nx o q (st1.set S.nx e)) S.nx e):da (S.mem (st1.set S.nx e) (Nat.add S.nx 1)) ⟨h.nt,h.dE,hp',nx',h.lk,h.df⟩ (tK E hp' S.nx o q (st1.set S.nx e))∧Gr S h E (S.mem (st1.set S.nx e) (Nat.add S.nx 1)) ⟨h.nt,h.dE,hp',nx',h.lk,h.df⟩ (tK E hp' S.nx o q (st1.set S.nx e)):=by
 have j0:∀j,(st1.set S.nx e).ap j=if j=S.nx then some e else st1.ap j:=fun j=>Tr.dg _ _ _ _
 have p:∀j d,(st1.set S.nx e).ap j=some d→j=S.nx∧d=e∨j≠S.nx∧st1.ap j=some d∧S.st.ap j=some d:=by
  intro j d a;rw[j0]at a;split at a;·cases a;exact .inl ⟨by assumption,rfl⟩
  ·exact .inr ⟨by assumption,a,h1 j d a⟩
 have l0:∀j,j≠S.nx→(tK E hp' S.nx o q (st1.set S.nx e)).mb j=E.mb j:=by intro j a;show(bif Nat.beq j S.nx then o else E.mb j)=_;rw[kb a];rfl
 have o9:(tK E hp' S.nx o q (st1.set S.nx e)).mb S.nx=o:=by show(bif Nat.beq S.nx S.nx then o else E.mb S.nx)=_;rw[show Nat.beq S.nx S.nx=true by simp];rfl
 have D:∀j,j≠S.nx→∀k,(tK E hp' S.nx o q (st1.set S.nx e)).ib j k=E.ib j k:=by intro j a k;show(bif Nat.beq j S.nx then q k else E.ib j k)=_;rw[kb a];rfl
 have a0:∀k,(tK E hp' S.nx o q (st1.set S.nx e)).ib S.nx k=q k:=by intro k;show(bif Nat.beq S.nx S.nx then q k else E.ib S.nx k)=_;rw[show Nat.beq S.nx S.nx=true by simp];rfl
 have C:∀j,j≠S.nx→∀b,Bk (tK E hp' S.nx o q (st1.set S.nx e)) j b↔Bk E j b:=by
  intro j a b;unfold Bk;rw[l0 j a];constructor
  ·
   rintro(g|⟨k,g⟩);·exact .inl g
   ·rw[D j a]at g;exact .inr ⟨k,g⟩
  ·
   rintro(g|⟨k,g⟩);·exact .inl g
   ·exact .inr ⟨k,by rw[D j a];exact g⟩
 have v0:∀b,Bk (tK E hp' S.nx o q (st1.set S.nx e)) S.nx b↔o=some b∨∃k,q k=some b:=by intro b;unfold Bk;rw[o9];simp only[a0]
 have e0:∀b,E.Z b→hp'.ap b=E.hp.ap b:=by
  intro b v;rw[M.hp];rcases z b (M.z b v)with g|⟨j,d,n,m,_⟩;·exact g
  ·exact absurd v (M.own j d b n m).1
 have h0:∀j d,st1.ap j=some d→S.st.ap j=some d→∀b,Bk E j b→hp'.ap b=h.hp.ap b:=by
  intro j d n m b l;rcases z b (M.own j d b m l).2 with g|⟨A,y,z0,B,k0⟩;·exact g
  ·have:=M.inj j A d y b m z0 l B;subst this;rw[k0]at n;cases n
 have f:Fm E.nx E (tK E hp' S.nx o q (st1.set S.nx e)):=⟨rfl,fun j c w a s=>by
  rw[M.nx]at a;rcases p j _ s with⟨g,_⟩|⟨_,n,g⟩;·omega
  ·
   refine⟨c,by rw[M.st];exact g,id,D j (by omega),fun b z=>?_⟩;have:(tK E hp' S.nx o q (st1.set S.nx e)).hp.ap b=E.hp.ap b:=by rw[M.hp];exact h0 j _ n g b (.inr z)
   rw[this];exact fK c _,fun _ z=>z,e0,by rw[M.nx];exact dz _,fun j a=>l0 j (by rw[M.nx]at a;omega),fun j u s0 a s=>by
  rw[M.nx]at a;rcases p j _ s with⟨g,_⟩|⟨_,_,g⟩;·omega
  ·exact⟨s0,by rw[M.st];exact g,rfl⟩,fun j t k a s i0=>by
  rw[M.nx]at a;rcases p j _ s with⟨g,_⟩|⟨_,_,g⟩;·omega
  ·exact⟨t,by rw[M.st];exact g,i0⟩,fun j x9 u s0 a _ s=>by
  rw[M.nx]at a;rcases p j _ s with⟨g,_⟩|⟨_,_,g⟩;·omega
  ·exact⟨s0,by rw[M.st];exact g,fp.refl,D j (by omega)⟩⟩
 have w9:=t9 (fun u cs x f0=>f0.mono (fun _ z=>z) e0) fun d0 cs f0=>dy.fm f (.inl rfl) f0;constructor
 ·
  refine⟨rfl,rfl,rfl,fun j d a=>?_,fun j d a=>?_,fun i j b0 w0 b r9 a r0 q0=>?_,fun j d b a l=>?_,fun b v=>aQ (M.z b v) n0,s9,fun b u0=>⟨aQ (M.lk b u0).1 n0,fun j d a l=>?_⟩,fun j b l=>?_,fun j d a z9=>?_,fun b v q9=>by obtain⟨x,n,m⟩:=M.zo b v q9;exact⟨x,by rw[←n,←M.hp];exact e0 b v,m⟩⟩
  ·
   show j<S.nx+1;rcases p j _ a with⟨g,_⟩|⟨_,_,g⟩;·omega
   ·have:=M.lt j d g;omega
  ·
   rcases p j _ a with⟨rfl,rfl⟩|⟨r,n,m⟩;·exact w9
   ·refine(M.gm j d m).fm f (l0 j r) (D j r) fun b l=>?_;show hp'.ap b=E.hp.ap b;rw[M.hp];exact h0 j d n m b l
  ·
   have y9:∀j w0,st1.ap j=some w0→S.st.ap j=some w0→Bk E j b→(o=some b∨∃k,q k=some b)→False:=by
    intro j w0 o0 z0 B k0;rcases(t0 b k0).2 with g|⟨A,y,y0,x0,m0,_⟩;·have:=(M.own j w0 b z0 B).2;omega
    ·have:=M.inj j A w0 y b z0 y0 B x0;subst this;rw[m0]at o0;cases o0
   rcases p i _ r9 with⟨rfl,rfl⟩|⟨r,n,m⟩
   ·
    rcases p j _ a with⟨rfl,rfl⟩|⟨o0,z0,B⟩;·rfl
    ·rw[v0]at r0;rw[C j o0]at q0;exact(y9 j w0 z0 B q0 r0).elim
   ·
    rcases p j _ a with⟨rfl,rfl⟩|⟨o0,z0,B⟩;·rw[v0]at q0;rw[C i r]at r0;exact(y9 i b0 n m r0 q0).elim
    ·rw[C i r]at r0;rw[C j o0]at q0;exact M.inj i j b0 w0 b m B r0 q0
  ·
   rcases p j _ a with⟨rfl,rfl⟩|⟨r,n,m⟩
   ·
    rw[v0]at l;refine⟨fun v=>?_,(t0 b l).1⟩;have v:E.Z b:=v;rcases(t0 b l).2 with g|⟨A,y,y0,x0,m0,_⟩;·have:=M.z b v;omega
    ·exact(M.own A y b y0 x0).1 v
   ·rw[C j r]at l;exact⟨(M.own j d b m l).1,aQ (M.own j d b m l).2 n0⟩
  ·
   rcases p j _ a with⟨rfl,rfl⟩|⟨r,n,m⟩
   ·
    rw[v0]at l;rcases(t0 b l).2 with g|⟨A,y,y0,x0,m0,c0⟩;·have:=(M.lk b u0).1;omega
    ·have:=(M.lk b u0).2 A y y0 x0;rw[c0]at this;cases this
   ·rw[C j r]at l;exact(M.lk b u0).2 j d m l
  ·
   by_cases a:j=S.nx;·subst a;rw[v0]at l;exact(t0 b l).1
   ·rw[C j a]at l;exact aQ (M.rq j b l) n0
  ·
   rcases p j _ a with⟨rfl,rfl⟩|⟨r,n,m⟩;·exact fun k=>(a0 k).trans (p0 z9 k)
   ·intro k;rw[D j r];exact M.py j d m z9 k
 ·
  refine⟨rfl,rfl,rfl,rfl,rfl,rfl,rfl,rfl,n0,dz _,fun _ z=>z,fun b v=> .inl v,fun b p9 g0=>?_,fun b g0=>?_,fun j a=>l0 j (by omega),fun j a v9=>?_,fun j a u9=>?_,fun j u s0 a s=>?_,fun b j d u0 a l=>?_,fun j t k a s i0=>?_,fun j x9 u s0 a _ s=>?_,fun j a _=>D j (by omega),rfl,fun j c w a s=>?_⟩
  ·
   rcases z b p9 with g|⟨A,y,z0,B,k0⟩;·exact g
   ·exact absurd ⟨A,y,z0,B⟩ g0
  ·
   obtain⟨j,d,a,l⟩:=g0;rcases p j _ a with⟨rfl,rfl⟩|⟨r,n,m⟩
   ·
    rw[v0]at l;rcases(t0 b l).2 with g|⟨A,y,y0,x0,m0,_⟩;·exact .inr g
    ·exact .inl ⟨A,y,y0,x0⟩
   ·rw[C j r]at l;exact .inl ⟨j,d,m,l⟩
  ·show(st1.set S.nx e).ap j=_;rw[j0,aG (by omega)];cases p0:st1.ap j with
   |some d=>exact(h1 j d p0).symm
   |none=>cases n9:S.st.ap j with
   |none=>rfl
   |some d=>have:=h2 j (by rw[n9];exact fun h=>by cases h) p0;rw[v9]at this;cases this
  ·show(st1.set S.nx e).ap j=_;rw[j0,aG (by omega)];cases p0:st1.ap j with
   |some d=>have:=h1 j d p0;rw[u9]at this;cases this
   |none=>rfl
  ·
   rcases p j _ s with⟨g,_⟩|⟨_,_,g⟩;·omega
   ·exact⟨s0,g,rfl⟩
  ·
   rcases p j _ a with⟨rfl,rfl⟩|⟨r,n,m⟩
   ·
    rw[v0]at l;rcases(t0 b l).2 with g|⟨A,y,y0,x0,m0,c0⟩;·have:=(M.lk b u0).1;omega
    ·have:=(M.lk b u0).2 A y y0 x0;rw[c0]at this;cases this
   ·rw[C j r]at l;exact⟨d,m,l⟩
  ·
   rcases p j _ s with⟨g,_⟩|⟨_,_,g⟩;·omega
   ·exact⟨t,g,i0⟩
  ·
   rcases p j _ s with⟨g,_⟩|⟨_,_,g⟩;·omega
   ·exact⟨s0,g,fp.refl,D j (by omega)⟩
  ·
   rcases p j _ s with⟨g,_⟩|⟨_,n,g⟩;·omega
   ·refine⟨c,g,id,D j (by omega),fun b z=>?_⟩;have:hp'.ap b=h.hp.ap b:=h0 j _ n g b (.inr z);show Le c (h.hp.ap b) (hp'.ap b);rw[this];exact fK c _
theorem nj(M:da S h E){st1:Tr iK}{hp':Tr Hm.Obj}{nx':Nat}{o:Option Nat}{e:iK}(h1:∀j e,st1.ap j=some e->S.st.ap j=some e)(h2:∀j,S.st.ap j≠none->st1.ap j=none->S.jQ j=true)(c:∀b,b<h.nx->hp'.ap b=h.hp.ap b\/∃j e,S.st.ap j=some e/\Bk E j b/\st1.ap j=none)(g:h.nx<=nx')(f:∀b,nx'<=b->hp'.ap b=none)(i:∀b,o=some b->b<nx'/\(h.nx<=b\/∃j e,S.st.ap j=some e/\Bk E j b/\st1.ap j=none/\bw j S.lk=false))(d:(∀u cs x,dw E.hp E.Z u cs x->dw hp' E.Z u cs x)->(∀a cs,dy E a cs->dy (OV E hp' S.nx o (st1.set S.nx e)) a cs)->oj (OV E hp' S.nx o (st1.set S.nx e)) S.nx e):da (S.mem (st1.set S.nx e) (Nat.add S.nx 1)) ⟨h.nt,h.dE,hp',nx',h.lk,h.df⟩ (OV E hp' S.nx o (st1.set S.nx e))/\Gr S h E (S.mem (st1.set S.nx e) (Nat.add S.nx 1)) ⟨h.nt,h.dE,hp',nx',h.lk,h.df⟩ (OV E hp' S.nx o (st1.set S.nx e)):=uR M h1 h2 c g f (λ_ _=>rfl) (λb h=>i b (h.elim id λ⟨_,k⟩=>by cases k)) d
def Ax(E:En)(hp':Tr Hm.Obj)(st:Tr iK):En:=⟨hp',E.Z,E.mb,E.ib,st,E.nx,E.lo⟩
theorem rL(M:da S h E){m b:Nat}{q e:iK}{hp':Tr Hm.Obj}(o:S.st.ap m=some q)(z0:S.jQ m=true)(l:Bk E m b)(hp:∀c,c≠b->hp'.ap c=h.hp.ap c)(D:∀u xs,e= .row u xs->∃p,q= .row u p/\p.length=xs.length)(k0:∀g u xs,e= .rows g u xs->∃p,q= .rows g u p/\p.length=xs.length/\fp p xs)(r0:e.rn=q.rn)(b0:(∀u cs x,dw E.hp E.Z u cs x->dw hp' E.Z u cs x)->(∀o0 cs,dy E o0 cs->dy (Ax E hp' (S.st.set m e)) o0 cs)->oj (Ax E hp' (S.st.set m e)) m e)(j0:∀c w,e≠.zn c w:=by intro c w h;cases h):da (S.iy m e) ⟨h.nt,h.dE,hp',h.nx,h.lk,h.df⟩ (Ax E hp' (S.st.set m e))/\Gr S h E (S.iy m e) ⟨h.nt,h.dE,hp',h.nx,h.lk,h.df⟩ (Ax E hp' (S.st.set m e)):=by
 have t0:∀j,(S.st.set m e).ap j=if j=m then some e else S.st.ap j:=λj=>Tr.dg _ _ _ _
 have s:∀j d,(S.st.set m e).ap j=some d->j=m/\d=e\/j≠m/\S.st.ap j=some d:=by
  intro j d a;rw[t0]at a;split at a;.cases a;exact .inl ⟨by assumption,rfl⟩
  .exact .inr ⟨by assumption,a⟩
 have z:∀j d,(S.st.set m e).ap j=some d->∃r,S.st.ap j=some r:=by
  intro j d a;rcases s j d a with⟨rfl,_⟩|⟨_,g⟩;.exact⟨q,o⟩
  .exact⟨d,g⟩
 have p0:∀c,E.Z c->hp'.ap c=E.hp.ap c:=by intro c x0;rw[M.hp];refine hp c ?_;rintro rfl;exact(M.own m q c o l).1 x0
 have m0:∀j d,j≠m->S.st.ap j=some d->∀c,Bk E j c->hp'.ap c=h.hp.ap c:=λj d a g c z9=>hp c (by rintro rfl;exact a (M.inj j m d q c g o z9 l))
 have f:Fm E.nx E (Ax E hp' (S.st.set m e)):=⟨rfl,λj c w a n=>by
  rcases s j _ n with⟨_,g⟩|⟨C,g⟩;.exact absurd g.symm (j0 c w)
  .
   refine⟨c,by rw[M.st];exact g,id,λ_=>rfl,λb l=>?_⟩;have:(Ax E hp' (S.st.set m e)).hp.ap b=E.hp.ap b:=by rw[M.hp];exact m0 j _ C g b (.inr l)
   rw[this];exact fK c _,λ_ l=>l,p0,ar _,λj a=>rfl,λj u xs a n=>by
  rcases s j _ n with⟨rfl,g⟩|⟨_,g⟩;.obtain⟨p,A,B⟩:=D u xs g.symm;exact⟨p,by rw[M.st,o,A],B⟩
  .exact⟨xs,by rw[M.st];exact g,rfl⟩,λj t k a n y0=>by
  rcases s j _ n with⟨rfl,g⟩|⟨_,g⟩;.exact⟨q,by rw[M.st,o],by rw[<-r0,<-g];exact y0⟩
  .exact⟨t,by rw[M.st];exact g,y0⟩,λj w0 u xs a _ n=>by
  rcases s j _ n with⟨rfl,g⟩|⟨_,g⟩;.obtain⟨p,A,_,B⟩:=k0 w0 u xs g.symm;exact⟨p,by rw[M.st,o,A],B,λ_=>rfl⟩
  .exact⟨xs,by rw[M.st];exact g,fp.refl,λ_=>rfl⟩⟩
 have c0:=b0 (λu cs x D=>D.mono (λ_ l=>l) p0) λo0 cs D=>dy.fm f (.inl rfl) D;constructor
 .
  refine⟨rfl,rfl,M.nx,λj d a=>?_,λj d a=>?_,λi j g0 e0 c a0 a i0 h0=>?_,λj d c a v=>?_,M.z,λc z0=>?_,λc s0=>⟨(M.lk c s0).1,λj d a v=>?_⟩,M.rq,λj d a l0=>?_,λc x0 y9=>by obtain⟨x,v0,y⟩:=M.zo c x0 y9;exact⟨x,by rw[<-v0,<-M.hp];exact p0 c x0,y⟩⟩;.obtain⟨r,g⟩:=z j d a;exact M.lt j r g
  .
   rcases s j _ a with⟨rfl,rfl⟩|⟨C,y⟩;.exact c0
   .refine(M.gm j d y).fm f rfl (λ_=>rfl) λc v=>?_;show hp'.ap c=E.hp.ap c;rw[M.hp];refine hp c ?_;rintro rfl;exact C (M.inj j m d q c y o v l)
  .obtain⟨f0,v0⟩:=z i g0 a0;obtain⟨d0,y⟩:=z j e0 a;exact M.inj i j f0 d0 c v0 y i0 h0
  .obtain⟨r,g⟩:=z j d a;exact M.own j r c g v
  .
   have z0:h.nx<=c:=z0;rw[hp c ?_];.exact M.fr c z0
   .rintro rfl;have:=(M.own m q c o l).2;omega
  .obtain⟨r,g⟩:=z j d a;exact(M.lk c s0).2 j r g v
  .
   rcases s j _ a with⟨rfl,rfl⟩|⟨C,y⟩;.exact M.py j q o (r0▸l0)
   .exact M.py j d y l0
 .
  refine⟨rfl,rfl,rfl,rfl,rfl,rfl,rfl,rfl,ar _,ar _,λ_ l=>l,λb x9=> .inl x9,λc w9 q0=>?_,λc q0=>?_,λj a=>rfl,λj a n0=>?_,λj a u0=>?_,λj u xs a n=>?_,λc j d s0 a v=>?_,λj t k a n y0=>?_,λj w0 u xs a _ n=>?_,λ_ _ _ _=>rfl,rfl,λj c w a n=>?_⟩;.refine hp c ?_;rintro rfl;exact q0 ⟨m,q,o,l⟩
  .obtain⟨j,d,a,v⟩:=q0;obtain⟨r,g⟩:=z j d a;exact .inl ⟨j,r,g,v⟩
  .show(S.st.set m e).ap j=_;rw[t0,aG];rintro rfl;rw[z0]at n0;cases n0
  .
   show(S.st.set m e).ap j=_;rw[t0,aG];.exact u0
   .rintro rfl;rw[o]at u0;cases u0
  .
   rcases s j _ n with⟨rfl,g⟩|⟨_,g⟩;.obtain⟨p,A,B⟩:=D u xs g.symm;exact⟨p,by rw[o,A],B⟩
   .exact⟨xs,g,rfl⟩
  .obtain⟨r,g⟩:=z j d a;exact⟨r,g,v⟩
  .
   rcases s j _ n with⟨rfl,g⟩|⟨_,g⟩;.exact⟨q,o,by rw[<-r0,<-g];exact y0⟩
   .exact⟨t,g,y0⟩
  .
   rcases s j _ n with⟨rfl,g⟩|⟨_,g⟩;.obtain⟨p,A,_,B⟩:=k0 w0 u xs g.symm;exact⟨p,by rw[o,A],B,λ_=>rfl⟩
   .exact⟨xs,g,fp.refl,λ_=>rfl⟩
  .
   rcases s j _ n with⟨_,g⟩|⟨C,g⟩;.exact absurd g.symm (j0 c w)
   .refine⟨c,g,id,λ_=>rfl,λb l=>?_⟩;have:hp'.ap b=h.hp.ap b:=m0 j _ C g b (.inr l);show Le c (h.hp.ap b) (hp'.ap b);rw[this];exact fK c _
theorem QB(M:da S h E){m b:Nat}{hp':Tr Hm.Obj}(g:S.st.ap m=some (.zn false true))(e:Bz E m b)(hp:∀c,c≠b->hp'.ap c=h.hp.ap c)(v:Lo (h.hp.ap b) (hp'.ap b))(w0:ra hp' b):da S ⟨h.nt,h.dE,hp',h.nx,h.lk,h.df⟩ (Ax E hp' E.st)/\Gr S h E S ⟨h.nt,h.dE,hp',h.nx,h.lk,h.df⟩ (Ax E hp' E.st):=by
 have C:∀c,E.Z c->hp'.ap c=E.hp.ap c:=by intro c o;rw[M.hp];refine hp c ?_;rintro rfl;exact(M.own m _ c g (.inr e)).1 o
 have B:∀j c w,S.st.ap j=some (.zn c w)->∀x,Bz E j x->Le c (h.hp.ap x) (hp'.ap x):=by
  intro j c w a x d;by_cases l:x=b;.subst l;have:=M.inj j m _ _ x a g (.inr d) (.inr e);subst this;rw[g]at a;cases a;exact v
  .rw[hp x l];exact fK c _
 have f:Fm E.nx E (Ax E hp' E.st):=⟨rfl,λj c w a d=>⟨c,d,id,λ_=>rfl,λx u0=>by rw[M.hp];exact B j c w (by rw[<-M.st];exact d) x u0⟩,λ_ e=>e,C,ar _,λj a=>rfl,λj u i a d=>⟨i,d,rfl⟩,λj t k a d s=>⟨t,d,s⟩,λj D u i a _ d=>⟨i,d,fp.refl,λ_=>rfl⟩⟩;constructor
 .
  refine⟨rfl,M.st,M.nx,M.lt,λj n a=>?_,M.inj,M.own,M.z,λc r=>?_,M.lk,M.rq,M.py,λc o v=>?_⟩
  .
   by_cases A:j=m
   .
    subst A;rw[g]at a;cases a;obtain⟨p,q⟩:=M.gm j _ g;refine⟨p,λx d v0=>?_⟩;by_cases l:x=b;.subst l;exact w0
    .obtain⟨y,s0,r0⟩:=q x d v0;exact⟨y,by show hp'.ap x=_;rw[hp x l,<-M.hp];exact s0,r0⟩
   .refine(M.gm j n a).fm f rfl (λ_=>rfl) λc x0=>?_;show hp'.ap c=E.hp.ap c;rw[M.hp];refine hp c ?_;rintro rfl;exact A (M.inj j m n _ c a g x0 (.inr e))
  .
   have r:h.nx<=c:=r;show hp'.ap c=none;rw[hp c ?_];.exact M.fr c r
   .rintro rfl;have:=(M.own m _ c g (.inr e)).2;omega
  .obtain⟨x,p,q⟩:=M.zo c o v;exact⟨x,by rw[<-p,<-M.hp];exact C c o,q⟩
 .refine⟨rfl,rfl,rfl,rfl,rfl,rfl,rfl,rfl,ar _,ar _,λ_ e=>e,λb t0=> .inl t0,λc o0 z=>?_,λc z=> .inl z,λj a=>rfl,λj a q0=>rfl,λj a z0=>z0,λj u i a d=>⟨i,d,rfl⟩,λc j n p0 a y0=>⟨n,a,y0⟩,λj t k a d s=>⟨t,d,s⟩,λj D u i a _ d=>⟨i,d,fp.refl,λ_=>rfl⟩,λ_ _ _ _=>rfl,rfl,λj c w a d=>⟨c,d,id,λ_=>rfl,B j c w d⟩⟩;refine hp c ?_;rintro rfl;exact z ⟨m,_,g,.inr e⟩
theorem KV(M:da S h E){m:Nat}(y:S.st.ap m=some (.zn true true))(n0:S.jQ m=true):da (S.iy m (.zn false true)) h (Ax E h.hp (S.st.set m (.zn false true)))/\Gr S h E (S.iy m (.zn false true)) h (Ax E h.hp (S.st.set m (.zn false true))):=by
 have v:∀j d,(S.st.set m (.zn false true)).ap j=some d->j=m/\d= .zn false true\/j≠m/\S.st.ap j=some d:=by
  intro j d a;rw[Tr.dg]at a;split at a;.cases a;exact .inl ⟨by assumption,rfl⟩
  .exact .inr ⟨by assumption,a⟩
 have q:∀j d,(S.st.set m (.zn false true)).ap j=some d->∃n,S.st.ap j=some n/\d.rn=n.rn:=by
  intro j d a;rcases v j d a with⟨rfl,rfl⟩|⟨_,g⟩;.exact⟨_,y,rfl⟩
  .exact⟨d,g,rfl⟩
 have u0:∀j c w,(S.st.set m (.zn false true)).ap j=some (.zn c w)->∃s,S.st.ap j=some (.zn s w)/\(c=true->s=true):=by
  intro j c w a;rcases v j _ a with⟨rfl,g⟩|⟨_,g⟩;.cases g;exact⟨true,y,λh=>by cases h⟩
  .exact⟨c,g,id⟩
 have w0:∀j g u e,(S.st.set m (.zn false true)).ap j=some (.rows g u e)->S.st.ap j=some (.rows g u e):=by
  intro j g u e a;rcases v j _ a with⟨_,k⟩|⟨_,k⟩;.cases k
  .exact k
 have v0:∀j u e,(S.st.set m (.zn false true)).ap j=some (.row u e)->S.st.ap j=some (.row u e):=by
  intro j u e a;rcases v j _ a with⟨_,k⟩|⟨_,k⟩;.cases k
  .exact k
 have f:Fm E.nx E (Ax E h.hp (S.st.set m (.zn false true))):=⟨rfl,λj c w a l=>by obtain⟨s,p,o⟩:=u0 j c w l;exact⟨s,by rw[M.st];exact p,o,λ_=>rfl,λx _=>by rw[M.hp];exact fK c _⟩,λ_ A=>A,λc _=>by rw[M.hp];rfl,ar _,λj a=>rfl,λj u e a l=>⟨e,by rw[M.st];exact v0 j u e l,rfl⟩,λj t k a l C=>by obtain⟨z0,p,o⟩:=q j t l;exact⟨z0,by rw[M.st];exact p,by rw[<-o];exact C⟩,λj z u e a _ l=>⟨e,by rw[M.st];exact w0 j z u e l,fp.refl,λ_=>rfl⟩⟩;constructor
 .
  refine⟨rfl,rfl,M.nx,λj d a=>?_,λj d a=>?_,λi j r0 p0 c m0 a t0 s0=>?_,λj d c a r=>?_,M.z,M.fr,λc D=>⟨(M.lk c D).1,λj d a r=>?_⟩,M.rq,λj d a l0=>?_,M.zo⟩;.obtain⟨n,g,_⟩:=q j d a;exact M.lt j n g
  .
   rcases v j _ a with⟨rfl,rfl⟩|⟨h0,o⟩;.obtain⟨p,o⟩:=M.gm j _ y;exact⟨p,λx l j0=>by have:=o x l j0;rw[M.hp]at this;exact this⟩
   .exact(M.gm j d o).fm f rfl (λ_=>rfl) λc _=>by rw[M.hp];rfl
  .obtain⟨q0,p,_⟩:=q i r0 m0;obtain⟨o0,o,_⟩:=q j p0 a;exact M.inj i j q0 o0 c p o t0 s0
  .obtain⟨n,g,_⟩:=q j d a;exact M.own j n c g r
  .obtain⟨n,g,_⟩:=q j d a;exact(M.lk c D).2 j n g r
  .obtain⟨n,g,k0⟩:=q j d a;exact M.py j n g (by rw[<-k0];exact l0)
 .
  refine⟨rfl,rfl,rfl,rfl,rfl,rfl,rfl,rfl,ar _,ar _,λ_ A=>A,λb i0=> .inl i0,λc g0 x0=>rfl,λc x0=>?_,λj a=>rfl,λj a y0=>?_,λj a B=>?_,λj u e a l=>⟨e,v0 j u e l,rfl⟩,λc j d D a r=>?_,λj t k a l C=>?_,λj z u e a _ l=>⟨e,w0 j z u e l,fp.refl,λ_=>rfl⟩,λ_ _ _ _=>rfl,rfl,λj c w a l=>?_⟩;.obtain⟨j,d,a,r⟩:=x0;obtain⟨n,g,_⟩:=q j d a;exact .inl ⟨j,n,g,r⟩
  .show(S.st.set m (.zn false true)).ap j=_;rw[Tr.dg,aG];rintro rfl;rw[n0]at y0;cases y0
  .
   show(S.st.set m (.zn false true)).ap j=_;rw[Tr.dg,aG];.exact B
   .rintro rfl;rw[y]at B;cases B
  .obtain⟨n,g,_⟩:=q j d a;exact⟨n,g,r⟩
  .obtain⟨z0,p,o⟩:=q j t l;exact⟨z0,p,by rw[<-o];exact C⟩
  .obtain⟨s,p,o⟩:=u0 j c w l;exact⟨s,p,o,λ_=>rfl,λx _=>fK c _⟩
theorem OW(M:da S h E){hp':Tr Hm.Obj}{nx':Nat}{o:Nat->Prop}(n:∀b,b<h.nx->hp'.ap b=h.hp.ap b)(p:h.nx<=nx')(z0:∀b,nx'<=b->hp'.ap b=none)(y:∀b,E.Z b->o b)(q:∀b,o b->E.Z b\/h.nx<=b/\b<nx'/\ra hp' b):da S ⟨h.nt,h.dE,hp',nx',h.lk,h.df⟩ ⟨hp',o,E.mb,E.ib,E.st,E.nx,E.lo⟩/\Gr S h E S ⟨h.nt,h.dE,hp',nx',h.lk,h.df⟩ ⟨hp',o,E.mb,E.ib,E.st,E.nx,E.lo⟩:=by
 have v0:∀b,E.Z b->hp'.ap b=E.hp.ap b:=λb d=>by rw[M.hp];exact n b (M.z b d)
 have f:Fm E.nx E ⟨hp',o,E.mb,E.ib,E.st,E.nx,E.lo⟩:=⟨rfl,λj c w i a=>⟨c,a,id,λ_=>rfl,λb r=>by
  have:hp'.ap b=E.hp.ap b:=by rw[M.hp];exact n b (M.own j _ b (by rw[<-M.st];exact a) (.inr r)).2
  show Le c (E.hp.ap b) (hp'.ap b);rw[this];exact fK c _⟩,y,v0,ar _,λ_ _=>rfl,λj u m _ a=>⟨m,a,rfl⟩,λj t k _ a s=>⟨t,a,s⟩,λj g u m _ _ a=>⟨m,a,fp.refl,λ_=>rfl⟩⟩
 constructor
 .
  refine⟨rfl,M.st,M.nx,M.lt,λj e i=>?_,M.inj,λj e b i l=>⟨λd=>?_,aQ (M.own j e b i l).2 p⟩,λb d=>?_,z0,λb v=>⟨aQ (M.lk b v).1 p,(M.lk b v).2⟩,λj b l=>aQ (M.rq j b l) p,M.py,λb d y0=>?_⟩;.refine(M.gm j e i).fm f rfl (λ_=>rfl) λb l=>?_;show hp'.ap b=E.hp.ap b;rw[M.hp];exact n b (M.own j e b i l).2
  .
   rcases q b d with g|⟨g,_⟩;.exact(M.own j e b i l).1 g
   .have:=(M.own j e b i l).2;omega
  .
   rcases q b d with g|⟨_,g,_⟩;.exact aQ (M.z b g) p
   .exact g
  .
   rcases q b d with g|⟨_,_,g⟩;.obtain⟨x,z,A⟩:=M.zo b g y0;exact⟨x,by rw[<-z];exact n b (M.z b g),A⟩
   .exact g
 .
  refine⟨rfl,rfl,rfl,rfl,rfl,rfl,rfl,rfl,p,ar _,y,λb d=>?_,λb x0 _=>n b x0,λb w0=> .inl w0,λ_ _=>rfl,λ_ _ _=>rfl,λ_ _ D=>D,λj u m _ a=>⟨m,a,rfl⟩,λ_ _ e _ B C=>⟨e,B,C⟩,λj t k _ a s=>⟨t,a,s⟩,λj g u m _ _ a=>⟨m,a,fp.refl,λ_=>rfl⟩,λ_ _ _ _=>rfl,rfl,λj c w i a=>⟨c,a,id,λ_=>rfl,λb r=>by have:hp'.ap b=h.hp.ap b:=n b (M.own j _ b a (.inr r)).2;show Le c (h.hp.ap b) (hp'.ap b);rw[this];exact fK c _⟩⟩;rcases q b d with g|⟨g,_⟩;.exact .inl g
  .exact .inr (.inr g)
end
end Go.Ls
