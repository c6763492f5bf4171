/-
  Rules, functions and laws for the last text, part a.
-/
import Derived.Tactics
import Derived.Below
import Derived.Orders
import Derived.Laws.CopyRow
import Derived.Laws.Cells
import Derived.WalkKit
import Derived.Maps.AppendAt
import Derived.Laws.MakeOwn
set_option linter.unusedVariables false
set_option linter.unusedSimpArgs false
set_option linter.constructorNameAsVariable false
set_option linter.unusedSectionVars false
set_option linter.defProp false
noncomputable section
namespace Go
def G:=@List.getElem?_eq_getElem
def Y:=@List.mem_of_getElem?
def ae:=@Bool.and_eq_true
def aj:=@List.getElem?_eq_some_iff
def ar:=@decide_eq_true
def au:=@Nat.le_refl
def aw:=@Nat.eq_of_beq_eq_true
def ax:=@List.length_append
def aA:=@if_pos
def aB:=@if_neg
def aM:=@Nat.le_trans
def aN:=@List.length_replicate
def aP:=@Nat.lt_of_lt_of_le
def aQ:=@decide_eq_false
def aR:=@List.length_take
def a5:=@Nat.zero_le
def a7:=@Nat.lt_succ_self
def be:=@List.getElem?_set_self
def bf:=@List.append_nil
def bi:=@Nat.zero_add
def bj:=@List.getElem?_of_mem
def bp:=@List.length_cons
def br:=@of_decide_eq_true
def bx:=@List.length_set
def bz:=@List.getElem?_set_ne
def bA:=@List.getElem?_append_right
def bB:=@decide_eq_true_eq
def bL:=@List.getElem?_append_left
def bN:=@List.take_length
def bO:=@Nat.ble_eq
def bQ:=@List.all_eq_true
def bR:=@List.mem_append
def bW:=@Int.le_refl
def bX:=@List.mem_cons_self
def cc:=@List.getD_eq_getElem?_getD
def cd:=@List.getElem?_replicate
def cm:=@List.mem_cons
def cn:=@List.append_assoc
def co:=@Nat.mul_le_mul_right
def cq:=@List.mem_singleton
def cB:=@List.length_drop
def cI:=@Nat.lt_or_ge
def cO:=@List.mem_or_eq_of_mem_set
def cP:=@List.all_cons
def cT:=@List.mem_cons_of_mem
def cW:=@List.mem_append_right
def cY:=@Int.toNat_natCast
def db:=@List.length_map
def dg:=@Nat.le_succ
def dp:=@List.take_of_length_le
def dD:=@List.getElem?_cons_succ
def dE:=@List.take_append_drop
def dF:=@Bool.true_and
def dJ:=@Nat.blt_eq
def dU:=@Bool.false_eq_true
def dW:=@Nat.sub_self
def d8:=@List.drop_eq_getElem_cons
def ed:=@List.drop_eq_nil_of_le
def eg:=@List.length_reverse
def ej:=@Option.some.inj
def em:=@List.mem_of_mem_take
def eo:=@List.mem_append_left
def ez:=@Option.isSome_iff_exists
def eA:=@List.eq_of_mem_replicate
def eC:=@List.mem_range
def eE:=@List.length_singleton
def eF:=@List.getElem_mem
def eG:=@Int.toNat_of_nonneg
def eL:=@Option.some.injEq
def eM:=@List.set_set
def eN:=@List.length_eq_zero_iff
def eP:=@congrArg
def eU:=@List.getElem?_take
def eX:=@Bool.or_eq_true
def fc:=@if_false
def fh:=@List.getElem?_eq_none
def fu:=@Nat.add_zero
def fw:=@List.foldl_cons
def fI:=@if_true
def fJ:=@Int.tmod_eq_emod_of_nonneg
def fP:=@Nat.zero_mul
def fQ:=@List.take_zero
def fY:=@Nat.add_mul
def fZ:=@List.length_nil
def gg:=@cond_true
def gh:=@List.getElem?_drop
def gl:=@List.pairwise_append
def gn:=@Nat.add_assoc
def go:=@List.all_nil
def gA:=@List.getElem?_set
def gG:=@Nat.min_eq_left
def gH:=@List.replicate_succ
def gL:=@Int.add_zero
def gU:=@Nat.mul_one
def gV:=@List.pairwise_iff_getElem
def gW:=@Array.getElem?_eq_getElem
def gX:=@List.pairwise_cons
def gY:=@List.mem_replicate
def hT:=@List.nil_append
def hX:=@List.eq_nil_of_length_eq_zero
def ig:=@Nat.succ_mul
def iB:=@Nat.min_eq_right
def iC:=@List.getElem?_eraseIdx
def iL:=@List.drop_drop
def iR:=@Nat.sub_zero
def ja:=@List.take_add_one
def jb:=@List.nodup_append
def jc:=@List.getElem?_map
def jd:=@Bool.not_eq_true'
def jf:=@List.replicate_succ'
def jg:=@List.mem_of_mem_drop
def jr:=@Int.ofNat_zero
def jz:=@Nat.mul_le_mul_left
def jA:=@Nat.le_max_right
def jB:=@List.mem_flatten
def jE:=@List.mem_singleton_self
def jF:=@List.getElem?_cons_zero
def jM:=@of_decide_eq_false
def jN:=@Nat.sub_add_cancel
def jY:=@Nat.max_eq_left
def jZ:=@Nat.le_max_left
def ka:=@List.append_inj
def kg:=@cond_false
def ko:=@List.flatten_cons
def kq:=@Array.getElem?_toList
def kF:=@Bool.not_false
def kG:=@Array.getD_eq_getD_getElem?
def kJ:=@Int.ofNat_lt
def kK:=@Int.ofNat_le
def kX:=@Int.natCast_succ
def lx:=@List.countP_eq_zero
def ly:=@Bool.not_true
def lN:=@Option.map_some
def lW:=@Nat.lt_or_gt_of_ne
def lX:=@List.set_cons_zero
def mc:=@decide_eq_false_iff_not
def md:=@Nat.le_of_eq
def me:=@Int.zero_add
def mf:=@Int.pow_succ
def mg:=@Iff.rfl
def mt:=@Bool.false_and
def mu:=@Bool.and_false
def mF:=@Nat.lt_trichotomy
def mG:=@List.foldl_append
def mH:=@List.ext_getElem?
def nl:=@List.set_append_right
def no:=@Int.add_assoc
def nA:=@List.reverse_reverse
def nX:=@Int.lt_or_le
def ov:=@List.replicate_zero
def ox:=@List.flatten_append
def oG:=@Array.getElem_setIfInBounds
def oY:=@Nat.le_of_mul_le_mul_right
def pO:=@Nat.lt_succ_of_lt
def pP:=@Nat.lt_irrefl
def pQ:=@Nat.le_succ_of_le
def pR:=@List.size_toArray
def pS:=@Bool.eq_false_iff
def qt:=@Nat.min_le_right
def qu:=@Nat.max_eq_right
def qv:=@Bool.not_eq_true
def qE:=@List.pairwise_singleton
def qF:=@Int.pow_zero
def qG:=@Int.eq_ofNat_of_zero_le
def rA:=@Nat.min_le_left
def rB:=@List.map_append
def rC:=@Int.natCast_pow
def rD:=@Array.getElem?_eq_none
def su:=@Nat.one_mul
def sv:=@List.set_getElem_self
def sw:=@List.getElem?_toArray
def sx:=@List.getElem?_reverse
def sy:=@Classical.choose_spec
def sA:=@Array.getElem?_modify
def sJ:=@Nat.mul_le_mul
def sK:=@List.nodup_nil
def sL:=@List.mapM_cons
def sS:=@Nat.add_le_add_right
def sT:=@List.mem_iff_getElem
def sU:=@List.length_eraseIdx
def t4:=@Nat.mul_assoc
def t7:=@List.take_nil
def t8:=@Int.ofNat_inj
def ua:=@Array.ext'
def vg:=@Nat.beq_refl
def vh:=@List.mem_map
def vk:=@Int.lt_trans
def vl:=@Int.le_trans
def vm:=@Int.le_of_lt
def vn:=@Bool.or_true
end Go
namespace Go.Hm
open Go
noncomputable section
inductive Tr(α:Type)where|e:Tr α|n(l:Tr α)(v:Option α)(r:Tr α):Tr α
def Tr.ap{α:Type}(t:Tr α):Nat->Option α:=Tr.rec (motive:=λ_=>Nat->Option α) (λ_=>none) (λ_ v _ a b k=>Bool.rec (Bool.rec (b (Nat.div (Nat.sub k 1) 2)) (a (Nat.div (Nat.sub k 1) 2)) (Nat.beq (Nat.mod k 2) 1)) v (Nat.beq k 0)) t
def Tr.put{α:Type}(v:Option α)(d:Nat):Tr α->Nat->Tr α:=Nat.rec (motive:=λ_=>Tr α->Nat->Tr α) (λt _=>t) (λ_ a t k=>Tr.rec (motive:=λ_=>Tr α) (Bool.rec (Bool.rec (.n .e none (a .e (Nat.div (Nat.sub k 1) 2))) (.n (a .e (Nat.div (Nat.sub k 1) 2)) none .e) (Nat.beq (Nat.mod k 2) 1)) (.n .e v .e) (Nat.beq k 0)) (λl u r _ _=>Bool.rec (Bool.rec (.n l u (a r (Nat.div (Nat.sub k 1) 2))) (.n (a l (Nat.div (Nat.sub k 1) 2)) u r) (Nat.beq (Nat.mod k 2) 1)) (.n l v r) (Nat.beq k 0)) t) d
def Tr.set{α:Type}(t:Tr α)(k:Nat)(v:α):Tr α:=Tr.put (some v) (Nat.succ (Nat.log2 (Nat.succ k))) t k
def Tr.nr{α:Type}(t:Tr α)(k:Nat):Tr α:=Tr.put none (Nat.succ (Nat.log2 (Nat.succ k))) t k
inductive HV where|any|undef|int(k:IntKind)(n:Int)|bool(b:Bool)|ef(s:ByteArray)|rc|ptr(b off:Nat)|cM|gz|lV|sl(b off len:Nat)|jh(b off len:Nat)|agg(cs:List HV)|mx(vs:List HV)|fn(f:FuncId)(caps:List HV)|rf|GI|map(b:Nat)deriving Inhabited
def Pj:Value->Option HV| .bool b=>some (.bool b)| .int k n=>some (.int k n)| .string s=>some (.ef s)| .pointer none=>some .rc| .slice none 0 0=>some .cM| .map none=>some .GI| .nilFunc=>some .rf|_=>none
def C2:List Value->Option (List HV)|[]=>some []|v::b=>match Pj v with
 |some a=>match C2 b with|some l=>some (a::l)|none=>none
 |none=>none
def Jt:Value->Option HV
 | .agg ⟨a⟩=>match C2 a with|some l=>some (.agg l)|none=>none
 | .tuple ⟨[]⟩=>some .undef
 |v=>Pj v
def iP:HV->Option (List HV)| .agg a=>some a| .any=>none| .undef=>none| .mx _=>none|v=>some [v]
inductive Sh where|slice(e:Nat)|im(n e:Nat)|struct(offs:List (Nat×Nat))|int(k:IntKind)|bool|ef|map(k e:Nat)|Pc
structure pI where
  agg : Bool
  size : Nat
  bytes : Nat
  zero : Option HV
  sh : Sh
structure gK where
  own : Bool
  z : Nat
  n : Nat
  c : Tr HV
inductive Obj where|cp(b:gK)|map(es:List (HV×HV))
structure St where
  nt : Nat
  dC : Tr HV
  hp : Tr Obj
  nx : Nat
  lk : List Nat
  df : HV
structure Cx where
  ti : Tr pI
  fn : Tr Func
  ext : Tr Nat
  Cl : Tr (List Bool)
def gK.ap(b:gK)(i:Nat):Option HV:=bif Nat.blt i b.n then b.c.ap i else none
def cF(b:gK)(o:Nat):Nat->Option (List HV)|0=>some []|k+1=>match b.ap o with
 |some v=>match cF b (Nat.add o 1) k with|some l=>some (v::l)|none=>none
 |none=>none
def cr(c:Tr HV)(o:Nat):List HV->Tr HV|[]=>c|v::a=>cr (c.set o v) (Nat.add o 1) a
def St.cp(s:St)(b:Nat):Option gK:=match s.hp.ap b with|some (.cp x)=>some x|_=>none
def St.bP(s:St)(z:Nat)(l:List HV):Nat×St:=(s.nx,⟨s.nt,s.dC,s.hp.set s.nx (.cp ⟨true,z,l.length,cr .e 0 l⟩),Nat.add s.nx 1,s.lk,s.df⟩)
def St.put(s:St)(d:Option Nat)(v:HV):St:=match d with|some t=>bif Nat.blt t s.nt then⟨s.nt,s.dC.set t v,s.hp,s.nx,s.lk,s.df⟩else s|none=>s
def St.tmp(s:St)(t:Nat):HV:=match s.dC.ap t with|some v=>v|none=>s.df
def St.ev(s:St):Operand->Option HV| .tmp t=>some (s.tmp t)| .const v=>Jt v| .func f=>some (.fn f [])| .global _=>none
def St.jI(s:St):List Operand->Option (List HV)|[]=>some []|x::a=>match s.ev x with
 |some v=>match s.jI a with|some l=>some (v::l)|none=>none
 |none=>none
def bu(b:Nat):List Nat->Bool|[]=>false|a::l=>Nat.beq a b||bu b l
def St.gD(s:St)(b:Nat):Bool:=!bu b s.lk
def St.fo(s:St)(b o:Nat)(l:List HV):Option St:=match s.cp b with|some x=>bif x.own&&(s.gD b&&Nat.ble (Nat.add o l.length) x.n)then some ⟨s.nt,s.dC,s.hp.set b (.cp ⟨true,x.z,x.n,cr x.c o l⟩),s.nx,s.lk,s.df⟩else none|none=>none
def A5(k:IntKind)(n:Int):Bool:=match k with| .i64=>decide (-9223372036854775808<=n)&&decide (n<=9223372036854775807)| .u64=>decide (0<=n)&&decide (n<=18446744073709551615)| .u8=>decide (0<=n)&&decide (n<=255)| .u32=>decide (0<=n)&&decide (n<=4294967295)|_=>false
def fT(k:IntKind)(n:Int):Int:=bif A5 k n then n else IntKind.wrap k n
def vN(op:BinOp)(k:IntKind)(a b:Int):Option HV:=match op with| .add=>some (.int k (fT k (Int.add a b)))| .sub=>some (.int k (fT k (Int.sub a b)))| .mul=>some (.int k (fT k (Int.mul a b)))| .quo=>bif decide (b=0)then none else some (.int k (fT k (Int.tdiv a b)))| .rem=>bif decide (b=0)then none else some (.int k (Int.tmod a b))| .eql=>some (.bool (decide (a=b)))| .neq=>some (.bool (!decide (a=b)))| .lss=>some (.bool (decide (a<b)))| .leq=>some (.bool (decide (a<=b)))| .gtr=>some (.bool (decide (b<a)))| .geq=>some (.bool (decide (b<=a)))| .and=>some (.int k (fT k (Int.ofNat (BitVec.ofInt k.bits a&&&BitVec.ofInt k.bits b).toNat)))| .or=>some (.int k (fT k (Int.ofNat (BitVec.ofInt k.bits a|||BitVec.ofInt k.bits b).toNat)))| .xor=>some (.int k (fT k (Int.ofNat (BitVec.ofInt k.bits a^^^BitVec.ofInt k.bits b).toNat)))| .andNot=>some (.int k (fT k (Int.ofNat (BitVec.ofInt k.bits a&&& ~~~BitVec.ofInt k.bits b).toNat)))|_=>none
def shift(left:Bool)(k:IntKind)(a b:Int):Option HV:=match b with| .ofNat s=>some (.int k (bif left then fT k (Int.mul a (Int.ofNat (Nat.pow 2 (Nat.min s k.bits))))else Int.fdiv a (Int.ofNat (Nat.pow 2 (Nat.min s k.bits)))))|_=>none
def xr:Bool->HV->HV->Option Bool|true,.int k a,.int c b=>bif decide (k=c)then some (decide (a=b))else none|false,.bool a,.bool b=>some (a==b)|_,_,_=>none
def s8:List Bool->List HV->List HV->Option Bool
 |[],[],[]=>some true
 |p::e,a::c,b::d=>match xr p a b with|some true=>s8 e c d|r=>r
 |_,_,_=>none
def fG(op:BinOp)(b:Bool):Option HV:=match op with| .eql=>some (.bool b)| .neq=>some (.bool (!b))|_=>none
def lu(cx:Cx)(op:BinOp)(t:Nat)(x y:HV):Option HV:=match x,y with
 | .int k a,.int c b=>match op with| .shl=>shift true k a b| .shr=>shift false k a b|_=>bif decide (k=c)then vN op k a b else none
 | .ef a,.ef b=>match op with| .add=>bif Nat.ble (Nat.add a.size b.size) 1000000000 then some (.ef (a++b))else none|_=>fG op (a.toList==b.toList)
 | .bool a,.bool b=>match cx.ti.ap t with
  |some x=>match x.sh with| .bool=>fG op (a==b)|_=>none
  |none=>none
 | .agg a,.agg b=>match cx.Cl.ap t with
  |some m=>bif Nat.beq a.length m.length&&Nat.beq b.length m.length then match s8 m a b with|some r=>fG op r|none=>none else none
  |none=>none
 |x,.cM=>match cx.ti.ap t with
  |some u=>match u.sh,x with| .slice _,.cM=>fG op true| .slice _,.sl _ _ _=>fG op false| .slice _,.jh _ _ _=>fG op false| .slice _,.gz=>fG op false| .slice _,.lV=>fG op false|_,_=>none
  |none=>none
 |_,_=>none
inductive Rs where|val(v:HV)(s:St)|Fx(s:St)|call(f:FuncId)(args:List HV)
def iY:HV->Option Nat| .int _ (.ofNat n)=>some n|_=>none
def rJ(cs:List HV):Nat->List HV->List HV|_,[]=>cs|o,v::a=>rJ (cs.set o v) (Nat.add o 1) a
def rY(a:Nat->Option (Nat×Nat))(cs:List HV):List (Nat×HV)->Option (List HV)|[]=>some cs|(i,v)::b=>match a i with
 |some (o,z)=>match iP v with|some c=>bif Nat.beq c.length z&&Nat.ble (Nat.add o z) cs.length then rY a (rJ cs o c) b else none|none=>none
 |none=>none
structure El where
  zc : List HV
  z : Nat
  lq : Nat
def Cx.uW(cx:Cx)(e:Nat):Option El:=match cx.ti.ap e with
 |some y=>match y.zero with
  |some v=>match iP v with|some c=>bif Nat.ble 1 y.size&&(Nat.ble 1 y.bytes&&Nat.beq c.length y.size)then some ⟨c,y.size,y.bytes⟩else none|none=>none
  |none=>none
 |none=>none
def Cx.fN(cx:Cx)(t:Nat):Option El:=match cx.ti.ap t with
 |some x=>match x.sh with| .slice e=>cx.uW e|_=>none
 |none=>none
def Cx.size(cx:Cx)(t:Nat):Option Nat:=match cx.ti.ap t with|some x=>some x.size|none=>none
def gP(l:List HV):Nat->List HV|0=>[]|n+1=>l++gP l n
def lenOf:HV->Option Nat| .cM=>some 0| .gz=>some 0| .lV=>some 0| .sl _ _ n=>some n| .jh _ _ n=>some n| .ef s=>some s.size|_=>none
def cellsOf(s:St)(z:Nat):HV->Option (List HV)
 | .cM=>some []
 | .gz=>some []
 | .lV=>some []
 | .sl b o n=>match s.cp b with|some x=>cF x o (Nat.mul n z)|none=>none
 | .jh b o n=>match s.cp b with|some x=>cF x o (Nat.mul n z)|none=>none
 |_=>none
def gu(n bytes:Nat):Bool:=Nat.ble (Nat.mul n bytes) 4294967296
def nq(s:St):Option Operand->Option (Option HV)|none=>some none|some x=>match s.ev x with|some v=>some (some v)|none=>none
def gR(s:St):List (Nat×Operand)->Option (List (Nat×HV))|[]=>some []|(i,x)::r=>match s.ev x with
 |some v=>match gR s r with|some l=>some ((i,v)::l)|none=>none
 |none=>none
def qf(q:IntKind)(k:Int):List (HV×HV)->Option (Option HV)|[]=>some none|(.int b a,v)::r=>bif decide (q=b)then bif decide (k=a)then some (some v)else qf q k r else none|_=>none
def uf(q:IntKind)(k:Int)(v:HV):List (HV×HV)->Option (List (HV×HV))
 |[]=>some [(.int q k,v)]
 |(.int b a,u)::r=>bif decide (q=b)then bif decide (k=a)then some ((.int q k,v)::r)else match uf q k v r with|some l=>some ((.int b a,u)::l)|none=>none else none
 |_=>none
def Cx.rR(cx:Cx)(t:Nat):Option Nat:=match cx.ti.ap t with
 |some x=>match x.sh with
  | .map k e=>match cx.ti.ap k with
   |some y=>match y.sh with| .int _=>some e|_=>none
   |none=>none
  |_=>none
 |none=>none
def Cx.vV(cx:Cx)(e:Nat):Option HV:=match cx.ti.ap e with|some y=>y.zero|none=>none
def gE(s:St)(z:Nat)(a:HV)(bP:List HV)(k:Nat):Option Rs:=match a with
 | .sl b o n=>match s.cp b with
  |some x=>bif x.own&&(s.gD b&&Nat.beq x.z z)then bif Nat.ble (Nat.add o (Nat.mul (Nat.add n k) z)) x.n then match s.fo b (Nat.add o (Nat.mul n z)) bP with|some d=>some (.val (.sl b o (Nat.add n k)) d)|none=>none else bif Nat.ble (Nat.add o (Nat.mul n z)) x.n then bif Nat.beq o 0 then some (.val (.sl s.nx 0 (Nat.add n k)) ⟨s.nt,s.dC,(s.hp.nr b).set s.nx (.cp ⟨true,z,Nat.mul (Nat.add n k) z,cr x.c (Nat.mul n z) bP⟩),Nat.add s.nx 1,s.lk,s.df⟩)else match cF x o (Nat.mul n z)with|some c=>some (.val (.sl s.nx 0 (Nat.add n k)) ⟨s.nt,s.dC,(s.hp.nr b).set s.nx (.cp ⟨true,z,Nat.mul (Nat.add n k) z,cr .e 0 (c++bP)⟩),Nat.add s.nx 1,s.lk,s.df⟩)|none=>none else none else none
  |none=>none
 | .cM=>bif Nat.beq k 0 then some (.val .cM s)else some (.val (.sl s.nx 0 k) (s.bP z bP).2)
 | .gz=>bif Nat.beq k 0 then some (.val .gz s)else some (.val (.sl s.nx 0 k) (s.bP z bP).2)
 |_=>none
section
variable(cx:Cx)(s:St)
def iw(t:Nat)(a:HV):Option Rs:=match a with
 | .ptr b o=>match cx.ti.ap t with
  |some x=>match s.cp b with
   |some y=>bif x.agg then match cF y o x.size with|some l=>some (.val (.agg l) s)|none=>none else match y.ap o with|some v=>some (.val v s)|none=>none
   |none=>none
  |none=>none
 |_=>none
def pB(t:Nat)(a v:HV):Option Rs:=match a with
 | .ptr b o=>match cx.ti.ap t,iP v with
  |some x,some c=>bif Nat.beq c.length x.size then match s.fo b o c with|some d=>some (.Fx d)|none=>none else none
  |_,_=>none
 |_=>none
def l7(t:Nat)(a:HV)(i:Nat):Option Rs:=match a with
 | .ptr b o=>match cx.ti.ap t with
  |some x=>match x.sh with
   | .struct c=>match c[i]? with|some (p,.succ _)=>some (.val (.ptr b (Nat.add o p)) s)|_=>none
   |_=>none
  |none=>none
 |_=>none
def fX(t:Nat)(a i:HV):Option Rs:=match cx.ti.ap t with
 |some x=>match iY i with
  |some j=>match x.sh,a with
   | .im n e,.ptr b o=>match cx.size e with|some z=>bif Nat.blt j n then some (.val (.ptr b (Nat.add o (Nat.mul j z))) s)else none|none=>none
   | .slice e,.sl b o n=>match cx.size e with|some z=>bif Nat.blt j n then some (.val (.ptr b (Nat.add o (Nat.mul j z))) s)else none|none=>none
   | .slice e,.jh b o n=>match cx.size e with|some z=>bif Nat.blt j n then some (.val (.ptr b (Nat.add o (Nat.mul j z))) s)else none|none=>none
   |_,_=>none
  |none=>none
 |none=>none
def nf(t:Nat):Option Rs:=match cx.ti.ap t with
 |some x=>match x.zero with
  |some z=>match iP z with|some c=>some (.val (.ptr s.nx 0) (s.bP 0 c).2)|none=>none
  |none=>none
 |none=>none
def ky(t:Nat)(ps:List (Nat×HV)):Option Rs:=match cx.ti.ap t with
 |some x=>match x.zero with
  |some (.agg z)=>match x.sh with
   | .struct a=>match rY (λi=>a[i]?) z ps with|some l=>some (.val (.agg l) s)|none=>none
   | .im _ e=>match cx.size e with
    |some q=>match rY (λi=>some (Nat.mul i q,q)) z ps with|some l=>some (.val (.agg l) s)|none=>none
    |none=>none
   |_=>none
  |_=>none
 |none=>none
def eZ(t len:Nat)(ps:List (Nat×HV)):Option Rs:=match cx.fN t with
 |some y=>bif Nat.ble len 4000&&Nat.ble y.z 4000 then match rY (λi=>some (Nat.mul i y.z,y.z)) (gP y.zc len) ps with|some l=>some (.val (.sl s.nx 0 len) (s.bP y.z l).2)|none=>none else none
 |none=>none
def ic(t:Nat)(l c:HV):Option Rs:=match cx.fN t,iY l,iY c with|some y,some m,some k=>bif Nat.ble m k&&gu k y.lq then some (.val (.sl s.nx 0 m) (s.bP y.z (gP y.zc k)).2)else none|_,_,_=>none
def fd:Option HV->Option (Option Nat)|none=>some none|some v=>match iY v with|some m=>some (some m)|none=>none
def dM(d:Nat):Option Nat->Nat|none=>d|some m=>m
def part(mk:Nat->Nat->Nat->HV)(b o z l h:Nat):HV:=bif Nat.beq h l&&!Nat.beq l 0 then .lV else mk b (Nat.add o (Nat.mul l z)) (Nat.sub h l)
def ii(y:gK)(b o n z l:Nat)(hi a:Option Nat):Option HV:=let h:=dM n hi;bif Nat.ble 1 z&&Nat.ble h 140737488355328&&(Nat.ble l h&&(Nat.beq y.z z&&Nat.ble (Nat.add o (Nat.mul h z)) y.n))then match a,hi with|none,_=>some (part .sl b o z l h)|some _,none=>none|some m,some _=>bif Nat.ble h m&&Nat.ble (Nat.add o (Nat.mul m z)) y.n then bif Nat.beq m l then some .gz else bif Nat.beq (Nat.add o (Nat.mul m z)) y.n then some (.sl b (Nat.add o (Nat.mul l z)) (Nat.sub h l))else some .any else none else none
def gB(v:HV)(l:Nat)(hi a:Option Nat):Option HV:=bif Nat.beq l 0&&(Nat.beq (dM 0 hi) 0&&Nat.beq (dM 0 a) 0)then match v,a,hi with| .cM,none,_=>some .cM| .cM,some _,some _=>some .cM| .gz,none,_=>some .gz| .gz,some _,some _=>some .gz| .lV,none,_=>some .lV| .lV,some _,some _=>some .gz|_,_,_=>none else none
def ew(t:Nat)(a:HV)(lo hi c:Option HV):Option Rs:=match cx.ti.ap t,fd lo,fd hi,fd c with
 |some x,some lo,some hi,some c=>let l:=dM 0 lo;match x.sh,a with
  | .slice e,.sl b o n=>match cx.size e,s.cp b with
   |some z,some y=>match ii y b o n z l hi c with|some v=>some (.val v s)|none=>none
   |_,_=>none
  | .slice e,.jh b o n=>match cx.size e,c with|some z,none=>let h:=dM n hi;bif Nat.ble l h&&Nat.ble h n then some (.val (part .jh b o z l h) s)else none|_,_=>none
  | .slice e,v=>match cx.size e,gB v l hi c with|some _,some u=>some (.val u s)|_,_=>none
  | .im m e,.ptr b o=>match cx.size e,c with|some z,none=>let h:=dM m hi;bif Nat.ble m 1000000&&(Nat.ble l h&&Nat.ble h m)then some (.val (part .jh b o z l h) s)else none|_,_=>none
  | .ef,.ef b=>match c with|none=>let h:=dM b.size hi;bif Nat.ble l h&&Nat.ble h b.size then some (.val (.ef (b.extract l h)) s)else none|some _=>none
  |_,_=>none
 |_,_,_,_=>none
def ph:List HV->Option (List UInt8)
 |[]=>some []
 | .int .u8 (.ofNat n)::r=>match ph r with|some l=>some (UInt8.ofNat n::l)|none=>none
 |_=>none
def ge(qV d:Nat)(a:HV):Option Rs:=match cx.ti.ap qV,cx.ti.ap d with
 |some x,some y=>match y.sh,a with
  | .int k,.int _ n=>some (.val (.int k (fT k n)) s)
  | .ef,.ef b=>some (.val (.ef b) s)
  | .ef,v=>match x.sh with
   | .slice e=>match cx.ti.ap e with
    |some q=>match q.sh with
     | .int .u8=>match cellsOf s 1 v with
      |some l=>match ph l with|some c=>some (.val (.ef ⟨⟨c⟩⟩) s)|none=>none
      |none=>none
     |_=>none
    |none=>none
   |_=>none
  |_,_=>none
 |_,_=>none
def iW(z:Nat)(x:HV):Option (List HV×Nat):=match x with| .ef b=>bif Nat.beq z 1 then some (b.data.toList.map λc=> .int .u8 (Int.ofNat c.toNat),b.size)else none|v=>match cellsOf s z v,lenOf v with|some l,some k=>some (l,k)|_,_=>none
def nG(t:Nat)(x:HV):Bool:=match cx.ti.ap t with
 |some u=>match u.sh,x with| .ef,.ef _=>true| .slice _,.ef _=>false| .slice _,_=>true|_,_=>false
 |none=>false
def hQ(t c:Nat)(a x:HV):Option Rs:=match cx.fN t with
 |some y=>bif nG cx c x then match iW s y.z x,lenOf a with|some (b,k),some m=>bif gu (Nat.add m k) y.lq then gE s y.z a b k else none|_,_=>none else none
 |none=>none
def qU(x:HV)(k m:Nat):Bool:=match x with| .ef _=>Nat.ble k m|_=>true
def sc(t d:Nat)(a x:HV):Option Rs:=match cx.fN t with
 |some y=>bif nG cx d x then match iW s y.z x,lenOf a with
  |some (l,k),some m=>bif qU x k m then match a with
   | .ef _=>none
   | .sl b o _=>match s.fo b o (l.take (Nat.mul (Nat.min k m) y.z))with|some c=>some (.val (.int .i64 (Int.ofNat (Nat.min k m))) c)|none=>none
   | .jh b o _=>match s.fo b o (l.take (Nat.mul (Nat.min k m) y.z))with|some c=>some (.val (.int .i64 (Int.ofNat (Nat.min k m))) c)|none=>none
   |_=>some (.val (.int .i64 0) s)else none
  |_,_=>none else none
 |none=>none
def oe(t:Nat)(a:HV):Option Rs:=match cx.fN t with
 |some y=>match a with
  | .sl b o n=>match s.fo b o (gP y.zc n)with|some c=>some (.val .undef c)|none=>none
  | .cM=>some (.val .undef s)
  | .gz=>some (.val .undef s)
  | .lV=>some (.val .undef s)
  |_=>none
 |none=>none
def wv(c:Bool):List HV->Option HV|[.int .i64 a,.int .i64 b]=>some (.int .i64 (bif decide (a<=b)then bif c then b else a else bif c then a else b))|_=>none
def ff(b:Builtin)(ts:List Nat)(args:List HV):Option Rs:=match b,ts,args with
 | .len,[t],[v]=>match cx.ti.ap t with
  |some x=>match x.sh,v with
   | .map _ _,.GI=>some (.val (.int .i64 0) s)
   | .map _ _,.map b=>match s.hp.ap b with|some (.map d)=>some (.val (.int .i64 (Int.ofNat d.length)) s)|_=>none
   | .ef,.ef b=>some (.val (.int .i64 (Int.ofNat b.size)) s)
   | .slice _,.ef _=>none
   | .slice _,v=>match lenOf v with|some n=>some (.val (.int .i64 (Int.ofNat n)) s)|none=>none
   |_,_=>none
  |none=>none
 | .append,[t,c],[a,x]=>hQ cx s t c a x
 | .copy,[t,c],[a,x]=>sc cx s t c a x
 | .clear,[t],[a]=>oe cx s t a
 | .min,_,l=>match wv false l with|some v=>some (.val v s)|none=>none
 | .max,_,l=>match wv true l with|some v=>some (.val v s)|none=>none
 |_,_,_=>none
def l5(t:Nat)(v i:HV):Option Rs:=match iY i with
 |some j=>match v with
  | .ef b=>match cx.ti.ap t with
   |some x=>match x.sh with
    | .ef=>match b[j]? with|some c=>some (.val (.int .u8 (Int.ofNat c.toNat)) s)|none=>none
    |_=>none
   |none=>none
  | .agg l=>match cx.ti.ap t with
   |some x=>match x.sh with
    | .im m e=>match cx.ti.ap e with
     |some y=>bif !y.agg&&(Nat.beq y.size 1&&Nat.blt j m)then match l[j]? with|some v=>some (.val v s)|none=>none else none
     |none=>none
    |_=>none
   |none=>none
  |_=>none
 |none=>none
def vI(q:IntKind)(k:Int):HV->Option (Option HV)
 | .map b=>match s.hp.ap b with|some (.map a)=>qf q k a|_=>none
 | .GI=>some none
 |_=>none
def nL(t:Nat)(m i:HV)(ok:Bool):Option Rs:=match cx.rR t,i with
 |some e,.int q k=>match vI s q k m with
  |some (some v)=>some (.val (bif ok then .mx [v,.bool true]else v) s)
  |some none=>match cx.vV e with|some z=>some (.val (bif ok then .mx [z,.bool false]else z) s)|none=>none
  |none=>none
 |_,_=>none
def pb(t:Nat)(m i v:HV):Option Rs:=match cx.rR t,m,i with
 |some _,.map b,.int q k=>bif s.gD b then match s.hp.ap b with
  |some (.map a)=>match uf q k v a with|some c=>some (.Fx ⟨s.nt,s.dC,s.hp.set b (.map c),s.nx,s.lk,s.df⟩)|none=>none
  |_=>none else none
 |_,_,_=>none
def ql(c:HV)(a b:Option HV):Option Rs:=match c with
 | .bool true=>match a with|some v=>some (.val v s)|none=>none
 | .bool false=>match b with|some v=>some (.val v s)|none=>none
 |_=>none
def yL(op:UnOp)(v:HV):Option Rs:=match op,v with| .not,.bool b=>some (.val (.bool (!b)) s)| .neg,.int k n=>some (.val (.int k (fT k (Int.sub 0 n))) s)|_,_=>none
def vK(v:HV):Option Rs:=match v with| .ptr b o=>some (.val (.ptr b o) s)|_=>none
def ln(v:HV)(i:Nat):Option Rs:=match v with
 | .mx l=>match l[i]? with|some v=>some (.val v s)|none=>none
 |_=>none
def sd(v:HV):Option Rs:=match iP v with|some c=>some (.val (.ptr s.nx 0) (s.bP 0 c).2)|none=>none
def Bm:Option Rs:=some (.val (.map s.nx) ⟨s.nt,s.dC,s.hp.set s.nx (.map []),Nat.add s.nx 1,s.lk,s.df⟩)
def Ff(f:HV)(args:List HV):Option Rs:=match f with| .fn g a=>some (.call g (args++a))|_=>none
def fD(k:HV->Option Rs)(x:Operand):Option Rs:=match s.ev x with|some v=>k v|none=>none
def kU(o:Op):Option Rs:=match o with
 | .move x=>fD s (λv=>some (.val v s)) x
 | .assign x=>fD s (λv=>some (.val v s)) x
 | .pick c a b=>fD s (λv=>ql s v (s.ev a) (s.ev b)) c
 | .alloc t=>nf cx s t
 | .box _ x=>fD s (λv=>sd s v) x
 | .build t e=>match gR s e.toList with|some l=>ky cx s t l|none=>none
 | .buildSlice t n e=>match gR s e.toList with|some l=>eZ cx s t n l|none=>none
 | .load t a=>fD s (λv=>iw cx s t v) a
 | .store t a x=>fD s (λv=>fD s (λu=>pB cx s t v u) x) a
 | .nilCheck x=>fD s (λv=>vK s v) x
 | .binOp d t x y _=>fD s (λv=>fD s (λu=>match lu cx d t v u with|some r=>some (.val r s)|none=>none) y) x
 | .unOp d _ x=>fD s (λv=>yL s d v) x
 | .convert a b x=>fD s (λv=>ge cx s a b v) x
 | .makeFunc (.func f) j g=>match j.toList,s.jI g.toList with|[],some l=>some (.val (.fn f l) s)|_,_=>none
 | .makeMap _ none=>Bm s
 | .makeSlice t l c=>fD s (λv=>fD s (λu=>ic cx s t v u) c) l
 | .slice t x q p w=>match s.ev x,nq s q,nq s p,nq s w with|some v,some l,some h,some m=>ew cx s t v l h m|_,_,_,_=>none
 | .fieldAddr t x i=>fD s (λv=>l7 cx s t v i) x
 | .indexAddr t x i=>fD s (λv=>fD s (λu=>fX cx s t v u) i) x
 | .index t x i=>fD s (λv=>fD s (λu=>l5 cx s t v u) i) x
 | .lookup t x i z=>fD s (λv=>fD s (λu=>nL cx s t v u z) i) x
 | .mapUpdate t m k v=>fD s (λa=>fD s (λb=>fD s (λc=>pb cx s t a b c) v) k) m
 | .extract x i=>fD s (λv=>ln s v i) x
 | .call c=>match c.callee with
  | .builtin b=>match s.jI c.args.toList with|some l=>ff cx s b c.argTypes.toList l|none=>none
  | .value f=>match s.jI c.args.toList with|some l=>fD s (λv=>Ff v l) f|none=>none
  |_=>none
 |_=>none
end
inductive Ex where|cN|ret|exit(id:Nat)
def lU:Nat->List HV->Tr HV->Tr HV|_,[],e=>e|i,v::a,e=>lU (Nat.add i 1) a (e.set i v)
def pm(cx:Cx)(s:St):List ResultVar->Option (List HV)
 |[]=>some []
 | .tmp t::r=>match pm cx s r with|some l=>some (s.tmp t::l)|none=>none
 | .cell a t::r=>match iw cx s t (s.tmp a)with
  |some (.val u _)=>match pm cx s r with|some l=>some (u::l)|none=>none
  |_=>none
def one:List HV->HV|[v]=>v|l=> .mx l
abbrev nM:=Code->St->Option (Ex×St)
def xG:Nat->List HV->St->Option (HV×St)|1,[.int .i64 (.ofNat n)],s=>bif Nat.ble n 1000000 then some (.sl s.nx 0 n,(s.bP 1 (List.replicate n .any)).2)else none|2,[],s=>some (.bool true,s)|_,_,_=>none
def call(cx:Cx)(d:nM)(f:FuncId)(args:List HV)(s:St):Option (HV×St):=match cx.ext.ap f with|some q=>xG q args s|none=>match cx.fn.ap f with
 |some a=>match a.body with
  |some c=>bif Nat.ble args.length a.ntmps then match d c ⟨a.ntmps,lU 0 args .e,s.hp,s.nx,s.lk,.undef⟩with
   |some (.exit _,_)=>none
   |some (_,b)=>match pm cx b a.results.toList with|some l=>some (one l,⟨s.nt,s.dC,b.hp,b.nx,s.lk,s.df⟩)|none=>none
   |none=>none else none
  |none=>none
 |none=>none
def takes(s:St)(bD:Array Oper)(o:Oper):Option Bool:=match o.guard with|none=>some true|some (j,w)=>match(bD[j]?).bind (·.dst)with
 |some g=>match s.tmp g with| .bool b=>some (b==w)| .any=>none|_=>some false
 |none=>none
def gy(cx:Cx)(c:nM)(bD:Array Oper)(s:St)(o:Oper):Option St:=match takes s bD o with
 |some true=>match kU cx s o.op with
  |some (.val v a)=>some (a.put o.dst v)
  |some (.Fx a)=>some (a.put o.dst .undef)
  |some (.call f b)=>match call cx c f b s with|some (v,a)=>some (a.put o.dst v)|none=>none
  |none=>none
 |some false=>some (s.put o.dst .undef)
 |none=>none
def ju(cx:Cx)(a:nM)(bD:Array Oper):St->List Oper->Option St|s,[]=>some s|s,o::r=>match gy cx a bD s o with|some b=>ju cx a bD b r|none=>none
def fH:Op->Bool
 | .call c=>match c.callee with| .builtin .append=>true| .builtin .copy=>true| .builtin .clear=>true| .builtin _=>false|_=>true
 | .store _ _ _=>true
 | .mapUpdate _ _ _ _=>true
 |_=>false
def rl:Op->Bool| .alloc _=>true| .box _ _=>true| .buildSlice _ _ _=>true| .makeSlice _ _ _=>true| .makeMap _ _=>true|_=>false
def qc:Op->Bool| .load _ _=>true| .convert _ _ _=>true| .slice _ _ _ _ _=>true|_=>false
def tr:Op->Bool| .lookup _ _ _ _=>false| .insert _ _ _ _=>false| .mapEntry _ _ _=>false| .entryStore _ _ _ _=>false| .range _ _=>false| .next _ _=>false| .entry _=>false|_=>true
def sub(a b:Nat):Bool:=Nat.beq (Nat.land a b) a
def tN(i:Nat):Nat:=Nat.pow 2 i
def dd(m i:Nat):Bool:=Nat.beq (Nat.mod (Nat.div m (tN i)) 2) 1
def Bz(T:Tr Nat)(i:Nat):List Edge->Nat->Option Nat|[],m=>some m|e::r,m=>match Region.binds .any e with|false=>Bz T i r m|true=>bif Nat.blt e.on i then Bz T i r (Nat.lor m (Nat.lor (tN e.on) ((T.ap e.on).getD 0)))else none
def HC:List Oper->Nat->Tr Nat->Option (Tr Nat)|[],_,a=>some a|o::r,i,a=>match Bz a i o.after.toList 0 with|some m=>HC r (Nat.add i 1) (a.set i m)|none=>none
def lD(p:Op->Bool):List Oper->Nat->Nat|[],_=>0|o::r,i=>Nat.lor (bif p o.op then tN i else 0) (lD p r (Nat.add i 1))
def xB(m e:Nat):List Oper->Nat->List Nat|[],_=>[]|_::r,i=>bif dd m i&&!dd e i then i::xB m e r (Nat.add i 1)else xB m e r (Nat.add i 1)
structure PC where
  bD : List Oper
  T : Tr Nat
  ch : Nat
  fl : Nat
  ld : Nat
def PC.nu(p:PC)(i:Nat):Nat:=(p.T.ap i).getD 0
def EU(p:PC)(e:Nat):List Nat->Nat|[]=>0|l::r=>Nat.lor (bif sub (Nat.land (p.nu l) p.ch) e then Nat.lor (tN l) (p.nu l)else 0) (EU p e r)
def AR(p:PC)(e c:Nat):List Nat->List Nat|[]=>[]|l::r=>bif dd e l&&!dd (p.nu c) l then l::AR p e c r else AR p e c r
def Ep(p:PC)(a:List Nat):Nat->List Nat->List (Nat×List Nat)|e,[]=>let m:=EU p e a;(xB m e p.bD 0).map (λi=>(i,[]))++(xB (Nat.sub (tN p.bD.length) 1) (Nat.lor e m) p.bD 0).map λi=>(i,[])|e,c::f=>let m:=EU p e a;let b:=Nat.lor e m;let d:=Nat.lor b (p.nu c);(xB m e p.bD 0).map (λi=>(i,[]))++((xB (p.nu c) b p.bD 0).map (λi=>(i,[]))++(c,AR p d c a)::Ep p a (Nat.lor d (tN c)) f)
def EP:List Nat->Nat|[]=>0|l::r=>Nat.lor (tN l) (EP r)
def rU(p:PC):Nat->List (Nat×List Nat)->Bool|e,[]=>Nat.beq e (Nat.sub (tN p.bD.length) 1)|e,(i,a)::r=>Nat.blt i p.bD.length&&(!dd e i&&(sub (p.nu i) e&&((!dd p.ch i||sub (Nat.land e p.ch) (p.nu i)&&(sub (Nat.land e p.fl) (p.nu i)&&sub (Nat.land e p.ld) (Nat.lor (p.nu i) (EP a))))&&((!dd p.ld i||sub (Nat.land e p.ch) (p.nu i))&&rU p (Nat.lor e (tN i)) r))))
def sW:List Oper->Nat->Tr Nat->Option (Tr Nat)|[],_,a=>some a|o::r,i,a=>match o.dst with
 |some d=>match a.ap d with|some _=>none|none=>sW r (Nat.add i 1) (a.set d i)
 |none=>sW r (Nat.add i 1) a
def pn(p:PC)(a:Tr Nat)(i:Nat):List Operand->Bool
 |[]=>true
 | .tmp t::r=>(match a.ap t with|some j=>Nat.beq j i||(dd (p.nu i) j||dd (p.nu j) i)|none=>true)&&pn p a i r
 |_::r=>pn p a i r
def xn(p:PC)(a:Tr Nat)(i:Nat):Option Operand->Bool
 |some (.tmp t)=>match a.ap t with|some j=>dd (p.nu i) j|none=>true
 |_=>true
def G2(p:PC)(i:Nat):Option (Nat×Bool)->Bool|some (j,_)=>dd (p.nu i) j|none=>true
def mr:Op->Option Operand| .load _ a=>some a| .convert _ _ a=>some a| .slice _ a _ _ _=>some a|_=>none
def v8(p:PC)(a:Tr Nat):List Oper->Nat->Bool|[],_=>true|o::r,i=>tr o.op&&(G2 p i o.guard&&(pn p a i o.op.operands.toList&&(xn p a i (mr o.op)&&v8 p a r (Nat.add i 1))))
structure Item where
  i : Nat
  o : Oper
  lk : List Operand
def Fv(bD:List Oper):List Nat->Option (List Operand)|[]=>some []|l::r=>match bD[l]? with
 |some o=>match mr o.op with
  |some a=>match Fv bD r with|some b=>some (a::b)|none=>none
  |none=>none
 |none=>none
def wu(bD:List Oper):List (Nat×List Nat)->Option (List Item)|[]=>some []|(i,b)::r=>match bD[i]? with
 |some o=>match Fv bD b with
  |some a=>match wu bD r with|some l=>some (⟨i,o,a⟩::l)|none=>none
  |none=>none
 |none=>none
def Dk(p:Op->Bool):List Oper->Nat->List Nat|[],_=>[]|o::r,i=>bif p o.op then i::Dk p r (Nat.add i 1)else Dk p r (Nat.add i 1)
def nS(bD:List Oper):Option (List Item):=match HC bD 0 .e with
 |some a=>match sW bD 0 .e with|some b=>let p:PC:=⟨bD,a,lD fH bD 0,lD rl bD 0,lD qc bD 0⟩;let l:=Ep p (Dk qc bD 0) 0 (Dk fH bD 0);bif rU p 0 l&&v8 p b bD 0 then wu bD l else none|none=>none
 |none=>none
def hK(s:St):List Operand->Option (List Nat)|[]=>some s.lk|a::r=>match hK s r with
 |some l=>match s.ev a with|some (.ptr b _)=>some (b::l)|some (.sl b _ _)=>some (b::l)|some (.jh b _ _)=>some (b::l)|some (.map _)=>none|some _=>some l|none=>none
 |none=>none
def kR(s:St):Op->Bool
 | .call c=>match c.callee with
  | .builtin .len=>match s.jI c.args.toList with|some [.map _]=>true|_=>false
  |_=>false
 |_=>false
def jJ(s:St):List Operand->Tr HV|[]=> .e| .tmp t::r=>(jJ s r).set t (s.tmp t)|_::r=>jJ s r
def nJ(bD:Array Oper)(o:Oper):List Operand:=match o.guard with
 |some (j,_)=>match(bD[j]?).bind (·.dst)with|some g=>[.tmp g]|none=>[]
 |none=>[]
def St.cut(s:St)(bD:Array Oper)(o:Oper)(l:List Nat):St:=⟨s.nt,jJ s (nJ bD o++o.op.operands.toList),s.hp,s.nx,l,.any⟩
def St.take(s:St)(o:Oper)(t:St):St:=⟨s.nt,match o.dst with|some d=>s.dC.set d (t.tmp d)|none=>s.dC,t.hp,t.nx,s.lk,s.df⟩
def fK(cx:Cx)(a:nM)(bD:Array Oper):St->List Item->Option St|s,[]=>some s|s,x::r=>match hK s x.lk with
 |some l=>bif kR s x.o.op then none else match gy cx a bD (s.cut bD x.o l) x.o with|some t=>fK cx a bD (s.take x.o t) r|none=>none
 |none=>none
def xo(cx:Cx)(e:nM)(c:Code)(s:St):Option (Ex×St):=match c with
 | .skip=>some (.cN,s)
 | .region _ f false=>match ju cx e f s f.toList with|some d=>some (.cN,d)|none=>none
 | .region _ f true=>match nS f.toList with
  |some l=>match fK cx e f s l with|some d=>some (.cN,d)|none=>none
  |none=>none
 | .seq a b=>match e a s with|some (.cN,d)=>e b d|r=>r
 | .cond c a b=>match s.ev c with|some (.bool true)=>e a s|some (.bool false)=>e b s|_=>none
 | .block g b=>match e b s with|some (.exit j,d)=>bif Nat.beq j g then some (.cN,d)else some (.exit j,d)|r=>r
 | .loop b=>match e b s with|some (.cN,d)=>e (.loop b) d|r=>r
 | .exit g=>some (.exit g,s)
 | .ret=>some (.ret,s)
 |_=>none
def run(cx:Cx)(n:Nat):nM:=Nat.rec (λ_ _=>none) (λ_ a=>xo cx a) n
def oH(P:Program)(t:Nat):Sh:=match P.underlying t with
 |some (.slice e)=> .slice e
 |some (.array n e)=> .im n e
 |some (.struct a)=>match a.toList.mapM λf=>(P.info? f.type).map λi=>(f.offset,i.size)with|some l=> .struct l|none=> .Pc
 |some (.int k)=> .int k
 |some .bool=> .bool
 |some .string=> .ef
 |some (.map k e)=> .map k e
 |_=> .Pc
def Ka(P:Program)(t:Nat):Bool:=match P.underlying t with|some (.struct _)=>true|some (.array _ _)=>true|_=>false
def pX(P:Program)(t:Nat):Option pI:=match P.info? t with
 |some i=>match P.underlying t with|none=>none|some _=>some ⟨Ka P t,i.size,i.bytes,match i.zero with|some v=>Jt v|none=>none,oH P t⟩
 |none=>none
def C4(P:Program):Nat->Tr pI|0=> .e|i+1=>match pX P i with|some x=>(C4 P i).set i x|none=>C4 P i
def C6:List Func->Nat->Tr Func->Tr Func|[],_,t=>t|f::r,i,t=>C6 r (Nat.add i 1) (t.set i f)
end
end Go.Hm
namespace Go.Ls
open Go Go.Hm
noncomputable section
inductive U where|int(k:IntKind)|bool|ef|bw(e:U)|un|ai(a b:U)|im(n:Nat)(e:U)|nil deriving DecidableEq
abbrev iT:U:= .int .i64
abbrev iU:U:= .ai iT .un
abbrev bU:U:= .ai .bool .un
abbrev lI:U:= .bw iT
@[reducible]def D:U->Type| .int _=>Int| .bool=>Bool| .ef=>ByteArray| .bw e=>List (D e)| .un=>Unit| .ai a b=>D a×D b| .im _ e=>List (D e)| .nil=>Unit
def Tp:(u:U)->D u| .int _=>(0:Int)| .bool=>false| .ef=>ByteArray.empty| .bw _=>[]| .un=>()| .ai a b=>(Tp a,Tp b)| .im n e=>List.replicate n (Tp e)| .nil=>()
def U.size:U->Nat| .un=>0| .ai a b=>Nat.add a.size b.size| .im n e=>Nat.mul n e.size|_=>1
def U.ag:U->Bool| .un=>true| .ai _ _=>true| .im _ _=>true|_=>false
def U.i5:U->Bool| .bw _=>false| .ai a b=>a.i5&&b.i5| .im _ e=>e.i5|_=>true
def jS(u v:U)(x:D u):Option (D v):=match decEq u v with| .isTrue h=>some (h▸x)| .isFalse _=>none
def ad{α:Type}(b:Bool)(x y:Option α):Option α:=Bool.rec y x b
def aC{α:Type}(b:Bool)(x:Option α):Option α:=Bool.rec none x b
def am{α β:Type}(o:Option α)(f:α->Option β):Option β:=match o with|some x=>f x|none=>none
def aE{α β:Type}(o:Option (Sum α β))(f:α->Option β):Option β:=match o with|some (.inl x)=>f x|some (.inr r)=>some r|none=>none
def Cj{α β:Type}(o:Option α):Option (Sum α β):=match o with|some x=>some (.inl x)|none=>none
def ao{α β:Type}(o:Option β):Option (Sum α β):=match o with|some x=>some (.inr x)|none=>none
def i4{α β:Type}(f:α->Option (Sum α β))(n:Nat):α->Option β:=Nat.rec (λ_=>none) (λ_ a x=>aE (f x) a) n
def KT{α:Type 1}(a:α):{x:α//x=a}:=Classical.choice ⟨⟨a,rfl⟩⟩
def aF{α β:Type}(f:α->Option (Sum α β))(n:Nat)(x:α):Option β:=(KT λ(α β:Type)(f:α->Option (Sum α β))(n:Nat)=>i4 f n).1 α β f n x
def sP(op:BinOp)(k:IntKind)(a b:Int):Int:=match op with| .add=>fT k (Int.add a b)| .sub=>fT k (Int.sub a b)| .mul=>fT k (Int.mul a b)| .quo=>fT k (Int.tdiv a b)| .rem=>Int.tmod a b| .and=>fT k (Int.ofNat (BitVec.ofInt k.bits a&&&BitVec.ofInt k.bits b).toNat)| .or=>fT k (Int.ofNat (BitVec.ofInt k.bits a|||BitVec.ofInt k.bits b).toNat)| .xor=>fT k (Int.ofNat (BitVec.ofInt k.bits a^^^BitVec.ofInt k.bits b).toNat)| .andNot=>fT k (Int.ofNat (BitVec.ofInt k.bits a&&& ~~~BitVec.ofInt k.bits b).toNat)| .shl=>fT k (Int.mul a (Int.ofNat (Nat.pow 2 (Nat.min b.toNat k.bits))))| .shr=>Int.fdiv a (Int.ofNat (Nat.pow 2 (Nat.min b.toNat k.bits)))|_=>0
def Cp(op:BinOp)(a b:Int):Bool:=match op with| .eql=>decide (a=b)| .neq=>!decide (a=b)| .lss=>decide (a<b)| .leq=>decide (a<=b)| .gtr=>decide (b<a)| .geq=>decide (b<=a)|_=>false
def cvC(k:IntKind)(x:Int):Int:=fT k x
def ee(k:IntKind)(x:Int):Int:=cvC k x
def ah(k:IntKind)(a b:Int):Int:=sP .add k a b
def bb(k:IntKind)(a b:Int):Int:=sP .sub k a b
def ea(k:IntKind)(a b:Int):Int:=sP .mul k a b
def oI(k:IntKind)(a b:Int):Int:=sP .quo k a b
def lf(k:IntKind)(a b:Int):Int:=sP .rem k a b
def aaS(k:IntKind)(a b:Int):Int:=sP .and k a b
def Pd(k:IntKind)(a b:Int):Int:=sP .or k a b
def bG(k:IntKind)(a b:Int):Int:=sP .xor k a b
def jj(k:IntKind)(a b:Int):Int:=sP .andNot k a b
def fj(k:IntKind)(a b:Int):Int:=sP .shl k a b
def qW(k:IntKind)(a b:Int):Int:=sP .shr k a b
def uO(k:IntKind)(a:Int):Int:=sP .sub k 0 a
def aY(a b:Int):Bool:=Cp .eql a b
def bF(a b:Int):Bool:=Cp .neq a b
def ay(a b:Int):Bool:=Cp .lss a b
def cH(a b:Int):Bool:=Cp .leq a b
def wL(a b:Bool):Bool:=a==b
def bI(a:Bool):Bool:=!a
def eV(a b:Bool):Bool:=a&&b
def P4(a b:ByteArray):Bool:=a.toList==b.toList
def aaR(a b:ByteArray):ByteArray:=a++b
def Vd(a b:ByteArray):Bool:=Nat.ble (Nat.add a.size b.size) 1000000000
def UQ(b:Bool)(x y:Int):Int:=bif b then x else y
def bK(a b:Int):Int:=bif decide (a<=b)then a else b
def UW(a b:Int):Int:=bif decide (a<=b)then b else a
def ak{α:Type}(l:List α):Int:=Int.ofNat l.length
def uR(s:ByteArray):Int:=Int.ofNat s.size
def az{α:Type}(l:List α)(i:Int):Option α:=match i with| .ofNat n=>l[n]?|_=>none
def atS(s:ByteArray)(i:Int):Option Int:=match i with
 | .ofNat n=>match s[n]? with|some c=>some (Int.ofNat c.toNat)|none=>none
 |_=>none
def aU{α:Type}(l:List α)(i:Int):Bool:=decide (0<=i)&&decide (i<Int.ofNat l.length)
def aG{α:Type}(l:List α)(i:Int)(x:α):List α:=l.set i.toNat x
def aX{α:Type}(l r:List α):List α:=l++r
def ac4{α:Type}(l:List α)(k lq:Nat):Bool:=gu (Nat.add l.length k) lq
def a4{α:Type}(l r:List α)(lq:Nat):Bool:=gu (Nat.add l.length r.length) lq
def gw(l c:Int)(lq:Nat):Bool:=decide (0<=l)&&(decide (l<=c)&&gu c.toNat lq)
def eh{α:Type}(n:Int)(x:α):List α:=List.replicate n.toNat x
def dx(lo hi n:Int):Bool:=decide (0<=lo)&&(decide (lo<=hi)&&decide (hi<=n))
def eS{α:Type}(l:List α)(lo hi:Int):List α:=(l.drop lo.toNat).take (hi.toNat-lo.toNat)
def aaH(s:ByteArray)(lo hi:Int):ByteArray:=s.extract lo.toNat hi.toNat
def cR(a:Int):Bool:=decide (0<=a)
def bs{α:Type}(d:α)(l:List α)(i:Nat):α:=(l[i]?).getD d
def qy(l:List Int):Bool:=l.all λc=>decide (0<=c)
def dR{α:Type}(l r:List α):List α:=r.take l.length++l.drop r.length
def Ek{α β:Type}(l:List α)(r:List β):Int:=Int.ofNat (Nat.min r.length l.length)
def sj(s:ByteArray):List Int:=s.data.toList.map λc=>Int.ofNat c.toNat
def CK(l:List Int):ByteArray:=⟨⟨l.map λc=>UInt8.ofNat c.toNat⟩⟩
def g8{α:Type}(l:List α)(i:Int):List α:=l.eraseIdx i.toNat
def ri(m:List (Int×Bool×Unit))(k:Int):Bool:=match m with|[]=>false|(a,b,_)::r=>bif decide (k=a)then b else ri r k
def AN(m:List (Int×Bool×Unit))(k:Int):Bool:=match m with|[]=>false|(a,_)::r=>decide (k=a)||AN r k
def m6(m:List (Int×Bool×Unit))(k:Int)(v:Bool):List (Int×Bool×Unit):=match m with|[]=>[(k,v,())]|(a,w)::r=>bif decide (k=a)then(k,v,())::r else(a,w)::m6 r k v
inductive SV where|any|undef|int(l:Bool)(k:IntKind)(x:Int)|bool(l b:Bool)|val(u:U)(x:D u)|agg(is:List SV)|mx(vs:List SV)|fn(f:FuncId)(caps:List SV)|rc|cM|gz|rf|box(m o:Nat)|rt(m o n:Nat)|row(m:Nat)|oU(m:Nat)(i:Int)(o:Nat)|rX(u:U)(x:D u)|uE(m o n:Nat)(u:U)(j:Int)(p:Nat)|sub(m g:Nat)(j:Int)|map(m:Nat)|jh(m o n:Nat)|vw(m:Nat)(h:Int)
inductive iK where|box(z:Nat)(is:List SV)|row(e:U)(xs:List (D e))|rows(g:Nat)(e:U)(xs:List (List (D e)))|mM(e:U)(xs:List (List (D e)))(k:Int)|map(kvs:List (Int×Bool×Unit))
def iK.rn:iK->Option Nat| .rows _ _ a=>some a.length| .mM _ a _=>some a.length|_=>none
def mk:(u:U)->D u->SV| .int k,x=> .int false k x| .bool,b=> .bool false b| .ef,x=> .val .ef x| .bw e,x=> .val (.bw e) x| .un,x=> .val .un x| .ai a b,x=> .val (.ai a b) x| .im n e,x=> .val (.im n e) x| .nil,_=> .cM
def SV.ag:SV->Bool| .val u _=>u.ag| .agg _=>true|_=>false
mutual def SV.w:SV->Nat| .val u _=>u.size| .agg is=>ws is|_=>1 def ws:List SV->Nat|[]=>0|i::is=>Nat.add i.w (ws is)end
def elems(e:U)(xs:List (D e)):Nat->Nat->List SV|_,0=>[]|i,n+1=>mk e (bs (Tp e) xs i)::elems e xs (Nat.add i 1) n
def SV.split:SV->Option (List SV)| .agg c=>some c| .val (.ai a b) x=>some [mk a x.1,mk b x.2]| .val .un _=>some []| .val (.im n e) d=>some (elems e d 0 n)|_=>none
def qm:Nat->List SV->Nat->Option (List SV×List SV)|0,c,o=>bif Nat.beq o 0 then some ([],c)else none|f+1,c,o=>bif Nat.beq o 0 then some ([],c)else match c with|[]=>none|i::c=>bif Nat.ble i.w o then match qm f c (Nat.sub o i.w)with|some (a,b)=>some (i::a,b)|none=>none else match i.split with|some d=>qm f (d++c) o|none=>none
def FU:Nat:=1000
def vr:Nat->SV->SV|0,s=>s|f+1,s=>match s with| .val (.ai a .un) x=>vr f (mk a x.1)|_=>s
def OH:List SV->List SV|[i]=>[vr 5 i]|l=>l
def uU(a:List SV)(o z:Nat):Option (List SV):=match qm FU a o with
 |some (_,b)=>match qm FU b z with|some (c,_)=>some (OH c)|none=>none
 |none=>none
def we(c:List SV)(o z:Nat)(e:List SV):Option (List SV):=match qm FU c o with
 |some (a,b)=>match qm FU b z with|some (_,d)=>some (a++(e++d))|none=>none
 |none=>none
def GF(ag:Bool):List SV->Option SV|[i]=>bif i.ag then bif ag then some i else none else bif ag then some (.agg [i])else some i|l=>bif ag then some (.agg l)else none
def SV.qz:SV->Option (List SV)| .any=>none| .undef=>none| .mx _=>none| .agg a=>some a|v=>some [v]
def vL:HV->SV| .int k n=> .int true k n| .bool b=> .bool true b| .ef s=> .val .ef s| .rc=> .rc| .cM=> .cM| .rf=> .rf|_=> .any
def nE:List HV->List SV|[]=>[]|v::a=>vL v::nE a
def US:HV->SV| .undef=> .undef| .agg a=> .agg (nE a)|v=>vL v
structure SS where
  nt : Nat
  dC : Tr SV
  st : Tr iK
  nx : Nat
  lk : List Nat
  base : Nat
  wr : List Nat
  kp : List Nat
def SS.tmp(S:SS)(t:Nat):SV:=match S.dC.ap t with|some v=>v|none=> .any
def SS.mem(S:SS)(st:Tr iK)(nx:Nat):SS:=⟨S.nt,S.dC,st,nx,S.lk,S.base,S.wr,S.kp⟩
def SS.put(S:SS)(d:Option Nat)(v:SV):Option SS:=match d with|some t=>bif Nat.blt t S.nt then bif bu t S.kp then none else some ⟨S.nt,S.dC.set t v,S.st,S.nx,S.lk,S.base,S.wr,S.kp⟩else some S|none=>some S
def SS.ev(S:SS):Operand->Option SV
 | .tmp t=>some (S.tmp t)
 | .const v=>match Jt v with|some a=>some (US a)|none=>none
 | .func f=>some (.fn f [])
 | .global _=>none
def SS.jI(S:SS):List Operand->Option (List SV)|[]=>some []|x::a=>match S.ev x with
 |some v=>match S.jI a with|some l=>some (v::l)|none=>none
 |none=>none
def SS.jU(S:SS)(m:Nat):Bool:=Nat.ble S.base m||bu m S.wr
def SS.jT(S:SS)(m:Nat):Bool:=S.jU m&&!bu m S.lk
def SS.bP(S:SS)(e:iK):SS:=S.mem (S.st.set S.nx e) (Nat.add S.nx 1)
def SS.iE(S:SS)(m:Nat)(e:iK):SS:=S.mem (S.st.set m e) S.nx
def SS.lZ(S:SS)(m:Nat):SS:=S.mem (S.st.nr m) S.nx
mutual def iO:SV->List Nat| .row m=>[m]| .rt m _ _=>[m]| .sub m _ _=>[m]| .jh m _ _=>[m]| .vw m _=>[m]| .agg is=>dH is|_=>[]def dH:List SV->List Nat|[]=>[]|i::is=>iO i++dH is end
def EE(st:Tr iK)(a:List SV->Option (List Nat)):List Nat->Option (List Nat)|[]=>some []|m::l=>match EE st a l with
 |some r=>match st.ap m with
  |some (.box _ b)=>match a b with|some q=>some (m::(q++r))|none=>none
  |_=>some (m::r)
 |none=>none
def xw(st:Tr iK):Nat->List SV->Option (List Nat)
 |0,a=>match dH a with|[]=>some []|_=>none
 |k+1,a=>EE st (xw st k) (dH a)
def mZ(st:Tr iK)(a:List SV):Option (List Nat):=xw st 3 a
def SV.as(st:Tr iK)(u:U):SV->Option (D u)
 | .val v x=>jS v u x
 | .int _ k x=>jS (.int k) u x
 | .bool _ b=>jS .bool u b
 | .cM=>match u with| .bw e=>some ([]:List (D e))| .nil=>some ()|_=>none
 | .gz=>match u with| .bw e=>some ([]:List (D e))|_=>none
 | .row m=>match st.ap m with|some (.row e a)=>jS (.bw e) u a|some (.rows _ e a)=>jS (.bw (.bw e)) u a|_=>none
 | .vw m h=>match st.ap m with|some (.row e a)=>jS (.bw e) u (eS a 0 h)|_=>none
 | .sub m g j=>match st.ap m with
  |some (.rows c e a)=>bif Nat.beq g c then match az a j with|some l=>jS (.bw e) u l|none=>none else none
  |_=>none
 |_=>none
def V1:List SV->List SV|[]=>[]|_::l=>l
def Sx{α:Type}(g:List SV->Option (α×List SV))(n:Nat):List SV->Option (List α×List SV):=Nat.rec (λr=>some ([],r)) (λ_ a r=>match g r with
 |some (x,b)=>match a b with|some (l,c)=>some (x::l,c)|none=>none
 |none=>none) n
def sM(st:Tr iK):Nat->(u:U)->List SV->Option (D u×List SV)|0,_,_=>none|f+1,u,c=>match match c with|i::_=>i.as st u|[]=>none with|some x=>some (x,V1 c)|none=>match u with
 | .un=>some ((),c)
 | .ai a b=>match sM st f a c with
  |some (x,r)=>match sM st f b r with|some (y,j)=>some ((x,y),j)|none=>none
  |none=>none
 | .im n e=>Sx (sM st f e) n c
 | .bw e=>match c with
  | .rt m o n::r=>match st.ap m with
   |some (.box z g)=>bif Nat.beq z e.size&&Nat.ble 1 z then match qm FU g o with
    |some (_,h)=>match Sx (sM st f e) n h with|some (l,_)=>some (l,r)|none=>none
    |none=>none else none
   |_=>none
  |i::r=>match i.split with|some d=>sM st f (.bw e) (d++r)|none=>none
  |[]=>none
 |u=>match c with
  |i::r=>match i.split with|some d=>sM st f u (d++r)|none=>none
  |[]=>none
def Gu(st:Tr iK)(u:U)(v:SV):Option (D u):=bif v.ag==u.ag then match v.qz with
 |some a=>match sM st FU u a with|some (x,[])=>some x|_=>none
 |none=>none else none
def SS.rV(S:SS):List Nat->Option SS|[]=>some S|m::l=>bif S.jU m then(S.lZ m).rV l else none
def pZ(st:Tr iK):(u:U)->List SV->Option (D u)
 | .un,[]=>some ()
 | .ai a b,v::c=>match Gu st a v with
  |some x=>match pZ st b c with|some y=>some (x,y)|none=>none
  |none=>none
 |_,_=>none
def lC:(u:U)->D u->List SV| .ai a b,x=>mk a x.1::lC b x.2|_,_=>[]
structure zm where
  a : U
  r : U
  F : D a → Option (D r)
def Ah:List SV->SV|[v]=>v|l=> .mx l
inductive Kd where|v(u:U)|o(e:U)|s(e:U)
inductive Hi where|bE(t:Nat)|val(t:Nat)(u:U)|own(t:Nat)(e:U)|lP(t:Nat)(e:U)|mp(t:Nat)|rw(t:Nat)(e:U)|cell(t:Nat)(u:U)|box(t:Nat)(ks:List Kd)
structure Cy where
  cx : Cx
  tu : Nat → Option U
  ct : Tr zm
  hi : Tr (Tr (List Hi))
  sp : Tr Nat
  rj : Tr (List Hi)
def vF:List Kd->U|[]=> .un| .o e::r=> .ai (.bw e) (vF r)| .s e::r=> .ai (.bw (.bw e)) (vF r)| .v u::r=> .ai u (vF r)
def iH:List Hi->U|[]=> .un| .bE _::r=>iH r| .val _ u::r=> .ai u (iH r)| .own _ e::r=> .ai (.bw e) (iH r)| .lP _ e::r=> .ai (.bw (.bw e)) (iH r)| .rw _ e::r=> .ai (.bw e) (iH r)| .cell _ u::r=> .ai u (iH r)| .mp _::r=> .ai (.bw (.ai (.int .i64) (.ai .bool .un))) (iH r)| .box _ a::r=> .ai (vF a) (iH r)
end
noncomputable section
variable{R:Type}
def Vj(l b:Bool)(x y:Option R):Option R:=bif l then bif b then x else y else ad b x y
def Hr(l b:Bool)(x:Option R):Option R:=bif l then bif b then x else none else aC b x
def Xc(op:BinOp)(k:IntKind)(a b:Int):Int:=match op with| .add=>ah k a b| .sub=>bb k a b| .mul=>ea k a b| .quo=>oI k a b| .rem=>lf k a b| .and=>aaS k a b| .or=>Pd k a b| .xor=>bG k a b| .andNot=>jj k a b| .shl=>fj k a b| .shr=>qW k a b|_=>0
def W5(op:BinOp)(a b:Int):Bool:=match op with| .eql=>aY a b| .neq=>bF a b| .lss=>ay a b| .leq=>cH a b| .gtr=>ay b a| .geq=>cH b a|_=>false
def GC:BinOp->Nat| .quo=>1| .rem=>1| .shl=>2| .shr=>2| .eql=>3| .neq=>3| .lss=>3| .leq=>3| .gtr=>3| .geq=>3|_=>0
def Pr(l:Bool)(op:BinOp)(k:IntKind)(a b:Int):SV:=bif l then .int true k (sP op k a b)else .int false k (Xc op k a b)
def Wx(l:Bool)(op:BinOp)(a b:Int):SV:=bif l then .bool true (Cp op a b)else .bool false (W5 op a b)
def qe(k a:IntKind):Bool:=decide (k=a)
def PQ(op:BinOp)(l:Bool)(k:IntKind)(a:Int)(c:Bool)(d:IntKind)(b:Int)(K:SV->Option R):Option R:=match GC op with|0=>bif qe k d then K (Pr (l&&c) op k a b)else none|1=>bif qe k d then Hr c (bif c then !decide (b=0)else bF b 0) (K (Pr (l&&c) op k a b))else none|2=>Hr c (bif c then decide (0<=b)else cR b) (K (Pr (l&&c) op k a b))|_=>bif qe k d then K (Wx (l&&c) op a b)else none
def JM(op:BinOp)(l b:Bool):Option SV:=match op with| .eql=>some (.bool l b)| .neq=>some (.bool l (bif l then !b else bI b))|_=>none
def xP:Nat->List SV->Option (List SV)|0,_=>none|_+1,[]=>some []|f+1,i::a=>bif i.ag then match i.split with|some b=>xP f (b++a)|none=>none else match xP f a with|some l=>some (i::l)|none=>none
def Du:List Bool->List SV->List SV->Option (Bool×Bool)
 |[],[],[]=>some (true,true)
 |true::d,.int l k a::r,.int c g b::f=>bif qe k g then match Du d r f with|some (m,e)=>some (l&&c&&m,bif l&&c&&m then decide (a=b)&&e else eV (aY a b) e)|none=>none else none
 |false::d,.bool l a::r,.bool c b::f=>match Du d r f with|some (m,e)=>some (l&&c&&m,bif l&&c&&m then a==b&&e else eV (wL a b) e)|none=>none
 |_,_,_=>none
def oS(o:Option SV)(K:SV->Option R):Option R:=match o with|some v=>K v|none=>none
def wD(cx:Cx)(t:Nat)(p:Sh->Bool):Bool:=match cx.ti.ap t with|some x=>p x.sh|none=>false
def EA:Sh->Bool| .bool=>true|_=>false
def Gk:Sh->Bool| .slice _=>true|_=>false
def V8:Sh->Bool| .ef=>true|_=>false
def Qs(cx:Cx)(op:BinOp)(t:Nat)(x y:SV)(K:SV->Option R):Option R:=match x,y with
 | .int l k a,.int c g b=>PQ op l k a c g b K
 | .bool l a,.bool c b=>bif wD cx t EA then oS (JM op (l&&c) (bif l&&c then a==b else wL a b)) K else none
 | .val .ef a,.val .ef b=>match op with| .add=>aC (Vd a b) (K (.val .ef (aaR a b)))|_=>oS (JM op false (P4 a b)) K
 |x,.cM=>bif wD cx t Gk then match x with| .cM=>oS (JM op true true) K| .rt _ _ _=>oS (JM op true false) K|_=>none else none
 |x,y=>match cx.Cl.ap t with
  |some m=>bif x.ag&&y.ag then match x.qz,y.qz with
   |some d,some f=>match xP FU d,xP FU f with
    |some a,some b=>bif Nat.beq a.length m.length&&Nat.beq b.length m.length then match Du m a b with|some (l,e)=>oS (JM op l e) K|none=>none else none
    |_,_=>none
   |_,_=>none else none
  |none=>none
def uQ:SV->Option Nat| .int true _ (.ofNat n)=>some n|_=>none
def JK:SV->Option SV| .int _ k x=>some (.rX (.int k) x)| .bool _ b=>some (.rX .bool b)| .val u x=>some (.rX u x)|_=>none
def Vc(u:U)(x:D u)(p z:Nat):Option SV:=match uU [mk u x] p z with|some [i]=>JK i|_=>none
def xQ(b:Nat->Option (Nat×Nat))(a:List SV):List (Nat×SV)->Option (List SV)|[]=>some a|(i,v)::r=>match b i with
 |some (o,z)=>match v.qz with
  |some c=>bif Nat.beq (ws c) z then match we a o z c with|some d=>xQ b d r|none=>none else none
  |none=>none
 |none=>none
def IW(cx:Cx)(t:Nat):Option (List SV):=match cx.ti.ap t with
 |some x=>match x.zero with
  |some z=>match iP z with|some c=>some (nE c)|none=>none
  |none=>none
 |none=>none
def Hb(S:SS):List (Nat×Operand)->Option (List (Nat×SV))|[]=>some []|(i,x)::r=>match S.ev x with
 |some v=>match Hb S r with|some l=>some ((i,v)::l)|none=>none
 |none=>none
def Gt(l:List SV):Nat->List SV|0=>[]|n+1=>l++Gt l n
def Hc(S:SS):Option Operand->Option (Option SV)|none=>some none|some x=>match S.ev x with|some v=>some (some v)|none=>none
def kV(d:Int):Option SV->Option Int|none=>some d|some (.int _ _ x)=>some x|some _=>none
def uB:Option SV->Bool|none=>true|some (.int true _ x)=>decide (x=0)|_=>false
def wo(a:List SV):Bool:=match dH a with|[]=>true|_=>false
def SS.KL(S:SS):SS:=S.mem S.st (Nat.add S.nx 1)
section
variable(cy:Cy)(S:SS)
def EV(t:Nat)(a:SV)(K:SV->Option R):Option R:=match cy.cx.ti.ap t with
 |some x=>match a with
  | .box m o=>match S.st.ap m with
   |some (.box _ d)=>match uU d o x.size with|some c=>oS (GF x.agg c) K|none=>none
   |_=>none
  | .rX u v=>bif Nat.beq u.size x.size then match uU [mk u v] 0 x.size with|some c=>oS (GF x.agg c) K|none=>none else none
  | .oU m i o=>match S.st.ap m with
   |some (.row e b)=>am (az b i) λv=>match uU [mk e v] o x.size with|some c=>oS (GF x.agg c) K|none=>none
   |some (.rows g _ b)=>bif Nat.beq o 0&&(Nat.beq x.size 1&&!x.agg)then aC (aU b i) (K (.sub m g i))else none
   |_=>none
  | .uE m o n u j p=>match S.st.ap m with
   |some (.box _ d)=>match uU d o (Nat.mul n u.size)with
    |some c=>match sM S.st FU (.im n u) c with
     |some (b,[])=>bif wo c then am (az b j) λv=>match uU [mk u v] p x.size with|some c=>oS (GF x.agg c) K|none=>none else none
     |_=>none
    |none=>none
   |_=>none
  |_=>none
 |none=>none
def Ba(u:U):SV->Option (List (D u)×SS)
 | .cM=>some ([],S)
 | .row m=>match S.st.ap m with
  |some (.row e a)=>match jS (.bw e) (.bw u) a with|some b=>bif S.jT m then some (b,S.lZ m)else none|none=>none
  |_=>none
 |_=>none
def Em(t:Nat)(a v:SV)(K:SS->Option R):Option R:=match cy.cx.ti.ap t with
 |some x=>match v.qz with
  |some c=>bif Nat.beq (ws c) x.size then match a with
   | .box m o=>match S.st.ap m with
    |some (.box z l)=>bif S.jT m then match we l o x.size c with|some h=>K (S.iE m (.box z h))|none=>none else none
    |_=>none
   | .oU m i o=>match S.st.ap m with
    |some (.row e f)=>match mZ S.st c with
     |some g=>bif S.jT m&&!bu m g then match S.rV g with
      |some b=>am (az f i) λy=>match we [mk e y] o x.size c with
       |some h=>match sM S.st FU e h with|some (w,[])=>K (b.iE m (.row e (aG f i w)))|_=>none
       |none=>none
      |none=>none else none
     |none=>none
    |some (.rows _ e f)=>match c with
     |[w]=>match Ba S e w with|some (q,b)=>bif b.jT m&&(Nat.beq o 0&&(b.st.ap m).isSome)then aC (aU f i) (K (b.iE m (.rows b.nx e (aG f i q))).KL)else none|none=>none
     |_=>none
    |some (.mM e f k)=>match c with
     |[w]=>match Ba S e w with|some (q,b)=>bif b.jT m&&(Nat.beq o 0&&(b.st.ap m).isSome)then aC (aY i k) (K (b.iE m (.rows b.nx e (aG f i q))).KL)else none|none=>none
     |_=>none
    |_=>none
   | .uE m o n u j p=>match S.st.ap m with
    |some (.box z l)=>match mZ S.st c with
     |some g=>bif S.jT m&&!bu m g then match S.rV g with
      |some b=>match uU l o (Nat.mul n u.size)with
       |some d=>match sM S.st FU (.im n u) d with
        |some (f,[])=>bif wo d then am (az f j) λy=>match we [mk u y] p x.size c with
         |some h=>match sM S.st FU u h with
          |some (w,[])=>match we l o (Nat.mul n u.size) [.val (.im n u) (aG f j w)]with|some r=>K (b.iE m (.box z r))|none=>none
          |_=>none
         |none=>none else none
        |_=>none
       |none=>none
      |none=>none else none
     |none=>none
    |_=>none
   |_=>none else none
  |none=>none
 |none=>none
def Fb(t:Nat)(a:SV)(i:Nat)(K:SV->Option R):Option R:=match cy.cx.ti.ap t with
 |some x=>match x.sh with
  | .struct b=>match b[i]? with
   |some (p,.succ z)=>match a with
    | .box m o=>K (.box m (Nat.add o p))
    | .oU m j o=>match S.st.ap m with|some (.row _ _)=>K (.oU m j (Nat.add o p))|_=>none
    | .uE m o n u j q=>K (.uE m o n u j (Nat.add q p))
    | .rX u v=>oS (Vc u v p (.succ z)) K
    |_=>none
   |_=>none
  |_=>none
 |none=>none
def A8(t:Nat)(a i:SV)(K:SV->Option R):Option R:=match cy.cx.ti.ap t with
 |some x=>match x.sh with
  | .slice e=>match cy.cx.size e with
   |some z=>match a,i with
    | .val (.bw u) b,.int _ _ j=>bif Nat.beq u.size z then am (az b j) λv=>K (.rX u v)else none
    | .row m,.int _ _ j=>match S.st.ap m with|some (.row u b)=>bif Nat.beq u.size z then aC (aU b j) (K (.oU m j 0))else none|some (.rows _ _ b)=>bif Nat.beq 1 z then aC (aU b j) (K (.oU m j 0))else none|some (.mM _ b _)=>bif Nat.beq 1 z then aC (aU b j) (K (.oU m j 0))else none|_=>none
    | .vw m q,.int _ _ j=>match S.st.ap m with|some (.row u b)=>bif Nat.beq u.size z then aC (aU (eS b 0 q) j) (K (.oU m j 0))else none|_=>none
    | .rt m o n,i=>match uQ i with|some j=>bif Nat.blt j n then K (.box m (Nat.add o (Nat.mul j z)))else none|none=>none
    | .jh m o n,i=>match uQ i with|some j=>bif Nat.blt j n then K (.box m (Nat.add o (Nat.mul j z)))else none|none=>none
    |_,_=>none
   |none=>none
  | .im n e=>match cy.cx.size e with
   |some z=>match a,i with
    | .rX (.im c u) b,.int _ _ j=>bif Nat.beq u.size z&&Nat.beq n c then am (az b j) λv=>K (.rX u v)else none
    | .box m o,i=>match uQ i with|some j=>bif Nat.blt j n then K (.box m (Nat.add o (Nat.mul j z)))else none|none=>match i,cy.tu e with| .int _ _ j,some u=>bif Nat.beq u.size z then aC (cR j) (aC (ay j (Int.ofNat n)) (K (.uE m o n u j 0)))else none|_,_=>none
    | .oU m k o,i=>match uQ i with
     |some j=>bif Nat.blt j n then match S.st.ap m with|some (.row _ _)=>K (.oU m k (Nat.add o (Nat.mul j z)))|_=>none else none
     |none=>none
    |_,_=>none
   |none=>none
  |_=>none
 |none=>none
def E3(t:Nat)(a i:SV)(K:SV->Option R):Option R:=match cy.cx.ti.ap t with
 |some x=>match x.sh with
  | .ef=>match a,i with| .val .ef s,.int _ _ j=>am (atS s j) λc=>K (.int false .u8 c)|_,_=>none
  | .im m e=>match cy.cx.ti.ap e with
   |some y=>match uQ i with
    |some j=>bif a.ag&&(!y.agg&&(Nat.beq y.size 1&&Nat.blt j m))then match a.qz with
     |some b=>match uU b j 1 with|some c=>oS (GF false c) K|none=>none
     |none=>none else none
    |none=>none
   |none=>none
  |_=>none
 |none=>none
def Fq(t:Nat)(ps:List (Nat×SV))(K:SV->Option R):Option R:=match cy.cx.ti.ap t with
 |some x=>match x.zero with
  |some (.agg z)=>match x.sh with
   | .struct a=>match xQ (λi=>a[i]?) (nE z) ps with|some l=>K (.agg l)|none=>none
   | .im _ e=>match cy.cx.size e with
    |some q=>match xQ (λi=>some (Nat.mul i q,q)) (nE z) ps with|some l=>K (.agg l)|none=>none
    |none=>none
   |_=>none
  |_=>none
 |none=>none
def JO(t:Nat):Option U:=match cy.cx.ti.ap t with
 |some x=>match x.sh with
  | .slice e=>match cy.tu e with
   |some u=>match cy.cx.size e with|some z=>bif Nat.beq u.size z then some u else none|none=>none
   |none=>none
  |_=>none
 |none=>none
def sk(t len:Nat)(ps:List (Nat×SV))(K:SV->SS->Option R):Option R:=match cy.cx.fN t with
 |some y=>bif Nat.ble len 4000&&Nat.ble y.z 4000 then bif Nat.beq len 0&&ps.isEmpty then match JO cy t with|some u=>K (.row S.nx) (S.bP (.row u []))|none=>none else match xQ (λi=>some (Nat.mul i y.z,y.z)) (Gt (nE y.zc) len) ps with|some l=>K (.rt S.nx 0 len) (S.bP (.box y.z l))|none=>none else none
 |none=>none
def ED:U->Option U| .bw e=>some e|_=>none
def tm(t:Nat)(l c:SV)(K:SV->SS->Option R):Option R:=match cy.cx.fN t,JO cy t with
 |some y,some u=>match l,c with
  | .int _ _ m,.int _ _ k=>match sM S.st FU u (nE y.zc)with
   |some (x,[])=>aC (gw m k y.lq) (match ED u with
    |some e=>match y.zc with|[.cM]=>K (.row S.nx) (S.bP (.rows S.nx e (eh m [])))|_=>none
    |none=>K (.row S.nx) (S.bP (.row u (eh m x))))
   |_=>none
  |_,_=>none
 |_,_=>none
def zu:SV->Option SV
 | .val .ef s=>some (.int false .i64 (uR s))
 | .val (.bw _) a=>some (.int false .i64 (ak a))
 | .cM=>some (.int true .i64 0)
 | .gz=>some (.int true .i64 0)
 | .rt _ _ n=>some (.int true .i64 (Int.ofNat n))
 | .jh _ _ n=>some (.int true .i64 (Int.ofNat n))
 | .vw m h=>match S.st.ap m with|some (.row _ _)=>some (.int false .i64 h)|_=>none
 | .row m=>match S.st.ap m with|some (.row _ a)=>some (.int false .i64 (ak a))|some (.rows _ _ a)=>some (.int false .i64 (ak a))|_=>none
 |_=>none
def EW(v:SV)(K:SV->Option R):Option R:=match v with
 | .sub m g j=>match S.st.ap m with|some (.rows a _ c)=>bif Nat.beq g a then am (az c j) λl=>K (.int false .i64 (ak l))else none|_=>none
 | .map m=>match S.st.ap m with|some (.map b)=>K (.int false .i64 (ak b))|_=>none
 |_=>none
def JA(t:Nat)(v:SV)(K:SV->Option R):Option R:=bif wD cy.cx t λs=>match s,v with| .ef,.val .ef _=>true| .slice _,.val .ef _=>false| .slice _,_=>true|_,_=>false then oS (zu S v) K else none
def Jn(u:U):SV->Option (List (D u)×SS)
 | .cM=>some ([],S)
 | .gz=>some ([],S)
 | .row m=>match S.st.ap m with
  |some (.row e a)=>match jS (.bw e) (.bw u) a with|some b=>bif S.jT m then some (b,S.lZ m)else none|none=>none
  |_=>none
 | .vw m h=>match S.st.ap m with
  |some (.row e a)=>match jS (.bw e) (.bw u) a with|some b=>bif S.jT m then some (eS b 0 h,S.lZ m)else none|none=>none
  |_=>none
 |_=>none
def I4(a:SV)(K:SV->SS->Option R):Option R:=match a with
 | .sub m g j=>match S.st.ap m with|some (.rows c e b)=>bif Nat.beq g c&&S.jT m then am (az b j) λl=>K (.row S.nx) ((S.iE m (.mM e b j)).bP (.row e l))else none|_=>none
 |a=>K a S
def wC(cx:Cx)(t:Nat)(x:SV):Bool:=wD cx t λs=>match s,x with| .slice _,.val (.bw _) _=>true| .slice _,.cM=>true| .slice _,.gz=>true| .slice _,.rt _ _ _=>true| .slice _,.row _=>true| .slice _,.vw _ _=>true| .slice _,.sub _ _ _=>true|_,_=>false
def tO(t g:Nat)(a x:SV)(K:SV->SS->Option R):Option R:=match cy.cx.fN t,JO cy t with
 |some y,some u=>bif wC cy.cx g x then match Gu S.st (.bw u) x with
  |some c=>match mZ S.st [x]with
   |some e=>match S.rV (bif u.i5 then []else e)with
    |some f=>match Jn f u a with|some (d,b)=>aC (a4 d c y.lq) (K (.row b.nx) (b.bP (.row u (aX d c))))|none=>none
    |none=>none
   |none=>none
  |none=>none else none
 |_,_=>none
def S7(S:SS):SV->Bool
 | .row m=>match S.st.ap m with|some (.rows _ _ _)=>true|_=>false
 |_=>false
def JI(t f:Nat)(a x:SV)(K:SV->SS->Option R):Option R:=match cy.cx.fN t,JO cy t with
 |some y,some u=>match a,x with
  | .row m,.rt k 0 1=>match S.st.ap m,S.st.ap k with
   |some (.rows _ e c),some (.box z [w])=>bif decide (u= .bw e)&&(Nat.beq z 1&&wC cy.cx f x)then match Ba S e w with|some (d,b)=>bif b.jT m&&(b.st.ap m).isSome then aC (a4 c [d] y.lq) (K (.row b.nx) ((b.lZ m).bP (.rows b.nx e (aX c [d]))))else none|none=>none else none
   |_,_=>none
  |_,_=>none
 |_,_=>none
def S8:Option SV->Bool|some (.int l _ _)=>l|_=>true
def Ev(t:Nat)(a:SV)(lo hi c:Option SV)(K:SV->SS->Option R):Option R:=match cy.cx.ti.ap t with
 |some x=>match x.sh with
  | .slice e=>match cy.cx.size e with
   |some z=>match a,c with
    | .val (.bw u) b,none=>match kV 0 lo,kV (ak b) hi with|some l,some h=>bif Nat.beq u.size z&&Nat.ble 1 z then aC (dx l h (ak b)) (K (.val (.bw u) (eS b l h)) S)else none|_,_=>none
    | .val (.bw u) b,some _=>bif Nat.beq u.size z&&Nat.ble 1 z&&uB lo&&uB hi&&uB c&&Option.isSome hi then K .gz S else none
    | .cM,none=>bif uB lo&&uB hi then K .cM S else match kV 0 lo,kV 0 hi with|some l,some h=>aC (dx l h 0) (K .cM S)|_,_=>none
    | .cM,some _=>bif uB lo&&uB hi&&uB c&&Option.isSome hi then K .cM S else none
    | .gz,none=>bif uB lo&&uB hi then K .gz S else none
    | .gz,some _=>bif uB lo&&uB hi&&uB c&&Option.isSome hi then K .gz S else none
    | .row m,none=>match S.st.ap m with
     |some (.row u b)=>match kV (ak b) hi with
      |some h=>bif Nat.beq u.size z&&Nat.ble 1 z then bif uB lo then aC (dx 0 h (ak b)) (K (.vw m h) S)else match kV 0 lo with|some l=>bif S8 lo then bif S.jU m then aC (dx l h (ak b)) (K (.val (.bw u) (eS b l h)) (S.lZ m))else none else aC (dx l h (ak b)) (K .any S)|none=>none else none
      |none=>none
     |_=>none
    |_,_=>none
   |none=>none
  | .im k e=>match cy.cx.size e,a,c with
   |some z,.box m o,none=>match match lo with|none=>some 0|some v=>uQ v,match hi with|none=>some k|some v=>uQ v with|some l,some h=>bif Nat.ble k 1000000&&(Nat.blt l h&&Nat.ble h k)then K (.jh m (Nat.add o (Nat.mul l z)) (Nat.sub h l)) S else none|_,_=>none
   |_,_,_=>none
  | .ef=>match a,c with
   | .val .ef s,none=>match kV 0 lo,kV (uR s) hi with|some l,some h=>aC (dx l h (uR s)) (K (.val .ef (aaH s l h)) S)|_,_=>none
   |_,_=>none
  |_=>none
 |none=>none
def XW(qV:Nat):Bool:=match cy.cx.ti.ap qV with
 |some x=>match x.sh with
  | .slice e=>match cy.cx.ti.ap e with
   |some q=>match q.sh with| .int .u8=>true|_=>false
   |none=>false
  |_=>false
 |none=>false
def xY(S:SS)(qV d:Nat)(a:SV)(K:SV->Option R):Option R:=match cy.cx.ti.ap qV,cy.cx.ti.ap d with
 |some _,some y=>match y.sh,a with
  | .int k,.int l _ n=>K (bif l then .int true k (cvC k n)else .int false k (ee k n))
  | .ef,.val .ef b=>K (.val .ef b)
  | .ef,x=>bif XW cy qV&&wC cy.cx qV x then match mZ S.st [x]with
   |some _=>match Gu S.st (.bw (.int .u8)) x with|some c=>aC (qy c) (K (.val .ef (CK c)))|none=>none
   |none=>none else none
  |_,_=>none
 |_,_=>none
def SU(d:Bool):List SV->Option SV|[.int l .i64 a,.int c .i64 b]=>some (.int (l&&c) .i64 (bif d then UW a b else bK a b))|_=>none
def Pa(c:SV)(a b:Option SV)(K:SV->Option R):Option R:=match c,a,b with| .bool true x,a,b=>bif x then oS a K else oS b K| .bool false x,some (.int _ k a),some (.int _ d b)=>bif qe k d then K (.int false k (UQ x a b))else none| .bool false x,some a,some b=>ad x (K a) (K b)|_,_,_=>none
def VM(op:UnOp)(v:SV):Option SV:=match op,v with| .not,.bool l b=>some (.bool l (bif l then !b else bI b))| .neg,.int l k n=>some (bif l then .int true k (sP .sub k 0 n)else .int false k (uO k n))|_,_=>none
def Pn(S:SS)(v:SV):Option SV:=match v with
 | .box m o=>some (.box m o)
 | .oU m i o=>match S.st.ap m with|some (.row _ _)=>some (.oU m i o)|_=>none
 | .rX u x=>some (.rX u x)
 |_=>none
def xT(v:SV)(i:Nat):Option SV:=match v with| .mx l=>l[i]?|_=>none
def WB:SV->Bool| .sub _ _ _=>true| .map _=>true|_=>false
def OX(u:U)(a:Nat)(x:SV):Option (List (D u)):=match x with| .val .ef b=>bif wD cy.cx a V8 then jS (.bw (.int .u8)) (.bw u) (sj b)else none| .val .un _=>none|x=>bif wC cy.cx a x&&(u.i5&&(mZ S.st [x]).isSome)then Gu S.st (.bw u) x else none
def vZ(x:SV)(k m:Int)(o:Option R):Option R:=match x with| .val .ef _=>aC (cH k m) o|_=>o
def JQ(t h:Nat)(a x:SV)(K:SV->SS->Option R):Option R:=match cy.cx.fN t,JO cy t with
 |some y,some u=>match OX cy S u h x with
  |some b=>match a with
   | .row m=>match S.st.ap m with
    |some (.row e d)=>match jS (.bw e) (.bw u) d with|some c=>bif S.jT m&&u.i5 then vZ x (ak b) (ak c) (K (.int false .i64 (Ek c b)) (S.iE m (.row u (dR c b))))else none|none=>none
    |_=>none
   | .sub m g j=>match S.st.ap m with
    |some (.rows f e d)=>bif Nat.beq g f&&(S.jT m&&u.i5)then am (az d j) λl=>match jS (.bw e) (.bw u) l with
     |some c=>match jS (.bw u) (.bw e) (dR c b)with|some i=>vZ x (ak b) (ak c) (K (.int false .i64 (Ek c b)) (S.iE m (.rows g e (aG d j i))))|none=>none
     |none=>none else none
    |_=>none
   | .cM=>vZ x (ak b) 0 (K (.int true .i64 0) S)
   |_=>none
  |none=>none
 |_,_=>none
def La(m:SV)(K:List (Int×Bool×Unit)->Nat->Option R):Option R:=match m with
 | .map m=>match S.st.ap m with|some (.map a)=>K a m|_=>none
 |_=>none
def Ox(cx:Cx)(e:Nat):Bool:=match cx.vV e with|some (.bool false)=>true|_=>false
def AQ(t:Nat)(m i:SV)(ok:Bool)(K:SV->Option R):Option R:=match cy.cx.rR t,i with|some e,.int _ .i64 k=>bif wD cy.cx e EA&&Ox cy.cx e then La S m λa _=>K (bif ok then .mx [.bool false (ri a k),.bool false (AN a k)]else .bool false (ri a k))else none|_,_=>none
def zN(t:Nat)(m i v:SV)(K:SS->Option R):Option R:=match cy.cx.rR t,i,v with|some _,.int _ .i64 k,.bool _ b=>La S m λa n=>bif S.jT n then K (S.iE n (.map (m6 a k b)))else none|_,_,_=>none
def xZ(b:Builtin)(ts:List Nat)(args:List SV)(K:SV->SS->Option R):Option R:=match b,ts,args with
 | .len,[t],[v]=>bif WB v then bif wD cy.cx t λs=>match s,v with| .slice _,.sub _ _ _=>true| .map _ _,.map _=>true|_,_=>false then EW S v λr=>K r S else none else JA cy S t v λr=>K r S
 | .copy,[t,c],[a,x]=>JQ cy S t c a x K
 | .append,[t,c],[a,x]=>I4 S a λb d=>bif S7 d b then JI cy d t c b x K else tO cy d t c b x K
 | .min,_,l=>oS (SU false l) λr=>K r S
 | .max,_,l=>oS (SU true l) λr=>K r S
 |_,_,_=>none
end
def kw:List Hi->List Nat|[]=>[]| .bE t::r=>t::kw r| .box t _::r=>t::kw r| .rw t _::r=>t::kw r|_::r=>kw r
def zT:List SV->List Nat|[]=>[]| .row m::r=>m::zT r|_::r=>zT r
def ke(S:SS):List Hi->List Nat
 |[]=>[]
 | .own t _::r=>match S.tmp t with| .row m=>m::ke S r|_=>ke S r
 | .lP t _::r=>match S.tmp t with| .row m=>m::ke S r|_=>ke S r
 | .mp t::r=>match S.tmp t with| .map m=>m::ke S r|_=>ke S r
 | .rw t _::r=>match S.tmp t with| .row m=>m::ke S r|_=>ke S r
 | .box t _::r=>match S.tmp t with
  | .box m _=>match S.st.ap m with|some (.box _ a)=>m::(zT a++ke S r)|_=>ke S r
  |_=>ke S r
 |_::r=>ke S r
def oV(S:SS):List Nat->Bool|[]=>true|m::l=>S.jU m&&oV S l
def LB(a:List Nat):List Nat->Bool|[]=>true|m::l=>!bu m a&&LB a l
def SS.jQ(S:SS)(n:Nat)(h:List Hi)(wr kp:List Nat):SS:=⟨S.nt,S.dC,S.st,S.nx,S.lk,n,wr,kw h++kp⟩
def SS.sH(S a:SS):SS:=⟨S.nt,S.dC,S.st,S.nx,S.lk,a.base,a.wr,a.kp⟩
def SS.hJ(S:SS)(t:Nat)(v:SV):SS:=⟨S.nt,S.dC.set t v,S.st,S.nx,S.lk,S.base,S.wr,S.kp⟩
mutual def kb(n:Nat):SV->Bool| .agg is=>oJ n is| .mx is=>oJ n is| .fn _ is=>oJ n is| .box m _=>Nat.blt m n| .rt m _ _=>Nat.blt m n| .row m=>Nat.blt m n| .oU m _ _=>Nat.blt m n| .uE m _ _ _ _ _=>Nat.blt m n| .sub m g _=>Nat.blt m n&&Nat.blt g n| .jh m _ _=>Nat.blt m n| .vw m _=>Nat.blt m n| .map m=>Nat.blt m n|_=>true def oJ(n:Nat):List SV->Bool|[]=>true|i::is=>kb n i&&oJ n is end
def Ax(S:SS)(e:U)(v:SV)(a fr:List Nat):Option (List (D e)×List Nat):=match v with
 | .row m=>match S.st.ap m with
  |some (.row u b)=>match jS (.bw u) (.bw e) b with|some c=>bif S.jT m&&(!bu m a&&!bu m fr)then some (c,m::a)else none|none=>none
  |_=>none
 | .cM=>some ([],a)
 | .gz=>some ([],a)
 | .vw m h=>match S.st.ap m with
  |some (.row u b)=>match jS (.bw u) (.bw e) b with|some c=>bif S.jT m&&(!bu m a&&!bu m fr)then some (eS c 0 h,m::a)else none|none=>none
  |_=>none
 |_=>none
def Aw(S:SS)(e:U)(v:SV)(a fr:List Nat):Option (List (List (D e))×List Nat):=match v with
 | .row m=>match S.st.ap m with
  |some (.rows _ u b)=>match jS (.bw (.bw u)) (.bw (.bw e)) b with|some c=>bif S.jT m&&(!bu m a&&!bu m fr)then some (c,m::a)else none|none=>none
  |_=>none
 | .cM=>some ([],a)
 |_=>none
def Ww(S:SS)(v:SV)(a fr:List Nat):Option (List (Int×Bool×Unit)×List Nat):=match v with
 | .map m=>match S.st.ap m with|some (.map b)=>bif S.jT m&&(!bu m a&&!bu m fr)then some (b,m::a)else none|_=>none
 |_=>none
def FZ(S:SS)(u:U)(b:List SV)(c fr:List Nat):Option (D u×List SV×List Nat):=match sM S.st FU u b with
 |some (x,r)=>match mZ S.st b with|some a=>bif oV S a&&LB c a then some (x,r,a)else none|none=>none
 |none=>none
def yQ(S:SS):(h:List Kd)->List SV->List Nat->List Nat->Option (D (vF h)×List Nat×List Nat)
 |[],[],b,a=>some ((),b,a)
 | .o e::r,v::f,b,a=>match Ax S e v b a with
  |some (x,g)=>match yQ S r f g a with|some (y,q)=>some ((x,y),q)|none=>none
  |none=>none
 | .s e::r,v::f,b,a=>match Aw S e v b a with
  |some (x,g)=>match yQ S r f g a with|some (y,q)=>some ((x,y),q)|none=>none
  |none=>none
 | .v u::r,f,b,a=>match qm FU f u.size with
  |some (c,d)=>match FZ S u c b a with
   |some (x,[],k)=>match yQ S r d b (k++a)with|some (y,q)=>some ((x,y),q)|none=>none
   |_=>none
  |none=>none
 |_,_,_,_=>none
def i8(c S:SS):(h:List Hi)->List Nat->List Nat->Option (D (iH h))
 |[],_,_=>some ()
 | .bE _::r,b,a=>i8 c S r b a
 | .val t u::r,b,a=>bif(S.tmp t).ag==u.ag then match(S.tmp t).qz with
  |some f=>match FZ S u f b a with
   |some (x,[],k)=>match i8 c S r b (k++a)with|some y=>some (x,y)|none=>none
   |_=>none
  |none=>none else none
 | .own t e::r,b,a=>match Ax S e (S.tmp t) b a with
  |some (x,d)=>match i8 c S r d a with|some y=>some (x,y)|none=>none
  |none=>none
 | .lP t e::r,b,a=>match Aw S e (S.tmp t) b a with
  |some (x,d)=>match i8 c S r d a with|some y=>some (x,y)|none=>none
  |none=>none
 | .mp t::r,b,a=>match Ww S (S.tmp t) b a with
  |some (x,d)=>match i8 c S r d a with|some y=>some (x,y)|none=>none
  |none=>none
 | .cell t u::r,b,a=>match S.tmp t with
  | .box m 0=>match S.st.ap m with
   |some (.box z f)=>bif Nat.beq z 0&&(S.jT m&&(!bu m b&&!bu m a))then match FZ S u f (m::b) a with
    |some (x,[],k)=>match i8 c S r (m::b) (k++a)with|some y=>some (x,y)|none=>none
    |_=>none else none
   |_=>none
  |_=>none
 | .rw t e::r,b,a=>match c.tmp t with
  | .row m=>match Ax S e (.row m) b a with
   |some (x,d)=>match i8 c S r d a with|some y=>some (x,y)|none=>none
   |none=>none
  |_=>none
 | .box t i::r,b,a=>match c.tmp t with
  | .box m _=>match c.st.ap m,S.st.ap m with
   |some (.box z _),some (.box j f)=>bif Nat.beq z j then match yQ S i f b a with
    |some (x,d,g)=>bif S.jT m&&(!bu m d&&!bu m g)then match i8 c S r (m::d) g with|some y=>some (x,y)|none=>none else none
    |none=>none else none
   |_,_=>none
  |_=>none
def i6:(a:List Kd)->D (vF a)->SS->List SV×SS|[],_,S=>([],S)| .o e::r,x,S=>(.row S.nx::(i6 r x.2 (S.bP (.row e x.1))).1,(i6 r x.2 (S.bP (.row e x.1))).2)| .s e::r,x,S=>(.row S.nx::(i6 r x.2 (S.bP (.rows S.nx e x.1))).1,(i6 r x.2 (S.bP (.rows S.nx e x.1))).2)| .v u::r,x,S=>(mk u x.1::(i6 r x.2 S).1,(i6 r x.2 S).2)
def oh(a:SS)(wr P:List Nat):(h:List Hi)->D (iH h)->SS->Option SS|[],_,S=>some S| .bE _::r,d,S=>oh a wr P r d S| .val t u::r,d,S=>bif bu t P then none else oh a wr P r d.2 (S.hJ t (mk u d.1))| .own t e::r,d,S=>bif bu t P then none else oh a wr P r d.2 ((S.bP (.row e d.1)).hJ t (.row S.nx))| .lP t e::r,d,S=>bif bu t P then none else oh a wr P r d.2 ((S.bP (.rows S.nx e d.1)).hJ t (.row S.nx))| .mp t::r,d,S=>bif bu t P then none else oh a wr P r d.2 ((S.bP (.map d.1)).hJ t (.map S.nx))| .cell t u::r,d,S=>bif bu t P then none else oh a wr P r d.2 ((S.bP (.box 0 [mk u d.1])).hJ t (.box S.nx 0))| .rw _ _::_,_,_=>none| .box t b::r,d,S=>match a.tmp t with
 | .box m _=>bif bu m wr&&Nat.blt m a.nx then match a.st.ap m with|some (.box z _)=>oh a wr P r d.2 ((i6 b d.1 S).2.iE m (.box z (i6 b d.1 S).1))|_=>none else none
 |_=>none
def lY(st:Tr iK):List Nat->Tr iK|[]=>st|m::l=>(lY st l).nr m
def rQ(a:SS):List Nat->Tr SV|[]=> .e|t::l=>(rQ a l).set t (a.tmp t)
def Vi(a:SS)(h:List Hi)(wr:List Nat):SS:=⟨a.nt,rQ a (kw h++a.kp),lY a.st wr,a.nx,a.lk,a.base,a.wr,a.kp⟩
def uX(a:SS):(h:List Hi)->(wr:List Nat)->D (iH h)->Option SS
 | .rw t e::r,wr,d=>match a.tmp t with
  | .row m=>match a.st.ap m with|some (.row u _)=>bif bu m wr&&(Nat.blt m a.nx&&decide (u=e))then oh a wr (kw (.rw t e::r)++a.kp) r d.2 ((Vi a (.rw t e::r) wr).iE m (.row e d.1))else none|_=>none
  |_=>none
 |h,wr,d=>oh a wr (kw h++a.kp) h d (Vi a h wr)
def uV:Nat->List SV->Tr SV->Tr SV|_,[],e=>e|i,v::a,e=>uV (Nat.add i 1) a (e.set i v)
abbrev sn:=∀(R:Type),Tr (List Hi)->Nat->Code->SS->(Ex->SS->Option R)->Option R
section
variable(cy:Cy)
def sD(S:SS):List ResultVar->(List SV->Option R)->Option R|[],b=>b []| .tmp t::r,b=>sD S r λl=>b (S.tmp t::l)| .cell a t::r,b=>EV cy S t (S.tmp a) λv=>sD S r λl=>b (v::l)
def callee(S:SS)(n:Nat)(args:List SV):SS:=⟨n,uV 0 args .e,S.st,S.nx,S.lk,S.base,S.wr,[]⟩
def Vg(S:SS)(a:SV)(i j:Int)(K:SV->SS->Option R):Option R:=match a with
 | .row m=>match S.st.ap m with
  |some (.row e c)=>match jS (.bw e) (.bw (.int .i64)) c with|some b=>bif S.jT m then aC (aU b i) (aC (aY j (ah .i64 i 1)) (aC (a4 [] b 8) (K (.row S.nx) ((S.lZ m).bP (.row (.int .i64) (g8 b i))))))else none|none=>none
  |_=>none
 |_=>none
def Ja(S:SS)(f q:Nat)(args:List SV)(K:SV->SS->Option R):Option R:=match q,args with
 |1,[a,.int _ .i64 i,.int _ .i64 j]=>Vg S a i j K
 |2,[x]=>match cy.cx.fn.ap f with
  |some b=>match b.params.toList with|[t]=>tO cy S t t .gz x K|_=>none
  |none=>none
 |_,_=>none
def O8(g:sn)(f:FuncId)(b:Code)(h:List Hi)(S:SS)(K:SS->Option R):Option R:=bif oV S (ke S h)then am (g (D (iH h)) (match cy.hi.ap f with|some h=>h|none=> .e) 0 b (S.jQ S.nx h (ke S h) S.kp) λe a=>match e with| .exit _=>none|_=>i8 S a h [] []) λd=>match uX S h (ke S h) d with|some c=>K c|none=>none else none
def JZ(g:sn)(f:FuncId)(args:List SV)(S:SS)(K:SV->SS->Option R):Option R:=match cy.cx.ext.ap f with
 |some q=>bif Nat.beq q 2 then match args with|[]=>K (.bool true true) S|_=>none else none
 |none=>match cy.sp.ap f with|some q=>Ja cy S f q args K|none=>match cy.ct.ap f with
  |some c=>match pZ S.st c.a args with
   |some x=>match mZ S.st args with
    |some i=>match S.rV (bif c.r.i5 then []else i)with|some j=>am (c.F x) λy=>K (Ah (lC c.r y)) j|none=>none
    |none=>none
   |none=>none
  |none=>match cy.cx.fn.ap f with
   |some d=>match d.body with
    |some b=>bif Nat.ble args.length d.ntmps then match cy.rj.ap f with
     |none=>g R (match cy.hi.ap f with|some h=>h|none=> .e) 0 b (callee S d.ntmps args) λe a=>match e with| .exit _=>none|_=>sD cy a d.results.toList λl=>K (Ah l) (S.mem a.st a.nx)
     |some h=>O8 cy g f b h (callee S d.ntmps args) λa=>sD cy a d.results.toList λl=>K (Ah l) (S.mem a.st a.nx)else none
    |none=>none
   |none=>none
def jy(S:SS)(x:Operand)(K:SV->Option R):Option R:=match S.ev x with|some v=>K v|none=>none
def Jq(w:sn)(S:SS)(o:Op)(K:SV->SS->Option R):Option R:=match o with
 | .move x=>jy S x λv=>K v S
 | .assign x=>jy S x λv=>K v S
 | .pick c a b=>jy S c λv=>Pa v (S.ev a) (S.ev b) λr=>K r S
 | .alloc t=>match IW cy.cx t with|some l=>K (.box S.nx 0) (S.bP (.box 0 l))|none=>none
 | .box _ x=>jy S x λv=>match v.qz with|some l=>K (.box S.nx 0) (S.bP (.box 0 l))|none=>none
 | .build t p=>match Hb S p.toList with|some l=>Fq cy t l λv=>K v S|none=>none
 | .buildSlice t n p=>match Hb S p.toList with|some l=>sk cy S t n l K|none=>none
 | .load t a=>jy S a λv=>EV cy S t v λr=>K r S
 | .store t a x=>jy S a λv=>jy S x λu=>Em cy S t v u λd=>K .undef d
 | .nilCheck x=>jy S x λv=>oS (Pn S v) λr=>K r S
 | .binOp j t x y _=>jy S x λv=>jy S y λu=>Qs cy.cx j t v u λr=>K r S
 | .unOp j _ x=>jy S x λv=>oS (VM j v) λr=>K r S
 | .convert a b x=>jy S x λv=>xY cy S a b v λr=>K r S
 | .makeFunc (.func f) q e=>match q.toList,S.jI e.toList with|[],some l=>K (.fn f l) S|_,_=>none
 | .makeMap t none=>match cy.cx.rR t with|some _=>K (.map S.nx) (S.bP (.map []))|none=>none
 | .lookup t x i B=>jy S x λv=>jy S i λu=>AQ cy S t v u B λr=>K r S
 | .mapUpdate t m k v=>jy S m λa=>jy S k λb=>jy S v λc=>zN cy S t a b c λd=>K .undef d
 | .makeSlice t l c=>jy S l λv=>jy S c λu=>tm cy S t v u K
 | .slice t x z s A=>jy S x λv=>match Hc S z,Hc S s,Hc S A with|some l,some h,some m=>Ev cy S t v l h m K|_,_,_=>none
 | .fieldAddr t x i=>jy S x λv=>Fb cy S t v i λr=>K r S
 | .indexAddr t x i=>jy S x λv=>jy S i λu=>A8 cy S t v u λr=>K r S
 | .index t x i=>jy S x λv=>jy S i λu=>E3 cy t v u λr=>K r S
 | .extract x i=>jy S x λv=>oS (xT v i) λr=>K r S
 | .call c=>match c.callee with
  | .builtin b=>match S.jI c.args.toList with|some l=>xZ cy S b c.argTypes.toList l K|none=>none
  | .value f=>match S.jI c.args.toList with
   |some l=>jy S f λv=>match v with| .fn g e=>JZ cy w g (l++e) S K|_=>none
   |none=>none
  |_=>none
 |_=>none
def sE(S:SS)(d:Option Nat)(v:SV)(K:SS->Option R):Option R:=match S.put d v with|some a=>K a|none=>none
def Eo(c:sn)(bD:Array Oper)(S:SS)(o:Oper)(K:SS→Option R):Option R:=match o.guard with|none=>Jq cy c S o.op fun v a=>sE a o.dst v K|some (j,w)=>match(bD[j]?).bind (·.dst)with
 |some g=>match S.tmp g with| .bool true b=>bif b==w then Jq cy c S o.op fun v a=>sE a o.dst v K else sE S o.dst .undef K| .bool false b=>bif bu g S.kp then none else bif w then ad b (Jq cy c (S.hJ g (.bool true true)) o.op fun v a=>sE a o.dst v K) (sE (S.hJ g (.bool true false)) o.dst .undef K)else ad b (sE (S.hJ g (.bool true true)) o.dst .undef K) (Jq cy c (S.hJ g (.bool true false)) o.op fun v a=>sE a o.dst v K)| .undef=>sE S o.dst .undef K|_=>none
 |none=>none
def KY(b:sn)(bD:Array Oper):SS->List Oper->(SS->Option R)->Option R|S,[],a=>a S|S,o::r,a=>Eo cy b bD S o λc=>KY b bD c r a
def ET(S:SS):List Operand->Option (List Nat)|[]=>some S.lk|a::r=>match ET S r with
 |some l=>match S.ev a with
  |some (.box m _)=>bif(S.st.ap m).isSome then some (m::l)else none
  |some (.rt m _ _)=>bif(S.st.ap m).isSome then some (m::l)else none
  |some (.jh m _ _)=>bif(S.st.ap m).isSome then some (m::l)else none
  |some (.row m)=>match S.st.ap m with|some (.row _ _)=>some (m::l)|some (.rows _ _ _)=>some (m::l)|some (.mM _ _ _)=>some (m::l)|_=>none
  |some (.oU m _ _)=>match S.st.ap m with|some (.row _ _)=>some (m::l)|some (.rows _ _ _)=>some (m::l)|some (.mM _ _ _)=>some (m::l)|_=>none
  |some (.uE m _ _ _ _ _)=>bif(S.st.ap m).isSome then some (m::l)else none
  |some (.vw m _)=>match S.st.ap m with|some (.row _ _)=>some (m::l)|_=>none
  |some (.sub m g _)=>match S.st.ap m with|some (.rows b _ _)=>bif Nat.beq g b then some (m::l)else none|_=>none
  |some (.val _ _)=>some l
  |some (.rX _ _)=>some l
  |some (.int _ _ _)=>some l
  |some .cM=>some l
  |some .gz=>some l
  |some .undef=>some l
  |_=>none
 |none=>none
def Js(S:SS):Op->Bool
 | .call c=>match c.callee with
  | .builtin .len=>match S.jI c.args.toList with
   |some [.any]=>false
   |some [.oU _ _ _]=>false
   |some [.row m]=>match S.st.ap m with|some (.row _ _)=>true|some (.rows _ _ _)=>true|_=>false
   |some [.uE _ _ _ _ _ _]=>false
   |some [.vw m _]=>match S.st.ap m with|some (.row _ _)=>true|_=>false
   |some [.map _]=>false
   |some [.sub _ _ _]=>false
   |some _=>true
   |none=>false
  |_=>true
 |_=>true
def Wp(S:SS):Option Nat->Bool|some d=>!bu d S.kp|none=>true
def xX(S:SS):List Operand->Tr SV|[]=> .e| .tmp t::r=>(xX S r).set t (S.tmp t)|_::r=>xX S r
def SS.cut(S:SS)(bD:Array Oper)(o:Oper)(l:List Nat):SS:=⟨S.nt,xX S (nJ bD o++o.op.operands.toList),S.st,S.nx,l,S.base,S.wr,S.kp⟩
def SS.take(S:SS)(o:Oper)(T:SS):SS:=⟨S.nt,match o.dst with|some d=>S.dC.set d (T.tmp d)|none=>S.dC,T.st,T.nx,S.lk,S.base,S.wr,S.kp⟩
def Et(bD:Array Oper)(o:Oper)(S:SS)(K:SS→Option R):Option R:=match o.guard with|none=>K S|some (j,_)=>match(bD[j]?).bind (·.dst)with
 |some g=>match S.tmp g with| .bool false b=>bif bu g S.kp then none else ad b (K (S.hJ g (.bool true true))) (K (S.hJ g (.bool true false)))|_=>K S
 |none=>K S
def zw(b:sn)(bD:Array Oper):SS->List Hm.Item->(SS->Option R)->Option R|S,[],a=>a S|S,x::r,a=>Et bD x.o S λS=>match ET S x.lk with|some l=>bif Js S x.o.op&&Wp S x.o.dst then Eo cy b bD (S.cut bD x.o l) x.o λc=>zw b bD (S.take x.o c) r a else none|none=>none
def WS(k:sn):sn:=λR i m c S g=>match c with
 | .skip=>g .cN S
 | .region _ o false=>KY cy k o S o.toList λf=>g .cN f
 | .region _ o true=>match nS o.toList with|some l=>zw cy k o S l λf=>g .cN f|none=>none
 | .seq a b=>k R i m a S λe f=>match e with| .cN=>k R i m b f g|e=>g e f
 | .cond c a b=>match S.ev c with|some (.bool l x)=>Vj l x (k R i m a S g) (k R i m b S g)|_=>none
 | .block n b=>match i.ap (Nat.mul 2 n)with
  |none=>k R i n b S λe f=>match e with| .exit j=>bif Nat.beq j n then g .cN f else g (.exit j) f|e=>g e f
  |some h=>bif oV S (ke S h)then aE (k (Sum (D (iH h)) R) i n b (S.jQ S.nx h (ke S h) S.kp) λe f=>match e with| .exit j=>bif Nat.beq j n then Cj (i8 S f h [] [])else ao (g (.exit j) (f.sH S))| .cN=>Cj (i8 S f h [] [])| .ret=>ao (g .ret (f.sH S))) λd=>match uX S h (ke S h) d with|some p=>g .cN p|none=>none else none
 | .loop b=>match i.ap (Nat.add (Nat.mul 2 m) 1)with
  |none=>k R i m b S λe f=>match e with| .cN=>k R i m (.loop b) f g|e=>g e f
  |some h=>bif oV S (ke S h)then match i8 S (S.jQ S.nx h (ke S h) S.kp) h [] []with
   |some r=>aF (λd=>match uX S h (ke S h) d with
    |some q=>k (Sum (D (iH h)) R) i m b (q.jQ S.nx h (ke S h) S.kp) λe f=>match e with| .cN=>Cj (i8 S f h [] [])|e=>ao (g e (f.sH S))
    |none=>none) 1000000000 r
   |none=>none else none
 | .exit n=>g (.exit n) S
 | .ret=>g .ret S
 |_=>none
def ex(n:Nat):sn:=Nat.rec (λ_ _ _ _ _ _=>none) (λ_ a=>WS cy a) n
def Fj(P:Program):Nat->Nat->Option U|0,_=>none|f+1,t=>match P.underlying t with
 |some (.int k)=>some (.int k)
 |some .bool=>some .bool
 |some .string=>some .ef
 |some (.slice e)=>match Fj P f e with|some u=>some (.bw u)|none=>none
 |some (.array n e)=>match Fj P f e with|some u=>some (.im n u)|none=>none
 |some (.struct a)=>a.toList.foldr (λx r=>match Fj P f x.type,r with|some u,some v=>some (.ai u v)|_,_=>none) (some .un)
 |_=>none
def E8(k:Nat)(a r:U)(H:Tr (List Hi))(fn:Func)(x:D a):Option (D r):=match fn.body with
 |some b=>bif Nat.ble (lC a x).length fn.ntmps then ex cy k (D r) H 0 b ⟨fn.ntmps,uV 0 (lC a x) .e,.e,0,[],0,[],[]⟩ λe c=>match e with| .exit _=>none|_=>sD cy c fn.results.toList λl=>match mZ c.st l with|some _=>pZ c.st r l|none=>none else none
 |none=>none
end
def Fk(P:Program)(a:List Nat):Nat->Nat->Option U|0,_=>none|f+1,t=>bif bu t a then some .nil else match P.underlying t with
 |some (.int k)=>some (.int k)
 |some .bool=>some .bool
 |some .string=>some .ef
 |some (.slice e)=>match Fk P a f e with|some u=>some (.bw u)|none=>none
 |some (.array n e)=>match Fk P a f e with|some u=>some (.im n u)|none=>none
 |some (.struct b)=>b.toList.foldr (λx r=>match Fk P a f x.type,r with|some u,some v=>some (.ai u v)|_,_=>none) (some .un)
 |_=>none
end
end Go.Ls
namespace Go.Wk
open Go Go.RowKit
abbrev dB:=Nat->Value
def iE(F:dB)(d:Nat)(v:Value):dB:=λi=>bif Nat.beq i d then v else F i
def qO(F:dB):Option Nat->Value->dB|some d,v=>iE F d v|none,_=>F
theorem MT(F:dB)(d:Nat)(v:Value):iE F d v d=v:=by simp[iE]
theorem mh(F:dB){d i:Nat}(v:Value)(h:i≠d):iE F d v i=F i:=by
 have:Nat.beq i d=false:=by cases a:Nat.beq i d with
  |false=>rfl
  |true=>exact absurd (aw a) h
 simp[iE,this]
def fr(n:Nat)(F:dB):Act:=⟨Array.ofFn λi:Fin n=>F i.val,[]⟩
theorem PX(n:Nat)(F:dB):(fr n F).tmps.size=n:=by simp[fr]
theorem Td{n t:Nat}(F:dB)(h:t<n):(fr n F).tmps[t]?=some (F t):=by simp[fr,h]
theorem PY{n t:Nat}(F:dB)(h:t<n):(fr n F).tmps.getD t undef=F t:=by simp[Array.getD,fr,h]
theorem Tc(n:Nat)(F:dB)(d:Nat)(v:Value):(fr n F).put (some d) v=fr n (iE F d v):=by
 unfold Act.put fr;simp only;congr 1;apply Array.ext;.simp
 .
  intro i b c;simp at b c;by_cases a:d=i;.subst a;simp[iE]
  .
   have:Nat.beq i d=false:=by cases e:Nat.beq i d with
    |false=>rfl
    |true=>exact absurd (aw e).symm a
   rw[oG (by simpa using b),aB a];simp[iE,this]
theorem wH(n:Nat)(F:dB)(d:Option Nat)(v:Value):(fr n F).put d v=fr n (qO F d v):=by cases d with
 |none=>rfl
 |some d=>exact Tc n F d v
def ev(n:Nat)(F:dB):Operand->Value| .tmp t=>bif Nat.blt t n then F t else undef| .const v=>v| .global g=> .pointer (some ⟨g,0,none⟩)| .func f=> .func (.func f) #[] #[]
theorem pz(n:Nat)(F:dB):(fr n F).eval=ev n F:=by
 funext x
 cases x with
  |tmp t=>
  show(fr n F).tmps.getD t undef=bif Nat.blt t n then F t else undef;by_cases h:t<n
  .
   have a:Nat.blt t n=true:=by simpa [dJ]using h
   rw[a];exact PY F h
  .
   have a:Nat.blt t n=false:=by cases a:Nat.blt t n with
    |false=>rfl
    |true=>exact absurd (by simpa [dJ]using a) h
   rw[a];have:¬t<(fr n F).tmps.size:=by rw[PX];exact h
   simp only[Array.getD,this,dif_neg,not_false_iff];rfl
  |_=>rfl
structure yR where
  cN : dB → World → Prop
  ret : dB → World → Prop
  tB : List (Nat × (dB → World → Prop))
def ww(b:Nat):List (Nat×(dB->World->Prop))->dB->World->Prop|[],_,_=>False|(j,k)::c,a,w=>bif Nat.beq b j then k a w else ww b c a w
def Lf(n:Nat)(K:yR):Exit->Act->World->Prop| .normal,a,w=>∃b,a=fr n b/\K.cN b w| .ret,a,w=>∃b,a=fr n b/\K.ret b w| .exit c,a,w=>∃b,a=fr n b/\ww c K.tB b w|_,_,_=>False
def W(P:Program)(n:Nat)(c:Code)(K:yR)(F:dB)(w:World):Prop:=c.wp P (Lf n K) (fr n F) w
section
variable{P:Program}{n:Nat}{K:yR}{F:dB}{w:World}
theorem QF{x y:Code}(h:W P n x ⟨λF w=>W P n y K F w,K.ret,K.tB⟩ F w):W P n (.seq x y) K F w:=by refine wp_seq (Code.wp_mono ?_ h);intro e a w h;cases e with
 |normal=>obtain⟨F,rfl,b⟩:=h;exact b
 |ret=>exact h
 |exit d=>exact h
 |goto l=>exact h
 |panic c=>exact h
 |outgrown=>exact h
theorem TI(h:K.cN F w):W P n .skip K F w:=wp_skip ⟨F,rfl,h⟩
theorem Xh(h:K.ret F w):W P n .ret K F w:=wp_ret ⟨F,rfl,h⟩
theorem TK{a:Nat}(h:ww a K.tB F w):W P n (.exit a) K F w:=wp_exit ⟨F,rfl,h⟩
theorem BE{d:Nat}{c:Code}(h:W P n c ⟨K.cN,K.ret,(d,K.cN)::K.tB⟩ F w):W P n (.block d c) K F w:=by
 refine wp_block (Code.wp_mono ?_ h);intro e a w h
 cases e with
  |normal=>exact h
  |ret=>exact h
  |exit j=>
  obtain⟨F,rfl,b⟩:=h;unfold ww at b;unfold Exit.inBlock;by_cases f:j=d;.subst f;simp only[fI];have:Nat.beq j j=true:=vg j;rw[this]at b;exact⟨F,rfl,b⟩
  .
   have:Nat.beq j d=false:=by cases g:Nat.beq j d with
    |false=>rfl
    |true=>exact absurd (aw g) f
   rw[this]at b;simp only[f,fc];exact⟨F,rfl,b⟩
  |goto l=>exact h
  |panic c=>exact h
  |outgrown=>exact h
theorem LV{c:Operand}{x y:Code}{b:Bool}(a:ev n F c= .bool b)(f:b=true->W P n x K F w)(e:b=false->W P n y K F w):W P n (.cond c x y) K F w:=by
 have d:(fr n F).eval c= .bool b:=by rw[pz];exact a
 exact wp_cond_split d f e
theorem N3{c:Operand}{x y:Code}(a:ev n F c= .bool true)(b:W P n x K F w):W P n (.cond c x y) K F w:=LV a (λ_=>b) λh=>by cases h
theorem N4{c:Operand}{x y:Code}(a:ev n F c= .bool false)(b:W P n y K F w):W P n (.cond c x y) K F w:=LV a (λh=>by cases h) λ_=>b
theorem TJ{c:Code}{σ:Sort _}(m:σ->Nat)(j:σ->dB->World->Prop)(r:σ)(z:j r F w)(u0:∀s F w,j s F w->W P n c ⟨λt f=>∃i,m i<m s/\j i t f,K.ret,K.tB⟩ F w):W P n (.loop c) K F w:=by
 intro b k q
 have v0:∀o s F w,m s=o->j s F w->∃e p f,Lf n K e p f/\Arrives P (lone (b.at (fr n F) (.code c:: .inLoop c::k)) q w) b k q e p f:=by intro o;induction o using Nat.strongRecOn with
  |_ o w0=>intro s F w C A;obtain⟨e,h,g,d,a⟩:=u0 s F w A b (.inLoop c::k) q;cases e with
  |normal=>obtain⟨u,rfl,i,z0,B⟩:=d;obtain⟨y,v,t0,y0,D⟩:=w0 (m i) (C▸z0) i u g rfl B;exact⟨y,v,t0,y0,.of_steps (Steps.trans a (.one step_inLoop)) D⟩
  |exit x0=>exact⟨.exit x0,h,g,d,.pass (x:= .inLoop c) rfl (λ_ _=> .inl (by simp)) a⟩
  |goto l=>exact⟨.goto l,h,g,d,.pass (x:= .inLoop c) rfl (λ_ _=> .inl (by simp)) a⟩
  |ret=>exact⟨.ret,h,g,d,.pass (x:= .inLoop c) rfl (λ_ _=> .inl (by simp)) a⟩
  |panic x=>exact⟨.panic x,h,g,d,.pass (x:= .inLoop c) rfl (λ_ _=> .inl (by simp)) a⟩
  |outgrown=>exact⟨.outgrown,h,g,d,.pass (x:= .inLoop c) rfl (λ_ _=> .inl (by simp)) a⟩
 obtain⟨e,p,f,d,a⟩:=v0 _ r F w rfl z;exact⟨e,p,f,d,.of_steps (.one step_loop) a⟩
def LW(P:Program)(n:Nat)(bD:Array Oper)(l:List Oper)(k:dB->World->Prop)(F:dB)(w:World):Prop:=∀a:Exit->Act->World->Prop,(∀F w,k F w->a .normal (fr n F) w)->wpList P bD a l (fr n F) w
theorem N2{b:Nat}{l:List Oper}(h:LW P n l.toArray l K.cN F w):W P n (.region b l.toArray false) K F w:=wp_region_lit (h _ λF _ a=>⟨F,rfl,a⟩)
theorem FF{bD:Array Oper}{k:dB->World->Prop}(h:k F w):LW P n bD [] k F w:=λ_ a=>a _ _ h
end
section
variable{P:Program}{n:Nat}{bD:Array Oper}{rest:List Oper}{k:dB->World->Prop}{F:dB}{w w':World}{o:Oper}{v:Value}
structure iq(P:Program)(n:Nat)(F:dB)(w:World)(o:Op)(v:Value)(w':World):Prop where run:∀(d:Option Nat)(t:Nat)(p:String)(af:Array Edge)(g:Option (Nat×Bool)),(execOp (ev n F) ⟨d,o,t,p,af,g⟩).run P w= .ok (.value v) w'
structure VH(P:Program)(n:Nat)(F:dB)(w:World)(o:Op)(w':World):Prop where run:∀(d:Option Nat)(t:Nat)(p:String)(af:Array Edge)(g:Option (Nat×Bool)),(execOp (ev n F) ⟨d,o,t,p,af,g⟩).run P w= .ok .skip w'
theorem FX{j g:Nat}{b:Bool}(d:(bD[j]?).bind (·.dst)=some g)(hg:ev n F (.tmp g)= .bool b):yielded bD (fr n F).tmps j=some b:=by
 unfold yielded;rw[d];replace hg:(bif Nat.blt g n then F g else undef)= .bool b:=hg;by_cases h:g<n
 ·
  have a:Nat.blt g n=true:=by simpa [dJ]using h
  rw[a]at hg;simp only[Option.bind_some];rw[Td F h];have c:F g= .bool b:=hg;rw[c]
 ·
  have a:Nat.blt g n=false:=by cases a:Nat.blt g n with
   |false=>rfl
   |true=>exact absurd (by simpa [dJ]using a) h
  rw[a]at hg;cases hg
end
def yh(P:Program)(f:FuncId)(args:Array Value)(w:World)(R:Value->World->Prop):Prop:=Calls P f args w λe w'=>∃v,e= .returned v/\R v w'
theorem yh.mono{P:Program}{f:FuncId}{args:Array Value}{w:World}{R a:Value->World->Prop}(h:yh P f args w R)(d:∀v w',R v w'->a v w'):yh P f args w a:=Calls.mono h λ_ _⟨v,c,b⟩=>⟨v,c,d _ _ b⟩
section
variable{P:Program}{n:Nat}{bD:Array Oper}{rest:List Oper}{k:dB->World->Prop}{F:dB}{w w':World}
structure iK(P:Program)(n:Nat)(F:dB)(w:World)(o:Op)(f:FuncId)(args:Array Value):Prop where run:∀(d:Option Nat)(t:Nat)(p:String)(af:Array Edge)(g:Option (Nat×Bool)),(execOp (ev n F) ⟨d,o,t,p,af,g⟩).run P w= .ok (.enter f args) w
end
def nU(args:Array Value):dB:=λi=>args.getD i undef
def TO(P:Program)(b:Array ResultVar)(n:Nat)(F:dB)(w:World)(v:Value):Prop:=∀a:Func,a.results=b->(results a (fr n F).tmps).run P w= .ok v w
theorem Kt{P:Program}{f:FuncId}{fn:Func}{c:Code}{args:Array Value}{w:World}{R:Value->World->Prop}{n:Nat}{g:Array ResultVar}(s:P.funcs[f]?=some fn)(q:fn.body=some c)(u:fn.ntmps=n)(m:fn.results=g)(y:args.size<=n)(h:W P n c ⟨λF w=>∃v,TO P g n F w v/\R v w,λF w=>∃v,TO P g n F w v/\R v w,[]⟩ (nU args) w):yh P f args w R:=by
 refine calls_of_wp s q ?_
 have r:({tmps:=args++Array.replicate (fn.ntmps-args.size) undef,defers:=[]}:Act)=fr n (nU args):=by
  unfold fr;congr 1;rw[u];apply Array.ext;.simp;omega
  .
   intro i x p;simp at p;by_cases j:i<args.size;.simp[j,nU,Array.getD]
   .simp[Array.getElem_append,j,nU,Array.getD]
 rw[r];refine Code.wp_mono ?_ h;intro e a w h
 cases e with
  |normal=>obtain⟨F,rfl,v,d,b⟩:=h;exact⟨rfl,v,d fn m,v,rfl,b⟩
  |ret=>obtain⟨F,rfl,v,d,b⟩:=h;exact⟨rfl,v,d fn m,v,rfl,b⟩
  |exit z=>obtain⟨F,rfl,t⟩:=h;exact t
  |goto l=>exact h
  |panic c=>exact h.elim
  |outgrown=>exact h.elim
attribute [irreducible]W LW
structure Kp (D : List Nat) (w w' : World) : Prop where
  os : w'.os = w.os
  tape : w'.tape = w.tape
  output : w'.output = w.output
  size : w.heap.size ≤ w'.heap.size
  block : ∀ b, b < w.heap.size → b ∉ D → w'.heap[b]? = w.heap[b]?
theorem Kp.refl(D:List Nat)(w:World):Kp D w w:=⟨rfl,rfl,rfl,au _,λ_ _ _=>rfl⟩
theorem Kp.trans{D:List Nat}{a b c:World}(h:Kp D a b)(k:Kp D b c):Kp D a c:=⟨k.os.trans h.os,k.tape.trans h.tape,k.output.trans h.output,aM h.size k.size,λi d e=>(k.block i (aP d h.size) e).trans (h.block i d e)⟩
theorem Kp.alloc(w:World)(o:Obj):Kp [] w (w.alloc o):=⟨rfl,rfl,rfl,by simp,λb a _=>Below.heap_alloc w o b a⟩
theorem Kp.drew(w:World):Kp [] w w.drew:=⟨rfl,rfl,rfl,au _,λ_ _ _=>rfl⟩
theorem Kp.setCell(w:World)(a:Addr)(v:Value):Kp [a.block] w (w.setCell a v):=⟨rfl,rfl,rfl,by simp[World.setCell],λb _ c=>Below.heap_setCell w a v b (by simpa using c)⟩
theorem oc{w:World}{b:Nat}{o:Obj}(h:w.heap[b]?=some o):b<w.heap.size:=by
 rcases cI b w.heap.size with c|a;.exact c
 .rw[rD a]at h;cases h
def gK(w:World)(b:Nat)(t:TypeId)(cs:List Value):Prop:=w.heap[b]?=some (.cells cs.toArray t (0,0))
def B8(w:World)(b o:Nat)(cs:List Value):Prop:=∀j v,cs[j]?=some v->w.cell? ⟨b,o+j,none⟩=some v
theorem gv{β:Type}{l:List β}{i:Nat}{x:β}(h:l[i]?=some x):i<l.length:=(aj.1 h).1
section
variable{P:Program}{n:Nat}{F:dB}{w:World}
theorem N5{x:Operand}{v:Value}(h:ev n F x=v):iq P n F w (.move x) v w:=by refine⟨λd t p a g=>?_⟩;subst h;rfl
theorem HP{x:Operand}{v:Value}(h:ev n F x=v):iq P n F w (.assign x) v w:=by refine⟨λd t p a g=>?_⟩;subst h;rfl
theorem QH{ty:TypeId}{x:Operand}{b:Bool}(h:ev n F x= .bool b):iq P n F w (.unOp .not ty x) (.bool (!b)) w:=by refine⟨λd t p a g=>?_⟩;simp[execOp,h,Op.unary]
section
variable{ty ty2:TypeId}{x y:Operand}{k:IntKind}{a b:Int}
theorem QL(c:ev n F x= .int k a)(e:ev n F y= .int k b):iq P n F w (.binOp .lss ty x y ty2) (.bool (decide (a<b))) w:=by refine⟨λd t p f g=>?_⟩;simp[execOp,c,e,go_sem]
theorem QM(c:ev n F x= .int k a)(e:ev n F y= .int k b):iq P n F w (.binOp .leq ty x y ty2) (.bool (decide (a<=b))) w:=by refine⟨λd t p f g=>?_⟩;simp[execOp,c,e,go_sem]
theorem QO(c:ev n F x= .int k a)(e:ev n F y= .int k b):iq P n F w (.binOp .gtr ty x y ty2) (.bool (decide (b<a))) w:=by refine⟨λd t p f g=>?_⟩;simp[execOp,c,e,go_sem]
theorem QP(c:ev n F x= .int k a)(e:ev n F y= .int k b):iq P n F w (.binOp .geq ty x y ty2) (.bool (decide (b<=a))) w:=by refine⟨λd t p f g=>?_⟩;simp[execOp,c,e,go_sem]
theorem QQ(c:ev n F x= .int k a)(e:ev n F y= .int k b):iq P n F w (.binOp .eql ty x y ty2) (.bool (decide (a=b))) w:=by
 refine⟨λd t p f g=>?_⟩;have:(a==b)=decide (a=b):=by rw[Bool.eq_iff_iff];simp
 simp[execOp,c,e,go_sem,this]
theorem QI(c:ev n F x= .int k a)(e:ev n F y= .int k b):iq P n F w (.binOp .neq ty x y ty2) (.bool (!decide (a=b))) w:=by
 refine⟨λd t p f g=>?_⟩;have:(a !=b)=!decide (a=b):=by rw[Bool.eq_iff_iff];simp
 simp[execOp,c,e,go_sem,this]
end
theorem Kg{qV e:TypeId}{x:Operand}{k c:IntKind}{a:Int}{i:TypeDesc}(f:P.underlying qV=some i)(hd:P.underlying e=some (.int c))(h:ev n F x= .int k a):iq P n F w (.convert qV e x) (.int c (c.wrap a)) w:=by refine⟨λd t p j g=>?_⟩;simp[execOp,h,convert,run_underlying f,run_underlying hd,Conv.intToInt]
theorem QJ{x y:Operand}{f:Array TypeId}{a b:Int}(c:ev n F x= .int .i64 a)(e:ev n F y= .int .i64 b):iq P n F w (.call {callee:= .builtin .min,args:= #[x,y],argTypes:=f}) (.int .i64 (min a b)) w:=by
 refine⟨λd t p h g=>?_⟩;have:(if b<a then b else a)=min a b:=by omega
 simp[execOp,c,e,resolve,invoke,builtin,Builtin.min_,Builtin.min2,this]
theorem QK{x y:Operand}{f:Array TypeId}{a b:Int}(c:ev n F x= .int .i64 a)(e:ev n F y= .int .i64 b):iq P n F w (.call {callee:= .builtin .max,args:= #[x,y],argTypes:=f}) (.int .i64 (max a b)) w:=by
 refine⟨λd t p h g=>?_⟩;have:(if a<b then b else a)=max a b:=by omega
 simp[execOp,c,e,resolve,invoke,builtin,Builtin.max_,Builtin.max2,this]
theorem FA{x:Operand}{c:Array Value}{i:Nat}{v:Value}(f:ev n F x= .tuple c)(e:c[i]?=some v):iq P n F w (.extract x i) v w:=by refine⟨λd t p h g=>?_⟩;simp[execOp,f,Instr.extract,e]
theorem QN{t:TypeId}{x:Operand}{e:TypeId}{a:Option Addr}{m c:Nat}(f:P.underlying t=some (.slice e))(h:ev n F x= .slice a m c):iq P n F w (.call {callee:= .builtin .len,args:= #[x],argTypes:= #[t]}) (.int .i64 (m:Int)) w:=by refine⟨λd t p i g=>?_⟩;simp[execOp,h,resolve,invoke,builtin,Builtin.len_,run_underlying f,goInt]
theorem CA{x:Operand}{a:Addr}(c:ev n F x= .pointer (some a)):iq P n F w (.nilCheck x) (.pointer (some a)) w:=by refine⟨λd t p e g=>?_⟩;simp[execOp,c]
theorem Kf{s:TypeId}{x:Operand}{i b o:Nat}{c:Array Field}{f:Field}{z:Nat}(j:P.underlying s=some (.struct c))(h:c[i]?=some f)(m:∀w,(sizeOf f.type).run P w= .ok (z+1) w)(l:ev n F x= .pointer (some ⟨b,o,none⟩)):iq P n F w (.fieldAddr s x i) (.pointer (some ⟨b,o+f.offset,none⟩)) w:=by refine⟨λd t p q g=>?_⟩;have e:Addr.add ⟨b,o,none⟩ f.offset=⟨b,o+f.offset,none⟩:=Addr.add_lit b o f.offset;simp[execOp,l,Instr.fieldAt,run_underlying j,h,Instr.sureAddr,fieldPlace,m,e]
theorem DJ{t e:TypeId}{x y:Operand}{k:IntKind}{b o m c s i:Nat}(j:P.underlying t=some (.slice e))(h:∀w,(sizeOf e).run P w= .ok s w)(l:ev n F x= .slice (some ⟨b,o,none⟩) m c)(q:ev n F y= .int k (i:Int))(hi:i<m):iq P n F w (.indexAddr t x y) (.pointer (some ⟨b,o+i*s,none⟩)) w:=by refine⟨λd t p r g=>?_⟩;have f:Addr.add ⟨b,o,none⟩ (i*s)=⟨b,o+i*s,none⟩:=Addr.add_lit b o _;simp[execOp,l,q,Instr.indexAt,asIntOf,run_underlying j,hi,h,f]
theorem N6{t e:TypeId}{x y:Operand}{k:IntKind}{b o m s i:Nat}(h:P.underlying t=some (.array m e))(f:∀w,(sizeOf e).run P w= .ok s w)(j:ev n F x= .pointer (some ⟨b,o,none⟩))(l:ev n F y= .int k (i:Int))(hi:i<m):iq P n F w (.indexAddr t x y) (.pointer (some ⟨b,o+i*s,none⟩)) w:=by refine⟨λd t p q g=>?_⟩;have c:Addr.add ⟨b,o,none⟩ (i*s)=⟨b,o+i*s,none⟩:=Addr.add_lit b o _;simp[execOp,j,l,Instr.indexAt,asIntOf,run_underlying h,Instr.sureAddr,hi,f,c]
theorem HO{t e:TypeId}{x y:Operand}{k:IntKind}{m i:Nat}{cs:List Value}{v:Value}(h:P.underlying t=some (.array m e))(f:∀w,(sizeOf e).run P w= .ok 1 w)(c:∀w,(isAgg e).run P w= .ok false w)(l:ev n F x= .agg cs.toArray)(o:ev n F y= .int k (i:Int))(hi:i<m)(j:cs[i]?=some v):iq P n F w (.index t x y) v w:=by refine⟨λd t p q g=>?_⟩;simp[execOp,l,o,Instr.index,asIntOf,run_underlying h,hi,part,f,c,j]
theorem M6{a:Addr}{v:Value}{m:Mode}(h:w.cell? a=some v):(load a m).run P w= .ok v w:=by simp[load,Sem.run,h]
theorem Ke{t:TypeId}{x:Operand}{b o j:Nat}{cs:List Value}{v:Value}(c:∀w,(isAgg t).run P w= .ok false w)(i:ev n F x= .pointer (some ⟨b,o+j,none⟩))(e:B8 w b o cs)(h:cs[j]?=some v):iq P n F w (.load t x) v w:=by
 refine⟨λd m p l g=>?_⟩;have f:(loadVar t ⟨b,o+j,none⟩).run P w= .ok v w:=by simp only[loadVar,Sem.run_bind,c,Result.andThen_ok,dU,fc];exact M6 (e j v h)
 simp only[execOp,i,Instr.loadAt,Instr.sureAddr,Sem.run_bind,Sem.run_pure,Result.andThen_ok,f]
theorem Kc{t:TypeId}{x:Operand}{b o:Nat}{cs:List Value}(e:∀w,(isAgg t).run P w= .ok true w)(i:∀w,(sizeOf t).run P w= .ok cs.length w)(l:ev n F x= .pointer (some ⟨b,o,none⟩))(f:B8 w b o cs):iq P n F w (.load t x) (.agg cs.toArray) w:=by
 refine⟨λd q p m g=>?_⟩;have h:(loadCells ⟨b,o,none⟩ cs.length).run P w= .ok cs.toArray w:=run_loadCells_list w ⟨b,o,none⟩ cs (λj v c=>by rw[Addr.add_lit];exact f j v c);have c:(loadVar t ⟨b,o,none⟩).run P w= .ok (.agg cs.toArray) w:=by simp only[loadVar,Sem.run_bind,e,i,h,Result.andThen_ok,fI,Sem.run_pure]
 simp only[execOp,l,Instr.loadAt,Instr.sureAddr,Sem.run_bind,Sem.run_pure,Result.andThen_ok,c]
theorem N7{f:FuncId}{cs:Array Operand}{c:Array Value}(h:cs.map (ev n F)=c):iq P n F w (.makeFunc (.func f) #[] cs) (.func (.func f) #[] c) w:=by refine⟨λd t p e g=>?_⟩;simp[execOp,Instr.makeFunc,h]
end
section
variable{P:Program}{n:Nat}{bD:Array Oper}{rest:List Oper}{k:dB->World->Prop}{F:dB}{w:World}
theorem Kh{e:TypeId}{cs:List Value}{z:Value}(f:∀w,(zeroValue e).run P w= .ok z w)(c:z.cells=cs.toArray):iq P n F w (.alloc e) (.pointer (some ⟨w.heap.size,0,none⟩)) (w.alloc (.cells cs.toArray e)):=by refine⟨λd t p h g=>?_⟩;simp[execOp,Instr.alloc,f,newVar,newRow,c]
theorem gK.set{w:World}{b j:Nat}{t:TypeId}{cs:List Value}{v:Value}(h:gK w b t cs):gK (w.setCell ⟨b,j,none⟩ v) b t (cs.set j v):=by unfold gK at h⊢;simp[World.setCell,sA,h]
def vB(cs:List Value)(j:Nat)(c:List Value):List Value:=cs.take j++c++cs.drop (j+c.length)
theorem GB{cs c:List Value}{j:Nat}{v:Value}(h:j+(v::c).length<=cs.length):vB cs j (v::c)=vB (cs.set j v) (j+1) c:=by
 simp only[bp]at h;have f:j<cs.length:=by omega
 unfold vB;have d:(cs.set j v).take (j+1)=cs.take j++[v]:=by rw[List.take_succ_eq_append_getElem (by simpa using f)];rw[List.take_set,List.set_eq_of_length_le (by simp;omega)];simp
 have e:(cs.set j v).drop (j+1+c.length)=cs.drop (j+(v::c).length):=by rw[List.drop_set_of_lt (by omega)];congr 1;simp;omega
 rw[d,e];simp
theorem Jl(cs:List Value)(j:Nat):vB cs j []=cs:=by simp[vB]
end
structure kC where
  AD : Int
  A1 : Int
  start : Int
  count : Int
  min : Int
  gD : List (List Int)
deriving DecidableEq
section
variable{P:Program}{n:Nat}{F:dB}{w w':World}
theorem HM{c a b:Operand}{v:Value}(f:ev n F c= .bool true)(e:ev n F a=v):iq P n F w (.pick c a b) v w:=by refine⟨λd t p h g=>?_⟩;simp[execOp,f,e,asBool]
theorem HN{c a b:Operand}{v:Value}(f:ev n F c= .bool false)(e:ev n F b=v):iq P n F w (.pick c a b) v w:=by refine⟨λd t p h g=>?_⟩;simp[execOp,f,e,asBool]
theorem Ef(s:Nat):(2:Int)^s=((2^s:Nat):Int):=by norm_cast
structure Pl (w : World) (D : List Nat) (b o : Nat) (cs : List Value) : Prop where
  c : B8 w b o cs
  nd : b ∉ D
  lt : b < w.heap.size
end
section
variable{P:Program}{n:Nat}
theorem IY{o:Oper}{a:Act}{K:Act->World->Prop}{Q:Exit->Act->World->Prop}{b:Act->World->Prop}{r:Result Next}(h:o.upon P a K (Exit.then b Q) r):o.upon P a K Q r:=by cases r with
 |ok x w=>cases x<;>exact h
 |halt x w=>cases x<;>exact h
theorem FY{l:List Oper}{i:Nat}{o:Oper}{F:dB}{w:World}{k:dB->World->Prop}{Q:Exit->Act->World->Prop}{K:Act->World->Prop}(hi:l[i]?=some o)(h:LW P n l.toArray [o] k F w)(f:∀F w,k F w->K (fr n F) w):wpOp P l.toArray Q i K (fr n F) w:=by
 unfold LW at h;have a:=h (Exit.then K Q) λF w d=>f F w d;unfold wpOp;have e:l.toArray[i]?=some o:=by simpa using hi
 rw[e];simp only;unfold wpList at a;split
 .
  rename_i b;rw[aA b]at a;rcases a with a|a;.left;unfold Oper.wp at a⊢;have c:=IY a;exact c
  .right;exact a
 .rename_i b;rw[aB b]at a;exact a
end
section
variable{P:Program}{n:Nat}{l:List Oper}{p:Nat}
def xi(l:List Oper)(a:Array Bool):Prop:=∀i o,l[i]?=some o->a.getD i false=true->∀e∈o.after.toList,Region.binds .any e=true->a.getD e.on false=true
theorem vA{a:Array Bool}{i:Nat}(m:a.size=l.length):i∈Region.ready .any l.toArray a↔∃o,l[i]?=some o∧a.getD i false=false∧∀e∈o.after.toList,Region.binds .any e=true→a.getD e.on false=true:=by
 unfold Region.ready;simp only[pR,List.mem_filter,eC,ae,jd];constructor
 ·
  rintro⟨j,c,f⟩;have d:=G j;refine⟨l[i],d,?_,?_⟩
  ·
   have k:i<a.size:=by omega
   simp[Array.getD,k]at c⊢;exact c
  ·
   intro e h g;have b:(Option.map (fun x:Oper=>x.after.all fun e=>!Region.binds .any e||a.getD e.on false) l[i]?).getD false=true:=by simpa using f
   rw[d]at b;simp only[lN,Option.getD_some]at b;rw[←Array.all_toList,bQ]at b;have:=b e h;simpa [g]using this
 ·
  rintro⟨o,d,c,f⟩;have j:=gv d;refine⟨j,?_,?_⟩
  ·
   have k:i<a.size:=by omega
   simp[Array.getD,k]at c⊢;exact c
  ·
   have b:(Option.map (fun x:Oper=>x.after.all fun e=>!Region.binds .any e||a.getD e.on false) l[i]?).getD false=true:=by rw[d];simp only[lN,Option.getD_some];rw[←Array.all_toList,bQ];intro e h;cases g:Region.binds .any e with
    |false=>rfl
    |true=>simpa using f e h g
   simpa using b
def Fl(a:Array Bool):Nat:=a.toList.countP λb=>!b
theorem Qi{a:Array Bool}{i:Nat}(hi:i<a.size)(h:a.getD i false=false):Fl (a.setIfInBounds i true)+1=Fl a:=by
 unfold Fl;rw[Array.toList_setIfInBounds];have c:a.toList[i]'(by simpa using hi)=false:=by simpa [Array.getD,hi]using h
 have d:i<a.toList.length:=by simpa using hi
 have e:=List.countP_set (p:=λb:Bool=>!b) (a:=true) d;simp only[c,ly,kF,dU,fc,fI]at e;rw[e];have f:0<a.toList.countP λb=>!b:=by rw[List.countP_pos_iff];exact⟨false,by rw[<-c];exact eF d,rfl⟩
 omega
theorem NL{a:Array Bool}(h:Fl a=0){i:Nat}(hi:i<a.size):a.getD i false=true:=by
 unfold Fl at h;rw[lx]at h;have b:a[i]∈a.toList:=by rw[Array.mem_toList_iff];exact Array.getElem_mem hi
 have:=h _ b;simpa [Array.getD,hi]using this
theorem jk{a:Array Bool}{i j:Nat}(hi:i<a.size):(a.setIfInBounds i true).getD j false=if j=i then true else a.getD j false:=by
 by_cases h:j=i;.subst h;simp[Array.getD,hi]
 .
  have c:i≠j:=λe=>h e.symm;simp only[h,fc];unfold Array.getD;simp only[Array.size_setIfInBounds];split;.rename_i b;show(a.setIfInBounds i true)[j]'(by simpa using b)=a[j];rw[oG (by simpa using b),aB c]
  .rfl
end
def DM(w:World)(T sz:Nat)(g:Option Nat)(v:Value)(rows:List (List Value)):Prop:=(∀r,r∈rows->r.length=sz)/\(g=none/\v= .slice none 0 0/\rows=[]\/∃b a c,g=some b/\v= .slice (some ⟨b,0,none⟩) rows.length a/\rows.length<=a/\(rows.length<=140737488355328/\a<=maxLen)/\gK w b T (rows.flatten++c)/\(rows.flatten++c).length=a*sz)
def U5(xs:List Int):List (List Value):=xs.map λx=>[Value.int .i64 x]
theorem Dg{xs:List Int}{r:List Value}(h:r∈U5 xs):r.length=1:=by simp[U5]at h;obtain⟨x,_,rfl⟩:=h;rfl
theorem Ds{rows:List (List Value)}{sz:Nat}(h:∀r,r∈rows->r.length=sz):rows.flatten.length=rows.length*sz:=by induction rows with
 |nil=>simp
 |cons r rows b=>rw[ko,ax,b λr a=>h r (by simp[a]),h r (by simp),bp,ig];omega
theorem Nz{rows:List (List Value)}{sz:Nat}(h:∀r,r∈rows->r.length=sz){i j:Nat}{r:List Value}(b:rows[i]?=some r)(e:j<sz):rows.flatten[i*sz+j]?=r[j]?:=by induction rows generalizing i with
 |nil=>simp at b
 |cons a rows d=>rw[ko];have c:a.length=sz:=h a (by simp);cases i with
 |zero=>simp at b;subst b;rw[fP,bi,bL (by omega)]
 |succ i=>rw[bA (by rw[c,ig];omega),c];rw[show(i+1)*sz+j-sz=i*sz+j by rw[ig];omega];exact d (λr b=>h r (by simp[b])) (by simpa using b)
structure R4 (P : Program) (e sz : Nat) (z : Value) (bytes : Nat) : Prop where
  sG : ∃ i, P.info? e = some i ∧ i.zero = some z ∧ i.size = sz ∧ i.bytes = bytes
  cells : z.cells.size = sz
  Yk : 0 < sz
  Qp : 1 ≤ bytes
section
variable{P:Program}{n:Nat}{bD:Array Oper}{rest:List Oper}{k:dB->World->Prop}{F:dB}{w:World}{d ty:Nat}{p:String}{af:Array Edge}
theorem oD(z:Array Value)(c:Nat):madeCells z (c*z.size)=(List.replicate c z.toList).flatten.toArray:=by
 apply Array.ext;.rw[size_madeCells];simp[List.length_flatten]
 .
  intro i a m;rw[size_madeCells]at a
  have f:0<z.size:=by
   rcases Nat.eq_zero_or_pos z.size with h|h;.rw[h]at a;simp at a
   .exact h
  have o:i/z.size<c:=by rw[Nat.div_lt_iff_lt_mul f];exact a
  have b:i%z.size<z.size:=Nat.mod_lt _ f;have e:=Nz (rows:=List.replicate c z.toList) (sz:=z.size) (λr q=>by rw[eA q];simp) (i:=i/z.size) (j:=i%z.size) (r:=z.toList) (by rw[cd,aA o]) b;rw[Nat.div_add_mod']at e;have g:(madeCells z (c*z.size))[i]=z[i%z.size]:=by simp[madeCells,b]
  have j:(List.replicate c z.toList).flatten[i]?=some z[i%z.size]:=by rw[e];simp[b]
  have l:(List.replicate c z.toList).flatten.toArray[i]=(List.replicate c z.toList).flatten[i]'(by simpa using m):=by simp
  rw[g,l];exact(List.getElem_eq_iff _).2 j|>.symm
end
end Go.Wk
namespace Go.Hm
open Go Go.RowKit Go.Wk
section
variable{α:Type}
theorem Tr.kN(k:Nat):(Tr.e:Tr α).ap k=none:=rfl
theorem Tr.tz(l r:Tr α)(v:Option α)(k:Nat):(Tr.n l v r).ap k=if k=0 then v else if k%2=1 then l.ap ((k-1)/2)else r.ap ((k-1)/2):=by
 have e:(Tr.n l v r).ap k=bif Nat.beq k 0 then v else bif Nat.beq (Nat.mod k 2) 1 then l.ap (Nat.div (Nat.sub k 1) 2)else r.ap (Nat.div (Nat.sub k 1) 2):=by show Bool.rec (motive:=λ_=>Option α) (Bool.rec (motive:=λ_=>Option α) (r.ap (Nat.div (Nat.sub k 1) 2)) (l.ap (Nat.div (Nat.sub k 1) 2)) (Nat.beq (Nat.mod k 2) 1)) v (Nat.beq k 0)=_;cases Nat.beq k 0<;>cases Nat.beq (Nat.mod k 2) 1<;>rfl
 rw[e];by_cases h:k=0;.subst h;rfl
 .
  have b:Nat.beq k 0=false:=by cases k with
   |zero=>exact absurd rfl h
   |succ n=>rfl
  rw[b,aB h,kg];by_cases a:k%2=1
  .
   have:Nat.beq (Nat.mod k 2) 1=true:=by show Nat.beq (k%2) 1=true;rw[a];rfl
   rw[this,aA a];rfl
  .
   have:Nat.beq (Nat.mod k 2) 1=false:=by
    show Nat.beq (k%2) 1=false;have:k%2=0:=by omega
    rw[this];rfl
   rw[this,aB a];rfl
theorem Tr.Wg(u:Option α)(d k:Nat):Tr.put u (d+1) .e k=if k=0 then .n .e u .e else if k%2=1 then .n (Tr.put u d .e ((k-1)/2)) none .e else .n .e none (Tr.put u d .e ((k-1)/2)):=by
 have e:Tr.put u (d+1) .e k=bif Nat.beq k 0 then Tr.n .e u .e else bif Nat.beq (Nat.mod k 2) 1 then .n (Tr.put u d .e (Nat.div (Nat.sub k 1) 2)) none .e else .n .e none (Tr.put u d .e (Nat.div (Nat.sub k 1) 2)):=by show Bool.rec (motive:=λ_=>Tr α) (Bool.rec (motive:=λ_=>Tr α) (.n .e none (Tr.put u d .e (Nat.div (Nat.sub k 1) 2))) (.n (Tr.put u d .e (Nat.div (Nat.sub k 1) 2)) none .e) (Nat.beq (Nat.mod k 2) 1)) (Tr.n .e u .e) (Nat.beq k 0)=_;cases Nat.beq k 0<;>cases Nat.beq (Nat.mod k 2) 1<;>rfl
 rw[e];by_cases h:k=0;.subst h;rfl
 .
  have b:Nat.beq k 0=false:=by cases k with
   |zero=>exact absurd rfl h
   |succ n=>rfl
  rw[b,aB h,kg];by_cases a:k%2=1
  .
   have:Nat.beq (Nat.mod k 2) 1=true:=by show Nat.beq (k%2) 1=true;rw[a];rfl
   rw[this,aA a];rfl
  .
   have:Nat.beq (Nat.mod k 2) 1=false:=by
    show Nat.beq (k%2) 1=false;have:k%2=0:=by omega
    rw[this];rfl
   rw[this,aB a];rfl
theorem Tr.Wf(u v:Option α)(l r:Tr α)(d k:Nat):Tr.put u (d+1) (.n l v r) k=if k=0 then .n l u r else if k%2=1 then .n (Tr.put u d l ((k-1)/2)) v r else .n l v (Tr.put u d r ((k-1)/2)):=by
 have e:Tr.put u (d+1) (.n l v r) k=bif Nat.beq k 0 then Tr.n l u r else bif Nat.beq (Nat.mod k 2) 1 then .n (Tr.put u d l (Nat.div (Nat.sub k 1) 2)) v r else .n l v (Tr.put u d r (Nat.div (Nat.sub k 1) 2)):=by show Bool.rec (motive:=λ_=>Tr α) (Bool.rec (motive:=λ_=>Tr α) (.n l v (Tr.put u d r (Nat.div (Nat.sub k 1) 2))) (.n (Tr.put u d l (Nat.div (Nat.sub k 1) 2)) v r) (Nat.beq (Nat.mod k 2) 1)) (Tr.n l u r) (Nat.beq k 0)=_;cases Nat.beq k 0<;>cases Nat.beq (Nat.mod k 2) 1<;>rfl
 rw[e];by_cases h:k=0;.subst h;rfl
 .
  have b:Nat.beq k 0=false:=by cases k with
   |zero=>exact absurd rfl h
   |succ n=>rfl
  rw[b,aB h,kg];by_cases a:k%2=1
  .
   have:Nat.beq (Nat.mod k 2) 1=true:=by show Nat.beq (k%2) 1=true;rw[a];rfl
   rw[this,aA a];rfl
  .
   have:Nat.beq (Nat.mod k 2) 1=false:=by
    show Nat.beq (k%2) 1=false;have:k%2=0:=by omega
    rw[this];rfl
   rw[this,aB a];rfl
theorem Tr.G3(u:Option α):∀(d:Nat)(t:Tr α)(k j:Nat),k+1<2^d->(Tr.put u d t k).ap j=if j=k then u else t.ap j:=by
 intro d
 induction d with
  |zero=>intro t k j h;simp at h
  |succ d i=>
  intro t k j h;have p:2^(d+1)=2*2^d:=by rw[Nat.pow_succ];omega
  have m:∀(l r:Tr α)(v:Option α),(if k=0 then Tr.n l u r else if k%2=1 then Tr.n (Tr.put u d l ((k-1)/2)) v r else Tr.n l v (Tr.put u d r ((k-1)/2))).ap j=if j=k then u else(Tr.n l v r).ap j:=by
   intro l r v;by_cases f:k=0
   .
    rw[aA f,Tr.tz,Tr.tz,f];by_cases a:j=0;.rw[aA a,aA a]
    .rw[aB a,aB a,aB a]
   .
    rw[aB f];by_cases g:k%2=1
    .
     rw[aA g,Tr.tz,Tr.tz,i _ _ _ (by omega)];by_cases a:j=0;.rw[aA a,aA a,aB (by omega)]
     .
      rw[aB a,aB a];by_cases b:j%2=1
      .
       rw[aA b,aA b];by_cases c:j=k;.rw[aA c,c,aA rfl]
       .rw[aB c,aB (by omega)]
      .rw[aB b,aB b,aB (by omega)]
    .
     rw[aB g,Tr.tz,Tr.tz,i _ _ _ (by omega)];by_cases a:j=0;.rw[aA a,aA a,aB (by omega)]
     .
      rw[aB a,aB a];by_cases b:j%2=1;.rw[aA b,aA b,aB (by omega)]
      .
       rw[aB b,aB b];by_cases c:j=k;.rw[aA c,c,aA rfl]
       .rw[aB c,aB (by omega)]
  cases t with
   |e=>
   have:=m .e .e none;rw[Tr.Wg];have o:(Tr.n Tr.e none Tr.e:Tr α).ap j=none:=by rw[Tr.tz];simp[Tr.kN]
   rw[o]at this;rw[Tr.kN];exact this
   |n l v r=>rw[Tr.Wf];exact m l r v
theorem Lc(k:Nat):k+1<2^Nat.succ (Nat.log2 (Nat.succ k)):=Nat.lt_log2_self
theorem Tr.dk(t:Tr α)(k j:Nat)(v:α):(t.set k v).ap j=if j=k then some v else t.ap j:=Tr.G3 _ _ _ _ _ (Lc k)
theorem Tr.gC(t:Tr α)(k j:Nat):(t.nr k).ap j=if j=k then none else t.ap j:=Tr.G3 _ _ _ _ _ (Lc k)
theorem Tr.a8(t:Tr α)(k:Nat)(v:α):(t.set k v).ap k=some v:=by rw[Tr.dk,aA rfl]
theorem Tr.bS(t:Tr α){k j:Nat}(v:α)(h:j≠k):(t.set k v).ap j=t.ap j:=by rw[Tr.dk,aB h]
end
structure RI where
  c : Nat
  o : Nat
  n : Nat
  z : Nat
  ga : Nat
abbrev Rn:=Nat->Option RI
mutual def VR(ρ:Rn):HV->Value->Prop| .any,_=>True| .undef,v=>v=undef| .int k n,v=>v= .int k n| .bool b,v=>v= .bool b| .ef s,v=>v= .string s| .rc,v=>v= .pointer none| .ptr b o,v=>∃r,ρ b=some r/\v= .pointer (some ⟨r.c,r.o+o,none⟩)| .cM,v=>v= .slice none 0 0| .gz,v=>∃a,v= .slice (some a) 0 0| .lV,v=>∃a c,v= .slice (some a) 0 c/\c<=maxLen| .sl b o n,v=>∃r cap,ρ b=some r/\v= .slice (some ⟨r.c,r.o+o,none⟩) n cap/\n<=cap/\r.n<=o+cap*r.z/\r.o+o+cap*r.z<=r.ga/\cap<=maxLen/\n<=140737488355328| .jh b o n,v=>∃r cap,ρ b=some r/\v= .slice (some ⟨r.c,r.o+o,none⟩) n cap/\n<=cap/\cap<=maxLen/\n<=140737488355328| .agg cs,v=>∃us,v= .agg us.toArray/\dN ρ cs us/\∀u,u∈us->u.oneCell'=true| .mx vs,v=>∃us,v= .tuple us.toArray/\dN ρ vs us| .fn f caps,v=>∃us,v= .func (.func f) #[] us.toArray/\dN ρ caps us| .rf,v=>v= .nilFunc| .GI,v=>v= .map none| .map b,v=>∃r,ρ b=some r/\v= .map (some r.c)def dN(ρ:Rn):List HV->List Value->Prop|[],us=>us=[]|a::l,us=>∃u us',us=u::us'/\VR ρ a u/\dN ρ l us' end
def sQ(ρ a:Rn):Prop:=∀b r,ρ b=some r->a b=some r
theorem sQ.refl(ρ:Rn):sQ ρ ρ:=λ_ _ h=>h
mutual theorem VR.ext{ρ ρ':Rn}(e:sQ ρ ρ'):∀(a:HV)(v:Value),VR ρ a v->VR ρ' a v
 | .any,_,h=>by unfold VR at*;trivial
 | .undef,_,h=>by unfold VR at*;exact h
 | .int _ _,_,h=>by unfold VR at*;exact h
 | .bool _,_,h=>by unfold VR at*;exact h
 | .ef _,_,h=>by unfold VR at*;exact h
 | .rc,_,h=>by unfold VR at*;exact h
 | .ptr b o,_,h=>by unfold VR at*;obtain⟨r,h1,h2⟩:=h;exact⟨r,e _ _ h1,h2⟩
 | .cM,_,h=>by unfold VR at*;exact h
 | .gz,_,h=>by unfold VR at*;exact h
 | .lV,_,h=>by unfold VR at*;exact h
 | .sl b o n,_,h=>by unfold VR at*;obtain⟨r,c,h1,h2⟩:=h;exact⟨r,c,e _ _ h1,h2⟩
 | .jh b o n,_,h=>by unfold VR at*;obtain⟨r,c,h1,h2⟩:=h;exact⟨r,c,e _ _ h1,h2⟩
 | .agg cs,_,h=>by unfold VR at*;obtain⟨us,h1,h2,h3⟩:=h;exact⟨us,h1,dN.ext e cs us h2,h3⟩
 | .mx cs,_,h=>by unfold VR at*;obtain⟨us,h1,h2⟩:=h;exact⟨us,h1,dN.ext e cs us h2⟩
 | .fn f cs,_,h=>by unfold VR at*;obtain⟨us,h1,h2⟩:=h;exact⟨us,h1,dN.ext e cs us h2⟩
 | .rf,_,h=>by unfold VR at*;exact h
 | .GI,_,h=>by unfold VR at*;exact h
 | .map b,_,h=>by unfold VR at*;obtain⟨r,h1,h2⟩:=h;exact⟨r,e _ _ h1,h2⟩theorem dN.ext{ρ ρ':Rn}(e:sQ ρ ρ'):∀(a:List HV)(v:List Value),dN ρ a v->dN ρ' a v
 |[],_,h=>by unfold dN at*;exact h
 |a::l,_,h=>by unfold dN at*;obtain⟨u,us,h1,h2,h3⟩:=h;exact⟨u,us,h1,VR.ext e a u h2,dN.ext e l us h3⟩end
section
variable{ρ:Rn}
theorem eW:∀{a:List HV}{v:List Value},dN ρ a v->v.length=a.length
 |[],_,h=>by unfold dN at h;rw[h];rfl
 |a::l,_,h=>by unfold dN at h;obtain⟨u,d,rfl,c,b⟩:=h;simp[eW b]
theorem jW:∀{a:List HV}{v:List Value},dN ρ a v->∀(i:Nat)(x:HV),a[i]?=some x->∃u,v[i]?=some u/\VR ρ x u
 |[],_,h,i,x,b=>by simp at b
 |a::l,_,h,i,x,b=>by unfold dN at h;obtain⟨u,g,rfl,c,d⟩:=h;cases i with
  |zero=>simp at b;subst b;exact⟨u,rfl,c⟩
  |succ i=>simp at b;obtain⟨w,e,f⟩:=jW d i x b;exact⟨w,by simpa using e,f⟩
theorem ux:∀{a:List HV}{v:List Value},v.length=a.length->(∀(i:Nat)(x:HV)(u:Value),a[i]?=some x->v[i]?=some u->VR ρ x u)->dN ρ a v
 |[],v,b,h=>by unfold dN;exact eN.1 b
 |a::l,[],b,h=>by simp at b
 |a::l,u::e,b,h=>by unfold dN;exact⟨u,e,rfl,h 0 a u rfl rfl,ux (by simpa using b) λi x w c d=>h (i+1) x w (by simpa using c) (by simpa using d)⟩
theorem BI{a b:List HV}{u v:List Value}(h1:dN ρ a u)(h2:dN ρ b v):dN ρ (a++b) (u++v):=by
 refine ux (by simp[eW h1,eW h2]) λi x y d c=>?_;have g:=eW h1;rcases cI i a.length with h|h;.rw[bL h]at d;rw[bL (by omega)]at c;obtain⟨z,e,f⟩:=jW h1 i x d;rw[e]at c;cases c;exact f
 .rw[bA h]at d;rw[bA (by omega),g]at c;obtain⟨z,e,f⟩:=jW h2 _ x d;rw[e]at c;cases c;exact f
theorem N8{a:List HV}{v:List Value}(n:Nat)(h:dN ρ a v):dN ρ (a.take n) (v.take n):=ux (by simp[eW h]) λi x y b c=>by
 rw[eU]at b c;split at b;.rename_i f;rw[aA f]at c;obtain⟨z,d,e⟩:=jW h i x b;rw[d]at c;cases c;exact e
 .cases b
theorem oi{a:HV}{v:Value}{l:List HV}(b:iP a=some l)(h:VR ρ a v):dN ρ l v.cells.toList/\∀u,u∈v.cells.toList->u.oneCell'=true:=by
 cases a with
  |agg i=>cases b;unfold VR at h;obtain⟨j,rfl,e,f⟩:=h;exact⟨by simpa [Value.cells]using e,by simpa [Value.cells]using f⟩
  |any=>cases b
  |undef=>cases b
  |mx k=>cases b
  |_=>
  all_goals
   cases b;have c:v.oneCell'=true:=by unfold VR at h;first|(subst h;rfl)|(obtain⟨_,_,rfl⟩:=h;rfl)|(obtain⟨_,rfl⟩:=h;rfl)|(obtain⟨_,rfl,_⟩:=h;rfl)|(obtain⟨_,_,rfl,_⟩:=h;rfl)|(obtain⟨_,_,_,rfl,_⟩:=h;rfl)
   have g:v.cells.toList=[v]:=by cases v<;>first|rfl|(cases c)
   rw[g];refine⟨?_,λu d=>by simp at d;rw[d];exact c⟩;show dN ρ [_] _;unfold dN;exact⟨v,[],rfl,h,by unfold dN;rfl⟩
theorem GG{v:Value}{a:HV}(h:Pj v=some a):VR ρ a v/\v.oneCell'=true:=by unfold Pj at h;split at h;all_goals first|(cases h;exact⟨by unfold VR;rfl,rfl⟩)|cases h
theorem C1:∀{b:List Value}{l:List HV},C2 b=some l->dN ρ l b/\∀u,u∈b->u.oneCell'=true
 |[],l,h=>by cases h;exact⟨by unfold dN;rfl,λ_ h=>by cases h⟩
 |v::b,l,h=>by
  unfold C2 at h
  cases d:Pj v with
   |none=>rw[d]at h;cases h
   |some a=>
   rw[d]at h
   cases e:C2 b with
    |none=>rw[e]at h;cases h
    |some k=>
    rw[e]at h;cases h;obtain⟨f,g⟩:=GG (ρ:=ρ) d;obtain⟨i,j⟩:=C1 e;refine⟨by unfold dN;exact⟨v,b,rfl,f,i⟩,λu c=>?_⟩;rcases cm.1 c with rfl|c;.exact g
    .exact j u c
theorem th{v:Value}{a:HV}(h:Jt v=some a):VR ρ a v:=by
 unfold Jt at h;split at h
 .rename_i c;cases b:C2 c with
  |none=>rw[b]at h;cases h
  |some l=>rw[b]at h;cases h;obtain⟨d,e⟩:=C1 (ρ:=ρ) b;unfold VR;exact⟨c,rfl,d,e⟩
 .cases h;unfold VR;rfl
 .exact(GG h).1
end
def y5(ρ:Rn)(w:World)(r:RI)(x:gK):Prop:=x.n=r.n/\x.z=r.z/\r.c<w.heap.size/\(∀i v,i<x.n->x.c.ap i=some v->∃u,w.cell? ⟨r.c,r.o+i,none⟩=some u/\VR ρ v u/\u.oneCell'=true)/\(x.own=true->∃a b,w.heap[r.c]?=some (.cells a b (0,0))/\a.size=r.ga/\r.o+r.n<=r.ga)
def oB:Obj->Bool| .cp x=>x.own| .map _=>true
def gT(ρ:Rn):List (HV×HV)->List MapEntry->Prop|[],b=>b=[]|(k,v)::d,b=>∃e c,b=e::c/\(∃q a,k= .int q a)/\VR ρ k e.key/\VR ρ v e.val/\gT ρ d c
structure eT (ρ : Rn) (hp : Tr Obj) (w : World) : Prop where
  cp : ∀ b x r, hp.ap b = some (.cp x) → ρ b = some r → y5 ρ w r x
  map : ∀ b es r, hp.ap b = some (.map es) → ρ b = some r → ∃ en clock, w.heap[r.c]? = some (.map en clock) ∧ gT ρ es en.toList
  inj : ∀ b b' o o' r r', b ≠ b' → hp.ap b = some o → oB o = true → hp.ap b' = some o' → ρ b = some r → ρ b' = some r' → r.c ≠ r'.c
def Dr(ρ:Rn)(hp:Tr Obj)(c:Nat):Prop:=∃b o r,hp.ap b=some o/\oB o=true/\ρ b=some r/\r.c=c
structure zg (S : Nat → Prop) (w w' : World) : Prop where
  os : w'.os = w.os
  tape : w'.tape = w.tape
  output : w'.output = w.output
  size : w.heap.size ≤ w'.heap.size
  block : ∀ b, b < w.heap.size → ¬ S b → w'.heap[b]? = w.heap[b]?
theorem zg.refl(S:Nat->Prop)(w:World):zg S w w:=⟨rfl,rfl,rfl,au _,λ_ _ _=>rfl⟩
theorem zg.of{D:List Nat}{S:Nat->Prop}{w a:World}(h:Kp D w a)(f:∀b,b∈D->S b):zg S w a:=⟨h.os,h.tape,h.output,h.size,λb c e=>h.block b c λd=>e (f b d)⟩
structure fp (ρ : Rn) (s : St) (w : World) (ρ' : Rn) (s' : St) (w' : World) : Prop where
  qY : eT ρ' s'.hp w'
  tg : ∀ b, b < s.nx ∨ s'.nx ≤ b → ρ' b = ρ b
  kp : zg (Dr ρ s.hp) w w'
  dr : ∀ c, Dr ρ' s'.hp c → Dr ρ s.hp c ∨ w.heap.size ≤ c
  nx : s.nx ≤ s'.nx
def jX(ρ:Rn)(a b:Nat):Prop:=∀i,a<=i->i<b->ρ i=none
section
variable{ρ ρ' ρ'':Rn}{s s' s'':St}{w w' w'':World}
theorem fp.ext(h:fp ρ s w ρ' s' w')(u:jX ρ s.nx s'.nx):sQ ρ ρ':=by
 intro b r d;rw[h.tg b,d];rcases cI b s.nx with a|a;.exact .inl a
 .
  rcases cI b s'.nx with c|c;.rw[u b a c]at d;cases d
  .exact .inr c
theorem fp.trans(h:fp ρ s w ρ' s' w')(k:fp ρ' s' w' ρ'' s'' w''):fp ρ s w ρ'' s'' w'':=by
 have j:=h.nx;have l:=k.nx;refine⟨k.qY,λb e=>?_,⟨k.kp.os.trans h.kp.os,k.kp.tape.trans h.kp.tape,k.kp.output.trans h.kp.output,aM h.kp.size k.kp.size,λb e d=>?_⟩,λc i=>?_,aM j l⟩;.rw[k.tg b (by omega),h.tg b (by omega)]
 .
  have f:=h.kp.size;rw[k.kp.block b (by omega) λg=>?_,h.kp.block b e d];rcases h.dr b g with a|a;.exact d a
  .omega
 .
  have f:=h.kp.size;rcases k.dr c i with a|a;.exact h.dr c a
  .right;omega
theorem jX.sub{a b c d:Nat}(u:jX ρ a d)(h1:a<=b)(h2:c<=d):jX ρ b c:=λi e f=>u i (by omega) (by omega)
theorem fp.undef(h:fp ρ s w ρ' s' w'){n:Nat}(u:jX ρ s.nx n):jX ρ' s'.nx n:=by intro i a b;have:=h.nx;rw[h.tg i (.inr a)];exact u i (by omega) b
theorem Hu{c o:Nat}(h:w'.heap[c]?=w.heap[c]?):w'.cell? ⟨c,o,none⟩=w.cell? ⟨c,o,none⟩:=by unfold World.cell?;simp only[h]
theorem gT.ext(e:sQ ρ ρ'):∀{a:List (HV×HV)}{b:List MapEntry},gT ρ a b->gT ρ' a b
 |[],_,h=>h
 |(k,v)::a,_,h=>by unfold gT at h⊢;obtain⟨x,c,d,f,g,i,j⟩:=h;exact⟨x,c,d,f,VR.ext e _ _ g,VR.ext e _ _ i,gT.ext e j⟩
end
theorem uL{b:Nat}{t:TypeId}:∀(a:List Value)(o:Nat)(cs:List Value)(w:World),Wk.gK w b t cs->o+a.length<=cs.length->Wk.gK (w.setCells b o a) b t (vB cs o a)
 |[],o,cs,w,h,_=>by rw[Jl];exact h
 |v::a,o,cs,w,h,c=>by rw[World.setCells,GB c];exact uL a (o+1) (cs.set o v) _ h.set (by simp at c⊢;omega)
theorem Kp.setCells(b:Nat):∀(a:List Value)(o:Nat)(w:World),Kp [b] w (w.setCells b o a)
 |[],_,w=>Kp.refl _ w
 |v::a,o,w=>by rw[World.setCells];exact(Kp.setCell w ⟨b,o,none⟩ v).trans (Kp.setCells b a (o+1) _)
theorem aH{α:Type}(b:Bool)(x y:α):(bif b then x else y)=if b=true then x else y:=by cases b<;>rfl
theorem jV{a b:Nat}:Nat.blt a b=true↔a<b:=by rw[dJ]
theorem gq:∀(l:List HV)(c:Tr HV)(o i:Nat),(cr c o l).ap i=if o<=i/\i<o+l.length then l[i-o]? else c.ap i
 |[],c,o,i=>by rw[aB (by simp only[fZ];omega)];rfl
 |v::a,c,o,i=>by
  show(cr (c.set o v) (o+1) a).ap i=_;rw[gq a,Tr.dk,bp];by_cases h:i=o;.subst h;rw[aB (by omega),aA rfl,aA (by omega),dW];rfl
  .
   rw[aB h];by_cases b:o+1<=i/\i<o+1+a.length
   .
    rw[aA b,aA (by omega)];have:i-o=i-(o+1)+1:=by omega
    rw[this,dD]
   .rw[aB b,aB (by omega)]
theorem gK.E6(b:gK)(i:Nat):b.ap i=if i<b.n then b.c.ap i else none:=by
 unfold gK.ap;rw[aH];by_cases h:i<b.n;.rw[aA h,aA (jV.2 h)]
 .rw[aB h,aB λx=>h (jV.1 x)]
theorem qi{b:gK}:∀{k o:Nat}{l:List HV},cF b o k=some l->l.length=k/\∀i v,l[i]?=some v->o+i<b.n/\b.c.ap (o+i)=some v
 |0,o,l,h=>by cases h;exact⟨rfl,λi v a=>by simp at a⟩
 |k+1,o,l,h=>by
  unfold cF at h
  cases a:b.ap o with
   |none=>rw[a]at h;cases h
   |some v=>
   rw[a]at h
   cases d:cF b (Nat.add o 1) k with
    |none=>rw[d]at h;cases h
    |some g=>
    rw[d]at h;cases h;obtain⟨e,f⟩:=qi d;rw[gK.E6]at a;refine⟨by simp[e],λi u c=>?_⟩
    cases i with
     |zero=>
     simp at c;subst c;split at a;.exact⟨by simpa,a⟩
     .cases a
     |succ i=>simp at c;have:=f i u c;rw[show o+(i+1)=Nat.add o 1+i by show _=o+1+i;omega];exact this
def pf(ρ:Rn)(b:Nat)(r:RI):Rn:=λi=>if i=b then some r else ρ i
theorem fM(ρ:Rn)(b:Nat)(r:RI):pf ρ b r b=some r:=by simp[pf]
theorem ku(ρ:Rn){b i:Nat}(r:RI)(h:i≠b):pf ρ b r i=ρ i:=by simp[pf,h]
theorem xk{ρ:Rn}{b:Nat}{r:RI}(h:ρ b=none):sQ ρ (pf ρ b r):=λi q a=>by rw[ku];exact a;rintro rfl;rw[h]at a;cases a
section
variable{ρ:Rn}{s:St}{w w':World}
theorem y5.mv{d:Rn}{r:RI}{x:gK}(h:y5 ρ w r x)(e:sQ ρ d)(q:w.heap.size<=w'.heap.size)(c:w'.heap[r.c]?=w.heap[r.c]?):y5 d w' r x:=by
 obtain⟨j,k,g,l,m⟩:=h;refine⟨j,k,aP g q,λi v o t=>?_,λp=>?_⟩;.obtain⟨u,a,b,n⟩:=l i v o t;exact⟨u,by rw[Hu c];exact a,VR.ext e _ _ b,n⟩
 .obtain⟨y,f,a,b⟩:=m p;exact⟨y,f,by rw[c];exact a,b⟩
theorem eT.at{hp:Tr Obj}(h:eT ρ hp w){b:Nat}{o:Obj}{r:RI}(h1:hp.ap b=some o)(h2:ρ b=some r):r.c<w.heap.size:=by cases o with
 |cp x=>exact(h.cp b x r h1 h2).2.2.1
 |map a=>obtain⟨e,d,c,f⟩:=h.map b a r h1 h2;exact oc c
theorem eT.step{f:Rn}{hp':Tr Obj}{b:Nat}(h:eT ρ s.hp w)(e:∀i,i≠b->f i=ρ i)(ex:sQ ρ f)(D:w.heap.size<=w'.heap.size)(hp:∀i,i≠b->∀o,hp'.ap i=some o->s.hp.ap i=some o)(v:∀i o r,i≠b->hp'.ap i=some o->ρ i=some r->r.c<w.heap.size->w'.heap[r.c]?=w.heap[r.c]?)(B:∀x r,hp'.ap b=some (.cp x)->f b=some r->y5 f w' r x)(C:∀m r,hp'.ap b=some (.map m)->f b=some r->∃p z,w'.heap[r.c]?=some (.map p z)/\gT f m p.toList)(hi:∀i o l r r',i≠b->hp'.ap i=some o->hp'.ap b=some l->oB o=true\/oB l=true->ρ i=some r->f b=some r'->r.c≠r'.c):eT f hp' w':=by
 refine⟨λi x r d c=>?_,λi m r d c=>?_,λi g o l r r' u d c j q n=>?_⟩
 .
  by_cases a:i=b;.subst a;exact B x r d c
  .rw[e i a]at c;have j:=h.cp i x r (hp i a _ d) c;exact j.mv ex D (v i _ r a d c j.2.2.1)
 .
  by_cases a:i=b;.subst a;exact C m r d c
  .rw[e i a]at c;obtain⟨p,y,t,A⟩:=h.map i m r (hp i a _ d) c;exact⟨p,y,by rw[v i _ r a d c (oc t)];exact t,A.ext ex⟩
 .
  by_cases a:i=b;.subst a;have k:g≠i:=λx=>u x.symm;rw[e g k]at n;exactλx=>hi g l o r' r k j d (.inr c) n q x.symm
  .
   rw[e i a]at q;by_cases k:g=b;.subst k;exact hi i o l r r' a d j (.inl c) q n
   .rw[e g k]at n;exact h.inj i g o l r r' u (hp i a _ d) c (hp g k _ j) q n
theorem mS{xs:Array Value}{T:TypeId}{a:Nat×Nat}{c i:Nat}(h:w.heap[c]?=some (.cells xs T a)):w.cell? ⟨c,i,none⟩=xs[i]?:=by unfold World.cell?;simp[h]
theorem fp.bP{z:Nat}{l:List HV}{us ex:List Value}{T:TypeId}{w1:World}(h:eT ρ s.hp w)(u:ρ s.nx=none)(t:dN ρ l us)(h1:∀x,x∈us->x.oneCell'=true)(r0:Kp [] w w1)(m:w1.heap=w.heap):fp ρ s w (pf ρ s.nx ⟨w.heap.size,0,l.length,z,(us++ex).length⟩) (s.bP z l).2 (w1.alloc (.cells (us++ex).toArray T)):=by
 have q:(w1.alloc (.cells (us++ex).toArray T)).heap[w.heap.size]?=some (.cells (us++ex).toArray T (0,0)):=by have:=heap_alloc_new w1 (.cells (us++ex).toArray T);rw[m]at this;exact this
 have t0:∀c,c<w.heap.size->(w1.alloc (.cells (us++ex).toArray T)).heap[c]?=w.heap[c]?:=λc e=>by have:=(Kp.alloc w1 (.cells (us++ex).toArray T)).block c (by rw[m];exact e) (by simp);rw[this,m]
 have D:=xk (r:=⟨w.heap.size,0,l.length,z,(us++ex).length⟩) u;have v0:=eW t;have p:∀i,i≠s.nx->(s.hp.set s.nx (.cp ⟨true,z,l.length,cr .e 0 l⟩)).ap i=s.hp.ap i:=λi a=>Tr.bS _ _ a;have s0:w.heap.size<=(w1.alloc (.cells (us++ex).toArray T)).heap.size:=by have:=(Kp.alloc w1 (.cells (us++ex).toArray T)).size;rw[m]at this;exact this
 have w0:Kp [] w (w1.alloc (.cells (us++ex).toArray T)):=r0.trans (Kp.alloc _ _);refine⟨?_,?_,zg.of w0 (λ_ h=>by cases h),?_,dg _⟩
 .
  refine h.step (b:=s.nx) (λi a=>ku _ _ a) D s0 (λi a o k=>by rw[<-k];exact(p i a).symm) (λi o r a k d A=>t0 _ A) ?_ ?_ ?_
  .
   intro x r f d;rw[fM]at d;cases d;have q0:x=⟨true,z,l.length,cr .e 0 l⟩:=by have:=Tr.a8 s.hp s.nx (Obj.cp ⟨true,z,l.length,cr .e 0 l⟩);rw[show(s.bP z l).2.hp=s.hp.set s.nx (.cp ⟨true,z,l.length,cr .e 0 l⟩)from rfl,this]at f;cases f;rfl
   subst q0;refine⟨rfl,rfl,oc q,λi v a C=>?_,λ_=>⟨_,T,q,by simp,by simp[v0]⟩⟩;have a:i<l.length:=a;rw[gq,aA ⟨a5 _,by omega⟩,iR]at C;obtain⟨y,n,x0⟩:=jW t i v C;refine⟨y,?_,VR.ext D _ _ x0,h1 y (Y n)⟩;rw[mS q];simp only[bi,sw];rw[bL (gv n)];exact n
  .intro p0 r f d;rw[show(s.bP z l).2.hp=s.hp.set s.nx (.cp ⟨true,z,l.length,cr .e 0 l⟩)from rfl,Tr.a8]at f;cases f
  .
   intro i o m0 r l0 a k o0 n0 d B;rw[fM]at B;cases B;have u0:s.hp.ap i=some o:=by rw[<-p i a];exact k
   intro e;simp only at e;have A:=h.at u0 d;omega
 .intro b j;refine ku _ _ ?_;have:(s.bP z l).2.nx=s.nx+1:=rfl;omega
 .
  intro c e;obtain⟨b,o,r,z0,y0,g,rfl⟩:=e;by_cases j:b=s.nx;.subst j;rw[fM]at g;cases g;exact .inr (au _)
  .rw[ku _ _ j]at g;exact .inl ⟨b,o,r,by rw[<-p b j];exact z0,y0,g,rfl⟩
end
end Go.Hm
namespace Go.Ls
open Go Go.Hm
structure En where
  hp : Tr Hm.Obj
  Z : Nat → Prop
  mb : Nat → Option Nat
  ib : Nat → Nat → Option Nat
  st : Tr iK
  nx : Nat
section
variable{α:Type}
theorem qj{b:gK}:∀{k j o:Nat}{l:List HV},cF b o (k+j)=some l↔∃c d,l=c++d∧cF b o k=some c∧cF b (o+k) j=some d
 |0,j,o,l=>by
  constructor;·intro h;exact⟨[],l,rfl,rfl,by rw[bi]at h;exact h⟩
  ·rintro⟨c,d,rfl,a,f⟩;cases a;rw[bi];exact f
 |k+1,j,o,l=>by
  have e:cF b o (k+1+j)=match b.ap o with
   |some v=>match cF b (o+1) (k+j)with|some l=>some (v::l)|none=>none
   |none=>none:=by rw[Nat.add_right_comm];rfl
  have m:cF b o (k+1)=match b.ap o with
   |some v=>match cF b (o+1) k with|some l=>some (v::l)|none=>none
   |none=>none:=rfl
  rw[e,m]
  cases r:b.ap o with
   |none=>simp
   |some v=>
   simp only;have i:=fun l=>qj (b:=b) (k:=k) (j:=j) (o:=o+1) (l:=l);constructor
   ·
    intro h;split at h;·rename_i q p;cases h;obtain⟨c,d,rfl,a,f⟩:=(i q).1 p;exact⟨v::c,d,rfl,by rw[a],by rw[show o+(k+1)=o+1+k by omega];exact f⟩
    ·cases h
   ·
    rintro⟨c,d,rfl,a,f⟩;split at a;·rename_i g n;cases a;rw[(i (g++d)).2 ⟨g,d,rfl,n,by rw[show o+1+k=o+(k+1)by omega];exact f⟩];rfl
    ·cases a
theorem g5{b:gK}{k o:Nat}{l:List HV}(h:cF b o k=some l):l.length=k:=(qi h).1
theorem fz{b:gK}{k o p z:Nat}{l c1 c2 c3:List HV}(h:cF b o k=some l)(e:l=c1++(c2++c3))(h1:c1.length=p)(h2:c2.length=z):cF b (o+p) z=some c2:=by
 have m:=g5 h;subst e;simp only[ax]at m;have:k=p+(z+c3.length):=by omega
 subst this;obtain⟨x,y,c,i,j⟩:=qj.1 h;have d:=ka c (by rw[h1,g5 i]);obtain⟨rfl,rfl⟩:=d;obtain⟨q,r,f,a,n⟩:=qj.1 j;have g:=ka f (by rw[h2,g5 a]);obtain⟨rfl,rfl⟩:=g;exact a
def nO(R:List HV->α->Prop):List HV->List α->Prop|a,[]=>a=[]|a,x::b=>∃c d,a=c++d/\R c x/\nO R d b
def Oc(hp:Tr Hm.Obj)(Z:Nat->Prop)(z:Nat)(R:List HV->α->Prop)(v:HV)(xs:List α):Prop:=xs=[]/\(v= .cM\/v= .gz\/v= .lV)\/∃b o y,(v= .sl b o xs.length/\y.z=z)/\Z b/\hp.ap b=some (.cp y)/\o+xs.length*z<=y.n/\xs.length<=140737488355328/\∀i x,xs[i]?=some x->∃a,cF y (o+i*z) z=some a/\R a x
theorem nN{R Q:List HV->α->Prop}(h:∀c x,R c x->Q c x):∀{cs:List HV}{xs:List α},nO R cs xs->nO Q cs xs|_,[],g=>g|_,x::xs,⟨c,d,e,a,b⟩=>⟨c,d,e,h _ _ a,nN h b⟩
theorem Ob{hp hp':Tr Hm.Obj}{Z a:Nat->Prop}{z:Nat}{R Q:List HV->α->Prop}{v:HV}{xs:List α}(p:∀b,Z b->a b)(hh:∀b,Z b->hp'.ap b=hp.ap b)(h:∀c x,R c x->Q c x)(g:Oc hp Z z R v xs):Oc hp' a z Q v xs:=by
 rcases g with g|⟨b,o,y,f,d,j,k,l,m⟩;.exact .inl g
 .refine .inr ⟨b,o,y,f,p b d,by rw[hh b d];exact j,k,l,λi x n=>?_⟩;obtain⟨e,q,r⟩:=m i x n;exact⟨e,q,h _ _ r⟩
end
def dY(hp:Tr Hm.Obj)(Z:Nat->Prop):(u:U)->List HV->D u->Prop| .int k,f,x=>f=[.int k x]| .bool,f,x=>f=[.bool x]| .ef,f,x=>f=[.ef x]| .un,f,_=>f=[]| .nil,f,_=>f=[.cM]| .ai a b,f,x=>∃c d,f=c++d/\dY hp Z a c x.1/\dY hp Z b d x.2| .im n e,f,g=>g.length=n/\nO (dY hp Z e) f g| .bw e,f,g=>∃v,f=[v]/\Oc hp Z e.size (dY hp Z e) v g
theorem dY.mono{hp hp':Tr Hm.Obj}{Z j:Nat->Prop}(i:∀b,Z b->j b)(hh:∀b,Z b->hp'.ap b=hp.ap b):∀{u:U}{cs:List HV}{x:D u},dY hp Z u cs x->dY hp' j u cs x| .int _,_,_,h=>h| .bool,_,_,h=>h| .ef,_,_,h=>h| .un,_,_,h=>h| .nil,_,_,h=>h| .ai a b,_,_,⟨c,d,e,f,g⟩=>⟨c,d,e,f.mono i hh,g.mono i hh⟩| .im n e,_,_,⟨f,g⟩=>⟨f,nN (λ_ _ h=>h.mono i hh) g⟩| .bw e,_,_,⟨v,f,g⟩=>⟨v,f,Ob i hh (λ_ _ h=>h.mono i hh) g⟩
theorem nk{α:Type}{R:List HV->α->Prop}{z:Nat}(h:∀c x,R c x->c.length=z):∀{cs:List HV}{xs:List α},nO R cs xs->cs.length=xs.length*z
 |_,[],g=>by cases g;simp
 |_,x::xs,⟨c,d,e,a,b⟩=>by subst e;have:=nk h b;simp only[ax,h c x a,this,bp,fY];omega
theorem dY.len{hp:Tr Hm.Obj}{Z:Nat->Prop}:∀{u:U}{cs:List HV}{x:D u},dY hp Z u cs x->cs.length=u.size
 | .int _,_,_,h=>by cases h;rfl
 | .bool,_,_,h=>by cases h;rfl
 | .ef,_,_,h=>by cases h;rfl
 | .un,_,_,h=>by cases h;rfl
 | .nil,_,_,h=>by cases h;rfl
 | .ai a b,_,_,⟨c,d,e,f,g⟩=>by subst e;rw[ax,f.len,g.len];rfl
 | .im n e,_,_,⟨f,g⟩=>by rw[nk (λ_ _ h=>h.len) g,f];rfl
 | .bw e,_,_,⟨v,f,g⟩=>by subst f;rfl
def tT(hp:Tr Hm.Obj)(Z:Nat->Prop)(u:U)(v:HV)(x:D u):Prop:=bif u.ag then∃a,v= .agg a/\dY hp Z u a x else dY hp Z u [v] x
def fO(o:Option Nat)(n:Nat)(v:HV):Prop:=match o with|some b=>v= .sl b 0 n|none=>n=0/\(v= .cM\/v= .gz)
def iv(a:Bool)(C:List HV->Prop)(v:HV):Prop:=bif a then∃b,v= .agg b/\C b else C [v]
mutual def CR(E:En):SV->List HV->Prop| .any,cs=>∃v,cs=[v]| .undef,cs=>cs=[.undef]| .int _ k x,cs=>cs=[.int k x]| .bool _ b,cs=>cs=[.bool b]| .val u x,cs=>dY E.hp E.Z u cs x| .agg is,cs=>du E is cs| .mx vs,cs=>∃l,cs=[.mx l]/\Vs E vs l| .fn f caps,cs=>∃l,cs=[.fn f l]/\Vs E caps l| .rc,cs=>cs=[.rc]| .cM,cs=>cs=[.cM]| .gz,cs=>cs=[.cM]\/cs=[.gz]| .rf,cs=>cs=[.rf]| .box m o,cs=>m<E.nx/\∃b,E.mb m=some b/\cs=[.ptr b o]| .rt m o n,cs=>m<E.nx/\∃b,E.mb m=some b/\cs=[.sl b o n]/\n<=4000| .row m,cs=>m<E.nx/\∃v,cs=[v]/\iP v=some [v]/\(∀e xs,E.st.ap m=some (.row e xs)->fO (E.mb m) xs.length v)/\∀t k,E.st.ap m=some t->t.rn=some k->fO (E.mb m) k v| .oU m i o,cs=>m<E.nx/\∃v,cs=[v]/\iP v=some [v]/\(∀e xs,E.st.ap m=some (.row e xs)->∃b j,E.mb m=some b/\i=Int.ofNat j/\j<xs.length/\v= .ptr b (j*e.size+o))/\∀t k,E.st.ap m=some t->t.rn=some k->∃b j,E.mb m=some b/\i=Int.ofNat j/\j<k/\v= .ptr b (j+o)| .rX u x,cs=>∃b o y ds,cs=[.ptr b o]/\E.Z b/\E.hp.ap b=some (.cp y)/\cF y o u.size=some ds/\dY E.hp E.Z u ds x| .uE m o n u j p,cs=>m<E.nx/\∃b k,E.mb m=some b/\j=Int.ofNat k/\k<n/\cs=[.ptr b (o+k*u.size+p)]| .sub m g j,cs=>m<E.nx/\g<E.nx/\∃v,cs=[v]/\iP v=some [v]/\∀e xs,E.st.ap m=some (.rows g e xs)->∃k l,j=Int.ofNat k/\xs[k]?=some l/\fO (E.ib m k) l.length v| .map m,cs=>m<E.nx/\∃b,E.mb m=some b/\cs=[.map b]| .jh m o n,cs=>m<E.nx/\∃b,E.mb m=some b/\cs=[.jh b o n]| .vw m q,cs=>m<E.nx/\∃v,cs=[v]/\iP v=some [v]/\∀e xs,E.st.ap m=some (.row e xs)->∃k,q=Int.ofNat k/\k<=xs.length/\fO (E.mb m) k v def du(E:En):List SV->List HV->Prop|[],cs=>cs=[]|i::is,cs=>∃c d,cs=c++d/\CR E i c/\du E is d def Vs(E:En):List SV->List HV->Prop|[],l=>l=[]|s::ss,l=>∃v r,l=v::r/\iv s.ag (CR E s) v/\Vs E ss r end
def V(E:En)(s:SV)(v:HV):Prop:=iv s.ag (CR E s) v
mutual theorem CR.len{E:En}:∀{s:SV}{cs:List HV},CR E s cs->cs.length=s.w
 | .any,_,h=>by unfold CR at h;obtain⟨v,rfl⟩:=h;rfl
 | .undef,_,h=>by unfold CR at h;subst h;rfl
 | .int _ _ _,_,h=>by unfold CR at h;subst h;rfl
 | .bool _ _,_,h=>by unfold CR at h;subst h;rfl
 | .val u x,_,h=>by unfold CR at h;rw[h.len];rfl
 | .agg is,_,h=>by unfold CR at h;exact du.len h
 | .mx _,_,h=>by unfold CR at h;obtain⟨l,rfl,_⟩:=h;rfl
 | .fn _ _,_,h=>by unfold CR at h;obtain⟨l,rfl,_⟩:=h;rfl
 | .rc,_,h=>by unfold CR at h;subst h;rfl
 | .cM,_,h=>by unfold CR at h;subst h;rfl
 | .gz,_,h=>by unfold CR at h;rcases h with rfl|rfl<;>rfl
 | .rf,_,h=>by unfold CR at h;subst h;rfl
 | .box _ _,_,h=>by unfold CR at h;obtain⟨_,b,_,rfl⟩:=h;rfl
 | .rt _ _ _,_,h=>by unfold CR at h;obtain⟨_,b,_,rfl,_⟩:=h;rfl
 | .row _,_,h=>by unfold CR at h;obtain⟨_,b,rfl,_⟩:=h;rfl
 | .oU _ _ _,_,h=>by unfold CR at h;obtain⟨_,b,rfl,_⟩:=h;rfl
 | .rX _ _,_,h=>by unfold CR at h;obtain⟨b,o,y,ds,rfl,_⟩:=h;rfl
 | .uE _ _ _ _ _ _,_,h=>by unfold CR at h;obtain⟨_,b,k,_,_,_,rfl⟩:=h;rfl
 | .sub _ _ _,_,h=>by unfold CR at h;obtain⟨_,_,v,rfl,_⟩:=h;rfl
 | .map _,_,h=>by unfold CR at h;obtain⟨_,b,_,rfl⟩:=h;rfl
 | .jh _ _ _,_,h=>by unfold CR at h;obtain⟨_,b,_,rfl⟩:=h;rfl
 | .vw _ _,_,h=>by unfold CR at h;obtain⟨_,b,rfl,_⟩:=h;rfl theorem du.len{E:En}:∀{is:List SV}{cs:List HV},du E is cs->cs.length=ws is
 |[],_,h=>by unfold du at h;subst h;rfl
 |i::is,_,h=>by unfold du at h;obtain⟨c,d,rfl,h1,h2⟩:=h;rw[ax,h1.len,du.len h2];rfl end
theorem ou{E:En}:∀{f b:List SV}{cs:List HV},du E (f++b) cs↔∃c d,cs=c++d∧du E f c∧du E b d
 |[],b,cs=>by
  constructor;·intro h;exact⟨[],cs,rfl,by unfold du;rfl,h⟩
  ·rintro⟨c,d,rfl,a,e⟩;unfold du at a;subst a;exact e
 |i::f,b,cs=>by
  constructor;·intro h;have h:du E (i::(f++b)) cs:=h;unfold du at h;obtain⟨c,d,rfl,a,e⟩:=h;obtain⟨k,n,rfl,g,j⟩:=ou.1 e;exact⟨c++k,n,by simp,by unfold du;exact⟨c,k,rfl,a,g⟩,j⟩
  ·rintro⟨c,d,rfl,a,e⟩;unfold du at a;obtain⟨m,l,rfl,g,j⟩:=a;show du E (i::(f++b)) _;unfold du;exact⟨m,l++d,by simp,g,ou.2 ⟨l,d,rfl,j,e⟩⟩
theorem dT{E:En}{i:SV}{cs:List HV}:du E [i] cs↔CR E i cs:=by
 constructor;·intro h;unfold du at h;obtain⟨c,d,rfl,b,a⟩:=h;unfold du at a;subst a;simpa using b
 ·intro h;unfold du;exact⟨cs,[],by simp,h,by unfold du;rfl⟩
theorem mE{E:En}:∀{u:U}{cs:List HV}{x:D u},CR E (mk u x) cs↔dY E.hp E.Z u cs x
 | .int _,_,_=>by unfold mk CR;exact mg
 | .bool,_,_=>by unfold mk CR;exact mg
 | .ef,_,_=>by unfold mk CR;exact mg
 | .bw _,_,_=>by unfold mk CR;exact mg
 | .un,_,_=>by unfold mk CR;exact mg
 | .nil,_,_=>by unfold mk CR;exact mg
 | .ai _ _,_,_=>by unfold mk CR;exact mg
 | .im _ _,_,_=>by unfold mk CR;exact mg
theorem Xf:∀{u:U}{x:D u},(mk u x).ag=u.ag| .int _,_=>rfl| .bool,_=>rfl| .ef,_=>rfl| .bw _,_=>rfl| .un,_=>rfl| .nil,_=>rfl| .ai _ _,_=>rfl| .im _ _,_=>rfl
theorem Vq{E:En}{u:U}{v:HV}{x:D u}:V E (mk u x) v↔tT E.hp E.Z u v x:=by
 unfold V tT iv;rw[Xf];cases u.ag;·exact mE
 ·
  constructor;·rintro⟨a,b,c⟩;exact⟨a,b,mE.1 c⟩
  ·rintro⟨a,b,c⟩;exact⟨a,b,mE.2 c⟩
theorem Bj{E:En}{e:U}{xs:List (D e)}:∀{n i:Nat}{cs:List HV},i+n=xs.length->nO (dY E.hp E.Z e) cs (xs.drop i)->du E (elems e xs i n) cs
 |0,i,cs,g,h=>by have:xs.drop i=[]:=ed (by omega);rw[this]at h;unfold nO at h;subst h;unfold elems du;rfl
 |n+1,i,cs,g,h=>by
  have a:i<xs.length:=by omega
  rw[d8 a]at h;unfold nO at h;obtain⟨c,d,rfl,b,f⟩:=h;unfold elems du;refine⟨c,d,rfl,?_,Bj (i:=i+1) (by omega) f⟩;unfold bs;rw[G a];exact mE.2 b
theorem vt{E:En}{s:SV}{ps:List SV}{cs:List HV}(h:s.split=some ps)(f:CR E s cs):du E ps cs:=by
 unfold SV.split at h;split at h;.cases h;unfold CR at f;exact f
 .rename_i a b x;cases h;unfold CR at f;obtain⟨c,d,rfl,i,g⟩:=f;unfold du;exact⟨c,d,rfl,mE.2 i,dT.2 (mE.2 g)⟩
 .cases h;unfold CR at f;unfold du;exact f
 .rename_i n e j;cases h;unfold CR at f;obtain⟨i,g⟩:=f;exact Bj (i:=0) (by omega) (by simpa using g)
 .cases h
theorem pc{E:En}:∀{f:Nat}{g a b:List SV}{o:Nat}{cs:List HV},qm f g o=some (a,b)->du E g cs->∃c d,cs=c++d/\c.length=o/\du E a c/\du E b d:=by
 intro f
 induction f with
  |zero=>
  intro g a b o cs h e;unfold qm at h;rw[aH]at h;split at h
  .
   rename_i j;cases h;have:o=0:=by simpa using j
   subst this;exact⟨[],cs,rfl,rfl,by unfold du;rfl,e⟩
  .cases h
  |succ f p=>
  intro g a b o cs h e;unfold qm at h;rw[aH]at h;split at h
  .
   rename_i j;cases h;have:o=0:=by simpa using j
   subst this;exact⟨[],cs,rfl,rfl,by unfold du;rfl,e⟩
  .
   split at h;.cases h
   .
    rename_i i g;rw[aH]at h;unfold du at e;obtain⟨c,d,rfl,k,m⟩:=e;split at h
    .
     rename_i n;have n:i.w<=o:=by simpa using n
     split at h
     .
      rename_i w x u;cases h;obtain⟨l,q,rfl,r,s,t⟩:=p u m;refine⟨c++l,q,by simp,?_,?_,t⟩;.rw[ax,r,k.len];show i.w+(o-i.w)=o;omega
      .unfold du;exact⟨c,l,rfl,k,s⟩
     .cases h
    .
     split at h;.rename_i y v;exact p h (ou.2 ⟨c,d,rfl,vt v k,m⟩)
     .cases h
theorem F0{E:En}:∀{f:Nat}{s:SV}{cs:List HV},CR E s cs->CR E (vr f s) cs
 |0,_,_,h=>h
 |f+1,s,cs,h=>by
  unfold vr;split;.rename_i a x;unfold CR dY at h;obtain⟨c,d,rfl,e,b⟩:=h;unfold dY at b;subst b;rw[bf];exact F0 (mE.2 e)
  .exact h
theorem MU{E:En}{a:List SV}{cs:List HV}(h:du E a cs):du E (OH a) cs:=by
 unfold OH;split;.exact dT.2 (F0 (dT.1 h))
 .exact h
theorem mN{E:En}{e c:List SV}{o z:Nat}{cs:List HV}(h:uU e o z=some c)(m:du E e cs):∃c1 c2 c3,cs=c1++(c2++c3)/\c1.length=o/\c2.length=z/\du E c c2:=by
 unfold uU at h;split at h
 .
  rename_i a b k;split at h;.rename_i n d l;cases h;obtain⟨c1,x,rfl,f,p,g⟩:=pc k m;obtain⟨c2,c3,rfl,i,j,q⟩:=pc l g;exact⟨c1,c2,c3,rfl,f,i,MU j⟩
  .cases h
 .cases h
theorem q8{E:En}{e f g:List SV}{o z:Nat}{cs c:List HV}(h:we e o z f=some g)(r:du E e cs)(q:du E f c):∃c1 c2 c3,cs=c1++(c2++c3)/\c1.length=o/\c2.length=z/\du E g (c1++(c++c3)):=by
 unfold we at h;split at h
 .
  rename_i a b n;split at h;.rename_i s d p;cases h;obtain⟨c1,x,rfl,i,j,k⟩:=pc n r;obtain⟨c2,c3,rfl,l,t,m⟩:=pc p k;exact⟨c1,c2,c3,rfl,i,l,ou.2 ⟨c1,c++c3,rfl,j,ou.2 ⟨c,c3,rfl,q,m⟩⟩⟩
  .cases h
 .cases h
theorem li{E:En}{s:SV}{g:List SV}{v:HV}(h:s.qz=some g)(c:V E s v):∃cs,iP v=some cs/\du E g cs/\(s.ag=true->v= .agg cs)/\(s.ag=false->cs=[v]):=by
 unfold V iv at c
 cases s with
  |any=>cases h
  |undef=>cases h
  |mx _=>cases h
  |agg m=>cases h;obtain⟨cs,rfl,a⟩:=c;unfold CR at a;exact⟨cs,rfl,a,λ_=>rfl,λh=>by cases h⟩
  |val u x=>
  cases h;have j:(SV.val u x).ag=u.ag:=rfl;rw[j]at c⊢
  cases f:u.ag with
   |true=>rw[f]at c;obtain⟨cs,rfl,a⟩:=c;exact⟨cs,rfl,dT.2 a,λ_=>rfl,λh=>by cases h⟩
   |false=>
   rw[f]at c;have c:CR E (SV.val u x) [v]:=c;refine⟨[v],?_,dT.2 c,λh=>(by cases h),λ_=>rfl⟩;unfold CR at c
   cases u with
    |int _=>unfold dY at c;cases c;rfl
    |bool=>unfold dY at c;cases c;rfl
    |ef=>unfold dY at c;cases c;rfl
    |un=>cases f
    |nil=>unfold dY at c;cases c;rfl
    |ai _ _=>cases f
    |im _ _=>cases f
    |bw e=>
    unfold dY at c;obtain⟨w,i,a⟩:=c;cases i;rcases a with⟨_,h|h|h⟩|⟨b,o,y,h,_⟩;.subst h;rfl
    .subst h;rfl
    .subst h;rfl
    .obtain⟨h,_⟩:=h;subst h;rfl
  |int _ _ _=>cases h;have a:CR E _ [v]:=c;refine⟨[v],?_,dT.2 a,λh=>(by cases h),λ_=>rfl⟩;unfold CR at a;cases a;rfl
  |bool _ _=>cases h;have a:CR E _ [v]:=c;refine⟨[v],?_,dT.2 a,λh=>(by cases h),λ_=>rfl⟩;unfold CR at a;cases a;rfl
  |rc=>cases h;have a:CR E _ [v]:=c;refine⟨[v],?_,dT.2 a,λh=>(by cases h),λ_=>rfl⟩;unfold CR at a;cases a;rfl
  |cM=>cases h;have a:CR E _ [v]:=c;refine⟨[v],?_,dT.2 a,λh=>(by cases h),λ_=>rfl⟩;unfold CR at a;cases a;rfl
  |rf=>cases h;have a:CR E _ [v]:=c;refine⟨[v],?_,dT.2 a,λh=>(by cases h),λ_=>rfl⟩;unfold CR at a;cases a;rfl
  |gz=>cases h;have a:CR E _ [v]:=c;refine⟨[v],?_,dT.2 a,λh=>(by cases h),λ_=>rfl⟩;unfold CR at a;rcases a with a|a<;>cases a<;>rfl
  |fn _ _=>cases h;have a:CR E _ [v]:=c;refine⟨[v],?_,dT.2 a,λh=>(by cases h),λ_=>rfl⟩;unfold CR at a;obtain⟨l,a,_⟩:=a;cases a;rfl
  |box _ _=>cases h;have a:CR E _ [v]:=c;refine⟨[v],?_,dT.2 a,λh=>(by cases h),λ_=>rfl⟩;unfold CR at a;obtain⟨_,l,_,a⟩:=a;cases a;rfl
  |rt _ _ _=>cases h;have a:CR E _ [v]:=c;refine⟨[v],?_,dT.2 a,λh=>(by cases h),λ_=>rfl⟩;unfold CR at a;obtain⟨_,l,_,a,_⟩:=a;cases a;rfl
  |rX _ _=>cases h;have a:CR E _ [v]:=c;refine⟨[v],?_,dT.2 a,λh=>(by cases h),λ_=>rfl⟩;unfold CR at a;obtain⟨_,_,_,_,a,_⟩:=a;cases a;rfl
  |row _=>cases h;have a:CR E _ [v]:=c;refine⟨[v],?_,dT.2 a,λh=>(by cases h),λ_=>rfl⟩;unfold CR at a;obtain⟨_,l,a,d,_⟩:=a;cases a;exact d
  |oU _ _ _=>cases h;have a:CR E _ [v]:=c;refine⟨[v],?_,dT.2 a,λh=>(by cases h),λ_=>rfl⟩;unfold CR at a;obtain⟨_,l,a,d,_⟩:=a;cases a;exact d
  |uE _ _ _ _ _ _=>cases h;have a:CR E _ [v]:=c;refine⟨[v],?_,dT.2 a,λh=>(by cases h),λ_=>rfl⟩;unfold CR at a;obtain⟨_,b,k,_,_,_,a⟩:=a;cases a;rfl
  |sub _ _ _=>cases h;have a:CR E _ [v]:=c;refine⟨[v],?_,dT.2 a,λh=>(by cases h),λ_=>rfl⟩;unfold CR at a;obtain⟨_,_,l,a,d,_⟩:=a;cases a;exact d
  |map _=>cases h;have a:CR E _ [v]:=c;refine⟨[v],?_,dT.2 a,λh=>(by cases h),λ_=>rfl⟩;unfold CR at a;obtain⟨_,l,_,a⟩:=a;cases a;rfl
  |jh _ _ _=>cases h;have a:CR E _ [v]:=c;refine⟨[v],?_,dT.2 a,λh=>(by cases h),λ_=>rfl⟩;unfold CR at a;obtain⟨_,l,_,a⟩:=a;cases a;rfl
  |vw _ _=>cases h;have a:CR E _ [v]:=c;refine⟨[v],?_,dT.2 a,λh=>(by cases h),λ_=>rfl⟩;unfold CR at a;obtain⟨_,l,a,d,_⟩:=a;cases a;exact d
def gb{e:U}(b xs:List (List (D e))):Prop:=∀(k:Nat)(l:List (D e)),b[k]?=some l->∃a:List (D e),xs[k]?=some a/\a.length=l.length
theorem gb.refl{e:U}{xs:List (List (D e))}:gb xs xs:=λ_ l h=>⟨l,h,rfl⟩
structure Fm (n : Nat) (E E' : En) : Prop where
  z : ∀ b, E.Z b → E'.Z b
  h : ∀ b, E.Z b → E'.hp.ap b = E.hp.ap b
  nx : n ≤ E'.nx
  mb : ∀ m, m < n → E'.mb m = E.mb m
  row : ∀ m e xs, m < n → E'.st.ap m = some (.row e xs) → ∃ xs', E.st.ap m = some (.row e xs') ∧ xs'.length = xs.length
  y6 : ∀ m t k, m < n → E'.st.ap m = some t → t.rn = some k → ∃ t', E.st.ap m = some t' ∧ t'.rn = some k
  Ai : ∀ m g e xs, m < n → g < n → E'.st.ap m = some (.rows g e xs) → ∃ xs', E.st.ap m = some (.rows g e xs') ∧ gb xs' xs ∧ ∀ k, E'.ib m k = E.ib m k
theorem AV{a:Bool}{C b:List HV->Prop}{v:HV}(h:∀c,C c->b c)(g:iv a C v):iv a b v:=by
 unfold iv at*;cases a;.exact h _ g
 .obtain⟨d,e,f⟩:=g;exact⟨d,e,h _ f⟩
mutual theorem CR.fm{n:Nat}{E E':En}(f:Fm n E E'):∀{s:SV}{cs:List HV},n=E.nx\/kb n s=true->CR E s cs->CR E' s cs
 | .any,_,_,h=>by unfold CR at*;exact h
 | .undef,_,_,h=>by unfold CR at*;exact h
 | .int _ _ _,_,_,h=>by unfold CR at*;exact h
 | .bool _ _,_,_,h=>by unfold CR at*;exact h
 | .val u x,_,_,h=>by unfold CR at*;exact h.mono f.z f.h
 | .agg is,_,l,h=>by unfold CR at*;exact du.fm f (l.imp_right λg=>by unfold kb at g;exact g) h
 | .mx vs,_,l,h=>by unfold CR at*;obtain⟨r,h1,h2⟩:=h;exact⟨r,h1,Vs.fm f (l.imp_right λg=>by unfold kb at g;exact g) h2⟩
 | .fn g vs,_,l,h=>by unfold CR at*;obtain⟨r,h1,h2⟩:=h;exact⟨r,h1,Vs.fm f (l.imp_right λg=>by unfold kb at g;exact g) h2⟩
 | .rc,_,_,h=>by unfold CR at*;exact h
 | .cM,_,_,h=>by unfold CR at*;exact h
 | .gz,_,_,h=>by unfold CR at*;exact h
 | .rf,_,_,h=>by unfold CR at*;exact h
 | .box m o,_,l,h=>by
  unfold CR at*;obtain⟨h1,b,h2,h3⟩:=h
  have hm:m<n:=by
   rcases l with rfl|l;.exact h1
   .unfold kb at l;simpa using l
  exact⟨aP hm f.nx,b,by rw[f.mb m hm];exact h2,h3⟩
 | .rt m o k,_,l,h=>by
  unfold CR at*;obtain⟨h1,b,h2,h3⟩:=h
  have hm:m<n:=by
   rcases l with rfl|l;.exact h1
   .unfold kb at l;simpa using l
  exact⟨aP hm f.nx,b,by rw[f.mb m hm];exact h2,h3⟩
 | .row m,_,l,h=>by
  unfold CR at*;obtain⟨h1,v,h2,h3,h4⟩:=h
  have hm:m<n:=by
   rcases l with rfl|l;.exact h1
   .unfold kb at l;simpa using l
  refine⟨aP hm f.nx,v,h2,h3,λe xs hx=>?_,λt k hx hk=>?_⟩;.obtain⟨xs',g1,g2⟩:=f.row m e xs hm hx;rw[f.mb m hm,<-g2];exact h4.1 e xs' g1
  .obtain⟨t',g1,g2⟩:=f.y6 m t k hm hx hk;rw[f.mb m hm];exact h4.2 t' k g1 g2
 | .oU m i o,_,l,h=>by
  unfold CR at*;obtain⟨h1,v,h2,h3,h4⟩:=h
  have hm:m<n:=by
   rcases l with rfl|l;.exact h1
   .unfold kb at l;simpa using l
  refine⟨aP hm f.nx,v,h2,h3,λe xs hx=>?_,λt k hx hk=>?_⟩;.obtain⟨xs',g1,g2⟩:=f.row m e xs hm hx;rw[f.mb m hm,<-g2];exact h4.1 e xs' g1
  .obtain⟨t',g1,g2⟩:=f.y6 m t k hm hx hk;rw[f.mb m hm];exact h4.2 t' k g1 g2
 | .uE m o n' u j p,_,l,h=>by
  unfold CR at*;obtain⟨h1,b,k,h2,h3⟩:=h
  have hm:m<n:=by
   rcases l with rfl|l;.exact h1
   .unfold kb at l;simpa using l
  exact⟨aP hm f.nx,b,k,by rw[f.mb m hm];exact h2,h3⟩
 | .map m,_,l,h=>by
  unfold CR at*;obtain⟨h1,b,h2,h3⟩:=h
  have hm:m<n:=by
   rcases l with rfl|l;.exact h1
   .unfold kb at l;simpa using l
  exact⟨aP hm f.nx,b,by rw[f.mb m hm];exact h2,h3⟩
 | .jh m o k,_,l,h=>by
  unfold CR at*;obtain⟨h1,b,h2,h3⟩:=h
  have hm:m<n:=by
   rcases l with rfl|l;.exact h1
   .unfold kb at l;simpa using l
  exact⟨aP hm f.nx,b,by rw[f.mb m hm];exact h2,h3⟩
 | .vw m q,_,l,h=>by
  unfold CR at*;obtain⟨h1,v,h2,h3,h4⟩:=h
  have hm:m<n:=by
   rcases l with rfl|l;.exact h1
   .unfold kb at l;simpa using l
  refine⟨aP hm f.nx,v,h2,h3,λe xs hx=>?_⟩;obtain⟨xs',g1,g2⟩:=f.row m e xs hm hx;rw[f.mb m hm,<-g2];exact h4 e xs' g1
 | .sub m g j,_,l,h=>by
  unfold CR at*;obtain⟨h1,h0,v,h2,h3,h4⟩:=h
  have hm:m<n/\g<n:=by
   rcases l with rfl|l;.exact⟨h1,h0⟩
   .unfold kb at l;rw[ae]at l;exact⟨by simpa using l.1,by simpa using l.2⟩
  refine⟨aP hm.1 f.nx,aP hm.2 f.nx,v,h2,h3,λe xs hx=>?_⟩;obtain⟨xs',g1,g2,g3⟩:=f.Ai m g e xs hm.1 hm.2 hx;obtain⟨k,l0,k1,k2,k3⟩:=h4 e xs' g1;obtain⟨l',q1,q2⟩:=g2 k l0 k2;exact⟨k,l',k1,q1,by rw[g3 k,q2];exact k3⟩
 | .rX u x,_,_,h=>by unfold CR at*;obtain⟨b,o,y,ds,h1,h2,h3,h4,h5⟩:=h;exact⟨b,o,y,ds,h1,f.z b h2,by rw[f.h b h2];exact h3,h4,h5.mono f.z f.h⟩theorem du.fm{n:Nat}{E E':En}(f:Fm n E E'):∀{is:List SV}{cs:List HV},n=E.nx\/oJ n is=true->du E is cs->du E' is cs
 |[],_,_,h=>by unfold du at*;exact h
 |i::is,_,l,h=>by unfold du at*;obtain⟨c,d,h1,h2,h3⟩:=h;exact⟨c,d,h1,CR.fm f (l.imp_right λg=>by unfold oJ at g;simp only[ae]at g;exact g.1) h2,du.fm f (l.imp_right λg=>by unfold oJ at g;simp only[ae]at g;exact g.2) h3⟩theorem Vs.fm{n:Nat}{E E':En}(f:Fm n E E'):∀{is:List SV}{l:List HV},n=E.nx\/oJ n is=true->Vs E is l->Vs E' is l
 |[],_,_,h=>by unfold Vs at*;exact h
 |i::is,_,l,h=>by unfold Vs at*;obtain⟨c,d,h1,h2,h3⟩:=h;exact⟨c,d,h1,AV (λ_=>CR.fm f (l.imp_right λg=>by unfold oJ at g;simp only[ae]at g;exact g.1)) h2,Vs.fm f (l.imp_right λg=>by unfold oJ at g;simp only[ae]at g;exact g.2) h3⟩end
theorem V.fm{n:Nat}{E E':En}(f:Fm n E E'){s:SV}{v:HV}(l:n=E.nx\/kb n s=true)(h:V E s v):V E' s v:=AV (λ_=>CR.fm f l) h
def gx(E:En)(o:Option Nat)(e:U)(xs:List (D e)):Prop:=match o with|none=>xs=[]|some b=>∃y,E.hp.ap b=some (.cp y)/\y.own=true/\y.z=e.size/\xs.length*e.size<=y.n/\∀i x,xs[i]?=some x->∃a,cF y (i*e.size) e.size=some a/\dY E.hp E.Z e a x
def Bk(E:En)(m b:Nat):Prop:=E.mb m=some b\/∃i,E.ib m i=some b
def yf(E:En)(m:Nat)(e:U)(xs:List (List (D e))):Prop:=∃b y,E.mb m=some b/\E.hp.ap b=some (.cp y)/\y.own=true/\y.z=1/\xs.length<=y.n/\(∀i l,xs[i]?=some l->l.length<=140737488355328/\(∃v,cF y i 1=some [v]/\fO (E.ib m i) l.length v)/\gx E (E.ib m i) e l)/\(∀i,xs.length<=i->E.ib m i=none)/\(∀i j c,E.ib m i=some c->E.ib m j=some c->i=j)/\∀i,E.ib m i≠some b
def Kk(E:En)(m:Nat)(e:U)(xs:List (List (D e)))(j:Nat):Prop:=∃b y,E.mb m=some b/\E.hp.ap b=some (.cp y)/\y.own=true/\y.z=1/\xs.length<=y.n/\(∀i l,i≠j->xs[i]?=some l->l.length<=140737488355328/\(∃v,cF y i 1=some [v]/\fO (E.ib m i) l.length v)/\gx E (E.ib m i) e l)/\(∀i,xs.length<=i->E.ib m i=none)/\(∀i j c,E.ib m i=some c->E.ib m j=some c->i=j)/\∀i,E.ib m i≠some b
def BJ(E:En)(m:Nat)(e:U)(xs:List (List (D e))):Prop:=(E.mb m=none/\xs=[]/\∀i,E.ib m i=none)\/yf E m e xs
theorem BJ.b{E:En}{m b:Nat}{e:U}{xs:List (List (D e))}(h:BJ E m e xs)(a:E.mb m=some b):yf E m e xs:=by
 rcases h with⟨h,_⟩|h;.rw[h]at a;cases a
 .exact h
theorem BJ.p{E:En}{m j:Nat}{e:U}{xs:List (List (D e))}(h:BJ E m e xs)(a:j<xs.length):yf E m e xs:=by
 rcases h with⟨_,h,_⟩|h;.rw[h]at a;cases a
 .exact h
theorem yf.w{E:En}{m:Nat}{e:U}{xs:List (List (D e))}(j:Nat)(h:yf E m e xs):Kk E m e xs j:=by obtain⟨b,y,a,c,d,f,g,k,n⟩:=h;exact⟨b,y,a,c,d,f,g,λi l _ o=>k i l o,n⟩
def AO(a:List (Int×Bool×Unit)):List (HV×HV):=a.map λp=>(.int .i64 p.1,.bool p.2.1)
def oN(E:En)(m:Nat):iK->Prop| .box z d=>∃b y c,E.mb m=some b/\E.hp.ap b=some (.cp y)/\y.own=true/\y.z=z/\cF y 0 y.n=some c/\du E d c| .row e a=>a.length<=140737488355328/\gx E (E.mb m) e a| .rows g e a=>g<E.nx/\a.length<=140737488355328/\BJ E m e a| .mM e a k=>a.length<=140737488355328/\∃j,k=Int.ofNat j/\j<a.length/\E.ib m j=none/\Kk E m e a j| .map f=>∃b,E.mb m=some b/\E.hp.ap b=some (.map (AO f))
theorem gx.fm{E E':En}(m:∀b,E.Z b->E'.Z b)(hh:∀b,E.Z b->E'.hp.ap b=E.hp.ap b){o:Option Nat}{e:U}{xs:List (D e)}(k:∀b,o=some b->E'.hp.ap b=E.hp.ap b)(h:gx E o e xs):gx E' o e xs:=by unfold gx at*;cases o with
 |none=>exact h
 |some b=>obtain⟨y,c,d,f,g,j⟩:=h;refine⟨y,by rw[k b rfl];exact c,d,f,g,λi x l=>?_⟩;obtain⟨a,n,p⟩:=j i x l;exact⟨a,n,p.mono m hh⟩
theorem oN.fm{E E':En}(f:Fm E.nx E E'){m:Nat}{t:iK}(r:E'.mb m=E.mb m)(hi:∀k,E'.ib m k=E.ib m k)(p:∀b,Bk E m b->E'.hp.ap b=E.hp.ap b)(h:oN E m t):oN E' m t:=by
 cases t with
  |box z n0=>obtain⟨b,y,s0,a,o,y0,x0,r0,q0⟩:=h;exact⟨b,y,s0,by rw[r];exact a,by rw[p b (.inl a)];exact o,y0,x0,r0,du.fm f (.inl rfl) q0⟩
  |row e t0=>obtain⟨a,o⟩:=h;refine⟨a,?_⟩;rw[r];exact o.fm f.z f.h λb o0=>p b (.inl o0)
  |rows g e t0=>
  obtain⟨u0,a,⟨d,n,u⟩|⟨b,y,s,v,w,x,A,B,C,D,z0⟩⟩:=h;.exact⟨aP u0 f.nx,a,.inl ⟨by rw[r];exact d,n,λi=>by rw[hi];exact u i⟩⟩
  refine⟨aP u0 f.nx,a,.inr ⟨b,y,by rw[r];exact s,by rw[p b (.inl s)];exact v,w,x,A,λi l v0=>?_,λi k=>by rw[hi];exact C i k,λi j c d n=>?_,λi=>by rw[hi];exact z0 i⟩⟩;.obtain⟨d,n,u⟩:=B i l v0;refine⟨d,by rw[hi];exact n,?_⟩;rw[hi];exact u.fm f.z f.h λc w0=>p c (.inr ⟨i,w0⟩)
  .rw[hi]at d n;exact D i j c d n
  |mM e t0 q=>
  obtain⟨a,j,o,y0,x0,b,y,s,v,w,x,A,B,C,D,z0⟩:=h;refine⟨a,j,o,y0,by rw[hi];exact x0,b,y,by rw[r];exact s,by rw[p b (.inl s)];exact v,w,x,A,λi l p0 v0=>?_,λi k=>by rw[hi];exact C i k,λi j c d n=>?_,λi=>by rw[hi];exact z0 i⟩;.obtain⟨d,n,u⟩:=B i l p0 v0;refine⟨d,by rw[hi];exact n,?_⟩;rw[hi];exact u.fm f.z f.h λc w0=>p c (.inr ⟨i,w0⟩)
  .rw[hi]at d n;exact D i j c d n
  |map m0=>obtain⟨b,a,o⟩:=h;exact⟨b,by rw[r];exact a,by rw[p b (.inl a)];exact o⟩
structure dc (S : SS) (h : St) (E : En) : Prop where
  hp : E.hp = h.hp
  st : E.st = S.st
  nx : E.nx = S.nx
  lt : ∀ m e, S.st.ap m = some e → m < S.nx
  hD : ∀ m e, S.st.ap m = some e → oN E m e
  inj : ∀ m m' e e' b, S.st.ap m = some e → S.st.ap m' = some e' → Bk E m b → Bk E m' b → m = m'
  own : ∀ m e b, S.st.ap m = some e → Bk E m b → ¬ E.Z b ∧ b < h.nx
  z : ∀ b, E.Z b → b < h.nx
  fr : ∀ b, h.nx ≤ b → h.hp.ap b = none
  lk : ∀ b, bu b h.lk = true → b < h.nx ∧ ∀ m e, S.st.ap m = some e → Bk E m b → bu m S.lk = true
  rN : ∀ m b, Bk E m b → b < h.nx
  tk : ∀ m e, S.st.ap m = some e → e.rn = none → ∀ k, E.ib m k = none
structure dB (S : SS) (h : St) (E : En) : Prop where
  nt : S.nt = h.nt
  v : ∀ t, V E (S.tmp t) (h.tmp t)
def Ow(S:SS)(E:En)(b:Nat):Prop:=∃m e,S.st.ap m=some e/\Bk E m b
structure Gr (S : SS) (h : St) (E : En) (S' : SS) (h' : St) (E' : En) : Prop where
  nt : h'.nt = h.nt
  lk : h'.lk = h.lk
  df : h'.df = h.df
  Kj : S'.nt = S.nt
  FC : S'.lk = S.lk
  base : S'.base = S.base
  wr : S'.wr = S.wr
  kp : S'.kp = S.kp
  nx : h.nx ≤ h'.nx
  wX : S.nx ≤ S'.nx
  z : ∀ b, E.Z b → E'.Z b
  z' : ∀ b, E'.Z b → E.Z b ∨ Ow S E b ∨ h.nx ≤ b
  EH : ∀ b, b < h.nx → ¬ Ow S E b → h'.hp.ap b = h.hp.ap b
  ow : ∀ b, Ow S' E' b → Ow S E b ∨ h.nx ≤ b
  mb : ∀ m, m < S.nx → E'.mb m = E.mb m
  uY : ∀ m, m < S.nx → S.jU m = false → S'.st.ap m = S.st.ap m
  Hg : ∀ m, m < S.nx → S.st.ap m = none → S'.st.ap m = none
  row : ∀ m e xs, m < S.nx → S'.st.ap m = some (.row e xs) → ∃ xs', S.st.ap m = some (.row e xs') ∧ xs'.length = xs.length
  Nq : ∀ b m e, bu b h.lk = true → S'.st.ap m = some e → Bk E' m b → ∃ e0, S.st.ap m = some e0 ∧ Bk E m b
  y6 : ∀ m t k, m < S.nx → S'.st.ap m = some t → t.rn = some k → ∃ t', S.st.ap m = some t' ∧ t'.rn = some k
  Ai : ∀ m g e xs, m < S.nx → g < S.nx → S'.st.ap m = some (.rows g e xs) → ∃ xs', S.st.ap m = some (.rows g e xs') ∧ gb xs' xs ∧ ∀ k, E'.ib m k = E.ib m k
  ci : ∀ m, m < S.nx → S.jU m = false → ∀ k, E'.ib m k = E.ib m k
section
variable{S S' S'':SS}{h h' h'':St}{E E' E'':En}
theorem Gr.refl:Gr S h E S h E:=⟨rfl,rfl,rfl,rfl,rfl,rfl,rfl,rfl,au _,au _,λ_ h=>h,λ_ h=> .inl h,λ_ _ _=>rfl,λ_ h=> .inl h,λ_ _=>rfl,λ_ _ _=>rfl,λ_ _ h=>h,λ_ _ a _ h=>⟨a,h,rfl⟩,λ_ _ e _ b c=>⟨e,b,c⟩,λ_ t _ _ h d=>⟨t,h,d⟩,λ_ _ _ a _ _ h=>⟨a,h,λ_ l h=>⟨l,h,rfl⟩,λ_=>rfl⟩,λ_ _ _ _=>rfl⟩
theorem Gr.trans (a : Gr S h E S' h' E') (b : Gr S' h' E' S'' h'' E'') : Gr S h E S'' h'' E'' where
  nt := b.nt.trans a.nt
  lk := b.lk.trans a.lk
  df := b.df.trans a.df
  Kj := b.Kj.trans a.Kj
  FC := b.FC.trans a.FC
  base := b.base.trans a.base
  wr := b.wr.trans a.wr
  kp := b.kp.trans a.kp
  nx := aM a.nx b.nx
  wX := aM a.wX b.wX
  z := fun x hx => b.z x (a.z x hx)
  z' := fun x hx => by
    rcases b.z' x hx with h1 | h1 | h1
    · exact a.z' x h1
    · rcases a.ow x h1 with h2 | h2
      · exact .inr (.inl h2)
      · exact .inr (.inr h2)
    · exact .inr (.inr (aM a.nx h1))
  EH := fun x hx ho => by
    rw [b.EH x (aP hx a.nx) (fun h1 => ?_), a.EH x hx ho]
    rcases a.ow x h1 with h2 | h2
    · exact ho h2
    · omega
  ow := fun x hx => by
    rcases b.ow x hx with h1 | h1
    · exact a.ow x h1
    · exact .inr (aM a.nx h1)
  mb := fun m hm => by rw [b.mb m (aP hm a.wX), a.mb m hm]
  uY := fun m hm hc => by
    have : S'.jU m = false := by unfold SS.jU at *; rw [a.base, a.wr]; exact hc
    rw [b.uY m (aP hm a.wX) this, a.uY m hm hc]
  Hg := fun m hm hd => b.Hg m (aP hm a.wX) (a.Hg m hm hd)
  row := fun m e xs hm hx => by
    obtain ⟨xs', g1, g2⟩ := b.row m e xs (aP hm a.wX) hx
    obtain ⟨xs2, g3, g4⟩ := a.row m e xs' hm g1
    exact ⟨xs2, g3, g4.trans g2⟩
  Nq := fun x m e hx h1 h2 => by
    obtain ⟨e1, k1, k2⟩ := b.Nq x m e (by rw [a.lk]; exact hx) h1 h2
    exact a.Nq x m e1 hx k1 k2
  y6 := fun m t k hm hx hk => by
    obtain ⟨t1, q1, q2⟩ := b.y6 m t k (aP hm a.wX) hx hk
    exact a.y6 m t1 k hm q1 q2
  Ai := fun m g e xs hm hg hx => by
    obtain ⟨xs1, q1, q2, q3⟩ := b.Ai m g e xs (aP hm a.wX) (aP hg a.wX) hx
    obtain ⟨xs2, q4, q5, q6⟩ := a.Ai m g e xs1 hm hg q1
    refine ⟨xs2, q4, fun k l hl => ?_, fun k => (q3 k).trans (q6 k)⟩
    obtain ⟨l1, w1, w2⟩ := q5 k l hl
    obtain ⟨l2, w3, w4⟩ := q2 k l1 w1
    exact ⟨l2, w3, w4.trans w2⟩
  ci := fun m hm hc k => by
    have : S'.jU m = false := by unfold SS.jU at *; rw [a.base, a.wr]; exact hc
    rw [b.ci m (aP hm a.wX) this, a.ci m hm hc]
theorem Gr.zh(g:Gr S h E S' h' E')(M:dc S h E){b:Nat}(a:E.Z b):h'.hp.ap b=h.hp.ap b:=g.EH b (M.z b a) λ⟨m,e,c,d⟩=>(M.own m e b c d).1 a
theorem Gr.fm (g : Gr S h E S' h' E') (M : dc S h E) (M' : dc S' h' E') : Fm E.nx E E' where
  z := g.z
  h := fun b hb => by rw [M'.hp, M.hp]; exact g.zh M hb
  nx := by rw [M.nx, M'.nx]; exact g.wX
  mb := fun m hm => g.mb m (by rw [← M.nx]; exact hm)
  row := fun m e xs hm hx => by
    rw [M'.st] at hx; rw [M.st]
    exact g.row m e xs (by rw [← M.nx]; exact hm) hx
  y6 := fun m t k hm hx hk => by
    rw [M'.st] at hx; rw [M.st]
    exact g.y6 m t k (by rw [← M.nx]; exact hm) hx hk
  Ai := fun m g' e xs hm hg hx => by
    rw [M'.st] at hx; rw [M.st]
    exact g.Ai m g' e xs (by rw [← M.nx]; exact hm) (by rw [← M.nx]; exact hg) hx
theorem V.gr(g:Gr S h E S' h' E')(M:dc S h E)(a:dc S' h' E'){s:SV}{v:HV}(b:V E s v):V E' s v:=b.fm (g.fm M a) (.inl rfl)
theorem dB.gr (g : Gr S h E S' h' E') (M : dc S h E) (M' : dc S' h' E') (e : dB S h E) (h1 : S'.dC = S.dC) (h2 : h'.dC = h.dC) : dB S' h' E' where
  nt := by rw [g.Kj, g.nt]; exact e.nt
  v := fun t => by
    have e1 : S'.tmp t = S.tmp t := by unfold SS.tmp; rw [h1]
    have e2 : h'.tmp t = h.tmp t := by unfold St.tmp; rw [h2, g.df]
    rw [e1, e2]
    exact (e.v t).gr g M M'
def E7(E:En)(S:SS)(m:Nat):En:=⟨E.hp,λb=>E.Z b\/(S.st.ap m).isSome=true/\Bk E m b,E.mb,E.ib,S.st.nr m,E.nx⟩
theorem xL(M:dc S h E){m:Nat}(x:S.jU m=true):dc (S.lZ m) h (E7 E S m)/\Gr S h E (S.lZ m) h (E7 E S m):=by
 have u:∀j,(S.lZ m).st.ap j=if j=m then none else S.st.ap j:=λj=>Tr.gC _ _ _
 have d:∀j e,(S.lZ m).st.ap j=some e->j≠m/\S.st.ap j=some e:=by
  intro j e a;rw[u]at a;split at a;.cases a
  .exact⟨by assumption,a⟩
 have f:Fm E.nx E (E7 E S m):=⟨λb c=> .inl c,λ_ _=>rfl,au _,λ_ _=>rfl,λj e p _ o=>⟨p,by have:(S.st.nr m).ap j=some (.row e p):=o;rw[M.st];exact(d j _ this).2,rfl⟩,λj t k _ o v=>⟨t,by have:(S.st.nr m).ap j=some t:=o;rw[M.st];exact(d j _ this).2,v⟩,λj g e p _ _ o=>⟨p,by have:(S.st.nr m).ap j=some (.rows g e p):=o;rw[M.st];exact(d j _ this).2,λ_ l h=>⟨l,h,rfl⟩,λ_=>rfl⟩⟩;refine⟨⟨M.hp,rfl,M.nx,λj e a=>M.lt j e (d j e a).2,λj e a=>(M.hD j e (d j e a).2).fm f rfl (λ_=>rfl) λ_ _=>rfl,λi j e q b z a n r=>M.inj i j e q b (d i e z).2 (d j q a).2 n r,λj e b a c=>?_,λb c=>?_,M.fr,λb c=>⟨(M.lk b c).1,λj e a A=>(M.lk b c).2 j e (d j e a).2 A⟩,M.rN,λj e a=>M.tk j e (d j e a).2⟩,?_⟩
 .
  obtain⟨B,a⟩:=d j e a;refine⟨?_,(M.own j e b a c).2⟩;rintro(n|⟨n,r⟩);.exact(M.own j e b a c).1 n
  .obtain⟨q,s⟩:=ez.1 n;exact B (M.inj j m e q b a s c r)
 .
  rcases c with n|⟨n,r⟩;.exact M.z b n
  .obtain⟨q,s⟩:=ez.1 n;exact(M.own m q b s r).2
 .
  refine⟨rfl,rfl,rfl,rfl,rfl,rfl,rfl,rfl,au _,au _,λb c=> .inl c,λb c=>?_,λ_ _ _=>rfl,λb c=>?_,λ_ _=>rfl,λj _ w=>?_,λj _ y=>?_,λj e p _ o=>⟨p,(d j _ o).2,rfl⟩,λb j e _ a c=>⟨e,(d j e a).2,c⟩,λj t k _ o v=>⟨t,(d j _ o).2,v⟩,λj g e p _ _ o=>⟨p,(d j _ o).2,λ_ l h=>⟨l,h,rfl⟩,λ_=>rfl⟩,λ_ _ _ _=>rfl⟩
  .
   rcases c with n|⟨n,r⟩;.exact .inl n
   .obtain⟨q,s⟩:=ez.1 n;exact .inr (.inl ⟨m,q,s,r⟩)
  .obtain⟨j,e,a,c⟩:=c;exact .inl ⟨j,e,(d j e a).2,c⟩
  .
   rw[u];split;.subst_vars;rw[x]at w;cases w
   .rfl
  .
   rw[u];split;.rfl
   .exact y
theorem mO:∀{L:List Nat}{S c:SS}{E:En},dc S h E->S.rV L=some c->∃d,dc c h d/\Gr S h E c h d/\c.dC=S.dC/\(d.mb=E.mb/\d.ib=E.ib)/\(∀m e b,bu m L=true->S.st.ap m=some e->Bk E m b->d.Z b)/\(∀m,bu m L=false->c.st.ap m=S.st.ap m)/\c.nx=S.nx/\∀m,bu m L=true->c.st.ap m=none
 |[],S,c,E,i,f=>by cases f;exact⟨E,i,Gr.refl,rfl,⟨rfl,rfl⟩,λ_ _ _ a _ _=>(by cases a),λ_ _=>rfl,rfl,λ_ a=>by cases a⟩
 |m::L,S,c,E,i,f=>by
  unfold SS.rV at f;rw[aH]at f;split at f
  .
   rename_i y;obtain⟨q,s⟩:=xL i y;obtain⟨d,r,l,t,u,v,n,w,x⟩:=mO q f;refine⟨d,r,s.trans l,t,u,λj e b a p o=>?_,λj a=>?_,w,λj a=>?_⟩
   .
    by_cases g:j=m;.subst g;exact l.z b (.inr ⟨by rw[p];rfl,o⟩)
    .
     have a:bu j L=true:=by
      unfold bu at a
      have:Nat.beq m j=false:=by cases z:Nat.beq m j with
       |false=>rfl
       |true=>exact absurd (aw z).symm g
      rw[this]at a;simpa using a
     refine v j e b a ?_ o;show(S.st.nr m).ap j=some e;rw[Tr.gC,aB g];exact p
   .unfold bu at a;simp only[Bool.or_eq_false_iff]at a;rw[n j a.2];show(S.st.nr m).ap j=_;rw[Tr.gC,aB];rintro rfl;have:=a.1;rw[show Nat.beq j j=true by simp]at this;cases this
   .
    by_cases k:bu j L=true;.exact x j k
    .
     have g:j=m:=by
      unfold bu at a;simp only[eX]at a;rcases a with a|a;.exact(aw a).symm
      .exact absurd a k
     rw[n j (by simpa using k)];show(S.st.nr m).ap j=none;rw[Tr.gC,aA g]
  .cases f
end
theorem fs{b:Nat}:∀{l:List Nat},bu b l=true↔b∈l
 |[]=>by unfold bu;simp
 |a::l=>by
  unfold bu;rw[eX,fs,cm];constructor
  ·
   rintro(h|h);·exact .inl (aw h).symm
   ·exact .inr h
  ·
   rintro(h|h);·exact .inl (by subst h;simp)
   ·exact .inr h
theorem eD{u v:U}{x:D u}{y:D v}(h:jS u v x=some y):∃e:u=v,e▸x=y:=by
 unfold jS at h;split at h;.rename_i e _;cases h;exact⟨e,rfl⟩
 .cases h
theorem my:dH []=[]:=by rw[dH]
theorem fy(i:SV)(a:List SV):dH (i::a)=iO i++dH a:=by rw[dH]
theorem pk:∀(a b:List SV),dH (a++b)=dH a++dH b
 |[],b=>by rw[my];rfl
 |i::a,b=>by show dH (i::(a++b))=_;rw[fy,fy,pk a b,cn]
theorem tb:∀{u:U}{x:D u},iO (mk u x)=[]
 | .int _,_=>by unfold mk iO;rfl
 | .bool,_=>by unfold mk iO;rfl
 | .ef,_=>by unfold mk iO;rfl
 | .bw _,_=>by unfold mk iO;rfl
 | .un,_=>by unfold mk iO;rfl
 | .nil,_=>by unfold mk iO;rfl
 | .ai _ _,_=>by unfold mk iO;rfl
 | .im _ _,_=>by unfold mk iO;rfl
theorem yA{e:U}{xs:List (D e)}:∀{n i:Nat},dH (elems e xs i n)=[]
 |0,_=>by unfold elems dH;rfl
 |n+1,i=>by unfold elems dH;rw[tb,yA];rfl
theorem yy{s:SV}{ps:List SV}(h:s.split=some ps):dH ps=iO s:=by
 unfold SV.split at h;split at h;.cases h;unfold iO;rfl
 .cases h;unfold dH dH;rw[tb,tb];unfold dH iO;rfl
 .cases h;unfold dH iO;rfl
 .cases h;rw[yA];unfold iO;rfl
 .cases h
theorem xv:∀{f:Nat}{c a b:List SV}{o:Nat},qm f c o=some (a,b)->dH c=dH a++dH b:=by
 intro f
 induction f with
  |zero=>
  intro c a b o h;unfold qm at h;rw[aH]at h;split at h;.cases h;unfold dH;rfl
  .cases h
  |succ f d=>
  intro c a b o h;unfold qm at h;rw[aH]at h;split at h;.cases h;rw[show dH ([]:List SV)=[]by unfold dH;rfl];rfl
  .
   split at h;.cases h
   .
    rename_i i c;rw[aH]at h;split at h
    .
     split at h;.rename_i j k e;cases h;rw[fy,fy,d e,cn]
     .cases h
    .
     split at h;.rename_i l g;rw[<-d h,pk,yy g,fy]
     .cases h
def pN(E:En)(Q:Nat->Prop):Nat->List SV->Prop|0,a=>dH a=[]|k+1,a=>∀m,m∈dH a->(∀e b,E.st.ap m=some e->Bk E m b->Q b)/\∀z c,E.st.ap m=some (.box z c)->pN E Q k c
section
variable{E:En}{Q:Nat->Prop}
theorem pN.sub{b a:List SV}(h:∀m,m∈dH a->m∈dH b):∀{k:Nat},pN E Q k b->pN E Q k a
 |0,c=>by unfold pN at*;cases e:dH a with
  |nil=>rfl
  |cons m l=>have:=h m (by rw[e];simp);rw[c]at this;cases this
 |k+1,c=>by unfold pN at*;exactλm d=>c m (h m d)
theorem Al{s:List SV->Option (List Nat)}:∀{M L:List Nat},EE E.st s M=some L->∀m,m∈M->m∈L/\∀z k,E.st.ap m=some (.box z k)->∃q,s k=some q/\∀x,x∈q->x∈L
 |[],_,_,m,b=>by cases b
 |a::M,L,h,m,b=>by
  unfold EE at h;split at h
  .
   rename_i r u;have p:=λb=>Al u m b;split at h
   .
    rename_i z k j;split at h
    .
     rename_i q t;cases h;rcases cm.1 b with rfl|b;.exact⟨by simp,λe d c=>⟨q,by rw[j]at c;cases c;exact t,λx f=>by simp[f]⟩⟩
     .obtain⟨g,i⟩:=p b;exact⟨by simp[g],λe d c=>by obtain⟨o,l,n⟩:=i e d c;exact⟨o,l,λx f=>by simp[n x f]⟩⟩
    .cases h
   .
    rename_i j;cases h;rcases cm.1 b with rfl|b;.exact⟨by simp,λe d c=>absurd c (j e d)⟩
    .obtain⟨g,i⟩:=p b;exact⟨by simp[g],λe d c=>by obtain⟨o,l,n⟩:=i e d c;exact⟨o,l,λx f=>by simp[n x f]⟩⟩
  .cases h
theorem mz:∀{k:Nat}{a:List SV}{L:List Nat},xw E.st k a=some L->(∀m e b,m∈L->E.st.ap m=some e->Bk E m b->Q b)->pN E Q k a
 |0,a,L,h,_=>by
  unfold xw at h;unfold pN;split at h;.assumption
  .cases h
 |k+1,a,L,h,c=>by unfold xw at h;unfold pN;intro m o;obtain⟨i,j⟩:=Al h m o;refine⟨λe b n l=>c m e b i n l,λz s r=>?_⟩;obtain⟨q,f,g⟩:=j z s r;exact mz f λd e b p=>c d e b (g d p)
theorem tH(c:∀m e b,E.st.ap m=some e->Bk E m b->Q b){a:List SV}{L:List Nat}{k:Nat}(h:xw E.st k a=some L):pN E Q k a:=mz h λm e b _=>c m e b
theorem zp{o:Option Nat}{e:U}{l:List (D e)}{w:HV}(k:∀c,o=some c->Q c)(n:∀b,E.Z b->Q b)(p:l.length<=140737488355328)(a:fO o l.length w)(k4:gx E o e l):Oc E.hp Q e.size (dY E.hp Q e) w l:=by
 unfold fO at a;unfold gx at k4
 cases o with
  |none=>
  refine .inl ⟨k4,?_⟩;rcases a.2 with h|h;.exact .inl h
  .exact .inr (.inl h)
  |some c=>obtain⟨y,f,s,g,t,j⟩:=k4;refine .inr ⟨c,0,y,⟨a,g⟩,k c rfl,f,by omega,p,λi x m=>?_⟩;obtain⟨d,q,r⟩:=j i x m;exact⟨d,by rw[bi];exact q,r.mono n λ_ _=>rfl⟩
theorem Am{o:Option Nat}{e:U}{xs:List (D e)}{k:Nat}(c:k<=xs.length)(h:gx E o e xs):gx E o e (eS xs 0 (Int.ofNat k)):=by
 have m:eS xs 0 (Int.ofNat k)=xs.take k:=by show(xs.drop 0).take (k-0)=_;simp
 rw[m];unfold gx at*
 cases o with
  |none=>rw[h];simp
  |some b=>
  obtain⟨y,d,f,g,j,l⟩:=h;refine⟨y,d,f,g,?_,λi x a=>?_⟩;.rw[aR,gG c];exact aM (co _ c) j
  .
   rw[eU]at a;split at a;.exact l i x a
   .cases a
theorem TD(z0:∀b,E.Z b->Q b)(x0:∀m e,E.st.ap m=some e->oN E m e){u:U}{s:SV}{x:D u}{c:List HV}(h:s.as E.st u=some x)(a:CR E s c)(v0:∀m,m∈iO s->∀e b,E.st.ap m=some e->Bk E m b->Q b):dY E.hp Q u c x:=by
 unfold SV.as at h;split at h;.obtain⟨rfl,rfl⟩:=eD h;unfold CR at a;exact a.mono z0 λ_ _=>rfl
 .obtain⟨rfl,rfl⟩:=eD h;unfold CR at a;unfold dY;exact a
 .obtain⟨rfl,rfl⟩:=eD h;unfold CR at a;unfold dY;exact a
 .
  split at h;.cases h;unfold CR at a;unfold dY;exact⟨_,a,.inl ⟨rfl,.inl rfl⟩⟩
  .cases h;unfold CR at a;unfold dY;exact a
  .cases h
 .
  split at h
  .
   cases h;unfold CR at a;unfold dY;rcases a with a|a;.exact⟨_,a,.inl ⟨rfl,.inl rfl⟩⟩
   .exact⟨_,a,.inl ⟨rfl,.inr (.inl rfl)⟩⟩
  .cases h
 .
  rename_i m;split at h
  .
   rename_i e o n;obtain⟨r,f⟩:=eD h;subst r;have f:o=x:=f;subst f;unfold CR at a;obtain⟨q0,v,rfl,p0,d⟩:=a;have d:=d.1 e o n;obtain⟨C,z⟩:=x0 m _ n;unfold dY;refine⟨v,rfl,?_⟩;unfold gx at z;unfold fO at d
   cases o0:E.mb m with
    |none=>
    rw[o0]at d z;refine .inl ⟨z,?_⟩;rcases d.2 with h|h;.exact .inl h
    .exact .inr (.inl h)
    |some b=>rw[o0]at d z;obtain⟨y,t,B,u0,t0,s0⟩:=z;refine .inr ⟨b,0,y,⟨d,u0⟩,v0 m (by unfold iO;simp) _ b n (.inl o0),t,by omega,C,λi x m0=>?_⟩;obtain⟨i0,y0,l0⟩:=s0 i x m0;exact⟨i0,by rw[bi];exact y0,l0.mono z0 λ_ _=>rfl⟩
  .
   rename_i g e o n;obtain⟨r,f⟩:=eD h;subst r;have f:o=x:=f;subst f;unfold CR at a;obtain⟨q0,v,rfl,p0,d⟩:=a;have d:=d.2 _ _ n rfl;obtain⟨_,C,⟨t,B,_⟩|⟨b,y,t,B,u0,t0,s0,r0,_⟩⟩:=x0 m _ n;.unfold dY;rw[t]at d;exact⟨v,rfl,.inl ⟨B,d.2.imp_right .inl⟩⟩
   unfold dY;refine⟨v,rfl,?_⟩;unfold fO at d;rw[t]at d;have j0:=λc A=>v0 m (by unfold iO;simp) _ c n A;refine .inr ⟨b,0,y,⟨d,t0⟩,j0 b (.inl t),B,?_,C,λi l m0=>?_⟩;.rw[bi];show o.length*1<=y.n;omega
   .
    obtain⟨y0,⟨w,l0,g0⟩,k0⟩:=r0 i l m0;refine⟨[w],?_,?_⟩;.rw[bi];show cF y (i*1) 1=_;rw[gU];exact l0
    .unfold dY;exact⟨w,rfl,zp (λc A=>j0 c (.inr ⟨i,A⟩)) z0 y0 g0 k0⟩
  .cases h
 .
  rename_i m q;split at h
  .
   rename_i e o n;obtain⟨r,f⟩:=eD h;subst r;have f:eS o 0 q=x:=f;subst f;unfold CR at a;obtain⟨q0,v,rfl,p0,d⟩:=a;obtain⟨k,rfl,w0,d⟩:=d e o n;obtain⟨C,z⟩:=x0 m _ n;unfold dY;have p:(eS o 0 (Int.ofNat k)).length=k:=by show((o.drop 0).take (k-0)).length=k;simp;omega
   refine⟨v,rfl,zp (o:=E.mb m) (λc A=>v0 m (by unfold iO;simp) _ c n (.inl A)) z0 (by rw[p];omega) (by rw[p];exact d) ?_⟩;exact Am w0 z
  .cases h
 .
  rename_i m g j;split at h
  .
   rename_i f0 e o n;rw[aH]at h;split at h
   .
    rename_i n0;have n0:=aw n0;subst n0;split at h;.rename_i l p;obtain⟨r,f⟩:=eD h;subst r;have f:l=x:=f;subst f;unfold CR at a;obtain⟨q0,e0,v,rfl,p0,d⟩:=a;obtain⟨k,d0,rfl,w0,d⟩:=d e o n;have p:o[k]?=some l:=p;rw[p]at w0;cases w0;obtain⟨_,C,h0⟩:=x0 m _ n;obtain⟨b,y,t,B,u0,t0,s0,r0,_⟩:=h0.p (aj.1 p).1;obtain⟨y0,_,k0⟩:=r0 k l p;unfold dY;exact⟨v,rfl,zp (λc A=>v0 m (by unfold iO;simp) _ c n (.inr ⟨k,A⟩)) z0 y0 d k0⟩
    .cases h
   .cases h
  .cases h
 .cases h
theorem lw{α:Type}{R:List HV->α->Prop}{z:Nat}(f:∀c x,R c x->c.length=z):∀{xs:List α}{cs:List HV}{i:Nat}{x:α},nO R cs xs->xs[i]?=some x->∃c1 c2 c3,cs=c1++(c2++c3)/\c1.length=i*z/\c2.length=z/\R c2 x
 |[],_,_,_,_,h=>by simp at h
 |a::xs,cs,0,x,⟨c,d,e,b,g⟩,h=>by simp only[jF,eL]at h;subst h;exact⟨[],c,d,e,by simp,f _ _ b,b⟩
 |a::xs,cs,i+1,x,⟨c,d,e,b,g⟩,h=>by simp only[dD]at h;obtain⟨c1,c2,c3,j,k,l,m⟩:=lw f g h;refine⟨c++c1,c2,c3,by rw[e,j,cn],?_,l,m⟩;rw[ax,f _ _ b,k,ig];omega
theorem Ap{α:Type}{g:List SV->Option (α×List SV)}{R:List HV->α->Prop}{A:List Nat}(hg:∀a x r cs,g a=some (x,r)->du E a cs->(∀m,m∈dH a->m∈A)->∃c d,cs=c++d/\R c x/\du E r d/\∀m,m∈dH r->m∈dH a):∀{n:Nat}{a r:List SV}{xs:List α}{cs:List HV},Sx g n a=some (xs,r)->du E a cs->(∀m,m∈dH a->m∈A)->xs.length=n/\∃c d,cs=c++d/\nO R c xs/\du E r d/\∀m,m∈dH r->m∈dH a
 |0,a,r,xs,cs,h,f,e=>by cases h;exact⟨rfl,[],cs,rfl,rfl,f,λm b=>b⟩
 |n+1,a,r,xs,cs,h,f,e=>by
  have h:(match g a with
   |some (x,k)=>match Sx g n k with|some (l,o)=>some (x::l,o)|none=>none
   |none=>none)=some (xs,r):=h
  split at h
  .
   rename_i x k t;split at h;.rename_i l o u;cases h;obtain⟨c,d,rfl,q,s,j⟩:=hg _ _ _ _ t f e;obtain⟨v,i,p,rfl,w,y,z⟩:=Ap hg u s λm b=>e m (j m b);exact⟨by simp[v],c++i,p,by simp,⟨c,i,rfl,q,w⟩,y,λm b=>j m (z m b)⟩
   .cases h
  .cases h
theorem qZ(h9:∀b,E.Z b->Q b)(j0:∀m e,E.st.ap m=some e->oN E m e):∀{f:Nat}{u:U}{p:List SV}{x:D u}{r:List SV}{cs:List HV}{k:Nat},sM E.st f u p=some (x,r)->du E p cs->pN E Q k p->∃c d,cs=c++d/\dY E.hp Q u c x/\du E r d/\∀m,m∈dH r->m∈dH p:=by
 intro f
 induction f with
  |zero=>intro u p x r cs k h;cases h
  |succ f w0=>
  intro u p x r cs k h w s;unfold sM at h
  have j9:∀(i:SV)(v A:List SV),p=i::v->i.split=some A->sM E.st f u (A++v)=some (x,r)->∃c d,cs=c++d/\dY E.hp Q u c x/\du E r d/\∀m,m∈dH r->m∈dH p:=by
   intro i v A u9 C k9;subst u9;unfold du at w;obtain⟨c,d,rfl,q,t⟩:=w;have f0:dH (A++v)=dH (i::v):=by rw[pk,yy C,fy]
   obtain⟨v0,u0,z0,y0,B,t0⟩:=w0 k9 (ou.2 ⟨c,d,rfl,vt C q,t⟩) (s.sub λm j=>by rw[<-f0];exact j);exact⟨v0,u0,z0,y0,B,λm j=>by rw[<-f0];exact t0 m j⟩
  split at h
  .
   rename_i y p0;cases h;split at p0
   .
    rename_i i v;unfold du at w;obtain⟨c,d,rfl,q,t⟩:=w;have g0:=fy i v;refine⟨c,d,rfl,TD h9 j0 p0 q λm j e b p9 s9=>?_,t,λm j=>by rw[g0];exact cW _ j⟩;have j:m∈dH (i::v):=by rw[g0];exact eo _ j
    cases k with
     |zero=>unfold pN at s;rw[s]at j;cases j
     |succ k=>unfold pN at s;exact(s m j).1 e b p9 s9
   .cases p0
  .
   have x0:∀(g:Option (D u×List SV)),g=(match(generalizing:=false)p with
    |i::r=>match i.split with|some A=>sM E.st f u (A++r)|none=>none
    |[]=>none)->g=some (x,r)->∃c d,cs=c++d/\dY E.hp Q u c x/\du E r d/\∀m,m∈dH r->m∈dH p:=by intro g o9 h;rw[o9]at h;cases p with
    |nil=>cases h
    |cons i v=>simp only at h;cases C:i.split with
    |none=>rw[C]at h;cases h
    |some A=>rw[C]at h;exact j9 i v A rfl C h
   cases u with
    |un=>cases h;exact⟨[],cs,rfl,by unfold dY;rfl,w,λm j=>j⟩
    |ai a b=>
    simp only at h;split at h
    .
     rename_i x1 r1 q;split at h;.rename_i x2 r2 t;cases h;obtain⟨c,d,rfl,z0,y0,B⟩:=w0 q w s;obtain⟨v0,u0,rfl,o0,n0,m0⟩:=w0 t y0 (s.sub B);exact⟨c++v0,u0,by simp,by unfold dY;exact⟨c,v0,rfl,z0,o0⟩,n0,λm j=>B m (m0 m j)⟩
     .cases h
    .cases h
    |im n e=>obtain⟨t9,c,d,z0,y0,B,t0⟩:=Ap (A:=dH p) (λf9 x r k0 q t s0=>w0 q t (s.sub s0)) h w λm j=>j;exact⟨c,d,z0,by unfold dY;exact⟨t9,y0⟩,B,t0⟩
    |int _=>exact x0 _ rfl h
    |bool=>exact x0 _ rfl h
    |nil=>exact x0 _ rfl h
    |ef=>exact x0 _ rfl h
    |bw e=>
    cases p with
     |nil=>cases h
     |cons i v=>
     by_cases h0:∃m o n,i= .rt m o n
     .
      obtain⟨m,o,n,rfl⟩:=h0;simp only at h;split at h
      .
       rename_i z e9 j;rw[aH]at h;split at h
       .
        rename_i e0;simp only[ae,bO]at e0;have g9:z=e.size:=aw e0.1;split at h
        .
         rename_i a0 d0 i0;split at h
         .
          rename_i l r2 m9;cases h;unfold du at w;obtain⟨c,d,rfl,q,t⟩:=w;unfold CR at q;obtain⟨q1,b,a0,rfl,q3⟩:=q;obtain⟨b',y,k0,c0,a9,p3,p4,b0,p6⟩:=j0 m _ j;rw[a0]at c0;cases c0;obtain⟨v9,d2,rfl,y9,w2,w3⟩:=pc i0 p6;have q0:m∈dH (SV.rt m o n::r):=by rw[fy];unfold iO;simp
          obtain⟨k,rfl⟩:∃d9,k=d9+1:=by cases k with
           |zero=>unfold pN at s;rw[s]at q0;cases q0
           |succ k=>exact⟨k,rfl⟩
          unfold pN at s;obtain⟨v1,v2⟩:=s m q0;have r9:=v2 z e9 j;have q9:pN E Q k d0:=r9.sub (λb9 r0=>by rw[xv i0];exact cW _ r0);obtain⟨t0,t1,t2,t3,z9,t5,t6⟩:=Ap (A:=dH d0) (λf9 x r k0 q t s0=>w0 q t (q9.sub s0)) m9 w3 λm j=>j;subst t3;have l9:=nk (z:=e.size) (λ_ _ h=>h.len) z9;have n9:=g5 b0;simp only[ax,y9,l9]at n9;refine⟨[.sl b o n],d,rfl,?_,t,λb9 r0=>by rw[fy];exact cW _ r0⟩;unfold dY;refine⟨_,rfl,.inr ⟨b,o,y,⟨by rw[t0],by rw[p4,g9]⟩,v1 _ b j (.inl a0),a9,by omega,by omega,λi x i9=>?_⟩⟩;obtain⟨x9,l0,w9,o0,n0,m0,c9⟩:=lw (z:=e.size) (λ_ _ h=>h.len) z9 i9;refine⟨l0,?_,c9⟩;have:=fz (p:=o+i*e.size) (z:=e.size) (c1:=v9++x9) (c2:=l0) (c3:=w9++t2) b0 (by rw[o0];simp) (by rw[ax,y9,n0]) m0;rw[bi]at this;exact this
         .cases h
        .cases h
       .cases h
      .cases h
     .refine x0 _ ?_ h;cases i<;>first|rfl|exact absurd ⟨_,_,_,rfl⟩ h0
theorem wd(A:∀b,E.Z b->Q b)(p:∀m e,E.st.ap m=some e->oN E m e){u:U}{s:SV}{x:D u}{v:HV}{k:Nat}(h:Gu E.st u s=some x)(w:V E s v)(q:pN E Q k [s]):tT E.hp Q u v x:=by
 unfold Gu at h;rw[aH]at h;split at h
 .
  rename_i a;have a:s.ag=u.ag:=by simpa using a
  split at h
  .
   rename_i B i;split at h
   .
    rename_i y z;cases h;obtain⟨C,y0,l,n,o⟩:=li i w;have t:dH B=dH [s]:=by rw[fy,my,bf];cases s<;>cases i<;>first|(rw[fy,my,bf];done)|(unfold iO;rfl)
    obtain⟨c,d,rfl,f,g,z0⟩:=qZ A p z l (q.sub λm r=>by rw[<-t];exact r);unfold du at g;subst g;rw[bf]at*;unfold tT
    cases j:u.ag with
     |true=>exact⟨c,n (a.trans j),f⟩
     |false=>rw[<-o (a.trans j)];exact f
   .cases h
  .cases h
 .cases h
end
def iz(hp:Tr Hm.Obj)(Z:Nat->Prop):(u:U)->List HV->D u->Prop| .un,l,_=>l=[]| .ai a b,l,x=>∃v r,l=v::r/\tT hp Z a v x.1/\iz hp Z b r x.2|_,_,_=>False
theorem n6{E:En}{Q:Nat->Prop}(n:∀b,E.Z b->Q b)(i:∀m e,E.st.ap m=some e->oN E m e){k:Nat}:∀{u:U}{d:List SV}{l:List HV}{x:D u},pZ E.st u d=some x->Vs E d l->pN E Q k d->iz E.hp Q u l x
 | .un,[],l,x,h,c,_=>by unfold Vs at c;exact c
 | .ai a b,v::d,l,x,h,c,j=>by
  unfold pZ at h;split at h
  .
   rename_i y s;split at h
   .
    rename_i w q;cases h;unfold Vs at c;obtain⟨u,r,rfl,o,p⟩:=c;have g:=fy v d;unfold iz;refine⟨u,r,rfl,wd n i s o (j.sub λm f=>?_),n6 n i q p (j.sub λm f=>?_)⟩;.rw[fy,my,bf]at f;rw[g];exact eo _ f
    .rw[g];exact cW _ f
   .cases h
  .cases h
 | .un,_::_,_,_,h,_,_=>by cases h
 | .ai _ _,[],_,_,h,_,_=>by cases h
 | .int _,[],_,_,h,_,_=>by cases h
 | .int _,_::_,_,_,h,_,_=>by cases h
 | .bool,[],_,_,h,_,_=>by cases h
 | .bool,_::_,_,_,h,_,_=>by cases h
 | .ef,[],_,_,h,_,_=>by cases h
 | .ef,_::_,_,_,h,_,_=>by cases h
 | .bw _,[],_,_,h,_,_=>by cases h
 | .bw _,_::_,_,_,h,_,_=>by cases h
 | .im _ _,[],_,_,h,_,_=>by cases h
 | .im _ _,_::_,_,_,h,_,_=>by cases h
theorem qb{E:En}:∀{u:U}{l:List HV}{x:D u},iz E.hp E.Z u l x->Vs E (lC u x) l
 | .un,l,x,h=>by unfold iz at h;unfold lC Vs;exact h
 | .ai a b,l,x,h=>by unfold iz at h;obtain⟨v,r,rfl,c,d⟩:=h;unfold lC Vs;exact⟨v,r,rfl,Vq.2 c,qb d⟩
 | .int _,_,_,h=>h.elim
 | .bool,_,_,h=>h.elim
 | .ef,_,_,h=>h.elim
 | .bw _,_,_,h=>h.elim
 | .im _ _,_,_,h=>h.elim
section
variable{R:Type}{r:R}
theorem rq{b:Bool}{x y:Option R}(h:ad b x y=some r):b=true/\x=some r\/b=false/\y=some r:=by
 cases b;.exact .inr ⟨rfl,h⟩
 .exact .inl ⟨rfl,h⟩
theorem ep{b:Bool}{x:Option R}(h:aC b x=some r):b=true/\x=some r:=by
 cases b;.cases h
 .exact⟨rfl,h⟩
theorem JT{l b:Bool}{x y:Option R}(h:Vj l b x y=some r):b=true/\x=some r\/b=false/\y=some r:=by
 cases l;.exact rq h
 .
  cases b;.exact .inr ⟨rfl,h⟩
  .exact .inl ⟨rfl,h⟩
theorem Bp{l b:Bool}{x:Option R}(h:Hr l b x=some r):b=true/\x=some r:=by
 cases l;.exact ep h
 .
  cases b;.cases h
  .exact⟨rfl,h⟩
theorem jq{α:Type}{o:Option α}{f:α->Option R}(h:am o f=some r):∃x,o=some x/\f x=some r:=by
 cases o;.cases h
 .exact⟨_,rfl,h⟩
theorem jl{o:Option SV}{K:SV->Option R}(h:oS o K=some r):∃s,o=some s/\K s=some r:=by
 cases o;.cases h
 .exact⟨_,rfl,h⟩
theorem TE(op:BinOp)(k:IntKind)(a b:Int)(h:GC op≠3):Xc op k a b=sP op k a b:=by cases op<;>first|rfl|exact absurd rfl h
theorem Tw(op:BinOp)(a b:Int):W5 op a b=Cp op a b:=by cases op<;>rfl
theorem tv{k a:IntKind}(h:qe k a=true):k=a:=by simpa [qe]using h
end
section
variable{E:En}
theorem d7{l:Bool}{k:IntKind}{x:Int}{v:HV}:V E (.int l k x) v↔v= .int k x:=by unfold V iv;show CR E (.int l k x) [v]↔_;unfold CR;simp
theorem ix{l b:Bool}{v:HV}:V E (.bool l b) v↔v= .bool b:=by unfold V iv;show CR E (.bool l b) [v]↔_;unfold CR;simp
theorem pF{s:ByteArray}{v:HV}:V E (.val .ef s) v↔v= .ef s:=by unfold V iv;show CR E (.val .ef s) [v]↔_;unfold CR dY;simp
theorem pE{v:HV}:V E .undef v↔v= .undef:=by unfold V iv;show CR E .undef [v]↔_;unfold CR;simp
theorem FB{v:HV}:V E .any v:=by unfold V iv;show CR E .any [v];unfold CR;exact⟨v,rfl⟩
theorem kW{v:HV}:V E .cM v↔v= .cM:=by unfold V iv;show CR E .cM [v]↔_;unfold CR;simp
theorem pH{v:HV}:V E .gz v↔v= .cM∨v= .gz:=by unfold V iv;show CR E .gz [v]↔_;unfold CR;simp
theorem yd{c:List SV}{v:HV}:V E (.agg c) v↔∃cs,v= .agg cs∧du E c cs:=by
 unfold V iv;show(∃cs,v= .agg cs∧CR E (.agg c) cs)↔_;constructor;·rintro⟨cs,b,a⟩;unfold CR at a;exact⟨cs,b,a⟩
 ·rintro⟨cs,b,a⟩;exact⟨cs,b,by unfold CR;exact a⟩
theorem BF{a:List SV}{v:HV}:V E (.mx a) v↔∃l,v= .mx l∧Vs E a l:=by unfold V iv;show CR E (.mx a) [v]↔_;unfold CR;simp
theorem LX{f:FuncId}{a:List SV}{v:HV}:V E (.fn f a) v↔∃l,v= .fn f l∧Vs E a l:=by unfold V iv;show CR E (.fn f a) [v]↔_;unfold CR;simp
theorem lv{m o:Nat}{v:HV}:V E (.box m o) v↔m<E.nx∧∃b,E.mb m=some b∧v= .ptr b o:=by unfold V iv;show CR E (.box m o) [v]↔_;unfold CR;simp
theorem tQ{m o n:Nat}{v:HV}:V E (.rt m o n) v↔m<E.nx∧∃b,E.mb m=some b∧v= .sl b o n∧n≤4000:=by unfold V iv;show CR E (.rt m o n) [v]↔_;unfold CR;simp
theorem hG{m:Nat}{v:HV}:V E (.row m) v↔m<E.nx∧iP v=some [v]∧(∀e xs,E.st.ap m=some (.row e xs)→fO (E.mb m) xs.length v)∧∀t k,E.st.ap m=some t→t.rn=some k→fO (E.mb m) k v:=by unfold V iv;show CR E (.row m) [v]↔_;unfold CR;simp
theorem nj{m o:Nat}{i:Int}{v:HV}:V E (.oU m i o) v↔m<E.nx∧iP v=some [v]∧(∀e xs,E.st.ap m=some (.row e xs)→∃b j,E.mb m=some b∧i=Int.ofNat j∧j<xs.length∧v= .ptr b (j*e.size+o))∧∀t k,E.st.ap m=some t→t.rn=some k→∃b j,E.mb m=some b∧i=Int.ofNat j∧j<k∧v= .ptr b (j+o):=by unfold V iv;show CR E (.oU m i o) [v]↔_;unfold CR;simp
theorem vP{m o n p:Nat}{u:U}{j:Int}{v:HV}:V E (.uE m o n u j p) v↔m<E.nx∧∃b k,E.mb m=some b∧j=Int.ofNat k∧k<n∧v= .ptr b (o+k*u.size+p):=by unfold V iv;show CR E (.uE m o n u j p) [v]↔_;unfold CR;simp
theorem BG{m g:Nat}{j:Int}{v:HV}:V E (.sub m g j) v↔m<E.nx∧g<E.nx∧iP v=some [v]∧∀e xs,E.st.ap m=some (.rows g e xs)→∃k l,j=Int.ofNat k∧xs[k]?=some l∧fO (E.ib m k) l.length v:=by unfold V iv;show CR E (.sub m g j) [v]↔_;unfold CR;simp
theorem BH{m:Nat}{v:HV}:V E (.map m) v↔m<E.nx∧∃b,E.mb m=some b∧v= .map b:=by unfold V iv;show CR E (.map m) [v]↔_;unfold CR;simp
theorem yc{m o n:Nat}{v:HV}:V E (.jh m o n) v↔m<E.nx∧∃b,E.mb m=some b∧v= .jh b o n:=by unfold V iv;show CR E (.jh m o n) [v]↔_;unfold CR;simp
theorem wV{m:Nat}{q:Int}{v:HV}:V E (.vw m q) v↔m<E.nx∧iP v=some [v]∧∀e xs,E.st.ap m=some (.row e xs)→∃k,q=Int.ofNat k∧k≤xs.length∧fO (E.mb m) k v:=by unfold V iv;show CR E (.vw m q) [v]↔_;unfold CR;simp
theorem pG{u:U}{x:D u}{v:HV}:V E (.rX u x) v↔∃b o y a,v= .ptr b o∧E.Z b∧E.hp.ap b=some (.cp y)∧cF y o u.size=some a∧dY E.hp E.Z u a x:=by unfold V iv;show CR E (.rX u x) [v]↔_;unfold CR;simp
theorem nV{e:U}{xs:List (D e)}{v:HV}:V E (.val (.bw e) xs) v↔Oc E.hp E.Z e.size (dY E.hp E.Z e) v xs:=by unfold V iv;show CR E (.val (.bw e) xs) [v]↔_;unfold CR dY;simp
theorem FR{s:SV}{cs:List HV}(h:s.ag=false)(b:CR E s cs):∃v,cs=[v]/\V E s v:=by
 have c:s.w=1:=by
  cases s<;>first|rfl|skip
  .rename_i u x;have h:u.ag=false:=h;show u.size=1;cases u<;>first|rfl|cases h
  .cases h
 have a:=b.len;rw[c]at a
 cases cs with
  |nil=>cases a
  |cons v cs=>cases cs with
  |cons _ _=>cases a
  |nil=>exact⟨v,rfl,by unfold V iv;rw[h];exact b⟩
theorem Bq(v:HV):CR E (vL v) [v]:=by cases v<;>unfold vL CR<;>first|rfl|exact⟨_,rfl⟩
theorem mB:∀(c:List HV),du E (nE c) c
 |[]=>by unfold nE du;rfl
 |v::c=>by unfold nE du;exact⟨[v],c,rfl,Bq v,mB c⟩
theorem NN(v:HV):(vL v).ag=false:=by cases v<;>rfl
theorem Nb(v:HV):V E (US v) v:=by
 have h:∀v,V E (vL v) v:=λv=>by unfold V iv;rw[NN];exact Bq v
 have h:=h v;cases v<;>first|exact h|exact pE.2 rfl|exact yd.2 ⟨_,rfl,mB _⟩
variable{S:SS}{h:St}
theorem bV(c:dB S h E){x:Operand}{s:SV}(b:S.ev x=some s):∃v,h.ev x=some v/\V E s v:=by
 unfold SS.ev at b;split at b;.cases b;exact⟨_,rfl,c.v _⟩
 .
  split at b;.rename_i a d;cases b;exact⟨a,d,Nb a⟩
  .cases b
 .cases b;exact⟨_,rfl,LX.2 ⟨[],rfl,by unfold Vs;rfl⟩⟩
 .cases b
theorem l4(c:dB S h E):∀{xs:List Operand}{l:List SV},S.jI xs=some l->∃b,h.jI xs=some b/\Vs E l b
 |[],l,a=>by cases a;exact⟨[],rfl,by unfold Vs;rfl⟩
 |x::xs,l,a=>by
  unfold SS.jI at a;split at a
  .
   rename_i s i;split at a;.rename_i k j;cases a;obtain⟨v,d,e⟩:=bV c i;obtain⟨b,f,g⟩:=l4 c j;exact⟨v::b,by unfold St.jI;rw[d,f],by unfold Vs;exact⟨v,b,rfl,e,g⟩⟩
   .cases a
  .cases a
def Gv(E:En){R:Type}(K:SV->Option R)(r:R)(o:Option HV):Prop:=∃s v,o=some v/\V E s v/\K s=some r
section
variable{R:Type}{r:R}{K:SV->Option R}
theorem pu{b:Int}(h:0<=b):b=Int.ofNat b.toNat:=by cases b with
 |ofNat n=>rfl
 |negSucc n=>exact absurd h (by omega)
theorem NX{op:BinOp}(k:IntKind)(a b:Int)(h:GC op=0):vN op k a b=some (.int k (sP op k a b)):=by cases op<;>first|rfl|cases h
theorem NY{op:BinOp}(k:IntKind)(a b:Int)(h:GC op=3):vN op k a b=some (.bool (Cp op a b)):=by cases op<;>first|rfl|cases h
theorem Qy{op:BinOp}(k:IntKind)(a b:Int)(h:GC op=1)(c:b≠0):vN op k a b=some (.int k (sP op k a b)):=by
 cases op<;>first|(cases h;done)|skip
 .show(bif decide (b=0)then none else some (HV.int k (fT k (Int.tdiv a b))))=_;rw[aQ c];rfl
 .show(bif decide (b=0)then none else some (HV.int k (Int.tmod a b)))=_;rw[aQ c];rfl
theorem Ki{l:Bool}{op:BinOp}{k:IntKind}{a b:Int}(h:GC op≠3):V E (Pr l op k a b) (.int k (sP op k a b)):=by
 unfold Pr;cases l;.show V E (.int false k (Xc op k a b)) _;rw[TE op k a b h];exact d7.2 rfl
 .exact d7.2 rfl
theorem Xi{l:Bool}{op:BinOp}{a b:Int}:V E (Wx l op a b) (.bool (Cp op a b)):=by
 unfold Wx;cases l;.show V E (.bool false (W5 op a b)) _;rw[Tw];exact ix.2 rfl
 .exact ix.2 rfl
theorem Nv{cx:Cx}{op:BinOp}{t:Nat}{l o:Bool}{k i:IntKind}{a b:Int}(c:PQ op l k a o i b K=some r):Gv E K r (lu cx op t (.int k a) (.int i b)):=by
 have j:GC op≠2->lu cx op t (.int k a) (.int i b)=bif decide (k=i)then vN op k a b else none:=by intro h;cases op<;>first|rfl|exact absurd rfl h
 unfold PQ at c;split at c
 .
  rename_i d;rw[aH]at c;split at c;.rename_i g;refine⟨_,_,?_,Ki (by rw[d];decide),c⟩;rw[j (by rw[d];decide),ar (tv g)];exact NX k a b d
  .cases c
 .
  rename_i d;rw[aH]at c;split at c
  .
   rename_i g;obtain⟨e,f⟩:=Bp c
   have p:b≠0:=by
    cases o;.have e:(!decide (b=0))=true:=e;simpa using e
    .have e:(!decide (b=0))=true:=e;simpa using e
   refine⟨_,_,?_,Ki (by rw[d];decide),f⟩;rw[j (by rw[d];decide),ar (tv g)];exact Qy k a b d p
  .cases c
 .
  rename_i d;obtain⟨e,f⟩:=Bp c;have e:0<=b:=by simpa [cR]using e
  refine⟨_,_,?_,Ki (by rw[d];decide),f⟩;obtain⟨n,rfl⟩:∃n:Nat,b=Int.ofNat n:=⟨_,pu e⟩;cases op<;>first|rfl|cases d
 .
  rename_i d e f;have m:GC op=3:=by cases op<;>first|rfl|exact absurd rfl d|exact absurd rfl e|exact absurd rfl f
  rw[aH]at c;split at c;.rename_i g;refine⟨_,_,?_,Xi,c⟩;rw[j (by rw[m];decide),ar (tv g)];exact NY k a b m
  .cases c
theorem tD{op:BinOp}{l b:Bool}(d:oS (JM op l b) K=some r):Gv E K r (fG op b):=by
 obtain⟨s,a,c⟩:=jl d;unfold JM at a;split at a;.cases a;exact⟨_,_,rfl,ix.2 rfl,c⟩
 .cases a;refine⟨_,_,rfl,ix.2 ?_,c⟩;cases l<;>rfl
 .cases a
theorem Bd:∀{f:Nat}{a l:List SV}{cs:List HV},xP f a=some l->du E a cs->du E l cs:=by
 intro f
 induction f with
  |zero=>intro a l cs h;cases h
  |succ f j=>
  intro a l cs h b
  cases a with
   |nil=>cases h;exact b
   |cons i a=>
   unfold xP at h;rw[aH]at h;unfold du at b;obtain⟨c,d,rfl,e,g⟩:=b;split at h
   .
    split at h;.rename_i o m;exact j h (ou.2 ⟨c,d,rfl,vt m e,g⟩)
    .cases h
   .
    split at h;.rename_i n k;cases h;unfold du;exact⟨c,d,rfl,e,j k g⟩
    .cases h
theorem NC{ps:List Bool}:∀{a b:List SV}{ca cb:List HV}{l e:Bool},Du ps a b=some (l,e)->du E a ca->du E b cb->s8 ps ca cb=some e/\ca.length=a.length/\cb.length=b.length:=by
 induction ps with
  |nil=>
  intro a b ca cb l e h g i;unfold Du at h;split at h;.unfold du at g i;subst g;subst i;cases h;exact⟨rfl,rfl,rfl⟩
  .rename_i f;cases f
  .rename_i f;cases f
  .cases h
  |cons p ps C=>
  intro a b ca cb l e h g i;unfold Du at h;split at h;.rename_i f;cases f
  .
   rename_i x0 l k x a o w0 y b f;cases f;rw[aH]at h;unfold du at g i;obtain⟨c,d,rfl,m,w⟩:=g;obtain⟨D,s,rfl,n,z⟩:=i;unfold CR at m n;subst m;subst n;split at h
   .
    rename_i A;have A:=tv A;subst A;split at h
    .
     rename_i q z0 B;cases h;obtain⟨t,u,v⟩:=C B w z;refine⟨?_,by simp[u],by simp[v]⟩;show(match xr true (.int k x) (.int k y)with|some true=>s8 ps d s|r=>r)=_;have y0:xr true (.int k x) (.int k y)=some (decide (x=y)):=by show(bif decide (k=k)then some (decide (x=y))else none)=_;rw[ar rfl];rfl
     rw[y0];by_cases j:x=y;.rw[ar j];simp only;rw[t];cases l&&o&&q<;>simp[aY,Cp,eV,j]
     .rw[aQ j];cases l&&o&&q<;>simp[aY,Cp,eV,j]
    .cases h
   .cases h
  .
   rename_i x0 l x a o y b f;cases f;unfold du at g i;obtain⟨c,d,rfl,m,w⟩:=g;obtain⟨D,s,rfl,n,z⟩:=i;unfold CR at m n;subst m;subst n;split at h
   .
    rename_i q z0 B;cases h;obtain⟨t,u,v⟩:=C B w z;refine⟨?_,by simp[u],by simp[v]⟩;show(match some (x==y)with|some true=>s8 ps d s|r=>r)=_;cases j:x==y;.cases l&&o&&q<;>simp[wL,eV,j]
    .simp only;rw[t];cases l&&o&&q<;>simp[wL,eV,j]
   .cases h
  .cases h
theorem nH{cx:Cx}{t:Nat}{p:Sh->Bool}(h:wD cx t p=true):∃x,cx.ti.ap t=some x/\p x.sh=true:=by
 unfold wD at h;split at h;.exact⟨_,by assumption,h⟩
 .cases h
theorem Cf{s:Sh}(h:Gk s=true):∃e,s= .slice e:=by cases s<;>first|exact⟨_,rfl⟩|cases h
theorem Ez{s:Sh}(h:EA s=true):s= .bool:=by cases s<;>first|rfl|cases h
theorem NR{cx:Cx}{op:BinOp}{t:Nat}{x y:SV}{a b:HV}(c:Qs cx op t x y K=some r)(d:V E x a)(g:V E y b):Gv E K r (lu cx op t a b):=by
 unfold Qs at c;split at c;.rw[d7]at d g;subst d;subst g;exact Nv c
 .
  rw[ix]at d g;subst d;subst g;rename_i l j B k;rw[aH]at c;split at c
  .
   rename_i z;obtain⟨u,i,f⟩:=nH z;have f:=Ez f
   have:lu cx op t (.bool j) (.bool k)=fG op (j==k):=by
    show(match cx.ti.ap t with
     |some x=>match x.sh with| .bool=>_|_=>none
     |none=>none)=_
    rw[i];simp only;rw[f]
   rw[this];have e:(bif l&&B then j==k else wL j k)=(j==k):=by cases l&&B<;>rfl
   rw[e]at c;exact tD c
  .cases c
 .
  rw[pF]at d g;subst d;subst g;split at c;.obtain⟨i,f⟩:=ep c;refine⟨_,_,?_,pF.2 rfl,f⟩;show(bif Nat.ble _ _ then _ else none)=_;unfold Vd at i;rw[i];rfl
  .
   rename_i o0;have:∀s A,lu cx op t (.ef s) (.ef A)=fG op (s.toList==A.toList):=by intro s A;cases op<;>first|rfl|exact absurd rfl o0
   rw[this];exact tD c
 .
  rename_i h0;rw[kW]at g;subst g;rw[aH]at c;split at c
  .
   rename_i z;obtain⟨u,i,f⟩:=nH z;obtain⟨e,f⟩:=Cf f;split at c
   .
    rw[kW]at d;subst d
    have:lu cx op t .cM .cM=fG op true:=by
     show(match cx.ti.ap t with
      |some u=>match u.sh,HV.cM with| .slice _,.cM=>fG op true| .slice _,.sl _ _ _=>fG op false| .slice _,.jh _ _ _=>fG op false| .slice _,.gz=>fG op false| .slice _,.lV=>fG op false|_,_=>none
      |none=>none)=_
     rw[i];simp only;rw[f]
    rw[this];exact tD c
   .
    rename_i m o n;rw[tQ]at d;obtain⟨_,b,_,rfl,_⟩:=d
    have:lu cx op t (.sl b o n) .cM=fG op false:=by
     show(match cx.ti.ap t with
      |some u=>match u.sh,HV.sl b o n with| .slice _,.cM=>fG op true| .slice _,.sl _ _ _=>fG op false| .slice _,.jh _ _ _=>fG op false| .slice _,.gz=>fG op false| .slice _,.lV=>fG op false|_,_=>none
      |none=>none)=_
     rw[i];simp only;rw[f]
    rw[this];exact tD c
   .cases c
  .cases c
 .
  split at c
  .
   rename_i m p0;rw[aH]at c;split at c
   .
    rename_i v;simp only[ae]at v;split at c
    .
     rename_i g0 f0 r0 q0;obtain⟨p,n0,C,D,m0⟩:=li r0 d;obtain⟨q,l0,z0,y0,k0⟩:=li q0 g;have:=D v.1;subst this;have:=y0 v.2;subst this;split at c
     .
      rename_i j0 i0 t0 s0;rw[aH]at c;split at c
      .
       rename_i w;simp only[ae]at w;split at c
       .
        rename_i l e u0;obtain⟨x0,w0,v0⟩:=NC u0 (Bd t0 C) (Bd s0 z0)
        have:lu cx op t (.agg p) (.agg q)=fG op e:=by
         show(match cx.Cl.ap t with
          |some m=>bif Nat.beq p.length m.length&&Nat.beq q.length m.length then match s8 m p q with|some r=>fG op r|none=>none else none
          |none=>none)=_
         rw[p0];simp only;rw[w0,v0,w.1,w.2,x0];rfl
        rw[this];exact tD c
       .cases c
      .cases c
     .cases c
    .cases c
   .cases c
  .cases c
end
end
def Pu(E:En){R:Type}(h:St)(K:SV->Option R)(r:R)(o:Option Rs):Prop:=∃s v,o=some (.val v h)/\V E s v/\K s=some r
theorem G4{y:gK}{o:Nat}{v:HV}(h:cF y o 1=some [v]):y.ap o=some v:=by
 have h:(match y.ap o with
  |some v=>match some ([]:List HV)with|some l=>some (v::l)|none=>none
  |none=>none)=some [v]:=h
 split at h;.cases h;assumption
 .cases h
theorem jK{h:St}{b:Nat}{y:gK}(g:h.hp.ap b=some (.cp y)):h.cp b=some y:=by unfold St.cp;rw[g]
theorem lL{α:Type}{l:List α}{i:Int}{x:α}(h:az l i=some x):∃n:Nat,i=Int.ofNat n/\l[n]?=some x:=by
 unfold az at h;split at h;.exact⟨_,rfl,h⟩
 .cases h
section
variable{E:En}{S:SS}{h:St}{cy:Cy}{R:Type}{r:R}{K:SV->Option R}
theorem GE{ag:Bool}{c:List SV}{s:SV}{cs:List HV}(a:GF ag c=some s)(b:du E c cs):(ag=true->V E s (.agg cs))/\(ag=false->∃v,cs=[v]/\V E s v):=by
 unfold GF at a;split at a
 .
  rename_i i;rw[aH]at a;split at a
  .rename_i d;cases ag with
   |false=>cases a
   |true=>cases a;refine⟨λ_=>?_,λh=>by cases h⟩;unfold V iv;rw[d];exact⟨cs,rfl,dT.1 b⟩
  .rename_i d;cases ag with
   |false=>cases a;exact⟨λh=>(by cases h),λ_=>FR (by simpa using d) (dT.1 b)⟩
   |true=>cases a;exact⟨λ_=>yd.2 ⟨cs,rfl,b⟩,λh=>by cases h⟩
 .cases ag with
  |false=>cases a
  |true=>cases a;exact⟨λ_=>yd.2 ⟨cs,rfl,b⟩,λh=>by cases h⟩
theorem GU{t:Nat}{x:pI}{b o:Nat}{y:gK}{c:List HV}(e:cy.cx.ti.ap t=some x)(d:h.cp b=some y)(hg:cF y o x.size=some c):(x.agg=true->iw cy.cx h t (.ptr b o)=some (.val (.agg c) h))/\∀v,x.agg=false->c=[v]->iw cy.cx h t (.ptr b o)=some (.val v h):=by
 refine⟨λa=>?_,λv a i=>?_⟩;.unfold iw;simp only;rw[e];simp only;rw[d];simp only;rw[a,hg];rfl
 .
  subst i;have g:=g5 hg;unfold iw;simp only;rw[e];simp only;rw[d];simp only;have f:cF y o 1=some [v]:=by have:x.size=1:=g.symm;rw[this]at hg;exact hg
  rw[a,G4 f];rfl
theorem wy{t:Nat}{x:pI}{b o:Nat}{y:gK}{c:List SV}{cs:List HV}(n:cy.cx.ti.ap t=some x)(j:h.cp b=some y)(hg:cF y o x.size=some cs)(k:du E c cs)(l:oS (GF x.agg c) K=some r):Pu E h K r (iw cy.cx h t (.ptr b o)):=by obtain⟨s,i,d⟩:=jl l;obtain⟨f,g⟩:=GU (h:=h) n j hg;obtain⟨p,q⟩:=GE i k;cases a:x.agg with
 |true=>exact⟨s,_,f a,p a,d⟩
 |false=>obtain⟨v,e,m⟩:=q a;exact⟨s,v,g v a e,m,d⟩
theorem An{o:Option Nat}{n:Nat}{v:HV}(h:fO o n v):iP v=some [v]:=by unfold fO at h;cases o with
 |none=>rcases h.2 with rfl|rfl<;>rfl
 |some b=>rw[h];rfl
theorem EK{a:List SV}(h:wo a=true):dH a=[]:=by
 unfold wo at h;split at h;.assumption
 .cases h
theorem LU(M:dc S h E){n:Nat}{u:U}{c:List SV}{xs:List (D u)}{cs:List HV}(j:sM S.st FU (.im n u) c=some (xs,[]))(f:du E c cs)(i:wo c=true):xs.length=n/\nO (dY E.hp E.Z u) cs xs:=by obtain⟨k,l,a,b,d,_⟩:=qZ (k:=0) (Q:=E.Z) (E:=E) (λ_ h=>h) (λm e g=>M.hD m e (by rw[<-M.st];exact g)) (by rw[M.st];exact j) f (by unfold pN;exact EK i);unfold du at d;subst d;rw[bf]at a;subst a;unfold dY at b;exact b
theorem AU(M:dc S h E){t:Nat}{s:SV}{a:HV}(d:EV cy S t s K=some r)(f:V E s a):Pu E h K r (iw cy.cx h t a):=by
 unfold EV at d;split at d
 .
  rename_i x w0;split at d
  .
   rename_i m o;rw[lv]at f;obtain⟨_,b,C,rfl⟩:=f;split at d
   .
    rename_i z j9 l;split at d;.rename_i c A;obtain⟨e0,y,d0,q,y0,j0,i0,x0,v0⟩:=M.hD m _ l;rw[C]at q;cases q;obtain⟨q0,p0,o0,rfl,D,z0,u0⟩:=mN A v0;have:=fz x0 rfl D z0;rw[bi]at this;exact wy w0 (jK (by rw[<-M.hp];exact y0)) this u0 d
    .cases d
   .cases d
  .
   rename_i u v;rw[pG]at f;obtain⟨b,o,y,a9,rfl,h1,w9,v9,u9⟩:=f;rw[aH]at d;split at d
   .
    rename_i A;have a0:=aw A;split at d;.rename_i c A;obtain⟨q0,p0,o0,rfl,D,z0,u0⟩:=mN A (dT.2 (mE.2 u9));have:=fz v9 rfl D z0;rw[fu]at this;exact wy w0 (jK (by rw[<-M.hp];exact w9)) this u0 d
    .cases d
   .cases d
  .
   rename_i m i o;rw[nj]at f;obtain⟨_,_,f⟩:=f;split at d
   .
    rename_i e t0 l;obtain⟨w,k9,B⟩:=jq d;clear d;obtain⟨b,j,C,rfl,n0,rfl⟩:=f.1 e t0 (by rw[M.st];exact l);obtain⟨n,m0,k0⟩:=lL k9;cases m0;obtain⟨_,l0⟩:=M.hD m _ l;unfold gx at l0;rw[C]at l0;obtain⟨y,q,y0,j0,i0,x0⟩:=l0;obtain⟨d0,D,z0⟩:=x0 j w k0;split at B;.rename_i c A;obtain⟨q0,p0,o0,rfl,h0,g0,f0⟩:=mN A (dT.2 (mE.2 z0));exact wy w0 (jK (by rw[<-M.hp];exact q)) (fz D rfl h0 g0) f0 B
    .cases B
   .
    rename_i g e t0 l;rw[aH]at d;split at d
    .
     rename_i s0;simp only[ae]at s0;obtain⟨hin,B⟩:=ep d;obtain⟨b,j,C,rfl,n0,rfl⟩:=f.2 _ _ (by rw[M.st];exact l) rfl;obtain⟨q9,_,t9⟩:=M.hD m _ l;obtain⟨e0,y,q,y0,j0,i0,x0,v0,_⟩:=t9.b C;rw[C]at q;cases q;have c0:t0[j]?=some (t0[j]'n0):=G n0;obtain⟨k1,⟨w,i9,z9⟩,k4⟩:=v0 j _ c0;have n9:=aw s0.1;have a0:=aw s0.2.1;subst n9;have s9:x.agg=false:=by simpa using s0.2.2
     have r0:cF y (j+0) x.size=some [w]:=by rw[a0];exact i9
     refine⟨_,w,(GU (h:=h) w0 (jK (by rw[<-M.hp];exact y0)) r0).2 w s9 rfl,BG.2 ⟨by assumption,q9,An z9,λe' xs' b0=>?_⟩,B⟩;rw[M.st,l]at b0;cases b0;exact⟨j,_,rfl,c0,z9⟩
    .cases d
   .cases d
  .
   rename_i m o n u j p;rw[vP]at f;obtain⟨_,b,k,C,rfl,hkn,rfl⟩:=f;split at d
   .
    rename_i z j9 l;split at d
    .
     rename_i c A;split at d
     .
      rename_i t0 m9;rw[aH]at d;split at d
      .
       rename_i o9;obtain⟨v,l9,B⟩:=jq d;obtain⟨e0,y,d0,q,y0,j0,i0,x0,v0⟩:=M.hD m _ l;rw[C]at q;cases q;obtain⟨q0,p0,o0,rfl,D,z0,u0⟩:=mN A v0;have r0:=fz x0 rfl D z0;rw[bi]at r0;obtain⟨g1,x9⟩:=LU M m9 u0 o9;obtain⟨n',m0,k0⟩:=lL l9;cases m0;obtain⟨d9,c9,b9,y9,h0,g0,f0⟩:=lw (z:=u.size) (λ_ _ h=>h.len) x9 k0;have p9:=fz r0 y9 h0 g0;split at B;.rename_i e9 r9;obtain⟨f1,f2,f3,rfl,h9,g9,f9⟩:=mN r9 (dT.2 (mE.2 f0));exact wy w0 (jK (by rw[<-M.hp];exact y0)) (fz p9 rfl h9 g9) f9 B
       .cases B
      .cases d
     .cases d
    .cases d
   .cases d
  .cases d
 .cases d
theorem JJ{i s:SV}{b o:Nat}{y:gK}{c:List HV}(hi:JK i=some s)(e:E.Z b)(d:E.hp.ap b=some (.cp y))(hg:cF y o c.length=some c)(a:CR E i c):V E s (.ptr b o):=by
 unfold JK at hi;split at hi
 .
  rename_i l k x;cases hi;have a:dY E.hp E.Z (.int k) c x:=by unfold CR at a;unfold dY;exact a
  exact pG.2 ⟨b,o,y,c,rfl,e,d,by rw[<-a.len];exact hg,a⟩
 .
  rename_i l x;cases hi;have a:dY E.hp E.Z .bool c x:=by unfold CR at a;unfold dY;exact a
  exact pG.2 ⟨b,o,y,c,rfl,e,d,by rw[<-a.len];exact hg,a⟩
 .
  rename_i u x;cases hi;have a:dY E.hp E.Z u c x:=by unfold CR at a;exact a
  exact pG.2 ⟨b,o,y,c,rfl,e,d,by rw[<-a.len];exact hg,a⟩
 .cases hi
theorem G7(M:dc S h E){t i:Nat}{s:SV}{a:HV}(c:Fb cy S t s i K=some r)(d:V E s a):Pu E h K r (l7 cy.cx h t a i):=by
 unfold Fb at c;split at c
 .
  rename_i x o0;split at c
  .
   rename_i d0 p0;split at c
   .
    rename_i p z q0;have w:∀b o,l7 cy.cx h t (.ptr b o) i=some (.val (.ptr b (o+p)) h):=by intro b o;unfold l7;simp only;rw[o0];simp only;rw[p0];simp only;rw[q0];rfl
    split at c;.rename_i m o;rw[lv]at d;obtain⟨f,b,C,rfl⟩:=d;exact⟨_,_,w b o,lv.2 ⟨f,b,C,rfl⟩,c⟩
    .
     rename_i m j o;rw[nj]at d;obtain⟨f,D,B⟩:=d;split at c;.rename_i e k0 A;rw[<-M.st]at A;obtain⟨b,q,x0,w0,v0,rfl⟩:=B.1 e k0 A;refine⟨_,_,w b _,nj.2 ⟨f,rfl,λf0 c0 g=>?_,λt k g s0=>by rw[A]at g;cases g;cases s0⟩,c⟩;rw[A]at g;cases g;exact⟨b,q,x0,w0,v0,by show HV.ptr b (q*e.size+o+p)=HV.ptr b (q*e.size+(o+p));rw[gn]⟩
     .cases c
    .rename_i m o n u j q;rw[vP]at d;obtain⟨f,b,k,C,rfl,r0,rfl⟩:=d;exact⟨_,_,w b _,vP.2 ⟨f,b,k,C,rfl,r0,by show HV.ptr b (o+k*u.size+q+p)=HV.ptr b (o+k*u.size+(q+p));rw[gn]⟩,c⟩
    .
     rename_i u v;rw[pG]at d;obtain⟨b,o,y,g0,rfl,f,D,B,u0⟩:=d;obtain⟨n0,l,y0⟩:=jl c;unfold Vc at l;split at l;.rename_i e0 t0;obtain⟨j0,i0,h0,rfl,m0,z0,l0⟩:=mN t0 (dT.2 (mE.2 u0));exact⟨n0,_,w b o,JJ l f D (by rw[z0];exact fz B rfl m0 z0) (dT.1 l0),y0⟩
     .cases l
    .cases c
   .cases c
  .cases c
 .cases c
theorem nF{s:SV}{j:Nat}(a:uQ s=some j):∃k,s= .int true k (.ofNat j):=by
 unfold uQ at a;split at a;.cases a;exact⟨_,rfl⟩
 .cases a
theorem E4(M:dc S h E){t:Nat}{s i:SV}{a w:HV}(c:A8 cy S t s i K=some r)(D:V E s a)(hi:V E i w):Pu E h K r (fX cy.cx h t a w):=by
 unfold A8 at c;split at c
 .
  rename_i x s0;split at c
  .
   rename_i e u0;split at c
   .
    rename_i z t0;split at c
    .
     rename_i u z0 l k j;rw[d7]at hi;subst hi;rw[aH]at c;split at c
     .
      rename_i A;have A:=aw A;subst A;obtain⟨v,e0,w0⟩:=jq c;clear c;obtain⟨n,rfl,n0⟩:=lL e0;rw[nV]at D;have f:n<z0.length:=by have:=aj.1 n0;exact this.1
      have v0:Nat.blt n z0.length=true:=by simpa [dJ]using f
      rcases D with⟨z9,_⟩|⟨b,o,y,C,q0,d,h0,d0,g0⟩;.rw[z9]at f;cases f
      .obtain⟨b0,j0,i0⟩:=g0 n v n0;refine⟨_,.ptr b (o+n*u.size),?_,pG.2 ⟨b,o+n*u.size,y,b0,rfl,q0,d,j0,i0⟩,w0⟩;obtain⟨C,_⟩:=C;subst C;unfold fX;rw[s0];simp only[iY];rw[u0];simp only;rw[t0];simp only;rw[v0];rfl
     .cases c
    .
     rename_i m l k j;rw[d7]at hi;subst hi;split at c
     .
      rename_i u z0 B;rw[aH]at c;split at c
      .
       rename_i A;have A:=aw A;subst A;obtain⟨y0,w0⟩:=ep c;unfold aU at y0;simp only[ae,bB]at y0;obtain⟨n,rfl⟩:∃n:Nat,j=Int.ofNat n:=⟨_,pu y0.1⟩;have f:n<z0.length:=kJ.1 y0.2;have v0:Nat.blt n z0.length=true:=by simpa [dJ]using f
       rw[hG]at D;obtain⟨C,q0,d⟩:=D;rw[<-M.st]at B;have d:=d.1 u z0 B;unfold fO at d
       cases x0:E.mb m with
        |none=>rw[x0]at d;rw[d.1]at f;cases f
        |some b=>
        rw[x0]at d;subst d;refine⟨_,.ptr b (0+n*u.size),?_,nj.2 ⟨C,rfl,λl0 k0 p=>?_,λt k p r0=>by rw[B]at p;cases p;cases r0⟩,w0⟩;.unfold fX;rw[s0];simp only[iY];rw[u0];simp only;rw[t0];simp only;rw[v0];rfl
        .rw[B]at p;cases p;exact⟨b,n,x0,rfl,f,by rw[bi];rfl⟩
      .cases c
     .
      rename_i g u z0 B;rw[aH]at c;split at c
      .
       rename_i A;have A:=aw A;subst A;obtain⟨y0,w0⟩:=ep c;unfold aU at y0;simp only[ae,bB]at y0;obtain⟨n,rfl⟩:∃n:Nat,j=Int.ofNat n:=⟨_,pu y0.1⟩;have f:n<z0.length:=kJ.1 y0.2;have v0:Nat.blt n z0.length=true:=by simpa [dJ]using f
       rw[hG]at D;obtain⟨C,q0,d⟩:=D;obtain⟨_,_,y9⟩:=M.hD m _ B;obtain⟨b,y,m0,_⟩:=y9.p f;rw[<-M.st]at B;have d:=d.2 _ _ B rfl;unfold fO at d;rw[m0]at d;subst d;refine⟨_,.ptr b (0+n*1),?_,nj.2 ⟨C,rfl,λl0 k0 p=>(by rw[B]at p;cases p),λt k p r0=>?_⟩,w0⟩;.unfold fX;rw[s0];simp only[iY];rw[u0];simp only;rw[t0];simp only;rw[v0];rfl
       .rw[B]at p;cases p;cases r0;exact⟨b,n,m0,rfl,f,by rw[bi,gU];rfl⟩
      .cases c
     .
      rename_i u z0 q B;rw[aH]at c;split at c
      .
       rename_i A;have A:=aw A;subst A;obtain⟨y0,w0⟩:=ep c;unfold aU at y0;simp only[ae,bB]at y0;obtain⟨n,rfl⟩:∃n:Nat,j=Int.ofNat n:=⟨_,pu y0.1⟩;have f:n<z0.length:=kJ.1 y0.2;have v0:Nat.blt n z0.length=true:=by simpa [dJ]using f
       rw[hG]at D;obtain⟨C,q0,d⟩:=D;obtain⟨_,_,_,_,_,b,y,m0,_⟩:=M.hD m _ B;rw[<-M.st]at B;have d:=d.2 _ _ B rfl;unfold fO at d;rw[m0]at d;subst d;refine⟨_,.ptr b (0+n*1),?_,nj.2 ⟨C,rfl,λl0 k0 p=>(by rw[B]at p;cases p),λt k p r0=>?_⟩,w0⟩;.unfold fX;rw[s0];simp only[iY];rw[u0];simp only;rw[t0];simp only;rw[v0];rfl
       .rw[B]at p;cases p;cases r0;exact⟨b,n,m0,rfl,f,by rw[bi,gU];rfl⟩
      .cases c
     .cases c
    .
     rename_i m q l k j;rw[d7]at hi;subst hi;split at c
     .
      rename_i u z0 B;rw[aH]at c;split at c
      .
       rename_i A;have A:=aw A;subst A;obtain⟨y0,w0⟩:=ep c;unfold aU at y0;simp only[ae,bB]at y0;obtain⟨n,rfl⟩:∃n:Nat,j=Int.ofNat n:=⟨_,pu y0.1⟩;have f:n<(eS z0 0 q).length:=kJ.1 y0.2;rw[wV]at D;obtain⟨C,q0,d⟩:=D;rw[<-M.st]at B;obtain⟨o0,rfl,l9,d⟩:=d u z0 B;have w9:(eS z0 0 (Int.ofNat o0)).length=o0:=by show((z0.drop 0).take (o0-0)).length=o0;simp;omega
       rw[w9]at f;have v0:Nat.blt n o0=true:=by simpa [dJ]using f
       unfold fO at d
       cases x0:E.mb m with
        |none=>rw[x0]at d;omega
        |some b=>
        rw[x0]at d;subst d;refine⟨_,.ptr b (0+n*u.size),?_,nj.2 ⟨C,rfl,λl0 k0 p=>?_,λt k p r0=>by rw[B]at p;cases p;cases r0⟩,w0⟩;.unfold fX;rw[s0];simp only[iY];rw[u0];simp only;rw[t0];simp only;rw[v0];rfl
        .rw[B]at p;cases p;exact⟨b,n,x0,rfl,by omega,by rw[bi];rfl⟩
      .cases c
     .cases c
    .
     rename_i m o n;split at c
     .
      rename_i j p0;obtain⟨k,rfl⟩:=nF p0;rw[d7]at hi;subst hi;rw[aH]at c;split at c;.rename_i f;rw[tQ]at D;obtain⟨C,b,x0,rfl,_⟩:=D;refine⟨_,.ptr b (o+j*z),?_,lv.2 ⟨C,b,x0,rfl⟩,c⟩;unfold fX;rw[s0];simp only[iY];rw[u0];simp only;rw[t0];simp only;rw[f];rfl
      .cases c
     .cases c
    .
     rename_i m o n;split at c
     .
      rename_i j p0;obtain⟨k,rfl⟩:=nF p0;rw[d7]at hi;subst hi;rw[aH]at c;split at c;.rename_i f;rw[yc]at D;obtain⟨C,b,x0,rfl⟩:=D;refine⟨_,.ptr b (o+j*z),?_,lv.2 ⟨C,b,x0,rfl⟩,c⟩;unfold fX;rw[s0];simp only[iY];rw[u0];simp only;rw[t0];simp only;rw[f];rfl
      .cases c
     .cases c
    .cases c
   .cases c
  .
   rename_i n e u0;split at c
   .
    rename_i z t0;split at c
    .
     rename_i j9 u z0 l k j;rw[d7]at hi;subst hi;rw[aH]at c;split at c
     .
      rename_i A;simp only[ae]at A;have u9:=aw A.1;have t9:=aw A.2;subst u9;subst t9;obtain⟨v,e0,w0⟩:=jq c;clear c;obtain⟨q,rfl,n0⟩:=lL e0;rw[pG]at D;obtain⟨b,o,y,m9,rfl,C,q0,d,h0⟩:=D;unfold dY at h0;obtain⟨d0,g0⟩:=h0;have f:q<n:=by have:=aj.1 n0;rw[<-d0];exact this.1
      have v0:Nat.blt q n=true:=by simpa [dJ]using f
      obtain⟨o9,c0,n9,s9,r9,q9,p9⟩:=lw (z:=u.size) (λ_ _ h=>h.len) g0 n0;refine⟨_,.ptr b (o+q*u.size),?_,pG.2 ⟨b,o+q*u.size,y,c0,rfl,C,q0,fz d s9 r9 q9,p9⟩,w0⟩;unfold fX;rw[s0];simp only[iY];rw[u0];simp only;rw[t0];simp only;rw[v0];rfl
     .cases c
    .
     rename_i m o;split at c
     .
      rename_i j p0;obtain⟨k,rfl⟩:=nF p0;rw[d7]at hi;subst hi;rw[aH]at c;split at c;.rename_i f;rw[lv]at D;obtain⟨C,b,x0,rfl⟩:=D;refine⟨_,.ptr b (o+j*z),?_,lv.2 ⟨C,b,x0,rfl⟩,c⟩;unfold fX;rw[s0];simp only[iY];rw[u0];simp only;rw[t0];simp only;rw[f];rfl
      .cases c
     .
      split at c
      .
       rename_i l k j u k9 _;rw[d7]at hi;subst hi;rw[aH]at c;split at c
       .
        rename_i A;have A:=aw A;subst A;obtain⟨f0,w0⟩:=ep c;obtain⟨x9,v9⟩:=ep w0;have f0:0<=j:=by simpa [cR]using f0
        obtain⟨q,rfl⟩:∃q:Nat,j=Int.ofNat q:=⟨_,pu f0⟩;have f:q<n:=kJ.1 (br x9);have v0:Nat.blt q n=true:=by simpa [dJ]using f
        rw[lv]at D;obtain⟨C,b,x0,rfl⟩:=D;refine⟨_,.ptr b (o+q*u.size),?_,vP.2 ⟨C,b,q,x0,rfl,f,rfl⟩,v9⟩;unfold fX;rw[s0];simp only[iY];rw[u0];simp only;rw[t0];simp only;rw[v0];rfl
       .cases c
      .cases c
    .
     rename_i m k o;split at c
     .
      rename_i j p0;obtain⟨o0,rfl⟩:=nF p0;rw[d7]at hi;subst hi;rw[aH]at c;split at c
      .
       rename_i f;split at c
       .
        rename_i u z0 B;rw[nj]at D;obtain⟨C,q0,d⟩:=D;rw[<-M.st]at B;obtain⟨b,q,j0,i0,a0,rfl⟩:=d.1 u z0 B;refine⟨_,.ptr b (q*u.size+o+j*z),?_,nj.2 ⟨C,rfl,λl0 k0 p=>?_,λt k p r0=>by rw[B]at p;cases p;cases r0⟩,c⟩;.unfold fX;rw[s0];simp only[iY];rw[u0];simp only;rw[t0];simp only;rw[f];rfl
        .rw[B]at p;cases p;exact⟨b,q,j0,i0,a0,by show HV.ptr b (q*u.size+o+j*z)=HV.ptr b (q*u.size+(o+j*z));rw[gn]⟩
       .cases c
      .cases c
     .cases c
    .cases c
   .cases c
  .cases c
 .cases c
theorem G1{t:Nat}{s i:SV}{a w:HV}(b:E3 cy t s i K=some r)(f:V E s a)(hi:V E i w):Pu E h K r (l5 cy.cx h t a w):=by
 unfold E3 at b;split at b
 .
  rename_i x p;split at b
  .
   rename_i o;split at b
   .
    rename_i s l k j;rw[d7]at hi;rw[pF]at f;subst hi;subst f;obtain⟨c,d,y0⟩:=jq b;unfold atS at d;split at d
    .
     rename_i n;split at d;.rename_i q C;cases d;refine⟨_,.int .u8 (Int.ofNat q.toNat),?_,d7.2 rfl,y0⟩;unfold l5;simp only[iY];rw[p];simp only;rw[o];simp only;rw[C]
     .cases d
    .cases d
   .cases b
  .
   rename_i m e o;split at b
   .
    rename_i y w0;split at b
    .
     rename_i j z0;obtain⟨k,rfl⟩:=nF z0;rw[d7]at hi;subst hi;rw[aH]at b;split at b
     .
      rename_i g;rw[ae]at g;split at b
      .
       rename_i l0 D;split at b;.rename_i c d;obtain⟨s0,A,B⟩:=jl b;obtain⟨p0,r0,u,z,q0⟩:=li D f;have:=z g.1;subst this;obtain⟨o0,n0,m0,rfl,v0,k0,u0⟩:=mN d u;obtain⟨_,t0⟩:=GE A u0;obtain⟨v,rfl,x0⟩:=t0 rfl;refine⟨s0,v,?_,x0,B⟩;unfold l5;simp only[iY];rw[p];simp only;rw[o];simp only;rw[w0];simp only;rw[g.2];rw[bA (by omega),v0,dW];rfl
       .cases b
      .cases b
     .cases b
    .cases b
   .cases b
  .cases b
 .cases b
def PV(E:En):List (Nat×SV)->List (Nat×HV)->Prop|[],l=>l=[]|(i,s)::r,l=>∃v q,l=(i,v)::q/\V E s v/\PV E r q
theorem xU(b:dB S h E):∀{ps:List (Nat×Operand)}{l:List (Nat×SV)},Hb S ps=some l->∃q,gR h ps=some q/\PV E l q
 |[],l,a=>by cases a;exact⟨[],rfl,rfl⟩
 |(i,x)::ps,l,a=>by
  unfold Hb at a;split at a
  .
   rename_i s g;split at a;.rename_i k j;cases a;obtain⟨v,c,d⟩:=bV b g;obtain⟨q,e,f⟩:=xU b j;exact⟨(i,v)::q,by unfold gR;rw[c,e],v,q,rfl,d,f⟩
   .cases a
  .cases a
theorem yx:∀{c c1 c2 c3:List HV},c2.length=c.length->rJ (c1++(c2++c3)) c1.length c=c1++(c++c3)
 |[],c1,c2,c3,a=>by
  have:c2=[]:=by cases c2 with
   |nil=>rfl
   |cons _ _=>cases a
  subst this;rfl
 |v::c,c1,[],c3,a=>by cases a
 |v::c,c1,w::c2,c3,a=>by
  show rJ ((c1++(w::c2++c3)).set c1.length v) (c1.length+1) c=_;have e:(c1++(w::c2++c3)).set c1.length v=c1++[v]++(c2++c3):=by rw[nl _ _ (au _),dW];simp
  rw[e];have:=yx (c:=c) (c1:=c1++[v]) (c2:=c2) (c3:=c3) (by simpa using a);rw[ax]at this;rw[show c1.length+1=c1.length+[v].length from rfl,this];simp
theorem rZ{j:Nat->Option (Nat×Nat)}:∀{ps:List (Nat×SV)}{e:List (Nat×HV)}{d l:List SV}{cs:List HV},xQ j d ps=some l->PV E ps e->du E d cs->∃c,rY j cs e=some c/\du E l c
 |[],e,d,l,cs,a,b,f=>by cases a;unfold PV at b;subst b;exact⟨cs,rfl,f⟩
 |(i,s)::ps,e,d,l,cs,a,b,f=>by
  unfold PV at b;obtain⟨v,q,rfl,z0,D⟩:=b;unfold xQ at a;split at a
  .
   rename_i o z B;split at a
   .
    rename_i c A;rw[aH]at a;split at a
    .
     rename_i g;have g:=aw g;split at a
     .
      rename_i t0 C;obtain⟨k,y,t,_,_⟩:=li A z0;obtain⟨m,n,p,rfl,y0,x0,w0⟩:=q8 C f t;have u:k.length=z:=by rw[t.len,g]
      obtain⟨w,v0,u0⟩:=rZ a D w0;refine⟨w,?_,u0⟩;unfold rY;rw[B];simp only;rw[y];simp only;have x:(Nat.beq k.length z&&Nat.ble (Nat.add o z) (m++(n++p)).length)=true:=by rw[ae];refine⟨by simp[u],?_⟩;simp only[bO,ax];show o+z<=_;omega
      rw[x];show rY j (rJ (m++(n++p)) o k) q=some w;rw[<-y0,yx (by rw[x0,u])];exact v0
     .cases a
    .cases a
   .cases a
  .cases a
theorem Hx{t:Nat}{ps:List (Nat×SV)}{k:List (Nat×HV)}(a:Fq cy t ps K=some r)(hp:PV E ps k):Pu E h K r (ky cy.cx h t k):=by
 unfold Fq at a;split at a
 .
  rename_i x i;split at a
  .
   rename_i z j;split at a
   .
    rename_i o g;split at a;.rename_i l f;obtain⟨c,b,d⟩:=rZ f hp (mB z);refine⟨_,.agg c,?_,yd.2 ⟨c,rfl,d⟩,a⟩;unfold ky;rw[i];simp only;rw[j];simp only;rw[g];simp only;rw[b]
    .cases a
   .
    rename_i n e g;split at a
    .
     rename_i q m;split at a;.rename_i l f;obtain⟨c,b,d⟩:=rZ f hp (mB z);refine⟨_,.agg c,?_,yd.2 ⟨c,rfl,d⟩,a⟩;unfold ky;rw[i];simp only;rw[j];simp only;rw[g];simp only;rw[m];simp only;rw[b]
     .cases a
    .cases a
   .cases a
  .cases a
 .cases a
theorem nB{o:Option Nat}{n:Nat}{v:HV}(h:fO o n v):lenOf v=some n:=by
 unfold fO at h
 cases o with
  |none=>
  obtain⟨a,rfl|rfl⟩:=h;.rw[a];rfl
  .rw[a];rfl
  |some b=>rw[h];rfl
theorem xx{o:Option Nat}{n:Nat}{s:ByteArray}(h:fO o n (.ef s)):False:=by unfold fO at h;cases o with
 |none=>rcases h.2 with h|h<;>cases h
 |some b=>cases h
theorem GX(M:dc S h E){s i:SV}{v:HV}(c:zu S s=some i)(a:V E s v):∃n,lenOf v=some n/\V E i (.int .i64 (Int.ofNat n)):=by
 unfold zu at c;split at c;.cases c;rw[pF]at a;subst a;exact⟨_,rfl,d7.2 rfl⟩
 .
  rename_i u e;cases c;rw[nV]at a;refine⟨e.length,?_,d7.2 rfl⟩;rcases a with⟨rfl,rfl|rfl|rfl⟩|⟨b,o,y,⟨j,_⟩,_⟩;.rfl
  .rfl
  .rfl
  .subst j;rfl
 .cases c;rw[kW]at a;subst a;exact⟨0,rfl,d7.2 rfl⟩
 .
  cases c;rw[pH]at a;rcases a with rfl|rfl;.exact⟨0,rfl,d7.2 rfl⟩
  .exact⟨0,rfl,d7.2 rfl⟩
 .cases c;rw[tQ]at a;obtain⟨_,b,_,rfl,_⟩:=a;exact⟨_,rfl,d7.2 rfl⟩
 .cases c;rw[yc]at a;obtain⟨_,b,_,rfl⟩:=a;exact⟨_,rfl,d7.2 rfl⟩
 .
  rename_i m q;split at c;.rename_i u e d;cases c;rw[wV]at a;obtain⟨_,_,f⟩:=a;rw[<-M.st]at d;obtain⟨k,rfl,_,f⟩:=f u e d;exact⟨k,nB f,d7.2 rfl⟩
  .cases c
 .
  rename_i m;split at c;.rename_i u e d;cases c;rw[hG]at a;obtain⟨_,_,f⟩:=a;rw[<-M.st]at d;exact⟨e.length,nB (f.1 u e d),d7.2 rfl⟩
  .rename_i g u e d;cases c;rw[hG]at a;obtain⟨_,_,f⟩:=a;rw[<-M.st]at d;exact⟨e.length,nB (f.2 _ _ d rfl),d7.2 rfl⟩
  .cases c
 .cases c
theorem Nr(M:dc S h E){t:Nat}{s:SV}{v:HV}(f:JA cy S t s K=some r)(a:V E s v):Pu E h K r (ff cy.cx h .len [t] [v]):=by
 unfold JA at f;rw[aH]at f;split at f
 .
  rename_i B;obtain⟨x,C,p⟩:=nH B;obtain⟨D,c,z⟩:=jl f;obtain⟨n,d,w⟩:=GX M c a;refine⟨D,.int .i64 (Int.ofNat n),?_,w,z⟩;unfold ff;simp only;rw[C];simp only;split at p;.rename_i l;rw[pF]at a;subst a;rw[l];cases d;rfl
  .cases p
  .
   rename_i e l A;rw[l]
   cases v with
    |ef b=>
    exfalso;unfold zu at c;split at c;.exact A _ rfl
    .rw[nV]at a;rcases a with⟨_,h|h|h⟩|⟨b,o,y,⟨h,_⟩,_⟩<;>cases h
    .rw[kW]at a;cases a
    .rw[pH]at a;rcases a with h|h<;>cases h
    .rw[tQ]at a;obtain⟨_,b,_,h,_⟩:=a;cases h
    .rw[yc]at a;obtain⟨_,b,_,h⟩:=a;cases h
    .
     rename_i m q;split at c;.rename_i u j i;rw[wV]at a;obtain⟨k,_,_,this⟩:=a.2.2 u j (by rw[M.st];exact i);exact xx this
     .cases c
    .
     rename_i m;split at c;.rename_i u j i;rw[hG]at a;exact xx (a.2.2.1 u j (by rw[M.st];exact i))
     .rename_i g u j i;rw[hG]at a;exact xx (a.2.2.2 _ _ (by rw[M.st];exact i) rfl)
     .cases c
    .cases c
    |_=>first|(simp only;rw[d];done)|(cases d;done)|(simp only[lenOf]at d⊢;cases d;rfl)
  .cases p
 .cases f
theorem GL{f:Bool}{l:List SV}{k:List HV}{s:SV}(c:SU f l=some s)(j:Vs E l k):∃v,wv f k=some v/\V E s v:=by
 unfold SU at c;split at c;.rename_i m a n b;cases c;unfold Vs at j;obtain⟨q,o,rfl,d,g⟩:=j;unfold Vs at g;obtain⟨t,p,rfl,e,i⟩:=g;unfold Vs at i;subst i;have d:=d7.1 d;have e:=d7.1 e;subst d;subst e;refine⟨_,rfl,d7.2 ?_⟩;unfold bK UW;cases f<;>cases decide (a<=b)<;>rfl
 .cases c
theorem Jj{c:SV}{w:HV}{a b:Option SV}{x y:Option HV}(d:Pa c a b K=some r)(z:V E c w)(t:∀s,a=some s->∃v,x=some v/\V E s v)(u:∀s,b=some s->∃v,y=some v/\V E s v):Pu E h K r (ql h w x y):=by
 cases c with
  |bool l q=>
  rw[ix]at z;subst z
  cases l with
   |true=>
   have d:(bif q then oS a K else oS b K)=some r:=by cases a<;>cases b<;>exact d
   cases q with
    |true=>obtain⟨s,e,j⟩:=jl d;obtain⟨v,rfl,g⟩:=t s e;exact⟨s,v,rfl,g,j⟩
    |false=>obtain⟨s,e,j⟩:=jl d;obtain⟨v,rfl,g⟩:=u s e;exact⟨s,v,rfl,g,j⟩
   |false=>
   cases a with
    |none=>cases b<;>cases d
    |some a=>
    cases b with
     |none=>cases a<;>cases d
     |some b=>
     obtain⟨v,rfl,g⟩:=t _ rfl;obtain⟨D,rfl,i⟩:=u _ rfl
     have C:ad q (K a) (K b)=some r->Pu E h K r (ql h (.bool q) (some v) (some D)):=by
      intro d;rcases rq d with⟨rfl,e⟩|⟨rfl,e⟩;.exact⟨_,_,rfl,g,e⟩
      .exact⟨_,_,rfl,i,e⟩
     by_cases A:∃l k n B o p,a= .int l k n/\b= .int B o p
     .
      obtain⟨l,k,n,B,o,p,rfl,rfl⟩:=A;have f:(bif qe k o then K (.int false k (UQ q n p))else none)=some r:=d;rw[aH]at f;split at f
      .rename_i m;have m:=tv m;subst m;rw[d7]at g i;subst g;subst i;cases q with
       |true=>exact⟨_,_,rfl,d7.2 rfl,f⟩
       |false=>exact⟨_,_,rfl,d7.2 rfl,f⟩
      .cases f
     .
      apply C;cases a<;>first|exact d|skip
      cases b<;>first|exact d|exact absurd ⟨_,_,_,_,_,_,rfl,rfl⟩ A
  |_=>cases a<;>cases b<;>cases d
theorem OJ{op:UnOp}{s d:SV}{v:HV}(a:VM op s=some d)(c:V E s v):∃w,yL h op v=some (.val w h)/\V E d w:=by
 unfold VM at a;split at a;.rename_i l b;cases a;rw[ix]at c;subst c;refine⟨_,rfl,ix.2 ?_⟩;cases l<;>rfl
 .
  rename_i l k n;cases a;rw[d7]at c;subst c;refine⟨_,rfl,?_⟩;cases l;.exact d7.2 rfl
  .exact d7.2 rfl
 .cases a
theorem Nd(M:dc S h E){s f:SV}{v:HV}(c:Pn S s=some f)(a:V E s v):∃w,vK h v=some (.val w h)/\V E f w:=by
 unfold Pn at c;split at c;.cases c;have d:=a;rw[lv]at a;obtain⟨_,b,_,rfl⟩:=a;exact⟨_,rfl,d⟩
 .
  rename_i m i o;split at c;.rename_i e k g;cases c;have d:=a;rw[nj]at a;obtain⟨b,j,_,_,_,rfl⟩:=a.2.2.1 e k (by rw[M.st];exact g);exact⟨_,rfl,d⟩
  .cases c
 .cases c;have d:=a;rw[pG]at a;obtain⟨b,o,_,_,rfl,_⟩:=a;exact⟨_,rfl,d⟩
 .cases c
theorem Fy:∀{l:List SV}{c:List HV}{i:Nat}{s:SV},Vs E l c->l[i]?=some s->∃v,c[i]?=some v/\V E s v
 |[],_,_,_,_,b=>by simp at b
 |a::l,c,i,s,d,b=>by unfold Vs at d;obtain⟨v,r,rfl,g,j⟩:=d;cases i with
  |zero=>simp only[jF,eL]at b;subst b;exact⟨v,rfl,g⟩
  |succ i=>simp only[dD]at b;obtain⟨w,e,f⟩:=Fy j b;exact⟨w,by simpa using e,f⟩
theorem Ck{s c:SV}{v:HV}{i:Nat}(a:xT s i=some c)(b:V E s v):∃w,ln h v i=some (.val w h)/\V E c w:=by
 unfold xT at a;split at a;.rename_i l;rw[BF]at b;obtain⟨f,rfl,b⟩:=b;obtain⟨w,d,e⟩:=Fy b a;refine⟨w,?_,e⟩;unfold ln;simp only;rw[d]
 .cases a
end
theorem fV{y:gK}:∀{k o:Nat}{l:List HV},cF y o k=some l↔l.length=k∧∀i,i<k→o+i<y.n∧y.c.ap (o+i)=l[i]?
 |0,o,l=>by
  constructor;·intro h;cases h;exact⟨rfl,fun i c=>by cases c⟩
  ·rintro⟨h,_⟩;cases l with
   |nil=>rfl
   |cons _ _=>cases h
 |k+1,o,l=>by
  constructor;·intro h;obtain⟨a,b⟩:=qi h;refine⟨a,fun i c=>?_⟩;have e:l[i]?=some (l[i]'(by omega)):=G (by omega);obtain⟨g,j⟩:=b i _ e;exact⟨g,by rw[j,e]⟩
  ·
   rintro⟨a,b⟩
   cases l with
    |nil=>cases a
    |cons v l=>
    have d:=b 0 (by omega);have n:=(fV (y:=y) (k:=k) (o:=o+1) (l:=l)).2 ⟨by simpa using a,fun i c=>by have:=b (i+1) (by omega);rw[show o+(i+1)=o+1+i by omega]at this;simpa using this⟩
    have m:y.ap o=some v:=by
     unfold gK.ap;have f:Nat.blt o y.n=true:=by have:=d.1;rw[dJ];omega
     rw[f];have:=d.2;simpa using this
    show(match y.ap o with
     |some v=>match cF y (o+1) k with|some l=>some (v::l)|none=>none
     |none=>none)=_
    rw[m,n]
theorem vH{y:gK}{w:Bool}{z n a k:Nat}{c c1 c2 c3:List HV}(hg:cF y a k=some (c1++(c2++c3)))(h:c2.length=c.length)(m:y.n<=n):cF ⟨w,z,n,cr y.c (a+c1.length) c⟩ a k=some (c1++(c++c3)):=by
 rw[fV]at hg⊢;obtain⟨f,g⟩:=hg;simp only[ax]at f⊢;refine⟨by omega,λi j=>?_⟩;obtain⟨l,e⟩:=g i j;refine⟨by show a+i<n;omega,?_⟩;show(cr y.c (a+c1.length) c).ap (a+i)=_;rw[gq];by_cases d:a+c1.length<=a+i/\a+i<a+c1.length+c.length;.rw[aA d];rw[bA (by omega),bL (by omega)];congr 1;omega
 .
  rw[aB d,e];by_cases b:i<c1.length;.rw[bL b,bL b]
  .rw[bA (by omega),bA (by omega),bA (by omega),bA (by omega),h]
theorem od{y:gK}{w:Bool}{z n a k p:Nat}{c l:List HV}(hg:cF y a k=some l)(hd:a+k<=p\/p+c.length<=a)(h:a+k<=n):cF ⟨w,z,n,cr y.c p c⟩ a k=some l:=by rw[fV]at hg⊢;obtain⟨d,e⟩:=hg;refine⟨d,λi f=>?_⟩;obtain⟨g,b⟩:=e i f;refine⟨by show a+i<n;omega,?_⟩;show(cr y.c p c).ap (a+i)=_;rw[gq,aB (by omega),b]
theorem il{T:Tr HV}{w:Bool}{z n p:Nat}{c:List HV}(b:p+c.length<=n):cF ⟨w,z,n,cr T p c⟩ p c.length=some c:=by rw[fV];refine⟨rfl,λi a=>⟨by show p+i<n;omega,?_⟩⟩;show(cr T p c).ap (p+i)=_;rw[gq,aA (by omega)];congr 1;omega
theorem rh{i n z:Nat}(h:i<n):i*z+z<=n*z:=by have:=co z (Nat.succ_le_of_lt h);rw[ig]at this;exact this
section
variable{α:Type}{R:List HV->α->Prop}
theorem FD{y:gK}{z:Nat}(k:∀c x,R c x->c.length=z):∀{xs:List α}{o:Nat},(∀i x,xs[i]?=some x->∃cs,cF y (o+i*z) z=some cs/\R cs x)->∃cs,cF y o (xs.length*z)=some cs/\nO R cs xs
 |[],o,_=>⟨[],by rw[fZ,fP];rfl,rfl⟩
 |x::xs,o,h=>by obtain⟨c,a,f⟩:=h 0 x (by simp);obtain⟨d,g,j⟩:=FD k (xs:=xs) (o:=o+z) (λi w l=>by obtain⟨cs,b,e⟩:=h (i+1) w (by simpa using l);refine⟨cs,?_,e⟩;rw[show o+z+i*z=o+(i+1)*z by rw[ig];omega];exact b);rw[fP,fu]at a;refine⟨c++d,?_,⟨c,d,rfl,f,j⟩⟩;rw[bp,ig,Nat.add_comm];exact qj.2 ⟨c,d,rfl,a,g⟩
theorem Gp{y:gK}{w:Bool}{z z' n:Nat}{xs bP:List α}{c:List HV}(b:∀c x,R c x->c.length=z)(h:∀i x,xs[i]?=some x->∃cs,cF y (i*z) z=some cs/\R cs x)(d:nO R c bP)(l:(xs.length+bP.length)*z<=n)(i:Nat)(x:α)(a:(xs++bP)[i]?=some x):∃cs,cF ⟨w,z',n,cr y.c (xs.length*z) c⟩ (i*z) z=some cs/\R cs x:=by
 have t:=nk b d;rw[fY]at l;by_cases e:i<xs.length;.rw[bL e]at a;obtain⟨cs,g,j⟩:=h i x a;have:=rh (z:=z) e;exact⟨cs,od g (.inl this) (by omega),j⟩
 .rw[bA (by omega)]at a;obtain⟨r,f,s,m,o,p,q⟩:=lw b d a;refine⟨f,?_,q⟩;have k:=il (T:=y.c) (w:=w) (z:=z') (n:=n) (p:=xs.length*z) (c:=c) (by omega);have:=fz k m o p;rw[<-fY,show xs.length+(i-xs.length)=i by omega]at this;exact this
theorem O5{y:gK}{w:Bool}{z z' n j p:Nat}{xs:List α}{t e:α}{c c1 c2 c3:List HV}(h:∀i x,xs[i]?=some x->∃cs,cF y (i*z) z=some cs/\R cs x)(r:xs[j]?=some t)(hg:cF y (j*z) z=some (c1++(c2++c3)))(hp:c1.length=p)(l:c2.length=c.length)(g:R (c1++(c++c3)) e)(q:y.n<=n)(i:Nat)(x:α)(a:(xs.set j e)[i]?=some x):∃cs,cF ⟨w,z',n,cr y.c (j*z+p) c⟩ (i*z) z=some cs/\R cs x:=by
 have m:j<xs.length:=(aj.1 r).1;have o:=g5 hg;simp only[ax]at o;by_cases d:i=j;.subst d;rw[be m]at a;cases a;subst hp;exact⟨_,vH hg l q,g⟩
 .
  rw[bz λh=>d h.symm]at a;obtain⟨cs,b,f⟩:=h i x a
  have k:i*z+z<=n:=by
   rw[fV]at b;by_cases s:z=0;.subst s;rw[fV]at hg;omega
   .have:=(b.2 (z-1) (by omega)).1;omega
  refine⟨cs,od b ?_ k,f⟩;rcases lW d with h|h;.have:=rh (z:=z) h;exact .inl (by omega)
  .have:=rh (z:=z) h;exact .inr (by omega)
end
section
variable{S:SS}{h:St}{E:En}
def uA(E:En)(hp':Tr Hm.Obj)(n:Nat)(o:Option Nat)(q:Nat->Option Nat)(st:Tr iK):En:=⟨hp',E.Z,λj=>bif Nat.beq j n then o else E.mb j,λj k=>bif Nat.beq j n then q k else E.ib j k,st,n+1⟩
def Nh(E:En)(hp':Tr Hm.Obj)(n:Nat)(o:Option Nat)(st:Tr iK):En:=uA E hp' n o (λ_=>none) st
theorem jD{a b:Nat}(h:a≠b):Nat.beq a b=false:=by cases c:Nat.beq a b with
 |false=>rfl
 |true=>exact absurd (aw c) h
theorem yP(M:dc S h E){st1:Tr iK}{hp':Tr Hm.Obj}{nx':Nat}{o:Option Nat}{q:Nat→Option Nat}{e:iK}(h1:∀j e,st1.ap j=some e→S.st.ap j=some e)(h2:∀j,S.st.ap j≠none→st1.ap j=none→S.jU j=true)(z:∀b,b<h.nx→hp'.ap b=h.hp.ap b∨∃j e,S.st.ap j=some e∧Bk E j b∧st1.ap j=none)(p0:h.nx≤nx')(v9:∀b,nx'≤b→hp'.ap b=none)(r0:e.rn=none→∀k,q k=none)(v0:∀b,(o=some b∨∃k,q k=some b)→b<nx'∧(h.nx≤b∨∃j e,S.st.ap j=some e∧Bk E j b∧st1.ap j=none∧bu j S.lk=false))(w9:(∀u cs x,dY E.hp E.Z u cs x→dY hp' E.Z u cs x)→(∀h0 cs,du E h0 cs→du (uA E hp' S.nx o q (st1.set S.nx e)) h0 cs)→oN (uA E hp' S.nx o q (st1.set S.nx e)) S.nx e):dc (S.mem (st1.set S.nx e) (Nat.add S.nx 1)) ⟨h.nt,h.dC,hp',nx',h.lk,h.df⟩ (uA E hp' S.nx o q (st1.set S.nx e))∧Gr S h E (S.mem (st1.set S.nx e) (Nat.add S.nx 1)) ⟨h.nt,h.dC,hp',nx',h.lk,h.df⟩ (uA E hp' S.nx o q (st1.set S.nx e)):=by
 have l0:∀j,(st1.set S.nx e).ap j=if j=S.nx then some e else st1.ap j:=fun j=>Tr.dk _ _ _ _
 have m:∀j c,(st1.set S.nx e).ap j=some c→j=S.nx∧c=e∨j≠S.nx∧st1.ap j=some c∧S.st.ap j=some c:=by
  intro j c a;rw[l0]at a;split at a;·cases a;exact .inl ⟨by assumption,rfl⟩
  ·exact .inr ⟨by assumption,a,h1 j c a⟩
 have n0:∀j,j≠S.nx→(uA E hp' S.nx o q (st1.set S.nx e)).mb j=E.mb j:=by intro j a;show(bif Nat.beq j S.nx then o else E.mb j)=_;rw[jD a];rfl
 have s9:(uA E hp' S.nx o q (st1.set S.nx e)).mb S.nx=o:=by show(bif Nat.beq S.nx S.nx then o else E.mb S.nx)=_;rw[show Nat.beq S.nx S.nx=true by simp];rfl
 have x0:∀j,j≠S.nx→∀k,(uA E hp' S.nx o q (st1.set S.nx e)).ib j k=E.ib j k:=by intro j a k;show(bif Nat.beq j S.nx then q k else E.ib j k)=_;rw[jD a];rfl
 have e0:∀k,(uA E hp' S.nx o q (st1.set S.nx e)).ib S.nx k=q k:=by intro k;show(bif Nat.beq S.nx S.nx then q k else E.ib S.nx k)=_;rw[show Nat.beq S.nx S.nx=true by simp];rfl
 have A:∀j,j≠S.nx→∀b,Bk (uA E hp' S.nx o q (st1.set S.nx e)) j b↔Bk E j b:=by
  intro j a b;unfold Bk;rw[n0 j a];constructor
  ·
   rintro(g|⟨k,g⟩);·exact .inl g
   ·rw[x0 j a]at g;exact .inr ⟨k,g⟩
  ·
   rintro(g|⟨k,g⟩);·exact .inl g
   ·exact .inr ⟨k,by rw[x0 j a];exact g⟩
 have y0:∀b,Bk (uA E hp' S.nx o q (st1.set S.nx e)) S.nx b↔o=some b∨∃k,q k=some b:=by intro b;unfold Bk;rw[s9];simp only[e0]
 have c0:∀b,E.Z b→hp'.ap b=E.hp.ap b:=by
  intro b w;rw[M.hp];rcases z b (M.z b w)with g|⟨j,c,s,l,_⟩;·exact g
  ·exact absurd w (M.own j c b s l).1
 have f:Fm E.nx E (uA E hp' S.nx o q (st1.set S.nx e)):=⟨fun _ z=>z,c0,by rw[M.nx];exact dg _,fun j a=>n0 j (by rw[M.nx]at a;omega),fun j u u0 a v=>by
  rw[M.nx]at a;rcases m j _ v with⟨g,_⟩|⟨_,_,g⟩;·omega
  ·exact⟨u0,by rw[M.st];exact g,rfl⟩,fun j t k a v k0=>by
  rw[M.nx]at a;rcases m j _ v with⟨g,_⟩|⟨_,_,g⟩;·omega
  ·exact⟨t,by rw[M.st];exact g,k0⟩,fun j a0 u u0 a _ v=>by
  rw[M.nx]at a;rcases m j _ v with⟨g,_⟩|⟨_,_,g⟩;·omega
  ·exact⟨u0,by rw[M.st];exact g,gb.refl,x0 j (by omega)⟩⟩
 have z9:=w9 (fun u cs x i0=>i0.mono (fun _ z=>z) c0) fun h0 cs i0=>du.fm f (.inl rfl) i0;constructor
 ·
  refine⟨rfl,rfl,rfl,fun j c a=>?_,fun j c a=>?_,fun i j f0 z0 b u9 a t0 s0=>?_,fun j c b a d=>?_,fun b w=>aP (M.z b w) p0,v9,fun b w0=>⟨aP (M.lk b w0).1 p0,fun j c a d=>?_⟩,fun j b d=>?_,fun j c a d0=>?_⟩
  ·
   show j<S.nx+1;rcases m j _ a with⟨g,_⟩|⟨_,_,g⟩;·omega
   ·have:=M.lt j c g;omega
  ·
   rcases m j _ a with⟨rfl,rfl⟩|⟨n,s,l⟩;·exact z9
   ·
    refine(M.hD j c l).fm f (n0 j n) (x0 j n) fun b d=>?_;show hp'.ap b=E.hp.ap b;rw[M.hp];rcases z b (M.own j c b l d).2 with g|⟨r,p,B,y,m0⟩;·exact g
    ·have:=M.inj j r c p b l B d y;subst this;rw[m0]at s;cases s
  ·
   have b0:∀j z0,st1.ap j=some z0→S.st.ap j=some z0→Bk E j b→(o=some b∨∃k,q k=some b)→False:=by
    intro j z0 q0 B y m0;rcases(v0 b m0).2 with g|⟨r,p,C,D,o0,_⟩;·have:=(M.own j z0 b B y).2;omega
    ·have:=M.inj j r z0 p b B C y D;subst this;rw[o0]at q0;cases q0
   rcases m i _ u9 with⟨rfl,rfl⟩|⟨n,s,l⟩
   ·
    rcases m j _ a with⟨rfl,rfl⟩|⟨q0,B,y⟩;·rfl
    ·rw[y0]at t0;rw[A j q0]at s0;exact(b0 j z0 B y s0 t0).elim
   ·
    rcases m j _ a with⟨rfl,rfl⟩|⟨q0,B,y⟩;·rw[y0]at s0;rw[A i n]at t0;exact(b0 i f0 s l t0 s0).elim
    ·rw[A i n]at t0;rw[A j q0]at s0;exact M.inj i j f0 z0 b l y t0 s0
  ·
   rcases m j _ a with⟨rfl,rfl⟩|⟨n,s,l⟩
   ·
    rw[y0]at d;refine⟨fun w=>?_,(v0 b d).1⟩;have w:E.Z b:=w;rcases(v0 b d).2 with g|⟨r,p,C,D,o0,_⟩;·have:=M.z b w;omega
    ·exact(M.own r p b C D).1 w
   ·rw[A j n]at d;exact⟨(M.own j c b l d).1,aP (M.own j c b l d).2 p0⟩
  ·
   rcases m j _ a with⟨rfl,rfl⟩|⟨n,s,l⟩
   ·
    rw[y0]at d;rcases(v0 b d).2 with g|⟨r,p,C,D,o0,g0⟩;·have:=(M.lk b w0).1;omega
    ·have:=(M.lk b w0).2 r p C D;rw[g0]at this;cases this
   ·rw[A j n]at d;exact(M.lk b w0).2 j c l d
  ·
   by_cases a:j=S.nx;·subst a;rw[y0]at d;exact(v0 b d).1
   ·rw[A j a]at d;exact aP (M.rN j b d) p0
  ·
   rcases m j _ a with⟨rfl,rfl⟩|⟨n,s,l⟩;·exact fun k=>(e0 k).trans (r0 d0 k)
   ·intro k;rw[x0 j n];exact M.tk j c l d0 k
 ·
  refine⟨rfl,rfl,rfl,rfl,rfl,rfl,rfl,rfl,p0,dg _,fun _ z=>z,fun b w=> .inl w,fun b t9 j0=>?_,fun b j0=>?_,fun j a=>n0 j (by omega),fun j a y9=>?_,fun j a x9=>?_,fun j u u0 a v=>?_,fun b j c w0 a d=>?_,fun j t k a v k0=>?_,fun j a0 u u0 a _ v=>?_,fun j a _=>x0 j (by omega)⟩
  ·
   rcases z b t9 with g|⟨r,p,B,y,m0⟩;·exact g
   ·exact absurd ⟨r,p,B,y⟩ j0
  ·
   obtain⟨j,c,a,d⟩:=j0;rcases m j _ a with⟨rfl,rfl⟩|⟨n,s,l⟩
   ·
    rw[y0]at d;rcases(v0 b d).2 with g|⟨r,p,C,D,o0,_⟩;·exact .inr g
    ·exact .inl ⟨r,p,C,D⟩
   ·rw[A j n]at d;exact .inl ⟨j,c,l,d⟩
  ·show(st1.set S.nx e).ap j=_;rw[l0,aB (by omega)];cases r0:st1.ap j with
   |some c=>exact(h1 j c r0).symm
   |none=>cases r9:S.st.ap j with
   |none=>rfl
   |some c=>have:=h2 j (by rw[r9];exact fun h=>by cases h) r0;rw[y9]at this;cases this
  ·show(st1.set S.nx e).ap j=_;rw[l0,aB (by omega)];cases r0:st1.ap j with
   |some c=>have:=h1 j c r0;rw[x9]at this;cases this
   |none=>rfl
  ·
   rcases m j _ v with⟨g,_⟩|⟨_,_,g⟩;·omega
   ·exact⟨u0,g,rfl⟩
  ·
   rcases m j _ a with⟨rfl,rfl⟩|⟨n,s,l⟩
   ·
    rw[y0]at d;rcases(v0 b d).2 with g|⟨r,p,C,D,o0,g0⟩;·have:=(M.lk b w0).1;omega
    ·have:=(M.lk b w0).2 r p C D;rw[g0]at this;cases this
   ·rw[A j n]at d;exact⟨c,l,d⟩
  ·
   rcases m j _ v with⟨g,_⟩|⟨_,_,g⟩;·omega
   ·exact⟨t,g,k0⟩
  ·
   rcases m j _ v with⟨g,_⟩|⟨_,_,g⟩;·omega
   ·exact⟨u0,g,gb.refl,x0 j (by omega)⟩
theorem mD(M:dc S h E){st1:Tr iK}{hp':Tr Hm.Obj}{nx':Nat}{o:Option Nat}{e:iK}(h1:∀j e,st1.ap j=some e->S.st.ap j=some e)(h2:∀j,S.st.ap j≠none->st1.ap j=none->S.jU j=true)(c:∀b,b<h.nx->hp'.ap b=h.hp.ap b\/∃j e,S.st.ap j=some e/\Bk E j b/\st1.ap j=none)(g:h.nx<=nx')(f:∀b,nx'<=b->hp'.ap b=none)(i:∀b,o=some b->b<nx'/\(h.nx<=b\/∃j e,S.st.ap j=some e/\Bk E j b/\st1.ap j=none/\bu j S.lk=false))(d:(∀u cs x,dY E.hp E.Z u cs x->dY hp' E.Z u cs x)->(∀a cs,du E a cs->du (Nh E hp' S.nx o (st1.set S.nx e)) a cs)->oN (Nh E hp' S.nx o (st1.set S.nx e)) S.nx e):dc (S.mem (st1.set S.nx e) (Nat.add S.nx 1)) ⟨h.nt,h.dC,hp',nx',h.lk,h.df⟩ (Nh E hp' S.nx o (st1.set S.nx e))/\Gr S h E (S.mem (st1.set S.nx e) (Nat.add S.nx 1)) ⟨h.nt,h.dC,hp',nx',h.lk,h.df⟩ (Nh E hp' S.nx o (st1.set S.nx e)):=yP M h1 h2 c g f (λ_ _=>rfl) (λb h=>i b (h.elim id λ⟨_,k⟩=>by cases k)) d
def OG(E:En)(hp':Tr Hm.Obj)(st:Tr iK):En:=⟨hp',E.Z,E.mb,E.ib,st,E.nx⟩
theorem qN(M:dc S h E){m b:Nat}{o e:iK}{hp':Tr Hm.Obj}(n:S.st.ap m=some o)(C:S.jU m=true)(r:Bk E m b)(hp:∀c,c≠b->hp'.ap c=h.hp.ap c)(B:∀u xs,e= .row u xs->∃l,o= .row u l/\l.length=xs.length)(p0:∀g u xs,e= .rows g u xs->∃l,o= .rows g u l/\l.length=xs.length/\gb l xs)(v0:e.rn=o.rn)(f0:(∀u cs x,dY E.hp E.Z u cs x->dY hp' E.Z u cs x)->(∀t0 cs,du E t0 cs->du (OG E hp' (S.st.set m e)) t0 cs)->oN (OG E hp' (S.st.set m e)) m e):dc (S.iE m e) ⟨h.nt,h.dC,hp',h.nx,h.lk,h.df⟩ (OG E hp' (S.st.set m e))/\Gr S h E (S.iE m e) ⟨h.nt,h.dC,hp',h.nx,h.lk,h.df⟩ (OG E hp' (S.st.set m e)):=by
 have x0:∀j,(S.st.set m e).ap j=if j=m then some e else S.st.ap j:=λj=>Tr.dk _ _ _ _
 have v:∀j d,(S.st.set m e).ap j=some d->j=m/\d=e\/j≠m/\S.st.ap j=some d:=by
  intro j d a;rw[x0]at a;split at a;.cases a;exact .inl ⟨by assumption,rfl⟩
  .exact .inr ⟨by assumption,a⟩
 have w:∀j d,(S.st.set m e).ap j=some d->∃p,S.st.ap j=some p:=by
  intro j d a;rcases v j d a with⟨rfl,_⟩|⟨_,g⟩;.exact⟨o,n⟩
  .exact⟨d,g⟩
 have o0:∀c,E.Z c->hp'.ap c=E.hp.ap c:=by intro c c0;rw[M.hp];refine hp c ?_;rintro rfl;exact(M.own m o c n r).1 c0
 have f:Fm E.nx E (OG E hp' (S.st.set m e)):=⟨λ_ r=>r,o0,au _,λj a=>rfl,λj u xs a q=>by
  rcases v j _ q with⟨rfl,g⟩|⟨_,g⟩;.obtain⟨l,y,z⟩:=B u xs g.symm;exact⟨l,by rw[M.st,n,y],z⟩
  .exact⟨xs,by rw[M.st];exact g,rfl⟩,λj t k a q D=>by
  rcases v j _ q with⟨rfl,g⟩|⟨_,g⟩;.exact⟨o,by rw[M.st,n],by rw[<-v0,<-g];exact D⟩
  .exact⟨t,by rw[M.st];exact g,D⟩,λj z0 u xs a _ q=>by
  rcases v j _ q with⟨rfl,g⟩|⟨_,g⟩;.obtain⟨l,y,_,z⟩:=p0 z0 u xs g.symm;exact⟨l,by rw[M.st,n,y],z,λ_=>rfl⟩
  .exact⟨xs,by rw[M.st];exact g,gb.refl,λ_=>rfl⟩⟩
 have g0:=f0 (λu cs x B=>B.mono (λ_ r=>r) o0) λt0 cs B=>du.fm f (.inl rfl) B;constructor
 .
  refine⟨rfl,rfl,M.nx,λj d a=>?_,λj d a=>?_,λi j l0 j0 c e0 a n0 m0=>?_,λj d c a s=>?_,M.z,λc C=>?_,λc w0=>⟨(M.lk c w0).1,λj d a s=>?_⟩,M.rN,λj d a q0=>?_⟩;.obtain⟨p,g⟩:=w j d a;exact M.lt j p g
  .
   rcases v j _ a with⟨rfl,rfl⟩|⟨s0,A⟩;.exact g0
   .refine(M.hD j d A).fm f rfl (λ_=>rfl) λc s=>?_;show hp'.ap c=E.hp.ap c;rw[M.hp];refine hp c ?_;rintro rfl;exact s0 (M.inj j m d o c A n s r)
  .obtain⟨k0,h0⟩:=w i l0 e0;obtain⟨i0,A⟩:=w j j0 a;exact M.inj i j k0 i0 c h0 A n0 m0
  .obtain⟨p,g⟩:=w j d a;exact M.own j p c g s
  .
   have C:h.nx<=c:=C;rw[hp c ?_];.exact M.fr c C
   .rintro rfl;have:=(M.own m o c n r).2;omega
  .obtain⟨p,g⟩:=w j d a;exact(M.lk c w0).2 j p g s
  .
   rcases v j _ a with⟨rfl,rfl⟩|⟨s0,A⟩;.exact M.tk j o n (v0▸q0)
   .exact M.tk j d A q0
 .
  refine⟨rfl,rfl,rfl,rfl,rfl,rfl,rfl,rfl,au _,au _,λ_ r=>r,λb d0=> .inl d0,λc b0 u0=>?_,λc u0=>?_,λj a=>rfl,λj a r0=>?_,λj a y0=>?_,λj u xs a q=>?_,λc j d w0 a s=>?_,λj t k a q D=>?_,λj z0 u xs a _ q=>?_,λ_ _ _ _=>rfl⟩;.refine hp c ?_;rintro rfl;exact u0 ⟨m,o,n,r⟩
  .obtain⟨j,d,a,s⟩:=u0;obtain⟨p,g⟩:=w j d a;exact .inl ⟨j,p,g,s⟩
  .show(S.st.set m e).ap j=_;rw[x0,aB];rintro rfl;rw[C]at r0;cases r0
  .
   show(S.st.set m e).ap j=_;rw[x0,aB];.exact y0
   .rintro rfl;rw[n]at y0;cases y0
  .
   rcases v j _ q with⟨rfl,g⟩|⟨_,g⟩;.obtain⟨l,y,z⟩:=B u xs g.symm;exact⟨l,by rw[n,y],z⟩
   .exact⟨xs,g,rfl⟩
  .obtain⟨p,g⟩:=w j d a;exact⟨p,g,s⟩
  .
   rcases v j _ q with⟨rfl,g⟩|⟨_,g⟩;.exact⟨o,n,by rw[<-v0,<-g];exact D⟩
   .exact⟨t,g,D⟩
  .
   rcases v j _ q with⟨rfl,g⟩|⟨_,g⟩;.obtain⟨l,y,_,z⟩:=p0 z0 u xs g.symm;exact⟨l,by rw[n,y],z,λ_=>rfl⟩
   .exact⟨xs,g,gb.refl,λ_=>rfl⟩
theorem Ni(M:dc S h E){hp':Tr Hm.Obj}{nx':Nat}{m:Nat->Prop}(o:∀b,b<h.nx->hp'.ap b=h.hp.ap b)(n:h.nx<=nx')(y:∀b,nx'<=b->hp'.ap b=none)(s:∀b,E.Z b->m b)(q:∀b,m b->E.Z b\/h.nx<=b/\b<nx'):dc S ⟨h.nt,h.dC,hp',nx',h.lk,h.df⟩ ⟨hp',m,E.mb,E.ib,E.st,E.nx⟩/\Gr S h E S ⟨h.nt,h.dC,hp',nx',h.lk,h.df⟩ ⟨hp',m,E.mb,E.ib,E.st,E.nx⟩:=by
 have B:∀b,E.Z b->hp'.ap b=E.hp.ap b:=λb d=>by rw[M.hp];exact o b (M.z b d)
 have f:Fm E.nx E ⟨hp',m,E.mb,E.ib,E.st,E.nx⟩:=⟨s,B,au _,λ_ _=>rfl,λj u i _ a=>⟨i,a,rfl⟩,λj t k _ a p=>⟨t,a,p⟩,λj g u i _ _ a=>⟨i,a,gb.refl,λ_=>rfl⟩⟩;constructor
 .
  refine⟨rfl,M.st,M.nx,M.lt,λj e l=>?_,M.inj,λj e b l c=>⟨λd=>?_,aP (M.own j e b l c).2 n⟩,λb d=>?_,y,λb r=>⟨aP (M.lk b r).1 n,(M.lk b r).2⟩,λj b c=>aP (M.rN j b c) n,M.tk⟩;.refine(M.hD j e l).fm f rfl (λ_=>rfl) λb c=>?_;show hp'.ap b=E.hp.ap b;rw[M.hp];exact o b (M.own j e b l c).2
  .
   rcases q b d with g|⟨g,_⟩;.exact(M.own j e b l c).1 g
   .have:=(M.own j e b l c).2;omega
  .
   rcases q b d with g|⟨_,g⟩;.exact aP (M.z b g) n
   .exact g
 .
  refine⟨rfl,rfl,rfl,rfl,rfl,rfl,rfl,rfl,n,au _,s,λb d=>?_,λb z _=>o b z,λb A=> .inl A,λ_ _=>rfl,λ_ _ _=>rfl,λ_ _ x=>x,λj u i _ a=>⟨i,a,rfl⟩,λ_ _ e _ v w=>⟨e,v,w⟩,λj t k _ a p=>⟨t,a,p⟩,λj g u i _ _ a=>⟨i,a,gb.refl,λ_=>rfl⟩,λ_ _ _ _=>rfl⟩;rcases q b d with g|⟨g,_⟩;.exact .inl g
  .exact .inr (.inr g)
end
def Mv(S:SS)(h:St)(E:En){R:Type}(K:SV->SS->Option R)(r:R)(o:Option Rs):Prop:=∃s v b a c,o=some (.val v b)/\dc a b c/\Gr S h E a b c/\a.dC=S.dC/\b.dC=h.dC/\V c s v/\K s a=some r
def Ma(S:SS)(h:St)(E:En){R:Type}(K:SS->Option R)(r:R)(o:Option Rs):Prop:=∃b a c,o=some (.Fx b)/\dc a b c/\Gr S h E a b c/\a.dC=S.dC/\b.dC=h.dC/\K a=some r
section
variable{E:En}{S:SS}{h:St}{cy:Cy}{R:Type}{r:R}{K:SV->SS->Option R}
theorem Pu.mv(M:dc S h E){o:Option Rs}(p:Pu E h (λv=>K v S) r o):Mv S h E K r o:=by obtain⟨s,v,a,b,c⟩:=p;exact⟨s,v,h,S,E,a,M,Gr.refl,rfl,rfl,b,c⟩
theorem kQ{hp':Tr Hm.Obj}{n:Nat}{o:Option Nat}{st:Tr iK}:(Nh E hp' n o st).mb n=o:=by show(bif Nat.beq n n then o else E.mb n)=_;rw[show Nat.beq n n=true by simp];rfl
theorem ul(M:dc S h E){X:Hm.Obj}(b:Nat)(a:h.nx+1<=b):(h.hp.set h.nx X).ap b=none:=by rw[Tr.dk,aB (by omega)];exact M.fr b (by omega)
theorem o4{X:Hm.Obj}(b:Nat)(a:b<h.nx):(h.hp.set h.nx X).ap b=h.hp.ap b:=by rw[Tr.dk,aB (by omega)]
theorem AF(M:dc S h E){l:List SV}{c:List HV}{z:Nat}(g:du E l c):∃E',dc (S.bP (.box z l)) (h.bP z c).2 E'/\Gr S h E (S.bP (.box z l)) (h.bP z c).2 E'/\E'.mb S.nx=some h.nx/\E'.nx=S.nx+1:=by have:=mD (st1:=S.st) (hp':=h.hp.set h.nx (.cp ⟨true,z,c.length,cr .e 0 c⟩)) (nx':=h.nx+1) (o:=some h.nx) (e:= .box z l) M (λ_ _ h=>h) (λj e f=>absurd f e) (λb a=> .inl (o4 b a)) (dg _) (λb a=>ul M b a) (λb a=>by cases a;exact⟨a7 _,.inl (au _)⟩) λ_ d=>⟨h.nx,_,c,kQ,Tr.a8 _ _ _,rfl,rfl,by have:=il (T:=(.e:Tr HV)) (w:=true) (z:=z) (n:=c.length) (p:=0) (c:=c) (by omega);exact this,d _ _ g⟩;exact⟨_,this.1,this.2,kQ,rfl⟩
theorem GJ(M:dc S h E){e:U}{xs:List (D e)}{c:List HV}(l:xs.length<=140737488355328)(m:xs.length*e.size<=c.length)(k:∀i x,xs[i]?=some x->∃cs,cF ⟨true,e.size,c.length,cr .e 0 c⟩ (i*e.size) e.size=some cs/\dY E.hp E.Z e cs x):∃E',dc (S.bP (.row e xs)) (h.bP e.size c).2 E'/\Gr S h E (S.bP (.row e xs)) (h.bP e.size c).2 E'/\E'.mb S.nx=some h.nx/\E'.nx=S.nx+1/\E'.st.ap S.nx=some (.row e xs):=by have:=mD (st1:=S.st) (hp':=h.hp.set h.nx (.cp ⟨true,e.size,c.length,cr .e 0 c⟩)) (nx':=h.nx+1) (o:=some h.nx) (e:= .row e xs) M (λ_ _ h=>h) (λj f g=>absurd g f) (λb a=> .inl (o4 b a)) (dg _) (λb a=>ul M b a) (λb a=>by cases a;exact⟨a7 _,.inl (au _)⟩) λd _=>⟨l,by rw[kQ];exact⟨_,Tr.a8 _ _ _,rfl,rfl,m,λi x n=>by obtain⟨cs,o,p⟩:=k i x n;exact⟨cs,o,d _ _ _ p⟩⟩⟩;exact⟨_,this.1,this.2,kQ,rfl,Tr.a8 _ _ _⟩
theorem HI(M:dc S h E){t:Nat}{l:List SV}(a:IW cy.cx t=some l)(j:K (.box S.nx 0) (S.bP (.box 0 l))=some r):Mv S h E K r (nf cy.cx h t):=by
 unfold IW at a;split at a
 .
  rename_i x k;split at a
  .
   rename_i z m;split at a;.rename_i c i;cases a;obtain⟨b,d,e,f,g⟩:=AF (z:=0) M (mB c);refine⟨_,.ptr h.nx 0,_,_,b,?_,d,e,rfl,rfl,lv.2 ⟨by rw[g];exact a7 _,h.nx,f,rfl⟩,j⟩;unfold nf;rw[k];simp only;rw[m];simp only;rw[i]
   .cases a
  .cases a
 .cases a
theorem NQ(M:dc S h E){s:SV}{v:HV}{l:List SV}(k:s.qz=some l)(m:V E s v)(j:K (.box S.nx 0) (S.bP (.box 0 l))=some r):Mv S h E K r (sd h v):=by obtain⟨c,g,i,_,_⟩:=li k m;obtain⟨a,b,d,e,f⟩:=AF (z:=0) M i;refine⟨_,.ptr h.nx 0,_,_,a,?_,b,d,rfl,rfl,lv.2 ⟨by rw[f];exact a7 _,h.nx,e,rfl⟩,j⟩;unfold sd;rw[g]
theorem CX{l:List SV}{c:List HV}(a:du E l c):∀n,du E (Gt l n) (gP c n)
 |0=>by unfold Gt gP du;rfl
 |n+1=>by unfold Gt gP;exact ou.2 ⟨c,gP c n,rfl,a,CX a n⟩
theorem Dx{cx:Cx}{e:Nat}{y:El}(h:cx.uW e=some y):y.zc.length=y.z/\cx.size e=some y.z/\1<=y.lq:=by
 unfold Cx.uW at h;split at h
 .
  rename_i x b;split at h
  .
   split at h
   .
    rw[aH]at h;split at h;.rename_i a;simp only[ae,bO]at a;cases h;exact⟨aw a.2.2,by unfold Cx.size;rw[b],a.2.1⟩
    .cases h
   .cases h
  .cases h
 .cases h
theorem oO{cx:Cx}{t:Nat}{y:El}(h:cx.fN t=some y):y.zc.length=y.z/\1<=y.lq:=by
 unfold Cx.fN at h;split at h
 .
  split at h;.have:=Dx h;exact⟨this.1,this.2.2⟩
  .cases h
 .cases h
theorem pa{t:Nat}{y:El}{u:U}(b:cy.cx.fN t=some y)(a:JO cy t=some u):y.z=u.size:=by
 unfold Cx.fN at b;unfold JO at a;split at b
 .
  rename_i x f;rw[f]at a;simp only at a;split at b
  .
   rename_i e c;rw[c]at a;simp only at a;split at a
   .
    rename_i g _;rw[(Dx b).2.1]at a;simp only at a;rw[aH]at a;split at a;.rename_i d;cases a;exact(aw d).symm
    .cases a
   .cases a
  .cases b
 .cases b
theorem x3(M:dc S h E){t n:Nat}{ps:List (Nat×SV)}{k:List (Nat×HV)}(a:sk cy S t n ps K=some r)(hp:PV E ps k):Mv S h E K r (eZ cy.cx h t n k):=by
 unfold sk at a;split at a
 .
  rename_i y j;rw[aH]at a;split at a
  .
   rename_i f;rw[aH]at a;split at a
   .
    rename_i b;rw[ae,List.isEmpty_iff]at b;obtain⟨b,rfl⟩:=b;have b:n=0:=aw b;subst b;split at a
    .
     rename_i u C;have B:k=[]:=by unfold PV at hp;first|exact hp|simpa using hp
     subst B;have z0:=pa j C;obtain⟨g,y0,x0,w0,v0,m⟩:=GJ (e:=u) (xs:=[]) (c:=[]) M (by simp) (by simp) (λi w D=>by cases D);refine⟨_,.sl h.nx 0 0,_,_,g,?_,y0,x0,rfl,rfl,hG.2 ⟨by rw[v0];exact a7 _,rfl,λe s0 d=>?_,λt0 u0 d z=>by rw[m]at d;cases d;cases z⟩,a⟩;.unfold eZ;rw[j];simp only;rw[f,z0];rfl
     .rw[m]at d;cases d;rw[w0];rfl
    .cases a
   split at a
   .
    rename_i l A;obtain⟨c,v,x⟩:=rZ A hp (CX (mB y.zc) n);obtain⟨g,o,p,q,s⟩:=AF (z:=y.z) M x;refine⟨_,.sl h.nx 0 n,_,_,g,?_,o,p,rfl,rfl,tQ.2 ⟨by rw[s];exact a7 _,h.nx,q,rfl,?_⟩,a⟩;.unfold eZ;rw[j];simp only;rw[f,v];rfl
    .simp only[ae,bO]at f;exact f.1
   .cases a
  .cases a
 .cases a
theorem yz:∀c:List HV,dH (nE c)=[]
 |[]=>by unfold nE;exact my
 |v::c=>by unfold nE;rw[fy,yz c,bf];cases v<;>(unfold vL iO;rfl)
theorem Gs{α:Type}{Q:List HV->α->Prop}{c:List HV}{x:α}(h:Q c x):∀n,nO Q (gP c n) (List.replicate n x)
 |0=>rfl
 |n+1=>by rw[gH];exact⟨c,gP c n,rfl,h,Gs h n⟩
theorem rL(l:List HV):∀k,(gP l k).length=k*l.length
 |0=>by simp[gP]
 |k+1=>by unfold gP;rw[ax,rL l k,ig];omega
theorem tc{n b:Nat}(h:gu n b=true)(a:1<=b):n<=140737488355328:=by unfold gu at h;simp only[bO]at h;have h:n*b<=4294967296:=h;have:n*1<=n*b:=jz n a;omega
theorem EC{u e:U}(h:ED u=some e):u= .bw e:=by
 unfold ED at h;split at h;.cases h;rfl
 .cases h
theorem CW(v:HV):∀(k i:Nat),i<k->(gP [v] k)[i]?=some v
 |0,i,h=>by omega
 |k+1,i,h=>by unfold gP;cases i with
  |zero=>rfl
  |succ i=>exact CW v k i (by omega)
theorem Nf(M:dc S h E){e:U}{m k:Nat}(v:m<=k)(p:m<=140737488355328):∃E',dc (S.bP (.rows S.nx e (List.replicate m ([]:List (D e))))) (h.bP 1 (gP [.cM] k)).2 E'/\Gr S h E (S.bP (.rows S.nx e (List.replicate m []))) (h.bP 1 (gP [.cM] k)).2 E'/\E'.mb S.nx=some h.nx/\E'.nx=S.nx+1/\E'.st.ap S.nx=some (.rows S.nx e (List.replicate m ([]:List (D e)))):=by
 have u:(gP [HV.cM] k).length=k:=by rw[rL];simp
 have:=mD (st1:=S.st) (hp':=h.hp.set h.nx (.cp ⟨true,1,(gP [HV.cM] k).length,cr .e 0 (gP [.cM] k)⟩)) (nx':=h.nx+1) (o:=some h.nx) (e:= .rows S.nx e (List.replicate m ([]:List (D e)))) M (λ_ _ h=>h) (λj f n=>absurd n f) (λb a=> .inl (o4 b a)) (dg _) (λb a=>ul M b a) (λb a=>by cases a;exact⟨a7 _,.inl (au _)⟩) λt _=>by
  have d:∀i,(Nh E (h.hp.set h.nx (.cp ⟨true,1,(gP [HV.cM] k).length,cr .e 0 (gP [.cM] k)⟩)) S.nx (some h.nx) (S.st.set S.nx (.rows S.nx e (List.replicate m ([]:List (D e)))))).ib S.nx i=none:=λi=>by show(bif Nat.beq S.nx S.nx then none else E.ib S.nx i)=_;rw[show Nat.beq S.nx S.nx=true by simp];rfl
  refine⟨a7 _,by rw[aN];exact p,.inr ⟨h.nx,_,kQ,Tr.a8 _ _ _,rfl,rfl,by rw[aN];show m<=(gP [HV.cM] k).length;omega,λi l g=>?_,λi _=>d i,λi j c f=>(by rw[d]at f;cases f),λi=>by rw[d];simp⟩⟩;have o:i<m:=by have:=(aj.1 g).1;simpa using this
  rw[cd,aA o]at g;cases g;refine⟨by simp,⟨.cM,?_,?_⟩,?_⟩
  .
   rw[fV];refine⟨rfl,λq w=>?_⟩;have s:q=0:=by omega
   subst s;refine⟨by show i+0<(gP [HV.cM] k).length;omega,?_⟩;show(cr .e 0 (gP [HV.cM] k)).ap (i+0)=_;rw[gq,aA (by omega),show i+0-0=i by omega,CW _ _ _ (by omega)];rfl
  .rw[d];exact⟨rfl,.inl rfl⟩
  .rw[d];rfl
 exact⟨_,this.1,this.2,kQ,rfl,Tr.a8 _ _ _⟩
theorem zb(M:dc S h E){t:Nat}{l c:SV}{q0 r0:HV}(g:tm cy S t l c K=some r)(s0:V E l q0)(t0:V E c r0):Mv S h E K r (ic cy.cx h t q0 r0):=by
 unfold tm at g;split at g
 .
  rename_i y u s i0;split at g
  .
   rename_i q9 s9 m p9 r9 k;rw[d7]at s0 t0;subst s0;subst t0;split at g
   .
    rename_i x g0;obtain⟨f,j⟩:=ep g;unfold gw at f;simp only[ae,bB]at f;obtain⟨b,rfl⟩:∃n:Nat,m=Int.ofNat n:=⟨_,pu f.1⟩;obtain⟨a,rfl⟩:∃n:Nat,k=Int.ofNat n:=⟨_,pu (by omega)⟩;have o:b<=a:=kK.1 f.2.1;obtain⟨e0,u0⟩:=oO s;have C:=pa s i0;split at j
    .
     rename_i o0 A;have A:=EC A;subst A;split at j
     .
      rename_i f0;obtain⟨v,D,z0,y0,x0,q⟩:=Nf (e:=o0) (m:=b) (k:=a) M o (aM o (tc f.2.2 u0));refine⟨_,.sl h.nx 0 b,_,_,v,?_,D,z0,rfl,rfl,hG.2 ⟨by rw[x0];exact a7 _,rfl,λe y9 d=>(by rw[q]at d;cases d),λz9 o9 d B=>?_⟩,j⟩;.unfold ic;rw[s];simp only[iY];rw[show(Nat.ble b a&&gu a y.lq)=true by rw[ae];exact⟨by simpa using o,f.2.2⟩];rw[f0,C];rfl
      .rw[q]at d;cases d;cases B;rw[y0];show _=HV.sl h.nx 0 (List.replicate b _).length;rw[aN]
     .cases j
    obtain⟨x9,u9,w0,n0,v0,_⟩:=qZ (k:=0) (Q:=E.Z) (E:=E) (λ_ h=>h) (λm e j0=>M.hD m e (by rw[<-M.st];exact j0)) (by rw[M.st];exact g0) (mB y.zc) (by unfold pN;exact yz _);unfold du at v0;subst v0;rw[bf]at w0;subst w0;have k0:(gP y.zc a).length=a*u.size:=by rw[rL,e0,C]
    have t9:a<=140737488355328:=tc f.2.2 u0;have z:(List.replicate b x).length=b:=by simp
    obtain⟨v,D,z0,y0,x0,q⟩:=GJ (e:=u) (xs:=eh (Int.ofNat b) x) (c:=gP y.zc a) M (by show(List.replicate b x).length<=_;rw[z];omega) (by show(List.replicate b x).length*_<=_;rw[z,k0];exact co _ o) λi w p=>by
     have p:(List.replicate b x)[i]?=some w:=p;have l0:i<b:=by have:=(aj.1 p).1;simpa using this
     have h0:(List.replicate a x)[i]?=some w:=by rw[cd,aA l0]at p;rw[cd,aA (by omega)];exact p
     obtain⟨w9,p0,v9,d0,c0,b0,a0⟩:=lw (z:=u.size) (λ_ _ h=>h.len) (Gs n0 a) h0;refine⟨p0,?_,a0⟩;have m0:=il (T:=(.e:Tr HV)) (w:=true) (z:=u.size) (n:=(gP y.zc a).length) (p:=0) (c:=gP y.zc a) (by omega);have:=fz m0 d0 c0 b0;rw[bi]at this;exact this
    refine⟨_,.sl h.nx 0 b,_,_,v,?_,D,z0,rfl,rfl,hG.2 ⟨by rw[x0];exact a7 _,rfl,λe y9 d=>?_,λz9 a d B=>by rw[q]at d;cases d;cases B⟩,j⟩;.unfold ic;rw[s];simp only[iY];rw[show(Nat.ble b a&&gu a y.lq)=true by rw[ae];exact⟨by simpa using o,f.2.2⟩];rw[C];rfl
    .rw[q]at d;cases d;rw[y0];show _=HV.sl h.nx 0 (List.replicate b x).length;rw[z]
   .cases g
  .cases g
 .cases g
theorem jO{b o:Nat}{y:gK}{c:List HV}(a:h.hp.ap b=some (.cp y))(f:y.own=true)(d:bu b h.lk=false)(e:o+c.length<=y.n):h.fo b o c=some ⟨h.nt,h.dC,h.hp.set b (.cp ⟨true,y.z,y.n,cr y.c o c⟩),h.nx,h.lk,h.df⟩:=by unfold St.fo;rw[jK a];simp only;rw[show(y.own&&(h.gD b&&Nat.ble (Nat.add o c.length) y.n))=true by rw[f];unfold St.gD;rw[d];simp only[dF,kF,bO];exact e];rfl
theorem mm(M:dc S h E){m b:Nat}{e:iK}(d:S.st.ap m=some e)(c:Bk E m b)(a:bu m S.lk=false):bu b h.lk=false:=by cases f:bu b h.lk with
 |false=>rfl
 |true=>rw[(M.lk b f).2 m e d c]at a;cases a
theorem gf{m:Nat}(a:S.jT m=true):S.jU m=true/\bu m S.lk=false:=by unfold SS.jT at a;simp only[ae]at a;exact⟨a.1,by simpa using a.2⟩
theorem CV{f g i:List SV}{o z:Nat}(hp:we f o z g=some i)(m:Nat)(e:m∈dH i):m∈dH f\/m∈dH g:=by
 unfold we at hp;split at hp
 .
  rename_i a b j;split at hp
  .
   rename_i c d k;cases hp;rw[pk,pk]at e;rw[xv j,xv k];simp only[bR]at e⊢;rcases e with e|e|e;.exact .inl (.inl e)
   .exact .inr e
   .exact .inl (.inr (.inr e))
  .cases hp
 .cases hp
theorem HQ{α:Type}{R:List HV->α->Prop}{z:Nat}(s:∀c x,R c x->c.length=z):∀{xs:List α}{cs b d2 g d:List HV}{k:Nat}{x:α},nO R cs xs->cs=b++(d2++g)->b.length=k*z->d2.length=z->k<xs.length->R d x->nO R (b++(d++g)) (xs.set k x)
 |[],_,_,_,_,_,_,_,_,_,_,_,l,_=>by cases l
 |a::xs,cs,b,d2,g,d,0,x,⟨c,m,e,j,q⟩,i,f,t,l,u=>by rw[fP]at f;have f:=eN.1 f;subst f;rw[e]at i;have n:c++m=d2++g:=i;obtain⟨rfl,rfl⟩:=ka n (by rw[s _ _ j,t]);exact⟨d,m,rfl,u,q⟩
 |a::xs,cs,b,d2,g,d,k+1,x,⟨c,m,e,j,q⟩,i,f,t,l,u=>by have w:=s _ _ j;rw[ig]at f;obtain⟨o,p,rfl,v⟩:∃o p,b=o++p/\o.length=z:=⟨b.take z,b.drop z,(dE z b).symm,by rw[aR];omega⟩;rw[e,cn]at i;obtain⟨rfl,n⟩:=ka i (by rw[w,v]);rw[ax,v]at f;have:=HQ (k:=k) s q n (by omega) t (by simpa using l) u;refine⟨c,p++(d++g),by rw[cn],j,this⟩
theorem yI(M:dc S h E){m b j:Nat}{tt:iK}{e:U}{xs:List (List (D e))}{ys:List (D e)}{y:gK}{v:HV}{o:Option Nat}{st1:Tr iK}(h1:∀a e',st1.ap a=some e'→S.st.ap a=some e')(h2:∀a,S.st.ap a≠none→st1.ap a=none→S.jU a=true)(hm1:st1.ap m=some tt)(ht:tt.rn=some xs.length)(hlen:xs.length≤140737488355328)(hW:Kk E m e xs j)(hc:S.jU m=true)(hb:E.mb m=some b)(hy:E.hp.ap b=some (.cp y))(hj:j<xs.length)(ho:∀c,o=some c→∃a e',S.st.ap a=some e'∧Bk E a c∧st1.ap a=none∧bu a S.lk=false)(hv:fO o ys.length v)(hr:gx E o e ys)(hl:ys.length≤140737488355328):∃E',dc (S.mem (st1.set m (.rows S.nx e (xs.set j ys))) (Nat.add S.nx 1)) ⟨h.nt,h.dC,h.hp.set b (.cp ⟨true,y.z,y.n,cr y.c j [v]⟩),h.nx,h.lk,h.df⟩ E'∧Gr S h E (S.mem (st1.set m (.rows S.nx e (xs.set j ys))) (Nat.add S.nx 1)) ⟨h.nt,h.dC,h.hp.set b (.cp ⟨true,y.z,y.n,cr y.c j [v]⟩),h.nx,h.lk,h.df⟩ E':=by
 have hm:=h1 m _ hm1;obtain⟨b',y',p1,p2,p3,p4,p5,p6,p7,p8,p9⟩:=hW;rw[hb]at p1;cases p1;rw[hy]at p2;cases p2;let hp':=h.hp.set b (.cp ⟨true,y.z,y.n,cr y.c j [v]⟩);let st':=st1.set m (.rows S.nx e (xs.set j ys));let ib':Nat→Nat→Option Nat:=fun a k=>if a=m∧k=j then o else E.ib a k;have hibo:∀a,a≠m→∀k,ib' a k=E.ib a k:=fun a ha k=>aB fun h=>ha h.1;have hibj:ib' m j=o:=aA ⟨rfl,rfl⟩;have hibk:∀k,k≠j→ib' m k=E.ib m k:=fun k hk=>aB fun h=>hk h.2;have hget:∀a,st'.ap a=if a=m then some (.rows S.nx e (xs.set j ys))else st1.ap a:=fun a=>Tr.dk _ _ _ _
 have hst:∀a e',st'.ap a=some e'→a=m∧e'= .rows S.nx e (xs.set j ys)∨a≠m∧st1.ap a=some e'∧S.st.ap a=some e':=by
  intro a e' ha;rw[hget]at ha;split at ha;·cases ha;exact .inl ⟨by assumption,rfl⟩
  ·exact .inr ⟨by assumption,ha,h1 a e' ha⟩
 let E':En:=⟨hp',E.Z,E.mb,ib',st',S.nx+1⟩
 have hbo:∀a,a≠m→∀c,Bk E' a c↔Bk E a c:=by
  intro a ha c;show(E.mb a=some c∨∃i,ib' a i=some c)↔_;constructor
  ·
   rintro(q|⟨i,q⟩);·exact .inl q
   ·rw[hibo a ha]at q;exact .inr ⟨i,q⟩
  ·
   rintro(q|⟨i,q⟩);·exact .inl q
   ·exact .inr ⟨i,by rw[hibo a ha];exact q⟩
 have hbm:∀c,Bk E' m c→Bk E m c∨o=some c:=by
  rintro c(q|⟨i,q⟩);·exact .inl (.inl q)
  ·
   have q:ib' m i=some c:=q;by_cases hi:i=j;·subst hi;rw[hibj]at q;exact .inr q
   ·rw[hibk i hi]at q;exact .inl (.inr ⟨i,q⟩)
 have hne:∀c,o=some c→¬Bk E m c:=by intro c q w;obtain⟨a,e',k1,k2,k3,_⟩:=ho c q;have:=M.inj a m e' _ c k1 hm k2 w;subst this;rw[hm1]at k3;cases k3
 have hhp:∀c,c≠b→hp'.ap c=E.hp.ap c:=fun c hc=>by show(h.hp.set b _).ap c=_;rw[Tr.bS _ _ hc,M.hp]
 have hz:∀c,E.Z c→hp'.ap c=E.hp.ap c:=fun c hzc=>hhp c (by rintro rfl;exact(M.own m _ c hm (.inl hb)).1 hzc)
 have f:Fm E.nx E E':=by
  refine⟨fun _ q=>q,hz,by rw[M.nx];exact dg _,fun _ _=>rfl,fun a u xs' ha hx=>?_,fun a t k ha hx hk=>?_,fun a g' u xs' ha hg' hx=>?_⟩
  ·
   rcases hst a _ hx with⟨_,q⟩|⟨_,_,q⟩;·cases q
   ·exact⟨xs',by rw[M.st];exact q,rfl⟩
  ·
   rcases hst a _ hx with⟨rfl,q⟩|⟨_,_,q⟩;·cases q;cases hk;exact⟨tt,by rw[M.st];exact hm,by rw[ht];simp⟩
   ·exact⟨t,by rw[M.st];exact q,hk⟩
  ·
   rcases hst a _ hx with⟨rfl,q⟩|⟨q0,_,q⟩;·cases q;rw[M.nx]at hg';omega
   ·exact⟨xs',by rw[M.st];exact q,gb.refl,hibo a q0⟩
 refine⟨E',⟨rfl,rfl,rfl,fun a e' ha=>?_,fun a e' ha=>?_,fun a a' e1 e2 c ha ha' b1 b2=>?_,fun a e' c ha hac=>?_,M.z,fun c hc=>?_,fun c hlk=>⟨(M.lk c hlk).1,fun a e' ha hac=>?_⟩,fun a c hac=>?_,fun a e' ha hne'=>?_⟩,⟨rfl,rfl,rfl,rfl,rfl,rfl,rfl,rfl,au _,dg _,fun _ q=>q,fun c hzc=> .inl hzc,fun c hlt how=>?_,fun c how=>?_,fun _ _=>rfl,fun a ha hca=>?_,fun a ha hd=>?_,fun a u xs' ha hx=>?_,fun c a e' hlk ha hac=>?_,fun a t k ha hx hk=>?_,fun a g' u xs' ha hg' hx=>?_,fun a ha hca=>?_⟩⟩
 ·
  rcases hst a _ ha with⟨rfl,_⟩|⟨_,_,q⟩;·exact pO (M.lt _ _ hm)
  ·exact pO (M.lt _ _ q)
 ·
  rcases hst a _ ha with⟨rfl,rfl⟩|⟨q0,q1,q2⟩
  ·
   refine⟨a7 _,by simpa using hlen,.inr ⟨b,_,hb,Tr.a8 _ _ _,rfl,p4,by simpa using p5,fun i l hil=>?_,fun i hi=>?_,fun i i' c k1 k2=>?_,fun i k1=>?_⟩⟩
   ·
    by_cases hij:i=j
    ·
     subst hij;rw[be hj]at hil;cases hil;have e1:E'.ib a i=o:=hibj;refine⟨hl,⟨v,?_,by rw[e1];exact hv⟩,?_⟩;·have:=il (T:=y.c) (w:=true) (z:=y.z) (n:=y.n) (p:=i) (c:=[v]) (by simp;omega);exact this
     ·rw[e1];refine gx.fm (E:=E) (E':=E') (fun _ q=>q) hz (fun c q=>hhp c ?_) hr;rintro rfl;exact hne c q (.inl hb)
    ·rw[bz fun q=>hij q.symm]at hil;obtain⟨k1,⟨w,k2,k3⟩,k4⟩:=p6 i l hij hil;have hi:=(aj.1 hil).1;have e1:E'.ib a i=E.ib a i:=hibk i hij;refine⟨k1,⟨w,od k2 (by simp;omega) (by omega),by rw[e1];exact k3⟩,?_⟩;rw[e1];refine gx.fm (E:=E) (E':=E') (fun _ q=>q) hz (fun c q=>hhp c ?_) k4;rintro rfl;exact p9 i q
   ·rw[bx]at hi;show ib' a i=none;rw[hibk i (by omega)];exact p7 i hi
   ·
    have k1:ib' a i=some c:=k1;have k2:ib' a i'=some c:=k2;by_cases hi:i=j
    ·
     by_cases hi':i'=j;·rw[hi,hi']
     ·subst hi;rw[hibj]at k1;rw[hibk i' hi']at k2;exact absurd (.inr ⟨i',k2⟩) (hne c k1)
    ·
     have kk1:E.ib a i=some c:=(hibk i hi).symm.trans k1;by_cases hi':i'=j
     ·
      have kk2:o=some c:=by rw[hi',hibj]at k2;exact k2
      exact absurd (.inr ⟨i,kk1⟩) (hne c kk2)
     ·have kk2:E.ib a i'=some c:=(hibk i' hi').symm.trans k2;exact p8 i i' c kk1 kk2
   ·
    have k1:ib' a i=some b:=k1;by_cases hi:i=j;·subst hi;rw[hibj]at k1;exact hne b k1 (.inl hb)
    ·rw[hibk i hi]at k1;exact p9 i k1
  ·refine(M.hD a e' q2).fm f rfl (hibo a q0) fun c hac=>hhp c ?_;rintro rfl;exact q0 (M.inj a m e' _ c q2 hm hac (.inl hb))
 ·
  have key:∀a e',a≠m→st1.ap a=some e'→S.st.ap a=some e'→Bk E a c→Bk E' m c→False:=by
   intro a e' q0 q1 q2 k1 k2;rcases hbm c k2 with w|w;·exact q0 (M.inj a m e' _ c q2 hm k1 w)
   ·obtain⟨a2,e3,w1,w2,w3,_⟩:=ho c w;have:=M.inj a a2 e' e3 c q2 w1 k1 w2;subst this;rw[w3]at q1;cases q1
  rcases hst a _ ha with⟨rfl,rfl⟩|⟨q0,q1,q2⟩
  ·
   rcases hst a' _ ha' with⟨rfl,rfl⟩|⟨k0,k1,k2⟩;·rfl
   ·exact(key a' e2 k0 k1 k2 ((hbo a' k0 c).1 b2) b1).elim
  ·
   rcases hst a' _ ha' with⟨rfl,rfl⟩|⟨k0,k1,k2⟩;·exact(key a e1 q0 q1 q2 ((hbo a q0 c).1 b1) b2).elim
   ·exact M.inj a a' e1 e2 c q2 k2 ((hbo a q0 c).1 b1) ((hbo a' k0 c).1 b2)
 ·
  rcases hst a _ ha with⟨rfl,rfl⟩|⟨q0,q1,q2⟩
  ·
   rcases hbm c hac with w|w;·exact M.own _ _ c hm w
   ·obtain⟨a2,e3,w1,w2,_⟩:=ho c w;exact M.own a2 e3 c w1 w2
  ·exact M.own a e' c q2 ((hbo a q0 c).1 hac)
 ·
  have hc:h.nx≤c:=hc;show(h.hp.set b _).ap c=none;rw[Tr.bS];·exact M.fr c hc
  ·rintro rfl;have:=(M.own m _ c hm (.inl hb)).2;omega
 ·
  rcases hst a _ ha with⟨rfl,rfl⟩|⟨q0,q1,q2⟩
  ·
   rcases hbm c hac with w|w;·exact(M.lk c hlk).2 _ _ hm w
   ·obtain⟨a2,e3,w1,w2,_,w4⟩:=ho c w;have:=(M.lk c hlk).2 a2 e3 w1 w2;rw[w4]at this;cases this
  ·exact(M.lk c hlk).2 a e' q2 ((hbo a q0 c).1 hac)
 ·
  by_cases ha:a=m
  ·
   subst ha;rcases hbm c hac with w|w;·exact M.rN _ c w
   ·obtain⟨a2,e3,w1,w2,_⟩:=ho c w;exact M.rN a2 c w2
  ·exact M.rN a c ((hbo a ha c).1 hac)
 ·
  rcases hst a _ ha with⟨rfl,rfl⟩|⟨q0,q1,q2⟩;·cases hne'
  ·intro k;show ib' a k=none;rw[hibo a q0];exact M.tk a e' q2 hne' k
 ·show(h.hp.set b _).ap c=_;rw[Tr.bS];rintro rfl;exact how ⟨m,_,hm,.inl hb⟩
 ·
  obtain⟨a,e',ha,hac⟩:=how;rcases hst a _ ha with⟨rfl,rfl⟩|⟨q0,q1,q2⟩
  ·
   rcases hbm c hac with w|w;·exact .inl ⟨_,_,hm,w⟩
   ·obtain⟨a2,e3,w1,w2,_⟩:=ho c w;exact .inl ⟨a2,e3,w1,w2⟩
  ·exact .inl ⟨a,e',q2,(hbo a q0 c).1 hac⟩
 ·
  show st'.ap a=_;have ham:a≠m:=by rintro rfl;rw[hc]at hca;cases hca
  rw[hget,aB ham]
  cases hq:st1.ap a with
   |some e'=>exact(h1 a e' hq).symm
   |none=>cases hs:S.st.ap a with
   |none=>rfl
   |some e'=>have:=h2 a (by rw[hs];exact fun h=>by cases h) hq;rw[hca]at this;cases this
 ·
  show st'.ap a=_;have ham:a≠m:=by rintro rfl;rw[hm]at hd;cases hd
  rw[hget,aB ham]
  cases hq:st1.ap a with
   |some e'=>have:=h1 a e' hq;rw[hd]at this;cases this
   |none=>rfl
 ·
  rcases hst a _ hx with⟨_,q⟩|⟨_,_,q⟩;·cases q
  ·exact⟨xs',q,rfl⟩
 ·
  rcases hst a _ ha with⟨rfl,rfl⟩|⟨q0,q1,q2⟩
  ·
   rcases hbm c hac with w|w;·exact⟨_,hm,w⟩
   ·obtain⟨a2,e3,w1,w2,_,w4⟩:=ho c w;have:=(M.lk c hlk).2 a2 e3 w1 w2;rw[w4]at this;cases this
  ·exact⟨e',q2,(hbo a q0 c).1 hac⟩
 ·
  rcases hst a _ hx with⟨rfl,q⟩|⟨_,_,q⟩;·cases q;cases hk;exact⟨tt,hm,by rw[ht];simp⟩
  ·exact⟨t,q,hk⟩
 ·
  rcases hst a _ hx with⟨rfl,q⟩|⟨q0,_,q⟩;·cases q;omega
  ·exact⟨xs',q,gb.refl,hibo a q0⟩
 ·exact hibo a (by rintro rfl;rw[hc]at hca;cases hca)
theorem vG(M:dc S h E){e:U}{w:SV}{t:List HV}{i:List (D e)}{b:SS}(hg:Ba S e w=some (i,b))(l:CR E w t):∃v o,t=[v]/\fO o i.length v/\gx E o e i/\i.length<=140737488355328/\b=S.mem b.st S.nx/\(∀a d,b.st.ap a=some d->S.st.ap a=some d)/\(∀a,S.st.ap a≠none->b.st.ap a=none->S.jU a=true)/\∀c,o=some c->∃a d,S.st.ap a=some d/\Bk E a c/\b.st.ap a=none/\bu a S.lk=false:=by
 unfold Ba at hg;split at hg;.cases hg;unfold CR at l;exact⟨.cM,none,l,⟨rfl,.inl rfl⟩,rfl,a5 _,rfl,λ_ _ h=>h,λ_ p f=>absurd f p,λc g=>by cases g⟩
 .
  rename_i m;split at hg
  .
   rename_i u x s;split at hg
   .
    rename_i x0 y0;rw[aH]at hg;split at hg
    .
     rename_i g;cases hg;obtain⟨z,B⟩:=gf g;obtain⟨y,n⟩:=eD y0;cases y;have n:x=i:=n;subst n;have q:∀j,(S.lZ m).st.ap j=if j=m then none else S.st.ap j:=λj=>Tr.gC _ _ _;unfold CR at l;obtain⟨_,v,rfl,_,z0,_⟩:=l;obtain⟨A,C⟩:=M.hD m _ s;refine⟨v,E.mb m,rfl,z0 _ x (by rw[M.st];exact s),C,A,rfl,λa d k=>?_,λa p f=>?_,λc g=>⟨m,_,s,.inl g,by rw[q,aA rfl],B⟩⟩
     .
      rw[q]at k;split at k;.cases k
      .exact k
     .
      rw[q]at f;split at f;.subst_vars;exact z
      .exact absurd f p
    .cases hg
   .cases hg
  .cases hg
 .cases hg
theorem F9(M:dc S h E){t:Nat}{a s:SV}{va v:HV}{K:SS->Option R}(hk:Em cy S t a s K=some r)(ha:V E a va)(hv:V E s v):Ma S h E K r (pB cy.cx h t va v):=by
 unfold Em at hk;split at hk
 .
  rename_i x hx;split at hk
  .
   rename_i c hc;obtain⟨vc,c1,c2,_,_⟩:=li hc hv;rw[aH]at hk;split at hk
   .
    rename_i hw;have hw:=aw hw;have hlen:vc.length=x.size:=by rw[c2.len,hw]
    have hd:∀b o h',h.fo b o vc=some h'->pB cy.cx h t (.ptr b o) v=some (.Fx h'):=by intro b o h' hwr;unfold pB;simp only;rw[hx,c1];simp only;rw[show Nat.beq vc.length x.size=true by simp[hlen],hwr];rfl
    split at hk
    .
     rename_i m o;rw[lv]at ha;obtain⟨_,b,hb,rfl⟩:=ha;split at hk
     .
      rename_i z is hm;rw[aH]at hk;split at hk
      .
       rename_i hcan;obtain⟨hcan,hlk⟩:=gf hcan;split at hk
       .
        rename_i is' hput;obtain⟨b',y,cs,p1,p2,p3,p4,p5,p6⟩:=M.hD m _ hm;rw[hb]at p1;cases p1;obtain⟨d1,d2,d3,rfl,w1,w2,w3⟩:=q8 hput p6 c2;have hn:=g5 p5;simp only[ax]at hn;have p2':h.hp.ap b=some (.cp y):=by rw[<-M.hp];exact p2
        have:=qN (b:=b) (e:= .box z is') (hp':=h.hp.set b (.cp ⟨true,y.z,y.n,cr y.c o vc⟩)) M hm hcan (.inl hb) (λc hc=>Tr.bS _ _ hc) (λu xs he=>by cases he) (λg u xs he=>by cases he) rfl λ_ g2=>⟨b,_,d1++(vc++d3),hb,Tr.a8 _ _ _,rfl,p4,by have:=vH (w:=true) (z:=y.z) (n:=y.n) (c:=vc) p5 (by rw[w2,hlen]) (au _);rw[bi,w1]at this;exact this,g2 _ _ w3⟩;exact⟨_,_,_,hd b o _ (jO p2' p3 (mm M hm (.inl hb) hlk) (by omega)),this.1,this.2,rfl,rfl,hk⟩
       .cases hk
      .cases hk
     .cases hk
    .
     rename_i m i o;split at hk
     .
      rename_i e xs hm;split at hk
      .
       rename_i L hL;rw[aH]at hk;split at hk
       .
        rename_i hcan;simp only[ae]at hcan;obtain⟨hcan,hmL⟩:=hcan;have hmL:bu m L=false:=by simpa using hmL
        obtain⟨hcan,hlk⟩:=gf hcan;split at hk
        .
         rename_i S1 hS1;obtain⟨E1,M1,g1,e1,e2,e3,e4,e5,e6⟩:=mO M hS1;obtain⟨x0,hx0,hk2⟩:=jq hk;clear hk;split at hk2
         .
          rename_i is' hput;split at hk2
          .
           rename_i w hrd;rw[nj]at ha;obtain⟨b,j,hb,rfl,hj,rfl⟩:=ha.2.2.1 e xs (by rw[M.st];exact hm);obtain⟨n,hn,hxn⟩:=lL hx0;cases hn;obtain⟨hl1,hr⟩:=M.hD m _ hm;unfold gx at hr;rw[hb]at hr;obtain⟨y,p1,p2,p3,p4,p5⟩:=hr;obtain⟨cs,q1,q2⟩:=p5 j x0 hxn;obtain⟨d1,d2,d3,rfl,w1,w2,w3⟩:=q8 hput (dT.2 (mE.2 q2)) c2
           have hcov:pN E E1.Z 3 is':=(mz (E:=E) (Q:=E1.Z) (by rw[M.st];exact hL) λm' e' b' hm' he' hb'=>e3 m' e' b' (fs.2 hm') (by rw[<-M.st];exact he') hb').sub λm' hm'=>by
            rcases CV hput m' hm' with g|g;.rw[fy,tb,my]at g;cases g
            .exact g
           obtain⟨c',d',e7,r1,r2,_⟩:=qZ (E:=E) (Q:=E1.Z) g1.z (λm e hm=>M.hD m e (by rw[<-M.st];exact hm)) (by rw[M.st];exact hrd) w3 hcov;unfold du at r2;subst r2;rw[bf]at e7;subst e7;have hE1:E1.hp=E.hp:=by rw[M1.hp,M.hp]
           have hm1:S1.st.ap m=some (.row e xs):=by rw[e4 m hmL];exact hm
           have hb1:E1.mb m=some b:=by rw[e2.1];exact hb
           have p1':h.hp.ap b=some (.cp y):=by rw[<-M.hp];exact p1
           have hcan1:S1.jU m=true:=by unfold SS.jU at*;rw[g1.base,g1.wr];exact hcan
           have hlen2:=g5 q1;simp only[ax]at hlen2;have hjz:=rh (z:=e.size) hj
           have:=qN (b:=b) (e:= .row e (aG xs (Int.ofNat j) w)) (hp':=h.hp.set b (.cp ⟨true,y.z,y.n,cr y.c (j*e.size+o) vc⟩)) M1 hm1 hcan1 (.inl hb1) (λc hc=>Tr.bS _ _ hc) (λu xs' he=>by cases he;exact⟨xs,rfl,by show xs.length=(xs.set _ _).length;simp⟩) (λg u xs' he=>by cases he) rfl λk1 _=>⟨by show(xs.set _ _).length<=_;simpa using hl1,by
            show gx _ (E1.mb m) e (xs.set j w);rw[hb1];refine⟨_,Tr.a8 _ _ _,rfl,p3,by simpa using p4,λi x' hx'=>?_⟩;have h0:∀i x,xs[i]?=some x->∃cs,cF y (i*e.size) e.size=some cs/\dY (h.hp.set b (.cp ⟨true,y.z,y.n,cr y.c (j*e.size+o) vc⟩)) E1.Z e cs x:=by intro i x hx;obtain⟨cs,k2,k3⟩:=p5 i x hx;exact⟨cs,k2,k1 _ _ _ (k3.mono g1.z λ_ _=>by rw[hE1])⟩
            exact O5 (w:=true) (z':=y.z) (n:=y.n) h0 hxn q1 w1 (by rw[w2,hlen]) (k1 _ _ _ (by rw[hE1];exact r1)) (au _) i x' hx'⟩
           refine⟨_,_,_,hd b _ _ (jO p1' p2 (mm M hm (.inl hb) hlk) (by omega)),this.1,g1.trans this.2,?_,rfl,hk2⟩;show S1.dC=_;exact e1
          .cases hk2
         .cases hk2
        .cases hk
       .cases hk
      .cases hk
     .
      rename_i g e xs hm;split at hk
      .
       rename_i w;split at hk
       .
        rename_i ys S1 hgive;rw[aH]at hk;split at hk
        .
         rename_i hcond;simp only[ae]at hcond;obtain⟨hcw,ho0,hsome⟩:=hcond;have ho0:=aw ho0;subst ho0;obtain⟨hin,hk2⟩:=ep hk;obtain⟨v',o2,rfl,r1,r2,r3,r4,r5,r6,r7⟩:=vG M hgive (dT.1 c2);obtain⟨hcan,hlk⟩:=gf hcw;have hcan:S.jU m=true:=by rw[r4]at hcan;exact hcan
         have hlk:bu m S.lk=false:=by rw[r4]at hlk;exact hlk
         have hm1:S1.st.ap m=some (.rows g e xs):=by cases hq:S1.st.ap m with
          |none=>rw[hq]at hsome;cases hsome
          |some e'=>rw[r5 m e' hq]at hm;exact hm
         rw[nj]at ha;obtain⟨b,j,hb,rfl,hj,rfl⟩:=ha.2.2.2 _ _ (by rw[M.st];exact hm) rfl;obtain⟨_,hlen',hR⟩:=M.hD m _ hm;obtain⟨b',y,p1,p2,p3,p4,p5,p6⟩:=hR.b hb;rw[hb]at p1;cases p1;obtain⟨E',q1,q2⟩:=yI M r5 r6 hm1 rfl hlen' (yf.w j ⟨b,y,hb,p2,p3,p4,p5,p6⟩) hcan hb p2 hj r7 r1 r2 r3;have hS:(S1.iE m (.rows S1.nx e (aG xs (Int.ofNat j) ys))).KL=S.mem (S1.st.set m (.rows S.nx e (xs.set j ys))) (Nat.add S.nx 1):=by rw[r4];rfl
         rw[hS]at hk2;exact⟨_,_,E',hd b _ _ (jO (by rw[<-M.hp];exact p2) p3 (mm M hm (.inl hb) hlk) (by show j+0+1<=y.n;omega)),q1,q2,rfl,rfl,hk2⟩
        .cases hk
       .cases hk
      .cases hk
     .
      rename_i e xs q hm;split at hk
      .
       rename_i w;split at hk
       .
        rename_i ys S1 hgive;rw[aH]at hk;split at hk
        .
         rename_i hcond;simp only[ae]at hcond;obtain⟨hcw,ho0,hsome⟩:=hcond;have ho0:=aw ho0;subst ho0;obtain⟨hin,hk2⟩:=ep hk;obtain⟨v',o2,rfl,r1,r2,r3,r4,r5,r6,r7⟩:=vG M hgive (dT.1 c2);obtain⟨hcan,hlk⟩:=gf hcw;have hcan:S.jU m=true:=by rw[r4]at hcan;exact hcan
         have hlk:bu m S.lk=false:=by rw[r4]at hlk;exact hlk
         have hm1:S1.st.ap m=some (.mM e xs q):=by cases hq:S1.st.ap m with
          |none=>rw[hq]at hsome;cases hsome
          |some e'=>rw[r5 m e' hq]at hm;exact hm
         rw[nj]at ha;obtain⟨b,j,hb,rfl,hj,rfl⟩:=ha.2.2.2 _ _ (by rw[M.st];exact hm) rfl;obtain⟨hlen',j',hq,_,_,b',y,p1,p2,p3,p4,p5,p6⟩:=M.hD m _ hm;have hjj:j=j':=by have:=br hin;rw[hq]at this;exact Int.ofNat.inj this
         subst hjj;rw[hb]at p1;cases p1;obtain⟨E',q1,q2⟩:=yI M r5 r6 hm1 rfl hlen' ⟨b,y,hb,p2,p3,p4,p5,p6⟩ hcan hb p2 hj r7 r1 r2 r3;have hS:(S1.iE m (.rows S1.nx e (aG xs (Int.ofNat j) ys))).KL=S.mem (S1.st.set m (.rows S.nx e (xs.set j ys))) (Nat.add S.nx 1):=by rw[r4];rfl
         rw[hS]at hk2;exact⟨_,_,E',hd b _ _ (jO (by rw[<-M.hp];exact p2) p3 (mm M hm (.inl hb) hlk) (by show j+0+1<=y.n;omega)),q1,q2,rfl,rfl,hk2⟩
        .cases hk
       .cases hk
      .cases hk
     .cases hk
    .
     rename_i m o n u j p;rw[vP]at ha;obtain⟨_,b,k,hb,rfl,hkn,rfl⟩:=ha;split at hk
     .
      rename_i z is hm;split at hk
      .
       rename_i L hL;rw[aH]at hk;split at hk
       .
        rename_i hcan;simp only[ae]at hcan;obtain⟨hcan,hmL⟩:=hcan;have hmL:bu m L=false:=by simpa using hmL
        obtain⟨hcan,hlk⟩:=gf hcan;split at hk
        .
         rename_i S1 hS1;obtain⟨E1,M1,g1,e1,e2,e3,e4,e5,e6⟩:=mO M hS1;split at hk
         .
          rename_i d hgd;split at hk
          .
           rename_i xs hrd;rw[aH]at hk;split at hk
           .
            rename_i hnd;obtain⟨y0,hy0,hk2⟩:=jq hk;clear hk;split at hk2
            .
             rename_i is' hput;split at hk2
             .
              rename_i w hrw;split at hk2
              .
               rename_i is2 hput2;obtain⟨b',y,cs,p1,p2,p3,p4,p5,p6⟩:=M.hD m _ hm;rw[hb]at p1;cases p1;obtain⟨a1,a2,a3,rfl,q1,q2,q3⟩:=mN hgd p6;obtain⟨k1,k2⟩:=LU M hrd q3 hnd;obtain⟨n',hn,hxn⟩:=lL hy0;cases hn;obtain⟨d1,d2,d3,rfl,w1,w2,w3⟩:=lw (z:=u.size) (λ_ _ h=>h.len) k2 hxn;obtain⟨f1,f2,f3,rfl,v1,v2,v3⟩:=q8 hput (dT.2 (mE.2 w3)) c2
               have hcov:pN E E1.Z 3 is':=(mz (E:=E) (Q:=E1.Z) (by rw[M.st];exact hL) λm' e' b' hm' he' hb'=>e3 m' e' b' (fs.2 hm') (by rw[<-M.st];exact he') hb').sub λm' hm'=>by
                rcases CV hput m' hm' with g|g;.rw[fy,tb,my]at g;cases g
                .exact g
               obtain⟨c',d',e7,r1,r2,_⟩:=qZ (E:=E) (Q:=E1.Z) g1.z (λm e hm=>M.hD m e (by rw[<-M.st];exact hm)) (by rw[M.st];exact hrw) v3 hcov;unfold du at r2;subst r2;rw[bf]at e7;subst e7;have hE1:E1.hp=E.hp:=by rw[M1.hp,M.hp]
               have hA:=HQ (R:=dY E1.hp E1.Z u) (z:=u.size) (k:=k) (λ_ _ h=>h.len) (nN (λ_ _ h=>dY.mono g1.z (λ_ _=>by rw[hE1]) h) k2) rfl w1 w2 (by rw[k1];exact hkn) (by rw[hE1];exact r1);have hC:CR E1 (.val (.im n u) (aG xs (Int.ofNat k) w)) (d1++(f1++(vc++f3)++d3)):=by unfold CR dY;exact⟨by show(xs.set _ _).length=n;rw[bx];exact k1,hA⟩
               obtain⟨b1,b2,b3,e8,t1,t2,t3⟩:=q8 hput2 (du.fm (g1.fm M M1) (.inl rfl) p6) (dT.2 hC);obtain⟨rfl,e9⟩:=ka e8 (by rw[q1,t1]);obtain⟨rfl,rfl⟩:=ka e9 (by rw[q2,t2]);have hn:=g5 p5;simp only[ax]at hn q2 w2;have p5':cF y 0 y.n=some (a1++d1++f1++(f2++(f3++d3++a3))):=by rw[p5];simp
               have p2':h.hp.ap b=some (.cp y):=by rw[<-M.hp];exact p2
               have hpos:(a1++d1++f1).length=o+k*u.size+p:=by simp only[ax];omega
               have hm1:S1.st.ap m=some (.box z is):=by rw[e4 m hmL];exact hm
               have hb1:E1.mb m=some b:=by rw[e2.1];exact hb
               have hcan1:S1.jU m=true:=by unfold SS.jU at*;rw[g1.base,g1.wr];exact hcan
               have:=qN (b:=b) (e:= .box z is2) (hp':=h.hp.set b (.cp ⟨true,y.z,y.n,cr y.c (o+k*u.size+p) vc⟩)) M1 hm1 hcan1 (.inl hb1) (λc hc=>Tr.bS _ _ hc) (λu xs he=>by cases he) (λg u xs he=>by cases he) rfl λ_ g2=>⟨b,_,a1++(d1++(f1++(vc++f3)++d3)++a3),hb1,Tr.a8 _ _ _,rfl,p4,by have:=vH (w:=true) (z:=y.z) (n:=y.n) (c:=vc) p5' (by rw[v2,hlen]) (au _);rw[bi,hpos]at this;rw[this];simp,g2 _ _ t3⟩;refine⟨_,_,_,hd b _ _ (jO p2' p3 (mm M hm (.inl hb) hlk) (by omega)),this.1,g1.trans this.2,?_,rfl,hk2⟩;show S1.dC=_;exact e1
              .cases hk2
             .cases hk2
            .cases hk2
           .cases hk
          .cases hk
         .cases hk
        .cases hk
       .cases hk
      .cases hk
     .cases hk
    .cases hk
   .cases hk
  .cases hk
 .cases hk
end
end Go.Ls
