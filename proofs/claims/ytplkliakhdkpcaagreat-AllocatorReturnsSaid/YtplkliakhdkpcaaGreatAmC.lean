/-
  Operations on abstract values: numbers, tests, guards, tuples, lengths, addresses, loads.
  Conditions: none: plain theorems over whatever program P.
-/
import Derived.Test.YtplkliakhdkpcaaGreatAmB
import Derived.Test.YtplkliakhdkpcaaGreatWkD
set_option linter.unusedVariables false
set_option linter.unusedSimpArgs false
namespace Go.Am
open Go Go.RowKit Go.Wk
def inI (a:Int):Bool:=decide (-9223372036854775808≤a)&&decide (a≤9223372036854775807)
theorem zKa {a:Int} (h:inI a=true) : -9223372036854775808≤a∧a≤9223372036854775807:=by simpa [inI] using h
def inb (i:Int) (n:Nat):Bool:=decide (0≤i)&&decide (i<(n:Int))
theorem zBT {i:Int} {n:Nat} (h:inb i n=true):0≤i∧i.toNat<n:=by simp [inb] at h; omega
theorem zMn {i:Int} {n:Nat} (h:inb i n=true):((i.toNat:Nat):Int)=i:=Int.toNat_of_nonneg (zBT h).1
theorem zRv {β:Type} {b:Bool} (h:b=true) {x y:β}:(bif b then x else y)=x:=by rw [h]; rfl
def zLD (op:BinOp) (k:IntKind) (x y:Int):Int :=
  let a:=BitVec.ofInt k.bits x
  let b:=BitVec.ofInt k.bits y
  match op with
  | .and=>k.wrap ((a &&& b).toNat:Int)
  | .or=>k.wrap ((a ||| b).toNat:Int)
  | .xor=>k.wrap ((a ^^^ b).toNat:Int)
  | .andNot=>k.wrap ((a &&& ~~~b).toNat:Int)
  | _=>0
section
variable {P:Program} {n:Nat} {e:zCH} {H:zAQ} {x y z c:Operand} {a b:Int} {k:IntKind} {ty ty2:TypeId}
theorem zQ0 {w:World} {A:Nat→Prop} {κ:List Value} {u v:Value} (h:VR w A κ (.lit u) v []):v=u:=by unfold VR at h; exact h.1
theorem zHS (w:World) (A:Nat→Prop) (κ:List Value) (u:Value):VR w A κ (.lit u) u []:=by unfold VR; exact ⟨rfl,rfl⟩
theorem zAg {w:World} {A:Nat→Prop} {κ:List Value} {F:Env} {v:Value} (h:zJz w A κ n e F) (hx:aev n e x = .lit v):ev n F x=v:=by
  have:=h.ev x
  rw [hx] at this
  exact zQ0 this
theorem zB9 {o:Op} {v:Value} (h:∀ w A0 κ fp F,SH w A0 H κ fp→zJz w (avd A0 fp) κ n e F→Val P n F w o v w):zt P n e H o (.lit v) :=
  fun w A0 κ fp F h1 h2=>⟨v,h w A0 κ fp F h1 h2,zHS _ _ _ _⟩
theorem zB {av:AV} (hx:aev n e x=av):zt P n e H (.move x) av:=fun w A0 κ fp F _ h2=>⟨_,zRk rfl,hx▸h2.ev x⟩
theorem zD {av:AV} (hx:aev n e x=av):zt P n e H (.assign x) av:=fun w A0 κ fp F _ h2=>⟨_,zPl rfl,hx▸h2.ev x⟩
theorem zA4 {t:Bool} (hx:aev n e x = .lit (.bool t)):zt P n e H (.unOp .not ty x) (.lit (.bool (!t))):=zB9 fun w A0 κ fp F _ h2=>zSO (zAg h2 hx)
section
variable (hx:aev n e x = .lit (.int k a)) (hy:aev n e y = .lit (.int k b))
include hx hy
theorem zg:zt P n e H (.binOp .lss ty x y ty2) (.lit (.bool (decide (a<b)))):=zB9 fun w A0 κ fp F _ h2=>zSE (zAg h2 hx) (zAg h2 hy)
theorem zC0:zt P n e H (.binOp .leq ty x y ty2) (.lit (.bool (decide (a≤b)))):=zB9 fun w A0 κ fp F _ h2=>zSa (zAg h2 hx) (zAg h2 hy)
theorem zAm:zt P n e H (.binOp .gtr ty x y ty2) (.lit (.bool (decide (b<a)))):=zB9 fun w A0 κ fp F _ h2=>zSZ (zAg h2 hx) (zAg h2 hy)
theorem zAv:zt P n e H (.binOp .geq ty x y ty2) (.lit (.bool (decide (b≤a)))):=zB9 fun w A0 κ fp F _ h2=>zSe (zAg h2 hx) (zAg h2 hy)
theorem zBd:zt P n e H (.binOp .eql ty x y ty2) (.lit (.bool (decide (a=b)))):=zB9 fun w A0 κ fp F _ h2=>zSJ (zAg h2 hx) (zAg h2 hy)
theorem z7:zt P n e H (.binOp .neq ty x y ty2) (.lit (.bool (!decide (a=b)))):=zB9 fun w A0 κ fp F _ h2=>zSW (zAg h2 hx) (zAg h2 hy)
theorem zNO (h:(!decide (b=0))=true):zt P n e H (.binOp .rem ty x y ty2) (.lit (.int k (a.tmod b))):=zB9 fun w A0 κ fp F _ h2=>zR6 (zAg h2 hx) (zAg h2 hy) (by simpa using h)
theorem zOr:zt P n e H (.binOp .xor ty x y ty2) (.lit (.int k (zLD .xor k a b))):=zB9 fun w A0 κ fp F _ h2=>by
  refine ⟨fun d t p af g => ?_⟩
  have h4:(binOp .xor ty (.int k a) (.int k b)).run P w = .ok (.int k (zLD .xor k a b)) w:=by rw [binOp_xor]; rfl
  simp only [execOp,zAg h2 hx,zAg h2 hy,Sem.run_bind,eqGuard_xor,Sem.run_pure,Result.andThen_ok,h4]
theorem zON:zt P n e H (.binOp .andNot ty x y ty2) (.lit (.int k (zLD .andNot k a b))):=zB9 fun w A0 κ fp F _ h2=>by
  refine ⟨fun d t p af g => ?_⟩
  have h4:(binOp .andNot ty (.int k a) (.int k b)).run P w = .ok (.int k (zLD .andNot k a b)) w:=by rw [binOp_andNot]; rfl
  simp only [execOp,zAg h2 hx,zAg h2 hy,Sem.run_bind,eqGuard_andNot,Sem.run_pure,Result.andThen_ok,h4]
end
section
variable (hx:aev n e x = .lit (.int .i64 a)) (hy:aev n e y = .lit (.int .i64 b))
include hx hy
theorem ze (h:inI (a+b)=true):zt P n e H (.binOp .add ty x y ty2) (.lit (.int .i64 (a+b))):=zB9 fun w A0 κ fp F _ h2=>zS0 (zAg h2 hx) (zAg h2 hy) (zKa h).1 (zKa h).2
theorem zCB (h:inI (a - b)=true):zt P n e H (.binOp .sub ty x y ty2) (.lit (.int .i64 (a - b))):=zB9 fun w A0 κ fp F _ h2=>zSt (zAg h2 hx) (zAg h2 hy) (zKa h).1 (zKa h).2
theorem zKt (h:inI (a*b)=true):zt P n e H (.binOp .mul ty x y ty2) (.lit (.int .i64 (a*b))):=zB9 fun w A0 κ fp F _ h2=>zSK (zAg h2 hx) (zAg h2 hy) (zKa h).1 (zKa h).2
theorem zM2 {tys:Array TypeId}:zt P n e H (.call { callee := .builtin .min,args := #[x,y],argTypes:=tys }) (.lit (.int .i64 (min a b))):=zB9 fun w A0 κ fp F _ h2=>zSw (zAg h2 hx) (zAg h2 hy)
end
def zLc (b:Int):Bool:=decide (0≤b)&&decide (b≤62)
theorem zQ1 {b:Int} (h:zLc b=true):0≤b∧b.toNat≤62:=by simp [zLc] at h; omega
theorem zCP {ky:IntKind} (hx:aev n e x = .lit (.int .i64 a)) (hy:aev n e y = .lit (.int ky b)) (hs:zLc b=true) (h:inI (a*2 ^ b.toNat)=true):zt P n e H (.binOp .shl ty x y ty2) (.lit (.int .i64 (a*2 ^ b.toNat))):=zB9 fun w A0 κ fp F _ h2=>by
  have h3:=zAg h2 hy
  rw [← Int.toNat_of_nonneg (zQ1 hs).1] at h3
  exact zS9 (zAg h2 hx) h3 (zQ1 hs).2 (zKa h).1 (zKa h).2
theorem zRX {ky:IntKind} (hx:aev n e x = .lit (.int k a)) (hy:aev n e y = .lit (.int ky b)) (hs:(decide (0≤b)&&decide (b≤(k.bits:Int)))=true):zt P n e H (.binOp .shr ty x y ty2) (.lit (.int k (a.fdiv (2 ^ b.toNat)))):=zB9 fun w A0 κ fp F _ h2=>by
  have h3:=zAg h2 hy
  simp only [Bool.and_eq_true,decide_eq_true_eq] at hs
  rw [← Int.toNat_of_nonneg hs.1] at h3
  exact zR8 (zAg h2 hx) h3 (by omega)
theorem zFm {src dst:TypeId} {k':IntKind} {sd:TypeDesc} (hs:P.underlying src=some sd) (hd:P.underlying dst=some (.int k')) (hx:aev n e x = .lit (.int k a)) (h:decide (k'.wrap a=a)=true):zt P n e H (.convert src dst x) (.lit (.int k' a)) :=
  zB9 fun w A0 κ fp F _ h2=>zRA hs hd (zAg h2 hx) (of_decide_eq_true h)
theorem zz {s q:Bool} {j:AV} (hc:aev n e c = .lit (.bool s)) (hx:aev n e x=bif s then .lit (.bool q) else j):zt P n e H (.pick c x (.const (.bool false))) (.lit (.bool (s&&q))) :=
  zB9 fun w A0 κ fp F _ h2=>zN0 (zAg h2 hc) (fun hs=>zAg h2 (hx.trans (zRv hs)))
theorem zb {s q:Bool} {j:AV} (hc:aev n e c = .lit (.bool s)) (hx:aev n e x=bif !s then .lit (.bool q) else j):zt P n e H (.pick c (.const (.bool true)) x) (.lit (.bool (s||q))) :=
  zB9 fun w A0 κ fp F _ h2=>zOW (zAg h2 hc) (fun hs=>zAg h2 (hx.trans (zRv (by rw [hs]; rfl))))
section
variable {ops:Array Oper} {rest:List Oper} {kk:zCH→zAQ→Prop} {op:Op} {m d t j g:Nat} {p:String} {af:Array Edge} {av:AV} {s s':Bool}
theorem zm (hj:(ops[j]?).bind (·.dst)=some g) (hg:aev n e (.tmp g) = .lit (.bool s)) (h:s=true→zLE P n e H op av H) (hk:ALW P n m ops rest kk (zHr e d (bif s then av else .lit undef)) H) :
    ALW P n m ops (⟨some d,op,t,p,af,some (j,true)⟩::rest) kk e H:=by
  intro w A0 κ fp F h1 h2
  cases hs:s with
  | true =>
    rw [hs] at hk hg
    obtain ⟨v,w',κ',fp',g1,g2,g3,g4⟩:=h hs w A0 κ fp F h1 h2
    exact zO4 hj (zAg h2 hg) g1 (zCW (hk w' A0 κ' fp' _ g2 ((h2.mv (g4.mv A0)).upd g3)) (fun _ _=>zAr (g4.m m)))
  | false =>
    rw [hs] at hk hg
    exact zKj hj (zAg h2 hg) (hk w A0 κ fp _ h1 (h2.upd (zHS _ _ _ _)))
theorem zT (hj:(ops[j]?).bind (·.dst)=some g) (hg:aev n e (.tmp g) = .lit (.bool s)) (h:(!s)=true→zLE P n e H op av H) (hk:ALW P n m ops rest kk (zHr e d (bif !s then av else .lit undef)) H) :
    ALW P n m ops (⟨some d,op,t,p,af,some (j,false)⟩::rest) kk e H:=by
  intro w A0 κ fp F h1 h2
  cases hs:s with
  | false =>
    rw [hs] at hk hg h
    obtain ⟨v,w',κ',fp',g1,g2,g3,g4⟩:=h rfl w A0 κ fp F h1 h2
    exact zO4 hj (zAg h2 hg) g1 (zCW (hk w' A0 κ' fp' _ g2 ((h2.mv (g4.mv A0)).upd g3)) (fun _ _=>zAr (g4.m m)))
  | true =>
    rw [hs] at hk hg
    exact zKj hj (zAg h2 hg) (hk w A0 κ fp _ h1 (h2.upd (zHS _ _ _ _)))
theorem zKU (hj:(ops[j]?).bind (·.dst)=some g) (hg:aev n e (.tmp g)=bif s' then .lit (.bool s) else .lit undef) (h:(s'&&s)=true→zLE P n e H op av H) (hk:ALW P n m ops rest kk (zHr e d (bif (s'&&s) then av else .lit undef)) H) :
    ALW P n m ops (⟨some d,op,t,p,af,some (j,true)⟩::rest) kk e H:=by
  cases hs:s' with
  | true=>rw [hs] at hg hk h; exact zm hj hg (by simpa using h) (by simpa using hk)
  | false =>
    rw [hs] at hg hk
    intro w A0 κ fp F h1 h2
    exact zNA hj (fun ⟨b,hb⟩=>by rw [zAg h2 hg] at hb; cases hb) (hk w A0 κ fp _ h1 (h2.upd (zHS _ _ _ _)))
theorem zI9 (hj:(ops[j]?).bind (·.dst)=some g) (hg:aev n e (.tmp g)=bif s' then .lit (.bool s) else .lit undef) (h:(s' && !s)=true→zLE P n e H op av H) (hk:ALW P n m ops rest kk (zHr e d (bif (s' && !s) then av else .lit undef)) H) :
    ALW P n m ops (⟨some d,op,t,p,af,some (j,false)⟩::rest) kk e H:=by
  cases hs:s' with
  | true=>rw [hs] at hg hk h; exact zT hj hg (by simpa using h) (by simpa using hk)
  | false =>
    rw [hs] at hg hk
    intro w A0 κ fp F h1 h2
    exact zNA hj (fun ⟨b,hb⟩=>by rw [zAg h2 hg] at hb; cases hb) (hk w A0 κ fp _ h1 (h2.upd (zHS _ _ _ _)))
end
end
end Go.Am
