/-
  Operations on abstract values: numbers, tests, guards, tuples, lengths, addresses, loads.
  Conditions: none: plain theorems over whatever program P.
-/
import Derived.Test.YtplkliakhdkpcaaGreatAmB
import Derived.Test.YtplkliakhdkpcaaGreatWkD
set_option linter.unusedVariables false
set_option linter.unusedSimpArgs false
namespace Go.Am
open Go Go.RowKit Go.Wk
def inI (a : Int) : Bool := decide (-9223372036854775808 ≤ a) && decide (a ≤ 9223372036854775807)
theorem zKp {a : Int} (h : inI a = true) : -9223372036854775808 ≤ a ∧ a ≤ 9223372036854775807 := by simpa [inI] using h
def inb (i : Int) (n : Nat) : Bool := decide (0 ≤ i) && decide (i < (n : Int))
theorem zBW {i : Int} {n : Nat} (h : inb i n = true) : 0 ≤ i ∧ i.toNat < n := by simp [inb] at h; omega
theorem zL7 {i : Int} {n : Nat} (h : inb i n = true) : ((i.toNat : Nat) : Int) = i := Int.toNat_of_nonneg (zBW h).1
theorem zQq {β : Type} {b : Bool} (h : b = true) {x y : β} : (bif b then x else y) = x := by rw [h]; rfl
def zKK (op : BinOp) (k : IntKind) (x y : Int) : Int :=
  let a := BitVec.ofInt k.bits x
  let b := BitVec.ofInt k.bits y
  match op with
  | .and => k.wrap ((a &&& b).toNat : Int)
  | .or => k.wrap ((a ||| b).toNat : Int)
  | .xor => k.wrap ((a ^^^ b).toNat : Int)
  | .andNot => k.wrap ((a &&& ~~~b).toNat : Int)
  | _ => 0
section
variable {P : Program} {n : Nat} {e : zB9} {H : zAR} {x y z c : Operand} {a b : Int} {k : IntKind} {ty ty2 : TypeId}
theorem zPI {w : World} {A : Nat → Prop} {κ : List Value} {u v : Value} (h : VR w A κ (.lit u) v []) : v = u := by unfold VR at h; exact h.1
theorem zGr (w : World) (A : Nat → Prop) (κ : List Value) (u : Value) : VR w A κ (.lit u) u [] := by unfold VR; exact ⟨rfl, rfl⟩
theorem zAc {w : World} {A : Nat → Prop} {κ : List Value} {F : Env} {v : Value} (h : zIv w A κ n e F) (hx : aev n e x = .lit v) : ev n F x = v := by
  have := h.ev x
  rw [hx] at this
  exact zPI this
theorem zBe {o : Op} {v : Value} (h : ∀ w A0 κ fp F, SH w A0 H κ fp → zIv w (avd A0 fp) κ n e F → Val P n F w o v w) : zj P n e H o (.lit v) :=
  fun w A0 κ fp F h1 h2 => ⟨v, h w A0 κ fp F h1 h2, zGr _ _ _ _⟩
theorem zB {av : AV} (hx : aev n e x = av) : zj P n e H (.move x) av := fun w A0 κ fp F _ h2 => ⟨_, zQB rfl, hx ▸ h2.ev x⟩
theorem zD {av : AV} (hx : aev n e x = av) : zj P n e H (.assign x) av := fun w A0 κ fp F _ h2 => ⟨_, zOq rfl, hx ▸ h2.ev x⟩
theorem zA8 {t : Bool} (hx : aev n e x = .lit (.bool t)) : zj P n e H (.unOp .not ty x) (.lit (.bool (!t))) := zBe fun w A0 κ fp F _ h2 => zRQ (zAc h2 hx)
section
variable (hx : aev n e x = .lit (.int k a)) (hy : aev n e y = .lit (.int k b))
include hx hy
theorem zf : zj P n e H (.binOp .lss ty x y ty2) (.lit (.bool (decide (a < b)))) := zBe fun w A0 κ fp F _ h2 => zRo (zAc h2 hx) (zAc h2 hy)
theorem zCq : zj P n e H (.binOp .leq ty x y ty2) (.lit (.bool (decide (a ≤ b)))) := zBe fun w A0 κ fp F _ h2 => zRj (zAc h2 hx) (zAc h2 hy)
theorem zAp : zj P n e H (.binOp .gtr ty x y ty2) (.lit (.bool (decide (b < a)))) := zBe fun w A0 κ fp F _ h2 => zRK (zAc h2 hx) (zAc h2 hy)
theorem zAq : zj P n e H (.binOp .geq ty x y ty2) (.lit (.bool (decide (b ≤ a)))) := zBe fun w A0 κ fp F _ h2 => zRU (zAc h2 hx) (zAc h2 hy)
theorem zBT : zj P n e H (.binOp .eql ty x y ty2) (.lit (.bool (decide (a = b)))) := zBe fun w A0 κ fp F _ h2 => zRX (zAc h2 hx) (zAc h2 hy)
theorem z7 : zj P n e H (.binOp .neq ty x y ty2) (.lit (.bool (!decide (a = b)))) := zBe fun w A0 κ fp F _ h2 => zR7 (zAc h2 hx) (zAc h2 hy)
theorem zOR (h : (!decide (b = 0)) = true) : zj P n e H (.binOp .rem ty x y ty2) (.lit (.int k (a.tmod b))) := zBe fun w A0 κ fp F _ h2 => zR0 (zAc h2 hx) (zAc h2 hy) (by simpa using h)
theorem zOE : zj P n e H (.binOp .xor ty x y ty2) (.lit (.int k (zKK .xor k a b))) := zBe fun w A0 κ fp F _ h2 => by
  refine ⟨fun d t p af g => ?_⟩
  have h4 : (binOp .xor ty (.int k a) (.int k b)).run P w = .ok (.int k (zKK .xor k a b)) w := by rw [binOp_xor]; rfl
  simp only [execOp, zAc h2 hx, zAc h2 hy, Sem.run_bind, eqGuard_xor, Sem.run_pure, Result.andThen_ok, h4]
theorem zNZ : zj P n e H (.binOp .andNot ty x y ty2) (.lit (.int k (zKK .andNot k a b))) := zBe fun w A0 κ fp F _ h2 => by
  refine ⟨fun d t p af g => ?_⟩
  have h4 : (binOp .andNot ty (.int k a) (.int k b)).run P w = .ok (.int k (zKK .andNot k a b)) w := by rw [binOp_andNot]; rfl
  simp only [execOp, zAc h2 hx, zAc h2 hy, Sem.run_bind, eqGuard_andNot, Sem.run_pure, Result.andThen_ok, h4]
end
section
variable (hx : aev n e x = .lit (.int .i64 a)) (hy : aev n e y = .lit (.int .i64 b))
include hx hy
theorem ze (h : inI (a + b) = true) : zj P n e H (.binOp .add ty x y ty2) (.lit (.int .i64 (a + b))) := zBe fun w A0 κ fp F _ h2 => zR6 (zAc h2 hx) (zAc h2 hy) (zKp h).1 (zKp h).2
theorem zB5 (h : inI (a - b) = true) : zj P n e H (.binOp .sub ty x y ty2) (.lit (.int .i64 (a - b))) := zBe fun w A0 κ fp F _ h2 => zRS (zAc h2 hx) (zAc h2 hy) (zKp h).1 (zKp h).2
theorem zKD (h : inI (a * b) = true) : zj P n e H (.binOp .mul ty x y ty2) (.lit (.int .i64 (a * b))) := zBe fun w A0 κ fp F _ h2 => zR1 (zAc h2 hx) (zAc h2 hy) (zKp h).1 (zKp h).2
theorem zMK {tys : Array TypeId} : zj P n e H (.call { callee := .builtin .min, args := #[x, y], argTypes := tys }) (.lit (.int .i64 (min a b))) := zBe fun w A0 κ fp F _ h2 => zRY (zAc h2 hx) (zAc h2 hy)
end
def zMt (b : Int) : Bool := decide (0 ≤ b) && decide (b ≤ 62)
theorem zPE {b : Int} (h : zMt b = true) : 0 ≤ b ∧ b.toNat ≤ 62 := by simp [zMt] at h; omega
theorem zDp {ky : IntKind} (hx : aev n e x = .lit (.int .i64 a)) (hy : aev n e y = .lit (.int ky b)) (hs : zMt b = true) (h : inI (a * 2 ^ b.toNat) = true) : zj P n e H (.binOp .shl ty x y ty2) (.lit (.int .i64 (a * 2 ^ b.toNat))) := zBe fun w A0 κ fp F _ h2 => by
  have h3 := zAc h2 hy
  rw [← Int.toNat_of_nonneg (zPE hs).1] at h3
  exact zQ7 (zAc h2 hx) h3 (zPE hs).2 (zKp h).1 (zKp h).2
theorem zQD {ky : IntKind} (hx : aev n e x = .lit (.int k a)) (hy : aev n e y = .lit (.int ky b)) (hs : (decide (0 ≤ b) && decide (b ≤ (k.bits : Int))) = true) : zj P n e H (.binOp .shr ty x y ty2) (.lit (.int k (a.fdiv (2 ^ b.toNat)))) := zBe fun w A0 κ fp F _ h2 => by
  have h3 := zAc h2 hy
  simp only [Bool.and_eq_true, decide_eq_true_eq] at hs
  rw [← Int.toNat_of_nonneg hs.1] at h3
  exact zRE (zAc h2 hx) h3 (by omega)
theorem zHQ {src dst : TypeId} {k' : IntKind} {sd : TypeDesc} (hs : P.underlying src = some sd) (hd : P.underlying dst = some (.int k')) (hx : aev n e x = .lit (.int k a)) (h : decide (k'.wrap a = a) = true) : zj P n e H (.convert src dst x) (.lit (.int k' a)) :=
  zBe fun w A0 κ fp F _ h2 => zQd hs hd (zAc h2 hx) (of_decide_eq_true h)
theorem zRO {w : World} {s t : Bool} (ht : P.underlying ty = some .bool) : (Op.equalIn (9999 + 1) ty (.bool s) (.bool t)).run P w = .ok (s == t) w := by
  unfold Op.equalIn
  simp only [Sem.run_bind, run_underlying ht, Result.andThen_ok]
  rfl
theorem zPB {s t : Bool} (ht : P.underlying ty = some .bool) (hx : aev n e x = .lit (.bool s)) (hy : aev n e y = .lit (.bool t)) : zj P n e H (.binOp .eql ty x y ty2) (.lit (.bool (s == t))) := zBe fun w A0 κ fp F _ h2 => by
  refine ⟨fun d t' p af g => ?_⟩
  have h4 : (binOp .eql ty (.bool s) (.bool t)).run P w = .ok (.bool (s == t)) w := by
    simp only [binOp, Op.equal, Op.maxDepth, Sem.run_bind, zRO ht, Result.andThen_ok, Sem.run_pure]
  simp [execOp, zAc h2 hx, zAc h2 hy, go_sem, h4]
theorem zy {s q : Bool} {j : AV} (hc : aev n e c = .lit (.bool s)) (hx : aev n e x = bif s then .lit (.bool q) else j) : zj P n e H (.pick c x (.const (.bool false))) (.lit (.bool (s && q))) :=
  zBe fun w A0 κ fp F _ h2 => zNQ (zAc h2 hc) (fun hs => zAc h2 (hx.trans (zQq hs)))
theorem zZ {s q : Bool} {j : AV} (hc : aev n e c = .lit (.bool s)) (hx : aev n e x = bif !s then .lit (.bool q) else j) : zj P n e H (.pick c (.const (.bool true)) x) (.lit (.bool (s || q))) :=
  zBe fun w A0 κ fp F _ h2 => zNW (zAc h2 hc) (fun hs => zAc h2 (hx.trans (zQq (by rw [hs]; rfl))))
section
variable {ops : Array Oper} {rest : List Oper} {kk : zB9 → zAR → Prop} {op : Op} {m d t j g : Nat} {p : String} {af : Array Edge} {av : AV} {s s' : Bool}
theorem zg (hj : (ops[j]?).bind (·.dst) = some g) (hg : aev n e (.tmp g) = .lit (.bool s)) (h : s = true → zKX P n e H op av H) (hk : ALW P n m ops rest kk (zHA e d (bif s then av else .lit undef)) H) :
    ALW P n m ops (⟨some d, op, t, p, af, some (j, true)⟩ :: rest) kk e H := by
  intro w A0 κ fp F h1 h2
  cases hs : s with
  | true =>
    rw [hs] at hk hg
    obtain ⟨v, w', κ', fp', g1, g2, g3, g4⟩ := h hs w A0 κ fp F h1 h2
    exact zOU hj (zAc h2 hg) g1 (zCP (hk w' A0 κ' fp' _ g2 ((h2.mv (g4.mv A0)).upd g3)) (fun _ _ => zAr (g4.m m)))
  | false =>
    rw [hs] at hk hg
    exact zJ2 hj (zAc h2 hg) (hk w A0 κ fp _ h1 (h2.upd (zGr _ _ _ _)))
theorem zU (hj : (ops[j]?).bind (·.dst) = some g) (hg : aev n e (.tmp g) = .lit (.bool s)) (h : (!s) = true → zKX P n e H op av H) (hk : ALW P n m ops rest kk (zHA e d (bif !s then av else .lit undef)) H) :
    ALW P n m ops (⟨some d, op, t, p, af, some (j, false)⟩ :: rest) kk e H := by
  intro w A0 κ fp F h1 h2
  cases hs : s with
  | false =>
    rw [hs] at hk hg h
    obtain ⟨v, w', κ', fp', g1, g2, g3, g4⟩ := h rfl w A0 κ fp F h1 h2
    exact zOU hj (zAc h2 hg) g1 (zCP (hk w' A0 κ' fp' _ g2 ((h2.mv (g4.mv A0)).upd g3)) (fun _ _ => zAr (g4.m m)))
  | true =>
    rw [hs] at hk hg
    exact zJ2 hj (zAc h2 hg) (hk w A0 κ fp _ h1 (h2.upd (zGr _ _ _ _)))
theorem zJn (hj : (ops[j]?).bind (·.dst) = some g) (hg : aev n e (.tmp g) = bif s' then .lit (.bool s) else .lit undef) (h : (s' && s) = true → zKX P n e H op av H) (hk : ALW P n m ops rest kk (zHA e d (bif (s' && s) then av else .lit undef)) H) :
    ALW P n m ops (⟨some d, op, t, p, af, some (j, true)⟩ :: rest) kk e H := by
  cases hs : s' with
  | true => rw [hs] at hg hk h; exact zg hj hg (by simpa using h) (by simpa using hk)
  | false =>
    rw [hs] at hg hk
    intro w A0 κ fp F h1 h2
    exact zMM hj (fun ⟨b, hb⟩ => by rw [zAc h2 hg] at hb; cases hb) (hk w A0 κ fp _ h1 (h2.upd (zGr _ _ _ _)))
theorem zIT (hj : (ops[j]?).bind (·.dst) = some g) (hg : aev n e (.tmp g) = bif s' then .lit (.bool s) else .lit undef) (h : (s' && !s) = true → zKX P n e H op av H) (hk : ALW P n m ops rest kk (zHA e d (bif (s' && !s) then av else .lit undef)) H) :
    ALW P n m ops (⟨some d, op, t, p, af, some (j, false)⟩ :: rest) kk e H := by
  cases hs : s' with
  | true => rw [hs] at hg hk h; exact zU hj hg (by simpa using h) (by simpa using hk)
  | false =>
    rw [hs] at hg hk
    intro w A0 κ fp F h1 h2
    exact zMM hj (fun ⟨b, hb⟩ => by rw [zAc h2 hg] at hb; cases hb) (hk w A0 κ fp _ h1 (h2.upd (zGr _ _ _ _)))
end
end
end Go.Am
