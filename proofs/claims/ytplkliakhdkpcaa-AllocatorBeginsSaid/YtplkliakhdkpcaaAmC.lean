/-
  Operations on abstract values: numbers, tests, guards, tuples, lengths, addresses, loads.
  Conditions: none: plain theorems over whatever program P.
-/
import Derived.Test.YtplkliakhdkpcaaAmB
import Derived.Test.YtplkliakhdkpcaaWkD
set_option linter.unusedVariables false
set_option linter.unusedSimpArgs false
namespace Go.Am
open Go Go.RowKit Go.Wk
def inI (a : Int) : Bool := decide (-9223372036854775808 ≤ a) && decide (a ≤ 9223372036854775807)
theorem inI_bd {a : Int} (h : inI a = true) : -9223372036854775808 ≤ a ∧ a ≤ 9223372036854775807 := by simpa [inI] using h
def inb (i : Int) (n : Nat) : Bool := decide (0 ≤ i) && decide (i < (n : Int))
theorem inb_bd {i : Int} {n : Nat} (h : inb i n = true) : 0 ≤ i ∧ i.toNat < n := by simp [inb] at h; omega
theorem inb_eq {i : Int} {n : Nat} (h : inb i n = true) : ((i.toNat : Nat) : Int) = i := Int.toNat_of_nonneg (inb_bd h).1
theorem cond_t {β : Type} {b : Bool} (h : b = true) {x y : β} : (bif b then x else y) = x := by rw [h]; rfl
def bitF (op : BinOp) (k : IntKind) (x y : Int) : Int :=
  let a := BitVec.ofInt k.bits x
  let b := BitVec.ofInt k.bits y
  match op with
  | .and => k.wrap ((a &&& b).toNat : Int)
  | .or => k.wrap ((a ||| b).toNat : Int)
  | .xor => k.wrap ((a ^^^ b).toNat : Int)
  | .andNot => k.wrap ((a &&& ~~~b).toNat : Int)
  | _ => 0
section
variable {P : Program} {n : Nat} {e : AEnv} {H : AHeap} {x y z c : Operand} {a b : Int} {k : IntKind} {ty ty2 : TypeId}
theorem VR_lit {w : World} {A : Nat → Prop} {κ : List Value} {u v : Value} (h : VR w A κ (.lit u) v []) : v = u := by unfold VR at h; exact h.1
theorem lit_VR (w : World) (A : Nat → Prop) (κ : List Value) (u : Value) : VR w A κ (.lit u) u [] := by unfold VR; exact ⟨rfl, rfl⟩
theorem ev_lit {w : World} {A : Nat → Prop} {κ : List Value} {F : Env} {v : Value} (h : EnvR w A κ n e F) (hx : aev n e x = .lit v) : ev n F x = v := by
  have := h.ev x
  rw [hx] at this
  exact VR_lit this
theorem AVal_lit {o : Op} {v : Value} (h : ∀ w A0 κ fp F, SH w A0 H κ fp → EnvR w (avd A0 fp) κ n e F → Val P n F w o v w) : AVal P n e H o (.lit v) :=
  fun w A0 κ fp F h1 h2 => ⟨v, h w A0 κ fp F h1 h2, lit_VR _ _ _ _⟩
theorem AVal_move {av : AV} (hx : aev n e x = av) : AVal P n e H (.move x) av := fun w A0 κ fp F _ h2 => ⟨_, Val_move rfl, hx ▸ h2.ev x⟩
theorem AVal_assign {av : AV} (hx : aev n e x = av) : AVal P n e H (.assign x) av := fun w A0 κ fp F _ h2 => ⟨_, Val_assign rfl, hx ▸ h2.ev x⟩
theorem AVal_not {t : Bool} (hx : aev n e x = .lit (.bool t)) : AVal P n e H (.unOp .not ty x) (.lit (.bool (!t))) := AVal_lit fun w A0 κ fp F _ h2 => Val_not (ev_lit h2 hx)
section
variable (hx : aev n e x = .lit (.int k a)) (hy : aev n e y = .lit (.int k b))
include hx hy
theorem AVal_lss : AVal P n e H (.binOp .lss ty x y ty2) (.lit (.bool (decide (a < b)))) := AVal_lit fun w A0 κ fp F _ h2 => Val_lss (ev_lit h2 hx) (ev_lit h2 hy)
theorem AVal_leq : AVal P n e H (.binOp .leq ty x y ty2) (.lit (.bool (decide (a ≤ b)))) := AVal_lit fun w A0 κ fp F _ h2 => Val_leq (ev_lit h2 hx) (ev_lit h2 hy)
theorem AVal_gtr : AVal P n e H (.binOp .gtr ty x y ty2) (.lit (.bool (decide (b < a)))) := AVal_lit fun w A0 κ fp F _ h2 => Val_gtr (ev_lit h2 hx) (ev_lit h2 hy)
theorem AVal_geq : AVal P n e H (.binOp .geq ty x y ty2) (.lit (.bool (decide (b ≤ a)))) := AVal_lit fun w A0 κ fp F _ h2 => Val_geq (ev_lit h2 hx) (ev_lit h2 hy)
theorem AVal_eql : AVal P n e H (.binOp .eql ty x y ty2) (.lit (.bool (decide (a = b)))) := AVal_lit fun w A0 κ fp F _ h2 => Val_eql (ev_lit h2 hx) (ev_lit h2 hy)
theorem AVal_neq : AVal P n e H (.binOp .neq ty x y ty2) (.lit (.bool (!decide (a = b)))) := AVal_lit fun w A0 κ fp F _ h2 => Val_neq (ev_lit h2 hx) (ev_lit h2 hy)
theorem AVal_rem (h : (!decide (b = 0)) = true) : AVal P n e H (.binOp .rem ty x y ty2) (.lit (.int k (a.tmod b))) := AVal_lit fun w A0 κ fp F _ h2 => Val_rem (ev_lit h2 hx) (ev_lit h2 hy) (by simpa using h)
theorem AVal_xor : AVal P n e H (.binOp .xor ty x y ty2) (.lit (.int k (bitF .xor k a b))) := AVal_lit fun w A0 κ fp F _ h2 => by
  refine ⟨fun d t p af g => ?_⟩
  have h4 : (binOp .xor ty (.int k a) (.int k b)).run P w = .ok (.int k (bitF .xor k a b)) w := by rw [binOp_xor]; rfl
  simp only [execOp, ev_lit h2 hx, ev_lit h2 hy, Sem.run_bind, eqGuard_xor, Sem.run_pure, Result.andThen_ok, h4]
theorem AVal_andNot : AVal P n e H (.binOp .andNot ty x y ty2) (.lit (.int k (bitF .andNot k a b))) := AVal_lit fun w A0 κ fp F _ h2 => by
  refine ⟨fun d t p af g => ?_⟩
  have h4 : (binOp .andNot ty (.int k a) (.int k b)).run P w = .ok (.int k (bitF .andNot k a b)) w := by rw [binOp_andNot]; rfl
  simp only [execOp, ev_lit h2 hx, ev_lit h2 hy, Sem.run_bind, eqGuard_andNot, Sem.run_pure, Result.andThen_ok, h4]
end
section
variable (hx : aev n e x = .lit (.int .i64 a)) (hy : aev n e y = .lit (.int .i64 b))
include hx hy
theorem AVal_add (h : inI (a + b) = true) : AVal P n e H (.binOp .add ty x y ty2) (.lit (.int .i64 (a + b))) := AVal_lit fun w A0 κ fp F _ h2 => Val_add (ev_lit h2 hx) (ev_lit h2 hy) (inI_bd h).1 (inI_bd h).2
theorem AVal_sub (h : inI (a - b) = true) : AVal P n e H (.binOp .sub ty x y ty2) (.lit (.int .i64 (a - b))) := AVal_lit fun w A0 κ fp F _ h2 => Val_sub (ev_lit h2 hx) (ev_lit h2 hy) (inI_bd h).1 (inI_bd h).2
theorem AVal_mul (h : inI (a * b) = true) : AVal P n e H (.binOp .mul ty x y ty2) (.lit (.int .i64 (a * b))) := AVal_lit fun w A0 κ fp F _ h2 => Val_mul (ev_lit h2 hx) (ev_lit h2 hy) (inI_bd h).1 (inI_bd h).2
theorem AVal_min {tys : Array TypeId} : AVal P n e H (.call { callee := .builtin .min, args := #[x, y], argTypes := tys }) (.lit (.int .i64 (min a b))) := AVal_lit fun w A0 κ fp F _ h2 => Val_min (ev_lit h2 hx) (ev_lit h2 hy)
end
def shOk (b : Int) : Bool := decide (0 ≤ b) && decide (b ≤ 62)
theorem shOk_bd {b : Int} (h : shOk b = true) : 0 ≤ b ∧ b.toNat ≤ 62 := by simp [shOk] at h; omega
theorem AVal_shl {ky : IntKind} (hx : aev n e x = .lit (.int .i64 a)) (hy : aev n e y = .lit (.int ky b)) (hs : shOk b = true) (h : inI (a * 2 ^ b.toNat) = true) : AVal P n e H (.binOp .shl ty x y ty2) (.lit (.int .i64 (a * 2 ^ b.toNat))) := AVal_lit fun w A0 κ fp F _ h2 => by
  have h3 := ev_lit h2 hy
  rw [← Int.toNat_of_nonneg (shOk_bd hs).1] at h3
  exact Val_shl (ev_lit h2 hx) h3 (shOk_bd hs).2 (inI_bd h).1 (inI_bd h).2
theorem AVal_shr {ky : IntKind} (hx : aev n e x = .lit (.int k a)) (hy : aev n e y = .lit (.int ky b)) (hs : (decide (0 ≤ b) && decide (b ≤ (k.bits : Int))) = true) : AVal P n e H (.binOp .shr ty x y ty2) (.lit (.int k (a.fdiv (2 ^ b.toNat)))) := AVal_lit fun w A0 κ fp F _ h2 => by
  have h3 := ev_lit h2 hy
  simp only [Bool.and_eq_true, decide_eq_true_eq] at hs
  rw [← Int.toNat_of_nonneg hs.1] at h3
  exact Val_shr (ev_lit h2 hx) h3 (by omega)
theorem AVal_conv {src dst : TypeId} {k' : IntKind} {sd : TypeDesc} (hs : P.underlying src = some sd) (hd : P.underlying dst = some (.int k')) (hx : aev n e x = .lit (.int k a)) (h : decide (k'.wrap a = a) = true) : AVal P n e H (.convert src dst x) (.lit (.int k' a)) :=
  AVal_lit fun w A0 κ fp F _ h2 => Val_conv hs hd (ev_lit h2 hx) (of_decide_eq_true h)
theorem AVal_pick_and {s q : Bool} {j : AV} (hc : aev n e c = .lit (.bool s)) (hx : aev n e x = bif s then .lit (.bool q) else j) : AVal P n e H (.pick c x (.const (.bool false))) (.lit (.bool (s && q))) :=
  AVal_lit fun w A0 κ fp F _ h2 => Val_pick_and (ev_lit h2 hc) (fun hs => ev_lit h2 (hx.trans (cond_t hs)))
theorem AVal_pick_or {s q : Bool} {j : AV} (hc : aev n e c = .lit (.bool s)) (hx : aev n e x = bif !s then .lit (.bool q) else j) : AVal P n e H (.pick c (.const (.bool true)) x) (.lit (.bool (s || q))) :=
  AVal_lit fun w A0 κ fp F _ h2 => Val_pick_or (ev_lit h2 hc) (fun hs => ev_lit h2 (hx.trans (cond_t (by rw [hs]; rfl))))
section
variable {ops : Array Oper} {rest : List Oper} {kk : AEnv → AHeap → Prop} {op : Op} {m d t j g : Nat} {p : String} {af : Array Edge} {av : AV} {s s' : Bool}
theorem ALW_g1 (hj : (ops[j]?).bind (·.dst) = some g) (hg : aev n e (.tmp g) = .lit (.bool s)) (h : s = true → AStep P n e H op av H) (hk : ALW P n m ops rest kk (updA e d (bif s then av else .lit undef)) H) :
    ALW P n m ops (⟨some d, op, t, p, af, some (j, true)⟩ :: rest) kk e H := by
  intro w A0 κ fp F h1 h2
  cases hs : s with
  | true =>
    rw [hs] at hk hg
    obtain ⟨v, w', κ', fp', g1, g2, g3, g4⟩ := h hs w A0 κ fp F h1 h2
    exact LW_gtake hj (ev_lit h2 hg) g1 (LW_mono (hk w' A0 κ' fp' _ g2 ((h2.mv (g4.mv A0)).upd g3)) (fun _ _ => conc_trans (g4.m m)))
  | false =>
    rw [hs] at hk hg
    exact LW_gskip hj (ev_lit h2 hg) (hk w A0 κ fp _ h1 (h2.upd (lit_VR _ _ _ _)))
theorem ALW_g0 (hj : (ops[j]?).bind (·.dst) = some g) (hg : aev n e (.tmp g) = .lit (.bool s)) (h : (!s) = true → AStep P n e H op av H) (hk : ALW P n m ops rest kk (updA e d (bif !s then av else .lit undef)) H) :
    ALW P n m ops (⟨some d, op, t, p, af, some (j, false)⟩ :: rest) kk e H := by
  intro w A0 κ fp F h1 h2
  cases hs : s with
  | false =>
    rw [hs] at hk hg h
    obtain ⟨v, w', κ', fp', g1, g2, g3, g4⟩ := h rfl w A0 κ fp F h1 h2
    exact LW_gtake hj (ev_lit h2 hg) g1 (LW_mono (hk w' A0 κ' fp' _ g2 ((h2.mv (g4.mv A0)).upd g3)) (fun _ _ => conc_trans (g4.m m)))
  | true =>
    rw [hs] at hk hg
    exact LW_gskip hj (ev_lit h2 hg) (hk w A0 κ fp _ h1 (h2.upd (lit_VR _ _ _ _)))
theorem ALW_gn1 (hj : (ops[j]?).bind (·.dst) = some g) (hg : aev n e (.tmp g) = bif s' then .lit (.bool s) else .lit undef) (h : (s' && s) = true → AStep P n e H op av H) (hk : ALW P n m ops rest kk (updA e d (bif (s' && s) then av else .lit undef)) H) :
    ALW P n m ops (⟨some d, op, t, p, af, some (j, true)⟩ :: rest) kk e H := by
  cases hs : s' with
  | true => rw [hs] at hg hk h; exact ALW_g1 hj hg (by simpa using h) (by simpa using hk)
  | false =>
    rw [hs] at hg hk
    intro w A0 κ fp F h1 h2
    exact LW_gnot hj (fun ⟨b, hb⟩ => by rw [ev_lit h2 hg] at hb; cases hb) (hk w A0 κ fp _ h1 (h2.upd (lit_VR _ _ _ _)))
theorem ALW_gn0 (hj : (ops[j]?).bind (·.dst) = some g) (hg : aev n e (.tmp g) = bif s' then .lit (.bool s) else .lit undef) (h : (s' && !s) = true → AStep P n e H op av H) (hk : ALW P n m ops rest kk (updA e d (bif (s' && !s) then av else .lit undef)) H) :
    ALW P n m ops (⟨some d, op, t, p, af, some (j, false)⟩ :: rest) kk e H := by
  cases hs : s' with
  | true => rw [hs] at hg hk h; exact ALW_g0 hj hg (by simpa using h) (by simpa using hk)
  | false =>
    rw [hs] at hg hk
    intro w A0 κ fp F h1 h2
    exact LW_gnot hj (fun ⟨b, hb⟩ => by rw [ev_lit h2 hg] at hb; cases hb) (hk w A0 κ fp _ h1 (h2.upd (lit_VR _ _ _ _)))
end
end
end Go.Am
