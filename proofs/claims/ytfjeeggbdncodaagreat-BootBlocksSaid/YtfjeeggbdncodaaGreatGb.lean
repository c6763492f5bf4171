/-
  Rules, functions and laws for the last text, part b.
-/
import Derived.Test.YtfjeeggbdncodaaGreatGa
import Derived.Deep.AppendSrc
set_option linter.constructorNameAsVariable false
set_option linter.unusedVariables false
set_option linter.unusedSimpArgs false
namespace Go.Ls
open Go Go.Hm
/-- What of memory a value below n may rest on. -/
structure Fm (n : Nat) (E E' : En) : Prop where
  z : ∀ b, E.Z b → E'.Z b
  h : ∀ b, E.Z b → E'.hp.get b = E.hp.get b
  nx : n ≤ E'.nx
  mb : ∀ m, m < n → E'.mb m = E.mb m
  row : ∀ m e xs, m < n → E'.st.get m = some (.row e xs) → ∃ xs', E.st.get m = some (.row e xs') ∧ xs'.length = xs.length
theorem lift_mono {a : Bool} {C C' : List HV → Prop} {v : HV} (h : ∀ c, C c → C' c) (g : lift a C v) : lift a C' v := by
  unfold lift at *
  cases a
  · exact h _ g
  · obtain ⟨cs, h1, h2⟩ := g
    exact ⟨cs, h1, h _ h2⟩
mutual
theorem CR.fm {n : Nat} {E E' : En} (f : Fm n E E') : ∀ {s : SV} {cs : List HV}, (n = E.nx ∨ ltS n s = true) → CR E s cs → CR E' s cs
  | .any, _, _, h => by unfold CR at *; exact h
  | .undef, _, _, h => by unfold CR at *; exact h
  | .int _ _ _, _, _, h => by unfold CR at *; exact h
  | .bool _ _, _, _, h => by unfold CR at *; exact h
  | .val u x, _, _, h => by unfold CR at *; exact h.mono f.z f.h
  | .agg is, _, l, h => by
    unfold CR at *
    exact CRs.fm f (l.imp_right fun g => by unfold ltS at g; exact g) h
  | .tup vs, _, l, h => by
    unfold CR at *
    obtain ⟨r, h1, h2⟩ := h
    exact ⟨r, h1, Vs.fm f (l.imp_right fun g => by unfold ltS at g; exact g) h2⟩
  | .fn g vs, _, l, h => by
    unfold CR at *
    obtain ⟨r, h1, h2⟩ := h
    exact ⟨r, h1, Vs.fm f (l.imp_right fun g => by unfold ltS at g; exact g) h2⟩
  | .nilp, _, _, h => by unfold CR at *; exact h
  | .nils, _, _, h => by unfold CR at *; exact h
  | .esl, _, _, h => by unfold CR at *; exact h
  | .nilf, _, _, h => by unfold CR at *; exact h
  | .box m o, _, l, h => by
    unfold CR at *
    obtain ⟨h1, b, h2, h3⟩ := h
    have hm : m < n := by
      rcases l with rfl | l
      · exact h1
      · unfold ltS at l; simpa using l
    exact ⟨Nat.lt_of_lt_of_le hm f.nx, b, by rw [f.mb m hm]; exact h2, h3⟩
  | .bsl m o k, _, l, h => by
    unfold CR at *
    obtain ⟨h1, b, h2, h3⟩ := h
    have hm : m < n := by
      rcases l with rfl | l
      · exact h1
      · unfold ltS at l; simpa using l
    exact ⟨Nat.lt_of_lt_of_le hm f.nx, b, by rw [f.mb m hm]; exact h2, h3⟩
  | .row m, _, l, h => by
    unfold CR at *
    obtain ⟨h1, v, h2, h3, h4⟩ := h
    have hm : m < n := by
      rcases l with rfl | l
      · exact h1
      · unfold ltS at l; simpa using l
    refine ⟨Nat.lt_of_lt_of_le hm f.nx, v, h2, h3, fun e xs hx => ?_⟩
    obtain ⟨xs', g1, g2⟩ := f.row m e xs hm hx
    rw [f.mb m hm, ← g2]; exact h4 e xs' g1
  | .ept m i o, _, l, h => by
    unfold CR at *
    obtain ⟨h1, v, h2, h3, h4⟩ := h
    have hm : m < n := by
      rcases l with rfl | l
      · exact h1
      · unfold ltS at l; simpa using l
    refine ⟨Nat.lt_of_lt_of_le hm f.nx, v, h2, h3, fun e xs hx => ?_⟩
    obtain ⟨xs', g1, g2⟩ := f.row m e xs hm hx
    rw [f.mb m hm, ← g2]; exact h4 e xs' g1
  | .fpt u x, _, _, h => by
    unfold CR at *
    obtain ⟨b, o, y, ds, h1, h2, h3, h4, h5⟩ := h
    exact ⟨b, o, y, ds, h1, f.z b h2, by rw [f.h b h2]; exact h3, h4, h5.mono f.z f.h⟩
theorem CRs.fm {n : Nat} {E E' : En} (f : Fm n E E') : ∀ {is : List SV} {cs : List HV}, (n = E.nx ∨ ltSs n is = true) → CRs E is cs → CRs E' is cs
  | [], _, _, h => by unfold CRs at *; exact h
  | i :: is, _, l, h => by
    unfold CRs at *
    obtain ⟨c, d, h1, h2, h3⟩ := h
    exact ⟨c, d, h1, CR.fm f (l.imp_right fun g => by unfold ltSs at g; simp only [Bool.and_eq_true] at g; exact g.1) h2, CRs.fm f (l.imp_right fun g => by unfold ltSs at g; simp only [Bool.and_eq_true] at g; exact g.2) h3⟩
theorem Vs.fm {n : Nat} {E E' : En} (f : Fm n E E') : ∀ {is : List SV} {l : List HV}, (n = E.nx ∨ ltSs n is = true) → Vs E is l → Vs E' is l
  | [], _, _, h => by unfold Vs at *; exact h
  | i :: is, _, l, h => by
    unfold Vs at *
    obtain ⟨c, d, h1, h2, h3⟩ := h
    exact ⟨c, d, h1, lift_mono (fun _ => CR.fm f (l.imp_right fun g => by unfold ltSs at g; simp only [Bool.and_eq_true] at g; exact g.1)) h2, Vs.fm f (l.imp_right fun g => by unfold ltSs at g; simp only [Bool.and_eq_true] at g; exact g.2) h3⟩
end
theorem V.fm {n : Nat} {E E' : En} (f : Fm n E E') {s : SV} {v : HV} (l : n = E.nx ∨ ltS n s = true) (h : V E s v) : V E' s v := lift_mono (fun _ => CR.fm f l) h
/-- What an entry is in memory. -/
def RowR (E : En) (o : Option Nat) (e : U) (xs : List (D e)) : Prop := match o with
  | none => xs = []
  | some b => ∃ y, E.hp.get b = some (.blk y) ∧ y.own = true ∧ y.z = e.size ∧ xs.length * e.size ≤ y.n ∧ ∀ i x, xs[i]? = some x → ∃ cs, gather y (i * e.size) e.size = some cs ∧ RdC E.hp E.Z e cs x
def EntR (E : En) (m : Nat) : Ent → Prop
  | .box z is => ∃ b y cs, E.mb m = some b ∧ E.hp.get b = some (.blk y) ∧ y.own = true ∧ y.z = z ∧ gather y 0 y.n = some cs ∧ CRs E is cs
  | .row e xs => xs.length ≤ 140737488355328 ∧ RowR E (E.mb m) e xs
theorem EntR.fm {E E' : En} (f : Fm E.nx E E') {m : Nat} {t : Ent} (hm : E'.mb m = E.mb m) (hb : ∀ b, E.mb m = some b → E'.hp.get b = E.hp.get b) (h : EntR E m t) : EntR E' m t := by
  cases t with
  | box z is =>
    obtain ⟨b, y, cs, h1, h2, h3, h4, h5, h6⟩ := h
    exact ⟨b, y, cs, by rw [hm]; exact h1, by rw [hb b h1]; exact h2, h3, h4, h5, CRs.fm f (.inl rfl) h6⟩
  | row e xs =>
    obtain ⟨h1, h2⟩ := h
    refine ⟨h1, ?_⟩
    rw [hm]
    unfold RowR at *
    cases hq : E.mb m with
    | none => rw [hq] at h2; exact h2
    | some b =>
      rw [hq] at h2
      obtain ⟨y, g1, g2, g3, g4, g5⟩ := h2
      refine ⟨y, by rw [hb b hq]; exact g1, g2, g3, g4, fun i x hx => ?_⟩
      obtain ⟨cs, k1, k2⟩ := g5 i x hx
      exact ⟨cs, k1, k2.mono f.z f.h⟩
/-- The symbolic memory stands for the memory. -/
structure Mem (S : SS) (h : St) (E : En) : Prop where
  hp : E.hp = h.hp
  st : E.st = S.st
  nx : E.nx = S.nx
  lt : ∀ m e, S.st.get m = some e → m < S.nx
  ent : ∀ m e, S.st.get m = some e → EntR E m e
  inj : ∀ m m' e e' b, S.st.get m = some e → S.st.get m' = some e' → E.mb m = some b → E.mb m' = some b → m = m'
  own : ∀ m e b, S.st.get m = some e → E.mb m = some b → ¬ E.Z b ∧ b < h.nx
  z : ∀ b, E.Z b → b < h.nx
  fr : ∀ b, h.nx ≤ b → h.hp.get b = none
  lk : ∀ b, isIn b h.lk = true → b < h.nx ∧ ∀ m e, S.st.get m = some e → E.mb m = some b → isIn m S.lk = true
  mbl : ∀ m b, E.mb m = some b → b < h.nx
structure Env (S : SS) (h : St) (E : En) : Prop where
  nt : S.nt = h.nt
  v : ∀ t, V E (S.tmp t) (h.tmp t)
/-- A block of an entry. -/
def Ow (S : SS) (E : En) (b : Nat) : Prop := ∃ m e, S.st.get m = some e ∧ E.mb m = some b
/-- How a state grows out of another. -/
structure Gr (S : SS) (h : St) (E : En) (S' : SS) (h' : St) (E' : En) : Prop where
  nt : h'.nt = h.nt
  lk : h'.lk = h.lk
  df : h'.df = h.df
  Snt : S'.nt = S.nt
  Slk : S'.lk = S.lk
  base : S'.base = S.base
  wr : S'.wr = S.wr
  kp : S'.kp = S.kp
  nx : h.nx ≤ h'.nx
  Snx : S.nx ≤ S'.nx
  z : ∀ b, E.Z b → E'.Z b
  z' : ∀ b, E'.Z b → E.Z b ∨ Ow S E b ∨ h.nx ≤ b
  oth : ∀ b, b < h.nx → ¬ Ow S E b → h'.hp.get b = h.hp.get b
  ow : ∀ b, Ow S' E' b → Ow S E b ∨ h.nx ≤ b
  mb : ∀ m, m < S.nx → E'.mb m = E.mb m
  cant : ∀ m, m < S.nx → S.can m = false → S'.st.get m = S.st.get m
  dead : ∀ m, m < S.nx → S.st.get m = none → S'.st.get m = none
  row : ∀ m e xs, m < S.nx → S'.st.get m = some (.row e xs) → ∃ xs', S.st.get m = some (.row e xs') ∧ xs'.length = xs.length
  lkk : ∀ b m e, isIn b h.lk = true → S'.st.get m = some e → E'.mb m = some b → ∃ e0, S.st.get m = some e0 ∧ E.mb m = some b
section
variable {S S' S'' : SS} {h h' h'' : St} {E E' E'' : En}
theorem Gr.refl : Gr S h E S h E := ⟨rfl, rfl, rfl, rfl, rfl, rfl, rfl, rfl, Nat.le_refl _, Nat.le_refl _, fun _ h => h, fun _ h => .inl h, fun _ _ _ => rfl, fun _ h => .inl h, fun _ _ => rfl, fun _ _ _ => rfl, fun _ _ h => h, fun _ _ xs _ h => ⟨xs, h, rfl⟩, fun _ _ e _ h1 h2 => ⟨e, h1, h2⟩⟩
theorem Gr.trans (a : Gr S h E S' h' E') (b : Gr S' h' E' S'' h'' E'') : Gr S h E S'' h'' E'' where
  nt := b.nt.trans a.nt
  lk := b.lk.trans a.lk
  df := b.df.trans a.df
  Snt := b.Snt.trans a.Snt
  Slk := b.Slk.trans a.Slk
  base := b.base.trans a.base
  wr := b.wr.trans a.wr
  kp := b.kp.trans a.kp
  nx := Nat.le_trans a.nx b.nx
  Snx := Nat.le_trans a.Snx b.Snx
  z := fun x hx => b.z x (a.z x hx)
  z' := fun x hx => by
    rcases b.z' x hx with h1 | h1 | h1
    · exact a.z' x h1
    · rcases a.ow x h1 with h2 | h2
      · exact .inr (.inl h2)
      · exact .inr (.inr h2)
    · exact .inr (.inr (Nat.le_trans a.nx h1))
  oth := fun x hx ho => by
    rw [b.oth x (Nat.lt_of_lt_of_le hx a.nx) (fun h1 => ?_), a.oth x hx ho]
    rcases a.ow x h1 with h2 | h2
    · exact ho h2
    · omega
  ow := fun x hx => by
    rcases b.ow x hx with h1 | h1
    · exact a.ow x h1
    · exact .inr (Nat.le_trans a.nx h1)
  mb := fun m hm => by rw [b.mb m (Nat.lt_of_lt_of_le hm a.Snx), a.mb m hm]
  cant := fun m hm hc => by
    have : S'.can m = false := by unfold SS.can at *; rw [a.base, a.wr]; exact hc
    rw [b.cant m (Nat.lt_of_lt_of_le hm a.Snx) this, a.cant m hm hc]
  dead := fun m hm hd => b.dead m (Nat.lt_of_lt_of_le hm a.Snx) (a.dead m hm hd)
  row := fun m e xs hm hx => by
    obtain ⟨xs', g1, g2⟩ := b.row m e xs (Nat.lt_of_lt_of_le hm a.Snx) hx
    obtain ⟨xs2, g3, g4⟩ := a.row m e xs' hm g1
    exact ⟨xs2, g3, g4.trans g2⟩
  lkk := fun x m e hx h1 h2 => by
    obtain ⟨e1, k1, k2⟩ := b.lkk x m e (by rw [a.lk]; exact hx) h1 h2
    exact a.lkk x m e1 hx k1 k2
theorem Gr.zh (g : Gr S h E S' h' E') (M : Mem S h E) {b : Nat} (hb : E.Z b) : h'.hp.get b = h.hp.get b :=
  g.oth b (M.z b hb) (fun ⟨m, e, h1, h2⟩ => (M.own m e b h1 h2).1 hb)
theorem Gr.fm (g : Gr S h E S' h' E') (M : Mem S h E) (M' : Mem S' h' E') : Fm E.nx E E' where
  z := g.z
  h := fun b hb => by rw [M'.hp, M.hp]; exact g.zh M hb
  nx := by rw [M.nx, M'.nx]; exact g.Snx
  mb := fun m hm => g.mb m (by rw [← M.nx]; exact hm)
  row := fun m e xs hm hx => by
    rw [M'.st] at hx; rw [M.st]
    exact g.row m e xs (by rw [← M.nx]; exact hm) hx
theorem V.gr (g : Gr S h E S' h' E') (M : Mem S h E) (M' : Mem S' h' E') {s : SV} {v : HV} (hv : V E s v) : V E' s v := hv.fm (g.fm M M') (.inl rfl)
theorem Env.gr (g : Gr S h E S' h' E') (M : Mem S h E) (M' : Mem S' h' E') (e : Env S h E) (h1 : S'.env = S.env) (h2 : h'.env = h.env) : Env S' h' E' where
  nt := by rw [g.Snt, g.nt]; exact e.nt
  v := fun t => by
    have e1 : S'.tmp t = S.tmp t := by unfold SS.tmp; rw [h1]
    have e2 : h'.tmp t = h.tmp t := by unfold St.tmp; rw [h2, g.df]
    rw [e1, e2]
    exact (e.v t).gr g M M'
/-- An entry is given up; its memory is frozen. -/
noncomputable def frz (E : En) (S : SS) (m : Nat) : En := ⟨E.hp, fun b => E.Z b ∨ ((S.st.get m).isSome = true ∧ E.mb m = some b), E.mb, S.st.del m, E.nx⟩
theorem kill_rel (M : Mem S h E) {m : Nat} (hc : S.can m = true) : Mem (S.kill m) h (frz E S m) ∧ Gr S h E (S.kill m) h (frz E S m) := by
  have hget : ∀ j, (S.kill m).st.get j = if j = m then none else S.st.get j := fun j => Tr.get_del _ _ _
  have hsome : ∀ j e, (S.kill m).st.get j = some e → j ≠ m ∧ S.st.get j = some e := by
    intro j e hj
    rw [hget] at hj
    split at hj
    · cases hj
    · exact ⟨by assumption, hj⟩
  have f : Fm E.nx E (frz E S m) := ⟨fun b hb => .inl hb, fun _ _ => rfl, Nat.le_refl _, fun _ _ => rfl, fun j e xs _ hx => ⟨xs, by
    have : (S.st.del m).get j = some (.row e xs) := hx
    rw [M.st]
    exact (hsome j _ this).2, rfl⟩⟩
  refine ⟨⟨M.hp, rfl, M.nx, fun j e hj => M.lt j e (hsome j e hj).2, fun j e hj => (M.ent j e (hsome j e hj).2).fm f rfl (fun _ _ => rfl), fun i j e e' b hi hj h1 h2 => M.inj i j e e' b (hsome i e hi).2 (hsome j e' hj).2 h1 h2, fun j e b hj hb => ?_, fun b hb => ?_, M.fr, fun b hb => ⟨(M.lk b hb).1, fun j e hj hm => (M.lk b hb).2 j e (hsome j e hj).2 hm⟩, M.mbl⟩, ?_⟩
  · obtain ⟨hne, hj⟩ := hsome j e hj
    refine ⟨?_, (M.own j e b hj hb).2⟩
    rintro (h1 | ⟨h1, h2⟩)
    · exact (M.own j e b hj hb).1 h1
    · obtain ⟨e', he⟩ := Option.isSome_iff_exists.1 h1
      exact hne (M.inj j m e e' b hj he hb h2)
  · rcases hb with h1 | ⟨h1, h2⟩
    · exact M.z b h1
    · obtain ⟨e', he⟩ := Option.isSome_iff_exists.1 h1
      exact (M.own m e' b he h2).2
  · refine ⟨rfl, rfl, rfl, rfl, rfl, rfl, rfl, rfl, Nat.le_refl _, Nat.le_refl _, fun b hb => .inl hb, fun b hb => ?_, fun _ _ _ => rfl, fun b hb => ?_, fun _ _ => rfl, fun j _ hcan => ?_, fun j _ hd => ?_, fun j e xs _ hx => ⟨xs, (hsome j _ hx).2, rfl⟩, fun b j e _ hj hb => ⟨e, (hsome j e hj).2, hb⟩⟩
    · rcases hb with h1 | ⟨h1, h2⟩
      · exact .inl h1
      · obtain ⟨e', he⟩ := Option.isSome_iff_exists.1 h1
        exact .inr (.inl ⟨m, e', he, h2⟩)
    · obtain ⟨j, e, hj, hb⟩ := hb
      exact .inl ⟨j, e, (hsome j e hj).2, hb⟩
    · rw [hget]
      split
      · subst_vars; rw [hc] at hcan; cases hcan
      · rfl
    · rw [hget]
      split
      · rfl
      · exact hd
theorem freeze_rel : ∀ {L : List Nat} {S S1 : SS} {E : En}, Mem S h E → S.freeze L = some S1 → ∃ E1, Mem S1 h E1 ∧ Gr S h E S1 h E1 ∧ S1.env = S.env ∧ E1.mb = E.mb ∧ (∀ m e b, isIn m L = true → S.st.get m = some e → E.mb m = some b → E1.Z b) ∧ (∀ m, isIn m L = false → S1.st.get m = S.st.get m) ∧ S1.nx = S.nx ∧ (∀ m, isIn m L = true → S1.st.get m = none)
  | [], S, S1, E, M, hf => by
    cases hf
    exact ⟨E, M, Gr.refl, rfl, rfl, fun _ _ _ hi _ _ => (by cases hi), fun _ _ => rfl, rfl, fun _ hi => (by cases hi)⟩
  | m :: L, S, S1, E, M, hf => by
    unfold SS.freeze at hf
    rw [bif_eq] at hf
    split at hf
    · rename_i hc
      obtain ⟨M1, g1⟩ := kill_rel M hc
      obtain ⟨E1, M2, g2, h1, h2, h3, h4, h5, h6⟩ := freeze_rel M1 hf
      refine ⟨E1, M2, g1.trans g2, h1, h2, fun j e b hi hj hb => ?_, fun j hi => ?_, h5, fun j hi => ?_⟩
      · by_cases hjm : j = m
        · subst hjm
          exact g2.z b (.inr ⟨by rw [hj]; rfl, hb⟩)
        · have hi : isIn j L = true := by
            unfold isIn at hi
            have : Nat.beq m j = false := by
              cases hq : Nat.beq m j with
              | false => rfl
              | true => exact absurd (Nat.eq_of_beq_eq_true hq).symm hjm
            rw [this] at hi; simpa using hi
          refine h3 j e b hi ?_ hb
          show (S.st.del m).get j = some e
          rw [Tr.get_del, if_neg hjm]; exact hj
      · unfold isIn at hi
        simp only [Bool.or_eq_false_iff] at hi
        rw [h4 j hi.2]
        show (S.st.del m).get j = _
        rw [Tr.get_del, if_neg]
        rintro rfl
        have := hi.1
        rw [show Nat.beq j j = true by simp] at this
        cases this
      · by_cases hjL : isIn j L = true
        · exact h6 j hjL
        · have hjm : j = m := by
            unfold isIn at hi
            simp only [Bool.or_eq_true] at hi
            rcases hi with hi | hi
            · exact (Nat.eq_of_beq_eq_true hi).symm
            · exact absurd hi hjL
          rw [h4 j (by simpa using hjL)]
          show (S.st.del m).get j = none
          rw [Tr.get_del, if_pos hjm]
    · cases hf
end
end Go.Ls
namespace Go.Ls
open Go Go.Hm
theorem isIn_iff {b : Nat} : ∀ {l : List Nat}, isIn b l = true ↔ b ∈ l
  | [] => by unfold isIn; simp
  | a :: l => by
    unfold isIn
    rw [Bool.or_eq_true, isIn_iff, List.mem_cons]
    constructor
    · rintro (h | h)
      · exact .inl (Nat.eq_of_beq_eq_true h).symm
      · exact .inr h
    · rintro (h | h)
      · exact .inl (by subst h; simp)
      · exact .inr h
theorem castD_some {u v : U} {x : D u} {y : D v} (h : castD u v x = some y) : ∃ e : u = v, e ▸ x = y := by
  unfold castD at h
  split at h
  · rename_i e _
    cases h
    exact ⟨e, rfl⟩
  · cases h
theorem rowsT_nil : rowsT [] = [] := by rw [rowsT]
theorem rowsT_cons (i : SV) (is : List SV) : rowsT (i :: is) = rows1 i ++ rowsT is := by rw [rowsT]
theorem rowsT_app : ∀ (a b : List SV), rowsT (a ++ b) = rowsT a ++ rowsT b
  | [], b => by rw [rowsT_nil]; rfl
  | i :: a, b => by
    show rowsT (i :: (a ++ b)) = _
    rw [rowsT_cons, rowsT_cons, rowsT_app a b, List.append_assoc]
theorem rows_mk : ∀ {u : U} {x : D u}, rows1 (mk u x) = []
  | .int _, _ => by unfold mk rows1; rfl
  | .bool, _ => by unfold mk rows1; rfl
  | .str, _ => by unfold mk rows1; rfl
  | .list _, _ => by unfold mk rows1; rfl
  | .un, _ => by unfold mk rows1; rfl
  | .pair _ _, _ => by unfold mk rows1; rfl
  | .arr _ _, _ => by unfold mk rows1; rfl
theorem rows_elems {e : U} {xs : List (D e)} : ∀ {n i : Nat}, rowsT (elems e xs i n) = []
  | 0, _ => by unfold elems rowsT; rfl
  | n + 1, i => by unfold elems rowsT; rw [rows_mk, rows_elems]; rfl
theorem rows_split {s : SV} {ps : List SV} (h : s.split = some ps) : rowsT ps = rows1 s := by
  unfold SV.split at h
  split at h
  · cases h; unfold rows1; rfl
  · cases h; unfold rowsT rowsT; rw [rows_mk, rows_mk]; unfold rowsT rows1; rfl
  · cases h; unfold rowsT rows1; rfl
  · cases h; rw [rows_elems]; unfold rows1; rfl
  · cases h
theorem rows_cut : ∀ {f : Nat} {is a b : List SV} {o : Nat}, cutI f is o = some (a, b) → rowsT is = rowsT a ++ rowsT b := by
  intro f
  induction f with
  | zero =>
    intro is a b o h
    unfold cutI at h
    rw [bif_eq] at h
    split at h
    · cases h; unfold rowsT; rfl
    · cases h
  | succ f ih =>
    intro is a b o h
    unfold cutI at h
    rw [bif_eq] at h
    split at h
    · cases h; rw [show rowsT ([] : List SV) = [] by unfold rowsT; rfl]; rfl
    · split at h
      · cases h
      · rename_i i is
        rw [bif_eq] at h
        split at h
        · split at h
          · rename_i a' b' hc
            cases h
            rw [rowsT_cons, rowsT_cons, ih hc, List.append_assoc]
          · cases h
        · split at h
          · rename_i ps hps
            rw [← ih h, rowsT_app, rows_split hps, rowsT_cons]
          · cases h
/-- The rows behind these values lie in zone Q. -/
def Cov (E : En) (Q : Nat → Prop) : Nat → List SV → Prop
  | 0, is => rowsT is = []
  | k + 1, is => ∀ m, m ∈ rowsT is → (∀ e b, E.st.get m = some e → E.mb m = some b → Q b) ∧ ∀ z js, E.st.get m = some (.box z js) → Cov E Q k js
section
variable {E : En} {Q : Nat → Prop}
theorem Cov.sub {is js : List SV} (h : ∀ m, m ∈ rowsT js → m ∈ rowsT is) : ∀ {k : Nat}, Cov E Q k is → Cov E Q k js
  | 0, c => by
    unfold Cov at *
    cases hq : rowsT js with
    | nil => rfl
    | cons m l => have := h m (by rw [hq]; simp); rw [c] at this; cases this
  | k + 1, c => by unfold Cov at *; exact fun m hm => c m (h m hm)
theorem rowsM_rel {ih : List SV → Option (List Nat)} : ∀ {M L : List Nat}, rowsM E.st ih M = some L → ∀ m, m ∈ M → m ∈ L ∧ ∀ z js, E.st.get m = some (.box z js) → ∃ q, ih js = some q ∧ ∀ x, x ∈ q → x ∈ L
  | [], _, _, m, hm => by cases hm
  | a :: M, L, h, m, hm => by
    unfold rowsM at h
    split at h
    · rename_i r hr
      have hrec := fun hm => rowsM_rel hr m hm
      split at h
      · rename_i z js hs
        split at h
        · rename_i q hq
          cases h
          rcases List.mem_cons.1 hm with rfl | hm
          · exact ⟨by simp, fun z' js' h' => ⟨q, by rw [hs] at h'; cases h'; exact hq, fun x hx => by simp [hx]⟩⟩
          · obtain ⟨g1, g2⟩ := hrec hm
            exact ⟨by simp [g1], fun z' js' h' => by
              obtain ⟨q', k1, k2⟩ := g2 z' js' h'
              exact ⟨q', k1, fun x hx => by simp [k2 x hx]⟩⟩
        · cases h
      · rename_i hs
        cases h
        rcases List.mem_cons.1 hm with rfl | hm
        · exact ⟨by simp, fun z' js' h' => absurd h' (hs z' js')⟩
        · obtain ⟨g1, g2⟩ := hrec hm
          exact ⟨by simp [g1], fun z' js' h' => by
            obtain ⟨q', k1, k2⟩ := g2 z' js' h'
            exact ⟨q', k1, fun x hx => by simp [k2 x hx]⟩⟩
    · cases h
theorem rowsK_cov : ∀ {k : Nat} {is : List SV} {L : List Nat}, rowsK E.st k is = some L → (∀ m e b, m ∈ L → E.st.get m = some e → E.mb m = some b → Q b) → Cov E Q k is
  | 0, is, L, h, _ => by
    unfold rowsK at h
    unfold Cov
    split at h
    · assumption
    · cases h
  | k + 1, is, L, h, hQ => by
    unfold rowsK at h
    unfold Cov
    intro m hm
    obtain ⟨h1, h2⟩ := rowsM_rel h m hm
    refine ⟨fun e b he hb => hQ m e b h1 he hb, fun z js hs => ?_⟩
    obtain ⟨q, g1, g2⟩ := h2 z js hs
    exact rowsK_cov g1 (fun m' e b hm' => hQ m' e b (g2 m' hm'))
/-- All rows lie in Q. -/
theorem cov_all (hQ : ∀ m e b, E.st.get m = some e → E.mb m = some b → Q b) {is : List SV} {L : List Nat} {k : Nat} (h : rowsK E.st k is = some L) : Cov E Q k is := rowsK_cov h (fun m e b _ => hQ m e b)
theorem as_rel (hz : ∀ b, E.Z b → Q b) (hE : ∀ m e, E.st.get m = some e → EntR E m e) {u : U} {s : SV} {x : D u} {c : List HV} (h : s.as E.st u = some x) (hs : CR E s c) (hq : ∀ m, m ∈ rows1 s → ∀ e b, E.st.get m = some e → E.mb m = some b → Q b) : RdC E.hp Q u c x := by
  unfold SV.as at h
  split at h
  · obtain ⟨rfl, rfl⟩ := castD_some h
    unfold CR at hs
    exact hs.mono hz (fun _ _ => rfl)
  · obtain ⟨rfl, rfl⟩ := castD_some h
    unfold CR at hs
    unfold RdC; exact hs
  · obtain ⟨rfl, rfl⟩ := castD_some h
    unfold CR at hs
    unfold RdC; exact hs
  · split at h
    · cases h
      unfold CR at hs
      unfold RdC
      exact ⟨_, hs, .inl ⟨rfl, .inl rfl⟩⟩
    · cases h
  · split at h
    · cases h
      unfold CR at hs
      unfold RdC
      rcases hs with hs | hs
      · exact ⟨_, hs, .inl ⟨rfl, .inl rfl⟩⟩
      · exact ⟨_, hs, .inl ⟨rfl, .inr (.inl rfl)⟩⟩
    · cases h
  · rename_i m
    split at h
    · rename_i e xs hx
      obtain ⟨e0, e1⟩ := castD_some h
      subst e0
      have e1 : xs = x := e1
      subst e1
      unfold CR at hs
      obtain ⟨h1, v, rfl, h2, h3⟩ := hs
      have h3 := h3 e xs hx
      obtain ⟨h4, h5⟩ := hE m _ hx
      unfold RdC
      refine ⟨v, rfl, ?_⟩
      unfold RowR at h5
      unfold RowV at h3
      cases hb : E.mb m with
      | none =>
        rw [hb] at h3 h5
        refine .inl ⟨h5, ?_⟩
        rcases h3.2 with h | h
        · exact .inl h
        · exact .inr (.inl h)
      | some b =>
        rw [hb] at h3 h5
        obtain ⟨y, g1, g2, g3, g4, g5⟩ := h5
        refine .inr ⟨b, 0, y, ⟨h3, g3⟩, hq m (by unfold rows1; simp) _ b hx hb, g1, by omega, h4, fun i x hi => ?_⟩
        obtain ⟨cs, k1, k2⟩ := g5 i x hi
        exact ⟨cs, by rw [Nat.zero_add]; exact k1, k2.mono hz (fun _ _ => rfl)⟩
    · cases h
  · cases h
theorem RdA_get {α : Type} {R : List HV → α → Prop} {z : Nat} (hR : ∀ c x, R c x → c.length = z) : ∀ {xs : List α} {cs : List HV} {i : Nat} {x : α}, RdA R cs xs → xs[i]? = some x → ∃ c1 c2 c3, cs = c1 ++ (c2 ++ c3) ∧ c1.length = i * z ∧ c2.length = z ∧ R c2 x
  | [], _, _, _, _, h => by simp at h
  | a :: xs, cs, 0, x, ⟨c, d, e, h1, h2⟩, h => by
    simp only [List.getElem?_cons_zero, Option.some.injEq] at h
    subst h
    exact ⟨[], c, d, e, by simp, hR _ _ h1, h1⟩
  | a :: xs, cs, i + 1, x, ⟨c, d, e, h1, h2⟩, h => by
    simp only [List.getElem?_cons_succ] at h
    obtain ⟨c1, c2, c3, g1, g2, g3, g4⟩ := RdA_get hR h2 h
    refine ⟨c ++ c1, c2, c3, by rw [e, g1, List.append_assoc], ?_, g3, g4⟩
    rw [List.length_append, hR _ _ h1, g2, Nat.succ_mul]; omega
theorem rdN_rel {α : Type} {g : List SV → Option (α × List SV)} {R : List HV → α → Prop} {A : List Nat} (hg : ∀ is x r cs, g is = some (x, r) → CRs E is cs → (∀ m, m ∈ rowsT is → m ∈ A) → ∃ c d, cs = c ++ d ∧ R c x ∧ CRs E r d ∧ ∀ m, m ∈ rowsT r → m ∈ rowsT is) : ∀ {n : Nat} {is r : List SV} {xs : List α} {cs : List HV}, rdN g n is = some (xs, r) → CRs E is cs → (∀ m, m ∈ rowsT is → m ∈ A) → xs.length = n ∧ ∃ c d, cs = c ++ d ∧ RdA R c xs ∧ CRs E r d ∧ ∀ m, m ∈ rowsT r → m ∈ rowsT is
  | 0, is, r, xs, cs, h, hs, hA => by
    cases h
    exact ⟨rfl, [], cs, rfl, rfl, hs, fun m hm => hm⟩
  | n + 1, is, r, xs, cs, h, hs, hA => by
    have h : (match g is with | some (x, r1) => (match rdN g n r1 with | some (l, r2) => some (x :: l, r2) | none => none) | none => none) = some (xs, r) := h
    split at h
    · rename_i x r1 h1
      split at h
      · rename_i l r2 h2
        cases h
        obtain ⟨c, d, rfl, g1, g2, g3⟩ := hg _ _ _ _ h1 hs hA
        obtain ⟨k1, c', d', rfl, k2, k3, k4⟩ := rdN_rel hg h2 g2 (fun m hm => hA m (g3 m hm))
        exact ⟨by simp [k1], c ++ c', d', by simp, ⟨c, c', rfl, g1, k2⟩, k3, fun m hm => g3 m (k4 m hm)⟩
      · cases h
    · cases h
theorem rdI_rel (hz : ∀ b, E.Z b → Q b) (hE : ∀ m e, E.st.get m = some e → EntR E m e) : ∀ {f : Nat} {u : U} {is : List SV} {x : D u} {r : List SV} {cs : List HV} {k : Nat}, rdI E.st f u is = some (x, r) → CRs E is cs → Cov E Q k is → ∃ c d, cs = c ++ d ∧ RdC E.hp Q u c x ∧ CRs E r d ∧ ∀ m, m ∈ rowsT r → m ∈ rowsT is := by
  intro f
  induction f with
  | zero => intro u is x r cs k h; cases h
  | succ f ih =>
    intro u is x r cs k h hs hc
    unfold rdI at h
    have hsplit : ∀ (i : SV) (r0 ps : List SV), is = i :: r0 → i.split = some ps → rdI E.st f u (ps ++ r0) = some (x, r) → ∃ c d, cs = c ++ d ∧ RdC E.hp Q u c x ∧ CRs E r d ∧ ∀ m, m ∈ rowsT r → m ∈ rowsT is := by
      intro i r0 ps e1 hps hr
      subst e1
      unfold CRs at hs
      obtain ⟨c, d, rfl, h1, h2⟩ := hs
      have hrow : rowsT (ps ++ r0) = rowsT (i :: r0) := by rw [rowsT_app, rows_split hps, rowsT_cons]
      obtain ⟨c', d', g1, g2, g3, g4⟩ := ih hr (CRs_app.2 ⟨c, d, rfl, split_rel hps h1, h2⟩) (hc.sub (fun m hm => by rw [← hrow]; exact hm))
      exact ⟨c', d', g1, g2, g3, fun m hm => by rw [← hrow]; exact g4 m hm⟩
    split at h
    · rename_i y hy
      cases h
      split at hy
      · rename_i i r0
        unfold CRs at hs
        obtain ⟨c, d, rfl, h1, h2⟩ := hs
        have hr0 := rowsT_cons i r0
        refine ⟨c, d, rfl, as_rel hz hE hy h1 (fun m hm e b he hb => ?_), h2, fun m hm => by rw [hr0]; exact List.mem_append_right _ hm⟩
        have hm : m ∈ rowsT (i :: r0) := by rw [hr0]; exact List.mem_append_left _ hm
        cases k with
        | zero => unfold Cov at hc; rw [hc] at hm; cases hm
        | succ k => unfold Cov at hc; exact (hc m hm).1 e b he hb
      · cases hy
    · have hdef : ∀ (g : Option (D u × List SV)), g = (match (generalizing := false) is with
        | i :: r => match i.split with
          | some ps => rdI E.st f u (ps ++ r)
          | none => none
        | [] => none) → g = some (x, r) → ∃ c d, cs = c ++ d ∧ RdC E.hp Q u c x ∧ CRs E r d ∧ ∀ m, m ∈ rowsT r → m ∈ rowsT is := by
        intro g hg h
        rw [hg] at h
        cases is with
        | nil => cases h
        | cons i r0 =>
          simp only at h
          cases hps : i.split with
          | none => rw [hps] at h; cases h
          | some ps => rw [hps] at h; exact hsplit i r0 ps rfl hps h
      cases u with
      | un =>
        cases h
        exact ⟨[], cs, rfl, by unfold RdC; rfl, hs, fun m hm => hm⟩
      | pair a b =>
        simp only at h
        split at h
        · rename_i x1 r1 h1
          split at h
          · rename_i x2 r2 h2
            cases h
            obtain ⟨c, d, rfl, g1, g2, g3⟩ := ih h1 hs hc
            obtain ⟨c', d', rfl, k1, k2, k3⟩ := ih h2 g2 (hc.sub g3)
            exact ⟨c ++ c', d', by simp, by unfold RdC; exact ⟨c, c', rfl, g1, k1⟩, k2, fun m hm => g3 m (k3 m hm)⟩
          · cases h
        · cases h
      | arr n e =>
        obtain ⟨g0, c, d, g1, g2, g3, g4⟩ := rdN_rel (A := rowsT is) (fun is' x r cs' h1 h2 hA => ih h1 h2 (hc.sub hA)) h hs (fun m hm => hm)
        exact ⟨c, d, g1, by unfold RdC; exact ⟨g0, g2⟩, g3, g4⟩
      | int _ => exact hdef _ rfl h
      | bool => exact hdef _ rfl h
      | str => exact hdef _ rfl h
      | list e =>
        cases is with
        | nil => cases h
        | cons i r0 =>
          by_cases hi : ∃ m o n, i = .bsl m o n
          · obtain ⟨m, o, n, rfl⟩ := hi
            simp only at h
            split at h
            · rename_i z js hm
              rw [bif_eq] at h
              split at h
              · rename_i hzz
                simp only [Bool.and_eq_true, Nat.ble_eq] at hzz
                have hze : z = e.size := Nat.eq_of_beq_eq_true hzz.1
                split at h
                · rename_i a0 ks hcut
                  split at h
                  · rename_i l r2 hl
                    cases h
                    unfold CRs at hs
                    obtain ⟨c, d, rfl, h1, h2⟩ := hs
                    unfold CR at h1
                    obtain ⟨q1, b, q2, rfl, q3⟩ := h1
                    obtain ⟨b', y, cs', p1, p2, p3, p4, p5, p6⟩ := hE m _ hm
                    rw [q2] at p1
                    cases p1
                    obtain ⟨d1, d2, rfl, w1, w2, w3⟩ := cutI_rel hcut p6
                    have hmr : m ∈ rowsT (SV.bsl m o n :: r) := by rw [rowsT_cons]; unfold rows1; simp
                    obtain ⟨k, rfl⟩ : ∃ k', k = k' + 1 := by
                      cases k with
                      | zero => unfold Cov at hc; rw [hc] at hmr; cases hmr
                      | succ k => exact ⟨k, rfl⟩
                    unfold Cov at hc
                    obtain ⟨v1, v2⟩ := hc m hmr
                    have hcj := v2 z js hm
                    have hck : Cov E Q k ks := hcj.sub (fun m' hm' => by rw [rows_cut hcut]; exact List.mem_append_right _ hm')
                    obtain ⟨t0, t1, t2, t3, t4, t5, t6⟩ := rdN_rel (A := rowsT ks) (fun is' x r cs' h1 h2 hA => ih h1 h2 (hck.sub hA)) hl w3 (fun m hm => hm)
                    subst t3
                    have hlen := RdA_len (z := e.size) (fun _ _ h => h.len) t4
                    have hgl := gather_len p5
                    simp only [List.length_append, w1, hlen] at hgl
                    refine ⟨[.sl b o n], d, rfl, ?_, h2, fun m' hm' => by rw [rowsT_cons]; exact List.mem_append_right _ hm'⟩
                    unfold RdC
                    refine ⟨_, rfl, .inr ⟨b, o, y, ⟨by rw [t0], by rw [p4, hze]⟩, v1 _ b hm q2, p2, by omega, by omega, fun i x hx => ?_⟩⟩
                    obtain ⟨c1, c2, c3, k1, k2, k3, k4⟩ := RdA_get (z := e.size) (fun _ _ h => h.len) t4 hx
                    refine ⟨c2, ?_, k4⟩
                    have := gather_sub (p := o + i * e.size) (z := e.size) (c1 := d1 ++ c1) (c2 := c2) (c3 := c3 ++ t2) p5 (by rw [k1]; simp) (by rw [List.length_append, w1, k2]) k3
                    rw [Nat.zero_add] at this
                    exact this
                  · cases h
                · cases h
              · cases h
            · cases h
          · refine hdef _ ?_ h
            cases i <;> first | rfl | exact absurd ⟨_, _, _, rfl⟩ hi
theorem rdV_rel (hz : ∀ b, E.Z b → Q b) (hE : ∀ m e, E.st.get m = some e → EntR E m e) {u : U} {s : SV} {x : D u} {v : HV} {k : Nat} (h : rdV E.st u s = some x) (hv : V E s v) (hc : Cov E Q k [s]) : RdV E.hp Q u v x := by
  unfold rdV at h
  rw [bif_eq] at h
  split at h
  · rename_i ha
    have ha : s.ag = u.ag := by simpa using ha
    split at h
    · rename_i is his
      split at h
      · rename_i y hy
        cases h
        obtain ⟨cs, h1, h2, h3, h4⟩ := items_rel his hv
        have hrow : rowsT is = rowsT [s] := by
          rw [rowsT_cons, rowsT_nil, List.append_nil]
          cases s <;> cases his <;> first | (rw [rowsT_cons, rowsT_nil, List.append_nil]; done) | (unfold rows1; rfl)
        obtain ⟨c, d, rfl, g1, g2, g3⟩ := rdI_rel hz hE hy h2 (hc.sub (fun m hm => by rw [← hrow]; exact hm))
        unfold CRs at g2
        subst g2
        rw [List.append_nil] at *
        unfold RdV
        cases hu : u.ag with
        | true => exact ⟨c, h3 (ha.trans hu), g1⟩
        | false => rw [← h4 (ha.trans hu)]; exact g1
      · cases h
    · cases h
  · cases h
end
/-- Values that read as arguments. -/
def RdArgs (hp : Tr Hm.Obj) (Z : Nat → Prop) : (u : U) → List HV → D u → Prop
  | .un, l, _ => l = []
  | .pair a b, l, x => ∃ v r, l = v :: r ∧ RdV hp Z a v x.1 ∧ RdArgs hp Z b r x.2
  | _, _, _ => False
theorem RdV.mono {hp hp' : Tr Hm.Obj} {Z Z' : Nat → Prop} (hz : ∀ b, Z b → Z' b) (hh : ∀ b, Z b → hp'.get b = hp.get b) {u : U} {v : HV} {x : D u} (h : RdV hp Z u v x) : RdV hp' Z' u v x := by
  unfold RdV at *
  cases hu : u.ag with
  | true => rw [hu] at h; obtain ⟨cs, h1, h2⟩ := h; exact ⟨cs, h1, h2.mono hz hh⟩
  | false => rw [hu] at h; exact RdC.mono hz hh h
theorem rdArgs_rel {E : En} {Q : Nat → Prop} (hz : ∀ b, E.Z b → Q b) (hE : ∀ m e, E.st.get m = some e → EntR E m e) {k : Nat} : ∀ {u : U} {vs : List SV} {l : List HV} {x : D u}, rdArgs E.st u vs = some x → Vs E vs l → Cov E Q k vs → RdArgs E.hp Q u l x
  | .un, [], l, x, h, hv, _ => by unfold Vs at hv; exact hv
  | .pair a b, v :: vs, l, x, h, hv, hc => by
    unfold rdArgs at h
    split at h
    · rename_i y hy
      split at h
      · rename_i w hw
        cases h
        unfold Vs at hv
        obtain ⟨u, r, rfl, h1, h2⟩ := hv
        have e0 := rowsT_cons v vs
        unfold RdArgs
        refine ⟨u, r, rfl, rdV_rel hz hE hy h1 (hc.sub (fun m hm => ?_)), rdArgs_rel hz hE hw h2 (hc.sub (fun m hm => ?_))⟩
        · rw [rowsT_cons, rowsT_nil, List.append_nil] at hm
          rw [e0]; exact List.mem_append_left _ hm
        · rw [e0]; exact List.mem_append_right _ hm
      · cases h
    · cases h
  | .un, _ :: _, _, _, h, _, _ => by cases h
  | .pair _ _, [], _, _, h, _, _ => by cases h
  | .int _, [], _, _, h, _, _ => by cases h
  | .int _, _ :: _, _, _, h, _, _ => by cases h
  | .bool, [], _, _, h, _, _ => by cases h
  | .bool, _ :: _, _, _, h, _, _ => by cases h
  | .str, [], _, _, h, _, _ => by cases h
  | .str, _ :: _, _, _, h, _, _ => by cases h
  | .list _, [], _, _, h, _, _ => by cases h
  | .list _, _ :: _, _, _, h, _, _ => by cases h
  | .arr _ _, [], _, _, h, _, _ => by cases h
  | .arr _ _, _ :: _, _, _, h, _, _ => by cases h
theorem mkArgs_rel {E : En} : ∀ {u : U} {l : List HV} {x : D u}, RdArgs E.hp E.Z u l x → Vs E (mkArgs u x) l
  | .un, l, x, h => by unfold RdArgs at h; unfold mkArgs Vs; exact h
  | .pair a b, l, x, h => by
    unfold RdArgs at h
    obtain ⟨v, r, rfl, h1, h2⟩ := h
    unfold mkArgs Vs
    exact ⟨v, r, rfl, V_mk.2 h1, mkArgs_rel h2⟩
  | .int _, _, _, h => h.elim
  | .bool, _, _, h => h.elim
  | .str, _, _, h => h.elim
  | .list _, _, _, h => h.elim
  | .arr _ _, _, _, h => h.elim
end Go.Ls
namespace Go.Ls
open Go Go.Hm
section
variable {R : Type} {r : R}
theorem cnd_some {b : Bool} {x y : Option R} (h : cnd b x y = some r) : (b = true ∧ x = some r) ∨ (b = false ∧ y = some r) := by
  cases b
  · exact .inr ⟨rfl, h⟩
  · exact .inl ⟨rfl, h⟩
theorem chk_some {b : Bool} {x : Option R} (h : chk b x = some r) : b = true ∧ x = some r := by
  cases b
  · cases h
  · exact ⟨rfl, h⟩
theorem cndL_some {l b : Bool} {x y : Option R} (h : cndL l b x y = some r) : (b = true ∧ x = some r) ∨ (b = false ∧ y = some r) := by
  cases l
  · exact cnd_some h
  · cases b
    · exact .inr ⟨rfl, h⟩
    · exact .inl ⟨rfl, h⟩
theorem chkL_some {l b : Bool} {x : Option R} (h : chkL l b x = some r) : b = true ∧ x = some r := by
  cases l
  · exact chk_some h
  · cases b
    · cases h
    · exact ⟨rfl, h⟩
theorem bnd_some {α : Type} {o : Option α} {f : α → Option R} (h : bnd o f = some r) : ∃ x, o = some x ∧ f x = some r := by
  cases o
  · cases h
  · exact ⟨_, rfl, h⟩
theorem opt_some {o : Option SV} {K : SV → Option R} (h : opt o K = some r) : ∃ s, o = some s ∧ K s = some r := by
  cases o
  · cases h
  · exact ⟨_, rfl, h⟩
theorem arL_eq (op : BinOp) (k : IntKind) (a b : Int) (h : opK op ≠ 3) : arL op k a b = arC op k a b := by
  cases op <;> first | rfl | exact absurd rfl h
theorem cmL_eq (op : BinOp) (a b : Int) : cmL op a b = cmC op a b := by
  cases op <;> rfl
theorem kind_eq {k k' : IntKind} (h : kindEq k k' = true) : k = k' := by simpa [kindEq] using h
end
section
variable {E : En}
theorem V_int {l : Bool} {k : IntKind} {x : Int} {v : HV} : V E (.int l k x) v ↔ v = .int k x := by
  unfold V lift
  show CR E (.int l k x) [v] ↔ _
  unfold CR; simp
theorem V_bool {l b : Bool} {v : HV} : V E (.bool l b) v ↔ v = .bool b := by
  unfold V lift
  show CR E (.bool l b) [v] ↔ _
  unfold CR; simp
theorem V_str {s : ByteArray} {v : HV} : V E (.val .str s) v ↔ v = .str s := by
  unfold V lift
  show CR E (.val .str s) [v] ↔ _
  unfold CR RdC; simp
theorem V_undef {v : HV} : V E .undef v ↔ v = .undef := by
  unfold V lift
  show CR E .undef [v] ↔ _
  unfold CR; simp
theorem V_any {v : HV} : V E .any v := by
  unfold V lift
  show CR E .any [v]
  unfold CR; exact ⟨v, rfl⟩
theorem V_nils {v : HV} : V E .nils v ↔ v = .nils := by
  unfold V lift
  show CR E .nils [v] ↔ _
  unfold CR; simp
theorem V_esl {v : HV} : V E .esl v ↔ v = .nils ∨ v = .esl := by
  unfold V lift
  show CR E .esl [v] ↔ _
  unfold CR; simp
theorem V_agg {is : List SV} {v : HV} : V E (.agg is) v ↔ ∃ cs, v = .agg cs ∧ CRs E is cs := by
  unfold V lift
  show (∃ cs, v = .agg cs ∧ CR E (.agg is) cs) ↔ _
  constructor
  · rintro ⟨cs, h1, h2⟩; unfold CR at h2; exact ⟨cs, h1, h2⟩
  · rintro ⟨cs, h1, h2⟩; exact ⟨cs, h1, by unfold CR; exact h2⟩
theorem V_tup {is : List SV} {v : HV} : V E (.tup is) v ↔ ∃ l, v = .tup l ∧ Vs E is l := by
  unfold V lift
  show CR E (.tup is) [v] ↔ _
  unfold CR; simp
theorem V_fn {f : FuncId} {is : List SV} {v : HV} : V E (.fn f is) v ↔ ∃ l, v = .fn f l ∧ Vs E is l := by
  unfold V lift
  show CR E (.fn f is) [v] ↔ _
  unfold CR; simp
theorem V_box {m o : Nat} {v : HV} : V E (.box m o) v ↔ m < E.nx ∧ ∃ b, E.mb m = some b ∧ v = .ptr b o := by
  unfold V lift
  show CR E (.box m o) [v] ↔ _
  unfold CR; simp
theorem V_bsl {m o n : Nat} {v : HV} : V E (.bsl m o n) v ↔ m < E.nx ∧ ∃ b, E.mb m = some b ∧ v = .sl b o n ∧ n ≤ 4000 := by
  unfold V lift
  show CR E (.bsl m o n) [v] ↔ _
  unfold CR; simp
theorem V_row {m : Nat} {v : HV} : V E (.row m) v ↔ m < E.nx ∧ bcells v = some [v] ∧ ∀ e xs, E.st.get m = some (.row e xs) → RowV (E.mb m) xs.length v := by
  unfold V lift
  show CR E (.row m) [v] ↔ _
  unfold CR; simp
theorem V_ept {m o : Nat} {i : Int} {v : HV} : V E (.ept m i o) v ↔ m < E.nx ∧ bcells v = some [v] ∧ ∀ e xs, E.st.get m = some (.row e xs) → ∃ b j, E.mb m = some b ∧ i = Int.ofNat j ∧ j < xs.length ∧ v = .ptr b (j * e.size + o) := by
  unfold V lift
  show CR E (.ept m i o) [v] ↔ _
  unfold CR; simp
theorem V_fpt {u : U} {x : D u} {v : HV} : V E (.fpt u x) v ↔ ∃ b o y ds, v = .ptr b o ∧ E.Z b ∧ E.hp.get b = some (.blk y) ∧ gather y o u.size = some ds ∧ RdC E.hp E.Z u ds x := by
  unfold V lift
  show CR E (.fpt u x) [v] ↔ _
  unfold CR; simp
theorem V_list {e : U} {xs : List (D e)} {v : HV} : V E (.val (.list e) xs) v ↔ RdL E.hp E.Z e.size (RdC E.hp E.Z e) v xs := by
  unfold V lift
  show CR E (.val (.list e) xs) [v] ↔ _
  unfold CR RdC; simp
/-- A value that is no aggregate has one cell. -/
theorem CR_one {s : SV} {cs : List HV} (h : s.ag = false) (hs : CR E s cs) : ∃ v, cs = [v] ∧ V E s v := by
  have hw : s.w = 1 := by
    cases s <;> first | rfl | skip
    · rename_i u x
      have h : u.ag = false := h
      show u.size = 1
      cases u <;> first | rfl | cases h
    · cases h
  have hl := hs.len
  rw [hw] at hl
  cases cs with
  | nil => cases hl
  | cons v cs =>
    cases cs with
    | cons _ _ => cases hl
    | nil => exact ⟨v, rfl, by unfold V lift; rw [h]; exact hs⟩
theorem cell1_rel (v : HV) : CR E (cell1 v) [v] := by
  cases v <;> unfold cell1 CR <;> first | rfl | exact ⟨_, rfl⟩
theorem ofHVs_rel : ∀ (c : List HV), CRs E (ofHVs c) c
  | [] => by unfold ofHVs CRs; rfl
  | v :: c => by unfold ofHVs CRs; exact ⟨[v], c, rfl, cell1_rel v, ofHVs_rel c⟩
theorem cell1_ag (v : HV) : (cell1 v).ag = false := by cases v <;> rfl
theorem ofHV_rel (v : HV) : V E (ofHV v) v := by
  have h : ∀ v, V E (cell1 v) v := fun v => by
    unfold V lift; rw [cell1_ag]; exact cell1_rel v
  have h := h v
  cases v <;> first | exact h | exact V_undef.2 rfl | exact V_agg.2 ⟨_, rfl, ofHVs_rel _⟩
variable {S : SS} {h : St}
theorem ev_rel (hE : Env S h E) {x : Operand} {s : SV} (hx : S.ev x = some s) : ∃ v, h.ev x = some v ∧ V E s v := by
  unfold SS.ev at hx
  split at hx
  · cases hx; exact ⟨_, rfl, hE.v _⟩
  · split at hx
    · rename_i a ha
      cases hx
      exact ⟨a, ha, ofHV_rel a⟩
    · cases hx
  · cases hx
    exact ⟨_, rfl, V_fn.2 ⟨[], rfl, by unfold Vs; rfl⟩⟩
  · cases hx
theorem evs_rel (hE : Env S h E) : ∀ {xs : List Operand} {l : List SV}, S.evs xs = some l → ∃ vs, h.evs xs = some vs ∧ Vs E l vs
  | [], l, hx => by cases hx; exact ⟨[], rfl, by unfold Vs; rfl⟩
  | x :: xs, l, hx => by
    unfold SS.evs at hx
    split at hx
    · rename_i s h1
      split at hx
      · rename_i l' h2
        cases hx
        obtain ⟨v, g1, g2⟩ := ev_rel hE h1
        obtain ⟨vs, g3, g4⟩ := evs_rel hE h2
        exact ⟨v :: vs, by unfold St.evs; rw [g1, g3], by unfold Vs; exact ⟨v, vs, rfl, g2, g4⟩⟩
      · cases hx
    · cases hx
/-- What an operation without a change gives. -/
def Gv (E : En) {R : Type} (K : SV → Option R) (r : R) (o : Option HV) : Prop := ∃ s v, o = some v ∧ V E s v ∧ K s = some r
section
variable {R : Type} {r : R} {K : SV → Option R}
theorem natB {b : Int} (h : 0 ≤ b) : b = Int.ofNat b.toNat := by
  cases b with
  | ofNat n => rfl
  | negSucc n => exact absurd h (by omega)
theorem arith_eq {op : BinOp} (k : IntKind) (a b : Int) (h : opK op = 0) : arith op k a b = some (.int k (arC op k a b)) := by
  cases op <;> first | rfl | cases h
theorem arith_cm {op : BinOp} (k : IntKind) (a b : Int) (h : opK op = 3) : arith op k a b = some (.bool (cmC op a b)) := by
  cases op <;> first | rfl | cases h
theorem arith_q {op : BinOp} (k : IntKind) (a b : Int) (h : opK op = 1) (hb : b ≠ 0) : arith op k a b = some (.int k (arC op k a b)) := by
  cases op <;> first | (cases h; done) | skip
  · show (bif decide (b = 0) then none else some (HV.int k (wrapI k (Int.tdiv a b)))) = _
    rw [decide_eq_false hb]; rfl
  · show (bif decide (b = 0) then none else some (HV.int k (Int.tmod a b))) = _
    rw [decide_eq_false hb]; rfl
theorem V_mkI {l : Bool} {op : BinOp} {k : IntKind} {a b : Int} (h : opK op ≠ 3) : V E (mkI l op k a b) (.int k (arC op k a b)) := by
  unfold mkI
  cases l
  · show V E (.int false k (arL op k a b)) _
    rw [arL_eq op k a b h]; exact V_int.2 rfl
  · exact V_int.2 rfl
theorem V_mkB {l : Bool} {op : BinOp} {a b : Int} : V E (mkB l op a b) (.bool (cmC op a b)) := by
  unfold mkB
  cases l
  · show V E (.bool false (cmL op a b)) _
    rw [cmL_eq]; exact V_bool.2 rfl
  · exact V_bool.2 rfl
theorem intS_rel {cx : Cx} {op : BinOp} {t : Nat} {l l' : Bool} {k k' : IntKind} {a b : Int} (hk : intS op l k a l' k' b K = some r) : Gv E K r (binop cx op t (.int k a) (.int k' b)) := by
  have hb0 : opK op ≠ 2 → binop cx op t (.int k a) (.int k' b) = (bif decide (k = k') then arith op k a b else none) := by
    intro h
    cases op <;> first | rfl | exact absurd rfl h
  unfold intS at hk
  split at hk
  · rename_i h0
    rw [bif_eq] at hk
    split at hk
    · rename_i hkk
      refine ⟨_, _, ?_, V_mkI (by rw [h0]; decide), hk⟩
      rw [hb0 (by rw [h0]; decide), decide_eq_true (kind_eq hkk)]
      exact arith_eq k a b h0
    · cases hk
  · rename_i h0
    rw [bif_eq] at hk
    split at hk
    · rename_i hkk
      obtain ⟨h1, h2⟩ := chkL_some hk
      have hb : b ≠ 0 := by
        cases l'
        · have h1 : (!decide (b = 0)) = true := h1
          simpa using h1
        · have h1 : (!decide (b = 0)) = true := h1
          simpa using h1
      refine ⟨_, _, ?_, V_mkI (by rw [h0]; decide), h2⟩
      rw [hb0 (by rw [h0]; decide), decide_eq_true (kind_eq hkk)]
      exact arith_q k a b h0 hb
    · cases hk
  · rename_i h0
    obtain ⟨h1, h2⟩ := chkL_some hk
    have h1 : 0 ≤ b := by simpa [nonneg] using h1
    refine ⟨_, _, ?_, V_mkI (by rw [h0]; decide), h2⟩
    obtain ⟨n, rfl⟩ : ∃ n : Nat, b = Int.ofNat n := ⟨_, natB h1⟩
    cases op <;> first | rfl | cases h0
  · rename_i h0 h1 h2
    have h3 : opK op = 3 := by cases op <;> first | rfl | exact absurd rfl h0 | exact absurd rfl h1 | exact absurd rfl h2
    rw [bif_eq] at hk
    split at hk
    · rename_i hkk
      refine ⟨_, _, ?_, V_mkB, hk⟩
      rw [hb0 (by rw [h3]; decide), decide_eq_true (kind_eq hkk)]
      exact arith_cm k a b h3
    · cases hk
theorem eqV_rel {op : BinOp} {l b : Bool} (hk : opt (eqV op l b) K = some r) : Gv E K r (eqOp op b) := by
  obtain ⟨s, h1, h2⟩ := opt_some hk
  unfold eqV at h1
  split at h1
  · cases h1; exact ⟨_, _, rfl, V_bool.2 rfl, h2⟩
  · cases h1
    refine ⟨_, _, rfl, V_bool.2 ?_, h2⟩
    cases l <;> rfl
  · cases h1
theorem flatI_rel : ∀ {f : Nat} {is l : List SV} {cs : List HV}, flatI f is = some l → CRs E is cs → CRs E l cs := by
  intro f
  induction f with
  | zero => intro is l cs h; cases h
  | succ f ih =>
    intro is l cs h hs
    cases is with
    | nil => cases h; exact hs
    | cons i is =>
      unfold flatI at h
      rw [bif_eq] at h
      unfold CRs at hs
      obtain ⟨c, d, rfl, h1, h2⟩ := hs
      split at h
      · split at h
        · rename_i ps hps
          exact ih h (CRs_app.2 ⟨c, d, rfl, split_rel hps h1, h2⟩)
        · cases h
      · split at h
        · rename_i l' hl
          cases h
          unfold CRs
          exact ⟨c, d, rfl, h1, ih hl h2⟩
        · cases h
theorem eqI2_rel : ∀ {a b : List SV} {ca cb : List HV} {l e : Bool}, eqI2 a b = some (l, e) → CRs E a ca → CRs E b cb → sames ca cb = some e ∧ ca.length = a.length ∧ cb.length = b.length
  | [], [], ca, cb, l, e, h, ha, hb => by
    unfold CRs at ha hb
    subst ha; subst hb
    cases h
    exact ⟨rfl, rfl, rfl⟩
  | .int l k x :: a, i :: b, ca, cb, m, e, h, ha, hb => by
    cases i with
    | int l' k' y =>
      unfold eqI2 at h
      rw [bif_eq] at h
      unfold CRs at ha hb
      obtain ⟨c, d, rfl, h1, h2⟩ := ha
      obtain ⟨c', d', rfl, h3, h4⟩ := hb
      unfold CR at h1 h3
      subst h1; subst h3
      split at h
      · rename_i hk
        have hk := kind_eq hk
        subst hk
        split at h
        · rename_i m' e' hr
          cases h
          obtain ⟨g1, g2, g3⟩ := eqI2_rel hr h2 h4
          refine ⟨?_, by simp [g2], by simp [g3]⟩
          show (match sameC (.int k x) (.int k y) with | some true => sames d d' | r => r) = _
          have hs : sameC (.int k x) (.int k y) = some (decide (x = y)) := by
            show (bif decide (k = k) then some (decide (x = y)) else none) = _
            rw [decide_eq_true rfl]; rfl
          rw [hs]
          by_cases hxy : x = y
          · rw [decide_eq_true hxy]
            simp only
            rw [g1]
            cases (l && l' && m') <;> simp [eqI, cmC, andB, hxy]
          · rw [decide_eq_false hxy]
            cases (l && l' && m') <;> simp [eqI, cmC, andB, hxy]
        · cases h
      · cases h
    | _ => cases h
  | .bool _ _ :: _, _, _, _, _, _, h, _, _ => by cases h
  | [], _ :: _, _, _, _, _, h, _, _ => by cases h
  | .any :: _, _, _, _, _, _, h, _, _ => by cases h
  | .undef :: _, _, _, _, _, _, h, _, _ => by cases h
  | .val _ _ :: _, _, _, _, _, _, h, _, _ => by cases h
  | .agg _ :: _, _, _, _, _, _, h, _, _ => by cases h
  | .tup _ :: _, _, _, _, _, _, h, _, _ => by cases h
  | .fn _ _ :: _, _, _, _, _, _, h, _, _ => by cases h
  | .nilp :: _, _, _, _, _, _, h, _, _ => by cases h
  | .nils :: _, _, _, _, _, _, h, _, _ => by cases h
  | .esl :: _, _, _, _, _, _, h, _, _ => by cases h
  | .nilf :: _, _, _, _, _, _, h, _, _ => by cases h
  | .box _ _ :: _, _, _, _, _, _, h, _, _ => by cases h
  | .bsl _ _ _ :: _, _, _, _, _, _, h, _, _ => by cases h
  | .row _ :: _, _, _, _, _, _, h, _, _ => by cases h
  | .ept _ _ _ :: _, _, _, _, _, _, h, _, _ => by cases h
  | .fpt _ _ :: _, _, _, _, _, _, h, _, _ => by cases h
  | .int _ _ _ :: _, [], _, _, _, _, h, _, _ => by cases h
theorem isSh_some {cx : Cx} {t : Nat} {p : Sh → Bool} (h : isSh cx t p = true) : ∃ x, cx.ti.get t = some x ∧ p x.sh = true := by
  unfold isSh at h
  split at h
  · exact ⟨_, by assumption, h⟩
  · cases h
theorem shSlice_some {s : Sh} (h : shSlice s = true) : ∃ e, s = .slice e := by
  cases s <;> first | exact ⟨_, rfl⟩ | cases h
theorem shBool_some {s : Sh} (h : shBool s = true) : s = .bool := by
  cases s <;> first | rfl | cases h
theorem binS_rel {cx : Cx} {op : BinOp} {t : Nat} {x y : SV} {a b : HV} (hk : binS cx op t x y K = some r) (ha : V E x a) (hb : V E y b) : Gv E K r (binop cx op t a b) := by
  unfold binS at hk
  split at hk
  · rw [V_int] at ha hb
    subst ha; subst hb
    exact intS_rel hk
  · rw [V_bool] at ha hb
    subst ha; subst hb
    rename_i l a' l' b'
    rw [bif_eq] at hk
    split at hk
    · rename_i hs
      obtain ⟨u, h1, h2⟩ := isSh_some hs
      have h2 := shBool_some h2
      have : binop cx op t (.bool a') (.bool b') = eqOp op (a' == b') := by
        show (match cx.ti.get t with | some x => (match x.sh with | .bool => _ | _ => none) | none => none) = _
        rw [h1]; simp only; rw [h2]
      rw [this]
      have e : (bif l && l' then a' == b' else eqB a' b') = (a' == b') := by cases (l && l') <;> rfl
      rw [e] at hk
      exact eqV_rel hk
    · cases hk
  · rw [V_str] at ha hb
    subst ha; subst hb
    split at hk
    · obtain ⟨h1, h2⟩ := chk_some hk
      refine ⟨_, _, ?_, V_str.2 rfl, h2⟩
      show (bif Nat.ble _ _ then _ else none) = _
      unfold fitS at h1
      rw [h1]; rfl
    · rename_i hop
      have : ∀ s s', binop cx op t (.str s) (.str s') = eqOp op (s.toList == s'.toList) := by
        intro s s'
        cases op <;> first | rfl | exact absurd rfl hop
      rw [this]
      exact eqV_rel hk
  · rename_i hx1
    rw [V_nils] at hb
    subst hb
    rw [bif_eq] at hk
    split at hk
    · rename_i hs
      obtain ⟨u, h1, h2⟩ := isSh_some hs
      obtain ⟨e, h2⟩ := shSlice_some h2
      split at hk
      · rw [V_nils] at ha
        subst ha
        have : binop cx op t .nils .nils = eqOp op true := by
          show (match cx.ti.get t with | some u => (match u.sh, HV.nils with | .slice _, .nils => eqOp op true | .slice _, .sl _ _ _ => eqOp op false | .slice _, .asl _ _ _ => eqOp op false | .slice _, .esl => eqOp op false | .slice _, .emp => eqOp op false | _, _ => none) | none => none) = _
          rw [h1]; simp only; rw [h2]
        rw [this]; exact eqV_rel hk
      · rename_i m o n
        rw [V_bsl] at ha
        obtain ⟨_, b, _, rfl, _⟩ := ha
        have : binop cx op t (.sl b o n) .nils = eqOp op false := by
          show (match cx.ti.get t with | some u => (match u.sh, HV.sl b o n with | .slice _, .nils => eqOp op true | .slice _, .sl _ _ _ => eqOp op false | .slice _, .asl _ _ _ => eqOp op false | .slice _, .esl => eqOp op false | .slice _, .emp => eqOp op false | _, _ => none) | none => none) = _
          rw [h1]; simp only; rw [h2]
        rw [this]; exact eqV_rel hk
      · cases hk
    · cases hk
  · split at hk
    · rename_i m hm
      rw [bif_eq] at hk
      split at hk
      · rename_i hag
        simp only [Bool.and_eq_true] at hag
        split at hk
        · rename_i is js his hjs
          obtain ⟨ca, a1, a2, a3, a4⟩ := items_rel his ha
          obtain ⟨cb, b1, b2, b3, b4⟩ := items_rel hjs hb
          have := a3 hag.1; subst this
          have := b3 hag.2; subst this
          split at hk
          · rename_i fa fb hfa hfb
            rw [bif_eq] at hk
            split at hk
            · rename_i hlen
              simp only [Bool.and_eq_true] at hlen
              split at hk
              · rename_i l e heq
                obtain ⟨g1, g2, g3⟩ := eqI2_rel heq (flatI_rel hfa a2) (flatI_rel hfb b2)
                have : binop cx op t (.agg ca) (.agg cb) = eqOp op e := by
                  show (match cx.eqs.get t with | some m => (bif Nat.beq ca.length m && Nat.beq cb.length m then (match sames ca cb with | some r => eqOp op r | none => none) else none) | none => none) = _
                  rw [hm]; simp only; rw [g2, g3, hlen.1, hlen.2, g1]; rfl
                rw [this]; exact eqV_rel hk
              · cases hk
            · cases hk
          · cases hk
        · cases hk
      · cases hk
    · cases hk
end
end
end Go.Ls
namespace Go.Ls
open Go Go.Hm
/-- What an operation gives that leaves the state as it is. -/
def Pu (E : En) {R : Type} (h : St) (K : SV → Option R) (r : R) (o : Option Rs) : Prop := ∃ s v, o = some (.val v h) ∧ V E s v ∧ K s = some r
theorem gather_one {y : Blk} {o : Nat} {v : HV} (h : gather y o 1 = some [v]) : y.get o = some v := by
  have h : (match y.get o with | some v => (match some ([] : List HV) with | some l => some (v :: l) | none => none) | none => none) = some [v] := h
  split at h
  · cases h; assumption
  · cases h
theorem blk_of {h : St} {b : Nat} {y : Blk} (g : h.hp.get b = some (.blk y)) : h.blk b = some y := by
  unfold St.blk; rw [g]
theorem atL_some {α : Type} {l : List α} {i : Int} {x : α} (h : atL l i = some x) : ∃ n : Nat, i = Int.ofNat n ∧ l[n]? = some x := by
  unfold atL at h
  split at h
  · exact ⟨_, rfl, h⟩
  · cases h
section
variable {E : En} {S : SS} {h : St} {cy : Cy} {R : Type} {r : R} {K : SV → Option R}
theorem ofI_rel {ag : Bool} {c : List SV} {s : SV} {cs : List HV} (hs : ofI ag c = some s) (hc : CRs E c cs) : (ag = true → V E s (.agg cs)) ∧ (ag = false → ∃ v, cs = [v] ∧ V E s v) := by
  unfold ofI at hs
  split at hs
  · rename_i i
    rw [bif_eq] at hs
    split at hs
    · rename_i hi
      cases ag with
      | false => cases hs
      | true =>
        cases hs
        refine ⟨fun _ => ?_, fun h => (by cases h)⟩
        unfold V lift
        rw [hi]
        exact ⟨cs, rfl, CRs_one.1 hc⟩
    · rename_i hi
      cases ag with
      | false =>
        cases hs
        exact ⟨fun h => (by cases h), fun _ => CR_one (by simpa using hi) (CRs_one.1 hc)⟩
      | true =>
        cases hs
        exact ⟨fun _ => V_agg.2 ⟨cs, rfl, hc⟩, fun h => (by cases h)⟩
  · cases ag with
    | false => cases hs
    | true =>
      cases hs
      exact ⟨fun _ => V_agg.2 ⟨cs, rfl, hc⟩, fun h => (by cases h)⟩
theorem load_at {t : Nat} {x : TInf} {b o : Nat} {y : Blk} {c : List HV} (hx : cy.cx.ti.get t = some x) (hb : h.blk b = some y) (hg : gather y o x.size = some c) : (x.agg = true → doLoad cy.cx h t (.ptr b o) = some (.val (.agg c) h)) ∧ (∀ v, x.agg = false → c = [v] → doLoad cy.cx h t (.ptr b o) = some (.val v h)) := by
  refine ⟨fun ha => ?_, fun v ha hv => ?_⟩
  · unfold doLoad
    simp only
    rw [hx]; simp only; rw [hb]; simp only
    rw [ha, hg]; rfl
  · subst hv
    have hl := gather_len hg
    unfold doLoad
    simp only
    rw [hx]; simp only; rw [hb]; simp only
    have hg1 : gather y o 1 = some [v] := by
      have : x.size = 1 := hl.symm
      rw [this] at hg; exact hg
    rw [ha, gather_one hg1]; rfl
theorem load_of {t : Nat} {x : TInf} {b o : Nat} {y : Blk} {c : List SV} {cs : List HV} (hx : cy.cx.ti.get t = some x) (hb : h.blk b = some y) (hg : gather y o x.size = some cs) (hc : CRs E c cs) (hk : opt (ofI x.agg c) K = some r) : Pu E h K r (doLoad cy.cx h t (.ptr b o)) := by
  obtain ⟨s, h1, h2⟩ := opt_some hk
  obtain ⟨g1, g2⟩ := load_at (h := h) hx hb hg
  obtain ⟨k1, k2⟩ := ofI_rel h1 hc
  cases ha : x.agg with
  | true => exact ⟨s, _, g1 ha, k1 ha, h2⟩
  | false =>
    obtain ⟨v, e, hv⟩ := k2 ha
    exact ⟨s, v, g2 v ha e, hv, h2⟩
theorem loadS_rel (M : Mem S h E) {t : Nat} {s : SV} {a : HV} (hk : loadS cy S t s K = some r) (ha : V E s a) : Pu E h K r (doLoad cy.cx h t a) := by
  unfold loadS at hk
  split at hk
  · rename_i x hx
    split at hk
    · rename_i m o
      rw [V_box] at ha
      obtain ⟨_, b, hb, rfl⟩ := ha
      split at hk
      · rename_i z is hm
        split at hk
        · rename_i c hc
          obtain ⟨b', y, cs, p1, p2, p3, p4, p5, p6⟩ := M.ent m _ hm
          rw [hb] at p1; cases p1
          obtain ⟨c1, c2, c3, rfl, q1, q2, q3⟩ := getI_rel hc p6
          have := gather_sub p5 rfl q1 q2
          rw [Nat.zero_add] at this
          exact load_of hx (blk_of (by rw [← M.hp]; exact p2)) this q3 hk
        · cases hk
      · cases hk
    · rename_i u v
      rw [V_fpt] at ha
      obtain ⟨b, o, y, ds, rfl, h1, h2, h3, h4⟩ := ha
      rw [bif_eq] at hk
      split at hk
      · rename_i hc
        have hz := Nat.eq_of_beq_eq_true hc
        split at hk
        · rename_i c hc
          obtain ⟨c1, c2, c3, rfl, q1, q2, q3⟩ := getI_rel hc (CRs_one.2 (CR_mk.2 h4))
          have := gather_sub h3 rfl q1 q2
          rw [Nat.add_zero] at this
          exact load_of hx (blk_of (by rw [← M.hp]; exact h2)) this q3 hk
        · cases hk
      · cases hk
    · rename_i m i o
      rw [V_ept] at ha
      obtain ⟨_, _, ha⟩ := ha
      split at hk
      · rename_i e xs hm
        obtain ⟨w, hw, hk2⟩ := bnd_some hk
        clear hk
        obtain ⟨b, j, hb, rfl, hj, rfl⟩ := ha e xs (by rw [M.st]; exact hm)
        obtain ⟨n, hn, hxn⟩ := atL_some hw
        cases hn
        obtain ⟨_, hr⟩ := M.ent m _ hm
        unfold RowR at hr
        rw [hb] at hr
        obtain ⟨y, p1, p2, p3, p4, p5⟩ := hr
        obtain ⟨cs, q1, q2⟩ := p5 j w hxn
        split at hk2
        · rename_i c hc
          obtain ⟨c1, c2, c3, rfl, w1, w2, w3⟩ := getI_rel hc (CRs_one.2 (CR_mk.2 q2))
          exact load_of hx (blk_of (by rw [← M.hp]; exact p1)) (gather_sub q1 rfl w1 w2) w3 hk2
        · cases hk2
      · cases hk
    · cases hk
  · cases hk
theorem fptOf_rel {i s : SV} {b o : Nat} {y : Blk} {c : List HV} (hi : fptOf i = some s) (hz : E.Z b) (hb : E.hp.get b = some (.blk y)) (hg : gather y o c.length = some c) (hc : CR E i c) : V E s (.ptr b o) := by
  unfold fptOf at hi
  split at hi
  · rename_i l k x
    cases hi
    have hc : RdC E.hp E.Z (.int k) c x := by unfold CR at hc; unfold RdC; exact hc
    exact V_fpt.2 ⟨b, o, y, c, rfl, hz, hb, by rw [← hc.len]; exact hg, hc⟩
  · rename_i l x
    cases hi
    have hc : RdC E.hp E.Z .bool c x := by unfold CR at hc; unfold RdC; exact hc
    exact V_fpt.2 ⟨b, o, y, c, rfl, hz, hb, by rw [← hc.len]; exact hg, hc⟩
  · rename_i u x
    cases hi
    have hc : RdC E.hp E.Z u c x := by unfold CR at hc; exact hc
    exact V_fpt.2 ⟨b, o, y, c, rfl, hz, hb, by rw [← hc.len]; exact hg, hc⟩
  · cases hi
theorem fieldS_rel (M : Mem S h E) {t i : Nat} {s : SV} {a : HV} (hk : fieldS cy S t s i K = some r) (ha : V E s a) : Pu E h K r (doField cy.cx h t a i) := by
  unfold fieldS at hk
  split at hk
  · rename_i x hx
    split at hk
    · rename_i offs hsh
      split at hk
      · rename_i p z hof
        have hd : ∀ b o, doField cy.cx h t (.ptr b o) i = some (.val (.ptr b (o + p)) h) := by
          intro b o
          unfold doField; simp only; rw [hx]; simp only; rw [hsh]; simp only; rw [hof]; rfl
        split at hk
        · rename_i m o
          rw [V_box] at ha
          obtain ⟨h1, b, hb, rfl⟩ := ha
          exact ⟨_, _, hd b o, V_box.2 ⟨h1, b, hb, rfl⟩, hk⟩
        · rename_i m j o
          rw [V_ept] at ha
          obtain ⟨h1, h2, h3⟩ := ha
          split at hk
          · rename_i e xs hm
            rw [← M.st] at hm
            obtain ⟨b, q, g1, g2, g3, rfl⟩ := h3 e xs hm
            refine ⟨_, _, hd b _, V_ept.2 ⟨h1, rfl, fun e' xs' hm' => ?_⟩, hk⟩
            rw [hm] at hm'
            cases hm'
            exact ⟨b, q, g1, g2, g3, by show HV.ptr b (q * e.size + o + p) = HV.ptr b (q * e.size + (o + p)); rw [Nat.add_assoc]⟩
          · cases hk
        · rename_i u v
          rw [V_fpt] at ha
          obtain ⟨b, o, y, ds, rfl, h1, h2, h3, h4⟩ := ha
          obtain ⟨s', e1, e2⟩ := opt_some hk
          unfold fldS at e1
          split at e1
          · rename_i i' hc
            obtain ⟨c1, c2, c3, rfl, w1, w2, w3⟩ := getI_rel hc (CRs_one.2 (CR_mk.2 h4))
            exact ⟨s', _, hd b o, fptOf_rel e1 h1 h2 (by rw [w2]; exact gather_sub h3 rfl w1 w2) (CRs_one.1 w3), e2⟩
          · cases e1
        · cases hk
      · cases hk
    · cases hk
  · cases hk
theorem litN_some {s : SV} {j : Nat} (hl : litN s = some j) : ∃ k, s = .int true k (.ofNat j) := by
  unfold litN at hl
  split at hl
  · cases hl; exact ⟨_, rfl⟩
  · cases hl
theorem indexAS_rel (M : Mem S h E) {t : Nat} {s i : SV} {a w : HV} (hk : indexAS cy S t s i K = some r) (ha : V E s a) (hi : V E i w) : Pu E h K r (doIndexA cy.cx h t a w) := by
  unfold indexAS at hk
  split at hk
  · rename_i x hx
    split at hk
    · rename_i e hsh
      split at hk
      · rename_i z hz
        split at hk
        · rename_i u xs l k j
          rw [V_int] at hi
          subst hi
          rw [bif_eq] at hk
          split at hk
          · rename_i hzz
            have hzz := Nat.eq_of_beq_eq_true hzz
            subst hzz
            obtain ⟨v, hv, hk2⟩ := bnd_some hk
            clear hk
            obtain ⟨n, rfl, hn⟩ := atL_some hv
            rw [V_list] at ha
            have hlt : n < xs.length := by
              have := List.getElem?_eq_some_iff.1 hn
              exact this.1
            have hlt' : Nat.blt n xs.length = true := by simpa [Nat.blt_eq] using hlt
            rcases ha with ⟨h0, _⟩ | ⟨b, o, y, h1, h2, h3, h4, h5, h6⟩
            · rw [h0] at hlt; cases hlt
            · obtain ⟨cs, g1, g2⟩ := h6 n v hn
              refine ⟨_, .ptr b (o + n * u.size), ?_, V_fpt.2 ⟨b, o + n * u.size, y, cs, rfl, h2, h3, g1, g2⟩, hk2⟩
              obtain ⟨h1, _⟩ := h1
              subst h1
              unfold doIndexA
              rw [hx]; simp only [natOf]; rw [hsh]; simp only; rw [hz]; simp only; rw [hlt']; rfl
          · cases hk
        · rename_i m l k j
          rw [V_int] at hi
          subst hi
          split at hk
          · rename_i u xs hm
            rw [bif_eq] at hk
            split at hk
            · rename_i hzz
              have hzz := Nat.eq_of_beq_eq_true hzz
              subst hzz
              obtain ⟨hc, hk2⟩ := chk_some hk
              unfold inL? at hc
              simp only [Bool.and_eq_true, decide_eq_true_eq] at hc
              obtain ⟨n, rfl⟩ : ∃ n : Nat, j = Int.ofNat n := ⟨_, natB hc.1⟩
              have hlt : n < xs.length := Int.ofNat_lt.1 hc.2
              have hlt' : Nat.blt n xs.length = true := by simpa [Nat.blt_eq] using hlt
              rw [V_row] at ha
              obtain ⟨h1, h2, h3⟩ := ha
              rw [← M.st] at hm
              have h3 := h3 u xs hm
              unfold RowV at h3
              cases hb : E.mb m with
              | none => rw [hb] at h3; rw [h3.1] at hlt; cases hlt
              | some b =>
                rw [hb] at h3
                subst h3
                refine ⟨_, .ptr b (0 + n * u.size), ?_, V_ept.2 ⟨h1, rfl, fun e' xs' hm' => ?_⟩, hk2⟩
                · unfold doIndexA
                  rw [hx]; simp only [natOf]; rw [hsh]; simp only; rw [hz]; simp only; rw [hlt']; rfl
                · rw [hm] at hm'
                  cases hm'
                  exact ⟨b, n, hb, rfl, hlt, by rw [Nat.zero_add]; rfl⟩
            · cases hk
          · cases hk
        · rename_i m o n
          split at hk
          · rename_i j hj
            obtain ⟨k, rfl⟩ := litN_some hj
            rw [V_int] at hi
            subst hi
            rw [bif_eq] at hk
            split at hk
            · rename_i hlt
              rw [V_bsl] at ha
              obtain ⟨h1, b, hb, rfl, _⟩ := ha
              refine ⟨_, .ptr b (o + j * z), ?_, V_box.2 ⟨h1, b, hb, rfl⟩, hk⟩
              unfold doIndexA
              rw [hx]; simp only [natOf]; rw [hsh]; simp only; rw [hz]; simp only; rw [hlt]; rfl
            · cases hk
          · cases hk
        · cases hk
      · cases hk
    · rename_i n e hsh
      split at hk
      · rename_i z hz
        split at hk
        · rename_i n' u xs l k j
          rw [V_int] at hi
          subst hi
          rw [bif_eq] at hk
          split at hk
          · rename_i hzz
            simp only [Bool.and_eq_true] at hzz
            have hz1 := Nat.eq_of_beq_eq_true hzz.1
            have hz2 := Nat.eq_of_beq_eq_true hzz.2
            subst hz1; subst hz2
            obtain ⟨v, hv, hk2⟩ := bnd_some hk
            clear hk
            obtain ⟨q, rfl, hn⟩ := atL_some hv
            rw [V_fpt] at ha
            obtain ⟨b, o, y, ds, rfl, h1, h2, h3, h4⟩ := ha
            unfold RdC at h4
            obtain ⟨h5, h6⟩ := h4
            have hlt : q < n := by
              have := List.getElem?_eq_some_iff.1 hn
              rw [← h5]; exact this.1
            have hlt' : Nat.blt q n = true := by simpa [Nat.blt_eq] using hlt
            obtain ⟨c1, c2, c3, k1, k2, k3, k4⟩ := RdA_get (z := u.size) (fun _ _ h => h.len) h6 hn
            refine ⟨_, .ptr b (o + q * u.size), ?_, V_fpt.2 ⟨b, o + q * u.size, y, c2, rfl, h1, h2, gather_sub h3 k1 k2 k3, k4⟩, hk2⟩
            unfold doIndexA
            rw [hx]; simp only [natOf]; rw [hsh]; simp only; rw [hz]; simp only; rw [hlt']; rfl
          · cases hk
        · rename_i m o
          split at hk
          · rename_i j hj
            obtain ⟨k, rfl⟩ := litN_some hj
            rw [V_int] at hi
            subst hi
            rw [bif_eq] at hk
            split at hk
            · rename_i hlt
              rw [V_box] at ha
              obtain ⟨h1, b, hb, rfl⟩ := ha
              refine ⟨_, .ptr b (o + j * z), ?_, V_box.2 ⟨h1, b, hb, rfl⟩, hk⟩
              unfold doIndexA
              rw [hx]; simp only [natOf]; rw [hsh]; simp only; rw [hz]; simp only; rw [hlt]; rfl
            · cases hk
          · cases hk
        · cases hk
      · cases hk
    · cases hk
  · cases hk
theorem indexS_rel {t : Nat} {s i : SV} {a w : HV} (hk : indexS cy t s i K = some r) (ha : V E s a) (hi : V E i w) : Pu E h K r (doIndex cy.cx h t a w) := by
  unfold indexS at hk
  split at hk
  · rename_i x hx
    split at hk
    · rename_i hsh
      split at hk
      · rename_i s l k j
        rw [V_int] at hi
        rw [V_str] at ha
        subst hi; subst ha
        obtain ⟨c, hc, hk2⟩ := bnd_some hk
        unfold atS at hc
        split at hc
        · rename_i n
          split at hc
          · rename_i c' hc'
            cases hc
            refine ⟨_, .int .u8 (Int.ofNat c'.toNat), ?_, V_int.2 rfl, hk2⟩
            unfold doIndex
            simp only [natOf]
            rw [hx]; simp only; rw [hsh]; simp only; rw [hc']
          · cases hc
        · cases hc
      · cases hk
    · rename_i m e hsh
      split at hk
      · rename_i y hy
        split at hk
        · rename_i j hj
          obtain ⟨k, rfl⟩ := litN_some hj
          rw [V_int] at hi
          subst hi
          rw [bif_eq] at hk
          split at hk
          · rename_i hcond
            rw [Bool.and_eq_true] at hcond
            split at hk
            · rename_i is his
              split at hk
              · rename_i c hc
                obtain ⟨s', g1, g2⟩ := opt_some hk
                obtain ⟨cs, c1, c2, c3, c4⟩ := items_rel his ha
                have := c3 hcond.1
                subst this
                obtain ⟨d1, d2, d3, rfl, k1, k2, k3⟩ := getI_rel hc c2
                obtain ⟨_, q2⟩ := ofI_rel g1 k3
                obtain ⟨v, rfl, hv⟩ := q2 rfl
                refine ⟨s', v, ?_, hv, g2⟩
                unfold doIndex
                simp only [natOf]
                rw [hx]; simp only; rw [hsh]; simp only; rw [hy]; simp only; rw [hcond.2]
                rw [List.getElem?_append_right (by omega), k1, Nat.sub_self]
                rfl
              · cases hk
            · cases hk
          · cases hk
        · cases hk
      · cases hk
    · cases hk
  · cases hk
/-- Parts by their places. -/
def PV (E : En) : List (Nat × SV) → List (Nat × HV) → Prop
  | [], l => l = []
  | (i, s) :: r, l => ∃ v q, l = (i, v) :: q ∧ V E s v ∧ PV E r q
theorem evPS_rel (hE : Env S h E) : ∀ {ps : List (Nat × Operand)} {l : List (Nat × SV)}, evPS S ps = some l → ∃ q, evParts h ps = some q ∧ PV E l q
  | [], l, hx => by cases hx; exact ⟨[], rfl, rfl⟩
  | (i, x) :: ps, l, hx => by
    unfold evPS at hx
    split at hx
    · rename_i s h1
      split at hx
      · rename_i l' h2
        cases hx
        obtain ⟨v, g1, g2⟩ := ev_rel hE h1
        obtain ⟨q, g3, g4⟩ := evPS_rel hE h2
        exact ⟨(i, v) :: q, by unfold evParts; rw [g1, g3], v, q, rfl, g2, g4⟩
      · cases hx
    · cases hx
theorem setAll_mid : ∀ {c c1 c2 c3 : List HV}, c2.length = c.length → setAll (c1 ++ (c2 ++ c3)) c1.length c = c1 ++ (c ++ c3)
  | [], c1, c2, c3, hl => by
    have : c2 = [] := by cases c2 with | nil => rfl | cons _ _ => cases hl
    subst this
    rfl
  | v :: c, c1, [], c3, hl => by cases hl
  | v :: c, c1, w :: c2, c3, hl => by
    show setAll ((c1 ++ (w :: c2 ++ c3)).set c1.length v) (c1.length + 1) c = _
    have e : (c1 ++ (w :: c2 ++ c3)).set c1.length v = (c1 ++ [v]) ++ (c2 ++ c3) := by
      rw [List.set_append_right _ _ (Nat.le_refl _), Nat.sub_self]; simp
    rw [e]
    have := setAll_mid (c := c) (c1 := c1 ++ [v]) (c2 := c2) (c3 := c3) (by simpa using hl)
    rw [List.length_append] at this
    rw [show c1.length + 1 = c1.length + [v].length from rfl, this]
    simp
theorem fillI_rel {place : Nat → Option (Nat × Nat)} : ∀ {ps : List (Nat × SV)} {qs : List (Nat × HV)} {is l : List SV} {cs : List HV}, fillI place is ps = some l → PV E ps qs → CRs E is cs → ∃ c, fillS place cs qs = some c ∧ CRs E l c
  | [], qs, is, l, cs, hf, hp, hc => by
    cases hf
    unfold PV at hp
    subst hp
    exact ⟨cs, rfl, hc⟩
  | (i, s) :: ps, qs, is, l, cs, hf, hp, hc => by
    unfold PV at hp
    obtain ⟨v, q, rfl, hv, hq⟩ := hp
    unfold fillI at hf
    split at hf
    · rename_i o z hpl
      split at hf
      · rename_i c hits
        rw [bif_eq] at hf
        split at hf
        · rename_i hw
          have hw := Nat.eq_of_beq_eq_true hw
          split at hf
          · rename_i is' hput
            obtain ⟨vc, g1, g2, _, _⟩ := items_rel hits hv
            obtain ⟨c1, c2, c3, rfl, k1, k2, k3⟩ := putI_rel hput hc g2
            have hlen : vc.length = z := by rw [g2.len, hw]
            obtain ⟨w, w1, w2⟩ := fillI_rel hf hq k3
            refine ⟨w, ?_, w2⟩
            unfold fillS
            rw [hpl]; simp only; rw [g1]; simp only
            have e1 : (Nat.beq vc.length z && Nat.ble (Nat.add o z) (c1 ++ (c2 ++ c3)).length) = true := by
              rw [Bool.and_eq_true]
              refine ⟨by simp [hlen], ?_⟩
              simp only [Nat.ble_eq, List.length_append]
              show o + z ≤ _
              omega
            rw [e1]
            show fillS place (setAll (c1 ++ (c2 ++ c3)) o vc) q = some w
            rw [← k1, setAll_mid (by rw [k2, hlen])]
            exact w1
          · cases hf
        · cases hf
      · cases hf
    · cases hf
theorem buildS_rel {t : Nat} {ps : List (Nat × SV)} {qs : List (Nat × HV)} (hk : buildS cy t ps K = some r) (hp : PV E ps qs) : Pu E h K r (doBuild cy.cx h t qs) := by
  unfold buildS at hk
  split at hk
  · rename_i x hx
    split at hk
    · rename_i z hz
      split at hk
      · rename_i offs hsh
        split at hk
        · rename_i l hl
          obtain ⟨c, g1, g2⟩ := fillI_rel hl hp (ofHVs_rel z)
          refine ⟨_, .agg c, ?_, V_agg.2 ⟨c, rfl, g2⟩, hk⟩
          unfold doBuild
          rw [hx]; simp only; rw [hz]; simp only; rw [hsh]; simp only; rw [g1]
        · cases hk
      · rename_i n e hsh
        split at hk
        · rename_i q hq
          split at hk
          · rename_i l hl
            obtain ⟨c, g1, g2⟩ := fillI_rel hl hp (ofHVs_rel z)
            refine ⟨_, .agg c, ?_, V_agg.2 ⟨c, rfl, g2⟩, hk⟩
            unfold doBuild
            rw [hx]; simp only; rw [hz]; simp only; rw [hsh]; simp only; rw [hq]; simp only; rw [g1]
          · cases hk
        · cases hk
      · cases hk
    · cases hk
  · cases hk
theorem convertS_rel {a b : Nat} {s : SV} {v : HV} (hk : convertS cy a b s K = some r) (hv : V E s v) : Pu E h K r (doConvert cy.cx h a b v) := by
  unfold convertS at hk
  split at hk
  · rename_i x y hx hy
    split at hk
    · rename_i k l k' n hsh
      rw [V_int] at hv
      subst hv
      refine ⟨_, .int k (wrapI k n), ?_, ?_, hk⟩
      · unfold doConvert
        rw [hx, hy]; simp only; rw [hsh]
      · cases l
        · exact V_int.2 rfl
        · exact V_int.2 rfl
    · rename_i b hsh
      rw [V_str] at hv
      subst hv
      refine ⟨_, .str b, ?_, V_str.2 rfl, hk⟩
      unfold doConvert
      rw [hx, hy]; simp only; rw [hsh]
    · cases hk
  · cases hk
theorem lenOfS_rel (M : Mem S h E) {s s' : SV} {v : HV} (hs : lenOfS S s = some s') (hv : V E s v) : ∃ n, lenOf v = some n ∧ V E s' (.int .i64 (Int.ofNat n)) := by
  unfold lenOfS at hs
  split at hs
  · cases hs
    rw [V_str] at hv; subst hv
    exact ⟨_, rfl, V_int.2 rfl⟩
  · rename_i u xs
    cases hs
    rw [V_list] at hv
    refine ⟨xs.length, ?_, V_int.2 rfl⟩
    rcases hv with ⟨rfl, rfl | rfl | rfl⟩ | ⟨b, o, y, ⟨h1, _⟩, _⟩
    · rfl
    · rfl
    · rfl
    · subst h1; rfl
  · cases hs
    rw [V_nils] at hv; subst hv
    exact ⟨0, rfl, V_int.2 rfl⟩
  · cases hs
    rw [V_esl] at hv
    rcases hv with rfl | rfl
    · exact ⟨0, rfl, V_int.2 rfl⟩
    · exact ⟨0, rfl, V_int.2 rfl⟩
  · cases hs
    rw [V_bsl] at hv
    obtain ⟨_, b, _, rfl, _⟩ := hv
    exact ⟨_, rfl, V_int.2 rfl⟩
  · rename_i m
    split at hs
    · rename_i u xs hm
      cases hs
      rw [V_row] at hv
      obtain ⟨_, _, h3⟩ := hv
      rw [← M.st] at hm
      have h3 := h3 u xs hm
      refine ⟨xs.length, ?_, V_int.2 rfl⟩
      unfold RowV at h3
      cases hb : E.mb m with
      | none =>
        rw [hb] at h3
        obtain ⟨h0, rfl | rfl⟩ := h3
        · rw [h0]; rfl
        · rw [h0]; rfl
      | some b => rw [hb] at h3; subst h3; rfl
    · cases hs
  · cases hs
theorem lenS_rel (M : Mem S h E) {t : Nat} {s : SV} {v : HV} (hk : lenS' cy S t s K = some r) (hv : V E s v) : Pu E h K r (doBuiltin cy.cx h .len [t] [v]) := by
  unfold lenS' at hk
  rw [bif_eq] at hk
  split at hk
  · rename_i hsh
    obtain ⟨x, hx, hp⟩ := isSh_some hsh
    obtain ⟨s', h1, h2⟩ := opt_some hk
    obtain ⟨n, g1, g2⟩ := lenOfS_rel M h1 hv
    refine ⟨s', .int .i64 (Int.ofNat n), ?_, g2, h2⟩
    unfold doBuiltin
    simp only
    rw [hx]
    simp only
    split at hp
    · rename_i he
      rw [V_str] at hv; subst hv
      rw [he]
      cases g1; rfl
    · cases hp
    · rename_i e he hns
      rw [he]
      cases v with
      | str b =>
        exfalso
        unfold lenOfS at h1
        split at h1
        · exact hns _ rfl
        · rw [V_list] at hv
          rcases hv with ⟨_, h | h | h⟩ | ⟨b, o, y, ⟨h, _⟩, _⟩ <;> cases h
        · rw [V_nils] at hv; cases hv
        · rw [V_esl] at hv; rcases hv with h | h <;> cases h
        · rw [V_bsl] at hv; obtain ⟨_, b, _, h, _⟩ := hv; cases h
        · rename_i m
          split at h1
          · rename_i u xs hm
            rw [V_row] at hv
            have := hv.2.2 u xs (by rw [M.st]; exact hm)
            unfold RowV at this
            cases hb : E.mb m with
            | none => rw [hb] at this; rcases this.2 with h | h <;> cases h
            | some b => rw [hb] at this; cases this
          · cases h1
        · cases h1
      | _ => first | (simp only; rw [g1]; done) | (cases g1; done) | (simp only [lenOf] at g1 ⊢; cases g1; rfl)
    · cases hp
  · cases hk
theorem mmS_rel {mx : Bool} {l : List SV} {vs : List HV} {s : SV} (hs : mmS mx l = some s) (hv : Vs E l vs) : ∃ v, minmax mx vs = some v ∧ V E s v := by
  unfold mmS at hs
  split at hs
  · rename_i l1 a l2 b
    cases hs
    unfold Vs at hv
    obtain ⟨v1, r1, rfl, h1, h2⟩ := hv
    unfold Vs at h2
    obtain ⟨v2, r2, rfl, h3, h4⟩ := h2
    unfold Vs at h4
    subst h4
    have h1 := V_int.1 h1
    have h3 := V_int.1 h3
    subst h1; subst h3
    refine ⟨_, rfl, V_int.2 ?_⟩
    unfold minI maxI
    cases mx <;> cases decide (a ≤ b) <;> rfl
  · cases hs
theorem pickS_rel {c : SV} {w : HV} {a b : Option SV} {x y : Option HV} (hk : pickS c a b K = some r) (hc : V E c w) (ha : ∀ s, a = some s → ∃ v, x = some v ∧ V E s v) (hb : ∀ s, b = some s → ∃ v, y = some v ∧ V E s v) : Pu E h K r (doPick h w x y) := by
  cases c with
  | bool l q =>
    rw [V_bool] at hc
    subst hc
    cases l with
    | true =>
      have hk : (bif q then opt a K else opt b K) = some r := by cases a <;> cases b <;> exact hk
      cases q with
      | true =>
        obtain ⟨s, h1, h2⟩ := opt_some hk
        obtain ⟨v, rfl, g⟩ := ha s h1
        exact ⟨s, v, rfl, g, h2⟩
      | false =>
        obtain ⟨s, h1, h2⟩ := opt_some hk
        obtain ⟨v, rfl, g⟩ := hb s h1
        exact ⟨s, v, rfl, g, h2⟩
    | false =>
      cases a with
      | none => cases b <;> cases hk
      | some a =>
        cases b with
        | none => cases a <;> cases hk
        | some b =>
          obtain ⟨v, rfl, g⟩ := ha _ rfl
          obtain ⟨v', rfl, g'⟩ := hb _ rfl
          have hgen : cnd q (K a) (K b) = some r → Pu E h K r (doPick h (.bool q) (some v) (some v')) := by
            intro hk
            rcases cnd_some hk with ⟨rfl, h1⟩ | ⟨rfl, h1⟩
            · exact ⟨_, _, rfl, g, h1⟩
            · exact ⟨_, _, rfl, g', h1⟩
          by_cases hi : (∃ l k n l' k' n', a = .int l k n ∧ b = .int l' k' n')
          · obtain ⟨l, k, n, l', k', n', rfl, rfl⟩ := hi
            have hk3 : (bif kindEq k k' then K (.int false k (selI q n n')) else none) = some r := hk
            rw [bif_eq] at hk3
            split at hk3
            · rename_i hkk
              have hkk := kind_eq hkk
              subst hkk
              rw [V_int] at g g'
              subst g; subst g'
              cases q with
              | true => exact ⟨_, _, rfl, V_int.2 rfl, hk3⟩
              | false => exact ⟨_, _, rfl, V_int.2 rfl, hk3⟩
            · cases hk3
          · apply hgen
            cases a <;> first | exact hk | skip
            cases b <;> first | exact hk | exact absurd ⟨_, _, _, _, _, _, rfl, rfl⟩ hi
  | _ => cases a <;> cases b <;> cases hk
theorem unS_rel {op : UnOp} {s s' : SV} {v : HV} (hs : unS op s = some s') (hv : V E s v) : ∃ w, doUn h op v = some (.val w h) ∧ V E s' w := by
  unfold unS at hs
  split at hs
  · rename_i l b
    cases hs
    rw [V_bool] at hv; subst hv
    refine ⟨_, rfl, V_bool.2 ?_⟩
    cases l <;> rfl
  · rename_i l k n
    cases hs
    rw [V_int] at hv; subst hv
    refine ⟨_, rfl, ?_⟩
    cases l
    · exact V_int.2 rfl
    · exact V_int.2 rfl
  · cases hs
theorem nilS_rel (M : Mem S h E) {s s' : SV} {v : HV} (hs : nilS S s = some s') (hv : V E s v) : ∃ w, doNil h v = some (.val w h) ∧ V E s' w := by
  unfold nilS at hs
  split at hs
  · cases hs
    have hv' := hv
    rw [V_box] at hv
    obtain ⟨_, b, _, rfl⟩ := hv
    exact ⟨_, rfl, hv'⟩
  · rename_i m i o
    split at hs
    · rename_i e xs hm
      cases hs
      have hv' := hv
      rw [V_ept] at hv
      obtain ⟨b, j, _, _, _, rfl⟩ := hv.2.2 e xs (by rw [M.st]; exact hm)
      exact ⟨_, rfl, hv'⟩
    · cases hs
  · cases hs
    have hv' := hv
    rw [V_fpt] at hv
    obtain ⟨b, o, _, _, rfl, _⟩ := hv
    exact ⟨_, rfl, hv'⟩
  · cases hs
theorem Vs_get : ∀ {l : List SV} {vs : List HV} {i : Nat} {s : SV}, Vs E l vs → l[i]? = some s → ∃ v, vs[i]? = some v ∧ V E s v
  | [], _, _, _, _, hs => by simp at hs
  | a :: l, vs, i, s, hv, hs => by
    unfold Vs at hv
    obtain ⟨v, r, rfl, h1, h2⟩ := hv
    cases i with
    | zero =>
      simp only [List.getElem?_cons_zero, Option.some.injEq] at hs
      subst hs
      exact ⟨v, rfl, h1⟩
    | succ i =>
      simp only [List.getElem?_cons_succ] at hs
      obtain ⟨w, g1, g2⟩ := Vs_get h2 hs
      exact ⟨w, by simpa using g1, g2⟩
theorem extractS_rel {s s' : SV} {v : HV} {i : Nat} (hs : extractS s i = some s') (hv : V E s v) : ∃ w, doExtract h v i = some (.val w h) ∧ V E s' w := by
  unfold extractS at hs
  split at hs
  · rename_i l
    rw [V_tup] at hv
    obtain ⟨vs, rfl, hv⟩ := hv
    obtain ⟨w, g1, g2⟩ := Vs_get hv hs
    refine ⟨w, ?_, g2⟩
    unfold doExtract
    simp only
    rw [g1]
  · cases hs
end
end Go.Ls
namespace Go.Ls
open Go Go.Hm
theorem gather_char {y : Blk} : ∀ {k o : Nat} {l : List HV}, gather y o k = some l ↔ l.length = k ∧ ∀ i, i < k → o + i < y.n ∧ y.c.get (o + i) = l[i]?
  | 0, o, l => by
    constructor
    · intro h; cases h; exact ⟨rfl, fun i hi => by cases hi⟩
    · rintro ⟨h, _⟩
      cases l with
      | nil => rfl
      | cons _ _ => cases h
  | k + 1, o, l => by
    constructor
    · intro h
      obtain ⟨h1, h2⟩ := gather_get h
      refine ⟨h1, fun i hi => ?_⟩
      have hs : l[i]? = some (l[i]'(by omega)) := List.getElem?_eq_getElem (by omega)
      obtain ⟨g1, g2⟩ := h2 i _ hs
      exact ⟨g1, by rw [g2, hs]⟩
    · rintro ⟨h1, h2⟩
      cases l with
      | nil => cases h1
      | cons v l =>
        have h0 := h2 0 (by omega)
        have ih := (gather_char (y := y) (k := k) (o := o + 1) (l := l)).2 ⟨by simpa using h1, fun i hi => by
          have := h2 (i + 1) (by omega)
          rw [show o + (i + 1) = o + 1 + i by omega] at this
          simpa using this⟩
        have hv : y.get o = some v := by
          unfold Blk.get
          have e1 : Nat.blt o y.n = true := by have := h0.1; rw [Nat.blt_eq]; omega
          rw [e1]
          have := h0.2
          simpa using this
        show (match y.get o with | some v => (match gather y (o + 1) k with | some l => some (v :: l) | none => none) | none => none) = _
        rw [hv, ih]
/-- Cells that are written, within what is gathered. -/
theorem gather_in {y : Blk} {w : Bool} {z n a k : Nat} {c c1 c2 c3 : List HV} (hg : gather y a k = some (c1 ++ (c2 ++ c3))) (h : c2.length = c.length) (hn : y.n ≤ n) : gather ⟨w, z, n, scatter y.c (a + c1.length) c⟩ a k = some (c1 ++ (c ++ c3)) := by
  rw [gather_char] at hg ⊢
  obtain ⟨h1, h2⟩ := hg
  simp only [List.length_append] at h1 ⊢
  refine ⟨by omega, fun i hi => ?_⟩
  obtain ⟨g1, g2⟩ := h2 i hi
  refine ⟨by show a + i < n; omega, ?_⟩
  show (scatter y.c (a + c1.length) c).get (a + i) = _
  rw [scatter_get]
  by_cases hc : a + c1.length ≤ a + i ∧ a + i < a + c1.length + c.length
  · rw [if_pos hc]
    rw [List.getElem?_append_right (by omega), List.getElem?_append_left (by omega)]
    congr 1; omega
  · rw [if_neg hc, g2]
    by_cases h3 : i < c1.length
    · rw [List.getElem?_append_left h3, List.getElem?_append_left h3]
    · rw [List.getElem?_append_right (by omega), List.getElem?_append_right (by omega), List.getElem?_append_right (by omega), List.getElem?_append_right (by omega), h]
/-- Cells that are written elsewhere. -/
theorem gather_out {y : Blk} {w : Bool} {z n a k p : Nat} {c l : List HV} (hg : gather y a k = some l) (hd : a + k ≤ p ∨ p + c.length ≤ a) (hn : a + k ≤ n) : gather ⟨w, z, n, scatter y.c p c⟩ a k = some l := by
  rw [gather_char] at hg ⊢
  obtain ⟨h1, h2⟩ := hg
  refine ⟨h1, fun i hi => ?_⟩
  obtain ⟨g1, g2⟩ := h2 i hi
  refine ⟨by show a + i < n; omega, ?_⟩
  show (scatter y.c p c).get (a + i) = _
  rw [scatter_get, if_neg (by omega), g2]
/-- What has been written. -/
theorem gather_new {T : Tr HV} {w : Bool} {z n p : Nat} {c : List HV} (hn : p + c.length ≤ n) : gather ⟨w, z, n, scatter T p c⟩ p c.length = some c := by
  rw [gather_char]
  refine ⟨rfl, fun i hi => ⟨by show p + i < n; omega, ?_⟩⟩
  show (scatter T p c).get (p + i) = _
  rw [scatter_get, if_pos (by omega)]
  congr 1; omega
theorem mul_step {i n z : Nat} (h : i < n) : i * z + z ≤ n * z := by
  have := Nat.mul_le_mul_right z (Nat.succ_le_of_lt h)
  rw [Nat.succ_mul] at this; exact this
section
variable {α : Type} {R : List HV → α → Prop}
theorem RdA_of {y : Blk} {z : Nat} (hR : ∀ c x, R c x → c.length = z) : ∀ {xs : List α} {o : Nat}, (∀ i x, xs[i]? = some x → ∃ cs, gather y (o + i * z) z = some cs ∧ R cs x) → ∃ cs, gather y o (xs.length * z) = some cs ∧ RdA R cs xs
  | [], o, _ => ⟨[], by rw [List.length_nil, Nat.zero_mul]; rfl, rfl⟩
  | x :: xs, o, h => by
    obtain ⟨c, h1, h2⟩ := h 0 x (by simp)
    obtain ⟨d, h3, h4⟩ := RdA_of hR (xs := xs) (o := o + z) (fun i w hw => by
      obtain ⟨cs, g1, g2⟩ := h (i + 1) w (by simpa using hw)
      refine ⟨cs, ?_, g2⟩
      rw [show o + z + i * z = o + (i + 1) * z by rw [Nat.succ_mul]; omega]
      exact g1)
    rw [Nat.zero_mul, Nat.add_zero] at h1
    refine ⟨c ++ d, ?_, ⟨c, d, rfl, h2, h4⟩⟩
    rw [List.length_cons, Nat.succ_mul, Nat.add_comm]
    exact gather_add.2 ⟨c, d, rfl, h1, h3⟩
theorem RdA_app : ∀ {xs ys : List α} {c d : List HV}, RdA R c xs → RdA R d ys → RdA R (c ++ d) (xs ++ ys)
  | [], ys, c, d, h1, h2 => by
    have : c = [] := h1
    subst this; exact h2
  | x :: xs, ys, c, d, ⟨c1, c2, e, g1, g2⟩, h2 => ⟨c1, c2 ++ d, by rw [e, List.append_assoc], g1, RdA_app g2 h2⟩
/-- The elements of a row that has been made longer. -/
theorem row_app {y : Blk} {w : Bool} {z z' n : Nat} {xs new : List α} {c : List HV} (hR : ∀ c x, R c x → c.length = z) (h : ∀ i x, xs[i]? = some x → ∃ cs, gather y (i * z) z = some cs ∧ R cs x) (hc : RdA R c new) (hn : (xs.length + new.length) * z ≤ n) (i : Nat) (x : α) (hx : (xs ++ new)[i]? = some x) : ∃ cs, gather ⟨w, z', n, scatter y.c (xs.length * z) c⟩ (i * z) z = some cs ∧ R cs x := by
  have hl := RdA_len hR hc
  rw [Nat.add_mul] at hn
  by_cases hi : i < xs.length
  · rw [List.getElem?_append_left hi] at hx
    obtain ⟨cs, g1, g2⟩ := h i x hx
    have := mul_step (z := z) hi
    exact ⟨cs, gather_out g1 (.inl this) (by omega), g2⟩
  · rw [List.getElem?_append_right (by omega)] at hx
    obtain ⟨c1, c2, c3, k1, k2, k3, k4⟩ := RdA_get hR hc hx
    refine ⟨c2, ?_, k4⟩
    have hg := gather_new (T := y.c) (w := w) (z := z') (n := n) (p := xs.length * z) (c := c) (by omega)
    have := gather_sub hg k1 k2 k3
    rw [← Nat.add_mul, show xs.length + (i - xs.length) = i by omega] at this
    exact this
/-- The elements of a row in which one has been written. -/
theorem row_set {y : Blk} {w : Bool} {z z' n j p : Nat} {xs : List α} {x0 x1 : α} {c c1 c2 c3 : List HV} (h : ∀ i x, xs[i]? = some x → ∃ cs, gather y (i * z) z = some cs ∧ R cs x) (hx0 : xs[j]? = some x0) (hg : gather y (j * z) z = some (c1 ++ (c2 ++ c3))) (hp : c1.length = p) (hc2 : c2.length = c.length) (hR : R (c1 ++ (c ++ c3)) x1) (hn : y.n ≤ n) (i : Nat) (x : α) (hx : (xs.set j x1)[i]? = some x) : ∃ cs, gather ⟨w, z', n, scatter y.c (j * z + p) c⟩ (i * z) z = some cs ∧ R cs x := by
  have hj : j < xs.length := (List.getElem?_eq_some_iff.1 hx0).1
  have hlen := gather_len hg
  simp only [List.length_append] at hlen
  by_cases hi : i = j
  · subst hi
    rw [List.getElem?_set_self hj] at hx
    cases hx
    subst hp
    exact ⟨_, gather_in hg hc2 hn, hR⟩
  · rw [List.getElem?_set_ne (fun h => hi h.symm)] at hx
    obtain ⟨cs, g1, g2⟩ := h i x hx
    have hb : i * z + z ≤ n := by
      rw [gather_char] at g1
      by_cases hz : z = 0
      · subst hz
        rw [gather_char] at hg
        omega
      · have := (g1.2 (z - 1) (by omega)).1
        omega
    refine ⟨cs, gather_out g1 ?_ hb, g2⟩
    rcases Nat.lt_or_gt_of_ne hi with h | h
    · have := mul_step (z := z) h
      exact .inl (by omega)
    · have := mul_step (z := z) h
      exact .inr (by omega)
end
section
variable {S : SS} {h : St} {E : En}
def mvE (E : En) (hp' : Tr Hm.Obj) (n : Nat) (o : Option Nat) (st : Tr Ent) : En := ⟨hp', E.Z, fun j => bif Nat.beq j n then o else E.mb j, st, n + 1⟩
theorem beq_false {a b : Nat} (h : a ≠ b) : Nat.beq a b = false := by
  cases hq : Nat.beq a b with
  | false => rfl
  | true => exact absurd (Nat.eq_of_beq_eq_true hq) h
/-- A new entry; others may be given up for it. -/
theorem adopt_rel (M : Mem S h E) {st1 : Tr Ent} {hp' : Tr Hm.Obj} {nx' : Nat} {o : Option Nat} {e : Ent}
    (h1 : ∀ j e, st1.get j = some e → S.st.get j = some e)
    (h2 : ∀ j, S.st.get j ≠ none → st1.get j = none → S.can j = true)
    (hb : ∀ b, b < h.nx → hp'.get b = h.hp.get b ∨ ∃ j e, S.st.get j = some e ∧ E.mb j = some b ∧ st1.get j = none)
    (hn : h.nx ≤ nx') (hf : ∀ b, nx' ≤ b → hp'.get b = none)
    (ho : ∀ b, o = some b → b < nx' ∧ (h.nx ≤ b ∨ ∃ j e, S.st.get j = some e ∧ E.mb j = some b ∧ st1.get j = none ∧ isIn j S.lk = false))
    (he : (∀ u cs x, RdC E.hp E.Z u cs x → RdC hp' E.Z u cs x) → (∀ is cs, CRs E is cs → CRs (mvE E hp' S.nx o (st1.set S.nx e)) is cs) → EntR (mvE E hp' S.nx o (st1.set S.nx e)) S.nx e) :
    Mem (S.mem (st1.set S.nx e) (Nat.add S.nx 1)) ⟨h.nt, h.env, hp', nx', h.lk, h.df⟩ (mvE E hp' S.nx o (st1.set S.nx e)) ∧ Gr S h E (S.mem (st1.set S.nx e) (Nat.add S.nx 1)) ⟨h.nt, h.env, hp', nx', h.lk, h.df⟩ (mvE E hp' S.nx o (st1.set S.nx e)) := by
  have hget : ∀ j, (st1.set S.nx e).get j = if j = S.nx then some e else st1.get j := fun j => Tr.get_set _ _ _ _
  have hst : ∀ j e', (st1.set S.nx e).get j = some e' → (j = S.nx ∧ e' = e) ∨ (j ≠ S.nx ∧ st1.get j = some e' ∧ S.st.get j = some e') := by
    intro j e' hj
    rw [hget] at hj
    split at hj
    · cases hj; exact .inl ⟨by assumption, rfl⟩
    · exact .inr ⟨by assumption, hj, h1 j e' hj⟩
  have hmb : ∀ j, j ≠ S.nx → (mvE E hp' S.nx o (st1.set S.nx e)).mb j = E.mb j := by
    intro j hj
    show (bif Nat.beq j S.nx then o else E.mb j) = _
    rw [beq_false hj]; rfl
  have hmbn : (mvE E hp' S.nx o (st1.set S.nx e)).mb S.nx = o := by
    show (bif Nat.beq S.nx S.nx then o else E.mb S.nx) = _
    rw [show Nat.beq S.nx S.nx = true by simp]; rfl
  have hz : ∀ b, E.Z b → hp'.get b = E.hp.get b := by
    intro b hzb
    rw [M.hp]
    rcases hb b (M.z b hzb) with g | ⟨j, e', g1, g2, _⟩
    · exact g
    · exact absurd hzb (M.own j e' b g1 g2).1
  have f : Fm E.nx E (mvE E hp' S.nx o (st1.set S.nx e)) := ⟨fun _ hb => hb, hz, by rw [M.nx]; exact Nat.le_succ _, fun j hj => hmb j (by rw [M.nx] at hj; omega), fun j u xs hj hx => by
    rw [M.nx] at hj
    rcases hst j _ hx with ⟨g, _⟩ | ⟨_, _, g⟩
    · omega
    · exact ⟨xs, by rw [M.st]; exact g, rfl⟩⟩
  have hE := he (fun u cs x hr => hr.mono (fun _ hb => hb) hz) (fun is cs hr => CRs.fm f (.inl rfl) hr)
  constructor
  · refine ⟨rfl, rfl, rfl, fun j e' hj => ?_, fun j e' hj => ?_, fun i j e1 e2 b hi hj b1 b2 => ?_, fun j e' b hj hjb => ?_, fun b hzb => Nat.lt_of_lt_of_le (M.z b hzb) hn, hf, fun b hlk => ⟨Nat.lt_of_lt_of_le (M.lk b hlk).1 hn, fun j e' hj hjb => ?_⟩, fun j b hjb => ?_⟩
    · show j < S.nx + 1
      rcases hst j _ hj with ⟨g, _⟩ | ⟨_, _, g⟩
      · omega
      · have := M.lt j e' g; omega
    · rcases hst j _ hj with ⟨rfl, rfl⟩ | ⟨g0, g1, g2⟩
      · exact hE
      · refine (M.ent j e' g2).fm f (hmb j g0) (fun b hjb => ?_)
        show hp'.get b = E.hp.get b
        rw [M.hp]
        rcases hb b (M.own j e' b g2 hjb).2 with g | ⟨j', e'', k1, k2, k3⟩
        · exact g
        · have := M.inj j j' e' e'' b g2 k1 hjb k2
          subst this
          rw [k3] at g1; cases g1
    · have key : ∀ j e2, st1.get j = some e2 → S.st.get j = some e2 → E.mb j = some b → o = some b → False := by
        intro j e2 k0 k1 k2 k3
        rcases (ho b k3).2 with g | ⟨j', e'', q1, q2, q3, _⟩
        · have := (M.own j e2 b k1 k2).2; omega
        · have := M.inj j j' e2 e'' b k1 q1 k2 q2
          subst this
          rw [q3] at k0; cases k0
      rcases hst i _ hi with ⟨rfl, rfl⟩ | ⟨g0, g1, g2⟩
      · rcases hst j _ hj with ⟨rfl, rfl⟩ | ⟨k0, k1, k2⟩
        · rfl
        · rw [hmbn] at b1
          rw [hmb j k0] at b2
          exact (key j e2 k1 k2 b2 b1).elim
      · rcases hst j _ hj with ⟨rfl, rfl⟩ | ⟨k0, k1, k2⟩
        · rw [hmbn] at b2
          rw [hmb i g0] at b1
          exact (key i e1 g1 g2 b1 b2).elim
        · rw [hmb i g0] at b1
          rw [hmb j k0] at b2
          exact M.inj i j e1 e2 b g2 k2 b1 b2
    · rcases hst j _ hj with ⟨rfl, rfl⟩ | ⟨g0, g1, g2⟩
      · rw [hmbn] at hjb
        refine ⟨fun hzb => ?_, (ho b hjb).1⟩
        have hzb : E.Z b := hzb
        rcases (ho b hjb).2 with g | ⟨j', e'', q1, q2, q3, _⟩
        · have := M.z b hzb; omega
        · exact (M.own j' e'' b q1 q2).1 hzb
      · rw [hmb j g0] at hjb
        exact ⟨(M.own j e' b g2 hjb).1, Nat.lt_of_lt_of_le (M.own j e' b g2 hjb).2 hn⟩
    · rcases hst j _ hj with ⟨rfl, rfl⟩ | ⟨g0, g1, g2⟩
      · rw [hmbn] at hjb
        rcases (ho b hjb).2 with g | ⟨j', e'', q1, q2, q3, q4⟩
        · have := (M.lk b hlk).1; omega
        · have := (M.lk b hlk).2 j' e'' q1 q2
          rw [q4] at this; cases this
      · rw [hmb j g0] at hjb
        exact (M.lk b hlk).2 j e' g2 hjb
    · by_cases hj : j = S.nx
      · subst hj
        rw [hmbn] at hjb
        exact (ho b hjb).1
      · rw [hmb j hj] at hjb
        exact Nat.lt_of_lt_of_le (M.mbl j b hjb) hn
  · refine ⟨rfl, rfl, rfl, rfl, rfl, rfl, rfl, rfl, hn, Nat.le_succ _, fun _ hb => hb, fun b hzb => .inl hzb, fun b hlt how => ?_, fun b how => ?_, fun j hj => hmb j (by omega), fun j hj hc => ?_, fun j hj hd => ?_, fun j u xs hj hx => ?_, fun b j e' hlk hj hjb => ?_⟩
    · rcases hb b hlt with g | ⟨j', e'', k1, k2, k3⟩
      · exact g
      · exact absurd ⟨j', e'', k1, k2⟩ how
    · obtain ⟨j, e', hj, hjb⟩ := how
      rcases hst j _ hj with ⟨rfl, rfl⟩ | ⟨g0, g1, g2⟩
      · rw [hmbn] at hjb
        rcases (ho b hjb).2 with g | ⟨j', e'', q1, q2, q3, _⟩
        · exact .inr g
        · exact .inl ⟨j', e'', q1, q2⟩
      · rw [hmb j g0] at hjb
        exact .inl ⟨j, e', g2, hjb⟩
    · show (st1.set S.nx e).get j = _
      rw [hget, if_neg (by omega)]
      cases hq : st1.get j with
      | some e' => exact (h1 j e' hq).symm
      | none =>
        cases hs : S.st.get j with
        | none => rfl
        | some e' =>
          have := h2 j (by rw [hs]; exact fun h => by cases h) hq
          rw [hc] at this; cases this
    · show (st1.set S.nx e).get j = _
      rw [hget, if_neg (by omega)]
      cases hq : st1.get j with
      | some e' => have := h1 j e' hq; rw [hd] at this; cases this
      | none => rfl
    · rcases hst j _ hx with ⟨g, _⟩ | ⟨_, _, g⟩
      · omega
      · exact ⟨xs, g, rfl⟩
    · rcases hst j _ hj with ⟨rfl, rfl⟩ | ⟨g0, g1, g2⟩
      · rw [hmbn] at hjb
        rcases (ho b hjb).2 with g | ⟨j', e'', q1, q2, q3, q4⟩
        · have := (M.lk b hlk).1; omega
        · have := (M.lk b hlk).2 j' e'' q1 q2
          rw [q4] at this; cases this
      · rw [hmb j g0] at hjb
        exact ⟨e', g2, hjb⟩
def upE (E : En) (hp' : Tr Hm.Obj) (st : Tr Ent) : En := ⟨hp', E.Z, E.mb, st, E.nx⟩
/-- An entry is written. -/
theorem upd_rel (M : Mem S h E) {m b : Nat} {e0 e : Ent} {hp' : Tr Hm.Obj} (hm : S.st.get m = some e0) (hc : S.can m = true) (hb : E.mb m = some b)
    (hp : ∀ c, c ≠ b → hp'.get c = h.hp.get c)
    (hr : ∀ u xs, e = .row u xs → ∃ xs', e0 = .row u xs' ∧ xs'.length = xs.length)
    (he : (∀ u cs x, RdC E.hp E.Z u cs x → RdC hp' E.Z u cs x) → (∀ is cs, CRs E is cs → CRs (upE E hp' (S.st.set m e)) is cs) → EntR (upE E hp' (S.st.set m e)) m e) :
    Mem (S.upd m e) ⟨h.nt, h.env, hp', h.nx, h.lk, h.df⟩ (upE E hp' (S.st.set m e)) ∧ Gr S h E (S.upd m e) ⟨h.nt, h.env, hp', h.nx, h.lk, h.df⟩ (upE E hp' (S.st.set m e)) := by
  have hget : ∀ j, (S.st.set m e).get j = if j = m then some e else S.st.get j := fun j => Tr.get_set _ _ _ _
  have hst : ∀ j e', (S.st.set m e).get j = some e' → (j = m ∧ e' = e) ∨ (j ≠ m ∧ S.st.get j = some e') := by
    intro j e' hj
    rw [hget] at hj
    split at hj
    · cases hj; exact .inl ⟨by assumption, rfl⟩
    · exact .inr ⟨by assumption, hj⟩
  have hall : ∀ j e', (S.st.set m e).get j = some e' → ∃ e'', S.st.get j = some e'' := by
    intro j e' hj
    rcases hst j e' hj with ⟨rfl, _⟩ | ⟨_, g⟩
    · exact ⟨e0, hm⟩
    · exact ⟨e', g⟩
  have hz : ∀ c, E.Z c → hp'.get c = E.hp.get c := by
    intro c hzc
    rw [M.hp]
    refine hp c ?_
    rintro rfl
    exact (M.own m e0 c hm hb).1 hzc
  have f : Fm E.nx E (upE E hp' (S.st.set m e)) := ⟨fun _ hb => hb, hz, Nat.le_refl _, fun j hj => rfl, fun j u xs hj hx => by
    rcases hst j _ hx with ⟨rfl, g⟩ | ⟨_, g⟩
    · obtain ⟨xs', k1, k2⟩ := hr u xs g.symm
      exact ⟨xs', by rw [M.st, hm, k1], k2⟩
    · exact ⟨xs, by rw [M.st]; exact g, rfl⟩⟩
  have hE := he (fun u cs x hr => hr.mono (fun _ hb => hb) hz) (fun is cs hr => CRs.fm f (.inl rfl) hr)
  constructor
  · refine ⟨rfl, rfl, M.nx, fun j e' hj => ?_, fun j e' hj => ?_, fun i j e1 e2 c hi hj b1 b2 => ?_, fun j e' c hj hjb => ?_, M.z, fun c hc => ?_, fun c hlk => ⟨(M.lk c hlk).1, fun j e' hj hjb => ?_⟩, M.mbl⟩
    · obtain ⟨e'', g⟩ := hall j e' hj
      exact M.lt j e'' g
    · rcases hst j _ hj with ⟨rfl, rfl⟩ | ⟨g0, g2⟩
      · exact hE
      · refine (M.ent j e' g2).fm f rfl (fun c hjb => ?_)
        show hp'.get c = E.hp.get c
        rw [M.hp]
        refine hp c ?_
        rintro rfl
        exact g0 (M.inj j m e' e0 c g2 hm hjb hb)
    · obtain ⟨e1', g1⟩ := hall i e1 hi
      obtain ⟨e2', g2⟩ := hall j e2 hj
      exact M.inj i j e1' e2' c g1 g2 b1 b2
    · obtain ⟨e'', g⟩ := hall j e' hj
      exact M.own j e'' c g hjb
    · have hc : h.nx ≤ c := hc
      rw [hp c ?_]
      · exact M.fr c hc
      · rintro rfl
        have := (M.own m e0 c hm hb).2
        omega
    · obtain ⟨e'', g⟩ := hall j e' hj
      exact (M.lk c hlk).2 j e'' g hjb
  · refine ⟨rfl, rfl, rfl, rfl, rfl, rfl, rfl, rfl, Nat.le_refl _, Nat.le_refl _, fun _ hb => hb, fun b hzb => .inl hzb, fun c hlt how => ?_, fun c how => ?_, fun j hj => rfl, fun j hj hcj => ?_, fun j hj hd => ?_, fun j u xs hj hx => ?_, fun c j e' hlk hj hjb => ?_⟩
    · refine hp c ?_
      rintro rfl
      exact how ⟨m, e0, hm, hb⟩
    · obtain ⟨j, e', hj, hjb⟩ := how
      obtain ⟨e'', g⟩ := hall j e' hj
      exact .inl ⟨j, e'', g, hjb⟩
    · show (S.st.set m e).get j = _
      rw [hget, if_neg]
      rintro rfl
      rw [hc] at hcj; cases hcj
    · show (S.st.set m e).get j = _
      rw [hget, if_neg]
      · exact hd
      · rintro rfl
        rw [hm] at hd; cases hd
    · rcases hst j _ hx with ⟨rfl, g⟩ | ⟨_, g⟩
      · obtain ⟨xs', k1, k2⟩ := hr u xs g.symm
        exact ⟨xs', by rw [hm, k1], k2⟩
      · exact ⟨xs, g, rfl⟩
    · obtain ⟨e'', g⟩ := hall j e' hj
      exact ⟨e'', g, hjb⟩
/-- Blocks behind those that there were. -/
theorem more_rel (M : Mem S h E) {hp' : Tr Hm.Obj} {nx' : Nat} {Z' : Nat → Prop} (hb : ∀ b, b < h.nx → hp'.get b = h.hp.get b) (hn : h.nx ≤ nx') (hf : ∀ b, nx' ≤ b → hp'.get b = none) (hz : ∀ b, E.Z b → Z' b) (hz' : ∀ b, Z' b → E.Z b ∨ (h.nx ≤ b ∧ b < nx')) :
    Mem S ⟨h.nt, h.env, hp', nx', h.lk, h.df⟩ ⟨hp', Z', E.mb, E.st, E.nx⟩ ∧ Gr S h E S ⟨h.nt, h.env, hp', nx', h.lk, h.df⟩ ⟨hp', Z', E.mb, E.st, E.nx⟩ := by
  have hzh : ∀ b, E.Z b → hp'.get b = E.hp.get b := fun b hzb => by rw [M.hp]; exact hb b (M.z b hzb)
  have f : Fm E.nx E ⟨hp', Z', E.mb, E.st, E.nx⟩ := ⟨hz, hzh, Nat.le_refl _, fun _ _ => rfl, fun j u xs _ hx => ⟨xs, hx, rfl⟩⟩
  constructor
  · refine ⟨rfl, M.st, M.nx, M.lt, fun j e hj => ?_, M.inj, fun j e b hj hjb => ⟨fun hzb => ?_, Nat.lt_of_lt_of_le (M.own j e b hj hjb).2 hn⟩, fun b hzb => ?_, hf, fun b hlk => ⟨Nat.lt_of_lt_of_le (M.lk b hlk).1 hn, (M.lk b hlk).2⟩, fun j b hjb => Nat.lt_of_lt_of_le (M.mbl j b hjb) hn⟩
    · refine (M.ent j e hj).fm f rfl (fun b hjb => ?_)
      show hp'.get b = E.hp.get b
      rw [M.hp]
      exact hb b (M.own j e b hj hjb).2
    · rcases hz' b hzb with g | ⟨g, _⟩
      · exact (M.own j e b hj hjb).1 g
      · have := (M.own j e b hj hjb).2; omega
    · rcases hz' b hzb with g | ⟨_, g⟩
      · exact Nat.lt_of_lt_of_le (M.z b g) hn
      · exact g
  · refine ⟨rfl, rfl, rfl, rfl, rfl, rfl, rfl, rfl, hn, Nat.le_refl _, hz, fun b hzb => ?_, fun b hlt _ => hb b hlt, fun b how => .inl how, fun _ _ => rfl, fun _ _ _ => rfl, fun _ _ hd => hd, fun j u xs _ hx => ⟨xs, hx, rfl⟩, fun _ _ e _ h1 h2 => ⟨e, h1, h2⟩⟩
    rcases hz' b hzb with g | ⟨g, _⟩
    · exact .inl g
    · exact .inr (.inr g)
end
end Go.Ls
namespace Go.Ls
open Go Go.Hm
/-- What an operation gives that may change memory. -/
def Mv (S : SS) (h : St) (E : En) {R : Type} (K : SV → SS → Option R) (r : R) (o : Option Rs) : Prop := ∃ s v h' S' E', o = some (.val v h') ∧ Mem S' h' E' ∧ Gr S h E S' h' E' ∧ S'.env = S.env ∧ h'.env = h.env ∧ V E' s v ∧ K s S' = some r
def Ma (S : SS) (h : St) (E : En) {R : Type} (K : SS → Option R) (r : R) (o : Option Rs) : Prop := ∃ h' S' E', o = some (.act h') ∧ Mem S' h' E' ∧ Gr S h E S' h' E' ∧ S'.env = S.env ∧ h'.env = h.env ∧ K S' = some r
section
variable {E : En} {S : SS} {h : St} {cy : Cy} {R : Type} {r : R} {K : SV → SS → Option R}
theorem Pu.mv (M : Mem S h E) {o : Option Rs} (p : Pu E h (fun v => K v S) r o) : Mv S h E K r o := by
  obtain ⟨s, v, h1, h2, h3⟩ := p
  exact ⟨s, v, h, S, E, h1, M, Gr.refl, rfl, rfl, h2, h3⟩
theorem mb_new {hp' : Tr Hm.Obj} {n : Nat} {o : Option Nat} {st : Tr Ent} : (mvE E hp' n o st).mb n = o := by
  show (bif Nat.beq n n then o else E.mb n) = _
  rw [show Nat.beq n n = true by simp]; rfl
theorem new_fr (M : Mem S h E) {X : Hm.Obj} (b : Nat) (hb : h.nx + 1 ≤ b) : (h.hp.set h.nx X).get b = none := by
  rw [Tr.get_set, if_neg (by omega)]
  exact M.fr b (by omega)
theorem new_keep {X : Hm.Obj} (b : Nat) (hb : b < h.nx) : (h.hp.set h.nx X).get b = h.hp.get b := by
  rw [Tr.get_set, if_neg (by omega)]
theorem new_box (M : Mem S h E) {l : List SV} {c : List HV} {z : Nat} (hc : CRs E l c) : ∃ E', Mem (S.new (.box z l)) (h.new z c).2 E' ∧ Gr S h E (S.new (.box z l)) (h.new z c).2 E' ∧ E'.mb S.nx = some h.nx ∧ E'.nx = S.nx + 1 := by
  have := adopt_rel (st1 := S.st) (hp' := h.hp.set h.nx (.blk ⟨true, z, c.length, scatter .e 0 c⟩)) (nx' := h.nx + 1) (o := some h.nx) (e := .box z l) M (fun _ _ h => h) (fun j h1 h2 => absurd h2 h1) (fun b hb => .inl (new_keep b hb)) (Nat.le_succ _) (fun b hb => new_fr M b hb) (fun b hb => by cases hb; exact ⟨Nat.lt_succ_self _, .inl (Nat.le_refl _)⟩) (fun _ g2 => ⟨h.nx, _, c, mb_new, Tr.get_set_same _ _ _, rfl, rfl, by
    have := gather_new (T := (.e : Tr HV)) (w := true) (z := z) (n := c.length) (p := 0) (c := c) (by omega)
    exact this, g2 _ _ hc⟩)
  exact ⟨_, this.1, this.2, mb_new, rfl⟩
theorem new_row (M : Mem S h E) {e : U} {xs : List (D e)} {c : List HV} (hl : xs.length ≤ 140737488355328) (hn : xs.length * e.size ≤ c.length) (hc : ∀ i x, xs[i]? = some x → ∃ cs, gather ⟨true, e.size, c.length, scatter .e 0 c⟩ (i * e.size) e.size = some cs ∧ RdC E.hp E.Z e cs x) : ∃ E', Mem (S.new (.row e xs)) (h.new e.size c).2 E' ∧ Gr S h E (S.new (.row e xs)) (h.new e.size c).2 E' ∧ E'.mb S.nx = some h.nx ∧ E'.nx = S.nx + 1 ∧ E'.st.get S.nx = some (.row e xs) := by
  have := adopt_rel (st1 := S.st) (hp' := h.hp.set h.nx (.blk ⟨true, e.size, c.length, scatter .e 0 c⟩)) (nx' := h.nx + 1) (o := some h.nx) (e := .row e xs) M (fun _ _ h => h) (fun j h1 h2 => absurd h2 h1) (fun b hb => .inl (new_keep b hb)) (Nat.le_succ _) (fun b hb => new_fr M b hb) (fun b hb => by cases hb; exact ⟨Nat.lt_succ_self _, .inl (Nat.le_refl _)⟩) (fun g1 _ => ⟨hl, by
    rw [mb_new]
    exact ⟨_, Tr.get_set_same _ _ _, rfl, rfl, hn, fun i x hx => by
      obtain ⟨cs, k1, k2⟩ := hc i x hx
      exact ⟨cs, k1, g1 _ _ _ k2⟩⟩⟩)
  exact ⟨_, this.1, this.2, mb_new, rfl, Tr.get_set_same _ _ _⟩
theorem allocS_rel (M : Mem S h E) {t : Nat} {l : List SV} (hz : zeroI cy.cx t = some l) (hk : K (.box S.nx 0) (S.new (.box 0 l)) = some r) : Mv S h E K r (doAlloc cy.cx h t) := by
  unfold zeroI at hz
  split at hz
  · rename_i x hx
    split at hz
    · rename_i z hxz
      split at hz
      · rename_i c hc
        cases hz
        obtain ⟨E', g1, g2, g3, g4⟩ := new_box (z := 0) M (ofHVs_rel c)
        refine ⟨_, .ptr h.nx 0, _, _, E', ?_, g1, g2, rfl, rfl, V_box.2 ⟨by rw [g4]; exact Nat.lt_succ_self _, h.nx, g3, rfl⟩, hk⟩
        unfold doAlloc
        rw [hx]; simp only; rw [hxz]; simp only; rw [hc]
      · cases hz
    · cases hz
  · cases hz
theorem boxS_rel (M : Mem S h E) {s : SV} {v : HV} {l : List SV} (hl : s.items = some l) (hv : V E s v) (hk : K (.box S.nx 0) (S.new (.box 0 l)) = some r) : Mv S h E K r (doBox h v) := by
  obtain ⟨c, h1, h2, _, _⟩ := items_rel hl hv
  obtain ⟨E', g1, g2, g3, g4⟩ := new_box (z := 0) M h2
  refine ⟨_, .ptr h.nx 0, _, _, E', ?_, g1, g2, rfl, rfl, V_box.2 ⟨by rw [g4]; exact Nat.lt_succ_self _, h.nx, g3, rfl⟩, hk⟩
  unfold doBox
  rw [h1]
theorem repI_rel {l : List SV} {c : List HV} (hc : CRs E l c) : ∀ n, CRs E (repI l n) (repl c n)
  | 0 => by unfold repI repl CRs; rfl
  | n + 1 => by
    unfold repI repl
    exact CRs_app.2 ⟨c, repl c n, rfl, hc, repI_rel hc n⟩
theorem buildSliceS_rel (M : Mem S h E) {t n : Nat} {ps : List (Nat × SV)} {qs : List (Nat × HV)} (hk : buildSliceS cy S t n ps K = some r) (hp : PV E ps qs) : Mv S h E K r (doBuildSlice cy.cx h t n qs) := by
  unfold buildSliceS at hk
  split at hk
  · rename_i y hy
    rw [bif_eq] at hk
    split at hk
    · rename_i hcond
      split at hk
      · rename_i l hl
        obtain ⟨c, h1, h2⟩ := fillI_rel hl hp (repI_rel (ofHVs_rel y.zc) n)
        obtain ⟨E', g1, g2, g3, g4⟩ := new_box (z := y.z) M h2
        refine ⟨_, .sl h.nx 0 n, _, _, E', ?_, g1, g2, rfl, rfl, V_bsl.2 ⟨by rw [g4]; exact Nat.lt_succ_self _, h.nx, g3, rfl, ?_⟩, hk⟩
        · unfold doBuildSlice
          rw [hy]; simp only; rw [hcond, h1]; rfl
        · simp only [Bool.and_eq_true, Nat.ble_eq] at hcond
          exact hcond.1
      · cases hk
    · cases hk
  · cases hk
theorem elem_len {cx : Cx} {e : Nat} {y : El} (h : cx.elem e = some y) : y.zc.length = y.z ∧ cx.size e = some y.z ∧ 1 ≤ y.by_ := by
  unfold Cx.elem at h
  split at h
  · rename_i x hx
    split at h
    · split at h
      · rw [bif_eq] at h
        split at h
        · rename_i hc
          simp only [Bool.and_eq_true, Nat.ble_eq] at hc
          cases h
          exact ⟨Nat.eq_of_beq_eq_true hc.2.2, by unfold Cx.size; rw [hx], hc.2.1⟩
        · cases h
      · cases h
    · cases h
  · cases h
theorem sliceEl_len {cx : Cx} {t : Nat} {y : El} (h : cx.sliceEl t = some y) : y.zc.length = y.z ∧ 1 ≤ y.by_ := by
  unfold Cx.sliceEl at h
  split at h
  · split at h
    · have := elem_len h; exact ⟨this.1, this.2.2⟩
    · cases h
  · cases h
theorem elU_size {t : Nat} {y : El} {u : U} (hy : cy.cx.sliceEl t = some y) (hu : elU cy t = some u) : y.z = u.size := by
  unfold Cx.sliceEl at hy
  unfold elU at hu
  split at hy
  · rename_i x hx
    rw [hx] at hu
    simp only at hu
    split at hy
    · rename_i e he
      rw [he] at hu
      simp only at hu
      split at hu
      · rename_i u' _
        rw [(elem_len hy).2.1] at hu
        simp only at hu
        rw [bif_eq] at hu
        split at hu
        · rename_i hq
          cases hu
          exact (Nat.eq_of_beq_eq_true hq).symm
        · cases hu
      · cases hu
    · cases hy
  · cases hy
theorem rows_ofHVs : ∀ c : List HV, rowsT (ofHVs c) = []
  | [] => by unfold ofHVs; exact rowsT_nil
  | v :: c => by
    unfold ofHVs
    rw [rowsT_cons, rows_ofHVs c, List.append_nil]
    cases v <;> (unfold cell1 rows1; rfl)
theorem rep_RdA {α : Type} {Q : List HV → α → Prop} {c : List HV} {x : α} (h : Q c x) : ∀ n, RdA Q (repl c n) (List.replicate n x)
  | 0 => rfl
  | n + 1 => by
    rw [List.replicate_succ]
    exact ⟨c, repl c n, rfl, h, rep_RdA h n⟩
theorem repl_length (l : List HV) : ∀ k, (repl l k).length = k * l.length
  | 0 => by simp [repl]
  | k + 1 => by
    unfold repl
    rw [List.length_append, repl_length l k, Nat.succ_mul]; omega
theorem room_le {n b : Nat} (h : roomOk n b = true) (hb : 1 ≤ b) : n ≤ 140737488355328 := by
  unfold roomOk at h
  simp only [Nat.ble_eq] at h
  have h : n * b ≤ 4294967296 := h
  have : n * 1 ≤ n * b := Nat.mul_le_mul_left n hb
  omega
theorem makeSliceS_rel (M : Mem S h E) {t : Nat} {l c : SV} {vl vc : HV} (hk : makeSliceS cy S t l c K = some r) (hl : V E l vl) (hc : V E c vc) : Mv S h E K r (doMakeSlice cy.cx h t vl vc) := by
  unfold makeSliceS at hk
  split at hk
  · rename_i y u hy hu
    split at hk
    · rename_i l1 k1 m l2 k2 k
      rw [V_int] at hl hc
      subst hl; subst hc
      split at hk
      · rename_i x hx
        obtain ⟨h1, h2⟩ := chk_some hk
        unfold okMk at h1
        simp only [Bool.and_eq_true, decide_eq_true_eq] at h1
        obtain ⟨m', rfl⟩ : ∃ n : Nat, m = Int.ofNat n := ⟨_, natB h1.1⟩
        obtain ⟨k', rfl⟩ : ∃ n : Nat, k = Int.ofNat n := ⟨_, natB (by omega)⟩
        have hmk : m' ≤ k' := Int.ofNat_le.1 h1.2.1
        obtain ⟨hzl, hby⟩ := sliceEl_len hy
        have hz := elU_size hy hu
        obtain ⟨c', d', e1, g1, g2, _⟩ := rdI_rel (k := 0) (Q := E.Z) (E := E) (fun _ h => h) (fun m e hm => M.ent m e (by rw [← M.st]; exact hm)) (by rw [M.st]; exact hx) (ofHVs_rel y.zc) (by unfold Cov; exact rows_ofHVs _)
        unfold CRs at g2
        subst g2
        rw [List.append_nil] at e1
        subst e1
        have hlen : (repl y.zc k').length = k' * u.size := by rw [repl_length, hzl, hz]
        have hroom : k' ≤ 140737488355328 := room_le h1.2.2 hby
        have hbk : (List.replicate m' x).length = m' := by simp
        obtain ⟨E', q1, q2, q3, q4, q5⟩ := new_row (e := u) (xs := rep (Int.ofNat m') x) (c := repl y.zc k') M (by show (List.replicate m' x).length ≤ _; rw [hbk]; omega) (by show (List.replicate m' x).length * _ ≤ _; rw [hbk, hlen]; exact Nat.mul_le_mul_right _ hmk) (fun i w hw => by
          have hw : (List.replicate m' x)[i]? = some w := hw
          have him : i < m' := by
            have := (List.getElem?_eq_some_iff.1 hw).1
            simpa using this
          have hwk : (List.replicate k' x)[i]? = some w := by
            rw [List.getElem?_replicate, if_pos him] at hw
            rw [List.getElem?_replicate, if_pos (by omega)]; exact hw
          obtain ⟨c1, c2, c3, p1, p2, p3, p4⟩ := RdA_get (z := u.size) (fun _ _ h => h.len) (rep_RdA g1 k') hwk
          refine ⟨c2, ?_, p4⟩
          have hg := gather_new (T := (.e : Tr HV)) (w := true) (z := u.size) (n := (repl y.zc k').length) (p := 0) (c := repl y.zc k') (by omega)
          have := gather_sub hg p1 p2 p3
          rw [Nat.zero_add] at this
          exact this)
        refine ⟨_, .sl h.nx 0 m', _, _, E', ?_, q1, q2, rfl, rfl, V_row.2 ⟨by rw [q4]; exact Nat.lt_succ_self _, rfl, fun e xs hxs => ?_⟩, h2⟩
        · unfold doMakeSlice
          rw [hy]
          simp only [natOf]
          rw [show (Nat.ble m' k' && roomOk k' y.by_) = true by rw [Bool.and_eq_true]; exact ⟨by simpa using hmk, h1.2.2⟩]
          rw [hz]; rfl
        · rw [q5] at hxs
          cases hxs
          rw [q3]
          show _ = HV.sl h.nx 0 (List.replicate m' x).length
          rw [hbk]
      · cases hk
    · cases hk
  · cases hk
theorem write_of {b o : Nat} {y : Blk} {c : List HV} (hb : h.hp.get b = some (.blk y)) (ho : y.own = true) (hf : isIn b h.lk = false) (hn : o + c.length ≤ y.n) : h.write b o c = some ⟨h.nt, h.env, h.hp.set b (.blk ⟨true, y.z, y.n, scatter y.c o c⟩), h.nx, h.lk, h.df⟩ := by
  unfold St.write
  rw [blk_of hb]
  simp only
  rw [show (y.own && (h.free b && Nat.ble (Nat.add o c.length) y.n)) = true by
    rw [ho]
    unfold St.free
    rw [hf]
    simp only [Bool.true_and, Bool.not_false, Nat.ble_eq]
    exact hn]
  rfl
theorem not_lk (M : Mem S h E) {m b : Nat} {e : Ent} (hm : S.st.get m = some e) (hb : E.mb m = some b) (hl : isIn m S.lk = false) : isIn b h.lk = false := by
  cases hq : isIn b h.lk with
  | false => rfl
  | true => rw [(M.lk b hq).2 m e hm hb] at hl; cases hl
theorem canW_some {m : Nat} (hc : S.canW m = true) : S.can m = true ∧ isIn m S.lk = false := by
  unfold SS.canW at hc
  simp only [Bool.and_eq_true] at hc
  exact ⟨hc.1, by simpa using hc.2⟩
theorem rows_put {is js ks : List SV} {o z : Nat} (hp : putI is o z js = some ks) (m : Nat) (hm : m ∈ rowsT ks) : m ∈ rowsT is ∨ m ∈ rowsT js := by
  unfold putI at hp
  split at hp
  · rename_i a b h1
    split at hp
    · rename_i c d h2
      cases hp
      rw [rowsT_app, rowsT_app] at hm
      rw [rows_cut h1, rows_cut h2]
      simp only [List.mem_append] at hm ⊢
      rcases hm with hm | hm | hm
      · exact .inl (.inl hm)
      · exact .inr hm
      · exact .inl (.inr (.inr hm))
    · cases hp
  · cases hp
theorem storeS_rel (M : Mem S h E) {t : Nat} {a s : SV} {va v : HV} {K : SS → Option R} (hk : storeS cy S t a s K = some r) (ha : V E a va) (hv : V E s v) : Ma S h E K r (doStore cy.cx h t va v) := by
  unfold storeS at hk
  split at hk
  · rename_i x hx
    split at hk
    · rename_i c hc
      obtain ⟨vc, c1, c2, _, _⟩ := items_rel hc hv
      rw [bif_eq] at hk
      split at hk
      · rename_i hw
        have hw := Nat.eq_of_beq_eq_true hw
        have hlen : vc.length = x.size := by rw [c2.len, hw]
        have hd : ∀ b o h', h.write b o vc = some h' → doStore cy.cx h t (.ptr b o) v = some (.act h') := by
          intro b o h' hwr
          unfold doStore
          simp only
          rw [hx, c1]
          simp only
          rw [show Nat.beq vc.length x.size = true by simp [hlen], hwr]
          rfl
        split at hk
        · rename_i m o
          rw [V_box] at ha
          obtain ⟨_, b, hb, rfl⟩ := ha
          split at hk
          · rename_i z is hm
            rw [bif_eq] at hk
            split at hk
            · rename_i hcan
              obtain ⟨hcan, hlk⟩ := canW_some hcan
              split at hk
              · rename_i is' hput
                obtain ⟨b', y, cs, p1, p2, p3, p4, p5, p6⟩ := M.ent m _ hm
                rw [hb] at p1; cases p1
                obtain ⟨d1, d2, d3, rfl, w1, w2, w3⟩ := putI_rel hput p6 c2
                have hn := gather_len p5
                simp only [List.length_append] at hn
                have p2' : h.hp.get b = some (.blk y) := by rw [← M.hp]; exact p2
                have := upd_rel (b := b) (e := .box z is') (hp' := h.hp.set b (.blk ⟨true, y.z, y.n, scatter y.c o vc⟩)) M hm hcan hb (fun c hc => Tr.get_set_ne _ _ hc) (fun u xs he => by cases he) (fun _ g2 => ⟨b, _, d1 ++ (vc ++ d3), hb, Tr.get_set_same _ _ _, rfl, p4, by
                  have := gather_in (w := true) (z := y.z) (n := y.n) (c := vc) p5 (by rw [w2, hlen]) (Nat.le_refl _)
                  rw [Nat.zero_add, w1] at this
                  exact this, g2 _ _ w3⟩)
                exact ⟨_, _, _, hd b o _ (write_of p2' p3 (not_lk M hm hb hlk) (by omega)), this.1, this.2, rfl, rfl, hk⟩
              · cases hk
            · cases hk
          · cases hk
        · rename_i m i o
          split at hk
          · rename_i e xs hm
            split at hk
            · rename_i L hL
              rw [bif_eq] at hk
              split at hk
              · rename_i hcan
                simp only [Bool.and_eq_true] at hcan
                obtain ⟨hcan, hmL⟩ := hcan
                have hmL : isIn m L = false := by simpa using hmL
                obtain ⟨hcan, hlk⟩ := canW_some hcan
                split at hk
                · rename_i S1 hS1
                  obtain ⟨E1, M1, g1, e1, e2, e3, e4, e5, e6⟩ := freeze_rel M hS1
                  obtain ⟨x0, hx0, hk2⟩ := bnd_some hk
                  clear hk
                  split at hk2
                  · rename_i is' hput
                    split at hk2
                    · rename_i w hrd
                      rw [V_ept] at ha
                      obtain ⟨b, j, hb, rfl, hj, rfl⟩ := ha.2.2 e xs (by rw [M.st]; exact hm)
                      obtain ⟨n, hn, hxn⟩ := atL_some hx0
                      cases hn
                      obtain ⟨hl1, hr⟩ := M.ent m _ hm
                      unfold RowR at hr
                      rw [hb] at hr
                      obtain ⟨y, p1, p2, p3, p4, p5⟩ := hr
                      obtain ⟨cs, q1, q2⟩ := p5 j x0 hxn
                      obtain ⟨d1, d2, d3, rfl, w1, w2, w3⟩ := putI_rel hput (CRs_one.2 (CR_mk.2 q2)) c2
                      have hcov : Cov E E1.Z 3 is' := (rowsK_cov (E := E) (Q := E1.Z) (by rw [M.st]; exact hL) (fun m' e' b' hm' he' hb' => e3 m' e' b' (isIn_iff.2 hm') (by rw [← M.st]; exact he') hb')).sub (fun m' hm' => by
                        rcases rows_put hput m' hm' with g | g
                        · rw [rowsT_cons, rows_mk, rowsT_nil] at g; cases g
                        · exact g)
                      obtain ⟨c', d', e7, r1, r2, _⟩ := rdI_rel (E := E) (Q := E1.Z) g1.z (fun m e hm => M.ent m e (by rw [← M.st]; exact hm)) (by rw [M.st]; exact hrd) w3 hcov
                      unfold CRs at r2
                      subst r2
                      rw [List.append_nil] at e7
                      subst e7
                      have hE1 : E1.hp = E.hp := by rw [M1.hp, M.hp]
                      have hm1 : S1.st.get m = some (.row e xs) := by rw [e4 m hmL]; exact hm
                      have hb1 : E1.mb m = some b := by rw [e2]; exact hb
                      have p1' : h.hp.get b = some (.blk y) := by rw [← M.hp]; exact p1
                      have hcan1 : S1.can m = true := by unfold SS.can at *; rw [g1.base, g1.wr]; exact hcan
                      have hlen2 := gather_len q1
                      simp only [List.length_append] at hlen2
                      have hjz := mul_step (z := e.size) hj
                      have := upd_rel (b := b) (e := .row e (setL xs (Int.ofNat j) w)) (hp' := h.hp.set b (.blk ⟨true, y.z, y.n, scatter y.c (j * e.size + o) vc⟩)) M1 hm1 hcan1 hb1 (fun c hc => Tr.get_set_ne _ _ hc) (fun u xs' he => by
                        cases he
                        exact ⟨xs, rfl, by show xs.length = (xs.set _ _).length; simp⟩) (fun k1 _ => ⟨by show (xs.set _ _).length ≤ _; simpa using hl1, by
                        show RowR _ (E1.mb m) e (xs.set j w)
                        rw [hb1]
                        refine ⟨_, Tr.get_set_same _ _ _, rfl, p3, by simpa using p4, fun i x' hx' => ?_⟩
                        have h0 : ∀ i x, xs[i]? = some x → ∃ cs, gather y (i * e.size) e.size = some cs ∧ RdC (h.hp.set b (.blk ⟨true, y.z, y.n, scatter y.c (j * e.size + o) vc⟩)) E1.Z e cs x := by
                          intro i x hx
                          obtain ⟨cs, k2, k3⟩ := p5 i x hx
                          exact ⟨cs, k2, k1 _ _ _ (k3.mono g1.z (fun _ _ => by rw [hE1]))⟩
                        exact row_set (w := true) (z' := y.z) (n := y.n) h0 hxn q1 w1 (by rw [w2, hlen]) (k1 _ _ _ (by rw [hE1]; exact r1)) (Nat.le_refl _) i x' hx'⟩)
                      refine ⟨_, _, _, hd b _ _ (write_of p1' p2 (not_lk M hm hb hlk) (by omega)), this.1, g1.trans this.2, ?_, rfl, hk2⟩
                      show S1.env = _
                      exact e1
                    · cases hk2
                  · cases hk2
                · cases hk
              · cases hk
            · cases hk
          · cases hk
        · cases hk
      · cases hk
    · cases hk
  · cases hk
end
end Go.Ls
namespace Go.Ls
open Go Go.Hm
theorem RdA_flat {α : Type} {R Q : List HV → α → Prop} (h : ∀ c x, R c x → Q c x) {cs : List HV} {xs : List α} : RdA R cs xs → RdA Q cs xs := RdA_mono h
theorem RdC.flat {hp hp' : Tr Hm.Obj} {Z Z' : Nat → Prop} : ∀ {u : U} {cs : List HV} {x : D u}, u.flat = true → RdC hp Z u cs x → RdC hp' Z' u cs x
  | .int _, _, _, _, h => h
  | .bool, _, _, _, h => h
  | .str, _, _, _, h => h
  | .un, _, _, _, h => h
  | .pair a b, _, _, hf, ⟨c, d, e, h1, h2⟩ => by
    have hf : (a.flat && b.flat) = true := hf
    rw [Bool.and_eq_true] at hf
    exact ⟨c, d, e, h1.flat hf.1, h2.flat hf.2⟩
  | .arr n e, _, _, hf, ⟨h1, h2⟩ => ⟨h1, RdA_mono (fun _ _ h => h.flat hf) h2⟩
  | .list e, _, _, hf, _ => by cases hf
theorem RdV.flat {hp hp' : Tr Hm.Obj} {Z Z' : Nat → Prop} {u : U} {v : HV} {x : D u} (hf : u.flat = true) (h : RdV hp Z u v x) : RdV hp' Z' u v x := by
  unfold RdV at *
  cases hu : u.ag with
  | true => rw [hu] at h; obtain ⟨cs, h1, h2⟩ := h; exact ⟨cs, h1, h2.flat hf⟩
  | false => rw [hu] at h; exact RdC.flat hf h
theorem RdArgs.flat {hp hp' : Tr Hm.Obj} {Z Z' : Nat → Prop} : ∀ {u : U} {l : List HV} {x : D u}, u.flat = true → RdArgs hp Z u l x → RdArgs hp' Z' u l x
  | .un, l, x, _, h => h
  | .pair a b, l, x, hf, ⟨v, r, e, h1, h2⟩ => by
    have hf : (a.flat && b.flat) = true := hf
    rw [Bool.and_eq_true] at hf
    exact ⟨v, r, e, h1.flat hf.1, RdArgs.flat hf.2 h2⟩
  | .int _, _, _, _, h => h.elim
  | .bool, _, _, _, h => h.elim
  | .str, _, _, _, h => h.elim
  | .list _, _, _, _, h => h.elim
  | .arr _ _, _, _, _, h => h.elim
theorem RdArgs.mono {hp hp' : Tr Hm.Obj} {Z Z' : Nat → Prop} (hz : ∀ b, Z b → Z' b) (hh : ∀ b, Z b → hp'.get b = hp.get b) : ∀ {u : U} {l : List HV} {x : D u}, RdArgs hp Z u l x → RdArgs hp' Z' u l x
  | .un, l, x, h => h
  | .pair a b, l, x, ⟨v, r, e, h1, h2⟩ => ⟨v, r, e, h1.mono hz hh, RdArgs.mono hz hh h2⟩
  | .int _, _, _, h => h.elim
  | .bool, _, _, h => h.elim
  | .str, _, _, h => h.elim
  | .list _, _, _, h => h.elim
  | .arr _ _, _, _, h => h.elim
section
variable {E : En} {S : SS} {h : St} {cy : Cy} {R : Type} {r : R} {K : SV → SS → Option R}
/-- The cells behind a list. -/
theorem src_of {α : Type} {hp : Tr Hm.Obj} {Z : Nat → Prop} {z : Nat} {Q : List HV → α → Prop} {v : HV} {xs : List α} (hr : RdL hp Z z Q v xs) (hQ : ∀ c x, Q c x → c.length = z) (hh : hp = h.hp) : ∃ cs, srcOf h z v = some (cs, xs.length) ∧ RdA Q cs xs ∧ ∀ s, v ≠ .str s := by
  rcases hr with ⟨rfl, rfl | rfl | rfl⟩ | ⟨b, o, y, h1, h2, h3, h4, h5, h6⟩
  · exact ⟨[], rfl, rfl, fun s hs => by cases hs⟩
  · exact ⟨[], rfl, rfl, fun s hs => by cases hs⟩
  · exact ⟨[], rfl, rfl, fun s hs => by cases hs⟩
  · obtain ⟨cs, g1, g2⟩ := RdA_of hQ h6
    have hb : h.blk b = some y := blk_of (by rw [← hh]; exact h3)
    obtain ⟨rfl, _⟩ := h1
    refine ⟨cs, ?_, g2, fun s hs => by cases hs⟩
    unfold srcOf
    simp only [cellsOf, lenOf]
    rw [hb]; simp only
    rw [show Nat.mul xs.length z = xs.length * z from rfl, g1]
theorem isSrcS_rel {cx : Cx} {t : Nat} {x : SV} {v : HV} (hs : isSrcS cx t x = true) (hv : ∀ s, v ≠ .str s) : isSrc cx t v = true := by
  obtain ⟨u, h1, h2⟩ := isSh_some hs
  unfold isSrc
  rw [h1]
  simp only
  cases hsh : u.sh with
  | slice e => cases v <;> first | rfl | exact absurd rfl (hv _)
  | _ => rw [hsh] at h2; cases x <;> simp at h2
/-- A row that may be made longer. -/
inductive OwnR (S S2 : SS) (h : St) (E : En) (u : U) : List (D u) → HV → Prop
  | nil (v : HV) (hv : v = .nils ∨ v = .esl) : OwnR S S2 h E u [] v
  | blk (m b : Nat) (e : Ent) (y : Blk) (xs : List (D u)) (h1 : S.st.get m = some e) (h2 : E.mb m = some b) (h3 : S2.st.get m = none) (h4 : isIn m S.lk = false) (h5 : h.hp.get b = some (.blk y)) (h6 : y.own = true) (h7 : y.z = u.size) (h8 : xs.length * u.size ≤ y.n) (h9 : ∀ i x, xs[i]? = some x → ∃ cs, gather y (i * u.size) u.size = some cs ∧ RdC E.hp E.Z u cs x) : OwnR S S2 h E u xs (.sl b 0 xs.length)
theorem ownOf_rel (M : Mem S h E) {u : U} {a : SV} {va : HV} {old : List (D u)} {S2 : SS} (ho : ownOf S u a = some (old, S2)) (ha : V E a va) : OwnR S S2 h E u old va ∧ S2 = S.mem S2.st S.nx ∧ (∀ j e, S2.st.get j = some e → S.st.get j = some e) ∧ (∀ j, S.st.get j ≠ none → S2.st.get j = none → S.can j = true) := by
  unfold ownOf at ho
  split at ho
  · cases ho
    exact ⟨.nil _ (.inl (V_nils.1 ha)), rfl, fun _ _ h => h, fun _ h1 h2 => absurd h2 h1⟩
  · cases ho
    exact ⟨.nil _ (V_esl.1 ha), rfl, fun _ _ h => h, fun _ h1 h2 => absurd h2 h1⟩
  · rename_i m
    split at ho
    · rename_i e xs hm
      split at ho
      · rename_i ys hys
        rw [bif_eq] at ho
        split at ho
        · rename_i hc
          cases ho
          obtain ⟨hcan, hlk⟩ := canW_some hc
          have hget : ∀ j, (S.kill m).st.get j = if j = m then none else S.st.get j := fun j => Tr.get_del _ _ _
          obtain ⟨e0, e1⟩ := castD_some hys
          cases e0
          have e1 : xs = old := e1
          subst e1
          rw [V_row] at ha
          have hv := ha.2.2 u xs (by rw [M.st]; exact hm)
          obtain ⟨hl, hr⟩ := M.ent m _ hm
          refine ⟨?_, rfl, fun j e hj => ?_, fun j h1 h2 => ?_⟩
          · unfold RowV at hv
            unfold RowR at hr
            cases hb : E.mb m with
            | none =>
              rw [hb] at hv hr
              subst hr
              exact .nil _ hv.2
            | some b =>
              rw [hb] at hv hr
              subst hv
              obtain ⟨y, p1, p2, p3, p4, p5⟩ := hr
              exact .blk m b _ y xs hm hb (by rw [hget, if_pos rfl]) hlk (by rw [← M.hp]; exact p1) p2 p3 p4 p5
          · rw [hget] at hj
            split at hj
            · cases hj
            · exact hj
          · rw [hget] at h2
            split at h2
            · subst_vars; exact hcan
            · exact absurd h2 h1
        · cases ho
      · cases ho
    · cases ho
  · cases ho
theorem appendTo_rel (M : Mem S h E) {u : U} {z : Nat} {S2 : SS} {va : HV} {old new : List (D u)} {c : List HV} (ho : OwnR S S2 h E u old va) (e0 : S2 = S.mem S2.st S.nx) (s1 : ∀ j e, S2.st.get j = some e → S.st.get j = some e) (s2 : ∀ j, S.st.get j ≠ none → S2.st.get j = none → S.can j = true) (hz : z = u.size) (hc : RdA (RdC E.hp E.Z u) c new) (hlen : (old ++ new).length ≤ 140737488355328) (hk : K (.row S2.nx) (S2.new (.row u (appL old new))) = some r) : Mv S h E K r (appendTo h z va c new.length) := by
  subst hz
  have hcl := RdA_len (z := u.size) (fun _ _ h => h.len) hc
  have hS2 : S2.new (.row u (appL old new)) = S.mem (S2.st.set S.nx (.row u (appL old new))) (Nat.add S.nx 1) := by rw [e0]; rfl
  have hn2 : S2.nx = S.nx := by rw [e0]; rfl
  rw [hS2, hn2] at hk
  have fin : ∀ (hp' : Tr Hm.Obj) (nx' : Nat) (o : Option Nat) (v : HV),
      (∀ b, b < h.nx → hp'.get b = h.hp.get b ∨ ∃ j e, S.st.get j = some e ∧ E.mb j = some b ∧ S2.st.get j = none) → h.nx ≤ nx' → (∀ b, nx' ≤ b → hp'.get b = none) →
      (∀ b, o = some b → b < nx' ∧ (h.nx ≤ b ∨ ∃ j e, S.st.get j = some e ∧ E.mb j = some b ∧ S2.st.get j = none ∧ isIn j S.lk = false)) →
      ((∀ u cs x, RdC E.hp E.Z u cs x → RdC hp' E.Z u cs x) → RowR ⟨hp', E.Z, E.mb, E.st, E.nx⟩ o u (old ++ new)) →
      RowV o (old ++ new).length v → bcells v = some [v] →
      appendTo h u.size va c new.length = some (.val v ⟨h.nt, h.env, hp', nx', h.lk, h.df⟩) → Mv S h E K r (appendTo h u.size va c new.length) := by
    intro hp' nx' o v b1 b2 b3 b4 b5 b6 b7 b8
    have := adopt_rel (st1 := S2.st) (hp' := hp') (nx' := nx') (o := o) (e := .row u (appL old new)) M s1 s2 b1 b2 b3 b4 (fun g1 _ => ⟨hlen, by
      rw [mb_new]
      exact b5 g1⟩)
    refine ⟨_, v, _, _, _, b8, this.1, this.2, rfl, rfl, V_row.2 ⟨?_, b7, fun e xs hxs => ?_⟩, hk⟩
    · exact Nat.lt_succ_self _
    · have hxs : (S2.st.set S.nx (.row u (appL old new))).get S.nx = some (.row e xs) := hxs
      rw [Tr.get_set_same] at hxs
      cases hxs
      rw [mb_new]
      exact b6
  cases ho with
  | nil v hv =>
    by_cases hk0 : new.length = 0
    · have hnil : new = [] := List.length_eq_zero_iff.1 hk0
      subst hnil
      refine fin h.hp h.nx none va (fun b hb => .inl rfl) (Nat.le_refl _) M.fr (fun b hb => by cases hb) (fun _ => rfl) ⟨rfl, hv⟩ (by rcases hv with rfl | rfl <;> rfl) ?_
      rcases hv with rfl | rfl <;> rfl
    · have hk0' : Nat.beq new.length 0 = false := beq_false hk0
      refine fin (h.hp.set h.nx (.blk ⟨true, u.size, c.length, scatter .e 0 c⟩)) (h.nx + 1) (some h.nx) (.sl h.nx 0 new.length) (fun b hb => .inl (new_keep b hb)) (Nat.le_succ _) (new_fr M) (fun b hb => by cases hb; exact ⟨Nat.lt_succ_self _, .inl (Nat.le_refl _)⟩) (fun g1 => ?_) rfl rfl ?_
      · refine ⟨_, Tr.get_set_same _ _ _, rfl, rfl, by show ([] ++ new).length * _ ≤ c.length; rw [List.nil_append, hcl]; exact Nat.le_refl _, fun i x hx => ?_⟩
        rw [List.nil_append] at hx
        obtain ⟨c1, c2, c3, p1, p2, p3, p4⟩ := RdA_get (z := u.size) (fun _ _ h => h.len) hc hx
        refine ⟨c2, ?_, g1 _ _ _ p4⟩
        have hg := gather_new (T := (.e : Tr HV)) (w := true) (z := u.size) (n := c.length) (p := 0) (c := c) (by omega)
        have := gather_sub hg p1 p2 p3
        rw [Nat.zero_add] at this
        exact this
      · rcases hv with rfl | rfl
        · show (bif Nat.beq new.length 0 then _ else _) = _
          rw [hk0']; rfl
        · show (bif Nat.beq new.length 0 then _ else _) = _
          rw [hk0']; rfl
  | blk m b e y xs h1 h2 h3 h4 h5 h6 h7 h8 h9 =>
    have hf := not_lk M h1 h2 h4
    have hbn := (M.own m e b h1 h2).2
    have hcond : (y.own && (h.free b && Nat.beq y.z u.size)) = true := by
      rw [h6, h7]
      unfold St.free
      rw [hf]
      simp
    have happ : appendTo h u.size (.sl b 0 old.length) c new.length = (bif Nat.ble (Nat.add 0 (Nat.mul (Nat.add old.length new.length) u.size)) y.n then
        (match h.write b (Nat.add 0 (Nat.mul old.length u.size)) c with
          | some s' => some (.val (.sl b 0 (Nat.add old.length new.length)) s')
          | none => none)
      else bif Nat.ble (Nat.add 0 (Nat.mul old.length u.size)) y.n then
        some (.val (.sl h.nx 0 (Nat.add old.length new.length)) ⟨h.nt, h.env, (h.hp.del b).set h.nx (.blk ⟨true, u.size, Nat.mul (Nat.add old.length new.length) u.size, scatter y.c (Nat.mul old.length u.size) c⟩), Nat.add h.nx 1, h.lk, h.df⟩) else none) := by
      show (match h.blk b with | some x => _ | none => none) = _
      rw [blk_of h5]
      simp only
      rw [hcond]
      rfl
    have hmul : (old.length + new.length) * u.size = old.length * u.size + c.length := by rw [Nat.add_mul, hcl]
    by_cases hfit : old.length * u.size + c.length ≤ y.n
    · have hw := write_of (o := 0 + old.length * u.size) (c := c) h5 h6 hf (by omega)
      refine fin (h.hp.set b (.blk ⟨true, y.z, y.n, scatter y.c (0 + old.length * u.size) c⟩)) h.nx (some b) (.sl b 0 (old.length + new.length)) (fun d hd => ?_) (Nat.le_refl _) (fun d hd => ?_) (fun d hd => ?_) (fun g1 => ?_) (by show _ = HV.sl b 0 (old ++ new).length; rw [List.length_append]) rfl ?_
      · by_cases hdb : d = b
        · subst hdb; exact .inr ⟨m, e, h1, h2, h3⟩
        · exact .inl (Tr.get_set_ne _ _ hdb)
      · rw [Tr.get_set_ne _ _ (by omega)]
        exact M.fr d hd
      · cases hd
        exact ⟨hbn, .inr ⟨m, e, h1, h2, h3, h4⟩⟩
      · rw [Nat.zero_add] at *
        refine ⟨_, Tr.get_set_same _ _ _, rfl, h7, by rw [List.length_append, hmul]; exact hfit, row_app (w := true) (z' := y.z) (n := y.n) (fun _ _ h => h.len) (fun i x hx => ?_) (RdA_mono (fun _ _ h => g1 _ _ _ h) hc) (by rw [hmul]; exact hfit)⟩
        obtain ⟨cs, k1, k2⟩ := h9 i x hx
        exact ⟨cs, k1, g1 _ _ _ k2⟩
      · rw [happ]
        rw [show Nat.ble (Nat.add 0 (Nat.mul (Nat.add old.length new.length) u.size)) y.n = true by
          rw [Nat.ble_eq]
          show 0 + (old.length + new.length) * u.size ≤ y.n
          omega]
        show (match h.write b (0 + old.length * u.size) c with | some s' => _ | none => none) = _
        rw [hw]
        rfl
    · refine fin ((h.hp.del b).set h.nx (.blk ⟨true, u.size, (old.length + new.length) * u.size, scatter y.c (old.length * u.size) c⟩)) (h.nx + 1) (some h.nx) (.sl h.nx 0 (old.length + new.length)) (fun d hd => ?_) (Nat.le_succ _) (fun d hd => ?_) (fun d hd => by cases hd; exact ⟨Nat.lt_succ_self _, .inl (Nat.le_refl _)⟩) (fun g1 => ?_) (by show _ = HV.sl h.nx 0 (old ++ new).length; rw [List.length_append]) rfl ?_
      · by_cases hdb : d = b
        · subst hdb; exact .inr ⟨m, e, h1, h2, h3⟩
        · exact .inl (by rw [Tr.get_set_ne _ _ (by omega), Tr.get_del, if_neg hdb])
      · rw [Tr.get_set_ne _ _ (by omega), Tr.get_del, if_neg (by omega)]
        exact M.fr d (by omega)
      · refine ⟨_, Tr.get_set_same _ _ _, rfl, rfl, by rw [List.length_append]; exact Nat.le_refl _, row_app (w := true) (z' := u.size) (n := (old.length + new.length) * u.size) (fun _ _ h => h.len) (fun i x hx => ?_) (RdA_mono (fun _ _ h => g1 _ _ _ h) hc) (Nat.le_refl _)⟩
        obtain ⟨cs, k1, k2⟩ := h9 i x hx
        exact ⟨cs, k1, g1 _ _ _ k2⟩
      · rw [happ]
        rw [show Nat.ble (Nat.add 0 (Nat.mul (Nat.add old.length new.length) u.size)) y.n = false by
          cases hq : Nat.ble (Nat.add 0 (Nat.mul (Nat.add old.length new.length) u.size)) y.n with
          | false => rfl
          | true =>
            rw [Nat.ble_eq] at hq
            have hq : 0 + (old.length + new.length) * u.size ≤ y.n := hq
            omega]
        rw [show Nat.ble (Nat.add 0 (Nat.mul old.length u.size)) y.n = true by
          rw [Nat.ble_eq]
          show 0 + old.length * u.size ≤ y.n
          omega]
        rfl
theorem appendS_rel (M : Mem S h E) {t t2 : Nat} {a x : SV} {va vx : HV} (hk : appendS cy S t t2 a x K = some r) (ha : V E a va) (hx : V E x vx) : Mv S h E K r (doAppend cy.cx h t t2 va vx) := by
  unfold appendS at hk
  split at hk
  · rename_i y u hy hu
    rw [bif_eq] at hk
    split at hk
    · rename_i hsrc
      split at hk
      · rename_i new hnew
        split at hk
        · rename_i L hL
          split at hk
          · rename_i S1 hS1
            split at hk
            · rename_i old S2 hown
              obtain ⟨hroom, hk2⟩ := chk_some hk
              clear hk
              obtain ⟨E1, M1, g1, e1, e2, e3, e4, e5, e6⟩ := freeze_rel M hS1
              have hz := elU_size hy hu
              have hE1 : E1.hp = E.hp := by rw [M1.hp, M.hp]
              have hcov : u.flat = true ∨ Cov E E1.Z 3 [x] := by
                cases hf : u.flat with
                | true => exact .inl rfl
                | false =>
                  rw [hf] at e3
                  exact .inr (rowsK_cov (E := E) (Q := E1.Z) (by rw [M.st]; exact hL) (fun m' e' b' hm' he' hb' => e3 m' e' b' (isIn_iff.2 hm') (by rw [← M.st]; exact he') hb'))
              have hent : ∀ m e, E.st.get m = some e → EntR E m e := fun m e hm => M.ent m e (by rw [← M.st]; exact hm)
              obtain ⟨c, hsc, hRd, hns⟩ : ∃ c, srcOf h u.size vx = some (c, new.length) ∧ RdA (RdC E1.hp E1.Z u) c new ∧ ∀ s, vx ≠ .str s := by
                rcases hcov with hf | hcov
                · have hbig : RdV E.hp (fun _ => True) (.list u) vx new := rdV_rel (E := E) (Q := fun _ => True) (k := 3) (fun _ _ => trivial) hent (by rw [M.st]; exact hnew) hx (cov_all (fun _ _ _ _ _ => trivial) (by rw [M.st]; exact hL))
                  have hbig : RdC E.hp (fun _ => True) (.list u) [vx] new := hbig
                  unfold RdC at hbig
                  obtain ⟨v, hv, hbig⟩ := hbig
                  cases hv
                  obtain ⟨c, k1, k2, k3⟩ := src_of (h := h) hbig (fun _ _ h => h.len) M.hp
                  exact ⟨c, k1, RdA_mono (fun _ _ h => h.flat hf) k2, k3⟩
                · have hbig : RdV E.hp E1.Z (.list u) vx new := rdV_rel (E := E) (Q := E1.Z) (k := 3) g1.z hent (by rw [M.st]; exact hnew) hx hcov
                  have hbig : RdC E.hp E1.Z (.list u) [vx] new := hbig
                  unfold RdC at hbig
                  obtain ⟨v, hv, hbig⟩ := hbig
                  cases hv
                  obtain ⟨c, k1, k2, k3⟩ := src_of (h := h) hbig (fun _ _ h => h.len) M.hp
                  exact ⟨c, k1, by rw [hE1]; exact k2, k3⟩
              have ha1 : V E1 a va := ha.gr g1 M M1
              obtain ⟨o1, o2, o3, o4⟩ := ownOf_rel M1 hown ha1
              have hlo : lenOf va = some old.length := by
                cases o1 with
                | nil v hv => rcases hv with rfl | rfl <;> rfl
                | blk => rfl
              have hbig : (old ++ new).length ≤ 140737488355328 := by
                rw [List.length_append]
                exact room_le hroom (sliceEl_len hy).2
              obtain ⟨s, v, h', S', E', q1, q2, q3, q4, q5, q6, q7⟩ := appendTo_rel (z := y.z) M1 o1 o2 o3 o4 hz hRd hbig hk2
              refine ⟨s, v, h', S', E', ?_, q2, g1.trans q3, q4.trans e1, q5, q6, q7⟩
              unfold doAppend
              rw [hy]
              simp only
              rw [isSrcS_rel hsrc hns, hz, hsc, hlo]
              simp only
              rw [show roomOk (Nat.add old.length new.length) y.by_ = true from hroom, ← hz]
              exact q1
            · cases hk
          · cases hk
        · cases hk
      · cases hk
    · cases hk
  · cases hk
end
end Go.Ls
namespace Go.Ls
open Go Go.Hm
section
variable {E : En} {S : SS} {h : St} {cy : Cy} {R : Type} {r : R} {K : SV → SS → Option R}
/-- A bound that may be absent. -/
def VO (E : En) : Option SV → Option HV → Prop
  | none, o => o = none
  | some s, o => ∃ v, o = some v ∧ V E s v
theorem evOS_rel (hE : Env S h E) {x : Option Operand} {o : Option SV} (hx : evOS S x = some o) : ∃ q, evO h x = some q ∧ VO E o q := by
  unfold evOS at hx
  split at hx
  · cases hx; exact ⟨none, rfl, rfl⟩
  · split at hx
    · rename_i s hs
      cases hx
      obtain ⟨v, g1, g2⟩ := ev_rel hE hs
      exact ⟨some v, by unfold evO; simp only; rw [g1], v, rfl, g2⟩
    · cases hx
theorem boundS_rel {d : Nat} {o : Option SV} {q : Option HV} {x : Int} (hb : boundS (Int.ofNat d) o = some x) (hv : VO E o q) (h0 : 0 ≤ x) : ∃ p, optNat q = some p ∧ orNat d p = x.toNat := by
  unfold boundS at hb
  split at hb
  · cases hb
    have hv : q = none := hv
    subst hv
    exact ⟨none, rfl, rfl⟩
  · cases hb
    obtain ⟨v, rfl, hv⟩ := hv
    rw [V_int] at hv
    subst hv
    obtain ⟨n, rfl⟩ : ∃ n : Nat, x = Int.ofNat n := ⟨_, natB h0⟩
    exact ⟨some n, rfl, rfl⟩
  · cases hb
theorem isZ_rel {o : Option SV} {q : Option HV} (hz : isZ o = true) (hv : VO E o q) : ∃ p, optNat q = some p ∧ orNat 0 p = 0 ∧ (o.isSome = true → p = some 0) := by
  unfold isZ at hz
  split at hz
  · have hv : q = none := hv
    subst hv
    exact ⟨none, rfl, rfl, fun h => by cases h⟩
  · rename_i k x
    have hz : x = 0 := by simpa using hz
    subst hz
    obtain ⟨v, rfl, hv⟩ := hv
    rw [V_int] at hv
    subst hv
    exact ⟨some 0, rfl, rfl, fun _ => rfl⟩
  · cases hz
theorem okCut_some {lo hi n : Int} (h : okCut lo hi n = true) : 0 ≤ lo ∧ lo ≤ hi ∧ hi ≤ n := by
  unfold okCut at h
  simp only [Bool.and_eq_true, decide_eq_true_eq] at h
  exact ⟨h.1, h.2.1, h.2.2⟩
theorem cutL_get {α : Type} {xs : List α} {lo hi : Int} {i : Nat} {x : α} (h : (cutL xs lo hi)[i]? = some x) : xs[lo.toNat + i]? = some x ∧ lo.toNat + i < hi.toNat := by
  unfold cutL at h
  rw [List.getElem?_take] at h
  split at h
  · rw [List.getElem?_drop] at h
    exact ⟨h, by omega⟩
  · cases h
theorem cutL_len {α : Type} {xs : List α} {lo hi : Int} (h : okCut lo hi (lenL xs) = true) : (cutL xs lo hi).length = hi.toNat - lo.toNat := by
  obtain ⟨h1, h2, h3⟩ := okCut_some h
  unfold cutL
  unfold lenL at h3
  rw [List.length_take, List.length_drop]
  have : hi.toNat ≤ xs.length := by
    obtain ⟨n, rfl⟩ : ∃ n : Nat, hi = Int.ofNat n := ⟨_, natB (by omega)⟩
    exact Int.ofNat_le.1 h3
  omega
theorem slice_list (M : Mem S h E) {t e z : Nat} {x : TInf} {u : U} {xs : List (D u)} {va : HV} {lo hi : Option SV} {l hh : Int} {ql qh : Option HV} (hx : cy.cx.ti.get t = some x) (hsh : x.sh = .slice e) (hz : cy.cx.size e = some z) (huz : u.size = z) (hz1 : 1 ≤ z) (ha : V E (.val (.list u) xs) va) (hl : boundS 0 lo = some l) (hhi : boundS (lenL xs) hi = some hh) (hc : okCut l hh (lenL xs) = true) (vl : VO E lo ql) (vh : VO E hi qh) : ∃ v, doSlice cy.cx h t va ql qh none = some (.val v h) ∧ V E (.val (.list u) (cutL xs l hh)) v := by
  subst huz
  obtain ⟨c1, c2, c3⟩ := okCut_some hc
  obtain ⟨pl, e1, e2⟩ := boundS_rel (d := 0) hl vl c1
  obtain ⟨ph, e3, e4⟩ := boundS_rel (d := xs.length) hhi vh (by omega)
  have hlen := cutL_len hc
  have hle : l.toNat ≤ hh.toNat := by omega
  have hhl : hh.toNat ≤ xs.length := by
    obtain ⟨n, rfl⟩ : ∃ n : Nat, hh = Int.ofNat n := ⟨_, natB (by omega)⟩
    exact Int.ofNat_le.1 c3
  have hd : ∀ w, doSlice cy.cx h t w ql qh none = (match x.sh, w with
    | .slice e, .sl b o n => (match cy.cx.size e, h.blk b with
      | some z, some y => (match sliceSl y b o n z l.toNat ph none with
        | some v => some (.val v h)
        | none => none)
      | _, _ => none)
    | .slice e, .asl b o n => (match cy.cx.size e, (none : Option Nat) with
      | some z, none => (let h' := orNat n ph
        bif Nat.ble l.toNat h' && Nat.ble h' n then some (.val (Hm.part HV.asl b o z l.toNat h') h) else none)
      | _, _ => none)
    | .slice e, v => (match cy.cx.size e, sliceEmp v l.toNat ph none with
      | some _, some u => some (.val u h)
      | _, _ => none)
    | .arr m e, .ptr b o => (match cy.cx.size e, (none : Option Nat) with
      | some z, none => (let h' := orNat m ph
        bif Nat.ble m 1000000 && (Nat.ble l.toNat h' && Nat.ble h' m) then some (.val (Hm.part HV.asl b o z l.toNat h') h) else none)
      | _, _ => none)
    | .str, .str b => (match (none : Option Nat) with
      | none => (let h' := orNat b.size ph
        bif Nat.ble l.toNat h' && Nat.ble h' b.size then some (.val (.str (b.extract l.toNat h')) h) else none)
      | some _ => none)
    | _, _ => none) := by
    intro w
    unfold doSlice
    rw [hx, e1, e3, show optNat none = some none from rfl]
    simp only
    rw [e2]
    rfl
  rw [V_list] at ha
  rcases ha with ⟨h0, h1⟩ | ⟨b, o, y, ⟨h1, h1'⟩, h2, h3, h4, h5, h6⟩
  · subst h0
    have h00 : hh.toNat = 0 := by simpa using hhl
    have hl0 : l.toNat = 0 := by omega
    have hnil : cutL ([] : List (D u)) l hh = [] := by
      apply List.length_eq_zero_iff.1
      rw [hlen]; omega
    have e4' : orNat 0 ph = 0 := by rw [h00] at e4; exact e4
    have hemp : (Nat.beq l.toNat 0 && (Nat.beq (orNat 0 ph) 0 && Nat.beq (orNat 0 (none : Option Nat)) 0)) = true := by
      rw [hl0, e4']; rfl
    refine ⟨va, ?_, ?_⟩
    · rw [hd]
      rw [hsh]
      rcases h1 with rfl | rfl | rfl
      · show (match cy.cx.size e, sliceEmp HV.nils l.toNat ph none with | some _, some u => some (Rs.val u h) | _, _ => none) = _
        rw [hz]
        unfold sliceEmp
        rw [hemp]; rfl
      · show (match cy.cx.size e, sliceEmp HV.esl l.toNat ph none with | some _, some u => some (Rs.val u h) | _, _ => none) = _
        rw [hz]
        unfold sliceEmp
        rw [hemp]; rfl
      · show (match cy.cx.size e, sliceEmp HV.emp l.toNat ph none with | some _, some u => some (Rs.val u h) | _, _ => none) = _
        rw [hz]
        unfold sliceEmp
        rw [hemp]; rfl
    · rw [hnil, V_list]
      exact .inl ⟨rfl, h1⟩
  · subst h1
    have hmul : hh.toNat * u.size ≤ xs.length * u.size := Nat.mul_le_mul_right _ hhl
    have hcond : ((Nat.ble 1 u.size && Nat.ble hh.toNat 140737488355328) && (Nat.ble l.toNat hh.toNat && (Nat.beq y.z u.size && Nat.ble (Nat.add o (Nat.mul hh.toNat u.size)) y.n))) = true := by
      simp only [Bool.and_eq_true, Nat.ble_eq]
      refine ⟨⟨hz1, by omega⟩, hle, by rw [h1']; simp, ?_⟩
      show o + hh.toNat * u.size ≤ y.n
      omega
    have hsl : sliceSl y b o xs.length u.size l.toNat ph none = some (Hm.part HV.sl b o u.size l.toNat hh.toNat) := by
      unfold sliceSl
      simp only
      rw [e4, hcond]
      rfl
    have hb : h.blk b = some y := blk_of (by rw [← M.hp]; exact h3)
    refine ⟨Hm.part HV.sl b o u.size l.toNat hh.toNat, ?_, ?_⟩
    · rw [hd, hsh]
      simp only
      rw [hz, hb]
      simp only
      rw [hsl]
    · rw [V_list]
      unfold Hm.part
      rw [bif_eq]
      split
      · rename_i hq
        simp only [Bool.and_eq_true] at hq
        have := Nat.eq_of_beq_eq_true hq.1
        exact .inl ⟨List.length_eq_zero_iff.1 (by rw [hlen]; omega), .inr (.inr rfl)⟩
      · refine .inr ⟨b, o + l.toNat * u.size, y, ⟨by rw [hlen]; rfl, h1'⟩, h2, h3, ?_, by omega, fun i w hw => ?_⟩
        · rw [hlen]
          have : l.toNat * u.size + (hh.toNat - l.toNat) * u.size = hh.toNat * u.size := by rw [← Nat.add_mul]; congr 1; omega
          omega
        · obtain ⟨k1, k2⟩ := cutL_get hw
          obtain ⟨cs, k3, k4⟩ := h6 _ w k1
          refine ⟨cs, ?_, k4⟩
          rw [Nat.add_mul] at k3
          rw [Nat.add_assoc]; exact k3
theorem doSlice_emp {t e z : Nat} {x : TInf} {w u : HV} {ql qh qm : Option HV} {pl ph pm : Option Nat} (hx : cy.cx.ti.get t = some x) (hsh : x.sh = .slice e) (hz : cy.cx.size e = some z) (h1 : optNat ql = some pl) (h2 : optNat qh = some ph) (h3 : optNat qm = some pm) (hw : w = .nils ∨ w = .esl ∨ w = .emp) (hs : sliceEmp w (orNat 0 pl) ph pm = some u) : doSlice cy.cx h t w ql qh qm = some (.val u h) := by
  unfold doSlice
  rw [hx, h1, h2, h3]
  simp only
  rw [hsh]
  rcases hw with rfl | rfl | rfl
  · show (match cy.cx.size e, sliceEmp HV.nils (orNat 0 pl) ph pm with | some _, some u => some (Rs.val u h) | _, _ => none) = _
    rw [hz, hs]
  · show (match cy.cx.size e, sliceEmp HV.esl (orNat 0 pl) ph pm with | some _, some u => some (Rs.val u h) | _, _ => none) = _
    rw [hz, hs]
  · show (match cy.cx.size e, sliceEmp HV.emp (orNat 0 pl) ph pm with | some _, some u => some (Rs.val u h) | _, _ => none) = _
    rw [hz, hs]
theorem doSlice_sl {t e z b o n : Nat} {x : TInf} {y : Blk} {v : HV} {ql qh qm : Option HV} {pl ph pm : Option Nat} (hx : cy.cx.ti.get t = some x) (hsh : x.sh = .slice e) (hz : cy.cx.size e = some z) (h1 : optNat ql = some pl) (h2 : optNat qh = some ph) (h3 : optNat qm = some pm) (hb : h.blk b = some y) (hs : sliceSl y b o n z (orNat 0 pl) ph pm = some v) : doSlice cy.cx h t (.sl b o n) ql qh qm = some (.val v h) := by
  unfold doSlice
  rw [hx, h1, h2, h3]
  simp only
  rw [hsh]
  simp only
  rw [hz, hb]
  simp only
  rw [hs]
theorem emp_ok {w : HV} {pl ph : Option Nat} (hl : orNat 0 pl = 0) (hh : orNat 0 ph = 0) (hw : w = .nils ∨ w = .esl ∨ w = .emp) : sliceEmp w (orNat 0 pl) ph none = some w := by
  unfold sliceEmp
  rw [hl, hh]
  rcases hw with rfl | rfl | rfl <;> rfl
theorem emp_ok3 {w : HV} {pl : Option Nat} (hl : orNat 0 pl = 0) (hw : w = .nils ∨ w = .esl ∨ w = .emp) : ∃ u, sliceEmp w (orNat 0 pl) (some 0) (some 0) = some u ∧ (u = .nils ∨ u = .esl) ∧ (w = .nils → u = .nils) := by
  unfold sliceEmp
  rw [hl]
  rcases hw with rfl | rfl | rfl
  · exact ⟨_, rfl, .inl rfl, fun _ => rfl⟩
  · exact ⟨_, rfl, .inr rfl, fun h => by cases h⟩
  · exact ⟨_, rfl, .inr rfl, fun h => by cases h⟩
theorem sliceS_rel (M : Mem S h E) {t : Nat} {a : SV} {va : HV} {lo hi mx : Option SV} {ql qh qm : Option HV} (hk : sliceS cy S t a lo hi mx K = some r) (ha : V E a va) (vl : VO E lo ql) (vh : VO E hi qh) (vm : VO E mx qm) : Mv S h E K r (doSlice cy.cx h t va ql qh qm) := by
  have stay : ∀ s v, doSlice cy.cx h t va ql qh qm = some (.val v h) → V E s v → K s S = some r → Mv S h E K r (doSlice cy.cx h t va ql qh qm) := fun s v h1 h2 h3 => ⟨s, v, h, S, E, h1, M, Gr.refl, rfl, rfl, h2, h3⟩
  unfold sliceS at hk
  split at hk
  · rename_i x hx
    split at hk
    · rename_i e hsh
      split at hk
      · rename_i z hz
        split at hk
        · rename_i u xs
          have vm : qm = none := vm
          subst vm
          split at hk
          · rename_i l hh hl hhi
            rw [bif_eq] at hk
            split at hk
            · rename_i hc
              simp only [Bool.and_eq_true, Nat.ble_eq] at hc
              obtain ⟨h1, h2⟩ := chk_some hk
              obtain ⟨v, g1, g2⟩ := slice_list M hx hsh hz (Nat.eq_of_beq_eq_true hc.1) hc.2 ha hl hhi h1 vl vh
              exact stay _ v g1 g2 h2
            · cases hk
          · cases hk
        · rename_i u xs m
          rw [bif_eq] at hk
          split at hk
          · rename_i hc
            simp only [Bool.and_eq_true, Nat.ble_eq] at hc
            obtain ⟨pl, e1, e2, _⟩ := isZ_rel hc.1.1.1.2 vl
            obtain ⟨ph, e3, e4, e5⟩ := isZ_rel hc.1.1.2 vh
            obtain ⟨pm, e6, e7, e8⟩ := isZ_rel hc.1.2 vm
            have := e5 hc.2; subst this
            have := e8 rfl; subst this
            have huz := Nat.eq_of_beq_eq_true hc.1.1.1.1.1
            subst huz
            rw [V_list] at ha
            rcases ha with ⟨h0, h1⟩ | ⟨b, o, y, ⟨h1, h1'⟩, h2, h3, h4, h5, h6⟩
            · obtain ⟨w, g1, g2, _⟩ := emp_ok3 e2 h1
              exact stay _ w (doSlice_emp hx hsh hz e1 e3 e6 h1 g1) (V_esl.2 g2) hk
            · subst h1
              refine stay _ .esl (doSlice_sl hx hsh hz e1 e3 e6 (blk_of (by rw [← M.hp]; exact h3)) ?_) (V_esl.2 (.inr rfl)) hk
              unfold sliceSl
              simp only
              rw [e2]
              have c1 : ((Nat.ble 1 u.size && Nat.ble (orNat xs.length (some 0)) 140737488355328) && (Nat.ble 0 (orNat xs.length (some 0)) && (Nat.beq y.z u.size && Nat.ble (Nat.add o (Nat.mul (orNat xs.length (some 0)) u.size)) y.n))) = true := by
                simp only [Bool.and_eq_true, Nat.ble_eq]
                refine ⟨⟨hc.1.1.1.1.2, Nat.zero_le _⟩, Nat.zero_le _, by rw [h1']; simp, ?_⟩
                show o + 0 * u.size ≤ y.n
                omega
              rw [c1]
              have c2 : (Nat.ble (orNat xs.length (some 0)) 0 && Nat.ble (Nat.add o (Nat.mul 0 u.size)) y.n) = true := by
                simp only [Bool.and_eq_true, Nat.ble_eq]
                refine ⟨Nat.le_refl _, ?_⟩
                show o + 0 * u.size ≤ y.n
                omega
              show (bif (Nat.ble (orNat xs.length (some 0)) 0 && Nat.ble (Nat.add o (Nat.mul 0 u.size)) y.n) then _ else _) = _
              rw [c2]
              rfl
          · cases hk
        · have vm : qm = none := vm
          subst vm
          rw [bif_eq] at hk
          split at hk
          · rename_i hc
            simp only [Bool.and_eq_true] at hc
            obtain ⟨pl, e1, e2, _⟩ := isZ_rel hc.1 vl
            obtain ⟨ph, e3, e4, e5⟩ := isZ_rel hc.2 vh
            have ha' := V_nils.1 ha
            exact stay _ va (doSlice_emp hx hsh hz e1 e3 rfl (.inl ha') (emp_ok e2 e4 (.inl ha'))) ha hk
          · cases hk
        · rw [bif_eq] at hk
          split at hk
          · rename_i hc
            simp only [Bool.and_eq_true] at hc
            obtain ⟨pl, e1, e2, _⟩ := isZ_rel hc.1.1.1 vl
            obtain ⟨ph, e3, e4, e5⟩ := isZ_rel hc.1.1.2 vh
            obtain ⟨pm, e6, e7, e8⟩ := isZ_rel hc.1.2 vm
            have := e5 hc.2; subst this
            have := e8 rfl; subst this
            have ha' := V_nils.1 ha
            obtain ⟨w, g1, g2, g3⟩ := emp_ok3 e2 (.inl ha')
            exact stay _ w (doSlice_emp hx hsh hz e1 e3 e6 (.inl ha') g1) (V_nils.2 (g3 ha')) hk
          · cases hk
        · have vm : qm = none := vm
          subst vm
          rw [bif_eq] at hk
          split at hk
          · rename_i hc
            simp only [Bool.and_eq_true] at hc
            obtain ⟨pl, e1, e2, _⟩ := isZ_rel hc.1 vl
            obtain ⟨ph, e3, e4, e5⟩ := isZ_rel hc.2 vh
            have ha' : va = .nils ∨ va = .esl ∨ va = .emp := (V_esl.1 ha).imp_right .inl
            exact stay _ va (doSlice_emp hx hsh hz e1 e3 rfl ha' (emp_ok e2 e4 ha')) ha hk
          · cases hk
        · rw [bif_eq] at hk
          split at hk
          · rename_i hc
            simp only [Bool.and_eq_true] at hc
            obtain ⟨pl, e1, e2, _⟩ := isZ_rel hc.1.1.1 vl
            obtain ⟨ph, e3, e4, e5⟩ := isZ_rel hc.1.1.2 vh
            obtain ⟨pm, e6, e7, e8⟩ := isZ_rel hc.1.2 vm
            have := e5 hc.2; subst this
            have := e8 rfl; subst this
            have ha' : va = .nils ∨ va = .esl ∨ va = .emp := (V_esl.1 ha).imp_right .inl
            obtain ⟨w, g1, g2, g3⟩ := emp_ok3 e2 ha'
            exact stay _ w (doSlice_emp hx hsh hz e1 e3 e6 ha' g1) (V_esl.2 g2) hk
          · cases hk
        · rename_i m
          have vm : qm = none := vm
          subst vm
          split at hk
          · rename_i u xs hm
            split at hk
            · rename_i hh hhi
              rw [bif_eq] at hk
              split at hk
              · rename_i hc
                simp only [Bool.and_eq_true, Nat.ble_eq] at hc
                obtain ⟨hlo, huz, hz1, hcw⟩ := hc
                have huz := Nat.eq_of_beq_eq_true huz
                subst huz
                obtain ⟨hcan, hlk⟩ := canW_some hcw
                obtain ⟨h1, h2⟩ := chk_some hk
                obtain ⟨c1, c2, c3⟩ := okCut_some h1
                obtain ⟨pl, e1, e2, _⟩ := isZ_rel hlo vl
                obtain ⟨ph, e3, e4⟩ := boundS_rel (d := xs.length) hhi vh (by omega)
                have hlen := cutL_len h1
                have hlen : (cutL xs 0 hh).length = hh.toNat := by rw [hlen]; simp
                have hhl : hh.toNat ≤ xs.length := by
                  obtain ⟨n, rfl⟩ : ∃ n : Nat, hh = Int.ofNat n := ⟨_, natB (by omega)⟩
                  exact Int.ofNat_le.1 c3
                obtain ⟨hl1, hr⟩ := M.ent m _ hm
                rw [V_row] at ha
                have hv := ha.2.2 u xs (by rw [M.st]; exact hm)
                have hget : ∀ j, (S.kill m).st.get j = if j = m then none else S.st.get j := fun j => Tr.get_del _ _ _
                have hsub : ∀ (i : Nat) (w : D u), (cutL xs 0 hh)[i]? = some w → xs[i]? = some w := by
                  intro i w hw
                  have := (cutL_get hw).1
                  rw [show (0 : Int).toNat + i = i by simp] at this
                  exact this
                have := adopt_rel (st1 := (S.kill m).st) (hp' := h.hp) (nx' := h.nx) (o := E.mb m) (e := .row u (cutL xs 0 hh)) M (fun j e hj => by
                    rw [hget] at hj
                    split at hj
                    · cases hj
                    · exact hj) (fun j q1 q2 => by
                    rw [hget] at q2
                    split at q2
                    · subst_vars; exact hcan
                    · exact absurd q2 q1) (fun b hb => .inl rfl) (Nat.le_refl _) M.fr (fun b hb => ⟨(M.own m _ b hm hb).2, .inr ⟨m, _, hm, hb, by rw [hget, if_pos rfl], hlk⟩⟩) (fun g1 _ => ⟨by rw [hlen]; omega, by
                    rw [mb_new]
                    unfold RowR at hr ⊢
                    cases hb : E.mb m with
                    | none =>
                      rw [hb] at hr
                      subst hr
                      exact List.length_eq_zero_iff.1 (by rw [hlen]; simpa using hhl)
                    | some b =>
                      rw [hb] at hr
                      obtain ⟨y, p1, p2, p3, p4, p5⟩ := hr
                      refine ⟨y, by show h.hp.get b = _; rw [← M.hp]; exact p1, p2, p3, ?_, fun i w hw => ?_⟩
                      · rw [hlen]
                        have := Nat.mul_le_mul_right u.size hhl
                        omega
                      · obtain ⟨cs, k1, k2⟩ := p5 i w (hsub i w hw)
                        exact ⟨cs, k1, g1 _ _ _ k2⟩⟩)
                unfold RowV at hv
                cases hb : E.mb m with
                | none =>
                  rw [hb] at hv
                  have h0 : hh.toNat = 0 := by have := hv.1; omega
                  have hw : va = .nils ∨ va = .esl ∨ va = .emp := hv.2.imp_right .inl
                  have e4' : orNat 0 ph = 0 := by rw [hv.1] at e4; omega
                  refine ⟨_, va, _, _, _, doSlice_emp hx hsh hz e1 e3 rfl hw (emp_ok e2 e4' hw), this.1, this.2, rfl, rfl, V_row.2 ⟨Nat.lt_succ_self _, ha.2.1, fun e xs' hxs => ?_⟩, h2⟩
                  have hxs : ((S.kill m).st.set S.nx (.row u (cutL xs 0 hh))).get S.nx = some (.row e xs') := hxs
                  rw [Tr.get_set_same] at hxs
                  cases hxs
                  rw [mb_new, hb]
                  exact ⟨by rw [hlen, h0], hv.2⟩
                | some b =>
                  rw [hb] at hv
                  subst hv
                  unfold RowR at hr
                  rw [hb] at hr
                  obtain ⟨y, p1, p2, p3, p4, p5⟩ := hr
                  have hmul := Nat.mul_le_mul_right u.size hhl
                  refine ⟨_, .sl b 0 hh.toNat, _, _, _, doSlice_sl hx hsh hz e1 e3 rfl (blk_of (by rw [← M.hp]; exact p1)) ?_, this.1, this.2, rfl, rfl, V_row.2 ⟨Nat.lt_succ_self _, rfl, fun e xs' hxs => ?_⟩, h2⟩
                  · unfold sliceSl
                    simp only
                    rw [e2, e4]
                    have cc : ((Nat.ble 1 u.size && Nat.ble hh.toNat 140737488355328) && (Nat.ble 0 hh.toNat && (Nat.beq y.z u.size && Nat.ble (Nat.add 0 (Nat.mul hh.toNat u.size)) y.n))) = true := by
                      simp only [Bool.and_eq_true, Nat.ble_eq]
                      refine ⟨⟨hz1, by omega⟩, Nat.zero_le _, by rw [p3]; simp, ?_⟩
                      show 0 + hh.toNat * u.size ≤ y.n
                      omega
                    rw [cc]
                    show some (Hm.part HV.sl b 0 u.size 0 hh.toNat) = _
                    unfold Hm.part
                    rw [show (Nat.beq hh.toNat 0 && !Nat.beq 0 0) = false by simp]
                    show some (HV.sl b (0 + 0 * u.size) (hh.toNat - 0)) = _
                    rw [Nat.zero_mul, Nat.sub_zero]
                  · have hxs : ((S.kill m).st.set S.nx (.row u (cutL xs 0 hh))).get S.nx = some (.row e xs') := hxs
                    rw [Tr.get_set_same] at hxs
                    cases hxs
                    rw [mb_new, hb]
                    show _ = HV.sl b 0 (cutL xs 0 hh).length
                    rw [hlen]
              · cases hk
            · cases hk
          · cases hk
        · cases hk
      · cases hk
    · rename_i hsh
      split at hk
      · rename_i s
        have vm : qm = none := vm
        subst vm
        split at hk
        · rename_i l hh hl hhi
          obtain ⟨h1, h2⟩ := chk_some hk
          obtain ⟨c1, c2, c3⟩ := okCut_some h1
          obtain ⟨pl, e1, e2⟩ := boundS_rel (d := 0) hl vl c1
          obtain ⟨ph, e3, e4⟩ := boundS_rel (d := s.size) hhi vh (by omega)
          rw [V_str] at ha
          subst ha
          have hhl : hh.toNat ≤ s.size := by
            obtain ⟨n, rfl⟩ : ∃ n : Nat, hh = Int.ofNat n := ⟨_, natB (by omega)⟩
            exact Int.ofNat_le.1 c3
          refine stay _ (.str (s.extract l.toNat hh.toNat)) ?_ (V_str.2 rfl) h2
          unfold doSlice
          rw [hx, e1, e3, show optNat none = some none from rfl]
          simp only
          rw [hsh]
          simp only
          rw [e2, e4]
          rw [show (Nat.ble l.toNat hh.toNat && Nat.ble hh.toNat s.size) = true by
            simp only [Bool.and_eq_true, Nat.ble_eq]
            exact ⟨by omega, hhl⟩]
          rfl
        · cases hk
      · cases hk
    · cases hk
  · cases hk
end
end Go.Ls
namespace Go.Ls
open Go Go.Hm
/-- A function does what is said of it. -/
def COk (cx : Cx) (f : FuncId) (c : Con) : Prop := ∀ (h : St) (Z : Nat → Prop) (args : List HV) (x : D c.a) (y : D c.r), (∀ b, h.nx ≤ b → h.hp.get b = none) → (∀ b, isIn b h.lk = true → b < h.nx) → (∀ b, Z b → b < h.nx) → RdArgs h.hp Z c.a args x → c.F x = some y →
  ∃ l hp' nx' Z', (∃ k0, ∀ k, k0 ≤ k → call cx (run cx k) f args h = some (one l, ⟨h.nt, h.env, hp', nx', h.lk, h.df⟩)) ∧ h.nx ≤ nx' ∧ (∀ b, b < h.nx → hp'.get b = h.hp.get b) ∧ (∀ b, nx' ≤ b → hp'.get b = none) ∧ (∀ b, Z b → Z' b) ∧ (∀ b, Z' b → Z b ∨ (h.nx ≤ b ∧ b < nx')) ∧ RdArgs hp' Z' c.r l y
/-- Code is carried out as the symbolic machine says. -/
def SymOk (cy : Cy) (ih : Sym) : Prop := ∀ (R : Type) (H : Tr (List Hi)) (cur : Nat) (c : Code) (S : SS) (K : Ex → SS → Option R) (r : R), ih R H cur c S K = some r → ∀ (h : St) (E : En), Mem S h E → Env S h E →
  ∃ e h' S' E', (∃ k0, ∀ k, k0 ≤ k → run cy.cx k c h = some (e, h')) ∧ Mem S' h' E' ∧ Env S' h' E' ∧ Gr S h E S' h' E' ∧ (∀ t, isIn t S.kp = true → S'.tmp t = S.tmp t) ∧ K e S' = some r
section
variable {E : En} {S : SS} {h : St} {cy : Cy} {R : Type} {r : R} {K : SV → SS → Option R}
theorem Mem.re {S S2 : SS} {h h2 : St} (M : Mem S h E) (e1 : S2.st = S.st) (e2 : S2.nx = S.nx) (e3 : S2.lk = S.lk) (e4 : h2.hp = h.hp) (e5 : h2.nx = h.nx) (e6 : h2.lk = h.lk) : Mem S2 h2 E := by
  refine ⟨by rw [e4]; exact M.hp, by rw [e1]; exact M.st, by rw [e2]; exact M.nx, fun m e hm => ?_, fun m e hm => ?_, fun m m' e e' b hm hm' => ?_, fun m e b hm hb => ?_, fun b hb => ?_, fun b hb => ?_, fun b hb => ?_, fun m b hb => ?_⟩
  · rw [e1] at hm; rw [e2]; exact M.lt m e hm
  · rw [e1] at hm; exact M.ent m e hm
  · rw [e1] at hm hm'; exact M.inj m m' e e' b hm hm'
  · rw [e1] at hm; rw [e5]; exact M.own m e b hm hb
  · rw [e5]; exact M.z b hb
  · rw [e5] at hb; rw [e4]; exact M.fr b hb
  · rw [e6] at hb
    rw [e5, e3, e1]
    exact M.lk b hb
  · rw [e5]; exact M.mbl m b hb
theorem Ow.re {S S2 : SS} {b : Nat} (e1 : S2.st = S.st) : Ow S2 E b ↔ Ow S E b := by
  unfold Ow; rw [e1]
/-- The same growth, seen from elsewhere. -/
theorem Gr.re {Sa S2 S' : SS} {ha h2 h' : St} {E' : En} (g : Gr Sa ha E S' h' E') (e1 : S.st = Sa.st) (e2 : S.nx = Sa.nx) (e3 : ∀ m, m < Sa.nx → S.can m = false → Sa.can m = false) (a1 : h.hp = ha.hp) (a2 : h.nx = ha.nx) (a3 : ∀ b, isIn b h.lk = true → isIn b ha.lk = true) (hS : S2.st = S'.st) (hn : S2.nx = S'.nx) (b1 : h2.hp = h'.hp) (b2 : h2.nx = h'.nx)
    (c1 : h2.nt = h.nt) (c2 : h2.lk = h.lk) (c3 : h2.df = h.df) (c4 : S2.nt = S.nt) (c5 : S2.lk = S.lk) (c6 : S2.base = S.base) (c7 : S2.wr = S.wr) (c8 : S2.kp = S.kp) : Gr S h E S2 h2 E' where
  nt := c1
  lk := c2
  df := c3
  Snt := c4
  Slk := c5
  base := c6
  wr := c7
  kp := c8
  nx := by rw [a2, b2]; exact g.nx
  Snx := by rw [e2, hn]; exact g.Snx
  z := g.z
  z' := fun b hb => by
    rw [a2, Ow.re e1]; exact g.z' b hb
  oth := fun b hb ho => by
    rw [a2] at hb
    rw [Ow.re e1] at ho
    rw [b1, a1]; exact g.oth b hb ho
  ow := fun b hb => by
    rw [Ow.re hS] at hb
    rw [a2, Ow.re e1]; exact g.ow b hb
  mb := fun m hm => g.mb m (by rw [← e2]; exact hm)
  cant := fun m hm hc => by
    rw [hS, e1]; exact g.cant m (by rw [← e2]; exact hm) (e3 m (by rw [← e2]; exact hm) hc)
  dead := fun m hm hd => by
    rw [hS]; exact g.dead m (by rw [← e2]; exact hm) (by rw [← e1]; exact hd)
  row := fun m e xs hm hx => by
    rw [hS] at hx
    rw [e1]; exact g.row m e xs (by rw [← e2]; exact hm) hx
  lkk := fun b m e hb hm hmb => by
    rw [hS] at hm
    rw [e1]; exact g.lkk b m e (a3 b hb) hm hmb
theorem sOne_rel {l : List SV} {vs : List HV} (hv : Vs E l vs) : V E (sOne l) (one vs) := by
  have hlen : vs.length = l.length := by
    have : ∀ (l : List SV) (vs : List HV), Vs E l vs → vs.length = l.length := by
      intro l
      induction l with
      | nil => intro vs h; unfold Vs at h; subst h; rfl
      | cons s l ih => intro vs h; unfold Vs at h; obtain ⟨v, r, rfl, _, h2⟩ := h; simp [ih r h2]
    exact this l vs hv
  match l, vs, hlen with
  | [], [], _ => exact V_tup.2 ⟨[], rfl, hv⟩
  | [s], [v], _ =>
    unfold Vs at hv
    obtain ⟨v', r, e, h1, h2⟩ := hv
    cases e
    exact h1
  | s :: s' :: l, v :: v' :: vs, _ => exact V_tup.2 ⟨_, rfl, hv⟩
theorem Vs_len : ∀ {l : List SV} {vs : List HV}, Vs E l vs → vs.length = l.length
  | [], vs, h => by unfold Vs at h; subst h; rfl
  | s :: l, vs, h => by unfold Vs at h; obtain ⟨v, r, rfl, _, h2⟩ := h; simp [Vs_len h2]
theorem envS_get : ∀ (l : List SV) (i t : Nat) (T : Tr SV), (envS i l T).get t = if i ≤ t ∧ t < i + l.length then l[t - i]? else T.get t
  | [], i, t, T => by
    unfold envS
    rw [if_neg (by rintro ⟨a, b⟩; simp only [List.length_nil] at b; omega)]
  | v :: l, i, t, T => by
    unfold envS
    rw [envS_get l (i + 1) t]
    by_cases h : t = i
    · subst h
      rw [if_neg (by omega), Tr.get_set_same, if_pos (by simp)]
      simp
    · rw [Tr.get_set_ne _ _ h]
      by_cases h2 : i + 1 ≤ t ∧ t < i + 1 + l.length
      · rw [if_pos h2, if_pos (by simp only [List.length_cons]; omega)]
        rw [show t - i = (t - (i + 1)) + 1 by omega, List.getElem?_cons_succ]
      · rw [if_neg h2, if_neg (by simp only [List.length_cons]; omega)]
theorem envOf_get' : ∀ (l : List HV) (i t : Nat) (T : Tr HV), (envOf i l T).get t = if i ≤ t ∧ t < i + l.length then l[t - i]? else T.get t
  | [], i, t, T => by
    unfold envOf
    rw [if_neg (by rintro ⟨a, b⟩; simp only [List.length_nil] at b; omega)]
  | v :: l, i, t, T => by
    unfold envOf
    rw [envOf_get' l (i + 1) t]
    by_cases h : t = i
    · subst h
      rw [if_neg (by omega), Tr.get_set_same, if_pos (by simp)]
      simp
    · rw [Tr.get_set_ne _ _ h]
      by_cases h2 : i + 1 ≤ t ∧ t < i + 1 + l.length
      · rw [if_pos h2, if_pos (by simp only [List.length_cons]; omega)]
        rw [show t - i = (t - (i + 1)) + 1 by omega, List.getElem?_cons_succ]
      · rw [if_neg h2, if_neg (by simp only [List.length_cons]; omega)]
/-- A function's first slots. -/
theorem args_env {l : List SV} {vs : List HV} (hv : Vs E l vs) {n nx : Nat} {hp : Tr Hm.Obj} {lk : List Nat} {st : Tr Ent} {snx : Nat} {slk : List Nat} {base : Nat} {wr : List Nat} : Env ⟨n, envS 0 l .e, st, snx, slk, base, wr, []⟩ ⟨n, envOf 0 vs .e, hp, nx, lk, .undef⟩ E := by
  refine ⟨rfl, fun t => ?_⟩
  unfold SS.tmp St.tmp
  simp only
  rw [envS_get, envOf_get', Vs_len hv]
  by_cases ht : 0 ≤ t ∧ t < 0 + l.length
  · rw [if_pos ht, if_pos ht]
    have hs : l[t - 0]? = some (l[t - 0]'(by omega)) := List.getElem?_eq_getElem (by omega)
    obtain ⟨v, g1, g2⟩ := Vs_get hv hs
    rw [hs, g1]
    exact g2
  · rw [if_neg ht, if_neg ht, Tr.get_e, Tr.get_e]
    exact V_any
theorem resS_rel {S : SS} {h : St} (M : Mem S h E) (hE : Env S h E) : ∀ {rs : List ResultVar} {K : List SV → Option R}, resS cy S rs K = some r → ∃ l vs, resOf cy.cx h rs = some vs ∧ Vs E l vs ∧ K l = some r
  | [], K, hk => ⟨[], [], rfl, by unfold Vs; rfl, hk⟩
  | .tmp t :: rs, K, hk => by
    unfold resS at hk
    obtain ⟨l, vs, h1, h2, h3⟩ := resS_rel M hE hk
    exact ⟨S.tmp t :: l, h.tmp t :: vs, by unfold resOf; rw [h1], by unfold Vs; exact ⟨_, _, rfl, hE.v t, h2⟩, h3⟩
  | .cell a t :: rs, K, hk => by
    unfold resS at hk
    obtain ⟨s, v, g1, g2, g3⟩ := loadS_rel M hk (hE.v a)
    obtain ⟨l, vs, h1, h2, h3⟩ := resS_rel M hE g3
    exact ⟨s :: l, v :: vs, by unfold resOf; rw [g1]; simp only; rw [h1], by unfold Vs; exact ⟨_, _, rfl, g2, h2⟩, h3⟩
theorem callS_rel (hct : ∀ f c, cy.ct.get f = some c → COk cy.cx f c) {ih : Sym} (hih : SymOk cy ih) {f : FuncId} {args : List SV} {vs : List HV} (hk : callS cy ih f args S K = some r) (M : Mem S h E) (hv : Vs E args vs) :
    ∃ v h' s S' E', (∃ k0, ∀ k, k0 ≤ k → call cy.cx (run cy.cx k) f vs h = some (v, h')) ∧ Mem S' h' E' ∧ Gr S h E S' h' E' ∧ S'.env = S.env ∧ h'.env = h.env ∧ V E' s v ∧ K s S' = some r := by
  unfold callS at hk
  split at hk
  · rename_i q hext
    rw [bif_eq] at hk
    split at hk
    · rename_i hq
      have hq := Nat.eq_of_beq_eq_true hq
      subst hq
      split at hk
      · unfold Vs at hv
        subst hv
        exact ⟨.bool true, h, .bool true true, S, E, ⟨0, fun k _ => by unfold call; rw [hext]; rfl⟩, M, Gr.refl, rfl, rfl, V_bool.2 rfl, hk⟩
      · cases hk
    · cases hk
  · rename_i hext
    split at hk
    · rename_i c hc
      split at hk
      · rename_i x hx
        split at hk
        · rename_i L hL
          split at hk
          · rename_i S1 hS1
            obtain ⟨y, hy, hk2⟩ := bnd_some hk
            clear hk
            obtain ⟨E1, M1, g1, e1, e2, e3, e4, e5, e6⟩ := freeze_rel M hS1
            have hE1 : E1.hp = E.hp := by rw [M1.hp, M.hp]
            have hent : ∀ m e, E.st.get m = some e → EntR E m e := fun m e hm => M.ent m e (by rw [← M.st]; exact hm)
            obtain ⟨l, hp', nx', Z', hcall, b1, b2, b3, b4, b5, b6⟩ : ∃ l hp' nx' Z', (∃ k0, ∀ k, k0 ≤ k → call cy.cx (run cy.cx k) f vs h = some (one l, ⟨h.nt, h.env, hp', nx', h.lk, h.df⟩)) ∧ h.nx ≤ nx' ∧ (∀ b, b < h.nx → hp'.get b = h.hp.get b) ∧ (∀ b, nx' ≤ b → hp'.get b = none) ∧ (∀ b, E1.Z b → Z' b) ∧ (∀ b, Z' b → E1.Z b ∨ (h.nx ≤ b ∧ b < nx')) ∧ RdArgs hp' Z' c.r l y := by
              cases hf : c.r.flat with
              | true =>
                have ha : RdArgs h.hp (fun b => E.Z b ∨ Ow S E b) c.a vs x := by
                  rw [← M.hp]
                  exact rdArgs_rel (E := E) (Q := fun b => E.Z b ∨ Ow S E b) (k := 3) (fun b hb => .inl hb) hent (by rw [M.st]; exact hx) hv (cov_all (fun m e b hm hb => .inr ⟨m, e, by rw [← M.st]; exact hm, hb⟩) (by rw [M.st]; exact hL))
                obtain ⟨l, hp', nx', Z', q1, q2, q3, q4, q5, q6, q7⟩ := hct f c hc h _ vs x y M.fr (fun b hb => (M.lk b hb).1) (fun b hb => by
                  rcases hb with hb | ⟨m, e, hm, hb⟩
                  · exact M.z b hb
                  · exact (M.own m e b hm hb).2) ha hy
                exact ⟨l, hp', nx', E1.Z, q1, q2, q3, q4, fun b hb => hb, fun b hb => .inl hb, q7.flat hf⟩
              | false =>
                rw [hf] at e3
                have ha : RdArgs h.hp E1.Z c.a vs x := by
                  rw [← M.hp]
                  exact rdArgs_rel (E := E) (Q := E1.Z) (k := 3) g1.z hent (by rw [M.st]; exact hx) hv (rowsK_cov (E := E) (Q := E1.Z) (by rw [M.st]; exact hL) (fun m' e' b' hm' he' hb' => e3 m' e' b' (isIn_iff.2 hm') (by rw [← M.st]; exact he') hb'))
                exact hct f c hc h _ vs x y M.fr (fun b hb => (M.lk b hb).1) M1.z ha hy
            obtain ⟨M2, g2⟩ := more_rel M1 b2 b1 b3 b4 b5
            refine ⟨one l, _, _, _, _, hcall, M2, g1.trans g2, e1, rfl, ?_, hk2⟩
            exact sOne_rel (mkArgs_rel (E := ⟨hp', Z', E1.mb, E1.st, E1.nx⟩) b6)
          · cases hk
        · cases hk
      · cases hk
    · split at hk
      · rename_i fn hfn
        split at hk
        · rename_i b hb
          rw [bif_eq] at hk
          split at hk
          · rename_i hle
            have hle' : Nat.ble vs.length fn.ntmps = true := by rw [Vs_len hv]; exact hle
            obtain ⟨e, h1, S1, E1, ⟨k0, hrun⟩, M1, En1, g1, _, hk2⟩ := hih _ _ _ _ _ _ _ hk ⟨fn.ntmps, envOf 0 vs .e, h.hp, h.nx, h.lk, .undef⟩ E (M.re rfl rfl rfl rfl rfl rfl) (args_env hv)
            have key : ∀ (hne : ∀ id, e ≠ .exit id), resS cy S1 fn.results.toList (fun l => K (sOne l) (S.mem S1.st S1.nx)) = some r → ∃ v h' s S' E', (∃ k0, ∀ k, k0 ≤ k → call cy.cx (run cy.cx k) f vs h = some (v, h')) ∧ Mem S' h' E' ∧ Gr S h E S' h' E' ∧ S'.env = S.env ∧ h'.env = h.env ∧ V E' s v ∧ K s S' = some r := by
              intro hne hres
              obtain ⟨l, ws, q1, q2, q3⟩ := resS_rel M1 En1 hres
              refine ⟨one ws, ⟨h.nt, h.env, h1.hp, h1.nx, h.lk, h.df⟩, sOne l, S.mem S1.st S1.nx, E1, ⟨k0, fun k hkk => ?_⟩, ?_, ?_, rfl, rfl, sOne_rel q2, q3⟩
              · unfold call
                rw [hext, hfn]
                simp only
                rw [hb]
                simp only
                rw [hle', hrun k hkk]
                cases e with
                | exit id => exact absurd rfl (hne id)
                | norm => simp only [cond_true]; rw [q1]
                | ret => simp only [cond_true]; rw [q1]
              · exact M1.re rfl rfl g1.Slk.symm rfl rfl g1.lk.symm
              · exact g1.re rfl rfl (fun _ _ h => h) rfl rfl (fun _ h => h) rfl rfl rfl rfl rfl rfl rfl rfl rfl rfl rfl rfl
            cases e with
            | exit id => cases hk2
            | norm => exact key (fun id hid => by cases hid) hk2
            | ret => exact key (fun id hid => by cases hid) hk2
          · cases hk
        · cases hk
      · cases hk
end
end Go.Ls
namespace Go.Ls
open Go Go.Hm
/-- What an operation does, whatever it takes. -/
def StepR (cx : Cx) (h : St) (o : Op) (v : HV) (h' : St) : Prop := ∃ k0, ∀ k, k0 ≤ k → doOp cx h o = some (.val v h') ∨ (doOp cx h o = some (.act h') ∧ v = .undef) ∨ ∃ f args, doOp cx h o = some (.call f args) ∧ call cx (run cx k) f args h = some (v, h')
def OpR (cy : Cy) (S : SS) (h : St) (E : En) {R : Type} (K : SV → SS → Option R) (r : R) (o : Op) : Prop := ∃ s v h' S' E', StepR cy.cx h o v h' ∧ Mem S' h' E' ∧ Gr S h E S' h' E' ∧ S'.env = S.env ∧ h'.env = h.env ∧ V E' s v ∧ K s S' = some r
section
variable {E : En} {S : SS} {h : St} {cy : Cy} {R : Type} {r : R} {K : SV → SS → Option R}
theorem ev1_of' {k : HV → Option Rs} {x : Operand} {v : HV} (g : h.ev x = some v) : ev1 h k x = k v := by
  unfold ev1; rw [g]
theorem ev1S_some {S : SS} {x : Operand} {K : SV → Option R} (hk : ev1S S x K = some r) : ∃ s, S.ev x = some s ∧ K s = some r := by
  unfold ev1S at hk
  split at hk
  · exact ⟨_, by assumption, hk⟩
  · cases hk
theorem Mv.op {o : Op} {q : Option Rs} (m : Mv S h E K r q) (e : doOp cy.cx h o = q) : OpR cy S h E K r o := by
  obtain ⟨s, v, h', S', E', h1, h2, h3, h4, h5, h6, h7⟩ := m
  exact ⟨s, v, h', S', E', ⟨0, fun k _ => .inl (by rw [e]; exact h1)⟩, h2, h3, h4, h5, h6, h7⟩
theorem Pu.op (M : Mem S h E) {o : Op} {q : Option Rs} (p : Pu E h (fun v => K v S) r q) (e : doOp cy.cx h o = q) : OpR cy S h E K r o := (Pu.mv M p).op e
theorem Vs_app {a b : List SV} : ∀ {u v : List HV}, Vs E a u → Vs E b v → Vs E (a ++ b) (u ++ v) := by
  induction a with
  | nil => intro u v h1 h2; unfold Vs at h1; subst h1; exact h2
  | cons s a ih =>
    intro u v h1 h2
    unfold Vs at h1
    obtain ⟨w, q, rfl, g1, g2⟩ := h1
    show Vs E (s :: (a ++ b)) _
    unfold Vs
    exact ⟨w, q ++ v, rfl, g1, ih g2 h2⟩
theorem builtinS_rel (M : Mem S h E) {b : Builtin} {ts : List Nat} {args : List SV} {vs : List HV} (hk : builtinS cy S b ts args K = some r) (hv : Vs E args vs) : Mv S h E K r (doBuiltin cy.cx h b ts vs) := by
  unfold builtinS at hk
  split at hk
  · unfold Vs at hv
    obtain ⟨v, q, rfl, h1, h2⟩ := hv
    unfold Vs at h2
    subst h2
    exact Pu.mv M (lenS_rel M hk h1)
  · unfold Vs at hv
    obtain ⟨v, q, rfl, h1, h2⟩ := hv
    unfold Vs at h2
    obtain ⟨v', q', rfl, h3, h4⟩ := h2
    unfold Vs at h4
    subst h4
    exact appendS_rel M hk h1 h3
  · obtain ⟨s, h1, h2⟩ := opt_some hk
    obtain ⟨v, g1, g2⟩ := mmS_rel h1 hv
    refine Pu.mv M ⟨s, v, ?_, g2, h2⟩
    unfold doBuiltin
    simp only
    rw [g1]
  · obtain ⟨s, h1, h2⟩ := opt_some hk
    obtain ⟨v, g1, g2⟩ := mmS_rel h1 hv
    refine Pu.mv M ⟨s, v, ?_, g2, h2⟩
    unfold doBuiltin
    simp only
    rw [g1]
  · cases hk
theorem opS_rel (hct : ∀ f c, cy.ct.get f = some c → COk cy.cx f c) {ih : Sym} (hih : SymOk cy ih) {o : Op} (hk : opS cy ih S o K = some r) (M : Mem S h E) (hE : Env S h E) : OpR cy S h E K r o := by
  unfold opS at hk
  split at hk
  · obtain ⟨s, h1, h2⟩ := ev1S_some hk
    obtain ⟨v, g1, g2⟩ := ev_rel hE h1
    exact Pu.op M ⟨s, v, rfl, g2, h2⟩ (by show ev1 _ _ _ = _; rw [ev1_of' g1])
  · obtain ⟨s, h1, h2⟩ := ev1S_some hk
    obtain ⟨v, g1, g2⟩ := ev_rel hE h1
    exact Pu.op M ⟨s, v, rfl, g2, h2⟩ (by show ev1 _ _ _ = _; rw [ev1_of' g1])
  · obtain ⟨s, h1, h2⟩ := ev1S_some hk
    obtain ⟨v, g1, g2⟩ := ev_rel hE h1
    exact Pu.op M (pickS_rel h2 g2 (fun s hs => ev_rel hE hs) (fun s hs => ev_rel hE hs)) (by show ev1 _ _ _ = _; rw [ev1_of' g1])
  · split at hk
    · rename_i l hl
      exact (allocS_rel M hl hk).op rfl
    · cases hk
  · obtain ⟨s, h1, h2⟩ := ev1S_some hk
    obtain ⟨v, g1, g2⟩ := ev_rel hE h1
    split at h2
    · rename_i l hl
      exact (boxS_rel M hl g2 h2).op (by show ev1 _ _ _ = _; rw [ev1_of' g1])
    · cases h2
  · split at hk
    · rename_i l hl
      obtain ⟨q, g1, g2⟩ := evPS_rel hE hl
      exact Pu.op M (buildS_rel hk g2) (by show (match evParts _ _ with | some l => _ | none => _) = _; rw [g1])
    · cases hk
  · split at hk
    · rename_i l hl
      obtain ⟨q, g1, g2⟩ := evPS_rel hE hl
      exact (buildSliceS_rel M hk g2).op (by show (match evParts _ _ with | some l => _ | none => _) = _; rw [g1])
    · cases hk
  · obtain ⟨s, h1, h2⟩ := ev1S_some hk
    obtain ⟨v, g1, g2⟩ := ev_rel hE h1
    exact Pu.op M (loadS_rel M h2 g2) (by show ev1 _ _ _ = _; rw [ev1_of' g1])
  · obtain ⟨s, h1, h2⟩ := ev1S_some hk
    obtain ⟨v, g1, g2⟩ := ev_rel hE h1
    obtain ⟨s', h3, h4⟩ := ev1S_some h2
    obtain ⟨v', g3, g4⟩ := ev_rel hE h3
    obtain ⟨h', S', E', q1, q2, q3, q4, q5, q6⟩ := storeS_rel M h4 g2 g4
    exact ⟨.undef, .undef, h', S', E', ⟨0, fun k _ => .inr (.inl ⟨by show ev1 _ _ _ = _; rw [ev1_of' g1, ev1_of' g3]; exact q1, rfl⟩)⟩, q2, q3, q4, q5, V_undef.2 rfl, q6⟩
  · obtain ⟨s, h1, h2⟩ := ev1S_some hk
    obtain ⟨v, g1, g2⟩ := ev_rel hE h1
    obtain ⟨s', h3, h4⟩ := opt_some h2
    obtain ⟨w, q1, q2⟩ := nilS_rel M h3 g2
    exact Pu.op M ⟨s', w, q1, q2, h4⟩ (by show ev1 _ _ _ = _; rw [ev1_of' g1])
  · obtain ⟨s, h1, h2⟩ := ev1S_some hk
    obtain ⟨v, g1, g2⟩ := ev_rel hE h1
    obtain ⟨s', h3, h4⟩ := ev1S_some h2
    obtain ⟨v', g3, g4⟩ := ev_rel hE h3
    obtain ⟨s2, w, q1, q2, q3⟩ := binS_rel h4 g2 g4
    exact Pu.op M ⟨s2, w, rfl, q2, q3⟩ (by show ev1 _ _ _ = _; rw [ev1_of' g1, ev1_of' g3, q1])
  · obtain ⟨s, h1, h2⟩ := ev1S_some hk
    obtain ⟨v, g1, g2⟩ := ev_rel hE h1
    obtain ⟨s', h3, h4⟩ := opt_some h2
    obtain ⟨w, q1, q2⟩ := unS_rel (h := h) h3 g2
    exact Pu.op M ⟨s', w, q1, q2, h4⟩ (by show ev1 _ _ _ = _; rw [ev1_of' g1])
  · obtain ⟨s, h1, h2⟩ := ev1S_some hk
    obtain ⟨v, g1, g2⟩ := ev_rel hE h1
    exact Pu.op M (convertS_rel h2 g2) (by show ev1 _ _ _ = _; rw [ev1_of' g1])
  · rename_i f first caps
    split at hk
    · rename_i l hf hl
      obtain ⟨vs, g1, g2⟩ := evs_rel hE hl
      exact Pu.op M ⟨_, .fn f vs, rfl, V_fn.2 ⟨vs, rfl, g2⟩, hk⟩ (by show (match first.toList, h.evs caps.toList with | [], some l => _ | _, _ => _) = _; rw [hf, g1])
    · cases hk
  · obtain ⟨s, h1, h2⟩ := ev1S_some hk
    obtain ⟨v, g1, g2⟩ := ev_rel hE h1
    obtain ⟨s', h3, h4⟩ := ev1S_some h2
    obtain ⟨v', g3, g4⟩ := ev_rel hE h3
    exact (makeSliceS_rel M h4 g2 g4).op (by show ev1 _ _ _ = _; rw [ev1_of' g1, ev1_of' g3])
  · rename_i t x lo hi mx
    obtain ⟨s, h1, h2⟩ := ev1S_some hk
    obtain ⟨v, g1, g2⟩ := ev_rel hE h1
    split at h2
    · rename_i l hh m hl hhh hm
      obtain ⟨ql, a1, a2⟩ := evOS_rel hE hl
      obtain ⟨qh, a3, a4⟩ := evOS_rel hE hhh
      obtain ⟨qm, a5, a6⟩ := evOS_rel hE hm
      exact (sliceS_rel M h2 g2 a2 a4 a6).op (by show (match h.ev x, evO h lo, evO h hi, evO h mx with | some v, some l, some hh, some m => _ | _, _, _, _ => _) = _; rw [g1, a1, a3, a5])
    · cases h2
  · obtain ⟨s, h1, h2⟩ := ev1S_some hk
    obtain ⟨v, g1, g2⟩ := ev_rel hE h1
    exact Pu.op M (fieldS_rel M h2 g2) (by show ev1 _ _ _ = _; rw [ev1_of' g1])
  · obtain ⟨s, h1, h2⟩ := ev1S_some hk
    obtain ⟨v, g1, g2⟩ := ev_rel hE h1
    obtain ⟨s', h3, h4⟩ := ev1S_some h2
    obtain ⟨v', g3, g4⟩ := ev_rel hE h3
    exact Pu.op M (indexAS_rel M h4 g2 g4) (by show ev1 _ _ _ = _; rw [ev1_of' g1, ev1_of' g3])
  · obtain ⟨s, h1, h2⟩ := ev1S_some hk
    obtain ⟨v, g1, g2⟩ := ev_rel hE h1
    obtain ⟨s', h3, h4⟩ := ev1S_some h2
    obtain ⟨v', g3, g4⟩ := ev_rel hE h3
    exact Pu.op M (indexS_rel h4 g2 g4) (by show ev1 _ _ _ = _; rw [ev1_of' g1, ev1_of' g3])
  · obtain ⟨s, h1, h2⟩ := ev1S_some hk
    obtain ⟨v, g1, g2⟩ := ev_rel hE h1
    obtain ⟨s', h3, h4⟩ := opt_some h2
    obtain ⟨w, q1, q2⟩ := extractS_rel (h := h) h3 g2
    exact Pu.op M ⟨s', w, q1, q2, h4⟩ (by show ev1 _ _ _ = _; rw [ev1_of' g1])
  · rename_i c
    split at hk
    · rename_i b hcal
      split at hk
      · rename_i l hl
        obtain ⟨vs, g1, g2⟩ := evs_rel hE hl
        exact (builtinS_rel M hk g2).op (by show (match c.callee with | .builtin b => _ | .value f => _ | _ => _) = _; rw [hcal]; simp only; rw [g1])
      · cases hk
    · rename_i f hcal
      split at hk
      · rename_i l hl
        obtain ⟨vs, g1, g2⟩ := evs_rel hE hl
        obtain ⟨s, h1, h2⟩ := ev1S_some hk
        obtain ⟨v, g3, g4⟩ := ev_rel hE h1
        split at h2
        · rename_i g caps
          obtain ⟨cs, rfl, g5⟩ := V_fn.1 g4
          obtain ⟨v, h', s', S', E', ⟨k0, q1⟩, q2, q3, q4, q5, q6, q7⟩ := callS_rel hct hih h2 M (Vs_app g2 g5)
          refine ⟨s', v, h', S', E', ⟨k0, fun k hkk => .inr (.inr ⟨g, vs ++ cs, ?_, q1 k hkk⟩)⟩, q2, q3, q4, q5, q6, q7⟩
          show (match c.callee with | .builtin b => _ | .value f => _ | _ => _) = _
          rw [hcal]
          simp only
          rw [g1]
          simp only
          rw [ev1_of' g3]
          rfl
        · cases h2
      · cases hk
    · cases hk
  · cases hk
/-- A step: the slots too. -/
def StR (S : SS) (h : St) (E : En) {R : Type} (K : SS → Option R) (r : R) (f : Nat → Option St) : Prop := ∃ h' S' E', (∃ k0, ∀ k, k0 ≤ k → f k = some h') ∧ Mem S' h' E' ∧ Env S' h' E' ∧ Gr S h E S' h' E' ∧ (∀ t, isIn t S.kp = true → S'.tmp t = S.tmp t) ∧ K S' = some r
theorem put_rel {S S' : SS} {h : St} (M : Mem S h E) (hE : Env S h E) {d : Option Nat} {s : SV} {v : HV} (hp : S.put d s = some S') (hv : V E s v) : Mem S' (h.put d v) E ∧ Env S' (h.put d v) E ∧ Gr S h E S' (h.put d v) E ∧ (∀ t, isIn t S.kp = true → S'.tmp t = S.tmp t) := by
  unfold SS.put at hp
  split at hp
  · rename_i t
    rw [bif_eq] at hp
    split at hp
    · rename_i hlt
      rw [bif_eq] at hp
      split at hp
      · cases hp
      · rename_i hkp
        cases hp
        have e : h.put (some t) v = ⟨h.nt, h.env.set t v, h.hp, h.nx, h.lk, h.df⟩ := by
          unfold St.put
          simp only
          rw [← hE.nt, hlt]; rfl
        rw [e]
        refine ⟨M.re rfl rfl rfl rfl rfl rfl, ⟨hE.nt, fun j => ?_⟩, Gr.refl.re rfl rfl (fun _ _ h => h) rfl rfl (fun _ h => h) rfl rfl rfl rfl rfl rfl rfl rfl rfl rfl rfl rfl, fun j hj => ?_⟩
        · unfold SS.tmp St.tmp
          simp only
          rw [Tr.get_set, Tr.get_set]
          by_cases hjt : j = t
          · rw [if_pos hjt, if_pos hjt]; exact hv
          · rw [if_neg hjt, if_neg hjt]; exact hE.v j
        · unfold SS.tmp
          simp only
          rw [Tr.get_set, if_neg]
          rintro rfl
          exact hkp hj
    · rename_i hlt
      cases hp
      have e : h.put (some t) v = h := by
        unfold St.put
        simp only
        rw [← hE.nt]
        have : Nat.blt t S.nt = false := by
          cases hq : Nat.blt t S.nt with
          | false => rfl
          | true => exact absurd hq hlt
        rw [this]; rfl
      rw [e]
      exact ⟨M, hE, Gr.refl, fun _ _ => rfl⟩
  · cases hp
    exact ⟨M, hE, Gr.refl, fun _ _ => rfl⟩
theorem putS_some {S : SS} {d : Option Nat} {s : SV} {K : SS → Option R} (hk : putS S d s K = some r) : ∃ S', S.put d s = some S' ∧ K S' = some r := by
  unfold putS at hk
  split at hk
  · exact ⟨_, by assumption, hk⟩
  · cases hk
theorem skip_rel (M : Mem S h E) (hE : Env S h E) {K : SS → Option R} {ops : Array Oper} {o : Oper} (hk : putS S o.dst .undef K = some r) (ht : takes h ops o = some false) : StR S h E K r (fun k => step1 cy.cx (run cy.cx k) ops h o) := by
  obtain ⟨S', h1, h2⟩ := putS_some hk
  obtain ⟨g1, g2, g3, g4⟩ := put_rel M hE h1 (V_undef.2 rfl)
  refine ⟨h.put o.dst .undef, S', E, ⟨0, fun k _ => ?_⟩, g1, g2, g3, g4, h2⟩
  unfold step1
  rw [ht]
theorem do_rel (hct : ∀ f c, cy.ct.get f = some c → COk cy.cx f c) {ih : Sym} (hih : SymOk cy ih) (M : Mem S h E) (hE : Env S h E) {K : SS → Option R} {ops : Array Oper} {o : Oper} (hk : opS cy ih S o.op (fun v S' => putS S' o.dst v K) = some r) (ht : takes h ops o = some true) : StR S h E K r (fun k => step1 cy.cx (run cy.cx k) ops h o) := by
  obtain ⟨s, v, h1, S1, E1, ⟨k0, hs⟩, M1, g1, e1, e2, hv, hk2⟩ := opS_rel hct hih hk M hE
  obtain ⟨S2, h3, h4⟩ := putS_some hk2
  obtain ⟨q1, q2, q3, q4⟩ := put_rel M1 (hE.gr g1 M M1 e1 e2) h3 hv
  refine ⟨h1.put o.dst v, S2, E1, ⟨k0, fun k hkk => ?_⟩, q1, q2, g1.trans q3, fun t ht => ?_, h4⟩
  · show step1 cy.cx (run cy.cx k) ops h o = _
    unfold step1
    rw [ht]
    simp only
    rcases hs k hkk with g | ⟨g, rfl⟩ | ⟨f, args, g, g'⟩
    · rw [g]
    · rw [g]
    · rw [g]; simp only; rw [g']
  · rw [q4 t (by rw [g1.kp]; exact ht)]
    unfold SS.tmp; rw [e1]
theorem setE_rel {S : SS} {h : St} (M : Mem S h E) (hE : Env S h E) {g : Nat} {s : SV} (hs : V E s (h.tmp g)) : Mem (S.setE g s) h E ∧ Env (S.setE g s) h E ∧ Gr S h E (S.setE g s) h E := by
  refine ⟨M.re rfl rfl rfl rfl rfl rfl, ⟨hE.nt, fun j => ?_⟩, Gr.refl.re rfl rfl (fun _ _ h => h) rfl rfl (fun _ h => h) rfl rfl rfl rfl rfl rfl rfl rfl rfl rfl rfl rfl⟩
  unfold SS.setE SS.tmp
  simp only
  rw [Tr.get_set]
  by_cases hj : j = g
  · rw [if_pos hj, hj]; exact hs
  · rw [if_neg hj]; exact hE.v j
theorem StR.setE {S : SS} {h : St} {K : SS → Option R} {f : Nat → Option St} {g : Nat} {s : SV} (hg : Gr S h E (S.setE g s) h E) (hkp : isIn g S.kp = false) (p : StR (S.setE g s) h E K r f) : StR S h E K r f := by
  obtain ⟨h', S', E', q1, q2, q3, q4, q5, q6⟩ := p
  refine ⟨h', S', E', q1, q2, q3, hg.trans q4, fun t ht => ?_, q6⟩
  rw [q5 t ht]
  unfold SS.setE SS.tmp
  simp only
  rw [Tr.get_set, if_neg]
  rintro rfl
  rw [ht] at hkp; cases hkp
theorem stepS_rel (hct : ∀ f c, cy.ct.get f = some c → COk cy.cx f c) {ih : Sym} (hih : SymOk cy ih) (M : Mem S h E) (hE : Env S h E) {K : SS → Option R} {ops : Array Oper} {o : Oper} (hk : stepS cy ih ops S o K = some r) : StR S h E K r (fun k => step1 cy.cx (run cy.cx k) ops h o) := by
  unfold stepS at hk
  split at hk
  · rename_i hg
    exact do_rel hct hih M hE hk (by unfold takes; rw [hg])
  · rename_i j w hg
    split at hk
    · rename_i g hd
      have ht : takes h ops o = (match h.tmp g with | .bool b => some (b == w) | .any => none | _ => some false) := by
        unfold takes
        rw [hg]
        simp only
        rw [hd]
        rfl
      split at hk
      · rename_i b hb
        have hv := hE.v g
        rw [hb, V_bool] at hv
        rw [hv] at ht
        simp only at ht
        rw [bif_eq] at hk
        split at hk
        · rename_i hbw
          exact do_rel hct hih M hE hk (by rw [ht, hbw])
        · rename_i hbw
          exact skip_rel M hE hk (by rw [ht]; simpa using hbw)
      · rename_i b hb
        have hv := hE.v g
        rw [hb, V_bool] at hv
        rw [hv] at ht
        simp only at ht
        rw [bif_eq] at hk
        split at hk
        · cases hk
        · rename_i hkp
          have hkp : isIn g S.kp = false := by simpa using hkp
          have hset : ∀ b', b = b' → Mem (S.setE g (.bool true b')) h E ∧ Env (S.setE g (.bool true b')) h E ∧ Gr S h E (S.setE g (.bool true b')) h E := by
            intro b' hbb
            exact setE_rel M hE (V_bool.2 (by rw [hv, hbb]))
          rw [bif_eq] at hk
          split at hk
          · rename_i hw
            rw [hw] at ht
            rcases cnd_some hk with ⟨hb1, hk1⟩ | ⟨hb1, hk1⟩
            · obtain ⟨m1, m2, m3⟩ := hset true hb1
              exact StR.setE m3 hkp (do_rel hct hih m1 m2 hk1 (by rw [ht, hb1]; rfl))
            · obtain ⟨m1, m2, m3⟩ := hset false hb1
              exact StR.setE m3 hkp (skip_rel m1 m2 hk1 (by rw [ht, hb1]; rfl))
          · rename_i hw
            have hw : w = false := by simpa using hw
            rw [hw] at ht
            rcases cnd_some hk with ⟨hb1, hk1⟩ | ⟨hb1, hk1⟩
            · obtain ⟨m1, m2, m3⟩ := hset true hb1
              exact StR.setE m3 hkp (skip_rel m1 m2 hk1 (by rw [ht, hb1]; rfl))
            · obtain ⟨m1, m2, m3⟩ := hset false hb1
              exact StR.setE m3 hkp (do_rel hct hih m1 m2 hk1 (by rw [ht, hb1]; rfl))
      · rename_i hb
        have hv := hE.v g
        rw [hb, V_undef] at hv
        rw [hv] at ht
        exact skip_rel M hE hk ht
      · cases hk
    · cases hk
theorem opsS_rel (hct : ∀ f c, cy.ct.get f = some c → COk cy.cx f c) {ih : Sym} (hih : SymOk cy ih) {ops : Array Oper} : ∀ {l : List Oper} {S : SS} {h : St} {E : En} {K : SS → Option R}, opsS cy ih ops S l K = some r → Mem S h E → Env S h E → StR S h E K r (fun k => runOps cy.cx (run cy.cx k) ops h l)
  | [], S, h, E, K, hk, M, hE => ⟨h, S, E, ⟨0, fun _ _ => rfl⟩, M, hE, Gr.refl, fun _ _ => rfl, hk⟩
  | o :: l, S, h, E, K, hk, M, hE => by
    unfold opsS at hk
    obtain ⟨h1, S1, E1, ⟨k1, q1⟩, q2, q3, q4, q5, q6⟩ := stepS_rel hct hih M hE hk
    obtain ⟨h2, S2, E2, ⟨k2, p1⟩, p2, p3, p4, p5, p6⟩ := opsS_rel hct hih q6 q2 q3
    refine ⟨h2, S2, E2, ⟨max k1 k2, fun k hkk => ?_⟩, p2, p3, q4.trans p4, fun t ht => by rw [p5 t (by rw [q4.kp]; exact ht), q5 t ht], p6⟩
    show (match step1 cy.cx (run cy.cx k) ops h o with | some s' => runOps cy.cx (run cy.cx k) ops s' l | none => none) = _
    have e := q1 k (Nat.le_trans (Nat.le_max_left _ _) hkk)
    have e : step1 cy.cx (run cy.cx k) ops h o = some h1 := e
    rw [e]
    exact p1 k (Nat.le_trans (Nat.le_max_right _ _) hkk)
end
end Go.Ls
namespace Go.Ls
open Go Go.Hm
section
variable {E : En} {cy : Cy} {R : Type} {r : R}
def lockV (v : HV) (l : List Nat) : Option (List Nat) := match v with
  | .ptr b _ => some (b :: l)
  | .sl b _ _ => some (b :: l)
  | .asl b _ _ => some (b :: l)
  | .map _ => none
  | _ => some l
theorem lockAll_cons {h : St} {a : Operand} {axs : List Operand} {l L : List Nat} {v : HV} (h1 : lockAll h axs = some l) (h2 : h.ev a = some v) (h3 : lockV v l = some L) : lockAll h (a :: axs) = some L := by
  unfold lockAll
  rw [h1]
  simp only
  rw [h2]
  cases v <;> first | exact h3 | cases h3
def LkOk (S : SS) (h : St) (E : En) (l L : List Nat) : Prop := ∀ b, isIn b L = true → b < h.nx ∧ ∀ m e, S.st.get m = some e → E.mb m = some b → isIn m l = true
theorem isIn_cons {b a : Nat} {l : List Nat} : isIn b (a :: l) = true ↔ b = a ∨ isIn b l = true := by
  rw [isIn_iff, isIn_iff, List.mem_cons]
theorem lk_own {S : SS} {h : St} (M : Mem S h E) {m b : Nat} {e0 : Ent} {l L : List Nat} (hm : S.st.get m = some e0) (hb : E.mb m = some b) (g : LkOk S h E l L) : LkOk S h E (m :: l) (b :: L) := by
  intro c hc
  rcases isIn_cons.1 hc with rfl | hc
  · refine ⟨M.mbl m c hb, fun m' e' hm' hb' => ?_⟩
    have := M.inj m' m e' e0 c hm' hm hb' hb
    exact isIn_cons.2 (.inl this)
  · exact ⟨(g c hc).1, fun m' e' hm' hb' => isIn_cons.2 (.inr ((g c hc).2 m' e' hm' hb'))⟩
theorem lk_more {S : SS} {h : St} {m : Nat} {l L : List Nat} (g : LkOk S h E l L) : LkOk S h E (m :: l) L := fun c hc => ⟨(g c hc).1, fun m' e' hm' hb' => isIn_cons.2 (.inr ((g c hc).2 m' e' hm' hb'))⟩
theorem lk_z {S : SS} {h : St} (M : Mem S h E) {b : Nat} {l L : List Nat} (hz : E.Z b) (g : LkOk S h E l L) : LkOk S h E l (b :: L) := by
  intro c hc
  rcases isIn_cons.1 hc with rfl | hc
  · exact ⟨M.z c hz, fun m' e' hm' hb' => absurd hz (M.own m' e' c hm' hb').1⟩
  · exact g c hc
theorem lockS_rel {S : SS} {h : St} (M : Mem S h E) (hE : Env S h E) : ∀ {axs : List Operand} {l : List Nat}, lockS S axs = some l → ∃ L, lockAll h axs = some L ∧ (∀ b, isIn b h.lk = true → isIn b L = true) ∧ LkOk S h E l L
  | [], l, hl => by
    cases hl
    exact ⟨h.lk, rfl, fun _ hb => hb, M.lk⟩
  | a :: axs, l, hl => by
    unfold lockS at hl
    split at hl
    · rename_i l0 h0
      obtain ⟨L, g1, g2, g3⟩ := lockS_rel M hE h0
      have fin : ∀ v L', h.ev a = some v → lockV v L = some L' → (∀ b, isIn b L = true → isIn b L' = true) → LkOk S h E l L' → ∃ L, lockAll h (a :: axs) = some L ∧ (∀ b, isIn b h.lk = true → isIn b L = true) ∧ LkOk S h E l L := fun v L' e1 e2 e3 e4 => ⟨L', lockAll_cons g1 e1 e2, fun b hb => e3 b (g2 b hb), e4⟩
      have up : ∀ b c, isIn b L = true → isIn b (c :: L) = true := fun b c hb => isIn_cons.2 (.inr hb)
      split at hl
      · rename_i m o hs
        obtain ⟨v, k1, k2⟩ := ev_rel hE hs
        rw [V_box] at k2
        obtain ⟨_, b, hb, rfl⟩ := k2
        rw [bif_eq] at hl
        split at hl
        · rename_i ha
          cases hl
          obtain ⟨e0, ha⟩ := Option.isSome_iff_exists.1 ha
          exact fin _ (b :: L) k1 rfl (fun c hc => up c b hc) (lk_own M ha hb g3)
        · cases hl
      · rename_i m o n hs
        obtain ⟨v, k1, k2⟩ := ev_rel hE hs
        rw [V_bsl] at k2
        obtain ⟨_, b, hb, rfl, _⟩ := k2
        rw [bif_eq] at hl
        split at hl
        · rename_i ha
          cases hl
          obtain ⟨e0, ha⟩ := Option.isSome_iff_exists.1 ha
          exact fin _ (b :: L) k1 rfl (fun c hc => up c b hc) (lk_own M ha hb g3)
        · cases hl
      · rename_i m hs
        obtain ⟨v, k1, k2⟩ := ev_rel hE hs
        rw [V_row] at k2
        split at hl
        · rename_i e xs hm
          cases hl
          have hv := k2.2.2 e xs (by rw [M.st]; exact hm)
          unfold RowV at hv
          cases hb : E.mb m with
          | none =>
            rw [hb] at hv
            rcases hv.2 with rfl | rfl
            · exact fin _ L k1 rfl (fun _ hb => hb) (lk_more g3)
            · exact fin _ L k1 rfl (fun _ hb => hb) (lk_more g3)
          | some b =>
            rw [hb] at hv
            subst hv
            exact fin _ (b :: L) k1 rfl (fun c hc => up c b hc) (lk_own M hm hb g3)
        · cases hl
      · rename_i m i o hs
        obtain ⟨v, k1, k2⟩ := ev_rel hE hs
        rw [V_ept] at k2
        split at hl
        · rename_i e xs hm
          cases hl
          obtain ⟨b, j, hb, _, _, rfl⟩ := k2.2.2 e xs (by rw [M.st]; exact hm)
          exact fin _ (b :: L) k1 rfl (fun c hc => up c b hc) (lk_own M hm hb g3)
        · cases hl
      · rename_i u x hs
        cases hl
        obtain ⟨v, k1, k2⟩ := ev_rel hE hs
        have ha : (SV.val u x).ag = u.ag := rfl
        have k3 := k2
        unfold V lift at k3
        rw [ha] at k3
        cases u with
        | int _ => have k3 : CR E _ [v] := k3; unfold CR RdC at k3; cases k3; exact fin _ L k1 rfl (fun _ hb => hb) g3
        | bool => have k3 : CR E _ [v] := k3; unfold CR RdC at k3; cases k3; exact fin _ L k1 rfl (fun _ hb => hb) g3
        | str => have k3 : CR E _ [v] := k3; unfold CR RdC at k3; cases k3; exact fin _ L k1 rfl (fun _ hb => hb) g3
        | un => obtain ⟨cs, rfl, _⟩ := k3; exact fin _ L k1 rfl (fun _ hb => hb) g3
        | pair _ _ => obtain ⟨cs, rfl, _⟩ := k3; exact fin _ L k1 rfl (fun _ hb => hb) g3
        | arr _ _ => obtain ⟨cs, rfl, _⟩ := k3; exact fin _ L k1 rfl (fun _ hb => hb) g3
        | list e =>
          rw [V_list] at k2
          rcases k2 with ⟨_, rfl | rfl | rfl⟩ | ⟨b, o, y, ⟨rfl, _⟩, hz, _⟩
          · exact fin _ L k1 rfl (fun _ hb => hb) g3
          · exact fin _ L k1 rfl (fun _ hb => hb) g3
          · exact fin _ L k1 rfl (fun _ hb => hb) g3
          · exact fin _ (b :: L) k1 rfl (fun c hc => up c b hc) (lk_z M hz g3)
      · rename_i u x hs
        cases hl
        obtain ⟨v, k1, k2⟩ := ev_rel hE hs
        rw [V_fpt] at k2
        obtain ⟨b, o, y, ds, rfl, hz, _⟩ := k2
        exact fin _ (b :: L) k1 rfl (fun c hc => up c b hc) (lk_z M hz g3)
      · rename_i hs
        cases hl
        obtain ⟨v, k1, k2⟩ := ev_rel hE hs
        rw [V_int] at k2
        subst k2
        exact fin _ L k1 rfl (fun _ hb => hb) g3
      · rename_i hs
        cases hl
        obtain ⟨v, k1, k2⟩ := ev_rel hE hs
        rw [V_nils] at k2
        subst k2
        exact fin _ L k1 rfl (fun _ hb => hb) g3
      · rename_i hs
        cases hl
        obtain ⟨v, k1, k2⟩ := ev_rel hE hs
        rw [V_esl] at k2
        rcases k2 with rfl | rfl
        · exact fin _ L k1 rfl (fun _ hb => hb) g3
        · exact fin _ L k1 rfl (fun _ hb => hb) g3
      · rename_i hs
        cases hl
        obtain ⟨v, k1, k2⟩ := ev_rel hE hs
        rw [V_undef] at k2
        subst k2
        exact fin _ L k1 rfl (fun _ hb => hb) g3
      · cases hl
    · cases hl
/-- A value that is no map. -/
theorem no_map {S : SS} {h : St} (M : Mem S h E) {s : SV} {b : Nat} (hv : V E s (.map b)) : s = .any ∨ (∃ m i o, s = .ept m i o) ∨ ∃ m, s = .row m ∧ ∀ e xs, S.st.get m ≠ some (.row e xs) := by
  cases s with
  | any => exact .inl rfl
  | undef => rw [V_undef] at hv; cases hv
  | int _ _ _ => rw [V_int] at hv; cases hv
  | bool _ _ => rw [V_bool] at hv; cases hv
  | val u x =>
    exfalso
    cases u with
    | int _ => have k3 : CR E _ [_] := hv; unfold CR RdC at k3; cases k3
    | bool => have k3 : CR E _ [_] := hv; unfold CR RdC at k3; cases k3
    | str => have k3 : CR E _ [_] := hv; unfold CR RdC at k3; cases k3
    | un => obtain ⟨cs, k, _⟩ := hv; cases k
    | pair _ _ => obtain ⟨cs, k, _⟩ := hv; cases k
    | arr _ _ => obtain ⟨cs, k, _⟩ := hv; cases k
    | list e =>
      rw [V_list] at hv
      rcases hv with ⟨_, k | k | k⟩ | ⟨b, o, y, ⟨k, _⟩, hz, _⟩ <;> cases k
  | agg _ => rw [V_agg] at hv; obtain ⟨_, k, _⟩ := hv; cases k
  | tup _ => rw [V_tup] at hv; obtain ⟨_, k, _⟩ := hv; cases k
  | fn _ _ => rw [V_fn] at hv; obtain ⟨_, k, _⟩ := hv; cases k
  | nilp => have k3 : CR E _ [_] := hv; unfold CR at k3; cases k3
  | nils => rw [V_nils] at hv; cases hv
  | esl => rw [V_esl] at hv; rcases hv with k | k <;> cases k
  | nilf => have k3 : CR E _ [_] := hv; unfold CR at k3; cases k3
  | box _ _ => rw [V_box] at hv; obtain ⟨_, _, _, k⟩ := hv; cases k
  | bsl _ _ _ => rw [V_bsl] at hv; obtain ⟨_, _, _, k, _⟩ := hv; cases k
  | row m =>
    refine .inr (.inr ⟨m, rfl, fun e xs hm => ?_⟩)
    rw [V_row] at hv
    have := hv.2.2 e xs (by rw [M.st]; exact hm)
    unfold RowV at this
    cases hb : E.mb m with
    | none => rw [hb] at this; rcases this.2 with k | k <;> cases k
    | some _ => rw [hb] at this; cases this
  | ept m i o => exact .inr (.inl ⟨m, i, o, rfl⟩)
  | fpt _ _ => rw [V_fpt] at hv; obtain ⟨_, _, _, _, k, _⟩ := hv; cases k
theorem okLen_rel {S : SS} {h : St} (M : Mem S h E) (hE : Env S h E) {o : Op} (hk : okLen S o = true) : mapLen h o = false := by
  unfold mapLen
  split
  · rename_i c
    split
    · rename_i hcal
      split
      · rename_i b hev
        exfalso
        unfold okLen at hk
        simp only at hk
        rw [hcal] at hk
        simp only at hk
        cases hl : S.evs c.args.toList with
        | none => rw [hl] at hk; cases hk
        | some l =>
          rw [hl] at hk
          obtain ⟨vs, g1, g2⟩ := evs_rel hE hl
          rw [hev] at g1
          cases g1
          cases l with
          | nil => unfold Vs at g2; cases g2
          | cons s l =>
            unfold Vs at g2
            obtain ⟨v, q, e, h1, h2⟩ := g2
            cases e
            cases l with
            | cons s' l => unfold Vs at h2; obtain ⟨_, _, e, _⟩ := h2; cases e
            | nil =>
              rcases no_map M h1 with rfl | ⟨m, i, o, rfl⟩ | ⟨m, rfl, hm⟩
              · cases hk
              · cases hk
              · simp only at hk
                cases hk
      · rfl
    · rfl
  · rfl
theorem cut_get {S : SS} {h : St} : ∀ (l : List Operand) (t : Nat), ((cutES S l).get t = some (S.tmp t) ∧ (cutEnv h l).get t = some (h.tmp t)) ∨ ((cutES S l).get t = none ∧ (cutEnv h l).get t = none)
  | [], t => .inr ⟨rfl, rfl⟩
  | .tmp j :: l, t => by
    unfold cutES cutEnv
    rw [Tr.get_set, Tr.get_set]
    by_cases hj : t = j
    · rw [if_pos hj, if_pos hj, hj]; exact .inl ⟨rfl, rfl⟩
    · rw [if_neg hj, if_neg hj]; exact cut_get l t
  | .const _ :: l, t => cut_get l t
  | .func _ :: l, t => cut_get l t
  | .global _ :: l, t => cut_get l t
theorem splitG_rel {S : SS} {h : St} (M : Mem S h E) (hE : Env S h E) {ops : Array Oper} {o : Oper} {K : SS → Option R} (hk : splitG ops o S K = some r) : ∃ S2, K S2 = some r ∧ Mem S2 h E ∧ Env S2 h E ∧ Gr S h E S2 h E ∧ ∀ t, isIn t S.kp = true → S2.tmp t = S.tmp t := by
  have stay : K S = some r → ∃ S2, K S2 = some r ∧ Mem S2 h E ∧ Env S2 h E ∧ Gr S h E S2 h E ∧ ∀ t, isIn t S.kp = true → S2.tmp t = S.tmp t := fun hs => ⟨S, hs, M, hE, Gr.refl, fun _ _ => rfl⟩
  unfold splitG at hk
  split at hk
  · exact stay hk
  · split at hk
    · rename_i g _
      split at hk
      · rename_i b hb
        rw [bif_eq] at hk
        split at hk
        · cases hk
        · rename_i hkp
          have hv := hE.v g
          rw [hb, V_bool] at hv
          have fin : ∀ b', b = b' → K (S.setE g (.bool true b')) = some r → ∃ S2, K S2 = some r ∧ Mem S2 h E ∧ Env S2 h E ∧ Gr S h E S2 h E ∧ ∀ t, isIn t S.kp = true → S2.tmp t = S.tmp t := by
            intro b' hbb hs
            obtain ⟨m1, m2, m3⟩ := setE_rel M hE (g := g) (s := .bool true b') (V_bool.2 (by rw [hv, hbb]))
            refine ⟨_, hs, m1, m2, m3, fun t ht => ?_⟩
            unfold SS.setE SS.tmp
            simp only
            rw [Tr.get_set, if_neg]
            rintro rfl
            exact hkp ht
          rcases cnd_some hk with ⟨h1, h2⟩ | ⟨h1, h2⟩
          · exact fin true h1 h2
          · exact fin false h1 h2
      · exact stay hk
    · exact stay hk
theorem StR.gr {S S2 : SS} {h : St} {K : SS → Option R} {f : Nat → Option St} (hg : Gr S h E S2 h E) (hkp : ∀ t, isIn t S.kp = true → S2.tmp t = S.tmp t) (p : StR S2 h E K r f) : StR S h E K r f := by
  obtain ⟨h', S', E', q1, q2, q3, q4, q5, q6⟩ := p
  exact ⟨h', S', E', q1, q2, q3, hg.trans q4, fun t ht => (q5 t (by rw [hg.kp]; exact ht)).trans (hkp t ht), q6⟩
theorem itemsS_rel (hct : ∀ f c, cy.ct.get f = some c → COk cy.cx f c) {ih : Sym} (hih : SymOk cy ih) {ops : Array Oper} : ∀ {l : List Hm.Item} {S : SS} {h : St} {E : En} {K : SS → Option R}, itemsS cy ih ops S l K = some r → Mem S h E → Env S h E → StR S h E K r (fun k => runItems cy.cx (run cy.cx k) ops h l)
  | [], S, h, E, K, hk, M, hE => ⟨h, S, E, ⟨0, fun _ _ => rfl⟩, M, hE, Gr.refl, fun _ _ => rfl, hk⟩
  | x :: l, S, h, E, K, hk, M, hE => by
    unfold itemsS at hk
    obtain ⟨S2, hk, M, hE, gg, gk⟩ := splitG_rel M hE hk
    refine StR.gr gg gk ?_
    clear gg gk
    generalize S2 = S at hk M hE
    split at hk
    · rename_i lk hlk
      rw [bif_eq] at hk
      split at hk
      · rename_i hcond
        simp only [Bool.and_eq_true] at hcond
        obtain ⟨L, g1, g2, g3⟩ := lockS_rel M hE hlk
        have Mc : Mem (S.cut ops x.o lk) (h.cut ops x.o L) E := ⟨M.hp, M.st, M.nx, M.lt, M.ent, M.inj, M.own, M.z, M.fr, g3, M.mbl⟩
        have hEc : Env (S.cut ops x.o lk) (h.cut ops x.o L) E := by
          refine ⟨hE.nt, fun t => ?_⟩
          unfold SS.cut St.cut SS.tmp St.tmp
          rcases cut_get (S := S) (h := h) (guardSlot ops x.o ++ x.o.op.operands.toList) t with ⟨a, b⟩ | ⟨a, b⟩
          · simp only [a, b]; exact hE.v t
          · simp only [a, b]; exact V_any
        obtain ⟨h1, S1, E1, ⟨k1, q1⟩, q2, q3, q4, q5, q6⟩ := stepS_rel hct hih Mc hEc hk
        have gt : Gr S h E (S.take x.o S1) (h.take x.o h1) E1 := q4.re rfl rfl (fun _ _ h => h) rfl rfl g2 rfl rfl rfl rfl rfl rfl rfl rfl rfl rfl rfl rfl
        have Mt : Mem (S.take x.o S1) (h.take x.o h1) E1 := by
          refine ⟨q2.hp, q2.st, q2.nx, q2.lt, q2.ent, q2.inj, q2.own, q2.z, q2.fr, fun b hb => ⟨?_, fun m e hm hmb => ?_⟩, q2.mbl⟩
          · exact Nat.lt_of_lt_of_le (M.lk b hb).1 gt.nx
          · obtain ⟨e0, k1, k2⟩ := gt.lkk b m e hb hm hmb
            exact (M.lk b hb).2 m e0 k1 k2
        have hEt : Env (S.take x.o S1) (h.take x.o h1) E1 := by
          refine ⟨hE.nt, fun t => ?_⟩
          have old : V E1 (S.tmp t) (h.tmp t) := (hE.v t).gr gt M Mt
          unfold SS.take St.take SS.tmp St.tmp
          cases hd : x.o.dst with
          | none => simp only; exact old
          | some d =>
            simp only
            rw [Tr.get_set, Tr.get_set]
            by_cases ht : t = d
            · rw [if_pos ht, if_pos ht]
              exact q3.v d
            · rw [if_neg ht, if_neg ht]; exact old
        obtain ⟨h2, S2, E2, ⟨k2, p1⟩, p2, p3, p4, p5, p6⟩ := itemsS_rel hct hih q6 Mt hEt
        refine ⟨h2, S2, E2, ⟨max k1 k2, fun k hkk => ?_⟩, p2, p3, gt.trans p4, fun t ht => ?_, p6⟩
        · show (match lockAll h x.lk with | some l0 => (bif mapLen h x.o.op then none else (match step1 cy.cx (run cy.cx k) ops (h.cut ops x.o l0) x.o with | some t => runItems cy.cx (run cy.cx k) ops (h.take x.o t) l | none => none)) | none => none) = _
          rw [g1]
          simp only
          rw [okLen_rel M hE hcond.1]
          have e : step1 cy.cx (run cy.cx k) ops (h.cut ops x.o L) x.o = some h1 := q1 k (Nat.le_trans (Nat.le_max_left _ _) hkk)
          rw [e]
          exact p1 k (Nat.le_trans (Nat.le_max_right _ _) hkk)
        · rw [p5 t ht]
          unfold SS.take SS.tmp
          cases hd : x.o.dst with
          | none => rfl
          | some d =>
            rw [hd] at hcond
            simp only
            rw [Tr.get_set, if_neg]
            rintro rfl
            have h2 : (!isIn t S.kp) = true := hcond.2
            have ht : isIn t S.kp = true := ht
            rw [ht] at h2; cases h2
      · cases hk
    · cases hk
end
end Go.Ls
namespace Go.Ls
open Go Go.Hm
section
variable {E : En}
mutual
theorem CR_lt : ∀ {s : SV} {cs : List HV}, CR E s cs → ltS E.nx s = true
  | .any, _, _ => by unfold ltS; rfl
  | .undef, _, _ => by unfold ltS; rfl
  | .int _ _ _, _, _ => by unfold ltS; rfl
  | .bool _ _, _, _ => by unfold ltS; rfl
  | .val _ _, _, _ => by unfold ltS; rfl
  | .agg is, _, h => by unfold CR at h; unfold ltS; exact CRs_lt h
  | .tup vs, _, h => by unfold CR at h; obtain ⟨l, _, h⟩ := h; unfold ltS; exact Vs_lt h
  | .fn _ vs, _, h => by unfold CR at h; obtain ⟨l, _, h⟩ := h; unfold ltS; exact Vs_lt h
  | .nilp, _, _ => by unfold ltS; rfl
  | .nils, _, _ => by unfold ltS; rfl
  | .esl, _, _ => by unfold ltS; rfl
  | .nilf, _, _ => by unfold ltS; rfl
  | .box m _, _, h => by unfold CR at h; unfold ltS; rw [Nat.blt_eq]; exact h.1
  | .bsl m _ _, _, h => by unfold CR at h; unfold ltS; rw [Nat.blt_eq]; exact h.1
  | .row m, _, h => by unfold CR at h; unfold ltS; rw [Nat.blt_eq]; exact h.1
  | .ept m _ _, _, h => by unfold CR at h; unfold ltS; rw [Nat.blt_eq]; exact h.1
  | .fpt _ _, _, _ => by unfold ltS; rfl
theorem CRs_lt : ∀ {is : List SV} {cs : List HV}, CRs E is cs → ltSs E.nx is = true
  | [], _, _ => by unfold ltSs; rfl
  | i :: is, _, h => by
    unfold CRs at h
    obtain ⟨c, d, _, h1, h2⟩ := h
    unfold ltSs
    rw [CR_lt h1, CRs_lt h2]; rfl
theorem Vs_lt : ∀ {is : List SV} {cs : List HV}, Vs E is cs → ltSs E.nx is = true
  | [], _, _ => by unfold ltSs; rfl
  | i :: is, _, h => by
    unfold Vs at h
    obtain ⟨c, d, _, h1, h2⟩ := h
    unfold ltSs
    have : ltS E.nx i = true := by
      unfold lift at h1
      cases hi : i.ag with
      | true => rw [hi] at h1; obtain ⟨cs, _, h3⟩ := h1; exact CR_lt h3
      | false => rw [hi] at h1; exact CR_lt h1
    rw [this, Vs_lt h2]; rfl
end
theorem V_lt {s : SV} {v : HV} (h : V E s v) : ltS E.nx s = true := by
  unfold V lift at h
  cases hi : s.ag with
  | true => rw [hi] at h; obtain ⟨cs, _, h3⟩ := h; exact CR_lt h3
  | false => rw [hi] at h; exact CR_lt h
/-- An entry for memory that belongs to none. -/
theorem put_ent {T : SS} {h : St} (M : Mem T h E) {j nx2 : Nat} {mb2 : Nat → Option Nat} {e : Ent} (h0 : T.st.get j = none) (h1 : T.nx ≤ nx2) (h2 : j < nx2) (h3 : ∀ i, i ≠ j → mb2 i = E.mb i) (h4 : j < T.nx → mb2 j = E.mb j) (h5 : j < T.nx → ∀ u xs, e ≠ .row u xs)
    (h6 : ∀ b, mb2 j = some b → b < h.nx ∧ ¬ E.Z b ∧ (∀ m e, T.st.get m = some e → E.mb m ≠ some b) ∧ isIn b h.lk = false)
    (he : Fm E.nx E ⟨h.hp, E.Z, mb2, T.st.set j e, nx2⟩ → EntR ⟨h.hp, E.Z, mb2, T.st.set j e, nx2⟩ j e) :
    Mem (T.mem (T.st.set j e) nx2) h ⟨h.hp, E.Z, mb2, T.st.set j e, nx2⟩ ∧ Fm E.nx E ⟨h.hp, E.Z, mb2, T.st.set j e, nx2⟩ := by
  have hget : ∀ i, (T.st.set j e).get i = if i = j then some e else T.st.get i := fun i => Tr.get_set _ _ _ _
  have hst : ∀ i e', (T.st.set j e).get i = some e' → (i = j ∧ e' = e) ∨ (i ≠ j ∧ T.st.get i = some e') := by
    intro i e' hi
    rw [hget] at hi
    split at hi
    · cases hi; exact .inl ⟨by assumption, rfl⟩
    · exact .inr ⟨by assumption, hi⟩
  have f : Fm E.nx E ⟨h.hp, E.Z, mb2, T.st.set j e, nx2⟩ := ⟨fun _ hb => hb, fun _ _ => by rw [M.hp], by rw [M.nx]; exact h1, fun m hm => by
    by_cases hmj : m = j
    · subst hmj; exact h4 (by rw [← M.nx]; exact hm)
    · exact h3 m hmj, fun m u xs hm hx => by
    rcases hst m _ hx with ⟨rfl, g⟩ | ⟨_, g⟩
    · exact absurd g.symm (h5 (by rw [← M.nx]; exact hm) u xs)
    · exact ⟨xs, by rw [M.st]; exact g, rfl⟩⟩
  refine ⟨⟨rfl, rfl, rfl, fun m e' hm => ?_, fun m e' hm => ?_, fun m m' e1 e2 b hm hm' hb hb' => ?_, fun m e' b hm hb => ?_, M.z, M.fr, fun b hb => ⟨(M.lk b hb).1, fun m e' hm hmb => ?_⟩, fun m b hmb => ?_⟩, f⟩
  · rcases hst m _ hm with ⟨rfl, _⟩ | ⟨_, g⟩
    · exact h2
    · exact Nat.lt_of_lt_of_le (M.lt m e' g) h1
  · rcases hst m _ hm with ⟨rfl, rfl⟩ | ⟨hne, g⟩
    · exact he f
    · exact (M.ent m e' g).fm f (h3 m hne) (fun b _ => by rw [M.hp])
  · rcases hst m _ hm with ⟨rfl, rfl⟩ | ⟨hne, g⟩
    · rcases hst m' _ hm' with ⟨rfl, rfl⟩ | ⟨hne', g'⟩
      · rfl
      · have hb' : mb2 m' = some b := hb'
        rw [h3 m' hne'] at hb'
        exact absurd hb' ((h6 b hb).2.2.1 m' e2 g')
    · have hb2 : E.mb m = some b := by rw [← h3 m hne]; exact hb
      rcases hst m' _ hm' with ⟨rfl, rfl⟩ | ⟨hne', g'⟩
      · exact absurd hb2 ((h6 b hb').2.2.1 m e1 g)
      · have hb3 : E.mb m' = some b := by rw [← h3 m' hne']; exact hb'
        exact M.inj m m' e1 e2 b g g' hb2 hb3
  · rcases hst m _ hm with ⟨rfl, rfl⟩ | ⟨hne, g⟩
    · exact ⟨(h6 b hb).2.1, (h6 b hb).1⟩
    · have hb : mb2 m = some b := hb
      rw [h3 m hne] at hb
      exact M.own m e' b g hb
  · rcases hst m _ hm with ⟨rfl, rfl⟩ | ⟨hne, g⟩
    · have := (h6 b hmb).2.2.2
      rw [hb] at this; cases this
    · have hmb : mb2 m = some b := hmb
      rw [h3 m hne] at hmb
      exact (M.lk b hb).2 m e' g hmb
  · by_cases hmj : m = j
    · subst hmj; exact (h6 b hmb).1
    · have hmb : mb2 m = some b := hmb
      rw [h3 m hmj] at hmb
      exact M.mbl m b hmb
/-- More memory is frozen. -/
theorem zgrow {T : SS} {h : St} (M : Mem T h E) {Z2 : Nat → Prop} (h1 : ∀ b, E.Z b → Z2 b) (h2 : ∀ m e b, T.st.get m = some e → E.mb m = some b → ¬ Z2 b) (h3 : ∀ b, Z2 b → b < h.nx) : Mem T h ⟨E.hp, Z2, E.mb, E.st, E.nx⟩ ∧ Fm E.nx E ⟨E.hp, Z2, E.mb, E.st, E.nx⟩ := by
  have f : Fm E.nx E ⟨E.hp, Z2, E.mb, E.st, E.nx⟩ := ⟨h1, fun _ _ => rfl, Nat.le_refl _, fun _ _ => rfl, fun m u xs _ hx => ⟨xs, hx, rfl⟩⟩
  exact ⟨⟨M.hp, M.st, M.nx, M.lt, fun m e hm => (M.ent m e hm).fm f rfl (fun _ _ => rfl), M.inj, fun m e b hm hb => ⟨h2 m e b hm hb, (M.own m e b hm hb).2⟩, h3, M.fr, M.lk, M.mbl⟩, f⟩
end
/-- A state that is being put together, out of S' (E'), as it was in S0 where nothing was written. -/
structure J (S0 S' : SS) (h' : St) (E' : En) (wr P : List Nat) (T : SS) (E : En) (mv fr : List Nat) : Prop where
  M : Mem T h' E
  f1 : T.nt = S0.nt
  f2 : T.lk = S0.lk
  f3 : T.base = S0.base
  f4 : T.wr = S0.wr
  f5 : T.kp = S0.kp
  nx : S0.nx ≤ T.nx
  v : ∀ t, V E (T.tmp t) (h'.tmp t)
  p : ∀ t, isIn t P = true → T.tmp t = S0.tmp t
  mb : ∀ m, m < S0.nx → E.mb m = E'.mb m
  z : ∀ b, E'.Z b → E.Z b
  z' : ∀ b, E.Z b → E'.Z b ∨ ∃ m e, isIn m fr = true ∧ S'.st.get m = some e ∧ E'.mb m = some b
  src : ∀ m e b, T.st.get m = some e → E.mb m = some b → (m < S0.nx ∧ isIn m wr = false ∧ S0.st.get m = some e) ∨ ∃ m' e', isIn m' mv = true ∧ S'.canW m' = true ∧ S'.st.get m' = some e' ∧ E'.mb m' = some b
  unw : ∀ m, m < S0.nx → isIn m wr = false → T.st.get m = S0.st.get m
  box : ∀ m e, m < S0.nx → isIn m wr = true → T.st.get m = some e → (∃ z is, e = .box z is) ∧ S0.st.get m ≠ none ∧ isIn m mv = true
section
variable {S0 S' T : SS} {h' : St} {E' E : En} {wr P mv fr : List Nat}
/-- What is known of S'. -/
structure JC (S0 S' : SS) (h' : St) (E' : En) (wr : List Nat) : Prop where
  M : Mem S' h' E'
  v : ∀ t, V E' (S'.tmp t) (h'.tmp t)
  fbase : S'.base = S0.nx
  fwr : S'.wr = wr
  cant : ∀ m, m < S0.nx → isIn m wr = false → S'.st.get m = S0.st.get m
theorem JC.old (C : JC S0 S' h' E' wr) {m : Nat} (hm : m < S0.nx) (hw : isIn m wr = false) : S'.can m = false := by
  unfold SS.can
  rw [C.fbase, C.fwr, hw]
  cases hq : Nat.ble S0.nx m with
  | false => rfl
  | true => rw [Nat.ble_eq] at hq; omega
/-- What may be moved belongs to nobody in what is put together. -/
theorem J.free (j : J S0 S' h' E' wr P T E mv fr) (C : JC S0 S' h' E' wr) {m b : Nat} {e : Ent} (hm : S'.st.get m = some e) (hb : E'.mb m = some b) (hc : S'.canW m = true) (h1 : isIn m mv = false) (h2 : isIn m fr = false) : b < h'.nx ∧ ¬ E.Z b ∧ (∀ m e, T.st.get m = some e → E.mb m ≠ some b) ∧ isIn b h'.lk = false := by
  obtain ⟨hc1, hc2⟩ := canW_some hc
  refine ⟨(C.M.own m e b hm hb).2, fun hz => ?_, fun m1 e1 hm1 hb1 => ?_, not_lk C.M hm hb hc2⟩
  · rcases j.z' b hz with g | ⟨m2, e2, g1, g2, g3⟩
    · exact (C.M.own m e b hm hb).1 g
    · have := C.M.inj m m2 e e2 b hm g2 hb g3
      subst this
      rw [h2] at g1; cases g1
  · rcases j.src m1 e1 b hm1 hb1 with ⟨g1, g2, g3⟩ | ⟨m2, e2, g1, _, g2, g3⟩
    · have hs : S'.st.get m1 = some e1 := by rw [C.cant m1 g1 g2]; exact g3
      have := C.M.inj m m1 e e1 b hm hs hb (by rw [← j.mb m1 g1]; exact hb1)
      subst this
      rw [C.old g1 g2] at hc1; cases hc1
    · have := C.M.inj m m2 e e2 b hm g2 hb g3
      subst this
      rw [h1] at g1; cases g1
/-- An own row is moved in. -/
theorem J.own (j : J S0 S' h' E' wr P T E mv fr) (C : JC S0 S' h' E' wr) {e : U} {s : SV} {v : HV} {xs : List (D e)} {mv' : List Nat} (ho : ownH S' e s mv fr = some (xs, mv')) (hv : V E' s v) :
    ∃ E2, J S0 S' h' E' wr P (T.new (.row e xs)) E2 mv' fr ∧ Fm E.nx E E2 ∧ V E2 (.row T.nx) v ∧ (∀ i, i < S0.nx → (T.new (.row e xs)).st.get i = T.st.get i) ∧ (∀ m, isIn m mv = true → isIn m mv' = true) := by
  have fin : ∀ (o : Option Nat) (mv' : List Nat), (∀ m, isIn m mv = true → isIn m mv' = true) →
      (∀ b, o = some b → b < h'.nx ∧ ¬ E.Z b ∧ (∀ m e, T.st.get m = some e → E.mb m ≠ some b) ∧ isIn b h'.lk = false) →
      (∀ b, o = some b → ∃ m' e', isIn m' mv' = true ∧ S'.canW m' = true ∧ S'.st.get m' = some e' ∧ E'.mb m' = some b) →
      xs.length ≤ 140737488355328 → RowR E' o e xs → RowV o xs.length v → bcells v = some [v] →
      ∃ E2, J S0 S' h' E' wr P (T.new (.row e xs)) E2 mv' fr ∧ Fm E.nx E E2 ∧ V E2 (.row T.nx) v ∧ (∀ i, i < S0.nx → (T.new (.row e xs)).st.get i = T.st.get i) ∧ (∀ m, isIn m mv = true → isIn m mv' = true) := by
    intro o mv' hmv ho hsrc hlen hr hrv hbc
    have hTn : T.st.get T.nx = none := by
      cases hq : T.st.get T.nx with
      | none => rfl
      | some e' => have := j.M.lt _ _ hq; omega
    have hmb : ∀ i, i ≠ T.nx → (fun i => bif Nat.beq i T.nx then o else E.mb i) i = E.mb i := by
      intro i hi
      show (bif Nat.beq i T.nx then o else E.mb i) = _
      rw [beq_false hi]; rfl
    have hmbn : (fun i => bif Nat.beq i T.nx then o else E.mb i) T.nx = o := by
      show (bif Nat.beq T.nx T.nx then o else E.mb T.nx) = _
      rw [show Nat.beq T.nx T.nx = true by simp]; rfl
    obtain ⟨M2, f2⟩ := put_ent (j := T.nx) (nx2 := T.nx + 1) (mb2 := fun i => bif Nat.beq i T.nx then o else E.mb i) (e := .row e xs) j.M hTn (Nat.le_succ _) (Nat.lt_succ_self _) hmb (fun h => absurd h (Nat.lt_irrefl _)) (fun h => absurd h (Nat.lt_irrefl _)) (fun b hb => ho b (by have hb : (fun i => bif Nat.beq i T.nx then o else E.mb i) T.nx = some b := hb; rw [hmbn] at hb; exact hb)) (fun f => ⟨hlen, by
      show RowR _ ((fun i => bif Nat.beq i T.nx then o else E.mb i) T.nx) e xs
      rw [hmbn]
      unfold RowR at hr ⊢
      cases o with
      | none => exact hr
      | some b =>
        obtain ⟨y, p1, p2, p3, p4, p5⟩ := hr
        refine ⟨y, by show h'.hp.get b = _; rw [← C.M.hp]; exact p1, p2, p3, p4, fun i x hx => ?_⟩
        obtain ⟨cs, k1, k2⟩ := p5 i x hx
        exact ⟨cs, k1, k2.mono j.z (fun b _ => by show h'.hp.get b = _; rw [C.M.hp])⟩⟩)
    have hget : ∀ i, (T.st.set T.nx (.row e xs)).get i = if i = T.nx then some (.row e xs) else T.st.get i := fun i => Tr.get_set _ _ _ _
    have hold : ∀ i, i < S0.nx → (T.st.set T.nx (.row e xs)).get i = T.st.get i := fun i hi => by
      rw [hget, if_neg]; have := j.nx; omega
    refine ⟨_, ⟨M2, j.f1, j.f2, j.f3, j.f4, j.f5, Nat.le_trans j.nx (Nat.le_succ _), fun t => (j.v t).fm f2 (.inl rfl), j.p, fun m hm => ?_, j.z, j.z', fun m e1 b hm hb => ?_, fun m hm hw => ?_, fun m e1 hm hw hg => ?_⟩, f2, V_row.2 ⟨Nat.lt_succ_self _, hbc, fun u ys hy => ?_⟩, hold, hmv⟩
    · exact (hmb m (by have := j.nx; omega)).trans (j.mb m hm)
    · have hm : (T.st.set T.nx (.row e xs)).get m = some e1 := hm
      rw [hget] at hm
      split at hm
      · rename_i hmn
        subst hmn
        have hb : (fun i => bif Nat.beq i T.nx then o else E.mb i) T.nx = some b := hb
        rw [hmbn] at hb
        exact .inr (hsrc b hb)
      · rename_i hmn
        have hb : (fun i => bif Nat.beq i T.nx then o else E.mb i) m = some b := hb
        rw [hmb m hmn] at hb
        rcases j.src m e1 b hm hb with g | ⟨m', e', g1, g2⟩
        · exact .inl g
        · exact .inr ⟨m', e', hmv m' g1, g2⟩
    · exact (hold m hm).trans (j.unw m hm hw)
    · have hg : (T.st.set T.nx (.row e xs)).get m = some e1 := hg
      rw [hold m hm] at hg
      obtain ⟨q1, q2, q3⟩ := j.box m e1 hm hw hg
      exact ⟨q1, q2, hmv m q3⟩
    · have hy : (T.st.set T.nx (.row e xs)).get T.nx = some (.row u ys) := hy
      rw [Tr.get_set_same] at hy
      cases hy
      show RowV ((fun i => bif Nat.beq i T.nx then o else E.mb i) T.nx) xs.length v
      rw [hmbn]; exact hrv
  unfold ownH at ho
  split at ho
  · rename_i m
    split at ho
    · rename_i u ys hm
      split at ho
      · rename_i zs hzs
        rw [bif_eq] at ho
        split at ho
        · rename_i hc
          simp only [Bool.and_eq_true] at hc
          obtain ⟨hc1, hc2, hc3⟩ := hc
          have hc2 : isIn m mv = false := by simpa using hc2
          have hc3 : isIn m fr = false := by simpa using hc3
          cases ho
          obtain ⟨e0, e1⟩ := castD_some hzs
          cases e0
          have e1 : ys = xs := e1
          subst e1
          rw [V_row] at hv
          have hrv := hv.2.2 e ys (by rw [C.M.st]; exact hm)
          obtain ⟨hl, hr⟩ := C.M.ent m _ hm
          refine fin (E'.mb m) (m :: mv) (fun m' h => isIn_cons.2 (.inr h)) (fun b hb => j.free C hm hb hc1 hc2 hc3) (fun b hb => ⟨m, _, isIn_cons.2 (.inl rfl), hc1, hm, hb⟩) hl hr hrv hv.2.1
        · cases ho
      · cases ho
    · cases ho
  · cases ho
    rw [V_nils] at hv
    subst hv
    exact fin none mv (fun _ h => h) (fun b hb => by cases hb) (fun b hb => by cases hb) (Nat.zero_le _) rfl ⟨rfl, .inl rfl⟩ rfl
  · cases ho
    rw [V_esl] at hv
    exact fin none mv (fun _ h => h) (fun b hb => by cases hb) (fun b hb => by cases hb) (Nat.zero_le _) rfl ⟨rfl, hv⟩ (by rcases hv with rfl | rfl <;> rfl)
  · cases ho
theorem canAll_some {S : SS} : ∀ {L : List Nat}, canAll S L = true → ∀ m, m ∈ L → S.can m = true
  | [], _, m, hm => by cases hm
  | a :: L, h, m, hm => by
    unfold canAll at h
    rw [Bool.and_eq_true] at h
    rcases List.mem_cons.1 hm with rfl | hm
    · exact h.1
    · exact canAll_some h.2 m hm
theorem disj_some {a : List Nat} : ∀ {L : List Nat}, disj a L = true → ∀ m, m ∈ L → isIn m a = false
  | [], _, m, hm => by cases hm
  | b :: L, h, m, hm => by
    unfold disj at h
    rw [Bool.and_eq_true] at h
    rcases List.mem_cons.1 hm with rfl | hm
    · simpa using h.1
    · exact disj_some h.2 m hm
/-- A value is read; what is behind it is frozen. -/
theorem J.val (j : J S0 S' h' E' wr P T E mv fr) (C : JC S0 S' h' E' wr) {u : U} {is rs : List SV} {cs : List HV} {x : D u} {k : List Nat} (hv : valH S' u is mv fr = some (x, rs, k)) (hc : CRs E' is cs) :
    ∃ E2, J S0 S' h' E' wr P T E2 mv (k ++ fr) ∧ Fm E.nx E E2 ∧ ∃ c d, cs = c ++ d ∧ RdC E2.hp E2.Z u c x ∧ CRs E' rs d := by
  unfold valH at hv
  split at hv
  · rename_i x' r' hrd
    split at hv
    · rename_i L hL
      rw [bif_eq] at hv
      split at hv
      · rename_i hcond
        rw [Bool.and_eq_true] at hcond
        cases hv
        have hcan := canAll_some hcond.1
        have hdj := disj_some hcond.2
        obtain ⟨M2, f2⟩ := zgrow (Z2 := fun b => E.Z b ∨ ∃ m e, m ∈ k ∧ S'.st.get m = some e ∧ E'.mb m = some b) j.M (fun b hb => .inl hb) (fun m e b hm hb hz => by
          rcases hz with hz | ⟨m2, e2, q1, q2, q3⟩
          · exact (j.M.own m e b hm hb).1 hz
          · rcases j.src m e b hm hb with ⟨g1, g2, g3⟩ | ⟨m3, e3, g1, _, g2, g3⟩
            · have hs : S'.st.get m = some e := by rw [C.cant m g1 g2]; exact g3
              have := C.M.inj m m2 e e2 b hs q2 (by rw [← j.mb m g1]; exact hb) q3
              subst this
              have := hcan m q1
              rw [C.old g1 g2] at this; cases this
            · have := C.M.inj m3 m2 e3 e2 b g2 q2 g3 q3
              subst this
              rw [hdj m3 q1] at g1; cases g1) (fun b hz => by
          rcases hz with hz | ⟨m2, e2, q1, q2, q3⟩
          · exact j.M.z b hz
          · exact (C.M.own m2 e2 b q2 q3).2)
        refine ⟨_, ⟨M2, j.f1, j.f2, j.f3, j.f4, j.f5, j.nx, fun t => (j.v t).fm f2 (.inl rfl), j.p, j.mb, fun b hb => .inl (j.z b hb), fun b hb => ?_, j.src, j.unw, j.box⟩, f2, ?_⟩
        · rcases hb with hb | ⟨m2, e2, q1, q2, q3⟩
          · rcases j.z' b hb with g | ⟨m, e, g1, g2⟩
            · exact .inl g
            · exact .inr ⟨m, e, isIn_iff.2 (List.mem_append_right _ (isIn_iff.1 g1)), g2⟩
          · exact .inr ⟨m2, e2, isIn_iff.2 (List.mem_append_left _ q1), q2, q3⟩
        · obtain ⟨c, d, e1, g1, g2, _⟩ := rdI_rel (E := E') (Q := fun b => E.Z b ∨ ∃ m e, m ∈ k ∧ S'.st.get m = some e ∧ E'.mb m = some b) (k := 3) (fun b hb => .inl (j.z b hb)) (fun m e hm => C.M.ent m e (by rw [← C.M.st]; exact hm)) (by rw [C.M.st]; exact hrd) hc (rowsK_cov (by rw [C.M.st]; exact hL) (fun m e b hm he hb => .inr ⟨m, e, hm, by rw [← C.M.st]; exact he, hb⟩))
          exact ⟨c, d, e1, by
            have : E.hp = E'.hp := by rw [j.M.hp, C.M.hp]
            show RdC E.hp _ u c x
            rw [this]; exact g1, g2⟩
      · cases hv
    · cases hv
  · cases hv
theorem Fm.trans {n : Nat} {E1 E2 E3 : En} (a : Fm n E1 E2) (b : Fm E2.nx E2 E3) : Fm n E1 E3 := ⟨fun x hx => b.z x (a.z x hx), fun x hx => by rw [b.h x (a.z x hx), a.h x hx], Nat.le_trans a.nx b.nx, fun m hm => by rw [b.mb m (Nat.lt_of_lt_of_le hm a.nx), a.mb m hm], fun m e xs hm hx => by
  obtain ⟨ys, g1, g2⟩ := b.row m e xs (Nat.lt_of_lt_of_le hm a.nx) hx
  obtain ⟨zs, g3, g4⟩ := a.row m e ys hm g1
  exact ⟨zs, g3, g4.trans g2⟩⟩
theorem Fm.refl {E : En} : Fm E.nx E E := ⟨fun _ h => h, fun _ _ => rfl, Nat.le_refl _, fun _ _ => rfl, fun _ _ xs _ h => ⟨xs, h, rfl⟩⟩
/-- The parts of a variable. -/
theorem J.parts (C : JC S0 S' h' E' wr) : ∀ {ks : List (Bool × U)} {is : List SV} {cs : List HV} {T : SS} {E : En} {mv fr : List Nat} {x : D (kCode ks)} {mv' fr' : List Nat}, J S0 S' h' E' wr P T E mv fr → CRs E' is cs → absK S' ks is mv fr = some (x, mv', fr') →
    ∃ E2, J S0 S' h' E' wr P (conK ks x T).2 E2 mv' fr' ∧ Fm E.nx E E2 ∧ CRs E2 (conK ks x T).1 cs ∧ (∀ i, i < S0.nx → (conK ks x T).2.st.get i = T.st.get i) ∧ (∀ t, (conK ks x T).2.tmp t = T.tmp t)
  | [], [], cs, T, E, mv, fr, x, mv', fr', j, hc, ha => by
    cases ha
    exact ⟨E, j, Fm.refl, by unfold CRs at hc; subst hc; show CRs E [] []; unfold CRs; rfl, fun _ _ => rfl, fun _ => rfl⟩
  | [], _ :: _, _, _, _, _, _, _, _, _, _, _, ha => by cases ha
  | (true, e) :: ks, v :: is, cs, T, E, mv, fr, x, mv', fr', j, hc, ha => by
    unfold absK at ha
    split at ha
    · rename_i y mv1 ho
      split at ha
      · rename_i z q hr
        cases ha
        unfold CRs at hc
        obtain ⟨c, d, rfl, h1, h2⟩ := hc
        have hag : v.ag = false := by
          unfold ownH at ho
          cases v <;> first | rfl | cases ho
        obtain ⟨w, rfl, hw⟩ := CR_one hag h1
        obtain ⟨E1, j1, f1, v1, o1, _⟩ := j.own C ho hw
        obtain ⟨E2, j2, f2, c2, o2, t2⟩ := J.parts C j1 h2 hr
        refine ⟨E2, j2, f1.trans f2, ?_, fun i hi => (o2 i hi).trans (o1 i hi), fun t => t2 t⟩
        show CRs E2 (.row T.nx :: _) _
        unfold CRs
        exact ⟨[w], d, rfl, (V.fm f2 (.inl rfl) v1), c2⟩
      · cases ha
    · cases ha
  | (true, e) :: ks, [], _, _, _, _, _, _, _, _, _, _, ha => by cases ha
  | (false, u) :: ks, is, cs, T, E, mv, fr, x, mv', fr', j, hc, ha => by
    unfold absK at ha
    split at ha
    · rename_i c d hcut
      split at ha
      · rename_i y k hval
        split at ha
        · rename_i z q hr
          cases ha
          obtain ⟨c1, c2, rfl, g1, g2, g3⟩ := cutI_rel hcut hc
          obtain ⟨E1, j1, f1, c3, c4, rfl, r1, r2⟩ := j.val C hval g2
          unfold CRs at r2
          subst r2
          obtain ⟨E2, j2, f2, q2, o2, t2⟩ := J.parts C j1 g3 hr
          refine ⟨E2, j2, f1.trans f2, ?_, o2, t2⟩
          show CRs E2 (Ls.mk u y :: _) _
          unfold CRs
          exact ⟨c3, c2, by simp, CR_mk.2 (r1.mono f2.z f2.h), q2⟩
        · cases ha
      · cases ha
    · cases ha
theorem J.setE (j : J S0 S' h' E' wr P T E mv fr) {t : Nat} {s : SV} (hs : V E s (h'.tmp t)) (ht : isIn t P = false) : J S0 S' h' E' wr P (T.setE t s) E mv fr := by
  refine ⟨j.M.re rfl rfl rfl rfl rfl rfl, j.f1, j.f2, j.f3, j.f4, j.f5, j.nx, fun i => ?_, fun i hi => ?_, j.mb, j.z, j.z', j.src, j.unw, j.box⟩
  · unfold SS.setE SS.tmp
    simp only
    rw [Tr.get_set]
    by_cases h : i = t
    · rw [if_pos h, h]; exact hs
    · rw [if_neg h]; exact j.v i
  · unfold SS.setE SS.tmp
    simp only
    rw [Tr.get_set, if_neg]
    · exact j.p i hi
    · rintro rfl
      rw [hi] at ht; cases ht
theorem J.con (C : JC S0 S' h' E' wr) (hkp : ∀ t, isIn t P = true → S'.tmp t = S0.tmp t) : ∀ {h : List Hi} {d : D (hCode h)} {T : SS} {E : En} {mv fr : List Nat} {S2 : SS}, J S0 S' h' E' wr P T E mv fr → absH S0 S' h mv fr = some d → conR S0 wr P h d T = some S2 → ∃ E2 mv2 fr2, J S0 S' h' E' wr P S2 E2 mv2 fr2
  | [], d, T, E, mv, fr, S2, j, ha, hk => by
    cases hk
    exact ⟨E, mv, fr, j⟩
  | .keep t :: h, d, T, E, mv, fr, S2, j, ha, hk => J.con C hkp (h := h) j ha hk
  | .val t u :: h, d, T, E, mv, fr, S2, j, ha, hk => by
    unfold conR at hk
    rw [bif_eq] at hk
    split at hk
    · cases hk
    · rename_i ht
      unfold absH at ha
      rw [bif_eq] at ha
      split at ha
      · rename_i hag
        have hag : (S'.tmp t).ag = u.ag := by simpa using hag
        split at ha
        · rename_i is hits
          split at ha
          · rename_i x k hval
            split at ha
            · rename_i y hr
              cases ha
              obtain ⟨cs, q1, q2, q3, q4⟩ := items_rel hits (C.v t)
              obtain ⟨E1, j1, f1, c3, c4, rfl, r1, r2⟩ := j.val C hval q2
              unfold CRs at r2
              subst r2
              rw [List.append_nil] at *
              have hV : V E1 (Ls.mk u x) (h'.tmp t) := by
                rw [V_mk]
                unfold RdV
                cases hu : u.ag with
                | true => exact ⟨c3, q3 (hag.trans hu), r1⟩
                | false => rw [← q4 (hag.trans hu)]; exact r1
              exact J.con C hkp (h := h) (d := y) (j1.setE hV (by simpa using ht)) hr hk
            · cases ha
          · cases ha
        · cases ha
      · cases ha
  | .own t e :: h, d, T, E, mv, fr, S2, j, ha, hk => by
    unfold conR at hk
    rw [bif_eq] at hk
    split at hk
    · cases hk
    · rename_i ht
      unfold absH at ha
      split at ha
      · rename_i x mv1 ho
        split at ha
        · rename_i y hr
          cases ha
          obtain ⟨E1, j1, f1, v1, o1, _⟩ := j.own C ho (C.v t)
          exact J.con C hkp (h := h) (d := y) (j1.setE v1 (by simpa using ht)) hr hk
        · cases ha
      · cases ha
  | .box t ks :: h, d, T, E, mv, fr, S2, j, ha, hk => by
    unfold conR at hk
    unfold absH at ha
    split at hk
    · rename_i m o hst
      rw [hst] at ha
      try simp only at ha
      rw [bif_eq] at hk
      split at hk
      · rename_i hcond
        rw [Bool.and_eq_true] at hcond
        obtain ⟨hw, hlt⟩ := hcond
        have hlt : m < S0.nx := by rw [Nat.blt_eq] at hlt; exact hlt
        split at hk
        · rename_i z is0 hm0
          rw [hm0] at ha
          try simp only at ha
          split at ha
          · rename_i z0 _ z' is hm0' hm'
            cases hm0'
            rw [bif_eq] at ha
            split at ha
            · rename_i hzz
              have hzz := Nat.eq_of_beq_eq_true hzz
              subst hzz
              split at ha
              · rename_i x mv1 fr1 hab
                rw [bif_eq] at ha
                split at ha
                · rename_i hcc
                  simp only [Bool.and_eq_true] at hcc
                  obtain ⟨hc1, hc2, hc3⟩ := hcc
                  have hc2 : isIn m mv1 = false := by simpa using hc2
                  have hc3 : isIn m fr1 = false := by simpa using hc3
                  split at ha
                  · rename_i y hr
                    cases ha
                    obtain ⟨b, bl, cs, p1, p2, p3, p4, p5, p6⟩ := C.M.ent m _ hm'
                    obtain ⟨E1, j1, f1, c1, o1, t1⟩ := J.parts C j p6 hab
                    have hTm : (conK ks x T).2.st.get m = none := by
                      cases hq : (conK ks x T).2.st.get m with
                      | none => rfl
                      | some e => have := (j1.box m e hlt hw hq).2.2; rw [hc2] at this; cases this
                    obtain ⟨M2, f2⟩ := put_ent (j := m) (nx2 := (conK ks x T).2.nx) (mb2 := E1.mb) (e := .box z (conK ks x T).1) j1.M hTm (Nat.le_refl _) (Nat.lt_of_lt_of_le hlt j1.nx) (fun _ _ => rfl) (fun _ => rfl) (fun _ u xs he => by cases he) (fun b' hb' => by
                      rw [j1.mb m hlt] at hb'
                      exact j1.free C hm' hb' hc1 hc2 hc3) (fun f => ⟨b, bl, cs, (j1.mb m hlt).trans p1, by show h'.hp.get b = _; rw [← C.M.hp]; exact p2, p3, p4, p5, CRs.fm f (.inl rfl) c1⟩)
                    have hget : ∀ i, ((conK ks x T).2.st.set m (.box z (conK ks x T).1)).get i = if i = m then some (.box z (conK ks x T).1) else (conK ks x T).2.st.get i := fun i => Tr.get_set _ _ _ _
                    have j2 : J S0 S' h' E' wr P ((conK ks x T).2.upd m (.box z (conK ks x T).1)) ⟨h'.hp, E1.Z, E1.mb, (conK ks x T).2.st.set m (.box z (conK ks x T).1), (conK ks x T).2.nx⟩ (m :: mv1) fr1 := by
                      refine ⟨M2, j1.f1, j1.f2, j1.f3, j1.f4, j1.f5, j1.nx, fun t => (j1.v t).fm f2 (.inl rfl), j1.p, j1.mb, j1.z, j1.z', fun i e b' hi hb' => ?_, fun i hi hwi => ?_, fun i e hi hwi hg => ?_⟩
                      · have hi : ((conK ks x T).2.st.set m (.box z (conK ks x T).1)).get i = some e := hi
                        rw [hget] at hi
                        split at hi
                        · rename_i him
                          subst him
                          have hb' : E1.mb i = some b' := hb'
                          rw [j1.mb i hlt] at hb'
                          exact .inr ⟨i, _, isIn_cons.2 (.inl rfl), hc1, hm', hb'⟩
                        · rcases j1.src i e b' hi hb' with g | ⟨m', e', g1, g2⟩
                          · exact .inl g
                          · exact .inr ⟨m', e', isIn_cons.2 (.inr g1), g2⟩
                      · show ((conK ks x T).2.st.set m (.box z (conK ks x T).1)).get i = _
                        rw [hget, if_neg]
                        · exact j1.unw i hi hwi
                        · rintro rfl
                          rw [hw] at hwi; cases hwi
                      · have hg2 : ((conK ks x T).2.st.set m (.box z (conK ks x T).1)).get i = some e := hg
                        clear hg
                        rw [hget] at hg2
                        split at hg2
                        · rename_i him
                          subst him
                          cases hg2
                          exact ⟨⟨_, _, rfl⟩, by rw [hm0]; exact fun h => (by cases h), isIn_cons.2 (.inl rfl)⟩
                        · obtain ⟨q1, q2, q3⟩ := j1.box i e hi hwi hg2
                          exact ⟨q1, q2, isIn_cons.2 (.inr q3)⟩
                    exact J.con C hkp (h := h) (d := y) j2 hr hk
                  · cases ha
                · cases ha
              · cases ha
            · cases ha
          · cases ha
        · cases hk
      · cases hk
    · cases hk
end
end Go.Ls
namespace Go.Ls
open Go Go.Hm
section
theorem killAll_get (st : Tr Ent) : ∀ (wr : List Nat) (m : Nat), (killAll st wr).get m = if isIn m wr = true then none else st.get m
  | [], m => by unfold killAll isIn; rw [if_neg (by simp)]
  | a :: wr, m => by
    unfold killAll
    rw [Tr.get_del, killAll_get st wr m]
    by_cases h : m = a
    · rw [if_pos h, if_pos (isIn_cons.2 (.inl h))]
    · rw [if_neg h]
      by_cases h2 : isIn m wr = true
      · rw [if_pos h2, if_pos (isIn_cons.2 (.inr h2))]
      · rw [if_neg h2, if_neg (fun h3 => by
          rcases isIn_cons.1 h3 with h4 | h4
          · exact h h4
          · exact h2 h4)]
theorem keepE_get (S0 : SS) : ∀ (P : List Nat) (t : Nat), (keepE S0 P).get t = if isIn t P = true then some (S0.tmp t) else none
  | [], t => by unfold keepE isIn; rw [if_neg (by simp)]; rfl
  | a :: P, t => by
    unfold keepE
    rw [Tr.get_set, keepE_get S0 P t]
    by_cases h : t = a
    · rw [if_pos h, if_pos (isIn_cons.2 (.inl h)), h]
    · rw [if_neg h]
      by_cases h2 : isIn t P = true
      · rw [if_pos h2, if_pos (isIn_cons.2 (.inr h2))]
      · rw [if_neg h2, if_neg (fun h3 => by
          rcases isIn_cons.1 h3 with h4 | h4
          · exact h h4
          · exact h2 h4)]
variable {S0 S' S2 : SS} {h0 h' : St} {E0 E' : En} {hh : List Hi} {wr : List Nat} {d : D (hCode hh)}
theorem lock_can {m : Nat} (hm : m < S0.nx) : (S0.lock S0.nx hh wr S0.kp).can m = isIn m wr := by
  show (Nat.ble S0.nx m || isIn m wr) = _
  have : Nat.ble S0.nx m = false := by
    cases hq : Nat.ble S0.nx m with
    | false => rfl
    | true => rw [Nat.ble_eq] at hq; omega
  rw [this]; rfl
/-- The state behind a meeting of ways. -/
theorem join_rel (M0 : Mem S0 h0 E0) (hE0 : Env S0 h0 E0) (M' : Mem S' h' E') (hE' : Env S' h' E') (g : Gr (S0.lock S0.nx hh wr S0.kp) h0 E0 S' h' E') (hkp : ∀ t, isIn t (hTmp hh ++ S0.kp) = true → S'.tmp t = S0.tmp t) (ha : absH S0 S' hh [] [] = some d) (hc : conH S0 hh wr d = some S2) :
    ∃ E2, Mem S2 h' E2 ∧ Env S2 h' E2 ∧ Gr (S0.lock S0.nx hh wr S0.kp) h0 E0 (S2.lock S0.nx hh wr S0.kp) h' E2 ∧ (∀ t, isIn t (hTmp hh ++ S0.kp) = true → S2.tmp t = S0.tmp t) ∧ S2.nt = S0.nt ∧ S2.lk = S0.lk ∧ S2.base = S0.base ∧ S2.wr = S0.wr ∧ S2.kp = S0.kp := by
  have hcant : ∀ m, m < S0.nx → isIn m wr = false → S'.st.get m = S0.st.get m := fun m hm hw => g.cant m hm (by rw [lock_can hm]; exact hw)
  have C : JC S0 S' h' E' wr := ⟨M', hE'.v, g.base, g.wr, hcant⟩
  have hget := killAll_get S0.st wr
  have hst : ∀ m e, (killAll S0.st wr).get m = some e → isIn m wr = false ∧ S0.st.get m = some e ∧ S'.st.get m = some e := by
    intro m e hm
    rw [hget] at hm
    split at hm
    · cases hm
    · rename_i hw
      have hw : isIn m wr = false := by simpa using hw
      exact ⟨hw, hm, by rw [hcant m (M0.lt m e hm) hw]; exact hm⟩
  have f : Fm S0.nx E' ⟨h'.hp, E'.Z, E'.mb, killAll S0.st wr, S0.nx⟩ := ⟨fun _ hb => hb, fun _ _ => by rw [M'.hp], Nat.le_refl _, fun _ _ => rfl, fun m u xs _ hx => ⟨xs, by rw [M'.st]; exact (hst m _ hx).2.2, rfl⟩⟩
  have M1 : Mem ⟨S0.nt, keepE S0 (hTmp hh ++ S0.kp), killAll S0.st wr, S0.nx, S0.lk, S0.base, S0.wr, S0.kp⟩ h' ⟨h'.hp, E'.Z, E'.mb, killAll S0.st wr, S0.nx⟩ := by
    refine ⟨rfl, rfl, rfl, fun m e hm => M0.lt m e (hst m e hm).2.1, fun m e hm => ?_, fun m m' e e' b hm hm' => M'.inj m m' e e' b (hst m e hm).2.2 (hst m' e' hm').2.2, fun m e b hm hb => M'.own m e b (hst m e hm).2.2 hb, M'.z, M'.fr, fun b hb => ⟨(M'.lk b hb).1, fun m e hm hmb => ?_⟩, M'.mbl⟩
    · obtain ⟨_, g1, g2⟩ := hst m e hm
      have q := M'.ent m e g2
      have q0 := M0.ent m e g1
      cases e with
      | box z is =>
        obtain ⟨b, y, cs, p1, p2, p3, p4, p5, p6⟩ := q
        obtain ⟨_, _, cs0, _, _, _, _, _, p0⟩ := q0
        exact ⟨b, y, cs, p1, by show h'.hp.get b = _; rw [← M'.hp]; exact p2, p3, p4, p5, CRs.fm f (.inr (by have := CRs_lt p0; rw [M0.nx] at this; exact this)) p6⟩
      | row e xs =>
        obtain ⟨p1, p2⟩ := q
        refine ⟨p1, ?_⟩
        show RowR _ (E'.mb m) e xs
        unfold RowR at p2 ⊢
        cases hb : E'.mb m with
        | none => rw [hb] at p2; exact p2
        | some b =>
          rw [hb] at p2
          obtain ⟨y, k1, k2, k3, k4, k5⟩ := p2
          refine ⟨y, by show h'.hp.get b = _; rw [← M'.hp]; exact k1, k2, k3, k4, fun i x hx => ?_⟩
          obtain ⟨cs, w1, w2⟩ := k5 i x hx
          exact ⟨cs, w1, w2.mono f.z f.h⟩
    · have := (M'.lk b hb).2 m e (hst m e hm).2.2 hmb
      rw [g.Slk] at this
      exact this
  have htmp : ∀ t, SS.tmp ⟨S0.nt, keepE S0 (hTmp hh ++ S0.kp), killAll S0.st wr, S0.nx, S0.lk, S0.base, S0.wr, S0.kp⟩ t = if isIn t (hTmp hh ++ S0.kp) = true then S0.tmp t else .any := by
    intro t
    unfold SS.tmp
    simp only
    rw [keepE_get]
    by_cases ht : isIn t (hTmp hh ++ S0.kp) = true
    · rw [if_pos ht, if_pos ht]; rfl
    · rw [if_neg ht, if_neg ht]
  have j : J S0 S' h' E' wr (hTmp hh ++ S0.kp) ⟨S0.nt, keepE S0 (hTmp hh ++ S0.kp), killAll S0.st wr, S0.nx, S0.lk, S0.base, S0.wr, S0.kp⟩ ⟨h'.hp, E'.Z, E'.mb, killAll S0.st wr, S0.nx⟩ [] [] := by
    refine ⟨M1, rfl, rfl, rfl, rfl, rfl, Nat.le_refl _, fun t => ?_, fun t ht => ?_, fun _ _ => rfl, fun _ hb => hb, fun _ hb => .inl hb, fun m e b hm hb => .inl ⟨M0.lt m e (hst m e hm).2.1, (hst m e hm).1, (hst m e hm).2.1⟩, fun m hm hw => ?_, fun m e hm hw hg => ?_⟩
    · rw [htmp]
      by_cases ht : isIn t (hTmp hh ++ S0.kp) = true
      · rw [if_pos ht]
        have := hE'.v t
        rw [hkp t ht] at this
        exact this.fm f (.inr (by have := V_lt (hE0.v t); rw [M0.nx] at this; exact this))
      · rw [if_neg ht]; exact V_any
    · rw [htmp, if_pos ht]
    · show (killAll S0.st wr).get m = _
      rw [hget, if_neg (by rw [hw]; simp)]
    · have hg : (killAll S0.st wr).get m = some e := hg
      rw [hget, if_pos hw] at hg
      cases hg
  obtain ⟨E2, mv2, fr2, j2⟩ := J.con C hkp (h := hh) (d := d) j ha hc
  refine ⟨E2, j2.M, ⟨j2.f1.trans (hE0.nt.trans g.nt.symm), j2.v⟩, ⟨g.nt, g.lk, g.df, j2.f1, j2.f2, rfl, rfl, rfl, g.nx, j2.nx, fun b hb => j2.z b (g.z b hb), fun b hb => ?_, g.oth, fun b hb => ?_, fun m hm => (j2.mb m hm).trans (g.mb m hm), fun m hm hcan => ?_, fun m hm hd => ?_, fun m u xs hm hx => ?_, fun b m e hb hm hmb => ?_⟩, j2.p, j2.f1, j2.f2, j2.f3, j2.f4, j2.f5⟩
  · rcases j2.z' b hb with q | ⟨m, e, q1, q2, q3⟩
    · exact g.z' b q
    · rcases g.ow b ⟨m, e, q2, q3⟩ with q | q
      · exact .inr (.inl q)
      · exact .inr (.inr q)
  · obtain ⟨m, e, hm, hmb⟩ := hb
    rcases j2.src m e b hm hmb with ⟨q1, q2, q3⟩ | ⟨m', e', _, _, q3, q4⟩
    · exact g.ow b ⟨m, e, by rw [hcant m q1 q2]; exact q3, by rw [← j2.mb m q1]; exact hmb⟩
    · exact g.ow b ⟨m', e', q3, q4⟩
  · have hm : m < S0.nx := hm
    rw [lock_can hm] at hcan
    exact j2.unw m hm hcan
  · have hm : m < S0.nx := hm
    have hd : S0.st.get m = none := hd
    by_cases hw : isIn m wr = true
    · show S2.st.get m = none
      cases hq : S2.st.get m with
      | none => rfl
      | some e => exact absurd hd (j2.box m e hm hw hq).2.1
    · exact (j2.unw m hm (by simpa using hw)).trans hd
  · have hm : m < S0.nx := hm
    have hx : S2.st.get m = some (.row u xs) := hx
    by_cases hw : isIn m wr = true
    · obtain ⟨⟨z, is, he⟩, _⟩ := j2.box m _ hm hw hx
      cases he
    · rw [j2.unw m hm (by simpa using hw)] at hx
      exact ⟨xs, hx, rfl⟩
  · rcases j2.src m e b hm hmb with ⟨q1, q2, q3⟩ | ⟨m', e', _, q2, q3, q4⟩
    · exact ⟨e, q3, by rw [← g.mb m q1, ← j2.mb m q1]; exact hmb⟩
    · have := (M'.lk b (by rw [g.lk]; exact hb)).2 m' e' q3 q4
      rw [(canW_some q2).2] at this; cases this
theorem unlock (hca : canAll S0 wr = true) (g : Gr (S0.lock S0.nx hh wr S0.kp) h0 E0 S' h' E') (hS : S2.st = S'.st) (hn : S2.nx = S'.nx) (e1 : S2.nt = S0.nt) (e2 : S2.lk = S0.lk) (e3 : S2.base = S0.base) (e4 : S2.wr = S0.wr) (e5 : S2.kp = S0.kp) : Gr S0 h0 E0 S2 h' E' :=
  g.re rfl rfl (fun m hm hc => by
    have hm : m < S0.nx := hm
    rw [lock_can hm]
    cases hq : isIn m wr with
    | false => rfl
    | true =>
      have := canAll_some hca m (isIn_iff.1 hq)
      rw [hc] at this; cases this) rfl rfl (fun _ h => h) hS hn rfl rfl g.nt g.lk g.df e1 e2 e3 e4 e5
end
theorem bndS_some {α β : Type} {o : Option (Sum α β)} {f : α → Option β} {r : β} (h : bndS o f = some r) : (∃ x, o = some (.inl x) ∧ f x = some r) ∨ o = some (.inr r) := by
  unfold bndS at h
  split at h
  · exact .inl ⟨_, rfl, h⟩
  · cases h; exact .inr rfl
  · cases h
theorem inL_some {α β : Type} {o : Option α} {v : Sum α β} (h : inL o = some v) : ∃ x, o = some x ∧ v = .inl x := by
  unfold inL at h
  split at h
  · cases h; exact ⟨_, rfl, rfl⟩
  · cases h
theorem inR_some {α β : Type} {o : Option β} {v : Sum α β} (h : inR o = some v) : ∃ x, o = some x ∧ v = .inr x := by
  unfold inR at h
  split at h
  · cases h; exact ⟨_, rfl, rfl⟩
  · cases h
section
variable {cy : Cy}
/-- What has to be shown of code. -/
def Goal (cy : Cy) {R : Type} (c : Code) (S : SS) (K : Ex → SS → Option R) (r : R) (h : St) (E : En) : Prop := ∃ e h' S' E', (∃ k0, ∀ k, k0 ≤ k → run cy.cx k c h = some (e, h')) ∧ Mem S' h' E' ∧ Env S' h' E' ∧ Gr S h E S' h' E' ∧ (∀ t, isIn t S.kp = true → S'.tmp t = S.tmp t) ∧ K e S' = some r
theorem run_of {c : Code} {h : St} {q : Ex × St} {k0 : Nat} (g : ∀ k, k0 ≤ k → stepC cy.cx (run cy.cx k) c h = some q) : ∃ k0, ∀ k, k0 ≤ k → run cy.cx k c h = some q := by
  refine ⟨k0 + 1, fun k hk => ?_⟩
  cases k with
  | zero => omega
  | succ k => exact g k (by omega)
theorem loopS_eq {α β : Type} (f : α → Option (Sum α β)) (n : Nat) (x : α) : loopS f n x = loopT f n x := by
  unfold loopS
  rw [(sealed (fun (α β : Type) (f : α → Option (Sum α β)) (n : Nat) => loopT f n)).2]
theorem loop_rel {ih : Sym} (hih : SymOk cy ih) {R : Type} {H : Tr (List Hi)} {cur : Nat} {b : Code} {S : SS} {K : Ex → SS → Option R} {r : R} {h : St} {E : En} {hh : List Hi} (M : Mem S h E) (hE : Env S h E) (hca : canAll S (hWr S hh) = true) : ∀ (n : Nat) (d : D (hCode hh)) (S1 : SS) (h1 : St) (E1 : En), loopT (fun d => match conH S hh (hWr S hh) d with
        | some Sd => ih (Sum (D (hCode hh)) R) H cur b (Sd.lock S.nx hh (hWr S hh) S.kp) (fun e S' => match e with
          | .norm => inL (absH S S' hh [] [])
          | e => inR (K e (S'.back S)))
        | none => none) n d = some r → Mem S1 h1 E1 → Env S1 h1 E1 → Gr (S.lock S.nx hh (hWr S hh) S.kp) h E S1 h1 E1 → (∀ t, isIn t (hTmp hh ++ S.kp) = true → S1.tmp t = S.tmp t) → absH S S1 hh [] [] = some d →
    ∃ e h' S' E', (∃ k0, ∀ k, k0 ≤ k → run cy.cx k (.loop b) h1 = some (e, h')) ∧ Mem S' h' E' ∧ Env S' h' E' ∧ Gr S h E S' h' E' ∧ (∀ t, isIn t S.kp = true → S'.tmp t = S.tmp t) ∧ K e S' = some r := by
  intro n
  induction n with
  | zero => intro d S1 h1 E1 hk; cases hk
  | succ n ihn =>
    intro d S1 h1 E1 hk M1 hE1 g1 hkp1 hab
    have hk : bndS ((fun d => match conH S hh (hWr S hh) d with
        | some Sd => ih (Sum (D (hCode hh)) R) H cur b (Sd.lock S.nx hh (hWr S hh) S.kp) (fun e S' => match e with
          | .norm => inL (absH S S' hh [] [])
          | e => inR (K e (S'.back S)))
        | none => none) d) (loopT (fun d => match conH S hh (hWr S hh) d with
        | some Sd => ih (Sum (D (hCode hh)) R) H cur b (Sd.lock S.nx hh (hWr S hh) S.kp) (fun e S' => match e with
          | .norm => inL (absH S S' hh [] [])
          | e => inR (K e (S'.back S)))
        | none => none) n) = some r := hk
    have core : ∀ (v : Sum (D (hCode hh)) R), (match conH S hh (hWr S hh) d with
        | some Sd => ih (Sum (D (hCode hh)) R) H cur b (Sd.lock S.nx hh (hWr S hh) S.kp) (fun e S' => match e with
          | .norm => inL (absH S S' hh [] [])
          | e => inR (K e (S'.back S)))
        | none => none) = some v → ∃ e h2 S2 E2, (∃ k0, ∀ k, k0 ≤ k → run cy.cx k b h1 = some (e, h2)) ∧ Mem S2 h2 E2 ∧ Env S2 h2 E2 ∧ Gr (S.lock S.nx hh (hWr S hh) S.kp) h E S2 h2 E2 ∧ (∀ t, isIn t (hTmp hh ++ S.kp) = true → S2.tmp t = S.tmp t) ∧ (match (generalizing := false) e with
          | .norm => inL (absH S S2 hh [] [])
          | e => inR (K e (S2.back S))) = some v := by
      intro v hv
      split at hv
      · rename_i Sd hSd
        obtain ⟨Ed, Md, hEd, gd, kd, f1, f2, f3, f4, f5⟩ := join_rel M hE M1 hE1 g1 hkp1 hab hSd
        obtain ⟨e, h2, S2, E2, q1, q2, q3, q4, q5, q6⟩ := hih _ _ _ _ _ _ _ hv h1 Ed (Md.re rfl rfl rfl rfl rfl rfl) ⟨hEd.nt, hEd.v⟩
        exact ⟨e, h2, S2, E2, q1, q2, q3, gd.trans q4, fun t ht => (q5 t ht).trans (kd t ht), q6⟩
      · cases hv
    rcases bndS_some hk with ⟨d', hd', hk2⟩ | hd'
    · obtain ⟨e, h2, S2, E2, ⟨k0, q1⟩, q2, q3, q4, q5, q6⟩ := core _ hd'
      cases e with
      | norm =>
        obtain ⟨x, hx, he⟩ := inL_some q6
        cases he
        obtain ⟨e3, h3, S3, E3, ⟨k3, p1⟩, p2⟩ := ihn d' S2 h2 E2 hk2 q2 q3 q4 q5 hx
        refine ⟨e3, h3, S3, E3, run_of (k0 := max k0 k3) (fun k hkk => ?_), p2⟩
        show (match run cy.cx k b h1 with | some (.norm, s') => run cy.cx k (.loop b) s' | r => r) = _
        rw [q1 k (Nat.le_trans (Nat.le_max_left _ _) hkk)]
        exact p1 k (Nat.le_trans (Nat.le_max_right _ _) hkk)
      | ret => obtain ⟨x, _, he⟩ := inR_some q6; cases he
      | exit id => obtain ⟨x, _, he⟩ := inR_some q6; cases he
    · obtain ⟨e, h2, S2, E2, ⟨k0, q1⟩, q2, q3, q4, q5, q6⟩ := core _ hd'
      have fin : ∀ (hne : e ≠ .norm), inR (α := D (hCode hh)) (K e (S2.back S)) = some (.inr r) → ∃ e h' S' E', (∃ k0, ∀ k, k0 ≤ k → run cy.cx k (.loop b) h1 = some (e, h')) ∧ Mem S' h' E' ∧ Env S' h' E' ∧ Gr S h E S' h' E' ∧ (∀ t, isIn t S.kp = true → S'.tmp t = S.tmp t) ∧ K e S' = some r := by
        intro hne hr
        obtain ⟨x, hx, he⟩ := inR_some hr
        cases he
        refine ⟨e, h2, S2.back S, E2, run_of (k0 := k0) (fun k hkk => ?_), q2.re rfl rfl rfl rfl rfl rfl, ⟨q3.nt, q3.v⟩, unlock hca q4 rfl rfl q4.Snt q4.Slk rfl rfl rfl, fun t ht => q5 t (isIn_iff.2 (List.mem_append_right _ (isIn_iff.1 ht))), hx⟩
        show (match run cy.cx k b h1 with | some (.norm, s') => run cy.cx k (.loop b) s' | r => r) = _
        rw [q1 k hkk]
        cases e with
        | norm => exact absurd rfl hne
        | ret => rfl
        | exit _ => rfl
      cases e with
      | norm => obtain ⟨x, _, he⟩ := inL_some q6; cases he
      | ret => exact fin (fun h => by cases h) q6
      | exit id => exact fin (fun h => by cases h) q6
theorem exC_ok (hct : ∀ f c, cy.ct.get f = some c → COk cy.cx f c) {ih : Sym} (hih : SymOk cy ih) : SymOk cy (exC cy ih) := by
  intro R H cur c S K r hk h E M hE
  have st : ∀ (c : Code) (f : Nat → Option St) (e : Ex) (q : StR S h E (fun S' => K e S') r f) (hf : ∀ k s, f k = some s → stepC cy.cx (run cy.cx k) c h = some (e, s)), Goal cy c S K r h E := by
    intro c f e q hf
    obtain ⟨h', S', E', ⟨k0, q1⟩, q2, q3, q4, q5, q6⟩ := q
    exact ⟨e, h', S', E', run_of (k0 := k0) (fun k hkk => hf k h' (q1 k hkk)), q2, q3, q4, q5, q6⟩
  unfold exC at hk
  split at hk
  · exact ⟨.norm, h, S, E, run_of (k0 := 0) (fun k _ => rfl), M, hE, Gr.refl, fun _ _ => rfl, hk⟩
  · exact st _ _ .norm (opsS_rel hct hih hk M hE) (fun k s hs => by
      show (match runOps _ _ _ _ _ with | some s' => some (Ex.norm, s') | none => none) = _
      rw [hs])
  · split at hk
    · rename_i l hl
      exact st _ _ .norm (itemsS_rel hct hih hk M hE) (fun k s hs => by
        show (match planOf _ with | some l => (match runItems _ _ _ _ l with | some s' => some (Ex.norm, s') | none => none) | none => none) = _
        rw [hl]
        simp only
        rw [hs])
    · cases hk
  · rename_i a b
    obtain ⟨e, h1, S1, E1, ⟨k1, q1⟩, q2, q3, q4, q5, q6⟩ := hih _ _ _ _ _ _ _ hk h E M hE
    have oth : e ≠ .norm → K e S1 = some r → Goal cy (.seq a b) S K r h E := fun hne hr => ⟨e, h1, S1, E1, run_of (k0 := k1) (fun k hkk => by
      show (match run cy.cx k a h with | some (.norm, s') => run cy.cx k b s' | r => r) = _
      rw [q1 k hkk]
      cases e with
      | norm => exact absurd rfl hne
      | ret => rfl
      | exit _ => rfl), q2, q3, q4, q5, hr⟩
    cases e with
    | ret => exact oth (fun h => by cases h) q6
    | exit id => exact oth (fun h => by cases h) q6
    | norm =>
      obtain ⟨e2, h2, S2, E2, ⟨k2, p1⟩, p2, p3, p4, p5, p6⟩ := hih _ _ _ _ _ _ _ q6 h1 E1 q2 q3
      refine ⟨e2, h2, S2, E2, run_of (k0 := max k1 k2) (fun k hkk => ?_), p2, p3, q4.trans p4, fun t ht => (p5 t (by rw [q4.kp]; exact ht)).trans (q5 t ht), p6⟩
      show (match run cy.cx k a h with | some (.norm, s') => run cy.cx k b s' | r => r) = _
      rw [q1 k (Nat.le_trans (Nat.le_max_left _ _) hkk)]
      exact p1 k (Nat.le_trans (Nat.le_max_right _ _) hkk)
  · rename_i x a b
    split at hk
    · rename_i l y hx
      obtain ⟨v, g1, g2⟩ := ev_rel hE hx
      rw [V_bool] at g2
      subst g2
      rcases cndL_some hk with ⟨rfl, hk2⟩ | ⟨rfl, hk2⟩
      · obtain ⟨e, h1, S1, E1, ⟨k1, q1⟩, q2⟩ := hih _ _ _ _ _ _ _ hk2 h E M hE
        refine ⟨e, h1, S1, E1, run_of (k0 := k1) (fun k hkk => ?_), q2⟩
        show (match h.ev x with | some (.bool true) => run cy.cx k a h | some (.bool false) => run cy.cx k b h | _ => none) = _
        rw [g1]
        exact q1 k hkk
      · obtain ⟨e, h1, S1, E1, ⟨k1, q1⟩, q2⟩ := hih _ _ _ _ _ _ _ hk2 h E M hE
        refine ⟨e, h1, S1, E1, run_of (k0 := k1) (fun k hkk => ?_), q2⟩
        show (match h.ev x with | some (.bool true) => run cy.cx k a h | some (.bool false) => run cy.cx k b h | _ => none) = _
        rw [g1]
        exact q1 k hkk
    · cases hk
  · rename_i id b
    have blk : ∀ {e : Ex} {h1 : St} {k0 : Nat}, (∀ k, k0 ≤ k → run cy.cx k b h = some (e, h1)) → ∀ {e2 : Ex}, (match (generalizing := false) e with | .exit j => (bif Nat.beq j id then Ex.norm else .exit j) | e => e) = e2 → ∃ k0, ∀ k, k0 ≤ k → run cy.cx k (.block id b) h = some (e2, h1) := by
      intro e h1 k0 q1 e2 he
      refine run_of (k0 := k0) (fun k hkk => ?_)
      show (match run cy.cx k b h with | some (.exit j, s') => (bif Nat.beq j id then some (Ex.norm, s') else some (.exit j, s')) | r => r) = _
      rw [q1 k hkk]
      subst he
      cases e with
      | norm => rfl
      | ret => rfl
      | exit j => show (bif Nat.beq j id then some (Ex.norm, h1) else some (.exit j, h1)) = some ((bif Nat.beq j id then Ex.norm else .exit j), h1); cases Nat.beq j id <;> rfl
    split at hk
    · obtain ⟨e, h1, S1, E1, ⟨k1, q1⟩, q2, q3, q4, q5, q6⟩ := hih _ _ _ _ _ _ _ hk h E M hE
      cases e with
      | norm => exact ⟨.norm, h1, S1, E1, blk q1 rfl, q2, q3, q4, q5, q6⟩
      | ret => exact ⟨.ret, h1, S1, E1, blk q1 rfl, q2, q3, q4, q5, q6⟩
      | exit j =>
        simp only at q6
        rw [bif_eq] at q6
        split at q6
        · rename_i hj
          exact ⟨.norm, h1, S1, E1, blk q1 (by simp only; rw [hj]; rfl), q2, q3, q4, q5, q6⟩
        · rename_i hj
          have hj : Nat.beq j id = false := by
            cases hq : Nat.beq j id with
            | false => rfl
            | true => exact absurd hq hj
          exact ⟨.exit j, h1, S1, E1, blk q1 (by simp only; rw [hj]; rfl), q2, q3, q4, q5, q6⟩
    · rename_i hh _
      rw [bif_eq] at hk
      split at hk
      · rename_i hca
        have Ml : Mem (S.lock S.nx hh (hWr S hh) S.kp) h E := M.re rfl rfl rfl rfl rfl rfl
        have El : Env (S.lock S.nx hh (hWr S hh) S.kp) h E := ⟨hE.nt, hE.v⟩
        have out : ∀ {e : Ex} {h1 : St} {S1 : SS} {E1 : En} {k1 : Nat}, (∀ k, k1 ≤ k → run cy.cx k b h = some (e, h1)) → Mem S1 h1 E1 → Env S1 h1 E1 → Gr (S.lock S.nx hh (hWr S hh) S.kp) h E S1 h1 E1 → (∀ t, isIn t (hTmp hh ++ S.kp) = true → S1.tmp t = S.tmp t) → (match (generalizing := false) e with | .exit j => (bif Nat.beq j id then Ex.norm else .exit j) | e => e) = e → K e (S1.back S) = some r → Goal cy (.block id b) S K r h E := by
          intro e h1 S1 E1 k1 q1 q2 q3 q4 q5 he hr
          exact ⟨e, h1, S1.back S, E1, blk q1 he, q2.re rfl rfl rfl rfl rfl rfl, ⟨q3.nt, q3.v⟩, unlock hca q4 rfl rfl q4.Snt q4.Slk rfl rfl rfl, fun t ht => q5 t (isIn_iff.2 (List.mem_append_right _ (isIn_iff.1 ht))), hr⟩
        have inn : ∀ {e : Ex} {h1 : St} {S1 : SS} {E1 : En} {k1 : Nat} {d : D (hCode hh)}, (∀ k, k1 ≤ k → run cy.cx k b h = some (e, h1)) → Mem S1 h1 E1 → Env S1 h1 E1 → Gr (S.lock S.nx hh (hWr S hh) S.kp) h E S1 h1 E1 → (∀ t, isIn t (hTmp hh ++ S.kp) = true → S1.tmp t = S.tmp t) → (match (generalizing := false) e with | .exit j => (bif Nat.beq j id then Ex.norm else .exit j) | e => e) = .norm → absH S S1 hh [] [] = some d → (match conH S hh (hWr S hh) d with | some S2 => K .norm S2 | none => none) = some r → Goal cy (.block id b) S K r h E := by
          intro e h1 S1 E1 k1 d q1 q2 q3 q4 q5 he ha hr
          split at hr
          · rename_i S2 hS2
            obtain ⟨E2, p2, p3, p4, p5, f1, f2, f3, f4, f5⟩ := join_rel M hE q2 q3 q4 q5 ha hS2
            exact ⟨.norm, h1, S2, E2, blk q1 he, p2, p3, unlock hca p4 rfl rfl f1 f2 f3 f4 f5, fun t ht => p5 t (isIn_iff.2 (List.mem_append_right _ (isIn_iff.1 ht))), hr⟩
          · cases hr
        rcases bndS_some hk with ⟨d, hd, hk2⟩ | hd
        · obtain ⟨e, h1, S1, E1, ⟨k1, q1⟩, q2, q3, q4, q5, q6⟩ := hih _ _ _ _ _ _ _ hd h E Ml El
          cases e with
          | norm =>
            obtain ⟨x, hx, he⟩ := inL_some q6
            cases he
            exact inn q1 q2 q3 q4 q5 rfl hx hk2
          | ret => obtain ⟨x, _, he⟩ := inR_some q6; cases he
          | exit j =>
            simp only at q6
            rw [bif_eq] at q6
            split at q6
            · rename_i hj
              obtain ⟨x, hx, he⟩ := inL_some q6
              cases he
              exact inn q1 q2 q3 q4 q5 (by simp only; rw [hj]; rfl) hx hk2
            · obtain ⟨x, _, he⟩ := inR_some q6; cases he
        · obtain ⟨e, h1, S1, E1, ⟨k1, q1⟩, q2, q3, q4, q5, q6⟩ := hih _ _ _ _ _ _ _ hd h E Ml El
          cases e with
          | norm => obtain ⟨x, _, he⟩ := inL_some q6; cases he
          | ret =>
            obtain ⟨x, hx, he⟩ := inR_some q6
            cases he
            exact out q1 q2 q3 q4 q5 rfl hx
          | exit j =>
            simp only at q6
            rw [bif_eq] at q6
            split at q6
            · obtain ⟨x, _, he⟩ := inL_some q6; cases he
            · rename_i hj
              have hj : Nat.beq j id = false := by
                cases hq : Nat.beq j id with
                | false => rfl
                | true => exact absurd hq hj
              obtain ⟨x, hx, he⟩ := inR_some q6
              cases he
              exact out q1 q2 q3 q4 q5 (by simp only; rw [hj]; rfl) hx
      · cases hk
  · rename_i b
    split at hk
    · obtain ⟨e, h1, S1, E1, ⟨k1, q1⟩, q2, q3, q4, q5, q6⟩ := hih _ _ _ _ _ _ _ hk h E M hE
      have oth : e ≠ .norm → K e S1 = some r → Goal cy (.loop b) S K r h E := fun hne hr => ⟨e, h1, S1, E1, run_of (k0 := k1) (fun k hkk => by
        show (match run cy.cx k b h with | some (.norm, s') => run cy.cx k (.loop b) s' | r => r) = _
        rw [q1 k hkk]
        cases e with
        | norm => exact absurd rfl hne
        | ret => rfl
        | exit _ => rfl), q2, q3, q4, q5, hr⟩
      cases e with
      | ret => exact oth (fun h => by cases h) q6
      | exit id => exact oth (fun h => by cases h) q6
      | norm =>
        obtain ⟨e2, h2, S2, E2, ⟨k2, p1⟩, p2, p3, p4, p5, p6⟩ := hih _ _ _ _ _ _ _ q6 h1 E1 q2 q3
        refine ⟨e2, h2, S2, E2, run_of (k0 := max k1 k2) (fun k hkk => ?_), p2, p3, q4.trans p4, fun t ht => (p5 t (by rw [q4.kp]; exact ht)).trans (q5 t ht), p6⟩
        show (match run cy.cx k b h with | some (.norm, s') => run cy.cx k (.loop b) s' | r => r) = _
        rw [q1 k (Nat.le_trans (Nat.le_max_left _ _) hkk)]
        exact p1 k (Nat.le_trans (Nat.le_max_right _ _) hkk)
    · rename_i hh _
      rw [bif_eq] at hk
      split at hk
      · rename_i hca
        split at hk
        · rename_i d0 hd0
          rw [loopS_eq] at hk
          exact loop_rel hih M hE hca _ d0 (S.lock S.nx hh (hWr S hh) S.kp) h E hk (M.re rfl rfl rfl rfl rfl rfl) ⟨hE.nt, hE.v⟩ Gr.refl (fun _ _ => rfl) hd0
        · cases hk
      · cases hk
  · exact ⟨_, h, S, E, run_of (k0 := 0) (fun k _ => rfl), M, hE, Gr.refl, fun _ _ => rfl, hk⟩
  · exact ⟨_, h, S, E, run_of (k0 := 0) (fun k _ => rfl), M, hE, Gr.refl, fun _ _ => rfl, hk⟩
  · cases hk
theorem ex_ok (hct : ∀ f c, cy.ct.get f = some c → COk cy.cx f c) : ∀ n, SymOk cy (ex cy n) := by
  intro n
  induction n with
  | zero => intro R H cur c S K r hk; cases hk
  | succ n ih => exact exC_ok hct ih
/-- A function is what the symbolic machine makes of it. -/
theorem con_ok (hct : ∀ f c, cy.ct.get f = some c → COk cy.cx f c) {f : FuncId} {fn : Func} (hf : cy.cx.fn.get f = some fn) (hx : cy.cx.ext.get f = none) {a r : U} {H : Tr (List Hi)} {n : Nat} {F : D a → Option (D r)} (hF : ∀ x, fnS cy n a r H fn x = F x) : COk cy.cx f ⟨a, r, F⟩ := by
  intro h Z args x y hfr hlk hZ ha hy
  have hy : F x = some y := hy
  rw [← hF x] at hy
  unfold fnS at hy
  split at hy
  · rename_i b hb
    rw [bif_eq] at hy
    split at hy
    · rename_i hle
      have hv : Vs (⟨h.hp, Z, fun _ => none, .e, 0⟩ : En) (mkArgs a x) args := mkArgs_rel (E := ⟨h.hp, Z, fun _ => none, .e, 0⟩) ha
      have hle' : Nat.ble args.length fn.ntmps = true := by rw [Vs_len hv]; exact hle
      have no : ∀ (m : Nat) (e : Ent), (Tr.e : Tr Ent).get m = some e → False := fun m e hm => by rw [Tr.get_e] at hm; cases hm
      obtain ⟨e, h1, S1, E1, ⟨k1, q1⟩, q2, q3, q4, _, q6⟩ := ex_ok hct n _ _ _ _ _ _ _ hy ⟨fn.ntmps, envOf 0 args .e, h.hp, h.nx, h.lk, .undef⟩ ⟨h.hp, Z, fun _ => none, .e, 0⟩ ⟨rfl, rfl, rfl, fun m e hm => (no m e hm).elim, fun m e hm => (no m e hm).elim, fun m _ e _ _ hm => (no m e hm).elim, fun m e _ hm => (no m e hm).elim, hZ, hfr, fun b hb => ⟨hlk b hb, fun m e hm => (no m e hm).elim⟩, fun _ _ hm => by cases hm⟩ (args_env hv)
      have noOw : ∀ b, ¬ Ow (⟨fn.ntmps, envS 0 (mkArgs a x) .e, .e, 0, [], 0, [], []⟩ : SS) (⟨h.hp, Z, fun _ => none, .e, 0⟩ : En) b := fun b ⟨m, e, hm, _⟩ => no m e hm
      have key : (∀ id, e ≠ .exit id) → resS cy S1 fn.results.toList (fun l => match rowsI S1.st l with
        | some _ => rdArgs S1.st r l
        | none => none) = some y → ∃ l hp' nx' Z', (∃ k0, ∀ k, k0 ≤ k → call cy.cx (run cy.cx k) f args h = some (one l, ⟨h.nt, h.env, hp', nx', h.lk, h.df⟩)) ∧ h.nx ≤ nx' ∧ (∀ b, b < h.nx → hp'.get b = h.hp.get b) ∧ (∀ b, nx' ≤ b → hp'.get b = none) ∧ (∀ b, Z b → Z' b) ∧ (∀ b, Z' b → Z b ∨ (h.nx ≤ b ∧ b < nx')) ∧ RdArgs hp' Z' r l y := by
        intro hne hres
        obtain ⟨l, vs, w1, w2, w3⟩ := resS_rel q2 q3 hres
        split at w3
        · rename_i L hL
          have hr := rdArgs_rel (E := E1) (Q := fun b => E1.Z b ∨ Ow S1 E1 b) (k := 3) (fun b hb => .inl hb) (fun m e hm => q2.ent m e (by rw [← q2.st]; exact hm)) (by rw [q2.st]; exact w3) w2 (cov_all (fun m e b hm hb => .inr ⟨m, e, by rw [← q2.st]; exact hm, hb⟩) (by rw [q2.st]; exact hL))
          refine ⟨vs, h1.hp, h1.nx, fun b => E1.Z b ∨ Ow S1 E1 b, ⟨k1, fun k hkk => ?_⟩, q4.nx, fun b hb => q4.oth b hb (noOw b), q2.fr, fun b hb => .inl (q4.z b hb), fun b hb => ?_, by rw [← q2.hp]; exact hr⟩
          · unfold call
            rw [hx, hf]
            simp only
            rw [hb]
            simp only
            rw [hle', q1 k hkk]
            cases e with
            | exit id => exact absurd rfl (hne id)
            | norm => simp only [cond_true]; rw [w1]
            | ret => simp only [cond_true]; rw [w1]
          · rcases hb with hb | hb
            · rcases q4.z' b hb with g | g | g
              · exact .inl g
              · exact absurd g (noOw b)
              · exact .inr ⟨g, q2.z b hb⟩
            · obtain ⟨m, e, hm, hmb⟩ := hb
              rcases q4.ow b ⟨m, e, hm, hmb⟩ with g | g
              · exact absurd g (noOw b)
              · exact .inr ⟨g, (q2.own m e b hm hmb).2⟩
        · cases w3
      cases e with
      | exit id => cases q6
      | norm => exact key (fun id hid => by cases hid) q6
      | ret => exact key (fun id hid => by cases hid) q6
    · cases hy
  · cases hy
end
end Go.Ls
namespace Go.Hm
open Go Go.RowKit Go.Wk
theorem blk_some {s : St} {b : Nat} {x : Blk} (h : s.blk b = some x) : s.hp.get b = some (.blk x) := by
  unfold St.blk at h
  split at h
  · rename_i y hy; cases h; exact hy
  · cases h
section
variable {ρ : Rn} {s s' : St} {w w' : World}
theorem setCells_heap {c o : Nat} {xs : Array Value} {T : TypeId} {us : List Value} (h : w.heap[c]? = some (.cells xs T (0, 0))) (hl : o + us.length ≤ xs.size) :
    ∃ ys, (w.setCells c o us).heap[c]? = some (.cells ys T (0, 0)) ∧ ys.size = xs.size := by
  have hb : Wk.Blk w c T xs.toList := by unfold Wk.Blk; simpa using h
  have := setCells_blk us o xs.toList w hb (by simpa using hl)
  refine ⟨_, this, ?_⟩
  simp [patch]
  omega
theorem setCells_in {c o i : Nat} {xs : Array Value} {T : TypeId} {us : List Value} {u : Value} (h : w.heap[c]? = some (.cells xs T (0, 0))) (hl : o + us.length ≤ xs.size) (hu : us[i]? = some u) :
    (w.setCells c o us).cell? ⟨c, o + i, none⟩ = some u := by
  have hi := lt_get hu
  rw [World.cell?_setCells_in c us o w (fun j hj => by rw [cells_at h, Array.getElem?_eq_getElem (by omega)]; rfl) i hi]
  rw [List.getElem?_eq_getElem hi] at hu
  exact hu
theorem setCells_out {c o i : Nat} {us : List Value} (h : i < o ∨ o + us.length ≤ i) : (w.setCells c o us).cell? ⟨c, i, none⟩ = w.cell? ⟨c, i, none⟩ :=
  World.cell?_setCells_out c us o w _ (fun _ _ => h)
/-- Cells are written. -/
theorem Post.write {b o : Nat} {l : List HV} {us : List Value} {r : RI} (h : RelH ρ s.hp w) (hr : ρ b = some r) (hw : s.write b o l = some s') (hl : VRs ρ l us) (h1 : ∀ x, x ∈ us → x.oneCell' = true) :
    Post ρ s w ρ s' (w.setCells r.c (r.o + o) us) ∧ ∃ xs T, w.heap[r.c]? = some (.cells xs T (0, 0)) ∧ r.o + o + us.length ≤ xs.size := by
  unfold St.write at hw
  cases hx : s.blk b with
  | none => rw [hx] at hw; cases hw
  | some x =>
    rw [hx] at hw
    simp only [bif_eq] at hw
    split at hw
    · rename_i hc
      cases hw
      simp only [Bool.and_eq_true, Nat.ble_eq] at hc
      obtain ⟨hown, _, hle⟩ := hc
      have hg := blk_some hx
      have hB := h.blk b x r hg hr
      obtain ⟨g1, g2, g0, g3, g4⟩ := hB
      obtain ⟨xs, T, g5, g6, g7⟩ := g4 hown
      have hlen := VRs_len hl
      have hle' : o + l.length ≤ x.n := hle
      have hfit : r.o + o + us.length ≤ xs.size := by omega
      obtain ⟨ys, k1, k2⟩ := setCells_heap (us := us) g5 hfit
      have hkp := Kp.setCells r.c us (r.o + o) w
      have hold : ∀ c, c < w.heap.size → c ≠ r.c → (w.setCells r.c (r.o + o) us).heap[c]? = w.heap[c]? := fun c hc hne => hkp.block c hc (by simpa using hne)
      have hne : ∀ i, i ≠ b → (s.hp.set b (.blk ⟨true, x.z, x.n, scatter x.c o l⟩)).get i = s.hp.get i := fun i hi => Tr.get_set_ne _ _ hi
      refine ⟨⟨?_, fun _ _ => rfl, KpS.of hkp (fun c hc => ?_), ?_, Nat.le_refl _⟩, xs, T, g5, hfit⟩
      · refine h.step (b := b) (fun i hi => rfl) (Ext.refl _) hkp.size (fun i hi q hq => by rw [← hq]; exact (hne i hi).symm) ?_ ?_ ?_ ?_
        · intro i q r' hi hq hr' hlt
          refine hold _ hlt ?_
          have hq2 : s.hp.get i = some q := by rw [← hne i hi]; exact hq
          exact fun e => h.inj b i _ q r r' (fun x => hi x.symm) hg hown hq2 hr hr' e.symm
        · intro y r' hy hr'
          rw [hr] at hr'; cases hr'
          simp only at hy
          rw [Tr.get_set_same] at hy
          cases hy
          refine ⟨g1, g2, Nat.lt_of_lt_of_le g0 hkp.size, fun i v hi hv => ?_, fun _ => ⟨ys, T, k1, by rw [k2]; exact g6, g7⟩⟩
          simp only at hv hi
          rw [scatter_get] at hv
          split at hv
          · rename_i hin
            obtain ⟨u, h5, h6⟩ := VRs_get hl _ v hv
            refine ⟨u, ?_, h6, h1 u (List.mem_of_getElem? h5)⟩
            have := setCells_in g5 hfit h5
            rw [show r.o + i = r.o + o + (i - o) by omega]
            exact this
          · rename_i hout
            obtain ⟨u, h5, h6, h7⟩ := g3 i v hi hv
            refine ⟨u, ?_, h6, h7⟩
            rw [setCells_out (by omega)]
            exact h5
        · intro es r' hy hr'
          simp only at hy
          rw [Tr.get_set_same] at hy
          cases hy
        · intro i q q' r1 r2 hi hq hq' how hr1 hr2
          rw [hr] at hr2; cases hr2
          have hq2 : s.hp.get i = some q := by rw [← hne i hi]; exact hq
          exact fun e => h.inj b i _ q r r1 (fun x => hi x.symm) hg hown hq2 hr hr1 e.symm
      · have : c = r.c := by simpa using hc
        subst this
        exact ⟨b, _, r, hg, hown, hr, rfl⟩
      · intro c hc
        obtain ⟨i, q, r', q1, q2, q3, rfl⟩ := hc
        left
        by_cases hi : i = b
        · subst hi; exact ⟨i, _, r', hg, hown, q3, rfl⟩
        · exact ⟨i, q, r', by rw [← hne i hi]; exact q1, q2, q3, rfl⟩
    · cases hw
/-- A row that grows: what was there may not be used any more. The new block's cells are those of the old row, then the new ones. -/
theorem Post.grow {b o n k z : Nat} {x : Blk} {r r' : RI} {c' : Tr HV} {new : List HV} {us : List Value} {sn : St} (h : RelH ρ s.hp w) (hg : s.hp.get b = some (.blk x)) (hown : x.own = true) (hr : ρ b = some r) (u : ρ s.nx = none)
    (hl : VRs ρ new us) (h1 : ∀ y, y ∈ us → y.oneCell' = true) (hk : new.length = k * z)
    (hc' : ∀ i v, i < (n + k) * z → c'.get i = some v → (i < n * z ∧ o + i < x.n ∧ x.c.get (o + i) = some v) ∨ (n * z ≤ i ∧ new[i - n * z]? = some v))
    (hs' : sn.hp = (s.hp.del b).set s.nx (.blk ⟨true, z, (n + k) * z, c'⟩)) (hsn : sn.nx = s.nx + 1)
    (hr' : r'.n = (n + k) * z ∧ r'.z = z)
    (how : (w' = w.setCells r.c (r.o + o + n * z) us ∧ r'.c = r.c ∧ r'.o = r.o + o ∧ r'.tot = r.tot ∧ r.o + o + (n + k) * z ≤ r.tot) ∨
      (Kp [] w w' ∧ r'.c = w.heap.size ∧ r'.o = 0 ∧ ∃ (ys : Array Value) (T : TypeId) (olds : List Value), w'.heap[r'.c]? = some (.cells ys T (0, 0)) ∧ ys.size = r'.tot ∧ (n + k) * z ≤ r'.tot ∧ olds.length = n * z ∧ (∀ (i : Nat) (y : Value), (olds ++ us)[i]? = some y → ys[i]? = some y) ∧ ∀ (i : Nat) (y : Value), olds[i]? = some y → w.cell? ⟨r.c, r.o + o + i, none⟩ = some y)) :
    Post ρ s w (updR ρ s.nx r') sn w' := by
  have hB := h.blk b x r hg hr
  obtain ⟨g1, g2, g0, g3, g4⟩ := hB
  obtain ⟨xs, T, g5, g6, g7⟩ := g4 hown
  have hlen := VRs_len hl
  have hx := updR_ext (r := r') u
  have hnk : (n + k) * z = n * z + k * z := Nat.add_mul _ _ _
  have hbx : b ≠ s.nx := by rintro rfl; rw [hr] at u; cases u
  have hget : ∀ i, i ≠ s.nx → ∀ q, sn.hp.get i = some q → i ≠ b ∧ s.hp.get i = some q := fun i hi q hq => by
    rw [hs', Tr.get_set_ne _ _ hi, Tr.get_del] at hq
    split at hq
    · cases hq
    · rename_i hib; exact ⟨hib, hq⟩
  have hsame : sn.hp.get s.nx = some (.blk ⟨true, z, (n + k) * z, c'⟩) := by rw [hs', Tr.get_set_same]
  have hcne : ∀ i q r1, i ≠ s.nx → sn.hp.get i = some q → ρ i = some r1 → r1.c ≠ r.c := fun i q r1 hi hq hr1 => by
    obtain ⟨hib, hq2⟩ := hget i hi q hq
    exact fun e => h.inj b i _ q r r1 (fun x => hib x.symm) hg hown hq2 hr hr1 e.symm
  -- what both ways have in common
  have fin : ∀ (hsz : w.heap.size ≤ w'.heap.size) (hkp : KpS (fun c => c = r.c) w w') (hc : r'.c = r.c ∨ r'.c = w.heap.size)
      (hblk : BlkR (updR ρ s.nx r') w' r' ⟨true, z, (n + k) * z, c'⟩), Post ρ s w (updR ρ s.nx r') sn w' := by
    intro hsz hkp hc hblk
    refine ⟨?_, ?_, ⟨hkp.os, hkp.tape, hkp.output, hkp.size, fun c hc hD => hkp.block c hc (fun e => hD ?_)⟩, ?_, by omega⟩
    · refine h.step (b := s.nx) (fun i hi => updR_ne _ _ hi) hx hsz (fun i hi q hq => (hget i hi q hq).2) ?_ ?_ ?_ ?_
      · exact fun i q r1 hi hq hr1 hlt => hkp.block _ hlt (hcne i q r1 hi hq hr1)
      · intro y r1 hy hr1
        rw [hsame] at hy; cases hy
        rw [updR_same] at hr1; cases hr1
        exact hblk
      · intro es r1 hy hr1
        rw [hsame] at hy; cases hy
      · intro i q q' r1 r2 hi hq hq' how hr1 hr2
        rw [updR_same] at hr2; cases hr2
        rcases hc with hc | hc
        · rw [hc]; exact hcne i q r1 hi hq hr1
        · have := h.at (hget i hi q hq).2 hr1
          omega
    · intro i hi
      refine updR_ne _ _ ?_
      omega
    · subst e; exact ⟨b, _, r, hg, hown, hr, rfl⟩
    · intro c hcD
      obtain ⟨i, q, r1, q1, q2, q3, rfl⟩ := hcD
      by_cases hi : i = s.nx
      · subst hi
        rw [updR_same] at q3; cases q3
        rcases hc with hc | hc
        · left; rw [hc]; exact ⟨b, _, r, hg, hown, hr, rfl⟩
        · right; omega
      · rw [updR_ne _ _ hi] at q3
        obtain ⟨hib, hq2⟩ := hget i hi q q1
        exact .inl ⟨i, q, r1, hq2, q2, q3, rfl⟩
  rcases how with ⟨rfl, k1, k2, k3, k4⟩ | ⟨hkp, k1, k2, ys, T', olds, k3, k4, k5, k6, k7, k8⟩
  · have hfit : r.o + o + n * z + us.length ≤ xs.size := by omega
    have hkp := Kp.setCells r.c us (r.o + o + n * z) w
    obtain ⟨ys, k5, k6⟩ := setCells_heap (us := us) g5 hfit
    refine fin hkp.size (KpS.of hkp (fun c hc => by simpa using hc)) (.inl k1) ⟨hr'.1.symm, hr'.2.symm, by rw [k1]; exact Nat.lt_of_lt_of_le g0 hkp.size, fun i v hi hv => ?_, fun _ => ⟨ys, T, by rw [k1]; exact k5, by rw [k6, k3]; exact g6, by rw [k2, k3, hr'.1]; omega⟩⟩
    simp only at hi hv
    rw [k1, k2]
    rcases hc' i v hi hv with ⟨q1, q2, q3⟩ | ⟨q1, q2⟩
    · obtain ⟨y, q4, q5, q6⟩ := g3 (o + i) v q2 q3
      refine ⟨y, ?_, VR.ext hx _ _ q5, q6⟩
      rw [setCells_out (by omega), Nat.add_assoc]
      exact q4
    · obtain ⟨y, q4, q5⟩ := VRs_get hl _ v q2
      refine ⟨y, ?_, VR.ext hx _ _ q5, h1 y (List.mem_of_getElem? q4)⟩
      have := setCells_in g5 hfit q4
      rw [show r.o + o + i = r.o + o + n * z + (i - n * z) by omega]
      exact this
  · refine fin hkp.size ⟨hkp.os, hkp.tape, hkp.output, hkp.size, fun c hc _ => hkp.block c hc (by simp)⟩ (.inr k1) ⟨hr'.1.symm, hr'.2.symm, lt_of_heap k3, fun i v hi hv => ?_, fun _ => ⟨ys, T', k3, k4, by rw [k2, hr'.1]; omega⟩⟩
    simp only at hi hv
    rw [cells_at k3, k2, Nat.zero_add]
    rcases hc' i v hi hv with ⟨q1, q2, q3⟩ | ⟨q1, q2⟩
    · obtain ⟨y, q4, q5, q6⟩ := g3 (o + i) v q2 q3
      have hoi : i < olds.length := by omega
      have := k8 i _ (List.getElem?_eq_getElem hoi)
      rw [show r.o + o + i = r.o + (o + i) by omega, q4] at this
      cases this
      exact ⟨_, k7 i _ (by rw [List.getElem?_append_left hoi, List.getElem?_eq_getElem hoi]), VR.ext hx _ _ q5, q6⟩
    · obtain ⟨y, q4, q5⟩ := VRs_get hl _ v q2
      refine ⟨y, k7 i y ?_, VR.ext hx _ _ q5, h1 y (List.mem_of_getElem? q4)⟩
      rw [List.getElem?_append_right (by omega), k6]
      exact q4
end
end Go.Hm
namespace Go.Hm
open Go Go.RowKit Go.Wk
section
variable {P : Program}
theorem mkTI_ok : ∀ {n t : Nat} {x : TInf}, (mkTI P n).get t = some x → tinfOf P t = some x
  | 0, t, x, h => by cases h
  | i + 1, t, x, h => by
    unfold mkTI at h
    cases hi : tinfOf P i with
    | none => rw [hi] at h; exact mkTI_ok h
    | some y =>
      rw [hi] at h
      simp only [Tr.get_set] at h
      split at h
      · rename_i ht; rw [ht, ← h]; exact hi
      · exact mkTI_ok h
theorem mkFn_ok : ∀ {l : List Func} {i : Nat} {T : Tr Func} {f : Nat} {g : Func}, (mkFn l i T).get f = some g → (i ≤ f ∧ l[f - i]? = some g) ∨ T.get f = some g
  | [], i, T, f, g, h => .inr h
  | a :: l, i, T, f, g, h => by
    unfold mkFn at h
    rcases mkFn_ok h with ⟨h1, h2⟩ | h1
    · left
      have h1 : i + 1 ≤ f := h1
      refine ⟨by omega, ?_⟩
      have : f - i = (f - (Nat.add i 1)) + 1 := by show f - i = f - (i + 1) + 1; omega
      rw [this, List.getElem?_cons_succ]; exact h2
    · rw [Tr.get_set] at h1
      split at h1
      · rename_i hf; subst hf; left; refine ⟨Nat.le_refl _, ?_⟩; rw [Nat.sub_self]; exact h1
      · exact .inr h1
theorem mkFn_get {f : Nat} {g : Func} (h : (mkFn P.funcs.toList 0 .e).get f = some g) : P.funcs[f]? = some g := by
  rcases mkFn_ok h with ⟨_, h2⟩ | h1
  · simpa using h2
  · cases h1
/-- What is known of a type. -/
structure Ty (P : Program) (t : Nat) (x : TInf) (i : TypeInfo) : Prop where
  info : P.info? t = some i
  size : i.size = x.size
  bytes : i.bytes = x.bytes
  zero : ∀ z, x.zero = some z → ∃ v, i.zero = some v ∧ ofV v = some z
  agg : x.agg = aggOf P t
  sh : x.sh = shOf P t
  und : ∃ d, P.underlying t = some d
theorem Ty.of {t : Nat} {x : TInf} (h : tinfOf P t = some x) : ∃ i, Ty P t x i := by
  unfold tinfOf at h
  split at h
  · rename_i i hi
    split at h
    · cases h
    · rename_i d hd
      cases h
      refine ⟨i, hi, rfl, rfl, fun z hz => ?_, rfl, rfl, d, hd⟩
      simp only at hz
      split at hz
      · rename_i v hv; exact ⟨v, hv, hz⟩
      · cases hz
  · cases h
theorem sh_slice {t e : Nat} (h : shOf P t = .slice e) : P.underlying t = some (.slice e) := by
  unfold shOf at h; split at h <;> first | (cases h; assumption) | (split at h <;> cases h) | cases h
theorem sh_arr {t n e : Nat} (h : shOf P t = .arr n e) : P.underlying t = some (.array n e) := by
  unfold shOf at h; split at h <;> first | (cases h; assumption) | (split at h <;> cases h) | cases h
theorem sh_int {t : Nat} {k : IntKind} (h : shOf P t = .int k) : P.underlying t = some (.int k) := by
  unfold shOf at h; split at h <;> first | (cases h; assumption) | (split at h <;> cases h) | cases h
theorem sh_bool {t : Nat} (h : shOf P t = .bool) : P.underlying t = some .bool := by
  unfold shOf at h; split at h <;> first | (cases h; assumption) | (split at h <;> cases h) | cases h
theorem sh_str {t : Nat} (h : shOf P t = .str) : P.underlying t = some .string := by
  unfold shOf at h; split at h <;> first | (cases h; assumption) | (split at h <;> cases h) | cases h
theorem sh_map {t k e : Nat} (h : shOf P t = .map k e) : P.underlying t = some (.map k e) := by
  unfold shOf at h; split at h <;> first | (cases h; assumption) | (split at h <;> cases h) | cases h
theorem sh_struct {t : Nat} {l : List (Nat × Nat)} (h : shOf P t = .struct l) : ∃ fs, P.underlying t = some (.struct fs) ∧ fs.toList.mapM (fun f => (P.info? f.type).map fun i => (f.offset, i.size)) = some l := by
  unfold shOf at h
  split at h <;> first | cases h | skip
  rename_i fs hfs
  split at h
  · rename_i l' hl'
    cases h
    exact ⟨fs, hfs, hl'⟩
  · cases h
theorem mapM_get {α β : Type} {f : α → Option β} : ∀ {l : List α} {r : List β}, l.mapM f = some r → ∀ (i : Nat) (y : β), r[i]? = some y → ∃ x, l[i]? = some x ∧ f x = some y
  | [], r, h, i, y, hy => by simp at h; subst h; simp at hy
  | a :: l, r, h, i, y, hy => by
    rw [List.mapM_cons] at h
    cases ha : f a with
    | none => simp [ha] at h
    | some b =>
      cases hl : l.mapM f with
      | none => simp [ha, hl] at h
      | some r' =>
        simp [ha, hl] at h
        subst h
        cases i with
        | zero => simp at hy; subst hy; exact ⟨a, rfl, ha⟩
        | succ i => simp at hy; obtain ⟨x, h1, h2⟩ := mapM_get hl i y hy; exact ⟨x, by simpa using h1, h2⟩
section
variable {t : Nat} {x : TInf} {i : TypeInfo} (T : Ty P t x i)
theorem Ty.sizeOf (T : Ty P t x i) (w : World) : (Go.sizeOf t).run P w = .ok x.size w := by
  simp [Go.sizeOf, typeInfo, T.info, T.size]
theorem Ty.isAgg (T : Ty P t x i) (w : World) : (Go.isAgg t).run P w = .ok x.agg w := by
  obtain ⟨d, hd⟩ := T.und
  rw [T.agg]
  unfold aggOf
  rw [hd]
  cases d <;> simp [Go.isAgg, run_underlying hd]
theorem Ty.zeroV (T : Ty P t x i) {z : HV} (hz : x.zero = some z) : ∃ v, ofV v = some z ∧ ∀ w, (zeroValue t).run P w = .ok v w := by
  obtain ⟨v, h1, h2⟩ := T.zero z hz
  exact ⟨v, h2, fun w => by simp [zeroValue, typeInfo, T.info, h1]⟩
end
/-- The values of the slots. -/
def EnvR (ρ : Rn) (n : Nat) (s : St) (F : Env) : Prop := s.nt = n ∧ ∀ t, VR ρ (s.tmp t) (ev n F (.tmp t))
section
variable {ρ : Rn} {n : Nat} {s : St} {F : Env} {w : World}
theorem ev_rel (h : EnvR ρ n s F) {x : Operand} {v : HV} (hx : s.ev x = some v) : VR ρ v (ev n F x) := by
  cases x with
  | tmp t => cases hx; exact h.2 t
  | const c => exact ofV_rel hx
  | func f => cases hx; unfold VR; exact ⟨[], rfl, by unfold VRs; rfl⟩
  | global g => cases hx
theorem evs_rel (h : EnvR ρ n s F) : ∀ {xs : List Operand} {l : List HV}, s.evs xs = some l → VRs ρ l (xs.map (ev n F))
  | [], l, hl => by cases hl; unfold VRs; rfl
  | x :: xs, l, hl => by
    unfold St.evs at hl
    cases hx : s.ev x with
    | none => rw [hx] at hl; cases hl
    | some v =>
      rw [hx] at hl
      cases hxs : s.evs xs with
      | none => rw [hxs] at hl; cases hl
      | some l' =>
        rw [hxs] at hl
        cases hl
        unfold VRs
        exact ⟨_, _, rfl, ev_rel h hx, evs_rel h hxs⟩
/-- What is asked of an operation's result. -/
def OpOk (P : Program) (n : Nat) (F : Env) (ρ : Rn) (s : St) (w : World) (o : Op) : Rs → Prop
  | .val v s' => Undef ρ s.nx s'.nx → ∃ u w' ρ', Val P n F w o u w' ∧ VR ρ' v u ∧ Post ρ s w ρ' s' w' ∧ s'.nt = s.nt ∧ s'.env = s.env ∧ s'.lk = s.lk
  | .act s' => ∃ w', Acts P n F w o w' ∧ Post ρ s w ρ s' w' ∧ s'.nt = s.nt ∧ s'.env = s.env ∧ s'.lk = s.lk ∧ s'.nx = s.nx
  | .call f args => ∃ us : List Value, VRs ρ args us ∧ ∀ (d : Option Nat) (t : Nat) (p : String) (af : Array Edge) (g : Option (Nat × Bool)), (execOp (ev n F) ⟨d, o, t, p, af, g⟩).run P w = (callFunc f us.toArray).run P w
theorem Post.refl (h : RelH ρ s.hp w) : Post ρ s w ρ s w := ⟨h, fun _ _ => rfl, KpS.refl _ _, fun _ h => .inl h, Nat.le_refl _⟩
/-- An operation that leaves memory alone. -/
theorem OpOk.pure {o : Op} {v : HV} {u : Value} (h : RelH ρ s.hp w) (hv : Val P n F w o u w) (hr : VR ρ v u) : OpOk P n F ρ s w o (.val v s) :=
  fun _ => ⟨u, w, ρ, hv, hr, Post.refl h, rfl, rfl, rfl⟩
end
end
end Go.Hm
