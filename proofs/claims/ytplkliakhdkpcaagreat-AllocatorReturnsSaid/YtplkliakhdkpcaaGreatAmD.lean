/-
  How the abstract heap changes: one entry, a new entry, two entries at once; lists owned, frozen, opened, closed.
  Conditions: none: plain theorems.
-/
import Derived.Test.YtplkliakhdkpcaaGreatAmC
set_option linter.unusedVariables false
set_option linter.unusedSimpArgs false
namespace Go.Am
open Go Go.RowKit Go.Wk
section
variable {w w':World} {A0:Nat→Prop} {H H':zAQ} {κ κ':List Value} {fp fp':Nat→List Nat}
theorem SH.gen (h:SH w A0 H κ fp) (hlen:κ'.length=H'.length) (s:zKE w fp κ w' fp' κ') (nd:∀ i,(fp' i).Nodup) (dj:∀ i j x,x∈fp' i→x∈fp' j→i=j) (out:∀ i,H'.length≤i→fp' i=[])
    (ent:∀ (i:Nat) (e:zIJ) (v:Value),H'[i]?=some e→κ'[i]?=some v→(H[i]?=some e∧fp' i=fp i ∧ ∀ b,b∈fp i→w'.heap[b]?=w.heap[b]?)∨ER w' (avd A0 fp') κ' e v (fp' i)):SH w' A0 H' κ' fp':=by
  refine ⟨hlen,?_,out,nd,dj,?_,fun x hx=>Nat.lt_of_lt_of_le (h.old x hx) s.kp.size⟩
  · intro i e v h1 h2
    rcases ent i e v h1 h2 with ⟨g1,g2,g3⟩ | g
    · rw [g2]
      have hi:i<κ.length:=by rw [h.len]; exact zAS g1
      have h3:=List.getElem?_eq_getElem hi
      have h4:=s.kk i _ h3
      rw [h4] at h2
      cases h2
      exact ER.mv (s.mv A0) g3 (h.ent i e _ g1 h3)
    · exact g
  · intro i x hx hA
    rcases s.new i x hx with ⟨j,hj⟩ | hx
    · exact h.na j x hj hA
    · have:=h.old x hA; omega
def zEv (fp:Nat→List Nat) (k:Nat) (f:List Nat):Nat→List Nat:=fun i=>if i=k then f else fp i
theorem zIz (fp:Nat→List Nat) (k:Nat) (f:List Nat):zEv fp k f k=f:=by simp [zEv]
theorem zHg (fp:Nat→List Nat) {k i:Nat} (f:List Nat) (h:i≠k):zEv fp k f i=fp i:=by simp [zEv,h]
theorem SH.setpush (h:SH w A0 H κ fp) {k:Nat} {e1 e2:zIJ} {v2:Value} {f1 f2:List Nat} (hk:k<H.length) (kp:KpS (fun b=>b∈fp k) w w')
    (hf1:∀ x,x∈f1→x∈fp k∨w.heap.size≤x) (hf2:∀ x,x∈f2→x∈fp k∨w.heap.size≤x) (n1:f1.Nodup) (n2:f2.Nodup) (n12:∀ x,x∈f1→x ∉ f2)
    (r1:∀ v,κ[k]?=some v→Mv w (avd A0 fp) κ w' (avd A0 (zEv (zEv fp k f1) H.length f2)) (κ++[v2])→ER w' (avd A0 (zEv (zEv fp k f1) H.length f2)) (κ++[v2]) e1 v f1)
    (r2:Mv w (avd A0 fp) κ w' (avd A0 (zEv (zEv fp k f1) H.length f2)) (κ++[v2])→ER w' (avd A0 (zEv (zEv fp k f1) H.length f2)) (κ++[v2]) e2 v2 f2) :
    SH w' A0 (H.set k e1++[e2]) (κ++[v2]) (zEv (zEv fp k f1) H.length f2)∧zKE w fp κ w' (zEv (zEv fp k f1) H.length f2) (κ++[v2]):=by
  have hne:k≠H.length:=by omega
  have hget:∀ i x,x∈zEv (zEv fp k f1) H.length f2 i→(i=H.length∧x∈f2)∨(i=k∧x∈f1)∨(i≠H.length∧i≠k∧x∈fp i):=by
    intro i x hx
    unfold zEv at hx
    by_cases h1:i=H.length
    · rw [if_pos h1] at hx; exact .inl ⟨h1,hx⟩
    · rw [if_neg h1] at hx
      by_cases h2:i=k
      · rw [if_pos h2] at hx; exact .inr (.inl ⟨h2,hx⟩)
      · rw [if_neg h2] at hx; exact .inr (.inr ⟨h1,h2,hx⟩)
  have hold:∀ i x,x∈fp i→x<w.heap.size:=h.lt
  have s:zKE w fp κ w' (zEv (zEv fp k f1) H.length f2) (κ++[v2]):=by
    refine ⟨⟨kp.os,kp.tape,kp.output,kp.size,fun b hb hn=>kp.block b hb (fun hm=>hn ⟨k,hm⟩)⟩,?_,?_⟩
    · intro i x hx
      rcases hget i x hx with ⟨_,h1⟩ | ⟨_,h1⟩ | ⟨_,_,h1⟩
      · rcases hf2 x h1 with y | y
        · exact .inl ⟨k,y⟩
        · exact .inr y
      · rcases hf1 x h1 with y | y
        · exact .inl ⟨k,y⟩
        · exact .inr y
      · exact .inl ⟨i,h1⟩
    · intro i v hv
      rw [List.getElem?_append_left (zAS hv)]; exact hv
  refine ⟨h.gen (by simp [h.len]) s ?_ ?_ ?_ ?_,s⟩
  · intro i
    unfold zEv
    split
    · exact n2
    · split
      · exact n1
      · exact h.nd i
  · intro i j x hi hj
    rcases hget i x hi with ⟨a,h1⟩ | ⟨a,h1⟩ | ⟨a,b,h1⟩ <;> rcases hget j x hj with ⟨c,h2⟩ | ⟨c,h2⟩ | ⟨c,d,h2⟩
    · omega
    · exact absurd h1 (n12 x h2)
    · rcases hf2 x h1 with y | y
      · exact absurd (h.dj j k x h2 y) d
      · have:=hold j x h2; omega
    · exact absurd h2 (n12 x h1)
    · omega
    · rcases hf1 x h1 with y | y
      · exact absurd (h.dj j k x h2 y) d
      · have:=hold j x h2; omega
    · rcases hf2 x h2 with y | y
      · exact absurd (h.dj i k x h1 y) b
      · have:=hold i x h1; omega
    · rcases hf1 x h2 with y | y
      · exact absurd (h.dj i k x h1 y) b
      · have:=hold i x h1; omega
    · exact h.dj i j x h1 h2
  · intro i hi
    simp at hi
    rw [zHg _ _ (by omega),zHg _ _ (by omega)]
    exact h.out i (by omega)
  · intro i e v h1 h2
    by_cases hi:i=H.length
    · subst hi
      right
      rw [List.getElem?_append_right (by simp)] at h1
      rw [List.getElem?_append_right (by rw [h.len]; omega)] at h2
      simp [h.len] at h1 h2
      rw [zIz, ← h1, ← h2]
      exact r2 (s.mv A0)
    · have hi2:i<H.length:=by
        have:=zAS h1
        simp at this
        omega
      rw [List.getElem?_append_left (by simpa using hi2)] at h1
      rw [List.getElem?_append_left (by rw [h.len]; exact hi2)] at h2
      rw [zHg _ _ hi]
      by_cases hik:i=k
      · subst hik
        right
        rw [List.getElem?_set_self hk] at h1
        cases h1
        rw [zIz]
        exact r1 v h2 (s.mv A0)
      · left
        rw [List.getElem?_set_ne (fun x=>hik x.symm)] at h1
        rw [zHg _ _ hik]
        refine ⟨h1,rfl,fun b hb=>kp.block b (hold i b hb) (fun hm=>hik (h.dj i k b hb hm))⟩
theorem SH.set2 (h:SH w A0 H κ fp) {k j:Nat} {e1:zIJ} {f1:List Nat} (hk:k<H.length) (hj:j<H.length) (hjk:j≠k) (kp:KpS (fun b=>b∈fp k) w w')
    (hf1:∀ x,x∈f1→x∈fp k∨x∈fp j∨w.heap.size≤x) (n1:f1.Nodup)
    (r1:∀ v,κ[k]?=some v→Mv w (avd A0 fp) κ w' (avd A0 (zEv (zEv fp k f1) j [])) κ→ER w' (avd A0 (zEv (zEv fp k f1) j [])) κ e1 v f1) :
    SH w' A0 ((H.set k e1).set j .dead) κ (zEv (zEv fp k f1) j [])∧zKE w fp κ w' (zEv (zEv fp k f1) j []) κ:=by
  have hget:∀ i x,x∈zEv (zEv fp k f1) j [] i→(i=k∧x∈f1)∨(i≠j∧i≠k∧x∈fp i):=by
    intro i x hx
    unfold zEv at hx
    by_cases h1:i=j
    · rw [if_pos h1] at hx; cases hx
    · rw [if_neg h1] at hx
      by_cases h2:i=k
      · rw [if_pos h2] at hx; exact .inl ⟨h2,hx⟩
      · rw [if_neg h2] at hx; exact .inr ⟨h1,h2,hx⟩
  have hold:∀ i x,x∈fp i→x<w.heap.size:=h.lt
  have s:zKE w fp κ w' (zEv (zEv fp k f1) j []) κ:=by
    refine ⟨⟨kp.os,kp.tape,kp.output,kp.size,fun b hb hn=>kp.block b hb (fun hm=>hn ⟨k,hm⟩)⟩,?_,fun _ _ h=>h⟩
    intro i x hx
    rcases hget i x hx with ⟨_,h1⟩ | ⟨_,_,h1⟩
    · rcases hf1 x h1 with y | y | y
      · exact .inl ⟨k,y⟩
      · exact .inl ⟨j,y⟩
      · exact .inr y
    · exact .inl ⟨i,h1⟩
  refine ⟨h.gen (by simp [h.len]) s ?_ ?_ ?_ ?_,s⟩
  · intro i
    unfold zEv
    split
    · simp
    · split
      · exact n1
      · exact h.nd i
  · intro i i' x hi hi'
    rcases hget i x hi with ⟨a,h1⟩ | ⟨a,b,h1⟩ <;> rcases hget i' x hi' with ⟨c,h2⟩ | ⟨c,d,h2⟩
    · omega
    · rcases hf1 x h1 with y | y | y
      · exact absurd (h.dj i' k x h2 y) d
      · exact absurd (h.dj i' j x h2 y) c
      · have:=hold i' x h2; omega
    · rcases hf1 x h2 with y | y | y
      · exact absurd (h.dj i k x h1 y) b
      · exact absurd (h.dj i j x h1 y) a
      · have:=hold i x h1; omega
    · exact h.dj i i' x h1 h2
  · intro i hi
    simp at hi
    rw [zHg _ _ (by omega),zHg _ _ (by omega)]
    exact h.out i hi
  · intro i e v h1 h2
    have hi2:i<H.length:=by
      have:=zAS h1
      simpa using this
    by_cases hij:i=j
    · subst hij
      right
      rw [List.getElem?_set_self (by simpa using hi2)] at h1
      cases h1
      rw [zIz]
      rfl
    · rw [List.getElem?_set_ne (fun x=>hij x.symm)] at h1
      rw [zHg _ _ hij]
      by_cases hik:i=k
      · subst hik
        right
        rw [List.getElem?_set_self hk] at h1
        cases h1
        rw [zIz]
        exact r1 v h2 (s.mv A0)
      · left
        rw [List.getElem?_set_ne (fun x=>hik x.symm)] at h1
        rw [zHg _ _ hik]
        exact ⟨h1,rfl,fun b hb=>kp.block b (hold i b hb) (fun hm=>hik (h.dj i k b hb hm))⟩
theorem SH.set1 (h:SH w A0 H κ fp) {k:Nat} {e1:zIJ} {f1:List Nat} (hk:k<H.length) (kp:KpS (fun b=>b∈fp k) w w')
    (hf1:∀ x,x∈f1→x∈fp k∨w.heap.size≤x) (n1:f1.Nodup)
    (r1:∀ v,κ[k]?=some v→Mv w (avd A0 fp) κ w' (avd A0 (zEv fp k f1)) κ→ER w' (avd A0 (zEv fp k f1)) κ e1 v f1) :
    SH w' A0 (H.set k e1) κ (zEv fp k f1)∧zKE w fp κ w' (zEv fp k f1) κ:=by
  have hget:∀ i x,x∈zEv fp k f1 i→(i=k∧x∈f1)∨(i≠k∧x∈fp i):=by
    intro i x hx
    unfold zEv at hx
    by_cases h2:i=k
    · rw [if_pos h2] at hx; exact .inl ⟨h2,hx⟩
    · rw [if_neg h2] at hx; exact .inr ⟨h2,hx⟩
  have hold:∀ i x,x∈fp i→x<w.heap.size:=h.lt
  have s:zKE w fp κ w' (zEv fp k f1) κ:=by
    refine ⟨⟨kp.os,kp.tape,kp.output,kp.size,fun b hb hn=>kp.block b hb (fun hm=>hn ⟨k,hm⟩)⟩,?_,fun _ _ h=>h⟩
    intro i x hx
    rcases hget i x hx with ⟨_,h1⟩ | ⟨_,h1⟩
    · rcases hf1 x h1 with y | y
      · exact .inl ⟨k,y⟩
      · exact .inr y
    · exact .inl ⟨i,h1⟩
  refine ⟨h.gen (by simp [h.len]) s ?_ ?_ ?_ ?_,s⟩
  · intro i
    unfold zEv
    split
    · exact n1
    · exact h.nd i
  · intro i i' x hi hi'
    rcases hget i x hi with ⟨a,h1⟩ | ⟨b,h1⟩ <;> rcases hget i' x hi' with ⟨c,h2⟩ | ⟨d,h2⟩
    · omega
    · rcases hf1 x h1 with y | y
      · exact absurd (h.dj i' k x h2 y) d
      · have:=hold i' x h2; omega
    · rcases hf1 x h2 with y | y
      · exact absurd (h.dj i k x h1 y) b
      · have:=hold i x h1; omega
    · exact h.dj i i' x h1 h2
  · intro i hi
    simp at hi
    rw [zHg _ _ (by omega)]
    exact h.out i hi
  · intro i e v h1 h2
    by_cases hik:i=k
    · subst hik
      right
      rw [List.getElem?_set_self hk] at h1
      cases h1
      rw [zIz]
      exact r1 v h2 (s.mv A0)
    · left
      rw [List.getElem?_set_ne (fun x=>hik x.symm)] at h1
      rw [zHg _ _ hik]
      exact ⟨h1,rfl,fun b hb=>kp.block b (hold i b hb) (fun hm=>hik (h.dj i k b hb hm))⟩
theorem SH.push (h:SH w A0 H κ fp) {e2:zIJ} {v2:Value} {f2:List Nat} (kp:KpS (fun _=>False) w w') (hf2:∀ x,x∈f2→w.heap.size≤x) (n2:f2.Nodup)
    (r2:Mv w (avd A0 fp) κ w' (avd A0 (zEv fp H.length f2)) (κ++[v2])→ER w' (avd A0 (zEv fp H.length f2)) (κ++[v2]) e2 v2 f2) :
    SH w' A0 (H++[e2]) (κ++[v2]) (zEv fp H.length f2)∧zKE w fp κ w' (zEv fp H.length f2) (κ++[v2]):=by
  have hget:∀ i x,x∈zEv fp H.length f2 i→(i=H.length∧x∈f2)∨(i≠H.length∧x∈fp i):=by
    intro i x hx
    unfold zEv at hx
    by_cases h2:i=H.length
    · rw [if_pos h2] at hx; exact .inl ⟨h2,hx⟩
    · rw [if_neg h2] at hx; exact .inr ⟨h2,hx⟩
  have hold:∀ i x,x∈fp i→x<w.heap.size:=h.lt
  have s:zKE w fp κ w' (zEv fp H.length f2) (κ++[v2]):=by
    refine ⟨⟨kp.os,kp.tape,kp.output,kp.size,fun b hb hn=>kp.block b hb (fun hm=>hm)⟩,?_,?_⟩
    · intro i x hx
      rcases hget i x hx with ⟨_,h1⟩ | ⟨_,h1⟩
      · exact .inr (hf2 x h1)
      · exact .inl ⟨i,h1⟩
    · intro i v hv
      rw [List.getElem?_append_left (zAS hv)]; exact hv
  refine ⟨h.gen (by simp [h.len]) s ?_ ?_ ?_ ?_,s⟩
  · intro i
    unfold zEv
    split
    · exact n2
    · exact h.nd i
  · intro i i' x hi hi'
    rcases hget i x hi with ⟨a,h1⟩ | ⟨b,h1⟩ <;> rcases hget i' x hi' with ⟨c,h2⟩ | ⟨d,h2⟩
    · omega
    · have:=hf2 x h1; have:=hold i' x h2; omega
    · have:=hf2 x h2; have:=hold i x h1; omega
    · exact h.dj i i' x h1 h2
  · intro i hi
    simp at hi
    rw [zHg _ _ (by omega)]
    exact h.out i (by omega)
  · intro i e v h1 h2
    by_cases hi:i=H.length
    · subst hi
      right
      rw [List.getElem?_append_right (by simp)] at h1
      rw [List.getElem?_append_right (by rw [h.len]; omega)] at h2
      simp [h.len] at h1 h2
      rw [zIz, ← h1, ← h2]
      exact r2 (s.mv A0)
    · have hi2:i<H.length:=by
        have:=zAS h1
        simp at this
        omega
      left
      rw [List.getElem?_append_left (by simpa using hi2)] at h1
      rw [zHg _ _ hi]
      exact ⟨h1,rfl,fun b hb=>kp.block b (hold i b hb) (fun hm=>hm)⟩
end
end Go.Am
