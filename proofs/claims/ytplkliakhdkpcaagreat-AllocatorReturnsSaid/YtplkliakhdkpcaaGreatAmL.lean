/-
  The same rules on lists of data: 'l.map f' where f gives the cells of an element.
  Conditions: none: plain theorems over whatever program P.
-/
import Derived.Test.YtplkliakhdkpcaaGreatAmK
set_option linter.unusedVariables false
set_option linter.unusedSimpArgs false
namespace Go.Am
open Go Go.RowKit Go.Wk
def eI (x:Int):AV := .lit (.int .i64 x)
def eB (b:Bool):AV := .lit (.bool b)
def cI (x:Int):List AV:=[.lit (.int .i64 x)]
def cB (b:Bool):List AV:=[.lit (.bool b)]
def cK (k:IntKind) (x:Int):List AV:=[.lit (.int k x)]
def eS {α:Type} (f:α→List AV) (l:List α):AV := .sl false (l.map f)
def cS {α:Type} (f:α→List AV) (l:List α):List AV:=[.sl false (l.map f)]
def cA {α:Type} (n:Nat) (g:α→AV) (d:α) (l:List α):List AV:=(List.range n).map fun i=>g (l.getD i d)
def zDl {α:Type} (n:Nat) (d:α) (l:List α) (i:Nat) (x:α):List α:=(List.range n).map fun j=>if j=i then x else l.getD j d
def at_ {α:Type} [Inhabited α] (l:List α) (i:Int):α:=l.getD i.toNat default
def chk {α:Type} (b:Bool) (x:Option α):Option α:=match b with
  | true=>x
  | false=>none
def cnd {α:Type} (b:Bool) (x y:Option α):Option α:=match b with
  | true=>x
  | false=>y
theorem zOt {α:Type} {b:Bool} {x:Option α} {r:α} (h:chk b x=some r):b=true∧x=some r:=by
  cases b with
  | true=>exact ⟨rfl,h⟩
  | false=>cases h
theorem zFU {α:Type} {b:Bool} {x y:Option α} {r:α} (hb:b=true) (h:cnd b x y=some r):x=some r:=by subst hb; exact h
theorem zTo {α:Type} {b:Bool} {x y:Option α} {r:α} (hb:b=false) (h:cnd b x y=some r):y=some r:=by subst hb; exact h
theorem zRc {α β:Type} {x:Option α} {f:α→Option β} {r:β} (h:x.bind f=some r):∃ a,x=some a∧f a=some r:=by
  cases x with
  | none=>cases h
  | some a=>exact ⟨a,rfl,h⟩
section
variable {α:Type} {f:α→List AV} {l l':List α}
theorem zSd {d:α} {i:Int} (h:inb i l.length=true):(l.map f)[i.toNat]?=some (f (l.getD i.toNat d)):=by
  have:=(zBT h).2
  simp [this]
theorem zOy [Inhabited α] {i:Int} (h:inb i l.length=true):(l.map f)[i.toNat]?=some (f (at_ l i)):=zSd h
theorem zAL (hf:∀ x,zOF (f x)=f x):zO1 (l.map f)=l.map f:=by
  induction l with
  | nil=>rfl
  | cons a l ih=>simp [zO1,hf,ih]
theorem zLZ {s:Nat} (hl:∀ x,(f x).length=s):∀ r,r∈l.map f→r.length=s:=by
  intro r hr
  obtain ⟨x,_,rfl⟩:=List.mem_map.1 hr
  exact hl x
theorem zPx (hf:∀ x,(f x).all isE=true):((l.map f).all fun r=>r.all isE)=true:=by
  simp only [List.all_map,List.all_eq_true,Function.comp]
  intro x _
  exact List.all_eq_true.1 (hf x)
end
theorem zQh {α:Type} {n:Nat} {g:α→AV} {d:α} {l:List α}:(cA n g d l).length=n:=by simp [cA]
theorem zQH {α:Type} {n:Nat} {g:α→AV} {d:α} {l:List α} {i:Nat} (h:i<n) (hd tl:List AV):(hd++(cA n g d l++tl))[hd.length+i]?=some (g (l.getD i d)):=by
  rw [List.getElem?_append_right (by omega),Nat.add_sub_cancel_left,List.getElem?_append_left (by rw [zQh]; exact h)]
  simp [cA,h]
theorem zQY {α:Type} {n:Nat} {g:α→AV} {d:α} {l:List α} {i:Nat} {x:α} (h:i<n) (hd tl:List AV):(hd++(cA n g d l++tl)).set (hd.length+i) (g x)=hd++(cA n g d (zDl n d l i x)++tl):=by
  rw [List.set_append_right _ _ (by omega),Nat.add_sub_cancel_left,List.set_append_left _ _ (by rw [zQh]; exact h)]
  congr 2
  apply List.ext_getElem?
  intro j
  by_cases hj:j<n
  · by_cases hij:i=j
    · subst hij
      rw [List.getElem?_set_self (by rw [zQh]; exact h)]
      simp [cA,zDl,hj]
    · rw [List.getElem?_set_ne hij]
      have:¬ j=i:=fun e=>hij e.symm
      simp [cA,zDl,hj,this]
  · rw [List.getElem?_eq_none (by simp [cA]; omega),List.getElem?_eq_none (by simp [cA]; omega)]
theorem zOK {α:Type} {n:Nat} {g:α→AV} {d:α} {l:List α} {i:Nat} (h:i<n):(cA n g d l)[i]?=some (g (l.getD i d)):=by simp [cA,h]
theorem z5 {n:Nat} {e:zCH} {x:Operand} {s:Bool} {a j:AV} (h:aev n e x=bif s then a else j) (hs:s=true):aev n e x=a:=by rw [hs] at h; exact h
theorem zNg {n:Nat} {e:zCH} {x:Operand} {c d:Bool} {a j:AV} (h:aev n e x=bif (c&&d) then a else j) (hc:c=true):aev n e x=bif d then a else j:=by rw [hc] at h; exact h
theorem zEb {c q:Bool} (h:(!c||q)=true) (hc:c=true):q=true:=by rw [hc] at h; exact h
def z9:Nat:=9223372036854775808
section
variable {P:Program} {n m:Nat} {e e':zCH} {H G:zAQ} {x y:Operand} {k j o:Nat} {t:TypeId} {ops:Array Oper} {rest:List Oper} {kk:zCH→zAQ→Prop} {d tt:Nat} {p:String} {af:Array Edge}
variable {α:Type} {f:α→List AV} {l l':List α} {full:Bool}
theorem zZ {el:TypeId} (ht:P.underlying t=some (.slice el)) (hx:aev n e x = .sl full (l.map f)):zt P n e H (.call { callee := .builtin .len,args := #[x],argTypes := #[t] }) (eI (l.length:Int)):=by
  have:=zRo (H:=H) ht hx
  rw [List.length_map] at this
  exact this
theorem zEV {el t' sz:Nat} (ht:P.underlying t=some (.slice el)) (hx:aev n e x = .hd k) (hk:H[k]?=some (.vec t' sz (l.map f))):zt P n e H (.call { callee := .builtin .len,args := #[x],argTypes := #[t] }) (eI (l.length:Int)):=by
  have:=zQs ht hx hk
  rw [List.length_map] at this
  exact this
theorem zU [Inhabited α] {el:TypeId} {kd:IntKind} {s:Nat} {i:Int} (ht:P.underlying t=some (.slice el)) (hs:∀ w,(sizeOf el).run P w = .ok s w) (hl:∀ x,(f x).length=s) (hx:aev n e x = .sl full (l.map f)) (hy:aev n e y = .lit (.int kd i)) (hi:inb i l.length=true) :
    zt P n e H (.indexAddr t x y) (.rp (f (at_ l i)) 0) :=
  zQ3 ht hs hx hy (by rw [List.length_map]; exact hi) (zOy hi) (hl _)
theorem zAC {el:TypeId} {kd:IntKind} {t' s:Nat} {i:Int} (ht:P.underlying t=some (.slice el)) (hs:∀ w,(sizeOf el).run P w = .ok s w) (hx:aev n e x = .hd k) (hk:H[k]?=some (.vec t' s (l.map f))) (hy:aev n e y = .lit (.int kd i)) (hi:inb i l.length=true) :
    zt P n e H (.indexAddr t x y) (.ptr k (i.toNat*s)) :=
  zP6 ht hs hx hk hy (by rw [List.length_map]; exact hi)
theorem zBY [Inhabited α] {t' s c:Nat} {i:Int} {a:AV} (ha:∀ w,(isAgg t).run P w = .ok false w) (hx:aev n e x = .ptr k o) (hk:H[k]?=some (.vec t' s (l.map f))) (ho:o=i.toNat*s+c) (hi:inb i l.length=true) (hc:(f (at_ l i))[c]?=some a) (hE:isE a=true):zt P n e H (.load t x) a :=
  zOb ha hx hk ho (zOy hi) hc hE
theorem zCj [Inhabited α] {t' s c q:Nat} {i:Int} {la:List AV} (ha:∀ w,(isAgg t).run P w = .ok true w) (hs:∀ w,(sizeOf t).run P w = .ok q w) (hx:aev n e x = .ptr k o) (hk:H[k]?=some (.vec t' s (l.map f))) (ho:o=i.toNat*s+c) (hi:inb i l.length=true) (hm:Nat.ble (c+q) (f (at_ l i)).length=true) (hc:((f (at_ l i)).drop c).take q=la) (hE:la.all isE=true):zt P n e H (.load t x) (.agg la) :=
  zOg ha hs hx hk ho (zOy hi) hm hc hE
theorem zCR [Inhabited α] {s c:Nat} {T:TypeId} {i:Int} {a:AV} {z:α} (hz:∀ w,(sizeOf t).run P w = .ok 1 w) (hx:aev n e x = .ptr k o) (hk:H[k]?=some (.vec T s (l.map f))) (ho:o=i.toNat*s+c) (hi:inb i l.length=true) (hc:Nat.blt c (f (at_ l i)).length=true) (hy:aev n e y=a) (ha:isC a=true) (hn:nr a=true) (hset:(f (at_ l i)).set c a=f z) :
    zPE P n e H (.store t x y) (H.set k (.vec T s ((l.set i.toNat z).map f))):=by
  have:=zNm hz hx hk ho (zOy hi) (by simpa [Nat.blt_eq] using hc) hy ha hn
  rw [hset, ← List.map_set] at this
  exact this
theorem zCN [Inhabited α] {s:Nat} {T:TypeId} {i:Int} {z:α} (hz:∀ w,(sizeOf t).run P w = .ok s w) (hl:∀ x,(f x).length=s) (hx:aev n e x = .ptr k o) (hk:H[k]?=some (.vec T s (l.map f))) (ho:o=i.toNat*s) (hi:inb i l.length=true) (hy:aev n e y = .agg (f z)) (hn:(f z).all nr=true) :
    zPE P n e H (.store t x y) (H.set k (.vec T s ((l.set i.toNat z).map f))):=by
  have:=zOA hz hx hk ho (by rw [List.length_map]; exact (zBT hi).2) hy (hl z) hn
  rw [← List.map_set] at this
  exact this
theorem zDu {el sz bytes:Nat} {z:Value} {kx ky:IntKind} {a c:Int} {d0:α} (hE:zKZ P el sz z bytes) (hzr:zFR (z.cells.toList.map .lit) (f d0)) (hz1:z.cells.toList.all (·.oneCell')=true) (ht:P.underlying t=some (.slice el)) (hx:aev n e x = .lit (.int kx a)) (hy:aev n e y = .lit (.int ky c))
    (hb:(decide (0≤a)&&decide (a≤c)&&decide (c*(bytes:Int)≤4294967296))=true) (hk:ALW P n m ops rest kk (zHr e d (.hd H.length)) (H++[.vec el sz ((List.replicate a.toNat d0).map f)])) :
    ALW P n m ops (⟨some d,.makeSlice t x y,tt,p,af,none⟩::rest) kk e H:=by
  rw [List.map_replicate] at hk
  exact zRS hE hzr hz1 ht hx hy hb hk
theorem zF0 {el sz bytes:Nat} {z:Value} (hE:zKZ P el sz z bytes) (hl:∀ x,(f x).length=sz) (ht:P.underlying t=some (.slice el)) (hx:aev n e x = .hd k) (hkk:H[k]?=some (.vec el sz (l.map f))) (hy:aev n e y = .sl full (l'.map f)) (hb:decide ((l.length+l'.length)*bytes≤4294967296)=true)
    (hk:ALW P n m ops rest kk (zHr e d (.hd H.length)) (H.set k .dead++[.vec el sz ((l++l').map f)])) :
    ALW P n m ops (⟨some d,.call { callee := .builtin .append,args := #[x,y],argTypes := #[t,t] },tt,p,af,none⟩::rest) kk e H:=by
  rw [List.map_append] at hk
  exact zPn hE ht hx hkk hy (zLZ hl) (by rw [List.length_map,List.length_map]; exact hb) hk
theorem zDC {el el' sz bytes:Nat} {z:Value} (hE:zKZ P el sz z bytes) (hf:∀ x,(f x).all isE=true) (ht:P.underlying t=some (.slice el)) (hx:aev n e x = .hd k) (hkk:H[k]?=some (.vec el sz (l.map f))) (hy:aev n e y = .hd j) (hj:H[j]?=some (.vec el' sz (l'.map f))) (hb:decide ((l.length+l'.length)*bytes≤4294967296)=true)
    (hk:ALW P n m ops rest kk (zHr e d (.hd H.length)) (H.set k .dead++[.vec el sz ((l++l').map f)])) :
    ALW P n m ops (⟨some d,.call { callee := .builtin .append,args := #[x,y],argTypes := #[t,t] },tt,p,af,none⟩::rest) kk e H:=by
  rw [List.map_append] at hk
  exact zOe hE ht hx hkk hy hj (zPx hf) (by rw [List.length_map,List.length_map]; exact hb) hk
theorem zIQ {S:List Nat} {t' sz:Nat} (hf:∀ x,zOF (f x)=f x) (hk:H[k]?=some (.vec t' sz (l.map f))) (hS:S.contains k=true):zAs H S (.hd k) (.sl false (l.map f)):=by
  have:=zAs.hd hk hS
  rw [zAL hf] at this
  exact this
theorem zKw {el ty2:TypeId} {rows:List (List AV)} (ht:P.underlying t=some (.slice el)) (hx:aev n e x = .sl full rows) (hk:∀ b:Bool,(b=true→rows=[])→ALW P n m ops rest kk (zHr e d (.lit (.bool b))) H) :
    ALW P n m ops (⟨some d,.binOp .eql t x (.const (.slice none 0 0)) ty2,tt,p,af,none⟩::rest) kk e H:=by
  intro w A0 κ fp F h1 h2
  have hv:=h2.ev x
  rw [hx] at hv
  unfold VR at hv
  obtain ⟨_,a,c,hv,h3,h4,h5,h6⟩:=hv
  refine zLi (zQd ht hv rfl) (zCW (hk (zOq (.slice a rows.length c)) (fun hb => ?_) w A0 κ fp _ h1 (h2.upd (zHS _ _ _ _))) (fun _ _=>zAr (zHi.refl _ _ _ _)))
  rcases h6 with h6 | ⟨b,o,sz,vr,rfl,_⟩
  · exact h6
  · cases hb
theorem zx {K:zLT} {xc yc:Code} (Inv:zCH→zAQ→Prop) (h1:AW P n m xc ⟨Inv,K.ret,K.exits⟩ e H) (h2:∀ e H,Inv e H→AW P n m yc K e H):AW P n m (.seq xc yc) K e H :=
  zH (zSn h1 h2 (fun _ _ h=>h) rfl)
end
end Go.Am
