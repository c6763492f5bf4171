/-
  The walker's own rules, part H: the library's slices.Insert and slices.Delete at rows of numbers that the call owns, out of the shelf's contracts.
  Conditions: none: plain theorems over whatever program P that bears these functions.
-/
import Derived.Test.YtplkliakhdkpcaaGreatWkG
import Derived.Shelf.Spec.SlicesInsertGrow
import Derived.Shelf.Slices.Delete
import Derived.Lib.RowBridge
set_option linter.unusedVariables false
set_option linter.unusedSimpArgs false
namespace Go.Wk
open Go Go.RowKit Go.Shelf Go.Proofs
open Go.Sort (putRow Holds)
theorem zE2 {b:Nat} {t:TypeId}:∀ (vs:List Value) (o:Nat) (cs:List Value) (w:World),Blk w b t cs→o+vs.length≤cs.length→Blk (w.setCells b o vs) b t (zDF cs o vs)
  | [],o,cs,w,h,_=>by rw [zME]; exact h
  | v::vs,o,cs,w,h,hl=>by
    rw [World.setCells,zLG hl]
    exact zE2 vs (o+1) (cs.set o v) _ h.set (by simp at hl ⊢; omega)
theorem Kp.setCells (b:Nat):∀ (vs:List Value) (o:Nat) (w:World),Kp [b] w (w.setCells b o vs)
  | [],_,w=>Kp.refl _ w
  | v::vs,o,w=>by
    rw [World.setCells]
    exact (Kp.setCell w ⟨b,o,none⟩ v).trans (Kp.setCells b vs (o+1) _)
theorem Blk.drew {w:World} {b:Nat} {t:TypeId} {cs:List Value} (h:Blk w b t cs):Blk w.drew b t cs:=h
theorem Blk.shape {w:World} {b:Nat} {t:TypeId} {cs:List Value} (h:Blk w b t cs):w.shape? b=some (t,cs.length):=by
  unfold Blk at h
  simp [World.shape?,h]
theorem Blk.frozen {w:World} {b j:Nat} {t:TypeId} {cs:List Value} (h:Blk w b t cs):w.frozen? ⟨b,j,none⟩=false:=by
  unfold Blk at h
  simp [World.frozen?,h]
theorem Blk.get {w:World} {b j:Nat} {t:TypeId} {cs:List Value} {v:Value} (h:Blk w b t cs) (hv:cs[j]?=some v):w.cell? ⟨b,j,none⟩=some v:=by
  have:=h.cells j v hv
  rwa [Nat.zero_add] at this
theorem zOQ (xs:List Value) (A:Array Value):(xs++A.toList).toArray=xs.toArray++A:=by simp
theorem zRZ (xs:List Value) (A:Array Value):(xs++A.toList).toArray=xs.toArray++A:=by simp
theorem zJH (z:Value) (n:Nat) (hz:z.cells.size=1):(Builtin.zeroCells z.cells n).size=n:=by
  simp [Builtin.zeroCells,hz]
theorem zQw {xs:List Int} {v:Value} (h:v∈xs.map (Value.int .i64)):v.oneCell'=true:=by
  obtain ⟨x,_,rfl⟩:=List.mem_map.1 h
  rfl
theorem zPh {cs vs:List Value} {j k:Nat} (h:j≤cs.length) (hk:k≤j):(zDF cs j vs).take k=cs.take k:=by
  unfold zDF
  rw [List.append_assoc,List.take_append_of_le_length (by simp; omega),List.take_take,Nat.min_eq_left hk]
theorem zPm {cs vs:List Value} {j:Nat} (h:j≤cs.length):(zDF cs j vs).drop j=vs++cs.drop (j+vs.length):=by
  unfold zDF
  rw [List.append_assoc]
  exact List.drop_left' (by simp; omega)
theorem zPt (A B S:List Value) (v:Value) (h:1≤S.length):zDF (zDF (A++B++S) (A.length+1) B) A.length [v]=A++v::B++S.drop 1:=by
  have hl:A.length+1≤(A++B++S).length:=by simp; omega
  have e:∀ X:List Value,zDF X A.length [v]=X.take A.length++v::X.drop (A.length+1):=fun X=>by simp [zDF]
  rw [e,zPh hl (by omega),zPm hl,List.append_assoc,List.take_left' rfl]
  have:(A++(B++S)).drop (A.length+1+B.length)=S.drop 1:=by
    rw [Nat.add_assoc,List.drop_length_add_append,Nat.add_comm,List.drop_length_add_append]
  rw [this]
  simp
theorem zRR (A B Z S:List Value) (v:Value) (h:Z.length=B.length+1):zDF (zDF (A++Z++S) A.length [v]) (A.length+1) B=A++v::B++S:=by
  have hl:A.length≤(A++Z++S).length:=by simp
  have e1:zDF (A++Z++S) A.length [v]=(A++[v])++(Z.drop 1++S):=by
    unfold zDF
    rw [List.append_assoc A Z S,List.take_left' rfl,List.length_singleton,List.drop_length_add_append,List.drop_append_of_le_length (by omega)]
  rw [e1]
  unfold zDF
  rw [List.take_left' (by simp)]
  have:((A++[v])++(Z.drop 1++S)).drop (A.length+1+B.length)=S:=by
    rw [show A.length+1+B.length=(A++[v]).length+B.length by simp,List.drop_length_add_append]
    exact List.drop_left' (by simp; omega)
  rw [this]
  simp
theorem zP1 (xs:List Int) (i:Nat):xs.map (Value.int .i64)=(xs.take i).map (Value.int .i64)++(xs.drop i).map (Value.int .i64):=by rw [← List.map_append,List.take_append_drop]
theorem zJ1 {w:World} {T:Nat} {b cap n:Nat} {ys:List Int} {sp:List Value} (hn:ys.length=n) (h:Blk w b T (ys.map (Value.int .i64)++sp)) (h1:n≤cap) (h2:n≤140737488355328∧cap≤maxLen) (h3:(ys.map (Value.int .i64)++sp).length=cap) :
    zJN w T 1 (some b) (.slice (some ⟨b,0,none⟩) n cap) (zL1 ys):=by
  subst hn
  refine ⟨fun r hr=>zRe hr,.inr ⟨b,cap,sp,rfl,by rw [zJL],by rw [zJL]; exact h1,by rw [zJL]; exact h2,by rw [zKh]; exact h,by rw [zKh,h3,Nat.mul_one]⟩⟩
section
variable {P:Program} {ρ:Ren} {w:World} {g:Option Nat} {v:Value} {xs:List Int}
def zSH (T:Nat) (w:World) (g:Option Nat) (ys:List Int) (v':Value) (w':World):Prop :=
  ∃ g',zJN w' T 1 g' v' (zL1 ys)∧Kp g.toList w w'∧(g'=g ∨ ∃ b,g'=some b∧w.heap.size≤b)
theorem zRC (L:Lays2.n21 P ρ) {i vb vc:Nat} {x:Int} (h:zJN w (ρ.t 3) 1 g v (zL1 xs)) (hl:zJN w (ρ.t 3) 1 (some vb) (.slice (some ⟨vb,0,none⟩) 1 vc) (zL1 [x])) (hne:g≠some vb) (hi:i≤xs.length) (hb:xs.length≤1000000) :
    FnC P (ρ.f 21) #[v,.int .i64 (i:Int),.slice (some ⟨vb,0,none⟩) 1 vc] w (zSH (ρ.t 3) w g (xs.take i++x::xs.drop i)):=by
  have hcv:∀ j u,[Value.int .i64 x][j]?=some u→w.cell? ⟨vb,0+j,none⟩=some u:=by
    have:=zQZ hl (i:=0) (r:=[Value.int .i64 x]) rfl (b:=vb) rfl
    intro j u hu
    have:=this j u hu
    rwa [Nat.zero_mul] at this
  have h1v:∀ u∈[Value.int .i64 x],u.oneCell'=true:=by intro u hu; simp at hu; subst hu; rfl
  have hyl:(xs.take i++x::xs.drop i).length=xs.length+1:=by simp; omega
  obtain ⟨vb',vcap,vsp,hv1,hv2,hv3,hv4,hv5,hv6⟩:=zLO hl (i:=0) (by simp [zL1])
  cases hv1
  rcases h.2 with ⟨rfl,rfl,hx⟩ | ⟨b,cap,sp,rfl,rfl,h3,h4,h5,h6⟩
  ·
    have hx0:xs=[]:=List.length_eq_zero_iff.1 (by have:=congrArg List.length hx; simpa [zJL] using this)
    subst hx0
    have hi0:i=0:=by simpa using hi
    subst hi0
    refine Calls.mono (Any2.slices_Insert_int_end_grow L none 0 0 vb 0 1 vc [] [.int .i64 x] w (by omega) (by omega) (by omega) (by omega) rfl rfl (fun _=>rfl) (fun a ha=>by cases ha) hcv h1v) ?_
    rintro e w' ⟨rfl,rfl⟩
    refine ⟨_,rfl,some w.heap.size,?_,(Kp.drew w).trans (Kp.alloc w.drew _),.inr ⟨_,rfl,Nat.le_refl _⟩⟩
    have hge:=grownCap_ge w (0+1) 0 (ρ.t 3)
    have hle:=grownCap_le_maxLen w (0+1) 0 (ρ.t 3) (by decide)
    refine zJ1 (ys:=[x]) (sp:=(Builtin.zeroCells (Value.int .i64 0).cells (grownCap w (0+1) 0 (ρ.t 3) - (0+1))).toList) rfl ?_ hge ⟨by omega,hle⟩ ?_
    · have:=zJU w.drew (ρ.t 3) ([Value.int .i64 x]++(Builtin.zeroCells (Value.int .i64 0).cells (grownCap w (0+1) 0 (ρ.t 3) - (0+1))).toList)
      rw [zOQ] at this
      exact this
    · have:=zJH (.int .i64 0) (grownCap w (0+1) 0 (ρ.t 3) - (0+1)) rfl
      simp only [List.length_append,List.length_map,Array.length_toList,this,List.length_singleton]
      omega
  · rw [zJL] at h3 h4 ⊢
    rw [zKh] at h5 h6
    rw [Nat.mul_one] at h6
    have hvb:vb≠b:=by rintro rfl; exact hne rfl
    have hcs:∀ j u,(xs.map (Value.int .i64))[j]?=some u→w.cell? ⟨b,0+j,none⟩=some u:=fun j u hu=>by
      rw [Nat.zero_add]
      exact h5.get (by rw [List.getElem?_append_left (zAS hu)]; exact hu)
    have hsp:∀ j,j<cap→(w.cell? ⟨b,0+j,none⟩).isSome=true:=fun j hj=>by
      have hj':j<(xs.map (Value.int .i64)++sp).length:=by omega
      rw [Nat.zero_add,h5.get (List.getElem?_eq_getElem hj')]
      rfl
    have hsl:sp.length=cap - xs.length:=by simp at h6; omega
    by_cases hroom:xs.length+1≤cap
    · by_cases hin:i<xs.length
      · refine Calls.mono (Any2.slices_Insert_int_shift L b 0 xs.length cap i vb 0 1 vc (xs.map (Value.int .i64)) [.int .i64 x] w hin (by omega) hroom (by have:=h4.2; unfold maxLen at this; omega) hvb (by simp) rfl hcs (fun j hj=>hsp j (by omega)) (fun j _=>h5.frozen) hcv (fun u hu=>zQw hu) h1v _ _ _ _ hv5.shape h5.shape (by omega) hv5.frozen hv5.frozen) ?_
        rintro e w' ⟨rfl,rfl⟩
        refine ⟨_,rfl,some b,?_,((Kp.drew w).to [b]).trans ((Kp.setCells b _ _ _).trans (Kp.setCells b _ _ _)),.inl rfl⟩
        have hA:=zE2 ((xs.map (Value.int .i64)).drop i) (0+(i+1)) _ _ h5.drew (by rw [h6]; simp; omega)
        have hB:=zE2 [Value.int .i64 x] (0+i) _ _ hA (by rw [zLP (by rw [h6]; simp; omega),h6]; simp; omega)
        refine zJ1 (sp:=sp.drop 1) hyl ?_ hroom ⟨by omega,h4.2⟩ (by simp [hsl]; omega)
        have e:zDF (zDF (xs.map (Value.int .i64)++sp) (0+(i+1)) ((xs.map (Value.int .i64)).drop i)) (0+i) [Value.int .i64 x]=(xs.take i++x::xs.drop i).map (Value.int .i64)++sp.drop 1:=by
          have hA:((xs.take i).map (Value.int .i64)).length=i:=by simp; omega
          have:=zPt ((xs.take i).map (Value.int .i64)) ((xs.drop i).map (Value.int .i64)) sp (.int .i64 x) (by omega)
          rw [← zP1,hA] at this
          rw [Nat.zero_add,Nat.zero_add, ← List.map_drop,this]
          simp
        rw [← e]
        exact hB
      · have hin':i=xs.length:=by omega
        subst hin'
        refine Calls.mono (Any2.slices_Insert_int_end_room L b 0 xs.length cap vb 0 1 vc [.int .i64 x] w (by omega) hroom (by have:=h4.2; unfold maxLen at this; omega) rfl (fun j hj=>by have:=hsp (xs.length+j) (by omega); rwa [← Nat.add_assoc] at this) (fun j _=>h5.frozen) hcv h1v) ?_
        rintro e w' ⟨rfl,rfl⟩
        refine ⟨_,rfl,some b,?_,Kp.setCells b _ _ _,.inl rfl⟩
        have hA:=zE2 [Value.int .i64 x] (0+xs.length) _ _ h5 (by rw [h6]; simp; omega)
        refine zJ1 (sp:=sp.drop 1) hyl ?_ hroom ⟨by omega,h4.2⟩ (by simp [hsl]; omega)
        have e:zDF (xs.map (Value.int .i64)++sp) (0+xs.length) [Value.int .i64 x]=(xs.take xs.length++x::xs.drop xs.length).map (Value.int .i64)++sp.drop 1:=by
          unfold zDF
          rw [Nat.zero_add,List.take_left' (by simp),List.take_length,List.drop_length]
          rw [show xs.length+[Value.int .i64 x].length=(xs.map (Value.int .i64)).length+1 by simp,List.drop_length_add_append]
          simp
        rw [← e]
        exact hA
    · have hge:=grownCap_ge w (xs.length+1) cap (ρ.t 3)
      have hle:=grownCap_le_maxLen w (xs.length+1) cap (ρ.t 3) (by unfold maxLen; omega)
      have hz:(Builtin.zeroCells (Value.int .i64 0).cells (grownCap w (xs.length+1) cap (ρ.t 3) - (xs.length+1))).toList.length=grownCap w (xs.length+1) cap (ρ.t 3) - (xs.length+1):=by rw [Array.length_toList]; exact zJH (.int .i64 0) _ rfl
      by_cases hin:i<xs.length
      · refine Calls.mono (Any2.slices_Insert_int_grow L b 0 xs.length cap i vb 0 1 vc (xs.map (Value.int .i64)) [.int .i64 x] w hin (by omega) h3 (by omega) (by omega) (by simp) rfl hcs hcv (fun u hu=>zQw hu) h1v) ?_
        rintro e w' ⟨rfl,rfl⟩
        refine ⟨_,rfl,some w.heap.size,?_,?_,.inr ⟨_,rfl,Nat.le_refl _⟩⟩
        · have hz2:=zJH (.int .i64 0) (xs.length+1 - i) rfl
          have hN:=zJU w (ρ.t 3) (((xs.map (Value.int .i64)).take i)++(Builtin.zeroCells (Value.int .i64 0).cells (xs.length+1 - i)).toList++(Builtin.zeroCells (Value.int .i64 0).cells (grownCap w (xs.length+1) cap (ρ.t 3) - (xs.length+1))).toList)
          have hlA:(((xs.map (Value.int .i64)).take i)++(Builtin.zeroCells (Value.int .i64 0).cells (xs.length+1 - i)).toList++(Builtin.zeroCells (Value.int .i64 0).cells (grownCap w (xs.length+1) cap (ρ.t 3) - (xs.length+1))).toList).length=grownCap w (xs.length+1) cap (ρ.t 3):=by
            rw [List.length_append,List.length_append,hz,Array.length_toList (xs:=Builtin.zeroCells (Value.int .i64 0).cells (xs.length+1 - i)),hz2,List.length_take,List.length_map]; omega
          have hA:=zE2 [Value.int .i64 x] i _ _ hN.drew (by rw [hlA]; simp; omega)
          have hB:=zE2 ((xs.map (Value.int .i64)).drop i) (i+1) _ _ hA.drew (by rw [zLP (by rw [hlA]; simp; omega),hlA]; simp; omega)
          refine zJ1 (sp:=(Builtin.zeroCells (Value.int .i64 0).cells (grownCap w (xs.length+1) cap (ρ.t 3) - (xs.length+1))).toList) hyl ?_ hge ⟨by omega,hle⟩ (by rw [List.length_append,List.length_map,hyl,hz]; omega)
          have e:zDF (zDF (((xs.map (Value.int .i64)).take i)++(Builtin.zeroCells (Value.int .i64 0).cells (xs.length+1 - i)).toList++(Builtin.zeroCells (Value.int .i64 0).cells (grownCap w (xs.length+1) cap (ρ.t 3) - (xs.length+1))).toList) i [Value.int .i64 x]) (i+1) ((xs.map (Value.int .i64)).drop i)=(xs.take i++x::xs.drop i).map (Value.int .i64)++(Builtin.zeroCells (Value.int .i64 0).cells (grownCap w (xs.length+1) cap (ρ.t 3) - (xs.length+1))).toList:=by
            generalize (Builtin.zeroCells (Value.int .i64 0).cells (grownCap w (xs.length+1) cap (ρ.t 3) - (xs.length+1))).toList=S
            have hZ:(Builtin.zeroCells (Value.int .i64 0).cells (xs.length+1 - i)).toList.length=xs.length+1 - i:=by rw [Array.length_toList,hz2]
            generalize (Builtin.zeroCells (Value.int .i64 0).cells (xs.length+1 - i)).toList=Z at hZ
            have hA:((xs.take i).map (Value.int .i64)).length=i:=by simp; omega
            have:=zRR ((xs.take i).map (Value.int .i64)) ((xs.drop i).map (Value.int .i64)) Z S (.int .i64 x) (by rw [hZ]; simp; omega)
            rw [hA] at this
            rw [← List.map_take, ← List.map_drop,this]
            simp
          rw [← e]
          rw [zOQ,zRZ] at hB
          exact hB
        · have k1:=(Kp.alloc w (.cells (((xs.map (Value.int .i64)).take i).toArray++Builtin.zeroCells (Value.int .i64 0).cells (xs.length+1 - i)++Builtin.zeroCells (Value.int .i64 0).cells (grownCap w (xs.length+1) cap (ρ.t 3) - (xs.length+1))) (ρ.t 3))).trans (Kp.drew _)
          have k2:=k1.new1 (Kp.setCells w.heap.size [Value.int .i64 x] i _) (Nat.le_refl _)
          have k3:=k2.trans (Kp.drew _)
          exact (k3.new1 (Kp.setCells w.heap.size _ (i+1) _) (Nat.le_refl _)).to _
      · have hin':i=xs.length:=by omega
        subst hin'
        refine Calls.mono (Any2.slices_Insert_int_end_grow L (some ⟨b,0,none⟩) xs.length cap vb 0 1 vc (xs.map (Value.int .i64)) [.int .i64 x] w (by omega) h3 (by omega) (by omega) (by simp) rfl (fun e=>by cases e) (fun a ha j u hu=>by cases ha; rw [Addr.add_lit]; exact hcs j u hu) hcv h1v) ?_
        rintro e w' ⟨rfl,rfl⟩
        refine ⟨_,rfl,some w.heap.size,?_,((Kp.drew w).trans (Kp.alloc w.drew _)).to _,.inr ⟨_,rfl,Nat.le_refl _⟩⟩
        refine zJ1 (sp:=(Builtin.zeroCells (Value.int .i64 0).cells (grownCap w (xs.length+1) cap (ρ.t 3) - (xs.length+1))).toList) hyl ?_ hge ⟨by omega,hle⟩ (by rw [List.length_append,List.length_map,hyl,hz]; omega)
        have:=zJU w.drew (ρ.t 3) ((xs.map (Value.int .i64)++[Value.int .i64 x])++(Builtin.zeroCells (Value.int .i64 0).cells (grownCap w (xs.length+1) cap (ρ.t 3) - (xs.length+1))).toList)
        rw [zOQ] at this
        rw [List.take_length,List.drop_length,List.map_append]
        exact this
theorem zPg {T:TypeId} {cs ys:List Int} {sp:List Value} {b q:Nat} (h:Blk w b T (cs.map (Value.int .i64)++sp)) (hl:ys.length=cs.length):Blk (putRow (Value.int .i64) (Sort.ahead w q) b 0 ys.toArray) b T (ys.map (Value.int .i64)++sp)∧Kp [b] w (putRow (Value.int .i64) (Sort.ahead w q) b 0 ys.toArray):=by
  have hH:Holds (Value.int .i64) w b 0 cs.toArray:=fun j hj=>by
    have hj':j<cs.length:=by simpa using hj
    refine ⟨?_,h.frozen⟩
    rw [Nat.zero_add]
    refine h.get ?_
    rw [List.getElem?_append_left (by simpa using hj'),List.getElem?_map]
    simp [hj']
  have e:=Lib.putRow_eq_setCells (Value.int .i64) w b 0 cs.toArray ys q hH (by simpa using hl)
  rw [e]
  refine ⟨?_,?_⟩
  · have:=zE2 (ys.map (Value.int .i64)) 0 _ _ (show Blk (w.drewN q) b T (cs.map (Value.int .i64)++sp) from h) (by simp [hl])
    have e2:zDF (cs.map (Value.int .i64)++sp) 0 (ys.map (Value.int .i64))=ys.map (Value.int .i64)++sp:=by
      unfold zDF
      simp [hl]
    rw [e2] at this
    exact this
  · exact (Kp.drawn w _).to [b] |>.trans (Kp.setCells b _ _ _)
theorem zRT (L:Lays2.n23 P ρ) {i:Nat} (h:zJN w (ρ.t 3) 1 g v (zL1 xs)) (hi:i<xs.length) :
    FnC P (ρ.f 23) #[v,.int .i64 (i:Int),.int .i64 ((i+1:Nat):Int)] w (zSH (ρ.t 3) w g (xs.eraseIdx i)):=by
  obtain ⟨b,cap,sp,rfl,rfl,h3,h4,h5,h6⟩:=zLO h (i:=0) (by rw [zJL]; omega)
  rw [zJL] at h3 h4 ⊢
  rw [zKh] at h5 h6
  rw [Nat.mul_one] at h6
  have hH:Holds (Value.int .i64) w b 0 xs.toArray:=fun j hj=>by
    have hj':j<xs.length:=by simpa using hj
    refine ⟨?_,h5.frozen⟩
    rw [Nat.zero_add]
    refine h5.get ?_
    rw [List.getElem?_append_left (by simpa using hj'),List.getElem?_map]
    simp [hj']
  refine Calls.mono (Any.slices_Delete_int L b 0 cap i (i+1) xs w hH h3 (by have:=h4.2; unfold maxLen at this; omega) (by omega) (by omega)) ?_
  rintro e w' ⟨rfl,q,rfl⟩
  have hyl:(xs.take i++xs.drop (i+1)++List.replicate (i+1 - i) 0).length=xs.length:=by simp; omega
  obtain ⟨k1,k2⟩:=zPg (q:=q) h5 hyl
  have he:xs.eraseIdx i=xs.take i++xs.drop (i+1):=List.eraseIdx_eq_take_drop_succ ..
  refine ⟨_,rfl,some b,?_,k2,.inl rfl⟩
  rw [show xs.length - (i+1 - i)=xs.length - 1 by omega]
  refine zJ1 (sp:=Value.int .i64 0::sp) (by rw [List.length_eraseIdx_of_lt hi]) ?_ (by omega) ⟨by omega,h4.2⟩ ?_
  · rw [he]
    have hrep:List.replicate (i+1 - i) (0:Int)=[0]:=by rw [Nat.add_sub_cancel_left]; rfl
    rw [hrep] at k1 ⊢
    simpa using k1
  · simp at h6 ⊢
    rw [List.length_eraseIdx_of_lt hi]
    omega
end
end Go.Wk
