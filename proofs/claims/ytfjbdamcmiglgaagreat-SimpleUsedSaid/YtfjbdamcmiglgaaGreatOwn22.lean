/- Part 22 of my own framework and of the walks of functions: AbsW. -/
import Derived.Test.YtfjbdamcmiglgaaGreatOwn21
abbrev cw:=@List.mem_range
set_option linter.unusedVariables false
set_option linter.unusedSectionVars false
set_option linter.unusedSimpArgs false
namespace Go.cV
open Go
inductive j6 (ops:Array Oper):Nat→Nat→Prop
 | edge {j:Nat} {o:Oper} {e:Edge} (h1:ops[j]? = some o) (h2:e∈o.after) (h3:Region.binds .any e=true):j6 ops e.on j
 | trans {i k j:Nat} (h1:j6 ops i k) (h2:j6 ops k j):j6 ops i j
def jI (ops:Array Oper):Bool:=(List.range ops.size).all fun j=>((ops[j]?).map fun o=>o.after.toList.all fun e=>!Region.binds .any e||decide (e.on<j)).getD true
theorem j6.lt {ops:Array Oper} (h:jI ops=true) {i j:Nat} (hb:j6 ops i j):i<j:=by
 induction hb with
 | @edge j o e h1 h2 h3 =>
  have hj:j<ops.size:=(aL.1 h1).1
  simp only [jI,bp,cw] at h
  have:=h j hj
  rw [h1] at this
  simp only [bw,br,bp] at this
  have:=this e (by simpa using h2)
  simpa [h3] using this
 | trans _ _ h1 h2=>omega
theorem j6.lt_size {ops:Array Oper} {i j:Nat} (hb:j6 ops i j):j<ops.size:=by
 induction hb with
 | edge h1 _ _=>exact (aL.1 h1).1
 | trans _ _ _ h2=>exact h2
def oK (acc:List Nat) (o:Oper):Nat:=o.after.toList.foldr (fun e s=>if Region.binds .any e=true then s ||| (2 ^ e.on ||| acc.getD e.on 0) else s) 0
def tQ:List Nat→List Oper→List Nat
 | acc,[]=>acc
 | acc,o :: l=>tQ (acc++[oK acc o]) l
theorem Zru {ops:Array Oper} {acc:List Nat} {o:Oper} {j:Nat} (ho:ops[j]? = some o) (Mv:∀ j i,(acc.getD j 0).testBit i=true→j6 ops i j):∀ i,(oK acc o).testBit i=true→j6 ops i j:=by
 intro i
 unfold oK
 have key:∀ l:List Edge,(∀ e∈l,e∈o.after)→(l.foldr (fun e s=>if Region.binds .any e=true then s ||| (2 ^ e.on ||| acc.getD e.on 0) else s) 0).testBit i=true→j6 ops i j:=by
  intro l
  induction l with
  | nil=>intro _ h;simp at h
  | cons e l ih =>
   intro hl h
   simp only [List.foldr_cons] at h
   split at h
   ·rename_i hb
    simp only [Nat.testBit_or,b9] at h
    rcases h with h | h | h
    ·exact ih (fun e he=>hl e (by simp [he])) h
    ·have:i=e.on:=by
      rw [Nat.testBit_two_pow] at h
      simpa [eq_comm] using h
     rw [this];exact .edge ho (hl e (by simp)) hb
    ·exact .trans (Mv _ _ h) (.edge ho (hl e (by simp)) hb)
   ·exact ih (fun e he=>hl e (by simp [he])) h
 exact key _ fun e he=>by simpa using he
theorem Zjw (a b:List Nat) (i:Nat):(a++b).getD i 0=if i<a.length then a.getD i 0 else b.getD (i - a.length) 0:=by
 simp only [List.getD,qy]
 split<;>rfl
theorem Ky {ops:Array Oper}:∀ (l:List Oper) (acc:List Nat),ops.toList.drop acc.length=l→(∀ j i,(acc.getD j 0).testBit i=true→j6 ops i j)→∀ j i,((tQ acc l).getD j 0).testBit i=true→j6 ops i j
 | [],acc,_,h=>h
 | o :: l,acc,hd,h=>by
  have ho:ops[acc.length]? = some o:=by
   have:(ops.toList.drop acc.length)[0]? = some o:=by rw [hd];rfl
   simpa using this
  refine Ky l (acc++[oK acc o]) ?_ fun j i hj=>?_
  ·have:ops.toList.drop (acc.length+1)=(ops.toList.drop acc.length).drop 1:=by rw [List.drop_drop]
   rw [ay,di,this,hd];rfl
  ·rw [Zjw] at hj
   split at hj
   ·exact h j i hj
   ·rename_i bD
    by_cases e:j=acc.length
    ·subst e
     simp only [ei,bg] at hj
     exact Zru ho h i hj
    ·have:([oK acc o].getD (j - acc.length) 0)=0:=by
      have:j - acc.length=(j - acc.length - 1)+1:=by omega
      rw [this];simp
     rw [this] at hj;simp at hj
def yN (b:List Nat) (i j:Nat):Bool:=(b.getD j 0).testBit i||(b.getD i 0).testBit j
theorem Ki {ops:Array Oper} {i j:Nat} (h:yN (tQ [] ops.toList) i j=true):j6 ops i j∨j6 ops j i:=by
 simp only [yN,b9] at h
 have key:=Ky (ops:=ops) ops.toList [] (by simp) (fun j i h=>by simp at h)
 exact h.imp (key j i) (key i j)
section
variable {V:Type} {m:Nat} {wr:Nat→Nat→Prop} {S:Nat→Nat→V} {ops:Array Oper}
def fI (m:Nat) (wr:Nat→Nat→Prop) (S:Nat→Nat→V) (D:Nat→Prop) (s:Nat→V):Prop :=
 ∀ l,((∀ j,j<m→D j→¬ wr j l)→s l=S 0 l)∧∀ j,j<m→D j→wr j l→(∀ j',j'<m→D j'→wr j' l→j'≤j)→s l=S (j+1) l
theorem HV (hS:∀ i l,i<m→¬ wr i l→S (i+1) l=S i l) {l:Nat}:∀ i j,j≤i→i≤m→(∀ k,j≤k→k<i→¬ wr k l)→S i l=S j l:=by
 intro i
 induction i with
 | zero=>intro j hj _ _;obtain rfl:j=0:=by omega
         rfl
 | succ i ih =>
  intro j hj hi h
  by_cases e:j=i+1
  ·rw [e]
  ·rw [hS i l (by omega) (h i (by omega) (by omega)),ih j (by omega) (by omega) fun k h1 h2=>h k h1 (by omega)]
theorem JS (l:Nat):∀ i,(∀ j,j<i→¬ wr j l)∨∃ j,j<i∧wr j l∧∀ k,j<k→k<i→¬ wr k l:=by
 intro i
 induction i with
 | zero=>exact .inl fun j hj=>by omega
 | succ i ih =>
  by_cases h:wr i l
  ·exact .inr ⟨i,by omega,h,fun k h1 h2=>by omega⟩
  ·rcases ih with h1 | ⟨j,h1,h2,h3⟩
   ·exact .inl fun j hj=>if e:j=i then e ▸ h else h1 j (by omega)
   ·exact .inr ⟨j,by omega,h2,fun k h4 h5=>if e:k=i then e ▸ h else h3 k h4 (by omega)⟩
theorem fI.read (hd:jI ops=true) (hS:∀ i l,i<m→¬ wr i l→S (i+1) l=S i l) {D:Nat→Prop} (ga:∀ i j,j6 ops i j→D j→D i) {s:Nat→V} (h:fI m wr S D s) {i l:Nat} (hi:i<m) (rQ:¬ D i)
  (aO:∀ j,j6 ops j i→D j) (qU:∀ j,j<m→j≠i→wr j l→j6 ops i j∨j6 ops j i):s l=S i l:=by
 have hD:∀ j,j<m→D j→wr j l→j<i:=by
  intro j hj vl hw
  have dX:j≠i:=fun e=>rQ (e ▸ vl)
  rcases qU j hj dX hw with h1 | h1
  ·exact absurd (ga i j h1 vl) rQ
  ·exact h1.lt hd
 have bD:∀ j,j<i→wr j l→D j:=by
  intro j hj hw
  rcases qU j (by omega) (by omega) hw with h1 | h1
  ·have:=h1.lt hd;omega
  ·exact aO j h1
 rcases JS (wr:=wr) l i with h1 | ⟨j,h1,h2,h3⟩
 ·rw [(h l).1 fun j hj vl hw=>h1 j (hD j hj vl hw) hw,HV hS i 0 (by omega) (by omega) fun k _ hk=>h1 k hk]
 ·rw [(h l).2 j (by omega) (bD j h1 h2) h2 fun j' rF CM hw=>?_,HV hS i (j+1) (by omega) (by omega) fun k h4 h5=>h3 k (by omega) h5]
  refine dP fun aZ=>h3 j' aZ (hD j' rF CM hw) hw
theorem fI.step (hd:jI ops=true) {D:Nat→Prop} (ga:∀ i j,j6 ops i j→D j→D i) {s s':Nat→V} (h:fI m wr S D s) {i:Nat} (hi:i<m) (rQ:¬ D i)
  (qU:∀ l,wr i l→∀ j,j<m→j≠i→wr j l→j6 ops i j∨j6 ops j i) (h1:∀ l,wr i l→s' l=S (i+1) l) (h2:∀ l, ¬ wr i l→s' l=s l):fI m wr S (fun j=>D j∨j=i) s':=by
 intro l
 by_cases hw:wr i l
 ·refine ⟨fun h3=>absurd hw (h3 i hi (.inr rfl)),fun j hj vl Dq qh=>?_⟩
  have hle:=qh i hi (.inr rfl) hw
  have:j=i:=by
   rcases vl with vl | e
   ·have dX:j≠i:=fun e=>rQ (e ▸ vl)
    rcases qU l hw j hj dX Dq with h4 | h4
    ·exact absurd (ga i j h4 vl) rQ
    ·have:=h4.lt hd;omega
   ·exact e
  rw [this];exact h1 l hw
 ·rw [h2 l hw]
  refine ⟨fun h3=>(h l).1 fun j hj vl=>h3 j hj (.inl vl),fun j hj vl Dq qh=>?_⟩
  have CM:D j:=vl.resolve_right fun e=>hw (e ▸ Dq)
  exact (h l).2 j hj CM Dq fun j' rF Mg w6=>qh j' rF (.inl Mg) w6
theorem fI.init:fI m wr S (fun _=>False) (S 0):=fun l=>⟨fun _=>rfl,fun _ _ h=>h.elim⟩
theorem fI.done (hS:∀ i l,i<m→¬ wr i l→S (i+1) l=S i l) {D:Nat→Prop} {s:Nat→V} (h:fI m wr S D s) (eX:∀ j,j<m→D j) (l:Nat):s l=S m l:=by
 rcases JS (wr:=wr) l m with h1 | ⟨j,h1,h2,h3⟩
 ·rw [(h l).1 fun j hj _=>h1 j hj,HV hS m 0 (by omega) (by omega) fun k _ hk=>h1 k hk]
 ·rw [(h l).2 j h1 (eX j h1) h2 fun j' rF _ hw=>dP fun bD=>h3 j' bD rF hw,HV hS m (j+1) (by omega) (by omega) fun k h4 h5=>h3 k (by omega) h5]
end
end Go.cV
