/- Part 22 of my own framework and of the walks of functions: AbsW. -/
import Derived.Test.YtfjbdamcmiglgaaGreatOwn21
abbrev cA:=@List.mem_range
set_option linter.unusedVariables false
set_option linter.unusedSectionVars false
set_option linter.unusedSimpArgs false
namespace Go.c8
open Go
inductive km (ops:Array Oper):Nat→Nat→Prop
 | edge {j:Nat} {o:Oper} {e:Edge} (h1:ops[j]? = some o) (h2:e∈o.after) (h3:Region.binds .any e=true):km ops e.on j
 | trans {i k j:Nat} (h1:km ops i k) (h2:km ops k j):km ops i j
def jW (ops:Array Oper):Bool:=(List.range ops.size).all fun j=>((ops[j]?).map fun o=>o.after.toList.all fun e=>!Region.binds .any e||decide (e.on<j)).getD true
theorem km.lt {ops:Array Oper} (h:jW ops=true) {i j:Nat} (hb:km ops i j):i<j:=by
 induction hb with
 | @edge j o e h1 h2 h3 =>
  have hj:j<ops.size:=(aL.1 h1).1
  simp only [jW,bj,cA] at h
  have:=h j hj
  rw [h1] at this
  simp only [bu,br,bj] at this
  have:=this e (by simpa using h2)
  simpa [h3] using this
 | trans _ _ h1 h2=>omega
theorem km.lt_size {ops:Array Oper} {i j:Nat} (hb:km ops i j):j<ops.size:=by
 induction hb with
 | edge h1 _ _=>exact (aL.1 h1).1
 | trans _ _ _ h2=>exact h2
def oX (acc:List Nat) (o:Oper):Nat:=o.after.toList.foldr (fun e s=>if Region.binds .any e=true then s ||| (2 ^ e.on ||| acc.getD e.on 0) else s) 0
def uf:List Nat→List Oper→List Nat
 | acc,[]=>acc
 | acc,o :: l=>uf (acc++[oX acc o]) l
theorem Zso {ops:Array Oper} {acc:List Nat} {o:Oper} {j:Nat} (ho:ops[j]? = some o) (MV:∀ j i,(acc.getD j 0).testBit i=true→km ops i j):∀ i,(oX acc o).testBit i=true→km ops i j:=by
 intro i
 unfold oX
 have key:∀ l:List Edge,(∀ e∈l,e∈o.after)→(l.foldr (fun e s=>if Region.binds .any e=true then s ||| (2 ^ e.on ||| acc.getD e.on 0) else s) 0).testBit i=true→km ops i j:=by
  intro l
  induction l with
  | nil=>intro _ h;simp at h
  | cons e l ih =>
   intro hl h
   simp only [List.foldr_cons] at h
   split at h
   ·rename_i hb
    simp only [Nat.testBit_or,b9] at h
    rcases h with h | h | h
    ·exact ih (fun e he=>hl e (by simp [he])) h
    ·have:i=e.on:=by
      rw [Nat.testBit_two_pow] at h
      simpa [eq_comm] using h
     rw [this];exact .edge ho (hl e (by simp)) hb
    ·exact .trans (MV _ _ h) (.edge ho (hl e (by simp)) hb)
   ·exact ih (fun e he=>hl e (by simp [he])) h
 exact key _ fun e he=>by simpa using he
theorem Zm4 (a b:List Nat) (i:Nat):(a++b).getD i 0=if i<a.length then a.getD i 0 else b.getD (i - a.length) 0:=by
 simp only [List.getD,qJ]
 split<;>rfl
theorem KN {ops:Array Oper}:∀ (l:List Oper) (acc:List Nat),ops.toList.drop acc.length=l→(∀ j i,(acc.getD j 0).testBit i=true→km ops i j)→∀ j i,((uf acc l).getD j 0).testBit i=true→km ops i j
 | [],acc,_,h=>h
 | o :: l,acc,hd,h=>by
  have ho:ops[acc.length]? = some o:=by
   have:(ops.toList.drop acc.length)[0]? = some o:=by rw [hd];rfl
   simpa using this
  refine KN l (acc++[oX acc o]) ?_ fun j i hj=>?_
  ·have:ops.toList.drop (acc.length+1)=(ops.toList.drop acc.length).drop 1:=by rw [List.drop_drop]
   rw [ay,dm,this,hd];rfl
  ·rw [Zm4] at hj
   split at hj
   ·exact h j i hj
   ·rename_i bG
    by_cases e:j=acc.length
    ·subst e
     simp only [en,bm] at hj
     exact Zso ho h i hj
    ·have:([oX acc o].getD (j - acc.length) 0)=0:=by
      have:j - acc.length=(j - acc.length - 1)+1:=by omega
      rw [this];simp
     rw [this] at hj;simp at hj
def yZ (b:List Nat) (i j:Nat):Bool:=(b.getD j 0).testBit i||(b.getD i 0).testBit j
theorem K1 {ops:Array Oper} {i j:Nat} (h:yZ (uf [] ops.toList) i j=true):km ops i j∨km ops j i:=by
 simp only [yZ,b9] at h
 have key:=KN (ops:=ops) ops.toList [] (by simp) (fun j i h=>by simp at h)
 exact h.imp (key j i) (key i j)
section
variable {V:Type} {m:Nat} {wr:Nat→Nat→Prop} {S:Nat→Nat→V} {ops:Array Oper}
def fV (m:Nat) (wr:Nat→Nat→Prop) (S:Nat→Nat→V) (D:Nat→Prop) (s:Nat→V):Prop :=
 ∀ l,((∀ j,j<m→D j→¬ wr j l)→s l=S 0 l)∧∀ j,j<m→D j→wr j l→(∀ j',j'<m→D j'→wr j' l→j'≤j)→s l=S (j+1) l
theorem Ib (hS:∀ i l,i<m→¬ wr i l→S (i+1) l=S i l) {l:Nat}:∀ i j,j≤i→i≤m→(∀ k,j≤k→k<i→¬ wr k l)→S i l=S j l:=by
 intro i
 induction i with
 | zero=>intro j hj _ _;obtain rfl:j=0:=by omega
         rfl
 | succ i ih =>
  intro j hj hi h
  by_cases e:j=i+1
  ·rw [e]
  ·rw [hS i l (by omega) (h i (by omega) (by omega)),ih j (by omega) (by omega) fun k h1 h2=>h k h1 (by omega)]
theorem Ko (l:Nat):∀ i,(∀ j,j<i→¬ wr j l)∨∃ j,j<i∧wr j l∧∀ k,j<k→k<i→¬ wr k l:=by
 intro i
 induction i with
 | zero=>exact .inl fun j hj=>by omega
 | succ i ih =>
  by_cases h:wr i l
  ·exact .inr ⟨i,by omega,h,fun k h1 h2=>by omega⟩
  ·rcases ih with h1 | ⟨j,h1,h2,h3⟩
   ·exact .inl fun j hj=>if e:j=i then e ▸ h else h1 j (by omega)
   ·exact .inr ⟨j,by omega,h2,fun k h4 h5=>if e:k=i then e ▸ h else h3 k h4 (by omega)⟩
theorem fV.read (hd:jW ops=true) (hS:∀ i l,i<m→¬ wr i l→S (i+1) l=S i l) {D:Nat→Prop} (gD:∀ i j,km ops i j→D j→D i) {s:Nat→V} (h:fV m wr S D s) {i l:Nat} (hi:i<m) (r6:¬ D i)
  (aQ:∀ j,km ops j i→D j) (re:∀ j,j<m→j≠i→wr j l→km ops i j∨km ops j i):s l=S i l:=by
 have hD:∀ j,j<m→D j→wr j l→j<i:=by
  intro j hj vA hw
  have ep:j≠i:=fun e=>r6 (e ▸ vA)
  rcases re j hj ep hw with h1 | h1
  ·exact absurd (gD i j h1 vA) r6
  ·exact h1.lt hd
 have bG:∀ j,j<i→wr j l→D j:=by
  intro j hj hw
  rcases re j (by omega) (by omega) hw with h1 | h1
  ·have:=h1.lt hd;omega
  ·exact aQ j h1
 rcases Ko (wr:=wr) l i with h1 | ⟨j,h1,h2,h3⟩
 ·rw [(h l).1 fun j hj vA hw=>h1 j (hD j hj vA hw) hw,Ib hS i 0 (by omega) (by omega) fun k _ hk=>h1 k hk]
 ·rw [(h l).2 j (by omega) (bG j h1 h2) h2 fun j' rO CW hw=>?_,Ib hS i (j+1) (by omega) (by omega) fun k h4 h5=>h3 k (by omega) h5]
  refine dS fun aZ=>h3 j' aZ (hD j' rO CW hw) hw
theorem fV.step (hd:jW ops=true) {D:Nat→Prop} (gD:∀ i j,km ops i j→D j→D i) {s s':Nat→V} (h:fV m wr S D s) {i:Nat} (hi:i<m) (r6:¬ D i)
  (re:∀ l,wr i l→∀ j,j<m→j≠i→wr j l→km ops i j∨km ops j i) (h1:∀ l,wr i l→s' l=S (i+1) l) (h2:∀ l, ¬ wr i l→s' l=s l):fV m wr S (fun j=>D j∨j=i) s':=by
 intro l
 by_cases hw:wr i l
 ·refine ⟨fun h3=>absurd hw (h3 i hi (.inr rfl)),fun j hj vA DF qm=>?_⟩
  have hle:=qm i hi (.inr rfl) hw
  have:j=i:=by
   rcases vA with vA | e
   ·have ep:j≠i:=fun e=>r6 (e ▸ vA)
    rcases re l hw j hj ep DF with h4 | h4
    ·exact absurd (gD i j h4 vA) r6
    ·have:=h4.lt hd;omega
   ·exact e
  rw [this];exact h1 l hw
 ·rw [h2 l hw]
  refine ⟨fun h3=>(h l).1 fun j hj vA=>h3 j hj (.inl vA),fun j hj vA DF qm=>?_⟩
  have CW:D j:=vA.resolve_right fun e=>hw (e ▸ DF)
  exact (h l).2 j hj CW DF fun j' rO MI xh=>qm j' rO (.inl MI) xh
theorem fV.init:fV m wr S (fun _=>False) (S 0):=fun l=>⟨fun _=>rfl,fun _ _ h=>h.elim⟩
theorem fV.done (hS:∀ i l,i<m→¬ wr i l→S (i+1) l=S i l) {D:Nat→Prop} {s:Nat→V} (h:fV m wr S D s) (e8:∀ j,j<m→D j) (l:Nat):s l=S m l:=by
 rcases Ko (wr:=wr) l m with h1 | ⟨j,h1,h2,h3⟩
 ·rw [(h l).1 fun j hj _=>h1 j hj,Ib hS m 0 (by omega) (by omega) fun k _ hk=>h1 k hk]
 ·rw [(h l).2 j h1 (e8 j h1) h2 fun j' rO _ hw=>dS fun bG=>h3 j' bG rO hw,Ib hS m (j+1) (by omega) (by omega) fun k h4 h5=>h3 k (by omega) h5]
end
end Go.c8
