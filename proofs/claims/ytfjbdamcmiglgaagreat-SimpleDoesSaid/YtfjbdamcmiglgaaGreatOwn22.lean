/- Part 22 of what the claim rests on. -/
import Derived.Test.YtfjbdamcmiglgaaGreatOwn21
set_option linter.all false
abbrev cd:=@List.mem_range
namespace Go.dq
open Go
inductive ku (ops:Array Oper):Nat->Nat->Prop
 |edge {j:Nat} {o:Oper} {e:Edge} (h1:ops[j]? = some o) (h2:e∈o.after) (h3:Region.binds .any e=true):ku ops e.on j
 |trans {i k j:Nat} (h1:ku ops i k) (h2:ku ops k j):ku ops i j
def kH (ops:Array Oper):Bool:=(List.range ops.size).all λj=>((ops[j]?).map λo=>o.after.toList.all λe=>!Region.binds .any e||decide (e.on<j)).getD true
theorem ku.lt {ops:Array Oper} (h:kH ops=true) {i j:Nat} (hb:ku ops i j):i<j:=by
 induction hb with
 | @edge j o e h1 h2 h3 =>
  have hj:j<ops.size:=(aQ.1 h1).1;simp only[kH,bu,cd]at h;have:=h j hj;rw[h1]at this;simp only[bD,bd,bu]at this;have:=this e (by simpa using h2);simpa[h3] using this
 |trans _ _ h1 h2=>omega
theorem ku.lt_size {ops:Array Oper}{i j:Nat}(hb:ku ops i j):j<ops.size:=by
 induction hb with
 |edge h1 _ _=>exact(aQ.1 h1).1
 |trans _ _ _ h2=>exact h2
def qu (acc:List Nat)(o:Oper):Nat:=o.after.toList.foldr (λe s=>if Region.binds .any e=true then s ||| (2 ^ e.on ||| acc.getD e.on 0) else s) 0
def uz:List Nat->List Oper->List Nat
 |acc,[]=>acc
 |acc,o :: l=>uz (acc++[qu acc o]) l
theorem Ztj {ops:Array Oper} {acc:List Nat} {o:Oper} {j:Nat} (ho:ops[j]? = some o) (QR:∀j i,(acc.getD j 0).testBit i=true->ku ops i j):∀i,(qu acc o).testBit i=true->ku ops i j:=by
 intro i;unfold qu;have key:∀l:List Edge,(∀e∈l,e∈o.after)->(l.foldr (λe s=>if Region.binds .any e=true then s ||| (2 ^ e.on ||| acc.getD e.on 0) else s) 0).testBit i=true->ku ops i j:=by
  intro l
  induction l with
  |nil=>intro _ h;simp at h
  | cons e l ih =>
   intro hl h;simp only[List.foldr_cons]at h;split at h
   ·rename_i hb;simp only[Nat.testBit_or,cb]at h;rcases h with h|h|h
    ·exact ih (λe he=>hl e (by simp[he])) h
    ·have:i=e.on:=by
      rw[Nat.testBit_two_pow]at h;simpa[eq_comm] using h
     rw[this];exact .edge ho (hl e (by simp)) hb
    ·exact .trans (QR _ _ h) (.edge ho (hl e (by simp)) hb)
   ·exact ih (λe he=>hl e (by simp[he])) h
 exact key _ λe he=>by simpa using he
theorem Zmv (a b:List Nat)(i:Nat):(a++b).getD i 0=if i<a.length then a.getD i 0 else b.getD (i-a.length) 0:=by
 simp only[List.getD,tb];split<;>rfl
theorem Ot {ops:Array Oper}:∀(l:List Oper) (acc:List Nat),ops.toList.drop acc.length=l->(∀j i,(acc.getD j 0).testBit i=true->ku ops i j)->∀j i,((uz acc l).getD j 0).testBit i=true->ku ops i j
 |[],acc,_,h=>h
 | o :: l,acc,hd,h=>by
  have ho:ops[acc.length]? = some o:=by
   have:(ops.toList.drop acc.length)[0]? = some o:=by rw[hd];rfl
   simpa using this
  refine Ot l (acc++[qu acc o]) ?_ λj i hj=>?_
  ·have:ops.toList.drop (acc.length+1)=(ops.toList.drop acc.length).drop 1:=by rw[List.drop_drop]
   rw[aA,dN,this,hd];rfl
  ·rw [Zmv]at hj;split at hj
   ·exact h j i hj
   ·rename_i bx;by_cases e:j=acc.length
    ·subst e;simp only[dF,aV]at hj;exact Ztj ho h i hj
    ·have:([qu acc o].getD (j-acc.length) 0)=0:=by
      have:j-acc.length=(j-acc.length-1)+1:=by omega
      rw[this];simp
     rw[this]at hj;simp at hj
def Bp (b:List Nat)(i j:Nat):Bool:=(b.getD j 0).testBit i||(b.getD i 0).testBit j
theorem Oj {ops:Array Oper}{i j:Nat}(h:Bp (uz [] ops.toList) i j=true):ku ops i j\/ku ops j i:=by
 simp only[Bp,cb]at h;have key:=Ot (ops:=ops) ops.toList [] (by simp) (λj i h=>by simp at h);exact h.imp (key j i) (key i j)
section
variable {V:Type}{m:Nat}{wr:Nat->Nat->Prop}{S:Nat->Nat->V}{ops:Array Oper}
def ga (m:Nat)(wr:Nat->Nat->Prop)(S:Nat->Nat->V)(D:Nat->Prop)(s:Nat->V):Prop :=
 ∀l,((∀j,j<m->D j->¬wr j l)->s l=S 0 l)/\∀j,j<m->D j->wr j l->(∀j',j'<m->D j'->wr j' l->j'<=j)->s l=S (j+1) l
theorem K_ (hS:∀i l,i<m->¬wr i l->S (i+1) l=S i l) {l:Nat}:∀i j,j<=i->i<=m->(∀k,j<=k->k<i->¬wr k l)->S i l=S j l:=by
 intro i
 induction i with
 | zero=>intro j hj _ _;obtain rfl:j=0:=by omega
         rfl
 |succ i ih =>
  intro j hj hi h;by_cases e:j=i+1
  ·rw[e]
  ·rw[hS i l (by omega) (h i (by omega) (by omega)),ih j (by omega) (by omega) λk h1 h2=>h k h1 (by omega)]
theorem NK (l:Nat):∀i,(∀j,j<i->¬wr j l)\/∃j,j<i/\wr j l/\∀k,j<k->k<i->¬wr k l:=by
 intro i
 induction i with
 |zero=>exact .inl λj hj=>by omega
 | succ i ih =>
  by_cases h:wr i l
  ·exact .inr ⟨i,by omega,h,λk h1 h2=>by omega⟩
  ·rcases ih with h1|⟨j,h1,h2,h3⟩
   ·exact .inl λj hj=>if e:j=i then e ▸ h else h1 j (by omega)
   ·exact .inr ⟨j,by omega,h2,λk h4 h5=>if e:k=i then e ▸ h else h3 k h4 (by omega)⟩
theorem ga.read (hd:kH ops=true) (hS:∀i l,i<m->¬wr i l->S (i+1) l=S i l) {D:Nat->Prop} (gD:∀i j,ku ops i j->D j->D i) {s:Nat->V} (h:ga m wr S D s) {i l:Nat} (hi:i<m) (sT:¬D i)
  (aD:∀j,ku ops j i->D j) (tG:∀j,j<m->j≠i->wr j l->ku ops i j\/ku ops j i):s l=S i l:=by
 have hD:∀j,j<m->D j->wr j l->j<i:=by
  intro j hj xC hw;have dL:j≠i:=λe=>sT (e ▸ xC);rcases tG j hj dL hw with h1|h1
  ·exact absurd (gD i j h1 xC) sT
  ·exact h1.lt hd
 have bx:∀j,j<i->wr j l->D j:=by
  intro j hj hw;rcases tG j (by omega) (by omega) hw with h1|h1
  ·have:=h1.lt hd;omega
  ·exact aD j h1
 rcases NK (wr:=wr) l i with h1|⟨j,h1,h2,h3⟩
 ·rw[(h l).1 λj hj xC hw=>h1 j (hD j hj xC hw) hw,K_ hS i 0 (by omega) (by omega) λk _ hk=>h1 k hk]
 ·rw[(h l).2 j (by omega) (bx j h1 h2) h2 λj' qh Fj hw=>?_,K_ hS i (j+1) (by omega) (by omega) λk h4 h5=>h3 k (by omega) h5];refine en λaL=>h3 j' aL (hD j' qh Fj hw) hw
theorem ga.step (hd:kH ops=true) {D:Nat->Prop} (gD:∀i j,ku ops i j->D j->D i) {s s':Nat->V} (h:ga m wr S D s) {i:Nat} (hi:i<m) (sT:¬D i)
  (tG:∀l,wr i l->∀j,j<m->j≠i->wr j l->ku ops i j\/ku ops j i) (h1:∀l,wr i l->s' l=S (i+1) l) (h2:∀l,¬wr i l->s' l=s l):ga m wr S (λj=>D j\/j=i) s':=by
 intro l;by_cases hw:wr i l
 ·refine ⟨λh3=>absurd hw (h3 i hi (.inr rfl)),λj hj xC xQ sE=>?_⟩;have hle:=sE i hi (.inr rfl) hw;have:j=i:=by
   rcases xC with xC|e
   ·have dL:j≠i:=λe=>sT (e ▸ xC);rcases tG l hw j hj dL xQ with h4|h4
    ·exact absurd (gD i j h4 xC) sT
    ·have:=h4.lt hd;omega
   ·exact e
  rw[this];exact h1 l hw
 ·rw[h2 l hw];refine⟨λh3=>(h l).1 λj hj xC=>h3 j hj (.inl xC),λj hj xC xQ sE=>?_⟩;have Fj:D j:=xC.resolve_right λe=>hw (e ▸ xQ);exact(h l).2 j hj Fj xQ λj' qh QG zo=>sE j' qh (.inl QG) zo
theorem ga.init:ga m wr S (λ_=>False) (S 0):=λl=>⟨λ_=>rfl,λ_ _ h=>h.elim⟩
theorem ga.done (hS:∀i l,i<m->¬wr i l->S (i+1) l=S i l){D:Nat->Prop}{s:Nat->V}(h:ga m wr S D s)(fj:∀j,j<m->D j)(l:Nat):s l=S m l:=by
 rcases NK (wr:=wr) l m with h1|⟨j,h1,h2,h3⟩
 ·rw[(h l).1 λj hj _=>h1 j hj,K_ hS m 0 (by omega) (by omega) λk _ hk=>h1 k hk]
 ·rw[(h l).2 j h1 (fj j h1) h2 λj' qh _ hw=>en λbx=>h3 j' bx qh hw,K_ hS m (j+1) (by omega) (by omega) λk h4 h5=>h3 k (by omega) h5]
end
end Go.dq
