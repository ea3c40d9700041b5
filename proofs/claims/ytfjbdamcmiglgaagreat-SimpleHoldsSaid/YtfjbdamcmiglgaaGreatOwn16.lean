/- Part 16 of my own framework and of the walks of functions: AbsQ. -/
import Derived.Test.YtfjbdamcmiglgaaGreatOwn15
abbrev fT:=@List.getElem?_cons_zero
set_option linter.unusedVariables false
set_option linter.unusedSectionVars false
set_option linter.unusedSimpArgs false
namespace Go.dm
open Go
def mr:List ah→List ah→Prop
 | [],[]=>True
 | a :: cD,b :: bs=>(a=b∨a = .undef)∧mr cD bs
 | _,_=>False
def iP:ai→ai→Prop
 | [],_=>True
 | a :: cD,b :: bs=>(a=b∨a=none)∧iP cD bs
 | _ :: _,[]=>False
def jK (n:Nat):Option bO→Prop
 | some b=>b.low n
 | none=>True
def bD (n:Nat):ai→Prop
 | []=>True
 | a :: cD=>jK n a∧bD n cD
theorem Gu:∀ {a b:List ah},mr a b→a.length=b.length∧∀ k,k<a.length→a.getD k .undef = .undef∨a.getD k .undef=b.getD k .undef
 | [],[],_=>⟨rfl,fun k hk=>by simp at hk⟩
 | a :: cD,b :: bs,h=>by
  obtain ⟨h1,h2⟩:=Gu h.2;refine ⟨by simp [h1],fun k hk=>?_⟩;cases k with
  | zero=>simp only [bm];exact h.1.symm
  | succ k=>simp only [bI];exact h2 k (by simpa using hk)
 | [],_ :: _,h=>h.elim
 | _ :: _,[],h=>h.elim
theorem vV:∀ {a b:ai},iP a b→yB a b
 | [],_,_=>fun b x h=>by simp at h
 | a :: cD,b :: bs,h=>fun i x hx=>by
  cases i with
  | zero =>
   simp only [fT,aH] at hx ⊢;rcases h.1 with e | e
   ·rw [← e];exact hx
   ·rw [e] at hx;cases hx
  | succ i=>simp only [dI] at hx ⊢;exact vV h.2 i x hx
 | _ :: _,[],h=>h.elim
theorem qR {n:Nat}:∀ {a:ai},bD n a→zJ n a
 | [],_=>fun b x h=>by simp at h
 | a :: cD,h=>fun i x hx=>by
  cases i with
  | zero =>
   simp only [fT,aH] at hx;have:=h.1;rw [hx] at this;exact this
  | succ i=>simp only [dI] at hx;exact qR h.2 i x hx
def vG (j6:List ah) (σ':ai) (s:St):Prop:=mr j6 s.tm∧iP σ' s.σ∧bF σ'.length j6∧bD σ'.length σ'
theorem RG {j6:List ah} {σ':ai} {s:St} (h:vG j6 σ' s):St.le ⟨j6,σ'⟩ s :=
 ⟨(Gu h.1).1,(Gu h.1).2,vV h.2.1,h.2.2.1,qR h.2.2.2⟩
def tO {ι:Type} (P:Program) (lo:Ctx) (Q:ct→St→Prop) (k:List KI) (I : ι→List ah) (S : ι→ai) (μ : ι→Nat) (x : ι):ct→St→Prop
 | .normal,s=>∃ y,vG (I y) (S y) s∧μ y < μ x
 | e,s=>aG P lo Q k e s
section
variable {P:Program} {lo:Ctx} {Q:ct→St→Prop}
theorem aG.cO {ι:Type} (n:Nat) (I : ι→List ah) (S : ι→ai) (μ : ι→Nat) {c:Code} {k:List KI} {tm:List ah} {σ:ai} (x0 : ι) (h0:vG (I x0) (S x0) ⟨tm,σ⟩) (jg:∀ x,lo.n≤(S x).length)
  (round:∀ x,eF P lo (tO P lo Q k I S μ x) n [.code c] .normal (I x) (S x)):aG P lo Q (.code (.loop c) :: k) .normal ⟨tm,σ⟩ :=
 aG.loop (ι:=ι) (fun x=>⟨I x,S x⟩) μ x0 (RG h0) jg fun x=>by
  have:=A6 n _ _ _ _ (round x);refine iy.mono this fun e s q=>?_;simp only [aG] at q;cases e with
  | normal=>obtain ⟨y,h1,h2⟩:=q;exact ⟨y,RG h1,h2⟩
  | exit id=>exact q
  | goto l=>exact q
  | ret=>exact q
  | panic u=>exact q
def rq (P:Program) (rs:List ResultVar) (K:ah→ai→Prop) (e:ct) (s:St):Prop :=
 match e with
 | .normal | .ret=>∃ r,gp P s rs=some r∧K r s.σ
 | _=>False
theorem cg.start {g:FuncId} {fn:Func} {c:Code} {args:List ah} {σ:ai} {K:ah→ai→Prop} {m:Nat} {rs:List ResultVar} (n:Nat) (hf:P.funcs[g]? = some fn) (hb:fn.body=some c) (hr:fn.results.toList=rs) (hm:fn.ntmps - args.length=m)
  (ff : (fn.name == "runtime.NumGoroutine") = false)
  (h:eF P ⟨σ.length,none⟩ (rq P rs K) n [.code c] .normal (args++List.replicate m .undef) σ):cg P g args σ K:=by
 subst hr hm;exact cg.body hf hb ff (A6 n _ _ _ _ h)
end
end Go.dm
