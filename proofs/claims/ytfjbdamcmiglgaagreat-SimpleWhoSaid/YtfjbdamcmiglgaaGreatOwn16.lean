/- Part 16 of my own framework and of the walks of functions: AbsQ. -/
import Derived.Test.YtfjbdamcmiglgaaGreatOwn15
abbrev fm:=@List.getElem?_cons_zero
set_option linter.unusedVariables false
set_option linter.unusedSectionVars false
set_option linter.unusedSimpArgs false
namespace Go.c8
open Go
def lV:List ae→List ae→Prop
 | [],[]=>True
 | a :: cj,b :: bs=>(a=b∨a = .undef)∧lV cj bs
 | _,_=>False
def ic:ai→ai→Prop
 | [],_=>True
 | a :: cj,b :: bs=>(a=b∨a=none)∧ic cj bs
 | _ :: _,[]=>False
def jg (n:Nat):Option bE→Prop
 | some b=>b.low n
 | none=>True
def bt (n:Nat):ai→Prop
 | []=>True
 | a :: cj=>jg n a∧bt n cj
theorem EY:∀ {a b:List ae},lV a b→a.length=b.length∧∀ k,k<a.length→a.getD k .undef = .undef∨a.getD k .undef=b.getD k .undef
 | [],[],_=>⟨rfl,fun k hk=>by simp at hk⟩
 | a :: cj,b :: bs,h=>by
  obtain ⟨h1,h2⟩:=EY h.2
  refine ⟨by simp [h1],fun k hk=>?_⟩
  cases k with
  | zero=>simp only [bf];exact h.1.symm
  | succ k=>simp only [bB];exact h2 k (by simpa using hk)
 | [],_ :: _,h=>h.elim
 | _ :: _,[],h=>h.elim
theorem uN:∀ {a b:ai},ic a b→xo a b
 | [],_,_=>fun b x h=>by simp at h
 | a :: cj,b :: bs,h=>fun i x hx=>by
  cases i with
  | zero =>
   simp only [fm,aG] at hx ⊢
   rcases h.1 with e | e
   ·rw [← e];exact hx
   ·rw [e] at hx;cases hx
  | succ i=>simp only [dk] at hx ⊢;exact uN h.2 i x hx
 | _ :: _,[],h=>h.elim
theorem qs {n:Nat}:∀ {a:ai},bt n a→yD n a
 | [],_=>fun b x h=>by simp at h
 | a :: cj,h=>fun i x hx=>by
  cases i with
  | zero =>
   simp only [fm,aG] at hx
   have:=h.1
   rw [hx] at this;exact this
  | succ i=>simp only [dk] at hx;exact qs h.2 i x hx
def yz (jE:List ae) (σ':ai) (s:St):Prop:=lV jE s.tm∧ic σ' s.σ∧bx σ'.length jE∧bt σ'.length σ'
theorem OX {jE:List ae} {σ':ai} {s:St} (h:yz jE σ' s):St.le ⟨jE,σ'⟩ s :=
 ⟨(EY h.1).1,(EY h.1).2,uN h.2.1,h.2.2.1,qs h.2.2.2⟩
def r9 {ι:Type} (P:Program) (lo:Ctx) (Q:b9→St→Prop) (k:List KI) (I : ι→List ae) (S : ι→ai) (μ : ι→Nat) (x : ι):b9→St→Prop
 | .normal,s=>∃ y,yz (I y) (S y) s∧μ y < μ x
 | e,s=>aK P lo Q k e s
section
variable {P:Program} {lo:Ctx} {Q:b9→St→Prop}
theorem aK.c_ {ι:Type} (n:Nat) (I : ι→List ae) (S : ι→ai) (μ : ι→Nat) {c:Code} {k:List KI} {tm:List ae} {σ:ai} (x0 : ι) (h0:yz (I x0) (S x0) ⟨tm,σ⟩) (iJ:∀ x,lo.n≤(S x).length)
  (round:∀ x,dT P lo (r9 P lo Q k I S μ x) n [.code c] .normal (I x) (S x)):aK P lo Q (.code (.loop c) :: k) .normal ⟨tm,σ⟩ :=
 aK.loop (ι:=ι) (fun x=>⟨I x,S x⟩) μ x0 (OX h0) iJ fun x=>by
  have:=B5 n _ _ _ _ (round x)
  refine ib.mono this fun e s q=>?_
  simp only [aK] at q
  cases e with
  | normal=>obtain ⟨y,h1,h2⟩:=q;exact ⟨y,OX h1,h2⟩
  | exit id=>exact q
  | goto l=>exact q
  | ret=>exact q
  | panic u=>exact q
def qf (P:Program) (rs:List ResultVar) (K:ae→ai→Prop) (e:b9) (s:St):Prop :=
 match e with
 | .normal | .ret=>∃ r,fD P s rs=some r∧K r s.σ
 | _=>False
theorem bS.start {g:FuncId} {fn:Func} {c:Code} {args:List ae} {σ:ai} {K:ae→ai→Prop} {m:Nat} {rs:List ResultVar} (n:Nat) (hf:P.funcs[g]? = some fn) (hb:fn.body=some c) (hr:fn.results.toList=rs) (hm:fn.ntmps - args.length=m)
  (eA : (fn.name == "runtime.NumGoroutine") = false)
  (h:dT P ⟨σ.length,none⟩ (qf P rs K) n [.code c] .normal (args++List.replicate m .undef) σ):bS P g args σ K:=by
 subst hr hm
 exact bS.body hf hb eA (B5 n _ _ _ _ h)
end
end Go.c8
