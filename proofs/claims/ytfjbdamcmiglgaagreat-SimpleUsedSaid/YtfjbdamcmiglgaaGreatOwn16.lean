/- Part 16 of my own framework and of the walks of functions: AbsQ. -/
import Derived.Test.YtfjbdamcmiglgaaGreatOwn15
abbrev fm:=@List.getElem?_cons_zero
set_option linter.unusedVariables false
set_option linter.unusedSectionVars false
set_option linter.unusedSimpArgs false
namespace Go.cV
open Go
def lT:List ae→List ae→Prop
 | [],[]=>True
 | a :: ck,b :: bs=>(a=b∨a = .undef)∧lT ck bs
 | _,_=>False
def ig:ai→ai→Prop
 | [],_=>True
 | a :: ck,b :: bs=>(a=b∨a=none)∧ig ck bs
 | _ :: _,[]=>False
def ji (n:Nat):Option bE→Prop
 | some b=>b.low n
 | none=>True
def bt (n:Nat):ai→Prop
 | []=>True
 | a :: ck=>ji n a∧bt n ck
theorem E4:∀ {a b:List ae},lT a b→a.length=b.length∧∀ k,k<a.length→a.getD k .undef = .undef∨a.getD k .undef=b.getD k .undef
 | [],[],_=>⟨rfl,fun k hk=>by simp at hk⟩
 | a :: ck,b :: bs,h=>by
  obtain ⟨h1,h2⟩:=E4 h.2
  refine ⟨by simp [h1],fun k hk=>?_⟩
  cases k with
  | zero=>simp only [bg];exact h.1.symm
  | succ k=>simp only [bB];exact h2 k (by simpa using hk)
 | [],_ :: _,h=>h.elim
 | _ :: _,[],h=>h.elim
theorem u0:∀ {a b:ai},ig a b→xx a b
 | [],_,_=>fun b x h=>by simp at h
 | a :: ck,b :: bs,h=>fun i x hx=>by
  cases i with
  | zero =>
   simp only [fm,aE] at hx ⊢
   rcases h.1 with e | e
   ·rw [← e];exact hx
   ·rw [e] at hx;cases hx
  | succ i=>simp only [dn] at hx ⊢;exact u0 h.2 i x hx
 | _ :: _,[],h=>h.elim
theorem qA {n:Nat}:∀ {a:ai},bt n a→yI n a
 | [],_=>fun b x h=>by simp at h
 | a :: ck,h=>fun i x hx=>by
  cases i with
  | zero =>
   simp only [fm,aE] at hx
   have:=h.1
   rw [hx] at this;exact this
  | succ i=>simp only [dn] at hx;exact qA h.2 i x hx
def yE (jE:List ae) (σ':ai) (s:St):Prop:=lT jE s.tm∧ig σ' s.σ∧bx σ'.length jE∧bt σ'.length σ'
theorem OG {jE:List ae} {σ':ai} {s:St} (h:yE jE σ' s):St.le ⟨jE,σ'⟩ s :=
 ⟨(E4 h.1).1,(E4 h.1).2,u0 h.2.1,h.2.2.1,qA h.2.2.2⟩
def sq {ι:Type} (P:Program) (lo:Ctx) (Q:cb→St→Prop) (k:List KI) (I : ι→List ae) (S : ι→ai) (μ : ι→Nat) (x : ι):cb→St→Prop
 | .normal,s=>∃ y,yE (I y) (S y) s∧μ y < μ x
 | e,s=>aK P lo Q k e s
section
variable {P:Program} {lo:Ctx} {Q:cb→St→Prop}
theorem aK.c9 {ι:Type} (n:Nat) (I : ι→List ae) (S : ι→ai) (μ : ι→Nat) {c:Code} {k:List KI} {tm:List ae} {σ:ai} (x0 : ι) (h0:yE (I x0) (S x0) ⟨tm,σ⟩) (iL:∀ x,lo.n≤(S x).length)
  (round:∀ x,dW P lo (sq P lo Q k I S μ x) n [.code c] .normal (I x) (S x)):aK P lo Q (.code (.loop c) :: k) .normal ⟨tm,σ⟩ :=
 aK.loop (ι:=ι) (fun x=>⟨I x,S x⟩) μ x0 (OG h0) iL fun x=>by
  have:=Cf n _ _ _ _ (round x)
  refine ic.mono this fun e s q=>?_
  simp only [aK] at q
  cases e with
  | normal=>obtain ⟨y,h1,h2⟩:=q;exact ⟨y,OG h1,h2⟩
  | exit id=>exact q
  | goto l=>exact q
  | ret=>exact q
  | panic u=>exact q
def qm (P:Program) (rs:List ResultVar) (K:ae→ai→Prop) (e:cb) (s:St):Prop :=
 match e with
 | .normal | .ret=>∃ r,fF P s rs=some r∧K r s.σ
 | _=>False
theorem bS.start {g:FuncId} {fn:Func} {c:Code} {args:List ae} {σ:ai} {K:ae→ai→Prop} {m:Nat} {rs:List ResultVar} (n:Nat) (hf:P.funcs[g]? = some fn) (hb:fn.body=some c) (hr:fn.results.toList=rs) (hm:fn.ntmps - args.length=m)
  (eE : (fn.name == "runtime.NumGoroutine") = false)
  (h:dW P ⟨σ.length,none⟩ (qm P rs K) n [.code c] .normal (args++List.replicate m .undef) σ):bS P g args σ K:=by
 subst hr hm
 exact bS.body hf hb eE (Cf n _ _ _ _ h)
end
end Go.cV
