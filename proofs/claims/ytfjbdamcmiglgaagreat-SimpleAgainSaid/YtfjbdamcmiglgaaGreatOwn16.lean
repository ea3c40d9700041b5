/- Part 16 of my own framework and of the walks of functions: AbsQ. -/
import Derived.Test.YtfjbdamcmiglgaaGreatOwn15
abbrev fG:=@List.getElem?_cons_zero
set_option linter.unusedVariables false
set_option linter.unusedSectionVars false
set_option linter.unusedSimpArgs false
namespace Go.c8
open Go
def l9:List ae→List ae→Prop
 | [],[]=>True
 | a :: cm,b :: bs=>(a=b∨a = .undef)∧l9 cm bs
 | _,_=>False
def iy:ai→ai→Prop
 | [],_=>True
 | a :: cm,b :: bs=>(a=b∨a=none)∧iy cm bs
 | _ :: _,[]=>False
def jw (n:Nat):Option bE→Prop
 | some b=>b.low n
 | none=>True
def bw (n:Nat):ai→Prop
 | []=>True
 | a :: cm=>jw n a∧bw n cm
theorem Fx:∀ {a b:List ae},l9 a b→a.length=b.length∧∀ k,k<a.length→a.getD k .undef = .undef∨a.getD k .undef=b.getD k .undef
 | [],[],_=>⟨rfl,fun k hk=>by simp at hk⟩
 | a :: cm,b :: bs,h=>by
  obtain ⟨h1,h2⟩:=Fx h.2
  refine ⟨by simp [h1],fun k hk=>?_⟩
  cases k with
  | zero=>simp only [bm];exact h.1.symm
  | succ k=>simp only [bC];exact h2 k (by simpa using hk)
 | [],_ :: _,h=>h.elim
 | _ :: _,[],h=>h.elim
theorem vj:∀ {a b:ai},iy a b→xI a b
 | [],_,_=>fun b x h=>by simp at h
 | a :: cm,b :: bs,h=>fun i x hx=>by
  cases i with
  | zero =>
   simp only [fG,aG] at hx ⊢
   rcases h.1 with e | e
   ·rw [← e];exact hx
   ·rw [e] at hx;cases hx
  | succ i=>simp only [dq] at hx ⊢;exact vj h.2 i x hx
 | _ :: _,[],h=>h.elim
theorem qL {n:Nat}:∀ {a:ai},bw n a→yU n a
 | [],_=>fun b x h=>by simp at h
 | a :: cm,h=>fun i x hx=>by
  cases i with
  | zero =>
   simp only [fG,aG] at hx
   have:=h.1
   rw [hx] at this;exact this
  | succ i=>simp only [dq] at hx;exact qL h.2 i x hx
def yQ (jR:List ae) (σ':ai) (s:St):Prop:=l9 jR s.tm∧iy σ' s.σ∧bz σ'.length jR∧bw σ'.length σ'
theorem Po {jR:List ae} {σ':ai} {s:St} (h:yQ jR σ' s):St.le ⟨jR,σ'⟩ s :=
 ⟨(Fx h.1).1,(Fx h.1).2,vj h.2.1,h.2.2.1,qL h.2.2.2⟩
def sG {ι:Type} (P:Program) (lo:Ctx) (Q:cb→St→Prop) (k:List KI) (I : ι→List ae) (S : ι→ai) (μ : ι→Nat) (x : ι):cb→St→Prop
 | .normal,s=>∃ y,yQ (I y) (S y) s∧μ y < μ x
 | e,s=>aK P lo Q k e s
section
variable {P:Program} {lo:Ctx} {Q:cb→St→Prop}
theorem aK.dc {ι:Type} (n:Nat) (I : ι→List ae) (S : ι→ai) (μ : ι→Nat) {c:Code} {k:List KI} {tm:List ae} {σ:ai} (x0 : ι) (h0:yQ (I x0) (S x0) ⟨tm,σ⟩) (iU:∀ x,lo.n≤(S x).length)
  (round:∀ x,dZ P lo (sG P lo Q k I S μ x) n [.code c] .normal (I x) (S x)):aK P lo Q (.code (.loop c) :: k) .normal ⟨tm,σ⟩ :=
 aK.loop (ι:=ι) (fun x=>⟨I x,S x⟩) μ x0 (Po h0) iU fun x=>by
  have:=Cp n _ _ _ _ (round x)
  refine iw.mono this fun e s q=>?_
  simp only [aK] at q
  cases e with
  | normal=>obtain ⟨y,h1,h2⟩:=q;exact ⟨y,Po h1,h2⟩
  | exit id=>exact q
  | goto l=>exact q
  | ret=>exact q
  | panic u=>exact q
def qv (P:Program) (rs:List ResultVar) (K:ae→ai→Prop) (e:cb) (s:St):Prop :=
 match e with
 | .normal | .ret=>∃ r,fS P s rs=some r∧K r s.σ
 | _=>False
theorem bT.start {g:FuncId} {fn:Func} {c:Code} {args:List ae} {σ:ai} {K:ae→ai→Prop} {m:Nat} {rs:List ResultVar} (n:Nat) (hf:P.funcs[g]? = some fn) (hb:fn.body=some c) (hr:fn.results.toList=rs) (hm:fn.ntmps - args.length=m)
  (eI : (fn.name == "runtime.NumGoroutine") = false)
  (h:dZ P ⟨σ.length,none⟩ (qv P rs K) n [.code c] .normal (args++List.replicate m .undef) σ):bT P g args σ K:=by
 subst hr hm
 exact bT.body hf hb eI (Cp n _ _ _ _ h)
end
end Go.c8
