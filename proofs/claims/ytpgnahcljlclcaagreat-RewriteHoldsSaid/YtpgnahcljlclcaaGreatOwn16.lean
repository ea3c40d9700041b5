/- Part 16 of my own framework and of the walks of functions: AbsQ. -/
import Derived.Test.YtpgnahcljlclcaaGreatOwn15
set_option linter.unusedVariables false
set_option linter.unusedSectionVars false
set_option linter.unusedSimpArgs false
namespace Go.Abs
open Go
def leTm:List AVal→List AVal→Prop
 | [],[]=>True
 | a :: as_,b :: bs=>(a=b∨a = .undef)∧leTm as_ bs
 | _,_=>False
def leSo:Store→Store→Prop
 | [],_=>True
 | a :: as_,b :: bs=>(a=b∨a=none)∧leSo as_ bs
 | _ :: _,[]=>False
def lowO (n:Nat):Option Blk→Prop
 | some b=>b.low n
 | none=>True
def lowSo (n:Nat):Store→Prop
 | []=>True
 | a :: as_=>lowO n a∧lowSo n as_
theorem Zfm:∀ {a b:List AVal},leTm a b→a.length=b.length∧∀ k,k<a.length→a.getD k .undef = .undef∨a.getD k .undef=b.getD k .undef
 | [],[],_=>⟨rfl,fun k hk=>by simp at hk⟩
 | a :: as_,b :: bs,h=>by
  obtain ⟨h1,h2⟩:=Zfm h.2
  refine ⟨by simp [h1],fun k hk=>?_⟩
  cases k with
  | zero=>simp only [List.getD_cons_zero];exact h.1.symm
  | succ k=>simp only [List.getD_cons_succ];exact h2 k (by simpa using hk)
 | [],_ :: _,h=>h.elim
 | _ :: _,[],h=>h.elim
theorem Zbu:∀ {a b:Store},leSo a b→leS a b
 | [],_,_=>fun b x h=>by simp at h
 | a :: as_,b :: bs,h=>fun i x hx=>by
  cases i with
  | zero =>
   simp only [List.getElem?_cons_zero,Option.some.injEq] at hx ⊢
   rcases h.1 with e | e
   ·rw [← e];exact hx
   ·rw [e] at hx;cases hx
  | succ i=>simp only [List.getElem?_cons_succ] at hx ⊢;exact Zbu h.2 i x hx
 | _ :: _,[],h=>h.elim
theorem Zat {n:Nat}:∀ {a:Store},lowSo n a→lowS n a
 | [],_=>fun b x h=>by simp at h
 | a :: as_,h=>fun i x hx=>by
  cases i with
  | zero =>
   simp only [List.getElem?_cons_zero,Option.some.injEq] at hx
   have:=h.1
   rw [hx] at this;exact this
  | succ i=>simp only [List.getElem?_cons_succ] at hx;exact Zat h.2 i x hx
def leSt (tm':List AVal) (σ':Store) (s:St):Prop:=leTm tm' s.tm∧leSo σ' s.σ∧lowL σ'.length tm'∧lowSo σ'.length σ'
theorem Yb9 {tm':List AVal} {σ':Store} {s:St} (h:leSt tm' σ' s):St.le ⟨tm',σ'⟩ s :=
 ⟨(Zfm h.1).1,(Zfm h.1).2,Zbu h.2.1,h.2.2.1,Zat h.2.2.2⟩
def loopQ {ι:Type} (P:Program) (lo:Ctx) (Q:AExit→St→Prop) (k:List KI) (I : ι→List AVal) (S : ι→Store) (μ : ι→Nat) (x : ι):AExit→St→Prop
 | .normal,s=>∃ y,leSt (I y) (S y) s∧μ y < μ x
 | e,s=>EvK P lo Q k e s
section
variable {P:Program} {lo:Ctx} {Q:AExit→St→Prop}
theorem EvK.loopI {ι:Type} (n:Nat) (I : ι→List AVal) (S : ι→Store) (μ : ι→Nat) {c:Code} {k:List KI} {tm:List AVal} {σ:Store} (x0 : ι) (h0:leSt (I x0) (S x0) ⟨tm,σ⟩) (hlo:∀ x,lo.n≤(S x).length)
  (round:∀ x,vcK P lo (loopQ P lo Q k I S μ x) n [.code c] .normal (I x) (S x)):EvK P lo Q (.code (.loop c) :: k) .normal ⟨tm,σ⟩ :=
 EvK.loop (ι:=ι) (fun x=>⟨I x,S x⟩) μ x0 (Yb9 h0) hlo fun x=>by
  have:=Zdl n _ _ _ _ (round x)
  refine EvS.mono this fun e s q=>?_
  simp only [EvK] at q
  cases e with
  | normal=>obtain ⟨y,h1,h2⟩:=q;exact ⟨y,Yb9 h1,h2⟩
  | exit id=>exact q
  | goto l=>exact q
  | ret=>exact q
  | panic u=>exact q
def retQ (P:Program) (rs:List ResultVar) (K:AVal→Store→Prop) (e:AExit) (s:St):Prop :=
 match e with
 | .normal | .ret=>∃ r,resultsA P s rs=some r∧K r s.σ
 | _=>False
theorem CallSh.start {g:FuncId} {fn:Func} {c:Code} {args:List AVal} {σ:Store} {K:AVal→Store→Prop} {m:Nat} {rs:List ResultVar} (n:Nat) (hf:P.funcs[g]? = some fn) (hb:fn.body=some c) (hr:fn.results.toList=rs) (hm:fn.ntmps - args.length=m)
  (hname : (fn.name == "runtime.NumGoroutine") = false)
  (h:vcK P ⟨σ.length,none⟩ (retQ P rs K) n [.code c] .normal (args++List.replicate m .undef) σ):CallSh P g args σ K:=by
 subst hr hm
 exact CallSh.body hf hb hname (Zdl n _ _ _ _ h)
end
end Go.Abs
