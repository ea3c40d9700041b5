/- Part 31 of my own framework and of the walks of functions: AcsF. -/
import Derived.Test.YtfjbdamcmiglgaaGreatOwn30
import Derived.Below
import Derived.Carry
set_option linter.unusedVariables false
set_option linter.unusedSectionVars false
set_option linter.unusedSimpArgs false
namespace Go.cV
open Go
section
variable {P:Program}
theorem Zv3 {g : FuncId} {fn : Func} {c : Code} {args : List ae} {σ : ai} {K : ae → ai → Prop} (hf : P.funcs[g]? = some fn) (hb : fn.body = some c) (eE : (fn.name == "runtime.NumGoroutine") = false)
  (h:ic P ⟨σ.length,none⟩ c (St.enter fn args σ) (Bo P fn K)) {X:Nat→Nat→Prop} {base:Nat} {β:Env} {w:World} {vs:Array Value} (h1:cF X base σ β w) (h2:vs.size=args.length)
  (h3:∀ k,k<args.length→bR w (MT X σ β) β (vs.getD k undef) (args.getD k .undef)) (cs:List Frame) :
  ∃ r σ' β' v w' Bq,K r σ'∧bR w' (MT X σ' β') β' v r∧Ext σ.length σ β w σ' β' w'∧Steps P (lone (Frame.enter P g vs .normal) cs w) (lone Bq cs w')∧Bq.fn=g∧Bq.leaving P w' (.returned v):=by
 obtain ⟨e,dZ,β',a',w',q,r1,r2,r3,r4⟩:=h X base w.heap.size [] β _ w (kl g .normal) [] cs (ah _) (ah _) (S9 h1 h2 h3) rfl
 rw [← QG hf hb] at r4
 have hq:∃ r,fF P dZ fn.results.toList=some r∧K r dZ.σ:=by cases e<;>first | exact q | exact q.elim
 obtain ⟨r,ou,nH⟩:=hq
 obtain ⟨todo,fP⟩:∃ todo,Steps P (lone (Frame.enter P g vs .normal) cs w) (lone { (kl g .normal).atR a' todo with mode:=.returning } cs w'):=by
  cases e with
  | normal=>exact ⟨[],Steps.trans r4 (.one (stepR_end rfl))⟩
  | ret=>obtain ⟨k',eA⟩:=r4;exact ⟨_,Steps.trans eA (.one (stepR_ret rfl))⟩
  | exit id=>exact q.elim
  | goto l=>exact q.elim
  | panic u=>exact q.elim
 obtain ⟨w2,t1,sd,pI⟩:=r2.y0 (P:=P) { (kl g .normal).atR a' todo with mode:=.returning } cs (by simp) rfl
 obtain ⟨x,yy,EI⟩:=Qc sd ou
 exact ⟨r,dZ.σ,β',x,w2,_,nH,EI,pI _ _ _ _ (ah _) r3,fP.trans t1,rfl,rfl,rfl,rfl,fn,hf,yy⟩
theorem Zzh {w:World} (hg:uZ w.heap.size w):cF rJ w.heap.size [] sr w:=⟨fun _ _=>rfl,fun b x h=>by simp at h,fun b b' x y L L' h=>by simp at h,Nat.le_refl _,fun _ _ h=>h.elim,hg⟩
theorem Zzd {g : FuncId} {fn : Func} {c : Code} {args : List ae} {m : Nat} {rs : List ResultVar} (n : Nat) (hf : P.funcs[g]? = some fn) (hb : fn.body = some c) (hr : fn.results.toList = rs) (hm : fn.ntmps - args.length = m) (eE : (fn.name == "runtime.NumGoroutine") = false)
  (h:dW P ⟨0,none⟩ (qm P rs (G0 (.bool true))) n [.code c] .normal (args++List.replicate m .undef) []) {w:World} {vs:Array Value} (hg:uZ w.heap.size w) (h2:vs.size=args.length)
  (h3:∀ k,k<args.length→bR w rJ sr (vs.getD k undef) (args.getD k .undef)):Calls P g vs w fun e w'=>e = .returned (.bool true)∧RowKit.Below w.heap.size w w':=by
 intro cs
 subst hr hm
 have hM:MT rJ [] sr=rJ:=by funext g o;simp [MT,rJ,Ej]
 obtain ⟨r,σ',β',v,w',Bq,k1,k2,k3,k4,k5,k6⟩:=Zv3 (args:=args) (σ:=[]) (K:=G0 (.bool true)) hf hb eE (Cf n _ _ _ _ h) (X:=rJ) (base:=w.heap.size) (β:=sr) (w:=w) (Zzh hg) h2 (by rw [hM];exact h3) cs
 have hr:r = .bool true:=by
  have:pT (fun _=>true) σ' (.bool true) r:=k1
  simpa [pT] using this
 subst hr
 have hv:=k2.g_
 subst hv
 exact ⟨.returned (.bool true),w',Bq,⟨rfl,k3.os,k3.tape,k3.output,k3.size,fun g hg=>k3.block g hg fun o=>Ej⟩,k4,k5,k6⟩
end
end Go.cV
