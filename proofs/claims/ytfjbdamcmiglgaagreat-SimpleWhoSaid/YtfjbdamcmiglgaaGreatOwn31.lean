/- Part 31 of my own framework and of the walks of functions: AcsF. -/
import Derived.Test.YtfjbdamcmiglgaaGreatOwn30
import Derived.Below
import Derived.Carry
set_option linter.unusedVariables false
set_option linter.unusedSectionVars false
set_option linter.unusedSimpArgs false
namespace Go.c8
open Go
section
variable {P:Program}
theorem Zv4 {g : FuncId} {fn : Func} {c : Code} {args : List ae} {σ : ai} {K : ae → ai → Prop} (hf : P.funcs[g]? = some fn) (hb : fn.body = some c) (eA : (fn.name == "runtime.NumGoroutine") = false)
  (h:ib P ⟨σ.length,none⟩ c (St.enter fn args σ) (Bi P fn K)) {X:Nat→Nat→Prop} {base:Nat} {β:Env} {w:World} {vs:Array Value} (h1:cC X base σ β w) (h2:vs.size=args.length)
  (h3:∀ k,k<args.length→bR w (MT X σ β) β (vs.getD k undef) (args.getD k .undef)) (cs:List Frame) :
  ∃ r σ' β' v w' Bk,K r σ'∧bR w' (MT X σ' β') β' v r∧Ext σ.length σ β w σ' β' w'∧Steps P (lone (Frame.enter P g vs .normal) cs w) (lone Bk cs w')∧Bk.fn=g∧Bk.leaving P w' (.returned v):=by
 obtain ⟨e,dV,β',a',w',q,r1,r2,r3,r4⟩:=h X base w.heap.size [] β _ w (kn g .normal) [] cs (ah _) (ah _) (R_ h1 h2 h3) rfl
 rw [← Ql hf hb] at r4
 have hq:∃ r,fD P dV fn.results.toList=some r∧K r dV.σ:=by cases e<;>first | exact q | exact q.elim
 obtain ⟨r,oq,nG⟩:=hq
 obtain ⟨todo,fQ⟩:∃ todo,Steps P (lone (Frame.enter P g vs .normal) cs w) (lone { (kn g .normal).atR a' todo with mode:=.returning } cs w'):=by
  cases e with
  | normal=>exact ⟨[],Steps.trans r4 (.one (stepR_end rfl))⟩
  | ret=>obtain ⟨k',er⟩:=r4;exact ⟨_,Steps.trans er (.one (stepR_ret rfl))⟩
  | exit id=>exact q.elim
  | goto l=>exact q.elim
  | panic u=>exact q.elim
 obtain ⟨w2,t1,rW,pC⟩:=r2.yT (P:=P) { (kn g .normal).atR a' todo with mode:=.returning } cs (by simp) rfl
 obtain ⟨x,yt,EA⟩:=P9 rW oq
 exact ⟨r,dV.σ,β',x,w2,_,nG,EA,pC _ _ _ _ (ah _) r3,fQ.trans t1,rfl,rfl,rfl,rfl,fn,hf,yt⟩
theorem Zzh {w:World} (hg:uM w.heap.size w):cC rz w.heap.size [] r_ w:=⟨fun _ _=>rfl,fun b x h=>by simp at h,fun b b' x y L L' h=>by simp at h,Nat.le_refl _,fun _ _ h=>h.elim,hg⟩
theorem Zzz {g : FuncId} {fn : Func} {c : Code} {args : List ae} {m : Nat} {rs : List ResultVar} (n : Nat) (hf : P.funcs[g]? = some fn) (hb : fn.body = some c) (hr : fn.results.toList = rs) (hm : fn.ntmps - args.length = m) (eA : (fn.name == "runtime.NumGoroutine") = false)
  (h:dT P ⟨0,none⟩ (qf P rs (GQ (.bool true))) n [.code c] .normal (args++List.replicate m .undef) []) {w:World} {vs:Array Value} (hg:uM w.heap.size w) (h2:vs.size=args.length)
  (h3:∀ k,k<args.length→bR w rz r_ (vs.getD k undef) (args.getD k .undef)):Calls P g vs w fun e w'=>e = .returned (.bool true)∧RowKit.Below w.heap.size w w':=by
 intro cs
 subst hr hm
 have hM:MT rz [] r_=rz:=by funext g o;simp [MT,rz,D9]
 obtain ⟨r,σ',β',v,w',Bk,k1,k2,k3,k4,k5,k6⟩:=Zv4 (args:=args) (σ:=[]) (K:=GQ (.bool true)) hf hb eA (B5 n _ _ _ _ h) (X:=rz) (base:=w.heap.size) (β:=r_) (w:=w) (Zzh hg) h2 (by rw [hM];exact h3) cs
 have hr:r = .bool true:=by
  have:pT (fun _=>true) σ' (.bool true) r:=k1
  simpa [pT] using this
 subst hr
 have hv:=k2.g_
 subst hv
 exact ⟨.returned (.bool true),w',Bk,⟨rfl,k3.os,k3.tape,k3.output,k3.size,fun g hg=>k3.block g hg fun o=>D9⟩,k4,k5,k6⟩
end
end Go.c8
