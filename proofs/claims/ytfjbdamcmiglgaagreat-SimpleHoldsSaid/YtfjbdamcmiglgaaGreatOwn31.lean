/- Part 31 of my own framework and of the walks of functions: AcsF. -/
import Derived.Test.YtfjbdamcmiglgaaGreatOwn30
import Derived.Below
import Derived.Carry
set_option linter.unusedVariables false
set_option linter.unusedSectionVars false
set_option linter.unusedSimpArgs false
namespace Go.dm
open Go
section
variable {P:Program}
theorem Zvv {g : FuncId} {fn : Func} {c : Code} {args : List ah} {σ : ai} {K : ah → ai → Prop} (hf : P.funcs[g]? = some fn) (hb : fn.body = some c) (ff : (fn.name == "runtime.NumGoroutine") = false)
  (h:iy P ⟨σ.length,none⟩ c (St.enter fn args σ) (Cw P fn K)) {X:Nat→Nat→Prop} {base:Nat} {β:Env} {w:World} {vs:Array Value} (h1:cS X base σ β w) (h2:vs.size=args.length)
  (h3:∀ k,k<args.length→cf w (MT X σ β) β (vs.getD k undef) (args.getD k .undef)) (cs:List Frame) :
  ∃ r σ' β' v w' Cy,K r σ'∧cf w' (MT X σ' β') β' v r∧Ext σ.length σ β w σ' β' w'∧Steps P (lone (Frame.enter P g vs .normal) cs w) (lone Cy cs w')∧Cy.fn=g∧Cy.leaving P w' (.returned v):=by
 obtain ⟨e,eL,β',a',w',q,r1,r2,r3,r4⟩:=h X base w.heap.size [] β _ w (kV g .normal) [] cs (ae _) (ae _) (U7 h1 h2 h3) rfl;rw [← Tr hf hb] at r4;have hq:∃ r,gp P eL fn.results.toList=some r∧K r eL.σ:=by cases e<;>first | exact q | exact q.elim
 obtain ⟨r,ov,nP⟩:=hq;obtain ⟨todo,gx⟩:∃ todo,Steps P (lone (Frame.enter P g vs .normal) cs w) (lone { (kV g .normal).atR a' todo with mode:=.returning } cs w'):=by
  cases e with
  | normal=>exact ⟨[],Steps.trans r4 (.one (stepR_end rfl))⟩
  | ret=>obtain ⟨k',e7⟩:=r4;exact ⟨_,Steps.trans e7 (.one (stepR_ret rfl))⟩
  | exit id=>exact q.elim
  | goto l=>exact q.elim
  | panic u=>exact q.elim
 obtain ⟨w2,t1,tI,qi⟩:=r2.zZ (P:=P) { (kV g .normal).atR a' todo with mode:=.returning } cs (by simp) rfl;obtain ⟨x,zz,FZ⟩:=S9 tI ov;exact ⟨r,eL.σ,β',x,w2,_,nP,FZ,qi _ _ _ _ (ae _) r3,gx.trans t1,rfl,rfl,rfl,rfl,fn,hf,zz⟩
theorem Ybf {w:World} (hg:wk w.heap.size w):cS sX w.heap.size [] tP w:=⟨fun _ _=>rfl,fun b x h=>by simp at h,fun b b' x y L L' h=>by simp at h,Nat.le_refl _,fun _ _ h=>h.elim,hg⟩
theorem Ybh {g : FuncId} {fn : Func} {c : Code} {args : List ah} {m : Nat} {rs : List ResultVar} (n : Nat) (hf : P.funcs[g]? = some fn) (hb : fn.body = some c) (hr : fn.results.toList = rs) (hm : fn.ntmps - args.length = m) (ff : (fn.name == "runtime.NumGoroutine") = false)
  (h:eF P ⟨0,none⟩ (rq P rs (F3 (.bool true))) n [.code c] .normal (args++List.replicate m .undef) []) {w:World} {vs:Array Value} (hg:wk w.heap.size w) (h2:vs.size=args.length)
  (h3:∀ k,k<args.length→cf w sX tP (vs.getD k undef) (args.getD k .undef)):Calls P g vs w fun e w'=>e = .returned (.bool true)∧RowKit.Below w.heap.size w w':=by
 intro cs;subst hr hm;have hM:MT sX [] tP=sX:=by funext g o;simp [MT,sX,Fz]
 obtain ⟨r,σ',β',v,w',Cy,k1,k2,k3,k4,k5,k6⟩:=Zvv (args:=args) (σ:=[]) (K:=F3 (.bool true)) hf hb ff (A6 n _ _ _ _ h) (X:=sX) (base:=w.heap.size) (β:=tP) (w:=w) (Ybf hg) h2 (by rw [hM];exact h3) cs;have hr:r = .bool true:=by
  have:pT (fun _=>true) σ' (.bool true) r:=k1;simpa [pT] using this
 subst hr;have hv:=k2.iI;subst hv;exact ⟨.returned (.bool true),w',Cy,⟨rfl,k3.os,k3.tape,k3.output,k3.size,fun g hg=>k3.block g hg fun o=>Fz⟩,k4,k5,k6⟩
end
end Go.dm
