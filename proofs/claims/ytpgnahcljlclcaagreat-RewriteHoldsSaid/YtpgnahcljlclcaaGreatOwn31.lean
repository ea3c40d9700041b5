/- Part 31 of my own framework and of the walks of functions: AcsF. -/
import Derived.Test.YtpgnahcljlclcaaGreatOwn30
import Derived.Below
import Derived.Carry
set_option linter.unusedVariables false
set_option linter.unusedSectionVars false
set_option linter.unusedSimpArgs false
namespace Go.Abs
open Go
section
variable {P:Program}
theorem Zqy {g : FuncId} {fn : Func} {c : Code} {args : List AVal} {σ : Store} {K : AVal → Store → Prop} (hf : P.funcs[g]? = some fn) (hb : fn.body = some c) (hname : (fn.name == "runtime.NumGoroutine") = false)
  (h:EvS P ⟨σ.length,none⟩ c (St.enter fn args σ) (bodyQ P fn K)) {X:Nat→Nat→Prop} {base:Nat} {β:Env} {w:World} {vs:Array Value} (h1:RelS X base σ β w) (h2:vs.size=args.length)
  (h3:∀ k,k<args.length→Rep w (MT X σ β) β (vs.getD k undef) (args.getD k .undef)) (cs:List Frame) :
  ∃ r σ' β' v w' fr',K r σ'∧Rep w' (MT X σ' β') β' v r∧Ext σ.length σ β w σ' β' w'∧Steps P (lone (Frame.enter P g vs .normal) cs w) (lone fr' cs w')∧fr'.fn=g∧fr'.leaving P w' (.returned v):=by
 obtain ⟨e,st',β',a',w',q,r1,r2,r3,r4⟩:=h X base w.heap.size [] β _ w (frameOf g .normal) [] cs (Nat.le_refl _) (Nat.le_refl _) (Zom h1 h2 h3) rfl
 rw [← Zkr hf hb] at r4
 have hq:∃ r,resultsA P st' fn.results.toList=some r∧K r st'.σ:=by cases e<;>first | exact q | exact q.elim
 obtain ⟨r,hr1,hr2⟩:=hq
 obtain ⟨todo,hst⟩:∃ todo,Steps P (lone (Frame.enter P g vs .normal) cs w) (lone { (frameOf g .normal).atR a' todo with mode:=.returning } cs w'):=by
  cases e with
  | normal=>exact ⟨[],Steps.trans r4 (.one (stepR_end rfl))⟩
  | ret=>obtain ⟨k',hk'⟩:=r4;exact ⟨_,Steps.trans hk' (.one (stepR_ret rfl))⟩
  | exit id=>exact q.elim
  | goto l=>exact q.elim
  | panic u=>exact q.elim
 obtain ⟨w2,t1,hrel2,hext⟩:=r2.unmark (P:=P) { (frameOf g .normal).atR a' todo with mode:=.returning } cs (by simp) rfl
 obtain ⟨x,hx1,hx2⟩:=Zib hrel2 hr1
 exact ⟨r,st'.σ,β',x,w2,_,hr2,hx2,hext _ _ _ _ (Nat.le_refl _) r3,hst.trans t1,rfl,rfl,rfl,rfl,fn,hf,hx1⟩
theorem Zwk {w:World} (hg:Glob w.heap.size w):RelS noM w.heap.size [] noB w:=⟨fun _ _=>rfl,fun b x h=>by simp at h,fun b b' x y L L' h=>by simp at h,Nat.le_refl _,fun _ _ h=>h.elim,hg⟩
theorem Zvr {g : FuncId} {fn : Func} {c : Code} {args : List AVal} {m : Nat} {rs : List ResultVar} (n : Nat) (hf : P.funcs[g]? = some fn) (hb : fn.body = some c) (hr : fn.results.toList = rs) (hm : fn.ntmps - args.length = m) (hname : (fn.name == "runtime.NumGoroutine") = false)
  (h:vcK P ⟨0,none⟩ (retQ P rs (isT (.bool true))) n [.code c] .normal (args++List.replicate m .undef) []) {w:World} {vs:Array Value} (hg:Glob w.heap.size w) (h2:vs.size=args.length)
  (h3:∀ k,k<args.length→Rep w noM noB (vs.getD k undef) (args.getD k .undef)):Calls P g vs w fun e w'=>e = .returned (.bool true)∧RowKit.Below w.heap.size w w':=by
 intro cs
 subst hr hm
 have hM:MT noM [] noB=noM:=by funext g o;simp [MT,noM,Zhz]
 obtain ⟨r,σ',β',v,w',fr',k1,k2,k3,k4,k5,k6⟩:=Zqy (args:=args) (σ:=[]) (K:=isT (.bool true)) hf hb hname (Zdl n _ _ _ _ h) (X:=noM) (base:=w.heap.size) (β:=noB) (w:=w) (Zwk hg) h2 (by rw [hM];exact h3) cs
 have hr:r = .bool true:=by
  have:pT (fun _=>true) σ' (.bool true) r:=k1
  simpa [pT] using this
 subst hr
 have hv:=k2.bool_inv
 subst hv
 exact ⟨.returned (.bool true),w',fr',⟨rfl,k3.os,k3.tape,k3.output,k3.size,fun g hg=>k3.block g hg fun o=>Zhz⟩,k4,k5,k6⟩
end
end Go.Abs
