/- Part 31 of what the claim rests on. -/
import Derived.Test.YtfjbdamcmiglgaaGreatOwn30
import Derived.Below
import Derived.Carry
set_option linter.all false
namespace Go.dq
open Go
section
variable {P:Program}
theorem Zvj {g : FuncId} {fn : Func} {c : Code} {args : List ah} {σ : av} {K : ah → av → Prop} (hf : P.funcs[g]? = some fn) (hb : fn.body = some c) (fe : (fn.name == "runtime.NumGoroutine") = false)
  (h:jn P ⟨σ.length,none⟩ c (St.enter fn args σ) (D2 P fn K)) {X:Nat->Nat->Prop} {base:Nat} {β:Env} {w:World} {vs:Array Value} (h1:c8 X base σ β w) (h2:vs.size=args.length)
  (h3:∀k,k<args.length->cn w (MT X σ β) β (vs.getD k undef) (args.getD k .undef)) (cs:List Frame) :
  ∃r σ' β' v w' D3,K r σ'/\cn w' (MT X σ' β') β' v r/\Ext σ.length σ β w σ' β' w'/\Steps P (lone (Frame.enter P g vs .normal) cs w) (lone D3 cs w')/\D3.fn=g/\D3.leaving P w' (.returned v):=by
 obtain⟨e,eG,β',a',w',q,r1,r2,r3,r4⟩:=h X base w.heap.size [] β _ w (lR g .normal) [] cs (ae _) (ae _) (Xj h1 h2 h3) rfl;rw[<-V3 hf hb]at r4;have hq:∃r,gP P eG fn.results.toList=some r/\K r eG.σ:=by cases e<;>first|exact q|exact q.elim
 obtain⟨r,qa,po⟩:=hq;obtain⟨todo,gE⟩:∃todo,Steps P (lone (Frame.enter P g vs .normal) cs w) (lone { (lR g .normal).atR a' todo with mode:=.returning } cs w'):=by
  cases e with
  |normal=>exact⟨[],Steps.trans r4 (.one (stepR_end rfl))⟩
  |ret=>obtain⟨k',eZ⟩:=r4;exact⟨_,Steps.trans eZ (.one (stepR_ret rfl))⟩
  |exit id=>exact q.elim
  |goto l=>exact q.elim
  |panic u=>exact q.elim
 obtain⟨w2,t1,uY,rB⟩:=r2.BD (P:=P) { (lR g .normal).atR a' todo with mode:=.returning } cs (by simp) rfl;obtain⟨x,xS,Es⟩:=Vs uY qa;exact⟨r,eG.σ,β',x,w2,_,po,Es,rB _ _ _ _ (ae _) r3,gE.trans t1,rfl,rfl,rfl,rfl,fn,hf,xS⟩
theorem Yc4 {w:World}(hg:xu w.heap.size w):c8 ux w.heap.size [] vd w:=⟨λ_ _=>rfl,λb x h=>by simp at h,λb b' x y L L' h=>by simp at h,Nat.le_refl _,λ_ _ h=>h.elim,hg⟩
theorem Ydv {g : FuncId} {fn : Func} {c : Code} {args : List ah} {m : Nat} {rs : List ResultVar} (n : Nat) (hf : P.funcs[g]? = some fn) (hb : fn.body = some c) (hr : fn.results.toList = rs) (hm : fn.ntmps - args.length = m) (fe : (fn.name == "runtime.NumGoroutine") = false)
  (h:fx P ⟨0,none⟩ (rL P rs (J4 (.bool true))) n [.code c] .normal (args++List.replicate m .undef) []) {w:World} {vs:Array Value} (hg:xu w.heap.size w) (h2:vs.size=args.length)
  (h3:∀k,k<args.length->cn w ux vd (vs.getD k undef) (args.getD k .undef)):Calls P g vs w λe w'=>e=.returned (.bool true)/\RowKit.Below w.heap.size w w':=by
 intro cs;subst hr hm;have hM:MT ux [] vd=ux:=by funext g o;simp[MT,ux,G_]
 obtain⟨r,σ',β',v,w',D3,k1,k2,k3,k4,k5,k6⟩:=Zvj (args:=args) (σ:=[]) (K:=J4 (.bool true)) hf hb fe (EO n _ _ _ _ h) (X:=ux) (base:=w.heap.size) (β:=vd) (w:=w) (Yc4 hg) h2 (by rw[hM];exact h3) cs;have hr:r=.bool true:=by
  have:pT (λ_=>true) σ' (.bool true) r:=k1;simpa[pT] using this
 subst hr;have hv:=k2.jj;subst hv;exact⟨.returned (.bool true),w',D3,⟨rfl,k3.os,k3.tape,k3.output,k3.size,λg hg=>k3.block g hg λo=>G_⟩,k4,k5,k6⟩
end
end Go.dq
