/- Part 29 of my own framework and of the walks of functions: AcsD. -/
import Derived.Test.YtpgnahcljlclcaaGreatOwn28
set_option linter.unusedVariables false
set_option linter.unusedSectionVars false
set_option linter.unusedSimpArgs false
namespace Go.Abs
open Go
section
variable {P:Program} {lo:Ctx} {Q:AExit→St→Prop} {σ:Store} {tm:List AVal}
theorem EvK.rangeFunc {k:List KI} {f:Operand} {ps:Array Tmp} {assign body:Code} (tmL:List AVal) (hL:leTm tmL tm) (hin:∀ b0,lo.ro=some b0→∃ r,getS σ b0=some (.loop r))
  (h:∀ ρ:LoopA,ρ.tm=tmL→ρ.params=ps→ρ.assign=assign→ρ.body=body→VCall P (ev tm f) [.yld σ.length] (σ++[some (.loop (ρ.at .ready))]) (rangeK (fun e s=>EvK P lo Q k e s) tm ρ σ.length)) :
  EvK P lo Q (.code (.rangeFunc f ps assign body) :: k) .normal ⟨tm,σ⟩ :=
 EvS.rangeFunc (st:=⟨tm,σ⟩) tmL hL hin h
def asgQ (P:Program) (K:AVal→Store→Prop) (n0:Nat) (ρ:LoopA) (bl:Nat) (n:Nat) (body:Code) (e:AExit) (s:St):Prop :=
 match e with
 | .normal=>getS s.σ bl=some (.loop (ρ.at .ready))∧vcK P ⟨n0,some bl⟩ (bodyYQ K n0 ρ bl) n [.code body] .normal s.tm (setS s.σ bl (.loop (ρ.at .busy)))
 | _=>False
theorem VCall.yieldK {bl:Nat} {ρ:LoopA} {args:List AVal} {K:AVal→Store→Prop} {tmL:List AVal} {ps:Array Tmp} {assign body:Code} (n:Nat) (ht : ρ.tm=tmL) (hp : ρ.params=ps) (ha : ρ.assign=assign) (hb : ρ.body=body)
  (hs:getS σ bl=some (.loop (ρ.at .ready))) (hn:ps.size=args.length)
  (h:vcK P ⟨σ.length,some bl⟩ (asgQ P K σ.length ρ bl n body) n [.code assign] .normal (parA tmL ps.toList args) σ):VCall P (.yld bl) args σ K:=by
 subst ht hp ha hb
 refine VCall.yield hs hn (EvS.mono (Zdl n _ _ _ _ h) fun e s q=>?_)
 cases e with
 | normal=>exact ⟨q.1,EvS.mono (Zdl n _ _ _ _ q.2) fun e s q=>q⟩
 | exit id=>exact q
 | goto l=>exact q
 | ret=>exact q
 | panic u=>exact q
def dropK (K:AVal→Store→Prop) (n:Nat) (r:AVal) (σ':Store):Prop:=∃ σ3,leSo σ3 σ'∧n≤σ3.length∧lowSo σ3.length σ3∧r.low σ3.length∧K r σ3
theorem CallSh.drop {F:Frame→List Frame→Sem Next→World→Value→World→Prop} {g:FuncId} {args:List AVal} {K:AVal→Store→Prop} (h:CallShG P F g args σ (dropK K σ.length)):CallShG P F g args σ K:=by
 intro X base β w vs h1 h2 h3 fr cs h4
 obtain ⟨r,σ',β',v,w',⟨σ3,k1,k2,k3,k4,k5⟩,g1,g2,g3,g4,g5⟩:=h X base β w vs h1 h2 h3 fr cs h4
 exact ⟨r,σ3,_,v,w',k5,g1.drop (Zbu k1) rfl (Zat k3),g2.drop (Zbu k1) rfl k4,g3.drop (Zbu k1) rfl k2,k2,g5⟩
theorem VCall.begin {g:FuncId} {fn:Func} {c:Code} {first captured args all:List AVal} {K:AVal→Store→Prop} {m:Nat} {rs:List ResultVar} (n:Nat) (hf:P.funcs[g]? = some fn) (hb:fn.body=some c) (hr:fn.results.toList=rs)
  (hall : first ++ args ++ captured = all) (hm : fn.ntmps - all.length = m) (hname : (fn.name == "runtime.NumGoroutine") = false)
  (h:vcK P ⟨σ.length,none⟩ (retQ P rs (dropK K σ.length)) n [.code c] .normal (all++List.replicate m .undef) σ):VCall P (.fn g first captured) args σ K :=
 VCall.sh (by rw [hall];exact CallSh.drop (CallSh.start n hf hb hr hm hname h))
theorem Zyl {K:AVal→Store→Prop} {n0:Nat} {ρ:LoopA} {bl n:Nat} {body:Code} {s:St}:asgQ P K n0 ρ bl n body .normal s=(getS s.σ bl=some (.loop (ρ.at .ready))∧vcK P ⟨n0,some bl⟩ (bodyYQ K n0 ρ bl) n [.code body] .normal s.tm (setS s.σ bl (.loop (ρ.at .busy)))):=rfl
theorem Ybb {K:AVal→Store→Prop} {n0:Nat} {ρ:LoopA} {bl:Nat} {s:St}:bodyYQ K n0 ρ bl .normal s=roundEnd K n0 ρ bl true .ready s.σ:=rfl
theorem Yqr {K:AVal→Store→Prop} {n0:Nat} {ρ:LoopA} {bl:Nat} {s:St}:bodyYQ K n0 ρ bl .ret s=roundEnd K n0 ρ bl false (.done .ret) s.σ:=rfl
theorem Yj3 {K:AVal→Store→Prop} {n0:Nat} {ρ:LoopA} {bl i:Nat} {s:St}:bodyYQ K n0 ρ bl (.exit i) s=roundEnd K n0 ρ bl false (.done (.exit i)) s.σ:=rfl
theorem Zfe {K:AVal→Store→Prop} {n0:Nat} {ρ:LoopA} {bl:Nat} {t:Bool} {s':LState}:roundEnd K n0 ρ bl t s' σ=(getS σ bl=some (.loop (ρ.at .busy))∧∃ σ3,leSo σ3 (setS σ bl (.loop (ρ.at s')))∧n0≤σ3.length∧lowSo σ3.length σ3∧K (.bool t) σ3):=rfl
theorem Yso {tm as_:List AVal}:parA tm [] as_=tm:=by cases as_<;>rfl
theorem Yll {tm as_:List AVal} {t:Tmp} {a:AVal} {ts:List Tmp}:parA tm (t :: ts) (a :: as_)=parA (tm.set t a) ts as_:=rfl
theorem Zst {ρ:LoopA} {n:Nat} {r:AVal} {σ:Store}:rangeK Q tm ρ n r σ = ∃ s,getS σ n=some (.loop (ρ.at s))∧rangeEnd Q tm (σ.set n none) s:=rfl
theorem Zfz {σ:Store}:rangeEnd Q tm σ .ready=Q .normal ⟨tm,σ⟩:=rfl
theorem Ypc {σ:Store}:rangeEnd Q tm σ (.done .ret)=Q .ret ⟨tm,σ⟩:=rfl
theorem Yl0 {n:Nat} {ρ:LoopA} {s:LState}:Blk.low n (.loop (ρ.at s))=lowL n ρ.tm:=rfl
theorem Zax {K:AVal→Store→Prop} {n:Nat} {r:AVal} {σ':Store}:dropK K n r σ' = ∃ σ3,leSo σ3 σ'∧n≤σ3.length∧lowSo σ3.length σ3∧r.low σ3.length∧K r σ3:=rfl
attribute [go_sem] Zyl Ybb Yqr Yj3 Yso Yll Yl0
end
end Go.Abs
