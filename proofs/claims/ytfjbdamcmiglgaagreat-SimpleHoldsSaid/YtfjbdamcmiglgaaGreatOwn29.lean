/- Part 29 of my own framework and of the walks of functions: AcsD. -/
import Derived.Test.YtfjbdamcmiglgaaGreatOwn28
set_option linter.unusedVariables false
set_option linter.unusedSectionVars false
set_option linter.unusedSimpArgs false
namespace Go.dm
open Go
section
variable {P:Program} {lo:Ctx} {Q:ct→St→Prop} {σ:ai} {tm:List ah}
theorem aG.rangeFunc {k:List KI} {f:Operand} {ps:Array Tmp} {assign body:Code} (AQ:List ah) (hL:mr AQ tm) (fD:∀ b0,lo.ro=some b0→∃ r,bP σ b0=some (.loop r))
  (h:∀ ρ:ic,ρ.tm=AQ→ρ.params=ps→ρ.assign=assign→ρ.body=body→aq P (ev tm f) [.lN σ.length] (σ++[some (.loop (ρ.at .ready))]) (wU (fun e s=>aG P lo Q k e s) tm ρ σ.length)) :
  aG P lo Q (.code (.rangeFunc f ps assign body) :: k) .normal ⟨tm,σ⟩ :=
 iy.rangeFunc (st:=⟨tm,σ⟩) AQ hL fD h
def G7 (P:Program) (K:ah→ai→Prop) (n0:Nat) (ρ:ic) (bl:Nat) (n:Nat) (body:Code) (e:ct) (s:St):Prop :=
 match e with
 | .normal=>bP s.σ bl=some (.loop (ρ.at .ready))∧eF P ⟨n0,some bl⟩ (p7 K n0 ρ bl) n [.code body] .normal s.tm (cr s.σ bl (.loop (ρ.at .busy)))
 | _=>False
theorem aq.l9 {bl:Nat} {ρ:ic} {args:List ah} {K:ah→ai→Prop} {AQ:List ah} {ps:Array Tmp} {assign body:Code} (n:Nat) (ht : ρ.tm=AQ) (hp : ρ.params=ps) (ha : ρ.assign=assign) (hb : ρ.body=body)
  (hs:bP σ bl=some (.loop (ρ.at .ready))) (hn:ps.size=args.length)
  (h:eF P ⟨σ.length,some bl⟩ (G7 P K σ.length ρ bl n body) n [.code assign] .normal (qs AQ ps.toList args) σ):aq P (.lN bl) args σ K:=by
 subst ht hp ha hb;refine aq.yield hs hn (iy.mono (A6 n _ _ _ _ h) fun e s q=>?_);cases e with
 | normal=>exact ⟨q.1,iy.mono (A6 n _ _ _ _ q.2) fun e s q=>q⟩
 | exit id=>exact q
 | goto l=>exact q
 | ret=>exact q
 | panic u=>exact q
def na (K:ah→ai→Prop) (n:Nat) (r:ah) (σ':ai):Prop:=∃ lW,iP lW σ'∧n≤lW.length∧bD lW.length lW∧r.low lW.length∧K r lW
theorem cg.drop {F:Frame→List Frame→Sem Next→World→Value→World→Prop} {g:FuncId} {args:List ah} {K:ah→ai→Prop} (h:ix P F g args σ (na K σ.length)):ix P F g args σ K:=by
 intro X base β w vs h1 h2 h3 fr cs h4;obtain ⟨r,σ',β',v,w',⟨lW,k1,k2,k3,k4,k5⟩,g1,g2,g3,g4,g5⟩:=h X base β w vs h1 h2 h3 fr cs h4;exact ⟨r,lW,_,v,w',k5,g1.drop (vV k1) rfl (qR k3),g2.drop (vV k1) rfl k4,g3.drop (vV k1) rfl k2,k2,g5⟩
theorem aq.begin {g:FuncId} {fn:Func} {c:Code} {first captured args all:List ah} {K:ah→ai→Prop} {m:Nat} {rs:List ResultVar} (n:Nat) (hf:P.funcs[g]? = some fn) (hb:fn.body=some c) (hr:fn.results.toList=rs)
  (fq : first ++ args ++ captured = all) (hm : fn.ntmps - all.length = m) (ff : (fn.name == "runtime.NumGoroutine") = false)
  (h:eF P ⟨σ.length,none⟩ (rq P rs (na K σ.length)) n [.code c] .normal (all++List.replicate m .undef) σ):aq P (.fn g first captured) args σ K :=
 aq.sh (by rw [fq];exact cg.drop (cg.start n hf hb hr hm ff h))
theorem Yew {K:ah→ai→Prop} {n0:Nat} {ρ:ic} {bl n:Nat} {body:Code} {s:St}:G7 P K n0 ρ bl n body .normal s=(bP s.σ bl=some (.loop (ρ.at .ready))∧eF P ⟨n0,some bl⟩ (p7 K n0 ρ bl) n [.code body] .normal s.tm (cr s.σ bl (.loop (ρ.at .busy)))):=rfl
theorem Yel {K:ah→ai→Prop} {n0:Nat} {ρ:ic} {bl:Nat} {s:St}:p7 K n0 ρ bl .normal s=jO K n0 ρ bl true .ready s.σ:=rfl
theorem YQ {K:ah→ai→Prop} {n0:Nat} {ρ:ic} {bl:Nat} {s:St}:p7 K n0 ρ bl .ret s=jO K n0 ρ bl false (.done .ret) s.σ:=rfl
theorem Ytz {K:ah→ai→Prop} {n0:Nat} {ρ:ic} {bl i:Nat} {s:St}:p7 K n0 ρ bl (.exit i) s=jO K n0 ρ bl false (.done (.exit i)) s.σ:=rfl
theorem uV {K:ah→ai→Prop} {n0:Nat} {ρ:ic} {bl:Nat} {t:Bool} {s':gJ}:jO K n0 ρ bl t s' σ=(bP σ bl=some (.loop (ρ.at .busy))∧∃ lW,iP lW (cr σ bl (.loop (ρ.at s')))∧n0≤lW.length∧bD lW.length lW∧K (.bool t) lW):=rfl
theorem Yxq {tm cD:List ah}:qs tm [] cD=tm:=by cases cD<;>rfl
theorem Yuh {tm cD:List ah} {t:Tmp} {a:ah} {ts:List Tmp}:qs tm (t :: ts) (a :: cD)=qs (tm.set t a) ts cD:=rfl
theorem Dv {ρ:ic} {n:Nat} {r:ah} {σ:ai}:wU Q tm ρ n r σ = ∃ s,bP σ n=some (.loop (ρ.at s))∧pO Q tm (σ.set n none) s:=rfl
theorem Fj {σ:ai}:pO Q tm σ .ready=Q .normal ⟨tm,σ⟩:=rfl
theorem Yze {σ:ai}:pO Q tm σ (.done .ret)=Q .ret ⟨tm,σ⟩:=rfl
theorem Yu7 {n:Nat} {ρ:ic} {s:gJ}:bO.low n (.loop (ρ.at s))=bF n ρ.tm:=rfl
theorem gC {K:ah→ai→Prop} {n:Nat} {r:ah} {σ':ai}:na K n r σ' = ∃ lW,iP lW σ'∧n≤lW.length∧bD lW.length lW∧r.low lW.length∧K r lW:=rfl
attribute [go_sem] Yew Yel YQ Ytz Yxq Yuh Yu7
end
end Go.dm
