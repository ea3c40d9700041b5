/- Part 29 of my own framework and of the walks of functions: AcsD. -/
import Derived.Test.YtfjbdamcmiglgaaGreatOwn28
set_option linter.unusedVariables false
set_option linter.unusedSectionVars false
set_option linter.unusedSimpArgs false
namespace Go.c8
open Go
section
variable {P:Program} {lo:Ctx} {Q:b9→St→Prop} {σ:ai} {tm:List ae}
theorem aK.rangeFunc {k:List KI} {f:Operand} {ps:Array Tmp} {assign body:Code} (zu:List ae) (hL:lV zu tm) (fp:∀ b0,lo.ro=some b0→∃ r,bG σ b0=some (.loop r))
  (h:∀ ρ:gF,ρ.tm=zu→ρ.params=ps→ρ.assign=assign→ρ.body=body→aq P (ev tm f) [.ld σ.length] (σ++[some (.loop (ρ.at .ready))]) (vG (fun e s=>aK P lo Q k e s) tm ρ σ.length)) :
  aK P lo Q (.code (.rangeFunc f ps assign body) :: k) .normal ⟨tm,σ⟩ :=
 ib.rangeFunc (st:=⟨tm,σ⟩) zu hL fp h
def FG (P:Program) (K:ae→ai→Prop) (n0:Nat) (ρ:gF) (bl:Nat) (n:Nat) (body:Code) (e:b9) (s:St):Prop :=
 match e with
 | .normal=>bG s.σ bl=some (.loop (ρ.at .ready))∧dT P ⟨n0,some bl⟩ (ph K n0 ρ bl) n [.code body] .normal s.tm (bZ s.σ bl (.loop (ρ.at .busy)))
 | _=>False
theorem aq.lK {bl:Nat} {ρ:gF} {args:List ae} {K:ae→ai→Prop} {zu:List ae} {ps:Array Tmp} {assign body:Code} (n:Nat) (ht : ρ.tm=zu) (hp : ρ.params=ps) (ha : ρ.assign=assign) (hb : ρ.body=body)
  (hs:bG σ bl=some (.loop (ρ.at .ready))) (hn:ps.size=args.length)
  (h:dT P ⟨σ.length,some bl⟩ (FG P K σ.length ρ bl n body) n [.code assign] .normal (pJ zu ps.toList args) σ):aq P (.ld bl) args σ K:=by
 subst ht hp ha hb
 refine aq.yield hs hn (ib.mono (B5 n _ _ _ _ h) fun e s q=>?_)
 cases e with
 | normal=>exact ⟨q.1,ib.mono (B5 n _ _ _ _ q.2) fun e s q=>q⟩
 | exit id=>exact q
 | goto l=>exact q
 | ret=>exact q
 | panic u=>exact q
def mz (K:ae→ai→Prop) (n:Nat) (r:ae) (σ':ai):Prop:=∃ lC,ic lC σ'∧n≤lC.length∧bt lC.length lC∧r.low lC.length∧K r lC
theorem bS.drop {F:Frame→List Frame→Sem Next→World→Value→World→Prop} {g:FuncId} {args:List ae} {K:ae→ai→Prop} (h:gQ P F g args σ (mz K σ.length)):gQ P F g args σ K:=by
 intro X base β w vs h1 h2 h3 fr cs h4
 obtain ⟨r,σ',β',v,w',⟨lC,k1,k2,k3,k4,k5⟩,g1,g2,g3,g4,g5⟩:=h X base β w vs h1 h2 h3 fr cs h4
 exact ⟨r,lC,_,v,w',k5,g1.drop (uN k1) rfl (qs k3),g2.drop (uN k1) rfl k4,g3.drop (uN k1) rfl k2,k2,g5⟩
theorem aq.begin {g:FuncId} {fn:Func} {c:Code} {first captured args all:List ae} {K:ae→ai→Prop} {m:Nat} {rs:List ResultVar} (n:Nat) (hf:P.funcs[g]? = some fn) (hb:fn.body=some c) (hr:fn.results.toList=rs)
  (eK : first ++ args ++ captured = all) (hm : fn.ntmps - all.length = m) (eA : (fn.name == "runtime.NumGoroutine") = false)
  (h:dT P ⟨σ.length,none⟩ (qf P rs (mz K σ.length)) n [.code c] .normal (all++List.replicate m .undef) σ):aq P (.fn g first captured) args σ K :=
 aq.sh (by rw [eK];exact bS.drop (bS.start n hf hb hr hm eA h))
theorem XI {K:ae→ai→Prop} {n0:Nat} {ρ:gF} {bl n:Nat} {body:Code} {s:St}:FG P K n0 ρ bl n body .normal s=(bG s.σ bl=some (.loop (ρ.at .ready))∧dT P ⟨n0,some bl⟩ (ph K n0 ρ bl) n [.code body] .normal s.tm (bZ s.σ bl (.loop (ρ.at .busy)))):=rfl
theorem Y3 {K:ae→ai→Prop} {n0:Nat} {ρ:gF} {bl:Nat} {s:St}:ph K n0 ρ bl .normal s=jj K n0 ρ bl true .ready s.σ:=rfl
theorem Yu3 {K:ae→ai→Prop} {n0:Nat} {ρ:gF} {bl:Nat} {s:St}:ph K n0 ρ bl .ret s=jj K n0 ρ bl false (.done .ret) s.σ:=rfl
theorem Ynm {K:ae→ai→Prop} {n0:Nat} {ρ:gF} {bl i:Nat} {s:St}:ph K n0 ρ bl (.exit i) s=jj K n0 ρ bl false (.done (.exit i)) s.σ:=rfl
theorem tA {K:ae→ai→Prop} {n0:Nat} {ρ:gF} {bl:Nat} {t:Bool} {s':fS}:jj K n0 ρ bl t s' σ=(bG σ bl=some (.loop (ρ.at .busy))∧∃ lC,ic lC (bZ σ bl (.loop (ρ.at s')))∧n0≤lC.length∧bt lC.length lC∧K (.bool t) lC):=rfl
theorem Yxy {tm cj:List ae}:pJ tm [] cj=tm:=by cases cj<;>rfl
theorem Yry {tm cj:List ae} {t:Tmp} {a:ae} {ts:List Tmp}:pJ tm (t :: ts) (a :: cj)=pJ (tm.set t a) ts cj:=rfl
theorem Cm {ρ:gF} {n:Nat} {r:ae} {σ:ai}:vG Q tm ρ n r σ = ∃ s,bG σ n=some (.loop (ρ.at s))∧oX Q tm (σ.set n none) s:=rfl
theorem D2 {σ:ai}:oX Q tm σ .ready=Q .normal ⟨tm,σ⟩:=rfl
theorem Yty {σ:ai}:oX Q tm σ (.done .ret)=Q .ret ⟨tm,σ⟩:=rfl
theorem Yqp {n:Nat} {ρ:gF} {s:fS}:bE.low n (.loop (ρ.at s))=bx n ρ.tm:=rfl
theorem fL {K:ae→ai→Prop} {n:Nat} {r:ae} {σ':ai}:mz K n r σ' = ∃ lC,ic lC σ'∧n≤lC.length∧bt lC.length lC∧r.low lC.length∧K r lC:=rfl
attribute [go_sem] XI Y3 Yu3 Ynm Yxy Yry Yqp
end
end Go.c8
