/- Part 29 of my own framework and of the walks of functions: AcsD. -/
import Derived.Test.YtfjbdamcmiglgaaGreatOwn28
set_option linter.unusedVariables false
set_option linter.unusedSectionVars false
set_option linter.unusedSimpArgs false
namespace Go.cV
open Go
section
variable {P:Program} {lo:Ctx} {Q:cb→St→Prop} {σ:ai} {tm:List ae}
theorem aK.rangeFunc {k:List KI} {f:Operand} {ps:Array Tmp} {assign body:Code} (zz:List ae) (hL:lT zz tm) (fh:∀ b0,lo.ro=some b0→∃ r,bF σ b0=some (.loop r))
  (h:∀ ρ:gD,ρ.tm=zz→ρ.params=ps→ρ.assign=assign→ρ.body=body→aq P (ev tm f) [.ld σ.length] (σ++[some (.loop (ρ.at .ready))]) (vO (fun e s=>aK P lo Q k e s) tm ρ σ.length)) :
  aK P lo Q (.code (.rangeFunc f ps assign body) :: k) .normal ⟨tm,σ⟩ :=
 ic.rangeFunc (st:=⟨tm,σ⟩) zz hL fh h
def FN (P:Program) (K:ae→ai→Prop) (n0:Nat) (ρ:gD) (bl:Nat) (n:Nat) (body:Code) (e:cb) (s:St):Prop :=
 match e with
 | .normal=>bF s.σ bl=some (.loop (ρ.at .ready))∧dW P ⟨n0,some bl⟩ (pv K n0 ρ bl) n [.code body] .normal s.tm (b_ s.σ bl (.loop (ρ.at .busy)))
 | _=>False
theorem aq.lH {bl:Nat} {ρ:gD} {args:List ae} {K:ae→ai→Prop} {zz:List ae} {ps:Array Tmp} {assign body:Code} (n:Nat) (ht : ρ.tm=zz) (hp : ρ.params=ps) (ha : ρ.assign=assign) (hb : ρ.body=body)
  (hs:bF σ bl=some (.loop (ρ.at .ready))) (hn:ps.size=args.length)
  (h:dW P ⟨σ.length,some bl⟩ (FN P K σ.length ρ bl n body) n [.code assign] .normal (pP zz ps.toList args) σ):aq P (.ld bl) args σ K:=by
 subst ht hp ha hb
 refine aq.yield hs hn (ic.mono (Cf n _ _ _ _ h) fun e s q=>?_)
 cases e with
 | normal=>exact ⟨q.1,ic.mono (Cf n _ _ _ _ q.2) fun e s q=>q⟩
 | exit id=>exact q
 | goto l=>exact q
 | ret=>exact q
 | panic u=>exact q
def my (K:ae→ai→Prop) (n:Nat) (r:ae) (σ':ai):Prop:=∃ ly,ig ly σ'∧n≤ly.length∧bt ly.length ly∧r.low ly.length∧K r ly
theorem bS.drop {F:Frame→List Frame→Sem Next→World→Value→World→Prop} {g:FuncId} {args:List ae} {K:ae→ai→Prop} (h:gP P F g args σ (my K σ.length)):gP P F g args σ K:=by
 intro X base β w vs h1 h2 h3 fr cs h4
 obtain ⟨r,σ',β',v,w',⟨ly,k1,k2,k3,k4,k5⟩,g1,g2,g3,g4,g5⟩:=h X base β w vs h1 h2 h3 fr cs h4
 exact ⟨r,ly,_,v,w',k5,g1.drop (u0 k1) rfl (qA k3),g2.drop (u0 k1) rfl k4,g3.drop (u0 k1) rfl k2,k2,g5⟩
theorem aq.begin {g:FuncId} {fn:Func} {c:Code} {first captured args all:List ae} {K:ae→ai→Prop} {m:Nat} {rs:List ResultVar} (n:Nat) (hf:P.funcs[g]? = some fn) (hb:fn.body=some c) (hr:fn.results.toList=rs)
  (eX : first ++ args ++ captured = all) (hm : fn.ntmps - all.length = m) (eE : (fn.name == "runtime.NumGoroutine") = false)
  (h:dW P ⟨σ.length,none⟩ (qm P rs (my K σ.length)) n [.code c] .normal (all++List.replicate m .undef) σ):aq P (.fn g first captured) args σ K :=
 aq.sh (by rw [eX];exact bS.drop (bS.start n hf hb hr hm eE h))
theorem Yu {K:ae→ai→Prop} {n0:Nat} {ρ:gD} {bl n:Nat} {body:Code} {s:St}:FN P K n0 ρ bl n body .normal s=(bF s.σ bl=some (.loop (ρ.at .ready))∧dW P ⟨n0,some bl⟩ (pv K n0 ρ bl) n [.code body] .normal s.tm (b_ s.σ bl (.loop (ρ.at .busy)))):=rfl
theorem Y1 {K:ae→ai→Prop} {n0:Nat} {ρ:gD} {bl:Nat} {s:St}:pv K n0 ρ bl .normal s=jm K n0 ρ bl true .ready s.σ:=rfl
theorem Yyk {K:ae→ai→Prop} {n0:Nat} {ρ:gD} {bl:Nat} {s:St}:pv K n0 ρ bl .ret s=jm K n0 ρ bl false (.done .ret) s.σ:=rfl
theorem You {K:ae→ai→Prop} {n0:Nat} {ρ:gD} {bl i:Nat} {s:St}:pv K n0 ρ bl (.exit i) s=jm K n0 ρ bl false (.done (.exit i)) s.σ:=rfl
theorem tL {K:ae→ai→Prop} {n0:Nat} {ρ:gD} {bl:Nat} {t:Bool} {s':fS}:jm K n0 ρ bl t s' σ=(bF σ bl=some (.loop (ρ.at .busy))∧∃ ly,ig ly (b_ σ bl (.loop (ρ.at s')))∧n0≤ly.length∧bt ly.length ly∧K (.bool t) ly):=rfl
theorem Ywv {tm ck:List ae}:pP tm [] ck=tm:=by cases ck<;>rfl
theorem Ysp {tm ck:List ae} {t:Tmp} {a:ae} {ts:List Tmp}:pP tm (t :: ts) (a :: ck)=pP (tm.set t a) ts ck:=rfl
theorem Cv {ρ:gD} {n:Nat} {r:ae} {σ:ai}:vO Q tm ρ n r σ = ∃ s,bF σ n=some (.loop (ρ.at s))∧oY Q tm (σ.set n none) s:=rfl
theorem D9 {σ:ai}:oY Q tm σ .ready=Q .normal ⟨tm,σ⟩:=rfl
theorem Yt3 {σ:ai}:oY Q tm σ (.done .ret)=Q .ret ⟨tm,σ⟩:=rfl
theorem Ynw {n:Nat} {ρ:gD} {s:fS}:bE.low n (.loop (ρ.at s))=bx n ρ.tm:=rfl
theorem fL {K:ae→ai→Prop} {n:Nat} {r:ae} {σ':ai}:my K n r σ' = ∃ ly,ig ly σ'∧n≤ly.length∧bt ly.length ly∧r.low ly.length∧K r ly:=rfl
attribute [go_sem] Yu Y1 Yyk You Ywv Ysp Ynw
end
end Go.cV
