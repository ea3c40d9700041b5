/- Part 29 of my own framework and of the walks of functions: AcsD. -/
import Derived.Test.YtfjbdamcmiglgaaGreatOwn28
set_option linter.unusedVariables false
set_option linter.unusedSectionVars false
set_option linter.unusedSimpArgs false
namespace Go.c8
open Go
section
variable {P:Program} {lo:Ctx} {Q:cb→St→Prop} {σ:ai} {tm:List ae}
theorem aK.rangeFunc {k:List KI} {f:Operand} {ps:Array Tmp} {assign body:Code} (zM:List ae) (hL:l9 zM tm) (fE:∀ b0,lo.ro=some b0→∃ r,bH σ b0=some (.loop r))
  (h:∀ ρ:gQ,ρ.tm=zM→ρ.params=ps→ρ.assign=assign→ρ.body=body→aq P (ev tm f) [.lz σ.length] (σ++[some (.loop (ρ.at .ready))]) (vY (fun e s=>aK P lo Q k e s) tm ρ σ.length)) :
  aK P lo Q (.code (.rangeFunc f ps assign body) :: k) .normal ⟨tm,σ⟩ :=
 iw.rangeFunc (st:=⟨tm,σ⟩) zM hL fE h
def F9 (P:Program) (K:ae→ai→Prop) (n0:Nat) (ρ:gQ) (bl:Nat) (n:Nat) (body:Code) (e:cb) (s:St):Prop :=
 match e with
 | .normal=>bH s.σ bl=some (.loop (ρ.at .ready))∧dZ P ⟨n0,some bl⟩ (pF K n0 ρ bl) n [.code body] .normal s.tm (b_ s.σ bl (.loop (ρ.at .busy)))
 | _=>False
theorem aq.lV {bl:Nat} {ρ:gQ} {args:List ae} {K:ae→ai→Prop} {zM:List ae} {ps:Array Tmp} {assign body:Code} (n:Nat) (ht : ρ.tm=zM) (hp : ρ.params=ps) (ha : ρ.assign=assign) (hb : ρ.body=body)
  (hs:bH σ bl=some (.loop (ρ.at .ready))) (hn:ps.size=args.length)
  (h:dZ P ⟨σ.length,some bl⟩ (F9 P K σ.length ρ bl n body) n [.code assign] .normal (pX zM ps.toList args) σ):aq P (.lz bl) args σ K:=by
 subst ht hp ha hb
 refine aq.yield hs hn (iw.mono (Cp n _ _ _ _ h) fun e s q=>?_)
 cases e with
 | normal=>exact ⟨q.1,iw.mono (Cp n _ _ _ _ q.2) fun e s q=>q⟩
 | exit id=>exact q
 | goto l=>exact q
 | ret=>exact q
 | panic u=>exact q
def mJ (K:ae→ai→Prop) (n:Nat) (r:ae) (σ':ai):Prop:=∃ lO,iy lO σ'∧n≤lO.length∧bw lO.length lO∧r.low lO.length∧K r lO
theorem bT.drop {F:Frame→List Frame→Sem Next→World→Value→World→Prop} {g:FuncId} {args:List ae} {K:ae→ai→Prop} (h:g_ P F g args σ (mJ K σ.length)):g_ P F g args σ K:=by
 intro X base β w vs h1 h2 h3 fr cs h4
 obtain ⟨r,σ',β',v,w',⟨lO,k1,k2,k3,k4,k5⟩,g1,g2,g3,g4,g5⟩:=h X base β w vs h1 h2 h3 fr cs h4
 exact ⟨r,lO,_,v,w',k5,g1.drop (vj k1) rfl (qL k3),g2.drop (vj k1) rfl k4,g3.drop (vj k1) rfl k2,k2,g5⟩
theorem aq.begin {g:FuncId} {fn:Func} {c:Code} {first captured args all:List ae} {K:ae→ai→Prop} {m:Nat} {rs:List ResultVar} (n:Nat) (hf:P.funcs[g]? = some fn) (hb:fn.body=some c) (hr:fn.results.toList=rs)
  (e8 : first ++ args ++ captured = all) (hm : fn.ntmps - all.length = m) (eI : (fn.name == "runtime.NumGoroutine") = false)
  (h:dZ P ⟨σ.length,none⟩ (qv P rs (mJ K σ.length)) n [.code c] .normal (all++List.replicate m .undef) σ):aq P (.fn g first captured) args σ K :=
 aq.sh (by rw [e8];exact bT.drop (bT.start n hf hb hr hm eI h))
theorem Yge {K:ae→ai→Prop} {n0:Nat} {ρ:gQ} {bl n:Nat} {body:Code} {s:St}:F9 P K n0 ρ bl n body .normal s=(bH s.σ bl=some (.loop (ρ.at .ready))∧dZ P ⟨n0,some bl⟩ (pF K n0 ρ bl) n [.code body] .normal s.tm (b_ s.σ bl (.loop (ρ.at .busy)))):=rfl
theorem Zo {K:ae→ai→Prop} {n0:Nat} {ρ:gQ} {bl:Nat} {s:St}:pF K n0 ρ bl .normal s=jA K n0 ρ bl true .ready s.σ:=rfl
theorem Yyt {K:ae→ai→Prop} {n0:Nat} {ρ:gQ} {bl:Nat} {s:St}:pF K n0 ρ bl .ret s=jA K n0 ρ bl false (.done .ret) s.σ:=rfl
theorem Yql {K:ae→ai→Prop} {n0:Nat} {ρ:gQ} {bl i:Nat} {s:St}:pF K n0 ρ bl (.exit i) s=jA K n0 ρ bl false (.done (.exit i)) s.σ:=rfl
theorem tZ {K:ae→ai→Prop} {n0:Nat} {ρ:gQ} {bl:Nat} {t:Bool} {s':gq}:jA K n0 ρ bl t s' σ=(bH σ bl=some (.loop (ρ.at .busy))∧∃ lO,iy lO (b_ σ bl (.loop (ρ.at s')))∧n0≤lO.length∧bw lO.length lO∧K (.bool t) lO):=rfl
theorem Yuo {tm cm:List ae}:pX tm [] cm=tm:=by cases cm<;>rfl
theorem Yqc {tm cm:List ae} {t:Tmp} {a:ae} {ts:List Tmp}:pX tm (t :: ts) (a :: cm)=pX (tm.set t a) ts cm:=rfl
theorem CG {ρ:gQ} {n:Nat} {r:ae} {σ:ai}:vY Q tm ρ n r σ = ∃ s,bH σ n=some (.loop (ρ.at s))∧pq Q tm (σ.set n none) s:=rfl
theorem Ej {σ:ai}:pq Q tm σ .ready=Q .normal ⟨tm,σ⟩:=rfl
theorem Yy7 {σ:ai}:pq Q tm σ (.done .ret)=Q .ret ⟨tm,σ⟩:=rfl
theorem Yt2 {n:Nat} {ρ:gQ} {s:gq}:bE.low n (.loop (ρ.at s))=bz n ρ.tm:=rfl
theorem fY {K:ae→ai→Prop} {n:Nat} {r:ae} {σ':ai}:mJ K n r σ' = ∃ lO,iy lO σ'∧n≤lO.length∧bw lO.length lO∧r.low lO.length∧K r lO:=rfl
attribute [go_sem] Yge Zo Yyt Yql Yuo Yqc Yt2
end
end Go.c8
