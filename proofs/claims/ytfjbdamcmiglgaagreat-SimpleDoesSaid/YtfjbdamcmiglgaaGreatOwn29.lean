/- Part 29 of what the claim rests on. -/
import Derived.Test.YtfjbdamcmiglgaaGreatOwn28
set_option linter.all false
namespace Go.dq
open Go
section
variable {P:Program}{lo:Ctx}{Q:cB->St->Prop}{σ:av}{tm:List ah}
theorem aC.rangeFunc {k:List KI} {f:Operand} {ps:Array Tmp} {assign body:Code} (Ci:List ah) (hL:nA Ci tm) (fA:∀b0,lo.ro=some b0->∃r,bW σ b0=some (.loop r))
  (h:∀ρ:iR,ρ.tm=Ci->ρ.params=ps->ρ.assign=assign->ρ.body=body->ak P (ev tm f) [.ni σ.length] (σ++[some (.loop (ρ.at .ready))]) (yc (λe s=>aC P lo Q k e s) tm ρ σ.length)) :
  aC P lo Q (.code (.rangeFunc f ps assign body):: k) .normal ⟨tm,σ⟩ :=
 jn.rangeFunc (st:=⟨tm,σ⟩) Ci hL fA h
def IG (P:Program)(K:ah->av->Prop)(n0:Nat)(ρ:iR)(bl:Nat)(n:Nat)(body:Code)(e:cB)(s:St):Prop :=
 match e with
 |.normal=>bW s.σ bl=some (.loop (ρ.at .ready))/\fx P ⟨n0,some bl⟩ (rf K n0 ρ bl) n [.code body] .normal s.tm (cJ s.σ bl (.loop (ρ.at .busy)))
 |_=>False
theorem ak.m8 {bl:Nat} {ρ:iR} {args:List ah} {K:ah->av->Prop} {Ci:List ah} {ps:Array Tmp} {assign body:Code} (n:Nat) (ht : ρ.tm=Ci) (hp : ρ.params=ps) (ha : ρ.assign=assign) (hb : ρ.body=body)
  (hs:bW σ bl=some (.loop (ρ.at .ready))) (hn:ps.size=args.length)
  (h:fx P ⟨σ.length,some bl⟩ (IG P K σ.length ρ bl n body) n [.code assign] .normal (rJ Ci ps.toList args) σ):ak P (.ni bl) args σ K:=by
 subst ht hp ha hb;refine ak.yield hs hn (jn.mono (EO n _ _ _ _ h) λe s q=>?_);cases e with
 |normal=>exact⟨q.1,jn.mono (EO n _ _ _ _ q.2) λe s q=>q⟩
 |exit id=>exact q
 |goto l=>exact q
 |ret=>exact q
 |panic u=>exact q
def mI (K:ah->av->Prop)(n:Nat)(r:ah)(σ':av):Prop:=∃mP,ic mP σ'/\n<=mP.length/\bH mP.length mP/\r.low mP.length/\K r mP
theorem cj.drop {F:Frame->List Frame->Sem Next->World->Value->World->Prop}{g:FuncId}{args:List ah}{K:ah->av->Prop}(h:iZ P F g args σ (mI K σ.length)):iZ P F g args σ K:=by
 intro X base β w vs h1 h2 h3 fr cs h4;obtain⟨r,σ',β',v,w',⟨mP,k1,k2,k3,k4,k5⟩,g1,g2,g3,g4,g5⟩:=h X base β w vs h1 h2 h3 fr cs h4;exact⟨r,mP,_,v,w',k5,g1.drop (xe k1) rfl (sq k3),g2.drop (xe k1) rfl k4,g3.drop (xe k1) rfl k2,k2,g5⟩
theorem ak.begin {g:FuncId} {fn:Func} {c:Code} {first captured args all:List ah} {K:ah->av->Prop} {m:Nat} {rs:List ResultVar} (n:Nat) (hf:P.funcs[g]? = some fn) (hb:fn.body=some c) (hr:fn.results.toList=rs)
  (fj : first ++ args ++ captured = all) (hm : fn.ntmps - all.length = m) (fe : (fn.name == "runtime.NumGoroutine") = false)
  (h:fx P ⟨σ.length,none⟩ (rL P rs (mI K σ.length)) n [.code c] .normal (all++List.replicate m .undef) σ):ak P (.fn g first captured) args σ K :=
 ak.sh (by rw[fj];exact cj.drop (cj.start n hf hb hr hm fe h))
theorem Yir {K:ah->av->Prop}{n0:Nat}{ρ:iR}{bl n:Nat}{body:Code}{s:St}:IG P K n0 ρ bl n body .normal s=(bW s.σ bl=some (.loop (ρ.at .ready))/\fx P ⟨n0,some bl⟩ (rf K n0 ρ bl) n [.code body] .normal s.tm (cJ s.σ bl (.loop (ρ.at .busy)))):=rfl
theorem Ye8 {K:ah->av->Prop}{n0:Nat}{ρ:iR}{bl:Nat}{s:St}:rf K n0 ρ bl .normal s=kg K n0 ρ bl true .ready s.σ:=rfl
theorem Yxn {K:ah->av->Prop}{n0:Nat}{ρ:iR}{bl:Nat}{s:St}:rf K n0 ρ bl .ret s=kg K n0 ρ bl false (.done .ret) s.σ:=rfl
theorem Yv3 {K:ah->av->Prop}{n0:Nat}{ρ:iR}{bl i:Nat}{s:St}:rf K n0 ρ bl (.exit i) s=kg K n0 ρ bl false (.done (.exit i)) s.σ:=rfl
theorem wB {K:ah->av->Prop}{n0:Nat}{ρ:iR}{bl:Nat}{t:Bool}{s':il}:kg K n0 ρ bl t s' σ=(bW σ bl=some (.loop (ρ.at .busy))/\∃mP,ic mP (cJ σ bl (.loop (ρ.at s')))/\n0<=mP.length/\bH mP.length mP/\K (.bool t) mP):=rfl
theorem Yx6 {tm cI:List ah}:rJ tm [] cI=tm:=by cases cI<;>rfl
theorem Yqv {tm cI:List ah}{t:Tmp}{a:ah}{ts:List Tmp}:rJ tm (t :: ts) (a :: cI)=rJ (tm.set t a) ts cI:=rfl
theorem E3 {ρ:iR}{n:Nat}{r:ah}{σ:av}:yc Q tm ρ n r σ = ∃s,bW σ n=some (.loop (ρ.at s))/\qK Q tm (σ.set n none) s:=rfl
theorem G0 {σ:av}:qK Q tm σ .ready=Q .normal ⟨tm,σ⟩:=rfl
theorem Yy2 {σ:av}:qK Q tm σ (.done .ret)=Q .ret ⟨tm,σ⟩:=rfl
theorem Ytv {n:Nat}{ρ:iR}{s:il}:bS.low n (.loop (ρ.at s))=bG n ρ.tm:=rfl
theorem gy {K:ah->av->Prop}{n:Nat}{r:ah}{σ':av}:mI K n r σ' = ∃mP,ic mP σ'/\n<=mP.length/\bH mP.length mP/\r.low mP.length/\K r mP:=rfl
attribute [go_sem] Yir Ye8 Yxn Yv3 Yx6 Yqv Ytv
end
end Go.dq
