/- Part 39 of my own framework and of the walks of functions: AcsN. -/
import Derived.Test.YtfjbdamcmiglgaaGreatOwn38
import Derived.Laws.Externs
import Derived.MapKept
abbrev qe:=@Array.size_eq_one_iff
set_option linter.unusedVariables false
set_option linter.unusedSectionVars false
set_option linter.unusedSimpArgs false
namespace Go.c8
open Go
def pN (q:Nat) (ks vs:List ae):ae→ae
 | .map b=>if b=q then .pm ks vs else .map b
 | a=>a
@[go_sem] theorem Xb5 {t u:TypeId} {x:ae} {ok:Bool} {l:eM}:OB t u x ok l .map=if t=u then some (if ok then .dA [x, .bool true] else x) else if ok then some (.dA [zeroV l, .bool false]) else none:=(Eq.refl _).trans rfl
section
variable {P:Program} {X:Nat→Nat→Prop} {base:Nat} {σ:ai} {β β':Env} {w w':World}
theorem Ml {q:Nat} {ks vs:List ae} {fz:Bool} (hr:cH X base σ β w) (hb : σ[q]? = some (some (.map ks vs fz))) {v:Value} {a:ae} (h:bS w (MT X σ β) β v a):bS w (MT X (σ.set q none) β) β v (pN q ks vs a):=by
 have hk:di w (MT X σ β) w (MT X (σ.set q none) β):=di.l5 fun g o h=>h.imp id Ai
 cases a with
 | map b =>
  simp only [pN]
  split
  ·rename_i e
   subst e
   cases h with
   | @map _ L hh =>
    obtain ⟨L',q1,q2,q3,es,clk,q4,q5,q6,q7,q8,q9⟩:=hr.cg b _ hb
    obtain rfl:=aN (q1.symm.trans hh)
    have hM:∀ o, ¬ MT X (σ.set b none) β L'.g o:=by
     rintro o (hx | ⟨c2,y,L2,m1,m2,m3,m4⟩)
     ·exact q3 _ hx
     ·obtain ⟨n1,n2⟩:=Eu m1
      exact n1 (hr.inj c2 b y _ L2 L' n2 hb m2 q1 m3)
    exact .pm q4 (hM _) q5 q6 (fun k eE=>(q7 k eE).mono hk (fun _ _ h=>h)) (fun k eE=>(q8 k eE).mono hk (fun _ _ h=>h)) q9
  ·exact h.mono hk (fun _ _ h=>h)
 | _=>exact h.mono hk (fun _ _ h=>h)
theorem aq.Az {f:ae} {args:List ae} {K:ae→ai→Prop} {q:Nat} {ks vs:List ae} {fz:Bool} (hb:bH σ q=some (.map ks vs fz))
  (h:aq P f (args.map (pN q ks vs)) (σ.set q none) K):aq P f args σ K:=by
 intro X base β w vf tx h1 nP h2 h3 fr cs h4
 have nn:=j_ hb
 have hk:di w (MT X σ β) w (MT X (σ.set q none) β):=di.l5 fun g o h=>h.imp id Ai
 have ME:cH X base (σ.set q none) β w:=h1.less (fun c x hc=>(Eu hc).2) bg
 obtain ⟨r,σ',β',v,w',g0,g1,g2,g3,g4,g5⟩:=h X base β w vf tx ME (nP.mono hk (fun _ _ h=>h)) (by simpa using h2) (fun k eE=>by
  rw [ak] at eE
  have:=Ml h1 nn (h3 k eE)
  simpa [dp,eE] using this) fr cs h4
 refine ⟨r,σ',β',v,w',g0,g1,g2,?_,by simpa using g4,g5⟩
 exact ⟨g3.os,g3.tape,g3.output,g3.size,fun g o v hc hn=>g3.cell g o v hc (fun hm=>hn (Ai hm)),fun g hg hn=>g3.block g hg (fun o hm=>hn o (Ai hm)),fun g o hm=>(g3.iL g o hm).imp Ai id,fun b hb=>g3.env b (by simpa using hb)⟩
theorem Zmo {r:Nat} {es:Array MapEntry} {clock:Nat} (t:TypeId) (hb:w.heap[r]? = some (.map es clock)) :
  (Extern.MapsClone.clone #[.iface t (.map (some r))]).run P w = .ok (.iface t (.map (some w.heap.size))) (w.alloc (.map es clock)):=by
 have e:Extern.MapsClone.clone #[.iface t (.map (some r))]=(getObj r >>= fun o=>match o with
   | .map entries clock=>(newObj (.map entries clock) >>= fun n=>pure (.iface t (.map (some n))))
   | _ => stuck "maps.clone: a map expected") := rfl
 rw [e]
 simp [MapKept.run_getObj_map hb,Result.andThen,go_sem]
theorem aq.xi {g : FuncId} {fn : Func} (hf : P.funcs[g]? = some fn) (eI : (fn.name == "runtime.NumGoroutine") = false) (hb : fn.body.isNone = true) (hn : Extern.findNext fn = none) (he : Extern.find fn = some Extern.MapsClone.clone)
  {t:TypeId} {ks vs:List ae} {K:ae→ai→Prop} (hk:K (.iface t (.map σ.length)) (σ++[some (.map ks vs false)])):aq P (.fn g [] []) [.iface t (.pm ks vs)] σ K:=by
 refine aq.sh ?_
 intro X base β w tx h1 h2 h3 fr cs h4
 obtain ⟨x,rfl⟩:∃ x,tx = #[x]:=by
  simp at h2
  exact qe.1 h2
 have w6:=h3 0 (by simp)
 simp only [bh,bq,bm] at w6
 have hx:(#[x]:Array Value).getD 0 undef=x:=rfl
 rw [hx] at w6
 cases w6 with
 | iface h5 =>
  cases h5 with
  | @pm g0 clk es _ _ hg hm vK qY oJ nS qV =>
   have eS:(callFunc g #[.iface t (.map (some g0))]).run P w = .ok (.value (.iface t (.map (some w.heap.size)))) (w.alloc (.map es clk)):=by
    rw [run_callFunc_extern hf eI hb hn he,Zmo t hg];rfl
   obtain ⟨v,w',β',o1,o2,o3,o4,o5,o6⟩:=zo (P:=P) h1 (h1.nO σ.length (ah _)) (.map ks vs false) ks.length 1 (obj:=.map es clk) (w':=w.alloc (.map es clk)) rfl rfl rfl rfl (s:=callFunc g #[.iface t (.map (some g0))]) (v:=.iface t (.map (some w.heap.size))) (r:=.iface t (.map σ.length)) eS
    (fun M' β' eE hβ=>⟨es,clk,xQ w _,vK,qY,fun k sY=>(oJ k sY).mono eE hβ,fun k sY=>(nS k sY).mono eE hβ,qV⟩) (fun M'=>.iface (.map (L:=⟨w.heap.size,0,ks.length,1⟩) (tW _ _ _)))
   rw [Bu] at o2 o3 o4
   have Ha:(callFunc g #[.iface t (.map (some g0))]).run P w = .ok (.value v) w':=by
    rcases o1 with o1 | ⟨o1,_⟩
    ·exact o1
    ·rw [eS] at o1;cases o1
   refine ⟨_,_,β',v,w',hk,o2,o3,⟨o4.os,o4.tape,o4.output,o4.size,o4.cell,o4.block,o4.iL,fun b hb=>o5 b (by omega)⟩,by simp,fr.finish v,cs,w',?_, .refl _ _⟩
   simp only [stepG.apply,if_true,Sem.runT_eq,Ha,GStep.bare_after,GStep.bare_go]
end
end Go.c8
