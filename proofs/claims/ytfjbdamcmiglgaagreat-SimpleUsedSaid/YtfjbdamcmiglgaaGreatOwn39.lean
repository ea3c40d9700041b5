/- Part 39 of my own framework and of the walks of functions: AcsN. -/
import Derived.Test.YtfjbdamcmiglgaaGreatOwn38
import Derived.Laws.Externs
import Derived.MapKept
abbrev p7:=@Array.size_eq_one_iff
set_option linter.unusedVariables false
set_option linter.unusedSectionVars false
set_option linter.unusedSimpArgs false
namespace Go.cV
open Go
def pF (q:Nat) (ks vs:List ae):ae→ae
 | .map b=>if b=q then .pm ks vs else .map b
 | a=>a
@[go_sem] theorem Xau {t u:TypeId} {x:ae} {ok:Bool} {l:eI}:N9 t u x ok l .map=if t=u then some (if ok then .dy [x, .bool true] else x) else if ok then some (.dy [zeroV l, .bool false]) else none:=(Eq.refl _).trans rfl
section
variable {P:Program} {X:Nat→Nat→Prop} {base:Nat} {σ:ai} {β β':Env} {w w':World}
theorem LU {q:Nat} {ks vs:List ae} {fz:Bool} (hr:cF X base σ β w) (hb : σ[q]? = some (some (.map ks vs fz))) {v:Value} {a:ae} (h:bR w (MT X σ β) β v a):bR w (MT X (σ.set q none) β) β v (pF q ks vs a):=by
 have hk:dg w (MT X σ β) w (MT X (σ.set q none) β):=dg.lM fun g o h=>h.imp id zY
 cases a with
 | map b =>
  simp only [pF]
  split
  ·rename_i e
   subst e
   cases h with
   | @map _ L hh =>
    obtain ⟨L',q1,q2,q3,es,clk,q4,q5,q6,q7,q8,q9⟩:=hr.cf b _ hb
    obtain rfl:=aM (q1.symm.trans hh)
    have hM:∀ o, ¬ MT X (σ.set b none) β L'.g o:=by
     rintro o (hx | ⟨c2,y,L2,m1,m2,m3,m4⟩)
     ·exact q3 _ hx
     ·obtain ⟨n1,n2⟩:=Em m1
      exact n1 (hr.inj c2 b y _ L2 L' n2 hb m2 q1 m3)
    exact .pm q4 (hM _) q5 q6 (fun k eA=>(q7 k eA).mono hk (fun _ _ h=>h)) (fun k eA=>(q8 k eA).mono hk (fun _ _ h=>h)) q9
  ·exact h.mono hk (fun _ _ h=>h)
 | _=>exact h.mono hk (fun _ _ h=>h)
theorem aq.Ai {f:ae} {args:List ae} {K:ae→ai→Prop} {q:Nat} {ks vs:List ae} {fz:Bool} (hb:bF σ q=some (.map ks vs fz))
  (h:aq P f (args.map (pF q ks vs)) (σ.set q none) K):aq P f args σ K:=by
 intro X base β w vf s_ h1 nD h2 h3 fr cs h4
 have mY:=jU hb
 have hk:dg w (MT X σ β) w (MT X (σ.set q none) β):=dg.lM fun g o h=>h.imp id zY
 have Mb:cF X base (σ.set q none) β w:=h1.less (fun c x hc=>(Em hc).2) bh
 obtain ⟨r,σ',β',v,w',g0,g1,g2,g3,g4,g5⟩:=h X base β w vf s_ Mb (nD.mono hk (fun _ _ h=>h)) (by simpa using h2) (fun k eA=>by
  rw [ao] at eA
  have:=LU h1 mY (h3 k eA)
  simpa [dm,eA] using this) fr cs h4
 refine ⟨r,σ',β',v,w',g0,g1,g2,?_,by simpa using g4,g5⟩
 exact ⟨g3.os,g3.tape,g3.output,g3.size,fun g o v hc hn=>g3.cell g o v hc (fun hm=>hn (zY hm)),fun g hg hn=>g3.block g hg (fun o hm=>hn o (zY hm)),fun g o hm=>(g3.iC g o hm).imp zY id,fun b hb=>g3.env b (by simpa using hb)⟩
theorem Zma {r:Nat} {es:Array MapEntry} {clock:Nat} (t:TypeId) (hb:w.heap[r]? = some (.map es clock)) :
  (Extern.MapsClone.clone #[.iface t (.map (some r))]).run P w = .ok (.iface t (.map (some w.heap.size))) (w.alloc (.map es clock)):=by
 have e:Extern.MapsClone.clone #[.iface t (.map (some r))]=(getObj r >>= fun o=>match o with
   | .map entries clock=>(newObj (.map entries clock) >>= fun n=>pure (.iface t (.map (some n))))
   | _ => stuck "maps.clone: a map expected") := rfl
 rw [e]
 simp [MapKept.run_getObj_map hb,Result.andThen,go_sem]
theorem aq.w8 {g : FuncId} {fn : Func} (hf : P.funcs[g]? = some fn) (eE : (fn.name == "runtime.NumGoroutine") = false) (hb : fn.body.isNone = true) (hn : Extern.findNext fn = none) (he : Extern.find fn = some Extern.MapsClone.clone)
  {t:TypeId} {ks vs:List ae} {K:ae→ai→Prop} (hk:K (.iface t (.map σ.length)) (σ++[some (.map ks vs false)])):aq P (.fn g [] []) [.iface t (.pm ks vs)] σ K:=by
 refine aq.sh ?_
 intro X base β w s_ h1 h2 h3 fr cs h4
 obtain ⟨x,rfl⟩:∃ x,s_ = #[x]:=by
  simp at h2
  exact p7.1 h2
 have wR:=h3 0 (by simp)
 simp only [bf,bn,bg] at wR
 have hx:(#[x]:Array Value).getD 0 undef=x:=rfl
 rw [hx] at wR
 cases wR with
 | iface h5 =>
  cases h5 with
  | @pm g0 clk es _ _ hg hm vz qP ou nH qM =>
   have eO:(callFunc g #[.iface t (.map (some g0))]).run P w = .ok (.value (.iface t (.map (some w.heap.size)))) (w.alloc (.map es clk)):=by
    rw [run_callFunc_extern hf eE hb hn he,Zma t hg];rfl
   obtain ⟨v,w',β',o1,o2,o3,o4,o5,o6⟩:=zb (P:=P) h1 (h1.nC σ.length (ah _)) (.map ks vs false) ks.length 1 (obj:=.map es clk) (w':=w.alloc (.map es clk)) rfl rfl rfl rfl (s:=callFunc g #[.iface t (.map (some g0))]) (v:=.iface t (.map (some w.heap.size))) (r:=.iface t (.map σ.length)) eO
    (fun M' β' eA hβ=>⟨es,clk,xG w _,vz,qP,fun k sN=>(ou k sN).mono eA hβ,fun k sN=>(nH k sN).mono eA hβ,qM⟩) (fun M'=>.iface (.map (L:=⟨w.heap.size,0,ks.length,1⟩) (tI _ _ _)))
   rw [Bf] at o2 o3 o4
   have GK:(callFunc g #[.iface t (.map (some g0))]).run P w = .ok (.value v) w':=by
    rcases o1 with o1 | ⟨o1,_⟩
    ·exact o1
    ·rw [eO] at o1;cases o1
   refine ⟨_,_,β',v,w',hk,o2,o3,⟨o4.os,o4.tape,o4.output,o4.size,o4.cell,o4.block,o4.iC,fun b hb=>o5 b (by omega)⟩,by simp,fr.finish v,cs,w',?_, .refl _ _⟩
   simp only [stepG.apply,if_true,Sem.runT_eq,GK,GStep.bare_after,GStep.bare_go]
end
end Go.cV
