/- Part 39 of what the claim rests on. -/
import Derived.Test.YtfjbdamcmiglgaaGreatOwn38
import Derived.Laws.Externs
import Derived.MapKept
set_option linter.all false
abbrev se:=@Array.size_eq_one_iff
namespace Go.dq
open Go
def rv (q:Nat)(ks vs:List ah):ah->ah
 |.map b=>if b=q then .pm ks vs else .map b
 |a=>a
@[go_sem]theorem Xb8 {t u:TypeId}{x:ah}{ok:Bool}{l:fL}:SB t u x ok l .map=if t=u then some (if ok then .dw [x,.bool true] else x) else if ok then some (.dw [zeroV l,.bool false]) else none:=(Eq.refl _).trans rfl
section
variable {P:Program}{X:Nat->Nat->Prop}{base:Nat}{σ:av}{β β':Env}{w w':World}
theorem Qh {q:Nat} {ks vs:List ah} {fz:Bool} (hr:c8 X base σ β w) (hb : σ[q]? = some (some (.map ks vs fz))) {v:Value} {a:ah} (h:cn w (MT X σ β) β v a):cn w (MT X (σ.set q none) β) β v (rv q ks vs a):=by
 have hk:dK w (MT X σ β) w (MT X (σ.set q none) β):=dK.nr λg o h=>h.imp id CK;cases a with
 | map b =>
  simp only[rv];split
  ·rename_i e;subst e;cases h with
   | @map _ L hh =>
    obtain⟨L',q1,q2,q3,es,clk,q4,q5,q6,q7,q8,q9⟩:=hr.cG b _ hb;obtain rfl:=aS (q1.symm.trans hh);have hM:∀o,¬MT X (σ.set b none) β L'.g o:=by
     rintro o (hx|⟨c2,y,L2,m1,m2,m3,m4⟩)
     ·exact q3 _ hx
     ·obtain⟨n1,n2⟩:=DY m1;exact n1 (hr.inj c2 b y _ L2 L' n2 hb m2 q1 m3)
    exact .pm q4 (hM _) q5 q6 (λk eZ=>(q7 k eZ).mono hk (λ_ _ h=>h)) (λk eZ=>(q8 k eZ).mono hk (λ_ _ h=>h)) q9
  ·exact h.mono hk (λ_ _ h=>h)
 |_=>exact h.mono hk (λ_ _ h=>h)
theorem ak.CX {f:ah} {args:List ah} {K:ah->av->Prop} {q:Nat} {ks vs:List ah} {fz:Bool} (hb:bW σ q=some (.map ks vs fz))
  (h:ak P f (args.map (rv q ks vs)) (σ.set q none) K):ak P f args σ K:=by
 intro X base β w vf vV h1 ou h2 h3 fr cs h4;have oP:=la hb;have hk:dK w (MT X σ β) w (MT X (σ.set q none) β):=dK.nr λg o h=>h.imp id CK;have QB:c8 X base (σ.set q none) β w:=h1.less (λc x hc=>(DY hc).2) bg;obtain⟨r,σ',β',v,w',g0,g1,g2,g3,g4,g5⟩:=h X base β w vf vV QB (ou.mono hk (λ_ _ h=>h)) (by simpa using h2) (λk eZ=>by
  rw[ao]at eZ;have:=Qh h1 oP (h3 k eZ);simpa[dR,eZ] using this) fr cs h4
 refine⟨r,σ',β',v,w',g0,g1,g2,?_,by simpa using g4,g5⟩;exact⟨g3.os,g3.tape,g3.output,g3.size,λg o v hc hn=>g3.cell g o v hc (λhm=>hn (CK hm)),λg hg hn=>g3.block g hg (λo hm=>hn o (CK hm)),λg o hm=>(g3.jq g o hm).imp CK id,λb hb=>g3.env b (by simpa using hb)⟩
theorem Zo6 {r:Nat} {es:Array MapEntry} {clock:Nat} (t:TypeId) (hb:w.heap[r]? = some (.map es clock)) :
  (Extern.MapsClone.clone #[.iface t (.map (some r))]).run P w=.ok (.iface t (.map (some w.heap.size))) (w.alloc (.map es clock)):=by
 have e:Extern.MapsClone.clone #[.iface t (.map (some r))]=(getObj r >>= λo=>match o with
   |.map entries clock=>(newObj (.map entries clock) >>= λn=>pure (.iface t (.map (some n))))
   | _ => stuck "maps.clone: a map expected") := rfl
 rw[e];simp[MapKept.run_getObj_map hb,Result.andThen,go_sem]
theorem ak.zq {g : FuncId} {fn : Func} (hf : P.funcs[g]? = some fn) (fe : (fn.name == "runtime.NumGoroutine") = false) (hb : fn.body.isNone = true) (hn : Extern.findNext fn = none) (he : Extern.find fn = some Extern.MapsClone.clone)
  {t:TypeId} {ks vs:List ah} {K:ah->av->Prop} (hk:K (.iface t (.map σ.length)) (σ++[some (.map ks vs false)])):ak P (.fn g [] []) [.iface t (.pm ks vs)] σ K:=by
 refine ak.sh ?_;intro X base β w vV h1 h2 h3 fr cs h4;obtain⟨x,rfl⟩:∃x,vV = #[x]:=by
  simp at h2;exact se.1 h2
 have y8:=h3 0 (by simp);simp only[aY,bf,aV]at y8;have hx:(#[x]:Array Value).getD 0 undef=x:=rfl;rw[hx]at y8;cases y8 with
 | iface h5 =>
  cases h5 with
  | @pm g0 clk es _ _ hg hm vI pH qa po tv =>
   have fE:(callFunc g #[.iface t (.map (some g0))]).run P w=.ok (.value (.iface t (.map (some w.heap.size)))) (w.alloc (.map es clk)):=by
    rw[run_callFunc_extern hf fe hb hn he,Zo6 t hg];rfl
   obtain⟨v,w',β',o1,o2,o3,o4,o5,o6⟩:=BS (P:=P) h1 (h1.o_ σ.length (ae _)) (.map ks vs false) ks.length 1 (obj:=.map es clk) (w':=w.alloc (.map es clk)) rfl rfl rfl rfl (s:=callFunc g #[.iface t (.map (some g0))]) (v:=.iface t (.map (some w.heap.size))) (r:=.iface t (.map σ.length)) fE
    (λM' β' eZ hβ=>⟨es,clk,Aa w _,vI,pH,λk tB=>(qa k tB).mono eZ hβ,λk tB=>(po k tB).mono eZ hβ,tv⟩) (λM'=>.iface (.map (L:=⟨w.heap.size,0,ks.length,1⟩) (wv _ _ _)))
   rw[DW]at o2 o3 o4;have JR:(callFunc g #[.iface t (.map (some g0))]).run P w=.ok (.value v) w':=by
    rcases o1 with o1|⟨o1,_⟩
    ·exact o1
    ·rw[fE]at o1;cases o1
   refine⟨_,_,β',v,w',hk,o2,o3,⟨o4.os,o4.tape,o4.output,o4.size,o4.cell,o4.block,o4.jq,λb hb=>o5 b (by omega)⟩,by simp,fr.finish v,cs,w',?_,.refl _ _⟩;simp only[stepG.apply,if_true,Sem.runT_eq,JR,GStep.bare_after,GStep.bare_go]
end
end Go.dq
