/- Part 12 of my own framework and of the walks of functions: AbsN. -/
import Derived.Test.YtfjbdamcmiglgaaGreatOwn11
set_option linter.unusedVariables false
set_option linter.unusedSectionVars false
set_option linter.unusedSimpArgs false
namespace Go.c8
open Go
def Hw (σ:ai):ae→Option ae
 | .os b off n sz=>match bH σ b with
  | some (.row es _)=>if off+n≤es.length then some (.ps sz ((es.drop off).take n)) else none
  | _=>none
 | .map b=>match bH σ b with
  | some (.map ks vs _)=>some (.pm ks vs)
  | _=>none
 | a=>some a
def Hx (σ:ai):List ae→Option (List ae)
 | []=>some []
 | a :: cm=>(Hw σ a).bind fun x=>(Hx σ cm).map (x :: ·)
def Hv (σ:ai):ae→Option ae
 | .agg cs=>(Hx σ cs).map .agg
 | a=>Hw σ a
def B3 (σ:ai):List ae→Option (List ae)
 | []=>some []
 | a :: cm=>(Hv σ a).bind fun x=>(B3 σ cm).map (x :: ·)
def aov (σ:ai):ae→Option ae
 | .dA vs=>(B3 σ vs).map .dA
 | a=>Hv σ a
def bE.xA:bE→bE→Prop
 | .row es fz, .row rY fz'=>es=rY∧fz≤fz'
 | .map ks vs f, .map u_ tx f'=>ks=u_∧vs=tx∧(f=true→f'=true)
 | a,b=>a=b
theorem bE.uq (b:bE):b.xA b:=by cases b<;>simp [bE.xA]
structure HA (σ ll:ai):Prop where
 len : ll.length = σ.length
 to:∀ (b:Nat) (x:bE),σ[b]? = some (some x)→∃ y,ll[b]? = some (some y)∧x.xA y
 from_:∀ (b:Nat) (y:bE),ll[b]? = some (some y)→∃ x,σ[b]? = some (some x)∧x.xA y
section
variable {P:Program} {X:Nat→Nat→Prop} {base:Nat} {σ ll:ai} {β:Env} {w:World}
theorem ja.oH (hf:HA σ ll) {g o:Nat} (h:ja ll β g o):ja σ β g o:=by
 obtain ⟨b,y,L,h1,h2,h3,h4⟩:=h
 obtain ⟨x,h5,h6⟩:=hf.from_ b y h1
 refine ⟨b,x,L,h5,h2,h3,?_⟩
 cases x<;>cases y<;>simp [bE.xA,bE.mut] at h6 h4 ⊢
 ·have : _:=aX L.sz h6.2;omega
 ·rename_i f _ _ f'
  cases f with
  | false=>rfl
  | true=>rw [h6.2.2 rfl] at h4;cases h4
theorem Bo (hf:HA σ ll):di w (MT X σ β) w (MT X ll β):=di.l5 fun g o h=>h.imp id fun hm=>hm.oH hf
theorem cH.oH (hr:cH X base σ β w) (hf:HA σ ll):cH X base ll β w:=by
 refine ⟨fun b hb=>hr.nO b (by rw [← hf.len];exact hb),fun b y hb=>?_,fun b b' y y' L L' h1 h2 h3 h4 hg=>?_,hr.size,hr.qd,hr.gl⟩
 ·obtain ⟨x,h1,h2⟩:=hf.from_ b y hb
  obtain ⟨L,q1,q2,q3,q4⟩:=hr.cg b x h1
  refine ⟨L,q1,q2,q3,?_⟩
  have q5:=q4.mono (Bo (X:=X) hf) (fun _ _ h=>h) rfl
  cases x<;>cases y<;>simp [bE.xA] at h2
  ·subst h2;exact q5
  ·obtain ⟨rfl,_⟩:=h2;exact q5
  ·obtain ⟨rfl,rfl,_⟩:=h2;exact q5
  ·obtain ⟨rfl,rfl⟩:=h2;exact q5
  ·obtain ⟨rfl,rfl,rfl⟩:=h2;exact q5
  ·subst h2;exact q5
 ·obtain ⟨x,q1,_⟩:=hf.from_ b y h1
  obtain ⟨x',q2,_⟩:=hf.from_ b' y' h2
  exact hr.inj b b' x x' L L' q1 q2 h3 h4 hg
theorem cH.kept {w':World} (hr:cH X base σ β w) (ph:w.heap.size≤w'.heap.size) (hb:∀ g,g<w.heap.size→w'.heap[g]? = w.heap[g]?) :
  cH X base σ β w'∧di w (MT X σ β) w' (MT X σ β):=by
 have hk:di w (MT X σ β) w' (MT X σ β):=by
  refine ⟨fun g o v hc hn=>⟨?_,hn⟩,fun g es c hg hn=>⟨?_,hn⟩⟩
  ·rw [World.cell?_of_block (w:=w) (a:=⟨g,o,none⟩) (hb g (xT hc))];exact hc
  ·exact (hb g (aL.1 hg).1).trans hg
 refine ⟨⟨hr.nO,fun b y hy=>?_,hr.inj,cV hr.size ph,fun g o hx=>cX (hr.qd g o hx) ph,hr.gl.same hb⟩,hk⟩
 obtain ⟨L,q1,q2,q3,q4⟩:=hr.cg b y hy
 exact ⟨L,q1,q2,q3,q4.mono hk (fun _ _ h=>h) (hb L.g q4.lt)⟩
def bX:ae→Bool
 | .undef | .bool _ | .int _ _ | .str _ | .bN | .aU | .az | .cC | .fR | .ps _ []=>true
 | _=>false
def bY:ae→Bool
 | .agg cs=>cs.all bX
 | a=>bX a
def bP:ae→Bool
 | .dA vs=>vs.all bY
 | a=>bY a
theorem S8 {M M':Nat→Nat→Prop} {β':Env} {v:Value} {a:ae} (h:bS w M β v a) (hf:bX a=true):bS w M' β' v a:=by
 cases a<;>simp only [bX,a_] at hf
 ·exact .undef _
 ·cases h;exact .bool _
 ·cases h;exact .int _ _
 ·cases h;exact .str _
 ·cases h;exact .bN
 ·cases h;exact .aU _
 ·rename_i sz es
  cases es with
  | nil=>cases h with | ps cv jr fH hc ha hr=>exact .ps cv jr (fun i hi=>by simp at hi) (fun i j hi=>by simp at hi) (fun h0=>by simp at h0) (fun i j hi=>by simp at hi)
  | cons e es=>simp [bX] at hf
 ·cases h;exact .az
 ·cases h;exact .cC
 ·cases h;exact .fR
theorem Tn {M M':Nat→Nat→Prop} {β':Env} {v:Value} {a:ae} (h:bS w M β v a) (hf:bY a=true):bS w M' β' v a:=by
 cases a with
 | agg cs =>
  cases h with
  | agg hn hr =>
   refine .agg hn fun k hk=>S8 (hr k hk) ?_
   simp only [bY,bj] at hf
   exact hf _ (by simp only [List.getD,aA hk,br];exact aE hk)
 | _=>exact S8 h hf
theorem S0 {M M':Nat→Nat→Prop} {β':Env} {v:Value} {a:ae} (h:bS w M β v a) (hf:bP a=true):bS w M' β' v a:=by
 cases a with
 | dA cs =>
  cases h with
  | dA hn hr =>
   refine .dA hn fun k hk=>Tn (hr k hk) ?_
   simp only [bP,bj] at hf
   exact hf _ (by simp only [List.getD,aA hk,br];exact aE hk)
 | _=>exact Tn h hf
def aJ (P:Program) (g:FuncId) (args:List ae) (r:ae):Prop:=bT P g args [] (fun r' σ'=>r'=r∧σ'=[])∧r.low 0
theorem Ew {β:Env} {g o:Nat}:¬ ja [] β g o:=by rintro ⟨b,x,L,h,_⟩;simp at h
theorem Zpv {vs:Array Value} {k:Nat}:vs.toList.getD k undef=vs.getD k undef:=by simp [List.getD,aj]
end
end Go.c8
