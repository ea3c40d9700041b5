/- Part 12 of my own framework and of the walks of functions: AbsN. -/
import Derived.Test.YtfjbdamcmiglgaaGreatOwn11
set_option linter.unusedVariables false
set_option linter.unusedSectionVars false
set_option linter.unusedSimpArgs false
namespace Go.c8
open Go
def G3 (σ:ai):ae→Option ae
 | .os b off n sz=>match bG σ b with
  | some (.row es _)=>if off+n≤es.length then some (.ps sz ((es.drop off).take n)) else none
  | _=>none
 | .map b=>match bG σ b with
  | some (.map ks vs _)=>some (.pm ks vs)
  | _=>none
 | a=>some a
def G4 (σ:ai):List ae→Option (List ae)
 | []=>some []
 | a :: cj=>(G3 σ a).bind fun x=>(G4 σ cj).map (x :: ·)
def G2 (σ:ai):ae→Option ae
 | .agg cs=>(G4 σ cs).map .agg
 | a=>G3 σ a
def BM (σ:ai):List ae→Option (List ae)
 | []=>some []
 | a :: cj=>(G2 σ a).bind fun x=>(BM σ cj).map (x :: ·)
def am3 (σ:ai):ae→Option ae
 | .dz vs=>(BM σ vs).map .dz
 | a=>G2 σ a
def bE.xh:bE→bE→Prop
 | .row es fz, .row rC fz'=>es=rC∧fz≤fz'
 | .map ks vs f, .map uK sR f'=>ks=uK∧vs=sR∧(f=true→f'=true)
 | a,b=>a=b
theorem bE.tM (b:bE):b.xh b:=by cases b<;>simp [bE.xh]
structure G7 (σ kW:ai):Prop where
 len : kW.length = σ.length
 to:∀ (b:Nat) (x:bE),σ[b]? = some (some x)→∃ y,kW[b]? = some (some y)∧x.xh y
 from_:∀ (b:Nat) (y:bE),kW[b]? = some (some y)→∃ x,σ[b]? = some (some x)∧x.xh y
section
variable {P:Program} {X:Nat→Nat→Prop} {base:Nat} {σ kW:ai} {β:Env} {w:World}
theorem iO.oi (hf:G7 σ kW) {g o:Nat} (h:iO kW β g o):iO σ β g o:=by
 obtain ⟨b,y,L,h1,h2,h3,h4⟩:=h
 obtain ⟨x,h5,h6⟩:=hf.from_ b y h1
 refine ⟨b,x,L,h5,h2,h3,?_⟩
 cases x<;>cases y<;>simp [bE.xh,bE.mut] at h6 h4 ⊢
 ·have : _:=aX L.sz h6.2;omega
 ·rename_i f _ _ f'
  cases f with
  | false=>rfl
  | true=>rw [h6.2.2 rfl] at h4;cases h4
theorem A7 (hf:G7 σ kW):df w (MT X σ β) w (MT X kW β):=df.lP fun g o h=>h.imp id fun hm=>hm.oi hf
theorem cC.oi (hr:cC X base σ β w) (hf:G7 σ kW):cC X base kW β w:=by
 refine ⟨fun b hb=>hr.nA b (by rw [← hf.len];exact hb),fun b y hb=>?_,fun b b' y y' L L' h1 h2 h3 h4 hg=>?_,hr.size,hr.pW,hr.gl⟩
 ·obtain ⟨x,h1,h2⟩:=hf.from_ b y hb
  obtain ⟨L,q1,q2,q3,q4⟩:=hr.cd b x h1
  refine ⟨L,q1,q2,q3,?_⟩
  have q5:=q4.mono (A7 (X:=X) hf) (fun _ _ h=>h) rfl
  cases x<;>cases y<;>simp [bE.xh] at h2
  ·subst h2;exact q5
  ·obtain ⟨rfl,_⟩:=h2;exact q5
  ·obtain ⟨rfl,rfl,_⟩:=h2;exact q5
  ·obtain ⟨rfl,rfl⟩:=h2;exact q5
  ·obtain ⟨rfl,rfl,rfl⟩:=h2;exact q5
  ·subst h2;exact q5
 ·obtain ⟨x,q1,_⟩:=hf.from_ b y h1
  obtain ⟨x',q2,_⟩:=hf.from_ b' y' h2
  exact hr.inj b b' x x' L L' q1 q2 h3 h4 hg
theorem cC.kept {w':World} (hr:cC X base σ β w) (oS:w.heap.size≤w'.heap.size) (hb:∀ g,g<w.heap.size→w'.heap[g]? = w.heap[g]?) :
  cC X base σ β w'∧df w (MT X σ β) w' (MT X σ β):=by
 have hk:df w (MT X σ β) w' (MT X σ β):=by
  refine ⟨fun g o v hc hn=>⟨?_,hn⟩,fun g es c hg hn=>⟨?_,hn⟩⟩
  ·rw [World.cell?_of_block (w:=w) (a:=⟨g,o,none⟩) (hb g (xC hc))];exact hc
  ·exact (hb g (aL.1 hg).1).trans hg
 refine ⟨⟨hr.nA,fun b y hy=>?_,hr.inj,cP hr.size oS,fun g o hx=>cQ (hr.pW g o hx) oS,hr.gl.same hb⟩,hk⟩
 obtain ⟨L,q1,q2,q3,q4⟩:=hr.cd b y hy
 exact ⟨L,q1,q2,q3,q4.mono hk (fun _ _ h=>h) (hb L.g q4.lt)⟩
def bW:ae→Bool
 | .undef | .bool _ | .int _ _ | .str _ | .bM | .aU | .az | .cw | .fC | .ps _ []=>true
 | _=>false
def bX:ae→Bool
 | .agg cs=>cs.all bW
 | a=>bW a
def bO:ae→Bool
 | .dz vs=>vs.all bX
 | a=>bX a
theorem Sb {M M':Nat→Nat→Prop} {β':Env} {v:Value} {a:ae} (h:bR w M β v a) (hf:bW a=true):bR w M' β' v a:=by
 cases a<;>simp only [bW,a8] at hf
 ·exact .undef _
 ·cases h;exact .bool _
 ·cases h;exact .int _ _
 ·cases h;exact .str _
 ·cases h;exact .bM
 ·cases h;exact .aU _
 ·rename_i sz es
  cases es with
  | nil=>cases h with | ps cv jd fF hc ha hr=>exact .ps cv jd (fun i hi=>by simp at hi) (fun i j hi=>by simp at hi) (fun h0=>by simp at h0) (fun i j hi=>by simp at hi)
  | cons e es=>simp [bW] at hf
 ·cases h;exact .az
 ·cases h;exact .cw
 ·cases h;exact .fC
theorem RR {M M':Nat→Nat→Prop} {β':Env} {v:Value} {a:ae} (h:bR w M β v a) (hf:bX a=true):bR w M' β' v a:=by
 cases a with
 | agg cs =>
  cases h with
  | agg hn hr =>
   refine .agg hn fun k hk=>Sb (hr k hk) ?_
   simp only [bX,bp] at hf
   exact hf _ (by simp only [List.getD,aA hk,br];exact aE hk)
 | _=>exact Sb h hf
theorem Rr {M M':Nat→Nat→Prop} {β':Env} {v:Value} {a:ae} (h:bR w M β v a) (hf:bO a=true):bR w M' β' v a:=by
 cases a with
 | dz cs =>
  cases h with
  | dz hn hr =>
   refine .dz hn fun k hk=>RR (hr k hk) ?_
   simp only [bO,bp] at hf
   exact hf _ (by simp only [List.getD,aA hk,br];exact aE hk)
 | _=>exact RR h hf
def aJ (P:Program) (g:FuncId) (args:List ae) (r:ae):Prop:=bS P g args [] (fun r' σ'=>r'=r∧σ'=[])∧r.low 0
theorem D9 {β:Env} {g o:Nat}:¬ iO [] β g o:=by rintro ⟨b,x,L,h,_⟩;simp at h
theorem Zp8 {vs:Array Value} {k:Nat}:vs.toList.getD k undef=vs.getD k undef:=by simp [List.getD,aj]
end
end Go.c8
