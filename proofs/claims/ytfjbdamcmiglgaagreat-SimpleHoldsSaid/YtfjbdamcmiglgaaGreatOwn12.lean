/- Part 12 of my own framework and of the walks of functions: AbsN. -/
import Derived.Test.YtfjbdamcmiglgaaGreatOwn11
set_option linter.unusedVariables false
set_option linter.unusedSectionVars false
set_option linter.unusedSimpArgs false
namespace Go.dm
open Go
def Ir (σ:ai):ah→Option ah
 | .os b off n sz=>match bP σ b with
  | some (.row es _)=>if off+n≤es.length then some (.ps sz ((es.drop off).take n)) else none
  | _=>none
 | .map b=>match bP σ b with
  | some (.map ks vs _)=>some (.pm ks vs)
  | _=>none
 | a=>some a
def Iu (σ:ai):List ah→Option (List ah)
 | []=>some []
 | a :: cD=>(Ir σ a).bind fun x=>(Iu σ cD).map (x :: ·)
def Iq (σ:ai):ah→Option ah
 | .agg cs=>(Iu σ cs).map .agg
 | a=>Ir σ a
def CW (σ:ai):List ah→Option (List ah)
 | []=>some []
 | a :: cD=>(Iq σ a).bind fun x=>(CW σ cD).map (x :: ·)
def aqn (σ:ai):ah→Option ah
 | .dT vs=>(CW σ vs).map .dT
 | a=>Iq σ a
def bO.yr:bO→bO→Prop
 | .row es fz, .row tb fz'=>es=tb∧fz≤fz'
 | .map ks vs f, .map wg uB f'=>ks=wg∧vs=uB∧(f=true→f'=true)
 | a,b=>a=b
theorem bO.ve (b:bO):b.yr b:=by cases b<;>simp [bO.yr]
structure Ix (σ lI:ai):Prop where
 len : lI.length = σ.length
 to:∀ (b:Nat) (x:bO),σ[b]? = some (some x)→∃ y,lI[b]? = some (some y)∧x.yr y
 from_:∀ (b:Nat) (y:bO),lI[b]? = some (some y)→∃ x,σ[b]? = some (some x)∧x.yr y
section
variable {P:Program} {X:Nat→Nat→Prop} {base:Nat} {σ lI:ai} {β:Env} {w:World}
theorem jr.pf (hf:Ix σ lI) {g o:Nat} (h:jr lI β g o):jr σ β g o:=by
 obtain ⟨b,y,L,h1,h2,h3,h4⟩:=h;obtain ⟨x,h5,h6⟩:=hf.from_ b y h1;refine ⟨b,x,L,h5,h2,h3,?_⟩;cases x<;>cases y<;>simp [bO.yr,bO.mut] at h6 h4 ⊢
 ·have : _:=bf L.sz h6.2;omega
 ·rename_i f _ _ f';cases f with
  | false=>rfl
  | true=>rw [h6.2.2 rfl] at h4;cases h4
theorem Ci (hf:Ix σ lI):dD w (MT X σ β) w (MT X lI β):=dD.mh fun g o h=>h.imp id fun hm=>hm.pf hf
theorem cS.pf (hr:cS X base σ β w) (hf:Ix σ lI):cS X base lI β w:=by
 refine ⟨fun b hb=>hr.oo b (by rw [← hf.len];exact hb),fun b y hb=>?_,fun b b' y y' L L' h1 h2 h3 h4 hg=>?_,hr.size,hr.qL,hr.gl⟩
 ·obtain ⟨x,h1,h2⟩:=hf.from_ b y hb;obtain ⟨L,q1,q2,q3,q4⟩:=hr.cw b x h1;refine ⟨L,q1,q2,q3,?_⟩;have q5:=q4.mono (Ci (X:=X) hf) (fun _ _ h=>h) rfl;cases x<;>cases y<;>simp [bO.yr] at h2
  ·subst h2;exact q5
  ·obtain ⟨rfl,_⟩:=h2;exact q5
  ·obtain ⟨rfl,rfl,_⟩:=h2;exact q5
  ·obtain ⟨rfl,rfl⟩:=h2;exact q5
  ·obtain ⟨rfl,rfl,rfl⟩:=h2;exact q5
  ·subst h2;exact q5
 ·obtain ⟨x,q1,_⟩:=hf.from_ b y h1;obtain ⟨x',q2,_⟩:=hf.from_ b' y' h2;exact hr.inj b b' x x' L L' q1 q2 h3 h4 hg
theorem cS.kept {w':World} (hr:cS X base σ β w) (pJ:w.heap.size≤w'.heap.size) (hb:∀ g,g<w.heap.size→w'.heap[g]? = w.heap[g]?) :
  cS X base σ β w'∧dD w (MT X σ β) w' (MT X σ β):=by
 have hk:dD w (MT X σ β) w' (MT X σ β):=by
  refine ⟨fun g o v hc hn=>⟨?_,hn⟩,fun g es c hg hn=>⟨?_,hn⟩⟩
  ·rw [World.cell?_of_block (w:=w) (a:=⟨g,o,none⟩) (hb g (yP hc))];exact hc
  ·exact (hb g (aO.1 hg).1).trans hg
 refine ⟨⟨hr.oo,fun b y hy=>?_,hr.inj,c_ hr.size pJ,fun g o hx=>de (hr.qL g o hx) pJ,hr.gl.same hb⟩,hk⟩;obtain ⟨L,q1,q2,q3,q4⟩:=hr.cw b y hy;exact ⟨L,q1,q2,q3,q4.mono hk (fun _ _ h=>h) (hb L.g q4.lt)⟩
def bL:ah→Bool
 | .undef | .bool _ | .int _ _ | .str _ | .bY | .aW | .aA | .cM | .gk | .ps _ []=>true
 | _=>false
def bN:ah→Bool
 | .agg cs=>cs.all bL
 | a=>bL a
def bC:ah→Bool
 | .dT vs=>vs.all bN
 | a=>bN a
theorem VG {M M':Nat→Nat→Prop} {β':Env} {v:Value} {a:ah} (h:cf w M β v a) (hf:bL a=true):cf w M' β' v a:=by
 cases a<;>simp only [bL,bd] at hf
 ·exact .undef _
 ·cases h;exact .bool _
 ·cases h;exact .int _ _
 ·cases h;exact .str _
 ·cases h;exact .bY
 ·cases h;exact .aW _
 ·rename_i sz es;cases es with
  | nil=>cases h with | ps cv jH fJ hc ha hr=>exact .ps cv jH (fun i hi=>by simp at hi) (fun i j hi=>by simp at hi) (fun h0=>by simp at h0) (fun i j hi=>by simp at hi)
  | cons e es=>simp [bL] at hf
 ·cases h;exact .aA
 ·cases h;exact .cM
 ·cases h;exact .gk
theorem UU {M M':Nat→Nat→Prop} {β':Env} {v:Value} {a:ah} (h:cf w M β v a) (hf:bN a=true):cf w M' β' v a:=by
 cases a with
 | agg cs =>
  cases h with
  | agg hn hr =>
   refine .agg hn fun k hk=>VG (hr k hk) ?_;simp only [bN,a8] at hf;exact hf _ (by simp only [List.getD,av hk,bx];exact aC hk)
 | _=>exact VG h hf
theorem V0 {M M':Nat→Nat→Prop} {β':Env} {v:Value} {a:ah} (h:cf w M β v a) (hf:bC a=true):cf w M' β' v a:=by
 cases a with
 | dT cs =>
  cases h with
  | dT hn hr =>
   refine .dT hn fun k hk=>UU (hr k hk) ?_;simp only [bC,a8] at hf;exact hf _ (by simp only [List.getD,av hk,bx];exact aC hk)
 | _=>exact UU h hf
def aD (P:Program) (g:FuncId) (args:List ah) (r:ah):Prop:=cg P g args [] (fun r' σ'=>r'=r∧σ'=[])∧r.low 0
theorem Fz {β:Env} {g o:Nat}:¬ jr [] β g o:=by rintro ⟨b,x,L,h,_⟩;simp at h
theorem Zq0 {vs:Array Value} {k:Nat}:vs.toList.getD k undef=vs.getD k undef:=by simp [List.getD,ak]
end
end Go.dm
