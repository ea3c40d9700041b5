/- Part 12 of my own framework and of the walks of functions: AbsN. -/
import Derived.Test.YtfjbdamcmiglgaaGreatOwn11
set_option linter.unusedVariables false
set_option linter.unusedSectionVars false
set_option linter.unusedSimpArgs false
namespace Go.cV
open Go
def Ha (σ:ai):ae→Option ae
 | .os b off n sz=>match bF σ b with
  | some (.row es _)=>if off+n≤es.length then some (.ps sz ((es.drop off).take n)) else none
  | _=>none
 | .map b=>match bF σ b with
  | some (.map ks vs _)=>some (.pm ks vs)
  | _=>none
 | a=>some a
def Hb (σ:ai):List ae→Option (List ae)
 | []=>some []
 | a :: ck=>(Ha σ a).bind fun x=>(Hb σ ck).map (x :: ·)
def G_ (σ:ai):ae→Option ae
 | .agg cs=>(Hb σ cs).map .agg
 | a=>Ha σ a
def BT (σ:ai):List ae→Option (List ae)
 | []=>some []
 | a :: ck=>(G_ σ a).bind fun x=>(BT σ ck).map (x :: ·)
def ans (σ:ai):ae→Option ae
 | .dy vs=>(BT σ vs).map .dy
 | a=>G_ σ a
def bE.xn:bE→bE→Prop
 | .row es fz, .row pX fz'=>es=pX∧fz≤fz'
 | .map ks vs f, .map uX s_ f'=>ks=uX∧vs=s_∧(f=true→f'=true)
 | a,b=>a=b
theorem bE.ua (b:bE):b.xn b:=by cases b<;>simp [bE.xn]
structure He (σ kU:ai):Prop where
 len : kU.length = σ.length
 to:∀ (b:Nat) (x:bE),σ[b]? = some (some x)→∃ y,kU[b]? = some (some y)∧x.xn y
 from_:∀ (b:Nat) (y:bE),kU[b]? = some (some y)→∃ x,σ[b]? = some (some x)∧x.xn y
section
variable {P:Program} {X:Nat→Nat→Prop} {base:Nat} {σ kU:ai} {β:Env} {w:World}
theorem iQ.oq (hf:He σ kU) {g o:Nat} (h:iQ kU β g o):iQ σ β g o:=by
 obtain ⟨b,y,L,h1,h2,h3,h4⟩:=h
 obtain ⟨x,h5,h6⟩:=hf.from_ b y h1
 refine ⟨b,x,L,h5,h2,h3,?_⟩
 cases x<;>cases y<;>simp [bE.xn,bE.mut] at h6 h4 ⊢
 ·have : _:=aW L.sz h6.2;omega
 ·rename_i f _ _ f'
  cases f with
  | false=>rfl
  | true=>rw [h6.2.2 rfl] at h4;cases h4
theorem A_ (hf:He σ kU):dg w (MT X σ β) w (MT X kU β):=dg.lM fun g o h=>h.imp id fun hm=>hm.oq hf
theorem cF.oq (hr:cF X base σ β w) (hf:He σ kU):cF X base kU β w:=by
 refine ⟨fun b hb=>hr.nC b (by rw [← hf.len];exact hb),fun b y hb=>?_,fun b b' y y' L L' h1 h2 h3 h4 hg=>?_,hr.size,hr.p6,hr.gl⟩
 ·obtain ⟨x,h1,h2⟩:=hf.from_ b y hb
  obtain ⟨L,q1,q2,q3,q4⟩:=hr.cf b x h1
  refine ⟨L,q1,q2,q3,?_⟩
  have q5:=q4.mono (A_ (X:=X) hf) (fun _ _ h=>h) rfl
  cases x<;>cases y<;>simp [bE.xn] at h2
  ·subst h2;exact q5
  ·obtain ⟨rfl,_⟩:=h2;exact q5
  ·obtain ⟨rfl,rfl,_⟩:=h2;exact q5
  ·obtain ⟨rfl,rfl⟩:=h2;exact q5
  ·obtain ⟨rfl,rfl,rfl⟩:=h2;exact q5
  ·subst h2;exact q5
 ·obtain ⟨x,q1,_⟩:=hf.from_ b y h1
  obtain ⟨x',q2,_⟩:=hf.from_ b' y' h2
  exact hr.inj b b' x x' L L' q1 q2 h3 h4 hg
theorem cF.kept {w':World} (hr:cF X base σ β w) (oT:w.heap.size≤w'.heap.size) (hb:∀ g,g<w.heap.size→w'.heap[g]? = w.heap[g]?) :
  cF X base σ β w'∧dg w (MT X σ β) w' (MT X σ β):=by
 have hk:dg w (MT X σ β) w' (MT X σ β):=by
  refine ⟨fun g o v hc hn=>⟨?_,hn⟩,fun g es c hg hn=>⟨?_,hn⟩⟩
  ·rw [World.cell?_of_block (w:=w) (a:=⟨g,o,none⟩) (hb g (xI hc))];exact hc
  ·exact (hb g (aL.1 hg).1).trans hg
 refine ⟨⟨hr.nC,fun b y hy=>?_,hr.inj,cR hr.size oT,fun g o hx=>cS (hr.p6 g o hx) oT,hr.gl.same hb⟩,hk⟩
 obtain ⟨L,q1,q2,q3,q4⟩:=hr.cf b y hy
 exact ⟨L,q1,q2,q3,q4.mono hk (fun _ _ h=>h) (hb L.g q4.lt)⟩
def bX:ae→Bool
 | .undef | .bool _ | .int _ _ | .str _ | .bM | .aU | .az | .cy | .fE | .ps _ []=>true
 | _=>false
def bZ:ae→Bool
 | .agg cs=>cs.all bX
 | a=>bX a
def bL:ae→Bool
 | .dy vs=>vs.all bZ
 | a=>bZ a
theorem SK {M M':Nat→Nat→Prop} {β':Env} {v:Value} {a:ae} (h:bR w M β v a) (hf:bX a=true):bR w M' β' v a:=by
 cases a<;>simp only [bX,a8] at hf
 ·exact .undef _
 ·cases h;exact .bool _
 ·cases h;exact .int _ _
 ·cases h;exact .str _
 ·cases h;exact .bM
 ·cases h;exact .aU _
 ·rename_i sz es
  cases es with
  | nil=>cases h with | ps cv jf ft hc ha hr=>exact .ps cv jf (fun i hi=>by simp at hi) (fun i j hi=>by simp at hi) (fun h0=>by simp at h0) (fun i j hi=>by simp at hi)
  | cons e es=>simp [bX] at hf
 ·cases h;exact .az
 ·cases h;exact .cy
 ·cases h;exact .fE
theorem Sv {M M':Nat→Nat→Prop} {β':Env} {v:Value} {a:ae} (h:bR w M β v a) (hf:bZ a=true):bR w M' β' v a:=by
 cases a with
 | agg cs =>
  cases h with
  | agg hn hr =>
   refine .agg hn fun k hk=>SK (hr k hk) ?_
   simp only [bZ,bp] at hf
   exact hf _ (by simp only [List.getD,aA hk,br];exact aF hk)
 | _=>exact SK h hf
theorem RJ {M M':Nat→Nat→Prop} {β':Env} {v:Value} {a:ae} (h:bR w M β v a) (hf:bL a=true):bR w M' β' v a:=by
 cases a with
 | dy cs =>
  cases h with
  | dy hn hr =>
   refine .dy hn fun k hk=>Sv (hr k hk) ?_
   simp only [bL,bp] at hf
   exact hf _ (by simp only [List.getD,aA hk,br];exact aF hk)
 | _=>exact Sv h hf
def aJ (P:Program) (g:FuncId) (args:List ae) (r:ae):Prop:=bS P g args [] (fun r' σ'=>r'=r∧σ'=[])∧r.low 0
theorem Ej {β:Env} {g o:Nat}:¬ iQ [] β g o:=by rintro ⟨b,x,L,h,_⟩;simp at h
theorem Zob {vs:Array Value} {k:Nat}:vs.toList.getD k undef=vs.getD k undef:=by simp [List.getD,aj]
end
end Go.cV
