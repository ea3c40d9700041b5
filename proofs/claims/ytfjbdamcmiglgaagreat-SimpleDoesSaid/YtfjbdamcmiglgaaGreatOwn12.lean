/- Part 12 of what the claim rests on. -/
import Derived.Test.YtfjbdamcmiglgaaGreatOwn11
set_option linter.all false
namespace Go.dq
open Go
def Ke (σ:av):ah->Option ah
 |.os b off n sz=>match bW σ b with
  |some (.row es _)=>if off+n<=es.length then some (.ps sz ((es.drop off).take n)) else none
  |_=>none
 |.map b=>match bW σ b with
  |some (.map ks vs _)=>some (.pm ks vs)
  |_=>none
 |a=>some a
def Kf (σ:av):List ah->Option (List ah)
 |[]=>some []
 |a :: cI=>(Ke σ a).bind λx=>(Kf σ cI).map (x :: ·)
def Kd (σ:av):ah->Option ah
 |.agg cs=>(Kf σ cs).map .agg
 |a=>Ke σ a
def Ev (σ:av):List ah->Option (List ah)
 |[]=>some []
 |a :: cI=>(Kd σ a).bind λx=>(Ev σ cI).map (x :: ·)
def aqB (σ:av):ah->Option ah
 |.dw vs=>(Ev σ vs).map .dw
 |a=>Kd σ a
def bS.zL:bS->bS->Prop
 |.row es fz,.row uB fz'=>es=uB/\fz<=fz'
 |.map ks vs f,.map xp vV f'=>ks=xp/\vs=vV/\(f=true->f'=true)
 |a,b=>a=b
theorem bS.wJ (b:bS):b.zL b:=by cases b<;>simp[bS.zL]
structure Kl (σ mw:av):Prop where
 len : mw.length = σ.length
 to:∀(b:Nat) (x:bS),σ[b]? = some (some x)->∃y,mw[b]? = some (some y)/\x.zL y
 from_:∀(b:Nat) (y:bS),mw[b]? = some (some y)->∃x,σ[b]? = some (some x)/\x.zL y
section
variable {P:Program}{X:Nat->Nat->Prop}{base:Nat}{σ mw:av}{β:Env}{w:World}
theorem jR.p6 (hf:Kl σ mw) {g o:Nat} (h:jR mw β g o):jR σ β g o:=by
 obtain⟨b,y,L,h1,h2,h3,h4⟩:=h;obtain⟨x,h5,h6⟩:=hf.from_ b y h1;refine⟨b,x,L,h5,h2,h3,?_⟩;cases x<;>cases y<;>simp[bS.zL,bS.mut]at h6 h4 ⊢
 ·have : _:=aZ L.sz h6.2;omega
 ·rename_i f _ _ f';cases f with
  |false=>rfl
  |true=>rw[h6.2.2 rfl]at h4;cases h4
theorem DL (hf:Kl σ mw):dK w (MT X σ β) w (MT X mw β):=dK.nr λg o h=>h.imp id λhm=>hm.p6 hf
theorem c8.p6 (hr:c8 X base σ β w) (hf:Kl σ mw):c8 X base mw β w:=by
 refine⟨λb hb=>hr.o_ b (by rw[<-hf.len];exact hb),λb y hb=>?_,λb b' y y' L L' h1 h2 h3 h4 hg=>?_,hr.size,hr.sc,hr.gl⟩
 ·obtain⟨x,h1,h2⟩:=hf.from_ b y hb;obtain⟨L,q1,q2,q3,q4⟩:=hr.cG b x h1;refine⟨L,q1,q2,q3,?_⟩;have q5:=q4.mono (DL (X:=X) hf) (λ_ _ h=>h) rfl;cases x<;>cases y<;>simp[bS.zL]at h2
  ·subst h2;exact q5
  ·obtain⟨rfl,_⟩:=h2;exact q5
  ·obtain⟨rfl,rfl,_⟩:=h2;exact q5
  ·obtain⟨rfl,rfl⟩:=h2;exact q5
  ·obtain⟨rfl,rfl,rfl⟩:=h2;exact q5
  ·subst h2;exact q5
 ·obtain⟨x,q1,_⟩:=hf.from_ b y h1;obtain⟨x',q2,_⟩:=hf.from_ b' y' h2;exact hr.inj b b' x x' L L' q1 q2 h3 h4 hg
theorem c8.kept {w':World} (hr:c8 X base σ β w) (qB:w.heap.size<=w'.heap.size) (hb:∀g,g<w.heap.size->w'.heap[g]? = w.heap[g]?) :
  c8 X base σ β w'/\dK w (MT X σ β) w' (MT X σ β):=by
 have hk:dK w (MT X σ β) w' (MT X σ β):=by
  refine⟨λg o v hc hn=>⟨?_,hn⟩,λg es c hg hn=>⟨?_,hn⟩⟩
  ·rw[World.cell?_of_block (w:=w) (a:=⟨g,o,none⟩) (hb g (Ae hc))];exact hc
  ·exact(hb g (aQ.1 hg).1).trans hg
 refine⟨⟨hr.o_,λb y hy=>?_,hr.inj,dg hr.size qB,λg o hx=>di (hr.sc g o hx) qB,hr.gl.same hb⟩,hk⟩;obtain⟨L,q1,q2,q3,q4⟩:=hr.cG b y hy;exact⟨L,q1,q2,q3,q4.mono hk (λ_ _ h=>h) (hb L.g q4.lt)⟩
def bz:ah->Bool
 |.undef|.bool _|.int _ _|.str _|.gJ|.a8|.fU|.dj|.jv|.ps _ []=>true
 |_=>false
def bA:ah->Bool
 |.agg cs=>cs.all bz
 |a=>bz a
def bj:ah->Bool
 |.dw vs=>vs.all bA
 |a=>bA a
theorem Xn {M M':Nat->Nat->Prop} {β':Env} {v:Value} {a:ah} (h:cn w M β v a) (hf:bz a=true):cn w M' β' v a:=by
 cases a<;>simp only[bz,aX]at hf
 ·exact .undef _
 ·cases h;exact .bool _
 ·cases h;exact .int _ _
 ·cases h;exact .str _
 ·cases h;exact .gJ
 ·cases h;exact .a8 _
 ·rename_i sz es;cases es with
  |nil=>cases h with|ps cv j8 eM hc ha hr=>exact .ps cv j8 (λi hi=>by simp at hi) (λi j hi=>by simp at hi) (λh0=>by simp at h0) (λi j hi=>by simp at hi)
  |cons e es=>simp[bz]at hf
 ·cases h;exact .fU
 ·cases h;exact .dj
 ·cases h;exact .jv
theorem X2 {M M':Nat->Nat->Prop} {β':Env} {v:Value} {a:ah} (h:cn w M β v a) (hf:bA a=true):cn w M' β' v a:=by
 cases a with
 | agg cs =>
  cases h with
  |agg hn hr =>
   refine .agg hn λk hk=>Xn (hr k hk) ?_;simp only[bA,bu]at hf;exact hf _ (by simp only[List.getD,ax hk,bd];exact ay hk)
 |_=>exact Xn h hf
theorem Yy {M M':Nat->Nat->Prop} {β':Env} {v:Value} {a:ah} (h:cn w M β v a) (hf:bj a=true):cn w M' β' v a:=by
 cases a with
 | dw cs =>
  cases h with
  |dw hn hr =>
   refine .dw hn λk hk=>X2 (hr k hk) ?_;simp only[bj,bu]at hf;exact hf _ (by simp only[List.getD,ax hk,bd];exact ay hk)
 |_=>exact X2 h hf
def az (P:Program)(g:FuncId)(args:List ah)(r:ah):Prop:=cj P g args [] (λr' σ'=>r'=r/\σ'=[])/\r.low 0
theorem G_ {β:Env}{g o:Nat}:¬jR [] β g o:=by rintro⟨b,x,L,h,_⟩;simp at h
theorem Zql {vs:Array Value}{k:Nat}:vs.toList.getD k undef=vs.getD k undef:=by simp[List.getD,au]
end
end Go.dq
