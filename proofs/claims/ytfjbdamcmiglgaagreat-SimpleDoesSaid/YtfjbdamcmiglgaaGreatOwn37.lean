/- Part 37 of what the claim rests on. -/
import Derived.Test.YtfjbdamcmiglgaaGreatOwn36
set_option linter.all false
namespace Go.dq
open Go
def Ar (b:Nat)(cs:List ah):ah->ah
 |.ptr b' o=>if b'=b/\o=0 then .pp cs else .ptr b' o
 |a=>a
def v7 (b:Nat)(cs:List ah):ah->ah
 |.fn g x y=>.fn g (x.map (Ar b cs)) (y.map (Ar b cs))
 |a=>Ar b cs a
section
variable {P:Program}{X:Nat->Nat->Prop}{base:Nat}{σ:av}{β β':Env}{w w':World}
theorem DY {b c:Nat}{x:bS}(h:(σ.set b none)[c]? = some (some x)):c≠b/\σ[c]? = some (some x):=by
 rw[eA]at h;by_cases e:b=c
 ·rw[if_pos e]at h;split at h<;>cases h
 ·rw[if_neg e]at h;exact⟨λe'=>e e'.symm,h⟩
theorem CK {b g o:Nat}(h:jR (σ.set b none) β g o):jR σ β g o:=by
 obtain⟨c,x,L,m1,m2⟩:=h;exact⟨c,x,L,(DY m1).2,m2⟩
theorem Qn {b:Nat} {cs:List ah} (hr:c8 X base σ β w) (hb : σ[b]? = some (some (.var cs))) {v:Value} {a:ah} (h:cn w (MT X σ β) β v a):cn w (MT X (σ.set b none) β) β v (Ar b cs a):=by
 have hk:dK w (MT X σ β) w (MT X (σ.set b none) β):=dK.nr λg o h=>h.imp id CK;cases a with
 | ptr b' o =>
  simp only[Ar];split
  ·rename_i e;obtain⟨rfl,rfl⟩:=e;cases h with
   | @ptr _ _ L hh =>
    obtain⟨L',q1,q2,q3,c,e,q4,q5,q6,q7⟩:=hr.cG b' _ hb;obtain rfl:=aS (q1.symm.trans hh);have hM:∀o,¬MT X (σ.set b' none) β L'.g o:=by
     rintro o (hx|⟨c2,y,L2,m1,m2,m3,m4⟩)
     ·exact q3 _ hx
     ·obtain⟨n1,n2⟩:=DY m1;exact n1 (hr.inj c2 b' y _ L2 L' n2 hb m2 q1 m3)
    refine .pp (λk=>c.getD k undef) (λk eZ=>⟨?_,hM _⟩) λk eZ=>(q7 k eZ).mono hk (λ_ _ h=>h);have:L'.o+0+k=k:=by omega
    rw[this,cell_of_row w L'.g _ c e (0,0) q4,wm (by omega)]
  ·exact h.mono hk (λ_ _ h=>h)
 |_=>exact h.mono hk (λ_ _ h=>h)
theorem Yvb {b:Nat} {cs:List ah} (hr:c8 X base σ β w) (hb : σ[b]? = some (some (.var cs))) {v:Value} {a:ah} (h:cn w (MT X σ β) β v a):cn w (MT X (σ.set b none) β) β v (v7 b cs a):=by
 have hd:∀(l:List ah) (k:Nat),(l.map (Ar b cs)).getD k .undef=Ar b cs (l.getD k .undef):=λl k=>by
  simp only[dR,cE];cases l[k]?<;>rfl
 cases a with
 | fn g x y =>
  simp only[v7];cases h with
  |fn e1 e2 r1 r2 =>
   refine .fn (by simpa using e1) (by simpa using e2) (λk hk=>?_) (λk hk=>?_)
   ·rw[hd];exact Qn hr hb (r1 k (by simpa using hk))
   ·rw[hd];exact Qn hr hb (r2 k (by simpa using hk))
 |_=>exact Qn hr hb h
theorem ak.vM {g:FuncId} {first captured args args':List ah} {K:ah->av->Prop} {r:ah} {b:Nat} {cs:List ah} (bs:List Nat) (hb:bW σ b=some (.var cs)) (hc:az P g args' r) (hp:mD (among bs) (σ.set b none) args' ((first++args++captured).map (v7 b cs))) (hl:bG 0 args')
  (uV:bj r=true) (hk:K r σ):ak P (.fn g first captured) args σ K:=by
 refine ak.sh ?_;intro X base β w vs h1 h2 h3 fr pD h4;have oP:=la hb;have hd:∀(l:List ah) (k:Nat),k<l.length->(l.map (v7 b cs)).getD k .undef=v7 b cs (l.getD k .undef):=λl k hk=>by
  simp[dR,hk]
 have QB:c8 X base (σ.set b none) β w:=h1.less (λc x hc=>(DY hc).2) bg;have h3e:∀k,k<(first++args++captured).length->cn w (MT X (σ.set b none) β) β (vs.getD k undef) (((first++args++captured).map (v7 b cs)).getD k .undef):=λk hk=>by
  rw[hd _ _ hk];exact Yvb h1 oP (h3 k hk)
 have pG:=Cs (among bs) (σ.set b none);generalize Bh:fw (among bs) 0 (σ.set b none) = mw at *
 have hf:=pG.p6;have zN:=QB.p6 hf;obtain⟨e1,e2⟩:=wA zN pG args' hp;rw[ao]at e1;have e3:∀k,k<args'.length->cn w (MT X mw β) β (vs.getD k undef) (args'.getD k .undef):=λk eZ=>(e2 k eZ).1 _ ((h3e k (by omega)).mono (DL hf) (λ_ _ h=>h));have F6:∀b,b<0->(λ_=>none:Env) b = β b:=λb hb=>by omega
 have QO:∀g' o,MT X mw β g' o->g'<w.heap.size:=by
  rintro g' o (hx|⟨b,y,L,m1,m2,rfl,m4⟩)
  ·exact h1.sc g' o hx
  ·exact Ix zN m1 m2
 have lJ:c8 (MT X mw β) base [] (λ_=>none) w:=⟨λ_ _=>rfl,λb y hb=>by simp at hb,λb b' y y' L L' hb=>by simp at hb,h1.size,QO,h1.gl⟩;have AF:∀(β':Env) (w:World),dK w (MT X mw β) w (MT (MT X mw β) [] β'):=λβ' w=>dK.nr λg' o h=>by rcases h with h|h;exact h;exact absurd h G_
 obtain⟨r',σ',β',v,w',⟨rfl,rfl⟩,g1,g2,g3,g4,g5⟩:=hc.1 (MT X mw β) base (λ_=>none) w vs lJ (by omega) (λk eZ =>
  ((e3 k (by omega)).low F6 (jZ hl k)).mono (AF _ _) (λ_ _ h=>h)) fr pD h4
 have j9:∀g',g'<w.heap.size->w'.heap[g']? = w.heap[g']?:=λg' wa=>g3.block g' wa λo=>G_;have yI:Ext σ.length σ β w σ β w' :=
  ⟨g3.os,g3.tape,g3.output,g3.size,λg' o x Je _=>by rw[World.cell?_of_block (w:=w) (a:=⟨g',o,none⟩) (j9 g' (Ae Je))];exact Je,λg' wa _=>j9 g' wa,λg' o hm=>.inl hm,λ_ _=>rfl⟩
 exact⟨r',σ,β,v,w',hk,(h1.kept g3.size j9).1,Yy g2 uV,yI,ae _,g5⟩
end
end Go.dq
