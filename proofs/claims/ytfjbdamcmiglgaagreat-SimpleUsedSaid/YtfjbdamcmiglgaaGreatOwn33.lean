/- Part 33 of my own framework and of the walks of functions: AcsH. -/
import Derived.Test.YtfjbdamcmiglgaaGreatOwn32
set_option linter.unusedVariables false
set_option linter.unusedSectionVars false
set_option linter.unusedSimpArgs false
namespace Go.cV
open Go
mutual
def dI (π:Nat→Nat):ae→ae
 | .ptr b o=>.ptr (π b) o
 | .rp b i f=>.rp (π b) i f
 | .os b o n s=>.os (π b) o n s
 | .oc b o n c s=>.oc (π b) o n c s
 | .ld b=>.ld (π b)
 | .map b=>.map (π b)
 | .it b=>.it (π b)
 | .pp cs=>.pp (dY π cs)
 | .ps s es=>.ps s (dY π es)
 | .fn f a c=>.fn f (dY π a) (dY π c)
 | .pm ks vs=>.pm (dY π ks) (dY π vs)
 | .agg cs=>.agg (dY π cs)
 | .dy cs=>.dy (dY π cs)
 | .iface t v=>.iface t (dI π v)
 | a=>a
def dY (π:Nat→Nat):List ae→List ae
 | []=>[]
 | a :: ck=>dI π a :: dY π ck
end
theorem jx (π:Nat→Nat):∀ l:List ae,(dY π l).length=l.length
 | []=>rfl
 | a :: ck=>by simp [dY,jx π ck]
theorem lD (π:Nat→Nat):∀ (l:List ae) (k:Nat),(dY π l).getD k .undef=dI π (l.getD k .undef)
 | [],k=>by simp [dY,dI]
 | a :: ck,0=>by simp [dY]
 | a :: ck,k+1=>by simp only [dY,bB];exact lD π ck k
theorem Bb (π:Nat→Nat) (a:ae):(dI π a).cells=dY π a.cells:=by cases a<;>simp [dI,dY,ae.cells]
mutual
theorem FJ (π:Nat→Nat) (n:Nat) (h:∀ b,b<n→π b=b):∀ a:ae,a.low n→dI π a=a
 | .ptr b _,k=>by simp only [dI];rw [h b k]
 | .rp b _ _,k=>by simp only [dI];rw [h b k]
 | .os b _ _ _,k=>by simp only [dI];rw [h b k]
 | .oc b _ _ _ _,k=>by simp only [dI];rw [h b k]
 | .gZ,_=>rfl
 | .ld b,k=>by simp only [dI];rw [h b k]
 | .map b,k=>by simp only [dI];rw [h b k]
 | .it b,k=>by simp only [dI];rw [h b k]
 | .pp cs,k=>by simp only [dI];rw [qn π n h cs k]
 | .ps _ es,k=>by simp only [dI];rw [qn π n h es k]
 | .fn _ a c,k=>by simp only [dI];rw [qn π n h a k.1,qn π n h c k.2]
 | .pm ks vs,k=>by simp only [dI];rw [qn π n h ks k.1,qn π n h vs k.2]
 | .agg cs,k=>by simp only [dI];rw [qn π n h cs k]
 | .dy cs,k=>by simp only [dI];rw [qn π n h cs k]
 | .iface _ v,k=>by simp only [dI];rw [FJ π n h v k]
 | .undef,_=>rfl
 | .bool _,_=>rfl
 | .int _ _,_=>rfl
 | .str _,_=>rfl
 | .bM,_=>rfl
 | .aU,_=>rfl
 | .az,_=>rfl
 | .cy,_=>rfl
 | .fE,_=>rfl
 | .nM _,_=>rfl
theorem qn (π:Nat→Nat) (n:Nat) (h:∀ b,b<n→π b=b):∀ l:List ae,bx n l→dY π l=l
 | [],_=>rfl
 | a :: ck,k=>by simp only [dY];rw [FJ π n h a k.1,qn π n h ck k.2]
end
def dG (π:Nat→Nat):bE→bE
 | .var cs=>.var (dY π cs)
 | .row es fz=>.row (dY π es) fz
 | .map ks vs f=>.map (dY π ks) (dY π vs) f
 | .iter s p=>.iter s p
 | .kZ ks vs seen=>.kZ (dY π ks) (dY π vs) seen
 | .loop r=>.loop { r with tm:=dY π r.tm }
def jK (β:Env) (π:Nat→Nat) (n:Nat):Env:=fun b=>if b<n then β (π b) else none
theorem bR.dI {w:World} {M:Nat→Nat→Prop} {β:Env} {π:Nat→Nat} {n:Nat} {v:Value} {a0:ae} (h:bR w M β v a0):∀ a,a0=dI π a→a.low n→bR w M (jK β π n) v a:=by
 have he:∀ b L,b<n→β (π b)=some L→jK β π n b=some L:=fun b L hb h=>by simp [jK,hb,h]
 induction h with
 | undef v=>intro a e _;cases a<;>simp only [cV.dI,reduceCtorEq] at e;exact .undef v
 | bool b=>intro a e _;cases a<;>simp only [cV.dI,reduceCtorEq,ae.bool.injEq] at e;subst e;exact .bool _
 | int k i=>intro a e _;cases a<;>simp only [cV.dI,reduceCtorEq,ae.int.injEq] at e;obtain ⟨rfl,rfl⟩:=e;exact .int _ _
 | str s=>intro a e _;cases a<;>simp only [cV.dI,reduceCtorEq,ae.str.injEq] at e;subst e;exact .str _
 | bM=>intro a e _;cases a<;>simp only [cV.dI,reduceCtorEq] at e;exact .bM
 | ptr h=>intro a e hl;cases a<;>simp only [cV.dI,reduceCtorEq,ae.ptr.injEq] at e;obtain ⟨rfl,rfl⟩:=e;exact .ptr (he _ _ hl h)
 | rp h=>intro a e hl;cases a<;>simp only [cV.dI,reduceCtorEq,ae.rp.injEq] at e;obtain ⟨rfl,rfl,rfl⟩:=e;exact .rp (he _ _ hl h)
 | pp cv hc _ ih =>
  intro a e hl;cases a<;>simp only [cV.dI,reduceCtorEq,ae.pp.injEq] at e
  subst e
  exact .pp cv (fun k hk=>hc k (by rw [jx];exact hk)) fun k hk=>ih k (by rw [jx];exact hk) _ (lD _ _ _) (iX hl k)
 | aU ad=>intro a e _;cases a<;>simp only [cV.dI,reduceCtorEq] at e;exact .aU _
 | ps cv jf ft hc ha _ ih =>
  intro a e hl;cases a<;>simp only [cV.dI,reduceCtorEq,ae.ps.injEq] at e
  obtain ⟨rfl,rfl⟩:=e
  rw [jx] at jf ft hc ha ih ⊢
  exact .ps cv jf (fun i hi=>by have:=ft i hi;rw [lD,Bb,jx] at this;exact this) hc ha fun i j hi hj=>ih i j hi hj _ (by rw [lD,Bb,lD]) (iX (D7 (iX hl i)) j)
 | sv ad h=>intro a e hl;cases a<;>simp only [cV.dI,reduceCtorEq,ae.os.injEq] at e;obtain ⟨rfl,rfl,rfl,rfl⟩:=e;exact .sv _ (he _ _ hl h)
 | os h h1 h2=>intro a e hl;cases a<;>simp only [cV.dI,reduceCtorEq,ae.os.injEq] at e;obtain ⟨rfl,rfl,rfl,rfl⟩:=e;exact .os (he _ _ hl h) h1 h2
 | gZ b=>intro a e _;cases a<;>simp only [cV.dI,reduceCtorEq] at e;exact .gZ b
 | su ad h=>intro a e hl;cases a<;>simp only [cV.dI,reduceCtorEq,ae.oc.injEq] at e;obtain ⟨rfl,rfl,rfl,rfl,rfl⟩:=e;exact .su _ (he _ _ hl h)
 | oc h h1 h2=>intro a e hl;cases a<;>simp only [cV.dI,reduceCtorEq,ae.oc.injEq] at e;obtain ⟨rfl,rfl,rfl,rfl,rfl⟩:=e;exact .oc (he _ _ hl h) h1 h2
 | az=>intro a e _;cases a<;>simp only [cV.dI,reduceCtorEq] at e;exact .az
 | fn h1 h2 _ _ ky oC =>
  intro a e hl;cases a<;>simp only [cV.dI,reduceCtorEq,ae.fn.injEq] at e
  obtain ⟨rfl,rfl,rfl⟩:=e
  rw [jx] at h1 h2 ky oC
  exact .fn h1 h2 (fun k hk=>ky k hk _ (lD _ _ _) (iX hl.1 k)) (fun k hk=>oC k hk _ (lD _ _ _) (iX hl.2 k))
 | ld h=>intro a e hl;cases a<;>simp only [cV.dI,reduceCtorEq,ae.ld.injEq] at e;subst e;exact .ld (he _ _ hl h)
 | cy=>intro a e _;cases a<;>simp only [cV.dI,reduceCtorEq] at e;exact .cy
 | map h=>intro a e hl;cases a<;>simp only [cV.dI,reduceCtorEq,ae.map.injEq] at e;subst e;exact .map (he _ _ hl h)
 | pm hg hm h1 h2 _ _ hb ky oC =>
  intro a e hl;cases a<;>simp only [cV.dI,reduceCtorEq,ae.pm.injEq] at e
  obtain ⟨rfl,rfl⟩:=e
  rw [jx] at h1 h2 ky oC
  rw [jx] at h2
  exact .pm hg hm h1 h2 (fun k hk=>ky k hk _ (lD _ _ _) (iX hl.1 k)) (fun k hk=>oC k hk _ (lD _ _ _) (iX hl.2 k)) hb
 | it h=>intro a e hl;cases a<;>simp only [cV.dI,reduceCtorEq,ae.it.injEq] at e;subst e;exact .it (he _ _ hl h)
 | agg h _ ih =>
  intro a e hl;cases a<;>simp only [cV.dI,reduceCtorEq,ae.agg.injEq] at e
  subst e
  rw [jx] at h ih
  exact .agg h fun k hk=>ih k hk _ (lD _ _ _) (iX hl k)
 | dy h _ ih =>
  intro a e hl;cases a<;>simp only [cV.dI,reduceCtorEq,ae.dy.injEq] at e
  subst e
  rw [jx] at h ih
  exact .dy h fun k hk=>ih k hk _ (lD _ _ _) (iX hl k)
 | fE=>intro a e _;cases a<;>simp only [cV.dI,reduceCtorEq] at e;exact .fE
 | iface h ih=>intro a e hl;cases a<;>simp only [cV.dI,reduceCtorEq,ae.iface.injEq] at e;obtain ⟨rfl,rfl⟩:=e;exact .iface (ih _ rfl hl)
 | nM v=>intro a e _;cases a<;>simp only [cV.dI,reduceCtorEq,ae.nM.injEq] at e;subst e;exact .nM _
theorem fR.dI {w:World} {M:Nat→Nat→Prop} {β:Env} {π:Nat→Nat} {n:Nat} {L:Loc} {cf:bE} (h:fR w M β L (dG π cf)) (hl:cf.low n):fR w M (jK β π n) L cf:=by
 cases cf with
 | var cs =>
  obtain ⟨c,e,h1,h0,h2,h3⟩:=h
  rw [jx] at h2 h3
  exact ⟨c,e,h1,h0,h2,fun k hk=>(h3 k hk).dI _ (lD _ _ _) (iX hl k)⟩
 | row es fz =>
  obtain ⟨c,e,h1,h2,h3,h4,h5⟩:=h
  rw [jx] at h3 h4 h5
  exact ⟨c,e,h1,h2,h3,fun i hi=>by have:=h4 i hi;rw [lD,Bb,jx] at this;exact this,fun i j hi hj=>(h5 i j hi hj).dI _ (by rw [lD,Bb,lD]) (iX (D7 (iX hl i)) j)⟩
 | map ks vs f =>
  obtain ⟨es,clk,h1,h2,h3,h4,h5,h6⟩:=h
  rw [jx] at h2 h3 h4 h5
  rw [jx] at h3
  exact ⟨es,clk,h1,h2,h3,fun k hk=>(h4 k hk).dI _ (lD _ _ _) (iX hl.1 k),fun k hk=>(h5 k hk).dI _ (lD _ _ _) (iX hl.2 k),h6⟩
 | iter s p=>exact h
 | kZ ks vs seen =>
  obtain ⟨m,es,clk,h1,h2,h3,h4,h5,h6,h7,h8,h9⟩:=h
  rw [jx] at h4 h5 h6 h7 h9
  rw [jx] at h5
  exact ⟨m,es,clk,h1,h2,h3,h4,h5,fun k hk=>(h6 k hk).dI _ (lD _ _ _) (iX hl.1 k),fun k hk=>(h7 k hk).dI _ (lD _ _ _) (iX hl.2 k),h8,h9⟩
 | loop r =>
  obtain ⟨t,d,f,h1,h2,h3⟩:=h
  simp only [jx] at h2 h3
  exact ⟨t,d,f,h1,h2,fun k hk=>(h3 k hk).dI _ (lD _ _ _) (iX hl k)⟩
theorem Cn {π:Nat→Nat} {L:Loc} {cf:bE} {o:Nat}:(dG π cf).mut L o=cf.mut L o:=by cases cf<;>rfl
structure Wr (lo:Nat) (π:Nat→Nat) (dZ st:St):Prop where
 fix:∀ b,b<lo→π b=b
 inj:∀ b b',b<dZ.σ.length→b'<dZ.σ.length→π b = π b'→b=b'
 tm:lT (dY π dZ.tm) st.tm
 s:∀ (b:Nat) x,dZ.σ[b]? = some (some x)→st.σ[π b]? = some (some (dG π x))
 lt:bx dZ.σ.length dZ.tm
 ls:yI dZ.σ.length dZ.σ
section
variable {P:Program} {X:Nat→Nat→Prop} {base mb lo:Nat} {D:List Deferred} {st dZ:St} {β:Env} {a:Act} {w:World} {π:Nat→Nat}
theorem Wr.rel (h:Wr lo π dZ st) (hr:Rel X base mb D st β a w) (iL:lo≤dZ.σ.length):Rel X base mb D dZ (jK β π dZ.σ.length) a w∧Ext lo st.σ β w dZ.σ (jK β π dZ.σ.length) w:=by
 have hM:∀ g o,iQ dZ.σ (jK β π dZ.σ.length) g o→iQ st.σ β g o:=by
  rintro g o ⟨b,cf,L,m1,m2,m3,m4⟩
  have hb:=(aH.1 m1).1
  simp only [jK,hb,if_true] at m2
  exact ⟨π b,_,L,h.s b cf m1,m2,m3,by rw [Cn];exact m4⟩
 have hk:dg w (MT X st.σ β) w (MT X dZ.σ (jK β π dZ.σ.length)):=dg.lM fun g o hm=>hm.imp id (hM g o)
 obtain ⟨t1,t2⟩:=E4 h.tm
 rw [jx] at t1 t2
 refine ⟨⟨⟨fun b hb=>by simp [jK];omega,fun b cf hb=>?_,fun b b' x y L L' e1 e2 e3 e4 e5=>?_,hr.s.size,hr.s.p6,hr.s.gl⟩,by rw [hr.n,t1],fun k eA=>?_,hr.d⟩,rfl,rfl,rfl,ah _,fun _ _ _ hc _=>hc,fun _ _ _=>rfl,fun g o hm=>.inl (hM g o hm),fun b hb=>?_⟩
 ·obtain ⟨L,q1,q2,q3,q4⟩:=hr.s.cf _ _ (h.s b cf hb)
  have bD:=(aH.1 hb).1
  exact ⟨L,by simp [jK,bD,q1],q2,q3,(q4.mono hk (fun _ _ h=>h) rfl).dI (h.ls b cf hb)⟩
 ·have l1:=(aH.1 e1).1
  have l2:=(aH.1 e2).1
  simp only [jK,l1,l2,if_true] at e3 e4
  exact h.inj b b' l1 l2 (hr.s.inj _ _ _ _ L L' (h.s b x e1) (h.s b' y e2) e3 e4 e5)
 ·rcases t2 k eA with e | e
  ·rw [lD] at e
   have:dZ.tm.getD k .undef = .undef:=by
    revert e;cases dZ.tm.getD k .undef<;>simp [cV.dI]
   rw [this];exact .undef _
  ·have:=(hr.t k (by omega)).mono hk (fun _ _ h=>h)
   exact this.dI _ (by rw [← e,lD]) (iX h.lt k)
 ·have:b<dZ.σ.length:=by omega
  simp [jK,this,h.fix b hb]
end
section
variable {P:Program} {lo:Ctx} {st:St} {Q:cb→St→Prop}
theorem ic.gS {ι:Type} (I : ι→St) (μ : ι→Nat) {c:Code} (x0 : ι) (h0:∃ π,Wr lo.n π (I x0) st) (iL:∀ x,lo.n≤(I x).σ.length)
  (round:∀ x,ic P lo c (I x) (cb.then (fun s=>∃ y π,Wr lo.n π (I y) s∧μ y < μ x) Q)):ic P lo (.loop c) st Q:=by
 have key:∀ n x,μ x=n→∀ (X:Nat→Nat→Prop) (base mb:Nat) (D:List Deferred) (β:Env) (a:Act) (w:World) (b:Frame) (k:List Item) (cs:List Frame),mb≤w.heap.size→Rel X base mb D (I x) β a w→lo.ok β b →
   ∃ e dZ β' a' w',Q e dZ∧lo.n≤dZ.σ.length∧Rel X base mb D dZ β' a' w'∧Ext lo.n (I x).σ β w dZ.σ β' w'∧zC P (lone (b.atR a (.code c :: .inLoop c :: k)) cs w) b k cs e a' w':=by
  intro n
  induction n using Nat.strongRecOn with
  | _ n ih =>
   intro x hn X base mb D β a w b k cs h2 h3 m9
   obtain ⟨e,ka,eS,a1,w1,q,h4,h5,h6,h7⟩:=round x X base mb D β a w b (.inLoop c :: k) cs (iL x) h2 h3 m9
   cases e with
   | normal =>
    obtain ⟨y,π,hy,NS⟩:=q
    obtain ⟨hw,hx⟩:=hy.rel h5 (iL y)
    obtain ⟨e2,AW,mI,a2,w2,q2,g4,g5,g6,g7⟩:=ih (μ y) (hn ▸ NS) y rfl X base mb D _ a1 w1 b k cs (cR h2 h6.size) hw ((m9.ext h6).ext hx)
    exact ⟨e2,AW,mI,a2,w2,q2,g4,g5,(h6.trans hx).trans g6, .of_steps (Steps.trans h7 (.one stepR_inLoop)) g7⟩
   | exit id=>obtain ⟨k',e1,e2⟩:=h7;exact ⟨.exit id,ka,eS,a1,w1,q,h4,h5,h6,k',by rw [e1];rfl,e2⟩
   | goto l=>obtain ⟨k',e1,e2⟩:=h7;exact ⟨.goto l,ka,eS,a1,w1,q,h4,h5,h6,k',by rw [e1];rfl,e2⟩
   | ret=>exact ⟨.ret,ka,eS,a1,w1,q,h4,h5,h6,h7⟩
   | panic u=>exact ⟨.panic u,ka,eS,a1,w1,q,h4,h5,h6,h7⟩
 intro X base mb D β a w b k cs h1 h2 h3 m9
 obtain ⟨π,EL⟩:=h0
 obtain ⟨hw,hx⟩:=EL.rel h3 (iL x0)
 obtain ⟨e,ka,eS,a1,w1,q,h4,h5,h6,h7⟩:=key _ x0 rfl X base mb D _ a w b k cs h2 hw (m9.ext hx)
 exact ⟨e,ka,eS,a1,w1,q,h4,h5,hx.trans h6, .of_steps (.one stepR_loop) h7⟩
def gb (π:Nat→Nat) (σ:ai):Nat→ai→Prop
 | _,[]=>True
 | i,none :: r=>gb π σ (i+1) r
 | i,some x :: r=>bF σ (π i)=some (dG π x)∧gb π σ (i+1) r
theorem HD {π:Nat→Nat} {σ:ai}:∀ (r:ai) (i:Nat),gb π σ i r→∀ b x,r[b]? = some (some x)→σ[π (i+b)]? = some (some (dG π x))
 | [],_,_,b,x,hx=>by simp at hx
 | none :: r,i,h,0,x,hx=>by simp at hx
 | some y :: r,i,h,0,x,hx=>by
  simp only [fm,aE] at hx
  subst hx
  exact jU h.1
 | none :: r,i,h,b+1,x,hx=>by
  have:=HD r (i+1) h b x (by simpa using hx)
  rwa [show i+1+b=i+(b+1) by omega] at this
 | some y :: r,i,h,b+1,x,hx=>by
  have:=HD r (i+1) h.2 b x (by simpa using hx)
  rwa [show i+1+b=i+(b+1) by omega] at this
def pi (l:List (Nat×Nat)) (b:Nat):Nat:=(l.lookup b).getD b
def qk (l:List (Nat×Nat)) (lo n:Nat):Bool:=((List.range lo).all fun b=>pi l b==b)&&(List.range n).all fun i=>(List.range n).all fun j=>i==j||pi l i != pi l j
def G2 (lo:Nat) (l:List (Nat×Nat)) (jE:List ae) (σ':ai) (s:St):Prop :=
 qk l lo σ'.length=true∧lT (dY (pi l) jE) s.tm∧gb (pi l) s.σ 0 σ'∧bx σ'.length jE∧bt σ'.length σ'
theorem PD {lo:Nat} {l:List (Nat×Nat)} {jE:List ae} {σ':ai} {s:St} (h:G2 lo l jE σ' s):Wr lo (pi l) ⟨jE,σ'⟩ s:=by
 obtain ⟨h1,h2,h3,h4,h5⟩:=h
 simp only [qk,aD,bp,cw,b9,beq_iff_eq,bne_iff_ne] at h1
 refine ⟨h1.1,fun b b' l1 l2 e=>(h1.2 b l1 b' l2).resolve_right (fun n=>n e),h2,fun b x hb=>?_,h4,qA h5⟩
 have:=HD σ' 0 h3 b x hb
 rwa [bm] at this
def pL {ι:Type} (P:Program) (lo:Ctx) (Q:cb→St→Prop) (k:List KI) (I : ι→List ae) (S : ι→ai) (μ : ι→Nat) (x : ι):cb→St→Prop
 | .normal,s=>∃ y l,G2 lo.n l (I y) (S y) s∧μ y < μ x
 | e,s=>aK P lo Q k e s
theorem aK.gS {ι:Type} (n:Nat) (I : ι→List ae) (S : ι→ai) (μ : ι→Nat) {c:Code} {k:List KI} {tm:List ae} {σ:ai} (x0 : ι) (l0:List (Nat×Nat)) (h0:G2 lo.n l0 (I x0) (S x0) ⟨tm,σ⟩) (iL:∀ x,lo.n≤(S x).length)
  (round:∀ x,dW P lo (pL P lo Q k I S μ x) n [.code c] .normal (I x) (S x)):aK P lo Q (.code (.loop c) :: k) .normal ⟨tm,σ⟩ :=
 ic.gS (ι:=ι) (fun x=>⟨I x,S x⟩) μ x0 ⟨_,PD h0⟩ iL fun x=>by
  have:=Cf n _ _ _ _ (round x)
  refine ic.mono this fun e s q=>?_
  simp only [aK] at q
  cases e with
  | normal=>obtain ⟨y,l,h1,h2⟩:=q;exact ⟨y,pi l,PD h1,h2⟩
  | exit id=>exact q
  | goto l=>exact q
  | ret=>exact q
  | panic u=>exact q
theorem Xy {ι:Type} {k:List KI} {I : ι→List ae} {S : ι→ai} {μ : ι→Nat} {x : ι} {s:St}:pL P lo Q k I S μ x .normal s = ∃ y l,G2 lo.n l (I y) (S y) s∧μ y < μ x:=rfl
theorem Yrg {ι:Type} {k:List KI} {I : ι→List ae} {S : ι→ai} {μ : ι→Nat} {x : ι} {s:St} {i:Nat}:pL P lo Q k I S μ x (.exit i) s=aK P lo Q k (.exit i) s:=rfl
theorem Yp4 {ι:Type} {k:List KI} {I : ι→List ae} {S : ι→ai} {μ : ι→Nat} {x : ι} {s:St} {i:Nat}:pL P lo Q k I S μ x (.goto i) s=aK P lo Q k (.goto i) s:=rfl
theorem Ylj {ι:Type} {k:List KI} {I : ι→List ae} {S : ι→ai} {μ : ι→Nat} {x : ι} {s:St} {u:Value}:pL P lo Q k I S μ x (.panic u) s=aK P lo Q k (.panic u) s:=rfl
theorem Ywd {ι:Type} {k:List KI} {I : ι→List ae} {S : ι→ai} {μ : ι→Nat} {x : ι} {s:St}:pL P lo Q k I S μ x .ret s=aK P lo Q k .ret s:=rfl
theorem KD {π:Nat→Nat} {σ:ai} {i:Nat}:gb π σ i []=True:=rfl
theorem HA {π:Nat→Nat} {σ r:ai} {i:Nat}:gb π σ i (none :: r)=gb π σ (i+1) r:=rfl
theorem Hw {π:Nat→Nat} {σ r:ai} {i:Nat} {x:bE}:gb π σ i (some x :: r)=(bF σ (π i)=some (dG π x)∧gb π σ (i+1) r):=rfl
theorem iF {lo:Nat} {l:List (Nat×Nat)} {jE:List ae} {σ':ai} {s:St} (h:qk l lo σ'.length=true) (h2:lT (dY (pi l) jE) s.tm∧gb (pi l) s.σ 0 σ'∧bx σ'.length jE∧bt σ'.length σ'):G2 lo l jE σ' s:=⟨h,h2⟩
theorem Yt7 {x:Nat}:pi [] x=x:=rfl
theorem Yrd {a b x:Nat} {l:List (Nat×Nat)}:pi ((a,b) :: l) x=if x=a then b else pi l x:=by
 simp only [pi,List.lookup_cons]
 by_cases h:x=a
 ·subst h;simp
 ·have:(x==a)=false:=by simp [h]
  simp [this,h]
theorem zT {π:Nat→Nat} {a:ae} (h:a.low 0):dI π a=a:=FJ π 0 (fun b hb=>absurd hb (by omega)) a h
theorem cz {π:Nat→Nat} {l:List ae} (h:bx 0 l):dY π l=l:=qn π 0 (fun b hb=>absurd hb (by omega)) l h
attribute [go_sem] Yt7 Yrd
attribute [go_sem] Xy Yrg Yp4 Ywd Ylj KD HA Hw dI dY dG
end
end Go.cV
