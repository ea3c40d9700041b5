/- Part 33 of my own framework and of the walks of functions: AcsH. -/
import Derived.Test.YtfjbdamcmiglgaaGreatOwn32
set_option linter.unusedVariables false
set_option linter.unusedSectionVars false
set_option linter.unusedSimpArgs false
namespace Go.c8
open Go
mutual
def dG (π:Nat→Nat):ae→ae
 | .ptr b o=>.ptr (π b) o
 | .rp b i f=>.rp (π b) i f
 | .os b o n s=>.os (π b) o n s
 | .oc b o n c s=>.oc (π b) o n c s
 | .ld b=>.ld (π b)
 | .map b=>.map (π b)
 | .it b=>.it (π b)
 | .pp cs=>.pp (dU π cs)
 | .ps s es=>.ps s (dU π es)
 | .fn f a c=>.fn f (dU π a) (dU π c)
 | .pm ks vs=>.pm (dU π ks) (dU π vs)
 | .agg cs=>.agg (dU π cs)
 | .dz cs=>.dz (dU π cs)
 | .iface t v=>.iface t (dG π v)
 | a=>a
def dU (π:Nat→Nat):List ae→List ae
 | []=>[]
 | a :: cj=>dG π a :: dU π cj
end
theorem jw (π:Nat→Nat):∀ l:List ae,(dU π l).length=l.length
 | []=>rfl
 | a :: cj=>by simp [dU,jw π cj]
theorem lG (π:Nat→Nat):∀ (l:List ae) (k:Nat),(dU π l).getD k .undef=dG π (l.getD k .undef)
 | [],k=>by simp [dU,dG]
 | a :: cj,0=>by simp [dU]
 | a :: cj,k+1=>by simp only [dU,bB];exact lG π cj k
theorem A8 (π:Nat→Nat) (a:ae):(dG π a).cells=dU π a.cells:=by cases a<;>simp [dG,dU,ae.cells]
mutual
theorem FC (π:Nat→Nat) (n:Nat) (h:∀ b,b<n→π b=b):∀ a:ae,a.low n→dG π a=a
 | .ptr b _,k=>by simp only [dG];rw [h b k]
 | .rp b _ _,k=>by simp only [dG];rw [h b k]
 | .os b _ _ _,k=>by simp only [dG];rw [h b k]
 | .oc b _ _ _ _,k=>by simp only [dG];rw [h b k]
 | .gZ,_=>rfl
 | .ld b,k=>by simp only [dG];rw [h b k]
 | .map b,k=>by simp only [dG];rw [h b k]
 | .it b,k=>by simp only [dG];rw [h b k]
 | .pp cs,k=>by simp only [dG];rw [qg π n h cs k]
 | .ps _ es,k=>by simp only [dG];rw [qg π n h es k]
 | .fn _ a c,k=>by simp only [dG];rw [qg π n h a k.1,qg π n h c k.2]
 | .pm ks vs,k=>by simp only [dG];rw [qg π n h ks k.1,qg π n h vs k.2]
 | .agg cs,k=>by simp only [dG];rw [qg π n h cs k]
 | .dz cs,k=>by simp only [dG];rw [qg π n h cs k]
 | .iface _ v,k=>by simp only [dG];rw [FC π n h v k]
 | .undef,_=>rfl
 | .bool _,_=>rfl
 | .int _ _,_=>rfl
 | .str _,_=>rfl
 | .bM,_=>rfl
 | .aU,_=>rfl
 | .az,_=>rfl
 | .cw,_=>rfl
 | .fC,_=>rfl
 | .nL _,_=>rfl
theorem qg (π:Nat→Nat) (n:Nat) (h:∀ b,b<n→π b=b):∀ l:List ae,bx n l→dU π l=l
 | [],_=>rfl
 | a :: cj,k=>by simp only [dU];rw [FC π n h a k.1,qg π n h cj k.2]
end
def dE (π:Nat→Nat):bE→bE
 | .var cs=>.var (dU π cs)
 | .row es fz=>.row (dU π es) fz
 | .map ks vs f=>.map (dU π ks) (dU π vs) f
 | .iter s p=>.iter s p
 | .kZ ks vs seen=>.kZ (dU π ks) (dU π vs) seen
 | .loop r=>.loop { r with tm:=dU π r.tm }
def jK (β:Env) (π:Nat→Nat) (n:Nat):Env:=fun b=>if b<n then β (π b) else none
theorem bR.dG {w:World} {M:Nat→Nat→Prop} {β:Env} {π:Nat→Nat} {n:Nat} {v:Value} {a0:ae} (h:bR w M β v a0):∀ a,a0=dG π a→a.low n→bR w M (jK β π n) v a:=by
 have he:∀ b L,b<n→β (π b)=some L→jK β π n b=some L:=fun b L hb h=>by simp [jK,hb,h]
 induction h with
 | undef v=>intro a e _;cases a<;>simp only [c8.dG,reduceCtorEq] at e;exact .undef v
 | bool b=>intro a e _;cases a<;>simp only [c8.dG,reduceCtorEq,ae.bool.injEq] at e;subst e;exact .bool _
 | int k i=>intro a e _;cases a<;>simp only [c8.dG,reduceCtorEq,ae.int.injEq] at e;obtain ⟨rfl,rfl⟩:=e;exact .int _ _
 | str s=>intro a e _;cases a<;>simp only [c8.dG,reduceCtorEq,ae.str.injEq] at e;subst e;exact .str _
 | bM=>intro a e _;cases a<;>simp only [c8.dG,reduceCtorEq] at e;exact .bM
 | ptr h=>intro a e hl;cases a<;>simp only [c8.dG,reduceCtorEq,ae.ptr.injEq] at e;obtain ⟨rfl,rfl⟩:=e;exact .ptr (he _ _ hl h)
 | rp h=>intro a e hl;cases a<;>simp only [c8.dG,reduceCtorEq,ae.rp.injEq] at e;obtain ⟨rfl,rfl,rfl⟩:=e;exact .rp (he _ _ hl h)
 | pp cv hc _ ih =>
  intro a e hl;cases a<;>simp only [c8.dG,reduceCtorEq,ae.pp.injEq] at e
  subst e
  exact .pp cv (fun k hk=>hc k (by rw [jw];exact hk)) fun k hk=>ih k (by rw [jw];exact hk) _ (lG _ _ _) (iW hl k)
 | aU ad=>intro a e _;cases a<;>simp only [c8.dG,reduceCtorEq] at e;exact .aU _
 | ps cv jd fF hc ha _ ih =>
  intro a e hl;cases a<;>simp only [c8.dG,reduceCtorEq,ae.ps.injEq] at e
  obtain ⟨rfl,rfl⟩:=e
  rw [jw] at jd fF hc ha ih ⊢
  exact .ps cv jd (fun i hi=>by have:=fF i hi;rw [lG,A8,jw] at this;exact this) hc ha fun i j hi hj=>ih i j hi hj _ (by rw [lG,A8,lG]) (iW (DY (iW hl i)) j)
 | sd ad h=>intro a e hl;cases a<;>simp only [c8.dG,reduceCtorEq,ae.os.injEq] at e;obtain ⟨rfl,rfl,rfl,rfl⟩:=e;exact .sd _ (he _ _ hl h)
 | os h h1 h2=>intro a e hl;cases a<;>simp only [c8.dG,reduceCtorEq,ae.os.injEq] at e;obtain ⟨rfl,rfl,rfl,rfl⟩:=e;exact .os (he _ _ hl h) h1 h2
 | gZ b=>intro a e _;cases a<;>simp only [c8.dG,reduceCtorEq] at e;exact .gZ b
 | sc ad h=>intro a e hl;cases a<;>simp only [c8.dG,reduceCtorEq,ae.oc.injEq] at e;obtain ⟨rfl,rfl,rfl,rfl,rfl⟩:=e;exact .sc _ (he _ _ hl h)
 | oc h h1 h2=>intro a e hl;cases a<;>simp only [c8.dG,reduceCtorEq,ae.oc.injEq] at e;obtain ⟨rfl,rfl,rfl,rfl,rfl⟩:=e;exact .oc (he _ _ hl h) h1 h2
 | az=>intro a e _;cases a<;>simp only [c8.dG,reduceCtorEq] at e;exact .az
 | fn h1 h2 _ _ kA oA =>
  intro a e hl;cases a<;>simp only [c8.dG,reduceCtorEq,ae.fn.injEq] at e
  obtain ⟨rfl,rfl,rfl⟩:=e
  rw [jw] at h1 h2 kA oA
  exact .fn h1 h2 (fun k hk=>kA k hk _ (lG _ _ _) (iW hl.1 k)) (fun k hk=>oA k hk _ (lG _ _ _) (iW hl.2 k))
 | ld h=>intro a e hl;cases a<;>simp only [c8.dG,reduceCtorEq,ae.ld.injEq] at e;subst e;exact .ld (he _ _ hl h)
 | cw=>intro a e _;cases a<;>simp only [c8.dG,reduceCtorEq] at e;exact .cw
 | map h=>intro a e hl;cases a<;>simp only [c8.dG,reduceCtorEq,ae.map.injEq] at e;subst e;exact .map (he _ _ hl h)
 | pm hg hm h1 h2 _ _ hb kA oA =>
  intro a e hl;cases a<;>simp only [c8.dG,reduceCtorEq,ae.pm.injEq] at e
  obtain ⟨rfl,rfl⟩:=e
  rw [jw] at h1 h2 kA oA
  rw [jw] at h2
  exact .pm hg hm h1 h2 (fun k hk=>kA k hk _ (lG _ _ _) (iW hl.1 k)) (fun k hk=>oA k hk _ (lG _ _ _) (iW hl.2 k)) hb
 | it h=>intro a e hl;cases a<;>simp only [c8.dG,reduceCtorEq,ae.it.injEq] at e;subst e;exact .it (he _ _ hl h)
 | agg h _ ih =>
  intro a e hl;cases a<;>simp only [c8.dG,reduceCtorEq,ae.agg.injEq] at e
  subst e
  rw [jw] at h ih
  exact .agg h fun k hk=>ih k hk _ (lG _ _ _) (iW hl k)
 | dz h _ ih =>
  intro a e hl;cases a<;>simp only [c8.dG,reduceCtorEq,ae.dz.injEq] at e
  subst e
  rw [jw] at h ih
  exact .dz h fun k hk=>ih k hk _ (lG _ _ _) (iW hl k)
 | fC=>intro a e _;cases a<;>simp only [c8.dG,reduceCtorEq] at e;exact .fC
 | iface h ih=>intro a e hl;cases a<;>simp only [c8.dG,reduceCtorEq,ae.iface.injEq] at e;obtain ⟨rfl,rfl⟩:=e;exact .iface (ih _ rfl hl)
 | nL v=>intro a e _;cases a<;>simp only [c8.dG,reduceCtorEq,ae.nL.injEq] at e;subst e;exact .nL _
theorem fR.dG {w:World} {M:Nat→Nat→Prop} {β:Env} {π:Nat→Nat} {n:Nat} {L:Loc} {cd:bE} (h:fR w M β L (dE π cd)) (hl:cd.low n):fR w M (jK β π n) L cd:=by
 cases cd with
 | var cs =>
  obtain ⟨c,e,h1,h0,h2,h3⟩:=h
  rw [jw] at h2 h3
  exact ⟨c,e,h1,h0,h2,fun k hk=>(h3 k hk).dG _ (lG _ _ _) (iW hl k)⟩
 | row es fz =>
  obtain ⟨c,e,h1,h2,h3,h4,h5⟩:=h
  rw [jw] at h3 h4 h5
  exact ⟨c,e,h1,h2,h3,fun i hi=>by have:=h4 i hi;rw [lG,A8,jw] at this;exact this,fun i j hi hj=>(h5 i j hi hj).dG _ (by rw [lG,A8,lG]) (iW (DY (iW hl i)) j)⟩
 | map ks vs f =>
  obtain ⟨es,clk,h1,h2,h3,h4,h5,h6⟩:=h
  rw [jw] at h2 h3 h4 h5
  rw [jw] at h3
  exact ⟨es,clk,h1,h2,h3,fun k hk=>(h4 k hk).dG _ (lG _ _ _) (iW hl.1 k),fun k hk=>(h5 k hk).dG _ (lG _ _ _) (iW hl.2 k),h6⟩
 | iter s p=>exact h
 | kZ ks vs seen =>
  obtain ⟨m,es,clk,h1,h2,h3,h4,h5,h6,h7,h8,h9⟩:=h
  rw [jw] at h4 h5 h6 h7 h9
  rw [jw] at h5
  exact ⟨m,es,clk,h1,h2,h3,h4,h5,fun k hk=>(h6 k hk).dG _ (lG _ _ _) (iW hl.1 k),fun k hk=>(h7 k hk).dG _ (lG _ _ _) (iW hl.2 k),h8,h9⟩
 | loop r =>
  obtain ⟨t,d,f,h1,h2,h3⟩:=h
  simp only [jw] at h2 h3
  exact ⟨t,d,f,h1,h2,fun k hk=>(h3 k hk).dG _ (lG _ _ _) (iW hl k)⟩
theorem Ce {π:Nat→Nat} {L:Loc} {cd:bE} {o:Nat}:(dE π cd).mut L o=cd.mut L o:=by cases cd<;>rfl
structure Wr (lo:Nat) (π:Nat→Nat) (dV st:St):Prop where
 fix:∀ b,b<lo→π b=b
 inj:∀ b b',b<dV.σ.length→b'<dV.σ.length→π b = π b'→b=b'
 tm:lV (dU π dV.tm) st.tm
 s:∀ (b:Nat) x,dV.σ[b]? = some (some x)→st.σ[π b]? = some (some (dE π x))
 lt:bx dV.σ.length dV.tm
 ls:yD dV.σ.length dV.σ
section
variable {P:Program} {X:Nat→Nat→Prop} {base mb lo:Nat} {D:List Deferred} {st dV:St} {β:Env} {a:Act} {w:World} {π:Nat→Nat}
theorem Wr.rel (h:Wr lo π dV st) (hr:Rel X base mb D st β a w) (iJ:lo≤dV.σ.length):Rel X base mb D dV (jK β π dV.σ.length) a w∧Ext lo st.σ β w dV.σ (jK β π dV.σ.length) w:=by
 have hM:∀ g o,iO dV.σ (jK β π dV.σ.length) g o→iO st.σ β g o:=by
  rintro g o ⟨b,cd,L,m1,m2,m3,m4⟩
  have hb:=(aI.1 m1).1
  simp only [jK,hb,if_true] at m2
  exact ⟨π b,_,L,h.s b cd m1,m2,m3,by rw [Ce];exact m4⟩
 have hk:df w (MT X st.σ β) w (MT X dV.σ (jK β π dV.σ.length)):=df.lP fun g o hm=>hm.imp id (hM g o)
 obtain ⟨t1,t2⟩:=EY h.tm
 rw [jw] at t1 t2
 refine ⟨⟨⟨fun b hb=>by simp [jK];omega,fun b cd hb=>?_,fun b b' x y L L' e1 e2 e3 e4 e5=>?_,hr.s.size,hr.s.pW,hr.s.gl⟩,by rw [hr.n,t1],fun k er=>?_,hr.d⟩,rfl,rfl,rfl,ah _,fun _ _ _ hc _=>hc,fun _ _ _=>rfl,fun g o hm=>.inl (hM g o hm),fun b hb=>?_⟩
 ·obtain ⟨L,q1,q2,q3,q4⟩:=hr.s.cd _ _ (h.s b cd hb)
  have bD:=(aI.1 hb).1
  exact ⟨L,by simp [jK,bD,q1],q2,q3,(q4.mono hk (fun _ _ h=>h) rfl).dG (h.ls b cd hb)⟩
 ·have l1:=(aI.1 e1).1
  have l2:=(aI.1 e2).1
  simp only [jK,l1,l2,if_true] at e3 e4
  exact h.inj b b' l1 l2 (hr.s.inj _ _ _ _ L L' (h.s b x e1) (h.s b' y e2) e3 e4 e5)
 ·rcases t2 k er with e | e
  ·rw [lG] at e
   have:dV.tm.getD k .undef = .undef:=by
    revert e;cases dV.tm.getD k .undef<;>simp [c8.dG]
   rw [this];exact .undef _
  ·have:=(hr.t k (by omega)).mono hk (fun _ _ h=>h)
   exact this.dG _ (by rw [← e,lG]) (iW h.lt k)
 ·have:b<dV.σ.length:=by omega
  simp [jK,this,h.fix b hb]
end
section
variable {P:Program} {lo:Ctx} {st:St} {Q:b9→St→Prop}
theorem ib.h_ {ι:Type} (I : ι→St) (μ : ι→Nat) {c:Code} (x0 : ι) (h0:∃ π,Wr lo.n π (I x0) st) (iJ:∀ x,lo.n≤(I x).σ.length)
  (round:∀ x,ib P lo c (I x) (b9.then (fun s=>∃ y π,Wr lo.n π (I y) s∧μ y < μ x) Q)):ib P lo (.loop c) st Q:=by
 have key:∀ n x,μ x=n→∀ (X:Nat→Nat→Prop) (base mb:Nat) (D:List Deferred) (β:Env) (a:Act) (w:World) (b:Frame) (k:List Item) (cs:List Frame),mb≤w.heap.size→Rel X base mb D (I x) β a w→lo.ok β b →
   ∃ e dV β' a' w',Q e dV∧lo.n≤dV.σ.length∧Rel X base mb D dV β' a' w'∧Ext lo.n (I x).σ β w dV.σ β' w'∧zx P (lone (b.atR a (.code c :: .inLoop c :: k)) cs w) b k cs e a' w':=by
  intro n
  induction n using Nat.strongRecOn with
  | _ n ih =>
   intro x hn X base mb D β a w b k cs h2 h3 m9
   obtain ⟨e,kb,eO,a1,w1,q,h4,h5,h6,h7⟩:=round x X base mb D β a w b (.inLoop c :: k) cs (iJ x) h2 h3 m9
   cases e with
   | normal =>
    obtain ⟨y,π,hy,NC⟩:=q
    obtain ⟨hw,hx⟩:=hy.rel h5 (iJ y)
    obtain ⟨e2,AK,mJ,a2,w2,q2,g4,g5,g6,g7⟩:=ih (μ y) (hn ▸ NC) y rfl X base mb D _ a1 w1 b k cs (cP h2 h6.size) hw ((m9.ext h6).ext hx)
    exact ⟨e2,AK,mJ,a2,w2,q2,g4,g5,(h6.trans hx).trans g6, .of_steps (Steps.trans h7 (.one stepR_inLoop)) g7⟩
   | exit id=>obtain ⟨k',e1,e2⟩:=h7;exact ⟨.exit id,kb,eO,a1,w1,q,h4,h5,h6,k',by rw [e1];rfl,e2⟩
   | goto l=>obtain ⟨k',e1,e2⟩:=h7;exact ⟨.goto l,kb,eO,a1,w1,q,h4,h5,h6,k',by rw [e1];rfl,e2⟩
   | ret=>exact ⟨.ret,kb,eO,a1,w1,q,h4,h5,h6,h7⟩
   | panic u=>exact ⟨.panic u,kb,eO,a1,w1,q,h4,h5,h6,h7⟩
 intro X base mb D β a w b k cs h1 h2 h3 m9
 obtain ⟨π,ED⟩:=h0
 obtain ⟨hw,hx⟩:=ED.rel h3 (iJ x0)
 obtain ⟨e,kb,eO,a1,w1,q,h4,h5,h6,h7⟩:=key _ x0 rfl X base mb D _ a w b k cs h2 hw (m9.ext hx)
 exact ⟨e,kb,eO,a1,w1,q,h4,h5,hx.trans h6, .of_steps (.one stepR_loop) h7⟩
def gj (π:Nat→Nat) (σ:ai):Nat→ai→Prop
 | _,[]=>True
 | i,none :: r=>gj π σ (i+1) r
 | i,some x :: r=>bG σ (π i)=some (dE π x)∧gj π σ (i+1) r
theorem Hn {π:Nat→Nat} {σ:ai}:∀ (r:ai) (i:Nat),gj π σ i r→∀ b x,r[b]? = some (some x)→σ[π (i+b)]? = some (some (dE π x))
 | [],_,_,b,x,hx=>by simp at hx
 | none :: r,i,h,0,x,hx=>by simp at hx
 | some y :: r,i,h,0,x,hx=>by
  simp only [fm,aG] at hx
  subst hx
  exact jU h.1
 | none :: r,i,h,b+1,x,hx=>by
  have:=Hn r (i+1) h b x (by simpa using hx)
  rwa [show i+1+b=i+(b+1) by omega] at this
 | some y :: r,i,h,b+1,x,hx=>by
  have:=Hn r (i+1) h.2 b x (by simpa using hx)
  rwa [show i+1+b=i+(b+1) by omega] at this
def pi (l:List (Nat×Nat)) (b:Nat):Nat:=(l.lookup b).getD b
def qd (l:List (Nat×Nat)) (lo n:Nat):Bool:=((List.range lo).all fun b=>pi l b==b)&&(List.range n).all fun i=>(List.range n).all fun j=>i==j||pi l i != pi l j
def GU (lo:Nat) (l:List (Nat×Nat)) (jE:List ae) (σ':ai) (s:St):Prop :=
 qd l lo σ'.length=true∧lV (dU (pi l) jE) s.tm∧gj (pi l) s.σ 0 σ'∧bx σ'.length jE∧bt σ'.length σ'
theorem Pn {lo:Nat} {l:List (Nat×Nat)} {jE:List ae} {σ':ai} {s:St} (h:GU lo l jE σ' s):Wr lo (pi l) ⟨jE,σ'⟩ s:=by
 obtain ⟨h1,h2,h3,h4,h5⟩:=h
 simp only [qd,aD,bp,cu,bY,beq_iff_eq,bne_iff_ne] at h1
 refine ⟨h1.1,fun b b' l1 l2 e=>(h1.2 b l1 b' l2).resolve_right (fun n=>n e),h2,fun b x hb=>?_,h4,qs h5⟩
 have:=Hn σ' 0 h3 b x hb
 rwa [bm] at this
def pF {ι:Type} (P:Program) (lo:Ctx) (Q:b9→St→Prop) (k:List KI) (I : ι→List ae) (S : ι→ai) (μ : ι→Nat) (x : ι):b9→St→Prop
 | .normal,s=>∃ y l,GU lo.n l (I y) (S y) s∧μ y < μ x
 | e,s=>aK P lo Q k e s
theorem aK.h_ {ι:Type} (n:Nat) (I : ι→List ae) (S : ι→ai) (μ : ι→Nat) {c:Code} {k:List KI} {tm:List ae} {σ:ai} (x0 : ι) (l0:List (Nat×Nat)) (h0:GU lo.n l0 (I x0) (S x0) ⟨tm,σ⟩) (iJ:∀ x,lo.n≤(S x).length)
  (round:∀ x,dT P lo (pF P lo Q k I S μ x) n [.code c] .normal (I x) (S x)):aK P lo Q (.code (.loop c) :: k) .normal ⟨tm,σ⟩ :=
 ib.h_ (ι:=ι) (fun x=>⟨I x,S x⟩) μ x0 ⟨_,Pn h0⟩ iJ fun x=>by
  have:=B5 n _ _ _ _ (round x)
  refine ib.mono this fun e s q=>?_
  simp only [aK] at q
  cases e with
  | normal=>obtain ⟨y,l,h1,h2⟩:=q;exact ⟨y,pi l,Pn h1,h2⟩
  | exit id=>exact q
  | goto l=>exact q
  | ret=>exact q
  | panic u=>exact q
theorem Ya {ι:Type} {k:List KI} {I : ι→List ae} {S : ι→ai} {μ : ι→Nat} {x : ι} {s:St}:pF P lo Q k I S μ x .normal s = ∃ y l,GU lo.n l (I y) (S y) s∧μ y < μ x:=rfl
theorem Yra {ι:Type} {k:List KI} {I : ι→List ae} {S : ι→ai} {μ : ι→Nat} {x : ι} {s:St} {i:Nat}:pF P lo Q k I S μ x (.exit i) s=aK P lo Q k (.exit i) s:=rfl
theorem Yoc {ι:Type} {k:List KI} {I : ι→List ae} {S : ι→ai} {μ : ι→Nat} {x : ι} {s:St} {i:Nat}:pF P lo Q k I S μ x (.goto i) s=aK P lo Q k (.goto i) s:=rfl
theorem Yls {ι:Type} {k:List KI} {I : ι→List ae} {S : ι→ai} {μ : ι→Nat} {x : ι} {s:St} {u:Value}:pF P lo Q k I S μ x (.panic u) s=aK P lo Q k (.panic u) s:=rfl
theorem Ytu {ι:Type} {k:List KI} {I : ι→List ae} {S : ι→ai} {μ : ι→Nat} {x : ι} {s:St}:pF P lo Q k I S μ x .ret s=aK P lo Q k .ret s:=rfl
theorem Kq {π:Nat→Nat} {σ:ai} {i:Nat}:gj π σ i []=True:=rfl
theorem Hu {π:Nat→Nat} {σ r:ai} {i:Nat}:gj π σ i (none :: r)=gj π σ (i+1) r:=rfl
theorem Hx {π:Nat→Nat} {σ r:ai} {i:Nat} {x:bE}:gj π σ i (some x :: r)=(bG σ (π i)=some (dE π x)∧gj π σ (i+1) r):=rfl
theorem iP {lo:Nat} {l:List (Nat×Nat)} {jE:List ae} {σ':ai} {s:St} (h:qd l lo σ'.length=true) (h2:lV (dU (pi l) jE) s.tm∧gj (pi l) s.σ 0 σ'∧bx σ'.length jE∧bt σ'.length σ'):GU lo l jE σ' s:=⟨h,h2⟩
theorem Yxa {x:Nat}:pi [] x=x:=rfl
theorem Ypc {a b x:Nat} {l:List (Nat×Nat)}:pi ((a,b) :: l) x=if x=a then b else pi l x:=by
 simp only [pi,List.lookup_cons]
 by_cases h:x=a
 ·subst h;simp
 ·have:(x==a)=false:=by simp [h]
  simp [this,h]
theorem zK {π:Nat→Nat} {a:ae} (h:a.low 0):dG π a=a:=FC π 0 (fun b hb=>absurd hb (by omega)) a h
theorem cD {π:Nat→Nat} {l:List ae} (h:bx 0 l):dU π l=l:=qg π 0 (fun b hb=>absurd hb (by omega)) l h
attribute [go_sem] Yxa Ypc
attribute [go_sem] Ya Yra Yoc Ytu Yls Kq Hu Hx dG dU dE
end
end Go.c8
