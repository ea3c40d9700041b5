/- Part 33 of my own framework and of the walks of functions: AcsH. -/
import Derived.Test.YtfjbdamcmiglgaaGreatOwn32
set_option linter.unusedVariables false
set_option linter.unusedSectionVars false
set_option linter.unusedSimpArgs false
namespace Go.c8
open Go
mutual
def dL (π:Nat→Nat):ae→ae
 | .ptr b o=>.ptr (π b) o
 | .rp b i f=>.rp (π b) i f
 | .os b o n s=>.os (π b) o n s
 | .oc b o n c s=>.oc (π b) o n c s
 | .lz b=>.lz (π b)
 | .map b=>.map (π b)
 | .it b=>.it (π b)
 | .pp cs=>.pp (d_ π cs)
 | .ps s es=>.ps s (d_ π es)
 | .fn f a c=>.fn f (d_ π a) (d_ π c)
 | .pm ks vs=>.pm (d_ π ks) (d_ π vs)
 | .agg cs=>.agg (d_ π cs)
 | .dA cs=>.dA (d_ π cs)
 | .iface t v=>.iface t (dL π v)
 | a=>a
def d_ (π:Nat→Nat):List ae→List ae
 | []=>[]
 | a :: cm=>dL π a :: d_ π cm
end
theorem jL (π:Nat→Nat):∀ l:List ae,(d_ π l).length=l.length
 | []=>rfl
 | a :: cm=>by simp [d_,jL π cm]
theorem lS (π:Nat→Nat):∀ (l:List ae) (k:Nat),(d_ π l).getD k .undef=dL π (l.getD k .undef)
 | [],k=>by simp [d_,dL]
 | a :: cm,0=>by simp [d_]
 | a :: cm,k+1=>by simp only [d_,bC];exact lS π cm k
theorem Bp (π:Nat→Nat) (a:ae):(dL π a).cells=d_ π a.cells:=by cases a<;>simp [dL,d_,ae.cells]
mutual
theorem F6 (π:Nat→Nat) (n:Nat) (h:∀ b,b<n→π b=b):∀ a:ae,a.low n→dL π a=a
 | .ptr b _,k=>by simp only [dL];rw [h b k]
 | .rp b _ _,k=>by simp only [dL];rw [h b k]
 | .os b _ _ _,k=>by simp only [dL];rw [h b k]
 | .oc b _ _ _ _,k=>by simp only [dL];rw [h b k]
 | .ig,_=>rfl
 | .lz b,k=>by simp only [dL];rw [h b k]
 | .map b,k=>by simp only [dL];rw [h b k]
 | .it b,k=>by simp only [dL];rw [h b k]
 | .pp cs,k=>by simp only [dL];rw [qx π n h cs k]
 | .ps _ es,k=>by simp only [dL];rw [qx π n h es k]
 | .fn _ a c,k=>by simp only [dL];rw [qx π n h a k.1,qx π n h c k.2]
 | .pm ks vs,k=>by simp only [dL];rw [qx π n h ks k.1,qx π n h vs k.2]
 | .agg cs,k=>by simp only [dL];rw [qx π n h cs k]
 | .dA cs,k=>by simp only [dL];rw [qx π n h cs k]
 | .iface _ v,k=>by simp only [dL];rw [F6 π n h v k]
 | .undef,_=>rfl
 | .bool _,_=>rfl
 | .int _ _,_=>rfl
 | .str _,_=>rfl
 | .bN,_=>rfl
 | .aU,_=>rfl
 | .az,_=>rfl
 | .cC,_=>rfl
 | .fR,_=>rfl
 | .nX _,_=>rfl
theorem qx (π:Nat→Nat) (n:Nat) (h:∀ b,b<n→π b=b):∀ l:List ae,bz n l→d_ π l=l
 | [],_=>rfl
 | a :: cm,k=>by simp only [d_];rw [F6 π n h a k.1,qx π n h cm k.2]
end
def dI (π:Nat→Nat):bE→bE
 | .var cs=>.var (d_ π cs)
 | .row es fz=>.row (d_ π es) fz
 | .map ks vs f=>.map (d_ π ks) (d_ π vs) f
 | .iter s p=>.iter s p
 | .lu ks vs seen=>.lu (d_ π ks) (d_ π vs) seen
 | .loop r=>.loop { r with tm:=d_ π r.tm }
def jY (β:Env) (π:Nat→Nat) (n:Nat):Env:=fun b=>if b<n then β (π b) else none
theorem bS.dL {w:World} {M:Nat→Nat→Prop} {β:Env} {π:Nat→Nat} {n:Nat} {v:Value} {a0:ae} (h:bS w M β v a0):∀ a,a0=dL π a→a.low n→bS w M (jY β π n) v a:=by
 have he:∀ b L,b<n→β (π b)=some L→jY β π n b=some L:=fun b L hb h=>by simp [jY,hb,h]
 induction h with
 | undef v=>intro a e _;cases a<;>simp only [c8.dL,reduceCtorEq] at e;exact .undef v
 | bool b=>intro a e _;cases a<;>simp only [c8.dL,reduceCtorEq,ae.bool.injEq] at e;subst e;exact .bool _
 | int k i=>intro a e _;cases a<;>simp only [c8.dL,reduceCtorEq,ae.int.injEq] at e;obtain ⟨rfl,rfl⟩:=e;exact .int _ _
 | str s=>intro a e _;cases a<;>simp only [c8.dL,reduceCtorEq,ae.str.injEq] at e;subst e;exact .str _
 | bN=>intro a e _;cases a<;>simp only [c8.dL,reduceCtorEq] at e;exact .bN
 | ptr h=>intro a e hl;cases a<;>simp only [c8.dL,reduceCtorEq,ae.ptr.injEq] at e;obtain ⟨rfl,rfl⟩:=e;exact .ptr (he _ _ hl h)
 | rp h=>intro a e hl;cases a<;>simp only [c8.dL,reduceCtorEq,ae.rp.injEq] at e;obtain ⟨rfl,rfl,rfl⟩:=e;exact .rp (he _ _ hl h)
 | pp cv hc _ ih =>
  intro a e hl;cases a<;>simp only [c8.dL,reduceCtorEq,ae.pp.injEq] at e
  subst e
  exact .pp cv (fun k hk=>hc k (by rw [jL];exact hk)) fun k hk=>ih k (by rw [jL];exact hk) _ (lS _ _ _) (ji hl k)
 | aU ad=>intro a e _;cases a<;>simp only [c8.dL,reduceCtorEq] at e;exact .aU _
 | ps cv jr fH hc ha _ ih =>
  intro a e hl;cases a<;>simp only [c8.dL,reduceCtorEq,ae.ps.injEq] at e
  obtain ⟨rfl,rfl⟩:=e
  rw [jL] at jr fH hc ha ih ⊢
  exact .ps cv jr (fun i hi=>by have:=fH i hi;rw [lS,Bp,jL] at this;exact this) hc ha fun i j hi hj=>ih i j hi hj _ (by rw [lS,Bp,lS]) (ji (Ef (ji hl i)) j)
 | sJ ad h=>intro a e hl;cases a<;>simp only [c8.dL,reduceCtorEq,ae.os.injEq] at e;obtain ⟨rfl,rfl,rfl,rfl⟩:=e;exact .sJ _ (he _ _ hl h)
 | os h h1 h2=>intro a e hl;cases a<;>simp only [c8.dL,reduceCtorEq,ae.os.injEq] at e;obtain ⟨rfl,rfl,rfl,rfl⟩:=e;exact .os (he _ _ hl h) h1 h2
 | ig b=>intro a e _;cases a<;>simp only [c8.dL,reduceCtorEq] at e;exact .ig b
 | sI ad h=>intro a e hl;cases a<;>simp only [c8.dL,reduceCtorEq,ae.oc.injEq] at e;obtain ⟨rfl,rfl,rfl,rfl,rfl⟩:=e;exact .sI _ (he _ _ hl h)
 | oc h h1 h2=>intro a e hl;cases a<;>simp only [c8.dL,reduceCtorEq,ae.oc.injEq] at e;obtain ⟨rfl,rfl,rfl,rfl,rfl⟩:=e;exact .oc (he _ _ hl h) h1 h2
 | az=>intro a e _;cases a<;>simp only [c8.dL,reduceCtorEq] at e;exact .az
 | fn h1 h2 _ _ kN oP =>
  intro a e hl;cases a<;>simp only [c8.dL,reduceCtorEq,ae.fn.injEq] at e
  obtain ⟨rfl,rfl,rfl⟩:=e
  rw [jL] at h1 h2 kN oP
  exact .fn h1 h2 (fun k hk=>kN k hk _ (lS _ _ _) (ji hl.1 k)) (fun k hk=>oP k hk _ (lS _ _ _) (ji hl.2 k))
 | lz h=>intro a e hl;cases a<;>simp only [c8.dL,reduceCtorEq,ae.lz.injEq] at e;subst e;exact .lz (he _ _ hl h)
 | cC=>intro a e _;cases a<;>simp only [c8.dL,reduceCtorEq] at e;exact .cC
 | map h=>intro a e hl;cases a<;>simp only [c8.dL,reduceCtorEq,ae.map.injEq] at e;subst e;exact .map (he _ _ hl h)
 | pm hg hm h1 h2 _ _ hb kN oP =>
  intro a e hl;cases a<;>simp only [c8.dL,reduceCtorEq,ae.pm.injEq] at e
  obtain ⟨rfl,rfl⟩:=e
  rw [jL] at h1 h2 kN oP
  rw [jL] at h2
  exact .pm hg hm h1 h2 (fun k hk=>kN k hk _ (lS _ _ _) (ji hl.1 k)) (fun k hk=>oP k hk _ (lS _ _ _) (ji hl.2 k)) hb
 | it h=>intro a e hl;cases a<;>simp only [c8.dL,reduceCtorEq,ae.it.injEq] at e;subst e;exact .it (he _ _ hl h)
 | agg h _ ih =>
  intro a e hl;cases a<;>simp only [c8.dL,reduceCtorEq,ae.agg.injEq] at e
  subst e
  rw [jL] at h ih
  exact .agg h fun k hk=>ih k hk _ (lS _ _ _) (ji hl k)
 | dA h _ ih =>
  intro a e hl;cases a<;>simp only [c8.dL,reduceCtorEq,ae.dA.injEq] at e
  subst e
  rw [jL] at h ih
  exact .dA h fun k hk=>ih k hk _ (lS _ _ _) (ji hl k)
 | fR=>intro a e _;cases a<;>simp only [c8.dL,reduceCtorEq] at e;exact .fR
 | iface h ih=>intro a e hl;cases a<;>simp only [c8.dL,reduceCtorEq,ae.iface.injEq] at e;obtain ⟨rfl,rfl⟩:=e;exact .iface (ih _ rfl hl)
 | nX v=>intro a e _;cases a<;>simp only [c8.dL,reduceCtorEq,ae.nX.injEq] at e;subst e;exact .nX _
theorem gp.dL {w:World} {M:Nat→Nat→Prop} {β:Env} {π:Nat→Nat} {n:Nat} {L:Loc} {cg:bE} (h:gp w M β L (dI π cg)) (hl:cg.low n):gp w M (jY β π n) L cg:=by
 cases cg with
 | var cs =>
  obtain ⟨c,e,h1,h0,h2,h3⟩:=h
  rw [jL] at h2 h3
  exact ⟨c,e,h1,h0,h2,fun k hk=>(h3 k hk).dL _ (lS _ _ _) (ji hl k)⟩
 | row es fz =>
  obtain ⟨c,e,h1,h2,h3,h4,h5⟩:=h
  rw [jL] at h3 h4 h5
  exact ⟨c,e,h1,h2,h3,fun i hi=>by have:=h4 i hi;rw [lS,Bp,jL] at this;exact this,fun i j hi hj=>(h5 i j hi hj).dL _ (by rw [lS,Bp,lS]) (ji (Ef (ji hl i)) j)⟩
 | map ks vs f =>
  obtain ⟨es,clk,h1,h2,h3,h4,h5,h6⟩:=h
  rw [jL] at h2 h3 h4 h5
  rw [jL] at h3
  exact ⟨es,clk,h1,h2,h3,fun k hk=>(h4 k hk).dL _ (lS _ _ _) (ji hl.1 k),fun k hk=>(h5 k hk).dL _ (lS _ _ _) (ji hl.2 k),h6⟩
 | iter s p=>exact h
 | lu ks vs seen =>
  obtain ⟨m,es,clk,h1,h2,h3,h4,h5,h6,h7,h8,h9⟩:=h
  rw [jL] at h4 h5 h6 h7 h9
  rw [jL] at h5
  exact ⟨m,es,clk,h1,h2,h3,h4,h5,fun k hk=>(h6 k hk).dL _ (lS _ _ _) (ji hl.1 k),fun k hk=>(h7 k hk).dL _ (lS _ _ _) (ji hl.2 k),h8,h9⟩
 | loop r =>
  obtain ⟨t,d,f,h1,h2,h3⟩:=h
  simp only [jL] at h2 h3
  exact ⟨t,d,f,h1,h2,fun k hk=>(h3 k hk).dL _ (lS _ _ _) (ji hl k)⟩
theorem Cz {π:Nat→Nat} {L:Loc} {cg:bE} {o:Nat}:(dI π cg).mut L o=cg.mut L o:=by cases cg<;>rfl
structure Wr (lo:Nat) (π:Nat→Nat) (ef st:St):Prop where
 fix:∀ b,b<lo→π b=b
 inj:∀ b b',b<ef.σ.length→b'<ef.σ.length→π b = π b'→b=b'
 tm:l9 (d_ π ef.tm) st.tm
 s:∀ (b:Nat) x,ef.σ[b]? = some (some x)→st.σ[π b]? = some (some (dI π x))
 lt:bz ef.σ.length ef.tm
 ls:yU ef.σ.length ef.σ
section
variable {P:Program} {X:Nat→Nat→Prop} {base mb lo:Nat} {D:List Deferred} {st ef:St} {β:Env} {a:Act} {w:World} {π:Nat→Nat}
theorem Wr.rel (h:Wr lo π ef st) (hr:Rel X base mb D st β a w) (iU:lo≤ef.σ.length):Rel X base mb D ef (jY β π ef.σ.length) a w∧Ext lo st.σ β w ef.σ (jY β π ef.σ.length) w:=by
 have hM:∀ g o,ja ef.σ (jY β π ef.σ.length) g o→ja st.σ β g o:=by
  rintro g o ⟨b,cg,L,m1,m2,m3,m4⟩
  have hb:=(aI.1 m1).1
  simp only [jY,hb,if_true] at m2
  exact ⟨π b,_,L,h.s b cg m1,m2,m3,by rw [Cz];exact m4⟩
 have hk:di w (MT X st.σ β) w (MT X ef.σ (jY β π ef.σ.length)):=di.l5 fun g o hm=>hm.imp id (hM g o)
 obtain ⟨t1,t2⟩:=Fx h.tm
 rw [jL] at t1 t2
 refine ⟨⟨⟨fun b hb=>by simp [jY];omega,fun b cg hb=>?_,fun b b' x y L L' e1 e2 e3 e4 e5=>?_,hr.s.size,hr.s.qd,hr.s.gl⟩,by rw [hr.n,t1],fun k eE=>?_,hr.d⟩,rfl,rfl,rfl,ah _,fun _ _ _ hc _=>hc,fun _ _ _=>rfl,fun g o hm=>.inl (hM g o hm),fun b hb=>?_⟩
 ·obtain ⟨L,q1,q2,q3,q4⟩:=hr.s.cg _ _ (h.s b cg hb)
  have bG:=(aI.1 hb).1
  exact ⟨L,by simp [jY,bG,q1],q2,q3,(q4.mono hk (fun _ _ h=>h) rfl).dL (h.ls b cg hb)⟩
 ·have l1:=(aI.1 e1).1
  have l2:=(aI.1 e2).1
  simp only [jY,l1,l2,if_true] at e3 e4
  exact h.inj b b' l1 l2 (hr.s.inj _ _ _ _ L L' (h.s b x e1) (h.s b' y e2) e3 e4 e5)
 ·rcases t2 k eE with e | e
  ·rw [lS] at e
   have:ef.tm.getD k .undef = .undef:=by
    revert e;cases ef.tm.getD k .undef<;>simp [c8.dL]
   rw [this];exact .undef _
  ·have:=(hr.t k (by omega)).mono hk (fun _ _ h=>h)
   exact this.dL _ (by rw [← e,lS]) (ji h.lt k)
 ·have:b<ef.σ.length:=by omega
  simp [jY,this,h.fix b hb]
end
section
variable {P:Program} {lo:Ctx} {st:St} {Q:cb→St→Prop}
theorem iw.im {ι:Type} (I : ι→St) (μ : ι→Nat) {c:Code} (x0 : ι) (h0:∃ π,Wr lo.n π (I x0) st) (iU:∀ x,lo.n≤(I x).σ.length)
  (round:∀ x,iw P lo c (I x) (cb.then (fun s=>∃ y π,Wr lo.n π (I y) s∧μ y < μ x) Q)):iw P lo (.loop c) st Q:=by
 have key:∀ n x,μ x=n→∀ (X:Nat→Nat→Prop) (base mb:Nat) (D:List Deferred) (β:Env) (a:Act) (w:World) (b:Frame) (k:List Item) (cs:List Frame),mb≤w.heap.size→Rel X base mb D (I x) β a w→lo.ok β b →
   ∃ e ef β' a' w',Q e ef∧lo.n≤ef.σ.length∧Rel X base mb D ef β' a' w'∧Ext lo.n (I x).σ β w ef.σ β' w'∧zP P (lone (b.atR a (.code c :: .inLoop c :: k)) cs w) b k cs e a' w':=by
  intro n
  induction n using Nat.strongRecOn with
  | _ n ih =>
   intro x hn X base mb D β a w b k cs h2 h3 nr
   obtain ⟨e,kp,eX,a1,w1,q,h4,h5,h6,h7⟩:=round x X base mb D β a w b (.inLoop c :: k) cs (iU x) h2 h3 nr
   cases e with
   | normal =>
    obtain ⟨y,π,hy,Oh⟩:=q
    obtain ⟨hw,hx⟩:=hy.rel h5 (iU y)
    obtain ⟨e2,A8,mV,a2,w2,q2,g4,g5,g6,g7⟩:=ih (μ y) (hn ▸ Oh) y rfl X base mb D _ a1 w1 b k cs (cV h2 h6.size) hw ((nr.ext h6).ext hx)
    exact ⟨e2,A8,mV,a2,w2,q2,g4,g5,(h6.trans hx).trans g6, .of_steps (Steps.trans h7 (.one stepR_inLoop)) g7⟩
   | exit id=>obtain ⟨k',e1,e2⟩:=h7;exact ⟨.exit id,kp,eX,a1,w1,q,h4,h5,h6,k',by rw [e1];rfl,e2⟩
   | goto l=>obtain ⟨k',e1,e2⟩:=h7;exact ⟨.goto l,kp,eX,a1,w1,q,h4,h5,h6,k',by rw [e1];rfl,e2⟩
   | ret=>exact ⟨.ret,kp,eX,a1,w1,q,h4,h5,h6,h7⟩
   | panic u=>exact ⟨.panic u,kp,eX,a1,w1,q,h4,h5,h6,h7⟩
 intro X base mb D β a w b k cs h1 h2 h3 nr
 obtain ⟨π,E1⟩:=h0
 obtain ⟨hw,hx⟩:=E1.rel h3 (iU x0)
 obtain ⟨e,kp,eX,a1,w1,q,h4,h5,h6,h7⟩:=key _ x0 rfl X base mb D _ a w b k cs h2 hw (nr.ext hx)
 exact ⟨e,kp,eX,a1,w1,q,h4,h5,hx.trans h6, .of_steps (.one stepR_loop) h7⟩
def gE (π:Nat→Nat) (σ:ai):Nat→ai→Prop
 | _,[]=>True
 | i,none :: r=>gE π σ (i+1) r
 | i,some x :: r=>bH σ (π i)=some (dI π x)∧gE π σ (i+1) r
theorem HZ {π:Nat→Nat} {σ:ai}:∀ (r:ai) (i:Nat),gE π σ i r→∀ b x,r[b]? = some (some x)→σ[π (i+b)]? = some (some (dI π x))
 | [],_,_,b,x,hx=>by simp at hx
 | none :: r,i,h,0,x,hx=>by simp at hx
 | some y :: r,i,h,0,x,hx=>by
  simp only [fG,aG] at hx
  subst hx
  exact j_ h.1
 | none :: r,i,h,b+1,x,hx=>by
  have:=HZ r (i+1) h b x (by simpa using hx)
  rwa [show i+1+b=i+(b+1) by omega] at this
 | some y :: r,i,h,b+1,x,hx=>by
  have:=HZ r (i+1) h.2 b x (by simpa using hx)
  rwa [show i+1+b=i+(b+1) by omega] at this
def pi (l:List (Nat×Nat)) (b:Nat):Nat:=(l.lookup b).getD b
def qs (l:List (Nat×Nat)) (lo n:Nat):Bool:=((List.range lo).all fun b=>pi l b==b)&&(List.range n).all fun i=>(List.range n).all fun j=>i==j||pi l i != pi l j
def Hn (lo:Nat) (l:List (Nat×Nat)) (jR:List ae) (σ':ai) (s:St):Prop :=
 qs l lo σ'.length=true∧l9 (d_ (pi l) jR) s.tm∧gE (pi l) s.σ 0 σ'∧bz σ'.length jR∧bw σ'.length σ'
theorem Qw {lo:Nat} {l:List (Nat×Nat)} {jR:List ae} {σ':ai} {s:St} (h:Hn lo l jR σ' s):Wr lo (pi l) ⟨jR,σ'⟩ s:=by
 obtain ⟨h1,h2,h3,h4,h5⟩:=h
 simp only [qs,aC,bj,cA,b9,beq_iff_eq,bne_iff_ne] at h1
 refine ⟨h1.1,fun b b' l1 l2 e=>(h1.2 b l1 b' l2).resolve_right (fun n=>n e),h2,fun b x hb=>?_,h4,qL h5⟩
 have:=HZ σ' 0 h3 b x hb
 rwa [bp] at this
def pU {ι:Type} (P:Program) (lo:Ctx) (Q:cb→St→Prop) (k:List KI) (I : ι→List ae) (S : ι→ai) (μ : ι→Nat) (x : ι):cb→St→Prop
 | .normal,s=>∃ y l,Hn lo.n l (I y) (S y) s∧μ y < μ x
 | e,s=>aK P lo Q k e s
theorem aK.im {ι:Type} (n:Nat) (I : ι→List ae) (S : ι→ai) (μ : ι→Nat) {c:Code} {k:List KI} {tm:List ae} {σ:ai} (x0 : ι) (l0:List (Nat×Nat)) (h0:Hn lo.n l0 (I x0) (S x0) ⟨tm,σ⟩) (iU:∀ x,lo.n≤(S x).length)
  (round:∀ x,dZ P lo (pU P lo Q k I S μ x) n [.code c] .normal (I x) (S x)):aK P lo Q (.code (.loop c) :: k) .normal ⟨tm,σ⟩ :=
 iw.im (ι:=ι) (fun x=>⟨I x,S x⟩) μ x0 ⟨_,Qw h0⟩ iU fun x=>by
  have:=Cp n _ _ _ _ (round x)
  refine iw.mono this fun e s q=>?_
  simp only [aK] at q
  cases e with
  | normal=>obtain ⟨y,l,h1,h2⟩:=q;exact ⟨y,pi l,Qw h1,h2⟩
  | exit id=>exact q
  | goto l=>exact q
  | ret=>exact q
  | panic u=>exact q
theorem Yfb {ι:Type} {k:List KI} {I : ι→List ae} {S : ι→ai} {μ : ι→Nat} {x : ι} {s:St}:pU P lo Q k I S μ x .normal s = ∃ y l,Hn lo.n l (I y) (S y) s∧μ y < μ x:=rfl
theorem Yse {ι:Type} {k:List KI} {I : ι→List ae} {S : ι→ai} {μ : ι→Nat} {x : ι} {s:St} {i:Nat}:pU P lo Q k I S μ x (.exit i) s=aK P lo Q k (.exit i) s:=rfl
theorem Yug {ι:Type} {k:List KI} {I : ι→List ae} {S : ι→ai} {μ : ι→Nat} {x : ι} {s:St} {i:Nat}:pU P lo Q k I S μ x (.goto i) s=aK P lo Q k (.goto i) s:=rfl
theorem Ykx {ι:Type} {k:List KI} {I : ι→List ae} {S : ι→ai} {μ : ι→Nat} {x : ι} {s:St} {u:Value}:pU P lo Q k I S μ x (.panic u) s=aK P lo Q k (.panic u) s:=rfl
theorem Yw1 {ι:Type} {k:List KI} {I : ι→List ae} {S : ι→ai} {μ : ι→Nat} {x : ι} {s:St}:pU P lo Q k I S μ x .ret s=aK P lo Q k .ret s:=rfl
theorem KG {π:Nat→Nat} {σ:ai} {i:Nat}:gE π σ i []=True:=rfl
theorem H3 {π:Nat→Nat} {σ r:ai} {i:Nat}:gE π σ i (none :: r)=gE π σ (i+1) r:=rfl
theorem HY {π:Nat→Nat} {σ r:ai} {i:Nat} {x:bE}:gE π σ i (some x :: r)=(bH σ (π i)=some (dI π x)∧gE π σ (i+1) r):=rfl
theorem jb {lo:Nat} {l:List (Nat×Nat)} {jR:List ae} {σ':ai} {s:St} (h:qs l lo σ'.length=true) (h2:l9 (d_ (pi l) jR) s.tm∧gE (pi l) s.σ 0 σ'∧bz σ'.length jR∧bw σ'.length σ'):Hn lo l jR σ' s:=⟨h,h2⟩
theorem Yvg {x:Nat}:pi [] x=x:=rfl
theorem Yqy {a b x:Nat} {l:List (Nat×Nat)}:pi ((a,b) :: l) x=if x=a then b else pi l x:=by
 simp only [pi,List.lookup_cons]
 by_cases h:x=a
 ·subst h;simp
 ·have:(x==a)=false:=by simp [h]
  simp [this,h]
theorem Ac {π:Nat→Nat} {a:ae} (h:a.low 0):dL π a=a:=F6 π 0 (fun b hb=>absurd hb (by omega)) a h
theorem cI {π:Nat→Nat} {l:List ae} (h:bz 0 l):d_ π l=l:=qx π 0 (fun b hb=>absurd hb (by omega)) l h
attribute [go_sem] Yvg Yqy
attribute [go_sem] Yfb Yse Yug Yw1 Ykx KG H3 HY dL d_ dI
end
end Go.c8
