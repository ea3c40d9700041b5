/- Part 10 of my own framework and of the walks of functions: AbsL. -/
import Derived.Test.YtfjbdamcmiglgaaGreatOwn9
abbrev dS:=@Nat.le_of_not_lt
set_option linter.unusedVariables false
set_option linter.unusedSectionVars false
set_option linter.unusedSimpArgs false
namespace Go.c8
open Go
mutual
def ae.low (n:Nat):ae→Prop
 | .ptr b _=>b<n
 | .rp b _ _=>b<n
 | .os b _ _ _=>b<n
 | .oc b _ _ _ _=>b<n
 | .lz b=>b<n
 | .map b=>b<n
 | .it b=>b<n
 | .pp cs=>bz n cs
 | .ps _ es=>bz n es
 | .fn _ a c=>bz n a∧bz n c
 | .pm ks vs=>bz n ks∧bz n vs
 | .agg cs=>bz n cs
 | .dA cs=>bz n cs
 | .iface _ v=>v.low n
 | _=>True
def bz (n:Nat):List ae→Prop
 | []=>True
 | a :: cm=>a.low n∧bz n cm
end
theorem ji {n:Nat}:∀ {l:List ae},bz n l→∀ k,(l.getD k .undef).low n
 | [],_,k=>by simp [ae.low]
 | a :: cm,h,0=>by simpa [bz] using h.1
 | a :: cm,h,k+1=>by rw [bC];exact ji h.2 k
theorem Ef {n:Nat} {a:ae} (h:a.low n):bz n a.cells:=by
 cases a<;>simp only [ae.cells,bz,and_true]<;>first | exact h | (simpa [ae.low] using h)
mutual
theorem m_ {n m:Nat} (h:n≤m):∀ {a:ae},a.low n→a.low m
 | .ptr _ _,k=>cX k h
 | .rp _ _ _,k=>cX k h
 | .os _ _ _ _,k=>cX k h
 | .oc _ _ _ _ _,k=>cX k h
 | .ig,_=>trivial
 | .lz _,k=>cX k h
 | .map _,k=>cX k h
 | .it _,k=>cX k h
 | .pp _,k=>iC h k
 | .ps _ _,k=>iC h k
 | .fn _ _ _,k=>⟨iC h k.1,iC h k.2⟩
 | .pm _ _,k=>⟨iC h k.1,iC h k.2⟩
 | .agg _,k=>iC h k
 | .dA _,k=>iC h k
 | .iface _ v,k=>m_ (a:=v) h k
 | .undef,_=>trivial
 | .bool _,_=>trivial
 | .int _ _,_=>trivial
 | .str _,_=>trivial
 | .bN,_=>trivial
 | .aU,_=>trivial
 | .az,_=>trivial
 | .cC,_=>trivial
 | .fR,_=>trivial
 | .nX _,_=>trivial
theorem iC {n m:Nat} (h:n≤m):∀ {l:List ae},bz n l→bz m l
 | [],_=>trivial
 | _ :: _,k=>⟨m_ h k.1,iC h k.2⟩
end
def Env.cut (β:Env) (n:Nat):Env:=fun b=>if b<n then β b else none
theorem Env.kY {β:Env} {n b:Nat} (h:b<n) : β.cut n b = β b:=by simp [Env.cut,h]
theorem bS.low {w:World} {M:Nat→Nat→Prop} {β β':Env} {n:Nat} (hβ:∀ b,b<n→β' b = β b) {v:Value} {a:ae} (h:bS w M β v a) (hl:a.low n):bS w M β' v a:=by
 induction h with
 | undef v=>exact .undef v
 | bool b=>exact .bool b
 | int k n=>exact .int k n
 | str s=>exact .str s
 | bN=>exact .bN
 | ptr h=>exact .ptr ((hβ _ hl).trans h)
 | rp h=>exact .rp ((hβ _ hl).trans h)
 | pp cv hc _ ih=>exact .pp cv hc fun k hk=>ih k hk (ji hl k)
 | aU a=>exact .aU a
 | ps cv jr fH hc ha _ ih=>exact .ps cv jr fH hc ha fun i j hi hj=>ih i j hi hj (ji (Ef (ji hl i)) j)
 | sJ a h=>exact .sJ a ((hβ _ hl).trans h)
 | os h h1 h2=>exact .os ((hβ _ hl).trans h) h1 h2
 | ig b=>exact .ig b
 | sI a h=>exact .sI a ((hβ _ hl).trans h)
 | oc h h1 h2=>exact .oc ((hβ _ hl).trans h) h1 h2
 | az=>exact .az
 | fn h1 h2 _ _ kN oP=>exact .fn h1 h2 (fun k hk=>kN k hk (ji hl.1 k)) (fun k hk=>oP k hk (ji hl.2 k))
 | lz h=>exact .lz ((hβ _ hl).trans h)
 | cC=>exact .cC
 | map h=>exact .map ((hβ _ hl).trans h)
 | pm hg hm h1 h2 _ _ hb kN oP=>exact .pm hg hm h1 h2 (fun k hk=>kN k hk (ji hl.1 k)) (fun k hk=>oP k hk (ji hl.2 k)) hb
 | it h=>exact .it ((hβ _ hl).trans h)
 | agg h _ ih=>exact .agg h fun k hk=>ih k hk (ji hl k)
 | dA h _ ih=>exact .dA h fun k hk=>ih k hk (ji hl k)
 | fR=>exact .fR
 | iface _ ih=>exact .iface (ih hl)
 | nX v=>exact .nX v
def bE.low (n:Nat):bE→Prop
 | .var cs=>bz n cs
 | .row es _=>bz n es
 | .map ks vs _=>bz n ks∧bz n vs
 | .iter _ _=>True
 | .lu ks vs _=>bz n ks∧bz n vs
 | .loop r=>bz n r.tm
theorem gp.low {w:World} {M:Nat→Nat→Prop} {β β':Env} {n:Nat} (hβ:∀ b,b<n→β' b = β b) {L:Loc} {cg:bE} (h:gp w M β L cg) (hl:cg.low n):gp w M β' L cg:=by
 cases cg with
 | var cs=>obtain ⟨c,e,h1,h0,h2,h3⟩:=h;exact ⟨c,e,h1,h0,h2,fun k eE=>(h3 k eE).low hβ (ji hl k)⟩
 | row es fz=>obtain ⟨c,e,h1,h2,h3,h4,h5⟩:=h;exact ⟨c,e,h1,h2,h3,h4,fun i j hi hj=>(h5 i j hi hj).low hβ (ji (Ef (ji hl i)) j)⟩
 | map ks vs fz=>obtain ⟨es,clk,h1,h2,h3,h4,h5,h6⟩:=h;exact ⟨es,clk,h1,h2,h3,fun k eE=>(h4 k eE).low hβ (ji hl.1 k),fun k eE=>(h5 k eE).low hβ (ji hl.2 k),h6⟩
 | iter s pos=>exact h
 | lu ks vs seen=>obtain ⟨m,es,clk,h1,h2,h3,h4,h5,h6,h7,h8⟩:=h;exact ⟨m,es,clk,h1,h2,h3,h4,h5,fun k eE=>(h6 k eE).low hβ (ji hl.1 k),fun k eE=>(h7 k eE).low hβ (ji hl.2 k),h8⟩
 | loop r=>obtain ⟨t,d,f,h1,h2,h3⟩:=h;exact ⟨t,d,f,h1,h2,fun k eE=>(h3 k eE).low hβ (ji hl k)⟩
def xI (σ' σ:ai):Prop:=∀ (b:Nat) (x:bE),σ'[b]? = some (some x)→σ[b]? = some (some x)
def yU (n:Nat) (σ:ai):Prop:=∀ (b:Nat) (x:bE),σ[b]? = some (some x)→x.low n
theorem ja.l5 {σ σ':ai} {β β':Env} {n:Nat} (h1:xI σ' σ) (h2 : σ'.length≤n) (hβ:∀ b,b<n→β' b = β b) {g o:Nat} (h:ja σ' β' g o):ja σ β g o:=by
 obtain ⟨b,cg,L,h3,h4,h5,h6⟩:=h
 have hb:b<n:=cX (aI.1 h3).1 h2
 exact ⟨b,cg,L,h1 b cg h3,(hβ b hb).symm.trans h4,h5,h6⟩
section
variable {P:Program} {X:Nat→Nat→Prop} {base:Nat} {σ σ':ai} {β:Env} {w:World} {n:Nat}
theorem cH.drop (hr:cH X base σ β w) (h1:xI σ' σ) (h2 : σ'.length=n) (h3:yU n σ'):cH X base σ' (β.cut n) w:=by
 have hβ:∀ b,b<n→β.cut n b = β b:=fun b hb=>Env.kY hb
 have hk:di w (MT X σ β) w (MT X σ' (β.cut n)):=di.l5 fun g o h=>h.imp id fun hm=>hm.l5 h1 (by omega) hβ
 refine ⟨fun b hb=>by simp [Env.cut];omega,fun b cg hb=>?_,fun b b' cg kW L L' e1 e2 e3 e4 hg=>?_,hr.size,hr.qd,hr.gl⟩
 ·have mA:b<n:=by have:=(aI.1 hb).1;omega
  obtain ⟨L,q1,q2,q3,q4⟩:=hr.cg b cg (h1 b cg hb)
  exact ⟨L,(hβ b mA).trans q1,q2,q3,(q4.mono hk (fun _ _ h=>h) rfl).low hβ (h3 b cg hb)⟩
 ·have mA:b<n:=by have:=(aI.1 e1).1;omega
  have M0:b'<n:=by have:=(aI.1 e2).1;omega
  exact hr.inj b b' cg kW L L' (h1 b cg e1) (h1 b' kW e2) ((hβ b mA).symm.trans e3) ((hβ b' M0).symm.trans e4) hg
theorem bS.drop {v:Value} {a:ae} (h:bS w (MT X σ β) β v a) (h1:xI σ' σ) (h2 : σ'.length=n) (hl:a.low n):bS w (MT X σ' (β.cut n)) (β.cut n) v a:=by
 have hβ:∀ b,b<n→β.cut n b = β b:=fun b hb=>Env.kY hb
 have hk:di w (MT X σ β) w (MT X σ' (β.cut n)):=di.l5 fun g o h=>h.imp id fun hm=>hm.l5 h1 (by omega) hβ
 exact (h.mono hk (fun _ _ h=>h)).low hβ hl
theorem Ext.drop {lo:Nat} {ku:ai} {Bb:Env} {w0:World} (h:Ext lo ku Bb w0 σ β w) (h1:xI σ' σ) (h2 : σ'.length=n) (iU:lo≤n):Ext lo ku Bb w0 σ' (β.cut n) w :=
 ⟨h.os,h.tape,h.output,h.size,h.cell,h.block,fun g o hm=>h.iL g o (hm.l5 h1 (by omega) fun b hb=>Env.kY hb),fun b hb=>by rw [Env.kY (by omega)];exact h.env b hb⟩
end
inductive cb where
 | normal
 | exit (id:Nat)
 | goto (l:Nat)
 | ret
 | panic (u:Value)
def Marks (mb:Nat) (D:List Deferred) (w:World) (ds:List Deferred):Prop :=
 ∃ rs:List Nat,ds=rs.map (fun r=>{ target:=.collected r,args:=#[] })++D∧rs.Nodup∧∀ r∈rs,mb≤r∧w.heap[r]? = some (.deferred (some []))
structure Rel (X:Nat→Nat→Prop) (base mb:Nat) (D:List Deferred) (st:St) (β:Env) (a:Act) (w:World):Prop where
 s:cH X base st.σ β w
 n:a.tmps.size=st.tm.length
 t:∀ k,k<st.tm.length→bS w (MT X st.σ β) β (a.tmps.getD k undef) (st.tm.getD k .undef)
 d:Marks mb D w a.defers
def zP (P:Program) (m:Machine) (b:Frame) (k:List Item) (cs:List Frame):cb→Act→World→Prop
 | .normal,a,w=>Steps P m (lone (b.atR a k) cs w)
 | .exit id,a,w=>∃ k',exitTo id k'=exitTo id k∧Steps P m (lone (b.atR a (.code (.exit id) :: k')) cs w)
 | .goto l,a,w=>∃ k',gotoIn l k'=gotoIn l k∧Steps P m (lone (b.atR a (.code (.goto l) :: k')) cs w)
 | .ret,a,w=>∃ k',Steps P m (lone (b.atR a (.code .ret :: k')) cs w)
 | .panic u,a,w=>∃ k',Steps P m (lone { b.atR a k' with mode:=.panicking [{ v:=u,recovered:=false }] } cs w)
theorem zP.of_steps {P:Program} {m m₁:Machine} {b:Frame} {k:List Item} {cs:List Frame} {e:cb} {a:Act} {w:World} (h:Steps P m m₁) (h':zP P m₁ b k cs e a w):zP P m b k cs e a w:=by
 cases e with
 | normal=>exact h.trans h'
 | exit id=>obtain ⟨k',h1,h2⟩:=h';exact ⟨k',h1,h.trans h2⟩
 | goto l=>obtain ⟨k',h1,h2⟩:=h';exact ⟨k',h1,h.trans h2⟩
 | ret=>obtain ⟨k',h2⟩:=h';exact ⟨k',h.trans h2⟩
 | panic u=>obtain ⟨k',h2⟩:=h';exact ⟨k',h.trans h2⟩
structure Ctx where
 n:Nat
 ro:Option Nat
def Ctx.ok (c:Ctx) (β:Env) (b:Frame):Prop :=
 match c.ro with
 | none=>b.roundOf=none
 | some bl=>bl<c.n∧∃ L,β bl=some L∧b.roundOf=some L.g
theorem Ctx.ok.env {c:Ctx} {β β':Env} {b:Frame} (h:c.ok β b) (he:∀ x,x<c.n→β' x = β x):c.ok β' b:=by
 unfold Ctx.ok at *
 split
 ·rename_i e;rw [e] at h;exact h
 ·rename_i bl e
  rw [e] at h
  obtain ⟨h1,L,h2,h3⟩:=h
  exact ⟨h1,L,(he bl h1).trans h2,h3⟩
theorem Ctx.ok.ext {c:Ctx} {σ σ':ai} {β β':Env} {w w':World} {b:Frame} (h:c.ok β b) (he:Ext c.n σ β w σ' β' w'):c.ok β' b:=h.env he.env
theorem Ctx.ok.cut {c:Ctx} {β:Env} {b:Frame} {n:Nat} (h:c.ok β b) (hn:c.n≤n):c.ok (β.cut n) b:=h.env fun _ hx=>Env.kY (cX hx hn)
def iw (P:Program) (lo:Ctx) (c:Code) (st:St) (Q:cb→St→Prop):Prop :=
 ∀ (X:Nat→Nat→Prop) (base mb:Nat) (D:List Deferred) (β:Env) (a:Act) (w:World) (b:Frame) (k:List Item) (cs:List Frame),lo.n≤st.σ.length→mb≤w.heap.size→Rel X base mb D st β a w→lo.ok β b →
  ∃ e ef β' a' w',Q e ef∧lo.n≤ef.σ.length∧Rel X base mb D ef β' a' w'∧Ext lo.n st.σ β w ef.σ β' w'∧zP P (lone (b.atR a (.code c :: k)) cs w) b k cs e a' w'
def mg (P:Program) (lo:Ctx) (ops:Array Oper) (r l:List Nat) (st:St) (Q:cb→St→Prop):Prop :=
 ∀ (X:Nat→Nat→Prop) (base mb:Nat) (D:List Deferred) (β:Env) (a:Act) (w:World) (b:Frame) (k:List Item) (cs:List Frame),lo.n≤st.σ.length→mb≤w.heap.size→Rel X base mb D st β a w →
  ∃ e ef β' a' w',Q e ef∧lo.n≤ef.σ.length∧Rel X base mb D ef β' a' w'∧Ext lo.n st.σ β w ef.σ β' w'∧a'.defers=a.defers ∧
   zP P (lone (b.atR a (.inRegion ops (l++r) :: k)) cs w) b (.inRegion ops r :: k) cs e a' w'
section
variable {P:Program} {lo:Ctx} {st:St} {Q:cb→St→Prop}
theorem iw.mono {c:Code} {Q':cb→St→Prop} (h:iw P lo c st Q) (hq:∀ e s,Q e s→Q' e s):iw P lo c st Q':=by
 intro X base mb D β a w b k cs h1 h2 h3 nr
 obtain ⟨e,ef,β',a',w',q,rest⟩:=h X base mb D β a w b k cs h1 h2 h3 nr
 exact ⟨e,ef,β',a',w',hq _ _ q,rest⟩
theorem iw.skip (h:Q .normal st):iw P lo .skip st Q:=fun X base mb D β a w b k cs h1 h2 h3 _=>⟨.normal,st,β,a,w,h,h1,h3,Ext.refl _ _ _ _, .one stepR_skip⟩
theorem iw.label {l:Nat} (h:Q .normal st):iw P lo (.label l) st Q:=fun X base mb D β a w b k cs h1 h2 h3 _=>⟨.normal,st,β,a,w,h,h1,h3,Ext.refl _ _ _ _, .one stepR_label⟩
theorem iw.exit {id:Nat} (h:Q (.exit id) st):iw P lo (.exit id) st Q:=fun X base mb D β a w b k cs h1 h2 h3 _=>⟨.exit id,st,β,a,w,h,h1,h3,Ext.refl _ _ _ _,k,rfl, .refl _ _⟩
theorem iw.goto {l:Nat} (h:Q (.goto l) st):iw P lo (.goto l) st Q:=fun X base mb D β a w b k cs h1 h2 h3 _=>⟨.goto l,st,β,a,w,h,h1,h3,Ext.refl _ _ _ _,k,rfl, .refl _ _⟩
theorem iw.ret (h:Q .ret st):iw P lo .ret st Q:=fun X base mb D β a w b k cs h1 h2 h3 _=>⟨.ret,st,β,a,w,h,h1,h3,Ext.refl _ _ _ _,k, .refl _ _⟩
def cb.then (next:St→Prop) (Q:cb→St→Prop):cb→St→Prop
 | .normal,s=>next s
 | e,s=>Q e s
theorem iw.seq {x y:Code} (h:iw P lo x st (cb.then (fun s=>iw P lo y s Q) Q)):iw P lo (.seq x y) st Q:=by
 intro X base mb D β a w b k cs h1 h2 h3 nr
 obtain ⟨e,kp,eX,a1,w1,q,h4,h5,h6,h7⟩:=h X base mb D β a w b (.code y :: k) cs h1 h2 h3 nr
 cases e with
 | normal =>
  obtain ⟨e2,A8,mV,a2,w2,q2,g4,g5,g6,g7⟩:=q X base mb D eX a1 w1 b k cs h4 (cV h2 h6.size) h5 (nr.ext h6)
  exact ⟨e2,A8,mV,a2,w2,q2,g4,g5,h6.trans g6, .of_steps (.head stepR_seq h7) g7⟩
 | exit id=>exact ⟨.exit id,kp,eX,a1,w1,q,h4,h5,h6, .of_steps (.one stepR_seq) h7⟩
 | goto l=>exact ⟨.goto l,kp,eX,a1,w1,q,h4,h5,h6, .of_steps (.one stepR_seq) h7⟩
 | ret=>exact ⟨.ret,kp,eX,a1,w1,q,h4,h5,h6, .of_steps (.one stepR_seq) h7⟩
 | panic u=>exact ⟨.panic u,kp,eX,a1,w1,q,h4,h5,h6, .of_steps (.one stepR_seq) h7⟩
theorem vn {X:Nat→Nat→Prop} {base mb:Nat} {D:List Deferred} {β:Env} {a:Act} {w:World} (h:Rel X base mb D st β a w) (x:Operand):bS w (MT X st.σ β) β (a.eval x) (ev st.tm x):=by
 cases x with
 | tmp t =>
  simp only [Act.eval,ev]
  by_cases ht:t<st.tm.length
  ·exact h.t t ht
  ·have:st.tm.getD t .undef = .undef:=by simp [List.getD,bt (dS ht)]
   rw [this];exact .undef _
 | const v=>exact Kk v
 | global g=>exact .nX _
 | func f=>exact .fn (fa:=#[]) (ca:=#[]) rfl rfl (fun k hk=>by simp at hk) (fun k hk=>by simp at hk)
theorem iw.cond {c:Operand} {x y:Code} {t:Bool} (hc:ev st.tm c = .bool t) (h1:t=true→iw P lo x st Q) (h2:t=false→iw P lo y st Q):iw P lo (.cond c x y) st Q:=by
 intro X base mb D β a w b k cs g1 g2 g3 nr
 have hv:=vn g3 c
 rw [hc] at hv
 have iE:=stepR_cond (P:=P) (b:=b) (k:=k) (cs:=cs) (w:=w) (x:=x) (y:=y) hv.ij
 cases t with
 | true =>
  obtain ⟨e,kp,eX,a1,w1,q,r1,r2,r3,r4⟩:=h1 rfl X base mb D β a w b k cs g1 g2 g3 nr
  exact ⟨e,kp,eX,a1,w1,q,r1,r2,r3, .of_steps (.one iE) r4⟩
 | false =>
  obtain ⟨e,kp,eX,a1,w1,q,r1,r2,r3,r4⟩:=h2 rfl X base mb D β a w b k cs g1 g2 g3 nr
  exact ⟨e,kp,eX,a1,w1,q,r1,r2,r3, .of_steps (.one iE) r4⟩
theorem iw.Aw {c:Operand} {x y:Code} (hc:ev st.tm c = .ig) (h1:iw P lo x st Q) (h2:iw P lo y st Q):iw P lo (.cond c x y) st Q:=by
 intro X base mb D β a w b k cs g1 g2 g3 nr
 have hv:=vn g3 c
 rw [hc] at hv
 obtain ⟨t,hv⟩:∃ t,a.eval c = .bool t:=by
  generalize a.eval c=v at hv
  cases hv;exact ⟨_,rfl⟩
 have iE:=stepR_cond (P:=P) (b:=b) (k:=k) (cs:=cs) (w:=w) (x:=x) (y:=y) hv
 cases t with
 | true =>
  obtain ⟨e,kp,eX,a1,w1,q,r1,r2,r3,r4⟩:=h1 X base mb D β a w b k cs g1 g2 g3 nr
  exact ⟨e,kp,eX,a1,w1,q,r1,r2,r3, .of_steps (.one iE) r4⟩
 | false =>
  obtain ⟨e,kp,eX,a1,w1,q,r1,r2,r3,r4⟩:=h2 X base mb D β a w b k cs g1 g2 g3 nr
  exact ⟨e,kp,eX,a1,w1,q,r1,r2,r3, .of_steps (.one iE) r4⟩
def cb.inBlock (id:Nat) (Q:cb→St→Prop):cb→St→Prop
 | .exit u9,s=>if u9=id then Q .normal s else Q (.exit u9) s
 | e,s=>Q e s
theorem iw.block {id:Nat} {c:Code} (h:iw P lo c st (cb.inBlock id Q)):iw P lo (.block id c) st Q:=by
 intro X base mb D β a w b k cs h1 h2 h3 nr
 obtain ⟨e,kp,eX,a1,w1,q,h4,h5,h6,h7⟩:=h X base mb D β a w b (.inBlock id :: k) cs h1 h2 h3 nr
 cases e with
 | normal=>exact ⟨.normal,kp,eX,a1,w1,q,h4,h5,h6, .head stepR_block (Steps.trans h7 (.one stepR_inBlock))⟩
 | exit u9 =>
  obtain ⟨k',e1,e2⟩:=h7
  by_cases qX:u9=id
  ·simp only [cb.inBlock,qX,if_true] at q
   refine ⟨.normal,kp,eX,a1,w1,q,h4,h5,h6, .head stepR_block (Steps.trans e2 (.one (stepR_exit ?_)))⟩
   rw [e1];simp [exitTo,qX]
  ·simp only [cb.inBlock,qX,if_false] at q
   have:(id==u9)=false:=by simp;exact fun h=>qX h.symm
   exact ⟨.exit u9,kp,eX,a1,w1,q,h4,h5,h6,k',by rw [e1];simp [exitTo,this], .head stepR_block e2⟩
 | goto l =>
  obtain ⟨k',e1,e2⟩:=h7
  exact ⟨.goto l,kp,eX,a1,w1,q,h4,h5,h6,k',by rw [e1];rfl, .head stepR_block e2⟩
 | ret =>
  obtain ⟨k',e2⟩:=h7
  exact ⟨.ret,kp,eX,a1,w1,q,h4,h5,h6,k', .head stepR_block e2⟩
 | panic u =>
  obtain ⟨k',e2⟩:=h7
  exact ⟨.panic u,kp,eX,a1,w1,q,h4,h5,h6,k', .head stepR_block e2⟩
theorem iw.scope {c:Code} (h:iw P lo c st (fun e s=>(∀ l,e≠.goto l)∧Q e s)):iw P lo (.scope c) st Q:=by
 intro X base mb D β a w b k cs h1 h2 h3 nr
 have hs:step P (lone (b.atR a (.code (.scope c) :: k)) cs w) = .next (lone (b.atR a (.code c :: .inScope c :: k)) cs w):=step_lone_go (by simp [stepG,stepG.exec,Frame.atR])
 have zF:∀ a w,step P (lone (b.atR a (.inScope c :: k)) cs w) = .next (lone (b.atR a k) cs w):=fun a w=>step_lone_go (by simp [stepG,stepG.exec,Frame.atR])
 obtain ⟨e,kp,eX,a1,w1,q,h4,h5,h6,h7⟩:=h X base mb D β a w b (.inScope c :: k) cs h1 h2 h3 nr
 cases e with
 | normal=>exact ⟨.normal,kp,eX,a1,w1,q.2,h4,h5,h6, .head hs (Steps.trans h7 (.one (zF _ _)))⟩
 | exit u9 =>
  obtain ⟨k',e1,e2⟩:=h7
  exact ⟨.exit u9,kp,eX,a1,w1,q.2,h4,h5,h6,k',by rw [e1];rfl, .head hs e2⟩
 | goto l=>exact absurd rfl (q.1 l)
 | ret =>
  obtain ⟨k',e2⟩:=h7
  exact ⟨.ret,kp,eX,a1,w1,q.2,h4,h5,h6,k', .head hs e2⟩
 | panic u =>
  obtain ⟨k',e2⟩:=h7
  exact ⟨.panic u,kp,eX,a1,w1,q.2,h4,h5,h6,k', .head hs e2⟩
structure St.le (ef st:St):Prop where
 n:ef.tm.length=st.tm.length
 t:∀ k,k<ef.tm.length→ef.tm.getD k .undef = .undef∨ef.tm.getD k .undef=st.tm.getD k .undef
 s:xI ef.σ st.σ
 lt:bz ef.σ.length ef.tm
 ls:yU ef.σ.length ef.σ
theorem Rel.weaken {X:Nat→Nat→Prop} {base mb:Nat} {D:List Deferred} {β:Env} {a:Act} {w:World} {ef:St} (h:Rel X base mb D st β a w) (hl:ef.le st):Rel X base mb D ef (β.cut ef.σ.length) a w:=by
 refine ⟨h.s.drop hl.s rfl hl.ls,by rw [h.n,hl.n],fun k hk=>?_,h.d⟩
 rcases hl.t k hk with e | e
 ·rw [e];exact .undef _
 ·have:=h.t k (by rw [← hl.n];exact hk)
  rw [← e] at this
  exact this.drop hl.s rfl (ji hl.lt k)
theorem iw.loop {ι:Type} (I : ι→St) (μ : ι→Nat) {c:Code} (x0 : ι) (h0:(I x0).le st) (iU:∀ x,lo.n≤(I x).σ.length)
  (round:∀ x,iw P lo c (I x) (cb.then (fun s=>∃ y,(I y).le s∧μ y < μ x) Q)):iw P lo (.loop c) st Q:=by
 have key:∀ n x,μ x=n→∀ (X:Nat→Nat→Prop) (base mb:Nat) (D:List Deferred) (β:Env) (a:Act) (w:World) (b:Frame) (k:List Item) (cs:List Frame),mb≤w.heap.size→Rel X base mb D (I x) β a w→lo.ok β b →
   ∃ e ef β' a' w',Q e ef∧lo.n≤ef.σ.length∧Rel X base mb D ef β' a' w'∧Ext lo.n (I x).σ β w ef.σ β' w'∧zP P (lone (b.atR a (.code c :: .inLoop c :: k)) cs w) b k cs e a' w':=by
  intro n
  induction n using Nat.strongRecOn with
  | _ n ih =>
   intro x hn X base mb D β a w b k cs h2 h3 nr
   obtain ⟨e,kp,eX,a1,w1,q,h4,h5,h6,h7⟩:=round x X base mb D β a w b (.inLoop c :: k) cs (iU x) h2 h3 nr
   cases e with
   | normal =>
    obtain ⟨y,hy,Oh⟩:=q
    have hw:=h5.weaken hy
    obtain ⟨e2,A8,mV,a2,w2,q2,g4,g5,g6,g7⟩:=ih (μ y) (hn ▸ Oh) y rfl X base mb D _ a1 w1 b k cs (cV h2 h6.size) hw ((nr.ext h6).cut (iU y))
    exact ⟨e2,A8,mV,a2,w2,q2,g4,g5,(h6.drop hy.s rfl (iU y)).trans g6, .of_steps (Steps.trans h7 (.one stepR_inLoop)) g7⟩
   | exit id=>obtain ⟨k',e1,e2⟩:=h7;exact ⟨.exit id,kp,eX,a1,w1,q,h4,h5,h6,k',by rw [e1];rfl,e2⟩
   | goto l=>obtain ⟨k',e1,e2⟩:=h7;exact ⟨.goto l,kp,eX,a1,w1,q,h4,h5,h6,k',by rw [e1];rfl,e2⟩
   | ret=>exact ⟨.ret,kp,eX,a1,w1,q,h4,h5,h6,h7⟩
   | panic u=>exact ⟨.panic u,kp,eX,a1,w1,q,h4,h5,h6,h7⟩
 intro X base mb D β a w b k cs h1 h2 h3 nr
 obtain ⟨e,kp,eX,a1,w1,q,h4,h5,h6,h7⟩:=key _ x0 rfl X base mb D _ a w b k cs h2 (h3.weaken h0) (nr.cut (iU x0))
 exact ⟨e,kp,eX,a1,w1,q,h4,h5,((Ext.refl lo.n _ _ _).drop h0.s rfl (iU x0)).trans h6, .of_steps (.one stepR_loop) h7⟩
end
end Go.c8
