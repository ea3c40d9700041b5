/- Part 10 of my own framework and of the walks of functions: AbsL. -/
import Derived.Test.YtfjbdamcmiglgaaGreatOwn9
abbrev dP:=@Nat.le_of_not_lt
set_option linter.unusedVariables false
set_option linter.unusedSectionVars false
set_option linter.unusedSimpArgs false
namespace Go.cV
open Go
mutual
def ae.low (n:Nat):ae→Prop
 | .ptr b _=>b<n
 | .rp b _ _=>b<n
 | .os b _ _ _=>b<n
 | .oc b _ _ _ _=>b<n
 | .ld b=>b<n
 | .map b=>b<n
 | .it b=>b<n
 | .pp cs=>bx n cs
 | .ps _ es=>bx n es
 | .fn _ a c=>bx n a∧bx n c
 | .pm ks vs=>bx n ks∧bx n vs
 | .agg cs=>bx n cs
 | .dy cs=>bx n cs
 | .iface _ v=>v.low n
 | _=>True
def bx (n:Nat):List ae→Prop
 | []=>True
 | a :: ck=>a.low n∧bx n ck
end
theorem iX {n:Nat}:∀ {l:List ae},bx n l→∀ k,(l.getD k .undef).low n
 | [],_,k=>by simp [ae.low]
 | a :: ck,h,0=>by simpa [bx] using h.1
 | a :: ck,h,k+1=>by rw [bB];exact iX h.2 k
theorem D7 {n:Nat} {a:ae} (h:a.low n):bx n a.cells:=by
 cases a<;>simp only [ae.cells,bx,and_true]<;>first | exact h | (simpa [ae.low] using h)
mutual
theorem mP {n m:Nat} (h:n≤m):∀ {a:ae},a.low n→a.low m
 | .ptr _ _,k=>cS k h
 | .rp _ _ _,k=>cS k h
 | .os _ _ _ _,k=>cS k h
 | .oc _ _ _ _ _,k=>cS k h
 | .gZ,_=>trivial
 | .ld _,k=>cS k h
 | .map _,k=>cS k h
 | .it _,k=>cS k h
 | .pp _,k=>ie h k
 | .ps _ _,k=>ie h k
 | .fn _ _ _,k=>⟨ie h k.1,ie h k.2⟩
 | .pm _ _,k=>⟨ie h k.1,ie h k.2⟩
 | .agg _,k=>ie h k
 | .dy _,k=>ie h k
 | .iface _ v,k=>mP (a:=v) h k
 | .undef,_=>trivial
 | .bool _,_=>trivial
 | .int _ _,_=>trivial
 | .str _,_=>trivial
 | .bM,_=>trivial
 | .aU,_=>trivial
 | .az,_=>trivial
 | .cy,_=>trivial
 | .fE,_=>trivial
 | .nM _,_=>trivial
theorem ie {n m:Nat} (h:n≤m):∀ {l:List ae},bx n l→bx m l
 | [],_=>trivial
 | _ :: _,k=>⟨mP h k.1,ie h k.2⟩
end
def Env.cut (β:Env) (n:Nat):Env:=fun b=>if b<n then β b else none
theorem Env.kH {β:Env} {n b:Nat} (h:b<n) : β.cut n b = β b:=by simp [Env.cut,h]
theorem bR.low {w:World} {M:Nat→Nat→Prop} {β β':Env} {n:Nat} (hβ:∀ b,b<n→β' b = β b) {v:Value} {a:ae} (h:bR w M β v a) (hl:a.low n):bR w M β' v a:=by
 induction h with
 | undef v=>exact .undef v
 | bool b=>exact .bool b
 | int k n=>exact .int k n
 | str s=>exact .str s
 | bM=>exact .bM
 | ptr h=>exact .ptr ((hβ _ hl).trans h)
 | rp h=>exact .rp ((hβ _ hl).trans h)
 | pp cv hc _ ih=>exact .pp cv hc fun k hk=>ih k hk (iX hl k)
 | aU a=>exact .aU a
 | ps cv jf ft hc ha _ ih=>exact .ps cv jf ft hc ha fun i j hi hj=>ih i j hi hj (iX (D7 (iX hl i)) j)
 | sv a h=>exact .sv a ((hβ _ hl).trans h)
 | os h h1 h2=>exact .os ((hβ _ hl).trans h) h1 h2
 | gZ b=>exact .gZ b
 | su a h=>exact .su a ((hβ _ hl).trans h)
 | oc h h1 h2=>exact .oc ((hβ _ hl).trans h) h1 h2
 | az=>exact .az
 | fn h1 h2 _ _ ky oC=>exact .fn h1 h2 (fun k hk=>ky k hk (iX hl.1 k)) (fun k hk=>oC k hk (iX hl.2 k))
 | ld h=>exact .ld ((hβ _ hl).trans h)
 | cy=>exact .cy
 | map h=>exact .map ((hβ _ hl).trans h)
 | pm hg hm h1 h2 _ _ hb ky oC=>exact .pm hg hm h1 h2 (fun k hk=>ky k hk (iX hl.1 k)) (fun k hk=>oC k hk (iX hl.2 k)) hb
 | it h=>exact .it ((hβ _ hl).trans h)
 | agg h _ ih=>exact .agg h fun k hk=>ih k hk (iX hl k)
 | dy h _ ih=>exact .dy h fun k hk=>ih k hk (iX hl k)
 | fE=>exact .fE
 | iface _ ih=>exact .iface (ih hl)
 | nM v=>exact .nM v
def bE.low (n:Nat):bE→Prop
 | .var cs=>bx n cs
 | .row es _=>bx n es
 | .map ks vs _=>bx n ks∧bx n vs
 | .iter _ _=>True
 | .kZ ks vs _=>bx n ks∧bx n vs
 | .loop r=>bx n r.tm
theorem fR.low {w:World} {M:Nat→Nat→Prop} {β β':Env} {n:Nat} (hβ:∀ b,b<n→β' b = β b) {L:Loc} {cf:bE} (h:fR w M β L cf) (hl:cf.low n):fR w M β' L cf:=by
 cases cf with
 | var cs=>obtain ⟨c,e,h1,h0,h2,h3⟩:=h;exact ⟨c,e,h1,h0,h2,fun k eA=>(h3 k eA).low hβ (iX hl k)⟩
 | row es fz=>obtain ⟨c,e,h1,h2,h3,h4,h5⟩:=h;exact ⟨c,e,h1,h2,h3,h4,fun i j hi hj=>(h5 i j hi hj).low hβ (iX (D7 (iX hl i)) j)⟩
 | map ks vs fz=>obtain ⟨es,clk,h1,h2,h3,h4,h5,h6⟩:=h;exact ⟨es,clk,h1,h2,h3,fun k eA=>(h4 k eA).low hβ (iX hl.1 k),fun k eA=>(h5 k eA).low hβ (iX hl.2 k),h6⟩
 | iter s pos=>exact h
 | kZ ks vs seen=>obtain ⟨m,es,clk,h1,h2,h3,h4,h5,h6,h7,h8⟩:=h;exact ⟨m,es,clk,h1,h2,h3,h4,h5,fun k eA=>(h6 k eA).low hβ (iX hl.1 k),fun k eA=>(h7 k eA).low hβ (iX hl.2 k),h8⟩
 | loop r=>obtain ⟨t,d,f,h1,h2,h3⟩:=h;exact ⟨t,d,f,h1,h2,fun k eA=>(h3 k eA).low hβ (iX hl k)⟩
def xx (σ' σ:ai):Prop:=∀ (b:Nat) (x:bE),σ'[b]? = some (some x)→σ[b]? = some (some x)
def yI (n:Nat) (σ:ai):Prop:=∀ (b:Nat) (x:bE),σ[b]? = some (some x)→x.low n
theorem iQ.lM {σ σ':ai} {β β':Env} {n:Nat} (h1:xx σ' σ) (h2 : σ'.length≤n) (hβ:∀ b,b<n→β' b = β b) {g o:Nat} (h:iQ σ' β' g o):iQ σ β g o:=by
 obtain ⟨b,cf,L,h3,h4,h5,h6⟩:=h
 have hb:b<n:=cS (aH.1 h3).1 h2
 exact ⟨b,cf,L,h1 b cf h3,(hβ b hb).symm.trans h4,h5,h6⟩
section
variable {P:Program} {X:Nat→Nat→Prop} {base:Nat} {σ σ':ai} {β:Env} {w:World} {n:Nat}
theorem cF.drop (hr:cF X base σ β w) (h1:xx σ' σ) (h2 : σ'.length=n) (h3:yI n σ'):cF X base σ' (β.cut n) w:=by
 have hβ:∀ b,b<n→β.cut n b = β b:=fun b hb=>Env.kH hb
 have hk:dg w (MT X σ β) w (MT X σ' (β.cut n)):=dg.lM fun g o h=>h.imp id fun hm=>hm.lM h1 (by omega) hβ
 refine ⟨fun b hb=>by simp [Env.cut];omega,fun b cf hb=>?_,fun b b' cf kG L L' e1 e2 e3 e4 hg=>?_,hr.size,hr.p6,hr.gl⟩
 ·have mc:b<n:=by have:=(aH.1 hb).1;omega
  obtain ⟨L,q1,q2,q3,q4⟩:=hr.cf b cf (h1 b cf hb)
  exact ⟨L,(hβ b mc).trans q1,q2,q3,(q4.mono hk (fun _ _ h=>h) rfl).low hβ (h3 b cf hb)⟩
 ·have mc:b<n:=by have:=(aH.1 e1).1;omega
  have MA:b'<n:=by have:=(aH.1 e2).1;omega
  exact hr.inj b b' cf kG L L' (h1 b cf e1) (h1 b' kG e2) ((hβ b mc).symm.trans e3) ((hβ b' MA).symm.trans e4) hg
theorem bR.drop {v:Value} {a:ae} (h:bR w (MT X σ β) β v a) (h1:xx σ' σ) (h2 : σ'.length=n) (hl:a.low n):bR w (MT X σ' (β.cut n)) (β.cut n) v a:=by
 have hβ:∀ b,b<n→β.cut n b = β b:=fun b hb=>Env.kH hb
 have hk:dg w (MT X σ β) w (MT X σ' (β.cut n)):=dg.lM fun g o h=>h.imp id fun hm=>hm.lM h1 (by omega) hβ
 exact (h.mono hk (fun _ _ h=>h)).low hβ hl
theorem Ext.drop {lo:Nat} {kc:ai} {A1:Env} {w0:World} (h:Ext lo kc A1 w0 σ β w) (h1:xx σ' σ) (h2 : σ'.length=n) (iL:lo≤n):Ext lo kc A1 w0 σ' (β.cut n) w :=
 ⟨h.os,h.tape,h.output,h.size,h.cell,h.block,fun g o hm=>h.iC g o (hm.lM h1 (by omega) fun b hb=>Env.kH hb),fun b hb=>by rw [Env.kH (by omega)];exact h.env b hb⟩
end
inductive cb where
 | normal
 | exit (id:Nat)
 | goto (l:Nat)
 | ret
 | panic (u:Value)
def Marks (mb:Nat) (D:List Deferred) (w:World) (ds:List Deferred):Prop :=
 ∃ rs:List Nat,ds=rs.map (fun r=>{ target:=.collected r,args:=#[] })++D∧rs.Nodup∧∀ r∈rs,mb≤r∧w.heap[r]? = some (.deferred (some []))
structure Rel (X:Nat→Nat→Prop) (base mb:Nat) (D:List Deferred) (st:St) (β:Env) (a:Act) (w:World):Prop where
 s:cF X base st.σ β w
 n:a.tmps.size=st.tm.length
 t:∀ k,k<st.tm.length→bR w (MT X st.σ β) β (a.tmps.getD k undef) (st.tm.getD k .undef)
 d:Marks mb D w a.defers
def zC (P:Program) (m:Machine) (b:Frame) (k:List Item) (cs:List Frame):cb→Act→World→Prop
 | .normal,a,w=>Steps P m (lone (b.atR a k) cs w)
 | .exit id,a,w=>∃ k',exitTo id k'=exitTo id k∧Steps P m (lone (b.atR a (.code (.exit id) :: k')) cs w)
 | .goto l,a,w=>∃ k',gotoIn l k'=gotoIn l k∧Steps P m (lone (b.atR a (.code (.goto l) :: k')) cs w)
 | .ret,a,w=>∃ k',Steps P m (lone (b.atR a (.code .ret :: k')) cs w)
 | .panic u,a,w=>∃ k',Steps P m (lone { b.atR a k' with mode:=.panicking [{ v:=u,recovered:=false }] } cs w)
theorem zC.of_steps {P:Program} {m m₁:Machine} {b:Frame} {k:List Item} {cs:List Frame} {e:cb} {a:Act} {w:World} (h:Steps P m m₁) (h':zC P m₁ b k cs e a w):zC P m b k cs e a w:=by
 cases e with
 | normal=>exact h.trans h'
 | exit id=>obtain ⟨k',h1,h2⟩:=h';exact ⟨k',h1,h.trans h2⟩
 | goto l=>obtain ⟨k',h1,h2⟩:=h';exact ⟨k',h1,h.trans h2⟩
 | ret=>obtain ⟨k',h2⟩:=h';exact ⟨k',h.trans h2⟩
 | panic u=>obtain ⟨k',h2⟩:=h';exact ⟨k',h.trans h2⟩
structure Ctx where
 n:Nat
 ro:Option Nat
def Ctx.ok (c:Ctx) (β:Env) (b:Frame):Prop :=
 match c.ro with
 | none=>b.roundOf=none
 | some bl=>bl<c.n∧∃ L,β bl=some L∧b.roundOf=some L.g
theorem Ctx.ok.env {c:Ctx} {β β':Env} {b:Frame} (h:c.ok β b) (he:∀ x,x<c.n→β' x = β x):c.ok β' b:=by
 unfold Ctx.ok at *
 split
 ·rename_i e;rw [e] at h;exact h
 ·rename_i bl e
  rw [e] at h
  obtain ⟨h1,L,h2,h3⟩:=h
  exact ⟨h1,L,(he bl h1).trans h2,h3⟩
theorem Ctx.ok.ext {c:Ctx} {σ σ':ai} {β β':Env} {w w':World} {b:Frame} (h:c.ok β b) (he:Ext c.n σ β w σ' β' w'):c.ok β' b:=h.env he.env
theorem Ctx.ok.cut {c:Ctx} {β:Env} {b:Frame} {n:Nat} (h:c.ok β b) (hn:c.n≤n):c.ok (β.cut n) b:=h.env fun _ hx=>Env.kH (cS hx hn)
def ic (P:Program) (lo:Ctx) (c:Code) (st:St) (Q:cb→St→Prop):Prop :=
 ∀ (X:Nat→Nat→Prop) (base mb:Nat) (D:List Deferred) (β:Env) (a:Act) (w:World) (b:Frame) (k:List Item) (cs:List Frame),lo.n≤st.σ.length→mb≤w.heap.size→Rel X base mb D st β a w→lo.ok β b →
  ∃ e dZ β' a' w',Q e dZ∧lo.n≤dZ.σ.length∧Rel X base mb D dZ β' a' w'∧Ext lo.n st.σ β w dZ.σ β' w'∧zC P (lone (b.atR a (.code c :: k)) cs w) b k cs e a' w'
def lW (P:Program) (lo:Ctx) (ops:Array Oper) (r l:List Nat) (st:St) (Q:cb→St→Prop):Prop :=
 ∀ (X:Nat→Nat→Prop) (base mb:Nat) (D:List Deferred) (β:Env) (a:Act) (w:World) (b:Frame) (k:List Item) (cs:List Frame),lo.n≤st.σ.length→mb≤w.heap.size→Rel X base mb D st β a w →
  ∃ e dZ β' a' w',Q e dZ∧lo.n≤dZ.σ.length∧Rel X base mb D dZ β' a' w'∧Ext lo.n st.σ β w dZ.σ β' w'∧a'.defers=a.defers ∧
   zC P (lone (b.atR a (.inRegion ops (l++r) :: k)) cs w) b (.inRegion ops r :: k) cs e a' w'
section
variable {P:Program} {lo:Ctx} {st:St} {Q:cb→St→Prop}
theorem ic.mono {c:Code} {Q':cb→St→Prop} (h:ic P lo c st Q) (hq:∀ e s,Q e s→Q' e s):ic P lo c st Q':=by
 intro X base mb D β a w b k cs h1 h2 h3 m9
 obtain ⟨e,dZ,β',a',w',q,rest⟩:=h X base mb D β a w b k cs h1 h2 h3 m9
 exact ⟨e,dZ,β',a',w',hq _ _ q,rest⟩
theorem ic.skip (h:Q .normal st):ic P lo .skip st Q:=fun X base mb D β a w b k cs h1 h2 h3 _=>⟨.normal,st,β,a,w,h,h1,h3,Ext.refl _ _ _ _, .one stepR_skip⟩
theorem ic.label {l:Nat} (h:Q .normal st):ic P lo (.label l) st Q:=fun X base mb D β a w b k cs h1 h2 h3 _=>⟨.normal,st,β,a,w,h,h1,h3,Ext.refl _ _ _ _, .one stepR_label⟩
theorem ic.exit {id:Nat} (h:Q (.exit id) st):ic P lo (.exit id) st Q:=fun X base mb D β a w b k cs h1 h2 h3 _=>⟨.exit id,st,β,a,w,h,h1,h3,Ext.refl _ _ _ _,k,rfl, .refl _ _⟩
theorem ic.goto {l:Nat} (h:Q (.goto l) st):ic P lo (.goto l) st Q:=fun X base mb D β a w b k cs h1 h2 h3 _=>⟨.goto l,st,β,a,w,h,h1,h3,Ext.refl _ _ _ _,k,rfl, .refl _ _⟩
theorem ic.ret (h:Q .ret st):ic P lo .ret st Q:=fun X base mb D β a w b k cs h1 h2 h3 _=>⟨.ret,st,β,a,w,h,h1,h3,Ext.refl _ _ _ _,k, .refl _ _⟩
def cb.then (next:St→Prop) (Q:cb→St→Prop):cb→St→Prop
 | .normal,s=>next s
 | e,s=>Q e s
theorem ic.seq {x y:Code} (h:ic P lo x st (cb.then (fun s=>ic P lo y s Q) Q)):ic P lo (.seq x y) st Q:=by
 intro X base mb D β a w b k cs h1 h2 h3 m9
 obtain ⟨e,ka,eS,a1,w1,q,h4,h5,h6,h7⟩:=h X base mb D β a w b (.code y :: k) cs h1 h2 h3 m9
 cases e with
 | normal =>
  obtain ⟨e2,AW,mI,a2,w2,q2,g4,g5,g6,g7⟩:=q X base mb D eS a1 w1 b k cs h4 (cR h2 h6.size) h5 (m9.ext h6)
  exact ⟨e2,AW,mI,a2,w2,q2,g4,g5,h6.trans g6, .of_steps (.head stepR_seq h7) g7⟩
 | exit id=>exact ⟨.exit id,ka,eS,a1,w1,q,h4,h5,h6, .of_steps (.one stepR_seq) h7⟩
 | goto l=>exact ⟨.goto l,ka,eS,a1,w1,q,h4,h5,h6, .of_steps (.one stepR_seq) h7⟩
 | ret=>exact ⟨.ret,ka,eS,a1,w1,q,h4,h5,h6, .of_steps (.one stepR_seq) h7⟩
 | panic u=>exact ⟨.panic u,ka,eS,a1,w1,q,h4,h5,h6, .of_steps (.one stepR_seq) h7⟩
theorem va {X:Nat→Nat→Prop} {base mb:Nat} {D:List Deferred} {β:Env} {a:Act} {w:World} (h:Rel X base mb D st β a w) (x:Operand):bR w (MT X st.σ β) β (a.eval x) (ev st.tm x):=by
 cases x with
 | tmp t =>
  simp only [Act.eval,ev]
  by_cases ht:t<st.tm.length
  ·exact h.t t ht
  ·have:st.tm.getD t .undef = .undef:=by simp [List.getD,bq (dP ht)]
   rw [this];exact .undef _
 | const v=>exact JT v
 | global g=>exact .nM _
 | func f=>exact .fn (fa:=#[]) (ca:=#[]) rfl rfl (fun k hk=>by simp at hk) (fun k hk=>by simp at hk)
theorem ic.cond {c:Operand} {x y:Code} {t:Bool} (hc:ev st.tm c = .bool t) (h1:t=true→ic P lo x st Q) (h2:t=false→ic P lo y st Q):ic P lo (.cond c x y) st Q:=by
 intro X base mb D β a w b k cs g1 g2 g3 m9
 have hv:=va g3 c
 rw [hc] at hv
 have iu:=stepR_cond (P:=P) (b:=b) (k:=k) (cs:=cs) (w:=w) (x:=x) (y:=y) hv.g_
 cases t with
 | true =>
  obtain ⟨e,ka,eS,a1,w1,q,r1,r2,r3,r4⟩:=h1 rfl X base mb D β a w b k cs g1 g2 g3 m9
  exact ⟨e,ka,eS,a1,w1,q,r1,r2,r3, .of_steps (.one iu) r4⟩
 | false =>
  obtain ⟨e,ka,eS,a1,w1,q,r1,r2,r3,r4⟩:=h2 rfl X base mb D β a w b k cs g1 g2 g3 m9
  exact ⟨e,ka,eS,a1,w1,q,r1,r2,r3, .of_steps (.one iu) r4⟩
theorem ic.Af {c:Operand} {x y:Code} (hc:ev st.tm c = .gZ) (h1:ic P lo x st Q) (h2:ic P lo y st Q):ic P lo (.cond c x y) st Q:=by
 intro X base mb D β a w b k cs g1 g2 g3 m9
 have hv:=va g3 c
 rw [hc] at hv
 obtain ⟨t,hv⟩:∃ t,a.eval c = .bool t:=by
  generalize a.eval c=v at hv
  cases hv;exact ⟨_,rfl⟩
 have iu:=stepR_cond (P:=P) (b:=b) (k:=k) (cs:=cs) (w:=w) (x:=x) (y:=y) hv
 cases t with
 | true =>
  obtain ⟨e,ka,eS,a1,w1,q,r1,r2,r3,r4⟩:=h1 X base mb D β a w b k cs g1 g2 g3 m9
  exact ⟨e,ka,eS,a1,w1,q,r1,r2,r3, .of_steps (.one iu) r4⟩
 | false =>
  obtain ⟨e,ka,eS,a1,w1,q,r1,r2,r3,r4⟩:=h2 X base mb D β a w b k cs g1 g2 g3 m9
  exact ⟨e,ka,eS,a1,w1,q,r1,r2,r3, .of_steps (.one iu) r4⟩
def cb.inBlock (id:Nat) (Q:cb→St→Prop):cb→St→Prop
 | .exit uW,s=>if uW=id then Q .normal s else Q (.exit uW) s
 | e,s=>Q e s
theorem ic.block {id:Nat} {c:Code} (h:ic P lo c st (cb.inBlock id Q)):ic P lo (.block id c) st Q:=by
 intro X base mb D β a w b k cs h1 h2 h3 m9
 obtain ⟨e,ka,eS,a1,w1,q,h4,h5,h6,h7⟩:=h X base mb D β a w b (.inBlock id :: k) cs h1 h2 h3 m9
 cases e with
 | normal=>exact ⟨.normal,ka,eS,a1,w1,q,h4,h5,h6, .head stepR_block (Steps.trans h7 (.one stepR_inBlock))⟩
 | exit uW =>
  obtain ⟨k',e1,e2⟩:=h7
  by_cases qO:uW=id
  ·simp only [cb.inBlock,qO,if_true] at q
   refine ⟨.normal,ka,eS,a1,w1,q,h4,h5,h6, .head stepR_block (Steps.trans e2 (.one (stepR_exit ?_)))⟩
   rw [e1];simp [exitTo,qO]
  ·simp only [cb.inBlock,qO,if_false] at q
   have:(id==uW)=false:=by simp;exact fun h=>qO h.symm
   exact ⟨.exit uW,ka,eS,a1,w1,q,h4,h5,h6,k',by rw [e1];simp [exitTo,this], .head stepR_block e2⟩
 | goto l =>
  obtain ⟨k',e1,e2⟩:=h7
  exact ⟨.goto l,ka,eS,a1,w1,q,h4,h5,h6,k',by rw [e1];rfl, .head stepR_block e2⟩
 | ret =>
  obtain ⟨k',e2⟩:=h7
  exact ⟨.ret,ka,eS,a1,w1,q,h4,h5,h6,k', .head stepR_block e2⟩
 | panic u =>
  obtain ⟨k',e2⟩:=h7
  exact ⟨.panic u,ka,eS,a1,w1,q,h4,h5,h6,k', .head stepR_block e2⟩
theorem ic.scope {c:Code} (h:ic P lo c st (fun e s=>(∀ l,e≠.goto l)∧Q e s)):ic P lo (.scope c) st Q:=by
 intro X base mb D β a w b k cs h1 h2 h3 m9
 have hs:step P (lone (b.atR a (.code (.scope c) :: k)) cs w) = .next (lone (b.atR a (.code c :: .inScope c :: k)) cs w):=step_lone_go (by simp [stepG,stepG.exec,Frame.atR])
 have zr:∀ a w,step P (lone (b.atR a (.inScope c :: k)) cs w) = .next (lone (b.atR a k) cs w):=fun a w=>step_lone_go (by simp [stepG,stepG.exec,Frame.atR])
 obtain ⟨e,ka,eS,a1,w1,q,h4,h5,h6,h7⟩:=h X base mb D β a w b (.inScope c :: k) cs h1 h2 h3 m9
 cases e with
 | normal=>exact ⟨.normal,ka,eS,a1,w1,q.2,h4,h5,h6, .head hs (Steps.trans h7 (.one (zr _ _)))⟩
 | exit uW =>
  obtain ⟨k',e1,e2⟩:=h7
  exact ⟨.exit uW,ka,eS,a1,w1,q.2,h4,h5,h6,k',by rw [e1];rfl, .head hs e2⟩
 | goto l=>exact absurd rfl (q.1 l)
 | ret =>
  obtain ⟨k',e2⟩:=h7
  exact ⟨.ret,ka,eS,a1,w1,q.2,h4,h5,h6,k', .head hs e2⟩
 | panic u =>
  obtain ⟨k',e2⟩:=h7
  exact ⟨.panic u,ka,eS,a1,w1,q.2,h4,h5,h6,k', .head hs e2⟩
structure St.le (dZ st:St):Prop where
 n:dZ.tm.length=st.tm.length
 t:∀ k,k<dZ.tm.length→dZ.tm.getD k .undef = .undef∨dZ.tm.getD k .undef=st.tm.getD k .undef
 s:xx dZ.σ st.σ
 lt:bx dZ.σ.length dZ.tm
 ls:yI dZ.σ.length dZ.σ
theorem Rel.weaken {X:Nat→Nat→Prop} {base mb:Nat} {D:List Deferred} {β:Env} {a:Act} {w:World} {dZ:St} (h:Rel X base mb D st β a w) (hl:dZ.le st):Rel X base mb D dZ (β.cut dZ.σ.length) a w:=by
 refine ⟨h.s.drop hl.s rfl hl.ls,by rw [h.n,hl.n],fun k hk=>?_,h.d⟩
 rcases hl.t k hk with e | e
 ·rw [e];exact .undef _
 ·have:=h.t k (by rw [← hl.n];exact hk)
  rw [← e] at this
  exact this.drop hl.s rfl (iX hl.lt k)
theorem ic.loop {ι:Type} (I : ι→St) (μ : ι→Nat) {c:Code} (x0 : ι) (h0:(I x0).le st) (iL:∀ x,lo.n≤(I x).σ.length)
  (round:∀ x,ic P lo c (I x) (cb.then (fun s=>∃ y,(I y).le s∧μ y < μ x) Q)):ic P lo (.loop c) st Q:=by
 have key:∀ n x,μ x=n→∀ (X:Nat→Nat→Prop) (base mb:Nat) (D:List Deferred) (β:Env) (a:Act) (w:World) (b:Frame) (k:List Item) (cs:List Frame),mb≤w.heap.size→Rel X base mb D (I x) β a w→lo.ok β b →
   ∃ e dZ β' a' w',Q e dZ∧lo.n≤dZ.σ.length∧Rel X base mb D dZ β' a' w'∧Ext lo.n (I x).σ β w dZ.σ β' w'∧zC P (lone (b.atR a (.code c :: .inLoop c :: k)) cs w) b k cs e a' w':=by
  intro n
  induction n using Nat.strongRecOn with
  | _ n ih =>
   intro x hn X base mb D β a w b k cs h2 h3 m9
   obtain ⟨e,ka,eS,a1,w1,q,h4,h5,h6,h7⟩:=round x X base mb D β a w b (.inLoop c :: k) cs (iL x) h2 h3 m9
   cases e with
   | normal =>
    obtain ⟨y,hy,NS⟩:=q
    have hw:=h5.weaken hy
    obtain ⟨e2,AW,mI,a2,w2,q2,g4,g5,g6,g7⟩:=ih (μ y) (hn ▸ NS) y rfl X base mb D _ a1 w1 b k cs (cR h2 h6.size) hw ((m9.ext h6).cut (iL y))
    exact ⟨e2,AW,mI,a2,w2,q2,g4,g5,(h6.drop hy.s rfl (iL y)).trans g6, .of_steps (Steps.trans h7 (.one stepR_inLoop)) g7⟩
   | exit id=>obtain ⟨k',e1,e2⟩:=h7;exact ⟨.exit id,ka,eS,a1,w1,q,h4,h5,h6,k',by rw [e1];rfl,e2⟩
   | goto l=>obtain ⟨k',e1,e2⟩:=h7;exact ⟨.goto l,ka,eS,a1,w1,q,h4,h5,h6,k',by rw [e1];rfl,e2⟩
   | ret=>exact ⟨.ret,ka,eS,a1,w1,q,h4,h5,h6,h7⟩
   | panic u=>exact ⟨.panic u,ka,eS,a1,w1,q,h4,h5,h6,h7⟩
 intro X base mb D β a w b k cs h1 h2 h3 m9
 obtain ⟨e,ka,eS,a1,w1,q,h4,h5,h6,h7⟩:=key _ x0 rfl X base mb D _ a w b k cs h2 (h3.weaken h0) (m9.cut (iL x0))
 exact ⟨e,ka,eS,a1,w1,q,h4,h5,((Ext.refl lo.n _ _ _).drop h0.s rfl (iL x0)).trans h6, .of_steps (.one stepR_loop) h7⟩
end
end Go.cV
