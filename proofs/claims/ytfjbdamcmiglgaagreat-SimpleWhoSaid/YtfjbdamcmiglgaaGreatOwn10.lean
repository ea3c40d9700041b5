/- Part 10 of my own framework and of the walks of functions: AbsL. -/
import Derived.Test.YtfjbdamcmiglgaaGreatOwn9
abbrev dN:=@Nat.le_of_not_lt
set_option linter.unusedVariables false
set_option linter.unusedSectionVars false
set_option linter.unusedSimpArgs false
namespace Go.c8
open Go
mutual
def ae.low (n:Nat):ae→Prop
 | .ptr b _=>b<n
 | .rp b _ _=>b<n
 | .os b _ _ _=>b<n
 | .oc b _ _ _ _=>b<n
 | .ld b=>b<n
 | .map b=>b<n
 | .it b=>b<n
 | .pp cs=>bx n cs
 | .ps _ es=>bx n es
 | .fn _ a c=>bx n a∧bx n c
 | .pm ks vs=>bx n ks∧bx n vs
 | .agg cs=>bx n cs
 | .dz cs=>bx n cs
 | .iface _ v=>v.low n
 | _=>True
def bx (n:Nat):List ae→Prop
 | []=>True
 | a :: cj=>a.low n∧bx n cj
end
theorem iW {n:Nat}:∀ {l:List ae},bx n l→∀ k,(l.getD k .undef).low n
 | [],_,k=>by simp [ae.low]
 | a :: cj,h,0=>by simpa [bx] using h.1
 | a :: cj,h,k+1=>by rw [bB];exact iW h.2 k
theorem DY {n:Nat} {a:ae} (h:a.low n):bx n a.cells:=by
 cases a<;>simp only [ae.cells,bx,and_true]<;>first | exact h | (simpa [ae.low] using h)
mutual
theorem mQ {n m:Nat} (h:n≤m):∀ {a:ae},a.low n→a.low m
 | .ptr _ _,k=>cQ k h
 | .rp _ _ _,k=>cQ k h
 | .os _ _ _ _,k=>cQ k h
 | .oc _ _ _ _ _,k=>cQ k h
 | .gZ,_=>trivial
 | .ld _,k=>cQ k h
 | .map _,k=>cQ k h
 | .it _,k=>cQ k h
 | .pp _,k=>il h k
 | .ps _ _,k=>il h k
 | .fn _ _ _,k=>⟨il h k.1,il h k.2⟩
 | .pm _ _,k=>⟨il h k.1,il h k.2⟩
 | .agg _,k=>il h k
 | .dz _,k=>il h k
 | .iface _ v,k=>mQ (a:=v) h k
 | .undef,_=>trivial
 | .bool _,_=>trivial
 | .int _ _,_=>trivial
 | .str _,_=>trivial
 | .bM,_=>trivial
 | .aU,_=>trivial
 | .az,_=>trivial
 | .cw,_=>trivial
 | .fC,_=>trivial
 | .nL _,_=>trivial
theorem il {n m:Nat} (h:n≤m):∀ {l:List ae},bx n l→bx m l
 | [],_=>trivial
 | _ :: _,k=>⟨mQ h k.1,il h k.2⟩
end
def Env.cut (β:Env) (n:Nat):Env:=fun b=>if b<n then β b else none
theorem Env.kJ {β:Env} {n b:Nat} (h:b<n) : β.cut n b = β b:=by simp [Env.cut,h]
theorem bR.low {w:World} {M:Nat→Nat→Prop} {β β':Env} {n:Nat} (hβ:∀ b,b<n→β' b = β b) {v:Value} {a:ae} (h:bR w M β v a) (hl:a.low n):bR w M β' v a:=by
 induction h with
 | undef v=>exact .undef v
 | bool b=>exact .bool b
 | int k n=>exact .int k n
 | str s=>exact .str s
 | bM=>exact .bM
 | ptr h=>exact .ptr ((hβ _ hl).trans h)
 | rp h=>exact .rp ((hβ _ hl).trans h)
 | pp cv hc _ ih=>exact .pp cv hc fun k hk=>ih k hk (iW hl k)
 | aU a=>exact .aU a
 | ps cv jd fF hc ha _ ih=>exact .ps cv jd fF hc ha fun i j hi hj=>ih i j hi hj (iW (DY (iW hl i)) j)
 | sd a h=>exact .sd a ((hβ _ hl).trans h)
 | os h h1 h2=>exact .os ((hβ _ hl).trans h) h1 h2
 | gZ b=>exact .gZ b
 | sc a h=>exact .sc a ((hβ _ hl).trans h)
 | oc h h1 h2=>exact .oc ((hβ _ hl).trans h) h1 h2
 | az=>exact .az
 | fn h1 h2 _ _ kA oA=>exact .fn h1 h2 (fun k hk=>kA k hk (iW hl.1 k)) (fun k hk=>oA k hk (iW hl.2 k))
 | ld h=>exact .ld ((hβ _ hl).trans h)
 | cw=>exact .cw
 | map h=>exact .map ((hβ _ hl).trans h)
 | pm hg hm h1 h2 _ _ hb kA oA=>exact .pm hg hm h1 h2 (fun k hk=>kA k hk (iW hl.1 k)) (fun k hk=>oA k hk (iW hl.2 k)) hb
 | it h=>exact .it ((hβ _ hl).trans h)
 | agg h _ ih=>exact .agg h fun k hk=>ih k hk (iW hl k)
 | dz h _ ih=>exact .dz h fun k hk=>ih k hk (iW hl k)
 | fC=>exact .fC
 | iface _ ih=>exact .iface (ih hl)
 | nL v=>exact .nL v
def bE.low (n:Nat):bE→Prop
 | .var cs=>bx n cs
 | .row es _=>bx n es
 | .map ks vs _=>bx n ks∧bx n vs
 | .iter _ _=>True
 | .kZ ks vs _=>bx n ks∧bx n vs
 | .loop r=>bx n r.tm
theorem fR.low {w:World} {M:Nat→Nat→Prop} {β β':Env} {n:Nat} (hβ:∀ b,b<n→β' b = β b) {L:Loc} {cd:bE} (h:fR w M β L cd) (hl:cd.low n):fR w M β' L cd:=by
 cases cd with
 | var cs=>obtain ⟨c,e,h1,h0,h2,h3⟩:=h;exact ⟨c,e,h1,h0,h2,fun k er=>(h3 k er).low hβ (iW hl k)⟩
 | row es fz=>obtain ⟨c,e,h1,h2,h3,h4,h5⟩:=h;exact ⟨c,e,h1,h2,h3,h4,fun i j hi hj=>(h5 i j hi hj).low hβ (iW (DY (iW hl i)) j)⟩
 | map ks vs fz=>obtain ⟨es,clk,h1,h2,h3,h4,h5,h6⟩:=h;exact ⟨es,clk,h1,h2,h3,fun k er=>(h4 k er).low hβ (iW hl.1 k),fun k er=>(h5 k er).low hβ (iW hl.2 k),h6⟩
 | iter s pos=>exact h
 | kZ ks vs seen=>obtain ⟨m,es,clk,h1,h2,h3,h4,h5,h6,h7,h8⟩:=h;exact ⟨m,es,clk,h1,h2,h3,h4,h5,fun k er=>(h6 k er).low hβ (iW hl.1 k),fun k er=>(h7 k er).low hβ (iW hl.2 k),h8⟩
 | loop r=>obtain ⟨t,d,f,h1,h2,h3⟩:=h;exact ⟨t,d,f,h1,h2,fun k er=>(h3 k er).low hβ (iW hl k)⟩
def xo (σ' σ:ai):Prop:=∀ (b:Nat) (x:bE),σ'[b]? = some (some x)→σ[b]? = some (some x)
def yD (n:Nat) (σ:ai):Prop:=∀ (b:Nat) (x:bE),σ[b]? = some (some x)→x.low n
theorem iO.lP {σ σ':ai} {β β':Env} {n:Nat} (h1:xo σ' σ) (h2 : σ'.length≤n) (hβ:∀ b,b<n→β' b = β b) {g o:Nat} (h:iO σ' β' g o):iO σ β g o:=by
 obtain ⟨b,cd,L,h3,h4,h5,h6⟩:=h
 have hb:b<n:=cQ (aI.1 h3).1 h2
 exact ⟨b,cd,L,h1 b cd h3,(hβ b hb).symm.trans h4,h5,h6⟩
section
variable {P:Program} {X:Nat→Nat→Prop} {base:Nat} {σ σ':ai} {β:Env} {w:World} {n:Nat}
theorem cC.drop (hr:cC X base σ β w) (h1:xo σ' σ) (h2 : σ'.length=n) (h3:yD n σ'):cC X base σ' (β.cut n) w:=by
 have hβ:∀ b,b<n→β.cut n b = β b:=fun b hb=>Env.kJ hb
 have hk:df w (MT X σ β) w (MT X σ' (β.cut n)):=df.lP fun g o h=>h.imp id fun hm=>hm.lP h1 (by omega) hβ
 refine ⟨fun b hb=>by simp [Env.cut];omega,fun b cd hb=>?_,fun b b' cd kI L L' e1 e2 e3 e4 hg=>?_,hr.size,hr.pW,hr.gl⟩
 ·have mf:b<n:=by have:=(aI.1 hb).1;omega
  obtain ⟨L,q1,q2,q3,q4⟩:=hr.cd b cd (h1 b cd hb)
  exact ⟨L,(hβ b mf).trans q1,q2,q3,(q4.mono hk (fun _ _ h=>h) rfl).low hβ (h3 b cd hb)⟩
 ·have mf:b<n:=by have:=(aI.1 e1).1;omega
  have Mk:b'<n:=by have:=(aI.1 e2).1;omega
  exact hr.inj b b' cd kI L L' (h1 b cd e1) (h1 b' kI e2) ((hβ b mf).symm.trans e3) ((hβ b' Mk).symm.trans e4) hg
theorem bR.drop {v:Value} {a:ae} (h:bR w (MT X σ β) β v a) (h1:xo σ' σ) (h2 : σ'.length=n) (hl:a.low n):bR w (MT X σ' (β.cut n)) (β.cut n) v a:=by
 have hβ:∀ b,b<n→β.cut n b = β b:=fun b hb=>Env.kJ hb
 have hk:df w (MT X σ β) w (MT X σ' (β.cut n)):=df.lP fun g o h=>h.imp id fun hm=>hm.lP h1 (by omega) hβ
 exact (h.mono hk (fun _ _ h=>h)).low hβ hl
theorem Ext.drop {lo:Nat} {kf:ai} {AV:Env} {w0:World} (h:Ext lo kf AV w0 σ β w) (h1:xo σ' σ) (h2 : σ'.length=n) (iJ:lo≤n):Ext lo kf AV w0 σ' (β.cut n) w :=
 ⟨h.os,h.tape,h.output,h.size,h.cell,h.block,fun g o hm=>h.iB g o (hm.lP h1 (by omega) fun b hb=>Env.kJ hb),fun b hb=>by rw [Env.kJ (by omega)];exact h.env b hb⟩
end
inductive b9 where
 | normal
 | exit (id:Nat)
 | goto (l:Nat)
 | ret
 | panic (u:Value)
def Marks (mb:Nat) (D:List Deferred) (w:World) (ds:List Deferred):Prop :=
 ∃ rs:List Nat,ds=rs.map (fun r=>{ target:=.collected r,args:=#[] })++D∧rs.Nodup∧∀ r∈rs,mb≤r∧w.heap[r]? = some (.deferred (some []))
structure Rel (X:Nat→Nat→Prop) (base mb:Nat) (D:List Deferred) (st:St) (β:Env) (a:Act) (w:World):Prop where
 s:cC X base st.σ β w
 n:a.tmps.size=st.tm.length
 t:∀ k,k<st.tm.length→bR w (MT X st.σ β) β (a.tmps.getD k undef) (st.tm.getD k .undef)
 d:Marks mb D w a.defers
def zx (P:Program) (m:Machine) (b:Frame) (k:List Item) (cs:List Frame):b9→Act→World→Prop
 | .normal,a,w=>Steps P m (lone (b.atR a k) cs w)
 | .exit id,a,w=>∃ k',exitTo id k'=exitTo id k∧Steps P m (lone (b.atR a (.code (.exit id) :: k')) cs w)
 | .goto l,a,w=>∃ k',gotoIn l k'=gotoIn l k∧Steps P m (lone (b.atR a (.code (.goto l) :: k')) cs w)
 | .ret,a,w=>∃ k',Steps P m (lone (b.atR a (.code .ret :: k')) cs w)
 | .panic u,a,w=>∃ k',Steps P m (lone { b.atR a k' with mode:=.panicking [{ v:=u,recovered:=false }] } cs w)
theorem zx.of_steps {P:Program} {m m₁:Machine} {b:Frame} {k:List Item} {cs:List Frame} {e:b9} {a:Act} {w:World} (h:Steps P m m₁) (h':zx P m₁ b k cs e a w):zx P m b k cs e a w:=by
 cases e with
 | normal=>exact h.trans h'
 | exit id=>obtain ⟨k',h1,h2⟩:=h';exact ⟨k',h1,h.trans h2⟩
 | goto l=>obtain ⟨k',h1,h2⟩:=h';exact ⟨k',h1,h.trans h2⟩
 | ret=>obtain ⟨k',h2⟩:=h';exact ⟨k',h.trans h2⟩
 | panic u=>obtain ⟨k',h2⟩:=h';exact ⟨k',h.trans h2⟩
structure Ctx where
 n:Nat
 ro:Option Nat
def Ctx.ok (c:Ctx) (β:Env) (b:Frame):Prop :=
 match c.ro with
 | none=>b.roundOf=none
 | some bl=>bl<c.n∧∃ L,β bl=some L∧b.roundOf=some L.g
theorem Ctx.ok.env {c:Ctx} {β β':Env} {b:Frame} (h:c.ok β b) (he:∀ x,x<c.n→β' x = β x):c.ok β' b:=by
 unfold Ctx.ok at *
 split
 ·rename_i e;rw [e] at h;exact h
 ·rename_i bl e
  rw [e] at h
  obtain ⟨h1,L,h2,h3⟩:=h
  exact ⟨h1,L,(he bl h1).trans h2,h3⟩
theorem Ctx.ok.ext {c:Ctx} {σ σ':ai} {β β':Env} {w w':World} {b:Frame} (h:c.ok β b) (he:Ext c.n σ β w σ' β' w'):c.ok β' b:=h.env he.env
theorem Ctx.ok.cut {c:Ctx} {β:Env} {b:Frame} {n:Nat} (h:c.ok β b) (hn:c.n≤n):c.ok (β.cut n) b:=h.env fun _ hx=>Env.kJ (cQ hx hn)
def ib (P:Program) (lo:Ctx) (c:Code) (st:St) (Q:b9→St→Prop):Prop :=
 ∀ (X:Nat→Nat→Prop) (base mb:Nat) (D:List Deferred) (β:Env) (a:Act) (w:World) (b:Frame) (k:List Item) (cs:List Frame),lo.n≤st.σ.length→mb≤w.heap.size→Rel X base mb D st β a w→lo.ok β b →
  ∃ e dV β' a' w',Q e dV∧lo.n≤dV.σ.length∧Rel X base mb D dV β' a' w'∧Ext lo.n st.σ β w dV.σ β' w'∧zx P (lone (b.atR a (.code c :: k)) cs w) b k cs e a' w'
def lY (P:Program) (lo:Ctx) (ops:Array Oper) (r l:List Nat) (st:St) (Q:b9→St→Prop):Prop :=
 ∀ (X:Nat→Nat→Prop) (base mb:Nat) (D:List Deferred) (β:Env) (a:Act) (w:World) (b:Frame) (k:List Item) (cs:List Frame),lo.n≤st.σ.length→mb≤w.heap.size→Rel X base mb D st β a w →
  ∃ e dV β' a' w',Q e dV∧lo.n≤dV.σ.length∧Rel X base mb D dV β' a' w'∧Ext lo.n st.σ β w dV.σ β' w'∧a'.defers=a.defers ∧
   zx P (lone (b.atR a (.inRegion ops (l++r) :: k)) cs w) b (.inRegion ops r :: k) cs e a' w'
section
variable {P:Program} {lo:Ctx} {st:St} {Q:b9→St→Prop}
theorem ib.mono {c:Code} {Q':b9→St→Prop} (h:ib P lo c st Q) (hq:∀ e s,Q e s→Q' e s):ib P lo c st Q':=by
 intro X base mb D β a w b k cs h1 h2 h3 m9
 obtain ⟨e,dV,β',a',w',q,rest⟩:=h X base mb D β a w b k cs h1 h2 h3 m9
 exact ⟨e,dV,β',a',w',hq _ _ q,rest⟩
theorem ib.skip (h:Q .normal st):ib P lo .skip st Q:=fun X base mb D β a w b k cs h1 h2 h3 _=>⟨.normal,st,β,a,w,h,h1,h3,Ext.refl _ _ _ _, .one stepR_skip⟩
theorem ib.label {l:Nat} (h:Q .normal st):ib P lo (.label l) st Q:=fun X base mb D β a w b k cs h1 h2 h3 _=>⟨.normal,st,β,a,w,h,h1,h3,Ext.refl _ _ _ _, .one stepR_label⟩
theorem ib.exit {id:Nat} (h:Q (.exit id) st):ib P lo (.exit id) st Q:=fun X base mb D β a w b k cs h1 h2 h3 _=>⟨.exit id,st,β,a,w,h,h1,h3,Ext.refl _ _ _ _,k,rfl, .refl _ _⟩
theorem ib.goto {l:Nat} (h:Q (.goto l) st):ib P lo (.goto l) st Q:=fun X base mb D β a w b k cs h1 h2 h3 _=>⟨.goto l,st,β,a,w,h,h1,h3,Ext.refl _ _ _ _,k,rfl, .refl _ _⟩
theorem ib.ret (h:Q .ret st):ib P lo .ret st Q:=fun X base mb D β a w b k cs h1 h2 h3 _=>⟨.ret,st,β,a,w,h,h1,h3,Ext.refl _ _ _ _,k, .refl _ _⟩
def b9.then (next:St→Prop) (Q:b9→St→Prop):b9→St→Prop
 | .normal,s=>next s
 | e,s=>Q e s
theorem ib.seq {x y:Code} (h:ib P lo x st (b9.then (fun s=>ib P lo y s Q) Q)):ib P lo (.seq x y) st Q:=by
 intro X base mb D β a w b k cs h1 h2 h3 m9
 obtain ⟨e,kb,eO,a1,w1,q,h4,h5,h6,h7⟩:=h X base mb D β a w b (.code y :: k) cs h1 h2 h3 m9
 cases e with
 | normal =>
  obtain ⟨e2,AK,mJ,a2,w2,q2,g4,g5,g6,g7⟩:=q X base mb D eO a1 w1 b k cs h4 (cP h2 h6.size) h5 (m9.ext h6)
  exact ⟨e2,AK,mJ,a2,w2,q2,g4,g5,h6.trans g6, .of_steps (.head stepR_seq h7) g7⟩
 | exit id=>exact ⟨.exit id,kb,eO,a1,w1,q,h4,h5,h6, .of_steps (.one stepR_seq) h7⟩
 | goto l=>exact ⟨.goto l,kb,eO,a1,w1,q,h4,h5,h6, .of_steps (.one stepR_seq) h7⟩
 | ret=>exact ⟨.ret,kb,eO,a1,w1,q,h4,h5,h6, .of_steps (.one stepR_seq) h7⟩
 | panic u=>exact ⟨.panic u,kb,eO,a1,w1,q,h4,h5,h6, .of_steps (.one stepR_seq) h7⟩
theorem uP {X:Nat→Nat→Prop} {base mb:Nat} {D:List Deferred} {β:Env} {a:Act} {w:World} (h:Rel X base mb D st β a w) (x:Operand):bR w (MT X st.σ β) β (a.eval x) (ev st.tm x):=by
 cases x with
 | tmp t =>
  simp only [Act.eval,ev]
  by_cases ht:t<st.tm.length
  ·exact h.t t ht
  ·have:st.tm.getD t .undef = .undef:=by simp [List.getD,bq (dN ht)]
   rw [this];exact .undef _
 | const v=>exact JJ v
 | global g=>exact .nL _
 | func f=>exact .fn (fa:=#[]) (ca:=#[]) rfl rfl (fun k hk=>by simp at hk) (fun k hk=>by simp at hk)
theorem ib.cond {c:Operand} {x y:Code} {t:Bool} (hc:ev st.tm c = .bool t) (h1:t=true→ib P lo x st Q) (h2:t=false→ib P lo y st Q):ib P lo (.cond c x y) st Q:=by
 intro X base mb D β a w b k cs g1 g2 g3 m9
 have hv:=uP g3 c
 rw [hc] at hv
 have iq:=stepR_cond (P:=P) (b:=b) (k:=k) (cs:=cs) (w:=w) (x:=x) (y:=y) hv.g_
 cases t with
 | true =>
  obtain ⟨e,kb,eO,a1,w1,q,r1,r2,r3,r4⟩:=h1 rfl X base mb D β a w b k cs g1 g2 g3 m9
  exact ⟨e,kb,eO,a1,w1,q,r1,r2,r3, .of_steps (.one iq) r4⟩
 | false =>
  obtain ⟨e,kb,eO,a1,w1,q,r1,r2,r3,r4⟩:=h2 rfl X base mb D β a w b k cs g1 g2 g3 m9
  exact ⟨e,kb,eO,a1,w1,q,r1,r2,r3, .of_steps (.one iq) r4⟩
theorem ib.z_ {c:Operand} {x y:Code} (hc:ev st.tm c = .gZ) (h1:ib P lo x st Q) (h2:ib P lo y st Q):ib P lo (.cond c x y) st Q:=by
 intro X base mb D β a w b k cs g1 g2 g3 m9
 have hv:=uP g3 c
 rw [hc] at hv
 obtain ⟨t,hv⟩:∃ t,a.eval c = .bool t:=by
  generalize a.eval c=v at hv
  cases hv;exact ⟨_,rfl⟩
 have iq:=stepR_cond (P:=P) (b:=b) (k:=k) (cs:=cs) (w:=w) (x:=x) (y:=y) hv
 cases t with
 | true =>
  obtain ⟨e,kb,eO,a1,w1,q,r1,r2,r3,r4⟩:=h1 X base mb D β a w b k cs g1 g2 g3 m9
  exact ⟨e,kb,eO,a1,w1,q,r1,r2,r3, .of_steps (.one iq) r4⟩
 | false =>
  obtain ⟨e,kb,eO,a1,w1,q,r1,r2,r3,r4⟩:=h2 X base mb D β a w b k cs g1 g2 g3 m9
  exact ⟨e,kb,eO,a1,w1,q,r1,r2,r3, .of_steps (.one iq) r4⟩
def b9.inBlock (id:Nat) (Q:b9→St→Prop):b9→St→Prop
 | .exit uJ,s=>if uJ=id then Q .normal s else Q (.exit uJ) s
 | e,s=>Q e s
theorem ib.block {id:Nat} {c:Code} (h:ib P lo c st (b9.inBlock id Q)):ib P lo (.block id c) st Q:=by
 intro X base mb D β a w b k cs h1 h2 h3 m9
 obtain ⟨e,kb,eO,a1,w1,q,h4,h5,h6,h7⟩:=h X base mb D β a w b (.inBlock id :: k) cs h1 h2 h3 m9
 cases e with
 | normal=>exact ⟨.normal,kb,eO,a1,w1,q,h4,h5,h6, .head stepR_block (Steps.trans h7 (.one stepR_inBlock))⟩
 | exit uJ =>
  obtain ⟨k',e1,e2⟩:=h7
  by_cases qF:uJ=id
  ·simp only [b9.inBlock,qF,if_true] at q
   refine ⟨.normal,kb,eO,a1,w1,q,h4,h5,h6, .head stepR_block (Steps.trans e2 (.one (stepR_exit ?_)))⟩
   rw [e1];simp [exitTo,qF]
  ·simp only [b9.inBlock,qF,if_false] at q
   have:(id==uJ)=false:=by simp;exact fun h=>qF h.symm
   exact ⟨.exit uJ,kb,eO,a1,w1,q,h4,h5,h6,k',by rw [e1];simp [exitTo,this], .head stepR_block e2⟩
 | goto l =>
  obtain ⟨k',e1,e2⟩:=h7
  exact ⟨.goto l,kb,eO,a1,w1,q,h4,h5,h6,k',by rw [e1];rfl, .head stepR_block e2⟩
 | ret =>
  obtain ⟨k',e2⟩:=h7
  exact ⟨.ret,kb,eO,a1,w1,q,h4,h5,h6,k', .head stepR_block e2⟩
 | panic u =>
  obtain ⟨k',e2⟩:=h7
  exact ⟨.panic u,kb,eO,a1,w1,q,h4,h5,h6,k', .head stepR_block e2⟩
theorem ib.scope {c:Code} (h:ib P lo c st (fun e s=>(∀ l,e≠.goto l)∧Q e s)):ib P lo (.scope c) st Q:=by
 intro X base mb D β a w b k cs h1 h2 h3 m9
 have hs:step P (lone (b.atR a (.code (.scope c) :: k)) cs w) = .next (lone (b.atR a (.code c :: .inScope c :: k)) cs w):=step_lone_go (by simp [stepG,stepG.exec,Frame.atR])
 have zm:∀ a w,step P (lone (b.atR a (.inScope c :: k)) cs w) = .next (lone (b.atR a k) cs w):=fun a w=>step_lone_go (by simp [stepG,stepG.exec,Frame.atR])
 obtain ⟨e,kb,eO,a1,w1,q,h4,h5,h6,h7⟩:=h X base mb D β a w b (.inScope c :: k) cs h1 h2 h3 m9
 cases e with
 | normal=>exact ⟨.normal,kb,eO,a1,w1,q.2,h4,h5,h6, .head hs (Steps.trans h7 (.one (zm _ _)))⟩
 | exit uJ =>
  obtain ⟨k',e1,e2⟩:=h7
  exact ⟨.exit uJ,kb,eO,a1,w1,q.2,h4,h5,h6,k',by rw [e1];rfl, .head hs e2⟩
 | goto l=>exact absurd rfl (q.1 l)
 | ret =>
  obtain ⟨k',e2⟩:=h7
  exact ⟨.ret,kb,eO,a1,w1,q.2,h4,h5,h6,k', .head hs e2⟩
 | panic u =>
  obtain ⟨k',e2⟩:=h7
  exact ⟨.panic u,kb,eO,a1,w1,q.2,h4,h5,h6,k', .head hs e2⟩
structure St.le (dV st:St):Prop where
 n:dV.tm.length=st.tm.length
 t:∀ k,k<dV.tm.length→dV.tm.getD k .undef = .undef∨dV.tm.getD k .undef=st.tm.getD k .undef
 s:xo dV.σ st.σ
 lt:bx dV.σ.length dV.tm
 ls:yD dV.σ.length dV.σ
theorem Rel.weaken {X:Nat→Nat→Prop} {base mb:Nat} {D:List Deferred} {β:Env} {a:Act} {w:World} {dV:St} (h:Rel X base mb D st β a w) (hl:dV.le st):Rel X base mb D dV (β.cut dV.σ.length) a w:=by
 refine ⟨h.s.drop hl.s rfl hl.ls,by rw [h.n,hl.n],fun k hk=>?_,h.d⟩
 rcases hl.t k hk with e | e
 ·rw [e];exact .undef _
 ·have:=h.t k (by rw [← hl.n];exact hk)
  rw [← e] at this
  exact this.drop hl.s rfl (iW hl.lt k)
theorem ib.loop {ι:Type} (I : ι→St) (μ : ι→Nat) {c:Code} (x0 : ι) (h0:(I x0).le st) (iJ:∀ x,lo.n≤(I x).σ.length)
  (round:∀ x,ib P lo c (I x) (b9.then (fun s=>∃ y,(I y).le s∧μ y < μ x) Q)):ib P lo (.loop c) st Q:=by
 have key:∀ n x,μ x=n→∀ (X:Nat→Nat→Prop) (base mb:Nat) (D:List Deferred) (β:Env) (a:Act) (w:World) (b:Frame) (k:List Item) (cs:List Frame),mb≤w.heap.size→Rel X base mb D (I x) β a w→lo.ok β b →
   ∃ e dV β' a' w',Q e dV∧lo.n≤dV.σ.length∧Rel X base mb D dV β' a' w'∧Ext lo.n (I x).σ β w dV.σ β' w'∧zx P (lone (b.atR a (.code c :: .inLoop c :: k)) cs w) b k cs e a' w':=by
  intro n
  induction n using Nat.strongRecOn with
  | _ n ih =>
   intro x hn X base mb D β a w b k cs h2 h3 m9
   obtain ⟨e,kb,eO,a1,w1,q,h4,h5,h6,h7⟩:=round x X base mb D β a w b (.inLoop c :: k) cs (iJ x) h2 h3 m9
   cases e with
   | normal =>
    obtain ⟨y,hy,NC⟩:=q
    have hw:=h5.weaken hy
    obtain ⟨e2,AK,mJ,a2,w2,q2,g4,g5,g6,g7⟩:=ih (μ y) (hn ▸ NC) y rfl X base mb D _ a1 w1 b k cs (cP h2 h6.size) hw ((m9.ext h6).cut (iJ y))
    exact ⟨e2,AK,mJ,a2,w2,q2,g4,g5,(h6.drop hy.s rfl (iJ y)).trans g6, .of_steps (Steps.trans h7 (.one stepR_inLoop)) g7⟩
   | exit id=>obtain ⟨k',e1,e2⟩:=h7;exact ⟨.exit id,kb,eO,a1,w1,q,h4,h5,h6,k',by rw [e1];rfl,e2⟩
   | goto l=>obtain ⟨k',e1,e2⟩:=h7;exact ⟨.goto l,kb,eO,a1,w1,q,h4,h5,h6,k',by rw [e1];rfl,e2⟩
   | ret=>exact ⟨.ret,kb,eO,a1,w1,q,h4,h5,h6,h7⟩
   | panic u=>exact ⟨.panic u,kb,eO,a1,w1,q,h4,h5,h6,h7⟩
 intro X base mb D β a w b k cs h1 h2 h3 m9
 obtain ⟨e,kb,eO,a1,w1,q,h4,h5,h6,h7⟩:=key _ x0 rfl X base mb D _ a w b k cs h2 (h3.weaken h0) (m9.cut (iJ x0))
 exact ⟨e,kb,eO,a1,w1,q,h4,h5,((Ext.refl lo.n _ _ _).drop h0.s rfl (iJ x0)).trans h6, .of_steps (.one stepR_loop) h7⟩
end
end Go.c8
