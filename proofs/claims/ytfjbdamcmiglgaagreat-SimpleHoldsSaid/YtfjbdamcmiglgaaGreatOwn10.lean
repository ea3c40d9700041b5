/- Part 10 of my own framework and of the walks of functions: AbsL. -/
import Derived.Test.YtfjbdamcmiglgaaGreatOwn9
abbrev eA:=@Nat.le_of_not_lt
set_option linter.unusedVariables false
set_option linter.unusedSectionVars false
set_option linter.unusedSimpArgs false
namespace Go.dm
open Go
mutual
def ah.low (n:Nat):ah→Prop
 | .ptr b _=>b<n
 | .rp b _ _=>b<n
 | .os b _ _ _=>b<n
 | .oc b _ _ _ _=>b<n
 | .lN b=>b<n
 | .map b=>b<n
 | .it b=>b<n
 | .pp cs=>bF n cs
 | .ps _ es=>bF n es
 | .fn _ a c=>bF n a∧bF n c
 | .pm ks vs=>bF n ks∧bF n vs
 | .agg cs=>bF n cs
 | .dT cs=>bF n cs
 | .iface _ v=>v.low n
 | _=>True
def bF (n:Nat):List ah→Prop
 | []=>True
 | a :: cD=>a.low n∧bF n cD
end
theorem jz {n:Nat}:∀ {l:List ah},bF n l→∀ k,(l.getD k .undef).low n
 | [],_,k=>by simp [ah.low]
 | a :: cD,h,0=>by simpa [bF] using h.1
 | a :: cD,h,k+1=>by rw [bI];exact jz h.2 k
theorem E_ {n:Nat} {a:ah} (h:a.low n):bF n a.cells:=by
 cases a<;>simp only [ah.cells,bF,and_true]<;>first | exact h | (simpa [ah.low] using h)
mutual
theorem nG {n m:Nat} (h:n≤m):∀ {a:ah},a.low n→a.low m
 | .ptr _ _,k=>de k h
 | .rp _ _ _,k=>de k h
 | .os _ _ _ _,k=>de k h
 | .oc _ _ _ _ _,k=>de k h
 | .iH,_=>trivial
 | .lN _,k=>de k h
 | .map _,k=>de k h
 | .it _,k=>de k h
 | .pp _,k=>iO h k
 | .ps _ _,k=>iO h k
 | .fn _ _ _,k=>⟨iO h k.1,iO h k.2⟩
 | .pm _ _,k=>⟨iO h k.1,iO h k.2⟩
 | .agg _,k=>iO h k
 | .dT _,k=>iO h k
 | .iface _ v,k=>nG (a:=v) h k
 | .undef,_=>trivial
 | .bool _,_=>trivial
 | .int _ _,_=>trivial
 | .str _,_=>trivial
 | .bY,_=>trivial
 | .aW,_=>trivial
 | .aA,_=>trivial
 | .cM,_=>trivial
 | .gk,_=>trivial
 | .oD _,_=>trivial
theorem iO {n m:Nat} (h:n≤m):∀ {l:List ah},bF n l→bF m l
 | [],_=>trivial
 | _ :: _,k=>⟨nG h k.1,iO h k.2⟩
end
def Env.cut (β:Env) (n:Nat):Env:=fun b=>if b<n then β b else none
theorem Env.lx {β:Env} {n b:Nat} (h:b<n) : β.cut n b = β b:=by simp [Env.cut,h]
theorem cf.low {w:World} {M:Nat→Nat→Prop} {β β':Env} {n:Nat} (hβ:∀ b,b<n→β' b = β b) {v:Value} {a:ah} (h:cf w M β v a) (hl:a.low n):cf w M β' v a:=by
 induction h with
 | undef v=>exact .undef v
 | bool b=>exact .bool b
 | int k n=>exact .int k n
 | str s=>exact .str s
 | bY=>exact .bY
 | ptr h=>exact .ptr ((hβ _ hl).trans h)
 | rp h=>exact .rp ((hβ _ hl).trans h)
 | pp cv hc _ ih=>exact .pp cv hc fun k hk=>ih k hk (jz hl k)
 | aW a=>exact .aW a
 | ps cv jH fJ hc ha _ ih=>exact .ps cv jH fJ hc ha fun i j hi hj=>ih i j hi hj (jz (E_ (jz hl i)) j)
 | tU a h=>exact .tU a ((hβ _ hl).trans h)
 | os h h1 h2=>exact .os ((hβ _ hl).trans h) h1 h2
 | iH b=>exact .iH b
 | tQ a h=>exact .tQ a ((hβ _ hl).trans h)
 | oc h h1 h2=>exact .oc ((hβ _ hl).trans h) h1 h2
 | aA=>exact .aA
 | fn h1 h2 _ _ lh pq=>exact .fn h1 h2 (fun k hk=>lh k hk (jz hl.1 k)) (fun k hk=>pq k hk (jz hl.2 k))
 | lN h=>exact .lN ((hβ _ hl).trans h)
 | cM=>exact .cM
 | map h=>exact .map ((hβ _ hl).trans h)
 | pm hg hm h1 h2 _ _ hb lh pq=>exact .pm hg hm h1 h2 (fun k hk=>lh k hk (jz hl.1 k)) (fun k hk=>pq k hk (jz hl.2 k)) hb
 | it h=>exact .it ((hβ _ hl).trans h)
 | agg h _ ih=>exact .agg h fun k hk=>ih k hk (jz hl k)
 | dT h _ ih=>exact .dT h fun k hk=>ih k hk (jz hl k)
 | gk=>exact .gk
 | iface _ ih=>exact .iface (ih hl)
 | oD v=>exact .oD v
def bO.low (n:Nat):bO→Prop
 | .var cs=>bF n cs
 | .row es _=>bF n es
 | .map ks vs _=>bF n ks∧bF n vs
 | .iter _ _=>True
 | .lL ks vs _=>bF n ks∧bF n vs
 | .loop r=>bF n r.tm
theorem gI.low {w:World} {M:Nat→Nat→Prop} {β β':Env} {n:Nat} (hβ:∀ b,b<n→β' b = β b) {L:Loc} {cw:bO} (h:gI w M β L cw) (hl:cw.low n):gI w M β' L cw:=by
 cases cw with
 | var cs=>obtain ⟨c,e,h1,h0,h2,h3⟩:=h;exact ⟨c,e,h1,h0,h2,fun k e7=>(h3 k e7).low hβ (jz hl k)⟩
 | row es fz=>obtain ⟨c,e,h1,h2,h3,h4,h5⟩:=h;exact ⟨c,e,h1,h2,h3,h4,fun i j hi hj=>(h5 i j hi hj).low hβ (jz (E_ (jz hl i)) j)⟩
 | map ks vs fz=>obtain ⟨es,clk,h1,h2,h3,h4,h5,h6⟩:=h;exact ⟨es,clk,h1,h2,h3,fun k e7=>(h4 k e7).low hβ (jz hl.1 k),fun k e7=>(h5 k e7).low hβ (jz hl.2 k),h6⟩
 | iter s pos=>exact h
 | lL ks vs seen=>obtain ⟨m,es,clk,h1,h2,h3,h4,h5,h6,h7,h8⟩:=h;exact ⟨m,es,clk,h1,h2,h3,h4,h5,fun k e7=>(h6 k e7).low hβ (jz hl.1 k),fun k e7=>(h7 k e7).low hβ (jz hl.2 k),h8⟩
 | loop r=>obtain ⟨t,d,f,h1,h2,h3⟩:=h;exact ⟨t,d,f,h1,h2,fun k e7=>(h3 k e7).low hβ (jz hl k)⟩
def yB (σ' σ:ai):Prop:=∀ (b:Nat) (x:bO),σ'[b]? = some (some x)→σ[b]? = some (some x)
def zJ (n:Nat) (σ:ai):Prop:=∀ (b:Nat) (x:bO),σ[b]? = some (some x)→x.low n
theorem jr.mh {σ σ':ai} {β β':Env} {n:Nat} (h1:yB σ' σ) (h2 : σ'.length≤n) (hβ:∀ b,b<n→β' b = β b) {g o:Nat} (h:jr σ' β' g o):jr σ β g o:=by
 obtain ⟨b,cw,L,h3,h4,h5,h6⟩:=h;have hb:b<n:=de (aJ.1 h3).1 h2;exact ⟨b,cw,L,h1 b cw h3,(hβ b hb).symm.trans h4,h5,h6⟩
section
variable {P:Program} {X:Nat→Nat→Prop} {base:Nat} {σ σ':ai} {β:Env} {w:World} {n:Nat}
theorem cS.drop (hr:cS X base σ β w) (h1:yB σ' σ) (h2 : σ'.length=n) (h3:zJ n σ'):cS X base σ' (β.cut n) w:=by
 have hβ:∀ b,b<n→β.cut n b = β b:=fun b hb=>Env.lx hb;have hk:dD w (MT X σ β) w (MT X σ' (β.cut n)):=dD.mh fun g o h=>h.imp id fun hm=>hm.mh h1 (by omega) hβ;refine ⟨fun b hb=>by simp [Env.cut];omega,fun b cw hb=>?_,fun b b' cw lu L L' e1 e2 e3 e4 hg=>?_,hr.size,hr.qL,hr.gl⟩
 ·have mP:b<n:=by have:=(aJ.1 hb).1;omega
  obtain ⟨L,q1,q2,q3,q4⟩:=hr.cw b cw (h1 b cw hb);exact ⟨L,(hβ b mP).trans q1,q2,q3,(q4.mono hk (fun _ _ h=>h) rfl).low hβ (h3 b cw hb)⟩
 ·have mP:b<n:=by have:=(aJ.1 e1).1;omega
  have OA:b'<n:=by have:=(aJ.1 e2).1;omega
  exact hr.inj b b' cw lu L L' (h1 b cw e1) (h1 b' lu e2) ((hβ b mP).symm.trans e3) ((hβ b' OA).symm.trans e4) hg
theorem cf.drop {v:Value} {a:ah} (h:cf w (MT X σ β) β v a) (h1:yB σ' σ) (h2 : σ'.length=n) (hl:a.low n):cf w (MT X σ' (β.cut n)) (β.cut n) v a:=by
 have hβ:∀ b,b<n→β.cut n b = β b:=fun b hb=>Env.lx hb;have hk:dD w (MT X σ β) w (MT X σ' (β.cut n)):=dD.mh fun g o h=>h.imp id fun hm=>hm.mh h1 (by omega) hβ;exact (h.mono hk (fun _ _ h=>h)).low hβ hl
theorem Ext.drop {lo:Nat} {kL:ai} {B7:Env} {w0:World} (h:Ext lo kL B7 w0 σ β w) (h1:yB σ' σ) (h2 : σ'.length=n) (jg:lo≤n):Ext lo kL B7 w0 σ' (β.cut n) w :=
 ⟨h.os,h.tape,h.output,h.size,h.cell,h.block,fun g o hm=>h.jb g o (hm.mh h1 (by omega) fun b hb=>Env.lx hb),fun b hb=>by rw [Env.lx (by omega)];exact h.env b hb⟩
end
inductive ct where
 | normal
 | exit (id:Nat)
 | goto (l:Nat)
 | ret
 | panic (u:Value)
def Marks (mb:Nat) (D:List Deferred) (w:World) (ds:List Deferred):Prop :=
 ∃ rs:List Nat,ds=rs.map (fun r=>{ target:=.collected r,args:=#[] })++D∧rs.Nodup∧∀ r∈rs,mb≤r∧w.heap[r]? = some (.deferred (some []))
structure Rel (X:Nat→Nat→Prop) (base mb:Nat) (D:List Deferred) (st:St) (β:Env) (a:Act) (w:World):Prop where
 s:cS X base st.σ β w
 n:a.tmps.size=st.tm.length
 t:∀ k,k<st.tm.length→cf w (MT X st.σ β) β (a.tmps.getD k undef) (st.tm.getD k .undef)
 d:Marks mb D w a.defers
def AW (P:Program) (m:Machine) (b:Frame) (k:List Item) (cs:List Frame):ct→Act→World→Prop
 | .normal,a,w=>Steps P m (lone (b.atR a k) cs w)
 | .exit id,a,w=>∃ k',exitTo id k'=exitTo id k∧Steps P m (lone (b.atR a (.code (.exit id) :: k')) cs w)
 | .goto l,a,w=>∃ k',gotoIn l k'=gotoIn l k∧Steps P m (lone (b.atR a (.code (.goto l) :: k')) cs w)
 | .ret,a,w=>∃ k',Steps P m (lone (b.atR a (.code .ret :: k')) cs w)
 | .panic u,a,w=>∃ k',Steps P m (lone { b.atR a k' with mode:=.panicking [{ v:=u,recovered:=false }] } cs w)
theorem AW.of_steps {P:Program} {m m₁:Machine} {b:Frame} {k:List Item} {cs:List Frame} {e:ct} {a:Act} {w:World} (h:Steps P m m₁) (h':AW P m₁ b k cs e a w):AW P m b k cs e a w:=by
 cases e with
 | normal=>exact h.trans h'
 | exit id=>obtain ⟨k',h1,h2⟩:=h';exact ⟨k',h1,h.trans h2⟩
 | goto l=>obtain ⟨k',h1,h2⟩:=h';exact ⟨k',h1,h.trans h2⟩
 | ret=>obtain ⟨k',h2⟩:=h';exact ⟨k',h.trans h2⟩
 | panic u=>obtain ⟨k',h2⟩:=h';exact ⟨k',h.trans h2⟩
structure Ctx where
 n:Nat
 ro:Option Nat
def Ctx.ok (c:Ctx) (β:Env) (b:Frame):Prop :=
 match c.ro with
 | none=>b.roundOf=none
 | some bl=>bl<c.n∧∃ L,β bl=some L∧b.roundOf=some L.g
theorem Ctx.ok.env {c:Ctx} {β β':Env} {b:Frame} (h:c.ok β b) (he:∀ x,x<c.n→β' x = β x):c.ok β' b:=by
 unfold Ctx.ok at *
 split
 ·rename_i e;rw [e] at h;exact h
 ·rename_i bl e;rw [e] at h;obtain ⟨h1,L,h2,h3⟩:=h;exact ⟨h1,L,(he bl h1).trans h2,h3⟩
theorem Ctx.ok.ext {c:Ctx} {σ σ':ai} {β β':Env} {w w':World} {b:Frame} (h:c.ok β b) (he:Ext c.n σ β w σ' β' w'):c.ok β' b:=h.env he.env
theorem Ctx.ok.cut {c:Ctx} {β:Env} {b:Frame} {n:Nat} (h:c.ok β b) (hn:c.n≤n):c.ok (β.cut n) b:=h.env fun _ hx=>Env.lx (de hx hn)
def iy (P:Program) (lo:Ctx) (c:Code) (st:St) (Q:ct→St→Prop):Prop :=
 ∀ (X:Nat→Nat→Prop) (base mb:Nat) (D:List Deferred) (β:Env) (a:Act) (w:World) (b:Frame) (k:List Item) (cs:List Frame),lo.n≤st.σ.length→mb≤w.heap.size→Rel X base mb D st β a w→lo.ok β b →
  ∃ e eL β' a' w',Q e eL∧lo.n≤eL.σ.length∧Rel X base mb D eL β' a' w'∧Ext lo.n st.σ β w eL.σ β' w'∧AW P (lone (b.atR a (.code c :: k)) cs w) b k cs e a' w'
def mB (P:Program) (lo:Ctx) (ops:Array Oper) (r l:List Nat) (st:St) (Q:ct→St→Prop):Prop :=
 ∀ (X:Nat→Nat→Prop) (base mb:Nat) (D:List Deferred) (β:Env) (a:Act) (w:World) (b:Frame) (k:List Item) (cs:List Frame),lo.n≤st.σ.length→mb≤w.heap.size→Rel X base mb D st β a w →
  ∃ e eL β' a' w',Q e eL∧lo.n≤eL.σ.length∧Rel X base mb D eL β' a' w'∧Ext lo.n st.σ β w eL.σ β' w'∧a'.defers=a.defers ∧
   AW P (lone (b.atR a (.inRegion ops (l++r) :: k)) cs w) b (.inRegion ops r :: k) cs e a' w'
section
variable {P:Program} {lo:Ctx} {st:St} {Q:ct→St→Prop}
theorem iy.mono {c:Code} {Q':ct→St→Prop} (h:iy P lo c st Q) (hq:∀ e s,Q e s→Q' e s):iy P lo c st Q':=by
 intro X base mb D β a w b k cs h1 h2 h3 mD;obtain ⟨e,eL,β',a',w',q,rest⟩:=h X base mb D β a w b k cs h1 h2 h3 mD;exact ⟨e,eL,β',a',w',hq _ _ q,rest⟩
theorem iy.skip (h:Q .normal st):iy P lo .skip st Q:=fun X base mb D β a w b k cs h1 h2 h3 _=>⟨.normal,st,β,a,w,h,h1,h3,Ext.refl _ _ _ _, .one stepR_skip⟩
theorem iy.label {l:Nat} (h:Q .normal st):iy P lo (.label l) st Q:=fun X base mb D β a w b k cs h1 h2 h3 _=>⟨.normal,st,β,a,w,h,h1,h3,Ext.refl _ _ _ _, .one stepR_label⟩
theorem iy.exit {id:Nat} (h:Q (.exit id) st):iy P lo (.exit id) st Q:=fun X base mb D β a w b k cs h1 h2 h3 _=>⟨.exit id,st,β,a,w,h,h1,h3,Ext.refl _ _ _ _,k,rfl, .refl _ _⟩
theorem iy.goto {l:Nat} (h:Q (.goto l) st):iy P lo (.goto l) st Q:=fun X base mb D β a w b k cs h1 h2 h3 _=>⟨.goto l,st,β,a,w,h,h1,h3,Ext.refl _ _ _ _,k,rfl, .refl _ _⟩
theorem iy.ret (h:Q .ret st):iy P lo .ret st Q:=fun X base mb D β a w b k cs h1 h2 h3 _=>⟨.ret,st,β,a,w,h,h1,h3,Ext.refl _ _ _ _,k, .refl _ _⟩
def ct.then (next:St→Prop) (Q:ct→St→Prop):ct→St→Prop
 | .normal,s=>next s
 | e,s=>Q e s
theorem iy.seq {x y:Code} (h:iy P lo x st (ct.then (fun s=>iy P lo y s Q) Q)):iy P lo (.seq x y) st Q:=by
 intro X base mb D β a w b k cs h1 h2 h3 mD;obtain ⟨e,kK,fy,a1,w1,q,h4,h5,h6,h7⟩:=h X base mb D β a w b (.code y :: k) cs h1 h2 h3 mD;cases e with
 | normal =>
  obtain ⟨e2,B1,nx,a2,w2,q2,g4,g5,g6,g7⟩:=q X base mb D fy a1 w1 b k cs h4 (c_ h2 h6.size) h5 (mD.ext h6);exact ⟨e2,B1,nx,a2,w2,q2,g4,g5,h6.trans g6, .of_steps (.head stepR_seq h7) g7⟩
 | exit id=>exact ⟨.exit id,kK,fy,a1,w1,q,h4,h5,h6, .of_steps (.one stepR_seq) h7⟩
 | goto l=>exact ⟨.goto l,kK,fy,a1,w1,q,h4,h5,h6, .of_steps (.one stepR_seq) h7⟩
 | ret=>exact ⟨.ret,kK,fy,a1,w1,q,h4,h5,h6, .of_steps (.one stepR_seq) h7⟩
 | panic u=>exact ⟨.panic u,kK,fy,a1,w1,q,h4,h5,h6, .of_steps (.one stepR_seq) h7⟩
theorem wq {X:Nat→Nat→Prop} {base mb:Nat} {D:List Deferred} {β:Env} {a:Act} {w:World} (h:Rel X base mb D st β a w) (x:Operand):cf w (MT X st.σ β) β (a.eval x) (ev st.tm x):=by
 cases x with
 | tmp t =>
  simp only [Act.eval,ev];by_cases ht:t<st.tm.length
  ·exact h.t t ht
  ·have:st.tm.getD t .undef = .undef:=by simp [List.getD,bt (eA ht)]
   rw [this];exact .undef _
 | const v=>exact Lq v
 | global g=>exact .oD _
 | func f=>exact .fn (fa:=#[]) (ca:=#[]) rfl rfl (fun k hk=>by simp at hk) (fun k hk=>by simp at hk)
theorem iy.cond {c:Operand} {x y:Code} {t:Bool} (hc:ev st.tm c = .bool t) (h1:t=true→iy P lo x st Q) (h2:t=false→iy P lo y st Q):iy P lo (.cond c x y) st Q:=by
 intro X base mb D β a w b k cs g1 g2 g3 mD;have hv:=wq g3 c;rw [hc] at hv;have fP:=stepR_cond (P:=P) (b:=b) (k:=k) (cs:=cs) (w:=w) (x:=x) (y:=y) hv.iI;cases t with
 | true =>
  obtain ⟨e,kK,fy,a1,w1,q,r1,r2,r3,r4⟩:=h1 rfl X base mb D β a w b k cs g1 g2 g3 mD;exact ⟨e,kK,fy,a1,w1,q,r1,r2,r3, .of_steps (.one fP) r4⟩
 | false =>
  obtain ⟨e,kK,fy,a1,w1,q,r1,r2,r3,r4⟩:=h2 rfl X base mb D β a w b k cs g1 g2 g3 mD;exact ⟨e,kK,fy,a1,w1,q,r1,r2,r3, .of_steps (.one fP) r4⟩
theorem iy.Br {c:Operand} {x y:Code} (hc:ev st.tm c = .iH) (h1:iy P lo x st Q) (h2:iy P lo y st Q):iy P lo (.cond c x y) st Q:=by
 intro X base mb D β a w b k cs g1 g2 g3 mD;have hv:=wq g3 c;rw [hc] at hv;obtain ⟨t,hv⟩:∃ t,a.eval c = .bool t:=by
  generalize a.eval c=v at hv;cases hv;exact ⟨_,rfl⟩
 have fP:=stepR_cond (P:=P) (b:=b) (k:=k) (cs:=cs) (w:=w) (x:=x) (y:=y) hv;cases t with
 | true =>
  obtain ⟨e,kK,fy,a1,w1,q,r1,r2,r3,r4⟩:=h1 X base mb D β a w b k cs g1 g2 g3 mD;exact ⟨e,kK,fy,a1,w1,q,r1,r2,r3, .of_steps (.one fP) r4⟩
 | false =>
  obtain ⟨e,kK,fy,a1,w1,q,r1,r2,r3,r4⟩:=h2 X base mb D β a w b k cs g1 g2 g3 mD;exact ⟨e,kK,fy,a1,w1,q,r1,r2,r3, .of_steps (.one fP) r4⟩
def ct.inBlock (id:Nat) (Q:ct→St→Prop):ct→St→Prop
 | .exit wc,s=>if wc=id then Q .normal s else Q (.exit wc) s
 | e,s=>Q e s
theorem iy.block {id:Nat} {c:Code} (h:iy P lo c st (ct.inBlock id Q)):iy P lo (.block id c) st Q:=by
 intro X base mb D β a w b k cs h1 h2 h3 mD;obtain ⟨e,kK,fy,a1,w1,q,h4,h5,h6,h7⟩:=h X base mb D β a w b (.inBlock id :: k) cs h1 h2 h3 mD;cases e with
 | normal=>exact ⟨.normal,kK,fy,a1,w1,q,h4,h5,h6, .head stepR_block (Steps.trans h7 (.one stepR_inBlock))⟩
 | exit wc =>
  obtain ⟨k',e1,e2⟩:=h7;by_cases r8:wc=id
  ·simp only [ct.inBlock,r8,if_true] at q;refine ⟨.normal,kK,fy,a1,w1,q,h4,h5,h6, .head stepR_block (Steps.trans e2 (.one (stepR_exit ?_)))⟩;rw [e1];simp [exitTo,r8]
  ·simp only [ct.inBlock,r8,if_false] at q;have:(id==wc)=false:=by simp;exact fun h=>r8 h.symm
   exact ⟨.exit wc,kK,fy,a1,w1,q,h4,h5,h6,k',by rw [e1];simp [exitTo,this], .head stepR_block e2⟩
 | goto l =>
  obtain ⟨k',e1,e2⟩:=h7;exact ⟨.goto l,kK,fy,a1,w1,q,h4,h5,h6,k',by rw [e1];rfl, .head stepR_block e2⟩
 | ret =>
  obtain ⟨k',e2⟩:=h7;exact ⟨.ret,kK,fy,a1,w1,q,h4,h5,h6,k', .head stepR_block e2⟩
 | panic u =>
  obtain ⟨k',e2⟩:=h7;exact ⟨.panic u,kK,fy,a1,w1,q,h4,h5,h6,k', .head stepR_block e2⟩
theorem iy.scope {c:Code} (h:iy P lo c st (fun e s=>(∀ l,e≠.goto l)∧Q e s)):iy P lo (.scope c) st Q:=by
 intro X base mb D β a w b k cs h1 h2 h3 mD;have hs:step P (lone (b.atR a (.code (.scope c) :: k)) cs w) = .next (lone (b.atR a (.code c :: .inScope c :: k)) cs w):=step_lone_go (by simp [stepG,stepG.exec,Frame.atR]);have Az:∀ a w,step P (lone (b.atR a (.inScope c :: k)) cs w) = .next (lone (b.atR a k) cs w):=fun a w=>step_lone_go (by simp [stepG,stepG.exec,Frame.atR]);obtain ⟨e,kK,fy,a1,w1,q,h4,h5,h6,h7⟩:=h X base mb D β a w b (.inScope c :: k) cs h1 h2 h3 mD;cases e with
 | normal=>exact ⟨.normal,kK,fy,a1,w1,q.2,h4,h5,h6, .head hs (Steps.trans h7 (.one (Az _ _)))⟩
 | exit wc =>
  obtain ⟨k',e1,e2⟩:=h7;exact ⟨.exit wc,kK,fy,a1,w1,q.2,h4,h5,h6,k',by rw [e1];rfl, .head hs e2⟩
 | goto l=>exact absurd rfl (q.1 l)
 | ret =>
  obtain ⟨k',e2⟩:=h7;exact ⟨.ret,kK,fy,a1,w1,q.2,h4,h5,h6,k', .head hs e2⟩
 | panic u =>
  obtain ⟨k',e2⟩:=h7;exact ⟨.panic u,kK,fy,a1,w1,q.2,h4,h5,h6,k', .head hs e2⟩
structure St.le (eL st:St):Prop where
 n:eL.tm.length=st.tm.length
 t:∀ k,k<eL.tm.length→eL.tm.getD k .undef = .undef∨eL.tm.getD k .undef=st.tm.getD k .undef
 s:yB eL.σ st.σ
 lt:bF eL.σ.length eL.tm
 ls:zJ eL.σ.length eL.σ
theorem Rel.weaken {X:Nat→Nat→Prop} {base mb:Nat} {D:List Deferred} {β:Env} {a:Act} {w:World} {eL:St} (h:Rel X base mb D st β a w) (hl:eL.le st):Rel X base mb D eL (β.cut eL.σ.length) a w:=by
 refine ⟨h.s.drop hl.s rfl hl.ls,by rw [h.n,hl.n],fun k hk=>?_,h.d⟩;rcases hl.t k hk with e | e
 ·rw [e];exact .undef _
 ·have:=h.t k (by rw [← hl.n];exact hk);rw [← e] at this;exact this.drop hl.s rfl (jz hl.lt k)
theorem iy.loop {ι:Type} (I : ι→St) (μ : ι→Nat) {c:Code} (x0 : ι) (h0:(I x0).le st) (jg:∀ x,lo.n≤(I x).σ.length)
  (round:∀ x,iy P lo c (I x) (ct.then (fun s=>∃ y,(I y).le s∧μ y < μ x) Q)):iy P lo (.loop c) st Q:=by
 have key:∀ n x,μ x=n→∀ (X:Nat→Nat→Prop) (base mb:Nat) (D:List Deferred) (β:Env) (a:Act) (w:World) (b:Frame) (k:List Item) (cs:List Frame),mb≤w.heap.size→Rel X base mb D (I x) β a w→lo.ok β b →
   ∃ e eL β' a' w',Q e eL∧lo.n≤eL.σ.length∧Rel X base mb D eL β' a' w'∧Ext lo.n (I x).σ β w eL.σ β' w'∧AW P (lone (b.atR a (.code c :: .inLoop c :: k)) cs w) b k cs e a' w':=by
  intro n
  induction n using Nat.strongRecOn with
  | _ n ih =>
   intro x hn X base mb D β a w b k cs h2 h3 mD;obtain ⟨e,kK,fy,a1,w1,q,h4,h5,h6,h7⟩:=round x X base mb D β a w b (.inLoop c :: k) cs (jg x) h2 h3 mD;cases e with
   | normal =>
    obtain ⟨y,hy,P3⟩:=q;have hw:=h5.weaken hy;obtain ⟨e2,B1,nx,a2,w2,q2,g4,g5,g6,g7⟩:=ih (μ y) (hn ▸ P3) y rfl X base mb D _ a1 w1 b k cs (c_ h2 h6.size) hw ((mD.ext h6).cut (jg y));exact ⟨e2,B1,nx,a2,w2,q2,g4,g5,(h6.drop hy.s rfl (jg y)).trans g6, .of_steps (Steps.trans h7 (.one stepR_inLoop)) g7⟩
   | exit id=>obtain ⟨k',e1,e2⟩:=h7;exact ⟨.exit id,kK,fy,a1,w1,q,h4,h5,h6,k',by rw [e1];rfl,e2⟩
   | goto l=>obtain ⟨k',e1,e2⟩:=h7;exact ⟨.goto l,kK,fy,a1,w1,q,h4,h5,h6,k',by rw [e1];rfl,e2⟩
   | ret=>exact ⟨.ret,kK,fy,a1,w1,q,h4,h5,h6,h7⟩
   | panic u=>exact ⟨.panic u,kK,fy,a1,w1,q,h4,h5,h6,h7⟩
 intro X base mb D β a w b k cs h1 h2 h3 mD;obtain ⟨e,kK,fy,a1,w1,q,h4,h5,h6,h7⟩:=key _ x0 rfl X base mb D _ a w b k cs h2 (h3.weaken h0) (mD.cut (jg x0));exact ⟨e,kK,fy,a1,w1,q,h4,h5,((Ext.refl lo.n _ _ _).drop h0.s rfl (jg x0)).trans h6, .of_steps (.one stepR_loop) h7⟩
end
end Go.dm
