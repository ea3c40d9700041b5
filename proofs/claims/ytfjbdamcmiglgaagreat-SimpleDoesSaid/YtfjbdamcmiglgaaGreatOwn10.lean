/- Part 10 of what the claim rests on. -/
import Derived.Test.YtfjbdamcmiglgaaGreatOwn9
set_option linter.all false
abbrev en:=@Nat.le_of_not_lt
namespace Go.dq
open Go
mutual
def ah.low (n:Nat):ah->Prop
 |.ptr b _=>b<n
 |.rp b _ _=>b<n
 |.os b _ _ _=>b<n
 |.oc b _ _ _ _=>b<n
 |.ni b=>b<n
 |.map b=>b<n
 |.it b=>b<n
 |.pp cs=>bG n cs
 |.ps _ es=>bG n es
 |.fn _ a c=>bG n a/\bG n c
 |.pm ks vs=>bG n ks/\bG n vs
 |.agg cs=>bG n cs
 |.dw cs=>bG n cs
 |.iface _ v=>v.low n
 |_=>True
def bG (n:Nat):List ah->Prop
 |[]=>True
 |a :: cI=>a.low n/\bG n cI
end
theorem jZ {n:Nat}:∀ {l:List ah},bG n l->∀k,(l.getD k .undef).low n
 |[],_,k=>by simp[ah.low]
 |a :: cI,h,0=>by simpa[bG] using h.1
 |a :: cI,h,k+1=>by rw[bE];exact jZ h.2 k
theorem GL {n:Nat}{a:ah}(h:a.low n):bG n a.cells:=by
 cases a<;>simp only[ah.cells,bG,and_true]<;>first|exact h | (simpa[ah.low] using h)
mutual
theorem oJ {n m:Nat}(h:n<=m):∀ {a:ah},a.low n->a.low m
 |.ptr _ _,k=>di k h
 |.rp _ _ _,k=>di k h
 |.os _ _ _ _,k=>di k h
 |.oc _ _ _ _ _,k=>di k h
 |.jL,_=>trivial
 |.ni _,k=>di k h
 |.map _,k=>di k h
 |.it _,k=>di k h
 |.pp _,k=>iD h k
 |.ps _ _,k=>iD h k
 |.fn _ _ _,k=>⟨iD h k.1,iD h k.2⟩
 |.pm _ _,k=>⟨iD h k.1,iD h k.2⟩
 |.agg _,k=>iD h k
 |.dw _,k=>iD h k
 |.iface _ v,k=>oJ (a:=v) h k
 |.undef,_=>trivial
 |.bool _,_=>trivial
 |.int _ _,_=>trivial
 |.str _,_=>trivial
 |.gJ,_=>trivial
 |.a8,_=>trivial
 |.fU,_=>trivial
 |.dj,_=>trivial
 |.jv,_=>trivial
 |.qf _,_=>trivial
theorem iD {n m:Nat}(h:n<=m):∀ {l:List ah},bG n l->bG m l
 |[],_=>trivial
 |_ :: _,k=>⟨oJ h k.1,iD h k.2⟩
end
def Env.cut (β:Env)(n:Nat):Env:=λb=>if b<n then β b else none
theorem Env.mg {β:Env}{n b:Nat}(h:b<n): β.cut n b = β b:=by simp[Env.cut,h]
theorem cn.low {w:World}{M:Nat->Nat->Prop}{β β':Env}{n:Nat}(hβ:∀b,b<n->β' b = β b){v:Value}{a:ah}(h:cn w M β v a)(hl:a.low n):cn w M β' v a:=by
 induction h with
 |undef v=>exact .undef v
 |bool b=>exact .bool b
 |int k n=>exact .int k n
 |str s=>exact .str s
 |gJ=>exact .gJ
 |ptr h=>exact .ptr ((hβ _ hl).trans h)
 |rp h=>exact .rp ((hβ _ hl).trans h)
 |pp cv hc _ ih=>exact .pp cv hc λk hk=>ih k hk (jZ hl k)
 |a8 a=>exact .a8 a
 |ps cv j8 eM hc ha _ ih=>exact .ps cv j8 eM hc ha λi j hi hj=>ih i j hi hj (jZ (GL (jZ hl i)) j)
 |vg a h=>exact .vg a ((hβ _ hl).trans h)
 |os h h1 h2=>exact .os ((hβ _ hl).trans h) h1 h2
 |jL b=>exact .jL b
 |ve a h=>exact .ve a ((hβ _ hl).trans h)
 |oc h h1 h2=>exact .oc ((hβ _ hl).trans h) h1 h2
 |fU=>exact .fU
 |fn h1 h2 _ _ lZ qj=>exact .fn h1 h2 (λk hk=>lZ k hk (jZ hl.1 k)) (λk hk=>qj k hk (jZ hl.2 k))
 |ni h=>exact .ni ((hβ _ hl).trans h)
 |dj=>exact .dj
 |map h=>exact .map ((hβ _ hl).trans h)
 |pm hg hm h1 h2 _ _ hb lZ qj=>exact .pm hg hm h1 h2 (λk hk=>lZ k hk (jZ hl.1 k)) (λk hk=>qj k hk (jZ hl.2 k)) hb
 |it h=>exact .it ((hβ _ hl).trans h)
 |agg h _ ih=>exact .agg h λk hk=>ih k hk (jZ hl k)
 |dw h _ ih=>exact .dw h λk hk=>ih k hk (jZ hl k)
 |jv=>exact .jv
 |iface _ ih=>exact .iface (ih hl)
 |qf v=>exact .qf v
def bS.low (n:Nat):bS->Prop
 |.var cs=>bG n cs
 |.row es _=>bG n es
 |.map ks vs _=>bG n ks/\bG n vs
 |.iter _ _=>True
 |.mC ks vs _=>bG n ks/\bG n vs
 |.loop r=>bG n r.tm
theorem ig.low {w:World}{M:Nat->Nat->Prop}{β β':Env}{n:Nat}(hβ:∀b,b<n->β' b = β b){L:Loc}{cG:bS}(h:ig w M β L cG)(hl:cG.low n):ig w M β' L cG:=by
 cases cG with
 |var cs=>obtain⟨c,e,h1,h0,h2,h3⟩:=h;exact⟨c,e,h1,h0,h2,λk eZ=>(h3 k eZ).low hβ (jZ hl k)⟩
 |row es fz=>obtain⟨c,e,h1,h2,h3,h4,h5⟩:=h;exact⟨c,e,h1,h2,h3,h4,λi j hi hj=>(h5 i j hi hj).low hβ (jZ (GL (jZ hl i)) j)⟩
 |map ks vs fz=>obtain⟨es,clk,h1,h2,h3,h4,h5,h6⟩:=h;exact⟨es,clk,h1,h2,h3,λk eZ=>(h4 k eZ).low hβ (jZ hl.1 k),λk eZ=>(h5 k eZ).low hβ (jZ hl.2 k),h6⟩
 |iter s pos=>exact h
 |mC ks vs seen=>obtain⟨m,es,clk,h1,h2,h3,h4,h5,h6,h7,h8⟩:=h;exact⟨m,es,clk,h1,h2,h3,h4,h5,λk eZ=>(h6 k eZ).low hβ (jZ hl.1 k),λk eZ=>(h7 k eZ).low hβ (jZ hl.2 k),h8⟩
 |loop r=>obtain⟨t,d,f,h1,h2,h3⟩:=h;exact⟨t,d,f,h1,h2,λk eZ=>(h3 k eZ).low hβ (jZ hl k)⟩
def zY (σ' σ:av):Prop:=∀(b:Nat) (x:bS),σ'[b]? = some (some x)->σ[b]? = some (some x)
def Bm (n:Nat)(σ:av):Prop:=∀(b:Nat) (x:bS),σ[b]? = some (some x)->x.low n
theorem jR.nr {σ σ':av}{β β':Env}{n:Nat}(h1:zY σ' σ)(h2 : σ'.length<=n)(hβ:∀b,b<n->β' b = β b){g o:Nat}(h:jR σ' β' g o):jR σ β g o:=by
 obtain⟨b,cG,L,h3,h4,h5,h6⟩:=h;have hb:b<n:=di (aN.1 h3).1 h2;exact⟨b,cG,L,h1 b cG h3,(hβ b hb).symm.trans h4,h5,h6⟩
section
variable {P:Program}{X:Nat->Nat->Prop}{base:Nat}{σ σ':av}{β:Env}{w:World}{n:Nat}
theorem c8.drop (hr:c8 X base σ β w) (h1:zY σ' σ) (h2 : σ'.length=n) (h3:Bm n σ'):c8 X base σ' (β.cut n) w:=by
 have hβ:∀b,b<n->β.cut n b = β b:=λb hb=>Env.mg hb;have hk:dK w (MT X σ β) w (MT X σ' (β.cut n)):=dK.nr λg o h=>h.imp id λhm=>hm.nr h1 (by omega) hβ;refine⟨λb hb=>by simp[Env.cut];omega,λb cG hb=>?_,λb b' cG mf L L' e1 e2 e3 e4 hg=>?_,hr.size,hr.sc,hr.gl⟩
 ·have nx:b<n:=by have:=(aN.1 hb).1;omega
  obtain⟨L,q1,q2,q3,q4⟩:=hr.cG b cG (h1 b cG hb);exact⟨L,(hβ b nx).trans q1,q2,q3,(q4.mono hk (λ_ _ h=>h) rfl).low hβ (h3 b cG hb)⟩
 ·have nx:b<n:=by have:=(aN.1 e1).1;omega
  have QX:b'<n:=by have:=(aN.1 e2).1;omega
  exact hr.inj b b' cG mf L L' (h1 b cG e1) (h1 b' mf e2) ((hβ b nx).symm.trans e3) ((hβ b' QX).symm.trans e4) hg
theorem cn.drop {v:Value}{a:ah}(h:cn w (MT X σ β) β v a)(h1:zY σ' σ)(h2 : σ'.length=n)(hl:a.low n):cn w (MT X σ' (β.cut n)) (β.cut n) v a:=by
 have hβ:∀b,b<n->β.cut n b = β b:=λb hb=>Env.mg hb;have hk:dK w (MT X σ β) w (MT X σ' (β.cut n)):=dK.nr λg o h=>h.imp id λhm=>hm.nr h1 (by omega) hβ;exact(h.mono hk (λ_ _ h=>h)).low hβ hl
theorem Ext.drop {lo:Nat}{lG:av}{DC:Env}{w0:World}(h:Ext lo lG DC w0 σ β w)(h1:zY σ' σ)(h2 : σ'.length=n)(iG:lo<=n):Ext lo lG DC w0 σ' (β.cut n) w :=
 ⟨h.os,h.tape,h.output,h.size,h.cell,h.block,λg o hm=>h.jq g o (hm.nr h1 (by omega) λb hb=>Env.mg hb),λb hb=>by rw[Env.mg (by omega)];exact h.env b hb⟩
end
inductive cB where
 |normal
 |exit (id:Nat)
 |goto (l:Nat)
 |ret
 |panic (u:Value)
def Marks (mb:Nat)(D:List Deferred)(w:World)(ds:List Deferred):Prop :=
 ∃rs:List Nat,ds=rs.map (λr=>{ target:=.collected r,args:=#[] })++D/\rs.Nodup/\∀r∈rs,mb<=r/\w.heap[r]? = some (.deferred (some []))
structure Rel (X:Nat->Nat->Prop)(base mb:Nat)(D:List Deferred)(st:St)(β:Env)(a:Act)(w:World):Prop where
 s:c8 X base st.σ β w
 n:a.tmps.size=st.tm.length
 t:∀k,k<st.tm.length->cn w (MT X st.σ β) β (a.tmps.getD k undef) (st.tm.getD k .undef)
 d:Marks mb D w a.defers
def BF (P:Program)(m:Machine)(b:Frame)(k:List Item)(cs:List Frame):cB->Act->World->Prop
 |.normal,a,w=>Steps P m (lone (b.atR a k) cs w)
 |.exit id,a,w=>∃k',exitTo id k'=exitTo id k/\Steps P m (lone (b.atR a (.code (.exit id):: k')) cs w)
 |.goto l,a,w=>∃k',gotoIn l k'=gotoIn l k/\Steps P m (lone (b.atR a (.code (.goto l):: k')) cs w)
 |.ret,a,w=>∃k',Steps P m (lone (b.atR a (.code .ret :: k')) cs w)
 |.panic u,a,w=>∃k',Steps P m (lone { b.atR a k' with mode:=.panicking [{ v:=u,recovered:=false }] } cs w)
theorem BF.of_steps {P:Program}{m m₁:Machine}{b:Frame}{k:List Item}{cs:List Frame}{e:cB}{a:Act}{w:World}(h:Steps P m m₁)(h':BF P m₁ b k cs e a w):BF P m b k cs e a w:=by
 cases e with
 |normal=>exact h.trans h'
 |exit id=>obtain⟨k',h1,h2⟩:=h';exact⟨k',h1,h.trans h2⟩
 |goto l=>obtain⟨k',h1,h2⟩:=h';exact⟨k',h1,h.trans h2⟩
 |ret=>obtain⟨k',h2⟩:=h';exact⟨k',h.trans h2⟩
 |panic u=>obtain⟨k',h2⟩:=h';exact⟨k',h.trans h2⟩
structure Ctx where
 n:Nat
 ro:Option Nat
def Ctx.ok (c:Ctx)(β:Env)(b:Frame):Prop :=
 match c.ro with
 |none=>b.roundOf=none
 |some bl=>bl<c.n/\∃L,β bl=some L/\b.roundOf=some L.g
theorem Ctx.ok.env {c:Ctx}{β β':Env}{b:Frame}(h:c.ok β b)(he:∀x,x<c.n->β' x = β x):c.ok β' b:=by
 unfold Ctx.ok at *
 split
 ·rename_i e;rw[e]at h;exact h
 ·rename_i bl e;rw[e]at h;obtain⟨h1,L,h2,h3⟩:=h;exact⟨h1,L,(he bl h1).trans h2,h3⟩
theorem Ctx.ok.ext {c:Ctx}{σ σ':av}{β β':Env}{w w':World}{b:Frame}(h:c.ok β b)(he:Ext c.n σ β w σ' β' w'):c.ok β' b:=h.env he.env
theorem Ctx.ok.cut {c:Ctx}{β:Env}{b:Frame}{n:Nat}(h:c.ok β b)(hn:c.n<=n):c.ok (β.cut n) b:=h.env λ_ hx=>Env.mg (di hx hn)
def jn (P:Program) (lo:Ctx) (c:Code) (st:St) (Q:cB->St->Prop):Prop :=
 ∀(X:Nat->Nat->Prop) (base mb:Nat) (D:List Deferred) (β:Env) (a:Act) (w:World) (b:Frame) (k:List Item) (cs:List Frame),lo.n<=st.σ.length->mb<=w.heap.size->Rel X base mb D st β a w->lo.ok β b ->
  ∃e eG β' a' w',Q e eG/\lo.n<=eG.σ.length/\Rel X base mb D eG β' a' w'/\Ext lo.n st.σ β w eG.σ β' w'/\BF P (lone (b.atR a (.code c :: k)) cs w) b k cs e a' w'
def mR (P:Program) (lo:Ctx) (ops:Array Oper) (r l:List Nat) (st:St) (Q:cB->St->Prop):Prop :=
 ∀ (X:Nat->Nat->Prop) (base mb:Nat) (D:List Deferred) (β:Env) (a:Act) (w:World) (b:Frame) (k:List Item) (cs:List Frame),lo.n<=st.σ.length->mb<=w.heap.size->Rel X base mb D st β a w ->
  ∃e eG β' a' w',Q e eG/\lo.n<=eG.σ.length/\Rel X base mb D eG β' a' w'/\Ext lo.n st.σ β w eG.σ β' w'/\a'.defers=a.defers /\
   BF P (lone (b.atR a (.inRegion ops (l++r):: k)) cs w) b (.inRegion ops r :: k) cs e a' w'
section
variable {P:Program}{lo:Ctx}{st:St}{Q:cB->St->Prop}
theorem jn.mono {c:Code}{Q':cB->St->Prop}(h:jn P lo c st Q)(hq:∀e s,Q e s->Q' e s):jn P lo c st Q':=by
 intro X base mb D β a w b k cs h1 h2 h3 oT;obtain⟨e,eG,β',a',w',q,rest⟩:=h X base mb D β a w b k cs h1 h2 h3 oT;exact⟨e,eG,β',a',w',hq _ _ q,rest⟩
theorem jn.skip (h:Q .normal st):jn P lo .skip st Q:=λX base mb D β a w b k cs h1 h2 h3 _=>⟨.normal,st,β,a,w,h,h1,h3,Ext.refl _ _ _ _,.one stepR_skip⟩
theorem jn.label {l:Nat}(h:Q .normal st):jn P lo (.label l) st Q:=λX base mb D β a w b k cs h1 h2 h3 _=>⟨.normal,st,β,a,w,h,h1,h3,Ext.refl _ _ _ _,.one stepR_label⟩
theorem jn.exit {id:Nat}(h:Q (.exit id) st):jn P lo (.exit id) st Q:=λX base mb D β a w b k cs h1 h2 h3 _=>⟨.exit id,st,β,a,w,h,h1,h3,Ext.refl _ _ _ _,k,rfl,.refl _ _⟩
theorem jn.goto {l:Nat}(h:Q (.goto l) st):jn P lo (.goto l) st Q:=λX base mb D β a w b k cs h1 h2 h3 _=>⟨.goto l,st,β,a,w,h,h1,h3,Ext.refl _ _ _ _,k,rfl,.refl _ _⟩
theorem jn.ret (h:Q .ret st):jn P lo .ret st Q:=λX base mb D β a w b k cs h1 h2 h3 _=>⟨.ret,st,β,a,w,h,h1,h3,Ext.refl _ _ _ _,k,.refl _ _⟩
def cB.then (next:St->Prop)(Q:cB->St->Prop):cB->St->Prop
 |.normal,s=>next s
 |e,s=>Q e s
theorem jn.seq {x y:Code} (h:jn P lo x st (cB.then (λs=>jn P lo y s Q) Q)):jn P lo (.seq x y) st Q:=by
 intro X base mb D β a w b k cs h1 h2 h3 oT;obtain⟨e,lp,fI,a1,w1,q,h4,h5,h6,h7⟩:=h X base mb D β a w b (.code y :: k) cs h1 h2 h3 oT;cases e with
 |normal =>
  obtain⟨e2,nh,nZ,a2,w2,q2,g4,g5,g6,g7⟩:=q X base mb D fI a1 w1 b k cs h4 (dg h2 h6.size) h5 (oT.ext h6);exact⟨e2,nh,nZ,a2,w2,q2,g4,g5,h6.trans g6,.of_steps (.head stepR_seq h7) g7⟩
 |exit id=>exact⟨.exit id,lp,fI,a1,w1,q,h4,h5,h6,.of_steps (.one stepR_seq) h7⟩
 |goto l=>exact⟨.goto l,lp,fI,a1,w1,q,h4,h5,h6,.of_steps (.one stepR_seq) h7⟩
 |ret=>exact⟨.ret,lp,fI,a1,w1,q,h4,h5,h6,.of_steps (.one stepR_seq) h7⟩
 |panic u=>exact⟨.panic u,lp,fI,a1,w1,q,h4,h5,h6,.of_steps (.one stepR_seq) h7⟩
theorem xw {X:Nat->Nat->Prop} {base mb:Nat} {D:List Deferred} {β:Env} {a:Act} {w:World} (h:Rel X base mb D st β a w) (x:Operand):cn w (MT X st.σ β) β (a.eval x) (ev st.tm x):=by
 cases x with
 | tmp t =>
  simp only[Act.eval,ev];by_cases ht:t<st.tm.length
  ·exact h.t t ht
  ·have:st.tm.getD t .undef=.undef:=by simp[List.getD,bB (en ht)]
   rw[this];exact .undef _
 |const v=>exact NA v
 |global g=>exact .qf _
 |func f=>exact .fn (fa:=#[]) (ca:=#[]) rfl rfl (λk hk=>by simp at hk) (λk hk=>by simp at hk)
theorem jn.cond {c:Operand} {x y:Code} {t:Bool} (hc:ev st.tm c=.bool t) (h1:t=true->jn P lo x st Q) (h2:t=false->jn P lo y st Q):jn P lo (.cond c x y) st Q:=by
 intro X base mb D β a w b k cs g1 g2 g3 oT;have hv:=xw g3 c;rw[hc]at hv;have fN:=stepR_cond (P:=P) (b:=b) (k:=k) (cs:=cs) (w:=w) (x:=x) (y:=y) hv.jj;cases t with
 |true =>
  obtain⟨e,lp,fI,a1,w1,q,r1,r2,r3,r4⟩:=h1 rfl X base mb D β a w b k cs g1 g2 g3 oT;exact⟨e,lp,fI,a1,w1,q,r1,r2,r3,.of_steps (.one fN) r4⟩
 |false =>
  obtain⟨e,lp,fI,a1,w1,q,r1,r2,r3,r4⟩:=h2 rfl X base mb D β a w b k cs g1 g2 g3 oT;exact⟨e,lp,fI,a1,w1,q,r1,r2,r3,.of_steps (.one fN) r4⟩
theorem jn.CU {c:Operand} {x y:Code} (hc:ev st.tm c=.jL) (h1:jn P lo x st Q) (h2:jn P lo y st Q):jn P lo (.cond c x y) st Q:=by
 intro X base mb D β a w b k cs g1 g2 g3 oT;have hv:=xw g3 c;rw[hc]at hv;obtain⟨t,hv⟩:∃t,a.eval c=.bool t:=by
  generalize a.eval c=v at hv;cases hv;exact⟨_,rfl⟩
 have fN:=stepR_cond (P:=P) (b:=b) (k:=k) (cs:=cs) (w:=w) (x:=x) (y:=y) hv;cases t with
 |true =>
  obtain⟨e,lp,fI,a1,w1,q,r1,r2,r3,r4⟩:=h1 X base mb D β a w b k cs g1 g2 g3 oT;exact⟨e,lp,fI,a1,w1,q,r1,r2,r3,.of_steps (.one fN) r4⟩
 |false =>
  obtain⟨e,lp,fI,a1,w1,q,r1,r2,r3,r4⟩:=h2 X base mb D β a w b k cs g1 g2 g3 oT;exact⟨e,lp,fI,a1,w1,q,r1,r2,r3,.of_steps (.one fN) r4⟩
def cB.inBlock (id:Nat)(Q:cB->St->Prop):cB->St->Prop
 |.exit xo,s=>if xo=id then Q .normal s else Q (.exit xo) s
 |e,s=>Q e s
theorem jn.block {id:Nat} {c:Code} (h:jn P lo c st (cB.inBlock id Q)):jn P lo (.block id c) st Q:=by
 intro X base mb D β a w b k cs h1 h2 h3 oT;obtain⟨e,lp,fI,a1,w1,q,h4,h5,h6,h7⟩:=h X base mb D β a w b (.inBlock id :: k) cs h1 h2 h3 oT;cases e with
 |normal=>exact⟨.normal,lp,fI,a1,w1,q,h4,h5,h6,.head stepR_block (Steps.trans h7 (.one stepR_inBlock))⟩
 | exit xo =>
  obtain⟨k',e1,e2⟩:=h7;by_cases rC:xo=id
  ·simp only[cB.inBlock,rC,if_true]at q;refine⟨.normal,lp,fI,a1,w1,q,h4,h5,h6,.head stepR_block (Steps.trans e2 (.one (stepR_exit ?_)))⟩;rw[e1];simp[exitTo,rC]
  ·simp only[cB.inBlock,rC,if_false]at q;have:(id==xo)=false:=by simp;exact λh=>rC h.symm
   exact⟨.exit xo,lp,fI,a1,w1,q,h4,h5,h6,k',by rw[e1];simp[exitTo,this],.head stepR_block e2⟩
 |goto l =>
  obtain⟨k',e1,e2⟩:=h7;exact⟨.goto l,lp,fI,a1,w1,q,h4,h5,h6,k',by rw[e1];rfl,.head stepR_block e2⟩
 |ret =>
  obtain⟨k',e2⟩:=h7;exact⟨.ret,lp,fI,a1,w1,q,h4,h5,h6,k',.head stepR_block e2⟩
 |panic u =>
  obtain⟨k',e2⟩:=h7;exact⟨.panic u,lp,fI,a1,w1,q,h4,h5,h6,k',.head stepR_block e2⟩
theorem jn.scope {c:Code} (h:jn P lo c st (λe s=>(∀l,e≠.goto l)/\Q e s)):jn P lo (.scope c) st Q:=by
 intro X base mb D β a w b k cs h1 h2 h3 oT;have hs:step P (lone (b.atR a (.code (.scope c):: k)) cs w)=.next (lone (b.atR a (.code c :: .inScope c :: k)) cs w):=step_lone_go (by simp[stepG,stepG.exec,Frame.atR]);have zW:∀a w,step P (lone (b.atR a (.inScope c :: k)) cs w)=.next (lone (b.atR a k) cs w):=λa w=>step_lone_go (by simp[stepG,stepG.exec,Frame.atR]);obtain⟨e,lp,fI,a1,w1,q,h4,h5,h6,h7⟩:=h X base mb D β a w b (.inScope c :: k) cs h1 h2 h3 oT;cases e with
 |normal=>exact⟨.normal,lp,fI,a1,w1,q.2,h4,h5,h6,.head hs (Steps.trans h7 (.one (zW _ _)))⟩
 |exit xo =>
  obtain⟨k',e1,e2⟩:=h7;exact⟨.exit xo,lp,fI,a1,w1,q.2,h4,h5,h6,k',by rw[e1];rfl,.head hs e2⟩
 |goto l=>exact absurd rfl (q.1 l)
 |ret =>
  obtain⟨k',e2⟩:=h7;exact⟨.ret,lp,fI,a1,w1,q.2,h4,h5,h6,k',.head hs e2⟩
 |panic u =>
  obtain⟨k',e2⟩:=h7;exact⟨.panic u,lp,fI,a1,w1,q.2,h4,h5,h6,k',.head hs e2⟩
structure St.le (eG st:St):Prop where
 n:eG.tm.length=st.tm.length
 t:∀k,k<eG.tm.length->eG.tm.getD k .undef=.undef\/eG.tm.getD k .undef=st.tm.getD k .undef
 s:zY eG.σ st.σ
 lt:bG eG.σ.length eG.tm
 ls:Bm eG.σ.length eG.σ
theorem Rel.weaken {X:Nat->Nat->Prop}{base mb:Nat}{D:List Deferred}{β:Env}{a:Act}{w:World}{eG:St}(h:Rel X base mb D st β a w)(hl:eG.le st):Rel X base mb D eG (β.cut eG.σ.length) a w:=by
 refine⟨h.s.drop hl.s rfl hl.ls,by rw[h.n,hl.n],λk hk=>?_,h.d⟩;rcases hl.t k hk with e|e
 ·rw[e];exact .undef _
 ·have:=h.t k (by rw[<-hl.n];exact hk);rw[<-e]at this;exact this.drop hl.s rfl (jZ hl.lt k)
theorem jn.loop {ι:Type} (I : ι->St) (μ : ι->Nat) {c:Code} (x0 : ι) (h0:(I x0).le st) (iG:∀x,lo.n<=(I x).σ.length)
  (round:∀x,jn P lo c (I x) (cB.then (λs=>∃y,(I y).le s/\μ y < μ x) Q)):jn P lo (.loop c) st Q:=by
 have key:∀n x,μ x=n->∀(X:Nat->Nat->Prop) (base mb:Nat) (D:List Deferred) (β:Env) (a:Act) (w:World) (b:Frame) (k:List Item) (cs:List Frame),mb<=w.heap.size->Rel X base mb D (I x) β a w->lo.ok β b ->
   ∃e eG β' a' w',Q e eG/\lo.n<=eG.σ.length/\Rel X base mb D eG β' a' w'/\Ext lo.n (I x).σ β w eG.σ β' w'/\BF P (lone (b.atR a (.code c :: .inLoop c :: k)) cs w) b k cs e a' w':=by
  intro n
  induction n using Nat.strongRecOn with
  | _ n ih =>
   intro x hn X base mb D β a w b k cs h2 h3 oT;obtain⟨e,lp,fI,a1,w1,q,h4,h5,h6,h7⟩:=round x X base mb D β a w b (.inLoop c :: k) cs (iG x) h2 h3 oT;cases e with
   |normal =>
    obtain⟨y,hy,Sf⟩:=q;have hw:=h5.weaken hy;obtain⟨e2,nh,nZ,a2,w2,q2,g4,g5,g6,g7⟩:=ih (μ y) (hn ▸ Sf) y rfl X base mb D _ a1 w1 b k cs (dg h2 h6.size) hw ((oT.ext h6).cut (iG y));exact⟨e2,nh,nZ,a2,w2,q2,g4,g5,(h6.drop hy.s rfl (iG y)).trans g6,.of_steps (Steps.trans h7 (.one stepR_inLoop)) g7⟩
   |exit id=>obtain⟨k',e1,e2⟩:=h7;exact⟨.exit id,lp,fI,a1,w1,q,h4,h5,h6,k',by rw[e1];rfl,e2⟩
   |goto l=>obtain⟨k',e1,e2⟩:=h7;exact⟨.goto l,lp,fI,a1,w1,q,h4,h5,h6,k',by rw[e1];rfl,e2⟩
   |ret=>exact⟨.ret,lp,fI,a1,w1,q,h4,h5,h6,h7⟩
   |panic u=>exact⟨.panic u,lp,fI,a1,w1,q,h4,h5,h6,h7⟩
 intro X base mb D β a w b k cs h1 h2 h3 oT;obtain⟨e,lp,fI,a1,w1,q,h4,h5,h6,h7⟩:=key _ x0 rfl X base mb D _ a w b k cs h2 (h3.weaken h0) (oT.cut (iG x0));exact⟨e,lp,fI,a1,w1,q,h4,h5,((Ext.refl lo.n _ _ _).drop h0.s rfl (iG x0)).trans h6,.of_steps (.one stepR_loop) h7⟩
end
end Go.dq
