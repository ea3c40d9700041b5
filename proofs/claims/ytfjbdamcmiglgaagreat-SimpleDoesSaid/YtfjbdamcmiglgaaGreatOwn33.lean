/- Part 33 of what the claim rests on. -/
import Derived.Test.YtfjbdamcmiglgaaGreatOwn32
set_option linter.all false
namespace Go.dq
open Go
mutual
def ez (π:Nat->Nat):ah->ah
 |.ptr b o=>.ptr (π b) o
 |.rp b i f=>.rp (π b) i f
 |.os b o n s=>.os (π b) o n s
 |.oc b o n c s=>.oc (π b) o n c s
 |.ni b=>.ni (π b)
 |.map b=>.map (π b)
 |.it b=>.it (π b)
 |.pp cs=>.pp (eC π cs)
 |.ps s es=>.ps s (eC π es)
 |.fn f a c=>.fn f (eC π a) (eC π c)
 |.pm ks vs=>.pm (eC π ks) (eC π vs)
 |.agg cs=>.agg (eC π cs)
 |.dw cs=>.dw (eC π cs)
 |.iface t v=>.iface t (ez π v)
 |a=>a
def eC (π:Nat->Nat):List ah->List ah
 |[]=>[]
 |a :: cI=>ez π a :: eC π cI
end
theorem kr (π:Nat->Nat):∀l:List ah,(eC π l).length=l.length
 |[]=>rfl
 |a :: cI=>by simp[eC,kr π cI]
theorem mV (π:Nat->Nat):∀(l:List ah) (k:Nat),(eC π l).getD k .undef=ez π (l.getD k .undef)
 |[],k=>by simp[eC,ez]
 |a :: cI,0=>by simp[eC]
 |a :: cI,k+1=>by simp only[eC,bE];exact mV π cI k
theorem DS (π:Nat->Nat)(a:ah):(ez π a).cells=eC π a.cells:=by cases a<;>simp[ez,eC,ah.cells]
mutual
theorem Iy (π:Nat->Nat)(n:Nat)(h:∀b,b<n->π b=b):∀a:ah,a.low n->ez π a=a
 |.ptr b _,k=>by simp only[ez];rw[h b k]
 |.rp b _ _,k=>by simp only[ez];rw[h b k]
 |.os b _ _ _,k=>by simp only[ez];rw[h b k]
 |.oc b _ _ _ _,k=>by simp only[ez];rw[h b k]
 |.jL,_=>rfl
 |.ni b,k=>by simp only[ez];rw[h b k]
 |.map b,k=>by simp only[ez];rw[h b k]
 |.it b,k=>by simp only[ez];rw[h b k]
 |.pp cs,k=>by simp only[ez];rw[sP π n h cs k]
 |.ps _ es,k=>by simp only[ez];rw[sP π n h es k]
 |.fn _ a c,k=>by simp only[ez];rw[sP π n h a k.1,sP π n h c k.2]
 |.pm ks vs,k=>by simp only[ez];rw[sP π n h ks k.1,sP π n h vs k.2]
 |.agg cs,k=>by simp only[ez];rw[sP π n h cs k]
 |.dw cs,k=>by simp only[ez];rw[sP π n h cs k]
 |.iface _ v,k=>by simp only[ez];rw[Iy π n h v k]
 |.undef,_=>rfl
 |.bool _,_=>rfl
 |.int _ _,_=>rfl
 |.str _,_=>rfl
 |.gJ,_=>rfl
 |.a8,_=>rfl
 |.fU,_=>rfl
 |.dj,_=>rfl
 |.jv,_=>rfl
 |.qf _,_=>rfl
theorem sP (π:Nat->Nat)(n:Nat)(h:∀b,b<n->π b=b):∀l:List ah,bG n l->eC π l=l
 |[],_=>rfl
 |a :: cI,k=>by simp only[eC];rw[Iy π n h a k.1,sP π n h cI k.2]
end
def eo (π:Nat->Nat):bS->bS
 |.var cs=>.var (eC π cs)
 |.row es fz=>.row (eC π es) fz
 |.map ks vs f=>.map (eC π ks) (eC π vs) f
 |.iter s p=>.iter s p
 |.mC ks vs seen=>.mC (eC π ks) (eC π vs) seen
 |.loop r=>.loop { r with tm:=eC π r.tm }
def kJ (β:Env)(π:Nat->Nat)(n:Nat):Env:=λb=>if b<n then β (π b) else none
theorem cn.ez {w:World} {M:Nat->Nat->Prop} {β:Env} {π:Nat->Nat} {n:Nat} {v:Value} {a0:ah} (h:cn w M β v a0):∀a,a0=ez π a->a.low n->cn w M (kJ β π n) v a:=by
 have he:∀b L,b<n->β (π b)=some L->kJ β π n b=some L:=λb L hb h=>by simp[kJ,hb,h]
 induction h with
 |undef v=>intro a e _;cases a<;>simp only[dq.ez,reduceCtorEq]at e;exact .undef v
 |bool b=>intro a e _;cases a<;>simp only[dq.ez,reduceCtorEq,ah.bool.injEq]at e;subst e;exact .bool _
 |int k i=>intro a e _;cases a<;>simp only[dq.ez,reduceCtorEq,ah.int.injEq]at e;obtain⟨rfl,rfl⟩:=e;exact .int _ _
 |str s=>intro a e _;cases a<;>simp only[dq.ez,reduceCtorEq,ah.str.injEq]at e;subst e;exact .str _
 |gJ=>intro a e _;cases a<;>simp only[dq.ez,reduceCtorEq]at e;exact .gJ
 |ptr h=>intro a e hl;cases a<;>simp only[dq.ez,reduceCtorEq,ah.ptr.injEq]at e;obtain⟨rfl,rfl⟩:=e;exact .ptr (he _ _ hl h)
 |rp h=>intro a e hl;cases a<;>simp only[dq.ez,reduceCtorEq,ah.rp.injEq]at e;obtain⟨rfl,rfl,rfl⟩:=e;exact .rp (he _ _ hl h)
 |pp cv hc _ ih =>
  intro a e hl;cases a<;>simp only[dq.ez,reduceCtorEq,ah.pp.injEq]at e;subst e;exact .pp cv (λk hk=>hc k (by rw[kr];exact hk)) λk hk=>ih k (by rw[kr];exact hk) _ (mV _ _ _) (jZ hl k)
 |a8 ad=>intro a e _;cases a<;>simp only[dq.ez,reduceCtorEq]at e;exact .a8 _
 |ps cv j8 eM hc ha _ ih =>
  intro a e hl;cases a<;>simp only[dq.ez,reduceCtorEq,ah.ps.injEq]at e;obtain⟨rfl,rfl⟩:=e;rw[kr]at j8 eM hc ha ih ⊢;exact .ps cv j8 (λi hi=>by have:=eM i hi;rw[mV,DS,kr]at this;exact this) hc ha λi j hi hj=>ih i j hi hj _ (by rw[mV,DS,mV]) (jZ (GL (jZ hl i)) j)
 |vg ad h=>intro a e hl;cases a<;>simp only[dq.ez,reduceCtorEq,ah.os.injEq]at e;obtain⟨rfl,rfl,rfl,rfl⟩:=e;exact .vg _ (he _ _ hl h)
 |os h h1 h2=>intro a e hl;cases a<;>simp only[dq.ez,reduceCtorEq,ah.os.injEq]at e;obtain⟨rfl,rfl,rfl,rfl⟩:=e;exact .os (he _ _ hl h) h1 h2
 |jL b=>intro a e _;cases a<;>simp only[dq.ez,reduceCtorEq]at e;exact .jL b
 |ve ad h=>intro a e hl;cases a<;>simp only[dq.ez,reduceCtorEq,ah.oc.injEq]at e;obtain⟨rfl,rfl,rfl,rfl,rfl⟩:=e;exact .ve _ (he _ _ hl h)
 |oc h h1 h2=>intro a e hl;cases a<;>simp only[dq.ez,reduceCtorEq,ah.oc.injEq]at e;obtain⟨rfl,rfl,rfl,rfl,rfl⟩:=e;exact .oc (he _ _ hl h) h1 h2
 |fU=>intro a e _;cases a<;>simp only[dq.ez,reduceCtorEq]at e;exact .fU
 |fn h1 h2 _ _ lZ qj =>
  intro a e hl;cases a<;>simp only[dq.ez,reduceCtorEq,ah.fn.injEq]at e;obtain⟨rfl,rfl,rfl⟩:=e;rw[kr]at h1 h2 lZ qj;exact .fn h1 h2 (λk hk=>lZ k hk _ (mV _ _ _) (jZ hl.1 k)) (λk hk=>qj k hk _ (mV _ _ _) (jZ hl.2 k))
 |ni h=>intro a e hl;cases a<;>simp only[dq.ez,reduceCtorEq,ah.ni.injEq]at e;subst e;exact .ni (he _ _ hl h)
 |dj=>intro a e _;cases a<;>simp only[dq.ez,reduceCtorEq]at e;exact .dj
 |map h=>intro a e hl;cases a<;>simp only[dq.ez,reduceCtorEq,ah.map.injEq]at e;subst e;exact .map (he _ _ hl h)
 |pm hg hm h1 h2 _ _ hb lZ qj =>
  intro a e hl;cases a<;>simp only[dq.ez,reduceCtorEq,ah.pm.injEq]at e;obtain⟨rfl,rfl⟩:=e;rw[kr]at h1 h2 lZ qj;rw[kr]at h2;exact .pm hg hm h1 h2 (λk hk=>lZ k hk _ (mV _ _ _) (jZ hl.1 k)) (λk hk=>qj k hk _ (mV _ _ _) (jZ hl.2 k)) hb
 |it h=>intro a e hl;cases a<;>simp only[dq.ez,reduceCtorEq,ah.it.injEq]at e;subst e;exact .it (he _ _ hl h)
 |agg h _ ih =>
  intro a e hl;cases a<;>simp only[dq.ez,reduceCtorEq,ah.agg.injEq]at e;subst e;rw[kr]at h ih;exact .agg h λk hk=>ih k hk _ (mV _ _ _) (jZ hl k)
 |dw h _ ih =>
  intro a e hl;cases a<;>simp only[dq.ez,reduceCtorEq,ah.dw.injEq]at e;subst e;rw[kr]at h ih;exact .dw h λk hk=>ih k hk _ (mV _ _ _) (jZ hl k)
 |jv=>intro a e _;cases a<;>simp only[dq.ez,reduceCtorEq]at e;exact .jv
 |iface h ih=>intro a e hl;cases a<;>simp only[dq.ez,reduceCtorEq,ah.iface.injEq]at e;obtain⟨rfl,rfl⟩:=e;exact .iface (ih _ rfl hl)
 |qf v=>intro a e _;cases a<;>simp only[dq.ez,reduceCtorEq,ah.qf.injEq]at e;subst e;exact .qf _
theorem ig.ez {w:World} {M:Nat->Nat->Prop} {β:Env} {π:Nat->Nat} {n:Nat} {L:Loc} {cG:bS} (h:ig w M β L (eo π cG)) (hl:cG.low n):ig w M (kJ β π n) L cG:=by
 cases cG with
 |var cs =>
  obtain⟨c,e,h1,h0,h2,h3⟩:=h;rw[kr]at h2 h3;exact⟨c,e,h1,h0,h2,λk hk=>(h3 k hk).ez _ (mV _ _ _) (jZ hl k)⟩
 |row es fz =>
  obtain⟨c,e,h1,h2,h3,h4,h5⟩:=h;rw[kr]at h3 h4 h5;exact⟨c,e,h1,h2,h3,λi hi=>by have:=h4 i hi;rw[mV,DS,kr]at this;exact this,λi j hi hj=>(h5 i j hi hj).ez _ (by rw[mV,DS,mV]) (jZ (GL (jZ hl i)) j)⟩
 |map ks vs f =>
  obtain⟨es,clk,h1,h2,h3,h4,h5,h6⟩:=h;rw[kr]at h2 h3 h4 h5;rw[kr]at h3;exact⟨es,clk,h1,h2,h3,λk hk=>(h4 k hk).ez _ (mV _ _ _) (jZ hl.1 k),λk hk=>(h5 k hk).ez _ (mV _ _ _) (jZ hl.2 k),h6⟩
 |iter s p=>exact h
 |mC ks vs seen =>
  obtain⟨m,es,clk,h1,h2,h3,h4,h5,h6,h7,h8,h9⟩:=h;rw[kr]at h4 h5 h6 h7 h9;rw[kr]at h5;exact⟨m,es,clk,h1,h2,h3,h4,h5,λk hk=>(h6 k hk).ez _ (mV _ _ _) (jZ hl.1 k),λk hk=>(h7 k hk).ez _ (mV _ _ _) (jZ hl.2 k),h8,h9⟩
 |loop r =>
  obtain⟨t,d,f,h1,h2,h3⟩:=h;simp only[kr]at h2 h3;exact⟨t,d,f,h1,h2,λk hk=>(h3 k hk).ez _ (mV _ _ _) (jZ hl k)⟩
theorem EY {π:Nat->Nat}{L:Loc}{cG:bS}{o:Nat}:(eo π cG).mut L o=cG.mut L o:=by cases cG<;>rfl
structure Wr (lo:Nat)(π:Nat->Nat)(eG st:St):Prop where
 fix:∀b,b<lo->π b=b
 inj:∀b b',b<eG.σ.length->b'<eG.σ.length->π b = π b'->b=b'
 tm:nA (eC π eG.tm) st.tm
 s:∀(b:Nat) x,eG.σ[b]? = some (some x)->st.σ[π b]? = some (some (eo π x))
 lt:bG eG.σ.length eG.tm
 ls:Bm eG.σ.length eG.σ
section
variable {P:Program}{X:Nat->Nat->Prop}{base mb lo:Nat}{D:List Deferred}{st eG:St}{β:Env}{a:Act}{w:World}{π:Nat->Nat}
theorem Wr.rel (h:Wr lo π eG st) (hr:Rel X base mb D st β a w) (iG:lo<=eG.σ.length):Rel X base mb D eG (kJ β π eG.σ.length) a w/\Ext lo st.σ β w eG.σ (kJ β π eG.σ.length) w:=by
 have hM:∀g o,jR eG.σ (kJ β π eG.σ.length) g o->jR st.σ β g o:=by
  rintro g o ⟨b,cG,L,m1,m2,m3,m4⟩;have hb:=(aN.1 m1).1;simp only[kJ,hb,if_true]at m2;exact⟨π b,_,L,h.s b cG m1,m2,m3,by rw[EY];exact m4⟩
 have hk:dK w (MT X st.σ β) w (MT X eG.σ (kJ β π eG.σ.length)):=dK.nr λg o hm=>hm.imp id (hM g o);obtain⟨t1,t2⟩:=H2 h.tm;rw[kr]at t1 t2;refine⟨⟨⟨λb hb=>by simp[kJ];omega,λb cG hb=>?_,λb b' x y L L' e1 e2 e3 e4 e5=>?_,hr.s.size,hr.s.sc,hr.s.gl⟩,by rw[hr.n,t1],λk eZ=>?_,hr.d⟩,rfl,rfl,rfl,ae _,λ_ _ _ hc _=>hc,λ_ _ _=>rfl,λg o hm=>.inl (hM g o hm),λb hb=>?_⟩
 ·obtain⟨L,q1,q2,q3,q4⟩:=hr.s.cG _ _ (h.s b cG hb);have bx:=(aN.1 hb).1;exact⟨L,by simp[kJ,bx,q1],q2,q3,(q4.mono hk (λ_ _ h=>h) rfl).ez (h.ls b cG hb)⟩
 ·have l1:=(aN.1 e1).1;have l2:=(aN.1 e2).1;simp only[kJ,l1,l2,if_true]at e3 e4;exact h.inj b b' l1 l2 (hr.s.inj _ _ _ _ L L' (h.s b x e1) (h.s b' y e2) e3 e4 e5)
 ·rcases t2 k eZ with e|e
  ·rw [mV]at e;have:eG.tm.getD k .undef=.undef:=by
    revert e;cases eG.tm.getD k .undef<;>simp[dq.ez]
   rw[this];exact .undef _
  ·have:=(hr.t k (by omega)).mono hk (λ_ _ h=>h);exact this.ez _ (by rw[<-e,mV]) (jZ h.lt k)
 ·have:b<eG.σ.length:=by omega
  simp[kJ,this,h.fix b hb]
end
section
variable {P:Program}{lo:Ctx}{st:St}{Q:cB->St->Prop}
theorem jn.ep {ι:Type} (I : ι->St) (μ : ι->Nat) {c:Code} (x0 : ι) (h0:∃π,Wr lo.n π (I x0) st) (iG:∀x,lo.n<=(I x).σ.length)
  (round:∀x,jn P lo c (I x) (cB.then (λs=>∃y π,Wr lo.n π (I y) s/\μ y < μ x) Q)):jn P lo (.loop c) st Q:=by
 have key:∀n x,μ x=n->∀(X:Nat->Nat->Prop) (base mb:Nat) (D:List Deferred) (β:Env) (a:Act) (w:World) (b:Frame) (k:List Item) (cs:List Frame),mb<=w.heap.size->Rel X base mb D (I x) β a w->lo.ok β b ->
   ∃e eG β' a' w',Q e eG/\lo.n<=eG.σ.length/\Rel X base mb D eG β' a' w'/\Ext lo.n (I x).σ β w eG.σ β' w'/\BF P (lone (b.atR a (.code c :: .inLoop c :: k)) cs w) b k cs e a' w':=by
  intro n
  induction n using Nat.strongRecOn with
  | _ n ih =>
   intro x hn X base mb D β a w b k cs h2 h3 oT;obtain⟨e,lp,fI,a1,w1,q,h4,h5,h6,h7⟩:=round x X base mb D β a w b (.inLoop c :: k) cs (iG x) h2 h3 oT;cases e with
   |normal =>
    obtain⟨y,π,hy,Sf⟩:=q;obtain⟨hw,hx⟩:=hy.rel h5 (iG y);obtain⟨e2,nh,nZ,a2,w2,q2,g4,g5,g6,g7⟩:=ih (μ y) (hn ▸ Sf) y rfl X base mb D _ a1 w1 b k cs (dg h2 h6.size) hw ((oT.ext h6).ext hx);exact⟨e2,nh,nZ,a2,w2,q2,g4,g5,(h6.trans hx).trans g6,.of_steps (Steps.trans h7 (.one stepR_inLoop)) g7⟩
   |exit id=>obtain⟨k',e1,e2⟩:=h7;exact⟨.exit id,lp,fI,a1,w1,q,h4,h5,h6,k',by rw[e1];rfl,e2⟩
   |goto l=>obtain⟨k',e1,e2⟩:=h7;exact⟨.goto l,lp,fI,a1,w1,q,h4,h5,h6,k',by rw[e1];rfl,e2⟩
   |ret=>exact⟨.ret,lp,fI,a1,w1,q,h4,h5,h6,h7⟩
   |panic u=>exact⟨.panic u,lp,fI,a1,w1,q,h4,h5,h6,h7⟩
 intro X base mb D β a w b k cs h1 h2 h3 oT;obtain⟨π,HB⟩:=h0;obtain⟨hw,hx⟩:=HB.rel h3 (iG x0);obtain⟨e,lp,fI,a1,w1,q,h4,h5,h6,h7⟩:=key _ x0 rfl X base mb D _ a w b k cs h2 hw (oT.ext hx);exact⟨e,lp,fI,a1,w1,q,h4,h5,hx.trans h6,.of_steps (.one stepR_loop) h7⟩
def iH (π:Nat->Nat)(σ:av):Nat->av->Prop
 |_,[]=>True
 |i,none :: r=>iH π σ (i+1) r
 |i,some x :: r=>bW σ (π i)=some (eo π x)/\iH π σ (i+1) r
theorem KS {π:Nat->Nat} {σ:av}:∀(r:av) (i:Nat),iH π σ i r->∀b x,r[b]? = some (some x)->σ[π (i+b)]? = some (some (eo π x))
 |[],_,_,b,x,hx=>by simp at hx
 |none :: r,i,h,0,x,hx=>by simp at hx
 |some y :: r,i,h,0,x,hx=>by
  simp only[gB,aM]at hx;subst hx;exact la h.1
 |none :: r,i,h,b+1,x,hx=>by
  have:=KS r (i+1) h b x (by simpa using hx)
  rwa [show i+1+b=i+(b+1) by omega]at this
 |some y :: r,i,h,b+1,x,hx=>by
  have:=KS r (i+1) h.2 b x (by simpa using hx)
  rwa [show i+1+b=i+(b+1) by omega]at this
def pi (l:List (Nat×Nat))(b:Nat):Nat:=(l.lookup b).getD b
def sL (l:List (Nat×Nat))(lo n:Nat):Bool:=((List.range lo).all λb=>pi l b==b)&&(List.range n).all λi=>(List.range n).all λj=>i==j||pi l i != pi l j
def J6 (lo:Nat)(l:List (Nat×Nat))(kC:List ah)(σ':av)(s:St):Prop :=
 sL l lo σ'.length=true/\nA (eC (pi l) kC) s.tm/\iH (pi l) s.σ 0 σ'/\bG σ'.length kC/\bH σ'.length σ'
theorem US {lo:Nat}{l:List (Nat×Nat)}{kC:List ah}{σ':av}{s:St}(h:J6 lo l kC σ' s):Wr lo (pi l) ⟨kC,σ'⟩ s:=by
 obtain⟨h1,h2,h3,h4,h5⟩:=h;simp only[sL,aG,bu,cd,cb,beq_iff_eq,bne_iff_ne]at h1;refine⟨h1.1,λb b' l1 l2 e=>(h1.2 b l1 b' l2).resolve_right (λn=>n e),h2,λb x hb=>?_,h4,sq h5⟩;have:=KS σ' 0 h3 b x hb
 rwa [br]at this
def rG {ι:Type}(P:Program)(lo:Ctx)(Q:cB->St->Prop)(k:List KI)(I : ι->List ah)(S : ι->av)(μ : ι->Nat)(x : ι):cB->St->Prop
 |.normal,s=>∃y l,J6 lo.n l (I y) (S y) s/\μ y < μ x
 |e,s=>aC P lo Q k e s
theorem aC.ep {ι:Type} (n:Nat) (I : ι->List ah) (S : ι->av) (μ : ι->Nat) {c:Code} {k:List KI} {tm:List ah} {σ:av} (x0 : ι) (l0:List (Nat×Nat)) (h0:J6 lo.n l0 (I x0) (S x0) ⟨tm,σ⟩) (iG:∀x,lo.n<=(S x).length)
  (round:∀x,fx P lo (rG P lo Q k I S μ x) n [.code c] .normal (I x) (S x)):aC P lo Q (.code (.loop c):: k) .normal ⟨tm,σ⟩ :=
 jn.ep (ι:=ι) (λx=>⟨I x,S x⟩) μ x0 ⟨_,US h0⟩ iG λx=>by
  have:=EO n _ _ _ _ (round x);refine jn.mono this λe s q=>?_;simp only[aC]at q;cases e with
  |normal=>obtain⟨y,l,h1,h2⟩:=q;exact⟨y,pi l,US h1,h2⟩
  |exit id=>exact q
  |goto l=>exact q
  |ret=>exact q
  |panic u=>exact q
theorem Ygs {ι:Type}{k:List KI}{I : ι->List ah}{S : ι->av}{μ : ι->Nat}{x : ι}{s:St}:rG P lo Q k I S μ x .normal s = ∃y l,J6 lo.n l (I y) (S y) s/\μ y < μ x:=rfl
theorem Yqu {ι:Type}{k:List KI}{I : ι->List ah}{S : ι->av}{μ : ι->Nat}{x : ι}{s:St}{i:Nat}:rG P lo Q k I S μ x (.exit i) s=aC P lo Q k (.exit i) s:=rfl
theorem Yrz {ι:Type}{k:List KI}{I : ι->List ah}{S : ι->av}{μ : ι->Nat}{x : ι}{s:St}{i:Nat}:rG P lo Q k I S μ x (.goto i) s=aC P lo Q k (.goto i) s:=rfl
theorem Yok {ι:Type}{k:List KI}{I : ι->List ah}{S : ι->av}{μ : ι->Nat}{x : ι}{s:St}{u:Value}:rG P lo Q k I S μ x (.panic u) s=aC P lo Q k (.panic u) s:=rfl
theorem Yz3 {ι:Type}{k:List KI}{I : ι->List ah}{S : ι->av}{μ : ι->Nat}{x : ι}{s:St}:rG P lo Q k I S μ x .ret s=aC P lo Q k .ret s:=rfl
theorem Oi {π:Nat->Nat}{σ:av}{i:Nat}:iH π σ i []=True:=rfl
theorem KL {π:Nat->Nat}{σ r:av}{i:Nat}:iH π σ i (none :: r)=iH π σ (i+1) r:=rfl
theorem KV {π:Nat->Nat}{σ r:av}{i:Nat}{x:bS}:iH π σ i (some x :: r)=(bW σ (π i)=some (eo π x)/\iH π σ (i+1) r):=rfl
theorem eL {lo:Nat}{l:List (Nat×Nat)}{kC:List ah}{σ':av}{s:St}(h:sL l lo σ'.length=true)(h2:nA (eC (pi l) kC) s.tm/\iH (pi l) s.σ 0 σ'/\bG σ'.length kC/\bH σ'.length σ'):J6 lo l kC σ' s:=⟨h,h2⟩
theorem Yvt {x:Nat}:pi [] x=x:=rfl
theorem Yst {a b x:Nat} {l:List (Nat×Nat)}:pi ((a,b):: l) x=if x=a then b else pi l x:=by
 simp only[pi,List.lookup_cons];by_cases h:x=a
 ·subst h;simp
 ·have:(x==a)=false:=by simp[h]
  simp[this,h]
theorem zJ {π:Nat->Nat}{a:ah}(h:a.low 0):ez π a=a:=Iy π 0 (λb hb=>absurd hb (by omega)) a h
theorem bT {π:Nat->Nat}{l:List ah}(h:bG 0 l):eC π l=l:=sP π 0 (λb hb=>absurd hb (by omega)) l h
attribute [go_sem] Yvt Yst
attribute [go_sem] Ygs Yqu Yrz Yz3 Yok Oi KL KV ez eC eo
end
end Go.dq
