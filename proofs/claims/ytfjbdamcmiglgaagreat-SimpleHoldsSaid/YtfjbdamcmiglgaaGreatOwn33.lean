/- Part 33 of my own framework and of the walks of functions: AcsH. -/
import Derived.Test.YtfjbdamcmiglgaaGreatOwn32
set_option linter.unusedVariables false
set_option linter.unusedSectionVars false
set_option linter.unusedSimpArgs false
namespace Go.dm
open Go
mutual
def ek (π:Nat→Nat):ah→ah
 | .ptr b o=>.ptr (π b) o
 | .rp b i f=>.rp (π b) i f
 | .os b o n s=>.os (π b) o n s
 | .oc b o n c s=>.oc (π b) o n c s
 | .lN b=>.lN (π b)
 | .map b=>.map (π b)
 | .it b=>.it (π b)
 | .pp cs=>.pp (eK π cs)
 | .ps s es=>.ps s (eK π es)
 | .fn f a c=>.fn f (eK π a) (eK π c)
 | .pm ks vs=>.pm (eK π ks) (eK π vs)
 | .agg cs=>.agg (eK π cs)
 | .dT cs=>.dT (eK π cs)
 | .iface t v=>.iface t (ek π v)
 | a=>a
def eK (π:Nat→Nat):List ah→List ah
 | []=>[]
 | a :: cD=>ek π a :: eK π cD
end
theorem jW (π:Nat→Nat):∀ l:List ah,(eK π l).length=l.length
 | []=>rfl
 | a :: cD=>by simp [eK,jW π cD]
theorem l5 (π:Nat→Nat):∀ (l:List ah) (k:Nat),(eK π l).getD k .undef=ek π (l.getD k .undef)
 | [],k=>by simp [eK,ek]
 | a :: cD,0=>by simp [eK]
 | a :: cD,k+1=>by simp only [eK,bI];exact l5 π cD k
theorem Ch (π:Nat→Nat) (a:ah):(ek π a).cells=eK π a.cells:=by cases a<;>simp [ek,eK,ah.cells]
mutual
theorem G2 (π:Nat→Nat) (n:Nat) (h:∀ b,b<n→π b=b):∀ a:ah,a.low n→ek π a=a
 | .ptr b _,k=>by simp only [ek];rw [h b k]
 | .rp b _ _,k=>by simp only [ek];rw [h b k]
 | .os b _ _ _,k=>by simp only [ek];rw [h b k]
 | .oc b _ _ _ _,k=>by simp only [ek];rw [h b k]
 | .iH,_=>rfl
 | .lN b,k=>by simp only [ek];rw [h b k]
 | .map b,k=>by simp only [ek];rw [h b k]
 | .it b,k=>by simp only [ek];rw [h b k]
 | .pp cs,k=>by simp only [ek];rw [ry π n h cs k]
 | .ps _ es,k=>by simp only [ek];rw [ry π n h es k]
 | .fn _ a c,k=>by simp only [ek];rw [ry π n h a k.1,ry π n h c k.2]
 | .pm ks vs,k=>by simp only [ek];rw [ry π n h ks k.1,ry π n h vs k.2]
 | .agg cs,k=>by simp only [ek];rw [ry π n h cs k]
 | .dT cs,k=>by simp only [ek];rw [ry π n h cs k]
 | .iface _ v,k=>by simp only [ek];rw [G2 π n h v k]
 | .undef,_=>rfl
 | .bool _,_=>rfl
 | .int _ _,_=>rfl
 | .str _,_=>rfl
 | .bY,_=>rfl
 | .aW,_=>rfl
 | .aA,_=>rfl
 | .cM,_=>rfl
 | .gk,_=>rfl
 | .oD _,_=>rfl
theorem ry (π:Nat→Nat) (n:Nat) (h:∀ b,b<n→π b=b):∀ l:List ah,bF n l→eK π l=l
 | [],_=>rfl
 | a :: cD,k=>by simp only [eK];rw [G2 π n h a k.1,ry π n h cD k.2]
end
def ef (π:Nat→Nat):bO→bO
 | .var cs=>.var (eK π cs)
 | .row es fz=>.row (eK π es) fz
 | .map ks vs f=>.map (eK π ks) (eK π vs) f
 | .iter s p=>.iter s p
 | .lL ks vs seen=>.lL (eK π ks) (eK π vs) seen
 | .loop r=>.loop { r with tm:=eK π r.tm }
def kb (β:Env) (π:Nat→Nat) (n:Nat):Env:=fun b=>if b<n then β (π b) else none
theorem cf.ek {w:World} {M:Nat→Nat→Prop} {β:Env} {π:Nat→Nat} {n:Nat} {v:Value} {a0:ah} (h:cf w M β v a0):∀ a,a0=ek π a→a.low n→cf w M (kb β π n) v a:=by
 have he:∀ b L,b<n→β (π b)=some L→kb β π n b=some L:=fun b L hb h=>by simp [kb,hb,h]
 induction h with
 | undef v=>intro a e _;cases a<;>simp only [dm.ek,reduceCtorEq] at e;exact .undef v
 | bool b=>intro a e _;cases a<;>simp only [dm.ek,reduceCtorEq,ah.bool.injEq] at e;subst e;exact .bool _
 | int k i=>intro a e _;cases a<;>simp only [dm.ek,reduceCtorEq,ah.int.injEq] at e;obtain ⟨rfl,rfl⟩:=e;exact .int _ _
 | str s=>intro a e _;cases a<;>simp only [dm.ek,reduceCtorEq,ah.str.injEq] at e;subst e;exact .str _
 | bY=>intro a e _;cases a<;>simp only [dm.ek,reduceCtorEq] at e;exact .bY
 | ptr h=>intro a e hl;cases a<;>simp only [dm.ek,reduceCtorEq,ah.ptr.injEq] at e;obtain ⟨rfl,rfl⟩:=e;exact .ptr (he _ _ hl h)
 | rp h=>intro a e hl;cases a<;>simp only [dm.ek,reduceCtorEq,ah.rp.injEq] at e;obtain ⟨rfl,rfl,rfl⟩:=e;exact .rp (he _ _ hl h)
 | pp cv hc _ ih =>
  intro a e hl;cases a<;>simp only [dm.ek,reduceCtorEq,ah.pp.injEq] at e;subst e;exact .pp cv (fun k hk=>hc k (by rw [jW];exact hk)) fun k hk=>ih k (by rw [jW];exact hk) _ (l5 _ _ _) (jz hl k)
 | aW ad=>intro a e _;cases a<;>simp only [dm.ek,reduceCtorEq] at e;exact .aW _
 | ps cv jH fJ hc ha _ ih =>
  intro a e hl;cases a<;>simp only [dm.ek,reduceCtorEq,ah.ps.injEq] at e;obtain ⟨rfl,rfl⟩:=e;rw [jW] at jH fJ hc ha ih ⊢;exact .ps cv jH (fun i hi=>by have:=fJ i hi;rw [l5,Ch,jW] at this;exact this) hc ha fun i j hi hj=>ih i j hi hj _ (by rw [l5,Ch,l5]) (jz (E_ (jz hl i)) j)
 | tU ad h=>intro a e hl;cases a<;>simp only [dm.ek,reduceCtorEq,ah.os.injEq] at e;obtain ⟨rfl,rfl,rfl,rfl⟩:=e;exact .tU _ (he _ _ hl h)
 | os h h1 h2=>intro a e hl;cases a<;>simp only [dm.ek,reduceCtorEq,ah.os.injEq] at e;obtain ⟨rfl,rfl,rfl,rfl⟩:=e;exact .os (he _ _ hl h) h1 h2
 | iH b=>intro a e _;cases a<;>simp only [dm.ek,reduceCtorEq] at e;exact .iH b
 | tQ ad h=>intro a e hl;cases a<;>simp only [dm.ek,reduceCtorEq,ah.oc.injEq] at e;obtain ⟨rfl,rfl,rfl,rfl,rfl⟩:=e;exact .tQ _ (he _ _ hl h)
 | oc h h1 h2=>intro a e hl;cases a<;>simp only [dm.ek,reduceCtorEq,ah.oc.injEq] at e;obtain ⟨rfl,rfl,rfl,rfl,rfl⟩:=e;exact .oc (he _ _ hl h) h1 h2
 | aA=>intro a e _;cases a<;>simp only [dm.ek,reduceCtorEq] at e;exact .aA
 | fn h1 h2 _ _ lh pq =>
  intro a e hl;cases a<;>simp only [dm.ek,reduceCtorEq,ah.fn.injEq] at e;obtain ⟨rfl,rfl,rfl⟩:=e;rw [jW] at h1 h2 lh pq;exact .fn h1 h2 (fun k hk=>lh k hk _ (l5 _ _ _) (jz hl.1 k)) (fun k hk=>pq k hk _ (l5 _ _ _) (jz hl.2 k))
 | lN h=>intro a e hl;cases a<;>simp only [dm.ek,reduceCtorEq,ah.lN.injEq] at e;subst e;exact .lN (he _ _ hl h)
 | cM=>intro a e _;cases a<;>simp only [dm.ek,reduceCtorEq] at e;exact .cM
 | map h=>intro a e hl;cases a<;>simp only [dm.ek,reduceCtorEq,ah.map.injEq] at e;subst e;exact .map (he _ _ hl h)
 | pm hg hm h1 h2 _ _ hb lh pq =>
  intro a e hl;cases a<;>simp only [dm.ek,reduceCtorEq,ah.pm.injEq] at e;obtain ⟨rfl,rfl⟩:=e;rw [jW] at h1 h2 lh pq;rw [jW] at h2;exact .pm hg hm h1 h2 (fun k hk=>lh k hk _ (l5 _ _ _) (jz hl.1 k)) (fun k hk=>pq k hk _ (l5 _ _ _) (jz hl.2 k)) hb
 | it h=>intro a e hl;cases a<;>simp only [dm.ek,reduceCtorEq,ah.it.injEq] at e;subst e;exact .it (he _ _ hl h)
 | agg h _ ih =>
  intro a e hl;cases a<;>simp only [dm.ek,reduceCtorEq,ah.agg.injEq] at e;subst e;rw [jW] at h ih;exact .agg h fun k hk=>ih k hk _ (l5 _ _ _) (jz hl k)
 | dT h _ ih =>
  intro a e hl;cases a<;>simp only [dm.ek,reduceCtorEq,ah.dT.injEq] at e;subst e;rw [jW] at h ih;exact .dT h fun k hk=>ih k hk _ (l5 _ _ _) (jz hl k)
 | gk=>intro a e _;cases a<;>simp only [dm.ek,reduceCtorEq] at e;exact .gk
 | iface h ih=>intro a e hl;cases a<;>simp only [dm.ek,reduceCtorEq,ah.iface.injEq] at e;obtain ⟨rfl,rfl⟩:=e;exact .iface (ih _ rfl hl)
 | oD v=>intro a e _;cases a<;>simp only [dm.ek,reduceCtorEq,ah.oD.injEq] at e;subst e;exact .oD _
theorem gI.ek {w:World} {M:Nat→Nat→Prop} {β:Env} {π:Nat→Nat} {n:Nat} {L:Loc} {cw:bO} (h:gI w M β L (ef π cw)) (hl:cw.low n):gI w M (kb β π n) L cw:=by
 cases cw with
 | var cs =>
  obtain ⟨c,e,h1,h0,h2,h3⟩:=h;rw [jW] at h2 h3;exact ⟨c,e,h1,h0,h2,fun k hk=>(h3 k hk).ek _ (l5 _ _ _) (jz hl k)⟩
 | row es fz =>
  obtain ⟨c,e,h1,h2,h3,h4,h5⟩:=h;rw [jW] at h3 h4 h5;exact ⟨c,e,h1,h2,h3,fun i hi=>by have:=h4 i hi;rw [l5,Ch,jW] at this;exact this,fun i j hi hj=>(h5 i j hi hj).ek _ (by rw [l5,Ch,l5]) (jz (E_ (jz hl i)) j)⟩
 | map ks vs f =>
  obtain ⟨es,clk,h1,h2,h3,h4,h5,h6⟩:=h;rw [jW] at h2 h3 h4 h5;rw [jW] at h3;exact ⟨es,clk,h1,h2,h3,fun k hk=>(h4 k hk).ek _ (l5 _ _ _) (jz hl.1 k),fun k hk=>(h5 k hk).ek _ (l5 _ _ _) (jz hl.2 k),h6⟩
 | iter s p=>exact h
 | lL ks vs seen =>
  obtain ⟨m,es,clk,h1,h2,h3,h4,h5,h6,h7,h8,h9⟩:=h;rw [jW] at h4 h5 h6 h7 h9;rw [jW] at h5;exact ⟨m,es,clk,h1,h2,h3,h4,h5,fun k hk=>(h6 k hk).ek _ (l5 _ _ _) (jz hl.1 k),fun k hk=>(h7 k hk).ek _ (l5 _ _ _) (jz hl.2 k),h8,h9⟩
 | loop r =>
  obtain ⟨t,d,f,h1,h2,h3⟩:=h;simp only [jW] at h2 h3;exact ⟨t,d,f,h1,h2,fun k hk=>(h3 k hk).ek _ (l5 _ _ _) (jz hl k)⟩
theorem Dn {π:Nat→Nat} {L:Loc} {cw:bO} {o:Nat}:(ef π cw).mut L o=cw.mut L o:=by cases cw<;>rfl
structure Wr (lo:Nat) (π:Nat→Nat) (eL st:St):Prop where
 fix:∀ b,b<lo→π b=b
 inj:∀ b b',b<eL.σ.length→b'<eL.σ.length→π b = π b'→b=b'
 tm:mr (eK π eL.tm) st.tm
 s:∀ (b:Nat) x,eL.σ[b]? = some (some x)→st.σ[π b]? = some (some (ef π x))
 lt:bF eL.σ.length eL.tm
 ls:zJ eL.σ.length eL.σ
section
variable {P:Program} {X:Nat→Nat→Prop} {base mb lo:Nat} {D:List Deferred} {st eL:St} {β:Env} {a:Act} {w:World} {π:Nat→Nat}
theorem Wr.rel (h:Wr lo π eL st) (hr:Rel X base mb D st β a w) (jg:lo≤eL.σ.length):Rel X base mb D eL (kb β π eL.σ.length) a w∧Ext lo st.σ β w eL.σ (kb β π eL.σ.length) w:=by
 have hM:∀ g o,jr eL.σ (kb β π eL.σ.length) g o→jr st.σ β g o:=by
  rintro g o ⟨b,cw,L,m1,m2,m3,m4⟩;have hb:=(aJ.1 m1).1;simp only [kb,hb,if_true] at m2;exact ⟨π b,_,L,h.s b cw m1,m2,m3,by rw [Dn];exact m4⟩
 have hk:dD w (MT X st.σ β) w (MT X eL.σ (kb β π eL.σ.length)):=dD.mh fun g o hm=>hm.imp id (hM g o);obtain ⟨t1,t2⟩:=Gu h.tm;rw [jW] at t1 t2;refine ⟨⟨⟨fun b hb=>by simp [kb];omega,fun b cw hb=>?_,fun b b' x y L L' e1 e2 e3 e4 e5=>?_,hr.s.size,hr.s.qL,hr.s.gl⟩,by rw [hr.n,t1],fun k e7=>?_,hr.d⟩,rfl,rfl,rfl,ae _,fun _ _ _ hc _=>hc,fun _ _ _=>rfl,fun g o hm=>.inl (hM g o hm),fun b hb=>?_⟩
 ·obtain ⟨L,q1,q2,q3,q4⟩:=hr.s.cw _ _ (h.s b cw hb);have bA:=(aJ.1 hb).1;exact ⟨L,by simp [kb,bA,q1],q2,q3,(q4.mono hk (fun _ _ h=>h) rfl).ek (h.ls b cw hb)⟩
 ·have l1:=(aJ.1 e1).1;have l2:=(aJ.1 e2).1;simp only [kb,l1,l2,if_true] at e3 e4;exact h.inj b b' l1 l2 (hr.s.inj _ _ _ _ L L' (h.s b x e1) (h.s b' y e2) e3 e4 e5)
 ·rcases t2 k e7 with e | e
  ·rw [l5] at e;have:eL.tm.getD k .undef = .undef:=by
    revert e;cases eL.tm.getD k .undef<;>simp [dm.ek]
   rw [this];exact .undef _
  ·have:=(hr.t k (by omega)).mono hk (fun _ _ h=>h);exact this.ek _ (by rw [← e,l5]) (jz h.lt k)
 ·have:b<eL.σ.length:=by omega
  simp [kb,this,h.fix b hb]
end
section
variable {P:Program} {lo:Ctx} {st:St} {Q:ct→St→Prop}
theorem iy.gf {ι:Type} (I : ι→St) (μ : ι→Nat) {c:Code} (x0 : ι) (h0:∃ π,Wr lo.n π (I x0) st) (jg:∀ x,lo.n≤(I x).σ.length)
  (round:∀ x,iy P lo c (I x) (ct.then (fun s=>∃ y π,Wr lo.n π (I y) s∧μ y < μ x) Q)):iy P lo (.loop c) st Q:=by
 have key:∀ n x,μ x=n→∀ (X:Nat→Nat→Prop) (base mb:Nat) (D:List Deferred) (β:Env) (a:Act) (w:World) (b:Frame) (k:List Item) (cs:List Frame),mb≤w.heap.size→Rel X base mb D (I x) β a w→lo.ok β b →
   ∃ e eL β' a' w',Q e eL∧lo.n≤eL.σ.length∧Rel X base mb D eL β' a' w'∧Ext lo.n (I x).σ β w eL.σ β' w'∧AW P (lone (b.atR a (.code c :: .inLoop c :: k)) cs w) b k cs e a' w':=by
  intro n
  induction n using Nat.strongRecOn with
  | _ n ih =>
   intro x hn X base mb D β a w b k cs h2 h3 mD;obtain ⟨e,kK,fy,a1,w1,q,h4,h5,h6,h7⟩:=round x X base mb D β a w b (.inLoop c :: k) cs (jg x) h2 h3 mD;cases e with
   | normal =>
    obtain ⟨y,π,hy,P3⟩:=q;obtain ⟨hw,hx⟩:=hy.rel h5 (jg y);obtain ⟨e2,B1,nx,a2,w2,q2,g4,g5,g6,g7⟩:=ih (μ y) (hn ▸ P3) y rfl X base mb D _ a1 w1 b k cs (c_ h2 h6.size) hw ((mD.ext h6).ext hx);exact ⟨e2,B1,nx,a2,w2,q2,g4,g5,(h6.trans hx).trans g6, .of_steps (Steps.trans h7 (.one stepR_inLoop)) g7⟩
   | exit id=>obtain ⟨k',e1,e2⟩:=h7;exact ⟨.exit id,kK,fy,a1,w1,q,h4,h5,h6,k',by rw [e1];rfl,e2⟩
   | goto l=>obtain ⟨k',e1,e2⟩:=h7;exact ⟨.goto l,kK,fy,a1,w1,q,h4,h5,h6,k',by rw [e1];rfl,e2⟩
   | ret=>exact ⟨.ret,kK,fy,a1,w1,q,h4,h5,h6,h7⟩
   | panic u=>exact ⟨.panic u,kK,fy,a1,w1,q,h4,h5,h6,h7⟩
 intro X base mb D β a w b k cs h1 h2 h3 mD;obtain ⟨π,F2⟩:=h0;obtain ⟨hw,hx⟩:=F2.rel h3 (jg x0);obtain ⟨e,kK,fy,a1,w1,q,h4,h5,h6,h7⟩:=key _ x0 rfl X base mb D _ a w b k cs h2 hw (mD.ext hx);exact ⟨e,kK,fy,a1,w1,q,h4,h5,hx.trans h6, .of_steps (.one stepR_loop) h7⟩
def gW (π:Nat→Nat) (σ:ai):Nat→ai→Prop
 | _,[]=>True
 | i,none :: r=>gW π σ (i+1) r
 | i,some x :: r=>bP σ (π i)=some (ef π x)∧gW π σ (i+1) r
theorem I5 {π:Nat→Nat} {σ:ai}:∀ (r:ai) (i:Nat),gW π σ i r→∀ b x,r[b]? = some (some x)→σ[π (i+b)]? = some (some (ef π x))
 | [],_,_,b,x,hx=>by simp at hx
 | none :: r,i,h,0,x,hx=>by simp at hx
 | some y :: r,i,h,0,x,hx=>by
  simp only [fT,aH] at hx;subst hx;exact kq h.1
 | none :: r,i,h,b+1,x,hx=>by
  have:=I5 r (i+1) h b x (by simpa using hx)
  rwa [show i+1+b=i+(b+1) by omega] at this
 | some y :: r,i,h,b+1,x,hx=>by
  have:=I5 r (i+1) h.2 b x (by simpa using hx)
  rwa [show i+1+b=i+(b+1) by omega] at this
def pi (l:List (Nat×Nat)) (b:Nat):Nat:=(l.lookup b).getD b
def rk (l:List (Nat×Nat)) (lo n:Nat):Bool:=((List.range lo).all fun b=>pi l b==b)&&(List.range n).all fun i=>(List.range n).all fun j=>i==j||pi l i != pi l j
def Ij (lo:Nat) (l:List (Nat×Nat)) (j6:List ah) (σ':ai) (s:St):Prop :=
 rk l lo σ'.length=true∧mr (eK (pi l) j6) s.tm∧gW (pi l) s.σ 0 σ'∧bF σ'.length j6∧bD σ'.length σ'
theorem Sk {lo:Nat} {l:List (Nat×Nat)} {j6:List ah} {σ':ai} {s:St} (h:Ij lo l j6 σ' s):Wr lo (pi l) ⟨j6,σ'⟩ s:=by
 obtain ⟨h1,h2,h3,h4,h5⟩:=h;simp only [rk,aB,a8,cj,bR,beq_iff_eq,bne_iff_ne] at h1;refine ⟨h1.1,fun b b' l1 l2 e=>(h1.2 b l1 b' l2).resolve_right (fun n=>n e),h2,fun b x hb=>?_,h4,qR h5⟩;have:=I5 σ' 0 h3 b x hb
 rwa [bq] at this
def qm {ι:Type} (P:Program) (lo:Ctx) (Q:ct→St→Prop) (k:List KI) (I : ι→List ah) (S : ι→ai) (μ : ι→Nat) (x : ι):ct→St→Prop
 | .normal,s=>∃ y l,Ij lo.n l (I y) (S y) s∧μ y < μ x
 | e,s=>aG P lo Q k e s
theorem aG.gf {ι:Type} (n:Nat) (I : ι→List ah) (S : ι→ai) (μ : ι→Nat) {c:Code} {k:List KI} {tm:List ah} {σ:ai} (x0 : ι) (l0:List (Nat×Nat)) (h0:Ij lo.n l0 (I x0) (S x0) ⟨tm,σ⟩) (jg:∀ x,lo.n≤(S x).length)
  (round:∀ x,eF P lo (qm P lo Q k I S μ x) n [.code c] .normal (I x) (S x)):aG P lo Q (.code (.loop c) :: k) .normal ⟨tm,σ⟩ :=
 iy.gf (ι:=ι) (fun x=>⟨I x,S x⟩) μ x0 ⟨_,Sk h0⟩ jg fun x=>by
  have:=A6 n _ _ _ _ (round x);refine iy.mono this fun e s q=>?_;simp only [aG] at q;cases e with
  | normal=>obtain ⟨y,l,h1,h2⟩:=q;exact ⟨y,pi l,Sk h1,h2⟩
  | exit id=>exact q
  | goto l=>exact q
  | ret=>exact q
  | panic u=>exact q
theorem Yk2 {ι:Type} {k:List KI} {I : ι→List ah} {S : ι→ai} {μ : ι→Nat} {x : ι} {s:St}:qm P lo Q k I S μ x .normal s = ∃ y l,Ij lo.n l (I y) (S y) s∧μ y < μ x:=rfl
theorem Yu5 {ι:Type} {k:List KI} {I : ι→List ah} {S : ι→ai} {μ : ι→Nat} {x : ι} {s:St} {i:Nat}:qm P lo Q k I S μ x (.exit i) s=aG P lo Q k (.exit i) s:=rfl
theorem Ysy {ι:Type} {k:List KI} {I : ι→List ah} {S : ι→ai} {μ : ι→Nat} {x : ι} {s:St} {i:Nat}:qm P lo Q k I S μ x (.goto i) s=aG P lo Q k (.goto i) s:=rfl
theorem Ymk {ι:Type} {k:List KI} {I : ι→List ah} {S : ι→ai} {μ : ι→Nat} {x : ι} {s:St} {u:Value}:qm P lo Q k I S μ x (.panic u) s=aG P lo Q k (.panic u) s:=rfl
theorem Yzl {ι:Type} {k:List KI} {I : ι→List ah} {S : ι→ai} {μ : ι→Nat} {x : ι} {s:St}:qm P lo Q k I S μ x .ret s=aG P lo Q k .ret s:=rfl
theorem Mg {π:Nat→Nat} {σ:ai} {i:Nat}:gW π σ i []=True:=rfl
theorem IZ {π:Nat→Nat} {σ r:ai} {i:Nat}:gW π σ i (none :: r)=gW π σ (i+1) r:=rfl
theorem I7 {π:Nat→Nat} {σ r:ai} {i:Nat} {x:bO}:gW π σ i (some x :: r)=(bP σ (π i)=some (ef π x)∧gW π σ (i+1) r):=rfl
theorem iz {lo:Nat} {l:List (Nat×Nat)} {j6:List ah} {σ':ai} {s:St} (h:rk l lo σ'.length=true) (h2:mr (eK (pi l) j6) s.tm∧gW (pi l) s.σ 0 σ'∧bF σ'.length j6∧bD σ'.length σ'):Ij lo l j6 σ' s:=⟨h,h2⟩
theorem Ywv {x:Nat}:pi [] x=x:=rfl
theorem Yrl {a b x:Nat} {l:List (Nat×Nat)}:pi ((a,b) :: l) x=if x=a then b else pi l x:=by
 simp only [pi,List.lookup_cons];by_cases h:x=a
 ·subst h;simp
 ·have:(x==a)=false:=by simp [h]
  simp [this,h]
theorem Ba {π:Nat→Nat} {a:ah} (h:a.low 0):ek π a=a:=G2 π 0 (fun b hb=>absurd hb (by omega)) a h
theorem cK {π:Nat→Nat} {l:List ah} (h:bF 0 l):eK π l=l:=ry π 0 (fun b hb=>absurd hb (by omega)) l h
attribute [go_sem] Ywv Yrl
attribute [go_sem] Yk2 Yu5 Ysy Yzl Ymk Mg IZ I7 ek eK ef
end
end Go.dm
