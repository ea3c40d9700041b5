/- Part 33 of my own framework and of the walks of functions: AcsH. -/
import Derived.Test.YtpgnahcljlclcaaGreatOwn32
set_option linter.unusedVariables false
set_option linter.unusedSectionVars false
set_option linter.unusedSimpArgs false
namespace Go.Abs
open Go
mutual
def ren (π:Nat→Nat):AVal→AVal
 | .ptr b o=>.ptr (π b) o
 | .rp b i f=>.rp (π b) i f
 | .os b o n s=>.os (π b) o n s
 | .oc b o n c s=>.oc (π b) o n c s
 | .yld b=>.yld (π b)
 | .map b=>.map (π b)
 | .it b=>.it (π b)
 | .pp cs=>.pp (renL π cs)
 | .ps s es=>.ps s (renL π es)
 | .fn f a c=>.fn f (renL π a) (renL π c)
 | .pm ks vs=>.pm (renL π ks) (renL π vs)
 | .agg cs=>.agg (renL π cs)
 | .tup cs=>.tup (renL π cs)
 | .iface t v=>.iface t (ren π v)
 | a=>a
def renL (π:Nat→Nat):List AVal→List AVal
 | []=>[]
 | a :: as_=>ren π a :: renL π as_
end
theorem Zag (π:Nat→Nat):∀ l:List AVal,(renL π l).length=l.length
 | []=>rfl
 | a :: as_=>by simp [renL,Zag π as_]
theorem Zai (π:Nat→Nat):∀ (l:List AVal) (k:Nat),(renL π l).getD k .undef=ren π (l.getD k .undef)
 | [],k=>by simp [renL,ren]
 | a :: as_,0=>by simp [renL]
 | a :: as_,k+1=>by simp only [renL,List.getD_cons_succ];exact Zai π as_ k
theorem Zd2 (π:Nat→Nat) (a:AVal):(ren π a).cells=renL π a.cells:=by cases a<;>simp [ren,renL,AVal.cells]
mutual
theorem Zov (π:Nat→Nat) (n:Nat) (h:∀ b,b<n→π b=b):∀ a:AVal,a.low n→ren π a=a
 | .ptr b _,k=>by simp only [ren];rw [h b k]
 | .rp b _ _,k=>by simp only [ren];rw [h b k]
 | .os b _ _ _,k=>by simp only [ren];rw [h b k]
 | .oc b _ _ _ _,k=>by simp only [ren];rw [h b k]
 | .anyb,_=>rfl
 | .yld b,k=>by simp only [ren];rw [h b k]
 | .map b,k=>by simp only [ren];rw [h b k]
 | .it b,k=>by simp only [ren];rw [h b k]
 | .pp cs,k=>by simp only [ren];rw [Zbj π n h cs k]
 | .ps _ es,k=>by simp only [ren];rw [Zbj π n h es k]
 | .fn _ a c,k=>by simp only [ren];rw [Zbj π n h a k.1,Zbj π n h c k.2]
 | .pm ks vs,k=>by simp only [ren];rw [Zbj π n h ks k.1,Zbj π n h vs k.2]
 | .agg cs,k=>by simp only [ren];rw [Zbj π n h cs k]
 | .tup cs,k=>by simp only [ren];rw [Zbj π n h cs k]
 | .iface _ v,k=>by simp only [ren];rw [Zov π n h v k]
 | .undef,_=>rfl
 | .bool _,_=>rfl
 | .int _ _,_=>rfl
 | .str _,_=>rfl
 | .nilptr,_=>rfl
 | .nils,_=>rfl
 | .nilfn,_=>rfl
 | .nilmap,_=>rfl
 | .nilif,_=>rfl
 | .opq _,_=>rfl
theorem Zbj (π:Nat→Nat) (n:Nat) (h:∀ b,b<n→π b=b):∀ l:List AVal,lowL n l→renL π l=l
 | [],_=>rfl
 | a :: as_,k=>by simp only [renL];rw [Zov π n h a k.1,Zbj π n h as_ k.2]
end
def renB (π:Nat→Nat):Blk→Blk
 | .var cs=>.var (renL π cs)
 | .row es fz=>.row (renL π es) fz
 | .map ks vs f=>.map (renL π ks) (renL π vs) f
 | .iter s p=>.iter s p
 | .mit ks vs seen=>.mit (renL π ks) (renL π vs) seen
 | .loop r=>.loop { r with tm:=renL π r.tm }
def envR (β:Env) (π:Nat→Nat) (n:Nat):Env:=fun b=>if b<n then β (π b) else none
theorem Rep.ren {w:World} {M:Nat→Nat→Prop} {β:Env} {π:Nat→Nat} {n:Nat} {v:Value} {a0:AVal} (h:Rep w M β v a0):∀ a,a0=ren π a→a.low n→Rep w M (envR β π n) v a:=by
 have he:∀ b L,b<n→β (π b)=some L→envR β π n b=some L:=fun b L hb h=>by simp [envR,hb,h]
 induction h with
 | undef v=>intro a e _;cases a<;>simp only [Abs.ren,reduceCtorEq] at e;exact .undef v
 | bool b=>intro a e _;cases a<;>simp only [Abs.ren,reduceCtorEq,AVal.bool.injEq] at e;subst e;exact .bool _
 | int k i=>intro a e _;cases a<;>simp only [Abs.ren,reduceCtorEq,AVal.int.injEq] at e;obtain ⟨rfl,rfl⟩:=e;exact .int _ _
 | str s=>intro a e _;cases a<;>simp only [Abs.ren,reduceCtorEq,AVal.str.injEq] at e;subst e;exact .str _
 | nilptr=>intro a e _;cases a<;>simp only [Abs.ren,reduceCtorEq] at e;exact .nilptr
 | ptr h=>intro a e hl;cases a<;>simp only [Abs.ren,reduceCtorEq,AVal.ptr.injEq] at e;obtain ⟨rfl,rfl⟩:=e;exact .ptr (he _ _ hl h)
 | rp h=>intro a e hl;cases a<;>simp only [Abs.ren,reduceCtorEq,AVal.rp.injEq] at e;obtain ⟨rfl,rfl,rfl⟩:=e;exact .rp (he _ _ hl h)
 | pp cv hc _ ih =>
  intro a e hl;cases a<;>simp only [Abs.ren,reduceCtorEq,AVal.pp.injEq] at e
  subst e
  exact .pp cv (fun k hk=>hc k (by rw [Zag];exact hk)) fun k hk=>ih k (by rw [Zag];exact hk) _ (Zai _ _ _) (Zaa hl k)
 | nils ad=>intro a e _;cases a<;>simp only [Abs.ren,reduceCtorEq] at e;exact .nils _
 | ps cv hcap hsz hc ha _ ih =>
  intro a e hl;cases a<;>simp only [Abs.ren,reduceCtorEq,AVal.ps.injEq] at e
  obtain ⟨rfl,rfl⟩:=e
  rw [Zag] at hcap hsz hc ha ih ⊢
  exact .ps cv hcap (fun i hi=>by have:=hsz i hi;rw [Zai,Zd2,Zag] at this;exact this) hc ha fun i j hi hj=>ih i j hi hj _ (by rw [Zai,Zd2,Zai]) (Zaa (Ze5 (Zaa hl i)) j)
 | os0 ad h=>intro a e hl;cases a<;>simp only [Abs.ren,reduceCtorEq,AVal.os.injEq] at e;obtain ⟨rfl,rfl,rfl,rfl⟩:=e;exact .os0 _ (he _ _ hl h)
 | os h h1 h2=>intro a e hl;cases a<;>simp only [Abs.ren,reduceCtorEq,AVal.os.injEq] at e;obtain ⟨rfl,rfl,rfl,rfl⟩:=e;exact .os (he _ _ hl h) h1 h2
 | anyb b=>intro a e _;cases a<;>simp only [Abs.ren,reduceCtorEq] at e;exact .anyb b
 | oc0 ad h=>intro a e hl;cases a<;>simp only [Abs.ren,reduceCtorEq,AVal.oc.injEq] at e;obtain ⟨rfl,rfl,rfl,rfl,rfl⟩:=e;exact .oc0 _ (he _ _ hl h)
 | oc h h1 h2=>intro a e hl;cases a<;>simp only [Abs.ren,reduceCtorEq,AVal.oc.injEq] at e;obtain ⟨rfl,rfl,rfl,rfl,rfl⟩:=e;exact .oc (he _ _ hl h) h1 h2
 | nilfn=>intro a e _;cases a<;>simp only [Abs.ren,reduceCtorEq] at e;exact .nilfn
 | fn h1 h2 _ _ ih1 ih2 =>
  intro a e hl;cases a<;>simp only [Abs.ren,reduceCtorEq,AVal.fn.injEq] at e
  obtain ⟨rfl,rfl,rfl⟩:=e
  rw [Zag] at h1 h2 ih1 ih2
  exact .fn h1 h2 (fun k hk=>ih1 k hk _ (Zai _ _ _) (Zaa hl.1 k)) (fun k hk=>ih2 k hk _ (Zai _ _ _) (Zaa hl.2 k))
 | yld h=>intro a e hl;cases a<;>simp only [Abs.ren,reduceCtorEq,AVal.yld.injEq] at e;subst e;exact .yld (he _ _ hl h)
 | nilmap=>intro a e _;cases a<;>simp only [Abs.ren,reduceCtorEq] at e;exact .nilmap
 | map h=>intro a e hl;cases a<;>simp only [Abs.ren,reduceCtorEq,AVal.map.injEq] at e;subst e;exact .map (he _ _ hl h)
 | pm hg hm h1 h2 _ _ hb ih1 ih2 =>
  intro a e hl;cases a<;>simp only [Abs.ren,reduceCtorEq,AVal.pm.injEq] at e
  obtain ⟨rfl,rfl⟩:=e
  rw [Zag] at h1 h2 ih1 ih2
  rw [Zag] at h2
  exact .pm hg hm h1 h2 (fun k hk=>ih1 k hk _ (Zai _ _ _) (Zaa hl.1 k)) (fun k hk=>ih2 k hk _ (Zai _ _ _) (Zaa hl.2 k)) hb
 | it h=>intro a e hl;cases a<;>simp only [Abs.ren,reduceCtorEq,AVal.it.injEq] at e;subst e;exact .it (he _ _ hl h)
 | agg h _ ih =>
  intro a e hl;cases a<;>simp only [Abs.ren,reduceCtorEq,AVal.agg.injEq] at e
  subst e
  rw [Zag] at h ih
  exact .agg h fun k hk=>ih k hk _ (Zai _ _ _) (Zaa hl k)
 | tup h _ ih =>
  intro a e hl;cases a<;>simp only [Abs.ren,reduceCtorEq,AVal.tup.injEq] at e
  subst e
  rw [Zag] at h ih
  exact .tup h fun k hk=>ih k hk _ (Zai _ _ _) (Zaa hl k)
 | nilif=>intro a e _;cases a<;>simp only [Abs.ren,reduceCtorEq] at e;exact .nilif
 | iface h ih=>intro a e hl;cases a<;>simp only [Abs.ren,reduceCtorEq,AVal.iface.injEq] at e;obtain ⟨rfl,rfl⟩:=e;exact .iface (ih _ rfl hl)
 | opq v=>intro a e _;cases a<;>simp only [Abs.ren,reduceCtorEq,AVal.opq.injEq] at e;subst e;exact .opq _
theorem BlkOk.ren {w:World} {M:Nat→Nat→Prop} {β:Env} {π:Nat→Nat} {n:Nat} {L:Loc} {blk:Blk} (h:BlkOk w M β L (renB π blk)) (hl:blk.low n):BlkOk w M (envR β π n) L blk:=by
 cases blk with
 | var cs =>
  obtain ⟨c,e,h1,h0,h2,h3⟩:=h
  rw [Zag] at h2 h3
  exact ⟨c,e,h1,h0,h2,fun k hk=>(h3 k hk).ren _ (Zai _ _ _) (Zaa hl k)⟩
 | row es fz =>
  obtain ⟨c,e,h1,h2,h3,h4,h5⟩:=h
  rw [Zag] at h3 h4 h5
  exact ⟨c,e,h1,h2,h3,fun i hi=>by have:=h4 i hi;rw [Zai,Zd2,Zag] at this;exact this,fun i j hi hj=>(h5 i j hi hj).ren _ (by rw [Zai,Zd2,Zai]) (Zaa (Ze5 (Zaa hl i)) j)⟩
 | map ks vs f =>
  obtain ⟨es,clk,h1,h2,h3,h4,h5,h6⟩:=h
  rw [Zag] at h2 h3 h4 h5
  rw [Zag] at h3
  exact ⟨es,clk,h1,h2,h3,fun k hk=>(h4 k hk).ren _ (Zai _ _ _) (Zaa hl.1 k),fun k hk=>(h5 k hk).ren _ (Zai _ _ _) (Zaa hl.2 k),h6⟩
 | iter s p=>exact h
 | mit ks vs seen =>
  obtain ⟨m,es,clk,h1,h2,h3,h4,h5,h6,h7,h8,h9⟩:=h
  rw [Zag] at h4 h5 h6 h7 h9
  rw [Zag] at h5
  exact ⟨m,es,clk,h1,h2,h3,h4,h5,fun k hk=>(h6 k hk).ren _ (Zai _ _ _) (Zaa hl.1 k),fun k hk=>(h7 k hk).ren _ (Zai _ _ _) (Zaa hl.2 k),h8,h9⟩
 | loop r =>
  obtain ⟨t,d,f,h1,h2,h3⟩:=h
  simp only [Zag] at h2 h3
  exact ⟨t,d,f,h1,h2,fun k hk=>(h3 k hk).ren _ (Zai _ _ _) (Zaa hl k)⟩
theorem Zgq {π:Nat→Nat} {L:Loc} {blk:Blk} {o:Nat}:(renB π blk).mut L o=blk.mut L o:=by cases blk<;>rfl
structure Wr (lo:Nat) (π:Nat→Nat) (st' st:St):Prop where
 fix:∀ b,b<lo→π b=b
 inj:∀ b b',b<st'.σ.length→b'<st'.σ.length→π b = π b'→b=b'
 tm:leTm (renL π st'.tm) st.tm
 s:∀ (b:Nat) x,st'.σ[b]? = some (some x)→st.σ[π b]? = some (some (renB π x))
 lt:lowL st'.σ.length st'.tm
 ls:lowS st'.σ.length st'.σ
section
variable {P:Program} {X:Nat→Nat→Prop} {base mb lo:Nat} {D:List Deferred} {st st':St} {β:Env} {a:Act} {w:World} {π:Nat→Nat}
theorem Wr.rel (h:Wr lo π st' st) (hr:Rel X base mb D st β a w) (hlo:lo≤st'.σ.length):Rel X base mb D st' (envR β π st'.σ.length) a w∧Ext lo st.σ β w st'.σ (envR β π st'.σ.length) w:=by
 have hM:∀ g o,Mof st'.σ (envR β π st'.σ.length) g o→Mof st.σ β g o:=by
  rintro g o ⟨b,blk,L,m1,m2,m3,m4⟩
  have hb:=(List.getElem?_eq_some_iff.1 m1).1
  simp only [envR,hb,if_true] at m2
  exact ⟨π b,_,L,h.s b blk m1,m2,m3,by rw [Zgq];exact m4⟩
 have hk:Keeps w (MT X st.σ β) w (MT X st'.σ (envR β π st'.σ.length)):=Keeps.anti fun g o hm=>hm.imp id (hM g o)
 obtain ⟨t1,t2⟩:=Zfm h.tm
 rw [Zag] at t1 t2
 refine ⟨⟨⟨fun b hb=>by simp [envR];omega,fun b blk hb=>?_,fun b b' x y L L' e1 e2 e3 e4 e5=>?_,hr.s.size,hr.s.xlt,hr.s.gl⟩,by rw [hr.n,t1],fun k hk'=>?_,hr.d⟩,rfl,rfl,rfl,Nat.le_refl _,fun _ _ _ hc _=>hc,fun _ _ _=>rfl,fun g o hm=>.inl (hM g o hm),fun b hb=>?_⟩
 ·obtain ⟨L,q1,q2,q3,q4⟩:=hr.s.blk _ _ (h.s b blk hb)
  have hlt:=(List.getElem?_eq_some_iff.1 hb).1
  exact ⟨L,by simp [envR,hlt,q1],q2,q3,(q4.mono hk (fun _ _ h=>h) rfl).ren (h.ls b blk hb)⟩
 ·have l1:=(List.getElem?_eq_some_iff.1 e1).1
  have l2:=(List.getElem?_eq_some_iff.1 e2).1
  simp only [envR,l1,l2,if_true] at e3 e4
  exact h.inj b b' l1 l2 (hr.s.inj _ _ _ _ L L' (h.s b x e1) (h.s b' y e2) e3 e4 e5)
 ·rcases t2 k hk' with e | e
  ·rw [Zai] at e
   have:st'.tm.getD k .undef = .undef:=by
    revert e;cases st'.tm.getD k .undef<;>simp [Abs.ren]
   rw [this];exact .undef _
  ·have:=(hr.t k (by omega)).mono hk (fun _ _ h=>h)
   exact this.ren _ (by rw [← e,Zai]) (Zaa h.lt k)
 ·have:b<st'.σ.length:=by omega
  simp [envR,this,h.fix b hb]
end
section
variable {P:Program} {lo:Ctx} {st:St} {Q:AExit→St→Prop}
theorem EvS.loopR {ι:Type} (I : ι→St) (μ : ι→Nat) {c:Code} (x0 : ι) (h0:∃ π,Wr lo.n π (I x0) st) (hlo:∀ x,lo.n≤(I x).σ.length)
  (round:∀ x,EvS P lo c (I x) (AExit.then (fun s=>∃ y π,Wr lo.n π (I y) s∧μ y < μ x) Q)):EvS P lo (.loop c) st Q:=by
 have key:∀ n x,μ x=n→∀ (X:Nat→Nat→Prop) (base mb:Nat) (D:List Deferred) (β:Env) (a:Act) (w:World) (b:Frame) (k:List Item) (cs:List Frame),mb≤w.heap.size→Rel X base mb D (I x) β a w→lo.ok β b →
   ∃ e st' β' a' w',Q e st'∧lo.n≤st'.σ.length∧Rel X base mb D st' β' a' w'∧Ext lo.n (I x).σ β w st'.σ β' w'∧Arr P (lone (b.atR a (.code c :: .inLoop c :: k)) cs w) b k cs e a' w':=by
  intro n
  induction n using Nat.strongRecOn with
  | _ n ih =>
   intro x hn X base mb D β a w b k cs h2 h3 hro
   obtain ⟨e,st1,β1,a1,w1,q,h4,h5,h6,h7⟩:=round x X base mb D β a w b (.inLoop c :: k) cs (hlo x) h2 h3 hro
   cases e with
   | normal =>
    obtain ⟨y,π,hy,hμ⟩:=q
    obtain ⟨hw,hx⟩:=hy.rel h5 (hlo y)
    obtain ⟨e2,st2,β2,a2,w2,q2,g4,g5,g6,g7⟩:=ih (μ y) (hn ▸ hμ) y rfl X base mb D _ a1 w1 b k cs (Nat.le_trans h2 h6.size) hw ((hro.ext h6).ext hx)
    exact ⟨e2,st2,β2,a2,w2,q2,g4,g5,(h6.trans hx).trans g6, .of_steps (Steps.trans h7 (.one stepR_inLoop)) g7⟩
   | exit id=>obtain ⟨k',e1,e2⟩:=h7;exact ⟨.exit id,st1,β1,a1,w1,q,h4,h5,h6,k',by rw [e1];rfl,e2⟩
   | goto l=>obtain ⟨k',e1,e2⟩:=h7;exact ⟨.goto l,st1,β1,a1,w1,q,h4,h5,h6,k',by rw [e1];rfl,e2⟩
   | ret=>exact ⟨.ret,st1,β1,a1,w1,q,h4,h5,h6,h7⟩
   | panic u=>exact ⟨.panic u,st1,β1,a1,w1,q,h4,h5,h6,h7⟩
 intro X base mb D β a w b k cs h1 h2 h3 hro
 obtain ⟨π,hπ⟩:=h0
 obtain ⟨hw,hx⟩:=hπ.rel h3 (hlo x0)
 obtain ⟨e,st1,β1,a1,w1,q,h4,h5,h6,h7⟩:=key _ x0 rfl X base mb D _ a w b k cs h2 hw (hro.ext hx)
 exact ⟨e,st1,β1,a1,w1,q,h4,h5,hx.trans h6, .of_steps (.one stepR_loop) h7⟩
def leSoR (π:Nat→Nat) (σ:Store):Nat→Store→Prop
 | _,[]=>True
 | i,none :: r=>leSoR π σ (i+1) r
 | i,some x :: r=>getS σ (π i)=some (renB π x)∧leSoR π σ (i+1) r
theorem Zg4 {π:Nat→Nat} {σ:Store}:∀ (r:Store) (i:Nat),leSoR π σ i r→∀ b x,r[b]? = some (some x)→σ[π (i+b)]? = some (some (renB π x))
 | [],_,_,b,x,hx=>by simp at hx
 | none :: r,i,h,0,x,hx=>by simp at hx
 | some y :: r,i,h,0,x,hx=>by
  simp only [List.getElem?_cons_zero,Option.some.injEq] at hx
  subst hx
  exact Zae h.1
 | none :: r,i,h,b+1,x,hx=>by
  have:=Zg4 r (i+1) h b x (by simpa using hx)
  rwa [show i+1+b=i+(b+1) by omega] at this
 | some y :: r,i,h,b+1,x,hx=>by
  have:=Zg4 r (i+1) h.2 b x (by simpa using hx)
  rwa [show i+1+b=i+(b+1) by omega] at this
def pi (l:List (Nat×Nat)) (b:Nat):Nat:=(l.lookup b).getD b
def piOk (l:List (Nat×Nat)) (lo n:Nat):Bool:=((List.range lo).all fun b=>pi l b==b)&&(List.range n).all fun i=>(List.range n).all fun j=>i==j||pi l i != pi l j
def leR (lo:Nat) (l:List (Nat×Nat)) (tm':List AVal) (σ':Store) (s:St):Prop :=
 piOk l lo σ'.length=true∧leTm (renL (pi l) tm') s.tm∧leSoR (pi l) s.σ 0 σ'∧lowL σ'.length tm'∧lowSo σ'.length σ'
theorem Yin {lo:Nat} {l:List (Nat×Nat)} {tm':List AVal} {σ':Store} {s:St} (h:leR lo l tm' σ' s):Wr lo (pi l) ⟨tm',σ'⟩ s:=by
 obtain ⟨h1,h2,h3,h4,h5⟩:=h
 simp only [piOk,Bool.and_eq_true,List.all_eq_true,List.mem_range,Bool.or_eq_true,beq_iff_eq,bne_iff_ne] at h1
 refine ⟨h1.1,fun b b' l1 l2 e=>(h1.2 b l1 b' l2).resolve_right (fun n=>n e),h2,fun b x hb=>?_,h4,Zat h5⟩
 have:=Zg4 σ' 0 h3 b x hb
 rwa [Nat.zero_add] at this
def loopRQ {ι:Type} (P:Program) (lo:Ctx) (Q:AExit→St→Prop) (k:List KI) (I : ι→List AVal) (S : ι→Store) (μ : ι→Nat) (x : ι):AExit→St→Prop
 | .normal,s=>∃ y l,leR lo.n l (I y) (S y) s∧μ y < μ x
 | e,s=>EvK P lo Q k e s
theorem EvK.loopR {ι:Type} (n:Nat) (I : ι→List AVal) (S : ι→Store) (μ : ι→Nat) {c:Code} {k:List KI} {tm:List AVal} {σ:Store} (x0 : ι) (l0:List (Nat×Nat)) (h0:leR lo.n l0 (I x0) (S x0) ⟨tm,σ⟩) (hlo:∀ x,lo.n≤(S x).length)
  (round:∀ x,vcK P lo (loopRQ P lo Q k I S μ x) n [.code c] .normal (I x) (S x)):EvK P lo Q (.code (.loop c) :: k) .normal ⟨tm,σ⟩ :=
 EvS.loopR (ι:=ι) (fun x=>⟨I x,S x⟩) μ x0 ⟨_,Yin h0⟩ hlo fun x=>by
  have:=Zdl n _ _ _ _ (round x)
  refine EvS.mono this fun e s q=>?_
  simp only [EvK] at q
  cases e with
  | normal=>obtain ⟨y,l,h1,h2⟩:=q;exact ⟨y,pi l,Yin h1,h2⟩
  | exit id=>exact q
  | goto l=>exact q
  | ret=>exact q
  | panic u=>exact q
theorem Yae {ι:Type} {k:List KI} {I : ι→List AVal} {S : ι→Store} {μ : ι→Nat} {x : ι} {s:St}:loopRQ P lo Q k I S μ x .normal s = ∃ y l,leR lo.n l (I y) (S y) s∧μ y < μ x:=rfl
theorem Yk3 {ι:Type} {k:List KI} {I : ι→List AVal} {S : ι→Store} {μ : ι→Nat} {x : ι} {s:St} {i:Nat}:loopRQ P lo Q k I S μ x (.exit i) s=EvK P lo Q k (.exit i) s:=rfl
theorem Ylu {ι:Type} {k:List KI} {I : ι→List AVal} {S : ι→Store} {μ : ι→Nat} {x : ι} {s:St} {i:Nat}:loopRQ P lo Q k I S μ x (.goto i) s=EvK P lo Q k (.goto i) s:=rfl
theorem Ye2 {ι:Type} {k:List KI} {I : ι→List AVal} {S : ι→Store} {μ : ι→Nat} {x : ι} {s:St} {u:Value}:loopRQ P lo Q k I S μ x (.panic u) s=EvK P lo Q k (.panic u) s:=rfl
theorem Yrp {ι:Type} {k:List KI} {I : ι→List AVal} {S : ι→Store} {μ : ι→Nat} {x : ι} {s:St}:loopRQ P lo Q k I S μ x .ret s=EvK P lo Q k .ret s:=rfl
theorem Zk1 {π:Nat→Nat} {σ:Store} {i:Nat}:leSoR π σ i []=True:=rfl
theorem Zg3 {π:Nat→Nat} {σ r:Store} {i:Nat}:leSoR π σ i (none :: r)=leSoR π σ (i+1) r:=rfl
theorem Zfw {π:Nat→Nat} {σ r:Store} {i:Nat} {x:Blk}:leSoR π σ i (some x :: r)=(getS σ (π i)=some (renB π x)∧leSoR π σ (i+1) r):=rfl
theorem Zb0 {lo:Nat} {l:List (Nat×Nat)} {tm':List AVal} {σ':Store} {s:St} (h:piOk l lo σ'.length=true) (h2:leTm (renL (pi l) tm') s.tm∧leSoR (pi l) s.σ 0 σ'∧lowL σ'.length tm'∧lowSo σ'.length σ'):leR lo l tm' σ' s:=⟨h,h2⟩
theorem Yoy {x:Nat}:pi [] x=x:=rfl
theorem Ymd {a b x:Nat} {l:List (Nat×Nat)}:pi ((a,b) :: l) x=if x=a then b else pi l x:=by
 simp only [pi,List.lookup_cons]
 by_cases h:x=a
 ·subst h;simp
 ·have:(x==a)=false:=by simp [h]
  simp [this,h]
theorem Ziw {π:Nat→Nat} {a:AVal} (h:a.low 0):ren π a=a:=Zov π 0 (fun b hb=>absurd hb (by omega)) a h
theorem Za2 {π:Nat→Nat} {l:List AVal} (h:lowL 0 l):renL π l=l:=Zbj π 0 (fun b hb=>absurd hb (by omega)) l h
attribute [go_sem] Yoy Ymd
attribute [go_sem] Yae Yk3 Ylu Yrp Ye2 Zk1 Zg3 Zfw ren renL renB
end
end Go.Abs
