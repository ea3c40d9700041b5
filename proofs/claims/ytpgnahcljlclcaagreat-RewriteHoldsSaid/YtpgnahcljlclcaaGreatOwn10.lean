/- Part 10 of my own framework and of the walks of functions: AbsL. -/
import Derived.Test.YtpgnahcljlclcaaGreatOwn9
set_option linter.unusedVariables false
set_option linter.unusedSectionVars false
set_option linter.unusedSimpArgs false
namespace Go.Abs
open Go
mutual
def AVal.low (n:Nat):AVal→Prop
 | .ptr b _=>b<n
 | .rp b _ _=>b<n
 | .os b _ _ _=>b<n
 | .oc b _ _ _ _=>b<n
 | .yld b=>b<n
 | .map b=>b<n
 | .it b=>b<n
 | .pp cs=>lowL n cs
 | .ps _ es=>lowL n es
 | .fn _ a c=>lowL n a∧lowL n c
 | .pm ks vs=>lowL n ks∧lowL n vs
 | .agg cs=>lowL n cs
 | .tup cs=>lowL n cs
 | .iface _ v=>v.low n
 | _=>True
def lowL (n:Nat):List AVal→Prop
 | []=>True
 | a :: as_=>a.low n∧lowL n as_
end
theorem Zaa {n:Nat}:∀ {l:List AVal},lowL n l→∀ k,(l.getD k .undef).low n
 | [],_,k=>by simp [AVal.low]
 | a :: as_,h,0=>by simpa [lowL] using h.1
 | a :: as_,h,k+1=>by rw [List.getD_cons_succ];exact Zaa h.2 k
theorem Ze5 {n:Nat} {a:AVal} (h:a.low n):lowL n a.cells:=by
 cases a<;>simp only [AVal.cells,lowL,and_true]<;>first | exact h | (simpa [AVal.low] using h)
mutual
theorem Zau {n m:Nat} (h:n≤m):∀ {a:AVal},a.low n→a.low m
 | .ptr _ _,k=>Nat.lt_of_lt_of_le k h
 | .rp _ _ _,k=>Nat.lt_of_lt_of_le k h
 | .os _ _ _ _,k=>Nat.lt_of_lt_of_le k h
 | .oc _ _ _ _ _,k=>Nat.lt_of_lt_of_le k h
 | .anyb,_=>trivial
 | .yld _,k=>Nat.lt_of_lt_of_le k h
 | .map _,k=>Nat.lt_of_lt_of_le k h
 | .it _,k=>Nat.lt_of_lt_of_le k h
 | .pp _,k=>Zac h k
 | .ps _ _,k=>Zac h k
 | .fn _ _ _,k=>⟨Zac h k.1,Zac h k.2⟩
 | .pm _ _,k=>⟨Zac h k.1,Zac h k.2⟩
 | .agg _,k=>Zac h k
 | .tup _,k=>Zac h k
 | .iface _ v,k=>Zau (a:=v) h k
 | .undef,_=>trivial
 | .bool _,_=>trivial
 | .int _ _,_=>trivial
 | .str _,_=>trivial
 | .nilptr,_=>trivial
 | .nils,_=>trivial
 | .nilfn,_=>trivial
 | .nilmap,_=>trivial
 | .nilif,_=>trivial
 | .opq _,_=>trivial
theorem Zac {n m:Nat} (h:n≤m):∀ {l:List AVal},lowL n l→lowL m l
 | [],_=>trivial
 | _ :: _,k=>⟨Zau h k.1,Zac h k.2⟩
end
def Env.cut (β:Env) (n:Nat):Env:=fun b=>if b<n then β b else none
theorem Env.cut_lt {β:Env} {n b:Nat} (h:b<n) : β.cut n b = β b:=by simp [Env.cut,h]
theorem Rep.low {w:World} {M:Nat→Nat→Prop} {β β':Env} {n:Nat} (hβ:∀ b,b<n→β' b = β b) {v:Value} {a:AVal} (h:Rep w M β v a) (hl:a.low n):Rep w M β' v a:=by
 induction h with
 | undef v=>exact .undef v
 | bool b=>exact .bool b
 | int k n=>exact .int k n
 | str s=>exact .str s
 | nilptr=>exact .nilptr
 | ptr h=>exact .ptr ((hβ _ hl).trans h)
 | rp h=>exact .rp ((hβ _ hl).trans h)
 | pp cv hc _ ih=>exact .pp cv hc fun k hk=>ih k hk (Zaa hl k)
 | nils a=>exact .nils a
 | ps cv hcap hsz hc ha _ ih=>exact .ps cv hcap hsz hc ha fun i j hi hj=>ih i j hi hj (Zaa (Ze5 (Zaa hl i)) j)
 | os0 a h=>exact .os0 a ((hβ _ hl).trans h)
 | os h h1 h2=>exact .os ((hβ _ hl).trans h) h1 h2
 | anyb b=>exact .anyb b
 | oc0 a h=>exact .oc0 a ((hβ _ hl).trans h)
 | oc h h1 h2=>exact .oc ((hβ _ hl).trans h) h1 h2
 | nilfn=>exact .nilfn
 | fn h1 h2 _ _ ih1 ih2=>exact .fn h1 h2 (fun k hk=>ih1 k hk (Zaa hl.1 k)) (fun k hk=>ih2 k hk (Zaa hl.2 k))
 | yld h=>exact .yld ((hβ _ hl).trans h)
 | nilmap=>exact .nilmap
 | map h=>exact .map ((hβ _ hl).trans h)
 | pm hg hm h1 h2 _ _ hb ih1 ih2=>exact .pm hg hm h1 h2 (fun k hk=>ih1 k hk (Zaa hl.1 k)) (fun k hk=>ih2 k hk (Zaa hl.2 k)) hb
 | it h=>exact .it ((hβ _ hl).trans h)
 | agg h _ ih=>exact .agg h fun k hk=>ih k hk (Zaa hl k)
 | tup h _ ih=>exact .tup h fun k hk=>ih k hk (Zaa hl k)
 | nilif=>exact .nilif
 | iface _ ih=>exact .iface (ih hl)
 | opq v=>exact .opq v
def Blk.low (n:Nat):Blk→Prop
 | .var cs=>lowL n cs
 | .row es _=>lowL n es
 | .map ks vs _=>lowL n ks∧lowL n vs
 | .iter _ _=>True
 | .mit ks vs _=>lowL n ks∧lowL n vs
 | .loop r=>lowL n r.tm
theorem BlkOk.low {w:World} {M:Nat→Nat→Prop} {β β':Env} {n:Nat} (hβ:∀ b,b<n→β' b = β b) {L:Loc} {blk:Blk} (h:BlkOk w M β L blk) (hl:blk.low n):BlkOk w M β' L blk:=by
 cases blk with
 | var cs=>obtain ⟨c,e,h1,h0,h2,h3⟩:=h;exact ⟨c,e,h1,h0,h2,fun k hk'=>(h3 k hk').low hβ (Zaa hl k)⟩
 | row es fz=>obtain ⟨c,e,h1,h2,h3,h4,h5⟩:=h;exact ⟨c,e,h1,h2,h3,h4,fun i j hi hj=>(h5 i j hi hj).low hβ (Zaa (Ze5 (Zaa hl i)) j)⟩
 | map ks vs fz=>obtain ⟨es,clk,h1,h2,h3,h4,h5,h6⟩:=h;exact ⟨es,clk,h1,h2,h3,fun k hk'=>(h4 k hk').low hβ (Zaa hl.1 k),fun k hk'=>(h5 k hk').low hβ (Zaa hl.2 k),h6⟩
 | iter s pos=>exact h
 | mit ks vs seen=>obtain ⟨m,es,clk,h1,h2,h3,h4,h5,h6,h7,h8⟩:=h;exact ⟨m,es,clk,h1,h2,h3,h4,h5,fun k hk'=>(h6 k hk').low hβ (Zaa hl.1 k),fun k hk'=>(h7 k hk').low hβ (Zaa hl.2 k),h8⟩
 | loop r=>obtain ⟨t,d,f,h1,h2,h3⟩:=h;exact ⟨t,d,f,h1,h2,fun k hk'=>(h3 k hk').low hβ (Zaa hl k)⟩
def leS (σ' σ:Store):Prop:=∀ (b:Nat) (x:Blk),σ'[b]? = some (some x)→σ[b]? = some (some x)
def lowS (n:Nat) (σ:Store):Prop:=∀ (b:Nat) (x:Blk),σ[b]? = some (some x)→x.low n
theorem Mof.anti {σ σ':Store} {β β':Env} {n:Nat} (h1:leS σ' σ) (h2 : σ'.length≤n) (hβ:∀ b,b<n→β' b = β b) {g o:Nat} (h:Mof σ' β' g o):Mof σ β g o:=by
 obtain ⟨b,blk,L,h3,h4,h5,h6⟩:=h
 have hb:b<n:=Nat.lt_of_lt_of_le (List.getElem?_eq_some_iff.1 h3).1 h2
 exact ⟨b,blk,L,h1 b blk h3,(hβ b hb).symm.trans h4,h5,h6⟩
section
variable {P:Program} {X:Nat→Nat→Prop} {base:Nat} {σ σ':Store} {β:Env} {w:World} {n:Nat}
theorem RelS.drop (hr:RelS X base σ β w) (h1:leS σ' σ) (h2 : σ'.length=n) (h3:lowS n σ'):RelS X base σ' (β.cut n) w:=by
 have hβ:∀ b,b<n→β.cut n b = β b:=fun b hb=>Env.cut_lt hb
 have hk:Keeps w (MT X σ β) w (MT X σ' (β.cut n)):=Keeps.anti fun g o h=>h.imp id fun hm=>hm.anti h1 (by omega) hβ
 refine ⟨fun b hb=>by simp [Env.cut];omega,fun b blk hb=>?_,fun b b' blk blk' L L' e1 e2 e3 e4 hg=>?_,hr.size,hr.xlt,hr.gl⟩
 ·have hbn:b<n:=by have:=(List.getElem?_eq_some_iff.1 hb).1;omega
  obtain ⟨L,q1,q2,q3,q4⟩:=hr.blk b blk (h1 b blk hb)
  exact ⟨L,(hβ b hbn).trans q1,q2,q3,(q4.mono hk (fun _ _ h=>h) rfl).low hβ (h3 b blk hb)⟩
 ·have hbn:b<n:=by have:=(List.getElem?_eq_some_iff.1 e1).1;omega
  have hbn':b'<n:=by have:=(List.getElem?_eq_some_iff.1 e2).1;omega
  exact hr.inj b b' blk blk' L L' (h1 b blk e1) (h1 b' blk' e2) ((hβ b hbn).symm.trans e3) ((hβ b' hbn').symm.trans e4) hg
theorem Rep.drop {v:Value} {a:AVal} (h:Rep w (MT X σ β) β v a) (h1:leS σ' σ) (h2 : σ'.length=n) (hl:a.low n):Rep w (MT X σ' (β.cut n)) (β.cut n) v a:=by
 have hβ:∀ b,b<n→β.cut n b = β b:=fun b hb=>Env.cut_lt hb
 have hk:Keeps w (MT X σ β) w (MT X σ' (β.cut n)):=Keeps.anti fun g o h=>h.imp id fun hm=>hm.anti h1 (by omega) hβ
 exact (h.mono hk (fun _ _ h=>h)).low hβ hl
theorem Ext.drop {lo:Nat} {σ0:Store} {β0:Env} {w0:World} (h:Ext lo σ0 β0 w0 σ β w) (h1:leS σ' σ) (h2 : σ'.length=n) (hlo:lo≤n):Ext lo σ0 β0 w0 σ' (β.cut n) w :=
 ⟨h.os,h.tape,h.output,h.size,h.cell,h.block,fun g o hm=>h.newM g o (hm.anti h1 (by omega) fun b hb=>Env.cut_lt hb),fun b hb=>by rw [Env.cut_lt (by omega)];exact h.env b hb⟩
end
inductive AExit where
 | normal
 | exit (id:Nat)
 | goto (l:Nat)
 | ret
 | panic (u:Value)
def Marks (mb:Nat) (D:List Deferred) (w:World) (ds:List Deferred):Prop :=
 ∃ rs:List Nat,ds=rs.map (fun r=>{ target:=.collected r,args:=#[] })++D∧rs.Nodup∧∀ r∈rs,mb≤r∧w.heap[r]? = some (.deferred (some []))
structure Rel (X:Nat→Nat→Prop) (base mb:Nat) (D:List Deferred) (st:St) (β:Env) (a:Act) (w:World):Prop where
 s:RelS X base st.σ β w
 n:a.tmps.size=st.tm.length
 t:∀ k,k<st.tm.length→Rep w (MT X st.σ β) β (a.tmps.getD k undef) (st.tm.getD k .undef)
 d:Marks mb D w a.defers
def Arr (P:Program) (m:Machine) (b:Frame) (k:List Item) (cs:List Frame):AExit→Act→World→Prop
 | .normal,a,w=>Steps P m (lone (b.atR a k) cs w)
 | .exit id,a,w=>∃ k',exitTo id k'=exitTo id k∧Steps P m (lone (b.atR a (.code (.exit id) :: k')) cs w)
 | .goto l,a,w=>∃ k',gotoIn l k'=gotoIn l k∧Steps P m (lone (b.atR a (.code (.goto l) :: k')) cs w)
 | .ret,a,w=>∃ k',Steps P m (lone (b.atR a (.code .ret :: k')) cs w)
 | .panic u,a,w=>∃ k',Steps P m (lone { b.atR a k' with mode:=.panicking [{ v:=u,recovered:=false }] } cs w)
theorem Arr.of_steps {P:Program} {m m₁:Machine} {b:Frame} {k:List Item} {cs:List Frame} {e:AExit} {a:Act} {w:World} (h:Steps P m m₁) (h':Arr P m₁ b k cs e a w):Arr P m b k cs e a w:=by
 cases e with
 | normal=>exact h.trans h'
 | exit id=>obtain ⟨k',h1,h2⟩:=h';exact ⟨k',h1,h.trans h2⟩
 | goto l=>obtain ⟨k',h1,h2⟩:=h';exact ⟨k',h1,h.trans h2⟩
 | ret=>obtain ⟨k',h2⟩:=h';exact ⟨k',h.trans h2⟩
 | panic u=>obtain ⟨k',h2⟩:=h';exact ⟨k',h.trans h2⟩
structure Ctx where
 n:Nat
 ro:Option Nat
def Ctx.ok (c:Ctx) (β:Env) (b:Frame):Prop :=
 match c.ro with
 | none=>b.roundOf=none
 | some bl=>bl<c.n∧∃ L,β bl=some L∧b.roundOf=some L.g
theorem Ctx.ok.env {c:Ctx} {β β':Env} {b:Frame} (h:c.ok β b) (he:∀ x,x<c.n→β' x = β x):c.ok β' b:=by
 unfold Ctx.ok at *
 split
 ·rename_i e;rw [e] at h;exact h
 ·rename_i bl e
  rw [e] at h
  obtain ⟨h1,L,h2,h3⟩:=h
  exact ⟨h1,L,(he bl h1).trans h2,h3⟩
theorem Ctx.ok.ext {c:Ctx} {σ σ':Store} {β β':Env} {w w':World} {b:Frame} (h:c.ok β b) (he:Ext c.n σ β w σ' β' w'):c.ok β' b:=h.env he.env
theorem Ctx.ok.cut {c:Ctx} {β:Env} {b:Frame} {n:Nat} (h:c.ok β b) (hn:c.n≤n):c.ok (β.cut n) b:=h.env fun _ hx=>Env.cut_lt (Nat.lt_of_lt_of_le hx hn)
def EvS (P:Program) (lo:Ctx) (c:Code) (st:St) (Q:AExit→St→Prop):Prop :=
 ∀ (X:Nat→Nat→Prop) (base mb:Nat) (D:List Deferred) (β:Env) (a:Act) (w:World) (b:Frame) (k:List Item) (cs:List Frame),lo.n≤st.σ.length→mb≤w.heap.size→Rel X base mb D st β a w→lo.ok β b →
  ∃ e st' β' a' w',Q e st'∧lo.n≤st'.σ.length∧Rel X base mb D st' β' a' w'∧Ext lo.n st.σ β w st'.σ β' w'∧Arr P (lone (b.atR a (.code c :: k)) cs w) b k cs e a' w'
def EvR (P:Program) (lo:Ctx) (ops:Array Oper) (r l:List Nat) (st:St) (Q:AExit→St→Prop):Prop :=
 ∀ (X:Nat→Nat→Prop) (base mb:Nat) (D:List Deferred) (β:Env) (a:Act) (w:World) (b:Frame) (k:List Item) (cs:List Frame),lo.n≤st.σ.length→mb≤w.heap.size→Rel X base mb D st β a w →
  ∃ e st' β' a' w',Q e st'∧lo.n≤st'.σ.length∧Rel X base mb D st' β' a' w'∧Ext lo.n st.σ β w st'.σ β' w'∧a'.defers=a.defers ∧
   Arr P (lone (b.atR a (.inRegion ops (l++r) :: k)) cs w) b (.inRegion ops r :: k) cs e a' w'
section
variable {P:Program} {lo:Ctx} {st:St} {Q:AExit→St→Prop}
theorem EvS.mono {c:Code} {Q':AExit→St→Prop} (h:EvS P lo c st Q) (hq:∀ e s,Q e s→Q' e s):EvS P lo c st Q':=by
 intro X base mb D β a w b k cs h1 h2 h3 hro
 obtain ⟨e,st',β',a',w',q,rest⟩:=h X base mb D β a w b k cs h1 h2 h3 hro
 exact ⟨e,st',β',a',w',hq _ _ q,rest⟩
theorem EvS.skip (h:Q .normal st):EvS P lo .skip st Q:=fun X base mb D β a w b k cs h1 h2 h3 _=>⟨.normal,st,β,a,w,h,h1,h3,Ext.refl _ _ _ _, .one stepR_skip⟩
theorem EvS.label {l:Nat} (h:Q .normal st):EvS P lo (.label l) st Q:=fun X base mb D β a w b k cs h1 h2 h3 _=>⟨.normal,st,β,a,w,h,h1,h3,Ext.refl _ _ _ _, .one stepR_label⟩
theorem EvS.exit {id:Nat} (h:Q (.exit id) st):EvS P lo (.exit id) st Q:=fun X base mb D β a w b k cs h1 h2 h3 _=>⟨.exit id,st,β,a,w,h,h1,h3,Ext.refl _ _ _ _,k,rfl, .refl _ _⟩
theorem EvS.goto {l:Nat} (h:Q (.goto l) st):EvS P lo (.goto l) st Q:=fun X base mb D β a w b k cs h1 h2 h3 _=>⟨.goto l,st,β,a,w,h,h1,h3,Ext.refl _ _ _ _,k,rfl, .refl _ _⟩
theorem EvS.ret (h:Q .ret st):EvS P lo .ret st Q:=fun X base mb D β a w b k cs h1 h2 h3 _=>⟨.ret,st,β,a,w,h,h1,h3,Ext.refl _ _ _ _,k, .refl _ _⟩
def AExit.then (next:St→Prop) (Q:AExit→St→Prop):AExit→St→Prop
 | .normal,s=>next s
 | e,s=>Q e s
theorem EvS.seq {x y:Code} (h:EvS P lo x st (AExit.then (fun s=>EvS P lo y s Q) Q)):EvS P lo (.seq x y) st Q:=by
 intro X base mb D β a w b k cs h1 h2 h3 hro
 obtain ⟨e,st1,β1,a1,w1,q,h4,h5,h6,h7⟩:=h X base mb D β a w b (.code y :: k) cs h1 h2 h3 hro
 cases e with
 | normal =>
  obtain ⟨e2,st2,β2,a2,w2,q2,g4,g5,g6,g7⟩:=q X base mb D β1 a1 w1 b k cs h4 (Nat.le_trans h2 h6.size) h5 (hro.ext h6)
  exact ⟨e2,st2,β2,a2,w2,q2,g4,g5,h6.trans g6, .of_steps (.head stepR_seq h7) g7⟩
 | exit id=>exact ⟨.exit id,st1,β1,a1,w1,q,h4,h5,h6, .of_steps (.one stepR_seq) h7⟩
 | goto l=>exact ⟨.goto l,st1,β1,a1,w1,q,h4,h5,h6, .of_steps (.one stepR_seq) h7⟩
 | ret=>exact ⟨.ret,st1,β1,a1,w1,q,h4,h5,h6, .of_steps (.one stepR_seq) h7⟩
 | panic u=>exact ⟨.panic u,st1,β1,a1,w1,q,h4,h5,h6, .of_steps (.one stepR_seq) h7⟩
theorem Zdn {X:Nat→Nat→Prop} {base mb:Nat} {D:List Deferred} {β:Env} {a:Act} {w:World} (h:Rel X base mb D st β a w) (x:Operand):Rep w (MT X st.σ β) β (a.eval x) (ev st.tm x):=by
 cases x with
 | tmp t =>
  simp only [Act.eval,ev]
  by_cases ht:t<st.tm.length
  ·exact h.t t ht
  ·have:st.tm.getD t .undef = .undef:=by simp [List.getD,List.getElem?_eq_none (Nat.le_of_not_lt ht)]
   rw [this];exact .undef _
 | const v=>exact Zgr v
 | global g=>exact .opq _
 | func f=>exact .fn (fa:=#[]) (ca:=#[]) rfl rfl (fun k hk=>by simp at hk) (fun k hk=>by simp at hk)
theorem EvS.cond {c:Operand} {x y:Code} {t:Bool} (hc:ev st.tm c = .bool t) (h1:t=true→EvS P lo x st Q) (h2:t=false→EvS P lo y st Q):EvS P lo (.cond c x y) st Q:=by
 intro X base mb D β a w b k cs g1 g2 g3 hro
 have hv:=Zdn g3 c
 rw [hc] at hv
 have hstep:=stepR_cond (P:=P) (b:=b) (k:=k) (cs:=cs) (w:=w) (x:=x) (y:=y) hv.bool_inv
 cases t with
 | true =>
  obtain ⟨e,st1,β1,a1,w1,q,r1,r2,r3,r4⟩:=h1 rfl X base mb D β a w b k cs g1 g2 g3 hro
  exact ⟨e,st1,β1,a1,w1,q,r1,r2,r3, .of_steps (.one hstep) r4⟩
 | false =>
  obtain ⟨e,st1,β1,a1,w1,q,r1,r2,r3,r4⟩:=h2 rfl X base mb D β a w b k cs g1 g2 g3 hro
  exact ⟨e,st1,β1,a1,w1,q,r1,r2,r3, .of_steps (.one hstep) r4⟩
theorem EvS.condAny {c:Operand} {x y:Code} (hc:ev st.tm c = .anyb) (h1:EvS P lo x st Q) (h2:EvS P lo y st Q):EvS P lo (.cond c x y) st Q:=by
 intro X base mb D β a w b k cs g1 g2 g3 hro
 have hv:=Zdn g3 c
 rw [hc] at hv
 obtain ⟨t,hv⟩:∃ t,a.eval c = .bool t:=by
  generalize a.eval c=v at hv
  cases hv;exact ⟨_,rfl⟩
 have hstep:=stepR_cond (P:=P) (b:=b) (k:=k) (cs:=cs) (w:=w) (x:=x) (y:=y) hv
 cases t with
 | true =>
  obtain ⟨e,st1,β1,a1,w1,q,r1,r2,r3,r4⟩:=h1 X base mb D β a w b k cs g1 g2 g3 hro
  exact ⟨e,st1,β1,a1,w1,q,r1,r2,r3, .of_steps (.one hstep) r4⟩
 | false =>
  obtain ⟨e,st1,β1,a1,w1,q,r1,r2,r3,r4⟩:=h2 X base mb D β a w b k cs g1 g2 g3 hro
  exact ⟨e,st1,β1,a1,w1,q,r1,r2,r3, .of_steps (.one hstep) r4⟩
def AExit.inBlock (id:Nat) (Q:AExit→St→Prop):AExit→St→Prop
 | .exit id',s=>if id'=id then Q .normal s else Q (.exit id') s
 | e,s=>Q e s
theorem EvS.block {id:Nat} {c:Code} (h:EvS P lo c st (AExit.inBlock id Q)):EvS P lo (.block id c) st Q:=by
 intro X base mb D β a w b k cs h1 h2 h3 hro
 obtain ⟨e,st1,β1,a1,w1,q,h4,h5,h6,h7⟩:=h X base mb D β a w b (.inBlock id :: k) cs h1 h2 h3 hro
 cases e with
 | normal=>exact ⟨.normal,st1,β1,a1,w1,q,h4,h5,h6, .head stepR_block (Steps.trans h7 (.one stepR_inBlock))⟩
 | exit id' =>
  obtain ⟨k',e1,e2⟩:=h7
  by_cases hid:id'=id
  ·simp only [AExit.inBlock,hid,if_true] at q
   refine ⟨.normal,st1,β1,a1,w1,q,h4,h5,h6, .head stepR_block (Steps.trans e2 (.one (stepR_exit ?_)))⟩
   rw [e1];simp [exitTo,hid]
  ·simp only [AExit.inBlock,hid,if_false] at q
   have:(id==id')=false:=by simp;exact fun h=>hid h.symm
   exact ⟨.exit id',st1,β1,a1,w1,q,h4,h5,h6,k',by rw [e1];simp [exitTo,this], .head stepR_block e2⟩
 | goto l =>
  obtain ⟨k',e1,e2⟩:=h7
  exact ⟨.goto l,st1,β1,a1,w1,q,h4,h5,h6,k',by rw [e1];rfl, .head stepR_block e2⟩
 | ret =>
  obtain ⟨k',e2⟩:=h7
  exact ⟨.ret,st1,β1,a1,w1,q,h4,h5,h6,k', .head stepR_block e2⟩
 | panic u =>
  obtain ⟨k',e2⟩:=h7
  exact ⟨.panic u,st1,β1,a1,w1,q,h4,h5,h6,k', .head stepR_block e2⟩
theorem EvS.scope {c:Code} (h:EvS P lo c st (fun e s=>(∀ l,e≠.goto l)∧Q e s)):EvS P lo (.scope c) st Q:=by
 intro X base mb D β a w b k cs h1 h2 h3 hro
 have hs:step P (lone (b.atR a (.code (.scope c) :: k)) cs w) = .next (lone (b.atR a (.code c :: .inScope c :: k)) cs w):=step_lone_go (by simp [stepG,stepG.exec,Frame.atR])
 have hs2:∀ a w,step P (lone (b.atR a (.inScope c :: k)) cs w) = .next (lone (b.atR a k) cs w):=fun a w=>step_lone_go (by simp [stepG,stepG.exec,Frame.atR])
 obtain ⟨e,st1,β1,a1,w1,q,h4,h5,h6,h7⟩:=h X base mb D β a w b (.inScope c :: k) cs h1 h2 h3 hro
 cases e with
 | normal=>exact ⟨.normal,st1,β1,a1,w1,q.2,h4,h5,h6, .head hs (Steps.trans h7 (.one (hs2 _ _)))⟩
 | exit id' =>
  obtain ⟨k',e1,e2⟩:=h7
  exact ⟨.exit id',st1,β1,a1,w1,q.2,h4,h5,h6,k',by rw [e1];rfl, .head hs e2⟩
 | goto l=>exact absurd rfl (q.1 l)
 | ret =>
  obtain ⟨k',e2⟩:=h7
  exact ⟨.ret,st1,β1,a1,w1,q.2,h4,h5,h6,k', .head hs e2⟩
 | panic u =>
  obtain ⟨k',e2⟩:=h7
  exact ⟨.panic u,st1,β1,a1,w1,q.2,h4,h5,h6,k', .head hs e2⟩
structure St.le (st' st:St):Prop where
 n:st'.tm.length=st.tm.length
 t:∀ k,k<st'.tm.length→st'.tm.getD k .undef = .undef∨st'.tm.getD k .undef=st.tm.getD k .undef
 s:leS st'.σ st.σ
 lt:lowL st'.σ.length st'.tm
 ls:lowS st'.σ.length st'.σ
theorem Rel.weaken {X:Nat→Nat→Prop} {base mb:Nat} {D:List Deferred} {β:Env} {a:Act} {w:World} {st':St} (h:Rel X base mb D st β a w) (hl:st'.le st):Rel X base mb D st' (β.cut st'.σ.length) a w:=by
 refine ⟨h.s.drop hl.s rfl hl.ls,by rw [h.n,hl.n],fun k hk=>?_,h.d⟩
 rcases hl.t k hk with e | e
 ·rw [e];exact .undef _
 ·have:=h.t k (by rw [← hl.n];exact hk)
  rw [← e] at this
  exact this.drop hl.s rfl (Zaa hl.lt k)
theorem EvS.loop {ι:Type} (I : ι→St) (μ : ι→Nat) {c:Code} (x0 : ι) (h0:(I x0).le st) (hlo:∀ x,lo.n≤(I x).σ.length)
  (round:∀ x,EvS P lo c (I x) (AExit.then (fun s=>∃ y,(I y).le s∧μ y < μ x) Q)):EvS P lo (.loop c) st Q:=by
 have key:∀ n x,μ x=n→∀ (X:Nat→Nat→Prop) (base mb:Nat) (D:List Deferred) (β:Env) (a:Act) (w:World) (b:Frame) (k:List Item) (cs:List Frame),mb≤w.heap.size→Rel X base mb D (I x) β a w→lo.ok β b →
   ∃ e st' β' a' w',Q e st'∧lo.n≤st'.σ.length∧Rel X base mb D st' β' a' w'∧Ext lo.n (I x).σ β w st'.σ β' w'∧Arr P (lone (b.atR a (.code c :: .inLoop c :: k)) cs w) b k cs e a' w':=by
  intro n
  induction n using Nat.strongRecOn with
  | _ n ih =>
   intro x hn X base mb D β a w b k cs h2 h3 hro
   obtain ⟨e,st1,β1,a1,w1,q,h4,h5,h6,h7⟩:=round x X base mb D β a w b (.inLoop c :: k) cs (hlo x) h2 h3 hro
   cases e with
   | normal =>
    obtain ⟨y,hy,hμ⟩:=q
    have hw:=h5.weaken hy
    obtain ⟨e2,st2,β2,a2,w2,q2,g4,g5,g6,g7⟩:=ih (μ y) (hn ▸ hμ) y rfl X base mb D _ a1 w1 b k cs (Nat.le_trans h2 h6.size) hw ((hro.ext h6).cut (hlo y))
    exact ⟨e2,st2,β2,a2,w2,q2,g4,g5,(h6.drop hy.s rfl (hlo y)).trans g6, .of_steps (Steps.trans h7 (.one stepR_inLoop)) g7⟩
   | exit id=>obtain ⟨k',e1,e2⟩:=h7;exact ⟨.exit id,st1,β1,a1,w1,q,h4,h5,h6,k',by rw [e1];rfl,e2⟩
   | goto l=>obtain ⟨k',e1,e2⟩:=h7;exact ⟨.goto l,st1,β1,a1,w1,q,h4,h5,h6,k',by rw [e1];rfl,e2⟩
   | ret=>exact ⟨.ret,st1,β1,a1,w1,q,h4,h5,h6,h7⟩
   | panic u=>exact ⟨.panic u,st1,β1,a1,w1,q,h4,h5,h6,h7⟩
 intro X base mb D β a w b k cs h1 h2 h3 hro
 obtain ⟨e,st1,β1,a1,w1,q,h4,h5,h6,h7⟩:=key _ x0 rfl X base mb D _ a w b k cs h2 (h3.weaken h0) (hro.cut (hlo x0))
 exact ⟨e,st1,β1,a1,w1,q,h4,h5,((Ext.refl lo.n _ _ _).drop h0.s rfl (hlo x0)).trans h6, .of_steps (.one stepR_loop) h7⟩
end
end Go.Abs
