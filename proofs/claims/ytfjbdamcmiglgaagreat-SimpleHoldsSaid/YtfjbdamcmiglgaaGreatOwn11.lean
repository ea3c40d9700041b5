/- Part 11 of my own framework and of the walks of functions: AbsM. -/
import Derived.Test.YtfjbdamcmiglgaaGreatOwn10
abbrev bp:=@List.cons_append
abbrev aQ:=@List.mem_cons
abbrev bn:=@List.nil_append
abbrev eT:=@List.nodup_cons
abbrev iF:=@List.nodup_nil
set_option linter.unusedVariables false
set_option linter.unusedSectionVars false
set_option linter.unusedSimpArgs false
namespace Go.dm
open Go
section
variable {P:Program} {lo:Ctx} {st:St}
theorem Znq {X:Nat→Nat→Prop} {base:Nat} {σ:ai} {β:Env} {w:World} (hr:cS X base σ β w) {g:Nat} {o:Option (List Deferred)} (hg:w.heap[g]? = some (.deferred o)):∀ off, ¬ jr σ β g off:=by
 rintro off ⟨b,cw,L,h1,h2,rfl,h4⟩;obtain ⟨L',uH,_,_,jA⟩:=hr.cw b cw h1;obtain rfl:L=L':=aP (h2.symm.trans uH);cases cw with
 | row es fz=>obtain ⟨c,e,h5,_⟩:=jA;rw [hg] at h5;cases h5
 | map ks vs fz=>obtain ⟨c,e,h5,_⟩:=jA;rw [hg] at h5;cases h5
 | var cs=>obtain ⟨c,e,h5,_⟩:=jA;rw [hg] at h5;cases h5
 | iter s p=>have:w.heap[L.g]? = some (.stringIter s p):=jA;rw [hg] at this;cases this
 | lL ks vs seen=>obtain ⟨m,es,c,h5,_⟩:=jA;rw [hg] at h5;cases h5
 | loop r=>obtain ⟨t,d,f,h5,_⟩:=jA;rw [hg] at h5;cases h5
theorem Marks.ext {X:Nat→Nat→Prop} {base mb l:Nat} {D:List Deferred} {σ σ':ai} {β β':Env} {w w':World} {ds:List Deferred} (h:Marks mb D w ds) (hr:cS X base σ β w) (he:Ext l σ β w σ' β' w'):Marks mb D w' ds:=by
 obtain ⟨rs,h1,h2,h3⟩:=h;refine ⟨rs,h1,h2,fun r pV=>⟨(h3 r pV).1,?_⟩⟩;have h4:=(h3 r pV).2;exact (he.block r (aO.1 h4).1 (Znq hr h4)).trans h4
theorem z8 (tm:List ah) (d:Option Tmp) (v:ah):(put tm d v).length=tm.length:=by cases d<;>simp [put]
theorem Rel.next {X:Nat→Nat→Prop} {base mb l:Nat} {D:List Deferred} {β β':Env} {a:Act} {w w':World} {σ':ai} (h:Rel X base mb D st β a w) (hs:cS X base σ' β' w') (he:Ext l st.σ β w σ' β' w') (hβ:∀ b L,β b=some L→β' b=some L)
  {v:Value} {r:ah} (hv:cf w' (MT X σ' β') β' v r) (dst:Option Tmp):Rel X base mb D ⟨put st.tm dst r,σ'⟩ β' (a.put dst v) w':=by
 have hk:=he.keeps h.s;refine ⟨hs,?_,fun k e7=>?_,?_⟩
 ·cases dst<;>simp [Act.put,put,h.n]
 ·rw [z8] at e7;have h0:=(h.t k e7).mono hk hβ;cases dst with
  | none=>exact h0
  | some d =>
   simp only [Act.put,put];rw [ak,bJ];by_cases e:d=k
   ·subst e;rw [if_pos rfl,if_pos (by rw [h.n];exact e7),Gc _ _ _ e7];exact hv
   ·rw [if_neg e,← ak,getD_set_ne _ _ _ _ e];exact h0
 ·have:=h.d.ext h.s he;cases dst<;>exact this
def gone:ah:=.oD undef
def xn:Value→Bool
 | .bool _=>true
 | _=>false
def mN (ops:Array Oper) (tm:List ah) (o:Oper):Option Bool :=
 match o.guard with
 | none=>some true
 | some (j,want)=>match (ops[j]?).bind (·.dst) with
  | some d=>match tm[d]? with
   | some (.bool b)=>some (b==want)
   | some (.oD v)=>if xn v then none else some false
   | _=>none
  | none=>none
theorem A0 {X:Nat→Nat→Prop} {base mb:Nat} {D:List Deferred} {β:Env} {a:Act} {w:World} (h:Rel X base mb D st β a w) {ops:Array Oper} {o:Oper} {b:Bool} (hg:mN ops st.tm o=some b):Region.wanted o (yielded ops a.tmps)=b:=by
 unfold mN at hg;unfold Region.wanted;split at hg
 ·rename_i e;rw [e];simpa using hg
 ·rename_i j want e;rw [e];simp only
  split at hg
  ·rename_i d hd;split at hg
   ·rename_i c hc;cases hg;obtain ⟨bA,hv⟩:=aJ.1 hc;have h1:=h.t d bA;rw [show st.tm.getD d ah.undef = .bool c by simp [List.getD,hc]] at h1;have h2:a.tmps[d]? = some (.bool c):=by
     rw [aE (by rw [h.n];exact bA)];have:=h1.iI;rw [ak,aE (by rw [h.n];exact bA)] at this;simpa using this
    simp only [yielded,hd,fb,h2];cases c<;>cases want<;>rfl
   ·rename_i v hv;split at hg
    ·cases hg
    ·rename_i Pj;cases hg;obtain ⟨bA,FV⟩:=aJ.1 hv;have h1:=h.t d bA;rw [show st.tm.getD d ah.undef = .oD v by simp [List.getD,hv]] at h1;have h2:a.tmps[d]? = some v:=by
      rw [aE (by rw [h.n];exact bA)];have Pv:∀ {M:Nat→Nat→Prop} {x y:Value},cf w M β x (.oD y)→x=y:=fun h=>by cases h;rfl
      have:a.tmps.getD d undef=v:=Pv h1;rw [ak,aE (by rw [h.n];exact bA)] at this;simpa using this
     simp only [yielded,hd,fb,h2];cases v<;>first | rfl | exact absurd rfl Pj
   ·cases hg
  ·cases hg
theorem Rel.keep {X:Nat→Nat→Prop} {base mb l:Nat} {D:List Deferred} {β β':Env} {a:Act} {w w':World} {σ':ai} (h:Rel X base mb D st β a w) (hs:cS X base σ' β' w') (he:Ext l st.σ β w σ' β' w') (hβ:∀ b L,β b=some L→β' b=some L) :
  Rel X base mb D ⟨st.tm,σ'⟩ β' a w':=h.next hs he hβ (v:=undef) (r:=.undef) (.undef _) none
theorem mB.nil {ops:Array Oper} {r:List Nat} {Q:ct→St→Prop} (h:Q .normal st):mB P lo ops r [] st Q :=
 fun X base mb D β a w b k cs h1 h2 h3=>⟨.normal,st,β,a,w,h,h1,h3,Ext.refl _ _ _ _,rfl, .refl _ _⟩
theorem mB.Dx {ops:Array Oper} {r:List Nat} {i:Nat} {rest:List Nat} {o:Oper} {Q:ct→St→Prop} (ho:ops[i]? = some o) (hg:mN ops st.tm o=some false) (h:mB P lo ops r rest ⟨put st.tm o.dst gone,st.σ⟩ Q):mB P lo ops r (i :: rest) st Q:=by
 intro X base mb D β a w b k cs h1 h2 h3;have hw:=A0 h3 hg;have h4:=h3.next h3.s (Ext.refl 0 _ _ _) (fun _ _ h=>h) (v:=undef) (r:=gone) (.oD _) o.dst;obtain ⟨e,eL,β',a',w',q,r1,r2,r3,rd,r4⟩:=h X base mb D β _ w b k cs h1 h2 h4;refine ⟨e,eL,β',a',w',q,r1,r2,r3,by rw [rd];cases o.dst<;>rfl, .of_steps (.one (stepR_op_skip (by simp [ho,hw]))) ?_⟩;rw [ho];exact r4
theorem VT {σ:ai} {nm:Nat} {ρ:Operand→ah} {o:Oper} {r:ah×ai} (h:dt P σ nm ρ o.op=some r):∀ c,o.op≠.defer c:=by
 intro c e;rw [e] at h;simp [dt] at h
theorem mB.op {ops:Array Oper} {rs:List Nat} {i:Nat} {rest:List Nat} {o:Oper} {Q:ct→St→Prop} (ho:ops[i]? = some o) (hg:mN ops st.tm o=some true) {r:ah} {σ':ai} (hE:dt P st.σ st.σ.length (ev st.tm) o.op=some (r,σ'))
  (hlen:lo.n≤st.σ.length→lo.n≤σ'.length) (h:mB P lo ops rs rest ⟨put st.tm o.dst r,σ'⟩ Q):mB P lo ops rs (i :: rest) st Q:=by
 intro X base mb D β a w b k cs h1 h2 h3;have hw:=A0 h3 hg;obtain ⟨v,w1,fy,ft,g1,g2,g3,g4,g5⟩:=UY h3.s (h3.s.oo _ (ae _)) (fun x=>wq h3 x) (fun _=>rfl) hE;have hrel:=h3.next g1 g3 g5 g2 o.dst;obtain ⟨e,eL,β',a',w',q,r1,r2,r3,rd,r4⟩:=h X base mb D fy _ w1 b k cs (hlen h1) (c_ h2 g3.size) hrel;have qi:Ext lo.n st.σ β w σ' fy w1:=⟨g3.os,g3.tape,g3.output,g3.size,g3.cell,g3.block,g3.jb,fun c hc=>g4 c (by omega)⟩;refine ⟨e,eL,β',a',w',q,r1,r2,qi.trans r3,by rw [rd];cases o.dst<;>rfl, .of_steps (.one (step_lone_go ?_)) r4⟩;rw [bp,stepGR_op ho hw,Oper.semAt_eq _ _ _ (VT hE)];have gR:=Frame.finish_atR b a ops i (rest++rs) k v;rw [ho] at gR;rcases ft with ft | ⟨ft,rfl⟩
 ·simp only [stepG.apply,if_true,Sem.runT_eq,ft,GStep.bare_after,GStep.bare_go];rw [gR];rfl
 ·simp only [stepG.apply,if_true,Sem.runT_eq,ft,GStep.bare_after,GStep.bare_go];rw [gR];rfl
theorem mB.region {id:Nat} {ops:Array Oper} {Q:ct→St→Prop} (h:mB P lo ops [] (List.range ops.size) st Q):iy P lo (.region id ops false) st Q:=by
 intro X base mb D β a w b k cs h1 h2 h3 _;obtain ⟨e,eL,β',a',w',q,r1,r2,r3,rd,r4⟩:=h X base mb D β a w b k cs h1 h2 h3;rw [bu] at r4;refine ⟨e,eL,β',a',w',q,r1,r2,r3, .of_steps (.one stepR_region) ?_⟩;cases e with
 | normal=>exact Steps.trans r4 (.one stepR_region_end)
 | exit id=>obtain ⟨k',e1,e2⟩:=r4;exact ⟨k',by rw [e1];rfl,e2⟩
 | goto l=>obtain ⟨k',e1,e2⟩:=r4;exact ⟨k',by rw [e1];rfl,e2⟩
 | ret=>exact r4
 | panic u=>exact r4
def yJ (fr:Frame):Prop:=∀ d b s a k,fr.todo≠.call d b s a :: k
def Fin (P:Program) (fr:Frame) (cs:List Frame) (s:Sem Next) (w:World) (v:Value) (w':World):Prop :=
 ∃ f1 Bs w1,(stepG.apply P true fr cs none s w).bare = .go { frame:=f1,callers:=Bs,status:=.running,dying:=none } w1∧Steps P (lone f1 Bs w1) (lone (fr.finish v) cs w')
def dJ (P:Program) (F:Frame→List Frame→Sem Next→World→Value→World→Prop) (f:ah) (args:List ah) (σ:ai) (K:ah→ai→Prop):Prop :=
 ∀ (X:Nat→Nat→Prop) (base:Nat) (β:Env) (w:World) (vf:Value) (vs:Array Value),cS X base σ β w→cf w (MT X σ β) β vf f→vs.size=args.length →
  (∀ k,k<args.length→cf w (MT X σ β) β (vs.getD k undef) (args.getD k .undef))→∀ (fr:Frame) (cs:List Frame),yJ fr →
  ∃ r σ' β' v w',K r σ'∧cS X base σ' β' w'∧cf w' (MT X σ' β') β' v r∧Ext σ.length σ β w σ' β' w'∧σ.length≤σ'.length ∧
   F fr cs (do let d ← Deferred.ofValue vf vs;invoke d.target d.args) w v w'
def ix (P:Program) (F:Frame→List Frame→Sem Next→World→Value→World→Prop) (g:FuncId) (args:List ah) (σ:ai) (K:ah→ai→Prop):Prop :=
 ∀ (X:Nat→Nat→Prop) (base:Nat) (β:Env) (w:World) (vs:Array Value),cS X base σ β w→vs.size=args.length →
  (∀ k,k<args.length→cf w (MT X σ β) β (vs.getD k undef) (args.getD k .undef))→∀ (fr:Frame) (cs:List Frame),yJ fr →
  ∃ r σ' β' v w',K r σ'∧cS X base σ' β' w'∧cf w' (MT X σ' β') β' v r∧Ext σ.length σ β w σ' β' w'∧σ.length≤σ'.length∧F fr cs (callFunc g vs) w v w'
abbrev aq (P:Program) (f:ah) (args:List ah) (σ:ai) (K:ah→ai→Prop):Prop:=dJ P (Fin P) f args σ K
abbrev cg (P:Program) (g:FuncId) (args:List ah) (σ:ai) (K:ah→ai→Prop):Prop:=ix P (Fin P) g args σ K
theorem dJ.mono {F:Frame→List Frame→Sem Next→World→Value→World→Prop} {f:ah} {args:List ah} {σ:ai} {K K':ah→ai→Prop} (h:dJ P F f args σ K) (hk:∀ r s,K r s→K' r s):dJ P F f args σ K':=by
 intro X base β w vf vs h1 oq h2 h3 fr cs h4;obtain ⟨r,σ',β',v,w',q,rest⟩:=h X base β w vf vs h1 oq h2 h3 fr cs h4;exact ⟨r,σ',β',v,w',hk _ _ q,rest⟩
theorem aq.mono {f:ah} {args:List ah} {σ:ai} {K K':ah→ai→Prop} (h:aq P f args σ K) (hk:∀ r s,K r s→K' r s):aq P f args σ K':=dJ.mono h hk
theorem aq.sh {F:Frame→List Frame→Sem Next→World→Value→World→Prop} {g:FuncId} {first captured args:List ah} {σ:ai} {K:ah→ai→Prop} (h:ix P F g (first++args++captured) σ K):dJ P F (.fn g first captured) args σ K:=by
 intro X base β w vf vs h1 oq h2 h3 fr cs h4;cases oq with
 | @fn _ fa ca _ _ e1 e2 r1 r2 =>
  obtain ⟨r,σ',β',v,w',q,g1,g2,g3,g4,g5⟩:=h X base β w (fa++vs++ca) h1 (by simp [e1,e2,h2]) (fun k hk=>by
   simp only [az] at hk;rw [uC,uC,S0];simp only [az];by_cases c1:k<first.length
   ·rw [if_pos (by omega),if_pos (by omega),if_pos c1];exact r1 k c1
   ·by_cases c2:k<first.length+args.length
    ·rw [if_neg (by omega),if_pos (by omega),if_pos c2,if_neg c1,e1];exact h3 _ (by omega)
    ·rw [if_neg (by omega),if_neg (by omega),if_neg c2,e1,h2];exact r2 _ (by omega)) fr cs h4
  refine ⟨r,σ',β',v,w',q,g1,g2,g3,g4,?_⟩;have:(do let d ← Deferred.ofValue (.func (.func g) fa ca) vs;invoke d.target d.args:Sem Next)=callFunc g (fa++vs++ca):=rfl
  rw [this];exact g5
def KO (P:Program) (fr:Frame) (cs:List Frame) (s:Sem Next) (w:World) (u:Value) (w':World):Prop :=
 ∃ f1 Bs w1,(stepG.apply P true fr cs none s w).bare = .go { frame:=f1,callers:=Bs,status:=.running,dying:=none } w1∧Steps P (lone f1 Bs w1) (lone (fr.raise [{ v:=u,recovered:=false }]) cs w')
abbrev F9 (P:Program) (f:ah) (args:List ah) (σ:ai) (K:ah→ai→Prop):Prop:=dJ P (KO P) f args σ K
theorem mB.call {ops:Array Oper} {rs:List Nat} {i:Nat} {rest:List Nat} {o:Oper} {Q:ct→St→Prop} (ho:ops[i]? = some o) (hg:mN ops st.tm o=some true) {f:Operand} {args:Array Operand} {ts:Array TypeId} (hop:o.op = .call { callee:=.value f,args,argTypes:=ts })
  (h:aq P (ev st.tm f) (args.toList.map (ev st.tm)) st.σ (fun r σ'=>mB P lo ops rs rest ⟨put st.tm o.dst r,σ'⟩ Q)):mB P lo ops rs (i :: rest) st Q:=by
 intro X base mb D β a w b k cs h1 h2 h3;have hw:=A0 h3 hg;obtain ⟨r,σ',β',v,w1,q,g1,g2,g3,g4,f1,Bs,w2,g5,g6⟩:=h X base β w (a.eval f) (args.map a.eval) h3.s (wq h3 f) (by simp) (fun j hj=>by
  simp only [aj,bH] at hj;rw [ak,eZ,aE hj];simp only [List.getD,cu,gP,aE hj,bM,bx];exact wq h3 _) (b.atR a (.inRegion ops (i :: (rest++rs)) :: k)) cs (fun d b' s a' k' e=>by simp [Frame.atR] at e)
 have hβ:∀ c L,β c=some L→β' c=some L:=fun c L hc=>by
  by_cases ig:c<st.σ.length
  ·rw [g3.env c ig];exact hc
  ·rw [h3.s.oo c (by omega)] at hc;cases hc
 have hrel:=h3.next g1 g3 hβ g2 o.dst;obtain ⟨e,eL,nx,a',w',q',r1,r2,r3,rd,r4⟩:=q X base mb D β' _ w1 b k cs (c_ h1 g4) (c_ h2 g3.size) hrel;refine ⟨e,eL,nx,a',w',q',r1,r2,(g3.lower h1).trans r3,by rw [rd];cases o.dst<;>rfl, .of_steps (.head (step_lone_go ?_) g6) ?_⟩
 ·rw [bp,stepGR_op ho hw,Oper.semAt_eq _ _ _ (fun c e=>by rw [hop] at e;cases e)];rw [← g5];congr 2;simp only [execOp,hop,resolve]
 ·have gR:=Frame.finish_atR b a ops i (rest++rs) k v;rw [ho] at gR;rw [gR];exact r4
def nW:ah→Option Value
 | .bool b=>some (.bool b)
 | .int k n=>some (.int k n)
 | .str s=>some (.string s)
 | _=>none
def kZ:List ah→Option (List Value)
 | []=>some []
 | a :: l=>(nW a).bind fun v=>(kZ l).map (v :: ·)
def zR:ah→Option Value
 | .iface t (.agg cs)=>(kZ cs).map fun l=>.iface t (.agg l.toArray)
 | .iface t a=>(nW a).map (.iface t)
 | _=>none
theorem Ycl {M:Nat→Nat→Prop} {β:Env} {w:World} {a:ah} {v u:Value} (hp:nW a=some u) (h:cf w M β v a):v=u:=by
 cases a<;>simp only [nW,reduceCtorEq,aH] at hp<;>subst hp<;>cases h<;>rfl
theorem Ydi {M:Nat→Nat→Prop} {β:Env} {w:World} {a:ah} {u:Value} (hp:nW a=some u):cf w M β u a:=by
 cases a<;>simp only [nW,reduceCtorEq,aH] at hp<;>subst hp<;>constructor
theorem SW {M:Nat→Nat→Prop} {β:Env} {w:World}:∀ {cs:List ah} {us:List Value},kZ cs=some us→us.length=cs.length∧(∀ k,k<cs.length→cf w M β (us.getD k undef) (cs.getD k .undef)) ∧
  ∀ vs:List Value,vs.length=cs.length→(∀ k,k<cs.length→cf w M β (vs.getD k undef) (cs.getD k .undef))→vs=us
 | [],us,h=>by
  simp only [kZ,aH] at h;subst h;exact ⟨rfl,fun k hk=>absurd hk (Nat.not_lt_zero _),fun vs hv _=>bg hv⟩
 | a :: l,us,h=>by
  simp only [kZ,ay,aI] at h;obtain ⟨v,h1,F7,h2,rfl⟩:=h;obtain ⟨g1,g2,g3⟩:=SW h2;refine ⟨by simp [g1],fun k hk=>?_,fun vs hv hr=>?_⟩
  ·cases k with
   | zero=>exact Ydi h1
   | succ k=>simpa using g2 k (by simpa using hk)
  ·cases vs with
   | nil=>simp at hv
   | cons y vs =>
    have e1:=Ycl h1 (hr 0 (by simp));simp only [bm] at e1;rw [e1,g3 vs (by simpa using hv) (fun k hk=>by simpa using hr (k+1) (by simpa using hk))]
theorem RK {M:Nat→Nat→Prop} {β:Env} {w:World} {a:ah} {v u:Value} (hp:zR a=some u) (h:cf w M β v a):v=u:=by
 cases a<;>simp only [zR,reduceCtorEq] at hp;rename_i t a;cases h with
 | @iface _ y _ hy =>
  cases a<;>simp only [nW,mF,reduceCtorEq,bM,aH] at hp
  all_goals first
   | (subst hp;cases hy;rfl)
   | (obtain ⟨us,h1,rfl⟩:=aI.1 hp
      cases hy with
      | @agg cs l hn hr =>
       obtain ⟨_,_,g3⟩:=SW (w:=w) (M:=M) (β:=β) h1;have:=g3 cs.toList (by simpa using hn) (fun k hk=>by
        have:=hr k hk
        rwa [show cs.getD k Go.undef=cs.toList.getD k Go.undef by simp [List.getD,ak]] at this)
       rw [← this])
theorem Yi3 {a:ah} {u:Value} (hp:zR a=some u):∃ t x,u = .iface t x:=by
 cases a<;>simp only [zR,reduceCtorEq] at hp;rename_i t a;cases a<;>simp only [nW,mF,reduceCtorEq,bM,aH] at hp
 all_goals first
  | (subst hp;exact ⟨_,_,rfl⟩)
  | (obtain ⟨us,h1,rfl⟩:=aI.1 hp;exact ⟨_,_,rfl⟩)
theorem mB.pan {ops:Array Oper} {rs:List Nat} {i:Nat} {rest:List Nat} {o:Oper} {Q:ct→St→Prop} (ho:ops[i]? = some o) (hg:mN ops st.tm o=some true) {f:Operand} {args:Array Operand} {ts:Array TypeId} (hop:o.op = .call { callee:=.value f,args,argTypes:=ts })
  (h:F9 P (ev st.tm f) (args.toList.map (ev st.tm)) st.σ (fun r σ'=>∃ u,zR r=some u∧Q (.panic u) ⟨st.tm,σ'⟩)):mB P lo ops rs (i :: rest) st Q:=by
 intro X base mb D β a w b k cs h1 h2 h3;have hw:=A0 h3 hg;obtain ⟨r,σ',β',v,w1,⟨u,hu,q⟩,g1,gr,g3,g4,f1,Bs,w2,g5,g6⟩:=h X base β w (a.eval f) (args.map a.eval) h3.s (wq h3 f) (by simp) (fun j hj=>by
  simp only [aj,bH] at hj;rw [ak,eZ,aE hj];simp only [List.getD,cu,gP,aE hj,bM,bx];exact wq h3 _) (b.atR a (.inRegion ops (i :: (rest++rs)) :: k)) cs (fun d b' s a' k' e=>by simp [Frame.atR] at e)
 have hβ:∀ c L,β c=some L→β' c=some L:=fun c L hc=>by
  by_cases ig:c<st.σ.length
  ·rw [g3.env c ig];exact hc
  ·rw [h3.s.oo c (by omega)] at hc;cases hc
 obtain rfl:=RK hu gr;refine ⟨.panic v,⟨st.tm,σ'⟩,β',a,w1,q,c_ h1 g4,h3.keep g1 g3 hβ,g3.lower h1,rfl, .inRegion ops (i :: (rest++rs)) :: k, .head (step_lone_go ?_) g6⟩;rw [bp,stepGR_op ho hw,Oper.semAt_eq _ _ _ (fun c e=>by rw [hop] at e;cases e)];rw [← g5];congr 2;simp only [execOp,hop,resolve]
theorem mB.panic {ops:Array Oper} {rs:List Nat} {i:Nat} {rest:List Nat} {o:Oper} {Q:ct→St→Prop} (ho:ops[i]? = some o) (hg:mN ops st.tm o=some true) {x:Operand} (hop:o.op = .panic x) {u:Value} (hu:zR (ev st.tm x)=some u)
  (h:Q (.panic u) st):mB P lo ops rs (i :: rest) st Q:=by
 intro X base mb D β a w b k cs h1 h2 h3;have hw:=A0 h3 hg;have hv:=RK hu (wq h3 x);obtain ⟨t,y,hi⟩:=Yi3 hu;refine ⟨.panic u,st,β,a,w,h,h1,h3,Ext.refl _ _ _ _,rfl, .inRegion ops (i :: (rest++rs)) :: k, .one (step_lone_go ?_)⟩;rw [bp,stepGR_op ho hw,Oper.semAt_eq _ _ _ (fun c e=>by rw [hop] at e;cases e)];have ft:(execOp a.eval o).run P w = .halt (.panic u) w:=by
  simp only [execOp,hop,hv,hi,Instr.panic,Sem.run_bind];rfl
 simp only [stepG.apply,if_true,Sem.runT_eq,ft,GStep.bare_after,GStep.bare_go];rfl
def rm (tm:List ah) (σ:ai) (P:Program):ResultVar→Option ah
 | .tmp t=>some (tm.getD t .undef)
 | .cell a t=>(aF P t).bind fun l=>jv σ l (tm.getD a .undef)
def gp (P:Program) (st:St) (rs:List ResultVar):Option ah :=
 match rs.mapM (rm st.tm st.σ P) with
 | some [v]=>some v
 | some vs=>some (.dT vs)
 | none=>none
def zT (tmps:Array Value):ResultVar→Sem Value
 | .tmp t=>pure (tmps.getD t undef)
 | .cell a t=>do loadVar t (← asAddr (tmps.getD a undef))
theorem Ycm (fn:Func) (tmps:Array Value):results fn tmps=(do let vs ← fn.results.mapM (zT tmps);pure (if h:vs.size=1 then vs[0] else .tuple vs)):=rfl
theorem Yp0 {X:Nat→Nat→Prop} {base mb:Nat} {D:List Deferred} {β:Env} {a:Act} {w:World} (h:Rel X base mb D st β a w) (r:ResultVar) {v:ah} (hv:rm st.tm st.σ P r=some v) :
  ∃ x,(zT a.tmps r).run P w = .ok x w∧cf w (MT X st.σ β) β x v:=by
 cases r with
 | tmp t =>
  simp only [rm,aH] at hv;subst hv;exact ⟨_,rfl,wq h (.tmp t)⟩
 | cell c t =>
  obtain ⟨l,hl,h1⟩:=ay.1 hv;obtain ⟨cs,⟨g,of,cv,e1,e2,e3⟩,h4⟩:=To h.s (wq h (.tmp c)) h1;obtain ⟨x,h5,h6⟩:=SD hl e2 e3 h4;refine ⟨x,?_,h6⟩;simp only [Act.eval] at e1;simp only [zT,Sem.run_bind,e1,asAddr,Sem.run_pure,Result.andThen_ok,h5]
theorem S9 {X:Nat→Nat→Prop} {base mb:Nat} {D:List Deferred} {β:Env} {a:Act} {w:World} (h:Rel X base mb D st β a w) {fn:Func} {v:ah} (hv:gp P st fn.results.toList=some v) :
  ∃ x,(results fn a.tmps).run P w = .ok x w∧cf w (MT X st.σ β) β x v:=by
 have key:∀ (rs:List ResultVar) (vs:List ah),rs.mapM (rm st.tm st.σ P)=some vs →
   ∃ xs:List Value,(rs.mapM (zT a.tmps)).run P w = .ok xs w∧xs.length=vs.length ∧
    ∀ k,k<vs.length→cf w (MT X st.σ β) β (xs.getD k undef) (vs.getD k .undef):=by
  intro rs
  induction rs with
  | nil=>intro vs hm;simp at hm;subst hm;exact ⟨[],rfl,rfl,fun k hk=>by simp at hk⟩
  | cons r rs ih =>
   intro vs hm;simp only [nC,Option.bind_eq_bind,ay,Option.pure_def,aH] at hm;obtain ⟨y,hy,ys,CT,rfl⟩:=hm;obtain ⟨x,h1,h2⟩:=Yp0 h r hy;obtain ⟨xs,h3,h4,h5⟩:=ih ys CT;refine ⟨x :: xs,?_,by simp [h4],fun k hk=>?_⟩
   ·rw [nC,Sem.run_bind,h1];simp only [Result.andThen_ok,Sem.run_bind];rw [h3];rfl
   ·cases k with
    | zero=>exact h2
    | succ k=>simp only [ax] at hk;simpa using h5 k (by omega)
 unfold gp at hv;have BQ:∀ xs:List Value,(fn.results.toList.mapM (zT a.tmps)).run P w = .ok xs w →
   (results fn a.tmps).run P w = .ok (if h:xs.toArray.size=1 then xs.toArray[0] else .tuple xs.toArray) w:=by
  intro xs xk;simp only [Ycm,Sem.run_bind];rw [show fn.results=fn.results.toList.toArray from (rG).symm,List.mapM_toArray]
  simp only [Sem.run_map];rw [xk];rfl
 split at hv
 ·rename_i y hm;simp only [aH] at hv;subst hv;obtain ⟨xs,h1,h2,h3⟩:=key _ _ hm
  match xs,h2 with
  | [x],_=>exact ⟨x,BQ _ h1,h3 0 (by simp)⟩
 ·rename_i vs eH hm;simp only [aH] at hv;subst hv;obtain ⟨xs,h1,h2,h3⟩:=key _ _ hm;refine ⟨.tuple xs.toArray,?_, .dT (by simpa using h2) (fun k hk=>?_)⟩
  ·rw [BQ _ h1,dif_neg];simp only [List.size_toArray];intro oq;rw [h2] at oq
   match vs,oq with
   | [y],_=>exact eH y rfl
  ·have:=h3 k hk
   rwa [show xs.toArray.getD k undef=xs.getD k undef by simp [List.getD,ak]]
 ·cases hv
def St.enter (fn:Func) (args:List ah) (σ:ai):St:=⟨args++List.replicate (fn.ntmps - args.length) .undef,σ⟩
def Cw (P:Program) (fn:Func) (K:ah→ai→Prop) (e:ct) (s:St):Prop :=
 match e with
 | .normal | .ret=>∃ r,gp P s fn.results.toList=some r∧K r s.σ
 | _=>False
theorem T5 {mb:Nat} {D:List Deferred}:∀ (rs:List Nat) (w:World) (fr:Frame) (cs:List Frame),fr.mode≠.run→fr.defers=rs.map (fun r=>{ target:=.collected r,args:=#[] })++D→rs.Nodup →
  (∀ r∈rs,mb≤r∧w.heap[r]? = some (.deferred (some []))) →
  ∃ w',Steps P (lone fr cs w) (lone { fr with defers:=D } cs w')∧w'.os=w.os∧w'.tape=w.tape∧w'.output=w.output∧w'.heap.size=w.heap.size∧(∀ g,(∀ r∈rs,g≠r)→w'.heap[g]? = w.heap[g]?) ∧
   ∀ r∈rs,w'.heap[r]? = some (.deferred none)
 | [],w,fr,cs,hm,hd,_,_=>by
  simp only [aV,bn] at hd;refine ⟨w,?_,rfl,rfl,rfl,rfl,fun _ _=>rfl,fun r hr=>by simp at hr⟩;have : { fr with defers:=D }=fr:=by cases fr;simp_all
  rw [this];exact .refl _ _
 | r :: rs,w,fr,cs,hm,hd,hn,hw=>by
  simp only [aK,bp] at hd;have h1:=(hw r (by simp)).2;have bA:r<w.heap.size:=(aO.1 h1).1;have ft:(Instr.takeDeferred r).run P w = .ok [] { w with heap:=w.heap.setIfInBounds r (.deferred none) }:=by
   simp [Instr.takeDeferred,getObj,setObj,Sem.run,h1]
  have fP:step P (lone fr cs w) = .next (lone { fr with defers:=rs.map (fun r=>{ target:=.collected r,args:=#[] })++D } cs { w with heap:=w.heap.setIfInBounds r (.deferred none) }):=by
   refine step_lone_go ?_;cases zk:fr.mode with
   | run=>exact absurd zk hm
   | returning=>simp [stepG,unwind,zk,hd,Sem.runT_eq,ft]
   | panicking ch=>simp [stepG,unwind,zk,hd,Sem.runT_eq,ft]
  have Ku:=eT.1 hn;obtain ⟨w',g1,g2,g3,g4,g5,g6,g7⟩:=T5 (mb:=mb) (D:=D) rs { w with heap:=w.heap.setIfInBounds r (.deferred none) } { fr with defers:=rs.map (fun r=>{ target:=.collected r,args:=#[] })++D } cs hm rfl Ku.2
   (fun q hq=>⟨(hw q (by simp [hq])).1,by
    have:q≠r:=by rintro rfl;exact Ku.1 hq
    simp only [bJ];rw [if_neg (gQ this)];exact (hw q (by simp [hq])).2⟩)
  refine ⟨w', .head fP g1,g2,g3,g4,by rw [g5];simp,fun g hg=>?_,fun q hq=>?_⟩
  ·rw [g6 g (fun q hq=>hg q (by simp [hq]))];simp only [bJ];rw [if_neg (gQ (hg r (by simp)))]
  ·simp only [aQ] at hq;rcases hq with rfl | hq
   ·by_cases fD:q∈rs
    ·exact g7 q fD
    ·rw [g6 q (fun r' pV e=>fD (e ▸ pV))];simp [bJ,bA]
   ·exact g7 q hq
theorem Rel.zZ {X:Nat→Nat→Prop} {base mb:Nat} {D:List Deferred} {β:Env} {a:Act} {w:World} (h:Rel X base mb D st β a w) (fr:Frame) (cs:List Frame) (hm:fr.mode≠.run) (hd:fr.defers=a.defers) :
  ∃ w2,Steps P (lone fr cs w) (lone { fr with defers:=D } cs w2)∧Rel X base mb D st β { a with defers:=D } w2 ∧
   ∀ lo kL B7 w0,w0.heap.size≤mb→Ext lo kL B7 w0 st.σ β w→Ext lo kL B7 w0 st.σ β w2:=by
 obtain ⟨rs,m1,m2,m3⟩:=h.d;obtain ⟨w2,t1,t2,t3,t4,t5,t6,t7⟩:=T5 (P:=P) (D:=D) rs w fr cs hm (hd.trans m1) m2 m3;have jI:∀ (g':Nat) (o:Obj),w.heap[g']? = some o→(∀ d,o≠.deferred d)→w2.heap[g']? = some o:=by
  intro g' o ho eH;rw [t6 g' (fun r hr e=>by subst e;rw [(m3 g' hr).2] at ho;cases ho;exact eH _ rfl)];exact ho
 have lJ:∀ (g' o:Nat) (v:Value),w.cell? ⟨g',o,none⟩=some v→w2.cell? ⟨g',o,none⟩=some v:=by
  intro g' o v hc;obtain ⟨c',e',fz,uI⟩:∃ c' e' fz,w.heap[g']? = some (.cells c' e' fz):=by
   simp only [World.cell?] at hc;split at hc
   ·rename_i c' e' fz uI;exact ⟨_,_,_,uI⟩
   ·cases hc
  rw [World.cell?_of_block (w:=w) (by rw [jI _ _ uI (fun d e=>by cases e),uI])];exact hc
 have r9:dD w (MT X st.σ β) w2 (MT X st.σ β) :=
  ⟨fun g' o v hc hn=>⟨lJ g' o v hc,hn⟩,fun g' es cl hg hn=>⟨jI _ _ hg (fun d e=>by cases e),hn⟩⟩
 have Az:cS X base st.σ β w2:=by
  refine ⟨h.s.oo,fun b' cw nN=>?_,h.s.inj,by rw [t5];exact h.s.size,fun g' o hx=>by rw [t5];exact h.s.qL g' o hx,fun x hx=>let ⟨g1,v,g2,g3⟩:=h.s.gl x hx;⟨g1,v,lJ _ _ _ g2,g3⟩⟩
  obtain ⟨L,q1,q2,q3,q4⟩:=h.s.cw b' cw nN;refine ⟨L,q1,q2,q3,q4.mono r9 (fun _ _ h=>h) ?_⟩;cases cw with
  | var nL=>obtain ⟨c',e',h,_⟩:=q4;rw [jI _ _ h (fun d e=>by cases e),h]
  | row es fz=>obtain ⟨c',e',h,_⟩:=q4;rw [jI _ _ h (fun d e=>by cases e),h]
  | map ks uB fz=>obtain ⟨c',e',h,_⟩:=q4;rw [jI _ _ h (fun d e=>by cases e),h]
  | iter s p=>have h:w.heap[L.g]? = some (.stringIter s p):=q4;rw [jI _ _ h (fun d e=>by cases e),h]
  | lL ks uB seen=>obtain ⟨m',tb,c',h,_⟩:=q4;rw [jI _ _ h (fun d e=>by cases e),h]
  | loop r'=>obtain ⟨c',e',f',h,_⟩:=q4;rw [jI _ _ h (fun d e=>by cases e),h]
 refine ⟨w2,t1,⟨Az,h.n,fun k hk=>(h.t k hk).mono r9 (fun _ _ h=>h),⟨[],by simp,iF,fun r hr=>by simp at hr⟩⟩,fun lo kL B7 w0 FM r3=>?_⟩;refine ⟨t2.trans r3.os,t3.trans r3.tape,t4.trans r3.output,by rw [t5];exact r3.size,fun g' o v hc hn=>?_,fun g' uI hn=>?_,r3.jb,r3.env⟩
 ·have r6:=r3.cell g' o v hc hn;have bA:=yP hc;rw [World.cell?_of_block (w:=w) (a:=⟨g',o,none⟩) (t6 g' (fun r hr e=>by have:=(m3 r hr).1;omega))];exact r6
 ·rw [t6 g' (fun r hr e=>by have:=(m3 r hr).1;omega)];exact r3.block g' uI hn
def kV (g:FuncId) (kind:CallKind):Frame:={ (default:Frame) with fn:=g,kind }
theorem Tr {g:FuncId} {fn:Func} {c:Code} (hf:P.funcs[g]? = some fn) (hb:fn.body=some c) (vs:Array Value) (kind:CallKind) :
  Frame.enter P g vs kind=(kV g kind).atR { tmps:=vs++Array.replicate (fn.ntmps - vs.size) undef,defers:=[] } [.code c]:=by
 simp [Frame.enter,Frame.atR,hf,hb,kV];rfl
theorem U7 {X:Nat→Nat→Prop} {base:Nat} {fn:Func} {args:List ah} {σ:ai} {β:Env} {w:World} {vs:Array Value} (h1:cS X base σ β w) (h2:vs.size=args.length)
  (h3:∀ k,k<args.length→cf w (MT X σ β) β (vs.getD k undef) (args.getD k .undef)) :
  Rel X base w.heap.size [] (St.enter fn args σ) β { tmps:=vs++Array.replicate (fn.ntmps - vs.size) undef,defers:=[] } w:=by
 refine ⟨h1,by simp only [St.enter,Array.size_append,Array.size_replicate,az,bB,h2],fun k hk=>?_,⟨[],rfl,iF,fun r hr=>by simp at hr⟩⟩;simp only [St.enter] at hk ⊢;rw [uC,ak,lO];by_cases c1:k<args.length
 ·rw [if_pos (by omega),if_pos c1,← ak];exact h3 k c1
 ·rw [if_neg c1];have:(List.replicate (fn.ntmps - args.length) ah.undef).getD (k - args.length) .undef = .undef:=by
   simp [List.getD,dv];split<;>rfl
  rw [this];exact .undef _
theorem Zv6 {fr : Frame} {cs : List Frame} {w : World} {g : FuncId} {fn : Func} {c : Code} {vs : Array Value} (hf : P.funcs[g]? = some fn) (hb : fn.body = some c) (ff : (fn.name == "runtime.NumGoroutine") = false) (Aq : yJ fr) :
  (stepG.apply P true fr cs none (callFunc g vs) w).bare = .go { frame:=Frame.enter P g vs .normal,callers:=fr :: cs,status:=.running,dying:=none } w:=by
 have se : ¬ fn.name = "runtime.NumGoroutine" := by simpa using ff
 have kO:(callFunc g vs).run P w = .ok (.enter g vs) w:=by simp [callFunc,hf,se,hb]
 simp only [stepG.apply,if_true,Sem.runT_eq,kO,GStep.bare_after,GStep.bare_go];split
 ·rename_i d s a k e;exact absurd e (Aq _ _ _ _ _)
 ·rfl
theorem Zwx {X:Nat→Nat→Prop} {base mb:Nat} {fn:Func} {eL:St} {β':Env} {a':Act} {w':World} {b:Frame} {k:List Item} {r:ah} {g:FuncId} {cs:List Frame} (hf:P.funcs[g]? = some fn) (hg:b.fn=g) (r2:Rel X base mb [] eL β' a' w')
  (hr:gp P eL fn.results.toList=some r) :
  ∃ x w2,cf w2 (MT X eL.σ β') β' x r∧cS X base eL.σ β' w2∧(∀ lo kL B7 w0,w0.heap.size≤mb→Ext lo kL B7 w0 eL.σ β' w'→Ext lo kL B7 w0 eL.σ β' w2) ∧
   Steps P (lone { b.atR a' k with mode:=.returning } cs w') (lone { b.atR { a' with defers:=[] } k with mode:=.returning } cs w2) ∧
   (stepG P true { frame:={ b.atR { a' with defers:=[] } k with mode:=.returning },callers:=cs,status:=.running,dying:=none } w2).bare=(doReturn P true { b.atR { a' with defers:=[] } k with mode:=.returning } cs none x w2).bare:=by
 obtain ⟨w2,t1,tI,qi⟩:=r2.zZ (P:=P) { b.atR a' k with mode:=.returning } cs (by simp) rfl;obtain ⟨x,zz,FZ⟩:=S9 tI hr;refine ⟨x,w2,FZ,tI.s,qi,t1,?_⟩;have PZ:(results fn a'.tmps).run P w2 = .ok x w2:=zz;subst hg;simp [stepG,unwind,Frame.atR,hf,Sem.runT_eq,PZ]
theorem cg.body {g : FuncId} {fn : Func} {c : Code} {args : List ah} {σ : ai} {K : ah → ai → Prop} (hf : P.funcs[g]? = some fn) (hb : fn.body = some c) (ff : (fn.name == "runtime.NumGoroutine") = false)
  (h:iy P ⟨σ.length,none⟩ c (St.enter fn args σ) (Cw P fn K)):cg P g args σ K:=by
 intro X base β w vs h1 h2 h3 fr cs Aq;obtain ⟨e,eL,β',a',w',q,r1,r2,r3,r4⟩:=h X base w.heap.size [] β _ w (kV g .normal) [] (fr :: cs) (ae _) (ae _) (U7 h1 h2 h3) rfl;rw [← Tr hf hb] at r4;have hq:∃ r,gp P eL fn.results.toList=some r∧K r eL.σ:=by cases e<;>first | exact q | exact q.elim
 obtain ⟨r,ov,nP⟩:=hq;obtain ⟨todo,gx⟩:∃ todo,Steps P (lone (Frame.enter P g vs .normal) (fr :: cs) w) (lone { (kV g .normal).atR a' todo with mode:=.returning } (fr :: cs) w'):=by
  cases e with
  | normal=>exact ⟨[],Steps.trans r4 (.one (stepR_end rfl))⟩
  | ret=>obtain ⟨k',e7⟩:=r4;exact ⟨_,Steps.trans e7 (.one (stepR_ret rfl))⟩
  | exit id=>exact q.elim
  | goto l=>exact q.elim
  | panic u=>exact q.elim
 obtain ⟨x,w2,hx,Az,qi,t1,t2⟩:=Zwx (k:=todo) (b:=kV g .normal) (cs:=fr :: cs) hf rfl r2 ov;refine ⟨r,eL.σ,β',x,w2,nP,Az,hx,qi _ _ _ _ (ae _) r3,r1,Frame.enter P g vs .normal,fr :: cs,w,Zv6 hf hb ff Aq,(gx.trans t1).trans (.one (step_lone_go ?_))⟩;rw [t2];simp [doReturn,Frame.atR,kV]
end
end Go.dm
