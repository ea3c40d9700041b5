/- Part 11 of my own framework and of the walks of functions: AbsM. -/
import Derived.Test.YtfjbdamcmiglgaaGreatOwn10
abbrev bj:=@List.cons_append
abbrev aQ:=@List.mem_cons
abbrev bh:=@List.nil_append
abbrev eQ:=@List.nodup_cons
abbrev kG:=@List.nodup_nil
set_option linter.unusedVariables false
set_option linter.unusedSectionVars false
set_option linter.unusedSimpArgs false
namespace Go.c8
open Go
section
variable {P:Program} {lo:Ctx} {st:St}
theorem Zm9 {X:Nat→Nat→Prop} {base:Nat} {σ:ai} {β:Env} {w:World} (hr:cC X base σ β w) {g:Nat} {o:Option (List Deferred)} (hg:w.heap[g]? = some (.deferred o)):∀ off, ¬ iO σ β g off:=by
 rintro off ⟨b,cd,L,h1,h2,rfl,h4⟩
 obtain ⟨L',uG,_,_,j9⟩:=hr.cd b cd h1
 obtain rfl:L=L':=aM (h2.symm.trans uG)
 cases cd with
 | row es fz=>obtain ⟨c,e,h5,_⟩:=j9;rw [hg] at h5;cases h5
 | map ks vs fz=>obtain ⟨c,e,h5,_⟩:=j9;rw [hg] at h5;cases h5
 | var cs=>obtain ⟨c,e,h5,_⟩:=j9;rw [hg] at h5;cases h5
 | iter s p=>have:w.heap[L.g]? = some (.stringIter s p):=j9;rw [hg] at this;cases this
 | kZ ks vs seen=>obtain ⟨m,es,c,h5,_⟩:=j9;rw [hg] at h5;cases h5
 | loop r=>obtain ⟨t,d,f,h5,_⟩:=j9;rw [hg] at h5;cases h5
theorem Marks.ext {X:Nat→Nat→Prop} {base mb l:Nat} {D:List Deferred} {σ σ':ai} {β β':Env} {w w':World} {ds:List Deferred} (h:Marks mb D w ds) (hr:cC X base σ β w) (he:Ext l σ β w σ' β' w'):Marks mb D w' ds:=by
 obtain ⟨rs,h1,h2,h3⟩:=h
 refine ⟨rs,h1,h2,fun r qj=>⟨(h3 r qj).1,?_⟩⟩
 have h4:=(h3 r qj).2
 exact (he.block r (aL.1 h4).1 (Zm9 hr h4)).trans h4
theorem yW (tm:List ae) (d:Option Tmp) (v:ae):(put tm d v).length=tm.length:=by cases d<;>simp [put]
theorem Rel.next {X:Nat→Nat→Prop} {base mb l:Nat} {D:List Deferred} {β β':Env} {a:Act} {w w':World} {σ':ai} (h:Rel X base mb D st β a w) (hs:cC X base σ' β' w') (he:Ext l st.σ β w σ' β' w') (hβ:∀ b L,β b=some L→β' b=some L)
  {v:Value} {r:ae} (hv:bR w' (MT X σ' β') β' v r) (dst:Option Tmp):Rel X base mb D ⟨put st.tm dst r,σ'⟩ β' (a.put dst v) w':=by
 have hk:=he.keeps h.s
 refine ⟨hs,?_,fun k er=>?_,?_⟩
 ·cases dst<;>simp [Act.put,put,h.n]
 ·rw [yW] at er
  have h0:=(h.t k er).mono hk hβ
  cases dst with
  | none=>exact h0
  | some d =>
   simp only [Act.put,put]
   rw [aj,bC]
   by_cases e:d=k
   ·subst e
    rw [if_pos rfl,if_pos (by rw [h.n];exact er),EM _ _ _ er];exact hv
   ·rw [if_neg e,← aj,getD_set_ne _ _ _ _ e];exact h0
 ·have:=h.d.ext h.s he
  cases dst<;>exact this
def gone:ae:=.nL undef
def wb:Value→Bool
 | .bool _=>true
 | _=>false
def mc (ops:Array Oper) (tm:List ae) (o:Oper):Option Bool :=
 match o.guard with
 | none=>some true
 | some (j,want)=>match (ops[j]?).bind (·.dst) with
  | some d=>match tm[d]? with
   | some (.bool b)=>some (b==want)
   | some (.nL v)=>if wb v then none else some false
   | _=>none
  | none=>none
theorem zB {X:Nat→Nat→Prop} {base mb:Nat} {D:List Deferred} {β:Env} {a:Act} {w:World} (h:Rel X base mb D st β a w) {ops:Array Oper} {o:Oper} {b:Bool} (hg:mc ops st.tm o=some b):Region.wanted o (yielded ops a.tmps)=b:=by
 unfold mc at hg
 unfold Region.wanted
 split at hg
 ·rename_i e;rw [e];simpa using hg
 ·rename_i j want e
  rw [e]
  simp only
  split at hg
  ·rename_i d hd
   split at hg
   ·rename_i c hc
    cases hg
    obtain ⟨bD,hv⟩:=aI.1 hc
    have h1:=h.t d bD
    rw [show st.tm.getD d ae.undef = .bool c by simp [List.getD,hc]] at h1
    have h2:a.tmps[d]? = some (.bool c):=by
     rw [aB (by rw [h.n];exact bD)]
     have:=h1.g_
     rw [aj,aB (by rw [h.n];exact bD)] at this
     simpa using this
    simp only [yielded,hd,eo,h2]
    cases c<;>cases want<;>rfl
   ·rename_i v hv
    split at hg
    ·cases hg
    ·rename_i MW
     cases hg
     obtain ⟨bD,Nu⟩:=aI.1 hv
     have h1:=h.t d bD
     rw [show st.tm.getD d ae.undef = .nL v by simp [List.getD,hv]] at h1
     have h2:a.tmps[d]? = some v:=by
      rw [aB (by rw [h.n];exact bD)]
      have M7:∀ {M:Nat→Nat→Prop} {x y:Value},bR w M β x (.nL y)→x=y:=fun h=>by cases h;rfl
      have:a.tmps.getD d undef=v:=M7 h1
      rw [aj,aB (by rw [h.n];exact bD)] at this
      simpa using this
     simp only [yielded,hd,eo,h2]
     cases v<;>first | rfl | exact absurd rfl MW
   ·cases hg
  ·cases hg
theorem Rel.keep {X:Nat→Nat→Prop} {base mb l:Nat} {D:List Deferred} {β β':Env} {a:Act} {w w':World} {σ':ai} (h:Rel X base mb D st β a w) (hs:cC X base σ' β' w') (he:Ext l st.σ β w σ' β' w') (hβ:∀ b L,β b=some L→β' b=some L) :
  Rel X base mb D ⟨st.tm,σ'⟩ β' a w':=h.next hs he hβ (v:=undef) (r:=.undef) (.undef _) none
theorem lY.nil {ops:Array Oper} {r:List Nat} {Q:b9→St→Prop} (h:Q .normal st):lY P lo ops r [] st Q :=
 fun X base mb D β a w b k cs h1 h2 h3=>⟨.normal,st,β,a,w,h,h1,h3,Ext.refl _ _ _ _,rfl, .refl _ _⟩
theorem lY.Cn {ops:Array Oper} {r:List Nat} {i:Nat} {rest:List Nat} {o:Oper} {Q:b9→St→Prop} (ho:ops[i]? = some o) (hg:mc ops st.tm o=some false) (h:lY P lo ops r rest ⟨put st.tm o.dst gone,st.σ⟩ Q):lY P lo ops r (i :: rest) st Q:=by
 intro X base mb D β a w b k cs h1 h2 h3
 have hw:=zB h3 hg
 have h4:=h3.next h3.s (Ext.refl 0 _ _ _) (fun _ _ h=>h) (v:=undef) (r:=gone) (.nL _) o.dst
 obtain ⟨e,dV,β',a',w',q,r1,r2,r3,rd,r4⟩:=h X base mb D β _ w b k cs h1 h2 h4
 refine ⟨e,dV,β',a',w',q,r1,r2,r3,by rw [rd];cases o.dst<;>rfl, .of_steps (.one (stepR_op_skip (by simp [ho,hw]))) ?_⟩
 rw [ho];exact r4
theorem Sq {σ:ai} {nm:Nat} {ρ:Operand→ae} {o:Oper} {r:ae×ai} (h:cY P σ nm ρ o.op=some r):∀ c,o.op≠.defer c:=by
 intro c e;rw [e] at h;simp [cY] at h
theorem lY.op {ops:Array Oper} {rs:List Nat} {i:Nat} {rest:List Nat} {o:Oper} {Q:b9→St→Prop} (ho:ops[i]? = some o) (hg:mc ops st.tm o=some true) {r:ae} {σ':ai} (hE:cY P st.σ st.σ.length (ev st.tm) o.op=some (r,σ'))
  (hlen:lo.n≤st.σ.length→lo.n≤σ'.length) (h:lY P lo ops rs rest ⟨put st.tm o.dst r,σ'⟩ Q):lY P lo ops rs (i :: rest) st Q:=by
 intro X base mb D β a w b k cs h1 h2 h3
 have hw:=zB h3 hg
 obtain ⟨v,w1,eO,eL,g1,g2,g3,g4,g5⟩:=Se h3.s (h3.s.nA _ (ah _)) (fun x=>uP h3 x) (fun _=>rfl) hE
 have hrel:=h3.next g1 g3 g5 g2 o.dst
 obtain ⟨e,dV,β',a',w',q,r1,r2,r3,rd,r4⟩:=h X base mb D eO _ w1 b k cs (hlen h1) (cP h2 g3.size) hrel
 have pC:Ext lo.n st.σ β w σ' eO w1:=⟨g3.os,g3.tape,g3.output,g3.size,g3.cell,g3.block,g3.iB,fun c hc=>g4 c (by omega)⟩
 refine ⟨e,dV,β',a',w',q,r1,r2,pC.trans r3,by rw [rd];cases o.dst<;>rfl, .of_steps (.one (step_lone_go ?_)) r4⟩
 rw [bj,stepGR_op ho hw,Oper.semAt_eq _ _ _ (Sq hE)]
 have fZ:=Frame.finish_atR b a ops i (rest++rs) k v
 rw [ho] at fZ
 rcases eL with eL | ⟨eL,rfl⟩
 ·simp only [stepG.apply,if_true,Sem.runT_eq,eL,GStep.bare_after,GStep.bare_go]
  rw [fZ];rfl
 ·simp only [stepG.apply,if_true,Sem.runT_eq,eL,GStep.bare_after,GStep.bare_go]
  rw [fZ];rfl
theorem lY.region {id:Nat} {ops:Array Oper} {Q:b9→St→Prop} (h:lY P lo ops [] (List.range ops.size) st Q):ib P lo (.region id ops false) st Q:=by
 intro X base mb D β a w b k cs h1 h2 h3 _
 obtain ⟨e,dV,β',a',w',q,r1,r2,r3,rd,r4⟩:=h X base mb D β a w b k cs h1 h2 h3
 rw [bn] at r4
 refine ⟨e,dV,β',a',w',q,r1,r2,r3, .of_steps (.one stepR_region) ?_⟩
 cases e with
 | normal=>exact Steps.trans r4 (.one stepR_region_end)
 | exit id=>obtain ⟨k',e1,e2⟩:=r4;exact ⟨k',by rw [e1];rfl,e2⟩
 | goto l=>obtain ⟨k',e1,e2⟩:=r4;exact ⟨k',by rw [e1];rfl,e2⟩
 | ret=>exact r4
 | panic u=>exact r4
def xy (fr:Frame):Prop:=∀ d b s a k,fr.todo≠.call d b s a :: k
def Fin (P:Program) (fr:Frame) (cs:List Frame) (s:Sem Next) (w:World) (v:Value) (w':World):Prop :=
 ∃ f1 Aa w1,(stepG.apply P true fr cs none s w).bare = .go { frame:=f1,callers:=Aa,status:=.running,dying:=none } w1∧Steps P (lone f1 Aa w1) (lone (fr.finish v) cs w')
def dp (P:Program) (F:Frame→List Frame→Sem Next→World→Value→World→Prop) (f:ae) (args:List ae) (σ:ai) (K:ae→ai→Prop):Prop :=
 ∀ (X:Nat→Nat→Prop) (base:Nat) (β:Env) (w:World) (vf:Value) (vs:Array Value),cC X base σ β w→bR w (MT X σ β) β vf f→vs.size=args.length →
  (∀ k,k<args.length→bR w (MT X σ β) β (vs.getD k undef) (args.getD k .undef))→∀ (fr:Frame) (cs:List Frame),xy fr →
  ∃ r σ' β' v w',K r σ'∧cC X base σ' β' w'∧bR w' (MT X σ' β') β' v r∧Ext σ.length σ β w σ' β' w'∧σ.length≤σ'.length ∧
   F fr cs (do let d ← Deferred.ofValue vf vs;invoke d.target d.args) w v w'
def gQ (P:Program) (F:Frame→List Frame→Sem Next→World→Value→World→Prop) (g:FuncId) (args:List ae) (σ:ai) (K:ae→ai→Prop):Prop :=
 ∀ (X:Nat→Nat→Prop) (base:Nat) (β:Env) (w:World) (vs:Array Value),cC X base σ β w→vs.size=args.length →
  (∀ k,k<args.length→bR w (MT X σ β) β (vs.getD k undef) (args.getD k .undef))→∀ (fr:Frame) (cs:List Frame),xy fr →
  ∃ r σ' β' v w',K r σ'∧cC X base σ' β' w'∧bR w' (MT X σ' β') β' v r∧Ext σ.length σ β w σ' β' w'∧σ.length≤σ'.length∧F fr cs (callFunc g vs) w v w'
abbrev aq (P:Program) (f:ae) (args:List ae) (σ:ai) (K:ae→ai→Prop):Prop:=dp P (Fin P) f args σ K
abbrev bS (P:Program) (g:FuncId) (args:List ae) (σ:ai) (K:ae→ai→Prop):Prop:=gQ P (Fin P) g args σ K
theorem dp.mono {F:Frame→List Frame→Sem Next→World→Value→World→Prop} {f:ae} {args:List ae} {σ:ai} {K K':ae→ai→Prop} (h:dp P F f args σ K) (hk:∀ r s,K r s→K' r s):dp P F f args σ K':=by
 intro X base β w vf vs h1 nB h2 h3 fr cs h4
 obtain ⟨r,σ',β',v,w',q,rest⟩:=h X base β w vf vs h1 nB h2 h3 fr cs h4
 exact ⟨r,σ',β',v,w',hk _ _ q,rest⟩
theorem aq.mono {f:ae} {args:List ae} {σ:ai} {K K':ae→ai→Prop} (h:aq P f args σ K) (hk:∀ r s,K r s→K' r s):aq P f args σ K':=dp.mono h hk
theorem aq.sh {F:Frame→List Frame→Sem Next→World→Value→World→Prop} {g:FuncId} {first captured args:List ae} {σ:ai} {K:ae→ai→Prop} (h:gQ P F g (first++args++captured) σ K):dp P F (.fn g first captured) args σ K:=by
 intro X base β w vf vs h1 nB h2 h3 fr cs h4
 cases nB with
 | @fn _ fa ca _ _ e1 e2 r1 r2 =>
  obtain ⟨r,σ',β',v,w',q,g1,g2,g3,g4,g5⟩:=h X base β w (fa++vs++ca) h1 (by simp [e1,e2,h2]) (fun k hk=>by
   simp only [ay] at hk
   rw [sS,sS,P2]
   simp only [ay]
   by_cases c1:k<first.length
   ·rw [if_pos (by omega),if_pos (by omega),if_pos c1];exact r1 k c1
   ·by_cases c2:k<first.length+args.length
    ·rw [if_neg (by omega),if_pos (by omega),if_pos c2,if_neg c1,e1];exact h3 _ (by omega)
    ·rw [if_neg (by omega),if_neg (by omega),if_neg c2,e1,h2];exact r2 _ (by omega)) fr cs h4
  refine ⟨r,σ',β',v,w',q,g1,g2,g3,g4,?_⟩
  have:(do let d ← Deferred.ofValue (.func (.func g) fa ca) vs;invoke d.target d.args:Sem Next)=callFunc g (fa++vs++ca):=rfl
  rw [this];exact g5
def Ji (P:Program) (fr:Frame) (cs:List Frame) (s:Sem Next) (w:World) (u:Value) (w':World):Prop :=
 ∃ f1 Aa w1,(stepG.apply P true fr cs none s w).bare = .go { frame:=f1,callers:=Aa,status:=.running,dying:=none } w1∧Steps P (lone f1 Aa w1) (lone (fr.raise [{ v:=u,recovered:=false }]) cs w')
abbrev EK (P:Program) (f:ae) (args:List ae) (σ:ai) (K:ae→ai→Prop):Prop:=dp P (Ji P) f args σ K
theorem lY.call {ops:Array Oper} {rs:List Nat} {i:Nat} {rest:List Nat} {o:Oper} {Q:b9→St→Prop} (ho:ops[i]? = some o) (hg:mc ops st.tm o=some true) {f:Operand} {args:Array Operand} {ts:Array TypeId} (hop:o.op = .call { callee:=.value f,args,argTypes:=ts })
  (h:aq P (ev st.tm f) (args.toList.map (ev st.tm)) st.σ (fun r σ'=>lY P lo ops rs rest ⟨put st.tm o.dst r,σ'⟩ Q)):lY P lo ops rs (i :: rest) st Q:=by
 intro X base mb D β a w b k cs h1 h2 h3
 have hw:=zB h3 hg
 obtain ⟨r,σ',β',v,w1,q,g1,g2,g3,g4,f1,Aa,w2,g5,g6⟩:=h X base β w (a.eval f) (args.map a.eval) h3.s (uP h3 f) (by simp) (fun j hj=>by
  simp only [ak,bA] at hj
  rw [aj,ei,aB hj]
  simp only [List.getD,cb,fX,aB hj,bu,br]
  exact uP h3 _) (b.atR a (.inRegion ops (i :: (rest++rs)) :: k)) cs (fun d b' s a' k' e=>by simp [Frame.atR] at e)
 have hβ:∀ c L,β c=some L→β' c=some L:=fun c L hc=>by
  by_cases gK:c<st.σ.length
  ·rw [g3.env c gK];exact hc
  ·rw [h3.s.nA c (by omega)] at hc;cases hc
 have hrel:=h3.next g1 g3 hβ g2 o.dst
 obtain ⟨e,dV,mJ,a',w',q',r1,r2,r3,rd,r4⟩:=q X base mb D β' _ w1 b k cs (cP h1 g4) (cP h2 g3.size) hrel
 refine ⟨e,dV,mJ,a',w',q',r1,r2,(g3.lower h1).trans r3,by rw [rd];cases o.dst<;>rfl, .of_steps (.head (step_lone_go ?_) g6) ?_⟩
 ·rw [bj,stepGR_op ho hw,Oper.semAt_eq _ _ _ (fun c e=>by rw [hop] at e;cases e)]
  rw [← g5]
  congr 2
  simp only [execOp,hop,resolve]
 ·have fZ:=Frame.finish_atR b a ops i (rest++rs) k v
  rw [ho] at fZ
  rw [fZ];exact r4
def ni:ae→Option Value
 | .bool b=>some (.bool b)
 | .int k n=>some (.int k n)
 | .str s=>some (.string s)
 | _=>none
def kr:List ae→Option (List Value)
 | []=>some []
 | a :: l=>(ni a).bind fun v=>(kr l).map (v :: ·)
def yL:ae→Option Value
 | .iface t (.agg cs)=>(kr cs).map fun l=>.iface t (.agg l.toArray)
 | .iface t a=>(ni a).map (.iface t)
 | _=>none
theorem Zys {M:Nat→Nat→Prop} {β:Env} {w:World} {a:ae} {v u:Value} (hp:ni a=some u) (h:bR w M β v a):v=u:=by
 cases a<;>simp only [ni,reduceCtorEq,aG] at hp<;>subst hp<;>cases h<;>rfl
theorem Wi {M:Nat→Nat→Prop} {β:Env} {w:World} {a:ae} {u:Value} (hp:ni a=some u):bR w M β u a:=by
 cases a<;>simp only [ni,reduceCtorEq,aG] at hp<;>subst hp<;>constructor
theorem Qc {M:Nat→Nat→Prop} {β:Env} {w:World}:∀ {cs:List ae} {us:List Value},kr cs=some us→us.length=cs.length∧(∀ k,k<cs.length→bR w M β (us.getD k undef) (cs.getD k .undef)) ∧
  ∀ vs:List Value,vs.length=cs.length→(∀ k,k<cs.length→bR w M β (vs.getD k undef) (cs.getD k .undef))→vs=us
 | [],us,h=>by
  simp only [kr,aG] at h;subst h
  exact ⟨rfl,fun k hk=>absurd hk (Nat.not_lt_zero _),fun vs hv _=>aY hv⟩
 | a :: l,us,h=>by
  simp only [kr,au,aH] at h
  obtain ⟨v,h1,EH,h2,rfl⟩:=h
  obtain ⟨g1,g2,g3⟩:=Qc h2
  refine ⟨by simp [g1],fun k hk=>?_,fun vs hv hr=>?_⟩
  ·cases k with
   | zero=>exact Wi h1
   | succ k=>simpa using g2 k (by simpa using hk)
  ·cases vs with
   | nil=>simp at hv
   | cons y vs =>
    have e1:=Zys h1 (hr 0 (by simp))
    simp only [bf] at e1
    rw [e1,g3 vs (by simpa using hv) (fun k hk=>by simpa using hr (k+1) (by simpa using hk))]
theorem Og {M:Nat→Nat→Prop} {β:Env} {w:World} {a:ae} {v u:Value} (hp:yL a=some u) (h:bR w M β v a):v=u:=by
 cases a<;>simp only [yL,reduceCtorEq] at hp
 rename_i t a
 cases h with
 | @iface _ y _ hy =>
  cases a<;>simp only [ni,j8,reduceCtorEq,bu,aG] at hp
  all_goals first
   | (subst hp;cases hy;rfl)
   | (obtain ⟨us,h1,rfl⟩:=aH.1 hp
      cases hy with
      | @agg cs l hn hr =>
       obtain ⟨_,_,g3⟩:=Qc (w:=w) (M:=M) (β:=β) h1
       have:=g3 cs.toList (by simpa using hn) (fun k hk=>by
        have:=hr k hk
        rwa [show cs.getD k Go.undef=cs.toList.getD k Go.undef by simp [List.getD,aj]] at this)
       rw [← this])
theorem YO {a:ae} {u:Value} (hp:yL a=some u):∃ t x,u = .iface t x:=by
 cases a<;>simp only [yL,reduceCtorEq] at hp
 rename_i t a
 cases a<;>simp only [ni,j8,reduceCtorEq,bu,aG] at hp
 all_goals first
  | (subst hp;exact ⟨_,_,rfl⟩)
  | (obtain ⟨us,h1,rfl⟩:=aH.1 hp;exact ⟨_,_,rfl⟩)
theorem lY.pan {ops:Array Oper} {rs:List Nat} {i:Nat} {rest:List Nat} {o:Oper} {Q:b9→St→Prop} (ho:ops[i]? = some o) (hg:mc ops st.tm o=some true) {f:Operand} {args:Array Operand} {ts:Array TypeId} (hop:o.op = .call { callee:=.value f,args,argTypes:=ts })
  (h:EK P (ev st.tm f) (args.toList.map (ev st.tm)) st.σ (fun r σ'=>∃ u,yL r=some u∧Q (.panic u) ⟨st.tm,σ'⟩)):lY P lo ops rs (i :: rest) st Q:=by
 intro X base mb D β a w b k cs h1 h2 h3
 have hw:=zB h3 hg
 obtain ⟨r,σ',β',v,w1,⟨u,hu,q⟩,g1,gr,g3,g4,f1,Aa,w2,g5,g6⟩:=h X base β w (a.eval f) (args.map a.eval) h3.s (uP h3 f) (by simp) (fun j hj=>by
  simp only [ak,bA] at hj
  rw [aj,ei,aB hj]
  simp only [List.getD,cb,fX,aB hj,bu,br]
  exact uP h3 _) (b.atR a (.inRegion ops (i :: (rest++rs)) :: k)) cs (fun d b' s a' k' e=>by simp [Frame.atR] at e)
 have hβ:∀ c L,β c=some L→β' c=some L:=fun c L hc=>by
  by_cases gK:c<st.σ.length
  ·rw [g3.env c gK];exact hc
  ·rw [h3.s.nA c (by omega)] at hc;cases hc
 obtain rfl:=Og hu gr
 refine ⟨.panic v,⟨st.tm,σ'⟩,β',a,w1,q,cP h1 g4,h3.keep g1 g3 hβ,g3.lower h1,rfl, .inRegion ops (i :: (rest++rs)) :: k, .head (step_lone_go ?_) g6⟩
 rw [bj,stepGR_op ho hw,Oper.semAt_eq _ _ _ (fun c e=>by rw [hop] at e;cases e)]
 rw [← g5]
 congr 2
 simp only [execOp,hop,resolve]
theorem lY.panic {ops:Array Oper} {rs:List Nat} {i:Nat} {rest:List Nat} {o:Oper} {Q:b9→St→Prop} (ho:ops[i]? = some o) (hg:mc ops st.tm o=some true) {x:Operand} (hop:o.op = .panic x) {u:Value} (hu:yL (ev st.tm x)=some u)
  (h:Q (.panic u) st):lY P lo ops rs (i :: rest) st Q:=by
 intro X base mb D β a w b k cs h1 h2 h3
 have hw:=zB h3 hg
 have hv:=Og hu (uP h3 x)
 obtain ⟨t,y,hi⟩:=YO hu
 refine ⟨.panic u,st,β,a,w,h,h1,h3,Ext.refl _ _ _ _,rfl, .inRegion ops (i :: (rest++rs)) :: k, .one (step_lone_go ?_)⟩
 rw [bj,stepGR_op ho hw,Oper.semAt_eq _ _ _ (fun c e=>by rw [hop] at e;cases e)]
 have eL:(execOp a.eval o).run P w = .halt (.panic u) w:=by
  simp only [execOp,hop,hv,hi,Instr.panic,Sem.run_bind];rfl
 simp only [stepG.apply,if_true,Sem.runT_eq,eL,GStep.bare_after,GStep.bare_go]
 rfl
def qe (tm:List ae) (σ:ai) (P:Program):ResultVar→Option ae
 | .tmp t=>some (tm.getD t .undef)
 | .cell a t=>(aC P t).bind fun l=>iS σ l (tm.getD a .undef)
def fD (P:Program) (st:St) (rs:List ResultVar):Option ae :=
 match rs.mapM (qe st.tm st.σ P) with
 | some [v]=>some v
 | some vs=>some (.dz vs)
 | none=>none
def yN (tmps:Array Value):ResultVar→Sem Value
 | .tmp t=>pure (tmps.getD t undef)
 | .cell a t=>do loadVar t (← asAddr (tmps.getD a undef))
theorem Zza (fn:Func) (tmps:Array Value):results fn tmps=(do let vs ← fn.results.mapM (yN tmps);pure (if h:vs.size=1 then vs[0] else .tuple vs)):=rfl
theorem Ykr {X:Nat→Nat→Prop} {base mb:Nat} {D:List Deferred} {β:Env} {a:Act} {w:World} (h:Rel X base mb D st β a w) (r:ResultVar) {v:ae} (hv:qe st.tm st.σ P r=some v) :
  ∃ x,(yN a.tmps r).run P w = .ok x w∧bR w (MT X st.σ β) β x v:=by
 cases r with
 | tmp t =>
  simp only [qe,aG] at hv;subst hv
  exact ⟨_,rfl,uP h (.tmp t)⟩
 | cell c t =>
  obtain ⟨l,hl,h1⟩:=au.1 hv
  obtain ⟨cs,⟨g,of,cv,e1,e2,e3⟩,h4⟩:=Qn h.s (uP h (.tmp c)) h1
  obtain ⟨x,h5,h6⟩:=PR hl e2 e3 h4
  refine ⟨x,?_,h6⟩
  simp only [Act.eval] at e1
  simp only [yN,Sem.run_bind,e1,asAddr,Sem.run_pure,Result.andThen_ok,h5]
theorem P9 {X:Nat→Nat→Prop} {base mb:Nat} {D:List Deferred} {β:Env} {a:Act} {w:World} (h:Rel X base mb D st β a w) {fn:Func} {v:ae} (hv:fD P st fn.results.toList=some v) :
  ∃ x,(results fn a.tmps).run P w = .ok x w∧bR w (MT X st.σ β) β x v:=by
 have key:∀ (rs:List ResultVar) (vs:List ae),rs.mapM (qe st.tm st.σ P)=some vs →
   ∃ xs:List Value,(rs.mapM (yN a.tmps)).run P w = .ok xs w∧xs.length=vs.length ∧
    ∀ k,k<vs.length→bR w (MT X st.σ β) β (xs.getD k undef) (vs.getD k .undef):=by
  intro rs
  induction rs with
  | nil=>intro vs hm;simp at hm;subst hm;exact ⟨[],rfl,rfl,fun k hk=>by simp at hk⟩
  | cons r rs ih =>
   intro vs hm
   simp only [mN,Option.bind_eq_bind,au,Option.pure_def,aG] at hm
   obtain ⟨y,hy,ys,BJ,rfl⟩:=hm
   obtain ⟨x,h1,h2⟩:=Ykr h r hy
   obtain ⟨xs,h3,h4,h5⟩:=ih ys BJ
   refine ⟨x :: xs,?_,by simp [h4],fun k hk=>?_⟩
   ·rw [mN,Sem.run_bind,h1];simp only [Result.andThen_ok,Sem.run_bind];rw [h3];rfl
   ·cases k with
    | zero=>exact h2
    | succ k=>simp only [ax] at hk;simpa using h5 k (by omega)
 unfold fD at hv
 have Ax:∀ xs:List Value,(fn.results.toList.mapM (yN a.tmps)).run P w = .ok xs w →
   (results fn a.tmps).run P w = .ok (if h:xs.toArray.size=1 then xs.toArray[0] else .tuple xs.toArray) w:=by
  intro xs v7
  simp only [Zza,Sem.run_bind]
  rw [show fn.results=fn.results.toList.toArray from (qm).symm,List.mapM_toArray]
  simp only [Sem.run_map]
  rw [v7]
  rfl
 split at hv
 ·rename_i y hm
  simp only [aG] at hv;subst hv
  obtain ⟨xs,h1,h2,h3⟩:=key _ _ hm
  match xs,h2 with
  | [x],_=>exact ⟨x,Ax _ h1,h3 0 (by simp)⟩
 ·rename_i vs eg hm
  simp only [aG] at hv;subst hv
  obtain ⟨xs,h1,h2,h3⟩:=key _ _ hm
  refine ⟨.tuple xs.toArray,?_, .dz (by simpa using h2) (fun k hk=>?_)⟩
  ·rw [Ax _ h1,dif_neg]
   simp only [List.size_toArray]
   intro nB
   rw [h2] at nB
   match vs,nB with
   | [y],_=>exact eg y rfl
  ·have:=h3 k hk
   rwa [show xs.toArray.getD k undef=xs.getD k undef by simp [List.getD,aj]]
 ·cases hv
def St.enter (fn:Func) (args:List ae) (σ:ai):St:=⟨args++List.replicate (fn.ntmps - args.length) .undef,σ⟩
def Bi (P:Program) (fn:Func) (K:ae→ai→Prop) (e:b9) (s:St):Prop :=
 match e with
 | .normal | .ret=>∃ r,fD P s fn.results.toList=some r∧K r s.σ
 | _=>False
theorem QQ {mb:Nat} {D:List Deferred}:∀ (rs:List Nat) (w:World) (fr:Frame) (cs:List Frame),fr.mode≠.run→fr.defers=rs.map (fun r=>{ target:=.collected r,args:=#[] })++D→rs.Nodup →
  (∀ r∈rs,mb≤r∧w.heap[r]? = some (.deferred (some []))) →
  ∃ w',Steps P (lone fr cs w) (lone { fr with defers:=D } cs w')∧w'.os=w.os∧w'.tape=w.tape∧w'.output=w.output∧w'.heap.size=w.heap.size∧(∀ g,(∀ r∈rs,g≠r)→w'.heap[g]? = w.heap[g]?) ∧
   ∀ r∈rs,w'.heap[r]? = some (.deferred none)
 | [],w,fr,cs,hm,hd,_,_=>by
  simp only [aS,bh] at hd
  refine ⟨w,?_,rfl,rfl,rfl,rfl,fun _ _=>rfl,fun r hr=>by simp at hr⟩
  have : { fr with defers:=D }=fr:=by cases fr;simp_all
  rw [this];exact .refl _ _
 | r :: rs,w,fr,cs,hm,hd,hn,hw=>by
  simp only [aF,bj] at hd
  have h1:=(hw r (by simp)).2
  have bD:r<w.heap.size:=(aL.1 h1).1
  have eL:(Instr.takeDeferred r).run P w = .ok [] { w with heap:=w.heap.setIfInBounds r (.deferred none) }:=by
   simp [Instr.takeDeferred,getObj,setObj,Sem.run,h1]
  have iq:step P (lone fr cs w) = .next (lone { fr with defers:=rs.map (fun r=>{ target:=.collected r,args:=#[] })++D } cs { w with heap:=w.heap.setIfInBounds r (.deferred none) }):=by
   refine step_lone_go ?_
   cases yf:fr.mode with
   | run=>exact absurd yf hm
   | returning=>simp [stepG,unwind,yf,hd,Sem.runT_eq,eL]
   | panicking ch=>simp [stepG,unwind,yf,hd,Sem.runT_eq,eL]
  have Vj:=eQ.1 hn
  obtain ⟨w',g1,g2,g3,g4,g5,g6,g7⟩:=QQ (mb:=mb) (D:=D) rs { w with heap:=w.heap.setIfInBounds r (.deferred none) } { fr with defers:=rs.map (fun r=>{ target:=.collected r,args:=#[] })++D } cs hm rfl Vj.2
   (fun q hq=>⟨(hw q (by simp [hq])).1,by
    have:q≠r:=by rintro rfl;exact Vj.1 hq
    simp only [bC]
    rw [if_neg (fY this)];exact (hw q (by simp [hq])).2⟩)
  refine ⟨w', .head iq g1,g2,g3,g4,by rw [g5];simp,fun g hg=>?_,fun q hq=>?_⟩
  ·rw [g6 g (fun q hq=>hg q (by simp [hq]))]
   simp only [bC]
   rw [if_neg (fY (hg r (by simp)))]
  ·simp only [aQ] at hq
   rcases hq with rfl | hq
   ·by_cases fp:q∈rs
    ·exact g7 q fp
    ·rw [g6 q (fun r' qj e=>fp (e ▸ qj))]
     simp [bC,bD]
   ·exact g7 q hq
theorem Rel.yT {X:Nat→Nat→Prop} {base mb:Nat} {D:List Deferred} {β:Env} {a:Act} {w:World} (h:Rel X base mb D st β a w) (fr:Frame) (cs:List Frame) (hm:fr.mode≠.run) (hd:fr.defers=a.defers) :
  ∃ w2,Steps P (lone fr cs w) (lone { fr with defers:=D } cs w2)∧Rel X base mb D st β { a with defers:=D } w2 ∧
   ∀ lo kf AV w0,w0.heap.size≤mb→Ext lo kf AV w0 st.σ β w→Ext lo kf AV w0 st.σ β w2:=by
 obtain ⟨rs,m1,m2,m3⟩:=h.d
 obtain ⟨w2,t1,t2,t3,t4,t5,t6,t7⟩:=QQ (P:=P) (D:=D) rs w fr cs hm (hd.trans m1) m2 m3
 have je:∀ (g':Nat) (o:Obj),w.heap[g']? = some o→(∀ d,o≠.deferred d)→w2.heap[g']? = some o:=by
  intro g' o ho eg
  rw [t6 g' (fun r hr e=>by subst e;rw [(m3 g' hr).2] at ho;cases ho;exact eg _ rfl)];exact ho
 have kY:∀ (g' o:Nat) (v:Value),w.cell? ⟨g',o,none⟩=some v→w2.cell? ⟨g',o,none⟩=some v:=by
  intro g' o v hc
  obtain ⟨c',e',fz,sX⟩:∃ c' e' fz,w.heap[g']? = some (.cells c' e' fz):=by
   simp only [World.cell?] at hc
   split at hc
   ·rename_i c' e' fz sX;exact ⟨_,_,_,sX⟩
   ·cases hc
  rw [World.cell?_of_block (w:=w) (by rw [je _ _ sX (fun d e=>by cases e),sX])];exact hc
 have qG:df w (MT X st.σ β) w2 (MT X st.σ β) :=
  ⟨fun g' o v hc hn=>⟨kY g' o v hc,hn⟩,fun g' es cl hg hn=>⟨je _ _ hg (fun d e=>by cases e),hn⟩⟩
 have zm:cC X base st.σ β w2:=by
  refine ⟨h.s.nA,fun b' cd m0=>?_,h.s.inj,by rw [t5];exact h.s.size,fun g' o hx=>by rw [t5];exact h.s.pW g' o hx,fun x hx=>let ⟨g1,v,g2,g3⟩:=h.s.gl x hx;⟨g1,v,kY _ _ _ g2,g3⟩⟩
  obtain ⟨L,q1,q2,q3,q4⟩:=h.s.cd b' cd m0
  refine ⟨L,q1,q2,q3,q4.mono qG (fun _ _ h=>h) ?_⟩
  cases cd with
  | var mW=>obtain ⟨c',e',h,_⟩:=q4;rw [je _ _ h (fun d e=>by cases e),h]
  | row es fz=>obtain ⟨c',e',h,_⟩:=q4;rw [je _ _ h (fun d e=>by cases e),h]
  | map ks sR fz=>obtain ⟨c',e',h,_⟩:=q4;rw [je _ _ h (fun d e=>by cases e),h]
  | iter s p=>have h:w.heap[L.g]? = some (.stringIter s p):=q4;rw [je _ _ h (fun d e=>by cases e),h]
  | kZ ks sR seen=>obtain ⟨m',rC,c',h,_⟩:=q4;rw [je _ _ h (fun d e=>by cases e),h]
  | loop r'=>obtain ⟨c',e',f',h,_⟩:=q4;rw [je _ _ h (fun d e=>by cases e),h]
 refine ⟨w2,t1,⟨zm,h.n,fun k hk=>(h.t k hk).mono qG (fun _ _ h=>h),⟨[],by simp,kG,fun r hr=>by simp at hr⟩⟩,fun lo kf AV w0 Ep r3=>?_⟩
 refine ⟨t2.trans r3.os,t3.trans r3.tape,t4.trans r3.output,by rw [t5];exact r3.size,fun g' o v hc hn=>?_,fun g' sX hn=>?_,r3.iB,r3.env⟩
 ·have qE:=r3.cell g' o v hc hn
  have bD:=xC hc
  rw [World.cell?_of_block (w:=w) (a:=⟨g',o,none⟩) (t6 g' (fun r hr e=>by have:=(m3 r hr).1;omega))];exact qE
 ·rw [t6 g' (fun r hr e=>by have:=(m3 r hr).1;omega)];exact r3.block g' sX hn
def kn (g:FuncId) (kind:CallKind):Frame:={ (default:Frame) with fn:=g,kind }
theorem Ql {g:FuncId} {fn:Func} {c:Code} (hf:P.funcs[g]? = some fn) (hb:fn.body=some c) (vs:Array Value) (kind:CallKind) :
  Frame.enter P g vs kind=(kn g kind).atR { tmps:=vs++Array.replicate (fn.ntmps - vs.size) undef,defers:=[] } [.code c]:=by
 simp [Frame.enter,Frame.atR,hf,hb,kn];rfl
theorem R_ {X:Nat→Nat→Prop} {base:Nat} {fn:Func} {args:List ae} {σ:ai} {β:Env} {w:World} {vs:Array Value} (h1:cC X base σ β w) (h2:vs.size=args.length)
  (h3:∀ k,k<args.length→bR w (MT X σ β) β (vs.getD k undef) (args.getD k .undef)) :
  Rel X base w.heap.size [] (St.enter fn args σ) β { tmps:=vs++Array.replicate (fn.ntmps - vs.size) undef,defers:=[] } w:=by
 refine ⟨h1,by simp only [St.enter,Array.size_append,Array.size_replicate,ay,bz,h2],fun k hk=>?_,⟨[],rfl,kG,fun r hr=>by simp at hr⟩⟩
 simp only [St.enter] at hk ⊢
 rw [sS,aj,lg]
 by_cases c1:k<args.length
 ·rw [if_pos (by omega),if_pos c1,← aj];exact h3 k c1
 ·rw [if_neg c1]
  have:(List.replicate (fn.ntmps - args.length) ae.undef).getD (k - args.length) .undef = .undef:=by
   simp [List.getD,c9];split<;>rfl
  rw [this];exact .undef _
theorem Zt5 {fr : Frame} {cs : List Frame} {w : World} {g : FuncId} {fn : Func} {c : Code} {vs : Array Value} (hf : P.funcs[g]? = some fn) (hb : fn.body = some c) (eA : (fn.name == "runtime.NumGoroutine") = false) (zg : xy fr) :
  (stepG.apply P true fr cs none (callFunc g vs) w).bare = .go { frame:=Frame.enter P g vs .normal,callers:=fr :: cs,status:=.running,dying:=none } w:=by
 have qI : ¬ fn.name = "runtime.NumGoroutine" := by simpa using eA
 have ki:(callFunc g vs).run P w = .ok (.enter g vs) w:=by simp [callFunc,hf,qI,hb]
 simp only [stepG.apply,if_true,Sem.runT_eq,ki,GStep.bare_after,GStep.bare_go]
 split
 ·rename_i d s a k e;exact absurd e (zg _ _ _ _ _)
 ·rfl
theorem Ztg {X:Nat→Nat→Prop} {base mb:Nat} {fn:Func} {dV:St} {β':Env} {a':Act} {w':World} {b:Frame} {k:List Item} {r:ae} {g:FuncId} {cs:List Frame} (hf:P.funcs[g]? = some fn) (hg:b.fn=g) (r2:Rel X base mb [] dV β' a' w')
  (hr:fD P dV fn.results.toList=some r) :
  ∃ x w2,bR w2 (MT X dV.σ β') β' x r∧cC X base dV.σ β' w2∧(∀ lo kf AV w0,w0.heap.size≤mb→Ext lo kf AV w0 dV.σ β' w'→Ext lo kf AV w0 dV.σ β' w2) ∧
   Steps P (lone { b.atR a' k with mode:=.returning } cs w') (lone { b.atR { a' with defers:=[] } k with mode:=.returning } cs w2) ∧
   (stepG P true { frame:={ b.atR { a' with defers:=[] } k with mode:=.returning },callers:=cs,status:=.running,dying:=none } w2).bare=(doReturn P true { b.atR { a' with defers:=[] } k with mode:=.returning } cs none x w2).bare:=by
 obtain ⟨w2,t1,rW,pC⟩:=r2.yT (P:=P) { b.atR a' k with mode:=.returning } cs (by simp) rfl
 obtain ⟨x,yt,EA⟩:=P9 rW hr
 refine ⟨x,w2,EA,rW.s,pC,t1,?_⟩
 have Ny:(results fn a'.tmps).run P w2 = .ok x w2:=yt
 subst hg
 simp [stepG,unwind,Frame.atR,hf,Sem.runT_eq,Ny]
theorem bS.body {g : FuncId} {fn : Func} {c : Code} {args : List ae} {σ : ai} {K : ae → ai → Prop} (hf : P.funcs[g]? = some fn) (hb : fn.body = some c) (eA : (fn.name == "runtime.NumGoroutine") = false)
  (h:ib P ⟨σ.length,none⟩ c (St.enter fn args σ) (Bi P fn K)):bS P g args σ K:=by
 intro X base β w vs h1 h2 h3 fr cs zg
 obtain ⟨e,dV,β',a',w',q,r1,r2,r3,r4⟩:=h X base w.heap.size [] β _ w (kn g .normal) [] (fr :: cs) (ah _) (ah _) (R_ h1 h2 h3) rfl
 rw [← Ql hf hb] at r4
 have hq:∃ r,fD P dV fn.results.toList=some r∧K r dV.σ:=by cases e<;>first | exact q | exact q.elim
 obtain ⟨r,oq,nG⟩:=hq
 obtain ⟨todo,fQ⟩:∃ todo,Steps P (lone (Frame.enter P g vs .normal) (fr :: cs) w) (lone { (kn g .normal).atR a' todo with mode:=.returning } (fr :: cs) w'):=by
  cases e with
  | normal=>exact ⟨[],Steps.trans r4 (.one (stepR_end rfl))⟩
  | ret=>obtain ⟨k',er⟩:=r4;exact ⟨_,Steps.trans er (.one (stepR_ret rfl))⟩
  | exit id=>exact q.elim
  | goto l=>exact q.elim
  | panic u=>exact q.elim
 obtain ⟨x,w2,hx,zm,pC,t1,t2⟩:=Ztg (k:=todo) (b:=kn g .normal) (cs:=fr :: cs) hf rfl r2 oq
 refine ⟨r,dV.σ,β',x,w2,nG,zm,hx,pC _ _ _ _ (ah _) r3,r1,Frame.enter P g vs .normal,fr :: cs,w,Zt5 hf hb eA zg,(fQ.trans t1).trans (.one (step_lone_go ?_))⟩
 rw [t2]
 simp [doReturn,Frame.atR,kn]
end
end Go.c8
