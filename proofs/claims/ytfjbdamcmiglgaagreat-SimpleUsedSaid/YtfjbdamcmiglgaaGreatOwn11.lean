/- Part 11 of my own framework and of the walks of functions: AbsM. -/
import Derived.Test.YtfjbdamcmiglgaaGreatOwn10
abbrev bj:=@List.cons_append
abbrev aP:=@List.mem_cons
abbrev bf:=@List.nil_append
abbrev eh:=@List.nodup_cons
abbrev kE:=@List.nodup_nil
set_option linter.unusedVariables false
set_option linter.unusedSectionVars false
set_option linter.unusedSimpArgs false
namespace Go.cV
open Go
section
variable {P:Program} {lo:Ctx} {st:St}
theorem Zmf {X:Nat→Nat→Prop} {base:Nat} {σ:ai} {β:Env} {w:World} (hr:cF X base σ β w) {g:Nat} {o:Option (List Deferred)} (hg:w.heap[g]? = some (.deferred o)):∀ off, ¬ iQ σ β g off:=by
 rintro off ⟨b,cf,L,h1,h2,rfl,h4⟩
 obtain ⟨L',uS,_,_,j8⟩:=hr.cf b cf h1
 obtain rfl:L=L':=aM (h2.symm.trans uS)
 cases cf with
 | row es fz=>obtain ⟨c,e,h5,_⟩:=j8;rw [hg] at h5;cases h5
 | map ks vs fz=>obtain ⟨c,e,h5,_⟩:=j8;rw [hg] at h5;cases h5
 | var cs=>obtain ⟨c,e,h5,_⟩:=j8;rw [hg] at h5;cases h5
 | iter s p=>have:w.heap[L.g]? = some (.stringIter s p):=j8;rw [hg] at this;cases this
 | kZ ks vs seen=>obtain ⟨m,es,c,h5,_⟩:=j8;rw [hg] at h5;cases h5
 | loop r=>obtain ⟨t,d,f,h5,_⟩:=j8;rw [hg] at h5;cases h5
theorem Marks.ext {X:Nat→Nat→Prop} {base mb l:Nat} {D:List Deferred} {σ σ':ai} {β β':Env} {w w':World} {ds:List Deferred} (h:Marks mb D w ds) (hr:cF X base σ β w) (he:Ext l σ β w σ' β' w'):Marks mb D w' ds:=by
 obtain ⟨rs,h1,h2,h3⟩:=h
 refine ⟨rs,h1,h2,fun r qq=>⟨(h3 r qq).1,?_⟩⟩
 have h4:=(h3 r qq).2
 exact (he.block r (aL.1 h4).1 (Zmf hr h4)).trans h4
theorem y4 (tm:List ae) (d:Option Tmp) (v:ae):(put tm d v).length=tm.length:=by cases d<;>simp [put]
theorem Rel.next {X:Nat→Nat→Prop} {base mb l:Nat} {D:List Deferred} {β β':Env} {a:Act} {w w':World} {σ':ai} (h:Rel X base mb D st β a w) (hs:cF X base σ' β' w') (he:Ext l st.σ β w σ' β' w') (hβ:∀ b L,β b=some L→β' b=some L)
  {v:Value} {r:ae} (hv:bR w' (MT X σ' β') β' v r) (dst:Option Tmp):Rel X base mb D ⟨put st.tm dst r,σ'⟩ β' (a.put dst v) w':=by
 have hk:=he.keeps h.s
 refine ⟨hs,?_,fun k eA=>?_,?_⟩
 ·cases dst<;>simp [Act.put,put,h.n]
 ·rw [y4] at eA
  have h0:=(h.t k eA).mono hk hβ
  cases dst with
  | none=>exact h0
  | some d =>
   simp only [Act.put,put]
   rw [aj,bC]
   by_cases e:d=k
   ·subst e
    rw [if_pos rfl,if_pos (by rw [h.n];exact eA),EU _ _ _ eA];exact hv
   ·rw [if_neg e,← aj,getD_set_ne _ _ _ _ e];exact h0
 ·have:=h.d.ext h.s he
  cases dst<;>exact this
def gone:ae:=.nM undef
def wo:Value→Bool
 | .bool _=>true
 | _=>false
def l8 (ops:Array Oper) (tm:List ae) (o:Oper):Option Bool :=
 match o.guard with
 | none=>some true
 | some (j,want)=>match (ops[j]?).bind (·.dst) with
  | some d=>match tm[d]? with
   | some (.bool b)=>some (b==want)
   | some (.nM v)=>if wo v then none else some false
   | _=>none
  | none=>none
theorem zI {X:Nat→Nat→Prop} {base mb:Nat} {D:List Deferred} {β:Env} {a:Act} {w:World} (h:Rel X base mb D st β a w) {ops:Array Oper} {o:Oper} {b:Bool} (hg:l8 ops st.tm o=some b):Region.wanted o (yielded ops a.tmps)=b:=by
 unfold l8 at hg
 unfold Region.wanted
 split at hg
 ·rename_i e;rw [e];simpa using hg
 ·rename_i j want e
  rw [e]
  simp only
  split at hg
  ·rename_i d hd
   split at hg
   ·rename_i c hc
    cases hg
    obtain ⟨bD,hv⟩:=aH.1 hc
    have h1:=h.t d bD
    rw [show st.tm.getD d ae.undef = .bool c by simp [List.getD,hc]] at h1
    have h2:a.tmps[d]? = some (.bool c):=by
     rw [aB (by rw [h.n];exact bD)]
     have:=h1.g_
     rw [aj,aB (by rw [h.n];exact bD)] at this
     simpa using this
    simp only [yielded,hd,ew,h2]
    cases c<;>cases want<;>rfl
   ·rename_i v hv
    split at hg
    ·cases hg
    ·rename_i Nb
     cases hg
     obtain ⟨bD,NJ⟩:=aH.1 hv
     have h1:=h.t d bD
     rw [show st.tm.getD d ae.undef = .nM v by simp [List.getD,hv]] at h1
     have h2:a.tmps[d]? = some v:=by
      rw [aB (by rw [h.n];exact bD)]
      have Nl:∀ {M:Nat→Nat→Prop} {x y:Value},bR w M β x (.nM y)→x=y:=fun h=>by cases h;rfl
      have:a.tmps.getD d undef=v:=Nl h1
      rw [aj,aB (by rw [h.n];exact bD)] at this
      simpa using this
     simp only [yielded,hd,ew,h2]
     cases v<;>first | rfl | exact absurd rfl Nb
   ·cases hg
  ·cases hg
theorem Rel.keep {X:Nat→Nat→Prop} {base mb l:Nat} {D:List Deferred} {β β':Env} {a:Act} {w w':World} {σ':ai} (h:Rel X base mb D st β a w) (hs:cF X base σ' β' w') (he:Ext l st.σ β w σ' β' w') (hβ:∀ b L,β b=some L→β' b=some L) :
  Rel X base mb D ⟨st.tm,σ'⟩ β' a w':=h.next hs he hβ (v:=undef) (r:=.undef) (.undef _) none
theorem lW.nil {ops:Array Oper} {r:List Nat} {Q:cb→St→Prop} (h:Q .normal st):lW P lo ops r [] st Q :=
 fun X base mb D β a w b k cs h1 h2 h3=>⟨.normal,st,β,a,w,h,h1,h3,Ext.refl _ _ _ _,rfl, .refl _ _⟩
theorem lW.Cw {ops:Array Oper} {r:List Nat} {i:Nat} {rest:List Nat} {o:Oper} {Q:cb→St→Prop} (ho:ops[i]? = some o) (hg:l8 ops st.tm o=some false) (h:lW P lo ops r rest ⟨put st.tm o.dst gone,st.σ⟩ Q):lW P lo ops r (i :: rest) st Q:=by
 intro X base mb D β a w b k cs h1 h2 h3
 have hw:=zI h3 hg
 have h4:=h3.next h3.s (Ext.refl 0 _ _ _) (fun _ _ h=>h) (v:=undef) (r:=gone) (.nM _) o.dst
 obtain ⟨e,dZ,β',a',w',q,r1,r2,r3,rd,r4⟩:=h X base mb D β _ w b k cs h1 h2 h4
 refine ⟨e,dZ,β',a',w',q,r1,r2,r3,by rw [rd];cases o.dst<;>rfl, .of_steps (.one (stepR_op_skip (by simp [ho,hw]))) ?_⟩
 rw [ho];exact r4
theorem RI {σ:ai} {nm:Nat} {ρ:Operand→ae} {o:Oper} {r:ae×ai} (h:cY P σ nm ρ o.op=some r):∀ c,o.op≠.defer c:=by
 intro c e;rw [e] at h;simp [cY] at h
theorem lW.op {ops:Array Oper} {rs:List Nat} {i:Nat} {rest:List Nat} {o:Oper} {Q:cb→St→Prop} (ho:ops[i]? = some o) (hg:l8 ops st.tm o=some true) {r:ae} {σ':ai} (hE:cY P st.σ st.σ.length (ev st.tm) o.op=some (r,σ'))
  (hlen:lo.n≤st.σ.length→lo.n≤σ'.length) (h:lW P lo ops rs rest ⟨put st.tm o.dst r,σ'⟩ Q):lW P lo ops rs (i :: rest) st Q:=by
 intro X base mb D β a w b k cs h1 h2 h3
 have hw:=zI h3 hg
 obtain ⟨v,w1,eS,eO,g1,g2,g3,g4,g5⟩:=Sq h3.s (h3.s.nC _ (ah _)) (fun x=>va h3 x) (fun _=>rfl) hE
 have hrel:=h3.next g1 g3 g5 g2 o.dst
 obtain ⟨e,dZ,β',a',w',q,r1,r2,r3,rd,r4⟩:=h X base mb D eS _ w1 b k cs (hlen h1) (cR h2 g3.size) hrel
 have pI:Ext lo.n st.σ β w σ' eS w1:=⟨g3.os,g3.tape,g3.output,g3.size,g3.cell,g3.block,g3.iC,fun c hc=>g4 c (by omega)⟩
 refine ⟨e,dZ,β',a',w',q,r1,r2,pI.trans r3,by rw [rd];cases o.dst<;>rfl, .of_steps (.one (step_lone_go ?_)) r4⟩
 rw [bj,stepGR_op ho hw,Oper.semAt_eq _ _ _ (RI hE)]
 have fZ:=Frame.finish_atR b a ops i (rest++rs) k v
 rw [ho] at fZ
 rcases eO with eO | ⟨eO,rfl⟩
 ·simp only [stepG.apply,if_true,Sem.runT_eq,eO,GStep.bare_after,GStep.bare_go]
  rw [fZ];rfl
 ·simp only [stepG.apply,if_true,Sem.runT_eq,eO,GStep.bare_after,GStep.bare_go]
  rw [fZ];rfl
theorem lW.region {id:Nat} {ops:Array Oper} {Q:cb→St→Prop} (h:lW P lo ops [] (List.range ops.size) st Q):ic P lo (.region id ops false) st Q:=by
 intro X base mb D β a w b k cs h1 h2 h3 _
 obtain ⟨e,dZ,β',a',w',q,r1,r2,r3,rd,r4⟩:=h X base mb D β a w b k cs h1 h2 h3
 rw [bn] at r4
 refine ⟨e,dZ,β',a',w',q,r1,r2,r3, .of_steps (.one stepR_region) ?_⟩
 cases e with
 | normal=>exact Steps.trans r4 (.one stepR_region_end)
 | exit id=>obtain ⟨k',e1,e2⟩:=r4;exact ⟨k',by rw [e1];rfl,e2⟩
 | goto l=>obtain ⟨k',e1,e2⟩:=r4;exact ⟨k',by rw [e1];rfl,e2⟩
 | ret=>exact r4
 | panic u=>exact r4
def xF (fr:Frame):Prop:=∀ d b s a k,fr.todo≠.call d b s a :: k
def Fin (P:Program) (fr:Frame) (cs:List Frame) (s:Sem Next) (w:World) (v:Value) (w':World):Prop :=
 ∃ f1 Ag w1,(stepG.apply P true fr cs none s w).bare = .go { frame:=f1,callers:=Ag,status:=.running,dying:=none } w1∧Steps P (lone f1 Ag w1) (lone (fr.finish v) cs w')
def dt (P:Program) (F:Frame→List Frame→Sem Next→World→Value→World→Prop) (f:ae) (args:List ae) (σ:ai) (K:ae→ai→Prop):Prop :=
 ∀ (X:Nat→Nat→Prop) (base:Nat) (β:Env) (w:World) (vf:Value) (vs:Array Value),cF X base σ β w→bR w (MT X σ β) β vf f→vs.size=args.length →
  (∀ k,k<args.length→bR w (MT X σ β) β (vs.getD k undef) (args.getD k .undef))→∀ (fr:Frame) (cs:List Frame),xF fr →
  ∃ r σ' β' v w',K r σ'∧cF X base σ' β' w'∧bR w' (MT X σ' β') β' v r∧Ext σ.length σ β w σ' β' w'∧σ.length≤σ'.length ∧
   F fr cs (do let d ← Deferred.ofValue vf vs;invoke d.target d.args) w v w'
def gP (P:Program) (F:Frame→List Frame→Sem Next→World→Value→World→Prop) (g:FuncId) (args:List ae) (σ:ai) (K:ae→ai→Prop):Prop :=
 ∀ (X:Nat→Nat→Prop) (base:Nat) (β:Env) (w:World) (vs:Array Value),cF X base σ β w→vs.size=args.length →
  (∀ k,k<args.length→bR w (MT X σ β) β (vs.getD k undef) (args.getD k .undef))→∀ (fr:Frame) (cs:List Frame),xF fr →
  ∃ r σ' β' v w',K r σ'∧cF X base σ' β' w'∧bR w' (MT X σ' β') β' v r∧Ext σ.length σ β w σ' β' w'∧σ.length≤σ'.length∧F fr cs (callFunc g vs) w v w'
abbrev aq (P:Program) (f:ae) (args:List ae) (σ:ai) (K:ae→ai→Prop):Prop:=dt P (Fin P) f args σ K
abbrev bS (P:Program) (g:FuncId) (args:List ae) (σ:ai) (K:ae→ai→Prop):Prop:=gP P (Fin P) g args σ K
theorem dt.mono {F:Frame→List Frame→Sem Next→World→Value→World→Prop} {f:ae} {args:List ae} {σ:ai} {K K':ae→ai→Prop} (h:dt P F f args σ K) (hk:∀ r s,K r s→K' r s):dt P F f args σ K':=by
 intro X base β w vf vs h1 nD h2 h3 fr cs h4
 obtain ⟨r,σ',β',v,w',q,rest⟩:=h X base β w vf vs h1 nD h2 h3 fr cs h4
 exact ⟨r,σ',β',v,w',hk _ _ q,rest⟩
theorem aq.mono {f:ae} {args:List ae} {σ:ai} {K K':ae→ai→Prop} (h:aq P f args σ K) (hk:∀ r s,K r s→K' r s):aq P f args σ K':=dt.mono h hk
theorem aq.sh {F:Frame→List Frame→Sem Next→World→Value→World→Prop} {g:FuncId} {first captured args:List ae} {σ:ai} {K:ae→ai→Prop} (h:gP P F g (first++args++captured) σ K):dt P F (.fn g first captured) args σ K:=by
 intro X base β w vf vs h1 nD h2 h3 fr cs h4
 cases nD with
 | @fn _ fa ca _ _ e1 e2 r1 r2 =>
  obtain ⟨r,σ',β',v,w',q,g1,g2,g3,g4,g5⟩:=h X base β w (fa++vs++ca) h1 (by simp [e1,e2,h2]) (fun k hk=>by
   simp only [ay] at hk
   rw [ta,ta,P7]
   simp only [ay]
   by_cases c1:k<first.length
   ·rw [if_pos (by omega),if_pos (by omega),if_pos c1];exact r1 k c1
   ·by_cases c2:k<first.length+args.length
    ·rw [if_neg (by omega),if_pos (by omega),if_pos c2,if_neg c1,e1];exact h3 _ (by omega)
    ·rw [if_neg (by omega),if_neg (by omega),if_neg c2,e1,h2];exact r2 _ (by omega)) fr cs h4
  refine ⟨r,σ',β',v,w',q,g1,g2,g3,g4,?_⟩
  have:(do let d ← Deferred.ofValue (.func (.func g) fa ca) vs;invoke d.target d.args:Sem Next)=callFunc g (fa++vs++ca):=rfl
  rw [this];exact g5
def Jq (P:Program) (fr:Frame) (cs:List Frame) (s:Sem Next) (w:World) (u:Value) (w':World):Prop :=
 ∃ f1 Ag w1,(stepG.apply P true fr cs none s w).bare = .go { frame:=f1,callers:=Ag,status:=.running,dying:=none } w1∧Steps P (lone f1 Ag w1) (lone (fr.raise [{ v:=u,recovered:=false }]) cs w')
abbrev ES (P:Program) (f:ae) (args:List ae) (σ:ai) (K:ae→ai→Prop):Prop:=dt P (Jq P) f args σ K
theorem lW.call {ops:Array Oper} {rs:List Nat} {i:Nat} {rest:List Nat} {o:Oper} {Q:cb→St→Prop} (ho:ops[i]? = some o) (hg:l8 ops st.tm o=some true) {f:Operand} {args:Array Operand} {ts:Array TypeId} (hop:o.op = .call { callee:=.value f,args,argTypes:=ts })
  (h:aq P (ev st.tm f) (args.toList.map (ev st.tm)) st.σ (fun r σ'=>lW P lo ops rs rest ⟨put st.tm o.dst r,σ'⟩ Q)):lW P lo ops rs (i :: rest) st Q:=by
 intro X base mb D β a w b k cs h1 h2 h3
 have hw:=zI h3 hg
 obtain ⟨r,σ',β',v,w1,q,g1,g2,g3,g4,f1,Ag,w2,g5,g6⟩:=h X base β w (a.eval f) (args.map a.eval) h3.s (va h3 f) (by simp) (fun j hj=>by
  simp only [ao,bA] at hj
  rw [aj,eo,aB hj]
  simp only [List.getD,cd,fX,aB hj,bw,br]
  exact va h3 _) (b.atR a (.inRegion ops (i :: (rest++rs)) :: k)) cs (fun d b' s a' k' e=>by simp [Frame.atR] at e)
 have hβ:∀ c L,β c=some L→β' c=some L:=fun c L hc=>by
  by_cases gK:c<st.σ.length
  ·rw [g3.env c gK];exact hc
  ·rw [h3.s.nC c (by omega)] at hc;cases hc
 have hrel:=h3.next g1 g3 hβ g2 o.dst
 obtain ⟨e,dZ,mI,a',w',q',r1,r2,r3,rd,r4⟩:=q X base mb D β' _ w1 b k cs (cR h1 g4) (cR h2 g3.size) hrel
 refine ⟨e,dZ,mI,a',w',q',r1,r2,(g3.lower h1).trans r3,by rw [rd];cases o.dst<;>rfl, .of_steps (.head (step_lone_go ?_) g6) ?_⟩
 ·rw [bj,stepGR_op ho hw,Oper.semAt_eq _ _ _ (fun c e=>by rw [hop] at e;cases e)]
  rw [← g5]
  congr 2
  simp only [execOp,hop,resolve]
 ·have fZ:=Frame.finish_atR b a ops i (rest++rs) k v
  rw [ho] at fZ
  rw [fZ];exact r4
def nj:ae→Option Value
 | .bool b=>some (.bool b)
 | .int k n=>some (.int k n)
 | .str s=>some (.string s)
 | _=>none
def kp:List ae→Option (List Value)
 | []=>some []
 | a :: l=>(nj a).bind fun v=>(kp l).map (v :: ·)
def yQ:ae→Option Value
 | .iface t (.agg cs)=>(kp cs).map fun l=>.iface t (.agg l.toArray)
 | .iface t a=>(nj a).map (.iface t)
 | _=>none
theorem W8 {M:Nat→Nat→Prop} {β:Env} {w:World} {a:ae} {v u:Value} (hp:nj a=some u) (h:bR w M β v a):v=u:=by
 cases a<;>simp only [nj,reduceCtorEq,aE] at hp<;>subst hp<;>cases h<;>rfl
theorem Zyk {M:Nat→Nat→Prop} {β:Env} {w:World} {a:ae} {u:Value} (hp:nj a=some u):bR w M β u a:=by
 cases a<;>simp only [nj,reduceCtorEq,aE] at hp<;>subst hp<;>constructor
theorem Qa {M:Nat→Nat→Prop} {β:Env} {w:World}:∀ {cs:List ae} {us:List Value},kp cs=some us→us.length=cs.length∧(∀ k,k<cs.length→bR w M β (us.getD k undef) (cs.getD k .undef)) ∧
  ∀ vs:List Value,vs.length=cs.length→(∀ k,k<cs.length→bR w M β (vs.getD k undef) (cs.getD k .undef))→vs=us
 | [],us,h=>by
  simp only [kp,aE] at h;subst h
  exact ⟨rfl,fun k hk=>absurd hk (Nat.not_lt_zero _),fun vs hv _=>aY hv⟩
 | a :: l,us,h=>by
  simp only [kp,ax,aG] at h
  obtain ⟨v,h1,EP,h2,rfl⟩:=h
  obtain ⟨g1,g2,g3⟩:=Qa h2
  refine ⟨by simp [g1],fun k hk=>?_,fun vs hv hr=>?_⟩
  ·cases k with
   | zero=>exact Zyk h1
   | succ k=>simpa using g2 k (by simpa using hk)
  ·cases vs with
   | nil=>simp at hv
   | cons y vs =>
    have e1:=W8 h1 (hr 0 (by simp))
    simp only [bg] at e1
    rw [e1,g3 vs (by simpa using hv) (fun k hk=>by simpa using hr (k+1) (by simpa using hk))]
theorem OV {M:Nat→Nat→Prop} {β:Env} {w:World} {a:ae} {v u:Value} (hp:yQ a=some u) (h:bR w M β v a):v=u:=by
 cases a<;>simp only [yQ,reduceCtorEq] at hp
 rename_i t a
 cases h with
 | @iface _ y _ hy =>
  cases a<;>simp only [nj,j7,reduceCtorEq,bw,aE] at hp
  all_goals first
   | (subst hp;cases hy;rfl)
   | (obtain ⟨us,h1,rfl⟩:=aG.1 hp
      cases hy with
      | @agg cs l hn hr =>
       obtain ⟨_,_,g3⟩:=Qa (w:=w) (M:=M) (β:=β) h1
       have:=g3 cs.toList (by simpa using hn) (fun k hk=>by
        have:=hr k hk
        rwa [show cs.getD k Go.undef=cs.toList.getD k Go.undef by simp [List.getD,aj]] at this)
       rw [← this])
theorem Yp {a:ae} {u:Value} (hp:yQ a=some u):∃ t x,u = .iface t x:=by
 cases a<;>simp only [yQ,reduceCtorEq] at hp
 rename_i t a
 cases a<;>simp only [nj,j7,reduceCtorEq,bw,aE] at hp
 all_goals first
  | (subst hp;exact ⟨_,_,rfl⟩)
  | (obtain ⟨us,h1,rfl⟩:=aG.1 hp;exact ⟨_,_,rfl⟩)
theorem lW.pan {ops:Array Oper} {rs:List Nat} {i:Nat} {rest:List Nat} {o:Oper} {Q:cb→St→Prop} (ho:ops[i]? = some o) (hg:l8 ops st.tm o=some true) {f:Operand} {args:Array Operand} {ts:Array TypeId} (hop:o.op = .call { callee:=.value f,args,argTypes:=ts })
  (h:ES P (ev st.tm f) (args.toList.map (ev st.tm)) st.σ (fun r σ'=>∃ u,yQ r=some u∧Q (.panic u) ⟨st.tm,σ'⟩)):lW P lo ops rs (i :: rest) st Q:=by
 intro X base mb D β a w b k cs h1 h2 h3
 have hw:=zI h3 hg
 obtain ⟨r,σ',β',v,w1,⟨u,hu,q⟩,g1,gr,g3,g4,f1,Ag,w2,g5,g6⟩:=h X base β w (a.eval f) (args.map a.eval) h3.s (va h3 f) (by simp) (fun j hj=>by
  simp only [ao,bA] at hj
  rw [aj,eo,aB hj]
  simp only [List.getD,cd,fX,aB hj,bw,br]
  exact va h3 _) (b.atR a (.inRegion ops (i :: (rest++rs)) :: k)) cs (fun d b' s a' k' e=>by simp [Frame.atR] at e)
 have hβ:∀ c L,β c=some L→β' c=some L:=fun c L hc=>by
  by_cases gK:c<st.σ.length
  ·rw [g3.env c gK];exact hc
  ·rw [h3.s.nC c (by omega)] at hc;cases hc
 obtain rfl:=OV hu gr
 refine ⟨.panic v,⟨st.tm,σ'⟩,β',a,w1,q,cR h1 g4,h3.keep g1 g3 hβ,g3.lower h1,rfl, .inRegion ops (i :: (rest++rs)) :: k, .head (step_lone_go ?_) g6⟩
 rw [bj,stepGR_op ho hw,Oper.semAt_eq _ _ _ (fun c e=>by rw [hop] at e;cases e)]
 rw [← g5]
 congr 2
 simp only [execOp,hop,resolve]
theorem lW.panic {ops:Array Oper} {rs:List Nat} {i:Nat} {rest:List Nat} {o:Oper} {Q:cb→St→Prop} (ho:ops[i]? = some o) (hg:l8 ops st.tm o=some true) {x:Operand} (hop:o.op = .panic x) {u:Value} (hu:yQ (ev st.tm x)=some u)
  (h:Q (.panic u) st):lW P lo ops rs (i :: rest) st Q:=by
 intro X base mb D β a w b k cs h1 h2 h3
 have hw:=zI h3 hg
 have hv:=OV hu (va h3 x)
 obtain ⟨t,y,hi⟩:=Yp hu
 refine ⟨.panic u,st,β,a,w,h,h1,h3,Ext.refl _ _ _ _,rfl, .inRegion ops (i :: (rest++rs)) :: k, .one (step_lone_go ?_)⟩
 rw [bj,stepGR_op ho hw,Oper.semAt_eq _ _ _ (fun c e=>by rw [hop] at e;cases e)]
 have eO:(execOp a.eval o).run P w = .halt (.panic u) w:=by
  simp only [execOp,hop,hv,hi,Instr.panic,Sem.run_bind];rfl
 simp only [stepG.apply,if_true,Sem.runT_eq,eO,GStep.bare_after,GStep.bare_go]
 rfl
def ql (tm:List ae) (σ:ai) (P:Program):ResultVar→Option ae
 | .tmp t=>some (tm.getD t .undef)
 | .cell a t=>(aC P t).bind fun l=>iT σ l (tm.getD a .undef)
def fF (P:Program) (st:St) (rs:List ResultVar):Option ae :=
 match rs.mapM (ql st.tm st.σ P) with
 | some [v]=>some v
 | some vs=>some (.dy vs)
 | none=>none
def yS (tmps:Array Value):ResultVar→Sem Value
 | .tmp t=>pure (tmps.getD t undef)
 | .cell a t=>do loadVar t (← asAddr (tmps.getD a undef))
theorem Zzz (fn:Func) (tmps:Array Value):results fn tmps=(do let vs ← fn.results.mapM (yS tmps);pure (if h:vs.size=1 then vs[0] else .tuple vs)):=rfl
theorem Ymo {X:Nat→Nat→Prop} {base mb:Nat} {D:List Deferred} {β:Env} {a:Act} {w:World} (h:Rel X base mb D st β a w) (r:ResultVar) {v:ae} (hv:ql st.tm st.σ P r=some v) :
  ∃ x,(yS a.tmps r).run P w = .ok x w∧bR w (MT X st.σ β) β x v:=by
 cases r with
 | tmp t =>
  simp only [ql,aE] at hv;subst hv
  exact ⟨_,rfl,va h (.tmp t)⟩
 | cell c t =>
  obtain ⟨l,hl,h1⟩:=ax.1 hv
  obtain ⟨cs,⟨g,of,cv,e1,e2,e3⟩,h4⟩:=Qs h.s (va h (.tmp c)) h1
  obtain ⟨x,h5,h6⟩:=PZ hl e2 e3 h4
  refine ⟨x,?_,h6⟩
  simp only [Act.eval] at e1
  simp only [yS,Sem.run_bind,e1,asAddr,Sem.run_pure,Result.andThen_ok,h5]
theorem Qc {X:Nat→Nat→Prop} {base mb:Nat} {D:List Deferred} {β:Env} {a:Act} {w:World} (h:Rel X base mb D st β a w) {fn:Func} {v:ae} (hv:fF P st fn.results.toList=some v) :
  ∃ x,(results fn a.tmps).run P w = .ok x w∧bR w (MT X st.σ β) β x v:=by
 have key:∀ (rs:List ResultVar) (vs:List ae),rs.mapM (ql st.tm st.σ P)=some vs →
   ∃ xs:List Value,(rs.mapM (yS a.tmps)).run P w = .ok xs w∧xs.length=vs.length ∧
    ∀ k,k<vs.length→bR w (MT X st.σ β) β (xs.getD k undef) (vs.getD k .undef):=by
  intro rs
  induction rs with
  | nil=>intro vs hm;simp at hm;subst hm;exact ⟨[],rfl,rfl,fun k hk=>by simp at hk⟩
  | cons r rs ih =>
   intro vs hm
   simp only [mM,Option.bind_eq_bind,ax,Option.pure_def,aE] at hm
   obtain ⟨y,hy,ys,BQ,rfl⟩:=hm
   obtain ⟨x,h1,h2⟩:=Ymo h r hy
   obtain ⟨xs,h3,h4,h5⟩:=ih ys BQ
   refine ⟨x :: xs,?_,by simp [h4],fun k hk=>?_⟩
   ·rw [mM,Sem.run_bind,h1];simp only [Result.andThen_ok,Sem.run_bind];rw [h3];rfl
   ·cases k with
    | zero=>exact h2
    | succ k=>simp only [au] at hk;simpa using h5 k (by omega)
 unfold fF at hv
 have AF:∀ xs:List Value,(fn.results.toList.mapM (yS a.tmps)).run P w = .ok xs w →
   (results fn a.tmps).run P w = .ok (if h:xs.toArray.size=1 then xs.toArray[0] else .tuple xs.toArray) w:=by
  intro xs wj
  simp only [Zzz,Sem.run_bind]
  rw [show fn.results=fn.results.toList.toArray from (qv).symm,List.mapM_toArray]
  simp only [Sem.run_map]
  rw [wj]
  rfl
 split at hv
 ·rename_i y hm
  simp only [aE] at hv;subst hv
  obtain ⟨xs,h1,h2,h3⟩:=key _ _ hm
  match xs,h2 with
  | [x],_=>exact ⟨x,AF _ h1,h3 0 (by simp)⟩
 ·rename_i vs dX hm
  simp only [aE] at hv;subst hv
  obtain ⟨xs,h1,h2,h3⟩:=key _ _ hm
  refine ⟨.tuple xs.toArray,?_, .dy (by simpa using h2) (fun k hk=>?_)⟩
  ·rw [AF _ h1,dif_neg]
   simp only [List.size_toArray]
   intro nD
   rw [h2] at nD
   match vs,nD with
   | [y],_=>exact dX y rfl
  ·have:=h3 k hk
   rwa [show xs.toArray.getD k undef=xs.getD k undef by simp [List.getD,aj]]
 ·cases hv
def St.enter (fn:Func) (args:List ae) (σ:ai):St:=⟨args++List.replicate (fn.ntmps - args.length) .undef,σ⟩
def Bo (P:Program) (fn:Func) (K:ae→ai→Prop) (e:cb) (s:St):Prop :=
 match e with
 | .normal | .ret=>∃ r,fF P s fn.results.toList=some r∧K r s.σ
 | _=>False
theorem Ra {mb:Nat} {D:List Deferred}:∀ (rs:List Nat) (w:World) (fr:Frame) (cs:List Frame),fr.mode≠.run→fr.defers=rs.map (fun r=>{ target:=.collected r,args:=#[] })++D→rs.Nodup →
  (∀ r∈rs,mb≤r∧w.heap[r]? = some (.deferred (some []))) →
  ∃ w',Steps P (lone fr cs w) (lone { fr with defers:=D } cs w')∧w'.os=w.os∧w'.tape=w.tape∧w'.output=w.output∧w'.heap.size=w.heap.size∧(∀ g,(∀ r∈rs,g≠r)→w'.heap[g]? = w.heap[g]?) ∧
   ∀ r∈rs,w'.heap[r]? = some (.deferred none)
 | [],w,fr,cs,hm,hd,_,_=>by
  simp only [aS,bf] at hd
  refine ⟨w,?_,rfl,rfl,rfl,rfl,fun _ _=>rfl,fun r hr=>by simp at hr⟩
  have : { fr with defers:=D }=fr:=by cases fr;simp_all
  rw [this];exact .refl _ _
 | r :: rs,w,fr,cs,hm,hd,hn,hw=>by
  simp only [aI,bj] at hd
  have h1:=(hw r (by simp)).2
  have bD:r<w.heap.size:=(aL.1 h1).1
  have eO:(Instr.takeDeferred r).run P w = .ok [] { w with heap:=w.heap.setIfInBounds r (.deferred none) }:=by
   simp [Instr.takeDeferred,getObj,setObj,Sem.run,h1]
  have iu:step P (lone fr cs w) = .next (lone { fr with defers:=rs.map (fun r=>{ target:=.collected r,args:=#[] })++D } cs { w with heap:=w.heap.setIfInBounds r (.deferred none) }):=by
   refine step_lone_go ?_
   cases yl:fr.mode with
   | run=>exact absurd yl hm
   | returning=>simp [stepG,unwind,yl,hd,Sem.runT_eq,eO]
   | panicking ch=>simp [stepG,unwind,yl,hd,Sem.runT_eq,eO]
  have VC:=eh.1 hn
  obtain ⟨w',g1,g2,g3,g4,g5,g6,g7⟩:=Ra (mb:=mb) (D:=D) rs { w with heap:=w.heap.setIfInBounds r (.deferred none) } { fr with defers:=rs.map (fun r=>{ target:=.collected r,args:=#[] })++D } cs hm rfl VC.2
   (fun q hq=>⟨(hw q (by simp [hq])).1,by
    have:q≠r:=by rintro rfl;exact VC.1 hq
    simp only [bC]
    rw [if_neg (fY this)];exact (hw q (by simp [hq])).2⟩)
  refine ⟨w', .head iu g1,g2,g3,g4,by rw [g5];simp,fun g hg=>?_,fun q hq=>?_⟩
  ·rw [g6 g (fun q hq=>hg q (by simp [hq]))]
   simp only [bC]
   rw [if_neg (fY (hg r (by simp)))]
  ·simp only [aP] at hq
   rcases hq with rfl | hq
   ·by_cases fh:q∈rs
    ·exact g7 q fh
    ·rw [g6 q (fun r' qq e=>fh (e ▸ qq))]
     simp [bC,bD]
   ·exact g7 q hq
theorem Rel.y0 {X:Nat→Nat→Prop} {base mb:Nat} {D:List Deferred} {β:Env} {a:Act} {w:World} (h:Rel X base mb D st β a w) (fr:Frame) (cs:List Frame) (hm:fr.mode≠.run) (hd:fr.defers=a.defers) :
  ∃ w2,Steps P (lone fr cs w) (lone { fr with defers:=D } cs w2)∧Rel X base mb D st β { a with defers:=D } w2 ∧
   ∀ lo kc A1 w0,w0.heap.size≤mb→Ext lo kc A1 w0 st.σ β w→Ext lo kc A1 w0 st.σ β w2:=by
 obtain ⟨rs,m1,m2,m3⟩:=h.d
 obtain ⟨w2,t1,t2,t3,t4,t5,t6,t7⟩:=Ra (P:=P) (D:=D) rs w fr cs hm (hd.trans m1) m2 m3
 have jg:∀ (g':Nat) (o:Obj),w.heap[g']? = some o→(∀ d,o≠.deferred d)→w2.heap[g']? = some o:=by
  intro g' o ho dX
  rw [t6 g' (fun r hr e=>by subst e;rw [(m3 g' hr).2] at ho;cases ho;exact dX _ rfl)];exact ho
 have kY:∀ (g' o:Nat) (v:Value),w.cell? ⟨g',o,none⟩=some v→w2.cell? ⟨g',o,none⟩=some v:=by
  intro g' o v hc
  obtain ⟨c',e',fz,tq⟩:∃ c' e' fz,w.heap[g']? = some (.cells c' e' fz):=by
   simp only [World.cell?] at hc
   split at hc
   ·rename_i c' e' fz tq;exact ⟨_,_,_,tq⟩
   ·cases hc
  rw [World.cell?_of_block (w:=w) (by rw [jg _ _ tq (fun d e=>by cases e),tq])];exact hc
 have qP:dg w (MT X st.σ β) w2 (MT X st.σ β) :=
  ⟨fun g' o v hc hn=>⟨kY g' o v hc,hn⟩,fun g' es cl hg hn=>⟨jg _ _ hg (fun d e=>by cases e),hn⟩⟩
 have zr:cF X base st.σ β w2:=by
  refine ⟨h.s.nC,fun b' cf mY=>?_,h.s.inj,by rw [t5];exact h.s.size,fun g' o hx=>by rw [t5];exact h.s.p6 g' o hx,fun x hx=>let ⟨g1,v,g2,g3⟩:=h.s.gl x hx;⟨g1,v,kY _ _ _ g2,g3⟩⟩
  obtain ⟨L,q1,q2,q3,q4⟩:=h.s.cf b' cf mY
  refine ⟨L,q1,q2,q3,q4.mono qP (fun _ _ h=>h) ?_⟩
  cases cf with
  | var mV=>obtain ⟨c',e',h,_⟩:=q4;rw [jg _ _ h (fun d e=>by cases e),h]
  | row es fz=>obtain ⟨c',e',h,_⟩:=q4;rw [jg _ _ h (fun d e=>by cases e),h]
  | map ks s_ fz=>obtain ⟨c',e',h,_⟩:=q4;rw [jg _ _ h (fun d e=>by cases e),h]
  | iter s p=>have h:w.heap[L.g]? = some (.stringIter s p):=q4;rw [jg _ _ h (fun d e=>by cases e),h]
  | kZ ks s_ seen=>obtain ⟨m',pX,c',h,_⟩:=q4;rw [jg _ _ h (fun d e=>by cases e),h]
  | loop r'=>obtain ⟨c',e',f',h,_⟩:=q4;rw [jg _ _ h (fun d e=>by cases e),h]
 refine ⟨w2,t1,⟨zr,h.n,fun k hk=>(h.t k hk).mono qP (fun _ _ h=>h),⟨[],by simp,kE,fun r hr=>by simp at hr⟩⟩,fun lo kc A1 w0 EA r3=>?_⟩
 refine ⟨t2.trans r3.os,t3.trans r3.tape,t4.trans r3.output,by rw [t5];exact r3.size,fun g' o v hc hn=>?_,fun g' tq hn=>?_,r3.iC,r3.env⟩
 ·have qN:=r3.cell g' o v hc hn
  have bD:=xI hc
  rw [World.cell?_of_block (w:=w) (a:=⟨g',o,none⟩) (t6 g' (fun r hr e=>by have:=(m3 r hr).1;omega))];exact qN
 ·rw [t6 g' (fun r hr e=>by have:=(m3 r hr).1;omega)];exact r3.block g' tq hn
def kl (g:FuncId) (kind:CallKind):Frame:={ (default:Frame) with fn:=g,kind }
theorem QG {g:FuncId} {fn:Func} {c:Code} (hf:P.funcs[g]? = some fn) (hb:fn.body=some c) (vs:Array Value) (kind:CallKind) :
  Frame.enter P g vs kind=(kl g kind).atR { tmps:=vs++Array.replicate (fn.ntmps - vs.size) undef,defers:=[] } [.code c]:=by
 simp [Frame.enter,Frame.atR,hf,hb,kl];rfl
theorem S9 {X:Nat→Nat→Prop} {base:Nat} {fn:Func} {args:List ae} {σ:ai} {β:Env} {w:World} {vs:Array Value} (h1:cF X base σ β w) (h2:vs.size=args.length)
  (h3:∀ k,k<args.length→bR w (MT X σ β) β (vs.getD k undef) (args.getD k .undef)) :
  Rel X base w.heap.size [] (St.enter fn args σ) β { tmps:=vs++Array.replicate (fn.ntmps - vs.size) undef,defers:=[] } w:=by
 refine ⟨h1,by simp only [St.enter,Array.size_append,Array.size_replicate,ay,bz,h2],fun k hk=>?_,⟨[],rfl,kE,fun r hr=>by simp at hr⟩⟩
 simp only [St.enter] at hk ⊢
 rw [ta,aj,lg]
 by_cases c1:k<args.length
 ·rw [if_pos (by omega),if_pos c1,← aj];exact h3 k c1
 ·rw [if_neg c1]
  have:(List.replicate (fn.ntmps - args.length) ae.undef).getD (k - args.length) .undef = .undef:=by
   simp [List.getD,c8];split<;>rfl
  rw [this];exact .undef _
theorem Zv1 {fr : Frame} {cs : List Frame} {w : World} {g : FuncId} {fn : Func} {c : Code} {vs : Array Value} (hf : P.funcs[g]? = some fn) (hb : fn.body = some c) (eE : (fn.name == "runtime.NumGoroutine") = false) (zl : xF fr) :
  (stepG.apply P true fr cs none (callFunc g vs) w).bare = .go { frame:=Frame.enter P g vs .normal,callers:=fr :: cs,status:=.running,dying:=none } w:=by
 have qS : ¬ fn.name = "runtime.NumGoroutine" := by simpa using eE
 have kg:(callFunc g vs).run P w = .ok (.enter g vs) w:=by simp [callFunc,hf,qS,hb]
 simp only [stepG.apply,if_true,Sem.runT_eq,kg,GStep.bare_after,GStep.bare_go]
 split
 ·rename_i d s a k e;exact absurd e (zl _ _ _ _ _)
 ·rfl
theorem Zv0 {X:Nat→Nat→Prop} {base mb:Nat} {fn:Func} {dZ:St} {β':Env} {a':Act} {w':World} {b:Frame} {k:List Item} {r:ae} {g:FuncId} {cs:List Frame} (hf:P.funcs[g]? = some fn) (hg:b.fn=g) (r2:Rel X base mb [] dZ β' a' w')
  (hr:fF P dZ fn.results.toList=some r) :
  ∃ x w2,bR w2 (MT X dZ.σ β') β' x r∧cF X base dZ.σ β' w2∧(∀ lo kc A1 w0,w0.heap.size≤mb→Ext lo kc A1 w0 dZ.σ β' w'→Ext lo kc A1 w0 dZ.σ β' w2) ∧
   Steps P (lone { b.atR a' k with mode:=.returning } cs w') (lone { b.atR { a' with defers:=[] } k with mode:=.returning } cs w2) ∧
   (stepG P true { frame:={ b.atR { a' with defers:=[] } k with mode:=.returning },callers:=cs,status:=.running,dying:=none } w2).bare=(doReturn P true { b.atR { a' with defers:=[] } k with mode:=.returning } cs none x w2).bare:=by
 obtain ⟨w2,t1,sd,pI⟩:=r2.y0 (P:=P) { b.atR a' k with mode:=.returning } cs (by simp) rfl
 obtain ⟨x,yy,EI⟩:=Qc sd hr
 refine ⟨x,w2,EI,sd.s,pI,t1,?_⟩
 have NN:(results fn a'.tmps).run P w2 = .ok x w2:=yy
 subst hg
 simp [stepG,unwind,Frame.atR,hf,Sem.runT_eq,NN]
theorem bS.body {g : FuncId} {fn : Func} {c : Code} {args : List ae} {σ : ai} {K : ae → ai → Prop} (hf : P.funcs[g]? = some fn) (hb : fn.body = some c) (eE : (fn.name == "runtime.NumGoroutine") = false)
  (h:ic P ⟨σ.length,none⟩ c (St.enter fn args σ) (Bo P fn K)):bS P g args σ K:=by
 intro X base β w vs h1 h2 h3 fr cs zl
 obtain ⟨e,dZ,β',a',w',q,r1,r2,r3,r4⟩:=h X base w.heap.size [] β _ w (kl g .normal) [] (fr :: cs) (ah _) (ah _) (S9 h1 h2 h3) rfl
 rw [← QG hf hb] at r4
 have hq:∃ r,fF P dZ fn.results.toList=some r∧K r dZ.σ:=by cases e<;>first | exact q | exact q.elim
 obtain ⟨r,ou,nH⟩:=hq
 obtain ⟨todo,fP⟩:∃ todo,Steps P (lone (Frame.enter P g vs .normal) (fr :: cs) w) (lone { (kl g .normal).atR a' todo with mode:=.returning } (fr :: cs) w'):=by
  cases e with
  | normal=>exact ⟨[],Steps.trans r4 (.one (stepR_end rfl))⟩
  | ret=>obtain ⟨k',eA⟩:=r4;exact ⟨_,Steps.trans eA (.one (stepR_ret rfl))⟩
  | exit id=>exact q.elim
  | goto l=>exact q.elim
  | panic u=>exact q.elim
 obtain ⟨x,w2,hx,zr,pI,t1,t2⟩:=Zv0 (k:=todo) (b:=kl g .normal) (cs:=fr :: cs) hf rfl r2 ou
 refine ⟨r,dZ.σ,β',x,w2,nH,zr,hx,pI _ _ _ _ (ah _) r3,r1,Frame.enter P g vs .normal,fr :: cs,w,Zv1 hf hb eE zl,(fP.trans t1).trans (.one (step_lone_go ?_))⟩
 rw [t2]
 simp [doReturn,Frame.atR,kl]
end
end Go.cV
