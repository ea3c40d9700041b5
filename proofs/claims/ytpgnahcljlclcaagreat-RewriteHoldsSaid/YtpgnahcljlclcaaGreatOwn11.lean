/- Part 11 of my own framework and of the walks of functions: AbsM. -/
import Derived.Test.YtpgnahcljlclcaaGreatOwn10
set_option linter.unusedVariables false
set_option linter.unusedSectionVars false
set_option linter.unusedSimpArgs false
namespace Go.Abs
open Go
section
variable {P:Program} {lo:Ctx} {st:St}
theorem Zl2 {X:Nat→Nat→Prop} {base:Nat} {σ:Store} {β:Env} {w:World} (hr:RelS X base σ β w) {g:Nat} {o:Option (List Deferred)} (hg:w.heap[g]? = some (.deferred o)):∀ off, ¬ Mof σ β g off:=by
 rintro off ⟨b,blk,L,h1,h2,rfl,h4⟩
 obtain ⟨L',h2',_,_,hok⟩:=hr.blk b blk h1
 obtain rfl:L=L':=Option.some.inj (h2.symm.trans h2')
 cases blk with
 | row es fz=>obtain ⟨c,e,h5,_⟩:=hok;rw [hg] at h5;cases h5
 | map ks vs fz=>obtain ⟨c,e,h5,_⟩:=hok;rw [hg] at h5;cases h5
 | var cs=>obtain ⟨c,e,h5,_⟩:=hok;rw [hg] at h5;cases h5
 | iter s p=>have:w.heap[L.g]? = some (.stringIter s p):=hok;rw [hg] at this;cases this
 | mit ks vs seen=>obtain ⟨m,es,c,h5,_⟩:=hok;rw [hg] at h5;cases h5
 | loop r=>obtain ⟨t,d,f,h5,_⟩:=hok;rw [hg] at h5;cases h5
theorem Marks.ext {X:Nat→Nat→Prop} {base mb l:Nat} {D:List Deferred} {σ σ':Store} {β β':Env} {w w':World} {ds:List Deferred} (h:Marks mb D w ds) (hr:RelS X base σ β w) (he:Ext l σ β w σ' β' w'):Marks mb D w' ds:=by
 obtain ⟨rs,h1,h2,h3⟩:=h
 refine ⟨rs,h1,h2,fun r hr'=>⟨(h3 r hr').1,?_⟩⟩
 have h4:=(h3 r hr').2
 exact (he.block r (Array.getElem?_eq_some_iff.1 h4).1 (Zl2 hr h4)).trans h4
theorem Zbx (tm:List AVal) (d:Option Tmp) (v:AVal):(put tm d v).length=tm.length:=by cases d<;>simp [put]
theorem Rel.next {X:Nat→Nat→Prop} {base mb l:Nat} {D:List Deferred} {β β':Env} {a:Act} {w w':World} {σ':Store} (h:Rel X base mb D st β a w) (hs:RelS X base σ' β' w') (he:Ext l st.σ β w σ' β' w') (hβ:∀ b L,β b=some L→β' b=some L)
  {v:Value} {r:AVal} (hv:Rep w' (MT X σ' β') β' v r) (dst:Option Tmp):Rel X base mb D ⟨put st.tm dst r,σ'⟩ β' (a.put dst v) w':=by
 have hk:=he.keeps h.s
 refine ⟨hs,?_,fun k hk'=>?_,?_⟩
 ·cases dst<;>simp [Act.put,put,h.n]
 ·rw [Zbx] at hk'
  have h0:=(h.t k hk').mono hk hβ
  cases dst with
  | none=>exact h0
  | some d =>
   simp only [Act.put,put]
   rw [Array.getD_eq_getD_getElem?,Array.getElem?_setIfInBounds]
   by_cases e:d=k
   ·subst e
    rw [if_pos rfl,if_pos (by rw [h.n];exact hk'),Zcm _ _ _ hk'];exact hv
   ·rw [if_neg e,← Array.getD_eq_getD_getElem?,getD_set_ne _ _ _ _ e];exact h0
 ·have:=h.d.ext h.s he
  cases dst<;>exact this
def gone:AVal:=.opq undef
def isBoolV:Value→Bool
 | .bool _=>true
 | _=>false
def gdA (ops:Array Oper) (tm:List AVal) (o:Oper):Option Bool :=
 match o.guard with
 | none=>some true
 | some (j,want)=>match (ops[j]?).bind (·.dst) with
  | some d=>match tm[d]? with
   | some (.bool b)=>some (b==want)
   | some (.opq v)=>if isBoolV v then none else some false
   | _=>none
  | none=>none
theorem Zc4 {X:Nat→Nat→Prop} {base mb:Nat} {D:List Deferred} {β:Env} {a:Act} {w:World} (h:Rel X base mb D st β a w) {ops:Array Oper} {o:Oper} {b:Bool} (hg:gdA ops st.tm o=some b):Region.wanted o (yielded ops a.tmps)=b:=by
 unfold gdA at hg
 unfold Region.wanted
 split at hg
 ·rename_i e;rw [e];simpa using hg
 ·rename_i j want e
  rw [e]
  simp only
  split at hg
  ·rename_i d hd
   split at hg
   ·rename_i c hc
    cases hg
    obtain ⟨hlt,hv⟩:=List.getElem?_eq_some_iff.1 hc
    have h1:=h.t d hlt
    rw [show st.tm.getD d AVal.undef = .bool c by simp [List.getD,hc]] at h1
    have h2:a.tmps[d]? = some (.bool c):=by
     rw [Array.getElem?_eq_getElem (by rw [h.n];exact hlt)]
     have:=h1.bool_inv
     rw [Array.getD_eq_getD_getElem?,Array.getElem?_eq_getElem (by rw [h.n];exact hlt)] at this
     simpa using this
    simp only [yielded,hd,Option.bind_some,h2]
    cases c<;>cases want<;>rfl
   ·rename_i v hv
    split at hg
    ·cases hg
    ·rename_i hnb
     cases hg
     obtain ⟨hlt,hv'⟩:=List.getElem?_eq_some_iff.1 hv
     have h1:=h.t d hlt
     rw [show st.tm.getD d AVal.undef = .opq v by simp [List.getD,hv]] at h1
     have h2:a.tmps[d]? = some v:=by
      rw [Array.getElem?_eq_getElem (by rw [h.n];exact hlt)]
      have hopq:∀ {M:Nat→Nat→Prop} {x y:Value},Rep w M β x (.opq y)→x=y:=fun h=>by cases h;rfl
      have:a.tmps.getD d undef=v:=hopq h1
      rw [Array.getD_eq_getD_getElem?,Array.getElem?_eq_getElem (by rw [h.n];exact hlt)] at this
      simpa using this
     simp only [yielded,hd,Option.bind_some,h2]
     cases v<;>first | rfl | exact absurd rfl hnb
   ·cases hg
  ·cases hg
theorem Rel.keep {X:Nat→Nat→Prop} {base mb l:Nat} {D:List Deferred} {β β':Env} {a:Act} {w w':World} {σ':Store} (h:Rel X base mb D st β a w) (hs:RelS X base σ' β' w') (he:Ext l st.σ β w σ' β' w') (hβ:∀ b L,β b=some L→β' b=some L) :
  Rel X base mb D ⟨st.tm,σ'⟩ β' a w':=h.next hs he hβ (v:=undef) (r:=.undef) (.undef _) none
theorem EvR.nil {ops:Array Oper} {r:List Nat} {Q:AExit→St→Prop} (h:Q .normal st):EvR P lo ops r [] st Q :=
 fun X base mb D β a w b k cs h1 h2 h3=>⟨.normal,st,β,a,w,h,h1,h3,Ext.refl _ _ _ _,rfl, .refl _ _⟩
theorem EvR.absent {ops:Array Oper} {r:List Nat} {i:Nat} {rest:List Nat} {o:Oper} {Q:AExit→St→Prop} (ho:ops[i]? = some o) (hg:gdA ops st.tm o=some false) (h:EvR P lo ops r rest ⟨put st.tm o.dst gone,st.σ⟩ Q):EvR P lo ops r (i :: rest) st Q:=by
 intro X base mb D β a w b k cs h1 h2 h3
 have hw:=Zc4 h3 hg
 have h4:=h3.next h3.s (Ext.refl 0 _ _ _) (fun _ _ h=>h) (v:=undef) (r:=gone) (.opq _) o.dst
 obtain ⟨e,st',β',a',w',q,r1,r2,r3,rd,r4⟩:=h X base mb D β _ w b k cs h1 h2 h4
 refine ⟨e,st',β',a',w',q,r1,r2,r3,by rw [rd];cases o.dst<;>rfl, .of_steps (.one (stepR_op_skip (by simp [ho,hw]))) ?_⟩
 rw [ho];exact r4
theorem Zou {σ:Store} {nm:Nat} {ρ:Operand→AVal} {o:Oper} {r:AVal×Store} (h:opE P σ nm ρ o.op=some r):∀ c,o.op≠.defer c:=by
 intro c e;rw [e] at h;simp [opE] at h
theorem EvR.op {ops:Array Oper} {rs:List Nat} {i:Nat} {rest:List Nat} {o:Oper} {Q:AExit→St→Prop} (ho:ops[i]? = some o) (hg:gdA ops st.tm o=some true) {r:AVal} {σ':Store} (hE:opE P st.σ st.σ.length (ev st.tm) o.op=some (r,σ'))
  (hlen:lo.n≤st.σ.length→lo.n≤σ'.length) (h:EvR P lo ops rs rest ⟨put st.tm o.dst r,σ'⟩ Q):EvR P lo ops rs (i :: rest) st Q:=by
 intro X base mb D β a w b k cs h1 h2 h3
 have hw:=Zc4 h3 hg
 obtain ⟨v,w1,β1,hrun,g1,g2,g3,g4,g5⟩:=Zno h3.s (h3.s.dom _ (Nat.le_refl _)) (fun x=>Zdn h3 x) (fun _=>rfl) hE
 have hrel:=h3.next g1 g3 g5 g2 o.dst
 obtain ⟨e,st',β',a',w',q,r1,r2,r3,rd,r4⟩:=h X base mb D β1 _ w1 b k cs (hlen h1) (Nat.le_trans h2 g3.size) hrel
 have hext:Ext lo.n st.σ β w σ' β1 w1:=⟨g3.os,g3.tape,g3.output,g3.size,g3.cell,g3.block,g3.newM,fun c hc=>g4 c (by omega)⟩
 refine ⟨e,st',β',a',w',q,r1,r2,hext.trans r3,by rw [rd];cases o.dst<;>rfl, .of_steps (.one (step_lone_go ?_)) r4⟩
 rw [List.cons_append,stepGR_op ho hw,Oper.semAt_eq _ _ _ (Zou hE)]
 have hfin:=Frame.finish_atR b a ops i (rest++rs) k v
 rw [ho] at hfin
 rcases hrun with hrun | ⟨hrun,rfl⟩
 ·simp only [stepG.apply,if_true,Sem.runT_eq,hrun,GStep.bare_after,GStep.bare_go]
  rw [hfin];rfl
 ·simp only [stepG.apply,if_true,Sem.runT_eq,hrun,GStep.bare_after,GStep.bare_go]
  rw [hfin];rfl
theorem EvR.region {id:Nat} {ops:Array Oper} {Q:AExit→St→Prop} (h:EvR P lo ops [] (List.range ops.size) st Q):EvS P lo (.region id ops false) st Q:=by
 intro X base mb D β a w b k cs h1 h2 h3 _
 obtain ⟨e,st',β',a',w',q,r1,r2,r3,rd,r4⟩:=h X base mb D β a w b k cs h1 h2 h3
 rw [List.append_nil] at r4
 refine ⟨e,st',β',a',w',q,r1,r2,r3, .of_steps (.one stepR_region) ?_⟩
 cases e with
 | normal=>exact Steps.trans r4 (.one stepR_region_end)
 | exit id=>obtain ⟨k',e1,e2⟩:=r4;exact ⟨k',by rw [e1];rfl,e2⟩
 | goto l=>obtain ⟨k',e1,e2⟩:=r4;exact ⟨k',by rw [e1];rfl,e2⟩
 | ret=>exact r4
 | panic u=>exact r4
def Waits (fr:Frame):Prop:=∀ d b s a k,fr.todo≠.call d b s a :: k
def Fin (P:Program) (fr:Frame) (cs:List Frame) (s:Sem Next) (w:World) (v:Value) (w':World):Prop :=
 ∃ f1 cs1 w1,(stepG.apply P true fr cs none s w).bare = .go { frame:=f1,callers:=cs1,status:=.running,dying:=none } w1∧Steps P (lone f1 cs1 w1) (lone (fr.finish v) cs w')
def VCallG (P:Program) (F:Frame→List Frame→Sem Next→World→Value→World→Prop) (f:AVal) (args:List AVal) (σ:Store) (K:AVal→Store→Prop):Prop :=
 ∀ (X:Nat→Nat→Prop) (base:Nat) (β:Env) (w:World) (vf:Value) (vs:Array Value),RelS X base σ β w→Rep w (MT X σ β) β vf f→vs.size=args.length →
  (∀ k,k<args.length→Rep w (MT X σ β) β (vs.getD k undef) (args.getD k .undef))→∀ (fr:Frame) (cs:List Frame),Waits fr →
  ∃ r σ' β' v w',K r σ'∧RelS X base σ' β' w'∧Rep w' (MT X σ' β') β' v r∧Ext σ.length σ β w σ' β' w'∧σ.length≤σ'.length ∧
   F fr cs (do let d ← Deferred.ofValue vf vs;invoke d.target d.args) w v w'
def CallShG (P:Program) (F:Frame→List Frame→Sem Next→World→Value→World→Prop) (g:FuncId) (args:List AVal) (σ:Store) (K:AVal→Store→Prop):Prop :=
 ∀ (X:Nat→Nat→Prop) (base:Nat) (β:Env) (w:World) (vs:Array Value),RelS X base σ β w→vs.size=args.length →
  (∀ k,k<args.length→Rep w (MT X σ β) β (vs.getD k undef) (args.getD k .undef))→∀ (fr:Frame) (cs:List Frame),Waits fr →
  ∃ r σ' β' v w',K r σ'∧RelS X base σ' β' w'∧Rep w' (MT X σ' β') β' v r∧Ext σ.length σ β w σ' β' w'∧σ.length≤σ'.length∧F fr cs (callFunc g vs) w v w'
abbrev VCall (P:Program) (f:AVal) (args:List AVal) (σ:Store) (K:AVal→Store→Prop):Prop:=VCallG P (Fin P) f args σ K
abbrev CallSh (P:Program) (g:FuncId) (args:List AVal) (σ:Store) (K:AVal→Store→Prop):Prop:=CallShG P (Fin P) g args σ K
theorem VCallG.mono {F:Frame→List Frame→Sem Next→World→Value→World→Prop} {f:AVal} {args:List AVal} {σ:Store} {K K':AVal→Store→Prop} (h:VCallG P F f args σ K) (hk:∀ r s,K r s→K' r s):VCallG P F f args σ K':=by
 intro X base β w vf vs h1 h1' h2 h3 fr cs h4
 obtain ⟨r,σ',β',v,w',q,rest⟩:=h X base β w vf vs h1 h1' h2 h3 fr cs h4
 exact ⟨r,σ',β',v,w',hk _ _ q,rest⟩
theorem VCall.mono {f:AVal} {args:List AVal} {σ:Store} {K K':AVal→Store→Prop} (h:VCall P f args σ K) (hk:∀ r s,K r s→K' r s):VCall P f args σ K':=VCallG.mono h hk
theorem VCall.sh {F:Frame→List Frame→Sem Next→World→Value→World→Prop} {g:FuncId} {first captured args:List AVal} {σ:Store} {K:AVal→Store→Prop} (h:CallShG P F g (first++args++captured) σ K):VCallG P F (.fn g first captured) args σ K:=by
 intro X base β w vf vs h1 h1' h2 h3 fr cs h4
 cases h1' with
 | @fn _ fa ca _ _ e1 e2 r1 r2 =>
  obtain ⟨r,σ',β',v,w',q,g1,g2,g3,g4,g5⟩:=h X base β w (fa++vs++ca) h1 (by simp [e1,e2,h2]) (fun k hk=>by
   simp only [List.length_append] at hk
   rw [Zak,Zak,Zi9]
   simp only [List.length_append]
   by_cases c1:k<first.length
   ·rw [if_pos (by omega),if_pos (by omega),if_pos c1];exact r1 k c1
   ·by_cases c2:k<first.length+args.length
    ·rw [if_neg (by omega),if_pos (by omega),if_pos c2,if_neg c1,e1];exact h3 _ (by omega)
    ·rw [if_neg (by omega),if_neg (by omega),if_neg c2,e1,h2];exact r2 _ (by omega)) fr cs h4
  refine ⟨r,σ',β',v,w',q,g1,g2,g3,g4,?_⟩
  have:(do let d ← Deferred.ofValue (.func (.func g) fa ca) vs;invoke d.target d.args:Sem Next)=callFunc g (fa++vs++ca):=rfl
  rw [this];exact g5
def FinP (P:Program) (fr:Frame) (cs:List Frame) (s:Sem Next) (w:World) (u:Value) (w':World):Prop :=
 ∃ f1 cs1 w1,(stepG.apply P true fr cs none s w).bare = .go { frame:=f1,callers:=cs1,status:=.running,dying:=none } w1∧Steps P (lone f1 cs1 w1) (lone (fr.raise [{ v:=u,recovered:=false }]) cs w')
abbrev VPan (P:Program) (f:AVal) (args:List AVal) (σ:Store) (K:AVal→Store→Prop):Prop:=VCallG P (FinP P) f args σ K
theorem EvR.call {ops:Array Oper} {rs:List Nat} {i:Nat} {rest:List Nat} {o:Oper} {Q:AExit→St→Prop} (ho:ops[i]? = some o) (hg:gdA ops st.tm o=some true) {f:Operand} {args:Array Operand} {ts:Array TypeId} (hop:o.op = .call { callee:=.value f,args,argTypes:=ts })
  (h:VCall P (ev st.tm f) (args.toList.map (ev st.tm)) st.σ (fun r σ'=>EvR P lo ops rs rest ⟨put st.tm o.dst r,σ'⟩ Q)):EvR P lo ops rs (i :: rest) st Q:=by
 intro X base mb D β a w b k cs h1 h2 h3
 have hw:=Zc4 h3 hg
 obtain ⟨r,σ',β',v,w1,q,g1,g2,g3,g4,f1,cs1,w2,g5,g6⟩:=h X base β w (a.eval f) (args.map a.eval) h3.s (Zdn h3 f) (by simp) (fun j hj=>by
  simp only [List.length_map,Array.length_toList] at hj
  rw [Array.getD_eq_getD_getElem?,Array.getElem?_map,Array.getElem?_eq_getElem hj]
  simp only [List.getD,List.getElem?_map,Array.getElem?_toList,Array.getElem?_eq_getElem hj,Option.map_some,Option.getD_some]
  exact Zdn h3 _) (b.atR a (.inRegion ops (i :: (rest++rs)) :: k)) cs (fun d b' s a' k' e=>by simp [Frame.atR] at e)
 have hβ:∀ c L,β c=some L→β' c=some L:=fun c L hc=>by
  by_cases hcl:c<st.σ.length
  ·rw [g3.env c hcl];exact hc
  ·rw [h3.s.dom c (by omega)] at hc;cases hc
 have hrel:=h3.next g1 g3 hβ g2 o.dst
 obtain ⟨e,st',β2,a',w',q',r1,r2,r3,rd,r4⟩:=q X base mb D β' _ w1 b k cs (Nat.le_trans h1 g4) (Nat.le_trans h2 g3.size) hrel
 refine ⟨e,st',β2,a',w',q',r1,r2,(g3.lower h1).trans r3,by rw [rd];cases o.dst<;>rfl, .of_steps (.head (step_lone_go ?_) g6) ?_⟩
 ·rw [List.cons_append,stepGR_op ho hw,Oper.semAt_eq _ _ _ (fun c e=>by rw [hop] at e;cases e)]
  rw [← g5]
  congr 2
  simp only [execOp,hop,resolve]
 ·have hfin:=Frame.finish_atR b a ops i (rest++rs) k v
  rw [ho] at hfin
  rw [hfin];exact r4
def plainV:AVal→Option Value
 | .bool b=>some (.bool b)
 | .int k n=>some (.int k n)
 | .str s=>some (.string s)
 | _=>none
def plainVs:List AVal→Option (List Value)
 | []=>some []
 | a :: l=>(plainV a).bind fun v=>(plainVs l).map (v :: ·)
def pvV:AVal→Option Value
 | .iface t (.agg cs)=>(plainVs cs).map fun l=>.iface t (.agg l.toArray)
 | .iface t a=>(plainV a).map (.iface t)
 | _=>none
theorem Zx2 {M:Nat→Nat→Prop} {β:Env} {w:World} {a:AVal} {v u:Value} (hp:plainV a=some u) (h:Rep w M β v a):v=u:=by
 cases a<;>simp only [plainV,reduceCtorEq,Option.some.injEq] at hp<;>subst hp<;>cases h<;>rfl
theorem Zwv {M:Nat→Nat→Prop} {β:Env} {w:World} {a:AVal} {u:Value} (hp:plainV a=some u):Rep w M β u a:=by
 cases a<;>simp only [plainV,reduceCtorEq,Option.some.injEq] at hp<;>subst hp<;>constructor
theorem Zif {M:Nat→Nat→Prop} {β:Env} {w:World}:∀ {cs:List AVal} {us:List Value},plainVs cs=some us→us.length=cs.length∧(∀ k,k<cs.length→Rep w M β (us.getD k undef) (cs.getD k .undef)) ∧
  ∀ vs:List Value,vs.length=cs.length→(∀ k,k<cs.length→Rep w M β (vs.getD k undef) (cs.getD k .undef))→vs=us
 | [],us,h=>by
  simp only [plainVs,Option.some.injEq] at h;subst h
  exact ⟨rfl,fun k hk=>absurd hk (Nat.not_lt_zero _),fun vs hv _=>List.eq_nil_of_length_eq_zero hv⟩
 | a :: l,us,h=>by
  simp only [plainVs,Option.bind_eq_some_iff,Option.map_eq_some_iff] at h
  obtain ⟨v,h1,us',h2,rfl⟩:=h
  obtain ⟨g1,g2,g3⟩:=Zif h2
  refine ⟨by simp [g1],fun k hk=>?_,fun vs hv hr=>?_⟩
  ·cases k with
   | zero=>exact Zwv h1
   | succ k=>simpa using g2 k (by simpa using hk)
  ·cases vs with
   | nil=>simp at hv
   | cons y vs =>
    have e1:=Zx2 h1 (hr 0 (by simp))
    simp only [List.getD_cons_zero] at e1
    rw [e1,g3 vs (by simpa using hv) (fun k hk=>by simpa using hr (k+1) (by simpa using hk))]
theorem Zzr {M:Nat→Nat→Prop} {β:Env} {w:World} {a:AVal} {v u:Value} (hp:pvV a=some u) (h:Rep w M β v a):v=u:=by
 cases a<;>simp only [pvV,reduceCtorEq] at hp
 rename_i t a
 cases h with
 | @iface _ y _ hy =>
  cases a<;>simp only [plainV,Option.map_none,reduceCtorEq,Option.map_some,Option.some.injEq] at hp
  all_goals first
   | (subst hp;cases hy;rfl)
   | (obtain ⟨us,h1,rfl⟩:=Option.map_eq_some_iff.1 hp
      cases hy with
      | @agg cs l hn hr =>
       obtain ⟨_,_,g3⟩:=Zif (w:=w) (M:=M) (β:=β) h1
       have:=g3 cs.toList (by simpa using hn) (fun k hk=>by
        have:=hr k hk
        rwa [show cs.getD k Go.undef=cs.toList.getD k Go.undef by simp [List.getD,Array.getD_eq_getD_getElem?]] at this)
       rw [← this])
theorem Yd5 {a:AVal} {u:Value} (hp:pvV a=some u):∃ t x,u = .iface t x:=by
 cases a<;>simp only [pvV,reduceCtorEq] at hp
 rename_i t a
 cases a<;>simp only [plainV,Option.map_none,reduceCtorEq,Option.map_some,Option.some.injEq] at hp
 all_goals first
  | (subst hp;exact ⟨_,_,rfl⟩)
  | (obtain ⟨us,h1,rfl⟩:=Option.map_eq_some_iff.1 hp;exact ⟨_,_,rfl⟩)
theorem EvR.pan {ops:Array Oper} {rs:List Nat} {i:Nat} {rest:List Nat} {o:Oper} {Q:AExit→St→Prop} (ho:ops[i]? = some o) (hg:gdA ops st.tm o=some true) {f:Operand} {args:Array Operand} {ts:Array TypeId} (hop:o.op = .call { callee:=.value f,args,argTypes:=ts })
  (h:VPan P (ev st.tm f) (args.toList.map (ev st.tm)) st.σ (fun r σ'=>∃ u,pvV r=some u∧Q (.panic u) ⟨st.tm,σ'⟩)):EvR P lo ops rs (i :: rest) st Q:=by
 intro X base mb D β a w b k cs h1 h2 h3
 have hw:=Zc4 h3 hg
 obtain ⟨r,σ',β',v,w1,⟨u,hu,q⟩,g1,gr,g3,g4,f1,cs1,w2,g5,g6⟩:=h X base β w (a.eval f) (args.map a.eval) h3.s (Zdn h3 f) (by simp) (fun j hj=>by
  simp only [List.length_map,Array.length_toList] at hj
  rw [Array.getD_eq_getD_getElem?,Array.getElem?_map,Array.getElem?_eq_getElem hj]
  simp only [List.getD,List.getElem?_map,Array.getElem?_toList,Array.getElem?_eq_getElem hj,Option.map_some,Option.getD_some]
  exact Zdn h3 _) (b.atR a (.inRegion ops (i :: (rest++rs)) :: k)) cs (fun d b' s a' k' e=>by simp [Frame.atR] at e)
 have hβ:∀ c L,β c=some L→β' c=some L:=fun c L hc=>by
  by_cases hcl:c<st.σ.length
  ·rw [g3.env c hcl];exact hc
  ·rw [h3.s.dom c (by omega)] at hc;cases hc
 obtain rfl:=Zzr hu gr
 refine ⟨.panic v,⟨st.tm,σ'⟩,β',a,w1,q,Nat.le_trans h1 g4,h3.keep g1 g3 hβ,g3.lower h1,rfl, .inRegion ops (i :: (rest++rs)) :: k, .head (step_lone_go ?_) g6⟩
 rw [List.cons_append,stepGR_op ho hw,Oper.semAt_eq _ _ _ (fun c e=>by rw [hop] at e;cases e)]
 rw [← g5]
 congr 2
 simp only [execOp,hop,resolve]
theorem EvR.panic {ops:Array Oper} {rs:List Nat} {i:Nat} {rest:List Nat} {o:Oper} {Q:AExit→St→Prop} (ho:ops[i]? = some o) (hg:gdA ops st.tm o=some true) {x:Operand} (hop:o.op = .panic x) {u:Value} (hu:pvV (ev st.tm x)=some u)
  (h:Q (.panic u) st):EvR P lo ops rs (i :: rest) st Q:=by
 intro X base mb D β a w b k cs h1 h2 h3
 have hw:=Zc4 h3 hg
 have hv:=Zzr hu (Zdn h3 x)
 obtain ⟨t,y,hi⟩:=Yd5 hu
 refine ⟨.panic u,st,β,a,w,h,h1,h3,Ext.refl _ _ _ _,rfl, .inRegion ops (i :: (rest++rs)) :: k, .one (step_lone_go ?_)⟩
 rw [List.cons_append,stepGR_op ho hw,Oper.semAt_eq _ _ _ (fun c e=>by rw [hop] at e;cases e)]
 have hrun:(execOp a.eval o).run P w = .halt (.panic u) w:=by
  simp only [execOp,hop,hv,hi,Instr.panic,Sem.run_bind];rfl
 simp only [stepG.apply,if_true,Sem.runT_eq,hrun,GStep.bare_after,GStep.bare_go]
 rfl
def resA (tm:List AVal) (σ:Store) (P:Program):ResultVar→Option AVal
 | .tmp t=>some (tm.getD t .undef)
 | .cell a t=>(layOf P t).bind fun l=>loadA σ l (tm.getD a .undef)
def resultsA (P:Program) (st:St) (rs:List ResultVar):Option AVal :=
 match rs.mapM (resA st.tm st.σ P) with
 | some [v]=>some v
 | some vs=>some (.tup vs)
 | none=>none
def semR (tmps:Array Value):ResultVar→Sem Value
 | .tmp t=>pure (tmps.getD t undef)
 | .cell a t=>do loadVar t (← asAddr (tmps.getD a undef))
theorem Zw2 (fn:Func) (tmps:Array Value):results fn tmps=(do let vs ← fn.results.mapM (semR tmps);pure (if h:vs.size=1 then vs[0] else .tuple vs)):=rfl
theorem Ygh {X:Nat→Nat→Prop} {base mb:Nat} {D:List Deferred} {β:Env} {a:Act} {w:World} (h:Rel X base mb D st β a w) (r:ResultVar) {v:AVal} (hv:resA st.tm st.σ P r=some v) :
  ∃ x,(semR a.tmps r).run P w = .ok x w∧Rep w (MT X st.σ β) β x v:=by
 cases r with
 | tmp t =>
  simp only [resA,Option.some.injEq] at hv;subst hv
  exact ⟨_,rfl,Zdn h (.tmp t)⟩
 | cell c t =>
  obtain ⟨l,hl,h1⟩:=Option.bind_eq_some_iff.1 hv
  obtain ⟨cs,⟨g,of,cv,e1,e2,e3⟩,h4⟩:=Zjg h.s (Zdn h (.tmp c)) h1
  obtain ⟨x,h5,h6⟩:=Zfo hl e2 e3 h4
  refine ⟨x,?_,h6⟩
  simp only [Act.eval] at e1
  simp only [semR,Sem.run_bind,e1,asAddr,Sem.run_pure,Result.andThen_ok,h5]
theorem Zib {X:Nat→Nat→Prop} {base mb:Nat} {D:List Deferred} {β:Env} {a:Act} {w:World} (h:Rel X base mb D st β a w) {fn:Func} {v:AVal} (hv:resultsA P st fn.results.toList=some v) :
  ∃ x,(results fn a.tmps).run P w = .ok x w∧Rep w (MT X st.σ β) β x v:=by
 have key:∀ (rs:List ResultVar) (vs:List AVal),rs.mapM (resA st.tm st.σ P)=some vs →
   ∃ xs:List Value,(rs.mapM (semR a.tmps)).run P w = .ok xs w∧xs.length=vs.length ∧
    ∀ k,k<vs.length→Rep w (MT X st.σ β) β (xs.getD k undef) (vs.getD k .undef):=by
  intro rs
  induction rs with
  | nil=>intro vs hm;simp at hm;subst hm;exact ⟨[],rfl,rfl,fun k hk=>by simp at hk⟩
  | cons r rs ih =>
   intro vs hm
   simp only [List.mapM_cons,Option.bind_eq_bind,Option.bind_eq_some_iff,Option.pure_def,Option.some.injEq] at hm
   obtain ⟨y,hy,ys,hys,rfl⟩:=hm
   obtain ⟨x,h1,h2⟩:=Ygh h r hy
   obtain ⟨xs,h3,h4,h5⟩:=ih ys hys
   refine ⟨x :: xs,?_,by simp [h4],fun k hk=>?_⟩
   ·rw [List.mapM_cons,Sem.run_bind,h1];simp only [Result.andThen_ok,Sem.run_bind];rw [h3];rfl
   ·cases k with
    | zero=>exact h2
    | succ k=>simp only [List.length_cons] at hk;simpa using h5 k (by omega)
 unfold resultsA at hv
 have hres:∀ xs:List Value,(fn.results.toList.mapM (semR a.tmps)).run P w = .ok xs w →
   (results fn a.tmps).run P w = .ok (if h:xs.toArray.size=1 then xs.toArray[0] else .tuple xs.toArray) w:=by
  intro xs hxs
  simp only [Zw2,Sem.run_bind]
  rw [show fn.results=fn.results.toList.toArray from (Array.toArray_toList).symm,List.mapM_toArray]
  simp only [Sem.run_map]
  rw [hxs]
  rfl
 split at hv
 ·rename_i y hm
  simp only [Option.some.injEq] at hv;subst hv
  obtain ⟨xs,h1,h2,h3⟩:=key _ _ hm
  match xs,h2 with
  | [x],_=>exact ⟨x,hres _ h1,h3 0 (by simp)⟩
 ·rename_i vs hne hm
  simp only [Option.some.injEq] at hv;subst hv
  obtain ⟨xs,h1,h2,h3⟩:=key _ _ hm
  refine ⟨.tuple xs.toArray,?_, .tup (by simpa using h2) (fun k hk=>?_)⟩
  ·rw [hres _ h1,dif_neg]
   simp only [List.size_toArray]
   intro h1'
   rw [h2] at h1'
   match vs,h1' with
   | [y],_=>exact hne y rfl
  ·have:=h3 k hk
   rwa [show xs.toArray.getD k undef=xs.getD k undef by simp [List.getD,Array.getD_eq_getD_getElem?]]
 ·cases hv
def St.enter (fn:Func) (args:List AVal) (σ:Store):St:=⟨args++List.replicate (fn.ntmps - args.length) .undef,σ⟩
def bodyQ (P:Program) (fn:Func) (K:AVal→Store→Prop) (e:AExit) (s:St):Prop :=
 match e with
 | .normal | .ret=>∃ r,resultsA P s fn.results.toList=some r∧K r s.σ
 | _=>False
theorem Zli {mb:Nat} {D:List Deferred}:∀ (rs:List Nat) (w:World) (fr:Frame) (cs:List Frame),fr.mode≠.run→fr.defers=rs.map (fun r=>{ target:=.collected r,args:=#[] })++D→rs.Nodup →
  (∀ r∈rs,mb≤r∧w.heap[r]? = some (.deferred (some []))) →
  ∃ w',Steps P (lone fr cs w) (lone { fr with defers:=D } cs w')∧w'.os=w.os∧w'.tape=w.tape∧w'.output=w.output∧w'.heap.size=w.heap.size∧(∀ g,(∀ r∈rs,g≠r)→w'.heap[g]? = w.heap[g]?) ∧
   ∀ r∈rs,w'.heap[r]? = some (.deferred none)
 | [],w,fr,cs,hm,hd,_,_=>by
  simp only [List.map_nil,List.nil_append] at hd
  refine ⟨w,?_,rfl,rfl,rfl,rfl,fun _ _=>rfl,fun r hr=>by simp at hr⟩
  have : { fr with defers:=D }=fr:=by cases fr;simp_all
  rw [this];exact .refl _ _
 | r :: rs,w,fr,cs,hm,hd,hn,hw=>by
  simp only [List.map_cons,List.cons_append] at hd
  have h1:=(hw r (by simp)).2
  have hlt:r<w.heap.size:=(Array.getElem?_eq_some_iff.1 h1).1
  have hrun:(Instr.takeDeferred r).run P w = .ok [] { w with heap:=w.heap.setIfInBounds r (.deferred none) }:=by
   simp [Instr.takeDeferred,getObj,setObj,Sem.run,h1]
  have hstep:step P (lone fr cs w) = .next (lone { fr with defers:=rs.map (fun r=>{ target:=.collected r,args:=#[] })++D } cs { w with heap:=w.heap.setIfInBounds r (.deferred none) }):=by
   refine step_lone_go ?_
   cases hmode:fr.mode with
   | run=>exact absurd hmode hm
   | returning=>simp [stepG,unwind,hmode,hd,Sem.runT_eq,hrun]
   | panicking ch=>simp [stepG,unwind,hmode,hd,Sem.runT_eq,hrun]
  have hn':=List.nodup_cons.1 hn
  obtain ⟨w',g1,g2,g3,g4,g5,g6,g7⟩:=Zli (mb:=mb) (D:=D) rs { w with heap:=w.heap.setIfInBounds r (.deferred none) } { fr with defers:=rs.map (fun r=>{ target:=.collected r,args:=#[] })++D } cs hm rfl hn'.2
   (fun q hq=>⟨(hw q (by simp [hq])).1,by
    have:q≠r:=by rintro rfl;exact hn'.1 hq
    simp only [Array.getElem?_setIfInBounds]
    rw [if_neg (Ne.symm this)];exact (hw q (by simp [hq])).2⟩)
  refine ⟨w', .head hstep g1,g2,g3,g4,by rw [g5];simp,fun g hg=>?_,fun q hq=>?_⟩
  ·rw [g6 g (fun q hq=>hg q (by simp [hq]))]
   simp only [Array.getElem?_setIfInBounds]
   rw [if_neg (Ne.symm (hg r (by simp)))]
  ·simp only [List.mem_cons] at hq
   rcases hq with rfl | hq
   ·by_cases hin:q∈rs
    ·exact g7 q hin
    ·rw [g6 q (fun r' hr' e=>hin (e ▸ hr'))]
     simp [Array.getElem?_setIfInBounds,hlt]
   ·exact g7 q hq
theorem Rel.unmark {X:Nat→Nat→Prop} {base mb:Nat} {D:List Deferred} {β:Env} {a:Act} {w:World} (h:Rel X base mb D st β a w) (fr:Frame) (cs:List Frame) (hm:fr.mode≠.run) (hd:fr.defers=a.defers) :
  ∃ w2,Steps P (lone fr cs w) (lone { fr with defers:=D } cs w2)∧Rel X base mb D st β { a with defers:=D } w2 ∧
   ∀ lo σ0 β0 w0,w0.heap.size≤mb→Ext lo σ0 β0 w0 st.σ β w→Ext lo σ0 β0 w0 st.σ β w2:=by
 obtain ⟨rs,m1,m2,m3⟩:=h.d
 obtain ⟨w2,t1,t2,t3,t4,t5,t6,t7⟩:=Zli (P:=P) (D:=D) rs w fr cs hm (hd.trans m1) m2 m3
 have hheap:∀ (g':Nat) (o:Obj),w.heap[g']? = some o→(∀ d,o≠.deferred d)→w2.heap[g']? = some o:=by
  intro g' o ho hne
  rw [t6 g' (fun r hr e=>by subst e;rw [(m3 g' hr).2] at ho;cases ho;exact hne _ rfl)];exact ho
 have hc2:∀ (g' o:Nat) (v:Value),w.cell? ⟨g',o,none⟩=some v→w2.cell? ⟨g',o,none⟩=some v:=by
  intro g' o v hc
  obtain ⟨c',e',fz,hg'⟩:∃ c' e' fz,w.heap[g']? = some (.cells c' e' fz):=by
   simp only [World.cell?] at hc
   split at hc
   ·rename_i c' e' fz hg';exact ⟨_,_,_,hg'⟩
   ·cases hc
  rw [World.cell?_of_block (w:=w) (by rw [hheap _ _ hg' (fun d e=>by cases e),hg'])];exact hc
 have hk2:Keeps w (MT X st.σ β) w2 (MT X st.σ β) :=
  ⟨fun g' o v hc hn=>⟨hc2 g' o v hc,hn⟩,fun g' es cl hg hn=>⟨hheap _ _ hg (fun d e=>by cases e),hn⟩⟩
 have hs2:RelS X base st.σ β w2:=by
  refine ⟨h.s.dom,fun b' blk hb'=>?_,h.s.inj,by rw [t5];exact h.s.size,fun g' o hx=>by rw [t5];exact h.s.xlt g' o hx,fun x hx=>let ⟨g1,v,g2,g3⟩:=h.s.gl x hx;⟨g1,v,hc2 _ _ _ g2,g3⟩⟩
  obtain ⟨L,q1,q2,q3,q4⟩:=h.s.blk b' blk hb'
  refine ⟨L,q1,q2,q3,q4.mono hk2 (fun _ _ h=>h) ?_⟩
  cases blk with
  | var cs'=>obtain ⟨c',e',h,_⟩:=q4;rw [hheap _ _ h (fun d e=>by cases e),h]
  | row es fz=>obtain ⟨c',e',h,_⟩:=q4;rw [hheap _ _ h (fun d e=>by cases e),h]
  | map ks vs' fz=>obtain ⟨c',e',h,_⟩:=q4;rw [hheap _ _ h (fun d e=>by cases e),h]
  | iter s p=>have h:w.heap[L.g]? = some (.stringIter s p):=q4;rw [hheap _ _ h (fun d e=>by cases e),h]
  | mit ks vs' seen=>obtain ⟨m',es',c',h,_⟩:=q4;rw [hheap _ _ h (fun d e=>by cases e),h]
  | loop r'=>obtain ⟨c',e',f',h,_⟩:=q4;rw [hheap _ _ h (fun d e=>by cases e),h]
 refine ⟨w2,t1,⟨hs2,h.n,fun k hk=>(h.t k hk).mono hk2 (fun _ _ h=>h),⟨[],by simp,List.nodup_nil,fun r hr=>by simp at hr⟩⟩,fun lo σ0 β0 w0 hmb r3=>?_⟩
 refine ⟨t2.trans r3.os,t3.trans r3.tape,t4.trans r3.output,by rw [t5];exact r3.size,fun g' o v hc hn=>?_,fun g' hg' hn=>?_,r3.newM,r3.env⟩
 ·have hc':=r3.cell g' o v hc hn
  have hlt:=Zck hc
  rw [World.cell?_of_block (w:=w) (a:=⟨g',o,none⟩) (t6 g' (fun r hr e=>by have:=(m3 r hr).1;omega))];exact hc'
 ·rw [t6 g' (fun r hr e=>by have:=(m3 r hr).1;omega)];exact r3.block g' hg' hn
def frameOf (g:FuncId) (kind:CallKind):Frame:={ (default:Frame) with fn:=g,kind }
theorem Zkr {g:FuncId} {fn:Func} {c:Code} (hf:P.funcs[g]? = some fn) (hb:fn.body=some c) (vs:Array Value) (kind:CallKind) :
  Frame.enter P g vs kind=(frameOf g kind).atR { tmps:=vs++Array.replicate (fn.ntmps - vs.size) undef,defers:=[] } [.code c]:=by
 simp [Frame.enter,Frame.atR,hf,hb,frameOf];rfl
theorem Zom {X:Nat→Nat→Prop} {base:Nat} {fn:Func} {args:List AVal} {σ:Store} {β:Env} {w:World} {vs:Array Value} (h1:RelS X base σ β w) (h2:vs.size=args.length)
  (h3:∀ k,k<args.length→Rep w (MT X σ β) β (vs.getD k undef) (args.getD k .undef)) :
  Rel X base w.heap.size [] (St.enter fn args σ) β { tmps:=vs++Array.replicate (fn.ntmps - vs.size) undef,defers:=[] } w:=by
 refine ⟨h1,by simp only [St.enter,Array.size_append,Array.size_replicate,List.length_append,List.length_replicate,h2],fun k hk=>?_,⟨[],rfl,List.nodup_nil,fun r hr=>by simp at hr⟩⟩
 simp only [St.enter] at hk ⊢
 rw [Zak,Array.getD_eq_getD_getElem?,Array.getElem?_append]
 by_cases c1:k<args.length
 ·rw [if_pos (by omega),if_pos c1,← Array.getD_eq_getD_getElem?];exact h3 k c1
 ·rw [if_neg c1]
  have:(List.replicate (fn.ntmps - args.length) AVal.undef).getD (k - args.length) .undef = .undef:=by
   simp [List.getD,List.getElem?_replicate];split<;>rfl
  rw [this];exact .undef _
theorem Zrd {fr : Frame} {cs : List Frame} {w : World} {g : FuncId} {fn : Func} {c : Code} {vs : Array Value} (hf : P.funcs[g]? = some fn) (hb : fn.body = some c) (hname : (fn.name == "runtime.NumGoroutine") = false) (hfr : Waits fr) :
  (stepG.apply P true fr cs none (callFunc g vs) w).bare = .go { frame:=Frame.enter P g vs .normal,callers:=fr :: cs,status:=.running,dying:=none } w:=by
 have hname' : ¬ fn.name = "runtime.NumGoroutine" := by simpa using hname
 have hcall:(callFunc g vs).run P w = .ok (.enter g vs) w:=by simp [callFunc,hf,hname',hb]
 simp only [stepG.apply,if_true,Sem.runT_eq,hcall,GStep.bare_after,GStep.bare_go]
 split
 ·rename_i d s a k e;exact absurd e (hfr _ _ _ _ _)
 ·rfl
theorem Zt4 {X:Nat→Nat→Prop} {base mb:Nat} {fn:Func} {st':St} {β':Env} {a':Act} {w':World} {b:Frame} {k:List Item} {r:AVal} {g:FuncId} {cs:List Frame} (hf:P.funcs[g]? = some fn) (hg:b.fn=g) (r2:Rel X base mb [] st' β' a' w')
  (hr:resultsA P st' fn.results.toList=some r) :
  ∃ x w2,Rep w2 (MT X st'.σ β') β' x r∧RelS X base st'.σ β' w2∧(∀ lo σ0 β0 w0,w0.heap.size≤mb→Ext lo σ0 β0 w0 st'.σ β' w'→Ext lo σ0 β0 w0 st'.σ β' w2) ∧
   Steps P (lone { b.atR a' k with mode:=.returning } cs w') (lone { b.atR { a' with defers:=[] } k with mode:=.returning } cs w2) ∧
   (stepG P true { frame:={ b.atR { a' with defers:=[] } k with mode:=.returning },callers:=cs,status:=.running,dying:=none } w2).bare=(doReturn P true { b.atR { a' with defers:=[] } k with mode:=.returning } cs none x w2).bare:=by
 obtain ⟨w2,t1,hrel2,hext⟩:=r2.unmark (P:=P) { b.atR a' k with mode:=.returning } cs (by simp) rfl
 obtain ⟨x,hx1,hx2⟩:=Zib hrel2 hr
 refine ⟨x,w2,hx2,hrel2.s,hext,t1,?_⟩
 have hx1':(results fn a'.tmps).run P w2 = .ok x w2:=hx1
 subst hg
 simp [stepG,unwind,Frame.atR,hf,Sem.runT_eq,hx1']
theorem CallSh.body {g : FuncId} {fn : Func} {c : Code} {args : List AVal} {σ : Store} {K : AVal → Store → Prop} (hf : P.funcs[g]? = some fn) (hb : fn.body = some c) (hname : (fn.name == "runtime.NumGoroutine") = false)
  (h:EvS P ⟨σ.length,none⟩ c (St.enter fn args σ) (bodyQ P fn K)):CallSh P g args σ K:=by
 intro X base β w vs h1 h2 h3 fr cs hfr
 obtain ⟨e,st',β',a',w',q,r1,r2,r3,r4⟩:=h X base w.heap.size [] β _ w (frameOf g .normal) [] (fr :: cs) (Nat.le_refl _) (Nat.le_refl _) (Zom h1 h2 h3) rfl
 rw [← Zkr hf hb] at r4
 have hq:∃ r,resultsA P st' fn.results.toList=some r∧K r st'.σ:=by cases e<;>first | exact q | exact q.elim
 obtain ⟨r,hr1,hr2⟩:=hq
 obtain ⟨todo,hst⟩:∃ todo,Steps P (lone (Frame.enter P g vs .normal) (fr :: cs) w) (lone { (frameOf g .normal).atR a' todo with mode:=.returning } (fr :: cs) w'):=by
  cases e with
  | normal=>exact ⟨[],Steps.trans r4 (.one (stepR_end rfl))⟩
  | ret=>obtain ⟨k',hk'⟩:=r4;exact ⟨_,Steps.trans hk' (.one (stepR_ret rfl))⟩
  | exit id=>exact q.elim
  | goto l=>exact q.elim
  | panic u=>exact q.elim
 obtain ⟨x,w2,hx,hs2,hext,t1,t2⟩:=Zt4 (k:=todo) (b:=frameOf g .normal) (cs:=fr :: cs) hf rfl r2 hr1
 refine ⟨r,st'.σ,β',x,w2,hr2,hs2,hx,hext _ _ _ _ (Nat.le_refl _) r3,r1,Frame.enter P g vs .normal,fr :: cs,w,Zrd hf hb hname hfr,(hst.trans t1).trans (.one (step_lone_go ?_))⟩
 rw [t2]
 simp [doReturn,Frame.atR,frameOf]
end
end Go.Abs
