/- Part 9 of my own framework and of the walks of functions: AbsK. -/
import Derived.Test.YtfjbdamcmiglgaaGreatOwn8
abbrev gy:=@Array.getElem?_toList
abbrev dQ:=@Array.toList_inj
abbrev ak:=@List.length_map
abbrev iN:=@Option.map_none
set_option linter.unusedVariables false
set_option linter.unusedSectionVars false
set_option linter.unusedSimpArgs false
namespace Go.c8
open Go
section
variable {P:Program} {X:Nat→Nat→Prop} {base:Nat} {σ:ai} {β:Env} {w:World} {nm:Nat} {M:Nat→Nat→Prop}
theorem Yh8 (hr:cH X base σ β w) (hn : β nm=none):bH σ nm=none:=by
 cases h:bH σ nm with
 | none=>rfl
 | some cg =>
  obtain ⟨L,h1,_⟩:=hr.cg nm cg (j_ h)
  rw [hn] at h1;cases h1
theorem Zuy (hr:cH X base σ β w) (hn : β nm=none) {ρ:Operand→Value} {o:Oper} {t:TypeId} (ho:o.op = .makeMap t none) :
  cR P X base σ β w nm (execOp ρ o) (.map nm) (b_ σ nm (.map [] [] false)):=by
 refine zo hr hn (.map [] [] false) 0 0 (obj:=.map #[] 0) (w':={ w with heap:=w.heap.push (.map #[] 0) }) rfl rfl rfl rfl (v:=.map (some w.heap.size)) ?_ ?_ ?_
 ·simp [execOp,ho,Instr.makeMap]
 ·intro M' β' hk hβ
  exact ⟨#[],0,xQ w _,rfl,rfl,fun k eE=>by simp at eE,fun k eE=>by simp at eE,Yj4⟩
 ·intro M'
  exact .map (L:=⟨w.heap.size,0,0,0⟩) (tW _ _ _)
theorem Zc (hr:cH X base σ β w) (hn : β nm=none) {ρ:Operand→Value} {o:Oper} {t:TypeId} {x:Operand} {s:ByteArray} (ho:o.op = .range t x) (ht:P.underlying t=some .string) (hx : ρ x = .string s) :
  cR P X base σ β w nm (execOp ρ o) (.it nm) (b_ σ nm (.iter s 0)):=by
 refine zo hr hn (.iter s 0) 0 0 (obj:=.stringIter s 0) (w':={ w with heap:=w.heap.push (.stringIter s 0) }) rfl rfl rfl rfl (v:=.pointer (some ⟨w.heap.size,0,none⟩)) ?_ ?_ ?_
 ·simp [execOp,ho,Instr.range,run_underlying ht,hx]
 ·intro M' β' hk hβ
  exact xQ w _
 ·intro M'
  exact .it (L:=⟨w.heap.size,0,0,0⟩) (tW _ _ _)
theorem Yn (hr:cH X base σ β w) (hn : β nm=none) {ρ:Operand→Value} {o:Oper} {t kt et:TypeId} {x:Operand} {ks vs:List ae} (ho:o.op = .range t x) (ht:P.underlying t=some (.map kt et)) (hx:bS w (MT X σ β) β (ρ x) (.pm ks vs)) :
  cR P X base σ β w nm (execOp ρ o) (.it nm) (b_ σ nm (.lu ks vs [])):=by
 obtain ⟨v,hv⟩:∃ v,ρ x=v:=⟨_,rfl⟩
 rw [hv] at hx
 cases hx with
 | @pm g clk es _ _ hg hm vK qY oJ nS hb =>
  refine zo hr hn (.lu ks vs []) 0 0 (obj:=.mapIter (some g) clk #[] clk) (w':={ w with heap:=w.heap.push (.mapIter (some g) clk #[] clk) }) rfl rfl rfl rfl (v:=.pointer (some ⟨w.heap.size,0,none⟩)) ?_ ?_ ?_
  ·simp [execOp,ho,Instr.range,run_underlying ht,hv,getObj,Sem.run,hg]
  ·intro M' β' hk hβ
   exact ⟨g,es,clk,xQ w _,(hk.map _ _ _ hg hm).1,(hk.map _ _ _ hg hm).2,vK,qY,fun k sY=>(oJ k sY).mono hk hβ,fun k sY=>(nS k sY).mono hk hβ,hb,fun i hi=>by cases hi⟩
  ·intro M'
   exact .it (L:=⟨w.heap.size,0,0,0⟩) (tW _ _ _)
theorem Yg3 {es:Array MapEntry} {clk i:Nat} (h:iT es clk) (hi:i<es.size):es.find? (·.born==(es.getD i default).born)=some (es.getD i default):=by
 rw [Array.find?_eq_some_iff_getElem]
 have e:es.getD i default=es[i]:=by rw [aj,aD hi];rfl
 refine ⟨by simp,i,hi,e.symm,fun j hj=>?_⟩
 have ej:es.getD j default=es[j]:=by rw [aj,aD (by omega)];rfl
 simp only [bU,beq_eq_false_iff_ne,ne_eq]
 intro hb
 have:=h.2 j i (by omega) hi (by rw [ej];exact hb)
 omega
theorem Yhn (hr:cH X base σ β w) {ρ:Operand→Value} {ia:Operand→ae} (dO:∀ x,bS w (MT X σ β) β (ρ x) (ia x)) {o:Oper} {x:Operand} (ho:o.op = .entry x) {r:ae} {σ':ai}
  (h:oG σ (ia x)=some (r,σ')):cR P X base σ β w nm (execOp ρ o) r σ':=by
 unfold oG at h
 split at h
 ·rename_i b e1
  have hx:=dO x
  rw [e1] at hx
  obtain ⟨L',hL,hv⟩:∃ L,β b=some L∧ρ x = .pointer (some ⟨L.g,0,none⟩):=by
   generalize ρ x=v at hx
   cases hx with | it h=>exact ⟨_,h,rfl⟩
  split at h
  ·rename_i ks vs seen hb
   split at h
   ·rename_i i hi
    cases h
    obtain ⟨L,h1,_,_,m,es,clk,h2,h3,h4,h5,h6,h7,h8,h9,ur⟩:=hr.cg b _ (j_ hb)
    obtain rfl:=aN (h1.symm.trans hL)
    have sW:i∈seen:=List.mem_of_getLast? hi
    have zD:i<ks.length:=ur i sW
    have qU:(seen.map fun i=>(es.getD i default).born).toArray.back? = some (es.getD i default).born:=by
     rw [List.back?_toArray,List.getLast?_map,hi];rfl
    refine cR.val hr (v:=.tuple #[(es.getD i default).key,(es.getD i default).val]) ?_ ?_
    ·simp only [execOp,ho,Instr.entry,hv]
     have g1:(getObj L.g).run P w = .ok (.mapIter (some m) clk (seen.map fun i=>(es.getD i default).born).toArray clk) w:=by simp [getObj,Sem.run,h2]
     have g2:(getObj m).run P w = .ok (.map es clk) w:=by simp [getObj,Sem.run,h3]
     have zx:=Yg3 h9 (by omega:i<es.size)
     rw [aj] at zx
     simp [Sem.run_bind,g1,g2,hi,zx]
    ·refine .dA rfl fun k hk=>?_
     match k,hk with
     | 0,_=>exact h7 i zD
     | 1,_=>exact h8 i zD
   ·cases h
  ·cases h
 ·cases h
theorem Ym1 (hr:cH X base σ β w) {ρ:Operand→Value} {ia:Operand→ae} (dO:∀ x,bS w (MT X σ β) β (ρ x) (ia x)) {o:Oper} {x:Operand} (ho:o.op = .next x true) {r:ae} {σ':ai}
  (h:nt σ (ia x)=some (r,σ')):cR P X base σ β w nm (execOp ρ o) r σ':=by
 unfold nt at h
 split at h
 ·rename_i b e1
  have hx:=dO x
  rw [e1] at hx
  obtain ⟨L',hL,hv⟩:∃ L,β b=some L∧ρ x = .pointer (some ⟨L.g,0,none⟩):=by
   generalize ρ x=v at hx
   cases hx with | it h=>exact ⟨_,h,rfl⟩
  split at h
  ·rename_i s pos hb
   obtain ⟨L,h1,h1b,h1x,h2⟩:=hr.cg b _ (j_ hb)
   obtain rfl:=aN (h1.symm.trans hL)
   have hg:(getObj L.g).run P w = .ok (.stringIter s pos) w:=by
    have:w.heap[L.g]? = some (.stringIter s pos):=h2
    simp [getObj,Sem.run,this]
   split at h
   ·rename_i bG
    cases h
    have pf:L.g<w.heap.size:=(aL.1 h2).1
    refine Ct (kW:=.iter s (pos+(Utf8.decode s pos).2)) hr (j_ hb) h1 (w':={ w with heap:=w.heap.setIfInBounds L.g (.stringIter s (pos+(Utf8.decode s pos).2)) }) rfl rfl rfl (by simp)
     (fun g hg=>by simp [bD,gA hg]) (fun _ _ _ hn=>absurd trivial hn) (fun hn=>absurd trivial (hn 0)) (fun _ _=>trivial) (v:=.tuple #[.bool true, .int .i64 pos, .int .i32 (Utf8.decode s pos).1]) (.inl ?_) (fun M' hk=>?_) (fun M' _=>?_)
    ·have uY:w.heap[L.g]? = some (.stringIter s pos):=h2
     simp [execOp,ho,Instr.next,hv,hg,bG,setObj,Sem.run,uY,goInt]
    ·show ({ w with heap:=w.heap.setIfInBounds L.g (.stringIter s (pos+(Utf8.decode s pos).2)) }:World).heap[L.g]? = _
     simp [bD,pf]
    ·exact .dA rfl fun j hj=>by
      match j,hj with
      | 0,_=>exact .bool _
      | 1,_=>exact .int _ _
      | 2,_=>exact .int _ _
   ·rename_i bG
    cases h
    refine cR.val hr (v:=.tuple #[.bool false]) ?_ (.dA rfl fun j hj=>by match j,hj with | 0,_=>exact .bool _)
    simp [execOp,ho,Instr.next,hv,hg,bG]
  ·cases h
 ·cases h
theorem Zoq (hr:cH X base σ β w) (hn : β nm=none) {ρ:Operand→Value} {ia:Operand→ae} (dO:∀ x,bS w (MT X σ β) β (ρ x) (ia x)) {o:Oper} {t:TypeId} {lo co:Operand} (ho:o.op = .makeSlice t lo co)
  {T:jV} (hT:bL P t=some T) {r:ae} {σ':ai} (h:j5 σ nm T (ia lo) (ia co)=some (r,σ')):cR P X base σ β w nm (execOp ρ o) r σ':=by
 unfold j5 at h
 have hl:=dO lo
 have hc:=dO co
 split at h
 ·rename_i e l c hk he e1 e2
  rw [e1] at hl
  rw [e2] at hc
  split at h
  ·rename_i mL
   obtain ⟨h1,h2,h3,h4,h5,h6⟩:=mL
   cases h
   obtain ⟨et,ht,je⟩:=tO hT hk
   rw [he] at je
   obtain ⟨ti,_,z,qB,_,hz,hs,_,AG,_⟩:=p6 je.symm
   obtain ⟨z',rS,_,rT,JL,E0,_⟩:=Bq (w:=w) (M:=MT X σ β) (β:=β) je.symm
   obtain rfl:z=z':=by
    have:=HL (P:=P) (w:=w) qB hz
    rw [rS] at this
    exact ((Result.ok.injEq _ _ _ _).mp this).1.symm
   have ux:(ti.bytes:Int)*c≤281474976710656:=by
    have:((ti.bytes:Nat):Int)*c≤65536*1000000000:=Int.mul_le_mul (by omega) h3 (by omega) (by omega)
    omega
   have eS:=run_make (P:=P) w t et ti z ht qB hz .i64 .i64 l c h1 h2 ux (by omega)
   refine zo hr hn (.row (List.replicate l.toNat (zeroV e)) 0) c.toNat e.sz (obj:=.cells (madeCells z.cells (c.toNat*ti.size)) et) (w':=w.alloc (.cells (madeCells z.cells (c.toNat*ti.size)) et)) rfl rfl rfl rfl (v:=.slice (some ⟨w.heap.size,0,none⟩) l.toNat c.toNat) ?_ ?_ ?_
   ·simp only [execOp,ho,hl.ek,hc.ek,Sem.run_bind,eS,Result.andThen_ok,Sem.run_pure]
   ·intro M' β' EL hβ
    refine ⟨_,et,xQ w _,?_,?_,fun i hi=>?_,fun i j hi hj=>?_⟩
    ·rw [size_madeCells,hs];simp
    ·simp only [bA];omega
    ·simp only [bA] at hi
     simp only [List.getD,db,if_pos hi,br,HR je.symm];exact JL
    ·simp only [bA] at hi
     simp only [bp] at hj ⊢
     have e3:(List.replicate l.toNat (zeroV e)).getD i ae.undef=zeroV e:=by simp only [List.getD,db,if_pos hi,br]
     rw [e3,HR je.symm]
     have bG:i*e.sz+j<c.toNat*ti.size:=by
      have:(i+1)*e.sz≤c.toNat*e.sz:=aX _ (by omega)
      rw [bI,dx] at this;rw [hs];omega
     have e4:(madeCells z.cells (c.toNat*ti.size)).getD (i*e.sz+j) undef=z.cells.getD j undef:=by
      have rO:j<z.cells.size:=by omega
      simp only [madeCells,aj,ez,Array.getElem?_range,if_pos bG,bu,br]
      have e5:(i*e.sz+j) % z.cells.size=j:=by rw [rT];exact (Jg hj).2
      rw [aD rO,br,getElem!_pos z.cells _ (by rw [e5];exact rO)]
      simp only [e5]
     rw [e4]
     exact (E0 j hj).mono EL hβ
   ·intro M'
    have:=bS.os (w:=w.alloc (.cells (madeCells z.cells (c.toNat*ti.size)) et)) (M:=M') (β:=pw β nm ⟨w.heap.size,0,c.toNat,e.sz⟩) (b:=nm) (off:=0) (len:=l.toNat) (cap:=c.toNat) (L:=⟨w.heap.size,0,c.toNat,e.sz⟩) (tW _ _ _) (by omega) (by simp)
    simpa using this
  ·cases h
 ·cases h
theorem UF {a b:ByteArray} (h:(a.toList==b.toList)=true):a=b:=by
 have h1:a.toList=b.toList:=by simpa using h
 rw [ByteArray.toList_eq,ByteArray.toList_eq] at h1
 apply ByteArray.ext
 exact dQ.1 h1
theorem Ut (k:ae):∀ (ks:List ae) (i j:Nat),fe k ks i=some j→fq k (ks.getD (j - i) .undef)=true
 | [],_,_,h=>by simp [fe] at h
 | x :: xs,i,j,h=>by
  simp only [fe] at h
  split at h
  ·rename_i he;cases h;simpa using he
  ·have h1:=FA k xs (i+1) j h
   have h2:=Ut k xs (i+1) j h
   rw [show j - i=(j - (i+1))+1 by omega,bC];exact h2
theorem QT (hr:cH X base σ β w) {ρ:Operand→Value} {ia:Operand→ae} (dO:∀ x,bS w (MT X σ β) β (ρ x) (ia x)) {o:Oper} {t:TypeId} {m k v:Operand} (ho:execOp ρ o=(do Instr.mapUpdate t (ρ m) (ρ k) (ρ v);pure .skip))
  {T:jV} (hT:bL P t=some T) {σ':ai} (h:gG σ T (ia m) (ia k) (ia v)=some σ'):cR P X base σ β w nm (execOp ρ o) .undef σ':=by
 unfold gG at h
 have hm:=dO m
 have tF:=dO k
 have JJ:=dO v
 split at h
 ·rename_i e b hk he e1
  rw [e1] at hm
  split at h
  ·rename_i ks vs hb
   split at h
   ·rename_i mL
    cases h
    simp only [aC,decide_eq_true_eq] at mL
    obtain ⟨⟨Ns,e8⟩,_⟩:=mL
    obtain ⟨kt,et,u,h1,h2,h3,h4⟩:=Rv hT hk Ns
    obtain ⟨L,h5,uw,hX,es,clk,h6,hn,hv,oJ,nS,qV⟩:=hr.cg _ _ (j_ hb)
    obtain ⟨L',hL,WI⟩:∃ L,β b=some L∧ρ m = .map (some L.g):=by
     generalize ρ m=vm at hm
     cases hm with | map h=>exact ⟨_,h,rfl⟩
    obtain rfl:=aN (h5.symm.trans hL)
    have vI:(getObj L.g).run P w = .ok (.map es clk) w:=by simp [getObj,Sem.run,h6]
    have rN:=QX (P:=P) (w:=w) h3 (by rcases h4 with ⟨ik,_,h,_⟩ | ⟨_,h,_⟩;exact .inl ⟨ik,h⟩;exact .inr h) false 9999 (ρ k)
    have eL:∀ j,es.toList.getD j default=es.getD j default:=fun j=>by simp [List.getD,aj]
    have BN:=KD h4 tF es.toList ks 0 (by simpa using hn) (fun j hj=>by rw [eL];exact oJ j hj) (by simpa using e8)
    have vF:(Instr.findKey kt (ρ k) es.toList).run P w = .ok ((fe (ia k) ks 0).map fun j=>(j,(es.getD j default).val)) w:=by
     simp only [Instr.findKey,Sem.run_bind,run_underlying h3,Result.andThen_ok,BN,gR,eL]
     rfl
    have pf:L.g<w.heap.size:=(aL.1 h6).1
    have fin:∀ (rY:Array MapEntry) (wW:Nat) (u_ tx:List ae),(execOp ρ o).run P w = .ok .skip { w with heap:=w.heap.setIfInBounds L.g (.map rY wW) }→rY.size=u_.length→tx.length=u_.length →
      (∀ j,j<u_.length→bS w (MT X σ β) β (rY.getD j default).key (u_.getD j .undef))→(∀ j,j<u_.length→bS w (MT X σ β) β (rY.getD j default).val (tx.getD j .undef))→iT rY wW →
      cR P X base σ β w nm (execOp ρ o) .undef (b_ σ b (.map u_ tx false)):=by
     intro rY wW u_ tx eS q1 q2 q3 q4 q5
     refine Ct (kW:=.map u_ tx false) hr (j_ hb) h5 (w':={ w with heap:=w.heap.setIfInBounds L.g (.map rY wW) }) rfl rfl rfl (by simp)
      (fun g hg=>by simp [bD,gA hg]) (fun _ _ _ hn=>absurd rfl hn) (fun hn=>absurd rfl (hn 0)) (fun _ _=>rfl) (.inr ⟨eS,rfl⟩) (fun M' EL=>?_) (fun M' _=>.undef _)
     refine ⟨rY,wW,?_,q1,q2,fun j hj=>(q3 j hj).mono EL fun _ _ h=>h,fun j hj=>(q4 j hj).mono EL fun _ _ h=>h,q5⟩
     show ({ w with heap:=w.heap.setIfInBounds L.g (.map rY wW) }:World).heap[L.g]? = _
     simp [bD,pf]
    have il:∀ ob,(setObj L.g ob).run P w = .ok () { w with heap:=w.heap.setIfInBounds L.g ob }:=fun ob=>by simp [setObj,Sem.run,h6]
    unfold iV
    cases hf:fe (ia k) ks 0 with
    | none =>
     rw [hf] at vF
     refine fin (es.push { key:=ρ k,val:=ρ v,born:=clk }) (clk+1) _ _ ?_ (by simp [hn]) (by simp [hv]) (fun j hj=>?_) (fun j hj=>?_) (Zb qV _ _)
     ·simp only [ho,Instr.mapUpdate,Sem.run_bind,run_underlying h1,Result.andThen_ok,WI,vI]
      rw [show (10000:Nat)=9999+1 from rfl,rN]
      simp only [Result.andThen_ok,vF,iN,il,Sem.run_pure]
     ·simp only [ay,dm] at hj
      rw [tz,aj,fL]
      by_cases e2:j=es.size
      ·rw [if_pos e2,if_neg (by omega)]
       rw [show j - ks.length=0 by omega];exact tF
      ·rw [if_neg e2,if_pos (by omega),← aj];exact oJ j (by omega)
     ·simp only [ay,dm] at hj
      rw [tz,aj,fL]
      by_cases e2:j=es.size
      ·rw [if_pos e2,if_neg (by omega)]
       rw [show j - vs.length=0 by omega];exact JJ
      ·rw [if_neg e2,if_pos (by omega),← aj];exact nS j (by omega)
    | some i =>
     rw [hf] at vF
     have zD:=(FA _ _ _ _ hf).2
     have heq:=Ut _ _ _ _ hf
     simp only [gR] at zD heq
     have De:(es.getD i default).key = ρ k:=by
      have h7:=oJ i zD
      rcases h4 with ⟨ik,n,_,e2⟩ | ⟨s,_,e2⟩
      ·rw [e2] at tF heq
       have zG:=bj.1 e8 (ks.getD i .undef) (by simp only [List.getD,aA zD,br];exact aE zD)
       rw [e2] at zG
       cases Nr:ks.getD i .undef<;>rw [Nr] at heq zG h7<;>simp only [fq,sameKind,a_,beq_iff_eq] at heq zG
       rw [h7.ek,tF.ek,heq,zG]
      ·rw [e2] at tF heq
       cases Nr:ks.getD i .undef<;>rw [Nr] at heq h7<;>simp only [fq,a_] at heq
       rw [h7.gI,tF.gI]
       rw [UF heq]
     have tH:Instr.sameBits 10000 (ρ k) (ρ k)=true:=by
      rcases h4 with ⟨ik,n,_,e2⟩ | ⟨s,_,e2⟩<;>rw [e2] at tF
      ·rw [tF.ek];simp [Instr.sameBits]
      ·rw [tF.gI];simp [Instr.sameBits,beq_toListBytes]
     have oO:i<es.size:=by omega
     have GK:(((es[i]?).map (·.key)).getD (ρ k)) = ρ k:=by
      rw [aD oO]
      rw [aj,aD oO] at De
      exact De
     refine fin (es.modify i fun e=>{ e with key:=ρ k,val:=ρ v }) clk _ _ ?_ (by simp [hn]) (by simp [hv]) (fun j hj=>?_) (fun j hj=>?_) (Zvd qV _ _ _)
     ·simp only [ho,Instr.mapUpdate,Sem.run_bind,run_underlying h1,Result.andThen_ok,WI,vI]
      rw [show (10000:Nat)=9999+1 from rfl,rN]
      simp only [Result.andThen_ok,vF,bu,Sem.run_bind,GK,Instr.keyThatStays,tH,if_true,il,Sem.run_pure]
     ·rw [aj,iS]
      by_cases e2:i=j
      ·subst e2
       rw [if_pos rfl,aD oO]
       have:=oJ i hj
       rw [De] at this;exact this
      ·rw [if_neg e2,← aj];exact oJ j hj
     ·rw [aj,iS]
      by_cases e2:i=j
      ·subst e2
       rw [if_pos rfl,aD oO,Fb _ _ _ (by omega)]
       exact JJ
      ·rw [if_neg e2,← aj,getD_set_ne _ _ _ _ e2];exact nS j hj
   ·cases h
  ·cases h
 ·cases h
theorem SQ (hr:cH X base σ β w) (hn : β nm=none) {ρ:Operand→Value} {ia:Operand→ae} (dO:∀ x,bS w (MT X σ β) β (ρ x) (ia x)) (M7:∀ v,ρ (.const v)=v) {o:Oper} {r:ae} {σ':ai} (h:c9 P σ nm ia o.op=some (r,σ')) :
  cR P X base σ β w nm (execOp ρ o) r σ':=by
 have BP:=Yh8 hr hn
 have mp:∀ {x:Option ae} (_:x.map (·,σ)=some (r,σ')),x=some r∧σ = σ':=by
  intro x hx
  obtain ⟨a,h1,h2⟩:=aH.1 hx
  simp only [bx] at h2
  exact ⟨by rw [h1,h2.1],h2.2⟩
 cases ho:o.op with
 | move x =>
  rw [ho] at h;simp only [c9,aG,bx] at h
  obtain ⟨rfl,rfl⟩:=h
  exact cR.val hr (by simp [execOp,ho]) (dO x)
 | assign x =>
  rw [ho] at h;simp only [c9,aG,bx] at h
  obtain ⟨rfl,rfl⟩:=h
  exact cR.val hr (by simp [execOp,ho]) (dO x)
 | pick c a b =>
  rw [ho] at h;simp only [c9] at h
  obtain ⟨h1,rfl⟩:=mp h
  exact Ykj hr dO ho h1
 | alloc t =>
  rw [ho] at h;simp only [c9] at h
  obtain ⟨l,hl,h1⟩:=au.1 h
  simp only [aG,bx] at h1
  obtain ⟨rfl,rfl⟩:=h1
  exact Zz hr hn ho hl
 | box t x =>
  rw [ho] at h;simp only [c9] at h
  obtain ⟨l,hl,h1⟩:=au.1 h
  split at h1
  ·rename_i hc
   simp only [aG,bx] at h1
   obtain ⟨rfl,rfl⟩:=h1
   exact Yqn hr hn dO ho hc.2
  ·cases h1
 | build t parts =>
  rw [ho] at h;simp only [c9] at h
  obtain ⟨T,hT,h1⟩:=au.1 h
  obtain ⟨h2,rfl⟩:=mp h1
  obtain ⟨v,h3,h4⟩:=YO hT dO h2
  exact cR.val hr (v:=v) (by simp only [execOp,ho,Sem.run_bind,h3,Result.andThen_ok,Sem.run_pure]) h4
 | buildSlice t n parts =>
  rw [ho] at h;simp only [c9] at h
  obtain ⟨T,hT,h1⟩:=au.1 h
  obtain ⟨e,he,h2⟩:=au.1 h1
  obtain ⟨es,oO,h3⟩:=au.1 h2
  split at h3
  ·rename_i hc
   simp only [aG,bx] at h3
   obtain ⟨rfl,rfl⟩:=h3
   exact Zmv hr hn dO ho hT he oO hc.1 hc.2.1 hc.2.2.1 hc.2.2.2.2
  ·cases h3
 | load t x =>
  rw [ho] at h;simp only [c9] at h
  obtain ⟨l,hl,h1⟩:=au.1 h
  obtain ⟨h2,rfl⟩:=mp h1
  exact Yld hr dO ho hl h2
 | store t x v =>
  rw [ho] at h;simp only [c9] at h
  obtain ⟨l,hl,h1⟩:=au.1 h
  obtain ⟨s,h2,h3⟩:=aH.1 h1
  simp only [bx] at h3
  obtain ⟨rfl,rfl⟩:=h3
  exact Yhy hr dO ho hl h2
 | nilCheck x =>
  rw [ho] at h;simp only [c9] at h
  have hx:=dO x
  split at h
  ·rename_i b of e1
   simp only [aG,bx] at h
   obtain ⟨rfl,rfl⟩:=h
   rw [e1] at hx
   obtain ⟨L,hL,hv⟩:=hx.wK
   exact cR.val hr (v:=ρ x) (by simp [execOp,ho,hv]) hx
  ·rename_i b i f e1
   simp only [aG,bx] at h
   obtain ⟨rfl,rfl⟩:=h
   rw [e1] at hx
   obtain ⟨L,hL,hv⟩:=hx.y5
   exact cR.val hr (v:=ρ x) (by simp [execOp,ho,hv]) hx
  ·rename_i cs e1
   simp only [aG,bx] at h
   obtain ⟨rfl,rfl⟩:=h
   rw [e1] at hx
   obtain ⟨a,hv⟩:∃ a,ρ x = .pointer (some a):=by
    generalize ρ x=v at hx
    cases hx;exact ⟨_,rfl⟩
   exact cR.val hr (v:=ρ x) (by simp [execOp,ho,hv]) hx
  ·rename_i f a c e1
   simp only [aG,bx] at h
   obtain ⟨rfl,rfl⟩:=h
   rw [e1] at hx
   obtain ⟨fa,ca,hv⟩:∃ fa ca,ρ x = .func (.func f) fa ca:=by
    generalize ρ x=v at hx
    cases hx;exact ⟨_,_,rfl⟩
   exact cR.val hr (v:=ρ x) (by simp [execOp,ho,hv]) hx
  ·cases h
 | binOp op t x y u =>
  rw [ho] at h;simp only [c9] at h
  obtain ⟨h1,rfl⟩:=mp h
  obtain ⟨v,h2,h3⟩:∃ v,(do eqGuard op t x y (ρ x) (ρ y);_root_.Go.binOp op t (ρ x) (ρ y):Sem Value).run P w = .ok v w∧bS w (MT X σ β) β v r:=by
   unfold xW at h1
   split at h1
   ·rename_i AW
    have nV : ρ y = .slice none 0 0:=by rw [ZO AW];exact M7 _
    rw [nV];exact Ymx (dO x) h1 x y
   ·exact Ynv (dO x) (dO y) h1 x y
  refine cR.val hr (v:=v) ?_ h3
  simp only [Sem.run_bind] at h2
  simp only [execOp,ho,Sem.run_bind,h2,Result.andThen_ok,Sem.run_pure]
 | unOp op t x =>
  rw [ho] at h;simp only [c9] at h
  obtain ⟨h1,rfl⟩:=mp h
  obtain ⟨v,h2,h3⟩:=Yq0 (P:=P) (dO x) h1
  exact cR.val hr (v:=v) (by simp only [execOp,ho,Sem.run_bind,h2,Result.andThen_ok,Sem.run_pure]) h3
 | convert s d x =>
  rw [ho] at h;simp only [c9] at h
  obtain ⟨h1,rfl⟩:=mp h
  obtain ⟨v,h2,h3⟩:=Zqe (P:=P) (dO x) h1
  exact cR.val hr (v:=v) (by simp only [execOp,ho,Sem.run_bind,h2,Result.andThen_ok,Sem.run_pure]) h3
 | makeInterface t x =>
  rw [ho] at h;simp only [c9] at h
  split at h
  ·cases h
  ·rename_i k ep hk
   simp only [aG,bx] at h
   obtain ⟨rfl,rfl⟩:=h
   obtain ⟨i,u,h1,h2,h3⟩:=xo hk
   have:P.concrete t=true:=by
    have NI:∀ ms,u≠.interface ms:=by rintro ms rfl;exact ep (by rw [← h3];rfl)
    simp only [Program.concrete,h2]
    cases u<;>first | rfl | exact absurd rfl (NI _)
   exact cR.val hr (v:=.iface t (ρ x)) (by simp only [execOp,ho,Sem.run_bind,run_makeInterface w t (ρ x) this,Result.andThen_ok,Sem.run_pure]) (.iface (dO x))
  ·cases h
 | makeFunc fn first captured =>
  rw [ho] at h
  cases fn with
  | func f =>
   simp only [c9,aG,bx] at h
   obtain ⟨rfl,rfl⟩:=h
   refine cR.val hr (v:=.func (.func f) (first.map ρ) (captured.map ρ)) (by simp [execOp,ho,Instr.makeFunc]) (.fn (by simp) (by simp) (fun k hk=>?_) (fun k hk=>?_))
   ·simp only [ak,bB] at hk
    rw [aj,ez,aD hk]
    simp only [List.getD,cf,gy,aD hk,bu,br]
    exact dO _
   ·simp only [ak,bB] at hk
    rw [aj,ez,aD hk]
    simp only [List.getD,cf,gy,aD hk,bu,br]
    exact dO _
  | _=>simp [c9] at h
 | makeMap t r' =>
  rw [ho] at h
  cases r' with
  | none =>
   simp only [c9,aG,bx] at h
   obtain ⟨rfl,rfl⟩:=h
   exact Zuy hr hn ho
  | some _=>simp [c9] at h
 | makeSlice t l c =>
  rw [ho] at h;simp only [c9] at h
  obtain ⟨T,hT,h1⟩:=au.1 h
  exact Zoq hr hn dO ho hT h1
 | slice t x lo hi mx =>
  rw [ho] at h;simp only [c9] at h
  obtain ⟨T,hT,h1⟩:=au.1 h
  obtain ⟨h2,rfl⟩:=mp h1
  obtain ⟨v,h3,h4⟩:=Zzd hT (dO x) (LZ dO lo) (LZ dO hi) (LZ dO mx) h2
  exact cR.val hr (v:=v) (by simp only [execOp,ho,Sem.run_bind,h3,Result.andThen_ok,Sem.run_pure]) h4
 | fieldAddr t x i =>
  rw [ho] at h;simp only [c9] at h
  obtain ⟨T,hT,h1⟩:=au.1 h
  obtain ⟨h2,rfl⟩:=mp h1
  obtain ⟨v,h3,h4⟩:=Zmq hT (dO x) h2
  exact cR.val hr (v:=v) (by simp only [execOp,ho,Sem.run_bind,h3,Result.andThen_ok,Sem.run_pure]) h4
 | field t x i =>
  rw [ho] at h;simp only [c9] at h
  obtain ⟨T,hT,h1⟩:=au.1 h
  obtain ⟨h2,rfl⟩:=mp h1
  obtain ⟨v,h3,h4⟩:=Zzr hT (dO x) h2
  exact cR.val hr (v:=v) (by simp only [execOp,ho,Sem.run_bind,h3,Result.andThen_ok,Sem.run_pure]) h4
 | indexAddr t x i =>
  rw [ho] at h;simp only [c9] at h
  obtain ⟨T,hT,h1⟩:=au.1 h
  obtain ⟨h2,rfl⟩:=mp h1
  obtain ⟨v,h3,h4⟩:=Zmr hT (dO x) (dO i) h2
  exact cR.val hr (v:=v) (by simp only [execOp,ho,Sem.run_bind,h3,Result.andThen_ok,Sem.run_pure]) h4
 | index t x i =>
  rw [ho] at h;simp only [c9] at h
  obtain ⟨T,hT,h1⟩:=au.1 h
  obtain ⟨h2,rfl⟩:=mp h1
  obtain ⟨v,h3,h4⟩:=Y8 hT (dO x) (dO i) h2
  exact cR.val hr (v:=v) (by simp only [execOp,ho,Sem.run_bind,h3,Result.andThen_ok,Sem.run_pure]) h4
 | lookup t x i ok =>
  rw [ho] at h;simp only [c9] at h
  obtain ⟨T,hT,h1⟩:=au.1 h
  obtain ⟨h2,rfl⟩:=mp h1
  obtain ⟨v,h3,h4⟩:=Zvx hr hT (dO x) (dO i) h2
  exact cR.val hr (v:=v) (by simp only [execOp,ho,Sem.run_bind,h3,Result.andThen_ok,Sem.run_pure]) h4
 | mapUpdate t m k v =>
  rw [ho] at h;simp only [c9] at h
  obtain ⟨T,hT,h1⟩:=au.1 h
  obtain ⟨s,h2,h3⟩:=aH.1 h1
  simp only [bx] at h3
  obtain ⟨rfl,rfl⟩:=h3
  exact QT hr dO (by simp only [execOp,ho]) hT h2
 | insert t m k v =>
  rw [ho] at h;simp only [c9] at h
  obtain ⟨T,hT,h1⟩:=au.1 h
  obtain ⟨s,h2,h3⟩:=aH.1 h1
  simp only [bx] at h3
  obtain ⟨rfl,rfl⟩:=h3
  exact QT hr dO (by simp only [execOp,ho]) hT h2
 | range t x =>
  rw [ho] at h;simp only [c9] at h
  obtain ⟨T,hT,h1⟩:=au.1 h
  split at h1
  ·rename_i s e1 e2
   simp only [aG,bx] at h1
   obtain ⟨rfl,rfl⟩:=h1
   obtain ⟨u,h2,h3,h4,_⟩:=tQ hT
   have hx:=dO x
   rw [e2] at hx
   exact Zc hr hn ho (by rw [h3,z_ (h4.trans e1)]) hx.gI
  ·rename_i ks vs e1 e2
   simp only [aG,bx] at h1
   obtain ⟨rfl,rfl⟩:=h1
   obtain ⟨u,h2,h3,h4,_⟩:=tQ hT
   have hx:=dO x
   rw [e2] at hx
   obtain ⟨kt,et,hu⟩:=Eo (h4.trans e1)
   exact Yn hr hn ho (by rw [h3,hu]) hx
  ·cases h1
 | entry x =>
  rw [ho] at h;simp only [c9] at h
  exact Yhn hr dO ho h
 | next x s =>
  rw [ho] at h
  cases s with
  | true=>exact Ym1 hr dO ho h
  | false=>simp [c9] at h
 | typeAssert x t u ok =>
  rw [ho] at h;simp only [c9] at h
  obtain ⟨h2,rfl⟩:=mp h
  obtain ⟨v,h3,h4⟩:=Zlz (xt:=t) (dO x) h2
  exact cR.val hr (v:=v) (by simp only [execOp,ho,Sem.run_bind,h3,Result.andThen_ok,Sem.run_pure]) h4
 | extract x i =>
  rw [ho] at h;simp only [c9] at h
  split at h
  ·rename_i vs e1
   obtain ⟨h2,rfl⟩:=mp h
   have hx:=dO x
   rw [e1] at hx
   obtain ⟨v,h3,h4⟩:=Zr6 (P:=P) hx h2
   exact cR.val hr (v:=v) (by simp only [execOp,ho,Sem.run_bind,h3,Result.andThen_ok,Sem.run_pure]) h4
  ·cases h
 | call c =>
  rw [ho] at h
  obtain ⟨callee,args,argTypes⟩:=c
  cases callee with
  | builtin b =>
   simp only [c9] at h
   have GG:execOp ρ o=(builtin b argTypes o.type (args.map fun | .const _=>true | _=>false) (args.map ρ)):=by
    simp only [execOp,ho,resolve]
    rfl
   rw [GG]
   have qR:(args.map ρ).toList=args.toList.map ρ:=by simp
   unfold fc at h
   split at h
   ·rename_i t x e1 e2
    have ht:argTypes = #[t]:=dQ.1 (by rw [e1])
    obtain ⟨T,hT,h1⟩:=au.1 h
    obtain ⟨y,hy,wD⟩:∃ y,args.toList=[y]∧ia y=x:=by
     cases mz:args.toList with
     | nil=>rw [mz] at e2;simp at e2
     | cons y ys=>rw [mz] at e2;simp at e2;obtain ⟨q1,q2⟩:=e2;exact ⟨y,by rw [q2],q1⟩
    have uv:args.map ρ = #[ρ y]:=dQ.1 (by rw [qR,hy];rfl)
    rw [ht,uv]
    have hx:=dO y
    rw [wD] at hx
    split at h1
    ·rename_i n hk
     simp only [aG,bx] at h1
     obtain ⟨rfl,rfl⟩:=h1
     obtain ⟨u,h2,h3,h4,_⟩:=tQ hT
     obtain ⟨et,rfl⟩:=HW (h4.trans hk)
     refine cR.val hr (v:=.int .i64 n) ?_ (.int _ _)
     simp only [builtin,Builtin.len_,Sem.run_bind,Sem.run_pure,Result.andThen_ok]
     simp [run_underlying h3,goInt]
    ·rename_i hk
     obtain ⟨n,h2,h3⟩:=aH.1 h1
     simp only [bx] at h3
     obtain ⟨rfl,rfl⟩:=h3
     refine cR.val hr (v:=.int .i64 n) ?_ (.int _ _)
     simp only [builtin,Sem.run_bind,LM hr hT (.inl hk) hx h2 o.type,Result.andThen_ok,Sem.run_pure]
    ·rename_i hk
     obtain ⟨n,h2,h3⟩:=aH.1 h1
     simp only [bx] at h3
     obtain ⟨rfl,rfl⟩:=h3
     refine cR.val hr (v:=.int .i64 n) ?_ (.int _ _)
     simp only [builtin,Sem.run_bind,LM hr hT (.inr (.inl hk)) hx h2 o.type,Result.andThen_ok,Sem.run_pure]
    ·rename_i hk
     obtain ⟨n,h2,h3⟩:=aH.1 h1
     simp only [bx] at h3
     obtain ⟨rfl,rfl⟩:=h3
     refine cR.val hr (v:=.int .i64 n) ?_ (.int _ _)
     simp only [builtin,Sem.run_bind,LM hr hT (.inr (.inr hk)) hx h2 o.type,Result.andThen_ok,Sem.run_pure]
    ·cases h1
   ·rename_i t u s x e1 e2
    have ht:argTypes = #[t,u]:=dQ.1 (by rw [e1])
    obtain ⟨T,hT,h1⟩:=au.1 h
    obtain ⟨U,hU,h2⟩:=au.1 h1
    obtain ⟨y,z,hy,wD,Oe⟩:∃ y z,args.toList=[y,z]∧ia y=s∧ia z=x:=by
     cases mz:args.toList with
     | nil=>rw [mz] at e2;simp at e2
     | cons y ys =>
      cases ys with
      | nil=>rw [mz] at e2;simp at e2
      | cons z zs=>rw [mz] at e2;simp at e2;obtain ⟨q1,q2,q3⟩:=e2;exact ⟨y,z,by rw [q3],q1,q2⟩
    have uv:args.map ρ = #[ρ y,ρ z]:=dQ.1 (by rw [qR,hy];rfl)
    rw [ht,uv]
    have hs:=dO y
    rw [wD] at hs
    have hx:=dO z
    rw [Oe] at hx
    split at h2
    ·rename_i e hk he qY
     obtain ⟨et,xd,je⟩:=tO hT hk
     rw [he] at je
     obtain ⟨eu,u0,_⟩:=tO hU qY
     obtain ⟨xs,wC,h3⟩:=au.1 h2
     obtain ⟨news,nU⟩:=HX (P:=P) hr hx wC
     exact Kl hr hn BP je.symm hs nU.OC h3 o.type (.yX xd u0 (.inl ⟨_,rfl⟩) je.symm nU) rfl
    ·rename_i e hk he qY
     obtain ⟨et,xd,je⟩:=tO hT hk
     rw [he] at je
     obtain ⟨u',h4,h5,h6,_⟩:=tQ hU
     obtain rfl:=z_ (h6.trans qY)
     split at h2
     ·rename_i y'
      rw [hx.gI]
      split at h2
      ·rename_i h1z
       obtain ⟨news,nU⟩:∃ news,Src P w (MT X σ β) β e.sz (.string y') (bytesOf y') news:=⟨_,by rw [h1z];exact Ygs⟩
       exact Kl hr hn BP je.symm hs nU.OC h2 o.type (.yX xd h5 (.inr rfl) je.symm nU) rfl
      ·cases h2
     ·cases h2
    ·rename_i e k' hk he qY
     obtain ⟨et,xd,je⟩:=tO hT hk
     rw [he] at je
     obtain ⟨u',h4,h5,h6,_⟩:=tQ hU
     obtain rfl:=IA (h6.trans qY)
     obtain ⟨i,_,z,hi,_,hz,_⟩:=p6 je.symm
     split at h2
     ·rename_i n'
      split at h2
      ·rename_i hc
       have Jw : 0<e.sz∧e.bytes≤65536:=Yl h2
       have hxx:=hx.ek
       rw [hxx]
       exact Kl hr hn BP je.symm hs (TE je.symm _ hi hz) h2 o.type (by simpa using mX.yY xd h5 je.symm Jw.1 Jw.2 hc.1 hc.2.1 hc.2.2 hi hz) rfl
      ·cases h2
     ·cases h2
    ·cases h2
   ·rename_i t x e1 e2
    have ht:argTypes = #[t]:=dQ.1 (by rw [e1])
    obtain ⟨T,hT,h1⟩:=au.1 h
    obtain ⟨y,hy,wD⟩:∃ y,args.toList=[y]∧ia y=x:=by
     cases mz:args.toList with
     | nil=>rw [mz] at e2;simp at e2
     | cons y ys=>rw [mz] at e2;simp at e2;obtain ⟨q1,q2⟩:=e2;exact ⟨y,by rw [q2],q1⟩
    have uv:args.map ρ = #[ρ y]:=dQ.1 (by rw [qR,hy];rfl)
    rw [ht,uv]
    have hx:=dO y
    rw [wD] at hx
    split at h1
    ·rename_i hk
     obtain ⟨et,xd,je⟩:=tO hT hk
     obtain ⟨n,h2,h3⟩:=aH.1 h1
     cases h3
     refine cR.val hr (v:=.int .i64 n) ?_ (.int _ _)
     obtain ⟨a,m,hv⟩:=Yl2 hx h2
     rw [hv]
     simp [builtin,Builtin.cap_,run_underlying xd,goInt]
    ·cases h1
   ·rename_i t x e1 e2
    have ht:argTypes = #[t]:=dQ.1 (by rw [e1])
    obtain ⟨T,hT,h1⟩:=au.1 h
    obtain ⟨y,hy,wD⟩:∃ y,args.toList=[y]∧ia y=x:=by
     cases mz:args.toList with
     | nil=>rw [mz] at e2;simp at e2
     | cons y ys=>rw [mz] at e2;simp at e2;obtain ⟨q1,q2⟩:=e2;exact ⟨y,by rw [q2],q1⟩
    have uv:args.map ρ = #[ρ y]:=dQ.1 (by rw [qR,hy];rfl)
    rw [ht,uv]
    have hx:=dO y
    rw [wD] at hx
    split at h1
    ·rename_i e hk he
     obtain ⟨et,xd,je⟩:=tO hT hk
     rw [he] at je
     obtain ⟨n,h2,h3⟩:=au.1 h1
     exact Zi hr xd je.symm hx h2 h3 o.type rfl
    ·cases h1
   ·rename_i t u s x e1 e2
    have ht:argTypes = #[t,u]:=dQ.1 (by rw [e1])
    obtain ⟨T,hT,h1⟩:=au.1 h
    obtain ⟨U,hU,h2⟩:=au.1 h1
    obtain ⟨y,z,hy,wD,Oe⟩:∃ y z,args.toList=[y,z]∧ia y=s∧ia z=x:=by
     cases mz:args.toList with
     | nil=>rw [mz] at e2;simp at e2
     | cons y ys =>
      cases ys with
      | nil=>rw [mz] at e2;simp at e2
      | cons z zs=>rw [mz] at e2;simp at e2;obtain ⟨q1,q2,q3⟩:=e2;exact ⟨y,z,by rw [q3],q1,q2⟩
    have uv:args.map ρ = #[ρ y,ρ z]:=dQ.1 (by rw [qR,hy];rfl)
    rw [ht,uv]
    have hs:=dO y
    rw [wD] at hs
    have hx:=dO z
    rw [Oe] at hx
    split at h2
    ·rename_i e hk he qY
     obtain ⟨et,xd,je⟩:=tO hT hk
     rw [he] at je
     obtain ⟨n,h3,h4⟩:=au.1 h2
     obtain ⟨xs,h5,h6⟩:=au.1 h4
     exact Yj5 hr xd je.symm hs hx h3 h5 h6 o.type rfl
    ·cases h2
   ·rename_i ts x rest e2
    obtain ⟨h2,rfl⟩:=mp h
    obtain ⟨y,ys,hy,wD,B0⟩:∃ y ys,args.toList=y :: ys∧ia y=x∧ys.map ia=rest:=by
     cases mz:args.toList with
     | nil=>rw [mz] at e2;simp at e2
     | cons y ys=>rw [mz] at e2;simp at e2;exact ⟨y,ys,rfl,e2.1,e2.2⟩
    subst wD;subst B0
    obtain ⟨v,h3,h4⟩:=Vf (P:=P) (ys.map ρ) (ys.map ia) (ρ y) (ia y) r (by simp) (fun k hk=>by
     simp only [ak] at hk
     simp only [List.getD,cf,aA hk,bu,br];exact dO _) (dO y) h2
    refine cR.val hr (v:=v) ?_ h4
    simp only [builtin,Builtin.max_,qR,hy,aB,Sem.run_bind,h3,Result.andThen_ok,Sem.run_pure]
   ·rename_i ts x rest e2
    obtain ⟨h2,rfl⟩:=mp h
    obtain ⟨y,ys,hy,wD,B0⟩:∃ y ys,args.toList=y :: ys∧ia y=x∧ys.map ia=rest:=by
     cases mz:args.toList with
     | nil=>rw [mz] at e2;simp at e2
     | cons y ys=>rw [mz] at e2;simp at e2;exact ⟨y,ys,rfl,e2.1,e2.2⟩
    subst wD;subst B0
    obtain ⟨v,h3,h4⟩:=UQ (P:=P) (ys.map ρ) (ys.map ia) (ρ y) (ia y) r (by simp) (fun k hk=>by
     simp only [ak] at hk
     simp only [List.getD,cf,aA hk,bu,br];exact dO _) (dO y) h2
    refine cR.val hr (v:=v) ?_ h4
    simp only [builtin,Builtin.min_,qR,hy,aB,Sem.run_bind,h3,Result.andThen_ok,Sem.run_pure]
   ·cases h
  | _=>simp [c9] at h
 | _=>rw [ho] at h;simp [c9] at h
end
end Go.c8
