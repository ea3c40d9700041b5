/- Part 9 of my own framework and of the walks of functions: AbsK. -/
import Derived.Test.YtfjbdamcmiglgaaGreatOwn8
abbrev fX:=@Array.getElem?_toList
abbrev dL:=@Array.toList_inj
abbrev ak:=@List.length_map
abbrev j8:=@Option.map_none
set_option linter.unusedVariables false
set_option linter.unusedSectionVars false
set_option linter.unusedSimpArgs false
namespace Go.c8
open Go
section
variable {P:Program} {X:Nat→Nat→Prop} {base:Nat} {σ:ai} {β:Env} {w:World} {nm:Nat} {M:Nat→Nat→Prop}
theorem YF (hr:cC X base σ β w) (hn : β nm=none):bG σ nm=none:=by
 cases h:bG σ nm with
 | none=>rfl
 | some cd =>
  obtain ⟨L,h1,_⟩:=hr.cd nm cd (jU h)
  rw [hn] at h1;cases h1
theorem Zv3 (hr:cC X base σ β w) (hn : β nm=none) {ρ:Operand→Value} {o:Oper} {t:TypeId} (ho:o.op = .makeMap t none) :
  cN P X base σ β w nm (execOp ρ o) (.map nm) (bZ σ nm (.map [] [] false)):=by
 refine y7 hr hn (.map [] [] false) 0 0 (obj:=.map #[] 0) (w':={ w with heap:=w.heap.push (.map #[] 0) }) rfl rfl rfl rfl (v:=.map (some w.heap.size)) ?_ ?_ ?_
 ·simp [execOp,ho,Instr.makeMap]
 ·intro M' β' hk hβ
  exact ⟨#[],0,xA w _,rfl,rfl,fun k er=>by simp at er,fun k er=>by simp at er,ZX⟩
 ·intro M'
  exact .map (L:=⟨w.heap.size,0,0,0⟩) (tq _ _ _)
theorem YY (hr:cC X base σ β w) (hn : β nm=none) {ρ:Operand→Value} {o:Oper} {t:TypeId} {x:Operand} {s:ByteArray} (ho:o.op = .range t x) (ht:P.underlying t=some .string) (hx : ρ x = .string s) :
  cN P X base σ β w nm (execOp ρ o) (.it nm) (bZ σ nm (.iter s 0)):=by
 refine y7 hr hn (.iter s 0) 0 0 (obj:=.stringIter s 0) (w':={ w with heap:=w.heap.push (.stringIter s 0) }) rfl rfl rfl rfl (v:=.pointer (some ⟨w.heap.size,0,none⟩)) ?_ ?_ ?_
 ·simp [execOp,ho,Instr.range,run_underlying ht,hx]
 ·intro M' β' hk hβ
  exact xA w _
 ·intro M'
  exact .it (L:=⟨w.heap.size,0,0,0⟩) (tq _ _ _)
theorem V6 (hr:cC X base σ β w) (hn : β nm=none) {ρ:Operand→Value} {o:Oper} {t kt et:TypeId} {x:Operand} {ks vs:List ae} (ho:o.op = .range t x) (ht:P.underlying t=some (.map kt et)) (hx:bR w (MT X σ β) β (ρ x) (.pm ks vs)) :
  cN P X base σ β w nm (execOp ρ o) (.it nm) (bZ σ nm (.kZ ks vs [])):=by
 obtain ⟨v,hv⟩:∃ v,ρ x=v:=⟨_,rfl⟩
 rw [hv] at hx
 cases hx with
 | @pm g clk es _ _ hg hm vg qG oq nG hb =>
  refine y7 hr hn (.kZ ks vs []) 0 0 (obj:=.mapIter (some g) clk #[] clk) (w':={ w with heap:=w.heap.push (.mapIter (some g) clk #[] clk) }) rfl rfl rfl rfl (v:=.pointer (some ⟨w.heap.size,0,none⟩)) ?_ ?_ ?_
  ·simp [execOp,ho,Instr.range,run_underlying ht,hv,getObj,Sem.run,hg]
  ·intro M' β' hk hβ
   exact ⟨g,es,clk,xA w _,(hk.map _ _ _ hg hm).1,(hk.map _ _ _ hg hm).2,vg,qG,fun k sA=>(oq k sA).mono hk hβ,fun k sA=>(nG k sA).mono hk hβ,hb,fun i hi=>by cases hi⟩
  ·intro M'
   exact .it (L:=⟨w.heap.size,0,0,0⟩) (tq _ _ _)
theorem Xj {es:Array MapEntry} {clk i:Nat} (h:iI es clk) (hi:i<es.size):es.find? (·.born==(es.getD i default).born)=some (es.getD i default):=by
 rw [Array.find?_eq_some_iff_getElem]
 have e:es.getD i default=es[i]:=by rw [aj,aB hi];rfl
 refine ⟨by simp,i,hi,e.symm,fun j hj=>?_⟩
 have ej:es.getD j default=es[j]:=by rw [aj,aB (by omega)];rfl
 simp only [bT,beq_eq_false_iff_ne,ne_eq]
 intro hb
 have:=h.2 j i (by omega) hi (by rw [ej];exact hb)
 omega
theorem WK (hr:cC X base σ β w) {ρ:Operand→Value} {gV:Operand→ae} (dJ:∀ x,bR w (MT X σ β) β (ρ x) (gV x)) {o:Oper} {x:Operand} (ho:o.op = .entry x) {r:ae} {σ':ai}
  (h:oh σ (gV x)=some (r,σ')):cN P X base σ β w nm (execOp ρ o) r σ':=by
 unfold oh at h
 split at h
 ·rename_i b e1
  have hx:=dJ x
  rw [e1] at hx
  obtain ⟨L',hL,hv⟩:∃ L,β b=some L∧ρ x = .pointer (some ⟨L.g,0,none⟩):=by
   generalize ρ x=v at hx
   cases hx with | it h=>exact ⟨_,h,rfl⟩
  split at h
  ·rename_i ks vs seen hb
   split at h
   ·rename_i i hi
    cases h
    obtain ⟨L,h1,_,_,m,es,clk,h2,h3,h4,h5,h6,h7,h8,h9,tO⟩:=hr.cd b _ (jU hb)
    obtain rfl:=aM (h1.symm.trans hL)
    have sx:i∈seen:=List.mem_of_getLast? hi
    have zk:i<ks.length:=tO i sx
    have qB:(seen.map fun i=>(es.getD i default).born).toArray.back? = some (es.getD i default).born:=by
     rw [List.back?_toArray,List.getLast?_map,hi];rfl
    refine cN.val hr (v:=.tuple #[(es.getD i default).key,(es.getD i default).val]) ?_ ?_
    ·simp only [execOp,ho,Instr.entry,hv]
     have g1:(getObj L.g).run P w = .ok (.mapIter (some m) clk (seen.map fun i=>(es.getD i default).born).toArray clk) w:=by simp [getObj,Sem.run,h2]
     have g2:(getObj m).run P w = .ok (.map es clk) w:=by simp [getObj,Sem.run,h3]
     have zf:=Xj h9 (by omega:i<es.size)
     rw [aj] at zf
     simp [Sem.run_bind,g1,g2,hi,zf]
    ·refine .dz rfl fun k hk=>?_
     match k,hk with
     | 0,_=>exact h7 i zk
     | 1,_=>exact h8 i zk
   ·cases h
  ·cases h
 ·cases h
theorem ZB (hr:cC X base σ β w) {ρ:Operand→Value} {gV:Operand→ae} (dJ:∀ x,bR w (MT X σ β) β (ρ x) (gV x)) {o:Oper} {x:Operand} (ho:o.op = .next x true) {r:ae} {σ':ai}
  (h:m_ σ (gV x)=some (r,σ')):cN P X base σ β w nm (execOp ρ o) r σ':=by
 unfold m_ at h
 split at h
 ·rename_i b e1
  have hx:=dJ x
  rw [e1] at hx
  obtain ⟨L',hL,hv⟩:∃ L,β b=some L∧ρ x = .pointer (some ⟨L.g,0,none⟩):=by
   generalize ρ x=v at hx
   cases hx with | it h=>exact ⟨_,h,rfl⟩
  split at h
  ·rename_i s pos hb
   obtain ⟨L,h1,h1b,h1x,h2⟩:=hr.cd b _ (jU hb)
   obtain rfl:=aM (h1.symm.trans hL)
   have hg:(getObj L.g).run P w = .ok (.stringIter s pos) w:=by
    have:w.heap[L.g]? = some (.stringIter s pos):=h2
    simp [getObj,Sem.run,this]
   split at h
   ·rename_i bD
    cases h
    have oQ:L.g<w.heap.size:=(aL.1 h2).1
    refine Cc (kI:=.iter s (pos+(Utf8.decode s pos).2)) hr (jU hb) h1 (w':={ w with heap:=w.heap.setIfInBounds L.g (.stringIter s (pos+(Utf8.decode s pos).2)) }) rfl rfl rfl (by simp)
     (fun g hg=>by simp [bC,fY hg]) (fun _ _ _ hn=>absurd trivial hn) (fun hn=>absurd trivial (hn 0)) (fun _ _=>trivial) (v:=.tuple #[.bool true, .int .i64 pos, .int .i32 (Utf8.decode s pos).1]) (.inl ?_) (fun M' hk=>?_) (fun M' _=>?_)
    ·have uG:w.heap[L.g]? = some (.stringIter s pos):=h2
     simp [execOp,ho,Instr.next,hv,hg,bD,setObj,Sem.run,uG,goInt]
    ·show ({ w with heap:=w.heap.setIfInBounds L.g (.stringIter s (pos+(Utf8.decode s pos).2)) }:World).heap[L.g]? = _
     simp [bC,oQ]
    ·exact .dz rfl fun j hj=>by
      match j,hj with
      | 0,_=>exact .bool _
      | 1,_=>exact .int _ _
      | 2,_=>exact .int _ _
   ·rename_i bD
    cases h
    refine cN.val hr (v:=.tuple #[.bool false]) ?_ (.dz rfl fun j hj=>by match j,hj with | 0,_=>exact .bool _)
    simp [execOp,ho,Instr.next,hv,hg,bD]
  ·cases h
 ·cases h
theorem Zoa (hr:cC X base σ β w) (hn : β nm=none) {ρ:Operand→Value} {gV:Operand→ae} (dJ:∀ x,bR w (MT X σ β) β (ρ x) (gV x)) {o:Oper} {t:TypeId} {lo co:Operand} (ho:o.op = .makeSlice t lo co)
  {T:jH} (hT:bK P t=some T) {r:ae} {σ':ai} (h:jP σ nm T (gV lo) (gV co)=some (r,σ')):cN P X base σ β w nm (execOp ρ o) r σ':=by
 unfold jP at h
 have hl:=dJ lo
 have hc:=dJ co
 split at h
 ·rename_i e l c hk he e1 e2
  rw [e1] at hl
  rw [e2] at hc
  split at h
  ·rename_i mB
   obtain ⟨h1,h2,h3,h4,h5,h6⟩:=mB
   cases h
   obtain ⟨et,ht,iR⟩:=tj hT hk
   rw [he] at iR
   obtain ⟨ti,_,z,qk,_,hz,hs,_,Ah,_⟩:=pO iR.symm
   obtain ⟨z',rv,_,ry,Jb,EC,_⟩:=A5 (w:=w) (M:=MT X σ β) (β:=β) iR.symm
   obtain rfl:z=z':=by
    have:=Hd (P:=P) (w:=w) qk hz
    rw [rv] at this
    exact ((Result.ok.injEq _ _ _ _).mp this).1.symm
   have tV:(ti.bytes:Int)*c≤281474976710656:=by
    have:((ti.bytes:Nat):Int)*c≤65536*1000000000:=Int.mul_le_mul (by omega) h3 (by omega) (by omega)
    omega
   have eL:=run_make (P:=P) w t et ti z ht qk hz .i64 .i64 l c h1 h2 tV (by omega)
   refine y7 hr hn (.row (List.replicate l.toNat (zeroV e)) 0) c.toNat e.sz (obj:=.cells (madeCells z.cells (c.toNat*ti.size)) et) (w':=w.alloc (.cells (madeCells z.cells (c.toNat*ti.size)) et)) rfl rfl rfl rfl (v:=.slice (some ⟨w.heap.size,0,none⟩) l.toNat c.toNat) ?_ ?_ ?_
   ·simp only [execOp,ho,hl.dZ,hc.dZ,Sem.run_bind,eL,Result.andThen_ok,Sem.run_pure]
   ·intro M' β' En hβ
    refine ⟨_,et,xA w _,?_,?_,fun i hi=>?_,fun i j hi hj=>?_⟩
    ·rw [size_madeCells,hs];simp
    ·simp only [bz];omega
    ·simp only [bz] at hi
     simp only [List.getD,c9,if_pos hi,br,Hj iR.symm];exact Jb
    ·simp only [bz] at hi
     simp only [bm] at hj ⊢
     have e3:(List.replicate l.toNat (zeroV e)).getD i ae.undef=zeroV e:=by simp only [List.getD,c9,if_pos hi,br]
     rw [e3,Hj iR.symm]
     have bD:i*e.sz+j<c.toNat*ti.size:=by
      have:(i+1)*e.sz≤c.toNat*e.sz:=aX _ (by omega)
      rw [bH,dt] at this;rw [hs];omega
     have e4:(madeCells z.cells (c.toNat*ti.size)).getD (i*e.sz+j) undef=z.cells.getD j undef:=by
      have rr:j<z.cells.size:=by omega
      simp only [madeCells,aj,ei,Array.getElem?_range,if_pos bD,bu,br]
      have e5:(i*e.sz+j) % z.cells.size=j:=by rw [ry];exact (IB hj).2
      rw [aB rr,br,getElem!_pos z.cells _ (by rw [e5];exact rr)]
      simp only [e5]
     rw [e4]
     exact (EC j hj).mono En hβ
   ·intro M'
    have:=bR.os (w:=w.alloc (.cells (madeCells z.cells (c.toNat*ti.size)) et)) (M:=M') (β:=oZ β nm ⟨w.heap.size,0,c.toNat,e.sz⟩) (b:=nm) (off:=0) (len:=l.toNat) (cap:=c.toNat) (L:=⟨w.heap.size,0,c.toNat,e.sz⟩) (tq _ _ _) (by omega) (by simp)
    simpa using this
  ·cases h
 ·cases h
theorem Ug {a b:ByteArray} (h:(a.toList==b.toList)=true):a=b:=by
 have h1:a.toList=b.toList:=by simpa using h
 rw [ByteArray.toList_eq,ByteArray.toList_eq] at h1
 apply ByteArray.ext
 exact dL.1 h1
theorem T9 (k:ae):∀ (ks:List ae) (i j:Nat),eY k ks i=some j→e8 k (ks.getD (j - i) .undef)=true
 | [],_,_,h=>by simp [eY] at h
 | x :: xs,i,j,h=>by
  simp only [eY] at h
  split at h
  ·rename_i he;cases h;simpa using he
  ·have h1:=E_ k xs (i+1) j h
   have h2:=T9 k xs (i+1) j h
   rw [show j - i=(j - (i+1))+1 by omega,bB];exact h2
theorem PW (hr:cC X base σ β w) {ρ:Operand→Value} {gV:Operand→ae} (dJ:∀ x,bR w (MT X σ β) β (ρ x) (gV x)) {o:Oper} {t:TypeId} {m k v:Operand} (ho:execOp ρ o=(do Instr.mapUpdate t (ρ m) (ρ k) (ρ v);pure .skip))
  {T:jH} (hT:bK P t=some T) {σ':ai} (h:gp σ T (gV m) (gV k) (gV v)=some σ'):cN P X base σ β w nm (execOp ρ o) .undef σ':=by
 unfold gp at h
 have hm:=dJ m
 have sY:=dJ k
 have Vt:=dJ v
 split at h
 ·rename_i e b hk he e1
  rw [e1] at hm
  split at h
  ·rename_i ks vs hb
   split at h
   ·rename_i mB
    cases h
    simp only [aD,decide_eq_true_eq] at mB
    obtain ⟨⟨ML,eK⟩,_⟩:=mB
    obtain ⟨kt,et,u,h1,h2,h3,h4⟩:=Qu hT hk ML
    obtain ⟨L,h5,tU,hX,es,clk,h6,hn,hv,oq,nG,qD⟩:=hr.cd _ _ (jU hb)
    obtain ⟨L',hL,Vi⟩:∃ L,β b=some L∧ρ m = .map (some L.g):=by
     generalize ρ m=vm at hm
     cases hm with | map h=>exact ⟨_,h,rfl⟩
    obtain rfl:=aM (h5.symm.trans hL)
    have vd:(getObj L.g).run P w = .ok (.map es clk) w:=by simp [getObj,Sem.run,h6]
    have rq:=Qe (P:=P) (w:=w) h3 (by rcases h4 with ⟨ik,_,h,_⟩ | ⟨_,h,_⟩;exact .inl ⟨ik,h⟩;exact .inr h) false 9999 (ρ k)
    have eE:∀ j,es.toList.getD j default=es.getD j default:=fun j=>by simp [List.getD,aj]
    have Bs:=JV h4 sY es.toList ks 0 (by simpa using hn) (fun j hj=>by rw [eE];exact oq j hj) (by simpa using eK)
    have u0:(Instr.findKey kt (ρ k) es.toList).run P w = .ok ((eY (gV k) ks 0).map fun j=>(j,(es.getD j default).val)) w:=by
     simp only [Instr.findKey,Sem.run_bind,run_underlying h3,Result.andThen_ok,Bs,gG,eE]
     rfl
    have oQ:L.g<w.heap.size:=(aL.1 h6).1
    have fin:∀ (rC:Array MapEntry) (wE:Nat) (uK sR:List ae),(execOp ρ o).run P w = .ok .skip { w with heap:=w.heap.setIfInBounds L.g (.map rC wE) }→rC.size=uK.length→sR.length=uK.length →
      (∀ j,j<uK.length→bR w (MT X σ β) β (rC.getD j default).key (uK.getD j .undef))→(∀ j,j<uK.length→bR w (MT X σ β) β (rC.getD j default).val (sR.getD j .undef))→iI rC wE →
      cN P X base σ β w nm (execOp ρ o) .undef (bZ σ b (.map uK sR false)):=by
     intro rC wE uK sR eL q1 q2 q3 q4 q5
     refine Cc (kI:=.map uK sR false) hr (jU hb) h5 (w':={ w with heap:=w.heap.setIfInBounds L.g (.map rC wE) }) rfl rfl rfl (by simp)
      (fun g hg=>by simp [bC,fY hg]) (fun _ _ _ hn=>absurd rfl hn) (fun hn=>absurd rfl (hn 0)) (fun _ _=>rfl) (.inr ⟨eL,rfl⟩) (fun M' En=>?_) (fun M' _=>.undef _)
     refine ⟨rC,wE,?_,q1,q2,fun j hj=>(q3 j hj).mono En fun _ _ h=>h,fun j hj=>(q4 j hj).mono En fun _ _ h=>h,q5⟩
     show ({ w with heap:=w.heap.setIfInBounds L.g (.map rC wE) }:World).heap[L.g]? = _
     simp [bC,oQ]
    have hO:∀ ob,(setObj L.g ob).run P w = .ok () { w with heap:=w.heap.setIfInBounds L.g ob }:=fun ob=>by simp [setObj,Sem.run,h6]
    unfold iK
    cases hf:eY (gV k) ks 0 with
    | none =>
     rw [hf] at u0
     refine fin (es.push { key:=ρ k,val:=ρ v,born:=clk }) (clk+1) _ _ ?_ (by simp [hn]) (by simp [hv]) (fun j hj=>?_) (fun j hj=>?_) (XP qD _ _)
     ·simp only [ho,Instr.mapUpdate,Sem.run_bind,run_underlying h1,Result.andThen_ok,Vi,vd]
      rw [show (10000:Nat)=9999+1 from rfl,rq]
      simp only [Result.andThen_ok,u0,j8,hO,Sem.run_pure]
     ·simp only [ay,dh] at hj
      rw [sS,aj,fv]
      by_cases e2:j=es.size
      ·rw [if_pos e2,if_neg (by omega)]
       rw [show j - ks.length=0 by omega];exact sY
      ·rw [if_neg e2,if_pos (by omega),← aj];exact oq j (by omega)
     ·simp only [ay,dh] at hj
      rw [sS,aj,fv]
      by_cases e2:j=es.size
      ·rw [if_pos e2,if_neg (by omega)]
       rw [show j - vs.length=0 by omega];exact Vt
      ·rw [if_neg e2,if_pos (by omega),← aj];exact nG j (by omega)
    | some i =>
     rw [hf] at u0
     have zk:=(E_ _ _ _ _ hf).2
     have heq:=T9 _ _ _ _ hf
     simp only [gG] at zk heq
     have CT:(es.getD i default).key = ρ k:=by
      have h7:=oq i zk
      rcases h4 with ⟨ik,n,_,e2⟩ | ⟨s,_,e2⟩
      ·rw [e2] at sY heq
       have zn:=bp.1 eK (ks.getD i .undef) (by simp only [List.getD,aA zk,br];exact aE zk)
       rw [e2] at zn
       cases MK:ks.getD i .undef<;>rw [MK] at heq zn h7<;>simp only [e8,sameKind,a8,beq_iff_eq] at heq zn
       rw [h7.dZ,sY.dZ,heq,zn]
      ·rw [e2] at sY heq
       cases MK:ks.getD i .undef<;>rw [MK] at heq h7<;>simp only [e8,a8] at heq
       rw [h7.gy,sY.gy]
       rw [Ug heq]
     have s0:Instr.sameBits 10000 (ρ k) (ρ k)=true:=by
      rcases h4 with ⟨ik,n,_,e2⟩ | ⟨s,_,e2⟩<;>rw [e2] at sY
      ·rw [sY.dZ];simp [Instr.sameBits]
      ·rw [sY.gy];simp [Instr.sameBits,beq_toListBytes]
     have ow:i<es.size:=by omega
     have Gd:(((es[i]?).map (·.key)).getD (ρ k)) = ρ k:=by
      rw [aB ow]
      rw [aj,aB ow] at CT
      exact CT
     refine fin (es.modify i fun e=>{ e with key:=ρ k,val:=ρ v }) clk _ _ ?_ (by simp [hn]) (by simp [hv]) (fun j hj=>?_) (fun j hj=>?_) (Zv0 qD _ _ _)
     ·simp only [ho,Instr.mapUpdate,Sem.run_bind,run_underlying h1,Result.andThen_ok,Vi,vd]
      rw [show (10000:Nat)=9999+1 from rfl,rq]
      simp only [Result.andThen_ok,u0,bu,Sem.run_bind,Gd,Instr.keyThatStays,s0,if_true,hO,Sem.run_pure]
     ·rw [aj,iH]
      by_cases e2:i=j
      ·subst e2
       rw [if_pos rfl,aB ow]
       have:=oq i hj
       rw [CT] at this;exact this
      ·rw [if_neg e2,← aj];exact oq j hj
     ·rw [aj,iH]
      by_cases e2:i=j
      ·subst e2
       rw [if_pos rfl,aB ow,EM _ _ _ (by omega)]
       exact Vt
      ·rw [if_neg e2,← aj,getD_set_ne _ _ _ _ e2];exact nG j hj
   ·cases h
  ·cases h
 ·cases h
theorem Se (hr:cC X base σ β w) (hn : β nm=none) {ρ:Operand→Value} {gV:Operand→ae} (dJ:∀ x,bR w (MT X σ β) β (ρ x) (gV x)) (Mr:∀ v,ρ (.const v)=v) {o:Oper} {r:ae} {σ':ai} (h:cY P σ nm gV o.op=some (r,σ')) :
  cN P X base σ β w nm (execOp ρ o) r σ':=by
 have Bv:=YF hr hn
 have mp:∀ {x:Option ae} (_:x.map (·,σ)=some (r,σ')),x=some r∧σ = σ':=by
  intro x hx
  obtain ⟨a,h1,h2⟩:=aH.1 hx
  simp only [bw] at h2
  exact ⟨by rw [h1,h2.1],h2.2⟩
 cases ho:o.op with
 | move x =>
  rw [ho] at h;simp only [cY,aG,bw] at h
  obtain ⟨rfl,rfl⟩:=h
  exact cN.val hr (by simp [execOp,ho]) (dJ x)
 | assign x =>
  rw [ho] at h;simp only [cY,aG,bw] at h
  obtain ⟨rfl,rfl⟩:=h
  exact cN.val hr (by simp [execOp,ho]) (dJ x)
 | pick c a b =>
  rw [ho] at h;simp only [cY] at h
  obtain ⟨h1,rfl⟩:=mp h
  exact Yj9 hr dJ ho h1
 | alloc t =>
  rw [ho] at h;simp only [cY] at h
  obtain ⟨l,hl,h1⟩:=au.1 h
  simp only [aG,bw] at h1
  obtain ⟨rfl,rfl⟩:=h1
  exact XW hr hn ho hl
 | box t x =>
  rw [ho] at h;simp only [cY] at h
  obtain ⟨l,hl,h1⟩:=au.1 h
  split at h1
  ·rename_i hc
   simp only [aG,bw] at h1
   obtain ⟨rfl,rfl⟩:=h1
   exact Yo8 hr hn dJ ho hc.2
  ·cases h1
 | build t parts =>
  rw [ho] at h;simp only [cY] at h
  obtain ⟨T,hT,h1⟩:=au.1 h
  obtain ⟨h2,rfl⟩:=mp h1
  obtain ⟨v,h3,h4⟩:=Zyp hT dJ h2
  exact cN.val hr (v:=v) (by simp only [execOp,ho,Sem.run_bind,h3,Result.andThen_ok,Sem.run_pure]) h4
 | buildSlice t n parts =>
  rw [ho] at h;simp only [cY] at h
  obtain ⟨T,hT,h1⟩:=au.1 h
  obtain ⟨e,he,h2⟩:=au.1 h1
  obtain ⟨es,ow,h3⟩:=au.1 h2
  split at h3
  ·rename_i hc
   simp only [aG,bw] at h3
   obtain ⟨rfl,rfl⟩:=h3
   exact Zm7 hr hn dJ ho hT he ow hc.1 hc.2.1 hc.2.2.1 hc.2.2.2.2
  ·cases h3
 | load t x =>
  rw [ho] at h;simp only [cY] at h
  obtain ⟨l,hl,h1⟩:=au.1 h
  obtain ⟨h2,rfl⟩:=mp h1
  exact Zl hr dJ ho hl h2
 | store t x v =>
  rw [ho] at h;simp only [cY] at h
  obtain ⟨l,hl,h1⟩:=au.1 h
  obtain ⟨s,h2,h3⟩:=aH.1 h1
  simp only [bw] at h3
  obtain ⟨rfl,rfl⟩:=h3
  exact YI hr dJ ho hl h2
 | nilCheck x =>
  rw [ho] at h;simp only [cY] at h
  have hx:=dJ x
  split at h
  ·rename_i b of e1
   simp only [aG,bw] at h
   obtain ⟨rfl,rfl⟩:=h
   rw [e1] at hx
   obtain ⟨L,hL,hv⟩:=hx.wk
   exact cN.val hr (v:=ρ x) (by simp [execOp,ho,hv]) hx
  ·rename_i b i f e1
   simp only [aG,bw] at h
   obtain ⟨rfl,rfl⟩:=h
   rw [e1] at hx
   obtain ⟨L,hL,hv⟩:=hx.yM
   exact cN.val hr (v:=ρ x) (by simp [execOp,ho,hv]) hx
  ·rename_i cs e1
   simp only [aG,bw] at h
   obtain ⟨rfl,rfl⟩:=h
   rw [e1] at hx
   obtain ⟨a,hv⟩:∃ a,ρ x = .pointer (some a):=by
    generalize ρ x=v at hx
    cases hx;exact ⟨_,rfl⟩
   exact cN.val hr (v:=ρ x) (by simp [execOp,ho,hv]) hx
  ·rename_i f a c e1
   simp only [aG,bw] at h
   obtain ⟨rfl,rfl⟩:=h
   rw [e1] at hx
   obtain ⟨fa,ca,hv⟩:∃ fa ca,ρ x = .func (.func f) fa ca:=by
    generalize ρ x=v at hx
    cases hx;exact ⟨_,_,rfl⟩
   exact cN.val hr (v:=ρ x) (by simp [execOp,ho,hv]) hx
  ·cases h
 | binOp op t x y u =>
  rw [ho] at h;simp only [cY] at h
  obtain ⟨h1,rfl⟩:=mp h
  obtain ⟨v,h2,h3⟩:∃ v,(do eqGuard op t x y (ρ x) (ρ y);_root_.Go.binOp op t (ρ x) (ρ y):Sem Value).run P w = .ok v w∧bR w (MT X σ β) β v r:=by
   unfold xF at h1
   split at h1
   ·rename_i Aw
    have nJ : ρ y = .slice none 0 0:=by rw [Yr Aw];exact Mr _
    rw [nJ];exact Ylw (dJ x) h1 x y
   ·exact Ykl (dJ x) (dJ y) h1 x y
  refine cN.val hr (v:=v) ?_ h3
  simp only [Sem.run_bind] at h2
  simp only [execOp,ho,Sem.run_bind,h2,Result.andThen_ok,Sem.run_pure]
 | unOp op t x =>
  rw [ho] at h;simp only [cY] at h
  obtain ⟨h1,rfl⟩:=mp h
  obtain ⟨v,h2,h3⟩:=Ypv (P:=P) (dJ x) h1
  exact cN.val hr (v:=v) (by simp only [execOp,ho,Sem.run_bind,h2,Result.andThen_ok,Sem.run_pure]) h3
 | convert s d x =>
  rw [ho] at h;simp only [cY] at h
  obtain ⟨h1,rfl⟩:=mp h
  obtain ⟨v,h2,h3⟩:=Zsr (P:=P) (dJ x) h1
  exact cN.val hr (v:=v) (by simp only [execOp,ho,Sem.run_bind,h2,Result.andThen_ok,Sem.run_pure]) h3
 | makeInterface t x =>
  rw [ho] at h;simp only [cY] at h
  split at h
  ·cases h
  ·rename_i k eg hk
   simp only [aG,bw] at h
   obtain ⟨rfl,rfl⟩:=h
   obtain ⟨i,u,h1,h2,h3⟩:=w7 hk
   have:P.concrete t=true:=by
    have M4:∀ ms,u≠.interface ms:=by rintro ms rfl;exact eg (by rw [← h3];rfl)
    simp only [Program.concrete,h2]
    cases u<;>first | rfl | exact absurd rfl (M4 _)
   exact cN.val hr (v:=.iface t (ρ x)) (by simp only [execOp,ho,Sem.run_bind,run_makeInterface w t (ρ x) this,Result.andThen_ok,Sem.run_pure]) (.iface (dJ x))
  ·cases h
 | makeFunc fn first captured =>
  rw [ho] at h
  cases fn with
  | func f =>
   simp only [cY,aG,bw] at h
   obtain ⟨rfl,rfl⟩:=h
   refine cN.val hr (v:=.func (.func f) (first.map ρ) (captured.map ρ)) (by simp [execOp,ho,Instr.makeFunc]) (.fn (by simp) (by simp) (fun k hk=>?_) (fun k hk=>?_))
   ·simp only [ak,bA] at hk
    rw [aj,ei,aB hk]
    simp only [List.getD,cb,fX,aB hk,bu,br]
    exact dJ _
   ·simp only [ak,bA] at hk
    rw [aj,ei,aB hk]
    simp only [List.getD,cb,fX,aB hk,bu,br]
    exact dJ _
  | _=>simp [cY] at h
 | makeMap t r' =>
  rw [ho] at h
  cases r' with
  | none =>
   simp only [cY,aG,bw] at h
   obtain ⟨rfl,rfl⟩:=h
   exact Zv3 hr hn ho
  | some _=>simp [cY] at h
 | makeSlice t l c =>
  rw [ho] at h;simp only [cY] at h
  obtain ⟨T,hT,h1⟩:=au.1 h
  exact Zoa hr hn dJ ho hT h1
 | slice t x lo hi mx =>
  rw [ho] at h;simp only [cY] at h
  obtain ⟨T,hT,h1⟩:=au.1 h
  obtain ⟨h2,rfl⟩:=mp h1
  obtain ⟨v,h3,h4⟩:=Zzq hT (dJ x) (LJ dJ lo) (LJ dJ hi) (LJ dJ mx) h2
  exact cN.val hr (v:=v) (by simp only [execOp,ho,Sem.run_bind,h3,Result.andThen_ok,Sem.run_pure]) h4
 | fieldAddr t x i =>
  rw [ho] at h;simp only [cY] at h
  obtain ⟨T,hT,h1⟩:=au.1 h
  obtain ⟨h2,rfl⟩:=mp h1
  obtain ⟨v,h3,h4⟩:=Zmc hT (dJ x) h2
  exact cN.val hr (v:=v) (by simp only [execOp,ho,Sem.run_bind,h3,Result.andThen_ok,Sem.run_pure]) h4
 | field t x i =>
  rw [ho] at h;simp only [cY] at h
  obtain ⟨T,hT,h1⟩:=au.1 h
  obtain ⟨h2,rfl⟩:=mp h1
  obtain ⟨v,h3,h4⟩:=Zzv hT (dJ x) h2
  exact cN.val hr (v:=v) (by simp only [execOp,ho,Sem.run_bind,h3,Result.andThen_ok,Sem.run_pure]) h4
 | indexAddr t x i =>
  rw [ho] at h;simp only [cY] at h
  obtain ⟨T,hT,h1⟩:=au.1 h
  obtain ⟨h2,rfl⟩:=mp h1
  obtain ⟨v,h3,h4⟩:=Zm5 hT (dJ x) (dJ i) h2
  exact cN.val hr (v:=v) (by simp only [execOp,ho,Sem.run_bind,h3,Result.andThen_ok,Sem.run_pure]) h4
 | index t x i =>
  rw [ho] at h;simp only [cY] at h
  obtain ⟨T,hT,h1⟩:=au.1 h
  obtain ⟨h2,rfl⟩:=mp h1
  obtain ⟨v,h3,h4⟩:=Zz4 hT (dJ x) (dJ i) h2
  exact cN.val hr (v:=v) (by simp only [execOp,ho,Sem.run_bind,h3,Result.andThen_ok,Sem.run_pure]) h4
 | lookup t x i ok =>
  rw [ho] at h;simp only [cY] at h
  obtain ⟨T,hT,h1⟩:=au.1 h
  obtain ⟨h2,rfl⟩:=mp h1
  obtain ⟨v,h3,h4⟩:=Zt0 hr hT (dJ x) (dJ i) h2
  exact cN.val hr (v:=v) (by simp only [execOp,ho,Sem.run_bind,h3,Result.andThen_ok,Sem.run_pure]) h4
 | mapUpdate t m k v =>
  rw [ho] at h;simp only [cY] at h
  obtain ⟨T,hT,h1⟩:=au.1 h
  obtain ⟨s,h2,h3⟩:=aH.1 h1
  simp only [bw] at h3
  obtain ⟨rfl,rfl⟩:=h3
  exact PW hr dJ (by simp only [execOp,ho]) hT h2
 | insert t m k v =>
  rw [ho] at h;simp only [cY] at h
  obtain ⟨T,hT,h1⟩:=au.1 h
  obtain ⟨s,h2,h3⟩:=aH.1 h1
  simp only [bw] at h3
  obtain ⟨rfl,rfl⟩:=h3
  exact PW hr dJ (by simp only [execOp,ho]) hT h2
 | range t x =>
  rw [ho] at h;simp only [cY] at h
  obtain ⟨T,hT,h1⟩:=au.1 h
  split at h1
  ·rename_i s e1 e2
   simp only [aG,bw] at h1
   obtain ⟨rfl,rfl⟩:=h1
   obtain ⟨u,h2,h3,h4,_⟩:=tx hT
   have hx:=dJ x
   rw [e2] at hx
   exact YY hr hn ho (by rw [h3,zN (h4.trans e1)]) hx.gy
  ·rename_i ks vs e1 e2
   simp only [aG,bw] at h1
   obtain ⟨rfl,rfl⟩:=h1
   obtain ⟨u,h2,h3,h4,_⟩:=tx hT
   have hx:=dJ x
   rw [e2] at hx
   obtain ⟨kt,et,hu⟩:=D4 (h4.trans e1)
   exact V6 hr hn ho (by rw [h3,hu]) hx
  ·cases h1
 | entry x =>
  rw [ho] at h;simp only [cY] at h
  exact WK hr dJ ho h
 | next x s =>
  rw [ho] at h
  cases s with
  | true=>exact ZB hr dJ ho h
  | false=>simp [cY] at h
 | typeAssert x t u ok =>
  rw [ho] at h;simp only [cY] at h
  obtain ⟨h2,rfl⟩:=mp h
  obtain ⟨v,h3,h4⟩:=Zlh (xt:=t) (dJ x) h2
  exact cN.val hr (v:=v) (by simp only [execOp,ho,Sem.run_bind,h3,Result.andThen_ok,Sem.run_pure]) h4
 | extract x i =>
  rw [ho] at h;simp only [cY] at h
  split at h
  ·rename_i vs e1
   obtain ⟨h2,rfl⟩:=mp h
   have hx:=dJ x
   rw [e1] at hx
   obtain ⟨v,h3,h4⟩:=Zru (P:=P) hx h2
   exact cN.val hr (v:=v) (by simp only [execOp,ho,Sem.run_bind,h3,Result.andThen_ok,Sem.run_pure]) h4
  ·cases h
 | call c =>
  rw [ho] at h
  obtain ⟨callee,args,argTypes⟩:=c
  cases callee with
  | builtin b =>
   simp only [cY] at h
   have F9:execOp ρ o=(builtin b argTypes o.type (args.map fun | .const _=>true | _=>false) (args.map ρ)):=by
    simp only [execOp,ho,resolve]
    rfl
   rw [F9]
   have qz:(args.map ρ).toList=args.toList.map ρ:=by simp
   unfold eX at h
   split at h
   ·rename_i t x e1 e2
    have ht:argTypes = #[t]:=dL.1 (by rw [e1])
    obtain ⟨T,hT,h1⟩:=au.1 h
    obtain ⟨y,hy,v8⟩:∃ y,args.toList=[y]∧gV y=x:=by
     cases me:args.toList with
     | nil=>rw [me] at e2;simp at e2
     | cons y ys=>rw [me] at e2;simp at e2;obtain ⟨q1,q2⟩:=e2;exact ⟨y,by rw [q2],q1⟩
    have tQ:args.map ρ = #[ρ y]:=dL.1 (by rw [qz,hy];rfl)
    rw [ht,tQ]
    have hx:=dJ y
    rw [v8] at hx
    split at h1
    ·rename_i n hk
     simp only [aG,bw] at h1
     obtain ⟨rfl,rfl⟩:=h1
     obtain ⟨u,h2,h3,h4,_⟩:=tx hT
     obtain ⟨et,rfl⟩:=Hr (h4.trans hk)
     refine cN.val hr (v:=.int .i64 n) ?_ (.int _ _)
     simp only [builtin,Builtin.len_,Sem.run_bind,Sem.run_pure,Result.andThen_ok]
     simp [run_underlying h3,goInt]
    ·rename_i hk
     obtain ⟨n,h2,h3⟩:=aH.1 h1
     simp only [bw] at h3
     obtain ⟨rfl,rfl⟩:=h3
     refine cN.val hr (v:=.int .i64 n) ?_ (.int _ _)
     simp only [builtin,Sem.run_bind,KE hr hT (.inl hk) hx h2 o.type,Result.andThen_ok,Sem.run_pure]
    ·rename_i hk
     obtain ⟨n,h2,h3⟩:=aH.1 h1
     simp only [bw] at h3
     obtain ⟨rfl,rfl⟩:=h3
     refine cN.val hr (v:=.int .i64 n) ?_ (.int _ _)
     simp only [builtin,Sem.run_bind,KE hr hT (.inr (.inl hk)) hx h2 o.type,Result.andThen_ok,Sem.run_pure]
    ·rename_i hk
     obtain ⟨n,h2,h3⟩:=aH.1 h1
     simp only [bw] at h3
     obtain ⟨rfl,rfl⟩:=h3
     refine cN.val hr (v:=.int .i64 n) ?_ (.int _ _)
     simp only [builtin,Sem.run_bind,KE hr hT (.inr (.inr hk)) hx h2 o.type,Result.andThen_ok,Sem.run_pure]
    ·cases h1
   ·rename_i t u s x e1 e2
    have ht:argTypes = #[t,u]:=dL.1 (by rw [e1])
    obtain ⟨T,hT,h1⟩:=au.1 h
    obtain ⟨U,hU,h2⟩:=au.1 h1
    obtain ⟨y,z,hy,v8,NA⟩:∃ y z,args.toList=[y,z]∧gV y=s∧gV z=x:=by
     cases me:args.toList with
     | nil=>rw [me] at e2;simp at e2
     | cons y ys =>
      cases ys with
      | nil=>rw [me] at e2;simp at e2
      | cons z zs=>rw [me] at e2;simp at e2;obtain ⟨q1,q2,q3⟩:=e2;exact ⟨y,z,by rw [q3],q1,q2⟩
    have tQ:args.map ρ = #[ρ y,ρ z]:=dL.1 (by rw [qz,hy];rfl)
    rw [ht,tQ]
    have hs:=dJ y
    rw [v8] at hs
    have hx:=dJ z
    rw [NA] at hx
    split at h2
    ·rename_i e hk he qG
     obtain ⟨et,wS,iR⟩:=tj hT hk
     rw [he] at iR
     obtain ⟨eu,uI,_⟩:=tj hU qG
     obtain ⟨xs,v7,h3⟩:=au.1 h2
     obtain ⟨news,nI⟩:=Ho (P:=P) hr hx v7
     exact JM hr hn Bv iR.symm hs nI.NV h3 o.type (.yG wS uI (.inl ⟨_,rfl⟩) iR.symm nI) rfl
    ·rename_i e hk he qG
     obtain ⟨et,wS,iR⟩:=tj hT hk
     rw [he] at iR
     obtain ⟨u',h4,h5,h6,_⟩:=tx hU
     obtain rfl:=zN (h6.trans qG)
     split at h2
     ·rename_i y'
      rw [hx.gy]
      split at h2
      ·rename_i h1z
       obtain ⟨news,nI⟩:∃ news,Src P w (MT X σ β) β e.sz (.string y') (bytesOf y') news:=⟨_,by rw [h1z];exact WH⟩
       exact JM hr hn Bv iR.symm hs nI.NV h2 o.type (.yG wS h5 (.inr rfl) iR.symm nI) rfl
      ·cases h2
     ·cases h2
    ·rename_i e k' hk he qG
     obtain ⟨et,wS,iR⟩:=tj hT hk
     rw [he] at iR
     obtain ⟨u',h4,h5,h6,_⟩:=tx hU
     obtain rfl:=Ic (h6.trans qG)
     obtain ⟨i,_,z,hi,_,hz,_⟩:=pO iR.symm
     split at h2
     ·rename_i n'
      split at h2
      ·rename_i hc
       have IY : 0<e.sz∧e.bytes≤65536:=Zz5 h2
       have hxx:=hx.dZ
       rw [hxx]
       exact JM hr hn Bv iR.symm hs (R5 iR.symm _ hi hz) h2 o.type (by simpa using mK.yH wS h5 iR.symm IY.1 IY.2 hc.1 hc.2.1 hc.2.2 hi hz) rfl
      ·cases h2
     ·cases h2
    ·cases h2
   ·rename_i t x e1 e2
    have ht:argTypes = #[t]:=dL.1 (by rw [e1])
    obtain ⟨T,hT,h1⟩:=au.1 h
    obtain ⟨y,hy,v8⟩:∃ y,args.toList=[y]∧gV y=x:=by
     cases me:args.toList with
     | nil=>rw [me] at e2;simp at e2
     | cons y ys=>rw [me] at e2;simp at e2;obtain ⟨q1,q2⟩:=e2;exact ⟨y,by rw [q2],q1⟩
    have tQ:args.map ρ = #[ρ y]:=dL.1 (by rw [qz,hy];rfl)
    rw [ht,tQ]
    have hx:=dJ y
    rw [v8] at hx
    split at h1
    ·rename_i hk
     obtain ⟨et,wS,iR⟩:=tj hT hk
     obtain ⟨n,h2,h3⟩:=aH.1 h1
     cases h3
     refine cN.val hr (v:=.int .i64 n) ?_ (.int _ _)
     obtain ⟨a,m,hv⟩:=Ylf hx h2
     rw [hv]
     simp [builtin,Builtin.cap_,run_underlying wS,goInt]
    ·cases h1
   ·rename_i t x e1 e2
    have ht:argTypes = #[t]:=dL.1 (by rw [e1])
    obtain ⟨T,hT,h1⟩:=au.1 h
    obtain ⟨y,hy,v8⟩:∃ y,args.toList=[y]∧gV y=x:=by
     cases me:args.toList with
     | nil=>rw [me] at e2;simp at e2
     | cons y ys=>rw [me] at e2;simp at e2;obtain ⟨q1,q2⟩:=e2;exact ⟨y,by rw [q2],q1⟩
    have tQ:args.map ρ = #[ρ y]:=dL.1 (by rw [qz,hy];rfl)
    rw [ht,tQ]
    have hx:=dJ y
    rw [v8] at hx
    split at h1
    ·rename_i e hk he
     obtain ⟨et,wS,iR⟩:=tj hT hk
     rw [he] at iR
     obtain ⟨n,h2,h3⟩:=au.1 h1
     exact W3 hr wS iR.symm hx h2 h3 o.type rfl
    ·cases h1
   ·rename_i t u s x e1 e2
    have ht:argTypes = #[t,u]:=dL.1 (by rw [e1])
    obtain ⟨T,hT,h1⟩:=au.1 h
    obtain ⟨U,hU,h2⟩:=au.1 h1
    obtain ⟨y,z,hy,v8,NA⟩:∃ y z,args.toList=[y,z]∧gV y=s∧gV z=x:=by
     cases me:args.toList with
     | nil=>rw [me] at e2;simp at e2
     | cons y ys =>
      cases ys with
      | nil=>rw [me] at e2;simp at e2
      | cons z zs=>rw [me] at e2;simp at e2;obtain ⟨q1,q2,q3⟩:=e2;exact ⟨y,z,by rw [q3],q1,q2⟩
    have tQ:args.map ρ = #[ρ y,ρ z]:=dL.1 (by rw [qz,hy];rfl)
    rw [ht,tQ]
    have hs:=dJ y
    rw [v8] at hs
    have hx:=dJ z
    rw [NA] at hx
    split at h2
    ·rename_i e hk he qG
     obtain ⟨et,wS,iR⟩:=tj hT hk
     rw [he] at iR
     obtain ⟨n,h3,h4⟩:=au.1 h2
     obtain ⟨xs,h5,h6⟩:=au.1 h4
     exact Yl2 hr wS iR.symm hs hx h3 h5 h6 o.type rfl
    ·cases h2
   ·rename_i ts x rest e2
    obtain ⟨h2,rfl⟩:=mp h
    obtain ⟨y,ys,hy,v8,BJ⟩:∃ y ys,args.toList=y :: ys∧gV y=x∧ys.map gV=rest:=by
     cases me:args.toList with
     | nil=>rw [me] at e2;simp at e2
     | cons y ys=>rw [me] at e2;simp at e2;exact ⟨y,ys,rfl,e2.1,e2.2⟩
    subst v8;subst BJ
    obtain ⟨v,h3,h4⟩:=Ue (P:=P) (ys.map ρ) (ys.map gV) (ρ y) (gV y) r (by simp) (fun k hk=>by
     simp only [ak] at hk
     simp only [List.getD,cb,aA hk,bu,br];exact dJ _) (dJ y) h2
    refine cN.val hr (v:=v) ?_ h4
    simp only [builtin,Builtin.max_,qz,hy,aF,Sem.run_bind,h3,Result.andThen_ok,Sem.run_pure]
   ·rename_i ts x rest e2
    obtain ⟨h2,rfl⟩:=mp h
    obtain ⟨y,ys,hy,v8,BJ⟩:∃ y ys,args.toList=y :: ys∧gV y=x∧ys.map gV=rest:=by
     cases me:args.toList with
     | nil=>rw [me] at e2;simp at e2
     | cons y ys=>rw [me] at e2;simp at e2;exact ⟨y,ys,rfl,e2.1,e2.2⟩
    subst v8;subst BJ
    obtain ⟨v,h3,h4⟩:=Uu (P:=P) (ys.map ρ) (ys.map gV) (ρ y) (gV y) r (by simp) (fun k hk=>by
     simp only [ak] at hk
     simp only [List.getD,cb,aA hk,bu,br];exact dJ _) (dJ y) h2
    refine cN.val hr (v:=v) ?_ h4
    simp only [builtin,Builtin.min_,qz,hy,aF,Sem.run_bind,h3,Result.andThen_ok,Sem.run_pure]
   ·cases h
  | _=>simp [cY] at h
 | _=>rw [ho] at h;simp [cY] at h
end
end Go.c8
