/- Part 9 of my own framework and of the walks of functions: AbsK. -/
import Derived.Test.YtfjbdamcmiglgaaGreatOwn8
abbrev fX:=@Array.getElem?_toList
abbrev dN:=@Array.toList_inj
abbrev ao:=@List.length_map
abbrev j7:=@Option.map_none
set_option linter.unusedVariables false
set_option linter.unusedSectionVars false
set_option linter.unusedSimpArgs false
namespace Go.cV
open Go
section
variable {P:Program} {X:Nat→Nat→Prop} {base:Nat} {σ:ai} {β:Env} {w:World} {nm:Nat} {M:Nat→Nat→Prop}
theorem YD (hr:cF X base σ β w) (hn : β nm=none):bF σ nm=none:=by
 cases h:bF σ nm with
 | none=>rfl
 | some cf =>
  obtain ⟨L,h1,_⟩:=hr.cf nm cf (jU h)
  rw [hn] at h1;cases h1
theorem Ztw (hr:cF X base σ β w) (hn : β nm=none) {ρ:Operand→Value} {o:Oper} {t:TypeId} (ho:o.op = .makeMap t none) :
  cO P X base σ β w nm (execOp ρ o) (.map nm) (b_ σ nm (.map [] [] false)):=by
 refine zb hr hn (.map [] [] false) 0 0 (obj:=.map #[] 0) (w':={ w with heap:=w.heap.push (.map #[] 0) }) rfl rfl rfl rfl (v:=.map (some w.heap.size)) ?_ ?_ ?_
 ·simp [execOp,ho,Instr.makeMap]
 ·intro M' β' hk hβ
  exact ⟨#[],0,xG w _,rfl,rfl,fun k eA=>by simp at eA,fun k eA=>by simp at eA,ZI⟩
 ·intro M'
  exact .map (L:=⟨w.heap.size,0,0,0⟩) (tI _ _ _)
theorem XS (hr:cF X base σ β w) (hn : β nm=none) {ρ:Operand→Value} {o:Oper} {t:TypeId} {x:Operand} {s:ByteArray} (ho:o.op = .range t x) (ht:P.underlying t=some .string) (hx : ρ x = .string s) :
  cO P X base σ β w nm (execOp ρ o) (.it nm) (b_ σ nm (.iter s 0)):=by
 refine zb hr hn (.iter s 0) 0 0 (obj:=.stringIter s 0) (w':={ w with heap:=w.heap.push (.stringIter s 0) }) rfl rfl rfl rfl (v:=.pointer (some ⟨w.heap.size,0,none⟩)) ?_ ?_ ?_
 ·simp [execOp,ho,Instr.range,run_underlying ht,hx]
 ·intro M' β' hk hβ
  exact xG w _
 ·intro M'
  exact .it (L:=⟨w.heap.size,0,0,0⟩) (tI _ _ _)
theorem Zz3 (hr:cF X base σ β w) (hn : β nm=none) {ρ:Operand→Value} {o:Oper} {t kt et:TypeId} {x:Operand} {ks vs:List ae} (ho:o.op = .range t x) (ht:P.underlying t=some (.map kt et)) (hx:bR w (MT X σ β) β (ρ x) (.pm ks vs)) :
  cO P X base σ β w nm (execOp ρ o) (.it nm) (b_ σ nm (.kZ ks vs [])):=by
 obtain ⟨v,hv⟩:∃ v,ρ x=v:=⟨_,rfl⟩
 rw [hv] at hx
 cases hx with
 | @pm g clk es _ _ hg hm vz qP ou nH hb =>
  refine zb hr hn (.kZ ks vs []) 0 0 (obj:=.mapIter (some g) clk #[] clk) (w':={ w with heap:=w.heap.push (.mapIter (some g) clk #[] clk) }) rfl rfl rfl rfl (v:=.pointer (some ⟨w.heap.size,0,none⟩)) ?_ ?_ ?_
  ·simp [execOp,ho,Instr.range,run_underlying ht,hv,getObj,Sem.run,hg]
  ·intro M' β' hk hβ
   exact ⟨g,es,clk,xG w _,(hk.map _ _ _ hg hm).1,(hk.map _ _ _ hg hm).2,vz,qP,fun k sN=>(ou k sN).mono hk hβ,fun k sN=>(nH k sN).mono hk hβ,hb,fun i hi=>by cases hi⟩
  ·intro M'
   exact .it (L:=⟨w.heap.size,0,0,0⟩) (tI _ _ _)
theorem X8 {es:Array MapEntry} {clk i:Nat} (h:iK es clk) (hi:i<es.size):es.find? (·.born==(es.getD i default).born)=some (es.getD i default):=by
 rw [Array.find?_eq_some_iff_getElem]
 have e:es.getD i default=es[i]:=by rw [aj,aB hi];rfl
 refine ⟨by simp,i,hi,e.symm,fun j hj=>?_⟩
 have ej:es.getD j default=es[j]:=by rw [aj,aB (by omega)];rfl
 simp only [bT,beq_eq_false_iff_ne,ne_eq]
 intro hb
 have:=h.2 j i (by omega) hi (by rw [ej];exact hb)
 omega
theorem X5 (hr:cF X base σ β w) {ρ:Operand→Value} {gU:Operand→ae} (dL:∀ x,bR w (MT X σ β) β (ρ x) (gU x)) {o:Oper} {x:Operand} (ho:o.op = .entry x) {r:ae} {σ':ai}
  (h:oo σ (gU x)=some (r,σ')):cO P X base σ β w nm (execOp ρ o) r σ':=by
 unfold oo at h
 split at h
 ·rename_i b e1
  have hx:=dL x
  rw [e1] at hx
  obtain ⟨L',hL,hv⟩:∃ L,β b=some L∧ρ x = .pointer (some ⟨L.g,0,none⟩):=by
   generalize ρ x=v at hx
   cases hx with | it h=>exact ⟨_,h,rfl⟩
  split at h
  ·rename_i ks vs seen hb
   split at h
   ·rename_i i hi
    cases h
    obtain ⟨L,h1,_,_,m,es,clk,h2,h3,h4,h5,h6,h7,h8,h9,ub⟩:=hr.cf b _ (jU hb)
    obtain rfl:=aM (h1.symm.trans hL)
    have sL:i∈seen:=List.mem_of_getLast? hi
    have zp:i<ks.length:=ub i sL
    have qK:(seen.map fun i=>(es.getD i default).born).toArray.back? = some (es.getD i default).born:=by
     rw [List.back?_toArray,List.getLast?_map,hi];rfl
    refine cO.val hr (v:=.tuple #[(es.getD i default).key,(es.getD i default).val]) ?_ ?_
    ·simp only [execOp,ho,Instr.entry,hv]
     have g1:(getObj L.g).run P w = .ok (.mapIter (some m) clk (seen.map fun i=>(es.getD i default).born).toArray clk) w:=by simp [getObj,Sem.run,h2]
     have g2:(getObj m).run P w = .ok (.map es clk) w:=by simp [getObj,Sem.run,h3]
     have zk:=X8 h9 (by omega:i<es.size)
     rw [aj] at zk
     simp [Sem.run_bind,g1,g2,hi,zk]
    ·refine .dy rfl fun k hk=>?_
     match k,hk with
     | 0,_=>exact h7 i zp
     | 1,_=>exact h8 i zp
   ·cases h
  ·cases h
 ·cases h
theorem Ylu (hr:cF X base σ β w) {ρ:Operand→Value} {gU:Operand→ae} (dL:∀ x,bR w (MT X σ β) β (ρ x) (gU x)) {o:Oper} {x:Operand} (ho:o.op = .next x true) {r:ae} {σ':ai}
  (h:m_ σ (gU x)=some (r,σ')):cO P X base σ β w nm (execOp ρ o) r σ':=by
 unfold m_ at h
 split at h
 ·rename_i b e1
  have hx:=dL x
  rw [e1] at hx
  obtain ⟨L',hL,hv⟩:∃ L,β b=some L∧ρ x = .pointer (some ⟨L.g,0,none⟩):=by
   generalize ρ x=v at hx
   cases hx with | it h=>exact ⟨_,h,rfl⟩
  split at h
  ·rename_i s pos hb
   obtain ⟨L,h1,h1b,h1x,h2⟩:=hr.cf b _ (jU hb)
   obtain rfl:=aM (h1.symm.trans hL)
   have hg:(getObj L.g).run P w = .ok (.stringIter s pos) w:=by
    have:w.heap[L.g]? = some (.stringIter s pos):=h2
    simp [getObj,Sem.run,this]
   split at h
   ·rename_i bD
    cases h
    have oR:L.g<w.heap.size:=(aL.1 h2).1
    refine Cl (kG:=.iter s (pos+(Utf8.decode s pos).2)) hr (jU hb) h1 (w':={ w with heap:=w.heap.setIfInBounds L.g (.stringIter s (pos+(Utf8.decode s pos).2)) }) rfl rfl rfl (by simp)
     (fun g hg=>by simp [bC,fY hg]) (fun _ _ _ hn=>absurd trivial hn) (fun hn=>absurd trivial (hn 0)) (fun _ _=>trivial) (v:=.tuple #[.bool true, .int .i64 pos, .int .i32 (Utf8.decode s pos).1]) (.inl ?_) (fun M' hk=>?_) (fun M' _=>?_)
    ·have uS:w.heap[L.g]? = some (.stringIter s pos):=h2
     simp [execOp,ho,Instr.next,hv,hg,bD,setObj,Sem.run,uS,goInt]
    ·show ({ w with heap:=w.heap.setIfInBounds L.g (.stringIter s (pos+(Utf8.decode s pos).2)) }:World).heap[L.g]? = _
     simp [bC,oR]
    ·exact .dy rfl fun j hj=>by
      match j,hj with
      | 0,_=>exact .bool _
      | 1,_=>exact .int _ _
      | 2,_=>exact .int _ _
   ·rename_i bD
    cases h
    refine cO.val hr (v:=.tuple #[.bool false]) ?_ (.dy rfl fun j hj=>by match j,hj with | 0,_=>exact .bool _)
    simp [execOp,ho,Instr.next,hv,hg,bD]
  ·cases h
 ·cases h
theorem Zpb (hr:cF X base σ β w) (hn : β nm=none) {ρ:Operand→Value} {gU:Operand→ae} (dL:∀ x,bR w (MT X σ β) β (ρ x) (gU x)) {o:Oper} {t:TypeId} {lo co:Operand} (ho:o.op = .makeSlice t lo co)
  {T:jH} (hT:bJ P t=some T) {r:ae} {σ':ai} (h:jP σ nm T (gU lo) (gU co)=some (r,σ')):cO P X base σ β w nm (execOp ρ o) r σ':=by
 unfold jP at h
 have hl:=dL lo
 have hc:=dL co
 split at h
 ·rename_i e l c hk he e1 e2
  rw [e1] at hl
  rw [e2] at hc
  split at h
  ·rename_i mA
   obtain ⟨h1,h2,h3,h4,h5,h6⟩:=mA
   cases h
   obtain ⟨et,ht,iS⟩:=tE hT hk
   rw [he] at iS
   obtain ⟨ti,_,z,qs,_,hz,hs,_,Ap,_⟩:=pW iS.symm
   obtain ⟨z',rH,_,rI,Jj,EK,_⟩:=Be (w:=w) (M:=MT X σ β) (β:=β) iS.symm
   obtain rfl:z=z':=by
    have:=Hl (P:=P) (w:=w) qs hz
    rw [rH] at this
    exact ((Result.ok.injEq _ _ _ _).mp this).1.symm
   have uh:(ti.bytes:Int)*c≤281474976710656:=by
    have:((ti.bytes:Nat):Int)*c≤65536*1000000000:=Int.mul_le_mul (by omega) h3 (by omega) (by omega)
    omega
   have eO:=run_make (P:=P) w t et ti z ht qs hz .i64 .i64 l c h1 h2 uh (by omega)
   refine zb hr hn (.row (List.replicate l.toNat (zeroV e)) 0) c.toNat e.sz (obj:=.cells (madeCells z.cells (c.toNat*ti.size)) et) (w':=w.alloc (.cells (madeCells z.cells (c.toNat*ti.size)) et)) rfl rfl rfl rfl (v:=.slice (some ⟨w.heap.size,0,none⟩) l.toNat c.toNat) ?_ ?_ ?_
   ·simp only [execOp,ho,hl.eg,hc.eg,Sem.run_bind,eO,Result.andThen_ok,Sem.run_pure]
   ·intro M' β' Ey hβ
    refine ⟨_,et,xG w _,?_,?_,fun i hi=>?_,fun i j hi hj=>?_⟩
    ·rw [size_madeCells,hs];simp
    ·simp only [bz];omega
    ·simp only [bz] at hi
     simp only [List.getD,c8,if_pos hi,br,Ht iS.symm];exact Jj
    ·simp only [bz] at hi
     simp only [bm] at hj ⊢
     have e3:(List.replicate l.toNat (zeroV e)).getD i ae.undef=zeroV e:=by simp only [List.getD,c8,if_pos hi,br]
     rw [e3,Ht iS.symm]
     have bD:i*e.sz+j<c.toNat*ti.size:=by
      have:(i+1)*e.sz≤c.toNat*e.sz:=aW _ (by omega)
      rw [bH,dv] at this;rw [hs];omega
     have e4:(madeCells z.cells (c.toNat*ti.size)).getD (i*e.sz+j) undef=z.cells.getD j undef:=by
      have rF:j<z.cells.size:=by omega
      simp only [madeCells,aj,eo,Array.getElem?_range,if_pos bD,bw,br]
      have e5:(i*e.sz+j) % z.cells.size=j:=by rw [rI];exact (II hj).2
      rw [aB rF,br,getElem!_pos z.cells _ (by rw [e5];exact rF)]
      simp only [e5]
     rw [e4]
     exact (EK j hj).mono Ey hβ
   ·intro M'
    have:=bR.os (w:=w.alloc (.cells (madeCells z.cells (c.toNat*ti.size)) et)) (M:=M') (β:=o7 β nm ⟨w.heap.size,0,c.toNat,e.sz⟩) (b:=nm) (off:=0) (len:=l.toNat) (cap:=c.toNat) (L:=⟨w.heap.size,0,c.toNat,e.sz⟩) (tI _ _ _) (by omega) (by simp)
    simpa using this
  ·cases h
 ·cases h
theorem Ul {a b:ByteArray} (h:(a.toList==b.toList)=true):a=b:=by
 have h1:a.toList=b.toList:=by simpa using h
 rw [ByteArray.toList_eq,ByteArray.toList_eq] at h1
 apply ByteArray.ext
 exact dN.1 h1
theorem UG (k:ae):∀ (ks:List ae) (i j:Nat),e8 k ks i=some j→fb k (ks.getD (j - i) .undef)=true
 | [],_,_,h=>by simp [e8] at h
 | x :: xs,i,j,h=>by
  simp only [e8] at h
  split at h
  ·rename_i he;cases h;simpa using he
  ·have h1:=Fh k xs (i+1) j h
   have h2:=UG k xs (i+1) j h
   rw [show j - i=(j - (i+1))+1 by omega,bB];exact h2
theorem P5 (hr:cF X base σ β w) {ρ:Operand→Value} {gU:Operand→ae} (dL:∀ x,bR w (MT X σ β) β (ρ x) (gU x)) {o:Oper} {t:TypeId} {m k v:Operand} (ho:execOp ρ o=(do Instr.mapUpdate t (ρ m) (ρ k) (ρ v);pure .skip))
  {T:jH} (hT:bJ P t=some T) {σ':ai} (h:gk σ T (gU m) (gU k) (gU v)=some σ'):cO P X base σ β w nm (execOp ρ o) .undef σ':=by
 unfold gk at h
 have hm:=dL m
 have tu:=dL k
 have VM:=dL v
 split at h
 ·rename_i e b hk he e1
  rw [e1] at hm
  split at h
  ·rename_i ks vs hb
   split at h
   ·rename_i mA
    cases h
    simp only [aD,decide_eq_true_eq] at mA
    obtain ⟨⟨M3,eX⟩,_⟩:=mA
    obtain ⟨kt,et,u,h1,h2,h3,h4⟩:=QF hT hk M3
    obtain ⟨L,h5,ug,hX,es,clk,h6,hn,hv,ou,nH,qM⟩:=hr.cf _ _ (jU hb)
    obtain ⟨L',hL,VB⟩:∃ L,β b=some L∧ρ m = .map (some L.g):=by
     generalize ρ m=vm at hm
     cases hm with | map h=>exact ⟨_,h,rfl⟩
    obtain rfl:=aM (h5.symm.trans hL)
    have vu:(getObj L.g).run P w = .ok (.map es clk) w:=by simp [getObj,Sem.run,h6]
    have rE:=Qj (P:=P) (w:=w) h3 (by rcases h4 with ⟨ik,_,h,_⟩ | ⟨_,h,_⟩;exact .inl ⟨ik,h⟩;exact .inr h) false 9999 (ρ k)
    have eH:∀ j,es.toList.getD j default=es.getD j default:=fun j=>by simp [List.getD,aj]
    have Bz:=Zip h4 tu es.toList ks 0 (by simpa using hn) (fun j hj=>by rw [eH];exact ou j hj) (by simpa using eX)
    have vt:(Instr.findKey kt (ρ k) es.toList).run P w = .ok ((e8 (gU k) ks 0).map fun j=>(j,(es.getD j default).val)) w:=by
     simp only [Instr.findKey,Sem.run_bind,run_underlying h3,Result.andThen_ok,Bz,gE,eH]
     rfl
    have oR:L.g<w.heap.size:=(aL.1 h6).1
    have fin:∀ (pX:Array MapEntry) (wM:Nat) (uX s_:List ae),(execOp ρ o).run P w = .ok .skip { w with heap:=w.heap.setIfInBounds L.g (.map pX wM) }→pX.size=uX.length→s_.length=uX.length →
      (∀ j,j<uX.length→bR w (MT X σ β) β (pX.getD j default).key (uX.getD j .undef))→(∀ j,j<uX.length→bR w (MT X σ β) β (pX.getD j default).val (s_.getD j .undef))→iK pX wM →
      cO P X base σ β w nm (execOp ρ o) .undef (b_ σ b (.map uX s_ false)):=by
     intro pX wM uX s_ eO q1 q2 q3 q4 q5
     refine Cl (kG:=.map uX s_ false) hr (jU hb) h5 (w':={ w with heap:=w.heap.setIfInBounds L.g (.map pX wM) }) rfl rfl rfl (by simp)
      (fun g hg=>by simp [bC,fY hg]) (fun _ _ _ hn=>absurd rfl hn) (fun hn=>absurd rfl (hn 0)) (fun _ _=>rfl) (.inr ⟨eO,rfl⟩) (fun M' Ey=>?_) (fun M' _=>.undef _)
     refine ⟨pX,wM,?_,q1,q2,fun j hj=>(q3 j hj).mono Ey fun _ _ h=>h,fun j hj=>(q4 j hj).mono Ey fun _ _ h=>h,q5⟩
     show ({ w with heap:=w.heap.setIfInBounds L.g (.map pX wM) }:World).heap[L.g]? = _
     simp [bC,oR]
    have h_:∀ ob,(setObj L.g ob).run P w = .ok () { w with heap:=w.heap.setIfInBounds L.g ob }:=fun ob=>by simp [setObj,Sem.run,h6]
    unfold iM
    cases hf:e8 (gU k) ks 0 with
    | none =>
     rw [hf] at vt
     refine fin (es.push { key:=ρ k,val:=ρ v,born:=clk }) (clk+1) _ _ ?_ (by simp [hn]) (by simp [hv]) (fun j hj=>?_) (fun j hj=>?_) (Y7 qM _ _)
     ·simp only [ho,Instr.mapUpdate,Sem.run_bind,run_underlying h1,Result.andThen_ok,VB,vu]
      rw [show (10000:Nat)=9999+1 from rfl,rE]
      simp only [Result.andThen_ok,vt,j7,h_,Sem.run_pure]
     ·simp only [ay,di] at hj
      rw [ta,aj,fv]
      by_cases e2:j=es.size
      ·rw [if_pos e2,if_neg (by omega)]
       rw [show j - ks.length=0 by omega];exact tu
      ·rw [if_neg e2,if_pos (by omega),← aj];exact ou j (by omega)
     ·simp only [ay,di] at hj
      rw [ta,aj,fv]
      by_cases e2:j=es.size
      ·rw [if_pos e2,if_neg (by omega)]
       rw [show j - vs.length=0 by omega];exact VM
      ·rw [if_neg e2,if_pos (by omega),← aj];exact nH j (by omega)
    | some i =>
     rw [hf] at vt
     have zp:=(Fh _ _ _ _ hf).2
     have heq:=UG _ _ _ _ hf
     simp only [gE] at zp heq
     have C5:(es.getD i default).key = ρ k:=by
      have h7:=ou i zp
      rcases h4 with ⟨ik,n,_,e2⟩ | ⟨s,_,e2⟩
      ·rw [e2] at tu heq
       have zt:=bp.1 eX (ks.getD i .undef) (by simp only [List.getD,aA zp,br];exact aF zp)
       rw [e2] at zt
       cases M0:ks.getD i .undef<;>rw [M0] at heq zt h7<;>simp only [fb,sameKind,a8,beq_iff_eq] at heq zt
       rw [h7.eg,tu.eg,heq,zt]
      ·rw [e2] at tu heq
       cases M0:ks.getD i .undef<;>rw [M0] at heq h7<;>simp only [fb,a8] at heq
       rw [h7.gw,tu.gw]
       rw [Ul heq]
     have tx:Instr.sameBits 10000 (ρ k) (ρ k)=true:=by
      rcases h4 with ⟨ik,n,_,e2⟩ | ⟨s,_,e2⟩<;>rw [e2] at tu
      ·rw [tu.eg];simp [Instr.sameBits]
      ·rw [tu.gw];simp [Instr.sameBits,beq_toListBytes]
     have oB:i<es.size:=by omega
     have Gj:(((es[i]?).map (·.key)).getD (ρ k)) = ρ k:=by
      rw [aB oB]
      rw [aj,aB oB] at C5
      exact C5
     refine fin (es.modify i fun e=>{ e with key:=ρ k,val:=ρ v }) clk _ _ ?_ (by simp [hn]) (by simp [hv]) (fun j hj=>?_) (fun j hj=>?_) (Zu6 qM _ _ _)
     ·simp only [ho,Instr.mapUpdate,Sem.run_bind,run_underlying h1,Result.andThen_ok,VB,vu]
      rw [show (10000:Nat)=9999+1 from rfl,rE]
      simp only [Result.andThen_ok,vt,bw,Sem.run_bind,Gj,Instr.keyThatStays,tx,if_true,h_,Sem.run_pure]
     ·rw [aj,iJ]
      by_cases e2:i=j
      ·subst e2
       rw [if_pos rfl,aB oB]
       have:=ou i hj
       rw [C5] at this;exact this
      ·rw [if_neg e2,← aj];exact ou j hj
     ·rw [aj,iJ]
      by_cases e2:i=j
      ·subst e2
       rw [if_pos rfl,aB oB,EU _ _ _ (by omega)]
       exact VM
      ·rw [if_neg e2,← aj,getD_set_ne _ _ _ _ e2];exact nH j hj
   ·cases h
  ·cases h
 ·cases h
theorem Sq (hr:cF X base σ β w) (hn : β nm=none) {ρ:Operand→Value} {gU:Operand→ae} (dL:∀ x,bR w (MT X σ β) β (ρ x) (gU x)) (MG:∀ v,ρ (.const v)=v) {o:Oper} {r:ae} {σ':ai} (h:cY P σ nm gU o.op=some (r,σ')) :
  cO P X base σ β w nm (execOp ρ o) r σ':=by
 have BD:=YD hr hn
 have mp:∀ {x:Option ae} (_:x.map (·,σ)=some (r,σ')),x=some r∧σ = σ':=by
  intro x hx
  obtain ⟨a,h1,h2⟩:=aG.1 hx
  simp only [bu] at h2
  exact ⟨by rw [h1,h2.1],h2.2⟩
 cases ho:o.op with
 | move x =>
  rw [ho] at h;simp only [cY,aE,bu] at h
  obtain ⟨rfl,rfl⟩:=h
  exact cO.val hr (by simp [execOp,ho]) (dL x)
 | assign x =>
  rw [ho] at h;simp only [cY,aE,bu] at h
  obtain ⟨rfl,rfl⟩:=h
  exact cO.val hr (by simp [execOp,ho]) (dL x)
 | pick c a b =>
  rw [ho] at h;simp only [cY] at h
  obtain ⟨h1,rfl⟩:=mp h
  exact ZJ hr dL ho h1
 | alloc t =>
  rw [ho] at h;simp only [cY] at h
  obtain ⟨l,hl,h1⟩:=ax.1 h
  simp only [aE,bu] at h1
  obtain ⟨rfl,rfl⟩:=h1
  exact Yc hr hn ho hl
 | box t x =>
  rw [ho] at h;simp only [cY] at h
  obtain ⟨l,hl,h1⟩:=ax.1 h
  split at h1
  ·rename_i hc
   simp only [aE,bu] at h1
   obtain ⟨rfl,rfl⟩:=h1
   exact Yoi hr hn dL ho hc.2
  ·cases h1
 | build t parts =>
  rw [ho] at h;simp only [cY] at h
  obtain ⟨T,hT,h1⟩:=ax.1 h
  obtain ⟨h2,rfl⟩:=mp h1
  obtain ⟨v,h3,h4⟩:=Wu hT dL h2
  exact cO.val hr (v:=v) (by simp only [execOp,ho,Sem.run_bind,h3,Result.andThen_ok,Sem.run_pure]) h4
 | buildSlice t n parts =>
  rw [ho] at h;simp only [cY] at h
  obtain ⟨T,hT,h1⟩:=ax.1 h
  obtain ⟨e,he,h2⟩:=ax.1 h1
  obtain ⟨es,oB,h3⟩:=ax.1 h2
  split at h3
  ·rename_i hc
   simp only [aE,bu] at h3
   obtain ⟨rfl,rfl⟩:=h3
   exact Zmc hr hn dL ho hT he oB hc.1 hc.2.1 hc.2.2.1 hc.2.2.2.2
  ·cases h3
 | load t x =>
  rw [ho] at h;simp only [cY] at h
  obtain ⟨l,hl,h1⟩:=ax.1 h
  obtain ⟨h2,rfl⟩:=mp h1
  exact Yiu hr dL ho hl h2
 | store t x v =>
  rw [ho] at h;simp only [cY] at h
  obtain ⟨l,hl,h1⟩:=ax.1 h
  obtain ⟨s,h2,h3⟩:=aG.1 h1
  simp only [bu] at h3
  obtain ⟨rfl,rfl⟩:=h3
  exact XT hr dL ho hl h2
 | nilCheck x =>
  rw [ho] at h;simp only [cY] at h
  have hx:=dL x
  split at h
  ·rename_i b of e1
   simp only [aE,bu] at h
   obtain ⟨rfl,rfl⟩:=h
   rw [e1] at hx
   obtain ⟨L,hL,hv⟩:=hx.wy
   exact cO.val hr (v:=ρ x) (by simp [execOp,ho,hv]) hx
  ·rename_i b i f e1
   simp only [aE,bu] at h
   obtain ⟨rfl,rfl⟩:=h
   rw [e1] at hx
   obtain ⟨L,hL,hv⟩:=hx.yR
   exact cO.val hr (v:=ρ x) (by simp [execOp,ho,hv]) hx
  ·rename_i cs e1
   simp only [aE,bu] at h
   obtain ⟨rfl,rfl⟩:=h
   rw [e1] at hx
   obtain ⟨a,hv⟩:∃ a,ρ x = .pointer (some a):=by
    generalize ρ x=v at hx
    cases hx;exact ⟨_,rfl⟩
   exact cO.val hr (v:=ρ x) (by simp [execOp,ho,hv]) hx
  ·rename_i f a c e1
   simp only [aE,bu] at h
   obtain ⟨rfl,rfl⟩:=h
   rw [e1] at hx
   obtain ⟨fa,ca,hv⟩:∃ fa ca,ρ x = .func (.func f) fa ca:=by
    generalize ρ x=v at hx
    cases hx;exact ⟨_,_,rfl⟩
   exact cO.val hr (v:=ρ x) (by simp [execOp,ho,hv]) hx
  ·cases h
 | binOp op t x y u =>
  rw [ho] at h;simp only [cY] at h
  obtain ⟨h1,rfl⟩:=mp h
  obtain ⟨v,h2,h3⟩:∃ v,(do eqGuard op t x y (ρ x) (ρ y);_root_.Go.binOp op t (ρ x) (ρ y):Sem Value).run P w = .ok v w∧bR w (MT X σ β) β v r:=by
   unfold xL at h1
   split at h1
   ·rename_i AE
    have nK : ρ y = .slice none 0 0:=by rw [Xo AE];exact MG _
    rw [nK];exact ZU (dL x) h1 x y
   ·exact ZW (dL x) (dL y) h1 x y
  refine cO.val hr (v:=v) ?_ h3
  simp only [Sem.run_bind] at h2
  simp only [execOp,ho,Sem.run_bind,h2,Result.andThen_ok,Sem.run_pure]
 | unOp op t x =>
  rw [ho] at h;simp only [cY] at h
  obtain ⟨h1,rfl⟩:=mp h
  obtain ⟨v,h2,h3⟩:=Ysh (P:=P) (dL x) h1
  exact cO.val hr (v:=v) (by simp only [execOp,ho,Sem.run_bind,h2,Result.andThen_ok,Sem.run_pure]) h3
 | convert s d x =>
  rw [ho] at h;simp only [cY] at h
  obtain ⟨h1,rfl⟩:=mp h
  obtain ⟨v,h2,h3⟩:=Zrd (P:=P) (dL x) h1
  exact cO.val hr (v:=v) (by simp only [execOp,ho,Sem.run_bind,h2,Result.andThen_ok,Sem.run_pure]) h3
 | makeInterface t x =>
  rw [ho] at h;simp only [cY] at h
  split at h
  ·cases h
  ·rename_i k dX hk
   simp only [aE,bu] at h
   obtain ⟨rfl,rfl⟩:=h
   obtain ⟨i,u,h1,h2,h3⟩:=xe hk
   have:P.concrete t=true:=by
    have Ni:∀ ms,u≠.interface ms:=by rintro ms rfl;exact dX (by rw [← h3];rfl)
    simp only [Program.concrete,h2]
    cases u<;>first | rfl | exact absurd rfl (Ni _)
   exact cO.val hr (v:=.iface t (ρ x)) (by simp only [execOp,ho,Sem.run_bind,run_makeInterface w t (ρ x) this,Result.andThen_ok,Sem.run_pure]) (.iface (dL x))
  ·cases h
 | makeFunc fn first captured =>
  rw [ho] at h
  cases fn with
  | func f =>
   simp only [cY,aE,bu] at h
   obtain ⟨rfl,rfl⟩:=h
   refine cO.val hr (v:=.func (.func f) (first.map ρ) (captured.map ρ)) (by simp [execOp,ho,Instr.makeFunc]) (.fn (by simp) (by simp) (fun k hk=>?_) (fun k hk=>?_))
   ·simp only [ao,bA] at hk
    rw [aj,eo,aB hk]
    simp only [List.getD,cd,fX,aB hk,bw,br]
    exact dL _
   ·simp only [ao,bA] at hk
    rw [aj,eo,aB hk]
    simp only [List.getD,cd,fX,aB hk,bw,br]
    exact dL _
  | _=>simp [cY] at h
 | makeMap t r' =>
  rw [ho] at h
  cases r' with
  | none =>
   simp only [cY,aE,bu] at h
   obtain ⟨rfl,rfl⟩:=h
   exact Ztw hr hn ho
  | some _=>simp [cY] at h
 | makeSlice t l c =>
  rw [ho] at h;simp only [cY] at h
  obtain ⟨T,hT,h1⟩:=ax.1 h
  exact Zpb hr hn dL ho hT h1
 | slice t x lo hi mx =>
  rw [ho] at h;simp only [cY] at h
  obtain ⟨T,hT,h1⟩:=ax.1 h
  obtain ⟨h2,rfl⟩:=mp h1
  obtain ⟨v,h3,h4⟩:=Zyy hT (dL x) (LL dL lo) (LL dL hi) (LL dL mx) h2
  exact cO.val hr (v:=v) (by simp only [execOp,ho,Sem.run_bind,h3,Result.andThen_ok,Sem.run_pure]) h4
 | fieldAddr t x i =>
  rw [ho] at h;simp only [cY] at h
  obtain ⟨T,hT,h1⟩:=ax.1 h
  obtain ⟨h2,rfl⟩:=mp h1
  obtain ⟨v,h3,h4⟩:=Zmb hT (dL x) h2
  exact cO.val hr (v:=v) (by simp only [execOp,ho,Sem.run_bind,h3,Result.andThen_ok,Sem.run_pure]) h4
 | field t x i =>
  rw [ho] at h;simp only [cY] at h
  obtain ⟨T,hT,h1⟩:=ax.1 h
  obtain ⟨h2,rfl⟩:=mp h1
  obtain ⟨v,h3,h4⟩:=W2 hT (dL x) h2
  exact cO.val hr (v:=v) (by simp only [execOp,ho,Sem.run_bind,h3,Result.andThen_ok,Sem.run_pure]) h4
 | indexAddr t x i =>
  rw [ho] at h;simp only [cY] at h
  obtain ⟨T,hT,h1⟩:=ax.1 h
  obtain ⟨h2,rfl⟩:=mp h1
  obtain ⟨v,h3,h4⟩:=Zmd hT (dL x) (dL i) h2
  exact cO.val hr (v:=v) (by simp only [execOp,ho,Sem.run_bind,h3,Result.andThen_ok,Sem.run_pure]) h4
 | index t x i =>
  rw [ho] at h;simp only [cY] at h
  obtain ⟨T,hT,h1⟩:=ax.1 h
  obtain ⟨h2,rfl⟩:=mp h1
  obtain ⟨v,h3,h4⟩:=Zzk hT (dL x) (dL i) h2
  exact cO.val hr (v:=v) (by simp only [execOp,ho,Sem.run_bind,h3,Result.andThen_ok,Sem.run_pure]) h4
 | lookup t x i ok =>
  rw [ho] at h;simp only [cY] at h
  obtain ⟨T,hT,h1⟩:=ax.1 h
  obtain ⟨h2,rfl⟩:=mp h1
  obtain ⟨v,h3,h4⟩:=Zvh hr hT (dL x) (dL i) h2
  exact cO.val hr (v:=v) (by simp only [execOp,ho,Sem.run_bind,h3,Result.andThen_ok,Sem.run_pure]) h4
 | mapUpdate t m k v =>
  rw [ho] at h;simp only [cY] at h
  obtain ⟨T,hT,h1⟩:=ax.1 h
  obtain ⟨s,h2,h3⟩:=aG.1 h1
  simp only [bu] at h3
  obtain ⟨rfl,rfl⟩:=h3
  exact P5 hr dL (by simp only [execOp,ho]) hT h2
 | insert t m k v =>
  rw [ho] at h;simp only [cY] at h
  obtain ⟨T,hT,h1⟩:=ax.1 h
  obtain ⟨s,h2,h3⟩:=aG.1 h1
  simp only [bu] at h3
  obtain ⟨rfl,rfl⟩:=h3
  exact P5 hr dL (by simp only [execOp,ho]) hT h2
 | range t x =>
  rw [ho] at h;simp only [cY] at h
  obtain ⟨T,hT,h1⟩:=ax.1 h
  split at h1
  ·rename_i s e1 e2
   simp only [aE,bu] at h1
   obtain ⟨rfl,rfl⟩:=h1
   obtain ⟨u,h2,h3,h4,_⟩:=tH hT
   have hx:=dL x
   rw [e2] at hx
   exact XS hr hn ho (by rw [h3,zR (h4.trans e1)]) hx.gw
  ·rename_i ks vs e1 e2
   simp only [aE,bu] at h1
   obtain ⟨rfl,rfl⟩:=h1
   obtain ⟨u,h2,h3,h4,_⟩:=tH hT
   have hx:=dL x
   rw [e2] at hx
   obtain ⟨kt,et,hu⟩:=D_ (h4.trans e1)
   exact Zz3 hr hn ho (by rw [h3,hu]) hx
  ·cases h1
 | entry x =>
  rw [ho] at h;simp only [cY] at h
  exact X5 hr dL ho h
 | next x s =>
  rw [ho] at h
  cases s with
  | true=>exact Ylu hr dL ho h
  | false=>simp [cY] at h
 | typeAssert x t u ok =>
  rw [ho] at h;simp only [cY] at h
  obtain ⟨h2,rfl⟩:=mp h
  obtain ⟨v,h3,h4⟩:=Zkq (xt:=t) (dL x) h2
  exact cO.val hr (v:=v) (by simp only [execOp,ho,Sem.run_bind,h3,Result.andThen_ok,Sem.run_pure]) h4
 | extract x i =>
  rw [ho] at h;simp only [cY] at h
  split at h
  ·rename_i vs e1
   obtain ⟨h2,rfl⟩:=mp h
   have hx:=dL x
   rw [e1] at hx
   obtain ⟨v,h3,h4⟩:=Zsy (P:=P) hx h2
   exact cO.val hr (v:=v) (by simp only [execOp,ho,Sem.run_bind,h3,Result.andThen_ok,Sem.run_pure]) h4
  ·cases h
 | call c =>
  rw [ho] at h
  obtain ⟨callee,args,argTypes⟩:=c
  cases callee with
  | builtin b =>
   simp only [cY] at h
   have Gf:execOp ρ o=(builtin b argTypes o.type (args.map fun | .const _=>true | _=>false) (args.map ρ)):=by
    simp only [execOp,ho,resolve]
    rfl
   rw [Gf]
   have qI:(args.map ρ).toList=args.toList.map ρ:=by simp
   unfold e7 at h
   split at h
   ·rename_i t x e1 e2
    have ht:argTypes = #[t]:=dN.1 (by rw [e1])
    obtain ⟨T,hT,h1⟩:=ax.1 h
    obtain ⟨y,hy,wk⟩:∃ y,args.toList=[y]∧gU y=x:=by
     cases l9:args.toList with
     | nil=>rw [l9] at e2;simp at e2
     | cons y ys=>rw [l9] at e2;simp at e2;obtain ⟨q1,q2⟩:=e2;exact ⟨y,by rw [q2],q1⟩
    have uf:args.map ρ = #[ρ y]:=dN.1 (by rw [qI,hy];rfl)
    rw [ht,uf]
    have hx:=dL y
    rw [wk] at hx
    split at h1
    ·rename_i n hk
     simp only [aE,bu] at h1
     obtain ⟨rfl,rfl⟩:=h1
     obtain ⟨u,h2,h3,h4,_⟩:=tH hT
     obtain ⟨et,rfl⟩:=HE (h4.trans hk)
     refine cO.val hr (v:=.int .i64 n) ?_ (.int _ _)
     simp only [builtin,Builtin.len_,Sem.run_bind,Sem.run_pure,Result.andThen_ok]
     simp [run_underlying h3,goInt]
    ·rename_i hk
     obtain ⟨n,h2,h3⟩:=aG.1 h1
     simp only [bu] at h3
     obtain ⟨rfl,rfl⟩:=h3
     refine cO.val hr (v:=.int .i64 n) ?_ (.int _ _)
     simp only [builtin,Sem.run_bind,Lb hr hT (.inl hk) hx h2 o.type,Result.andThen_ok,Sem.run_pure]
    ·rename_i hk
     obtain ⟨n,h2,h3⟩:=aG.1 h1
     simp only [bu] at h3
     obtain ⟨rfl,rfl⟩:=h3
     refine cO.val hr (v:=.int .i64 n) ?_ (.int _ _)
     simp only [builtin,Sem.run_bind,Lb hr hT (.inr (.inl hk)) hx h2 o.type,Result.andThen_ok,Sem.run_pure]
    ·rename_i hk
     obtain ⟨n,h2,h3⟩:=aG.1 h1
     simp only [bu] at h3
     obtain ⟨rfl,rfl⟩:=h3
     refine cO.val hr (v:=.int .i64 n) ?_ (.int _ _)
     simp only [builtin,Sem.run_bind,Lb hr hT (.inr (.inr hk)) hx h2 o.type,Result.andThen_ok,Sem.run_pure]
    ·cases h1
   ·rename_i t u s x e1 e2
    have ht:argTypes = #[t,u]:=dN.1 (by rw [e1])
    obtain ⟨T,hT,h1⟩:=ax.1 h
    obtain ⟨U,hU,h2⟩:=ax.1 h1
    obtain ⟨y,z,hy,wk,NQ⟩:∃ y z,args.toList=[y,z]∧gU y=s∧gU z=x:=by
     cases l9:args.toList with
     | nil=>rw [l9] at e2;simp at e2
     | cons y ys =>
      cases ys with
      | nil=>rw [l9] at e2;simp at e2
      | cons z zs=>rw [l9] at e2;simp at e2;obtain ⟨q1,q2,q3⟩:=e2;exact ⟨y,z,by rw [q3],q1,q2⟩
    have uf:args.map ρ = #[ρ y,ρ z]:=dN.1 (by rw [qI,hy];rfl)
    rw [ht,uf]
    have hs:=dL y
    rw [wk] at hs
    have hx:=dL z
    rw [NQ] at hx
    split at h2
    ·rename_i e hk he qP
     obtain ⟨et,wZ,iS⟩:=tE hT hk
     rw [he] at iS
     obtain ⟨eu,uV,_⟩:=tE hU qP
     obtain ⟨xs,wj,h3⟩:=ax.1 h2
     obtain ⟨news,nJ⟩:=HB (P:=P) hr hx wj
     exact JY hr hn BD iS.symm hs nJ.N_ h3 o.type (.yL wZ uV (.inl ⟨_,rfl⟩) iS.symm nJ) rfl
    ·rename_i e hk he qP
     obtain ⟨et,wZ,iS⟩:=tE hT hk
     rw [he] at iS
     obtain ⟨u',h4,h5,h6,_⟩:=tH hU
     obtain rfl:=zR (h6.trans qP)
     split at h2
     ·rename_i y'
      rw [hx.gw]
      split at h2
      ·rename_i h1z
       obtain ⟨news,nJ⟩:∃ news,Src P w (MT X σ β) β e.sz (.string y') (bytesOf y') news:=⟨_,by rw [h1z];exact Xv⟩
       exact JY hr hn BD iS.symm hs nJ.N_ h2 o.type (.yL wZ h5 (.inr rfl) iS.symm nJ) rfl
      ·cases h2
     ·cases h2
    ·rename_i e k' hk he qP
     obtain ⟨et,wZ,iS⟩:=tE hT hk
     rw [he] at iS
     obtain ⟨u',h4,h5,h6,_⟩:=tH hU
     obtain rfl:=H9 (h6.trans qP)
     obtain ⟨i,_,z,hi,_,hz,_⟩:=pW iS.symm
     split at h2
     ·rename_i n'
      split at h2
      ·rename_i hc
       have I7 : 0<e.sz∧e.bytes≤65536:=Zzc h2
       have hxx:=hx.eg
       rw [hxx]
       exact JY hr hn BD iS.symm hs (RB iS.symm _ hi hz) h2 o.type (by simpa using mJ.yM wZ h5 iS.symm I7.1 I7.2 hc.1 hc.2.1 hc.2.2 hi hz) rfl
      ·cases h2
     ·cases h2
    ·cases h2
   ·rename_i t x e1 e2
    have ht:argTypes = #[t]:=dN.1 (by rw [e1])
    obtain ⟨T,hT,h1⟩:=ax.1 h
    obtain ⟨y,hy,wk⟩:∃ y,args.toList=[y]∧gU y=x:=by
     cases l9:args.toList with
     | nil=>rw [l9] at e2;simp at e2
     | cons y ys=>rw [l9] at e2;simp at e2;obtain ⟨q1,q2⟩:=e2;exact ⟨y,by rw [q2],q1⟩
    have uf:args.map ρ = #[ρ y]:=dN.1 (by rw [qI,hy];rfl)
    rw [ht,uf]
    have hx:=dL y
    rw [wk] at hx
    split at h1
    ·rename_i hk
     obtain ⟨et,wZ,iS⟩:=tE hT hk
     obtain ⟨n,h2,h3⟩:=aG.1 h1
     cases h3
     refine cO.val hr (v:=.int .i64 n) ?_ (.int _ _)
     obtain ⟨a,m,hv⟩:=ZQ hx h2
     rw [hv]
     simp [builtin,Builtin.cap_,run_underlying wZ,goInt]
    ·cases h1
   ·rename_i t x e1 e2
    have ht:argTypes = #[t]:=dN.1 (by rw [e1])
    obtain ⟨T,hT,h1⟩:=ax.1 h
    obtain ⟨y,hy,wk⟩:∃ y,args.toList=[y]∧gU y=x:=by
     cases l9:args.toList with
     | nil=>rw [l9] at e2;simp at e2
     | cons y ys=>rw [l9] at e2;simp at e2;obtain ⟨q1,q2⟩:=e2;exact ⟨y,by rw [q2],q1⟩
    have uf:args.map ρ = #[ρ y]:=dN.1 (by rw [qI,hy];rfl)
    rw [ht,uf]
    have hx:=dL y
    rw [wk] at hx
    split at h1
    ·rename_i e hk he
     obtain ⟨et,wZ,iS⟩:=tE hT hk
     rw [he] at iS
     obtain ⟨n,h2,h3⟩:=ax.1 h1
     exact YA hr wZ iS.symm hx h2 h3 o.type rfl
    ·cases h1
   ·rename_i t u s x e1 e2
    have ht:argTypes = #[t,u]:=dN.1 (by rw [e1])
    obtain ⟨T,hT,h1⟩:=ax.1 h
    obtain ⟨U,hU,h2⟩:=ax.1 h1
    obtain ⟨y,z,hy,wk,NQ⟩:∃ y z,args.toList=[y,z]∧gU y=s∧gU z=x:=by
     cases l9:args.toList with
     | nil=>rw [l9] at e2;simp at e2
     | cons y ys =>
      cases ys with
      | nil=>rw [l9] at e2;simp at e2
      | cons z zs=>rw [l9] at e2;simp at e2;obtain ⟨q1,q2,q3⟩:=e2;exact ⟨y,z,by rw [q3],q1,q2⟩
    have uf:args.map ρ = #[ρ y,ρ z]:=dN.1 (by rw [qI,hy];rfl)
    rw [ht,uf]
    have hs:=dL y
    rw [wk] at hs
    have hx:=dL z
    rw [NQ] at hx
    split at h2
    ·rename_i e hk he qP
     obtain ⟨et,wZ,iS⟩:=tE hT hk
     rw [he] at iS
     obtain ⟨n,h3,h4⟩:=ax.1 h2
     obtain ⟨xs,h5,h6⟩:=ax.1 h4
     exact Ymr hr wZ iS.symm hs hx h3 h5 h6 o.type rfl
    ·cases h2
   ·rename_i ts x rest e2
    obtain ⟨h2,rfl⟩:=mp h
    obtain ⟨y,ys,hy,wk,BQ⟩:∃ y ys,args.toList=y :: ys∧gU y=x∧ys.map gU=rest:=by
     cases l9:args.toList with
     | nil=>rw [l9] at e2;simp at e2
     | cons y ys=>rw [l9] at e2;simp at e2;exact ⟨y,ys,rfl,e2.1,e2.2⟩
    subst wk;subst BQ
    obtain ⟨v,h3,h4⟩:=T4 (P:=P) (ys.map ρ) (ys.map gU) (ρ y) (gU y) r (by simp) (fun k hk=>by
     simp only [ao] at hk
     simp only [List.getD,cd,aA hk,bw,br];exact dL _) (dL y) h2
    refine cO.val hr (v:=v) ?_ h4
    simp only [builtin,Builtin.max_,qI,hy,aI,Sem.run_bind,h3,Result.andThen_ok,Sem.run_pure]
   ·rename_i ts x rest e2
    obtain ⟨h2,rfl⟩:=mp h
    obtain ⟨y,ys,hy,wk,BQ⟩:∃ y ys,args.toList=y :: ys∧gU y=x∧ys.map gU=rest:=by
     cases l9:args.toList with
     | nil=>rw [l9] at e2;simp at e2
     | cons y ys=>rw [l9] at e2;simp at e2;exact ⟨y,ys,rfl,e2.1,e2.2⟩
    subst wk;subst BQ
    obtain ⟨v,h3,h4⟩:=UH (P:=P) (ys.map ρ) (ys.map gU) (ρ y) (gU y) r (by simp) (fun k hk=>by
     simp only [ao] at hk
     simp only [List.getD,cd,aA hk,bw,br];exact dL _) (dL y) h2
    refine cO.val hr (v:=v) ?_ h4
    simp only [builtin,Builtin.min_,qI,hy,aI,Sem.run_bind,h3,Result.andThen_ok,Sem.run_pure]
   ·cases h
  | _=>simp [cY] at h
 | _=>rw [ho] at h;simp [cY] at h
end
end Go.cV
