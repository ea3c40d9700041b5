/- Part 9 of what the claim rests on. -/
import Derived.Test.YtfjbdamcmiglgaaGreatOwn8
set_option linter.all false
abbrev fQ:=@Array.getElem?_toList
abbrev eN:=@Array.toList_inj
abbrev ao:=@List.length_map
abbrev lz:=@Option.map_none
namespace Go.dq
open Go
section
variable {P:Program}{X:Nat->Nat->Prop}{base:Nat}{σ:av}{β:Env}{w:World}{nm:Nat}{M:Nat->Nat->Prop}
theorem Yi4 (hr:c8 X base σ β w) (hn : β nm=none):bW σ nm=none:=by
 cases h:bW σ nm with
 |none=>rfl
 |some cG =>
  obtain⟨L,h1,_⟩:=hr.cG nm cG (la h);rw[hn]at h1;cases h1
theorem Zw9 (hr:c8 X base σ β w) (hn : β nm=none) {ρ:Operand->Value} {o:Oper} {t:TypeId} (ho:o.op=.makeMap t none) :
  dh P X base σ β w nm (execOp ρ o) (.map nm) (cJ σ nm (.map [] [] false)):=by
 refine BS hr hn (.map [] [] false) 0 0 (obj:=.map #[] 0) (w':={ w with heap:=w.heap.push (.map #[] 0) }) rfl rfl rfl rfl (v:=.map (some w.heap.size)) ?_ ?_ ?_
 ·simp[execOp,ho,Instr.makeMap]
 ·intro M' β' hk hβ;exact⟨#[],0,Aa w _,rfl,rfl,λk eZ=>by simp at eZ,λk eZ=>by simp at eZ,Yle⟩
 ·intro M';exact .map (L:=⟨w.heap.size,0,0,0⟩) (wv _ _ _)
theorem Yhf (hr:c8 X base σ β w) (hn : β nm=none) {ρ:Operand->Value} {o:Oper} {t:TypeId} {x:Operand} {s:ByteArray} (ho:o.op=.range t x) (ht:P.underlying t=some .string) (hx : ρ x=.string s) :
  dh P X base σ β w nm (execOp ρ o) (.it nm) (cJ σ nm (.iter s 0)):=by
 refine BS hr hn (.iter s 0) 0 0 (obj:=.stringIter s 0) (w':={ w with heap:=w.heap.push (.stringIter s 0) }) rfl rfl rfl rfl (v:=.pointer (some ⟨w.heap.size,0,none⟩)) ?_ ?_ ?_
 ·simp[execOp,ho,Instr.range,run_underlying ht,hx]
 ·intro M' β' hk hβ;exact Aa w _
 ·intro M';exact .it (L:=⟨w.heap.size,0,0,0⟩) (wv _ _ _)
theorem Ych (hr:c8 X base σ β w) (hn : β nm=none) {ρ:Operand->Value} {o:Oper} {t kt et:TypeId} {x:Operand} {ks vs:List ah} (ho:o.op=.range t x) (ht:P.underlying t=some (.map kt et)) (hx:cn w (MT X σ β) β (ρ x) (.pm ks vs)) :
  dh P X base σ β w nm (execOp ρ o) (.it nm) (cJ σ nm (.mC ks vs [])):=by
 obtain⟨v,hv⟩:∃v,ρ x=v:=⟨_,rfl⟩;rw[hv]at hx;cases hx with
 | @pm g clk es _ _ hg hm vI pH qa po hb =>
  refine BS hr hn (.mC ks vs []) 0 0 (obj:=.mapIter (some g) clk #[] clk) (w':={ w with heap:=w.heap.push (.mapIter (some g) clk #[] clk) }) rfl rfl rfl rfl (v:=.pointer (some ⟨w.heap.size,0,none⟩)) ?_ ?_ ?_
  ·simp[execOp,ho,Instr.range,run_underlying ht,hv,getObj,Sem.run,hg]
  ·intro M' β' hk hβ;exact⟨g,es,clk,Aa w _,(hk.map _ _ _ hg hm).1,(hk.map _ _ _ hg hm).2,vI,pH,λk tB=>(qa k tB).mono hk hβ,λk tB=>(po k tB).mono hk hβ,hb,λi hi=>by cases hi⟩
  ·intro M';exact .it (L:=⟨w.heap.size,0,0,0⟩) (wv _ _ _)
theorem Ygc {es:Array MapEntry}{clk i:Nat}(h:jI es clk)(hi:i<es.size):es.find? (·.born==(es.getD i default).born)=some (es.getD i default):=by
 rw[Array.find?_eq_some_iff_getElem];have e:es.getD i default=es[i]:=by rw[au,aE hi];rfl
 refine⟨by simp,i,hi,e.symm,λj hj=>?_⟩;have ej:es.getD j default=es[j]:=by rw[au,aE (by omega)];rfl
 simp only[bX,beq_eq_false_iff_ne,ne_eq];intro hb;have:=h.2 j i (by omega) hi (by rw[ej];exact hb);omega
theorem Yiz (hr:c8 X base σ β w) {ρ:Operand->Value} {je:Operand->ah} (eI:∀x,cn w (MT X σ β) β (ρ x) (je x)) {o:Oper} {x:Operand} (ho:o.op=.entry x) {r:ah} {σ':av}
  (h:p0 σ (je x)=some (r,σ')):dh P X base σ β w nm (execOp ρ o) r σ':=by
 unfold p0 at h;split at h
 ·rename_i b e1;have hx:=eI x;rw[e1]at hx;obtain⟨L',hL,hv⟩:∃L,β b=some L/\ρ x=.pointer (some ⟨L.g,0,none⟩):=by
   generalize ρ x=v at hx;cases hx with|it h=>exact⟨_,h,rfl⟩
  split at h
  ·rename_i ks vs seen hb;split at h
   ·rename_i i hi;cases h;obtain⟨L,h1,_,_,m,es,clk,h2,h3,h4,h5,h6,h7,h8,h9,wL⟩:=hr.cG b _ (la hb);obtain rfl:=aS (h1.symm.trans hL);have od:i∈seen:=List.mem_of_getLast? hi;have rV:i<ks.length:=wL i od;have tu:(seen.map λi=>(es.getD i default).born).toArray.back? = some (es.getD i default).born:=by
     rw[List.back?_toArray,List.getLast?_map,hi];rfl
    refine dh.val hr (v:=.tuple #[(es.getD i default).key,(es.getD i default).val]) ?_ ?_
    ·simp only[execOp,ho,Instr.entry,hv];have g1:(getObj L.g).run P w=.ok (.mapIter (some m) clk (seen.map λi=>(es.getD i default).born).toArray clk) w:=by simp[getObj,Sem.run,h2]
     have g2:(getObj m).run P w=.ok (.map es clk) w:=by simp[getObj,Sem.run,h3]
     have B3:=Ygc h9 (by omega:i<es.size);rw[au]at B3;simp[Sem.run_bind,g1,g2,hi,B3]
    ·refine .dw rfl λk hk=>?_
     match k,hk with
     |0,_=>exact h7 i rV
     |1,_=>exact h8 i rV
   ·cases h
  ·cases h
 ·cases h
theorem Yog (hr:c8 X base σ β w) {ρ:Operand->Value} {je:Operand->ah} (eI:∀x,cn w (MT X σ β) β (ρ x) (je x)) {o:Oper} {x:Operand} (ho:o.op=.next x true) {r:ah} {σ':av}
  (h:qD σ (je x)=some (r,σ')):dh P X base σ β w nm (execOp ρ o) r σ':=by
 unfold qD at h;split at h
 ·rename_i b e1;have hx:=eI x;rw[e1]at hx;obtain⟨L',hL,hv⟩:∃L,β b=some L/\ρ x=.pointer (some ⟨L.g,0,none⟩):=by
   generalize ρ x=v at hx;cases hx with|it h=>exact⟨_,h,rfl⟩
  split at h
  ·rename_i s pos hb;obtain⟨L,h1,h1b,h1x,h2⟩:=hr.cG b _ (la hb);obtain rfl:=aS (h1.symm.trans hL);have hg:(getObj L.g).run P w=.ok (.stringIter s pos) w:=by
    have:w.heap[L.g]? = some (.stringIter s pos):=h2;simp[getObj,Sem.run,this]
   split at h
   ·rename_i bx;cases h;have nP:L.g<w.heap.size:=(aQ.1 h2).1;refine ES (mf:=.iter s (pos+(Utf8.decode s pos).2)) hr (la hb) h1 (w':={ w with heap:=w.heap.setIfInBounds L.g (.stringIter s (pos+(Utf8.decode s pos).2)) }) rfl rfl rfl (by simp)
     (λg hg=>by simp[bK,gV hg]) (λ_ _ _ hn=>absurd trivial hn) (λhn=>absurd trivial (hn 0)) (λ_ _=>trivial) (v:=.tuple #[.bool true,.int .i64 pos,.int .i32 (Utf8.decode s pos).1]) (.inl ?_) (λM' hk=>?_) (λM' _=>?_)
    ·have xi:w.heap[L.g]? = some (.stringIter s pos):=h2;simp[execOp,ho,Instr.next,hv,hg,bx,setObj,Sem.run,xi,goInt]
    ·show({ w with heap:=w.heap.setIfInBounds L.g (.stringIter s (pos+(Utf8.decode s pos).2)) }:World).heap[L.g]? = _;simp[bK,nP]
    ·exact .dw rfl λj hj=>by
      match j,hj with
      |0,_=>exact .bool _
      |1,_=>exact .int _ _
      |2,_=>exact .int _ _
   ·rename_i bx;cases h;refine dh.val hr (v:=.tuple #[.bool false]) ?_ (.dw rfl λj hj=>by match j,hj with|0,_=>exact .bool _)
    simp[execOp,ho,Instr.next,hv,hg,bx]
  ·cases h
 ·cases h
theorem Zqf (hr:c8 X base σ β w) (hn : β nm=none) {ρ:Operand->Value} {je:Operand->ah} (eI:∀x,cn w (MT X σ β) β (ρ x) (je x)) {o:Oper} {t:TypeId} {lo co:Operand} (ho:o.op=.makeSlice t lo co)
  {T:kG} (hT:gF P t=some T) {r:ah} {σ':av} (h:kM σ nm T (je lo) (je co)=some (r,σ')):dh P X base σ β w nm (execOp ρ o) r σ':=by
 unfold kM at h;have hl:=eI lo;have hc:=eI co;split at h
 ·rename_i e l c hk he e1 e2;rw[e1]at hl;rw[e2]at hc;split at h
  ·rename_i mj;obtain⟨h1,h2,h3,h4,h5,h6⟩:=mj;cases h;obtain⟨et,ht,jD⟩:=wo hT hk;rw[he]at jD;obtain⟨ti,_,z,rX,_,hz,hs,_,C5,_⟩:=rS jD.symm;obtain⟨z',rY,_,rE,MO,HA,_⟩:=DM (w:=w) (M:=MT X σ β) (β:=β) jD.symm;obtain rfl:z=z':=by
    have:=Ky (P:=P) (w:=w) rX hz;rw[rY]at this;exact((Result.ok.injEq _ _ _ _).mp this).1.symm
   have wP:(ti.bytes:Int)*c<=281474976710656:=by
    have:((ti.bytes:Nat):Int)*c<=65536*1000000000:=Int.mul_le_mul (by omega) h3 (by omega) (by omega);omega
   have fE:=run_make (P:=P) w t et ti z ht rX hz .i64 .i64 l c h1 h2 wP (by omega);refine BS hr hn (.row (List.replicate l.toNat (zeroV e)) 0) c.toNat e.sz (obj:=.cells (madeCells z.cells (c.toNat*ti.size)) et) (w':=w.alloc (.cells (madeCells z.cells (c.toNat*ti.size)) et)) rfl rfl rfl rfl (v:=.slice (some ⟨w.heap.size,0,none⟩) l.toNat c.toNat) ?_ ?_ ?_
   ·simp only[execOp,ho,hl.e7,hc.e7,Sem.run_bind,fE,Result.andThen_ok,Sem.run_pure]
   ·intro M' β' Hn hβ;refine⟨_,et,Aa w _,?_,?_,λi hi=>?_,λi j hi hj=>?_⟩
    ·rw[size_madeCells,hs];simp
    ·simp only[bJ];omega
    ·simp only[bJ]at hi;simp only[List.getD,dz,if_pos hi,bd,KG jD.symm];exact MO
    ·simp only[bJ]at hi;simp only[br]at hj ⊢;have e3:(List.replicate l.toNat (zeroV e)).getD i ah.undef=zeroV e:=by simp only[List.getD,dz,if_pos hi,bd]
     rw[e3,KG jD.symm];have bx:i*e.sz+j<c.toNat*ti.size:=by
      have:(i+1)*e.sz<=c.toNat*e.sz:=aZ _ (by omega);rw[bY,dX]at this;rw[hs];omega
     have e4:(madeCells z.cells (c.toNat*ti.size)).getD (i*e.sz+j) undef=z.cells.getD j undef:=by
      have qh:j<z.cells.size:=by omega
      simp only[madeCells,au,fg,Array.getElem?_range,if_pos bx,bD,bd];have e5:(i*e.sz+j) % z.cells.size=j:=by rw[rE];exact(Mc hj).2
      rw[aE qh,bd,getElem!_pos z.cells _ (by rw[e5];exact qh)];simp only[e5]
     rw[e4];exact(HA j hj).mono Hn hβ
   ·intro M';have:=cn.os (w:=w.alloc (.cells (madeCells z.cells (c.toNat*ti.size)) et)) (M:=M') (β:=qM β nm ⟨w.heap.size,0,c.toNat,e.sz⟩) (b:=nm) (off:=0) (len:=l.toNat) (cap:=c.toNat) (L:=⟨w.heap.size,0,c.toNat,e.sz⟩) (wv _ _ _) (by omega) (by simp);simpa using this
  ·cases h
 ·cases h
theorem YM {a b:ByteArray}(h:(a.toList==b.toList)=true):a=b:=by
 have h1:a.toList=b.toList:=by simpa using h
 rw[ByteArray.toList_eq,ByteArray.toList_eq]at h1;apply ByteArray.ext;exact eN.1 h1
theorem SI (k:ah):∀(ks:List ah) (i j:Nat),fR k ks i=some j->fP k (ks.getD (j-i) .undef)=true
 |[],_,_,h=>by simp[fR]at h
 |x :: xs,i,j,h=>by
  simp only[fR]at h;split at h
  ·rename_i he;cases h;simpa using he
  ·have h1:=H7 k xs (i+1) j h;have h2:=SI k xs (i+1) j h;rw[show j-i=(j-(i+1))+1 by omega,bE];exact h2
theorem Vn (hr:c8 X base σ β w) {ρ:Operand->Value} {je:Operand->ah} (eI:∀x,cn w (MT X σ β) β (ρ x) (je x)) {o:Oper} {t:TypeId} {m k v:Operand} (ho:execOp ρ o=(do Instr.mapUpdate t (ρ m) (ρ k) (ρ v);pure .skip))
  {T:kG} (hT:gF P t=some T) {σ':av} (h:jk σ T (je m) (je k) (je v)=some σ'):dh P X base σ β w nm (execOp ρ o) .undef σ':=by
 unfold jk at h;have hm:=eI m;have wc:=eI k;have ML:=eI v;split at h
 ·rename_i e b hk he e1;rw[e1]at hm;split at h
  ·rename_i ks vs hb;split at h
   ·rename_i mj;cases h;simp only[aG,decide_eq_true_eq]at mj;obtain⟨⟨Rr,fj⟩,_⟩:=mj;obtain⟨kt,et,u,h1,h2,h3,h4⟩:=VT hT hk Rr;obtain⟨L,h5,wO,hX,es,clk,h6,hn,hv,qa,po,tv⟩:=hr.cG _ _ (la hb);obtain⟨L',hL,hmv⟩:∃L,β b=some L/\ρ m=.map (some L.g):=by
     generalize ρ m=vm at hm;cases hm with|map h=>exact⟨_,h,rfl⟩
    obtain rfl:=aS (h5.symm.trans hL);have wQ:(getObj L.g).run P w=.ok (.map es clk) w:=by simp[getObj,Sem.run,h6]
    have p7:=Vq (P:=P) (w:=w) h3 (by rcases h4 with⟨ik,_,h,_⟩|⟨_,h,_⟩;exact .inl ⟨ik,h⟩;exact .inr h) false 9999 (ρ k);have fc:∀j,es.toList.getD j default=es.getD j default:=λj=>by simp[List.getD,au]
    have Ec:=N4 h4 wc es.toList ks 0 (by simpa using hn) (λj hj=>by rw[fc];exact qa j hj) (by simpa using fj);have kV:(Instr.findKey kt (ρ k) es.toList).run P w=.ok ((fR (je k) ks 0).map λj=>(j,(es.getD j default).val)) w:=by
     simp only[Instr.findKey,Sem.run_bind,run_underlying h3,Result.andThen_ok,Ec,gU,fc];rfl
    have nP:L.g<w.heap.size:=(aQ.1 h6).1;have fin:∀(uB:Array MapEntry) (y4:Nat) (xp vV:List ah),(execOp ρ o).run P w=.ok .skip { w with heap:=w.heap.setIfInBounds L.g (.map uB y4) }->uB.size=xp.length->vV.length=xp.length ->
      (∀j,j<xp.length->cn w (MT X σ β) β (uB.getD j default).key (xp.getD j .undef))->(∀j,j<xp.length->cn w (MT X σ β) β (uB.getD j default).val (vV.getD j .undef))->jI uB y4 ->
      dh P X base σ β w nm (execOp ρ o) .undef (cJ σ b (.map xp vV false)):=by
     intro uB y4 xp vV fE q1 q2 q3 q4 q5;refine ES (mf:=.map xp vV false) hr (la hb) h5 (w':={ w with heap:=w.heap.setIfInBounds L.g (.map uB y4) }) rfl rfl rfl (by simp)
      (λg hg=>by simp[bK,gV hg]) (λ_ _ _ hn=>absurd rfl hn) (λhn=>absurd rfl (hn 0)) (λ_ _=>rfl) (.inr ⟨fE,rfl⟩) (λM' Hn=>?_) (λM' _=>.undef _)
     refine⟨uB,y4,?_,q1,q2,λj hj=>(q3 j hj).mono Hn λ_ _ h=>h,λj hj=>(q4 j hj).mono Hn λ_ _ h=>h,q5⟩;show({ w with heap:=w.heap.setIfInBounds L.g (.map uB y4) }:World).heap[L.g]? = _;simp[bK,nP]
    have fS:∀ob,(setObj L.g ob).run P w=.ok () { w with heap:=w.heap.setIfInBounds L.g ob }:=λob=>by simp[setObj,Sem.run,h6]
    unfold jN;cases hf:fR (je k) ks 0 with
    | none =>
     rw[hf]at kV;refine fin (es.push { key:=ρ k,val:=ρ v,born:=clk }) (clk+1) _ _ ?_ (by simp[hn]) (by simp[hv]) (λj hj=>?_) (λj hj=>?_) (Yj6 tv _ _)
     ·simp only[ho,Instr.mapUpdate,Sem.run_bind,run_underlying h1,Result.andThen_ok,hmv,wQ];rw[show(10000:Nat)=9999+1 from rfl,p7]
      simp only[Result.andThen_ok,kV,lz,fS,Sem.run_pure]
     ·simp only[aA,dN]at hj;rw[vW,au,gK];by_cases e2:j=es.size
      ·rw[if_pos e2,if_neg (by omega)];rw[show j-ks.length=0 by omega];exact wc
      ·rw[if_neg e2,if_pos (by omega),<-au];exact qa j (by omega)
     ·simp only[aA,dN]at hj;rw[vW,au,gK];by_cases e2:j=es.size
      ·rw[if_pos e2,if_neg (by omega)];rw[show j-vs.length=0 by omega];exact ML
      ·rw[if_neg e2,if_pos (by omega),<-au];exact po j (by omega)
    | some i =>
     rw[hf]at kV;have rV:=(H7 _ _ _ _ hf).2;have heq:=SI _ _ _ _ hf;simp only[gU]at rV heq;have FD:(es.getD i default).key = ρ k:=by
      have h7:=qa i rV;rcases h4 with⟨ik,n,_,e2⟩|⟨s,_,e2⟩
      ·rw[e2]at wc heq;have Ca:=bu.1 fj (ks.getD i .undef) (by simp only[List.getD,ax rV,bd];exact ay rV);rw[e2]at Ca;cases Rp:ks.getD i .undef<;>rw[Rp]at heq Ca h7<;>simp only[fP,sameKind,aX,beq_iff_eq]at heq Ca;rw[h7.e7,wc.e7,heq,Ca]
      ·rw[e2]at wc heq;cases Rp:ks.getD i .undef<;>rw[Rp]at heq h7<;>simp only[fP,aX]at heq;rw[h7.iM,wc.iM];rw[YM heq]
     have wg:Instr.sameBits 10000 (ρ k) (ρ k)=true:=by
      rcases h4 with⟨ik,n,_,e2⟩|⟨s,_,e2⟩<;>rw[e2]at wc
      ·rw[wc.e7];simp[Instr.sameBits]
      ·rw[wc.iM];simp[Instr.sameBits,beq_toListBytes]
     have kp:i<es.size:=by omega
     have Jl:(((es[i]?).map (·.key)).getD (ρ k)) = ρ k:=by
      rw[aE kp];rw[au,aE kp]at FD;exact FD
     refine fin (es.modify i λe=>{ e with key:=ρ k,val:=ρ v }) clk _ _ ?_ (by simp[hn]) (by simp[hv]) (λj hj=>?_) (λj hj=>?_) (Zxq tv _ _ _)
     ·simp only[ho,Instr.mapUpdate,Sem.run_bind,run_underlying h1,Result.andThen_ok,hmv,wQ];rw[show(10000:Nat)=9999+1 from rfl,p7]
      simp only[Result.andThen_ok,kV,bD,Sem.run_bind,Jl,Instr.keyThatStays,wg,if_true,fS,Sem.run_pure]
     ·rw[au,jH];by_cases e2:i=j
      ·subst e2;rw[if_pos rfl,aE kp];have:=qa i hj;rw[FD]at this;exact this
      ·rw[if_neg e2,<-au];exact qa j hj
     ·rw[au,jH];by_cases e2:i=j
      ·subst e2;rw[if_pos rfl,aE kp,HN _ _ _ (by omega)];exact ML
      ·rw[if_neg e2,<-au,getD_set_ne _ _ _ _ e2];exact po j hj
   ·cases h
  ·cases h
 ·cases h
theorem W4 (hr:c8 X base σ β w) (hn : β nm=none) {ρ:Operand->Value} {je:Operand->ah} (eI:∀x,cn w (MT X σ β) β (ρ x) (je x)) (Q5:∀v,ρ (.const v)=v) {o:Oper} {r:ah} {σ':av} (h:dJ P σ nm je o.op=some (r,σ')) :
  dh P X base σ β w nm (execOp ρ o) r σ':=by
 have AP:=Yi4 hr hn;have mp:∀ {x:Option ah} (_:x.map (·,σ)=some (r,σ')),x=some r/\σ = σ':=by
  intro x hx;obtain⟨a,h1,h2⟩:=aP.1 hx;simp only[bM]at h2;exact⟨by rw[h1,h2.1],h2.2⟩
 cases ho:o.op with
 |move x =>
  rw[ho]at h;simp only[dJ,aM,bM]at h;obtain⟨rfl,rfl⟩:=h;exact dh.val hr (by simp[execOp,ho]) (eI x)
 |assign x =>
  rw[ho]at h;simp only[dJ,aM,bM]at h;obtain⟨rfl,rfl⟩:=h;exact dh.val hr (by simp[execOp,ho]) (eI x)
 |pick c a b =>
  rw[ho]at h;simp only[dJ]at h;obtain⟨h1,rfl⟩:=mp h;exact Ynd hr eI ho h1
 |alloc t =>
  rw[ho]at h;simp only[dJ]at h;obtain⟨l,hl,h1⟩:=aB.1 h;simp only[aM,bM]at h1;obtain⟨rfl,rfl⟩:=h1;exact Ygn hr hn ho hl
 |box t x =>
  rw[ho]at h;simp only[dJ]at h;obtain⟨l,hl,h1⟩:=aB.1 h;split at h1
  ·rename_i hc;simp only[aM,bM]at h1;obtain⟨rfl,rfl⟩:=h1;exact Yta hr hn eI ho hc.2
  ·cases h1
 |build t parts =>
  rw[ho]at h;simp only[dJ]at h;obtain⟨T,hT,h1⟩:=aB.1 h;obtain⟨h2,rfl⟩:=mp h1;obtain⟨v,h3,h4⟩:=Ybl hT eI h2;exact dh.val hr (v:=v) (by simp only[execOp,ho,Sem.run_bind,h3,Result.andThen_ok,Sem.run_pure]) h4
 |buildSlice t n parts =>
  rw[ho]at h;simp only[dJ]at h;obtain⟨T,hT,h1⟩:=aB.1 h;obtain⟨e,he,h2⟩:=aB.1 h1;obtain⟨es,kp,h3⟩:=aB.1 h2;split at h3
  ·rename_i hc;simp only[aM,bM]at h3;obtain⟨rfl,rfl⟩:=h3;exact Zo7 hr hn eI ho hT he kp hc.1 hc.2.1 hc.2.2.1 hc.2.2.2.2
  ·cases h3
 |load t x =>
  rw[ho]at h;simp only[dJ]at h;obtain⟨l,hl,h1⟩:=aB.1 h;obtain⟨h2,rfl⟩:=mp h1;exact Ykn hr eI ho hl h2
 |store t x v =>
  rw[ho]at h;simp only[dJ]at h;obtain⟨l,hl,h1⟩:=aB.1 h;obtain⟨s,h2,h3⟩:=aP.1 h1;simp only[bM]at h3;obtain⟨rfl,rfl⟩:=h3;exact Yfv hr eI ho hl h2
 | nilCheck x =>
  rw[ho]at h;simp only[dJ]at h;have hx:=eI x;split at h
  ·rename_i b of e1;simp only[aM,bM]at h;obtain⟨rfl,rfl⟩:=h;rw[e1]at hx;obtain⟨L,hL,hv⟩:=hx.yN;exact dh.val hr (v:=ρ x) (by simp[execOp,ho,hv]) hx
  ·rename_i b i f e1;simp only[aM,bM]at h;obtain⟨rfl,rfl⟩:=h;rw[e1]at hx;obtain⟨L,hL,hv⟩:=hx.Bt;exact dh.val hr (v:=ρ x) (by simp[execOp,ho,hv]) hx
  ·rename_i cs e1;simp only[aM,bM]at h;obtain⟨rfl,rfl⟩:=h;rw[e1]at hx;obtain⟨a,hv⟩:∃a,ρ x=.pointer (some a):=by
    generalize ρ x=v at hx;cases hx;exact⟨_,rfl⟩
   exact dh.val hr (v:=ρ x) (by simp[execOp,ho,hv]) hx
  ·rename_i f a c e1;simp only[aM,bM]at h;obtain⟨rfl,rfl⟩:=h;rw[e1]at hx;obtain⟨fa,ca,hv⟩:∃fa ca,ρ x=.func (.func f) fa ca:=by
    generalize ρ x=v at hx;cases hx;exact⟨_,_,rfl⟩
   exact dh.val hr (v:=ρ x) (by simp[execOp,ho,hv]) hx
  ·cases h
 | binOp op t x y u =>
  rw [ho]at h;simp only[dJ]at h;obtain⟨h1,rfl⟩:=mp h;obtain⟨v,h2,h3⟩:∃v,(do eqGuard op t x y (ρ x) (ρ y);_root_.Go.binOp op t (ρ x) (ρ y):Sem Value).run P w=.ok v w/\cn w (MT X σ β) β v r:=by
   unfold Ai at h1;split at h1
   ·rename_i vJ;have oU : ρ y=.slice none 0 0:=by rw[Yie vJ];exact Q5 _
    rw[oU];exact Ypl (eI x) h1 x y
   ·exact Yol (eI x) (eI y) h1 x y
  refine dh.val hr (v:=v) ?_ h3;simp only[Sem.run_bind]at h2;simp only[execOp,ho,Sem.run_bind,h2,Result.andThen_ok,Sem.run_pure]
 |unOp op t x =>
  rw[ho]at h;simp only[dJ]at h;obtain⟨h1,rfl⟩:=mp h;obtain⟨v,h2,h3⟩:=Ysy (P:=P) (eI x) h1;exact dh.val hr (v:=v) (by simp only[execOp,ho,Sem.run_bind,h2,Result.andThen_ok,Sem.run_pure]) h3
 |convert s d x =>
  rw[ho]at h;simp only[dJ]at h;obtain⟨h1,rfl⟩:=mp h;obtain⟨v,h2,h3⟩:=Zt8 (P:=P) (eI x) h1;exact dh.val hr (v:=v) (by simp only[execOp,ho,Sem.run_bind,h2,Result.andThen_ok,Sem.run_pure]) h3
 | makeInterface t x =>
  rw[ho]at h;simp only[dJ]at h;split at h
  ·cases h
  ·rename_i k dL hk;simp only[aM,bM]at h;obtain⟨rfl,rfl⟩:=h;obtain⟨i,u,h1,h2,h3⟩:=zB hk;have:P.concrete t=true:=by
    have RH:∀ms,u≠.interface ms:=by rintro ms rfl;exact dL (by rw[<-h3];rfl)
    simp only[Program.concrete,h2];cases u<;>first|rfl|exact absurd rfl (RH _)
   exact dh.val hr (v:=.iface t (ρ x)) (by simp only[execOp,ho,Sem.run_bind,run_makeInterface w t (ρ x) this,Result.andThen_ok,Sem.run_pure]) (.iface (eI x))
  ·cases h
 | makeFunc fn first captured =>
  rw[ho]at h;cases fn with
  |func f =>
   simp only[dJ,aM,bM]at h;obtain⟨rfl,rfl⟩:=h;refine dh.val hr (v:=.func (.func f) (first.map ρ) (captured.map ρ)) (by simp[execOp,ho,Instr.makeFunc]) (.fn (by simp) (by simp) (λk hk=>?_) (λk hk=>?_))
   ·simp only[ao,bR]at hk;rw[au,fg,aE hk];simp only[List.getD,cE,fQ,aE hk,bD,bd];exact eI _
   ·simp only[ao,bR]at hk;rw[au,fg,aE hk];simp only[List.getD,cE,fQ,aE hk,bD,bd];exact eI _
  |_=>simp[dJ]at h
 | makeMap t r' =>
  rw[ho]at h;cases r' with
  |none =>
   simp only[dJ,aM,bM]at h;obtain⟨rfl,rfl⟩:=h;exact Zw9 hr hn ho
  |some _=>simp[dJ]at h
 |makeSlice t l c =>
  rw[ho]at h;simp only[dJ]at h;obtain⟨T,hT,h1⟩:=aB.1 h;exact Zqf hr hn eI ho hT h1
 |slice t x lo hi mx =>
  rw[ho]at h;simp only[dJ]at h;obtain⟨T,hT,h1⟩:=aB.1 h;obtain⟨h2,rfl⟩:=mp h1;obtain⟨v,h3,h4⟩:=Yd6 hT (eI x) (Qg eI lo) (Qg eI hi) (Qg eI mx) h2;exact dh.val hr (v:=v) (by simp only[execOp,ho,Sem.run_bind,h3,Result.andThen_ok,Sem.run_pure]) h4
 |fieldAddr t x i =>
  rw[ho]at h;simp only[dJ]at h;obtain⟨T,hT,h1⟩:=aB.1 h;obtain⟨h2,rfl⟩:=mp h1;obtain⟨v,h3,h4⟩:=Zo3 hT (eI x) h2;exact dh.val hr (v:=v) (by simp only[execOp,ho,Sem.run_bind,h3,Result.andThen_ok,Sem.run_pure]) h4
 |field t x i =>
  rw[ho]at h;simp only[dJ]at h;obtain⟨T,hT,h1⟩:=aB.1 h;obtain⟨h2,rfl⟩:=mp h1;obtain⟨v,h3,h4⟩:=Ydb hT (eI x) h2;exact dh.val hr (v:=v) (by simp only[execOp,ho,Sem.run_bind,h3,Result.andThen_ok,Sem.run_pure]) h4
 |indexAddr t x i =>
  rw[ho]at h;simp only[dJ]at h;obtain⟨T,hT,h1⟩:=aB.1 h;obtain⟨h2,rfl⟩:=mp h1;obtain⟨v,h3,h4⟩:=Zo4 hT (eI x) (eI i) h2;exact dh.val hr (v:=v) (by simp only[execOp,ho,Sem.run_bind,h3,Result.andThen_ok,Sem.run_pure]) h4
 |index t x i =>
  rw[ho]at h;simp only[dJ]at h;obtain⟨T,hT,h1⟩:=aB.1 h;obtain⟨h2,rfl⟩:=mp h1;obtain⟨v,h3,h4⟩:=Yca hT (eI x) (eI i) h2;exact dh.val hr (v:=v) (by simp only[execOp,ho,Sem.run_bind,h3,Result.andThen_ok,Sem.run_pure]) h4
 |lookup t x i ok =>
  rw[ho]at h;simp only[dJ]at h;obtain⟨T,hT,h1⟩:=aB.1 h;obtain⟨h2,rfl⟩:=mp h1;obtain⟨v,h3,h4⟩:=Zx1 hr hT (eI x) (eI i) h2;exact dh.val hr (v:=v) (by simp only[execOp,ho,Sem.run_bind,h3,Result.andThen_ok,Sem.run_pure]) h4
 |mapUpdate t m k v =>
  rw[ho]at h;simp only[dJ]at h;obtain⟨T,hT,h1⟩:=aB.1 h;obtain⟨s,h2,h3⟩:=aP.1 h1;simp only[bM]at h3;obtain⟨rfl,rfl⟩:=h3;exact Vn hr eI (by simp only[execOp,ho]) hT h2
 |insert t m k v =>
  rw[ho]at h;simp only[dJ]at h;obtain⟨T,hT,h1⟩:=aB.1 h;obtain⟨s,h2,h3⟩:=aP.1 h1;simp only[bM]at h3;obtain⟨rfl,rfl⟩:=h3;exact Vn hr eI (by simp only[execOp,ho]) hT h2
 |range t x =>
  rw[ho]at h;simp only[dJ]at h;obtain⟨T,hT,h1⟩:=aB.1 h;split at h1
  ·rename_i s e1 e2;simp only[aM,bM]at h1;obtain⟨rfl,rfl⟩:=h1;obtain⟨u,h2,h3,h4,_⟩:=wz hT;have hx:=eI x;rw[e2]at hx;exact Yhf hr hn ho (by rw[h3,Cv (h4.trans e1)]) hx.iM
  ·rename_i ks vs e1 e2;simp only[aM,bM]at h1;obtain⟨rfl,rfl⟩:=h1;obtain⟨u,h2,h3,h4,_⟩:=wz hT;have hx:=eI x;rw[e2]at hx;obtain⟨kt,et,hu⟩:=G1 (h4.trans e1);exact Ych hr hn ho (by rw[h3,hu]) hx
  ·cases h1
 |entry x =>
  rw[ho]at h;simp only[dJ]at h;exact Yiz hr eI ho h
 |next x s =>
  rw[ho]at h;cases s with
  |true=>exact Yog hr eI ho h
  |false=>simp[dJ]at h
 |typeAssert x t u ok =>
  rw[ho]at h;simp only[dJ]at h;obtain⟨h2,rfl⟩:=mp h;obtain⟨v,h3,h4⟩:=Znh (xt:=t) (eI x) h2;exact dh.val hr (v:=v) (by simp only[execOp,ho,Sem.run_bind,h3,Result.andThen_ok,Sem.run_pure]) h4
 |extract x i =>
  rw[ho]at h;simp only[dJ]at h;split at h
  ·rename_i vs e1;obtain⟨h2,rfl⟩:=mp h;have hx:=eI x;rw[e1]at hx;obtain⟨v,h3,h4⟩:=Zt7 (P:=P) hx h2;exact dh.val hr (v:=v) (by simp only[execOp,ho,Sem.run_bind,h3,Result.andThen_ok,Sem.run_pure]) h4
  ·cases h
 | call c =>
  rw[ho]at h;obtain⟨callee,args,argTypes⟩:=c;cases callee with
  | builtin b =>
   simp only[dJ]at h;have Ji:execOp ρ o=(builtin b argTypes o.type (args.map fun|.const _=>true|_=>false) (args.map ρ)):=by
    simp only[execOp,ho,resolve];rfl
   rw[Ji];have tq:(args.map ρ).toList=args.toList.map ρ:=by simp
   unfold gp at h;split at h
   ·rename_i t x e1 e2;have ht:argTypes = #[t]:=eN.1 (by rw[e1]);obtain⟨T,hT,h1⟩:=aB.1 h;obtain⟨y,hy,yE⟩:∃y,args.toList=[y]/\je y=x:=by
     cases nw:args.toList with
     |nil=>rw[nw]at e2;simp at e2
     |cons y ys=>rw[nw]at e2;simp at e2;obtain⟨q1,q2⟩:=e2;exact⟨y,by rw[q2],q1⟩
    have wN:args.map ρ = #[ρ y]:=eN.1 (by rw[tq,hy];rfl);rw[ht,wN];have hx:=eI y;rw[yE]at hx;split at h1
    ·rename_i n hk;simp only[aM,bM]at h1;obtain⟨rfl,rfl⟩:=h1;obtain⟨u,h2,h3,h4,_⟩:=wz hT;obtain⟨et,rfl⟩:=KP (h4.trans hk);refine dh.val hr (v:=.int .i64 n) ?_ (.int _ _);simp only[builtin,Builtin.len_,Sem.run_bind,Sem.run_pure,Result.andThen_ok];simp[run_underlying h3,goInt]
    ·rename_i hk;obtain⟨n,h2,h3⟩:=aP.1 h1;simp only[bM]at h3;obtain⟨rfl,rfl⟩:=h3;refine dh.val hr (v:=.int .i64 n) ?_ (.int _ _);simp only[builtin,Sem.run_bind,Py hr hT (.inl hk) hx h2 o.type,Result.andThen_ok,Sem.run_pure]
    ·rename_i hk;obtain⟨n,h2,h3⟩:=aP.1 h1;simp only[bM]at h3;obtain⟨rfl,rfl⟩:=h3;refine dh.val hr (v:=.int .i64 n) ?_ (.int _ _);simp only[builtin,Sem.run_bind,Py hr hT (.inr (.inl hk)) hx h2 o.type,Result.andThen_ok,Sem.run_pure]
    ·rename_i hk;obtain⟨n,h2,h3⟩:=aP.1 h1;simp only[bM]at h3;obtain⟨rfl,rfl⟩:=h3;refine dh.val hr (v:=.int .i64 n) ?_ (.int _ _);simp only[builtin,Sem.run_bind,Py hr hT (.inr (.inr hk)) hx h2 o.type,Result.andThen_ok,Sem.run_pure]
    ·cases h1
   ·rename_i t u s x e1 e2;have ht:argTypes = #[t,u]:=eN.1 (by rw[e1]);obtain⟨T,hT,h1⟩:=aB.1 h;obtain⟨U,hU,h2⟩:=aB.1 h1;obtain⟨y,z,hy,yE,Sd⟩:∃y z,args.toList=[y,z]/\je y=s/\je z=x:=by
     cases nw:args.toList with
     |nil=>rw[nw]at e2;simp at e2
     |cons y ys =>
      cases ys with
      |nil=>rw[nw]at e2;simp at e2
      |cons z zs=>rw[nw]at e2;simp at e2;obtain⟨q1,q2,q3⟩:=e2;exact⟨y,z,by rw[q3],q1,q2⟩
    have wN:args.map ρ = #[ρ y,ρ z]:=eN.1 (by rw[tq,hy];rfl);rw[ht,wN];have hs:=eI y;rw[yE]at hs;have hx:=eI z;rw[Sd]at hx;split at h2
    ·rename_i e hk he pH;obtain⟨et,zm,jD⟩:=wo hT hk;rw[he]at jD;obtain⟨eu,xn,_⟩:=wo hU pH;obtain⟨xs,uJ,h3⟩:=aB.1 h2;obtain⟨news,pv⟩:=KQ (P:=P) hr hx uJ;exact Ny hr hn AP jD.symm hs pv.SD h3 o.type (.Bn zm xn (.inl ⟨_,rfl⟩) jD.symm pv) rfl
    ·rename_i e hk he pH;obtain⟨et,zm,jD⟩:=wo hT hk;rw[he]at jD;obtain⟨u',h4,h5,h6,_⟩:=wz hU;obtain rfl:=Cv (h6.trans pH);split at h2
     ·rename_i y';rw[hx.iM];split at h2
      ·rename_i h1z;obtain⟨news,pv⟩:∃news,Src P w (MT X σ β) β e.sz (.string y') (bytesOf y') news:=⟨_,by rw[h1z];exact Yel⟩;exact Ny hr hn AP jD.symm hs pv.SD h2 o.type (.Bn zm h5 (.inr rfl) jD.symm pv) rfl
      ·cases h2
     ·cases h2
    ·rename_i e k' hk he pH;obtain⟨et,zm,jD⟩:=wo hT hk;rw[he]at jD;obtain⟨u',h4,h5,h6,_⟩:=wz hU;obtain rfl:=Lu (h6.trans pH);obtain⟨i,_,z,hi,_,hz,_⟩:=rS jD.symm;split at h2
     ·rename_i n';split at h2
      ·rename_i hc;have Hj : 0<e.sz/\e.bytes<=65536:=Yd8 h2;have hxx:=hx.e7;rw[hxx];exact Ny hr hn AP jD.symm hs (Ya jD.symm _ hi hz) h2 o.type (by simpa using oC.Bo zm h5 jD.symm Hj.1 Hj.2 hc.1 hc.2.1 hc.2.2 hi hz) rfl
      ·cases h2
     ·cases h2
    ·cases h2
   ·rename_i t x e1 e2;have ht:argTypes = #[t]:=eN.1 (by rw[e1]);obtain⟨T,hT,h1⟩:=aB.1 h;obtain⟨y,hy,yE⟩:∃y,args.toList=[y]/\je y=x:=by
     cases nw:args.toList with
     |nil=>rw[nw]at e2;simp at e2
     |cons y ys=>rw[nw]at e2;simp at e2;obtain⟨q1,q2⟩:=e2;exact⟨y,by rw[q2],q1⟩
    have wN:args.map ρ = #[ρ y]:=eN.1 (by rw[tq,hy];rfl);rw[ht,wN];have hx:=eI y;rw[yE]at hx;split at h1
    ·rename_i hk;obtain⟨et,zm,jD⟩:=wo hT hk;obtain⟨n,h2,h3⟩:=aP.1 h1;cases h3;refine dh.val hr (v:=.int .i64 n) ?_ (.int _ _);obtain⟨a,m,hv⟩:=Yo4 hx h2;rw[hv];simp[builtin,Builtin.cap_,run_underlying zm,goInt]
    ·cases h1
   ·rename_i t x e1 e2;have ht:argTypes = #[t]:=eN.1 (by rw[e1]);obtain⟨T,hT,h1⟩:=aB.1 h;obtain⟨y,hy,yE⟩:∃y,args.toList=[y]/\je y=x:=by
     cases nw:args.toList with
     |nil=>rw[nw]at e2;simp at e2
     |cons y ys=>rw[nw]at e2;simp at e2;obtain⟨q1,q2⟩:=e2;exact⟨y,by rw[q2],q1⟩
    have wN:args.map ρ = #[ρ y]:=eN.1 (by rw[tq,hy];rfl);rw[ht,wN];have hx:=eI y;rw[yE]at hx;split at h1
    ·rename_i e hk he;obtain⟨et,zm,jD⟩:=wo hT hk;rw[he]at jD;obtain⟨n,h2,h3⟩:=aB.1 h1;exact Yf3 hr zm jD.symm hx h2 h3 o.type rfl
    ·cases h1
   ·rename_i t u s x e1 e2;have ht:argTypes = #[t,u]:=eN.1 (by rw[e1]);obtain⟨T,hT,h1⟩:=aB.1 h;obtain⟨U,hU,h2⟩:=aB.1 h1;obtain⟨y,z,hy,yE,Sd⟩:∃y z,args.toList=[y,z]/\je y=s/\je z=x:=by
     cases nw:args.toList with
     |nil=>rw[nw]at e2;simp at e2
     |cons y ys =>
      cases ys with
      |nil=>rw[nw]at e2;simp at e2
      |cons z zs=>rw[nw]at e2;simp at e2;obtain⟨q1,q2,q3⟩:=e2;exact⟨y,z,by rw[q3],q1,q2⟩
    have wN:args.map ρ = #[ρ y,ρ z]:=eN.1 (by rw[tq,hy];rfl);rw[ht,wN];have hs:=eI y;rw[yE]at hs;have hx:=eI z;rw[Sd]at hx;split at h2
    ·rename_i e hk he pH;obtain⟨et,zm,jD⟩:=wo hT hk;rw[he]at jD;obtain⟨n,h3,h4⟩:=aB.1 h2;obtain⟨xs,h5,h6⟩:=aB.1 h4;exact Yp0 hr zm jD.symm hs hx h3 h5 h6 o.type rfl
    ·cases h2
   ·rename_i ts x rest e2;obtain⟨h2,rfl⟩:=mp h;obtain⟨y,ys,hy,yE,Et⟩:∃y ys,args.toList=y :: ys/\je y=x/\ys.map je=rest:=by
     cases nw:args.toList with
     |nil=>rw[nw]at e2;simp at e2
     |cons y ys=>rw[nw]at e2;simp at e2;exact⟨y,ys,rfl,e2.1,e2.2⟩
    subst yE;subst Et;obtain⟨v,h3,h4⟩:=Ze (P:=P) (ys.map ρ) (ys.map je) (ρ y) (je y) r (by simp) (λk hk=>by
     simp only[ao]at hk;simp only[List.getD,cE,ax hk,bD,bd];exact eI _) (eI y) h2
    refine dh.val hr (v:=v) ?_ h4;simp only[builtin,Builtin.max_,tq,hy,aI,Sem.run_bind,h3,Result.andThen_ok,Sem.run_pure]
   ·rename_i ts x rest e2;obtain⟨h2,rfl⟩:=mp h;obtain⟨y,ys,hy,yE,Et⟩:∃y ys,args.toList=y :: ys/\je y=x/\ys.map je=rest:=by
     cases nw:args.toList with
     |nil=>rw[nw]at e2;simp at e2
     |cons y ys=>rw[nw]at e2;simp at e2;exact⟨y,ys,rfl,e2.1,e2.2⟩
    subst yE;subst Et;obtain⟨v,h3,h4⟩:=YU (P:=P) (ys.map ρ) (ys.map je) (ρ y) (je y) r (by simp) (λk hk=>by
     simp only[ao]at hk;simp only[List.getD,cE,ax hk,bD,bd];exact eI _) (eI y) h2
    refine dh.val hr (v:=v) ?_ h4;simp only[builtin,Builtin.min_,tq,hy,aI,Sem.run_bind,h3,Result.andThen_ok,Sem.run_pure]
   ·cases h
  |_=>simp[dJ]at h
 |_=>rw[ho]at h;simp[dJ]at h
end
end Go.dq
