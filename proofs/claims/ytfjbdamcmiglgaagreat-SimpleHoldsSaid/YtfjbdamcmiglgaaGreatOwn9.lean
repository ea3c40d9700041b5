/- Part 9 of my own framework and of the walks of functions: AbsK. -/
import Derived.Test.YtfjbdamcmiglgaaGreatOwn8
abbrev gP:=@Array.getElem?_toList
abbrev ew:=@Array.toList_inj
abbrev aj:=@List.length_map
abbrev mF:=@Option.map_none
set_option linter.unusedVariables false
set_option linter.unusedSectionVars false
set_option linter.unusedSimpArgs false
namespace Go.dm
open Go
section
variable {P:Program} {X:Nat→Nat→Prop} {base:Nat} {σ:ai} {β:Env} {w:World} {nm:Nat} {M:Nat→Nat→Prop}
theorem Yg3 (hr:cS X base σ β w) (hn : β nm=none):bP σ nm=none:=by
 cases h:bP σ nm with
 | none=>rfl
 | some cw =>
  obtain ⟨L,h1,_⟩:=hr.cw nm cw (kq h);rw [hn] at h1;cases h1
theorem Zvt (hr:cS X base σ β w) (hn : β nm=none) {ρ:Operand→Value} {o:Oper} {t:TypeId} (ho:o.op = .makeMap t none) :
  c8 P X base σ β w nm (execOp ρ o) (.map nm) (cr σ nm (.map [] [] false)):=by
 refine Ai hr hn (.map [] [] false) 0 0 (obj:=.map #[] 0) (w':={ w with heap:=w.heap.push (.map #[] 0) }) rfl rfl rfl rfl (v:=.map (some w.heap.size)) ?_ ?_ ?_
 ·simp [execOp,ho,Instr.makeMap]
 ·intro M' β' hk hβ;exact ⟨#[],0,yK w _,rfl,rfl,fun k e7=>by simp at e7,fun k e7=>by simp at e7,Yl9⟩
 ·intro M';exact .map (L:=⟨w.heap.size,0,0,0⟩) (uR _ _ _)
theorem Yj2 (hr:cS X base σ β w) (hn : β nm=none) {ρ:Operand→Value} {o:Oper} {t:TypeId} {x:Operand} {s:ByteArray} (ho:o.op = .range t x) (ht:P.underlying t=some .string) (hx : ρ x = .string s) :
  c8 P X base σ β w nm (execOp ρ o) (.it nm) (cr σ nm (.iter s 0)):=by
 refine Ai hr hn (.iter s 0) 0 0 (obj:=.stringIter s 0) (w':={ w with heap:=w.heap.push (.stringIter s 0) }) rfl rfl rfl rfl (v:=.pointer (some ⟨w.heap.size,0,none⟩)) ?_ ?_ ?_
 ·simp [execOp,ho,Instr.range,run_underlying ht,hx]
 ·intro M' β' hk hβ;exact yK w _
 ·intro M';exact .it (L:=⟨w.heap.size,0,0,0⟩) (uR _ _ _)
theorem Ybp (hr:cS X base σ β w) (hn : β nm=none) {ρ:Operand→Value} {o:Oper} {t kt et:TypeId} {x:Operand} {ks vs:List ah} (ho:o.op = .range t x) (ht:P.underlying t=some (.map kt et)) (hx:cf w (MT X σ β) β (ρ x) (.pm ks vs)) :
  c8 P X base σ β w nm (execOp ρ o) (.it nm) (cr σ nm (.lL ks vs [])):=by
 obtain ⟨v,hv⟩:∃ v,ρ x=v:=⟨_,rfl⟩;rw [hv] at hx;cases hx with
 | @pm g clk es _ _ hg hm wF r9 ov nP hb =>
  refine Ai hr hn (.lL ks vs []) 0 0 (obj:=.mapIter (some g) clk #[] clk) (w':={ w with heap:=w.heap.push (.mapIter (some g) clk #[] clk) }) rfl rfl rfl rfl (v:=.pointer (some ⟨w.heap.size,0,none⟩)) ?_ ?_ ?_
  ·simp [execOp,ho,Instr.range,run_underlying ht,hv,getObj,Sem.run,hg]
  ·intro M' β' hk hβ;exact ⟨g,es,clk,yK w _,(hk.map _ _ _ hg hm).1,(hk.map _ _ _ hg hm).2,wF,r9,fun k ui=>(ov k ui).mono hk hβ,fun k ui=>(nP k ui).mono hk hβ,hb,fun i hi=>by cases hi⟩
  ·intro M';exact .it (L:=⟨w.heap.size,0,0,0⟩) (uR _ _ _)
theorem Yep {es:Array MapEntry} {clk i:Nat} (h:jm es clk) (hi:i<es.size):es.find? (·.born==(es.getD i default).born)=some (es.getD i default):=by
 rw [Array.find?_eq_some_iff_getElem];have e:es.getD i default=es[i]:=by rw [ak,aE hi];rfl
 refine ⟨by simp,i,hi,e.symm,fun j hj=>?_⟩;have ej:es.getD j default=es[j]:=by rw [ak,aE (by omega)];rfl
 simp only [bw,beq_eq_false_iff_ne,ne_eq];intro hb;have:=h.2 j i (by omega) hi (by rw [ej];exact hb);omega
theorem Yft (hr:cS X base σ β w) {ρ:Operand→Value} {iC:Operand→ah} (er:∀ x,cf w (MT X σ β) β (ρ x) (iC x)) {o:Oper} {x:Operand} (ho:o.op = .entry x) {r:ah} {σ':ai}
  (h:pc σ (iC x)=some (r,σ')):c8 P X base σ β w nm (execOp ρ o) r σ':=by
 unfold pc at h;split at h
 ·rename_i b e1;have hx:=er x;rw [e1] at hx;obtain ⟨L',hL,hv⟩:∃ L,β b=some L∧ρ x = .pointer (some ⟨L.g,0,none⟩):=by
   generalize ρ x=v at hx;cases hx with | it h=>exact ⟨_,h,rfl⟩
  split at h
  ·rename_i ks vs seen hb;split at h
   ·rename_i i hi;cases h;obtain ⟨L,h1,_,_,m,es,clk,h2,h3,h4,h5,h6,h7,h8,h9,vg⟩:=hr.cw b _ (kq hb);obtain rfl:=aP (h1.symm.trans hL);have uh:i∈seen:=List.mem_of_getLast? hi;have xU:i<ks.length:=vg i uh;have rY:(seen.map fun i=>(es.getD i default).born).toArray.back? = some (es.getD i default).born:=by
     rw [List.back?_toArray,List.getLast?_map,hi];rfl
    refine c8.val hr (v:=.tuple #[(es.getD i default).key,(es.getD i default).val]) ?_ ?_
    ·simp only [execOp,ho,Instr.entry,hv];have g1:(getObj L.g).run P w = .ok (.mapIter (some m) clk (seen.map fun i=>(es.getD i default).born).toArray clk) w:=by simp [getObj,Sem.run,h2]
     have g2:(getObj m).run P w = .ok (.map es clk) w:=by simp [getObj,Sem.run,h3]
     have Ap:=Yep h9 (by omega:i<es.size);rw [ak] at Ap;simp [Sem.run_bind,g1,g2,hi,Ap]
    ·refine .dT rfl fun k hk=>?_
     match k,hk with
     | 0,_=>exact h7 i xU
     | 1,_=>exact h8 i xU
   ·cases h
  ·cases h
 ·cases h
theorem Yot (hr:cS X base σ β w) {ρ:Operand→Value} {iC:Operand→ah} (er:∀ x,cf w (MT X σ β) β (ρ x) (iC x)) {o:Oper} {x:Operand} (ho:o.op = .next x true) {r:ah} {σ':ai}
  (h:nQ σ (iC x)=some (r,σ')):c8 P X base σ β w nm (execOp ρ o) r σ':=by
 unfold nQ at h;split at h
 ·rename_i b e1;have hx:=er x;rw [e1] at hx;obtain ⟨L',hL,hv⟩:∃ L,β b=some L∧ρ x = .pointer (some ⟨L.g,0,none⟩):=by
   generalize ρ x=v at hx;cases hx with | it h=>exact ⟨_,h,rfl⟩
  split at h
  ·rename_i s pos hb;obtain ⟨L,h1,h1b,h1x,h2⟩:=hr.cw b _ (kq hb);obtain rfl:=aP (h1.symm.trans hL);have hg:(getObj L.g).run P w = .ok (.stringIter s pos) w:=by
    have:w.heap[L.g]? = some (.stringIter s pos):=h2;simp [getObj,Sem.run,this]
   split at h
   ·rename_i bA;cases h;have pg:L.g<w.heap.size:=(aO.1 h2).1;refine Dh (lu:=.iter s (pos+(Utf8.decode s pos).2)) hr (kq hb) h1 (w':={ w with heap:=w.heap.setIfInBounds L.g (.stringIter s (pos+(Utf8.decode s pos).2)) }) rfl rfl rfl (by simp)
     (fun g hg=>by simp [bJ,gQ hg]) (fun _ _ _ hn=>absurd trivial hn) (fun hn=>absurd trivial (hn 0)) (fun _ _=>trivial) (v:=.tuple #[.bool true, .int .i64 pos, .int .i32 (Utf8.decode s pos).1]) (.inl ?_) (fun M' hk=>?_) (fun M' _=>?_)
    ·have uH:w.heap[L.g]? = some (.stringIter s pos):=h2;simp [execOp,ho,Instr.next,hv,hg,bA,setObj,Sem.run,uH,goInt]
    ·show ({ w with heap:=w.heap.setIfInBounds L.g (.stringIter s (pos+(Utf8.decode s pos).2)) }:World).heap[L.g]? = _;simp [bJ,pg]
    ·exact .dT rfl fun j hj=>by
      match j,hj with
      | 0,_=>exact .bool _
      | 1,_=>exact .int _ _
      | 2,_=>exact .int _ _
   ·rename_i bA;cases h;refine c8.val hr (v:=.tuple #[.bool false]) ?_ (.dT rfl fun j hj=>by match j,hj with | 0,_=>exact .bool _)
    simp [execOp,ho,Instr.next,hv,hg,bA]
  ·cases h
 ·cases h
theorem Zqr (hr:cS X base σ β w) (hn : β nm=none) {ρ:Operand→Value} {iC:Operand→ah} (er:∀ x,cf w (MT X σ β) β (ρ x) (iC x)) {o:Oper} {t:TypeId} {lo co:Operand} (ho:o.op = .makeSlice t lo co)
  {T:j9} (hT:bU P t=some T) {r:ah} {σ':ai} (h:kh σ nm T (iC lo) (iC co)=some (r,σ')):c8 P X base σ β w nm (execOp ρ o) r σ':=by
 unfold kh at h;have hl:=er lo;have hc:=er co;split at h
 ·rename_i e l c hk he e1 e2;rw [e1] at hl;rw [e2] at hc;split at h
  ·rename_i ly;obtain ⟨h1,h2,h3,h4,h5,h6⟩:=ly;cases h;obtain ⟨et,ht,ju⟩:=uP hT hk;rw [he] at ju;obtain ⟨ti,_,z,rD,_,hz,hs,_,BA,_⟩:=qE ju.symm;obtain ⟨z',sU,_,sV,KF,F1,_⟩:=Cj (w:=w) (M:=MT X σ β) (β:=β) ju.symm;obtain rfl:z=z':=by
    have:=IG (P:=P) (w:=w) rD hz;rw [sU] at this;exact ((Result.ok.injEq _ _ _ _).mp this).1.symm
   have vo:(ti.bytes:Int)*c≤281474976710656:=by
    have:((ti.bytes:Nat):Int)*c≤65536*1000000000:=rI (by omega) h3 (by omega) (by omega);omega
   have ft:=run_make (P:=P) w t et ti z ht rD hz .i64 .i64 l c h1 h2 vo (by omega);refine Ai hr hn (.row (List.replicate l.toNat (zeroV e)) 0) c.toNat e.sz (obj:=.cells (madeCells z.cells (c.toNat*ti.size)) et) (w':=w.alloc (.cells (madeCells z.cells (c.toNat*ti.size)) et)) rfl rfl rfl rfl (v:=.slice (some ⟨w.heap.size,0,none⟩) l.toNat c.toNat) ?_ ?_ ?_
   ·simp only [execOp,ho,hl.eQ,hc.eQ,Sem.run_bind,ft,Result.andThen_ok,Sem.run_pure]
   ·intro M' β' Aw hβ;refine ⟨_,et,yK w _,?_,?_,fun i hi=>?_,fun i j hi hj=>?_⟩
    ·rw [size_madeCells,hs];simp
    ·simp only [bB];omega
    ·simp only [bB] at hi;simp only [List.getD,dv,if_pos hi,bx,IV ju.symm];exact KF
    ·simp only [bB] at hi;simp only [bq] at hj ⊢;have e3:(List.replicate l.toNat (zeroV e)).getD i ah.undef=zeroV e:=by simp only [List.getD,dv,if_pos hi,bx]
     rw [e3,IV ju.symm];have bA:i*e.sz+j<c.toNat*ti.size:=by
      have:(i+1)*e.sz≤c.toNat*e.sz:=bf _ (by omega);rw [bQ,dL] at this;rw [hs];omega
     have e4:(madeCells z.cells (c.toNat*ti.size)).getD (i*e.sz+j) undef=z.cells.getD j undef:=by
      have sS:j<z.cells.size:=by omega
      simp only [madeCells,ak,eZ,Array.getElem?_range,if_pos bA,bM,bx];have e5:(i*e.sz+j) % z.cells.size=j:=by rw [sV];exact (J7 hj).2
      rw [aE sS,bx,getElem!_pos z.cells _ (by rw [e5];exact sS)];simp only [e5]
     rw [e4];exact (F1 j hj).mono Aw hβ
   ·intro M';have:=cf.os (w:=w.alloc (.cells (madeCells z.cells (c.toNat*ti.size)) et)) (M:=M') (β:=pQ β nm ⟨w.heap.size,0,c.toNat,e.sz⟩) (b:=nm) (off:=0) (len:=l.toNat) (cap:=c.toNat) (L:=⟨w.heap.size,0,c.toNat,e.sz⟩) (uR _ _ _) (by omega) (by simp);simpa using this
  ·cases h
 ·cases h
theorem QE {a b:ByteArray} (h:(a.toList==b.toList)=true):a=b:=by
 have h1:a.toList=b.toList:=by simpa using h
 rw [ByteArray.toList_eq,ByteArray.toList_eq] at h1;apply ByteArray.ext;exact ew.1 h1
theorem Xg (k:ah):∀ (ks:List ah) (i j:Nat),fG k ks i=some j→fC k (ks.getD (j - i) .undef)=true
 | [],_,_,h=>by simp [fG] at h
 | x :: xs,i,j,h=>by
  simp only [fG] at h;split at h
  ·rename_i he;cases h;simpa using he
  ·have h1:=Gz k xs (i+1) j h;have h2:=Xg k xs (i+1) j h;rw [show j - i=(j - (i+1))+1 by omega,bI];exact h2
theorem SJ (hr:cS X base σ β w) {ρ:Operand→Value} {iC:Operand→ah} (er:∀ x,cf w (MT X σ β) β (ρ x) (iC x)) {o:Oper} {t:TypeId} {m k v:Operand} (ho:execOp ρ o=(do Instr.mapUpdate t (ρ m) (ρ k) (ρ v);pure .skip))
  {T:j9} (hT:bU P t=some T) {σ':ai} (h:gY σ T (iC m) (iC k) (iC v)=some σ'):c8 P X base σ β w nm (execOp ρ o) .undef σ':=by
 unfold gY at h;have hm:=er m;have r_:=er k;have PX:=er v;split at h
 ·rename_i e b hk he e1;rw [e1] at hm;split at h
  ·rename_i ks vs hb;split at h
   ·rename_i ly;cases h;simp only [aB,decide_eq_true_eq] at ly;obtain ⟨⟨O6,fq⟩,_⟩:=ly;obtain ⟨kt,et,u,h1,h2,h3,h4⟩:=Ta hT hk O6;obtain ⟨L,h5,vn,hX,es,clk,h6,hn,hv,ov,nP,rZ⟩:=hr.cw _ _ (kq hb);obtain ⟨L',hL,X8⟩:∃ L,β b=some L∧ρ m = .map (some L.g):=by
     generalize ρ m=vm at hm;cases hm with | map h=>exact ⟨_,h,rfl⟩
    obtain rfl:=aP (h5.symm.trans hL);have wE:(getObj L.g).run P w = .ok (.map es clk) w:=by simp [getObj,Sem.run,h6]
    have sP:=S4 (P:=P) (w:=w) h3 (by rcases h4 with ⟨ik,_,h,_⟩ | ⟨_,h,_⟩;exact .inl ⟨ik,h⟩;exact .inr h) false 9999 (ρ k);have eJ:∀ j,es.toList.getD j default=es.getD j default:=fun j=>by simp [List.getD,ak]
    have CK:=LB h4 r_ es.toList ks 0 (by simpa using hn) (fun j hj=>by rw [eJ];exact ov j hj) (by simpa using fq);have wD:(Instr.findKey kt (ρ k) es.toList).run P w = .ok ((fG (iC k) ks 0).map fun j=>(j,(es.getD j default).val)) w:=by
     simp only [Instr.findKey,Sem.run_bind,run_underlying h3,Result.andThen_ok,CK,ie,eJ];rfl
    have pg:L.g<w.heap.size:=(aO.1 h6).1;have fin:∀ (tb:Array MapEntry) (xJ:Nat) (wg uB:List ah),(execOp ρ o).run P w = .ok .skip { w with heap:=w.heap.setIfInBounds L.g (.map tb xJ) }→tb.size=wg.length→uB.length=wg.length →
      (∀ j,j<wg.length→cf w (MT X σ β) β (tb.getD j default).key (wg.getD j .undef))→(∀ j,j<wg.length→cf w (MT X σ β) β (tb.getD j default).val (uB.getD j .undef))→jm tb xJ →
      c8 P X base σ β w nm (execOp ρ o) .undef (cr σ b (.map wg uB false)):=by
     intro tb xJ wg uB ft q1 q2 q3 q4 q5;refine Dh (lu:=.map wg uB false) hr (kq hb) h5 (w':={ w with heap:=w.heap.setIfInBounds L.g (.map tb xJ) }) rfl rfl rfl (by simp)
      (fun g hg=>by simp [bJ,gQ hg]) (fun _ _ _ hn=>absurd rfl hn) (fun hn=>absurd rfl (hn 0)) (fun _ _=>rfl) (.inr ⟨ft,rfl⟩) (fun M' Aw=>?_) (fun M' _=>.undef _)
     refine ⟨tb,xJ,?_,q1,q2,fun j hj=>(q3 j hj).mono Aw fun _ _ h=>h,fun j hj=>(q4 j hj).mono Aw fun _ _ h=>h,q5⟩;show ({ w with heap:=w.heap.setIfInBounds L.g (.map tb xJ) }:World).heap[L.g]? = _;simp [bJ,pg]
    have gS:∀ ob,(setObj L.g ob).run P w = .ok () { w with heap:=w.heap.setIfInBounds L.g ob }:=fun ob=>by simp [setObj,Sem.run,h6]
    unfold jn;cases hf:fG (iC k) ks 0 with
    | none =>
     rw [hf] at wD;refine fin (es.push { key:=ρ k,val:=ρ v,born:=clk }) (clk+1) _ _ ?_ (by simp [hn]) (by simp [hv]) (fun j hj=>?_) (fun j hj=>?_) (Ygl rZ _ _)
     ·simp only [ho,Instr.mapUpdate,Sem.run_bind,run_underlying h1,Result.andThen_ok,X8,wE];rw [show (10000:Nat)=9999+1 from rfl,sP]
      simp only [Result.andThen_ok,wD,mF,gS,Sem.run_pure]
     ·simp only [az,dF] at hj;rw [uC,ak,fY];by_cases e2:j=es.size
      ·rw [if_pos e2,if_neg (by omega)];rw [show j - ks.length=0 by omega];exact r_
      ·rw [if_neg e2,if_pos (by omega),← ak];exact ov j (by omega)
     ·simp only [az,dF] at hj;rw [uC,ak,fY];by_cases e2:j=es.size
      ·rw [if_pos e2,if_neg (by omega)];rw [show j - vs.length=0 by omega];exact PX
      ·rw [if_neg e2,if_pos (by omega),← ak];exact nP j (by omega)
    | some i =>
     rw [hf] at wD;have xU:=(Gz _ _ _ _ hf).2;have heq:=Xg _ _ _ _ hf;simp only [ie] at xU heq;have D_:(es.getD i default).key = ρ k:=by
      have h7:=ov i xU;rcases h4 with ⟨ik,n,_,e2⟩ | ⟨s,_,e2⟩
      ·rw [e2] at r_ heq;have AA:=a8.1 fq (ks.getD i .undef) (by simp only [List.getD,av xU,bx];exact aC xU);rw [e2] at AA;cases O5:ks.getD i .undef<;>rw [O5] at heq AA h7<;>simp only [fC,sameKind,bd,beq_iff_eq] at heq AA;rw [h7.eQ,r_.eQ,heq,AA]
      ·rw [e2] at r_ heq;cases O5:ks.getD i .undef<;>rw [O5] at heq h7<;>simp only [fC,bd] at heq;rw [h7.hO,r_.hO];rw [QE heq]
     have uK:Instr.sameBits 10000 (ρ k) (ρ k)=true:=by
      rcases h4 with ⟨ik,n,_,e2⟩ | ⟨s,_,e2⟩<;>rw [e2] at r_
      ·rw [r_.eQ];simp [Instr.sameBits]
      ·rw [r_.hO];simp [Instr.sameBits,beq_toListBytes]
     have kj:i<es.size:=by omega
     have HG:(((es[i]?).map (·.key)).getD (ρ k)) = ρ k:=by
      rw [aE kj];rw [ak,aE kj] at D_;exact D_
     refine fin (es.modify i fun e=>{ e with key:=ρ k,val:=ρ v }) clk _ _ ?_ (by simp [hn]) (by simp [hv]) (fun j hj=>?_) (fun j hj=>?_) (Zw4 rZ _ _ _)
     ·simp only [ho,Instr.mapUpdate,Sem.run_bind,run_underlying h1,Result.andThen_ok,X8,wE];rw [show (10000:Nat)=9999+1 from rfl,sP]
      simp only [Result.andThen_ok,wD,bM,Sem.run_bind,HG,Instr.keyThatStays,uK,if_true,gS,Sem.run_pure]
     ·rw [ak,jl];by_cases e2:i=j
      ·subst e2;rw [if_pos rfl,aE kj];have:=ov i hj;rw [D_] at this;exact this
      ·rw [if_neg e2,← ak];exact ov j hj
     ·rw [ak,jl];by_cases e2:i=j
      ·subst e2;rw [if_pos rfl,aE kj,Gc _ _ _ (by omega)];exact PX
      ·rw [if_neg e2,← ak,getD_set_ne _ _ _ _ e2];exact nP j hj
   ·cases h
  ·cases h
 ·cases h
theorem UY (hr:cS X base σ β w) (hn : β nm=none) {ρ:Operand→Value} {iC:Operand→ah} (er:∀ x,cf w (MT X σ β) β (ρ x) (iC x)) (OG:∀ v,ρ (.const v)=v) {o:Oper} {r:ah} {σ':ai} (h:dt P σ nm iC o.op=some (r,σ')) :
  c8 P X base σ β w nm (execOp ρ o) r σ':=by
 have BD:=Yg3 hr hn;have mp:∀ {x:Option ah} (_:x.map (·,σ)=some (r,σ')),x=some r∧σ = σ':=by
  intro x hx;obtain ⟨a,h1,h2⟩:=aI.1 hx;simp only [bE] at h2;exact ⟨by rw [h1,h2.1],h2.2⟩
 cases ho:o.op with
 | move x =>
  rw [ho] at h;simp only [dt,aH,bE] at h;obtain ⟨rfl,rfl⟩:=h;exact c8.val hr (by simp [execOp,ho]) (er x)
 | assign x =>
  rw [ho] at h;simp only [dt,aH,bE] at h;obtain ⟨rfl,rfl⟩:=h;exact c8.val hr (by simp [execOp,ho]) (er x)
 | pick c a b =>
  rw [ho] at h;simp only [dt] at h;obtain ⟨h1,rfl⟩:=mp h;exact Ylh hr er ho h1
 | alloc t =>
  rw [ho] at h;simp only [dt] at h;obtain ⟨l,hl,h1⟩:=ay.1 h;simp only [aH,bE] at h1;obtain ⟨rfl,rfl⟩:=h1;exact Ydp hr hn ho hl
 | box t x =>
  rw [ho] at h;simp only [dt] at h;obtain ⟨l,hl,h1⟩:=ay.1 h;split at h1
  ·rename_i hc;simp only [aH,bE] at h1;obtain ⟨rfl,rfl⟩:=h1;exact Yt0 hr hn er ho hc.2
  ·cases h1
 | build t parts =>
  rw [ho] at h;simp only [dt] at h;obtain ⟨T,hT,h1⟩:=ay.1 h;obtain ⟨h2,rfl⟩:=mp h1;obtain ⟨v,h3,h4⟩:=Z9 hT er h2;exact c8.val hr (v:=v) (by simp only [execOp,ho,Sem.run_bind,h3,Result.andThen_ok,Sem.run_pure]) h4
 | buildSlice t n parts =>
  rw [ho] at h;simp only [dt] at h;obtain ⟨T,hT,h1⟩:=ay.1 h;obtain ⟨e,he,h2⟩:=ay.1 h1;obtain ⟨es,kj,h3⟩:=ay.1 h2;split at h3
  ·rename_i hc;simp only [aH,bE] at h3;obtain ⟨rfl,rfl⟩:=h3;exact Znn hr hn er ho hT he kj hc.1 hc.2.1 hc.2.2.1 hc.2.2.2.2
  ·cases h3
 | load t x =>
  rw [ho] at h;simp only [dt] at h;obtain ⟨l,hl,h1⟩:=ay.1 h;obtain ⟨h2,rfl⟩:=mp h1;exact Ymn hr er ho hl h2
 | store t x v =>
  rw [ho] at h;simp only [dt] at h;obtain ⟨l,hl,h1⟩:=ay.1 h;obtain ⟨s,h2,h3⟩:=aI.1 h1;simp only [bE] at h3;obtain ⟨rfl,rfl⟩:=h3;exact Yg4 hr er ho hl h2
 | nilCheck x =>
  rw [ho] at h;simp only [dt] at h;have hx:=er x;split at h
  ·rename_i b of e1;simp only [aH,bE] at h;obtain ⟨rfl,rfl⟩:=h;rw [e1] at hx;obtain ⟨L,hL,hv⟩:=hx.xu;exact c8.val hr (v:=ρ x) (by simp [execOp,ho,hv]) hx
  ·rename_i b i f e1;simp only [aH,bE] at h;obtain ⟨rfl,rfl⟩:=h;rw [e1] at hx;obtain ⟨L,hL,hv⟩:=hx.zS;exact c8.val hr (v:=ρ x) (by simp [execOp,ho,hv]) hx
  ·rename_i cs e1;simp only [aH,bE] at h;obtain ⟨rfl,rfl⟩:=h;rw [e1] at hx;obtain ⟨a,hv⟩:∃ a,ρ x = .pointer (some a):=by
    generalize ρ x=v at hx;cases hx;exact ⟨_,rfl⟩
   exact c8.val hr (v:=ρ x) (by simp [execOp,ho,hv]) hx
  ·rename_i f a c e1;simp only [aH,bE] at h;obtain ⟨rfl,rfl⟩:=h;rw [e1] at hx;obtain ⟨fa,ca,hv⟩:∃ fa ca,ρ x = .func (.func f) fa ca:=by
    generalize ρ x=v at hx;cases hx;exact ⟨_,_,rfl⟩
   exact c8.val hr (v:=ρ x) (by simp [execOp,ho,hv]) hx
  ·cases h
 | binOp op t x y u =>
  rw [ho] at h;simp only [dt] at h;obtain ⟨h1,rfl⟩:=mp h;obtain ⟨v,h2,h3⟩:∃ v,(do eqGuard op t x y (ρ x) (ρ y);_root_.Go.binOp op t (ρ x) (ρ y):Sem Value).run P w = .ok v w∧cf w (MT X σ β) β v r:=by
   unfold yT at h1;split at h1
   ·rename_i BO;have oB : ρ y = .slice none 0 0:=by rw [Yhl BO];exact OG _
    rw [oB];exact Ynv (er x) h1 x y
   ·exact Ynl (er x) (er y) h1 x y
  refine c8.val hr (v:=v) ?_ h3;simp only [Sem.run_bind] at h2;simp only [execOp,ho,Sem.run_bind,h2,Result.andThen_ok,Sem.run_pure]
 | unOp op t x =>
  rw [ho] at h;simp only [dt] at h;obtain ⟨h1,rfl⟩:=mp h;obtain ⟨v,h2,h3⟩:=Ytp (P:=P) (er x) h1;exact c8.val hr (v:=v) (by simp only [execOp,ho,Sem.run_bind,h2,Result.andThen_ok,Sem.run_pure]) h3
 | convert s d x =>
  rw [ho] at h;simp only [dt] at h;obtain ⟨h1,rfl⟩:=mp h;obtain ⟨v,h2,h3⟩:=Zs8 (P:=P) (er x) h1;exact c8.val hr (v:=v) (by simp only [execOp,ho,Sem.run_bind,h2,Result.andThen_ok,Sem.run_pure]) h3
 | makeInterface t x =>
  rw [ho] at h;simp only [dt] at h;split at h
  ·cases h
  ·rename_i k eH hk;simp only [aH,bE] at h;obtain ⟨rfl,rfl⟩:=h;obtain ⟨i,u,h1,h2,h3⟩:=yj hk;have:P.concrete t=true:=by
    have Pq:∀ ms,u≠.interface ms:=by rintro ms rfl;exact eH (by rw [← h3];rfl)
    simp only [Program.concrete,h2];cases u<;>first | rfl | exact absurd rfl (Pq _)
   exact c8.val hr (v:=.iface t (ρ x)) (by simp only [execOp,ho,Sem.run_bind,run_makeInterface w t (ρ x) this,Result.andThen_ok,Sem.run_pure]) (.iface (er x))
  ·cases h
 | makeFunc fn first captured =>
  rw [ho] at h;cases fn with
  | func f =>
   simp only [dt,aH,bE] at h;obtain ⟨rfl,rfl⟩:=h;refine c8.val hr (v:=.func (.func f) (first.map ρ) (captured.map ρ)) (by simp [execOp,ho,Instr.makeFunc]) (.fn (by simp) (by simp) (fun k hk=>?_) (fun k hk=>?_))
   ·simp only [aj,bH] at hk;rw [ak,eZ,aE hk];simp only [List.getD,cu,gP,aE hk,bM,bx];exact er _
   ·simp only [aj,bH] at hk;rw [ak,eZ,aE hk];simp only [List.getD,cu,gP,aE hk,bM,bx];exact er _
  | _=>simp [dt] at h
 | makeMap t r' =>
  rw [ho] at h;cases r' with
  | none =>
   simp only [dt,aH,bE] at h;obtain ⟨rfl,rfl⟩:=h;exact Zvt hr hn ho
  | some _=>simp [dt] at h
 | makeSlice t l c =>
  rw [ho] at h;simp only [dt] at h;obtain ⟨T,hT,h1⟩:=ay.1 h;exact Zqr hr hn er ho hT h1
 | slice t x lo hi mx =>
  rw [ho] at h;simp only [dt] at h;obtain ⟨T,hT,h1⟩:=ay.1 h;obtain ⟨h2,rfl⟩:=mp h1;obtain ⟨v,h3,h4⟩:=Ydc hT (er x) (NF er lo) (NF er hi) (NF er mx) h2;exact c8.val hr (v:=v) (by simp only [execOp,ho,Sem.run_bind,h3,Result.andThen_ok,Sem.run_pure]) h4
 | fieldAddr t x i =>
  rw [ho] at h;simp only [dt] at h;obtain ⟨T,hT,h1⟩:=ay.1 h;obtain ⟨h2,rfl⟩:=mp h1;obtain ⟨v,h3,h4⟩:=Znu hT (er x) h2;exact c8.val hr (v:=v) (by simp only [execOp,ho,Sem.run_bind,h3,Result.andThen_ok,Sem.run_pure]) h4
 | field t x i =>
  rw [ho] at h;simp only [dt] at h;obtain ⟨T,hT,h1⟩:=ay.1 h;obtain ⟨h2,rfl⟩:=mp h1;obtain ⟨v,h3,h4⟩:=Ybs hT (er x) h2;exact c8.val hr (v:=v) (by simp only [execOp,ho,Sem.run_bind,h3,Result.andThen_ok,Sem.run_pure]) h4
 | indexAddr t x i =>
  rw [ho] at h;simp only [dt] at h;obtain ⟨T,hT,h1⟩:=ay.1 h;obtain ⟨h2,rfl⟩:=mp h1;obtain ⟨v,h3,h4⟩:=Znv hT (er x) (er i) h2;exact c8.val hr (v:=v) (by simp only [execOp,ho,Sem.run_bind,h3,Result.andThen_ok,Sem.run_pure]) h4
 | index t x i =>
  rw [ho] at h;simp only [dt] at h;obtain ⟨T,hT,h1⟩:=ay.1 h;obtain ⟨h2,rfl⟩:=mp h1;obtain ⟨v,h3,h4⟩:=Ycu hT (er x) (er i) h2;exact c8.val hr (v:=v) (by simp only [execOp,ho,Sem.run_bind,h3,Result.andThen_ok,Sem.run_pure]) h4
 | lookup t x i ok =>
  rw [ho] at h;simp only [dt] at h;obtain ⟨T,hT,h1⟩:=ay.1 h;obtain ⟨h2,rfl⟩:=mp h1;obtain ⟨v,h3,h4⟩:=Zwc hr hT (er x) (er i) h2;exact c8.val hr (v:=v) (by simp only [execOp,ho,Sem.run_bind,h3,Result.andThen_ok,Sem.run_pure]) h4
 | mapUpdate t m k v =>
  rw [ho] at h;simp only [dt] at h;obtain ⟨T,hT,h1⟩:=ay.1 h;obtain ⟨s,h2,h3⟩:=aI.1 h1;simp only [bE] at h3;obtain ⟨rfl,rfl⟩:=h3;exact SJ hr er (by simp only [execOp,ho]) hT h2
 | insert t m k v =>
  rw [ho] at h;simp only [dt] at h;obtain ⟨T,hT,h1⟩:=ay.1 h;obtain ⟨s,h2,h3⟩:=aI.1 h1;simp only [bE] at h3;obtain ⟨rfl,rfl⟩:=h3;exact SJ hr er (by simp only [execOp,ho]) hT h2
 | range t x =>
  rw [ho] at h;simp only [dt] at h;obtain ⟨T,hT,h1⟩:=ay.1 h;split at h1
  ·rename_i s e1 e2;simp only [aH,bE] at h1;obtain ⟨rfl,rfl⟩:=h1;obtain ⟨u,h2,h3,h4,_⟩:=uS hT;have hx:=er x;rw [e2] at hx;exact Yj2 hr hn ho (by rw [h3,A_ (h4.trans e1)]) hx.hO
  ·rename_i ks vs e1 e2;simp only [aH,bE] at h1;obtain ⟨rfl,rfl⟩:=h1;obtain ⟨u,h2,h3,h4,_⟩:=uS hT;have hx:=er x;rw [e2] at hx;obtain ⟨kt,et,hu⟩:=Fi (h4.trans e1);exact Ybp hr hn ho (by rw [h3,hu]) hx
  ·cases h1
 | entry x =>
  rw [ho] at h;simp only [dt] at h;exact Yft hr er ho h
 | next x s =>
  rw [ho] at h;cases s with
  | true=>exact Yot hr er ho h
  | false=>simp [dt] at h
 | typeAssert x t u ok =>
  rw [ho] at h;simp only [dt] at h;obtain ⟨h2,rfl⟩:=mp h;obtain ⟨v,h3,h4⟩:=Zm6 (xt:=t) (er x) h2;exact c8.val hr (v:=v) (by simp only [execOp,ho,Sem.run_bind,h3,Result.andThen_ok,Sem.run_pure]) h4
 | extract x i =>
  rw [ho] at h;simp only [dt] at h;split at h
  ·rename_i vs e1;obtain ⟨h2,rfl⟩:=mp h;have hx:=er x;rw [e1] at hx;obtain ⟨v,h3,h4⟩:=Zrr (P:=P) hx h2;exact c8.val hr (v:=v) (by simp only [execOp,ho,Sem.run_bind,h3,Result.andThen_ok,Sem.run_pure]) h4
  ·cases h
 | call c =>
  rw [ho] at h;obtain ⟨callee,args,argTypes⟩:=c;cases callee with
  | builtin b =>
   simp only [dt] at h;have HD:execOp ρ o=(builtin b argTypes o.type (args.map fun | .const _=>true | _=>false) (args.map ρ)):=by
    simp only [execOp,ho,resolve];rfl
   rw [HD];have rW:(args.map ρ).toList=args.toList.map ρ:=by simp
   unfold fF at h;split at h
   ·rename_i t x e1 e2;have ht:argTypes = #[t]:=ew.1 (by rw [e1]);obtain ⟨T,hT,h1⟩:=ay.1 h;obtain ⟨y,hy,xl⟩:∃ y,args.toList=[y]∧iC y=x:=by
     cases mO:args.toList with
     | nil=>rw [mO] at e2;simp at e2
     | cons y ys=>rw [mO] at e2;simp at e2;obtain ⟨q1,q2⟩:=e2;exact ⟨y,by rw [q2],q1⟩
    have vl:args.map ρ = #[ρ y]:=ew.1 (by rw [rW,hy];rfl);rw [ht,vl];have hx:=er y;rw [xl] at hx;split at h1
    ·rename_i n hk;simp only [aH,bE] at h1;obtain ⟨rfl,rfl⟩:=h1;obtain ⟨u,h2,h3,h4,_⟩:=uS hT;obtain ⟨et,rfl⟩:=I1 (h4.trans hk);refine c8.val hr (v:=.int .i64 n) ?_ (.int _ _);simp only [builtin,Builtin.len_,Sem.run_bind,Sem.run_pure,Result.andThen_ok];simp [run_underlying h3,goInt]
    ·rename_i hk;obtain ⟨n,h2,h3⟩:=aI.1 h1;simp only [bE] at h3;obtain ⟨rfl,rfl⟩:=h3;refine c8.val hr (v:=.int .i64 n) ?_ (.int _ _);simp only [builtin,Sem.run_bind,M6 hr hT (.inl hk) hx h2 o.type,Result.andThen_ok,Sem.run_pure]
    ·rename_i hk;obtain ⟨n,h2,h3⟩:=aI.1 h1;simp only [bE] at h3;obtain ⟨rfl,rfl⟩:=h3;refine c8.val hr (v:=.int .i64 n) ?_ (.int _ _);simp only [builtin,Sem.run_bind,M6 hr hT (.inr (.inl hk)) hx h2 o.type,Result.andThen_ok,Sem.run_pure]
    ·rename_i hk;obtain ⟨n,h2,h3⟩:=aI.1 h1;simp only [bE] at h3;obtain ⟨rfl,rfl⟩:=h3;refine c8.val hr (v:=.int .i64 n) ?_ (.int _ _);simp only [builtin,Sem.run_bind,M6 hr hT (.inr (.inr hk)) hx h2 o.type,Result.andThen_ok,Sem.run_pure]
    ·cases h1
   ·rename_i t u s x e1 e2;have ht:argTypes = #[t,u]:=ew.1 (by rw [e1]);obtain ⟨T,hT,h1⟩:=ay.1 h;obtain ⟨U,hU,h2⟩:=ay.1 h1;obtain ⟨y,z,hy,xl,P1⟩:∃ y z,args.toList=[y,z]∧iC y=s∧iC z=x:=by
     cases mO:args.toList with
     | nil=>rw [mO] at e2;simp at e2
     | cons y ys =>
      cases ys with
      | nil=>rw [mO] at e2;simp at e2
      | cons z zs=>rw [mO] at e2;simp at e2;obtain ⟨q1,q2,q3⟩:=e2;exact ⟨y,z,by rw [q3],q1,q2⟩
    have vl:args.map ρ = #[ρ y,ρ z]:=ew.1 (by rw [rW,hy];rfl);rw [ht,vl];have hs:=er y;rw [xl] at hs;have hx:=er z;rw [P1] at hx;split at h2
    ·rename_i e hk he r9;obtain ⟨et,xY,ju⟩:=uP hT hk;rw [he] at ju;obtain ⟨eu,wb,_⟩:=uP hU r9;obtain ⟨xs,xk,h3⟩:=ay.1 h2;obtain ⟨news,oA⟩:=I8 (P:=P) hr hx xk;exact Lm hr hn BD ju.symm hs oA.Qj h3 o.type (.zM xY wb (.inl ⟨_,rfl⟩) ju.symm oA) rfl
    ·rename_i e hk he r9;obtain ⟨et,xY,ju⟩:=uP hT hk;rw [he] at ju;obtain ⟨u',h4,h5,h6,_⟩:=uS hU;obtain rfl:=A_ (h6.trans r9);split at h2
     ·rename_i y';rw [hx.hO];split at h2
      ·rename_i h1z;obtain ⟨news,oA⟩:∃ news,Src P w (MT X σ β) β e.sz (.string y') (bytesOf y') news:=⟨_,by rw [h1z];exact Yj0⟩;exact Lm hr hn BD ju.symm hs oA.Qj h2 o.type (.zM xY h5 (.inr rfl) ju.symm oA) rfl
      ·cases h2
     ·cases h2
    ·rename_i e k' hk he r9;obtain ⟨et,xY,ju⟩:=uP hT hk;rw [he] at ju;obtain ⟨u',h4,h5,h6,_⟩:=uS hU;obtain rfl:=Jv (h6.trans r9);obtain ⟨i,_,z,hi,_,hz,_⟩:=qE ju.symm;split at h2
     ·rename_i n';split at h2
      ·rename_i hc;have CD : 0<e.sz∧e.bytes≤65536:=Yd8 h2;have hxx:=hx.eQ;rw [hxx];exact Lm hr hn BD ju.symm hs (Vx ju.symm _ hi hz) h2 o.type (by simpa using ny.zN xY h5 ju.symm CD.1 CD.2 hc.1 hc.2.1 hc.2.2 hi hz) rfl
      ·cases h2
     ·cases h2
    ·cases h2
   ·rename_i t x e1 e2;have ht:argTypes = #[t]:=ew.1 (by rw [e1]);obtain ⟨T,hT,h1⟩:=ay.1 h;obtain ⟨y,hy,xl⟩:∃ y,args.toList=[y]∧iC y=x:=by
     cases mO:args.toList with
     | nil=>rw [mO] at e2;simp at e2
     | cons y ys=>rw [mO] at e2;simp at e2;obtain ⟨q1,q2⟩:=e2;exact ⟨y,by rw [q2],q1⟩
    have vl:args.map ρ = #[ρ y]:=ew.1 (by rw [rW,hy];rfl);rw [ht,vl];have hx:=er y;rw [xl] at hx;split at h1
    ·rename_i hk;obtain ⟨et,xY,ju⟩:=uP hT hk;obtain ⟨n,h2,h3⟩:=aI.1 h1;cases h3;refine c8.val hr (v:=.int .i64 n) ?_ (.int _ _);obtain ⟨a,m,hv⟩:=Ylf hx h2;rw [hv];simp [builtin,Builtin.cap_,run_underlying xY,goInt]
    ·cases h1
   ·rename_i t x e1 e2;have ht:argTypes = #[t]:=ew.1 (by rw [e1]);obtain ⟨T,hT,h1⟩:=ay.1 h;obtain ⟨y,hy,xl⟩:∃ y,args.toList=[y]∧iC y=x:=by
     cases mO:args.toList with
     | nil=>rw [mO] at e2;simp at e2
     | cons y ys=>rw [mO] at e2;simp at e2;obtain ⟨q1,q2⟩:=e2;exact ⟨y,by rw [q2],q1⟩
    have vl:args.map ρ = #[ρ y]:=ew.1 (by rw [rW,hy];rfl);rw [ht,vl];have hx:=er y;rw [xl] at hx;split at h1
    ·rename_i e hk he;obtain ⟨et,xY,ju⟩:=uP hT hk;rw [he] at ju;obtain ⟨n,h2,h3⟩:=ay.1 h1;exact Yiu hr xY ju.symm hx h2 h3 o.type rfl
    ·cases h1
   ·rename_i t u s x e1 e2;have ht:argTypes = #[t,u]:=ew.1 (by rw [e1]);obtain ⟨T,hT,h1⟩:=ay.1 h;obtain ⟨U,hU,h2⟩:=ay.1 h1;obtain ⟨y,z,hy,xl,P1⟩:∃ y z,args.toList=[y,z]∧iC y=s∧iC z=x:=by
     cases mO:args.toList with
     | nil=>rw [mO] at e2;simp at e2
     | cons y ys =>
      cases ys with
      | nil=>rw [mO] at e2;simp at e2
      | cons z zs=>rw [mO] at e2;simp at e2;obtain ⟨q1,q2,q3⟩:=e2;exact ⟨y,z,by rw [q3],q1,q2⟩
    have vl:args.map ρ = #[ρ y,ρ z]:=ew.1 (by rw [rW,hy];rfl);rw [ht,vl];have hs:=er y;rw [xl] at hs;have hx:=er z;rw [P1] at hx;split at h2
    ·rename_i e hk he r9;obtain ⟨et,xY,ju⟩:=uP hT hk;rw [he] at ju;obtain ⟨n,h3,h4⟩:=ay.1 h2;obtain ⟨xs,h5,h6⟩:=ay.1 h4;exact Ykn hr xY ju.symm hs hx h3 h5 h6 o.type rfl
    ·cases h2
   ·rename_i ts x rest e2;obtain ⟨h2,rfl⟩:=mp h;obtain ⟨y,ys,hy,xl,CT⟩:∃ y ys,args.toList=y :: ys∧iC y=x∧ys.map iC=rest:=by
     cases mO:args.toList with
     | nil=>rw [mO] at e2;simp at e2
     | cons y ys=>rw [mO] at e2;simp at e2;exact ⟨y,ys,rfl,e2.1,e2.2⟩
    subst xl;subst CT;obtain ⟨v,h3,h4⟩:=Wn (P:=P) (ys.map ρ) (ys.map iC) (ρ y) (iC y) r (by simp) (fun k hk=>by
     simp only [aj] at hk;simp only [List.getD,cu,av hk,bM,bx];exact er _) (er y) h2
    refine c8.val hr (v:=v) ?_ h4;simp only [builtin,Builtin.max_,rW,hy,aK,Sem.run_bind,h3,Result.andThen_ok,Sem.run_pure]
   ·rename_i ts x rest e2;obtain ⟨h2,rfl⟩:=mp h;obtain ⟨y,ys,hy,xl,CT⟩:∃ y ys,args.toList=y :: ys∧iC y=x∧ys.map iC=rest:=by
     cases mO:args.toList with
     | nil=>rw [mO] at e2;simp at e2
     | cons y ys=>rw [mO] at e2;simp at e2;exact ⟨y,ys,rfl,e2.1,e2.2⟩
    subst xl;subst CT;obtain ⟨v,h3,h4⟩:=Xi (P:=P) (ys.map ρ) (ys.map iC) (ρ y) (iC y) r (by simp) (fun k hk=>by
     simp only [aj] at hk;simp only [List.getD,cu,av hk,bM,bx];exact er _) (er y) h2
    refine c8.val hr (v:=v) ?_ h4;simp only [builtin,Builtin.min_,rW,hy,aK,Sem.run_bind,h3,Result.andThen_ok,Sem.run_pure]
   ·cases h
  | _=>simp [dt] at h
 | _=>rw [ho] at h;simp [dt] at h
end
end Go.dm
