/- Part 9 of my own framework and of the walks of functions: AbsK. -/
import Derived.Test.YtpgnahcljlclcaaGreatOwn8
set_option linter.unusedVariables false
set_option linter.unusedSectionVars false
set_option linter.unusedSimpArgs false
namespace Go.Abs
open Go
section
variable {P:Program} {X:Nat→Nat→Prop} {base:Nat} {σ:Store} {β:Env} {w:World} {nm:Nat} {M:Nat→Nat→Prop}
theorem Yat (hr:RelS X base σ β w) (hn : β nm=none):getS σ nm=none:=by
 cases h:getS σ nm with
 | none=>rfl
 | some blk =>
  obtain ⟨L,h1,_⟩:=hr.blk nm blk (Zae h)
  rw [hn] at h1;cases h1
theorem Zqs (hr:RelS X base σ β w) (hn : β nm=none) {ρ:Operand→Value} {o:Oper} {t:TypeId} (ho:o.op = .makeMap t none) :
  OpOut P X base σ β w nm (execOp ρ o) (.map nm) (setS σ nm (.map [] [] false)):=by
 refine Zf2 hr hn (.map [] [] false) 0 0 (obj:=.map #[] 0) (w':={ w with heap:=w.heap.push (.map #[] 0) }) rfl rfl rfl rfl (v:=.map (some w.heap.size)) ?_ ?_ ?_
 ·simp [execOp,ho,Instr.makeMap]
 ·intro M' β' hk hβ
  exact ⟨#[],0,Zbd w _,rfl,rfl,fun k hk'=>by simp at hk',fun k hk'=>by simp at hk',Yi3⟩
 ·intro M'
  exact .map (L:=⟨w.heap.size,0,0,0⟩) (Zbs _ _ _)
theorem Zyp (hr:RelS X base σ β w) (hn : β nm=none) {ρ:Operand→Value} {o:Oper} {t:TypeId} {x:Operand} {s:ByteArray} (ho:o.op = .range t x) (ht:P.underlying t=some .string) (hx : ρ x = .string s) :
  OpOut P X base σ β w nm (execOp ρ o) (.it nm) (setS σ nm (.iter s 0)):=by
 refine Zf2 hr hn (.iter s 0) 0 0 (obj:=.stringIter s 0) (w':={ w with heap:=w.heap.push (.stringIter s 0) }) rfl rfl rfl rfl (v:=.pointer (some ⟨w.heap.size,0,none⟩)) ?_ ?_ ?_
 ·simp [execOp,ho,Instr.range,run_underlying ht,hx]
 ·intro M' β' hk hβ
  exact Zbd w _
 ·intro M'
  exact .it (L:=⟨w.heap.size,0,0,0⟩) (Zbs _ _ _)
theorem Zwg (hr:RelS X base σ β w) (hn : β nm=none) {ρ:Operand→Value} {o:Oper} {t kt et:TypeId} {x:Operand} {ks vs:List AVal} (ho:o.op = .range t x) (ht:P.underlying t=some (.map kt et)) (hx:Rep w (MT X σ β) β (ρ x) (.pm ks vs)) :
  OpOut P X base σ β w nm (execOp ρ o) (.it nm) (setS σ nm (.mit ks vs [])):=by
 obtain ⟨v,hv⟩:∃ v,ρ x=v:=⟨_,rfl⟩
 rw [hv] at hx
 cases hx with
 | @pm g clk es _ _ hg hm hk1 hk2 hr1 hr2 hb =>
  refine Zf2 hr hn (.mit ks vs []) 0 0 (obj:=.mapIter (some g) clk #[] clk) (w':={ w with heap:=w.heap.push (.mapIter (some g) clk #[] clk) }) rfl rfl rfl rfl (v:=.pointer (some ⟨w.heap.size,0,none⟩)) ?_ ?_ ?_
  ·simp [execOp,ho,Instr.range,run_underlying ht,hv,getObj,Sem.run,hg]
  ·intro M' β' hk hβ
   exact ⟨g,es,clk,Zbd w _,(hk.map _ _ _ hg hm).1,(hk.map _ _ _ hg hm).2,hk1,hk2,fun k hkk=>(hr1 k hkk).mono hk hβ,fun k hkk=>(hr2 k hkk).mono hk hβ,hb,fun i hi=>by cases hi⟩
  ·intro M'
   exact .it (L:=⟨w.heap.size,0,0,0⟩) (Zbs _ _ _)
theorem Yad {es:Array MapEntry} {clk i:Nat} (h:BornOk es clk) (hi:i<es.size):es.find? (·.born==(es.getD i default).born)=some (es.getD i default):=by
 rw [Array.find?_eq_some_iff_getElem]
 have e:es.getD i default=es[i]:=by rw [Array.getD_eq_getD_getElem?,Array.getElem?_eq_getElem hi];rfl
 refine ⟨by simp,i,hi,e.symm,fun j hj=>?_⟩
 have ej:es.getD j default=es[j]:=by rw [Array.getD_eq_getD_getElem?,Array.getElem?_eq_getElem (by omega)];rfl
 simp only [Bool.not_eq_true',beq_eq_false_iff_ne,ne_eq]
 intro hb
 have:=h.2 j i (by omega) hi (by rw [ej];exact hb)
 omega
theorem Yb5 (hr:RelS X base σ β w) {ρ:Operand→Value} {ρa:Operand→AVal} (hρ:∀ x,Rep w (MT X σ β) β (ρ x) (ρa x)) {o:Oper} {x:Operand} (ho:o.op = .entry x) {r:AVal} {σ':Store}
  (h:entryA σ (ρa x)=some (r,σ')):OpOut P X base σ β w nm (execOp ρ o) r σ':=by
 unfold entryA at h
 split at h
 ·rename_i b e1
  have hx:=hρ x
  rw [e1] at hx
  obtain ⟨L',hL,hv⟩:∃ L,β b=some L∧ρ x = .pointer (some ⟨L.g,0,none⟩):=by
   generalize ρ x=v at hx
   cases hx with | it h=>exact ⟨_,h,rfl⟩
  split at h
  ·rename_i ks vs seen hb
   split at h
   ·rename_i i hi
    cases h
    obtain ⟨L,h1,_,_,m,es,clk,h2,h3,h4,h5,h6,h7,h8,h9,h10⟩:=hr.blk b _ (Zae hb)
    obtain rfl:=Option.some.inj (h1.symm.trans hL)
    have him:i∈seen:=List.mem_of_getLast? hi
    have hil:i<ks.length:=h10 i him
    have hback:(seen.map fun i=>(es.getD i default).born).toArray.back? = some (es.getD i default).born:=by
     rw [List.back?_toArray,List.getLast?_map,hi];rfl
    refine OpOut.val hr (v:=.tuple #[(es.getD i default).key,(es.getD i default).val]) ?_ ?_
    ·simp only [execOp,ho,Instr.entry,hv]
     have g1:(getObj L.g).run P w = .ok (.mapIter (some m) clk (seen.map fun i=>(es.getD i default).born).toArray clk) w:=by simp [getObj,Sem.run,h2]
     have g2:(getObj m).run P w = .ok (.map es clk) w:=by simp [getObj,Sem.run,h3]
     have hfb:=Yad h9 (by omega:i<es.size)
     rw [Array.getD_eq_getD_getElem?] at hfb
     simp [Sem.run_bind,g1,g2,hi,hfb]
    ·refine .tup rfl fun k hk=>?_
     match k,hk with
     | 0,_=>exact h7 i hil
     | 1,_=>exact h8 i hil
   ·cases h
  ·cases h
 ·cases h
theorem Yhe (hr:RelS X base σ β w) {ρ:Operand→Value} {ρa:Operand→AVal} (hρ:∀ x,Rep w (MT X σ β) β (ρ x) (ρa x)) {o:Oper} {x:Operand} (ho:o.op = .next x true) {r:AVal} {σ':Store}
  (h:iterNext σ (ρa x)=some (r,σ')):OpOut P X base σ β w nm (execOp ρ o) r σ':=by
 unfold iterNext at h
 split at h
 ·rename_i b e1
  have hx:=hρ x
  rw [e1] at hx
  obtain ⟨L',hL,hv⟩:∃ L,β b=some L∧ρ x = .pointer (some ⟨L.g,0,none⟩):=by
   generalize ρ x=v at hx
   cases hx with | it h=>exact ⟨_,h,rfl⟩
  split at h
  ·rename_i s pos hb
   obtain ⟨L,h1,h1b,h1x,h2⟩:=hr.blk b _ (Zae hb)
   obtain rfl:=Option.some.inj (h1.symm.trans hL)
   have hg:(getObj L.g).run P w = .ok (.stringIter s pos) w:=by
    have:w.heap[L.g]? = some (.stringIter s pos):=h2
    simp [getObj,Sem.run,this]
   split at h
   ·rename_i hlt
    cases h
    have hlt2:L.g<w.heap.size:=(Array.getElem?_eq_some_iff.1 h2).1
    refine Zes (blk':=.iter s (pos+(Utf8.decode s pos).2)) hr (Zae hb) h1 (w':={ w with heap:=w.heap.setIfInBounds L.g (.stringIter s (pos+(Utf8.decode s pos).2)) }) rfl rfl rfl (by simp)
     (fun g hg=>by simp [Array.getElem?_setIfInBounds,Ne.symm hg]) (fun _ _ _ hn=>absurd trivial hn) (fun hn=>absurd trivial (hn 0)) (fun _ _=>trivial) (v:=.tuple #[.bool true, .int .i64 pos, .int .i32 (Utf8.decode s pos).1]) (.inl ?_) (fun M' hk=>?_) (fun M' _=>?_)
    ·have h2':w.heap[L.g]? = some (.stringIter s pos):=h2
     simp [execOp,ho,Instr.next,hv,hg,hlt,setObj,Sem.run,h2',goInt]
    ·show ({ w with heap:=w.heap.setIfInBounds L.g (.stringIter s (pos+(Utf8.decode s pos).2)) }:World).heap[L.g]? = _
     simp [Array.getElem?_setIfInBounds,hlt2]
    ·exact .tup rfl fun j hj=>by
      match j,hj with
      | 0,_=>exact .bool _
      | 1,_=>exact .int _ _
      | 2,_=>exact .int _ _
   ·rename_i hlt
    cases h
    refine OpOut.val hr (v:=.tuple #[.bool false]) ?_ (.tup rfl fun j hj=>by match j,hj with | 0,_=>exact .bool _)
    simp [execOp,ho,Instr.next,hv,hg,hlt]
  ·cases h
 ·cases h
theorem Zmw (hr:RelS X base σ β w) (hn : β nm=none) {ρ:Operand→Value} {ρa:Operand→AVal} (hρ:∀ x,Rep w (MT X σ β) β (ρ x) (ρa x)) {o:Oper} {t:TypeId} {lo co:Operand} (ho:o.op = .makeSlice t lo co)
  {T:TyA} (hT:tyA P t=some T) {r:AVal} {σ':Store} (h:makeSliceA σ nm T (ρa lo) (ρa co)=some (r,σ')):OpOut P X base σ β w nm (execOp ρ o) r σ':=by
 unfold makeSliceA at h
 have hl:=hρ lo
 have hc:=hρ co
 split at h
 ·rename_i e l c hk he e1 e2
  rw [e1] at hl
  rw [e2] at hc
  split at h
  ·rename_i hcond
   obtain ⟨h1,h2,h3,h4,h5,h6⟩:=hcond
   cases h
   obtain ⟨et,ht,hel⟩:=Zb7 hT hk
   rw [he] at hel
   obtain ⟨ti,_,z,hti,_,hz,hs,_,hby,_⟩:=Zao hel.symm
   obtain ⟨z',hz1,_,hz2,hz3,hz4,_⟩:=Zd0 (w:=w) (M:=MT X σ β) (β:=β) hel.symm
   obtain rfl:z=z':=by
    have:=Zd9 (P:=P) (w:=w) hti hz
    rw [hz1] at this
    exact ((Result.ok.injEq _ _ _ _).mp this).1.symm
   have hbig:(ti.bytes:Int)*c≤281474976710656:=by
    have:((ti.bytes:Nat):Int)*c≤65536*1000000000:=Int.mul_le_mul (by omega) h3 (by omega) (by omega)
    omega
   have hrun:=run_make (P:=P) w t et ti z ht hti hz .i64 .i64 l c h1 h2 hbig (by omega)
   refine Zf2 hr hn (.row (List.replicate l.toNat (zeroV e)) 0) c.toNat e.sz (obj:=.cells (madeCells z.cells (c.toNat*ti.size)) et) (w':=w.alloc (.cells (madeCells z.cells (c.toNat*ti.size)) et)) rfl rfl rfl rfl (v:=.slice (some ⟨w.heap.size,0,none⟩) l.toNat c.toNat) ?_ ?_ ?_
   ·simp only [execOp,ho,hl.int_inv,hc.int_inv,Sem.run_bind,hrun,Result.andThen_ok,Sem.run_pure]
   ·intro M' β' hkp hβ
    refine ⟨_,et,Zbd w _,?_,?_,fun i hi=>?_,fun i j hi hj=>?_⟩
    ·rw [size_madeCells,hs];simp
    ·simp only [List.length_replicate];omega
    ·simp only [List.length_replicate] at hi
     simp only [List.getD,List.getElem?_replicate,if_pos hi,Option.getD_some,Zev hel.symm];exact hz3
    ·simp only [List.length_replicate] at hi
     simp only [Nat.zero_add] at hj ⊢
     have e3:(List.replicate l.toNat (zeroV e)).getD i AVal.undef=zeroV e:=by simp only [List.getD,List.getElem?_replicate,if_pos hi,Option.getD_some]
     rw [e3,Zev hel.symm]
     have hlt:i*e.sz+j<c.toNat*ti.size:=by
      have:(i+1)*e.sz≤c.toNat*e.sz:=Nat.mul_le_mul_right _ (by omega)
      rw [Nat.add_mul,Nat.one_mul] at this;rw [hs];omega
     have e4:(madeCells z.cells (c.toNat*ti.size)).getD (i*e.sz+j) undef=z.cells.getD j undef:=by
      have hj':j<z.cells.size:=by omega
      simp only [madeCells,Array.getD_eq_getD_getElem?,Array.getElem?_map,Array.getElem?_range,if_pos hlt,Option.map_some,Option.getD_some]
      have e5:(i*e.sz+j) % z.cells.size=j:=by rw [hz2];exact (Ztu hj).2
      rw [Array.getElem?_eq_getElem hj',Option.getD_some,getElem!_pos z.cells _ (by rw [e5];exact hj')]
      simp only [e5]
     rw [e4]
     exact (hz4 j hj).mono hkp hβ
   ·intro M'
    have:=Rep.os (w:=w.alloc (.cells (madeCells z.cells (c.toNat*ti.size)) et)) (M:=M') (β:=upd β nm ⟨w.heap.size,0,c.toNat,e.sz⟩) (b:=nm) (off:=0) (len:=l.toNat) (cap:=c.toNat) (L:=⟨w.heap.size,0,c.toNat,e.sz⟩) (Zbs _ _ _) (by omega) (by simp)
    simpa using this
  ·cases h
 ·cases h
theorem Zte {a b:ByteArray} (h:(a.toList==b.toList)=true):a=b:=by
 have h1:a.toList=b.toList:=by simpa using h
 rw [ByteArray.toList_eq,ByteArray.toList_eq] at h1
 apply ByteArray.ext
 exact Array.toList_inj.1 h1
theorem Zus (k:AVal):∀ (ks:List AVal) (i j:Nat),findK k ks i=some j→eqCell k (ks.getD (j - i) .undef)=true
 | [],_,_,h=>by simp [findK] at h
 | x :: xs,i,j,h=>by
  simp only [findK] at h
  split at h
  ·rename_i he;cases h;simpa using he
  ·have h1:=Zgu k xs (i+1) j h
   have h2:=Zus k xs (i+1) j h
   rw [show j - i=(j - (i+1))+1 by omega,List.getD_cons_succ];exact h2
theorem Zh1 (hr:RelS X base σ β w) {ρ:Operand→Value} {ρa:Operand→AVal} (hρ:∀ x,Rep w (MT X σ β) β (ρ x) (ρa x)) {o:Oper} {t:TypeId} {m k v:Operand} (ho:execOp ρ o=(do Instr.mapUpdate t (ρ m) (ρ k) (ρ v);pure .skip))
  {T:TyA} (hT:tyA P t=some T) {σ':Store} (h:mapUpdateA σ T (ρa m) (ρa k) (ρa v)=some σ'):OpOut P X base σ β w nm (execOp ρ o) .undef σ':=by
 unfold mapUpdateA at h
 have hm:=hρ m
 have hkr:=hρ k
 have hvr:=hρ v
 split at h
 ·rename_i e b hk he e1
  rw [e1] at hm
  split at h
  ·rename_i ks vs hb
   split at h
   ·rename_i hcond
    cases h
    simp only [Bool.and_eq_true,decide_eq_true_eq] at hcond
    obtain ⟨⟨hko,hall⟩,_⟩:=hcond
    obtain ⟨kt,et,u,h1,h2,h3,h4⟩:=Zjp hT hk hko
    obtain ⟨L,h5,hbase,hX,es,clk,h6,hn,hv,hr1,hr2,hbo⟩:=hr.blk _ _ (Zae hb)
    obtain ⟨L',hL,hmv⟩:∃ L,β b=some L∧ρ m = .map (some L.g):=by
     generalize ρ m=vm at hm
     cases hm with | map h=>exact ⟨_,h,rfl⟩
    obtain rfl:=Option.some.inj (h5.symm.trans hL)
    have hgo:(getObj L.g).run P w = .ok (.map es clk) w:=by simp [getObj,Sem.run,h6]
    have hck:=Zil (P:=P) (w:=w) h3 (by rcases h4 with ⟨ik,_,h,_⟩ | ⟨_,h,_⟩;exact .inl ⟨ik,h⟩;exact .inr h) false 9999 (ρ k)
    have hget:∀ j,es.toList.getD j default=es.getD j default:=fun j=>by simp [List.getD,Array.getD_eq_getD_getElem?]
    have hfn:=Zi8 h4 hkr es.toList ks 0 (by simpa using hn) (fun j hj=>by rw [hget];exact hr1 j hj) (by simpa using hall)
    have hfk:(Instr.findKey kt (ρ k) es.toList).run P w = .ok ((findK (ρa k) ks 0).map fun j=>(j,(es.getD j default).val)) w:=by
     simp only [Instr.findKey,Sem.run_bind,run_underlying h3,Result.andThen_ok,hfn,Nat.sub_zero,hget]
     rfl
    have hlt2:L.g<w.heap.size:=(Array.getElem?_eq_some_iff.1 h6).1
    have fin:∀ (es':Array MapEntry) (clk':Nat) (ks' vs':List AVal),(execOp ρ o).run P w = .ok .skip { w with heap:=w.heap.setIfInBounds L.g (.map es' clk') }→es'.size=ks'.length→vs'.length=ks'.length →
      (∀ j,j<ks'.length→Rep w (MT X σ β) β (es'.getD j default).key (ks'.getD j .undef))→(∀ j,j<ks'.length→Rep w (MT X σ β) β (es'.getD j default).val (vs'.getD j .undef))→BornOk es' clk' →
      OpOut P X base σ β w nm (execOp ρ o) .undef (setS σ b (.map ks' vs' false)):=by
     intro es' clk' ks' vs' hrun q1 q2 q3 q4 q5
     refine Zes (blk':=.map ks' vs' false) hr (Zae hb) h5 (w':={ w with heap:=w.heap.setIfInBounds L.g (.map es' clk') }) rfl rfl rfl (by simp)
      (fun g hg=>by simp [Array.getElem?_setIfInBounds,Ne.symm hg]) (fun _ _ _ hn=>absurd rfl hn) (fun hn=>absurd rfl (hn 0)) (fun _ _=>rfl) (.inr ⟨hrun,rfl⟩) (fun M' hkp=>?_) (fun M' _=>.undef _)
     refine ⟨es',clk',?_,q1,q2,fun j hj=>(q3 j hj).mono hkp fun _ _ h=>h,fun j hj=>(q4 j hj).mono hkp fun _ _ h=>h,q5⟩
     show ({ w with heap:=w.heap.setIfInBounds L.g (.map es' clk') }:World).heap[L.g]? = _
     simp [Array.getElem?_setIfInBounds,hlt2]
    have hset:∀ ob,(setObj L.g ob).run P w = .ok () { w with heap:=w.heap.setIfInBounds L.g ob }:=fun ob=>by simp [setObj,Sem.run,h6]
    unfold mapSet
    cases hf:findK (ρa k) ks 0 with
    | none =>
     rw [hf] at hfk
     refine fin (es.push { key:=ρ k,val:=ρ v,born:=clk }) (clk+1) _ _ ?_ (by simp [hn]) (by simp [hv]) (fun j hj=>?_) (fun j hj=>?_) (Yc6 hbo _ _)
     ·simp only [ho,Instr.mapUpdate,Sem.run_bind,run_underlying h1,Result.andThen_ok,hmv,hgo]
      rw [show (10000:Nat)=9999+1 from rfl,hck]
      simp only [Result.andThen_ok,hfk,Option.map_none,hset,Sem.run_pure]
     ·simp only [List.length_append,List.length_singleton] at hj
      rw [Zak,Array.getD_eq_getD_getElem?,Array.getElem?_push]
      by_cases e2:j=es.size
      ·rw [if_pos e2,if_neg (by omega)]
       rw [show j - ks.length=0 by omega];exact hkr
      ·rw [if_neg e2,if_pos (by omega),← Array.getD_eq_getD_getElem?];exact hr1 j (by omega)
     ·simp only [List.length_append,List.length_singleton] at hj
      rw [Zak,Array.getD_eq_getD_getElem?,Array.getElem?_push]
      by_cases e2:j=es.size
      ·rw [if_pos e2,if_neg (by omega)]
       rw [show j - vs.length=0 by omega];exact hvr
      ·rw [if_neg e2,if_pos (by omega),← Array.getD_eq_getD_getElem?];exact hr2 j (by omega)
    | some i =>
     rw [hf] at hfk
     have hil:=(Zgu _ _ _ _ hf).2
     have heq:=Zus _ _ _ _ hf
     simp only [Nat.sub_zero] at hil heq
     have hkey:(es.getD i default).key = ρ k:=by
      have h7:=hr1 i hil
      rcases h4 with ⟨ik,n,_,e2⟩ | ⟨s,_,e2⟩
      ·rw [e2] at hkr heq
       have hsk:=List.all_eq_true.1 hall (ks.getD i .undef) (by simp only [List.getD,List.getElem?_eq_getElem hil,Option.getD_some];exact List.getElem_mem hil)
       rw [e2] at hsk
       cases hki:ks.getD i .undef<;>rw [hki] at heq hsk h7<;>simp only [eqCell,sameKind,Bool.false_eq_true,beq_iff_eq] at heq hsk
       rw [h7.int_inv,hkr.int_inv,heq,hsk]
      ·rw [e2] at hkr heq
       cases hki:ks.getD i .undef<;>rw [hki] at heq h7<;>simp only [eqCell,Bool.false_eq_true] at heq
       rw [h7.str_inv,hkr.str_inv]
       rw [Zte heq]
     have hsb:Instr.sameBits 10000 (ρ k) (ρ k)=true:=by
      rcases h4 with ⟨ik,n,_,e2⟩ | ⟨s,_,e2⟩<;>rw [e2] at hkr
      ·rw [hkr.int_inv];simp [Instr.sameBits]
      ·rw [hkr.str_inv];simp [Instr.sameBits,beq_toListBytes]
     have hes:i<es.size:=by omega
     have hgk:(((es[i]?).map (·.key)).getD (ρ k)) = ρ k:=by
      rw [Array.getElem?_eq_getElem hes]
      rw [Array.getD_eq_getD_getElem?,Array.getElem?_eq_getElem hes] at hkey
      exact hkey
     refine fin (es.modify i fun e=>{ e with key:=ρ k,val:=ρ v }) clk _ _ ?_ (by simp [hn]) (by simp [hv]) (fun j hj=>?_) (fun j hj=>?_) (Zri hbo _ _ _)
     ·simp only [ho,Instr.mapUpdate,Sem.run_bind,run_underlying h1,Result.andThen_ok,hmv,hgo]
      rw [show (10000:Nat)=9999+1 from rfl,hck]
      simp only [Result.andThen_ok,hfk,Option.map_some,Sem.run_bind,hgk,Instr.keyThatStays,hsb,if_true,hset,Sem.run_pure]
     ·rw [Array.getD_eq_getD_getElem?,Array.getElem?_modify]
      by_cases e2:i=j
      ·subst e2
       rw [if_pos rfl,Array.getElem?_eq_getElem hes]
       have:=hr1 i hj
       rw [hkey] at this;exact this
      ·rw [if_neg e2,← Array.getD_eq_getD_getElem?];exact hr1 j hj
     ·rw [Array.getD_eq_getD_getElem?,Array.getElem?_modify]
      by_cases e2:i=j
      ·subst e2
       rw [if_pos rfl,Array.getElem?_eq_getElem hes,Zcm _ _ _ (by omega)]
       exact hvr
      ·rw [if_neg e2,← Array.getD_eq_getD_getElem?,getD_set_ne _ _ _ _ e2];exact hr2 j hj
   ·cases h
  ·cases h
 ·cases h
theorem Zno (hr:RelS X base σ β w) (hn : β nm=none) {ρ:Operand→Value} {ρa:Operand→AVal} (hρ:∀ x,Rep w (MT X σ β) β (ρ x) (ρa x)) (hcst:∀ v,ρ (.const v)=v) {o:Oper} {r:AVal} {σ':Store} (h:opE P σ nm ρa o.op=some (r,σ')) :
  OpOut P X base σ β w nm (execOp ρ o) r σ':=by
 have hgn:=Yat hr hn
 have mp:∀ {x:Option AVal} (_:x.map (·,σ)=some (r,σ')),x=some r∧σ = σ':=by
  intro x hx
  obtain ⟨a,h1,h2⟩:=Option.map_eq_some_iff.1 hx
  simp only [Prod.mk.injEq] at h2
  exact ⟨by rw [h1,h2.1],h2.2⟩
 cases ho:o.op with
 | move x =>
  rw [ho] at h;simp only [opE,Option.some.injEq,Prod.mk.injEq] at h
  obtain ⟨rfl,rfl⟩:=h
  exact OpOut.val hr (by simp [execOp,ho]) (hρ x)
 | assign x =>
  rw [ho] at h;simp only [opE,Option.some.injEq,Prod.mk.injEq] at h
  obtain ⟨rfl,rfl⟩:=h
  exact OpOut.val hr (by simp [execOp,ho]) (hρ x)
 | pick c a b =>
  rw [ho] at h;simp only [opE] at h
  obtain ⟨h1,rfl⟩:=mp h
  exact Yhc hr hρ ho h1
 | alloc t =>
  rw [ho] at h;simp only [opE] at h
  obtain ⟨l,hl,h1⟩:=Option.bind_eq_some_iff.1 h
  simp only [Option.some.injEq,Prod.mk.injEq] at h1
  obtain ⟨rfl,rfl⟩:=h1
  exact Ya9 hr hn ho hl
 | box t x =>
  rw [ho] at h;simp only [opE] at h
  obtain ⟨l,hl,h1⟩:=Option.bind_eq_some_iff.1 h
  split at h1
  ·rename_i hc
   simp only [Option.some.injEq,Prod.mk.injEq] at h1
   obtain ⟨rfl,rfl⟩:=h1
   exact Yjr hr hn hρ ho hc.2
  ·cases h1
 | build t parts =>
  rw [ho] at h;simp only [opE] at h
  obtain ⟨T,hT,h1⟩:=Option.bind_eq_some_iff.1 h
  obtain ⟨h2,rfl⟩:=mp h1
  obtain ⟨v,h3,h4⟩:=Zwq hT hρ h2
  exact OpOut.val hr (v:=v) (by simp only [execOp,ho,Sem.run_bind,h3,Result.andThen_ok,Sem.run_pure]) h4
 | buildSlice t n parts =>
  rw [ho] at h;simp only [opE] at h
  obtain ⟨T,hT,h1⟩:=Option.bind_eq_some_iff.1 h
  obtain ⟨e,he,h2⟩:=Option.bind_eq_some_iff.1 h1
  obtain ⟨es,hes,h3⟩:=Option.bind_eq_some_iff.1 h2
  split at h3
  ·rename_i hc
   simp only [Option.some.injEq,Prod.mk.injEq] at h3
   obtain ⟨rfl,rfl⟩:=h3
   exact Zl5 hr hn hρ ho hT he hes hc.1 hc.2.1 hc.2.2.1 hc.2.2.2.2
  ·cases h3
 | load t x =>
  rw [ho] at h;simp only [opE] at h
  obtain ⟨l,hl,h1⟩:=Option.bind_eq_some_iff.1 h
  obtain ⟨h2,rfl⟩:=mp h1
  exact Ygg hr hρ ho hl h2
 | store t x v =>
  rw [ho] at h;simp only [opE] at h
  obtain ⟨l,hl,h1⟩:=Option.bind_eq_some_iff.1 h
  obtain ⟨s,h2,h3⟩:=Option.map_eq_some_iff.1 h1
  simp only [Prod.mk.injEq] at h3
  obtain ⟨rfl,rfl⟩:=h3
  exact Ycc hr hρ ho hl h2
 | nilCheck x =>
  rw [ho] at h;simp only [opE] at h
  have hx:=hρ x
  split at h
  ·rename_i b of e1
   simp only [Option.some.injEq,Prod.mk.injEq] at h
   obtain ⟨rfl,rfl⟩:=h
   rw [e1] at hx
   obtain ⟨L,hL,hv⟩:=hx.ptr_inv
   exact OpOut.val hr (v:=ρ x) (by simp [execOp,ho,hv]) hx
  ·rename_i b i f e1
   simp only [Option.some.injEq,Prod.mk.injEq] at h
   obtain ⟨rfl,rfl⟩:=h
   rw [e1] at hx
   obtain ⟨L,hL,hv⟩:=hx.rp_inv
   exact OpOut.val hr (v:=ρ x) (by simp [execOp,ho,hv]) hx
  ·rename_i cs e1
   simp only [Option.some.injEq,Prod.mk.injEq] at h
   obtain ⟨rfl,rfl⟩:=h
   rw [e1] at hx
   obtain ⟨a,hv⟩:∃ a,ρ x = .pointer (some a):=by
    generalize ρ x=v at hx
    cases hx;exact ⟨_,rfl⟩
   exact OpOut.val hr (v:=ρ x) (by simp [execOp,ho,hv]) hx
  ·rename_i f a c e1
   simp only [Option.some.injEq,Prod.mk.injEq] at h
   obtain ⟨rfl,rfl⟩:=h
   rw [e1] at hx
   obtain ⟨fa,ca,hv⟩:∃ fa ca,ρ x = .func (.func f) fa ca:=by
    generalize ρ x=v at hx
    cases hx;exact ⟨_,_,rfl⟩
   exact OpOut.val hr (v:=ρ x) (by simp [execOp,ho,hv]) hx
  ·cases h
 | binOp op t x y u =>
  rw [ho] at h;simp only [opE] at h
  obtain ⟨h1,rfl⟩:=mp h
  obtain ⟨v,h2,h3⟩:∃ v,(do eqGuard op t x y (ρ x) (ρ y);_root_.Go.binOp op t (ρ x) (ρ y):Sem Value).run P w = .ok v w∧Rep w (MT X σ β) β v r:=by
   unfold binO at h1
   split at h1
   ·rename_i hnl
    have hy0 : ρ y = .slice none 0 0:=by rw [Zzv hnl];exact hcst _
    rw [hy0];exact Yhz (hρ x) h1 x y
   ·exact Ygf (hρ x) (hρ y) h1 x y
  refine OpOut.val hr (v:=v) ?_ h3
  simp only [Sem.run_bind] at h2
  simp only [execOp,ho,Sem.run_bind,h2,Result.andThen_ok,Sem.run_pure]
 | unOp op t x =>
  rw [ho] at h;simp only [opE] at h
  obtain ⟨h1,rfl⟩:=mp h
  obtain ⟨v,h2,h3⟩:=Yly (P:=P) (hρ x) h1
  exact OpOut.val hr (v:=v) (by simp only [execOp,ho,Sem.run_bind,h2,Result.andThen_ok,Sem.run_pure]) h3
 | convert s d x =>
  rw [ho] at h;simp only [opE] at h
  obtain ⟨h1,rfl⟩:=mp h
  obtain ⟨v,h2,h3⟩:=Zq3 (P:=P) (hρ x) h1
  exact OpOut.val hr (v:=v) (by simp only [execOp,ho,Sem.run_bind,h2,Result.andThen_ok,Sem.run_pure]) h3
 | makeInterface t x =>
  rw [ho] at h;simp only [opE] at h
  split at h
  ·cases h
  ·rename_i k hne hk
   simp only [Option.some.injEq,Prod.mk.injEq] at h
   obtain ⟨rfl,rfl⟩:=h
   obtain ⟨i,u,h1,h2,h3⟩:=Zbg hk
   have:P.concrete t=true:=by
    have hnot:∀ ms,u≠.interface ms:=by rintro ms rfl;exact hne (by rw [← h3];rfl)
    simp only [Program.concrete,h2]
    cases u<;>first | rfl | exact absurd rfl (hnot _)
   exact OpOut.val hr (v:=.iface t (ρ x)) (by simp only [execOp,ho,Sem.run_bind,run_makeInterface w t (ρ x) this,Result.andThen_ok,Sem.run_pure]) (.iface (hρ x))
  ·cases h
 | makeFunc fn first captured =>
  rw [ho] at h
  cases fn with
  | func f =>
   simp only [opE,Option.some.injEq,Prod.mk.injEq] at h
   obtain ⟨rfl,rfl⟩:=h
   refine OpOut.val hr (v:=.func (.func f) (first.map ρ) (captured.map ρ)) (by simp [execOp,ho,Instr.makeFunc]) (.fn (by simp) (by simp) (fun k hk=>?_) (fun k hk=>?_))
   ·simp only [List.length_map,Array.length_toList] at hk
    rw [Array.getD_eq_getD_getElem?,Array.getElem?_map,Array.getElem?_eq_getElem hk]
    simp only [List.getD,List.getElem?_map,Array.getElem?_toList,Array.getElem?_eq_getElem hk,Option.map_some,Option.getD_some]
    exact hρ _
   ·simp only [List.length_map,Array.length_toList] at hk
    rw [Array.getD_eq_getD_getElem?,Array.getElem?_map,Array.getElem?_eq_getElem hk]
    simp only [List.getD,List.getElem?_map,Array.getElem?_toList,Array.getElem?_eq_getElem hk,Option.map_some,Option.getD_some]
    exact hρ _
  | _=>simp [opE] at h
 | makeMap t r' =>
  rw [ho] at h
  cases r' with
  | none =>
   simp only [opE,Option.some.injEq,Prod.mk.injEq] at h
   obtain ⟨rfl,rfl⟩:=h
   exact Zqs hr hn ho
  | some _=>simp [opE] at h
 | makeSlice t l c =>
  rw [ho] at h;simp only [opE] at h
  obtain ⟨T,hT,h1⟩:=Option.bind_eq_some_iff.1 h
  exact Zmw hr hn hρ ho hT h1
 | slice t x lo hi mx =>
  rw [ho] at h;simp only [opE] at h
  obtain ⟨T,hT,h1⟩:=Option.bind_eq_some_iff.1 h
  obtain ⟨h2,rfl⟩:=mp h1
  obtain ⟨v,h3,h4⟩:=Zw1 hT (hρ x) (Zr9 hρ lo) (Zr9 hρ hi) (Zr9 hρ mx) h2
  exact OpOut.val hr (v:=v) (by simp only [execOp,ho,Sem.run_bind,h3,Result.andThen_ok,Sem.run_pure]) h4
 | fieldAddr t x i =>
  rw [ho] at h;simp only [opE] at h
  obtain ⟨T,hT,h1⟩:=Option.bind_eq_some_iff.1 h
  obtain ⟨h2,rfl⟩:=mp h1
  obtain ⟨v,h3,h4⟩:=Zl3 hT (hρ x) h2
  exact OpOut.val hr (v:=v) (by simp only [execOp,ho,Sem.run_bind,h3,Result.andThen_ok,Sem.run_pure]) h4
 | field t x i =>
  rw [ho] at h;simp only [opE] at h
  obtain ⟨T,hT,h1⟩:=Option.bind_eq_some_iff.1 h
  obtain ⟨h2,rfl⟩:=mp h1
  obtain ⟨v,h3,h4⟩:=Zxa hT (hρ x) h2
  exact OpOut.val hr (v:=v) (by simp only [execOp,ho,Sem.run_bind,h3,Result.andThen_ok,Sem.run_pure]) h4
 | indexAddr t x i =>
  rw [ho] at h;simp only [opE] at h
  obtain ⟨T,hT,h1⟩:=Option.bind_eq_some_iff.1 h
  obtain ⟨h2,rfl⟩:=mp h1
  obtain ⟨v,h3,h4⟩:=Zl8 hT (hρ x) (hρ i) h2
  exact OpOut.val hr (v:=v) (by simp only [execOp,ho,Sem.run_bind,h3,Result.andThen_ok,Sem.run_pure]) h4
 | index t x i =>
  rw [ho] at h;simp only [opE] at h
  obtain ⟨T,hT,h1⟩:=Option.bind_eq_some_iff.1 h
  obtain ⟨h2,rfl⟩:=mp h1
  obtain ⟨v,h3,h4⟩:=Zx5 hT (hρ x) (hρ i) h2
  exact OpOut.val hr (v:=v) (by simp only [execOp,ho,Sem.run_bind,h3,Result.andThen_ok,Sem.run_pure]) h4
 | lookup t x i ok =>
  rw [ho] at h;simp only [opE] at h
  obtain ⟨T,hT,h1⟩:=Option.bind_eq_some_iff.1 h
  obtain ⟨h2,rfl⟩:=mp h1
  obtain ⟨v,h3,h4⟩:=Zsx hr hT (hρ x) (hρ i) h2
  exact OpOut.val hr (v:=v) (by simp only [execOp,ho,Sem.run_bind,h3,Result.andThen_ok,Sem.run_pure]) h4
 | mapUpdate t m k v =>
  rw [ho] at h;simp only [opE] at h
  obtain ⟨T,hT,h1⟩:=Option.bind_eq_some_iff.1 h
  obtain ⟨s,h2,h3⟩:=Option.map_eq_some_iff.1 h1
  simp only [Prod.mk.injEq] at h3
  obtain ⟨rfl,rfl⟩:=h3
  exact Zh1 hr hρ (by simp only [execOp,ho]) hT h2
 | insert t m k v =>
  rw [ho] at h;simp only [opE] at h
  obtain ⟨T,hT,h1⟩:=Option.bind_eq_some_iff.1 h
  obtain ⟨s,h2,h3⟩:=Option.map_eq_some_iff.1 h1
  simp only [Prod.mk.injEq] at h3
  obtain ⟨rfl,rfl⟩:=h3
  exact Zh1 hr hρ (by simp only [execOp,ho]) hT h2
 | range t x =>
  rw [ho] at h;simp only [opE] at h
  obtain ⟨T,hT,h1⟩:=Option.bind_eq_some_iff.1 h
  split at h1
  ·rename_i s e1 e2
   simp only [Option.some.injEq,Prod.mk.injEq] at h1
   obtain ⟨rfl,rfl⟩:=h1
   obtain ⟨u,h2,h3,h4,_⟩:=Zbn hT
   have hx:=hρ x
   rw [e2] at hx
   exact Zyp hr hn ho (by rw [h3,Zd8 (h4.trans e1)]) hx.str_inv
  ·rename_i ks vs e1 e2
   simp only [Option.some.injEq,Prod.mk.injEq] at h1
   obtain ⟨rfl,rfl⟩:=h1
   obtain ⟨u,h2,h3,h4,_⟩:=Zbn hT
   have hx:=hρ x
   rw [e2] at hx
   obtain ⟨kt,et,hu⟩:=Zfr (h4.trans e1)
   exact Zwg hr hn ho (by rw [h3,hu]) hx
  ·cases h1
 | entry x =>
  rw [ho] at h;simp only [opE] at h
  exact Yb5 hr hρ ho h
 | next x s =>
  rw [ho] at h
  cases s with
  | true=>exact Yhe hr hρ ho h
  | false=>simp [opE] at h
 | typeAssert x t u ok =>
  rw [ho] at h;simp only [opE] at h
  obtain ⟨h2,rfl⟩:=mp h
  obtain ⟨v,h3,h4⟩:=Zki (xt:=t) (hρ x) h2
  exact OpOut.val hr (v:=v) (by simp only [execOp,ho,Sem.run_bind,h3,Result.andThen_ok,Sem.run_pure]) h4
 | extract x i =>
  rw [ho] at h;simp only [opE] at h
  split at h
  ·rename_i vs e1
   obtain ⟨h2,rfl⟩:=mp h
   have hx:=hρ x
   rw [e1] at hx
   obtain ⟨v,h3,h4⟩:=Zog (P:=P) hx h2
   exact OpOut.val hr (v:=v) (by simp only [execOp,ho,Sem.run_bind,h3,Result.andThen_ok,Sem.run_pure]) h4
  ·cases h
 | call c =>
  rw [ho] at h
  obtain ⟨callee,args,argTypes⟩:=c
  cases callee with
  | builtin b =>
   simp only [opE] at h
   have hexec:execOp ρ o=(builtin b argTypes o.type (args.map fun | .const _=>true | _=>false) (args.map ρ)):=by
    simp only [execOp,ho,resolve]
    rfl
   rw [hexec]
   have hargs:(args.map ρ).toList=args.toList.map ρ:=by simp
   unfold builtinA at h
   split at h
   ·rename_i t x e1 e2
    have ht:argTypes = #[t]:=Array.toList_inj.1 (by rw [e1])
    obtain ⟨T,hT,h1⟩:=Option.bind_eq_some_iff.1 h
    obtain ⟨y,hy,hya⟩:∃ y,args.toList=[y]∧ρa y=x:=by
     cases hal:args.toList with
     | nil=>rw [hal] at e2;simp at e2
     | cons y ys=>rw [hal] at e2;simp at e2;obtain ⟨q1,q2⟩:=e2;exact ⟨y,by rw [q2],q1⟩
    have hav:args.map ρ = #[ρ y]:=Array.toList_inj.1 (by rw [hargs,hy];rfl)
    rw [ht,hav]
    have hx:=hρ y
    rw [hya] at hx
    split at h1
    ·rename_i n hk
     simp only [Option.some.injEq,Prod.mk.injEq] at h1
     obtain ⟨rfl,rfl⟩:=h1
     obtain ⟨u,h2,h3,h4,_⟩:=Zbn hT
     obtain ⟨et,rfl⟩:=Zfs (h4.trans hk)
     refine OpOut.val hr (v:=.int .i64 n) ?_ (.int _ _)
     simp only [builtin,Builtin.len_,Sem.run_bind,Sem.run_pure,Result.andThen_ok]
     simp [run_underlying h3,goInt]
    ·rename_i hk
     obtain ⟨n,h2,h3⟩:=Option.map_eq_some_iff.1 h1
     simp only [Prod.mk.injEq] at h3
     obtain ⟨rfl,rfl⟩:=h3
     refine OpOut.val hr (v:=.int .i64 n) ?_ (.int _ _)
     simp only [builtin,Sem.run_bind,Zn0 hr hT (.inl hk) hx h2 o.type,Result.andThen_ok,Sem.run_pure]
    ·rename_i hk
     obtain ⟨n,h2,h3⟩:=Option.map_eq_some_iff.1 h1
     simp only [Prod.mk.injEq] at h3
     obtain ⟨rfl,rfl⟩:=h3
     refine OpOut.val hr (v:=.int .i64 n) ?_ (.int _ _)
     simp only [builtin,Sem.run_bind,Zn0 hr hT (.inr (.inl hk)) hx h2 o.type,Result.andThen_ok,Sem.run_pure]
    ·rename_i hk
     obtain ⟨n,h2,h3⟩:=Option.map_eq_some_iff.1 h1
     simp only [Prod.mk.injEq] at h3
     obtain ⟨rfl,rfl⟩:=h3
     refine OpOut.val hr (v:=.int .i64 n) ?_ (.int _ _)
     simp only [builtin,Sem.run_bind,Zn0 hr hT (.inr (.inr hk)) hx h2 o.type,Result.andThen_ok,Sem.run_pure]
    ·cases h1
   ·rename_i t u s x e1 e2
    have ht:argTypes = #[t,u]:=Array.toList_inj.1 (by rw [e1])
    obtain ⟨T,hT,h1⟩:=Option.bind_eq_some_iff.1 h
    obtain ⟨U,hU,h2⟩:=Option.bind_eq_some_iff.1 h1
    obtain ⟨y,z,hy,hya,hza⟩:∃ y z,args.toList=[y,z]∧ρa y=s∧ρa z=x:=by
     cases hal:args.toList with
     | nil=>rw [hal] at e2;simp at e2
     | cons y ys =>
      cases ys with
      | nil=>rw [hal] at e2;simp at e2
      | cons z zs=>rw [hal] at e2;simp at e2;obtain ⟨q1,q2,q3⟩:=e2;exact ⟨y,z,by rw [q3],q1,q2⟩
    have hav:args.map ρ = #[ρ y,ρ z]:=Array.toList_inj.1 (by rw [hargs,hy];rfl)
    rw [ht,hav]
    have hs:=hρ y
    rw [hya] at hs
    have hx:=hρ z
    rw [hza] at hx
    split at h2
    ·rename_i e hk he hk2
     obtain ⟨et,ht',hel⟩:=Zb7 hT hk
     rw [he] at hel
     obtain ⟨eu,hu',_⟩:=Zb7 hU hk2
     obtain ⟨xs,hxs,h3⟩:=Option.bind_eq_some_iff.1 h2
     obtain ⟨news,hsrc⟩:=Zfv (P:=P) hr hx hxs
     exact Zgj hr hn hgn hel.symm hs hsrc.to0 h3 o.type (.of_src ht' hu' (.inl ⟨_,rfl⟩) hel.symm hsrc) rfl
    ·rename_i e hk he hk2
     obtain ⟨et,ht',hel⟩:=Zb7 hT hk
     rw [he] at hel
     obtain ⟨u',h4,h5,h6,_⟩:=Zbn hU
     obtain rfl:=Zd8 (h6.trans hk2)
     split at h2
     ·rename_i y'
      rw [hx.str_inv]
      split at h2
      ·rename_i h1z
       obtain ⟨news,hsrc⟩:∃ news,Src P w (MT X σ β) β e.sz (.string y') (bytesOf y') news:=⟨_,by rw [h1z];exact Zyx⟩
       exact Zgj hr hn hgn hel.symm hs hsrc.to0 h2 o.type (.of_src ht' h5 (.inr rfl) hel.symm hsrc) rfl
      ·cases h2
     ·cases h2
    ·rename_i e k' hk he hk2
     obtain ⟨et,ht',hel⟩:=Zb7 hT hk
     rw [he] at hel
     obtain ⟨u',h4,h5,h6,_⟩:=Zbn hU
     obtain rfl:=Zja (h6.trans hk2)
     obtain ⟨i,_,z,hi,_,hz,_⟩:=Zao hel.symm
     split at h2
     ·rename_i n'
      split at h2
      ·rename_i hc
       have hcc : 0<e.sz∧e.bytes≤65536:=Zvt h2
       have hxx:=hx.int_inv
       rw [hxx]
       exact Zgj hr hn hgn hel.symm hs (Zol hel.symm _ hi hz) h2 o.type (by simpa using AppRun.of_zeros ht' h5 hel.symm hcc.1 hcc.2 hc.1 hc.2.1 hc.2.2 hi hz) rfl
      ·cases h2
     ·cases h2
    ·cases h2
   ·rename_i t x e1 e2
    have ht:argTypes = #[t]:=Array.toList_inj.1 (by rw [e1])
    obtain ⟨T,hT,h1⟩:=Option.bind_eq_some_iff.1 h
    obtain ⟨y,hy,hya⟩:∃ y,args.toList=[y]∧ρa y=x:=by
     cases hal:args.toList with
     | nil=>rw [hal] at e2;simp at e2
     | cons y ys=>rw [hal] at e2;simp at e2;obtain ⟨q1,q2⟩:=e2;exact ⟨y,by rw [q2],q1⟩
    have hav:args.map ρ = #[ρ y]:=Array.toList_inj.1 (by rw [hargs,hy];rfl)
    rw [ht,hav]
    have hx:=hρ y
    rw [hya] at hx
    split at h1
    ·rename_i hk
     obtain ⟨et,ht',hel⟩:=Zb7 hT hk
     obtain ⟨n,h2,h3⟩:=Option.map_eq_some_iff.1 h1
     cases h3
     refine OpOut.val hr (v:=.int .i64 n) ?_ (.int _ _)
     obtain ⟨a,m,hv⟩:=Yhp hx h2
     rw [hv]
     simp [builtin,Builtin.cap_,run_underlying ht',goInt]
    ·cases h1
   ·rename_i t x e1 e2
    have ht:argTypes = #[t]:=Array.toList_inj.1 (by rw [e1])
    obtain ⟨T,hT,h1⟩:=Option.bind_eq_some_iff.1 h
    obtain ⟨y,hy,hya⟩:∃ y,args.toList=[y]∧ρa y=x:=by
     cases hal:args.toList with
     | nil=>rw [hal] at e2;simp at e2
     | cons y ys=>rw [hal] at e2;simp at e2;obtain ⟨q1,q2⟩:=e2;exact ⟨y,by rw [q2],q1⟩
    have hav:args.map ρ = #[ρ y]:=Array.toList_inj.1 (by rw [hargs,hy];rfl)
    rw [ht,hav]
    have hx:=hρ y
    rw [hya] at hx
    split at h1
    ·rename_i e hk he
     obtain ⟨et,ht',hel⟩:=Zb7 hT hk
     rw [he] at hel
     obtain ⟨n,h2,h3⟩:=Option.bind_eq_some_iff.1 h1
     exact Ycx hr ht' hel.symm hx h2 h3 o.type rfl
    ·cases h1
   ·rename_i t u s x e1 e2
    have ht:argTypes = #[t,u]:=Array.toList_inj.1 (by rw [e1])
    obtain ⟨T,hT,h1⟩:=Option.bind_eq_some_iff.1 h
    obtain ⟨U,hU,h2⟩:=Option.bind_eq_some_iff.1 h1
    obtain ⟨y,z,hy,hya,hza⟩:∃ y z,args.toList=[y,z]∧ρa y=s∧ρa z=x:=by
     cases hal:args.toList with
     | nil=>rw [hal] at e2;simp at e2
     | cons y ys =>
      cases ys with
      | nil=>rw [hal] at e2;simp at e2
      | cons z zs=>rw [hal] at e2;simp at e2;obtain ⟨q1,q2,q3⟩:=e2;exact ⟨y,z,by rw [q3],q1,q2⟩
    have hav:args.map ρ = #[ρ y,ρ z]:=Array.toList_inj.1 (by rw [hargs,hy];rfl)
    rw [ht,hav]
    have hs:=hρ y
    rw [hya] at hs
    have hx:=hρ z
    rw [hza] at hx
    split at h2
    ·rename_i e hk he hk2
     obtain ⟨et,ht',hel⟩:=Zb7 hT hk
     rw [he] at hel
     obtain ⟨n,h3,h4⟩:=Option.bind_eq_some_iff.1 h2
     obtain ⟨xs,h5,h6⟩:=Option.bind_eq_some_iff.1 h4
     exact Yfn hr ht' hel.symm hs hx h3 h5 h6 o.type rfl
    ·cases h2
   ·rename_i ts x rest e2
    obtain ⟨h2,rfl⟩:=mp h
    obtain ⟨y,ys,hy,hya,hys⟩:∃ y ys,args.toList=y :: ys∧ρa y=x∧ys.map ρa=rest:=by
     cases hal:args.toList with
     | nil=>rw [hal] at e2;simp at e2
     | cons y ys=>rw [hal] at e2;simp at e2;exact ⟨y,ys,rfl,e2.1,e2.2⟩
    subst hya;subst hys
    obtain ⟨v,h3,h4⟩:=Ztf (P:=P) (ys.map ρ) (ys.map ρa) (ρ y) (ρa y) r (by simp) (fun k hk=>by
     simp only [List.length_map] at hk
     simp only [List.getD,List.getElem?_map,List.getElem?_eq_getElem hk,Option.map_some,Option.getD_some];exact hρ _) (hρ y) h2
    refine OpOut.val hr (v:=v) ?_ h4
    simp only [builtin,Builtin.max_,hargs,hy,List.map_cons,Sem.run_bind,h3,Result.andThen_ok,Sem.run_pure]
   ·rename_i ts x rest e2
    obtain ⟨h2,rfl⟩:=mp h
    obtain ⟨y,ys,hy,hya,hys⟩:∃ y ys,args.toList=y :: ys∧ρa y=x∧ys.map ρa=rest:=by
     cases hal:args.toList with
     | nil=>rw [hal] at e2;simp at e2
     | cons y ys=>rw [hal] at e2;simp at e2;exact ⟨y,ys,rfl,e2.1,e2.2⟩
    subst hya;subst hys
    obtain ⟨v,h3,h4⟩:=Zun (P:=P) (ys.map ρ) (ys.map ρa) (ρ y) (ρa y) r (by simp) (fun k hk=>by
     simp only [List.length_map] at hk
     simp only [List.getD,List.getElem?_map,List.getElem?_eq_getElem hk,Option.map_some,Option.getD_some];exact hρ _) (hρ y) h2
    refine OpOut.val hr (v:=v) ?_ h4
    simp only [builtin,Builtin.min_,hargs,hy,List.map_cons,Sem.run_bind,h3,Result.andThen_ok,Sem.run_pure]
   ·cases h
  | _=>simp [opE] at h
 | _=>rw [ho] at h;simp [opE] at h
end
end Go.Abs
