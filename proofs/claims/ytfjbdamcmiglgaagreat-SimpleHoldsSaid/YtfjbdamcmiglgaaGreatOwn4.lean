/- Part 4 of my own framework and of the walks of functions: AbsG. -/
import Derived.Test.YtfjbdamcmiglgaaGreatOwn3
import Derived.Laws.Build
abbrev bJ:=@Array.getElem?_setIfInBounds
abbrev rG:=@Array.toArray_toList
abbrev pw:=@Array.toList_map
abbrev bR:=@Bool.or_eq_true
abbrev kn:=@List.all_cons
abbrev qA:=@List.foldl_cons
abbrev cq:=@List.getD_eq_getElem?_getD
abbrev dz:=@List.getElem?_set
abbrev nA:=@List.getElem_range
abbrev bj:=@List.length_set
abbrev nC:=@List.mapM_cons
set_option linter.unusedVariables false
set_option linter.unusedSectionVars false
set_option linter.unusedSimpArgs false
namespace Go.dm
open Go
section
variable {P:Program} {X:Nat→Nat→Prop} {base:Nat} {σ:ai} {β:Env} {w:World} {nm:Nat} {M:Nat→Nat→Prop}
theorem Zrr {vx:Value} {vs:List ah} {r:ah} {i:Nat} (hx:cf w M β vx (.dT vs)) (h:vs[i]? = some r):∃ v,(Instr.extract vx i).run P w = .ok v w∧cf w M β v r:=by
 cases hx with
 | @dT cs _ hn hr =>
  obtain ⟨bA,he⟩:=aJ.1 h;have:=hr i bA;rw [show vs.getD i ah.undef=r by simp [List.getD,h]] at this;refine ⟨cs.getD i undef,?_,this⟩;simp only [Instr.extract];rw [uO (by omega)];rfl
theorem M6 (hr:cS X base σ β w) {t:TypeId} {T:j9} (hT:bU P t=some T) (hk:T.kind = .str∨T.kind = .slice∨T.kind = .map) {vx:Value} {x:ah} {n:Nat} (hx:cf w (MT X σ β) β vx x) (h:nT T.kind σ x=some n) (ty:TypeId) :
  (Builtin.len_ #[t] ty #[vx]).run P w = .ok (.int .i64 n) w:=by
 obtain ⟨u,h1,h2,h3,_⟩:=uS hT;have hu:∀ v,Builtin.len_ #[t] ty #[v]=(do
   match ← underlying t,v with
   | .string, .string s=>pure (goInt s.size)
   | .array n _,_=>pure (goInt n)
   | .pointer arr,_ =>
    let .array n _ ← underlying arr | stuck "len: pointer to array expected"
    pure (goInt n)
   | .slice _, .slice _ n _=>pure (goInt n)
   | .map _ _, .map none | .chan _ _, .chan none=>pure (goInt 0)
   | .map _ _, .map (some r) =>
    let .map entries _ ← getObj r | stuck "len: map expected"
    pure (goInt entries.size)
   | .chan _ _, .chan (some r) =>
    let .chan _ buf _ _ _ timer ← getObj r | stuck "len: channel expected"
    pure (goInt (if timer then 0 else buf.size))
   | _, _ => stuck "len: string, array, pointer to array, slice, map or channel expected") := fun v => rfl
 rw [hu];simp only [Sem.run_bind,run_underlying h2,Result.andThen_ok];unfold nT at h;split at h
 ·rename_i s e1;cases h;obtain rfl:=A_ (h3.trans e1);rw [hx.hO];rfl
 ·rename_i e1;cases h;obtain ⟨e,rfl⟩:=Db (h3.trans e1);cases hx;rfl
 ·rename_i e1;cases h;obtain ⟨e,rfl⟩:=Db (h3.trans e1);cases hx;rfl
 ·rename_i e1;cases h;obtain ⟨e,rfl⟩:=Db (h3.trans e1);cases hx<;>rfl
 ·rename_i e1;cases h;obtain ⟨e,rfl⟩:=Db (h3.trans e1);cases hx<;>rfl
 ·rename_i e1;cases h;obtain ⟨k,e,rfl⟩:=Fi (h3.trans e1);cases hx;rfl
 ·rename_i e1;cases h;obtain ⟨k,e,rfl⟩:=Fi (h3.trans e1);cases hx with
  | pm hg hm hn hv ov nP rZ =>
   simp [getObj,Sem.run,hg,hn,goInt]
 ·rename_i b e1;obtain ⟨k,e,rfl⟩:=Fi (h3.trans e1);split at h
  ·rename_i ks vs fz hb;cases h;obtain ⟨L,h5,_,_,es,clk,h6,hn,_⟩:=hr.cw _ _ (kq hb);cases hx with
   | map hL =>
    obtain rfl:=aP (h5.symm.trans hL);simp [getObj,Sem.run,h6,hn,goInt]
  ·cases h
 ·cases h
theorem Wn:∀ (vs:List Value) (cD:List ah) (v:Value) (a r:ah),vs.length=cD.length→(∀ k,k<cD.length→cf w M β (vs.getD k undef) (cD.getD k .undef))→cf w M β v a →
  ga (fun a b=>if a<b then b else a) a cD=some r→∃ x,(vs.foldlM Builtin.max2 v).run P w = .ok x w∧cf w M β x r
 | [],[],v,a,r,_,_,hv,h=>by
  simp only [ga,aH] at h;subst h;exact ⟨v,rfl,hv⟩
 | [],_ :: _,_,_,_,h,_,_,_=>by simp at h
 | _ :: _,[],_,_,_,h,_,_,_=>by simp at h
 | u :: vs,b :: cD,v,a,r,hl,hr,hv,h=>by
  have h0:=hr 0 (by simp);simp only [bm] at h0;cases a<;>cases b<;>simp only [ga,reduceCtorEq] at h;rw [hv.eQ,h0.eQ];obtain ⟨x,h1,h2⟩:=Wn vs cD _ _ r (by simpa using hl) (fun k hk=>by simpa using hr (k+1) (by simpa using hk)) (.int _ _) h;refine ⟨x,?_,h2⟩;simp only [List.foldlM_cons,Sem.run_bind,Builtin.max2,Sem.run_pure,Result.andThen_ok];exact h1
theorem Xi:∀ (vs:List Value) (cD:List ah) (v:Value) (a r:ah),vs.length=cD.length→(∀ k,k<cD.length→cf w M β (vs.getD k undef) (cD.getD k .undef))→cf w M β v a →
  ga (fun a b=>if b<a then b else a) a cD=some r→∃ x,(vs.foldlM Builtin.min2 v).run P w = .ok x w∧cf w M β x r
 | [],[],v,a,r,_,_,hv,h=>by
  simp only [ga,aH] at h;subst h;exact ⟨v,rfl,hv⟩
 | [],_ :: _,_,_,_,h,_,_,_=>by simp at h
 | _ :: _,[],_,_,_,h,_,_,_=>by simp at h
 | u :: vs,b :: cD,v,a,r,hl,hr,hv,h=>by
  have h0:=hr 0 (by simp);simp only [bm] at h0;cases a<;>cases b<;>simp only [ga,reduceCtorEq] at h;rw [hv.eQ,h0.eQ];obtain ⟨x,h1,h2⟩:=Xi vs cD _ _ r (by simpa using hl) (fun k hk=>by simpa using hr (k+1) (by simpa using hk)) (.int _ _) h;refine ⟨x,?_,h2⟩;simp only [List.foldlM_cons,Sem.run_bind,Builtin.min2,Sem.run_pure,Result.andThen_ok];exact h1
theorem S6 (off:Nat):∀ (vs:List Value) (cD:List ah) (s:Nat) (c:Array Value) (cs:List ah),vs.length=cD.length →
  (∀ k,k<cD.length→cf w M β (vs.getD k undef) (cD.getD k .undef))→c.size=cs.length→(∀ k,k<cs.length→cf w M β (c.getD k undef) (cs.getD k .undef)) →
  ((vs.zipIdx s).foldl (fun cs p=>cs.setIfInBounds (off+p.2) p.1) c).size=(cH cs (off+s) cD).length ∧
   ∀ k,k<(cH cs (off+s) cD).length→cf w M β (((vs.zipIdx s).foldl (fun cs p=>cs.setIfInBounds (off+p.2) p.1) c).getD k undef) ((cH cs (off+s) cD).getD k .undef)
 | [],[],s,c,cs,_,_,hn,hr=>⟨hn,hr⟩
 | [],_ :: _,_,_,_,h,_,_,_=>by simp at h
 | _ :: _,[],_,_,_,h,_,_,_=>by simp at h
 | v :: vs,a :: cD,s,c,cs,hl,hv,hn,hr=>by
  have h0:=hv 0 (by simp);simp only [bm] at h0;have:=S6 off vs cD (s+1) (c.setIfInBounds (off+s) v) (cs.set (off+s) a) (by simpa using hl) (fun k hk=>by simpa using hv (k+1) (by simpa using hk))
   (by simpa using hn) (fun k hk=>by
    simp only [bj] at hk;rw [ak,cq,bJ,dz];by_cases e:off+s=k
    ·rw [if_pos e,if_pos e,if_pos (by omega),if_pos (by omega)];exact h0
    ·rw [if_neg e,if_neg e,← ak,← cq];exact hr k hk)
  simp only [List.zipIdx_cons,qA,cH];rw [← fN] at this;exact this
theorem vS:∀ (cs:List ah) (o:Nat) (cD:List ah),(cH cs o cD).length=cs.length
 | _,_,[]=>rfl
 | cs,o,a :: cD=>by rw [cH,vS];simp
theorem Nj {ρ:Operand→Value} {iC:Operand→ah} (er:∀ x,cf w M β (ρ x) (iC x)) {pF:List (Nat×Option fj)} {place:Nat→Option (Nat×Nat)}
  (hp:∀ i off l,pF[i]? = some (off,some l)→place i=some (off,l.sz)):∀ (parts:List (Nat×Operand)) (c:Array Value) (cs nL:List ah),c.size=cs.length →
   (∀ k,k<cs.length→cf w M β (c.getD k undef) (cs.getD k .undef))→kN pF iC cs parts=some nL →
   ∃ c',Instr.fill place c (parts.map fun (i,x)=>(i,ρ x))=some c'∧c'.size=nL.length∧∀ k,k<nL.length→cf w M β (c'.getD k undef) (nL.getD k .undef)
 | [],c,cs,nL,hn,hr,h=>by
  simp only [kN,aH] at h;subst h;exact ⟨c,rfl,hn,hr⟩
 | (i,x) :: rest,c,cs,nL,hn,hr,h=>by
  simp only [kN] at h;split at h
  ·rename_i off l hf;split at h
   ·rename_i hc;obtain ⟨sO,lJ,BB⟩:=hc;obtain ⟨FW,xi,_,_⟩:=Gp (er x) BB;obtain ⟨h1,h2⟩:=S6 off (ρ x).cells.toList (iC x).cells 0 c cs (by simpa using FW) (fun k hk=>by
     have:=xi k hk
     rwa [show (ρ x).cells.toList.getD k undef=(ρ x).cells.getD k undef by simp [List.getD,ak]]) hn hr
    obtain ⟨c',h3,h4⟩:=Nj er hp rest _ _ nL h1 h2 h;refine ⟨c',?_,h4⟩;simp only [aK,Instr.fill,hp i off l hf];have ly:¬ ((decide ((ρ x).cells.size≠l.sz)||decide (off+(ρ x).cells.size > c.size))=true):=by simp only [bR,decide_eq_true_eq];omega
    rw [if_neg ly];rw [← h3,← Array.foldl_toList,Array.toList_zipIdx]
   ·cases h
  ·cases h
theorem Ydd (fs:List Field) (h:(fs.map fun f=>(f.offset,aF P f.type)).all (·.2.isSome)=true) :
  ∃ ps:Array (Nat×Nat),(fs.toArray.mapM fun f=>do pure (f.offset,← sizeOf f.type):Sem (Array (Nat×Nat))).run P w = .ok ps w ∧
   ∀ (i off:Nat) (l:fj),(fs.map fun f=>(f.offset,aF P f.type))[i]? = some (off,some l)→ps[i]? = some (off,l.sz):=by
 refine ⟨(fs.map fun f=>(f.offset,P.cellsOf f.type)).toArray,?_,?_⟩
 ·simp only [List.mapM_toArray,Sem.run_map];have:∀ fs:List Field,(fs.map fun f=>(f.offset,aF P f.type)).all (·.2.isSome)=true →
    (fs.mapM fun f=>do pure (f.offset,← sizeOf f.type):Sem (List (Nat×Nat))).run P w = .ok (fs.map fun f=>(f.offset,P.cellsOf f.type)) w:=by
   intro fs
   induction fs with
   | nil=>intro _;rfl
   | cons f fs ih =>
    intro h;simp only [aK,kn,aB] at h;obtain ⟨l,hl⟩:=oY.1 h.1;obtain ⟨i,u,z,h1,_⟩:=qE hl;have h2:P.cellsOf f.type=i.size:=by simp [Program.cellsOf,h1]
    have KG:=ih h.2;simp only [nC,Sem.run_bind,uQ h1,Result.andThen_ok,Sem.run_pure,aK,h2];rw [KG];rfl
  rw [this fs h];rfl
 ·intro i off l hi;rw [cu] at hi;obtain ⟨f,hf,he⟩:=aI.1 hi;simp only [bE] at he;obtain ⟨rfl,hl⟩:=he;obtain ⟨ti,u,z,h1,_,_,h4,_⟩:=qE hl;simp [hf,Program.cellsOf,h1,h4]
theorem Z9 {t:TypeId} {T:j9} (hT:bU P t=some T) {ρ:Operand→Value} {iC:Operand→ah} (er:∀ x,cf w M β (ρ x) (iC x)) {parts:Array (Nat×Operand)} {r:ah}
  (h:o_ T iC parts.toList=some r):∃ v,(Instr.build t (parts.map fun (i,x)=>(i,ρ x))).run P w = .ok v w∧cf w M β v r:=by
 obtain ⟨u,h1,h2,h3,h4,h5,_⟩:=uS hT;obtain ⟨z,sU,_,sV,KF,F1,_⟩:=Cj (w:=w) (M:=M) (β:=β) h1;unfold o_ at h;split at h
 ·rename_i hk;obtain ⟨fs,rfl⟩:=Lt (h3.trans hk);simp only at h4;split at h
  ·rename_i fq;obtain ⟨nL,h6,rfl⟩:=aI.1 h;rw [h4] at fq h6;obtain ⟨ps,h7,h8⟩:=Ydd (w:=w) fs.toList fq;obtain ⟨c',h9,vg,xN⟩:=Nj er (place:=(ps[·]?)) h8 parts.toList z.cells T.lay.zero nL (by omega) (fun k hk=>F1 k (by omega)) h6;refine ⟨.agg c',?_, .agg vg xN⟩;simp only [rG] at h7;simp only [Instr.build,Sem.run_bind,sU,Result.andThen_ok,run_underlying h2,h7,pw,h9];rfl
  ·cases h
 ·rename_i n e hk he;obtain ⟨et,rfl⟩:=I1 (h3.trans hk);simp only at h5;rw [he] at h5;obtain ⟨ti,_,_,rD,_,_,hs,_⟩:=qE h5.symm;obtain ⟨nL,h6,rfl⟩:=aI.1 h;obtain ⟨c',h9,vg,xN⟩:=Nj er (place:=fun i=>some (i*ti.size,ti.size)) (fun i off l hi=>by
   rw [cu] at hi;obtain ⟨j,hj,XU⟩:=aI.1 hi;simp only [bE,aH] at XU;obtain ⟨rfl,rfl⟩:=XU;obtain ⟨_,XZ⟩:=aJ.1 hj;simp only [nA] at XZ;rw [XZ,hs]) parts.toList z.cells T.lay.zero nL (by omega) (fun k hk=>F1 k (by omega)) h6
  refine ⟨.agg c',?_, .agg vg xN⟩;simp only [Instr.build,Sem.run_bind,sU,Result.andThen_ok,run_underlying h2,uQ rD,pw,h9];rfl
 ·cases h
theorem Zm6 {vx:Value} {x r:ah} {xt u:TypeId} {ok:Bool} (hx:cf w M β vx x) (h:jy P x u ok=some r):∃ v,(Instr.typeAssert vx xt u ok).run P w = .ok v w∧cf w M β v r:=by
 unfold jy at h;split at h
 ·rename_i T t v hT;obtain ⟨d,h1,h2,h3,_⟩:=uS hT;obtain ⟨z,sU,sV,_⟩:=Cj (w:=w) (M:=M) (β:=β) h1;split at h
  ·cases h
  ·rename_i hk;have hd:∀ ms,d≠.interface ms:=by rintro ms rfl;exact hk (h3.symm)
   cases hx with
   | @iface _ y _ hy =>
    split at h
    ·rename_i e;subst e;cases h;refine ⟨if ok then .tuple #[y, .bool true] else y,?_,?_⟩
     ·simp only [Instr.typeAssert,Sem.run_bind,run_underlying h2,Result.andThen_ok];cases d<;>first | (exact absurd rfl (hd _)) | (simp)
     ·cases ok
      ·exact hy
      ·exact .dT rfl (fun j hj=>by match j,hj with | 0,_=>exact hy | 1,_=>exact .bool _)
    ·rename_i e;split at h
     ·rename_i jA;cases h;refine ⟨.tuple #[z, .bool false],?_, .dT rfl (fun j hj=>by match j,hj with | 0,_=>exact sV | 1,_=>exact .bool _)⟩
      simp only [Instr.typeAssert,Sem.run_bind,run_underlying h2,Result.andThen_ok];cases d<;>first | (exact absurd rfl (hd _)) | (simp [e,jA,sU])
     ·cases h
 ·rename_i T hT;obtain ⟨d,h1,h2,h3,_⟩:=uS hT;obtain ⟨z,sU,sV,_⟩:=Cj (w:=w) (M:=M) (β:=β) h1;cases hx;split at h
  ·cases h
  ·rename_i hk;have hd:∀ ms,d≠.interface ms:=by rintro ms rfl;exact hk (h3.symm)
   split at h
   ·rename_i jA;cases h;refine ⟨.tuple #[z, .bool false],?_, .dT rfl (fun j hj=>by match j,hj with | 0,_=>exact sV | 1,_=>exact .bool _)⟩
    simp only [Instr.typeAssert,Sem.run_bind,run_underlying h2,Result.andThen_ok];cases d<;>first | (exact absurd rfl (hd _)) | (simp [jA,sU])
   ·cases h
 ·cases h
end
end Go.dm
