/- Part 4 of my own framework and of the walks of functions: AbsG. -/
import Derived.Test.YtfjbdamcmiglgaaGreatOwn3
import Derived.Laws.Build
abbrev bC:=@Array.getElem?_setIfInBounds
abbrev qm:=@Array.toArray_toList
abbrev oC:=@Array.toList_map
abbrev bY:=@Bool.or_eq_true
abbrev jS:=@List.all_cons
abbrev dj:=@List.getD_eq_getElem?_getD
abbrev dR:=@List.getElem?_set
abbrev mL:=@List.getElem_range
abbrev bg:=@List.length_set
abbrev mN:=@List.mapM_cons
set_option linter.unusedVariables false
set_option linter.unusedSectionVars false
set_option linter.unusedSimpArgs false
namespace Go.c8
open Go
section
variable {P:Program} {X:Nat→Nat→Prop} {base:Nat} {σ:ai} {β:Env} {w:World} {nm:Nat} {M:Nat→Nat→Prop}
theorem Zru {vx:Value} {vs:List ae} {r:ae} {i:Nat} (hx:bR w M β vx (.dz vs)) (h:vs[i]? = some r):∃ v,(Instr.extract vx i).run P w = .ok v w∧bR w M β v r:=by
 cases hx with
 | @dz cs _ hn hr =>
  obtain ⟨bD,he⟩:=aI.1 h
  have:=hr i bD
  rw [show vs.getD i ae.undef=r by simp [List.getD,h]] at this
  refine ⟨cs.getD i undef,?_,this⟩
  simp only [Instr.extract]
  rw [tf (by omega)];rfl
theorem KE (hr:cC X base σ β w) {t:TypeId} {T:jH} (hT:bK P t=some T) (hk:T.kind = .str∨T.kind = .slice∨T.kind = .map) {vx:Value} {x:ae} {n:Nat} (hx:bR w (MT X σ β) β vx x) (h:ng T.kind σ x=some n) (ty:TypeId) :
  (Builtin.len_ #[t] ty #[vx]).run P w = .ok (.int .i64 n) w:=by
 obtain ⟨u,h1,h2,h3,_⟩:=tx hT
 have hu:∀ v,Builtin.len_ #[t] ty #[v]=(do
   match ← underlying t,v with
   | .string, .string s=>pure (goInt s.size)
   | .array n _,_=>pure (goInt n)
   | .pointer arr,_ =>
    let .array n _ ← underlying arr | stuck "len: pointer to array expected"
    pure (goInt n)
   | .slice _, .slice _ n _=>pure (goInt n)
   | .map _ _, .map none | .chan _ _, .chan none=>pure (goInt 0)
   | .map _ _, .map (some r) =>
    let .map entries _ ← getObj r | stuck "len: map expected"
    pure (goInt entries.size)
   | .chan _ _, .chan (some r) =>
    let .chan _ buf _ _ _ timer ← getObj r | stuck "len: channel expected"
    pure (goInt (if timer then 0 else buf.size))
   | _, _ => stuck "len: string, array, pointer to array, slice, map or channel expected") := fun v => rfl
 rw [hu]
 simp only [Sem.run_bind,run_underlying h2,Result.andThen_ok]
 unfold ng at h
 split at h
 ·rename_i s e1
  cases h
  obtain rfl:=zN (h3.trans e1)
  rw [hx.gy];rfl
 ·rename_i e1
  cases h
  obtain ⟨e,rfl⟩:=B4 (h3.trans e1)
  cases hx;rfl
 ·rename_i e1
  cases h
  obtain ⟨e,rfl⟩:=B4 (h3.trans e1)
  cases hx;rfl
 ·rename_i e1
  cases h
  obtain ⟨e,rfl⟩:=B4 (h3.trans e1)
  cases hx<;>rfl
 ·rename_i e1
  cases h
  obtain ⟨e,rfl⟩:=B4 (h3.trans e1)
  cases hx<;>rfl
 ·rename_i e1
  cases h
  obtain ⟨k,e,rfl⟩:=D4 (h3.trans e1)
  cases hx;rfl
 ·rename_i e1
  cases h
  obtain ⟨k,e,rfl⟩:=D4 (h3.trans e1)
  cases hx with
  | pm hg hm hn hv oq nG qD =>
   simp [getObj,Sem.run,hg,hn,goInt]
 ·rename_i b e1
  obtain ⟨k,e,rfl⟩:=D4 (h3.trans e1)
  split at h
  ·rename_i ks vs fz hb
   cases h
   obtain ⟨L,h5,_,_,es,clk,h6,hn,_⟩:=hr.cd _ _ (jU hb)
   cases hx with
   | map hL =>
    obtain rfl:=aM (h5.symm.trans hL)
    simp [getObj,Sem.run,h6,hn,goInt]
  ·cases h
 ·cases h
theorem Ue:∀ (vs:List Value) (cj:List ae) (v:Value) (a r:ae),vs.length=cj.length→(∀ k,k<cj.length→bR w M β (vs.getD k undef) (cj.getD k .undef))→bR w M β v a →
  fy (fun a b=>if a<b then b else a) a cj=some r→∃ x,(vs.foldlM Builtin.max2 v).run P w = .ok x w∧bR w M β x r
 | [],[],v,a,r,_,_,hv,h=>by
  simp only [fy,aG] at h;subst h
  exact ⟨v,rfl,hv⟩
 | [],_ :: _,_,_,_,h,_,_,_=>by simp at h
 | _ :: _,[],_,_,_,h,_,_,_=>by simp at h
 | u :: vs,b :: cj,v,a,r,hl,hr,hv,h=>by
  have h0:=hr 0 (by simp)
  simp only [bf] at h0
  cases a<;>cases b<;>simp only [fy,reduceCtorEq] at h
  rw [hv.dZ,h0.dZ]
  obtain ⟨x,h1,h2⟩:=Ue vs cj _ _ r (by simpa using hl) (fun k hk=>by simpa using hr (k+1) (by simpa using hk)) (.int _ _) h
  refine ⟨x,?_,h2⟩
  simp only [List.foldlM_cons,Sem.run_bind,Builtin.max2,Sem.run_pure,Result.andThen_ok]
  exact h1
theorem Uu:∀ (vs:List Value) (cj:List ae) (v:Value) (a r:ae),vs.length=cj.length→(∀ k,k<cj.length→bR w M β (vs.getD k undef) (cj.getD k .undef))→bR w M β v a →
  fy (fun a b=>if b<a then b else a) a cj=some r→∃ x,(vs.foldlM Builtin.min2 v).run P w = .ok x w∧bR w M β x r
 | [],[],v,a,r,_,_,hv,h=>by
  simp only [fy,aG] at h;subst h
  exact ⟨v,rfl,hv⟩
 | [],_ :: _,_,_,_,h,_,_,_=>by simp at h
 | _ :: _,[],_,_,_,h,_,_,_=>by simp at h
 | u :: vs,b :: cj,v,a,r,hl,hr,hv,h=>by
  have h0:=hr 0 (by simp)
  simp only [bf] at h0
  cases a<;>cases b<;>simp only [fy,reduceCtorEq] at h
  rw [hv.dZ,h0.dZ]
  obtain ⟨x,h1,h2⟩:=Uu vs cj _ _ r (by simpa using hl) (fun k hk=>by simpa using hr (k+1) (by simpa using hk)) (.int _ _) h
  refine ⟨x,?_,h2⟩
  simp only [List.foldlM_cons,Sem.run_bind,Builtin.min2,Sem.run_pure,Result.andThen_ok]
  exact h1
theorem P6 (off:Nat):∀ (vs:List Value) (cj:List ae) (s:Nat) (c:Array Value) (cs:List ae),vs.length=cj.length →
  (∀ k,k<cj.length→bR w M β (vs.getD k undef) (cj.getD k .undef))→c.size=cs.length→(∀ k,k<cs.length→bR w M β (c.getD k undef) (cs.getD k .undef)) →
  ((vs.zipIdx s).foldl (fun cs p=>cs.setIfInBounds (off+p.2) p.1) c).size=(cq cs (off+s) cj).length ∧
   ∀ k,k<(cq cs (off+s) cj).length→bR w M β (((vs.zipIdx s).foldl (fun cs p=>cs.setIfInBounds (off+p.2) p.1) c).getD k undef) ((cq cs (off+s) cj).getD k .undef)
 | [],[],s,c,cs,_,_,hn,hr=>⟨hn,hr⟩
 | [],_ :: _,_,_,_,h,_,_,_=>by simp at h
 | _ :: _,[],_,_,_,h,_,_,_=>by simp at h
 | v :: vs,a :: cj,s,c,cs,hl,hv,hn,hr=>by
  have h0:=hv 0 (by simp)
  simp only [bf] at h0
  have:=P6 off vs cj (s+1) (c.setIfInBounds (off+s) v) (cs.set (off+s) a) (by simpa using hl) (fun k hk=>by simpa using hv (k+1) (by simpa using hk))
   (by simpa using hn) (fun k hk=>by
    simp only [bg] at hk
    rw [aj,dj,bC,dR]
    by_cases e:off+s=k
    ·rw [if_pos e,if_pos e,if_pos (by omega),if_pos (by omega)];exact h0
    ·rw [if_neg e,if_neg e,← aj,← dj];exact hr k hk)
  simp only [List.zipIdx_cons,List.foldl_cons,cq]
  rw [← fc] at this
  exact this
theorem uz:∀ (cs:List ae) (o:Nat) (cj:List ae),(cq cs o cj).length=cs.length
 | _,_,[]=>rfl
 | cs,o,a :: cj=>by rw [cq,uz];simp
theorem KX {ρ:Operand→Value} {gV:Operand→ae} (dJ:∀ x,bR w M β (ρ x) (gV x)) {oN:List (Nat×Option eF)} {place:Nat→Option (Nat×Nat)}
  (hp:∀ i off l,oN[i]? = some (off,some l)→place i=some (off,l.sz)):∀ (parts:List (Nat×Operand)) (c:Array Value) (cs mW:List ae),c.size=cs.length →
   (∀ k,k<cs.length→bR w M β (c.getD k undef) (cs.getD k .undef))→kh oN gV cs parts=some mW →
   ∃ c',Instr.fill place c (parts.map fun (i,x)=>(i,ρ x))=some c'∧c'.size=mW.length∧∀ k,k<mW.length→bR w M β (c'.getD k undef) (mW.getD k .undef)
 | [],c,cs,mW,hn,hr,h=>by
  simp only [kh,aG] at h;subst h
  exact ⟨c,rfl,hn,hr⟩
 | (i,x) :: rest,c,cs,mW,hn,hr,h=>by
  simp only [kh] at h
  split at h
  ·rename_i off l hf
   split at h
   ·rename_i hc
    obtain ⟨rm,kY,Ai⟩:=hc
    obtain ⟨Ew,vY,_,_⟩:=E1 (dJ x) Ai
    obtain ⟨h1,h2⟩:=P6 off (ρ x).cells.toList (gV x).cells 0 c cs (by simpa using Ew) (fun k hk=>by
     have:=vY k hk
     rwa [show (ρ x).cells.toList.getD k undef=(ρ x).cells.getD k undef by simp [List.getD,aj]]) hn hr
    obtain ⟨c',h3,h4⟩:=KX dJ hp rest _ _ mW h1 h2 h
    refine ⟨c',?_,h4⟩
    simp only [aF,Instr.fill,hp i off l hf]
    have mB:¬ ((decide ((ρ x).cells.size≠l.sz)||decide (off+(ρ x).cells.size > c.size))=true):=by simp only [bY,decide_eq_true_eq];omega
    rw [if_neg mB]
    rw [← h3,← Array.foldl_toList,Array.toList_zipIdx]
   ·cases h
  ·cases h
theorem Zyn (fs:List Field) (h:(fs.map fun f=>(f.offset,aC P f.type)).all (·.2.isSome)=true) :
  ∃ ps:Array (Nat×Nat),(fs.toArray.mapM fun f=>do pure (f.offset,← sizeOf f.type):Sem (Array (Nat×Nat))).run P w = .ok ps w ∧
   ∀ (i off:Nat) (l:eF),(fs.map fun f=>(f.offset,aC P f.type))[i]? = some (off,some l)→ps[i]? = some (off,l.sz):=by
 refine ⟨(fs.map fun f=>(f.offset,P.cellsOf f.type)).toArray,?_,?_⟩
 ·simp only [List.mapM_toArray,Sem.run_map]
  have:∀ fs:List Field,(fs.map fun f=>(f.offset,aC P f.type)).all (·.2.isSome)=true →
    (fs.mapM fun f=>do pure (f.offset,← sizeOf f.type):Sem (List (Nat×Nat))).run P w = .ok (fs.map fun f=>(f.offset,P.cellsOf f.type)) w:=by
   intro fs
   induction fs with
   | nil=>intro _;rfl
   | cons f fs ih =>
    intro h
    simp only [aF,jS,aD] at h
    obtain ⟨l,hl⟩:=n7.1 h.1
    obtain ⟨i,u,z,h1,_⟩:=pO hl
    have h2:P.cellsOf f.type=i.size:=by simp [Program.cellsOf,h1]
    have Jc:=ih h.2
    simp only [mN,Sem.run_bind,tn h1,Result.andThen_ok,Sem.run_pure,aF,h2]
    rw [Jc];rfl
  rw [this fs h]
  rfl
 ·intro i off l hi
  rw [cb] at hi
  obtain ⟨f,hf,he⟩:=aH.1 hi
  simp only [bw] at he
  obtain ⟨rfl,hl⟩:=he
  obtain ⟨ti,u,z,h1,_,_,h4,_⟩:=pO hl
  simp [hf,Program.cellsOf,h1,h4]
theorem Zyp {t:TypeId} {T:jH} (hT:bK P t=some T) {ρ:Operand→Value} {gV:Operand→ae} (dJ:∀ x,bR w M β (ρ x) (gV x)) {parts:Array (Nat×Operand)} {r:ae}
  (h:n_ T gV parts.toList=some r):∃ v,(Instr.build t (parts.map fun (i,x)=>(i,ρ x))).run P w = .ok v w∧bR w M β v r:=by
 obtain ⟨u,h1,h2,h3,h4,h5,_⟩:=tx hT
 obtain ⟨z,rv,_,ry,Jb,EC,_⟩:=A5 (w:=w) (M:=M) (β:=β) h1
 unfold n_ at h
 split at h
 ·rename_i hk
  obtain ⟨fs,rfl⟩:=JP (h3.trans hk)
  simp only at h4
  split at h
  ·rename_i eK
   obtain ⟨mW,h6,rfl⟩:=aH.1 h
   rw [h4] at eK h6
   obtain ⟨ps,h7,h8⟩:=Zyn (w:=w) fs.toList eK
   obtain ⟨c',h9,tO,wJ⟩:=KX dJ (place:=(ps[·]?)) h8 parts.toList z.cells T.lay.zero mW (by omega) (fun k hk=>EC k (by omega)) h6
   refine ⟨.agg c',?_, .agg tO wJ⟩
   simp only [qm] at h7
   simp only [Instr.build,Sem.run_bind,rv,Result.andThen_ok,run_underlying h2,h7,oC,h9]
   rfl
  ·cases h
 ·rename_i n e hk he
  obtain ⟨et,rfl⟩:=Hr (h3.trans hk)
  simp only at h5
  rw [he] at h5
  obtain ⟨ti,_,_,qk,_,_,hs,_⟩:=pO h5.symm
  obtain ⟨mW,h6,rfl⟩:=aH.1 h
  obtain ⟨c',h9,tO,wJ⟩:=KX dJ (place:=fun i=>some (i*ti.size,ti.size)) (fun i off l hi=>by
   rw [cb] at hi
   obtain ⟨j,hj,U6⟩:=aH.1 hi
   simp only [bw,aG] at U6
   obtain ⟨rfl,rfl⟩:=U6
   obtain ⟨_,Vc⟩:=aI.1 hj
   simp only [mL] at Vc
   rw [Vc,hs]) parts.toList z.cells T.lay.zero mW (by omega) (fun k hk=>EC k (by omega)) h6
  refine ⟨.agg c',?_, .agg tO wJ⟩
  simp only [Instr.build,Sem.run_bind,rv,Result.andThen_ok,run_underlying h2,tn qk,oC,h9]
  rfl
 ·cases h
theorem Zlh {vx:Value} {x r:ae} {xt u:TypeId} {ok:Bool} (hx:bR w M β vx x) (h:iV P x u ok=some r):∃ v,(Instr.typeAssert vx xt u ok).run P w = .ok v w∧bR w M β v r:=by
 unfold iV at h
 split at h
 ·rename_i T t v hT
  obtain ⟨d,h1,h2,h3,_⟩:=tx hT
  obtain ⟨z,rv,ry,_⟩:=A5 (w:=w) (M:=M) (β:=β) h1
  split at h
  ·cases h
  ·rename_i hk
   have hd:∀ ms,d≠.interface ms:=by rintro ms rfl;exact hk (h3.symm)
   cases hx with
   | @iface _ y _ hy =>
    split at h
    ·rename_i e
     subst e
     cases h
     refine ⟨if ok then .tuple #[y, .bool true] else y,?_,?_⟩
     ·simp only [Instr.typeAssert,Sem.run_bind,run_underlying h2,Result.andThen_ok]
      cases d<;>first | (exact absurd rfl (hd _)) | (simp)
     ·cases ok
      ·exact hy
      ·exact .dz rfl (fun j hj=>by match j,hj with | 0,_=>exact hy | 1,_=>exact .bool _)
    ·rename_i e
     split at h
     ·rename_i j9
      cases h
      refine ⟨.tuple #[z, .bool false],?_, .dz rfl (fun j hj=>by match j,hj with | 0,_=>exact ry | 1,_=>exact .bool _)⟩
      simp only [Instr.typeAssert,Sem.run_bind,run_underlying h2,Result.andThen_ok]
      cases d<;>first | (exact absurd rfl (hd _)) | (simp [e,j9,rv])
     ·cases h
 ·rename_i T hT
  obtain ⟨d,h1,h2,h3,_⟩:=tx hT
  obtain ⟨z,rv,ry,_⟩:=A5 (w:=w) (M:=M) (β:=β) h1
  cases hx
  split at h
  ·cases h
  ·rename_i hk
   have hd:∀ ms,d≠.interface ms:=by rintro ms rfl;exact hk (h3.symm)
   split at h
   ·rename_i j9
    cases h
    refine ⟨.tuple #[z, .bool false],?_, .dz rfl (fun j hj=>by match j,hj with | 0,_=>exact ry | 1,_=>exact .bool _)⟩
    simp only [Instr.typeAssert,Sem.run_bind,run_underlying h2,Result.andThen_ok]
    cases d<;>first | (exact absurd rfl (hd _)) | (simp [j9,rv])
   ·cases h
 ·cases h
end
end Go.c8
