/- Part 4 of my own framework and of the walks of functions: AbsG. -/
import Derived.Test.YtfjbdamcmiglgaaGreatOwn3
import Derived.Laws.Build
abbrev bC:=@Array.getElem?_setIfInBounds
abbrev qv:=@Array.toArray_toList
abbrev oE:=@Array.toList_map
abbrev b9:=@Bool.or_eq_true
abbrev jS:=@List.all_cons
abbrev dm:=@List.getD_eq_getElem?_getD
abbrev dT:=@List.getElem?_set
abbrev mK:=@List.getElem_range
abbrev bh:=@List.length_set
abbrev mM:=@List.mapM_cons
set_option linter.unusedVariables false
set_option linter.unusedSectionVars false
set_option linter.unusedSimpArgs false
namespace Go.cV
open Go
section
variable {P:Program} {X:Nat→Nat→Prop} {base:Nat} {σ:ai} {β:Env} {w:World} {nm:Nat} {M:Nat→Nat→Prop}
theorem Zsy {vx:Value} {vs:List ae} {r:ae} {i:Nat} (hx:bR w M β vx (.dy vs)) (h:vs[i]? = some r):∃ v,(Instr.extract vx i).run P w = .ok v w∧bR w M β v r:=by
 cases hx with
 | @dy cs _ hn hr =>
  obtain ⟨bD,he⟩:=aH.1 h
  have:=hr i bD
  rw [show vs.getD i ae.undef=r by simp [List.getD,h]] at this
  refine ⟨cs.getD i undef,?_,this⟩
  simp only [Instr.extract]
  rw [tD (by omega)];rfl
theorem Lb (hr:cF X base σ β w) {t:TypeId} {T:jH} (hT:bJ P t=some T) (hk:T.kind = .str∨T.kind = .slice∨T.kind = .map) {vx:Value} {x:ae} {n:Nat} (hx:bR w (MT X σ β) β vx x) (h:ng T.kind σ x=some n) (ty:TypeId) :
  (Builtin.len_ #[t] ty #[vx]).run P w = .ok (.int .i64 n) w:=by
 obtain ⟨u,h1,h2,h3,_⟩:=tH hT
 have hu:∀ v,Builtin.len_ #[t] ty #[v]=(do
   match ← underlying t,v with
   | .string, .string s=>pure (goInt s.size)
   | .array n _,_=>pure (goInt n)
   | .pointer arr,_ =>
    let .array n _ ← underlying arr | stuck "len: pointer to array expected"
    pure (goInt n)
   | .slice _, .slice _ n _=>pure (goInt n)
   | .map _ _, .map none | .chan _ _, .chan none=>pure (goInt 0)
   | .map _ _, .map (some r) =>
    let .map entries _ ← getObj r | stuck "len: map expected"
    pure (goInt entries.size)
   | .chan _ _, .chan (some r) =>
    let .chan _ buf _ _ _ timer ← getObj r | stuck "len: channel expected"
    pure (goInt (if timer then 0 else buf.size))
   | _, _ => stuck "len: string, array, pointer to array, slice, map or channel expected") := fun v => rfl
 rw [hu]
 simp only [Sem.run_bind,run_underlying h2,Result.andThen_ok]
 unfold ng at h
 split at h
 ·rename_i s e1
  cases h
  obtain rfl:=zR (h3.trans e1)
  rw [hx.gw];rfl
 ·rename_i e1
  cases h
  obtain ⟨e,rfl⟩:=Cc (h3.trans e1)
  cases hx;rfl
 ·rename_i e1
  cases h
  obtain ⟨e,rfl⟩:=Cc (h3.trans e1)
  cases hx;rfl
 ·rename_i e1
  cases h
  obtain ⟨e,rfl⟩:=Cc (h3.trans e1)
  cases hx<;>rfl
 ·rename_i e1
  cases h
  obtain ⟨e,rfl⟩:=Cc (h3.trans e1)
  cases hx<;>rfl
 ·rename_i e1
  cases h
  obtain ⟨k,e,rfl⟩:=D_ (h3.trans e1)
  cases hx;rfl
 ·rename_i e1
  cases h
  obtain ⟨k,e,rfl⟩:=D_ (h3.trans e1)
  cases hx with
  | pm hg hm hn hv ou nH qM =>
   simp [getObj,Sem.run,hg,hn,goInt]
 ·rename_i b e1
  obtain ⟨k,e,rfl⟩:=D_ (h3.trans e1)
  split at h
  ·rename_i ks vs fz hb
   cases h
   obtain ⟨L,h5,_,_,es,clk,h6,hn,_⟩:=hr.cf _ _ (jU hb)
   cases hx with
   | map hL =>
    obtain rfl:=aM (h5.symm.trans hL)
    simp [getObj,Sem.run,h6,hn,goInt]
  ·cases h
 ·cases h
theorem T4:∀ (vs:List Value) (ck:List ae) (v:Value) (a r:ae),vs.length=ck.length→(∀ k,k<ck.length→bR w M β (vs.getD k undef) (ck.getD k .undef))→bR w M β v a →
  fy (fun a b=>if a<b then b else a) a ck=some r→∃ x,(vs.foldlM Builtin.max2 v).run P w = .ok x w∧bR w M β x r
 | [],[],v,a,r,_,_,hv,h=>by
  simp only [fy,aE] at h;subst h
  exact ⟨v,rfl,hv⟩
 | [],_ :: _,_,_,_,h,_,_,_=>by simp at h
 | _ :: _,[],_,_,_,h,_,_,_=>by simp at h
 | u :: vs,b :: ck,v,a,r,hl,hr,hv,h=>by
  have h0:=hr 0 (by simp)
  simp only [bg] at h0
  cases a<;>cases b<;>simp only [fy,reduceCtorEq] at h
  rw [hv.eg,h0.eg]
  obtain ⟨x,h1,h2⟩:=T4 vs ck _ _ r (by simpa using hl) (fun k hk=>by simpa using hr (k+1) (by simpa using hk)) (.int _ _) h
  refine ⟨x,?_,h2⟩
  simp only [List.foldlM_cons,Sem.run_bind,Builtin.max2,Sem.run_pure,Result.andThen_ok]
  exact h1
theorem UH:∀ (vs:List Value) (ck:List ae) (v:Value) (a r:ae),vs.length=ck.length→(∀ k,k<ck.length→bR w M β (vs.getD k undef) (ck.getD k .undef))→bR w M β v a →
  fy (fun a b=>if b<a then b else a) a ck=some r→∃ x,(vs.foldlM Builtin.min2 v).run P w = .ok x w∧bR w M β x r
 | [],[],v,a,r,_,_,hv,h=>by
  simp only [fy,aE] at h;subst h
  exact ⟨v,rfl,hv⟩
 | [],_ :: _,_,_,_,h,_,_,_=>by simp at h
 | _ :: _,[],_,_,_,h,_,_,_=>by simp at h
 | u :: vs,b :: ck,v,a,r,hl,hr,hv,h=>by
  have h0:=hr 0 (by simp)
  simp only [bg] at h0
  cases a<;>cases b<;>simp only [fy,reduceCtorEq] at h
  rw [hv.eg,h0.eg]
  obtain ⟨x,h1,h2⟩:=UH vs ck _ _ r (by simpa using hl) (fun k hk=>by simpa using hr (k+1) (by simpa using hk)) (.int _ _) h
  refine ⟨x,?_,h2⟩
  simp only [List.foldlM_cons,Sem.run_bind,Builtin.min2,Sem.run_pure,Result.andThen_ok]
  exact h1
theorem Qh (off:Nat):∀ (vs:List Value) (ck:List ae) (s:Nat) (c:Array Value) (cs:List ae),vs.length=ck.length →
  (∀ k,k<ck.length→bR w M β (vs.getD k undef) (ck.getD k .undef))→c.size=cs.length→(∀ k,k<cs.length→bR w M β (c.getD k undef) (cs.getD k .undef)) →
  ((vs.zipIdx s).foldl (fun cs p=>cs.setIfInBounds (off+p.2) p.1) c).size=(cr cs (off+s) ck).length ∧
   ∀ k,k<(cr cs (off+s) ck).length→bR w M β (((vs.zipIdx s).foldl (fun cs p=>cs.setIfInBounds (off+p.2) p.1) c).getD k undef) ((cr cs (off+s) ck).getD k .undef)
 | [],[],s,c,cs,_,_,hn,hr=>⟨hn,hr⟩
 | [],_ :: _,_,_,_,h,_,_,_=>by simp at h
 | _ :: _,[],_,_,_,h,_,_,_=>by simp at h
 | v :: vs,a :: ck,s,c,cs,hl,hv,hn,hr=>by
  have h0:=hv 0 (by simp)
  simp only [bg] at h0
  have:=Qh off vs ck (s+1) (c.setIfInBounds (off+s) v) (cs.set (off+s) a) (by simpa using hl) (fun k hk=>by simpa using hv (k+1) (by simpa using hk))
   (by simpa using hn) (fun k hk=>by
    simp only [bh] at hk
    rw [aj,dm,bC,dT]
    by_cases e:off+s=k
    ·rw [if_pos e,if_pos e,if_pos (by omega),if_pos (by omega)];exact h0
    ·rw [if_neg e,if_neg e,← aj,← dm];exact hr k hk)
  simp only [List.zipIdx_cons,List.foldl_cons,cr]
  rw [← ff] at this
  exact this
theorem uL:∀ (cs:List ae) (o:Nat) (ck:List ae),(cr cs o ck).length=cs.length
 | _,_,[]=>rfl
 | cs,o,a :: ck=>by rw [cr,uL];simp
theorem Lf {ρ:Operand→Value} {gU:Operand→ae} (dL:∀ x,bR w M β (ρ x) (gU x)) {oO:List (Nat×Option eI)} {place:Nat→Option (Nat×Nat)}
  (hp:∀ i off l,oO[i]? = some (off,some l)→place i=some (off,l.sz)):∀ (parts:List (Nat×Operand)) (c:Array Value) (cs mV:List ae),c.size=cs.length →
   (∀ k,k<cs.length→bR w M β (c.getD k undef) (cs.getD k .undef))→kf oO gU cs parts=some mV →
   ∃ c',Instr.fill place c (parts.map fun (i,x)=>(i,ρ x))=some c'∧c'.size=mV.length∧∀ k,k<mV.length→bR w M β (c'.getD k undef) (mV.getD k .undef)
 | [],c,cs,mV,hn,hr,h=>by
  simp only [kf,aE] at h;subst h
  exact ⟨c,rfl,hn,hr⟩
 | (i,x) :: rest,c,cs,mV,hn,hr,h=>by
  simp only [kf] at h
  split at h
  ·rename_i off l hf
   split at h
   ·rename_i hc
    obtain ⟨rD,kY,Aq⟩:=hc
    obtain ⟨EF,wg,_,_⟩:=E6 (dL x) Aq
    obtain ⟨h1,h2⟩:=Qh off (ρ x).cells.toList (gU x).cells 0 c cs (by simpa using EF) (fun k hk=>by
     have:=wg k hk
     rwa [show (ρ x).cells.toList.getD k undef=(ρ x).cells.getD k undef by simp [List.getD,aj]]) hn hr
    obtain ⟨c',h3,h4⟩:=Lf dL hp rest _ _ mV h1 h2 h
    refine ⟨c',?_,h4⟩
    simp only [aI,Instr.fill,hp i off l hf]
    have mA:¬ ((decide ((ρ x).cells.size≠l.sz)||decide (off+(ρ x).cells.size > c.size))=true):=by simp only [b9,decide_eq_true_eq];omega
    rw [if_neg mA]
    rw [← h3,← Array.foldl_toList,Array.toList_zipIdx]
   ·cases h
  ·cases h
theorem WC (fs:List Field) (h:(fs.map fun f=>(f.offset,aC P f.type)).all (·.2.isSome)=true) :
  ∃ ps:Array (Nat×Nat),(fs.toArray.mapM fun f=>do pure (f.offset,← sizeOf f.type):Sem (Array (Nat×Nat))).run P w = .ok ps w ∧
   ∀ (i off:Nat) (l:eI),(fs.map fun f=>(f.offset,aC P f.type))[i]? = some (off,some l)→ps[i]? = some (off,l.sz):=by
 refine ⟨(fs.map fun f=>(f.offset,P.cellsOf f.type)).toArray,?_,?_⟩
 ·simp only [List.mapM_toArray,Sem.run_map]
  have:∀ fs:List Field,(fs.map fun f=>(f.offset,aC P f.type)).all (·.2.isSome)=true →
    (fs.mapM fun f=>do pure (f.offset,← sizeOf f.type):Sem (List (Nat×Nat))).run P w = .ok (fs.map fun f=>(f.offset,P.cellsOf f.type)) w:=by
   intro fs
   induction fs with
   | nil=>intro _;rfl
   | cons f fs ih =>
    intro h
    simp only [aI,jS,aD] at h
    obtain ⟨l,hl⟩:=n_.1 h.1
    obtain ⟨i,u,z,h1,_⟩:=pW hl
    have h2:P.cellsOf f.type=i.size:=by simp [Program.cellsOf,h1]
    have Jk:=ih h.2
    simp only [mM,Sem.run_bind,tF h1,Result.andThen_ok,Sem.run_pure,aI,h2]
    rw [Jk];rfl
  rw [this fs h]
  rfl
 ·intro i off l hi
  rw [cd] at hi
  obtain ⟨f,hf,he⟩:=aG.1 hi
  simp only [bu] at he
  obtain ⟨rfl,hl⟩:=he
  obtain ⟨ti,u,z,h1,_,_,h4,_⟩:=pW hl
  simp [hf,Program.cellsOf,h1,h4]
theorem Wu {t:TypeId} {T:jH} (hT:bJ P t=some T) {ρ:Operand→Value} {gU:Operand→ae} (dL:∀ x,bR w M β (ρ x) (gU x)) {parts:Array (Nat×Operand)} {r:ae}
  (h:og T gU parts.toList=some r):∃ v,(Instr.build t (parts.map fun (i,x)=>(i,ρ x))).run P w = .ok v w∧bR w M β v r:=by
 obtain ⟨u,h1,h2,h3,h4,h5,_⟩:=tH hT
 obtain ⟨z,rH,_,rI,Jj,EK,_⟩:=Be (w:=w) (M:=M) (β:=β) h1
 unfold og at h
 split at h
 ·rename_i hk
  obtain ⟨fs,rfl⟩:=JR (h3.trans hk)
  simp only at h4
  split at h
  ·rename_i eX
   obtain ⟨mV,h6,rfl⟩:=aG.1 h
   rw [h4] at eX h6
   obtain ⟨ps,h7,h8⟩:=WC (w:=w) fs.toList eX
   obtain ⟨c',h9,ub,wQ⟩:=Lf dL (place:=(ps[·]?)) h8 parts.toList z.cells T.lay.zero mV (by omega) (fun k hk=>EK k (by omega)) h6
   refine ⟨.agg c',?_, .agg ub wQ⟩
   simp only [qv] at h7
   simp only [Instr.build,Sem.run_bind,rH,Result.andThen_ok,run_underlying h2,h7,oE,h9]
   rfl
  ·cases h
 ·rename_i n e hk he
  obtain ⟨et,rfl⟩:=HE (h3.trans hk)
  simp only at h5
  rw [he] at h5
  obtain ⟨ti,_,_,qs,_,_,hs,_⟩:=pW h5.symm
  obtain ⟨mV,h6,rfl⟩:=aG.1 h
  obtain ⟨c',h9,ub,wQ⟩:=Lf dL (place:=fun i=>some (i*ti.size,ti.size)) (fun i off l hi=>by
   rw [cd] at hi
   obtain ⟨j,hj,Vo⟩:=aG.1 hi
   simp only [bu,aE] at Vo
   obtain ⟨rfl,rfl⟩:=Vo
   obtain ⟨_,Vu⟩:=aH.1 hj
   simp only [mK] at Vu
   rw [Vu,hs]) parts.toList z.cells T.lay.zero mV (by omega) (fun k hk=>EK k (by omega)) h6
  refine ⟨.agg c',?_, .agg ub wQ⟩
  simp only [Instr.build,Sem.run_bind,rH,Result.andThen_ok,run_underlying h2,tF qs,oE,h9]
  rfl
 ·cases h
theorem Zkq {vx:Value} {x r:ae} {xt u:TypeId} {ok:Bool} (hx:bR w M β vx x) (h:iW P x u ok=some r):∃ v,(Instr.typeAssert vx xt u ok).run P w = .ok v w∧bR w M β v r:=by
 unfold iW at h
 split at h
 ·rename_i T t v hT
  obtain ⟨d,h1,h2,h3,_⟩:=tH hT
  obtain ⟨z,rH,rI,_⟩:=Be (w:=w) (M:=M) (β:=β) h1
  split at h
  ·cases h
  ·rename_i hk
   have hd:∀ ms,d≠.interface ms:=by rintro ms rfl;exact hk (h3.symm)
   cases hx with
   | @iface _ y _ hy =>
    split at h
    ·rename_i e
     subst e
     cases h
     refine ⟨if ok then .tuple #[y, .bool true] else y,?_,?_⟩
     ·simp only [Instr.typeAssert,Sem.run_bind,run_underlying h2,Result.andThen_ok]
      cases d<;>first | (exact absurd rfl (hd _)) | (simp)
     ·cases ok
      ·exact hy
      ·exact .dy rfl (fun j hj=>by match j,hj with | 0,_=>exact hy | 1,_=>exact .bool _)
    ·rename_i e
     split at h
     ·rename_i j8
      cases h
      refine ⟨.tuple #[z, .bool false],?_, .dy rfl (fun j hj=>by match j,hj with | 0,_=>exact rI | 1,_=>exact .bool _)⟩
      simp only [Instr.typeAssert,Sem.run_bind,run_underlying h2,Result.andThen_ok]
      cases d<;>first | (exact absurd rfl (hd _)) | (simp [e,j8,rH])
     ·cases h
 ·rename_i T hT
  obtain ⟨d,h1,h2,h3,_⟩:=tH hT
  obtain ⟨z,rH,rI,_⟩:=Be (w:=w) (M:=M) (β:=β) h1
  cases hx
  split at h
  ·cases h
  ·rename_i hk
   have hd:∀ ms,d≠.interface ms:=by rintro ms rfl;exact hk (h3.symm)
   split at h
   ·rename_i j8
    cases h
    refine ⟨.tuple #[z, .bool false],?_, .dy rfl (fun j hj=>by match j,hj with | 0,_=>exact rI | 1,_=>exact .bool _)⟩
    simp only [Instr.typeAssert,Sem.run_bind,run_underlying h2,Result.andThen_ok]
    cases d<;>first | (exact absurd rfl (hd _)) | (simp [j8,rH])
   ·cases h
 ·cases h
end
end Go.cV
