/- Part 4 of my own framework and of the walks of functions: AbsG. -/
import Derived.Test.YtpgnahcljlclcaaGreatOwn3
import Derived.Laws.Build
set_option linter.unusedVariables false
set_option linter.unusedSectionVars false
set_option linter.unusedSimpArgs false
namespace Go.Abs
open Go
section
variable {P:Program} {X:Nat→Nat→Prop} {base:Nat} {σ:Store} {β:Env} {w:World} {nm:Nat} {M:Nat→Nat→Prop}
theorem Zog {vx:Value} {vs:List AVal} {r:AVal} {i:Nat} (hx:Rep w M β vx (.tup vs)) (h:vs[i]? = some r):∃ v,(Instr.extract vx i).run P w = .ok v w∧Rep w M β v r:=by
 cases hx with
 | @tup cs _ hn hr =>
  obtain ⟨hlt,he⟩:=List.getElem?_eq_some_iff.1 h
  have:=hr i hlt
  rw [show vs.getD i AVal.undef=r by simp [List.getD,h]] at this
  refine ⟨cs.getD i undef,?_,this⟩
  simp only [Instr.extract]
  rw [Zan (by omega)];rfl
theorem Zn0 (hr:RelS X base σ β w) {t:TypeId} {T:TyA} (hT:tyA P t=some T) (hk:T.kind = .str∨T.kind = .slice∨T.kind = .map) {vx:Value} {x:AVal} {n:Nat} (hx:Rep w (MT X σ β) β vx x) (h:lenA T.kind σ x=some n) (ty:TypeId) :
  (Builtin.len_ #[t] ty #[vx]).run P w = .ok (.int .i64 n) w:=by
 obtain ⟨u,h1,h2,h3,_⟩:=Zbn hT
 have hu:∀ v,Builtin.len_ #[t] ty #[v]=(do
   match ← underlying t,v with
   | .string, .string s=>pure (goInt s.size)
   | .array n _,_=>pure (goInt n)
   | .pointer arr,_ =>
    let .array n _ ← underlying arr | stuck "len: pointer to array expected"
    pure (goInt n)
   | .slice _, .slice _ n _=>pure (goInt n)
   | .map _ _, .map none | .chan _ _, .chan none=>pure (goInt 0)
   | .map _ _, .map (some r) =>
    let .map entries _ ← getObj r | stuck "len: map expected"
    pure (goInt entries.size)
   | .chan _ _, .chan (some r) =>
    let .chan _ buf _ _ _ timer ← getObj r | stuck "len: channel expected"
    pure (goInt (if timer then 0 else buf.size))
   | _, _ => stuck "len: string, array, pointer to array, slice, map or channel expected") := fun v => rfl
 rw [hu]
 simp only [Sem.run_bind,run_underlying h2,Result.andThen_ok]
 unfold lenA at h
 split at h
 ·rename_i s e1
  cases h
  obtain rfl:=Zd8 (h3.trans e1)
  rw [hx.str_inv];rfl
 ·rename_i e1
  cases h
  obtain ⟨e,rfl⟩:=Zcr (h3.trans e1)
  cases hx;rfl
 ·rename_i e1
  cases h
  obtain ⟨e,rfl⟩:=Zcr (h3.trans e1)
  cases hx;rfl
 ·rename_i e1
  cases h
  obtain ⟨e,rfl⟩:=Zcr (h3.trans e1)
  cases hx<;>rfl
 ·rename_i e1
  cases h
  obtain ⟨e,rfl⟩:=Zcr (h3.trans e1)
  cases hx<;>rfl
 ·rename_i e1
  cases h
  obtain ⟨k,e,rfl⟩:=Zfr (h3.trans e1)
  cases hx;rfl
 ·rename_i e1
  cases h
  obtain ⟨k,e,rfl⟩:=Zfr (h3.trans e1)
  cases hx with
  | pm hg hm hn hv hr1 hr2 hbo =>
   simp [getObj,Sem.run,hg,hn,goInt]
 ·rename_i b e1
  obtain ⟨k,e,rfl⟩:=Zfr (h3.trans e1)
  split at h
  ·rename_i ks vs fz hb
   cases h
   obtain ⟨L,h5,_,_,es,clk,h6,hn,_⟩:=hr.blk _ _ (Zae hb)
   cases hx with
   | map hL =>
    obtain rfl:=Option.some.inj (h5.symm.trans hL)
    simp [getObj,Sem.run,h6,hn,goInt]
  ·cases h
 ·cases h
theorem Ztf:∀ (vs:List Value) (as_:List AVal) (v:Value) (a r:AVal),vs.length=as_.length→(∀ k,k<as_.length→Rep w M β (vs.getD k undef) (as_.getD k .undef))→Rep w M β v a →
  foldInts (fun a b=>if a<b then b else a) a as_=some r→∃ x,(vs.foldlM Builtin.max2 v).run P w = .ok x w∧Rep w M β x r
 | [],[],v,a,r,_,_,hv,h=>by
  simp only [foldInts,Option.some.injEq] at h;subst h
  exact ⟨v,rfl,hv⟩
 | [],_ :: _,_,_,_,h,_,_,_=>by simp at h
 | _ :: _,[],_,_,_,h,_,_,_=>by simp at h
 | u :: vs,b :: as_,v,a,r,hl,hr,hv,h=>by
  have h0:=hr 0 (by simp)
  simp only [List.getD_cons_zero] at h0
  cases a<;>cases b<;>simp only [foldInts,reduceCtorEq] at h
  rw [hv.int_inv,h0.int_inv]
  obtain ⟨x,h1,h2⟩:=Ztf vs as_ _ _ r (by simpa using hl) (fun k hk=>by simpa using hr (k+1) (by simpa using hk)) (.int _ _) h
  refine ⟨x,?_,h2⟩
  simp only [List.foldlM_cons,Sem.run_bind,Builtin.max2,Sem.run_pure,Result.andThen_ok]
  exact h1
theorem Zun:∀ (vs:List Value) (as_:List AVal) (v:Value) (a r:AVal),vs.length=as_.length→(∀ k,k<as_.length→Rep w M β (vs.getD k undef) (as_.getD k .undef))→Rep w M β v a →
  foldInts (fun a b=>if b<a then b else a) a as_=some r→∃ x,(vs.foldlM Builtin.min2 v).run P w = .ok x w∧Rep w M β x r
 | [],[],v,a,r,_,_,hv,h=>by
  simp only [foldInts,Option.some.injEq] at h;subst h
  exact ⟨v,rfl,hv⟩
 | [],_ :: _,_,_,_,h,_,_,_=>by simp at h
 | _ :: _,[],_,_,_,h,_,_,_=>by simp at h
 | u :: vs,b :: as_,v,a,r,hl,hr,hv,h=>by
  have h0:=hr 0 (by simp)
  simp only [List.getD_cons_zero] at h0
  cases a<;>cases b<;>simp only [foldInts,reduceCtorEq] at h
  rw [hv.int_inv,h0.int_inv]
  obtain ⟨x,h1,h2⟩:=Zun vs as_ _ _ r (by simpa using hl) (fun k hk=>by simpa using hr (k+1) (by simpa using hk)) (.int _ _) h
  refine ⟨x,?_,h2⟩
  simp only [List.foldlM_cons,Sem.run_bind,Builtin.min2,Sem.run_pure,Result.andThen_ok]
  exact h1
theorem Zin (off:Nat):∀ (vs:List Value) (as_:List AVal) (s:Nat) (c:Array Value) (cs:List AVal),vs.length=as_.length →
  (∀ k,k<as_.length→Rep w M β (vs.getD k undef) (as_.getD k .undef))→c.size=cs.length→(∀ k,k<cs.length→Rep w M β (c.getD k undef) (cs.getD k .undef)) →
  ((vs.zipIdx s).foldl (fun cs p=>cs.setIfInBounds (off+p.2) p.1) c).size=(setMany cs (off+s) as_).length ∧
   ∀ k,k<(setMany cs (off+s) as_).length→Rep w M β (((vs.zipIdx s).foldl (fun cs p=>cs.setIfInBounds (off+p.2) p.1) c).getD k undef) ((setMany cs (off+s) as_).getD k .undef)
 | [],[],s,c,cs,_,_,hn,hr=>⟨hn,hr⟩
 | [],_ :: _,_,_,_,h,_,_,_=>by simp at h
 | _ :: _,[],_,_,_,h,_,_,_=>by simp at h
 | v :: vs,a :: as_,s,c,cs,hl,hv,hn,hr=>by
  have h0:=hv 0 (by simp)
  simp only [List.getD_cons_zero] at h0
  have:=Zin off vs as_ (s+1) (c.setIfInBounds (off+s) v) (cs.set (off+s) a) (by simpa using hl) (fun k hk=>by simpa using hv (k+1) (by simpa using hk))
   (by simpa using hn) (fun k hk=>by
    simp only [List.length_set] at hk
    rw [Array.getD_eq_getD_getElem?,List.getD_eq_getElem?_getD,Array.getElem?_setIfInBounds,List.getElem?_set]
    by_cases e:off+s=k
    ·rw [if_pos e,if_pos e,if_pos (by omega),if_pos (by omega)];exact h0
    ·rw [if_neg e,if_neg e,← Array.getD_eq_getD_getElem?,← List.getD_eq_getElem?_getD];exact hr k hk)
  simp only [List.zipIdx_cons,List.foldl_cons,setMany]
  rw [← Nat.add_assoc] at this
  exact this
theorem Zap:∀ (cs:List AVal) (o:Nat) (as_:List AVal),(setMany cs o as_).length=cs.length
 | _,_,[]=>rfl
 | cs,o,a :: as_=>by rw [setMany,Zap];simp
theorem Zn2 {ρ:Operand→Value} {ρa:Operand→AVal} (hρ:∀ x,Rep w M β (ρ x) (ρa x)) {flds:List (Nat×Option Lay)} {place:Nat→Option (Nat×Nat)}
  (hp:∀ i off l,flds[i]? = some (off,some l)→place i=some (off,l.sz)):∀ (parts:List (Nat×Operand)) (c:Array Value) (cs cs':List AVal),c.size=cs.length →
   (∀ k,k<cs.length→Rep w M β (c.getD k undef) (cs.getD k .undef))→fillA flds ρa cs parts=some cs' →
   ∃ c',Instr.fill place c (parts.map fun (i,x)=>(i,ρ x))=some c'∧c'.size=cs'.length∧∀ k,k<cs'.length→Rep w M β (c'.getD k undef) (cs'.getD k .undef)
 | [],c,cs,cs',hn,hr,h=>by
  simp only [fillA,Option.some.injEq] at h;subst h
  exact ⟨c,rfl,hn,hr⟩
 | (i,x) :: rest,c,cs,cs',hn,hr,h=>by
  simp only [fillA] at h
  split at h
  ·rename_i off l hf
   split at h
   ·rename_i hc
    obtain ⟨hc1,hc2,hc3⟩:=hc
    obtain ⟨hv1,hv2,_,_⟩:=Zfp (hρ x) hc3
    obtain ⟨h1,h2⟩:=Zin off (ρ x).cells.toList (ρa x).cells 0 c cs (by simpa using hv1) (fun k hk=>by
     have:=hv2 k hk
     rwa [show (ρ x).cells.toList.getD k undef=(ρ x).cells.getD k undef by simp [List.getD,Array.getD_eq_getD_getElem?]]) hn hr
    obtain ⟨c',h3,h4⟩:=Zn2 hρ hp rest _ _ cs' h1 h2 h
    refine ⟨c',?_,h4⟩
    simp only [List.map_cons,Instr.fill,hp i off l hf]
    have hcond:¬ ((decide ((ρ x).cells.size≠l.sz)||decide (off+(ρ x).cells.size > c.size))=true):=by simp only [Bool.or_eq_true,decide_eq_true_eq];omega
    rw [if_neg hcond]
    rw [← h3,← Array.foldl_toList,Array.toList_zipIdx]
   ·cases h
  ·cases h
theorem Zxk (fs:List Field) (h:(fs.map fun f=>(f.offset,layOf P f.type)).all (·.2.isSome)=true) :
  ∃ ps:Array (Nat×Nat),(fs.toArray.mapM fun f=>do pure (f.offset,← sizeOf f.type):Sem (Array (Nat×Nat))).run P w = .ok ps w ∧
   ∀ (i off:Nat) (l:Lay),(fs.map fun f=>(f.offset,layOf P f.type))[i]? = some (off,some l)→ps[i]? = some (off,l.sz):=by
 refine ⟨(fs.map fun f=>(f.offset,P.cellsOf f.type)).toArray,?_,?_⟩
 ·simp only [List.mapM_toArray,Sem.run_map]
  have:∀ fs:List Field,(fs.map fun f=>(f.offset,layOf P f.type)).all (·.2.isSome)=true →
    (fs.mapM fun f=>do pure (f.offset,← sizeOf f.type):Sem (List (Nat×Nat))).run P w = .ok (fs.map fun f=>(f.offset,P.cellsOf f.type)) w:=by
   intro fs
   induction fs with
   | nil=>intro _;rfl
   | cons f fs ih =>
    intro h
    simp only [List.map_cons,List.all_cons,Bool.and_eq_true] at h
    obtain ⟨l,hl⟩:=Option.isSome_iff_exists.1 h.1
    obtain ⟨i,u,z,h1,_⟩:=Zao hl
    have h2:P.cellsOf f.type=i.size:=by simp [Program.cellsOf,h1]
    have ih':=ih h.2
    simp only [List.mapM_cons,Sem.run_bind,Zb9 h1,Result.andThen_ok,Sem.run_pure,List.map_cons,h2]
    rw [ih'];rfl
  rw [this fs h]
  rfl
 ·intro i off l hi
  rw [List.getElem?_map] at hi
  obtain ⟨f,hf,he⟩:=Option.map_eq_some_iff.1 hi
  simp only [Prod.mk.injEq] at he
  obtain ⟨rfl,hl⟩:=he
  obtain ⟨ti,u,z,h1,_,_,h4,_⟩:=Zao hl
  simp [hf,Program.cellsOf,h1,h4]
theorem Zwq {t:TypeId} {T:TyA} (hT:tyA P t=some T) {ρ:Operand→Value} {ρa:Operand→AVal} (hρ:∀ x,Rep w M β (ρ x) (ρa x)) {parts:Array (Nat×Operand)} {r:AVal}
  (h:buildA T ρa parts.toList=some r):∃ v,(Instr.build t (parts.map fun (i,x)=>(i,ρ x))).run P w = .ok v w∧Rep w M β v r:=by
 obtain ⟨u,h1,h2,h3,h4,h5,_⟩:=Zbn hT
 obtain ⟨z,hz1,_,hz2,hz3,hz4,_⟩:=Zd0 (w:=w) (M:=M) (β:=β) h1
 unfold buildA at h
 split at h
 ·rename_i hk
  obtain ⟨fs,rfl⟩:=Zgm (h3.trans hk)
  simp only at h4
  split at h
  ·rename_i hall
   obtain ⟨cs',h6,rfl⟩:=Option.map_eq_some_iff.1 h
   rw [h4] at hall h6
   obtain ⟨ps,h7,h8⟩:=Zxk (w:=w) fs.toList hall
   obtain ⟨c',h9,h10,h11⟩:=Zn2 hρ (place:=(ps[·]?)) h8 parts.toList z.cells T.lay.zero cs' (by omega) (fun k hk=>hz4 k (by omega)) h6
   refine ⟨.agg c',?_, .agg h10 h11⟩
   simp only [Array.toArray_toList] at h7
   simp only [Instr.build,Sem.run_bind,hz1,Result.andThen_ok,run_underlying h2,h7,Array.toList_map,h9]
   rfl
  ·cases h
 ·rename_i n e hk he
  obtain ⟨et,rfl⟩:=Zfs (h3.trans hk)
  simp only at h5
  rw [he] at h5
  obtain ⟨ti,_,_,hti,_,_,hs,_⟩:=Zao h5.symm
  obtain ⟨cs',h6,rfl⟩:=Option.map_eq_some_iff.1 h
  obtain ⟨c',h9,h10,h11⟩:=Zn2 hρ (place:=fun i=>some (i*ti.size,ti.size)) (fun i off l hi=>by
   rw [List.getElem?_map] at hi
   obtain ⟨j,hj,he'⟩:=Option.map_eq_some_iff.1 hi
   simp only [Prod.mk.injEq,Option.some.injEq] at he'
   obtain ⟨rfl,rfl⟩:=he'
   obtain ⟨_,hj2⟩:=List.getElem?_eq_some_iff.1 hj
   simp only [List.getElem_range] at hj2
   rw [hj2,hs]) parts.toList z.cells T.lay.zero cs' (by omega) (fun k hk=>hz4 k (by omega)) h6
  refine ⟨.agg c',?_, .agg h10 h11⟩
  simp only [Instr.build,Sem.run_bind,hz1,Result.andThen_ok,run_underlying h2,Zb9 hti,Array.toList_map,h9]
  rfl
 ·cases h
theorem Zki {vx:Value} {x r:AVal} {xt u:TypeId} {ok:Bool} (hx:Rep w M β vx x) (h:typeAssertA P x u ok=some r):∃ v,(Instr.typeAssert vx xt u ok).run P w = .ok v w∧Rep w M β v r:=by
 unfold typeAssertA at h
 split at h
 ·rename_i T t v hT
  obtain ⟨d,h1,h2,h3,_⟩:=Zbn hT
  obtain ⟨z,hz1,hz2,_⟩:=Zd0 (w:=w) (M:=M) (β:=β) h1
  split at h
  ·cases h
  ·rename_i hk
   have hd:∀ ms,d≠.interface ms:=by rintro ms rfl;exact hk (h3.symm)
   cases hx with
   | @iface _ y _ hy =>
    split at h
    ·rename_i e
     subst e
     cases h
     refine ⟨if ok then .tuple #[y, .bool true] else y,?_,?_⟩
     ·simp only [Instr.typeAssert,Sem.run_bind,run_underlying h2,Result.andThen_ok]
      cases d<;>first | (exact absurd rfl (hd _)) | (simp)
     ·cases ok
      ·exact hy
      ·exact .tup rfl (fun j hj=>by match j,hj with | 0,_=>exact hy | 1,_=>exact .bool _)
    ·rename_i e
     split at h
     ·rename_i hok
      cases h
      refine ⟨.tuple #[z, .bool false],?_, .tup rfl (fun j hj=>by match j,hj with | 0,_=>exact hz2 | 1,_=>exact .bool _)⟩
      simp only [Instr.typeAssert,Sem.run_bind,run_underlying h2,Result.andThen_ok]
      cases d<;>first | (exact absurd rfl (hd _)) | (simp [e,hok,hz1])
     ·cases h
 ·rename_i T hT
  obtain ⟨d,h1,h2,h3,_⟩:=Zbn hT
  obtain ⟨z,hz1,hz2,_⟩:=Zd0 (w:=w) (M:=M) (β:=β) h1
  cases hx
  split at h
  ·cases h
  ·rename_i hk
   have hd:∀ ms,d≠.interface ms:=by rintro ms rfl;exact hk (h3.symm)
   split at h
   ·rename_i hok
    cases h
    refine ⟨.tuple #[z, .bool false],?_, .tup rfl (fun j hj=>by match j,hj with | 0,_=>exact hz2 | 1,_=>exact .bool _)⟩
    simp only [Instr.typeAssert,Sem.run_bind,run_underlying h2,Result.andThen_ok]
    cases d<;>first | (exact absurd rfl (hd _)) | (simp [hok,hz1])
   ·cases h
 ·cases h
end
end Go.Abs
