/- Part 4 of my own framework and of the walks of functions: AbsG. -/
import Derived.Test.YtfjbdamcmiglgaaGreatOwn3
import Derived.Laws.Build
abbrev bD:=@Array.getElem?_setIfInBounds
abbrev qG:=@Array.toArray_toList
abbrev oS:=@Array.toList_map
abbrev b9:=@Bool.or_eq_true
abbrev j8:=@List.all_cons
abbrev dp:=@List.getD_eq_getElem?_getD
abbrev dX:=@List.getElem?_set
abbrev mY:=@List.getElem_range
abbrev bg:=@List.length_set
abbrev m8:=@List.mapM_cons
set_option linter.unusedVariables false
set_option linter.unusedSectionVars false
set_option linter.unusedSimpArgs false
namespace Go.c8
open Go
section
variable {P:Program} {X:Nat→Nat→Prop} {base:Nat} {σ:ai} {β:Env} {w:World} {nm:Nat} {M:Nat→Nat→Prop}
theorem Zr6 {vx:Value} {vs:List ae} {r:ae} {i:Nat} (hx:bS w M β vx (.dA vs)) (h:vs[i]? = some r):∃ v,(Instr.extract vx i).run P w = .ok v w∧bS w M β v r:=by
 cases hx with
 | @dA cs _ hn hr =>
  obtain ⟨bG,he⟩:=aI.1 h
  have:=hr i bG
  rw [show vs.getD i ae.undef=r by simp [List.getD,h]] at this
  refine ⟨cs.getD i undef,?_,this⟩
  simp only [Instr.extract]
  rw [tM (by omega)];rfl
theorem LM (hr:cH X base σ β w) {t:TypeId} {T:jV} (hT:bL P t=some T) (hk:T.kind = .str∨T.kind = .slice∨T.kind = .map) {vx:Value} {x:ae} {n:Nat} (hx:bS w (MT X σ β) β vx x) (h:nx T.kind σ x=some n) (ty:TypeId) :
  (Builtin.len_ #[t] ty #[vx]).run P w = .ok (.int .i64 n) w:=by
 obtain ⟨u,h1,h2,h3,_⟩:=tQ hT
 have hu:∀ v,Builtin.len_ #[t] ty #[v]=(do
   match ← underlying t,v with
   | .string, .string s=>pure (goInt s.size)
   | .array n _,_=>pure (goInt n)
   | .pointer arr,_ =>
    let .array n _ ← underlying arr | stuck "len: pointer to array expected"
    pure (goInt n)
   | .slice _, .slice _ n _=>pure (goInt n)
   | .map _ _, .map none | .chan _ _, .chan none=>pure (goInt 0)
   | .map _ _, .map (some r) =>
    let .map entries _ ← getObj r | stuck "len: map expected"
    pure (goInt entries.size)
   | .chan _ _, .chan (some r) =>
    let .chan _ buf _ _ _ timer ← getObj r | stuck "len: channel expected"
    pure (goInt (if timer then 0 else buf.size))
   | _, _ => stuck "len: string, array, pointer to array, slice, map or channel expected") := fun v => rfl
 rw [hu]
 simp only [Sem.run_bind,run_underlying h2,Result.andThen_ok]
 unfold nx at h
 split at h
 ·rename_i s e1
  cases h
  obtain rfl:=z_ (h3.trans e1)
  rw [hx.gI];rfl
 ·rename_i e1
  cases h
  obtain ⟨e,rfl⟩:=Cj (h3.trans e1)
  cases hx;rfl
 ·rename_i e1
  cases h
  obtain ⟨e,rfl⟩:=Cj (h3.trans e1)
  cases hx;rfl
 ·rename_i e1
  cases h
  obtain ⟨e,rfl⟩:=Cj (h3.trans e1)
  cases hx<;>rfl
 ·rename_i e1
  cases h
  obtain ⟨e,rfl⟩:=Cj (h3.trans e1)
  cases hx<;>rfl
 ·rename_i e1
  cases h
  obtain ⟨k,e,rfl⟩:=Eo (h3.trans e1)
  cases hx;rfl
 ·rename_i e1
  cases h
  obtain ⟨k,e,rfl⟩:=Eo (h3.trans e1)
  cases hx with
  | pm hg hm hn hv oJ nS qV =>
   simp [getObj,Sem.run,hg,hn,goInt]
 ·rename_i b e1
  obtain ⟨k,e,rfl⟩:=Eo (h3.trans e1)
  split at h
  ·rename_i ks vs fz hb
   cases h
   obtain ⟨L,h5,_,_,es,clk,h6,hn,_⟩:=hr.cg _ _ (j_ hb)
   cases hx with
   | map hL =>
    obtain rfl:=aN (h5.symm.trans hL)
    simp [getObj,Sem.run,h6,hn,goInt]
  ·cases h
 ·cases h
theorem Vf:∀ (vs:List Value) (cm:List ae) (v:Value) (a r:ae),vs.length=cm.length→(∀ k,k<cm.length→bS w M β (vs.getD k undef) (cm.getD k .undef))→bS w M β v a →
  fO (fun a b=>if a<b then b else a) a cm=some r→∃ x,(vs.foldlM Builtin.max2 v).run P w = .ok x w∧bS w M β x r
 | [],[],v,a,r,_,_,hv,h=>by
  simp only [fO,aG] at h;subst h
  exact ⟨v,rfl,hv⟩
 | [],_ :: _,_,_,_,h,_,_,_=>by simp at h
 | _ :: _,[],_,_,_,h,_,_,_=>by simp at h
 | u :: vs,b :: cm,v,a,r,hl,hr,hv,h=>by
  have h0:=hr 0 (by simp)
  simp only [bm] at h0
  cases a<;>cases b<;>simp only [fO,reduceCtorEq] at h
  rw [hv.ek,h0.ek]
  obtain ⟨x,h1,h2⟩:=Vf vs cm _ _ r (by simpa using hl) (fun k hk=>by simpa using hr (k+1) (by simpa using hk)) (.int _ _) h
  refine ⟨x,?_,h2⟩
  simp only [List.foldlM_cons,Sem.run_bind,Builtin.max2,Sem.run_pure,Result.andThen_ok]
  exact h1
theorem UQ:∀ (vs:List Value) (cm:List ae) (v:Value) (a r:ae),vs.length=cm.length→(∀ k,k<cm.length→bS w M β (vs.getD k undef) (cm.getD k .undef))→bS w M β v a →
  fO (fun a b=>if b<a then b else a) a cm=some r→∃ x,(vs.foldlM Builtin.min2 v).run P w = .ok x w∧bS w M β x r
 | [],[],v,a,r,_,_,hv,h=>by
  simp only [fO,aG] at h;subst h
  exact ⟨v,rfl,hv⟩
 | [],_ :: _,_,_,_,h,_,_,_=>by simp at h
 | _ :: _,[],_,_,_,h,_,_,_=>by simp at h
 | u :: vs,b :: cm,v,a,r,hl,hr,hv,h=>by
  have h0:=hr 0 (by simp)
  simp only [bm] at h0
  cases a<;>cases b<;>simp only [fO,reduceCtorEq] at h
  rw [hv.ek,h0.ek]
  obtain ⟨x,h1,h2⟩:=UQ vs cm _ _ r (by simpa using hl) (fun k hk=>by simpa using hr (k+1) (by simpa using hk)) (.int _ _) h
  refine ⟨x,?_,h2⟩
  simp only [List.foldlM_cons,Sem.run_bind,Builtin.min2,Sem.run_pure,Result.andThen_ok]
  exact h1
theorem Q6 (off:Nat):∀ (vs:List Value) (cm:List ae) (s:Nat) (c:Array Value) (cs:List ae),vs.length=cm.length →
  (∀ k,k<cm.length→bS w M β (vs.getD k undef) (cm.getD k .undef))→c.size=cs.length→(∀ k,k<cs.length→bS w M β (c.getD k undef) (cs.getD k .undef)) →
  ((vs.zipIdx s).foldl (fun cs p=>cs.setIfInBounds (off+p.2) p.1) c).size=(cw cs (off+s) cm).length ∧
   ∀ k,k<(cw cs (off+s) cm).length→bS w M β (((vs.zipIdx s).foldl (fun cs p=>cs.setIfInBounds (off+p.2) p.1) c).getD k undef) ((cw cs (off+s) cm).getD k .undef)
 | [],[],s,c,cs,_,_,hn,hr=>⟨hn,hr⟩
 | [],_ :: _,_,_,_,h,_,_,_=>by simp at h
 | _ :: _,[],_,_,_,h,_,_,_=>by simp at h
 | v :: vs,a :: cm,s,c,cs,hl,hv,hn,hr=>by
  have h0:=hv 0 (by simp)
  simp only [bm] at h0
  have:=Q6 off vs cm (s+1) (c.setIfInBounds (off+s) v) (cs.set (off+s) a) (by simpa using hl) (fun k hk=>by simpa using hv (k+1) (by simpa using hk))
   (by simpa using hn) (fun k hk=>by
    simp only [bg] at hk
    rw [aj,dp,bD,dX]
    by_cases e:off+s=k
    ·rw [if_pos e,if_pos e,if_pos (by omega),if_pos (by omega)];exact h0
    ·rw [if_neg e,if_neg e,← aj,← dp];exact hr k hk)
  simp only [List.zipIdx_cons,List.foldl_cons,cw]
  rw [← fw] at this
  exact this
theorem uR:∀ (cs:List ae) (o:Nat) (cm:List ae),(cw cs o cm).length=cs.length
 | _,_,[]=>rfl
 | cs,o,a :: cm=>by rw [cw,uR];simp
theorem Lj {ρ:Operand→Value} {ia:Operand→ae} (dO:∀ x,bS w M β (ρ x) (ia x)) {o9:List (Nat×Option eM)} {place:Nat→Option (Nat×Nat)}
  (hp:∀ i off l,o9[i]? = some (off,some l)→place i=some (off,l.sz)):∀ (parts:List (Nat×Operand)) (c:Array Value) (cs ni:List ae),c.size=cs.length →
   (∀ k,k<cs.length→bS w M β (c.getD k undef) (cs.getD k .undef))→ky o9 ia cs parts=some ni →
   ∃ c',Instr.fill place c (parts.map fun (i,x)=>(i,ρ x))=some c'∧c'.size=ni.length∧∀ k,k<ni.length→bS w M β (c'.getD k undef) (ni.getD k .undef)
 | [],c,cs,ni,hn,hr,h=>by
  simp only [ky,aG] at h;subst h
  exact ⟨c,rfl,hn,hr⟩
 | (i,x) :: rest,c,cs,ni,hn,hr,h=>by
  simp only [ky] at h
  split at h
  ·rename_i off l hf
   split at h
   ·rename_i hc
    obtain ⟨rM,lq,AH⟩:=hc
    obtain ⟨EV,wA,_,_⟩:=Ft (dO x) AH
    obtain ⟨h1,h2⟩:=Q6 off (ρ x).cells.toList (ia x).cells 0 c cs (by simpa using EV) (fun k hk=>by
     have:=wA k hk
     rwa [show (ρ x).cells.toList.getD k undef=(ρ x).cells.getD k undef by simp [List.getD,aj]]) hn hr
    obtain ⟨c',h3,h4⟩:=Lj dO hp rest _ _ ni h1 h2 h
    refine ⟨c',?_,h4⟩
    simp only [aB,Instr.fill,hp i off l hf]
    have mL:¬ ((decide ((ρ x).cells.size≠l.sz)||decide (off+(ρ x).cells.size > c.size))=true):=by simp only [b9,decide_eq_true_eq];omega
    rw [if_neg mL]
    rw [← h3,← Array.foldl_toList,Array.toList_zipIdx]
   ·cases h
  ·cases h
theorem YJ (fs:List Field) (h:(fs.map fun f=>(f.offset,aF P f.type)).all (·.2.isSome)=true) :
  ∃ ps:Array (Nat×Nat),(fs.toArray.mapM fun f=>do pure (f.offset,← sizeOf f.type):Sem (Array (Nat×Nat))).run P w = .ok ps w ∧
   ∀ (i off:Nat) (l:eM),(fs.map fun f=>(f.offset,aF P f.type))[i]? = some (off,some l)→ps[i]? = some (off,l.sz):=by
 refine ⟨(fs.map fun f=>(f.offset,P.cellsOf f.type)).toArray,?_,?_⟩
 ·simp only [List.mapM_toArray,Sem.run_map]
  have:∀ fs:List Field,(fs.map fun f=>(f.offset,aF P f.type)).all (·.2.isSome)=true →
    (fs.mapM fun f=>do pure (f.offset,← sizeOf f.type):Sem (List (Nat×Nat))).run P w = .ok (fs.map fun f=>(f.offset,P.cellsOf f.type)) w:=by
   intro fs
   induction fs with
   | nil=>intro _;rfl
   | cons f fs ih =>
    intro h
    simp only [aB,j8,aC] at h
    obtain ⟨l,hl⟩:=oA.1 h.1
    obtain ⟨i,u,z,h1,_⟩:=p6 hl
    have h2:P.cellsOf f.type=i.size:=by simp [Program.cellsOf,h1]
    have JM:=ih h.2
    simp only [m8,Sem.run_bind,tP h1,Result.andThen_ok,Sem.run_pure,aB,h2]
    rw [JM];rfl
  rw [this fs h]
  rfl
 ·intro i off l hi
  rw [cf] at hi
  obtain ⟨f,hf,he⟩:=aH.1 hi
  simp only [bx] at he
  obtain ⟨rfl,hl⟩:=he
  obtain ⟨ti,u,z,h1,_,_,h4,_⟩:=p6 hl
  simp [hf,Program.cellsOf,h1,h4]
theorem YO {t:TypeId} {T:jV} (hT:bL P t=some T) {ρ:Operand→Value} {ia:Operand→ae} (dO:∀ x,bS w M β (ρ x) (ia x)) {parts:Array (Nat×Operand)} {r:ae}
  (h:oD T ia parts.toList=some r):∃ v,(Instr.build t (parts.map fun (i,x)=>(i,ρ x))).run P w = .ok v w∧bS w M β v r:=by
 obtain ⟨u,h1,h2,h3,h4,h5,_⟩:=tQ hT
 obtain ⟨z,rS,_,rT,JL,E0,_⟩:=Bq (w:=w) (M:=M) (β:=β) h1
 unfold oD at h
 split at h
 ·rename_i hk
  obtain ⟨fs,rfl⟩:=Kn (h3.trans hk)
  simp only at h4
  split at h
  ·rename_i e8
   obtain ⟨ni,h6,rfl⟩:=aH.1 h
   rw [h4] at e8 h6
   obtain ⟨ps,h7,h8⟩:=YJ (w:=w) fs.toList e8
   obtain ⟨c',h9,ur,w5⟩:=Lj dO (place:=(ps[·]?)) h8 parts.toList z.cells T.lay.zero ni (by omega) (fun k hk=>E0 k (by omega)) h6
   refine ⟨.agg c',?_, .agg ur w5⟩
   simp only [qG] at h7
   simp only [Instr.build,Sem.run_bind,rS,Result.andThen_ok,run_underlying h2,h7,oS,h9]
   rfl
  ·cases h
 ·rename_i n e hk he
  obtain ⟨et,rfl⟩:=HW (h3.trans hk)
  simp only at h5
  rw [he] at h5
  obtain ⟨ti,_,_,qB,_,_,hs,_⟩:=p6 h5.symm
  obtain ⟨ni,h6,rfl⟩:=aH.1 h
  obtain ⟨c',h9,ur,w5⟩:=Lj dO (place:=fun i=>some (i*ti.size,ti.size)) (fun i off l hi=>by
   rw [cf] at hi
   obtain ⟨j,hj,Wu⟩:=aH.1 hi
   simp only [bx,aG] at Wu
   obtain ⟨rfl,rfl⟩:=Wu
   obtain ⟨_,Jz⟩:=aI.1 hj
   simp only [mY] at Jz
   rw [Jz,hs]) parts.toList z.cells T.lay.zero ni (by omega) (fun k hk=>E0 k (by omega)) h6
  refine ⟨.agg c',?_, .agg ur w5⟩
  simp only [Instr.build,Sem.run_bind,rS,Result.andThen_ok,run_underlying h2,tP qB,oS,h9]
  rfl
 ·cases h
theorem Zlz {vx:Value} {x r:ae} {xt u:TypeId} {ok:Bool} (hx:bS w M β vx x) (h:jh P x u ok=some r):∃ v,(Instr.typeAssert vx xt u ok).run P w = .ok v w∧bS w M β v r:=by
 unfold jh at h
 split at h
 ·rename_i T t v hT
  obtain ⟨d,h1,h2,h3,_⟩:=tQ hT
  obtain ⟨z,rS,rT,_⟩:=Bq (w:=w) (M:=M) (β:=β) h1
  split at h
  ·cases h
  ·rename_i hk
   have hd:∀ ms,d≠.interface ms:=by rintro ms rfl;exact hk (h3.symm)
   cases hx with
   | @iface _ y _ hy =>
    split at h
    ·rename_i e
     subst e
     cases h
     refine ⟨if ok then .tuple #[y, .bool true] else y,?_,?_⟩
     ·simp only [Instr.typeAssert,Sem.run_bind,run_underlying h2,Result.andThen_ok]
      cases d<;>first | (exact absurd rfl (hd _)) | (simp)
     ·cases ok
      ·exact hy
      ·exact .dA rfl (fun j hj=>by match j,hj with | 0,_=>exact hy | 1,_=>exact .bool _)
    ·rename_i e
     split at h
     ·rename_i ju
      cases h
      refine ⟨.tuple #[z, .bool false],?_, .dA rfl (fun j hj=>by match j,hj with | 0,_=>exact rT | 1,_=>exact .bool _)⟩
      simp only [Instr.typeAssert,Sem.run_bind,run_underlying h2,Result.andThen_ok]
      cases d<;>first | (exact absurd rfl (hd _)) | (simp [e,ju,rS])
     ·cases h
 ·rename_i T hT
  obtain ⟨d,h1,h2,h3,_⟩:=tQ hT
  obtain ⟨z,rS,rT,_⟩:=Bq (w:=w) (M:=M) (β:=β) h1
  cases hx
  split at h
  ·cases h
  ·rename_i hk
   have hd:∀ ms,d≠.interface ms:=by rintro ms rfl;exact hk (h3.symm)
   split at h
   ·rename_i ju
    cases h
    refine ⟨.tuple #[z, .bool false],?_, .dA rfl (fun j hj=>by match j,hj with | 0,_=>exact rT | 1,_=>exact .bool _)⟩
    simp only [Instr.typeAssert,Sem.run_bind,run_underlying h2,Result.andThen_ok]
    cases d<;>first | (exact absurd rfl (hd _)) | (simp [ju,rS])
   ·cases h
 ·cases h
end
end Go.c8
