/- Part 4 of what the claim rests on. -/
import Derived.Test.YtfjbdamcmiglgaaGreatOwn3
import Derived.Laws.Build
set_option linter.all false
abbrev bK:=@Array.getElem?_setIfInBounds
abbrev s0:=@Array.toArray_toList
abbrev ql:=@Array.toList_map
abbrev cb:=@Bool.or_eq_true
abbrev h_:=@List.all_cons
abbrev rR:=@List.foldl_cons
abbrev dR:=@List.getD_eq_getElem?_getD
abbrev eA:=@List.getElem?_set
abbrev im:=@List.getElem_range
abbrev bg:=@List.length_set
abbrev oF:=@List.mapM_cons
namespace Go.dq
open Go
section
variable {P:Program}{X:Nat->Nat->Prop}{base:Nat}{σ:av}{β:Env}{w:World}{nm:Nat}{M:Nat->Nat->Prop}
theorem Zt7 {vx:Value} {vs:List ah} {r:ah} {i:Nat} (hx:cn w M β vx (.dw vs)) (h:vs[i]? = some r):∃v,(Instr.extract vx i).run P w=.ok v w/\cn w M β v r:=by
 cases hx with
 | @dw cs _ hn hr =>
  obtain⟨bx,he⟩:=aN.1 h;have:=hr i bx;rw[show vs.getD i ah.undef=r by simp[List.getD,h]]at this;refine⟨cs.getD i undef,?_,this⟩;simp only[Instr.extract];rw[wm (by omega)];rfl
theorem Py (hr:c8 X base σ β w) {t:TypeId} {T:kG} (hT:gF P t=some T) (hk:T.kind=.str\/T.kind=.slice\/T.kind=.map) {vx:Value} {x:ah} {n:Nat} (hx:cn w (MT X σ β) β vx x) (h:qd T.kind σ x=some n) (ty:TypeId) :
  (Builtin.len_ #[t] ty #[vx]).run P w=.ok (.int .i64 n) w:=by
 obtain ⟨u,h1,h2,h3,_⟩:=wz hT;have hu:∀v,Builtin.len_ #[t] ty #[v]=(do
   match <-underlying t,v with
   |.string,.string s=>pure (goInt s.size)
   |.array n _,_=>pure (goInt n)
   |.pointer arr,_ =>
    let .array n _ ← underlying arr | stuck "len: pointer to array expected"
    pure (goInt n)
   |.slice _,.slice _ n _=>pure (goInt n)
   |.map _ _,.map none|.chan _ _,.chan none=>pure (goInt 0)
   |.map _ _,.map (some r) =>
    let .map entries _ ← getObj r | stuck "len: map expected"
    pure (goInt entries.size)
   |.chan _ _,.chan (some r) =>
    let .chan _ buf _ _ _ timer ← getObj r | stuck "len: channel expected"
    pure (goInt (if timer then 0 else buf.size))
   | _, _ => stuck "len: string, array, pointer to array, slice, map or channel expected") := fun v => rfl
 rw[hu];simp only[Sem.run_bind,run_underlying h2,Result.andThen_ok];unfold qd at h;split at h
 ·rename_i s e1;cases h;obtain rfl:=Cv (h3.trans e1);rw[hx.iM];rfl
 ·rename_i e1;cases h;obtain⟨e,rfl⟩:=EJ (h3.trans e1);cases hx;rfl
 ·rename_i e1;cases h;obtain⟨e,rfl⟩:=EJ (h3.trans e1);cases hx;rfl
 ·rename_i e1;cases h;obtain⟨e,rfl⟩:=EJ (h3.trans e1);cases hx<;>rfl
 ·rename_i e1;cases h;obtain⟨e,rfl⟩:=EJ (h3.trans e1);cases hx<;>rfl
 ·rename_i e1;cases h;obtain⟨k,e,rfl⟩:=G1 (h3.trans e1);cases hx;rfl
 ·rename_i e1;cases h;obtain⟨k,e,rfl⟩:=G1 (h3.trans e1);cases hx with
  |pm hg hm hn hv qa po tv =>
   simp[getObj,Sem.run,hg,hn,goInt]
 ·rename_i b e1;obtain⟨k,e,rfl⟩:=G1 (h3.trans e1);split at h
  ·rename_i ks vs fz hb;cases h;obtain⟨L,h5,_,_,es,clk,h6,hn,_⟩:=hr.cG _ _ (la hb);cases hx with
   |map hL =>
    obtain rfl:=aS (h5.symm.trans hL);simp[getObj,Sem.run,h6,hn,goInt]
  ·cases h
 ·cases h
theorem Ze:∀(vs:List Value) (cI:List ah) (v:Value) (a r:ah),vs.length=cI.length->(∀k,k<cI.length->cn w M β (vs.getD k undef) (cI.getD k .undef))->cn w M β v a ->
  iy (λa b=>if a<b then b else a) a cI=some r->∃x,(vs.foldlM Builtin.max2 v).run P w=.ok x w/\cn w M β x r
 |[],[],v,a,r,_,_,hv,h=>by
  simp only[iy,aM]at h;subst h;exact⟨v,rfl,hv⟩
 |[],_ :: _,_,_,_,h,_,_,_=>by simp at h
 |_ :: _,[],_,_,_,h,_,_,_=>by simp at h
 |u :: vs,b :: cI,v,a,r,hl,hr,hv,h=>by
  have h0:=hr 0 (by simp);simp only[aV]at h0;cases a<;>cases b<;>simp only[iy,reduceCtorEq]at h;rw[hv.e7,h0.e7];obtain⟨x,h1,h2⟩:=Ze vs cI _ _ r (by simpa using hl) (λk hk=>by simpa using hr (k+1) (by simpa using hk)) (.int _ _) h;refine⟨x,?_,h2⟩;simp only[List.foldlM_cons,Sem.run_bind,Builtin.max2,Sem.run_pure,Result.andThen_ok];exact h1
theorem YU:∀(vs:List Value) (cI:List ah) (v:Value) (a r:ah),vs.length=cI.length->(∀k,k<cI.length->cn w M β (vs.getD k undef) (cI.getD k .undef))->cn w M β v a ->
  iy (λa b=>if b<a then b else a) a cI=some r->∃x,(vs.foldlM Builtin.min2 v).run P w=.ok x w/\cn w M β x r
 |[],[],v,a,r,_,_,hv,h=>by
  simp only[iy,aM]at h;subst h;exact⟨v,rfl,hv⟩
 |[],_ :: _,_,_,_,h,_,_,_=>by simp at h
 |_ :: _,[],_,_,_,h,_,_,_=>by simp at h
 |u :: vs,b :: cI,v,a,r,hl,hr,hv,h=>by
  have h0:=hr 0 (by simp);simp only[aV]at h0;cases a<;>cases b<;>simp only[iy,reduceCtorEq]at h;rw[hv.e7,h0.e7];obtain⟨x,h1,h2⟩:=YU vs cI _ _ r (by simpa using hl) (λk hk=>by simpa using hr (k+1) (by simpa using hk)) (.int _ _) h;refine⟨x,?_,h2⟩;simp only[List.foldlM_cons,Sem.run_bind,Builtin.min2,Sem.run_pure,Result.andThen_ok];exact h1
theorem Vr (off:Nat):∀(vs:List Value) (cI:List ah) (s:Nat) (c:Array Value) (cs:List ah),vs.length=cI.length ->
  (∀k,k<cI.length->cn w M β (vs.getD k undef) (cI.getD k .undef))->c.size=cs.length->(∀k,k<cs.length->cn w M β (c.getD k undef) (cs.getD k .undef)) ->
  ((vs.zipIdx s).foldl (λcs p=>cs.setIfInBounds (off+p.2) p.1) c).size=(cO cs (off+s) cI).length /\
   ∀k,k<(cO cs (off+s) cI).length->cn w M β (((vs.zipIdx s).foldl (λcs p=>cs.setIfInBounds (off+p.2) p.1) c).getD k undef) ((cO cs (off+s) cI).getD k .undef)
 |[],[],s,c,cs,_,_,hn,hr=>⟨hn,hr⟩
 |[],_ :: _,_,_,_,h,_,_,_=>by simp at h
 |_ :: _,[],_,_,_,h,_,_,_=>by simp at h
 | v :: vs,a :: cI,s,c,cs,hl,hv,hn,hr=>by
  have h0:=hv 0 (by simp);simp only[aV]at h0;have:=Vr off vs cI (s+1) (c.setIfInBounds (off+s) v) (cs.set (off+s) a) (by simpa using hl) (λk hk=>by simpa using hv (k+1) (by simpa using hk))
   (by simpa using hn) (λk hk=>by
    simp only[bg]at hk;rw[au,dR,bK,eA];by_cases e:off+s=k
    ·rw[if_pos e,if_pos e,if_pos (by omega),if_pos (by omega)];exact h0
    ·rw[if_neg e,if_neg e,<-au,<-dR];exact hr k hk)
  simp only[List.zipIdx_cons,rR,cO];rw[<-fY]at this;exact this
theorem xc:∀(cs:List ah) (o:Nat) (cI:List ah),(cO cs o cI).length=cs.length
 |_,_,[]=>rfl
 |cs,o,a :: cI=>by rw[cO,xc];simp
theorem Pn {ρ:Operand->Value} {je:Operand->ah} (eI:∀x,cn w M β (ρ x) (je x)) {qx:List (Nat×Option fL)} {place:Nat->Option (Nat×Nat)}
  (hp:∀i off l,qx[i]? = some (off,some l)->place i=some (off,l.sz)):∀(parts:List (Nat×Operand)) (c:Array Value) (cs pD:List ah),c.size=cs.length ->
   (∀k,k<cs.length->cn w M β (c.getD k undef) (cs.getD k .undef))->lI qx je cs parts=some pD ->
   ∃c',Instr.fill place c (parts.map λ(i,x)=>(i,ρ x))=some c'/\c'.size=pD.length/\∀k,k<pD.length->cn w M β (c'.getD k undef) (pD.getD k .undef)
 |[],c,cs,pD,hn,hr,h=>by
  simp only[lI,aM]at h;subst h;exact⟨c,rfl,hn,hr⟩
 | (i,x):: rest,c,cs,pD,hn,hr,h=>by
  simp only[lI]at h;split at h
  ·rename_i off l hf;split at h
   ·rename_i hc;obtain⟨uu,lS,C6⟩:=hc;obtain⟨Ep,yB,_,_⟩:=H0 (eI x) C6;obtain⟨h1,h2⟩:=Vr off (ρ x).cells.toList (je x).cells 0 c cs (by simpa using Ep) (λk hk=>by
     have:=yB k hk
     rwa [show(ρ x).cells.toList.getD k undef=(ρ x).cells.getD k undef by simp[List.getD,au]]) hn hr
    obtain⟨c',h3,h4⟩:=Pn eI hp rest _ _ pD h1 h2 h;refine⟨c',?_,h4⟩;simp only[aI,Instr.fill,hp i off l hf];have mj:¬((decide ((ρ x).cells.size≠l.sz)||decide (off+(ρ x).cells.size > c.size))=true):=by simp only[cb,decide_eq_true_eq];omega
    rw[if_neg mj];rw[<-h3,<-Array.foldl_toList,Array.toList_zipIdx]
   ·cases h
  ·cases h
theorem Ydl (fs:List Field) (h:(fs.map λf=>(f.offset,cC P f.type)).all (·.2.isSome)=true) :
  ∃ps:Array (Nat×Nat),(fs.toArray.mapM λf=>do pure (f.offset,<-sizeOf f.type):Sem (Array (Nat×Nat))).run P w=.ok ps w /\
   ∀(i off:Nat) (l:fL),(fs.map λf=>(f.offset,cC P f.type))[i]? = some (off,some l)->ps[i]? = some (off,l.sz):=by
 refine⟨(fs.map λf=>(f.offset,P.cellsOf f.type)).toArray,?_,?_⟩
 ·simp only[List.mapM_toArray,Sem.run_map];have:∀fs:List Field,(fs.map λf=>(f.offset,cC P f.type)).all (·.2.isSome)=true ->
    (fs.mapM λf=>do pure (f.offset,<-sizeOf f.type):Sem (List (Nat×Nat))).run P w=.ok (fs.map λf=>(f.offset,P.cellsOf f.type)) w:=by
   intro fs
   induction fs with
   |nil=>intro _;rfl
   |cons f fs ih =>
    intro h;simp only[aI,h_,aG]at h;obtain⟨l,hl⟩:=pS.1 h.1;obtain⟨i,u,z,h1,_⟩:=rS hl;have h2:P.cellsOf f.type=i.size:=by simp[Program.cellsOf,h1]
    have MP:=ih h.2;simp only[oF,Sem.run_bind,wq h1,Result.andThen_ok,Sem.run_pure,aI,h2];rw[MP];rfl
  rw[this fs h];rfl
 ·intro i off l hi;rw[cE]at hi;obtain⟨f,hf,he⟩:=aP.1 hi;simp only[bM]at he;obtain⟨rfl,hl⟩:=he;obtain⟨ti,u,z,h1,_,_,h4,_⟩:=rS hl;simp[hf,Program.cellsOf,h1,h4]
theorem Ybl {t:TypeId} {T:kG} (hT:gF P t=some T) {ρ:Operand->Value} {je:Operand->ah} (eI:∀x,cn w M β (ρ x) (je x)) {parts:Array (Nat×Operand)} {r:ah}
  (h:pX T je parts.toList=some r):∃v,(Instr.build t (parts.map λ(i,x)=>(i,ρ x))).run P w=.ok v w/\cn w M β v r:=by
 obtain⟨u,h1,h2,h3,h4,h5,_⟩:=wz hT;obtain⟨z,rY,_,rE,MO,HA,_⟩:=DM (w:=w) (M:=M) (β:=β) h1;unfold pX at h;split at h
 ·rename_i hk;obtain⟨fs,rfl⟩:=NG (h3.trans hk);simp only at h4;split at h
  ·rename_i fj;obtain⟨pD,h6,rfl⟩:=aP.1 h;rw[h4]at fj h6;obtain⟨ps,h7,h8⟩:=Ydl (w:=w) fs.toList fj;obtain⟨c',h9,wL,y7⟩:=Pn eI (place:=(ps[·]?)) h8 parts.toList z.cells T.lay.zero pD (by omega) (λk hk=>HA k (by omega)) h6;refine⟨.agg c',?_,.agg wL y7⟩;simp only[s0]at h7;simp only[Instr.build,Sem.run_bind,rY,Result.andThen_ok,run_underlying h2,h7,ql,h9];rfl
  ·cases h
 ·rename_i n e hk he;obtain⟨et,rfl⟩:=KP (h3.trans hk);simp only at h5;rw[he]at h5;obtain⟨ti,_,_,rX,_,_,hs,_⟩:=rS h5.symm;obtain⟨pD,h6,rfl⟩:=aP.1 h;obtain⟨c',h9,wL,y7⟩:=Pn eI (place:=λi=>some (i*ti.size,ti.size)) (λi off l hi=>by
   rw[cE]at hi;obtain⟨j,hj,he'⟩:=aP.1 hi;simp only[bM,aM]at he';obtain⟨rfl,rfl⟩:=he';obtain⟨_,hj2⟩:=aN.1 hj;simp only[im]at hj2;rw[hj2,hs]) parts.toList z.cells T.lay.zero pD (by omega) (λk hk=>HA k (by omega)) h6
  refine⟨.agg c',?_,.agg wL y7⟩;simp only[Instr.build,Sem.run_bind,rY,Result.andThen_ok,run_underlying h2,wq rX,ql,h9];rfl
 ·cases h
theorem Znh {vx:Value} {x r:ah} {xt u:TypeId} {ok:Bool} (hx:cn w M β vx x) (h:jY P x u ok=some r):∃v,(Instr.typeAssert vx xt u ok).run P w=.ok v w/\cn w M β v r:=by
 unfold jY at h;split at h
 ·rename_i T t v hT;obtain⟨d,h1,h2,h3,_⟩:=wz hT;obtain⟨z,rY,rE,_⟩:=DM (w:=w) (M:=M) (β:=β) h1;split at h
  ·cases h
  ·rename_i hk;have hd:∀ms,d≠.interface ms:=by rintro ms rfl;exact hk (h3.symm)
   cases hx with
   | @iface _ y _ hy =>
    split at h
    ·rename_i e;subst e;cases h;refine⟨if ok then .tuple #[y,.bool true] else y,?_,?_⟩
     ·simp only[Instr.typeAssert,Sem.run_bind,run_underlying h2,Result.andThen_ok];cases d<;>first | (exact absurd rfl (hd _)) | (simp)
     ·cases ok
      ·exact hy
      ·exact .dw rfl (λj hj=>by match j,hj with|0,_=>exact hy|1,_=>exact .bool _)
    ·rename_i e;split at h
     ·rename_i jB;cases h;refine⟨.tuple #[z,.bool false],?_,.dw rfl (λj hj=>by match j,hj with|0,_=>exact rE|1,_=>exact .bool _)⟩
      simp only[Instr.typeAssert,Sem.run_bind,run_underlying h2,Result.andThen_ok];cases d<;>first | (exact absurd rfl (hd _)) | (simp[e,jB,rY])
     ·cases h
 ·rename_i T hT;obtain⟨d,h1,h2,h3,_⟩:=wz hT;obtain⟨z,rY,rE,_⟩:=DM (w:=w) (M:=M) (β:=β) h1;cases hx;split at h
  ·cases h
  ·rename_i hk;have hd:∀ms,d≠.interface ms:=by rintro ms rfl;exact hk (h3.symm)
   split at h
   ·rename_i jB;cases h;refine⟨.tuple #[z,.bool false],?_,.dw rfl (λj hj=>by match j,hj with|0,_=>exact rE|1,_=>exact .bool _)⟩
    simp only[Instr.typeAssert,Sem.run_bind,run_underlying h2,Result.andThen_ok];cases d<;>first | (exact absurd rfl (hd _)) | (simp[jB,rY])
   ·cases h
 ·cases h
end
end Go.dq
