/- Part 7 of what the claim rests on. -/
import Derived.Test.YtfjbdamcmiglgaaGreatOwn6
import Derived.Deep.DeepAppendWide
set_option linter.all false
abbrev mQ:=@Array.eq_empty_of_size_eq_zero
abbrev mF:=@Array.getElem?_append
abbrev fg:=@Array.getElem?_map
abbrev bf:=@List.append_nil
abbrev bn:=@List.eq_nil_of_length_eq_zero
abbrev tb:=@List.getElem?_append
abbrev kq:=@Nat.lt_of_not_le
abbrev lH:=@Nat.sub_mul
abbrev qX:=@Nat.zero_mul
namespace Go.dq
open Go
section
variable {P:Program}{X:Nat->Nat->Prop}{base:Nat}{σ:av}{β:Env}{w:World}{nm:Nat}{M:Nat->Nat->Prop}
structure Src (P:Program)(w:World)(M:Nat->Nat->Prop)(β:Env)(sz:Nat)(v:Value)(xs:List ah)(news:Array Value):Prop where
 len:(Builtin.lenOf v).run P w=.ok xs.length w
 cells:∀w':World,w'.heap=w.heap->(Builtin.firstCells sz xs.length v).run P w'=.ok news w'
 size:news.size=xs.length*sz
 one:∀i,i<xs.length->(xs.getD i .undef).cells.length=sz
 rep:∀i j,i<xs.length->j<sz->cn w M β (news.getD (i*sz+j) undef) ((xs.getD i .undef).cells.getD j .undef)
structure vt (w:World)(M:Nat->Nat->Prop)(β:Env)(sz:Nat)(xs:List ah)(news:Array Value):Prop where
 size:news.size=xs.length*sz
 one:∀i,i<xs.length->(xs.getD i .undef).cells.length=sz
 rep:∀i j,i<xs.length->j<sz->cn w M β (news.getD (i*sz+j) undef) ((xs.getD i .undef).cells.getD j .undef)
theorem Src.SD {sz:Nat}{v:Value}{xs:List ah}{news:Array Value}(h:Src P w M β sz v xs news):vt w M β sz xs news:=⟨h.size,h.one,h.rep⟩
theorem Mc {i j sz:Nat}(h:j<sz):(i*sz+j) / sz=i/\(i*sz+j) % sz=j:=by
 have h0 : 0<sz:=by omega
 constructor
 ·rw[Nat.mul_comm,Nat.mul_add_div h0,Nat.div_eq_of_lt h];omega
 ·rw[Nat.mul_comm,Nat.mul_add_mod,Nat.mod_eq_of_lt h]
theorem YB {n sz k:Nat} (h:k<n*sz):k / sz<n/\k % sz<sz/\k / sz*sz+k % sz=k:=by
 have h0 : 0<sz:=by
  rcases Nat.eq_zero_or_pos sz with e|e
  ·subst e;simp at h
  ·exact e
 exact⟨Nat.div_lt_of_lt_mul (by rwa [Nat.mul_comm]),Nat.mod_lt _ h0,by rw[Nat.mul_comm];exact Nat.div_add_mod k sz⟩
theorem Nr {g o cap sz:Nat} {xs:List ah} {cv:Nat->Nat->Value} (h1:∀i,i<xs.length->(xs.getD i .undef).cells.length=sz)
  (hc:∀i j,i<xs.length->j<sz->w.cell? ⟨g,o+i*sz+j,none⟩=some (cv i j)) (hr:∀i j,i<xs.length->j<sz->cn w M β (cv i j) ((xs.getD i .undef).cells.getD j .undef)) :
  ∃news,Src P w M β sz (.slice (some ⟨g,o,none⟩) xs.length cap) xs news:=by
 have hl:=λ(w':World) (hw:w'.heap=w.heap)=>run_loadCells (P:=P) w' ⟨g,o,none⟩ (xs.length*sz) (λk=>cv (k / sz) (k % sz)) (λk hk=>by
  obtain⟨a1,a2,a3⟩:=YB hk;have:=hc _ _ a1 a2;rw[Addr.add_lit,World.cell?_of_block (w:=w) (by rw[hw])]
  rwa [fY,a3]at this)
 refine⟨_,rfl,hl,by simp,h1,λi j hi hj=>?_⟩;have bx:i*sz+j<xs.length*sz:=by
  have:(i+1)*sz<=xs.length*sz:=aZ _ hi;rw[bY,dX]at this;omega
 rw[Vj _ _ _ _ bx,(Mc hj).1,(Mc hj).2];exact hr i j hi hj
theorem KQ (hr:c8 X base σ β w) {sz:Nat} {v:Value} {x:ah} {xs:List ah} (hv:cn w (MT X σ β) β v x) (h:fO σ sz x=some xs):∃news,Src P w (MT X σ β) β sz v xs news:=by
 unfold fO at h;split at h
 ·rename_i s es;split at h
  ·rename_i e;subst e;cases h;cases hv with
   | @ps a cap _ _ cv j8 eM hc ha JQ =>
    by_cases h0 : 0<xs.length
    ·obtain ⟨g,o,rfl⟩:=ha h0;exact Nr eM (λi j hi hj=>by
      obtain⟨g',o',e1,e2,_⟩:=hc i j hi hj;simp only[aM,Addr.mk.injEq,and_true]at e1;obtain⟨rfl,rfl⟩:=e1;exact e2) JQ
    ·have Aw:xs=[]:=bn (by omega);subst Aw;refine⟨#[],rfl,?_,by simp,λi hi=>by simp at hi,λi j hi=>by simp at hi⟩;cases a<;>intro _ _<;>simp[Builtin.firstCells,loadCells,loadCellsFrom]
  ·cases h
 ·cases h;cases hv with
  |a8 a =>
   refine⟨#[],rfl,?_,by simp,λi hi=>by simp at hi,λi j hi=>by simp at hi⟩;cases a<;>intro _ _<;>simp[Builtin.firstCells,loadCells,loadCellsFrom]
 ·rename_i b off n s;split at h
  ·rename_i e;subst e;split at h
   ·rename_i es fz hb;split at h
    ·rename_i hle;cases h;obtain⟨L,h1,_,_,c,e,h2,h3,h4,h5,h6⟩:=hr.cG b _ (la hb);have hlen:((es.drop off).take n).length=n:=by simp;omega
     have fc:∀k,k<n->((es.drop off).take n).getD k ah.undef=es.getD (off+k) .undef:=λk hk=>by
      simp[List.getD,hk,dZ]
     cases hv with
     |vg a BZ =>
      refine⟨#[],by rw[hlen];rfl,?_,by simp,λi hi=>by simp at hi,λi j hi=>by simp at hi⟩;rw[hlen];cases a<;>intro _ _<;>simp[Builtin.firstCells,loadCells,loadCellsFrom]
     | @os _ _ _ cap L' hL hl hc =>
      obtain rfl:=aS (h1.symm.trans hL);have key:=Nr (P:=P) (w:=w) (M:=MT X σ β) (β:=β) (g:=L.g) (o:=L.o+off*L.sz) (cap:=cap) (sz:=L.sz) (xs:=(es.drop off).take n) (cv:=λi j=>c.getD (L.o+(off+i)*L.sz+j) undef)
       (λi hi=>by rw[fc i (by omega)];exact h5 _ (by omega))
       (λi j hi hj=>by
        rw[hlen]at hi;have h7:(off+i+1)*L.sz<=L.n*L.sz:=aZ _ (by omega);rw[bY,dX]at h7;rw[cell_of_row w L.g _ c e (0,0) h2,show L.o+off*L.sz+i*L.sz+j=L.o+(off+i)*L.sz+j by rw[bY];omega,wm (by omega)])
       (λi j hi hj=>by
        rw[hlen]at hi;rw[fc i hi];exact h6 (off+i) j (by omega) hj)
      rw[hlen]at key;exact key
    ·cases h
   ·cases h
  ·cases h
 ·rename_i b off n c0 s;split at h
  ·rename_i e;subst e;split at h
   ·rename_i es fz hb;split at h
    ·rename_i hle;cases h;obtain⟨L,h1,_,_,c,e,h2,h3,h4,h5,h6⟩:=hr.cG b _ (la hb);have hlen:((es.drop off).take n).length=n:=by simp;omega
     have fc:∀k,k<n->((es.drop off).take n).getD k ah.undef=es.getD (off+k) .undef:=λk hk=>by
      simp[List.getD,hk,dZ]
     cases hv with
     |ve a BZ =>
      refine⟨#[],by rw[hlen];rfl,?_,by simp,λi hi=>by simp at hi,λi j hi=>by simp at hi⟩;rw[hlen];cases a<;>intro _ _<;>simp[Builtin.firstCells,loadCells,loadCellsFrom]
     | @oc _ _ _ _ L' hL hl hc =>
      obtain rfl:=aS (h1.symm.trans hL);have key:=Nr (P:=P) (w:=w) (M:=MT X σ β) (β:=β) (g:=L.g) (o:=L.o+off*L.sz) (cap:=c0) (sz:=L.sz) (xs:=(es.drop off).take n) (cv:=λi j=>c.getD (L.o+(off+i)*L.sz+j) undef)
       (λi hi=>by rw[fc i (by omega)];exact h5 _ (by omega))
       (λi j hi hj=>by
        rw[hlen]at hi;have h7:(off+i+1)*L.sz<=L.n*L.sz:=aZ _ (by omega);rw[bY,dX]at h7;rw[cell_of_row w L.g _ c e (0,0) h2,show L.o+off*L.sz+i*L.sz+j=L.o+(off+i)*L.sz+j by rw[bY];omega,wm (by omega)])
       (λi j hi hj=>by
        rw[hlen]at hi;rw[fc i hi];exact h6 (off+i) j (by omega) hj)
      rw[hlen]at key;exact key
    ·cases h
   ·cases h
  ·cases h
 ·cases h
theorem Yel {s:ByteArray}:Src P w M β 1 (.string s) (bytesOf s) (s.data.map λb=>.int .u8 b.toNat):=by
 have hl:(bytesOf s).length=s.size:=by simp[bytesOf]
 refine⟨by rw[hl];rfl,?_,by rw[hl];simp,λi hi=>?_,λi j hi hj=>?_⟩
 ·rw [hl];have:s.extract 0 s.size=s:=by
   apply ByteArray.ext;rw[ByteArray.data_extract];exact Array.extract_eq_self_of_le (ae _)
  intro w' _;simp only[Builtin.firstCells,this];rfl
 ·rw [hl]at hi;have:(bytesOf s).getD i .undef=.int .u8 (s.data[i]'hi).toNat:=by
   have dm:i<s.data.size:=hi;simp[bytesOf,List.getD,aE dm]
  rw[this];rfl
 ·rw [hl]at hi;obtain rfl:j=0:=by omega
  have dm:i<s.data.size:=hi;have e1:(bytesOf s).getD i .undef=.int .u8 (s.data[i]'hi).toNat:=by simp[bytesOf,List.getD,aE dm]
  have e2:(s.data.map λb=>Value.int .u8 b.toNat).getD (i*1+0) undef=.int .u8 (s.data[i]'hi).toNat:=by
   rw[au,fg,Nat.mul_one,cF,aE dm];rfl
  rw[e1,e2];exact .int _ _
theorem Zks {t u ty e:TypeId} {i:TypeInfo} {z:Value} {d:TypeDesc} (ht:P.underlying t=some (.slice e)) (hu:P.underlying u=some d) (hd:(∃k,d=.slice k)\/d=.string) (hi:P.info? e=some i) (hz:i.zero=some z)
  {b:Option Addr} {n cap m:Nat} {vx:Value} {olds news:Array Value} (hlen:(Builtin.lenOf vx).run P w=.ok m w) (p_:(Builtin.firstCells i.size m vx).run P w.drew=.ok news w.drew)
  (hold:(Builtin.firstCells i.size n (.slice b n cap)).run P w.drew=.ok olds w.drew) (hg:cap<n+m) (qR:n+m<=dc i.bytes) (v8:i.bytes<=65536) :
  (Builtin.append_ #[t,u] ty #[.slice b n cap,vx]).run P w =
   .ok (.slice (some ⟨w.heap.size,0,none⟩) (n+m) (grownCap w (n+m) cap e)) (w.drew.alloc (.cells (olds++news++Builtin.zeroCells z.cells (grownCap w (n+m) cap e-(n+m))) e)):=by
 have h1:¬n+m<=cap:=by omega
 have Mz:=XD i.bytes;have h2:¬(((n+m:Nat):Int) > IntKind.i64.max):=by
  have:IntKind.i64.max=9223372036854775807:=by decide
  rw[this];omega
 have xi:¬((n:Int)+(m:Int) > IntKind.i64.max):=by
  have:IntKind.i64.max=9223372036854775807:=by decide
  rw[this];omega
 have h4:¬(9223372036854775807<(n:Int)+(m:Int)/\i.bytes=0):=by omega
 have h3:¬(Builtin.nextslicecap (n+m) cap*i.bytes > 2 ^ 48):=by
  have:=growslice_fits_wide (old:=cap) hg (Wj qR v8);omega
 rcases hd with⟨k,rfl⟩|rfl
 ·simp[Builtin.append_,run_underlying ht,run_underlying hu,sizeOf,typeInfo,zeroValue,hi,hz,hlen,h1,xi,h3,h4,Question.forced,hold,p_,newRow,grownCap]
 ·simp[Builtin.append_,run_underlying ht,run_underlying hu,sizeOf,typeInfo,zeroValue,hi,hz,hlen,h1,xi,h3,h4,Question.forced,hold,p_,newRow,grownCap]
theorem Zoa {t u ty e:TypeId} {i:TypeInfo} {d:TypeDesc} (ht:P.underlying t=some (.slice e)) (hu:P.underlying u=some d) (hd:(∃k,d=.slice k)\/d=.string) (hi:P.info? e=some i)
  {g o n cap m:Nat} {vx:Value} {news:Array Value} (hlen:(Builtin.lenOf vx).run P w=.ok m w) (p_:(Builtin.firstCells i.size m vx).run P w=.ok news w) (hg:n+m<=cap) {w':World}
  (gE:(storeCells ⟨g,o+n*i.size,none⟩ news.toList).run P w=.ok () w') :
  (Builtin.append_ #[t,u] ty #[.slice (some ⟨g,o,none⟩) n cap,vx]).run P w=.ok (.slice (some ⟨g,o,none⟩) (n+m) cap) w':=by
 rcases hd with⟨k,rfl⟩|rfl<;>simp[Builtin.append_,run_underlying ht,run_underlying hu,sizeOf,typeInfo,hi,hlen,hg,p_,Addr.add_lit,gE]
theorem Zlm {t u ty e:TypeId} {i:TypeInfo} {d:TypeDesc} (ht:P.underlying t=some (.slice e)) (hu:P.underlying u=some d) (hd:(∃k,d=.slice k)\/d=.string) (hi:P.info? e=some i)
  {b:Option Addr} {c:Nat} {vx:Value} {news:Array Value} (hlen:(Builtin.lenOf vx).run P w=.ok 0 w) (p_:(Builtin.firstCells i.size 0 vx).run P w=.ok news w) (B8:news.size=0) :
  (Builtin.append_ #[t,u] ty #[.slice b 0 c,vx]).run P w=.ok (.slice b 0 c) w:=by
 have:news = #[]:=mQ B8;subst this;rcases hd with⟨k,rfl⟩|rfl<;>cases b<;>simp[Builtin.append_,run_underlying ht,run_underlying hu,sizeOf,typeInfo,hi,hlen,p_,storeCells]
structure oC (P:Program) (w:World) (t u ty e:TypeId) (m:Nat) (vx:Value) (news:Array Value):Prop where
 grow:∀(i:TypeInfo) (z:Value),P.info? e=some i->i.zero=some z->∀ {b:Option Addr} {n cap:Nat} {olds:Array Value},(Builtin.firstCells i.size n (.slice b n cap)).run P w.drew=.ok olds w.drew->cap<n+m->n+m<=dc i.bytes->i.bytes<=65536 ->
  (Builtin.append_ #[t,u] ty #[.slice b n cap,vx]).run P w =
   .ok (.slice (some ⟨w.heap.size,0,none⟩) (n+m) (grownCap w (n+m) cap e)) (w.drew.alloc (.cells (olds++news++Builtin.zeroCells z.cells (grownCap w (n+m) cap e-(n+m))) e))
 inn:∀(i:TypeInfo),P.info? e=some i->∀ {g o n cap:Nat} {w':World},n+m<=cap->(storeCells ⟨g,o+n*i.size,none⟩ news.toList).run P w=.ok () w' ->
  (Builtin.append_ #[t,u] ty #[.slice (some ⟨g,o,none⟩) n cap,vx]).run P w=.ok (.slice (some ⟨g,o,none⟩) (n+m) cap) w'
 none:m=0->∀(b:Option Addr) (c:Nat),(Builtin.append_ #[t,u] ty #[.slice b 0 c,vx]).run P w=.ok (.slice b 0 c) w
theorem oC.Bn {t u ty e:TypeId} {d:TypeDesc} (ht:P.underlying t=some (.slice e)) (hu:P.underlying u=some d) (hd:(∃k,d=.slice k)\/d=.string) {l:fL} (he:cC P e=some l)
  {vx:Value} {xs:List ah} {news:Array Value} (hx:Src P w M β l.sz vx xs news):oC P w t u ty e xs.length vx news:=by
 obtain⟨i,_,z,hi,_,hz,eM,_⟩:=rS he;have p_:∀w':World,w'.heap=w.heap->(Builtin.firstCells i.size xs.length vx).run P w'=.ok news w':=λw' hw=>by rw[eM];exact hx.cells w' hw
 refine⟨λi' z' dm Sc b n cap olds hold h1 h2 h3=>?_,λi' dm g o n cap w' h1 h2=>?_,λh0 b c=>?_⟩
 ·obtain rfl:=aS (dm.symm.trans hi);obtain rfl:=aS (Sc.symm.trans hz);exact Zks ht hu hd hi hz hx.len (p_ w.drew rfl) hold h1 h2 h3
 ·obtain rfl:=aS (dm.symm.trans hi);exact Zoa ht hu hd hi hx.len (p_ w rfl) h1 h2
 ·have hl:=hx.len;rw[h0]at hl;have hnw:=p_ w rfl;rw[h0]at hnw;exact Zlm ht hu hd hi hl hnw (by rw[hx.size,h0];simp)
theorem Vu (a b c:Array Value) (p:Nat):(a++b++c).getD p undef=if p<a.size then a.getD p undef else if p<a.size+b.size then b.getD (p-a.size) undef else c.getD (p-(a.size+b.size)) undef:=by
 rw[au,mF,Array.size_append];by_cases h1:p<a.size
 ·rw[if_pos (by omega),if_pos h1,mF,if_pos h1,au]
 ·by_cases h2:p<a.size+b.size
  ·rw[if_pos h2,if_neg h1,if_pos h2,mF,if_neg h1,au]
  ·rw[if_neg h2,if_neg h1,if_neg h2,au]
theorem vW (a b:List ah)(i:Nat):(a++b).getD i .undef=if i<a.length then a.getD i .undef else b.getD (i-a.length) .undef:=by
 simp only[List.getD,tb];split<;>rfl
theorem OV {sz n m cap:Nat} {et:TypeId} {z:Value} (hz:z.cells.size=sz) {nV rI:List ah} {olds news:Array Value} (ho:olds.size=nV.length*sz) (hn:news.size=rI.length*sz)
  (h1:∀i,i<nV.length->(nV.getD i .undef).cells.length=sz) (h2:∀i,i<rI.length->(rI.getD i .undef).cells.length=sz)
  (qa:∀i j,i<nV.length->j<sz->cn w M β (olds.getD (i*sz+j) undef) ((nV.getD i .undef).cells.getD j .undef))
  (po:∀i j,i<rI.length->j<sz->cn w M β (news.getD (i*sz+j) undef) ((rI.getD i .undef).cells.getD j .undef))
  (e1:nV.length=n) (e2:rI.length=m) (j8:n+m<=cap) {w':World} {M':Nat->Nat->Prop} {β':Env} (hk:dK w M w' M') (hβ:∀b L,β b=some L->β' b=some L) {g:Nat}
  (hg:w'.heap[g]? = some (.cells (olds++news++Builtin.zeroCells z.cells (cap-(n+m))) et (0,0))) (fz:Nat):ig w' M' β' ⟨g,0,cap,sz⟩ (.row (nV++rI) fz):=by
 subst e1;subst e2;refine⟨_,et,hg,?_,by simpa using j8,λi hi=>?_,λi j hi hj=>?_⟩
 ·simp only[Array.size_append,size_zeroCells,hz,ho,hn,br,<-bY];rw[show nV.length+rI.length+(cap-(nV.length+rI.length))=cap by omega];exact ae _
 ·simp only[aA]at hi;rw[vW];split
  ·exact h1 i (by assumption)
  ·exact h2 _ (by omega)
 ·simp only[aA]at hi;simp only[br]at hj ⊢;rw[vW,Vu];by_cases hc:i<nV.length
  ·have:(i+1)*sz<=nV.length*sz:=aZ _ hc;rw[bY,dX]at this;rw[if_pos (by omega),if_pos hc];exact(qa i j hc hj).mono hk hβ
  ·have h3:nV.length*sz<=i*sz:=aZ _ (by omega);have h4:(i-nV.length+1)*sz<=rI.length*sz:=aZ _ (by omega);rw[bY,dX,lH]at h4;rw[if_neg (by omega),if_neg hc,if_pos (by omega)];have:=po (i-nV.length) j (by omega) hj;rw[lH]at this;rw[ho,show i*sz+j-nV.length*sz=i*sz-nV.length*sz+j by omega];exact this.mono hk hβ
theorem cn.tV {v:Value} {b off n sz:Nat} (h:cn w M β v (.os b off n sz)):(n=0/\∃a L,β b=some L/\L.sz=sz/\v=.slice a 0 0) \/
  ∃L cap,β b=some L/\L.sz=sz/\n<=cap/\off+cap<=L.n/\v=.slice (some ⟨L.g,L.o+off*L.sz,none⟩) n cap:=by
 cases h with
 |vg a h=>exact .inl ⟨rfl,a,_,h,rfl,rfl⟩
 |os h1 h2 h3=>exact .inr ⟨_,_,h1,rfl,h2,h3,rfl⟩
theorem cn.one {v:Value}{a:ah}(h:cn w M β v a)(hc:a.dy=true):v.oneCell'=true:=by
 cases h<;>first|rfl | (simp[ah.dy]at hc)
theorem vt.Gj {sz:Nat} {xs:List ah} {news:Array Value} (h:vt w M β sz xs news) (hc:∀x∈xs,x.cells.all ah.dy=true):∀u∈news.toList,u.oneCell'=true:=by
 intro u hu;obtain⟨p,hp,rfl⟩:=n6 hu;simp only[bR]at hp;rw[h.size]at hp;obtain⟨a1,a2,a3⟩:=YB hp;have h1:=h.rep _ _ a1 a2;rw[a3]at h1;have e1:news.getD p undef=news.toList[p]'(by simpa[h.size] using hp):=by
  have:p<news.size:=by rw[h.size];exact hp
  simp[Array.getD,this]
 rw[e1]at h1;refine h1.one ?_;have h2:=hc (xs.getD (p / sz) .undef) (by simp only[List.getD,ax a1,bd];exact ay a1);have h3:=h.one _ a1;rw[bu]at h2;have h4:p % sz<(xs.getD (p / sz) .undef).cells.length:=by omega
 have e2:(xs.getD (p / sz) .undef).cells.getD (p % sz) .undef=(xs.getD (p / sz) .undef).cells[p % sz]:=by
  rw[dR,ax h4];rfl
 rw[e2];exact h2 _ (ay h4)
theorem Yd4 (hr:c8 X base σ β w) (hn : β nm=none) (AP:bW σ nm=none) {t u et:TypeId} {e:fL} (he:cC P et=some e) {vs vx:Value} {s:ah} {xs:List ah} {news:Array Value} (hs:cn w (MT X σ β) β vs s) (hx:vt w (MT X σ β) β e.sz xs news)
  {r:ah} {σ':av} (h:nK σ nm e s xs=some (r,σ')) (ty:TypeId) (ha:oC P w t u ty et xs.length vx news) {S:Sem Next} (hS:S=(do pure (.value (<-Builtin.append_ #[t,u] ty #[vs,vx])))):dh P X base σ β w nm S r σ':=by
 obtain⟨i,_,z,hi,_,hz,eM,_,C5,_,_,_,F5⟩:=rS he;unfold nK at h;split at h
 case isFalse=>cases h
 rename_i hc;obtain⟨uu,lS,C6⟩:=hc;have oQ:∀M':Nat->Nat->Prop,True:=λ_=>trivial;split at h
 ·split at h
  ·rename_i h0;cases h;cases hs with
   |a8 a =>
    refine dh.val hr (v:=.slice a 0 0) ?_ (.a8 a);rw[hS,Sem.run_bind,ha.none h0];rfl
  ·rename_i h0;split at h
   ·rename_i hb;cases h;cases hs with
    | a8 a =>
     have uF:=grownCap_ge w (0+xs.length) 0 et;have hold:(Builtin.firstCells i.size 0 (.slice a 0 0)).run P w.drew=.ok #[] w.drew:=by cases a<;>simp[Builtin.firstCells,loadCells,loadCellsFrom]
     have fE:=ha.grow i z hi hz hold (by omega) (by first | (rw[<-C5];omega) | (rw[C5];omega)) (by omega)
     rw[br]at fE uF;refine BS hr hn (.row xs 0) (grownCap w xs.length 0 et) e.sz (w':=w.drew.alloc (.cells (#[]++news++Builtin.zeroCells z.cells (grownCap w xs.length 0 et-xs.length)) et)) rfl rfl rfl rfl (by rw[hS,Sem.run_bind,fE];rfl) ?_ ?_
     ·intro M' β' hk hβ;have:=OV (w:=w) (M:=MT X σ β) (β:=β) (n:=0) (m:=xs.length) (cap:=grownCap w xs.length 0 et) (et:=et) (z:=z) F5 (nV:=[]) (rI:=xs) (olds:=#[]) (news:=news) (by simp) hx.size (λi hi=>by simp at hi) hx.one (λi j hi=>by simp at hi) hx.rep rfl rfl (by omega) hk hβ (g:=w.heap.size) (by
       rw[br];exact Aa w.drew _) 0
      simpa using this
     ·intro M';have:=cn.os (w:=w.drew.alloc (.cells (#[]++news++Builtin.zeroCells z.cells (grownCap w xs.length 0 et-xs.length)) et)) (M:=M') (β:=qM β nm ⟨w.heap.size,0,grownCap w xs.length 0 et,e.sz⟩) (b:=nm) (off:=0) (len:=xs.length) (cap:=grownCap w xs.length 0 et) (L:=⟨w.heap.size,0,grownCap w xs.length 0 et,e.sz⟩) (wv _ _ _) uF (by simp);simpa using this
   ·cases h
 ·rename_i b off n sz;split at h
  ·rename_i es fz hb;split at h
   ·rename_i mj;obtain⟨rfl,hcf,QZ,hcn⟩:=mj;cases h;obtain⟨L,h1,wO,hX,c,ec,h2,h3,h4,h5,h6⟩:=hr.cG b _ (la hb);have hlen:((es.drop off).take n).length=n:=by simp;omega
    have fc:∀k,k<n->((es.drop off).take n).getD k ah.undef=es.getD (off+k) .undef:=λk hk=>by
     simp[List.getD,hk,dZ]
    have nx:b≠nm:=by rintro rfl;rw[hb]at AP;cases AP
    have qS : σ[b]? = some (some (.row es fz)):=la hb;have QW:b < σ.length:=(aN.1 qS).1;have j3:∀c' x,c'≠nm->(cJ (σ.set b none) nm (.row ((es.drop off).take n++xs) (fz-off)))[c']? = some (some x)->σ[c']? = some (some x)/\c'≠b:=by
     intro c' x tx u9;have:=Cq _ _ _ tx u9;by_cases e1:c'=b
     ·subst e1;simp[QW]at this
     ·rw[b_ (gV e1)]at this;exact⟨this,e1⟩
    have AX : σ.length<=(cJ (σ.set b none) nm (.row ((es.drop off).take n++xs) (fz-off))).length:=by
     have:=DI (σ.set b none) nm (.row ((es.drop off).take n++xs) (fz-off));simpa using this
    have grow:∀(a:Option Addr) (cap:Nat) (olds:Array Value),vs=.slice a n cap->cap<n+xs.length->(∀w':World,w'.heap=w.heap->(Builtin.firstCells i.size n (.slice a n cap)).run P w'=.ok olds w') ->
      olds.size=n*e.sz->(∀k j,k<n->j<e.sz->cn w (MT X σ β) β (olds.getD (k*e.sz+j) undef) ((es.getD (off+k) .undef).cells.getD j .undef))->(∀k,k<n->(es.getD (off+k) .undef).cells.length=e.sz) ->
      dh P X base σ β w nm S (.os nm 0 (n+xs.length) e.sz) (cJ (σ.set b none) nm (.row ((es.drop off).take n++xs) (fz-off))):=by
     intro a cap olds nS bx hold A5 A4 sG;have uF:=grownCap_ge w (n+xs.length) cap et;have fE:=ha.grow i z hi hz (hold w.drew rfl) bx (by first | (rw[<-C5];omega) | (rw[C5];omega)) (by omega)
     obtain⟨k1,k2,k3,k4⟩:=GR hr nm ⟨w.heap.size,0,grownCap w (n+xs.length) cap et,e.sz⟩ (.row ((es.drop off).take n++xs) (fz-off)) (σ':=cJ (σ.set b none) nm (.row ((es.drop off).take n++xs) (fz-off)))
      (β':=qM β nm ⟨w.heap.size,0,grownCap w (n+xs.length) cap et,e.sz⟩) (w':=w.drew.alloc (.cells (olds++news++Builtin.zeroCells z.cells (grownCap w (n+xs.length) cap et-(n+xs.length))) et))
      (GI _ _ _) (λc' x tx u9=>⟨(j3 c' x tx u9).1,λLc hL=>by have:=Ix hr (j3 c' x tx u9).1 hL;simp only;omega⟩) AX (wv _ _ _) (λc' tx=>EP _ _ _ tx) (.inl hn)
      rfl rfl rfl (by simp) (λg hg _=>heap_alloc_old w.drew _ g hg) (λzu v tx _=>absurd (Ae tx) (by simp)) (λh=>absurd h (by simp)) (λzu _=>.inr (ae _)) (λo' u9=>absurd (hr.sc _ _ u9) (by simp)) hr.size
     refine⟨_,_,_,.inl (by rw[hS,nS,Sem.run_bind,fE];rfl),k4 (OV (w:=w) (M:=MT X σ β) (β:=β) (z:=z) F5 (nV:=(es.drop off).take n) (rI:=xs) (olds:=olds) (news:=news) (by rw[hlen];exact A5) hx.size ?_ hx.one ?_ hx.rep hlen rfl uF k2 k3 (Aa w.drew _) _),?_,k1,λb' oP=>EP _ _ _ oP,k3⟩
     ·intro k hk;rw[hlen]at hk;rw[fc k hk];exact sG k hk
     ·intro k j hk hj;rw[hlen]at hk;rw[fc k hk];exact A4 k j hk hj
     ·have:=cn.os (w:=w.drew.alloc (.cells (olds++news++Builtin.zeroCells z.cells (grownCap w (n+xs.length) cap et-(n+xs.length))) et)) (M:=MT X (cJ (σ.set b none) nm (.row ((es.drop off).take n++xs) (fz-off))) (qM β nm ⟨w.heap.size,0,grownCap w (n+xs.length) cap et,e.sz⟩)) (β:=qM β nm ⟨w.heap.size,0,grownCap w (n+xs.length) cap et,e.sz⟩) (b:=nm) (off:=0) (len:=n+xs.length) (cap:=grownCap w (n+xs.length) cap et) (L:=⟨w.heap.size,0,grownCap w (n+xs.length) cap et,e.sz⟩) (wv _ _ _) uF (by simp);simpa using this
    have stay:∀(a:Option Addr) (cap:Nat) (w':World),vs=.slice a n cap->L.sz=e.sz->off+(n+xs.length)<=L.n ->
      (Builtin.append_ #[t,u] ty #[vs,vx]).run P w=.ok (.slice a (n+xs.length) cap) w'->w'=w.setRow L.g (c.toList.take (L.o+off*L.sz+n*L.sz)++news.toList++c.toList.drop (L.o+off*L.sz+n*L.sz+news.toList.length)).toArray ->
      (∀w1 M1,cn w1 M1 (qM β nm ⟨L.g,L.o+off*L.sz,L.n-off,L.sz⟩) (.slice a (n+xs.length) cap) (.os nm 0 (n+xs.length) e.sz)) ->
      dh P X base σ β w nm S (.os nm 0 (n+xs.length) e.sz) (cJ (σ.set b none) nm (.row ((es.drop off).take n++xs) (fz-off))):=by
     intro a cap w' nS ko AL fE zo ha;subst zo;have yy:(off+n+xs.length)*L.sz<=L.n*L.sz:=aZ _ (by omega);rw[bY,bY]at yy;have Hr:news.size=xs.length*L.sz:=by rw[hx.size,ko]
     have qC:L.o+off*L.sz+n*L.sz+news.toList.length<=c.size:=by simp only[bR];omega
     obtain ⟨f1,f2,f3,f4,f5,f6⟩:=Kz w (c':=(c.toList.take (L.o+off*L.sz+n*L.sz)++news.toList++c.toList.drop (L.o+off*L.sz+n*L.sz+news.toList.length)).toArray) h2;have pn:∀o',L.o+fz*L.sz<=o'->jR σ β L.g o':=λo' Ek=>⟨b,_,L,qS,h1,rfl,Ek⟩;have Jk:fz*L.sz<=(off+n)*L.sz:=aZ _ hcf;rw[bY]at Jk;obtain⟨k1,k2,k3,k4⟩:=GR hr nm ⟨L.g,L.o+off*L.sz,L.n-off,L.sz⟩ (.row ((es.drop off).take n++xs) (fz-off)) (σ':=cJ (σ.set b none) nm (.row ((es.drop off).take n++xs) (fz-off)))
      (β':=qM β nm ⟨L.g,L.o+off*L.sz,L.n-off,L.sz⟩) (w':=w.setRow L.g (c.toList.take (L.o+off*L.sz+n*L.sz)++news.toList++c.toList.drop (L.o+off*L.sz+n*L.sz+news.toList.length)).toArray)
      (GI _ _ _) (λc' x tx u9=>⟨(j3 c' x tx u9).1,λLc hL wa=>(j3 c' x tx u9).2 (hr.inj c' b x _ Lc L (j3 c' x tx u9).1 qS hL h1 wa)⟩) AX (wv _ _ _) (λc' tx=>EP _ _ _ tx) (.inl hn)
      f1 f2 f3 (qW f4.symm) (λg _ hg=>f5 g hg)
      (λzu v gM vK=>by
       have aL:zu<L.o+fz*L.sz:=kq λhle=>vK (pn zu hle);rw[cell_of_row _ _ _ _ _ _ f6];simp only at gM;rw[cell_of_row _ _ _ _ _ _ h2]at gM;obtain⟨bx,hv⟩:=aQ.1 gM;rw[wm (by rw[EH _ _ _ qC];exact bx),EI _ _ _ qC,if_neg (by omega),<-wm bx];exact gM)
      (λ_ vK=>absurd (pn _ (ae _)) (vK _))
      (λzu hm=>.inl (pn zu (by
       simp only[bS.mut,lH]at hm;omega))) hX wO
     refine⟨_,_,_,.inl (by rw[hS,Sem.run_bind,fE];rfl),k4 ⟨_,ec,f6,?_,?_,λk hk=>?_,λk j hk hj=>?_⟩,?_,k1,λb' oP=>EP _ _ _ oP,k3⟩
     ·rw[EH _ _ _ qC];simp only
      rw[lH];have:off*L.sz<=L.n*L.sz:=aZ _ (by omega);omega
     ·simp only[aA,hlen];omega
     ·simp only[aA,hlen]at hk;rw[vW,hlen];split
      ·rw[fc k (by assumption)];exact h5 _ (by omega)
      ·simp only;rw[ko];exact hx.one _ (by omega)
     ·simp only[aA,hlen]at hk;simp only at hj ⊢;rw[vW,hlen,EI _ _ _ qC];simp only[bR];by_cases C_:k<n
      ·have h7:(k+1)*L.sz<=n*L.sz:=aZ _ C_;rw[bY,dX]at h7;rw[if_neg (by omega),if_pos C_,fc k C_];have:=h6 (off+k) j (by omega) hj;rw[bY]at this;rw[show L.o+off*L.sz+k*L.sz+j=L.o+(off*L.sz+k*L.sz)+j by omega];exact this.mono k2 k3
      ·have h7:n*L.sz<=k*L.sz:=aZ _ (by omega);have h8:(k-n+1)*L.sz<=xs.length*L.sz:=aZ _ (by omega);rw[bY,dX,lH]at h8;rw[if_pos (by omega),if_neg C_];have:=hx.rep (k-n) j (by omega) (by omega);rw[show news.toList.getD (L.o+off*L.sz+k*L.sz+j-(L.o+off*L.sz+n*L.sz)) undef=news.getD (L.o+off*L.sz+k*L.sz+j-(L.o+off*L.sz+n*L.sz)) undef by simp[List.getD,au]];rw[<-ko,lH]at this;rw[show L.o+off*L.sz+k*L.sz+j-(L.o+off*L.sz+n*L.sz)=k*L.sz-n*L.sz+j by omega];exact this.mono k2 k3
     ·exact ha _ _
    rcases hs.tV with⟨rfl,a,L0,BZ,ko,rfl⟩|⟨L',cap,hL,ko,hl,Ja,rfl⟩
    ·by_cases h0:xs.length=0
     ·have F1:xs=[]:=bn h0;have zV:news = #[]:=mQ (by rw[hx.size,h0,qX]);obtain rfl:=aS (h1.symm.trans BZ)
      ·refine stay a 0 w rfl ko (by omega) ?_ ?_ λw1 M1=>?_
       ·rw[h0];exact ha.none h0 a 0
       ·subst zV;simp only[bf,aF,cF,List.take_append_drop,s0];exact(setRow_self w L.g c ec (0,0) h2).symm
       ·rw[h0,<-ko];exact .vg (L:=⟨L.g,L.o+off*L.sz,L.n-off,L.sz⟩) a (wv _ _ _)
     ·refine grow a 0 #[] rfl (by omega) (λw' _=>by cases a<;>simp[Builtin.firstCells,loadCells,loadCellsFrom]) (by simp) (λk j hk=>by omega) (λk hk=>by omega)
    ·obtain rfl:=aS (h1.symm.trans hL);by_cases uZ:n+xs.length<=cap
     ·have yy:(off+n+xs.length)*L.sz<=L.n*L.sz:=aZ _ (by omega);rw[bY,bY]at yy;have Hr:=hx.size;rw[<-ko]at Hr;have sG:∀v∈news.toList,v.oneCell'=true:=hx.Gj λx u9=>by
       have:=bu.1 uu x u9;simp only[aG]at this;exact this.2
      have gE:=run_storeCells_at P L.g (L.o+off*L.sz+n*L.sz) ec news.toList 0 c w h2 (by simp only[cF,bR];omega) sG;simp only[cF]at gE;refine stay _ cap _ rfl ko (by omega) (ha.inn i hi uZ (by rw[eM,<-ko];exact gE)) rfl λw1 M1=>?_;have:=cn.os (w:=w1) (M:=M1) (β:=qM β nm ⟨L.g,L.o+off*L.sz,L.n-off,L.sz⟩) (b:=nm) (off:=0) (len:=n+xs.length) (cap:=cap) (L:=⟨L.g,L.o+off*L.sz,L.n-off,L.sz⟩) (wv _ _ _) uZ (by simp only;omega);simp only[qX,cF]at this;rw[<-ko];exact this
     ·obtain⟨olds,pv⟩:=KQ (P:=P) hr (sz:=L.sz) (v:=.slice (some ⟨L.g,L.o+off*L.sz,none⟩) n cap) (x:=.os b off n L.sz) (xs:=(es.drop off).take n) (.os h1 hl Ja) (by simp[fO,hb,QZ]);have apq:=ko;refine grow _ cap olds rfl (by omega) (λw' zo=>?_) ?_ (λk j hk hj=>?_) (λk hk=>by rw[<-ko];exact h5 _ (by omega))
      ·have:=pv.cells w' zo;rw[hlen]at this;rw[eM,<-ko];exact this
      ·have:=pv.size;rw[hlen]at this;rw[<-ko];exact this
      ·have:=pv.rep k j (by omega) (by omega);rw[fc k hk]at this;rw[<-ko];exact this
   ·cases h
  ·cases h
 ·cases h
end
end Go.dq
