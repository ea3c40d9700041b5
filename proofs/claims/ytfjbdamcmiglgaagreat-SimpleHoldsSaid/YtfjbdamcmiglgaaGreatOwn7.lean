/- Part 7 of my own framework and of the walks of functions: AbsJ. -/
import Derived.Test.YtfjbdamcmiglgaaGreatOwn6
import Derived.Deep.DeepAppendWide
abbrev lX:=@Array.eq_empty_of_size_eq_zero
abbrev lO:=@Array.getElem?_append
abbrev eZ:=@Array.getElem?_map
abbrev bu:=@List.append_nil
abbrev bg:=@List.eq_nil_of_length_eq_zero
abbrev rL:=@List.getElem?_append
abbrev jU:=@Nat.lt_of_not_le
abbrev kM:=@Nat.sub_mul
abbrev pZ:=@Nat.zero_mul
set_option linter.unusedVariables false
set_option linter.unusedSectionVars false
set_option linter.unusedSimpArgs false
namespace Go.dm
open Go
section
variable {P:Program} {X:Nat→Nat→Prop} {base:Nat} {σ:ai} {β:Env} {w:World} {nm:Nat} {M:Nat→Nat→Prop}
structure Src (P:Program) (w:World) (M:Nat→Nat→Prop) (β:Env) (sz:Nat) (v:Value) (xs:List ah) (news:Array Value):Prop where
 len:(Builtin.lenOf v).run P w = .ok xs.length w
 cells:∀ w':World,w'.heap=w.heap→(Builtin.firstCells sz xs.length v).run P w' = .ok news w'
 size:news.size=xs.length*sz
 one:∀ i,i<xs.length→(xs.getD i .undef).cells.length=sz
 rep:∀ i j,i<xs.length→j<sz→cf w M β (news.getD (i*sz+j) undef) ((xs.getD i .undef).cells.getD j .undef)
structure tZ (w:World) (M:Nat→Nat→Prop) (β:Env) (sz:Nat) (xs:List ah) (news:Array Value):Prop where
 size:news.size=xs.length*sz
 one:∀ i,i<xs.length→(xs.getD i .undef).cells.length=sz
 rep:∀ i j,i<xs.length→j<sz→cf w M β (news.getD (i*sz+j) undef) ((xs.getD i .undef).cells.getD j .undef)
theorem Src.Qj {sz:Nat} {v:Value} {xs:List ah} {news:Array Value} (h:Src P w M β sz v xs news):tZ w M β sz xs news:=⟨h.size,h.one,h.rep⟩
theorem J7 {i j sz:Nat} (h:j<sz):(i*sz+j) / sz=i∧(i*sz+j) % sz=j:=by
 have h0 : 0<sz:=by omega
 constructor
 ·rw [Nat.mul_comm,Nat.mul_add_div h0,Nat.div_eq_of_lt h];omega
 ·rw [Nat.mul_comm,Nat.mul_add_mod,Nat.mod_eq_of_lt h]
theorem UM {n sz k:Nat} (h:k<n*sz):k / sz<n∧k % sz<sz∧k / sz*sz+k % sz=k:=by
 have h0 : 0<sz:=by
  rcases Nat.eq_zero_or_pos sz with e | e
  ·subst e;simp at h
  ·exact e
 exact ⟨Nat.div_lt_of_lt_mul (by rwa [Nat.mul_comm]),Nat.mod_lt _ h0,by rw [Nat.mul_comm];exact Nat.div_add_mod k sz⟩
theorem Lf {g o cap sz:Nat} {xs:List ah} {cv:Nat→Nat→Value} (h1:∀ i,i<xs.length→(xs.getD i .undef).cells.length=sz)
  (hc:∀ i j,i<xs.length→j<sz→w.cell? ⟨g,o+i*sz+j,none⟩=some (cv i j)) (hr:∀ i j,i<xs.length→j<sz→cf w M β (cv i j) ((xs.getD i .undef).cells.getD j .undef)) :
  ∃ news,Src P w M β sz (.slice (some ⟨g,o,none⟩) xs.length cap) xs news:=by
 have hl:=fun (w':World) (hw:w'.heap=w.heap)=>run_loadCells (P:=P) w' ⟨g,o,none⟩ (xs.length*sz) (fun k=>cv (k / sz) (k % sz)) (fun k hk=>by
  obtain ⟨a1,a2,a3⟩:=UM hk;have:=hc _ _ a1 a2;rw [Addr.add_lit,World.cell?_of_block (w:=w) (by rw [hw])]
  rwa [fN,a3] at this)
 refine ⟨_,rfl,hl,by simp,h1,fun i j hi hj=>?_⟩;have bA:i*sz+j<xs.length*sz:=by
  have:(i+1)*sz≤xs.length*sz:=bf _ hi;rw [bQ,dL] at this;omega
 rw [SE _ _ _ _ bA,(J7 hj).1,(J7 hj).2];exact hr i j hi hj
theorem I8 (hr:cS X base σ β w) {sz:Nat} {v:Value} {x:ah} {xs:List ah} (hv:cf w (MT X σ β) β v x) (h:fp σ sz x=some xs):∃ news,Src P w (MT X σ β) β sz v xs news:=by
 unfold fp at h;split at h
 ·rename_i s es;split at h
  ·rename_i e;subst e;cases h;cases hv with
   | @ps a cap _ _ cv jH fJ hc ha PF =>
    by_cases h0 : 0<xs.length
    ·obtain ⟨g,o,rfl⟩:=ha h0;exact Lf fJ (fun i j hi hj=>by
      obtain ⟨g',o',e1,e2,_⟩:=hc i j hi hj;simp only [aH,Addr.mk.injEq,and_true] at e1;obtain ⟨rfl,rfl⟩:=e1;exact e2) PF
    ·have N_:xs=[]:=bg (by omega);subst N_;refine ⟨#[],rfl,?_,by simp,fun i hi=>by simp at hi,fun i j hi=>by simp at hi⟩;cases a<;>intro _ _<;>simp [Builtin.firstCells,loadCells,loadCellsFrom]
  ·cases h
 ·cases h;cases hv with
  | aW a =>
   refine ⟨#[],rfl,?_,by simp,fun i hi=>by simp at hi,fun i j hi=>by simp at hi⟩;cases a<;>intro _ _<;>simp [Builtin.firstCells,loadCells,loadCellsFrom]
 ·rename_i b off n s;split at h
  ·rename_i e;subst e;split at h
   ·rename_i es fz hb;split at h
    ·rename_i hle;cases h;obtain ⟨L,h1,_,_,c,e,h2,h3,h4,h5,h6⟩:=hr.cw b _ (kq hb);have hlen:((es.drop off).take n).length=n:=by simp;omega
     have eJ:∀ k,k<n→((es.drop off).take n).getD k ah.undef=es.getD (off+k) .undef:=fun k hk=>by
      simp [List.getD,hk,eo]
     cases hv with
     | tU a vZ =>
      refine ⟨#[],by rw [hlen];rfl,?_,by simp,fun i hi=>by simp at hi,fun i j hi=>by simp at hi⟩;rw [hlen];cases a<;>intro _ _<;>simp [Builtin.firstCells,loadCells,loadCellsFrom]
     | @os _ _ _ cap L' hL hl hc =>
      obtain rfl:=aP (h1.symm.trans hL);have key:=Lf (P:=P) (w:=w) (M:=MT X σ β) (β:=β) (g:=L.g) (o:=L.o+off*L.sz) (cap:=cap) (sz:=L.sz) (xs:=(es.drop off).take n) (cv:=fun i j=>c.getD (L.o+(off+i)*L.sz+j) undef)
       (fun i hi=>by rw [eJ i (by omega)];exact h5 _ (by omega))
       (fun i j hi hj=>by
        rw [hlen] at hi;have h7:(off+i+1)*L.sz≤L.n*L.sz:=bf _ (by omega);rw [bQ,dL] at h7;rw [cell_of_row w L.g _ c e (0,0) h2,show L.o+off*L.sz+i*L.sz+j=L.o+(off+i)*L.sz+j by rw [bQ];omega,uO (by omega)])
       (fun i j hi hj=>by
        rw [hlen] at hi;rw [eJ i hi];exact h6 (off+i) j (by omega) hj)
      rw [hlen] at key;exact key
    ·cases h
   ·cases h
  ·cases h
 ·rename_i b off n c0 s;split at h
  ·rename_i e;subst e;split at h
   ·rename_i es fz hb;split at h
    ·rename_i hle;cases h;obtain ⟨L,h1,_,_,c,e,h2,h3,h4,h5,h6⟩:=hr.cw b _ (kq hb);have hlen:((es.drop off).take n).length=n:=by simp;omega
     have eJ:∀ k,k<n→((es.drop off).take n).getD k ah.undef=es.getD (off+k) .undef:=fun k hk=>by
      simp [List.getD,hk,eo]
     cases hv with
     | tQ a vZ =>
      refine ⟨#[],by rw [hlen];rfl,?_,by simp,fun i hi=>by simp at hi,fun i j hi=>by simp at hi⟩;rw [hlen];cases a<;>intro _ _<;>simp [Builtin.firstCells,loadCells,loadCellsFrom]
     | @oc _ _ _ _ L' hL hl hc =>
      obtain rfl:=aP (h1.symm.trans hL);have key:=Lf (P:=P) (w:=w) (M:=MT X σ β) (β:=β) (g:=L.g) (o:=L.o+off*L.sz) (cap:=c0) (sz:=L.sz) (xs:=(es.drop off).take n) (cv:=fun i j=>c.getD (L.o+(off+i)*L.sz+j) undef)
       (fun i hi=>by rw [eJ i (by omega)];exact h5 _ (by omega))
       (fun i j hi hj=>by
        rw [hlen] at hi;have h7:(off+i+1)*L.sz≤L.n*L.sz:=bf _ (by omega);rw [bQ,dL] at h7;rw [cell_of_row w L.g _ c e (0,0) h2,show L.o+off*L.sz+i*L.sz+j=L.o+(off+i)*L.sz+j by rw [bQ];omega,uO (by omega)])
       (fun i j hi hj=>by
        rw [hlen] at hi;rw [eJ i hi];exact h6 (off+i) j (by omega) hj)
      rw [hlen] at key;exact key
    ·cases h
   ·cases h
  ·cases h
 ·cases h
theorem Yj0 {s:ByteArray}:Src P w M β 1 (.string s) (bytesOf s) (s.data.map fun b=>.int .u8 b.toNat):=by
 have hl:(bytesOf s).length=s.size:=by simp [bytesOf]
 refine ⟨by rw [hl];rfl,?_,by rw [hl];simp,fun i hi=>?_,fun i j hi hj=>?_⟩
 ·rw [hl];have:s.extract 0 s.size=s:=by
   apply ByteArray.ext;rw [ByteArray.data_extract];exact Array.extract_eq_self_of_le (ae _)
  intro w' _;simp only [Builtin.firstCells,this];rfl
 ·rw [hl] at hi;have:(bytesOf s).getD i .undef = .int .u8 (s.data[i]'hi).toNat:=by
   have dZ:i<s.data.size:=hi;simp [bytesOf,List.getD,aE dZ]
  rw [this];rfl
 ·rw [hl] at hi;obtain rfl:j=0:=by omega
  have dZ:i<s.data.size:=hi;have e1:(bytesOf s).getD i .undef = .int .u8 (s.data[i]'hi).toNat:=by simp [bytesOf,List.getD,aE dZ]
  have e2:(s.data.map fun b=>Value.int .u8 b.toNat).getD (i*1+0) undef = .int .u8 (s.data[i]'hi).toNat:=by
   rw [ak,eZ,Nat.mul_one,cC,aE dZ];rfl
  rw [e1,e2];exact .int _ _
theorem Zkc {t u ty e:TypeId} {i:TypeInfo} {z:Value} {d:TypeDesc} (ht:P.underlying t=some (.slice e)) (hu:P.underlying u=some d) (hd:(∃ k,d = .slice k)∨d = .string) (hi:P.info? e=some i) (hz:i.zero=some z)
  {b:Option Addr} {n cap m:Nat} {vx:Value} {olds news:Array Value} (hlen:(Builtin.lenOf vx).run P w = .ok m w) (pj:(Builtin.firstCells i.size m vx).run P w.drew = .ok news w.drew)
  (hold:(Builtin.firstCells i.size n (.slice b n cap)).run P w.drew = .ok olds w.drew) (hg:cap<n+m) (rX:n+m≤cV i.bytes) (v7:i.bytes≤65536) :
  (Builtin.append_ #[t,u] ty #[.slice b n cap,vx]).run P w =
   .ok (.slice (some ⟨w.heap.size,0,none⟩) (n+m) (grownCap w (n+m) cap e)) (w.drew.alloc (.cells (olds++news++Builtin.zeroCells z.cells (grownCap w (n+m) cap e - (n+m))) e)):=by
 have h1:¬ n+m≤cap:=by omega
 have Kt:=VZ i.bytes;have h2:¬ (((n+m:Nat):Int) > IntKind.i64.max):=by
  have:IntKind.i64.max=9223372036854775807:=by decide
  rw [this];omega
 have uH:¬ ((n:Int)+(m:Int) > IntKind.i64.max):=by
  have:IntKind.i64.max=9223372036854775807:=by decide
  rw [this];omega
 have h4:¬ (9223372036854775807<(n:Int)+(m:Int)∧i.bytes=0):=by omega
 have h3:¬ (Builtin.nextslicecap (n+m) cap*i.bytes > 2 ^ 48):=by
  have:=growslice_fits_wide (old:=cap) hg (Uj rX v7);omega
 rcases hd with ⟨k,rfl⟩ | rfl
 ·simp [Builtin.append_,run_underlying ht,run_underlying hu,sizeOf,typeInfo,zeroValue,hi,hz,hlen,h1,uH,h3,h4,Question.forced,hold,pj,newRow,grownCap]
 ·simp [Builtin.append_,run_underlying ht,run_underlying hu,sizeOf,typeInfo,zeroValue,hi,hz,hlen,h1,uH,h3,h4,Question.forced,hold,pj,newRow,grownCap]
theorem Zns {t u ty e:TypeId} {i:TypeInfo} {d:TypeDesc} (ht:P.underlying t=some (.slice e)) (hu:P.underlying u=some d) (hd:(∃ k,d = .slice k)∨d = .string) (hi:P.info? e=some i)
  {g o n cap m:Nat} {vx:Value} {news:Array Value} (hlen:(Builtin.lenOf vx).run P w = .ok m w) (pj:(Builtin.firstCells i.size m vx).run P w = .ok news w) (hg:n+m≤cap) {w':World}
  (gx:(storeCells ⟨g,o+n*i.size,none⟩ news.toList).run P w = .ok () w') :
  (Builtin.append_ #[t,u] ty #[.slice (some ⟨g,o,none⟩) n cap,vx]).run P w = .ok (.slice (some ⟨g,o,none⟩) (n+m) cap) w':=by
 rcases hd with ⟨k,rfl⟩ | rfl<;>simp [Builtin.append_,run_underlying ht,run_underlying hu,sizeOf,typeInfo,hi,hlen,hg,pj,Addr.add_lit,gx]
theorem Zlw {t u ty e:TypeId} {i:TypeInfo} {d:TypeDesc} (ht:P.underlying t=some (.slice e)) (hu:P.underlying u=some d) (hd:(∃ k,d = .slice k)∨d = .string) (hi:P.info? e=some i)
  {b:Option Addr} {c:Nat} {vx:Value} {news:Array Value} (hlen:(Builtin.lenOf vx).run P w = .ok 0 w) (pj:(Builtin.firstCells i.size 0 vx).run P w = .ok news w) (Ax:news.size=0) :
  (Builtin.append_ #[t,u] ty #[.slice b 0 c,vx]).run P w = .ok (.slice b 0 c) w:=by
 have:news = #[]:=lX Ax;subst this;rcases hd with ⟨k,rfl⟩ | rfl<;>cases b<;>simp [Builtin.append_,run_underlying ht,run_underlying hu,sizeOf,typeInfo,hi,hlen,pj,storeCells]
structure ny (P:Program) (w:World) (t u ty e:TypeId) (m:Nat) (vx:Value) (news:Array Value):Prop where
 grow:∀ (i:TypeInfo) (z:Value),P.info? e=some i→i.zero=some z→∀ {b:Option Addr} {n cap:Nat} {olds:Array Value},(Builtin.firstCells i.size n (.slice b n cap)).run P w.drew = .ok olds w.drew→cap<n+m→n+m≤cV i.bytes→i.bytes≤65536 →
  (Builtin.append_ #[t,u] ty #[.slice b n cap,vx]).run P w =
   .ok (.slice (some ⟨w.heap.size,0,none⟩) (n+m) (grownCap w (n+m) cap e)) (w.drew.alloc (.cells (olds++news++Builtin.zeroCells z.cells (grownCap w (n+m) cap e - (n+m))) e))
 Yj:∀ (i:TypeInfo),P.info? e=some i→∀ {g o n cap:Nat} {w':World},n+m≤cap→(storeCells ⟨g,o+n*i.size,none⟩ news.toList).run P w = .ok () w' →
  (Builtin.append_ #[t,u] ty #[.slice (some ⟨g,o,none⟩) n cap,vx]).run P w = .ok (.slice (some ⟨g,o,none⟩) (n+m) cap) w'
 none:m=0→∀ (b:Option Addr) (c:Nat),(Builtin.append_ #[t,u] ty #[.slice b 0 c,vx]).run P w = .ok (.slice b 0 c) w
theorem ny.zM {t u ty e:TypeId} {d:TypeDesc} (ht:P.underlying t=some (.slice e)) (hu:P.underlying u=some d) (hd:(∃ k,d = .slice k)∨d = .string) {l:fj} (he:aF P e=some l)
  {vx:Value} {xs:List ah} {news:Array Value} (hx:Src P w M β l.sz vx xs news):ny P w t u ty e xs.length vx news:=by
 obtain ⟨i,_,z,hi,_,hz,fJ,_⟩:=qE he;have pj:∀ w':World,w'.heap=w.heap→(Builtin.firstCells i.size xs.length vx).run P w' = .ok news w':=fun w' hw=>by rw [fJ];exact hx.cells w' hw
 refine ⟨fun i' z' dZ P0 b n cap olds hold h1 h2 h3=>?_,fun i' dZ g o n cap w' h1 h2=>?_,fun h0 b c=>?_⟩
 ·obtain rfl:=aP (dZ.symm.trans hi);obtain rfl:=aP (P0.symm.trans hz);exact Zkc ht hu hd hi hz hx.len (pj w.drew rfl) hold h1 h2 h3
 ·obtain rfl:=aP (dZ.symm.trans hi);exact Zns ht hu hd hi hx.len (pj w rfl) h1 h2
 ·have hl:=hx.len;rw [h0] at hl;have X9:=pj w rfl;rw [h0] at X9;exact Zlw ht hu hd hi hl X9 (by rw [hx.size,h0];simp)
theorem S0 (a b c:Array Value) (p:Nat):(a++b++c).getD p undef=if p<a.size then a.getD p undef else if p<a.size+b.size then b.getD (p - a.size) undef else c.getD (p - (a.size+b.size)) undef:=by
 rw [ak,lO,Array.size_append];by_cases h1:p<a.size
 ·rw [if_pos (by omega),if_pos h1,lO,if_pos h1,ak]
 ·by_cases h2:p<a.size+b.size
  ·rw [if_pos h2,if_neg h1,if_pos h2,lO,if_neg h1,ak]
  ·rw [if_neg h2,if_neg h1,if_neg h2,ak]
theorem uC (a b:List ah) (i:Nat):(a++b).getD i .undef=if i<a.length then a.getD i .undef else b.getD (i - a.length) .undef:=by
 simp only [List.getD,rL];split<;>rfl
theorem L5 {sz n m cap:Nat} {et:TypeId} {z:Value} (hz:z.cells.size=sz) {mR qo:List ah} {olds news:Array Value} (ho:olds.size=mR.length*sz) (hn:news.size=qo.length*sz)
  (h1:∀ i,i<mR.length→(mR.getD i .undef).cells.length=sz) (h2:∀ i,i<qo.length→(qo.getD i .undef).cells.length=sz)
  (ov:∀ i j,i<mR.length→j<sz→cf w M β (olds.getD (i*sz+j) undef) ((mR.getD i .undef).cells.getD j .undef))
  (nP:∀ i j,i<qo.length→j<sz→cf w M β (news.getD (i*sz+j) undef) ((qo.getD i .undef).cells.getD j .undef))
  (e1:mR.length=n) (e2:qo.length=m) (jH:n+m≤cap) {w':World} {M':Nat→Nat→Prop} {β':Env} (hk:dD w M w' M') (hβ:∀ b L,β b=some L→β' b=some L) {g:Nat}
  (hg:w'.heap[g]? = some (.cells (olds++news++Builtin.zeroCells z.cells (cap - (n+m))) et (0,0))) (fz:Nat):gI w' M' β' ⟨g,0,cap,sz⟩ (.row (mR++qo) fz):=by
 subst e1;subst e2;refine ⟨_,et,hg,?_,by simpa using jH,fun i hi=>?_,fun i j hi hj=>?_⟩
 ·simp only [Array.size_append,size_zeroCells,hz,ho,hn,bq,← bQ];rw [show mR.length+qo.length+(cap - (mR.length+qo.length))=cap by omega];exact ae _
 ·simp only [az] at hi;rw [uC];split
  ·exact h1 i (by assumption)
  ·exact h2 _ (by omega)
 ·simp only [az] at hi;simp only [bq] at hj ⊢;rw [uC,S0];by_cases hc:i<mR.length
  ·have:(i+1)*sz≤mR.length*sz:=bf _ hc;rw [bQ,dL] at this;rw [if_pos (by omega),if_pos hc];exact (ov i j hc hj).mono hk hβ
  ·have h3:mR.length*sz≤i*sz:=bf _ (by omega);have h4:(i - mR.length+1)*sz≤qo.length*sz:=bf _ (by omega);rw [bQ,dL,kM] at h4;rw [if_neg (by omega),if_neg hc,if_pos (by omega)];have:=nP (i - mR.length) j (by omega) hj;rw [kM] at this;rw [ho,show i*sz+j - mR.length*sz=i*sz - mR.length*sz+j by omega];exact this.mono hk hβ
theorem cf.sx {v:Value} {b off n sz:Nat} (h:cf w M β v (.os b off n sz)):(n=0∧∃ a L,β b=some L∧L.sz=sz∧v = .slice a 0 0) ∨
  ∃ L cap,β b=some L∧L.sz=sz∧n≤cap∧off+cap≤L.n∧v = .slice (some ⟨L.g,L.o+off*L.sz,none⟩) n cap:=by
 cases h with
 | tU a h=>exact .inl ⟨rfl,a,_,h,rfl,rfl⟩
 | os h1 h2 h3=>exact .inr ⟨_,_,h1,rfl,h2,h3,rfl⟩
theorem cf.one {v:Value} {a:ah} (h:cf w M β v a) (hc:a.cT=true):v.oneCell'=true:=by
 cases h<;>first | rfl | (simp [ah.cT] at hc)
theorem tZ.EK {sz:Nat} {xs:List ah} {news:Array Value} (h:tZ w M β sz xs news) (hc:∀ x∈xs,x.cells.all ah.cT=true):∀ u∈news.toList,u.oneCell'=true:=by
 intro u hu;obtain ⟨p,hp,rfl⟩:=mX hu;simp only [bH] at hp;rw [h.size] at hp;obtain ⟨a1,a2,a3⟩:=UM hp;have h1:=h.rep _ _ a1 a2;rw [a3] at h1;have e1:news.getD p undef=news.toList[p]'(by simpa [h.size] using hp):=by
  have:p<news.size:=by rw [h.size];exact hp
  simp [Array.getD,this]
 rw [e1] at h1;refine h1.one ?_;have h2:=hc (xs.getD (p / sz) .undef) (by simp only [List.getD,av a1,bx];exact aC a1);have h3:=h.one _ a1;rw [a8] at h2;have h4:p % sz<(xs.getD (p / sz) .undef).cells.length:=by omega
 have e2:(xs.getD (p / sz) .undef).cells.getD (p % sz) .undef=(xs.getD (p / sz) .undef).cells[p % sz]:=by
  rw [cq,av h4];rfl
 rw [e2];exact h2 _ (aC h4)
theorem Yb2 (hr:cS X base σ β w) (hn : β nm=none) (BD:bP σ nm=none) {t u et:TypeId} {e:fj} (he:aF P et=some e) {vs vx:Value} {s:ah} {xs:List ah} {news:Array Value} (hs:cf w (MT X σ β) β vs s) (hx:tZ w (MT X σ β) β e.sz xs news)
  {r:ah} {σ':ai} (h:mH σ nm e s xs=some (r,σ')) (ty:TypeId) (ha:ny P w t u ty et xs.length vx news) {S:Sem Next} (hS:S=(do pure (.value (← Builtin.append_ #[t,u] ty #[vs,vx])))):c8 P X base σ β w nm S r σ':=by
 obtain ⟨i,_,z,hi,_,hz,fJ,_,BA,_,_,_,Ez⟩:=qE he;unfold mH at h;split at h
 case isFalse=>cases h
 rename_i hc;obtain ⟨sO,lJ,BB⟩:=hc;have mo:∀ M':Nat→Nat→Prop,True:=fun _=>trivial;split at h
 ·split at h
  ·rename_i h0;cases h;cases hs with
   | aW a =>
    refine c8.val hr (v:=.slice a 0 0) ?_ (.aW a);rw [hS,Sem.run_bind,ha.none h0];rfl
  ·rename_i h0;split at h
   ·rename_i hb;cases h;cases hs with
    | aW a =>
     have rB:=grownCap_ge w (0+xs.length) 0 et;have hold:(Builtin.firstCells i.size 0 (.slice a 0 0)).run P w.drew = .ok #[] w.drew:=by cases a<;>simp [Builtin.firstCells,loadCells,loadCellsFrom]
     have ft:=ha.grow i z hi hz hold (by omega) (by first | (rw [← BA];omega) | (rw [BA];omega)) (by omega)
     rw [bq] at ft rB;refine Ai hr hn (.row xs 0) (grownCap w xs.length 0 et) e.sz (w':=w.drew.alloc (.cells (#[]++news++Builtin.zeroCells z.cells (grownCap w xs.length 0 et - xs.length)) et)) rfl rfl rfl rfl (by rw [hS,Sem.run_bind,ft];rfl) ?_ ?_
     ·intro M' β' hk hβ;have:=L5 (w:=w) (M:=MT X σ β) (β:=β) (n:=0) (m:=xs.length) (cap:=grownCap w xs.length 0 et) (et:=et) (z:=z) Ez (mR:=[]) (qo:=xs) (olds:=#[]) (news:=news) (by simp) hx.size (fun i hi=>by simp at hi) hx.one (fun i j hi=>by simp at hi) hx.rep rfl rfl (by omega) hk hβ (g:=w.heap.size) (by
       rw [bq];exact yK w.drew _) 0
      simpa using this
     ·intro M';have:=cf.os (w:=w.drew.alloc (.cells (#[]++news++Builtin.zeroCells z.cells (grownCap w xs.length 0 et - xs.length)) et)) (M:=M') (β:=pQ β nm ⟨w.heap.size,0,grownCap w xs.length 0 et,e.sz⟩) (b:=nm) (off:=0) (len:=xs.length) (cap:=grownCap w xs.length 0 et) (L:=⟨w.heap.size,0,grownCap w xs.length 0 et,e.sz⟩) (uR _ _ _) rB (by simp);simpa using this
   ·cases h
 ·rename_i b off n sz;split at h
  ·rename_i es fz hb;split at h
   ·rename_i ly;obtain ⟨rfl,hcf,OD,hcn⟩:=ly;cases h;obtain ⟨L,h1,vn,hX,c,ec,h2,h3,h4,h5,h6⟩:=hr.cw b _ (kq hb);have hlen:((es.drop off).take n).length=n:=by simp;omega
    have eJ:∀ k,k<n→((es.drop off).take n).getD k ah.undef=es.getD (off+k) .undef:=fun k hk=>by
     simp [List.getD,hk,eo]
    have mP:b≠nm:=by rintro rfl;rw [hb] at BD;cases BD
    have xc : σ[b]? = some (some (.row es fz)):=kq hb;have Oz:b < σ.length:=(aJ.1 xc).1;have jB:∀ c' x,c'≠nm→(cr (σ.set b none) nm (.row ((es.drop off).take n++xs) (fz - off)))[c']? = some (some x)→σ[c']? = some (some x)∧c'≠b:=by
     intro c' x r6 tK;have:=A1 _ _ _ r6 tK;by_cases e1:c'=b
     ·subst e1;simp [Oz] at this
     ·rw [bX (gQ e1)] at this;exact ⟨this,e1⟩
    have zj : σ.length≤(cr (σ.set b none) nm (.row ((es.drop off).take n++xs) (fz - off))).length:=by
     have:=Cc (σ.set b none) nm (.row ((es.drop off).take n++xs) (fz - off));simpa using this
    have grow:∀ (a:Option Addr) (cap:Nat) (olds:Array Value),vs = .slice a n cap→cap<n+xs.length→(∀ w':World,w'.heap=w.heap→(Builtin.firstCells i.size n (.slice a n cap)).run P w' = .ok olds w') →
      olds.size=n*e.sz→(∀ k j,k<n→j<e.sz→cf w (MT X σ β) β (olds.getD (k*e.sz+j) undef) ((es.getD (off+k) .undef).cells.getD j .undef))→(∀ k,k<n→(es.getD (off+k) .undef).cells.length=e.sz) →
      c8 P X base σ β w nm S (.os nm 0 (n+xs.length) e.sz) (cr (σ.set b none) nm (.row ((es.drop off).take n++xs) (fz - off))):=by
     intro a cap olds mQ bA hold zp zo re;have rB:=grownCap_ge w (n+xs.length) cap et;have ft:=ha.grow i z hi hz (hold w.drew rfl) bA (by first | (rw [← BA];omega) | (rw [BA];omega)) (by omega)
     obtain ⟨k1,k2,k3,k4⟩:=Fh hr nm ⟨w.heap.size,0,grownCap w (n+xs.length) cap et,e.sz⟩ (.row ((es.drop off).take n++xs) (fz - off)) (σ':=cr (σ.set b none) nm (.row ((es.drop off).take n++xs) (fz - off)))
      (β':=pQ β nm ⟨w.heap.size,0,grownCap w (n+xs.length) cap et,e.sz⟩) (w':=w.drew.alloc (.cells (olds++news++Builtin.zeroCells z.cells (grownCap w (n+xs.length) cap et - (n+xs.length))) et))
      (E1 _ _ _) (fun c' x r6 tK=>⟨(jB c' x r6 tK).1,fun Lc hL=>by have:=GZ hr (jB c' x r6 tK).1 hL;simp only;omega⟩) zj (uR _ _ _) (fun c' r6=>De _ _ _ r6) (.inl hn)
      rfl rfl rfl (by simp) (fun g hg _=>heap_alloc_old w.drew _ g hg) (fun yf v r6 _=>absurd (yP r6) (by simp)) (fun h=>absurd h (by simp)) (fun yf _=>.inr (ae _)) (fun o' tK=>absurd (hr.qL _ _ tK) (by simp)) hr.size
     refine ⟨_,_,_, .inl (by rw [hS,mQ,Sem.run_bind,ft];rfl),k4 (L5 (w:=w) (M:=MT X σ β) (β:=β) (z:=z) Ez (mR:=(es.drop off).take n) (qo:=xs) (olds:=olds) (news:=news) (by rw [hlen];exact zp) hx.size ?_ hx.one ?_ hx.rep hlen rfl rB k2 k3 (yK w.drew _) _),?_,k1,fun b' nN=>De _ _ _ nN,k3⟩
     ·intro k hk;rw [hlen] at hk;rw [eJ k hk];exact re k hk
     ·intro k j hk hj;rw [hlen] at hk;rw [eJ k hk];exact zo k j hk hj
     ·have:=cf.os (w:=w.drew.alloc (.cells (olds++news++Builtin.zeroCells z.cells (grownCap w (n+xs.length) cap et - (n+xs.length))) et)) (M:=MT X (cr (σ.set b none) nm (.row ((es.drop off).take n++xs) (fz - off))) (pQ β nm ⟨w.heap.size,0,grownCap w (n+xs.length) cap et,e.sz⟩)) (β:=pQ β nm ⟨w.heap.size,0,grownCap w (n+xs.length) cap et,e.sz⟩) (b:=nm) (off:=0) (len:=n+xs.length) (cap:=grownCap w (n+xs.length) cap et) (L:=⟨w.heap.size,0,grownCap w (n+xs.length) cap et,e.sz⟩) (uR _ _ _) rB (by simp);simpa using this
    have stay:∀ (a:Option Addr) (cap:Nat) (w':World),vs = .slice a n cap→L.sz=e.sz→off+(n+xs.length)≤L.n →
      (Builtin.append_ #[t,u] ty #[vs,vx]).run P w = .ok (.slice a (n+xs.length) cap) w'→w'=w.setRow L.g (c.toList.take (L.o+off*L.sz+n*L.sz)++news.toList++c.toList.drop (L.o+off*L.sz+n*L.sz+news.toList.length)).toArray →
      (∀ w1 M1,cf w1 M1 (pQ β nm ⟨L.g,L.o+off*L.sz,L.n - off,L.sz⟩) (.slice a (n+xs.length) cap) (.os nm 0 (n+xs.length) e.sz)) →
      c8 P X base σ β w nm S (.os nm 0 (n+xs.length) e.sz) (cr (σ.set b none) nm (.row ((es.drop off).take n++xs) (fz - off))):=by
     intro a cap w' mQ jT vq ft yc ha;subst yc;have xg:(off+n+xs.length)*L.sz≤L.n*L.sz:=bf _ (by omega);rw [bQ,bQ] at xg;have BP:news.size=xs.length*L.sz:=by rw [hx.size,jT]
     have pK:L.o+off*L.sz+n*L.sz+news.toList.length≤c.size:=by simp only [bH];omega
     obtain ⟨f1,f2,f3,f4,f5,f6⟩:=IJ w (c':=(c.toList.take (L.o+off*L.sz+n*L.sz)++news.toList++c.toList.drop (L.o+off*L.sz+n*L.sz+news.toList.length)).toArray) h2;have ot:∀ o',L.o+fz*L.sz≤o'→jr σ β L.g o':=fun o' Kw=>⟨b,_,L,xc,h1,rfl,Kw⟩;have HF:fz*L.sz≤(off+n)*L.sz:=bf _ hcf;rw [bQ] at HF;obtain ⟨k1,k2,k3,k4⟩:=Fh hr nm ⟨L.g,L.o+off*L.sz,L.n - off,L.sz⟩ (.row ((es.drop off).take n++xs) (fz - off)) (σ':=cr (σ.set b none) nm (.row ((es.drop off).take n++xs) (fz - off)))
      (β':=pQ β nm ⟨L.g,L.o+off*L.sz,L.n - off,L.sz⟩) (w':=w.setRow L.g (c.toList.take (L.o+off*L.sz+n*L.sz)++news.toList++c.toList.drop (L.o+off*L.sz+n*L.sz+news.toList.length)).toArray)
      (E1 _ _ _) (fun c' x r6 tK=>⟨(jB c' x r6 tK).1,fun Lc hL uI=>(jB c' x r6 tK).2 (hr.inj c' b x _ Lc L (jB c' x r6 tK).1 xc hL h1 uI)⟩) zj (uR _ _ _) (fun c' r6=>De _ _ _ r6) (.inl hn)
      f1 f2 f3 (pY f4.symm) (fun g _ hg=>f5 g hg)
      (fun yf v ig uj=>by
       have aU:yf<L.o+fz*L.sz:=jU fun hle=>uj (ot yf hle);rw [cell_of_row _ _ _ _ _ _ f6];simp only at ig;rw [cell_of_row _ _ _ _ _ _ h2] at ig;obtain ⟨bA,hv⟩:=aO.1 ig;rw [uO (by rw [C9 _ _ _ pK];exact bA),C_ _ _ _ pK,if_neg (by omega),← uO bA];exact ig)
      (fun _ uj=>absurd (ot _ (ae _)) (uj _))
      (fun yf hm=>.inl (ot yf (by
       simp only [bO.mut,kM] at hm;omega))) hX vn
     refine ⟨_,_,_, .inl (by rw [hS,Sem.run_bind,ft];rfl),k4 ⟨_,ec,f6,?_,?_,fun k hk=>?_,fun k j hk hj=>?_⟩,?_,k1,fun b' nN=>De _ _ _ nN,k3⟩
     ·rw [C9 _ _ _ pK];simp only
      rw [kM];have:off*L.sz≤L.n*L.sz:=bf _ (by omega);omega
     ·simp only [az,hlen];omega
     ·simp only [az,hlen] at hk;rw [uC,hlen];split
      ·rw [eJ k (by assumption)];exact h5 _ (by omega)
      ·simp only;rw [jT];exact hx.one _ (by omega)
     ·simp only [az,hlen] at hk;simp only at hj ⊢;rw [uC,hlen,C_ _ _ _ pK];simp only [bH];by_cases BH:k<n
      ·have h7:(k+1)*L.sz≤n*L.sz:=bf _ BH;rw [bQ,dL] at h7;rw [if_neg (by omega),if_pos BH,eJ k BH];have:=h6 (off+k) j (by omega) hj;rw [bQ] at this;rw [show L.o+off*L.sz+k*L.sz+j=L.o+(off*L.sz+k*L.sz)+j by omega];exact this.mono k2 k3
      ·have h7:n*L.sz≤k*L.sz:=bf _ (by omega);have h8:(k - n+1)*L.sz≤xs.length*L.sz:=bf _ (by omega);rw [bQ,dL,kM] at h8;rw [if_pos (by omega),if_neg BH];have:=hx.rep (k - n) j (by omega) (by omega);rw [show news.toList.getD (L.o+off*L.sz+k*L.sz+j - (L.o+off*L.sz+n*L.sz)) undef=news.getD (L.o+off*L.sz+k*L.sz+j - (L.o+off*L.sz+n*L.sz)) undef by simp [List.getD,ak]];rw [← jT,kM] at this;rw [show L.o+off*L.sz+k*L.sz+j - (L.o+off*L.sz+n*L.sz)=k*L.sz - n*L.sz+j by omega];exact this.mono k2 k3
     ·exact ha _ _
    rcases hs.sx with ⟨rfl,a,L0,vZ,jT,rfl⟩ | ⟨L',cap,hL,jT,hl,Hu,rfl⟩
    ·by_cases h0:xs.length=0
     ·have Ew:xs=[]:=bg h0;have yz:news = #[]:=lX (by rw [hx.size,h0,pZ]);obtain rfl:=aP (h1.symm.trans vZ)
      ·refine stay a 0 w rfl jT (by omega) ?_ ?_ fun w1 M1=>?_
       ·rw [h0];exact ha.none h0 a 0
       ·subst yz;simp only [bu,aS,cC,List.take_append_drop,rG];exact (setRow_self w L.g c ec (0,0) h2).symm
       ·rw [h0,← jT];exact .tU (L:=⟨L.g,L.o+off*L.sz,L.n - off,L.sz⟩) a (uR _ _ _)
     ·refine grow a 0 #[] rfl (by omega) (fun w' _=>by cases a<;>simp [Builtin.firstCells,loadCells,loadCellsFrom]) (by simp) (fun k j hk=>by omega) (fun k hk=>by omega)
    ·obtain rfl:=aP (h1.symm.trans hL);by_cases tJ:n+xs.length≤cap
     ·have xg:(off+n+xs.length)*L.sz≤L.n*L.sz:=bf _ (by omega);rw [bQ,bQ] at xg;have BP:=hx.size;rw [← jT] at BP;have re:∀ v∈news.toList,v.oneCell'=true:=hx.EK fun x tK=>by
       have:=a8.1 sO x tK;simp only [aB] at this;exact this.2
      have gx:=run_storeCells_at P L.g (L.o+off*L.sz+n*L.sz) ec news.toList 0 c w h2 (by simp only [cC,bH];omega) re;simp only [cC] at gx;refine stay _ cap _ rfl jT (by omega) (ha.Yj i hi tJ (by rw [fJ,← jT];exact gx)) rfl fun w1 M1=>?_;have:=cf.os (w:=w1) (M:=M1) (β:=pQ β nm ⟨L.g,L.o+off*L.sz,L.n - off,L.sz⟩) (b:=nm) (off:=0) (len:=n+xs.length) (cap:=cap) (L:=⟨L.g,L.o+off*L.sz,L.n - off,L.sz⟩) (uR _ _ _) tJ (by simp only;omega);simp only [pZ,cC] at this;rw [← jT];exact this
     ·obtain ⟨olds,oA⟩:=I8 (P:=P) hr (sz:=L.sz) (v:=.slice (some ⟨L.g,L.o+off*L.sz,none⟩) n cap) (x:=.os b off n L.sz) (xs:=(es.drop off).take n) (.os h1 hl Hu) (by simp [fp,hb,OD]);have aoY:=jT;refine grow _ cap olds rfl (by omega) (fun w' yc=>?_) ?_ (fun k j hk hj=>?_) (fun k hk=>by rw [← jT];exact h5 _ (by omega))
      ·have:=oA.cells w' yc;rw [hlen] at this;rw [fJ,← jT];exact this
      ·have:=oA.size;rw [hlen] at this;rw [← jT];exact this
      ·have:=oA.rep k j (by omega) (by omega);rw [eJ k hk] at this;rw [← jT];exact this
   ·cases h
  ·cases h
 ·cases h
end
end Go.dm
