/- Part 7 of my own framework and of the walks of functions: AbsJ. -/
import Derived.Test.YtfjbdamcmiglgaaGreatOwn6
import Derived.Deep.DeepAppendWide
abbrev lP:=@Array.eq_empty_of_size_eq_zero
abbrev lC:=@Array.getElem?_append
abbrev ez:=@Array.getElem?_map
abbrev bq:=@List.append_nil
abbrev aY:=@List.eq_nil_of_length_eq_zero
abbrev qJ:=@List.getElem?_append
abbrev jJ:=@Nat.lt_of_not_le
abbrev kx:=@Nat.sub_mul
abbrev pD:=@Nat.zero_mul
set_option linter.unusedVariables false
set_option linter.unusedSectionVars false
set_option linter.unusedSimpArgs false
namespace Go.c8
open Go
section
variable {P:Program} {X:Nat→Nat→Prop} {base:Nat} {σ:ai} {β:Env} {w:World} {nm:Nat} {M:Nat→Nat→Prop}
structure Src (P:Program) (w:World) (M:Nat→Nat→Prop) (β:Env) (sz:Nat) (v:Value) (xs:List ae) (news:Array Value):Prop where
 len:(Builtin.lenOf v).run P w = .ok xs.length w
 cells:∀ w':World,w'.heap=w.heap→(Builtin.firstCells sz xs.length v).run P w' = .ok news w'
 size:news.size=xs.length*sz
 one:∀ i,i<xs.length→(xs.getD i .undef).cells.length=sz
 rep:∀ i j,i<xs.length→j<sz→bS w M β (news.getD (i*sz+j) undef) ((xs.getD i .undef).cells.getD j .undef)
structure sN (w:World) (M:Nat→Nat→Prop) (β:Env) (sz:Nat) (xs:List ae) (news:Array Value):Prop where
 size:news.size=xs.length*sz
 one:∀ i,i<xs.length→(xs.getD i .undef).cells.length=sz
 rep:∀ i j,i<xs.length→j<sz→bS w M β (news.getD (i*sz+j) undef) ((xs.getD i .undef).cells.getD j .undef)
theorem Src.OC {sz:Nat} {v:Value} {xs:List ae} {news:Array Value} (h:Src P w M β sz v xs news):sN w M β sz xs news:=⟨h.size,h.one,h.rep⟩
theorem Jg {i j sz:Nat} (h:j<sz):(i*sz+j) / sz=i∧(i*sz+j) % sz=j:=by
 have h0 : 0<sz:=by omega
 constructor
 ·rw [Nat.mul_comm,Nat.mul_add_div h0,Nat.div_eq_of_lt h];omega
 ·rw [Nat.mul_comm,Nat.mul_add_mod,Nat.mod_eq_of_lt h]
theorem SB {n sz k:Nat} (h:k<n*sz):k / sz<n∧k % sz<sz∧k / sz*sz+k % sz=k:=by
 have h0 : 0<sz:=by
  rcases Nat.eq_zero_or_pos sz with e | e
  ·subst e;simp at h
  ·exact e
 exact ⟨Nat.div_lt_of_lt_mul (by rwa [Nat.mul_comm]),Nat.mod_lt _ h0,by rw [Nat.mul_comm];exact Nat.div_add_mod k sz⟩
theorem Ka {g o cap sz:Nat} {xs:List ae} {cv:Nat→Nat→Value} (h1:∀ i,i<xs.length→(xs.getD i .undef).cells.length=sz)
  (hc:∀ i j,i<xs.length→j<sz→w.cell? ⟨g,o+i*sz+j,none⟩=some (cv i j)) (hr:∀ i j,i<xs.length→j<sz→bS w M β (cv i j) ((xs.getD i .undef).cells.getD j .undef)) :
  ∃ news,Src P w M β sz (.slice (some ⟨g,o,none⟩) xs.length cap) xs news:=by
 have hl:=fun (w':World) (hw:w'.heap=w.heap)=>run_loadCells (P:=P) w' ⟨g,o,none⟩ (xs.length*sz) (fun k=>cv (k / sz) (k % sz)) (fun k hk=>by
  obtain ⟨a1,a2,a3⟩:=SB hk
  have:=hc _ _ a1 a2
  rw [Addr.add_lit,World.cell?_of_block (w:=w) (by rw [hw])]
  rwa [fw,a3] at this)
 refine ⟨_,rfl,hl,by simp,h1,fun i j hi hj=>?_⟩
 have bG:i*sz+j<xs.length*sz:=by
  have:(i+1)*sz≤xs.length*sz:=aX _ hi
  rw [bI,dx] at this;omega
 rw [QQ _ _ _ _ bG,(Jg hj).1,(Jg hj).2]
 exact hr i j hi hj
theorem HX (hr:cH X base σ β w) {sz:Nat} {v:Value} {x:ae} {xs:List ae} (hv:bS w (MT X σ β) β v x) (h:eR σ sz x=some xs):∃ news,Src P w (MT X σ β) β sz v xs news:=by
 unfold eR at h
 split at h
 ·rename_i s es
  split at h
  ·rename_i e;subst e
   cases h
   cases hv with
   | @ps a cap _ _ cv jr fH hc ha NV =>
    by_cases h0 : 0<xs.length
    ·obtain ⟨g,o,rfl⟩:=ha h0
     exact Ka fH (fun i j hi hj=>by
      obtain ⟨g',o',e1,e2,_⟩:=hc i j hi hj
      simp only [aG,Addr.mk.injEq,and_true] at e1
      obtain ⟨rfl,rfl⟩:=e1
      exact e2) NV
    ·have MC:xs=[]:=aY (by omega)
     subst MC
     refine ⟨#[],rfl,?_,by simp,fun i hi=>by simp at hi,fun i j hi=>by simp at hi⟩
     cases a<;>intro _ _<;>simp [Builtin.firstCells,loadCells,loadCellsFrom]
  ·cases h
 ·cases h
  cases hv with
  | aU a =>
   refine ⟨#[],rfl,?_,by simp,fun i hi=>by simp at hi,fun i j hi=>by simp at hi⟩
   cases a<;>intro _ _<;>simp [Builtin.firstCells,loadCells,loadCellsFrom]
 ·rename_i b off n s
  split at h
  ·rename_i e;subst e
   split at h
   ·rename_i es fz hb
    split at h
    ·rename_i hle
     cases h
     obtain ⟨L,h1,_,_,c,e,h2,h3,h4,h5,h6⟩:=hr.cg b _ (j_ hb)
     have hlen:((es.drop off).take n).length=n:=by simp;omega
     have eL:∀ k,k<n→((es.drop off).take n).getD k ae.undef=es.getD (off+k) .undef:=fun k hk=>by
      simp [List.getD,hk,dM]
     cases hv with
     | sJ a zu =>
      refine ⟨#[],by rw [hlen];rfl,?_,by simp,fun i hi=>by simp at hi,fun i j hi=>by simp at hi⟩
      rw [hlen]
      cases a<;>intro _ _<;>simp [Builtin.firstCells,loadCells,loadCellsFrom]
     | @os _ _ _ cap L' hL hl hc =>
      obtain rfl:=aN (h1.symm.trans hL)
      have key:=Ka (P:=P) (w:=w) (M:=MT X σ β) (β:=β) (g:=L.g) (o:=L.o+off*L.sz) (cap:=cap) (sz:=L.sz) (xs:=(es.drop off).take n) (cv:=fun i j=>c.getD (L.o+(off+i)*L.sz+j) undef)
       (fun i hi=>by rw [eL i (by omega)];exact h5 _ (by omega))
       (fun i j hi hj=>by
        rw [hlen] at hi
        have h7:(off+i+1)*L.sz≤L.n*L.sz:=aX _ (by omega)
        rw [bI,dx] at h7
        rw [cell_of_row w L.g _ c e (0,0) h2,show L.o+off*L.sz+i*L.sz+j=L.o+(off+i)*L.sz+j by rw [bI];omega,tM (by omega)])
       (fun i j hi hj=>by
        rw [hlen] at hi
        rw [eL i hi];exact h6 (off+i) j (by omega) hj)
      rw [hlen] at key
      exact key
    ·cases h
   ·cases h
  ·cases h
 ·rename_i b off n c0 s
  split at h
  ·rename_i e;subst e
   split at h
   ·rename_i es fz hb
    split at h
    ·rename_i hle
     cases h
     obtain ⟨L,h1,_,_,c,e,h2,h3,h4,h5,h6⟩:=hr.cg b _ (j_ hb)
     have hlen:((es.drop off).take n).length=n:=by simp;omega
     have eL:∀ k,k<n→((es.drop off).take n).getD k ae.undef=es.getD (off+k) .undef:=fun k hk=>by
      simp [List.getD,hk,dM]
     cases hv with
     | sI a zu =>
      refine ⟨#[],by rw [hlen];rfl,?_,by simp,fun i hi=>by simp at hi,fun i j hi=>by simp at hi⟩
      rw [hlen]
      cases a<;>intro _ _<;>simp [Builtin.firstCells,loadCells,loadCellsFrom]
     | @oc _ _ _ _ L' hL hl hc =>
      obtain rfl:=aN (h1.symm.trans hL)
      have key:=Ka (P:=P) (w:=w) (M:=MT X σ β) (β:=β) (g:=L.g) (o:=L.o+off*L.sz) (cap:=c0) (sz:=L.sz) (xs:=(es.drop off).take n) (cv:=fun i j=>c.getD (L.o+(off+i)*L.sz+j) undef)
       (fun i hi=>by rw [eL i (by omega)];exact h5 _ (by omega))
       (fun i j hi hj=>by
        rw [hlen] at hi
        have h7:(off+i+1)*L.sz≤L.n*L.sz:=aX _ (by omega)
        rw [bI,dx] at h7
        rw [cell_of_row w L.g _ c e (0,0) h2,show L.o+off*L.sz+i*L.sz+j=L.o+(off+i)*L.sz+j by rw [bI];omega,tM (by omega)])
       (fun i j hi hj=>by
        rw [hlen] at hi
        rw [eL i hi];exact h6 (off+i) j (by omega) hj)
      rw [hlen] at key
      exact key
    ·cases h
   ·cases h
  ·cases h
 ·cases h
theorem Ygs {s:ByteArray}:Src P w M β 1 (.string s) (bytesOf s) (s.data.map fun b=>.int .u8 b.toNat):=by
 have hl:(bytesOf s).length=s.size:=by simp [bytesOf]
 refine ⟨by rw [hl];rfl,?_,by rw [hl];simp,fun i hi=>?_,fun i j hi hj=>?_⟩
 ·rw [hl]
  have:s.extract 0 s.size=s:=by
   apply ByteArray.ext
   rw [ByteArray.data_extract]
   exact Array.extract_eq_self_of_le (ah _)
  intro w' _
  simp only [Builtin.firstCells,this]
  rfl
 ·rw [hl] at hi
  have:(bytesOf s).getD i .undef = .int .u8 (s.data[i]'hi).toNat:=by
   have dV:i<s.data.size:=hi
   simp [bytesOf,List.getD,aD dV]
  rw [this];rfl
 ·rw [hl] at hi
  obtain rfl:j=0:=by omega
  have dV:i<s.data.size:=hi
  have e1:(bytesOf s).getD i .undef = .int .u8 (s.data[i]'hi).toNat:=by simp [bytesOf,List.getD,aD dV]
  have e2:(s.data.map fun b=>Value.int .u8 b.toNat).getD (i*1+0) undef = .int .u8 (s.data[i]'hi).toNat:=by
   rw [aj,ez,Nat.mul_one,ck,aD dV];rfl
  rw [e1,e2]
  exact .int _ _
theorem Zjs {t u ty e:TypeId} {i:TypeInfo} {z:Value} {d:TypeDesc} (ht:P.underlying t=some (.slice e)) (hu:P.underlying u=some d) (hd:(∃ k,d = .slice k)∨d = .string) (hi:P.info? e=some i) (hz:i.zero=some z)
  {b:Option Addr} {n cap m:Nat} {vx:Value} {olds news:Array Value} (hlen:(Builtin.lenOf vx).run P w = .ok m w) (oI:(Builtin.firstCells i.size m vx).run P w.drew = .ok news w.drew)
  (hold:(Builtin.firstCells i.size n (.slice b n cap)).run P w.drew = .ok olds w.drew) (hg:cap<n+m) (qS:n+m≤cL i.bytes) (uZ:i.bytes≤65536) :
  (Builtin.append_ #[t,u] ty #[.slice b n cap,vx]).run P w =
   .ok (.slice (some ⟨w.heap.size,0,none⟩) (n+m) (grownCap w (n+m) cap e)) (w.drew.alloc (.cells (olds++news++Builtin.zeroCells z.cells (grownCap w (n+m) cap e - (n+m))) e)):=by
 have h1:¬ n+m≤cap:=by omega
 have JB:=Ue i.bytes
 have h2:¬ (((n+m:Nat):Int) > IntKind.i64.max):=by
  have:IntKind.i64.max=9223372036854775807:=by decide
  rw [this];omega
 have uY:¬ ((n:Int)+(m:Int) > IntKind.i64.max):=by
  have:IntKind.i64.max=9223372036854775807:=by decide
  rw [this];omega
 have h4:¬ (9223372036854775807<(n:Int)+(m:Int)∧i.bytes=0):=by omega
 have h3:¬ (Builtin.nextslicecap (n+m) cap*i.bytes > 2 ^ 48):=by
  have:=growslice_fits_wide (old:=cap) hg (SA qS uZ)
  omega
 rcases hd with ⟨k,rfl⟩ | rfl
 ·simp [Builtin.append_,run_underlying ht,run_underlying hu,sizeOf,typeInfo,zeroValue,hi,hz,hlen,h1,uY,h3,h4,Question.forced,hold,oI,newRow,grownCap]
 ·simp [Builtin.append_,run_underlying ht,run_underlying hu,sizeOf,typeInfo,zeroValue,hi,hz,hlen,h1,uY,h3,h4,Question.forced,hold,oI,newRow,grownCap]
theorem Zmz {t u ty e:TypeId} {i:TypeInfo} {d:TypeDesc} (ht:P.underlying t=some (.slice e)) (hu:P.underlying u=some d) (hd:(∃ k,d = .slice k)∨d = .string) (hi:P.info? e=some i)
  {g o n cap m:Nat} {vx:Value} {news:Array Value} (hlen:(Builtin.lenOf vx).run P w = .ok m w) (oI:(Builtin.firstCells i.size m vx).run P w = .ok news w) (hg:n+m≤cap) {w':World}
  (fT:(storeCells ⟨g,o+n*i.size,none⟩ news.toList).run P w = .ok () w') :
  (Builtin.append_ #[t,u] ty #[.slice (some ⟨g,o,none⟩) n cap,vx]).run P w = .ok (.slice (some ⟨g,o,none⟩) (n+m) cap) w':=by
 rcases hd with ⟨k,rfl⟩ | rfl<;>simp [Builtin.append_,run_underlying ht,run_underlying hu,sizeOf,typeInfo,hi,hlen,hg,oI,Addr.add_lit,fT]
theorem Zl8 {t u ty e:TypeId} {i:TypeInfo} {d:TypeDesc} (ht:P.underlying t=some (.slice e)) (hu:P.underlying u=some d) (hd:(∃ k,d = .slice k)∨d = .string) (hi:P.info? e=some i)
  {b:Option Addr} {c:Nat} {vx:Value} {news:Array Value} (hlen:(Builtin.lenOf vx).run P w = .ok 0 w) (oI:(Builtin.firstCells i.size 0 vx).run P w = .ok news w) (zE:news.size=0) :
  (Builtin.append_ #[t,u] ty #[.slice b 0 c,vx]).run P w = .ok (.slice b 0 c) w:=by
 have:news = #[]:=lP zE
 subst this
 rcases hd with ⟨k,rfl⟩ | rfl<;>cases b<;>simp [Builtin.append_,run_underlying ht,run_underlying hu,sizeOf,typeInfo,hi,hlen,oI,storeCells]
structure mX (P:Program) (w:World) (t u ty e:TypeId) (m:Nat) (vx:Value) (news:Array Value):Prop where
 grow:∀ (i:TypeInfo) (z:Value),P.info? e=some i→i.zero=some z→∀ {b:Option Addr} {n cap:Nat} {olds:Array Value},(Builtin.firstCells i.size n (.slice b n cap)).run P w.drew = .ok olds w.drew→cap<n+m→n+m≤cL i.bytes→i.bytes≤65536 →
  (Builtin.append_ #[t,u] ty #[.slice b n cap,vx]).run P w =
   .ok (.slice (some ⟨w.heap.size,0,none⟩) (n+m) (grownCap w (n+m) cap e)) (w.drew.alloc (.cells (olds++news++Builtin.zeroCells z.cells (grownCap w (n+m) cap e - (n+m))) e))
 WY:∀ (i:TypeInfo),P.info? e=some i→∀ {g o n cap:Nat} {w':World},n+m≤cap→(storeCells ⟨g,o+n*i.size,none⟩ news.toList).run P w = .ok () w' →
  (Builtin.append_ #[t,u] ty #[.slice (some ⟨g,o,none⟩) n cap,vx]).run P w = .ok (.slice (some ⟨g,o,none⟩) (n+m) cap) w'
 none:m=0→∀ (b:Option Addr) (c:Nat),(Builtin.append_ #[t,u] ty #[.slice b 0 c,vx]).run P w = .ok (.slice b 0 c) w
theorem mX.yX {t u ty e:TypeId} {d:TypeDesc} (ht:P.underlying t=some (.slice e)) (hu:P.underlying u=some d) (hd:(∃ k,d = .slice k)∨d = .string) {l:eM} (he:aF P e=some l)
  {vx:Value} {xs:List ae} {news:Array Value} (hx:Src P w M β l.sz vx xs news):mX P w t u ty e xs.length vx news:=by
 obtain ⟨i,_,z,hi,_,hz,fH,_⟩:=p6 he
 have oI:∀ w':World,w'.heap=w.heap→(Builtin.firstCells i.size xs.length vx).run P w' = .ok news w':=fun w' hw=>by rw [fH];exact hx.cells w' hw
 refine ⟨fun i' z' dV Od b n cap olds hold h1 h2 h3=>?_,fun i' dV g o n cap w' h1 h2=>?_,fun h0 b c=>?_⟩
 ·obtain rfl:=aN (dV.symm.trans hi)
  obtain rfl:=aN (Od.symm.trans hz)
  exact Zjs ht hu hd hi hz hx.len (oI w.drew rfl) hold h1 h2 h3
 ·obtain rfl:=aN (dV.symm.trans hi)
  exact Zmz ht hu hd hi hx.len (oI w rfl) h1 h2
 ·have hl:=hx.len;rw [h0] at hl
  have WK:=oI w rfl;rw [h0] at WK
  exact Zl8 ht hu hd hi hl WK (by rw [hx.size,h0];simp)
theorem Rf (a b c:Array Value) (p:Nat):(a++b++c).getD p undef=if p<a.size then a.getD p undef else if p<a.size+b.size then b.getD (p - a.size) undef else c.getD (p - (a.size+b.size)) undef:=by
 rw [aj,lC,Array.size_append]
 by_cases h1:p<a.size
 ·rw [if_pos (by omega),if_pos h1,lC,if_pos h1,aj]
 ·by_cases h2:p<a.size+b.size
  ·rw [if_pos h2,if_neg h1,if_pos h2,lC,if_neg h1,aj]
  ·rw [if_neg h2,if_neg h1,if_neg h2,aj]
theorem tz (a b:List ae) (i:Nat):(a++b).getD i .undef=if i<a.length then a.getD i .undef else b.getD (i - a.length) .undef:=by
 simp only [List.getD,qJ]
 split<;>rfl
theorem KV {sz n m cap:Nat} {et:TypeId} {z:Value} (hz:z.cells.size=sz) {mC pW:List ae} {olds news:Array Value} (ho:olds.size=mC.length*sz) (hn:news.size=pW.length*sz)
  (h1:∀ i,i<mC.length→(mC.getD i .undef).cells.length=sz) (h2:∀ i,i<pW.length→(pW.getD i .undef).cells.length=sz)
  (oJ:∀ i j,i<mC.length→j<sz→bS w M β (olds.getD (i*sz+j) undef) ((mC.getD i .undef).cells.getD j .undef))
  (nS:∀ i j,i<pW.length→j<sz→bS w M β (news.getD (i*sz+j) undef) ((pW.getD i .undef).cells.getD j .undef))
  (e1:mC.length=n) (e2:pW.length=m) (jr:n+m≤cap) {w':World} {M':Nat→Nat→Prop} {β':Env} (hk:di w M w' M') (hβ:∀ b L,β b=some L→β' b=some L) {g:Nat}
  (hg:w'.heap[g]? = some (.cells (olds++news++Builtin.zeroCells z.cells (cap - (n+m))) et (0,0))) (fz:Nat):gp w' M' β' ⟨g,0,cap,sz⟩ (.row (mC++pW) fz):=by
 subst e1;subst e2
 refine ⟨_,et,hg,?_,by simpa using jr,fun i hi=>?_,fun i j hi hj=>?_⟩
 ·simp only [Array.size_append,size_zeroCells,hz,ho,hn,bp,← bI]
  rw [show mC.length+pW.length+(cap - (mC.length+pW.length))=cap by omega];exact ah _
 ·simp only [ay] at hi
  rw [tz]
  split
  ·exact h1 i (by assumption)
  ·exact h2 _ (by omega)
 ·simp only [ay] at hi
  simp only [bp] at hj ⊢
  rw [tz,Rf]
  by_cases hc:i<mC.length
  ·have:(i+1)*sz≤mC.length*sz:=aX _ hc
   rw [bI,dx] at this
   rw [if_pos (by omega),if_pos hc]
   exact (oJ i j hc hj).mono hk hβ
  ·have h3:mC.length*sz≤i*sz:=aX _ (by omega)
   have h4:(i - mC.length+1)*sz≤pW.length*sz:=aX _ (by omega)
   rw [bI,dx,kx] at h4
   rw [if_neg (by omega),if_neg hc,if_pos (by omega)]
   have:=nS (i - mC.length) j (by omega) hj
   rw [kx] at this
   rw [ho,show i*sz+j - mC.length*sz=i*sz - mC.length*sz+j by omega]
   exact this.mono hk hβ
theorem bS.ru {v:Value} {b off n sz:Nat} (h:bS w M β v (.os b off n sz)):(n=0∧∃ a L,β b=some L∧L.sz=sz∧v = .slice a 0 0) ∨
  ∃ L cap,β b=some L∧L.sz=sz∧n≤cap∧off+cap≤L.n∧v = .slice (some ⟨L.g,L.o+off*L.sz,none⟩) n cap:=by
 cases h with
 | sJ a h=>exact .inl ⟨rfl,a,_,h,rfl,rfl⟩
 | os h1 h2 h3=>exact .inr ⟨_,_,h1,rfl,h2,h3,rfl⟩
theorem bS.one {v:Value} {a:ae} (h:bS w M β v a) (hc:a.cK=true):v.oneCell'=true:=by
 cases h<;>first | rfl | (simp [ae.cK] at hc)
theorem sN.DU {sz:Nat} {xs:List ae} {news:Array Value} (h:sN w M β sz xs news) (hc:∀ x∈xs,x.cells.all ae.cK=true):∀ u∈news.toList,u.oneCell'=true:=by
 intro u hu
 obtain ⟨p,hp,rfl⟩:=mF hu
 simp only [bB] at hp
 rw [h.size] at hp
 obtain ⟨a1,a2,a3⟩:=SB hp
 have h1:=h.rep _ _ a1 a2
 rw [a3] at h1
 have e1:news.getD p undef=news.toList[p]'(by simpa [h.size] using hp):=by
  have:p<news.size:=by rw [h.size];exact hp
  simp [Array.getD,this]
 rw [e1] at h1
 refine h1.one ?_
 have h2:=hc (xs.getD (p / sz) .undef) (by simp only [List.getD,aA a1,br];exact aE a1)
 have h3:=h.one _ a1
 rw [bj] at h2
 have h4:p % sz<(xs.getD (p / sz) .undef).cells.length:=by omega
 have e2:(xs.getD (p / sz) .undef).cells.getD (p % sz) .undef=(xs.getD (p / sz) .undef).cells[p % sz]:=by
  rw [dp,aA h4];rfl
 rw [e2]
 exact h2 _ (aE h4)
theorem Zzo (hr:cH X base σ β w) (hn : β nm=none) (BP:bH σ nm=none) {t u et:TypeId} {e:eM} (he:aF P et=some e) {vs vx:Value} {s:ae} {xs:List ae} {news:Array Value} (hs:bS w (MT X σ β) β vs s) (hx:sN w (MT X σ β) β e.sz xs news)
  {r:ae} {σ':ai} (h:mn σ nm e s xs=some (r,σ')) (ty:TypeId) (ha:mX P w t u ty et xs.length vx news) {S:Sem Next} (hS:S=(do pure (.value (← Builtin.append_ #[t,u] ty #[vs,vx])))):cR P X base σ β w nm S r σ':=by
 obtain ⟨i,_,z,hi,_,hz,fH,_,AG,_,_,_,DJ⟩:=p6 he
 unfold mn at h
 split at h
 case isFalse=>cases h
 rename_i hc
 obtain ⟨rM,lq,AH⟩:=hc
 have np:∀ M':Nat→Nat→Prop,True:=fun _=>trivial
 split at h
 ·split at h
  ·rename_i h0
   cases h
   cases hs with
   | aU a =>
    refine cR.val hr (v:=.slice a 0 0) ?_ (.aU a)
    rw [hS,Sem.run_bind,ha.none h0];rfl
  ·rename_i h0
   split at h
   ·rename_i hb
    cases h
    cases hs with
    | aU a =>
     have vH:=grownCap_ge w (0+xs.length) 0 et
     have hold:(Builtin.firstCells i.size 0 (.slice a 0 0)).run P w.drew = .ok #[] w.drew:=by cases a<;>simp [Builtin.firstCells,loadCells,loadCellsFrom]
     have eS:=ha.grow i z hi hz hold (by omega) (by first | (rw [← AG];omega) | (rw [AG];omega)) (by omega)
     rw [bp] at eS vH
     refine zo hr hn (.row xs 0) (grownCap w xs.length 0 et) e.sz (w':=w.drew.alloc (.cells (#[]++news++Builtin.zeroCells z.cells (grownCap w xs.length 0 et - xs.length)) et)) rfl rfl rfl rfl (by rw [hS,Sem.run_bind,eS];rfl) ?_ ?_
     ·intro M' β' hk hβ
      have:=KV (w:=w) (M:=MT X σ β) (β:=β) (n:=0) (m:=xs.length) (cap:=grownCap w xs.length 0 et) (et:=et) (z:=z) DJ (mC:=[]) (pW:=xs) (olds:=#[]) (news:=news) (by simp) hx.size (fun i hi=>by simp at hi) hx.one (fun i j hi=>by simp at hi) hx.rep rfl rfl (by omega) hk hβ (g:=w.heap.size) (by
       rw [bp];exact xQ w.drew _) 0
      simpa using this
     ·intro M'
      have:=bS.os (w:=w.drew.alloc (.cells (#[]++news++Builtin.zeroCells z.cells (grownCap w xs.length 0 et - xs.length)) et)) (M:=M') (β:=pw β nm ⟨w.heap.size,0,grownCap w xs.length 0 et,e.sz⟩) (b:=nm) (off:=0) (len:=xs.length) (cap:=grownCap w xs.length 0 et) (L:=⟨w.heap.size,0,grownCap w xs.length 0 et,e.sz⟩) (tW _ _ _) vH (by simp)
      simpa using this
   ·cases h
 ·rename_i b off n sz
  split at h
  ·rename_i es fz hb
   split at h
   ·rename_i mL
    obtain ⟨rfl,hcf,M5,hcn⟩:=mL
    cases h
    obtain ⟨L,h1,uw,hX,c,ec,h2,h3,h4,h5,h6⟩:=hr.cg b _ (j_ hb)
    have hlen:((es.drop off).take n).length=n:=by simp;omega
    have eL:∀ k,k<n→((es.drop off).take n).getD k ae.undef=es.getD (off+k) .undef:=fun k hk=>by
     simp [List.getD,hk,dM]
    have mA:b≠nm:=by rintro rfl;rw [hb] at BP;cases BP
    have wu : σ[b]? = some (some (.row es fz)):=j_ hb
    have MZ:b < σ.length:=(aI.1 wu).1
    have jk:∀ c' x,c'≠nm→(b_ (σ.set b none) nm (.row ((es.drop off).take n++xs) (fz - off)))[c']? = some (some x)→σ[c']? = some (some x)∧c'≠b:=by
     intro c' x qW sD
     have:=zV _ _ _ qW sD
     by_cases e1:c'=b
     ·subst e1;simp [MZ] at this
     ·rw [bM (gA e1)] at this;exact ⟨this,e1⟩
    have yv : σ.length≤(b_ (σ.set b none) nm (.row ((es.drop off).take n++xs) (fz - off))).length:=by
     have:=Bh (σ.set b none) nm (.row ((es.drop off).take n++xs) (fz - off));simpa using this
    have grow:∀ (a:Option Addr) (cap:Nat) (olds:Array Value),vs = .slice a n cap→cap<n+xs.length→(∀ w':World,w'.heap=w.heap→(Builtin.firstCells i.size n (.slice a n cap)).run P w' = .ok olds w') →
      olds.size=n*e.sz→(∀ k j,k<n→j<e.sz→bS w (MT X σ β) β (olds.getD (k*e.sz+j) undef) ((es.getD (off+k) .undef).cells.getD j .undef))→(∀ k,k<n→(es.getD (off+k) .undef).cells.length=e.sz) →
      cR P X base σ β w nm S (.os nm 0 (n+xs.length) e.sz) (b_ (σ.set b none) nm (.row ((es.drop off).take n++xs) (fz - off))):=by
     intro a cap olds mB bG hold yC yB qn
     have vH:=grownCap_ge w (n+xs.length) cap et
     have eS:=ha.grow i z hi hz (hold w.drew rfl) bG (by first | (rw [← AG];omega) | (rw [AG];omega)) (by omega)
     obtain ⟨k1,k2,k3,k4⟩:=Em hr nm ⟨w.heap.size,0,grownCap w (n+xs.length) cap et,e.sz⟩ (.row ((es.drop off).take n++xs) (fz - off)) (σ':=b_ (σ.set b none) nm (.row ((es.drop off).take n++xs) (fz - off)))
      (β':=pw β nm ⟨w.heap.size,0,grownCap w (n+xs.length) cap et,e.sz⟩) (w':=w.drew.alloc (.cells (olds++news++Builtin.zeroCells z.cells (grownCap w (n+xs.length) cap et - (n+xs.length))) et))
      (D_ _ _ _) (fun c' x qW sD=>⟨(jk c' x qW sD).1,fun Lc hL=>by have:=FZ hr (jk c' x qW sD).1 hL;simp only;omega⟩) yv (tW _ _ _) (fun c' qW=>Cn _ _ _ qW) (.inl hn)
      rfl rfl rfl (by simp) (fun g hg _=>heap_alloc_old w.drew _ g hg) (fun xk v qW _=>absurd (xT qW) (by simp)) (fun h=>absurd h (by simp)) (fun xk _=>.inr (ah _)) (fun o' sD=>absurd (hr.qd _ _ sD) (by simp)) hr.size
     refine ⟨_,_,_, .inl (by rw [hS,mB,Sem.run_bind,eS];rfl),k4 (KV (w:=w) (M:=MT X σ β) (β:=β) (z:=z) DJ (mC:=(es.drop off).take n) (pW:=xs) (olds:=olds) (news:=news) (by rw [hlen];exact yC) hx.size ?_ hx.one ?_ hx.rep hlen rfl vH k2 k3 (xQ w.drew _) _),?_,k1,fun b' nn=>Cn _ _ _ nn,k3⟩
     ·intro k hk;rw [hlen] at hk;rw [eL k hk];exact qn k hk
     ·intro k j hk hj;rw [hlen] at hk;rw [eL k hk];exact yB k j hk hj
     ·have:=bS.os (w:=w.drew.alloc (.cells (olds++news++Builtin.zeroCells z.cells (grownCap w (n+xs.length) cap et - (n+xs.length))) et)) (M:=MT X (b_ (σ.set b none) nm (.row ((es.drop off).take n++xs) (fz - off))) (pw β nm ⟨w.heap.size,0,grownCap w (n+xs.length) cap et,e.sz⟩)) (β:=pw β nm ⟨w.heap.size,0,grownCap w (n+xs.length) cap et,e.sz⟩) (b:=nm) (off:=0) (len:=n+xs.length) (cap:=grownCap w (n+xs.length) cap et) (L:=⟨w.heap.size,0,grownCap w (n+xs.length) cap et,e.sz⟩) (tW _ _ _) vH (by simp)
      simpa using this
    have stay:∀ (a:Option Addr) (cap:Nat) (w':World),vs = .slice a n cap→L.sz=e.sz→off+(n+xs.length)≤L.n →
      (Builtin.append_ #[t,u] ty #[vs,vx]).run P w = .ok (.slice a (n+xs.length) cap) w'→w'=w.setRow L.g (c.toList.take (L.o+off*L.sz+n*L.sz)++news.toList++c.toList.drop (L.o+off*L.sz+n*L.sz+news.toList.length)).toArray →
      (∀ w1 M1,bS w1 M1 (pw β nm ⟨L.g,L.o+off*L.sz,L.n - off,L.sz⟩) (.slice a (n+xs.length) cap) (.os nm 0 (n+xs.length) e.sz)) →
      cR P X base σ β w nm S (.os nm 0 (n+xs.length) e.sz) (b_ (σ.set b none) nm (.row ((es.drop off).take n++xs) (fz - off))):=by
     intro a cap w' mB jI yn eS xh ha
     subst xh
     have wy:(off+n+xs.length)*L.sz≤L.n*L.sz:=aX _ (by omega)
     rw [bI,bI] at wy
     have ER:news.size=xs.length*L.sz:=by rw [hx.size,jI]
     have pj:L.o+off*L.sz+n*L.sz+news.toList.length≤c.size:=by simp only [bB];omega
     obtain ⟨f1,f2,f3,f4,f5,f6⟩:=HO w (c':=(c.toList.take (L.o+off*L.sz+n*L.sz)++news.toList++c.toList.drop (L.o+off*L.sz+n*L.sz+news.toList.length)).toArray) h2
     have nQ:∀ o',L.o+fz*L.sz≤o'→ja σ β L.g o':=fun o' JD=>⟨b,_,L,wu,h1,rfl,JD⟩
     have GJ:fz*L.sz≤(off+n)*L.sz:=aX _ hcf
     rw [bI] at GJ
     obtain ⟨k1,k2,k3,k4⟩:=Em hr nm ⟨L.g,L.o+off*L.sz,L.n - off,L.sz⟩ (.row ((es.drop off).take n++xs) (fz - off)) (σ':=b_ (σ.set b none) nm (.row ((es.drop off).take n++xs) (fz - off)))
      (β':=pw β nm ⟨L.g,L.o+off*L.sz,L.n - off,L.sz⟩) (w':=w.setRow L.g (c.toList.take (L.o+off*L.sz+n*L.sz)++news.toList++c.toList.drop (L.o+off*L.sz+n*L.sz+news.toList.length)).toArray)
      (D_ _ _ _) (fun c' x qW sD=>⟨(jk c' x qW sD).1,fun Lc hL tD=>(jk c' x qW sD).2 (hr.inj c' b x _ Lc L (jk c' x qW sD).1 wu hL h1 tD)⟩) yv (tW _ _ _) (fun c' qW=>Cn _ _ _ qW) (.inl hn)
      f1 f2 f3 (pC f4.symm) (fun g _ hg=>f5 g hg)
      (fun xk v gU s0=>by
       have aZ:xk<L.o+fz*L.sz:=jJ fun hle=>s0 (nQ xk hle)
       rw [cell_of_row _ _ _ _ _ _ f6]
       simp only at gU
       rw [cell_of_row _ _ _ _ _ _ h2] at gU
       obtain ⟨bG,hv⟩:=aL.1 gU
       rw [tM (by rw [Cg _ _ _ pj];exact bG),Cf _ _ _ pj,if_neg (by omega),← tM bG];exact gU)
      (fun _ s0=>absurd (nQ _ (ah _)) (s0 _))
      (fun xk hm=>.inl (nQ xk (by
       simp only [bE.mut,kx] at hm
       omega))) hX uw
     refine ⟨_,_,_, .inl (by rw [hS,Sem.run_bind,eS];rfl),k4 ⟨_,ec,f6,?_,?_,fun k hk=>?_,fun k j hk hj=>?_⟩,?_,k1,fun b' nn=>Cn _ _ _ nn,k3⟩
     ·rw [Cg _ _ _ pj]
      simp only
      rw [kx]
      have:off*L.sz≤L.n*L.sz:=aX _ (by omega)
      omega
     ·simp only [ay,hlen];omega
     ·simp only [ay,hlen] at hk
      rw [tz,hlen]
      split
      ·rw [eL k (by assumption)];exact h5 _ (by omega)
      ·simp only;rw [jI];exact hx.one _ (by omega)
     ·simp only [ay,hlen] at hk
      simp only at hj ⊢
      rw [tz,hlen,Cf _ _ _ pj]
      simp only [bB]
      by_cases AK:k<n
      ·have h7:(k+1)*L.sz≤n*L.sz:=aX _ AK
       rw [bI,dx] at h7
       rw [if_neg (by omega),if_pos AK,eL k AK]
       have:=h6 (off+k) j (by omega) hj
       rw [bI] at this
       rw [show L.o+off*L.sz+k*L.sz+j=L.o+(off*L.sz+k*L.sz)+j by omega]
       exact this.mono k2 k3
      ·have h7:n*L.sz≤k*L.sz:=aX _ (by omega)
       have h8:(k - n+1)*L.sz≤xs.length*L.sz:=aX _ (by omega)
       rw [bI,dx,kx] at h8
       rw [if_pos (by omega),if_neg AK]
       have:=hx.rep (k - n) j (by omega) (by omega)
       rw [show news.toList.getD (L.o+off*L.sz+k*L.sz+j - (L.o+off*L.sz+n*L.sz)) undef=news.getD (L.o+off*L.sz+k*L.sz+j - (L.o+off*L.sz+n*L.sz)) undef by simp [List.getD,aj]]
       rw [← jI,kx] at this
       rw [show L.o+off*L.sz+k*L.sz+j - (L.o+off*L.sz+n*L.sz)=k*L.sz - n*L.sz+j by omega]
       exact this.mono k2 k3
     ·exact ha _ _
    rcases hs.ru with ⟨rfl,a,L0,zu,jI,rfl⟩ | ⟨L',cap,hL,jI,hl,Gw,rfl⟩
    ·by_cases h0:xs.length=0
     ·have DG:xs=[]:=aY h0
      have xG:news = #[]:=lP (by rw [hx.size,h0,pD])
      obtain rfl:=aN (h1.symm.trans zu)
      ·refine stay a 0 w rfl jI (by omega) ?_ ?_ fun w1 M1=>?_
       ·rw [h0];exact ha.none h0 a 0
       ·subst xG
        simp only [bq,aS,ck,List.take_append_drop,qG]
        exact (setRow_self w L.g c ec (0,0) h2).symm
       ·rw [h0,← jI];exact .sJ (L:=⟨L.g,L.o+off*L.sz,L.n - off,L.sz⟩) a (tW _ _ _)
     ·refine grow a 0 #[] rfl (by omega) (fun w' _=>by cases a<;>simp [Builtin.firstCells,loadCells,loadCellsFrom]) (by simp) (fun k j hk=>by omega) (fun k hk=>by omega)
    ·obtain rfl:=aN (h1.symm.trans hL)
     by_cases sy:n+xs.length≤cap
     ·have wy:(off+n+xs.length)*L.sz≤L.n*L.sz:=aX _ (by omega)
      rw [bI,bI] at wy
      have ER:=hx.size
      rw [← jI] at ER
      have qn:∀ v∈news.toList,v.oneCell'=true:=hx.DU fun x sD=>by
       have:=bj.1 rM x sD
       simp only [aC] at this
       exact this.2
      have fT:=run_storeCells_at P L.g (L.o+off*L.sz+n*L.sz) ec news.toList 0 c w h2 (by simp only [ck,bB];omega) qn
      simp only [ck] at fT
      refine stay _ cap _ rfl jI (by omega) (ha.WY i hi sy (by rw [fH,← jI];exact fT)) rfl fun w1 M1=>?_
      have:=bS.os (w:=w1) (M:=M1) (β:=pw β nm ⟨L.g,L.o+off*L.sz,L.n - off,L.sz⟩) (b:=nm) (off:=0) (len:=n+xs.length) (cap:=cap) (L:=⟨L.g,L.o+off*L.sz,L.n - off,L.sz⟩) (tW _ _ _) sy (by simp only;omega)
      simp only [pD,ck] at this
      rw [← jI];exact this
     ·obtain ⟨olds,nU⟩:=HX (P:=P) hr (sz:=L.sz) (v:=.slice (some ⟨L.g,L.o+off*L.sz,none⟩) n cap) (x:=.os b off n L.sz) (xs:=(es.drop off).take n) (.os h1 hl Gw) (by simp [eR,hb,M5])
      have am9:=jI
      refine grow _ cap olds rfl (by omega) (fun w' xh=>?_) ?_ (fun k j hk hj=>?_) (fun k hk=>by rw [← jI];exact h5 _ (by omega))
      ·have:=nU.cells w' xh;rw [hlen] at this;rw [fH,← jI];exact this
      ·have:=nU.size;rw [hlen] at this;rw [← jI];exact this
      ·have:=nU.rep k j (by omega) (by omega);rw [eL k hk] at this;rw [← jI];exact this
   ·cases h
  ·cases h
 ·cases h
end
end Go.c8
