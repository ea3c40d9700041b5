/- Part 7 of my own framework and of the walks of functions: AbsJ. -/
import Derived.Test.YtfjbdamcmiglgaaGreatOwn6
import Derived.Deep.DeepAppendWide
abbrev lD:=@Array.eq_empty_of_size_eq_zero
abbrev lg:=@Array.getElem?_append
abbrev ei:=@Array.getElem?_map
abbrev bn:=@List.append_nil
abbrev aY:=@List.eq_nil_of_length_eq_zero
abbrev qp:=@List.getElem?_append
abbrev ju:=@Nat.lt_of_not_le
abbrev kg:=@Nat.sub_mul
abbrev pb:=@Nat.zero_mul
set_option linter.unusedVariables false
set_option linter.unusedSectionVars false
set_option linter.unusedSimpArgs false
namespace Go.c8
open Go
section
variable {P:Program} {X:Nat→Nat→Prop} {base:Nat} {σ:ai} {β:Env} {w:World} {nm:Nat} {M:Nat→Nat→Prop}
structure Src (P:Program) (w:World) (M:Nat→Nat→Prop) (β:Env) (sz:Nat) (v:Value) (xs:List ae) (news:Array Value):Prop where
 len:(Builtin.lenOf v).run P w = .ok xs.length w
 cells:∀ w':World,w'.heap=w.heap→(Builtin.firstCells sz xs.length v).run P w' = .ok news w'
 size:news.size=xs.length*sz
 one:∀ i,i<xs.length→(xs.getD i .undef).cells.length=sz
 rep:∀ i j,i<xs.length→j<sz→bR w M β (news.getD (i*sz+j) undef) ((xs.getD i .undef).cells.getD j .undef)
structure sl (w:World) (M:Nat→Nat→Prop) (β:Env) (sz:Nat) (xs:List ae) (news:Array Value):Prop where
 size:news.size=xs.length*sz
 one:∀ i,i<xs.length→(xs.getD i .undef).cells.length=sz
 rep:∀ i j,i<xs.length→j<sz→bR w M β (news.getD (i*sz+j) undef) ((xs.getD i .undef).cells.getD j .undef)
theorem Src.NV {sz:Nat} {v:Value} {xs:List ae} {news:Array Value} (h:Src P w M β sz v xs news):sl w M β sz xs news:=⟨h.size,h.one,h.rep⟩
theorem IB {i j sz:Nat} (h:j<sz):(i*sz+j) / sz=i∧(i*sz+j) % sz=j:=by
 have h0 : 0<sz:=by omega
 constructor
 ·rw [Nat.mul_comm,Nat.mul_add_div h0,Nat.div_eq_of_lt h];omega
 ·rw [Nat.mul_comm,Nat.mul_add_mod,Nat.mod_eq_of_lt h]
theorem SX {n sz k:Nat} (h:k<n*sz):k / sz<n∧k % sz<sz∧k / sz*sz+k % sz=k:=by
 have h0 : 0<sz:=by
  rcases Nat.eq_zero_or_pos sz with e | e
  ·subst e;simp at h
  ·exact e
 exact ⟨Nat.div_lt_of_lt_mul (by rwa [Nat.mul_comm]),Nat.mod_lt _ h0,by rw [Nat.mul_comm];exact Nat.div_add_mod k sz⟩
theorem JC {g o cap sz:Nat} {xs:List ae} {cv:Nat→Nat→Value} (h1:∀ i,i<xs.length→(xs.getD i .undef).cells.length=sz)
  (hc:∀ i j,i<xs.length→j<sz→w.cell? ⟨g,o+i*sz+j,none⟩=some (cv i j)) (hr:∀ i j,i<xs.length→j<sz→bR w M β (cv i j) ((xs.getD i .undef).cells.getD j .undef)) :
  ∃ news,Src P w M β sz (.slice (some ⟨g,o,none⟩) xs.length cap) xs news:=by
 have hl:=fun (w':World) (hw:w'.heap=w.heap)=>run_loadCells (P:=P) w' ⟨g,o,none⟩ (xs.length*sz) (fun k=>cv (k / sz) (k % sz)) (fun k hk=>by
  obtain ⟨a1,a2,a3⟩:=SX hk
  have:=hc _ _ a1 a2
  rw [Addr.add_lit,World.cell?_of_block (w:=w) (by rw [hw])]
  rwa [fc,a3] at this)
 refine ⟨_,rfl,hl,by simp,h1,fun i j hi hj=>?_⟩
 have bD:i*sz+j<xs.length*sz:=by
  have:(i+1)*sz≤xs.length*sz:=aX _ hi
  rw [bH,dt] at this;omega
 rw [PT _ _ _ _ bD,(IB hj).1,(IB hj).2]
 exact hr i j hi hj
theorem Ho (hr:cC X base σ β w) {sz:Nat} {v:Value} {x:ae} {xs:List ae} (hv:bR w (MT X σ β) β v x) (h:eJ σ sz x=some xs):∃ news,Src P w (MT X σ β) β sz v xs news:=by
 unfold eJ at h
 split at h
 ·rename_i s es
  split at h
  ·rename_i e;subst e
   cases h
   cases hv with
   | @ps a cap _ _ cv jd fF hc ha Ng =>
    by_cases h0 : 0<xs.length
    ·obtain ⟨g,o,rfl⟩:=ha h0
     exact JC fF (fun i j hi hj=>by
      obtain ⟨g',o',e1,e2,_⟩:=hc i j hi hj
      simp only [aG,Addr.mk.injEq,and_true] at e1
      obtain ⟨rfl,rfl⟩:=e1
      exact e2) Ng
    ·have LU:xs=[]:=aY (by omega)
     subst LU
     refine ⟨#[],rfl,?_,by simp,fun i hi=>by simp at hi,fun i j hi=>by simp at hi⟩
     cases a<;>intro _ _<;>simp [Builtin.firstCells,loadCells,loadCellsFrom]
  ·cases h
 ·cases h
  cases hv with
  | aU a =>
   refine ⟨#[],rfl,?_,by simp,fun i hi=>by simp at hi,fun i j hi=>by simp at hi⟩
   cases a<;>intro _ _<;>simp [Builtin.firstCells,loadCells,loadCellsFrom]
 ·rename_i b off n s
  split at h
  ·rename_i e;subst e
   split at h
   ·rename_i es fz hb
    split at h
    ·rename_i hle
     cases h
     obtain ⟨L,h1,_,_,c,e,h2,h3,h4,h5,h6⟩:=hr.cd b _ (jU hb)
     have hlen:((es.drop off).take n).length=n:=by simp;omega
     have eE:∀ k,k<n→((es.drop off).take n).getD k ae.undef=es.getD (off+k) .undef:=fun k hk=>by
      simp [List.getD,hk,dH]
     cases hv with
     | sd a za =>
      refine ⟨#[],by rw [hlen];rfl,?_,by simp,fun i hi=>by simp at hi,fun i j hi=>by simp at hi⟩
      rw [hlen]
      cases a<;>intro _ _<;>simp [Builtin.firstCells,loadCells,loadCellsFrom]
     | @os _ _ _ cap L' hL hl hc =>
      obtain rfl:=aM (h1.symm.trans hL)
      have key:=JC (P:=P) (w:=w) (M:=MT X σ β) (β:=β) (g:=L.g) (o:=L.o+off*L.sz) (cap:=cap) (sz:=L.sz) (xs:=(es.drop off).take n) (cv:=fun i j=>c.getD (L.o+(off+i)*L.sz+j) undef)
       (fun i hi=>by rw [eE i (by omega)];exact h5 _ (by omega))
       (fun i j hi hj=>by
        rw [hlen] at hi
        have h7:(off+i+1)*L.sz≤L.n*L.sz:=aX _ (by omega)
        rw [bH,dt] at h7
        rw [cell_of_row w L.g _ c e (0,0) h2,show L.o+off*L.sz+i*L.sz+j=L.o+(off+i)*L.sz+j by rw [bH];omega,tf (by omega)])
       (fun i j hi hj=>by
        rw [hlen] at hi
        rw [eE i hi];exact h6 (off+i) j (by omega) hj)
      rw [hlen] at key
      exact key
    ·cases h
   ·cases h
  ·cases h
 ·rename_i b off n c0 s
  split at h
  ·rename_i e;subst e
   split at h
   ·rename_i es fz hb
    split at h
    ·rename_i hle
     cases h
     obtain ⟨L,h1,_,_,c,e,h2,h3,h4,h5,h6⟩:=hr.cd b _ (jU hb)
     have hlen:((es.drop off).take n).length=n:=by simp;omega
     have eE:∀ k,k<n→((es.drop off).take n).getD k ae.undef=es.getD (off+k) .undef:=fun k hk=>by
      simp [List.getD,hk,dH]
     cases hv with
     | sc a za =>
      refine ⟨#[],by rw [hlen];rfl,?_,by simp,fun i hi=>by simp at hi,fun i j hi=>by simp at hi⟩
      rw [hlen]
      cases a<;>intro _ _<;>simp [Builtin.firstCells,loadCells,loadCellsFrom]
     | @oc _ _ _ _ L' hL hl hc =>
      obtain rfl:=aM (h1.symm.trans hL)
      have key:=JC (P:=P) (w:=w) (M:=MT X σ β) (β:=β) (g:=L.g) (o:=L.o+off*L.sz) (cap:=c0) (sz:=L.sz) (xs:=(es.drop off).take n) (cv:=fun i j=>c.getD (L.o+(off+i)*L.sz+j) undef)
       (fun i hi=>by rw [eE i (by omega)];exact h5 _ (by omega))
       (fun i j hi hj=>by
        rw [hlen] at hi
        have h7:(off+i+1)*L.sz≤L.n*L.sz:=aX _ (by omega)
        rw [bH,dt] at h7
        rw [cell_of_row w L.g _ c e (0,0) h2,show L.o+off*L.sz+i*L.sz+j=L.o+(off+i)*L.sz+j by rw [bH];omega,tf (by omega)])
       (fun i j hi hj=>by
        rw [hlen] at hi
        rw [eE i hi];exact h6 (off+i) j (by omega) hj)
      rw [hlen] at key
      exact key
    ·cases h
   ·cases h
  ·cases h
 ·cases h
theorem WH {s:ByteArray}:Src P w M β 1 (.string s) (bytesOf s) (s.data.map fun b=>.int .u8 b.toNat):=by
 have hl:(bytesOf s).length=s.size:=by simp [bytesOf]
 refine ⟨by rw [hl];rfl,?_,by rw [hl];simp,fun i hi=>?_,fun i j hi hj=>?_⟩
 ·rw [hl]
  have:s.extract 0 s.size=s:=by
   apply ByteArray.ext
   rw [ByteArray.data_extract]
   exact Array.extract_eq_self_of_le (ah _)
  intro w' _
  simp only [Builtin.firstCells,this]
  rfl
 ·rw [hl] at hi
  have:(bytesOf s).getD i .undef = .int .u8 (s.data[i]'hi).toNat:=by
   have dP:i<s.data.size:=hi
   simp [bytesOf,List.getD,aB dP]
  rw [this];rfl
 ·rw [hl] at hi
  obtain rfl:j=0:=by omega
  have dP:i<s.data.size:=hi
  have e1:(bytesOf s).getD i .undef = .int .u8 (s.data[i]'hi).toNat:=by simp [bytesOf,List.getD,aB dP]
  have e2:(s.data.map fun b=>Value.int .u8 b.toNat).getD (i*1+0) undef = .int .u8 (s.data[i]'hi).toNat:=by
   rw [aj,ei,Nat.mul_one,cg,aB dP];rfl
  rw [e1,e2]
  exact .int _ _
theorem Zjb {t u ty e:TypeId} {i:TypeInfo} {z:Value} {d:TypeDesc} (ht:P.underlying t=some (.slice e)) (hu:P.underlying u=some d) (hd:(∃ k,d = .slice k)∨d = .string) (hi:P.info? e=some i) (hz:i.zero=some z)
  {b:Option Addr} {n cap m:Nat} {vx:Value} {olds news:Array Value} (hlen:(Builtin.lenOf vx).run P w = .ok m w) (oo:(Builtin.firstCells i.size m vx).run P w.drew = .ok news w.drew)
  (hold:(Builtin.firstCells i.size n (.slice b n cap)).run P w.drew = .ok olds w.drew) (hg:cap<n+m) (qA:n+m≤cH i.bytes) (uH:i.bytes≤65536) :
  (Builtin.append_ #[t,u] ty #[.slice b n cap,vx]).run P w =
   .ok (.slice (some ⟨w.heap.size,0,none⟩) (n+m) (grownCap w (n+m) cap e)) (w.drew.alloc (.cells (olds++news++Builtin.zeroCells z.cells (grownCap w (n+m) cap e - (n+m))) e)):=by
 have h1:¬ n+m≤cap:=by omega
 have I3:=RE i.bytes
 have h2:¬ (((n+m:Nat):Int) > IntKind.i64.max):=by
  have:IntKind.i64.max=9223372036854775807:=by decide
  rw [this];omega
 have uG:¬ ((n:Int)+(m:Int) > IntKind.i64.max):=by
  have:IntKind.i64.max=9223372036854775807:=by decide
  rw [this];omega
 have h4:¬ (9223372036854775807<(n:Int)+(m:Int)∧i.bytes=0):=by omega
 have h3:¬ (Builtin.nextslicecap (n+m) cap*i.bytes > 2 ^ 48):=by
  have:=growslice_fits_wide (old:=cap) hg (Q8 qA uH)
  omega
 rcases hd with ⟨k,rfl⟩ | rfl
 ·simp [Builtin.append_,run_underlying ht,run_underlying hu,sizeOf,typeInfo,zeroValue,hi,hz,hlen,h1,uG,h3,h4,Question.forced,hold,oo,newRow,grownCap]
 ·simp [Builtin.append_,run_underlying ht,run_underlying hu,sizeOf,typeInfo,zeroValue,hi,hz,hlen,h1,uG,h3,h4,Question.forced,hold,oo,newRow,grownCap]
theorem Zmf {t u ty e:TypeId} {i:TypeInfo} {d:TypeDesc} (ht:P.underlying t=some (.slice e)) (hu:P.underlying u=some d) (hd:(∃ k,d = .slice k)∨d = .string) (hi:P.info? e=some i)
  {g o n cap m:Nat} {vx:Value} {news:Array Value} (hlen:(Builtin.lenOf vx).run P w = .ok m w) (oo:(Builtin.firstCells i.size m vx).run P w = .ok news w) (hg:n+m≤cap) {w':World}
  (fQ:(storeCells ⟨g,o+n*i.size,none⟩ news.toList).run P w = .ok () w') :
  (Builtin.append_ #[t,u] ty #[.slice (some ⟨g,o,none⟩) n cap,vx]).run P w = .ok (.slice (some ⟨g,o,none⟩) (n+m) cap) w':=by
 rcases hd with ⟨k,rfl⟩ | rfl<;>simp [Builtin.append_,run_underlying ht,run_underlying hu,sizeOf,typeInfo,hi,hlen,hg,oo,Addr.add_lit,fQ]
theorem Zkw {t u ty e:TypeId} {i:TypeInfo} {d:TypeDesc} (ht:P.underlying t=some (.slice e)) (hu:P.underlying u=some d) (hd:(∃ k,d = .slice k)∨d = .string) (hi:P.info? e=some i)
  {b:Option Addr} {c:Nat} {vx:Value} {news:Array Value} (hlen:(Builtin.lenOf vx).run P w = .ok 0 w) (oo:(Builtin.firstCells i.size 0 vx).run P w = .ok news w) (zl:news.size=0) :
  (Builtin.append_ #[t,u] ty #[.slice b 0 c,vx]).run P w = .ok (.slice b 0 c) w:=by
 have:news = #[]:=lD zl
 subst this
 rcases hd with ⟨k,rfl⟩ | rfl<;>cases b<;>simp [Builtin.append_,run_underlying ht,run_underlying hu,sizeOf,typeInfo,hi,hlen,oo,storeCells]
structure mK (P:Program) (w:World) (t u ty e:TypeId) (m:Nat) (vx:Value) (news:Array Value):Prop where
 grow:∀ (i:TypeInfo) (z:Value),P.info? e=some i→i.zero=some z→∀ {b:Option Addr} {n cap:Nat} {olds:Array Value},(Builtin.firstCells i.size n (.slice b n cap)).run P w.drew = .ok olds w.drew→cap<n+m→n+m≤cH i.bytes→i.bytes≤65536 →
  (Builtin.append_ #[t,u] ty #[.slice b n cap,vx]).run P w =
   .ok (.slice (some ⟨w.heap.size,0,none⟩) (n+m) (grownCap w (n+m) cap e)) (w.drew.alloc (.cells (olds++news++Builtin.zeroCells z.cells (grownCap w (n+m) cap e - (n+m))) e))
 Vx:∀ (i:TypeInfo),P.info? e=some i→∀ {g o n cap:Nat} {w':World},n+m≤cap→(storeCells ⟨g,o+n*i.size,none⟩ news.toList).run P w = .ok () w' →
  (Builtin.append_ #[t,u] ty #[.slice (some ⟨g,o,none⟩) n cap,vx]).run P w = .ok (.slice (some ⟨g,o,none⟩) (n+m) cap) w'
 none:m=0→∀ (b:Option Addr) (c:Nat),(Builtin.append_ #[t,u] ty #[.slice b 0 c,vx]).run P w = .ok (.slice b 0 c) w
theorem mK.yG {t u ty e:TypeId} {d:TypeDesc} (ht:P.underlying t=some (.slice e)) (hu:P.underlying u=some d) (hd:(∃ k,d = .slice k)∨d = .string) {l:eF} (he:aC P e=some l)
  {vx:Value} {xs:List ae} {news:Array Value} (hx:Src P w M β l.sz vx xs news):mK P w t u ty e xs.length vx news:=by
 obtain ⟨i,_,z,hi,_,hz,fF,_⟩:=pO he
 have oo:∀ w':World,w'.heap=w.heap→(Builtin.firstCells i.size xs.length vx).run P w' = .ok news w':=fun w' hw=>by rw [fF];exact hx.cells w' hw
 refine ⟨fun i' z' dP Nz b n cap olds hold h1 h2 h3=>?_,fun i' dP g o n cap w' h1 h2=>?_,fun h0 b c=>?_⟩
 ·obtain rfl:=aM (dP.symm.trans hi)
  obtain rfl:=aM (Nz.symm.trans hz)
  exact Zjb ht hu hd hi hz hx.len (oo w.drew rfl) hold h1 h2 h3
 ·obtain rfl:=aM (dP.symm.trans hi)
  exact Zmf ht hu hd hi hx.len (oo w rfl) h1 h2
 ·have hl:=hx.len;rw [h0] at hl
  have Vk:=oo w rfl;rw [h0] at Vk
  exact Zkw ht hu hd hi hl Vk (by rw [hx.size,h0];simp)
theorem P2 (a b c:Array Value) (p:Nat):(a++b++c).getD p undef=if p<a.size then a.getD p undef else if p<a.size+b.size then b.getD (p - a.size) undef else c.getD (p - (a.size+b.size)) undef:=by
 rw [aj,lg,Array.size_append]
 by_cases h1:p<a.size
 ·rw [if_pos (by omega),if_pos h1,lg,if_pos h1,aj]
 ·by_cases h2:p<a.size+b.size
  ·rw [if_pos h2,if_neg h1,if_pos h2,lg,if_neg h1,aj]
  ·rw [if_neg h2,if_neg h1,if_neg h2,aj]
theorem sS (a b:List ae) (i:Nat):(a++b).getD i .undef=if i<a.length then a.getD i .undef else b.getD (i - a.length) .undef:=by
 simp only [List.getD,qp]
 split<;>rfl
theorem Km {sz n m cap:Nat} {et:TypeId} {z:Value} (hz:z.cells.size=sz) {mh pH:List ae} {olds news:Array Value} (ho:olds.size=mh.length*sz) (hn:news.size=pH.length*sz)
  (h1:∀ i,i<mh.length→(mh.getD i .undef).cells.length=sz) (h2:∀ i,i<pH.length→(pH.getD i .undef).cells.length=sz)
  (oq:∀ i j,i<mh.length→j<sz→bR w M β (olds.getD (i*sz+j) undef) ((mh.getD i .undef).cells.getD j .undef))
  (nG:∀ i j,i<pH.length→j<sz→bR w M β (news.getD (i*sz+j) undef) ((pH.getD i .undef).cells.getD j .undef))
  (e1:mh.length=n) (e2:pH.length=m) (jd:n+m≤cap) {w':World} {M':Nat→Nat→Prop} {β':Env} (hk:df w M w' M') (hβ:∀ b L,β b=some L→β' b=some L) {g:Nat}
  (hg:w'.heap[g]? = some (.cells (olds++news++Builtin.zeroCells z.cells (cap - (n+m))) et (0,0))) (fz:Nat):fR w' M' β' ⟨g,0,cap,sz⟩ (.row (mh++pH) fz):=by
 subst e1;subst e2
 refine ⟨_,et,hg,?_,by simpa using jd,fun i hi=>?_,fun i j hi hj=>?_⟩
 ·simp only [Array.size_append,size_zeroCells,hz,ho,hn,bm,← bH]
  rw [show mh.length+pH.length+(cap - (mh.length+pH.length))=cap by omega];exact ah _
 ·simp only [ay] at hi
  rw [sS]
  split
  ·exact h1 i (by assumption)
  ·exact h2 _ (by omega)
 ·simp only [ay] at hi
  simp only [bm] at hj ⊢
  rw [sS,P2]
  by_cases hc:i<mh.length
  ·have:(i+1)*sz≤mh.length*sz:=aX _ hc
   rw [bH,dt] at this
   rw [if_pos (by omega),if_pos hc]
   exact (oq i j hc hj).mono hk hβ
  ·have h3:mh.length*sz≤i*sz:=aX _ (by omega)
   have h4:(i - mh.length+1)*sz≤pH.length*sz:=aX _ (by omega)
   rw [bH,dt,kg] at h4
   rw [if_neg (by omega),if_neg hc,if_pos (by omega)]
   have:=nG (i - mh.length) j (by omega) hj
   rw [kg] at this
   rw [ho,show i*sz+j - mh.length*sz=i*sz - mh.length*sz+j by omega]
   exact this.mono hk hβ
theorem bR.qS {v:Value} {b off n sz:Nat} (h:bR w M β v (.os b off n sz)):(n=0∧∃ a L,β b=some L∧L.sz=sz∧v = .slice a 0 0) ∨
  ∃ L cap,β b=some L∧L.sz=sz∧n≤cap∧off+cap≤L.n∧v = .slice (some ⟨L.g,L.o+off*L.sz,none⟩) n cap:=by
 cases h with
 | sd a h=>exact .inl ⟨rfl,a,_,h,rfl,rfl⟩
 | os h1 h2 h3=>exact .inr ⟨_,_,h1,rfl,h2,h3,rfl⟩
theorem bR.one {v:Value} {a:ae} (h:bR w M β v a) (hc:a.cF=true):v.oneCell'=true:=by
 cases h<;>first | rfl | (simp [ae.cF] at hc)
theorem sl.Dt {sz:Nat} {xs:List ae} {news:Array Value} (h:sl w M β sz xs news) (hc:∀ x∈xs,x.cells.all ae.cF=true):∀ u∈news.toList,u.oneCell'=true:=by
 intro u hu
 obtain ⟨p,hp,rfl⟩:=mo hu
 simp only [bA] at hp
 rw [h.size] at hp
 obtain ⟨a1,a2,a3⟩:=SX hp
 have h1:=h.rep _ _ a1 a2
 rw [a3] at h1
 have e1:news.getD p undef=news.toList[p]'(by simpa [h.size] using hp):=by
  have:p<news.size:=by rw [h.size];exact hp
  simp [Array.getD,this]
 rw [e1] at h1
 refine h1.one ?_
 have h2:=hc (xs.getD (p / sz) .undef) (by simp only [List.getD,aA a1,br];exact aE a1)
 have h3:=h.one _ a1
 rw [bp] at h2
 have h4:p % sz<(xs.getD (p / sz) .undef).cells.length:=by omega
 have e2:(xs.getD (p / sz) .undef).cells.getD (p % sz) .undef=(xs.getD (p / sz) .undef).cells[p % sz]:=by
  rw [dj,aA h4];rfl
 rw [e2]
 exact h2 _ (aE h4)
theorem Zzb (hr:cC X base σ β w) (hn : β nm=none) (Bv:bG σ nm=none) {t u et:TypeId} {e:eF} (he:aC P et=some e) {vs vx:Value} {s:ae} {xs:List ae} {news:Array Value} (hs:bR w (MT X σ β) β vs s) (hx:sl w (MT X σ β) β e.sz xs news)
  {r:ae} {σ':ai} (h:l7 σ nm e s xs=some (r,σ')) (ty:TypeId) (ha:mK P w t u ty et xs.length vx news) {S:Sem Next} (hS:S=(do pure (.value (← Builtin.append_ #[t,u] ty #[vs,vx])))):cN P X base σ β w nm S r σ':=by
 obtain ⟨i,_,z,hi,_,hz,fF,_,Ah,_,_,_,Di⟩:=pO he
 unfold l7 at h
 split at h
 case isFalse=>cases h
 rename_i hc
 obtain ⟨rm,kY,Ai⟩:=hc
 have m8:∀ M':Nat→Nat→Prop,True:=fun _=>trivial
 split at h
 ·split at h
  ·rename_i h0
   cases h
   cases hs with
   | aU a =>
    refine cN.val hr (v:=.slice a 0 0) ?_ (.aU a)
    rw [hS,Sem.run_bind,ha.none h0];rfl
  ·rename_i h0
   split at h
   ·rename_i hb
    cases h
    cases hs with
    | aU a =>
     have u_:=grownCap_ge w (0+xs.length) 0 et
     have hold:(Builtin.firstCells i.size 0 (.slice a 0 0)).run P w.drew = .ok #[] w.drew:=by cases a<;>simp [Builtin.firstCells,loadCells,loadCellsFrom]
     have eL:=ha.grow i z hi hz hold (by omega) (by first | (rw [← Ah];omega) | (rw [Ah];omega)) (by omega)
     rw [bm] at eL u_
     refine y7 hr hn (.row xs 0) (grownCap w xs.length 0 et) e.sz (w':=w.drew.alloc (.cells (#[]++news++Builtin.zeroCells z.cells (grownCap w xs.length 0 et - xs.length)) et)) rfl rfl rfl rfl (by rw [hS,Sem.run_bind,eL];rfl) ?_ ?_
     ·intro M' β' hk hβ
      have:=Km (w:=w) (M:=MT X σ β) (β:=β) (n:=0) (m:=xs.length) (cap:=grownCap w xs.length 0 et) (et:=et) (z:=z) Di (mh:=[]) (pH:=xs) (olds:=#[]) (news:=news) (by simp) hx.size (fun i hi=>by simp at hi) hx.one (fun i j hi=>by simp at hi) hx.rep rfl rfl (by omega) hk hβ (g:=w.heap.size) (by
       rw [bm];exact xA w.drew _) 0
      simpa using this
     ·intro M'
      have:=bR.os (w:=w.drew.alloc (.cells (#[]++news++Builtin.zeroCells z.cells (grownCap w xs.length 0 et - xs.length)) et)) (M:=M') (β:=oZ β nm ⟨w.heap.size,0,grownCap w xs.length 0 et,e.sz⟩) (b:=nm) (off:=0) (len:=xs.length) (cap:=grownCap w xs.length 0 et) (L:=⟨w.heap.size,0,grownCap w xs.length 0 et,e.sz⟩) (tq _ _ _) u_ (by simp)
      simpa using this
   ·cases h
 ·rename_i b off n sz
  split at h
  ·rename_i es fz hb
   split at h
   ·rename_i mB
    obtain ⟨rfl,hcf,Mn,hcn⟩:=mB
    cases h
    obtain ⟨L,h1,tU,hX,c,ec,h2,h3,h4,h5,h6⟩:=hr.cd b _ (jU hb)
    have hlen:((es.drop off).take n).length=n:=by simp;omega
    have eE:∀ k,k<n→((es.drop off).take n).getD k ae.undef=es.getD (off+k) .undef:=fun k hk=>by
     simp [List.getD,hk,dH]
    have mf:b≠nm:=by rintro rfl;rw [hb] at Bv;cases Bv
    have vT : σ[b]? = some (some (.row es fz)):=jU hb
    have Mj:b < σ.length:=(aI.1 vT).1
    have iX:∀ c' x,c'≠nm→(bZ (σ.set b none) nm (.row ((es.drop off).take n++xs) (fz - off)))[c']? = some (some x)→σ[c']? = some (some x)∧c'≠b:=by
     intro c' x qE r6
     have:=zD _ _ _ qE r6
     by_cases e1:c'=b
     ·subst e1;simp [Mj] at this
     ·rw [bL (fY e1)] at this;exact ⟨this,e1⟩
    have yd : σ.length≤(bZ (σ.set b none) nm (.row ((es.drop off).take n++xs) (fz - off))).length:=by
     have:=A0 (σ.set b none) nm (.row ((es.drop off).take n++xs) (fz - off));simpa using this
    have grow:∀ (a:Option Addr) (cap:Nat) (olds:Array Value),vs = .slice a n cap→cap<n+xs.length→(∀ w':World,w'.heap=w.heap→(Builtin.firstCells i.size n (.slice a n cap)).run P w' = .ok olds w') →
      olds.size=n*e.sz→(∀ k j,k<n→j<e.sz→bR w (MT X σ β) β (olds.getD (k*e.sz+j) undef) ((es.getD (off+k) .undef).cells.getD j .undef))→(∀ k,k<n→(es.getD (off+k) .undef).cells.length=e.sz) →
      cN P X base σ β w nm S (.os nm 0 (n+xs.length) e.sz) (bZ (σ.set b none) nm (.row ((es.drop off).take n++xs) (fz - off))):=by
     intro a cap olds mg bD hold yk yj qa
     have u_:=grownCap_ge w (n+xs.length) cap et
     have eL:=ha.grow i z hi hz (hold w.drew rfl) bD (by first | (rw [← Ah];omega) | (rw [Ah];omega)) (by omega)
     obtain ⟨k1,k2,k3,k4⟩:=D1 hr nm ⟨w.heap.size,0,grownCap w (n+xs.length) cap et,e.sz⟩ (.row ((es.drop off).take n++xs) (fz - off)) (σ':=bZ (σ.set b none) nm (.row ((es.drop off).take n++xs) (fz - off)))
      (β':=oZ β nm ⟨w.heap.size,0,grownCap w (n+xs.length) cap et,e.sz⟩) (w':=w.drew.alloc (.cells (olds++news++Builtin.zeroCells z.cells (grownCap w (n+xs.length) cap et - (n+xs.length))) et))
      (DQ _ _ _) (fun c' x qE r6=>⟨(iX c' x qE r6).1,fun Lc hL=>by have:=Ft hr (iX c' x qE r6).1 hL;simp only;omega⟩) yd (tq _ _ _) (fun c' qE=>B7 _ _ _ qE) (.inl hn)
      rfl rfl rfl (by simp) (fun g hg _=>heap_alloc_old w.drew _ g hg) (fun wY v qE _=>absurd (xC qE) (by simp)) (fun h=>absurd h (by simp)) (fun wY _=>.inr (ah _)) (fun o' r6=>absurd (hr.pW _ _ r6) (by simp)) hr.size
     refine ⟨_,_,_, .inl (by rw [hS,mg,Sem.run_bind,eL];rfl),k4 (Km (w:=w) (M:=MT X σ β) (β:=β) (z:=z) Di (mh:=(es.drop off).take n) (pH:=xs) (olds:=olds) (news:=news) (by rw [hlen];exact yk) hx.size ?_ hx.one ?_ hx.rep hlen rfl u_ k2 k3 (xA w.drew _) _),?_,k1,fun b' m0=>B7 _ _ _ m0,k3⟩
     ·intro k hk;rw [hlen] at hk;rw [eE k hk];exact qa k hk
     ·intro k j hk hj;rw [hlen] at hk;rw [eE k hk];exact yj k j hk hj
     ·have:=bR.os (w:=w.drew.alloc (.cells (olds++news++Builtin.zeroCells z.cells (grownCap w (n+xs.length) cap et - (n+xs.length))) et)) (M:=MT X (bZ (σ.set b none) nm (.row ((es.drop off).take n++xs) (fz - off))) (oZ β nm ⟨w.heap.size,0,grownCap w (n+xs.length) cap et,e.sz⟩)) (β:=oZ β nm ⟨w.heap.size,0,grownCap w (n+xs.length) cap et,e.sz⟩) (b:=nm) (off:=0) (len:=n+xs.length) (cap:=grownCap w (n+xs.length) cap et) (L:=⟨w.heap.size,0,grownCap w (n+xs.length) cap et,e.sz⟩) (tq _ _ _) u_ (by simp)
      simpa using this
    have stay:∀ (a:Option Addr) (cap:Nat) (w':World),vs = .slice a n cap→L.sz=e.sz→off+(n+xs.length)≤L.n →
      (Builtin.append_ #[t,u] ty #[vs,vx]).run P w = .ok (.slice a (n+xs.length) cap) w'→w'=w.setRow L.g (c.toList.take (L.o+off*L.sz+n*L.sz)++news.toList++c.toList.drop (L.o+off*L.sz+n*L.sz+news.toList.length)).toArray →
      (∀ w1 M1,bR w1 M1 (oZ β nm ⟨L.g,L.o+off*L.sz,L.n - off,L.sz⟩) (.slice a (n+xs.length) cap) (.os nm 0 (n+xs.length) e.sz)) →
      cN P X base σ β w nm S (.os nm 0 (n+xs.length) e.sz) (bZ (σ.set b none) nm (.row ((es.drop off).take n++xs) (fz - off))):=by
     intro a cap w' mg jt xW eL wV ha
     subst wV
     have vW:(off+n+xs.length)*L.sz≤L.n*L.sz:=aX _ (by omega)
     rw [bH,bH] at vW
     have Es:news.size=xs.length*L.sz:=by rw [hx.size,jt]
     have oT:L.o+off*L.sz+n*L.sz+news.toList.length≤c.size:=by simp only [bA];omega
     obtain ⟨f1,f2,f3,f4,f5,f6⟩:=Hg w (c':=(c.toList.take (L.o+off*L.sz+n*L.sz)++news.toList++c.toList.drop (L.o+off*L.sz+n*L.sz+news.toList.length)).toArray) h2
     have nC:∀ o',L.o+fz*L.sz≤o'→iO σ β L.g o':=fun o' I5=>⟨b,_,L,vT,h1,rfl,I5⟩
     have Gc:fz*L.sz≤(off+n)*L.sz:=aX _ hcf
     rw [bH] at Gc
     obtain ⟨k1,k2,k3,k4⟩:=D1 hr nm ⟨L.g,L.o+off*L.sz,L.n - off,L.sz⟩ (.row ((es.drop off).take n++xs) (fz - off)) (σ':=bZ (σ.set b none) nm (.row ((es.drop off).take n++xs) (fz - off)))
      (β':=oZ β nm ⟨L.g,L.o+off*L.sz,L.n - off,L.sz⟩) (w':=w.setRow L.g (c.toList.take (L.o+off*L.sz+n*L.sz)++news.toList++c.toList.drop (L.o+off*L.sz+n*L.sz+news.toList.length)).toArray)
      (DQ _ _ _) (fun c' x qE r6=>⟨(iX c' x qE r6).1,fun Lc hL sX=>(iX c' x qE r6).2 (hr.inj c' b x _ Lc L (iX c' x qE r6).1 vT hL h1 sX)⟩) yd (tq _ _ _) (fun c' qE=>B7 _ _ _ qE) (.inl hn)
      f1 f2 f3 (pa f4.symm) (fun g _ hg=>f5 g hg)
      (fun wY v gK sC=>by
       have aZ:wY<L.o+fz*L.sz:=ju fun hle=>sC (nC wY hle)
       rw [cell_of_row _ _ _ _ _ _ f6]
       simp only at gK
       rw [cell_of_row _ _ _ _ _ _ h2] at gK
       obtain ⟨bD,hv⟩:=aL.1 gK
       rw [tf (by rw [B0 _ _ _ oT];exact bD),B1 _ _ _ oT,if_neg (by omega),← tf bD];exact gK)
      (fun _ sC=>absurd (nC _ (ah _)) (sC _))
      (fun wY hm=>.inl (nC wY (by
       simp only [bE.mut,kg] at hm
       omega))) hX tU
     refine ⟨_,_,_, .inl (by rw [hS,Sem.run_bind,eL];rfl),k4 ⟨_,ec,f6,?_,?_,fun k hk=>?_,fun k j hk hj=>?_⟩,?_,k1,fun b' m0=>B7 _ _ _ m0,k3⟩
     ·rw [B0 _ _ _ oT]
      simp only
      rw [kg]
      have:off*L.sz≤L.n*L.sz:=aX _ (by omega)
      omega
     ·simp only [ay,hlen];omega
     ·simp only [ay,hlen] at hk
      rw [sS,hlen]
      split
      ·rw [eE k (by assumption)];exact h5 _ (by omega)
      ·simp only;rw [jt];exact hx.one _ (by omega)
     ·simp only [ay,hlen] at hk
      simp only at hj ⊢
      rw [sS,hlen,B1 _ _ _ oT]
      simp only [bA]
      by_cases Am:k<n
      ·have h7:(k+1)*L.sz≤n*L.sz:=aX _ Am
       rw [bH,dt] at h7
       rw [if_neg (by omega),if_pos Am,eE k Am]
       have:=h6 (off+k) j (by omega) hj
       rw [bH] at this
       rw [show L.o+off*L.sz+k*L.sz+j=L.o+(off*L.sz+k*L.sz)+j by omega]
       exact this.mono k2 k3
      ·have h7:n*L.sz≤k*L.sz:=aX _ (by omega)
       have h8:(k - n+1)*L.sz≤xs.length*L.sz:=aX _ (by omega)
       rw [bH,dt,kg] at h8
       rw [if_pos (by omega),if_neg Am]
       have:=hx.rep (k - n) j (by omega) (by omega)
       rw [show news.toList.getD (L.o+off*L.sz+k*L.sz+j - (L.o+off*L.sz+n*L.sz)) undef=news.getD (L.o+off*L.sz+k*L.sz+j - (L.o+off*L.sz+n*L.sz)) undef by simp [List.getD,aj]]
       rw [← jt,kg] at this
       rw [show L.o+off*L.sz+k*L.sz+j - (L.o+off*L.sz+n*L.sz)=k*L.sz - n*L.sz+j by omega]
       exact this.mono k2 k3
     ·exact ha _ _
    rcases hs.qS with ⟨rfl,a,L0,za,jt,rfl⟩ | ⟨L',cap,hL,jt,hl,F3,rfl⟩
    ·by_cases h0:xs.length=0
     ·have Df:xs=[]:=aY h0
      have xn:news = #[]:=lD (by rw [hx.size,h0,pb])
      obtain rfl:=aM (h1.symm.trans za)
      ·refine stay a 0 w rfl jt (by omega) ?_ ?_ fun w1 M1=>?_
       ·rw [h0];exact ha.none h0 a 0
       ·subst xn
        simp only [bn,aR,cg,List.take_append_drop,qm]
        exact (setRow_self w L.g c ec (0,0) h2).symm
       ·rw [h0,← jt];exact .sd (L:=⟨L.g,L.o+off*L.sz,L.n - off,L.sz⟩) a (tq _ _ _)
     ·refine grow a 0 #[] rfl (by omega) (fun w' _=>by cases a<;>simp [Builtin.firstCells,loadCells,loadCellsFrom]) (by simp) (fun k j hk=>by omega) (fun k hk=>by omega)
    ·obtain rfl:=aM (h1.symm.trans hL)
     by_cases rX:n+xs.length≤cap
     ·have vW:(off+n+xs.length)*L.sz≤L.n*L.sz:=aX _ (by omega)
      rw [bH,bH] at vW
      have Es:=hx.size
      rw [← jt] at Es
      have qa:∀ v∈news.toList,v.oneCell'=true:=hx.Dt fun x r6=>by
       have:=bp.1 rm x r6
       simp only [aD] at this
       exact this.2
      have fQ:=run_storeCells_at P L.g (L.o+off*L.sz+n*L.sz) ec news.toList 0 c w h2 (by simp only [cg,bA];omega) qa
      simp only [cg] at fQ
      refine stay _ cap _ rfl jt (by omega) (ha.Vx i hi rX (by rw [fF,← jt];exact fQ)) rfl fun w1 M1=>?_
      have:=bR.os (w:=w1) (M:=M1) (β:=oZ β nm ⟨L.g,L.o+off*L.sz,L.n - off,L.sz⟩) (b:=nm) (off:=0) (len:=n+xs.length) (cap:=cap) (L:=⟨L.g,L.o+off*L.sz,L.n - off,L.sz⟩) (tq _ _ _) rX (by simp only;omega)
      simp only [pb,cg] at this
      rw [← jt];exact this
     ·obtain ⟨olds,nI⟩:=Ho (P:=P) hr (sz:=L.sz) (v:=.slice (some ⟨L.g,L.o+off*L.sz,none⟩) n cap) (x:=.os b off n L.sz) (xs:=(es.drop off).take n) (.os h1 hl F3) (by simp [eJ,hb,Mn])
      have alH:=jt
      refine grow _ cap olds rfl (by omega) (fun w' wV=>?_) ?_ (fun k j hk hj=>?_) (fun k hk=>by rw [← jt];exact h5 _ (by omega))
      ·have:=nI.cells w' wV;rw [hlen] at this;rw [fF,← jt];exact this
      ·have:=nI.size;rw [hlen] at this;rw [← jt];exact this
      ·have:=nI.rep k j (by omega) (by omega);rw [eE k hk] at this;rw [← jt];exact this
   ·cases h
  ·cases h
 ·cases h
end
end Go.c8
