/- Part 7 of my own framework and of the walks of functions: AbsJ. -/
import Derived.Test.YtfjbdamcmiglgaaGreatOwn6
import Derived.Deep.DeepAppendWide
abbrev lz:=@Array.eq_empty_of_size_eq_zero
abbrev lg:=@Array.getElem?_append
abbrev eo:=@Array.getElem?_map
abbrev bn:=@List.append_nil
abbrev aY:=@List.eq_nil_of_length_eq_zero
abbrev qy:=@List.getElem?_append
abbrev jv:=@Nat.lt_of_not_le
abbrev ke:=@Nat.sub_mul
abbrev pf:=@Nat.zero_mul
set_option linter.unusedVariables false
set_option linter.unusedSectionVars false
set_option linter.unusedSimpArgs false
namespace Go.cV
open Go
section
variable {P:Program} {X:Nat→Nat→Prop} {base:Nat} {σ:ai} {β:Env} {w:World} {nm:Nat} {M:Nat→Nat→Prop}
structure Src (P:Program) (w:World) (M:Nat→Nat→Prop) (β:Env) (sz:Nat) (v:Value) (xs:List ae) (news:Array Value):Prop where
 len:(Builtin.lenOf v).run P w = .ok xs.length w
 cells:∀ w':World,w'.heap=w.heap→(Builtin.firstCells sz xs.length v).run P w' = .ok news w'
 size:news.size=xs.length*sz
 one:∀ i,i<xs.length→(xs.getD i .undef).cells.length=sz
 rep:∀ i j,i<xs.length→j<sz→bR w M β (news.getD (i*sz+j) undef) ((xs.getD i .undef).cells.getD j .undef)
structure sD (w:World) (M:Nat→Nat→Prop) (β:Env) (sz:Nat) (xs:List ae) (news:Array Value):Prop where
 size:news.size=xs.length*sz
 one:∀ i,i<xs.length→(xs.getD i .undef).cells.length=sz
 rep:∀ i j,i<xs.length→j<sz→bR w M β (news.getD (i*sz+j) undef) ((xs.getD i .undef).cells.getD j .undef)
theorem Src.N_ {sz:Nat} {v:Value} {xs:List ae} {news:Array Value} (h:Src P w M β sz v xs news):sD w M β sz xs news:=⟨h.size,h.one,h.rep⟩
theorem II {i j sz:Nat} (h:j<sz):(i*sz+j) / sz=i∧(i*sz+j) % sz=j:=by
 have h0 : 0<sz:=by omega
 constructor
 ·rw [Nat.mul_comm,Nat.mul_add_div h0,Nat.div_eq_of_lt h];omega
 ·rw [Nat.mul_comm,Nat.mul_add_mod,Nat.mod_eq_of_lt h]
theorem RT {n sz k:Nat} (h:k<n*sz):k / sz<n∧k % sz<sz∧k / sz*sz+k % sz=k:=by
 have h0 : 0<sz:=by
  rcases Nat.eq_zero_or_pos sz with e | e
  ·subst e;simp at h
  ·exact e
 exact ⟨Nat.div_lt_of_lt_mul (by rwa [Nat.mul_comm]),Nat.mod_lt _ h0,by rw [Nat.mul_comm];exact Nat.div_add_mod k sz⟩
theorem JO {g o cap sz:Nat} {xs:List ae} {cv:Nat→Nat→Value} (h1:∀ i,i<xs.length→(xs.getD i .undef).cells.length=sz)
  (hc:∀ i j,i<xs.length→j<sz→w.cell? ⟨g,o+i*sz+j,none⟩=some (cv i j)) (hr:∀ i j,i<xs.length→j<sz→bR w M β (cv i j) ((xs.getD i .undef).cells.getD j .undef)) :
  ∃ news,Src P w M β sz (.slice (some ⟨g,o,none⟩) xs.length cap) xs news:=by
 have hl:=fun (w':World) (hw:w'.heap=w.heap)=>run_loadCells (P:=P) w' ⟨g,o,none⟩ (xs.length*sz) (fun k=>cv (k / sz) (k % sz)) (fun k hk=>by
  obtain ⟨a1,a2,a3⟩:=RT hk
  have:=hc _ _ a1 a2
  rw [Addr.add_lit,World.cell?_of_block (w:=w) (by rw [hw])]
  rwa [ff,a3] at this)
 refine ⟨_,rfl,hl,by simp,h1,fun i j hi hj=>?_⟩
 have bD:i*sz+j<xs.length*sz:=by
  have:(i+1)*sz≤xs.length*sz:=aW _ hi
  rw [bH,dv] at this;omega
 rw [P1 _ _ _ _ bD,(II hj).1,(II hj).2]
 exact hr i j hi hj
theorem HB (hr:cF X base σ β w) {sz:Nat} {v:Value} {x:ae} {xs:List ae} (hv:bR w (MT X σ β) β v x) (h:eM σ sz x=some xs):∃ news,Src P w (MT X σ β) β sz v xs news:=by
 unfold eM at h
 split at h
 ·rename_i s es
  split at h
  ·rename_i e;subst e
   cases h
   cases hv with
   | @ps a cap _ _ cv jf ft hc ha Nw =>
    by_cases h0 : 0<xs.length
    ·obtain ⟨g,o,rfl⟩:=ha h0
     exact JO ft (fun i j hi hj=>by
      obtain ⟨g',o',e1,e2,_⟩:=hc i j hi hj
      simp only [aE,Addr.mk.injEq,and_true] at e1
      obtain ⟨rfl,rfl⟩:=e1
      exact e2) Nw
    ·have L9:xs=[]:=aY (by omega)
     subst L9
     refine ⟨#[],rfl,?_,by simp,fun i hi=>by simp at hi,fun i j hi=>by simp at hi⟩
     cases a<;>intro _ _<;>simp [Builtin.firstCells,loadCells,loadCellsFrom]
  ·cases h
 ·cases h
  cases hv with
  | aU a =>
   refine ⟨#[],rfl,?_,by simp,fun i hi=>by simp at hi,fun i j hi=>by simp at hi⟩
   cases a<;>intro _ _<;>simp [Builtin.firstCells,loadCells,loadCellsFrom]
 ·rename_i b off n s
  split at h
  ·rename_i e;subst e
   split at h
   ·rename_i es fz hb
    split at h
    ·rename_i hle
     cases h
     obtain ⟨L,h1,_,_,c,e,h2,h3,h4,h5,h6⟩:=hr.cf b _ (jU hb)
     have hlen:((es.drop off).take n).length=n:=by simp;omega
     have eH:∀ k,k<n→((es.drop off).take n).getD k ae.undef=es.getD (off+k) .undef:=fun k hk=>by
      simp [List.getD,hk,dJ]
     cases hv with
     | sv a zh =>
      refine ⟨#[],by rw [hlen];rfl,?_,by simp,fun i hi=>by simp at hi,fun i j hi=>by simp at hi⟩
      rw [hlen]
      cases a<;>intro _ _<;>simp [Builtin.firstCells,loadCells,loadCellsFrom]
     | @os _ _ _ cap L' hL hl hc =>
      obtain rfl:=aM (h1.symm.trans hL)
      have key:=JO (P:=P) (w:=w) (M:=MT X σ β) (β:=β) (g:=L.g) (o:=L.o+off*L.sz) (cap:=cap) (sz:=L.sz) (xs:=(es.drop off).take n) (cv:=fun i j=>c.getD (L.o+(off+i)*L.sz+j) undef)
       (fun i hi=>by rw [eH i (by omega)];exact h5 _ (by omega))
       (fun i j hi hj=>by
        rw [hlen] at hi
        have h7:(off+i+1)*L.sz≤L.n*L.sz:=aW _ (by omega)
        rw [bH,dv] at h7
        rw [cell_of_row w L.g _ c e (0,0) h2,show L.o+off*L.sz+i*L.sz+j=L.o+(off+i)*L.sz+j by rw [bH];omega,tD (by omega)])
       (fun i j hi hj=>by
        rw [hlen] at hi
        rw [eH i hi];exact h6 (off+i) j (by omega) hj)
      rw [hlen] at key
      exact key
    ·cases h
   ·cases h
  ·cases h
 ·rename_i b off n c0 s
  split at h
  ·rename_i e;subst e
   split at h
   ·rename_i es fz hb
    split at h
    ·rename_i hle
     cases h
     obtain ⟨L,h1,_,_,c,e,h2,h3,h4,h5,h6⟩:=hr.cf b _ (jU hb)
     have hlen:((es.drop off).take n).length=n:=by simp;omega
     have eH:∀ k,k<n→((es.drop off).take n).getD k ae.undef=es.getD (off+k) .undef:=fun k hk=>by
      simp [List.getD,hk,dJ]
     cases hv with
     | su a zh =>
      refine ⟨#[],by rw [hlen];rfl,?_,by simp,fun i hi=>by simp at hi,fun i j hi=>by simp at hi⟩
      rw [hlen]
      cases a<;>intro _ _<;>simp [Builtin.firstCells,loadCells,loadCellsFrom]
     | @oc _ _ _ _ L' hL hl hc =>
      obtain rfl:=aM (h1.symm.trans hL)
      have key:=JO (P:=P) (w:=w) (M:=MT X σ β) (β:=β) (g:=L.g) (o:=L.o+off*L.sz) (cap:=c0) (sz:=L.sz) (xs:=(es.drop off).take n) (cv:=fun i j=>c.getD (L.o+(off+i)*L.sz+j) undef)
       (fun i hi=>by rw [eH i (by omega)];exact h5 _ (by omega))
       (fun i j hi hj=>by
        rw [hlen] at hi
        have h7:(off+i+1)*L.sz≤L.n*L.sz:=aW _ (by omega)
        rw [bH,dv] at h7
        rw [cell_of_row w L.g _ c e (0,0) h2,show L.o+off*L.sz+i*L.sz+j=L.o+(off+i)*L.sz+j by rw [bH];omega,tD (by omega)])
       (fun i j hi hj=>by
        rw [hlen] at hi
        rw [eH i hi];exact h6 (off+i) j (by omega) hj)
      rw [hlen] at key
      exact key
    ·cases h
   ·cases h
  ·cases h
 ·cases h
theorem Xv {s:ByteArray}:Src P w M β 1 (.string s) (bytesOf s) (s.data.map fun b=>.int .u8 b.toNat):=by
 have hl:(bytesOf s).length=s.size:=by simp [bytesOf]
 refine ⟨by rw [hl];rfl,?_,by rw [hl];simp,fun i hi=>?_,fun i j hi hj=>?_⟩
 ·rw [hl]
  have:s.extract 0 s.size=s:=by
   apply ByteArray.ext
   rw [ByteArray.data_extract]
   exact Array.extract_eq_self_of_le (ah _)
  intro w' _
  simp only [Builtin.firstCells,this]
  rfl
 ·rw [hl] at hi
  have:(bytesOf s).getD i .undef = .int .u8 (s.data[i]'hi).toNat:=by
   have dR:i<s.data.size:=hi
   simp [bytesOf,List.getD,aB dR]
  rw [this];rfl
 ·rw [hl] at hi
  obtain rfl:j=0:=by omega
  have dR:i<s.data.size:=hi
  have e1:(bytesOf s).getD i .undef = .int .u8 (s.data[i]'hi).toNat:=by simp [bytesOf,List.getD,aB dR]
  have e2:(s.data.map fun b=>Value.int .u8 b.toNat).getD (i*1+0) undef = .int .u8 (s.data[i]'hi).toNat:=by
   rw [aj,eo,Nat.mul_one,cj,aB dR];rfl
  rw [e1,e2]
  exact .int _ _
theorem Zj8 {t u ty e:TypeId} {i:TypeInfo} {z:Value} {d:TypeDesc} (ht:P.underlying t=some (.slice e)) (hu:P.underlying u=some d) (hd:(∃ k,d = .slice k)∨d = .string) (hi:P.info? e=some i) (hz:i.zero=some z)
  {b:Option Addr} {n cap m:Nat} {vx:Value} {olds news:Array Value} (hlen:(Builtin.lenOf vx).run P w = .ok m w) (ot:(Builtin.firstCells i.size m vx).run P w.drew = .ok news w.drew)
  (hold:(Builtin.firstCells i.size n (.slice b n cap)).run P w.drew = .ok olds w.drew) (hg:cap<n+m) (qJ:n+m≤cK i.bytes) (uT:i.bytes≤65536) :
  (Builtin.append_ #[t,u] ty #[.slice b n cap,vx]).run P w =
   .ok (.slice (some ⟨w.heap.size,0,none⟩) (n+m) (grownCap w (n+m) cap e)) (w.drew.alloc (.cells (olds++news++Builtin.zeroCells z.cells (grownCap w (n+m) cap e - (n+m))) e)):=by
 have h1:¬ n+m≤cap:=by omega
 have Ja:=SV i.bytes
 have h2:¬ (((n+m:Nat):Int) > IntKind.i64.max):=by
  have:IntKind.i64.max=9223372036854775807:=by decide
  rw [this];omega
 have uS:¬ ((n:Int)+(m:Int) > IntKind.i64.max):=by
  have:IntKind.i64.max=9223372036854775807:=by decide
  rw [this];omega
 have h4:¬ (9223372036854775807<(n:Int)+(m:Int)∧i.bytes=0):=by omega
 have h3:¬ (Builtin.nextslicecap (n+m) cap*i.bytes > 2 ^ 48):=by
  have:=growslice_fits_wide (old:=cap) hg (Rk qJ uT)
  omega
 rcases hd with ⟨k,rfl⟩ | rfl
 ·simp [Builtin.append_,run_underlying ht,run_underlying hu,sizeOf,typeInfo,zeroValue,hi,hz,hlen,h1,uS,h3,h4,Question.forced,hold,ot,newRow,grownCap]
 ·simp [Builtin.append_,run_underlying ht,run_underlying hu,sizeOf,typeInfo,zeroValue,hi,hz,hlen,h1,uS,h3,h4,Question.forced,hold,ot,newRow,grownCap]
theorem Zm8 {t u ty e:TypeId} {i:TypeInfo} {d:TypeDesc} (ht:P.underlying t=some (.slice e)) (hu:P.underlying u=some d) (hd:(∃ k,d = .slice k)∨d = .string) (hi:P.info? e=some i)
  {g o n cap m:Nat} {vx:Value} {news:Array Value} (hlen:(Builtin.lenOf vx).run P w = .ok m w) (ot:(Builtin.firstCells i.size m vx).run P w = .ok news w) (hg:n+m≤cap) {w':World}
  (fP:(storeCells ⟨g,o+n*i.size,none⟩ news.toList).run P w = .ok () w') :
  (Builtin.append_ #[t,u] ty #[.slice (some ⟨g,o,none⟩) n cap,vx]).run P w = .ok (.slice (some ⟨g,o,none⟩) (n+m) cap) w':=by
 rcases hd with ⟨k,rfl⟩ | rfl<;>simp [Builtin.append_,run_underlying ht,run_underlying hu,sizeOf,typeInfo,hi,hlen,hg,ot,Addr.add_lit,fP]
theorem Zkm {t u ty e:TypeId} {i:TypeInfo} {d:TypeDesc} (ht:P.underlying t=some (.slice e)) (hu:P.underlying u=some d) (hd:(∃ k,d = .slice k)∨d = .string) (hi:P.info? e=some i)
  {b:Option Addr} {c:Nat} {vx:Value} {news:Array Value} (hlen:(Builtin.lenOf vx).run P w = .ok 0 w) (ot:(Builtin.firstCells i.size 0 vx).run P w = .ok news w) (zq:news.size=0) :
  (Builtin.append_ #[t,u] ty #[.slice b 0 c,vx]).run P w = .ok (.slice b 0 c) w:=by
 have:news = #[]:=lz zq
 subst this
 rcases hd with ⟨k,rfl⟩ | rfl<;>cases b<;>simp [Builtin.append_,run_underlying ht,run_underlying hu,sizeOf,typeInfo,hi,hlen,ot,storeCells]
structure mJ (P:Program) (w:World) (t u ty e:TypeId) (m:Nat) (vx:Value) (news:Array Value):Prop where
 grow:∀ (i:TypeInfo) (z:Value),P.info? e=some i→i.zero=some z→∀ {b:Option Addr} {n cap:Nat} {olds:Array Value},(Builtin.firstCells i.size n (.slice b n cap)).run P w.drew = .ok olds w.drew→cap<n+m→n+m≤cK i.bytes→i.bytes≤65536 →
  (Builtin.append_ #[t,u] ty #[.slice b n cap,vx]).run P w =
   .ok (.slice (some ⟨w.heap.size,0,none⟩) (n+m) (grownCap w (n+m) cap e)) (w.drew.alloc (.cells (olds++news++Builtin.zeroCells z.cells (grownCap w (n+m) cap e - (n+m))) e))
 VQ:∀ (i:TypeInfo),P.info? e=some i→∀ {g o n cap:Nat} {w':World},n+m≤cap→(storeCells ⟨g,o+n*i.size,none⟩ news.toList).run P w = .ok () w' →
  (Builtin.append_ #[t,u] ty #[.slice (some ⟨g,o,none⟩) n cap,vx]).run P w = .ok (.slice (some ⟨g,o,none⟩) (n+m) cap) w'
 none:m=0→∀ (b:Option Addr) (c:Nat),(Builtin.append_ #[t,u] ty #[.slice b 0 c,vx]).run P w = .ok (.slice b 0 c) w
theorem mJ.yL {t u ty e:TypeId} {d:TypeDesc} (ht:P.underlying t=some (.slice e)) (hu:P.underlying u=some d) (hd:(∃ k,d = .slice k)∨d = .string) {l:eI} (he:aC P e=some l)
  {vx:Value} {xs:List ae} {news:Array Value} (hx:Src P w M β l.sz vx xs news):mJ P w t u ty e xs.length vx news:=by
 obtain ⟨i,_,z,hi,_,hz,ft,_⟩:=pW he
 have ot:∀ w':World,w'.heap=w.heap→(Builtin.firstCells i.size xs.length vx).run P w' = .ok news w':=fun w' hw=>by rw [ft];exact hx.cells w' hw
 refine ⟨fun i' z' dR NP b n cap olds hold h1 h2 h3=>?_,fun i' dR g o n cap w' h1 h2=>?_,fun h0 b c=>?_⟩
 ·obtain rfl:=aM (dR.symm.trans hi)
  obtain rfl:=aM (NP.symm.trans hz)
  exact Zj8 ht hu hd hi hz hx.len (ot w.drew rfl) hold h1 h2 h3
 ·obtain rfl:=aM (dR.symm.trans hi)
  exact Zm8 ht hu hd hi hx.len (ot w rfl) h1 h2
 ·have hl:=hx.len;rw [h0] at hl
  have VE:=ot w rfl;rw [h0] at VE
  exact Zkm ht hu hd hi hl VE (by rw [hx.size,h0];simp)
theorem P7 (a b c:Array Value) (p:Nat):(a++b++c).getD p undef=if p<a.size then a.getD p undef else if p<a.size+b.size then b.getD (p - a.size) undef else c.getD (p - (a.size+b.size)) undef:=by
 rw [aj,lg,Array.size_append]
 by_cases h1:p<a.size
 ·rw [if_pos (by omega),if_pos h1,lg,if_pos h1,aj]
 ·by_cases h2:p<a.size+b.size
  ·rw [if_pos h2,if_neg h1,if_pos h2,lg,if_neg h1,aj]
  ·rw [if_neg h2,if_neg h1,if_neg h2,aj]
theorem ta (a b:List ae) (i:Nat):(a++b).getD i .undef=if i<a.length then a.getD i .undef else b.getD (i - a.length) .undef:=by
 simp only [List.getD,qy]
 split<;>rfl
theorem Ks {sz n m cap:Nat} {et:TypeId} {z:Value} (hz:z.cells.size=sz) {mf pN:List ae} {olds news:Array Value} (ho:olds.size=mf.length*sz) (hn:news.size=pN.length*sz)
  (h1:∀ i,i<mf.length→(mf.getD i .undef).cells.length=sz) (h2:∀ i,i<pN.length→(pN.getD i .undef).cells.length=sz)
  (ou:∀ i j,i<mf.length→j<sz→bR w M β (olds.getD (i*sz+j) undef) ((mf.getD i .undef).cells.getD j .undef))
  (nH:∀ i j,i<pN.length→j<sz→bR w M β (news.getD (i*sz+j) undef) ((pN.getD i .undef).cells.getD j .undef))
  (e1:mf.length=n) (e2:pN.length=m) (jf:n+m≤cap) {w':World} {M':Nat→Nat→Prop} {β':Env} (hk:dg w M w' M') (hβ:∀ b L,β b=some L→β' b=some L) {g:Nat}
  (hg:w'.heap[g]? = some (.cells (olds++news++Builtin.zeroCells z.cells (cap - (n+m))) et (0,0))) (fz:Nat):fR w' M' β' ⟨g,0,cap,sz⟩ (.row (mf++pN) fz):=by
 subst e1;subst e2
 refine ⟨_,et,hg,?_,by simpa using jf,fun i hi=>?_,fun i j hi hj=>?_⟩
 ·simp only [Array.size_append,size_zeroCells,hz,ho,hn,bm,← bH]
  rw [show mf.length+pN.length+(cap - (mf.length+pN.length))=cap by omega];exact ah _
 ·simp only [ay] at hi
  rw [ta]
  split
  ·exact h1 i (by assumption)
  ·exact h2 _ (by omega)
 ·simp only [ay] at hi
  simp only [bm] at hj ⊢
  rw [ta,P7]
  by_cases hc:i<mf.length
  ·have:(i+1)*sz≤mf.length*sz:=aW _ hc
   rw [bH,dv] at this
   rw [if_pos (by omega),if_pos hc]
   exact (ou i j hc hj).mono hk hβ
  ·have h3:mf.length*sz≤i*sz:=aW _ (by omega)
   have h4:(i - mf.length+1)*sz≤pN.length*sz:=aW _ (by omega)
   rw [bH,dv,ke] at h4
   rw [if_neg (by omega),if_neg hc,if_pos (by omega)]
   have:=nH (i - mf.length) j (by omega) hj
   rw [ke] at this
   rw [ho,show i*sz+j - mf.length*sz=i*sz - mf.length*sz+j by omega]
   exact this.mono hk hβ
theorem bR.rj {v:Value} {b off n sz:Nat} (h:bR w M β v (.os b off n sz)):(n=0∧∃ a L,β b=some L∧L.sz=sz∧v = .slice a 0 0) ∨
  ∃ L cap,β b=some L∧L.sz=sz∧n≤cap∧off+cap≤L.n∧v = .slice (some ⟨L.g,L.o+off*L.sz,none⟩) n cap:=by
 cases h with
 | sv a h=>exact .inl ⟨rfl,a,_,h,rfl,rfl⟩
 | os h1 h2 h3=>exact .inr ⟨_,_,h1,rfl,h2,h3,rfl⟩
theorem bR.one {v:Value} {a:ae} (h:bR w M β v a) (hc:a.cI=true):v.oneCell'=true:=by
 cases h<;>first | rfl | (simp [ae.cI] at hc)
theorem sD.DH {sz:Nat} {xs:List ae} {news:Array Value} (h:sD w M β sz xs news) (hc:∀ x∈xs,x.cells.all ae.cI=true):∀ u∈news.toList,u.oneCell'=true:=by
 intro u hu
 obtain ⟨p,hp,rfl⟩:=ml hu
 simp only [bA] at hp
 rw [h.size] at hp
 obtain ⟨a1,a2,a3⟩:=RT hp
 have h1:=h.rep _ _ a1 a2
 rw [a3] at h1
 have e1:news.getD p undef=news.toList[p]'(by simpa [h.size] using hp):=by
  have:p<news.size:=by rw [h.size];exact hp
  simp [Array.getD,this]
 rw [e1] at h1
 refine h1.one ?_
 have h2:=hc (xs.getD (p / sz) .undef) (by simp only [List.getD,aA a1,br];exact aF a1)
 have h3:=h.one _ a1
 rw [bp] at h2
 have h4:p % sz<(xs.getD (p / sz) .undef).cells.length:=by omega
 have e2:(xs.getD (p / sz) .undef).cells.getD (p % sz) .undef=(xs.getD (p / sz) .undef).cells[p % sz]:=by
  rw [dm,aA h4];rfl
 rw [e2]
 exact h2 _ (aF h4)
theorem Wv (hr:cF X base σ β w) (hn : β nm=none) (BD:bF σ nm=none) {t u et:TypeId} {e:eI} (he:aC P et=some e) {vs vx:Value} {s:ae} {xs:List ae} {news:Array Value} (hs:bR w (MT X σ β) β vs s) (hx:sD w (MT X σ β) β e.sz xs news)
  {r:ae} {σ':ai} (h:l5 σ nm e s xs=some (r,σ')) (ty:TypeId) (ha:mJ P w t u ty et xs.length vx news) {S:Sem Next} (hS:S=(do pure (.value (← Builtin.append_ #[t,u] ty #[vs,vx])))):cO P X base σ β w nm S r σ':=by
 obtain ⟨i,_,z,hi,_,hz,ft,_,Ap,_,_,_,Du⟩:=pW he
 unfold l5 at h
 split at h
 case isFalse=>cases h
 rename_i hc
 obtain ⟨rD,kY,Aq⟩:=hc
 have m0:∀ M':Nat→Nat→Prop,True:=fun _=>trivial
 split at h
 ·split at h
  ·rename_i h0
   cases h
   cases hs with
   | aU a =>
    refine cO.val hr (v:=.slice a 0 0) ?_ (.aU a)
    rw [hS,Sem.run_bind,ha.none h0];rfl
  ·rename_i h0
   split at h
   ·rename_i hb
    cases h
    cases hs with
    | aU a =>
     have uU:=grownCap_ge w (0+xs.length) 0 et
     have hold:(Builtin.firstCells i.size 0 (.slice a 0 0)).run P w.drew = .ok #[] w.drew:=by cases a<;>simp [Builtin.firstCells,loadCells,loadCellsFrom]
     have eO:=ha.grow i z hi hz hold (by omega) (by first | (rw [← Ap];omega) | (rw [Ap];omega)) (by omega)
     rw [bm] at eO uU
     refine zb hr hn (.row xs 0) (grownCap w xs.length 0 et) e.sz (w':=w.drew.alloc (.cells (#[]++news++Builtin.zeroCells z.cells (grownCap w xs.length 0 et - xs.length)) et)) rfl rfl rfl rfl (by rw [hS,Sem.run_bind,eO];rfl) ?_ ?_
     ·intro M' β' hk hβ
      have:=Ks (w:=w) (M:=MT X σ β) (β:=β) (n:=0) (m:=xs.length) (cap:=grownCap w xs.length 0 et) (et:=et) (z:=z) Du (mf:=[]) (pN:=xs) (olds:=#[]) (news:=news) (by simp) hx.size (fun i hi=>by simp at hi) hx.one (fun i j hi=>by simp at hi) hx.rep rfl rfl (by omega) hk hβ (g:=w.heap.size) (by
       rw [bm];exact xG w.drew _) 0
      simpa using this
     ·intro M'
      have:=bR.os (w:=w.drew.alloc (.cells (#[]++news++Builtin.zeroCells z.cells (grownCap w xs.length 0 et - xs.length)) et)) (M:=M') (β:=o7 β nm ⟨w.heap.size,0,grownCap w xs.length 0 et,e.sz⟩) (b:=nm) (off:=0) (len:=xs.length) (cap:=grownCap w xs.length 0 et) (L:=⟨w.heap.size,0,grownCap w xs.length 0 et,e.sz⟩) (tI _ _ _) uU (by simp)
      simpa using this
   ·cases h
 ·rename_i b off n sz
  split at h
  ·rename_i es fz hb
   split at h
   ·rename_i mA
    obtain ⟨rfl,hcf,MD,hcn⟩:=mA
    cases h
    obtain ⟨L,h1,ug,hX,c,ec,h2,h3,h4,h5,h6⟩:=hr.cf b _ (jU hb)
    have hlen:((es.drop off).take n).length=n:=by simp;omega
    have eH:∀ k,k<n→((es.drop off).take n).getD k ae.undef=es.getD (off+k) .undef:=fun k hk=>by
     simp [List.getD,hk,dJ]
    have mc:b≠nm:=by rintro rfl;rw [hb] at BD;cases BD
    have vY : σ[b]? = some (some (.row es fz)):=jU hb
    have Mz:b < σ.length:=(aH.1 vY).1
    have iZ:∀ c' x,c'≠nm→(b_ (σ.set b none) nm (.row ((es.drop off).take n++xs) (fz - off)))[c']? = some (some x)→σ[c']? = some (some x)∧c'≠b:=by
     intro c' x qN sl
     have:=zJ _ _ _ qN sl
     by_cases e1:c'=b
     ·subst e1;simp [Mz] at this
     ·rw [bK (fY e1)] at this;exact ⟨this,e1⟩
    have yj : σ.length≤(b_ (σ.set b none) nm (.row ((es.drop off).take n++xs) (fz - off))).length:=by
     have:=A6 (σ.set b none) nm (.row ((es.drop off).take n++xs) (fz - off));simpa using this
    have grow:∀ (a:Option Addr) (cap:Nat) (olds:Array Value),vs = .slice a n cap→cap<n+xs.length→(∀ w':World,w'.heap=w.heap→(Builtin.firstCells i.size n (.slice a n cap)).run P w' = .ok olds w') →
      olds.size=n*e.sz→(∀ k j,k<n→j<e.sz→bR w (MT X σ β) β (olds.getD (k*e.sz+j) undef) ((es.getD (off+k) .undef).cells.getD j .undef))→(∀ k,k<n→(es.getD (off+k) .undef).cells.length=e.sz) →
      cO P X base σ β w nm S (.os nm 0 (n+xs.length) e.sz) (b_ (σ.set b none) nm (.row ((es.drop off).take n++xs) (fz - off))):=by
     intro a cap olds me bD hold yq yp qi
     have uU:=grownCap_ge w (n+xs.length) cap et
     have eO:=ha.grow i z hi hz (hold w.drew rfl) bD (by first | (rw [← Ap];omega) | (rw [Ap];omega)) (by omega)
     obtain ⟨k1,k2,k3,k4⟩:=Ec hr nm ⟨w.heap.size,0,grownCap w (n+xs.length) cap et,e.sz⟩ (.row ((es.drop off).take n++xs) (fz - off)) (σ':=b_ (σ.set b none) nm (.row ((es.drop off).take n++xs) (fz - off)))
      (β':=o7 β nm ⟨w.heap.size,0,grownCap w (n+xs.length) cap et,e.sz⟩) (w':=w.drew.alloc (.cells (olds++news++Builtin.zeroCells z.cells (grownCap w (n+xs.length) cap et - (n+xs.length))) et))
      (DY _ _ _) (fun c' x qN sl=>⟨(iZ c' x qN sl).1,fun Lc hL=>by have:=Fu hr (iZ c' x qN sl).1 hL;simp only;omega⟩) yj (tI _ _ _) (fun c' qN=>Cg _ _ _ qN) (.inl hn)
      rfl rfl rfl (by simp) (fun g hg _=>heap_alloc_old w.drew _ g hg) (fun xa v qN _=>absurd (xI qN) (by simp)) (fun h=>absurd h (by simp)) (fun xa _=>.inr (ah _)) (fun o' sl=>absurd (hr.p6 _ _ sl) (by simp)) hr.size
     refine ⟨_,_,_, .inl (by rw [hS,me,Sem.run_bind,eO];rfl),k4 (Ks (w:=w) (M:=MT X σ β) (β:=β) (z:=z) Du (mf:=(es.drop off).take n) (pN:=xs) (olds:=olds) (news:=news) (by rw [hlen];exact yq) hx.size ?_ hx.one ?_ hx.rep hlen rfl uU k2 k3 (xG w.drew _) _),?_,k1,fun b' mY=>Cg _ _ _ mY,k3⟩
     ·intro k hk;rw [hlen] at hk;rw [eH k hk];exact qi k hk
     ·intro k j hk hj;rw [hlen] at hk;rw [eH k hk];exact yp k j hk hj
     ·have:=bR.os (w:=w.drew.alloc (.cells (olds++news++Builtin.zeroCells z.cells (grownCap w (n+xs.length) cap et - (n+xs.length))) et)) (M:=MT X (b_ (σ.set b none) nm (.row ((es.drop off).take n++xs) (fz - off))) (o7 β nm ⟨w.heap.size,0,grownCap w (n+xs.length) cap et,e.sz⟩)) (β:=o7 β nm ⟨w.heap.size,0,grownCap w (n+xs.length) cap et,e.sz⟩) (b:=nm) (off:=0) (len:=n+xs.length) (cap:=grownCap w (n+xs.length) cap et) (L:=⟨w.heap.size,0,grownCap w (n+xs.length) cap et,e.sz⟩) (tI _ _ _) uU (by simp)
      simpa using this
    have stay:∀ (a:Option Addr) (cap:Nat) (w':World),vs = .slice a n cap→L.sz=e.sz→off+(n+xs.length)≤L.n →
      (Builtin.append_ #[t,u] ty #[vs,vx]).run P w = .ok (.slice a (n+xs.length) cap) w'→w'=w.setRow L.g (c.toList.take (L.o+off*L.sz+n*L.sz)++news.toList++c.toList.drop (L.o+off*L.sz+n*L.sz+news.toList.length)).toArray →
      (∀ w1 M1,bR w1 M1 (o7 β nm ⟨L.g,L.o+off*L.sz,L.n - off,L.sz⟩) (.slice a (n+xs.length) cap) (.os nm 0 (n+xs.length) e.sz)) →
      cO P X base σ β w nm S (.os nm 0 (n+xs.length) e.sz) (b_ (σ.set b none) nm (.row ((es.drop off).take n++xs) (fz - off))):=by
     intro a cap w' me ju yc eO w6 ha
     subst w6
     have v8:(off+n+xs.length)*L.sz≤L.n*L.sz:=aW _ (by omega)
     rw [bH,bH] at v8
     have EC:news.size=xs.length*L.sz:=by rw [hx.size,ju]
     have oU:L.o+off*L.sz+n*L.sz+news.toList.length≤c.size:=by simp only [bA];omega
     obtain ⟨f1,f2,f3,f4,f5,f6⟩:=Hq w (c':=(c.toList.take (L.o+off*L.sz+n*L.sz)++news.toList++c.toList.drop (L.o+off*L.sz+n*L.sz+news.toList.length)).toArray) h2
     have nE:∀ o',L.o+fz*L.sz≤o'→iQ σ β L.g o':=fun o' Jc=>⟨b,_,L,vY,h1,rfl,Jc⟩
     have Gi:fz*L.sz≤(off+n)*L.sz:=aW _ hcf
     rw [bH] at Gi
     obtain ⟨k1,k2,k3,k4⟩:=Ec hr nm ⟨L.g,L.o+off*L.sz,L.n - off,L.sz⟩ (.row ((es.drop off).take n++xs) (fz - off)) (σ':=b_ (σ.set b none) nm (.row ((es.drop off).take n++xs) (fz - off)))
      (β':=o7 β nm ⟨L.g,L.o+off*L.sz,L.n - off,L.sz⟩) (w':=w.setRow L.g (c.toList.take (L.o+off*L.sz+n*L.sz)++news.toList++c.toList.drop (L.o+off*L.sz+n*L.sz+news.toList.length)).toArray)
      (DY _ _ _) (fun c' x qN sl=>⟨(iZ c' x qN sl).1,fun Lc hL tq=>(iZ c' x qN sl).2 (hr.inj c' b x _ Lc L (iZ c' x qN sl).1 vY hL h1 tq)⟩) yj (tI _ _ _) (fun c' qN=>Cg _ _ _ qN) (.inl hn)
      f1 f2 f3 (pc f4.symm) (fun g _ hg=>f5 g hg)
      (fun xa v gK sO=>by
       have aZ:xa<L.o+fz*L.sz:=jv fun hle=>sO (nE xa hle)
       rw [cell_of_row _ _ _ _ _ _ f6]
       simp only at gK
       rw [cell_of_row _ _ _ _ _ _ h2] at gK
       obtain ⟨bD,hv⟩:=aL.1 gK
       rw [tD (by rw [B9 _ _ _ oU];exact bD),Ca _ _ _ oU,if_neg (by omega),← tD bD];exact gK)
      (fun _ sO=>absurd (nE _ (ah _)) (sO _))
      (fun xa hm=>.inl (nE xa (by
       simp only [bE.mut,ke] at hm
       omega))) hX ug
     refine ⟨_,_,_, .inl (by rw [hS,Sem.run_bind,eO];rfl),k4 ⟨_,ec,f6,?_,?_,fun k hk=>?_,fun k j hk hj=>?_⟩,?_,k1,fun b' mY=>Cg _ _ _ mY,k3⟩
     ·rw [B9 _ _ _ oU]
      simp only
      rw [ke]
      have:off*L.sz≤L.n*L.sz:=aW _ (by omega)
      omega
     ·simp only [ay,hlen];omega
     ·simp only [ay,hlen] at hk
      rw [ta,hlen]
      split
      ·rw [eH k (by assumption)];exact h5 _ (by omega)
      ·simp only;rw [ju];exact hx.one _ (by omega)
     ·simp only [ay,hlen] at hk
      simp only at hj ⊢
      rw [ta,hlen,Ca _ _ _ oU]
      simp only [bA]
      by_cases Av:k<n
      ·have h7:(k+1)*L.sz≤n*L.sz:=aW _ Av
       rw [bH,dv] at h7
       rw [if_neg (by omega),if_pos Av,eH k Av]
       have:=h6 (off+k) j (by omega) hj
       rw [bH] at this
       rw [show L.o+off*L.sz+k*L.sz+j=L.o+(off*L.sz+k*L.sz)+j by omega]
       exact this.mono k2 k3
      ·have h7:n*L.sz≤k*L.sz:=aW _ (by omega)
       have h8:(k - n+1)*L.sz≤xs.length*L.sz:=aW _ (by omega)
       rw [bH,dv,ke] at h8
       rw [if_pos (by omega),if_neg Av]
       have:=hx.rep (k - n) j (by omega) (by omega)
       rw [show news.toList.getD (L.o+off*L.sz+k*L.sz+j - (L.o+off*L.sz+n*L.sz)) undef=news.getD (L.o+off*L.sz+k*L.sz+j - (L.o+off*L.sz+n*L.sz)) undef by simp [List.getD,aj]]
       rw [← ju,ke] at this
       rw [show L.o+off*L.sz+k*L.sz+j - (L.o+off*L.sz+n*L.sz)=k*L.sz - n*L.sz+j by omega]
       exact this.mono k2 k3
     ·exact ha _ _
    rcases hs.rj with ⟨rfl,a,L0,zh,ju,rfl⟩ | ⟨L',cap,hL,ju,hl,F8,rfl⟩
    ·by_cases h0:xs.length=0
     ·have Dr:xs=[]:=aY h0
      have xv:news = #[]:=lz (by rw [hx.size,h0,pf])
      obtain rfl:=aM (h1.symm.trans zh)
      ·refine stay a 0 w rfl ju (by omega) ?_ ?_ fun w1 M1=>?_
       ·rw [h0];exact ha.none h0 a 0
       ·subst xv
        simp only [bn,aR,cj,List.take_append_drop,qv]
        exact (setRow_self w L.g c ec (0,0) h2).symm
       ·rw [h0,← ju];exact .sv (L:=⟨L.g,L.o+off*L.sz,L.n - off,L.sz⟩) a (tI _ _ _)
     ·refine grow a 0 #[] rfl (by omega) (fun w' _=>by cases a<;>simp [Builtin.firstCells,loadCells,loadCellsFrom]) (by simp) (fun k j hk=>by omega) (fun k hk=>by omega)
    ·obtain rfl:=aM (h1.symm.trans hL)
     by_cases sf:n+xs.length≤cap
     ·have v8:(off+n+xs.length)*L.sz≤L.n*L.sz:=aW _ (by omega)
      rw [bH,bH] at v8
      have EC:=hx.size
      rw [← ju] at EC
      have qi:∀ v∈news.toList,v.oneCell'=true:=hx.DH fun x sl=>by
       have:=bp.1 rD x sl
       simp only [aD] at this
       exact this.2
      have fP:=run_storeCells_at P L.g (L.o+off*L.sz+n*L.sz) ec news.toList 0 c w h2 (by simp only [cj,bA];omega) qi
      simp only [cj] at fP
      refine stay _ cap _ rfl ju (by omega) (ha.VQ i hi sf (by rw [ft,← ju];exact fP)) rfl fun w1 M1=>?_
      have:=bR.os (w:=w1) (M:=M1) (β:=o7 β nm ⟨L.g,L.o+off*L.sz,L.n - off,L.sz⟩) (b:=nm) (off:=0) (len:=n+xs.length) (cap:=cap) (L:=⟨L.g,L.o+off*L.sz,L.n - off,L.sz⟩) (tI _ _ _) sf (by simp only;omega)
      simp only [pf,cj] at this
      rw [← ju];exact this
     ·obtain ⟨olds,nJ⟩:=HB (P:=P) hr (sz:=L.sz) (v:=.slice (some ⟨L.g,L.o+off*L.sz,none⟩) n cap) (x:=.os b off n L.sz) (xs:=(es.drop off).take n) (.os h1 hl F8) (by simp [eM,hb,MD])
      have al6:=ju
      refine grow _ cap olds rfl (by omega) (fun w' w6=>?_) ?_ (fun k j hk hj=>?_) (fun k hk=>by rw [← ju];exact h5 _ (by omega))
      ·have:=nJ.cells w' w6;rw [hlen] at this;rw [ft,← ju];exact this
      ·have:=nJ.size;rw [hlen] at this;rw [← ju];exact this
      ·have:=nJ.rep k j (by omega) (by omega);rw [eH k hk] at this;rw [← ju];exact this
   ·cases h
  ·cases h
 ·cases h
end
end Go.cV
