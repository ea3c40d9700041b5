/- Part 7 of my own framework and of the walks of functions: AbsJ. -/
import Derived.Test.YtpgnahcljlclcaaGreatOwn6
import Derived.Deep.DeepAppendWide
set_option linter.unusedVariables false
set_option linter.unusedSectionVars false
set_option linter.unusedSimpArgs false
namespace Go.Abs
open Go
section
variable {P:Program} {X:Nat→Nat→Prop} {base:Nat} {σ:Store} {β:Env} {w:World} {nm:Nat} {M:Nat→Nat→Prop}
structure Src (P:Program) (w:World) (M:Nat→Nat→Prop) (β:Env) (sz:Nat) (v:Value) (xs:List AVal) (news:Array Value):Prop where
 len:(Builtin.lenOf v).run P w = .ok xs.length w
 cells:∀ w':World,w'.heap=w.heap→(Builtin.firstCells sz xs.length v).run P w' = .ok news w'
 size:news.size=xs.length*sz
 one:∀ i,i<xs.length→(xs.getD i .undef).cells.length=sz
 rep:∀ i j,i<xs.length→j<sz→Rep w M β (news.getD (i*sz+j) undef) ((xs.getD i .undef).cells.getD j .undef)
structure Src0 (w:World) (M:Nat→Nat→Prop) (β:Env) (sz:Nat) (xs:List AVal) (news:Array Value):Prop where
 size:news.size=xs.length*sz
 one:∀ i,i<xs.length→(xs.getD i .undef).cells.length=sz
 rep:∀ i j,i<xs.length→j<sz→Rep w M β (news.getD (i*sz+j) undef) ((xs.getD i .undef).cells.getD j .undef)
theorem Src.to0 {sz:Nat} {v:Value} {xs:List AVal} {news:Array Value} (h:Src P w M β sz v xs news):Src0 w M β sz xs news:=⟨h.size,h.one,h.rep⟩
theorem Ztu {i j sz:Nat} (h:j<sz):(i*sz+j) / sz=i∧(i*sz+j) % sz=j:=by
 have h0 : 0<sz:=by omega
 constructor
 ·rw [Nat.mul_comm,Nat.mul_add_div h0,Nat.div_eq_of_lt h];omega
 ·rw [Nat.mul_comm,Nat.mul_add_mod,Nat.mod_eq_of_lt h]
theorem Zq1 {n sz k:Nat} (h:k<n*sz):k / sz<n∧k % sz<sz∧k / sz*sz+k % sz=k:=by
 have h0 : 0<sz:=by
  rcases Nat.eq_zero_or_pos sz with e | e
  ·subst e;simp at h
  ·exact e
 exact ⟨Nat.div_lt_of_lt_mul (by rwa [Nat.mul_comm]),Nat.mod_lt _ h0,by rw [Nat.mul_comm];exact Nat.div_add_mod k sz⟩
theorem Zfh {g o cap sz:Nat} {xs:List AVal} {cv:Nat→Nat→Value} (h1:∀ i,i<xs.length→(xs.getD i .undef).cells.length=sz)
  (hc:∀ i j,i<xs.length→j<sz→w.cell? ⟨g,o+i*sz+j,none⟩=some (cv i j)) (hr:∀ i j,i<xs.length→j<sz→Rep w M β (cv i j) ((xs.getD i .undef).cells.getD j .undef)) :
  ∃ news,Src P w M β sz (.slice (some ⟨g,o,none⟩) xs.length cap) xs news:=by
 have hl:=fun (w':World) (hw:w'.heap=w.heap)=>run_loadCells (P:=P) w' ⟨g,o,none⟩ (xs.length*sz) (fun k=>cv (k / sz) (k % sz)) (fun k hk=>by
  obtain ⟨a1,a2,a3⟩:=Zq1 hk
  have:=hc _ _ a1 a2
  rw [Addr.add_lit,World.cell?_of_block (w:=w) (by rw [hw])]
  rwa [Nat.add_assoc,a3] at this)
 refine ⟨_,rfl,hl,by simp,h1,fun i j hi hj=>?_⟩
 have hlt:i*sz+j<xs.length*sz:=by
  have:(i+1)*sz≤xs.length*sz:=Nat.mul_le_mul_right _ hi
  rw [Nat.add_mul,Nat.one_mul] at this;omega
 rw [Zgb _ _ _ _ hlt,(Ztu hj).1,(Ztu hj).2]
 exact hr i j hi hj
theorem Zfv (hr:RelS X base σ β w) {sz:Nat} {v:Value} {x:AVal} {xs:List AVal} (hv:Rep w (MT X σ β) β v x) (h:elemsA σ sz x=some xs):∃ news,Src P w (MT X σ β) β sz v xs news:=by
 unfold elemsA at h
 split at h
 ·rename_i s es
  split at h
  ·rename_i e;subst e
   cases h
   cases hv with
   | @ps a cap _ _ cv hcap hsz hc ha hrr =>
    by_cases h0 : 0<xs.length
    ·obtain ⟨g,o,rfl⟩:=ha h0
     exact Zfh hsz (fun i j hi hj=>by
      obtain ⟨g',o',e1,e2,_⟩:=hc i j hi hj
      simp only [Option.some.injEq,Addr.mk.injEq,and_true] at e1
      obtain ⟨rfl,rfl⟩:=e1
      exact e2) hrr
    ·have h0':xs=[]:=List.eq_nil_of_length_eq_zero (by omega)
     subst h0'
     refine ⟨#[],rfl,?_,by simp,fun i hi=>by simp at hi,fun i j hi=>by simp at hi⟩
     cases a<;>intro _ _<;>simp [Builtin.firstCells,loadCells,loadCellsFrom]
  ·cases h
 ·cases h
  cases hv with
  | nils a =>
   refine ⟨#[],rfl,?_,by simp,fun i hi=>by simp at hi,fun i j hi=>by simp at hi⟩
   cases a<;>intro _ _<;>simp [Builtin.firstCells,loadCells,loadCellsFrom]
 ·rename_i b off n s
  split at h
  ·rename_i e;subst e
   split at h
   ·rename_i es fz hb
    split at h
    ·rename_i hle
     cases h
     obtain ⟨L,h1,_,_,c,e,h2,h3,h4,h5,h6⟩:=hr.blk b _ (Zae hb)
     have hlen:((es.drop off).take n).length=n:=by simp;omega
     have hget:∀ k,k<n→((es.drop off).take n).getD k AVal.undef=es.getD (off+k) .undef:=fun k hk=>by
      simp [List.getD,hk,List.getElem?_drop]
     cases hv with
     | os0 a hL0 =>
      refine ⟨#[],by rw [hlen];rfl,?_,by simp,fun i hi=>by simp at hi,fun i j hi=>by simp at hi⟩
      rw [hlen]
      cases a<;>intro _ _<;>simp [Builtin.firstCells,loadCells,loadCellsFrom]
     | @os _ _ _ cap L' hL hl hc =>
      obtain rfl:=Option.some.inj (h1.symm.trans hL)
      have key:=Zfh (P:=P) (w:=w) (M:=MT X σ β) (β:=β) (g:=L.g) (o:=L.o+off*L.sz) (cap:=cap) (sz:=L.sz) (xs:=(es.drop off).take n) (cv:=fun i j=>c.getD (L.o+(off+i)*L.sz+j) undef)
       (fun i hi=>by rw [hget i (by omega)];exact h5 _ (by omega))
       (fun i j hi hj=>by
        rw [hlen] at hi
        have h7:(off+i+1)*L.sz≤L.n*L.sz:=Nat.mul_le_mul_right _ (by omega)
        rw [Nat.add_mul,Nat.one_mul] at h7
        rw [cell_of_row w L.g _ c e (0,0) h2,show L.o+off*L.sz+i*L.sz+j=L.o+(off+i)*L.sz+j by rw [Nat.add_mul];omega,Zan (by omega)])
       (fun i j hi hj=>by
        rw [hlen] at hi
        rw [hget i hi];exact h6 (off+i) j (by omega) hj)
      rw [hlen] at key
      exact key
    ·cases h
   ·cases h
  ·cases h
 ·rename_i b off n c0 s
  split at h
  ·rename_i e;subst e
   split at h
   ·rename_i es fz hb
    split at h
    ·rename_i hle
     cases h
     obtain ⟨L,h1,_,_,c,e,h2,h3,h4,h5,h6⟩:=hr.blk b _ (Zae hb)
     have hlen:((es.drop off).take n).length=n:=by simp;omega
     have hget:∀ k,k<n→((es.drop off).take n).getD k AVal.undef=es.getD (off+k) .undef:=fun k hk=>by
      simp [List.getD,hk,List.getElem?_drop]
     cases hv with
     | oc0 a hL0 =>
      refine ⟨#[],by rw [hlen];rfl,?_,by simp,fun i hi=>by simp at hi,fun i j hi=>by simp at hi⟩
      rw [hlen]
      cases a<;>intro _ _<;>simp [Builtin.firstCells,loadCells,loadCellsFrom]
     | @oc _ _ _ _ L' hL hl hc =>
      obtain rfl:=Option.some.inj (h1.symm.trans hL)
      have key:=Zfh (P:=P) (w:=w) (M:=MT X σ β) (β:=β) (g:=L.g) (o:=L.o+off*L.sz) (cap:=c0) (sz:=L.sz) (xs:=(es.drop off).take n) (cv:=fun i j=>c.getD (L.o+(off+i)*L.sz+j) undef)
       (fun i hi=>by rw [hget i (by omega)];exact h5 _ (by omega))
       (fun i j hi hj=>by
        rw [hlen] at hi
        have h7:(off+i+1)*L.sz≤L.n*L.sz:=Nat.mul_le_mul_right _ (by omega)
        rw [Nat.add_mul,Nat.one_mul] at h7
        rw [cell_of_row w L.g _ c e (0,0) h2,show L.o+off*L.sz+i*L.sz+j=L.o+(off+i)*L.sz+j by rw [Nat.add_mul];omega,Zan (by omega)])
       (fun i j hi hj=>by
        rw [hlen] at hi
        rw [hget i hi];exact h6 (off+i) j (by omega) hj)
      rw [hlen] at key
      exact key
    ·cases h
   ·cases h
  ·cases h
 ·cases h
theorem Zyx {s:ByteArray}:Src P w M β 1 (.string s) (bytesOf s) (s.data.map fun b=>.int .u8 b.toNat):=by
 have hl:(bytesOf s).length=s.size:=by simp [bytesOf]
 refine ⟨by rw [hl];rfl,?_,by rw [hl];simp,fun i hi=>?_,fun i j hi hj=>?_⟩
 ·rw [hl]
  have:s.extract 0 s.size=s:=by
   apply ByteArray.ext
   rw [ByteArray.data_extract]
   exact Array.extract_eq_self_of_le (Nat.le_refl _)
  intro w' _
  simp only [Builtin.firstCells,this]
  rfl
 ·rw [hl] at hi
  have:(bytesOf s).getD i .undef = .int .u8 (s.data[i]'hi).toNat:=by
   have hi':i<s.data.size:=hi
   simp [bytesOf,List.getD,Array.getElem?_eq_getElem hi']
  rw [this];rfl
 ·rw [hl] at hi
  obtain rfl:j=0:=by omega
  have hi':i<s.data.size:=hi
  have e1:(bytesOf s).getD i .undef = .int .u8 (s.data[i]'hi).toNat:=by simp [bytesOf,List.getD,Array.getElem?_eq_getElem hi']
  have e2:(s.data.map fun b=>Value.int .u8 b.toNat).getD (i*1+0) undef = .int .u8 (s.data[i]'hi).toNat:=by
   rw [Array.getD_eq_getD_getElem?,Array.getElem?_map,Nat.mul_one,Nat.add_zero,Array.getElem?_eq_getElem hi'];rfl
  rw [e1,e2]
  exact .int _ _
theorem Ziq {t u ty e:TypeId} {i:TypeInfo} {z:Value} {d:TypeDesc} (ht:P.underlying t=some (.slice e)) (hu:P.underlying u=some d) (hd:(∃ k,d = .slice k)∨d = .string) (hi:P.info? e=some i) (hz:i.zero=some z)
  {b:Option Addr} {n cap m:Nat} {vx:Value} {olds news:Array Value} (hlen:(Builtin.lenOf vx).run P w = .ok m w) (hnew:(Builtin.firstCells i.size m vx).run P w.drew = .ok news w.drew)
  (hold:(Builtin.firstCells i.size n (.slice b n cap)).run P w.drew = .ok olds w.drew) (hg:cap<n+m) (hb1:n+m≤roomN i.bytes) (hb2:i.bytes≤65536) :
  (Builtin.append_ #[t,u] ty #[.slice b n cap,vx]).run P w =
   .ok (.slice (some ⟨w.heap.size,0,none⟩) (n+m) (grownCap w (n+m) cap e)) (w.drew.alloc (.cells (olds++news++Builtin.zeroCells z.cells (grownCap w (n+m) cap e - (n+m))) e)):=by
 have h1:¬ n+m≤cap:=by omega
 have hmx:=Zpm i.bytes
 have h2:¬ (((n+m:Nat):Int) > IntKind.i64.max):=by
  have:IntKind.i64.max=9223372036854775807:=by decide
  rw [this];omega
 have h2':¬ ((n:Int)+(m:Int) > IntKind.i64.max):=by
  have:IntKind.i64.max=9223372036854775807:=by decide
  rw [this];omega
 have h4:¬ (9223372036854775807<(n:Int)+(m:Int)∧i.bytes=0):=by omega
 have h3:¬ (Builtin.nextslicecap (n+m) cap*i.bytes > 2 ^ 48):=by
  have:=growslice_fits_wide (old:=cap) hg (Zm2 hb1 hb2)
  omega
 rcases hd with ⟨k,rfl⟩ | rfl
 ·simp [Builtin.append_,run_underlying ht,run_underlying hu,sizeOf,typeInfo,zeroValue,hi,hz,hlen,h1,h2',h3,h4,Question.forced,hold,hnew,newRow,grownCap]
 ·simp [Builtin.append_,run_underlying ht,run_underlying hu,sizeOf,typeInfo,zeroValue,hi,hz,hlen,h1,h2',h3,h4,Question.forced,hold,hnew,newRow,grownCap]
theorem Zl4 {t u ty e:TypeId} {i:TypeInfo} {d:TypeDesc} (ht:P.underlying t=some (.slice e)) (hu:P.underlying u=some d) (hd:(∃ k,d = .slice k)∨d = .string) (hi:P.info? e=some i)
  {g o n cap m:Nat} {vx:Value} {news:Array Value} (hlen:(Builtin.lenOf vx).run P w = .ok m w) (hnew:(Builtin.firstCells i.size m vx).run P w = .ok news w) (hg:n+m≤cap) {w':World}
  (hst:(storeCells ⟨g,o+n*i.size,none⟩ news.toList).run P w = .ok () w') :
  (Builtin.append_ #[t,u] ty #[.slice (some ⟨g,o,none⟩) n cap,vx]).run P w = .ok (.slice (some ⟨g,o,none⟩) (n+m) cap) w':=by
 rcases hd with ⟨k,rfl⟩ | rfl<;>simp [Builtin.append_,run_underlying ht,run_underlying hu,sizeOf,typeInfo,hi,hlen,hg,hnew,Addr.add_lit,hst]
theorem Zk2 {t u ty e:TypeId} {i:TypeInfo} {d:TypeDesc} (ht:P.underlying t=some (.slice e)) (hu:P.underlying u=some d) (hd:(∃ k,d = .slice k)∨d = .string) (hi:P.info? e=some i)
  {b:Option Addr} {c:Nat} {vx:Value} {news:Array Value} (hlen:(Builtin.lenOf vx).run P w = .ok 0 w) (hnew:(Builtin.firstCells i.size 0 vx).run P w = .ok news w) (hnn:news.size=0) :
  (Builtin.append_ #[t,u] ty #[.slice b 0 c,vx]).run P w = .ok (.slice b 0 c) w:=by
 have:news = #[]:=Array.eq_empty_of_size_eq_zero hnn
 subst this
 rcases hd with ⟨k,rfl⟩ | rfl<;>cases b<;>simp [Builtin.append_,run_underlying ht,run_underlying hu,sizeOf,typeInfo,hi,hlen,hnew,storeCells]
structure AppRun (P:Program) (w:World) (t u ty e:TypeId) (m:Nat) (vx:Value) (news:Array Value):Prop where
 grow:∀ (i:TypeInfo) (z:Value),P.info? e=some i→i.zero=some z→∀ {b:Option Addr} {n cap:Nat} {olds:Array Value},(Builtin.firstCells i.size n (.slice b n cap)).run P w.drew = .ok olds w.drew→cap<n+m→n+m≤roomN i.bytes→i.bytes≤65536 →
  (Builtin.append_ #[t,u] ty #[.slice b n cap,vx]).run P w =
   .ok (.slice (some ⟨w.heap.size,0,none⟩) (n+m) (grownCap w (n+m) cap e)) (w.drew.alloc (.cells (olds++news++Builtin.zeroCells z.cells (grownCap w (n+m) cap e - (n+m))) e))
 inn:∀ (i:TypeInfo),P.info? e=some i→∀ {g o n cap:Nat} {w':World},n+m≤cap→(storeCells ⟨g,o+n*i.size,none⟩ news.toList).run P w = .ok () w' →
  (Builtin.append_ #[t,u] ty #[.slice (some ⟨g,o,none⟩) n cap,vx]).run P w = .ok (.slice (some ⟨g,o,none⟩) (n+m) cap) w'
 none:m=0→∀ (b:Option Addr) (c:Nat),(Builtin.append_ #[t,u] ty #[.slice b 0 c,vx]).run P w = .ok (.slice b 0 c) w
theorem AppRun.of_src {t u ty e:TypeId} {d:TypeDesc} (ht:P.underlying t=some (.slice e)) (hu:P.underlying u=some d) (hd:(∃ k,d = .slice k)∨d = .string) {l:Lay} (he:layOf P e=some l)
  {vx:Value} {xs:List AVal} {news:Array Value} (hx:Src P w M β l.sz vx xs news):AppRun P w t u ty e xs.length vx news:=by
 obtain ⟨i,_,z,hi,_,hz,hsz,_⟩:=Zao he
 have hnew:∀ w':World,w'.heap=w.heap→(Builtin.firstCells i.size xs.length vx).run P w' = .ok news w':=fun w' hw=>by rw [hsz];exact hx.cells w' hw
 refine ⟨fun i' z' hi' hz' b n cap olds hold h1 h2 h3=>?_,fun i' hi' g o n cap w' h1 h2=>?_,fun h0 b c=>?_⟩
 ·obtain rfl:=Option.some.inj (hi'.symm.trans hi)
  obtain rfl:=Option.some.inj (hz'.symm.trans hz)
  exact Ziq ht hu hd hi hz hx.len (hnew w.drew rfl) hold h1 h2 h3
 ·obtain rfl:=Option.some.inj (hi'.symm.trans hi)
  exact Zl4 ht hu hd hi hx.len (hnew w rfl) h1 h2
 ·have hl:=hx.len;rw [h0] at hl
  have hnw:=hnew w rfl;rw [h0] at hnw
  exact Zk2 ht hu hd hi hl hnw (by rw [hx.size,h0];simp)
theorem Zi9 (a b c:Array Value) (p:Nat):(a++b++c).getD p undef=if p<a.size then a.getD p undef else if p<a.size+b.size then b.getD (p - a.size) undef else c.getD (p - (a.size+b.size)) undef:=by
 rw [Array.getD_eq_getD_getElem?,Array.getElem?_append,Array.size_append]
 by_cases h1:p<a.size
 ·rw [if_pos (by omega),if_pos h1,Array.getElem?_append,if_pos h1,Array.getD_eq_getD_getElem?]
 ·by_cases h2:p<a.size+b.size
  ·rw [if_pos h2,if_neg h1,if_pos h2,Array.getElem?_append,if_neg h1,Array.getD_eq_getD_getElem?]
  ·rw [if_neg h2,if_neg h1,if_neg h2,Array.getD_eq_getD_getElem?]
theorem Zak (a b:List AVal) (i:Nat):(a++b).getD i .undef=if i<a.length then a.getD i .undef else b.getD (i - a.length) .undef:=by
 simp only [List.getD,List.getElem?_append]
 split<;>rfl
theorem Zky {sz n m cap:Nat} {et:TypeId} {z:Value} (hz:z.cells.size=sz) {oldE newE:List AVal} {olds news:Array Value} (ho:olds.size=oldE.length*sz) (hn:news.size=newE.length*sz)
  (h1:∀ i,i<oldE.length→(oldE.getD i .undef).cells.length=sz) (h2:∀ i,i<newE.length→(newE.getD i .undef).cells.length=sz)
  (hr1:∀ i j,i<oldE.length→j<sz→Rep w M β (olds.getD (i*sz+j) undef) ((oldE.getD i .undef).cells.getD j .undef))
  (hr2:∀ i j,i<newE.length→j<sz→Rep w M β (news.getD (i*sz+j) undef) ((newE.getD i .undef).cells.getD j .undef))
  (e1:oldE.length=n) (e2:newE.length=m) (hcap:n+m≤cap) {w':World} {M':Nat→Nat→Prop} {β':Env} (hk:Keeps w M w' M') (hβ:∀ b L,β b=some L→β' b=some L) {g:Nat}
  (hg:w'.heap[g]? = some (.cells (olds++news++Builtin.zeroCells z.cells (cap - (n+m))) et (0,0))) (fz:Nat):BlkOk w' M' β' ⟨g,0,cap,sz⟩ (.row (oldE++newE) fz):=by
 subst e1;subst e2
 refine ⟨_,et,hg,?_,by simpa using hcap,fun i hi=>?_,fun i j hi hj=>?_⟩
 ·simp only [Array.size_append,size_zeroCells,hz,ho,hn,Nat.zero_add,← Nat.add_mul]
  rw [show oldE.length+newE.length+(cap - (oldE.length+newE.length))=cap by omega];exact Nat.le_refl _
 ·simp only [List.length_append] at hi
  rw [Zak]
  split
  ·exact h1 i (by assumption)
  ·exact h2 _ (by omega)
 ·simp only [List.length_append] at hi
  simp only [Nat.zero_add] at hj ⊢
  rw [Zak,Zi9]
  by_cases hc:i<oldE.length
  ·have:(i+1)*sz≤oldE.length*sz:=Nat.mul_le_mul_right _ hc
   rw [Nat.add_mul,Nat.one_mul] at this
   rw [if_pos (by omega),if_pos hc]
   exact (hr1 i j hc hj).mono hk hβ
  ·have h3:oldE.length*sz≤i*sz:=Nat.mul_le_mul_right _ (by omega)
   have h4:(i - oldE.length+1)*sz≤newE.length*sz:=Nat.mul_le_mul_right _ (by omega)
   rw [Nat.add_mul,Nat.one_mul,Nat.sub_mul] at h4
   rw [if_neg (by omega),if_neg hc,if_pos (by omega)]
   have:=hr2 (i - oldE.length) j (by omega) hj
   rw [Nat.sub_mul] at this
   rw [ho,show i*sz+j - oldE.length*sz=i*sz - oldE.length*sz+j by omega]
   exact this.mono hk hβ
theorem Rep.os_inv {v:Value} {b off n sz:Nat} (h:Rep w M β v (.os b off n sz)):(n=0∧∃ a L,β b=some L∧L.sz=sz∧v = .slice a 0 0) ∨
  ∃ L cap,β b=some L∧L.sz=sz∧n≤cap∧off+cap≤L.n∧v = .slice (some ⟨L.g,L.o+off*L.sz,none⟩) n cap:=by
 cases h with
 | os0 a h=>exact .inl ⟨rfl,a,_,h,rfl,rfl⟩
 | os h1 h2 h3=>exact .inr ⟨_,_,h1,rfl,h2,h3,rfl⟩
theorem Rep.one {v:Value} {a:AVal} (h:Rep w M β v a) (hc:a.isCell=true):v.oneCell'=true:=by
 cases h<;>first | rfl | (simp [AVal.isCell] at hc)
theorem Src0.ones {sz:Nat} {xs:List AVal} {news:Array Value} (h:Src0 w M β sz xs news) (hc:∀ x∈xs,x.cells.all AVal.isCell=true):∀ u∈news.toList,u.oneCell'=true:=by
 intro u hu
 obtain ⟨p,hp,rfl⟩:=List.getElem_of_mem hu
 simp only [Array.length_toList] at hp
 rw [h.size] at hp
 obtain ⟨a1,a2,a3⟩:=Zq1 hp
 have h1:=h.rep _ _ a1 a2
 rw [a3] at h1
 have e1:news.getD p undef=news.toList[p]'(by simpa [h.size] using hp):=by
  have:p<news.size:=by rw [h.size];exact hp
  simp [Array.getD,this]
 rw [e1] at h1
 refine h1.one ?_
 have h2:=hc (xs.getD (p / sz) .undef) (by simp only [List.getD,List.getElem?_eq_getElem a1,Option.getD_some];exact List.getElem_mem a1)
 have h3:=h.one _ a1
 rw [List.all_eq_true] at h2
 have h4:p % sz<(xs.getD (p / sz) .undef).cells.length:=by omega
 have e2:(xs.getD (p / sz) .undef).cells.getD (p % sz) .undef=(xs.getD (p / sz) .undef).cells[p % sz]:=by
  rw [List.getD_eq_getElem?_getD,List.getElem?_eq_getElem h4];rfl
 rw [e2]
 exact h2 _ (List.getElem_mem h4)
theorem Zvg (hr:RelS X base σ β w) (hn : β nm=none) (hgn:getS σ nm=none) {t u et:TypeId} {e:Lay} (he:layOf P et=some e) {vs vx:Value} {s:AVal} {xs:List AVal} {news:Array Value} (hs:Rep w (MT X σ β) β vs s) (hx:Src0 w (MT X σ β) β e.sz xs news)
  {r:AVal} {σ':Store} (h:appendO σ nm e s xs=some (r,σ')) (ty:TypeId) (ha:AppRun P w t u ty et xs.length vx news) {S:Sem Next} (hS:S=(do pure (.value (← Builtin.append_ #[t,u] ty #[vs,vx])))):OpOut P X base σ β w nm S r σ':=by
 obtain ⟨i,_,z,hi,_,hz,hsz,_,hby,_,_,_,hzs⟩:=Zao he
 unfold appendO at h
 split at h
 case isFalse=>cases h
 rename_i hc
 obtain ⟨hc1,hc2,hc3⟩:=hc
 have hcell:∀ M':Nat→Nat→Prop,True:=fun _=>trivial
 split at h
 ·split at h
  ·rename_i h0
   cases h
   cases hs with
   | nils a =>
    refine OpOut.val hr (v:=.slice a 0 0) ?_ (.nils a)
    rw [hS,Sem.run_bind,ha.none h0];rfl
  ·rename_i h0
   split at h
   ·rename_i hb
    cases h
    cases hs with
    | nils a =>
     have hge:=grownCap_ge w (0+xs.length) 0 et
     have hold:(Builtin.firstCells i.size 0 (.slice a 0 0)).run P w.drew = .ok #[] w.drew:=by cases a<;>simp [Builtin.firstCells,loadCells,loadCellsFrom]
     have hrun:=ha.grow i z hi hz hold (by omega) (by first | (rw [← hby];omega) | (rw [hby];omega)) (by omega)
     rw [Nat.zero_add] at hrun hge
     refine Zf2 hr hn (.row xs 0) (grownCap w xs.length 0 et) e.sz (w':=w.drew.alloc (.cells (#[]++news++Builtin.zeroCells z.cells (grownCap w xs.length 0 et - xs.length)) et)) rfl rfl rfl rfl (by rw [hS,Sem.run_bind,hrun];rfl) ?_ ?_
     ·intro M' β' hk hβ
      have:=Zky (w:=w) (M:=MT X σ β) (β:=β) (n:=0) (m:=xs.length) (cap:=grownCap w xs.length 0 et) (et:=et) (z:=z) hzs (oldE:=[]) (newE:=xs) (olds:=#[]) (news:=news) (by simp) hx.size (fun i hi=>by simp at hi) hx.one (fun i j hi=>by simp at hi) hx.rep rfl rfl (by omega) hk hβ (g:=w.heap.size) (by
       rw [Nat.zero_add];exact Zbd w.drew _) 0
      simpa using this
     ·intro M'
      have:=Rep.os (w:=w.drew.alloc (.cells (#[]++news++Builtin.zeroCells z.cells (grownCap w xs.length 0 et - xs.length)) et)) (M:=M') (β:=upd β nm ⟨w.heap.size,0,grownCap w xs.length 0 et,e.sz⟩) (b:=nm) (off:=0) (len:=xs.length) (cap:=grownCap w xs.length 0 et) (L:=⟨w.heap.size,0,grownCap w xs.length 0 et,e.sz⟩) (Zbs _ _ _) hge (by simp)
      simpa using this
   ·cases h
 ·rename_i b off n sz
  split at h
  ·rename_i es fz hb
   split at h
   ·rename_i hcond
    obtain ⟨rfl,hcf,hce,hcn⟩:=hcond
    cases h
    obtain ⟨L,h1,hbase,hX,c,ec,h2,h3,h4,h5,h6⟩:=hr.blk b _ (Zae hb)
    have hlen:((es.drop off).take n).length=n:=by simp;omega
    have hget:∀ k,k<n→((es.drop off).take n).getD k AVal.undef=es.getD (off+k) .undef:=fun k hk=>by
     simp [List.getD,hk,List.getElem?_drop]
    have hbn:b≠nm:=by rintro rfl;rw [hb] at hgn;cases hgn
    have hbl : σ[b]? = some (some (.row es fz)):=Zae hb
    have hblt:b < σ.length:=(List.getElem?_eq_some_iff.1 hbl).1
    have hσ2:∀ c' x,c'≠nm→(setS (σ.set b none) nm (.row ((es.drop off).take n++xs) (fz - off)))[c']? = some (some x)→σ[c']? = some (some x)∧c'≠b:=by
     intro c' x hc' hx'
     have:=Zc5 _ _ _ hc' hx'
     by_cases e1:c'=b
     ·subst e1;simp [hblt] at this
     ·rw [List.getElem?_set_ne (Ne.symm e1)] at this;exact ⟨this,e1⟩
    have hlenσ : σ.length≤(setS (σ.set b none) nm (.row ((es.drop off).take n++xs) (fz - off))).length:=by
     have:=Zc0 (σ.set b none) nm (.row ((es.drop off).take n++xs) (fz - off));simpa using this
    have grow:∀ (a:Option Addr) (cap:Nat) (olds:Array Value),vs = .slice a n cap→cap<n+xs.length→(∀ w':World,w'.heap=w.heap→(Builtin.firstCells i.size n (.slice a n cap)).run P w' = .ok olds w') →
      olds.size=n*e.sz→(∀ k j,k<n→j<e.sz→Rep w (MT X σ β) β (olds.getD (k*e.sz+j) undef) ((es.getD (off+k) .undef).cells.getD j .undef))→(∀ k,k<n→(es.getD (off+k) .undef).cells.length=e.sz) →
      OpOut P X base σ β w nm S (.os nm 0 (n+xs.length) e.sz) (setS (σ.set b none) nm (.row ((es.drop off).take n++xs) (fz - off))):=by
     intro a cap olds hvs hlt hold hos horep hone
     have hge:=grownCap_ge w (n+xs.length) cap et
     have hrun:=ha.grow i z hi hz (hold w.drew rfl) hlt (by first | (rw [← hby];omega) | (rw [hby];omega)) (by omega)
     obtain ⟨k1,k2,k3,k4⟩:=Zg2 hr nm ⟨w.heap.size,0,grownCap w (n+xs.length) cap et,e.sz⟩ (.row ((es.drop off).take n++xs) (fz - off)) (σ':=setS (σ.set b none) nm (.row ((es.drop off).take n++xs) (fz - off)))
      (β':=upd β nm ⟨w.heap.size,0,grownCap w (n+xs.length) cap et,e.sz⟩) (w':=w.drew.alloc (.cells (olds++news++Builtin.zeroCells z.cells (grownCap w (n+xs.length) cap et - (n+xs.length))) et))
      (Zeg _ _ _) (fun c' x hc' hx'=>⟨(hσ2 c' x hc' hx').1,fun Lc hL=>by have:=Zks hr (hσ2 c' x hc' hx').1 hL;simp only;omega⟩) hlenσ (Zbs _ _ _) (fun c' hc'=>Zdg _ _ _ hc') (.inl hn)
      rfl rfl rfl (by simp) (fun g hg _=>heap_alloc_old w.drew _ g hg) (fun off' v hc' _=>absurd (Zck hc') (by simp)) (fun h=>absurd h (by simp)) (fun off' _=>.inr (Nat.le_refl _)) (fun o' hx'=>absurd (hr.xlt _ _ hx') (by simp)) hr.size
     refine ⟨_,_,_, .inl (by rw [hS,hvs,Sem.run_bind,hrun];rfl),k4 (Zky (w:=w) (M:=MT X σ β) (β:=β) (z:=z) hzs (oldE:=(es.drop off).take n) (newE:=xs) (olds:=olds) (news:=news) (by rw [hlen];exact hos) hx.size ?_ hx.one ?_ hx.rep hlen rfl hge k2 k3 (Zbd w.drew _) _),?_,k1,fun b' hb'=>Zdg _ _ _ hb',k3⟩
     ·intro k hk;rw [hlen] at hk;rw [hget k hk];exact hone k hk
     ·intro k j hk hj;rw [hlen] at hk;rw [hget k hk];exact horep k j hk hj
     ·have:=Rep.os (w:=w.drew.alloc (.cells (olds++news++Builtin.zeroCells z.cells (grownCap w (n+xs.length) cap et - (n+xs.length))) et)) (M:=MT X (setS (σ.set b none) nm (.row ((es.drop off).take n++xs) (fz - off))) (upd β nm ⟨w.heap.size,0,grownCap w (n+xs.length) cap et,e.sz⟩)) (β:=upd β nm ⟨w.heap.size,0,grownCap w (n+xs.length) cap et,e.sz⟩) (b:=nm) (off:=0) (len:=n+xs.length) (cap:=grownCap w (n+xs.length) cap et) (L:=⟨w.heap.size,0,grownCap w (n+xs.length) cap et,e.sz⟩) (Zbs _ _ _) hge (by simp)
      simpa using this
    have stay:∀ (a:Option Addr) (cap:Nat) (w':World),vs = .slice a n cap→L.sz=e.sz→off+(n+xs.length)≤L.n →
      (Builtin.append_ #[t,u] ty #[vs,vx]).run P w = .ok (.slice a (n+xs.length) cap) w'→w'=w.setRow L.g (c.toList.take (L.o+off*L.sz+n*L.sz)++news.toList++c.toList.drop (L.o+off*L.sz+n*L.sz+news.toList.length)).toArray →
      (∀ w1 M1,Rep w1 M1 (upd β nm ⟨L.g,L.o+off*L.sz,L.n - off,L.sz⟩) (.slice a (n+xs.length) cap) (.os nm 0 (n+xs.length) e.sz)) →
      OpOut P X base σ β w nm S (.os nm 0 (n+xs.length) e.sz) (setS (σ.set b none) nm (.row ((es.drop off).take n++xs) (fz - off))):=by
     intro a cap w' hvs hLs hfit hrun hw' ha
     subst hw'
     have hm1:(off+n+xs.length)*L.sz≤L.n*L.sz:=Nat.mul_le_mul_right _ (by omega)
     rw [Nat.add_mul,Nat.add_mul] at hm1
     have hns:news.size=xs.length*L.sz:=by rw [hx.size,hLs]
     have hspl:L.o+off*L.sz+n*L.sz+news.toList.length≤c.size:=by simp only [Array.length_toList];omega
     obtain ⟨f1,f2,f3,f4,f5,f6⟩:=Zdu w (c':=(c.toList.take (L.o+off*L.sz+n*L.sz)++news.toList++c.toList.drop (L.o+off*L.sz+n*L.sz+news.toList.length)).toArray) h2
     have hmof:∀ o',L.o+fz*L.sz≤o'→Mof σ β L.g o':=fun o' ho'=>⟨b,_,L,hbl,h1,rfl,ho'⟩
     have hfzle:fz*L.sz≤(off+n)*L.sz:=Nat.mul_le_mul_right _ hcf
     rw [Nat.add_mul] at hfzle
     obtain ⟨k1,k2,k3,k4⟩:=Zg2 hr nm ⟨L.g,L.o+off*L.sz,L.n - off,L.sz⟩ (.row ((es.drop off).take n++xs) (fz - off)) (σ':=setS (σ.set b none) nm (.row ((es.drop off).take n++xs) (fz - off)))
      (β':=upd β nm ⟨L.g,L.o+off*L.sz,L.n - off,L.sz⟩) (w':=w.setRow L.g (c.toList.take (L.o+off*L.sz+n*L.sz)++news.toList++c.toList.drop (L.o+off*L.sz+n*L.sz+news.toList.length)).toArray)
      (Zeg _ _ _) (fun c' x hc' hx'=>⟨(hσ2 c' x hc' hx').1,fun Lc hL hg'=>(hσ2 c' x hc' hx').2 (hr.inj c' b x _ Lc L (hσ2 c' x hc' hx').1 hbl hL h1 hg')⟩) hlenσ (Zbs _ _ _) (fun c' hc'=>Zdg _ _ _ hc') (.inl hn)
      f1 f2 f3 (Nat.le_of_eq f4.symm) (fun g _ hg=>f5 g hg)
      (fun off' v hcl hnm=>by
       have hlt':off'<L.o+fz*L.sz:=Nat.lt_of_not_le fun hle=>hnm (hmof off' hle)
       rw [cell_of_row _ _ _ _ _ _ f6]
       simp only at hcl
       rw [cell_of_row _ _ _ _ _ _ h2] at hcl
       obtain ⟨hlt,hv⟩:=Array.getElem?_eq_some_iff.1 hcl
       rw [Zan (by rw [Zce _ _ _ hspl];exact hlt),Zcc _ _ _ hspl,if_neg (by omega),← Zan hlt];exact hcl)
      (fun _ hnm=>absurd (hmof _ (Nat.le_refl _)) (hnm _))
      (fun off' hm=>.inl (hmof off' (by
       simp only [Blk.mut,Nat.sub_mul] at hm
       omega))) hX hbase
     refine ⟨_,_,_, .inl (by rw [hS,Sem.run_bind,hrun];rfl),k4 ⟨_,ec,f6,?_,?_,fun k hk=>?_,fun k j hk hj=>?_⟩,?_,k1,fun b' hb'=>Zdg _ _ _ hb',k3⟩
     ·rw [Zce _ _ _ hspl]
      simp only
      rw [Nat.sub_mul]
      have:off*L.sz≤L.n*L.sz:=Nat.mul_le_mul_right _ (by omega)
      omega
     ·simp only [List.length_append,hlen];omega
     ·simp only [List.length_append,hlen] at hk
      rw [Zak,hlen]
      split
      ·rw [hget k (by assumption)];exact h5 _ (by omega)
      ·simp only;rw [hLs];exact hx.one _ (by omega)
     ·simp only [List.length_append,hlen] at hk
      simp only at hj ⊢
      rw [Zak,hlen,Zcc _ _ _ hspl]
      simp only [Array.length_toList]
      by_cases hkn:k<n
      ·have h7:(k+1)*L.sz≤n*L.sz:=Nat.mul_le_mul_right _ hkn
       rw [Nat.add_mul,Nat.one_mul] at h7
       rw [if_neg (by omega),if_pos hkn,hget k hkn]
       have:=h6 (off+k) j (by omega) hj
       rw [Nat.add_mul] at this
       rw [show L.o+off*L.sz+k*L.sz+j=L.o+(off*L.sz+k*L.sz)+j by omega]
       exact this.mono k2 k3
      ·have h7:n*L.sz≤k*L.sz:=Nat.mul_le_mul_right _ (by omega)
       have h8:(k - n+1)*L.sz≤xs.length*L.sz:=Nat.mul_le_mul_right _ (by omega)
       rw [Nat.add_mul,Nat.one_mul,Nat.sub_mul] at h8
       rw [if_pos (by omega),if_neg hkn]
       have:=hx.rep (k - n) j (by omega) (by omega)
       rw [show news.toList.getD (L.o+off*L.sz+k*L.sz+j - (L.o+off*L.sz+n*L.sz)) undef=news.getD (L.o+off*L.sz+k*L.sz+j - (L.o+off*L.sz+n*L.sz)) undef by simp [List.getD,Array.getD_eq_getD_getElem?]]
       rw [← hLs,Nat.sub_mul] at this
       rw [show L.o+off*L.sz+k*L.sz+j - (L.o+off*L.sz+n*L.sz)=k*L.sz - n*L.sz+j by omega]
       exact this.mono k2 k3
     ·exact ha _ _
    rcases hs.os_inv with ⟨rfl,a,L0,hL0,hLs,rfl⟩ | ⟨L',cap,hL,hLs,hl,hcp,rfl⟩
    ·by_cases h0:xs.length=0
     ·have hx0:xs=[]:=List.eq_nil_of_length_eq_zero h0
      have hn0:news = #[]:=Array.eq_empty_of_size_eq_zero (by rw [hx.size,h0,Nat.zero_mul])
      obtain rfl:=Option.some.inj (h1.symm.trans hL0)
      ·refine stay a 0 w rfl hLs (by omega) ?_ ?_ fun w1 M1=>?_
       ·rw [h0];exact ha.none h0 a 0
       ·subst hn0
        simp only [List.append_nil,List.length_nil,Nat.add_zero,List.take_append_drop,Array.toArray_toList]
        exact (setRow_self w L.g c ec (0,0) h2).symm
       ·rw [h0,← hLs];exact .os0 (L:=⟨L.g,L.o+off*L.sz,L.n - off,L.sz⟩) a (Zbs _ _ _)
     ·refine grow a 0 #[] rfl (by omega) (fun w' _=>by cases a<;>simp [Builtin.firstCells,loadCells,loadCellsFrom]) (by simp) (fun k j hk=>by omega) (fun k hk=>by omega)
    ·obtain rfl:=Option.some.inj (h1.symm.trans hL)
     by_cases hroom:n+xs.length≤cap
     ·have hm1:(off+n+xs.length)*L.sz≤L.n*L.sz:=Nat.mul_le_mul_right _ (by omega)
      rw [Nat.add_mul,Nat.add_mul] at hm1
      have hns:=hx.size
      rw [← hLs] at hns
      have hone:∀ v∈news.toList,v.oneCell'=true:=hx.ones fun x hx'=>by
       have:=List.all_eq_true.1 hc1 x hx'
       simp only [Bool.and_eq_true] at this
       exact this.2
      have hst:=run_storeCells_at P L.g (L.o+off*L.sz+n*L.sz) ec news.toList 0 c w h2 (by simp only [Nat.add_zero,Array.length_toList];omega) hone
      simp only [Nat.add_zero] at hst
      refine stay _ cap _ rfl hLs (by omega) (ha.inn i hi hroom (by rw [hsz,← hLs];exact hst)) rfl fun w1 M1=>?_
      have:=Rep.os (w:=w1) (M:=M1) (β:=upd β nm ⟨L.g,L.o+off*L.sz,L.n - off,L.sz⟩) (b:=nm) (off:=0) (len:=n+xs.length) (cap:=cap) (L:=⟨L.g,L.o+off*L.sz,L.n - off,L.sz⟩) (Zbs _ _ _) hroom (by simp only;omega)
      simp only [Nat.zero_mul,Nat.add_zero] at this
      rw [← hLs];exact this
     ·obtain ⟨olds,hsrc⟩:=Zfv (P:=P) hr (sz:=L.sz) (v:=.slice (some ⟨L.g,L.o+off*L.sz,none⟩) n cap) (x:=.os b off n L.sz) (xs:=(es.drop off).take n) (.os h1 hl hcp) (by simp [elemsA,hb,hce])
      have hLs':=hLs
      refine grow _ cap olds rfl (by omega) (fun w' hw'=>?_) ?_ (fun k j hk hj=>?_) (fun k hk=>by rw [← hLs];exact h5 _ (by omega))
      ·have:=hsrc.cells w' hw';rw [hlen] at this;rw [hsz,← hLs];exact this
      ·have:=hsrc.size;rw [hlen] at this;rw [← hLs];exact this
      ·have:=hsrc.rep k j (by omega) (by omega);rw [hget k hk] at this;rw [← hLs];exact this
   ·cases h
  ·cases h
 ·cases h
end
end Go.Abs
