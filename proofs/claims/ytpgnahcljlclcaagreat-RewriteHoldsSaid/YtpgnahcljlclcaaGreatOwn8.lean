/- Part 8 of my own framework and of the walks of functions: AbsJo, AbsJp. -/
import Derived.Test.YtpgnahcljlclcaaGreatOwn7
set_option linter.unusedVariables false
set_option linter.unusedSectionVars false
set_option linter.unusedSimpArgs false
namespace Go.Abs
open Go
section
variable {P:Program} {X:Nat→Nat→Prop} {base:Nat} {σ:Store} {β:Env} {w:World} {nm:Nat} {M:Nat→Nat→Prop}
theorem Zu9 (hr:RelS X base σ β w) {b p fz:Nat} {es xs:List AVal} (hb:getS σ b=some (.row es fz)) {L:Loc} (hL : β b=some L) (hfz:fz≤p) (hp:p+xs.length≤es.length)
  {news:Array Value} (hx:Src0 w (MT X σ β) β L.sz xs news) {s:Sem Next} {v:Value} {r:AVal}
  (hrun:∀ c e,w.heap[L.g]? = some (.cells c e (0,0))→L.o+(p+xs.length)*L.sz≤c.size→s.run P w = .ok (.value v) (w.setRow L.g (c.toList.take (L.o+p*L.sz)++news.toList++c.toList.drop (L.o+p*L.sz+news.toList.length)).toArray))
  (hr':∀ (w':World) (M':Nat→Nat→Prop),Rep w' M' β v r):OpOut P X base σ β w nm s r (setS σ b (.row (setMany es p xs) fz)):=by
 obtain ⟨L',h1,h2b,h2x,c,e,h2,h3,h4,h5,h6⟩:=hr.blk b _ (Zae hb)
 obtain rfl:=Option.some.inj (hL.symm.trans h1)
 have hm1:(p+xs.length)*L.sz≤L.n*L.sz:=Nat.mul_le_mul_right _ (by omega)
 have hm2:=hm1
 rw [Nat.add_mul] at hm2
 have hns:=hx.size
 have hspl:L.o+p*L.sz+news.toList.length≤c.size:=by simp only [Array.length_toList];omega
 have hfz':fz*L.sz≤p*L.sz:=Nat.mul_le_mul_right _ hfz
 have hru:=hrun c e h2 (by omega)
 obtain ⟨f1,f2,f3,f4,f5,f6⟩:=Zdu w (c':=(c.toList.take (L.o+p*L.sz)++news.toList++c.toList.drop (L.o+p*L.sz+news.toList.length)).toArray) h2
 refine Zes (blk':=.row (setMany es p xs) fz) hr (Zae hb) h1 f1 f2 f3 f4 (fun g hg=>f5 g hg) (fun off v hcl hn=>?_) (fun hn=>absurd (Nat.le_refl _) (hn _)) (fun _ hm=>hm) (.inl hru) (fun M' hk=>?_) (fun M' _=>hr' _ M')
 ·simp only [Blk.mut,Nat.not_le] at hn
  rw [cell_of_row _ _ _ _ _ _ f6]
  rw [cell_of_row _ _ _ _ _ _ h2] at hcl
  obtain ⟨hlt,hv⟩:=Array.getElem?_eq_some_iff.1 hcl
  rw [Zan (by rw [Zce _ _ _ hspl];exact hlt),Zcc _ _ _ hspl,if_neg (by omega),← Zan hlt];exact hcl
 ·have hge:∀ j,(setMany es p xs).getD j .undef=if p≤j∧j<p+xs.length∧j<es.length then xs.getD (j - p) .undef else es.getD j .undef:=Zd4 es p xs
  refine ⟨_,e,f6,?_,by simpa [Zap] using h4,fun j hj=>?_,fun j q hj hq=>?_⟩
  ·rw [Zce _ _ _ hspl];exact h3
  ·rw [Zap] at hj
   rw [hge]
   split
   ·rename_i hc;exact hx.one _ (by omega)
   ·exact h5 j hj
  ·rw [Zap] at hj
   rw [Zcc _ _ _ hspl,hge]
   simp only [Array.length_toList]
   by_cases hin:p≤j∧j<p+xs.length
   ·have h7:p*L.sz≤j*L.sz:=Nat.mul_le_mul_right _ hin.1
    have h8:(j - p+1)*L.sz≤xs.length*L.sz:=Nat.mul_le_mul_right _ (by omega)
    rw [Nat.add_mul,Nat.one_mul,Nat.sub_mul] at h8
    rw [if_pos (by omega),if_pos ⟨hin.1,hin.2,hj⟩]
    have:=hx.rep (j - p) q (by omega) hq
    rw [Nat.sub_mul] at this
    rw [show news.toList.getD (L.o+j*L.sz+q - (L.o+p*L.sz)) undef=news.getD (L.o+j*L.sz+q - (L.o+p*L.sz)) undef by simp [List.getD,Array.getD_eq_getD_getElem?],
     show L.o+j*L.sz+q - (L.o+p*L.sz)=j*L.sz - p*L.sz+q by omega]
    exact this.mono hk fun _ _ h=>h
   ·have hdis:¬ (L.o+p*L.sz≤L.o+j*L.sz+q∧L.o+j*L.sz+q<L.o+p*L.sz+news.size):=by
     rintro ⟨a1,a2⟩
     by_cases e1:j<p
     ·have:(j+1)*L.sz≤p*L.sz:=Nat.mul_le_mul_right _ e1
      rw [Nat.add_mul,Nat.one_mul] at this;omega
     ·have:(p+xs.length)*L.sz≤j*L.sz:=Nat.mul_le_mul_right _ (by omega)
      rw [Nat.add_mul] at this;omega
    rw [if_neg hdis,if_neg (by omega)]
    exact (h6 j q hj hq).mono hk fun _ _ h=>h
theorem Zk8 {b:Nat} {x:Blk} (h:getS σ b=some x):setS σ b x = σ:=by
 have h':=Zae h
 have hlt:b < σ.length:=(List.getElem?_eq_some_iff.1 h').1
 unfold setS
 rw [if_pos hlt]
 apply List.ext_getElem?
 intro i
 rw [List.getElem?_set]
 by_cases e:b=i
 ·subst e;rw [if_pos rfl,if_pos hlt,h']
 ·rw [if_neg e]
theorem Rep.oc_inv {v:Value} {b off n c sz:Nat} (h:Rep w M β v (.oc b off n c sz)):(n=0∧c=0∧∃ a L,β b=some L∧L.sz=sz∧v = .slice a 0 0) ∨
  ∃ L,β b=some L∧L.sz=sz∧n≤c∧off+c≤L.n∧v = .slice (some ⟨L.g,L.o+off*L.sz,none⟩) n c:=by
 cases h with
 | oc0 a h=>exact .inl ⟨rfl,rfl,a,_,h,rfl,rfl⟩
 | oc h1 h2 h3=>exact .inr ⟨_,h1,rfl,h2,h3,rfl⟩
theorem Zig (es:List AVal) (p:Nat):setMany es p []=es:=rfl
theorem Zse (hr:RelS X base σ β w) (hn : β nm=none) {t u et:TypeId} {e:Lay} (he:layOf P et=some e) {vs vx:Value} {b off n c sz:Nat} {xs:List AVal} {news:Array Value} (hs:Rep w (MT X σ β) β vs (.oc b off n c sz)) (hx:Src0 w (MT X σ β) β e.sz xs news)
  {r:AVal} {σ':Store} (h:appendC σ nm e b off n c sz xs=some (r,σ')) (ty:TypeId) (ha:AppRun P w t u ty et xs.length vx news) {S:Sem Next} (hS:S=(do pure (.value (← Builtin.append_ #[t,u] ty #[vs,vx])))):OpOut P X base σ β w nm S r σ':=by
 obtain ⟨i,_,z,hi,_,hz,hsz,_,hby,_,_,_,hzs⟩:=Zao he
 unfold appendC at h
 split at h
 case isFalse=>cases h
 rename_i hc
 obtain ⟨hc1,hc2,hc3,hc4⟩:=hc
 split at h
 ·rename_i es fz hb
  split at h
  ·rename_i hcond
   obtain ⟨rfl,hce⟩:=hcond
   split at h
   ·rename_i hroom
    split at h
    ·rename_i hf
     obtain ⟨hf1,hf2⟩:=hf
     cases h
     rcases hs.oc_inv with ⟨rfl,rfl,a,L,hL,hLs,rfl⟩ | ⟨L,hL,hLs,hl,hcp,rfl⟩
     ·have h0:xs.length=0:=by omega
      have hx0:xs=[]:=List.eq_nil_of_length_eq_zero h0
      subst hx0
      rw [Zig,Zk8 hb]
      refine OpOut.val hr (v:=.slice a 0 0) ?_ (by rw [← hLs];exact .oc0 a hL)
      rw [hS,Sem.run_bind,ha.none rfl];rfl
     ·have hone:∀ v∈news.toList,v.oneCell'=true:=hx.ones fun x hx'=>by
       have:=List.all_eq_true.1 hc1 x hx'
       simp only [Bool.and_eq_true] at this
       exact this.2
      refine Zu9 hr hb hL hf1 hf2 (by rw [hLs];exact hx) (v:=.slice (some ⟨L.g,L.o+off*L.sz,none⟩) (n+xs.length) c) (fun cc ec h2 h3=>?_) fun w' M'=>by rw [← hLs];exact .oc hL hroom hcp
      have hns:=hx.size
      rw [← hLs] at hns
      rw [Nat.add_mul] at h3
      have hst:=run_storeCells_at P L.g (L.o+(off+n)*L.sz) ec news.toList 0 cc w h2 (by simp only [Nat.add_zero,Array.length_toList];omega) hone
      simp only [Nat.add_zero] at hst
      rw [hS,Sem.run_bind,ha.inn i hi hroom (by rw [hsz,← hLs,Nat.add_assoc,← Nat.add_mul];exact hst)];rfl
    ·cases h
   ·rename_i hroom
    split at h
    ·rename_i hbig
     cases h
     obtain ⟨L,h1,hbase,hX,cc,ec,h2,h3,h4,h5,h6⟩:=hr.blk b _ (Zae hb)
     have hlen:((es.drop off).take n).length=n:=by simp;omega
     have hget:∀ k,k<n→((es.drop off).take n).getD k AVal.undef=es.getD (off+k) .undef:=fun k hk=>by
      simp [List.getD,hk,List.getElem?_drop]
     have grow:∀ (a:Option Addr) (olds:Array Value),vs = .slice a n c→(∀ w':World,w'.heap=w.heap→(Builtin.firstCells i.size n (.slice a n c)).run P w' = .ok olds w') →
       olds.size=n*e.sz→(∀ k j,k<n→j<e.sz→Rep w (MT X σ β) β (olds.getD (k*e.sz+j) undef) ((es.getD (off+k) .undef).cells.getD j .undef))→(∀ k,k<n→(es.getD (off+k) .undef).cells.length=e.sz) →
       OpOut P X base σ β w nm S (.os nm 0 (n+xs.length) e.sz) (setS σ nm (.row ((es.drop off).take n++xs) 0)):=by
      intro a olds hvs hold hos horep hone
      have hge:=grownCap_ge w (n+xs.length) c et
      have hrun:=ha.grow i z hi hz (hold w.drew rfl) (by omega) (by first | (rw [← hby];omega) | (rw [hby];omega)) (by omega)
      refine Zf2 hr hn (.row ((es.drop off).take n++xs) 0) (grownCap w (n+xs.length) c et) e.sz (w':=w.drew.alloc (.cells (olds++news++Builtin.zeroCells z.cells (grownCap w (n+xs.length) c et - (n+xs.length))) et)) rfl rfl rfl rfl (by rw [hS,hvs,Sem.run_bind,hrun];rfl) ?_ ?_
      ·intro M' β' hk hβ
       refine Zky (w:=w) (M:=MT X σ β) (β:=β) (z:=z) hzs (oldE:=(es.drop off).take n) (newE:=xs) (olds:=olds) (news:=news) (by rw [hlen];exact hos) hx.size ?_ hx.one ?_ hx.rep hlen rfl hge hk hβ (Zbd w.drew _) _
       ·intro k hk;rw [hlen] at hk;rw [hget k hk];exact hone k hk
       ·intro k j hk hj;rw [hlen] at hk;rw [hget k hk];exact horep k j hk hj
      ·intro M'
       have:=Rep.os (w:=w.drew.alloc (.cells (olds++news++Builtin.zeroCells z.cells (grownCap w (n+xs.length) c et - (n+xs.length))) et)) (M:=M') (β:=upd β nm ⟨w.heap.size,0,grownCap w (n+xs.length) c et,e.sz⟩) (b:=nm) (off:=0) (len:=n+xs.length) (cap:=grownCap w (n+xs.length) c et) (L:=⟨w.heap.size,0,grownCap w (n+xs.length) c et,e.sz⟩) (Zbs _ _ _) hge (by simp)
       simpa using this
     obtain ⟨olds,hsrc⟩:=Zfv (P:=P) hr (sz:=e.sz) (v:=vs) (x:=.oc b off n c e.sz) (xs:=(es.drop off).take n) hs (by simp [elemsA,hb,hce])
     have hv:∃ a,vs = .slice a n c∧(0<n→L.sz=e.sz):=by
      rcases hs.oc_inv with ⟨rfl,rfl,a,L',hL,hLs,rfl⟩ | ⟨L',hL,hLs,hl,hcp,rfl⟩
      ·exact ⟨_,rfl,fun h=>absurd h (by omega)⟩
      ·obtain rfl:=Option.some.inj (h1.symm.trans hL);exact ⟨_,rfl,fun _=>hLs⟩
     obtain ⟨a,hva,hLs⟩:=hv
     refine grow a olds hva (fun w' hw'=>?_) ?_ (fun k j hk hj=>?_) (fun k hk=>by rw [← hLs (by omega)];exact h5 _ (by omega))
     ·have:=hsrc.cells w' hw';rw [hlen] at this;rw [hsz,← hva];exact this
     ·have:=hsrc.size;rw [hlen] at this;exact this
     ·have:=hsrc.rep k j (by omega) (by omega);rw [hget k hk] at this;exact this
    ·cases h
  ·cases h
 ·cases h
theorem Zgj (hr:RelS X base σ β w) (hn : β nm=none) (hgn:getS σ nm=none) {t u et:TypeId} {e:Lay} (he:layOf P et=some e) {vs vx:Value} {s:AVal} {xs:List AVal} {news:Array Value} (hs:Rep w (MT X σ β) β vs s) (hx:Src0 w (MT X σ β) β e.sz xs news)
  {r:AVal} {σ':Store} (h:appendA σ nm e s xs=some (r,σ')) (ty:TypeId) (ha:AppRun P w t u ty et xs.length vx news) {S:Sem Next} (hS:S=(do pure (.value (← Builtin.append_ #[t,u] ty #[vs,vx])))):OpOut P X base σ β w nm S r σ':=by
 unfold appendA at h
 split at h
 ·exact Zse hr hn he hs hx h ty ha hS
 ·exact Zvg hr hn hgn he hs hx h ty ha hS
theorem Zev {t:TypeId} {l:Lay} (hl:layOf P t=some l):(zeroV l).cells=l.zero:=by
 obtain ⟨i,u,z,h1,h2,h3,h4,h5,h6,h7,h8,h9,h10⟩:=Zao hl
 unfold zeroV
 cases z with
 | agg cs =>
  have ha:l.ag=true:=by simpa [zOk] using h9
  rw [if_pos ha];rfl
 | tuple cs=>simp [zOk] at h9
 | _ =>
  have ha:¬ l.ag=true:=by intro ha;rw [ha] at h9;simp [zOk] at h9
  rw [if_neg ha,← h7]
  simp only [zeroA,Value.cells,List.map_cons,List.map_nil,List.headD_cons]
  unfold ofValue
  split<;>first | rfl | (rename_i e _;cases e) | (rename_i e;cases e)
theorem Zwc {z:Array Value} {n i j:Nat} (hi:i<n) (hj:j<z.size):(Builtin.zeroCells z n).getD (i*z.size+j) undef=z.getD j undef:=by
 have hlt:i*z.size+j<n*z.size:=by
  have:(i+1)*z.size≤n*z.size:=Nat.mul_le_mul_right _ (by omega)
  rw [Nat.add_mul,Nat.one_mul] at this;omega
 simp only [Builtin.zeroCells,Array.getD_eq_getD_getElem?,Array.getElem?_map,Array.getElem?_range,if_pos hlt,Option.map_some,Option.getD_some]
 have e5:(i*z.size+j) % z.size=j:=(Ztu hj).2
 rw [Array.getElem?_eq_getElem hj,Option.getD_some,getElem!_pos z _ (by rw [e5];exact hj)]
 simp only [e5]
theorem Zol {t:TypeId} {l:Lay} (hl:layOf P t=some l) (n:Nat) {i:TypeInfo} {z:Value} (hi:P.info? t=some i) (hz:i.zero=some z):Src0 w M β l.sz (List.replicate n (zeroV l)) (Builtin.zeroCells z.cells n):=by
 obtain ⟨z',hz1,_,hz2,hz3,hz4,_⟩:=Zd0 (w:=w) (M:=M) (β:=β) hl
 obtain rfl:z=z':=by
  have:=Zd9 (P:=P) (w:=w) hi hz
  rw [hz1] at this
  exact ((Result.ok.injEq _ _ _ _).mp this).1.symm
 have hg:∀ i,i<n→(List.replicate n (zeroV l)).getD i AVal.undef=zeroV l:=fun i hi=>by simp [List.getD,hi]
 refine ⟨by rw [size_zeroCells,hz2];simp,fun i hi=>?_,fun i j hi hj=>?_⟩
 ·simp only [List.length_replicate] at hi
  rw [hg i hi,Zev hl];exact hz3
 ·simp only [List.length_replicate] at hi
  rw [hg i hi,Zev hl]
  have:=Zwc (z:=z.cells) hi (show j<z.cells.size by omega)
  rw [hz2] at this
  rw [this];exact hz4 j hj
theorem AppRun.of_zeros {t u ty et:TypeId} {k:IntKind} (ht:P.underlying t=some (.slice et)) (hu:P.underlying u=some (.int k)) {l:Lay} (he:layOf P et=some l) (hsz : 0<l.sz) (hby:l.bytes≤65536) {n:Int} (h0 : 0≤n) (h1:n≤1000000000)
  (hw:IntKind.i64.wrap n=n) {i:TypeInfo} {z:Value} (hi:P.info? et=some i) (hz:i.zero=some z):AppRun P w t u ty et n.toNat (.int .i64 n) (Builtin.zeroCells z.cells n.toNat):=by
 obtain ⟨i',_,z',hi',_,hz',hs,_,hb,_,_,_,hzs⟩:=Zao he
 obtain rfl:=Option.some.inj (hi'.symm.trans hi)
 obtain rfl:=Option.some.inj (hz'.symm.trans hz)
 have hbig:¬ ((281474976710656:Int)<n*(i'.bytes:Int)):=by
  have h2:((i'.bytes:Nat):Int)≤65536:=by omega
  have:n*(i'.bytes:Int)≤1000000000*65536:=Int.mul_le_mul h1 h2 (by omega) (by omega)
  omega
 have hneg:¬ n<0:=by omega
 have hs0:¬ i'.size=0:=by omega
 have hze:∀ h:n.toNat=0,Builtin.zeroCells z'.cells n.toNat = #[]:=fun h=>by rw [h];simp [Builtin.zeroCells]
 refine ⟨fun i2 z2 hi2 hz2 b n2 cap olds hold h4 h5 h6=>?_,fun i2 hi2 g o n2 cap w' h4 h5=>?_,fun hm b c=>?_⟩
 ·obtain rfl:=Option.some.inj (hi2.symm.trans hi)
  obtain rfl:=Option.some.inj (hz2.symm.trans hz)
  have g1:¬ n2+n.toNat≤cap:=by omega
  have hmx:=Zpm i2.bytes
  have g2:¬ ((9223372036854775807:Int)<(n2:Int)+(n.toNat:Int)):=by omega
  have g2':¬ ((9223372036854775807:Int)<(n2:Int)+max n 0):=by omega
  have g3:¬ (281474976710656<Builtin.nextslicecap (n2+n.toNat) cap*i2.bytes):=by
   have:=growslice_fits_wide (old:=cap) h4 (Zm2 h5 h6)
   omega
  have em:IntKind.i64.max=9223372036854775807:=by decide
  by_cases h0n:n.toNat=0
  ·have:=hze h0n
   simp [Builtin.append_,run_underlying ht,run_underlying hu,sizeOf,typeInfo,zeroValue,hi,hz,hw,hneg,hbig,g1,g2,g2',g3,em,asInt,asIntOf,Question.forced,hold,newRow,grownCap,hs0,h0n,this]
   simp only [h0n,Nat.add_zero] at g1 g3
   have hz0:Builtin.zeroCells z2.cells 0 = #[]:=by simp [Builtin.zeroCells]
   simp [g1,g3,h0n,hz0]
  ·simp [Builtin.append_,run_underlying ht,run_underlying hu,sizeOf,typeInfo,zeroValue,hi,hz,hw,hneg,hbig,g1,g2,g2',g3,em,asInt,asIntOf,Question.forced,hold,newRow,grownCap,hs0,h0n]
   intro h;exact absurd h (Nat.mul_ne_zero h0n hs0)
 ·obtain rfl:=Option.some.inj (hi2.symm.trans hi)
  by_cases h0n:n.toNat=0
  ·have:=hze h0n
   rw [this] at h5
   simp only [storeCells,Array.toList_empty,Sem.run_pure,Result.ok.injEq,true_and] at h5
   subst h5
   rw [h0n,Nat.add_zero] at h4 ⊢
   simp [Builtin.append_,run_underlying ht,run_underlying hu,sizeOf,typeInfo,hi,hw,hneg,hbig,h4,asInt,asIntOf,h0n,storeCells]
  ·simp [Builtin.append_,run_underlying ht,run_underlying hu,sizeOf,typeInfo,zeroValue,hi,hz,hw,hneg,hbig,h4,asInt,asIntOf,hs0,h0n,Addr.add_lit,h5]
   intro h;exact absurd h (Nat.mul_ne_zero h0n hs0)
 ·have h0n:n.toNat=0:=hm
  obtain rfl:n=0:=by omega
  cases b<;>simp [Builtin.append_,run_underlying ht,run_underlying hu,sizeOf,typeInfo,hi,hw,asInt,asIntOf,storeCells]
end
section
variable {P:Program} {X:Nat→Nat→Prop} {base:Nat} {σ:Store} {β:Env} {w:World} {nm:Nat} {M:Nat→Nat→Prop}
def headA (m:Nat):AVal→AVal
 | .ps s es=>.ps s (es.take m)
 | .os b off n s=>.os b off (min m n) s
 | .oc b off n c s=>.oc b off (min m n) c s
 | a=>a
theorem Yh6 {v:Value} {x:AVal} {sz:Nat} {xs:List AVal} (hv:Rep w M β v x) (h:elemsA σ sz x=some xs) (m:Nat):∃ a n c,v = .slice a n c∧n=xs.length∧Rep w M β (.slice a (min m n) c) (headA m x)∧elemsA σ sz (headA m x)=some (xs.take m):=by
 unfold elemsA at h
 split at h
 ·rename_i s es
  split at h
  ·rename_i e
   cases h
   cases hv with
   | @ps a cap _ _ cv hcap hsz hc ha hrr =>
    refine ⟨_,_,_,rfl,rfl,?_,by simp [headA,elemsA,e]⟩
    have hl:(xs.take m).length=min m xs.length:=List.length_take
    have hg:∀ i,i<(xs.take m).length→(xs.take m).getD i AVal.undef=xs.getD i .undef:=fun i hi=>by
     rw [hl] at hi
     simp [List.getD,show i<m by omega]
    rw [← hl]
    exact .ps cv (by omega) (fun i hi=>by rw [hg i hi];exact hsz i (by omega)) (fun i j hi hj=>hc i j (by omega) hj) (fun h0=>ha (by omega)) (fun i j hi hj=>by rw [hg i hi];exact hrr i j (by omega) hj)
  ·cases h
 ·cases h
  cases hv with
  | nils a=>exact ⟨_,_,_,rfl,rfl,by rw [Nat.min_zero];exact .nils a,by simp [headA,elemsA]⟩
 ·rename_i b off n s
  split at h
  ·rename_i e
   split at h
   ·rename_i es fz hb
    split at h
    ·rename_i hle
     cases h
     have hlen:((es.drop off).take n).length=n:=by simp;omega
     have hel:elemsA σ sz (headA m (.os b off n s))=some (((es.drop off).take n).take m):=by
      simp only [headA,elemsA,e,if_true,hb]
      rw [if_pos (by omega),List.take_take]
     cases hv with
     | os0 a hL=>exact ⟨_,_,_,rfl,hlen.symm,by simp only [headA,Nat.min_zero];exact .os0 a hL,hel⟩
     | os hL hl hc=>exact ⟨_,_,_,rfl,hlen.symm, .os hL (by omega) hc,hel⟩
    ·cases h
   ·cases h
  ·cases h
 ·rename_i b off n c s
  split at h
  ·rename_i e
   split at h
   ·rename_i es fz hb
    split at h
    ·rename_i hle
     cases h
     have hlen:((es.drop off).take n).length=n:=by simp;omega
     have hel:elemsA σ sz (headA m (.oc b off n c s))=some (((es.drop off).take n).take m):=by
      simp only [headA,elemsA,e,if_true,hb]
      rw [if_pos (by omega),List.take_take]
     cases hv with
     | oc0 a hL=>exact ⟨_,_,_,rfl,hlen.symm,by simp only [headA,Nat.min_zero];exact .oc0 a hL,hel⟩
     | oc hL hl hc=>exact ⟨_,_,_,rfl,hlen.symm, .oc hL (by omega) hc,hel⟩
    ·cases h
   ·cases h
  ·cases h
 ·cases h
theorem Yl5 {v:Value} {s:AVal} {b off n sz:Nat} (h:Rep w M β v s) (hs:s = .os b off n sz∨∃ c,s = .oc b off n c sz):∃ L c,β b=some L∧L.sz=sz∧((n=0∧∃ a,v = .slice a 0 c)∨v = .slice (some ⟨L.g,L.o+off*L.sz,none⟩) n c):=by
 rcases hs with rfl | ⟨c,rfl⟩
 ·rcases h.os_inv with ⟨rfl,a,L,hL,hLs,rfl⟩ | ⟨L,c,hL,hLs,_,_,rfl⟩
  ·exact ⟨L,_,hL,hLs, .inl ⟨rfl,a,rfl⟩⟩
  ·exact ⟨L,_,hL,hLs, .inr rfl⟩
 ·rcases h.oc_inv with ⟨rfl,rfl,a,L,hL,hLs,rfl⟩ | ⟨L,hL,hLs,_,_,rfl⟩
  ·exact ⟨L,_,hL,hLs, .inl ⟨rfl,a,rfl⟩⟩
  ·exact ⟨L,_,hL,hLs, .inr rfl⟩
theorem Znv (hr:RelS X base σ β w) {vs:Value} {s:AVal} {sz:Nat} {xs:List AVal} {news:Array Value} (hs:Rep w (MT X σ β) β vs s) (hx:Src0 w (MT X σ β) β sz xs news) {σ':Store} (h:overA σ sz s xs=some σ')
  {S:Sem Next} {v:Value} {r:AVal} (hrun:∀ w',(∃ a n c,vs = .slice a n c∧((match a with | some a=>storeCells a news.toList | none=>pure ()):Sem Unit).run P w = .ok () w')→S.run P w = .ok (.value v) w') (hv:∀ (w':World) (M':Nat→Nat→Prop),Rep w' M' β v r):OpOut P X base σ β w nm S r σ':=by
 obtain ⟨b,off,n,hs',es,fz,hb,hc,rfl⟩:∃ b off n,(s = .os b off n sz∨∃ c,s = .oc b off n c sz)∧∃ es fz,getS σ b=some (.row es fz)∧(0<sz∧fz≤off∧xs.length≤n∧off+n≤es.length∧xs.all (fun x=>x.cells.length==sz&&x.cells.all AVal.isCell)=true)∧setS σ b (.row (setMany es off xs) fz) = σ':=by
  unfold overA at h
  split at h
  ·rename_i b off n c sz'
   split at h
   ·rename_i es fz hb
    split at h
    ·rename_i hc
     obtain ⟨rfl,hc⟩:=hc
     cases h;exact ⟨_,_,_, .inr ⟨_,rfl⟩,_,_,hb,hc,rfl⟩
    ·cases h
   ·cases h
  ·rename_i b off n sz'
   split at h
   ·rename_i es fz hb
    split at h
    ·rename_i hc
     obtain ⟨rfl,hc⟩:=hc
     cases h;exact ⟨_,_,_, .inl rfl,_,_,hb,hc,rfl⟩
    ·cases h
   ·cases h
  ·cases h
 obtain ⟨h0,h1,h2,h3,h4⟩:=hc
 have hone:∀ v∈news.toList,v.oneCell'=true:=hx.ones fun x hx'=>by
  have:=List.all_eq_true.1 h4 x hx'
  simp only [Bool.and_eq_true] at this
  exact this.2
 obtain ⟨L,c,hL,hLs,hvs⟩:=Yl5 hs hs'
 rcases hvs with ⟨hn,a,hvs⟩ | hvs
 ·have hx0:xs=[]:=List.eq_nil_of_length_eq_zero (by omega)
  subst hx0
  have hn0:news = #[]:=Array.eq_empty_of_size_eq_zero (by rw [hx.size];simp)
  rw [Zig,Zk8 hb]
  refine OpOut.val hr (v:=v) (hrun w ⟨a,0,c,hvs,?_⟩) (hv _ _)
  subst hn0
  cases a<;>simp [storeCells]
 ·subst hLs
  refine Zu9 hr hb hL h1 (by omega) hx (v:=v) (fun cc ec g2 g3=>hrun _ ⟨_,n,c,hvs,?_⟩) hv
  have hns:=hx.size
  rw [Nat.add_mul] at g3
  have hst:=run_storeCells_at P L.g (L.o+off*L.sz) ec news.toList 0 cc w g2 (by simp only [Nat.add_zero,Array.length_toList];omega) hone
  simp only [Nat.add_zero] at hst
  exact hst
theorem Zu4 {v:Value} {s:AVal} {n:Nat} (h:Rep w M β v s) (hn:lenS s=some n):∃ a c,v = .slice a n c:=by
 unfold lenS at hn
 split at hn<;>cases hn
 ·cases h;exact ⟨_,_,rfl⟩
 ·cases h<;>exact ⟨_,_,rfl⟩
 ·cases h<;>exact ⟨_,_,rfl⟩
 ·cases h;exact ⟨_,_,rfl⟩
theorem Ycx (hr:RelS X base σ β w) {t et:TypeId} (ht:P.underlying t=some (.slice et)) {e:Lay} (he:layOf P et=some e) {vs:Value} {s:AVal} (hs:Rep w (MT X σ β) β vs s) {n:Nat} (hn:lenS s=some n) {r:AVal} {σ':Store}
  (h:(if n=0 then some (AVal.tup [],σ) else (overA σ e.sz s (List.replicate n (zeroV e))).map (AVal.tup [], ·))=some (r,σ')) (ty:TypeId) {S:Sem Next} (hS:S=(do pure (.value (← Builtin.clear_ #[t] ty #[vs])))):OpOut P X base σ β w nm S r σ':=by
 have htup:∀ (w':World) (M':Nat→Nat→Prop),Rep w' M' β (.tuple #[]) (.tup []):=fun w' M'=>.tup rfl fun k hk=>by simp at hk
 obtain ⟨a,c,hvs⟩:=Zu4 hs hn
 split at h
 ·rename_i h0
  cases h
  subst h0
  refine OpOut.val hr (v:=.tuple #[]) ?_ (htup _ _)
  rw [hS,hvs]
  cases a<;>simp [Builtin.clear_,run_underlying ht]
 ·rename_i h0
  obtain ⟨σ1,h1,h2⟩:=Option.map_eq_some_iff.1 h
  cases h2
  obtain ⟨i,_,z,hi,_,hz,_⟩:=Zao he
  refine Znv hr hs (Zol he n hi hz) h1 (v:=.tuple #[]) (fun w' hw'=>?_) htup
  obtain ⟨a',n',c',e1,e2⟩:=hw'
  rw [hvs] at e1
  cases e1
  rw [hS,hvs]
  cases a with
  | none =>
   simp only [Sem.run_pure,Result.ok.injEq,true_and] at e2
   subst e2
   simp [Builtin.clear_,run_underlying ht]
  | some a =>
   simp only at e2
   have hn0:n≠0:=h0
   have e3:=e2
   obtain ⟨m,rfl⟩:∃ m,n=m+1:=⟨n - 1,by omega⟩
   simp [Builtin.clear_,run_underlying ht,Zd9 hi hz,e2]
theorem Yfn (hr:RelS X base σ β w) {t u et:TypeId} (ht:P.underlying t=some (.slice et)) {e:Lay} (he:layOf P et=some e) {vs vx:Value} {s x:AVal} (hs:Rep w (MT X σ β) β vs s) (hx:Rep w (MT X σ β) β vx x) {n:Nat} (hn:lenS s=some n)
  {xs:List AVal} (hxs:elemsA σ e.sz x=some xs) {r:AVal} {σ':Store} (h:(overA σ e.sz s (xs.take n)).map (AVal.int .i64 ((xs.take n).length:Int), ·)=some (r,σ')) (ty:TypeId) {S:Sem Next} (hS:S=(do pure (.value (← Builtin.copy_ #[t,u] ty #[vs,vx])))):OpOut P X base σ β w nm S r σ':=by
 obtain ⟨a,c,hvs⟩:=Zu4 hs hn
 obtain ⟨σ1,h1,h2⟩:=Option.map_eq_some_iff.1 h
 cases h2
 obtain ⟨i,_,z,hi,_,hz,hsz,_⟩:=Zao he
 obtain ⟨b,m,d,rfl,hm,hx2,hx3⟩:=Yh6 hx hxs n
 obtain ⟨news,hsrc⟩:=Zfv (P:=P) hr hx2 hx3
 refine Znv hr hs hsrc.to0 h1 (v:=.int .i64 ((xs.take n).length:Int)) (fun w' hw'=>?_) fun w' M'=>.int _ _
 obtain ⟨a',n',c',e1,e2⟩:=hw'
 rw [hvs] at e1
 cases e1
 have hl:(xs.take n).length=min m n:=by rw [List.length_take,hm,Nat.min_comm]
 have hf:=hsrc.cells w rfl
 rw [hl] at hf
 have hf':(Builtin.firstCells i.size (min m n) (.slice b m d)).run P w = .ok news w:=by
  rw [hsz]
  cases b<;>exact hf
 rw [hS,hvs,hl]
 cases a with
 | none =>
  simp only [Sem.run_pure,Result.ok.injEq,true_and] at e2
  subst e2
  simp [Builtin.copy_,run_underlying ht,Zb9 hi,Builtin.lenOf,hf',goInt]
 | some a =>
  simp only at e2
  simp [Builtin.copy_,run_underlying ht,Zb9 hi,Builtin.lenOf,hf',goInt,e2]
theorem Yhp {v:Value} {x:AVal} {n:Nat} (hx:Rep w M β v x) (h2:capA x=some n):∃ a m,v = .slice a m n:=by
 unfold capA at h2
 split at h2<;>cases h2
 ·cases hx with | nils a=>exact ⟨_,_,rfl⟩
 ·cases hx<;>exact ⟨_,_,rfl⟩
theorem Zvt {e:Lay} {s:AVal} {xs:List AVal} {x:AVal×Store} (h:appendA σ nm e s xs=some x) : 0<e.sz∧e.bytes≤65536:=by
 unfold appendA appendC appendO at h
 split at h
 ·split at h
  ·rename_i hc;exact ⟨hc.2.1,hc.2.2.1⟩
  ·cases h
 ·split at h
  ·rename_i hc;exact ⟨hc.2.1,hc.2.2.1⟩
  ·cases h
end
end Go.Abs
