/- Part 8 of my own framework and of the walks of functions: AbsJo, AbsJp. -/
import Derived.Test.YtfjbdamcmiglgaaGreatOwn7
abbrev rI:=@Int.mul_le_mul
abbrev cA:=@List.length_take
abbrev aV:=@List.map_nil
abbrev jG:=@List.take_take
set_option linter.unusedVariables false
set_option linter.unusedSectionVars false
set_option linter.unusedSimpArgs false
namespace Go.dm
open Go
section
variable {P:Program} {X:Nat→Nat→Prop} {base:Nat} {σ:ai} {β:Env} {w:World} {nm:Nat} {M:Nat→Nat→Prop}
theorem WB (hr:cS X base σ β w) {b p fz:Nat} {es xs:List ah} (hb:bP σ b=some (.row es fz)) {L:Loc} (hL : β b=some L) (FJ:fz≤p) (hp:p+xs.length≤es.length)
  {news:Array Value} (hx:tZ w (MT X σ β) β L.sz xs news) {s:Sem Next} {v:Value} {r:ah}
  (ft:∀ c e,w.heap[L.g]? = some (.cells c e (0,0))→L.o+(p+xs.length)*L.sz≤c.size→s.run P w = .ok (.value v) (w.setRow L.g (c.toList.take (L.o+p*L.sz)++news.toList++c.toList.drop (L.o+p*L.sz+news.toList.length)).toArray))
  (pV:∀ (w':World) (M':Nat→Nat→Prop),cf w' M' β v r):c8 P X base σ β w nm s r (cr σ b (.row (cH es p xs) fz)):=by
 obtain ⟨L',h1,h2b,h2x,c,e,h2,h3,h4,h5,h6⟩:=hr.cw b _ (kq hb);obtain rfl:=aP (hL.symm.trans h1);have xg:(p+xs.length)*L.sz≤L.n*L.sz:=bf _ (by omega);have Pe:=xg;rw [bQ] at Pe;have BP:=hx.size;have pK:L.o+p*L.sz+news.toList.length≤c.size:=by simp only [bH];omega
 have apj:fz*L.sz≤p*L.sz:=bf _ FJ;have hru:=ft c e h2 (by omega);obtain ⟨f1,f2,f3,f4,f5,f6⟩:=IJ w (c':=(c.toList.take (L.o+p*L.sz)++news.toList++c.toList.drop (L.o+p*L.sz+news.toList.length)).toArray) h2;refine Dh (lu:=.row (cH es p xs) fz) hr (kq hb) h1 f1 f2 f3 f4 (fun g hg=>f5 g hg) (fun off v ig hn=>?_) (fun hn=>absurd (ae _) (hn _)) (fun _ hm=>hm) (.inl hru) (fun M' hk=>?_) (fun M' _=>pV _ M')
 ·simp only [bO.mut,Nat.not_le] at hn;rw [cell_of_row _ _ _ _ _ _ f6];rw [cell_of_row _ _ _ _ _ _ h2] at ig;obtain ⟨bA,hv⟩:=aO.1 ig;rw [uO (by rw [C9 _ _ _ pK];exact bA),C_ _ _ _ pK,if_neg (by omega),← uO bA];exact ig
 ·have rB:∀ j,(cH es p xs).getD j .undef=if p≤j∧j<p+xs.length∧j<es.length then xs.getD (j - p) .undef else es.getD j .undef:=Gd es p xs
  refine ⟨_,e,f6,?_,by simpa [vS] using h4,fun j hj=>?_,fun j q hj hq=>?_⟩
  ·rw [C9 _ _ _ pK];exact h3
  ·rw [vS] at hj;rw [rB];split
   ·rename_i hc;exact hx.one _ (by omega)
   ·exact h5 j hj
  ·rw [vS] at hj;rw [C_ _ _ _ pK,rB];simp only [bH];by_cases fD:p≤j∧j<p+xs.length
   ·have h7:p*L.sz≤j*L.sz:=bf _ fD.1;have h8:(j - p+1)*L.sz≤xs.length*L.sz:=bf _ (by omega);rw [bQ,dL,kM] at h8;rw [if_pos (by omega),if_pos ⟨fD.1,fD.2,hj⟩];have:=hx.rep (j - p) q (by omega) hq;rw [kM] at this;rw [show news.toList.getD (L.o+j*L.sz+q - (L.o+p*L.sz)) undef=news.getD (L.o+j*L.sz+q - (L.o+p*L.sz)) undef by simp [List.getD,ak],
     show L.o+j*L.sz+q - (L.o+p*L.sz)=j*L.sz - p*L.sz+q by omega]
    exact this.mono hk fun _ _ h=>h
   ·have xQ:¬ (L.o+p*L.sz≤L.o+j*L.sz+q∧L.o+j*L.sz+q<L.o+p*L.sz+news.size):=by
     rintro ⟨a1,a2⟩;by_cases e1:j<p
     ·have:(j+1)*L.sz≤p*L.sz:=bf _ e1;rw [bQ,dL] at this;omega
     ·have:(p+xs.length)*L.sz≤j*L.sz:=bf _ (by omega);rw [bQ] at this;omega
    rw [if_neg xQ,if_neg (by omega)];exact (h6 j q hj hq).mono hk fun _ _ h=>h
theorem Mi {b:Nat} {x:bO} (h:bP σ b=some x):cr σ b x = σ:=by
 have h':=kq h;have bA:b < σ.length:=(aJ.1 h').1;unfold cr;rw [if_pos bA];apply b_;intro i;rw [dz];by_cases e:b=i
 ·subst e;rw [if_pos rfl,if_pos bA,h']
 ·rw [if_neg e]
theorem cf.uv {v:Value} {b off n c sz:Nat} (h:cf w M β v (.oc b off n c sz)):(n=0∧c=0∧∃ a L,β b=some L∧L.sz=sz∧v = .slice a 0 0) ∨
  ∃ L,β b=some L∧L.sz=sz∧n≤c∧off+c≤L.n∧v = .slice (some ⟨L.g,L.o+off*L.sz,none⟩) n c:=by
 cases h with
 | tQ a h=>exact .inl ⟨rfl,rfl,a,_,h,rfl,rfl⟩
 | oc h1 h2 h3=>exact .inr ⟨_,h1,rfl,h2,h3,rfl⟩
theorem SR (es:List ah) (p:Nat):cH es p []=es:=rfl
theorem Zxd (hr:cS X base σ β w) (hn : β nm=none) {t u et:TypeId} {e:fj} (he:aF P et=some e) {vs vx:Value} {b off n c sz:Nat} {xs:List ah} {news:Array Value} (hs:cf w (MT X σ β) β vs (.oc b off n c sz)) (hx:tZ w (MT X σ β) β e.sz xs news)
  {r:ah} {σ':ai} (h:n8 σ nm e b off n c sz xs=some (r,σ')) (ty:TypeId) (ha:ny P w t u ty et xs.length vx news) {S:Sem Next} (hS:S=(do pure (.value (← Builtin.append_ #[t,u] ty #[vs,vx])))):c8 P X base σ β w nm S r σ':=by
 obtain ⟨i,_,z,hi,_,hz,fJ,_,BA,_,_,_,Ez⟩:=qE he;unfold n8 at h;split at h
 case isFalse=>cases h
 rename_i hc;obtain ⟨sO,lJ,BB,hc4⟩:=hc;split at h
 ·rename_i es fz hb;split at h
  ·rename_i ly;obtain ⟨rfl,OD⟩:=ly;split at h
   ·rename_i tJ;split at h
    ·rename_i hf;obtain ⟨vp,pH⟩:=hf;cases h;rcases hs.uv with ⟨rfl,rfl,a,L,hL,jT,rfl⟩ | ⟨L,hL,jT,hl,Hu,rfl⟩
     ·have h0:xs.length=0:=by omega
      have Ew:xs=[]:=bg h0;subst Ew;rw [SR,Mi hb];refine c8.val hr (v:=.slice a 0 0) ?_ (by rw [← jT];exact .tQ a hL);rw [hS,Sem.run_bind,ha.none rfl];rfl
     ·have re:∀ v∈news.toList,v.oneCell'=true:=hx.EK fun x tK=>by
       have:=a8.1 sO x tK;simp only [aB] at this;exact this.2
      refine WB hr hb hL vp pH (by rw [jT];exact hx) (v:=.slice (some ⟨L.g,L.o+off*L.sz,none⟩) (n+xs.length) c) (fun cc ec h2 h3=>?_) fun w' M'=>by rw [← jT];exact .oc hL tJ Hu
      have BP:=hx.size;rw [← jT] at BP;rw [bQ] at h3;have gx:=run_storeCells_at P L.g (L.o+(off+n)*L.sz) ec news.toList 0 cc w h2 (by simp only [cC,bH];omega) re;simp only [cC] at gx;rw [hS,Sem.run_bind,ha.Yj i hi tJ (by rw [fJ,← jT,fN,← bQ];exact gx)];rfl
    ·cases h
   ·rename_i tJ;split at h
    ·rename_i vo;cases h;obtain ⟨L,h1,vn,hX,cc,ec,h2,h3,h4,h5,h6⟩:=hr.cw b _ (kq hb);have hlen:((es.drop off).take n).length=n:=by simp;omega
     have eJ:∀ k,k<n→((es.drop off).take n).getD k ah.undef=es.getD (off+k) .undef:=fun k hk=>by
      simp [List.getD,hk,eo]
     have grow:∀ (a:Option Addr) (olds:Array Value),vs = .slice a n c→(∀ w':World,w'.heap=w.heap→(Builtin.firstCells i.size n (.slice a n c)).run P w' = .ok olds w') →
       olds.size=n*e.sz→(∀ k j,k<n→j<e.sz→cf w (MT X σ β) β (olds.getD (k*e.sz+j) undef) ((es.getD (off+k) .undef).cells.getD j .undef))→(∀ k,k<n→(es.getD (off+k) .undef).cells.length=e.sz) →
       c8 P X base σ β w nm S (.os nm 0 (n+xs.length) e.sz) (cr σ nm (.row ((es.drop off).take n++xs) 0)):=by
      intro a olds mQ hold zp zo re;have rB:=grownCap_ge w (n+xs.length) c et;have ft:=ha.grow i z hi hz (hold w.drew rfl) (by omega) (by first | (rw [← BA];omega) | (rw [BA];omega)) (by omega)
      refine Ai hr hn (.row ((es.drop off).take n++xs) 0) (grownCap w (n+xs.length) c et) e.sz (w':=w.drew.alloc (.cells (olds++news++Builtin.zeroCells z.cells (grownCap w (n+xs.length) c et - (n+xs.length))) et)) rfl rfl rfl rfl (by rw [hS,mQ,Sem.run_bind,ft];rfl) ?_ ?_
      ·intro M' β' hk hβ;refine L5 (w:=w) (M:=MT X σ β) (β:=β) (z:=z) Ez (mR:=(es.drop off).take n) (qo:=xs) (olds:=olds) (news:=news) (by rw [hlen];exact zp) hx.size ?_ hx.one ?_ hx.rep hlen rfl rB hk hβ (yK w.drew _) _
       ·intro k hk;rw [hlen] at hk;rw [eJ k hk];exact re k hk
       ·intro k j hk hj;rw [hlen] at hk;rw [eJ k hk];exact zo k j hk hj
      ·intro M';have:=cf.os (w:=w.drew.alloc (.cells (olds++news++Builtin.zeroCells z.cells (grownCap w (n+xs.length) c et - (n+xs.length))) et)) (M:=M') (β:=pQ β nm ⟨w.heap.size,0,grownCap w (n+xs.length) c et,e.sz⟩) (b:=nm) (off:=0) (len:=n+xs.length) (cap:=grownCap w (n+xs.length) c et) (L:=⟨w.heap.size,0,grownCap w (n+xs.length) c et,e.sz⟩) (uR _ _ _) rB (by simp);simpa using this
     obtain ⟨olds,oA⟩:=I8 (P:=P) hr (sz:=e.sz) (v:=vs) (x:=.oc b off n c e.sz) (xs:=(es.drop off).take n) hs (by simp [fp,hb,OD]);have hv:∃ a,vs = .slice a n c∧(0<n→L.sz=e.sz):=by
      rcases hs.uv with ⟨rfl,rfl,a,L',hL,jT,rfl⟩ | ⟨L',hL,jT,hl,Hu,rfl⟩
      ·exact ⟨_,rfl,fun h=>absurd h (by omega)⟩
      ·obtain rfl:=aP (h1.symm.trans hL);exact ⟨_,rfl,fun _=>jT⟩
     obtain ⟨a,FX,jT⟩:=hv;refine grow a olds FX (fun w' yc=>?_) ?_ (fun k j hk hj=>?_) (fun k hk=>by rw [← jT (by omega)];exact h5 _ (by omega))
     ·have:=oA.cells w' yc;rw [hlen] at this;rw [fJ,← FX];exact this
     ·have:=oA.size;rw [hlen] at this;exact this
     ·have:=oA.rep k j (by omega) (by omega);rw [eJ k hk] at this;exact this
    ·cases h
  ·cases h
 ·cases h
theorem Lm (hr:cS X base σ β w) (hn : β nm=none) (BD:bP σ nm=none) {t u et:TypeId} {e:fj} (he:aF P et=some e) {vs vx:Value} {s:ah} {xs:List ah} {news:Array Value} (hs:cf w (MT X σ β) β vs s) (hx:tZ w (MT X σ β) β e.sz xs news)
  {r:ah} {σ':ai} (h:eO σ nm e s xs=some (r,σ')) (ty:TypeId) (ha:ny P w t u ty et xs.length vx news) {S:Sem Next} (hS:S=(do pure (.value (← Builtin.append_ #[t,u] ty #[vs,vx])))):c8 P X base σ β w nm S r σ':=by
 unfold eO at h;split at h
 ·exact Zxd hr hn he hs hx h ty ha hS
 ·exact Yb2 hr hn BD he hs hx h ty ha hS
theorem IV {t:TypeId} {l:fj} (hl:aF P t=some l):(zeroV l).cells=l.zero:=by
 obtain ⟨i,u,z,h1,h2,h3,h4,h5,h6,h7,h8,h9,vg⟩:=qE hl;unfold zeroV;cases z with
 | agg cs =>
  have ha:l.ag=true:=by simpa [B6] using h9
  rw [if_pos ha];rfl
 | tuple cs=>simp [B6] at h9
 | _ =>
  have ha:¬ l.ag=true:=by intro ha;rw [ha] at h9;simp [B6] at h9
  rw [if_neg ha,← h7];simp only [tW,Value.cells,aK,aV,List.headD_cons];unfold ofValue;split<;>first | rfl | (rename_i e _;cases e) | (rename_i e;cases e)
theorem Yb6 {z:Array Value} {n i j:Nat} (hi:i<n) (hj:j<z.size):(Builtin.zeroCells z n).getD (i*z.size+j) undef=z.getD j undef:=by
 have bA:i*z.size+j<n*z.size:=by
  have:(i+1)*z.size≤n*z.size:=bf _ (by omega);rw [bQ,dL] at this;omega
 simp only [Builtin.zeroCells,ak,eZ,Array.getElem?_range,if_pos bA,bM,bx];have e5:(i*z.size+j) % z.size=j:=(J7 hj).2;rw [aE hj,bx,getElem!_pos z _ (by rw [e5];exact hj)];simp only [e5]
theorem Vx {t:TypeId} {l:fj} (hl:aF P t=some l) (n:Nat) {i:TypeInfo} {z:Value} (hi:P.info? t=some i) (hz:i.zero=some z):tZ w M β l.sz (List.replicate n (zeroV l)) (Builtin.zeroCells z.cells n):=by
 obtain ⟨z',sU,_,sV,KF,F1,_⟩:=Cj (w:=w) (M:=M) (β:=β) hl;obtain rfl:z=z':=by
  have:=IG (P:=P) (w:=w) hi hz;rw [sU] at this;exact ((Result.ok.injEq _ _ _ _).mp this).1.symm
 have hg:∀ i,i<n→(List.replicate n (zeroV l)).getD i ah.undef=zeroV l:=fun i hi=>by simp [List.getD,hi]
 refine ⟨by rw [size_zeroCells,sV];simp,fun i hi=>?_,fun i j hi hj=>?_⟩
 ·simp only [bB] at hi;rw [hg i hi,IV hl];exact KF
 ·simp only [bB] at hi;rw [hg i hi,IV hl];have:=Yb6 (z:=z.cells) hi (show j<z.cells.size by omega);rw [sV] at this;rw [this];exact F1 j hj
theorem ny.zN {t u ty et:TypeId} {k:IntKind} (ht:P.underlying t=some (.slice et)) (hu:P.underlying u=some (.int k)) {l:fj} (he:aF P et=some l) (fJ : 0<l.sz) (BA:l.bytes≤65536) {n:Int} (h0 : 0≤n) (h1:n≤1000000000)
  (hw:IntKind.i64.wrap n=n) {i:TypeInfo} {z:Value} (hi:P.info? et=some i) (hz:i.zero=some z):ny P w t u ty et n.toNat (.int .i64 n) (Builtin.zeroCells z.cells n.toNat):=by
 obtain ⟨i',_,z',dZ,_,P0,hs,_,hb,_,_,_,Ez⟩:=qE he;obtain rfl:=aP (dZ.symm.trans hi);obtain rfl:=aP (P0.symm.trans hz);have vo:¬ ((281474976710656:Int)<n*(i'.bytes:Int)):=by
  have h2:((i'.bytes:Nat):Int)≤65536:=by omega
  have:n*(i'.bytes:Int)≤1000000000*65536:=rI h1 h2 (by omega) (by omega);omega
 have fX:¬ n<0:=by omega
 have ow:¬ i'.size=0:=by omega
 have CU:∀ h:n.toNat=0,Builtin.zeroCells z'.cells n.toNat = #[]:=fun h=>by rw [h];simp [Builtin.zeroCells]
 refine ⟨fun i2 z2 O1 sV b n2 cap olds hold h4 h5 h6=>?_,fun i2 O1 g o n2 cap w' h4 h5=>?_,fun hm b c=>?_⟩
 ·obtain rfl:=aP (O1.symm.trans hi);obtain rfl:=aP (sV.symm.trans hz);have g1:¬ n2+n.toNat≤cap:=by omega
  have Kt:=VZ i2.bytes;have g2:¬ ((9223372036854775807:Int)<(n2:Int)+(n.toNat:Int)):=by omega
  have Xy:¬ ((9223372036854775807:Int)<(n2:Int)+max n 0):=by omega
  have g3:¬ (281474976710656<Builtin.nextslicecap (n2+n.toNat) cap*i2.bytes):=by
   have:=growslice_fits_wide (old:=cap) h4 (Uj h5 h6);omega
  have em:IntKind.i64.max=9223372036854775807:=by decide
  by_cases xM:n.toNat=0
  ·have:=CU xM;simp [Builtin.append_,run_underlying ht,run_underlying hu,sizeOf,typeInfo,zeroValue,hi,hz,hw,fX,vo,g1,g2,Xy,g3,em,asInt,asIntOf,Question.forced,hold,newRow,grownCap,ow,xM,this];simp only [xM,cC] at g1 g3;have Ie:Builtin.zeroCells z2.cells 0 = #[]:=by simp [Builtin.zeroCells]
   simp [g1,g3,xM,Ie]
  ·simp [Builtin.append_,run_underlying ht,run_underlying hu,sizeOf,typeInfo,zeroValue,hi,hz,hw,fX,vo,g1,g2,Xy,g3,em,asInt,asIntOf,Question.forced,hold,newRow,grownCap,ow,xM];intro h;exact absurd h (Nat.mul_ne_zero xM ow)
 ·obtain rfl:=aP (O1.symm.trans hi);by_cases xM:n.toNat=0
  ·have:=CU xM;rw [this] at h5;simp only [storeCells,Array.toList_empty,Sem.run_pure,Result.ok.injEq,true_and] at h5;subst h5;rw [xM,cC] at h4 ⊢;simp [Builtin.append_,run_underlying ht,run_underlying hu,sizeOf,typeInfo,hi,hw,fX,vo,h4,asInt,asIntOf,xM,storeCells]
  ·simp [Builtin.append_,run_underlying ht,run_underlying hu,sizeOf,typeInfo,zeroValue,hi,hz,hw,fX,vo,h4,asInt,asIntOf,ow,xM,Addr.add_lit,h5];intro h;exact absurd h (Nat.mul_ne_zero xM ow)
 ·have xM:n.toNat=0:=hm;obtain rfl:n=0:=by omega
  cases b<;>simp [Builtin.append_,run_underlying ht,run_underlying hu,sizeOf,typeInfo,hi,hw,asInt,asIntOf,storeCells]
end
section
variable {P:Program} {X:Nat→Nat→Prop} {base:Nat} {σ:ai} {β:Env} {w:World} {nm:Nat} {M:Nat→Nat→Prop}
def oL (m:Nat):ah→ah
 | .ps s es=>.ps s (es.take m)
 | .os b off n s=>.os b off (min m n) s
 | .oc b off n c s=>.oc b off (min m n) c s
 | a=>a
theorem Yny {v:Value} {x:ah} {sz:Nat} {xs:List ah} (hv:cf w M β v x) (h:fp σ sz x=some xs) (m:Nat):∃ a n c,v = .slice a n c∧n=xs.length∧cf w M β (.slice a (min m n) c) (oL m x)∧fp σ sz (oL m x)=some (xs.take m):=by
 unfold fp at h;split at h
 ·rename_i s es;split at h
  ·rename_i e;cases h;cases hv with
   | @ps a cap _ _ cv jH fJ hc ha PF =>
    refine ⟨_,_,_,rfl,rfl,?_,by simp [oL,fp,e]⟩;have hl:(xs.take m).length=min m xs.length:=cA;have hg:∀ i,i<(xs.take m).length→(xs.take m).getD i ah.undef=xs.getD i .undef:=fun i hi=>by
     rw [hl] at hi;simp [List.getD,show i<m by omega]
    rw [← hl];exact .ps cv (by omega) (fun i hi=>by rw [hg i hi];exact fJ i (by omega)) (fun i j hi hj=>hc i j (by omega) hj) (fun h0=>ha (by omega)) (fun i j hi hj=>by rw [hg i hi];exact PF i j (by omega) hj)
  ·cases h
 ·cases h;cases hv with
  | aW a=>exact ⟨_,_,_,rfl,rfl,by rw [Nat.min_zero];exact .aW a,by simp [oL,fp]⟩
 ·rename_i b off n s;split at h
  ·rename_i e;split at h
   ·rename_i es fz hb;split at h
    ·rename_i hle;cases h;have hlen:((es.drop off).take n).length=n:=by simp;omega
     have ju:fp σ sz (oL m (.os b off n s))=some (((es.drop off).take n).take m):=by
      simp only [oL,fp,e,if_true,hb];rw [if_pos (by omega),jG]
     cases hv with
     | tU a hL=>exact ⟨_,_,_,rfl,hlen.symm,by simp only [oL,Nat.min_zero];exact .tU a hL,ju⟩
     | os hL hl hc=>exact ⟨_,_,_,rfl,hlen.symm, .os hL (by omega) hc,ju⟩
    ·cases h
   ·cases h
  ·cases h
 ·rename_i b off n c s;split at h
  ·rename_i e;split at h
   ·rename_i es fz hb;split at h
    ·rename_i hle;cases h;have hlen:((es.drop off).take n).length=n:=by simp;omega
     have ju:fp σ sz (oL m (.oc b off n c s))=some (((es.drop off).take n).take m):=by
      simp only [oL,fp,e,if_true,hb];rw [if_pos (by omega),jG]
     cases hv with
     | tQ a hL=>exact ⟨_,_,_,rfl,hlen.symm,by simp only [oL,Nat.min_zero];exact .tQ a hL,ju⟩
     | oc hL hl hc=>exact ⟨_,_,_,rfl,hlen.symm, .oc hL (by omega) hc,ju⟩
    ·cases h
   ·cases h
  ·cases h
 ·cases h
theorem Ytn {v:Value} {s:ah} {b off n sz:Nat} (h:cf w M β v s) (hs:s = .os b off n sz∨∃ c,s = .oc b off n c sz):∃ L c,β b=some L∧L.sz=sz∧((n=0∧∃ a,v = .slice a 0 c)∨v = .slice (some ⟨L.g,L.o+off*L.sz,none⟩) n c):=by
 rcases hs with rfl | ⟨c,rfl⟩
 ·rcases h.sx with ⟨rfl,a,L,hL,jT,rfl⟩ | ⟨L,c,hL,jT,_,_,rfl⟩
  ·exact ⟨L,_,hL,jT, .inl ⟨rfl,a,rfl⟩⟩
  ·exact ⟨L,_,hL,jT, .inr rfl⟩
 ·rcases h.uv with ⟨rfl,rfl,a,L,hL,jT,rfl⟩ | ⟨L,hL,jT,_,_,rfl⟩
  ·exact ⟨L,_,hL,jT, .inl ⟨rfl,a,rfl⟩⟩
  ·exact ⟨L,_,hL,jT, .inr rfl⟩
theorem UW (hr:cS X base σ β w) {vs:Value} {s:ah} {sz:Nat} {xs:List ah} {news:Array Value} (hs:cf w (MT X σ β) β vs s) (hx:tZ w (MT X σ β) β sz xs news) {σ':ai} (h:kQ σ sz s xs=some σ')
  {S:Sem Next} {v:Value} {r:ah} (ft:∀ w',(∃ a n c,vs = .slice a n c∧((match a with | some a=>storeCells a news.toList | none=>pure ()):Sem Unit).run P w = .ok () w')→S.run P w = .ok (.value v) w') (hv:∀ (w':World) (M':Nat→Nat→Prop),cf w' M' β v r):c8 P X base σ β w nm S r σ':=by
 obtain ⟨b,off,n,H6,es,fz,hb,hc,rfl⟩:∃ b off n,(s = .os b off n sz∨∃ c,s = .oc b off n c sz)∧∃ es fz,bP σ b=some (.row es fz)∧(0<sz∧fz≤off∧xs.length≤n∧off+n≤es.length∧xs.all (fun x=>x.cells.length==sz&&x.cells.all ah.cT)=true)∧cr σ b (.row (cH es off xs) fz) = σ':=by
  unfold kQ at h;split at h
  ·rename_i b off n c yh;split at h
   ·rename_i es fz hb;split at h
    ·rename_i hc;obtain ⟨rfl,hc⟩:=hc;cases h;exact ⟨_,_,_, .inr ⟨_,rfl⟩,_,_,hb,hc,rfl⟩
    ·cases h
   ·cases h
  ·rename_i b off n yh;split at h
   ·rename_i es fz hb;split at h
    ·rename_i hc;obtain ⟨rfl,hc⟩:=hc;cases h;exact ⟨_,_,_, .inl rfl,_,_,hb,hc,rfl⟩
    ·cases h
   ·cases h
  ·cases h
 obtain ⟨h0,h1,h2,h3,h4⟩:=hc;have re:∀ v∈news.toList,v.oneCell'=true:=hx.EK fun x tK=>by
  have:=a8.1 h4 x tK;simp only [aB] at this;exact this.2
 obtain ⟨L,c,hL,jT,mQ⟩:=Ytn hs H6;rcases mQ with ⟨hn,a,mQ⟩ | mQ
 ·have Ew:xs=[]:=bg (by omega);subst Ew;have yz:news = #[]:=lX (by rw [hx.size];simp);rw [SR,Mi hb];refine c8.val hr (v:=v) (ft w ⟨a,0,c,mQ,?_⟩) (hv _ _);subst yz;cases a<;>simp [storeCells]
 ·subst jT;refine WB hr hb hL h1 (by omega) hx (v:=v) (fun cc ec g2 g3=>ft _ ⟨_,n,c,mQ,?_⟩) hv;have BP:=hx.size;rw [bQ] at g3;have gx:=run_storeCells_at P L.g (L.o+off*L.sz) ec news.toList 0 cc w g2 (by simp only [cC,bH];omega) re;simp only [cC] at gx;exact gx
theorem Qu {v:Value} {s:ah} {n:Nat} (h:cf w M β v s) (hn:kW s=some n):∃ a c,v = .slice a n c:=by
 unfold kW at hn;split at hn<;>cases hn
 ·cases h;exact ⟨_,_,rfl⟩
 ·cases h<;>exact ⟨_,_,rfl⟩
 ·cases h<;>exact ⟨_,_,rfl⟩
 ·cases h;exact ⟨_,_,rfl⟩
theorem Yiu (hr:cS X base σ β w) {t et:TypeId} (ht:P.underlying t=some (.slice et)) {e:fj} (he:aF P et=some e) {vs:Value} {s:ah} (hs:cf w (MT X σ β) β vs s) {n:Nat} (hn:kW s=some n) {r:ah} {σ':ai}
  (h:(if n=0 then some (ah.dT [],σ) else (kQ σ e.sz s (List.replicate n (zeroV e))).map (ah.dT [], ·))=some (r,σ')) (ty:TypeId) {S:Sem Next} (hS:S=(do pure (.value (← Builtin.clear_ #[t] ty #[vs])))):c8 P X base σ β w nm S r σ':=by
 have wL:∀ (w':World) (M':Nat→Nat→Prop),cf w' M' β (.tuple #[]) (.dT []):=fun w' M'=>.dT rfl fun k hk=>by simp at hk
 obtain ⟨a,c,mQ⟩:=Qu hs hn;split at h
 ·rename_i h0;cases h;subst h0;refine c8.val hr (v:=.tuple #[]) ?_ (wL _ _);rw [hS,mQ];cases a<;>simp [Builtin.clear_,run_underlying ht]
 ·rename_i h0;obtain ⟨dA,h1,h2⟩:=aI.1 h;cases h2;obtain ⟨i,_,z,hi,_,hz,_⟩:=qE he;refine UW hr hs (Vx he n hi hz) h1 (v:=.tuple #[]) (fun w' yc=>?_) wL;obtain ⟨a',n',c',e1,e2⟩:=yc;rw [mQ] at e1;cases e1;rw [hS,mQ];cases a with
  | none =>
   simp only [Sem.run_pure,Result.ok.injEq,true_and] at e2;subst e2;simp [Builtin.clear_,run_underlying ht]
  | some a =>
   simp only at e2;have yz:n≠0:=h0;have e3:=e2;obtain ⟨m,rfl⟩:∃ m,n=m+1:=⟨n - 1,by omega⟩;simp [Builtin.clear_,run_underlying ht,IG hi hz,e2]
theorem Ykn (hr:cS X base σ β w) {t u et:TypeId} (ht:P.underlying t=some (.slice et)) {e:fj} (he:aF P et=some e) {vs vx:Value} {s x:ah} (hs:cf w (MT X σ β) β vs s) (hx:cf w (MT X σ β) β vx x) {n:Nat} (hn:kW s=some n)
  {xs:List ah} (xk:fp σ e.sz x=some xs) {r:ah} {σ':ai} (h:(kQ σ e.sz s (xs.take n)).map (ah.int .i64 ((xs.take n).length:Int), ·)=some (r,σ')) (ty:TypeId) {S:Sem Next} (hS:S=(do pure (.value (← Builtin.copy_ #[t,u] ty #[vs,vx])))):c8 P X base σ β w nm S r σ':=by
 obtain ⟨a,c,mQ⟩:=Qu hs hn;obtain ⟨dA,h1,h2⟩:=aI.1 h;cases h2;obtain ⟨i,_,z,hi,_,hz,fJ,_⟩:=qE he;obtain ⟨b,m,d,rfl,hm,FZ,hx3⟩:=Yny hx xk n;obtain ⟨news,oA⟩:=I8 (P:=P) hr FZ hx3;refine UW hr hs oA.Qj h1 (v:=.int .i64 ((xs.take n).length:Int)) (fun w' yc=>?_) fun w' M'=>.int _ _;obtain ⟨a',n',c',e1,e2⟩:=yc;rw [mQ] at e1;cases e1;have hl:(xs.take n).length=min m n:=by rw [cA,hm,Nat.min_comm]
 have hf:=oA.cells w rfl;rw [hl] at hf;have oM:(Builtin.firstCells i.size (min m n) (.slice b m d)).run P w = .ok news w:=by
  rw [fJ];cases b<;>exact hf
 rw [hS,mQ,hl];cases a with
 | none =>
  simp only [Sem.run_pure,Result.ok.injEq,true_and] at e2;subst e2;simp [Builtin.copy_,run_underlying ht,uQ hi,Builtin.lenOf,oM,goInt]
 | some a =>
  simp only at e2;simp [Builtin.copy_,run_underlying ht,uQ hi,Builtin.lenOf,oM,goInt,e2]
theorem Ylf {v:Value} {x:ah} {n:Nat} (hx:cf w M β v x) (h2:wx x=some n):∃ a m,v = .slice a m n:=by
 unfold wx at h2;split at h2<;>cases h2
 ·cases hx with | aW a=>exact ⟨_,_,rfl⟩
 ·cases hx<;>exact ⟨_,_,rfl⟩
theorem Yd8 {e:fj} {s:ah} {xs:List ah} {x:ah×ai} (h:eO σ nm e s xs=some x) : 0<e.sz∧e.bytes≤65536:=by
 unfold eO n8 mH at h;split at h
 ·split at h
  ·rename_i hc;exact ⟨hc.2.1,hc.2.2.1⟩
  ·cases h
 ·split at h
  ·rename_i hc;exact ⟨hc.2.1,hc.2.2.1⟩
  ·cases h
end
end Go.dm
