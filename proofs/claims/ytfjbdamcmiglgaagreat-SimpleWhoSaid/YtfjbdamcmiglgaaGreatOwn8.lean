/- Part 8 of my own framework and of the walks of functions: AbsJo, AbsJp. -/
import Derived.Test.YtfjbdamcmiglgaaGreatOwn7
abbrev cV:=@List.length_take
abbrev aS:=@List.map_nil
abbrev qq:=@List.take_take
set_option linter.unusedVariables false
set_option linter.unusedSectionVars false
set_option linter.unusedSimpArgs false
namespace Go.c8
open Go
section
variable {P:Program} {X:Nat→Nat→Prop} {base:Nat} {σ:ai} {β:Env} {w:World} {nm:Nat} {M:Nat→Nat→Prop}
theorem Tr (hr:cC X base σ β w) {b p fz:Nat} {es xs:List ae} (hb:bG σ b=some (.row es fz)) {L:Loc} (hL : β b=some L) (El:fz≤p) (hp:p+xs.length≤es.length)
  {news:Array Value} (hx:sl w (MT X σ β) β L.sz xs news) {s:Sem Next} {v:Value} {r:ae}
  (eL:∀ c e,w.heap[L.g]? = some (.cells c e (0,0))→L.o+(p+xs.length)*L.sz≤c.size→s.run P w = .ok (.value v) (w.setRow L.g (c.toList.take (L.o+p*L.sz)++news.toList++c.toList.drop (L.o+p*L.sz+news.toList.length)).toArray))
  (qj:∀ (w':World) (M':Nat→Nat→Prop),bR w' M' β v r):cN P X base σ β w nm s r (bZ σ b (.row (cq es p xs) fz)):=by
 obtain ⟨L',h1,h2b,h2x,c,e,h2,h3,h4,h5,h6⟩:=hr.cd b _ (jU hb)
 obtain rfl:=aM (hL.symm.trans h1)
 have vW:(p+xs.length)*L.sz≤L.n*L.sz:=aX _ (by omega)
 have hm2:=vW
 rw [bH] at hm2
 have Es:=hx.size
 have oT:L.o+p*L.sz+news.toList.length≤c.size:=by simp only [bA];omega
 have al3:fz*L.sz≤p*L.sz:=aX _ El
 have hru:=eL c e h2 (by omega)
 obtain ⟨f1,f2,f3,f4,f5,f6⟩:=Hg w (c':=(c.toList.take (L.o+p*L.sz)++news.toList++c.toList.drop (L.o+p*L.sz+news.toList.length)).toArray) h2
 refine Cc (kI:=.row (cq es p xs) fz) hr (jU hb) h1 f1 f2 f3 f4 (fun g hg=>f5 g hg) (fun off v gK hn=>?_) (fun hn=>absurd (ah _) (hn _)) (fun _ hm=>hm) (.inl hru) (fun M' hk=>?_) (fun M' _=>qj _ M')
 ·simp only [bE.mut,Nat.not_le] at hn
  rw [cell_of_row _ _ _ _ _ _ f6]
  rw [cell_of_row _ _ _ _ _ _ h2] at gK
  obtain ⟨bD,hv⟩:=aL.1 gK
  rw [tf (by rw [B0 _ _ _ oT];exact bD),B1 _ _ _ oT,if_neg (by omega),← tf bD];exact gK
 ·have u_:∀ j,(cq es p xs).getD j .undef=if p≤j∧j<p+xs.length∧j<es.length then xs.getD (j - p) .undef else es.getD j .undef:=EN es p xs
  refine ⟨_,e,f6,?_,by simpa [uz] using h4,fun j hj=>?_,fun j q hj hq=>?_⟩
  ·rw [B0 _ _ _ oT];exact h3
  ·rw [uz] at hj
   rw [u_]
   split
   ·rename_i hc;exact hx.one _ (by omega)
   ·exact h5 j hj
  ·rw [uz] at hj
   rw [B1 _ _ _ oT,u_]
   simp only [bA]
   by_cases fp:p≤j∧j<p+xs.length
   ·have h7:p*L.sz≤j*L.sz:=aX _ fp.1
    have h8:(j - p+1)*L.sz≤xs.length*L.sz:=aX _ (by omega)
    rw [bH,dt,kg] at h8
    rw [if_pos (by omega),if_pos ⟨fp.1,fp.2,hj⟩]
    have:=hx.rep (j - p) q (by omega) hq
    rw [kg] at this
    rw [show news.toList.getD (L.o+j*L.sz+q - (L.o+p*L.sz)) undef=news.getD (L.o+j*L.sz+q - (L.o+p*L.sz)) undef by simp [List.getD,aj],
     show L.o+j*L.sz+q - (L.o+p*L.sz)=j*L.sz - p*L.sz+q by omega]
    exact this.mono hk fun _ _ h=>h
   ·have wM:¬ (L.o+p*L.sz≤L.o+j*L.sz+q∧L.o+j*L.sz+q<L.o+p*L.sz+news.size):=by
     rintro ⟨a1,a2⟩
     by_cases e1:j<p
     ·have:(j+1)*L.sz≤p*L.sz:=aX _ e1
      rw [bH,dt] at this;omega
     ·have:(p+xs.length)*L.sz≤j*L.sz:=aX _ (by omega)
      rw [bH] at this;omega
    rw [if_neg wM,if_neg (by omega)]
    exact (h6 j q hj hq).mono hk fun _ _ h=>h
theorem Kc {b:Nat} {x:bE} (h:bG σ b=some x):bZ σ b x = σ:=by
 have h':=jU h
 have bD:b < σ.length:=(aI.1 h').1
 unfold bZ
 rw [if_pos bD]
 apply bP
 intro i
 rw [dR]
 by_cases e:b=i
 ·subst e;rw [if_pos rfl,if_pos bD,h']
 ·rw [if_neg e]
theorem bR.sL {v:Value} {b off n c sz:Nat} (h:bR w M β v (.oc b off n c sz)):(n=0∧c=0∧∃ a L,β b=some L∧L.sz=sz∧v = .slice a 0 0) ∨
  ∃ L,β b=some L∧L.sz=sz∧n≤c∧off+c≤L.n∧v = .slice (some ⟨L.g,L.o+off*L.sz,none⟩) n c:=by
 cases h with
 | sc a h=>exact .inl ⟨rfl,rfl,a,_,h,rfl,rfl⟩
 | oc h1 h2 h3=>exact .inr ⟨_,h1,rfl,h2,h3,rfl⟩
theorem P3 (es:List ae) (p:Nat):cq es p []=es:=rfl
theorem Zux (hr:cC X base σ β w) (hn : β nm=none) {t u et:TypeId} {e:eF} (he:aC P et=some e) {vs vx:Value} {b off n c sz:Nat} {xs:List ae} {news:Array Value} (hs:bR w (MT X σ β) β vs (.oc b off n c sz)) (hx:sl w (MT X σ β) β e.sz xs news)
  {r:ae} {σ':ai} (h:nt σ nm e b off n c sz xs=some (r,σ')) (ty:TypeId) (ha:mK P w t u ty et xs.length vx news) {S:Sem Next} (hS:S=(do pure (.value (← Builtin.append_ #[t,u] ty #[vs,vx])))):cN P X base σ β w nm S r σ':=by
 obtain ⟨i,_,z,hi,_,hz,fF,_,Ah,_,_,_,Di⟩:=pO he
 unfold nt at h
 split at h
 case isFalse=>cases h
 rename_i hc
 obtain ⟨rm,kY,Ai,hc4⟩:=hc
 split at h
 ·rename_i es fz hb
  split at h
  ·rename_i mB
   obtain ⟨rfl,Mn⟩:=mB
   split at h
   ·rename_i rX
    split at h
    ·rename_i hf
     obtain ⟨uZ,oO⟩:=hf
     cases h
     rcases hs.sL with ⟨rfl,rfl,a,L,hL,jt,rfl⟩ | ⟨L,hL,jt,hl,F3,rfl⟩
     ·have h0:xs.length=0:=by omega
      have Df:xs=[]:=aY h0
      subst Df
      rw [P3,Kc hb]
      refine cN.val hr (v:=.slice a 0 0) ?_ (by rw [← jt];exact .sc a hL)
      rw [hS,Sem.run_bind,ha.none rfl];rfl
     ·have qa:∀ v∈news.toList,v.oneCell'=true:=hx.Dt fun x r6=>by
       have:=bp.1 rm x r6
       simp only [aD] at this
       exact this.2
      refine Tr hr hb hL uZ oO (by rw [jt];exact hx) (v:=.slice (some ⟨L.g,L.o+off*L.sz,none⟩) (n+xs.length) c) (fun cc ec h2 h3=>?_) fun w' M'=>by rw [← jt];exact .oc hL rX F3
      have Es:=hx.size
      rw [← jt] at Es
      rw [bH] at h3
      have fQ:=run_storeCells_at P L.g (L.o+(off+n)*L.sz) ec news.toList 0 cc w h2 (by simp only [cg,bA];omega) qa
      simp only [cg] at fQ
      rw [hS,Sem.run_bind,ha.Vx i hi rX (by rw [fF,← jt,fc,← bH];exact fQ)];rfl
    ·cases h
   ·rename_i rX
    split at h
    ·rename_i tV
     cases h
     obtain ⟨L,h1,tU,hX,cc,ec,h2,h3,h4,h5,h6⟩:=hr.cd b _ (jU hb)
     have hlen:((es.drop off).take n).length=n:=by simp;omega
     have eE:∀ k,k<n→((es.drop off).take n).getD k ae.undef=es.getD (off+k) .undef:=fun k hk=>by
      simp [List.getD,hk,dH]
     have grow:∀ (a:Option Addr) (olds:Array Value),vs = .slice a n c→(∀ w':World,w'.heap=w.heap→(Builtin.firstCells i.size n (.slice a n c)).run P w' = .ok olds w') →
       olds.size=n*e.sz→(∀ k j,k<n→j<e.sz→bR w (MT X σ β) β (olds.getD (k*e.sz+j) undef) ((es.getD (off+k) .undef).cells.getD j .undef))→(∀ k,k<n→(es.getD (off+k) .undef).cells.length=e.sz) →
       cN P X base σ β w nm S (.os nm 0 (n+xs.length) e.sz) (bZ σ nm (.row ((es.drop off).take n++xs) 0)):=by
      intro a olds mg hold yk yj qa
      have u_:=grownCap_ge w (n+xs.length) c et
      have eL:=ha.grow i z hi hz (hold w.drew rfl) (by omega) (by first | (rw [← Ah];omega) | (rw [Ah];omega)) (by omega)
      refine y7 hr hn (.row ((es.drop off).take n++xs) 0) (grownCap w (n+xs.length) c et) e.sz (w':=w.drew.alloc (.cells (olds++news++Builtin.zeroCells z.cells (grownCap w (n+xs.length) c et - (n+xs.length))) et)) rfl rfl rfl rfl (by rw [hS,mg,Sem.run_bind,eL];rfl) ?_ ?_
      ·intro M' β' hk hβ
       refine Km (w:=w) (M:=MT X σ β) (β:=β) (z:=z) Di (mh:=(es.drop off).take n) (pH:=xs) (olds:=olds) (news:=news) (by rw [hlen];exact yk) hx.size ?_ hx.one ?_ hx.rep hlen rfl u_ hk hβ (xA w.drew _) _
       ·intro k hk;rw [hlen] at hk;rw [eE k hk];exact qa k hk
       ·intro k j hk hj;rw [hlen] at hk;rw [eE k hk];exact yj k j hk hj
      ·intro M'
       have:=bR.os (w:=w.drew.alloc (.cells (olds++news++Builtin.zeroCells z.cells (grownCap w (n+xs.length) c et - (n+xs.length))) et)) (M:=M') (β:=oZ β nm ⟨w.heap.size,0,grownCap w (n+xs.length) c et,e.sz⟩) (b:=nm) (off:=0) (len:=n+xs.length) (cap:=grownCap w (n+xs.length) c et) (L:=⟨w.heap.size,0,grownCap w (n+xs.length) c et,e.sz⟩) (tq _ _ _) u_ (by simp)
       simpa using this
     obtain ⟨olds,nI⟩:=Ho (P:=P) hr (sz:=e.sz) (v:=vs) (x:=.oc b off n c e.sz) (xs:=(es.drop off).take n) hs (by simp [eJ,hb,Mn])
     have hv:∃ a,vs = .slice a n c∧(0<n→L.sz=e.sz):=by
      rcases hs.sL with ⟨rfl,rfl,a,L',hL,jt,rfl⟩ | ⟨L',hL,jt,hl,F3,rfl⟩
      ·exact ⟨_,rfl,fun h=>absurd h (by omega)⟩
      ·obtain rfl:=aM (h1.symm.trans hL);exact ⟨_,rfl,fun _=>jt⟩
     obtain ⟨a,Ex,jt⟩:=hv
     refine grow a olds Ex (fun w' wV=>?_) ?_ (fun k j hk hj=>?_) (fun k hk=>by rw [← jt (by omega)];exact h5 _ (by omega))
     ·have:=nI.cells w' wV;rw [hlen] at this;rw [fF,← Ex];exact this
     ·have:=nI.size;rw [hlen] at this;exact this
     ·have:=nI.rep k j (by omega) (by omega);rw [eE k hk] at this;exact this
    ·cases h
  ·cases h
 ·cases h
theorem JM (hr:cC X base σ β w) (hn : β nm=none) (Bv:bG σ nm=none) {t u et:TypeId} {e:eF} (he:aC P et=some e) {vs vx:Value} {s:ae} {xs:List ae} {news:Array Value} (hs:bR w (MT X σ β) β vs s) (hx:sl w (MT X σ β) β e.sz xs news)
  {r:ae} {σ':ai} (h:dY σ nm e s xs=some (r,σ')) (ty:TypeId) (ha:mK P w t u ty et xs.length vx news) {S:Sem Next} (hS:S=(do pure (.value (← Builtin.append_ #[t,u] ty #[vs,vx])))):cN P X base σ β w nm S r σ':=by
 unfold dY at h
 split at h
 ·exact Zux hr hn he hs hx h ty ha hS
 ·exact Zzb hr hn Bv he hs hx h ty ha hS
theorem Hj {t:TypeId} {l:eF} (hl:aC P t=some l):(zeroV l).cells=l.zero:=by
 obtain ⟨i,u,z,h1,h2,h3,h4,h5,h6,h7,h8,h9,tO⟩:=pO hl
 unfold zeroV
 cases z with
 | agg cs =>
  have ha:l.ag=true:=by simpa [AU] using h9
  rw [if_pos ha];rfl
 | tuple cs=>simp [AU] at h9
 | _ =>
  have ha:¬ l.ag=true:=by intro ha;rw [ha] at h9;simp [AU] at h9
  rw [if_neg ha,← h7]
  simp only [sf,Value.cells,aF,aS,List.headD_cons]
  unfold ofValue
  split<;>first | rfl | (rename_i e _;cases e) | (rename_i e;cases e)
theorem Wt {z:Array Value} {n i j:Nat} (hi:i<n) (hj:j<z.size):(Builtin.zeroCells z n).getD (i*z.size+j) undef=z.getD j undef:=by
 have bD:i*z.size+j<n*z.size:=by
  have:(i+1)*z.size≤n*z.size:=aX _ (by omega)
  rw [bH,dt] at this;omega
 simp only [Builtin.zeroCells,aj,ei,Array.getElem?_range,if_pos bD,bu,br]
 have e5:(i*z.size+j) % z.size=j:=(IB hj).2
 rw [aB hj,br,getElem!_pos z _ (by rw [e5];exact hj)]
 simp only [e5]
theorem R5 {t:TypeId} {l:eF} (hl:aC P t=some l) (n:Nat) {i:TypeInfo} {z:Value} (hi:P.info? t=some i) (hz:i.zero=some z):sl w M β l.sz (List.replicate n (zeroV l)) (Builtin.zeroCells z.cells n):=by
 obtain ⟨z',rv,_,ry,Jb,EC,_⟩:=A5 (w:=w) (M:=M) (β:=β) hl
 obtain rfl:z=z':=by
  have:=Hd (P:=P) (w:=w) hi hz
  rw [rv] at this
  exact ((Result.ok.injEq _ _ _ _).mp this).1.symm
 have hg:∀ i,i<n→(List.replicate n (zeroV l)).getD i ae.undef=zeroV l:=fun i hi=>by simp [List.getD,hi]
 refine ⟨by rw [size_zeroCells,ry];simp,fun i hi=>?_,fun i j hi hj=>?_⟩
 ·simp only [bz] at hi
  rw [hg i hi,Hj hl];exact Jb
 ·simp only [bz] at hi
  rw [hg i hi,Hj hl]
  have:=Wt (z:=z.cells) hi (show j<z.cells.size by omega)
  rw [ry] at this
  rw [this];exact EC j hj
theorem mK.yH {t u ty et:TypeId} {k:IntKind} (ht:P.underlying t=some (.slice et)) (hu:P.underlying u=some (.int k)) {l:eF} (he:aC P et=some l) (fF : 0<l.sz) (Ah:l.bytes≤65536) {n:Int} (h0 : 0≤n) (h1:n≤1000000000)
  (hw:IntKind.i64.wrap n=n) {i:TypeInfo} {z:Value} (hi:P.info? et=some i) (hz:i.zero=some z):mK P w t u ty et n.toNat (.int .i64 n) (Builtin.zeroCells z.cells n.toNat):=by
 obtain ⟨i',_,z',dP,_,Nz,hs,_,hb,_,_,_,Di⟩:=pO he
 obtain rfl:=aM (dP.symm.trans hi)
 obtain rfl:=aM (Nz.symm.trans hz)
 have tV:¬ ((281474976710656:Int)<n*(i'.bytes:Int)):=by
  have h2:((i'.bytes:Nat):Int)≤65536:=by omega
  have:n*(i'.bytes:Int)≤1000000000*65536:=Int.mul_le_mul h1 h2 (by omega) (by omega)
  omega
 have fN:¬ n<0:=by omega
 have nH:¬ i'.size=0:=by omega
 have BK:∀ h:n.toNat=0,Builtin.zeroCells z'.cells n.toNat = #[]:=fun h=>by rw [h];simp [Builtin.zeroCells]
 refine ⟨fun i2 z2 MH ry b n2 cap olds hold h4 h5 h6=>?_,fun i2 MH g o n2 cap w' h4 h5=>?_,fun hm b c=>?_⟩
 ·obtain rfl:=aM (MH.symm.trans hi)
  obtain rfl:=aM (ry.symm.trans hz)
  have g1:¬ n2+n.toNat≤cap:=by omega
  have I3:=RE i2.bytes
  have g2:¬ ((9223372036854775807:Int)<(n2:Int)+(n.toNat:Int)):=by omega
  have UL:¬ ((9223372036854775807:Int)<(n2:Int)+max n 0):=by omega
  have g3:¬ (281474976710656<Builtin.nextslicecap (n2+n.toNat) cap*i2.bytes):=by
   have:=growslice_fits_wide (old:=cap) h4 (Q8 h5 h6)
   omega
  have em:IntKind.i64.max=9223372036854775807:=by decide
  by_cases wI:n.toNat=0
  ·have:=BK wI
   simp [Builtin.append_,run_underlying ht,run_underlying hu,sizeOf,typeInfo,zeroValue,hi,hz,hw,fN,tV,g1,g2,UL,g3,em,asInt,asIntOf,Question.forced,hold,newRow,grownCap,nH,wI,this]
   simp only [wI,cg] at g1 g3
   have GM:Builtin.zeroCells z2.cells 0 = #[]:=by simp [Builtin.zeroCells]
   simp [g1,g3,wI,GM]
  ·simp [Builtin.append_,run_underlying ht,run_underlying hu,sizeOf,typeInfo,zeroValue,hi,hz,hw,fN,tV,g1,g2,UL,g3,em,asInt,asIntOf,Question.forced,hold,newRow,grownCap,nH,wI]
   intro h;exact absurd h (Nat.mul_ne_zero wI nH)
 ·obtain rfl:=aM (MH.symm.trans hi)
  by_cases wI:n.toNat=0
  ·have:=BK wI
   rw [this] at h5
   simp only [storeCells,Array.toList_empty,Sem.run_pure,Result.ok.injEq,true_and] at h5
   subst h5
   rw [wI,cg] at h4 ⊢
   simp [Builtin.append_,run_underlying ht,run_underlying hu,sizeOf,typeInfo,hi,hw,fN,tV,h4,asInt,asIntOf,wI,storeCells]
  ·simp [Builtin.append_,run_underlying ht,run_underlying hu,sizeOf,typeInfo,zeroValue,hi,hz,hw,fN,tV,h4,asInt,asIntOf,nH,wI,Addr.add_lit,h5]
   intro h;exact absurd h (Nat.mul_ne_zero wI nH)
 ·have wI:n.toNat=0:=hm
  obtain rfl:n=0:=by omega
  cases b<;>simp [Builtin.append_,run_underlying ht,run_underlying hu,sizeOf,typeInfo,hi,hw,asInt,asIntOf,storeCells]
end
section
variable {P:Program} {X:Nat→Nat→Prop} {base:Nat} {σ:ai} {β:Env} {w:World} {nm:Nat} {M:Nat→Nat→Prop}
def nR (m:Nat):ae→ae
 | .ps s es=>.ps s (es.take m)
 | .os b off n s=>.os b off (min m n) s
 | .oc b off n c s=>.oc b off (min m n) c s
 | a=>a
theorem Za {v:Value} {x:ae} {sz:Nat} {xs:List ae} (hv:bR w M β v x) (h:eJ σ sz x=some xs) (m:Nat):∃ a n c,v = .slice a n c∧n=xs.length∧bR w M β (.slice a (min m n) c) (nR m x)∧eJ σ sz (nR m x)=some (xs.take m):=by
 unfold eJ at h
 split at h
 ·rename_i s es
  split at h
  ·rename_i e
   cases h
   cases hv with
   | @ps a cap _ _ cv jd fF hc ha Ng =>
    refine ⟨_,_,_,rfl,rfl,?_,by simp [nR,eJ,e]⟩
    have hl:(xs.take m).length=min m xs.length:=cV
    have hg:∀ i,i<(xs.take m).length→(xs.take m).getD i ae.undef=xs.getD i .undef:=fun i hi=>by
     rw [hl] at hi
     simp [List.getD,show i<m by omega]
    rw [← hl]
    exact .ps cv (by omega) (fun i hi=>by rw [hg i hi];exact fF i (by omega)) (fun i j hi hj=>hc i j (by omega) hj) (fun h0=>ha (by omega)) (fun i j hi hj=>by rw [hg i hi];exact Ng i j (by omega) hj)
  ·cases h
 ·cases h
  cases hv with
  | aU a=>exact ⟨_,_,_,rfl,rfl,by rw [Nat.min_zero];exact .aU a,by simp [nR,eJ]⟩
 ·rename_i b off n s
  split at h
  ·rename_i e
   split at h
   ·rename_i es fz hb
    split at h
    ·rename_i hle
     cases h
     have hlen:((es.drop off).take n).length=n:=by simp;omega
     have iR:eJ σ sz (nR m (.os b off n s))=some (((es.drop off).take n).take m):=by
      simp only [nR,eJ,e,if_true,hb]
      rw [if_pos (by omega),qq]
     cases hv with
     | sd a hL=>exact ⟨_,_,_,rfl,hlen.symm,by simp only [nR,Nat.min_zero];exact .sd a hL,iR⟩
     | os hL hl hc=>exact ⟨_,_,_,rfl,hlen.symm, .os hL (by omega) hc,iR⟩
    ·cases h
   ·cases h
  ·cases h
 ·rename_i b off n c s
  split at h
  ·rename_i e
   split at h
   ·rename_i es fz hb
    split at h
    ·rename_i hle
     cases h
     have hlen:((es.drop off).take n).length=n:=by simp;omega
     have iR:eJ σ sz (nR m (.oc b off n c s))=some (((es.drop off).take n).take m):=by
      simp only [nR,eJ,e,if_true,hb]
      rw [if_pos (by omega),qq]
     cases hv with
     | sc a hL=>exact ⟨_,_,_,rfl,hlen.symm,by simp only [nR,Nat.min_zero];exact .sc a hL,iR⟩
     | oc hL hl hc=>exact ⟨_,_,_,rfl,hlen.symm, .oc hL (by omega) hc,iR⟩
    ·cases h
   ·cases h
  ·cases h
 ·cases h
theorem Ynj {v:Value} {s:ae} {b off n sz:Nat} (h:bR w M β v s) (hs:s = .os b off n sz∨∃ c,s = .oc b off n c sz):∃ L c,β b=some L∧L.sz=sz∧((n=0∧∃ a,v = .slice a 0 c)∨v = .slice (some ⟨L.g,L.o+off*L.sz,none⟩) n c):=by
 rcases hs with rfl | ⟨c,rfl⟩
 ·rcases h.qS with ⟨rfl,a,L,hL,jt,rfl⟩ | ⟨L,c,hL,jt,_,_,rfl⟩
  ·exact ⟨L,_,hL,jt, .inl ⟨rfl,a,rfl⟩⟩
  ·exact ⟨L,_,hL,jt, .inr rfl⟩
 ·rcases h.sL with ⟨rfl,rfl,a,L,hL,jt,rfl⟩ | ⟨L,hL,jt,_,_,rfl⟩
  ·exact ⟨L,_,hL,jt, .inl ⟨rfl,a,rfl⟩⟩
  ·exact ⟨L,_,hL,jt, .inr rfl⟩
theorem R0 (hr:cC X base σ β w) {vs:Value} {s:ae} {sz:Nat} {xs:List ae} {news:Array Value} (hs:bR w (MT X σ β) β vs s) (hx:sl w (MT X σ β) β sz xs news) {σ':ai} (h:kj σ sz s xs=some σ')
  {S:Sem Next} {v:Value} {r:ae} (eL:∀ w',(∃ a n c,vs = .slice a n c∧((match a with | some a=>storeCells a news.toList | none=>pure ()):Sem Unit).run P w = .ok () w')→S.run P w = .ok (.value v) w') (hv:∀ (w':World) (M':Nat→Nat→Prop),bR w' M' β v r):cN P X base σ β w nm S r σ':=by
 obtain ⟨b,off,n,GG,es,fz,hb,hc,rfl⟩:∃ b off n,(s = .os b off n sz∨∃ c,s = .oc b off n c sz)∧∃ es fz,bG σ b=some (.row es fz)∧(0<sz∧fz≤off∧xs.length≤n∧off+n≤es.length∧xs.all (fun x=>x.cells.length==sz&&x.cells.all ae.cF)=true)∧bZ σ b (.row (cq es off xs) fz) = σ':=by
  unfold kj at h
  split at h
  ·rename_i b off n c w5
   split at h
   ·rename_i es fz hb
    split at h
    ·rename_i hc
     obtain ⟨rfl,hc⟩:=hc
     cases h;exact ⟨_,_,_, .inr ⟨_,rfl⟩,_,_,hb,hc,rfl⟩
    ·cases h
   ·cases h
  ·rename_i b off n w5
   split at h
   ·rename_i es fz hb
    split at h
    ·rename_i hc
     obtain ⟨rfl,hc⟩:=hc
     cases h;exact ⟨_,_,_, .inl rfl,_,_,hb,hc,rfl⟩
    ·cases h
   ·cases h
  ·cases h
 obtain ⟨h0,h1,h2,h3,h4⟩:=hc
 have qa:∀ v∈news.toList,v.oneCell'=true:=hx.Dt fun x r6=>by
  have:=bp.1 h4 x r6
  simp only [aD] at this
  exact this.2
 obtain ⟨L,c,hL,jt,mg⟩:=Ynj hs GG
 rcases mg with ⟨hn,a,mg⟩ | mg
 ·have Df:xs=[]:=aY (by omega)
  subst Df
  have xn:news = #[]:=lD (by rw [hx.size];simp)
  rw [P3,Kc hb]
  refine cN.val hr (v:=v) (eL w ⟨a,0,c,mg,?_⟩) (hv _ _)
  subst xn
  cases a<;>simp [storeCells]
 ·subst jt
  refine Tr hr hb hL h1 (by omega) hx (v:=v) (fun cc ec g2 g3=>eL _ ⟨_,n,c,mg,?_⟩) hv
  have Es:=hx.size
  rw [bH] at g3
  have fQ:=run_storeCells_at P L.g (L.o+off*L.sz) ec news.toList 0 cc w g2 (by simp only [cg,bA];omega) qa
  simp only [cg] at fQ
  exact fQ
theorem T4 {v:Value} {s:ae} {n:Nat} (h:bR w M β v s) (hn:ko s=some n):∃ a c,v = .slice a n c:=by
 unfold ko at hn
 split at hn<;>cases hn
 ·cases h;exact ⟨_,_,rfl⟩
 ·cases h<;>exact ⟨_,_,rfl⟩
 ·cases h<;>exact ⟨_,_,rfl⟩
 ·cases h;exact ⟨_,_,rfl⟩
theorem W3 (hr:cC X base σ β w) {t et:TypeId} (ht:P.underlying t=some (.slice et)) {e:eF} (he:aC P et=some e) {vs:Value} {s:ae} (hs:bR w (MT X σ β) β vs s) {n:Nat} (hn:ko s=some n) {r:ae} {σ':ai}
  (h:(if n=0 then some (ae.dz [],σ) else (kj σ e.sz s (List.replicate n (zeroV e))).map (ae.dz [], ·))=some (r,σ')) (ty:TypeId) {S:Sem Next} (hS:S=(do pure (.value (← Builtin.clear_ #[t] ty #[vs])))):cN P X base σ β w nm S r σ':=by
 have vp:∀ (w':World) (M':Nat→Nat→Prop),bR w' M' β (.tuple #[]) (.dz []):=fun w' M'=>.dz rfl fun k hk=>by simp at hk
 obtain ⟨a,c,mg⟩:=T4 hs hn
 split at h
 ·rename_i h0
  cases h
  subst h0
  refine cN.val hr (v:=.tuple #[]) ?_ (vp _ _)
  rw [hS,mg]
  cases a<;>simp [Builtin.clear_,run_underlying ht]
 ·rename_i h0
  obtain ⟨dg,h1,h2⟩:=aH.1 h
  cases h2
  obtain ⟨i,_,z,hi,_,hz,_⟩:=pO he
  refine R0 hr hs (R5 he n hi hz) h1 (v:=.tuple #[]) (fun w' wV=>?_) vp
  obtain ⟨a',n',c',e1,e2⟩:=wV
  rw [mg] at e1
  cases e1
  rw [hS,mg]
  cases a with
  | none =>
   simp only [Sem.run_pure,Result.ok.injEq,true_and] at e2
   subst e2
   simp [Builtin.clear_,run_underlying ht]
  | some a =>
   simp only at e2
   have xn:n≠0:=h0
   have e3:=e2
   obtain ⟨m,rfl⟩:∃ m,n=m+1:=⟨n - 1,by omega⟩
   simp [Builtin.clear_,run_underlying ht,Hd hi hz,e2]
theorem Yl2 (hr:cC X base σ β w) {t u et:TypeId} (ht:P.underlying t=some (.slice et)) {e:eF} (he:aC P et=some e) {vs vx:Value} {s x:ae} (hs:bR w (MT X σ β) β vs s) (hx:bR w (MT X σ β) β vx x) {n:Nat} (hn:ko s=some n)
  {xs:List ae} (v7:eJ σ e.sz x=some xs) {r:ae} {σ':ai} (h:(kj σ e.sz s (xs.take n)).map (ae.int .i64 ((xs.take n).length:Int), ·)=some (r,σ')) (ty:TypeId) {S:Sem Next} (hS:S=(do pure (.value (← Builtin.copy_ #[t,u] ty #[vs,vx])))):cN P X base σ β w nm S r σ':=by
 obtain ⟨a,c,mg⟩:=T4 hs hn
 obtain ⟨dg,h1,h2⟩:=aH.1 h
 cases h2
 obtain ⟨i,_,z,hi,_,hz,fF,_⟩:=pO he
 obtain ⟨b,m,d,rfl,hm,EA,hx3⟩:=Za hx v7 n
 obtain ⟨news,nI⟩:=Ho (P:=P) hr EA hx3
 refine R0 hr hs nI.NV h1 (v:=.int .i64 ((xs.take n).length:Int)) (fun w' wV=>?_) fun w' M'=>.int _ _
 obtain ⟨a',n',c',e1,e2⟩:=wV
 rw [mg] at e1
 cases e1
 have hl:(xs.take n).length=min m n:=by rw [cV,hm,Nat.min_comm]
 have hf:=nI.cells w rfl
 rw [hl] at hf
 have nS:(Builtin.firstCells i.size (min m n) (.slice b m d)).run P w = .ok news w:=by
  rw [fF]
  cases b<;>exact hf
 rw [hS,mg,hl]
 cases a with
 | none =>
  simp only [Sem.run_pure,Result.ok.injEq,true_and] at e2
  subst e2
  simp [Builtin.copy_,run_underlying ht,tn hi,Builtin.lenOf,nS,goInt]
 | some a =>
  simp only at e2
  simp [Builtin.copy_,run_underlying ht,tn hi,Builtin.lenOf,nS,goInt,e2]
theorem Ylf {v:Value} {x:ae} {n:Nat} (hx:bR w M β v x) (h2:uS x=some n):∃ a m,v = .slice a m n:=by
 unfold uS at h2
 split at h2<;>cases h2
 ·cases hx with | aU a=>exact ⟨_,_,rfl⟩
 ·cases hx<;>exact ⟨_,_,rfl⟩
theorem Zz5 {e:eF} {s:ae} {xs:List ae} {x:ae×ai} (h:dY σ nm e s xs=some x) : 0<e.sz∧e.bytes≤65536:=by
 unfold dY nt l7 at h
 split at h
 ·split at h
  ·rename_i hc;exact ⟨hc.2.1,hc.2.2.1⟩
  ·cases h
 ·split at h
  ·rename_i hc;exact ⟨hc.2.1,hc.2.2.1⟩
  ·cases h
end
end Go.c8
