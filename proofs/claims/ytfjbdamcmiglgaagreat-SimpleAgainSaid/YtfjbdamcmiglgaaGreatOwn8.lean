/- Part 8 of my own framework and of the walks of functions: AbsJo, AbsJp. -/
import Derived.Test.YtfjbdamcmiglgaaGreatOwn7
abbrev cY:=@List.length_take
abbrev aP:=@List.map_nil
abbrev qK:=@List.take_take
set_option linter.unusedVariables false
set_option linter.unusedSectionVars false
set_option linter.unusedSimpArgs false
namespace Go.c8
open Go
section
variable {P:Program} {X:Nat→Nat→Prop} {base:Nat} {σ:ai} {β:Env} {w:World} {nm:Nat} {M:Nat→Nat→Prop}
theorem UI (hr:cH X base σ β w) {b p fz:Nat} {es xs:List ae} (hb:bH σ b=some (.row es fz)) {L:Loc} (hL : β b=some L) (EJ:fz≤p) (hp:p+xs.length≤es.length)
  {news:Array Value} (hx:sN w (MT X σ β) β L.sz xs news) {s:Sem Next} {v:Value} {r:ae}
  (eS:∀ c e,w.heap[L.g]? = some (.cells c e (0,0))→L.o+(p+xs.length)*L.sz≤c.size→s.run P w = .ok (.value v) (w.setRow L.g (c.toList.take (L.o+p*L.sz)++news.toList++c.toList.drop (L.o+p*L.sz+news.toList.length)).toArray))
  (qA:∀ (w':World) (M':Nat→Nat→Prop),bS w' M' β v r):cR P X base σ β w nm s r (b_ σ b (.row (cw es p xs) fz)):=by
 obtain ⟨L',h1,h2b,h2x,c,e,h2,h3,h4,h5,h6⟩:=hr.cg b _ (j_ hb)
 obtain rfl:=aN (hL.symm.trans h1)
 have wy:(p+xs.length)*L.sz≤L.n*L.sz:=aX _ (by omega)
 have hm2:=wy
 rw [bI] at hm2
 have ER:=hx.size
 have pj:L.o+p*L.sz+news.toList.length≤c.size:=by simp only [bB];omega
 have anv:fz*L.sz≤p*L.sz:=aX _ EJ
 have hru:=eS c e h2 (by omega)
 obtain ⟨f1,f2,f3,f4,f5,f6⟩:=HO w (c':=(c.toList.take (L.o+p*L.sz)++news.toList++c.toList.drop (L.o+p*L.sz+news.toList.length)).toArray) h2
 refine Ct (kW:=.row (cw es p xs) fz) hr (j_ hb) h1 f1 f2 f3 f4 (fun g hg=>f5 g hg) (fun off v gU hn=>?_) (fun hn=>absurd (ah _) (hn _)) (fun _ hm=>hm) (.inl hru) (fun M' hk=>?_) (fun M' _=>qA _ M')
 ·simp only [bE.mut,Nat.not_le] at hn
  rw [cell_of_row _ _ _ _ _ _ f6]
  rw [cell_of_row _ _ _ _ _ _ h2] at gU
  obtain ⟨bG,hv⟩:=aL.1 gU
  rw [tM (by rw [Cg _ _ _ pj];exact bG),Cf _ _ _ pj,if_neg (by omega),← tM bG];exact gU
 ·have vH:∀ j,(cw es p xs).getD j .undef=if p≤j∧j<p+xs.length∧j<es.length then xs.getD (j - p) .undef else es.getD j .undef:=Fe es p xs
  refine ⟨_,e,f6,?_,by simpa [uR] using h4,fun j hj=>?_,fun j q hj hq=>?_⟩
  ·rw [Cg _ _ _ pj];exact h3
  ·rw [uR] at hj
   rw [vH]
   split
   ·rename_i hc;exact hx.one _ (by omega)
   ·exact h5 j hj
  ·rw [uR] at hj
   rw [Cf _ _ _ pj,vH]
   simp only [bB]
   by_cases fE:p≤j∧j<p+xs.length
   ·have h7:p*L.sz≤j*L.sz:=aX _ fE.1
    have h8:(j - p+1)*L.sz≤xs.length*L.sz:=aX _ (by omega)
    rw [bI,dx,kx] at h8
    rw [if_pos (by omega),if_pos ⟨fE.1,fE.2,hj⟩]
    have:=hx.rep (j - p) q (by omega) hq
    rw [kx] at this
    rw [show news.toList.getD (L.o+j*L.sz+q - (L.o+p*L.sz)) undef=news.getD (L.o+j*L.sz+q - (L.o+p*L.sz)) undef by simp [List.getD,aj],
     show L.o+j*L.sz+q - (L.o+p*L.sz)=j*L.sz - p*L.sz+q by omega]
    exact this.mono hk fun _ _ h=>h
   ·have w8:¬ (L.o+p*L.sz≤L.o+j*L.sz+q∧L.o+j*L.sz+q<L.o+p*L.sz+news.size):=by
     rintro ⟨a1,a2⟩
     by_cases e1:j<p
     ·have:(j+1)*L.sz≤p*L.sz:=aX _ e1
      rw [bI,dx] at this;omega
     ·have:(p+xs.length)*L.sz≤j*L.sz:=aX _ (by omega)
      rw [bI] at this;omega
    rw [if_neg w8,if_neg (by omega)]
    exact (h6 j q hj hq).mono hk fun _ _ h=>h
theorem KM {b:Nat} {x:bE} (h:bH σ b=some x):b_ σ b x = σ:=by
 have h':=j_ h
 have bG:b < σ.length:=(aI.1 h').1
 unfold b_
 rw [if_pos bG]
 apply bQ
 intro i
 rw [dX]
 by_cases e:b=i
 ·subst e;rw [if_pos rfl,if_pos bG,h']
 ·rw [if_neg e]
theorem bS.tj {v:Value} {b off n c sz:Nat} (h:bS w M β v (.oc b off n c sz)):(n=0∧c=0∧∃ a L,β b=some L∧L.sz=sz∧v = .slice a 0 0) ∨
  ∃ L,β b=some L∧L.sz=sz∧n≤c∧off+c≤L.n∧v = .slice (some ⟨L.g,L.o+off*L.sz,none⟩) n c:=by
 cases h with
 | sI a h=>exact .inl ⟨rfl,rfl,a,_,h,rfl,rfl⟩
 | oc h1 h2 h3=>exact .inr ⟨_,h1,rfl,h2,h3,rfl⟩
theorem Rc (es:List ae) (p:Nat):cw es p []=es:=rfl
theorem Zuh (hr:cH X base σ β w) (hn : β nm=none) {t u et:TypeId} {e:eM} (he:aF P et=some e) {vs vx:Value} {b off n c sz:Nat} {xs:List ae} {news:Array Value} (hs:bS w (MT X σ β) β vs (.oc b off n c sz)) (hx:sN w (MT X σ β) β e.sz xs news)
  {r:ae} {σ':ai} (h:nH σ nm e b off n c sz xs=some (r,σ')) (ty:TypeId) (ha:mX P w t u ty et xs.length vx news) {S:Sem Next} (hS:S=(do pure (.value (← Builtin.append_ #[t,u] ty #[vs,vx])))):cR P X base σ β w nm S r σ':=by
 obtain ⟨i,_,z,hi,_,hz,fH,_,AG,_,_,_,DJ⟩:=p6 he
 unfold nH at h
 split at h
 case isFalse=>cases h
 rename_i hc
 obtain ⟨rM,lq,AH,hc4⟩:=hc
 split at h
 ·rename_i es fz hb
  split at h
  ·rename_i mL
   obtain ⟨rfl,M5⟩:=mL
   split at h
   ·rename_i sy
    split at h
    ·rename_i hf
     obtain ⟨vE,pb⟩:=hf
     cases h
     rcases hs.tj with ⟨rfl,rfl,a,L,hL,jI,rfl⟩ | ⟨L,hL,jI,hl,Gw,rfl⟩
     ·have h0:xs.length=0:=by omega
      have DG:xs=[]:=aY h0
      subst DG
      rw [Rc,KM hb]
      refine cR.val hr (v:=.slice a 0 0) ?_ (by rw [← jI];exact .sI a hL)
      rw [hS,Sem.run_bind,ha.none rfl];rfl
     ·have qn:∀ v∈news.toList,v.oneCell'=true:=hx.DU fun x sD=>by
       have:=bj.1 rM x sD
       simp only [aC] at this
       exact this.2
      refine UI hr hb hL vE pb (by rw [jI];exact hx) (v:=.slice (some ⟨L.g,L.o+off*L.sz,none⟩) (n+xs.length) c) (fun cc ec h2 h3=>?_) fun w' M'=>by rw [← jI];exact .oc hL sy Gw
      have ER:=hx.size
      rw [← jI] at ER
      rw [bI] at h3
      have fT:=run_storeCells_at P L.g (L.o+(off+n)*L.sz) ec news.toList 0 cc w h2 (by simp only [ck,bB];omega) qn
      simp only [ck] at fT
      rw [hS,Sem.run_bind,ha.WY i hi sy (by rw [fH,← jI,fw,← bI];exact fT)];rfl
    ·cases h
   ·rename_i sy
    split at h
    ·rename_i ux
     cases h
     obtain ⟨L,h1,uw,hX,cc,ec,h2,h3,h4,h5,h6⟩:=hr.cg b _ (j_ hb)
     have hlen:((es.drop off).take n).length=n:=by simp;omega
     have eL:∀ k,k<n→((es.drop off).take n).getD k ae.undef=es.getD (off+k) .undef:=fun k hk=>by
      simp [List.getD,hk,dM]
     have grow:∀ (a:Option Addr) (olds:Array Value),vs = .slice a n c→(∀ w':World,w'.heap=w.heap→(Builtin.firstCells i.size n (.slice a n c)).run P w' = .ok olds w') →
       olds.size=n*e.sz→(∀ k j,k<n→j<e.sz→bS w (MT X σ β) β (olds.getD (k*e.sz+j) undef) ((es.getD (off+k) .undef).cells.getD j .undef))→(∀ k,k<n→(es.getD (off+k) .undef).cells.length=e.sz) →
       cR P X base σ β w nm S (.os nm 0 (n+xs.length) e.sz) (b_ σ nm (.row ((es.drop off).take n++xs) 0)):=by
      intro a olds mB hold yC yB qn
      have vH:=grownCap_ge w (n+xs.length) c et
      have eS:=ha.grow i z hi hz (hold w.drew rfl) (by omega) (by first | (rw [← AG];omega) | (rw [AG];omega)) (by omega)
      refine zo hr hn (.row ((es.drop off).take n++xs) 0) (grownCap w (n+xs.length) c et) e.sz (w':=w.drew.alloc (.cells (olds++news++Builtin.zeroCells z.cells (grownCap w (n+xs.length) c et - (n+xs.length))) et)) rfl rfl rfl rfl (by rw [hS,mB,Sem.run_bind,eS];rfl) ?_ ?_
      ·intro M' β' hk hβ
       refine KV (w:=w) (M:=MT X σ β) (β:=β) (z:=z) DJ (mC:=(es.drop off).take n) (pW:=xs) (olds:=olds) (news:=news) (by rw [hlen];exact yC) hx.size ?_ hx.one ?_ hx.rep hlen rfl vH hk hβ (xQ w.drew _) _
       ·intro k hk;rw [hlen] at hk;rw [eL k hk];exact qn k hk
       ·intro k j hk hj;rw [hlen] at hk;rw [eL k hk];exact yB k j hk hj
      ·intro M'
       have:=bS.os (w:=w.drew.alloc (.cells (olds++news++Builtin.zeroCells z.cells (grownCap w (n+xs.length) c et - (n+xs.length))) et)) (M:=M') (β:=pw β nm ⟨w.heap.size,0,grownCap w (n+xs.length) c et,e.sz⟩) (b:=nm) (off:=0) (len:=n+xs.length) (cap:=grownCap w (n+xs.length) c et) (L:=⟨w.heap.size,0,grownCap w (n+xs.length) c et,e.sz⟩) (tW _ _ _) vH (by simp)
       simpa using this
     obtain ⟨olds,nU⟩:=HX (P:=P) hr (sz:=e.sz) (v:=vs) (x:=.oc b off n c e.sz) (xs:=(es.drop off).take n) hs (by simp [eR,hb,M5])
     have hv:∃ a,vs = .slice a n c∧(0<n→L.sz=e.sz):=by
      rcases hs.tj with ⟨rfl,rfl,a,L',hL,jI,rfl⟩ | ⟨L',hL,jI,hl,Gw,rfl⟩
      ·exact ⟨_,rfl,fun h=>absurd h (by omega)⟩
      ·obtain rfl:=aN (h1.symm.trans hL);exact ⟨_,rfl,fun _=>jI⟩
     obtain ⟨a,xH,jI⟩:=hv
     refine grow a olds xH (fun w' xh=>?_) ?_ (fun k j hk hj=>?_) (fun k hk=>by rw [← jI (by omega)];exact h5 _ (by omega))
     ·have:=nU.cells w' xh;rw [hlen] at this;rw [fH,← xH];exact this
     ·have:=nU.size;rw [hlen] at this;exact this
     ·have:=nU.rep k j (by omega) (by omega);rw [eL k hk] at this;exact this
    ·cases h
  ·cases h
 ·cases h
theorem Kl (hr:cH X base σ β w) (hn : β nm=none) (BP:bH σ nm=none) {t u et:TypeId} {e:eM} (he:aF P et=some e) {vs vx:Value} {s:ae} {xs:List ae} {news:Array Value} (hs:bS w (MT X σ β) β vs s) (hx:sN w (MT X σ β) β e.sz xs news)
  {r:ae} {σ':ai} (h:ei σ nm e s xs=some (r,σ')) (ty:TypeId) (ha:mX P w t u ty et xs.length vx news) {S:Sem Next} (hS:S=(do pure (.value (← Builtin.append_ #[t,u] ty #[vs,vx])))):cR P X base σ β w nm S r σ':=by
 unfold ei at h
 split at h
 ·exact Zuh hr hn he hs hx h ty ha hS
 ·exact Zzo hr hn BP he hs hx h ty ha hS
theorem HR {t:TypeId} {l:eM} (hl:aF P t=some l):(zeroV l).cells=l.zero:=by
 obtain ⟨i,u,z,h1,h2,h3,h4,h5,h6,h7,h8,h9,ur⟩:=p6 hl
 unfold zeroV
 cases z with
 | agg cs =>
  have ha:l.ag=true:=by simpa [Ba] using h9
  rw [if_pos ha];rfl
 | tuple cs=>simp [Ba] at h9
 | _ =>
  have ha:¬ l.ag=true:=by intro ha;rw [ha] at h9;simp [Ba] at h9
  rw [if_neg ha,← h7]
  simp only [sK,Value.cells,aB,aP,List.headD_cons]
  unfold ofValue
  split<;>first | rfl | (rename_i e _;cases e) | (rename_i e;cases e)
theorem Yo {z:Array Value} {n i j:Nat} (hi:i<n) (hj:j<z.size):(Builtin.zeroCells z n).getD (i*z.size+j) undef=z.getD j undef:=by
 have bG:i*z.size+j<n*z.size:=by
  have:(i+1)*z.size≤n*z.size:=aX _ (by omega)
  rw [bI,dx] at this;omega
 simp only [Builtin.zeroCells,aj,ez,Array.getElem?_range,if_pos bG,bu,br]
 have e5:(i*z.size+j) % z.size=j:=(Jg hj).2
 rw [aD hj,br,getElem!_pos z _ (by rw [e5];exact hj)]
 simp only [e5]
theorem TE {t:TypeId} {l:eM} (hl:aF P t=some l) (n:Nat) {i:TypeInfo} {z:Value} (hi:P.info? t=some i) (hz:i.zero=some z):sN w M β l.sz (List.replicate n (zeroV l)) (Builtin.zeroCells z.cells n):=by
 obtain ⟨z',rS,_,rT,JL,E0,_⟩:=Bq (w:=w) (M:=M) (β:=β) hl
 obtain rfl:z=z':=by
  have:=HL (P:=P) (w:=w) hi hz
  rw [rS] at this
  exact ((Result.ok.injEq _ _ _ _).mp this).1.symm
 have hg:∀ i,i<n→(List.replicate n (zeroV l)).getD i ae.undef=zeroV l:=fun i hi=>by simp [List.getD,hi]
 refine ⟨by rw [size_zeroCells,rT];simp,fun i hi=>?_,fun i j hi hj=>?_⟩
 ·simp only [bA] at hi
  rw [hg i hi,HR hl];exact JL
 ·simp only [bA] at hi
  rw [hg i hi,HR hl]
  have:=Yo (z:=z.cells) hi (show j<z.cells.size by omega)
  rw [rT] at this
  rw [this];exact E0 j hj
theorem mX.yY {t u ty et:TypeId} {k:IntKind} (ht:P.underlying t=some (.slice et)) (hu:P.underlying u=some (.int k)) {l:eM} (he:aF P et=some l) (fH : 0<l.sz) (AG:l.bytes≤65536) {n:Int} (h0 : 0≤n) (h1:n≤1000000000)
  (hw:IntKind.i64.wrap n=n) {i:TypeInfo} {z:Value} (hi:P.info? et=some i) (hz:i.zero=some z):mX P w t u ty et n.toNat (.int .i64 n) (Builtin.zeroCells z.cells n.toNat):=by
 obtain ⟨i',_,z',dV,_,Od,hs,_,hb,_,_,_,DJ⟩:=p6 he
 obtain rfl:=aN (dV.symm.trans hi)
 obtain rfl:=aN (Od.symm.trans hz)
 have ux:¬ ((281474976710656:Int)<n*(i'.bytes:Int)):=by
  have h2:((i'.bytes:Nat):Int)≤65536:=by omega
  have:n*(i'.bytes:Int)≤1000000000*65536:=Int.mul_le_mul h1 h2 (by omega) (by omega)
  omega
 have ff:¬ n<0:=by omega
 have nT:¬ i'.size=0:=by omega
 have B1:∀ h:n.toNat=0,Builtin.zeroCells z'.cells n.toNat = #[]:=fun h=>by rw [h];simp [Builtin.zeroCells]
 refine ⟨fun i2 z2 Nn rT b n2 cap olds hold h4 h5 h6=>?_,fun i2 Nn g o n2 cap w' h4 h5=>?_,fun hm b c=>?_⟩
 ·obtain rfl:=aN (Nn.symm.trans hi)
  obtain rfl:=aN (rT.symm.trans hz)
  have g1:¬ n2+n.toNat≤cap:=by omega
  have JB:=Ue i2.bytes
  have g2:¬ ((9223372036854775807:Int)<(n2:Int)+(n.toNat:Int)):=by omega
  have V5:¬ ((9223372036854775807:Int)<(n2:Int)+max n 0):=by omega
  have g3:¬ (281474976710656<Builtin.nextslicecap (n2+n.toNat) cap*i2.bytes):=by
   have:=growslice_fits_wide (old:=cap) h4 (SA h5 h6)
   omega
  have em:IntKind.i64.max=9223372036854775807:=by decide
  by_cases wZ:n.toNat=0
  ·have:=B1 wZ
   simp [Builtin.append_,run_underlying ht,run_underlying hu,sizeOf,typeInfo,zeroValue,hi,hz,hw,ff,ux,g1,g2,V5,g3,em,asInt,asIntOf,Question.forced,hold,newRow,grownCap,nT,wZ,this]
   simp only [wZ,ck] at g1 g3
   have Hi:Builtin.zeroCells z2.cells 0 = #[]:=by simp [Builtin.zeroCells]
   simp [g1,g3,wZ,Hi]
  ·simp [Builtin.append_,run_underlying ht,run_underlying hu,sizeOf,typeInfo,zeroValue,hi,hz,hw,ff,ux,g1,g2,V5,g3,em,asInt,asIntOf,Question.forced,hold,newRow,grownCap,nT,wZ]
   intro h;exact absurd h (Nat.mul_ne_zero wZ nT)
 ·obtain rfl:=aN (Nn.symm.trans hi)
  by_cases wZ:n.toNat=0
  ·have:=B1 wZ
   rw [this] at h5
   simp only [storeCells,Array.toList_empty,Sem.run_pure,Result.ok.injEq,true_and] at h5
   subst h5
   rw [wZ,ck] at h4 ⊢
   simp [Builtin.append_,run_underlying ht,run_underlying hu,sizeOf,typeInfo,hi,hw,ff,ux,h4,asInt,asIntOf,wZ,storeCells]
  ·simp [Builtin.append_,run_underlying ht,run_underlying hu,sizeOf,typeInfo,zeroValue,hi,hz,hw,ff,ux,h4,asInt,asIntOf,nT,wZ,Addr.add_lit,h5]
   intro h;exact absurd h (Nat.mul_ne_zero wZ nT)
 ·have wZ:n.toNat=0:=hm
  obtain rfl:n=0:=by omega
  cases b<;>simp [Builtin.append_,run_underlying ht,run_underlying hu,sizeOf,typeInfo,hi,hw,asInt,asIntOf,storeCells]
end
section
variable {P:Program} {X:Nat→Nat→Prop} {base:Nat} {σ:ai} {β:Env} {w:World} {nm:Nat} {M:Nat→Nat→Prop}
def n_ (m:Nat):ae→ae
 | .ps s es=>.ps s (es.take m)
 | .os b off n s=>.os b off (min m n) s
 | .oc b off n c s=>.oc b off (min m n) c s
 | a=>a
theorem Yk1 {v:Value} {x:ae} {sz:Nat} {xs:List ae} (hv:bS w M β v x) (h:eR σ sz x=some xs) (m:Nat):∃ a n c,v = .slice a n c∧n=xs.length∧bS w M β (.slice a (min m n) c) (n_ m x)∧eR σ sz (n_ m x)=some (xs.take m):=by
 unfold eR at h
 split at h
 ·rename_i s es
  split at h
  ·rename_i e
   cases h
   cases hv with
   | @ps a cap _ _ cv jr fH hc ha NV =>
    refine ⟨_,_,_,rfl,rfl,?_,by simp [n_,eR,e]⟩
    have hl:(xs.take m).length=min m xs.length:=cY
    have hg:∀ i,i<(xs.take m).length→(xs.take m).getD i ae.undef=xs.getD i .undef:=fun i hi=>by
     rw [hl] at hi
     simp [List.getD,show i<m by omega]
    rw [← hl]
    exact .ps cv (by omega) (fun i hi=>by rw [hg i hi];exact fH i (by omega)) (fun i j hi hj=>hc i j (by omega) hj) (fun h0=>ha (by omega)) (fun i j hi hj=>by rw [hg i hi];exact NV i j (by omega) hj)
  ·cases h
 ·cases h
  cases hv with
  | aU a=>exact ⟨_,_,_,rfl,rfl,by rw [Nat.min_zero];exact .aU a,by simp [n_,eR]⟩
 ·rename_i b off n s
  split at h
  ·rename_i e
   split at h
   ·rename_i es fz hb
    split at h
    ·rename_i hle
     cases h
     have hlen:((es.drop off).take n).length=n:=by simp;omega
     have je:eR σ sz (n_ m (.os b off n s))=some (((es.drop off).take n).take m):=by
      simp only [n_,eR,e,if_true,hb]
      rw [if_pos (by omega),qK]
     cases hv with
     | sJ a hL=>exact ⟨_,_,_,rfl,hlen.symm,by simp only [n_,Nat.min_zero];exact .sJ a hL,je⟩
     | os hL hl hc=>exact ⟨_,_,_,rfl,hlen.symm, .os hL (by omega) hc,je⟩
    ·cases h
   ·cases h
  ·cases h
 ·rename_i b off n c s
  split at h
  ·rename_i e
   split at h
   ·rename_i es fz hb
    split at h
    ·rename_i hle
     cases h
     have hlen:((es.drop off).take n).length=n:=by simp;omega
     have je:eR σ sz (n_ m (.oc b off n c s))=some (((es.drop off).take n).take m):=by
      simp only [n_,eR,e,if_true,hb]
      rw [if_pos (by omega),qK]
     cases hv with
     | sI a hL=>exact ⟨_,_,_,rfl,hlen.symm,by simp only [n_,Nat.min_zero];exact .sI a hL,je⟩
     | oc hL hl hc=>exact ⟨_,_,_,rfl,hlen.symm, .oc hL (by omega) hc,je⟩
    ·cases h
   ·cases h
  ·cases h
 ·cases h
theorem Ysr {v:Value} {s:ae} {b off n sz:Nat} (h:bS w M β v s) (hs:s = .os b off n sz∨∃ c,s = .oc b off n c sz):∃ L c,β b=some L∧L.sz=sz∧((n=0∧∃ a,v = .slice a 0 c)∨v = .slice (some ⟨L.g,L.o+off*L.sz,none⟩) n c):=by
 rcases hs with rfl | ⟨c,rfl⟩
 ·rcases h.ru with ⟨rfl,a,L,hL,jI,rfl⟩ | ⟨L,c,hL,jI,_,_,rfl⟩
  ·exact ⟨L,_,hL,jI, .inl ⟨rfl,a,rfl⟩⟩
  ·exact ⟨L,_,hL,jI, .inr rfl⟩
 ·rcases h.tj with ⟨rfl,rfl,a,L,hL,jI,rfl⟩ | ⟨L,hL,jI,_,_,rfl⟩
  ·exact ⟨L,_,hL,jI, .inl ⟨rfl,a,rfl⟩⟩
  ·exact ⟨L,_,hL,jI, .inr rfl⟩
theorem SC (hr:cH X base σ β w) {vs:Value} {s:ae} {sz:Nat} {xs:List ae} {news:Array Value} (hs:bS w (MT X σ β) β vs s) (hx:sN w (MT X σ β) β sz xs news) {σ':ai} (h:kA σ sz s xs=some σ')
  {S:Sem Next} {v:Value} {r:ae} (eS:∀ w',(∃ a n c,vs = .slice a n c∧((match a with | some a=>storeCells a news.toList | none=>pure ()):Sem Unit).run P w = .ok () w')→S.run P w = .ok (.value v) w') (hv:∀ (w':World) (M':Nat→Nat→Prop),bS w' M' β v r):cR P X base σ β w nm S r σ':=by
 obtain ⟨b,off,n,Hc,es,fz,hb,hc,rfl⟩:∃ b off n,(s = .os b off n sz∨∃ c,s = .oc b off n c sz)∧∃ es fz,bH σ b=some (.row es fz)∧(0<sz∧fz≤off∧xs.length≤n∧off+n≤es.length∧xs.all (fun x=>x.cells.length==sz&&x.cells.all ae.cK)=true)∧b_ σ b (.row (cw es off xs) fz) = σ':=by
  unfold kA at h
  split at h
  ·rename_i b off n c xm
   split at h
   ·rename_i es fz hb
    split at h
    ·rename_i hc
     obtain ⟨rfl,hc⟩:=hc
     cases h;exact ⟨_,_,_, .inr ⟨_,rfl⟩,_,_,hb,hc,rfl⟩
    ·cases h
   ·cases h
  ·rename_i b off n xm
   split at h
   ·rename_i es fz hb
    split at h
    ·rename_i hc
     obtain ⟨rfl,hc⟩:=hc
     cases h;exact ⟨_,_,_, .inl rfl,_,_,hb,hc,rfl⟩
    ·cases h
   ·cases h
  ·cases h
 obtain ⟨h0,h1,h2,h3,h4⟩:=hc
 have qn:∀ v∈news.toList,v.oneCell'=true:=hx.DU fun x sD=>by
  have:=bj.1 h4 x sD
  simp only [aC] at this
  exact this.2
 obtain ⟨L,c,hL,jI,mB⟩:=Ysr hs Hc
 rcases mB with ⟨hn,a,mB⟩ | mB
 ·have DG:xs=[]:=aY (by omega)
  subst DG
  have xG:news = #[]:=lP (by rw [hx.size];simp)
  rw [Rc,KM hb]
  refine cR.val hr (v:=v) (eS w ⟨a,0,c,mB,?_⟩) (hv _ _)
  subst xG
  cases a<;>simp [storeCells]
 ·subst jI
  refine UI hr hb hL h1 (by omega) hx (v:=v) (fun cc ec g2 g3=>eS _ ⟨_,n,c,mB,?_⟩) hv
  have ER:=hx.size
  rw [bI] at g3
  have fT:=run_storeCells_at P L.g (L.o+off*L.sz) ec news.toList 0 cc w g2 (by simp only [ck,bB];omega) qn
  simp only [ck] at fT
  exact fT
theorem Vk {v:Value} {s:ae} {n:Nat} (h:bS w M β v s) (hn:kF s=some n):∃ a c,v = .slice a n c:=by
 unfold kF at hn
 split at hn<;>cases hn
 ·cases h;exact ⟨_,_,rfl⟩
 ·cases h<;>exact ⟨_,_,rfl⟩
 ·cases h<;>exact ⟨_,_,rfl⟩
 ·cases h;exact ⟨_,_,rfl⟩
theorem Zi (hr:cH X base σ β w) {t et:TypeId} (ht:P.underlying t=some (.slice et)) {e:eM} (he:aF P et=some e) {vs:Value} {s:ae} (hs:bS w (MT X σ β) β vs s) {n:Nat} (hn:kF s=some n) {r:ae} {σ':ai}
  (h:(if n=0 then some (ae.dA [],σ) else (kA σ e.sz s (List.replicate n (zeroV e))).map (ae.dA [], ·))=some (r,σ')) (ty:TypeId) {S:Sem Next} (hS:S=(do pure (.value (← Builtin.clear_ #[t] ty #[vs])))):cR P X base σ β w nm S r σ':=by
 have vP:∀ (w':World) (M':Nat→Nat→Prop),bS w' M' β (.tuple #[]) (.dA []):=fun w' M'=>.dA rfl fun k hk=>by simp at hk
 obtain ⟨a,c,mB⟩:=Vk hs hn
 split at h
 ·rename_i h0
  cases h
  subst h0
  refine cR.val hr (v:=.tuple #[]) ?_ (vP _ _)
  rw [hS,mB]
  cases a<;>simp [Builtin.clear_,run_underlying ht]
 ·rename_i h0
  obtain ⟨dk,h1,h2⟩:=aH.1 h
  cases h2
  obtain ⟨i,_,z,hi,_,hz,_⟩:=p6 he
  refine SC hr hs (TE he n hi hz) h1 (v:=.tuple #[]) (fun w' xh=>?_) vP
  obtain ⟨a',n',c',e1,e2⟩:=xh
  rw [mB] at e1
  cases e1
  rw [hS,mB]
  cases a with
  | none =>
   simp only [Sem.run_pure,Result.ok.injEq,true_and] at e2
   subst e2
   simp [Builtin.clear_,run_underlying ht]
  | some a =>
   simp only at e2
   have xG:n≠0:=h0
   have e3:=e2
   obtain ⟨m,rfl⟩:∃ m,n=m+1:=⟨n - 1,by omega⟩
   simp [Builtin.clear_,run_underlying ht,HL hi hz,e2]
theorem Yj5 (hr:cH X base σ β w) {t u et:TypeId} (ht:P.underlying t=some (.slice et)) {e:eM} (he:aF P et=some e) {vs vx:Value} {s x:ae} (hs:bS w (MT X σ β) β vs s) (hx:bS w (MT X σ β) β vx x) {n:Nat} (hn:kF s=some n)
  {xs:List ae} (wC:eR σ e.sz x=some xs) {r:ae} {σ':ai} (h:(kA σ e.sz s (xs.take n)).map (ae.int .i64 ((xs.take n).length:Int), ·)=some (r,σ')) (ty:TypeId) {S:Sem Next} (hS:S=(do pure (.value (← Builtin.copy_ #[t,u] ty #[vs,vx])))):cR P X base σ β w nm S r σ':=by
 obtain ⟨a,c,mB⟩:=Vk hs hn
 obtain ⟨dk,h1,h2⟩:=aH.1 h
 cases h2
 obtain ⟨i,_,z,hi,_,hz,fH,_⟩:=p6 he
 obtain ⟨b,m,d,rfl,hm,EY,hx3⟩:=Yk1 hx wC n
 obtain ⟨news,nU⟩:=HX (P:=P) hr EY hx3
 refine SC hr hs nU.OC h1 (v:=.int .i64 ((xs.take n).length:Int)) (fun w' xh=>?_) fun w' M'=>.int _ _
 obtain ⟨a',n',c',e1,e2⟩:=xh
 rw [mB] at e1
 cases e1
 have hl:(xs.take n).length=min m n:=by rw [cY,hm,Nat.min_comm]
 have hf:=nU.cells w rfl
 rw [hl] at hf
 have od:(Builtin.firstCells i.size (min m n) (.slice b m d)).run P w = .ok news w:=by
  rw [fH]
  cases b<;>exact hf
 rw [hS,mB,hl]
 cases a with
 | none =>
  simp only [Sem.run_pure,Result.ok.injEq,true_and] at e2
  subst e2
  simp [Builtin.copy_,run_underlying ht,tP hi,Builtin.lenOf,od,goInt]
 | some a =>
  simp only at e2
  simp [Builtin.copy_,run_underlying ht,tP hi,Builtin.lenOf,od,goInt,e2]
theorem Yl2 {v:Value} {x:ae} {n:Nat} (hx:bS w M β v x) (h2:vq x=some n):∃ a m,v = .slice a m n:=by
 unfold vq at h2
 split at h2<;>cases h2
 ·cases hx with | aU a=>exact ⟨_,_,rfl⟩
 ·cases hx<;>exact ⟨_,_,rfl⟩
theorem Yl {e:eM} {s:ae} {xs:List ae} {x:ae×ai} (h:ei σ nm e s xs=some x) : 0<e.sz∧e.bytes≤65536:=by
 unfold ei nH mn at h
 split at h
 ·split at h
  ·rename_i hc;exact ⟨hc.2.1,hc.2.2.1⟩
  ·cases h
 ·split at h
  ·rename_i hc;exact ⟨hc.2.1,hc.2.2.1⟩
  ·cases h
end
end Go.c8
