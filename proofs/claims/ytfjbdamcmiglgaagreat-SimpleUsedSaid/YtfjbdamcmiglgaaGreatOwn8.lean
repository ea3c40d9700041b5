/- Part 8 of my own framework and of the walks of functions: AbsJo, AbsJp. -/
import Derived.Test.YtfjbdamcmiglgaaGreatOwn7
abbrev cW:=@List.length_take
abbrev aS:=@List.map_nil
abbrev qz:=@List.take_take
set_option linter.unusedVariables false
set_option linter.unusedSectionVars false
set_option linter.unusedSimpArgs false
namespace Go.cV
open Go
section
variable {P:Program} {X:Nat→Nat→Prop} {base:Nat} {σ:ai} {β:Env} {w:World} {nm:Nat} {M:Nat→Nat→Prop}
theorem Ub (hr:cF X base σ β w) {b p fz:Nat} {es xs:List ae} (hb:bF σ b=some (.row es fz)) {L:Loc} (hL : β b=some L) (Ew:fz≤p) (hp:p+xs.length≤es.length)
  {news:Array Value} (hx:sD w (MT X σ β) β L.sz xs news) {s:Sem Next} {v:Value} {r:ae}
  (eO:∀ c e,w.heap[L.g]? = some (.cells c e (0,0))→L.o+(p+xs.length)*L.sz≤c.size→s.run P w = .ok (.value v) (w.setRow L.g (c.toList.take (L.o+p*L.sz)++news.toList++c.toList.drop (L.o+p*L.sz+news.toList.length)).toArray))
  (qq:∀ (w':World) (M':Nat→Nat→Prop),bR w' M' β v r):cO P X base σ β w nm s r (b_ σ b (.row (cr es p xs) fz)):=by
 obtain ⟨L',h1,h2b,h2x,c,e,h2,h3,h4,h5,h6⟩:=hr.cf b _ (jU hb)
 obtain rfl:=aM (hL.symm.trans h1)
 have v8:(p+xs.length)*L.sz≤L.n*L.sz:=aW _ (by omega)
 have hm2:=v8
 rw [bH] at hm2
 have EC:=hx.size
 have oU:L.o+p*L.sz+news.toList.length≤c.size:=by simp only [bA];omega
 have amr:fz*L.sz≤p*L.sz:=aW _ Ew
 have hru:=eO c e h2 (by omega)
 obtain ⟨f1,f2,f3,f4,f5,f6⟩:=Hq w (c':=(c.toList.take (L.o+p*L.sz)++news.toList++c.toList.drop (L.o+p*L.sz+news.toList.length)).toArray) h2
 refine Cl (kG:=.row (cr es p xs) fz) hr (jU hb) h1 f1 f2 f3 f4 (fun g hg=>f5 g hg) (fun off v gK hn=>?_) (fun hn=>absurd (ah _) (hn _)) (fun _ hm=>hm) (.inl hru) (fun M' hk=>?_) (fun M' _=>qq _ M')
 ·simp only [bE.mut,Nat.not_le] at hn
  rw [cell_of_row _ _ _ _ _ _ f6]
  rw [cell_of_row _ _ _ _ _ _ h2] at gK
  obtain ⟨bD,hv⟩:=aL.1 gK
  rw [tD (by rw [B9 _ _ _ oU];exact bD),Ca _ _ _ oU,if_neg (by omega),← tD bD];exact gK
 ·have uU:∀ j,(cr es p xs).getD j .undef=if p≤j∧j<p+xs.length∧j<es.length then xs.getD (j - p) .undef else es.getD j .undef:=EW es p xs
  refine ⟨_,e,f6,?_,by simpa [uL] using h4,fun j hj=>?_,fun j q hj hq=>?_⟩
  ·rw [B9 _ _ _ oU];exact h3
  ·rw [uL] at hj
   rw [uU]
   split
   ·rename_i hc;exact hx.one _ (by omega)
   ·exact h5 j hj
  ·rw [uL] at hj
   rw [Ca _ _ _ oU,uU]
   simp only [bA]
   by_cases fh:p≤j∧j<p+xs.length
   ·have h7:p*L.sz≤j*L.sz:=aW _ fh.1
    have h8:(j - p+1)*L.sz≤xs.length*L.sz:=aW _ (by omega)
    rw [bH,dv,ke] at h8
    rw [if_pos (by omega),if_pos ⟨fh.1,fh.2,hj⟩]
    have:=hx.rep (j - p) q (by omega) hq
    rw [ke] at this
    rw [show news.toList.getD (L.o+j*L.sz+q - (L.o+p*L.sz)) undef=news.getD (L.o+j*L.sz+q - (L.o+p*L.sz)) undef by simp [List.getD,aj],
     show L.o+j*L.sz+q - (L.o+p*L.sz)=j*L.sz - p*L.sz+q by omega]
    exact this.mono hk fun _ _ h=>h
   ·have wT:¬ (L.o+p*L.sz≤L.o+j*L.sz+q∧L.o+j*L.sz+q<L.o+p*L.sz+news.size):=by
     rintro ⟨a1,a2⟩
     by_cases e1:j<p
     ·have:(j+1)*L.sz≤p*L.sz:=aW _ e1
      rw [bH,dv] at this;omega
     ·have:(p+xs.length)*L.sz≤j*L.sz:=aW _ (by omega)
      rw [bH] at this;omega
    rw [if_neg wT,if_neg (by omega)]
    exact (h6 j q hj hq).mono hk fun _ _ h=>h
theorem KG {b:Nat} {x:bE} (h:bF σ b=some x):b_ σ b x = σ:=by
 have h':=jU h
 have bD:b < σ.length:=(aH.1 h').1
 unfold b_
 rw [if_pos bD]
 apply bO
 intro i
 rw [dT]
 by_cases e:b=i
 ·subst e;rw [if_pos rfl,if_pos bD,h']
 ·rw [if_neg e]
theorem bR.sV {v:Value} {b off n c sz:Nat} (h:bR w M β v (.oc b off n c sz)):(n=0∧c=0∧∃ a L,β b=some L∧L.sz=sz∧v = .slice a 0 0) ∨
  ∃ L,β b=some L∧L.sz=sz∧n≤c∧off+c≤L.n∧v = .slice (some ⟨L.g,L.o+off*L.sz,none⟩) n c:=by
 cases h with
 | su a h=>exact .inl ⟨rfl,rfl,a,_,h,rfl,rfl⟩
 | oc h1 h2 h3=>exact .inr ⟨_,h1,rfl,h2,h3,rfl⟩
theorem Qk (es:List ae) (p:Nat):cr es p []=es:=rfl
theorem Zu8 (hr:cF X base σ β w) (hn : β nm=none) {t u et:TypeId} {e:eI} (he:aC P et=some e) {vs vx:Value} {b off n c sz:Nat} {xs:List ae} {news:Array Value} (hs:bR w (MT X σ β) β vs (.oc b off n c sz)) (hx:sD w (MT X σ β) β e.sz xs news)
  {r:ae} {σ':ai} (h:nx σ nm e b off n c sz xs=some (r,σ')) (ty:TypeId) (ha:mJ P w t u ty et xs.length vx news) {S:Sem Next} (hS:S=(do pure (.value (← Builtin.append_ #[t,u] ty #[vs,vx])))):cO P X base σ β w nm S r σ':=by
 obtain ⟨i,_,z,hi,_,hz,ft,_,Ap,_,_,_,Du⟩:=pW he
 unfold nx at h
 split at h
 case isFalse=>cases h
 rename_i hc
 obtain ⟨rD,kY,Aq,hc4⟩:=hc
 split at h
 ·rename_i es fz hb
  split at h
  ·rename_i mA
   obtain ⟨rfl,MD⟩:=mA
   split at h
   ·rename_i sf
    split at h
    ·rename_i hf
     obtain ⟨vq,oP⟩:=hf
     cases h
     rcases hs.sV with ⟨rfl,rfl,a,L,hL,ju,rfl⟩ | ⟨L,hL,ju,hl,F8,rfl⟩
     ·have h0:xs.length=0:=by omega
      have Dr:xs=[]:=aY h0
      subst Dr
      rw [Qk,KG hb]
      refine cO.val hr (v:=.slice a 0 0) ?_ (by rw [← ju];exact .su a hL)
      rw [hS,Sem.run_bind,ha.none rfl];rfl
     ·have qi:∀ v∈news.toList,v.oneCell'=true:=hx.DH fun x sl=>by
       have:=bp.1 rD x sl
       simp only [aD] at this
       exact this.2
      refine Ub hr hb hL vq oP (by rw [ju];exact hx) (v:=.slice (some ⟨L.g,L.o+off*L.sz,none⟩) (n+xs.length) c) (fun cc ec h2 h3=>?_) fun w' M'=>by rw [← ju];exact .oc hL sf F8
      have EC:=hx.size
      rw [← ju] at EC
      rw [bH] at h3
      have fP:=run_storeCells_at P L.g (L.o+(off+n)*L.sz) ec news.toList 0 cc w h2 (by simp only [cj,bA];omega) qi
      simp only [cj] at fP
      rw [hS,Sem.run_bind,ha.VQ i hi sf (by rw [ft,← ju,ff,← bH];exact fP)];rfl
    ·cases h
   ·rename_i sf
    split at h
    ·rename_i uh
     cases h
     obtain ⟨L,h1,ug,hX,cc,ec,h2,h3,h4,h5,h6⟩:=hr.cf b _ (jU hb)
     have hlen:((es.drop off).take n).length=n:=by simp;omega
     have eH:∀ k,k<n→((es.drop off).take n).getD k ae.undef=es.getD (off+k) .undef:=fun k hk=>by
      simp [List.getD,hk,dJ]
     have grow:∀ (a:Option Addr) (olds:Array Value),vs = .slice a n c→(∀ w':World,w'.heap=w.heap→(Builtin.firstCells i.size n (.slice a n c)).run P w' = .ok olds w') →
       olds.size=n*e.sz→(∀ k j,k<n→j<e.sz→bR w (MT X σ β) β (olds.getD (k*e.sz+j) undef) ((es.getD (off+k) .undef).cells.getD j .undef))→(∀ k,k<n→(es.getD (off+k) .undef).cells.length=e.sz) →
       cO P X base σ β w nm S (.os nm 0 (n+xs.length) e.sz) (b_ σ nm (.row ((es.drop off).take n++xs) 0)):=by
      intro a olds me hold yq yp qi
      have uU:=grownCap_ge w (n+xs.length) c et
      have eO:=ha.grow i z hi hz (hold w.drew rfl) (by omega) (by first | (rw [← Ap];omega) | (rw [Ap];omega)) (by omega)
      refine zb hr hn (.row ((es.drop off).take n++xs) 0) (grownCap w (n+xs.length) c et) e.sz (w':=w.drew.alloc (.cells (olds++news++Builtin.zeroCells z.cells (grownCap w (n+xs.length) c et - (n+xs.length))) et)) rfl rfl rfl rfl (by rw [hS,me,Sem.run_bind,eO];rfl) ?_ ?_
      ·intro M' β' hk hβ
       refine Ks (w:=w) (M:=MT X σ β) (β:=β) (z:=z) Du (mf:=(es.drop off).take n) (pN:=xs) (olds:=olds) (news:=news) (by rw [hlen];exact yq) hx.size ?_ hx.one ?_ hx.rep hlen rfl uU hk hβ (xG w.drew _) _
       ·intro k hk;rw [hlen] at hk;rw [eH k hk];exact qi k hk
       ·intro k j hk hj;rw [hlen] at hk;rw [eH k hk];exact yp k j hk hj
      ·intro M'
       have:=bR.os (w:=w.drew.alloc (.cells (olds++news++Builtin.zeroCells z.cells (grownCap w (n+xs.length) c et - (n+xs.length))) et)) (M:=M') (β:=o7 β nm ⟨w.heap.size,0,grownCap w (n+xs.length) c et,e.sz⟩) (b:=nm) (off:=0) (len:=n+xs.length) (cap:=grownCap w (n+xs.length) c et) (L:=⟨w.heap.size,0,grownCap w (n+xs.length) c et,e.sz⟩) (tI _ _ _) uU (by simp)
       simpa using this
     obtain ⟨olds,nJ⟩:=HB (P:=P) hr (sz:=e.sz) (v:=vs) (x:=.oc b off n c e.sz) (xs:=(es.drop off).take n) hs (by simp [eM,hb,MD])
     have hv:∃ a,vs = .slice a n c∧(0<n→L.sz=e.sz):=by
      rcases hs.sV with ⟨rfl,rfl,a,L',hL,ju,rfl⟩ | ⟨L',hL,ju,hl,F8,rfl⟩
      ·exact ⟨_,rfl,fun h=>absurd h (by omega)⟩
      ·obtain rfl:=aM (h1.symm.trans hL);exact ⟨_,rfl,fun _=>ju⟩
     obtain ⟨a,EG,ju⟩:=hv
     refine grow a olds EG (fun w' w6=>?_) ?_ (fun k j hk hj=>?_) (fun k hk=>by rw [← ju (by omega)];exact h5 _ (by omega))
     ·have:=nJ.cells w' w6;rw [hlen] at this;rw [ft,← EG];exact this
     ·have:=nJ.size;rw [hlen] at this;exact this
     ·have:=nJ.rep k j (by omega) (by omega);rw [eH k hk] at this;exact this
    ·cases h
  ·cases h
 ·cases h
theorem JY (hr:cF X base σ β w) (hn : β nm=none) (BD:bF σ nm=none) {t u et:TypeId} {e:eI} (he:aC P et=some e) {vs vx:Value} {s:ae} {xs:List ae} {news:Array Value} (hs:bR w (MT X σ β) β vs s) (hx:sD w (MT X σ β) β e.sz xs news)
  {r:ae} {σ':ai} (h:ef σ nm e s xs=some (r,σ')) (ty:TypeId) (ha:mJ P w t u ty et xs.length vx news) {S:Sem Next} (hS:S=(do pure (.value (← Builtin.append_ #[t,u] ty #[vs,vx])))):cO P X base σ β w nm S r σ':=by
 unfold ef at h
 split at h
 ·exact Zu8 hr hn he hs hx h ty ha hS
 ·exact Wv hr hn BD he hs hx h ty ha hS
theorem Ht {t:TypeId} {l:eI} (hl:aC P t=some l):(zeroV l).cells=l.zero:=by
 obtain ⟨i,u,z,h1,h2,h3,h4,h5,h6,h7,h8,h9,ub⟩:=pW hl
 unfold zeroV
 cases z with
 | agg cs =>
  have ha:l.ag=true:=by simpa [A0] using h9
  rw [if_pos ha];rfl
 | tuple cs=>simp [A0] at h9
 | _ =>
  have ha:¬ l.ag=true:=by intro ha;rw [ha] at h9;simp [A0] at h9
  rw [if_neg ha,← h7]
  simp only [sA,Value.cells,aI,aS,List.headD_cons]
  unfold ofValue
  split<;>first | rfl | (rename_i e _;cases e) | (rename_i e;cases e)
theorem Zzw {z:Array Value} {n i j:Nat} (hi:i<n) (hj:j<z.size):(Builtin.zeroCells z n).getD (i*z.size+j) undef=z.getD j undef:=by
 have bD:i*z.size+j<n*z.size:=by
  have:(i+1)*z.size≤n*z.size:=aW _ (by omega)
  rw [bH,dv] at this;omega
 simp only [Builtin.zeroCells,aj,eo,Array.getElem?_range,if_pos bD,bw,br]
 have e5:(i*z.size+j) % z.size=j:=(II hj).2
 rw [aB hj,br,getElem!_pos z _ (by rw [e5];exact hj)]
 simp only [e5]
theorem RB {t:TypeId} {l:eI} (hl:aC P t=some l) (n:Nat) {i:TypeInfo} {z:Value} (hi:P.info? t=some i) (hz:i.zero=some z):sD w M β l.sz (List.replicate n (zeroV l)) (Builtin.zeroCells z.cells n):=by
 obtain ⟨z',rH,_,rI,Jj,EK,_⟩:=Be (w:=w) (M:=M) (β:=β) hl
 obtain rfl:z=z':=by
  have:=Hl (P:=P) (w:=w) hi hz
  rw [rH] at this
  exact ((Result.ok.injEq _ _ _ _).mp this).1.symm
 have hg:∀ i,i<n→(List.replicate n (zeroV l)).getD i ae.undef=zeroV l:=fun i hi=>by simp [List.getD,hi]
 refine ⟨by rw [size_zeroCells,rI];simp,fun i hi=>?_,fun i j hi hj=>?_⟩
 ·simp only [bz] at hi
  rw [hg i hi,Ht hl];exact Jj
 ·simp only [bz] at hi
  rw [hg i hi,Ht hl]
  have:=Zzw (z:=z.cells) hi (show j<z.cells.size by omega)
  rw [rI] at this
  rw [this];exact EK j hj
theorem mJ.yM {t u ty et:TypeId} {k:IntKind} (ht:P.underlying t=some (.slice et)) (hu:P.underlying u=some (.int k)) {l:eI} (he:aC P et=some l) (ft : 0<l.sz) (Ap:l.bytes≤65536) {n:Int} (h0 : 0≤n) (h1:n≤1000000000)
  (hw:IntKind.i64.wrap n=n) {i:TypeInfo} {z:Value} (hi:P.info? et=some i) (hz:i.zero=some z):mJ P w t u ty et n.toNat (.int .i64 n) (Builtin.zeroCells z.cells n.toNat):=by
 obtain ⟨i',_,z',dR,_,NP,hs,_,hb,_,_,_,Du⟩:=pW he
 obtain rfl:=aM (dR.symm.trans hi)
 obtain rfl:=aM (NP.symm.trans hz)
 have uh:¬ ((281474976710656:Int)<n*(i'.bytes:Int)):=by
  have h2:((i'.bytes:Nat):Int)≤65536:=by omega
  have:n*(i'.bytes:Int)≤1000000000*65536:=Int.mul_le_mul h1 h2 (by omega) (by omega)
  omega
 have fM:¬ n<0:=by omega
 have nI:¬ i'.size=0:=by omega
 have BR:∀ h:n.toNat=0,Builtin.zeroCells z'.cells n.toNat = #[]:=fun h=>by rw [h];simp [Builtin.zeroCells]
 refine ⟨fun i2 z2 MX rI b n2 cap olds hold h4 h5 h6=>?_,fun i2 MX g o n2 cap w' h4 h5=>?_,fun hm b c=>?_⟩
 ·obtain rfl:=aM (MX.symm.trans hi)
  obtain rfl:=aM (rI.symm.trans hz)
  have g1:¬ n2+n.toNat≤cap:=by omega
  have Ja:=SV i2.bytes
  have g2:¬ ((9223372036854775807:Int)<(n2:Int)+(n.toNat:Int)):=by omega
  have U5:¬ ((9223372036854775807:Int)<(n2:Int)+max n 0):=by omega
  have g3:¬ (281474976710656<Builtin.nextslicecap (n2+n.toNat) cap*i2.bytes):=by
   have:=growslice_fits_wide (old:=cap) h4 (Rk h5 h6)
   omega
  have em:IntKind.i64.max=9223372036854775807:=by decide
  by_cases wP:n.toNat=0
  ·have:=BR wP
   simp [Builtin.append_,run_underlying ht,run_underlying hu,sizeOf,typeInfo,zeroValue,hi,hz,hw,fM,uh,g1,g2,U5,g3,em,asInt,asIntOf,Question.forced,hold,newRow,grownCap,nI,wP,this]
   simp only [wP,cj] at g1 g3
   have GX:Builtin.zeroCells z2.cells 0 = #[]:=by simp [Builtin.zeroCells]
   simp [g1,g3,wP,GX]
  ·simp [Builtin.append_,run_underlying ht,run_underlying hu,sizeOf,typeInfo,zeroValue,hi,hz,hw,fM,uh,g1,g2,U5,g3,em,asInt,asIntOf,Question.forced,hold,newRow,grownCap,nI,wP]
   intro h;exact absurd h (Nat.mul_ne_zero wP nI)
 ·obtain rfl:=aM (MX.symm.trans hi)
  by_cases wP:n.toNat=0
  ·have:=BR wP
   rw [this] at h5
   simp only [storeCells,Array.toList_empty,Sem.run_pure,Result.ok.injEq,true_and] at h5
   subst h5
   rw [wP,cj] at h4 ⊢
   simp [Builtin.append_,run_underlying ht,run_underlying hu,sizeOf,typeInfo,hi,hw,fM,uh,h4,asInt,asIntOf,wP,storeCells]
  ·simp [Builtin.append_,run_underlying ht,run_underlying hu,sizeOf,typeInfo,zeroValue,hi,hz,hw,fM,uh,h4,asInt,asIntOf,nI,wP,Addr.add_lit,h5]
   intro h;exact absurd h (Nat.mul_ne_zero wP nI)
 ·have wP:n.toNat=0:=hm
  obtain rfl:n=0:=by omega
  cases b<;>simp [Builtin.append_,run_underlying ht,run_underlying hu,sizeOf,typeInfo,hi,hw,asInt,asIntOf,storeCells]
end
section
variable {P:Program} {X:Nat→Nat→Prop} {base:Nat} {σ:ai} {β:Env} {w:World} {nm:Nat} {M:Nat→Nat→Prop}
def nT (m:Nat):ae→ae
 | .ps s es=>.ps s (es.take m)
 | .os b off n s=>.os b off (min m n) s
 | .oc b off n c s=>.oc b off (min m n) c s
 | a=>a
theorem ZV {v:Value} {x:ae} {sz:Nat} {xs:List ae} (hv:bR w M β v x) (h:eM σ sz x=some xs) (m:Nat):∃ a n c,v = .slice a n c∧n=xs.length∧bR w M β (.slice a (min m n) c) (nT m x)∧eM σ sz (nT m x)=some (xs.take m):=by
 unfold eM at h
 split at h
 ·rename_i s es
  split at h
  ·rename_i e
   cases h
   cases hv with
   | @ps a cap _ _ cv jf ft hc ha Nw =>
    refine ⟨_,_,_,rfl,rfl,?_,by simp [nT,eM,e]⟩
    have hl:(xs.take m).length=min m xs.length:=cW
    have hg:∀ i,i<(xs.take m).length→(xs.take m).getD i ae.undef=xs.getD i .undef:=fun i hi=>by
     rw [hl] at hi
     simp [List.getD,show i<m by omega]
    rw [← hl]
    exact .ps cv (by omega) (fun i hi=>by rw [hg i hi];exact ft i (by omega)) (fun i j hi hj=>hc i j (by omega) hj) (fun h0=>ha (by omega)) (fun i j hi hj=>by rw [hg i hi];exact Nw i j (by omega) hj)
  ·cases h
 ·cases h
  cases hv with
  | aU a=>exact ⟨_,_,_,rfl,rfl,by rw [Nat.min_zero];exact .aU a,by simp [nT,eM]⟩
 ·rename_i b off n s
  split at h
  ·rename_i e
   split at h
   ·rename_i es fz hb
    split at h
    ·rename_i hle
     cases h
     have hlen:((es.drop off).take n).length=n:=by simp;omega
     have iS:eM σ sz (nT m (.os b off n s))=some (((es.drop off).take n).take m):=by
      simp only [nT,eM,e,if_true,hb]
      rw [if_pos (by omega),qz]
     cases hv with
     | sv a hL=>exact ⟨_,_,_,rfl,hlen.symm,by simp only [nT,Nat.min_zero];exact .sv a hL,iS⟩
     | os hL hl hc=>exact ⟨_,_,_,rfl,hlen.symm, .os hL (by omega) hc,iS⟩
    ·cases h
   ·cases h
  ·cases h
 ·rename_i b off n c s
  split at h
  ·rename_i e
   split at h
   ·rename_i es fz hb
    split at h
    ·rename_i hle
     cases h
     have hlen:((es.drop off).take n).length=n:=by simp;omega
     have iS:eM σ sz (nT m (.oc b off n c s))=some (((es.drop off).take n).take m):=by
      simp only [nT,eM,e,if_true,hb]
      rw [if_pos (by omega),qz]
     cases hv with
     | su a hL=>exact ⟨_,_,_,rfl,hlen.symm,by simp only [nT,Nat.min_zero];exact .su a hL,iS⟩
     | oc hL hl hc=>exact ⟨_,_,_,rfl,hlen.symm, .oc hL (by omega) hc,iS⟩
    ·cases h
   ·cases h
  ·cases h
 ·cases h
theorem Ys7 {v:Value} {s:ae} {b off n sz:Nat} (h:bR w M β v s) (hs:s = .os b off n sz∨∃ c,s = .oc b off n c sz):∃ L c,β b=some L∧L.sz=sz∧((n=0∧∃ a,v = .slice a 0 c)∨v = .slice (some ⟨L.g,L.o+off*L.sz,none⟩) n c):=by
 rcases hs with rfl | ⟨c,rfl⟩
 ·rcases h.rj with ⟨rfl,a,L,hL,ju,rfl⟩ | ⟨L,c,hL,ju,_,_,rfl⟩
  ·exact ⟨L,_,hL,ju, .inl ⟨rfl,a,rfl⟩⟩
  ·exact ⟨L,_,hL,ju, .inr rfl⟩
 ·rcases h.sV with ⟨rfl,rfl,a,L,hL,ju,rfl⟩ | ⟨L,hL,ju,_,_,rfl⟩
  ·exact ⟨L,_,hL,ju, .inl ⟨rfl,a,rfl⟩⟩
  ·exact ⟨L,_,hL,ju, .inr rfl⟩
theorem Sn (hr:cF X base σ β w) {vs:Value} {s:ae} {sz:Nat} {xs:List ae} {news:Array Value} (hs:bR w (MT X σ β) β vs s) (hx:sD w (MT X σ β) β sz xs news) {σ':ai} (h:kh σ sz s xs=some σ')
  {S:Sem Next} {v:Value} {r:ae} (eO:∀ w',(∃ a n c,vs = .slice a n c∧((match a with | some a=>storeCells a news.toList | none=>pure ()):Sem Unit).run P w = .ok () w')→S.run P w = .ok (.value v) w') (hv:∀ (w':World) (M':Nat→Nat→Prop),bR w' M' β v r):cO P X base σ β w nm S r σ':=by
 obtain ⟨b,off,n,GM,es,fz,hb,hc,rfl⟩:∃ b off n,(s = .os b off n sz∨∃ c,s = .oc b off n c sz)∧∃ es fz,bF σ b=some (.row es fz)∧(0<sz∧fz≤off∧xs.length≤n∧off+n≤es.length∧xs.all (fun x=>x.cells.length==sz&&x.cells.all ae.cI)=true)∧b_ σ b (.row (cr es off xs) fz) = σ':=by
  unfold kh at h
  split at h
  ·rename_i b off n c xc
   split at h
   ·rename_i es fz hb
    split at h
    ·rename_i hc
     obtain ⟨rfl,hc⟩:=hc
     cases h;exact ⟨_,_,_, .inr ⟨_,rfl⟩,_,_,hb,hc,rfl⟩
    ·cases h
   ·cases h
  ·rename_i b off n xc
   split at h
   ·rename_i es fz hb
    split at h
    ·rename_i hc
     obtain ⟨rfl,hc⟩:=hc
     cases h;exact ⟨_,_,_, .inl rfl,_,_,hb,hc,rfl⟩
    ·cases h
   ·cases h
  ·cases h
 obtain ⟨h0,h1,h2,h3,h4⟩:=hc
 have qi:∀ v∈news.toList,v.oneCell'=true:=hx.DH fun x sl=>by
  have:=bp.1 h4 x sl
  simp only [aD] at this
  exact this.2
 obtain ⟨L,c,hL,ju,me⟩:=Ys7 hs GM
 rcases me with ⟨hn,a,me⟩ | me
 ·have Dr:xs=[]:=aY (by omega)
  subst Dr
  have xv:news = #[]:=lz (by rw [hx.size];simp)
  rw [Qk,KG hb]
  refine cO.val hr (v:=v) (eO w ⟨a,0,c,me,?_⟩) (hv _ _)
  subst xv
  cases a<;>simp [storeCells]
 ·subst ju
  refine Ub hr hb hL h1 (by omega) hx (v:=v) (fun cc ec g2 g3=>eO _ ⟨_,n,c,me,?_⟩) hv
  have EC:=hx.size
  rw [bH] at g3
  have fP:=run_storeCells_at P L.g (L.o+off*L.sz) ec news.toList 0 cc w g2 (by simp only [cj,bA];omega) qi
  simp only [cj] at fP
  exact fP
theorem TD {v:Value} {s:ae} {n:Nat} (h:bR w M β v s) (hn:km s=some n):∃ a c,v = .slice a n c:=by
 unfold km at hn
 split at hn<;>cases hn
 ·cases h;exact ⟨_,_,rfl⟩
 ·cases h<;>exact ⟨_,_,rfl⟩
 ·cases h<;>exact ⟨_,_,rfl⟩
 ·cases h;exact ⟨_,_,rfl⟩
theorem YA (hr:cF X base σ β w) {t et:TypeId} (ht:P.underlying t=some (.slice et)) {e:eI} (he:aC P et=some e) {vs:Value} {s:ae} (hs:bR w (MT X σ β) β vs s) {n:Nat} (hn:km s=some n) {r:ae} {σ':ai}
  (h:(if n=0 then some (ae.dy [],σ) else (kh σ e.sz s (List.replicate n (zeroV e))).map (ae.dy [], ·))=some (r,σ')) (ty:TypeId) {S:Sem Next} (hS:S=(do pure (.value (← Builtin.clear_ #[t] ty #[vs])))):cO P X base σ β w nm S r σ':=by
 have vE:∀ (w':World) (M':Nat→Nat→Prop),bR w' M' β (.tuple #[]) (.dy []):=fun w' M'=>.dy rfl fun k hk=>by simp at hk
 obtain ⟨a,c,me⟩:=TD hs hn
 split at h
 ·rename_i h0
  cases h
  subst h0
  refine cO.val hr (v:=.tuple #[]) ?_ (vE _ _)
  rw [hS,me]
  cases a<;>simp [Builtin.clear_,run_underlying ht]
 ·rename_i h0
  obtain ⟨dh,h1,h2⟩:=aG.1 h
  cases h2
  obtain ⟨i,_,z,hi,_,hz,_⟩:=pW he
  refine Sn hr hs (RB he n hi hz) h1 (v:=.tuple #[]) (fun w' w6=>?_) vE
  obtain ⟨a',n',c',e1,e2⟩:=w6
  rw [me] at e1
  cases e1
  rw [hS,me]
  cases a with
  | none =>
   simp only [Sem.run_pure,Result.ok.injEq,true_and] at e2
   subst e2
   simp [Builtin.clear_,run_underlying ht]
  | some a =>
   simp only at e2
   have xv:n≠0:=h0
   have e3:=e2
   obtain ⟨m,rfl⟩:∃ m,n=m+1:=⟨n - 1,by omega⟩
   simp [Builtin.clear_,run_underlying ht,Hl hi hz,e2]
theorem Ymr (hr:cF X base σ β w) {t u et:TypeId} (ht:P.underlying t=some (.slice et)) {e:eI} (he:aC P et=some e) {vs vx:Value} {s x:ae} (hs:bR w (MT X σ β) β vs s) (hx:bR w (MT X σ β) β vx x) {n:Nat} (hn:km s=some n)
  {xs:List ae} (wj:eM σ e.sz x=some xs) {r:ae} {σ':ai} (h:(kh σ e.sz s (xs.take n)).map (ae.int .i64 ((xs.take n).length:Int), ·)=some (r,σ')) (ty:TypeId) {S:Sem Next} (hS:S=(do pure (.value (← Builtin.copy_ #[t,u] ty #[vs,vx])))):cO P X base σ β w nm S r σ':=by
 obtain ⟨a,c,me⟩:=TD hs hn
 obtain ⟨dh,h1,h2⟩:=aG.1 h
 cases h2
 obtain ⟨i,_,z,hi,_,hz,ft,_⟩:=pW he
 obtain ⟨b,m,d,rfl,hm,EI,hx3⟩:=ZV hx wj n
 obtain ⟨news,nJ⟩:=HB (P:=P) hr EI hx3
 refine Sn hr hs nJ.N_ h1 (v:=.int .i64 ((xs.take n).length:Int)) (fun w' w6=>?_) fun w' M'=>.int _ _
 obtain ⟨a',n',c',e1,e2⟩:=w6
 rw [me] at e1
 cases e1
 have hl:(xs.take n).length=min m n:=by rw [cW,hm,Nat.min_comm]
 have hf:=nJ.cells w rfl
 rw [hl] at hf
 have nU:(Builtin.firstCells i.size (min m n) (.slice b m d)).run P w = .ok news w:=by
  rw [ft]
  cases b<;>exact hf
 rw [hS,me,hl]
 cases a with
 | none =>
  simp only [Sem.run_pure,Result.ok.injEq,true_and] at e2
  subst e2
  simp [Builtin.copy_,run_underlying ht,tF hi,Builtin.lenOf,nU,goInt]
 | some a =>
  simp only at e2
  simp [Builtin.copy_,run_underlying ht,tF hi,Builtin.lenOf,nU,goInt,e2]
theorem ZQ {v:Value} {x:ae} {n:Nat} (hx:bR w M β v x) (h2:ve x=some n):∃ a m,v = .slice a m n:=by
 unfold ve at h2
 split at h2<;>cases h2
 ·cases hx with | aU a=>exact ⟨_,_,rfl⟩
 ·cases hx<;>exact ⟨_,_,rfl⟩
theorem Zzc {e:eI} {s:ae} {xs:List ae} {x:ae×ai} (h:ef σ nm e s xs=some x) : 0<e.sz∧e.bytes≤65536:=by
 unfold ef nx l5 at h
 split at h
 ·split at h
  ·rename_i hc;exact ⟨hc.2.1,hc.2.2.1⟩
  ·cases h
 ·split at h
  ·rename_i hc;exact ⟨hc.2.1,hc.2.2.1⟩
  ·cases h
end
end Go.cV
