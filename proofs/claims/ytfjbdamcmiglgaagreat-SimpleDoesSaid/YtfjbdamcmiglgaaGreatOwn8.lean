/- Part 8 of what the claim rests on. -/
import Derived.Test.YtfjbdamcmiglgaaGreatOwn7
set_option linter.all false
abbrev bN:=@List.length_take
abbrev aR:=@List.map_nil
abbrev j7:=@List.take_take
namespace Go.dq
open Go
section
variable {P:Program}{X:Nat->Nat->Prop}{base:Nat}{σ:av}{β:Env}{w:World}{nm:Nat}{M:Nat->Nat->Prop}
theorem Zc (hr:c8 X base σ β w) {b p fz:Nat} {es xs:List ah} (hb:bW σ b=some (.row es fz)) {L:Loc} (hL : β b=some L) (Hl:fz<=p) (hp:p+xs.length<=es.length)
  {news:Array Value} (hx:vt w (MT X σ β) β L.sz xs news) {s:Sem Next} {v:Value} {r:ah}
  (fE:∀c e,w.heap[L.g]? = some (.cells c e (0,0))->L.o+(p+xs.length)*L.sz<=c.size->s.run P w=.ok (.value v) (w.setRow L.g (c.toList.take (L.o+p*L.sz)++news.toList++c.toList.drop (L.o+p*L.sz+news.toList.length)).toArray))
  (sU:∀(w':World) (M':Nat->Nat->Prop),cn w' M' β v r):dh P X base σ β w nm s r (cJ σ b (.row (cO es p xs) fz)):=by
 obtain⟨L',h1,h2b,h2x,c,e,h2,h3,h4,h5,h6⟩:=hr.cG b _ (la hb);obtain rfl:=aS (hL.symm.trans h1);have yy:(p+xs.length)*L.sz<=L.n*L.sz:=aZ _ (by omega);have Mx:=yy;rw[bY]at Mx;have Hr:=hx.size;have qC:L.o+p*L.sz+news.toList.length<=c.size:=by simp only[bR];omega
 have apM:fz*L.sz<=p*L.sz:=aZ _ Hl;have RV:=fE c e h2 (by omega);obtain⟨f1,f2,f3,f4,f5,f6⟩:=Kz w (c':=(c.toList.take (L.o+p*L.sz)++news.toList++c.toList.drop (L.o+p*L.sz+news.toList.length)).toArray) h2;refine ES (mf:=.row (cO es p xs) fz) hr (la hb) h1 f1 f2 f3 f4 (λg hg=>f5 g hg) (λoff v gM hn=>?_) (λhn=>absurd (ae _) (hn _)) (λ_ hm=>hm) (.inl RV) (λM' hk=>?_) (λM' _=>sU _ M')
 ·simp only[bS.mut,Nat.not_le]at hn;rw[cell_of_row _ _ _ _ _ _ f6];rw[cell_of_row _ _ _ _ _ _ h2]at gM;obtain⟨bx,hv⟩:=aQ.1 gM;rw[wm (by rw[EH _ _ _ qC];exact bx),EI _ _ _ qC,if_neg (by omega),<-wm bx];exact gM
 ·have uF:∀j,(cO es p xs).getD j .undef=if p<=j/\j<p+xs.length/\j<es.length then xs.getD (j-p) .undef else es.getD j .undef:=HP es p xs
  refine⟨_,e,f6,?_,by simpa[xc] using h4,λj hj=>?_,λj q hj hq=>?_⟩
  ·rw[EH _ _ _ qC];exact h3
  ·rw[xc]at hj;rw[uF];split
   ·rename_i hc;exact hx.one _ (by omega)
   ·exact h5 j hj
  ·rw [xc]at hj;rw[EI _ _ _ qC,uF];simp only[bR];by_cases fA:p<=j/\j<p+xs.length
   ·have h7:p*L.sz<=j*L.sz:=aZ _ fA.1;have h8:(j-p+1)*L.sz<=xs.length*L.sz:=aZ _ (by omega);rw[bY,dX,lH]at h8;rw[if_pos (by omega),if_pos ⟨fA.1,fA.2,hj⟩];have:=hx.rep (j-p) q (by omega) hq;rw[lH]at this;rw[show news.toList.getD (L.o+j*L.sz+q-(L.o+p*L.sz)) undef=news.getD (L.o+j*L.sz+q-(L.o+p*L.sz)) undef by simp[List.getD,au],
     show L.o+j*L.sz+q-(L.o+p*L.sz)=j*L.sz-p*L.sz+q by omega]
    exact this.mono hk λ_ _ h=>h
   ·have za:¬(L.o+p*L.sz<=L.o+j*L.sz+q/\L.o+j*L.sz+q<L.o+p*L.sz+news.size):=by
     rintro⟨a1,a2⟩;by_cases e1:j<p
     ·have:(j+1)*L.sz<=p*L.sz:=aZ _ e1;rw[bY,dX]at this;omega
     ·have:(p+xs.length)*L.sz<=j*L.sz:=aZ _ (by omega);rw[bY]at this;omega
    rw[if_neg za,if_neg (by omega)];exact(h6 j q hj hq).mono hk λ_ _ h=>h
theorem Ow {b:Nat}{x:bS}(h:bW σ b=some x):cJ σ b x = σ:=by
 have h':=la h;have bx:b < σ.length:=(aN.1 h').1;unfold cJ;rw[if_pos bx];apply bZ;intro i;rw[eA];by_cases e:b=i
 ·subst e;rw[if_pos rfl,if_pos bx,h']
 ·rw[if_neg e]
theorem cn.vQ {v:Value} {b off n c sz:Nat} (h:cn w M β v (.oc b off n c sz)):(n=0/\c=0/\∃a L,β b=some L/\L.sz=sz/\v=.slice a 0 0) \/
  ∃L,β b=some L/\L.sz=sz/\n<=c/\off+c<=L.n/\v=.slice (some ⟨L.g,L.o+off*L.sz,none⟩) n c:=by
 cases h with
 |ve a h=>exact .inl ⟨rfl,rfl,a,_,h,rfl,rfl⟩
 |oc h1 h2 h3=>exact .inr ⟨_,h1,rfl,h2,h3,rfl⟩
theorem VA (es:List ah)(p:Nat):cO es p []=es:=rfl
theorem Zxi (hr:c8 X base σ β w) (hn : β nm=none) {t u et:TypeId} {e:fL} (he:cC P et=some e) {vs vx:Value} {b off n c sz:Nat} {xs:List ah} {news:Array Value} (hs:cn w (MT X σ β) β vs (.oc b off n c sz)) (hx:vt w (MT X σ β) β e.sz xs news)
  {r:ah} {σ':av} (h:o9 σ nm e b off n c sz xs=some (r,σ')) (ty:TypeId) (ha:oC P w t u ty et xs.length vx news) {S:Sem Next} (hS:S=(do pure (.value (<-Builtin.append_ #[t,u] ty #[vs,vx])))):dh P X base σ β w nm S r σ':=by
 obtain⟨i,_,z,hi,_,hz,eM,_,C5,_,_,_,F5⟩:=rS he;unfold o9 at h;split at h
 case isFalse=>cases h
 rename_i hc;obtain⟨uu,lS,C6,hc4⟩:=hc;split at h
 ·rename_i es fz hb;split at h
  ·rename_i mj;obtain⟨rfl,QZ⟩:=mj;split at h
   ·rename_i uZ;split at h
    ·rename_i hf;obtain⟨xI,p9⟩:=hf;cases h;rcases hs.vQ with⟨rfl,rfl,a,L,hL,ko,rfl⟩|⟨L,hL,ko,hl,Ja,rfl⟩
     ·have h0:xs.length=0:=by omega
      have F1:xs=[]:=bn h0;subst F1;rw[VA,Ow hb];refine dh.val hr (v:=.slice a 0 0) ?_ (by rw[<-ko];exact .ve a hL);rw[hS,Sem.run_bind,ha.none rfl];rfl
     ·have sG:∀v∈news.toList,v.oneCell'=true:=hx.Gj λx u9=>by
       have:=bu.1 uu x u9;simp only[aG]at this;exact this.2
      refine Zc hr hb hL xI p9 (by rw[ko];exact hx) (v:=.slice (some ⟨L.g,L.o+off*L.sz,none⟩) (n+xs.length) c) (λcc ec h2 h3=>?_) λw' M'=>by rw[<-ko];exact .oc hL uZ Ja
      have Hr:=hx.size;rw[<-ko]at Hr;rw[bY]at h3;have gE:=run_storeCells_at P L.g (L.o+(off+n)*L.sz) ec news.toList 0 cc w h2 (by simp only[cF,bR];omega) sG;simp only[cF]at gE;rw[hS,Sem.run_bind,ha.inn i hi uZ (by rw[eM,<-ko,fY,<-bY];exact gE)];rfl
    ·cases h
   ·rename_i uZ;split at h
    ·rename_i wP;cases h;obtain⟨L,h1,wO,hX,cc,ec,h2,h3,h4,h5,h6⟩:=hr.cG b _ (la hb);have hlen:((es.drop off).take n).length=n:=by simp;omega
     have fc:∀k,k<n->((es.drop off).take n).getD k ah.undef=es.getD (off+k) .undef:=λk hk=>by
      simp[List.getD,hk,dZ]
     have grow:∀(a:Option Addr) (olds:Array Value),vs=.slice a n c->(∀w':World,w'.heap=w.heap->(Builtin.firstCells i.size n (.slice a n c)).run P w'=.ok olds w') ->
       olds.size=n*e.sz->(∀k j,k<n->j<e.sz->cn w (MT X σ β) β (olds.getD (k*e.sz+j) undef) ((es.getD (off+k) .undef).cells.getD j .undef))->(∀k,k<n->(es.getD (off+k) .undef).cells.length=e.sz) ->
       dh P X base σ β w nm S (.os nm 0 (n+xs.length) e.sz) (cJ σ nm (.row ((es.drop off).take n++xs) 0)):=by
      intro a olds nS hold A5 A4 sG;have uF:=grownCap_ge w (n+xs.length) c et;have fE:=ha.grow i z hi hz (hold w.drew rfl) (by omega) (by first | (rw[<-C5];omega) | (rw[C5];omega)) (by omega)
      refine BS hr hn (.row ((es.drop off).take n++xs) 0) (grownCap w (n+xs.length) c et) e.sz (w':=w.drew.alloc (.cells (olds++news++Builtin.zeroCells z.cells (grownCap w (n+xs.length) c et-(n+xs.length))) et)) rfl rfl rfl rfl (by rw[hS,nS,Sem.run_bind,fE];rfl) ?_ ?_
      ·intro M' β' hk hβ;refine OV (w:=w) (M:=MT X σ β) (β:=β) (z:=z) F5 (nV:=(es.drop off).take n) (rI:=xs) (olds:=olds) (news:=news) (by rw[hlen];exact A5) hx.size ?_ hx.one ?_ hx.rep hlen rfl uF hk hβ (Aa w.drew _) _
       ·intro k hk;rw[hlen]at hk;rw[fc k hk];exact sG k hk
       ·intro k j hk hj;rw[hlen]at hk;rw[fc k hk];exact A4 k j hk hj
      ·intro M';have:=cn.os (w:=w.drew.alloc (.cells (olds++news++Builtin.zeroCells z.cells (grownCap w (n+xs.length) c et-(n+xs.length))) et)) (M:=M') (β:=qM β nm ⟨w.heap.size,0,grownCap w (n+xs.length) c et,e.sz⟩) (b:=nm) (off:=0) (len:=n+xs.length) (cap:=grownCap w (n+xs.length) c et) (L:=⟨w.heap.size,0,grownCap w (n+xs.length) c et,e.sz⟩) (wv _ _ _) uF (by simp);simpa using this
     obtain⟨olds,pv⟩:=KQ (P:=P) hr (sz:=e.sz) (v:=vs) (x:=.oc b off n c e.sz) (xs:=(es.drop off).take n) hs (by simp[fO,hb,QZ]);have hv:∃a,vs=.slice a n c/\(0<n->L.sz=e.sz):=by
      rcases hs.vQ with⟨rfl,rfl,a,L',hL,ko,rfl⟩|⟨L',hL,ko,hl,Ja,rfl⟩
      ·exact⟨_,rfl,λh=>absurd h (by omega)⟩
      ·obtain rfl:=aS (h1.symm.trans hL);exact⟨_,rfl,λ_=>ko⟩
     obtain⟨a,Hx,ko⟩:=hv;refine grow a olds Hx (λw' zo=>?_) ?_ (λk j hk hj=>?_) (λk hk=>by rw[<-ko (by omega)];exact h5 _ (by omega))
     ·have:=pv.cells w' zo;rw[hlen]at this;rw[eM,<-Hx];exact this
     ·have:=pv.size;rw[hlen]at this;exact this
     ·have:=pv.rep k j (by omega) (by omega);rw[fc k hk]at this;exact this
    ·cases h
  ·cases h
 ·cases h
theorem Ny (hr:c8 X base σ β w) (hn : β nm=none) (AP:bW σ nm=none) {t u et:TypeId} {e:fL} (he:cC P et=some e) {vs vx:Value} {s:ah} {xs:List ah} {news:Array Value} (hs:cn w (MT X σ β) β vs s) (hx:vt w (MT X σ β) β e.sz xs news)
  {r:ah} {σ':av} (h:fm σ nm e s xs=some (r,σ')) (ty:TypeId) (ha:oC P w t u ty et xs.length vx news) {S:Sem Next} (hS:S=(do pure (.value (<-Builtin.append_ #[t,u] ty #[vs,vx])))):dh P X base σ β w nm S r σ':=by
 unfold fm at h;split at h
 ·exact Zxi hr hn he hs hx h ty ha hS
 ·exact Yd4 hr hn AP he hs hx h ty ha hS
theorem KG {t:TypeId} {l:fL} (hl:cC P t=some l):(zeroV l).cells=l.zero:=by
 obtain⟨i,u,z,h1,h2,h3,h4,h5,h6,h7,h8,h9,wL⟩:=rS hl;unfold zeroV;cases z with
 |agg cs =>
  have ha:l.ag=true:=by simpa[Dz] using h9
  rw[if_pos ha];rfl
 |tuple cs=>simp[Dz]at h9
 |_ =>
  have ha:¬l.ag=true:=by intro ha;rw[ha]at h9;simp[Dz]at h9
  rw[if_neg ha,<-h7];simp only[vo,Value.cells,aI,aR,List.headD_cons];unfold ofValue;split<;>first|rfl | (rename_i e _;cases e) | (rename_i e;cases e)
theorem Ybx {z:Array Value} {n i j:Nat} (hi:i<n) (hj:j<z.size):(Builtin.zeroCells z n).getD (i*z.size+j) undef=z.getD j undef:=by
 have bx:i*z.size+j<n*z.size:=by
  have:(i+1)*z.size<=n*z.size:=aZ _ (by omega);rw[bY,dX]at this;omega
 simp only[Builtin.zeroCells,au,fg,Array.getElem?_range,if_pos bx,bD,bd];have e5:(i*z.size+j) % z.size=j:=(Mc hj).2;rw[aE hj,bd,getElem!_pos z _ (by rw[e5];exact hj)];simp only[e5]
theorem Ya {t:TypeId} {l:fL} (hl:cC P t=some l) (n:Nat) {i:TypeInfo} {z:Value} (hi:P.info? t=some i) (hz:i.zero=some z):vt w M β l.sz (List.replicate n (zeroV l)) (Builtin.zeroCells z.cells n):=by
 obtain⟨z',rY,_,rE,MO,HA,_⟩:=DM (w:=w) (M:=M) (β:=β) hl;obtain rfl:z=z':=by
  have:=Ky (P:=P) (w:=w) hi hz;rw[rY]at this;exact((Result.ok.injEq _ _ _ _).mp this).1.symm
 have hg:∀i,i<n->(List.replicate n (zeroV l)).getD i ah.undef=zeroV l:=λi hi=>by simp[List.getD,hi]
 refine⟨by rw[size_zeroCells,rE];simp,λi hi=>?_,λi j hi hj=>?_⟩
 ·simp only[bJ]at hi;rw[hg i hi,KG hl];exact MO
 ·simp only[bJ]at hi;rw[hg i hi,KG hl];have:=Ybx (z:=z.cells) hi (show j<z.cells.size by omega);rw[rE]at this;rw[this];exact HA j hj
theorem oC.Bo {t u ty et:TypeId} {k:IntKind} (ht:P.underlying t=some (.slice et)) (hu:P.underlying u=some (.int k)) {l:fL} (he:cC P et=some l) (eM : 0<l.sz) (C5:l.bytes<=65536) {n:Int} (h0 : 0<=n) (h1:n<=1000000000)
  (hw:IntKind.i64.wrap n=n) {i:TypeInfo} {z:Value} (hi:P.info? et=some i) (hz:i.zero=some z):oC P w t u ty et n.toNat (.int .i64 n) (Builtin.zeroCells z.cells n.toNat):=by
 obtain⟨i',_,z',dm,_,Sc,hs,_,hb,_,_,_,F5⟩:=rS he;obtain rfl:=aS (dm.symm.trans hi);obtain rfl:=aS (Sc.symm.trans hz);have wP:¬((281474976710656:Int)<n*(i'.bytes:Int)):=by
  have h2:((i'.bytes:Nat):Int)<=65536:=by omega
  have:n*(i'.bytes:Int)<=1000000000*65536:=Int.mul_le_mul h1 h2 (by omega) (by omega);omega
 have dP:¬n<0:=by omega
 have lJ:¬i'.size=0:=by omega
 have Eu:∀h:n.toNat=0,Builtin.zeroCells z'.cells n.toNat = #[]:=λh=>by rw[h];simp[Builtin.zeroCells]
 refine⟨λi2 z2 Rm rE b n2 cap olds hold h4 h5 h6=>?_,λi2 Rm g o n2 cap w' h4 h5=>?_,λhm b c=>?_⟩
 ·obtain rfl:=aS (Rm.symm.trans hi);obtain rfl:=aS (rE.symm.trans hz);have g1:¬n2+n.toNat<=cap:=by omega
  have Mz:=XD i2.bytes;have g2:¬((9223372036854775807:Int)<(n2:Int)+(n.toNat:Int)):=by omega
  have ZN:¬((9223372036854775807:Int)<(n2:Int)+max n 0):=by omega
  have g3:¬(281474976710656<Builtin.nextslicecap (n2+n.toNat) cap*i2.bytes):=by
   have:=growslice_fits_wide (old:=cap) h4 (Wj h5 h6);omega
  have em:IntKind.i64.max=9223372036854775807:=by decide
  by_cases y6:n.toNat=0
  ·have:=Eu y6;simp[Builtin.append_,run_underlying ht,run_underlying hu,sizeOf,typeInfo,zeroValue,hi,hz,hw,dP,wP,g1,g2,ZN,g3,em,asInt,asIntOf,Question.forced,hold,newRow,grownCap,lJ,y6,this];simp only[y6,cF]at g1 g3;have F3:Builtin.zeroCells z2.cells 0 = #[]:=by simp[Builtin.zeroCells]
   simp[g1,g3,y6,F3]
  ·simp[Builtin.append_,run_underlying ht,run_underlying hu,sizeOf,typeInfo,zeroValue,hi,hz,hw,dP,wP,g1,g2,ZN,g3,em,asInt,asIntOf,Question.forced,hold,newRow,grownCap,lJ,y6];intro h;exact absurd h (Nat.mul_ne_zero y6 lJ)
 ·obtain rfl:=aS (Rm.symm.trans hi);by_cases y6:n.toNat=0
  ·have:=Eu y6;rw[this]at h5;simp only[storeCells,Array.toList_empty,Sem.run_pure,Result.ok.injEq,true_and]at h5;subst h5;rw[y6,cF]at h4 ⊢;simp[Builtin.append_,run_underlying ht,run_underlying hu,sizeOf,typeInfo,hi,hw,dP,wP,h4,asInt,asIntOf,y6,storeCells]
  ·simp[Builtin.append_,run_underlying ht,run_underlying hu,sizeOf,typeInfo,zeroValue,hi,hz,hw,dP,wP,h4,asInt,asIntOf,lJ,y6,Addr.add_lit,h5];intro h;exact absurd h (Nat.mul_ne_zero y6 lJ)
 ·have y6:n.toNat=0:=hm;obtain rfl:n=0:=by omega
  cases b<;>simp[Builtin.append_,run_underlying ht,run_underlying hu,sizeOf,typeInfo,hi,hw,asInt,asIntOf,storeCells]
end
section
variable {P:Program}{X:Nat->Nat->Prop}{base:Nat}{σ:av}{β:Env}{w:World}{nm:Nat}{M:Nat->Nat->Prop}
def pF (m:Nat):ah->ah
 |.ps s es=>.ps s (es.take m)
 |.os b off n s=>.os b off (min m n) s
 |.oc b off n c s=>.oc b off (min m n) c s
 |a=>a
theorem Ypf {v:Value} {x:ah} {sz:Nat} {xs:List ah} (hv:cn w M β v x) (h:fO σ sz x=some xs) (m:Nat):∃a n c,v=.slice a n c/\n=xs.length/\cn w M β (.slice a (min m n) c) (pF m x)/\fO σ sz (pF m x)=some (xs.take m):=by
 unfold fO at h;split at h
 ·rename_i s es;split at h
  ·rename_i e;cases h;cases hv with
   | @ps a cap _ _ cv j8 eM hc ha JQ =>
    refine⟨_,_,_,rfl,rfl,?_,by simp[pF,fO,e]⟩;have hl:(xs.take m).length=min m xs.length:=bN;have hg:∀i,i<(xs.take m).length->(xs.take m).getD i ah.undef=xs.getD i .undef:=λi hi=>by
     rw[hl]at hi;simp[List.getD,show i<m by omega]
    rw[<-hl];exact .ps cv (by omega) (λi hi=>by rw[hg i hi];exact eM i (by omega)) (λi j hi hj=>hc i j (by omega) hj) (λh0=>ha (by omega)) (λi j hi hj=>by rw[hg i hi];exact JQ i j (by omega) hj)
  ·cases h
 ·cases h;cases hv with
  |a8 a=>exact⟨_,_,_,rfl,rfl,by rw[Nat.min_zero];exact .a8 a,by simp[pF,fO]⟩
 ·rename_i b off n s;split at h
  ·rename_i e;split at h
   ·rename_i es fz hb;split at h
    ·rename_i hle;cases h;have hlen:((es.drop off).take n).length=n:=by simp;omega
     have jD:fO σ sz (pF m (.os b off n s))=some (((es.drop off).take n).take m):=by
      simp only[pF,fO,e,if_true,hb];rw[if_pos (by omega),j7]
     cases hv with
     |vg a hL=>exact⟨_,_,_,rfl,hlen.symm,by simp only[pF,Nat.min_zero];exact .vg a hL,jD⟩
     |os hL hl hc=>exact⟨_,_,_,rfl,hlen.symm,.os hL (by omega) hc,jD⟩
    ·cases h
   ·cases h
  ·cases h
 ·rename_i b off n c s;split at h
  ·rename_i e;split at h
   ·rename_i es fz hb;split at h
    ·rename_i hle;cases h;have hlen:((es.drop off).take n).length=n:=by simp;omega
     have jD:fO σ sz (pF m (.oc b off n c s))=some (((es.drop off).take n).take m):=by
      simp only[pF,fO,e,if_true,hb];rw[if_pos (by omega),j7]
     cases hv with
     |ve a hL=>exact⟨_,_,_,rfl,hlen.symm,by simp only[pF,Nat.min_zero];exact .ve a hL,jD⟩
     |oc hL hl hc=>exact⟨_,_,_,rfl,hlen.symm,.oc hL (by omega) hc,jD⟩
    ·cases h
   ·cases h
  ·cases h
 ·cases h
theorem Yre {v:Value} {s:ah} {b off n sz:Nat} (h:cn w M β v s) (hs:s=.os b off n sz\/∃c,s=.oc b off n c sz):∃L c,β b=some L/\L.sz=sz/\((n=0/\∃a,v=.slice a 0 c)\/v=.slice (some ⟨L.g,L.o+off*L.sz,none⟩) n c):=by
 rcases hs with rfl|⟨c,rfl⟩
 ·rcases h.tV with⟨rfl,a,L,hL,ko,rfl⟩|⟨L,c,hL,ko,_,_,rfl⟩
  ·exact⟨L,_,hL,ko,.inl ⟨rfl,a,rfl⟩⟩
  ·exact⟨L,_,hL,ko,.inr rfl⟩
 ·rcases h.vQ with⟨rfl,rfl,a,L,hL,ko,rfl⟩|⟨L,hL,ko,_,_,rfl⟩
  ·exact⟨L,_,hL,ko,.inl ⟨rfl,a,rfl⟩⟩
  ·exact⟨L,_,hL,ko,.inr rfl⟩
theorem Xw (hr:c8 X base σ β w) {vs:Value} {s:ah} {sz:Nat} {xs:List ah} {news:Array Value} (hs:cn w (MT X σ β) β vs s) (hx:vt w (MT X σ β) β sz xs news) {σ':av} (h:lK σ sz s xs=some σ')
  {S:Sem Next} {v:Value} {r:ah} (fE:∀w',(∃a n c,vs=.slice a n c/\((match a with|some a=>storeCells a news.toList|none=>pure ()):Sem Unit).run P w=.ok () w')->S.run P w=.ok (.value v) w') (hv:∀(w':World) (M':Nat->Nat->Prop),cn w' M' β v r):dh P X base σ β w nm S r σ':=by
 obtain ⟨b,off,n,JT,es,fz,hb,hc,rfl⟩:∃b off n,(s=.os b off n sz\/∃c,s=.oc b off n c sz)/\∃es fz,bW σ b=some (.row es fz)/\(0<sz/\fz<=off/\xs.length<=n/\off+n<=es.length/\xs.all (λx=>x.cells.length==sz&&x.cells.all ah.dy)=true)/\cJ σ b (.row (cO es off xs) fz) = σ':=by
  unfold lK at h;split at h
  ·rename_i b off n c zz;split at h
   ·rename_i es fz hb;split at h
    ·rename_i hc;obtain⟨rfl,hc⟩:=hc;cases h;exact⟨_,_,_,.inr ⟨_,rfl⟩,_,_,hb,hc,rfl⟩
    ·cases h
   ·cases h
  ·rename_i b off n zz;split at h
   ·rename_i es fz hb;split at h
    ·rename_i hc;obtain⟨rfl,hc⟩:=hc;cases h;exact⟨_,_,_,.inl rfl,_,_,hb,hc,rfl⟩
    ·cases h
   ·cases h
  ·cases h
 obtain⟨h0,h1,h2,h3,h4⟩:=hc;have sG:∀v∈news.toList,v.oneCell'=true:=hx.Gj λx u9=>by
  have:=bu.1 h4 x u9;simp only[aG]at this;exact this.2
 obtain⟨L,c,hL,ko,nS⟩:=Yre hs JT;rcases nS with⟨hn,a,nS⟩|nS
 ·have F1:xs=[]:=bn (by omega);subst F1;have zV:news = #[]:=mQ (by rw[hx.size];simp);rw[VA,Ow hb];refine dh.val hr (v:=v) (fE w ⟨a,0,c,nS,?_⟩) (hv _ _);subst zV;cases a<;>simp[storeCells]
 ·subst ko;refine Zc hr hb hL h1 (by omega) hx (v:=v) (λcc ec g2 g3=>fE _ ⟨_,n,c,nS,?_⟩) hv;have Hr:=hx.size;rw[bY]at g3;have gE:=run_storeCells_at P L.g (L.o+off*L.sz) ec news.toList 0 cc w g2 (by simp only[cF,bR];omega) sG;simp only[cF]at gE;exact gE
theorem S8 {v:Value}{s:ah}{n:Nat}(h:cn w M β v s)(hn:mB s=some n):∃a c,v=.slice a n c:=by
 unfold mB at hn;split at hn<;>cases hn
 ·cases h;exact⟨_,_,rfl⟩
 ·cases h<;>exact⟨_,_,rfl⟩
 ·cases h<;>exact⟨_,_,rfl⟩
 ·cases h;exact⟨_,_,rfl⟩
theorem Yf3 (hr:c8 X base σ β w) {t et:TypeId} (ht:P.underlying t=some (.slice et)) {e:fL} (he:cC P et=some e) {vs:Value} {s:ah} (hs:cn w (MT X σ β) β vs s) {n:Nat} (hn:mB s=some n) {r:ah} {σ':av}
  (h:(if n=0 then some (ah.dw [],σ) else (lK σ e.sz s (List.replicate n (zeroV e))).map (ah.dw [], ·))=some (r,σ')) (ty:TypeId) {S:Sem Next} (hS:S=(do pure (.value (<-Builtin.clear_ #[t] ty #[vs])))):dh P X base σ β w nm S r σ':=by
 have xO:∀(w':World) (M':Nat->Nat->Prop),cn w' M' β (.tuple #[]) (.dw []):=λw' M'=>.dw rfl λk hk=>by simp at hk
 obtain⟨a,c,nS⟩:=S8 hs hn;split at h
 ·rename_i h0;cases h;subst h0;refine dh.val hr (v:=.tuple #[]) ?_ (xO _ _);rw[hS,nS];cases a<;>simp[Builtin.clear_,run_underlying ht]
 ·rename_i h0;obtain⟨σ1,h1,h2⟩:=aP.1 h;cases h2;obtain⟨i,_,z,hi,_,hz,_⟩:=rS he;refine Xw hr hs (Ya he n hi hz) h1 (v:=.tuple #[]) (λw' zo=>?_) xO;obtain⟨a',n',c',e1,e2⟩:=zo;rw[nS]at e1;cases e1;rw[hS,nS];cases a with
  |none =>
   simp only[Sem.run_pure,Result.ok.injEq,true_and]at e2;subst e2;simp[Builtin.clear_,run_underlying ht]
  |some a =>
   simp only at e2;have zV:n≠0:=h0;have e3:=e2;obtain⟨m,rfl⟩:∃m,n=m+1:=⟨n-1,by omega⟩;simp[Builtin.clear_,run_underlying ht,Ky hi hz,e2]
theorem Yp0 (hr:c8 X base σ β w) {t u et:TypeId} (ht:P.underlying t=some (.slice et)) {e:fL} (he:cC P et=some e) {vs vx:Value} {s x:ah} (hs:cn w (MT X σ β) β vs s) (hx:cn w (MT X σ β) β vx x) {n:Nat} (hn:mB s=some n)
  {xs:List ah} (uJ:fO σ e.sz x=some xs) {r:ah} {σ':av} (h:(lK σ e.sz s (xs.take n)).map (ah.int .i64 ((xs.take n).length:Int), ·)=some (r,σ')) (ty:TypeId) {S:Sem Next} (hS:S=(do pure (.value (<-Builtin.copy_ #[t,u] ty #[vs,vx])))):dh P X base σ β w nm S r σ':=by
 obtain⟨a,c,nS⟩:=S8 hs hn;obtain⟨σ1,h1,h2⟩:=aP.1 h;cases h2;obtain⟨i,_,z,hi,_,hz,eM,_⟩:=rS he;obtain⟨b,m,d,rfl,hm,Es,hx3⟩:=Ypf hx uJ n;obtain⟨news,pv⟩:=KQ (P:=P) hr Es hx3;refine Xw hr hs pv.SD h1 (v:=.int .i64 ((xs.take n).length:Int)) (λw' zo=>?_) λw' M'=>.int _ _;obtain⟨a',n',c',e1,e2⟩:=zo;rw[nS]at e1;cases e1;have hl:(xs.take n).length=min m n:=by rw[bN,hm,Nat.min_comm]
 have hf:=pv.cells w rfl;rw[hl]at hf;have pG:(Builtin.firstCells i.size (min m n) (.slice b m d)).run P w=.ok news w:=by
  rw[eM];cases b<;>exact hf
 rw[hS,nS,hl];cases a with
 |none =>
  simp only[Sem.run_pure,Result.ok.injEq,true_and]at e2;subst e2;simp[Builtin.copy_,run_underlying ht,wq hi,Builtin.lenOf,pG,goInt]
 |some a =>
  simp only at e2;simp[Builtin.copy_,run_underlying ht,wq hi,Builtin.lenOf,pG,goInt,e2]
theorem Yo4 {v:Value}{x:ah}{n:Nat}(hx:cn w M β v x)(h2:xA x=some n):∃a m,v=.slice a m n:=by
 unfold xA at h2;split at h2<;>cases h2
 ·cases hx with|a8 a=>exact⟨_,_,rfl⟩
 ·cases hx<;>exact⟨_,_,rfl⟩
theorem Yd8 {e:fL} {s:ah} {xs:List ah} {x:ah×av} (h:fm σ nm e s xs=some x): 0<e.sz/\e.bytes<=65536:=by
 unfold fm o9 nK at h;split at h
 ·split at h
  ·rename_i hc;exact⟨hc.2.1,hc.2.2.1⟩
  ·cases h
 ·split at h
  ·rename_i hc;exact⟨hc.2.1,hc.2.2.1⟩
  ·cases h
end
end Go.dq
