/- Part 6 of what the claim rests on. -/
import Derived.Test.YtfjbdamcmiglgaaGreatOwn5
set_option linter.all false
abbrev m9:=@Bool.and_true
abbrev bZ:=@List.ext_getElem?
abbrev ax:=@List.getElem?_eq_getElem
abbrev bB:=@List.getElem?_eq_none
abbrev qW:=@Nat.le_of_eq
abbrev bd:=@Option.getD_some
namespace Go.dq
open Go
section
variable {P:Program}{X:Nat->Nat->Prop}{base:Nat}{σ:av}{β:Env}{w:World}{nm:Nat}{M:Nat->Nat->Prop}
theorem HP:∀(cs:List ah) (o:Nat) (cI:List ah) (p:Nat),(cO cs o cI).getD p .undef=if o<=p/\p<o+cI.length/\p<cs.length then cI.getD (p-o) .undef else cs.getD p .undef
 |cs,o,[],p=>by simp only[cO,aF,cF];rw[if_neg (by omega)]
 | cs,o,a :: cI,p=>by
  rw[cO,HP (cs.set o a) (o+1) cI p];simp only[bg,aq];by_cases e:p=o
  ·subst e;rw[if_neg (by omega)];by_cases h:p<cs.length
   ·rw[if_pos (by omega)];simp[List.getD,h]
   ·rw[if_neg (by omega)];simp[List.getD,h]
  ·by_cases h:o+1<=p/\p<o+1+cI.length/\p<cs.length
   ·rw[if_pos h,if_pos (by omega),show p-o=p-(o+1)+1 by omega,bE]
   ·rw[if_neg h,if_neg (by omega)];simp[List.getD,b_ (show o≠p by omega)]
theorem EI (cur:Array Value) (o:Nat) (vs:List Value) (h:o+vs.length<=cur.size) (p:Nat) :
  ((cur.toList.take o++vs++cur.toList.drop (o+vs.length)).toArray).getD p undef=if o<=p/\p<o+vs.length then vs.getD (p-o) undef else cur.getD p undef:=by
 have hl:(cur.toList.take o).length=o:=by simp;omega
 rw[au,List.getElem?_toArray,au];by_cases h1:p<o
 ·rw[if_neg (by omega),cg,cK (by omega)];simp[fh,h1]
 ·by_cases h2:p<o+vs.length
  ·rw[if_pos (by omega),cg,b9 (by omega),cK (by omega),hl];rfl
  ·rw[if_neg (by omega),b9 (by simp;omega)];simp only[aA,hl,dZ];rw[show o+vs.length+(p-(o+vs.length))=p by omega];simp
theorem EH (cur:Array Value)(o:Nat)(vs:List Value)(h:o+vs.length<=cur.size):(cur.toList.take o++vs++cur.toList.drop (o+vs.length)).toArray.size=cur.size:=by
 simp;omega
theorem ES (hr:c8 X base σ β w) {b:Nat} {cG mf:bS} (hb : σ[b]? = some (some cG)) {L:Loc} (hL : β b=some L) {w':World}
  (A5:w'.os=w.os) (tP:w'.tape=w.tape) (ow:w'.output=w.output) (qB:w'.heap.size=w.heap.size)
  (tH:∀g,g≠L.g->w'.heap[g]? = w.heap[g]?)
  (oQ:∀off v,w.cell? ⟨L.g,off,none⟩=some v->¬cG.mut L off->w'.cell? ⟨L.g,off,none⟩=some v)
  (AH:(∀o,¬cG.mut L o)->w'.heap[L.g]? = w.heap[L.g]?)
  (FO:∀off,mf.mut L off->cG.mut L off)
  {s:Sem Next} {v:Value} {r:ah} (fE:s.run P w=.ok (.value v) w'\/(s.run P w=.ok .skip w'/\v=undef))
  (jB:∀M',dK w (MT X σ β) w' M'->ig w' M' β L mf)
  (hv:∀M',dK w (MT X σ β) w' M'->cn w' M' β v r):dh P X base σ β w nm s r (cJ σ b mf):=by
 obtain⟨L',h1,h2,h3,h4⟩:=hr.cG b cG hb;obtain rfl:=aS (hL.symm.trans h1);have pn:∀off,cG.mut L off->jR σ β L.g off:=λoff h=>⟨b,cG,L,hb,hL,rfl,h⟩;obtain⟨k1,k2,k3,k4⟩:=GR hr b L mf (σ':=cJ σ b mf) (β':=β) (w':=w') (GI _ _ _)
  (λc x hc hx=>⟨Cq _ _ _ hc hx,λLc Fl e=>hc (hr.inj c b x cG Lc L (Cq _ _ _ hc hx) hb Fl hL e)⟩) (DI _ _ _) hL (λ_ _=>rfl) (.inr hL)
  A5 tP ow (qW qB.symm) (λg _ hg=>tH g hg) (λoff v hc hn=>oQ off v hc λhm=>hn (pn off hm))
  (λ_ hn=>AH λo hm=>hn o (pn o hm)) (λoff h=>.inl (pn off (FO off h))) h3 h2
 exact⟨v,w',β,fE,k4 (jB _ k2),hv _ k2,k1,λ_ _=>rfl,λ_ _ h=>h⟩
theorem VC {t:TypeId} {l:fL} (hl:cC P t=some l) {v:Value} {a:ah} (hv:cn w M β v a) (hn:a.cells.length=l.sz) (hc:a.cells.all ah.dy=true) {g o:Nat} {c:Array Value} {e:TypeId}
  (hg:w.heap[g]? = some (.cells c e (0,0))) (hs:o+l.sz<=c.size) :
  (storeVar t ⟨g,o,none⟩ v).run P w=.ok () (w.setRow g (c.toList.take o++v.cells.toList++c.toList.drop (o+v.cells.toList.length)).toArray):=by
 obtain⟨i,u,z,h1,h2,h3,h4,_⟩:=rS hl;obtain⟨Ep,_,_,hv4⟩:=H0 hv hc;have:=run_storeCells_at P g o e v.cells.toList 0 c w hg (by simp only[cF,bR];omega) hv4;simp only[cF]at this;simp only[storeVar,Sem.run_bind,wq h1,Result.andThen_ok];rw[if_neg (by omega)];exact this
theorem Kz (w:World) {g:Nat} {c c':Array Value} {e:TypeId} (hg:w.heap[g]? = some (.cells c e (0,0))) :
  (w.setRow g c').os=w.os/\(w.setRow g c').tape=w.tape/\(w.setRow g c').output=w.output/\(w.setRow g c').heap.size=w.heap.size/\(∀k,k≠g->(w.setRow g c').heap[k]? = w.heap[k]?) /\
   (w.setRow g c').heap[g]? = some (.cells c' e (0,0)) :=
 ⟨rfl,rfl,rfl,size_setRow _ _ _,λk hk=>setRow_other w g k c' hk,setRow_heap w g c c' e (0,0) hg⟩
theorem Zud {x:ah} {cs:List ah} (h:cs.length=x.cells.length) (hc:c_ x=false->cs.all ah.dy=true):(jl (c_ x) cs).cells=cs:=by
 cases x with
 |agg l=>rfl
 | _ =>
  have h1:cs.length=1:=h
  match cs,h1 with
  |[a],_ =>
   have ha:=hc rfl;simp only[h_,List.all_nil,m9]at ha;cases a<;>first|rfl | (simp[ah.dy]at ha)
theorem Zxs (cs cI:List ah) (o:Nat) (h:cI.length=cs.length) (ho:o=0):cO cs o cI=cI:=by
 subst ho;apply bZ;intro p;by_cases hp:p<cs.length
 ·have h1:=HP cs 0 cI p;rw[if_pos (by omega)]at h1;have h2:p<(cO cs 0 cI).length:=by rw[xc];exact hp
  rw[ax h2,ax (by omega)];simp only[List.getD,ax h2,bd,gU,ax (show p<cI.length by omega)]at h1;rw[h1]
 ·rw[bB (by rw[xc];omega),bB (by omega)]
theorem HN (l:List ah)(i:Nat)(a:ah)(h:i<l.length):(l.set i a).getD i .undef=a:=by simp[List.getD,h]
theorem getD_set_ne (l:List ah)(i j:Nat)(a:ah)(h:i≠j):(l.set i a).getD j .undef=l.getD j .undef:=by simp[List.getD,b_ h]
theorem cn.yN {v:Value}{b off:Nat}(h:cn w M β v (.ptr b off)):∃L,β b=some L/\v=.pointer (some ⟨L.g,L.o+off,none⟩):=by
 cases h with|ptr hL=>exact⟨_,hL,rfl⟩
theorem cn.Bt {v:Value}{b i f:Nat}(h:cn w M β v (.rp b i f)):∃L,β b=some L/\v=.pointer (some ⟨L.g,L.o+i*L.sz+f,none⟩):=by
 cases h with|rp hL=>exact⟨_,hL,rfl⟩
theorem Yfv (hr:c8 X base σ β w) {ρ:Operand->Value} {je:Operand->ah} (eI:∀x,cn w (MT X σ β) β (ρ x) (je x)) {o:Oper} {t:TypeId} {p x:Operand} (ho:o.op=.store t p x)
  {l:fL} (hl:cC P t=some l) {σ':av} (h:nX σ l (je p) (je x)=some σ'):dh P X base σ β w nm (execOp ρ o) .undef σ':=by
 unfold nX at h;split at h
 ·rename_i hc;obtain⟨uu,lS⟩:=hc;obtain⟨Ep,yB,_,_⟩:=H0 (eI x) lS;have hp:=eI p;split at h
  ·rename_i b off Ht;rw[Ht]at hp;split at h
   ·rename_i cs hb;split at h
    ·rename_i hle;cases h;obtain⟨L,h1,_,_,c,e,h2,h3,h4,h5⟩:=hr.cG b _ (la hb);obtain⟨L',hL,RR⟩:=hp.yN
     ·obtain rfl:=aS (h1.symm.trans hL);have gE:=VC hl (eI x) uu lS h2 (o:=off) (by omega);obtain⟨f1,f2,f3,f4,f5,f6⟩:=Kz w (c':=(c.toList.take off++(ρ x).cells.toList++c.toList.drop (off+(ρ x).cells.toList.length)).toArray) h2;refine ES hr (la hb) h1 f1 f2 f3 f4 (λg hg=>f5 g hg) (λ_ _ _ hn=>absurd trivial hn) (λhn=>absurd trivial (hn 0)) (λ_ _=>trivial) (.inr ⟨?_,rfl⟩) (λM' hk=>?_) (λM' _=>.undef _)
      ·simp only[execOp,ho,Instr.storeAt,RR,Instr.sureAddr,Sem.run_bind,h3,br,gE,Sem.run_pure,Result.andThen_ok]
      ·refine ⟨_,e,f6,h3,?_,λk eZ=>?_⟩
       ·rw[EH _ _ _ (by simp only[bR];omega),xc];exact h4
       ·rw[xc]at eZ;rw[EI _ _ _ (by simp only[bR];omega),HP];simp only[bR];by_cases fA:off<=k/\k<off+(ρ x).cells.size
        ·rw[if_pos fA,if_pos (by omega)];have:=yB (k-off) (by omega);rw[show(ρ x).cells.toList.getD (k-off) undef=(ρ x).cells.getD (k-off) undef by simp[List.getD,au]];exact this.mono hk λ_ _ h=>h
        ·rw[if_neg fA,if_neg (by omega)];exact(h5 k eZ).mono hk λ_ _ h=>h
    ·cases h
   ·cases h
  ·rename_i b i f Ht;rw[Ht]at hp;split at h
   ·rename_i es fz hb;split at h
    ·rename_i hle;obtain⟨Ru,zh,Jx,apX⟩:=hle;cases h;obtain⟨L,h1,_,_,c,e,h2,h3,h4,h5,h6⟩:=hr.cG b _ (la hb);obtain⟨L',hL,RR⟩:=hp.Bt
     ·obtain rfl:=aS (h1.symm.trans hL);have eM:=h5 i zh;have hmul:(i+1)*L.sz<=L.n*L.sz:=aZ _ (by omega);rw[bY,dX]at hmul;have Hl:fz*L.sz<=i*L.sz:=aZ _ Ru;have gE:=VC hl (eI x) uu lS h2 (o:=L.o+i*L.sz+f) (by omega);obtain⟨f1,f2,f3,f4,f5,f6⟩:=Kz w (c':=(c.toList.take (L.o+i*L.sz+f)++(ρ x).cells.toList++c.toList.drop (L.o+i*L.sz+f+(ρ x).cells.toList.length)).toArray) h2;have qC:L.o+i*L.sz+f+(ρ x).cells.toList.length<=c.size:=by simp only[bR];omega
      have FN:(jl (c_ (es.getD i .undef)) (cO (es.getD i .undef).cells f (je x).cells)).cells=cO (es.getD i .undef).cells f (je x).cells:=by
       refine Zud (xc _ _ _) λha=>?_;have h7:(es.getD i .undef).cells.length=1:=by
        revert ha;cases es.getD i .undef<;>simp[c_,ah.cells]
       rw[Zxs _ _ _ (by omega) (by omega)];exact lS
      refine ES (mf:=.row (es.set i (jl (c_ (es.getD i .undef)) (cO (es.getD i .undef).cells f (je x).cells))) fz) hr (la hb) h1 f1 f2 f3 f4 (λg hg=>f5 g hg) (λoff v gM hn=>?_) (λhn=>absurd (ae _) (hn _)) (λ_ hm=>hm) (.inr ⟨?_,rfl⟩) (λM' hk=>?_) (λM' _=>.undef _)
      ·simp only[bS.mut,Nat.not_le]at hn;rw[cell_of_row _ _ _ _ _ _ f6];rw[cell_of_row _ _ _ _ _ _ h2]at gM;obtain⟨bx,hv⟩:=aQ.1 gM;rw[wm (by rw[EH _ _ _ qC];exact bx),EI _ _ _ qC,if_neg (by omega),<-wm bx];exact gM
      ·simp only[execOp,ho,Instr.storeAt,RR,Instr.sureAddr,Sem.run_bind,gE,Sem.run_pure,Result.andThen_ok]
      ·refine ⟨_,e,f6,?_,by simpa using h4,λj hj=>?_,λj q hj hq=>?_⟩
       ·rw[EH _ _ _ qC];exact h3
       ·simp only[bg]at hj;by_cases e1:i=j
        ·subst e1;rw[HN _ _ _ hj,FN,xc];exact eM
        ·rw[getD_set_ne _ _ _ _ e1];exact h5 j hj
       ·simp only[bg]at hj;rw[EI _ _ _ qC];simp only[bR];by_cases e1:i=j
        ·subst e1;rw[HN _ _ _ hj,FN,HP];by_cases fA:f<=q/\q<f+(ρ x).cells.size
         ·rw[if_pos (by omega),if_pos (by omega)];have:=yB (q-f) (by omega);rw[show L.o+i*L.sz+q-(L.o+i*L.sz+f)=q-f by omega,show(ρ x).cells.toList.getD (q-f) undef=(ρ x).cells.getD (q-f) undef by simp[List.getD,au]];exact this.mono hk λ_ _ h=>h
         ·rw[if_neg (by omega),if_neg (by omega)];exact(h6 i q hj hq).mono hk λ_ _ h=>h
        ·rw [getD_set_ne _ _ _ _ e1];have za:¬(L.o+i*L.sz+f<=L.o+j*L.sz+q/\L.o+j*L.sz+q<L.o+i*L.sz+f+(ρ x).cells.size):=by
          rintro⟨a1,a2⟩;rcases Nat.lt_or_gt_of_ne e1 with bx|bx
          ·have:(i+1)*L.sz<=j*L.sz:=aZ _ bx;rw[bY,dX]at this;omega
          ·have:(j+1)*L.sz<=i*L.sz:=aZ _ bx;rw[bY,dX]at this;omega
         rw[if_neg za];exact(h6 j q hj hq).mono hk λ_ _ h=>h
    ·cases h
   ·cases h
  ·cases h
 ·cases h
end
end Go.dq
