/- Part 6 of my own framework and of the walks of functions: AbsI. -/
import Derived.Test.YtfjbdamcmiglgaaGreatOwn5
abbrev ot:=@Bool.and_true
abbrev bQ:=@List.ext_getElem?
abbrev aA:=@List.getElem?_eq_getElem
abbrev bt:=@List.getElem?_eq_none
abbrev pC:=@Nat.le_of_eq
abbrev br:=@Option.getD_some
set_option linter.unusedVariables false
set_option linter.unusedSectionVars false
set_option linter.unusedSimpArgs false
namespace Go.c8
open Go
section
variable {P:Program} {X:Nat→Nat→Prop} {base:Nat} {σ:ai} {β:Env} {w:World} {nm:Nat} {M:Nat→Nat→Prop}
theorem Fe:∀ (cs:List ae) (o:Nat) (cm:List ae) (p:Nat),(cw cs o cm).getD p .undef=if o≤p∧p<o+cm.length∧p<cs.length then cm.getD (p - o) .undef else cs.getD p .undef
 | cs,o,[],p=>by simp only [cw,aS,ck];rw [if_neg (by omega)]
 | cs,o,a :: cm,p=>by
  rw [cw,Fe (cs.set o a) (o+1) cm p]
  simp only [bg,ax]
  by_cases e:p=o
  ·subst e
   rw [if_neg (by omega)]
   by_cases h:p<cs.length
   ·rw [if_pos (by omega)];simp [List.getD,h]
   ·rw [if_neg (by omega)];simp [List.getD,h]
  ·by_cases h:o+1≤p∧p<o+1+cm.length∧p<cs.length
   ·rw [if_pos h,if_pos (by omega),show p - o=p - (o+1)+1 by omega,bC]
   ·rw [if_neg h,if_neg (by omega)]
    simp [List.getD,bM (show o≠p by omega)]
theorem Cf (cur:Array Value) (o:Nat) (vs:List Value) (h:o+vs.length≤cur.size) (p:Nat) :
  ((cur.toList.take o++vs++cur.toList.drop (o+vs.length)).toArray).getD p undef=if o≤p∧p<o+vs.length then vs.getD (p - o) undef else cur.getD p undef:=by
 have hl:(cur.toList.take o).length=o:=by simp;omega
 rw [aj,List.getElem?_toArray,aj]
 by_cases h1:p<o
 ·rw [if_neg (by omega),cx,cn (by omega)]
  simp [fj,h1]
 ·by_cases h2:p<o+vs.length
  ·rw [if_pos (by omega),cx,bK (by omega),cn (by omega),hl];rfl
  ·rw [if_neg (by omega),bK (by simp;omega)]
   simp only [ay,hl,dM]
   rw [show o+vs.length+(p - (o+vs.length))=p by omega];simp
theorem Cg (cur:Array Value) (o:Nat) (vs:List Value) (h:o+vs.length≤cur.size):(cur.toList.take o++vs++cur.toList.drop (o+vs.length)).toArray.size=cur.size:=by
 simp;omega
theorem Ct (hr:cH X base σ β w) {b:Nat} {cg kW:bE} (hb : σ[b]? = some (some cg)) {L:Loc} (hL : β b=some L) {w':World}
  (yC:w'.os=w.os) (rm:w'.tape=w.tape) (mU:w'.output=w.output) (ph:w'.heap.size=w.heap.size)
  (rf:∀ g,g≠L.g→w'.heap[g]? = w.heap[g]?)
  (np:∀ off v,w.cell? ⟨L.g,off,none⟩=some v→¬ cg.mut L off→w'.cell? ⟨L.g,off,none⟩=some v)
  (yk:(∀ o, ¬ cg.mut L o)→w'.heap[L.g]? = w.heap[L.g]?)
  (Dr:∀ off,kW.mut L off→cg.mut L off)
  {s:Sem Next} {v:Value} {r:ae} (eS:s.run P w = .ok (.value v) w'∨(s.run P w = .ok .skip w'∧v=undef))
  (ju:∀ M',di w (MT X σ β) w' M'→gp w' M' β L kW)
  (hv:∀ M',di w (MT X σ β) w' M'→bS w' M' β v r):cR P X base σ β w nm s r (b_ σ b kW):=by
 obtain ⟨L',h1,h2,h3,h4⟩:=hr.cg b cg hb
 obtain rfl:=aN (hL.symm.trans h1)
 have nQ:∀ off,cg.mut L off→ja σ β L.g off:=fun off h=>⟨b,cg,L,hb,hL,rfl,h⟩
 obtain ⟨k1,k2,k3,k4⟩:=Em hr b L kW (σ':=b_ σ b kW) (β':=β) (w':=w') (D_ _ _ _)
  (fun c x hc hx=>⟨zV _ _ _ hc hx,fun Lc CY e=>hc (hr.inj c b x cg Lc L (zV _ _ _ hc hx) hb CY hL e)⟩) (Bh _ _ _) hL (fun _ _=>rfl) (.inr hL)
  yC rm mU (pC ph.symm) (fun g _ hg=>rf g hg) (fun off v hc hn=>np off v hc fun hm=>hn (nQ off hm))
  (fun _ hn=>yk fun o hm=>hn o (nQ o hm)) (fun off h=>.inl (nQ off (Dr off h))) h3 h2
 exact ⟨v,w',β,eS,k4 (ju _ k2),hv _ k2,k1,fun _ _=>rfl,fun _ _ h=>h⟩
theorem Q9 {t:TypeId} {l:eM} (hl:aF P t=some l) {v:Value} {a:ae} (hv:bS w M β v a) (hn:a.cells.length=l.sz) (hc:a.cells.all ae.cK=true) {g o:Nat} {c:Array Value} {e:TypeId}
  (hg:w.heap[g]? = some (.cells c e (0,0))) (hs:o+l.sz≤c.size) :
  (storeVar t ⟨g,o,none⟩ v).run P w = .ok () (w.setRow g (c.toList.take o++v.cells.toList++c.toList.drop (o+v.cells.toList.length)).toArray):=by
 obtain ⟨i,u,z,h1,h2,h3,h4,_⟩:=p6 hl
 obtain ⟨EV,_,_,hv4⟩:=Ft hv hc
 have:=run_storeCells_at P g o e v.cells.toList 0 c w hg (by simp only [ck,bB];omega) hv4
 simp only [ck] at this
 simp only [storeVar,Sem.run_bind,tP h1,Result.andThen_ok]
 rw [if_neg (by omega)]
 exact this
theorem HO (w:World) {g:Nat} {c c':Array Value} {e:TypeId} (hg:w.heap[g]? = some (.cells c e (0,0))) :
  (w.setRow g c').os=w.os∧(w.setRow g c').tape=w.tape∧(w.setRow g c').output=w.output∧(w.setRow g c').heap.size=w.heap.size∧(∀ k,k≠g→(w.setRow g c').heap[k]? = w.heap[k]?) ∧
   (w.setRow g c').heap[g]? = some (.cells c' e (0,0)) :=
 ⟨rfl,rfl,rfl,size_setRow _ _ _,fun k hk=>setRow_other w g k c' hk,setRow_heap w g c c' e (0,0) hg⟩
theorem Zsi {x:ae} {cs:List ae} (h:cs.length=x.cells.length) (hc:cN x=false→cs.all ae.cK=true):(jx (cN x) cs).cells=cs:=by
 cases x with
 | agg l=>rfl
 | _ =>
  have h1:cs.length=1:=h
  match cs,h1 with
  | [a],_ =>
   have ha:=hc rfl
   simp only [j8,List.all_nil,ot] at ha
   cases a<;>first | rfl | (simp [ae.cK] at ha)
theorem Zuu (cs cm:List ae) (o:Nat) (h:cm.length=cs.length) (ho:o=0):cw cs o cm=cm:=by
 subst ho
 apply bQ
 intro p
 by_cases hp:p<cs.length
 ·have h1:=Fe cs 0 cm p
  rw [if_pos (by omega)] at h1
  have h2:p<(cw cs 0 cm).length:=by rw [uR];exact hp
  rw [aA h2,aA (by omega)]
  simp only [List.getD,aA h2,br,gR,aA (show p<cm.length by omega)] at h1
  rw [h1]
 ·rw [bt (by rw [uR];omega),bt (by omega)]
theorem Fb (l:List ae) (i:Nat) (a:ae) (h:i<l.length):(l.set i a).getD i .undef=a:=by simp [List.getD,h]
theorem getD_set_ne (l:List ae) (i j:Nat) (a:ae) (h:i≠j):(l.set i a).getD j .undef=l.getD j .undef:=by simp [List.getD,bM h]
theorem bS.wK {v:Value} {b off:Nat} (h:bS w M β v (.ptr b off)):∃ L,β b=some L∧v = .pointer (some ⟨L.g,L.o+off,none⟩):=by
 cases h with | ptr hL=>exact ⟨_,hL,rfl⟩
theorem bS.y5 {v:Value} {b i f:Nat} (h:bS w M β v (.rp b i f)):∃ L,β b=some L∧v = .pointer (some ⟨L.g,L.o+i*L.sz+f,none⟩):=by
 cases h with | rp hL=>exact ⟨_,hL,rfl⟩
theorem Yhy (hr:cH X base σ β w) {ρ:Operand→Value} {ia:Operand→ae} (dO:∀ x,bS w (MT X σ β) β (ρ x) (ia x)) {o:Oper} {t:TypeId} {p x:Operand} (ho:o.op = .store t p x)
  {l:eM} (hl:aF P t=some l) {σ':ai} (h:mD σ l (ia p) (ia x)=some σ'):cR P X base σ β w nm (execOp ρ o) .undef σ':=by
 unfold mD at h
 split at h
 ·rename_i hc
  obtain ⟨rM,lq⟩:=hc
  obtain ⟨EV,wA,_,_⟩:=Ft (dO x) lq
  have hp:=dO p
  split at h
  ·rename_i b off ET
   rw [ET] at hp
   split at h
   ·rename_i cs hb
    split at h
    ·rename_i hle
     cases h
     obtain ⟨L,h1,_,_,c,e,h2,h3,h4,h5⟩:=hr.cg b _ (j_ hb)
     obtain ⟨L',hL,NQ⟩:=hp.wK
     ·obtain rfl:=aN (h1.symm.trans hL)
      have fT:=Q9 hl (dO x) rM lq h2 (o:=off) (by omega)
      obtain ⟨f1,f2,f3,f4,f5,f6⟩:=HO w (c':=(c.toList.take off++(ρ x).cells.toList++c.toList.drop (off+(ρ x).cells.toList.length)).toArray) h2
      refine Ct hr (j_ hb) h1 f1 f2 f3 f4 (fun g hg=>f5 g hg) (fun _ _ _ hn=>absurd trivial hn) (fun hn=>absurd trivial (hn 0)) (fun _ _=>trivial) (.inr ⟨?_,rfl⟩) (fun M' hk=>?_) (fun M' _=>.undef _)
      ·simp only [execOp,ho,Instr.storeAt,NQ,Instr.sureAddr,Sem.run_bind,h3,bp,fT,Sem.run_pure,Result.andThen_ok]
      ·refine ⟨_,e,f6,h3,?_,fun k eE=>?_⟩
       ·rw [Cg _ _ _ (by simp only [bB];omega),uR];exact h4
       ·rw [uR] at eE
        rw [Cf _ _ _ (by simp only [bB];omega),Fe]
        simp only [bB]
        by_cases fE:off≤k∧k<off+(ρ x).cells.size
        ·rw [if_pos fE,if_pos (by omega)]
         have:=wA (k - off) (by omega)
         rw [show (ρ x).cells.toList.getD (k - off) undef=(ρ x).cells.getD (k - off) undef by simp [List.getD,aj]]
         exact this.mono hk fun _ _ h=>h
        ·rw [if_neg fE,if_neg (by omega)]
         exact (h5 k eE).mono hk fun _ _ h=>h
    ·cases h
   ·cases h
  ·rename_i b i f ET
   rw [ET] at hp
   split at h
   ·rename_i es fz hb
    split at h
    ·rename_i hle
     obtain ⟨Nv,Nw,anM,anN⟩:=hle
     cases h
     obtain ⟨L,h1,_,_,c,e,h2,h3,h4,h5,h6⟩:=hr.cg b _ (j_ hb)
     obtain ⟨L',hL,NQ⟩:=hp.y5
     ·obtain rfl:=aN (h1.symm.trans hL)
      have fH:=h5 i Nw
      have hmul:(i+1)*L.sz≤L.n*L.sz:=aX _ (by omega)
      rw [bI,dx] at hmul
      have EJ:fz*L.sz≤i*L.sz:=aX _ Nv
      have fT:=Q9 hl (dO x) rM lq h2 (o:=L.o+i*L.sz+f) (by omega)
      obtain ⟨f1,f2,f3,f4,f5,f6⟩:=HO w (c':=(c.toList.take (L.o+i*L.sz+f)++(ρ x).cells.toList++c.toList.drop (L.o+i*L.sz+f+(ρ x).cells.toList.length)).toArray) h2
      have pj:L.o+i*L.sz+f+(ρ x).cells.toList.length≤c.size:=by simp only [bB];omega
      have Dq:(jx (cN (es.getD i .undef)) (cw (es.getD i .undef).cells f (ia x).cells)).cells=cw (es.getD i .undef).cells f (ia x).cells:=by
       refine Zsi (uR _ _ _) fun ha=>?_
       have h7:(es.getD i .undef).cells.length=1:=by
        revert ha
        cases es.getD i .undef<;>simp [cN,ae.cells]
       rw [Zuu _ _ _ (by omega) (by omega)];exact lq
      refine Ct (kW:=.row (es.set i (jx (cN (es.getD i .undef)) (cw (es.getD i .undef).cells f (ia x).cells))) fz) hr (j_ hb) h1 f1 f2 f3 f4 (fun g hg=>f5 g hg) (fun off v gU hn=>?_) (fun hn=>absurd (ah _) (hn _)) (fun _ hm=>hm) (.inr ⟨?_,rfl⟩) (fun M' hk=>?_) (fun M' _=>.undef _)
      ·simp only [bE.mut,Nat.not_le] at hn
       rw [cell_of_row _ _ _ _ _ _ f6]
       rw [cell_of_row _ _ _ _ _ _ h2] at gU
       obtain ⟨bG,hv⟩:=aL.1 gU
       rw [tM (by rw [Cg _ _ _ pj];exact bG),Cf _ _ _ pj,if_neg (by omega),← tM bG];exact gU
      ·simp only [execOp,ho,Instr.storeAt,NQ,Instr.sureAddr,Sem.run_bind,fT,Sem.run_pure,Result.andThen_ok]
      ·refine ⟨_,e,f6,?_,by simpa using h4,fun j hj=>?_,fun j q hj hq=>?_⟩
       ·rw [Cg _ _ _ pj];exact h3
       ·simp only [bg] at hj
        by_cases e1:i=j
        ·subst e1
         rw [Fb _ _ _ hj,Dq,uR];exact fH
        ·rw [getD_set_ne _ _ _ _ e1];exact h5 j hj
       ·simp only [bg] at hj
        rw [Cf _ _ _ pj]
        simp only [bB]
        by_cases e1:i=j
        ·subst e1
         rw [Fb _ _ _ hj,Dq,Fe]
         by_cases fE:f≤q∧q<f+(ρ x).cells.size
         ·rw [if_pos (by omega),if_pos (by omega)]
          have:=wA (q - f) (by omega)
          rw [show L.o+i*L.sz+q - (L.o+i*L.sz+f)=q - f by omega,show (ρ x).cells.toList.getD (q - f) undef=(ρ x).cells.getD (q - f) undef by simp [List.getD,aj]]
          exact this.mono hk fun _ _ h=>h
         ·rw [if_neg (by omega),if_neg (by omega)]
          exact (h6 i q hj hq).mono hk fun _ _ h=>h
        ·rw [getD_set_ne _ _ _ _ e1]
         have w8:¬ (L.o+i*L.sz+f≤L.o+j*L.sz+q∧L.o+j*L.sz+q<L.o+i*L.sz+f+(ρ x).cells.size):=by
          rintro ⟨a1,a2⟩
          rcases Nat.lt_or_gt_of_ne e1 with bG | bG
          ·have:(i+1)*L.sz≤j*L.sz:=aX _ bG
           rw [bI,dx] at this;omega
          ·have:(j+1)*L.sz≤i*L.sz:=aX _ bG
           rw [bI,dx] at this;omega
         rw [if_neg w8]
         exact (h6 j q hj hq).mono hk fun _ _ h=>h
    ·cases h
   ·cases h
  ·cases h
 ·cases h
end
end Go.c8
