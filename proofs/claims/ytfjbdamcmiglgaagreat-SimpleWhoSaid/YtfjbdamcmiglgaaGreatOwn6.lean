/- Part 6 of my own framework and of the walks of functions: AbsI. -/
import Derived.Test.YtfjbdamcmiglgaaGreatOwn5
abbrev nZ:=@Bool.and_true
abbrev bP:=@List.ext_getElem?
abbrev aA:=@List.getElem?_eq_getElem
abbrev bq:=@List.getElem?_eq_none
abbrev pa:=@Nat.le_of_eq
abbrev br:=@Option.getD_some
set_option linter.unusedVariables false
set_option linter.unusedSectionVars false
set_option linter.unusedSimpArgs false
namespace Go.c8
open Go
section
variable {P:Program} {X:Nat→Nat→Prop} {base:Nat} {σ:ai} {β:Env} {w:World} {nm:Nat} {M:Nat→Nat→Prop}
theorem EN:∀ (cs:List ae) (o:Nat) (cj:List ae) (p:Nat),(cq cs o cj).getD p .undef=if o≤p∧p<o+cj.length∧p<cs.length then cj.getD (p - o) .undef else cs.getD p .undef
 | cs,o,[],p=>by simp only [cq,aR,cg];rw [if_neg (by omega)]
 | cs,o,a :: cj,p=>by
  rw [cq,EN (cs.set o a) (o+1) cj p]
  simp only [bg,ax]
  by_cases e:p=o
  ·subst e
   rw [if_neg (by omega)]
   by_cases h:p<cs.length
   ·rw [if_pos (by omega)];simp [List.getD,h]
   ·rw [if_neg (by omega)];simp [List.getD,h]
  ·by_cases h:o+1≤p∧p<o+1+cj.length∧p<cs.length
   ·rw [if_pos h,if_pos (by omega),show p - o=p - (o+1)+1 by omega,bB]
   ·rw [if_neg h,if_neg (by omega)]
    simp [List.getD,bL (show o≠p by omega)]
theorem B1 (cur:Array Value) (o:Nat) (vs:List Value) (h:o+vs.length≤cur.size) (p:Nat) :
  ((cur.toList.take o++vs++cur.toList.drop (o+vs.length)).toArray).getD p undef=if o≤p∧p<o+vs.length then vs.getD (p - o) undef else cur.getD p undef:=by
 have hl:(cur.toList.take o).length=o:=by simp;omega
 rw [aj,List.getElem?_toArray,aj]
 by_cases h1:p<o
 ·rw [if_neg (by omega),cG,ck (by omega)]
  simp [eZ,h1]
 ·by_cases h2:p<o+vs.length
  ·rw [if_pos (by omega),cG,bJ (by omega),ck (by omega),hl];rfl
  ·rw [if_neg (by omega),bJ (by simp;omega)]
   simp only [ay,hl,dH]
   rw [show o+vs.length+(p - (o+vs.length))=p by omega];simp
theorem B0 (cur:Array Value) (o:Nat) (vs:List Value) (h:o+vs.length≤cur.size):(cur.toList.take o++vs++cur.toList.drop (o+vs.length)).toArray.size=cur.size:=by
 simp;omega
theorem Cc (hr:cC X base σ β w) {b:Nat} {cd kI:bE} (hb : σ[b]? = some (some cd)) {L:Loc} (hL : β b=some L) {w':World}
  (yk:w'.os=w.os) (qP:w'.tape=w.tape) (mI:w'.output=w.output) (oS:w'.heap.size=w.heap.size)
  (qK:∀ g,g≠L.g→w'.heap[g]? = w.heap[g]?)
  (m8:∀ off v,w.cell? ⟨L.g,off,none⟩=some v→¬ cd.mut L off→w'.cell? ⟨L.g,off,none⟩=some v)
  (xT:(∀ o, ¬ cd.mut L o)→w'.heap[L.g]? = w.heap[L.g]?)
  (C6:∀ off,kI.mut L off→cd.mut L off)
  {s:Sem Next} {v:Value} {r:ae} (eL:s.run P w = .ok (.value v) w'∨(s.run P w = .ok .skip w'∧v=undef))
  (j9:∀ M',df w (MT X σ β) w' M'→fR w' M' β L kI)
  (hv:∀ M',df w (MT X σ β) w' M'→bR w' M' β v r):cN P X base σ β w nm s r (bZ σ b kI):=by
 obtain ⟨L',h1,h2,h3,h4⟩:=hr.cd b cd hb
 obtain rfl:=aM (hL.symm.trans h1)
 have nC:∀ off,cd.mut L off→iO σ β L.g off:=fun off h=>⟨b,cd,L,hb,hL,rfl,h⟩
 obtain ⟨k1,k2,k3,k4⟩:=D1 hr b L kI (σ':=bZ σ b kI) (β':=β) (w':=w') (DQ _ _ _)
  (fun c x hc hx=>⟨zD _ _ _ hc hx,fun Lc CD e=>hc (hr.inj c b x cd Lc L (zD _ _ _ hc hx) hb CD hL e)⟩) (A0 _ _ _) hL (fun _ _=>rfl) (.inr hL)
  yk qP mI (pa oS.symm) (fun g _ hg=>qK g hg) (fun off v hc hn=>m8 off v hc fun hm=>hn (nC off hm))
  (fun _ hn=>xT fun o hm=>hn o (nC o hm)) (fun off h=>.inl (nC off (C6 off h))) h3 h2
 exact ⟨v,w',β,eL,k4 (j9 _ k2),hv _ k2,k1,fun _ _=>rfl,fun _ _ h=>h⟩
theorem P8 {t:TypeId} {l:eF} (hl:aC P t=some l) {v:Value} {a:ae} (hv:bR w M β v a) (hn:a.cells.length=l.sz) (hc:a.cells.all ae.cF=true) {g o:Nat} {c:Array Value} {e:TypeId}
  (hg:w.heap[g]? = some (.cells c e (0,0))) (hs:o+l.sz≤c.size) :
  (storeVar t ⟨g,o,none⟩ v).run P w = .ok () (w.setRow g (c.toList.take o++v.cells.toList++c.toList.drop (o+v.cells.toList.length)).toArray):=by
 obtain ⟨i,u,z,h1,h2,h3,h4,_⟩:=pO hl
 obtain ⟨Ew,_,_,hv4⟩:=E1 hv hc
 have:=run_storeCells_at P g o e v.cells.toList 0 c w hg (by simp only [cg,bA];omega) hv4
 simp only [cg] at this
 simp only [storeVar,Sem.run_bind,tn h1,Result.andThen_ok]
 rw [if_neg (by omega)]
 exact this
theorem Hg (w:World) {g:Nat} {c c':Array Value} {e:TypeId} (hg:w.heap[g]? = some (.cells c e (0,0))) :
  (w.setRow g c').os=w.os∧(w.setRow g c').tape=w.tape∧(w.setRow g c').output=w.output∧(w.setRow g c').heap.size=w.heap.size∧(∀ k,k≠g→(w.setRow g c').heap[k]? = w.heap[k]?) ∧
   (w.setRow g c').heap[g]? = some (.cells c' e (0,0)) :=
 ⟨rfl,rfl,rfl,size_setRow _ _ _,fun k hk=>setRow_other w g k c' hk,setRow_heap w g c c' e (0,0) hg⟩
theorem Zr6 {x:ae} {cs:List ae} (h:cs.length=x.cells.length) (hc:cJ x=false→cs.all ae.cF=true):(jh (cJ x) cs).cells=cs:=by
 cases x with
 | agg l=>rfl
 | _ =>
  have h1:cs.length=1:=h
  match cs,h1 with
  | [a],_ =>
   have ha:=hc rfl
   simp only [jS,List.all_nil,nZ] at ha
   cases a<;>first | rfl | (simp [ae.cF] at ha)
theorem Zum (cs cj:List ae) (o:Nat) (h:cj.length=cs.length) (ho:o=0):cq cs o cj=cj:=by
 subst ho
 apply bP
 intro p
 by_cases hp:p<cs.length
 ·have h1:=EN cs 0 cj p
  rw [if_pos (by omega)] at h1
  have h2:p<(cq cs 0 cj).length:=by rw [uz];exact hp
  rw [aA h2,aA (by omega)]
  simp only [List.getD,aA h2,br,gG,aA (show p<cj.length by omega)] at h1
  rw [h1]
 ·rw [bq (by rw [uz];omega),bq (by omega)]
theorem EM (l:List ae) (i:Nat) (a:ae) (h:i<l.length):(l.set i a).getD i .undef=a:=by simp [List.getD,h]
theorem getD_set_ne (l:List ae) (i j:Nat) (a:ae) (h:i≠j):(l.set i a).getD j .undef=l.getD j .undef:=by simp [List.getD,bL h]
theorem bR.wk {v:Value} {b off:Nat} (h:bR w M β v (.ptr b off)):∃ L,β b=some L∧v = .pointer (some ⟨L.g,L.o+off,none⟩):=by
 cases h with | ptr hL=>exact ⟨_,hL,rfl⟩
theorem bR.yM {v:Value} {b i f:Nat} (h:bR w M β v (.rp b i f)):∃ L,β b=some L∧v = .pointer (some ⟨L.g,L.o+i*L.sz+f,none⟩):=by
 cases h with | rp hL=>exact ⟨_,hL,rfl⟩
theorem YI (hr:cC X base σ β w) {ρ:Operand→Value} {gV:Operand→ae} (dJ:∀ x,bR w (MT X σ β) β (ρ x) (gV x)) {o:Oper} {t:TypeId} {p x:Operand} (ho:o.op = .store t p x)
  {l:eF} (hl:aC P t=some l) {σ':ai} (h:mj σ l (gV p) (gV x)=some σ'):cN P X base σ β w nm (execOp ρ o) .undef σ':=by
 unfold mj at h
 split at h
 ·rename_i hc
  obtain ⟨rm,kY⟩:=hc
  obtain ⟨Ew,vY,_,_⟩:=E1 (dJ x) kY
  have hp:=dJ p
  split at h
  ·rename_i b off Eu
   rw [Eu] at hp
   split at h
   ·rename_i cs hb
    split at h
    ·rename_i hle
     cases h
     obtain ⟨L,h1,_,_,c,e,h2,h3,h4,h5⟩:=hr.cd b _ (jU hb)
     obtain ⟨L',hL,Na⟩:=hp.wk
     ·obtain rfl:=aM (h1.symm.trans hL)
      have fQ:=P8 hl (dJ x) rm kY h2 (o:=off) (by omega)
      obtain ⟨f1,f2,f3,f4,f5,f6⟩:=Hg w (c':=(c.toList.take off++(ρ x).cells.toList++c.toList.drop (off+(ρ x).cells.toList.length)).toArray) h2
      refine Cc hr (jU hb) h1 f1 f2 f3 f4 (fun g hg=>f5 g hg) (fun _ _ _ hn=>absurd trivial hn) (fun hn=>absurd trivial (hn 0)) (fun _ _=>trivial) (.inr ⟨?_,rfl⟩) (fun M' hk=>?_) (fun M' _=>.undef _)
      ·simp only [execOp,ho,Instr.storeAt,Na,Instr.sureAddr,Sem.run_bind,h3,bm,fQ,Sem.run_pure,Result.andThen_ok]
      ·refine ⟨_,e,f6,h3,?_,fun k er=>?_⟩
       ·rw [B0 _ _ _ (by simp only [bA];omega),uz];exact h4
       ·rw [uz] at er
        rw [B1 _ _ _ (by simp only [bA];omega),EN]
        simp only [bA]
        by_cases fp:off≤k∧k<off+(ρ x).cells.size
        ·rw [if_pos fp,if_pos (by omega)]
         have:=vY (k - off) (by omega)
         rw [show (ρ x).cells.toList.getD (k - off) undef=(ρ x).cells.getD (k - off) undef by simp [List.getD,aj]]
         exact this.mono hk fun _ _ h=>h
        ·rw [if_neg fp,if_neg (by omega)]
         exact (h5 k er).mono hk fun _ _ h=>h
    ·cases h
   ·cases h
  ·rename_i b i f Eu
   rw [Eu] at hp
   split at h
   ·rename_i es fz hb
    split at h
    ·rename_i hle
     obtain ⟨MP,MQ,ami,amj⟩:=hle
     cases h
     obtain ⟨L,h1,_,_,c,e,h2,h3,h4,h5,h6⟩:=hr.cd b _ (jU hb)
     obtain ⟨L',hL,Na⟩:=hp.yM
     ·obtain rfl:=aM (h1.symm.trans hL)
      have fF:=h5 i MQ
      have hmul:(i+1)*L.sz≤L.n*L.sz:=aX _ (by omega)
      rw [bH,dt] at hmul
      have El:fz*L.sz≤i*L.sz:=aX _ MP
      have fQ:=P8 hl (dJ x) rm kY h2 (o:=L.o+i*L.sz+f) (by omega)
      obtain ⟨f1,f2,f3,f4,f5,f6⟩:=Hg w (c':=(c.toList.take (L.o+i*L.sz+f)++(ρ x).cells.toList++c.toList.drop (L.o+i*L.sz+f+(ρ x).cells.toList.length)).toArray) h2
      have oT:L.o+i*L.sz+f+(ρ x).cells.toList.length≤c.size:=by simp only [bA];omega
      have C5:(jh (cJ (es.getD i .undef)) (cq (es.getD i .undef).cells f (gV x).cells)).cells=cq (es.getD i .undef).cells f (gV x).cells:=by
       refine Zr6 (uz _ _ _) fun ha=>?_
       have h7:(es.getD i .undef).cells.length=1:=by
        revert ha
        cases es.getD i .undef<;>simp [cJ,ae.cells]
       rw [Zum _ _ _ (by omega) (by omega)];exact kY
      refine Cc (kI:=.row (es.set i (jh (cJ (es.getD i .undef)) (cq (es.getD i .undef).cells f (gV x).cells))) fz) hr (jU hb) h1 f1 f2 f3 f4 (fun g hg=>f5 g hg) (fun off v gK hn=>?_) (fun hn=>absurd (ah _) (hn _)) (fun _ hm=>hm) (.inr ⟨?_,rfl⟩) (fun M' hk=>?_) (fun M' _=>.undef _)
      ·simp only [bE.mut,Nat.not_le] at hn
       rw [cell_of_row _ _ _ _ _ _ f6]
       rw [cell_of_row _ _ _ _ _ _ h2] at gK
       obtain ⟨bD,hv⟩:=aL.1 gK
       rw [tf (by rw [B0 _ _ _ oT];exact bD),B1 _ _ _ oT,if_neg (by omega),← tf bD];exact gK
      ·simp only [execOp,ho,Instr.storeAt,Na,Instr.sureAddr,Sem.run_bind,fQ,Sem.run_pure,Result.andThen_ok]
      ·refine ⟨_,e,f6,?_,by simpa using h4,fun j hj=>?_,fun j q hj hq=>?_⟩
       ·rw [B0 _ _ _ oT];exact h3
       ·simp only [bg] at hj
        by_cases e1:i=j
        ·subst e1
         rw [EM _ _ _ hj,C5,uz];exact fF
        ·rw [getD_set_ne _ _ _ _ e1];exact h5 j hj
       ·simp only [bg] at hj
        rw [B1 _ _ _ oT]
        simp only [bA]
        by_cases e1:i=j
        ·subst e1
         rw [EM _ _ _ hj,C5,EN]
         by_cases fp:f≤q∧q<f+(ρ x).cells.size
         ·rw [if_pos (by omega),if_pos (by omega)]
          have:=vY (q - f) (by omega)
          rw [show L.o+i*L.sz+q - (L.o+i*L.sz+f)=q - f by omega,show (ρ x).cells.toList.getD (q - f) undef=(ρ x).cells.getD (q - f) undef by simp [List.getD,aj]]
          exact this.mono hk fun _ _ h=>h
         ·rw [if_neg (by omega),if_neg (by omega)]
          exact (h6 i q hj hq).mono hk fun _ _ h=>h
        ·rw [getD_set_ne _ _ _ _ e1]
         have wM:¬ (L.o+i*L.sz+f≤L.o+j*L.sz+q∧L.o+j*L.sz+q<L.o+i*L.sz+f+(ρ x).cells.size):=by
          rintro ⟨a1,a2⟩
          rcases Nat.lt_or_gt_of_ne e1 with bD | bD
          ·have:(i+1)*L.sz≤j*L.sz:=aX _ bD
           rw [bH,dt] at this;omega
          ·have:(j+1)*L.sz≤i*L.sz:=aX _ bD
           rw [bH,dt] at this;omega
         rw [if_neg wM]
         exact (h6 j q hj hq).mono hk fun _ _ h=>h
    ·cases h
   ·cases h
  ·cases h
 ·cases h
end
end Go.c8
