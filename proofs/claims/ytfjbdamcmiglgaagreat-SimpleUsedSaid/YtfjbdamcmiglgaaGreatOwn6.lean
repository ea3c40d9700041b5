/- Part 6 of my own framework and of the walks of functions: AbsI. -/
import Derived.Test.YtfjbdamcmiglgaaGreatOwn5
abbrev n7:=@Bool.and_true
abbrev bO:=@List.ext_getElem?
abbrev aA:=@List.getElem?_eq_getElem
abbrev bq:=@List.getElem?_eq_none
abbrev pc:=@Nat.le_of_eq
abbrev br:=@Option.getD_some
set_option linter.unusedVariables false
set_option linter.unusedSectionVars false
set_option linter.unusedSimpArgs false
namespace Go.cV
open Go
section
variable {P:Program} {X:Nat→Nat→Prop} {base:Nat} {σ:ai} {β:Env} {w:World} {nm:Nat} {M:Nat→Nat→Prop}
theorem EW:∀ (cs:List ae) (o:Nat) (ck:List ae) (p:Nat),(cr cs o ck).getD p .undef=if o≤p∧p<o+ck.length∧p<cs.length then ck.getD (p - o) .undef else cs.getD p .undef
 | cs,o,[],p=>by simp only [cr,aR,cj];rw [if_neg (by omega)]
 | cs,o,a :: ck,p=>by
  rw [cr,EW (cs.set o a) (o+1) ck p]
  simp only [bh,au]
  by_cases e:p=o
  ·subst e
   rw [if_neg (by omega)]
   by_cases h:p<cs.length
   ·rw [if_pos (by omega)];simp [List.getD,h]
   ·rw [if_neg (by omega)];simp [List.getD,h]
  ·by_cases h:o+1≤p∧p<o+1+ck.length∧p<cs.length
   ·rw [if_pos h,if_pos (by omega),show p - o=p - (o+1)+1 by omega,bB]
   ·rw [if_neg h,if_neg (by omega)]
    simp [List.getD,bK (show o≠p by omega)]
theorem Ca (cur:Array Value) (o:Nat) (vs:List Value) (h:o+vs.length≤cur.size) (p:Nat) :
  ((cur.toList.take o++vs++cur.toList.drop (o+vs.length)).toArray).getD p undef=if o≤p∧p<o+vs.length then vs.getD (p - o) undef else cur.getD p undef:=by
 have hl:(cur.toList.take o).length=o:=by simp;omega
 rw [aj,List.getElem?_toArray,aj]
 by_cases h1:p<o
 ·rw [if_neg (by omega),cJ,cm (by omega)]
  simp [e9,h1]
 ·by_cases h2:p<o+vs.length
  ·rw [if_pos (by omega),cJ,bI (by omega),cm (by omega),hl];rfl
  ·rw [if_neg (by omega),bI (by simp;omega)]
   simp only [ay,hl,dJ]
   rw [show o+vs.length+(p - (o+vs.length))=p by omega];simp
theorem B9 (cur:Array Value) (o:Nat) (vs:List Value) (h:o+vs.length≤cur.size):(cur.toList.take o++vs++cur.toList.drop (o+vs.length)).toArray.size=cur.size:=by
 simp;omega
theorem Cl (hr:cF X base σ β w) {b:Nat} {cf kG:bE} (hb : σ[b]? = some (some cf)) {L:Loc} (hL : β b=some L) {w':World}
  (yq:w'.os=w.os) (q_:w'.tape=w.tape) (mH:w'.output=w.output) (oT:w'.heap.size=w.heap.size)
  (qV:∀ g,g≠L.g→w'.heap[g]? = w.heap[g]?)
  (m0:∀ off v,w.cell? ⟨L.g,off,none⟩=some v→¬ cf.mut L off→w'.cell? ⟨L.g,off,none⟩=some v)
  (xZ:(∀ o, ¬ cf.mut L o)→w'.heap[L.g]? = w.heap[L.g]?)
  (Dg:∀ off,kG.mut L off→cf.mut L off)
  {s:Sem Next} {v:Value} {r:ae} (eO:s.run P w = .ok (.value v) w'∨(s.run P w = .ok .skip w'∧v=undef))
  (j8:∀ M',dg w (MT X σ β) w' M'→fR w' M' β L kG)
  (hv:∀ M',dg w (MT X σ β) w' M'→bR w' M' β v r):cO P X base σ β w nm s r (b_ σ b kG):=by
 obtain ⟨L',h1,h2,h3,h4⟩:=hr.cf b cf hb
 obtain rfl:=aM (hL.symm.trans h1)
 have nE:∀ off,cf.mut L off→iQ σ β L.g off:=fun off h=>⟨b,cf,L,hb,hL,rfl,h⟩
 obtain ⟨k1,k2,k3,k4⟩:=Ec hr b L kG (σ':=b_ σ b kG) (β':=β) (w':=w') (DY _ _ _)
  (fun c x hc hx=>⟨zJ _ _ _ hc hx,fun Lc CO e=>hc (hr.inj c b x cf Lc L (zJ _ _ _ hc hx) hb CO hL e)⟩) (A6 _ _ _) hL (fun _ _=>rfl) (.inr hL)
  yq q_ mH (pc oT.symm) (fun g _ hg=>qV g hg) (fun off v hc hn=>m0 off v hc fun hm=>hn (nE off hm))
  (fun _ hn=>xZ fun o hm=>hn o (nE o hm)) (fun off h=>.inl (nE off (Dg off h))) h3 h2
 exact ⟨v,w',β,eO,k4 (j8 _ k2),hv _ k2,k1,fun _ _=>rfl,fun _ _ h=>h⟩
theorem Qf {t:TypeId} {l:eI} (hl:aC P t=some l) {v:Value} {a:ae} (hv:bR w M β v a) (hn:a.cells.length=l.sz) (hc:a.cells.all ae.cI=true) {g o:Nat} {c:Array Value} {e:TypeId}
  (hg:w.heap[g]? = some (.cells c e (0,0))) (hs:o+l.sz≤c.size) :
  (storeVar t ⟨g,o,none⟩ v).run P w = .ok () (w.setRow g (c.toList.take o++v.cells.toList++c.toList.drop (o+v.cells.toList.length)).toArray):=by
 obtain ⟨i,u,z,h1,h2,h3,h4,_⟩:=pW hl
 obtain ⟨EF,_,_,hv4⟩:=E6 hv hc
 have:=run_storeCells_at P g o e v.cells.toList 0 c w hg (by simp only [cj,bA];omega) hv4
 simp only [cj] at this
 simp only [storeVar,Sem.run_bind,tF h1,Result.andThen_ok]
 rw [if_neg (by omega)]
 exact this
theorem Hq (w:World) {g:Nat} {c c':Array Value} {e:TypeId} (hg:w.heap[g]? = some (.cells c e (0,0))) :
  (w.setRow g c').os=w.os∧(w.setRow g c').tape=w.tape∧(w.setRow g c').output=w.output∧(w.setRow g c').heap.size=w.heap.size∧(∀ k,k≠g→(w.setRow g c').heap[k]? = w.heap[k]?) ∧
   (w.setRow g c').heap[g]? = some (.cells c' e (0,0)) :=
 ⟨rfl,rfl,rfl,size_setRow _ _ _,fun k hk=>setRow_other w g k c' hk,setRow_heap w g c c' e (0,0) hg⟩
theorem Zr2 {x:ae} {cs:List ae} (h:cs.length=x.cells.length) (hc:cL x=false→cs.all ae.cI=true):(jj (cL x) cs).cells=cs:=by
 cases x with
 | agg l=>rfl
 | _ =>
  have h1:cs.length=1:=h
  match cs,h1 with
  | [a],_ =>
   have ha:=hc rfl
   simp only [jS,List.all_nil,n7] at ha
   cases a<;>first | rfl | (simp [ae.cI] at ha)
theorem Zvf (cs ck:List ae) (o:Nat) (h:ck.length=cs.length) (ho:o=0):cr cs o ck=ck:=by
 subst ho
 apply bO
 intro p
 by_cases hp:p<cs.length
 ·have h1:=EW cs 0 ck p
  rw [if_pos (by omega)] at h1
  have h2:p<(cr cs 0 ck).length:=by rw [uL];exact hp
  rw [aA h2,aA (by omega)]
  simp only [List.getD,aA h2,br,gE,aA (show p<ck.length by omega)] at h1
  rw [h1]
 ·rw [bq (by rw [uL];omega),bq (by omega)]
theorem EU (l:List ae) (i:Nat) (a:ae) (h:i<l.length):(l.set i a).getD i .undef=a:=by simp [List.getD,h]
theorem getD_set_ne (l:List ae) (i j:Nat) (a:ae) (h:i≠j):(l.set i a).getD j .undef=l.getD j .undef:=by simp [List.getD,bK h]
theorem bR.wy {v:Value} {b off:Nat} (h:bR w M β v (.ptr b off)):∃ L,β b=some L∧v = .pointer (some ⟨L.g,L.o+off,none⟩):=by
 cases h with | ptr hL=>exact ⟨_,hL,rfl⟩
theorem bR.yR {v:Value} {b i f:Nat} (h:bR w M β v (.rp b i f)):∃ L,β b=some L∧v = .pointer (some ⟨L.g,L.o+i*L.sz+f,none⟩):=by
 cases h with | rp hL=>exact ⟨_,hL,rfl⟩
theorem XT (hr:cF X base σ β w) {ρ:Operand→Value} {gU:Operand→ae} (dL:∀ x,bR w (MT X σ β) β (ρ x) (gU x)) {o:Oper} {t:TypeId} {p x:Operand} (ho:o.op = .store t p x)
  {l:eI} (hl:aC P t=some l) {σ':ai} (h:mg σ l (gU p) (gU x)=some σ'):cO P X base σ β w nm (execOp ρ o) .undef σ':=by
 unfold mg at h
 split at h
 ·rename_i hc
  obtain ⟨rD,kY⟩:=hc
  obtain ⟨EF,wg,_,_⟩:=E6 (dL x) kY
  have hp:=dL p
  split at h
  ·rename_i b off ED
   rw [ED] at hp
   split at h
   ·rename_i cs hb
    split at h
    ·rename_i hle
     cases h
     obtain ⟨L,h1,_,_,c,e,h2,h3,h4,h5⟩:=hr.cf b _ (jU hb)
     obtain ⟨L',hL,Nr⟩:=hp.wy
     ·obtain rfl:=aM (h1.symm.trans hL)
      have fP:=Qf hl (dL x) rD kY h2 (o:=off) (by omega)
      obtain ⟨f1,f2,f3,f4,f5,f6⟩:=Hq w (c':=(c.toList.take off++(ρ x).cells.toList++c.toList.drop (off+(ρ x).cells.toList.length)).toArray) h2
      refine Cl hr (jU hb) h1 f1 f2 f3 f4 (fun g hg=>f5 g hg) (fun _ _ _ hn=>absurd trivial hn) (fun hn=>absurd trivial (hn 0)) (fun _ _=>trivial) (.inr ⟨?_,rfl⟩) (fun M' hk=>?_) (fun M' _=>.undef _)
      ·simp only [execOp,ho,Instr.storeAt,Nr,Instr.sureAddr,Sem.run_bind,h3,bm,fP,Sem.run_pure,Result.andThen_ok]
      ·refine ⟨_,e,f6,h3,?_,fun k eA=>?_⟩
       ·rw [B9 _ _ _ (by simp only [bA];omega),uL];exact h4
       ·rw [uL] at eA
        rw [Ca _ _ _ (by simp only [bA];omega),EW]
        simp only [bA]
        by_cases fh:off≤k∧k<off+(ρ x).cells.size
        ·rw [if_pos fh,if_pos (by omega)]
         have:=wg (k - off) (by omega)
         rw [show (ρ x).cells.toList.getD (k - off) undef=(ρ x).cells.getD (k - off) undef by simp [List.getD,aj]]
         exact this.mono hk fun _ _ h=>h
        ·rw [if_neg fh,if_neg (by omega)]
         exact (h5 k eA).mono hk fun _ _ h=>h
    ·cases h
   ·cases h
  ·rename_i b i f ED
   rw [ED] at hp
   split at h
   ·rename_i es fz hb
    split at h
    ·rename_i hle
     obtain ⟨M6,M7,amI,amJ⟩:=hle
     cases h
     obtain ⟨L,h1,_,_,c,e,h2,h3,h4,h5,h6⟩:=hr.cf b _ (jU hb)
     obtain ⟨L',hL,Nr⟩:=hp.yR
     ·obtain rfl:=aM (h1.symm.trans hL)
      have ft:=h5 i M7
      have hmul:(i+1)*L.sz≤L.n*L.sz:=aW _ (by omega)
      rw [bH,dv] at hmul
      have Ew:fz*L.sz≤i*L.sz:=aW _ M6
      have fP:=Qf hl (dL x) rD kY h2 (o:=L.o+i*L.sz+f) (by omega)
      obtain ⟨f1,f2,f3,f4,f5,f6⟩:=Hq w (c':=(c.toList.take (L.o+i*L.sz+f)++(ρ x).cells.toList++c.toList.drop (L.o+i*L.sz+f+(ρ x).cells.toList.length)).toArray) h2
      have oU:L.o+i*L.sz+f+(ρ x).cells.toList.length≤c.size:=by simp only [bA];omega
      have Df:(jj (cL (es.getD i .undef)) (cr (es.getD i .undef).cells f (gU x).cells)).cells=cr (es.getD i .undef).cells f (gU x).cells:=by
       refine Zr2 (uL _ _ _) fun ha=>?_
       have h7:(es.getD i .undef).cells.length=1:=by
        revert ha
        cases es.getD i .undef<;>simp [cL,ae.cells]
       rw [Zvf _ _ _ (by omega) (by omega)];exact kY
      refine Cl (kG:=.row (es.set i (jj (cL (es.getD i .undef)) (cr (es.getD i .undef).cells f (gU x).cells))) fz) hr (jU hb) h1 f1 f2 f3 f4 (fun g hg=>f5 g hg) (fun off v gK hn=>?_) (fun hn=>absurd (ah _) (hn _)) (fun _ hm=>hm) (.inr ⟨?_,rfl⟩) (fun M' hk=>?_) (fun M' _=>.undef _)
      ·simp only [bE.mut,Nat.not_le] at hn
       rw [cell_of_row _ _ _ _ _ _ f6]
       rw [cell_of_row _ _ _ _ _ _ h2] at gK
       obtain ⟨bD,hv⟩:=aL.1 gK
       rw [tD (by rw [B9 _ _ _ oU];exact bD),Ca _ _ _ oU,if_neg (by omega),← tD bD];exact gK
      ·simp only [execOp,ho,Instr.storeAt,Nr,Instr.sureAddr,Sem.run_bind,fP,Sem.run_pure,Result.andThen_ok]
      ·refine ⟨_,e,f6,?_,by simpa using h4,fun j hj=>?_,fun j q hj hq=>?_⟩
       ·rw [B9 _ _ _ oU];exact h3
       ·simp only [bh] at hj
        by_cases e1:i=j
        ·subst e1
         rw [EU _ _ _ hj,Df,uL];exact ft
        ·rw [getD_set_ne _ _ _ _ e1];exact h5 j hj
       ·simp only [bh] at hj
        rw [Ca _ _ _ oU]
        simp only [bA]
        by_cases e1:i=j
        ·subst e1
         rw [EU _ _ _ hj,Df,EW]
         by_cases fh:f≤q∧q<f+(ρ x).cells.size
         ·rw [if_pos (by omega),if_pos (by omega)]
          have:=wg (q - f) (by omega)
          rw [show L.o+i*L.sz+q - (L.o+i*L.sz+f)=q - f by omega,show (ρ x).cells.toList.getD (q - f) undef=(ρ x).cells.getD (q - f) undef by simp [List.getD,aj]]
          exact this.mono hk fun _ _ h=>h
         ·rw [if_neg (by omega),if_neg (by omega)]
          exact (h6 i q hj hq).mono hk fun _ _ h=>h
        ·rw [getD_set_ne _ _ _ _ e1]
         have wT:¬ (L.o+i*L.sz+f≤L.o+j*L.sz+q∧L.o+j*L.sz+q<L.o+i*L.sz+f+(ρ x).cells.size):=by
          rintro ⟨a1,a2⟩
          rcases Nat.lt_or_gt_of_ne e1 with bD | bD
          ·have:(i+1)*L.sz≤j*L.sz:=aW _ bD
           rw [bH,dv] at this;omega
          ·have:(j+1)*L.sz≤i*L.sz:=aW _ bD
           rw [bH,dv] at this;omega
         rw [if_neg wT]
         exact (h6 j q hj hq).mono hk fun _ _ h=>h
    ·cases h
   ·cases h
  ·cases h
 ·cases h
end
end Go.cV
