/- Part 6 of my own framework and of the walks of functions: AbsI. -/
import Derived.Test.YtfjbdamcmiglgaaGreatOwn5
abbrev oU:=@Bool.and_true
abbrev b_:=@List.ext_getElem?
abbrev av:=@List.getElem?_eq_getElem
abbrev bt:=@List.getElem?_eq_none
abbrev pY:=@Nat.le_of_eq
abbrev bx:=@Option.getD_some
set_option linter.unusedVariables false
set_option linter.unusedSectionVars false
set_option linter.unusedSimpArgs false
namespace Go.dm
open Go
section
variable {P:Program} {X:Nat→Nat→Prop} {base:Nat} {σ:ai} {β:Env} {w:World} {nm:Nat} {M:Nat→Nat→Prop}
theorem Gd:∀ (cs:List ah) (o:Nat) (cD:List ah) (p:Nat),(cH cs o cD).getD p .undef=if o≤p∧p<o+cD.length∧p<cs.length then cD.getD (p - o) .undef else cs.getD p .undef
 | cs,o,[],p=>by simp only [cH,aS,cC];rw [if_neg (by omega)]
 | cs,o,a :: cD,p=>by
  rw [cH,Gd (cs.set o a) (o+1) cD p];simp only [bj,ax];by_cases e:p=o
  ·subst e;rw [if_neg (by omega)];by_cases h:p<cs.length
   ·rw [if_pos (by omega)];simp [List.getD,h]
   ·rw [if_neg (by omega)];simp [List.getD,h]
  ·by_cases h:o+1≤p∧p<o+1+cD.length∧p<cs.length
   ·rw [if_pos h,if_pos (by omega),show p - o=p - (o+1)+1 by omega,bI]
   ·rw [if_neg h,if_neg (by omega)];simp [List.getD,bX (show o≠p by omega)]
theorem C_ (cur:Array Value) (o:Nat) (vs:List Value) (h:o+vs.length≤cur.size) (p:Nat) :
  ((cur.toList.take o++vs++cur.toList.drop (o+vs.length)).toArray).getD p undef=if o≤p∧p<o+vs.length then vs.getD (p - o) undef else cur.getD p undef:=by
 have hl:(cur.toList.take o).length=o:=by simp;omega
 rw [ak,List.getElem?_toArray,ak];by_cases h1:p<o
 ·rw [if_neg (by omega),cU,cF (by omega)];simp [fI,h1]
 ·by_cases h2:p<o+vs.length
  ·rw [if_pos (by omega),cU,bT (by omega),cF (by omega),hl];rfl
  ·rw [if_neg (by omega),bT (by simp;omega)];simp only [az,hl,eo];rw [show o+vs.length+(p - (o+vs.length))=p by omega];simp
theorem C9 (cur:Array Value) (o:Nat) (vs:List Value) (h:o+vs.length≤cur.size):(cur.toList.take o++vs++cur.toList.drop (o+vs.length)).toArray.size=cur.size:=by
 simp;omega
theorem Dh (hr:cS X base σ β w) {b:Nat} {cw lu:bO} (hb : σ[b]? = some (some cw)) {L:Loc} (hL : β b=some L) {w':World}
  (zp:w'.os=w.os) (sr:w'.tape=w.tape) (nw:w'.output=w.output) (pJ:w'.heap.size=w.heap.size)
  (sg:∀ g,g≠L.g→w'.heap[g]? = w.heap[g]?)
  (mo:∀ off v,w.cell? ⟨L.g,off,none⟩=some v→¬ cw.mut L off→w'.cell? ⟨L.g,off,none⟩=some v)
  (y9:(∀ o, ¬ cw.mut L o)→w'.heap[L.g]? = w.heap[L.g]?)
  (Em:∀ off,lu.mut L off→cw.mut L off)
  {s:Sem Next} {v:Value} {r:ah} (ft:s.run P w = .ok (.value v) w'∨(s.run P w = .ok .skip w'∧v=undef))
  (jA:∀ M',dD w (MT X σ β) w' M'→gI w' M' β L lu)
  (hv:∀ M',dD w (MT X σ β) w' M'→cf w' M' β v r):c8 P X base σ β w nm s r (cr σ b lu):=by
 obtain ⟨L',h1,h2,h3,h4⟩:=hr.cw b cw hb;obtain rfl:=aP (hL.symm.trans h1);have ot:∀ off,cw.mut L off→jr σ β L.g off:=fun off h=>⟨b,cw,L,hb,hL,rfl,h⟩;obtain ⟨k1,k2,k3,k4⟩:=Fh hr b L lu (σ':=cr σ b lu) (β':=β) (w':=w') (E1 _ _ _)
  (fun c x hc hx=>⟨A1 _ _ _ hc hx,fun Lc DQ e=>hc (hr.inj c b x cw Lc L (A1 _ _ _ hc hx) hb DQ hL e)⟩) (Cc _ _ _) hL (fun _ _=>rfl) (.inr hL)
  zp sr nw (pY pJ.symm) (fun g _ hg=>sg g hg) (fun off v hc hn=>mo off v hc fun hm=>hn (ot off hm))
  (fun _ hn=>y9 fun o hm=>hn o (ot o hm)) (fun off h=>.inl (ot off (Em off h))) h3 h2
 exact ⟨v,w',β,ft,k4 (jA _ k2),hv _ k2,k1,fun _ _=>rfl,fun _ _ h=>h⟩
theorem S8 {t:TypeId} {l:fj} (hl:aF P t=some l) {v:Value} {a:ah} (hv:cf w M β v a) (hn:a.cells.length=l.sz) (hc:a.cells.all ah.cT=true) {g o:Nat} {c:Array Value} {e:TypeId}
  (hg:w.heap[g]? = some (.cells c e (0,0))) (hs:o+l.sz≤c.size) :
  (storeVar t ⟨g,o,none⟩ v).run P w = .ok () (w.setRow g (c.toList.take o++v.cells.toList++c.toList.drop (o+v.cells.toList.length)).toArray):=by
 obtain ⟨i,u,z,h1,h2,h3,h4,_⟩:=qE hl;obtain ⟨FW,_,_,hv4⟩:=Gp hv hc;have:=run_storeCells_at P g o e v.cells.toList 0 c w hg (by simp only [cC,bH];omega) hv4;simp only [cC] at this;simp only [storeVar,Sem.run_bind,uQ h1,Result.andThen_ok];rw [if_neg (by omega)];exact this
theorem IJ (w:World) {g:Nat} {c c':Array Value} {e:TypeId} (hg:w.heap[g]? = some (.cells c e (0,0))) :
  (w.setRow g c').os=w.os∧(w.setRow g c').tape=w.tape∧(w.setRow g c').output=w.output∧(w.setRow g c').heap.size=w.heap.size∧(∀ k,k≠g→(w.setRow g c').heap[k]? = w.heap[k]?) ∧
   (w.setRow g c').heap[g]? = some (.cells c' e (0,0)) :=
 ⟨rfl,rfl,rfl,size_setRow _ _ _,fun k hk=>setRow_other w g k c' hk,setRow_heap w g c c' e (0,0) hg⟩
theorem Zt8 {x:ah} {cs:List ah} (h:cs.length=x.cells.length) (hc:cX x=false→cs.all ah.cT=true):(jM (cX x) cs).cells=cs:=by
 cases x with
 | agg l=>rfl
 | _ =>
  have h1:cs.length=1:=h
  match cs,h1 with
  | [a],_ =>
   have ha:=hc rfl;simp only [kn,List.all_nil,oU] at ha;cases a<;>first | rfl | (simp [ah.cT] at ha)
theorem Zxi (cs cD:List ah) (o:Nat) (h:cD.length=cs.length) (ho:o=0):cH cs o cD=cD:=by
 subst ho;apply b_;intro p;by_cases hp:p<cs.length
 ·have h1:=Gd cs 0 cD p;rw [if_pos (by omega)] at h1;have h2:p<(cH cs 0 cD).length:=by rw [vS];exact hp
  rw [av h2,av (by omega)];simp only [List.getD,av h2,bx,ie,av (show p<cD.length by omega)] at h1;rw [h1]
 ·rw [bt (by rw [vS];omega),bt (by omega)]
theorem Gc (l:List ah) (i:Nat) (a:ah) (h:i<l.length):(l.set i a).getD i .undef=a:=by simp [List.getD,h]
theorem getD_set_ne (l:List ah) (i j:Nat) (a:ah) (h:i≠j):(l.set i a).getD j .undef=l.getD j .undef:=by simp [List.getD,bX h]
theorem cf.xu {v:Value} {b off:Nat} (h:cf w M β v (.ptr b off)):∃ L,β b=some L∧v = .pointer (some ⟨L.g,L.o+off,none⟩):=by
 cases h with | ptr hL=>exact ⟨_,hL,rfl⟩
theorem cf.zS {v:Value} {b i f:Nat} (h:cf w M β v (.rp b i f)):∃ L,β b=some L∧v = .pointer (some ⟨L.g,L.o+i*L.sz+f,none⟩):=by
 cases h with | rp hL=>exact ⟨_,hL,rfl⟩
theorem Yg4 (hr:cS X base σ β w) {ρ:Operand→Value} {iC:Operand→ah} (er:∀ x,cf w (MT X σ β) β (ρ x) (iC x)) {o:Oper} {t:TypeId} {p x:Operand} (ho:o.op = .store t p x)
  {l:fj} (hl:aF P t=some l) {σ':ai} (h:mS σ l (iC p) (iC x)=some σ'):c8 P X base σ β w nm (execOp ρ o) .undef σ':=by
 unfold mS at h;split at h
 ·rename_i hc;obtain ⟨sO,lJ⟩:=hc;obtain ⟨FW,xi,_,_⟩:=Gp (er x) lJ;have hp:=er p;split at h
  ·rename_i b off FQ;rw [FQ] at hp;split at h
   ·rename_i cs hb;split at h
    ·rename_i hle;cases h;obtain ⟨L,h1,_,_,c,e,h2,h3,h4,h5⟩:=hr.cw b _ (kq hb);obtain ⟨L',hL,PA⟩:=hp.xu
     ·obtain rfl:=aP (h1.symm.trans hL);have gx:=S8 hl (er x) sO lJ h2 (o:=off) (by omega);obtain ⟨f1,f2,f3,f4,f5,f6⟩:=IJ w (c':=(c.toList.take off++(ρ x).cells.toList++c.toList.drop (off+(ρ x).cells.toList.length)).toArray) h2;refine Dh hr (kq hb) h1 f1 f2 f3 f4 (fun g hg=>f5 g hg) (fun _ _ _ hn=>absurd trivial hn) (fun hn=>absurd trivial (hn 0)) (fun _ _=>trivial) (.inr ⟨?_,rfl⟩) (fun M' hk=>?_) (fun M' _=>.undef _)
      ·simp only [execOp,ho,Instr.storeAt,PA,Instr.sureAddr,Sem.run_bind,h3,bq,gx,Sem.run_pure,Result.andThen_ok]
      ·refine ⟨_,e,f6,h3,?_,fun k e7=>?_⟩
       ·rw [C9 _ _ _ (by simp only [bH];omega),vS];exact h4
       ·rw [vS] at e7;rw [C_ _ _ _ (by simp only [bH];omega),Gd];simp only [bH];by_cases fD:off≤k∧k<off+(ρ x).cells.size
        ·rw [if_pos fD,if_pos (by omega)];have:=xi (k - off) (by omega);rw [show (ρ x).cells.toList.getD (k - off) undef=(ρ x).cells.getD (k - off) undef by simp [List.getD,ak]];exact this.mono hk fun _ _ h=>h
        ·rw [if_neg fD,if_neg (by omega)];exact (h5 k e7).mono hk fun _ _ h=>h
    ·cases h
   ·cases h
  ·rename_i b i f FQ;rw [FQ] at hp;split at h
   ·rename_i es fz hb;split at h
    ·rename_i hle;obtain ⟨O9,O_,apA,apB⟩:=hle;cases h;obtain ⟨L,h1,_,_,c,e,h2,h3,h4,h5,h6⟩:=hr.cw b _ (kq hb);obtain ⟨L',hL,PA⟩:=hp.zS
     ·obtain rfl:=aP (h1.symm.trans hL);have fJ:=h5 i O_;have hmul:(i+1)*L.sz≤L.n*L.sz:=bf _ (by omega);rw [bQ,dL] at hmul;have FJ:fz*L.sz≤i*L.sz:=bf _ O9;have gx:=S8 hl (er x) sO lJ h2 (o:=L.o+i*L.sz+f) (by omega);obtain ⟨f1,f2,f3,f4,f5,f6⟩:=IJ w (c':=(c.toList.take (L.o+i*L.sz+f)++(ρ x).cells.toList++c.toList.drop (L.o+i*L.sz+f+(ρ x).cells.toList.length)).toArray) h2;have pK:L.o+i*L.sz+f+(ρ x).cells.toList.length≤c.size:=by simp only [bH];omega
      have El:(jM (cX (es.getD i .undef)) (cH (es.getD i .undef).cells f (iC x).cells)).cells=cH (es.getD i .undef).cells f (iC x).cells:=by
       refine Zt8 (vS _ _ _) fun ha=>?_;have h7:(es.getD i .undef).cells.length=1:=by
        revert ha;cases es.getD i .undef<;>simp [cX,ah.cells]
       rw [Zxi _ _ _ (by omega) (by omega)];exact lJ
      refine Dh (lu:=.row (es.set i (jM (cX (es.getD i .undef)) (cH (es.getD i .undef).cells f (iC x).cells))) fz) hr (kq hb) h1 f1 f2 f3 f4 (fun g hg=>f5 g hg) (fun off v ig hn=>?_) (fun hn=>absurd (ae _) (hn _)) (fun _ hm=>hm) (.inr ⟨?_,rfl⟩) (fun M' hk=>?_) (fun M' _=>.undef _)
      ·simp only [bO.mut,Nat.not_le] at hn;rw [cell_of_row _ _ _ _ _ _ f6];rw [cell_of_row _ _ _ _ _ _ h2] at ig;obtain ⟨bA,hv⟩:=aO.1 ig;rw [uO (by rw [C9 _ _ _ pK];exact bA),C_ _ _ _ pK,if_neg (by omega),← uO bA];exact ig
      ·simp only [execOp,ho,Instr.storeAt,PA,Instr.sureAddr,Sem.run_bind,gx,Sem.run_pure,Result.andThen_ok]
      ·refine ⟨_,e,f6,?_,by simpa using h4,fun j hj=>?_,fun j q hj hq=>?_⟩
       ·rw [C9 _ _ _ pK];exact h3
       ·simp only [bj] at hj;by_cases e1:i=j
        ·subst e1;rw [Gc _ _ _ hj,El,vS];exact fJ
        ·rw [getD_set_ne _ _ _ _ e1];exact h5 j hj
       ·simp only [bj] at hj;rw [C_ _ _ _ pK];simp only [bH];by_cases e1:i=j
        ·subst e1;rw [Gc _ _ _ hj,El,Gd];by_cases fD:f≤q∧q<f+(ρ x).cells.size
         ·rw [if_pos (by omega),if_pos (by omega)];have:=xi (q - f) (by omega);rw [show L.o+i*L.sz+q - (L.o+i*L.sz+f)=q - f by omega,show (ρ x).cells.toList.getD (q - f) undef=(ρ x).cells.getD (q - f) undef by simp [List.getD,ak]];exact this.mono hk fun _ _ h=>h
         ·rw [if_neg (by omega),if_neg (by omega)];exact (h6 i q hj hq).mono hk fun _ _ h=>h
        ·rw [getD_set_ne _ _ _ _ e1];have xQ:¬ (L.o+i*L.sz+f≤L.o+j*L.sz+q∧L.o+j*L.sz+q<L.o+i*L.sz+f+(ρ x).cells.size):=by
          rintro ⟨a1,a2⟩;rcases Nat.lt_or_gt_of_ne e1 with bA | bA
          ·have:(i+1)*L.sz≤j*L.sz:=bf _ bA;rw [bQ,dL] at this;omega
          ·have:(j+1)*L.sz≤i*L.sz:=bf _ bA;rw [bQ,dL] at this;omega
         rw [if_neg xQ];exact (h6 j q hj hq).mono hk fun _ _ h=>h
    ·cases h
   ·cases h
  ·cases h
 ·cases h
end
end Go.dm
