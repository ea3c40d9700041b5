/- Part 6 of my own framework and of the walks of functions: AbsI. -/
import Derived.Test.YtpgnahcljlclcaaGreatOwn5
set_option linter.unusedVariables false
set_option linter.unusedSectionVars false
set_option linter.unusedSimpArgs false
namespace Go.Abs
open Go
section
variable {P:Program} {X:Nat→Nat→Prop} {base:Nat} {σ:Store} {β:Env} {w:World} {nm:Nat} {M:Nat→Nat→Prop}
theorem Zd4:∀ (cs:List AVal) (o:Nat) (as_:List AVal) (p:Nat),(setMany cs o as_).getD p .undef=if o≤p∧p<o+as_.length∧p<cs.length then as_.getD (p - o) .undef else cs.getD p .undef
 | cs,o,[],p=>by simp only [setMany,List.length_nil,Nat.add_zero];rw [if_neg (by omega)]
 | cs,o,a :: as_,p=>by
  rw [setMany,Zd4 (cs.set o a) (o+1) as_ p]
  simp only [List.length_set,List.length_cons]
  by_cases e:p=o
  ·subst e
   rw [if_neg (by omega)]
   by_cases h:p<cs.length
   ·rw [if_pos (by omega)];simp [List.getD,h]
   ·rw [if_neg (by omega)];simp [List.getD,h]
  ·by_cases h:o+1≤p∧p<o+1+as_.length∧p<cs.length
   ·rw [if_pos h,if_pos (by omega),show p - o=p - (o+1)+1 by omega,List.getD_cons_succ]
   ·rw [if_neg h,if_neg (by omega)]
    simp [List.getD,List.getElem?_set_ne (show o≠p by omega)]
theorem Zcc (cur:Array Value) (o:Nat) (vs:List Value) (h:o+vs.length≤cur.size) (p:Nat) :
  ((cur.toList.take o++vs++cur.toList.drop (o+vs.length)).toArray).getD p undef=if o≤p∧p<o+vs.length then vs.getD (p - o) undef else cur.getD p undef:=by
 have hl:(cur.toList.take o).length=o:=by simp;omega
 rw [Array.getD_eq_getD_getElem?,List.getElem?_toArray,Array.getD_eq_getD_getElem?]
 by_cases h1:p<o
 ·rw [if_neg (by omega),List.append_assoc,List.getElem?_append_left (by omega)]
  simp [List.getElem?_take,h1]
 ·by_cases h2:p<o+vs.length
  ·rw [if_pos (by omega),List.append_assoc,List.getElem?_append_right (by omega),List.getElem?_append_left (by omega),hl];rfl
  ·rw [if_neg (by omega),List.getElem?_append_right (by simp;omega)]
   simp only [List.length_append,hl,List.getElem?_drop]
   rw [show o+vs.length+(p - (o+vs.length))=p by omega];simp
theorem Zce (cur:Array Value) (o:Nat) (vs:List Value) (h:o+vs.length≤cur.size):(cur.toList.take o++vs++cur.toList.drop (o+vs.length)).toArray.size=cur.size:=by
 simp;omega
theorem Zes (hr:RelS X base σ β w) {b:Nat} {blk blk':Blk} (hb : σ[b]? = some (some blk)) {L:Loc} (hL : β b=some L) {w':World}
  (hos:w'.os=w.os) (htape:w'.tape=w.tape) (hout:w'.output=w.output) (hsize:w'.heap.size=w.heap.size)
  (hother:∀ g,g≠L.g→w'.heap[g]? = w.heap[g]?)
  (hcell:∀ off v,w.cell? ⟨L.g,off,none⟩=some v→¬ blk.mut L off→w'.cell? ⟨L.g,off,none⟩=some v)
  (hblk:(∀ o, ¬ blk.mut L o)→w'.heap[L.g]? = w.heap[L.g]?)
  (hmut:∀ off,blk'.mut L off→blk.mut L off)
  {s:Sem Next} {v:Value} {r:AVal} (hrun:s.run P w = .ok (.value v) w'∨(s.run P w = .ok .skip w'∧v=undef))
  (hok:∀ M',Keeps w (MT X σ β) w' M'→BlkOk w' M' β L blk')
  (hv:∀ M',Keeps w (MT X σ β) w' M'→Rep w' M' β v r):OpOut P X base σ β w nm s r (setS σ b blk'):=by
 obtain ⟨L',h1,h2,h3,h4⟩:=hr.blk b blk hb
 obtain rfl:=Option.some.inj (hL.symm.trans h1)
 have hmof:∀ off,blk.mut L off→Mof σ β L.g off:=fun off h=>⟨b,blk,L,hb,hL,rfl,h⟩
 obtain ⟨k1,k2,k3,k4⟩:=Zg2 hr b L blk' (σ':=setS σ b blk') (β':=β) (w':=w') (Zeg _ _ _)
  (fun c x hc hx=>⟨Zc5 _ _ _ hc hx,fun Lc hLc e=>hc (hr.inj c b x blk Lc L (Zc5 _ _ _ hc hx) hb hLc hL e)⟩) (Zc0 _ _ _) hL (fun _ _=>rfl) (.inr hL)
  hos htape hout (Nat.le_of_eq hsize.symm) (fun g _ hg=>hother g hg) (fun off v hc hn=>hcell off v hc fun hm=>hn (hmof off hm))
  (fun _ hn=>hblk fun o hm=>hn o (hmof o hm)) (fun off h=>.inl (hmof off (hmut off h))) h3 h2
 exact ⟨v,w',β,hrun,k4 (hok _ k2),hv _ k2,k1,fun _ _=>rfl,fun _ _ h=>h⟩
theorem Zik {t:TypeId} {l:Lay} (hl:layOf P t=some l) {v:Value} {a:AVal} (hv:Rep w M β v a) (hn:a.cells.length=l.sz) (hc:a.cells.all AVal.isCell=true) {g o:Nat} {c:Array Value} {e:TypeId}
  (hg:w.heap[g]? = some (.cells c e (0,0))) (hs:o+l.sz≤c.size) :
  (storeVar t ⟨g,o,none⟩ v).run P w = .ok () (w.setRow g (c.toList.take o++v.cells.toList++c.toList.drop (o+v.cells.toList.length)).toArray):=by
 obtain ⟨i,u,z,h1,h2,h3,h4,_⟩:=Zao hl
 obtain ⟨hv1,_,_,hv4⟩:=Zfp hv hc
 have:=run_storeCells_at P g o e v.cells.toList 0 c w hg (by simp only [Nat.add_zero,Array.length_toList];omega) hv4
 simp only [Nat.add_zero] at this
 simp only [storeVar,Sem.run_bind,Zb9 h1,Result.andThen_ok]
 rw [if_neg (by omega)]
 exact this
theorem Zdu (w:World) {g:Nat} {c c':Array Value} {e:TypeId} (hg:w.heap[g]? = some (.cells c e (0,0))) :
  (w.setRow g c').os=w.os∧(w.setRow g c').tape=w.tape∧(w.setRow g c').output=w.output∧(w.setRow g c').heap.size=w.heap.size∧(∀ k,k≠g→(w.setRow g c').heap[k]? = w.heap[k]?) ∧
   (w.setRow g c').heap[g]? = some (.cells c' e (0,0)) :=
 ⟨rfl,rfl,rfl,size_setRow _ _ _,fun k hk=>setRow_other w g k c' hk,setRow_heap w g c c' e (0,0) hg⟩
theorem Zpd {x:AVal} {cs:List AVal} (h:cs.length=x.cells.length) (hc:isAggA x=false→cs.all AVal.isCell=true):(mkElem (isAggA x) cs).cells=cs:=by
 cases x with
 | agg l=>rfl
 | _ =>
  have h1:cs.length=1:=h
  match cs,h1 with
  | [a],_ =>
   have ha:=hc rfl
   simp only [List.all_cons,List.all_nil,Bool.and_true] at ha
   cases a<;>first | rfl | (simp [AVal.isCell] at ha)
theorem Zsh (cs as_:List AVal) (o:Nat) (h:as_.length=cs.length) (ho:o=0):setMany cs o as_=as_:=by
 subst ho
 apply List.ext_getElem?
 intro p
 by_cases hp:p<cs.length
 ·have h1:=Zd4 cs 0 as_ p
  rw [if_pos (by omega)] at h1
  have h2:p<(setMany cs 0 as_).length:=by rw [Zap];exact hp
  rw [List.getElem?_eq_getElem h2,List.getElem?_eq_getElem (by omega)]
  simp only [List.getD,List.getElem?_eq_getElem h2,Option.getD_some,Nat.sub_zero,List.getElem?_eq_getElem (show p<as_.length by omega)] at h1
  rw [h1]
 ·rw [List.getElem?_eq_none (by rw [Zap];omega),List.getElem?_eq_none (by omega)]
theorem Zcm (l:List AVal) (i:Nat) (a:AVal) (h:i<l.length):(l.set i a).getD i .undef=a:=by simp [List.getD,h]
theorem getD_set_ne (l:List AVal) (i j:Nat) (a:AVal) (h:i≠j):(l.set i a).getD j .undef=l.getD j .undef:=by simp [List.getD,List.getElem?_set_ne h]
theorem Rep.ptr_inv {v:Value} {b off:Nat} (h:Rep w M β v (.ptr b off)):∃ L,β b=some L∧v = .pointer (some ⟨L.g,L.o+off,none⟩):=by
 cases h with | ptr hL=>exact ⟨_,hL,rfl⟩
theorem Rep.rp_inv {v:Value} {b i f:Nat} (h:Rep w M β v (.rp b i f)):∃ L,β b=some L∧v = .pointer (some ⟨L.g,L.o+i*L.sz+f,none⟩):=by
 cases h with | rp hL=>exact ⟨_,hL,rfl⟩
theorem Ycc (hr:RelS X base σ β w) {ρ:Operand→Value} {ρa:Operand→AVal} (hρ:∀ x,Rep w (MT X σ β) β (ρ x) (ρa x)) {o:Oper} {t:TypeId} {p x:Operand} (ho:o.op = .store t p x)
  {l:Lay} (hl:layOf P t=some l) {σ':Store} (h:storeA σ l (ρa p) (ρa x)=some σ'):OpOut P X base σ β w nm (execOp ρ o) .undef σ':=by
 unfold storeA at h
 split at h
 ·rename_i hc
  obtain ⟨hc1,hc2⟩:=hc
  obtain ⟨hv1,hv2,_,_⟩:=Zfp (hρ x) hc2
  have hp:=hρ p
  split at h
  ·rename_i b off hpe
   rw [hpe] at hp
   split at h
   ·rename_i cs hb
    split at h
    ·rename_i hle
     cases h
     obtain ⟨L,h1,_,_,c,e,h2,h3,h4,h5⟩:=hr.blk b _ (Zae hb)
     obtain ⟨L',hL,hpv⟩:=hp.ptr_inv
     ·obtain rfl:=Option.some.inj (h1.symm.trans hL)
      have hst:=Zik hl (hρ x) hc1 hc2 h2 (o:=off) (by omega)
      obtain ⟨f1,f2,f3,f4,f5,f6⟩:=Zdu w (c':=(c.toList.take off++(ρ x).cells.toList++c.toList.drop (off+(ρ x).cells.toList.length)).toArray) h2
      refine Zes hr (Zae hb) h1 f1 f2 f3 f4 (fun g hg=>f5 g hg) (fun _ _ _ hn=>absurd trivial hn) (fun hn=>absurd trivial (hn 0)) (fun _ _=>trivial) (.inr ⟨?_,rfl⟩) (fun M' hk=>?_) (fun M' _=>.undef _)
      ·simp only [execOp,ho,Instr.storeAt,hpv,Instr.sureAddr,Sem.run_bind,h3,Nat.zero_add,hst,Sem.run_pure,Result.andThen_ok]
      ·refine ⟨_,e,f6,h3,?_,fun k hk'=>?_⟩
       ·rw [Zce _ _ _ (by simp only [Array.length_toList];omega),Zap];exact h4
       ·rw [Zap] at hk'
        rw [Zcc _ _ _ (by simp only [Array.length_toList];omega),Zd4]
        simp only [Array.length_toList]
        by_cases hin:off≤k∧k<off+(ρ x).cells.size
        ·rw [if_pos hin,if_pos (by omega)]
         have:=hv2 (k - off) (by omega)
         rw [show (ρ x).cells.toList.getD (k - off) undef=(ρ x).cells.getD (k - off) undef by simp [List.getD,Array.getD_eq_getD_getElem?]]
         exact this.mono hk fun _ _ h=>h
        ·rw [if_neg hin,if_neg (by omega)]
         exact (h5 k hk').mono hk fun _ _ h=>h
    ·cases h
   ·cases h
  ·rename_i b i f hpe
   rw [hpe] at hp
   split at h
   ·rename_i es fz hb
    split at h
    ·rename_i hle
     obtain ⟨hle1,hle2,hle3,hle4⟩:=hle
     cases h
     obtain ⟨L,h1,_,_,c,e,h2,h3,h4,h5,h6⟩:=hr.blk b _ (Zae hb)
     obtain ⟨L',hL,hpv⟩:=hp.rp_inv
     ·obtain rfl:=Option.some.inj (h1.symm.trans hL)
      have hsz:=h5 i hle2
      have hmul:(i+1)*L.sz≤L.n*L.sz:=Nat.mul_le_mul_right _ (by omega)
      rw [Nat.add_mul,Nat.one_mul] at hmul
      have hfz:fz*L.sz≤i*L.sz:=Nat.mul_le_mul_right _ hle1
      have hst:=Zik hl (hρ x) hc1 hc2 h2 (o:=L.o+i*L.sz+f) (by omega)
      obtain ⟨f1,f2,f3,f4,f5,f6⟩:=Zdu w (c':=(c.toList.take (L.o+i*L.sz+f)++(ρ x).cells.toList++c.toList.drop (L.o+i*L.sz+f+(ρ x).cells.toList.length)).toArray) h2
      have hspl:L.o+i*L.sz+f+(ρ x).cells.toList.length≤c.size:=by simp only [Array.length_toList];omega
      have hmk:(mkElem (isAggA (es.getD i .undef)) (setMany (es.getD i .undef).cells f (ρa x).cells)).cells=setMany (es.getD i .undef).cells f (ρa x).cells:=by
       refine Zpd (Zap _ _ _) fun ha=>?_
       have h7:(es.getD i .undef).cells.length=1:=by
        revert ha
        cases es.getD i .undef<;>simp [isAggA,AVal.cells]
       rw [Zsh _ _ _ (by omega) (by omega)];exact hc2
      refine Zes (blk':=.row (es.set i (mkElem (isAggA (es.getD i .undef)) (setMany (es.getD i .undef).cells f (ρa x).cells))) fz) hr (Zae hb) h1 f1 f2 f3 f4 (fun g hg=>f5 g hg) (fun off v hcl hn=>?_) (fun hn=>absurd (Nat.le_refl _) (hn _)) (fun _ hm=>hm) (.inr ⟨?_,rfl⟩) (fun M' hk=>?_) (fun M' _=>.undef _)
      ·simp only [Blk.mut,Nat.not_le] at hn
       rw [cell_of_row _ _ _ _ _ _ f6]
       rw [cell_of_row _ _ _ _ _ _ h2] at hcl
       obtain ⟨hlt,hv⟩:=Array.getElem?_eq_some_iff.1 hcl
       rw [Zan (by rw [Zce _ _ _ hspl];exact hlt),Zcc _ _ _ hspl,if_neg (by omega),← Zan hlt];exact hcl
      ·simp only [execOp,ho,Instr.storeAt,hpv,Instr.sureAddr,Sem.run_bind,hst,Sem.run_pure,Result.andThen_ok]
      ·refine ⟨_,e,f6,?_,by simpa using h4,fun j hj=>?_,fun j q hj hq=>?_⟩
       ·rw [Zce _ _ _ hspl];exact h3
       ·simp only [List.length_set] at hj
        by_cases e1:i=j
        ·subst e1
         rw [Zcm _ _ _ hj,hmk,Zap];exact hsz
        ·rw [getD_set_ne _ _ _ _ e1];exact h5 j hj
       ·simp only [List.length_set] at hj
        rw [Zcc _ _ _ hspl]
        simp only [Array.length_toList]
        by_cases e1:i=j
        ·subst e1
         rw [Zcm _ _ _ hj,hmk,Zd4]
         by_cases hin:f≤q∧q<f+(ρ x).cells.size
         ·rw [if_pos (by omega),if_pos (by omega)]
          have:=hv2 (q - f) (by omega)
          rw [show L.o+i*L.sz+q - (L.o+i*L.sz+f)=q - f by omega,show (ρ x).cells.toList.getD (q - f) undef=(ρ x).cells.getD (q - f) undef by simp [List.getD,Array.getD_eq_getD_getElem?]]
          exact this.mono hk fun _ _ h=>h
         ·rw [if_neg (by omega),if_neg (by omega)]
          exact (h6 i q hj hq).mono hk fun _ _ h=>h
        ·rw [getD_set_ne _ _ _ _ e1]
         have hdis:¬ (L.o+i*L.sz+f≤L.o+j*L.sz+q∧L.o+j*L.sz+q<L.o+i*L.sz+f+(ρ x).cells.size):=by
          rintro ⟨a1,a2⟩
          rcases Nat.lt_or_gt_of_ne e1 with hlt | hlt
          ·have:(i+1)*L.sz≤j*L.sz:=Nat.mul_le_mul_right _ hlt
           rw [Nat.add_mul,Nat.one_mul] at this;omega
          ·have:(j+1)*L.sz≤i*L.sz:=Nat.mul_le_mul_right _ hlt
           rw [Nat.add_mul,Nat.one_mul] at this;omega
         rw [if_neg hdis]
         exact (h6 j q hj hq).mono hk fun _ _ h=>h
    ·cases h
   ·cases h
  ·cases h
 ·cases h
end
end Go.Abs
