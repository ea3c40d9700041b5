/- Part 44 of my own framework and of the walks of functions: AcsV, Sb, AcsW, Sc, Sd, AcsX, Se, Sf, Sg, Sh, Si, AcsY, AcsZ, Sj, Sk, Sl, Sm, Sn, So, Sp, Sq. -/
import Derived.Test.YtfjbdamcmiglgaaGreatOwn43
import Derived.Lib.Overlaps
import Derived.Sort.Row
import Derived.Sort.Grow
abbrev pS:=@List.append_inj
abbrev j9:=@List.filter_append
abbrev pU:=@List.find?_cons
abbrev j_:=@List.find?_eq_none
abbrev pa:=@List.length_pos_of_mem
abbrev mo:=@List.mem_map_of_mem
abbrev bQ:=@List.mem_of_find?_eq_some
abbrev cX:=@List.mem_reverse
abbrev c_:=@List.of_mem_zip
abbrev gC:=@List.reverse_reverse
abbrev cZ:=@List.set_cons_succ
abbrev df:=@List.set_cons_zero
abbrev bY:=@List.take_append_of_le_length
abbrev iy:=@List.zip_cons_cons
abbrev jw:=@Nat.lt_or_ge
set_option linter.unusedVariables false
set_option linter.unusedSectionVars false
set_option linter.unusedSimpArgs false
namespace Go.cV
open Go
section
variable {P:Program} {X:Nat→Nat→Prop} {base:Nat} {σ:ai} {β β':Env} {w w':World}
theorem O2 {M:Nat→Nat→Prop} {v:Value} {s:ae} {b off n sz:Nat} (h:bR w M β v s) (hs:s = .os b off n sz∨∃ c,s = .oc b off n c sz) (hn : 0<n):∃ L c,β b=some L∧L.sz=sz∧n≤c∧off+c≤L.n∧v = .slice (some ⟨L.g,L.o+off*L.sz,none⟩) n c:=by
 rcases hs with rfl | ⟨c,rfl⟩
 ·rcases h.rj with ⟨rfl,_⟩ | ⟨L,c,hL,ju,h1,h2,rfl⟩
  ·exact absurd hn (iH _)
  ·exact ⟨L,c,hL,ju,h1,h2,rfl⟩
 ·rcases h.sV with ⟨rfl,_⟩ | ⟨L,hL,ju,h1,h2,rfl⟩
  ·exact absurd hn (iH _)
  ·exact ⟨L,_,hL,ju,h1,h2,rfl⟩
theorem aq.rW {g : FuncId} {fn : Func} (hf : P.funcs[g]? = some fn) (eE : (fn.name == "runtime.NumGoroutine") = false) (hb : fn.body.isNone = true) (hn : Extern.findNext fn = none) {tS tR e : TypeId}
  (he:Extern.find fn=some (Extern.SlicesOverlaps.overlaps #[tS,tS] #[tR])) (ht:P.underlying tS=some (.slice e)) {l:eI} (hl:aC P e=some l) {s t:ae} {b1 b2 o1 o2 n1 n2 sz:Nat}
  (hs:s = .os b1 o1 n1 sz∨∃ c,s = .oc b1 o1 n1 c sz) (wZ:t = .os b2 o2 n2 sz∨∃ c,t = .oc b2 o2 n2 c sz) (hz : 0<sz) (h1 : 0<n1) (h2 : 0<n2) {es1 es2:List ae} {fz1 fz2:Nat} (qJ:bF σ b1=some (.row es1 fz1)) (uT:bF σ b2=some (.row es2 fz2)) (dX:b1≠b2)
  {K:ae→ai→Prop} (hk:K (.bool false) σ):aq P (.fn g [] []) [s,t] σ K:=by
 refine aq.sh ?_
 intro X base β w vs I1 U9 h3 fr cs h4
 obtain ⟨x,y,rfl⟩:∃ x y,vs = #[x,y]:=by
  simp at U9
  match vs,U9 with
  | ⟨[x,y]⟩,_=>exact ⟨x,y,rfl⟩
 have hx:=h3 0 (by simp)
 have hy:=h3 1 (by simp)
 simp only [bf,bn,bg,bB] at hx hy
 have ex:(#[x,y]:Array Value).getD 0 undef=x:=rfl
 have ey:(#[x,y]:Array Value).getD 1 undef=y:=rfl
 rw [ex] at hx
 rw [ey] at hy
 obtain ⟨L1,c1,k1,k2,k3,k4,rfl⟩:=O2 hx hs h1
 obtain ⟨L2,c2,q1,q2,q3,q4,rfl⟩:=O2 hy wZ h2
 obtain ⟨A2,m1,m2,m3,d1,e1,m4,m5,m6,m7⟩:=I1.cf b1 _ (jU qJ)
 obtain rfl:=aM (m1.symm.trans k1)
 obtain ⟨y3,u1,u2,u3,d2,e2,u4,u5,u6,u7⟩:=I1.cf b2 _ (jU uT)
 obtain rfl:=aM (u1.symm.trans q1)
 have MV:A2.g≠y3.g:=fun e=>dX (I1.inj b1 b2 _ _ A2 y3 (jU qJ) (jU uT) k1 q1 e)
 obtain ⟨ti,_,z,qs,_⟩:=pW hl
 have GQ : 0<d2.size:=by
  have : 1*1≤y3.n*y3.sz:=Nat.mul_le_mul (by omega) (by omega)
  omega
 have GL:=Lib.run_overlaps_apart (P:=P) w tS tR e ht ti.size (fun w=>tF qs) ⟨A2.g,A2.o+o1*A2.sz,none⟩ ⟨y3.g,y3.o+o2*y3.sz,none⟩ n1 c1 n2 c2 MV e1 e2 d1.size d2.size
  (by simp only [World.shape?,m4]) (by simp only [World.shape?,u4]) (by omega) (by simp [World.frozen?,m4]) (by simp [World.frozen?,m4])
 have eO:(callFunc g #[.slice (some ⟨A2.g,A2.o+o1*A2.sz,none⟩) n1 c1, .slice (some ⟨y3.g,y3.o+o2*y3.sz,none⟩) n2 c2]).run P w = .ok (.value (.bool false)) w:=by
  rw [run_callFunc_extern hf eE hb hn he,GL];rfl
 refine ⟨_,σ,β, .bool false,w,hk,I1, .bool false,Ext.refl _ _ _ _,ah _,fr.finish (.bool false),cs,w,?_, .refl _ _⟩
 simp only [stepG.apply,if_true,Sem.runT_eq,eO,GStep.bare_after,GStep.bare_go]
theorem Tt {enc:Int→Value} (ts:List Int) (off:Nat) (c:Array Value) (k:Nat):(Sort.putCells enc off ts.toArray c).getD k undef=if off≤k∧k<off+ts.length∧k<c.size then enc (ts.getD (k - off) 0) else c.getD k undef:=by
 simp only [Sort.putCells,aj,Array.getElem?_mapIdx]
 by_cases hk:k<c.size
 ·simp only [aB hk,bw,br,List.size_toArray]
  by_cases h:off≤k∧k<off+ts.length
  ·rw [if_pos h,if_pos ⟨h.1,h.2,hk⟩]
   have h':k - off<ts.length:=by omega
   rw [getElem!_pos ts.toArray _ (by simpa using h')]
   simp [List.getD,h']
  ·rw [if_neg h,if_neg (fun hh=>h ⟨hh.1,hh.2.1⟩)]
 ·simp [Array.getElem?_eq_none (dP hk),hk]
theorem aq.AV {g : FuncId} {fn : Func} {c : Code} (hf : P.funcs[g]? = some fn) (hb : fn.body = some c) (eE : (fn.name == "runtime.NumGoroutine") = false) {zs ts : List Int} {b : Nat} (vI : bF σ b = some (.row (zs.map (.int .i64)) 0)) (hlen : ts.length = zs.length)
  (h:∀ (w:World) (cf off cap:Nat),Sort.Holds (Value.int .i64) w cf off zs.toArray→cf<w.heap.size→Calls P g #[.slice (some ⟨cf,off,none⟩) zs.length cap] w fun e w'=>e = .returned (.tuple #[])∧∃ n os,w'=Sort.grow (Sort.putRow (Value.int .i64) (Sort.ahead w n) cf off ts.toArray) os)
  (h0:∀ (a:Option Addr) (cap:Nat) (w:World),Calls P g #[.slice a 0 cap] w fun e w'=>e = .returned (.tuple #[])∧w'=w)
  {K:ae→ai→Prop} (hK:K (.dy []) (b_ σ b (.row (ts.map (.int .i64)) 0))):aq P (.fn g [] []) [.os b 0 zs.length 1] σ K:=by
 refine aq.sh ?_
 intro X base β w vs h1 h2 h3 fr cs zl
 have qS : ¬ fn.name = "runtime.NumGoroutine" := by simpa using eE
 obtain ⟨x,rfl⟩:∃ x,vs = #[x]:=by
  simp at h2
  exact p7.1 h2
 have wR:=h3 0 (by simp)
 simp only [bf,bn,bg] at wR
 have hx:(#[x]:Array Value).getD 0 undef=x:=rfl
 rw [hx] at wR
 have vE:∀ (w':World) (M':Nat→Nat→Prop),bR w' M' β (.tuple #[]) (.dy []):=fun w' M'=>.dy rfl fun k hk=>by simp at hk
 have kg:∀ us,(callFunc g us).run P w = .ok (.enter g us) w:=fun us=>by simp [callFunc,hf,qS,hb]
 rcases wR.rj with ⟨hz,a,L,hL,ju,rfl⟩ | ⟨L,cap,hL,ju,jf,yc,rfl⟩
 ·have Du:zs=[]:=aY hz
  have rG:ts=[]:=aY (by omega)
  subst Du;subst rG
  obtain ⟨e,w',Bq,⟨rfl,rfl⟩,hc,Bz,hl⟩:=h0 a 0 w (fr :: cs)
  rw [KG vI] at hK
  refine ⟨_,σ,β, .tuple #[],w',hK,h1,vE _ _,Ext.refl _ _ _ _,ah _,Frame.enter P g _ .normal,fr :: cs,w',?_,Steps.trans hc (.one (step_leave_returned hl))⟩
  simp only [stepG.apply,if_true,Sem.runT_eq,kg,GStep.bare_after,GStep.bare_go]
  split
  ·rename_i d s a k e;exact absurd e (zl _ _ _ _ _)
  ·rfl
 ·obtain ⟨L',q1,q2,q3,cc,ec,q4,q5,q6,q7,q8⟩:=h1.cf b _ (jU vI)
  obtain rfl:=aM (q1.symm.trans hL)
  have hlm:(zs.map (ae.int .i64)).length=zs.length:=by simp
  have ft:L'.n*L'.sz=L'.n:=by rw [ju,Nat.mul_one]
  have m0:∀ j,j<zs.length→cc.getD (L'.o+j) undef = .int .i64 (zs.getD j 0):=fun j hj=>by
   have:=q8 j 0 (by omega) (by omega)
   rw [ju,Nat.mul_one,cj] at this
   rw [show (zs.map (ae.int .i64)).getD j ae.undef = .int .i64 (zs.getD j 0) by simp [List.getD,hj]] at this
   exact this.eg
  have Gk:L'.g<w.heap.size:=(aL.1 q4).1
  have hH:Sort.Holds (Value.int .i64) w L'.g (L'.o+0*L'.sz) zs.toArray:=fun j hj=>by
   have rF:j<zs.length:=by simpa using hj
   rw [pf,cj]
   refine ⟨?_,by simp [World.frozen?,q4]⟩
   rw [cell_of_row _ _ _ _ _ _ q4,tD (by omega),m0 j rF,getElem!_pos zs.toArray j (by simpa using rF)]
   simp [List.getD,rF]
  obtain ⟨e,w',Bq,⟨rfl,n,os,rfl⟩,hc,Bz,hl⟩:=h w L'.g (L'.o+0*L'.sz) cap hH Gk (fr :: cs)
  rw [pf,cj] at hc hl
  have jg:∀ k,k<w.heap.size→k≠L'.g→(Sort.grow (Sort.putRow (Value.int .i64) (Sort.ahead w n) L'.g L'.o ts.toArray) os).heap[k]? = w.heap[k]?:=fun k hk dX=>by
   rw [Sort.heap_grow_old _ _ (by rw [Sort.size_putRow];exact hk)]
   simp only [Sort.putRow,Sort.mapBlock,Sort.ahead]
   rw [iJ,if_neg (fY dX)]
  have ot:(Sort.grow (Sort.putRow (Value.int .i64) (Sort.ahead w n) L'.g L'.o ts.toArray) os).heap[L'.g]? = some (.cells (Sort.putCells (Value.int .i64) L'.o ts.toArray cc) ec (0,0)):=by
   rw [Sort.heap_grow_old _ _ (by rw [Sort.size_putRow];exact Gk)]
   simp only [Sort.putRow,Sort.mapBlock,Sort.ahead]
   rw [iJ,if_pos rfl,q4];rfl
  have F9:(Sort.putCells (Value.int .i64) L'.o ts.toArray cc).size=cc.size:=by simp [Sort.putCells]
  have nE:∀ o',L'.o≤o'→iQ σ β L'.g o':=fun o' Jc=>⟨b,_,L',jU vI,hL,rfl,by simp only [bE.mut];omega⟩
  obtain ⟨k1,k2,k3,k4⟩:=Ec h1 b L' (.row (ts.map (.int .i64)) 0) (σ':=b_ σ b (.row (ts.map (.int .i64)) 0)) (β':=β) (w':=Sort.grow (Sort.putRow (Value.int .i64) (Sort.ahead w n) L'.g L'.o ts.toArray) os) (DY _ _ _)
   (fun c x hc hx=>⟨zJ _ _ _ hc hx,fun Lc CO e=>hc (h1.inj c b x _ Lc L' (zJ _ _ _ hc hx) (jU vI) CO hL e)⟩) (A6 _ _ _) hL (fun _ _=>rfl) (.inr hL)
   rfl rfl rfl (by simp) jg
   (fun off v gK sO=>by
    have aZ:off<L'.o:=jv fun hle=>sO (nE off hle)
    rw [cell_of_row _ _ _ _ _ _ ot]
    rw [cell_of_row _ _ _ _ _ _ q4] at gK
    obtain ⟨bD,hv⟩:=aL.1 gK
    rw [tD (by rw [F9];exact bD),Tt,if_neg (by omega),← tD bD];exact gK)
   (fun _ sO=>absurd (nE _ (ah _)) (sO _)) (fun off hm=>.inl (nE off (by simp only [bE.mut] at hm;omega))) q3 q2
  have hrel:=k4 ⟨_,ec,ot,by rw [F9];exact q5,by simp only [ao] at q6 ⊢;omega,fun i hi=>by
    simp only [ao] at hi
    rw [show (ts.map (ae.int .i64)).getD i ae.undef = .int .i64 (ts.getD i 0) by simp [List.getD,hi],ju];rfl,fun i j hi hj=>by
    simp only [ao] at hi
    obtain rfl:j=0:=by omega
    rw [show (ts.map (ae.int .i64)).getD i ae.undef = .int .i64 (ts.getD i 0) by simp [List.getD,hi],ju,Nat.mul_one,cj,Tt]
    simp only [ao] at q6
    rw [if_pos ⟨by omega,by omega,by omega⟩,show L'.o+i - L'.o=i by omega]
    exact .int _ _⟩
  refine ⟨_,_,β, .tuple #[],_,hK,hrel,vE _ _,⟨k1.os,k1.tape,k1.output,k1.size,k1.cell,k1.block,k1.iC,fun _ _=>rfl⟩,A6 _ _ _,Frame.enter P g _ .normal,fr :: cs,w,?_,Steps.trans hc (.one (step_leave_returned hl))⟩
  have ho:L'.o+0*L'.sz=L'.o:=by omega
  simp only [bf,bn,ho]
  simp only [stepG.apply,if_true,Sem.runT_eq,kg,GStep.bare_after,GStep.bare_go]
  split
  ·rename_i d s a k e;exact absurd e (zl _ _ _ _ _)
  ·rfl
end
end Go.cV
namespace Go.Proofs
open Go Go.cV
attribute [local go_sem] Nat.reduceAdd Nat.reduceSub Nat.reduceMul Nat.reduceLeDiff Nat.reduceEqDiff Nat.reduceBEq Nat.reduceLT Nat.le_refl Int.natCast_zero Nat.sub_zero List.length_map Int.toNat_natCast Int.natCast_one Int.reduceEq Int.reduceLT Int.reduceLE Int.reduceNe Int.sub_zero Int.zero_add Int.toNat_one
mutual
def Tm.decEq:(a b:Tm)→Decidable (a=b)
 | .mk h ts, .mk k us=>match Int.instDecidableEq h k,Tm.xN ts us with
  | .isTrue e1, .isTrue e2=>.isTrue (by rw [e1,e2])
  | .isFalse e1,_=>.isFalse fun e=>e1 (Tm.mk.inj e).1
  | _, .isFalse e2=>.isFalse fun e=>e2 (Tm.mk.inj e).2
def Tm.xN:(a b:List Tm)→Decidable (a=b)
 | [],[]=>.isTrue rfl
 | [],_ :: _=>.isFalse fun e=>by cases e
 | _ :: _,[]=>.isFalse fun e=>by cases e
 | a :: l,b :: m=>match Tm.decEq a b,Tm.xN l m with
  | .isTrue e1, .isTrue e2=>.isTrue (by rw [e1,e2])
  | .isFalse e1,_=>.isFalse fun e=>e1 (jT e).1
  | _, .isFalse e2=>.isFalse fun e=>e2 (jT e).2
end
instance:DecidableEq Tm:=Tm.decEq
theorem PK (t:Tm):t = .mk t.head t.args:=by cases t;rfl
theorem oA (t:Tm):t.size=1+Tm.bG t.args:=by cases t;simp [Tm.size,Tm.args]
theorem Sl {l:List Tm} {x:Tm}:((l++[x]).map Tm.aN).getD l.length .undef=x.aN:=by simp [List.getD]
theorem Sm {l:List Tm} {x:Tm}:((l++[x]).map Tm.aN).take l.length=l.map Tm.aN:=by simp
theorem Yss {bs:Nat} {z:List ae} {k:KA} (hb:bs≤65536) (hz:z.length=2) (xs:List Tm):eL ⟨2,true,bs,z,k⟩ (xs.map Tm.aN):=by
 refine ⟨fun x hx=>?_,ek,hb,hz⟩
 obtain ⟨t,_,rfl⟩:=bW.1 hx
 rw [fq];exact ⟨rfl,rfl⟩
@[go_sem] theorem Ck (xs:List Tm):eL ⟨2,true,32,[.int .i64 0, .aU], .struct⟩ (xs.map Tm.aN)=True:=eq_true (Yss (by decide) rfl xs)
theorem zS (a b:Tm) (ha:a.size<1000000000) (hb:b.size<1000000000):aJ Tryz.prog 103 [a.aN,b.aN] (.bool (decide (a=b))):=by
 refine aJ.begin (rs:=[.tmp 4]) (m:=54) 1000 Tryz.func103 rfl rfl rfl (by decide) trivial ?_
 simp only [go_sem,dc]
 refine aK.draw [⟨none,[],[3]⟩,⟨some 2,[2],[3]⟩,⟨none,[],[2]⟩,⟨some 3,[3],[2]⟩,⟨none,[],[3]⟩] 2 4 mixed rfl rfl (by decide) ?_
 simp only [go_sem,dA,ah,Nat.reduceLT]
 refine aK.go 1000 ?_
 simp only [go_sem]
 refine aK.gS (ι:={p:List Tm×List Tm // p.1.length=p.2.length∧(p.1=p.2↔a=b)∧Tm.bG p.1≤a.size∧Tm.bG p.2≤b.size}) 1000
  (fun p=>fD 56 [(4, .bool false),(5, .os 0 0 p.1.1.length 2),(6, .os 1 0 p.1.2.length 2)]) (fun p=>[some (.row (p.1.1.map Tm.aN) 0),some (.row (p.1.2.map Tm.aN) 0)]) (fun p=>Tm.bG p.1.1)
  ⟨([a],[b]),by simp [Tm.bG]⟩ [(0,2),(1,3)] ?_ (fun _=>by simp) ?_
 ·refine iF rfl ?_
  simp only [go_sem,bP,cz,aI,aS,dc]
 ·rintro ⟨⟨L,R⟩,hlen,wV,sg,zr⟩
  simp only at hlen wV sg zr
  rcases List.eq_nil_or_concat L with rfl | ⟨l,x,rfl⟩
  ·obtain rfl:R=[]:=aY hlen.symm
   simp only [go_sem,cC,lI]
   refine aK.go 1000 ?_
   simp only [go_sem]
   simp [wV.1 rfl]
  ·rcases List.eq_nil_or_concat R with rfl | ⟨r,y,rfl⟩
   ·simp at hlen
   simp only [List.concat_eq_append,ay,au,aR,bm,Nat.add_right_cancel_iff] at hlen
   simp only [List.concat_eq_append,DQ,Tm.bG,cj] at wV sg zr ⊢
   have hll:=qb l
   have Nv:=qb r
   have nG:(0:Int)<((l.length+1:Nat):Int):=by omega
   have hw:IntKind.i64.wrap (((l.length+1:Nat):Int) - 1)=(l.length:Int):=by rw [ep (by omega)];omega
   simp only [go_sem,ay,nG,hw]
   refine aK.draw [⟨none,[],[2,3]⟩,⟨none,[],[2,3]⟩,⟨none,[],[2,3]⟩,⟨none,[],[2,3]⟩,⟨none,[],[2,3]⟩,⟨none,[],[2,3]⟩,⟨none,[],[2,3]⟩,⟨none,[],[2,3]⟩,⟨some 2,[2],[3]⟩,⟨some 3,[3],[2]⟩,⟨none,[2],[]⟩,⟨none,[3],[]⟩] 2 4 mixed rfl rfl (by decide) ?_
   have NA:((l++[x]).map Tm.aN).getD r.length .undef=x.aN:=by rw [← hlen];exact Sl
   have tv:((l++[x]).map Tm.aN).length=r.length+1:=by simp [hlen]
   have Aw:((r++[y]).map Tm.aN).length=r.length+1:=by simp
   have VK:((l++[x]).map Tm.aN).take r.length=l.map Tm.aN:=by rw [← hlen];exact Sm
   simp only [go_sem,dA,hlen,bV,Sl,NA,tv,Aw,fq]
   (repeat ((with_reducible refine And.intro ?_ ?_); ·omega))
   refine aK.go 1000 ?_
   simp only [go_sem]
   refine aK.draw [] 4 4 mixed rfl rfl (by decide) ?_
   simp only [go_sem,dA,bV]
   (repeat ((with_reducible refine And.intro ?_ ?_); ·omega))
   refine aK.go 1000 ?_
   have oT:Tm.size x=1+Tm.bG x.args:=oA x
   have VJ:Tm.size y=1+Tm.bG y.args:=oA y
   have hxa:=qb x.args
   have wk:=qb y.args
   by_cases c1:x.head=y.head
   ·by_cases c2:x.args.length=y.args.length
    ·have FO:(x.args.length:Int)=y.args.length:=by omega
     simp only [go_sem,c1,FO,ao]
     refine aK.draw [.no, .no, .no,⟨some 4,[0,4],[]⟩,⟨none,[],[0,4]⟩,⟨none,[],[0,4]⟩,⟨none,[],[0,4]⟩,⟨some 5,[1,5],[]⟩] 4 6 mixed rfl rfl (by decide) ?_
     simp only [go_sem,dA,ay]
     (repeat ((with_reducible refine And.intro ?_ ?_); ·omega))
     refine aK.go 1000 ?_
     rw [VK,Sm,← cN,← cN]
     refine ⟨⟨(l++x.args,r++y.args),⟨by simp [hlen,c2],?_,?_,?_⟩⟩,[(0,4),(1,5)],iF rfl ?_,?_⟩
     ·simp only
      rw [← wV]
      constructor
      ·intro e
       obtain ⟨e1,e2⟩:=pS e hlen
       rw [e1,PK x,PK y,c1,e2]
      ·intro e
       obtain ⟨e1,e2⟩:=pS e hlen
       simp only [gx,and_true] at e2
       rw [e1,e2]
     ·simp only [DQ];omega
     ·simp only [DQ];omega
     ·simp only [go_sem,ay,bP,cz (bP _),hlen]
     ·simp only [DQ,Tm.bG];omega
    ·have FO:¬ (x.args.length:Int)=y.args.length:=by omega
     have dX:¬ a=b:=by
      rw [← wV]
      intro e
      obtain ⟨e1,e2⟩:=pS e hlen
      simp only [gx,and_true] at e2
      exact c2 (by rw [e2])
     simp only [go_sem,c1,FO]
     refine aK.go 1000 ?_
     simp only [go_sem]
     simp [dX]
   ·have dX:¬ a=b:=by
     rw [← wV]
     intro e
     obtain ⟨e1,e2⟩:=pS e hlen
     simp only [gx,and_true] at e2
     exact c1 (by rw [e2])
    simp only [go_sem,c1]
    refine aK.go 1000 ?_
    simp only [go_sem]
    simp [dX]
end Go.Proofs
namespace Go.cV
open Go
def jF (P:Program) (g:FuncId) (args:List ae) (r0:ae) (uY:ai):Prop:=bS P g args [] (fun r σ'=>r=r0∧σ' = uY)∧r0.low uY.length∧bt uY.length uY
def up (n b:Nat):Nat:=b+n
def AZ (n:Nat) (τ:ai):ai:=τ.map (Option.map (dG (up n)))
section
variable {P:Program} {X:Nat→Nat→Prop} {base:Nat} {σ:ai} {β β':Env} {w w':World}
theorem aq.tree {g:FuncId} {first captured args args':List ae} {K:ae→ai→Prop} (bs:List Nat) (hp:kz (among bs) σ args' (first++args++captured))
  (h:bS P g args' (fA (among bs) 0 σ) K):aq P (.fn g first captured) args σ K:=by
 refine aq.sh ?_
 intro X base β w vs h1 h2 h3 fr cs h4
 have nU:=zL (among bs) σ
 generalize yB:fA (among bs) 0 σ = kU at *
 have hf:=nU.oq
 have xp:=h1.oq hf
 obtain ⟨e1,e2⟩:=tJ xp nU args' hp
 have e3:∀ k,k<args'.length→bR w (MT X kU β) β (vs.getD k undef) (args'.getD k .undef):=fun k eA=>(e2 k eA).1 _ ((h3 k (by omega)).mono (A_ hf) (fun _ _ h=>h))
 obtain ⟨r',σ',β',v,w',g0,g1,g2,g3,g4,g5⟩:=h X base β w vs xp (by omega) e3 fr cs h4
 refine ⟨r',σ',β',v,w',g0,g1,g2,⟨g3.os,g3.tape,g3.output,g3.size,fun g o v hc hn=>g3.cell g o v hc fun hm=>hn (hm.oq hf),fun g hg hn=>g3.block g hg fun o hm=>hn o (hm.oq hf),fun g o hm=>(g3.iC g o hm).imp (fun h=>h.oq hf) id,fun b hb=>g3.env b (by rw [hf.len];exact hb)⟩,by rw [hf.len] at g4;exact g4,g5⟩
theorem bS.v {F:Frame→List Frame→Sem Next→World→Value→World→Prop} {g:FuncId} {args:List ae} {K:ae→ai→Prop} (h:gP P F g args σ K):dt P F (.fn g [] []) args σ K :=
 aq.sh (by simpa using h)
theorem dt.c {F:Frame→List Frame→Sem Next→World→Value→World→Prop} {g:FuncId} {args:List ae} {K:ae→ai→Prop} (h:dt P F (.fn g [] []) args σ K):gP P F g args σ K:=by
 intro X base β w vs h1 h2 h3 fr cs h4
 obtain ⟨r,σ',β',v,w',q,g1,g2,g3,g4,g5⟩:=h X base β w (.func (.func g) #[] #[]) vs h1 (.fn rfl rfl (fun k hk=>by simp at hk) fun k hk=>by simp at hk) h2 h3 fr cs h4
 refine ⟨r,σ',β',v,w',q,g1,g2,g3,g4,?_⟩
 have:(do let d ← Deferred.ofValue (.func (.func g) #[] #[]) vs;invoke d.target d.args:Sem Next)=callFunc g vs:=by
  show callFunc g (#[]++vs++#[])=callFunc g vs
  simp
 rw [← this];exact g5
theorem PU (n:Nat):om 0 n=up n:=funext fun b=>by simp [om,up]
theorem jF.at {g:FuncId} {args:List ae} {r0:ae} {uY:ai} (hc:jF P g args r0 uY) (hl:bx 0 args) {K:ae→ai→Prop} (hk:K (dI (up σ.length) r0) (σ++AZ σ.length uY)):bS P g args σ K:=by
 refine dt.c ?_
 have:=aq.BZ (P:=P) (σ:=[]) (τ:=σ) (f:=.fn g [] []) (args:=args) (K:=K) ⟨trivial,trivial⟩ hl trivial ((bS.v hc.1).mono ?_)
 ·simpa using this
 rintro r σ' ⟨rfl,rfl⟩
 refine ⟨σ',fx _,av _,hc.2.2,hc.2.1,?_⟩
 have e:lU ([]:ai).length σ.length σ σ' = σ++AZ σ.length σ':=by
  simp [lU,PU,AZ]
 rw [e]
 have e2:om ([]:ai).length σ.length=up σ.length:=PU _
 rw [e2];exact hk
theorem aq.sT {g:FuncId} {first captured args args':List ae} {K:ae→ai→Prop} {r0:ae} {uY:ai} (bs:List Nat) (hc:jF P g args' r0 uY) (hp:kz (among bs) σ args' (first++args++captured)) (hl:bx 0 args')
  (hk:K (dI (up σ.length) r0) (fA (among bs) 0 σ++AZ σ.length uY)):aq P (.fn g first captured) args σ K:=by
 refine aq.tree bs hp (hc.at hl ?_)
 rw [Ie];exact hk
theorem jF.begin {g:FuncId} {fn:Func} {c:Code} {args:List ae} {r0:ae} {uY:ai} {m:Nat} {rs:List ResultVar} (n:Nat) (hf:P.funcs[g]? = some fn) (hb:fn.body=some c) (hr:fn.results.toList=rs) (hm:fn.ntmps - args.length=m)
  (eE : (fn.name == "runtime.NumGoroutine") = false) (h1 : r0.low uY.length) (h2 : bt uY.length uY)
  (h:dW P ⟨0,none⟩ (qm P rs (my (fun r σ'=>r=r0∧σ' = uY) 0)) n [.code c] .normal (args++List.replicate m .undef) []):jF P g args r0 uY :=
 ⟨bS.oe n hf hb hr hm eE h,h1,h2⟩
theorem z7 {n:Nat}:AZ n []=[]:=rfl
theorem zV {n:Nat} {τ:ai}:AZ n (none :: τ)=none :: AZ n τ:=rfl
theorem zW {n:Nat} {b:bE} {τ:ai}:AZ n (some b :: τ)=some (dG (up n) b) :: AZ n τ:=rfl
theorem z8 {π:Nat→Nat} {b o n s:Nat}:dI π (.os b o n s) = .os (π b) o n s:=rfl
theorem xk {π:Nat→Nat} {es:List ae} {fz:Nat}:dG π (.row es fz) = .row (dY π es) fz:=rfl
end
end Go.cV
namespace Go.Proofs
open Go Go.cV
attribute [local go_sem] Nat.reduceAdd Nat.reduceSub Nat.reduceMul Nat.reduceLeDiff Nat.reduceEqDiff Nat.reduceBEq Nat.reduceLT Nat.le_refl Int.natCast_zero Nat.sub_zero List.length_map Int.toNat_natCast Int.natCast_one Int.reduceEq Int.reduceLT Int.reduceLE Int.reduceNe Int.sub_zero Int.zero_add Int.toNat_one
def cP (l:List (List Li)):List ae:=l.map fun c=>.ps 5 (lits c)
theorem mr (l:List (List Li)):(cP l).length=l.length:=by simp [cP]
theorem eZ {n:Nat} (l:List (List Li)):bx n (cP l):=uN fun c _=>ct c
theorem y_ {l:List (List Li)} {i:Nat} (h:i<l.length):(cP l).getD i .undef = .ps 5 (lits l[i]):=by simp [cP,List.getD,h]
@[go_sem] theorem LS (l:List Li):eL ⟨5,true,72,[.bool false, .int .i64 0, .aU, .int .i64 0, .aU], .struct⟩ (lits l)=True:=eq_true (by
 refine ⟨fun x hx=>?_,by decide,by decide,rfl⟩
 obtain ⟨t,_,rfl⟩:=bW.1 hx
 rw [ku];exact ⟨rfl,rfl⟩)
@[go_sem] theorem Yui (l:List (List Li)):eL ⟨1,false,24,[.aU], .slice⟩ (cP l)=True:=eq_true (by
 refine ⟨fun x hx=>?_,by decide,by decide,rfl⟩
 obtain ⟨t,_,rfl⟩:=bW.1 hx
 exact ⟨rfl,rfl⟩)
@[go_sem] theorem Yov (l:List Int):eL ⟨1,false,8,[.int .i64 0], .int .i64⟩ (ints l)=True:=eq_true (by
 refine ⟨fun x hx=>?_,by decide,by decide,rfl⟩
 obtain ⟨t,_,rfl⟩:=bW.1 hx
 exact ⟨rfl,rfl⟩)
theorem EZ (l:List Tm) (h:l≠[]) (hl:l.length≤1000000000):jF Tryz.prog 200 [.ps 2 (l.map Tm.aN)] (.os 1 0 l.length 2) [none,some (.row (l.map Tm.aN) 0)]:=by
 have h0:¬ l.length=0:=fun e=>h (aY e)
 refine jF.begin (rs:=[.tmp 2]) (m:=7) 1000 Tryz.func200 rfl rfl rfl rfl (by simp [go_sem]) (by simp [go_sem,bP]) ?_
 simp only [go_sem,ao,h0]
 (repeat ((with_reducible refine And.intro ?_ ?_); ·omega))
 rw [fL]
 exact ⟨_,fx _,av _,by simp [go_sem,bP],by simp [go_sem],by simp,rfl⟩
theorem Zv2:bS Tryz.prog 200 [.ps 2 []] [] (fun r σ'=>r = .aU∧σ'=[]∨r = .os 1 0 0 2∧σ'=[none,some (.row [] 0)]):=by
 refine bS.oe (rs:=[.tmp 2]) (m:=7) 1000 Tryz.func200 rfl rfl rfl rfl ?_
 simp only [go_sem]
 refine ⟨?_,by simp [eL],?_⟩
 ·rw [fL];exact ⟨[],fx _,ah _,trivial,trivial, .inl ⟨rfl,rfl⟩⟩
 ·rw [fL];exact ⟨_,fx _,av _,by simp [go_sem],by simp [go_sem], .inr ⟨rfl,rfl⟩⟩
theorem Hz (l:List Li) (h:l≠[]) (hl:l.length≤1000000000):jF Tryz.prog 72 [.ps 5 (lits l)] (.os 1 0 l.length 5) [none,some (.row (lits l) 0)]:=by
 have h0:¬ l.length=0:=fun e=>h (aY e)
 refine jF.begin (rs:=[.tmp 2]) (m:=7) 1000 Tryz.func72 rfl rfl rfl rfl (by simp [go_sem]) (by simp [go_sem,ct]) ?_
 simp only [go_sem,fO,h0]
 (repeat ((with_reducible refine And.intro ?_ ?_); ·omega))
 rw [fL]
 exact ⟨_,fx _,av _,by simp [go_sem,ct],by simp [go_sem],by simp,rfl⟩
theorem Rt (l:List (List Li)) (h:l≠[]) (hl:l.length≤1000000000):jF Tryz.prog 27 [.ps 1 (cP l)] (.os 1 0 l.length 1) [none,some (.row (cP l) 0)]:=by
 have h0:¬ l.length=0:=fun e=>h (aY e)
 refine jF.begin (rs:=[.tmp 2]) (m:=7) 1000 Tryz.func27 rfl rfl rfl rfl (by simp [go_sem]) (by simp [go_sem,eZ]) ?_
 simp only [go_sem,mr,h0]
 (repeat ((with_reducible refine And.intro ?_ ?_); ·omega))
 rw [fL]
 exact ⟨_,fx _,av _,by simp [go_sem,eZ],by simp [go_sem],by simp,rfl⟩
theorem Qp:bS Tryz.prog 27 [.ps 1 []] [] (fun r σ'=>r = .aU∧σ'=[]∨r = .os 1 0 0 1∧σ'=[none,some (.row [] 0)]):=by
 refine bS.oe (rs:=[.tmp 2]) (m:=7) 1000 Tryz.func27 rfl rfl rfl rfl ?_
 simp only [go_sem]
 refine ⟨?_,by simp [eL],?_⟩
 ·rw [fL];exact ⟨[],fx _,ah _,trivial,trivial, .inl ⟨rfl,rfl⟩⟩
 ·rw [fL];exact ⟨_,fx _,av _,by simp [go_sem],by simp [go_sem], .inr ⟨rfl,rfl⟩⟩
theorem Zuc (l:List Int) (h:l≠[]) (hl:l.length≤1000000000):jF Tryz.prog 207 [.ps 1 (ints l)] (.os 1 0 l.length 1) [none,some (.row (ints l) 0)]:=by
 have h0:¬ l.length=0:=fun e=>h (aY e)
 refine jF.begin (rs:=[.tmp 2]) (m:=7) 1000 Tryz.func207 rfl rfl rfl rfl (by simp [go_sem]) (by simp [go_sem,dp]) ?_
 simp only [go_sem,kV,h0]
 (repeat ((with_reducible refine And.intro ?_ ?_); ·omega))
 rw [fL]
 exact ⟨_,fx _,av _,by simp [go_sem,dp],by simp [go_sem],by simp,rfl⟩
theorem Zqz:bS Tryz.prog 207 [.ps 1 []] [] (fun r σ'=>r = .aU∧σ'=[]∨r = .os 1 0 0 1∧σ'=[none,some (.row [] 0)]):=by
 refine bS.oe (rs:=[.tmp 2]) (m:=7) 1000 Tryz.func207 rfl rfl rfl rfl ?_
 simp only [go_sem]
 refine ⟨?_,by simp [eL],?_⟩
 ·rw [fL];exact ⟨[],fx _,ah _,trivial,trivial, .inl ⟨rfl,rfl⟩⟩
 ·rw [fL];exact ⟨_,fx _,av _,by simp [go_sem],by simp [go_sem], .inr ⟨rfl,rfl⟩⟩
theorem zZ {σ:ai} {b:Nat} {x:bE} (h:bF σ b=some x):b < σ.length:=(aH.1 (jU h)).1
theorem Zze (σ:ai) (c:ae) (p:Li→Bool) (l:List Li) (hl:l.length<2 ^ 62) (hs:bt σ.length σ) (hc:c.low σ.length)
  (hp:∀ (i:Nat) (h:i<l.length),aq Tryz.prog c [l[i].aN] σ (fun r σ'=>r = .bool (p l[i])∧σ' = σ)) :
  aq Tryz.prog (.fn 101 [] []) [.ps 5 (lits l),c] σ (fun r σ'=>r = .int .i64 (dH p l 0)∧σ' = σ):=by
 refine aq.begin (rs:=[.tmp 4]) (m:=17) 1000 Tryz.func101 rfl rfl rfl rfl rfl ?_
 simp only [go_sem,fO]
 refine aK.c9 (ι:={i:Nat // i≤l.length∧dH p (l.drop i) i=dH p l 0}) 1000 (fun i=>fD 19 [(0, .ps 5 (lits l)),(1,c),(7, .int .i64 l.length),(8, .int .i64 i.1)]) (fun _=>σ) (fun i=>l.length - i.1) ⟨0,by simp⟩ ?_ (fun _=>ah _) ?_
 ·simp only [go_sem,ct,fO,hc,hs]
  exact fx σ
 ·rintro ⟨i,hi,aO⟩
  by_cases bD:(i:Int)<l.length
  ·have aZ:i<l.length:=by omega
   have hd:dH p (l.drop i) i=if p l[i] then (i:Int) else dH p (l.drop (i+1)) ((i:Int)+1):=by
    rw [ak aZ];rfl
   simp only [go_sem,bD,fO,tG aZ,ku]
   (repeat ((with_reducible refine And.intro ?_ ?_); ·omega))
   refine (hp i aZ).mono ?_
   rintro r σ' ⟨rfl,rfl⟩
   refine aK.go 1000 ?_
   cases e:p l[i] with
   | true =>
    rw [hd,e,if_pos rfl] at aO
    simp only [go_sem]
    refine aK.go 1000 ?_
    simp only [go_sem,← aO]
    rw [fL];exact ⟨σ',fx σ',ah _,hs,trivial,rfl,rfl⟩
   | false =>
    rw [hd,e,if_neg (by decide)] at aO
    simp only [go_sem]
    refine ⟨⟨i+1,aZ,aO⟩,?_,by simp only;omega⟩
    simp only [go_sem,ct,hc,hs]
    rw [ep (by omega)];exact ⟨rfl,fx σ'⟩
  ·have dR:i=l.length:=by omega
   subst dR
   rw [aV] at aO
   simp only [go_sem,bD]
   refine aK.go 1000 ?_
   simp only [go_sem,← aO]
   rw [fL];exact ⟨σ,fx σ,ah _,hs,trivial,rfl,rfl⟩
theorem Hi (σ:ai) (c:ae) (p:Li→Bool) (l:List Li) (hl:l.length<2 ^ 62) (hs:bt σ.length σ) (hc:c.low σ.length)
  (hp:∀ (i:Nat) (h:i<l.length),aq Tryz.prog c [l[i].aN] σ (fun r σ'=>r = .bool (p l[i])∧σ' = σ)) :
  aq Tryz.prog (.fn 63 [] []) [.ps 5 (lits l),c] σ (fun r σ'=>r = .bool (l.any p)∧σ' = σ):=by
 refine aq.begin (rs:=[.tmp 4]) (m:=7) 1000 Tryz.func63 rfl rfl rfl rfl rfl ?_
 simp only [go_sem]
 refine (Zze σ c p l hl hs hc hp).mono ?_
 rintro r σ' ⟨rfl,rfl⟩
 refine aK.go 1000 ?_
 simp only [go_sem]
 rw [fL,Ci p l 0 (by omega)];exact ⟨σ',fx σ',ah _,hs,trivial,rfl,rfl⟩
theorem QC (σ:ai) {b:Nat} (c:ae) (p:Li→Bool) (l:List Li) (hb:bF σ b=some (.row (lits l) 0)) (hl:l.length<2 ^ 62) (hs:bt σ.length σ) (hc:c.low σ.length)
  (hp:∀ (i:Nat) (h:i<l.length),aq Tryz.prog c [l[i].aN] σ (fun r σ'=>r = .bool (p l[i])∧σ' = σ)) :
  aq Tryz.prog (.fn 101 [] []) [.os b 0 l.length 5,c] σ (fun r σ'=>r = .int .i64 (dH p l 0)∧σ' = σ):=by
 refine aq.begin (rs:=[.tmp 4]) (m:=17) 1000 Tryz.func101 rfl rfl rfl rfl rfl ?_
 simp only [go_sem,fO]
 refine aK.c9 (ι:={i:Nat // i≤l.length∧dH p (l.drop i) i=dH p l 0}) 1000 (fun i=>fD 19 [(0, .os b 0 l.length 5),(1,c),(7, .int .i64 l.length),(8, .int .i64 i.1)]) (fun _=>σ) (fun i=>l.length - i.1) ⟨0,by simp⟩ ?_ (fun _=>ah _) ?_
 ·simp only [go_sem,ct,fO,hc,hs]
  exact ⟨fx σ,zZ hb⟩
 ·rintro ⟨i,hi,aO⟩
  by_cases bD:(i:Int)<l.length
  ·have aZ:i<l.length:=by omega
   have hd:dH p (l.drop i) i=if p l[i] then (i:Int) else dH p (l.drop (i+1)) ((i:Int)+1):=by
    rw [ak aZ];rfl
   simp only [go_sem,bD,fO,tG aZ,ku,hb]
   (repeat ((with_reducible refine And.intro ?_ ?_); ·omega))
   refine (hp i aZ).mono ?_
   rintro r σ' ⟨rfl,rfl⟩
   refine aK.go 1000 ?_
   cases e:p l[i] with
   | true =>
    rw [hd,e,if_pos rfl] at aO
    simp only [go_sem]
    refine aK.go 1000 ?_
    simp only [go_sem,← aO]
    rw [fL];exact ⟨σ',fx σ',ah _,hs,trivial,rfl,rfl⟩
   | false =>
    rw [hd,e,if_neg (by decide)] at aO
    simp only [go_sem]
    refine ⟨⟨i+1,aZ,aO⟩,?_,by simp only;omega⟩
    simp only [go_sem,ct,hc,hs]
    rw [ep (by omega)];exact ⟨rfl,fx σ',zZ hb⟩
  ·have dR:i=l.length:=by omega
   subst dR
   rw [aV] at aO
   simp only [go_sem,bD]
   refine aK.go 1000 ?_
   simp only [go_sem,← aO]
   rw [fL];exact ⟨σ,fx σ,ah _,hs,trivial,rfl,rfl⟩
theorem Rb (σ:ai) (c:ae) (p:Tm→Bool) (l:List Tm) (hl:l.length<2 ^ 62) (hs:bt σ.length σ) (hc:c.low σ.length)
  (hp:∀ (i:Nat) (h:i<l.length),aq Tryz.prog c [l[i].aN] σ (fun r σ'=>r = .bool (p l[i])∧σ' = σ)) :
  aq Tryz.prog (.fn 174 [] []) [.ps 2 (l.map Tm.aN),c] σ (fun r σ'=>r = .int .i64 (dH p l 0)∧σ' = σ):=by
 refine aq.begin (rs:=[.tmp 4]) (m:=17) 1000 Tryz.func174 rfl rfl rfl rfl rfl ?_
 simp only [go_sem,ao]
 refine aK.c9 (ι:={i:Nat // i≤l.length∧dH p (l.drop i) i=dH p l 0}) 1000 (fun i=>fD 19 [(0, .ps 2 (l.map Tm.aN)),(1,c),(7, .int .i64 l.length),(8, .int .i64 i.1)]) (fun _=>σ) (fun i=>l.length - i.1) ⟨0,by simp⟩ ?_ (fun _=>ah _) ?_
 ·simp only [go_sem,bP,ao,hc,hs]
  exact fx σ
 ·rintro ⟨i,hi,aO⟩
  by_cases bD:(i:Int)<l.length
  ·have aZ:i<l.length:=by omega
   have hd:dH p (l.drop i) i=if p l[i] then (i:Int) else dH p (l.drop (i+1)) ((i:Int)+1):=by
    rw [ak aZ];rfl
   simp only [go_sem,bD,ao,nP aZ,fq]
   (repeat ((with_reducible refine And.intro ?_ ?_); ·omega))
   have GJ:=hp i aZ
   rw [dc] at GJ
   refine GJ.mono ?_
   rintro r σ' ⟨rfl,rfl⟩
   refine aK.go 1000 ?_
   cases e:p l[i] with
   | true =>
    rw [hd,e,if_pos rfl] at aO
    simp only [go_sem]
    refine aK.go 1000 ?_
    simp only [go_sem,← aO]
    rw [fL];exact ⟨σ',fx σ',ah _,hs,trivial,rfl,rfl⟩
   | false =>
    rw [hd,e,if_neg (by decide)] at aO
    simp only [go_sem]
    refine ⟨⟨i+1,aZ,aO⟩,?_,by simp only;omega⟩
    simp only [go_sem,bP,hc,hs]
    rw [ep (by omega)];exact ⟨rfl,fx σ'⟩
  ·have dR:i=l.length:=by omega
   subst dR
   rw [aV] at aO
   simp only [go_sem,bD]
   refine aK.go 1000 ?_
   simp only [go_sem,← aO]
   rw [fL];exact ⟨σ,fx σ,ah _,hs,trivial,rfl,rfl⟩
theorem JK (σ:ai) (c:ae) (p:Tm→Bool) (l:List Tm) (hl:l.length<2 ^ 62) (hs:bt σ.length σ) (hc:c.low σ.length)
  (hp:∀ (i:Nat) (h:i<l.length),aq Tryz.prog c [l[i].aN] σ (fun r σ'=>r = .bool (p l[i])∧σ' = σ)) :
  aq Tryz.prog (.fn 144 [] []) [.ps 2 (l.map Tm.aN),c] σ (fun r σ'=>r = .bool (l.any p)∧σ' = σ):=by
 refine aq.begin (rs:=[.tmp 4]) (m:=7) 1000 Tryz.func144 rfl rfl rfl rfl rfl ?_
 simp only [go_sem]
 refine (Rb σ c p l hl hs hc hp).mono ?_
 rintro r σ' ⟨rfl,rfl⟩
 refine aK.go 1000 ?_
 simp only [go_sem]
 rw [fL,Ci p l 0 (by omega)];exact ⟨σ',fx σ',ah _,hs,trivial,rfl,rfl⟩
theorem Zv9 (σ:ai) {b:Nat} (c:ae) (p:Tm→Bool) (l:List Tm) (hb:bF σ b=some (.row (l.map Tm.aN) 0)) (hl:l.length<2 ^ 62) (hs:bt σ.length σ) (hc:c.low σ.length)
  (hp:∀ (i:Nat) (h:i<l.length),aq Tryz.prog c [l[i].aN] σ (fun r σ'=>r = .bool (p l[i])∧σ' = σ)) :
  aq Tryz.prog (.fn 174 [] []) [.os b 0 l.length 2,c] σ (fun r σ'=>r = .int .i64 (dH p l 0)∧σ' = σ):=by
 refine aq.begin (rs:=[.tmp 4]) (m:=17) 1000 Tryz.func174 rfl rfl rfl rfl rfl ?_
 simp only [go_sem,ao]
 refine aK.c9 (ι:={i:Nat // i≤l.length∧dH p (l.drop i) i=dH p l 0}) 1000 (fun i=>fD 19 [(0, .os b 0 l.length 2),(1,c),(7, .int .i64 l.length),(8, .int .i64 i.1)]) (fun _=>σ) (fun i=>l.length - i.1) ⟨0,by simp⟩ ?_ (fun _=>ah _) ?_
 ·simp only [go_sem,bP,ao,hc,hs]
  exact ⟨fx σ,zZ hb⟩
 ·rintro ⟨i,hi,aO⟩
  by_cases bD:(i:Int)<l.length
  ·have aZ:i<l.length:=by omega
   have hd:dH p (l.drop i) i=if p l[i] then (i:Int) else dH p (l.drop (i+1)) ((i:Int)+1):=by
    rw [ak aZ];rfl
   simp only [go_sem,bD,ao,nP aZ,fq,hb]
   (repeat ((with_reducible refine And.intro ?_ ?_); ·omega))
   have GJ:=hp i aZ
   rw [dc] at GJ
   refine GJ.mono ?_
   rintro r σ' ⟨rfl,rfl⟩
   refine aK.go 1000 ?_
   cases e:p l[i] with
   | true =>
    rw [hd,e,if_pos rfl] at aO
    simp only [go_sem]
    refine aK.go 1000 ?_
    simp only [go_sem,← aO]
    rw [fL];exact ⟨σ',fx σ',ah _,hs,trivial,rfl,rfl⟩
   | false =>
    rw [hd,e,if_neg (by decide)] at aO
    simp only [go_sem]
    refine ⟨⟨i+1,aZ,aO⟩,?_,by simp only;omega⟩
    simp only [go_sem,bP,hc,hs]
    rw [ep (by omega)];exact ⟨rfl,fx σ',zZ hb⟩
  ·have dR:i=l.length:=by omega
   subst dR
   rw [aV] at aO
   simp only [go_sem,bD]
   refine aK.go 1000 ?_
   simp only [go_sem,← aO]
   rw [fL];exact ⟨σ,fx σ,ah _,hs,trivial,rfl,rfl⟩
theorem Zzm (σ:ai) (c:ae) (p:Int→Bool) (l:List Int) (hl:l.length<2 ^ 62) (hs:bt σ.length σ) (hc:c.low σ.length)
  (hp:∀ (i:Nat) (h:i<l.length),aq Tryz.prog c [(.int .i64 l[i])] σ (fun r σ'=>r = .bool (p l[i])∧σ' = σ)) :
  aq Tryz.prog (.fn 185 [] []) [.ps 1 (ints l),c] σ (fun r σ'=>r = .int .i64 (dH p l 0)∧σ' = σ):=by
 refine aq.begin (rs:=[.tmp 4]) (m:=17) 1000 Tryz.func185 rfl rfl rfl rfl rfl ?_
 simp only [go_sem,kV]
 refine aK.c9 (ι:={i:Nat // i≤l.length∧dH p (l.drop i) i=dH p l 0}) 1000 (fun i=>fD 19 [(0, .ps 1 (ints l)),(1,c),(7, .int .i64 l.length),(8, .int .i64 i.1)]) (fun _=>σ) (fun i=>l.length - i.1) ⟨0,by simp⟩ ?_ (fun _=>ah _) ?_
 ·simp only [go_sem,dp,kV,hc,hs]
  exact fx σ
 ·rintro ⟨i,hi,aO⟩
  by_cases bD:(i:Int)<l.length
  ·have aZ:i<l.length:=by omega
   have hd:dH p (l.drop i) i=if p l[i] then (i:Int) else dH p (l.drop (i+1)) ((i:Int)+1):=by
    rw [ak aZ];rfl
   simp only [go_sem,bD,kV,wH aZ,R0]
   (repeat ((with_reducible refine And.intro ?_ ?_); ·omega))
   refine (hp i aZ).mono ?_
   rintro r σ' ⟨rfl,rfl⟩
   refine aK.go 1000 ?_
   cases e:p l[i] with
   | true =>
    rw [hd,e,if_pos rfl] at aO
    simp only [go_sem]
    refine aK.go 1000 ?_
    simp only [go_sem,← aO]
    rw [fL];exact ⟨σ',fx σ',ah _,hs,trivial,rfl,rfl⟩
   | false =>
    rw [hd,e,if_neg (by decide)] at aO
    simp only [go_sem]
    refine ⟨⟨i+1,aZ,aO⟩,?_,by simp only;omega⟩
    simp only [go_sem,dp,hc,hs]
    rw [ep (by omega)];exact ⟨rfl,fx σ'⟩
  ·have dR:i=l.length:=by omega
   subst dR
   rw [aV] at aO
   simp only [go_sem,bD]
   refine aK.go 1000 ?_
   simp only [go_sem,← aO]
   rw [fL];exact ⟨σ,fx σ,ah _,hs,trivial,rfl,rfl⟩
theorem Zm5 (σ:ai) (c:ae) (p:Int→Bool) (l:List Int) (hl:l.length<2 ^ 62) (hs:bt σ.length σ) (hc:c.low σ.length)
  (hp:∀ (i:Nat) (h:i<l.length),aq Tryz.prog c [(.int .i64 l[i])] σ (fun r σ'=>r = .bool (p l[i])∧σ' = σ)) :
  aq Tryz.prog (.fn 163 [] []) [.ps 1 (ints l),c] σ (fun r σ'=>r = .bool (l.any p)∧σ' = σ):=by
 refine aq.begin (rs:=[.tmp 4]) (m:=7) 1000 Tryz.func163 rfl rfl rfl rfl rfl ?_
 simp only [go_sem]
 refine (Zzm σ c p l hl hs hc hp).mono ?_
 rintro r σ' ⟨rfl,rfl⟩
 refine aK.go 1000 ?_
 simp only [go_sem]
 rw [fL,Ci p l 0 (by omega)];exact ⟨σ',fx σ',ah _,hs,trivial,rfl,rfl⟩
end Go.Proofs
namespace Go.cV
open Go
theorem bR.rk {w:World} {M:Nat→Nat→Prop} {β β':Env} {π:Nat→Nat} {n:Nat} {v:Value} {a:ae} (h:bR w M β' v a):a.low n→(∀ b,b<n→β (π b) = β' b)→bR w M β v (cV.dI π a):=by
 intro hl hβ
 induction h with
 | undef v=>exact .undef v
 | bool b=>exact .bool b
 | gZ b=>exact .gZ b
 | int k n=>exact .int k n
 | str s=>exact .str s
 | bM=>exact .bM
 | ptr h=>exact .ptr ((hβ _ hl).trans h)
 | rp h=>exact .rp ((hβ _ hl).trans h)
 | @pp g o cs cv hc _ ih =>
  simp only [cV.dI]
  refine .pp cv (fun k hk=>hc k (by rw [jx] at hk;exact hk)) fun k hk=>?_
  rw [jx] at hk;rw [lD];exact ih k hk (iX hl k)
 | aU a=>exact .aU a
 | @ps a cap sz es cv jf ft hc ha _ ih =>
  simp only [cV.dI]
  have e:(dY π es).length=es.length:=jx π es
  rw [← e]
  refine .ps cv (by rw [e];exact jf) (fun i hi=>?_) (fun i j hi hj=>hc i j (by rw [e] at hi;exact hi) hj) (fun h0=>ha (by rw [e] at h0;exact h0)) (fun i j hi hj=>?_)
  ·rw [lD,Bb,jx];exact ft i (by rw [e] at hi;exact hi)
  ·rw [lD,Bb,lD];exact ih i j (by rw [e] at hi;exact hi) hj (iX (D7 (iX hl i)) j)
 | sv a h=>exact .sv a ((hβ _ hl).trans h)
 | os h h1 h2=>exact .os ((hβ _ hl).trans h) h1 h2
 | su a h=>exact .su a ((hβ _ hl).trans h)
 | oc h h1 h2=>exact .oc ((hβ _ hl).trans h) h1 h2
 | az=>exact .az
 | fn h1 h2 _ _ ky oC =>
  simp only [cV.dI]
  refine .fn (by rw [jx];exact h1) (by rw [jx];exact h2) (fun k hk=>?_) (fun k hk=>?_)
  ·rw [jx] at hk;rw [lD];exact ky k hk (iX hl.1 k)
  ·rw [jx] at hk;rw [lD];exact oC k hk (iX hl.2 k)
 | ld h=>exact .ld ((hβ _ hl).trans h)
 | cy=>exact .cy
 | map h=>exact .map ((hβ _ hl).trans h)
 | pm hg hm h1 h2 _ _ hb ky oC =>
  simp only [cV.dI]
  refine .pm hg hm (by rw [jx];exact h1) (by rw [jx,jx];exact h2) (fun k hk=>?_) (fun k hk=>?_) hb
  ·rw [jx] at hk;rw [lD];exact ky k hk (iX hl.1 k)
  ·rw [jx] at hk;rw [lD];exact oC k hk (iX hl.2 k)
 | it h=>exact .it ((hβ _ hl).trans h)
 | agg h _ ih =>
  simp only [cV.dI]
  refine .agg (by rw [jx];exact h) fun k hk=>?_
  rw [jx] at hk;rw [lD];exact ih k hk (iX hl k)
 | dy h _ ih =>
  simp only [cV.dI]
  refine .dy (by rw [jx];exact h) fun k hk=>?_
  rw [jx] at hk;rw [lD];exact ih k hk (iX hl k)
 | fE=>exact .fE
 | iface _ ih=>exact .iface (ih hl)
 | nM v=>exact .nM v
section
variable {P:Program}
theorem aq.N4 {F:Frame→List Frame→Sem Next→World→Value→World→Prop} {f:ae} {args:List ae} {K:ae→ai→Prop} {Z:ai} {i:Nat} {B:bE} (hZ:∀ b x,Z[b]? = some (some x)↔b=i∧B=x) (hB:B.low 0) (hf:f.low 0) (ha:bx 1 args)
  (h:dt P F f args [some B] (fun r σ'=>r.low 1∧∃ B',σ'=[some B']∧B'.low 0∧K (dI (fun _=>i) r) (Z.set i (some B')))):dt P F f (dY (fun _=>i) args) Z K:=by
 intro X base β w vf vs h1 nD h2 h3 fr cs h4
 rw [jx] at h2 h3
 obtain ⟨L,l1,l2,l3,l4⟩:=h1.cf i B ((hZ i B).2 ⟨rfl,rfl⟩)
 have hiZ:i<Z.length:=(aH.1 ((hZ i B).2 ⟨rfl,rfl⟩)).1
 have e0:jK β (fun _=>i) 1 0=some L:=l1
 have hm:∀ g o,iQ Z β g o↔iQ [some B] (jK β (fun _=>i) 1) g o:=fun g o=>by
  constructor
  ·rintro ⟨b,x,L',m1,m2,m3,m4⟩
   obtain ⟨rfl,rfl⟩:=(hZ b x).1 m1
   exact ⟨0,B,L',rfl,m2,m3,m4⟩
  ·rintro ⟨b,x,L',m1,m2,m3,m4⟩
   obtain ⟨rfl,rfl⟩:=Fv.1 m1
   exact ⟨i,B,L',(hZ i B).2 ⟨rfl,rfl⟩,m2,m3,m4⟩
 have hM:MT X [some B] (jK β (fun _=>i) 1)=MT X Z β:=funext fun g=>funext fun o=>propext (or_congr Iff.rfl (hm g o).symm)
 have hr:cF X base [some B] (jK β (fun _=>i) 1) w:=by
  refine ⟨fun b hb=>?_,fun b x hb=>?_,fun b b' x y L' V0 e1 e2 _ _ _=>?_,h1.size,h1.p6,h1.gl⟩
  ·simp only [di] at hb
   exact if_neg (by omega)
  ·obtain ⟨rfl,rfl⟩:=Fv.1 hb
   refine ⟨L,e0,l2,l3,?_⟩
   rw [hM]
   exact fR.low (n:=0) (fun b hb=>absurd hb (by omega)) l4 hB
  ·rw [(Fv.1 e1).1,(Fv.1 e2).1]
 have nU:bR w (MT X Z β) (jK β (fun _=>i) 1) vf f:=bR.low (n:=0) (fun b hb=>absurd hb (by omega)) nD hf
 have ha':∀ k,k<args.length→bR w (MT X Z β) (jK β (fun _=>i) 1) (vs.getD k undef) (args.getD k .undef):=fun k hk=>by
  have:=h3 k hk
  rw [lD] at this
  exact bR.dI this _ rfl (iX ha k)
 rw [← hM] at nU ha'
 obtain ⟨r,σ',β',v,w',⟨q1,B',rfl,q2,q3⟩,g1,g2,g3,g4,g5⟩:=h X base _ w vf vs hr nU h2 ha' fr cs h4
 have IY : β' 0=some L:=(g3.env 0 Nat.one_pos).trans e0
 have F3:∀ b x,(Z.set i (some B'))[b]? = some (some x)↔b=i∧B'=x:=fun b x=>by
  by_cases hb:b=i
  ·subst hb;rw [fK hiZ];simp
  ·rw [bK (fun e=>hb e.symm)]
   constructor
   ·intro e;exact absurd ((hZ b x).1 e).1 hb
   ·intro e;exact absurd e.1 hb
 have Az:∀ g o,iQ (Z.set i (some B')) β g o↔iQ [some B'] β' g o:=fun g o=>by
  constructor
  ·rintro ⟨b,x,L',m1,m2,m3,m4⟩
   obtain ⟨rfl,rfl⟩:=(F3 b x).1 m1
   obtain rfl:=aM (l1.symm.trans m2)
   exact ⟨0,B',L,rfl,IY,m3,m4⟩
  ·rintro ⟨b,x,L',m1,m2,m3,m4⟩
   obtain ⟨rfl,rfl⟩:=Fv.1 m1
   obtain rfl:=aM (IY.symm.trans m2)
   exact ⟨i,B',L,(F3 i B').2 ⟨rfl,rfl⟩,l1,m3,m4⟩
 have F1:MT X [some B'] β'=MT X (Z.set i (some B')) β:=funext fun g=>funext fun o=>propext (or_congr Iff.rfl (Az g o).symm)
 refine ⟨_,Z.set i (some B'),β,v,w',q3,?_,?_,?_,by simp,g5⟩
 ·refine ⟨fun b hb=>h1.nC b (by simpa using hb),fun b x hb=>?_,fun b b' x y L' V0 e1 e2 _ _ _=>?_,g1.size,g1.p6,g1.gl⟩
  ·obtain ⟨rfl,rfl⟩:=(F3 b x).1 hb
   obtain ⟨L',k1,k2,k3,k4⟩:=g1.cf 0 B' rfl
   obtain rfl:=aM (IY.symm.trans k1)
   refine ⟨L,l1,k2,k3,?_⟩
   rw [← F1]
   exact fR.low (n:=0) (fun b hb=>absurd hb (by omega)) k4 q2
  ·rw [((F3 _ _).1 e1).1,((F3 _ _).1 e2).1]
 ·rw [← F1]
  exact g2.rk (π:=fun _=>i) q1 fun b hb=>by obtain rfl:b=0:=(by omega);exact l1.trans IY.symm
 ·exact ⟨g3.os,g3.tape,g3.output,g3.size,fun g o x hc hn=>g3.cell g o x hc fun hx=>hn ((hm g o).2 hx),fun g hg hn=>g3.block g hg fun o hx=>hn o ((hm g o).2 hx),fun g o hx=>(g3.iC g o ((Az g o).1 hx)).imp (hm g o).2 id,fun _ _=>rfl⟩
theorem aq.Ac {F:Frame→List Frame→Sem Next→World→Value→World→Prop} {f:ae} {args:List ae} {K:ae→ai→Prop} {σ:ai} (i:Nat) {B:bE} (hi : σ[i]? = some (some B)) (hB:B.low 0) (hf:f.low 0) (ha:bx 1 args)
  (h:dt P F f args [some B] (fun r σ'=>r.low 1∧∃ B',σ'=[some B']∧B'.low 0∧K (dI (fun _=>i) r) (σ.set i (some B')))):dt P F f (dY (fun _=>i) args) σ K:=by
 have bD:i < σ.length:=(aH.1 hi).1
 refine aq.frame (fun b=>decide (b=i)) (K':=fun r iO=>∃ B',iO=(eF (fun b=>decide (b=i)) 0 σ).set i (some B')∧K r (σ.set i (some B'))) ?_ ?_
 ·refine aq.N4 (B:=B) ?_ hB hf ha (h.mono ?_)
  ·intro b x
   rw [vV,bm]
   by_cases hb:b=i
   ·subst hb;simp [hi]
   ·simp [hb]
  ·rintro r σ' ⟨q1,B',rfl,q2,q3⟩
   exact ⟨q1,B',rfl,q2,B',rfl,q3⟩
 ·rintro r σ' ⟨B',rfl,hk⟩
  refine ⟨fun b hb hv=>?_,?_⟩
  ·simp only [decide_eq_false_iff_not] at hv
   rw [bK (fun e=>hv e.symm),vV,bm,aA hb];simp [hv]
  ·have e:gQ (fun b=>decide (b=i)) 0 ((eF (fun b=>decide (b=i)) 0 σ).set i (some B')) σ = σ.set i (some B'):=by
    refine bO fun b=>?_
    rw [D0 (fun b=>decide (b=i)) ((eF (fun b=>decide (b=i)) 0 σ).set i (some B')) σ 0 b (by rw [bh,rM];exact ah _),bm]
    by_cases hb:b=i
    ·subst hb
     rw [if_neg (by simp),fK (by rw [rM];exact bD),fK bD]
    ·by_cases vY:b < σ.length
     ·rw [if_pos ⟨vY,by simpa using hb⟩,bK (fun e=>hb e.symm)]
     ·rw [if_neg (fun h=>vY h.1),bq (by rw [bh,rM];omega),bq (by rw [bh];omega)]
   rw [e];exact hk
def uG (K:ae→ai→Prop) (n:Nat) (r0:ae) (σ':ai):Prop:=∃ r,pT (fun _=>true) σ' r (rV r0)∧r.low 0∧K r (List.replicate n none)
theorem Kv {n b:Nat} {x:bE}:¬ (List.replicate n (none:Option bE))[b]? = some (some x):=by
 rw [c8];split<;>simp
theorem bS.uG {F:Frame→List Frame→Sem Next→World→Value→World→Prop} {σ:ai} {g:FuncId} {args:List ae} {K:ae→ai→Prop} (h:gP P F g args σ (uG K σ.length)):gP P F g args σ K:=by
 intro X base β w vs h1 h2 h3 fr cs h4
 obtain ⟨r0,σ',β',v,w',⟨r,k1,k5,k6⟩,g1,g2,g3,g4,g5⟩:=h X base β w vs h1 h2 h3 fr cs h4
 have hf:=zL (fun _=>true) σ'
 generalize yB:fA (fun _=>true) 0 σ' = kU at hf
 have BJ:=g1.oq hf.oq
 have qq:=(FB BJ hf r k1).1 v (Us (g2.mono (A_ hf.oq) (fun _ _ h=>h)))
 have hle:xx (List.replicate σ.length none) kU:=fun b x hb=>absurd hb Kv
 have hl:(List.replicate σ.length (none:Option bE)).length = σ.length:=by simp
 have jY:yI σ.length (List.replicate σ.length none):=fun b x hb=>absurd hb Kv
 have hs:=BJ.drop hle hl jY
 have qY:=bR.drop qq hle hl (mP (av _) k5)
 exact ⟨r,_,_,v,w',k6,hs,qY,g3.drop (σ':=List.replicate σ.length none) (fun b x hb=>absurd hb Kv) hl (ah _),by simp,g5⟩
@[go_sem] theorem Yzt {b o n s:Nat}:rV (.os b o n s) = .os b o n s:=rfl
@[go_sem] theorem Xad {b o n c s:Nat}:rV (.oc b o n c s) = .os b o n s:=rfl
@[go_sem] theorem Yuo:rV .aU = .aU:=rfl
@[go_sem] theorem Xag {s:Nat} {l:List ae}:rV (.ps s l) = .ps s l:=rfl
theorem Hg {K:ae→ai→Prop} {n:Nat} {r0:ae} {σ':ai}:cV.uG K n r0 σ' = ∃ r,pT (fun _=>true) σ' r (rV r0)∧r.low 0∧K r (List.replicate n none):=rfl
theorem bS.vd {g:FuncId} {fn:Func} {c:Code} {σ:ai} {args:List ae} {K:ae→ai→Prop} {m:Nat} {rs:List ResultVar} (n:Nat) (hf:P.funcs[g]? = some fn) (hb:fn.body=some c) (hr:fn.results.toList=rs) (hm:fn.ntmps - args.length=m)
  (eE : (fn.name == "runtime.NumGoroutine") = false)
  (h:dW P ⟨σ.length,Option.none⟩ (qm P rs (cV.uG K σ.length)) n [.code c] .normal (args++List.replicate m .undef) σ):bS P g args σ K:=bS.uG (bS.start n hf hb hr hm eE h)
end
end Go.cV
namespace Go.Proofs
open Go Go.cV
attribute [local go_sem] Nat.reduceAdd Nat.reduceSub Nat.reduceMul Nat.reduceLeDiff Nat.reduceEqDiff Nat.reduceBEq Nat.reduceLT Nat.le_refl Int.natCast_zero Nat.sub_zero List.length_map Int.toNat_natCast Int.natCast_one Int.reduceEq Int.reduceLT Int.reduceLE Int.reduceNe Int.sub_zero Int.zero_add Int.toNat_one
theorem DW:∀ (xs E:List ae) (p:Nat),p+xs.length≤E.length→cr E p xs=E.take p++xs++E.drop (p+xs.length)
 | [],E,p,h=>by simp [cr]
 | x :: xs,E,p,h=>by
  simp only [au] at h
  rw [cr,DW xs (E.set p x) (p+1) (by rw [bh];omega)]
  have hp:p<E.length:=by omega
  have e1:(E.set p x).take (p+1)=E.take p++[x]:=by
   rw [dU,fK hp]
   simp [List.take_set_of_le]
  have e2:(E.set p x).drop (p+1+xs.length)=E.drop (p+(xs.length+1)):=by
   rw [List.drop_set,if_pos (by omega)];congr 1;omega
  rw [e1,e2];simp
theorem Hr {n:Nat}:∀ {a b:List ae},bx n a→bx n b→bx n (a++b)
 | [],_,_,h=>h
 | _ :: _,_,h,k=>⟨h.1,Hr h.2 k⟩
theorem Fg {n m:Nat} {a:ae} (h:a.low n):bx n (List.replicate m a):=by
 induction m with
 | zero=>trivial
 | succ m ih=>exact ⟨h,ih⟩
theorem KE {n:Nat} (sz:Nat):(dx sz).low n:=by
 unfold dx;split
 ·trivial
 ·exact Fg (a:=.undef) trivial
theorem Ho {n:Nat}:∀ {xs E:List ae} {p:Nat},bx n E→bx n xs→bx n (cr E p xs)
 | [],_,_,h,_=>h
 | x :: xs,E,p,h,k=>by rw [cr];exact Ho (H_ h _ k.1) k.2
theorem OX {E Z:List ae} {i m n k:Nat} (hi:i<n) (hE:n≤E.length) (hm:m=n - 1) (hk:Z.length=k) (Av:m+k=n) :
  (cr (cr E i ((E.drop (i+1)).take (n - (i+1)))) m Z).take m=E.take i++(E.drop (i+1)).take (n - (i+1)):=by
 have hl:((E.drop (i+1)).take (n - (i+1))).length=n - (i+1):=by simp;omega
 have e1:=DW ((E.drop (i+1)).take (n - (i+1))) E i (by rw [hl];omega)
 have tv:(cr E i ((E.drop (i+1)).take (n - (i+1)))).length=E.length:=uL _ _ _
 rw [DW Z _ m (by rw [tv];omega),cJ,bY (by rw [cW,tv];omega),qz,Nat.min_self,e1,cJ,
  ← cJ,bY (by rw [ay,hl,cW];omega),bd (by rw [ay,hl,cW];omega)]
theorem J8 (l:List Li) (i:Nat) (hi:i<l.length) (hl:l.length<1000000000):aq Tryz.prog (.fn 71 [] []) [.os 0 0 l.length 5, .int .i64 i, .int .i64 ((i+1:Nat):Int)] [some (.row (lits l) 0)]
  (fun r σ'=>r = .os 0 0 (l.length - 1) 5∧σ'=[some (.row (lits (l.take i++l.drop (i+1))) 0)]):=by
 refine bS.v (bS.sI (pre:=[]) (post:=[.int .i64 i, .int .i64 ((i+1:Nat):Int)]) (b:=0) (es:=(lits l)) (fz:=0) rfl rfl (by simp [lits]) (by omega) fun c hc=>bS.short 0 ?_)
 have hlen:((lits l)++List.replicate (c - l.length) (dx 5)).length=c:=by simp [lits];omega
 have hE:(((lits l)++List.replicate (c - l.length) (dx 5)).drop (i+1)).take (l.length - (i+1))=lits (l.drop (i+1)):=by
  rw [List.drop_append_of_le_length (by simp [lits];omega),bY (by simp [lits])]
  rw [bd (by simp [lits])];simp [lits,List.map_drop]
 have FZ:((lits l)++List.replicate (c - l.length) (dx 5)).take i=lits (l.take i):=by
  rw [bY (by simp [lits];omega)];simp [lits,List.map_take]
 have hdr:=fun Z hk=>OX (E:=(lits l)++List.replicate (c - l.length) (dx 5)) (Z:=Z) (i:=i) (m:=l.length - 1) (n:=l.length) (k:=1) hi (by omega) rfl hk (by omega)
 rw [hE,FZ] at hdr
 have jY:bx 1 (lits l++List.replicate (c - l.length) (dx 5)):=Hr (ct _) (Fg (KE _))
 generalize Vc:(lits l)++List.replicate (c - l.length) (dx 5)=E at *
 refine bS.oe (rs:=[.tmp 6]) (m:=30) 1000 Tryz.func71 rfl rfl rfl rfl ?_
 have dX:¬ (i:Int)=((i+1:Nat):Int):=by omega
 simp only [go_sem,dX]
 (repeat ((with_reducible refine And.intro ?_ ?_); ·omega))
 refine aK.draw [.no, .no, .no, .no, .no, .no,⟨none,[0],[]⟩] 1 1 mixed rfl rfl (by decide) ?_
 have hx:i+(lits (l.drop (i+1))).length=l.length - 1:=by rw [fO,cg];omega
 have rD:l.length - 1≤c:=by omega
 have wQ:l.length - (l.length - 1)=1:=by omega
 simp only [go_sem,dA,hlen,hE,hx,rD,av]
 (repeat ((with_reducible refine And.intro ?_ ?_); ·omega))
 refine aK.go 1000 ?_
 simp only [go_sem,hlen,hx,uL,wQ,mR,List.replicate_one,aQ,forall_eq,Nat.one_ne_zero]
 (repeat ((with_reducible refine And.intro ?_ ?_); ·omega))
 rw [fL]
 refine ⟨_,fx _,ah _,⟨?_,trivial⟩,Nat.one_pos,?_⟩
 ·exact H_ (Ho jY (ct _)) _ (by simp [go_sem])
 ·rw [IJ]
  refine ⟨_,_,l.length - 1,rfl,rfl,?_⟩
  have h5:=hdr [.agg [.bool false, .int .i64 0, .aU, .int .i64 0, .aU]] rfl
  simp only [cr] at h5
  rw [h5]
  simp [b_,lits]
theorem WZ (l:List Tm) (i:Nat) (hi:i<l.length) (hl:l.length<1000000000):aq Tryz.prog (.fn 241 [] []) [.os 0 0 l.length 2, .int .i64 i, .int .i64 ((i+1:Nat):Int)] [some (.row (l.map Tm.aN) 0)]
  (fun r σ'=>r = .os 0 0 (l.length - 1) 2∧σ'=[some (.row (List.map Tm.aN (l.take i++l.drop (i+1))) 0)]):=by
 refine bS.v (bS.sI (pre:=[]) (post:=[.int .i64 i, .int .i64 ((i+1:Nat):Int)]) (b:=0) (es:=(l.map Tm.aN)) (fz:=0) rfl rfl (by simp [lits]) (by omega) fun c hc=>bS.short 0 ?_)
 have hlen:((l.map Tm.aN)++List.replicate (c - l.length) (dx 2)).length=c:=by simp [lits];omega
 have hE:(((l.map Tm.aN)++List.replicate (c - l.length) (dx 2)).drop (i+1)).take (l.length - (i+1))=List.map Tm.aN (l.drop (i+1)):=by
  rw [List.drop_append_of_le_length (by simp [lits];omega),bY (by simp [lits])]
  rw [bd (by simp [lits])];simp [lits,List.map_drop]
 have FZ:((l.map Tm.aN)++List.replicate (c - l.length) (dx 2)).take i=List.map Tm.aN (l.take i):=by
  rw [bY (by simp [lits];omega)];simp [lits,List.map_take]
 have hdr:=fun Z hk=>OX (E:=(l.map Tm.aN)++List.replicate (c - l.length) (dx 2)) (Z:=Z) (i:=i) (m:=l.length - 1) (n:=l.length) (k:=1) hi (by omega) rfl hk (by omega)
 rw [hE,FZ] at hdr
 have jY:bx 1 (l.map Tm.aN++List.replicate (c - l.length) (dx 2)):=Hr (bP _) (Fg (KE _))
 generalize Vc:(l.map Tm.aN)++List.replicate (c - l.length) (dx 2)=E at *
 refine bS.oe (rs:=[.tmp 6]) (m:=30) 1000 Tryz.func241 rfl rfl rfl rfl ?_
 have dX:¬ (i:Int)=((i+1:Nat):Int):=by omega
 simp only [go_sem,dX]
 (repeat ((with_reducible refine And.intro ?_ ?_); ·omega))
 refine aK.draw [.no, .no, .no, .no, .no, .no,⟨none,[0],[]⟩] 1 1 mixed rfl rfl (by decide) ?_
 have hx:i+(l.drop (i+1)).length=l.length - 1:=by rw [cg];omega
 have rD:l.length - 1≤c:=by omega
 have wQ:l.length - (l.length - 1)=1:=by omega
 simp only [go_sem,dA,hlen,hE,hx,rD,av]
 (repeat ((with_reducible refine And.intro ?_ ?_); ·omega))
 refine aK.go 1000 ?_
 simp only [go_sem,hlen,hx,uL,wQ,mR,List.replicate_one,aQ,forall_eq,Nat.one_ne_zero]
 (repeat ((with_reducible refine And.intro ?_ ?_); ·omega))
 rw [fL]
 refine ⟨_,fx _,ah _,⟨?_,trivial⟩,Nat.one_pos,?_⟩
 ·exact H_ (Ho jY (bP _)) _ (by simp [go_sem])
 ·rw [IJ]
  refine ⟨_,_,l.length - 1,rfl,rfl,?_⟩
  have h5:=hdr [.agg [.int .i64 0, .aU]] rfl
  simp only [cr] at h5
  rw [h5]
  simp [b_,lits]
structure Un where
 l:Tm
 r:Tm
 off:Int
def Un.aN (u:Un):ae:=.agg [.int .i64 u.l.head, .ps 2 (u.l.args.map Tm.aN), .int .i64 u.r.head, .ps 2 (u.r.args.map Tm.aN), .int .i64 u.off]
theorem Ee (u:Un):u.aN.cells=[.int .i64 u.l.head, .ps 2 (u.l.args.map Tm.aN), .int .i64 u.r.head, .ps 2 (u.r.args.map Tm.aN), .int .i64 u.off]:=rfl
theorem JF (u:Un):u.aN = .agg [.int .i64 u.l.head, .ps 2 (u.l.args.map Tm.aN), .int .i64 u.r.head, .ps 2 (u.r.args.map Tm.aN), .int .i64 u.off]:=rfl
def jb (l:List Un):List ae:=l.map Un.aN
theorem sG (l:List Un):(jb l).length=l.length:=by simp [jb]
theorem IP {n:Nat} (u:Un):u.aN.low n:=by simp [JF,go_sem,bP]
theorem r6 {n:Nat} (l:List Un):bx n (jb l):=uN fun x _=>IP x
theorem LJ {l:List Un} {i:Nat} (h:i<l.length):(jb l).getD i .undef=l[i].aN:=nP h
@[go_sem] theorem Xb2 (l:List Un):eL ⟨5,true,72,[.int .i64 0, .aU, .int .i64 0, .aU, .int .i64 0], .struct⟩ (jb l)=True:=eq_true (by
 refine ⟨fun x hx=>?_,by decide,by decide,rfl⟩
 obtain ⟨t,_,rfl⟩:=bW.1 hx
 exact ⟨rfl,rfl⟩)
theorem WT (σ:ai) {b cp:Nat} (c:ae) (p:Un→Bool) (l:List Un) {E:List ae} (hb:bF σ b=some (.row E 0)) (hE:∀ (i:Nat) (h:i<l.length),E.getD i .undef=l[i].aN) (wS:l.length≤E.length) (hl:l.length<2 ^ 62) (hs:bt σ.length σ) (hc:c.low σ.length)
  (hp:∀ (i:Nat) (h:i<l.length),aq Tryz.prog c [l[i].aN] σ (fun r σ'=>r = .bool (p l[i])∧σ' = σ)) :
  aq Tryz.prog (.fn 161 [] []) [.oc b 0 l.length cp 5,c] σ (fun r σ'=>r = .int .i64 (dH p l 0)∧σ' = σ):=by
 refine aq.begin (rs:=[.tmp 4]) (m:=17) 1000 Tryz.func161 rfl rfl rfl rfl rfl ?_
 simp only [go_sem]
 refine aK.c9 (ι:={i:Nat // i≤l.length∧dH p (l.drop i) i=dH p l 0}) 1000 (fun i=>fD 19 [(0, .oc b 0 l.length cp 5),(1,c),(7, .int .i64 l.length),(8, .int .i64 i.1)]) (fun _=>σ) (fun i=>l.length - i.1) ⟨0,by simp⟩ ?_ (fun _=>ah _) ?_
 ·simp only [go_sem,hc,hs]
  exact ⟨fx σ,zZ hb⟩
 ·rintro ⟨i,hi,aO⟩
  by_cases bD:(i:Int)<l.length
  ·have aZ:i<l.length:=by omega
   have hd:dH p (l.drop i) i=if p l[i] then (i:Int) else dH p (l.drop (i+1)) ((i:Int)+1):=by
    rw [ak aZ];rfl
   simp only [go_sem,bD,hb,hE i aZ,Ee]
   (repeat ((with_reducible refine And.intro ?_ ?_); ·omega))
   refine (hp i aZ).mono ?_
   rintro r σ' ⟨rfl,rfl⟩
   refine aK.go 1000 ?_
   cases e:p l[i] with
   | true =>
    rw [hd,e,if_pos rfl] at aO
    simp only [go_sem]
    refine aK.go 1000 ?_
    simp only [go_sem,← aO]
    rw [fL];exact ⟨σ',fx σ',ah _,hs,trivial,rfl,rfl⟩
   | false =>
    rw [hd,e,if_neg (by decide)] at aO
    simp only [go_sem]
    refine ⟨⟨i+1,aZ,aO⟩,?_,by simp only;omega⟩
    simp only [go_sem,hc,hs]
    rw [ep (by omega)];exact ⟨rfl,fx σ',zZ hb⟩
  ·have dR:i=l.length:=by omega
   subst dR
   rw [aV] at aO
   simp only [go_sem,bD]
   refine aK.go 1000 ?_
   simp only [go_sem,← aO]
   rw [fL];exact ⟨σ,fx σ,ah _,hs,trivial,rfl,rfl⟩
theorem Hv {α:Type} (p : α→Bool):∀ (l:List α) (i:Int),0≤i→(dH p l i = -1∧l.filter (fun x=>!p x)=l)∨∃ k,k<l.length∧dH p l i=i+k∧(∀ x∈l.take k,p x=false)∧∀ h:k<l.length,p l[k]=true
 | [],i,_=>.inl ⟨rfl,rfl⟩
 | a :: l,i,h=>by
  by_cases c:p a=true
  ·exact .inr ⟨0,by simp,by simp [dH,c],by simp,fun _=>c⟩
  ·have c':p a=false:=by simpa using c
   rcases Hv p l (i+1) (by omega) with ⟨h1,h2⟩ | ⟨k,h1,h2,h3,h4⟩
   ·exact .inl ⟨by simp [dH,c',h1],by simp [List.filter_cons,c',h2]⟩
   ·refine .inr ⟨k+1,by simpa using h1,by simp [dH,c',h2];omega,?_,fun h=>by simpa using h4 (by simpa using h)⟩
    intro x hx
    rw [eR,aP] at hx
    rcases hx with rfl | hx
    ·exact c'
    ·exact h3 x hx
theorem Zkc {α:Type} (p : α→Bool) (l:List α) (h:∀ x∈l,p x=false):l.filter (fun x=>!p x)=l:=List.filter_eq_self.2 fun x hx=>by simp [h x hx]
theorem Zpl (us:List Un) (p:Un→Bool) (f:FuncId) (hl:us.length<1000000000) (hf:∀ u∈us,aJ Tryz.prog f [u.aN] (.bool (p u))) (xv:us≠[]) :
  aq Tryz.prog (.fn 137 [] []) [.os 0 0 us.length 5, .fn f [] []] [some (.row (jb us) 0)]
  (fun r σ'=>r = .os 0 0 (us.filter fun u=>!p u).length 5∧σ'=[some (.row (jb (us.filter fun u=>!p u)) 0)]):=by
 have nG : 0<us.length:=List.length_pos_iff.2 xv
 refine bS.v (bS.sI (pre:=[]) (post:=[.fn f [] []]) (b:=0) (es:=jb us) (fz:=0) rfl rfl (by simp [jb]) nG fun c hc=>bS.short 0 ?_)
 refine bS.oe (rs:=[.tmp 4]) (m:=40) 1000 Tryz.func137 rfl rfl rfl rfl ?_
 have kg:∀ (σ:ai) (u:Un),u∈us→∀ K:ae→ai→Prop,K (.bool (p u)) σ→aq Tryz.prog (.fn f [] []) [u.aN] σ K:=fun σ u hu K hk=>aq.bU [] (hf u hu) (cH _ _ _) ⟨IP u,trivial⟩ (by rw [jd];split<;>exact hk)
 have pH:∀ L:List Un,bx 1 (jb L++List.replicate (c - us.length) (dx 5)):=fun L=>Hr (r6 _) (Fg (KE _))
 simp only [go_sem]
 refine (WT _ _ p us rfl (fun i h=>?_) ?_ (by omega) ?_ ?_ (fun i h=>kg _ _ (aF h) _ ⟨rfl,rfl⟩)).mono ?_
 ·rw [ta,if_pos (by rw [sG];exact h)];exact LJ h
 ·simp [jb]
 ·exact ⟨pH us,trivial⟩
 ·simp [go_sem]
 rintro r σ' ⟨rfl,rfl⟩
 refine aK.go 1000 ?_
 rcases Hv p us 0 (by omega) with ⟨h1,h2⟩ | ⟨k,h1,h2,h3,h4⟩
 ·simp only [go_sem,h1]
  rw [fL]
  refine ⟨_,fx _,ah _,⟨pH us,trivial⟩,Nat.one_pos,?_⟩
  rw [IJ]
  refine ⟨_,_,us.length,rfl,?_⟩
  rw [bY (by rw [sG];exact ah _),bd (by rw [sG];exact ah _),h2]
  exact ⟨rfl,rfl⟩
 ·have vz:¬ (0+(k:Int)) = -1:=by omega
  have rR:IntKind.i64.wrap ((k:Int)+1)=((k+1:Nat):Int):=by rw [ep (by omega)];omega
  have sN : 0+(k:Int)=(k:Int):=by omega
  simp only [go_sem,h2,vz,rR,sN]
  have Ve:(us.take (k+1)).filter (fun u=>!p u)=us.take k:=by
   rw [dU,aA h1,mO,j9,Zkc p _ h3]
   simp [h4 h1]
  have amP:us.length<9223372036854775807:=by omega
  have hE:∀ (j:Nat) (G:List Un),((us.take j).filter (fun u=>!p u)).length+G.length=j→j≤us.length →
    (jb ((us.take j).filter (fun u=>!p u)++G++us.drop j)++List.replicate (c - us.length) (dx 5)).length=c:=fun j G h1 h2=>by
   simp only [ay,sG,bz,cg];omega
  refine aK.c9 (ι:={q:Nat×List Un // q.1≤us.length∧((us.take q.1).filter (fun u=>!p u)).length+q.2.length=q.1∧q.2≠[]}) 1000
   (fun q=>fD 42 [(0, .oc 0 0 us.length c 5),(1, .fn f [] []),(4, .aU),(5, .int .i64 ((us.take q.1.1).filter (fun u=>!p u)).length),(6, .int .i64 q.1.1)])
   (fun q=>[some (.row (jb ((us.take q.1.1).filter (fun u=>!p u)++q.1.2++us.drop q.1.1)++List.replicate (c - us.length) (dx 5)) 0)]) (fun q=>us.length - q.1.1)
   ⟨(k+1,[us[k]]),by omega,by rw [Ve];simp;omega,by simp⟩ ?_ (fun _=>ah _) ?_
  ·have e0:us.take k++[us[k]]++us.drop (k+1)=us:=by simp
   have e1:(us.take k).length=k:=by simp;omega
   simp only [go_sem,Ve,e0,e1,pH]
  ·rintro ⟨⟨j,G⟩,hj,hlen,hG⟩
   simp only at hj hlen hG
   have Ep:=hE j G hlen hj
   by_cases bD:(j:Int)<us.length
   ·have aZ:j<us.length:=by omega
    have eH:(jb ((us.take j).filter (fun u=>!p u)++G++us.drop j)++List.replicate (c - us.length) (dx 5)).getD j .undef=us[j].aN:=by
     rw [ta,if_pos (by rw [sG];simp only [ay,cg];omega)]
     rw [LJ (by simp only [ay,cg];omega)]
     rw [List.getElem_append_right (by simp only [ay];omega)]
     simp only [ay,hlen,ei,List.getElem_drop,cj]
    simp only [go_sem,bD,Ep,eH,Ee]
    (repeat ((with_reducible refine And.intro ?_ ?_); ·omega))
    refine kg _ us[j] (aF aZ) _ ?_
    refine aK.go 1000 ?_
    have sj:us.take (j+1)=us.take j++[us[j]]:=by rw [dU,aA aZ];rfl
    have hdr:us.drop j=us[j] :: us.drop (j+1):=ak aZ
    have Dq:IntKind.i64.wrap ((j:Int)+1)=((j+1:Nat):Int):=by rw [ep (by omega)];omega
    cases hp:p us[j] with
    | true =>
     have Vf:(us.take (j+1)).filter (fun u=>!p u)=(us.take j).filter (fun u=>!p u):=by rw [sj,j9];simp [hp]
     simp only [go_sem,Dq]
     refine ⟨⟨(j+1,G++[us[j]]),by simp only;omega,by simp only [Vf,ay,di];omega,by simp⟩,?_,by simp only;omega⟩
     have e:(us.take j).filter (fun u=>!p u)++(G++[us[j]])++us.drop (j+1)=(us.take j).filter (fun u=>!p u)++G++us.drop j:=by rw [hdr];simp
     simp only [Vf,e]
     exact ⟨⟨trivial,trivial⟩,trivial,pH _⟩
    | false =>
     have Mi:(us.take (j+1)).filter (fun u=>!p u)=(us.take j).filter (fun u=>!p u)++[us[j]]:=by rw [sj,j9];simp [hp]
     obtain ⟨g,G',rfl⟩:=List.exists_cons_of_ne_nil hG
     obtain ⟨K,Bt⟩:∃ K,(us.take j).filter (fun u=>!p u)=K:=⟨_,rfl⟩
     rw [Bt] at Mi
     simp only [Bt,au] at hlen Ep
     have hgK:(jb (K++g :: G'++us.drop j)++List.replicate (c - us.length) (dx 5)).getD K.length .undef=g.aN:=by
      rw [ta,if_pos (by rw [sG];simp)]
      rw [LJ (by simp)];simp
     have h_:(jb (K++g :: G'++us.drop j)++List.replicate (c - us.length) (dx 5)).set K.length us[j].aN=jb (K++us[j] :: G'++us.drop j)++List.replicate (c - us.length) (dx 5):=by
      rw [List.set_append_left _ _ (by rw [sG];simp)]
      simp [jb]
     have hwK:IntKind.i64.wrap ((K.length:Int)+1)=((K.length+1:Nat):Int):=by rw [ep (by omega)];omega
     simp only [go_sem,Bt,Dq,hwK,hgK,Ee,Ep]
     (repeat ((with_reducible refine And.intro ?_ ?_); ·omega))
     refine ⟨⟨(j+1,G'++[us[j]]),by simp only;omega,by simp only [Mi,ay,di];omega,by simp⟩,?_,by simp only;omega⟩
     have Df:jj (cL g.aN) [.int .i64 us[j].l.head, .ps 2 (List.map Tm.aN us[j].l.args), .int .i64 us[j].r.head, .ps 2 (List.map Tm.aN us[j].r.args), .int .i64 us[j].off]=us[j].aN:=rfl
     have e:K++[us[j]]++(G'++[us[j]])++us.drop (j+1)=K++us[j] :: G'++us.drop j:=by rw [hdr];simp
     rw [Df,h_]
     simp only [Mi,e,ay,di]
     exact ⟨⟨trivial,trivial⟩,trivial,pH _⟩
   ·have rF:j=us.length:=by omega
    subst rF
    rw [da] at hlen
    obtain ⟨K,Bt⟩:∃ K,us.filter (fun u=>!p u)=K:=⟨_,rfl⟩
    simp only [da,aV,Bt,bn] at hlen Ep
    simp only [go_sem,bD]
    refine aK.go 1000 ?_
    have hGl:us.length - K.length=G.length:=by omega
    have hG0:¬ G.length=0:=fun e=>hG (aY e)
    simp only [go_sem,da,aV,Bt,bn,Ep,hGl,hG0,mR]
    refine ⟨⟨by omega,by omega⟩,⟨av _,by rw [bz];exact ah _,by omega,fun x hx=>?_⟩,⟨by omega,by omega⟩,?_⟩
    ·rw [(List.mem_replicate.1 hx).2];exact ⟨rfl,rfl⟩
    rw [fL]
    refine ⟨_,fx _,ah _,⟨Ho (pH _) (Fg (by simp [go_sem])),trivial⟩,Nat.one_pos,?_⟩
    rw [IJ]
    refine ⟨_,_,K.length,rfl,rfl,?_⟩
    have hK1:List.take K.length (jb (K++G))=jb K:=by simp [jb]
    rw [DW _ _ _ (by rw [Ep,bz];omega),cJ,bY (by rw [sG];simp),hK1,bY (by rw [sG];exact ah _),
     bd (by rw [sG];exact ah _)]
    rfl
@[go_sem] theorem Yxq:IntKind.i64.wrap 1=1:=ep (by omega)
theorem Ztc {x:ae} {R ys:List ae} (h:R.length=ys.length):cr (x :: R) 1 ys=x :: ys:=by
 rw [DW _ _ _ (by simp only [au];omega)]
 simp only [eR,List.take_zero,bj,bf]
 rw [fJ (by simp only [au];omega)];simp
theorem O9 (l:List (List Li)):∀ x∈cP l,x.cells.length=1∧x.cells.all ae.cI=true:=fun x hx=>by
 obtain ⟨t,_,rfl⟩:=bW.1 hx
 exact ⟨rfl,rfl⟩
theorem QA (es:List (List Li)) (c:List Li) (dX:es≠[]) (hl:es.length<1000000):bS Tryz.prog 26 [.os 1 0 es.length 1, .int .i64 0, .os 2 0 1 1] [none,some (.row (cP es) 0),some (.row [.ps 5 (lits c)] 0)]
  (fun r σ'=>r = .ps 1 (cP (c :: es))∧σ'=[none,none,none]):=by
 have nG : 0<es.length:=List.length_pos_iff.2 dX
 refine bS.sI (pre:=[]) (post:=[.int .i64 0, .os 2 0 1 1]) (b:=1) (es:=cP es) (fz:=0) rfl rfl (by simp [cP]) nG fun cp F8=>?_
 refine bS.vd (rs:=[.tmp 6]) (m:=92) 1000 Tryz.func26 rfl rfl rfl rfl ?_
 have h0:¬ (0:Int)=es.length:=by omega
 obtain ⟨N,hN⟩:∃ N:Nat,N=es.length+1:=⟨_,rfl⟩
 have hw:IntKind.i64.wrap ((es.length:Int)+1)=(N:Int):=by rw [ep (by omega)];omega
 have re:IntKind.i64.wrap (N:Int)=(N:Int):=ep (by omega)
 have gK:(cP es).length=es.length:=mr es
 by_cases hg:(cp:Int)<(N:Int)
 ·have tq:¬ N≤cp:=by omega
  have h9:N≤1000000000:=by omega
  have yn:eL ⟨1,false,24,[.aU], .slice⟩ (List.replicate N .aU):=⟨fun x hx=>by rw [(List.mem_replicate.1 hx).2];exact ⟨rfl,rfl⟩,by decide,by decide,rfl⟩
  have Jh:List.take es.length (cP es++List.replicate (cp - es.length) (dx 1))=cP es:=by
   rw [bY (by rw [gK];exact ah _),bd (by rw [gK];exact ah _)]
  have sj:List.take N [ae.ps 5 (lits c)]=[.ps 5 (lits c)]:=bd (by simp;omega)
  have h_:(List.replicate N ae.aU).set 0 (.ps 5 (lits c)) = .ps 5 (lits c) :: List.replicate es.length .aU:=by rw [hN,fw];rfl
  have Mm:N - 1=es.length:=by omega
  have NG:List.take es.length (cP es)=cP es:=bd (by rw [gK];exact ah _)
  have sQ:=Ztc (x:=.ps 5 (lits c)) (R:=List.replicate es.length .aU) (ys:=cP es) (by simp [cP])
  have L_:(1:Int)≤N:=by omega
  have ou : 1+es.length=N:=by omega
  have nH:es.length+1=N:=by omega
  simp only [go_sem,h0,hw,re,hg,tq,h9,yn,av,ay,bz,gK,mR,aQ,forall_eq,Jh,uL,sj,h_]
  (repeat ((with_reducible refine And.intro ?_ ?_); ·omega))
  refine aK.draw [.no, .no, .no, .no, .no, .no, .no, .no,⟨none,[3],[]⟩] 4 4 mixed rfl rfl (by decide) ?_
  simp only [go_sem,dA,Mm,gK,Jh,NG,sQ,mR,bz,ou,nH,L_,ay,bz]
  (repeat ((with_reducible refine And.intro ?_ ?_); ·omega))
  refine ⟨O9 es,?_⟩
  refine aK.go 1000 ?_
  simp only [go_sem]
  rw [Hg]
  refine ⟨.ps 1 (cP (c :: es)),?_,by simp [go_sem,eZ],rfl,rfl⟩
  simp only [go_sem,au,gK,nH]
  have ht3:List.take N (.ps 5 (lits c) :: cP es) = .ps 5 (lits c) :: cP es:=bd (by simp [gK];omega)
  rw [ht3]
  exact cH _ _ _
 ·have L_:(1:Int)≤N:=by omega
  have Mm:N - 1=es.length:=by omega
  have ou : 1+es.length=N:=by omega
  have nH:es.length+1=N:=by omega
  simp only [go_sem,h0,hw,re,hg,av,ay,bz,gK,L_]
  (repeat ((with_reducible refine And.intro ?_ ?_); ·omega))
  refine aq.rW (tS:=23) (tR:=4) (e:=24) (b1:=2) (b2:=1) (n1:=1) (n2:=N - 1) (sz:=1) Tryz.func59 (by kernel_rfl) (by kernel_rfl) (by kernel_rfl) (by kernel_rfl) (by kernel_rfl) Yzv (.inl rfl) (.inr ⟨_,rfl⟩) (by decide) (by decide) (by omega) rfl rfl (by decide) ?_
  refine aK.go 1000 ?_
  simp only [go_sem]
  refine aK.draw [.no, .no, .no, .no, .no, .no, .no, .no,⟨none,[1],[]⟩] 3 3 mixed rfl rfl (by decide) ?_
  have BH:(cP es++List.replicate (cp - es.length) (dx 1)).length=cp:=by rw [ay,gK,bz];omega
  have NI:List.take es.length (List.take N (cP es++List.replicate (cp - es.length) (dx 1)))=cP es:=by
   rw [qz,Nat.min_eq_left (by omega),bY (by rw [gK];exact ah _),bd (by rw [gK];exact ah _)]
  generalize Vc:cP es++List.replicate (cp - es.length) (dx 1)=E at *
  have sQ:∀ x,List.take N ((cr E 1 (cP es)).set 0 x)=x :: cP es:=fun x=>by
   have h1:=DW (cP es) E 1 (by rw [gK,BH];omega)
   match E,BH with
   | [],BH=>simp at BH;omega
   | y :: E,BH =>
    rw [h1]
    simp only [eR,List.take_zero,bj,bf,df,gK,ou,← nH]
    rw [bY (by rw [gK];exact ah _),bd (by rw [gK];exact ah _)]
  have MB:mR 1 (cP es):=O9 es
  have sj:List.take N [ae.ps 5 (lits c)]=[.ps 5 (lits c)]:=bd (by simp;omega)
  have MC:mR 1 [ae.ps 5 (lits c)]:=fun x hx=>by rw [aQ.1 hx];exact ⟨rfl,rfl⟩
  simp only [go_sem,dA,Mm,BH,NI,MB,gK,ou]
  (repeat ((with_reducible refine And.intro ?_ ?_); ·omega))
  refine aK.go 1000 ?_
  simp only [go_sem,uL,BH,sj,MC]
  (repeat ((with_reducible refine And.intro ?_ ?_); ·omega))
  rw [Hg]
  refine ⟨.ps 1 (cP (c :: es)),?_,by simp [go_sem,eZ],rfl,rfl⟩
  simp only [go_sem,bh,uL,BH,sQ]
  exact ⟨by omega,cH _ _ _⟩
theorem Jt (c:List Li):eL ⟨1,false,24,[.aU], .slice⟩ [ae.ps 5 (lits c)]:=Yui [c] ▸ trivial
theorem P_ (c:List Li):bS Tryz.prog 26 [.aU, .int .i64 0, .os 0 0 1 1] [some (.row [.ps 5 (lits c)] 0)]
  (fun r σ'=>r = .ps 1 (cP [c])∧σ'=[none]):=by
 refine bS.vd (rs:=[.tmp 6]) (m:=92) 1000 Tryz.func26 rfl rfl rfl rfl ?_
 simp only [go_sem,Jt]
 (repeat ((with_reducible refine And.intro ?_ ?_); ·omega))
 rw [Hg]
 refine ⟨.ps 1 (cP [c]),?_,by simp [go_sem,eZ],rfl,rfl⟩
 simp only [go_sem,cP,aI,aS]
theorem P9 (c:List Li):bS Tryz.prog 26 [.os 1 0 0 1, .int .i64 0, .os 2 0 1 1] [none,some (.row [] 0),some (.row [.ps 5 (lits c)] 0)]
  (fun r σ'=>r = .ps 1 (cP [c])∧σ'=[none,none,none]):=by
 refine bS.vd (rs:=[.tmp 6]) (m:=92) 1000 Tryz.func26 rfl rfl rfl rfl ?_
 simp only [go_sem,Jt]
 (repeat ((with_reducible refine And.intro ?_ ?_); ·omega))
 rw [Hg]
 refine ⟨.ps 1 (cP [c]),?_,by simp [go_sem,eZ],rfl,rfl⟩
 simp only [go_sem,cP,aI,aS]
def ow (c:List Li):Prop:=∀ (i:Nat) (h:i<c.length),c[i].l.size<999999999∧c[i].r.size<999999999
def cB (g:List Sy):List (List Li)→Int
 | []=>0
 | c :: l=>if a_ g c≠0 then a_ g c else cB g l
theorem Yf (g:List Sy) (es:List (List Li)) (c:List Li) (oB:∀ x∈c :: es,ow x) (hl:es.length<1000000):aJ Tryz.prog 106 [.ps 4 (syms g), .ps 1 (cP es), .ps 5 (lits c)] (.int .i64 (cB g (c :: es))):=by
 refine aJ.begin (rs:=[.tmp 6]) (m:=24) 1000 Tryz.func106 rfl rfl rfl (by decide) trivial ?_
 simp only [go_sem]
 have vn:(es=[]∨es≠[]):=by cases es<;>simp
 rcases vn with he | dX
 case' inl =>
  have h0:cP es=[]:=by rw [he];rfl
  have h1 : [c]=c :: es:=by rw [he]
  simp only [go_sem,h0]
  refine (bS.v Qp).mono ?_
  rintro r σ' (⟨rfl,rfl⟩ | ⟨rfl,rfl⟩)
 case' inl.inl =>
  refine aK.go 1000 ?_
  simp only [go_sem]
  refine (bS.v (P_ c)).mono ?_
  rintro r σ' ⟨rfl,rfl⟩
  rw [h1]
  refine aK.go 1000 ?_
  simp only [go_sem,mr]
 case' inl.inr =>
  refine aK.go 1000 ?_
  simp only [go_sem]
  refine (bS.v (P9 c)).mono ?_
  rintro r σ' ⟨rfl,rfl⟩
  rw [h1]
  refine aK.go 1000 ?_
  simp only [go_sem,mr]
 case' inr =>
  refine (bS.v (Rt es dX (by omega)).1).mono ?_
  rintro r σ' ⟨rfl,rfl⟩
  refine aK.go 1000 ?_
  simp only [go_sem]
  refine (bS.v (QA es c dX hl)).mono ?_
  rintro r σ' ⟨rfl,rfl⟩
  refine aK.go 1000 ?_
  simp only [go_sem,mr]
 all_goals
  obtain ⟨L,hL⟩:∃ L,c :: es=L:=⟨_,rfl⟩
  have hlen:es.length+1=L.length:=by rw [← hL];rfl
  have ju:L.length<2000000:=by omega
  rw [hL,hlen]
  rw [hL] at oB
  refine aK.c9 (ι:={i:Nat // i≤L.length∧cB g (L.drop i)=cB g L}) 1000 (fun i=>fD 27 [(0, .ps 4 (syms g)),(6, .int .i64 0),(14, .ps 1 (cP L)),(15, .int .i64 L.length),(16, .int .i64 i.1)]) (fun _=>[]) (fun i=>L.length - i.1) ⟨0,by simp⟩ ?_ (fun _=>av _) ?_
  ·simp only [go_sem,dF,eZ]
  ·rintro ⟨i,hi,aO⟩
   by_cases bD:(i:Int)<L.length
   ·have aZ:i<L.length:=by omega
    have hd:cB g (L.drop i)=if a_ g L[i]≠0 then a_ g L[i] else cB g (L.drop (i+1)):=by
     rw [ak aZ];rfl
    simp only [go_sem,bD,mr,y_ aZ]
    (repeat ((with_reducible refine And.intro ?_ ?_); ·omega))
    refine aq.bU [] (E5 g L[i] (oB _ (aF aZ))) (cH _ _ _) (by simp [go_sem,dF,ct]) ?_;simp only [bL,bZ,bX,if_true];refine aK.go 1000 ?_
    by_cases c0:a_ g L[i]=0
    ·simp only [go_sem,c0]
     refine ⟨⟨i+1,aZ,by rw [← aO,hd,if_neg (by simp [c0])]⟩,?_,by simp only;omega⟩
     simp only [go_sem,dF,eZ]
     rw [ep (by omega)];rfl
    ·simp only [go_sem,c0]
     refine aK.go 1000 ?_
     rw [hd,if_pos c0] at aO
     simp only [go_sem,aO]
   ·have:i=L.length:=by omega
    subst this
    rw [aV] at aO
    simp only [go_sem,bD]
    refine aK.go 1000 ?_
    simp only [go_sem,← aO,cB]
@[go_sem] theorem Yqw {π:Nat→Nat} {b sz:Nat} {l:List ae}:dI π (ja b sz l)=ja (π b) sz l:=by cases l<;>rfl
@[go_sem] theorem sF {n b sz:Nat} {l:List ae} (h:b<n):ae.low n (ja b sz l)=True:=eq_true (Bl h sz l)
@[go_sem] theorem Yx2 {n:Nat} {l:List ae} {r:ai}:bt n (eJ l :: r)=(bx n l∧bt n r):=by
 cases l with
 | nil=>simp [eJ,bt,ji,bx]
 | cons x l=>rfl
@[go_sem] theorem HO {π:Nat→Nat} {σ r:ai} {i:Nat} {l:List ae} (h:bx 0 l):gb π σ i (eJ l :: r)=((l=[]∨bF σ (π i)=eJ l)∧gb π σ (i+1) r):=by
 cases l with
 | nil=>simp [eJ,HA]
 | cons x l=>rw [eJ,Hw];simp only [dG,cz h];simp
def within (a b:Tm):Bool:=a.vars.all fun v=>decide (v∈b.vars)
def fG (u:Un):Bool:=decide (u.l.head=0) || !within u.r u.l
def zx (t:Tm):Prop:=t.fit∧t.size<99999999
def Jm (c:List Li):Prop:=∀ l∈c,zx l.l∧zx l.r
theorem Zz5 (σ:ai) (b:Nat) (vs:List Int) (hb:bF σ b=some (.var [.ps 1 (ints vs)])) (v:Int) (hs:bt σ.length σ) (hl:vs.length<2 ^ 62) :
  aq Tryz.prog (.fn 164 [] [.ptr b 0]) [.int .i64 v] σ (fun r σ'=>r = .bool (!decide (v∈vs))∧σ' = σ):=by
 refine aq.begin (rs:=[.tmp 3]) (m:=6) 1000 Tryz.func164 rfl rfl rfl rfl rfl ?_
 simp only [go_sem,hb]
 refine aq.bU [] (Hk vs v hl) (cH _ _ _) (by simp [go_sem,dp]) ?_
 rw [jd];simp only [ite_self]
 refine aK.go 1000 ?_
 simp only [go_sem]
 rw [fL];exact ⟨σ,fx σ,ah _,hs,trivial,rfl,rfl⟩
theorem Zyx (a b:Tm) (ha:zx a) (hb:zx b):aJ Tryz.prog 139 [a.aN,b.aN] (.bool (within a b)):=by
 refine aJ.begin (rs:=[.tmp 4]) (m:=11) 1000 Tryz.func139 rfl rfl rfl (by decide) trivial ?_
 have EG:=KP a
 have hvb:=KP b
 have h1:=ha.2
 have h2:=hb.2
 simp only [go_sem,dc]
 refine aq.bU [] (UU b hb.1 (by omega)) (by (try simp only [dc]);exact cH _ _ _) (by simp [go_sem,dE,bP]) ?_;rw [jd];simp only [ite_self];refine aK.go 1000 ?_
 simp only [go_sem]
 refine aq.bU [] (UU a ha.1 (by omega)) (by (try simp only [dc]);exact cH _ _ _) (by simp [go_sem,dE,bP]) ?_;rw [jd];simp only [ite_self];refine aK.go 1000 ?_
 simp only [go_sem]
 refine (Zm5 _ _ (fun v=>!decide (v∈b.vars)) a.vars (by omega) ?_ ?_ (fun i h=>Zz5 _ 2 b.vars rfl _ ?_ (by omega))).mono ?_
 ·simp [go_sem,bP,dp]
 ·simp [go_sem]
 ·simp [go_sem,bP,dp]
 rintro r σ' ⟨rfl,rfl⟩
 refine aK.go 1000 ?_
 simp only [go_sem]
 simp [within,List.all_eq_not_any_not]
theorem YC (u:Un) (hl:zx u.l) (hr:zx u.r):aJ Tryz.prog 138 [u.aN] (.bool (fG u)):=by
 refine aJ.begin (rs:=[.tmp 2]) (m:=14) 1000 Tryz.func138 rfl rfl rfl (by decide) trivial ?_
 by_cases h0:u.l.head=0
 ·simp only [go_sem,JF,h0,fG]
 ·simp only [go_sem,JF,h0,fG]
  refine aq.bU [] (Zyx u.r u.l hr hl) (by (try simp only [dc]);exact cH _ _ _) (by simp [go_sem,dE,bP]) ?_;simp only [bL,bZ,bX,if_true];refine aK.go 1000 ?_
  simp only [go_sem]
theorem Zvm (σ:ai) (c:ae) (hs:bt σ.length σ) (hc:c.low σ.length) :
  aq Tryz.prog (.fn 161 [] []) [.aU,c] σ (fun r σ'=>r = .int .i64 (-1)∧σ' = σ):=by
 refine aq.begin (rs:=[.tmp 4]) (m:=17) 1000 Tryz.func161 rfl rfl rfl rfl rfl ?_
 simp only [go_sem]
 refine aK.c9 (ι:=Unit) 1000 (fun _=>fD 19 [(0, .aU),(1,c),(7, .int .i64 0),(8, .int .i64 0)]) (fun _=>σ) (fun _=>0) () ?_ (fun _=>ah _) ?_
 ·simp only [go_sem,hc,hs]
  exact fx σ
 ·rintro ⟨⟩
  simp only [go_sem]
  refine aK.go 1000 ?_
  simp only [go_sem]
  rw [fL];exact ⟨σ,fx σ,ah _,hs,trivial,rfl,rfl⟩
theorem Zm7 (σ:ai) (c:ae) (hs:bt σ.length σ) (hc:c.low σ.length) :
  aq Tryz.prog (.fn 137 [] []) [.aU,c] σ (fun r σ'=>r = .aU∧σ' = σ):=by
 refine aq.begin (rs:=[.tmp 4]) (m:=40) 1000 Tryz.func137 rfl rfl rfl rfl rfl ?_
 simp only [go_sem]
 refine (Zvm σ c hs hc).mono ?_
 rintro r σ' ⟨rfl,rfl⟩
 refine aK.go 1000 ?_
 simp only [go_sem]
 rw [fL];exact ⟨σ',fx σ',ah _,hs,trivial,rfl,rfl⟩
def rK (c:List Li) (i:Nat):List Un :=
 match c with
 | [e]=>if e.neg then [] else [⟨e.l,e.r,(i:Int)⟩,⟨e.r,e.l,(i:Int)⟩]
 | _=>[]
def j4:List (List Li)→Nat→List Un
 | [],_=>[]
 | c :: l,i=>rK c i++j4 l (i+1)
def cM (es:List (List Li)):List Un:=(j4 es 0).filter fun u=>!fG u
theorem Yp6 (c:List Li) (i:Nat):(rK c i).length≤2:=by
 unfold rK;split
 ·split<;>simp
 ·simp
theorem Yst {c:List Li} {i:Nat} (h:Jm c):∀ u∈rK c i,zx u.l∧zx u.r:=by
 intro u hu
 unfold rK at hu
 split at hu
 ·rename_i e
  have he:=h e (by simp)
  split at hu
  ·cases hu
  ·rcases aP.1 hu with rfl | hu
   ·exact he
   ·rcases aP.1 hu with rfl | hu
    ·exact ⟨he.2,he.1⟩
    ·cases hu
 ·cases hu
theorem O_:∀ (l:List (List Li)) (i:Nat),(∀ c∈l,Jm c)→∀ u∈j4 l i,zx u.l∧zx u.r
 | [],_,_,u,hu=>by simp [j4] at hu
 | c :: l,i,h,u,hu=>by
  rw [j4,aX] at hu
  rcases hu with hu | hu
  ·exact Yst (h c (by simp)) u hu
  ·exact O_ l (i+1) (fun c hc=>h c (by simp [hc])) u hu
theorem Zv (es:List (List Li)) (hl:es.length<1000000) (ho:∀ c∈es,Jm c):aJ Tryz.prog 107 [.ps 1 (cP es)] (.ps 5 (jb (cM es))):=by
 refine aJ.begin (rs:=[.tmp 2]) (m:=48) 1000 Tryz.func107 rfl rfl rfl (by decide) (r6 _) ?_
 simp only [go_sem,mr]
 refine aK.gS (ι:={p:Nat×List Un // p.1≤es.length∧p.2++j4 (es.drop p.1) p.1=j4 es 0∧p.2.length≤2*p.1}) 1000 (fun p=>fD 49 [(2, .aU),(3,ja 0 5 (jb p.1.2)),(6, .ps 1 (cP es)),(7, .int .i64 es.length),(8, .int .i64 p.1.1)]) (fun p=>[eJ (jb p.1.2)]) (fun p=>es.length - p.1.1) ⟨(0,[]),by simp⟩ [] ?_ (fun _=>by simp) ?_
 ·refine iF rfl ?_
  simp only [go_sem,jb,aS,tK,td,eZ,cz (eZ _)]
 ·rintro ⟨⟨i,L⟩,hi,aO,hL⟩
  simp only at hi aO hL
  by_cases bD:(i:Int)<es.length
  ·have aZ:i<es.length:=by omega
   have hd:j4 (es.drop i) i=rK es[i] i++j4 (es.drop (i+1)) (i+1):=by
    rw [ak aZ];rfl
   rw [hd] at aO
   have hw:IntKind.i64.wrap ((i:Int)+1)=((i+1:Nat):Int):=by rw [ep (by omega)];omega
   have ye:=y_ aZ
   obtain ⟨c,hc⟩:∃ c,es[i]=c:=⟨_,rfl⟩
   simp only [hc] at aO ye
   have same:rK c i=[]→L++j4 (es.drop (i+1)) (i+1)=j4 es 0:=fun h=>by rw [← aO,h];rfl
   by_cases c1:(c.length:Int)=1
   ·obtain ⟨e,rfl⟩:=List.length_eq_one_iff.1 (show c.length=1 by omega)
    cases fM:e.neg with
    | true =>
     simp only [go_sem,bD,mr,ye,lits,aI,aS,ku,fM,hw]
     refine ⟨by omega,⟨(i+1,L),by simp only;omega,same (by simp [rK,fM]),by simp only;omega⟩,[],iF rfl ?_,by simp only;omega⟩
     simp only [go_sem,eZ,r6,cz (eZ _)]
    | false =>
     simp only [go_sem,bD,mr,ye,lits,aI,aS,ku,fM,hw]
     refine ⟨by omega,?_⟩
     refine aK.draw [⟨none,[],[1]⟩, .no, .no, .no, .no, .no, .no, .no, .no, .no, .no, .no, .no, .no, .no, .no, .no, .no, .no, .no, .no,⟨some 1,[1],[]⟩,⟨some 2,[0,2],[]⟩] 1 3 mixed rfl rfl (by decide) ?_
     simp only [go_sem,dA,ku,Lk,eL,aP,dO,forall_eq_or_imp,forall_eq,ek,sG]
     refine ⟨by omega,?_⟩
     refine aK.go 1000 ?_
     simp only [go_sem]
     have hu:rK [e] i=[⟨e.l,e.r,(i:Int)⟩,⟨e.r,e.l,(i:Int)⟩]:=by simp [rK,fM]
     rw [hu] at aO
     refine ⟨⟨(i+1,L++[⟨e.l,e.r,(i:Int)⟩,⟨e.r,e.l,(i:Int)⟩]),by simp only;omega,by rw [← aO];simp,by simp only [ay,au,aR];omega⟩,[(0,2),(2,0)],iF rfl ?_,by simp only;omega⟩
     have e1:jb (L++[⟨e.l,e.r,(i:Int)⟩,⟨e.r,e.l,(i:Int)⟩])=jb L++[Un.aN ⟨e.l,e.r,(i:Int)⟩,Un.aN ⟨e.r,e.l,(i:Int)⟩]:=by simp [jb]
     have lw:bx 0 (jb (L++[⟨e.l,e.r,(i:Int)⟩,⟨e.r,e.l,(i:Int)⟩])):=r6 _
     rw [e1] at lw ⊢
     rw [u_ (by simp),u9 (by simp)]
     simp only [go_sem,eZ,r6,cz (eZ _),cz lw,ie (av 1) lw,sG]
     rw [hw];exact ⟨rfl,rfl⟩
   ·have c2:rK c i=[]:=by
     unfold rK;split
     ·simp at c1
     ·rfl
    simp only [go_sem,bD,mr,ye,fO,c1,hw]
    refine ⟨by omega,⟨(i+1,L),by simp only;omega,same c2,by simp only;omega⟩,[],iF rfl ?_,by simp only;omega⟩
    simp only [go_sem,eZ,r6,cz (eZ _)]
  ·have dR:i=es.length:=by omega
   subst dR
   rw [aV,j4,bn] at aO
   have wc:cM es=L.filter fun u=>!fG u:=by rw [cM,← aO]
   have j8:=O_ es 0 ho
   rw [← aO] at j8
   simp only [go_sem,bD]
   refine aK.go 1000 ?_
   by_cases zh:L=[]
   ·simp only [go_sem,zh,jb,aS,tK,td]
    refine (Zm7 _ _ (by simp [go_sem]) (by simp [go_sem])).mono ?_
    rintro r σ' ⟨rfl,rfl⟩
    refine aK.go 1000 ?_
    rw [wc,zh]
    simp only [go_sem,List.filter_nil,aS]
   ·have dX:jb L≠[]:=by simp [jb,zh]
    rw [Cs dX,Bm dX,sG]
    simp only [go_sem]
    refine (Zpl L fG 138 (by omega) (fun u hu=>YC u (j8 u hu).1 (j8 u hu).2) zh).mono ?_
    rintro r σ' ⟨rfl,rfl⟩
    refine aK.go 1000 ?_
    rw [wc]
    simp only [go_sem,sG]
    rw [bd (by rw [sG];exact ah _)]
    exact cH _ _ _
end Go.Proofs
namespace Go.cV
open Go
theorem fR.rk {w:World} {M:Nat→Nat→Prop} {β β':Env} {π:Nat→Nat} {n:Nat} {L:Loc} {cf:bE} (h:fR w M β' L cf) (hl:cf.low n) (hβ:∀ b,b<n→β (π b) = β' b):fR w M β L (dG π cf):=by
 cases cf with
 | var cs =>
  obtain ⟨c,e,h1,h0,h2,h3⟩:=h
  exact ⟨c,e,h1,h0,by rw [jx];exact h2,fun k hk=>by rw [jx] at hk;rw [lD];exact (h3 k hk).rk (iX hl k) hβ⟩
 | row es fz =>
  obtain ⟨c,e,h1,h2,h3,h4,h5⟩:=h
  exact ⟨c,e,h1,h2,by rw [jx];exact h3,fun i hi=>by rw [jx] at hi;rw [lD,Bb,jx];exact h4 i hi,fun i j hi hj=>by
   rw [jx] at hi;rw [lD,Bb,lD];exact (h5 i j hi hj).rk (iX (D7 (iX hl i)) j) hβ⟩
 | map ks vs f =>
  obtain ⟨es,clk,h1,h2,h3,h4,h5,h6⟩:=h
  exact ⟨es,clk,h1,by rw [jx];exact h2,by rw [jx,jx];exact h3,fun k hk=>by rw [jx] at hk;rw [lD];exact (h4 k hk).rk (iX hl.1 k) hβ,fun k hk=>by rw [jx] at hk;rw [lD];exact (h5 k hk).rk (iX hl.2 k) hβ,h6⟩
 | iter s p=>exact h
 | kZ ks vs seen =>
  obtain ⟨m,es,clk,h1,h2,h3,h4,h5,h6,h7,h8,h9⟩:=h
  exact ⟨m,es,clk,h1,h2,h3,by rw [jx];exact h4,by rw [jx,jx];exact h5,fun k hk=>by rw [jx] at hk;rw [lD];exact (h6 k hk).rk (iX hl.1 k) hβ,fun k hk=>by rw [jx] at hk;rw [lD];exact (h7 k hk).rk (iX hl.2 k) hβ,h8,fun i hi=>by rw [jx];exact h9 i hi⟩
 | loop r =>
  obtain ⟨t,d,f,h1,h2,h3⟩:=h
  exact ⟨t,d,f,h1,by simp only [jx];exact h2,fun k hk=>by simp only [jx] at hk;rw [lD];exact (h3 k hk).rk (iX hl k) hβ⟩
def mX (ι:Nat→Nat) (n m b:Nat):Nat:=if b<n then ι b else b - n+m
def fc (ι π:Nat→Nat):Nat→ai→ai→ai
 | _,[],σ=>σ
 | i,x :: r,σ=>fc ι π (i+1) r (σ.set (ι i) (x.map (dG π)))
def jJ (ι:Nat→Nat) (n:Nat) (Z' σ:ai):ai:=fc ι (mX ι n σ.length) 0 (Z'.take n) σ++(Z'.drop n).map (Option.map (dG (mX ι n σ.length)))
section
variable {ι π:Nat→Nat} {n m:Nat}
theorem DV:∀ (r σ:ai) (i:Nat),(fc ι π i r σ).length = σ.length
 | [],_,_=>rfl
 | x :: r,σ,i=>by rw [fc,DV r _ (i+1),bh]
theorem J5:∀ (r σ:ai) (i c:Nat),(∀ b,b<r.length→ι (i+b)≠c)→(fc ι π i r σ)[c]? = σ[c]?
 | [],_,_,_,_=>rfl
 | x :: r,σ,i,c,h=>by
  rw [fc,J5 r _ (i+1) c (fun b hb=>by have:=h (b+1) (by simpa using hb);rwa [show i+(b+1)=i+1+b by omega] at this),bK (by simpa using h 0 (by simp))]
theorem RF:∀ (r σ:ai) (i b:Nat),(∀ a a',a<r.length→a'<r.length→ι (i+a) = ι (i+a')→a=a')→b<r.length→ι (i+b) < σ.length→(fc ι π i r σ)[ι (i+b)]? = (r[b]?).map (Option.map (dG π))
 | [],_,_,b,_,hb,_=>absurd hb (by simp)
 | x :: r,σ,i,0,hinj,_,bD=>by
  rw [fc,J5]
  ·simp only [cj] at bD ⊢
   rw [fK bD];rfl
  ·intro a ha e
   have:=hinj (a+1) 0 (by simpa using ha) (by simp) (by rw [show i+(a+1)=i+1+a by omega];exact e)
   omega
 | x :: r,σ,i,b+1,hinj,hb,bD=>by
  have e:i+(b+1)=i+1+b:=by omega
  rw [e] at bD ⊢
  rw [fc,RF r _ (i+1) b (fun a a' ha ha' h=>by
   have:=hinj (a+1) (a'+1) (by simpa using ha) (by simpa using ha') (by rw [show i+(a+1)=i+1+a by omega,show i+(a'+1)=i+1+a' by omega];exact h)
   omega) (by simpa using hb) (by rw [bh];exact bD)]
  simp
theorem Ed {Z' σ:ai} (h:n≤Z'.length):(jJ ι n Z' σ).length = σ.length+(Z'.length - n):=by simp [jJ,DV]
variable (tA:∀ b b',b<n→b'<n→ι b = ι b'→b=b') (hb:∀ b,b<n→ι b<m)
include tA hb
theorem Cm {Z' σ:ai} (hm : σ.length=m) (h:n≤Z'.length) {b:Nat} (Er:b<Z'.length):(jJ ι n Z' σ)[mX ι n m b]? = (Z'[b]?).map (Option.map (dG (mX ι n m))):=by
 unfold jJ mX
 subst hm
 by_cases mc:b<n
 ·rw [if_pos mc,cm (by rw [DV];exact hb b mc)]
  have:=RF (ι:=ι) (π:=mX ι n σ.length) (Z'.take n) σ 0 b (fun a a' ha ha' e=>tA a a' (by simp at ha;omega) (by simp at ha';omega) (by simpa using e)) (by simp;omega) (by simpa using hb b mc)
  rw [bm] at this
  rw [show (fun b=>if b<n then ι b else b - n + σ.length)=mX ι n σ.length from rfl,this,e9,if_pos mc]
 ·rw [if_neg mc,bI (by rw [DV];omega),DV,show b - n + σ.length - σ.length=b - n by omega,cd,dJ,show n+(b - n)=b by omega]
omit tA hb in
theorem Le {Z' σ:ai} {c:Nat} (hc:c < σ.length) (h:∀ b,b<n→ι b≠c):(jJ ι n Z' σ)[c]? = σ[c]?:=by
 unfold jJ
 rw [cm (by rw [DV];exact hc),J5]
 intro b hb
 rw [bm]
 exact h b (by simp at hb;omega)
end
section
variable {P:Program}
theorem aq.many {F:Frame→List Frame→Sem Next→World→Value→World→Prop} {f:ae} {args:List ae} {K:ae→ai→Prop} {Z σ:ai} (ι:Nat→Nat) (tA:∀ b b',b<Z.length→b'<Z.length→ι b = ι b'→b=b') (hb:∀ b,b<Z.length→ι b < σ.length)
  (vI:∀ c x,σ[c]? = some (some x)↔∃ b y,b<Z.length∧ι b=c∧Z[b]? = some (some y)∧x=dG ι y) (hf:f.low Z.length) (ha:bx Z.length args) (hs:bt Z.length Z)
  (h:dt P F f args Z (fun r Z'=>Z.length≤Z'.length∧bt Z'.length Z'∧r.low Z'.length∧K (dI (mX ι Z.length σ.length) r) (jJ ι Z.length Z' σ))):dt P F (dI ι f) (dY ι args) σ K:=by
 intro X base β w vf vs h1 nD h2 h3 fr cs h4
 rw [jx] at h2 h3
 generalize hn:Z.length=n at *
 have vC:∀ b y,Z[b]? = some (some y)→b<n∧σ[ι b]? = some (some (dG ι y)):=fun b y hz=>by
  have bD:b<n:=by rw [← hn];exact (aH.1 hz).1
  exact ⟨bD,(vI _ _).2 ⟨b,y,bD,rfl,hz,rfl⟩⟩
 have he:∀ b,b<n→jK β ι n b = β (ι b):=fun b hb=>if_pos hb
 have hm:∀ g o,iQ σ β g o↔iQ Z (jK β ι n) g o:=fun g o=>by
  constructor
  ·rintro ⟨c,x,L,m1,m2,m3,m4⟩
   obtain ⟨b,y,q1,rfl,q3,rfl⟩:=(vI c x).1 m1
   exact ⟨b,y,L,q3,by rw [he b q1];exact m2,m3,Cn.mp m4⟩
  ·rintro ⟨b,y,L,m1,m2,m3,m4⟩
   obtain ⟨q1,q2⟩:=vC b y m1
   exact ⟨ι b,_,L,q2,by rw [← he b q1];exact m2,m3,Cn.mpr m4⟩
 have hM:MT X Z (jK β ι n)=MT X σ β:=funext fun g=>funext fun o=>propext (or_congr Iff.rfl (hm g o).symm)
 have hr:cF X base Z (jK β ι n) w:=by
  refine ⟨fun b hb=>if_neg (by omega),fun b x Er=>?_,fun b b' x y L L' e1 e2 e3 e4 e5=>?_,h1.size,h1.p6,h1.gl⟩
  ·obtain ⟨q1,q2⟩:=vC b x Er
   obtain ⟨L,l1,l2,l3,l4⟩:=h1.cf _ _ q2
   refine ⟨L,by rw [he b q1];exact l1,l2,l3,?_⟩
   rw [hM]
   exact l4.dI (qA hs b x Er)
  ·obtain ⟨q1,q2⟩:=vC b x e1
   obtain ⟨q3,q4⟩:=vC b' y e2
   rw [he b q1] at e3
   rw [he b' q3] at e4
   exact tA b b' q1 q3 (h1.inj _ _ _ _ L L' q2 q4 e3 e4 e5)
 have nU:bR w (MT X σ β) (jK β ι n) vf f:=bR.dI nD _ rfl hf
 have ha':∀ k,k<args.length→bR w (MT X σ β) (jK β ι n) (vs.getD k undef) (args.getD k .undef):=fun k hk=>by
  have:=h3 k hk
  rw [lD] at this
  exact bR.dI this _ rfl (iX ha k)
 rw [← hM] at nU ha'
 obtain ⟨r,Z',β',v,w',⟨q0,q1,q2,q3⟩,g1,g2,g3,g4,g5⟩:=h X base _ w vf vs hr nU h2 ha' fr cs h4
 rw [hn] at g3
 generalize EB : σ.length=m at *
 let ER:Env:=fun c=>if c<m then β c else β' (c - m+n)
 have eb:∀ b,ER (mX ι n m b) = β' b:=fun b=>by
  simp only [ER,mX]
  by_cases mc:b<n
  ·rw [if_pos mc,if_pos (hb b mc),g3.env b mc,he b mc]
  ·rw [if_neg mc,if_neg (by omega),show b - n+m - m+n=b by omega]
 have mH:∀ c x,(jJ ι n Z' σ)[c]? = some (some x)→∃ b y,c=mX ι n m b∧Z'[b]? = some (some y)∧x=dG (mX ι n m) y:=fun c x hc=>by
  have bD:=(aH.1 hc).1
  rw [Ed q0,EB] at bD
  by_cases I8:c<m
  ·by_cases hex:∃ b,b<n∧ι b=c
   ·obtain ⟨b,mc,rfl⟩:=hex
    have:=Cm (ι:=ι) tA hb (Z':=Z') EB q0 (b:=b) (by omega)
    rw [show mX ι n m b = ι b from if_pos mc,hc] at this
    obtain ⟨o,h1,h2⟩:=aG.1 this.symm
    obtain ⟨y,rfl,h3⟩:=aG.1 h2
    exact ⟨b,y,(if_pos mc).symm,h1,h3.symm⟩
   ·rw [Le (by omega) (fun b mc e=>hex ⟨b,mc,e⟩)] at hc
    obtain ⟨b,y,p1,p2,_⟩:=(vI c x).1 hc
    exact absurd ⟨b,p1,p2⟩ hex
  ·have e:mX ι n m (c - m+n)=c:=by unfold mX;rw [if_neg (by omega)];omega
   have:=Cm (ι:=ι) tA hb (Z':=Z') EB q0 (b:=c - m+n) (by omega)
   rw [e,hc] at this
   obtain ⟨o,h1,h2⟩:=aG.1 this.symm
   obtain ⟨y,rfl,h3⟩:=aG.1 h2
   exact ⟨_,y,e.symm,h1,h3.symm⟩
 have fh:∀ b y,Z'[b]? = some (some y)→(jJ ι n Z' σ)[mX ι n m b]? = some (some (dG (mX ι n m) y)):=fun b y Er=>by
  rw [Cm tA hb EB q0 (aH.1 Er).1,Er];rfl
 have Az:∀ g o,iQ (jJ ι n Z' σ) ER g o↔iQ Z' β' g o:=fun g o=>by
  constructor
  ·rintro ⟨c,x,L,m1,m2,m3,m4⟩
   obtain ⟨b,y,rfl,p2,rfl⟩:=mH c x m1
   exact ⟨b,y,L,p2,by rw [← eb];exact m2,m3,Cn.mp m4⟩
  ·rintro ⟨b,y,L,m1,m2,m3,m4⟩
   exact ⟨_,_,L,fh b y m1,by rw [eb];exact m2,m3,Cn.mpr m4⟩
 have F1:MT X Z' β'=MT X (jJ ι n Z' σ) ER:=funext fun g=>funext fun o=>propext (or_congr Iff.rfl (Az g o).symm)
 refine ⟨_,jJ ι n Z' σ,ER,v,w',q3,?_,?_,?_,by rw [Ed q0,EB];omega,g5⟩
 ·refine ⟨fun c hc=>?_,fun c x hc=>?_,fun c c' x y L L' e1 e2 e3 e4 e5=>?_,g1.size,g1.p6,g1.gl⟩
  ·rw [Ed q0,EB] at hc
   simp only [ER]
   rw [if_neg (by omega)]
   exact g1.nC _ (by omega)
  ·obtain ⟨b,y,rfl,p2,rfl⟩:=mH c x hc
   obtain ⟨L,k1,k2,k3,k4⟩:=g1.cf b y p2
   refine ⟨L,by rw [eb];exact k1,k2,k3,?_⟩
   rw [← F1]
   exact k4.rk (π:=mX ι n m) (qA q1 b y p2) fun b _=>eb b
  ·obtain ⟨b,u,rfl,p2,rfl⟩:=mH c x e1
   obtain ⟨b',u',rfl,p2',rfl⟩:=mH c' y e2
   rw [eb] at e3 e4
   rw [g1.inj b b' u u' L L' p2 p2' e3 e4 e5]
 ·rw [← F1]
  exact g2.rk (π:=mX ι n m) q2 fun b _=>eb b
 ·exact ⟨g3.os,g3.tape,g3.output,g3.size,fun g o x hc hn=>g3.cell g o x hc fun hx=>hn ((hm g o).2 hx),fun g hg hn=>g3.block g hg fun o hx=>hn o ((hm g o).2 hx),fun g o hx=>(g3.iC g o ((Az g o).1 hx)).imp (hm g o).2 id,fun c hc=>if_pos hc⟩
theorem aq.xO {F:Frame→List Frame→Sem Next→World→Value→World→Prop} {f:ae} {args:List ae} {K:ae→ai→Prop} {Z σ:ai} (ι:Nat→Nat) (tA:∀ b b',b<Z.length→b'<Z.length→ι b = ι b'→b=b') (hb:∀ b,b<Z.length→ι b < σ.length)
  (vI:∀ b,b<Z.length→∃ o,Z[b]? = some o∧σ[ι b]? = some (o.map (dG ι))) (hf:f.low Z.length) (ha:bx Z.length args) (hs:bt Z.length Z)
  (h:dt P F f args Z (fun r Z'=>Z.length≤Z'.length∧bt Z'.length Z'∧r.low Z'.length∧K (dI (mX ι Z.length σ.length) r) (jJ ι Z.length Z' σ))):dt P F (dI ι f) (dY ι args) σ K:=by
 let vis:Nat→Bool:=fun c=>(List.range Z.length).any fun b=>ι b==c
 have uy:∀ c,vis c=true↔∃ b,b<Z.length∧ι b=c:=fun c=>by simp [vis]
 refine aq.frame vis (K':=fun r iO=>∃ Z',Z.length≤Z'.length∧iO=jJ ι Z.length Z' (eF vis 0 σ)∧K r (jJ ι Z.length Z' σ)) ?_ ?_
 ·have hl:(eF vis 0 σ).length = σ.length:=rM _ _ _
  refine aq.many ι tA (by rw [hl];exact hb) (fun c x=>?_) hf ha hs (h.mono ?_)
  ·rw [vV,bm]
   constructor
   ·intro hx
    obtain ⟨o,h1,h2⟩:=aG.1 hx
    split at h2
    ·rename_i hv
     obtain ⟨b,mc,rfl⟩:=(uy c).1 hv
     obtain ⟨z,rH,rI⟩:=vI b mc
     rw [h1] at rI
     subst h2
     obtain ⟨y,rfl,e⟩:=aG.1 (aM rI).symm
     exact ⟨b,y,mc,rfl,rH,e.symm⟩
    ·cases h2
   ·rintro ⟨b,y,mc,rfl,hz,rfl⟩
    obtain ⟨z,rH,rI⟩:=vI b mc
    rw [hz] at rH
    cases rH
    rw [rI,bw,if_pos ((uy _).2 ⟨b,mc,rfl⟩)];rfl
  ·rintro r Z' ⟨q0,q1,q2,q3⟩
   rw [hl]
   exact ⟨q0,q1,q2,Z',q0,rfl,q3⟩
 ·rintro r iO ⟨Z',q0,rfl,q3⟩
  have hl:(eF vis 0 σ).length = σ.length:=rM _ _ _
  refine ⟨fun c hc hv=>?_,?_⟩
  ·rw [Le (by rw [hl];exact hc) (fun b mc e=>by rw [(uy c).2 ⟨b,mc,e⟩] at hv;cases hv),vV,bm,aA hc]
   simp [hv]
  ·have e:gQ vis 0 (jJ ι Z.length Z' (eF vis 0 σ)) σ=jJ ι Z.length Z' σ:=by
    refine bO fun c=>?_
    rw [D0 vis _ σ 0 c (by rw [Ed q0,hl];omega),bm]
    by_cases hc:c < σ.length
    ·cases hv:vis c with
     | false =>
      rw [if_pos ⟨hc,rfl⟩,Le hc (fun b mc e=>by rw [(uy c).2 ⟨b,mc,e⟩] at hv;cases hv)]
     | true =>
      rw [if_neg (by simp)]
      obtain ⟨b,mc,rfl⟩:=(uy c).1 hv
      have e1:=Cm (ι:=ι) tA (m:=(eF vis 0 σ).length) (fun b mc=>by rw [hl];exact hb b mc) (Z':=Z') rfl q0 (b:=b) (by omega)
      have e2:=Cm (ι:=ι) tA (m:=σ.length) hb (Z':=Z') rfl q0 (b:=b) (by omega)
      rw [hl] at e1
      rw [show mX ι Z.length σ.length b = ι b from if_pos mc] at e1 e2
      rw [e1,e2]
    ·rw [if_neg (fun h=>hc h.1)]
     by_cases kY:c < σ.length+(Z'.length - Z.length)
     ·have e0:mX ι Z.length σ.length (c - σ.length+Z.length)=c:=by unfold mX;rw [if_neg (by omega)];omega
      have e1:=Cm (ι:=ι) tA (m:=(eF vis 0 σ).length) (fun b mc=>by rw [hl];exact hb b mc) (Z':=Z') rfl q0 (b:=c - σ.length+Z.length) (by omega)
      have e2:=Cm (ι:=ι) tA (m:=σ.length) hb (Z':=Z') rfl q0 (b:=c - σ.length+Z.length) (by omega)
      rw [hl] at e1
      rw [e0] at e1 e2
      rw [e1,e2]
     ·rw [bq (by rw [Ed q0,hl];omega),bq (by rw [Ed q0];omega)]
   rw [e];exact q3
end
section
variable {P:Program} {lo:Ctx} {Q:cb→St→Prop} {ops:Array Oper} {fs:List Fp} {n0 N:Nat} {TM:Nat→List ae} {SS:Nat→ai} {X:Nat→Nat→Prop} {base mb:Nat} {D:List Deferred}
def kC (P:Program) (lo:Ctx) (X:Nat→Nat→Prop) (base mb:Nat) (D:List Deferred) (b:Frame) (k:List Item) (cs:List Frame) (R:ai→Env→World→Machine→Prop) (z:Option Nat) (zE:List ae) (xD σ:ai) (β:Env) (w:World) (m:Machine):Prop :=
 (z=none∧∃ β' a' w',Rel X base mb D ⟨zE,xD⟩ β' a' w'∧Ext lo.n σ β w xD β' w'∧Steps P m (lone (b.atR a' k) cs w'))∨z≠none∧R σ β w m
theorem kC.of {R:ai→Env→World→Machine→Prop} (hR:∀ {σ dh:ai} {β eS:Env} {w w1:World} {m m1:Machine},Ext lo.n σ β w dh eS w1→Steps P m m1→R dh eS w1 m1→R σ β w m) {b:Frame} {k:List Item} {cs:List Frame} {z:Option Nat} {zE:List ae} {xD σ σ':ai} {β eS:Env} {w w1:World} {m m1:Machine} (he:Ext lo.n σ β w σ' eS w1) (hs:Steps P m m1) (h:kC P lo X base mb D b k cs R z zE xD σ' eS w1 m1) :
  kC P lo X base mb D b k cs R z zE xD σ β w m:=by
 rcases h with ⟨h0,β',a',w',h1,h2,h3⟩ | ⟨hz,h⟩
 ·exact .inl ⟨h0,β',a',w',h1,he.trans h2,hs.trans h3⟩
 ·exact .inr ⟨hz,hR he hs h⟩
theorem X2 {R:ai→Env→World→Machine→Prop} (hR:∀ {σ dh:ai} {β eS:Env} {w w1:World} {m m1:Machine},Ext lo.n σ β w dh eS w1→Steps P m m1→R dh eS w1 m1→R σ β w m) {z:Option Nat} {dd sk:Nat→Prop} (hz:∀ i0,z=some i0→i0<ops.size∧dd i0) (hdd:∀ j,dd j→∃ i0,z=some i0∧(j=i0∨j6 ops i0 j)) (hk:sC ops fs n0 N) (iL:lo.n≤n0) (hN:n0≤N)
  (hT:∀ i o,ops[i]? = some o→((pV P ops (du fs i) o (TM i) (SS i) (TM (i+1)) (SS (i+1))∨xE P ops.size o (TM i) SS i (TM (i+1))∧(du fs i).wr=[])∨(dd i∨sk i)∧(∃ v,TM (i+1)=put (TM i) o.dst v)∧SS (i+1)=SS i)) (C9:∀ i,i≤ops.size→(TM i).length=(TM 0).length) (Gt:∀ i,i≤ops.size→(SS i).length=N)
  (b:Frame) (k:List Item) (cs:List Frame)
  (hP:∀ i o,z=some i→ops[i]? = some o→∀ (tm:List ae) (σ:ai) (β:Env) (a:Act) (w:World) (rest:List Nat) (listed:Array Bool),listed.size=ops.size →
   fI ops.size (fun i l=>∃ o,ops[i]? = some o∧o.dst=some l) (fun i l=>(TM i).getD l .undef) (fun j=>listed.getD j false=true) (fun l=>tm.getD l .undef) →
   fI ops.size (fun i c=>c∈(du fs i).wr) (fun i c=>(SS i)[c]?) (fun j=>listed.getD j false=true) (fun c=>σ[c]?) →
   (∀ i j,j6 ops i j→listed.getD j false=true→listed.getD i false=true)→listed.getD i false=false→(∀ j,j6 ops j i→listed.getD j false=true)→tm.length=(TM 0).length→σ.length=N→Rel X base mb D ⟨tm,σ⟩ β a w →
   (∃ fuel t,rest=Region.linearise.go .any ops fuel t (listed.setIfInBounds i true) []∧nn (listed.setIfInBounds i true)≤fuel)→R σ β w (lone (b.atR a (.inRegion ops (i :: rest) :: k)) cs w)) :
  ∀ (fuel t:Nat) (listed:Array Bool) (tm:List ae) (σ:ai) (β:Env) (a:Act) (w:World),listed.size=ops.size→nn listed≤fuel →
   (∀ i j,j6 ops i j→listed.getD j false=true→listed.getD i false=true) →
   fI ops.size (fun i l=>∃ o,ops[i]? = some o∧o.dst=some l) (fun i l=>(TM i).getD l .undef) (fun j=>listed.getD j false=true) (fun l=>tm.getD l .undef) →
   fI ops.size (fun i c=>c∈(du fs i).wr) (fun i c=>(SS i)[c]?) (fun j=>listed.getD j false=true) (fun c=>σ[c]?) →
   tm.length=(TM 0).length→σ.length=N→(∀ i c,i<ops.size→listed.getD i false=false→(du fs i).nm=some c→β c=none)→Rel X base mb D ⟨tm,σ⟩ β a w→(∀ j,listed.getD j false=true→¬ dd j)→(∀ j,sk j→j<ops.size→listed.getD j false=true) →
   kC P lo X base mb D b k cs R z (TM ops.size) (SS ops.size) σ β w (lone (b.atR a (.inRegion ops (Region.linearise.go .any ops fuel t listed []) :: k)) cs w):=by
 have CQ:∀ i l,i<ops.size→¬ (∃ o,ops[i]? = some o∧o.dst=some l)→(TM (i+1)).getD l .undef=(TM i).getD l .undef:=by
  intro i l hi hn
  have ho:ops[i]? = some ops[i]:=aB hi
  have lS:∀ v,(put (TM i) ops[i].dst v).getD l .undef=(TM i).getD l .undef:=by
   intro v
   cases hd:ops[i].dst with
   | none=>rfl
   | some d =>
    have dX:d≠l:=fun e=>hn ⟨ops[i],ho,by rw [hd,e]⟩
    simp only [put,List.getD,bK dX]
  rcases hT i _ ho with ((⟨_,h,_⟩ | ⟨_,r,dh,_,_,h,_⟩) | ⟨⟨_,_,_,_,_,_,_,_,h,_⟩,_⟩) | ⟨_,⟨_,h⟩,_⟩<;>rw [h]<;>exact lS _
 have Ao:∀ i c,i<ops.size→¬ c∈(du fs i).wr→(SS (i+1))[c]? = (SS i)[c]?:=by
  intro i c hi hn
  have ho:ops[i]? = some ops[i]:=aB hi
  rcases hT i _ ho with ((⟨_,_,h⟩ | ⟨_,r,dh,_,h2,_,h⟩) | ⟨⟨_,_,_,_,_,_,_,_,_,h⟩,_⟩) | ⟨_,_,h⟩
  rotate_right
  ·rw [h]
  rotate_right
  ·rw [h]
  ·rw [h]
  ·rw [h,wE (by rw [zQ h2,dw,rM]),bm,if_neg hn]
 intro fuel
 have finish:∀ (listed:Array Bool) (tm:List ae) (σ:ai) (β:Env) (a:Act) (w:World),(∀ j,j<ops.size→listed.getD j false=true) →
   fI ops.size (fun i l=>∃ o,ops[i]? = some o∧o.dst=some l) (fun i l=>(TM i).getD l .undef) (fun j=>listed.getD j false=true) (fun l=>tm.getD l .undef) →
   fI ops.size (fun i c=>c∈(du fs i).wr) (fun i c=>(SS i)[c]?) (fun j=>listed.getD j false=true) (fun c=>σ[c]?) →
   tm.length=(TM 0).length→σ.length=N→Rel X base mb D ⟨tm,σ⟩ β a w→(∀ j,listed.getD j false=true→¬ dd j) →
   kC P lo X base mb D b k cs R z (TM ops.size) (SS ops.size) σ β w (lone (b.atR a (.inRegion ops [] :: k)) cs w):=by
  intro listed tm σ β a w eX i1 i2 l1 l2 hrel qR
  have GX:z=none:=by
   cases AL:z with
   | none=>rfl
   | some i0=>obtain ⟨q1,q2⟩:=hz i0 AL;exact absurd q2 (qR i0 (eX i0 q1))
  have e1:tm=TM ops.size:=by
   apply bO
   intro l
   have h1:tm.getD l .undef=(TM ops.size).getD l .undef:=fI.done CQ i1 eX l
   have hl:=C9 ops.size (ah _)
   by_cases bD:l<tm.length
   ·have aZ:l<(TM ops.size).length:=by omega
    rw [aA bD,aA aZ]
    simp only [List.getD,aA bD,aA aZ,br] at h1
    rw [h1]
   ·rw [bq (by omega),bq (by omega)]
  have e2 : σ=SS ops.size:=by
   apply bO
   intro c
   exact fI.done Ao i2 eX c
  subst e1 e2
  exact .inl ⟨GX,β,a,w,hrel,Ext.refl _ _ _ _, .one stepR_region_end⟩
 induction fuel with
 | zero =>
  intro t listed tm σ β a w ft yw ga i1 i2 l1 l2 sO hrel qR _
  simp only [Region.linearise.go,lC]
  exact finish listed tm σ β a w (fun j hj=>J1 (by omega) (by omega)) i1 i2 l1 l2 hrel qR
 | succ fuel ih =>
  intro t listed tm σ β a w ft yw ga i1 i2 l1 l2 sO hrel qR zt
  simp only [Region.linearise.go]
  change kC P lo X base mb D b k cs R z (TM ops.size) (SS ops.size) σ β w (lone (b.atR a (.inRegion ops (match (Region.ready .any ops listed)[t % (Region.ready .any ops listed).length]? with
   | some i=>Region.linearise.go .any ops fuel (t / (Region.ready .any ops listed).length) (listed.setIfInBounds i true) [i]
   | none=>[].reverse) :: k)) cs w)
  cases hi:(Region.ready .any ops listed)[t % (Region.ready .any ops listed).length]? with
  | none =>
   have yn:Region.ready .any ops listed=[]:=by
    cases hr:Region.ready .any ops listed with
    | nil=>rfl
    | cons x xs =>
     rw [hr] at hi
     have bD:t % (x :: xs).length<(x :: xs).length:=Nat.mod_lt _ (by simp)
     simp at hi
     simp at bD
     omega
   refine finish listed tm σ β a w (fun j=>?_) i1 i2 l1 l2 hrel qR
   induction j using Nat.strongRecOn with
   | _ j NT =>
    intro hj
    cases hv:listed.getD j false with
    | true=>rfl
    | false =>
     have jy:j∈Region.ready .any ops listed:=mem_ready.2 ⟨by
      have:j<listed.size:=by omega
      simpa [this] using hv,ops[j],aB hj,fun e he hb=>by
       have bD:e.on<j:=(j6.edge (aB hj) he hb).lt hk.down
       exact NT e.on bD (by omega)⟩
     rw [yn] at jy;cases jy
  | some i =>
   simp only []
   rw [linearise_go_acc,pb,p_]
   obtain ⟨AH,o,ho,eX⟩:=mem_ready.1 (lK hi)
   have fh:i<ops.size:=(aL.1 ho).1
   have w5:listed.getD i false=false:=by
    have:i<listed.size:=by omega
    simpa [this] using AH
   have rQ:¬ (listed.getD i false=true):=by rw [w5];simp
   have aO:∀ j,j6 ops j i→listed.getD j false=true:=by
    intro j hb
    generalize dR:i=i' at hb
    induction hb with
    | @edge j' o' e h1 h2 h3 =>
     subst dR
     rw [ho] at h1;cases h1
     exact eX e h2 h3
    | trans h1 h2 _ oC=>exact ga _ _ h1 (oC dR)
   have um:∀ l,l∈o.looksAt ops∨o.dst=some l→∀ j,j<ops.size→j≠i→(∃ oj,ops[j]? = some oj∧oj.dst=some l)→j6 ops i j∨j6 ops j i:=by
    rintro l hl j hj dX ⟨oj,h1,h2⟩
    exact hk.tmp i o ho l hl j oj h1 dX h2
   have pZ:∀ l,l∈o.looksAt ops→tm.getD l .undef=(TM i).getD l .undef:=fun l hl=>fI.read hk.down CQ ga i1 fh rQ aO (um l (.inl hl))
   have wz:∀ c,c ∉ (du fs i).hd→σ[c]? = (SS i)[c]?:=fun c hc=>fI.read hk.down Ao ga i2 fh rQ aO (hk.see i fh c hc)
   have M5:=C9 i (by omega)
   have C8:=Gt i (by omega)
   have uk:dw (du fs i) σ=dw (du fs i) (SS i):=by
    apply bO
    intro c
    simp only [dw,vV,bm]
    by_cases hc:c∈(du fs i).hd
    ·have e:(!(du fs i).hd.contains c)=false:=by simp [hc]
     rw [e]
     by_cases bD:c<N
     ·rw [aA (l:=σ) (by omega),aA (l:=SS i) (by omega)];rfl
     ·rw [bq (l:=σ) (by omega),bq (l:=SS i) (by omega)]
    ·rw [wz c hc]
   have eE:(du fs i).name σ=(du fs i).name (SS i):=by simp only [Fp.name,l2,C8]
   have vZ:l8 ops tm o=l8 ops (TM i) o:=Te (by omega) pZ
   have lS:∀ (l:Nat) (v:ae),(∃ o',ops[i]? = some o'∧o'.dst=some l)→(put tm o.dst v).getD l .undef=(put (TM i) o.dst v).getD l .undef:=by
    rintro l v ⟨o',h1,h2⟩
    rw [ho] at h1;cases h1
    rw [h2]
    simp only [put,List.getD,oH]
    by_cases bD:l<tm.length
    ·rw [aA bD,aA (show l<(TM i).length by omega)];rfl
    ·rw [bq (dP bD),bq (show (TM i).length≤l by omega)]
   have qX:∀ (l:Nat) (v:ae), ¬ (∃ o',ops[i]? = some o'∧o'.dst=some l)→(put tm o.dst v).getD l .undef=tm.getD l .undef:=by
    intro l v hn
    cases hd:o.dst with
    | none=>rfl
    | some d =>
     have dX:d≠l:=fun e=>hn ⟨o,ho,by rw [hd,e]⟩
     simp only [put,List.getD,bK dX]
   have h_:∀ j,((listed.setIfInBounds i true).getD j false=true)↔(listed.getD j false=true∨j=i):=by
    intro j
    constructor
    ·intro h
     by_cases e:i=j
     ·exact .inr e.symm
     ·rw [qw false e] at h;exact .inl h
    ·rintro (h | rfl)
     ·exact getD_set_true h
     ·have:j<listed.size:=by omega
      simp [this]
   have xT:(fun j=>(listed.setIfInBounds i true).getD j false=true)=fun j=>listed.getD j false=true∨j=i:=funext fun j=>propext (h_ j)
   have vp:∀ i' j,j6 ops i' j→(listed.setIfInBounds i true).getD j false=true→(listed.setIfInBounds i true).getD i' false=true:=by
    intro i' j hb hj
    rw [h_] at hj ⊢
    rcases hj with hj | rfl
    ·exact .inl (ga i' j hb hj)
    ·exact .inl (aO i' hb)
   have CR:=hT i o ho
   by_cases CV:dd i
   ·obtain ⟨i0,Dt,zo⟩:=hdd i CV
    rcases zo with rfl | hb
    ·refine .inr ⟨by rw [Dt];simp,hP i o Dt ho tm σ β a w _ listed ft i1 i2 ga w5 aO l1 l2 hrel ⟨fuel,_,rfl,?_⟩⟩
     have:=HQ (i:=i) AH
     omega
    ·exact absurd (hz i0 Dt).2 (qR i0 (aO i0 hb))
   have CR:=CR.resolve_right fun h=>h.1.elim CV fun hs=>rQ (zt i hs fh)
   generalize uq:Region.linearise.go .any ops fuel (t / (Region.ready .any ops listed).length) (listed.setIfInBounds i true) []=rest
   have step:∃ jE σ' eS a1 w1,Rel X base mb D ⟨jE,σ'⟩ eS a1 w1∧Ext 0 σ β w σ' eS w1∧(∀ c,c≠(du fs i).name σ→c < σ.length→eS c = β c)∧jE.length=tm.length∧σ'.length = σ.length ∧
     (∀ l,(∃ o',ops[i]? = some o'∧o'.dst=some l)→jE.getD l .undef=(TM (i+1)).getD l .undef)∧(∀ l, ¬ (∃ o',ops[i]? = some o'∧o'.dst=some l)→jE.getD l .undef=tm.getD l .undef) ∧
     (∀ c,c∈(du fs i).wr→σ'[c]? = (SS (i+1))[c]?)∧(∀ c,c ∉ (du fs i).wr→σ'[c]? = σ[c]?) ∧
     Steps P (lone (b.atR a (.inRegion ops (i :: rest) :: k)) cs w) (lone (b.atR a1 (.inRegion ops rest :: k)) cs w1):=by
    rcases CR with (⟨g1,g2,g3⟩ | ⟨g1,r,dh,g2,g3,g4,g5⟩) | ⟨⟨g1,t0,x0,l0,r,g2,g3,g4,g5,g6⟩,g7⟩
    rotate_right
    ·have Ar:l8 ops tm o=some true:=by unfold l8;rw [g1]
     have hx:ev tm x0=ev (TM i) x0:=Ik pZ x0 (by rw [g2];simp [Op.operands])
     obtain ⟨b0,xr⟩:=SE l0 (ev (TM i) x0)
     obtain ⟨k0,C3,nI⟩:=i2.some b0
     have qR:iT σ l0 (ev tm x0)=some r:=by rw [hx,xr σ (SS k0) nI];exact g4 k0 C3
     have CW:kB P o.op tm (dw Fp.no σ) (Fp.no.name σ) r σ:=by
      have sc:dw Fp.no σ = σ:=by
       apply bO
       intro c
       simp only [dw,vV,bm,Fp.no]
       cases σ[c]?<;>rfl
      rw [sc,g2]
      simp only [kB,cY,g3,ew,qR,bw]
     have sQ:eW Fp.no.wr 0 σ (dw Fp.no σ):=by
      have sc:dw Fp.no σ = σ:=by
       apply bO
       intro c
       simp only [dw,vV,bm,Fp.no]
       cases σ[c]?<;>rfl
      rw [sc]
      have:∀ (i:Nat) (a:ai),eW Fp.no.wr i a a:=fun i a=>by
       induction a generalizing i with
       | nil=>trivial
       | cons x a ih=>exact ⟨.inr rfl,ih _⟩
      exact this 0 σ
     obtain ⟨eS,a1,w1,q1,q2,q3,q4⟩:=kB.step (rest:=rest) hrel ho Ar CW sQ (fun c hc=>by simp [Fp.no] at hc) (hrel.s.nC _ (ah _)) b k cs
     have Na:dD Fp.no.wr 0 σ σ = σ:=by
      apply bO
      intro c
      rw [wE rfl];split<;>rfl
     rw [Na] at q1 q2
     refine ⟨_,σ,eS,a1,w1,q1,q2,fun c _ hc=>q3 c (by simp only [Fp.name,Fp.no,ez];omega) hc,y4 _ _ _,rfl,fun l hl=>by rw [g5];exact lS l _ hl,fun l hl=>qX l _ hl,fun c hc=>?_,fun _ _=>rfl,q4⟩
     rw [g7] at hc;cases hc
    ·have hw:=zI hrel (vZ.trans g1)
     refine ⟨put tm o.dst gone,σ,β,a.put o.dst undef,w,hrel.next hrel.s (Ext.refl 0 _ _ _) (fun _ _ h=>h) (.nM _) o.dst,Ext.refl _ _ _ _,fun _ _ _=>rfl,y4 _ _ _,rfl,
      fun l hl=>by rw [g2];exact lS l _ hl,fun l hl=>qX l _ hl,fun c hc=>?_,fun _ _=>rfl,?_⟩
     ·rw [g3]
      exact fI.read hk.down Ao ga i2 fh rQ aO (hk.own i fh c hc).2.2
     ·have:=stepR_op_skip (P:=P) (b:=b) (a:=a) (ops:=ops) (i:=i) (rest:=rest) (k:=k) (cs:=cs) (w:=w) (by simp [ho,hw])
      rw [ho] at this
      exact .one this
    ·have CW:kB P o.op tm (dw (du fs i) σ) ((du fs i).name σ) r dh:=by
      rw [uk,eE];exact g2.congr (Ik pZ)
     have sQ:eW (du fs i).wr 0 dh (dw (du fs i) σ):=by rw [uk];exact g3
     have yo : β ((du fs i).name σ)=none:=by
      unfold Fp.name
      cases hn:(du fs i).nm with
      | none=>exact hrel.s.nC _ (ah _)
      | some c=>exact sO i c fh w5 hn
     have tv : dh.length = σ.length:=by rw [zQ sQ,dw,rM]
     have C7 : dh.length=(SS i).length:=by omega
     obtain ⟨eS,a1,w1,q1,q2,q3,q4⟩:=kB.step (rest:=rest) hrel ho (vZ.trans g1) CW sQ (fun c hc=>(hk.own i fh c hc).2.1) yo b k cs
     refine ⟨_,_,eS,a1,w1,q1,q2,q3,y4 _ _ _,Hx tv,fun l hl=>by rw [g4];exact lS l _ hl,fun l hl=>qX l _ hl,fun c hc=>?_,fun c hc=>?_,q4⟩
     ·rw [g5,wE tv,wE C7,bm,if_pos hc,if_pos hc]
     ·rw [wE tv,bm,if_neg hc]
   obtain ⟨jE,σ',eS,a1,w1,s1,s2,s3,s4,s5,s6,s7,s8,s9,N8⟩:=step
   have mH:=ih (t / (Region.ready .any ops listed).length) (listed.setIfInBounds i true) jE σ' eS a1 w1 (by simp [ft]) (by have:=HQ AH;omega) vp
    (by rw [xT];exact fI.step hk.down ga i1 fh rQ (fun l hl=>um l (.inr (by obtain ⟨o',h1,h2⟩:=hl;rw [ho] at h1;cases h1;exact h2))) s6 s7)
    (by rw [xT];exact fI.step hk.down ga i2 fh rQ (fun c hc=>(hk.own i fh c hc).2.2) s8 s9)
    (by omega) (by omega)
    (fun j c hj yk GH=>by
     have Gp:j≠i:=fun e=>by rw [e] at yk;have:=(h_ i).2 (.inr rfl);rw [this] at yk;cases yk
     have C_:listed.getD j false=false:=by rw [qw false (fY Gp)] at yk;exact yk
     obtain ⟨m1,m2,m3⟩:=hk.EN j hj c GH
     rw [s3 c ?_ (by omega)]
     ·exact sO j c hj C_ GH
     ·unfold Fp.name
      cases hn:(du fs i).nm with
      | none=>simp only [ez];omega
      | some c'=>exact fun e=>m3 i fh (fY Gp) (by rw [hn,e];rfl)) s1
    (fun j hj=>by rcases (h_ j).1 hj with h | rfl;exact qR j h;exact CV) (fun j hs hj=>(h_ j).2 (.inl (zt j hs hj)))
   rw [uq] at mH
   have jY:Ext lo.n σ β w σ' eS w1:=⟨s2.os,s2.tape,s2.output,s2.size,s2.cell,s2.block,s2.iC,fun c hc=>s3 c (by
    unfold Fp.name
    cases hn:(du fs i).nm with
    | none=>simp only [ez];omega
    | some c'=>have:=(hk.EN i fh c' hn).1;simp only [br];omega) (by omega)⟩
   exact kC.of hR jY N8 mH
theorem Yka {ops:Array Oper} {i j:Nat} (h:((tQ [] ops.toList).getD j 0).testBit i=true):j6 ops i j:=Ky ops.toList [] (by simp) (fun j i h=>by simp at h) _ _ h
theorem Ylr (hd:jI ops=true):∀ (fuel m d t:Nat) (listed:Array Bool),ops.size=m+d→listed.size=ops.size→(∀ j,j<m→listed.getD j false=true)→(∀ j,m≤j→j<ops.size→listed.getD j false=false) →
  (∀ i j,m≤i→i<j→j<ops.size→j6 ops i j)→nn listed≤fuel→Region.linearise.go .any ops fuel t listed []=List.range' m d:=by
 intro fuel
 induction fuel with
 | zero =>
  intro m d t listed h1 h2 h3 h4 h5 h6
  cases d with
  | zero=>rfl
  | succ d =>
   have:=J1 (listed:=listed) (by omega) (j:=m) (by omega)
   rw [h4 m (ah _) (by omega)] at this;cases this
 | succ fuel ih =>
  intro m d t listed h1 h2 h3 h4 h5 h6
  have Ar:∀ j,j<ops.size→(listed.getD j true=false↔listed.getD j false=false):=fun j hj=>by
   have:j<listed.size:=by omega
   simp [aj,aB this]
  have jy:∀ j,j∈Region.ready .any ops listed→j=m∧j<ops.size:=fun j hj=>by
   obtain ⟨q1,o,q2,q3⟩:=mem_ready.1 hj
   have yh:j<ops.size:=(aL.1 q2).1
   have hjm:m≤j:=by
    rcases jw j m with h | h
    ·have:=h3 j h
     rw [(Ar j yh).1 q1] at this;cases this
    ·exact h
   refine ⟨?_,yh⟩
   rcases jw m j with h | h
   ·exfalso
    have hb:=h5 m j (ah _) h yh
    have key:∀ i j',j6 ops i j'→j'=j→listed.getD i false=true:=by
     intro i j' hb
     induction hb with
     | @edge j1 o1 e g1 g2 g3 =>
      intro e1;subst e1
      rw [q2] at g1;cases g1
      exact q3 e g2 g3
     | @trans a b' c' g1 g2 ky oC =>
      intro e1
      have uT:=oC e1
      have bD:=g1.lt hd
      have zj:=g1.lt_size
      rcases jw b' m with h | h
      ·exact h3 a (by omega)
      ·rw [h4 b' h zj] at uT;cases uT
    have:=key m j hb rfl
    rw [h4 m (ah _) (by omega)] at this;cases this
   ·omega
  simp only [Region.linearise.go]
  change (match (Region.ready .any ops listed)[t % (Region.ready .any ops listed).length]? with
   | some i=>Region.linearise.go .any ops fuel (t / (Region.ready .any ops listed).length) (listed.setIfInBounds i true) [i]
   | none=>[].reverse) = _
  cases d with
  | zero =>
   have hr:Region.ready .any ops listed=[]:=List.eq_nil_iff_forall_not_mem.2 fun j hj=>by have:=jy j hj;omega
   rw [hr];rfl
  | succ d =>
   have hm:m∈Region.ready .any ops listed:=mem_ready.2 ⟨(Ar m (by omega)).2 (h4 m (ah _) (by omega)),ops[m],aB (by omega),fun e he hb=>h3 _ ((j6.edge (aB (by omega)) he hb).lt hd)⟩
   have bD:t % (Region.ready .any ops listed).length<(Region.ready .any ops listed).length:=Nat.mod_lt _ (pa hm)
   rw [aA bD]
   have he:=(jy _ (aF bD)).1
   simp only []
   rw [he,linearise_go_acc,pb,p_,gY]
   congr 1
   have h_:∀ j,(listed.setIfInBounds m true).getD j false=true↔listed.getD j false=true∨j=m:=by
    intro j
    have ym:m<listed.size:=by omega
    simp only [aj,bC]
    by_cases e:m=j
    ·subst e;simp [ym]
    ·simp [e,fY e]
   refine ih (m+1) d _ _ (by omega) (by simpa using h2) (fun j hj=>(h_ j).2 ?_) (fun j hj yh=>?_) (fun i j hi xu yh=>h5 i j (by omega) xu yh) ?_
   ·rcases jw j m with h | h
    ·exact .inl (h3 j h)
    ·exact .inr (by omega)
   ·rw [← dj,h_]
    rintro (h | h)
    ·rw [h4 j (by omega) yh] at h;cases h
    ·omega
   ·have:=HQ (i:=m) ((Ar m (by omega)).2 (h4 m (ah _) (by omega)))
    omega
def ry (ops:Array Oper) (m:Nat) (T:List ae):Nat→List ae
 | 0=>T
 | k+1=>put (ry ops m T k) ((ops[m+k]?).bind Oper.dst) .undef
theorem R8 (m:Nat) (T:List ae):∀ k,(ry ops m T k).length=T.length
 | 0=>rfl
 | k+1=>by rw [ry,y4,R8 m T k]
theorem aK.FV {k:List KI} {id:Nat} {tm:List ae} {σ:ai} (fs:List Fp) (n0 N:Nat) (hm:P.follows .mixedOrders=true) (j8:qG ops fs n0 N=true) (h0 : σ.length=n0) (hN:n0≤N) (m:Nat) (wX:m<ops.size)
  (yi:((List.range ops.size).all fun j=>decide (j<m)||(List.range j).all fun i=>((tQ [] ops.toList).getD j 0).testBit i)=true) (NM:((List.range ops.size).all fun j=>decide (j<m)||(du fs j).wr.isEmpty)=true)
  (h:iq P lo (fun _ st=>aK P lo Q (.ops ops (ops.toList.drop m) :: k) .normal st) [] ops (ops.toList.take m) fs tm (dA N σ)) :
  aK P lo Q (.code (.region id ops true) :: k) .normal ⟨tm,σ⟩:=by
 have hk:=Qr j8
 obtain ⟨TM,SS,e1,e2,e3,e4⟩:=Hy _ _ _ _ h
 have hlen:(ops.toList.take m).length=m:=by simp;omega
 rw [hlen] at e4
 have e4:aK P lo Q (.ops ops (ops.toList.drop m) :: k) .normal ⟨TM m,SS m⟩:=e4
 have qU:∀ i j,m≤j→i<j→j<ops.size→j6 ops i j:=fun i j hmj xu hj=>by
  have:=bp.1 yi j (cw.2 hj)
  rw [decide_eq_false (by omega:¬ j<m),dq] at this
  exact Yka (bp.1 this i (cw.2 xu))
 have VP:∀ j,m≤j→j<ops.size→(du fs j).wr=[]:=fun j hmj hj=>by
  have:=bp.1 NM j (cw.2 hj)
  rw [decide_eq_false (by omega:¬ j<m),dq] at this
  exact List.isEmpty_iff.1 this
 have Gy:∀ j,j<ops.size→j≠m→j6 ops m j∨j6 ops j m:=fun j hj dX=>by
  rcases jw j m with h | h
  ·exact .inr (qU j m (ah _) h wX)
  ·exact .inl (qU m j h (by omega) hj)
 have I5:∀ i o,i<m→ops[i]? = some o→pV P ops (du fs i) o (TM i) (SS i) (TM (i+1)) (SS (i+1)):=fun i o sL hi=>e3 i o (by rw [e9,if_pos sL];simpa using hi)
 have hl:∀ i,i≤m→(TM i).length=(TM 0).length∧(SS i).length=N:=by
  intro i
  induction i with
  | zero=>intro _;exact ⟨rfl,by rw [e2,La (by omega)]⟩
  | succ i ih =>
   intro hi
   have:=(I5 i ops[i] (by omega) (aB (by omega))).len
   have:=ih (by omega)
   omega
 let uK:Nat→List ae:=fun i=>if i≤m then TM i else ry ops m (TM m) (i - m)
 let zD:Nat→ai:=fun i=>if i≤m then SS i else SS m
 have tT:∀ i,i≤m→uK i=TM i:=fun i hi=>if_pos hi
 have tS:∀ i,i≤m→zD i=SS i:=fun i hi=>if_pos hi
 have tN:∀ i,m≤i→(hi:i<ops.size)→uK (i+1)=put (uK i) ops[i].dst .undef:=fun i sL hi=>by
  have e1:uK (i+1)=ry ops m (TM m) (i - m+1):=by simp only [uK];rw [if_neg (by omega),show i+1 - m=i - m+1 by omega]
  have e2:uK i=ry ops m (TM m) (i - m):=by
   by_cases h:i=m
   ·subst h;rw [tT i (ah _),ei];rfl
   ·simp only [uK];rw [if_neg (by omega)]
  rw [e1,e2,ry,show m+(i - m)=i by omega,aB hi];rfl
 have Jo:∀ i,m≤i→zD i=SS m:=fun i sL=>by
  by_cases h:i=m
  ·subst h;exact tS i (ah _)
  ·exact if_neg (by omega)
 have CQ:∀ i l,i<ops.size→¬ (∃ o,ops[i]? = some o∧o.dst=some l)→(uK (i+1)).getD l .undef=(uK i).getD l .undef:=by
  intro i l hi hn
  have ho:ops[i]? = some ops[i]:=aB hi
  have lS:∀ v,(put (uK i) ops[i].dst v).getD l .undef=(uK i).getD l .undef:=by
   intro v
   cases hd:ops[i].dst with
   | none=>rfl
   | some d =>
    have dX:d≠l:=fun e=>hn ⟨ops[i],ho,by rw [hd,e]⟩
    simp only [put,List.getD,bK dX]
  by_cases sL:i<m
  ·have h1:=I5 i ops[i] sL ho
   rw [tT (i+1) (by omega)]
   rw [tT i (by omega)] at lS ⊢
   rcases h1 with ⟨_,g,_⟩ | ⟨_,r,dh,_,_,g,_⟩<;>rw [g]<;>exact lS _
  ·rw [tN i (by omega) hi];exact lS _
 have Ao:∀ i c,i<ops.size→¬ c∈(du fs i).wr→(zD (i+1))[c]? = (zD i)[c]?:=by
  intro i c hi hn
  have ho:ops[i]? = some ops[i]:=aB hi
  by_cases sL:i<m
  ·have h1:=I5 i ops[i] sL ho
   rw [tS (i+1) (by omega),tS i (by omega)]
   rcases h1 with ⟨_,_,g⟩ | ⟨_,r,dh,_,g2,_,g⟩
   ·rw [g]
   ·rw [g,wE (by rw [zQ g2,dw,rM]),bm,if_neg hn]
  ·rw [Jo (i+1) (by omega),Jo i (by omega)]
 intro X base mb D β a w b kk cs h1 h2 h3 _
 simp only at h1
 have hrel:Rel X base mb D ⟨uK 0,zD 0⟩ β a { w with drawn:=w.drawn+1 }:=by
  have:=SF (n:=w.drawn+1) h3
  rw [tT 0 (av _),tS 0 (av _),e1,e2]
  exact ⟨this.s.pad (by simp only;omega),this.n,fun j hj=>by rw [Jy];exact this.t j hj,this.d⟩
 have vo:=X2 (P:=P) (lo:=lo) (ops:=ops) (fs:=fs) (n0:=n0) (N:=N) (TM:=uK) (SS:=zD) (X:=X) (base:=base) (mb:=mb) (D:=D)
  (R:=fun σ β w N2=>mb≤w.heap.size→∃ e dZ β' a' w',aK P lo Q k e dZ∧lo.n≤dZ.σ.length∧Rel X base mb D dZ β' a' w'∧Ext lo.n σ β w dZ.σ β' w'∧zC P N2 b kk cs e a' w')
  (fun he hs f EA=>let ⟨e,dZ,β',a',w',g1,g2,g3,g4,g5⟩:=f (cR EA he.size);⟨e,dZ,β',a',w',g1,g2,g3,he.trans g4, .of_steps hs g5⟩) (z:=some m) (dd:=fun j=>m≤j∧j<ops.size) (sk:=fun _=>False)
  (fun i0 zo=>by cases zo;exact ⟨wX,ah _,wX⟩) (fun j hj=>⟨m,rfl,(Nat.eq_or_lt_of_le hj.1).imp Eq.symm fun h=>qU m j hj.1 h hj.2⟩) hk (by omega) hN
  (fun i o ho=>by
   by_cases sL:i<m
   ·rw [tT i (by omega),tT (i+1) (by omega),tS i (by omega),tS (i+1) (by omega)]
    exact .inl (.inl (I5 i o sL ho))
   ·have MY:i<ops.size:=(aL.1 ho).1
    have Jc:ops[i]=o:=by rw [aB MY] at ho;exact aM ho
    refine .inr ⟨.inl ⟨by omega,MY⟩,⟨.undef,?_⟩,?_⟩
    ·rw [tN i (by omega) MY,Jc]
    ·rw [Jo (i+1) (by omega),Jo i (by omega)])
  (fun i hi=>by
   by_cases sL:i≤m
   ·rw [tT i sL,tT 0 (av _)];exact (hl i sL).1
   ·simp only [uK];rw [if_neg sL,if_pos (av _),R8];exact (hl m (ah _)).1)
  (fun i hi=>by
   by_cases sL:i≤m
   ·rw [tS i sL];exact (hl i sL).2
   ·simp only [zD];rw [if_neg sL];exact (hl m (ah _)).2)
  b kk cs
  (fun i o hz ho tm σ β a w rest listed yv i1 i2 ga AH aO l1 l2 hrel uq EA=>by
   cases hz
   have eX:∀ j,j<m→listed.getD j false=true:=fun j hj=>aO j (qU j m (ah _) hj wX)
   obtain ⟨fuel,t,hr,Ev⟩:=uq
   have h_:∀ j,(listed.setIfInBounds m true).getD j false=true↔listed.getD j false=true∨j=m:=by
    intro j
    have ym:m<listed.size:=by omega
    simp only [aj,bC]
    by_cases e:m=j
    ·subst e;simp [ym]
    ·simp [e,fY e]
   rw [Ylr hk.down fuel (m+1) (ops.size - (m+1)) t _ (by omega) (by simpa using yv) (fun j hj=>(h_ j).2 ((jw j m).imp (eX j) fun h=>by omega)) (fun j hj yh=>by
    rw [← dj,h_]
    rintro (h | h)
    ·have:=ga _ _ (qU m j (by omega) (by omega) yh) h
     rw [AH] at this;cases this
    ·omega) (fun i j hi xu yh=>qU i j (by omega) xu yh) Ev] at hr
   subst hr
   have rQ:¬ (listed.getD m false=true):=by rw [AH];simp
   have et:tm=TM m:=by
    apply bO
    intro l
    have h1:tm.getD l .undef=(uK m).getD l .undef:=fI.read hk.down CQ ga i1 wX rQ aO (fun j hj dX _=>Gy j hj dX)
    rw [tT m (ah _)] at h1
    have hlm:=(hl m (ah _)).1
    rw [tT 0 (av _)] at l1
    by_cases bD:l<tm.length
    ·have aZ:l<(TM m).length:=by omega
     rw [aA bD,aA aZ]
     simp only [List.getD,aA bD,aA aZ,br] at h1
     rw [h1]
    ·rw [bq (by omega),bq (by omega)]
   have es : σ=SS m:=by
    apply bO
    intro c
    have : σ[c]? = (zD m)[c]?:=fI.read hk.down Ao ga i2 wX rQ aO (fun j hj dX _=>Gy j hj dX)
    rw [this,tS m (ah _)]
   subst et es
   have Nz:A4 ops (ops.toList.drop m):=⟨by simp,fun j=>by simp;try (congr 1;omega)⟩
   have hR:=e4 Nz
   have yb:(ops.toList.drop m).length=ops.size - m:=by simp
   rw [yb,show ops.size - (ops.size - m)=m by omega,show ops.size - m=(ops.size - (m+1))+1 by omega,gY] at hR
   obtain ⟨e,dZ,β',a',w',q,r1,r2,r3,rd,r4⟩:=hR X base mb D β a w b kk cs (by have:=(hl m (ah _)).2;simp only;omega) EA hrel
   refine ⟨e,dZ,β',a',w',q,r1,r2,r3,?_⟩
   rw [bn] at r4
   have r4:zC P (lone (b.atR a (.inRegion ops (m :: List.range' (m+1) (ops.size - (m+1))) :: kk)) cs w) b (.inRegion ops [] :: kk) cs e a' w':=r4
   cases e with
   | normal=>exact Steps.trans r4 (.one stepR_region_end)
   | exit id=>obtain ⟨k',e1,e2⟩:=r4;exact ⟨k',by rw [e1];rfl,e2⟩
   | goto l=>obtain ⟨k',e1,e2⟩:=r4;exact ⟨k',by rw [e1];rfl,e2⟩
   | ret=>exact r4
   | panic u=>exact r4)
  ops.size (w.tape w.drawn (.order b.fn id)) (Array.replicate ops.size false) (uK 0) (zD 0) β a { w with drawn:=w.drawn+1 } (by simp) (by simp [nn])
  (fun i j _ hj=>by simp [aj,d_] at hj;split at hj<;>simp at hj)
  (by
   have:(fun j=>(Array.replicate ops.size false).getD j false=true)=fun _=>False:=funext fun j=>by simp [aj,d_];split<;>simp
   rw [this];exact fI.init)
  (by
   have:(fun j=>(Array.replicate ops.size false).getD j false=true)=fun _=>False:=funext fun j=>by simp [aj,d_];split<;>simp
   rw [this];exact fI.init)
  rfl (by rw [tS 0 (av _)];exact (hl 0 (av _)).2) (fun i c hi _ hc=>h3.s.nC c (by simp only;have:=(hk.EN i hi c hc).1;omega)) hrel
  (fun j hj=>by simp [aj,d_] at hj;split at hj<;>simp at hj) (fun j h=>h.elim)
 rcases vo with ⟨hz,_⟩ | ⟨_,vo⟩
 ·cases hz
 ·obtain ⟨e,dZ,β',a',w',g1,g2,g3,g4,g5⟩:=vo h2
  rw [tS 0 (av _),e2] at g4
  refine ⟨e,dZ,β',a',w',g1,g2,g3,?_, .of_steps (.one stepR_region_draw) ?_⟩
  ·exact ⟨g4.os,g4.tape,g4.output,g4.size,fun g o v hc hn=>g4.cell g o v hc fun hm=>hn (Cq.1 hm),fun g hg hn=>g4.block g hg fun o hm=>hn o (Cq.1 hm),fun g o hm=>(g4.iC g o hm).imp Cq.1 (fun h=>h),g4.env⟩
  ·have hs:Region.schedule (P.follows .mixedOrders) ops (w.tape w.drawn (.order b.fn id))=Region.linearise.go .any ops ops.size (w.tape w.drawn (.order b.fn id)) (Array.replicate ops.size false) []:=by
    simp only [Region.schedule,hm,fH,if_true];rfl
   rw [hs];exact g5
theorem aK.FU {k:List KI} {id:Nat} {tm:List ae} {σ:ai} (fs:List Fp) (n0 N:Nat) (hm:P.follows .mixedOrders=true) (j8:qG ops fs n0 N=true) (h0 : σ.length=n0) (hN:n0≤N) (m:Nat) (ft:ops.size=m+1)
  (yi:((List.range m).all fun j=>((tQ [] ops.toList).getD m 0).testBit j)=true) (VP:(du fs m).wr=[])
  (h:iq P lo (fun _ st=>aK P lo Q (.ops ops (ops.toList.drop m) :: k) .normal st) [] ops (ops.toList.take m) fs tm (dA N σ)) :
  aK P lo Q (.code (.region id ops true) :: k) .normal ⟨tm,σ⟩:=by
 refine aK.FV fs n0 N hm j8 h0 hN m (by omega) (bp.2 fun j hj=>?_) (bp.2 fun j hj=>?_) h
 ·have:=cw.1 hj
  rw [b9,decide_eq_true_eq]
  rcases jw j m with h | h
  ·exact .inl h
  ·obtain rfl:j=m:=by omega
   exact .inr yi
 ·have:=cw.1 hj
  rw [b9,decide_eq_true_eq]
  rcases jw j m with h | h
  ·exact .inl h
  ·obtain rfl:j=m:=by omega
   exact .inr (by rw [VP];rfl)
end
section
variable {P:Program} {lo:Ctx} {Q:cb→St→Prop} {k:List KI} {ops:Array Oper} {l:List Oper} {fs:List Fp} {tm:List ae} {σ m:ai}
theorem y7 {d:Option Tmp} {g:FuncId} {first captured args args':List ae} {r:ae} {wr:List Nat} (bs:List Nat) (hc:aJ P g args' r) (hp:kz (among bs) m args' (first++args++captured)) (hl:bx 0 args')
  (hs:eW wr 0 (if bL r then m else fA (among bs) 0 m) m)
  (h:iq P lo Q k ops l fs (put tm d r) (dD wr 0 (if bL r then m else fA (among bs) 0 m) σ)):r8 P lo Q k ops wr d l fs tm σ m (.fn g first captured) args :=
 ⟨r,_,aq.bU bs hc hp hl ⟨rfl,rfl⟩,hs,h⟩
end
theorem aq.xP {P:Program} {F:Frame→List Frame→Sem Next→World→Value→World→Prop} {f f':ae} {args:List ae} {K K':ae→ai→Prop} {Z σ:ai} (ι:Nat→Nat) (tA:∀ b b',b<Z.length→b'<Z.length→ι b = ι b'→b=b') (hb:∀ b,b<Z.length→ι b < σ.length)
  (vI:∀ b,b<Z.length→∃ o,Z[b]? = some o∧σ[ι b]? = some (o.map (dG ι))) (hf:f.low Z.length) (nU:dI ι f=f') (ha:bx 0 args) (hs:bt Z.length Z)
  (h:dt P F f args Z K') (hk:∀ r Z',K' r Z'→Z.length≤Z'.length∧bt Z'.length Z'∧r.low Z'.length∧K (dI (mX ι Z.length σ.length) r) (jJ ι Z.length Z' σ)):dt P F f' args σ K:=by
 have:=aq.xO (K:=K) ι tA hb vI hf (ie (av _) ha) hs (h.mono hk)
 rwa [nU,cz ha] at this
theorem aq.LW {P:Program} {F:Frame→List Frame→Sem Next→World→Value→World→Prop} {f:ae} {args args':List ae} {K:ae→ai→Prop} {σ:ai} (hp:kz (among []) σ args' args) (h:dt P F f args' σ K):dt P F f args σ K:=by
 intro X base β w vf vs h1 nD h2 h3 fr cs h4
 have nU:=zL (among []) σ
 rw [jd] at nU
 obtain ⟨e1,e2⟩:=tJ h1 nU args' hp
 exact h X base β w vf vs h1 nD (by omega) (fun k hk=>(e2 k hk).1 _ (h3 k (by omega))) fr cs h4
theorem aq.AU {P : Program} {g : FuncId} {fn : Func} {c : Code} {σ : ai} (hf : P.funcs[g]? = some fn) (hb : fn.body = some c) (eE : (fn.name == "runtime.NumGoroutine") = false)
  (h0:∀ (a:Option Addr) (cap:Nat) (w:World),Calls P g #[.slice a 0 cap] w fun e w'=>e = .returned (.tuple #[])∧w'=w)
  {K:ae→ai→Prop} (hK:K (.dy []) σ):aq P (.fn g [] []) [.aU] σ K:=by
 refine aq.sh ?_
 intro X base β w vs h1 h2 h3 fr cs zl
 have qS : ¬ fn.name = "runtime.NumGoroutine" := by simpa using eE
 obtain ⟨x,rfl⟩:∃ x,vs = #[x]:=by
  simp at h2
  exact p7.1 h2
 have wR:=h3 0 (by simp)
 simp only [bf,bn,bg] at wR
 have hx:(#[x]:Array Value).getD 0 undef=x:=rfl
 rw [hx] at wR
 have vE:∀ (w':World) (M':Nat→Nat→Prop),bR w' M' β (.tuple #[]) (.dy []):=fun w' M'=>.dy rfl fun k hk=>by simp at hk
 have kg:∀ us,(callFunc g us).run P w = .ok (.enter g us) w:=fun us=>by simp [callFunc,hf,qS,hb]
 obtain ⟨a0,rfl⟩:∃ a0,x = .slice a0 0 0:=by
  cases wR with
  | aU a=>exact ⟨a,rfl⟩
 obtain ⟨e,w',Bq,⟨rfl,rfl⟩,hc,Bz,hl⟩:=h0 a0 0 w (fr :: cs)
 refine ⟨_,σ,β, .tuple #[],w',hK,h1,vE _ _,Ext.refl _ _ _ _,ah _,Frame.enter P g _ .normal,fr :: cs,w',?_,Steps.trans hc (.one (step_leave_returned hl))⟩
 simp only [stepG.apply,if_true,Sem.runT_eq,kg,GStep.bare_after,GStep.bare_go]
 split
 ·rename_i d s a k e;exact absurd e (zl _ _ _ _ _)
 ·rfl
end Go.cV
namespace Go.Proofs
open Go Go.cV
attribute [local go_sem] Nat.reduceAdd Nat.reduceSub Nat.reduceMul Nat.reduceLeDiff Nat.reduceEqDiff Nat.reduceBEq Nat.reduceLT Nat.le_refl Int.natCast_zero Nat.sub_zero List.length_map Int.toNat_natCast Int.natCast_one Int.reduceEq Int.reduceLT Int.reduceLE Int.reduceNe Int.sub_zero Int.zero_add Int.toNat_one
theorem Oy (p more:List Int) (hp:p.length≤1000000) (hm:more.length≤1000000):aJ Tryz.prog 187 [.ps 1 (ints p), .ps 1 (ints more)] (.ps 1 (ints (p++more))):=by
 refine aJ.begin (rs:=[.tmp 4]) (m:=7) 1000 Tryz.func187 rfl rfl rfl (by decide) (by simp [go_sem,dp]) ?_
 have sc:(ints more).length=more.length:=kV more
 have Nn:(ints p).length=p.length:=kV p
 have v8:List.take more.length (ints more)=ints more:=bd (by omega)
 have yr:List.take p.length (ints p)=ints p:=bd (by omega)
 have xY:ints (p++more)=ints p++ints more:=by simp [ints]
 have hw:∀ σ:ai,kz (fun _=>true) σ (ints p++ints more) (ints p++ints more):=fun σ=>cH _ _ _
 by_cases h:p=[]
 ·subst h
  simp only [go_sem]
  refine (bS.v Zqz).mono ?_
  rintro r σ' (⟨rfl,rfl⟩ | ⟨rfl,rfl⟩)
  ·refine aK.go 1000 ?_
   by_cases h2:more.length=0
   ·obtain rfl:=gX.1 h2
    simp only [go_sem,Fq,aR]
    exact Fq ▸ of_eq_true (Yov [])
   ·simp only [go_sem,sc,h2,(by omega:more.length≤6000000000000),v8]
  ·refine aK.go 1000 ?_
   simp only [go_sem,sc,v8]
   omega
 ·simp only [go_sem]
  refine (bS.v (Zuc p h (by omega)).1).mono ?_
  rintro r σ' ⟨rfl,rfl⟩
  refine aK.go 1000 ?_
  simp only [go_sem,sc,Nn,yr]
  refine ⟨by omega,by rw [ay];omega,?_⟩
  rw [bd (by rw [ay];omega),xY]
  exact cH _ _ _
def oD (L:List (List Int)):List ae:=L.map fun p=>.ps 1 (ints p)
theorem Ef (L:List (List Int)):(oD L).length=L.length:=by simp [oD]
@[go_sem] theorem wK {n:Nat} (L:List (List Int)):bx n (oD L)=True:=eq_true (uN fun p _=>dp p)
theorem Pg (L M:List (List Int)):oD (L++M)=oD L++oD M:=by simp [oD]
@[go_sem] theorem Yvl (L:List (List Int)):eL ⟨1,false,24,[.aU], .slice⟩ (oD L)=True:=eq_true (by
 refine ⟨fun x hx=>?_,by decide,by decide,rfl⟩
 obtain ⟨t,_,rfl⟩:=bW.1 hx
 exact ⟨rfl,rfl⟩)
mutual
def Tm.gJ:Tm→List Int→List (List Int)
 | .mk _ ts,p=>p :: Tm.kO ts p 0
def Tm.kO:List Tm→List Int→Nat→List (List Int)
 | [],_,_=>[]
 | t :: ts,p,i=>t.gJ (p++[(i:Int)])++Tm.kO ts p (i+1)
end
mutual
theorem y8:∀ (t:Tm) (p:List Int),(t.gJ p).length=t.size
 | .mk _ ts,p=>by simp only [Tm.gJ,Tm.size,au,QY ts p 0];omega
theorem QY:∀ (ts:List Tm) (p:List Int) (i:Nat),(Tm.kO ts p i).length=Tm.bG ts
 | [],_,_=>rfl
 | t :: ts,p,i=>by simp only [Tm.kO,Tm.bG,ay,y8 t,QY ts]
end
@[go_sem] theorem Yyt {π:Nat→Nat} {L:List (List Int)}:Option.map (dG π) (eJ (oD L))=eJ (oD L):=by
 cases h:oD L with
 | nil=>rfl
 | cons x l =>
  have hl:bx 0 (oD L):=of_eq_true (wK L)
  rw [UN,bw,xk,← h,cz hl]
def od (L:List (List Int)):ai:=[some (.var [ja 2 1 (oD L)]),some (.var [.fn 186 [] [.ptr 0 0, .ptr 1 0]]),eJ (oD L)]
def qd (L:List (List Int)):ai:=[some (.var [ja 3 1 (oD L)]),some (.var [.fn 186 [] [.ptr 0 0, .ptr 1 0]]),none,eJ (oD L)]
theorem O5:∀ (n:Nat) (t:Tm) (p:List Int) (L:List (List Int)),t.size≤n→p.length+t.size≤1000000→L.length+t.size≤1000000 →
  aq Tryz.prog (.fn 186 [] [.ptr 0 0, .ptr 1 0]) [t.aN, .ps 1 (ints p)] (od L) (fun r σ'=>r = .dy []∧σ'=qd (L++t.gJ p))
 | 0,t,p,L,h,_,_=>by have:=oA t;omega
 | n+1,t,p,L,hn,hp,hL=>by
  unfold od
  refine aq.begin (rs:=[]) (m:=25) 1000 Tryz.func186 rfl rfl rfl rfl rfl ?_
  simp only [go_sem,dc]
  refine aK.draw [⟨none,[],[4]⟩, .no, .no,⟨some 4,[4],[]⟩,⟨some 5,[2,5],[]⟩,⟨none,[0],[]⟩] 4 6 mixed rfl rfl (by decide) ?_
  simp only [go_sem,dA]
  refine nQ (Oy p [] (by omega) (by simp)) ?_ (by simp [go_sem,dp]) ?_
  ·simp only [go_sem,Fq]
  have h2:bF (od L++[some (.var [.int .i64 t.head, .ps 2 (List.map Tm.aN t.args)]),some (.row [.ps 1 (ints (p++[]))] 0),none]) 2=eJ (oD L):=by simp [od,bF]
  have m8:=of_eq_true (Yvl [p++[]])
  rw [show oD [p++[]]=[.ps 1 (ints (p++[]))] from rfl] at m8
  have sR:List.take 1 [ae.ps 1 (ints (p++[]))]=[.ps 1 (ints (p++[]))]:=rfl
  simp only [od,bj,bf] at h2
  simp only [go_sem,uQ h2,m8,Ef,sR]
  refine ⟨by omega,?_⟩
  refine aK.go 1000 ?_
  simp only [go_sem,bn]
  have ft:=oA t
  have fP:t.gJ p=p :: Tm.kO t.args p 0:=by cases t;rfl
  have l9:=qb t.args
  refine aK.gS (ι:={q:Nat×List (List Int) // q.1≤t.args.length∧q.2≠[]∧q.2++Tm.kO (t.args.drop q.1) p q.1=L++t.gJ p∧q.2.length+Tm.bG (t.args.drop q.1)≤1000000}) 1000
   (fun q=>fD 29 [(1, .ps 1 (ints p)),(3, .ptr 1 0),(14, .ps 2 (t.args.map Tm.aN)),(15, .int .i64 t.args.length),(16, .int .i64 q.1.1)]) (fun q=>qd q.1.2) (fun q=>t.args.length - q.1.1)
   ⟨(0,L++[p]),by simp only [dk,fP];refine ⟨by omega,by simp,by simp,by simp;omega⟩⟩ [(3,5),(5,3)] ?_ (fun _=>by simp [qd]) ?_
  ·refine iF rfl ?_
   unfold qd
   rw [Pg,u_ (by simp [oD]),u9 (by simp [oD])]
   simp only [go_sem,bP,cz (bP _),Ef,dp,cz (dp _)]
   have lw:bx 0 (oD (L++[p])):=of_eq_true (wK _)
   rw [Pg] at lw
   rw [cz lw]
   exact ⟨rfl,ie (by omega) lw⟩
  ·rintro ⟨⟨i,M⟩,hi,hM,aO,hlen⟩
   simp only at hi hM aO hlen
   have hMn:oD M≠[]:=by simp [oD,hM]
   by_cases bD:(i:Int)<t.args.length
   ·have aZ:i<t.args.length:=by omega
    have hw:IntKind.i64.wrap ((i:Int)+1)=((i+1:Nat):Int):=by rw [ep (by omega)];omega
    have hg:(t.args.map Tm.aN).getD i .undef=t.args[i].aN:=by simp [List.getD,aZ]
    obtain ⟨x,hx⟩:∃ x,t.args[i]=x:=⟨_,rfl⟩
    have hdr:t.args.drop i=x :: t.args.drop (i+1):=by rw [ak aZ,hx]
    rw [hdr,Tm.kO] at aO
    rw [hdr,Tm.bG] at hlen
    rw [hx] at hg
    unfold qd
    simp only [go_sem,bD,hg,ao,fq]
    refine ⟨by omega,?_⟩
    refine aK.FU [⟨none,[],[5]⟩,⟨none,[],[5]⟩,⟨none,[],[5]⟩, .no,⟨some 5,[5],[]⟩,⟨none,[5],[]⟩] 5 6 mixed (by decide) rfl (by decide) 6 rfl (by decide) rfl ?_
    simp only [go_sem,dA]
    have Bx:bL (.ps 1 (ints (p++[(i:Int)])))=false:=by
     cases h:ints (p++[(i:Int)]) with
     | nil=>simp [ints] at h
     | cons a l=>rfl
    refine y7 [5] (Oy p [(i:Int)] (by omega) (by simp)) ?_ (by simp [go_sem,dp]) (by simp [Bx,fA,jM,among,eW]) ?_
    ·simp only [go_sem,ints,aI,aS]
    simp only [Bx,a8,if_false,fA,jM,among,fe,mF,Bool.or_false,Nat.reduceAdd,Nat.reduceBEq,if_true,au,aR,Nat.zero_max]
    simp only [go_sem]
    refine aK.go 1000 ?_
    simp only [go_sem]
    refine aK.go 1000 ?_
    simp only [go_sem]
    rw [← dc x]
    have am_:x.size+Tm.bG (t.args.drop (i+1))≤Tm.bG t.args:=by
     have:=DQ (t.args.take i) (t.args.drop i)
     rw [List.take_append_drop,hdr,Tm.bG] at this;omega
    have wj:x.size≤n:=by omega
    have hI:∀ b,b<3→b=0∨b=1∨b=2:=fun b hb=>by omega
    refine aq.xP (Z:=od M) (f:=.fn 186 [] [.ptr 0 0, .ptr 1 0]) (fun b=>if b=2 then 3 else b) (fun b b' h1 h2 e=>?_) (fun b hb=>?_) (fun b hb=>?_) (by simp [od,go_sem]) rfl (by simp [go_sem,dE,dp]) (by simp [od,go_sem])
     (O5 n x (p++[(i:Int)]) M wj (by simp only [ay,au,aR];omega) (by omega)) ?_
    ·rcases hI b h1 with rfl | rfl | rfl<;>rcases hI b' h2 with rfl | rfl | rfl<;>first | rfl | exact absurd e (by decide)
    ·rcases hI b hb with rfl | rfl | rfl<;>simp
    ·rcases hI b hb with rfl | rfl | rfl
     ·exact ⟨_,rfl,by simp [go_sem]⟩
     ·exact ⟨_,rfl,rfl⟩
     ·exact ⟨_,rfl,by simp [go_sem]⟩
    ·rintro r Z' ⟨rfl,rfl⟩
     refine ⟨by simp [od,qd],by simp [qd,go_sem],by simp [go_sem],?_⟩
     simp only [go_sem,od,qd,jJ,fc,mX,aI,aS]
     refine aK.go 1000 ?_
     simp only [go_sem]
     refine ⟨⟨(i+1,M++x.gJ (p++[(i:Int)])),by simp only;omega,by simp [hM],by rw [← aO,cJ],by simp only [ay,y8];omega⟩,[(3,6),(6,3)],iF rfl ?_,by simp only;omega⟩
     simp only [go_sem,hw,bP,cz (bP _),dp,cz (dp _)]
     trace_state
   ·have dR:i=t.args.length:=by omega
    subst dR
    rw [aV,Tm.kO,bn] at aO
    unfold qd
    simp only [go_sem,bD]
    refine aK.go 1000 ?_
    simp only [go_sem]
    rw [fL,← aO]
    exact ⟨_,fx _,by simp,by simp [go_sem],by simp [go_sem],rfl,rfl⟩
theorem Px (t:Tm) (h:t.size≤1000000):aJ Tryz.prog 166 [t.aN] (.ps 1 (oD (t.gJ []))):=by
 refine aJ.l6 (rs:=[.tmp 2]) (m:=9) Tryz.func166 rfl rfl rfl (by decide) (of_eq_true (wK _)) ?_
 refine aK.pad 1 (ah _) (by simp [go_sem,dE]) trivial ?_
 refine aK.go 1000 ?_
 simp only [go_sem,dc,bf,List.replicate_one]
 refine aq.LW (args':=[t.aN, .ps 1 (ints [])]) ?_ ?_
 ·rw [dc]
  simp only [go_sem,Fq]
 have hI:∀ b,b<3→b=0∨b=1∨b=2:=fun b hb=>by omega
 refine aq.xP (Z:=od []) (f:=.fn 186 [] [.ptr 0 0, .ptr 1 0]) (fun b=>if b=2 then 0 else b+2) (fun b b' h1 h2 e=>?_) (fun b hb=>?_) (fun b hb=>?_) (by simp [od,go_sem]) rfl (by simp [go_sem,dE,dp]) (by simp [od,go_sem])
  (O5 _ t [] [] (ah _) (by simpa using h) (by simpa using h)) ?_
 ·rcases hI b h1 with rfl | rfl | rfl<;>rcases hI b' h2 with rfl | rfl | rfl<;>first | rfl | exact absurd e (by decide)
 ·rcases hI b hb with rfl | rfl | rfl<;>simp
 ·rcases hI b hb with rfl | rfl | rfl<;>exact ⟨_,rfl,rfl⟩
 rintro r Z' ⟨rfl,rfl⟩
 refine ⟨by simp [od,qd],by simp [qd,go_sem],by simp [go_sem],?_⟩
 simp only [go_sem,od,qd,jJ,fc,mX,aI,aS]
 refine aK.go 1000 ?_
 simp only [go_sem]
 have dX:oD (t.gJ [])≠[]:=by cases t;simp [oD,Tm.gJ]
 rw [Cs dX,Bm dX]
 simp only [go_sem]
 rw [bd (ah _)]
 exact cH _ _ _
def Tm.po:Tm→List Int→Option Tm
 | t,[]=>some t
 | t,n :: p=>if n<0 then none else if h:n.toNat<t.args.length then (t.args[n.toNat]).po p else none
def gT:Tm:=.mk 0 []
theorem Jw (t:Tm) (p:List Int) (hp:p.length≤1000000) (ht:t.size≤1000000000):aJ Tryz.prog 167 [t.aN, .ps 1 (ints p)] (.dy [((t.po p).getD gT).aN, .bool (t.po p).isSome]):=by
 refine aJ.begin (rs:=[.cell 4 70, .tmp 5]) (m:=29) 1000 Tryz.func167 rfl rfl rfl (by decide) (by simp [go_sem,dE]) ?_
 simp only [go_sem,fq,kV]
 refine aK.c9 (ι:={q:Nat×Tm // q.1≤p.length∧q.2.po (p.drop q.1)=t.po p∧q.2.size≤t.size}) 1000 (fun q=>fD 31 [(2, .ptr 0 0),(4, .ptr 1 0),(5, .bool false),(8, .ps 1 (ints p)),(9, .int .i64 p.length),(10, .int .i64 q.1.1)])
  (fun q=>[some (.var [.int .i64 q.1.2.head, .ps 2 (q.1.2.args.map Tm.aN)]),some (.var [.int .i64 0, .aU])]) (fun q=>p.length - q.1.1) ⟨(0,t),by simp⟩ ?_ (fun _=>av _) ?_
 ·simp only [go_sem,bP,dp]
 ·rintro ⟨⟨i,u⟩,hi,kS,wc⟩
  simp only at hi kS wc
  have l9:=qb u.args
  have Ny:=oA u
  by_cases bD:(i:Int)<p.length
  ·have aZ:i<p.length:=by omega
   have hw:IntKind.i64.wrap ((i:Int)+1)=((i+1:Nat):Int):=by rw [ep (by omega)];omega
   rw [ak aZ,Tm.po] at kS
   obtain ⟨n,hn⟩:∃ n,p[i]=n:=⟨_,rfl⟩
   have hg:=wH aZ
   rw [hn] at kS hg
   by_cases h0:n<0
   ·rw [if_pos h0] at kS
    simp only [go_sem,bD,hg,kV,h0]
    refine ⟨by omega,?_⟩
    refine aK.go 1000 ?_
    simp only [go_sem,← kS,ez,Option.isSome_none,dc,gT,Tm.head,Tm.args,aS]
   ·rw [if_neg h0] at kS
    by_cases h1:n.toNat<u.args.length
    ·rw [dif_pos h1] at kS
     have h2:¬ (u.args.length:Int)≤n:=by omega
     have ye:(u.args.map Tm.aN).getD n.toNat .undef=(u.args[n.toNat]).aN:=nP h1
     simp only [go_sem,bD,hg,kV,h0,h2,hw,ye,fq]
     refine ⟨by omega,⟨by omega,by omega⟩,⟨(i+1,u.args[n.toNat]),by simp only;omega,kS,?_⟩,?_⟩
     ·have a1:=Cb u.args n.toNat h1
      have a2:=B8 u.args (n.toNat+1)
      simp only;omega
     ·refine ⟨⟨rfl,rfl,dp _,bP _⟩,by simp only;omega⟩
    ·rw [dif_neg h1] at kS
     have h2:(u.args.length:Int)≤n:=by omega
     simp only [go_sem,bD,hg,kV,h0,h2]
     refine ⟨by omega,?_⟩
     refine aK.go 1000 ?_
     simp only [go_sem,← kS,ez,Option.isSome_none,dc,gT,Tm.head,Tm.args,aS]
  ·have dR:i=p.length:=by omega
   subst dR
   rw [aV,Tm.po] at kS
   simp only [go_sem,bD]
   refine aK.go 1000 ?_
   simp only [go_sem,← kS]
   rw [dc]
   exact cH _ _ _
def Tm.k_:Tm→List Int→Tm→Tm
 | _,[],u=>u
 | t,n :: p,u=>.mk t.head (t.args.set n.toNat ((t.args.getD n.toNat gT).k_ p u))
theorem LH:gT.head=0:=rfl
theorem Lp:gT.args=[]:=rfl
theorem A9 {σ τ:ai} {b:Nat} (h:b < σ.length):bF (σ++τ) b=bF σ b:=by simp only [bF,cm h]
theorem vW {σ:ai} {b c:Nat} {x:Option bE} (h:c≠b):bF (σ.set c x) b=bF σ b:=by simp only [bF,bK h]
theorem Ba {σ:ai} {b:Nat} {x:Option bE} (h:b < σ.length):bF (σ.set b x) b=x:=by simp [bF,h]
theorem Eh {σ:ai} {b:Nat} {x:bE} (h:b < σ.length):b_ σ b x = σ.set b (some x):=if_pos h
theorem E1 {n:Nat} {x:Option bE} (hx:ji n x):∀ {σ:ai} (b:Nat),bt n σ→bt n (σ.set b x)
 | [],_,_=>trivial
 | a :: σ,0,h=>⟨hx,h.2⟩
 | a :: σ,b+1,h=>⟨h.1,E1 hx b h.2⟩
theorem OI {S:ai} {w':Tm} {x:ae} (hx:pT (fun _=>true) S w'.aN x):∀ (l:List Tm) (j:Nat),kz (fun _=>true) S ((l.set j w').map Tm.aN) ((l.map Tm.aN).set j x)
 | [],_=>by simp [kz]
 | a :: l,0=>by
  simp only [df,aI,Fl]
  exact ⟨hx,cH _ _ _⟩
 | a :: l,j+1=>by
  simp only [cZ,aI,Fl]
  exact ⟨vX _ _ _,OI hx l j⟩
theorem Tz {S:ai} {w':Tm} {x:ae} (hx:pT (fun _=>true) S w'.aN x) (h:Int) (l:List Tm) (j b:Nat) (hg:bF S b=some (.row ((l.map Tm.aN).set j x) 0)) :
  pT (fun _=>true) S (Tm.mk h (l.set j w')).aN (.agg [.int .i64 h, .os b 0 l.length 2]):=by
 rw [dc]
 simp only [go_sem,Tm.head,Tm.args,hg,bh]
 rw [bd (by simp)]
 exact OI hx l j
theorem Ti {n:Nat} {x:ae}:∀ {l:List ae},bx n l→x.low n→∀ i,bx n (l.set i x)
 | [],_,_,_=>trivial
 | a :: l,h,hx,0=>⟨hx,h.2⟩
 | a :: l,h,hx,i+1=>⟨h.1,Ti h.2 hx i⟩
structure A3 where
 k:Nat
 w:Tm
 a:ae
 σ:ai
def B7 (t:Tm) (p:List Int) (u:Tm) (q:A3):Prop :=
 q.k≤p.length∧(q.w.po (p.drop q.k)).isSome=true∧q.w.size≤t.size∧5≤q.σ.length∧bt q.σ.length q.σ∧q.a.low q.σ.length∧bF q.σ 1=some (.var [.int .i64 u.head, .ps 2 (u.args.map Tm.aN)])∧bF q.σ 2=some (.var [.int .i64 0, .aU]) ∧
 ((q.k=0∧q.a = .ptr 4 0∧q.w=t∧bF q.σ 4=some (.var [.int .i64 t.head, .ps 2 (t.args.map Tm.aN)])) ∨
  ∃ (c i:Nat) (es:List ae) (c0 c1:ae) (F:Tm→Tm),q.a = .rp c i 0∧5≤c∧c<q.σ.length∧bF q.σ c=some (.row es 0)∧i<es.length∧es.getD i .undef=q.w.aN∧bF q.σ 4=some (.var [c0,c1])∧c0.cI=true∧c1.cI=true ∧
   F (q.w.k_ (p.drop q.k) u)=t.k_ p u ∧
   ∀ (S:ai) (w':Tm) (x:ae),(∀ b,5≤b→b<q.σ.length→b≠c→bF S b=bF q.σ b)→bF S c=some (.row (es.set i x) 0)→pT (fun _=>true) S w'.aN x→pT (fun _=>true) S (F w').aN (.agg [c0,c1]))
theorem Yqv (t:Tm) (p:List Int) (u v:Tm) (hp:p.length≤1000000) (ht:t.size≤1000000) (h:t.po p=some v):aJ Tryz.prog 173 [t.aN, .ps 1 (ints p),u.aN] (.dy [(t.k_ p u).aN, .int .i64 0]):=by
 refine aJ.begin (rs:=[.cell 6 70, .tmp 7]) (m:=46) 1000 Tryz.func173 rfl rfl rfl (by decide) (by simp [go_sem,dE]) ?_
 simp only [go_sem,fq]
 refine aq.bU [] (Jw t p hp (by omega)) (by (try simp only [dc]);exact cH _ _ _) (by simp [go_sem,dE,bP,dp]) ?_;rw [jd];simp only [ite_self];refine aK.go 1000 ?_
 rw [h]
 simp only [go_sem,br,Option.isSome_some,dc,kV]
 refine aK.c9 (ι:={q:A3 // B7 t p u q}) 1000 (fun q=>fD 49 [(5, .ptr 1 0),(6, .ptr 2 0),(7, .int .i64 0),(10, .ptr 4 0),(11,q.1.a),(24, .ps 1 (ints p)),(25, .int .i64 p.length),(26, .int .i64 q.1.k)])
  (fun q=>q.1.σ) (fun q=>p.length - q.1.k) ⟨⟨0,t, .ptr 4 0,[none,some (.var [.int .i64 u.head, .ps 2 (u.args.map Tm.aN)]),some (.var [.int .i64 0, .aU]),none,some (.var [.int .i64 t.head, .ps 2 (t.args.map Tm.aN)])]⟩,?_⟩ ?_ (fun _=>av _) ?_
 ·refine ⟨av _,by simp [h],ah _,by simp,by simp [go_sem,bP],by simp [go_sem],rfl,rfl, .inl ⟨rfl,rfl,rfl,rfl⟩⟩
 ·simp only [go_sem,dp,bP]
 ·rintro ⟨⟨k,w,a,σ⟩,hk,kS,ft,yu,iL,qQ,rP,ui,hq⟩
  simp only at hk kS ft yu iL qQ rP ui hq
  have l9:=qb w.args
  have pG:cL w.aN=true:=by rw [dc];rfl
  have wu:∀ cs,jj true cs = .agg cs:=fun _=>rfl
  have wa:=oA w
  by_cases bD:(k:Int)<p.length
  ·have aZ:k<p.length:=by omega
   have hw:IntKind.i64.wrap ((k:Int)+1)=((k+1:Nat):Int):=by rw [ep (by omega)];omega
   rw [ak aZ,Tm.po] at kS
   obtain ⟨n,hn⟩:∃ n,p[k]=n:=⟨_,rfl⟩
   have hg:=wH aZ
   rw [hn] at kS hg
   have h0:¬ n<0:=fun h0=>by rw [if_pos h0] at kS;cases kS
   rw [if_neg h0] at kS
   have h1:n.toNat<w.args.length:=Decidable.by_contra fun h1=>by rw [dif_neg h1] at kS;cases kS
   rw [dif_pos h1] at kS
   have dX:w.args≠[]:=by intro e;rw [e] at h1;simp at h1
   have VI:w.k_ (p.drop k) u = .mk w.head (w.args.set n.toNat ((w.args[n.toNat]).k_ (p.drop (k+1)) u)):=by
    rw [ak aZ,hn,Tm.k_];simp [List.getD,h1]
   rcases hq with ⟨rfl,rfl,rfl,zm⟩ | ⟨c,i,es,c0,c1,F,rfl,Vn,gK,ye,Ex,oB,zm,zo,I9,hF,yt⟩
   ·have M9:(0:Int)<p.length:=by simpa using bD
    simp only [go_sem,M9,hg,kV,zm]
    refine aq.sT [] (EZ w.args dX (by omega)) (cH _ _ _) (by simp [go_sem,bP]) ?_
    rw [jd]
    simp only [zV,zW,z7,xk,z8,up,cz (bP _)]
    obtain ⟨iO,iZ⟩:∃ iO,σ++[none,some (bE.row (w.args.map Tm.aN) 0)] = iO:=⟨_,rfl⟩
    have Aw : iO.length = σ.length+2:=by rw [← iZ];simp
    have CZ:bF iO 4=some (.var [.int .i64 w.head, .ps 2 (w.args.map Tm.aN)]):=by rw [← iZ,A9 (by omega)];exact zm
    have CK : 4 < iO.length:=by omega
    have qg:bt iO.length iO:=by
     rw [Aw,← iZ]
     exact o9 (nA (by omega) iL) (by simp [go_sem,bP])
    rw [iZ]
    refine aK.go 1000 ?_
    simp only [go_sem,CZ,Eh CK,Ba CK]
    refine ⟨⟨by omega,by omega⟩,⟨⟨1,w.args[n.toNat], .rp (1 + σ.length) n.toNat 0,_⟩,?_⟩,⟨⟨.inl rfl,rfl⟩,fx _,?_,?_⟩,by simp only;omega⟩
    ·have a1:=Cb w.args n.toNat h1
     have a2:=B8 w.args (n.toNat+1)
     refine ⟨by simp only;omega,kS,by simp only;omega,by simp only [bh];omega,?_,?_,?_,?_, .inr ⟨1 + σ.length,n.toNat,w.args.map Tm.aN,_,_,fun w'=>.mk w.head (w.args.set n.toNat w'),rfl,by omega,by simp only [bh];omega,?_,by simpa using h1,nP h1,Ba CK,rfl,rfl,VI.symm,?_⟩⟩
     ·simp only [bh]
      exact E1 (by simp [ji,go_sem];omega) 4 qg
     ·simp [go_sem];omega
     ·simp only;rw [vW (by decide),← iZ,A9 (by omega)];exact rP
     ·simp only;rw [vW (by decide),← iZ,A9 (by omega)];exact ui
     ·simp only;rw [vW (by omega),← iZ,Nat.add_comm];simp [bF]
     ·intro S w' x _ hS hx
      exact Tz hx _ _ _ _ hS
    ·simp only [bh]
     exact ⟨by omega,by omega,by omega,by simp [go_sem];omega,dp _⟩
    ·simp only [bh]
     exact E1 (by simp [ji,go_sem];omega) 4 qg
   ·simp only [go_sem,bD,hg,kV,ye,Ex,oB,fq]
    refine ⟨by omega,?_⟩
    refine aq.sT [] (EZ w.args dX (by omega)) (cH _ _ _) (by simp [go_sem,bP]) ?_
    rw [jd]
    simp only [zV,zW,z7,xk,z8,up,cz (bP _)]
    obtain ⟨iO,iZ⟩:∃ iO,σ++[none,some (bE.row (w.args.map Tm.aN) 0)] = iO:=⟨_,rfl⟩
    have Aw : iO.length = σ.length+2:=by rw [← iZ];simp
    have C0:bF iO c=some (.row es 0):=by rw [← iZ,A9 gK];exact ye
    have CK:c < iO.length:=by omega
    have qg:bt iO.length iO:=by
     rw [Aw,← iZ]
     exact o9 (nA (by omega) iL) (by simp [go_sem,bP])
    have vC:∀ fz,ji iO.length (some (.row (es.set i (.agg [.int .i64 w.head, .os (1 + σ.length) 0 w.args.length 2])) fz)):=fun fz=>by
     have Ge:bx iO.length es:=qA qg c _ (jU C0)
     exact Ti Ge (by simp [go_sem];omega) i
    have Ge:bx iO.length es:=qA qg c _ (jU C0)
    have amy:i<(es.set i (.agg [.int .i64 w.head, .os (1 + σ.length) 0 w.args.length 2])).length:=by simpa using Ex
    have h_:(es.set i (ae.agg [.int .i64 w.head, .os (1 + σ.length) 0 w.args.length 2])).getD i .undef = .agg [.int .i64 w.head, .os (1 + σ.length) 0 w.args.length 2]:=by simp [List.getD,Ex]
    rw [iZ]
    refine aK.go 1000 ?_
    simp only [go_sem,C0,Eh CK,Ba CK,Ex,oB,fq,pG,wu,bh,h_]
    refine ⟨by omega,⟨by omega,by omega⟩,⟨⟨k+1,w.args[n.toNat], .rp (1 + σ.length) n.toNat 0,_⟩,?_⟩,⟨⟨.inl rfl,by rw [hw]⟩,fx _,?_,?_⟩,by simp only;omega⟩
    ·have a1:=Cb w.args n.toNat h1
     have a2:=B8 w.args (n.toNat+1)
     refine ⟨by simp only;omega,kS,by simp only;omega,by simp only [bh];omega,?_,?_,?_,?_, .inr ⟨1 + σ.length,n.toNat,w.args.map Tm.aN,c0,c1,fun w'=>F (.mk w.head (w.args.set n.toNat w')),rfl,by omega,by simp only [bh];omega,?_,by simpa using h1,nP h1,?_,zo,I9,by simp only;rw [← hF,VI],?_⟩⟩
     ·simp only [bh]
      exact E1 (vC 0) c qg
     ·simp [go_sem];omega
     ·simp only;rw [vW (by omega),← iZ,A9 (by omega)];exact rP
     ·simp only;rw [vW (by omega),← iZ,A9 (by omega)];exact ui
     ·simp only;rw [vW (by omega),← iZ,Nat.add_comm];simp [bF]
     ·simp only;rw [vW (by omega),← iZ,A9 (by omega)];exact zm
     ·intro S w' x F4 hS hx
      refine yt S _ (.agg [.int .i64 w.head, .os (1 + σ.length) 0 w.args.length 2]) (fun b h5 hb dX=>?_) ?_ (Tz hx _ _ _ _ hS)
      ·rw [F4 b h5 (by simp only [bh];omega) (by omega)]
       simp only;rw [vW (by omega),← iZ,A9 hb]
      ·rw [F4 c Vn (by simp only [bh];omega) (by omega)]
       simp only;rw [Ba CK]
    ·simp only [bh]
     exact ⟨by omega,by omega,by omega,by simp [go_sem];omega,dp _⟩
    ·simp only [bh]
     exact E1 (vC 0) c qg
  ·have dR:k=p.length:=by omega
   subst dR
   rw [aV] at hq
   rcases hq with ⟨h0,rfl,rfl,zm⟩ | ⟨c,i,es,c0,c1,F,rfl,Vn,gK,ye,Ex,oB,zm,zo,I9,hF,yt⟩
   ·simp only [go_sem,bD]
    refine aK.go 1000 ?_
    have U_:=zZ zm
    have U8:=zZ ui
    have MQ:bF (σ.set 4 (some (bE.var [.int .i64 u.head, .ps 2 (u.args.map Tm.aN)]))) 2=some (.var [.int .i64 0, .aU]):=by rw [vW (by decide)];exact ui
    simp only [go_sem,rP,ui,zm,Eh U_,Ba U_,MQ]
    rw [Eh (by simpa using U8),Ba (by simpa using U8)]
    have Nn:p=[]:=aY h0
    subst Nn
    rw [Tm.k_]
    simp only [go_sem]
   ·simp only [go_sem,bD]
    refine aK.go 1000 ?_
    have MP:∀ X,bF (σ.set c X) 2=some (.var [.int .i64 0, .aU]):=fun X=>by rw [vW (by omega)];exact ui
    have CZ:∀ X,bF (σ.set c X) 4=some (.var [c0,c1]):=fun X=>by rw [vW (by omega)];exact zm
    simp only [go_sem,rP,ui,zm,ye,Ex,oB,fq,pG,wu,Eh gK,MP,CZ,zo,I9]
    rw [Eh (by simp only [bh];omega),Ba (by simp only [bh];omega)]
    have fZ:pT (fun _=>true) ((σ.set c (some (bE.row (es.set i u.aN) 0))).set 2 (some (bE.var [c0,c1]))) (t.k_ p u).aN (.agg [c0,c1]):=by
     rw [← hF,Tm.k_]
     refine yt _ u _ (fun b h5 hb dX=>?_) ?_ (vX _ _ _)
     ·rw [vW (by omega),vW (by omega)]
     ·rw [vW (by omega),Ba gK]
    rw [dc u,dc (t.k_ p u)] at fZ
    simp only [go_sem] at fZ
    simp only [go_sem,zo,I9]
    exact ⟨by omega,fZ⟩
structure Bd where
 v:Int
 t:Tm
def Bd.aN (b:Bd):ae:=.agg [.int .i64 b.v, .int .i64 b.t.head, .ps 2 (b.t.args.map Tm.aN)]
def nR (l:List Bd):List ae:=l.map Bd.aN
theorem Bj (l:List Bd):(nR l).length=l.length:=by simp [nR]
theorem Yxe {n:Nat} (b:Bd):b.aN.low n:=⟨trivial,trivial,bP _,trivial⟩
@[go_sem] theorem Ek {n:Nat} (l:List Bd):bx n (nR l)=True:=eq_true (uN fun b _=>Yxe b)
theorem OU {l:List Bd} {i:Nat} (h:i<l.length):(nR l).getD i .undef=l[i].aN:=nP h
theorem Fo (b:Bd):b.aN.cells=[.int .i64 b.v, .int .i64 b.t.head, .ps 2 (b.t.args.map Tm.aN)]:=rfl
def jn:Int→List Bd→Int
 | _,[]=>0
 | m,b :: l=>if b.v≤m∨255<b.v∨b.t.check≠0∨b.t.head = -1 - b.v then 1 else jn b.v l
theorem YO (bs:List Bd) (hl:bs.length<1000000) (hb:∀ b∈bs,b.t.size<99999999):aJ Tryz.prog 189 [.ps 3 (nR bs)] (.int .i64 (jn (-1) bs)):=by
 refine aJ.begin (rs:=[.tmp 2]) (m:=38) 1000 Tryz.func189 rfl rfl rfl (by decide) trivial ?_
 simp only [go_sem,Bj]
 refine aK.c9 (ι:={q:Nat×Int // q.1≤bs.length∧jn q.2 (bs.drop q.1)=jn (-1) bs∧-1≤q.2}) 1000 (fun q=>fD 39 [(2, .int .i64 0),(3, .int .i64 q.1.2),(6, .ps 3 (nR bs)),(7, .int .i64 bs.length),(8, .int .i64 q.1.1)])
  (fun _=>[]) (fun q=>bs.length - q.1.1) ⟨(0, -1),by simp⟩ ?_ (fun _=>av _) ?_
 ·simp only [go_sem]
 ·rintro ⟨⟨i,m⟩,hi,aO,hm⟩
  simp only at hi aO hm
  by_cases bD:(i:Int)<bs.length
  ·have aZ:i<bs.length:=by omega
   have hw:IntKind.i64.wrap ((i:Int)+1)=((i+1:Nat):Int):=by rw [ep (by omega)];omega
   rw [ak aZ,jn] at aO
   have jy:=hb _ (aF aZ)
   have hg:=OU aZ
   obtain ⟨b,hbi⟩:∃ b,bs[i]=b:=⟨_,rfl⟩
   rw [hbi] at aO jy hg
   by_cases h1:b.v≤m
   ·rw [if_pos (.inl h1)] at aO
    simp only [go_sem,bD,Bj,hg,Fo,h1]
    refine ⟨by omega,?_⟩
    refine aK.go 1000 ?_
    simp only [go_sem,← aO]
   ·by_cases h2 : 255<b.v
    ·rw [if_pos (.inr (.inl h2))] at aO
     simp only [go_sem,bD,Bj,hg,Fo,h1,h2]
     refine ⟨by omega,?_⟩
     refine aK.go 1000 ?_
     simp only [go_sem,← aO]
    ·have rE:=Ch b.t (by omega)
     simp only [go_sem,bD,Bj,hg,Fo,h1,h2]
     refine ⟨by omega,?_⟩
     refine aq.bU [] (rE) (by (try simp only [dc]);exact cH _ _ _) (by simp [go_sem,dE,bP]) ?_;simp only [bL,bZ,bX,if_true];refine aK.go 1000 ?_
     by_cases h3:b.t.check=0
     ·have re:IntKind.i64.wrap (-1 - b.v) = -1 - b.v:=ep (by omega)
      by_cases h4:b.t.head = -1 - b.v
      ·rw [if_pos (.inr (.inr (.inr h4)))] at aO
       simp only [go_sem,h3,re,h4]
       refine aK.go 1000 ?_
       simp only [go_sem,← aO]
      ·rw [if_neg (by simp [h1,h2,h3,h4])] at aO
       simp only [go_sem,h3,re,h4,hw]
       refine ⟨⟨(i+1,b.v),by simp only;omega,aO,by simp only;omega⟩,⟨rfl,rfl⟩,by simp only;omega⟩
     ·rw [if_pos (.inr (.inr (.inl h3)))] at aO
      simp only [go_sem,h3]
      refine aK.go 1000 ?_
      simp only [go_sem,← aO]
  ·have dR:i=bs.length:=by omega
   subst dR
   rw [aV,jn] at aO
   simp only [go_sem,bD]
   refine aK.go 1000 ?_
   simp only [go_sem,← aO]
theorem O4 (t:Tm) (ft:t.size<99999999):aJ Tryz.prog 190 [t.aN] (if t.check=0 then .dy [t.aN, .int .i64 0] else .dy [gT.aN, .int .i64 t.check]):=by
 refine aJ.begin (rs:=[.cell 2 70, .tmp 3]) (m:=11) 1000 Tryz.func190 rfl rfl rfl (by decide) (by split<;>simp [go_sem,dE]) ?_
 have rE:=Ch t (by omega)
 simp only [go_sem,fq]
 refine aq.bU [] (rE) (by (try simp only [dc]);exact cH _ _ _) (by simp [go_sem,dE,bP]) ?_;simp only [bL,bZ,bX,if_true];refine aK.go 1000 ?_
 by_cases h:t.check=0
 ·rw [if_pos h]
  simp only [go_sem,h,dc]
 ·rw [if_neg h]
  simp only [go_sem,h,dc,LH,Lp,aS]
def fj (bs:List Bd):List ae:=bs.map fun b=>.int .i64 b.v
def fN (bs:List Bd):List ae:=bs.map fun b=>b.t.aN
def p0 (bs:List Bd) (t:Tm):Tm:=((bs.find? fun b=>b.v == -1 - t.head).map Bd.t).getD t
theorem y5 (bs:List Bd) (v:Int):(fj bs).all (sameKind (.int .i64 v))=true:=by
 simp [fj,sameKind]
theorem E3 (v:Int):∀ (bs:List Bd) (n:Nat),(match e8 (.int .i64 v) (fj bs) n with | some i=>n≤i∧∃ b,bs[i - n]? = some b∧bs.find? (fun b=>b.v==v)=some b | none=>bs.find? (fun b=>b.v==v)=none)
 | [],n=>by simp [fj,e8]
 | b :: bs,n=>by
  have ih:=E3 v bs (n+1)
  simp only [fj,aI,e8,pU] at ih ⊢
  by_cases c:b.v=v
  ·have hc:fb (.int .i64 v) (.int .i64 b.v)=true:=by simp [fb,c]
   have kY:(b.v==v)=true:=by simpa using c
   rw [hc,if_pos rfl]
   refine ⟨ah _,b,by simp,?_⟩
   rw [kY]
  ·have hc:fb (.int .i64 v) (.int .i64 b.v)=false:=by simp only [fb,beq_eq_false_iff_ne];exact fun e=>c e.symm
   have kY:(b.v==v)=false:=by simpa using c
   rw [hc,kY]
   simp only [a8,if_false]
   split at ih
   ·rename_i i _
    obtain ⟨h1,x,h2,h3⟩:=ih
    refine ⟨by omega,x,?_,h3⟩
    rw [show i - n=(i - (n+1))+1 by omega];simpa using h2
   ·exact ih
theorem J4 (bs:List Bd) (v:Int) (z:ae):eQ (fj bs) (fN bs) z (.int .i64 v) true=match bs.find? (fun b=>b.v==v) with | some b=>.dy [b.t.aN, .bool true] | none=>.dy [z, .bool false]:=by
 have h:=E3 v bs 0
 unfold eQ
 cases hk:e8 (.int .i64 v) (fj bs) 0 with
 | some i =>
  rw [hk] at h
  obtain ⟨_,b,h2,h3⟩:=h
  rw [h3]
  simp only [if_true,fN,List.getD,cd]
  rw [gE] at h2
  rw [h2];rfl
 | none =>
  rw [hk] at h
  rw [show bs.find? (fun b=>b.v==v)=none from h];rfl
theorem Yws (bs:List Bd) (t:Tm) (ht:n8 (-1 - t.head)):aJ Tryz.prog 193 [.pm (fj bs) (fN bs),t.aN] (p0 bs t).aN:=by
 refine aJ.begin (rs:=[.cell 4 70]) (m:=16) 1000 Tryz.func193 rfl rfl rfl (by decide) (by simp [go_sem,dE]) ?_
 have hw:IntKind.i64.wrap (-1 - t.head) = -1 - t.head:=ep ht
 have tx:p0 bs t=((bs.find? fun b=>b.v == -1 - t.head).map Bd.t).getD t:=rfl
 have oQ:=J4 bs (-1 - t.head) (.agg [.int .i64 0, .aU])
 cases hf:bs.find? (fun b=>b.v == -1 - t.head) with
 | some b =>
  rw [hf] at oQ tx
  rw [tx]
  simp only [go_sem,fq,hw,y5,oQ,dc,bw,br]
 | none =>
  rw [hf] at oQ tx
  rw [tx]
  simp only [go_sem,fq,hw,y5,oQ,dc,j7,ez]
mutual
def Tm.sub (bs:List Bd):Tm→Tm
 | .mk h ts=>if h<0 then p0 bs (.mk h ts) else .mk h (Tm.rX bs ts)
def Tm.rX (bs:List Bd):List Tm→List Tm
 | []=>[]
 | t :: ts=>t.sub bs :: Tm.rX bs ts
end
theorem Ud (bs:List Bd):∀ ts,Tm.rX bs ts=ts.map (Tm.sub bs)
 | []=>rfl
 | t :: ts=>by simp [Tm.rX,Ud bs ts]
def vK (bs:List Bd):ae:=.fn 193 [.pm (fj bs) (fN bs)] []
theorem iE {n:Nat} (bs:List Bd):bx n (fj bs)∧bx n (fN bs):=⟨uN fun _ _=>trivial,uN fun b _=>dE b.t⟩
@[go_sem] theorem Yyr {π:Nat→Nat} (bs:List Bd):dI π (vK bs)=vK bs:=zT (show ae.low 0 (vK bs) from ⟨⟨iE bs,trivial⟩,trivial⟩)
@[go_sem] theorem Yyy {n:Nat} (bs:List Bd):ae.low n (vK bs)=True:=eq_true ⟨⟨iE bs,trivial⟩,trivial⟩
@[go_sem] theorem xH (b sz:Nat) (l:List ae):((ja b sz l).cI=true)=True:=eq_true (by cases l<;>rfl)
theorem OD {bs:List Bd} {t:Tm} (h:t.head<0):t.sub bs=p0 bs t:=by
 cases t;rw [Tm.sub];exact if_pos h
theorem Yor {bs:List Bd} {t:Tm} (h:¬ t.head<0):t.sub bs = .mk t.head (t.args.map (Tm.sub bs)):=by
 cases t;rw [Tm.sub,Ud];exact if_neg h
theorem Fi {t:Tm} (h:t.fit):n8 t.head:=by cases t;exact h.1
theorem xm {t:Tm} (h:t.fit):Tm.fits t.args:=by cases t;exact h.2
theorem Q6 (bs:List Bd):∀ (n:Nat) (t:Tm),t.size≤n→t.size≤100000000→t.fit→aJ Tryz.prog 191 [t.aN,vK bs] (t.sub bs).aN
 | 0,t,h,_,_=>by have:=oA t;omega
 | n+1,t,h,hs,hf=>by
  refine aJ.begin (rs:=[.cell 4 70]) (m:=32) 1000 Tryz.func191 rfl rfl rfl (by decide) (by simp [go_sem,dE]) ?_
  have ft:=oA t
  have l9:=qb t.args
  by_cases fM:t.head<0
  ·simp only [go_sem,fq,fM]
   have zj:t.sub bs=p0 bs t:=OD fM
   have fh:n8 (-1 - t.head):=by have:=Fi hf;unfold n8 at *;omega
   refine aq.bU [] (Yws bs t fh) (by simp only [bj,bf,bn,dc];exact cH _ _ _) (by simp [go_sem,dE,iE]) ?_
   rw [jd];simp only [ite_self]
   refine aK.go 1000 ?_
   rw [zj]
   simp only [go_sem,fq]
   rw [dc];exact cH _ _ _
  ·simp only [go_sem,fq,fM,ao]
   refine aK.gS (ι:={q:Nat×List Tm // q.1≤t.args.length∧q.2=(t.args.take q.1).map (Tm.sub bs)}) 1000 (fun q=>fD 34 [(1,vK bs),(4, .ptr 1 0),(5, .ptr 2 0),(18, .ps 2 (t.args.map Tm.aN)),(19, .int .i64 t.args.length),(20, .int .i64 q.1.1)])
    (fun q=>[none,some (.var [.int .i64 0, .aU]),some (.var [.int .i64 t.head,ja 3 2 (q.1.2.map Tm.aN)]),eJ (q.1.2.map Tm.aN)]) (fun q=>t.args.length - q.1.1) ⟨(0,[]),by simp⟩ [] ?_ (fun _=>av _) ?_
   ·refine iF rfl ?_
    simp only [go_sem,aS,tK,td,bP,cz (bP _)]
   ·rintro ⟨⟨i,L⟩,hi,hL⟩
    simp only at hi hL
    by_cases bD:(i:Int)<t.args.length
    ·have aZ:i<t.args.length:=by omega
     have hw:IntKind.i64.wrap ((i:Int)+1)=((i+1:Nat):Int):=by rw [ep (by omega)];omega
     have hg:(t.args.map Tm.aN).getD i .undef=t.args[i].aN:=nP aZ
     simp only [go_sem,bD,ao,hg,fq]
     refine ⟨by omega,?_⟩
     refine aK.draw [⟨none,[],[5]⟩,⟨none,[],[5]⟩, .no, .no, .no,⟨some 5,[5],[]⟩,⟨some 6,[3,6],[]⟩, .no,⟨none,[2],[]⟩] 5 7 mixed rfl rfl (by decide) ?_
     simp only [go_sem,dA]
     have qs:=Iq (xm hf) i aZ
     have a1:=Cb t.args i aZ
     have a2:=B8 t.args (i+1)
     obtain ⟨x,hx⟩:∃ x,t.args[i]=x:=⟨_,rfl⟩
     simp only [hx] at qs a1 ⊢
     refine nQ (Q6 bs n x (by omega) (by omega) qs) (by simp only [dc,bf,bn];exact cH _ _ _) (by simp [go_sem,dE]) ?_
     have h3:bF ([none,some (.var [.int .i64 0, .aU]),some (.var [.int .i64 t.head,ja 3 2 (L.map Tm.aN)]),eJ (L.map Tm.aN),some (.var [.int .i64 x.head, .ps 2 (x.args.map Tm.aN)]),some (.row [(x.sub bs).aN] 0),none]) 3=eJ (L.map Tm.aN):=rfl
     have m8:=of_eq_true (Ck [x.sub bs])
     rw [show [x.sub bs].map Tm.aN=[(x.sub bs).aN] from rfl] at m8
     have sR:List.take 1 [(x.sub bs).aN]=[(x.sub bs).aN]:=rfl
     simp only [go_sem,uQ h3,m8,ao,sR,fq]
     have hLl:L.length=i:=by rw [hL];simp;omega
     refine ⟨by rw [dc];rfl,by omega,?_⟩
     refine aK.go 1000 ?_
     simp only [go_sem,hw]
     refine ⟨⟨(i+1,L++[x.sub bs]),by simp only;omega,by simp only;rw [hL,List.take_succ_eq_append_getElem aZ,hx];simp⟩,[(3,6),(6,3)],iF rfl ?_,by simp only;omega⟩
     have lw:bx 0 ((L++[x.sub bs]).map Tm.aN):=bP _
     dsimp only
     rw [cN] at lw ⊢
     rw [u_ (by simp),u9 (by simp)]
     simp only [aI,aS] at lw
     simp only [go_sem,bP,cz (bP _),cz lw,ie (av 4) lw,ao,au,aR,aI,aS]
    ·have dR:i=t.args.length:=by omega
     subst dR
     simp only [go_sem,bD]
     refine aK.go 1000 ?_
     simp only [go_sem]
     rw [Yor fM,dc]
     rw [show (Tm.mk t.head (t.args.map (Tm.sub bs))).head=t.head from rfl,show (Tm.mk t.head (t.args.map (Tm.sub bs))).args=t.args.map (Tm.sub bs) from rfl]
     rw [hL,da]
     simp only [go_sem,rN]
theorem Zsv (ts:List Bd) (n0:Nat) (kc:ai) (S:Nat→ai) (p:Nat) (y:ae) (h0 : kc.length=n0) (xU : kc++[none]=S 0) (hlen:∀ i,(S i).length=n0+1) (eH:∀ i,bF (S i) p=some (.var [.ps 3 (nR ts)])) (hp:p<n0)
  (hs:∀ i,bt (n0+1) (S i)) (nI:bt n0 kc) (nK:y.low n0) (hl:ts.length<2 ^ 62)
  (hy:∀ i (h:i<ts.length),aq Tryz.prog y [.int .i64 ((ts.length:Int) - 1 - i),ts[ts.length - 1 - i].aN] (S i) (fun r σ'=>r = .bool true∧n0+1≤σ'.length∧bt σ'.length σ'∧∃ π:Nat→Nat,(∀ b,b<n0→π b=b)∧(∀ b b',b<n0+1→b'<n0+1→π b = π b'→b=b')∧gb π σ' 0 (S (i+1)))) :
  aq Tryz.prog (.fn 227 [] [.ptr p 0]) [y] kc (fun _ σ'=>σ'=S ts.length):=by
 subst h0
 refine aq.l6 (rs:=[]) (m:=17) Tryz.func227 rfl rfl rfl rfl rfl ?_
 refine aK.pad 1 (ah _) (by simp [go_sem,nK,hp]) nI ?_
 rw [show List.replicate 1 (none:Option bE)=[none] from rfl,xU]
 refine aK.go 1000 ?_
 simp only [go_sem,eH,ah,Bj]
 rw [ep (by omega)]
 have Da:bt (kc.length+1) (S 0):=hs 0
 refine aK.c9 (ι:={i:Nat // i≤ts.length}) 1000 (fun i=>fD 19 [(0,y),(1, .ptr p 0),(3, .int .i64 ((ts.length:Int) - 1 - i.1))]) (fun i=>S i.1) (fun i=>ts.length - i.1) ⟨0,by omega⟩ ?_ (fun i=>by rw [hlen];exact dK _) ?_
 ·simp only [go_sem,hlen,Da,mP (dK _) nK,cC,Int.sub_zero]
  exact ⟨fx _,by omega⟩
 ·rintro ⟨i,hi⟩
  by_cases bD : 0≤(ts.length:Int) - 1 - i
  ·have aZ:i<ts.length:=by omega
   have hb:ts.length - 1 - i<ts.length:=by omega
   have hn:((ts.length:Int) - 1 - i).toNat=ts.length - 1 - i:=by omega
   simp only [go_sem,bD,eH,ah,Bj,hn,OU hb,Fo]
   (repeat ((with_reducible refine And.intro ?_ ?_); ·omega))
   refine aK.xM (.bool true) trivial (by rw [hlen];exact dK _) ?_ ?_ ?_ ?_ ?_ ?_
   ·rw [hlen];exact mP (dK _) nK
   ·simp [go_sem,bP]
   ·rw [hlen];exact hs i
   ·rw [hlen]
    simp [go_sem,DT,D2,Ct,nK,hp,bP]
   ·rw [hlen]
    have nW:=mP (dK _) nK
    simp [go_sem,nW,bP];omega
   rw [hlen]
   refine (hy i aZ).mono ?_
   rintro r σ' ⟨k1,k2,k3,π,k4,k5,k6⟩
   refine ⟨k1,k2,k3,π,S (i+1),hlen _,k4,k5,k6,hs _,?_⟩
   refine aK.go 1000 ?_
   simp only [go_sem]
   refine ⟨⟨i+1,aZ⟩,?_,by simp only;omega⟩
   have Db:bt (kc.length+1) (S (i+1)):=hs (i+1)
   simp only [go_sem,hlen,Db,mP (dK _) nK]
   rw [ep (by omega)]
   exact ⟨by rw [show (ts.length:Int) - 1 - i - 1=ts.length - 1 - ((i+1:Nat):Int) by omega],fx _,by omega⟩
  ·have dR:i=ts.length:=by omega
   subst dR
   simp only [go_sem,bD]
   refine aK.go 1000 ?_
   simp only [go_sem]
   rw [fL]
   exact ⟨S ts.length,fx _,by rw [hlen];exact dK _,by rw [hlen];exact hs _,trivial,rfl⟩
theorem Zoh (ts:List Bd) (σ:ai) (hs:bt σ.length σ):aq Tryz.prog (.fn 211 [] []) [.ps 3 (nR ts)] σ
  (fun r σ'=>r = .fn 227 [] [.ptr σ.length 0]∧σ' = σ++[some (.var [.ps 3 (nR ts)])]):=by
 refine aq.begin (rs:=[.tmp 2]) (m:=3) 1000 Tryz.func211 rfl rfl rfl rfl rfl ?_
 simp only [go_sem]
 rw [Bf,fL]
 exact ⟨_,fx _,by simp,o9 (nA (by simp) hs) (by simp [go_sem,bP]),by simp [go_sem],rfl,rfl⟩
theorem Kc {l:List Bd} {b:Bd} {x:ae} (hx:x=b.t.aN) (h:l.find? (fun c=>c.v==b.v)=none):iM (fj l) (fN l) (.int .i64 b.v) x=(fj (l++[b]),fN (l++[b])):=by
 have h1:=E3 b.v l 0
 unfold iM
 cases hk:e8 (.int .i64 b.v) (fj l) 0 with
 | some i =>
  rw [hk] at h1
  obtain ⟨_,c,_,h3⟩:=h1
  rw [h] at h3;cases h3
 | none=>simp [fj,fN,hx]
theorem Yj1 (bs:List Bd) (hl:bs.length<1000000) (hd:(bs.map Bd.v).Nodup):aJ Tryz.prog 192 [.ps 3 (nR bs)] (.pm (fj bs.reverse) (fN bs.reverse)):=by
 refine aJ.begin (rs:=[.tmp 2]) (m:=16) 1000 Tryz.func192 rfl rfl rfl (by decide) ⟨(iE _).1,(iE _).2⟩ ?_
 simp only [go_sem]
 refine (Zoh bs _ (by simp [go_sem])).mono ?_
 rintro _ _ ⟨rfl,rfl⟩
 refine aK.go 1000 ?_
 simp only [go_sem]
 refine aK.rangeFunc (fD 17 [(3, .ptr 1 0)]) ?_ ?_ (fun ρ ht vB kS qM=>?_)
 ·simp only [go_sem]
 ·exact fun b hb=>by cases hb
 simp only [go_sem]
 have jh:bx 4 ρ.tm:=by rw [ht];simp [go_sem,zX,z6]
 have fP:∀ l:List Bd,bt 5 [some (.map (fj l) (fN l) false),some (.var [.map 0]),some (.var [.ps 3 (nR bs)]),some (.loop (ρ.at .ready)),none] :=
  fun l=>⟨⟨(iE l).1,(iE l).2⟩,⟨Nat.zero_lt_succ 4,trivial⟩,⟨of_eq_true (Ek bs),trivial⟩,ie (by decide) jh,trivial,trivial⟩
 refine (Zsv bs 4 _ (fun k=>[some (.map (fj (bs.reverse.take k)) (fN (bs.reverse.take k)) false),some (.var [.map 0]),some (.var [.ps 3 (nR bs)]),some (.loop (ρ.at .ready)),none]) 2 (.ld 3) rfl rfl (fun _=>rfl) (fun _=>rfl) (by decide) (fun k=>fP _) ?_ (cD 3) (by omega) (fun k hk=>?_)).mono ?_
 ·exact ⟨⟨trivial,trivial⟩,⟨Nat.zero_lt_succ 3,trivial⟩,⟨of_eq_true (Ek bs),trivial⟩,jh,trivial⟩
 ·refine aq.stay rfl (fP _) ?_
  refine aq.lH 1000 ht vB kS qM rfl rfl ?_
  simp only [go_sem,Fo]
  have tu:k<bs.reverse.length:=by simpa using hk
  have Gm:bs.reverse[k]=bs[bs.length - 1 - k]:=List.getElem_reverse tu
  have sj:bs.reverse.take (k+1)=bs.reverse.take k++[bs[bs.length - 1 - k]]:=by rw [List.take_succ_eq_append_getElem tu,Gm]
  have Bz:(bs.reverse.take k).find? (fun c=>c.v==(bs[bs.length - 1 - k]).v)=none:=by
   rw [j_]
   intro c hc e
   have hv:c.v=(bs[bs.length - 1 - k]).v:=by simpa using e
   have oS:((bs.reverse.take (k+1)).map Bd.v).Nodup:=by
    have h1:(bs.reverse.map Bd.v).Nodup:=by rw [List.map_reverse];exact List.pairwise_reverse.2 (hd.imp fun h e=>h e.symm)
    exact h1.sublist ((List.take_sublist _ _).map _)
   rw [sj,cN,gB] at oS
   exact oS.2.2 _ (mo hc) _ (by simp) hv
  rw [Kc (b:=bs[bs.length - 1 - k]) (dc _).symm Bz,← sj]
  refine ⟨y5 _ _,?_⟩
  rw [tL]
  exact ⟨rfl,[some (.map (fj (bs.reverse.take (k+1))) (fN (bs.reverse.take (k+1))) false),some (.var [.map 0]),some (.var [.ps 3 (nR bs)]),some (.loop (ρ.at .ready)),none],by simp [go_sem],ah _,fP _,rfl,rfl⟩
 rintro r' iO rfl
 rw [Cv]
 refine ⟨.ready,rfl,?_⟩
 rw [D9]
 rw [show bs.reverse.take bs.length=bs.reverse by rw [← List.length_reverse,da]]
 refine aK.go 1000 ?_
 simp only [go_sem]
theorem JM:∀ (bs:List Bd) (m:Int),jn m bs=0→(∀ b∈bs,m<b.v)∧(bs.map Bd.v).Nodup
 | [],_,_=>by simp
 | b :: l,m,h=>by
  rw [jn] at h
  split at h
  ·cases h
  ·rename_i hc
   have rD:m<b.v:=by omega
   obtain ⟨h1,h2⟩:=JM l b.v h
   refine ⟨fun c I8=>?_,?_⟩
   ·rcases aP.1 I8 with rfl | I8
    ·exact rD
    ·have:=h1 c I8;omega
   ·simp only [aI,eh]
    refine ⟨fun hm=>?_,h2⟩
    obtain ⟨c,Aq,hc4⟩:=bW.1 hm
    have:=h1 c Aq;omega
def qe (bs:List Bd) (t:Tm):Tm×Int :=
 if jn (-1) bs≠0∨t.check≠0 then (gT,1) else if (t.sub bs.reverse).check=0 then (t.sub bs.reverse,0) else (gT,(t.sub bs.reverse).check)
theorem X1 (bs:List Bd) (t:Tm) (hl:bs.length<1000000) (hb:∀ b∈bs,b.t.size<99999999) (ht:t.size<99999999) (hf:t.fit) (hs:(t.sub bs.reverse).size<99999999) :
  aJ Tryz.prog 170 [.ps 3 (nR bs),t.aN] (.dy [(qe bs t).1.aN, .int .i64 (qe bs t).2]):=by
 refine aJ.begin (rs:=[.cell 4 70, .tmp 5]) (m:=21) 1000 Tryz.func170 rfl rfl rfl (by decide) (by simp [go_sem,dE]) ?_
 simp only [go_sem,fq]
 refine aq.bU [] (YO bs hl hb) (by (try simp only [dc]);exact cH _ _ _) (by simp [go_sem,dE,bP]) ?_;simp only [bL,bZ,bX,if_true];refine aK.go 1000 ?_
 have rE:=Ch t (by omega)
 by_cases h1:jn (-1) bs=0
 ·obtain ⟨_,oS⟩:=JM bs _ h1
  simp only [go_sem,h1]
  refine aq.bU [] (rE) (by (try simp only [dc]);exact cH _ _ _) (by simp [go_sem,dE,bP]) ?_;simp only [bL,bZ,bX,if_true];refine aK.go 1000 ?_
  by_cases h2:t.check=0
  ·have xY:qe bs t=if (t.sub bs.reverse).check=0 then (t.sub bs.reverse,0) else (gT,(t.sub bs.reverse).check):=by unfold qe;rw [if_neg (by simp [h1,h2])]
   rw [xY]
   simp only [go_sem,h2]
   refine aK.draw [.no, .no, .no, .no, .no, .no, .no, .no,⟨none,[1],[]⟩] 2 2 mixed rfl rfl (by decide) ?_
   simp only [go_sem,dA]
   refine nQ (Yj1 bs hl oS) (cH _ _ _) (by simp [go_sem]) ?_
   simp only [go_sem]
   refine nQ (Q6 bs.reverse _ t (ah _) (by omega) hf) (by simp only [dc,vK,bf,bn];exact cH _ _ _) (by simp [go_sem,dE]) ?_
   simp only [go_sem]
   by_cases h3:(t.sub bs.reverse).check=0
   ·rw [if_pos h3]
    have hend:=O4 (t.sub bs.reverse) hs
    rw [if_pos h3] at hend
    refine nQ hend (cH _ _ _) (by simp [go_sem,dE]) ?_
    simp only [go_sem,fq]
    refine aK.go 1000 ?_
    simp only [go_sem,dc]
   ·rw [if_neg h3]
    have hend:=O4 (t.sub bs.reverse) hs
    rw [if_neg h3] at hend
    refine nQ hend (cH _ _ _) (by simp [go_sem,dE]) ?_
    simp only [go_sem,fq]
    refine aK.go 1000 ?_
    simp only [go_sem,dc]
  ·have xY:qe bs t=(gT,1):=by unfold qe;rw [if_pos (.inr h2)]
   rw [xY]
   simp only [go_sem,h2,dc,LH,Lp,aS]
 ·have xY:qe bs t=(gT,1):=by unfold qe;rw [if_pos (.inl h1)]
  rw [xY]
  simp only [go_sem,h1,dc,LH,Lp,aS]
def lq:List (Tm×Tm)→Nat
 | []=>0
 | x :: r=>x.1.size+lq r
theorem LA:∀ (a b:List (Tm×Tm)),lq (a++b)=lq a+lq b
 | [],b=>by simp [lq]
 | x :: a,b=>by simp only [bj,lq,LA a b];omega
theorem Ir:∀ a:List (Tm×Tm),lq a.reverse=lq a
 | []=>rfl
 | x :: a=>by rw [nO,LA,Ir a];simp only [lq];omega
theorem IA:∀ (a b:List Tm),lq (a.zip b)≤Tm.bG a
 | [],_=>by simp [lq]
 | x :: a,[]=>by simp [lq]
 | x :: a,y :: b=>by simp only [iy,lq,Tm.bG];have:=IA a b;omega
theorem Fa (a b:Tm) (r:List (Tm×Tm)):lq ((a.args.zip b.args).reverse++r)<a.size+lq r:=by
 rw [LA,Ir]
 have h1:=IA a.args b.args
 have h2:=oA a
 omega
theorem zM (a:Tm) : 0<a.size:=by have:=oA a;omega
def gV:List (Tm×Tm)→List Bd→Option (List Bd)
 | [],m=>some m
 | x :: r,m =>
  if 0≤-1 - x.1.head then
   match m.find? (fun c=>c.v == -1 - x.1.head) with
   | some c=>if c.t=x.2 then gV r m else none
   | none=>gV r (m++[⟨-1 - x.1.head,x.2⟩])
  else if x.1.head≠x.2.head∨x.1.args.length≠x.2.args.length then none
  else gV ((x.1.args.zip x.2.args).reverse++r) m
termination_by s=>lq s
decreasing_by
 ·simp only [lq];have:=zM x.1;omega
 ·simp only [lq];have:=zM x.1;omega
 ·simp only [lq];exact Fa x.1 x.2 r
def nY (s:List (Tm×Tm)):List ae:=s.reverse.map fun x=>x.1.aN
def nZ (s:List (Tm×Tm)):List ae:=s.reverse.map fun x=>x.2.aN
theorem Ei (s:List (Tm×Tm)):(nY s).length=s.length:=by simp [nY]
theorem Eg (s:List (Tm×Tm)):(nZ s).length=s.length:=by simp [nZ]
theorem US (x:Tm×Tm) (r:List (Tm×Tm)):nY (x :: r)=nY r++[x.1.aN]:=by simp [nY]
theorem UD (x:Tm×Tm) (r:List (Tm×Tm)):nZ (x :: r)=nZ r++[x.2.aN]:=by simp [nZ]
@[go_sem] theorem Ix {n:Nat} (s:List (Tm×Tm)):bx n (nY s)=True:=eq_true (uN fun x _=>dE x.1)
@[go_sem] theorem IC {n:Nat} (s:List (Tm×Tm)):bx n (nZ s)=True:=eq_true (uN fun x _=>dE x.2)
theorem LD:∀ s:List (Tm×Tm),s.length≤lq s
 | []=>ah _
 | x :: r=>by simp only [au,lq];have:=LD r;have:=zM x.1;omega
theorem Oz {a b:List Tm} (h:a.length=b.length):nY (a.zip b).reverse=a.map Tm.aN:=by
 rw [nY,gC]
 have:=List.map_fst_zip (l₁:=a) (l₂:=b) (by omega)
 rw [show (a.zip b).map (fun x=>x.1.aN)=((a.zip b).map Prod.fst).map Tm.aN by simp,this]
theorem OT {a b:List Tm} (h:a.length=b.length):nZ (a.zip b).reverse=b.map Tm.aN:=by
 rw [nZ,gC]
 have:=List.map_snd_zip (l₁:=a) (l₂:=b) (by omega)
 rw [show (a.zip b).map (fun x=>x.2.aN)=((a.zip b).map Prod.snd).map Tm.aN by simp,this]
theorem TR {a b:List Tm} (h:a.length=b.length) (r:List (Tm×Tm)):nY ((a.zip b).reverse++r)=nY r++a.map Tm.aN:=by
 have:=Oz h
 rw [nY,gC] at this
 rw [nY,List.reverse_append,gC,cN,this];rfl
theorem UT {a b:List Tm} (h:a.length=b.length) (r:List (Tm×Tm)):nZ ((a.zip b).reverse++r)=nZ r++b.map Tm.aN:=by
 have:=OT h
 rw [nZ,gC] at this
 rw [nZ,List.reverse_append,gC,cN,this];rfl
theorem wJ:∀ {ts:List Tm},Tm.fits ts→∀ t∈ts,t.fit
 | t :: ts,h,x,hx=>by
  rcases aP.1 hx with rfl | hx
  ·exact h.1
  ·exact wJ h.2 x hx
theorem tb:∀ {ts:List Tm} {t:Tm},t∈ts→t.size≤Tm.bG ts
 | x :: ts,t,h=>by
  simp only [Tm.bG]
  rcases aP.1 h with rfl | h
  ·omega
  ·have:=tb h;omega
theorem QB {m:List Bd} {c:Bd} {v:Int} {x:ae} (hx:x=c.t.aN) (h:m.find? (fun d=>d.v==v)=some c):iM (fj m) (fN m) (.int .i64 v) x=(fj m,fN m):=by
 have h1:=E3 v m 0
 unfold iM
 cases hk:e8 (.int .i64 v) (fj m) 0 with
 | some i =>
  rw [hk] at h1
  obtain ⟨_,d,h2,h3⟩:=h1
  rw [h] at h3
  cases h3
  rw [gE] at h2
  simp only [bu,true_and]
  apply bO
  intro j
  rw [dT]
  split
  ·rename_i e
   subst e
   have bD:i<(fN m).length:=by simp only [fN,ao];exact (aH.1 h2).1
   rw [if_pos bD]
   simp [fN,h2,hx]
  ·rfl
 | none =>
  rw [hk] at h1
  rw [show m.find? (fun d=>d.v==v)=none from h1] at h;cases h
def L7:Option (List Bd)→ae→ai→Prop
 | none,r,_=>r = .bool false
 | some m,r,σ'=>r = .bool true∧σ'=[some (.map (fj m) (fN m) false)]
theorem Zt (g:Option (List Bd)) (a b:List Tm) (hg:gV (a.zip b).reverse []=g) (dX:a≠[]) (CS:a.length=b.length) (hs:Tm.bG a<99999999) (tx:Tm.bG b<99999999) (Bw:Tm.fits a) (zk:Tm.fits b) :
  aq Tryz.prog (.fn 208 [] []) [.ps 2 (a.map Tm.aN), .ps 2 (b.map Tm.aN), .map 0] [some (.map [] [] false)]
   (L7 g):=by
 refine aq.begin (rs:=[.tmp 6]) (m:=79) 1000 Tryz.func208 rfl rfl rfl rfl rfl ?_
 have l9:=qb a
 have vY:=qb b
 have Ng:b≠[]:=fun e=>dX (aY (by rw [CS,e];rfl))
 simp only [go_sem]
 refine aq.sT [] (EZ a dX (by omega)) (cH _ _ _) (by simp [go_sem,bP]) ?_
 rw [jd]
 simp only [zV,zW,z7,xk,z8,up,cz (bP _)]
 refine aK.go 1000 ?_
 simp only [go_sem]
 refine aq.sT [] (EZ b Ng (by omega)) (cH _ _ _) (by simp [go_sem,bP]) ?_
 rw [jd]
 simp only [zV,zW,z7,xk,z8,up,cz (bP _)]
 refine aK.go 1000 ?_
 simp only [go_sem]
 refine aK.gS (ι:={q:List (Tm×Tm)×List ae×List ae×List Bd // gV q.1 q.2.2.2=g∧bx 0 q.2.1∧bx 0 q.2.2.1∧lq q.1≤Tm.bG a∧(∀ x∈q.1,x.1.fit∧x.2.size<99999999)∧(∀ x∈q.2.2.2,x.t.size<99999999)}) 1000
  (fun q=>fD 82 [(2, .map 0),(6, .bool false),(7, .os 2 0 q.1.1.length 2),(8, .os 4 0 q.1.1.length 2)])
  (fun q=>[some (.map (fj q.1.2.2.2) (fN q.1.2.2.2) false),none,some (.row (nY q.1.1++q.1.2.1) 0),none,some (.row (nZ q.1.1++q.1.2.2.1) 0)]) (fun q=>lq q.1.1) ⟨((a.zip b).reverse,[],[],[]),?_⟩ [] ?_ (fun _=>by simp) ?_
 ·refine ⟨hg,trivial,trivial,?_,fun x hx=>?_,fun x hx=>by cases hx⟩
  ·rw [Ir];exact IA a b
  ·have hx:=cX.1 hx
   have yy:=(c_ hx).1
   have EI:=tb (c_ hx).2
   exact ⟨wJ Bw _ yy,by omega⟩
 ·refine iF rfl ?_
  dsimp only
  rw [Oz CS,OT CS,show (a.zip b).reverse.length=a.length by simp [CS]]
  simp only [go_sem,bP,cz (bP _),bn,CS,show fj []=[] from rfl,show fN []=[] from rfl]
 ·rintro ⟨⟨s,j1,j2,m⟩,h1,h2,h3,h4,h5,h6⟩
  simp only at h1 h2 h3 h4 h5 h6
  cases s with
  | nil =>
   rw [gV] at h1
   subst h1
   simp only [go_sem,aR]
   refine aK.go 1000 ?_
   simp only [go_sem]
   rw [fL]
   exact ⟨[some (bE.map (fj m) (fN m) false)],by simp [go_sem],ah _,⟨⟨(iE m).1,(iE m).2⟩,trivial⟩,trivial,rfl,rfl⟩
  | cons x r =>
   obtain ⟨GV,wj⟩:=h5 x (by simp)
   have Dj:∀ y∈r,y.1.fit∧y.2.size<99999999:=fun y hy=>h5 y (by simp [hy])
   have Nv:=LD r
   rw [lq] at h4
   have yr:=zM x.1
   have Eu:=Fi GV
   unfold n8 at Eu
   have rR:IntKind.i64.wrap ((r.length:Int)+1 - 1)=r.length:=by rw [ep (by omega)];omega
   have nG:(0:Int)<r.length+1:=by omega
   have tz:IntKind.i64.wrap (-1 - x.1.head) = -1 - x.1.head:=ep (by omega)
   have hA:nY (x :: r)++j1=nY r++x.1.aN :: j1:=by rw [US];simp
   have hB:nZ (x :: r)++j2=nZ r++x.2.aN :: j2:=by rw [UD];simp
   have MR:(nY r++x.1.aN :: j1).getD r.length .undef=x.1.aN:=by rw [← Ei r];simp [List.getD]
   have MS:(nZ r++x.2.aN :: j2).getD r.length .undef=x.2.aN:=by rw [← Eg r];simp [List.getD]
   have Gr:(nY r++x.1.aN :: j1).length=r.length+1+j1.length:=by simp [Ei];omega
   have Gs:(nZ r++x.2.aN :: j2).length=r.length+1+j2.length:=by simp [Eg];omega
   simp only [go_sem,au,hA,hB,lX,lY,nG,rR]
   refine aK.draw [⟨none,[],[5,6]⟩,⟨none,[],[5,6]⟩,⟨none,[],[5,6]⟩,⟨none,[],[5,6]⟩,⟨none,[],[5,6]⟩,⟨none,[],[5,6]⟩,⟨none,[],[5,6]⟩,⟨none,[],[5,6]⟩,⟨some 5,[5],[6]⟩,⟨some 6,[6],[5]⟩,⟨none,[5],[]⟩,⟨none,[6],[]⟩] 5 7 mixed rfl rfl (by decide) ?_
   simp only [go_sem,dA,Gr,Gs,MR,MS,fq]
   refine ⟨⟨by omega,by omega⟩,by omega,⟨by omega,by omega⟩,by omega,?_⟩
   refine aK.go 1000 ?_
   refine aK.draw [] 7 7 mixed rfl rfl (by decide) ?_
   simp only [go_sem,dA]
   refine ⟨by omega,by omega,?_⟩
   have hl:∀ n,bx n (nY r++x.1.aN :: j1)∧bx n (nZ r++x.2.aN :: j2):=fun n=>⟨rZ (of_eq_true (Ix r)) ⟨dE x.1,ie (av _) h2⟩,rZ (of_eq_true (IC r)) ⟨dE x.2,ie (av _) h3⟩⟩
   by_cases hv : 0≤-1 - x.1.head
   ·rw [gV,if_pos hv] at h1
    have oQ:=J4 m (-1 - x.1.head) (.agg [.int .i64 0, .aU])
    cases hf:m.find? (fun c=>c.v == -1 - x.1.head) with
    | some c =>
     rw [hf] at oQ h1
     simp only at h1 oQ
     have sK:=h6 c (bQ hf)
     refine aK.go 1000 ?_
     simp only [go_sem,tz,hv,y5,oQ,fq]
     refine aq.bU [] (zS c.t x.2 (by omega) (by omega)) (by (try simp only [dc]);exact cH _ _ _) (by simp [go_sem,dE,bP]) ?_;simp only [bL,bZ,bX,if_true];refine aK.go 1000 ?_
     by_cases he:c.t=x.2
     ·rw [if_pos he] at h1
      have ym:=QB (x:=.agg [.int .i64 x.2.head, .ps 2 (x.2.args.map Tm.aN)]) (by rw [he,dc]) hf
      simp only [go_sem,he,y5,ym]
      refine ⟨⟨(r,x.1.aN :: j1,x.2.aN :: j2,m),h1,⟨dE x.1,h2⟩,⟨dE x.2,h3⟩,by simp only;omega,Dj,h6⟩,[],iF rfl ?_,by simp only [lq];omega⟩
      have wW:=hl 0
      simp only [go_sem,iE,cz (iE _).1,cz (iE _).2,cz wW.1,cz wW.2,hl]
     ·rw [if_neg he] at h1
      subst h1
      simp only [go_sem,he]
      refine aK.go 1000 ?_
      simp only [go_sem]
      rw [fL]
      exact ⟨[none],by simp [go_sem],ah _,⟨trivial,trivial⟩,trivial,rfl⟩
    | none =>
     rw [hf] at oQ h1
     simp only at h1 oQ
     have ym:=Kc (l:=m) (b:=⟨-1 - x.1.head,x.2⟩) (x:=.agg [.int .i64 x.2.head, .ps 2 (x.2.args.map Tm.aN)]) (dc _).symm hf
     refine aK.go 1000 ?_
     simp only [go_sem,tz,hv,y5,oQ,fq,ym]
     refine ⟨⟨(r,x.1.aN :: j1,x.2.aN :: j2,m++[⟨-1 - x.1.head,x.2⟩]),h1,⟨dE x.1,h2⟩,⟨dE x.2,h3⟩,by simp only;omega,Dj,fun y hy=>?_⟩,[],iF rfl ?_,by simp only [lq];omega⟩
     ·rcases aX.1 hy with hy | hy
      ·exact h6 y hy
      ·rw [aQ.1 hy];exact wj
     have wW:=hl 0
     simp only [go_sem,iE,cz (iE _).1,cz (iE _).2,cz wW.1,cz wW.2,hl]
   ·rw [gV,if_neg hv] at h1
    by_cases c1:x.1.head=x.2.head
    ·by_cases c2:x.1.args.length=x.2.args.length
     ·rw [if_neg (by simp [c1,c2])] at h1
      have vF:IntKind.i64.wrap (-1 - x.2.head) = -1 - x.2.head:=by rw [← c1];exact tz
      have wg:¬ 0≤-1 - x.2.head:=by rw [← c1];exact hv
      have c3:(x.1.args.length:Int)=x.2.args.length:=by omega
      refine aK.go 1000 ?_
      simp only [go_sem,vF,wg,c1,c3,ao]
      refine aK.draw [.no, .no, .no,⟨some 7,[2,7],[]⟩,⟨none,[],[2,7]⟩,⟨none,[],[2,7]⟩,⟨none,[],[2,7]⟩,⟨some 8,[4,8],[]⟩] 7 9 mixed rfl rfl (by decide) ?_
      have NC:(nY r++x.1.aN :: j1).take r.length=nY r:=by rw [← Ei r,mN]
      have ND:(nZ r++x.2.aN :: j2).take r.length=nZ r:=by rw [← Eg r,mN]
      have Mw:=qb x.1.args
      have NB:=oA x.1
      simp only [go_sem,dA,Gr,Gs,NC,ND,ao]
      refine ⟨⟨by omega,by omega,by omega⟩,⟨by omega,by omega,by omega⟩,?_⟩
      refine aK.go 1000 ?_
      simp only [go_sem]
      have Jd:=Fa x.1 x.2 r
      refine ⟨⟨((x.1.args.zip x.2.args).reverse++r,[],[],m),h1,trivial,trivial,by simp only;omega,fun y hy=>?_,h6⟩,[(2,7),(7,2),(4,8),(8,4)],iF rfl ?_,by simp only [lq];omega⟩
      ·rcases aX.1 hy with hy | hy
       ·have hy:=cX.1 hy
        have a1:=tb (c_ hy).2
        have a2:=oA x.2
        exact ⟨wJ (xm GV) _ (c_ hy).1,by omega⟩
       ·exact Dj y hy
      dsimp only
      rw [TR c2,UT c2,show ((x.1.args.zip x.2.args).reverse++r).length=r.length+x.1.args.length by simp [c2];omega]
      have lA:∀ n,bx n (nY r++x.1.args.map Tm.aN):=fun n=>rZ (of_eq_true (Ix r)) (bP _)
      have lB:∀ n,bx n (nZ r++x.2.args.map Tm.aN):=fun n=>rZ (of_eq_true (IC r)) (bP _)
      have NW:=lA 0
      have NY:=lB 0
      simp only [go_sem,iE,cz (iE _).1,cz (iE _).2,cz NW,cz NY,lA,lB,bn,c2]
     ·rw [if_pos (.inr c2)] at h1
      have vF:IntKind.i64.wrap (-1 - x.2.head) = -1 - x.2.head:=by rw [← c1];exact tz
      have wg:¬ 0≤-1 - x.2.head:=by rw [← c1];exact hv
      have c3:¬ (x.1.args.length:Int)=x.2.args.length:=by omega
      subst h1
      refine aK.go 1000 ?_
      simp only [go_sem,vF,wg,c1,c3,ao]
      refine aK.go 1000 ?_
      simp only [go_sem]
      rw [fL]
      exact ⟨[none],by simp [go_sem],ah _,⟨trivial,trivial⟩,trivial,rfl⟩
    ·rw [if_pos (.inl c1)] at h1
     subst h1
     refine aK.go 1000 ?_
     simp only [go_sem,tz,hv,c1]
     refine aK.go 1000 ?_
     simp only [go_sem]
     rw [fL]
     exact ⟨[none],by simp [go_sem],ah _,⟨trivial,trivial⟩,trivial,rfl⟩
end Go.Proofs
