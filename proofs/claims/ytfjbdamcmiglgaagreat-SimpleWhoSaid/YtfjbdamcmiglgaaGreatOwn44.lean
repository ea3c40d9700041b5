/- Part 44 of my own framework and of the walks of functions: AcsV, Sb, AcsW, Sc, Sd, AcsX, Se, Sf, Sg, Sh, Si, AcsY, AcsZ, Sj, Sk, Sl, Sm, Sn, So, Sp, Sq. -/
import Derived.Test.YtfjbdamcmiglgaaGreatOwn43
import Derived.Lib.Overlaps
import Derived.Sort.Row
import Derived.Sort.Grow
abbrev pM:=@List.append_inj
abbrev j7:=@List.find?_cons
abbrev j_:=@List.find?_eq_none
abbrev mr:=@List.mem_map_of_mem
abbrev bI:=@List.mem_of_find?_eq_some
abbrev cO:=@List.mem_reverse
abbrev cW:=@List.of_mem_zip
abbrev gE:=@List.reverse_reverse
abbrev cZ:=@List.set_cons_succ
abbrev de:=@List.set_cons_zero
abbrev bV:=@List.take_append_of_le_length
abbrev e7:=@List.zip_cons_cons
abbrev jv:=@Nat.lt_or_ge
set_option linter.unusedVariables false
set_option linter.unusedSectionVars false
set_option linter.unusedSimpArgs false
namespace Go.c8
open Go
section
variable {P:Program} {X:Nat→Nat→Prop} {base:Nat} {σ:ai} {β β':Env} {w w':World}
theorem NZ {M:Nat→Nat→Prop} {v:Value} {s:ae} {b off n sz:Nat} (h:bR w M β v s) (hs:s = .os b off n sz∨∃ c,s = .oc b off n c sz) (hn : 0<n):∃ L c,β b=some L∧L.sz=sz∧n≤c∧off+c≤L.n∧v = .slice (some ⟨L.g,L.o+off*L.sz,none⟩) n c:=by
 rcases hs with rfl | ⟨c,rfl⟩
 ·rcases h.qS with ⟨rfl,_⟩ | ⟨L,c,hL,jt,h1,h2,rfl⟩
  ·exact absurd hn (iF _)
  ·exact ⟨L,c,hL,jt,h1,h2,rfl⟩
 ·rcases h.sL with ⟨rfl,_⟩ | ⟨L,hL,jt,h1,h2,rfl⟩
  ·exact absurd hn (iF _)
  ·exact ⟨L,_,hL,jt,h1,h2,rfl⟩
theorem aq.rL {g : FuncId} {fn : Func} (hf : P.funcs[g]? = some fn) (eA : (fn.name == "runtime.NumGoroutine") = false) (hb : fn.body.isNone = true) (hn : Extern.findNext fn = none) {tS tR e : TypeId}
  (he:Extern.find fn=some (Extern.SlicesOverlaps.overlaps #[tS,tS] #[tR])) (ht:P.underlying tS=some (.slice e)) {l:eF} (hl:aC P e=some l) {s t:ae} {b1 b2 o1 o2 n1 n2 sz:Nat}
  (hs:s = .os b1 o1 n1 sz∨∃ c,s = .oc b1 o1 n1 c sz) (wS:t = .os b2 o2 n2 sz∨∃ c,t = .oc b2 o2 n2 c sz) (hz : 0<sz) (h1 : 0<n1) (h2 : 0<n2) {es1 es2:List ae} {fz1 fz2:Nat} (qA:bG σ b1=some (.row es1 fz1)) (uH:bG σ b2=some (.row es2 fz2)) (eg:b1≠b2)
  {K:ae→ai→Prop} (hk:K (.bool false) σ):aq P (.fn g [] []) [s,t] σ K:=by
 refine aq.sh ?_
 intro X base β w vs IL UQ h3 fr cs h4
 obtain ⟨x,y,rfl⟩:∃ x y,vs = #[x,y]:=by
  simp at UQ
  match vs,UQ with
  | ⟨[x,y]⟩,_=>exact ⟨x,y,rfl⟩
 have hx:=h3 0 (by simp)
 have hy:=h3 1 (by simp)
 simp only [bh,bn,bf,bB] at hx hy
 have ex:(#[x,y]:Array Value).getD 0 undef=x:=rfl
 have ey:(#[x,y]:Array Value).getD 1 undef=y:=rfl
 rw [ex] at hx
 rw [ey] at hy
 obtain ⟨L1,c1,k1,k2,k3,k4,rfl⟩:=NZ hx hs h1
 obtain ⟨L2,c2,q1,q2,q3,q4,rfl⟩:=NZ hy wS h2
 obtain ⟨AW,m1,m2,m3,d1,e1,m4,m5,m6,m7⟩:=IL.cd b1 _ (jU qA)
 obtain rfl:=aM (m1.symm.trans k1)
 obtain ⟨yU,u1,u2,u3,d2,e2,u4,u5,u6,u7⟩:=IL.cd b2 _ (jU uH)
 obtain rfl:=aM (u1.symm.trans q1)
 have MF:AW.g≠yU.g:=fun e=>eg (IL.inj b1 b2 _ _ AW yU (jU qA) (jU uH) k1 q1 e)
 obtain ⟨ti,_,z,qk,_⟩:=pO hl
 have GJ : 0<d2.size:=by
  have : 1*1≤yU.n*yU.sz:=Nat.mul_le_mul (by omega) (by omega)
  omega
 have GF:=Lib.run_overlaps_apart (P:=P) w tS tR e ht ti.size (fun w=>tn qk) ⟨AW.g,AW.o+o1*AW.sz,none⟩ ⟨yU.g,yU.o+o2*yU.sz,none⟩ n1 c1 n2 c2 MF e1 e2 d1.size d2.size
  (by simp only [World.shape?,m4]) (by simp only [World.shape?,u4]) (by omega) (by simp [World.frozen?,m4]) (by simp [World.frozen?,m4])
 have eL:(callFunc g #[.slice (some ⟨AW.g,AW.o+o1*AW.sz,none⟩) n1 c1, .slice (some ⟨yU.g,yU.o+o2*yU.sz,none⟩) n2 c2]).run P w = .ok (.value (.bool false)) w:=by
  rw [run_callFunc_extern hf eA hb hn he,GF];rfl
 refine ⟨_,σ,β, .bool false,w,hk,IL, .bool false,Ext.refl _ _ _ _,ah _,fr.finish (.bool false),cs,w,?_, .refl _ _⟩
 simp only [stepG.apply,if_true,Sem.runT_eq,eL,GStep.bare_after,GStep.bare_go]
theorem Uj {enc:Int→Value} (ts:List Int) (off:Nat) (c:Array Value) (k:Nat):(Sort.putCells enc off ts.toArray c).getD k undef=if off≤k∧k<off+ts.length∧k<c.size then enc (ts.getD (k - off) 0) else c.getD k undef:=by
 simp only [Sort.putCells,aj,Array.getElem?_mapIdx]
 by_cases hk:k<c.size
 ·simp only [aB hk,bu,br,List.size_toArray]
  by_cases h:off≤k∧k<off+ts.length
  ·rw [if_pos h,if_pos ⟨h.1,h.2,hk⟩]
   have h':k - off<ts.length:=by omega
   rw [getElem!_pos ts.toArray _ (by simpa using h')]
   simp [List.getD,h']
  ·rw [if_neg h,if_neg (fun hh=>h ⟨hh.1,hh.2.1⟩)]
 ·simp [Array.getElem?_eq_none (dN hk),hk]
theorem aq.AJ {g : FuncId} {fn : Func} {c : Code} (hf : P.funcs[g]? = some fn) (hb : fn.body = some c) (eA : (fn.name == "runtime.NumGoroutine") = false) {zs ts : List Int} {b : Nat} (vA : bG σ b = some (.row (zs.map (.int .i64)) 0)) (hlen : ts.length = zs.length)
  (h:∀ (w:World) (cd off cap:Nat),Sort.Holds (Value.int .i64) w cd off zs.toArray→cd<w.heap.size→Calls P g #[.slice (some ⟨cd,off,none⟩) zs.length cap] w fun e w'=>e = .returned (.tuple #[])∧∃ n os,w'=Sort.grow (Sort.putRow (Value.int .i64) (Sort.ahead w n) cd off ts.toArray) os)
  (h0:∀ (a:Option Addr) (cap:Nat) (w:World),Calls P g #[.slice a 0 cap] w fun e w'=>e = .returned (.tuple #[])∧w'=w)
  {K:ae→ai→Prop} (hK:K (.dz []) (bZ σ b (.row (ts.map (.int .i64)) 0))):aq P (.fn g [] []) [.os b 0 zs.length 1] σ K:=by
 refine aq.sh ?_
 intro X base β w vs h1 h2 h3 fr cs zg
 have qI : ¬ fn.name = "runtime.NumGoroutine" := by simpa using eA
 obtain ⟨x,rfl⟩:∃ x,vs = #[x]:=by
  simp at h2
  exact pX.1 h2
 have wK:=h3 0 (by simp)
 simp only [bh,bn,bf] at wK
 have hx:(#[x]:Array Value).getD 0 undef=x:=rfl
 rw [hx] at wK
 have vp:∀ (w':World) (M':Nat→Nat→Prop),bR w' M' β (.tuple #[]) (.dz []):=fun w' M'=>.dz rfl fun k hk=>by simp at hk
 have ki:∀ us,(callFunc g us).run P w = .ok (.enter g us) w:=fun us=>by simp [callFunc,hf,qI,hb]
 rcases wK.qS with ⟨hz,a,L,hL,jt,rfl⟩ | ⟨L,cap,hL,jt,jd,xW,rfl⟩
 ·have Di:zs=[]:=aY hz
  have ru:ts=[]:=aY (by omega)
  subst Di;subst ru
  obtain ⟨e,w',Bk,⟨rfl,rfl⟩,hc,Bs,hl⟩:=h0 a 0 w (fr :: cs)
  rw [Kc vA] at hK
  refine ⟨_,σ,β, .tuple #[],w',hK,h1,vp _ _,Ext.refl _ _ _ _,ah _,Frame.enter P g _ .normal,fr :: cs,w',?_,Steps.trans hc (.one (step_leave_returned hl))⟩
  simp only [stepG.apply,if_true,Sem.runT_eq,ki,GStep.bare_after,GStep.bare_go]
  split
  ·rename_i d s a k e;exact absurd e (zg _ _ _ _ _)
  ·rfl
 ·obtain ⟨L',q1,q2,q3,cc,ec,q4,q5,q6,q7,q8⟩:=h1.cd b _ (jU vA)
  obtain rfl:=aM (q1.symm.trans hL)
  have hlm:(zs.map (ae.int .i64)).length=zs.length:=by simp
  have fF:L'.n*L'.sz=L'.n:=by rw [jt,Nat.mul_one]
  have m8:∀ j,j<zs.length→cc.getD (L'.o+j) undef = .int .i64 (zs.getD j 0):=fun j hj=>by
   have:=q8 j 0 (by omega) (by omega)
   rw [jt,Nat.mul_one,cg] at this
   rw [show (zs.map (ae.int .i64)).getD j ae.undef = .int .i64 (zs.getD j 0) by simp [List.getD,hj]] at this
   exact this.dZ
  have Ge:L'.g<w.heap.size:=(aL.1 q4).1
  have hH:Sort.Holds (Value.int .i64) w L'.g (L'.o+0*L'.sz) zs.toArray:=fun j hj=>by
   have rr:j<zs.length:=by simpa using hj
   rw [pb,cg]
   refine ⟨?_,by simp [World.frozen?,q4]⟩
   rw [cell_of_row _ _ _ _ _ _ q4,tf (by omega),m8 j rr,getElem!_pos zs.toArray j (by simpa using rr)]
   simp [List.getD,rr]
  obtain ⟨e,w',Bk,⟨rfl,n,os,rfl⟩,hc,Bs,hl⟩:=h w L'.g (L'.o+0*L'.sz) cap hH Ge (fr :: cs)
  rw [pb,cg] at hc hl
  have je:∀ k,k<w.heap.size→k≠L'.g→(Sort.grow (Sort.putRow (Value.int .i64) (Sort.ahead w n) L'.g L'.o ts.toArray) os).heap[k]? = w.heap[k]?:=fun k hk eg=>by
   rw [Sort.heap_grow_old _ _ (by rw [Sort.size_putRow];exact hk)]
   simp only [Sort.putRow,Sort.mapBlock,Sort.ahead]
   rw [iH,if_neg (fY eg)]
  have oo:(Sort.grow (Sort.putRow (Value.int .i64) (Sort.ahead w n) L'.g L'.o ts.toArray) os).heap[L'.g]? = some (.cells (Sort.putCells (Value.int .i64) L'.o ts.toArray cc) ec (0,0)):=by
   rw [Sort.heap_grow_old _ _ (by rw [Sort.size_putRow];exact Ge)]
   simp only [Sort.putRow,Sort.mapBlock,Sort.ahead]
   rw [iH,if_pos rfl,q4];rfl
  have F4:(Sort.putCells (Value.int .i64) L'.o ts.toArray cc).size=cc.size:=by simp [Sort.putCells]
  have nC:∀ o',L'.o≤o'→iO σ β L'.g o':=fun o' I5=>⟨b,_,L',jU vA,hL,rfl,by simp only [bE.mut];omega⟩
  obtain ⟨k1,k2,k3,k4⟩:=D1 h1 b L' (.row (ts.map (.int .i64)) 0) (σ':=bZ σ b (.row (ts.map (.int .i64)) 0)) (β':=β) (w':=Sort.grow (Sort.putRow (Value.int .i64) (Sort.ahead w n) L'.g L'.o ts.toArray) os) (DQ _ _ _)
   (fun c x hc hx=>⟨zD _ _ _ hc hx,fun Lc CD e=>hc (h1.inj c b x _ Lc L' (zD _ _ _ hc hx) (jU vA) CD hL e)⟩) (A0 _ _ _) hL (fun _ _=>rfl) (.inr hL)
   rfl rfl rfl (by simp) je
   (fun off v gK sC=>by
    have aZ:off<L'.o:=ju fun hle=>sC (nC off hle)
    rw [cell_of_row _ _ _ _ _ _ oo]
    rw [cell_of_row _ _ _ _ _ _ q4] at gK
    obtain ⟨bD,hv⟩:=aL.1 gK
    rw [tf (by rw [F4];exact bD),Uj,if_neg (by omega),← tf bD];exact gK)
   (fun _ sC=>absurd (nC _ (ah _)) (sC _)) (fun off hm=>.inl (nC off (by simp only [bE.mut] at hm;omega))) q3 q2
  have hrel:=k4 ⟨_,ec,oo,by rw [F4];exact q5,by simp only [ak] at q6 ⊢;omega,fun i hi=>by
    simp only [ak] at hi
    rw [show (ts.map (ae.int .i64)).getD i ae.undef = .int .i64 (ts.getD i 0) by simp [List.getD,hi],jt];rfl,fun i j hi hj=>by
    simp only [ak] at hi
    obtain rfl:j=0:=by omega
    rw [show (ts.map (ae.int .i64)).getD i ae.undef = .int .i64 (ts.getD i 0) by simp [List.getD,hi],jt,Nat.mul_one,cg,Uj]
    simp only [ak] at q6
    rw [if_pos ⟨by omega,by omega,by omega⟩,show L'.o+i - L'.o=i by omega]
    exact .int _ _⟩
  refine ⟨_,_,β, .tuple #[],_,hK,hrel,vp _ _,⟨k1.os,k1.tape,k1.output,k1.size,k1.cell,k1.block,k1.iB,fun _ _=>rfl⟩,A0 _ _ _,Frame.enter P g _ .normal,fr :: cs,w,?_,Steps.trans hc (.one (step_leave_returned hl))⟩
  have ho:L'.o+0*L'.sz=L'.o:=by omega
  simp only [bh,bn,ho]
  simp only [stepG.apply,if_true,Sem.runT_eq,ki,GStep.bare_after,GStep.bare_go]
  split
  ·rename_i d s a k e;exact absurd e (zg _ _ _ _ _)
  ·rfl
end
end Go.c8
namespace Go.Proofs
open Go Go.c8
attribute [local go_sem] Nat.reduceAdd Nat.reduceSub Nat.reduceMul Nat.reduceLeDiff Nat.reduceEqDiff Nat.reduceBEq Nat.reduceLT Nat.le_refl Int.natCast_zero Nat.sub_zero List.length_map Int.toNat_natCast Int.natCast_one Int.reduceEq Int.reduceLT Int.reduceLE Int.reduceNe Int.sub_zero Int.zero_add Int.toNat_one
mutual
def Tm.decEq:(a b:Tm)→Decidable (a=b)
 | .mk h ts, .mk k us=>match Int.instDecidableEq h k,Tm.xH ts us with
  | .isTrue e1, .isTrue e2=>.isTrue (by rw [e1,e2])
  | .isFalse e1,_=>.isFalse fun e=>e1 (Tm.mk.inj e).1
  | _, .isFalse e2=>.isFalse fun e=>e2 (Tm.mk.inj e).2
def Tm.xH:(a b:List Tm)→Decidable (a=b)
 | [],[]=>.isTrue rfl
 | [],_ :: _=>.isFalse fun e=>by cases e
 | _ :: _,[]=>.isFalse fun e=>by cases e
 | a :: l,b :: m=>match Tm.decEq a b,Tm.xH l m with
  | .isTrue e1, .isTrue e2=>.isTrue (by rw [e1,e2])
  | .isFalse e1,_=>.isFalse fun e=>e1 (jT e).1
  | _, .isFalse e2=>.isFalse fun e=>e2 (jT e).2
end
instance:DecidableEq Tm:=Tm.decEq
theorem Pd (t:Tm):t = .mk t.head t.args:=by cases t;rfl
theorem ov (t:Tm):t.size=1+Tm.bF t.args:=by cases t;simp [Tm.size,Tm.args]
theorem RM {l:List Tm} {x:Tm}:((l++[x]).map Tm.aO).getD l.length .undef=x.aO:=by simp [List.getD]
theorem SY {l:List Tm} {x:Tm}:((l++[x]).map Tm.aO).take l.length=l.map Tm.aO:=by simp
theorem Yt4 {bs:Nat} {z:List ae} {k:KA} (hb:bs≤65536) (hz:z.length=2) (xs:List Tm):eI ⟨2,true,bs,z,k⟩ (xs.map Tm.aO):=by
 refine ⟨fun x hx=>?_,ef,hb,hz⟩
 obtain ⟨t,_,rfl⟩:=cn.1 hx
 rw [ft];exact ⟨rfl,rfl⟩
@[go_sem] theorem B9 (xs:List Tm):eI ⟨2,true,32,[.int .i64 0, .aU], .struct⟩ (xs.map Tm.aO)=True:=eq_true (Yt4 (by decide) rfl xs)
theorem zL (a b:Tm) (ha:a.size<1000000000) (hb:b.size<1000000000):aJ Tryz.prog 103 [a.aO,b.aO] (.bool (decide (a=b))):=by
 refine aJ.begin (rs:=[.tmp 4]) (m:=54) 1000 Tryz.func103 rfl rfl rfl (by decide) trivial ?_
 simp only [go_sem,dc]
 refine aK.draw [⟨none,[],[3]⟩,⟨some 2,[2],[3]⟩,⟨none,[],[2]⟩,⟨some 3,[3],[2]⟩,⟨none,[],[3]⟩] 2 4 mixed rfl rfl (by decide) ?_
 simp only [go_sem,dx,ah,Nat.reduceLT]
 refine aK.go 1000 ?_
 simp only [go_sem]
 refine aK.h_ (ι:={p:List Tm×List Tm // p.1.length=p.2.length∧(p.1=p.2↔a=b)∧Tm.bF p.1≤a.size∧Tm.bF p.2≤b.size}) 1000
  (fun p=>fG 56 [(4, .bool false),(5, .os 0 0 p.1.1.length 2),(6, .os 1 0 p.1.2.length 2)]) (fun p=>[some (.row (p.1.1.map Tm.aO) 0),some (.row (p.1.2.map Tm.aO) 0)]) (fun p=>Tm.bF p.1.1)
  ⟨([a],[b]),by simp [Tm.bF]⟩ [(0,2),(1,3)] ?_ (fun _=>by simp) ?_
 ·refine iP rfl ?_
  simp only [go_sem,bQ,cD,aF,aS,dc]
 ·rintro ⟨⟨L,R⟩,hlen,wO,rY,zm⟩
  simp only at hlen wO rY zm
  rcases List.eq_nil_or_concat L with rfl | ⟨l,x,rfl⟩
  ·obtain rfl:R=[]:=aY hlen.symm
   simp only [go_sem,cI,lL]
   refine aK.go 1000 ?_
   simp only [go_sem]
   simp [wO.1 rfl]
  ·rcases List.eq_nil_or_concat R with rfl | ⟨r,y,rfl⟩
   ·simp at hlen
   simp only [List.concat_eq_append,ay,ax,aR,bm,Nat.add_right_cancel_iff] at hlen
   simp only [List.concat_eq_append,DF,Tm.bF,cg] at wO rY zm ⊢
   have hll:=p5 l
   have Nf:=p5 r
   have nE:(0:Int)<((l.length+1:Nat):Int):=by omega
   have hw:IntKind.i64.wrap (((l.length+1:Nat):Int) - 1)=(l.length:Int):=by rw [ek (by omega)];omega
   simp only [go_sem,ay,nE,hw]
   refine aK.draw [⟨none,[],[2,3]⟩,⟨none,[],[2,3]⟩,⟨none,[],[2,3]⟩,⟨none,[],[2,3]⟩,⟨none,[],[2,3]⟩,⟨none,[],[2,3]⟩,⟨none,[],[2,3]⟩,⟨none,[],[2,3]⟩,⟨some 2,[2],[3]⟩,⟨some 3,[3],[2]⟩,⟨none,[2],[]⟩,⟨none,[3],[]⟩] 2 4 mixed rfl rfl (by decide) ?_
   have Nk:((l++[x]).map Tm.aO).getD r.length .undef=x.aO:=by rw [← hlen];exact RM
   have sZ:((l++[x]).map Tm.aO).length=r.length+1:=by simp [hlen]
   have Ao:((r++[y]).map Tm.aO).length=r.length+1:=by simp
   have Vq:((l++[x]).map Tm.aO).take r.length=l.map Tm.aO:=by rw [← hlen];exact SY
   simp only [go_sem,dx,hlen,b_,RM,Nk,sZ,Ao,ft]
   (repeat ((with_reducible refine And.intro ?_ ?_); ·omega))
   refine aK.go 1000 ?_
   simp only [go_sem]
   refine aK.draw [] 4 4 mixed rfl rfl (by decide) ?_
   simp only [go_sem,dx,b_]
   (repeat ((with_reducible refine And.intro ?_ ?_); ·omega))
   refine aK.go 1000 ?_
   have oS:Tm.size x=1+Tm.bF x.args:=ov x
   have Vp:Tm.size y=1+Tm.bF y.args:=ov y
   have hxa:=p5 x.args
   have v8:=p5 y.args
   by_cases c1:x.head=y.head
   ·by_cases c2:x.args.length=y.args.length
    ·have FH:(x.args.length:Int)=y.args.length:=by omega
     simp only [go_sem,c1,FH,ak]
     refine aK.draw [.no, .no, .no,⟨some 4,[0,4],[]⟩,⟨none,[],[0,4]⟩,⟨none,[],[0,4]⟩,⟨none,[],[0,4]⟩,⟨some 5,[1,5],[]⟩] 4 6 mixed rfl rfl (by decide) ?_
     simp only [go_sem,dx,ay]
     (repeat ((with_reducible refine And.intro ?_ ?_); ·omega))
     refine aK.go 1000 ?_
     rw [Vq,SY,← cL,← cL]
     refine ⟨⟨(l++x.args,r++y.args),⟨by simp [hlen,c2],?_,?_,?_⟩⟩,[(0,4),(1,5)],iP rfl ?_,?_⟩
     ·simp only
      rw [← wO]
      constructor
      ·intro e
       obtain ⟨e1,e2⟩:=pM e hlen
       rw [e1,Pd x,Pd y,c1,e2]
      ·intro e
       obtain ⟨e1,e2⟩:=pM e hlen
       simp only [gA,and_true] at e2
       rw [e1,e2]
     ·simp only [DF];omega
     ·simp only [DF];omega
     ·simp only [go_sem,ay,bQ,cD (bQ _),hlen]
     ·simp only [DF,Tm.bF];omega
    ·have FH:¬ (x.args.length:Int)=y.args.length:=by omega
     have eg:¬ a=b:=by
      rw [← wO]
      intro e
      obtain ⟨e1,e2⟩:=pM e hlen
      simp only [gA,and_true] at e2
      exact c2 (by rw [e2])
     simp only [go_sem,c1,FH]
     refine aK.go 1000 ?_
     simp only [go_sem]
     simp [eg]
   ·have eg:¬ a=b:=by
     rw [← wO]
     intro e
     obtain ⟨e1,e2⟩:=pM e hlen
     simp only [gA,and_true] at e2
     exact c1 (by rw [e2])
    simp only [go_sem,c1]
    refine aK.go 1000 ?_
    simp only [go_sem]
    simp [eg]
end Go.Proofs
namespace Go.c8
open Go
def jF (P:Program) (g:FuncId) (args:List ae) (r0:ae) (uL:ai):Prop:=bS P g args [] (fun r σ'=>r=r0∧σ' = uL)∧r0.low uL.length∧bt uL.length uL
def up (n b:Nat):Nat:=b+n
def AP (n:Nat) (τ:ai):ai:=τ.map (Option.map (dE (up n)))
section
variable {P:Program} {X:Nat→Nat→Prop} {base:Nat} {σ:ai} {β β':Env} {w w':World}
theorem aq.tree {g:FuncId} {first captured args args':List ae} {K:ae→ai→Prop} (bs:List Nat) (hp:kB (among bs) σ args' (first++args++captured))
  (h:bS P g args' (fM (among bs) 0 σ) K):aq P (.fn g first captured) args σ K:=by
 refine aq.sh ?_
 intro X base β w vs h1 h2 h3 fr cs h4
 have nS:=zJ (among bs) σ
 generalize yw:fM (among bs) 0 σ = kW at *
 have hf:=nS.oi
 have xj:=h1.oi hf
 obtain ⟨e1,e2⟩:=tv xj nS args' hp
 have e3:∀ k,k<args'.length→bR w (MT X kW β) β (vs.getD k undef) (args'.getD k .undef):=fun k er=>(e2 k er).1 _ ((h3 k (by omega)).mono (A7 hf) (fun _ _ h=>h))
 obtain ⟨r',σ',β',v,w',g0,g1,g2,g3,g4,g5⟩:=h X base β w vs xj (by omega) e3 fr cs h4
 refine ⟨r',σ',β',v,w',g0,g1,g2,⟨g3.os,g3.tape,g3.output,g3.size,fun g o v hc hn=>g3.cell g o v hc fun hm=>hn (hm.oi hf),fun g hg hn=>g3.block g hg fun o hm=>hn o (hm.oi hf),fun g o hm=>(g3.iB g o hm).imp (fun h=>h.oi hf) id,fun b hb=>g3.env b (by rw [hf.len];exact hb)⟩,by rw [hf.len] at g4;exact g4,g5⟩
theorem bS.v {F:Frame→List Frame→Sem Next→World→Value→World→Prop} {g:FuncId} {args:List ae} {K:ae→ai→Prop} (h:gQ P F g args σ K):dp P F (.fn g [] []) args σ K :=
 aq.sh (by simpa using h)
theorem dp.c {F:Frame→List Frame→Sem Next→World→Value→World→Prop} {g:FuncId} {args:List ae} {K:ae→ai→Prop} (h:dp P F (.fn g [] []) args σ K):gQ P F g args σ K:=by
 intro X base β w vs h1 h2 h3 fr cs h4
 obtain ⟨r,σ',β',v,w',q,g1,g2,g3,g4,g5⟩:=h X base β w (.func (.func g) #[] #[]) vs h1 (.fn rfl rfl (fun k hk=>by simp at hk) fun k hk=>by simp at hk) h2 h3 fr cs h4
 refine ⟨r,σ',β',v,w',q,g1,g2,g3,g4,?_⟩
 have:(do let d ← Deferred.ofValue (.func (.func g) #[] #[]) vs;invoke d.target d.args:Sem Next)=callFunc g vs:=by
  show callFunc g (#[]++vs++#[])=callFunc g vs
  simp
 rw [← this];exact g5
theorem PN (n:Nat):om 0 n=up n:=funext fun b=>by simp [om,up]
theorem jF.at {g:FuncId} {args:List ae} {r0:ae} {uL:ai} (hc:jF P g args r0 uL) (hl:bx 0 args) {K:ae→ai→Prop} (hk:K (dG (up σ.length) r0) (σ++AP σ.length uL)):bS P g args σ K:=by
 refine dp.c ?_
 have:=aq.BQ (P:=P) (σ:=[]) (τ:=σ) (f:=.fn g [] []) (args:=args) (K:=K) ⟨trivial,trivial⟩ hl trivial ((bS.v hc.1).mono ?_)
 ·simpa using this
 rintro r σ' ⟨rfl,rfl⟩
 refine ⟨σ',fx _,av _,hc.2.2,hc.2.1,?_⟩
 have e:lW ([]:ai).length σ.length σ σ' = σ++AP σ.length σ':=by
  simp [lW,PN,AP]
 rw [e]
 have e2:om ([]:ai).length σ.length=up σ.length:=PN _
 rw [e2];exact hk
theorem aq.sI {g:FuncId} {first captured args args':List ae} {K:ae→ai→Prop} {r0:ae} {uL:ai} (bs:List Nat) (hc:jF P g args' r0 uL) (hp:kB (among bs) σ args' (first++args++captured)) (hl:bx 0 args')
  (hk:K (dG (up σ.length) r0) (fM (among bs) 0 σ++AP σ.length uL)):aq P (.fn g first captured) args σ K:=by
 refine aq.tree bs hp (hc.at hl ?_)
 rw [HY];exact hk
theorem jF.begin {g:FuncId} {fn:Func} {c:Code} {args:List ae} {r0:ae} {uL:ai} {m:Nat} {rs:List ResultVar} (n:Nat) (hf:P.funcs[g]? = some fn) (hb:fn.body=some c) (hr:fn.results.toList=rs) (hm:fn.ntmps - args.length=m)
  (eA : (fn.name == "runtime.NumGoroutine") = false) (h1 : r0.low uL.length) (h2 : bt uL.length uL)
  (h:dT P ⟨0,none⟩ (qf P rs (mz (fun r σ'=>r=r0∧σ' = uL) 0)) n [.code c] .normal (args++List.replicate m .undef) []):jF P g args r0 uL :=
 ⟨bS.n9 n hf hb hr hm eA h,h1,h2⟩
theorem zU {n:Nat}:AP n []=[]:=rfl
theorem zO {n:Nat} {τ:ai}:AP n (none :: τ)=none :: AP n τ:=rfl
theorem zQ {n:Nat} {b:bE} {τ:ai}:AP n (some b :: τ)=some (dE (up n) b) :: AP n τ:=rfl
theorem zW {π:Nat→Nat} {b o n s:Nat}:dG π (.os b o n s) = .os (π b) o n s:=rfl
theorem w_ {π:Nat→Nat} {es:List ae} {fz:Nat}:dE π (.row es fz) = .row (dU π es) fz:=rfl
end
end Go.c8
namespace Go.Proofs
open Go Go.c8
attribute [local go_sem] Nat.reduceAdd Nat.reduceSub Nat.reduceMul Nat.reduceLeDiff Nat.reduceEqDiff Nat.reduceBEq Nat.reduceLT Nat.le_refl Int.natCast_zero Nat.sub_zero List.length_map Int.toNat_natCast Int.natCast_one Int.reduceEq Int.reduceLT Int.reduceLE Int.reduceNe Int.sub_zero Int.zero_add Int.toNat_one
def cX (l:List (List Li)):List ae:=l.map fun c=>.ps 5 (lits c)
theorem mH (l:List (List Li)):(cX l).length=l.length:=by simp [cX]
theorem fe {n:Nat} (l:List (List Li)):bx n (cX l):=uB fun c _=>cr c
theorem y5 {l:List (List Li)} {i:Nat} (h:i<l.length):(cX l).getD i .undef = .ps 5 (lits l[i]):=by simp [cX,List.getD,h]
@[go_sem] theorem LF (l:List Li):eI ⟨5,true,72,[.bool false, .int .i64 0, .aU, .int .i64 0, .aU], .struct⟩ (lits l)=True:=eq_true (by
 refine ⟨fun x hx=>?_,by decide,by decide,rfl⟩
 obtain ⟨t,_,rfl⟩:=cn.1 hx
 rw [ky];exact ⟨rfl,rfl⟩)
@[go_sem] theorem Yso (l:List (List Li)):eI ⟨1,false,24,[.aU], .slice⟩ (cX l)=True:=eq_true (by
 refine ⟨fun x hx=>?_,by decide,by decide,rfl⟩
 obtain ⟨t,_,rfl⟩:=cn.1 hx
 exact ⟨rfl,rfl⟩)
@[go_sem] theorem Ynv (l:List Int):eI ⟨1,false,8,[.int .i64 0], .int .i64⟩ (ints l)=True:=eq_true (by
 refine ⟨fun x hx=>?_,by decide,by decide,rfl⟩
 obtain ⟨t,_,rfl⟩:=cn.1 hx
 exact ⟨rfl,rfl⟩)
theorem ER (l:List Tm) (h:l≠[]) (hl:l.length≤1000000000):jF Tryz.prog 200 [.ps 2 (l.map Tm.aO)] (.os 1 0 l.length 2) [none,some (.row (l.map Tm.aO) 0)]:=by
 have h0:¬ l.length=0:=fun e=>h (aY e)
 refine jF.begin (rs:=[.tmp 2]) (m:=7) 1000 Tryz.func200 rfl rfl rfl rfl (by simp [go_sem]) (by simp [go_sem,bQ]) ?_
 simp only [go_sem,ak,h0]
 (repeat ((with_reducible refine And.intro ?_ ?_); ·omega))
 rw [fL]
 exact ⟨_,fx _,av _,by simp [go_sem,bQ],by simp [go_sem],by simp,rfl⟩
theorem Zuo:bS Tryz.prog 200 [.ps 2 []] [] (fun r σ'=>r = .aU∧σ'=[]∨r = .os 1 0 0 2∧σ'=[none,some (.row [] 0)]):=by
 refine bS.n9 (rs:=[.tmp 2]) (m:=7) 1000 Tryz.func200 rfl rfl rfl rfl ?_
 simp only [go_sem]
 refine ⟨?_,by simp [eI],?_⟩
 ·rw [fL];exact ⟨[],fx _,ah _,trivial,trivial, .inl ⟨rfl,rfl⟩⟩
 ·rw [fL];exact ⟨_,fx _,av _,by simp [go_sem],by simp [go_sem], .inr ⟨rfl,rfl⟩⟩
theorem Hs (l:List Li) (h:l≠[]) (hl:l.length≤1000000000):jF Tryz.prog 72 [.ps 5 (lits l)] (.os 1 0 l.length 5) [none,some (.row (lits l) 0)]:=by
 have h0:¬ l.length=0:=fun e=>h (aY e)
 refine jF.begin (rs:=[.tmp 2]) (m:=7) 1000 Tryz.func72 rfl rfl rfl rfl (by simp [go_sem]) (by simp [go_sem,cr]) ?_
 simp only [go_sem,fP,h0]
 (repeat ((with_reducible refine And.intro ?_ ?_); ·omega))
 rw [fL]
 exact ⟨_,fx _,av _,by simp [go_sem,cr],by simp [go_sem],by simp,rfl⟩
theorem Q5 (l:List (List Li)) (h:l≠[]) (hl:l.length≤1000000000):jF Tryz.prog 27 [.ps 1 (cX l)] (.os 1 0 l.length 1) [none,some (.row (cX l) 0)]:=by
 have h0:¬ l.length=0:=fun e=>h (aY e)
 refine jF.begin (rs:=[.tmp 2]) (m:=7) 1000 Tryz.func27 rfl rfl rfl rfl (by simp [go_sem]) (by simp [go_sem,fe]) ?_
 simp only [go_sem,mH,h0]
 (repeat ((with_reducible refine And.intro ?_ ?_); ·omega))
 rw [fL]
 exact ⟨_,fx _,av _,by simp [go_sem,fe],by simp [go_sem],by simp,rfl⟩
theorem Qf:bS Tryz.prog 27 [.ps 1 []] [] (fun r σ'=>r = .aU∧σ'=[]∨r = .os 1 0 0 1∧σ'=[none,some (.row [] 0)]):=by
 refine bS.n9 (rs:=[.tmp 2]) (m:=7) 1000 Tryz.func27 rfl rfl rfl rfl ?_
 simp only [go_sem]
 refine ⟨?_,by simp [eI],?_⟩
 ·rw [fL];exact ⟨[],fx _,ah _,trivial,trivial, .inl ⟨rfl,rfl⟩⟩
 ·rw [fL];exact ⟨_,fx _,av _,by simp [go_sem],by simp [go_sem], .inr ⟨rfl,rfl⟩⟩
theorem Ztk (l:List Int) (h:l≠[]) (hl:l.length≤1000000000):jF Tryz.prog 207 [.ps 1 (ints l)] (.os 1 0 l.length 1) [none,some (.row (ints l) 0)]:=by
 have h0:¬ l.length=0:=fun e=>h (aY e)
 refine jF.begin (rs:=[.tmp 2]) (m:=7) 1000 Tryz.func207 rfl rfl rfl rfl (by simp [go_sem]) (by simp [go_sem,du]) ?_
 simp only [go_sem,lH,h0]
 (repeat ((with_reducible refine And.intro ?_ ?_); ·omega))
 rw [fL]
 exact ⟨_,fx _,av _,by simp [go_sem,du],by simp [go_sem],by simp,rfl⟩
theorem Zpz:bS Tryz.prog 207 [.ps 1 []] [] (fun r σ'=>r = .aU∧σ'=[]∨r = .os 1 0 0 1∧σ'=[none,some (.row [] 0)]):=by
 refine bS.n9 (rs:=[.tmp 2]) (m:=7) 1000 Tryz.func207 rfl rfl rfl rfl ?_
 simp only [go_sem]
 refine ⟨?_,by simp [eI],?_⟩
 ·rw [fL];exact ⟨[],fx _,ah _,trivial,trivial, .inl ⟨rfl,rfl⟩⟩
 ·rw [fL];exact ⟨_,fx _,av _,by simp [go_sem],by simp [go_sem], .inr ⟨rfl,rfl⟩⟩
theorem zR {σ:ai} {b:Nat} {x:bE} (h:bG σ b=some x):b < σ.length:=(aI.1 (jU h)).1
theorem V7 (σ:ai) (c:ae) (p:Li→Bool) (l:List Li) (hl:l.length<2 ^ 62) (hs:bt σ.length σ) (hc:c.low σ.length)
  (hp:∀ (i:Nat) (h:i<l.length),aq Tryz.prog c [l[i].aO] σ (fun r σ'=>r = .bool (p l[i])∧σ' = σ)) :
  aq Tryz.prog (.fn 101 [] []) [.ps 5 (lits l),c] σ (fun r σ'=>r = .int .i64 (dF p l 0)∧σ' = σ):=by
 refine aq.begin (rs:=[.tmp 4]) (m:=17) 1000 Tryz.func101 rfl rfl rfl rfl rfl ?_
 simp only [go_sem,fP]
 refine aK.c_ (ι:={i:Nat // i≤l.length∧dF p (l.drop i) i=dF p l 0}) 1000 (fun i=>fG 19 [(0, .ps 5 (lits l)),(1,c),(7, .int .i64 l.length),(8, .int .i64 i.1)]) (fun _=>σ) (fun i=>l.length - i.1) ⟨0,by simp⟩ ?_ (fun _=>ah _) ?_
 ·simp only [go_sem,cr,fP,hc,hs]
  exact fx σ
 ·rintro ⟨i,hi,aP⟩
  by_cases bD:(i:Int)<l.length
  ·have aZ:i<l.length:=by omega
   have hd:dF p (l.drop i) i=if p l[i] then (i:Int) else dF p (l.drop (i+1)) ((i:Int)+1):=by
    rw [ao aZ];rfl
   simp only [go_sem,bD,fP,tu aZ,ky]
   (repeat ((with_reducible refine And.intro ?_ ?_); ·omega))
   refine (hp i aZ).mono ?_
   rintro r σ' ⟨rfl,rfl⟩
   refine aK.go 1000 ?_
   cases e:p l[i] with
   | true =>
    rw [hd,e,if_pos rfl] at aP
    simp only [go_sem]
    refine aK.go 1000 ?_
    simp only [go_sem,← aP]
    rw [fL];exact ⟨σ',fx σ',ah _,hs,trivial,rfl,rfl⟩
   | false =>
    rw [hd,e,if_neg (by decide)] at aP
    simp only [go_sem]
    refine ⟨⟨i+1,aZ,aP⟩,?_,by simp only;omega⟩
    simp only [go_sem,cr,hc,hs]
    rw [ek (by omega)];exact ⟨rfl,fx σ'⟩
  ·have dP:i=l.length:=by omega
   subst dP
   rw [aV] at aP
   simp only [go_sem,bD]
   refine aK.go 1000 ?_
   simp only [go_sem,← aP]
   rw [fL];exact ⟨σ,fx σ,ah _,hs,trivial,rfl,rfl⟩
theorem Ha (σ:ai) (c:ae) (p:Li→Bool) (l:List Li) (hl:l.length<2 ^ 62) (hs:bt σ.length σ) (hc:c.low σ.length)
  (hp:∀ (i:Nat) (h:i<l.length),aq Tryz.prog c [l[i].aO] σ (fun r σ'=>r = .bool (p l[i])∧σ' = σ)) :
  aq Tryz.prog (.fn 63 [] []) [.ps 5 (lits l),c] σ (fun r σ'=>r = .bool (l.any p)∧σ' = σ):=by
 refine aq.begin (rs:=[.tmp 4]) (m:=7) 1000 Tryz.func63 rfl rfl rfl rfl rfl ?_
 simp only [go_sem]
 refine (V7 σ c p l hl hs hc hp).mono ?_
 rintro r σ' ⟨rfl,rfl⟩
 refine aK.go 1000 ?_
 simp only [go_sem]
 rw [fL,Ca p l 0 (by omega)];exact ⟨σ',fx σ',ah _,hs,trivial,rfl,rfl⟩
theorem Qz (σ:ai) {b:Nat} (c:ae) (p:Li→Bool) (l:List Li) (hb:bG σ b=some (.row (lits l) 0)) (hl:l.length<2 ^ 62) (hs:bt σ.length σ) (hc:c.low σ.length)
  (hp:∀ (i:Nat) (h:i<l.length),aq Tryz.prog c [l[i].aO] σ (fun r σ'=>r = .bool (p l[i])∧σ' = σ)) :
  aq Tryz.prog (.fn 101 [] []) [.os b 0 l.length 5,c] σ (fun r σ'=>r = .int .i64 (dF p l 0)∧σ' = σ):=by
 refine aq.begin (rs:=[.tmp 4]) (m:=17) 1000 Tryz.func101 rfl rfl rfl rfl rfl ?_
 simp only [go_sem,fP]
 refine aK.c_ (ι:={i:Nat // i≤l.length∧dF p (l.drop i) i=dF p l 0}) 1000 (fun i=>fG 19 [(0, .os b 0 l.length 5),(1,c),(7, .int .i64 l.length),(8, .int .i64 i.1)]) (fun _=>σ) (fun i=>l.length - i.1) ⟨0,by simp⟩ ?_ (fun _=>ah _) ?_
 ·simp only [go_sem,cr,fP,hc,hs]
  exact ⟨fx σ,zR hb⟩
 ·rintro ⟨i,hi,aP⟩
  by_cases bD:(i:Int)<l.length
  ·have aZ:i<l.length:=by omega
   have hd:dF p (l.drop i) i=if p l[i] then (i:Int) else dF p (l.drop (i+1)) ((i:Int)+1):=by
    rw [ao aZ];rfl
   simp only [go_sem,bD,fP,tu aZ,ky,hb]
   (repeat ((with_reducible refine And.intro ?_ ?_); ·omega))
   refine (hp i aZ).mono ?_
   rintro r σ' ⟨rfl,rfl⟩
   refine aK.go 1000 ?_
   cases e:p l[i] with
   | true =>
    rw [hd,e,if_pos rfl] at aP
    simp only [go_sem]
    refine aK.go 1000 ?_
    simp only [go_sem,← aP]
    rw [fL];exact ⟨σ',fx σ',ah _,hs,trivial,rfl,rfl⟩
   | false =>
    rw [hd,e,if_neg (by decide)] at aP
    simp only [go_sem]
    refine ⟨⟨i+1,aZ,aP⟩,?_,by simp only;omega⟩
    simp only [go_sem,cr,hc,hs]
    rw [ek (by omega)];exact ⟨rfl,fx σ',zR hb⟩
  ·have dP:i=l.length:=by omega
   subst dP
   rw [aV] at aP
   simp only [go_sem,bD]
   refine aK.go 1000 ?_
   simp only [go_sem,← aP]
   rw [fL];exact ⟨σ,fx σ,ah _,hs,trivial,rfl,rfl⟩
theorem Q_ (σ:ai) (c:ae) (p:Tm→Bool) (l:List Tm) (hl:l.length<2 ^ 62) (hs:bt σ.length σ) (hc:c.low σ.length)
  (hp:∀ (i:Nat) (h:i<l.length),aq Tryz.prog c [l[i].aO] σ (fun r σ'=>r = .bool (p l[i])∧σ' = σ)) :
  aq Tryz.prog (.fn 174 [] []) [.ps 2 (l.map Tm.aO),c] σ (fun r σ'=>r = .int .i64 (dF p l 0)∧σ' = σ):=by
 refine aq.begin (rs:=[.tmp 4]) (m:=17) 1000 Tryz.func174 rfl rfl rfl rfl rfl ?_
 simp only [go_sem,ak]
 refine aK.c_ (ι:={i:Nat // i≤l.length∧dF p (l.drop i) i=dF p l 0}) 1000 (fun i=>fG 19 [(0, .ps 2 (l.map Tm.aO)),(1,c),(7, .int .i64 l.length),(8, .int .i64 i.1)]) (fun _=>σ) (fun i=>l.length - i.1) ⟨0,by simp⟩ ?_ (fun _=>ah _) ?_
 ·simp only [go_sem,bQ,ak,hc,hs]
  exact fx σ
 ·rintro ⟨i,hi,aP⟩
  by_cases bD:(i:Int)<l.length
  ·have aZ:i<l.length:=by omega
   have hd:dF p (l.drop i) i=if p l[i] then (i:Int) else dF p (l.drop (i+1)) ((i:Int)+1):=by
    rw [ao aZ];rfl
   simp only [go_sem,bD,ak,nO aZ,ft]
   (repeat ((with_reducible refine And.intro ?_ ?_); ·omega))
   have GC:=hp i aZ
   rw [dc] at GC
   refine GC.mono ?_
   rintro r σ' ⟨rfl,rfl⟩
   refine aK.go 1000 ?_
   cases e:p l[i] with
   | true =>
    rw [hd,e,if_pos rfl] at aP
    simp only [go_sem]
    refine aK.go 1000 ?_
    simp only [go_sem,← aP]
    rw [fL];exact ⟨σ',fx σ',ah _,hs,trivial,rfl,rfl⟩
   | false =>
    rw [hd,e,if_neg (by decide)] at aP
    simp only [go_sem]
    refine ⟨⟨i+1,aZ,aP⟩,?_,by simp only;omega⟩
    simp only [go_sem,bQ,hc,hs]
    rw [ek (by omega)];exact ⟨rfl,fx σ'⟩
  ·have dP:i=l.length:=by omega
   subst dP
   rw [aV] at aP
   simp only [go_sem,bD]
   refine aK.go 1000 ?_
   simp only [go_sem,← aP]
   rw [fL];exact ⟨σ,fx σ,ah _,hs,trivial,rfl,rfl⟩
theorem JA (σ:ai) (c:ae) (p:Tm→Bool) (l:List Tm) (hl:l.length<2 ^ 62) (hs:bt σ.length σ) (hc:c.low σ.length)
  (hp:∀ (i:Nat) (h:i<l.length),aq Tryz.prog c [l[i].aO] σ (fun r σ'=>r = .bool (p l[i])∧σ' = σ)) :
  aq Tryz.prog (.fn 144 [] []) [.ps 2 (l.map Tm.aO),c] σ (fun r σ'=>r = .bool (l.any p)∧σ' = σ):=by
 refine aq.begin (rs:=[.tmp 4]) (m:=7) 1000 Tryz.func144 rfl rfl rfl rfl rfl ?_
 simp only [go_sem]
 refine (Q_ σ c p l hl hs hc hp).mono ?_
 rintro r σ' ⟨rfl,rfl⟩
 refine aK.go 1000 ?_
 simp only [go_sem]
 rw [fL,Ca p l 0 (by omega)];exact ⟨σ',fx σ',ah _,hs,trivial,rfl,rfl⟩
theorem Zsy (σ:ai) {b:Nat} (c:ae) (p:Tm→Bool) (l:List Tm) (hb:bG σ b=some (.row (l.map Tm.aO) 0)) (hl:l.length<2 ^ 62) (hs:bt σ.length σ) (hc:c.low σ.length)
  (hp:∀ (i:Nat) (h:i<l.length),aq Tryz.prog c [l[i].aO] σ (fun r σ'=>r = .bool (p l[i])∧σ' = σ)) :
  aq Tryz.prog (.fn 174 [] []) [.os b 0 l.length 2,c] σ (fun r σ'=>r = .int .i64 (dF p l 0)∧σ' = σ):=by
 refine aq.begin (rs:=[.tmp 4]) (m:=17) 1000 Tryz.func174 rfl rfl rfl rfl rfl ?_
 simp only [go_sem,ak]
 refine aK.c_ (ι:={i:Nat // i≤l.length∧dF p (l.drop i) i=dF p l 0}) 1000 (fun i=>fG 19 [(0, .os b 0 l.length 2),(1,c),(7, .int .i64 l.length),(8, .int .i64 i.1)]) (fun _=>σ) (fun i=>l.length - i.1) ⟨0,by simp⟩ ?_ (fun _=>ah _) ?_
 ·simp only [go_sem,bQ,ak,hc,hs]
  exact ⟨fx σ,zR hb⟩
 ·rintro ⟨i,hi,aP⟩
  by_cases bD:(i:Int)<l.length
  ·have aZ:i<l.length:=by omega
   have hd:dF p (l.drop i) i=if p l[i] then (i:Int) else dF p (l.drop (i+1)) ((i:Int)+1):=by
    rw [ao aZ];rfl
   simp only [go_sem,bD,ak,nO aZ,ft,hb]
   (repeat ((with_reducible refine And.intro ?_ ?_); ·omega))
   have GC:=hp i aZ
   rw [dc] at GC
   refine GC.mono ?_
   rintro r σ' ⟨rfl,rfl⟩
   refine aK.go 1000 ?_
   cases e:p l[i] with
   | true =>
    rw [hd,e,if_pos rfl] at aP
    simp only [go_sem]
    refine aK.go 1000 ?_
    simp only [go_sem,← aP]
    rw [fL];exact ⟨σ',fx σ',ah _,hs,trivial,rfl,rfl⟩
   | false =>
    rw [hd,e,if_neg (by decide)] at aP
    simp only [go_sem]
    refine ⟨⟨i+1,aZ,aP⟩,?_,by simp only;omega⟩
    simp only [go_sem,bQ,hc,hs]
    rw [ek (by omega)];exact ⟨rfl,fx σ',zR hb⟩
  ·have dP:i=l.length:=by omega
   subst dP
   rw [aV] at aP
   simp only [go_sem,bD]
   refine aK.go 1000 ?_
   simp only [go_sem,← aP]
   rw [fL];exact ⟨σ,fx σ,ah _,hs,trivial,rfl,rfl⟩
theorem Zz9 (σ:ai) (c:ae) (p:Int→Bool) (l:List Int) (hl:l.length<2 ^ 62) (hs:bt σ.length σ) (hc:c.low σ.length)
  (hp:∀ (i:Nat) (h:i<l.length),aq Tryz.prog c [(.int .i64 l[i])] σ (fun r σ'=>r = .bool (p l[i])∧σ' = σ)) :
  aq Tryz.prog (.fn 185 [] []) [.ps 1 (ints l),c] σ (fun r σ'=>r = .int .i64 (dF p l 0)∧σ' = σ):=by
 refine aq.begin (rs:=[.tmp 4]) (m:=17) 1000 Tryz.func185 rfl rfl rfl rfl rfl ?_
 simp only [go_sem,lH]
 refine aK.c_ (ι:={i:Nat // i≤l.length∧dF p (l.drop i) i=dF p l 0}) 1000 (fun i=>fG 19 [(0, .ps 1 (ints l)),(1,c),(7, .int .i64 l.length),(8, .int .i64 i.1)]) (fun _=>σ) (fun i=>l.length - i.1) ⟨0,by simp⟩ ?_ (fun _=>ah _) ?_
 ·simp only [go_sem,du,lH,hc,hs]
  exact fx σ
 ·rintro ⟨i,hi,aP⟩
  by_cases bD:(i:Int)<l.length
  ·have aZ:i<l.length:=by omega
   have hd:dF p (l.drop i) i=if p l[i] then (i:Int) else dF p (l.drop (i+1)) ((i:Int)+1):=by
    rw [ao aZ];rfl
   simp only [go_sem,bD,lH,xd aZ,RH]
   (repeat ((with_reducible refine And.intro ?_ ?_); ·omega))
   refine (hp i aZ).mono ?_
   rintro r σ' ⟨rfl,rfl⟩
   refine aK.go 1000 ?_
   cases e:p l[i] with
   | true =>
    rw [hd,e,if_pos rfl] at aP
    simp only [go_sem]
    refine aK.go 1000 ?_
    simp only [go_sem,← aP]
    rw [fL];exact ⟨σ',fx σ',ah _,hs,trivial,rfl,rfl⟩
   | false =>
    rw [hd,e,if_neg (by decide)] at aP
    simp only [go_sem]
    refine ⟨⟨i+1,aZ,aP⟩,?_,by simp only;omega⟩
    simp only [go_sem,du,hc,hs]
    rw [ek (by omega)];exact ⟨rfl,fx σ'⟩
  ·have dP:i=l.length:=by omega
   subst dP
   rw [aV] at aP
   simp only [go_sem,bD]
   refine aK.go 1000 ?_
   simp only [go_sem,← aP]
   rw [fL];exact ⟨σ,fx σ,ah _,hs,trivial,rfl,rfl⟩
theorem Zm6 (σ:ai) (c:ae) (p:Int→Bool) (l:List Int) (hl:l.length<2 ^ 62) (hs:bt σ.length σ) (hc:c.low σ.length)
  (hp:∀ (i:Nat) (h:i<l.length),aq Tryz.prog c [(.int .i64 l[i])] σ (fun r σ'=>r = .bool (p l[i])∧σ' = σ)) :
  aq Tryz.prog (.fn 163 [] []) [.ps 1 (ints l),c] σ (fun r σ'=>r = .bool (l.any p)∧σ' = σ):=by
 refine aq.begin (rs:=[.tmp 4]) (m:=7) 1000 Tryz.func163 rfl rfl rfl rfl rfl ?_
 simp only [go_sem]
 refine (Zz9 σ c p l hl hs hc hp).mono ?_
 rintro r σ' ⟨rfl,rfl⟩
 refine aK.go 1000 ?_
 simp only [go_sem]
 rw [fL,Ca p l 0 (by omega)];exact ⟨σ',fx σ',ah _,hs,trivial,rfl,rfl⟩
end Go.Proofs
namespace Go.c8
open Go
theorem bR.qU {w:World} {M:Nat→Nat→Prop} {β β':Env} {π:Nat→Nat} {n:Nat} {v:Value} {a:ae} (h:bR w M β' v a):a.low n→(∀ b,b<n→β (π b) = β' b)→bR w M β v (c8.dG π a):=by
 intro hl hβ
 induction h with
 | undef v=>exact .undef v
 | bool b=>exact .bool b
 | gZ b=>exact .gZ b
 | int k n=>exact .int k n
 | str s=>exact .str s
 | bM=>exact .bM
 | ptr h=>exact .ptr ((hβ _ hl).trans h)
 | rp h=>exact .rp ((hβ _ hl).trans h)
 | @pp g o cs cv hc _ ih =>
  simp only [c8.dG]
  refine .pp cv (fun k hk=>hc k (by rw [jw] at hk;exact hk)) fun k hk=>?_
  rw [jw] at hk;rw [lG];exact ih k hk (iW hl k)
 | aU a=>exact .aU a
 | @ps a cap sz es cv jd fF hc ha _ ih =>
  simp only [c8.dG]
  have e:(dU π es).length=es.length:=jw π es
  rw [← e]
  refine .ps cv (by rw [e];exact jd) (fun i hi=>?_) (fun i j hi hj=>hc i j (by rw [e] at hi;exact hi) hj) (fun h0=>ha (by rw [e] at h0;exact h0)) (fun i j hi hj=>?_)
  ·rw [lG,A8,jw];exact fF i (by rw [e] at hi;exact hi)
  ·rw [lG,A8,lG];exact ih i j (by rw [e] at hi;exact hi) hj (iW (DY (iW hl i)) j)
 | sd a h=>exact .sd a ((hβ _ hl).trans h)
 | os h h1 h2=>exact .os ((hβ _ hl).trans h) h1 h2
 | sc a h=>exact .sc a ((hβ _ hl).trans h)
 | oc h h1 h2=>exact .oc ((hβ _ hl).trans h) h1 h2
 | az=>exact .az
 | fn h1 h2 _ _ kA oA =>
  simp only [c8.dG]
  refine .fn (by rw [jw];exact h1) (by rw [jw];exact h2) (fun k hk=>?_) (fun k hk=>?_)
  ·rw [jw] at hk;rw [lG];exact kA k hk (iW hl.1 k)
  ·rw [jw] at hk;rw [lG];exact oA k hk (iW hl.2 k)
 | ld h=>exact .ld ((hβ _ hl).trans h)
 | cw=>exact .cw
 | map h=>exact .map ((hβ _ hl).trans h)
 | pm hg hm h1 h2 _ _ hb kA oA =>
  simp only [c8.dG]
  refine .pm hg hm (by rw [jw];exact h1) (by rw [jw,jw];exact h2) (fun k hk=>?_) (fun k hk=>?_) hb
  ·rw [jw] at hk;rw [lG];exact kA k hk (iW hl.1 k)
  ·rw [jw] at hk;rw [lG];exact oA k hk (iW hl.2 k)
 | it h=>exact .it ((hβ _ hl).trans h)
 | agg h _ ih =>
  simp only [c8.dG]
  refine .agg (by rw [jw];exact h) fun k hk=>?_
  rw [jw] at hk;rw [lG];exact ih k hk (iW hl k)
 | dz h _ ih =>
  simp only [c8.dG]
  refine .dz (by rw [jw];exact h) fun k hk=>?_
  rw [jw] at hk;rw [lG];exact ih k hk (iW hl k)
 | fC=>exact .fC
 | iface _ ih=>exact .iface (ih hl)
 | nL v=>exact .nL v
section
variable {P:Program}
theorem aq.NP {F:Frame→List Frame→Sem Next→World→Value→World→Prop} {f:ae} {args:List ae} {K:ae→ai→Prop} {Z:ai} {i:Nat} {B:bE} (hZ:∀ b x,Z[b]? = some (some x)↔b=i∧B=x) (hB:B.low 0) (hf:f.low 0) (ha:bx 1 args)
  (h:dp P F f args [some B] (fun r σ'=>r.low 1∧∃ B',σ'=[some B']∧B'.low 0∧K (dG (fun _=>i) r) (Z.set i (some B')))):dp P F f (dU (fun _=>i) args) Z K:=by
 intro X base β w vf vs h1 nB h2 h3 fr cs h4
 rw [jw] at h2 h3
 obtain ⟨L,l1,l2,l3,l4⟩:=h1.cd i B ((hZ i B).2 ⟨rfl,rfl⟩)
 have hiZ:i<Z.length:=(aI.1 ((hZ i B).2 ⟨rfl,rfl⟩)).1
 have e0:jK β (fun _=>i) 1 0=some L:=l1
 have hm:∀ g o,iO Z β g o↔iO [some B] (jK β (fun _=>i) 1) g o:=fun g o=>by
  constructor
  ·rintro ⟨b,x,L',m1,m2,m3,m4⟩
   obtain ⟨rfl,rfl⟩:=(hZ b x).1 m1
   exact ⟨0,B,L',rfl,m2,m3,m4⟩
  ·rintro ⟨b,x,L',m1,m2,m3,m4⟩
   obtain ⟨rfl,rfl⟩:=Fj.1 m1
   exact ⟨i,B,L',(hZ i B).2 ⟨rfl,rfl⟩,m2,m3,m4⟩
 have hM:MT X [some B] (jK β (fun _=>i) 1)=MT X Z β:=funext fun g=>funext fun o=>propext (or_congr Iff.rfl (hm g o).symm)
 have hr:cC X base [some B] (jK β (fun _=>i) 1) w:=by
  refine ⟨fun b hb=>?_,fun b x hb=>?_,fun b b' x y L' VG e1 e2 _ _ _=>?_,h1.size,h1.pW,h1.gl⟩
  ·simp only [dh] at hb
   exact if_neg (by omega)
  ·obtain ⟨rfl,rfl⟩:=Fj.1 hb
   refine ⟨L,e0,l2,l3,?_⟩
   rw [hM]
   exact fR.low (n:=0) (fun b hb=>absurd hb (by omega)) l4 hB
  ·rw [(Fj.1 e1).1,(Fj.1 e2).1]
 have nS:bR w (MT X Z β) (jK β (fun _=>i) 1) vf f:=bR.low (n:=0) (fun b hb=>absurd hb (by omega)) nB hf
 have ha':∀ k,k<args.length→bR w (MT X Z β) (jK β (fun _=>i) 1) (vs.getD k undef) (args.getD k .undef):=fun k hk=>by
  have:=h3 k hk
  rw [lG] at this
  exact bR.dG this _ rfl (iW ha k)
 rw [← hM] at nS ha'
 obtain ⟨r,σ',β',v,w',⟨q1,B',rfl,q2,q3⟩,g1,g2,g3,g4,g5⟩:=h X base _ w vf vs hr nS h2 ha' fr cs h4
 have II : β' 0=some L:=(g3.env 0 Nat.one_pos).trans e0
 have FX:∀ b x,(Z.set i (some B'))[b]? = some (some x)↔b=i∧B'=x:=fun b x=>by
  by_cases hb:b=i
  ·subst hb;rw [fK hiZ];simp
  ·rw [bL (fun e=>hb e.symm)]
   constructor
   ·intro e;exact absurd ((hZ b x).1 e).1 hb
   ·intro e;exact absurd e.1 hb
 have Ar:∀ g o,iO (Z.set i (some B')) β g o↔iO [some B'] β' g o:=fun g o=>by
  constructor
  ·rintro ⟨b,x,L',m1,m2,m3,m4⟩
   obtain ⟨rfl,rfl⟩:=(FX b x).1 m1
   obtain rfl:=aM (l1.symm.trans m2)
   exact ⟨0,B',L,rfl,II,m3,m4⟩
  ·rintro ⟨b,x,L',m1,m2,m3,m4⟩
   obtain ⟨rfl,rfl⟩:=Fj.1 m1
   obtain rfl:=aM (II.symm.trans m2)
   exact ⟨i,B',L,(FX i B').2 ⟨rfl,rfl⟩,l1,m3,m4⟩
 have FU:MT X [some B'] β'=MT X (Z.set i (some B')) β:=funext fun g=>funext fun o=>propext (or_congr Iff.rfl (Ar g o).symm)
 refine ⟨_,Z.set i (some B'),β,v,w',q3,?_,?_,?_,by simp,g5⟩
 ·refine ⟨fun b hb=>h1.nA b (by simpa using hb),fun b x hb=>?_,fun b b' x y L' VG e1 e2 _ _ _=>?_,g1.size,g1.pW,g1.gl⟩
  ·obtain ⟨rfl,rfl⟩:=(FX b x).1 hb
   obtain ⟨L',k1,k2,k3,k4⟩:=g1.cd 0 B' rfl
   obtain rfl:=aM (II.symm.trans k1)
   refine ⟨L,l1,k2,k3,?_⟩
   rw [← FU]
   exact fR.low (n:=0) (fun b hb=>absurd hb (by omega)) k4 q2
  ·rw [((FX _ _).1 e1).1,((FX _ _).1 e2).1]
 ·rw [← FU]
  exact g2.qU (π:=fun _=>i) q1 fun b hb=>by obtain rfl:b=0:=(by omega);exact l1.trans II.symm
 ·exact ⟨g3.os,g3.tape,g3.output,g3.size,fun g o x hc hn=>g3.cell g o x hc fun hx=>hn ((hm g o).2 hx),fun g hg hn=>g3.block g hg fun o hx=>hn o ((hm g o).2 hx),fun g o hx=>(g3.iB g o ((Ar g o).1 hx)).imp (hm g o).2 id,fun _ _=>rfl⟩
theorem aq.z6 {F:Frame→List Frame→Sem Next→World→Value→World→Prop} {f:ae} {args:List ae} {K:ae→ai→Prop} {σ:ai} (i:Nat) {B:bE} (hi : σ[i]? = some (some B)) (hB:B.low 0) (hf:f.low 0) (ha:bx 1 args)
  (h:dp P F f args [some B] (fun r σ'=>r.low 1∧∃ B',σ'=[some B']∧B'.low 0∧K (dG (fun _=>i) r) (σ.set i (some B')))):dp P F f (dU (fun _=>i) args) σ K:=by
 have bD:i < σ.length:=(aI.1 hi).1
 refine aq.frame (fun b=>decide (b=i)) (K':=fun r iM=>∃ B',iM=(eB (fun b=>decide (b=i)) 0 σ).set i (some B')∧K r (σ.set i (some B'))) ?_ ?_
 ·refine aq.NP (B:=B) ?_ hB hf ha (h.mono ?_)
  ·intro b x
   rw [vO,bm]
   by_cases hb:b=i
   ·subst hb;simp [hi]
   ·simp [hb]
  ·rintro r σ' ⟨q1,B',rfl,q2,q3⟩
   exact ⟨q1,B',rfl,q2,B',rfl,q3⟩
 ·rintro r σ' ⟨B',rfl,hk⟩
  refine ⟨fun b hb hv=>?_,?_⟩
  ·simp only [decide_eq_false_iff_not] at hv
   rw [bL (fun e=>hv e.symm),vO,bm,aA hb];simp [hv]
  ·have e:gR (fun b=>decide (b=i)) 0 ((eB (fun b=>decide (b=i)) 0 σ).set i (some B')) σ = σ.set i (some B'):=by
    refine bP fun b=>?_
    rw [DS (fun b=>decide (b=i)) ((eB (fun b=>decide (b=i)) 0 σ).set i (some B')) σ 0 b (by rw [bg,rA];exact ah _),bm]
    by_cases hb:b=i
    ·subst hb
     rw [if_neg (by simp),fK (by rw [rA];exact bD),fK bD]
    ·by_cases vT:b < σ.length
     ·rw [if_pos ⟨vT,by simpa using hb⟩,bL (fun e=>hb e.symm)]
     ·rw [if_neg (fun h=>vT h.1),bq (by rw [bg,rA];omega),bq (by rw [bg];omega)]
   rw [e];exact hk
def uu (K:ae→ai→Prop) (n:Nat) (r0:ae) (σ':ai):Prop:=∃ r,pT (fun _=>true) σ' r (rK r0)∧r.low 0∧K r (List.replicate n none)
theorem Kh {n b:Nat} {x:bE}:¬ (List.replicate n (none:Option bE))[b]? = some (some x):=by
 rw [c9];split<;>simp
theorem bS.uu {F:Frame→List Frame→Sem Next→World→Value→World→Prop} {σ:ai} {g:FuncId} {args:List ae} {K:ae→ai→Prop} (h:gQ P F g args σ (uu K σ.length)):gQ P F g args σ K:=by
 intro X base β w vs h1 h2 h3 fr cs h4
 obtain ⟨r0,σ',β',v,w',⟨r,k1,k5,k6⟩,g1,g2,g3,g4,g5⟩:=h X base β w vs h1 h2 h3 fr cs h4
 have hf:=zJ (fun _=>true) σ'
 generalize yw:fM (fun _=>true) 0 σ' = kW at hf
 have BB:=g1.oi hf.oi
 have qj:=(Fm BB hf r k1).1 v (Tp (g2.mono (A7 hf.oi) (fun _ _ h=>h)))
 have hle:xo (List.replicate σ.length none) kW:=fun b x hb=>absurd hb Kh
 have hl:(List.replicate σ.length (none:Option bE)).length = σ.length:=by simp
 have jY:yD σ.length (List.replicate σ.length none):=fun b x hb=>absurd hb Kh
 have hs:=BB.drop hle hl jY
 have qN:=bR.drop qj hle hl (mQ (av _) k5)
 exact ⟨r,_,_,v,w',k6,hs,qN,g3.drop (σ':=List.replicate σ.length none) (fun b x hb=>absurd hb Kh) hl (ah _),by simp,g5⟩
@[go_sem] theorem Yzt {b o n s:Nat}:rK (.os b o n s) = .os b o n s:=rfl
@[go_sem] theorem Yzc {b o n c s:Nat}:rK (.oc b o n c s) = .os b o n s:=rfl
@[go_sem] theorem Yui:rK .aU = .aU:=rfl
@[go_sem] theorem Yzg {s:Nat} {l:List ae}:rK (.ps s l) = .ps s l:=rfl
theorem G8 {K:ae→ai→Prop} {n:Nat} {r0:ae} {σ':ai}:c8.uu K n r0 σ' = ∃ r,pT (fun _=>true) σ' r (rK r0)∧r.low 0∧K r (List.replicate n none):=rfl
theorem bS.uR {g:FuncId} {fn:Func} {c:Code} {σ:ai} {args:List ae} {K:ae→ai→Prop} {m:Nat} {rs:List ResultVar} (n:Nat) (hf:P.funcs[g]? = some fn) (hb:fn.body=some c) (hr:fn.results.toList=rs) (hm:fn.ntmps - args.length=m)
  (eA : (fn.name == "runtime.NumGoroutine") = false)
  (h:dT P ⟨σ.length,Option.none⟩ (qf P rs (c8.uu K σ.length)) n [.code c] .normal (args++List.replicate m .undef) σ):bS P g args σ K:=bS.uu (bS.start n hf hb hr hm eA h)
end
end Go.c8
namespace Go.Proofs
open Go Go.c8
attribute [local go_sem] Nat.reduceAdd Nat.reduceSub Nat.reduceMul Nat.reduceLeDiff Nat.reduceEqDiff Nat.reduceBEq Nat.reduceLT Nat.le_refl Int.natCast_zero Nat.sub_zero List.length_map Int.toNat_natCast Int.natCast_one Int.reduceEq Int.reduceLT Int.reduceLE Int.reduceNe Int.sub_zero Int.zero_add Int.toNat_one
theorem DL:∀ (xs E:List ae) (p:Nat),p+xs.length≤E.length→cq E p xs=E.take p++xs++E.drop (p+xs.length)
 | [],E,p,h=>by simp [cq]
 | x :: xs,E,p,h=>by
  simp only [ax] at h
  rw [cq,DL xs (E.set p x) (p+1) (by rw [bg];omega)]
  have hp:p<E.length:=by omega
  have e1:(E.set p x).take (p+1)=E.take p++[x]:=by
   rw [eH,fK hp]
   simp [List.take_set_of_le]
  have e2:(E.set p x).drop (p+1+xs.length)=E.drop (p+(xs.length+1)):=by
   rw [List.drop_set,if_pos (by omega)];congr 1;omega
  rw [e1,e2];simp
theorem Hi {n:Nat}:∀ {a b:List ae},bx n a→bx n b→bx n (a++b)
 | [],_,_,h=>h
 | _ :: _,_,h,k=>⟨h.1,Hi h.2 k⟩
theorem E8 {n m:Nat} {a:ae} (h:a.low n):bx n (List.replicate m a):=by
 induction m with
 | zero=>trivial
 | succ m ih=>exact ⟨h,ih⟩
theorem J7 {n:Nat} (sz:Nat):(dw sz).low n:=by
 unfold dw;split
 ·trivial
 ·exact E8 (a:=.undef) trivial
theorem Hf {n:Nat}:∀ {xs E:List ae} {p:Nat},bx n E→bx n xs→bx n (cq E p xs)
 | [],_,_,h,_=>h
 | x :: xs,E,p,h,k=>by rw [cq];exact Hf (H_ h _ k.1) k.2
theorem O8 {E Z:List ae} {i m n k:Nat} (hi:i<n) (hE:n≤E.length) (hm:m=n - 1) (hk:Z.length=k) (Am:m+k=n) :
  (cq (cq E i ((E.drop (i+1)).take (n - (i+1)))) m Z).take m=E.take i++(E.drop (i+1)).take (n - (i+1)):=by
 have hl:((E.drop (i+1)).take (n - (i+1))).length=n - (i+1):=by simp;omega
 have e1:=DL ((E.drop (i+1)).take (n - (i+1))) E i (by rw [hl];omega)
 have sZ:(cq E i ((E.drop (i+1)).take (n - (i+1)))).length=E.length:=uz _ _ _
 rw [DL Z _ m (by rw [sZ];omega),cG,bV (by rw [cV,sZ];omega),qq,Nat.min_self,e1,cG,
  ← cG,bV (by rw [ay,hl,cV];omega),a_ (by rw [ay,hl,cV];omega)]
theorem J2 (l:List Li) (i:Nat) (hi:i<l.length) (hl:l.length<1000000000):aq Tryz.prog (.fn 71 [] []) [.os 0 0 l.length 5, .int .i64 i, .int .i64 ((i+1:Nat):Int)] [some (.row (lits l) 0)]
  (fun r σ'=>r = .os 0 0 (l.length - 1) 5∧σ'=[some (.row (lits (l.take i++l.drop (i+1))) 0)]):=by
 refine bS.v (bS.su (pre:=[]) (post:=[.int .i64 i, .int .i64 ((i+1:Nat):Int)]) (b:=0) (es:=(lits l)) (fz:=0) rfl rfl (by simp [lits]) (by omega) fun c hc=>bS.short 0 ?_)
 have hlen:((lits l)++List.replicate (c - l.length) (dw 5)).length=c:=by simp [lits];omega
 have hE:(((lits l)++List.replicate (c - l.length) (dw 5)).drop (i+1)).take (l.length - (i+1))=lits (l.drop (i+1)):=by
  rw [List.drop_append_of_le_length (by simp [lits];omega),bV (by simp [lits])]
  rw [a_ (by simp [lits])];simp [lits,List.map_drop]
 have FR:((lits l)++List.replicate (c - l.length) (dw 5)).take i=lits (l.take i):=by
  rw [bV (by simp [lits];omega)];simp [lits,List.map_take]
 have hdr:=fun Z hk=>O8 (E:=(lits l)++List.replicate (c - l.length) (dw 5)) (Z:=Z) (i:=i) (m:=l.length - 1) (n:=l.length) (k:=1) hi (by omega) rfl hk (by omega)
 rw [hE,FR] at hdr
 have jY:bx 1 (lits l++List.replicate (c - l.length) (dw 5)):=Hi (cr _) (E8 (J7 _))
 generalize UU:(lits l)++List.replicate (c - l.length) (dw 5)=E at *
 refine bS.n9 (rs:=[.tmp 6]) (m:=30) 1000 Tryz.func71 rfl rfl rfl rfl ?_
 have eg:¬ (i:Int)=((i+1:Nat):Int):=by omega
 simp only [go_sem,eg]
 (repeat ((with_reducible refine And.intro ?_ ?_); ·omega))
 refine aK.draw [.no, .no, .no, .no, .no, .no,⟨none,[0],[]⟩] 1 1 mixed rfl rfl (by decide) ?_
 have hx:i+(lits (l.drop (i+1))).length=l.length - 1:=by rw [fP,cf];omega
 have rm:l.length - 1≤c:=by omega
 have wJ:l.length - (l.length - 1)=1:=by omega
 simp only [go_sem,dx,hlen,hE,hx,rm,av]
 (repeat ((with_reducible refine And.intro ?_ ?_); ·omega))
 refine aK.go 1000 ?_
 simp only [go_sem,hlen,hx,uz,wJ,mS,List.replicate_one,aN,forall_eq,Nat.one_ne_zero]
 (repeat ((with_reducible refine And.intro ?_ ?_); ·omega))
 rw [fL]
 refine ⟨_,fx _,ah _,⟨?_,trivial⟩,Nat.one_pos,?_⟩
 ·exact H_ (Hf jY (cr _)) _ (by simp [go_sem])
 ·rw [IA]
  refine ⟨_,_,l.length - 1,rfl,rfl,?_⟩
  have h5:=hdr [.agg [.bool false, .int .i64 0, .aU, .int .i64 0, .aU]] rfl
  simp only [cq] at h5
  rw [h5]
  simp [bZ,lits]
theorem Wd (l:List Tm) (i:Nat) (hi:i<l.length) (hl:l.length<1000000000):aq Tryz.prog (.fn 241 [] []) [.os 0 0 l.length 2, .int .i64 i, .int .i64 ((i+1:Nat):Int)] [some (.row (l.map Tm.aO) 0)]
  (fun r σ'=>r = .os 0 0 (l.length - 1) 2∧σ'=[some (.row (List.map Tm.aO (l.take i++l.drop (i+1))) 0)]):=by
 refine bS.v (bS.su (pre:=[]) (post:=[.int .i64 i, .int .i64 ((i+1:Nat):Int)]) (b:=0) (es:=(l.map Tm.aO)) (fz:=0) rfl rfl (by simp [lits]) (by omega) fun c hc=>bS.short 0 ?_)
 have hlen:((l.map Tm.aO)++List.replicate (c - l.length) (dw 2)).length=c:=by simp [lits];omega
 have hE:(((l.map Tm.aO)++List.replicate (c - l.length) (dw 2)).drop (i+1)).take (l.length - (i+1))=List.map Tm.aO (l.drop (i+1)):=by
  rw [List.drop_append_of_le_length (by simp [lits];omega),bV (by simp [lits])]
  rw [a_ (by simp [lits])];simp [lits,List.map_drop]
 have FR:((l.map Tm.aO)++List.replicate (c - l.length) (dw 2)).take i=List.map Tm.aO (l.take i):=by
  rw [bV (by simp [lits];omega)];simp [lits,List.map_take]
 have hdr:=fun Z hk=>O8 (E:=(l.map Tm.aO)++List.replicate (c - l.length) (dw 2)) (Z:=Z) (i:=i) (m:=l.length - 1) (n:=l.length) (k:=1) hi (by omega) rfl hk (by omega)
 rw [hE,FR] at hdr
 have jY:bx 1 (l.map Tm.aO++List.replicate (c - l.length) (dw 2)):=Hi (bQ _) (E8 (J7 _))
 generalize UU:(l.map Tm.aO)++List.replicate (c - l.length) (dw 2)=E at *
 refine bS.n9 (rs:=[.tmp 6]) (m:=30) 1000 Tryz.func241 rfl rfl rfl rfl ?_
 have eg:¬ (i:Int)=((i+1:Nat):Int):=by omega
 simp only [go_sem,eg]
 (repeat ((with_reducible refine And.intro ?_ ?_); ·omega))
 refine aK.draw [.no, .no, .no, .no, .no, .no,⟨none,[0],[]⟩] 1 1 mixed rfl rfl (by decide) ?_
 have hx:i+(l.drop (i+1)).length=l.length - 1:=by rw [cf];omega
 have rm:l.length - 1≤c:=by omega
 have wJ:l.length - (l.length - 1)=1:=by omega
 simp only [go_sem,dx,hlen,hE,hx,rm,av]
 (repeat ((with_reducible refine And.intro ?_ ?_); ·omega))
 refine aK.go 1000 ?_
 simp only [go_sem,hlen,hx,uz,wJ,mS,List.replicate_one,aN,forall_eq,Nat.one_ne_zero]
 (repeat ((with_reducible refine And.intro ?_ ?_); ·omega))
 rw [fL]
 refine ⟨_,fx _,ah _,⟨?_,trivial⟩,Nat.one_pos,?_⟩
 ·exact H_ (Hf jY (bQ _)) _ (by simp [go_sem])
 ·rw [IA]
  refine ⟨_,_,l.length - 1,rfl,rfl,?_⟩
  have h5:=hdr [.agg [.int .i64 0, .aU]] rfl
  simp only [cq] at h5
  rw [h5]
  simp [bZ,lits]
structure Un where
 l:Tm
 r:Tm
 off:Int
def Un.aO (u:Un):ae:=.agg [.int .i64 u.l.head, .ps 2 (u.l.args.map Tm.aO), .int .i64 u.r.head, .ps 2 (u.r.args.map Tm.aO), .int .i64 u.off]
theorem D3 (u:Un):u.aO.cells=[.int .i64 u.l.head, .ps 2 (u.l.args.map Tm.aO), .int .i64 u.r.head, .ps 2 (u.r.args.map Tm.aO), .int .i64 u.off]:=rfl
theorem Jx (u:Un):u.aO = .agg [.int .i64 u.l.head, .ps 2 (u.l.args.map Tm.aO), .int .i64 u.r.head, .ps 2 (u.r.args.map Tm.aO), .int .i64 u.off]:=rfl
def iZ (l:List Un):List ae:=l.map Un.aO
theorem sq (l:List Un):(iZ l).length=l.length:=by simp [iZ]
theorem IE {n:Nat} (u:Un):u.aO.low n:=by simp [Jx,go_sem,bQ]
theorem rP {n:Nat} (l:List Un):bx n (iZ l):=uB fun x _=>IE x
theorem Lk {l:List Un} {i:Nat} (h:i<l.length):(iZ l).getD i .undef=l[i].aO:=nO h
@[go_sem] theorem Xaz (l:List Un):eI ⟨5,true,72,[.int .i64 0, .aU, .int .i64 0, .aU, .int .i64 0], .struct⟩ (iZ l)=True:=eq_true (by
 refine ⟨fun x hx=>?_,by decide,by decide,rfl⟩
 obtain ⟨t,_,rfl⟩:=cn.1 hx
 exact ⟨rfl,rfl⟩)
theorem Zz3 (σ:ai) {b cp:Nat} (c:ae) (p:Un→Bool) (l:List Un) {E:List ae} (hb:bG σ b=some (.row E 0)) (hE:∀ (i:Nat) (h:i<l.length),E.getD i .undef=l[i].aO) (wL:l.length≤E.length) (hl:l.length<2 ^ 62) (hs:bt σ.length σ) (hc:c.low σ.length)
  (hp:∀ (i:Nat) (h:i<l.length),aq Tryz.prog c [l[i].aO] σ (fun r σ'=>r = .bool (p l[i])∧σ' = σ)) :
  aq Tryz.prog (.fn 161 [] []) [.oc b 0 l.length cp 5,c] σ (fun r σ'=>r = .int .i64 (dF p l 0)∧σ' = σ):=by
 refine aq.begin (rs:=[.tmp 4]) (m:=17) 1000 Tryz.func161 rfl rfl rfl rfl rfl ?_
 simp only [go_sem]
 refine aK.c_ (ι:={i:Nat // i≤l.length∧dF p (l.drop i) i=dF p l 0}) 1000 (fun i=>fG 19 [(0, .oc b 0 l.length cp 5),(1,c),(7, .int .i64 l.length),(8, .int .i64 i.1)]) (fun _=>σ) (fun i=>l.length - i.1) ⟨0,by simp⟩ ?_ (fun _=>ah _) ?_
 ·simp only [go_sem,hc,hs]
  exact ⟨fx σ,zR hb⟩
 ·rintro ⟨i,hi,aP⟩
  by_cases bD:(i:Int)<l.length
  ·have aZ:i<l.length:=by omega
   have hd:dF p (l.drop i) i=if p l[i] then (i:Int) else dF p (l.drop (i+1)) ((i:Int)+1):=by
    rw [ao aZ];rfl
   simp only [go_sem,bD,hb,hE i aZ,D3]
   (repeat ((with_reducible refine And.intro ?_ ?_); ·omega))
   refine (hp i aZ).mono ?_
   rintro r σ' ⟨rfl,rfl⟩
   refine aK.go 1000 ?_
   cases e:p l[i] with
   | true =>
    rw [hd,e,if_pos rfl] at aP
    simp only [go_sem]
    refine aK.go 1000 ?_
    simp only [go_sem,← aP]
    rw [fL];exact ⟨σ',fx σ',ah _,hs,trivial,rfl,rfl⟩
   | false =>
    rw [hd,e,if_neg (by decide)] at aP
    simp only [go_sem]
    refine ⟨⟨i+1,aZ,aP⟩,?_,by simp only;omega⟩
    simp only [go_sem,hc,hs]
    rw [ek (by omega)];exact ⟨rfl,fx σ',zR hb⟩
  ·have dP:i=l.length:=by omega
   subst dP
   rw [aV] at aP
   simp only [go_sem,bD]
   refine aK.go 1000 ?_
   simp only [go_sem,← aP]
   rw [fL];exact ⟨σ,fx σ,ah _,hs,trivial,rfl,rfl⟩
theorem Hv {α:Type} (p : α→Bool):∀ (l:List α) (i:Int),0≤i→(dF p l i = -1∧l.filter (fun x=>!p x)=l)∨∃ k,k<l.length∧dF p l i=i+k∧(∀ x∈l.take k,p x=false)∧∀ h:k<l.length,p l[k]=true
 | [],i,_=>.inl ⟨rfl,rfl⟩
 | a :: l,i,h=>by
  by_cases c:p a=true
  ·exact .inr ⟨0,by simp,by simp [dF,c],by simp,fun _=>c⟩
  ·have c':p a=false:=by simpa using c
   rcases Hv p l (i+1) (by omega) with ⟨h1,h2⟩ | ⟨k,h1,h2,h3,h4⟩
   ·exact .inl ⟨by simp [dF,c',h1],by simp [List.filter_cons,c',h2]⟩
   ·refine .inr ⟨k+1,by simpa using h1,by simp [dF,c',h2];omega,?_,fun h=>by simpa using h4 (by simpa using h)⟩
    intro x hx
    rw [eN,aQ] at hx
    rcases hx with rfl | hx
    ·exact c'
    ·exact h3 x hx
theorem Zl0 {α:Type} (p : α→Bool) (l:List α) (h:∀ x∈l,p x=false):l.filter (fun x=>!p x)=l:=List.filter_eq_self.2 fun x hx=>by simp [h x hx]
theorem Zrx (us:List Un) (p:Un→Bool) (f:FuncId) (hl:us.length<1000000000) (hf:∀ u∈us,aJ Tryz.prog f [u.aO] (.bool (p u))) (xn:us≠[]) :
  aq Tryz.prog (.fn 137 [] []) [.os 0 0 us.length 5, .fn f [] []] [some (.row (iZ us) 0)]
  (fun r σ'=>r = .os 0 0 (us.filter fun u=>!p u).length 5∧σ'=[some (.row (iZ (us.filter fun u=>!p u)) 0)]):=by
 have nE : 0<us.length:=List.length_pos_iff.2 xn
 refine bS.v (bS.su (pre:=[]) (post:=[.fn f [] []]) (b:=0) (es:=iZ us) (fz:=0) rfl rfl (by simp [iZ]) nE fun c hc=>bS.short 0 ?_)
 refine bS.n9 (rs:=[.tmp 4]) (m:=40) 1000 Tryz.func137 rfl rfl rfl rfl ?_
 have ki:∀ (σ:ai) (u:Un),u∈us→∀ K:ae→ai→Prop,K (.bool (p u)) σ→aq Tryz.prog (.fn f [] []) [u.aO] σ K:=fun σ u hu K hk=>aq.bU [] (hf u hu) (cE _ _ _) ⟨IE u,trivial⟩ (by rw [jb];split<;>exact hk)
 have pB:∀ L:List Un,bx 1 (iZ L++List.replicate (c - us.length) (dw 5)):=fun L=>Hi (rP _) (E8 (J7 _))
 simp only [go_sem]
 refine (Zz3 _ _ p us rfl (fun i h=>?_) ?_ (by omega) ?_ ?_ (fun i h=>ki _ _ (aE h) _ ⟨rfl,rfl⟩)).mono ?_
 ·rw [sS,if_pos (by rw [sq];exact h)];exact Lk h
 ·simp [iZ]
 ·exact ⟨pB us,trivial⟩
 ·simp [go_sem]
 rintro r σ' ⟨rfl,rfl⟩
 refine aK.go 1000 ?_
 rcases Hv p us 0 (by omega) with ⟨h1,h2⟩ | ⟨k,h1,h2,h3,h4⟩
 ·simp only [go_sem,h1]
  rw [fL]
  refine ⟨_,fx _,ah _,⟨pB us,trivial⟩,Nat.one_pos,?_⟩
  rw [IA]
  refine ⟨_,_,us.length,rfl,?_⟩
  rw [bV (by rw [sq];exact ah _),a_ (by rw [sq];exact ah _),h2]
  exact ⟨rfl,rfl⟩
 ·have vg:¬ (0+(k:Int)) = -1:=by omega
  have rG:IntKind.i64.wrap ((k:Int)+1)=((k+1:Nat):Int):=by rw [ek (by omega)];omega
  have sA : 0+(k:Int)=(k:Int):=by omega
  simp only [go_sem,h2,vg,rG,sA]
  have UX:(us.take (k+1)).filter (fun u=>!p u)=us.take k:=by
   rw [eH,aA h1,Option.toList_some,List.filter_append,Zl0 p _ h3]
   simp [h4 h1]
  have amp:us.length<9223372036854775807:=by omega
  have hE:∀ (j:Nat) (G:List Un),((us.take j).filter (fun u=>!p u)).length+G.length=j→j≤us.length →
    (iZ ((us.take j).filter (fun u=>!p u)++G++us.drop j)++List.replicate (c - us.length) (dw 5)).length=c:=fun j G h1 h2=>by
   simp only [ay,sq,bz,cf];omega
  refine aK.c_ (ι:={q:Nat×List Un // q.1≤us.length∧((us.take q.1).filter (fun u=>!p u)).length+q.2.length=q.1∧q.2≠[]}) 1000
   (fun q=>fG 42 [(0, .oc 0 0 us.length c 5),(1, .fn f [] []),(4, .aU),(5, .int .i64 ((us.take q.1.1).filter (fun u=>!p u)).length),(6, .int .i64 q.1.1)])
   (fun q=>[some (.row (iZ ((us.take q.1.1).filter (fun u=>!p u)++q.1.2++us.drop q.1.1)++List.replicate (c - us.length) (dw 5)) 0)]) (fun q=>us.length - q.1.1)
   ⟨(k+1,[us[k]]),by omega,by rw [UX];simp;omega,by simp⟩ ?_ (fun _=>ah _) ?_
  ·have e0:us.take k++[us[k]]++us.drop (k+1)=us:=by simp
   have e1:(us.take k).length=k:=by simp;omega
   simp only [go_sem,UX,e0,e1,pB]
  ·rintro ⟨⟨j,G⟩,hj,hlen,hG⟩
   simp only at hj hlen hG
   have Ef:=hE j G hlen hj
   by_cases bD:(j:Int)<us.length
   ·have aZ:j<us.length:=by omega
    have eE:(iZ ((us.take j).filter (fun u=>!p u)++G++us.drop j)++List.replicate (c - us.length) (dw 5)).getD j .undef=us[j].aO:=by
     rw [sS,if_pos (by rw [sq];simp only [ay,cf];omega)]
     rw [Lk (by simp only [ay,cf];omega)]
     rw [List.getElem_append_right (by simp only [ay];omega)]
     simp only [ay,hlen,d_,List.getElem_drop,cg]
    simp only [go_sem,bD,Ef,eE,D3]
    (repeat ((with_reducible refine And.intro ?_ ?_); ·omega))
    refine ki _ us[j] (aE aZ) _ ?_
    refine aK.go 1000 ?_
    have rZ:us.take (j+1)=us.take j++[us[j]]:=by rw [eH,aA aZ];rfl
    have hdr:us.drop j=us[j] :: us.drop (j+1):=ao aZ
    have De:IntKind.i64.wrap ((j:Int)+1)=((j+1:Nat):Int):=by rw [ek (by omega)];omega
    cases hp:p us[j] with
    | true =>
     have UY:(us.take (j+1)).filter (fun u=>!p u)=(us.take j).filter (fun u=>!p u):=by rw [rZ,List.filter_append];simp [hp]
     simp only [go_sem,De]
     refine ⟨⟨(j+1,G++[us[j]]),by simp only;omega,by simp only [UY,ay,dh];omega,by simp⟩,?_,by simp only;omega⟩
     have e:(us.take j).filter (fun u=>!p u)++(G++[us[j]])++us.drop (j+1)=(us.take j).filter (fun u=>!p u)++G++us.drop j:=by rw [hdr];simp
     simp only [UY,e]
     exact ⟨⟨trivial,trivial⟩,trivial,pB _⟩
    | false =>
     have L6:(us.take (j+1)).filter (fun u=>!p u)=(us.take j).filter (fun u=>!p u)++[us[j]]:=by rw [rZ,List.filter_append];simp [hp]
     obtain ⟨g,G',rfl⟩:=List.exists_cons_of_ne_nil hG
     obtain ⟨K,Bn⟩:∃ K,(us.take j).filter (fun u=>!p u)=K:=⟨_,rfl⟩
     rw [Bn] at L6
     simp only [Bn,ax] at hlen Ef
     have hgK:(iZ (K++g :: G'++us.drop j)++List.replicate (c - us.length) (dw 5)).getD K.length .undef=g.aO:=by
      rw [sS,if_pos (by rw [sq];simp)]
      rw [Lk (by simp)];simp
     have hO:(iZ (K++g :: G'++us.drop j)++List.replicate (c - us.length) (dw 5)).set K.length us[j].aO=iZ (K++us[j] :: G'++us.drop j)++List.replicate (c - us.length) (dw 5):=by
      rw [List.set_append_left _ _ (by rw [sq];simp)]
      simp [iZ]
     have hwK:IntKind.i64.wrap ((K.length:Int)+1)=((K.length+1:Nat):Int):=by rw [ek (by omega)];omega
     simp only [go_sem,Bn,De,hwK,hgK,D3,Ef]
     (repeat ((with_reducible refine And.intro ?_ ?_); ·omega))
     refine ⟨⟨(j+1,G'++[us[j]]),by simp only;omega,by simp only [L6,ay,dh];omega,by simp⟩,?_,by simp only;omega⟩
     have C5:jh (cJ g.aO) [.int .i64 us[j].l.head, .ps 2 (List.map Tm.aO us[j].l.args), .int .i64 us[j].r.head, .ps 2 (List.map Tm.aO us[j].r.args), .int .i64 us[j].off]=us[j].aO:=rfl
     have e:K++[us[j]]++(G'++[us[j]])++us.drop (j+1)=K++us[j] :: G'++us.drop j:=by rw [hdr];simp
     rw [C5,hO]
     simp only [L6,e,ay,dh]
     exact ⟨⟨trivial,trivial⟩,trivial,pB _⟩
   ·have rr:j=us.length:=by omega
    subst rr
    rw [dm] at hlen
    obtain ⟨K,Bn⟩:∃ K,us.filter (fun u=>!p u)=K:=⟨_,rfl⟩
    simp only [dm,aV,Bn,bn] at hlen Ef
    simp only [go_sem,bD]
    refine aK.go 1000 ?_
    have hGl:us.length - K.length=G.length:=by omega
    have hG0:¬ G.length=0:=fun e=>hG (aY e)
    simp only [go_sem,dm,aV,Bn,bn,Ef,hGl,hG0,mS]
    refine ⟨⟨by omega,by omega⟩,⟨av _,by rw [bz];exact ah _,by omega,fun x hx=>?_⟩,⟨by omega,by omega⟩,?_⟩
    ·rw [(List.mem_replicate.1 hx).2];exact ⟨rfl,rfl⟩
    rw [fL]
    refine ⟨_,fx _,ah _,⟨Hf (pB _) (E8 (by simp [go_sem])),trivial⟩,Nat.one_pos,?_⟩
    rw [IA]
    refine ⟨_,_,K.length,rfl,rfl,?_⟩
    have hK1:List.take K.length (iZ (K++G))=iZ K:=by simp [iZ]
    rw [DL _ _ _ (by rw [Ef,bz];omega),cG,bV (by rw [sq];simp),hK1,bV (by rw [sq];exact ah _),
     a_ (by rw [sq];exact ah _)]
    rfl
@[go_sem] theorem Yw1:IntKind.i64.wrap 1=1:=ek (by omega)
theorem Ztt {x:ae} {R ys:List ae} (h:R.length=ys.length):cq (x :: R) 1 ys=x :: ys:=by
 rw [DL _ _ _ (by simp only [ax];omega)]
 simp only [eN,List.take_zero,bj,bh]
 rw [fJ (by simp only [ax];omega)];simp
theorem Oc (l:List (List Li)):∀ x∈cX l,x.cells.length=1∧x.cells.all ae.cF=true:=fun x hx=>by
 obtain ⟨t,_,rfl⟩:=cn.1 hx
 exact ⟨rfl,rfl⟩
theorem QD (es:List (List Li)) (c:List Li) (eg:es≠[]) (hl:es.length<1000000):bS Tryz.prog 26 [.os 1 0 es.length 1, .int .i64 0, .os 2 0 1 1] [none,some (.row (cX es) 0),some (.row [.ps 5 (lits c)] 0)]
  (fun r σ'=>r = .ps 1 (cX (c :: es))∧σ'=[none,none,none]):=by
 have nE : 0<es.length:=List.length_pos_iff.2 eg
 refine bS.su (pre:=[]) (post:=[.int .i64 0, .os 2 0 1 1]) (b:=1) (es:=cX es) (fz:=0) rfl rfl (by simp [cX]) nE fun cp F3=>?_
 refine bS.uR (rs:=[.tmp 6]) (m:=92) 1000 Tryz.func26 rfl rfl rfl rfl ?_
 have h0:¬ (0:Int)=es.length:=by omega
 obtain ⟨N,hN⟩:∃ N:Nat,N=es.length+1:=⟨_,rfl⟩
 have hw:IntKind.i64.wrap ((es.length:Int)+1)=(N:Int):=by rw [ek (by omega)];omega
 have rH:IntKind.i64.wrap (N:Int)=(N:Int):=ek (by omega)
 have gK:(cX es).length=es.length:=mH es
 by_cases hg:(cp:Int)<(N:Int)
 ·have sX:¬ N≤cp:=by omega
  have h9:N≤1000000000:=by omega
  have yh:eI ⟨1,false,24,[.aU], .slice⟩ (List.replicate N .aU):=⟨fun x hx=>by rw [(List.mem_replicate.1 hx).2];exact ⟨rfl,rfl⟩,by decide,by decide,rfl⟩
  have I_:List.take es.length (cX es++List.replicate (cp - es.length) (dw 1))=cX es:=by
   rw [bV (by rw [gK];exact ah _),a_ (by rw [gK];exact ah _)]
  have rZ:List.take N [ae.ps 5 (lits c)]=[.ps 5 (lits c)]:=a_ (by simp;omega)
  have hO:(List.replicate N ae.aU).set 0 (.ps 5 (lits c)) = .ps 5 (lits c) :: List.replicate es.length .aU:=by rw [hN,fw];rfl
  have L9:N - 1=es.length:=by omega
  have Nr:List.take es.length (cX es)=cX es:=a_ (by rw [gK];exact ah _)
  have sE:=Ztt (x:=.ps 5 (lits c)) (R:=List.replicate es.length .aU) (ys:=cX es) (by simp [cX])
  have LV:(1:Int)≤N:=by omega
  have oq : 1+es.length=N:=by omega
  have nG:es.length+1=N:=by omega
  simp only [go_sem,h0,hw,rH,hg,sX,h9,yh,av,ay,bz,gK,mS,aN,forall_eq,I_,uz,rZ,hO]
  (repeat ((with_reducible refine And.intro ?_ ?_); ·omega))
  refine aK.draw [.no, .no, .no, .no, .no, .no, .no, .no,⟨none,[3],[]⟩] 4 4 mixed rfl rfl (by decide) ?_
  simp only [go_sem,dx,L9,gK,I_,Nr,sE,mS,bz,oq,nG,LV,ay,bz]
  (repeat ((with_reducible refine And.intro ?_ ?_); ·omega))
  refine ⟨Oc es,?_⟩
  refine aK.go 1000 ?_
  simp only [go_sem]
  rw [G8]
  refine ⟨.ps 1 (cX (c :: es)),?_,by simp [go_sem,fe],rfl,rfl⟩
  simp only [go_sem,ax,gK,nG]
  have ht3:List.take N (.ps 5 (lits c) :: cX es) = .ps 5 (lits c) :: cX es:=a_ (by simp [gK];omega)
  rw [ht3]
  exact cE _ _ _
 ·have LV:(1:Int)≤N:=by omega
  have L9:N - 1=es.length:=by omega
  have oq : 1+es.length=N:=by omega
  have nG:es.length+1=N:=by omega
  simp only [go_sem,h0,hw,rH,hg,av,ay,bz,gK,LV]
  (repeat ((with_reducible refine And.intro ?_ ?_); ·omega))
  refine aq.rL (tS:=23) (tR:=4) (e:=24) (b1:=2) (b2:=1) (n1:=1) (n2:=N - 1) (sz:=1) Tryz.func59 (by kernel_rfl) (by kernel_rfl) (by kernel_rfl) (by kernel_rfl) (by kernel_rfl) Yzi (.inl rfl) (.inr ⟨_,rfl⟩) (by decide) (by decide) (by omega) rfl rfl (by decide) ?_
  refine aK.go 1000 ?_
  simp only [go_sem]
  refine aK.draw [.no, .no, .no, .no, .no, .no, .no, .no,⟨none,[1],[]⟩] 3 3 mixed rfl rfl (by decide) ?_
  have Bz:(cX es++List.replicate (cp - es.length) (dw 1)).length=cp:=by rw [ay,gK,bz];omega
  have Nt:List.take es.length (List.take N (cX es++List.replicate (cp - es.length) (dw 1)))=cX es:=by
   rw [qq,Nat.min_eq_left (by omega),bV (by rw [gK];exact ah _),a_ (by rw [gK];exact ah _)]
  generalize UU:cX es++List.replicate (cp - es.length) (dw 1)=E at *
  have sE:∀ x,List.take N ((cq E 1 (cX es)).set 0 x)=x :: cX es:=fun x=>by
   have h1:=DL (cX es) E 1 (by rw [gK,Bz];omega)
   match E,Bz with
   | [],Bz=>simp at Bz;omega
   | y :: E,Bz =>
    rw [h1]
    simp only [eN,List.take_zero,bj,bh,de,gK,oq,← nG]
    rw [bV (by rw [gK];exact ah _),a_ (by rw [gK];exact ah _)]
  have Ml:mS 1 (cX es):=Oc es
  have rZ:List.take N [ae.ps 5 (lits c)]=[.ps 5 (lits c)]:=a_ (by simp;omega)
  have Mm:mS 1 [ae.ps 5 (lits c)]:=fun x hx=>by rw [aN.1 hx];exact ⟨rfl,rfl⟩
  simp only [go_sem,dx,L9,Bz,Nt,Ml,gK,oq]
  (repeat ((with_reducible refine And.intro ?_ ?_); ·omega))
  refine aK.go 1000 ?_
  simp only [go_sem,uz,Bz,rZ,Mm]
  (repeat ((with_reducible refine And.intro ?_ ?_); ·omega))
  rw [G8]
  refine ⟨.ps 1 (cX (c :: es)),?_,by simp [go_sem,fe],rfl,rfl⟩
  simp only [go_sem,bg,uz,Bz,sE]
  exact ⟨by omega,cE _ _ _⟩
theorem PA (c:List Li):eI ⟨1,false,24,[.aU], .slice⟩ [ae.ps 5 (lits c)]:=Yso [c] ▸ trivial
theorem P4 (c:List Li):bS Tryz.prog 26 [.aU, .int .i64 0, .os 0 0 1 1] [some (.row [.ps 5 (lits c)] 0)]
  (fun r σ'=>r = .ps 1 (cX [c])∧σ'=[none]):=by
 refine bS.uR (rs:=[.tmp 6]) (m:=92) 1000 Tryz.func26 rfl rfl rfl rfl ?_
 simp only [go_sem,PA]
 (repeat ((with_reducible refine And.intro ?_ ?_); ·omega))
 rw [G8]
 refine ⟨.ps 1 (cX [c]),?_,by simp [go_sem,fe],rfl,rfl⟩
 simp only [go_sem,cX,aF,aS]
theorem Qd (c:List Li):bS Tryz.prog 26 [.os 1 0 0 1, .int .i64 0, .os 2 0 1 1] [none,some (.row [] 0),some (.row [.ps 5 (lits c)] 0)]
  (fun r σ'=>r = .ps 1 (cX [c])∧σ'=[none,none,none]):=by
 refine bS.uR (rs:=[.tmp 6]) (m:=92) 1000 Tryz.func26 rfl rfl rfl rfl ?_
 simp only [go_sem,PA]
 (repeat ((with_reducible refine And.intro ?_ ?_); ·omega))
 rw [G8]
 refine ⟨.ps 1 (cX [c]),?_,by simp [go_sem,fe],rfl,rfl⟩
 simp only [go_sem,cX,aF,aS]
def ou (c:List Li):Prop:=∀ (i:Nat) (h:i<c.length),c[i].l.size<999999999∧c[i].r.size<999999999
def cM (g:List Sy):List (List Li)→Int
 | []=>0
 | c :: l=>if bd g c≠0 then bd g c else cM g l
theorem Xm (g:List Sy) (es:List (List Li)) (c:List Li) (ow:∀ x∈c :: es,ou x) (hl:es.length<1000000):aJ Tryz.prog 106 [.ps 4 (syms g), .ps 1 (cX es), .ps 5 (lits c)] (.int .i64 (cM g (c :: es))):=by
 refine aJ.begin (rs:=[.tmp 6]) (m:=24) 1000 Tryz.func106 rfl rfl rfl (by decide) trivial ?_
 simp only [go_sem]
 have uW:(es=[]∨es≠[]):=by cases es<;>simp
 rcases uW with he | eg
 case' inl =>
  have h0:cX es=[]:=by rw [he];rfl
  have h1 : [c]=c :: es:=by rw [he]
  simp only [go_sem,h0]
  refine (bS.v Qf).mono ?_
  rintro r σ' (⟨rfl,rfl⟩ | ⟨rfl,rfl⟩)
 case' inl.inl =>
  refine aK.go 1000 ?_
  simp only [go_sem]
  refine (bS.v (P4 c)).mono ?_
  rintro r σ' ⟨rfl,rfl⟩
  rw [h1]
  refine aK.go 1000 ?_
  simp only [go_sem,mH]
 case' inl.inr =>
  refine aK.go 1000 ?_
  simp only [go_sem]
  refine (bS.v (Qd c)).mono ?_
  rintro r σ' ⟨rfl,rfl⟩
  rw [h1]
  refine aK.go 1000 ?_
  simp only [go_sem,mH]
 case' inr =>
  refine (bS.v (Q5 es eg (by omega)).1).mono ?_
  rintro r σ' ⟨rfl,rfl⟩
  refine aK.go 1000 ?_
  simp only [go_sem]
  refine (bS.v (QD es c eg hl)).mono ?_
  rintro r σ' ⟨rfl,rfl⟩
  refine aK.go 1000 ?_
  simp only [go_sem,mH]
 all_goals
  obtain ⟨L,hL⟩:∃ L,c :: es=L:=⟨_,rfl⟩
  have hlen:es.length+1=L.length:=by rw [← hL];rfl
  have jt:L.length<2000000:=by omega
  rw [hL,hlen]
  rw [hL] at ow
  refine aK.c_ (ι:={i:Nat // i≤L.length∧cM g (L.drop i)=cM g L}) 1000 (fun i=>fG 27 [(0, .ps 4 (syms g)),(6, .int .i64 0),(14, .ps 1 (cX L)),(15, .int .i64 L.length),(16, .int .i64 i.1)]) (fun _=>[]) (fun i=>L.length - i.1) ⟨0,by simp⟩ ?_ (fun _=>av _) ?_
  ·simp only [go_sem,dK,fe]
  ·rintro ⟨i,hi,aP⟩
   by_cases bD:(i:Int)<L.length
   ·have aZ:i<L.length:=by omega
    have hd:cM g (L.drop i)=if bd g L[i]≠0 then bd g L[i] else cM g (L.drop (i+1)):=by
     rw [ao aZ];rfl
    simp only [go_sem,bD,mH,y5 aZ]
    (repeat ((with_reducible refine And.intro ?_ ?_); ·omega))
    refine aq.bU [] (E0 g L[i] (ow _ (aE aZ))) (cE _ _ _) (by simp [go_sem,dK,cr]) ?_;simp only [bO,bX,bW,if_true];refine aK.go 1000 ?_
    by_cases c0:bd g L[i]=0
    ·simp only [go_sem,c0]
     refine ⟨⟨i+1,aZ,by rw [← aP,hd,if_neg (by simp [c0])]⟩,?_,by simp only;omega⟩
     simp only [go_sem,dK,fe]
     rw [ek (by omega)];rfl
    ·simp only [go_sem,c0]
     refine aK.go 1000 ?_
     rw [hd,if_pos c0] at aP
     simp only [go_sem,aP]
   ·have:i=L.length:=by omega
    subst this
    rw [aV] at aP
    simp only [go_sem,bD]
    refine aK.go 1000 ?_
    simp only [go_sem,← aP,cM]
@[go_sem] theorem Yqu {π:Nat→Nat} {b sz:Nat} {l:List ae}:dG π (i_ b sz l)=i_ (π b) sz l:=by cases l<;>rfl
@[go_sem] theorem sn {n b sz:Nat} {l:List ae} (h:b<n):ae.low n (i_ b sz l)=True:=eq_true (Be h sz l)
@[go_sem] theorem Yts {n:Nat} {l:List ae} {r:ai}:bt n (eV l :: r)=(bx n l∧bt n r):=by
 cases l with
 | nil=>simp [eV,bt,jg,bx]
 | cons x l=>rfl
@[go_sem] theorem Hz {π:Nat→Nat} {σ r:ai} {i:Nat} {l:List ae} (h:bx 0 l):gj π σ i (eV l :: r)=((l=[]∨bG σ (π i)=eV l)∧gj π σ (i+1) r):=by
 cases l with
 | nil=>simp [eV,Hu]
 | cons x l=>rw [eV,Hx];simp only [dE,cD h];simp
def within (a b:Tm):Bool:=a.vars.all fun v=>decide (v∈b.vars)
def fE (u:Un):Bool:=decide (u.l.head=0) || !within u.r u.l
def zr (t:Tm):Prop:=t.fit∧t.size<99999999
def Je (c:List Li):Prop:=∀ l∈c,zr l.l∧zr l.r
theorem Wb (σ:ai) (b:Nat) (vs:List Int) (hb:bG σ b=some (.var [.ps 1 (ints vs)])) (v:Int) (hs:bt σ.length σ) (hl:vs.length<2 ^ 62) :
  aq Tryz.prog (.fn 164 [] [.ptr b 0]) [.int .i64 v] σ (fun r σ'=>r = .bool (!decide (v∈vs))∧σ' = σ):=by
 refine aq.begin (rs:=[.tmp 3]) (m:=6) 1000 Tryz.func164 rfl rfl rfl rfl rfl ?_
 simp only [go_sem,hb]
 refine aq.bU [] (Hb vs v hl) (cE _ _ _) (by simp [go_sem,du]) ?_
 rw [jb];simp only [ite_self]
 refine aK.go 1000 ?_
 simp only [go_sem]
 rw [fL];exact ⟨σ,fx σ,ah _,hs,trivial,rfl,rfl⟩
theorem Zy9 (a b:Tm) (ha:zr a) (hb:zr b):aJ Tryz.prog 139 [a.aO,b.aO] (.bool (within a b)):=by
 refine aJ.begin (rs:=[.tmp 4]) (m:=11) 1000 Tryz.func139 rfl rfl rfl (by decide) trivial ?_
 have Ex:=KN a
 have hvb:=KN b
 have h1:=ha.2
 have h2:=hb.2
 simp only [go_sem,dc]
 refine aq.bU [] (TS b hb.1 (by omega)) (by (try simp only [dc]);exact cE _ _ _) (by simp [go_sem,dC,bQ]) ?_;rw [jb];simp only [ite_self];refine aK.go 1000 ?_
 simp only [go_sem]
 refine aq.bU [] (TS a ha.1 (by omega)) (by (try simp only [dc]);exact cE _ _ _) (by simp [go_sem,dC,bQ]) ?_;rw [jb];simp only [ite_self];refine aK.go 1000 ?_
 simp only [go_sem]
 refine (Zm6 _ _ (fun v=>!decide (v∈b.vars)) a.vars (by omega) ?_ ?_ (fun i h=>Wb _ 2 b.vars rfl _ ?_ (by omega))).mono ?_
 ·simp [go_sem,bQ,du]
 ·simp [go_sem]
 ·simp [go_sem,bQ,du]
 rintro r σ' ⟨rfl,rfl⟩
 refine aK.go 1000 ?_
 simp only [go_sem]
 simp [within,List.all_eq_not_any_not]
theorem Yx (u:Un) (hl:zr u.l) (hr:zr u.r):aJ Tryz.prog 138 [u.aO] (.bool (fE u)):=by
 refine aJ.begin (rs:=[.tmp 2]) (m:=14) 1000 Tryz.func138 rfl rfl rfl (by decide) trivial ?_
 by_cases h0:u.l.head=0
 ·simp only [go_sem,Jx,h0,fE]
 ·simp only [go_sem,Jx,h0,fE]
  refine aq.bU [] (Zy9 u.r u.l hr hl) (by (try simp only [dc]);exact cE _ _ _) (by simp [go_sem,dC,bQ]) ?_;simp only [bO,bX,bW,if_true];refine aK.go 1000 ?_
  simp only [go_sem]
theorem Zv1 (σ:ai) (c:ae) (hs:bt σ.length σ) (hc:c.low σ.length) :
  aq Tryz.prog (.fn 161 [] []) [.aU,c] σ (fun r σ'=>r = .int .i64 (-1)∧σ' = σ):=by
 refine aq.begin (rs:=[.tmp 4]) (m:=17) 1000 Tryz.func161 rfl rfl rfl rfl rfl ?_
 simp only [go_sem]
 refine aK.c_ (ι:=Unit) 1000 (fun _=>fG 19 [(0, .aU),(1,c),(7, .int .i64 0),(8, .int .i64 0)]) (fun _=>σ) (fun _=>0) () ?_ (fun _=>ah _) ?_
 ·simp only [go_sem,hc,hs]
  exact fx σ
 ·rintro ⟨⟩
  simp only [go_sem]
  refine aK.go 1000 ?_
  simp only [go_sem]
  rw [fL];exact ⟨σ,fx σ,ah _,hs,trivial,rfl,rfl⟩
theorem Zme (σ:ai) (c:ae) (hs:bt σ.length σ) (hc:c.low σ.length) :
  aq Tryz.prog (.fn 137 [] []) [.aU,c] σ (fun r σ'=>r = .aU∧σ' = σ):=by
 refine aq.begin (rs:=[.tmp 4]) (m:=40) 1000 Tryz.func137 rfl rfl rfl rfl rfl ?_
 simp only [go_sem]
 refine (Zv1 σ c hs hc).mono ?_
 rintro r σ' ⟨rfl,rfl⟩
 refine aK.go 1000 ?_
 simp only [go_sem]
 rw [fL];exact ⟨σ',fx σ',ah _,hs,trivial,rfl,rfl⟩
def vK (c:List Li) (i:Nat):List Un :=
 match c with
 | [e]=>if e.neg then [] else [⟨e.l,e.r,(i:Int)⟩,⟨e.r,e.l,(i:Int)⟩]
 | _=>[]
def la:List (List Li)→Nat→List Un
 | [],_=>[]
 | c :: l,i=>vK c i++la l (i+1)
def cU (es:List (List Li)):List Un:=(la es 0).filter fun u=>!fE u
theorem Yp5 (c:List Li) (i:Nat):(vK c i).length≤2:=by
 unfold vK;split
 ·split<;>simp
 ·simp
theorem Ywb {c:List Li} {i:Nat} (h:Je c):∀ u∈vK c i,zr u.l∧zr u.r:=by
 intro u hu
 unfold vK at hu
 split at hu
 ·rename_i e
  have he:=h e (by simp)
  split at hu
  ·cases hu
  ·rcases aQ.1 hu with rfl | hu
   ·exact he
   ·rcases aQ.1 hu with rfl | hu
    ·exact ⟨he.2,he.1⟩
    ·cases hu
 ·cases hu
theorem O6:∀ (l:List (List Li)) (i:Nat),(∀ c∈l,Je c)→∀ u∈la l i,zr u.l∧zr u.r
 | [],_,_,u,hu=>by simp [la] at hu
 | c :: l,i,h,u,hu=>by
  rw [la,aW] at hu
  rcases hu with hu | hu
  ·exact Ywb (h c (by simp)) u hu
  ·exact O6 l (i+1) (fun c hc=>h c (by simp [hc])) u hu
theorem WQ (es:List (List Li)) (hl:es.length<1000000) (ho:∀ c∈es,Je c):aJ Tryz.prog 107 [.ps 1 (cX es)] (.ps 5 (iZ (cU es))):=by
 refine aJ.begin (rs:=[.tmp 2]) (m:=48) 1000 Tryz.func107 rfl rfl rfl (by decide) (rP _) ?_
 simp only [go_sem,mH]
 refine aK.h_ (ι:={p:Nat×List Un // p.1≤es.length∧p.2++la (es.drop p.1) p.1=la es 0∧p.2.length≤2*p.1}) 1000 (fun p=>fG 49 [(2, .aU),(3,i_ 0 5 (iZ p.1.2)),(6, .ps 1 (cX es)),(7, .int .i64 es.length),(8, .int .i64 p.1.1)]) (fun p=>[eV (iZ p.1.2)]) (fun p=>es.length - p.1.1) ⟨(0,[]),by simp⟩ [] ?_ (fun _=>by simp) ?_
 ·refine iP rfl ?_
  simp only [go_sem,iZ,aS,uD,tz,fe,cD (fe _)]
 ·rintro ⟨⟨i,L⟩,hi,aP,hL⟩
  simp only at hi aP hL
  by_cases bD:(i:Int)<es.length
  ·have aZ:i<es.length:=by omega
   have hd:la (es.drop i) i=vK es[i] i++la (es.drop (i+1)) (i+1):=by
    rw [ao aZ];rfl
   rw [hd] at aP
   have hw:IntKind.i64.wrap ((i:Int)+1)=((i+1:Nat):Int):=by rw [ek (by omega)];omega
   have xY:=y5 aZ
   obtain ⟨c,hc⟩:∃ c,es[i]=c:=⟨_,rfl⟩
   simp only [hc] at aP xY
   have same:vK c i=[]→L++la (es.drop (i+1)) (i+1)=la es 0:=fun h=>by rw [← aP,h];rfl
   by_cases c1:(c.length:Int)=1
   ·obtain ⟨e,rfl⟩:=List.length_eq_one_iff.1 (show c.length=1 by omega)
    cases fN:e.neg with
    | true =>
     simp only [go_sem,bD,mH,xY,lits,aF,aS,ky,fN,hw]
     refine ⟨by omega,⟨(i+1,L),by simp only;omega,same (by simp [vK,fN]),by simp only;omega⟩,[],iP rfl ?_,by simp only;omega⟩
     simp only [go_sem,fe,rP,cD (fe _)]
    | false =>
     simp only [go_sem,bD,mH,xY,lits,aF,aS,ky,fN,hw]
     refine ⟨by omega,?_⟩
     refine aK.draw [⟨none,[],[1]⟩, .no, .no, .no, .no, .no, .no, .no, .no, .no, .no, .no, .no, .no, .no, .no, .no, .no, .no, .no, .no,⟨some 1,[1],[]⟩,⟨some 2,[0,2],[]⟩] 1 3 mixed rfl rfl (by decide) ?_
     simp only [go_sem,dx,ky,K_,eI,aQ,en,forall_eq_or_imp,forall_eq,ef,sq]
     refine ⟨by omega,?_⟩
     refine aK.go 1000 ?_
     simp only [go_sem]
     have hu:vK [e] i=[⟨e.l,e.r,(i:Int)⟩,⟨e.r,e.l,(i:Int)⟩]:=by simp [vK,fN]
     rw [hu] at aP
     refine ⟨⟨(i+1,L++[⟨e.l,e.r,(i:Int)⟩,⟨e.r,e.l,(i:Int)⟩]),by simp only;omega,by rw [← aP];simp,by simp only [ay,ax,aR];omega⟩,[(0,2),(2,0)],iP rfl ?_,by simp only;omega⟩
     have e1:iZ (L++[⟨e.l,e.r,(i:Int)⟩,⟨e.r,e.l,(i:Int)⟩])=iZ L++[Un.aO ⟨e.l,e.r,(i:Int)⟩,Un.aO ⟨e.r,e.l,(i:Int)⟩]:=by simp [iZ]
     have lw:bx 0 (iZ (L++[⟨e.l,e.r,(i:Int)⟩,⟨e.r,e.l,(i:Int)⟩])):=rP _
     rw [e1] at lw ⊢
     rw [vQ (by simp),vS (by simp)]
     simp only [go_sem,fe,rP,cD (fe _),cD lw,il (av 1) lw,sq]
     rw [hw];exact ⟨rfl,rfl⟩
   ·have c2:vK c i=[]:=by
     unfold vK;split
     ·simp at c1
     ·rfl
    simp only [go_sem,bD,mH,xY,fP,c1,hw]
    refine ⟨by omega,⟨(i+1,L),by simp only;omega,same c2,by simp only;omega⟩,[],iP rfl ?_,by simp only;omega⟩
    simp only [go_sem,fe,rP,cD (fe _)]
  ·have dP:i=es.length:=by omega
   subst dP
   rw [aV,la,bn] at aP
   have yq:cU es=L.filter fun u=>!fE u:=by rw [cU,← aP]
   have j9:=O6 es 0 ho
   rw [← aP] at j9
   simp only [go_sem,bD]
   refine aK.go 1000 ?_
   by_cases za:L=[]
   ·simp only [go_sem,za,iZ,aS,uD,tz]
    refine (Zme _ _ (by simp [go_sem]) (by simp [go_sem])).mono ?_
    rintro r σ' ⟨rfl,rfl⟩
    refine aK.go 1000 ?_
    rw [yq,za]
    simp only [go_sem,List.filter_nil,aS]
   ·have eg:iZ L≠[]:=by simp [iZ,za]
    rw [Ck eg,Bg eg,sq]
    simp only [go_sem]
    refine (Zrx L fE 138 (by omega) (fun u hu=>Yx u (j9 u hu).1 (j9 u hu).2) za).mono ?_
    rintro r σ' ⟨rfl,rfl⟩
    refine aK.go 1000 ?_
    rw [yq]
    simp only [go_sem,sq]
    rw [a_ (by rw [sq];exact ah _)]
    exact cE _ _ _
end Go.Proofs
namespace Go.c8
open Go
theorem fR.qU {w:World} {M:Nat→Nat→Prop} {β β':Env} {π:Nat→Nat} {n:Nat} {L:Loc} {cd:bE} (h:fR w M β' L cd) (hl:cd.low n) (hβ:∀ b,b<n→β (π b) = β' b):fR w M β L (dE π cd):=by
 cases cd with
 | var cs =>
  obtain ⟨c,e,h1,h0,h2,h3⟩:=h
  exact ⟨c,e,h1,h0,by rw [jw];exact h2,fun k hk=>by rw [jw] at hk;rw [lG];exact (h3 k hk).qU (iW hl k) hβ⟩
 | row es fz =>
  obtain ⟨c,e,h1,h2,h3,h4,h5⟩:=h
  exact ⟨c,e,h1,h2,by rw [jw];exact h3,fun i hi=>by rw [jw] at hi;rw [lG,A8,jw];exact h4 i hi,fun i j hi hj=>by
   rw [jw] at hi;rw [lG,A8,lG];exact (h5 i j hi hj).qU (iW (DY (iW hl i)) j) hβ⟩
 | map ks vs f =>
  obtain ⟨es,clk,h1,h2,h3,h4,h5,h6⟩:=h
  exact ⟨es,clk,h1,by rw [jw];exact h2,by rw [jw,jw];exact h3,fun k hk=>by rw [jw] at hk;rw [lG];exact (h4 k hk).qU (iW hl.1 k) hβ,fun k hk=>by rw [jw] at hk;rw [lG];exact (h5 k hk).qU (iW hl.2 k) hβ,h6⟩
 | iter s p=>exact h
 | kZ ks vs seen =>
  obtain ⟨m,es,clk,h1,h2,h3,h4,h5,h6,h7,h8,h9⟩:=h
  exact ⟨m,es,clk,h1,h2,h3,by rw [jw];exact h4,by rw [jw,jw];exact h5,fun k hk=>by rw [jw] at hk;rw [lG];exact (h6 k hk).qU (iW hl.1 k) hβ,fun k hk=>by rw [jw] at hk;rw [lG];exact (h7 k hk).qU (iW hl.2 k) hβ,h8,fun i hi=>by rw [jw];exact h9 i hi⟩
 | loop r =>
  obtain ⟨t,d,f,h1,h2,h3⟩:=h
  exact ⟨t,d,f,h1,by simp only [jw];exact h2,fun k hk=>by simp only [jw] at hk;rw [lG];exact (h3 k hk).qU (iW hl k) hβ⟩
def mY (ι:Nat→Nat) (n m b:Nat):Nat:=if b<n then ι b else b - n+m
def e9 (ι π:Nat→Nat):Nat→ai→ai→ai
 | _,[],σ=>σ
 | i,x :: r,σ=>e9 ι π (i+1) r (σ.set (ι i) (x.map (dE π)))
def jJ (ι:Nat→Nat) (n:Nat) (Z' σ:ai):ai:=e9 ι (mY ι n σ.length) 0 (Z'.take n) σ++(Z'.drop n).map (Option.map (dE (mY ι n σ.length)))
section
variable {ι π:Nat→Nat} {n m:Nat}
theorem DJ:∀ (r σ:ai) (i:Nat),(e9 ι π i r σ).length = σ.length
 | [],_,_=>rfl
 | x :: r,σ,i=>by rw [e9,DJ r _ (i+1),bg]
theorem Zip:∀ (r σ:ai) (i c:Nat),(∀ b,b<r.length→ι (i+b)≠c)→(e9 ι π i r σ)[c]? = σ[c]?
 | [],_,_,_,_=>rfl
 | x :: r,σ,i,c,h=>by
  rw [e9,Zip r _ (i+1) c (fun b hb=>by have:=h (b+1) (by simpa using hb);rwa [show i+(b+1)=i+1+b by omega] at this),bL (by simpa using h 0 (by simp))]
theorem Rx:∀ (r σ:ai) (i b:Nat),(∀ a a',a<r.length→a'<r.length→ι (i+a) = ι (i+a')→a=a')→b<r.length→ι (i+b) < σ.length→(e9 ι π i r σ)[ι (i+b)]? = (r[b]?).map (Option.map (dE π))
 | [],_,_,b,_,hb,_=>absurd hb (by simp)
 | x :: r,σ,i,0,hinj,_,bD=>by
  rw [e9,Zip]
  ·simp only [cg] at bD ⊢
   rw [fK bD];rfl
  ·intro a ha e
   have:=hinj (a+1) 0 (by simpa using ha) (by simp) (by rw [show i+(a+1)=i+1+a by omega];exact e)
   omega
 | x :: r,σ,i,b+1,hinj,hb,bD=>by
  have e:i+(b+1)=i+1+b:=by omega
  rw [e] at bD ⊢
  rw [e9,Rx r _ (i+1) b (fun a a' ha ha' h=>by
   have:=hinj (a+1) (a'+1) (by simpa using ha) (by simpa using ha') (by rw [show i+(a+1)=i+1+a by omega,show i+(a'+1)=i+1+a' by omega];exact h)
   omega) (by simpa using hb) (by rw [bg];exact bD)]
  simp
theorem D0 {Z' σ:ai} (h:n≤Z'.length):(jJ ι n Z' σ).length = σ.length+(Z'.length - n):=by simp [jJ,DJ]
variable (ta:∀ b b',b<n→b'<n→ι b = ι b'→b=b') (hb:∀ b,b<n→ι b<m)
include ta hb
theorem Cb {Z' σ:ai} (hm : σ.length=m) (h:n≤Z'.length) {b:Nat} (Eg:b<Z'.length):(jJ ι n Z' σ)[mY ι n m b]? = (Z'[b]?).map (Option.map (dE (mY ι n m))):=by
 unfold jJ mY
 subst hm
 by_cases mf:b<n
 ·rw [if_pos mf,ck (by rw [DJ];exact hb b mf)]
  have:=Rx (ι:=ι) (π:=mY ι n σ.length) (Z'.take n) σ 0 b (fun a a' ha ha' e=>ta a a' (by simp at ha;omega) (by simp at ha';omega) (by simpa using e)) (by simp;omega) (by simpa using hb b mf)
  rw [bm] at this
  rw [show (fun b=>if b<n then ι b else b - n + σ.length)=mY ι n σ.length from rfl,this,eZ,if_pos mf]
 ·rw [if_neg mf,bJ (by rw [DJ];omega),DJ,show b - n + σ.length - σ.length=b - n by omega,cb,dH,show n+(b - n)=b by omega]
omit ta hb in
theorem K3 {Z' σ:ai} {c:Nat} (hc:c < σ.length) (h:∀ b,b<n→ι b≠c):(jJ ι n Z' σ)[c]? = σ[c]?:=by
 unfold jJ
 rw [ck (by rw [DJ];exact hc),Zip]
 intro b hb
 rw [bm]
 exact h b (by simp at hb;omega)
end
section
variable {P:Program}
theorem aq.many {F:Frame→List Frame→Sem Next→World→Value→World→Prop} {f:ae} {args:List ae} {K:ae→ai→Prop} {Z σ:ai} (ι:Nat→Nat) (ta:∀ b b',b<Z.length→b'<Z.length→ι b = ι b'→b=b') (hb:∀ b,b<Z.length→ι b < σ.length)
  (vA:∀ c x,σ[c]? = some (some x)↔∃ b y,b<Z.length∧ι b=c∧Z[b]? = some (some y)∧x=dE ι y) (hf:f.low Z.length) (ha:bx Z.length args) (hs:bt Z.length Z)
  (h:dp P F f args Z (fun r Z'=>Z.length≤Z'.length∧bt Z'.length Z'∧r.low Z'.length∧K (dG (mY ι Z.length σ.length) r) (jJ ι Z.length Z' σ))):dp P F (dG ι f) (dU ι args) σ K:=by
 intro X base β w vf vs h1 nB h2 h3 fr cs h4
 rw [jw] at h2 h3
 generalize hn:Z.length=n at *
 have vn:∀ b y,Z[b]? = some (some y)→b<n∧σ[ι b]? = some (some (dE ι y)):=fun b y hz=>by
  have bD:b<n:=by rw [← hn];exact (aI.1 hz).1
  exact ⟨bD,(vA _ _).2 ⟨b,y,bD,rfl,hz,rfl⟩⟩
 have he:∀ b,b<n→jK β ι n b = β (ι b):=fun b hb=>if_pos hb
 have hm:∀ g o,iO σ β g o↔iO Z (jK β ι n) g o:=fun g o=>by
  constructor
  ·rintro ⟨c,x,L,m1,m2,m3,m4⟩
   obtain ⟨b,y,q1,rfl,q3,rfl⟩:=(vA c x).1 m1
   exact ⟨b,y,L,q3,by rw [he b q1];exact m2,m3,Ce.mp m4⟩
  ·rintro ⟨b,y,L,m1,m2,m3,m4⟩
   obtain ⟨q1,q2⟩:=vn b y m1
   exact ⟨ι b,_,L,q2,by rw [← he b q1];exact m2,m3,Ce.mpr m4⟩
 have hM:MT X Z (jK β ι n)=MT X σ β:=funext fun g=>funext fun o=>propext (or_congr Iff.rfl (hm g o).symm)
 have hr:cC X base Z (jK β ι n) w:=by
  refine ⟨fun b hb=>if_neg (by omega),fun b x Eg=>?_,fun b b' x y L L' e1 e2 e3 e4 e5=>?_,h1.size,h1.pW,h1.gl⟩
  ·obtain ⟨q1,q2⟩:=vn b x Eg
   obtain ⟨L,l1,l2,l3,l4⟩:=h1.cd _ _ q2
   refine ⟨L,by rw [he b q1];exact l1,l2,l3,?_⟩
   rw [hM]
   exact l4.dG (qs hs b x Eg)
  ·obtain ⟨q1,q2⟩:=vn b x e1
   obtain ⟨q3,q4⟩:=vn b' y e2
   rw [he b q1] at e3
   rw [he b' q3] at e4
   exact ta b b' q1 q3 (h1.inj _ _ _ _ L L' q2 q4 e3 e4 e5)
 have nS:bR w (MT X σ β) (jK β ι n) vf f:=bR.dG nB _ rfl hf
 have ha':∀ k,k<args.length→bR w (MT X σ β) (jK β ι n) (vs.getD k undef) (args.getD k .undef):=fun k hk=>by
  have:=h3 k hk
  rw [lG] at this
  exact bR.dG this _ rfl (iW ha k)
 rw [← hM] at nS ha'
 obtain ⟨r,Z',β',v,w',⟨q0,q1,q2,q3⟩,g1,g2,g3,g4,g5⟩:=h X base _ w vf vs hr nS h2 ha' fr cs h4
 rw [hn] at g3
 generalize Er : σ.length=m at *
 let EI:Env:=fun c=>if c<m then β c else β' (c - m+n)
 have eb:∀ b,EI (mY ι n m b) = β' b:=fun b=>by
  simp only [EI,mY]
  by_cases mf:b<n
  ·rw [if_pos mf,if_pos (hb b mf),g3.env b mf,he b mf]
  ·rw [if_neg mf,if_neg (by omega),show b - n+m - m+n=b by omega]
 have mI:∀ c x,(jJ ι n Z' σ)[c]? = some (some x)→∃ b y,c=mY ι n m b∧Z'[b]? = some (some y)∧x=dE (mY ι n m) y:=fun c x hc=>by
  have bD:=(aI.1 hc).1
  rw [D0 q0,Er] at bD
  by_cases IZ:c<m
  ·by_cases hex:∃ b,b<n∧ι b=c
   ·obtain ⟨b,mf,rfl⟩:=hex
    have:=Cb (ι:=ι) ta hb (Z':=Z') Er q0 (b:=b) (by omega)
    rw [show mY ι n m b = ι b from if_pos mf,hc] at this
    obtain ⟨o,h1,h2⟩:=aH.1 this.symm
    obtain ⟨y,rfl,h3⟩:=aH.1 h2
    exact ⟨b,y,(if_pos mf).symm,h1,h3.symm⟩
   ·rw [K3 (by omega) (fun b mf e=>hex ⟨b,mf,e⟩)] at hc
    obtain ⟨b,y,p1,p2,_⟩:=(vA c x).1 hc
    exact absurd ⟨b,p1,p2⟩ hex
  ·have e:mY ι n m (c - m+n)=c:=by unfold mY;rw [if_neg (by omega)];omega
   have:=Cb (ι:=ι) ta hb (Z':=Z') Er q0 (b:=c - m+n) (by omega)
   rw [e,hc] at this
   obtain ⟨o,h1,h2⟩:=aH.1 this.symm
   obtain ⟨y,rfl,h3⟩:=aH.1 h2
   exact ⟨_,y,e.symm,h1,h3.symm⟩
 have fp:∀ b y,Z'[b]? = some (some y)→(jJ ι n Z' σ)[mY ι n m b]? = some (some (dE (mY ι n m) y)):=fun b y Eg=>by
  rw [Cb ta hb Er q0 (aI.1 Eg).1,Eg];rfl
 have Ar:∀ g o,iO (jJ ι n Z' σ) EI g o↔iO Z' β' g o:=fun g o=>by
  constructor
  ·rintro ⟨c,x,L,m1,m2,m3,m4⟩
   obtain ⟨b,y,rfl,p2,rfl⟩:=mI c x m1
   exact ⟨b,y,L,p2,by rw [← eb];exact m2,m3,Ce.mp m4⟩
  ·rintro ⟨b,y,L,m1,m2,m3,m4⟩
   exact ⟨_,_,L,fp b y m1,by rw [eb];exact m2,m3,Ce.mpr m4⟩
 have FU:MT X Z' β'=MT X (jJ ι n Z' σ) EI:=funext fun g=>funext fun o=>propext (or_congr Iff.rfl (Ar g o).symm)
 refine ⟨_,jJ ι n Z' σ,EI,v,w',q3,?_,?_,?_,by rw [D0 q0,Er];omega,g5⟩
 ·refine ⟨fun c hc=>?_,fun c x hc=>?_,fun c c' x y L L' e1 e2 e3 e4 e5=>?_,g1.size,g1.pW,g1.gl⟩
  ·rw [D0 q0,Er] at hc
   simp only [EI]
   rw [if_neg (by omega)]
   exact g1.nA _ (by omega)
  ·obtain ⟨b,y,rfl,p2,rfl⟩:=mI c x hc
   obtain ⟨L,k1,k2,k3,k4⟩:=g1.cd b y p2
   refine ⟨L,by rw [eb];exact k1,k2,k3,?_⟩
   rw [← FU]
   exact k4.qU (π:=mY ι n m) (qs q1 b y p2) fun b _=>eb b
  ·obtain ⟨b,u,rfl,p2,rfl⟩:=mI c x e1
   obtain ⟨b',u',rfl,p2',rfl⟩:=mI c' y e2
   rw [eb] at e3 e4
   rw [g1.inj b b' u u' L L' p2 p2' e3 e4 e5]
 ·rw [← FU]
  exact g2.qU (π:=mY ι n m) q2 fun b _=>eb b
 ·exact ⟨g3.os,g3.tape,g3.output,g3.size,fun g o x hc hn=>g3.cell g o x hc fun hx=>hn ((hm g o).2 hx),fun g hg hn=>g3.block g hg fun o hx=>hn o ((hm g o).2 hx),fun g o hx=>(g3.iB g o ((Ar g o).1 hx)).imp (hm g o).2 id,fun c hc=>if_pos hc⟩
theorem aq.xI {F:Frame→List Frame→Sem Next→World→Value→World→Prop} {f:ae} {args:List ae} {K:ae→ai→Prop} {Z σ:ai} (ι:Nat→Nat) (ta:∀ b b',b<Z.length→b'<Z.length→ι b = ι b'→b=b') (hb:∀ b,b<Z.length→ι b < σ.length)
  (vA:∀ b,b<Z.length→∃ o,Z[b]? = some o∧σ[ι b]? = some (o.map (dE ι))) (hf:f.low Z.length) (ha:bx Z.length args) (hs:bt Z.length Z)
  (h:dp P F f args Z (fun r Z'=>Z.length≤Z'.length∧bt Z'.length Z'∧r.low Z'.length∧K (dG (mY ι Z.length σ.length) r) (jJ ι Z.length Z' σ))):dp P F (dG ι f) (dU ι args) σ K:=by
 let vis:Nat→Bool:=fun c=>(List.range Z.length).any fun b=>ι b==c
 have uf:∀ c,vis c=true↔∃ b,b<Z.length∧ι b=c:=fun c=>by simp [vis]
 refine aq.frame vis (K':=fun r iM=>∃ Z',Z.length≤Z'.length∧iM=jJ ι Z.length Z' (eB vis 0 σ)∧K r (jJ ι Z.length Z' σ)) ?_ ?_
 ·have hl:(eB vis 0 σ).length = σ.length:=rA _ _ _
  refine aq.many ι ta (by rw [hl];exact hb) (fun c x=>?_) hf ha hs (h.mono ?_)
  ·rw [vO,bm]
   constructor
   ·intro hx
    obtain ⟨o,h1,h2⟩:=aH.1 hx
    split at h2
    ·rename_i hv
     obtain ⟨b,mf,rfl⟩:=(uf c).1 hv
     obtain ⟨z,rv,ry⟩:=vA b mf
     rw [h1] at ry
     subst h2
     obtain ⟨y,rfl,e⟩:=aH.1 (aM ry).symm
     exact ⟨b,y,mf,rfl,rv,e.symm⟩
    ·cases h2
   ·rintro ⟨b,y,mf,rfl,hz,rfl⟩
    obtain ⟨z,rv,ry⟩:=vA b mf
    rw [hz] at rv
    cases rv
    rw [ry,bu,if_pos ((uf _).2 ⟨b,mf,rfl⟩)];rfl
  ·rintro r Z' ⟨q0,q1,q2,q3⟩
   rw [hl]
   exact ⟨q0,q1,q2,Z',q0,rfl,q3⟩
 ·rintro r iM ⟨Z',q0,rfl,q3⟩
  have hl:(eB vis 0 σ).length = σ.length:=rA _ _ _
  refine ⟨fun c hc hv=>?_,?_⟩
  ·rw [K3 (by rw [hl];exact hc) (fun b mf e=>by rw [(uf c).2 ⟨b,mf,e⟩] at hv;cases hv),vO,bm,aA hc]
   simp [hv]
  ·have e:gR vis 0 (jJ ι Z.length Z' (eB vis 0 σ)) σ=jJ ι Z.length Z' σ:=by
    refine bP fun c=>?_
    rw [DS vis _ σ 0 c (by rw [D0 q0,hl];omega),bm]
    by_cases hc:c < σ.length
    ·cases hv:vis c with
     | false =>
      rw [if_pos ⟨hc,rfl⟩,K3 hc (fun b mf e=>by rw [(uf c).2 ⟨b,mf,e⟩] at hv;cases hv)]
     | true =>
      rw [if_neg (by simp)]
      obtain ⟨b,mf,rfl⟩:=(uf c).1 hv
      have e1:=Cb (ι:=ι) ta (m:=(eB vis 0 σ).length) (fun b mf=>by rw [hl];exact hb b mf) (Z':=Z') rfl q0 (b:=b) (by omega)
      have e2:=Cb (ι:=ι) ta (m:=σ.length) hb (Z':=Z') rfl q0 (b:=b) (by omega)
      rw [hl] at e1
      rw [show mY ι Z.length σ.length b = ι b from if_pos mf] at e1 e2
      rw [e1,e2]
    ·rw [if_neg (fun h=>hc h.1)]
     by_cases kY:c < σ.length+(Z'.length - Z.length)
     ·have e0:mY ι Z.length σ.length (c - σ.length+Z.length)=c:=by unfold mY;rw [if_neg (by omega)];omega
      have e1:=Cb (ι:=ι) ta (m:=(eB vis 0 σ).length) (fun b mf=>by rw [hl];exact hb b mf) (Z':=Z') rfl q0 (b:=c - σ.length+Z.length) (by omega)
      have e2:=Cb (ι:=ι) ta (m:=σ.length) hb (Z':=Z') rfl q0 (b:=c - σ.length+Z.length) (by omega)
      rw [hl] at e1
      rw [e0] at e1 e2
      rw [e1,e2]
     ·rw [bq (by rw [D0 q0,hl];omega),bq (by rw [D0 q0];omega)]
   rw [e];exact q3
end
section
variable {P:Program} {lo:Ctx} {Q:b9→St→Prop} {ops:Array Oper} {fs:List Fp} {n0 N:Nat} {TM:Nat→List ae} {SS:Nat→ai} {X:Nat→Nat→Prop} {base mb:Nat} {D:List Deferred}
def kF (P:Program) (lo:Ctx) (X:Nat→Nat→Prop) (base mb:Nat) (D:List Deferred) (b:Frame) (k:List Item) (cs:List Frame) (R:ai→Env→World→Machine→Prop) (z:Option Nat) (zz:List ae) (xw σ:ai) (β:Env) (w:World) (m:Machine):Prop :=
 (z=none∧∃ β' a' w',Rel X base mb D ⟨zz,xw⟩ β' a' w'∧Ext lo.n σ β w xw β' w'∧Steps P m (lone (b.atR a' k) cs w'))∨z≠none∧R σ β w m
theorem kF.of {R:ai→Env→World→Machine→Prop} (hR:∀ {σ dg:ai} {β eO:Env} {w w1:World} {m m1:Machine},Ext lo.n σ β w dg eO w1→Steps P m m1→R dg eO w1 m1→R σ β w m) {b:Frame} {k:List Item} {cs:List Frame} {z:Option Nat} {zz:List ae} {xw σ σ':ai} {β eO:Env} {w w1:World} {m m1:Machine} (he:Ext lo.n σ β w σ' eO w1) (hs:Steps P m m1) (h:kF P lo X base mb D b k cs R z zz xw σ' eO w1 m1) :
  kF P lo X base mb D b k cs R z zz xw σ β w m:=by
 rcases h with ⟨h0,β',a',w',h1,h2,h3⟩ | ⟨hz,h⟩
 ·exact .inl ⟨h0,β',a',w',h1,he.trans h2,hs.trans h3⟩
 ·exact .inr ⟨hz,hR he hs h⟩
theorem YQ {R:ai→Env→World→Machine→Prop} (hR:∀ {σ dg:ai} {β eO:Env} {w w1:World} {m m1:Machine},Ext lo.n σ β w dg eO w1→Steps P m m1→R dg eO w1 m1→R σ β w m) {z:Option Nat} {dd sk:Nat→Prop} (hz:∀ i0,z=some i0→i0<ops.size∧dd i0) (hdd:∀ j,dd j→∃ i0,z=some i0∧(j=i0∨j6 ops i0 j)) (hk:sj ops fs n0 N) (iJ:lo.n≤n0) (hN:n0≤N)
  (hT:∀ i o,ops[i]? = some o→((pN P ops (dq fs i) o (TM i) (SS i) (TM (i+1)) (SS (i+1))∨xx P ops.size o (TM i) SS i (TM (i+1))∧(dq fs i).wr=[])∨(dd i∨sk i)∧(∃ v,TM (i+1)=put (TM i) o.dst v)∧SS (i+1)=SS i)) (CX:∀ i,i≤ops.size→(TM i).length=(TM 0).length) (Gm:∀ i,i≤ops.size→(SS i).length=N)
  (b:Frame) (k:List Item) (cs:List Frame)
  (hP:∀ i o,z=some i→ops[i]? = some o→∀ (tm:List ae) (σ:ai) (β:Env) (a:Act) (w:World) (rest:List Nat) (listed:Array Bool),listed.size=ops.size →
   fI ops.size (fun i l=>∃ o,ops[i]? = some o∧o.dst=some l) (fun i l=>(TM i).getD l .undef) (fun j=>listed.getD j false=true) (fun l=>tm.getD l .undef) →
   fI ops.size (fun i c=>c∈(dq fs i).wr) (fun i c=>(SS i)[c]?) (fun j=>listed.getD j false=true) (fun c=>σ[c]?) →
   (∀ i j,j6 ops i j→listed.getD j false=true→listed.getD i false=true)→listed.getD i false=false→(∀ j,j6 ops j i→listed.getD j false=true)→tm.length=(TM 0).length→σ.length=N→Rel X base mb D ⟨tm,σ⟩ β a w →
   (∃ fuel t,rest=Region.linearise.go .any ops fuel t (listed.setIfInBounds i true) []∧nj (listed.setIfInBounds i true)≤fuel)→R σ β w (lone (b.atR a (.inRegion ops (i :: rest) :: k)) cs w)) :
  ∀ (fuel t:Nat) (listed:Array Bool) (tm:List ae) (σ:ai) (β:Env) (a:Act) (w:World),listed.size=ops.size→nj listed≤fuel →
   (∀ i j,j6 ops i j→listed.getD j false=true→listed.getD i false=true) →
   fI ops.size (fun i l=>∃ o,ops[i]? = some o∧o.dst=some l) (fun i l=>(TM i).getD l .undef) (fun j=>listed.getD j false=true) (fun l=>tm.getD l .undef) →
   fI ops.size (fun i c=>c∈(dq fs i).wr) (fun i c=>(SS i)[c]?) (fun j=>listed.getD j false=true) (fun c=>σ[c]?) →
   tm.length=(TM 0).length→σ.length=N→(∀ i c,i<ops.size→listed.getD i false=false→(dq fs i).nm=some c→β c=none)→Rel X base mb D ⟨tm,σ⟩ β a w→(∀ j,listed.getD j false=true→¬ dd j)→(∀ j,sk j→j<ops.size→listed.getD j false=true) →
   kF P lo X base mb D b k cs R z (TM ops.size) (SS ops.size) σ β w (lone (b.atR a (.inRegion ops (Region.linearise.go .any ops fuel t listed []) :: k)) cs w):=by
 have CG:∀ i l,i<ops.size→¬ (∃ o,ops[i]? = some o∧o.dst=some l)→(TM (i+1)).getD l .undef=(TM i).getD l .undef:=by
  intro i l hi hn
  have ho:ops[i]? = some ops[i]:=aB hi
  have lU:∀ v,(put (TM i) ops[i].dst v).getD l .undef=(TM i).getD l .undef:=by
   intro v
   cases hd:ops[i].dst with
   | none=>rfl
   | some d =>
    have eg:d≠l:=fun e=>hn ⟨ops[i],ho,by rw [hd,e]⟩
    simp only [put,List.getD,bL eg]
  rcases hT i _ ho with ((⟨_,h,_⟩ | ⟨_,r,dg,_,_,h,_⟩) | ⟨⟨_,_,_,_,_,_,_,_,h,_⟩,_⟩) | ⟨_,⟨_,h⟩,_⟩<;>rw [h]<;>exact lU _
 have Ag:∀ i c,i<ops.size→¬ c∈(dq fs i).wr→(SS (i+1))[c]? = (SS i)[c]?:=by
  intro i c hi hn
  have ho:ops[i]? = some ops[i]:=aB hi
  rcases hT i _ ho with ((⟨_,_,h⟩ | ⟨_,r,dg,_,h2,_,h⟩) | ⟨⟨_,_,_,_,_,_,_,_,_,h⟩,_⟩) | ⟨_,_,h⟩
  rotate_right
  ·rw [h]
  rotate_right
  ·rw [h]
  ·rw [h]
  ·rw [h,wx (by rw [zI h2,dv,rA]),bm,if_neg hn]
 intro fuel
 have finish:∀ (listed:Array Bool) (tm:List ae) (σ:ai) (β:Env) (a:Act) (w:World),(∀ j,j<ops.size→listed.getD j false=true) →
   fI ops.size (fun i l=>∃ o,ops[i]? = some o∧o.dst=some l) (fun i l=>(TM i).getD l .undef) (fun j=>listed.getD j false=true) (fun l=>tm.getD l .undef) →
   fI ops.size (fun i c=>c∈(dq fs i).wr) (fun i c=>(SS i)[c]?) (fun j=>listed.getD j false=true) (fun c=>σ[c]?) →
   tm.length=(TM 0).length→σ.length=N→Rel X base mb D ⟨tm,σ⟩ β a w→(∀ j,listed.getD j false=true→¬ dd j) →
   kF P lo X base mb D b k cs R z (TM ops.size) (SS ops.size) σ β w (lone (b.atR a (.inRegion ops [] :: k)) cs w):=by
  intro listed tm σ β a w eK i1 i2 l1 l2 hrel qH
  have GM:z=none:=by
   cases AE:z with
   | none=>rfl
   | some i0=>obtain ⟨q1,q2⟩:=hz i0 AE;exact absurd q2 (qH i0 (eK i0 q1))
  have e1:tm=TM ops.size:=by
   apply bP
   intro l
   have h1:tm.getD l .undef=(TM ops.size).getD l .undef:=fI.done CG i1 eK l
   have hl:=CX ops.size (ah _)
   by_cases bD:l<tm.length
   ·have aZ:l<(TM ops.size).length:=by omega
    rw [aA bD,aA aZ]
    simp only [List.getD,aA bD,aA aZ,br] at h1
    rw [h1]
   ·rw [bq (by omega),bq (by omega)]
  have e2 : σ=SS ops.size:=by
   apply bP
   intro c
   exact fI.done Ag i2 eK c
  subst e1 e2
  exact .inl ⟨GM,β,a,w,hrel,Ext.refl _ _ _ _, .one stepR_region_end⟩
 induction fuel with
 | zero =>
  intro t listed tm σ β a w fF yp gf i1 i2 l1 l2 sC hrel qH _
  simp only [Region.linearise.go,lE]
  exact finish listed tm σ β a w (fun j hj=>JQ (by omega) (by omega)) i1 i2 l1 l2 hrel qH
 | succ fuel ih =>
  intro t listed tm σ β a w fF yp gf i1 i2 l1 l2 sC hrel qH zn
  simp only [Region.linearise.go]
  change kF P lo X base mb D b k cs R z (TM ops.size) (SS ops.size) σ β w (lone (b.atR a (.inRegion ops (match (Region.ready .any ops listed)[t % (Region.ready .any ops listed).length]? with
   | some i=>Region.linearise.go .any ops fuel (t / (Region.ready .any ops listed).length) (listed.setIfInBounds i true) [i]
   | none=>[].reverse) :: k)) cs w)
  cases hi:(Region.ready .any ops listed)[t % (Region.ready .any ops listed).length]? with
  | none =>
   have yh:Region.ready .any ops listed=[]:=by
    cases hr:Region.ready .any ops listed with
    | nil=>rfl
    | cons x xs =>
     rw [hr] at hi
     have bD:t % (x :: xs).length<(x :: xs).length:=Nat.mod_lt _ (by simp)
     simp at hi
     simp at bD
     omega
   refine finish listed tm σ β a w (fun j=>?_) i1 i2 l1 l2 hrel qH
   induction j using Nat.strongRecOn with
   | _ j ND =>
    intro hj
    cases hv:listed.getD j false with
    | true=>rfl
    | false =>
     have jx:j∈Region.ready .any ops listed:=mem_ready.2 ⟨by
      have:j<listed.size:=by omega
      simpa [this] using hv,ops[j],aB hj,fun e he hb=>by
       have bD:e.on<j:=(j6.edge (aB hj) he hb).lt hk.down
       exact ND e.on bD (by omega)⟩
     rw [yh] at jx;cases jx
  | some i =>
   simp only []
   rw [linearise_go_acc,o_,p0]
   obtain ⟨Az,o,ho,eK⟩:=mem_ready.1 (lN hi)
   have fp:i<ops.size:=(aL.1 ho).1
   have wU:listed.getD i false=false:=by
    have:i<listed.size:=by omega
    simpa [this] using Az
   have rF:¬ (listed.getD i false=true):=by rw [wU];simp
   have aP:∀ j,j6 ops j i→listed.getD j false=true:=by
    intro j hb
    generalize dP:i=i' at hb
    induction hb with
    | @edge j' o' e h1 h2 h3 =>
     subst dP
     rw [ho] at h1;cases h1
     exact eK e h2 h3
    | trans h1 h2 _ oA=>exact gf _ _ h1 (oA dP)
   have tY:∀ l,l∈o.looksAt ops∨o.dst=some l→∀ j,j<ops.size→j≠i→(∃ oj,ops[j]? = some oj∧oj.dst=some l)→j6 ops i j∨j6 ops j i:=by
    rintro l hl j hj eg ⟨oj,h1,h2⟩
    exact hk.tmp i o ho l hl j oj h1 eg h2
   have pQ:∀ l,l∈o.looksAt ops→tm.getD l .undef=(TM i).getD l .undef:=fun l hl=>fI.read hk.down CG gf i1 fp rF aP (tY l (.inl hl))
   have wm:∀ c,c ∉ (dq fs i).hd→σ[c]? = (SS i)[c]?:=fun c hc=>fI.read hk.down Ag gf i2 fp rF aP (hk.see i fp c hc)
   have MO:=CX i (by omega)
   have CW:=Gm i (by omega)
   have tX:dv (dq fs i) σ=dv (dq fs i) (SS i):=by
    apply bP
    intro c
    simp only [dv,vO,bm]
    by_cases hc:c∈(dq fs i).hd
    ·have e:(!(dq fs i).hd.contains c)=false:=by simp [hc]
     rw [e]
     by_cases bD:c<N
     ·rw [aA (l:=σ) (by omega),aA (l:=SS i) (by omega)];rfl
     ·rw [bq (l:=σ) (by omega),bq (l:=SS i) (by omega)]
    ·rw [wm c hc]
   have eA:(dq fs i).name σ=(dq fs i).name (SS i):=by simp only [Fp.name,l2,CW]
   have vU:mc ops tm o=mc ops (TM i) o:=RZ (by omega) pQ
   have lU:∀ (l:Nat) (v:ae),(∃ o',ops[i]? = some o'∧o'.dst=some l)→(put tm o.dst v).getD l .undef=(put (TM i) o.dst v).getD l .undef:=by
    rintro l v ⟨o',h1,h2⟩
    rw [ho] at h1;cases h1
    rw [h2]
    simp only [put,List.getD,oF]
    by_cases bD:l<tm.length
    ·rw [aA bD,aA (show l<(TM i).length by omega)];rfl
    ·rw [bq (dN bD),bq (show (TM i).length≤l by omega)]
   have qM:∀ (l:Nat) (v:ae), ¬ (∃ o',ops[i]? = some o'∧o'.dst=some l)→(put tm o.dst v).getD l .undef=tm.getD l .undef:=by
    intro l v hn
    cases hd:o.dst with
    | none=>rfl
    | some d =>
     have eg:d≠l:=fun e=>hn ⟨o,ho,by rw [hd,e]⟩
     simp only [put,List.getD,bL eg]
   have hO:∀ j,((listed.setIfInBounds i true).getD j false=true)↔(listed.getD j false=true∨j=i):=by
    intro j
    constructor
    ·intro h
     by_cases e:i=j
     ·exact .inr e.symm
     ·rw [qn false e] at h;exact .inl h
    ·rintro (h | rfl)
     ·exact getD_set_true h
     ·have:j<listed.size:=by omega
      simp [this]
   have xN:(fun j=>(listed.setIfInBounds i true).getD j false=true)=fun j=>listed.getD j false=true∨j=i:=funext fun j=>propext (hO j)
   have uY:∀ i' j,j6 ops i' j→(listed.setIfInBounds i true).getD j false=true→(listed.setIfInBounds i true).getD i' false=true:=by
    intro i' j hb hj
    rw [hO] at hj ⊢
    rcases hj with hj | rfl
    ·exact .inl (gf i' j hb hj)
    ·exact .inl (aP i' hb)
   have CH:=hT i o ho
   by_cases CK:dd i
   ·obtain ⟨i0,Dh,zj⟩:=hdd i CK
    rcases zj with rfl | hb
    ·refine .inr ⟨by rw [Dh];simp,hP i o Dh ho tm σ β a w _ listed fF i1 i2 gf wU aP l1 l2 hrel ⟨fuel,_,rfl,?_⟩⟩
     have:=HF (i:=i) Az
     omega
    ·exact absurd (hz i0 Dh).2 (qH i0 (aP i0 hb))
   have CH:=CH.resolve_right fun h=>h.1.elim CK fun hs=>rF (zn i hs fp)
   generalize tZ:Region.linearise.go .any ops fuel (t / (Region.ready .any ops listed).length) (listed.setIfInBounds i true) []=rest
   have step:∃ jE σ' eO a1 w1,Rel X base mb D ⟨jE,σ'⟩ eO a1 w1∧Ext 0 σ β w σ' eO w1∧(∀ c,c≠(dq fs i).name σ→c < σ.length→eO c = β c)∧jE.length=tm.length∧σ'.length = σ.length ∧
     (∀ l,(∃ o',ops[i]? = some o'∧o'.dst=some l)→jE.getD l .undef=(TM (i+1)).getD l .undef)∧(∀ l, ¬ (∃ o',ops[i]? = some o'∧o'.dst=some l)→jE.getD l .undef=tm.getD l .undef) ∧
     (∀ c,c∈(dq fs i).wr→σ'[c]? = (SS (i+1))[c]?)∧(∀ c,c ∉ (dq fs i).wr→σ'[c]? = σ[c]?) ∧
     Steps P (lone (b.atR a (.inRegion ops (i :: rest) :: k)) cs w) (lone (b.atR a1 (.inRegion ops rest :: k)) cs w1):=by
    rcases CH with (⟨g1,g2,g3⟩ | ⟨g1,r,dg,g2,g3,g4,g5⟩) | ⟨⟨g1,t0,x0,l0,r,g2,g3,g4,g5,g6⟩,g7⟩
    rotate_right
    ·have Ak:mc ops tm o=some true:=by unfold mc;rw [g1]
     have hx:ev tm x0=ev (TM i) x0:=H7 pQ x0 (by rw [g2];simp [Op.operands])
     obtain ⟨b0,xl⟩:=SF l0 (ev (TM i) x0)
     obtain ⟨k0,CS,nH⟩:=i2.some b0
     have qH:iS σ l0 (ev tm x0)=some r:=by rw [hx,xl σ (SS k0) nH];exact g4 k0 CS
     have CL:kE P o.op tm (dv Fp.no σ) (Fp.no.name σ) r σ:=by
      have rV:dv Fp.no σ = σ:=by
       apply bP
       intro c
       simp only [dv,vO,bm,Fp.no]
       cases σ[c]?<;>rfl
      rw [rV,g2]
      simp only [kE,cY,g3,eo,qH,bu]
     have sE:eT Fp.no.wr 0 σ (dv Fp.no σ):=by
      have rV:dv Fp.no σ = σ:=by
       apply bP
       intro c
       simp only [dv,vO,bm,Fp.no]
       cases σ[c]?<;>rfl
      rw [rV]
      have:∀ (i:Nat) (a:ai),eT Fp.no.wr i a a:=fun i a=>by
       induction a generalizing i with
       | nil=>trivial
       | cons x a ih=>exact ⟨.inr rfl,ih _⟩
      exact this 0 σ
     obtain ⟨eO,a1,w1,q1,q2,q3,q4⟩:=kE.step (rest:=rest) hrel ho Ak CL sE (fun c hc=>by simp [Fp.no] at hc) (hrel.s.nA _ (ah _)) b k cs
     have MV:dB Fp.no.wr 0 σ σ = σ:=by
      apply bP
      intro c
      rw [wx rfl];split<;>rfl
     rw [MV] at q1 q2
     refine ⟨_,σ,eO,a1,w1,q1,q2,fun c _ hc=>q3 c (by simp only [Fp.name,Fp.no,ep];omega) hc,yW _ _ _,rfl,fun l hl=>by rw [g5];exact lU l _ hl,fun l hl=>qM l _ hl,fun c hc=>?_,fun _ _=>rfl,q4⟩
     rw [g7] at hc;cases hc
    ·have hw:=zB hrel (vU.trans g1)
     refine ⟨put tm o.dst gone,σ,β,a.put o.dst undef,w,hrel.next hrel.s (Ext.refl 0 _ _ _) (fun _ _ h=>h) (.nL _) o.dst,Ext.refl _ _ _ _,fun _ _ _=>rfl,yW _ _ _,rfl,
      fun l hl=>by rw [g2];exact lU l _ hl,fun l hl=>qM l _ hl,fun c hc=>?_,fun _ _=>rfl,?_⟩
     ·rw [g3]
      exact fI.read hk.down Ag gf i2 fp rF aP (hk.own i fp c hc).2.2
     ·have:=stepR_op_skip (P:=P) (b:=b) (a:=a) (ops:=ops) (i:=i) (rest:=rest) (k:=k) (cs:=cs) (w:=w) (by simp [ho,hw])
      rw [ho] at this
      exact .one this
    ·have CL:kE P o.op tm (dv (dq fs i) σ) ((dq fs i).name σ) r dg:=by
      rw [tX,eA];exact g2.congr (H7 pQ)
     have sE:eT (dq fs i).wr 0 dg (dv (dq fs i) σ):=by rw [tX];exact g3
     have yi : β ((dq fs i).name σ)=none:=by
      unfold Fp.name
      cases hn:(dq fs i).nm with
      | none=>exact hrel.s.nA _ (ah _)
      | some c=>exact sC i c fp wU hn
     have sZ : dg.length = σ.length:=by rw [zI sE,dv,rA]
     have CV : dg.length=(SS i).length:=by omega
     obtain ⟨eO,a1,w1,q1,q2,q3,q4⟩:=kE.step (rest:=rest) hrel ho (vU.trans g1) CL sE (fun c hc=>(hk.own i fp c hc).2.1) yi b k cs
     refine ⟨_,_,eO,a1,w1,q1,q2,q3,yW _ _ _,Hm sZ,fun l hl=>by rw [g4];exact lU l _ hl,fun l hl=>qM l _ hl,fun c hc=>?_,fun c hc=>?_,q4⟩
     ·rw [g5,wx sZ,wx CV,bm,if_pos hc,if_pos hc]
     ·rw [wx sZ,bm,if_neg hc]
   obtain ⟨jE,σ',eO,a1,w1,s1,s2,s3,s4,s5,s6,s7,s8,s9,NT⟩:=step
   have mI:=ih (t / (Region.ready .any ops listed).length) (listed.setIfInBounds i true) jE σ' eO a1 w1 (by simp [fF]) (by have:=HF Az;omega) uY
    (by rw [xN];exact fI.step hk.down gf i1 fp rF (fun l hl=>tY l (.inr (by obtain ⟨o',h1,h2⟩:=hl;rw [ho] at h1;cases h1;exact h2))) s6 s7)
    (by rw [xN];exact fI.step hk.down gf i2 fp rF (fun c hc=>(hk.own i fp c hc).2.2) s8 s9)
    (by omega) (by omega)
    (fun j c hj ye Gy=>by
     have Gi:j≠i:=fun e=>by rw [e] at ye;have:=(hO i).2 (.inr rfl);rw [this] at ye;cases ye
     have CY:listed.getD j false=false:=by rw [qn false (fY Gi)] at ye;exact ye
     obtain ⟨m1,m2,m3⟩:=hk.EF j hj c Gy
     rw [s3 c ?_ (by omega)]
     ·exact sC j c hj CY Gy
     ·unfold Fp.name
      cases hn:(dq fs i).nm with
      | none=>simp only [ep];omega
      | some c'=>exact fun e=>m3 i fp (fY Gi) (by rw [hn,e];rfl)) s1
    (fun j hj=>by rcases (hO j).1 hj with h | rfl;exact qH j h;exact CK) (fun j hs hj=>(hO j).2 (.inl (zn j hs hj)))
   rw [tZ] at mI
   have jY:Ext lo.n σ β w σ' eO w1:=⟨s2.os,s2.tape,s2.output,s2.size,s2.cell,s2.block,s2.iB,fun c hc=>s3 c (by
    unfold Fp.name
    cases hn:(dq fs i).nm with
    | none=>simp only [ep];omega
    | some c'=>have:=(hk.EF i fp c' hn).1;simp only [br];omega) (by omega)⟩
   exact kF.of hR jY NT mI
theorem Z4 {ops:Array Oper} {i j:Nat} (h:((tE [] ops.toList).getD j 0).testBit i=true):j6 ops i j:=Ki ops.toList [] (by simp) (fun j i h=>by simp at h) _ _ h
theorem Yl8 (hd:jI ops=true):∀ (fuel m d t:Nat) (listed:Array Bool),ops.size=m+d→listed.size=ops.size→(∀ j,j<m→listed.getD j false=true)→(∀ j,m≤j→j<ops.size→listed.getD j false=false) →
  (∀ i j,m≤i→i<j→j<ops.size→j6 ops i j)→nj listed≤fuel→Region.linearise.go .any ops fuel t listed []=List.range' m d:=by
 intro fuel
 induction fuel with
 | zero =>
  intro m d t listed h1 h2 h3 h4 h5 h6
  cases d with
  | zero=>rfl
  | succ d =>
   have:=JQ (listed:=listed) (by omega) (j:=m) (by omega)
   rw [h4 m (ah _) (by omega)] at this;cases this
 | succ fuel ih =>
  intro m d t listed h1 h2 h3 h4 h5 h6
  have Ak:∀ j,j<ops.size→(listed.getD j true=false↔listed.getD j false=false):=fun j hj=>by
   have:j<listed.size:=by omega
   simp [aj,aB this]
  have jx:∀ j,j∈Region.ready .any ops listed→j=m∧j<ops.size:=fun j hj=>by
   obtain ⟨q1,o,q2,q3⟩:=mem_ready.1 hj
   have yb:j<ops.size:=(aL.1 q2).1
   have hjm:m≤j:=by
    rcases jv j m with h | h
    ·have:=h3 j h
     rw [(Ak j yb).1 q1] at this;cases this
    ·exact h
   refine ⟨?_,yb⟩
   rcases jv m j with h | h
   ·exfalso
    have hb:=h5 m j (ah _) h yb
    have key:∀ i j',j6 ops i j'→j'=j→listed.getD i false=true:=by
     intro i j' hb
     induction hb with
     | @edge j1 o1 e g1 g2 g3 =>
      intro e1;subst e1
      rw [q2] at g1;cases g1
      exact q3 e g2 g3
     | @trans a b' c' g1 g2 kA oA =>
      intro e1
      have uH:=oA e1
      have bD:=g1.lt hd
      have zd:=g1.lt_size
      rcases jv b' m with h | h
      ·exact h3 a (by omega)
      ·rw [h4 b' h zd] at uH;cases uH
    have:=key m j hb rfl
    rw [h4 m (ah _) (by omega)] at this;cases this
   ·omega
  simp only [Region.linearise.go]
  change (match (Region.ready .any ops listed)[t % (Region.ready .any ops listed).length]? with
   | some i=>Region.linearise.go .any ops fuel (t / (Region.ready .any ops listed).length) (listed.setIfInBounds i true) [i]
   | none=>[].reverse) = _
  cases d with
  | zero =>
   have hr:Region.ready .any ops listed=[]:=List.eq_nil_iff_forall_not_mem.2 fun j hj=>by have:=jx j hj;omega
   rw [hr];rfl
  | succ d =>
   have hm:m∈Region.ready .any ops listed:=mem_ready.2 ⟨(Ak m (by omega)).2 (h4 m (ah _) (by omega)),ops[m],aB (by omega),fun e he hb=>h3 _ ((j6.edge (aB (by omega)) he hb).lt hd)⟩
   have bD:t % (Region.ready .any ops listed).length<(Region.ready .any ops listed).length:=Nat.mod_lt _ (List.length_pos_of_mem hm)
   rw [aA bD]
   have he:=(jx _ (aE bD)).1
   simp only []
   rw [he,linearise_go_acc,o_,p0,gY]
   congr 1
   have hO:∀ j,(listed.setIfInBounds m true).getD j false=true↔listed.getD j false=true∨j=m:=by
    intro j
    have yg:m<listed.size:=by omega
    simp only [aj,bC]
    by_cases e:m=j
    ·subst e;simp [yg]
    ·simp [e,fY e]
   refine ih (m+1) d _ _ (by omega) (by simpa using h2) (fun j hj=>(hO j).2 ?_) (fun j hj yb=>?_) (fun i j hi xm yb=>h5 i j (by omega) xm yb) ?_
   ·rcases jv j m with h | h
    ·exact .inl (h3 j h)
    ·exact .inr (by omega)
   ·rw [← da,hO]
    rintro (h | h)
    ·rw [h4 j (by omega) yb] at h;cases h
    ·omega
   ·have:=HF (i:=m) ((Ak m (by omega)).2 (h4 m (ah _) (by omega)))
    omega
def q_ (ops:Array Oper) (m:Nat) (T:List ae):Nat→List ae
 | 0=>T
 | k+1=>put (q_ ops m T k) ((ops[m+k]?).bind Oper.dst) .undef
theorem RV (m:Nat) (T:List ae):∀ k,(q_ ops m T k).length=T.length
 | 0=>rfl
 | k+1=>by rw [q_,yW,RV m T k]
theorem aK.FN {k:List KI} {id:Nat} {tm:List ae} {σ:ai} (fs:List Fp) (n0 N:Nat) (hm:P.follows .mixedOrders=true) (j9:qx ops fs n0 N=true) (h0 : σ.length=n0) (hN:n0≤N) (m:Nat) (wQ:m<ops.size)
  (yc:((List.range ops.size).all fun j=>decide (j<m)||(List.range j).all fun i=>((tE [] ops.toList).getD j 0).testBit i)=true) (Nx:((List.range ops.size).all fun j=>decide (j<m)||(dq fs j).wr.isEmpty)=true)
  (h:im P lo (fun _ st=>aK P lo Q (.ops ops (ops.toList.drop m) :: k) .normal st) [] ops (ops.toList.take m) fs tm (dx N σ)) :
  aK P lo Q (.code (.region id ops true) :: k) .normal ⟨tm,σ⟩:=by
 have hk:=QB j9
 obtain ⟨TM,SS,e1,e2,e3,e4⟩:=Ht _ _ _ _ h
 have hlen:(ops.toList.take m).length=m:=by simp;omega
 rw [hlen] at e4
 have e4:aK P lo Q (.ops ops (ops.toList.drop m) :: k) .normal ⟨TM m,SS m⟩:=e4
 have qJ:∀ i j,m≤j→i<j→j<ops.size→j6 ops i j:=fun i j hmj xm hj=>by
  have:=bp.1 yc j (cu.2 hj)
  rw [decide_eq_false (by omega:¬ j<m),dn] at this
  exact Z4 (bp.1 this i (cu.2 xm))
 have Vw:∀ j,m≤j→j<ops.size→(dq fs j).wr=[]:=fun j hmj hj=>by
  have:=bp.1 Nx j (cu.2 hj)
  rw [decide_eq_false (by omega:¬ j<m),dn] at this
  exact List.isEmpty_iff.1 this
 have Gs:∀ j,j<ops.size→j≠m→j6 ops m j∨j6 ops j m:=fun j hj eg=>by
  rcases jv j m with h | h
  ·exact .inr (qJ j m (ah _) h wQ)
  ·exact .inl (qJ m j h (by omega) hj)
 have IV:∀ i o,i<m→ops[i]? = some o→pN P ops (dq fs i) o (TM i) (SS i) (TM (i+1)) (SS (i+1)):=fun i o sx hi=>e3 i o (by rw [eZ,if_pos sx];simpa using hi)
 have hl:∀ i,i≤m→(TM i).length=(TM 0).length∧(SS i).length=N:=by
  intro i
  induction i with
  | zero=>intro _;exact ⟨rfl,by rw [e2,KQ (by omega)]⟩
  | succ i ih =>
   intro hi
   have:=(IV i ops[i] (by omega) (aB (by omega))).len
   have:=ih (by omega)
   omega
 let uy:Nat→List ae:=fun i=>if i≤m then TM i else q_ ops m (TM m) (i - m)
 let zy:Nat→ai:=fun i=>if i≤m then SS i else SS m
 have tT:∀ i,i≤m→uy i=TM i:=fun i hi=>if_pos hi
 have tS:∀ i,i≤m→zy i=SS i:=fun i hi=>if_pos hi
 have tN:∀ i,m≤i→(hi:i<ops.size)→uy (i+1)=put (uy i) ops[i].dst .undef:=fun i sx hi=>by
  have e1:uy (i+1)=q_ ops m (TM m) (i - m+1):=by simp only [uy];rw [if_neg (by omega),show i+1 - m=i - m+1 by omega]
  have e2:uy i=q_ ops m (TM m) (i - m):=by
   by_cases h:i=m
   ·subst h;rw [tT i (ah _),d_];rfl
   ·simp only [uy];rw [if_neg (by omega)]
  rw [e1,e2,q_,show m+(i - m)=i by omega,aB hi];rfl
 have Jg:∀ i,m≤i→zy i=SS m:=fun i sx=>by
  by_cases h:i=m
  ·subst h;exact tS i (ah _)
  ·exact if_neg (by omega)
 have CG:∀ i l,i<ops.size→¬ (∃ o,ops[i]? = some o∧o.dst=some l)→(uy (i+1)).getD l .undef=(uy i).getD l .undef:=by
  intro i l hi hn
  have ho:ops[i]? = some ops[i]:=aB hi
  have lU:∀ v,(put (uy i) ops[i].dst v).getD l .undef=(uy i).getD l .undef:=by
   intro v
   cases hd:ops[i].dst with
   | none=>rfl
   | some d =>
    have eg:d≠l:=fun e=>hn ⟨ops[i],ho,by rw [hd,e]⟩
    simp only [put,List.getD,bL eg]
  by_cases sx:i<m
  ·have h1:=IV i ops[i] sx ho
   rw [tT (i+1) (by omega)]
   rw [tT i (by omega)] at lU ⊢
   rcases h1 with ⟨_,g,_⟩ | ⟨_,r,dg,_,_,g,_⟩<;>rw [g]<;>exact lU _
  ·rw [tN i (by omega) hi];exact lU _
 have Ag:∀ i c,i<ops.size→¬ c∈(dq fs i).wr→(zy (i+1))[c]? = (zy i)[c]?:=by
  intro i c hi hn
  have ho:ops[i]? = some ops[i]:=aB hi
  by_cases sx:i<m
  ·have h1:=IV i ops[i] sx ho
   rw [tS (i+1) (by omega),tS i (by omega)]
   rcases h1 with ⟨_,_,g⟩ | ⟨_,r,dg,_,g2,_,g⟩
   ·rw [g]
   ·rw [g,wx (by rw [zI g2,dv,rA]),bm,if_neg hn]
  ·rw [Jg (i+1) (by omega),Jg i (by omega)]
 intro X base mb D β a w b kk cs h1 h2 h3 _
 simp only at h1
 have hrel:Rel X base mb D ⟨uy 0,zy 0⟩ β a { w with drawn:=w.drawn+1 }:=by
  have:=Ry (n:=w.drawn+1) h3
  rw [tT 0 (av _),tS 0 (av _),e1,e2]
  exact ⟨this.s.pad (by simp only;omega),this.n,fun j hj=>by rw [Jk];exact this.t j hj,this.d⟩
 have uX:=YQ (P:=P) (lo:=lo) (ops:=ops) (fs:=fs) (n0:=n0) (N:=N) (TM:=uy) (SS:=zy) (X:=X) (base:=base) (mb:=mb) (D:=D)
  (R:=fun σ β w NM=>mb≤w.heap.size→∃ e dV β' a' w',aK P lo Q k e dV∧lo.n≤dV.σ.length∧Rel X base mb D dV β' a' w'∧Ext lo.n σ β w dV.σ β' w'∧zx P NM b kk cs e a' w')
  (fun he hs f Ep=>let ⟨e,dV,β',a',w',g1,g2,g3,g4,g5⟩:=f (cP Ep he.size);⟨e,dV,β',a',w',g1,g2,g3,he.trans g4, .of_steps hs g5⟩) (z:=some m) (dd:=fun j=>m≤j∧j<ops.size) (sk:=fun _=>False)
  (fun i0 zj=>by cases zj;exact ⟨wQ,ah _,wQ⟩) (fun j hj=>⟨m,rfl,(Nat.eq_or_lt_of_le hj.1).imp Eq.symm fun h=>qJ m j hj.1 h hj.2⟩) hk (by omega) hN
  (fun i o ho=>by
   by_cases sx:i<m
   ·rw [tT i (by omega),tT (i+1) (by omega),tS i (by omega),tS (i+1) (by omega)]
    exact .inl (.inl (IV i o sx ho))
   ·have MI:i<ops.size:=(aL.1 ho).1
    have I5:ops[i]=o:=by rw [aB MI] at ho;exact aM ho
    refine .inr ⟨.inl ⟨by omega,MI⟩,⟨.undef,?_⟩,?_⟩
    ·rw [tN i (by omega) MI,I5]
    ·rw [Jg (i+1) (by omega),Jg i (by omega)])
  (fun i hi=>by
   by_cases sx:i≤m
   ·rw [tT i sx,tT 0 (av _)];exact (hl i sx).1
   ·simp only [uy];rw [if_neg sx,if_pos (av _),RV];exact (hl m (ah _)).1)
  (fun i hi=>by
   by_cases sx:i≤m
   ·rw [tS i sx];exact (hl i sx).2
   ·simp only [zy];rw [if_neg sx];exact (hl m (ah _)).2)
  b kk cs
  (fun i o hz ho tm σ β a w rest listed yo i1 i2 gf Az aP l1 l2 hrel tZ Ep=>by
   cases hz
   have eK:∀ j,j<m→listed.getD j false=true:=fun j hj=>aP j (qJ j m (ah _) hj wQ)
   obtain ⟨fuel,t,hr,Ek⟩:=tZ
   have hO:∀ j,(listed.setIfInBounds m true).getD j false=true↔listed.getD j false=true∨j=m:=by
    intro j
    have yg:m<listed.size:=by omega
    simp only [aj,bC]
    by_cases e:m=j
    ·subst e;simp [yg]
    ·simp [e,fY e]
   rw [Yl8 hk.down fuel (m+1) (ops.size - (m+1)) t _ (by omega) (by simpa using yo) (fun j hj=>(hO j).2 ((jv j m).imp (eK j) fun h=>by omega)) (fun j hj yb=>by
    rw [← da,hO]
    rintro (h | h)
    ·have:=gf _ _ (qJ m j (by omega) (by omega) yb) h
     rw [Az] at this;cases this
    ·omega) (fun i j hi xm yb=>qJ i j (by omega) xm yb) Ek] at hr
   subst hr
   have rF:¬ (listed.getD m false=true):=by rw [Az];simp
   have et:tm=TM m:=by
    apply bP
    intro l
    have h1:tm.getD l .undef=(uy m).getD l .undef:=fI.read hk.down CG gf i1 wQ rF aP (fun j hj eg _=>Gs j hj eg)
    rw [tT m (ah _)] at h1
    have hlm:=(hl m (ah _)).1
    rw [tT 0 (av _)] at l1
    by_cases bD:l<tm.length
    ·have aZ:l<(TM m).length:=by omega
     rw [aA bD,aA aZ]
     simp only [List.getD,aA bD,aA aZ,br] at h1
     rw [h1]
    ·rw [bq (by omega),bq (by omega)]
   have es : σ=SS m:=by
    apply bP
    intro c
    have : σ[c]? = (zy m)[c]?:=fI.read hk.down Ag gf i2 wQ rF aP (fun j hj eg _=>Gs j hj eg)
    rw [this,tS m (ah _)]
   subst et es
   have Nj:AY ops (ops.toList.drop m):=⟨by simp,fun j=>by simp;try (congr 1;omega)⟩
   have hR:=e4 Nj
   have xV:(ops.toList.drop m).length=ops.size - m:=by simp
   rw [xV,show ops.size - (ops.size - m)=m by omega,show ops.size - m=(ops.size - (m+1))+1 by omega,gY] at hR
   obtain ⟨e,dV,β',a',w',q,r1,r2,r3,rd,r4⟩:=hR X base mb D β a w b kk cs (by have:=(hl m (ah _)).2;simp only;omega) Ep hrel
   refine ⟨e,dV,β',a',w',q,r1,r2,r3,?_⟩
   rw [bn] at r4
   have r4:zx P (lone (b.atR a (.inRegion ops (m :: List.range' (m+1) (ops.size - (m+1))) :: kk)) cs w) b (.inRegion ops [] :: kk) cs e a' w':=r4
   cases e with
   | normal=>exact Steps.trans r4 (.one stepR_region_end)
   | exit id=>obtain ⟨k',e1,e2⟩:=r4;exact ⟨k',by rw [e1];rfl,e2⟩
   | goto l=>obtain ⟨k',e1,e2⟩:=r4;exact ⟨k',by rw [e1];rfl,e2⟩
   | ret=>exact r4
   | panic u=>exact r4)
  ops.size (w.tape w.drawn (.order b.fn id)) (Array.replicate ops.size false) (uy 0) (zy 0) β a { w with drawn:=w.drawn+1 } (by simp) (by simp [nj])
  (fun i j _ hj=>by simp [aj,dW] at hj;split at hj<;>simp at hj)
  (by
   have:(fun j=>(Array.replicate ops.size false).getD j false=true)=fun _=>False:=funext fun j=>by simp [aj,dW];split<;>simp
   rw [this];exact fI.init)
  (by
   have:(fun j=>(Array.replicate ops.size false).getD j false=true)=fun _=>False:=funext fun j=>by simp [aj,dW];split<;>simp
   rw [this];exact fI.init)
  rfl (by rw [tS 0 (av _)];exact (hl 0 (av _)).2) (fun i c hi _ hc=>h3.s.nA c (by simp only;have:=(hk.EF i hi c hc).1;omega)) hrel
  (fun j hj=>by simp [aj,dW] at hj;split at hj<;>simp at hj) (fun j h=>h.elim)
 rcases uX with ⟨hz,_⟩ | ⟨_,uX⟩
 ·cases hz
 ·obtain ⟨e,dV,β',a',w',g1,g2,g3,g4,g5⟩:=uX h2
  rw [tS 0 (av _),e2] at g4
  refine ⟨e,dV,β',a',w',g1,g2,g3,?_, .of_steps (.one stepR_region_draw) ?_⟩
  ·exact ⟨g4.os,g4.tape,g4.output,g4.size,fun g o v hc hn=>g4.cell g o v hc fun hm=>hn (Cd.1 hm),fun g hg hn=>g4.block g hg fun o hm=>hn o (Cd.1 hm),fun g o hm=>(g4.iB g o hm).imp Cd.1 (fun h=>h),g4.env⟩
  ·have hs:Region.schedule (P.follows .mixedOrders) ops (w.tape w.drawn (.order b.fn id))=Region.linearise.go .any ops ops.size (w.tape w.drawn (.order b.fn id)) (Array.replicate ops.size false) []:=by
    simp only [Region.schedule,hm,fH,if_true];rfl
   rw [hs];exact g5
theorem aK.FM {k:List KI} {id:Nat} {tm:List ae} {σ:ai} (fs:List Fp) (n0 N:Nat) (hm:P.follows .mixedOrders=true) (j9:qx ops fs n0 N=true) (h0 : σ.length=n0) (hN:n0≤N) (m:Nat) (fF:ops.size=m+1)
  (yc:((List.range m).all fun j=>((tE [] ops.toList).getD m 0).testBit j)=true) (Vw:(dq fs m).wr=[])
  (h:im P lo (fun _ st=>aK P lo Q (.ops ops (ops.toList.drop m) :: k) .normal st) [] ops (ops.toList.take m) fs tm (dx N σ)) :
  aK P lo Q (.code (.region id ops true) :: k) .normal ⟨tm,σ⟩:=by
 refine aK.FN fs n0 N hm j9 h0 hN m (by omega) (bp.2 fun j hj=>?_) (bp.2 fun j hj=>?_) h
 ·have:=cu.1 hj
  rw [bY,decide_eq_true_eq]
  rcases jv j m with h | h
  ·exact .inl h
  ·obtain rfl:j=m:=by omega
   exact .inr yc
 ·have:=cu.1 hj
  rw [bY,decide_eq_true_eq]
  rcases jv j m with h | h
  ·exact .inl h
  ·obtain rfl:j=m:=by omega
   exact .inr (by rw [Vw];rfl)
end
section
variable {P:Program} {lo:Ctx} {Q:b9→St→Prop} {k:List KI} {ops:Array Oper} {l:List Oper} {fs:List Fp} {tm:List ae} {σ m:ai}
theorem y0 {d:Option Tmp} {g:FuncId} {first captured args args':List ae} {r:ae} {wr:List Nat} (bs:List Nat) (hc:aJ P g args' r) (hp:kB (among bs) m args' (first++args++captured)) (hl:bx 0 args')
  (hs:eT wr 0 (if bO r then m else fM (among bs) 0 m) m)
  (h:im P lo Q k ops l fs (put tm d r) (dB wr 0 (if bO r then m else fM (among bs) 0 m) σ)):rS P lo Q k ops wr d l fs tm σ m (.fn g first captured) args :=
 ⟨r,_,aq.bU bs hc hp hl ⟨rfl,rfl⟩,hs,h⟩
end
theorem aq.xJ {P:Program} {F:Frame→List Frame→Sem Next→World→Value→World→Prop} {f f':ae} {args:List ae} {K K':ae→ai→Prop} {Z σ:ai} (ι:Nat→Nat) (ta:∀ b b',b<Z.length→b'<Z.length→ι b = ι b'→b=b') (hb:∀ b,b<Z.length→ι b < σ.length)
  (vA:∀ b,b<Z.length→∃ o,Z[b]? = some o∧σ[ι b]? = some (o.map (dE ι))) (hf:f.low Z.length) (nS:dG ι f=f') (ha:bx 0 args) (hs:bt Z.length Z)
  (h:dp P F f args Z K') (hk:∀ r Z',K' r Z'→Z.length≤Z'.length∧bt Z'.length Z'∧r.low Z'.length∧K (dG (mY ι Z.length σ.length) r) (jJ ι Z.length Z' σ)):dp P F f' args σ K:=by
 have:=aq.xI (K:=K) ι ta hb vA hf (il (av _) ha) hs (h.mono hk)
 rwa [nS,cD ha] at this
theorem aq.LK {P:Program} {F:Frame→List Frame→Sem Next→World→Value→World→Prop} {f:ae} {args args':List ae} {K:ae→ai→Prop} {σ:ai} (hp:kB (among []) σ args' args) (h:dp P F f args' σ K):dp P F f args σ K:=by
 intro X base β w vf vs h1 nB h2 h3 fr cs h4
 have nS:=zJ (among []) σ
 rw [jb] at nS
 obtain ⟨e1,e2⟩:=tv h1 nS args' hp
 exact h X base β w vf vs h1 nB (by omega) (fun k hk=>(e2 k hk).1 _ (h3 k (by omega))) fr cs h4
theorem aq.AH {P : Program} {g : FuncId} {fn : Func} {c : Code} {σ : ai} (hf : P.funcs[g]? = some fn) (hb : fn.body = some c) (eA : (fn.name == "runtime.NumGoroutine") = false)
  (h0:∀ (a:Option Addr) (cap:Nat) (w:World),Calls P g #[.slice a 0 cap] w fun e w'=>e = .returned (.tuple #[])∧w'=w)
  {K:ae→ai→Prop} (hK:K (.dz []) σ):aq P (.fn g [] []) [.aU] σ K:=by
 refine aq.sh ?_
 intro X base β w vs h1 h2 h3 fr cs zg
 have qI : ¬ fn.name = "runtime.NumGoroutine" := by simpa using eA
 obtain ⟨x,rfl⟩:∃ x,vs = #[x]:=by
  simp at h2
  exact pX.1 h2
 have wK:=h3 0 (by simp)
 simp only [bh,bn,bf] at wK
 have hx:(#[x]:Array Value).getD 0 undef=x:=rfl
 rw [hx] at wK
 have vp:∀ (w':World) (M':Nat→Nat→Prop),bR w' M' β (.tuple #[]) (.dz []):=fun w' M'=>.dz rfl fun k hk=>by simp at hk
 have ki:∀ us,(callFunc g us).run P w = .ok (.enter g us) w:=fun us=>by simp [callFunc,hf,qI,hb]
 obtain ⟨a0,rfl⟩:∃ a0,x = .slice a0 0 0:=by
  cases wK with
  | aU a=>exact ⟨a,rfl⟩
 obtain ⟨e,w',Bk,⟨rfl,rfl⟩,hc,Bs,hl⟩:=h0 a0 0 w (fr :: cs)
 refine ⟨_,σ,β, .tuple #[],w',hK,h1,vp _ _,Ext.refl _ _ _ _,ah _,Frame.enter P g _ .normal,fr :: cs,w',?_,Steps.trans hc (.one (step_leave_returned hl))⟩
 simp only [stepG.apply,if_true,Sem.runT_eq,ki,GStep.bare_after,GStep.bare_go]
 split
 ·rename_i d s a k e;exact absurd e (zg _ _ _ _ _)
 ·rfl
end Go.c8
namespace Go.Proofs
open Go Go.c8
attribute [local go_sem] Nat.reduceAdd Nat.reduceSub Nat.reduceMul Nat.reduceLeDiff Nat.reduceEqDiff Nat.reduceBEq Nat.reduceLT Nat.le_refl Int.natCast_zero Nat.sub_zero List.length_map Int.toNat_natCast Int.natCast_one Int.reduceEq Int.reduceLT Int.reduceLE Int.reduceNe Int.sub_zero Int.zero_add Int.toNat_one
theorem N2 (p more:List Int) (hp:p.length≤1000000) (hm:more.length≤1000000):aJ Tryz.prog 187 [.ps 1 (ints p), .ps 1 (ints more)] (.ps 1 (ints (p++more))):=by
 refine aJ.begin (rs:=[.tmp 4]) (m:=7) 1000 Tryz.func187 rfl rfl rfl (by decide) (by simp [go_sem,du]) ?_
 have rV:(ints more).length=more.length:=lH more
 have M8:(ints p).length=p.length:=lH p
 have vW:List.take more.length (ints more)=ints more:=a_ (by omega)
 have yl:List.take p.length (ints p)=ints p:=a_ (by omega)
 have xS:ints (p++more)=ints p++ints more:=by simp [ints]
 have hw:∀ σ:ai,kB (fun _=>true) σ (ints p++ints more) (ints p++ints more):=fun σ=>cE _ _ _
 by_cases h:p=[]
 ·subst h
  simp only [go_sem]
  refine (bS.v Zpz).mono ?_
  rintro r σ' (⟨rfl,rfl⟩ | ⟨rfl,rfl⟩)
  ·refine aK.go 1000 ?_
   by_cases h2:more.length=0
   ·obtain rfl:=gX.1 h2
    simp only [go_sem,E2,aR]
    exact E2 ▸ of_eq_true (Ynv [])
   ·simp only [go_sem,rV,h2,(by omega:more.length≤6000000000000),vW]
  ·refine aK.go 1000 ?_
   simp only [go_sem,rV,vW]
   omega
 ·simp only [go_sem]
  refine (bS.v (Ztk p h (by omega)).1).mono ?_
  rintro r σ' ⟨rfl,rfl⟩
  refine aK.go 1000 ?_
  simp only [go_sem,rV,M8,yl]
  refine ⟨by omega,by rw [ay];omega,?_⟩
  rw [a_ (by rw [ay];omega),xS]
  exact cE _ _ _
def oB (L:List (List Int)):List ae:=L.map fun p=>.ps 1 (ints p)
theorem Eb (L:List (List Int)):(oB L).length=L.length:=by simp [oB]
@[go_sem] theorem wC {n:Nat} (L:List (List Int)):bx n (oB L)=True:=eq_true (uB fun p _=>du p)
theorem N4 (L M:List (List Int)):oB (L++M)=oB L++oB M:=by simp [oB]
@[go_sem] theorem Ywx (L:List (List Int)):eI ⟨1,false,24,[.aU], .slice⟩ (oB L)=True:=eq_true (by
 refine ⟨fun x hx=>?_,by decide,by decide,rfl⟩
 obtain ⟨t,_,rfl⟩:=cn.1 hx
 exact ⟨rfl,rfl⟩)
mutual
def Tm.gJ:Tm→List Int→List (List Int)
 | .mk _ ts,p=>p :: Tm.kR ts p 0
def Tm.kR:List Tm→List Int→Nat→List (List Int)
 | [],_,_=>[]
 | t :: ts,p,i=>t.gJ (p++[(i:Int)])++Tm.kR ts p (i+1)
end
mutual
theorem y3:∀ (t:Tm) (p:List Int),(t.gJ p).length=t.size
 | .mk _ ts,p=>by simp only [Tm.gJ,Tm.size,ax,QT ts p 0];omega
theorem QT:∀ (ts:List Tm) (p:List Int) (i:Nat),(Tm.kR ts p i).length=Tm.bF ts
 | [],_,_=>rfl
 | t :: ts,p,i=>by simp only [Tm.kR,Tm.bF,ay,y3 t,QT ts]
end
@[go_sem] theorem Yyh {π:Nat→Nat} {L:List (List Int)}:Option.map (dE π) (eV (oB L))=eV (oB L):=by
 cases h:oB L with
 | nil=>rfl
 | cons x l =>
  have hl:bx 0 (oB L):=of_eq_true (wC L)
  rw [TG,bu,w_,← h,cD hl]
def n8 (L:List (List Int)):ai:=[some (.var [i_ 2 1 (oB L)]),some (.var [.fn 186 [] [.ptr 0 0, .ptr 1 0]]),eV (oB L)]
def p6 (L:List (List Int)):ai:=[some (.var [i_ 3 1 (oB L)]),some (.var [.fn 186 [] [.ptr 0 0, .ptr 1 0]]),none,eV (oB L)]
theorem Oq:∀ (n:Nat) (t:Tm) (p:List Int) (L:List (List Int)),t.size≤n→p.length+t.size≤1000000→L.length+t.size≤1000000 →
  aq Tryz.prog (.fn 186 [] [.ptr 0 0, .ptr 1 0]) [t.aO, .ps 1 (ints p)] (n8 L) (fun r σ'=>r = .dz []∧σ'=p6 (L++t.gJ p))
 | 0,t,p,L,h,_,_=>by have:=ov t;omega
 | n+1,t,p,L,hn,hp,hL=>by
  unfold n8
  refine aq.begin (rs:=[]) (m:=25) 1000 Tryz.func186 rfl rfl rfl rfl rfl ?_
  simp only [go_sem,dc]
  refine aK.draw [⟨none,[],[4]⟩, .no, .no,⟨some 4,[4],[]⟩,⟨some 5,[2,5],[]⟩,⟨none,[0],[]⟩] 4 6 mixed rfl rfl (by decide) ?_
  simp only [go_sem,dx]
  refine ny (N2 p [] (by omega) (by simp)) ?_ (by simp [go_sem,du]) ?_
  ·simp only [go_sem,E2]
  have h2:bG (n8 L++[some (.var [.int .i64 t.head, .ps 2 (List.map Tm.aO t.args)]),some (.row [.ps 1 (ints (p++[]))] 0),none]) 2=eV (oB L):=by simp [n8,bG]
  have nD:=of_eq_true (Ywx [p++[]])
  rw [show oB [p++[]]=[.ps 1 (ints (p++[]))] from rfl] at nD
  have sF:List.take 1 [ae.ps 1 (ints (p++[]))]=[.ps 1 (ints (p++[]))]:=rfl
  simp only [n8,bj,bh] at h2
  simp only [go_sem,uO h2,nD,Eb,sF]
  refine ⟨by omega,?_⟩
  refine aK.go 1000 ?_
  simp only [go_sem,bn]
  have fF:=ov t
  have fQ:t.gJ p=p :: Tm.kR t.args p 0:=by cases t;rfl
  have me:=p5 t.args
  refine aK.h_ (ι:={q:Nat×List (List Int) // q.1≤t.args.length∧q.2≠[]∧q.2++Tm.kR (t.args.drop q.1) p q.1=L++t.gJ p∧q.2.length+Tm.bF (t.args.drop q.1)≤1000000}) 1000
   (fun q=>fG 29 [(1, .ps 1 (ints p)),(3, .ptr 1 0),(14, .ps 2 (t.args.map Tm.aO)),(15, .int .i64 t.args.length),(16, .int .i64 q.1.1)]) (fun q=>p6 q.1.2) (fun q=>t.args.length - q.1.1)
   ⟨(0,L++[p]),by simp only [di,fQ];refine ⟨by omega,by simp,by simp,by simp;omega⟩⟩ [(3,5),(5,3)] ?_ (fun _=>by simp [p6]) ?_
  ·refine iP rfl ?_
   unfold p6
   rw [N4,vQ (by simp [oB]),vS (by simp [oB])]
   simp only [go_sem,bQ,cD (bQ _),Eb,du,cD (du _)]
   have lw:bx 0 (oB (L++[p])):=of_eq_true (wC _)
   rw [N4] at lw
   rw [cD lw]
   exact ⟨rfl,il (by omega) lw⟩
  ·rintro ⟨⟨i,M⟩,hi,hM,aP,hlen⟩
   simp only at hi hM aP hlen
   have hMn:oB M≠[]:=by simp [oB,hM]
   by_cases bD:(i:Int)<t.args.length
   ·have aZ:i<t.args.length:=by omega
    have hw:IntKind.i64.wrap ((i:Int)+1)=((i+1:Nat):Int):=by rw [ek (by omega)];omega
    have hg:(t.args.map Tm.aO).getD i .undef=t.args[i].aO:=by simp [List.getD,aZ]
    obtain ⟨x,hx⟩:∃ x,t.args[i]=x:=⟨_,rfl⟩
    have hdr:t.args.drop i=x :: t.args.drop (i+1):=by rw [ao aZ,hx]
    rw [hdr,Tm.kR] at aP
    rw [hdr,Tm.bF] at hlen
    rw [hx] at hg
    unfold p6
    simp only [go_sem,bD,hg,ak,ft]
    refine ⟨by omega,?_⟩
    refine aK.FM [⟨none,[],[5]⟩,⟨none,[],[5]⟩,⟨none,[],[5]⟩, .no,⟨some 5,[5],[]⟩,⟨none,[5],[]⟩] 5 6 mixed (by decide) rfl (by decide) 6 rfl (by decide) rfl ?_
    simp only [go_sem,dx]
    have Br:bO (.ps 1 (ints (p++[(i:Int)])))=false:=by
     cases h:ints (p++[(i:Int)]) with
     | nil=>simp [ints] at h
     | cons a l=>rfl
    refine y0 [5] (N2 p [(i:Int)] (by omega) (by simp)) ?_ (by simp [go_sem,du]) (by simp [Br,fM,jM,among,eT]) ?_
    ·simp only [go_sem,ints,aF,aS]
    simp only [Br,a8,if_false,fM,jM,among,dX,mG,Bool.or_false,Nat.reduceAdd,Nat.reduceBEq,if_true,ax,aR,Nat.zero_max]
    simp only [go_sem]
    refine aK.go 1000 ?_
    simp only [go_sem]
    refine aK.go 1000 ?_
    simp only [go_sem]
    rw [← dc x]
    have amL:x.size+Tm.bF (t.args.drop (i+1))≤Tm.bF t.args:=by
     have:=DF (t.args.take i) (t.args.drop i)
     rw [List.take_append_drop,hdr,Tm.bF] at this;omega
    have v7:x.size≤n:=by omega
    have hI:∀ b,b<3→b=0∨b=1∨b=2:=fun b hb=>by omega
    refine aq.xJ (Z:=n8 M) (f:=.fn 186 [] [.ptr 0 0, .ptr 1 0]) (fun b=>if b=2 then 3 else b) (fun b b' h1 h2 e=>?_) (fun b hb=>?_) (fun b hb=>?_) (by simp [n8,go_sem]) rfl (by simp [go_sem,dC,du]) (by simp [n8,go_sem])
     (Oq n x (p++[(i:Int)]) M v7 (by simp only [ay,ax,aR];omega) (by omega)) ?_
    ·rcases hI b h1 with rfl | rfl | rfl<;>rcases hI b' h2 with rfl | rfl | rfl<;>first | rfl | exact absurd e (by decide)
    ·rcases hI b hb with rfl | rfl | rfl<;>simp
    ·rcases hI b hb with rfl | rfl | rfl
     ·exact ⟨_,rfl,by simp [go_sem]⟩
     ·exact ⟨_,rfl,rfl⟩
     ·exact ⟨_,rfl,by simp [go_sem]⟩
    ·rintro r Z' ⟨rfl,rfl⟩
     refine ⟨by simp [n8,p6],by simp [p6,go_sem],by simp [go_sem],?_⟩
     simp only [go_sem,n8,p6,jJ,e9,mY,aF,aS]
     refine aK.go 1000 ?_
     simp only [go_sem]
     refine ⟨⟨(i+1,M++x.gJ (p++[(i:Int)])),by simp only;omega,by simp [hM],by rw [← aP,cG],by simp only [ay,y3];omega⟩,[(3,6),(6,3)],iP rfl ?_,by simp only;omega⟩
     simp only [go_sem,hw,bQ,cD (bQ _),du,cD (du _)]
     trace_state
   ·have dP:i=t.args.length:=by omega
    subst dP
    rw [aV,Tm.kR,bn] at aP
    unfold p6
    simp only [go_sem,bD]
    refine aK.go 1000 ?_
    simp only [go_sem]
    rw [fL,← aP]
    exact ⟨_,fx _,by simp,by simp [go_sem],by simp [go_sem],rfl,rfl⟩
theorem Pg (t:Tm) (h:t.size≤1000000):aJ Tryz.prog 166 [t.aO] (.ps 1 (oB (t.gJ []))):=by
 refine aJ.l8 (rs:=[.tmp 2]) (m:=9) Tryz.func166 rfl rfl rfl (by decide) (of_eq_true (wC _)) ?_
 refine aK.pad 1 (ah _) (by simp [go_sem,dC]) trivial ?_
 refine aK.go 1000 ?_
 simp only [go_sem,dc,bh,List.replicate_one]
 refine aq.LK (args':=[t.aO, .ps 1 (ints [])]) ?_ ?_
 ·rw [dc]
  simp only [go_sem,E2]
 have hI:∀ b,b<3→b=0∨b=1∨b=2:=fun b hb=>by omega
 refine aq.xJ (Z:=n8 []) (f:=.fn 186 [] [.ptr 0 0, .ptr 1 0]) (fun b=>if b=2 then 0 else b+2) (fun b b' h1 h2 e=>?_) (fun b hb=>?_) (fun b hb=>?_) (by simp [n8,go_sem]) rfl (by simp [go_sem,dC,du]) (by simp [n8,go_sem])
  (Oq _ t [] [] (ah _) (by simpa using h) (by simpa using h)) ?_
 ·rcases hI b h1 with rfl | rfl | rfl<;>rcases hI b' h2 with rfl | rfl | rfl<;>first | rfl | exact absurd e (by decide)
 ·rcases hI b hb with rfl | rfl | rfl<;>simp
 ·rcases hI b hb with rfl | rfl | rfl<;>exact ⟨_,rfl,rfl⟩
 rintro r Z' ⟨rfl,rfl⟩
 refine ⟨by simp [n8,p6],by simp [p6,go_sem],by simp [go_sem],?_⟩
 simp only [go_sem,n8,p6,jJ,e9,mY,aF,aS]
 refine aK.go 1000 ?_
 simp only [go_sem]
 have eg:oB (t.gJ [])≠[]:=by cases t;simp [oB,Tm.gJ]
 rw [Ck eg,Bg eg]
 simp only [go_sem]
 rw [a_ (ah _)]
 exact cE _ _ _
def Tm.pf:Tm→List Int→Option Tm
 | t,[]=>some t
 | t,n :: p=>if n<0 then none else if h:n.toNat<t.args.length then (t.args[n.toNat]).pf p else none
def gT:Tm:=.mk 0 []
theorem Jp (t:Tm) (p:List Int) (hp:p.length≤1000000) (ht:t.size≤1000000000):aJ Tryz.prog 167 [t.aO, .ps 1 (ints p)] (.dz [((t.pf p).getD gT).aO, .bool (t.pf p).isSome]):=by
 refine aJ.begin (rs:=[.cell 4 70, .tmp 5]) (m:=29) 1000 Tryz.func167 rfl rfl rfl (by decide) (by simp [go_sem,dC]) ?_
 simp only [go_sem,ft,lH]
 refine aK.c_ (ι:={q:Nat×Tm // q.1≤p.length∧q.2.pf (p.drop q.1)=t.pf p∧q.2.size≤t.size}) 1000 (fun q=>fG 31 [(2, .ptr 0 0),(4, .ptr 1 0),(5, .bool false),(8, .ps 1 (ints p)),(9, .int .i64 p.length),(10, .int .i64 q.1.1)])
  (fun q=>[some (.var [.int .i64 q.1.2.head, .ps 2 (q.1.2.args.map Tm.aO)]),some (.var [.int .i64 0, .aU])]) (fun q=>p.length - q.1.1) ⟨(0,t),by simp⟩ ?_ (fun _=>av _) ?_
 ·simp only [go_sem,bQ,du]
 ·rintro ⟨⟨i,u⟩,hi,kV,yq⟩
  simp only at hi kV yq
  have me:=p5 u.args
  have Ni:=ov u
  by_cases bD:(i:Int)<p.length
  ·have aZ:i<p.length:=by omega
   have hw:IntKind.i64.wrap ((i:Int)+1)=((i+1:Nat):Int):=by rw [ek (by omega)];omega
   rw [ao aZ,Tm.pf] at kV
   obtain ⟨n,hn⟩:∃ n,p[i]=n:=⟨_,rfl⟩
   have hg:=xd aZ
   rw [hn] at kV hg
   by_cases h0:n<0
   ·rw [if_pos h0] at kV
    simp only [go_sem,bD,hg,lH,h0]
    refine ⟨by omega,?_⟩
    refine aK.go 1000 ?_
    simp only [go_sem,← kV,ep,Option.isSome_none,dc,gT,Tm.head,Tm.args,aS]
   ·rw [if_neg h0] at kV
    by_cases h1:n.toNat<u.args.length
    ·rw [dif_pos h1] at kV
     have h2:¬ (u.args.length:Int)≤n:=by omega
     have xY:(u.args.map Tm.aO).getD n.toNat .undef=(u.args[n.toNat]).aO:=nO h1
     simp only [go_sem,bD,hg,lH,h0,h2,hw,xY,ft]
     refine ⟨by omega,⟨by omega,by omega⟩,⟨(i+1,u.args[n.toNat]),by simp only;omega,kV,?_⟩,?_⟩
     ·have a1:=B2 u.args n.toNat h1
      have a2:=BZ u.args (n.toNat+1)
      simp only;omega
     ·refine ⟨⟨rfl,rfl,du _,bQ _⟩,by simp only;omega⟩
    ·rw [dif_neg h1] at kV
     have h2:(u.args.length:Int)≤n:=by omega
     simp only [go_sem,bD,hg,lH,h0,h2]
     refine ⟨by omega,?_⟩
     refine aK.go 1000 ?_
     simp only [go_sem,← kV,ep,Option.isSome_none,dc,gT,Tm.head,Tm.args,aS]
  ·have dP:i=p.length:=by omega
   subst dP
   rw [aV,Tm.pf] at kV
   simp only [go_sem,bD]
   refine aK.go 1000 ?_
   simp only [go_sem,← kV]
   rw [dc]
   exact cE _ _ _
def Tm.k_:Tm→List Int→Tm→Tm
 | _,[],u=>u
 | t,n :: p,u=>.mk t.head (t.args.set n.toNat ((t.args.getD n.toNat gT).k_ p u))
theorem LG:gT.head=0:=rfl
theorem Lo:gT.args=[]:=rfl
theorem A4 {σ τ:ai} {b:Nat} (h:b < σ.length):bG (σ++τ) b=bG σ b:=by simp only [bG,ck h]
theorem vP {σ:ai} {b c:Nat} {x:Option bE} (h:c≠b):bG (σ.set c x) b=bG σ b:=by simp only [bG,bL h]
theorem A3 {σ:ai} {b:Nat} {x:Option bE} (h:b < σ.length):bG (σ.set b x) b=x:=by simp [bG,h]
theorem Ec {σ:ai} {b:Nat} {x:bE} (h:b < σ.length):bZ σ b x = σ.set b (some x):=if_pos h
theorem EU {n:Nat} {x:Option bE} (hx:jg n x):∀ {σ:ai} (b:Nat),bt n σ→bt n (σ.set b x)
 | [],_,_=>trivial
 | a :: σ,0,h=>⟨hx,h.2⟩
 | a :: σ,b+1,h=>⟨h.1,EU hx b h.2⟩
theorem N0 {S:ai} {w':Tm} {x:ae} (hx:pT (fun _=>true) S w'.aO x):∀ (l:List Tm) (j:Nat),kB (fun _=>true) S ((l.set j w').map Tm.aO) ((l.map Tm.aO).set j x)
 | [],_=>by simp [kB]
 | a :: l,0=>by
  simp only [de,aF,E5]
  exact ⟨hx,cE _ _ _⟩
 | a :: l,j+1=>by
  simp only [cZ,aF,E5]
  exact ⟨vR _ _ _,N0 hx l j⟩
theorem Tq {S:ai} {w':Tm} {x:ae} (hx:pT (fun _=>true) S w'.aO x) (h:Int) (l:List Tm) (j b:Nat) (hg:bG S b=some (.row ((l.map Tm.aO).set j x) 0)) :
  pT (fun _=>true) S (Tm.mk h (l.set j w')).aO (.agg [.int .i64 h, .os b 0 l.length 2]):=by
 rw [dc]
 simp only [go_sem,Tm.head,Tm.args,hg,bg]
 rw [a_ (by simp)]
 exact N0 hx l j
theorem SI {n:Nat} {x:ae}:∀ {l:List ae},bx n l→x.low n→∀ i,bx n (l.set i x)
 | [],_,_,_=>trivial
 | a :: l,h,hx,0=>⟨hx,h.2⟩
 | a :: l,h,hx,i+1=>⟨h.1,SI h.2 hx i⟩
structure AX where
 k:Nat
 w:Tm
 a:ae
 σ:ai
def BX (t:Tm) (p:List Int) (u:Tm) (q:AX):Prop :=
 q.k≤p.length∧(q.w.pf (p.drop q.k)).isSome=true∧q.w.size≤t.size∧5≤q.σ.length∧bt q.σ.length q.σ∧q.a.low q.σ.length∧bG q.σ 1=some (.var [.int .i64 u.head, .ps 2 (u.args.map Tm.aO)])∧bG q.σ 2=some (.var [.int .i64 0, .aU]) ∧
 ((q.k=0∧q.a = .ptr 4 0∧q.w=t∧bG q.σ 4=some (.var [.int .i64 t.head, .ps 2 (t.args.map Tm.aO)])) ∨
  ∃ (c i:Nat) (es:List ae) (c0 c1:ae) (F:Tm→Tm),q.a = .rp c i 0∧5≤c∧c<q.σ.length∧bG q.σ c=some (.row es 0)∧i<es.length∧es.getD i .undef=q.w.aO∧bG q.σ 4=some (.var [c0,c1])∧c0.cF=true∧c1.cF=true ∧
   F (q.w.k_ (p.drop q.k) u)=t.k_ p u ∧
   ∀ (S:ai) (w':Tm) (x:ae),(∀ b,5≤b→b<q.σ.length→b≠c→bG S b=bG q.σ b)→bG S c=some (.row (es.set i x) 0)→pT (fun _=>true) S w'.aO x→pT (fun _=>true) S (F w').aO (.agg [c0,c1]))
theorem Yoq (t:Tm) (p:List Int) (u v:Tm) (hp:p.length≤1000000) (ht:t.size≤1000000) (h:t.pf p=some v):aJ Tryz.prog 173 [t.aO, .ps 1 (ints p),u.aO] (.dz [(t.k_ p u).aO, .int .i64 0]):=by
 refine aJ.begin (rs:=[.cell 6 70, .tmp 7]) (m:=46) 1000 Tryz.func173 rfl rfl rfl (by decide) (by simp [go_sem,dC]) ?_
 simp only [go_sem,ft]
 refine aq.bU [] (Jp t p hp (by omega)) (by (try simp only [dc]);exact cE _ _ _) (by simp [go_sem,dC,bQ,du]) ?_;rw [jb];simp only [ite_self];refine aK.go 1000 ?_
 rw [h]
 simp only [go_sem,br,Option.isSome_some,dc,lH]
 refine aK.c_ (ι:={q:AX // BX t p u q}) 1000 (fun q=>fG 49 [(5, .ptr 1 0),(6, .ptr 2 0),(7, .int .i64 0),(10, .ptr 4 0),(11,q.1.a),(24, .ps 1 (ints p)),(25, .int .i64 p.length),(26, .int .i64 q.1.k)])
  (fun q=>q.1.σ) (fun q=>p.length - q.1.k) ⟨⟨0,t, .ptr 4 0,[none,some (.var [.int .i64 u.head, .ps 2 (u.args.map Tm.aO)]),some (.var [.int .i64 0, .aU]),none,some (.var [.int .i64 t.head, .ps 2 (t.args.map Tm.aO)])]⟩,?_⟩ ?_ (fun _=>av _) ?_
 ·refine ⟨av _,by simp [h],ah _,by simp,by simp [go_sem,bQ],by simp [go_sem],rfl,rfl, .inl ⟨rfl,rfl,rfl,rfl⟩⟩
 ·simp only [go_sem,du,bQ]
 ·rintro ⟨⟨k,w,a,σ⟩,hk,kV,fF,yn,iJ,sB,rE,u9,hq⟩
  simp only at hk kV fF yn iJ sB rE u9 hq
  have me:=p5 w.args
  have pA:cJ w.aO=true:=by rw [dc];rfl
  have wg:∀ cs,jh true cs = .agg cs:=fun _=>rfl
  have vX:=ov w
  by_cases bD:(k:Int)<p.length
  ·have aZ:k<p.length:=by omega
   have hw:IntKind.i64.wrap ((k:Int)+1)=((k+1:Nat):Int):=by rw [ek (by omega)];omega
   rw [ao aZ,Tm.pf] at kV
   obtain ⟨n,hn⟩:∃ n,p[k]=n:=⟨_,rfl⟩
   have hg:=xd aZ
   rw [hn] at kV hg
   have h0:¬ n<0:=fun h0=>by rw [if_pos h0] at kV;cases kV
   rw [if_neg h0] at kV
   have h1:n.toNat<w.args.length:=Decidable.by_contra fun h1=>by rw [dif_neg h1] at kV;cases kV
   rw [dif_pos h1] at kV
   have eg:w.args≠[]:=by intro e;rw [e] at h1;simp at h1
   have Vo:w.k_ (p.drop k) u = .mk w.head (w.args.set n.toNat ((w.args[n.toNat]).k_ (p.drop (k+1)) u)):=by
    rw [ao aZ,hn,Tm.k_];simp [List.getD,h1]
   rcases hq with ⟨rfl,rfl,rfl,zh⟩ | ⟨c,i,es,c0,c1,F,rfl,U5,gK,xY,Em,ow,zh,zj,I0,hF,ym⟩
   ·have MS:(0:Int)<p.length:=by simpa using bD
    simp only [go_sem,MS,hg,lH,zh]
    refine aq.sI [] (ER w.args eg (by omega)) (cE _ _ _) (by simp [go_sem,bQ]) ?_
    rw [jb]
    simp only [zO,zQ,zU,w_,zW,up,cD (bQ _)]
    obtain ⟨iM,iX⟩:∃ iM,σ++[none,some (bE.row (w.args.map Tm.aO) 0)] = iM:=⟨_,rfl⟩
    have Ao : iM.length = σ.length+2:=by rw [← iX];simp
    have CO:bG iM 4=some (.var [.int .i64 w.head, .ps 2 (w.args.map Tm.aO)]):=by rw [← iX,A4 (by omega)];exact zh
    have Cz : 4 < iM.length:=by omega
    have p9:bt iM.length iM:=by
     rw [Ao,← iX]
     exact o8 (nx (by omega) iJ) (by simp [go_sem,bQ])
    rw [iX]
    refine aK.go 1000 ?_
    simp only [go_sem,CO,Ec Cz,A3 Cz]
    refine ⟨⟨by omega,by omega⟩,⟨⟨1,w.args[n.toNat], .rp (1 + σ.length) n.toNat 0,_⟩,?_⟩,⟨⟨.inl rfl,rfl⟩,fx _,?_,?_⟩,by simp only;omega⟩
    ·have a1:=B2 w.args n.toNat h1
     have a2:=BZ w.args (n.toNat+1)
     refine ⟨by simp only;omega,kV,by simp only;omega,by simp only [bg];omega,?_,?_,?_,?_, .inr ⟨1 + σ.length,n.toNat,w.args.map Tm.aO,_,_,fun w'=>.mk w.head (w.args.set n.toNat w'),rfl,by omega,by simp only [bg];omega,?_,by simpa using h1,nO h1,A3 Cz,rfl,rfl,Vo.symm,?_⟩⟩
     ·simp only [bg]
      exact EU (by simp [jg,go_sem];omega) 4 p9
     ·simp [go_sem];omega
     ·simp only;rw [vP (by decide),← iX,A4 (by omega)];exact rE
     ·simp only;rw [vP (by decide),← iX,A4 (by omega)];exact u9
     ·simp only;rw [vP (by omega),← iX,Nat.add_comm];simp [bG]
     ·intro S w' x _ hS hx
      exact Tq hx _ _ _ _ hS
    ·simp only [bg]
     exact ⟨by omega,by omega,by omega,by simp [go_sem];omega,du _⟩
    ·simp only [bg]
     exact EU (by simp [jg,go_sem];omega) 4 p9
   ·simp only [go_sem,bD,hg,lH,xY,Em,ow,ft]
    refine ⟨by omega,?_⟩
    refine aq.sI [] (ER w.args eg (by omega)) (cE _ _ _) (by simp [go_sem,bQ]) ?_
    rw [jb]
    simp only [zO,zQ,zU,w_,zW,up,cD (bQ _)]
    obtain ⟨iM,iX⟩:∃ iM,σ++[none,some (bE.row (w.args.map Tm.aO) 0)] = iM:=⟨_,rfl⟩
    have Ao : iM.length = σ.length+2:=by rw [← iX];simp
    have CP:bG iM c=some (.row es 0):=by rw [← iX,A4 gK];exact xY
    have Cz:c < iM.length:=by omega
    have p9:bt iM.length iM:=by
     rw [Ao,← iX]
     exact o8 (nx (by omega) iJ) (by simp [go_sem,bQ])
    have vn:∀ fz,jg iM.length (some (.row (es.set i (.agg [.int .i64 w.head, .os (1 + σ.length) 0 w.args.length 2])) fz)):=fun fz=>by
     have F8:bx iM.length es:=qs p9 c _ (jU CP)
     exact SI F8 (by simp [go_sem];omega) i
    have F8:bx iM.length es:=qs p9 c _ (jU CP)
    have al_:i<(es.set i (.agg [.int .i64 w.head, .os (1 + σ.length) 0 w.args.length 2])).length:=by simpa using Em
    have hO:(es.set i (ae.agg [.int .i64 w.head, .os (1 + σ.length) 0 w.args.length 2])).getD i .undef = .agg [.int .i64 w.head, .os (1 + σ.length) 0 w.args.length 2]:=by simp [List.getD,Em]
    rw [iX]
    refine aK.go 1000 ?_
    simp only [go_sem,CP,Ec Cz,A3 Cz,Em,ow,ft,pA,wg,bg,hO]
    refine ⟨by omega,⟨by omega,by omega⟩,⟨⟨k+1,w.args[n.toNat], .rp (1 + σ.length) n.toNat 0,_⟩,?_⟩,⟨⟨.inl rfl,by rw [hw]⟩,fx _,?_,?_⟩,by simp only;omega⟩
    ·have a1:=B2 w.args n.toNat h1
     have a2:=BZ w.args (n.toNat+1)
     refine ⟨by simp only;omega,kV,by simp only;omega,by simp only [bg];omega,?_,?_,?_,?_, .inr ⟨1 + σ.length,n.toNat,w.args.map Tm.aO,c0,c1,fun w'=>F (.mk w.head (w.args.set n.toNat w')),rfl,by omega,by simp only [bg];omega,?_,by simpa using h1,nO h1,?_,zj,I0,by simp only;rw [← hF,Vo],?_⟩⟩
     ·simp only [bg]
      exact EU (vn 0) c p9
     ·simp [go_sem];omega
     ·simp only;rw [vP (by omega),← iX,A4 (by omega)];exact rE
     ·simp only;rw [vP (by omega),← iX,A4 (by omega)];exact u9
     ·simp only;rw [vP (by omega),← iX,Nat.add_comm];simp [bG]
     ·simp only;rw [vP (by omega),← iX,A4 (by omega)];exact zh
     ·intro S w' x FZ hS hx
      refine ym S _ (.agg [.int .i64 w.head, .os (1 + σ.length) 0 w.args.length 2]) (fun b h5 hb eg=>?_) ?_ (Tq hx _ _ _ _ hS)
      ·rw [FZ b h5 (by simp only [bg];omega) (by omega)]
       simp only;rw [vP (by omega),← iX,A4 hb]
      ·rw [FZ c U5 (by simp only [bg];omega) (by omega)]
       simp only;rw [A3 Cz]
    ·simp only [bg]
     exact ⟨by omega,by omega,by omega,by simp [go_sem];omega,du _⟩
    ·simp only [bg]
     exact EU (vn 0) c p9
  ·have dP:k=p.length:=by omega
   subst dP
   rw [aV] at hq
   rcases hq with ⟨h0,rfl,rfl,zh⟩ | ⟨c,i,es,c0,c1,F,rfl,U5,gK,xY,Em,ow,zh,zj,I0,hF,ym⟩
   ·simp only [go_sem,bD]
    refine aK.go 1000 ?_
    have UR:=zR zh
    have UO:=zR u9
    have MB:bG (σ.set 4 (some (bE.var [.int .i64 u.head, .ps 2 (u.args.map Tm.aO)]))) 2=some (.var [.int .i64 0, .aU]):=by rw [vP (by decide)];exact u9
    simp only [go_sem,rE,u9,zh,Ec UR,A3 UR,MB]
    rw [Ec (by simpa using UO),A3 (by simpa using UO)]
    have M8:p=[]:=aY h0
    subst M8
    rw [Tm.k_]
    simp only [go_sem]
   ·simp only [go_sem,bD]
    refine aK.go 1000 ?_
    have MA:∀ X,bG (σ.set c X) 2=some (.var [.int .i64 0, .aU]):=fun X=>by rw [vP (by omega)];exact u9
    have CO:∀ X,bG (σ.set c X) 4=some (.var [c0,c1]):=fun X=>by rw [vP (by omega)];exact zh
    simp only [go_sem,rE,u9,zh,xY,Em,ow,ft,pA,wg,Ec gK,MA,CO,zj,I0]
    rw [Ec (by simp only [bg];omega),A3 (by simp only [bg];omega)]
    have fZ:pT (fun _=>true) ((σ.set c (some (bE.row (es.set i u.aO) 0))).set 2 (some (bE.var [c0,c1]))) (t.k_ p u).aO (.agg [c0,c1]):=by
     rw [← hF,Tm.k_]
     refine ym _ u _ (fun b h5 hb eg=>?_) ?_ (vR _ _ _)
     ·rw [vP (by omega),vP (by omega)]
     ·rw [vP (by omega),A3 gK]
    rw [dc u,dc (t.k_ p u)] at fZ
    simp only [go_sem] at fZ
    simp only [go_sem,zj,I0]
    exact ⟨by omega,fZ⟩
structure Bd where
 v:Int
 t:Tm
def Bd.aO (b:Bd):ae:=.agg [.int .i64 b.v, .int .i64 b.t.head, .ps 2 (b.t.args.map Tm.aO)]
def nP (l:List Bd):List ae:=l.map Bd.aO
theorem Bf (l:List Bd):(nP l).length=l.length:=by simp [nP]
theorem Yt3 {n:Nat} (b:Bd):b.aO.low n:=⟨trivial,trivial,bQ _,trivial⟩
@[go_sem] theorem Ea {n:Nat} (l:List Bd):bx n (nP l)=True:=eq_true (uB fun b _=>Yt3 b)
theorem OY {l:List Bd} {i:Nat} (h:i<l.length):(nP l).getD i .undef=l[i].aO:=nO h
theorem Fe (b:Bd):b.aO.cells=[.int .i64 b.v, .int .i64 b.t.head, .ps 2 (b.t.args.map Tm.aO)]:=rfl
def jk:Int→List Bd→Int
 | _,[]=>0
 | m,b :: l=>if b.v≤m∨255<b.v∨b.t.check≠0∨b.t.head = -1 - b.v then 1 else jk b.v l
theorem X6 (bs:List Bd) (hl:bs.length<1000000) (hb:∀ b∈bs,b.t.size<99999999):aJ Tryz.prog 189 [.ps 3 (nP bs)] (.int .i64 (jk (-1) bs)):=by
 refine aJ.begin (rs:=[.tmp 2]) (m:=38) 1000 Tryz.func189 rfl rfl rfl (by decide) trivial ?_
 simp only [go_sem,Bf]
 refine aK.c_ (ι:={q:Nat×Int // q.1≤bs.length∧jk q.2 (bs.drop q.1)=jk (-1) bs∧-1≤q.2}) 1000 (fun q=>fG 39 [(2, .int .i64 0),(3, .int .i64 q.1.2),(6, .ps 3 (nP bs)),(7, .int .i64 bs.length),(8, .int .i64 q.1.1)])
  (fun _=>[]) (fun q=>bs.length - q.1.1) ⟨(0, -1),by simp⟩ ?_ (fun _=>av _) ?_
 ·simp only [go_sem]
 ·rintro ⟨⟨i,m⟩,hi,aP,hm⟩
  simp only at hi aP hm
  by_cases bD:(i:Int)<bs.length
  ·have aZ:i<bs.length:=by omega
   have hw:IntKind.i64.wrap ((i:Int)+1)=((i+1:Nat):Int):=by rw [ek (by omega)];omega
   rw [ao aZ,jk] at aP
   have jx:=hb _ (aE aZ)
   have hg:=OY aZ
   obtain ⟨b,hbi⟩:∃ b,bs[i]=b:=⟨_,rfl⟩
   rw [hbi] at aP jx hg
   by_cases h1:b.v≤m
   ·rw [if_pos (.inl h1)] at aP
    simp only [go_sem,bD,Bf,hg,Fe,h1]
    refine ⟨by omega,?_⟩
    refine aK.go 1000 ?_
    simp only [go_sem,← aP]
   ·by_cases h2 : 255<b.v
    ·rw [if_pos (.inr (.inl h2))] at aP
     simp only [go_sem,bD,Bf,hg,Fe,h1,h2]
     refine ⟨by omega,?_⟩
     refine aK.go 1000 ?_
     simp only [go_sem,← aP]
    ·have rq:=B8 b.t (by omega)
     simp only [go_sem,bD,Bf,hg,Fe,h1,h2]
     refine ⟨by omega,?_⟩
     refine aq.bU [] (rq) (by (try simp only [dc]);exact cE _ _ _) (by simp [go_sem,dC,bQ]) ?_;simp only [bO,bX,bW,if_true];refine aK.go 1000 ?_
     by_cases h3:b.t.check=0
     ·have rH:IntKind.i64.wrap (-1 - b.v) = -1 - b.v:=ek (by omega)
      by_cases h4:b.t.head = -1 - b.v
      ·rw [if_pos (.inr (.inr (.inr h4)))] at aP
       simp only [go_sem,h3,rH,h4]
       refine aK.go 1000 ?_
       simp only [go_sem,← aP]
      ·rw [if_neg (by simp [h1,h2,h3,h4])] at aP
       simp only [go_sem,h3,rH,h4,hw]
       refine ⟨⟨(i+1,b.v),by simp only;omega,aP,by simp only;omega⟩,⟨rfl,rfl⟩,by simp only;omega⟩
     ·rw [if_pos (.inr (.inr (.inl h3)))] at aP
      simp only [go_sem,h3]
      refine aK.go 1000 ?_
      simp only [go_sem,← aP]
  ·have dP:i=bs.length:=by omega
   subst dP
   rw [aV,jk] at aP
   simp only [go_sem,bD]
   refine aK.go 1000 ?_
   simp only [go_sem,← aP]
theorem OP (t:Tm) (fF:t.size<99999999):aJ Tryz.prog 190 [t.aO] (if t.check=0 then .dz [t.aO, .int .i64 0] else .dz [gT.aO, .int .i64 t.check]):=by
 refine aJ.begin (rs:=[.cell 2 70, .tmp 3]) (m:=11) 1000 Tryz.func190 rfl rfl rfl (by decide) (by split<;>simp [go_sem,dC]) ?_
 have rq:=B8 t (by omega)
 simp only [go_sem,ft]
 refine aq.bU [] (rq) (by (try simp only [dc]);exact cE _ _ _) (by simp [go_sem,dC,bQ]) ?_;simp only [bO,bX,bW,if_true];refine aK.go 1000 ?_
 by_cases h:t.check=0
 ·rw [if_pos h]
  simp only [go_sem,h,dc]
 ·rw [if_neg h]
  simp only [go_sem,h,dc,LG,Lo,aS]
def fj (bs:List Bd):List ae:=bs.map fun b=>.int .i64 b.v
def fO (bs:List Bd):List ae:=bs.map fun b=>b.t.aO
def pR (bs:List Bd) (t:Tm):Tm:=((bs.find? fun b=>b.v == -1 - t.head).map Bd.t).getD t
theorem yZ (bs:List Bd) (v:Int):(fj bs).all (sameKind (.int .i64 v))=true:=by
 simp [fj,sameKind]
theorem EX (v:Int):∀ (bs:List Bd) (n:Nat),(match eY (.int .i64 v) (fj bs) n with | some i=>n≤i∧∃ b,bs[i - n]? = some b∧bs.find? (fun b=>b.v==v)=some b | none=>bs.find? (fun b=>b.v==v)=none)
 | [],n=>by simp [fj,eY]
 | b :: bs,n=>by
  have ih:=EX v bs (n+1)
  simp only [fj,aF,eY,j7] at ih ⊢
  by_cases c:b.v=v
  ·have hc:e8 (.int .i64 v) (.int .i64 b.v)=true:=by simp [e8,c]
   have kY:(b.v==v)=true:=by simpa using c
   rw [hc,if_pos rfl]
   refine ⟨ah _,b,by simp,?_⟩
   rw [kY]
  ·have hc:e8 (.int .i64 v) (.int .i64 b.v)=false:=by simp only [e8,beq_eq_false_iff_ne];exact fun e=>c e.symm
   have kY:(b.v==v)=false:=by simpa using c
   rw [hc,kY]
   simp only [a8,if_false]
   split at ih
   ·rename_i i _
    obtain ⟨h1,x,h2,h3⟩:=ih
    refine ⟨by omega,x,?_,h3⟩
    rw [show i - n=(i - (n+1))+1 by omega];simpa using h2
   ·exact ih
theorem JS (bs:List Bd) (v:Int) (z:ae):eM (fj bs) (fO bs) z (.int .i64 v) true=match bs.find? (fun b=>b.v==v) with | some b=>.dz [b.t.aO, .bool true] | none=>.dz [z, .bool false]:=by
 have h:=EX v bs 0
 unfold eM
 cases hk:eY (.int .i64 v) (fj bs) 0 with
 | some i =>
  rw [hk] at h
  obtain ⟨_,b,h2,h3⟩:=h
  rw [h3]
  simp only [if_true,fO,List.getD,cb]
  rw [gG] at h2
  rw [h2];rfl
 | none =>
  rw [hk] at h
  rw [show bs.find? (fun b=>b.v==v)=none from h];rfl
theorem Yv5 (bs:List Bd) (t:Tm) (ht:n5 (-1 - t.head)):aJ Tryz.prog 193 [.pm (fj bs) (fO bs),t.aO] (pR bs t).aO:=by
 refine aJ.begin (rs:=[.cell 4 70]) (m:=16) 1000 Tryz.func193 rfl rfl rfl (by decide) (by simp [go_sem,dC]) ?_
 have hw:IntKind.i64.wrap (-1 - t.head) = -1 - t.head:=ek ht
 have s0:pR bs t=((bs.find? fun b=>b.v == -1 - t.head).map Bd.t).getD t:=rfl
 have oP:=JS bs (-1 - t.head) (.agg [.int .i64 0, .aU])
 cases hf:bs.find? (fun b=>b.v == -1 - t.head) with
 | some b =>
  rw [hf] at oP s0
  rw [s0]
  simp only [go_sem,ft,hw,yZ,oP,dc,bu,br]
 | none =>
  rw [hf] at oP s0
  rw [s0]
  simp only [go_sem,ft,hw,yZ,oP,dc,j8,ep]
mutual
def Tm.sub (bs:List Bd):Tm→Tm
 | .mk h ts=>if h<0 then pR bs (.mk h ts) else .mk h (Tm.rM bs ts)
def Tm.rM (bs:List Bd):List Tm→List Tm
 | []=>[]
 | t :: ts=>t.sub bs :: Tm.rM bs ts
end
theorem S5 (bs:List Bd):∀ ts,Tm.rM bs ts=ts.map (Tm.sub bs)
 | []=>rfl
 | t :: ts=>by simp [Tm.rM,S5 bs ts]
def vC (bs:List Bd):ae:=.fn 193 [.pm (fj bs) (fO bs)] []
theorem iD {n:Nat} (bs:List Bd):bx n (fj bs)∧bx n (fO bs):=⟨uB fun _ _=>trivial,uB fun b _=>dC b.t⟩
@[go_sem] theorem Yyd {π:Nat→Nat} (bs:List Bd):dG π (vC bs)=vC bs:=zK (show ae.low 0 (vC bs) from ⟨⟨iD bs,trivial⟩,trivial⟩)
@[go_sem] theorem Yyn {n:Nat} (bs:List Bd):ae.low n (vC bs)=True:=eq_true ⟨⟨iD bs,trivial⟩,trivial⟩
@[go_sem] theorem xB (b sz:Nat) (l:List ae):((i_ b sz l).cF=true)=True:=eq_true (by cases l<;>rfl)
theorem N1 {bs:List Bd} {t:Tm} (h:t.head<0):t.sub bs=pR bs t:=by
 cases t;rw [Tm.sub];exact if_pos h
theorem Ynq {bs:List Bd} {t:Tm} (h:¬ t.head<0):t.sub bs = .mk t.head (t.args.map (Tm.sub bs)):=by
 cases t;rw [Tm.sub,S5];exact if_neg h
theorem E7 {t:Tm} (h:t.fit):n5 t.head:=by cases t;exact h.1
theorem xg {t:Tm} (h:t.fit):Tm.fits t.args:=by cases t;exact h.2
theorem QH (bs:List Bd):∀ (n:Nat) (t:Tm),t.size≤n→t.size≤100000000→t.fit→aJ Tryz.prog 191 [t.aO,vC bs] (t.sub bs).aO
 | 0,t,h,_,_=>by have:=ov t;omega
 | n+1,t,h,hs,hf=>by
  refine aJ.begin (rs:=[.cell 4 70]) (m:=32) 1000 Tryz.func191 rfl rfl rfl (by decide) (by simp [go_sem,dC]) ?_
  have fF:=ov t
  have me:=p5 t.args
  by_cases fN:t.head<0
  ·simp only [go_sem,ft,fN]
   have zd:t.sub bs=pR bs t:=N1 fN
   have fp:n5 (-1 - t.head):=by have:=E7 hf;unfold n5 at *;omega
   refine aq.bU [] (Yv5 bs t fp) (by simp only [bj,bh,bn,dc];exact cE _ _ _) (by simp [go_sem,dC,iD]) ?_
   rw [jb];simp only [ite_self]
   refine aK.go 1000 ?_
   rw [zd]
   simp only [go_sem,ft]
   rw [dc];exact cE _ _ _
  ·simp only [go_sem,ft,fN,ak]
   refine aK.h_ (ι:={q:Nat×List Tm // q.1≤t.args.length∧q.2=(t.args.take q.1).map (Tm.sub bs)}) 1000 (fun q=>fG 34 [(1,vC bs),(4, .ptr 1 0),(5, .ptr 2 0),(18, .ps 2 (t.args.map Tm.aO)),(19, .int .i64 t.args.length),(20, .int .i64 q.1.1)])
    (fun q=>[none,some (.var [.int .i64 0, .aU]),some (.var [.int .i64 t.head,i_ 3 2 (q.1.2.map Tm.aO)]),eV (q.1.2.map Tm.aO)]) (fun q=>t.args.length - q.1.1) ⟨(0,[]),by simp⟩ [] ?_ (fun _=>av _) ?_
   ·refine iP rfl ?_
    simp only [go_sem,aS,uD,tz,bQ,cD (bQ _)]
   ·rintro ⟨⟨i,L⟩,hi,hL⟩
    simp only at hi hL
    by_cases bD:(i:Int)<t.args.length
    ·have aZ:i<t.args.length:=by omega
     have hw:IntKind.i64.wrap ((i:Int)+1)=((i+1:Nat):Int):=by rw [ek (by omega)];omega
     have hg:(t.args.map Tm.aO).getD i .undef=t.args[i].aO:=nO aZ
     simp only [go_sem,bD,ak,hg,ft]
     refine ⟨by omega,?_⟩
     refine aK.draw [⟨none,[],[5]⟩,⟨none,[],[5]⟩, .no, .no, .no,⟨some 5,[5],[]⟩,⟨some 6,[3,6],[]⟩, .no,⟨none,[2],[]⟩] 5 7 mixed rfl rfl (by decide) ?_
     simp only [go_sem,dx]
     have qk:=H0 (xg hf) i aZ
     have a1:=B2 t.args i aZ
     have a2:=BZ t.args (i+1)
     obtain ⟨x,hx⟩:∃ x,t.args[i]=x:=⟨_,rfl⟩
     simp only [hx] at qk a1 ⊢
     refine ny (QH bs n x (by omega) (by omega) qk) (by simp only [dc,bh,bn];exact cE _ _ _) (by simp [go_sem,dC]) ?_
     have h3:bG ([none,some (.var [.int .i64 0, .aU]),some (.var [.int .i64 t.head,i_ 3 2 (L.map Tm.aO)]),eV (L.map Tm.aO),some (.var [.int .i64 x.head, .ps 2 (x.args.map Tm.aO)]),some (.row [(x.sub bs).aO] 0),none]) 3=eV (L.map Tm.aO):=rfl
     have nD:=of_eq_true (B9 [x.sub bs])
     rw [show [x.sub bs].map Tm.aO=[(x.sub bs).aO] from rfl] at nD
     have sF:List.take 1 [(x.sub bs).aO]=[(x.sub bs).aO]:=rfl
     simp only [go_sem,uO h3,nD,ak,sF,ft]
     have hLl:L.length=i:=by rw [hL];simp;omega
     refine ⟨by rw [dc];rfl,by omega,?_⟩
     refine aK.go 1000 ?_
     simp only [go_sem,hw]
     refine ⟨⟨(i+1,L++[x.sub bs]),by simp only;omega,by simp only;rw [hL,List.take_succ_eq_append_getElem aZ,hx];simp⟩,[(3,6),(6,3)],iP rfl ?_,by simp only;omega⟩
     have lw:bx 0 ((L++[x.sub bs]).map Tm.aO):=bQ _
     dsimp only
     rw [cL] at lw ⊢
     rw [vQ (by simp),vS (by simp)]
     simp only [aF,aS] at lw
     simp only [go_sem,bQ,cD (bQ _),cD lw,il (av 4) lw,ak,ax,aR,aF,aS]
    ·have dP:i=t.args.length:=by omega
     subst dP
     simp only [go_sem,bD]
     refine aK.go 1000 ?_
     simp only [go_sem]
     rw [Ynq fN,dc]
     rw [show (Tm.mk t.head (t.args.map (Tm.sub bs))).head=t.head from rfl,show (Tm.mk t.head (t.args.map (Tm.sub bs))).args=t.args.map (Tm.sub bs) from rfl]
     rw [hL,dm]
     simp only [go_sem,rQ]
theorem Zrc (ts:List Bd) (n0:Nat) (kf:ai) (S:Nat→ai) (p:Nat) (y:ae) (h0 : kf.length=n0) (xO : kf++[none]=S 0) (hlen:∀ i,(S i).length=n0+1) (eE:∀ i,bG (S i) p=some (.var [.ps 3 (nP ts)])) (hp:p<n0)
  (hs:∀ i,bt (n0+1) (S i)) (nH:bt n0 kf) (nJ:y.low n0) (hl:ts.length<2 ^ 62)
  (hy:∀ i (h:i<ts.length),aq Tryz.prog y [.int .i64 ((ts.length:Int) - 1 - i),ts[ts.length - 1 - i].aO] (S i) (fun r σ'=>r = .bool true∧n0+1≤σ'.length∧bt σ'.length σ'∧∃ π:Nat→Nat,(∀ b,b<n0→π b=b)∧(∀ b b',b<n0+1→b'<n0+1→π b = π b'→b=b')∧gj π σ' 0 (S (i+1)))) :
  aq Tryz.prog (.fn 227 [] [.ptr p 0]) [y] kf (fun _ σ'=>σ'=S ts.length):=by
 subst h0
 refine aq.l8 (rs:=[]) (m:=17) Tryz.func227 rfl rfl rfl rfl rfl ?_
 refine aK.pad 1 (ah _) (by simp [go_sem,nJ,hp]) nH ?_
 rw [show List.replicate 1 (none:Option bE)=[none] from rfl,xO]
 refine aK.go 1000 ?_
 simp only [go_sem,eE,ah,Bf]
 rw [ek (by omega)]
 have CZ:bt (kf.length+1) (S 0):=hs 0
 refine aK.c_ (ι:={i:Nat // i≤ts.length}) 1000 (fun i=>fG 19 [(0,y),(1, .ptr p 0),(3, .int .i64 ((ts.length:Int) - 1 - i.1))]) (fun i=>S i.1) (fun i=>ts.length - i.1) ⟨0,by omega⟩ ?_ (fun i=>by rw [hlen];exact dI _) ?_
 ·simp only [go_sem,hlen,CZ,mQ (dI _) nJ,cI,Int.sub_zero]
  exact ⟨fx _,by omega⟩
 ·rintro ⟨i,hi⟩
  by_cases bD : 0≤(ts.length:Int) - 1 - i
  ·have aZ:i<ts.length:=by omega
   have hb:ts.length - 1 - i<ts.length:=by omega
   have hn:((ts.length:Int) - 1 - i).toNat=ts.length - 1 - i:=by omega
   simp only [go_sem,bD,eE,ah,Bf,hn,OY hb,Fe]
   (repeat ((with_reducible refine And.intro ?_ ?_); ·omega))
   refine aK.xG (.bool true) trivial (by rw [hlen];exact dI _) ?_ ?_ ?_ ?_ ?_ ?_
   ·rw [hlen];exact mQ (dI _) nJ
   ·simp [go_sem,bQ]
   ·rw [hlen];exact hs i
   ·rw [hlen]
    simp [go_sem,DM,DX,Ci,nJ,hp,bQ]
   ·rw [hlen]
    have nU:=mQ (dI _) nJ
    simp [go_sem,nU,bQ];omega
   rw [hlen]
   refine (hy i aZ).mono ?_
   rintro r σ' ⟨k1,k2,k3,π,k4,k5,k6⟩
   refine ⟨k1,k2,k3,π,S (i+1),hlen _,k4,k5,k6,hs _,?_⟩
   refine aK.go 1000 ?_
   simp only [go_sem]
   refine ⟨⟨i+1,aZ⟩,?_,by simp only;omega⟩
   have C0:bt (kf.length+1) (S (i+1)):=hs (i+1)
   simp only [go_sem,hlen,C0,mQ (dI _) nJ]
   rw [ek (by omega)]
   exact ⟨by rw [show (ts.length:Int) - 1 - i - 1=ts.length - 1 - ((i+1:Nat):Int) by omega],fx _,by omega⟩
  ·have dP:i=ts.length:=by omega
   subst dP
   simp only [go_sem,bD]
   refine aK.go 1000 ?_
   simp only [go_sem]
   rw [fL]
   exact ⟨S ts.length,fx _,by rw [hlen];exact dI _,by rw [hlen];exact hs _,trivial,rfl⟩
theorem Zoy (ts:List Bd) (σ:ai) (hs:bt σ.length σ):aq Tryz.prog (.fn 211 [] []) [.ps 3 (nP ts)] σ
  (fun r σ'=>r = .fn 227 [] [.ptr σ.length 0]∧σ' = σ++[some (.var [.ps 3 (nP ts)])]):=by
 refine aq.begin (rs:=[.tmp 2]) (m:=3) 1000 Tryz.func211 rfl rfl rfl rfl rfl ?_
 simp only [go_sem]
 rw [Ba,fL]
 exact ⟨_,fx _,by simp,o8 (nx (by simp) hs) (by simp [go_sem,bQ]),by simp [go_sem],rfl,rfl⟩
theorem J3 {l:List Bd} {b:Bd} {x:ae} (hx:x=b.t.aO) (h:l.find? (fun c=>c.v==b.v)=none):iK (fj l) (fO l) (.int .i64 b.v) x=(fj (l++[b]),fO (l++[b])):=by
 have h1:=EX b.v l 0
 unfold iK
 cases hk:eY (.int .i64 b.v) (fj l) 0 with
 | some i =>
  rw [hk] at h1
  obtain ⟨_,c,_,h3⟩:=h1
  rw [h] at h3;cases h3
 | none=>simp [fj,fO,hx]
theorem Ylb (bs:List Bd) (hl:bs.length<1000000) (hd:(bs.map Bd.v).Nodup):aJ Tryz.prog 192 [.ps 3 (nP bs)] (.pm (fj bs.reverse) (fO bs.reverse)):=by
 refine aJ.begin (rs:=[.tmp 2]) (m:=16) 1000 Tryz.func192 rfl rfl rfl (by decide) ⟨(iD _).1,(iD _).2⟩ ?_
 simp only [go_sem]
 refine (Zoy bs _ (by simp [go_sem])).mono ?_
 rintro _ _ ⟨rfl,rfl⟩
 refine aK.go 1000 ?_
 simp only [go_sem]
 refine aK.rangeFunc (fG 17 [(3, .ptr 1 0)]) ?_ ?_ (fun ρ ht vl kV qD=>?_)
 ·simp only [go_sem]
 ·exact fun b hb=>by cases hb
 simp only [go_sem]
 have jf:bx 4 ρ.tm:=by rw [ht];simp [go_sem,zP,zT]
 have fQ:∀ l:List Bd,bt 5 [some (.map (fj l) (fO l) false),some (.var [.map 0]),some (.var [.ps 3 (nP bs)]),some (.loop (ρ.at .ready)),none] :=
  fun l=>⟨⟨(iD l).1,(iD l).2⟩,⟨Nat.zero_lt_succ 4,trivial⟩,⟨of_eq_true (Ea bs),trivial⟩,il (by decide) jf,trivial,trivial⟩
 refine (Zrc bs 4 _ (fun k=>[some (.map (fj (bs.reverse.take k)) (fO (bs.reverse.take k)) false),some (.var [.map 0]),some (.var [.ps 3 (nP bs)]),some (.loop (ρ.at .ready)),none]) 2 (.ld 3) rfl rfl (fun _=>rfl) (fun _=>rfl) (by decide) (fun k=>fQ _) ?_ (cy 3) (by omega) (fun k hk=>?_)).mono ?_
 ·exact ⟨⟨trivial,trivial⟩,⟨Nat.zero_lt_succ 3,trivial⟩,⟨of_eq_true (Ea bs),trivial⟩,jf,trivial⟩
 ·refine aq.stay rfl (fQ _) ?_
  refine aq.lK 1000 ht vl kV qD rfl rfl ?_
  simp only [go_sem,Fe]
  have sY:k<bs.reverse.length:=by simpa using hk
  have Gg:bs.reverse[k]=bs[bs.length - 1 - k]:=List.getElem_reverse sY
  have rZ:bs.reverse.take (k+1)=bs.reverse.take k++[bs[bs.length - 1 - k]]:=by rw [List.take_succ_eq_append_getElem sY,Gg]
  have Bs:(bs.reverse.take k).find? (fun c=>c.v==(bs[bs.length - 1 - k]).v)=none:=by
   rw [j_]
   intro c hc e
   have hv:c.v=(bs[bs.length - 1 - k]).v:=by simpa using e
   have oR:((bs.reverse.take (k+1)).map Bd.v).Nodup:=by
    have h1:(bs.reverse.map Bd.v).Nodup:=by rw [List.map_reverse];exact List.pairwise_reverse.2 (hd.imp fun h e=>h e.symm)
    exact h1.sublist ((List.take_sublist _ _).map _)
   rw [rZ,cL,gD] at oR
   exact oR.2.2 _ (mr hc) _ (by simp) hv
  rw [J3 (b:=bs[bs.length - 1 - k]) (dc _).symm Bs,← rZ]
  refine ⟨yZ _ _,?_⟩
  rw [tA]
  exact ⟨rfl,[some (.map (fj (bs.reverse.take (k+1))) (fO (bs.reverse.take (k+1))) false),some (.var [.map 0]),some (.var [.ps 3 (nP bs)]),some (.loop (ρ.at .ready)),none],by simp [go_sem],ah _,fQ _,rfl,rfl⟩
 rintro r' iM rfl
 rw [Cm]
 refine ⟨.ready,rfl,?_⟩
 rw [D2]
 rw [show bs.reverse.take bs.length=bs.reverse by rw [← List.length_reverse,dm]]
 refine aK.go 1000 ?_
 simp only [go_sem]
theorem JD:∀ (bs:List Bd) (m:Int),jk m bs=0→(∀ b∈bs,m<b.v)∧(bs.map Bd.v).Nodup
 | [],_,_=>by simp
 | b :: l,m,h=>by
  rw [jk] at h
  split at h
  ·cases h
  ·rename_i hc
   have rm:m<b.v:=by omega
   obtain ⟨h1,h2⟩:=JD l b.v h
   refine ⟨fun c IZ=>?_,?_⟩
   ·rcases aQ.1 IZ with rfl | IZ
    ·exact rm
    ·have:=h1 c IZ;omega
   ·simp only [aF,eQ]
    refine ⟨fun hm=>?_,h2⟩
    obtain ⟨c,Ai,hc4⟩:=cn.1 hm
    have:=h1 c Ai;omega
def p7 (bs:List Bd) (t:Tm):Tm×Int :=
 if jk (-1) bs≠0∨t.check≠0 then (gT,1) else if (t.sub bs.reverse).check=0 then (t.sub bs.reverse,0) else (gT,(t.sub bs.reverse).check)
theorem Yi (bs:List Bd) (t:Tm) (hl:bs.length<1000000) (hb:∀ b∈bs,b.t.size<99999999) (ht:t.size<99999999) (hf:t.fit) (hs:(t.sub bs.reverse).size<99999999) :
  aJ Tryz.prog 170 [.ps 3 (nP bs),t.aO] (.dz [(p7 bs t).1.aO, .int .i64 (p7 bs t).2]):=by
 refine aJ.begin (rs:=[.cell 4 70, .tmp 5]) (m:=21) 1000 Tryz.func170 rfl rfl rfl (by decide) (by simp [go_sem,dC]) ?_
 simp only [go_sem,ft]
 refine aq.bU [] (X6 bs hl hb) (by (try simp only [dc]);exact cE _ _ _) (by simp [go_sem,dC,bQ]) ?_;simp only [bO,bX,bW,if_true];refine aK.go 1000 ?_
 have rq:=B8 t (by omega)
 by_cases h1:jk (-1) bs=0
 ·obtain ⟨_,oR⟩:=JD bs _ h1
  simp only [go_sem,h1]
  refine aq.bU [] (rq) (by (try simp only [dc]);exact cE _ _ _) (by simp [go_sem,dC,bQ]) ?_;simp only [bO,bX,bW,if_true];refine aK.go 1000 ?_
  by_cases h2:t.check=0
  ·have xS:p7 bs t=if (t.sub bs.reverse).check=0 then (t.sub bs.reverse,0) else (gT,(t.sub bs.reverse).check):=by unfold p7;rw [if_neg (by simp [h1,h2])]
   rw [xS]
   simp only [go_sem,h2]
   refine aK.draw [.no, .no, .no, .no, .no, .no, .no, .no,⟨none,[1],[]⟩] 2 2 mixed rfl rfl (by decide) ?_
   simp only [go_sem,dx]
   refine ny (Ylb bs hl oR) (cE _ _ _) (by simp [go_sem]) ?_
   simp only [go_sem]
   refine ny (QH bs.reverse _ t (ah _) (by omega) hf) (by simp only [dc,vC,bh,bn];exact cE _ _ _) (by simp [go_sem,dC]) ?_
   simp only [go_sem]
   by_cases h3:(t.sub bs.reverse).check=0
   ·rw [if_pos h3]
    have hend:=OP (t.sub bs.reverse) hs
    rw [if_pos h3] at hend
    refine ny hend (cE _ _ _) (by simp [go_sem,dC]) ?_
    simp only [go_sem,ft]
    refine aK.go 1000 ?_
    simp only [go_sem,dc]
   ·rw [if_neg h3]
    have hend:=OP (t.sub bs.reverse) hs
    rw [if_neg h3] at hend
    refine ny hend (cE _ _ _) (by simp [go_sem,dC]) ?_
    simp only [go_sem,ft]
    refine aK.go 1000 ?_
    simp only [go_sem,dc]
  ·have xS:p7 bs t=(gT,1):=by unfold p7;rw [if_pos (.inr h2)]
   rw [xS]
   simp only [go_sem,h2,dc,LG,Lo,aS]
 ·have xS:p7 bs t=(gT,1):=by unfold p7;rw [if_pos (.inl h1)]
  rw [xS]
  simp only [go_sem,h1,dc,LG,Lo,aS]
def lq:List (Tm×Tm)→Nat
 | []=>0
 | x :: r=>x.1.size+lq r
theorem Lu:∀ (a b:List (Tm×Tm)),lq (a++b)=lq a+lq b
 | [],b=>by simp [lq]
 | x :: a,b=>by simp only [bj,lq,Lu a b];omega
theorem Il:∀ a:List (Tm×Tm),lq a.reverse=lq a
 | []=>rfl
 | x :: a=>by rw [nN,Lu,Il a];simp only [lq];omega
theorem Iv:∀ (a b:List Tm),lq (a.zip b)≤Tm.bF a
 | [],_=>by simp [lq]
 | x :: a,[]=>by simp [lq]
 | x :: a,y :: b=>by simp only [e7,lq,Tm.bF];have:=Iv a b;omega
theorem Fa (a b:Tm) (r:List (Tm×Tm)):lq ((a.args.zip b.args).reverse++r)<a.size+lq r:=by
 rw [Lu,Il]
 have h1:=Iv a.args b.args
 have h2:=ov a
 omega
theorem zF (a:Tm) : 0<a.size:=by have:=ov a;omega
def fh:List (Tm×Tm)→List Bd→Option (List Bd)
 | [],m=>some m
 | x :: r,m =>
  if 0≤-1 - x.1.head then
   match m.find? (fun c=>c.v == -1 - x.1.head) with
   | some c=>if c.t=x.2 then fh r m else none
   | none=>fh r (m++[⟨-1 - x.1.head,x.2⟩])
  else if x.1.head≠x.2.head∨x.1.args.length≠x.2.args.length then none
  else fh ((x.1.args.zip x.2.args).reverse++r) m
termination_by s=>lq s
decreasing_by
 ·simp only [lq];have:=zF x.1;omega
 ·simp only [lq];have:=zF x.1;omega
 ·simp only [lq];exact Fa x.1 x.2 r
def nW (s:List (Tm×Tm)):List ae:=s.reverse.map fun x=>x.1.aO
def nX (s:List (Tm×Tm)):List ae:=s.reverse.map fun x=>x.2.aO
theorem D8 (s:List (Tm×Tm)):(nW s).length=s.length:=by simp [nW]
theorem D_ (s:List (Tm×Tm)):(nX s).length=s.length:=by simp [nX]
theorem Tj (x:Tm×Tm) (r:List (Tm×Tm)):nW (x :: r)=nW r++[x.1.aO]:=by simp [nW]
theorem Ul (x:Tm×Tm) (r:List (Tm×Tm)):nX (x :: r)=nX r++[x.2.aO]:=by simp [nX]
@[go_sem] theorem Iu {n:Nat} (s:List (Tm×Tm)):bx n (nW s)=True:=eq_true (uB fun x _=>dC x.1)
@[go_sem] theorem Ij {n:Nat} (s:List (Tm×Tm)):bx n (nX s)=True:=eq_true (uB fun x _=>dC x.2)
theorem Lm:∀ s:List (Tm×Tm),s.length≤lq s
 | []=>ah _
 | x :: r=>by simp only [ax,lq];have:=Lm r;have:=zF x.1;omega
theorem NY {a b:List Tm} (h:a.length=b.length):nW (a.zip b).reverse=a.map Tm.aO:=by
 rw [nW,gE]
 have:=List.map_fst_zip (l₁:=a) (l₂:=b) (by omega)
 rw [show (a.zip b).map (fun x=>x.1.aO)=((a.zip b).map Prod.fst).map Tm.aO by simp,this]
theorem OD {a b:List Tm} (h:a.length=b.length):nX (a.zip b).reverse=b.map Tm.aO:=by
 rw [nX,gE]
 have:=List.map_snd_zip (l₁:=a) (l₂:=b) (by omega)
 rw [show (a.zip b).map (fun x=>x.2.aO)=((a.zip b).map Prod.snd).map Tm.aO by simp,this]
theorem Ud {a b:List Tm} (h:a.length=b.length) (r:List (Tm×Tm)):nW ((a.zip b).reverse++r)=nW r++a.map Tm.aO:=by
 have:=NY h
 rw [nW,gE] at this
 rw [nW,List.reverse_append,gE,cL,this];rfl
theorem TK {a b:List Tm} (h:a.length=b.length) (r:List (Tm×Tm)):nX ((a.zip b).reverse++r)=nX r++b.map Tm.aO:=by
 have:=OD h
 rw [nX,gE] at this
 rw [nX,List.reverse_append,gE,cL,this];rfl
theorem wA:∀ {ts:List Tm},Tm.fits ts→∀ t∈ts,t.fit
 | t :: ts,h,x,hx=>by
  rcases aQ.1 hx with rfl | hx
  ·exact h.1
  ·exact wA h.2 x hx
theorem sT:∀ {ts:List Tm} {t:Tm},t∈ts→t.size≤Tm.bF ts
 | x :: ts,t,h=>by
  simp only [Tm.bF]
  rcases aQ.1 h with rfl | h
  ·omega
  ·have:=sT h;omega
theorem Qs {m:List Bd} {c:Bd} {v:Int} {x:ae} (hx:x=c.t.aO) (h:m.find? (fun d=>d.v==v)=some c):iK (fj m) (fO m) (.int .i64 v) x=(fj m,fO m):=by
 have h1:=EX v m 0
 unfold iK
 cases hk:eY (.int .i64 v) (fj m) 0 with
 | some i =>
  rw [hk] at h1
  obtain ⟨_,d,h2,h3⟩:=h1
  rw [h] at h3
  cases h3
  rw [gG] at h2
  simp only [bw,true_and]
  apply bP
  intro j
  rw [dR]
  split
  ·rename_i e
   subst e
   have bD:i<(fO m).length:=by simp only [fO,ak];exact (aI.1 h2).1
   rw [if_pos bD]
   simp [fO,h2,hx]
  ·rfl
 | none =>
  rw [hk] at h1
  rw [show m.find? (fun d=>d.v==v)=none from h1] at h;cases h
def LR:Option (List Bd)→ae→ai→Prop
 | none,r,_=>r = .bool false
 | some m,r,σ'=>r = .bool true∧σ'=[some (.map (fj m) (fO m) false)]
theorem W8 (g:Option (List Bd)) (a b:List Tm) (hg:fh (a.zip b).reverse []=g) (eg:a≠[]) (FY:a.length=b.length) (hs:Tm.bF a<99999999) (s0:Tm.bF b<99999999) (Bq:Tm.fits a) (zf:Tm.fits b) :
  aq Tryz.prog (.fn 208 [] []) [.ps 2 (a.map Tm.aO), .ps 2 (b.map Tm.aO), .map 0] [some (.map [] [] false)]
   (LR g):=by
 refine aq.begin (rs:=[.tmp 6]) (m:=79) 1000 Tryz.func208 rfl rfl rfl rfl rfl ?_
 have me:=p5 a
 have vT:=p5 b
 have M0:b≠[]:=fun e=>eg (aY (by rw [FY,e];rfl))
 simp only [go_sem]
 refine aq.sI [] (ER a eg (by omega)) (cE _ _ _) (by simp [go_sem,bQ]) ?_
 rw [jb]
 simp only [zO,zQ,zU,w_,zW,up,cD (bQ _)]
 refine aK.go 1000 ?_
 simp only [go_sem]
 refine aq.sI [] (ER b M0 (by omega)) (cE _ _ _) (by simp [go_sem,bQ]) ?_
 rw [jb]
 simp only [zO,zQ,zU,w_,zW,up,cD (bQ _)]
 refine aK.go 1000 ?_
 simp only [go_sem]
 refine aK.h_ (ι:={q:List (Tm×Tm)×List ae×List ae×List Bd // fh q.1 q.2.2.2=g∧bx 0 q.2.1∧bx 0 q.2.2.1∧lq q.1≤Tm.bF a∧(∀ x∈q.1,x.1.fit∧x.2.size<99999999)∧(∀ x∈q.2.2.2,x.t.size<99999999)}) 1000
  (fun q=>fG 82 [(2, .map 0),(6, .bool false),(7, .os 2 0 q.1.1.length 2),(8, .os 4 0 q.1.1.length 2)])
  (fun q=>[some (.map (fj q.1.2.2.2) (fO q.1.2.2.2) false),none,some (.row (nW q.1.1++q.1.2.1) 0),none,some (.row (nX q.1.1++q.1.2.2.1) 0)]) (fun q=>lq q.1.1) ⟨((a.zip b).reverse,[],[],[]),?_⟩ [] ?_ (fun _=>by simp) ?_
 ·refine ⟨hg,trivial,trivial,?_,fun x hx=>?_,fun x hx=>by cases hx⟩
  ·rw [Il];exact Iv a b
  ·have hx:=cO.1 hx
   have yt:=(cW hx).1
   have EA:=sT (cW hx).2
   exact ⟨wA Bq _ yt,by omega⟩
 ·refine iP rfl ?_
  dsimp only
  rw [NY FY,OD FY,show (a.zip b).reverse.length=a.length by simp [FY]]
  simp only [go_sem,bQ,cD (bQ _),bn,FY,show fj []=[] from rfl,show fO []=[] from rfl]
 ·rintro ⟨⟨s,j1,j2,m⟩,h1,h2,h3,h4,h5,h6⟩
  simp only at h1 h2 h3 h4 h5 h6
  cases s with
  | nil =>
   rw [fh] at h1
   subst h1
   simp only [go_sem,aR]
   refine aK.go 1000 ?_
   simp only [go_sem]
   rw [fL]
   exact ⟨[some (bE.map (fj m) (fO m) false)],by simp [go_sem],ah _,⟨⟨(iD m).1,(iD m).2⟩,trivial⟩,trivial,rfl,rfl⟩
  | cons x r =>
   obtain ⟨GL,v7⟩:=h5 x (by simp)
   have C9:∀ y∈r,y.1.fit∧y.2.size<99999999:=fun y hy=>h5 y (by simp [hy])
   have Nf:=Lm r
   rw [lq] at h4
   have yl:=zF x.1
   have Ej:=E7 GL
   unfold n5 at Ej
   have rG:IntKind.i64.wrap ((r.length:Int)+1 - 1)=r.length:=by rw [ek (by omega)];omega
   have nE:(0:Int)<r.length+1:=by omega
   have s_:IntKind.i64.wrap (-1 - x.1.head) = -1 - x.1.head:=ek (by omega)
   have hA:nW (x :: r)++j1=nW r++x.1.aO :: j1:=by rw [Tj];simp
   have hB:nX (x :: r)++j2=nX r++x.2.aO :: j2:=by rw [Ul];simp
   have MC:(nW r++x.1.aO :: j1).getD r.length .undef=x.1.aO:=by rw [← D8 r];simp [List.getD]
   have MD:(nX r++x.2.aO :: j2).getD r.length .undef=x.2.aO:=by rw [← D_ r];simp [List.getD]
   have Gk:(nW r++x.1.aO :: j1).length=r.length+1+j1.length:=by simp [D8];omega
   have Gl:(nX r++x.2.aO :: j2).length=r.length+1+j2.length:=by simp [D_];omega
   simp only [go_sem,ax,hA,hB,lZ,l5,nE,rG]
   refine aK.draw [⟨none,[],[5,6]⟩,⟨none,[],[5,6]⟩,⟨none,[],[5,6]⟩,⟨none,[],[5,6]⟩,⟨none,[],[5,6]⟩,⟨none,[],[5,6]⟩,⟨none,[],[5,6]⟩,⟨none,[],[5,6]⟩,⟨some 5,[5],[6]⟩,⟨some 6,[6],[5]⟩,⟨none,[5],[]⟩,⟨none,[6],[]⟩] 5 7 mixed rfl rfl (by decide) ?_
   simp only [go_sem,dx,Gk,Gl,MC,MD,ft]
   refine ⟨⟨by omega,by omega⟩,by omega,⟨by omega,by omega⟩,by omega,?_⟩
   refine aK.go 1000 ?_
   refine aK.draw [] 7 7 mixed rfl rfl (by decide) ?_
   simp only [go_sem,dx]
   refine ⟨by omega,by omega,?_⟩
   have hl:∀ n,bx n (nW r++x.1.aO :: j1)∧bx n (nX r++x.2.aO :: j2):=fun n=>⟨rO (of_eq_true (Iu r)) ⟨dC x.1,il (av _) h2⟩,rO (of_eq_true (Ij r)) ⟨dC x.2,il (av _) h3⟩⟩
   by_cases hv : 0≤-1 - x.1.head
   ·rw [fh,if_pos hv] at h1
    have oP:=JS m (-1 - x.1.head) (.agg [.int .i64 0, .aU])
    cases hf:m.find? (fun c=>c.v == -1 - x.1.head) with
    | some c =>
     rw [hf] at oP h1
     simp only at h1 oP
     have sw:=h6 c (bI hf)
     refine aK.go 1000 ?_
     simp only [go_sem,s_,hv,yZ,oP,ft]
     refine aq.bU [] (zL c.t x.2 (by omega) (by omega)) (by (try simp only [dc]);exact cE _ _ _) (by simp [go_sem,dC,bQ]) ?_;simp only [bO,bX,bW,if_true];refine aK.go 1000 ?_
     by_cases he:c.t=x.2
     ·rw [if_pos he] at h1
      have yg:=Qs (x:=.agg [.int .i64 x.2.head, .ps 2 (x.2.args.map Tm.aO)]) (by rw [he,dc]) hf
      simp only [go_sem,he,yZ,yg]
      refine ⟨⟨(r,x.1.aO :: j1,x.2.aO :: j2,m),h1,⟨dC x.1,h2⟩,⟨dC x.2,h3⟩,by simp only;omega,C9,h6⟩,[],iP rfl ?_,by simp only [lq];omega⟩
      have wP:=hl 0
      simp only [go_sem,iD,cD (iD _).1,cD (iD _).2,cD wP.1,cD wP.2,hl]
     ·rw [if_neg he] at h1
      subst h1
      simp only [go_sem,he]
      refine aK.go 1000 ?_
      simp only [go_sem]
      rw [fL]
      exact ⟨[none],by simp [go_sem],ah _,⟨trivial,trivial⟩,trivial,rfl⟩
    | none =>
     rw [hf] at oP h1
     simp only at h1 oP
     have yg:=J3 (l:=m) (b:=⟨-1 - x.1.head,x.2⟩) (x:=.agg [.int .i64 x.2.head, .ps 2 (x.2.args.map Tm.aO)]) (dc _).symm hf
     refine aK.go 1000 ?_
     simp only [go_sem,s_,hv,yZ,oP,ft,yg]
     refine ⟨⟨(r,x.1.aO :: j1,x.2.aO :: j2,m++[⟨-1 - x.1.head,x.2⟩]),h1,⟨dC x.1,h2⟩,⟨dC x.2,h3⟩,by simp only;omega,C9,fun y hy=>?_⟩,[],iP rfl ?_,by simp only [lq];omega⟩
     ·rcases aW.1 hy with hy | hy
      ·exact h6 y hy
      ·rw [aN.1 hy];exact v7
     have wP:=hl 0
     simp only [go_sem,iD,cD (iD _).1,cD (iD _).2,cD wP.1,cD wP.2,hl]
   ·rw [fh,if_neg hv] at h1
    by_cases c1:x.1.head=x.2.head
    ·by_cases c2:x.1.args.length=x.2.args.length
     ·rw [if_neg (by simp [c1,c2])] at h1
      have vq:IntKind.i64.wrap (-1 - x.2.head) = -1 - x.2.head:=by rw [← c1];exact s_
      have vY:¬ 0≤-1 - x.2.head:=by rw [← c1];exact hv
      have c3:(x.1.args.length:Int)=x.2.args.length:=by omega
      refine aK.go 1000 ?_
      simp only [go_sem,vq,vY,c1,c3,ak]
      refine aK.draw [.no, .no, .no,⟨some 7,[2,7],[]⟩,⟨none,[],[2,7]⟩,⟨none,[],[2,7]⟩,⟨none,[],[2,7]⟩,⟨some 8,[4,8],[]⟩] 7 9 mixed rfl rfl (by decide) ?_
      have Nn:(nW r++x.1.aO :: j1).take r.length=nW r:=by rw [← D8 r,mO]
      have Np:(nX r++x.2.aO :: j2).take r.length=nX r:=by rw [← D_ r,mO]
      have Mg:=p5 x.1.args
      have Nl:=ov x.1
      simp only [go_sem,dx,Gk,Gl,Nn,Np,ak]
      refine ⟨⟨by omega,by omega,by omega⟩,⟨by omega,by omega,by omega⟩,?_⟩
      refine aK.go 1000 ?_
      simp only [go_sem]
      have I6:=Fa x.1 x.2 r
      refine ⟨⟨((x.1.args.zip x.2.args).reverse++r,[],[],m),h1,trivial,trivial,by simp only;omega,fun y hy=>?_,h6⟩,[(2,7),(7,2),(4,8),(8,4)],iP rfl ?_,by simp only [lq];omega⟩
      ·rcases aW.1 hy with hy | hy
       ·have hy:=cO.1 hy
        have a1:=sT (cW hy).2
        have a2:=ov x.2
        exact ⟨wA (xg GL) _ (cW hy).1,by omega⟩
       ·exact C9 y hy
      dsimp only
      rw [Ud c2,TK c2,show ((x.1.args.zip x.2.args).reverse++r).length=r.length+x.1.args.length by simp [c2];omega]
      have lA:∀ n,bx n (nW r++x.1.args.map Tm.aO):=fun n=>rO (of_eq_true (Iu r)) (bQ _)
      have lB:∀ n,bx n (nX r++x.2.args.map Tm.aO):=fun n=>rO (of_eq_true (Ij r)) (bQ _)
      have NH:=lA 0
      have NI:=lB 0
      simp only [go_sem,iD,cD (iD _).1,cD (iD _).2,cD NH,cD NI,lA,lB,bn,c2]
     ·rw [if_pos (.inr c2)] at h1
      have vq:IntKind.i64.wrap (-1 - x.2.head) = -1 - x.2.head:=by rw [← c1];exact s_
      have vY:¬ 0≤-1 - x.2.head:=by rw [← c1];exact hv
      have c3:¬ (x.1.args.length:Int)=x.2.args.length:=by omega
      subst h1
      refine aK.go 1000 ?_
      simp only [go_sem,vq,vY,c1,c3,ak]
      refine aK.go 1000 ?_
      simp only [go_sem]
      rw [fL]
      exact ⟨[none],by simp [go_sem],ah _,⟨trivial,trivial⟩,trivial,rfl⟩
    ·rw [if_pos (.inl c1)] at h1
     subst h1
     refine aK.go 1000 ?_
     simp only [go_sem,s_,hv,c1]
     refine aK.go 1000 ?_
     simp only [go_sem]
     rw [fL]
     exact ⟨[none],by simp [go_sem],ah _,⟨trivial,trivial⟩,trivial,rfl⟩
end Go.Proofs
