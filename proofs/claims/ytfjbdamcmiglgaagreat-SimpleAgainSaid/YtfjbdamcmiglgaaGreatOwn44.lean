/- Part 44 of my own framework and of the walks of functions: AcsV, Sb, AcsW, Sc, Sd, AcsX, Se, Sf, Sg, Sh, Si, AcsY, AcsZ, Sj, Sk, Sl, Sm, Sn, So, Sp, Sq. -/
import Derived.Test.YtfjbdamcmiglgaaGreatOwn43
import Derived.Lib.Overlaps
import Derived.Sort.Row
import Derived.Sort.Grow
abbrev ou:=@Bool.or_false
abbrev p0:=@List.append_inj
abbrev gK:=@List.find?_cons
abbrev kn:=@List.find?_eq_none
abbrev mG:=@List.mem_map_of_mem
abbrev bJ:=@List.mem_of_find?_eq_some
abbrev cU:=@List.mem_reverse
abbrev cZ:=@List.of_mem_zip
abbrev gP:=@List.reverse_reverse
abbrev cW:=@List.set_cons_succ
abbrev c_:=@List.set_cons_zero
abbrev bW:=@List.take_append_of_le_length
abbrev fm:=@List.zip_cons_cons
abbrev jK:=@Nat.lt_or_ge
set_option linter.unusedVariables false
set_option linter.unusedSectionVars false
set_option linter.unusedSimpArgs false
namespace Go.c8
open Go
section
variable {P:Program} {X:Nat→Nat→Prop} {base:Nat} {σ:ai} {β β':Env} {w w':World}
theorem O6 {M:Nat→Nat→Prop} {v:Value} {s:ae} {b off n sz:Nat} (h:bS w M β v s) (hs:s = .os b off n sz∨∃ c,s = .oc b off n c sz) (hn : 0<n):∃ L c,β b=some L∧L.sz=sz∧n≤c∧off+c≤L.n∧v = .slice (some ⟨L.g,L.o+off*L.sz,none⟩) n c:=by
 rcases hs with rfl | ⟨c,rfl⟩
 ·rcases h.ru with ⟨rfl,_⟩ | ⟨L,c,hL,jI,h1,h2,rfl⟩
  ·exact absurd hn (iQ _)
  ·exact ⟨L,c,hL,jI,h1,h2,rfl⟩
 ·rcases h.tj with ⟨rfl,_⟩ | ⟨L,hL,jI,h1,h2,rfl⟩
  ·exact absurd hn (iQ _)
  ·exact ⟨L,_,hL,jI,h1,h2,rfl⟩
theorem aq.sd {g : FuncId} {fn : Func} (hf : P.funcs[g]? = some fn) (eI : (fn.name == "runtime.NumGoroutine") = false) (hb : fn.body.isNone = true) (hn : Extern.findNext fn = none) {tS tR e : TypeId}
  (he:Extern.find fn=some (Extern.SlicesOverlaps.overlaps #[tS,tS] #[tR])) (ht:P.underlying tS=some (.slice e)) {l:eM} (hl:aF P e=some l) {s t:ae} {b1 b2 o1 o2 n1 n2 sz:Nat}
  (hs:s = .os b1 o1 n1 sz∨∃ c,s = .oc b1 o1 n1 c sz) (xd:t = .os b2 o2 n2 sz∨∃ c,t = .oc b2 o2 n2 c sz) (hz : 0<sz) (h1 : 0<n1) (h2 : 0<n2) {es1 es2:List ae} {fz1 fz2:Nat} (qS:bH σ b1=some (.row es1 fz1)) (uZ:bH σ b2=some (.row es2 fz2)) (ep:b1≠b2)
  {K:ae→ai→Prop} (hk:K (.bool false) σ):aq P (.fn g [] []) [s,t] σ K:=by
 refine aq.sh ?_
 intro X base β w vs Jq V9 h3 fr cs h4
 obtain ⟨x,y,rfl⟩:∃ x y,vs = #[x,y]:=by
  simp at V9
  match vs,V9 with
  | ⟨[x,y]⟩,_=>exact ⟨x,y,rfl⟩
 have hx:=h3 0 (by simp)
 have hy:=h3 1 (by simp)
 simp only [bh,bq,bm,bC] at hx hy
 have ex:(#[x,y]:Array Value).getD 0 undef=x:=rfl
 have ey:(#[x,y]:Array Value).getD 1 undef=y:=rfl
 rw [ex] at hx
 rw [ey] at hy
 obtain ⟨L1,c1,k1,k2,k3,k4,rfl⟩:=O6 hx hs h1
 obtain ⟨L2,c2,q1,q2,q3,q4,rfl⟩:=O6 hy xd h2
 obtain ⟨Bc,m1,m2,m3,d1,e1,m4,m5,m6,m7⟩:=Jq.cg b1 _ (j_ qS)
 obtain rfl:=aN (m1.symm.trans k1)
 obtain ⟨zd,u1,u2,u3,d2,e2,u4,u5,u6,u7⟩:=Jq.cg b2 _ (j_ uZ)
 obtain rfl:=aN (u1.symm.trans q1)
 have Nl:Bc.g≠zd.g:=fun e=>ep (Jq.inj b1 b2 _ _ Bc zd (j_ qS) (j_ uZ) k1 q1 e)
 obtain ⟨ti,_,z,qB,_⟩:=p6 hl
 have Hf : 0<d2.size:=by
  have : 1*1≤zd.n*zd.sz:=Nat.mul_le_mul (by omega) (by omega)
  omega
 have Hb:=Lib.run_overlaps_apart (P:=P) w tS tR e ht ti.size (fun w=>tP qB) ⟨Bc.g,Bc.o+o1*Bc.sz,none⟩ ⟨zd.g,zd.o+o2*zd.sz,none⟩ n1 c1 n2 c2 Nl e1 e2 d1.size d2.size
  (by simp only [World.shape?,m4]) (by simp only [World.shape?,u4]) (by omega) (by simp [World.frozen?,m4]) (by simp [World.frozen?,m4])
 have eS:(callFunc g #[.slice (some ⟨Bc.g,Bc.o+o1*Bc.sz,none⟩) n1 c1, .slice (some ⟨zd.g,zd.o+o2*zd.sz,none⟩) n2 c2]).run P w = .ok (.value (.bool false)) w:=by
  rw [run_callFunc_extern hf eI hb hn he,Hb];rfl
 refine ⟨_,σ,β, .bool false,w,hk,Jq, .bool false,Ext.refl _ _ _ _,ah _,fr.finish (.bool false),cs,w,?_, .refl _ _⟩
 simp only [stepG.apply,if_true,Sem.runT_eq,eS,GStep.bare_after,GStep.bare_go]
theorem Up {enc:Int→Value} (ts:List Int) (off:Nat) (c:Array Value) (k:Nat):(Sort.putCells enc off ts.toArray c).getD k undef=if off≤k∧k<off+ts.length∧k<c.size then enc (ts.getD (k - off) 0) else c.getD k undef:=by
 simp only [Sort.putCells,aj,Array.getElem?_mapIdx]
 by_cases hk:k<c.size
 ·simp only [aD hk,bu,br,List.size_toArray]
  by_cases h:off≤k∧k<off+ts.length
  ·rw [if_pos h,if_pos ⟨h.1,h.2,hk⟩]
   have h':k - off<ts.length:=by omega
   rw [getElem!_pos ts.toArray _ (by simpa using h')]
   simp [List.getD,h']
  ·rw [if_neg h,if_neg (fun hh=>h ⟨hh.1,hh.2.1⟩)]
 ·simp [Array.getElem?_eq_none (dS hk),hk]
theorem aq.A7 {g : FuncId} {fn : Func} {c : Code} (hf : P.funcs[g]? = some fn) (hb : fn.body = some c) (eI : (fn.name == "runtime.NumGoroutine") = false) {zs ts : List Int} {b : Nat} (vT : bH σ b = some (.row (zs.map (.int .i64)) 0)) (hlen : ts.length = zs.length)
  (h:∀ (w:World) (cg off cap:Nat),Sort.Holds (Value.int .i64) w cg off zs.toArray→cg<w.heap.size→Calls P g #[.slice (some ⟨cg,off,none⟩) zs.length cap] w fun e w'=>e = .returned (.tuple #[])∧∃ n os,w'=Sort.grow (Sort.putRow (Value.int .i64) (Sort.ahead w n) cg off ts.toArray) os)
  (h0:∀ (a:Option Addr) (cap:Nat) (w:World),Calls P g #[.slice a 0 cap] w fun e w'=>e = .returned (.tuple #[])∧w'=w)
  {K:ae→ai→Prop} (hK:K (.dA []) (b_ σ b (.row (ts.map (.int .i64)) 0))):aq P (.fn g [] []) [.os b 0 zs.length 1] σ K:=by
 refine aq.sh ?_
 intro X base β w vs h1 h2 h3 fr cs zy
 have q_ : ¬ fn.name = "runtime.NumGoroutine" := by simpa using eI
 obtain ⟨x,rfl⟩:∃ x,vs = #[x]:=by
  simp at h2
  exact qe.1 h2
 have w6:=h3 0 (by simp)
 simp only [bh,bq,bm] at w6
 have hx:(#[x]:Array Value).getD 0 undef=x:=rfl
 rw [hx] at w6
 have vP:∀ (w':World) (M':Nat→Nat→Prop),bS w' M' β (.tuple #[]) (.dA []):=fun w' M'=>.dA rfl fun k hk=>by simp at hk
 have kz:∀ us,(callFunc g us).run P w = .ok (.enter g us) w:=fun us=>by simp [callFunc,hf,q_,hb]
 rcases w6.ru with ⟨hz,a,L,hL,jI,rfl⟩ | ⟨L,cap,hL,jI,jr,yn,rfl⟩
 ·have DJ:zs=[]:=aY hz
  have rR:ts=[]:=aY (by omega)
  subst DJ;subst rR
  obtain ⟨e,w',BD,⟨rfl,rfl⟩,hc,BN,hl⟩:=h0 a 0 w (fr :: cs)
  rw [KM vT] at hK
  refine ⟨_,σ,β, .tuple #[],w',hK,h1,vP _ _,Ext.refl _ _ _ _,ah _,Frame.enter P g _ .normal,fr :: cs,w',?_,Steps.trans hc (.one (step_leave_returned hl))⟩
  simp only [stepG.apply,if_true,Sem.runT_eq,kz,GStep.bare_after,GStep.bare_go]
  split
  ·rename_i d s a k e;exact absurd e (zy _ _ _ _ _)
  ·rfl
 ·obtain ⟨L',q1,q2,q3,cc,ec,q4,q5,q6,q7,q8⟩:=h1.cg b _ (j_ vT)
  obtain rfl:=aN (q1.symm.trans hL)
  have hlm:(zs.map (ae.int .i64)).length=zs.length:=by simp
  have fH:L'.n*L'.sz=L'.n:=by rw [jI,Nat.mul_one]
  have np:∀ j,j<zs.length→cc.getD (L'.o+j) undef = .int .i64 (zs.getD j 0):=fun j hj=>by
   have:=q8 j 0 (by omega) (by omega)
   rw [jI,Nat.mul_one,ck] at this
   rw [show (zs.map (ae.int .i64)).getD j ae.undef = .int .i64 (zs.getD j 0) by simp [List.getD,hj]] at this
   exact this.ek
  have GL:L'.g<w.heap.size:=(aL.1 q4).1
  have hH:Sort.Holds (Value.int .i64) w L'.g (L'.o+0*L'.sz) zs.toArray:=fun j hj=>by
   have rO:j<zs.length:=by simpa using hj
   rw [pD,ck]
   refine ⟨?_,by simp [World.frozen?,q4]⟩
   rw [cell_of_row _ _ _ _ _ _ q4,tM (by omega),np j rO,getElem!_pos zs.toArray j (by simpa using rO)]
   simp [List.getD,rO]
  obtain ⟨e,w',BD,⟨rfl,n,os,rfl⟩,hc,BN,hl⟩:=h w L'.g (L'.o+0*L'.sz) cap hH GL (fr :: cs)
  rw [pD,ck] at hc hl
  have jt:∀ k,k<w.heap.size→k≠L'.g→(Sort.grow (Sort.putRow (Value.int .i64) (Sort.ahead w n) L'.g L'.o ts.toArray) os).heap[k]? = w.heap[k]?:=fun k hk ep=>by
   rw [Sort.heap_grow_old _ _ (by rw [Sort.size_putRow];exact hk)]
   simp only [Sort.putRow,Sort.mapBlock,Sort.ahead]
   rw [iS,if_neg (gA ep)]
  have oI:(Sort.grow (Sort.putRow (Value.int .i64) (Sort.ahead w n) L'.g L'.o ts.toArray) os).heap[L'.g]? = some (.cells (Sort.putCells (Value.int .i64) L'.o ts.toArray cc) ec (0,0)):=by
   rw [Sort.heap_grow_old _ _ (by rw [Sort.size_putRow];exact GL)]
   simp only [Sort.putRow,Sort.mapBlock,Sort.ahead]
   rw [iS,if_pos rfl,q4];rfl
  have Gx:(Sort.putCells (Value.int .i64) L'.o ts.toArray cc).size=cc.size:=by simp [Sort.putCells]
  have nQ:∀ o',L'.o≤o'→ja σ β L'.g o':=fun o' JD=>⟨b,_,L',j_ vT,hL,rfl,by simp only [bE.mut];omega⟩
  obtain ⟨k1,k2,k3,k4⟩:=Em h1 b L' (.row (ts.map (.int .i64)) 0) (σ':=b_ σ b (.row (ts.map (.int .i64)) 0)) (β':=β) (w':=Sort.grow (Sort.putRow (Value.int .i64) (Sort.ahead w n) L'.g L'.o ts.toArray) os) (D_ _ _ _)
   (fun c x hc hx=>⟨zV _ _ _ hc hx,fun Lc CY e=>hc (h1.inj c b x _ Lc L' (zV _ _ _ hc hx) (j_ vT) CY hL e)⟩) (Bh _ _ _) hL (fun _ _=>rfl) (.inr hL)
   rfl rfl rfl (by simp) jt
   (fun off v gU s0=>by
    have aZ:off<L'.o:=jJ fun hle=>s0 (nQ off hle)
    rw [cell_of_row _ _ _ _ _ _ oI]
    rw [cell_of_row _ _ _ _ _ _ q4] at gU
    obtain ⟨bG,hv⟩:=aL.1 gU
    rw [tM (by rw [Gx];exact bG),Up,if_neg (by omega),← tM bG];exact gU)
   (fun _ s0=>absurd (nQ _ (ah _)) (s0 _)) (fun off hm=>.inl (nQ off (by simp only [bE.mut] at hm;omega))) q3 q2
  have hrel:=k4 ⟨_,ec,oI,by rw [Gx];exact q5,by simp only [ak] at q6 ⊢;omega,fun i hi=>by
    simp only [ak] at hi
    rw [show (ts.map (ae.int .i64)).getD i ae.undef = .int .i64 (ts.getD i 0) by simp [List.getD,hi],jI];rfl,fun i j hi hj=>by
    simp only [ak] at hi
    obtain rfl:j=0:=by omega
    rw [show (ts.map (ae.int .i64)).getD i ae.undef = .int .i64 (ts.getD i 0) by simp [List.getD,hi],jI,Nat.mul_one,ck,Up]
    simp only [ak] at q6
    rw [if_pos ⟨by omega,by omega,by omega⟩,show L'.o+i - L'.o=i by omega]
    exact .int _ _⟩
  refine ⟨_,_,β, .tuple #[],_,hK,hrel,vP _ _,⟨k1.os,k1.tape,k1.output,k1.size,k1.cell,k1.block,k1.iL,fun _ _=>rfl⟩,Bh _ _ _,Frame.enter P g _ .normal,fr :: cs,w,?_,Steps.trans hc (.one (step_leave_returned hl))⟩
  have ho:L'.o+0*L'.sz=L'.o:=by omega
  simp only [bh,bq,ho]
  simp only [stepG.apply,if_true,Sem.runT_eq,kz,GStep.bare_after,GStep.bare_go]
  split
  ·rename_i d s a k e;exact absurd e (zy _ _ _ _ _)
  ·rfl
end
end Go.c8
namespace Go.Proofs
open Go Go.c8
attribute [local go_sem] Nat.reduceAdd Nat.reduceSub Nat.reduceMul Nat.reduceLeDiff Nat.reduceEqDiff Nat.reduceBEq Nat.reduceLT Nat.le_refl Int.natCast_zero Nat.sub_zero List.length_map Int.toNat_natCast Int.natCast_one Int.reduceEq Int.reduceLT Int.reduceLE Int.reduceNe Int.sub_zero Int.zero_add Int.toNat_one
mutual
def Tm.decEq:(a b:Tm)→Decidable (a=b)
 | .mk h ts, .mk k us=>match Int.instDecidableEq h k,Tm.xY ts us with
  | .isTrue e1, .isTrue e2=>.isTrue (by rw [e1,e2])
  | .isFalse e1,_=>.isFalse fun e=>e1 (Tm.mk.inj e).1
  | _, .isFalse e2=>.isFalse fun e=>e2 (Tm.mk.inj e).2
def Tm.xY:(a b:List Tm)→Decidable (a=b)
 | [],[]=>.isTrue rfl
 | [],_ :: _=>.isFalse fun e=>by cases e
 | _ :: _,[]=>.isFalse fun e=>by cases e
 | a :: l,b :: m=>match Tm.decEq a b,Tm.xY l m with
  | .isTrue e1, .isTrue e2=>.isTrue (by rw [e1,e2])
  | .isFalse e1,_=>.isFalse fun e=>e1 (j9 e).1
  | _, .isFalse e2=>.isFalse fun e=>e2 (j9 e).2
end
instance:DecidableEq Tm:=Tm.decEq
theorem Qc (t:Tm):t = .mk t.head t.args:=by cases t;rfl
theorem oM (t:Tm):t.size=1+Tm.bF t.args:=by cases t;simp [Tm.size,Tm.args]
theorem Tj {l:List Tm} {x:Tm}:((l++[x]).map Tm.aO).getD l.length .undef=x.aO:=by simp [List.getD]
theorem SG {l:List Tm} {x:Tm}:((l++[x]).map Tm.aO).take l.length=l.map Tm.aO:=by simp
theorem Yun {bs:Nat} {z:List ae} {k:KA} (hb:bs≤65536) (hz:z.length=2) (xs:List Tm):eQ ⟨2,true,bs,z,k⟩ (xs.map Tm.aO):=by
 refine ⟨fun x hx=>?_,eo,hb,hz⟩
 obtain ⟨t,_,rfl⟩:=bZ.1 hx
 rw [fJ];exact ⟨rfl,rfl⟩
@[go_sem] theorem Cu (xs:List Tm):eQ ⟨2,true,32,[.int .i64 0, .aU], .struct⟩ (xs.map Tm.aO)=True:=eq_true (Yun (by decide) rfl xs)
theorem Ab (a b:Tm) (ha:a.size<1000000000) (hb:b.size<1000000000):aJ Tryz.prog 103 [a.aO,b.aO] (.bool (decide (a=b))):=by
 refine aJ.begin (rs:=[.tmp 4]) (m:=54) 1000 Tryz.func103 rfl rfl rfl (by decide) trivial ?_
 simp only [go_sem,dh]
 refine aK.draw [⟨none,[],[3]⟩,⟨some 2,[2],[3]⟩,⟨none,[],[2]⟩,⟨some 3,[3],[2]⟩,⟨none,[],[3]⟩] 2 4 mixed rfl rfl (by decide) ?_
 simp only [go_sem,dC,ah,Nat.reduceLT]
 refine aK.go 1000 ?_
 simp only [go_sem]
 refine aK.im (ι:={p:List Tm×List Tm // p.1.length=p.2.length∧(p.1=p.2↔a=b)∧Tm.bF p.1≤a.size∧Tm.bF p.2≤b.size}) 1000
  (fun p=>f_ 56 [(4, .bool false),(5, .os 0 0 p.1.1.length 2),(6, .os 1 0 p.1.2.length 2)]) (fun p=>[some (.row (p.1.1.map Tm.aO) 0),some (.row (p.1.2.map Tm.aO) 0)]) (fun p=>Tm.bF p.1.1)
  ⟨([a],[b]),by simp [Tm.bF]⟩ [(0,2),(1,3)] ?_ (fun _=>by simp) ?_
 ·refine jb rfl ?_
  simp only [go_sem,bR,cI,aB,aP,dh]
 ·rintro ⟨⟨L,R⟩,hlen,w_,sB,zF⟩
  simp only at hlen w_ sB zF
  rcases List.eq_nil_or_concat L with rfl | ⟨l,x,rfl⟩
  ·obtain rfl:R=[]:=aY hlen.symm
   simp only [go_sem,cM,lW]
   refine aK.go 1000 ?_
   simp only [go_sem]
   simp [w_.1 rfl]
  ·rcases List.eq_nil_or_concat R with rfl | ⟨r,y,rfl⟩
   ·simp at hlen
   simp only [List.concat_eq_append,ay,ax,aS,bp,Nat.add_right_cancel_iff] at hlen
   simp only [List.concat_eq_append,D2,Tm.bF,ck] at w_ sB zF ⊢
   have hll:=qh l
   have NU:=qh r
   have nq:(0:Int)<((l.length+1:Nat):Int):=by omega
   have hw:IntKind.i64.wrap (((l.length+1:Nat):Int) - 1)=(l.length:Int):=by rw [eC (by omega)];omega
   simp only [go_sem,ay,nq,hw]
   refine aK.draw [⟨none,[],[2,3]⟩,⟨none,[],[2,3]⟩,⟨none,[],[2,3]⟩,⟨none,[],[2,3]⟩,⟨none,[],[2,3]⟩,⟨none,[],[2,3]⟩,⟨none,[],[2,3]⟩,⟨none,[],[2,3]⟩,⟨some 2,[2],[3]⟩,⟨some 3,[3],[2]⟩,⟨none,[2],[]⟩,⟨none,[3],[]⟩] 2 4 mixed rfl rfl (by decide) ?_
   have N1:((l++[x]).map Tm.aO).getD r.length .undef=x.aO:=by rw [← hlen];exact Tj
   have tG:((l++[x]).map Tm.aO).length=r.length+1:=by simp [hlen]
   have AL:((r++[y]).map Tm.aO).length=r.length+1:=by simp
   have WR:((l++[x]).map Tm.aO).take r.length=l.map Tm.aO:=by rw [← hlen];exact SG
   simp only [go_sem,dC,hlen,cd,Tj,N1,tG,AL,fJ]
   (repeat ((with_reducible refine And.intro ?_ ?_); ·omega))
   refine aK.go 1000 ?_
   simp only [go_sem]
   refine aK.draw [] 4 4 mixed rfl rfl (by decide) ?_
   simp only [go_sem,dC,cd]
   (repeat ((with_reducible refine And.intro ?_ ?_); ·omega))
   refine aK.go 1000 ?_
   have ph:Tm.size x=1+Tm.bF x.args:=oM x
   have WQ:Tm.size y=1+Tm.bF y.args:=oM y
   have hxa:=qh x.args
   have wD:=qh y.args
   by_cases c1:x.head=y.head
   ·by_cases c2:x.args.length=y.args.length
    ·have Ga:(x.args.length:Int)=y.args.length:=by omega
     simp only [go_sem,c1,Ga,ak]
     refine aK.draw [.no, .no, .no,⟨some 4,[0,4],[]⟩,⟨none,[],[0,4]⟩,⟨none,[],[0,4]⟩,⟨none,[],[0,4]⟩,⟨some 5,[1,5],[]⟩] 4 6 mixed rfl rfl (by decide) ?_
     simp only [go_sem,dC,ay]
     (repeat ((with_reducible refine And.intro ?_ ?_); ·omega))
     refine aK.go 1000 ?_
     rw [WR,SG,← cD,← cD]
     refine ⟨⟨(l++x.args,r++y.args),⟨by simp [hlen,c2],?_,?_,?_⟩⟩,[(0,4),(1,5)],jb rfl ?_,?_⟩
     ·simp only
      rw [← w_]
      constructor
      ·intro e
       obtain ⟨e1,e2⟩:=p0 e hlen
       rw [e1,Qc x,Qc y,c1,e2]
      ·intro e
       obtain ⟨e1,e2⟩:=p0 e hlen
       simp only [gJ,and_true] at e2
       rw [e1,e2]
     ·simp only [D2];omega
     ·simp only [D2];omega
     ·simp only [go_sem,ay,bR,cI (bR _),hlen]
     ·simp only [D2,Tm.bF];omega
    ·have Ga:¬ (x.args.length:Int)=y.args.length:=by omega
     have ep:¬ a=b:=by
      rw [← w_]
      intro e
      obtain ⟨e1,e2⟩:=p0 e hlen
      simp only [gJ,and_true] at e2
      exact c2 (by rw [e2])
     simp only [go_sem,c1,Ga]
     refine aK.go 1000 ?_
     simp only [go_sem]
     simp [ep]
   ·have ep:¬ a=b:=by
     rw [← w_]
     intro e
     obtain ⟨e1,e2⟩:=p0 e hlen
     simp only [gJ,and_true] at e2
     exact c1 (by rw [e2])
    simp only [go_sem,c1]
    refine aK.go 1000 ?_
    simp only [go_sem]
    simp [ep]
end Go.Proofs
namespace Go.c8
open Go
def jS (P:Program) (g:FuncId) (args:List ae) (r0:ae) (ve:ai):Prop:=bT P g args [] (fun r σ'=>r=r0∧σ' = ve)∧r0.low ve.length∧bw ve.length ve
def up (n b:Nat):Nat:=b+n
def A_ (n:Nat) (τ:ai):ai:=τ.map (Option.map (dI (up n)))
section
variable {P:Program} {X:Nat→Nat→Prop} {base:Nat} {σ:ai} {β β':Env} {w w':World}
theorem aq.tree {g:FuncId} {first captured args args':List ae} {K:ae→ai→Prop} (bs:List Nat) (hp:kO (among bs) σ args' (first++args++captured))
  (h:bT P g args' (fZ (among bs) 0 σ) K):aq P (.fn g first captured) args σ K:=by
 refine aq.sh ?_
 intro X base β w vs h1 h2 h3 fr cs h4
 have od:=zX (among bs) σ
 generalize yN:fZ (among bs) 0 σ = ll at *
 have hf:=od.oH
 have xC:=h1.oH hf
 obtain ⟨e1,e2⟩:=tU xC od args' hp
 have e3:∀ k,k<args'.length→bS w (MT X ll β) β (vs.getD k undef) (args'.getD k .undef):=fun k eE=>(e2 k eE).1 _ ((h3 k (by omega)).mono (Bo hf) (fun _ _ h=>h))
 obtain ⟨r',σ',β',v,w',g0,g1,g2,g3,g4,g5⟩:=h X base β w vs xC (by omega) e3 fr cs h4
 refine ⟨r',σ',β',v,w',g0,g1,g2,⟨g3.os,g3.tape,g3.output,g3.size,fun g o v hc hn=>g3.cell g o v hc fun hm=>hn (hm.oH hf),fun g hg hn=>g3.block g hg fun o hm=>hn o (hm.oH hf),fun g o hm=>(g3.iL g o hm).imp (fun h=>h.oH hf) id,fun b hb=>g3.env b (by rw [hf.len];exact hb)⟩,by rw [hf.len] at g4;exact g4,g5⟩
theorem bT.v {F:Frame→List Frame→Sem Next→World→Value→World→Prop} {g:FuncId} {args:List ae} {K:ae→ai→Prop} (h:g_ P F g args σ K):dv P F (.fn g [] []) args σ K :=
 aq.sh (by simpa using h)
theorem dv.c {F:Frame→List Frame→Sem Next→World→Value→World→Prop} {g:FuncId} {args:List ae} {K:ae→ai→Prop} (h:dv P F (.fn g [] []) args σ K):g_ P F g args σ K:=by
 intro X base β w vs h1 h2 h3 fr cs h4
 obtain ⟨r,σ',β',v,w',q,g1,g2,g3,g4,g5⟩:=h X base β w (.func (.func g) #[] #[]) vs h1 (.fn rfl rfl (fun k hk=>by simp at hk) fun k hk=>by simp at hk) h2 h3 fr cs h4
 refine ⟨r,σ',β',v,w',q,g1,g2,g3,g4,?_⟩
 have:(do let d ← Deferred.ofValue (.func (.func g) #[] #[]) vs;invoke d.target d.args:Sem Next)=callFunc g vs:=by
  show callFunc g (#[]++vs++#[])=callFunc g vs
  simp
 rw [← this];exact g5
theorem QL (n:Nat):om 0 n=up n:=funext fun b=>by simp [om,up]
theorem jS.at {g:FuncId} {args:List ae} {r0:ae} {ve:ai} (hc:jS P g args r0 ve) (hl:bz 0 args) {K:ae→ai→Prop} (hk:K (dL (up σ.length) r0) (σ++A_ σ.length ve)):bT P g args σ K:=by
 refine dv.c ?_
 have:=aq.B7 (P:=P) (σ:=[]) (τ:=σ) (f:=.fn g [] []) (args:=args) (K:=K) ⟨trivial,trivial⟩ hl trivial ((bT.v hc.1).mono ?_)
 ·simpa using this
 rintro r σ' ⟨rfl,rfl⟩
 refine ⟨σ',fN _,av _,hc.2.2,hc.2.1,?_⟩
 have e:mc ([]:ai).length σ.length σ σ' = σ++A_ σ.length σ':=by
  simp [mc,QL,A_]
 rw [e]
 have e2:om ([]:ai).length σ.length=up σ.length:=QL _
 rw [e2];exact hk
theorem aq.td {g:FuncId} {first captured args args':List ae} {K:ae→ai→Prop} {r0:ae} {ve:ai} (bs:List Nat) (hc:jS P g args' r0 ve) (hp:kO (among bs) σ args' (first++args++captured)) (hl:bz 0 args')
  (hk:K (dL (up σ.length) r0) (fZ (among bs) 0 σ++A_ σ.length ve)):aq P (.fn g first captured) args σ K:=by
 refine aq.tree bs hp (hc.at hl ?_)
 rw [IE];exact hk
theorem jS.begin {g:FuncId} {fn:Func} {c:Code} {args:List ae} {r0:ae} {ve:ai} {m:Nat} {rs:List ResultVar} (n:Nat) (hf:P.funcs[g]? = some fn) (hb:fn.body=some c) (hr:fn.results.toList=rs) (hm:fn.ntmps - args.length=m)
  (eI : (fn.name == "runtime.NumGoroutine") = false) (h1 : r0.low ve.length) (h2 : bw ve.length ve)
  (h:dZ P ⟨0,none⟩ (qv P rs (mJ (fun r σ'=>r=r0∧σ' = ve) 0)) n [.code c] .normal (args++List.replicate m .undef) []):jS P g args r0 ve :=
 ⟨bT.oC n hf hb hr hm eI h,h1,h2⟩
theorem Ak {n:Nat}:A_ n []=[]:=rfl
theorem Af {n:Nat} {τ:ai}:A_ n (none :: τ)=none :: A_ n τ:=rfl
theorem Ah {n:Nat} {b:bE} {τ:ai}:A_ n (some b :: τ)=some (dI (up n) b) :: A_ n τ:=rfl
theorem Am {π:Nat→Nat} {b o n s:Nat}:dL π (.os b o n s) = .os (π b) o n s:=rfl
theorem xv {π:Nat→Nat} {es:List ae} {fz:Nat}:dI π (.row es fz) = .row (d_ π es) fz:=rfl
end
end Go.c8
namespace Go.Proofs
open Go Go.c8
attribute [local go_sem] Nat.reduceAdd Nat.reduceSub Nat.reduceMul Nat.reduceLeDiff Nat.reduceEqDiff Nat.reduceBEq Nat.reduceLT Nat.le_refl Int.natCast_zero Nat.sub_zero List.length_map Int.toNat_natCast Int.natCast_one Int.reduceEq Int.reduceLT Int.reduceLE Int.reduceNe Int.sub_zero Int.zero_add Int.toNat_one
def da (l:List (List Li)):List ae:=l.map fun c=>.ps 5 (lits c)
theorem nM (l:List (List Li)):(da l).length=l.length:=by simp [da]
theorem fy {n:Nat} (l:List (List Li)):bz n (da l):=uT fun c _=>cz c
theorem Ae {l:List (List Li)} {i:Nat} (h:i<l.length):(da l).getD i .undef = .ps 5 (lits l[i]):=by simp [da,List.getD,h]
@[go_sem] theorem Mr (l:List Li):eQ ⟨5,true,72,[.bool false, .int .i64 0, .aU, .int .i64 0, .aU], .struct⟩ (lits l)=True:=eq_true (by
 refine ⟨fun x hx=>?_,by decide,by decide,rfl⟩
 obtain ⟨t,_,rfl⟩:=bZ.1 hx
 rw [kL];exact ⟨rfl,rfl⟩)
@[go_sem] theorem Yzc (l:List (List Li)):eQ ⟨1,false,24,[.aU], .slice⟩ (da l)=True:=eq_true (by
 refine ⟨fun x hx=>?_,by decide,by decide,rfl⟩
 obtain ⟨t,_,rfl⟩:=bZ.1 hx
 exact ⟨rfl,rfl⟩)
@[go_sem] theorem Ysl (l:List Int):eQ ⟨1,false,8,[.int .i64 0], .int .i64⟩ (ints l)=True:=eq_true (by
 refine ⟨fun x hx=>?_,by decide,by decide,rfl⟩
 obtain ⟨t,_,rfl⟩:=bZ.1 hx
 exact ⟨rfl,rfl⟩)
theorem Fh (l:List Tm) (h:l≠[]) (hl:l.length≤1000000000):jS Tryz.prog 200 [.ps 2 (l.map Tm.aO)] (.os 1 0 l.length 2) [none,some (.row (l.map Tm.aO) 0)]:=by
 have h0:¬ l.length=0:=fun e=>h (aY e)
 refine jS.begin (rs:=[.tmp 2]) (m:=7) 1000 Tryz.func200 rfl rfl rfl rfl (by simp [go_sem]) (by simp [go_sem,bR]) ?_
 simp only [go_sem,ak,h0]
 (repeat ((with_reducible refine And.intro ?_ ?_); ·omega))
 rw [fY]
 exact ⟨_,fN _,av _,by simp [go_sem,bR],by simp [go_sem],by simp,rfl⟩
theorem Zue:bT Tryz.prog 200 [.ps 2 []] [] (fun r σ'=>r = .aU∧σ'=[]∨r = .os 1 0 0 2∧σ'=[none,some (.row [] 0)]):=by
 refine bT.oC (rs:=[.tmp 2]) (m:=7) 1000 Tryz.func200 rfl rfl rfl rfl ?_
 simp only [go_sem]
 refine ⟨?_,by simp [eQ],?_⟩
 ·rw [fY];exact ⟨[],fN _,ah _,trivial,trivial, .inl ⟨rfl,rfl⟩⟩
 ·rw [fY];exact ⟨_,fN _,av _,by simp [go_sem],by simp [go_sem], .inr ⟨rfl,rfl⟩⟩
theorem HV (l:List Li) (h:l≠[]) (hl:l.length≤1000000000):jS Tryz.prog 72 [.ps 5 (lits l)] (.os 1 0 l.length 5) [none,some (.row (lits l) 0)]:=by
 have h0:¬ l.length=0:=fun e=>h (aY e)
 refine jS.begin (rs:=[.tmp 2]) (m:=7) 1000 Tryz.func72 rfl rfl rfl rfl (by simp [go_sem]) (by simp [go_sem,cz]) ?_
 simp only [go_sem,gj,h0]
 (repeat ((with_reducible refine And.intro ?_ ?_); ·omega))
 rw [fY]
 exact ⟨_,fN _,av _,by simp [go_sem,cz],by simp [go_sem],by simp,rfl⟩
theorem R0 (l:List (List Li)) (h:l≠[]) (hl:l.length≤1000000000):jS Tryz.prog 27 [.ps 1 (da l)] (.os 1 0 l.length 1) [none,some (.row (da l) 0)]:=by
 have h0:¬ l.length=0:=fun e=>h (aY e)
 refine jS.begin (rs:=[.tmp 2]) (m:=7) 1000 Tryz.func27 rfl rfl rfl rfl (by simp [go_sem]) (by simp [go_sem,fy]) ?_
 simp only [go_sem,nM,h0]
 (repeat ((with_reducible refine And.intro ?_ ?_); ·omega))
 rw [fY]
 exact ⟨_,fN _,av _,by simp [go_sem,fy],by simp [go_sem],by simp,rfl⟩
theorem RK:bT Tryz.prog 27 [.ps 1 []] [] (fun r σ'=>r = .aU∧σ'=[]∨r = .os 1 0 0 1∧σ'=[none,some (.row [] 0)]):=by
 refine bT.oC (rs:=[.tmp 2]) (m:=7) 1000 Tryz.func27 rfl rfl rfl rfl ?_
 simp only [go_sem]
 refine ⟨?_,by simp [eQ],?_⟩
 ·rw [fY];exact ⟨[],fN _,ah _,trivial,trivial, .inl ⟨rfl,rfl⟩⟩
 ·rw [fY];exact ⟨_,fN _,av _,by simp [go_sem],by simp [go_sem], .inr ⟨rfl,rfl⟩⟩
theorem Ztr (l:List Int) (h:l≠[]) (hl:l.length≤1000000000):jS Tryz.prog 207 [.ps 1 (ints l)] (.os 1 0 l.length 1) [none,some (.row (ints l) 0)]:=by
 have h0:¬ l.length=0:=fun e=>h (aY e)
 refine jS.begin (rs:=[.tmp 2]) (m:=7) 1000 Tryz.func207 rfl rfl rfl rfl (by simp [go_sem]) (by simp [go_sem,dB]) ?_
 simp only [go_sem,lF,h0]
 (repeat ((with_reducible refine And.intro ?_ ?_); ·omega))
 rw [fY]
 exact ⟨_,fN _,av _,by simp [go_sem,dB],by simp [go_sem],by simp,rfl⟩
theorem Zsy:bT Tryz.prog 207 [.ps 1 []] [] (fun r σ'=>r = .aU∧σ'=[]∨r = .os 1 0 0 1∧σ'=[none,some (.row [] 0)]):=by
 refine bT.oC (rs:=[.tmp 2]) (m:=7) 1000 Tryz.func207 rfl rfl rfl rfl ?_
 simp only [go_sem]
 refine ⟨?_,by simp [eQ],?_⟩
 ·rw [fY];exact ⟨[],fN _,ah _,trivial,trivial, .inl ⟨rfl,rfl⟩⟩
 ·rw [fY];exact ⟨_,fN _,av _,by simp [go_sem],by simp [go_sem], .inr ⟨rfl,rfl⟩⟩
theorem Al {σ:ai} {b:Nat} {x:bE} (h:bH σ b=some x):b < σ.length:=(aI.1 (j_ h)).1
theorem Zz6 (σ:ai) (c:ae) (p:Li→Bool) (l:List Li) (hl:l.length<2 ^ 62) (hs:bw σ.length σ) (hc:c.low σ.length)
  (hp:∀ (i:Nat) (h:i<l.length),aq Tryz.prog c [l[i].aO] σ (fun r σ'=>r = .bool (p l[i])∧σ' = σ)) :
  aq Tryz.prog (.fn 101 [] []) [.ps 5 (lits l),c] σ (fun r σ'=>r = .int .i64 (dJ p l 0)∧σ' = σ):=by
 refine aq.begin (rs:=[.tmp 4]) (m:=17) 1000 Tryz.func101 rfl rfl rfl rfl rfl ?_
 simp only [go_sem,gj]
 refine aK.dc (ι:={i:Nat // i≤l.length∧dJ p (l.drop i) i=dJ p l 0}) 1000 (fun i=>f_ 19 [(0, .ps 5 (lits l)),(1,c),(7, .int .i64 l.length),(8, .int .i64 i.1)]) (fun _=>σ) (fun i=>l.length - i.1) ⟨0,by simp⟩ ?_ (fun _=>ah _) ?_
 ·simp only [go_sem,cz,gj,hc,hs]
  exact fN σ
 ·rintro ⟨i,hi,aQ⟩
  by_cases bG:(i:Int)<l.length
  ·have aZ:i<l.length:=by omega
   have hd:dJ p (l.drop i) i=if p l[i] then (i:Int) else dJ p (l.drop (i+1)) ((i:Int)+1):=by
    rw [ao aZ];rfl
   simp only [go_sem,bG,gj,tV aZ,kL]
   (repeat ((with_reducible refine And.intro ?_ ?_); ·omega))
   refine (hp i aZ).mono ?_
   rintro r σ' ⟨rfl,rfl⟩
   refine aK.go 1000 ?_
   cases e:p l[i] with
   | true =>
    rw [hd,e,if_pos rfl] at aQ
    simp only [go_sem]
    refine aK.go 1000 ?_
    simp only [go_sem,← aQ]
    rw [fY];exact ⟨σ',fN σ',ah _,hs,trivial,rfl,rfl⟩
   | false =>
    rw [hd,e,if_neg (by decide)] at aQ
    simp only [go_sem]
    refine ⟨⟨i+1,aZ,aQ⟩,?_,by simp only;omega⟩
    simp only [go_sem,cz,hc,hs]
    rw [eC (by omega)];exact ⟨rfl,fN σ'⟩
  ·have dV:i=l.length:=by omega
   subst dV
   rw [aV] at aQ
   simp only [go_sem,bG]
   refine aK.go 1000 ?_
   simp only [go_sem,← aQ]
   rw [fY];exact ⟨σ,fN σ,ah _,hs,trivial,rfl,rfl⟩
theorem HI (σ:ai) (c:ae) (p:Li→Bool) (l:List Li) (hl:l.length<2 ^ 62) (hs:bw σ.length σ) (hc:c.low σ.length)
  (hp:∀ (i:Nat) (h:i<l.length),aq Tryz.prog c [l[i].aO] σ (fun r σ'=>r = .bool (p l[i])∧σ' = σ)) :
  aq Tryz.prog (.fn 63 [] []) [.ps 5 (lits l),c] σ (fun r σ'=>r = .bool (l.any p)∧σ' = σ):=by
 refine aq.begin (rs:=[.tmp 4]) (m:=7) 1000 Tryz.func63 rfl rfl rfl rfl rfl ?_
 simp only [go_sem]
 refine (Zz6 σ c p l hl hs hc hp).mono ?_
 rintro r σ' ⟨rfl,rfl⟩
 refine aK.go 1000 ?_
 simp only [go_sem]
 rw [fY,Cq p l 0 (by omega)];exact ⟨σ',fN σ',ah _,hs,trivial,rfl,rfl⟩
theorem Rl (σ:ai) {b:Nat} (c:ae) (p:Li→Bool) (l:List Li) (hb:bH σ b=some (.row (lits l) 0)) (hl:l.length<2 ^ 62) (hs:bw σ.length σ) (hc:c.low σ.length)
  (hp:∀ (i:Nat) (h:i<l.length),aq Tryz.prog c [l[i].aO] σ (fun r σ'=>r = .bool (p l[i])∧σ' = σ)) :
  aq Tryz.prog (.fn 101 [] []) [.os b 0 l.length 5,c] σ (fun r σ'=>r = .int .i64 (dJ p l 0)∧σ' = σ):=by
 refine aq.begin (rs:=[.tmp 4]) (m:=17) 1000 Tryz.func101 rfl rfl rfl rfl rfl ?_
 simp only [go_sem,gj]
 refine aK.dc (ι:={i:Nat // i≤l.length∧dJ p (l.drop i) i=dJ p l 0}) 1000 (fun i=>f_ 19 [(0, .os b 0 l.length 5),(1,c),(7, .int .i64 l.length),(8, .int .i64 i.1)]) (fun _=>σ) (fun i=>l.length - i.1) ⟨0,by simp⟩ ?_ (fun _=>ah _) ?_
 ·simp only [go_sem,cz,gj,hc,hs]
  exact ⟨fN σ,Al hb⟩
 ·rintro ⟨i,hi,aQ⟩
  by_cases bG:(i:Int)<l.length
  ·have aZ:i<l.length:=by omega
   have hd:dJ p (l.drop i) i=if p l[i] then (i:Int) else dJ p (l.drop (i+1)) ((i:Int)+1):=by
    rw [ao aZ];rfl
   simp only [go_sem,bG,gj,tV aZ,kL,hb]
   (repeat ((with_reducible refine And.intro ?_ ?_); ·omega))
   refine (hp i aZ).mono ?_
   rintro r σ' ⟨rfl,rfl⟩
   refine aK.go 1000 ?_
   cases e:p l[i] with
   | true =>
    rw [hd,e,if_pos rfl] at aQ
    simp only [go_sem]
    refine aK.go 1000 ?_
    simp only [go_sem,← aQ]
    rw [fY];exact ⟨σ',fN σ',ah _,hs,trivial,rfl,rfl⟩
   | false =>
    rw [hd,e,if_neg (by decide)] at aQ
    simp only [go_sem]
    refine ⟨⟨i+1,aZ,aQ⟩,?_,by simp only;omega⟩
    simp only [go_sem,cz,hc,hs]
    rw [eC (by omega)];exact ⟨rfl,fN σ',Al hb⟩
  ·have dV:i=l.length:=by omega
   subst dV
   rw [aV] at aQ
   simp only [go_sem,bG]
   refine aK.go 1000 ?_
   simp only [go_sem,← aQ]
   rw [fY];exact ⟨σ,fN σ,ah _,hs,trivial,rfl,rfl⟩
theorem R2 (σ:ai) (c:ae) (p:Tm→Bool) (l:List Tm) (hl:l.length<2 ^ 62) (hs:bw σ.length σ) (hc:c.low σ.length)
  (hp:∀ (i:Nat) (h:i<l.length),aq Tryz.prog c [l[i].aO] σ (fun r σ'=>r = .bool (p l[i])∧σ' = σ)) :
  aq Tryz.prog (.fn 174 [] []) [.ps 2 (l.map Tm.aO),c] σ (fun r σ'=>r = .int .i64 (dJ p l 0)∧σ' = σ):=by
 refine aq.begin (rs:=[.tmp 4]) (m:=17) 1000 Tryz.func174 rfl rfl rfl rfl rfl ?_
 simp only [go_sem,ak]
 refine aK.dc (ι:={i:Nat // i≤l.length∧dJ p (l.drop i) i=dJ p l 0}) 1000 (fun i=>f_ 19 [(0, .ps 2 (l.map Tm.aO)),(1,c),(7, .int .i64 l.length),(8, .int .i64 i.1)]) (fun _=>σ) (fun i=>l.length - i.1) ⟨0,by simp⟩ ?_ (fun _=>ah _) ?_
 ·simp only [go_sem,bR,ak,hc,hs]
  exact fN σ
 ·rintro ⟨i,hi,aQ⟩
  by_cases bG:(i:Int)<l.length
  ·have aZ:i<l.length:=by omega
   have hd:dJ p (l.drop i) i=if p l[i] then (i:Int) else dJ p (l.drop (i+1)) ((i:Int)+1):=by
    rw [ao aZ];rfl
   simp only [go_sem,bG,ak,n6 aZ,fJ]
   (repeat ((with_reducible refine And.intro ?_ ?_); ·omega))
   have G9:=hp i aZ
   rw [dh] at G9
   refine G9.mono ?_
   rintro r σ' ⟨rfl,rfl⟩
   refine aK.go 1000 ?_
   cases e:p l[i] with
   | true =>
    rw [hd,e,if_pos rfl] at aQ
    simp only [go_sem]
    refine aK.go 1000 ?_
    simp only [go_sem,← aQ]
    rw [fY];exact ⟨σ',fN σ',ah _,hs,trivial,rfl,rfl⟩
   | false =>
    rw [hd,e,if_neg (by decide)] at aQ
    simp only [go_sem]
    refine ⟨⟨i+1,aZ,aQ⟩,?_,by simp only;omega⟩
    simp only [go_sem,bR,hc,hs]
    rw [eC (by omega)];exact ⟨rfl,fN σ'⟩
  ·have dV:i=l.length:=by omega
   subst dV
   rw [aV] at aQ
   simp only [go_sem,bG]
   refine aK.go 1000 ?_
   simp only [go_sem,← aQ]
   rw [fY];exact ⟨σ,fN σ,ah _,hs,trivial,rfl,rfl⟩
theorem J_ (σ:ai) (c:ae) (p:Tm→Bool) (l:List Tm) (hl:l.length<2 ^ 62) (hs:bw σ.length σ) (hc:c.low σ.length)
  (hp:∀ (i:Nat) (h:i<l.length),aq Tryz.prog c [l[i].aO] σ (fun r σ'=>r = .bool (p l[i])∧σ' = σ)) :
  aq Tryz.prog (.fn 144 [] []) [.ps 2 (l.map Tm.aO),c] σ (fun r σ'=>r = .bool (l.any p)∧σ' = σ):=by
 refine aq.begin (rs:=[.tmp 4]) (m:=7) 1000 Tryz.func144 rfl rfl rfl rfl rfl ?_
 simp only [go_sem]
 refine (R2 σ c p l hl hs hc hp).mono ?_
 rintro r σ' ⟨rfl,rfl⟩
 refine aK.go 1000 ?_
 simp only [go_sem]
 rw [fY,Cq p l 0 (by omega)];exact ⟨σ',fN σ',ah _,hs,trivial,rfl,rfl⟩
theorem Ztt (σ:ai) {b:Nat} (c:ae) (p:Tm→Bool) (l:List Tm) (hb:bH σ b=some (.row (l.map Tm.aO) 0)) (hl:l.length<2 ^ 62) (hs:bw σ.length σ) (hc:c.low σ.length)
  (hp:∀ (i:Nat) (h:i<l.length),aq Tryz.prog c [l[i].aO] σ (fun r σ'=>r = .bool (p l[i])∧σ' = σ)) :
  aq Tryz.prog (.fn 174 [] []) [.os b 0 l.length 2,c] σ (fun r σ'=>r = .int .i64 (dJ p l 0)∧σ' = σ):=by
 refine aq.begin (rs:=[.tmp 4]) (m:=17) 1000 Tryz.func174 rfl rfl rfl rfl rfl ?_
 simp only [go_sem,ak]
 refine aK.dc (ι:={i:Nat // i≤l.length∧dJ p (l.drop i) i=dJ p l 0}) 1000 (fun i=>f_ 19 [(0, .os b 0 l.length 2),(1,c),(7, .int .i64 l.length),(8, .int .i64 i.1)]) (fun _=>σ) (fun i=>l.length - i.1) ⟨0,by simp⟩ ?_ (fun _=>ah _) ?_
 ·simp only [go_sem,bR,ak,hc,hs]
  exact ⟨fN σ,Al hb⟩
 ·rintro ⟨i,hi,aQ⟩
  by_cases bG:(i:Int)<l.length
  ·have aZ:i<l.length:=by omega
   have hd:dJ p (l.drop i) i=if p l[i] then (i:Int) else dJ p (l.drop (i+1)) ((i:Int)+1):=by
    rw [ao aZ];rfl
   simp only [go_sem,bG,ak,n6 aZ,fJ,hb]
   (repeat ((with_reducible refine And.intro ?_ ?_); ·omega))
   have G9:=hp i aZ
   rw [dh] at G9
   refine G9.mono ?_
   rintro r σ' ⟨rfl,rfl⟩
   refine aK.go 1000 ?_
   cases e:p l[i] with
   | true =>
    rw [hd,e,if_pos rfl] at aQ
    simp only [go_sem]
    refine aK.go 1000 ?_
    simp only [go_sem,← aQ]
    rw [fY];exact ⟨σ',fN σ',ah _,hs,trivial,rfl,rfl⟩
   | false =>
    rw [hd,e,if_neg (by decide)] at aQ
    simp only [go_sem]
    refine ⟨⟨i+1,aZ,aQ⟩,?_,by simp only;omega⟩
    simp only [go_sem,bR,hc,hs]
    rw [eC (by omega)];exact ⟨rfl,fN σ',Al hb⟩
  ·have dV:i=l.length:=by omega
   subst dV
   rw [aV] at aQ
   simp only [go_sem,bG]
   refine aK.go 1000 ?_
   simp only [go_sem,← aQ]
   rw [fY];exact ⟨σ,fN σ,ah _,hs,trivial,rfl,rfl⟩
theorem X8 (σ:ai) (c:ae) (p:Int→Bool) (l:List Int) (hl:l.length<2 ^ 62) (hs:bw σ.length σ) (hc:c.low σ.length)
  (hp:∀ (i:Nat) (h:i<l.length),aq Tryz.prog c [(.int .i64 l[i])] σ (fun r σ'=>r = .bool (p l[i])∧σ' = σ)) :
  aq Tryz.prog (.fn 185 [] []) [.ps 1 (ints l),c] σ (fun r σ'=>r = .int .i64 (dJ p l 0)∧σ' = σ):=by
 refine aq.begin (rs:=[.tmp 4]) (m:=17) 1000 Tryz.func185 rfl rfl rfl rfl rfl ?_
 simp only [go_sem,lF]
 refine aK.dc (ι:={i:Nat // i≤l.length∧dJ p (l.drop i) i=dJ p l 0}) 1000 (fun i=>f_ 19 [(0, .ps 1 (ints l)),(1,c),(7, .int .i64 l.length),(8, .int .i64 i.1)]) (fun _=>σ) (fun i=>l.length - i.1) ⟨0,by simp⟩ ?_ (fun _=>ah _) ?_
 ·simp only [go_sem,dB,lF,hc,hs]
  exact fN σ
 ·rintro ⟨i,hi,aQ⟩
  by_cases bG:(i:Int)<l.length
  ·have aZ:i<l.length:=by omega
   have hd:dJ p (l.drop i) i=if p l[i] then (i:Int) else dJ p (l.drop (i+1)) ((i:Int)+1):=by
    rw [ao aZ];rfl
   simp only [go_sem,bG,lF,xy aZ,Tc]
   (repeat ((with_reducible refine And.intro ?_ ?_); ·omega))
   refine (hp i aZ).mono ?_
   rintro r σ' ⟨rfl,rfl⟩
   refine aK.go 1000 ?_
   cases e:p l[i] with
   | true =>
    rw [hd,e,if_pos rfl] at aQ
    simp only [go_sem]
    refine aK.go 1000 ?_
    simp only [go_sem,← aQ]
    rw [fY];exact ⟨σ',fN σ',ah _,hs,trivial,rfl,rfl⟩
   | false =>
    rw [hd,e,if_neg (by decide)] at aQ
    simp only [go_sem]
    refine ⟨⟨i+1,aZ,aQ⟩,?_,by simp only;omega⟩
    simp only [go_sem,dB,hc,hs]
    rw [eC (by omega)];exact ⟨rfl,fN σ'⟩
  ·have dV:i=l.length:=by omega
   subst dV
   rw [aV] at aQ
   simp only [go_sem,bG]
   refine aK.go 1000 ?_
   simp only [go_sem,← aQ]
   rw [fY];exact ⟨σ,fN σ,ah _,hs,trivial,rfl,rfl⟩
theorem Zmw (σ:ai) (c:ae) (p:Int→Bool) (l:List Int) (hl:l.length<2 ^ 62) (hs:bw σ.length σ) (hc:c.low σ.length)
  (hp:∀ (i:Nat) (h:i<l.length),aq Tryz.prog c [(.int .i64 l[i])] σ (fun r σ'=>r = .bool (p l[i])∧σ' = σ)) :
  aq Tryz.prog (.fn 163 [] []) [.ps 1 (ints l),c] σ (fun r σ'=>r = .bool (l.any p)∧σ' = σ):=by
 refine aq.begin (rs:=[.tmp 4]) (m:=7) 1000 Tryz.func163 rfl rfl rfl rfl rfl ?_
 simp only [go_sem]
 refine (X8 σ c p l hl hs hc hp).mono ?_
 rintro r σ' ⟨rfl,rfl⟩
 refine aK.go 1000 ?_
 simp only [go_sem]
 rw [fY,Cq p l 0 (by omega)];exact ⟨σ',fN σ',ah _,hs,trivial,rfl,rfl⟩
end Go.Proofs
namespace Go.c8
open Go
theorem bS.rv {w:World} {M:Nat→Nat→Prop} {β β':Env} {π:Nat→Nat} {n:Nat} {v:Value} {a:ae} (h:bS w M β' v a):a.low n→(∀ b,b<n→β (π b) = β' b)→bS w M β v (c8.dL π a):=by
 intro hl hβ
 induction h with
 | undef v=>exact .undef v
 | bool b=>exact .bool b
 | ig b=>exact .ig b
 | int k n=>exact .int k n
 | str s=>exact .str s
 | bN=>exact .bN
 | ptr h=>exact .ptr ((hβ _ hl).trans h)
 | rp h=>exact .rp ((hβ _ hl).trans h)
 | @pp g o cs cv hc _ ih =>
  simp only [c8.dL]
  refine .pp cv (fun k hk=>hc k (by rw [jL] at hk;exact hk)) fun k hk=>?_
  rw [jL] at hk;rw [lS];exact ih k hk (ji hl k)
 | aU a=>exact .aU a
 | @ps a cap sz es cv jr fH hc ha _ ih =>
  simp only [c8.dL]
  have e:(d_ π es).length=es.length:=jL π es
  rw [← e]
  refine .ps cv (by rw [e];exact jr) (fun i hi=>?_) (fun i j hi hj=>hc i j (by rw [e] at hi;exact hi) hj) (fun h0=>ha (by rw [e] at h0;exact h0)) (fun i j hi hj=>?_)
  ·rw [lS,Bp,jL];exact fH i (by rw [e] at hi;exact hi)
  ·rw [lS,Bp,lS];exact ih i j (by rw [e] at hi;exact hi) hj (ji (Ef (ji hl i)) j)
 | sJ a h=>exact .sJ a ((hβ _ hl).trans h)
 | os h h1 h2=>exact .os ((hβ _ hl).trans h) h1 h2
 | sI a h=>exact .sI a ((hβ _ hl).trans h)
 | oc h h1 h2=>exact .oc ((hβ _ hl).trans h) h1 h2
 | az=>exact .az
 | fn h1 h2 _ _ kN oP =>
  simp only [c8.dL]
  refine .fn (by rw [jL];exact h1) (by rw [jL];exact h2) (fun k hk=>?_) (fun k hk=>?_)
  ·rw [jL] at hk;rw [lS];exact kN k hk (ji hl.1 k)
  ·rw [jL] at hk;rw [lS];exact oP k hk (ji hl.2 k)
 | lz h=>exact .lz ((hβ _ hl).trans h)
 | cC=>exact .cC
 | map h=>exact .map ((hβ _ hl).trans h)
 | pm hg hm h1 h2 _ _ hb kN oP =>
  simp only [c8.dL]
  refine .pm hg hm (by rw [jL];exact h1) (by rw [jL,jL];exact h2) (fun k hk=>?_) (fun k hk=>?_) hb
  ·rw [jL] at hk;rw [lS];exact kN k hk (ji hl.1 k)
  ·rw [jL] at hk;rw [lS];exact oP k hk (ji hl.2 k)
 | it h=>exact .it ((hβ _ hl).trans h)
 | agg h _ ih =>
  simp only [c8.dL]
  refine .agg (by rw [jL];exact h) fun k hk=>?_
  rw [jL] at hk;rw [lS];exact ih k hk (ji hl k)
 | dA h _ ih =>
  simp only [c8.dL]
  refine .dA (by rw [jL];exact h) fun k hk=>?_
  rw [jL] at hk;rw [lS];exact ih k hk (ji hl k)
 | fR=>exact .fR
 | iface _ ih=>exact .iface (ih hl)
 | nX v=>exact .nX v
section
variable {P:Program}
theorem aq.Ow {F:Frame→List Frame→Sem Next→World→Value→World→Prop} {f:ae} {args:List ae} {K:ae→ai→Prop} {Z:ai} {i:Nat} {B:bE} (hZ:∀ b x,Z[b]? = some (some x)↔b=i∧B=x) (hB:B.low 0) (hf:f.low 0) (ha:bz 1 args)
  (h:dv P F f args [some B] (fun r σ'=>r.low 1∧∃ B',σ'=[some B']∧B'.low 0∧K (dL (fun _=>i) r) (Z.set i (some B')))):dv P F f (d_ (fun _=>i) args) Z K:=by
 intro X base β w vf vs h1 nP h2 h3 fr cs h4
 rw [jL] at h2 h3
 obtain ⟨L,l1,l2,l3,l4⟩:=h1.cg i B ((hZ i B).2 ⟨rfl,rfl⟩)
 have hiZ:i<Z.length:=(aI.1 ((hZ i B).2 ⟨rfl,rfl⟩)).1
 have e0:jY β (fun _=>i) 1 0=some L:=l1
 have hm:∀ g o,ja Z β g o↔ja [some B] (jY β (fun _=>i) 1) g o:=fun g o=>by
  constructor
  ·rintro ⟨b,x,L',m1,m2,m3,m4⟩
   obtain ⟨rfl,rfl⟩:=(hZ b x).1 m1
   exact ⟨0,B,L',rfl,m2,m3,m4⟩
  ·rintro ⟨b,x,L',m1,m2,m3,m4⟩
   obtain ⟨rfl,rfl⟩:=FT.1 m1
   exact ⟨i,B,L',(hZ i B).2 ⟨rfl,rfl⟩,m2,m3,m4⟩
 have hM:MT X [some B] (jY β (fun _=>i) 1)=MT X Z β:=funext fun g=>funext fun o=>propext (or_congr Iff.rfl (hm g o).symm)
 have hr:cH X base [some B] (jY β (fun _=>i) 1) w:=by
  refine ⟨fun b hb=>?_,fun b x hb=>?_,fun b b' x y L' W7 e1 e2 _ _ _=>?_,h1.size,h1.qd,h1.gl⟩
  ·simp only [dm] at hb
   exact if_neg (by omega)
  ·obtain ⟨rfl,rfl⟩:=FT.1 hb
   refine ⟨L,e0,l2,l3,?_⟩
   rw [hM]
   exact gp.low (n:=0) (fun b hb=>absurd hb (by omega)) l4 hB
  ·rw [(FT.1 e1).1,(FT.1 e2).1]
 have od:bS w (MT X Z β) (jY β (fun _=>i) 1) vf f:=bS.low (n:=0) (fun b hb=>absurd hb (by omega)) nP hf
 have ha':∀ k,k<args.length→bS w (MT X Z β) (jY β (fun _=>i) 1) (vs.getD k undef) (args.getD k .undef):=fun k hk=>by
  have:=h3 k hk
  rw [lS] at this
  exact bS.dL this _ rfl (ji ha k)
 rw [← hM] at od ha'
 obtain ⟨r,σ',β',v,w',⟨q1,B',rfl,q2,q3⟩,g1,g2,g3,g4,g5⟩:=h X base _ w vf vs hr od h2 ha' fr cs h4
 have Jn : β' 0=some L:=(g3.env 0 Nat.one_pos).trans e0
 have Gq:∀ b x,(Z.set i (some B'))[b]? = some (some x)↔b=i∧B'=x:=fun b x=>by
  by_cases hb:b=i
  ·subst hb;rw [fX hiZ];simp
  ·rw [bM (fun e=>hb e.symm)]
   constructor
   ·intro e;exact absurd ((hZ b x).1 e).1 hb
   ·intro e;exact absurd e.1 hb
 have AQ:∀ g o,ja (Z.set i (some B')) β g o↔ja [some B'] β' g o:=fun g o=>by
  constructor
  ·rintro ⟨b,x,L',m1,m2,m3,m4⟩
   obtain ⟨rfl,rfl⟩:=(Gq b x).1 m1
   obtain rfl:=aN (l1.symm.trans m2)
   exact ⟨0,B',L,rfl,Jn,m3,m4⟩
  ·rintro ⟨b,x,L',m1,m2,m3,m4⟩
   obtain ⟨rfl,rfl⟩:=FT.1 m1
   obtain rfl:=aN (Jn.symm.trans m2)
   exact ⟨i,B',L,(Gq i B').2 ⟨rfl,rfl⟩,l1,m3,m4⟩
 have Gm:MT X [some B'] β'=MT X (Z.set i (some B')) β:=funext fun g=>funext fun o=>propext (or_congr Iff.rfl (AQ g o).symm)
 refine ⟨_,Z.set i (some B'),β,v,w',q3,?_,?_,?_,by simp,g5⟩
 ·refine ⟨fun b hb=>h1.nO b (by simpa using hb),fun b x hb=>?_,fun b b' x y L' W7 e1 e2 _ _ _=>?_,g1.size,g1.qd,g1.gl⟩
  ·obtain ⟨rfl,rfl⟩:=(Gq b x).1 hb
   obtain ⟨L',k1,k2,k3,k4⟩:=g1.cg 0 B' rfl
   obtain rfl:=aN (Jn.symm.trans k1)
   refine ⟨L,l1,k2,k3,?_⟩
   rw [← Gm]
   exact gp.low (n:=0) (fun b hb=>absurd hb (by omega)) k4 q2
  ·rw [((Gq _ _).1 e1).1,((Gq _ _).1 e2).1]
 ·rw [← Gm]
  exact g2.rv (π:=fun _=>i) q1 fun b hb=>by obtain rfl:b=0:=(by omega);exact l1.trans Jn.symm
 ·exact ⟨g3.os,g3.tape,g3.output,g3.size,fun g o x hc hn=>g3.cell g o x hc fun hx=>hn ((hm g o).2 hx),fun g hg hn=>g3.block g hg fun o hx=>hn o ((hm g o).2 hx),fun g o hx=>(g3.iL g o ((AQ g o).1 hx)).imp (hm g o).2 id,fun _ _=>rfl⟩
theorem aq.Ar {F:Frame→List Frame→Sem Next→World→Value→World→Prop} {f:ae} {args:List ae} {K:ae→ai→Prop} {σ:ai} (i:Nat) {B:bE} (hi : σ[i]? = some (some B)) (hB:B.low 0) (hf:f.low 0) (ha:bz 1 args)
  (h:dv P F f args [some B] (fun r σ'=>r.low 1∧∃ B',σ'=[some B']∧B'.low 0∧K (dL (fun _=>i) r) (σ.set i (some B')))):dv P F f (d_ (fun _=>i) args) σ K:=by
 have bG:i < σ.length:=(aI.1 hi).1
 refine aq.frame (fun b=>decide (b=i)) (K':=fun r iZ=>∃ B',iZ=(eJ (fun b=>decide (b=i)) 0 σ).set i (some B')∧K r (σ.set i (some B'))) ?_ ?_
 ·refine aq.Ow (B:=B) ?_ hB hf ha (h.mono ?_)
  ·intro b x
   rw [wj,bp]
   by_cases hb:b=i
   ·subst hb;simp [hi]
   ·simp [hb]
  ·rintro r σ' ⟨q1,B',rfl,q2,q3⟩
   exact ⟨q1,B',rfl,q2,B',rfl,q3⟩
 ·rintro r σ' ⟨B',rfl,hk⟩
  refine ⟨fun b hb hv=>?_,?_⟩
  ·simp only [decide_eq_false_iff_not] at hv
   rw [bM (fun e=>hv e.symm),wj,bp,aA hb];simp [hv]
  ·have e:hO (fun b=>decide (b=i)) 0 ((eJ (fun b=>decide (b=i)) 0 σ).set i (some B')) σ = σ.set i (some B'):=by
    refine bQ fun b=>?_
    rw [Ei (fun b=>decide (b=i)) ((eJ (fun b=>decide (b=i)) 0 σ).set i (some B')) σ 0 b (by rw [bg,rV];exact ah _),bp]
    by_cases hb:b=i
    ·subst hb
     rw [if_neg (by simp),fX (by rw [rV];exact bG),fX bG]
    ·by_cases wu:b < σ.length
     ·rw [if_pos ⟨wu,by simpa using hb⟩,bM (fun e=>hb e.symm)]
     ·rw [if_neg (fun h=>wu h.1),bt (by rw [bg,rV];omega),bt (by rw [bg];omega)]
   rw [e];exact hk
def uM (K:ae→ai→Prop) (n:Nat) (r0:ae) (σ':ai):Prop:=∃ r,pT (fun _=>true) σ' r (sc r0)∧r.low 0∧K r (List.replicate n none)
theorem KT {n b:Nat} {x:bE}:¬ (List.replicate n (none:Option bE))[b]? = some (some x):=by
 rw [db];split<;>simp
theorem bT.uM {F:Frame→List Frame→Sem Next→World→Value→World→Prop} {σ:ai} {g:FuncId} {args:List ae} {K:ae→ai→Prop} (h:g_ P F g args σ (uM K σ.length)):g_ P F g args σ K:=by
 intro X base β w vs h1 h2 h3 fr cs h4
 obtain ⟨r0,σ',β',v,w',⟨r,k1,k5,k6⟩,g1,g2,g3,g4,g5⟩:=h X base β w vs h1 h2 h3 fr cs h4
 have hf:=zX (fun _=>true) σ'
 generalize yN:fZ (fun _=>true) 0 σ' = ll at hf
 have BU:=g1.oH hf.oH
 have qA:=(FP BU hf r k1).1 v (Vr (g2.mono (Bo hf.oH) (fun _ _ h=>h)))
 have hle:xI (List.replicate σ.length none) ll:=fun b x hb=>absurd hb KT
 have hl:(List.replicate σ.length (none:Option bE)).length = σ.length:=by simp
 have ke:yU σ.length (List.replicate σ.length none):=fun b x hb=>absurd hb KT
 have hs:=BU.drop hle hl ke
 have rj:=bS.drop qA hle hl (m_ (av _) k5)
 exact ⟨r,_,_,v,w',k6,hs,rj,g3.drop (σ':=List.replicate σ.length none) (fun b x hb=>absurd hb KT) hl (ah _),by simp,g5⟩
@[go_sem] theorem Xbt {b o n s:Nat}:sc (.os b o n s) = .os b o n s:=rfl
@[go_sem] theorem Xc9 {b o n c s:Nat}:sc (.oc b o n c s) = .os b o n s:=rfl
@[go_sem] theorem Yvn:sc .aU = .aU:=rfl
@[go_sem] theorem Xb1 {s:Nat} {l:List ae}:sc (.ps s l) = .ps s l:=rfl
theorem HF {K:ae→ai→Prop} {n:Nat} {r0:ae} {σ':ai}:c8.uM K n r0 σ' = ∃ r,pT (fun _=>true) σ' r (sc r0)∧r.low 0∧K r (List.replicate n none):=rfl
theorem bT.vp {g:FuncId} {fn:Func} {c:Code} {σ:ai} {args:List ae} {K:ae→ai→Prop} {m:Nat} {rs:List ResultVar} (n:Nat) (hf:P.funcs[g]? = some fn) (hb:fn.body=some c) (hr:fn.results.toList=rs) (hm:fn.ntmps - args.length=m)
  (eI : (fn.name == "runtime.NumGoroutine") = false)
  (h:dZ P ⟨σ.length,Option.none⟩ (qv P rs (c8.uM K σ.length)) n [.code c] .normal (args++List.replicate m .undef) σ):bT P g args σ K:=bT.uM (bT.start n hf hb hr hm eI h)
end
end Go.c8
namespace Go.Proofs
open Go Go.c8
attribute [local go_sem] Nat.reduceAdd Nat.reduceSub Nat.reduceMul Nat.reduceLeDiff Nat.reduceEqDiff Nat.reduceBEq Nat.reduceLT Nat.le_refl Int.natCast_zero Nat.sub_zero List.length_map Int.toNat_natCast Int.natCast_one Int.reduceEq Int.reduceLT Int.reduceLE Int.reduceNe Int.sub_zero Int.zero_add Int.toNat_one
theorem D7:∀ (xs E:List ae) (p:Nat),p+xs.length≤E.length→cw E p xs=E.take p++xs++E.drop (p+xs.length)
 | [],E,p,h=>by simp [cw]
 | x :: xs,E,p,h=>by
  simp only [ax] at h
  rw [cw,D7 xs (E.set p x) (p+1) (by rw [bg];omega)]
  have hp:p<E.length:=by omega
  have e1:(E.set p x).take (p+1)=E.take p++[x]:=by
   rw [eO,fX hp]
   simp [List.take_set_of_le]
  have e2:(E.set p x).drop (p+1+xs.length)=E.drop (p+(xs.length+1)):=by
   rw [List.drop_set,if_pos (by omega)];congr 1;omega
  rw [e1,e2];simp
theorem HP {n:Nat}:∀ {a b:List ae},bz n a→bz n b→bz n (a++b)
 | [],_,_,h=>h
 | _ :: _,_,h,k=>⟨h.1,HP h.2 k⟩
theorem FB {n m:Nat} {a:ae} (h:a.low n):bz n (List.replicate m a):=by
 induction m with
 | zero=>trivial
 | succ m ih=>exact ⟨h,ih⟩
theorem KQ {n:Nat} (sz:Nat):(dz sz).low n:=by
 unfold dz;split
 ·trivial
 ·exact FB (a:=.undef) trivial
theorem HM {n:Nat}:∀ {xs E:List ae} {p:Nat},bz n E→bz n xs→bz n (cw E p xs)
 | [],_,_,h,_=>h
 | x :: xs,E,p,h,k=>by rw [cw];exact HM (IJ h _ k.1) k.2
theorem Pu {E Z:List ae} {i m n k:Nat} (hi:i<n) (hE:n≤E.length) (hm:m=n - 1) (hk:Z.length=k) (AK:m+k=n) :
  (cw (cw E i ((E.drop (i+1)).take (n - (i+1)))) m Z).take m=E.take i++(E.drop (i+1)).take (n - (i+1)):=by
 have hl:((E.drop (i+1)).take (n - (i+1))).length=n - (i+1):=by simp;omega
 have e1:=D7 ((E.drop (i+1)).take (n - (i+1))) E i (by rw [hl];omega)
 have tG:(cw E i ((E.drop (i+1)).take (n - (i+1)))).length=E.length:=uR _ _ _
 rw [D7 Z _ m (by rw [tG];omega),cx,bW (by rw [cY,tG];omega),qK,Nat.min_self,e1,cx,
  ← cx,bW (by rw [ay,hl,cY];omega),bd (by rw [ay,hl,cY];omega)]
theorem Kw (l:List Li) (i:Nat) (hi:i<l.length) (hl:l.length<1000000000):aq Tryz.prog (.fn 71 [] []) [.os 0 0 l.length 5, .int .i64 i, .int .i64 ((i+1:Nat):Int)] [some (.row (lits l) 0)]
  (fun r σ'=>r = .os 0 0 (l.length - 1) 5∧σ'=[some (.row (lits (l.take i++l.drop (i+1))) 0)]):=by
 refine bT.v (bT.sS (pre:=[]) (post:=[.int .i64 i, .int .i64 ((i+1:Nat):Int)]) (b:=0) (es:=(lits l)) (fz:=0) rfl rfl (by simp [lits]) (by omega) fun c hc=>bT.short 0 ?_)
 have hlen:((lits l)++List.replicate (c - l.length) (dz 5)).length=c:=by simp [lits];omega
 have hE:(((lits l)++List.replicate (c - l.length) (dz 5)).drop (i+1)).take (l.length - (i+1))=lits (l.drop (i+1)):=by
  rw [List.drop_append_of_le_length (by simp [lits];omega),bW (by simp [lits])]
  rw [bd (by simp [lits])];simp [lits,List.map_drop]
 have Gk:((lits l)++List.replicate (c - l.length) (dz 5)).take i=lits (l.take i):=by
  rw [bW (by simp [lits];omega)];simp [lits,List.map_take]
 have hdr:=fun Z hk=>Pu (E:=(lits l)++List.replicate (c - l.length) (dz 5)) (Z:=Z) (i:=i) (m:=l.length - 1) (n:=l.length) (k:=1) hi (by omega) rfl hk (by omega)
 rw [hE,Gk] at hdr
 have ke:bz 1 (lits l++List.replicate (c - l.length) (dz 5)):=HP (cz _) (FB (KQ _))
 generalize Wc:(lits l)++List.replicate (c - l.length) (dz 5)=E at *
 refine bT.oC (rs:=[.tmp 6]) (m:=30) 1000 Tryz.func71 rfl rfl rfl rfl ?_
 have ep:¬ (i:Int)=((i+1:Nat):Int):=by omega
 simp only [go_sem,ep]
 (repeat ((with_reducible refine And.intro ?_ ?_); ·omega))
 refine aK.draw [.no, .no, .no, .no, .no, .no,⟨none,[0],[]⟩] 1 1 mixed rfl rfl (by decide) ?_
 have hx:i+(lits (l.drop (i+1))).length=l.length - 1:=by rw [gj,cj];omega
 have rM:l.length - 1≤c:=by omega
 have w5:l.length - (l.length - 1)=1:=by omega
 simp only [go_sem,dC,hlen,hE,hx,rM,av]
 (repeat ((with_reducible refine And.intro ?_ ?_); ·omega))
 refine aK.go 1000 ?_
 simp only [go_sem,hlen,hx,uR,w5,nc,List.replicate_one,aM,forall_eq,Nat.one_ne_zero]
 (repeat ((with_reducible refine And.intro ?_ ?_); ·omega))
 rw [fY]
 refine ⟨_,fN _,ah _,⟨?_,trivial⟩,Nat.one_pos,?_⟩
 ·exact IJ (HM ke (cz _)) _ (by simp [go_sem])
 ·rw [Je]
  refine ⟨_,_,l.length - 1,rfl,rfl,?_⟩
  have h5:=hdr [.agg [.bool false, .int .i64 0, .aU, .int .i64 0, .aU]] rfl
  simp only [cw] at h5
  rw [h5]
  simp [b_,lits]
theorem Zzi (l:List Tm) (i:Nat) (hi:i<l.length) (hl:l.length<1000000000):aq Tryz.prog (.fn 241 [] []) [.os 0 0 l.length 2, .int .i64 i, .int .i64 ((i+1:Nat):Int)] [some (.row (l.map Tm.aO) 0)]
  (fun r σ'=>r = .os 0 0 (l.length - 1) 2∧σ'=[some (.row (List.map Tm.aO (l.take i++l.drop (i+1))) 0)]):=by
 refine bT.v (bT.sS (pre:=[]) (post:=[.int .i64 i, .int .i64 ((i+1:Nat):Int)]) (b:=0) (es:=(l.map Tm.aO)) (fz:=0) rfl rfl (by simp [lits]) (by omega) fun c hc=>bT.short 0 ?_)
 have hlen:((l.map Tm.aO)++List.replicate (c - l.length) (dz 2)).length=c:=by simp [lits];omega
 have hE:(((l.map Tm.aO)++List.replicate (c - l.length) (dz 2)).drop (i+1)).take (l.length - (i+1))=List.map Tm.aO (l.drop (i+1)):=by
  rw [List.drop_append_of_le_length (by simp [lits];omega),bW (by simp [lits])]
  rw [bd (by simp [lits])];simp [lits,List.map_drop]
 have Gk:((l.map Tm.aO)++List.replicate (c - l.length) (dz 2)).take i=List.map Tm.aO (l.take i):=by
  rw [bW (by simp [lits];omega)];simp [lits,List.map_take]
 have hdr:=fun Z hk=>Pu (E:=(l.map Tm.aO)++List.replicate (c - l.length) (dz 2)) (Z:=Z) (i:=i) (m:=l.length - 1) (n:=l.length) (k:=1) hi (by omega) rfl hk (by omega)
 rw [hE,Gk] at hdr
 have ke:bz 1 (l.map Tm.aO++List.replicate (c - l.length) (dz 2)):=HP (bR _) (FB (KQ _))
 generalize Wc:(l.map Tm.aO)++List.replicate (c - l.length) (dz 2)=E at *
 refine bT.oC (rs:=[.tmp 6]) (m:=30) 1000 Tryz.func241 rfl rfl rfl rfl ?_
 have ep:¬ (i:Int)=((i+1:Nat):Int):=by omega
 simp only [go_sem,ep]
 (repeat ((with_reducible refine And.intro ?_ ?_); ·omega))
 refine aK.draw [.no, .no, .no, .no, .no, .no,⟨none,[0],[]⟩] 1 1 mixed rfl rfl (by decide) ?_
 have hx:i+(l.drop (i+1)).length=l.length - 1:=by rw [cj];omega
 have rM:l.length - 1≤c:=by omega
 have w5:l.length - (l.length - 1)=1:=by omega
 simp only [go_sem,dC,hlen,hE,hx,rM,av]
 (repeat ((with_reducible refine And.intro ?_ ?_); ·omega))
 refine aK.go 1000 ?_
 simp only [go_sem,hlen,hx,uR,w5,nc,List.replicate_one,aM,forall_eq,Nat.one_ne_zero]
 (repeat ((with_reducible refine And.intro ?_ ?_); ·omega))
 rw [fY]
 refine ⟨_,fN _,ah _,⟨?_,trivial⟩,Nat.one_pos,?_⟩
 ·exact IJ (HM ke (bR _)) _ (by simp [go_sem])
 ·rw [Je]
  refine ⟨_,_,l.length - 1,rfl,rfl,?_⟩
  have h5:=hdr [.agg [.int .i64 0, .aU]] rfl
  simp only [cw] at h5
  rw [h5]
  simp [b_,lits]
structure Un where
 l:Tm
 r:Tm
 off:Int
def Un.aO (u:Un):ae:=.agg [.int .i64 u.l.head, .ps 2 (u.l.args.map Tm.aO), .int .i64 u.r.head, .ps 2 (u.r.args.map Tm.aO), .int .i64 u.off]
theorem Ek (u:Un):u.aO.cells=[.int .i64 u.l.head, .ps 2 (u.l.args.map Tm.aO), .int .i64 u.r.head, .ps 2 (u.r.args.map Tm.aO), .int .i64 u.off]:=rfl
theorem J6 (u:Un):u.aO = .agg [.int .i64 u.l.head, .ps 2 (u.l.args.map Tm.aO), .int .i64 u.r.head, .ps 2 (u.r.args.map Tm.aO), .int .i64 u.off]:=rfl
def jn (l:List Un):List ae:=l.map Un.aO
theorem sO (l:List Un):(jn l).length=l.length:=by simp [jn]
theorem Jh {n:Nat} (u:Un):u.aO.low n:=by simp [J6,go_sem,bR]
theorem sm {n:Nat} (l:List Un):bz n (jn l):=uT fun x _=>Jh x
theorem Mq {l:List Un} {i:Nat} (h:i<l.length):(jn l).getD i .undef=l[i].aO:=n6 h
@[go_sem] theorem Xhg (l:List Un):eQ ⟨5,true,72,[.int .i64 0, .aU, .int .i64 0, .aU, .int .i64 0], .struct⟩ (jn l)=True:=eq_true (by
 refine ⟨fun x hx=>?_,by decide,by decide,rfl⟩
 obtain ⟨t,_,rfl⟩:=bZ.1 hx
 exact ⟨rfl,rfl⟩)
theorem Zzw (σ:ai) {b cp:Nat} (c:ae) (p:Un→Bool) (l:List Un) {E:List ae} (hb:bH σ b=some (.row E 0)) (hE:∀ (i:Nat) (h:i<l.length),E.getD i .undef=l[i].aO) (w7:l.length≤E.length) (hl:l.length<2 ^ 62) (hs:bw σ.length σ) (hc:c.low σ.length)
  (hp:∀ (i:Nat) (h:i<l.length),aq Tryz.prog c [l[i].aO] σ (fun r σ'=>r = .bool (p l[i])∧σ' = σ)) :
  aq Tryz.prog (.fn 161 [] []) [.oc b 0 l.length cp 5,c] σ (fun r σ'=>r = .int .i64 (dJ p l 0)∧σ' = σ):=by
 refine aq.begin (rs:=[.tmp 4]) (m:=17) 1000 Tryz.func161 rfl rfl rfl rfl rfl ?_
 simp only [go_sem]
 refine aK.dc (ι:={i:Nat // i≤l.length∧dJ p (l.drop i) i=dJ p l 0}) 1000 (fun i=>f_ 19 [(0, .oc b 0 l.length cp 5),(1,c),(7, .int .i64 l.length),(8, .int .i64 i.1)]) (fun _=>σ) (fun i=>l.length - i.1) ⟨0,by simp⟩ ?_ (fun _=>ah _) ?_
 ·simp only [go_sem,hc,hs]
  exact ⟨fN σ,Al hb⟩
 ·rintro ⟨i,hi,aQ⟩
  by_cases bG:(i:Int)<l.length
  ·have aZ:i<l.length:=by omega
   have hd:dJ p (l.drop i) i=if p l[i] then (i:Int) else dJ p (l.drop (i+1)) ((i:Int)+1):=by
    rw [ao aZ];rfl
   simp only [go_sem,bG,hb,hE i aZ,Ek]
   (repeat ((with_reducible refine And.intro ?_ ?_); ·omega))
   refine (hp i aZ).mono ?_
   rintro r σ' ⟨rfl,rfl⟩
   refine aK.go 1000 ?_
   cases e:p l[i] with
   | true =>
    rw [hd,e,if_pos rfl] at aQ
    simp only [go_sem]
    refine aK.go 1000 ?_
    simp only [go_sem,← aQ]
    rw [fY];exact ⟨σ',fN σ',ah _,hs,trivial,rfl,rfl⟩
   | false =>
    rw [hd,e,if_neg (by decide)] at aQ
    simp only [go_sem]
    refine ⟨⟨i+1,aZ,aQ⟩,?_,by simp only;omega⟩
    simp only [go_sem,hc,hs]
    rw [eC (by omega)];exact ⟨rfl,fN σ',Al hb⟩
  ·have dV:i=l.length:=by omega
   subst dV
   rw [aV] at aQ
   simp only [go_sem,bG]
   refine aK.go 1000 ?_
   simp only [go_sem,← aQ]
   rw [fY];exact ⟨σ,fN σ,ah _,hs,trivial,rfl,rfl⟩
theorem H0 {α:Type} (p : α→Bool):∀ (l:List α) (i:Int),0≤i→(dJ p l i = -1∧l.filter (fun x=>!p x)=l)∨∃ k,k<l.length∧dJ p l i=i+k∧(∀ x∈l.take k,p x=false)∧∀ h:k<l.length,p l[k]=true
 | [],i,_=>.inl ⟨rfl,rfl⟩
 | a :: l,i,h=>by
  by_cases c:p a=true
  ·exact .inr ⟨0,by simp,by simp [dJ,c],by simp,fun _=>c⟩
  ·have c':p a=false:=by simpa using c
   rcases H0 p l (i+1) (by omega) with ⟨h1,h2⟩ | ⟨k,h1,h2,h3,h4⟩
   ·exact .inl ⟨by simp [dJ,c',h1],by simp [List.filter_cons,c',h2]⟩
   ·refine .inr ⟨k+1,by simpa using h1,by simp [dJ,c',h2];omega,?_,fun h=>by simpa using h4 (by simpa using h)⟩
    intro x hx
    rw [eW,aR] at hx
    rcases hx with rfl | hx
    ·exact c'
    ·exact h3 x hx
theorem Zl2 {α:Type} (p : α→Bool) (l:List α) (h:∀ x∈l,p x=false):l.filter (fun x=>!p x)=l:=List.filter_eq_self.2 fun x hx=>by simp [h x hx]
theorem Ztj (us:List Un) (p:Un→Bool) (f:FuncId) (hl:us.length<1000000000) (hf:∀ u∈us,aJ Tryz.prog f [u.aO] (.bool (p u))) (xG:us≠[]) :
  aq Tryz.prog (.fn 137 [] []) [.os 0 0 us.length 5, .fn f [] []] [some (.row (jn us) 0)]
  (fun r σ'=>r = .os 0 0 (us.filter fun u=>!p u).length 5∧σ'=[some (.row (jn (us.filter fun u=>!p u)) 0)]):=by
 have nq : 0<us.length:=List.length_pos_iff.2 xG
 refine bT.v (bT.sS (pre:=[]) (post:=[.fn f [] []]) (b:=0) (es:=jn us) (fz:=0) rfl rfl (by simp [jn]) nq fun c hc=>bT.short 0 ?_)
 refine bT.oC (rs:=[.tmp 4]) (m:=40) 1000 Tryz.func137 rfl rfl rfl rfl ?_
 have kz:∀ (σ:ai) (u:Un),u∈us→∀ K:ae→ai→Prop,K (.bool (p u)) σ→aq Tryz.prog (.fn f [] []) [u.aO] σ K:=fun σ u hu K hk=>aq.bV [] (hf u hu) (cJ _ _ _) ⟨Jh u,trivial⟩ (by rw [jj];split<;>exact hk)
 have pP:∀ L:List Un,bz 1 (jn L++List.replicate (c - us.length) (dz 5)):=fun L=>HP (sm _) (FB (KQ _))
 simp only [go_sem]
 refine (Zzw _ _ p us rfl (fun i h=>?_) ?_ (by omega) ?_ ?_ (fun i h=>kz _ _ (aE h) _ ⟨rfl,rfl⟩)).mono ?_
 ·rw [tz,if_pos (by rw [sO];exact h)];exact Mq h
 ·simp [jn]
 ·exact ⟨pP us,trivial⟩
 ·simp [go_sem]
 rintro r σ' ⟨rfl,rfl⟩
 refine aK.go 1000 ?_
 rcases H0 p us 0 (by omega) with ⟨h1,h2⟩ | ⟨k,h1,h2,h3,h4⟩
 ·simp only [go_sem,h1]
  rw [fY]
  refine ⟨_,fN _,ah _,⟨pP us,trivial⟩,Nat.one_pos,?_⟩
  rw [Je]
  refine ⟨_,_,us.length,rfl,?_⟩
  rw [bW (by rw [sO];exact ah _),bd (by rw [sO];exact ah _),h2]
  exact ⟨rfl,rfl⟩
 ·have vK:¬ (0+(k:Int)) = -1:=by omega
  have r7:IntKind.i64.wrap ((k:Int)+1)=((k+1:Nat):Int):=by rw [eC (by omega)];omega
  have sY : 0+(k:Int)=(k:Int):=by omega
  simp only [go_sem,h2,vK,r7,sY]
  have Wf:(us.take (k+1)).filter (fun u=>!p u)=us.take k:=by
   rw [eO,aA h1,Option.toList_some,List.filter_append,Zl2 p _ h3]
   simp [h4 h1]
  have anT:us.length<9223372036854775807:=by omega
  have hE:∀ (j:Nat) (G:List Un),((us.take j).filter (fun u=>!p u)).length+G.length=j→j≤us.length →
    (jn ((us.take j).filter (fun u=>!p u)++G++us.drop j)++List.replicate (c - us.length) (dz 5)).length=c:=fun j G h1 h2=>by
   simp only [ay,sO,bA,cj];omega
  refine aK.dc (ι:={q:Nat×List Un // q.1≤us.length∧((us.take q.1).filter (fun u=>!p u)).length+q.2.length=q.1∧q.2≠[]}) 1000
   (fun q=>f_ 42 [(0, .oc 0 0 us.length c 5),(1, .fn f [] []),(4, .aU),(5, .int .i64 ((us.take q.1.1).filter (fun u=>!p u)).length),(6, .int .i64 q.1.1)])
   (fun q=>[some (.row (jn ((us.take q.1.1).filter (fun u=>!p u)++q.1.2++us.drop q.1.1)++List.replicate (c - us.length) (dz 5)) 0)]) (fun q=>us.length - q.1.1)
   ⟨(k+1,[us[k]]),by omega,by rw [Wf];simp;omega,by simp⟩ ?_ (fun _=>ah _) ?_
  ·have e0:us.take k++[us[k]]++us.drop (k+1)=us:=by simp
   have e1:(us.take k).length=k:=by simp;omega
   simp only [go_sem,Wf,e0,e1,pP]
  ·rintro ⟨⟨j,G⟩,hj,hlen,hG⟩
   simp only at hj hlen hG
   have ED:=hE j G hlen hj
   by_cases bG:(j:Int)<us.length
   ·have aZ:j<us.length:=by omega
    have eL:(jn ((us.take j).filter (fun u=>!p u)++G++us.drop j)++List.replicate (c - us.length) (dz 5)).getD j .undef=us[j].aO:=by
     rw [tz,if_pos (by rw [sO];simp only [ay,cj];omega)]
     rw [Mq (by simp only [ay,cj];omega)]
     rw [List.getElem_append_right (by simp only [ay];omega)]
     simp only [ay,hlen,en,List.getElem_drop,ck]
    simp only [go_sem,bG,ED,eL,Ek]
    (repeat ((with_reducible refine And.intro ?_ ?_); ·omega))
    refine kz _ us[j] (aE aZ) _ ?_
    refine aK.go 1000 ?_
    have sC:us.take (j+1)=us.take j++[us[j]]:=by rw [eO,aA aZ];rfl
    have hdr:us.drop j=us[j] :: us.drop (j+1):=ao aZ
    have DF:IntKind.i64.wrap ((j:Int)+1)=((j+1:Nat):Int):=by rw [eC (by omega)];omega
    cases hp:p us[j] with
    | true =>
     have Wh:(us.take (j+1)).filter (fun u=>!p u)=(us.take j).filter (fun u=>!p u):=by rw [sC,List.filter_append];simp [hp]
     simp only [go_sem,DF]
     refine ⟨⟨(j+1,G++[us[j]]),by simp only;omega,by simp only [Wh,ay,dm];omega,by simp⟩,?_,by simp only;omega⟩
     have e:(us.take j).filter (fun u=>!p u)++(G++[us[j]])++us.drop (j+1)=(us.take j).filter (fun u=>!p u)++G++us.drop j:=by rw [hdr];simp
     simp only [Wh,e]
     exact ⟨⟨trivial,trivial⟩,trivial,pP _⟩
    | false =>
     have MK:(us.take (j+1)).filter (fun u=>!p u)=(us.take j).filter (fun u=>!p u)++[us[j]]:=by rw [sC,List.filter_append];simp [hp]
     obtain ⟨g,G',rfl⟩:=List.exists_cons_of_ne_nil hG
     obtain ⟨K,BH⟩:∃ K,(us.take j).filter (fun u=>!p u)=K:=⟨_,rfl⟩
     rw [BH] at MK
     simp only [BH,ax] at hlen ED
     have hgK:(jn (K++g :: G'++us.drop j)++List.replicate (c - us.length) (dz 5)).getD K.length .undef=g.aO:=by
      rw [tz,if_pos (by rw [sO];simp)]
      rw [Mq (by simp)];simp
     have il:(jn (K++g :: G'++us.drop j)++List.replicate (c - us.length) (dz 5)).set K.length us[j].aO=jn (K++us[j] :: G'++us.drop j)++List.replicate (c - us.length) (dz 5):=by
      rw [List.set_append_left _ _ (by rw [sO];simp)]
      simp [jn]
     have hwK:IntKind.i64.wrap ((K.length:Int)+1)=((K.length+1:Nat):Int):=by rw [eC (by omega)];omega
     simp only [go_sem,BH,DF,hwK,hgK,Ek,ED]
     (repeat ((with_reducible refine And.intro ?_ ?_); ·omega))
     refine ⟨⟨(j+1,G'++[us[j]]),by simp only;omega,by simp only [MK,ay,dm];omega,by simp⟩,?_,by simp only;omega⟩
     have Dq:jx (cN g.aO) [.int .i64 us[j].l.head, .ps 2 (List.map Tm.aO us[j].l.args), .int .i64 us[j].r.head, .ps 2 (List.map Tm.aO us[j].r.args), .int .i64 us[j].off]=us[j].aO:=rfl
     have e:K++[us[j]]++(G'++[us[j]])++us.drop (j+1)=K++us[j] :: G'++us.drop j:=by rw [hdr];simp
     rw [Dq,il]
     simp only [MK,e,ay,dm]
     exact ⟨⟨trivial,trivial⟩,trivial,pP _⟩
   ·have rO:j=us.length:=by omega
    subst rO
    rw [dt] at hlen
    obtain ⟨K,BH⟩:∃ K,us.filter (fun u=>!p u)=K:=⟨_,rfl⟩
    simp only [dt,aV,BH,bq] at hlen ED
    simp only [go_sem,bG]
    refine aK.go 1000 ?_
    have hGl:us.length - K.length=G.length:=by omega
    have hG0:¬ G.length=0:=fun e=>hG (aY e)
    simp only [go_sem,dt,aV,BH,bq,ED,hGl,hG0,nc]
    refine ⟨⟨by omega,by omega⟩,⟨av _,by rw [bA];exact ah _,by omega,fun x hx=>?_⟩,⟨by omega,by omega⟩,?_⟩
    ·rw [(List.mem_replicate.1 hx).2];exact ⟨rfl,rfl⟩
    rw [fY]
    refine ⟨_,fN _,ah _,⟨HM (pP _) (FB (by simp [go_sem])),trivial⟩,Nat.one_pos,?_⟩
    rw [Je]
    refine ⟨_,_,K.length,rfl,rfl,?_⟩
    have hK1:List.take K.length (jn (K++G))=jn K:=by simp [jn]
    rw [D7 _ _ _ (by rw [ED,bA];omega),cx,bW (by rw [sO];simp),hK1,bW (by rw [sO];exact ah _),
     bd (by rw [sO];exact ah _)]
    rfl
@[go_sem] theorem Ywy:IntKind.i64.wrap 1=1:=eC (by omega)
theorem Zu5 {x:ae} {R ys:List ae} (h:R.length=ys.length):cw (x :: R) 1 ys=x :: ys:=by
 rw [D7 _ _ _ (by simp only [ax];omega)]
 simp only [eW,List.take_zero,bn,bh]
 rw [fW (by simp only [ax];omega)];simp
theorem OS (l:List (List Li)):∀ x∈da l,x.cells.length=1∧x.cells.all ae.cK=true:=fun x hx=>by
 obtain ⟨t,_,rfl⟩:=bZ.1 hx
 exact ⟨rfl,rfl⟩
theorem Rr (es:List (List Li)) (c:List Li) (ep:es≠[]) (hl:es.length<1000000):bT Tryz.prog 26 [.os 1 0 es.length 1, .int .i64 0, .os 2 0 1 1] [none,some (.row (da es) 0),some (.row [.ps 5 (lits c)] 0)]
  (fun r σ'=>r = .ps 1 (da (c :: es))∧σ'=[none,none,none]):=by
 have nq : 0<es.length:=List.length_pos_iff.2 ep
 refine bT.sS (pre:=[]) (post:=[.int .i64 0, .os 2 0 1 1]) (b:=1) (es:=da es) (fz:=0) rfl rfl (by simp [da]) nq fun cp Gw=>?_
 refine bT.vp (rs:=[.tmp 6]) (m:=92) 1000 Tryz.func26 rfl rfl rfl rfl ?_
 have h0:¬ (0:Int)=es.length:=by omega
 obtain ⟨N,hN⟩:∃ N:Nat,N=es.length+1:=⟨_,rfl⟩
 have hw:IntKind.i64.wrap ((es.length:Int)+1)=(N:Int):=by rw [eC (by omega)];omega
 have r8:IntKind.i64.wrap (N:Int)=(N:Int):=eC (by omega)
 have gU:(da es).length=es.length:=nM es
 by_cases hg:(cp:Int)<(N:Int)
 ·have tD:¬ N≤cp:=by omega
  have h9:N≤1000000000:=by omega
  have yz:eQ ⟨1,false,24,[.aU], .slice⟩ (List.replicate N .aU):=⟨fun x hx=>by rw [(List.mem_replicate.1 hx).2];exact ⟨rfl,rfl⟩,by decide,by decide,rfl⟩
  have JI:List.take es.length (da es++List.replicate (cp - es.length) (dz 1))=da es:=by
   rw [bW (by rw [gU];exact ah _),bd (by rw [gU];exact ah _)]
  have sC:List.take N [ae.ps 5 (lits c)]=[.ps 5 (lits c)]:=bd (by simp;omega)
  have il:(List.replicate N ae.aU).set 0 (.ps 5 (lits c)) = .ps 5 (lits c) :: List.replicate es.length .aU:=by rw [hN,fM];rfl
  have MO:N - 1=es.length:=by omega
  have N6:List.take es.length (da es)=da es:=bd (by rw [gU];exact ah _)
  have ta:=Zu5 (x:=.ps 5 (lits c)) (R:=List.replicate es.length .aU) (ys:=da es) (by simp [da])
  have MD:(1:Int)≤N:=by omega
  have oJ : 1+es.length=N:=by omega
  have nS:es.length+1=N:=by omega
  simp only [go_sem,h0,hw,r8,hg,tD,h9,yz,av,ay,bA,gU,nc,aM,forall_eq,JI,uR,sC,il]
  (repeat ((with_reducible refine And.intro ?_ ?_); ·omega))
  refine aK.draw [.no, .no, .no, .no, .no, .no, .no, .no,⟨none,[3],[]⟩] 4 4 mixed rfl rfl (by decide) ?_
  simp only [go_sem,dC,MO,gU,JI,N6,ta,nc,bA,oJ,nS,MD,ay,bA]
  (repeat ((with_reducible refine And.intro ?_ ?_); ·omega))
  refine ⟨OS es,?_⟩
  refine aK.go 1000 ?_
  simp only [go_sem]
  rw [HF]
  refine ⟨.ps 1 (da (c :: es)),?_,by simp [go_sem,fy],rfl,rfl⟩
  simp only [go_sem,ax,gU,nS]
  have ht3:List.take N (.ps 5 (lits c) :: da es) = .ps 5 (lits c) :: da es:=bd (by simp [gU];omega)
  rw [ht3]
  exact cJ _ _ _
 ·have MD:(1:Int)≤N:=by omega
  have MO:N - 1=es.length:=by omega
  have oJ : 1+es.length=N:=by omega
  have nS:es.length+1=N:=by omega
  simp only [go_sem,h0,hw,r8,hg,av,ay,bA,gU,MD]
  (repeat ((with_reducible refine And.intro ?_ ?_); ·omega))
  refine aq.sd (tS:=23) (tR:=4) (e:=24) (b1:=2) (b2:=1) (n1:=1) (n2:=N - 1) (sz:=1) Tryz.func59 (by kernel_rfl) (by kernel_rfl) (by kernel_rfl) (by kernel_rfl) (by kernel_rfl) XR (.inl rfl) (.inr ⟨_,rfl⟩) (by decide) (by decide) (by omega) rfl rfl (by decide) ?_
  refine aK.go 1000 ?_
  simp only [go_sem]
  refine aK.draw [.no, .no, .no, .no, .no, .no, .no, .no,⟨none,[1],[]⟩] 3 3 mixed rfl rfl (by decide) ?_
  have BS:(da es++List.replicate (cp - es.length) (dz 1)).length=cp:=by rw [ay,gU,bA];omega
  have N8:List.take es.length (List.take N (da es++List.replicate (cp - es.length) (dz 1)))=da es:=by
   rw [qK,Nat.min_eq_left (by omega),bW (by rw [gU];exact ah _),bd (by rw [gU];exact ah _)]
  generalize Wc:da es++List.replicate (cp - es.length) (dz 1)=E at *
  have ta:∀ x,List.take N ((cw E 1 (da es)).set 0 x)=x :: da es:=fun x=>by
   have h1:=D7 (da es) E 1 (by rw [gU,BS];omega)
   match E,BS with
   | [],BS=>simp at BS;omega
   | y :: E,BS =>
    rw [h1]
    simp only [eW,List.take_zero,bn,bh,c_,gU,oJ,← nS]
    rw [bW (by rw [gU];exact ah _),bd (by rw [gU];exact ah _)]
  have M3:nc 1 (da es):=OS es
  have sC:List.take N [ae.ps 5 (lits c)]=[.ps 5 (lits c)]:=bd (by simp;omega)
  have M4:nc 1 [ae.ps 5 (lits c)]:=fun x hx=>by rw [aM.1 hx];exact ⟨rfl,rfl⟩
  simp only [go_sem,dC,MO,BS,N8,M3,gU,oJ]
  (repeat ((with_reducible refine And.intro ?_ ?_); ·omega))
  refine aK.go 1000 ?_
  simp only [go_sem,uR,BS,sC,M4]
  (repeat ((with_reducible refine And.intro ?_ ?_); ·omega))
  rw [HF]
  refine ⟨.ps 1 (da (c :: es)),?_,by simp [go_sem,fy],rfl,rfl⟩
  simp only [go_sem,bg,uR,BS,ta]
  exact ⟨by omega,cJ _ _ _⟩
theorem Qu (c:List Li):eQ ⟨1,false,24,[.aU], .slice⟩ [ae.ps 5 (lits c)]:=Yzc [c] ▸ trivial
theorem QY (c:List Li):bT Tryz.prog 26 [.aU, .int .i64 0, .os 0 0 1 1] [some (.row [.ps 5 (lits c)] 0)]
  (fun r σ'=>r = .ps 1 (da [c])∧σ'=[none]):=by
 refine bT.vp (rs:=[.tmp 6]) (m:=92) 1000 Tryz.func26 rfl rfl rfl rfl ?_
 simp only [go_sem,Qu]
 (repeat ((with_reducible refine And.intro ?_ ?_); ·omega))
 rw [HF]
 refine ⟨.ps 1 (da [c]),?_,by simp [go_sem,fy],rfl,rfl⟩
 simp only [go_sem,da,aB,aP]
theorem Ri (c:List Li):bT Tryz.prog 26 [.os 1 0 0 1, .int .i64 0, .os 2 0 1 1] [none,some (.row [] 0),some (.row [.ps 5 (lits c)] 0)]
  (fun r σ'=>r = .ps 1 (da [c])∧σ'=[none,none,none]):=by
 refine bT.vp (rs:=[.tmp 6]) (m:=92) 1000 Tryz.func26 rfl rfl rfl rfl ?_
 simp only [go_sem,Qu]
 (repeat ((with_reducible refine And.intro ?_ ?_); ·omega))
 rw [HF]
 refine ⟨.ps 1 (da [c]),?_,by simp [go_sem,fy],rfl,rfl⟩
 simp only [go_sem,da,aB,aP]
def oL (c:List Li):Prop:=∀ (i:Nat) (h:i<c.length),c[i].l.size<999999999∧c[i].r.size<999999999
def cF (g:List Sy):List (List Li)→Int
 | []=>0
 | c :: l=>if bf g c≠0 then bf g c else cF g l
theorem Ygb (g:List Sy) (es:List (List Li)) (c:List Li) (oO:∀ x∈c :: es,oL x) (hl:es.length<1000000):aJ Tryz.prog 106 [.ps 4 (syms g), .ps 1 (da es), .ps 5 (lits c)] (.int .i64 (cF g (c :: es))):=by
 refine aJ.begin (rs:=[.tmp 6]) (m:=24) 1000 Tryz.func106 rfl rfl rfl (by decide) trivial ?_
 simp only [go_sem]
 have vB:(es=[]∨es≠[]):=by cases es<;>simp
 rcases vB with he | ep
 case' inl =>
  have h0:da es=[]:=by rw [he];rfl
  have h1 : [c]=c :: es:=by rw [he]
  simp only [go_sem,h0]
  refine (bT.v RK).mono ?_
  rintro r σ' (⟨rfl,rfl⟩ | ⟨rfl,rfl⟩)
 case' inl.inl =>
  refine aK.go 1000 ?_
  simp only [go_sem]
  refine (bT.v (QY c)).mono ?_
  rintro r σ' ⟨rfl,rfl⟩
  rw [h1]
  refine aK.go 1000 ?_
  simp only [go_sem,nM]
 case' inl.inr =>
  refine aK.go 1000 ?_
  simp only [go_sem]
  refine (bT.v (Ri c)).mono ?_
  rintro r σ' ⟨rfl,rfl⟩
  rw [h1]
  refine aK.go 1000 ?_
  simp only [go_sem,nM]
 case' inr =>
  refine (bT.v (R0 es ep (by omega)).1).mono ?_
  rintro r σ' ⟨rfl,rfl⟩
  refine aK.go 1000 ?_
  simp only [go_sem]
  refine (bT.v (Rr es c ep hl)).mono ?_
  rintro r σ' ⟨rfl,rfl⟩
  refine aK.go 1000 ?_
  simp only [go_sem,nM]
 all_goals
  obtain ⟨L,hL⟩:∃ L,c :: es=L:=⟨_,rfl⟩
  have hlen:es.length+1=L.length:=by rw [← hL];rfl
  have jI:L.length<2000000:=by omega
  rw [hL,hlen]
  rw [hL] at oO
  refine aK.dc (ι:={i:Nat // i≤L.length∧cF g (L.drop i)=cF g L}) 1000 (fun i=>f_ 27 [(0, .ps 4 (syms g)),(6, .int .i64 0),(14, .ps 1 (da L)),(15, .int .i64 L.length),(16, .int .i64 i.1)]) (fun _=>[]) (fun i=>L.length - i.1) ⟨0,by simp⟩ ?_ (fun _=>av _) ?_
  ·simp only [go_sem,dK,fy]
  ·rintro ⟨i,hi,aQ⟩
   by_cases bG:(i:Int)<L.length
   ·have aZ:i<L.length:=by omega
    have hd:cF g (L.drop i)=if bf g L[i]≠0 then bf g L[i] else cF g (L.drop (i+1)):=by
     rw [ao aZ];rfl
    simp only [go_sem,bG,nM,Ae aZ]
    (repeat ((with_reducible refine And.intro ?_ ?_); ·omega))
    refine aq.bV [] (Fu g L[i] (oO _ (aE aZ))) (cJ _ _ _) (by simp [go_sem,dK,cz]) ?_;simp only [bP,bY,bX,if_true];refine aK.go 1000 ?_
    by_cases c0:bf g L[i]=0
    ·simp only [go_sem,c0]
     refine ⟨⟨i+1,aZ,by rw [← aQ,hd,if_neg (by simp [c0])]⟩,?_,by simp only;omega⟩
     simp only [go_sem,dK,fy]
     rw [eC (by omega)];rfl
    ·simp only [go_sem,c0]
     refine aK.go 1000 ?_
     rw [hd,if_pos c0] at aQ
     simp only [go_sem,aQ]
   ·have:i=L.length:=by omega
    subst this
    rw [aV] at aQ
    simp only [go_sem,bG]
    refine aK.go 1000 ?_
    simp only [go_sem,← aQ,cF]
@[go_sem] theorem Yrb {π:Nat→Nat} {b sz:Nat} {l:List ae}:dL π (jo b sz l)=jo (π b) sz l:=by cases l<;>rfl
@[go_sem] theorem sP {n b sz:Nat} {l:List ae} (h:b<n):ae.low n (jo b sz l)=True:=eq_true (Bz h sz l)
@[go_sem] theorem Yyy {n:Nat} {l:List ae} {r:ai}:bw n (e9 l :: r)=(bz n l∧bw n r):=by
 cases l with
 | nil=>simp [e9,bw,jw,bz]
 | cons x l=>rfl
@[go_sem] theorem Il {π:Nat→Nat} {σ r:ai} {i:Nat} {l:List ae} (h:bz 0 l):gE π σ i (e9 l :: r)=((l=[]∨bH σ (π i)=e9 l)∧gE π σ (i+1) r):=by
 cases l with
 | nil=>simp [e9,H3]
 | cons x l=>rw [e9,HY];simp only [dI,cI h];simp
def within (a b:Tm):Bool:=a.vars.all fun v=>decide (v∈b.vars)
def dP (u:Un):Bool:=decide (u.l.head=0) || !within u.r u.l
def zK (t:Tm):Prop:=t.fit∧t.size<99999999
def JO (c:List Li):Prop:=∀ l∈c,zK l.l∧zK l.r
theorem YB (σ:ai) (b:Nat) (vs:List Int) (hb:bH σ b=some (.var [.ps 1 (ints vs)])) (v:Int) (hs:bw σ.length σ) (hl:vs.length<2 ^ 62) :
  aq Tryz.prog (.fn 164 [] [.ptr b 0]) [.int .i64 v] σ (fun r σ'=>r = .bool (!decide (v∈vs))∧σ' = σ):=by
 refine aq.begin (rs:=[.tmp 3]) (m:=6) 1000 Tryz.func164 rfl rfl rfl rfl rfl ?_
 simp only [go_sem,hb]
 refine aq.bV [] (HJ vs v hl) (cJ _ _ _) (by simp [go_sem,dB]) ?_
 rw [jj];simp only [ite_self]
 refine aK.go 1000 ?_
 simp only [go_sem]
 rw [fY];exact ⟨σ,fN σ,ah _,hs,trivial,rfl,rfl⟩
theorem Y9 (a b:Tm) (ha:zK a) (hb:zK b):aJ Tryz.prog 139 [a.aO,b.aO] (.bool (within a b)):=by
 refine aJ.begin (rs:=[.tmp 4]) (m:=11) 1000 Tryz.func139 rfl rfl rfl (by decide) trivial ?_
 have xH:=Lm a
 have hvb:=Lm b
 have h1:=ha.2
 have h2:=hb.2
 simp only [go_sem,dh]
 refine aq.bV [] (Uj b hb.1 (by omega)) (by (try simp only [dh]);exact cJ _ _ _) (by simp [go_sem,dH,bR]) ?_;rw [jj];simp only [ite_self];refine aK.go 1000 ?_
 simp only [go_sem]
 refine aq.bV [] (Uj a ha.1 (by omega)) (by (try simp only [dh]);exact cJ _ _ _) (by simp [go_sem,dH,bR]) ?_;rw [jj];simp only [ite_self];refine aK.go 1000 ?_
 simp only [go_sem]
 refine (Zmw _ _ (fun v=>!decide (v∈b.vars)) a.vars (by omega) ?_ ?_ (fun i h=>YB _ 2 b.vars rfl _ ?_ (by omega))).mono ?_
 ·simp [go_sem,bR,dB]
 ·simp [go_sem]
 ·simp [go_sem,bR,dB]
 rintro r σ' ⟨rfl,rfl⟩
 refine aK.go 1000 ?_
 simp only [go_sem]
 simp [within,List.all_eq_not_any_not]
theorem Zg (u:Un) (hl:zK u.l) (hr:zK u.r):aJ Tryz.prog 138 [u.aO] (.bool (dP u)):=by
 refine aJ.begin (rs:=[.tmp 2]) (m:=14) 1000 Tryz.func138 rfl rfl rfl (by decide) trivial ?_
 by_cases h0:u.l.head=0
 ·simp only [go_sem,J6,h0,dP]
 ·simp only [go_sem,J6,h0,dP]
  refine aq.bV [] (Y9 u.r u.l hr hl) (by (try simp only [dh]);exact cJ _ _ _) (by simp [go_sem,dH,bR]) ?_;simp only [bP,bY,bX,if_true];refine aK.go 1000 ?_
  simp only [go_sem]
theorem Zuq (σ:ai) (c:ae) (hs:bw σ.length σ) (hc:c.low σ.length) :
  aq Tryz.prog (.fn 161 [] []) [.aU,c] σ (fun r σ'=>r = .int .i64 (-1)∧σ' = σ):=by
 refine aq.begin (rs:=[.tmp 4]) (m:=17) 1000 Tryz.func161 rfl rfl rfl rfl rfl ?_
 simp only [go_sem]
 refine aK.dc (ι:=Unit) 1000 (fun _=>f_ 19 [(0, .aU),(1,c),(7, .int .i64 0),(8, .int .i64 0)]) (fun _=>σ) (fun _=>0) () ?_ (fun _=>ah _) ?_
 ·simp only [go_sem,hc,hs]
  exact fN σ
 ·rintro ⟨⟩
  simp only [go_sem]
  refine aK.go 1000 ?_
  simp only [go_sem]
  rw [fY];exact ⟨σ,fN σ,ah _,hs,trivial,rfl,rfl⟩
theorem Zmt (σ:ai) (c:ae) (hs:bw σ.length σ) (hc:c.low σ.length) :
  aq Tryz.prog (.fn 137 [] []) [.aU,c] σ (fun r σ'=>r = .aU∧σ' = σ):=by
 refine aq.begin (rs:=[.tmp 4]) (m:=40) 1000 Tryz.func137 rfl rfl rfl rfl rfl ?_
 simp only [go_sem]
 refine (Zuq σ c hs hc).mono ?_
 rintro r σ' ⟨rfl,rfl⟩
 refine aK.go 1000 ?_
 simp only [go_sem]
 rw [fY];exact ⟨σ',fN σ',ah _,hs,trivial,rfl,rfl⟩
def wa (c:List Li) (i:Nat):List Un :=
 match c with
 | [e]=>if e.neg then [] else [⟨e.l,e.r,(i:Int)⟩,⟨e.r,e.l,(i:Int)⟩]
 | _=>[]
def lx:List (List Li)→Nat→List Un
 | [],_=>[]
 | c :: l,i=>wa c i++lx l (i+1)
def cQ (es:List (List Li)):List Un:=(lx es 0).filter fun u=>!dP u
theorem Yqq (c:List Li) (i:Nat):(wa c i).length≤2:=by
 unfold wa;split
 ·split<;>simp
 ·simp
theorem Yzf {c:List Li} {i:Nat} (h:JO c):∀ u∈wa c i,zK u.l∧zK u.r:=by
 intro u hu
 unfold wa at hu
 split at hu
 ·rename_i e
  have he:=h e (by simp)
  split at hu
  ·cases hu
  ·rcases aR.1 hu with rfl | hu
   ·exact he
   ·rcases aR.1 hu with rfl | hu
    ·exact ⟨he.2,he.1⟩
    ·cases hu
 ·cases hu
theorem PJ:∀ (l:List (List Li)) (i:Nat),(∀ c∈l,JO c)→∀ u∈lx l i,zK u.l∧zK u.r
 | [],_,_,u,hu=>by simp [lx] at hu
 | c :: l,i,h,u,hu=>by
  rw [lx,aW] at hu
  rcases hu with hu | hu
  ·exact Yzf (h c (by simp)) u hu
  ·exact PJ l (i+1) (fun c hc=>h c (by simp [hc])) u hu
theorem ZP (es:List (List Li)) (hl:es.length<1000000) (ho:∀ c∈es,JO c):aJ Tryz.prog 107 [.ps 1 (da es)] (.ps 5 (jn (cQ es))):=by
 refine aJ.begin (rs:=[.tmp 2]) (m:=48) 1000 Tryz.func107 rfl rfl rfl (by decide) (sm _) ?_
 simp only [go_sem,nM]
 refine aK.im (ι:={p:Nat×List Un // p.1≤es.length∧p.2++lx (es.drop p.1) p.1=lx es 0∧p.2.length≤2*p.1}) 1000 (fun p=>f_ 49 [(2, .aU),(3,jo 0 5 (jn p.1.2)),(6, .ps 1 (da es)),(7, .int .i64 es.length),(8, .int .i64 p.1.1)]) (fun p=>[e9 (jn p.1.2)]) (fun p=>es.length - p.1.1) ⟨(0,[]),by simp⟩ [] ?_ (fun _=>by simp) ?_
 ·refine jb rfl ?_
  simp only [go_sem,jn,aP,uW,tY,fy,cI (fy _)]
 ·rintro ⟨⟨i,L⟩,hi,aQ,hL⟩
  simp only at hi aQ hL
  by_cases bG:(i:Int)<es.length
  ·have aZ:i<es.length:=by omega
   have hd:lx (es.drop i) i=wa es[i] i++lx (es.drop (i+1)) (i+1):=by
    rw [ao aZ];rfl
   rw [hd] at aQ
   have hw:IntKind.i64.wrap ((i:Int)+1)=((i+1:Nat):Int):=by rw [eC (by omega)];omega
   have yq:=Ae aZ
   obtain ⟨c,hc⟩:∃ c,es[i]=c:=⟨_,rfl⟩
   simp only [hc] at aQ yq
   have same:wa c i=[]→L++lx (es.drop (i+1)) (i+1)=lx es 0:=fun h=>by rw [← aQ,h];rfl
   by_cases c1:(c.length:Int)=1
   ·obtain ⟨e,rfl⟩:=List.length_eq_one_iff.1 (show c.length=1 by omega)
    cases ff:e.neg with
    | true =>
     simp only [go_sem,bG,nM,yq,lits,aB,aP,kL,ff,hw]
     refine ⟨by omega,⟨(i+1,L),by simp only;omega,same (by simp [wa,ff]),by simp only;omega⟩,[],jb rfl ?_,by simp only;omega⟩
     simp only [go_sem,fy,sm,cI (fy _)]
    | false =>
     simp only [go_sem,bG,nM,yq,lits,aB,aP,kL,ff,hw]
     refine ⟨by omega,?_⟩
     refine aK.draw [⟨none,[],[1]⟩, .no, .no, .no, .no, .no, .no, .no, .no, .no, .no, .no, .no, .no, .no, .no, .no, .no, .no, .no, .no,⟨some 1,[1],[]⟩,⟨some 2,[0,2],[]⟩] 1 3 mixed rfl rfl (by decide) ?_
     simp only [go_sem,dC,kL,LN,eQ,aR,dR,forall_eq_or_imp,forall_eq,eo,sO]
     refine ⟨by omega,?_⟩
     refine aK.go 1000 ?_
     simp only [go_sem]
     have hu:wa [e] i=[⟨e.l,e.r,(i:Int)⟩,⟨e.r,e.l,(i:Int)⟩]:=by simp [wa,ff]
     rw [hu] at aQ
     refine ⟨⟨(i+1,L++[⟨e.l,e.r,(i:Int)⟩,⟨e.r,e.l,(i:Int)⟩]),by simp only;omega,by rw [← aQ];simp,by simp only [ay,ax,aS];omega⟩,[(0,2),(2,0)],jb rfl ?_,by simp only;omega⟩
     have e1:jn (L++[⟨e.l,e.r,(i:Int)⟩,⟨e.r,e.l,(i:Int)⟩])=jn L++[Un.aO ⟨e.l,e.r,(i:Int)⟩,Un.aO ⟨e.r,e.l,(i:Int)⟩]:=by simp [jn]
     have lw:bz 0 (jn (L++[⟨e.l,e.r,(i:Int)⟩,⟨e.r,e.l,(i:Int)⟩])):=sm _
     rw [e1] at lw ⊢
     rw [wo (by simp),wq (by simp)]
     simp only [go_sem,fy,sm,cI (fy _),cI lw,iC (av 1) lw,sO]
     rw [hw];exact ⟨rfl,rfl⟩
   ·have c2:wa c i=[]:=by
     unfold wa;split
     ·simp at c1
     ·rfl
    simp only [go_sem,bG,nM,yq,gj,c1,hw]
    refine ⟨by omega,⟨(i+1,L),by simp only;omega,same c2,by simp only;omega⟩,[],jb rfl ?_,by simp only;omega⟩
    simp only [go_sem,fy,sm,cI (fy _)]
  ·have dV:i=es.length:=by omega
   subst dV
   rw [aV,lx,bq] at aQ
   have yI:cQ es=L.filter fun u=>!dP u:=by rw [cQ,← aQ]
   have ju:=PJ es 0 ho
   rw [← aQ] at ju
   simp only [go_sem,bG]
   refine aK.go 1000 ?_
   by_cases zu:L=[]
   ·simp only [go_sem,zu,jn,aP,uW,tY]
    refine (Zmt _ _ (by simp [go_sem]) (by simp [go_sem])).mono ?_
    rintro r σ' ⟨rfl,rfl⟩
    refine aK.go 1000 ?_
    rw [yI,zu]
    simp only [go_sem,List.filter_nil,aP]
   ·have ep:jn L≠[]:=by simp [jn,zu]
    rw [CF ep,BA ep,sO]
    simp only [go_sem]
    refine (Ztj L dP 138 (by omega) (fun u hu=>Zg u (ju u hu).1 (ju u hu).2) zu).mono ?_
    rintro r σ' ⟨rfl,rfl⟩
    refine aK.go 1000 ?_
    rw [yI]
    simp only [go_sem,sO]
    rw [bd (by rw [sO];exact ah _)]
    exact cJ _ _ _
end Go.Proofs
namespace Go.c8
open Go
theorem gp.rv {w:World} {M:Nat→Nat→Prop} {β β':Env} {π:Nat→Nat} {n:Nat} {L:Loc} {cg:bE} (h:gp w M β' L cg) (hl:cg.low n) (hβ:∀ b,b<n→β (π b) = β' b):gp w M β L (dI π cg):=by
 cases cg with
 | var cs =>
  obtain ⟨c,e,h1,h0,h2,h3⟩:=h
  exact ⟨c,e,h1,h0,by rw [jL];exact h2,fun k hk=>by rw [jL] at hk;rw [lS];exact (h3 k hk).rv (ji hl k) hβ⟩
 | row es fz =>
  obtain ⟨c,e,h1,h2,h3,h4,h5⟩:=h
  exact ⟨c,e,h1,h2,by rw [jL];exact h3,fun i hi=>by rw [jL] at hi;rw [lS,Bp,jL];exact h4 i hi,fun i j hi hj=>by
   rw [jL] at hi;rw [lS,Bp,lS];exact (h5 i j hi hj).rv (ji (Ef (ji hl i)) j) hβ⟩
 | map ks vs f =>
  obtain ⟨es,clk,h1,h2,h3,h4,h5,h6⟩:=h
  exact ⟨es,clk,h1,by rw [jL];exact h2,by rw [jL,jL];exact h3,fun k hk=>by rw [jL] at hk;rw [lS];exact (h4 k hk).rv (ji hl.1 k) hβ,fun k hk=>by rw [jL] at hk;rw [lS];exact (h5 k hk).rv (ji hl.2 k) hβ,h6⟩
 | iter s p=>exact h
 | lu ks vs seen =>
  obtain ⟨m,es,clk,h1,h2,h3,h4,h5,h6,h7,h8,h9⟩:=h
  exact ⟨m,es,clk,h1,h2,h3,by rw [jL];exact h4,by rw [jL,jL];exact h5,fun k hk=>by rw [jL] at hk;rw [lS];exact (h6 k hk).rv (ji hl.1 k) hβ,fun k hk=>by rw [jL] at hk;rw [lS];exact (h7 k hk).rv (ji hl.2 k) hβ,h8,fun i hi=>by rw [jL];exact h9 i hi⟩
 | loop r =>
  obtain ⟨t,d,f,h1,h2,h3⟩:=h
  exact ⟨t,d,f,h1,by simp only [jL];exact h2,fun k hk=>by simp only [jL] at hk;rw [lS];exact (h3 k hk).rv (ji hl k) hβ⟩
def nj (ι:Nat→Nat) (n m b:Nat):Nat:=if b<n then ι b else b - n+m
def fv (ι π:Nat→Nat):Nat→ai→ai→ai
 | _,[],σ=>σ
 | i,x :: r,σ=>fv ι π (i+1) r (σ.set (ι i) (x.map (dI π)))
def jX (ι:Nat→Nat) (n:Nat) (Z' σ:ai):ai:=fv ι (nj ι n σ.length) 0 (Z'.take n) σ++(Z'.drop n).map (Option.map (dI (nj ι n σ.length)))
section
variable {ι π:Nat→Nat} {n m:Nat}
theorem D6:∀ (r σ:ai) (i:Nat),(fv ι π i r σ).length = σ.length
 | [],_,_=>rfl
 | x :: r,σ,i=>by rw [fv,D6 r _ (i+1),bg]
theorem Kr:∀ (r σ:ai) (i c:Nat),(∀ b,b<r.length→ι (i+b)≠c)→(fv ι π i r σ)[c]? = σ[c]?
 | [],_,_,_,_=>rfl
 | x :: r,σ,i,c,h=>by
  rw [fv,Kr r _ (i+1) c (fun b hb=>by have:=h (b+1) (by simpa using hb);rwa [show i+(b+1)=i+1+b by omega] at this),bM (by simpa using h 0 (by simp))]
theorem Tx:∀ (r σ:ai) (i b:Nat),(∀ a a',a<r.length→a'<r.length→ι (i+a) = ι (i+a')→a=a')→b<r.length→ι (i+b) < σ.length→(fv ι π i r σ)[ι (i+b)]? = (r[b]?).map (Option.map (dI π))
 | [],_,_,b,_,hb,_=>absurd hb (by simp)
 | x :: r,σ,i,0,hinj,_,bG=>by
  rw [fv,Kr]
  ·simp only [ck] at bG ⊢
   rw [fX bG];rfl
  ·intro a ha e
   have:=hinj (a+1) 0 (by simpa using ha) (by simp) (by rw [show i+(a+1)=i+1+a by omega];exact e)
   omega
 | x :: r,σ,i,b+1,hinj,hb,bG=>by
  have e:i+(b+1)=i+1+b:=by omega
  rw [e] at bG ⊢
  rw [fv,Tx r _ (i+1) b (fun a a' ha ha' h=>by
   have:=hinj (a+1) (a'+1) (by simpa using ha) (by simpa using ha') (by rw [show i+(a+1)=i+1+a by omega,show i+(a'+1)=i+1+a' by omega];exact h)
   omega) (by simpa using hb) (by rw [bg];exact bG)]
  simp
theorem El {Z' σ:ai} (h:n≤Z'.length):(jX ι n Z' σ).length = σ.length+(Z'.length - n):=by simp [jX,D6]
variable (tJ:∀ b b',b<n→b'<n→ι b = ι b'→b=b') (hb:∀ b,b<n→ι b<m)
include tJ hb
theorem Cr {Z' σ:ai} (hm : σ.length=m) (h:n≤Z'.length) {b:Nat} (EE:b<Z'.length):(jX ι n Z' σ)[nj ι n m b]? = (Z'[b]?).map (Option.map (dI (nj ι n m))):=by
 unfold jX nj
 subst hm
 by_cases mA:b<n
 ·rw [if_pos mA,cn (by rw [D6];exact hb b mA)]
  have:=Tx (ι:=ι) (π:=nj ι n σ.length) (Z'.take n) σ 0 b (fun a a' ha ha' e=>tJ a a' (by simp at ha;omega) (by simp at ha';omega) (by simpa using e)) (by simp;omega) (by simpa using hb b mA)
  rw [bp] at this
  rw [show (fun b=>if b<n then ι b else b - n + σ.length)=nj ι n σ.length from rfl,this,fj,if_pos mA]
 ·rw [if_neg mA,bK (by rw [D6];omega),D6,show b - n + σ.length - σ.length=b - n by omega,cf,dM,show n+(b - n)=b by omega]
omit tJ hb in
theorem LJ {Z' σ:ai} {c:Nat} (hc:c < σ.length) (h:∀ b,b<n→ι b≠c):(jX ι n Z' σ)[c]? = σ[c]?:=by
 unfold jX
 rw [cn (by rw [D6];exact hc),Kr]
 intro b hb
 rw [bp]
 exact h b (by simp at hb;omega)
end
section
variable {P:Program}
theorem aq.many {F:Frame→List Frame→Sem Next→World→Value→World→Prop} {f:ae} {args:List ae} {K:ae→ai→Prop} {Z σ:ai} (ι:Nat→Nat) (tJ:∀ b b',b<Z.length→b'<Z.length→ι b = ι b'→b=b') (hb:∀ b,b<Z.length→ι b < σ.length)
  (vT:∀ c x,σ[c]? = some (some x)↔∃ b y,b<Z.length∧ι b=c∧Z[b]? = some (some y)∧x=dI ι y) (hf:f.low Z.length) (ha:bz Z.length args) (hs:bw Z.length Z)
  (h:dv P F f args Z (fun r Z'=>Z.length≤Z'.length∧bw Z'.length Z'∧r.low Z'.length∧K (dL (nj ι Z.length σ.length) r) (jX ι Z.length Z' σ))):dv P F (dL ι f) (d_ ι args) σ K:=by
 intro X base β w vf vs h1 nP h2 h3 fr cs h4
 rw [jL] at h2 h3
 generalize hn:Z.length=n at *
 have vN:∀ b y,Z[b]? = some (some y)→b<n∧σ[ι b]? = some (some (dI ι y)):=fun b y hz=>by
  have bG:b<n:=by rw [← hn];exact (aI.1 hz).1
  exact ⟨bG,(vT _ _).2 ⟨b,y,bG,rfl,hz,rfl⟩⟩
 have he:∀ b,b<n→jY β ι n b = β (ι b):=fun b hb=>if_pos hb
 have hm:∀ g o,ja σ β g o↔ja Z (jY β ι n) g o:=fun g o=>by
  constructor
  ·rintro ⟨c,x,L,m1,m2,m3,m4⟩
   obtain ⟨b,y,q1,rfl,q3,rfl⟩:=(vT c x).1 m1
   exact ⟨b,y,L,q3,by rw [he b q1];exact m2,m3,Cz.mp m4⟩
  ·rintro ⟨b,y,L,m1,m2,m3,m4⟩
   obtain ⟨q1,q2⟩:=vN b y m1
   exact ⟨ι b,_,L,q2,by rw [← he b q1];exact m2,m3,Cz.mpr m4⟩
 have hM:MT X Z (jY β ι n)=MT X σ β:=funext fun g=>funext fun o=>propext (or_congr Iff.rfl (hm g o).symm)
 have hr:cH X base Z (jY β ι n) w:=by
  refine ⟨fun b hb=>if_neg (by omega),fun b x EE=>?_,fun b b' x y L L' e1 e2 e3 e4 e5=>?_,h1.size,h1.qd,h1.gl⟩
  ·obtain ⟨q1,q2⟩:=vN b x EE
   obtain ⟨L,l1,l2,l3,l4⟩:=h1.cg _ _ q2
   refine ⟨L,by rw [he b q1];exact l1,l2,l3,?_⟩
   rw [hM]
   exact l4.dL (qL hs b x EE)
  ·obtain ⟨q1,q2⟩:=vN b x e1
   obtain ⟨q3,q4⟩:=vN b' y e2
   rw [he b q1] at e3
   rw [he b' q3] at e4
   exact tJ b b' q1 q3 (h1.inj _ _ _ _ L L' q2 q4 e3 e4 e5)
 have od:bS w (MT X σ β) (jY β ι n) vf f:=bS.dL nP _ rfl hf
 have ha':∀ k,k<args.length→bS w (MT X σ β) (jY β ι n) (vs.getD k undef) (args.getD k .undef):=fun k hk=>by
  have:=h3 k hk
  rw [lS] at this
  exact bS.dL this _ rfl (ji ha k)
 rw [← hM] at od ha'
 obtain ⟨r,Z',β',v,w',⟨q0,q1,q2,q3⟩,g1,g2,g3,g4,g5⟩:=h X base _ w vf vs hr od h2 ha' fr cs h4
 rw [hn] at g3
 generalize EP : σ.length=m at *
 let E6:Env:=fun c=>if c<m then β c else β' (c - m+n)
 have eb:∀ b,E6 (nj ι n m b) = β' b:=fun b=>by
  simp only [E6,nj]
  by_cases mA:b<n
  ·rw [if_pos mA,if_pos (hb b mA),g3.env b mA,he b mA]
  ·rw [if_neg mA,if_neg (by omega),show b - n+m - m+n=b by omega]
 have mU:∀ c x,(jX ι n Z' σ)[c]? = some (some x)→∃ b y,c=nj ι n m b∧Z'[b]? = some (some y)∧x=dI (nj ι n m) y:=fun c x hc=>by
  have bG:=(aI.1 hc).1
  rw [El q0,EP] at bG
  by_cases Jx:c<m
  ·by_cases hex:∃ b,b<n∧ι b=c
   ·obtain ⟨b,mA,rfl⟩:=hex
    have:=Cr (ι:=ι) tJ hb (Z':=Z') EP q0 (b:=b) (by omega)
    rw [show nj ι n m b = ι b from if_pos mA,hc] at this
    obtain ⟨o,h1,h2⟩:=aH.1 this.symm
    obtain ⟨y,rfl,h3⟩:=aH.1 h2
    exact ⟨b,y,(if_pos mA).symm,h1,h3.symm⟩
   ·rw [LJ (by omega) (fun b mA e=>hex ⟨b,mA,e⟩)] at hc
    obtain ⟨b,y,p1,p2,_⟩:=(vT c x).1 hc
    exact absurd ⟨b,p1,p2⟩ hex
  ·have e:nj ι n m (c - m+n)=c:=by unfold nj;rw [if_neg (by omega)];omega
   have:=Cr (ι:=ι) tJ hb (Z':=Z') EP q0 (b:=c - m+n) (by omega)
   rw [e,hc] at this
   obtain ⟨o,h1,h2⟩:=aH.1 this.symm
   obtain ⟨y,rfl,h3⟩:=aH.1 h2
   exact ⟨_,y,e.symm,h1,h3.symm⟩
 have fE:∀ b y,Z'[b]? = some (some y)→(jX ι n Z' σ)[nj ι n m b]? = some (some (dI (nj ι n m) y)):=fun b y EE=>by
  rw [Cr tJ hb EP q0 (aI.1 EE).1,EE];rfl
 have AQ:∀ g o,ja (jX ι n Z' σ) E6 g o↔ja Z' β' g o:=fun g o=>by
  constructor
  ·rintro ⟨c,x,L,m1,m2,m3,m4⟩
   obtain ⟨b,y,rfl,p2,rfl⟩:=mU c x m1
   exact ⟨b,y,L,p2,by rw [← eb];exact m2,m3,Cz.mp m4⟩
  ·rintro ⟨b,y,L,m1,m2,m3,m4⟩
   exact ⟨_,_,L,fE b y m1,by rw [eb];exact m2,m3,Cz.mpr m4⟩
 have Gm:MT X Z' β'=MT X (jX ι n Z' σ) E6:=funext fun g=>funext fun o=>propext (or_congr Iff.rfl (AQ g o).symm)
 refine ⟨_,jX ι n Z' σ,E6,v,w',q3,?_,?_,?_,by rw [El q0,EP];omega,g5⟩
 ·refine ⟨fun c hc=>?_,fun c x hc=>?_,fun c c' x y L L' e1 e2 e3 e4 e5=>?_,g1.size,g1.qd,g1.gl⟩
  ·rw [El q0,EP] at hc
   simp only [E6]
   rw [if_neg (by omega)]
   exact g1.nO _ (by omega)
  ·obtain ⟨b,y,rfl,p2,rfl⟩:=mU c x hc
   obtain ⟨L,k1,k2,k3,k4⟩:=g1.cg b y p2
   refine ⟨L,by rw [eb];exact k1,k2,k3,?_⟩
   rw [← Gm]
   exact k4.rv (π:=nj ι n m) (qL q1 b y p2) fun b _=>eb b
  ·obtain ⟨b,u,rfl,p2,rfl⟩:=mU c x e1
   obtain ⟨b',u',rfl,p2',rfl⟩:=mU c' y e2
   rw [eb] at e3 e4
   rw [g1.inj b b' u u' L L' p2 p2' e3 e4 e5]
 ·rw [← Gm]
  exact g2.rv (π:=nj ι n m) q2 fun b _=>eb b
 ·exact ⟨g3.os,g3.tape,g3.output,g3.size,fun g o x hc hn=>g3.cell g o x hc fun hx=>hn ((hm g o).2 hx),fun g hg hn=>g3.block g hg fun o hx=>hn o ((hm g o).2 hx),fun g o hx=>(g3.iL g o ((AQ g o).1 hx)).imp (hm g o).2 id,fun c hc=>if_pos hc⟩
theorem aq.xZ {F:Frame→List Frame→Sem Next→World→Value→World→Prop} {f:ae} {args:List ae} {K:ae→ai→Prop} {Z σ:ai} (ι:Nat→Nat) (tJ:∀ b b',b<Z.length→b'<Z.length→ι b = ι b'→b=b') (hb:∀ b,b<Z.length→ι b < σ.length)
  (vT:∀ b,b<Z.length→∃ o,Z[b]? = some o∧σ[ι b]? = some (o.map (dI ι))) (hf:f.low Z.length) (ha:bz Z.length args) (hs:bw Z.length Z)
  (h:dv P F f args Z (fun r Z'=>Z.length≤Z'.length∧bw Z'.length Z'∧r.low Z'.length∧K (dL (nj ι Z.length σ.length) r) (jX ι Z.length Z' σ))):dv P F (dL ι f) (d_ ι args) σ K:=by
 let vis:Nat→Bool:=fun c=>(List.range Z.length).any fun b=>ι b==c
 have uF:∀ c,vis c=true↔∃ b,b<Z.length∧ι b=c:=fun c=>by simp [vis]
 refine aq.frame vis (K':=fun r iZ=>∃ Z',Z.length≤Z'.length∧iZ=jX ι Z.length Z' (eJ vis 0 σ)∧K r (jX ι Z.length Z' σ)) ?_ ?_
 ·have hl:(eJ vis 0 σ).length = σ.length:=rV _ _ _
  refine aq.many ι tJ (by rw [hl];exact hb) (fun c x=>?_) hf ha hs (h.mono ?_)
  ·rw [wj,bp]
   constructor
   ·intro hx
    obtain ⟨o,h1,h2⟩:=aH.1 hx
    split at h2
    ·rename_i hv
     obtain ⟨b,mA,rfl⟩:=(uF c).1 hv
     obtain ⟨z,rS,rT⟩:=vT b mA
     rw [h1] at rT
     subst h2
     obtain ⟨y,rfl,e⟩:=aH.1 (aN rT).symm
     exact ⟨b,y,mA,rfl,rS,e.symm⟩
    ·cases h2
   ·rintro ⟨b,y,mA,rfl,hz,rfl⟩
    obtain ⟨z,rS,rT⟩:=vT b mA
    rw [hz] at rS
    cases rS
    rw [rT,bu,if_pos ((uF _).2 ⟨b,mA,rfl⟩)];rfl
  ·rintro r Z' ⟨q0,q1,q2,q3⟩
   rw [hl]
   exact ⟨q0,q1,q2,Z',q0,rfl,q3⟩
 ·rintro r iZ ⟨Z',q0,rfl,q3⟩
  have hl:(eJ vis 0 σ).length = σ.length:=rV _ _ _
  refine ⟨fun c hc hv=>?_,?_⟩
  ·rw [LJ (by rw [hl];exact hc) (fun b mA e=>by rw [(uF c).2 ⟨b,mA,e⟩] at hv;cases hv),wj,bp,aA hc]
   simp [hv]
  ·have e:hO vis 0 (jX ι Z.length Z' (eJ vis 0 σ)) σ=jX ι Z.length Z' σ:=by
    refine bQ fun c=>?_
    rw [Ei vis _ σ 0 c (by rw [El q0,hl];omega),bp]
    by_cases hc:c < σ.length
    ·cases hv:vis c with
     | false =>
      rw [if_pos ⟨hc,rfl⟩,LJ hc (fun b mA e=>by rw [(uF c).2 ⟨b,mA,e⟩] at hv;cases hv)]
     | true =>
      rw [if_neg (by simp)]
      obtain ⟨b,mA,rfl⟩:=(uF c).1 hv
      have e1:=Cr (ι:=ι) tJ (m:=(eJ vis 0 σ).length) (fun b mA=>by rw [hl];exact hb b mA) (Z':=Z') rfl q0 (b:=b) (by omega)
      have e2:=Cr (ι:=ι) tJ (m:=σ.length) hb (Z':=Z') rfl q0 (b:=b) (by omega)
      rw [hl] at e1
      rw [show nj ι Z.length σ.length b = ι b from if_pos mA] at e1 e2
      rw [e1,e2]
    ·rw [if_neg (fun h=>hc h.1)]
     by_cases lq:c < σ.length+(Z'.length - Z.length)
     ·have e0:nj ι Z.length σ.length (c - σ.length+Z.length)=c:=by unfold nj;rw [if_neg (by omega)];omega
      have e1:=Cr (ι:=ι) tJ (m:=(eJ vis 0 σ).length) (fun b mA=>by rw [hl];exact hb b mA) (Z':=Z') rfl q0 (b:=c - σ.length+Z.length) (by omega)
      have e2:=Cr (ι:=ι) tJ (m:=σ.length) hb (Z':=Z') rfl q0 (b:=c - σ.length+Z.length) (by omega)
      rw [hl] at e1
      rw [e0] at e1 e2
      rw [e1,e2]
     ·rw [bt (by rw [El q0,hl];omega),bt (by rw [El q0];omega)]
   rw [e];exact q3
end
section
variable {P:Program} {lo:Ctx} {Q:cb→St→Prop} {ops:Array Oper} {fs:List Fp} {n0 N:Nat} {TM:Nat→List ae} {SS:Nat→ai} {X:Nat→Nat→Prop} {base mb:Nat} {D:List Deferred}
def kS (P:Program) (lo:Ctx) (X:Nat→Nat→Prop) (base mb:Nat) (D:List Deferred) (b:Frame) (k:List Item) (cs:List Frame) (R:ai→Env→World→Machine→Prop) (z:Option Nat) (zR:List ae) (xN σ:ai) (β:Env) (w:World) (m:Machine):Prop :=
 (z=none∧∃ β' a' w',Rel X base mb D ⟨zR,xN⟩ β' a' w'∧Ext lo.n σ β w xN β' w'∧Steps P m (lone (b.atR a' k) cs w'))∨z≠none∧R σ β w m
theorem kS.of {R:ai→Env→World→Machine→Prop} (hR:∀ {σ dk:ai} {β eX:Env} {w w1:World} {m m1:Machine},Ext lo.n σ β w dk eX w1→Steps P m m1→R dk eX w1 m1→R σ β w m) {b:Frame} {k:List Item} {cs:List Frame} {z:Option Nat} {zR:List ae} {xN σ σ':ai} {β eX:Env} {w w1:World} {m m1:Machine} (he:Ext lo.n σ β w σ' eX w1) (hs:Steps P m m1) (h:kS P lo X base mb D b k cs R z zR xN σ' eX w1 m1) :
  kS P lo X base mb D b k cs R z zR xN σ β w m:=by
 rcases h with ⟨h0,β',a',w',h1,h2,h3⟩ | ⟨hz,h⟩
 ·exact .inl ⟨h0,β',a',w',h1,he.trans h2,hs.trans h3⟩
 ·exact .inr ⟨hz,hR he hs h⟩
theorem Yfi {R:ai→Env→World→Machine→Prop} (hR:∀ {σ dk:ai} {β eX:Env} {w w1:World} {m m1:Machine},Ext lo.n σ β w dk eX w1→Steps P m m1→R dk eX w1 m1→R σ β w m) {z:Option Nat} {dd sk:Nat→Prop} (hz:∀ i0,z=some i0→i0<ops.size∧dd i0) (hdd:∀ j,dd j→∃ i0,z=some i0∧(j=i0∨km ops i0 j)) (hk:sM ops fs n0 N) (iU:lo.n≤n0) (hN:n0≤N)
  (hT:∀ i o,ops[i]? = some o→((p5 P ops (dw fs i) o (TM i) (SS i) (TM (i+1)) (SS (i+1))∨xO P ops.size o (TM i) SS i (TM (i+1))∧(dw fs i).wr=[])∨(dd i∨sk i)∧(∃ v,TM (i+1)=put (TM i) o.dst v)∧SS (i+1)=SS i)) (Di:∀ i,i≤ops.size→(TM i).length=(TM 0).length) (GV:∀ i,i≤ops.size→(SS i).length=N)
  (b:Frame) (k:List Item) (cs:List Frame)
  (hP:∀ i o,z=some i→ops[i]? = some o→∀ (tm:List ae) (σ:ai) (β:Env) (a:Act) (w:World) (rest:List Nat) (listed:Array Bool),listed.size=ops.size →
   fV ops.size (fun i l=>∃ o,ops[i]? = some o∧o.dst=some l) (fun i l=>(TM i).getD l .undef) (fun j=>listed.getD j false=true) (fun l=>tm.getD l .undef) →
   fV ops.size (fun i c=>c∈(dw fs i).wr) (fun i c=>(SS i)[c]?) (fun j=>listed.getD j false=true) (fun c=>σ[c]?) →
   (∀ i j,km ops i j→listed.getD j false=true→listed.getD i false=true)→listed.getD i false=false→(∀ j,km ops j i→listed.getD j false=true)→tm.length=(TM 0).length→σ.length=N→Rel X base mb D ⟨tm,σ⟩ β a w →
   (∃ fuel t,rest=Region.linearise.go .any ops fuel t (listed.setIfInBounds i true) []∧nA (listed.setIfInBounds i true)≤fuel)→R σ β w (lone (b.atR a (.inRegion ops (i :: rest) :: k)) cs w)) :
  ∀ (fuel t:Nat) (listed:Array Bool) (tm:List ae) (σ:ai) (β:Env) (a:Act) (w:World),listed.size=ops.size→nA listed≤fuel →
   (∀ i j,km ops i j→listed.getD j false=true→listed.getD i false=true) →
   fV ops.size (fun i l=>∃ o,ops[i]? = some o∧o.dst=some l) (fun i l=>(TM i).getD l .undef) (fun j=>listed.getD j false=true) (fun l=>tm.getD l .undef) →
   fV ops.size (fun i c=>c∈(dw fs i).wr) (fun i c=>(SS i)[c]?) (fun j=>listed.getD j false=true) (fun c=>σ[c]?) →
   tm.length=(TM 0).length→σ.length=N→(∀ i c,i<ops.size→listed.getD i false=false→(dw fs i).nm=some c→β c=none)→Rel X base mb D ⟨tm,σ⟩ β a w→(∀ j,listed.getD j false=true→¬ dd j)→(∀ j,sk j→j<ops.size→listed.getD j false=true) →
   kS P lo X base mb D b k cs R z (TM ops.size) (SS ops.size) σ β w (lone (b.atR a (.inRegion ops (Region.linearise.go .any ops fuel t listed []) :: k)) cs w):=by
 have C0:∀ i l,i<ops.size→¬ (∃ o,ops[i]? = some o∧o.dst=some l)→(TM (i+1)).getD l .undef=(TM i).getD l .undef:=by
  intro i l hi hn
  have ho:ops[i]? = some ops[i]:=aD hi
  have k_:∀ v,(put (TM i) ops[i].dst v).getD l .undef=(TM i).getD l .undef:=by
   intro v
   cases hd:ops[i].dst with
   | none=>rfl
   | some d =>
    have ep:d≠l:=fun e=>hn ⟨ops[i],ho,by rw [hd,e]⟩
    simp only [put,List.getD,bM ep]
  rcases hT i _ ho with ((⟨_,h,_⟩ | ⟨_,r,dk,_,_,h,_⟩) | ⟨⟨_,_,_,_,_,_,_,_,h,_⟩,_⟩) | ⟨_,⟨_,h⟩,_⟩<;>rw [h]<;>exact k_ _
 have AF:∀ i c,i<ops.size→¬ c∈(dw fs i).wr→(SS (i+1))[c]? = (SS i)[c]?:=by
  intro i c hi hn
  have ho:ops[i]? = some ops[i]:=aD hi
  rcases hT i _ ho with ((⟨_,_,h⟩ | ⟨_,r,dk,_,h2,_,h⟩) | ⟨⟨_,_,_,_,_,_,_,_,_,h⟩,_⟩) | ⟨_,_,h⟩
  rotate_right
  ·rw [h]
  rotate_right
  ·rw [h]
  ·rw [h]
  ·rw [h,wP (by rw [zZ h2,dy,rV]),bp,if_neg hn]
 intro fuel
 have finish:∀ (listed:Array Bool) (tm:List ae) (σ:ai) (β:Env) (a:Act) (w:World),(∀ j,j<ops.size→listed.getD j false=true) →
   fV ops.size (fun i l=>∃ o,ops[i]? = some o∧o.dst=some l) (fun i l=>(TM i).getD l .undef) (fun j=>listed.getD j false=true) (fun l=>tm.getD l .undef) →
   fV ops.size (fun i c=>c∈(dw fs i).wr) (fun i c=>(SS i)[c]?) (fun j=>listed.getD j false=true) (fun c=>σ[c]?) →
   tm.length=(TM 0).length→σ.length=N→Rel X base mb D ⟨tm,σ⟩ β a w→(∀ j,listed.getD j false=true→¬ dd j) →
   kS P lo X base mb D b k cs R z (TM ops.size) (SS ops.size) σ β w (lone (b.atR a (.inRegion ops [] :: k)) cs w):=by
  intro listed tm σ β a w e8 i1 i2 l1 l2 hrel qZ
  have Hi:z=none:=by
   cases A2:z with
   | none=>rfl
   | some i0=>obtain ⟨q1,q2⟩:=hz i0 A2;exact absurd q2 (qZ i0 (e8 i0 q1))
  have e1:tm=TM ops.size:=by
   apply bQ
   intro l
   have h1:tm.getD l .undef=(TM ops.size).getD l .undef:=fV.done C0 i1 e8 l
   have hl:=Di ops.size (ah _)
   by_cases bG:l<tm.length
   ·have aZ:l<(TM ops.size).length:=by omega
    rw [aA bG,aA aZ]
    simp only [List.getD,aA bG,aA aZ,br] at h1
    rw [h1]
   ·rw [bt (by omega),bt (by omega)]
  have e2 : σ=SS ops.size:=by
   apply bQ
   intro c
   exact fV.done AF i2 e8 c
  subst e1 e2
  exact .inl ⟨Hi,β,a,w,hrel,Ext.refl _ _ _ _, .one stepR_region_end⟩
 induction fuel with
 | zero =>
  intro t listed tm σ β a w fH yH gD i1 i2 l1 l2 s0 hrel qZ _
  simp only [Region.linearise.go,lR]
  exact finish listed tm σ β a w (fun j hj=>Kx (by omega) (by omega)) i1 i2 l1 l2 hrel qZ
 | succ fuel ih =>
  intro t listed tm σ β a w fH yH gD i1 i2 l1 l2 s0 hrel qZ zG
  simp only [Region.linearise.go]
  change kS P lo X base mb D b k cs R z (TM ops.size) (SS ops.size) σ β w (lone (b.atR a (.inRegion ops (match (Region.ready .any ops listed)[t % (Region.ready .any ops listed).length]? with
   | some i=>Region.linearise.go .any ops fuel (t / (Region.ready .any ops listed).length) (listed.setIfInBounds i true) [i]
   | none=>[].reverse) :: k)) cs w)
  cases hi:(Region.ready .any ops listed)[t % (Region.ready .any ops listed).length]? with
  | none =>
   have yz:Region.ready .any ops listed=[]:=by
    cases hr:Region.ready .any ops listed with
    | nil=>rfl
    | cons x xs =>
     rw [hr] at hi
     have bG:t % (x :: xs).length<(x :: xs).length:=Nat.mod_lt _ (by simp)
     simp at hi
     simp at bG
     omega
   refine finish listed tm σ β a w (fun j=>?_) i1 i2 l1 l2 hrel qZ
   induction j using Nat.strongRecOn with
   | _ j Oi =>
    intro hj
    cases hv:listed.getD j false with
    | true=>rfl
    | false =>
     have jM:j∈Region.ready .any ops listed:=mem_ready.2 ⟨by
      have:j<listed.size:=by omega
      simpa [this] using hv,ops[j],aD hj,fun e he hb=>by
       have bG:e.on<j:=(km.edge (aD hj) he hb).lt hk.down
       exact Oi e.on bG (by omega)⟩
     rw [yz] at jM;cases jM
  | some i =>
   simp only []
   rw [linearise_go_acc,pB,qg]
   obtain ⟨AZ,o,ho,e8⟩:=mem_ready.1 (lY hi)
   have fE:i<ops.size:=(aL.1 ho).1
   have xg:listed.getD i false=false:=by
    have:i<listed.size:=by omega
    simpa [this] using AZ
   have r6:¬ (listed.getD i false=true):=by rw [xg];simp
   have aQ:∀ j,km ops j i→listed.getD j false=true:=by
    intro j hb
    generalize dV:i=i' at hb
    induction hb with
    | @edge j' o' e h1 h2 h3 =>
     subst dV
     rw [ho] at h1;cases h1
     exact e8 e h2 h3
    | trans h1 h2 _ oP=>exact gD _ _ h1 (oP dV)
   have uA:∀ l,l∈o.looksAt ops∨o.dst=some l→∀ j,j<ops.size→j≠i→(∃ oj,ops[j]? = some oj∧oj.dst=some l)→km ops i j∨km ops j i:=by
    rintro l hl j hj ep ⟨oj,h1,h2⟩
    exact hk.tmp i o ho l hl j oj h1 ep h2
   have qa:∀ l,l∈o.looksAt ops→tm.getD l .undef=(TM i).getD l .undef:=fun l hl=>fV.read hk.down C0 gD i1 fE r6 aQ (uA l (.inl hl))
   have wL:∀ c,c ∉ (dw fs i).hd→σ[c]? = (SS i)[c]?:=fun c hc=>fV.read hk.down AF gD i2 fE r6 aQ (hk.see i fE c hc)
   have Nu:=Di i (by omega)
   have Dh:=GV i (by omega)
   have uz:dy (dw fs i) σ=dy (dw fs i) (SS i):=by
    apply bQ
    intro c
    simp only [dy,wj,bp]
    by_cases hc:c∈(dw fs i).hd
    ·have e:(!(dw fs i).hd.contains c)=false:=by simp [hc]
     rw [e]
     by_cases bG:c<N
     ·rw [aA (l:=σ) (by omega),aA (l:=SS i) (by omega)];rfl
     ·rw [bt (l:=σ) (by omega),bt (l:=SS i) (by omega)]
    ·rw [wL c hc]
   have eI:(dw fs i).name σ=(dw fs i).name (SS i):=by simp only [Fp.name,l2,Dh]
   have tE:my ops tm o=my ops (TM i) o:=Ti (by omega) qa
   have k_:∀ (l:Nat) (v:ae),(∃ o',ops[i]? = some o'∧o'.dst=some l)→(put tm o.dst v).getD l .undef=(put (TM i) o.dst v).getD l .undef:=by
    rintro l v ⟨o',h1,h2⟩
    rw [ho] at h1;cases h1
    rw [h2]
    simp only [put,List.getD,oV]
    by_cases bG:l<tm.length
    ·rw [aA bG,aA (show l<(TM i).length by omega)];rfl
    ·rw [bt (dS bG),bt (show (TM i).length≤l by omega)]
   have ri:∀ (l:Nat) (v:ae), ¬ (∃ o',ops[i]? = some o'∧o'.dst=some l)→(put tm o.dst v).getD l .undef=tm.getD l .undef:=by
    intro l v hn
    cases hd:o.dst with
    | none=>rfl
    | some d =>
     have ep:d≠l:=fun e=>hn ⟨o,ho,by rw [hd,e]⟩
     simp only [put,List.getD,bM ep]
   have il:∀ j,((listed.setIfInBounds i true).getD j false=true)↔(listed.getD j false=true∨j=i):=by
    intro j
    constructor
    ·intro h
     by_cases e:i=j
     ·exact .inr e.symm
     ·rw [qH false e] at h;exact .inl h
    ·rintro (h | rfl)
     ·exact getD_set_true h
     ·have:j<listed.size:=by omega
      simp [this]
   have ye:(fun j=>(listed.setIfInBounds i true).getD j false=true)=fun j=>listed.getD j false=true∨j=i:=funext fun j=>propext (il j)
   have vD:∀ i' j,km ops i' j→(listed.setIfInBounds i true).getD j false=true→(listed.setIfInBounds i true).getD i' false=true:=by
    intro i' j hb hj
    rw [il] at hj ⊢
    rcases hj with hj | rfl
    ·exact .inl (gD i' j hb hj)
    ·exact .inl (aQ i' hb)
   have C1:=hT i o ho
   by_cases C5:dd i
   ·obtain ⟨i0,DI,zC⟩:=hdd i C5
    rcases zC with rfl | hb
    ·refine .inr ⟨by rw [DI];simp,hP i o DI ho tm σ β a w _ listed fH i1 i2 gD xg aQ l1 l2 hrel ⟨fuel,_,rfl,?_⟩⟩
     have:=Ij (i:=i) AZ
     omega
    ·exact absurd (hz i0 DI).2 (qZ i0 (aQ i0 hb))
   have C1:=C1.resolve_right fun h=>h.1.elim C5 fun hs=>r6 (zG i hs fE)
   generalize uB:Region.linearise.go .any ops fuel (t / (Region.ready .any ops listed).length) (listed.setIfInBounds i true) []=rest
   have step:∃ jR σ' eX a1 w1,Rel X base mb D ⟨jR,σ'⟩ eX a1 w1∧Ext 0 σ β w σ' eX w1∧(∀ c,c≠(dw fs i).name σ→c < σ.length→eX c = β c)∧jR.length=tm.length∧σ'.length = σ.length ∧
     (∀ l,(∃ o',ops[i]? = some o'∧o'.dst=some l)→jR.getD l .undef=(TM (i+1)).getD l .undef)∧(∀ l, ¬ (∃ o',ops[i]? = some o'∧o'.dst=some l)→jR.getD l .undef=tm.getD l .undef) ∧
     (∀ c,c∈(dw fs i).wr→σ'[c]? = (SS (i+1))[c]?)∧(∀ c,c ∉ (dw fs i).wr→σ'[c]? = σ[c]?) ∧
     Steps P (lone (b.atR a (.inRegion ops (i :: rest) :: k)) cs w) (lone (b.atR a1 (.inRegion ops rest :: k)) cs w1):=by
    rcases C1 with (⟨g1,g2,g3⟩ | ⟨g1,r,dk,g2,g3,g4,g5⟩) | ⟨⟨g1,t0,x0,l0,r,g2,g3,g4,g5,g6⟩,g7⟩
    rotate_right
    ·have wv:my ops tm o=some true:=by unfold my;rw [g1]
     have hx:ev tm x0=ev (TM i) x0:=Iy qa x0 (by rw [g2];simp [Op.operands])
     obtain ⟨b0,xE⟩:=T9 l0 (ev (TM i) x0)
     obtain ⟨k0,Dd,nT⟩:=i2.some b0
     have qZ:jf σ l0 (ev tm x0)=some r:=by rw [hx,xE σ (SS k0) nT];exact g4 k0 Dd
     have C6:kR P o.op tm (dy Fp.no σ) (Fp.no.name σ) r σ:=by
      have sw:dy Fp.no σ = σ:=by
       apply bQ
       intro c
       simp only [dy,wj,bp,Fp.no]
       cases σ[c]?<;>rfl
      rw [sw,g2]
      simp only [kR,c9,g3,eA,qZ,bu]
     have ta:e7 Fp.no.wr 0 σ (dy Fp.no σ):=by
      have sw:dy Fp.no σ = σ:=by
       apply bQ
       intro c
       simp only [dy,wj,bp,Fp.no]
       cases σ[c]?<;>rfl
      rw [sw]
      have:∀ (i:Nat) (a:ai),e7 Fp.no.wr i a a:=fun i a=>by
       induction a generalizing i with
       | nil=>trivial
       | cons x a ih=>exact ⟨.inr rfl,ih _⟩
      exact this 0 σ
     obtain ⟨eX,a1,w1,q1,q2,q3,q4⟩:=kR.step (rest:=rest) hrel ho wv C6 ta (fun c hc=>by simp [Fp.no] at hc) (hrel.s.nO _ (ah _)) b k cs
     have NA:dG Fp.no.wr 0 σ σ = σ:=by
      apply bQ
      intro c
      rw [wP rfl];split<;>rfl
     rw [NA] at q1 q2
     refine ⟨_,σ,eX,a1,w1,q1,q2,fun c _ hc=>q3 c (by simp only [Fp.name,Fp.no,eB];omega) hc,zf _ _ _,rfl,fun l hl=>by rw [g5];exact k_ l _ hl,fun l hl=>ri l _ hl,fun c hc=>?_,fun _ _=>rfl,q4⟩
     rw [g7] at hc;cases hc
    ·have hw:=zU hrel (tE.trans g1)
     refine ⟨put tm o.dst gone,σ,β,a.put o.dst undef,w,hrel.next hrel.s (Ext.refl 0 _ _ _) (fun _ _ h=>h) (.nX _) o.dst,Ext.refl _ _ _ _,fun _ _ _=>rfl,zf _ _ _,rfl,
      fun l hl=>by rw [g2];exact k_ l _ hl,fun l hl=>ri l _ hl,fun c hc=>?_,fun _ _=>rfl,?_⟩
     ·rw [g3]
      exact fV.read hk.down AF gD i2 fE r6 aQ (hk.own i fE c hc).2.2
     ·have:=stepR_op_skip (P:=P) (b:=b) (a:=a) (ops:=ops) (i:=i) (rest:=rest) (k:=k) (cs:=cs) (w:=w) (by simp [ho,hw])
      rw [ho] at this
      exact .one this
    ·have C6:kR P o.op tm (dy (dw fs i) σ) ((dw fs i).name σ) r dk:=by
      rw [uz,eI];exact g2.congr (Iy qa)
     have ta:e7 (dw fs i).wr 0 dk (dy (dw fs i) σ):=by rw [uz];exact g3
     have yA : β ((dw fs i).name σ)=none:=by
      unfold Fp.name
      cases hn:(dw fs i).nm with
      | none=>exact hrel.s.nO _ (ah _)
      | some c=>exact s0 i c fE xg hn
     have tG : dk.length = σ.length:=by rw [zZ ta,dy,rV]
     have Dg : dk.length=(SS i).length:=by omega
     obtain ⟨eX,a1,w1,q1,q2,q3,q4⟩:=kR.step (rest:=rest) hrel ho (tE.trans g1) C6 ta (fun c hc=>(hk.own i fE c hc).2.1) yA b k cs
     refine ⟨_,_,eX,a1,w1,q1,q2,q3,zf _ _ _,H2 tG,fun l hl=>by rw [g4];exact k_ l _ hl,fun l hl=>ri l _ hl,fun c hc=>?_,fun c hc=>?_,q4⟩
     ·rw [g5,wP tG,wP Dg,bp,if_pos hc,if_pos hc]
     ·rw [wP tG,bp,if_neg hc]
   obtain ⟨jR,σ',eX,a1,w1,s1,s2,s3,s4,s5,s6,s7,s8,s9,OA⟩:=step
   have mU:=ih (t / (Region.ready .any ops listed).length) (listed.setIfInBounds i true) jR σ' eX a1 w1 (by simp [fH]) (by have:=Ij AZ;omega) vD
    (by rw [ye];exact fV.step hk.down gD i1 fE r6 (fun l hl=>uA l (.inr (by obtain ⟨o',h1,h2⟩:=hl;rw [ho] at h1;cases h1;exact h2))) s6 s7)
    (by rw [ye];exact fV.step hk.down gD i2 fE r6 (fun c hc=>(hk.own i fE c hc).2.2) s8 s9)
    (by omega) (by omega)
    (fun j c hj yw G7=>by
     have GO:j≠i:=fun e=>by rw [e] at yw;have:=(il i).2 (.inr rfl);rw [this] at yw;cases yw
     have Dj:listed.getD j false=false:=by rw [qH false (gA GO)] at yw;exact yw
     obtain ⟨m1,m2,m3⟩:=hk.E3 j hj c G7
     rw [s3 c ?_ (by omega)]
     ·exact s0 j c hj Dj G7
     ·unfold Fp.name
      cases hn:(dw fs i).nm with
      | none=>simp only [eB];omega
      | some c'=>exact fun e=>m3 i fE (gA GO) (by rw [hn,e];rfl)) s1
    (fun j hj=>by rcases (il j).1 hj with h | rfl;exact qZ j h;exact C5) (fun j hs hj=>(il j).2 (.inl (zG j hs hj)))
   rw [uB] at mU
   have ke:Ext lo.n σ β w σ' eX w1:=⟨s2.os,s2.tape,s2.output,s2.size,s2.cell,s2.block,s2.iL,fun c hc=>s3 c (by
    unfold Fp.name
    cases hn:(dw fs i).nm with
    | none=>simp only [eB];omega
    | some c'=>have:=(hk.E3 i fE c' hn).1;simp only [br];omega) (by omega)⟩
   exact kS.of hR ke OA mU
theorem Yir {ops:Array Oper} {i j:Nat} (h:((uf [] ops.toList).getD j 0).testBit i=true):km ops i j:=KN ops.toList [] (by simp) (fun j i h=>by simp at h) _ _ h
theorem Ylz (hd:jW ops=true):∀ (fuel m d t:Nat) (listed:Array Bool),ops.size=m+d→listed.size=ops.size→(∀ j,j<m→listed.getD j false=true)→(∀ j,m≤j→j<ops.size→listed.getD j false=false) →
  (∀ i j,m≤i→i<j→j<ops.size→km ops i j)→nA listed≤fuel→Region.linearise.go .any ops fuel t listed []=List.range' m d:=by
 intro fuel
 induction fuel with
 | zero =>
  intro m d t listed h1 h2 h3 h4 h5 h6
  cases d with
  | zero=>rfl
  | succ d =>
   have:=Kx (listed:=listed) (by omega) (j:=m) (by omega)
   rw [h4 m (ah _) (by omega)] at this;cases this
 | succ fuel ih =>
  intro m d t listed h1 h2 h3 h4 h5 h6
  have wv:∀ j,j<ops.size→(listed.getD j true=false↔listed.getD j false=false):=fun j hj=>by
   have:j<listed.size:=by omega
   simp [aj,aD this]
  have jM:∀ j,j∈Region.ready .any ops listed→j=m∧j<ops.size:=fun j hj=>by
   obtain ⟨q1,o,q2,q3⟩:=mem_ready.1 hj
   have yu:j<ops.size:=(aL.1 q2).1
   have hjm:m≤j:=by
    rcases jK j m with h | h
    ·have:=h3 j h
     rw [(wv j yu).1 q1] at this;cases this
    ·exact h
   refine ⟨?_,yu⟩
   rcases jK m j with h | h
   ·exfalso
    have hb:=h5 m j (ah _) h yu
    have key:∀ i j',km ops i j'→j'=j→listed.getD i false=true:=by
     intro i j' hb
     induction hb with
     | @edge j1 o1 e g1 g2 g3 =>
      intro e1;subst e1
      rw [q2] at g1;cases g1
      exact q3 e g2 g3
     | @trans a b' c' g1 g2 kN oP =>
      intro e1
      have uZ:=oP e1
      have bG:=g1.lt hd
      have zw:=g1.lt_size
      rcases jK b' m with h | h
      ·exact h3 a (by omega)
      ·rw [h4 b' h zw] at uZ;cases uZ
    have:=key m j hb rfl
    rw [h4 m (ah _) (by omega)] at this;cases this
   ·omega
  simp only [Region.linearise.go]
  change (match (Region.ready .any ops listed)[t % (Region.ready .any ops listed).length]? with
   | some i=>Region.linearise.go .any ops fuel (t / (Region.ready .any ops listed).length) (listed.setIfInBounds i true) [i]
   | none=>[].reverse) = _
  cases d with
  | zero =>
   have hr:Region.ready .any ops listed=[]:=List.eq_nil_iff_forall_not_mem.2 fun j hj=>by have:=jM j hj;omega
   rw [hr];rfl
  | succ d =>
   have hm:m∈Region.ready .any ops listed:=mem_ready.2 ⟨(wv m (by omega)).2 (h4 m (ah _) (by omega)),ops[m],aD (by omega),fun e he hb=>h3 _ ((km.edge (aD (by omega)) he hb).lt hd)⟩
   have bG:t % (Region.ready .any ops listed).length<(Region.ready .any ops listed).length:=Nat.mod_lt _ (List.length_pos_of_mem hm)
   rw [aA bG]
   have he:=(jM _ (aE bG)).1
   simp only []
   rw [he,linearise_go_acc,pB,qg,ie]
   congr 1
   have il:∀ j,(listed.setIfInBounds m true).getD j false=true↔listed.getD j false=true∨j=m:=by
    intro j
    have yy:m<listed.size:=by omega
    simp only [aj,bD]
    by_cases e:m=j
    ·subst e;simp [yy]
    ·simp [e,gA e]
   refine ih (m+1) d _ _ (by omega) (by simpa using h2) (fun j hj=>(il j).2 ?_) (fun j hj yu=>?_) (fun i j hi xF yu=>h5 i j (by omega) xF yu) ?_
   ·rcases jK j m with h | h
    ·exact .inl (h3 j h)
    ·exact .inr (by omega)
   ·rw [← df,il]
    rintro (h | h)
    ·rw [h4 j (by omega) yu] at h;cases h
    ·omega
   ·have:=Ij (i:=m) ((wv m (by omega)).2 (h4 m (ah _) (by omega)))
    omega
def rF (ops:Array Oper) (m:Nat) (T:List ae):Nat→List ae
 | 0=>T
 | k+1=>put (rF ops m T k) ((ops[m+k]?).bind Oper.dst) .undef
theorem T6 (m:Nat) (T:List ae):∀ k,(rF ops m T k).length=T.length
 | 0=>rfl
 | k+1=>by rw [rF,zf,T6 m T k]
theorem aK.Gg {k:List KI} {id:Nat} {tm:List ae} {σ:ai} (fs:List Fp) (n0 N:Nat) (hm:P.follows .mixedOrders=true) (ju:qQ ops fs n0 N=true) (h0 : σ.length=n0) (hN:n0≤N) (m:Nat) (xb:m<ops.size)
  (p9:((List.range ops.size).all fun j=>decide (j<m)||(List.range j).all fun i=>((uf [] ops.toList).getD j 0).testBit i)=true) (Ob:((List.range ops.size).all fun j=>decide (j<m)||(dw fs j).wr.isEmpty)=true)
  (h:iD P lo (fun _ st=>aK P lo Q (.ops ops (ops.toList.drop m) :: k) .normal st) [] ops (ops.toList.take m) fs tm (dC N σ)) :
  aK P lo Q (.code (.region id ops true) :: k) .normal ⟨tm,σ⟩:=by
 have hk:=RJ ju
 obtain ⟨TM,SS,e1,e2,e3,e4⟩:=H6 _ _ _ _ h
 have hlen:(ops.toList.take m).length=m:=by simp;omega
 rw [hlen] at e4
 have e4:aK P lo Q (.ops ops (ops.toList.drop m) :: k) .normal ⟨TM m,SS m⟩:=e4
 have re:∀ i j,m≤j→i<j→j<ops.size→km ops i j:=fun i j hmj xF hj=>by
  have:=bj.1 p9 j (cA.2 hj)
  rw [decide_eq_false (by omega:¬ j<m),du] at this
  exact Yir (bj.1 this i (cA.2 xF))
 have WX:∀ j,m≤j→j<ops.size→(dw fs j).wr=[]:=fun j hmj hj=>by
  have:=bj.1 Ob j (cA.2 hj)
  rw [decide_eq_false (by omega:¬ j<m),du] at this
  exact List.isEmpty_iff.1 this
 have G1:∀ j,j<ops.size→j≠m→km ops m j∨km ops j m:=fun j hj ep=>by
  rcases jK j m with h | h
  ·exact .inr (re j m (ah _) h xb)
  ·exact .inl (re m j h (by omega) hj)
 have Ju:∀ i o,i<m→ops[i]? = some o→p5 P ops (dw fs i) o (TM i) (SS i) (TM (i+1)) (SS (i+1)):=fun i o sW hi=>e3 i o (by rw [fj,if_pos sW];simpa using hi)
 have hl:∀ i,i≤m→(TM i).length=(TM 0).length∧(SS i).length=N:=by
  intro i
  induction i with
  | zero=>intro _;exact ⟨rfl,by rw [e2,Lb (by omega)]⟩
  | succ i ih =>
   intro hi
   have:=(Ju i ops[i] (by omega) (aD (by omega))).len
   have:=ih (by omega)
   omega
 let uQ:Nat→List ae:=fun i=>if i≤m then TM i else rF ops m (TM m) (i - m)
 let zQ:Nat→ai:=fun i=>if i≤m then SS i else SS m
 have tT:∀ i,i≤m→uQ i=TM i:=fun i hi=>if_pos hi
 have tS:∀ i,i≤m→zQ i=SS i:=fun i hi=>if_pos hi
 have tN:∀ i,m≤i→(hi:i<ops.size)→uQ (i+1)=put (uQ i) ops[i].dst .undef:=fun i sW hi=>by
  have e1:uQ (i+1)=rF ops m (TM m) (i - m+1):=by simp only [uQ];rw [if_neg (by omega),show i+1 - m=i - m+1 by omega]
  have e2:uQ i=rF ops m (TM m) (i - m):=by
   by_cases h:i=m
   ·subst h;rw [tT i (ah _),en];rfl
   ·simp only [uQ];rw [if_neg (by omega)]
  rw [e1,e2,rF,show m+(i - m)=i by omega,aD hi];rfl
 have JQ:∀ i,m≤i→zQ i=SS m:=fun i sW=>by
  by_cases h:i=m
  ·subst h;exact tS i (ah _)
  ·exact if_neg (by omega)
 have C0:∀ i l,i<ops.size→¬ (∃ o,ops[i]? = some o∧o.dst=some l)→(uQ (i+1)).getD l .undef=(uQ i).getD l .undef:=by
  intro i l hi hn
  have ho:ops[i]? = some ops[i]:=aD hi
  have k_:∀ v,(put (uQ i) ops[i].dst v).getD l .undef=(uQ i).getD l .undef:=by
   intro v
   cases hd:ops[i].dst with
   | none=>rfl
   | some d =>
    have ep:d≠l:=fun e=>hn ⟨ops[i],ho,by rw [hd,e]⟩
    simp only [put,List.getD,bM ep]
  by_cases sW:i<m
  ·have h1:=Ju i ops[i] sW ho
   rw [tT (i+1) (by omega)]
   rw [tT i (by omega)] at k_ ⊢
   rcases h1 with ⟨_,g,_⟩ | ⟨_,r,dk,_,_,g,_⟩<;>rw [g]<;>exact k_ _
  ·rw [tN i (by omega) hi];exact k_ _
 have AF:∀ i c,i<ops.size→¬ c∈(dw fs i).wr→(zQ (i+1))[c]? = (zQ i)[c]?:=by
  intro i c hi hn
  have ho:ops[i]? = some ops[i]:=aD hi
  by_cases sW:i<m
  ·have h1:=Ju i ops[i] sW ho
   rw [tS (i+1) (by omega),tS i (by omega)]
   rcases h1 with ⟨_,_,g⟩ | ⟨_,r,dk,_,g2,_,g⟩
   ·rw [g]
   ·rw [g,wP (by rw [zZ g2,dy,rV]),bp,if_neg hn]
  ·rw [JQ (i+1) (by omega),JQ i (by omega)]
 intro X base mb D β a w b kk cs h1 h2 h3 _
 simp only at h1
 have hrel:Rel X base mb D ⟨uQ 0,zQ 0⟩ β a { w with drawn:=w.drawn+1 }:=by
  have:=Tw (n:=w.drawn+1) h3
  rw [tT 0 (av _),tS 0 (av _),e1,e2]
  exact ⟨this.s.pad (by simp only;omega),this.n,fun j hj=>by rw [JU];exact this.t j hj,this.d⟩
 have vC:=Yfi (P:=P) (lo:=lo) (ops:=ops) (fs:=fs) (n0:=n0) (N:=N) (TM:=uQ) (SS:=zQ) (X:=X) (base:=base) (mb:=mb) (D:=D)
  (R:=fun σ β w Ou=>mb≤w.heap.size→∃ e ef β' a' w',aK P lo Q k e ef∧lo.n≤ef.σ.length∧Rel X base mb D ef β' a' w'∧Ext lo.n σ β w ef.σ β' w'∧zP P Ou b kk cs e a' w')
  (fun he hs f EO=>let ⟨e,ef,β',a',w',g1,g2,g3,g4,g5⟩:=f (cV EO he.size);⟨e,ef,β',a',w',g1,g2,g3,he.trans g4, .of_steps hs g5⟩) (z:=some m) (dd:=fun j=>m≤j∧j<ops.size) (sk:=fun _=>False)
  (fun i0 zC=>by cases zC;exact ⟨xb,ah _,xb⟩) (fun j hj=>⟨m,rfl,(Nat.eq_or_lt_of_le hj.1).imp Eq.symm fun h=>re m j hj.1 h hj.2⟩) hk (by omega) hN
  (fun i o ho=>by
   by_cases sW:i<m
   ·rw [tT i (by omega),tT (i+1) (by omega),tS i (by omega),tS (i+1) (by omega)]
    exact .inl (.inl (Ju i o sW ho))
   ·have Np:i<ops.size:=(aL.1 ho).1
    have JD:ops[i]=o:=by rw [aD Np] at ho;exact aN ho
    refine .inr ⟨.inl ⟨by omega,Np⟩,⟨.undef,?_⟩,?_⟩
    ·rw [tN i (by omega) Np,JD]
    ·rw [JQ (i+1) (by omega),JQ i (by omega)])
  (fun i hi=>by
   by_cases sW:i≤m
   ·rw [tT i sW,tT 0 (av _)];exact (hl i sW).1
   ·simp only [uQ];rw [if_neg sW,if_pos (av _),T6];exact (hl m (ah _)).1)
  (fun i hi=>by
   by_cases sW:i≤m
   ·rw [tS i sW];exact (hl i sW).2
   ·simp only [zQ];rw [if_neg sW];exact (hl m (ah _)).2)
  b kk cs
  (fun i o hz ho tm σ β a w rest listed yG i1 i2 gD AZ aQ l1 l2 hrel uB EO=>by
   cases hz
   have e8:∀ j,j<m→listed.getD j false=true:=fun j hj=>aQ j (re j m (ah _) hj xb)
   obtain ⟨fuel,t,hr,EI⟩:=uB
   have il:∀ j,(listed.setIfInBounds m true).getD j false=true↔listed.getD j false=true∨j=m:=by
    intro j
    have yy:m<listed.size:=by omega
    simp only [aj,bD]
    by_cases e:m=j
    ·subst e;simp [yy]
    ·simp [e,gA e]
   rw [Ylz hk.down fuel (m+1) (ops.size - (m+1)) t _ (by omega) (by simpa using yG) (fun j hj=>(il j).2 ((jK j m).imp (e8 j) fun h=>by omega)) (fun j hj yu=>by
    rw [← df,il]
    rintro (h | h)
    ·have:=gD _ _ (re m j (by omega) (by omega) yu) h
     rw [AZ] at this;cases this
    ·omega) (fun i j hi xF yu=>re i j (by omega) xF yu) EI] at hr
   subst hr
   have r6:¬ (listed.getD m false=true):=by rw [AZ];simp
   have et:tm=TM m:=by
    apply bQ
    intro l
    have h1:tm.getD l .undef=(uQ m).getD l .undef:=fV.read hk.down C0 gD i1 xb r6 aQ (fun j hj ep _=>G1 j hj ep)
    rw [tT m (ah _)] at h1
    have hlm:=(hl m (ah _)).1
    rw [tT 0 (av _)] at l1
    by_cases bG:l<tm.length
    ·have aZ:l<(TM m).length:=by omega
     rw [aA bG,aA aZ]
     simp only [List.getD,aA bG,aA aZ,br] at h1
     rw [h1]
    ·rw [bt (by omega),bt (by omega)]
   have es : σ=SS m:=by
    apply bQ
    intro c
    have : σ[c]? = (zQ m)[c]?:=fV.read hk.down AF gD i2 xb r6 aQ (fun j hj ep _=>G1 j hj ep)
    rw [this,tS m (ah _)]
   subst et es
   have N0:Bf ops (ops.toList.drop m):=⟨by simp,fun j=>by simp;try (congr 1;omega)⟩
   have hR:=e4 N0
   have ym:(ops.toList.drop m).length=ops.size - m:=by simp
   rw [ym,show ops.size - (ops.size - m)=m by omega,show ops.size - m=(ops.size - (m+1))+1 by omega,ie] at hR
   obtain ⟨e,ef,β',a',w',q,r1,r2,r3,rd,r4⟩:=hR X base mb D β a w b kk cs (by have:=(hl m (ah _)).2;simp only;omega) EO hrel
   refine ⟨e,ef,β',a',w',q,r1,r2,r3,?_⟩
   rw [bq] at r4
   have r4:zP P (lone (b.atR a (.inRegion ops (m :: List.range' (m+1) (ops.size - (m+1))) :: kk)) cs w) b (.inRegion ops [] :: kk) cs e a' w':=r4
   cases e with
   | normal=>exact Steps.trans r4 (.one stepR_region_end)
   | exit id=>obtain ⟨k',e1,e2⟩:=r4;exact ⟨k',by rw [e1];rfl,e2⟩
   | goto l=>obtain ⟨k',e1,e2⟩:=r4;exact ⟨k',by rw [e1];rfl,e2⟩
   | ret=>exact r4
   | panic u=>exact r4)
  ops.size (w.tape w.drawn (.order b.fn id)) (Array.replicate ops.size false) (uQ 0) (zQ 0) β a { w with drawn:=w.drawn+1 } (by simp) (by simp [nA])
  (fun i j _ hj=>by simp [aj,eg] at hj;split at hj<;>simp at hj)
  (by
   have:(fun j=>(Array.replicate ops.size false).getD j false=true)=fun _=>False:=funext fun j=>by simp [aj,eg];split<;>simp
   rw [this];exact fV.init)
  (by
   have:(fun j=>(Array.replicate ops.size false).getD j false=true)=fun _=>False:=funext fun j=>by simp [aj,eg];split<;>simp
   rw [this];exact fV.init)
  rfl (by rw [tS 0 (av _)];exact (hl 0 (av _)).2) (fun i c hi _ hc=>h3.s.nO c (by simp only;have:=(hk.E3 i hi c hc).1;omega)) hrel
  (fun j hj=>by simp [aj,eg] at hj;split at hj<;>simp at hj) (fun j h=>h.elim)
 rcases vC with ⟨hz,_⟩ | ⟨_,vC⟩
 ·cases hz
 ·obtain ⟨e,ef,β',a',w',g1,g2,g3,g4,g5⟩:=vC h2
  rw [tS 0 (av _),e2] at g4
  refine ⟨e,ef,β',a',w',g1,g2,g3,?_, .of_steps (.one stepR_region_draw) ?_⟩
  ·exact ⟨g4.os,g4.tape,g4.output,g4.size,fun g o v hc hn=>g4.cell g o v hc fun hm=>hn (Cw.1 hm),fun g hg hn=>g4.block g hg fun o hm=>hn o (Cw.1 hm),fun g o hm=>(g4.iL g o hm).imp Cw.1 (fun h=>h),g4.env⟩
  ·have hs:Region.schedule (P.follows .mixedOrders) ops (w.tape w.drawn (.order b.fn id))=Region.linearise.go .any ops ops.size (w.tape w.drawn (.order b.fn id)) (Array.replicate ops.size false) []:=by
    simp only [Region.schedule,hm,fU,if_true];rfl
   rw [hs];exact g5
theorem aK.Gf {k:List KI} {id:Nat} {tm:List ae} {σ:ai} (fs:List Fp) (n0 N:Nat) (hm:P.follows .mixedOrders=true) (ju:qQ ops fs n0 N=true) (h0 : σ.length=n0) (hN:n0≤N) (m:Nat) (fH:ops.size=m+1)
  (p9:((List.range m).all fun j=>((uf [] ops.toList).getD m 0).testBit j)=true) (WX:(dw fs m).wr=[])
  (h:iD P lo (fun _ st=>aK P lo Q (.ops ops (ops.toList.drop m) :: k) .normal st) [] ops (ops.toList.take m) fs tm (dC N σ)) :
  aK P lo Q (.code (.region id ops true) :: k) .normal ⟨tm,σ⟩:=by
 refine aK.Gg fs n0 N hm ju h0 hN m (by omega) (bj.2 fun j hj=>?_) (bj.2 fun j hj=>?_) h
 ·have:=cA.1 hj
  rw [b9,decide_eq_true_eq]
  rcases jK j m with h | h
  ·exact .inl h
  ·obtain rfl:j=m:=by omega
   exact .inr p9
 ·have:=cA.1 hj
  rw [b9,decide_eq_true_eq]
  rcases jK j m with h | h
  ·exact .inl h
  ·obtain rfl:j=m:=by omega
   exact .inr (by rw [WX];rfl)
end
section
variable {P:Program} {lo:Ctx} {Q:cb→St→Prop} {k:List KI} {ops:Array Oper} {l:List Oper} {fs:List Fp} {tm:List ae} {σ m:ai}
theorem zi {d:Option Tmp} {g:FuncId} {first captured args args':List ae} {r:ae} {wr:List Nat} (bs:List Nat) (hc:aJ P g args' r) (hp:kO (among bs) m args' (first++args++captured)) (hl:bz 0 args')
  (hs:e7 wr 0 (if bP r then m else fZ (among bs) 0 m) m)
  (h:iD P lo Q k ops l fs (put tm d r) (dG wr 0 (if bP r then m else fZ (among bs) 0 m) σ)):sr P lo Q k ops wr d l fs tm σ m (.fn g first captured) args :=
 ⟨r,_,aq.bV bs hc hp hl ⟨rfl,rfl⟩,hs,h⟩
end
theorem aq.ya {P:Program} {F:Frame→List Frame→Sem Next→World→Value→World→Prop} {f f':ae} {args:List ae} {K K':ae→ai→Prop} {Z σ:ai} (ι:Nat→Nat) (tJ:∀ b b',b<Z.length→b'<Z.length→ι b = ι b'→b=b') (hb:∀ b,b<Z.length→ι b < σ.length)
  (vT:∀ b,b<Z.length→∃ o,Z[b]? = some o∧σ[ι b]? = some (o.map (dI ι))) (hf:f.low Z.length) (od:dL ι f=f') (ha:bz 0 args) (hs:bw Z.length Z)
  (h:dv P F f args Z K') (hk:∀ r Z',K' r Z'→Z.length≤Z'.length∧bw Z'.length Z'∧r.low Z'.length∧K (dL (nj ι Z.length σ.length) r) (jX ι Z.length Z' σ)):dv P F f' args σ K:=by
 have:=aq.xZ (K:=K) ι tJ hb vT hf (iC (av _) ha) hs (h.mono hk)
 rwa [od,cI ha] at this
theorem aq.Ms {P:Program} {F:Frame→List Frame→Sem Next→World→Value→World→Prop} {f:ae} {args args':List ae} {K:ae→ai→Prop} {σ:ai} (hp:kO (among []) σ args' args) (h:dv P F f args' σ K):dv P F f args σ K:=by
 intro X base β w vf vs h1 nP h2 h3 fr cs h4
 have od:=zX (among []) σ
 rw [jj] at od
 obtain ⟨e1,e2⟩:=tU h1 od args' hp
 exact h X base β w vf vs h1 nP (by omega) (fun k hk=>(e2 k hk).1 _ (h3 k (by omega))) fr cs h4
theorem aq.A6 {P : Program} {g : FuncId} {fn : Func} {c : Code} {σ : ai} (hf : P.funcs[g]? = some fn) (hb : fn.body = some c) (eI : (fn.name == "runtime.NumGoroutine") = false)
  (h0:∀ (a:Option Addr) (cap:Nat) (w:World),Calls P g #[.slice a 0 cap] w fun e w'=>e = .returned (.tuple #[])∧w'=w)
  {K:ae→ai→Prop} (hK:K (.dA []) σ):aq P (.fn g [] []) [.aU] σ K:=by
 refine aq.sh ?_
 intro X base β w vs h1 h2 h3 fr cs zy
 have q_ : ¬ fn.name = "runtime.NumGoroutine" := by simpa using eI
 obtain ⟨x,rfl⟩:∃ x,vs = #[x]:=by
  simp at h2
  exact qe.1 h2
 have w6:=h3 0 (by simp)
 simp only [bh,bq,bm] at w6
 have hx:(#[x]:Array Value).getD 0 undef=x:=rfl
 rw [hx] at w6
 have vP:∀ (w':World) (M':Nat→Nat→Prop),bS w' M' β (.tuple #[]) (.dA []):=fun w' M'=>.dA rfl fun k hk=>by simp at hk
 have kz:∀ us,(callFunc g us).run P w = .ok (.enter g us) w:=fun us=>by simp [callFunc,hf,q_,hb]
 obtain ⟨a0,rfl⟩:∃ a0,x = .slice a0 0 0:=by
  cases w6 with
  | aU a=>exact ⟨a,rfl⟩
 obtain ⟨e,w',BD,⟨rfl,rfl⟩,hc,BN,hl⟩:=h0 a0 0 w (fr :: cs)
 refine ⟨_,σ,β, .tuple #[],w',hK,h1,vP _ _,Ext.refl _ _ _ _,ah _,Frame.enter P g _ .normal,fr :: cs,w',?_,Steps.trans hc (.one (step_leave_returned hl))⟩
 simp only [stepG.apply,if_true,Sem.runT_eq,kz,GStep.bare_after,GStep.bare_go]
 split
 ·rename_i d s a k e;exact absurd e (zy _ _ _ _ _)
 ·rfl
end Go.c8
namespace Go.Proofs
open Go Go.c8
attribute [local go_sem] Nat.reduceAdd Nat.reduceSub Nat.reduceMul Nat.reduceLeDiff Nat.reduceEqDiff Nat.reduceBEq Nat.reduceLT Nat.le_refl Int.natCast_zero Nat.sub_zero List.length_map Int.toNat_natCast Int.natCast_one Int.reduceEq Int.reduceLT Int.reduceLE Int.reduceNe Int.sub_zero Int.zero_add Int.toNat_one
theorem O5 (p more:List Int) (hp:p.length≤1000000) (hm:more.length≤1000000):aJ Tryz.prog 187 [.ps 1 (ints p), .ps 1 (ints more)] (.ps 1 (ints (p++more))):=by
 refine aJ.begin (rs:=[.tmp 4]) (m:=7) 1000 Tryz.func187 rfl rfl rfl (by decide) (by simp [go_sem,dB]) ?_
 have sw:(ints more).length=more.length:=lF more
 have NM:(ints p).length=p.length:=lF p
 have wy:List.take more.length (ints more)=ints more:=bd (by omega)
 have yD:List.take p.length (ints p)=ints p:=bd (by omega)
 have yj:ints (p++more)=ints p++ints more:=by simp [ints]
 have hw:∀ σ:ai,kO (fun _=>true) σ (ints p++ints more) (ints p++ints more):=fun σ=>cJ _ _ _
 by_cases h:p=[]
 ·subst h
  simp only [go_sem]
  refine (bT.v Zsy).mono ?_
  rintro r σ' (⟨rfl,rfl⟩ | ⟨rfl,rfl⟩)
  ·refine aK.go 1000 ?_
   by_cases h2:more.length=0
   ·obtain rfl:=ic.1 h2
    simp only [go_sem,FJ,aS]
    exact FJ ▸ of_eq_true (Ysl [])
   ·simp only [go_sem,sw,h2,(by omega:more.length≤6000000000000),wy]
  ·refine aK.go 1000 ?_
   simp only [go_sem,sw,wy]
   omega
 ·simp only [go_sem]
  refine (bT.v (Ztr p h (by omega)).1).mono ?_
  rintro r σ' ⟨rfl,rfl⟩
  refine aK.go 1000 ?_
  simp only [go_sem,sw,NM,yD]
  refine ⟨by omega,by rw [ay];omega,?_⟩
  rw [bd (by rw [ay];omega),yj]
  exact cJ _ _ _
def oR (L:List (List Int)):List ae:=L.map fun p=>.ps 1 (ints p)
theorem Ex (L:List (List Int)):(oR L).length=L.length:=by simp [oR]
@[go_sem] theorem wU {n:Nat} (L:List (List Int)):bz n (oR L)=True:=eq_true (uT fun p _=>dB p)
theorem OQ (L M:List (List Int)):oR (L++M)=oR L++oR M:=by simp [oR]
@[go_sem] theorem Xf (L:List (List Int)):eQ ⟨1,false,24,[.aU], .slice⟩ (oR L)=True:=eq_true (by
 refine ⟨fun x hx=>?_,by decide,by decide,rfl⟩
 obtain ⟨t,_,rfl⟩:=bZ.1 hx
 exact ⟨rfl,rfl⟩)
mutual
def Tm.fC:Tm→List Int→List (List Int)
 | .mk _ ts,p=>p :: Tm.iY ts p 0
def Tm.iY:List Tm→List Int→Nat→List (List Int)
 | [],_,_=>[]
 | t :: ts,p,i=>t.fC (p++[(i:Int)])++Tm.iY ts p (i+1)
end
mutual
theorem zh:∀ (t:Tm) (p:List Int),(t.fC p).length=t.size
 | .mk _ ts,p=>by simp only [Tm.fC,Tm.size,ax,R5 ts p 0];omega
theorem R5:∀ (ts:List Tm) (p:List Int) (i:Nat),(Tm.iY ts p i).length=Tm.bF ts
 | [],_,_=>rfl
 | t :: ts,p,i=>by simp only [Tm.iY,Tm.bF,ay,zh t,R5 ts]
end
@[go_sem] theorem Xaw {π:Nat→Nat} {L:List (List Int)}:Option.map (dI π) (e9 (oR L))=e9 (oR L):=by
 cases h:oR L with
 | nil=>rfl
 | cons x l =>
  have hl:bz 0 (oR L):=of_eq_true (wU L)
  rw [U5,bu,xv,← h,cI hl]
def oB (L:List (List Int)):ai:=[some (.var [jo 2 1 (oR L)]),some (.var [.fn 186 [] [.ptr 0 0, .ptr 1 0]]),e9 (oR L)]
def qi (L:List (List Int)):ai:=[some (.var [jo 3 1 (oR L)]),some (.var [.fn 186 [] [.ptr 0 0, .ptr 1 0]]),none,e9 (oR L)]
theorem O9:∀ (n:Nat) (t:Tm) (p:List Int) (L:List (List Int)),t.size≤n→p.length+t.size≤1000000→L.length+t.size≤1000000 →
  aq Tryz.prog (.fn 186 [] [.ptr 0 0, .ptr 1 0]) [t.aO, .ps 1 (ints p)] (oB L) (fun r σ'=>r = .dA []∧σ'=qi (L++t.fC p))
 | 0,t,p,L,h,_,_=>by have:=oM t;omega
 | n+1,t,p,L,hn,hp,hL=>by
  unfold oB
  refine aq.begin (rs:=[]) (m:=25) 1000 Tryz.func186 rfl rfl rfl rfl rfl ?_
  simp only [go_sem,dh]
  refine aK.draw [⟨none,[],[4]⟩, .no, .no,⟨some 4,[4],[]⟩,⟨some 5,[2,5],[]⟩,⟨none,[0],[]⟩] 4 6 mixed rfl rfl (by decide) ?_
  simp only [go_sem,dC]
  refine n5 (O5 p [] (by omega) (by simp)) ?_ (by simp [go_sem,dB]) ?_
  ·simp only [go_sem,FJ]
  have h2:bH (oB L++[some (.var [.int .i64 t.head, .ps 2 (List.map Tm.aO t.args)]),some (.row [.ps 1 (ints (p++[]))] 0),none]) 2=e9 (oR L):=by simp [oB,bH]
  have nR:=of_eq_true (Xf [p++[]])
  rw [show oR [p++[]]=[.ps 1 (ints (p++[]))] from rfl] at nR
  have rQ:List.take 1 [ae.ps 1 (ints (p++[]))]=[.ps 1 (ints (p++[]))]:=rfl
  simp only [oB,bn,bh] at h2
  simp only [go_sem,vl h2,nR,Ex,rQ]
  refine ⟨by omega,?_⟩
  refine aK.go 1000 ?_
  simp only [go_sem,bq]
  have fH:=oM t
  have fT:t.fC p=p :: Tm.iY t.args p 0:=by cases t;rfl
  have mz:=qh t.args
  refine aK.im (ι:={q:Nat×List (List Int) // q.1≤t.args.length∧q.2≠[]∧q.2++Tm.iY (t.args.drop q.1) p q.1=L++t.fC p∧q.2.length+Tm.bF (t.args.drop q.1)≤1000000}) 1000
   (fun q=>f_ 29 [(1, .ps 1 (ints p)),(3, .ptr 1 0),(14, .ps 2 (t.args.map Tm.aO)),(15, .int .i64 t.args.length),(16, .int .i64 q.1.1)]) (fun q=>qi q.1.2) (fun q=>t.args.length - q.1.1)
   ⟨(0,L++[p]),by simp only [dn,fT];refine ⟨by omega,by simp,by simp,by simp;omega⟩⟩ [(3,5),(5,3)] ?_ (fun _=>by simp [qi]) ?_
  ·refine jb rfl ?_
   unfold qi
   rw [OQ,wo (by simp [oR]),wq (by simp [oR])]
   simp only [go_sem,bR,cI (bR _),Ex,dB,cI (dB _)]
   have lw:bz 0 (oR (L++[p])):=of_eq_true (wU _)
   rw [OQ] at lw
   rw [cI lw]
   exact ⟨rfl,iC (by omega) lw⟩
  ·rintro ⟨⟨i,M⟩,hi,hM,aQ,hlen⟩
   simp only at hi hM aQ hlen
   have hMn:oR M≠[]:=by simp [oR,hM]
   by_cases bG:(i:Int)<t.args.length
   ·have aZ:i<t.args.length:=by omega
    have hw:IntKind.i64.wrap ((i:Int)+1)=((i+1:Nat):Int):=by rw [eC (by omega)];omega
    have hg:(t.args.map Tm.aO).getD i .undef=t.args[i].aO:=by simp [List.getD,aZ]
    obtain ⟨x,hx⟩:∃ x,t.args[i]=x:=⟨_,rfl⟩
    have hdr:t.args.drop i=x :: t.args.drop (i+1):=by rw [ao aZ,hx]
    rw [hdr,Tm.iY] at aQ
    rw [hdr,Tm.bF] at hlen
    rw [hx] at hg
    unfold qi
    simp only [go_sem,bG,hg,ak,fJ]
    refine ⟨by omega,?_⟩
    refine aK.Gf [⟨none,[],[5]⟩,⟨none,[],[5]⟩,⟨none,[],[5]⟩, .no,⟨some 5,[5],[]⟩,⟨none,[5],[]⟩] 5 6 mixed (by decide) rfl (by decide) 6 rfl (by decide) rfl ?_
    simp only [go_sem,dC]
    have BM:bP (.ps 1 (ints (p++[(i:Int)])))=false:=by
     cases h:ints (p++[(i:Int)]) with
     | nil=>simp [ints] at h
     | cons a l=>rfl
    refine zi [5] (O5 p [(i:Int)] (by omega) (by simp)) ?_ (by simp [go_sem,dB]) (by simp [BM,fZ,j0,among,e7]) ?_
    ·simp only [go_sem,ints,aB,aP]
    simp only [BM,a_,if_false,fZ,j0,among,eh,mR,ou,Nat.reduceAdd,Nat.reduceBEq,if_true,ax,aS,Nat.zero_max]
    simp only [go_sem]
    refine aK.go 1000 ?_
    simp only [go_sem]
    refine aK.go 1000 ?_
    simp only [go_sem]
    rw [← dh x]
    have aoc:x.size+Tm.bF (t.args.drop (i+1))≤Tm.bF t.args:=by
     have:=D2 (t.args.take i) (t.args.drop i)
     rw [List.take_append_drop,hdr,Tm.bF] at this;omega
    have wC:x.size≤n:=by omega
    have hI:∀ b,b<3→b=0∨b=1∨b=2:=fun b hb=>by omega
    refine aq.ya (Z:=oB M) (f:=.fn 186 [] [.ptr 0 0, .ptr 1 0]) (fun b=>if b=2 then 3 else b) (fun b b' h1 h2 e=>?_) (fun b hb=>?_) (fun b hb=>?_) (by simp [oB,go_sem]) rfl (by simp [go_sem,dH,dB]) (by simp [oB,go_sem])
     (O9 n x (p++[(i:Int)]) M wC (by simp only [ay,ax,aS];omega) (by omega)) ?_
    ·rcases hI b h1 with rfl | rfl | rfl<;>rcases hI b' h2 with rfl | rfl | rfl<;>first | rfl | exact absurd e (by decide)
    ·rcases hI b hb with rfl | rfl | rfl<;>simp
    ·rcases hI b hb with rfl | rfl | rfl
     ·exact ⟨_,rfl,by simp [go_sem]⟩
     ·exact ⟨_,rfl,rfl⟩
     ·exact ⟨_,rfl,by simp [go_sem]⟩
    ·rintro r Z' ⟨rfl,rfl⟩
     refine ⟨by simp [oB,qi],by simp [qi,go_sem],by simp [go_sem],?_⟩
     simp only [go_sem,oB,qi,jX,fv,nj,aB,aP]
     refine aK.go 1000 ?_
     simp only [go_sem]
     refine ⟨⟨(i+1,M++x.fC (p++[(i:Int)])),by simp only;omega,by simp [hM],by rw [← aQ,cx],by simp only [ay,zh];omega⟩,[(3,6),(6,3)],jb rfl ?_,by simp only;omega⟩
     simp only [go_sem,hw,bR,cI (bR _),dB,cI (dB _)]
     trace_state
   ·have dV:i=t.args.length:=by omega
    subst dV
    rw [aV,Tm.iY,bq] at aQ
    unfold qi
    simp only [go_sem,bG]
    refine aK.go 1000 ?_
    simp only [go_sem]
    rw [fY,← aQ]
    exact ⟨_,fN _,by simp,by simp [go_sem],by simp [go_sem],rfl,rfl⟩
theorem Qk (t:Tm) (h:t.size≤1000000):aJ Tryz.prog 166 [t.aO] (.ps 1 (oR (t.fC []))):=by
 refine aJ.mq (rs:=[.tmp 2]) (m:=9) Tryz.func166 rfl rfl rfl (by decide) (of_eq_true (wU _)) ?_
 refine aK.pad 1 (ah _) (by simp [go_sem,dH]) trivial ?_
 refine aK.go 1000 ?_
 simp only [go_sem,dh,bh,List.replicate_one]
 refine aq.Ms (args':=[t.aO, .ps 1 (ints [])]) ?_ ?_
 ·rw [dh]
  simp only [go_sem,FJ]
 have hI:∀ b,b<3→b=0∨b=1∨b=2:=fun b hb=>by omega
 refine aq.ya (Z:=oB []) (f:=.fn 186 [] [.ptr 0 0, .ptr 1 0]) (fun b=>if b=2 then 0 else b+2) (fun b b' h1 h2 e=>?_) (fun b hb=>?_) (fun b hb=>?_) (by simp [oB,go_sem]) rfl (by simp [go_sem,dH,dB]) (by simp [oB,go_sem])
  (O9 _ t [] [] (ah _) (by simpa using h) (by simpa using h)) ?_
 ·rcases hI b h1 with rfl | rfl | rfl<;>rcases hI b' h2 with rfl | rfl | rfl<;>first | rfl | exact absurd e (by decide)
 ·rcases hI b hb with rfl | rfl | rfl<;>simp
 ·rcases hI b hb with rfl | rfl | rfl<;>exact ⟨_,rfl,rfl⟩
 rintro r Z' ⟨rfl,rfl⟩
 refine ⟨by simp [oB,qi],by simp [qi,go_sem],by simp [go_sem],?_⟩
 simp only [go_sem,oB,qi,jX,fv,nj,aB,aP]
 refine aK.go 1000 ?_
 simp only [go_sem]
 have ep:oR (t.fC [])≠[]:=by cases t;simp [oR,Tm.fC]
 rw [CF ep,BA ep]
 simp only [go_sem]
 rw [bd (ah _)]
 exact cJ _ _ _
def Tm.mo:Tm→List Int→Option Tm
 | t,[]=>some t
 | t,n :: p=>if n<0 then none else if h:n.toNat<t.args.length then (t.args[n.toNat]).mo p else none
def fI:Tm:=.mk 0 []
theorem JV (t:Tm) (p:List Int) (hp:p.length≤1000000) (ht:t.size≤1000000000):aJ Tryz.prog 167 [t.aO, .ps 1 (ints p)] (.dA [((t.mo p).getD fI).aO, .bool (t.mo p).isSome]):=by
 refine aJ.begin (rs:=[.cell 4 70, .tmp 5]) (m:=29) 1000 Tryz.func167 rfl rfl rfl (by decide) (by simp [go_sem,dH]) ?_
 simp only [go_sem,fJ,lF]
 refine aK.dc (ι:={q:Nat×Tm // q.1≤p.length∧q.2.mo (p.drop q.1)=t.mo p∧q.2.size≤t.size}) 1000 (fun q=>f_ 31 [(2, .ptr 0 0),(4, .ptr 1 0),(5, .bool false),(8, .ps 1 (ints p)),(9, .int .i64 p.length),(10, .int .i64 q.1.1)])
  (fun q=>[some (.var [.int .i64 q.1.2.head, .ps 2 (q.1.2.args.map Tm.aO)]),some (.var [.int .i64 0, .aU])]) (fun q=>p.length - q.1.1) ⟨(0,t),by simp⟩ ?_ (fun _=>av _) ?_
 ·simp only [go_sem,bR,dB]
 ·rintro ⟨⟨i,u⟩,hi,lj,yI⟩
  simp only at hi lj yI
  have mz:=qh u.args
  have NZ:=oM u
  by_cases bG:(i:Int)<p.length
  ·have aZ:i<p.length:=by omega
   have hw:IntKind.i64.wrap ((i:Int)+1)=((i+1:Nat):Int):=by rw [eC (by omega)];omega
   rw [ao aZ,Tm.mo] at lj
   obtain ⟨n,hn⟩:∃ n,p[i]=n:=⟨_,rfl⟩
   have hg:=xy aZ
   rw [hn] at lj hg
   by_cases h0:n<0
   ·rw [if_pos h0] at lj
    simp only [go_sem,bG,hg,lF,h0]
    refine ⟨by omega,?_⟩
    refine aK.go 1000 ?_
    simp only [go_sem,← lj,eB,Option.isSome_none,dh,fI,Tm.head,Tm.args,aP]
   ·rw [if_neg h0] at lj
    by_cases h1:n.toNat<u.args.length
    ·rw [dif_pos h1] at lj
     have h2:¬ (u.args.length:Int)≤n:=by omega
     have yq:(u.args.map Tm.aO).getD n.toNat .undef=(u.args[n.toNat]).aO:=n6 h1
     simp only [go_sem,bG,hg,lF,h0,h2,hw,yq,fJ]
     refine ⟨by omega,⟨by omega,by omega⟩,⟨(i+1,u.args[n.toNat]),by simp only;omega,lj,?_⟩,?_⟩
     ·have a1:=Ci u.args n.toNat h1
      have a2:=Ce u.args (n.toNat+1)
      simp only;omega
     ·refine ⟨⟨rfl,rfl,dB _,bR _⟩,by simp only;omega⟩
    ·rw [dif_neg h1] at lj
     have h2:(u.args.length:Int)≤n:=by omega
     simp only [go_sem,bG,hg,lF,h0,h2]
     refine ⟨by omega,?_⟩
     refine aK.go 1000 ?_
     simp only [go_sem,← lj,eB,Option.isSome_none,dh,fI,Tm.head,Tm.args,aP]
  ·have dV:i=p.length:=by omega
   subst dV
   rw [aV,Tm.mo] at lj
   simp only [go_sem,bG]
   refine aK.go 1000 ?_
   simp only [go_sem,← lj]
   rw [dh]
   exact cJ _ _ _
def Tm.gX:Tm→List Int→Tm→Tm
 | _,[],u=>u
 | t,n :: p,u=>.mk t.head (t.args.set n.toNat ((t.args.getD n.toNat fI).gX p u))
theorem Mn:fI.head=0:=rfl
theorem LY:fI.args=[]:=rfl
theorem Br {σ τ:ai} {b:Nat} (h:b < σ.length):bH (σ++τ) b=bH σ b:=by simp only [bH,cn h]
theorem wk {σ:ai} {b c:Nat} {x:Option bE} (h:c≠b):bH (σ.set c x) b=bH σ b:=by simp only [bH,bM h]
theorem Bl {σ:ai} {b:Nat} {x:Option bE} (h:b < σ.length):bH (σ.set b x) b=x:=by simp [bH,h]
theorem Es {σ:ai} {b:Nat} {x:bE} (h:b < σ.length):b_ σ b x = σ.set b (some x):=if_pos h
theorem Fg {n:Nat} {x:Option bE} (hx:jw n x):∀ {σ:ai} (b:Nat),bw n σ→bw n (σ.set b x)
 | [],_,_=>trivial
 | a :: σ,0,h=>⟨hx,h.2⟩
 | a :: σ,b+1,h=>⟨h.1,Fg hx b h.2⟩
theorem P5 {S:ai} {w':Tm} {x:ae} (hx:pT (fun _=>true) S w'.aO x):∀ (l:List Tm) (j:Nat),kO (fun _=>true) S ((l.set j w').map Tm.aO) ((l.map Tm.aO).set j x)
 | [],_=>by simp [kO]
 | a :: l,0=>by
  simp only [c_,aB,FE]
  exact ⟨hx,cJ _ _ _⟩
 | a :: l,j+1=>by
  simp only [cW,aB,FE]
  exact ⟨wm _ _ _,P5 hx l j⟩
theorem Vy {S:ai} {w':Tm} {x:ae} (hx:pT (fun _=>true) S w'.aO x) (h:Int) (l:List Tm) (j b:Nat) (hg:bH S b=some (.row ((l.map Tm.aO).set j x) 0)) :
  pT (fun _=>true) S (Tm.mk h (l.set j w')).aO (.agg [.int .i64 h, .os b 0 l.length 2]):=by
 rw [dh]
 simp only [go_sem,Tm.head,Tm.args,hg,bg]
 rw [bd (by simp)]
 exact P5 hx l j
theorem TS {n:Nat} {x:ae}:∀ {l:List ae},bz n l→x.low n→∀ i,bz n (l.set i x)
 | [],_,_,_=>trivial
 | a :: l,h,hx,0=>⟨hx,h.2⟩
 | a :: l,h,hx,i+1=>⟨h.1,TS h.2 hx i⟩
structure Be where
 k:Nat
 w:Tm
 a:ae
 σ:ai
def Cd (t:Tm) (p:List Int) (u:Tm) (q:Be):Prop :=
 q.k≤p.length∧(q.w.mo (p.drop q.k)).isSome=true∧q.w.size≤t.size∧5≤q.σ.length∧bw q.σ.length q.σ∧q.a.low q.σ.length∧bH q.σ 1=some (.var [.int .i64 u.head, .ps 2 (u.args.map Tm.aO)])∧bH q.σ 2=some (.var [.int .i64 0, .aU]) ∧
 ((q.k=0∧q.a = .ptr 4 0∧q.w=t∧bH q.σ 4=some (.var [.int .i64 t.head, .ps 2 (t.args.map Tm.aO)])) ∨
  ∃ (c i:Nat) (es:List ae) (c0 c1:ae) (F:Tm→Tm),q.a = .rp c i 0∧5≤c∧c<q.σ.length∧bH q.σ c=some (.row es 0)∧i<es.length∧es.getD i .undef=q.w.aO∧bH q.σ 4=some (.var [c0,c1])∧c0.cK=true∧c1.cK=true ∧
   F (q.w.gX (p.drop q.k) u)=t.gX p u ∧
   ∀ (S:ai) (w':Tm) (x:ae),(∀ b,5≤b→b<q.σ.length→b≠c→bH S b=bH q.σ b)→bH S c=some (.row (es.set i x) 0)→pT (fun _=>true) S w'.aO x→pT (fun _=>true) S (F w').aO (.agg [c0,c1]))
theorem Yri (t:Tm) (p:List Int) (u v:Tm) (hp:p.length≤1000000) (ht:t.size≤1000000) (h:t.mo p=some v):aJ Tryz.prog 173 [t.aO, .ps 1 (ints p),u.aO] (.dA [(t.gX p u).aO, .int .i64 0]):=by
 refine aJ.begin (rs:=[.cell 6 70, .tmp 7]) (m:=46) 1000 Tryz.func173 rfl rfl rfl (by decide) (by simp [go_sem,dH]) ?_
 simp only [go_sem,fJ]
 refine aq.bV [] (JV t p hp (by omega)) (by (try simp only [dh]);exact cJ _ _ _) (by simp [go_sem,dH,bR,dB]) ?_;rw [jj];simp only [ite_self];refine aK.go 1000 ?_
 rw [h]
 simp only [go_sem,br,Option.isSome_some,dh,lF]
 refine aK.dc (ι:={q:Be // Cd t p u q}) 1000 (fun q=>f_ 49 [(5, .ptr 1 0),(6, .ptr 2 0),(7, .int .i64 0),(10, .ptr 4 0),(11,q.1.a),(24, .ps 1 (ints p)),(25, .int .i64 p.length),(26, .int .i64 q.1.k)])
  (fun q=>q.1.σ) (fun q=>p.length - q.1.k) ⟨⟨0,t, .ptr 4 0,[none,some (.var [.int .i64 u.head, .ps 2 (u.args.map Tm.aO)]),some (.var [.int .i64 0, .aU]),none,some (.var [.int .i64 t.head, .ps 2 (t.args.map Tm.aO)])]⟩,?_⟩ ?_ (fun _=>av _) ?_
 ·refine ⟨av _,by simp [h],ah _,by simp,by simp [go_sem,bR],by simp [go_sem],rfl,rfl, .inl ⟨rfl,rfl,rfl,rfl⟩⟩
 ·simp only [go_sem,dB,bR]
 ·rintro ⟨⟨k,w,a,σ⟩,hk,lj,fH,yF,iU,sZ,rZ,vG,hq⟩
  simp only at hk lj fH yF iU sZ rZ vG hq
  have mz:=qh w.args
  have pO:cN w.aO=true:=by rw [dh];rfl
  have wH:∀ cs,jx true cs = .agg cs:=fun _=>rfl
  have wz:=oM w
  by_cases bG:(k:Int)<p.length
  ·have aZ:k<p.length:=by omega
   have hw:IntKind.i64.wrap ((k:Int)+1)=((k+1:Nat):Int):=by rw [eC (by omega)];omega
   rw [ao aZ,Tm.mo] at lj
   obtain ⟨n,hn⟩:∃ n,p[k]=n:=⟨_,rfl⟩
   have hg:=xy aZ
   rw [hn] at lj hg
   have h0:¬ n<0:=fun h0=>by rw [if_pos h0] at lj;cases lj
   rw [if_neg h0] at lj
   have h1:n.toNat<w.args.length:=Decidable.by_contra fun h1=>by rw [dif_neg h1] at lj;cases lj
   rw [dif_pos h1] at lj
   have ep:w.args≠[]:=by intro e;rw [e] at h1;simp at h1
   have WO:w.gX (p.drop k) u = .mk w.head (w.args.set n.toNat ((w.args[n.toNat]).gX (p.drop (k+1)) u)):=by
    rw [ao aZ,hn,Tm.gX];simp [List.getD,h1]
   rcases hq with ⟨rfl,rfl,rfl,zz⟩ | ⟨c,i,es,c0,c1,F,rfl,Ws,gU,yq,EK,oO,zz,zC,Jy,hF,yE⟩
   ·have Ny:(0:Int)<p.length:=by simpa using bG
    simp only [go_sem,Ny,hg,lF,zz]
    refine aq.td [] (Fh w.args ep (by omega)) (cJ _ _ _) (by simp [go_sem,bR]) ?_
    rw [jj]
    simp only [Af,Ah,Ak,xv,Am,up,cI (bR _)]
    obtain ⟨iZ,jk⟩:∃ iZ,σ++[none,some (bE.row (w.args.map Tm.aO) 0)] = iZ:=⟨_,rfl⟩
    have AL : iZ.length = σ.length+2:=by rw [← jk];simp
    have C9:bH iZ 4=some (.var [.int .i64 w.head, .ps 2 (w.args.map Tm.aO)]):=by rw [← jk,Br (by omega)];exact zz
    have CU : 4 < iZ.length:=by omega
    have ql:bw iZ.length iZ:=by
     rw [AL,← jk]
     exact py (nL (by omega) iU) (by simp [go_sem,bR])
    rw [jk]
    refine aK.go 1000 ?_
    simp only [go_sem,C9,Es CU,Bl CU]
    refine ⟨⟨by omega,by omega⟩,⟨⟨1,w.args[n.toNat], .rp (1 + σ.length) n.toNat 0,_⟩,?_⟩,⟨⟨.inl rfl,rfl⟩,fN _,?_,?_⟩,by simp only;omega⟩
    ·have a1:=Ci w.args n.toNat h1
     have a2:=Ce w.args (n.toNat+1)
     refine ⟨by simp only;omega,lj,by simp only;omega,by simp only [bg];omega,?_,?_,?_,?_, .inr ⟨1 + σ.length,n.toNat,w.args.map Tm.aO,_,_,fun w'=>.mk w.head (w.args.set n.toNat w'),rfl,by omega,by simp only [bg];omega,?_,by simpa using h1,n6 h1,Bl CU,rfl,rfl,WO.symm,?_⟩⟩
     ·simp only [bg]
      exact Fg (by simp [jw,go_sem];omega) 4 ql
     ·simp [go_sem];omega
     ·simp only;rw [wk (by decide),← jk,Br (by omega)];exact rZ
     ·simp only;rw [wk (by decide),← jk,Br (by omega)];exact vG
     ·simp only;rw [wk (by omega),← jk,Nat.add_comm];simp [bH]
     ·intro S w' x _ hS hx
      exact Vy hx _ _ _ _ hS
    ·simp only [bg]
     exact ⟨by omega,by omega,by omega,by simp [go_sem];omega,dB _⟩
    ·simp only [bg]
     exact Fg (by simp [jw,go_sem];omega) 4 ql
   ·simp only [go_sem,bG,hg,lF,yq,EK,oO,fJ]
    refine ⟨by omega,?_⟩
    refine aq.td [] (Fh w.args ep (by omega)) (cJ _ _ _) (by simp [go_sem,bR]) ?_
    rw [jj]
    simp only [Af,Ah,Ak,xv,Am,up,cI (bR _)]
    obtain ⟨iZ,jk⟩:∃ iZ,σ++[none,some (bE.row (w.args.map Tm.aO) 0)] = iZ:=⟨_,rfl⟩
    have AL : iZ.length = σ.length+2:=by rw [← jk];simp
    have C_:bH iZ c=some (.row es 0):=by rw [← jk,Br gU];exact yq
    have CU:c < iZ.length:=by omega
    have ql:bw iZ.length iZ:=by
     rw [AL,← jk]
     exact py (nL (by omega) iU) (by simp [go_sem,bR])
    have vN:∀ fz,jw iZ.length (some (.row (es.set i (.agg [.int .i64 w.head, .os (1 + σ.length) 0 w.args.length 2])) fz)):=fun fz=>by
     have GF:bz iZ.length es:=qL ql c _ (j_ C_)
     exact TS GF (by simp [go_sem];omega) i
    have GF:bz iZ.length es:=qL ql c _ (j_ C_)
    have anD:i<(es.set i (.agg [.int .i64 w.head, .os (1 + σ.length) 0 w.args.length 2])).length:=by simpa using EK
    have il:(es.set i (ae.agg [.int .i64 w.head, .os (1 + σ.length) 0 w.args.length 2])).getD i .undef = .agg [.int .i64 w.head, .os (1 + σ.length) 0 w.args.length 2]:=by simp [List.getD,EK]
    rw [jk]
    refine aK.go 1000 ?_
    simp only [go_sem,C_,Es CU,Bl CU,EK,oO,fJ,pO,wH,bg,il]
    refine ⟨by omega,⟨by omega,by omega⟩,⟨⟨k+1,w.args[n.toNat], .rp (1 + σ.length) n.toNat 0,_⟩,?_⟩,⟨⟨.inl rfl,by rw [hw]⟩,fN _,?_,?_⟩,by simp only;omega⟩
    ·have a1:=Ci w.args n.toNat h1
     have a2:=Ce w.args (n.toNat+1)
     refine ⟨by simp only;omega,lj,by simp only;omega,by simp only [bg];omega,?_,?_,?_,?_, .inr ⟨1 + σ.length,n.toNat,w.args.map Tm.aO,c0,c1,fun w'=>F (.mk w.head (w.args.set n.toNat w')),rfl,by omega,by simp only [bg];omega,?_,by simpa using h1,n6 h1,?_,zC,Jy,by simp only;rw [← hF,WO],?_⟩⟩
     ·simp only [bg]
      exact Fg (vN 0) c ql
     ·simp [go_sem];omega
     ·simp only;rw [wk (by omega),← jk,Br (by omega)];exact rZ
     ·simp only;rw [wk (by omega),← jk,Br (by omega)];exact vG
     ·simp only;rw [wk (by omega),← jk,Nat.add_comm];simp [bH]
     ·simp only;rw [wk (by omega),← jk,Br (by omega)];exact zz
     ·intro S w' x BI hS hx
      refine yE S _ (.agg [.int .i64 w.head, .os (1 + σ.length) 0 w.args.length 2]) (fun b h5 hb ep=>?_) ?_ (Vy hx _ _ _ _ hS)
      ·rw [BI b h5 (by simp only [bg];omega) (by omega)]
       simp only;rw [wk (by omega),← jk,Br hb]
      ·rw [BI c Ws (by simp only [bg];omega) (by omega)]
       simp only;rw [Bl CU]
    ·simp only [bg]
     exact ⟨by omega,by omega,by omega,by simp [go_sem];omega,dB _⟩
    ·simp only [bg]
     exact Fg (vN 0) c ql
  ·have dV:k=p.length:=by omega
   subst dV
   rw [aV] at hq
   rcases hq with ⟨h0,rfl,rfl,zz⟩ | ⟨c,i,es,c0,c1,F,rfl,Ws,gU,yq,EK,oO,zz,zC,Jy,hF,yE⟩
   ·simp only [go_sem,bG]
    refine aK.go 1000 ?_
    have V_:=Al zz
    have V8:=Al vG
    have Ng:bH (σ.set 4 (some (bE.var [.int .i64 u.head, .ps 2 (u.args.map Tm.aO)]))) 2=some (.var [.int .i64 0, .aU]):=by rw [wk (by decide)];exact vG
    simp only [go_sem,rZ,vG,zz,Es V_,Bl V_,Ng]
    rw [Es (by simpa using V8),Bl (by simpa using V8)]
    have NM:p=[]:=aY h0
    subst NM
    rw [Tm.gX]
    simp only [go_sem]
   ·simp only [go_sem,bG]
    refine aK.go 1000 ?_
    have Nf:∀ X,bH (σ.set c X) 2=some (.var [.int .i64 0, .aU]):=fun X=>by rw [wk (by omega)];exact vG
    have C9:∀ X,bH (σ.set c X) 4=some (.var [c0,c1]):=fun X=>by rw [wk (by omega)];exact zz
    simp only [go_sem,rZ,vG,zz,yq,EK,oO,fJ,pO,wH,Es gU,Nf,C9,zC,Jy]
    rw [Es (by simp only [bg];omega),Bl (by simp only [bg];omega)]
    have gB:pT (fun _=>true) ((σ.set c (some (bE.row (es.set i u.aO) 0))).set 2 (some (bE.var [c0,c1]))) (t.gX p u).aO (.agg [c0,c1]):=by
     rw [← hF,Tm.gX]
     refine yE _ u _ (fun b h5 hb ep=>?_) ?_ (wm _ _ _)
     ·rw [wk (by omega),wk (by omega)]
     ·rw [wk (by omega),Bl gU]
    rw [dh u,dh (t.gX p u)] at gB
    simp only [go_sem] at gB
    simp only [go_sem,zC,Jy]
    exact ⟨by omega,gB⟩
structure Bd where
 v:Int
 t:Tm
def Bd.aO (b:Bd):ae:=.agg [.int .i64 b.v, .int .i64 b.t.head, .ps 2 (b.t.args.map Tm.aO)]
def n8 (l:List Bd):List ae:=l.map Bd.aO
theorem Bw (l:List Bd):(n8 l).length=l.length:=by simp [n8]
theorem Yz6 {n:Nat} (b:Bd):b.aO.low n:=⟨trivial,trivial,bR _,trivial⟩
@[go_sem] theorem Ev {n:Nat} (l:List Bd):bz n (n8 l)=True:=eq_true (uT fun b _=>Yz6 b)
theorem PR {l:List Bd} {i:Nat} (h:i<l.length):(n8 l).getD i .undef=l[i].aO:=n6 h
theorem FF (b:Bd):b.aO.cells=[.int .i64 b.v, .int .i64 b.t.head, .ps 2 (b.t.args.map Tm.aO)]:=rfl
def jB:Int→List Bd→Int
 | _,[]=>0
 | m,b :: l=>if b.v≤m∨255<b.v∨b.t.check≠0∨b.t.head = -1 - b.v then 1 else jB b.v l
theorem Ygf (bs:List Bd) (hl:bs.length<1000000) (hb:∀ b∈bs,b.t.size<99999999):aJ Tryz.prog 189 [.ps 3 (n8 bs)] (.int .i64 (jB (-1) bs)):=by
 refine aJ.begin (rs:=[.tmp 2]) (m:=38) 1000 Tryz.func189 rfl rfl rfl (by decide) trivial ?_
 simp only [go_sem,Bw]
 refine aK.dc (ι:={q:Nat×Int // q.1≤bs.length∧jB q.2 (bs.drop q.1)=jB (-1) bs∧-1≤q.2}) 1000 (fun q=>f_ 39 [(2, .int .i64 0),(3, .int .i64 q.1.2),(6, .ps 3 (n8 bs)),(7, .int .i64 bs.length),(8, .int .i64 q.1.1)])
  (fun _=>[]) (fun q=>bs.length - q.1.1) ⟨(0, -1),by simp⟩ ?_ (fun _=>av _) ?_
 ·simp only [go_sem]
 ·rintro ⟨⟨i,m⟩,hi,aQ,hm⟩
  simp only at hi aQ hm
  by_cases bG:(i:Int)<bs.length
  ·have aZ:i<bs.length:=by omega
   have hw:IntKind.i64.wrap ((i:Int)+1)=((i+1:Nat):Int):=by rw [eC (by omega)];omega
   rw [ao aZ,jB] at aQ
   have jM:=hb _ (aE aZ)
   have hg:=PR aZ
   obtain ⟨b,hbi⟩:∃ b,bs[i]=b:=⟨_,rfl⟩
   rw [hbi] at aQ jM hg
   by_cases h1:b.v≤m
   ·rw [if_pos (.inl h1)] at aQ
    simp only [go_sem,bG,Bw,hg,FF,h1]
    refine ⟨by omega,?_⟩
    refine aK.go 1000 ?_
    simp only [go_sem,← aQ]
   ·by_cases h2 : 255<b.v
    ·rw [if_pos (.inr (.inl h2))] at aQ
     simp only [go_sem,bG,Bw,hg,FF,h1,h2]
     refine ⟨by omega,?_⟩
     refine aK.go 1000 ?_
     simp only [go_sem,← aQ]
    ·have rN:=Cm b.t (by omega)
     simp only [go_sem,bG,Bw,hg,FF,h1,h2]
     refine ⟨by omega,?_⟩
     refine aq.bV [] (rN) (by (try simp only [dh]);exact cJ _ _ _) (by simp [go_sem,dH,bR]) ?_;simp only [bP,bY,bX,if_true];refine aK.go 1000 ?_
     by_cases h3:b.t.check=0
     ·have r8:IntKind.i64.wrap (-1 - b.v) = -1 - b.v:=eC (by omega)
      by_cases h4:b.t.head = -1 - b.v
      ·rw [if_pos (.inr (.inr (.inr h4)))] at aQ
       simp only [go_sem,h3,r8,h4]
       refine aK.go 1000 ?_
       simp only [go_sem,← aQ]
      ·rw [if_neg (by simp [h1,h2,h3,h4])] at aQ
       simp only [go_sem,h3,r8,h4,hw]
       refine ⟨⟨(i+1,b.v),by simp only;omega,aQ,by simp only;omega⟩,⟨rfl,rfl⟩,by simp only;omega⟩
     ·rw [if_pos (.inr (.inr (.inl h3)))] at aQ
      simp only [go_sem,h3]
      refine aK.go 1000 ?_
      simp only [go_sem,← aQ]
  ·have dV:i=bs.length:=by omega
   subst dV
   rw [aV,jB] at aQ
   simp only [go_sem,bG]
   refine aK.go 1000 ?_
   simp only [go_sem,← aQ]
theorem PY (t:Tm) (fH:t.size<99999999):aJ Tryz.prog 190 [t.aO] (if t.check=0 then .dA [t.aO, .int .i64 0] else .dA [fI.aO, .int .i64 t.check]):=by
 refine aJ.begin (rs:=[.cell 2 70, .tmp 3]) (m:=11) 1000 Tryz.func190 rfl rfl rfl (by decide) (by split<;>simp [go_sem,dH]) ?_
 have rN:=Cm t (by omega)
 simp only [go_sem,fJ]
 refine aq.bV [] (rN) (by (try simp only [dh]);exact cJ _ _ _) (by simp [go_sem,dH,bR]) ?_;simp only [bP,bY,bX,if_true];refine aK.go 1000 ?_
 by_cases h:t.check=0
 ·rw [if_pos h]
  simp only [go_sem,h,dh]
 ·rw [if_neg h]
  simp only [go_sem,h,dh,Mn,LY,aP]
def fF (bs:List Bd):List ae:=bs.map fun b=>.int .i64 b.v
def gf (bs:List Bd):List ae:=bs.map fun b=>b.t.aO
def qb (bs:List Bd) (t:Tm):Tm:=((bs.find? fun b=>b.v == -1 - t.head).map Bd.t).getD t
theorem zj (bs:List Bd) (v:Int):(fF bs).all (sameKind (.int .i64 v))=true:=by
 simp [fF,sameKind]
theorem Fm (v:Int):∀ (bs:List Bd) (n:Nat),(match fe (.int .i64 v) (fF bs) n with | some i=>n≤i∧∃ b,bs[i - n]? = some b∧bs.find? (fun b=>b.v==v)=some b | none=>bs.find? (fun b=>b.v==v)=none)
 | [],n=>by simp [fF,fe]
 | b :: bs,n=>by
  have ih:=Fm v bs (n+1)
  simp only [fF,aB,fe,gK] at ih ⊢
  by_cases c:b.v=v
  ·have hc:fq (.int .i64 v) (.int .i64 b.v)=true:=by simp [fq,c]
   have lq:(b.v==v)=true:=by simpa using c
   rw [hc,if_pos rfl]
   refine ⟨ah _,b,by simp,?_⟩
   rw [lq]
  ·have hc:fq (.int .i64 v) (.int .i64 b.v)=false:=by simp only [fq,beq_eq_false_iff_ne];exact fun e=>c e.symm
   have lq:(b.v==v)=false:=by simpa using c
   rw [hc,lq]
   simp only [a_,if_false]
   split at ih
   ·rename_i i _
    obtain ⟨h1,x,h2,h3⟩:=ih
    refine ⟨by omega,x,?_,h3⟩
    rw [show i - n=(i - (n+1))+1 by omega];simpa using h2
   ·exact ih
theorem KC (bs:List Bd) (v:Int) (z:ae):eT (fF bs) (gf bs) z (.int .i64 v) true=match bs.find? (fun b=>b.v==v) with | some b=>.dA [b.t.aO, .bool true] | none=>.dA [z, .bool false]:=by
 have h:=Fm v bs 0
 unfold eT
 cases hk:fe (.int .i64 v) (fF bs) 0 with
 | some i =>
  rw [hk] at h
  obtain ⟨_,b,h2,h3⟩:=h
  rw [h3]
  simp only [if_true,gf,List.getD,cf]
  rw [gR] at h2
  rw [h2];rfl
 | none =>
  rw [hk] at h
  rw [show bs.find? (fun b=>b.v==v)=none from h];rfl
theorem Yv6 (bs:List Bd) (t:Tm) (ht:ov (-1 - t.head)):aJ Tryz.prog 193 [.pm (fF bs) (gf bs),t.aO] (qb bs t).aO:=by
 refine aJ.begin (rs:=[.cell 4 70]) (m:=16) 1000 Tryz.func193 rfl rfl rfl (by decide) (by simp [go_sem,dH]) ?_
 have hw:IntKind.i64.wrap (-1 - t.head) = -1 - t.head:=eC ht
 have tH:qb bs t=((bs.find? fun b=>b.v == -1 - t.head).map Bd.t).getD t:=rfl
 have pc:=KC bs (-1 - t.head) (.agg [.int .i64 0, .aU])
 cases hf:bs.find? (fun b=>b.v == -1 - t.head) with
 | some b =>
  rw [hf] at pc tH
  rw [tH]
  simp only [go_sem,fJ,hw,zj,pc,dh,bu,br]
 | none =>
  rw [hf] at pc tH
  rw [tH]
  simp only [go_sem,fJ,hw,zj,pc,dh,iN,eB]
mutual
def Tm.sub (bs:List Bd):Tm→Tm
 | .mk h ts=>if h<0 then qb bs (.mk h ts) else .mk h (Tm.sf bs ts)
def Tm.sf (bs:List Bd):List Tm→List Tm
 | []=>[]
 | t :: ts=>t.sub bs :: Tm.sf bs ts
end
theorem UC (bs:List Bd):∀ ts,Tm.sf bs ts=ts.map (Tm.sub bs)
 | []=>rfl
 | t :: ts=>by simp [Tm.sf,UC bs ts]
def vV (bs:List Bd):ae:=.fn 193 [.pm (fF bs) (gf bs)] []
theorem iO {n:Nat} (bs:List Bd):bz n (fF bs)∧bz n (gf bs):=⟨uT fun _ _=>trivial,uT fun b _=>dH b.t⟩
@[go_sem] theorem Xap {π:Nat→Nat} (bs:List Bd):dL π (vV bs)=vV bs:=Ac (show ae.low 0 (vV bs) from ⟨⟨iO bs,trivial⟩,trivial⟩)
@[go_sem] theorem Xai {n:Nat} (bs:List Bd):ae.low n (vV bs)=True:=eq_true ⟨⟨iO bs,trivial⟩,trivial⟩
@[go_sem] theorem xS (b sz:Nat) (l:List ae):((jo b sz l).cK=true)=True:=eq_true (by cases l<;>rfl)
theorem PG {bs:List Bd} {t:Tm} (h:t.head<0):t.sub bs=qb bs t:=by
 cases t;rw [Tm.sub];exact if_pos h
theorem Yrw {bs:List Bd} {t:Tm} (h:¬ t.head<0):t.sub bs = .mk t.head (t.args.map (Tm.sub bs)):=by
 cases t;rw [Tm.sub,UC];exact if_neg h
theorem Fy {t:Tm} (h:t.fit):ov t.head:=by cases t;exact h.1
theorem xw {t:Tm} (h:t.fit):Tm.fits t.args:=by cases t;exact h.2
theorem Sf (bs:List Bd):∀ (n:Nat) (t:Tm),t.size≤n→t.size≤100000000→t.fit→aJ Tryz.prog 191 [t.aO,vV bs] (t.sub bs).aO
 | 0,t,h,_,_=>by have:=oM t;omega
 | n+1,t,h,hs,hf=>by
  refine aJ.begin (rs:=[.cell 4 70]) (m:=32) 1000 Tryz.func191 rfl rfl rfl (by decide) (by simp [go_sem,dH]) ?_
  have fH:=oM t
  have mz:=qh t.args
  by_cases ff:t.head<0
  ·simp only [go_sem,fJ,ff]
   have zw:t.sub bs=qb bs t:=PG ff
   have fE:ov (-1 - t.head):=by have:=Fy hf;unfold ov at *;omega
   refine aq.bV [] (Yv6 bs t fE) (by simp only [bn,bh,bq,dh];exact cJ _ _ _) (by simp [go_sem,dH,iO]) ?_
   rw [jj];simp only [ite_self]
   refine aK.go 1000 ?_
   rw [zw]
   simp only [go_sem,fJ]
   rw [dh];exact cJ _ _ _
  ·simp only [go_sem,fJ,ff,ak]
   refine aK.im (ι:={q:Nat×List Tm // q.1≤t.args.length∧q.2=(t.args.take q.1).map (Tm.sub bs)}) 1000 (fun q=>f_ 34 [(1,vV bs),(4, .ptr 1 0),(5, .ptr 2 0),(18, .ps 2 (t.args.map Tm.aO)),(19, .int .i64 t.args.length),(20, .int .i64 q.1.1)])
    (fun q=>[none,some (.var [.int .i64 0, .aU]),some (.var [.int .i64 t.head,jo 3 2 (q.1.2.map Tm.aO)]),e9 (q.1.2.map Tm.aO)]) (fun q=>t.args.length - q.1.1) ⟨(0,[]),by simp⟩ [] ?_ (fun _=>av _) ?_
   ·refine jb rfl ?_
    simp only [go_sem,aP,uW,tY,bR,cI (bR _)]
   ·rintro ⟨⟨i,L⟩,hi,hL⟩
    simp only at hi hL
    by_cases bG:(i:Int)<t.args.length
    ·have aZ:i<t.args.length:=by omega
     have hw:IntKind.i64.wrap ((i:Int)+1)=((i+1:Nat):Int):=by rw [eC (by omega)];omega
     have hg:(t.args.map Tm.aO).getD i .undef=t.args[i].aO:=n6 aZ
     simp only [go_sem,bG,ak,hg,fJ]
     refine ⟨by omega,?_⟩
     refine aK.draw [⟨none,[],[5]⟩,⟨none,[],[5]⟩, .no, .no, .no,⟨some 5,[5],[]⟩,⟨some 6,[3,6],[]⟩, .no,⟨none,[2],[]⟩] 5 7 mixed rfl rfl (by decide) ?_
     simp only [go_sem,dC]
     have qB:=IP (xw hf) i aZ
     have a1:=Ci t.args i aZ
     have a2:=Ce t.args (i+1)
     obtain ⟨x,hx⟩:∃ x,t.args[i]=x:=⟨_,rfl⟩
     simp only [hx] at qB a1 ⊢
     refine n5 (Sf bs n x (by omega) (by omega) qB) (by simp only [dh,bh,bq];exact cJ _ _ _) (by simp [go_sem,dH]) ?_
     have h3:bH ([none,some (.var [.int .i64 0, .aU]),some (.var [.int .i64 t.head,jo 3 2 (L.map Tm.aO)]),e9 (L.map Tm.aO),some (.var [.int .i64 x.head, .ps 2 (x.args.map Tm.aO)]),some (.row [(x.sub bs).aO] 0),none]) 3=e9 (L.map Tm.aO):=rfl
     have nR:=of_eq_true (Cu [x.sub bs])
     rw [show [x.sub bs].map Tm.aO=[(x.sub bs).aO] from rfl] at nR
     have rQ:List.take 1 [(x.sub bs).aO]=[(x.sub bs).aO]:=rfl
     simp only [go_sem,vl h3,nR,ak,rQ,fJ]
     have hLl:L.length=i:=by rw [hL];simp;omega
     refine ⟨by rw [dh];rfl,by omega,?_⟩
     refine aK.go 1000 ?_
     simp only [go_sem,hw]
     refine ⟨⟨(i+1,L++[x.sub bs]),by simp only;omega,by simp only;rw [hL,List.take_succ_eq_append_getElem aZ,hx];simp⟩,[(3,6),(6,3)],jb rfl ?_,by simp only;omega⟩
     have lw:bz 0 ((L++[x.sub bs]).map Tm.aO):=bR _
     dsimp only
     rw [cD] at lw ⊢
     rw [wo (by simp),wq (by simp)]
     simp only [aB,aP] at lw
     simp only [go_sem,bR,cI (bR _),cI lw,iC (av 4) lw,ak,ax,aS,aB,aP]
    ·have dV:i=t.args.length:=by omega
     subst dV
     simp only [go_sem,bG]
     refine aK.go 1000 ?_
     simp only [go_sem]
     rw [Yrw ff,dh]
     rw [show (Tm.mk t.head (t.args.map (Tm.sub bs))).head=t.head from rfl,show (Tm.mk t.head (t.args.map (Tm.sub bs))).args=t.args.map (Tm.sub bs) from rfl]
     rw [hL,dt]
     simp only [go_sem,sn]
theorem Zs0 (ts:List Bd) (n0:Nat) (ku:ai) (S:Nat→ai) (p:Nat) (y:ae) (h0 : ku.length=n0) (yf : ku++[none]=S 0) (hlen:∀ i,(S i).length=n0+1) (eL:∀ i,bH (S i) p=some (.var [.ps 3 (n8 ts)])) (hp:p<n0)
  (hs:∀ i,bw (n0+1) (S i)) (nT:bw n0 ku) (nV:y.low n0) (hl:ts.length<2 ^ 62)
  (hy:∀ i (h:i<ts.length),aq Tryz.prog y [.int .i64 ((ts.length:Int) - 1 - i),ts[ts.length - 1 - i].aO] (S i) (fun r σ'=>r = .bool true∧n0+1≤σ'.length∧bw σ'.length σ'∧∃ π:Nat→Nat,(∀ b,b<n0→π b=b)∧(∀ b b',b<n0+1→b'<n0+1→π b = π b'→b=b')∧gE π σ' 0 (S (i+1)))) :
  aq Tryz.prog (.fn 227 [] [.ptr p 0]) [y] ku (fun _ σ'=>σ'=S ts.length):=by
 subst h0
 refine aq.mq (rs:=[]) (m:=17) Tryz.func227 rfl rfl rfl rfl rfl ?_
 refine aK.pad 1 (ah _) (by simp [go_sem,nV,hp]) nT ?_
 rw [show List.replicate 1 (none:Option bE)=[none] from rfl,yf]
 refine aK.go 1000 ?_
 simp only [go_sem,eL,ah,Bw]
 rw [eC (by omega)]
 have Dk:bw (ku.length+1) (S 0):=hs 0
 refine aK.dc (ι:={i:Nat // i≤ts.length}) 1000 (fun i=>f_ 19 [(0,y),(1, .ptr p 0),(3, .int .i64 ((ts.length:Int) - 1 - i.1))]) (fun i=>S i.1) (fun i=>ts.length - i.1) ⟨0,by omega⟩ ?_ (fun i=>by rw [hlen];exact dN _) ?_
 ·simp only [go_sem,hlen,Dk,m_ (dN _) nV,cM,Int.sub_zero]
  exact ⟨fN _,by omega⟩
 ·rintro ⟨i,hi⟩
  by_cases bG : 0≤(ts.length:Int) - 1 - i
  ·have aZ:i<ts.length:=by omega
   have hb:ts.length - 1 - i<ts.length:=by omega
   have hn:((ts.length:Int) - 1 - i).toNat=ts.length - 1 - i:=by omega
   simp only [go_sem,bG,eL,ah,Bw,hn,PR hb,FF]
   (repeat ((with_reducible refine And.intro ?_ ?_); ·omega))
   refine aK.xX (.bool true) trivial (by rw [hlen];exact dN _) ?_ ?_ ?_ ?_ ?_ ?_
   ·rw [hlen];exact m_ (dN _) nV
   ·simp [go_sem,bR]
   ·rw [hlen];exact hs i
   ·rw [hlen]
    simp [go_sem,D8,Ea,CB,nV,hp,bR]
   ·rw [hlen]
    have og:=m_ (dN _) nV
    simp [go_sem,og,bR];omega
   rw [hlen]
   refine (hy i aZ).mono ?_
   rintro r σ' ⟨k1,k2,k3,π,k4,k5,k6⟩
   refine ⟨k1,k2,k3,π,S (i+1),hlen _,k4,k5,k6,hs _,?_⟩
   refine aK.go 1000 ?_
   simp only [go_sem]
   refine ⟨⟨i+1,aZ⟩,?_,by simp only;omega⟩
   have Dl:bw (ku.length+1) (S (i+1)):=hs (i+1)
   simp only [go_sem,hlen,Dl,m_ (dN _) nV]
   rw [eC (by omega)]
   exact ⟨by rw [show (ts.length:Int) - 1 - i - 1=ts.length - 1 - ((i+1:Nat):Int) by omega],fN _,by omega⟩
  ·have dV:i=ts.length:=by omega
   subst dV
   simp only [go_sem,bG]
   refine aK.go 1000 ?_
   simp only [go_sem]
   rw [fY]
   exact ⟨S ts.length,fN _,by rw [hlen];exact dN _,by rw [hlen];exact hs _,trivial,rfl⟩
theorem Zoa (ts:List Bd) (σ:ai) (hs:bw σ.length σ):aq Tryz.prog (.fn 211 [] []) [.ps 3 (n8 ts)] σ
  (fun r σ'=>r = .fn 227 [] [.ptr σ.length 0]∧σ' = σ++[some (.var [.ps 3 (n8 ts)])]):=by
 refine aq.begin (rs:=[.tmp 2]) (m:=3) 1000 Tryz.func211 rfl rfl rfl rfl rfl ?_
 simp only [go_sem]
 rw [Bu,fY]
 exact ⟨_,fN _,by simp,py (nL (by simp) hs) (by simp [go_sem,bR]),by simp [go_sem],rfl,rfl⟩
theorem KF {l:List Bd} {b:Bd} {x:ae} (hx:x=b.t.aO) (h:l.find? (fun c=>c.v==b.v)=none):iV (fF l) (gf l) (.int .i64 b.v) x=(fF (l++[b]),gf (l++[b])):=by
 have h1:=Fm b.v l 0
 unfold iV
 cases hk:fe (.int .i64 b.v) (fF l) 0 with
 | some i =>
  rw [hk] at h1
  obtain ⟨_,c,_,h3⟩:=h1
  rw [h] at h3;cases h3
 | none=>simp [fF,gf,hx]
theorem Yl5 (bs:List Bd) (hl:bs.length<1000000) (hd:(bs.map Bd.v).Nodup):aJ Tryz.prog 192 [.ps 3 (n8 bs)] (.pm (fF bs.reverse) (gf bs.reverse)):=by
 refine aJ.begin (rs:=[.tmp 2]) (m:=16) 1000 Tryz.func192 rfl rfl rfl (by decide) ⟨(iO _).1,(iO _).2⟩ ?_
 simp only [go_sem]
 refine (Zoa bs _ (by simp [go_sem])).mono ?_
 rintro _ _ ⟨rfl,rfl⟩
 refine aK.go 1000 ?_
 simp only [go_sem]
 refine aK.rangeFunc (f_ 17 [(3, .ptr 1 0)]) ?_ ?_ (fun ρ ht vM lj qV=>?_)
 ·simp only [go_sem]
 ·exact fun b hb=>by cases hb
 simp only [go_sem]
 have jv:bz 4 ρ.tm:=by rw [ht];simp [go_sem,Ad,Aj]
 have fT:∀ l:List Bd,bw 5 [some (.map (fF l) (gf l) false),some (.var [.map 0]),some (.var [.ps 3 (n8 bs)]),some (.loop (ρ.at .ready)),none] :=
  fun l=>⟨⟨(iO l).1,(iO l).2⟩,⟨Nat.zero_lt_succ 4,trivial⟩,⟨of_eq_true (Ev bs),trivial⟩,iC (by decide) jv,trivial,trivial⟩
 refine (Zs0 bs 4 _ (fun k=>[some (.map (fF (bs.reverse.take k)) (gf (bs.reverse.take k)) false),some (.var [.map 0]),some (.var [.ps 3 (n8 bs)]),some (.loop (ρ.at .ready)),none]) 2 (.lz 3) rfl rfl (fun _=>rfl) (fun _=>rfl) (by decide) (fun k=>fT _) ?_ (cG 3) (by omega) (fun k hk=>?_)).mono ?_
 ·exact ⟨⟨trivial,trivial⟩,⟨Nat.zero_lt_succ 3,trivial⟩,⟨of_eq_true (Ev bs),trivial⟩,jv,trivial⟩
 ·refine aq.stay rfl (fT _) ?_
  refine aq.lV 1000 ht vM lj qV rfl rfl ?_
  simp only [go_sem,FF]
  have tF:k<bs.reverse.length:=by simpa using hk
  have zA:bs.reverse[k]=bs[bs.length - 1 - k]:=List.getElem_reverse tF
  have sC:bs.reverse.take (k+1)=bs.reverse.take k++[bs[bs.length - 1 - k]]:=by rw [List.take_succ_eq_append_getElem tF,zA]
  have BN:(bs.reverse.take k).find? (fun c=>c.v==(bs[bs.length - 1 - k]).v)=none:=by
   rw [kn]
   intro c hc e
   have hv:c.v=(bs[bs.length - 1 - k]).v:=by simpa using e
   have pg:((bs.reverse.take (k+1)).map Bd.v).Nodup:=by
    have h1:(bs.reverse.map Bd.v).Nodup:=by rw [List.map_reverse];exact List.pairwise_reverse.2 (hd.imp fun h e=>h e.symm)
    exact h1.sublist ((List.take_sublist _ _).map _)
   rw [sC,cD,gO] at pg
   exact pg.2.2 _ (mG hc) _ (by simp) hv
  rw [KF (b:=bs[bs.length - 1 - k]) (dh _).symm BN,← sC]
  refine ⟨zj _ _,?_⟩
  rw [tZ]
  exact ⟨rfl,[some (.map (fF (bs.reverse.take (k+1))) (gf (bs.reverse.take (k+1))) false),some (.var [.map 0]),some (.var [.ps 3 (n8 bs)]),some (.loop (ρ.at .ready)),none],by simp [go_sem],ah _,fT _,rfl,rfl⟩
 rintro r' iZ rfl
 rw [CG]
 refine ⟨.ready,rfl,?_⟩
 rw [Ej]
 rw [show bs.reverse.take bs.length=bs.reverse by rw [← List.length_reverse,dt]]
 refine aK.go 1000 ?_
 simp only [go_sem]
theorem Kc:∀ (bs:List Bd) (m:Int),jB m bs=0→(∀ b∈bs,m<b.v)∧(bs.map Bd.v).Nodup
 | [],_,_=>by simp
 | b :: l,m,h=>by
  rw [jB] at h
  split at h
  ·cases h
  ·rename_i hc
   have rM:m<b.v:=by omega
   obtain ⟨h1,h2⟩:=Kc l b.v h
   refine ⟨fun c Jx=>?_,?_⟩
   ·rcases aR.1 Jx with rfl | Jx
    ·exact rM
    ·have:=h1 c Jx;omega
   ·simp only [aB,eY]
    refine ⟨fun hm=>?_,h2⟩
    obtain ⟨c,AH,hc4⟩:=bZ.1 hm
    have:=h1 c AH;omega
def qj (bs:List Bd) (t:Tm):Tm×Int :=
 if jB (-1) bs≠0∨t.check≠0 then (fI,1) else if (t.sub bs.reverse).check=0 then (t.sub bs.reverse,0) else (fI,(t.sub bs.reverse).check)
theorem Yhk (bs:List Bd) (t:Tm) (hl:bs.length<1000000) (hb:∀ b∈bs,b.t.size<99999999) (ht:t.size<99999999) (hf:t.fit) (hs:(t.sub bs.reverse).size<99999999) :
  aJ Tryz.prog 170 [.ps 3 (n8 bs),t.aO] (.dA [(qj bs t).1.aO, .int .i64 (qj bs t).2]):=by
 refine aJ.begin (rs:=[.cell 4 70, .tmp 5]) (m:=21) 1000 Tryz.func170 rfl rfl rfl (by decide) (by simp [go_sem,dH]) ?_
 simp only [go_sem,fJ]
 refine aq.bV [] (Ygf bs hl hb) (by (try simp only [dh]);exact cJ _ _ _) (by simp [go_sem,dH,bR]) ?_;simp only [bP,bY,bX,if_true];refine aK.go 1000 ?_
 have rN:=Cm t (by omega)
 by_cases h1:jB (-1) bs=0
 ·obtain ⟨_,pg⟩:=Kc bs _ h1
  simp only [go_sem,h1]
  refine aq.bV [] (rN) (by (try simp only [dh]);exact cJ _ _ _) (by simp [go_sem,dH,bR]) ?_;simp only [bP,bY,bX,if_true];refine aK.go 1000 ?_
  by_cases h2:t.check=0
  ·have yj:qj bs t=if (t.sub bs.reverse).check=0 then (t.sub bs.reverse,0) else (fI,(t.sub bs.reverse).check):=by unfold qj;rw [if_neg (by simp [h1,h2])]
   rw [yj]
   simp only [go_sem,h2]
   refine aK.draw [.no, .no, .no, .no, .no, .no, .no, .no,⟨none,[1],[]⟩] 2 2 mixed rfl rfl (by decide) ?_
   simp only [go_sem,dC]
   refine n5 (Yl5 bs hl pg) (cJ _ _ _) (by simp [go_sem]) ?_
   simp only [go_sem]
   refine n5 (Sf bs.reverse _ t (ah _) (by omega) hf) (by simp only [dh,vV,bh,bq];exact cJ _ _ _) (by simp [go_sem,dH]) ?_
   simp only [go_sem]
   by_cases h3:(t.sub bs.reverse).check=0
   ·rw [if_pos h3]
    have hend:=PY (t.sub bs.reverse) hs
    rw [if_pos h3] at hend
    refine n5 hend (cJ _ _ _) (by simp [go_sem,dH]) ?_
    simp only [go_sem,fJ]
    refine aK.go 1000 ?_
    simp only [go_sem,dh]
   ·rw [if_neg h3]
    have hend:=PY (t.sub bs.reverse) hs
    rw [if_neg h3] at hend
    refine n5 hend (cJ _ _ _) (by simp [go_sem,dH]) ?_
    simp only [go_sem,fJ]
    refine aK.go 1000 ?_
    simp only [go_sem,dh]
  ·have yj:qj bs t=(fI,1):=by unfold qj;rw [if_pos (.inr h2)]
   rw [yj]
   simp only [go_sem,h2,dh,Mn,LY,aP]
 ·have yj:qj bs t=(fI,1):=by unfold qj;rw [if_pos (.inl h1)]
  rw [yj]
  simp only [go_sem,h1,dh,Mn,LY,aP]
def lK:List (Tm×Tm)→Nat
 | []=>0
 | x :: r=>x.1.size+lK r
theorem Md:∀ (a b:List (Tm×Tm)),lK (a++b)=lK a+lK b
 | [],b=>by simp [lK]
 | x :: a,b=>by simp only [bn,lK,Md a b];omega
theorem I6:∀ a:List (Tm×Tm),lK a.reverse=lK a
 | []=>rfl
 | x :: a=>by rw [nZ,Md,I6 a];simp only [lK];omega
theorem Jd:∀ (a b:List Tm),lK (a.zip b)≤Tm.bF a
 | [],_=>by simp [lK]
 | x :: a,[]=>by simp [lK]
 | x :: a,y :: b=>by simp only [fm,lK,Tm.bF];have:=Jd a b;omega
theorem FD (a b:Tm) (r:List (Tm×Tm)):lK ((a.args.zip b.args).reverse++r)<a.size+lK r:=by
 rw [Md,I6]
 have h1:=Jd a.args b.args
 have h2:=oM a
 omega
theorem z8 (a:Tm) : 0<a.size:=by have:=oM a;omega
def fD:List (Tm×Tm)→List Bd→Option (List Bd)
 | [],m=>some m
 | x :: r,m =>
  if 0≤-1 - x.1.head then
   match m.find? (fun c=>c.v == -1 - x.1.head) with
   | some c=>if c.t=x.2 then fD r m else none
   | none=>fD r (m++[⟨-1 - x.1.head,x.2⟩])
  else if x.1.head≠x.2.head∨x.1.args.length≠x.2.args.length then none
  else fD ((x.1.args.zip x.2.args).reverse++r) m
termination_by s=>lK s
decreasing_by
 ·simp only [lK];have:=z8 x.1;omega
 ·simp only [lK];have:=z8 x.1;omega
 ·simp only [lK];exact FD x.1 x.2 r
def oi (s:List (Tm×Tm)):List ae:=s.reverse.map fun x=>x.1.aO
def oo (s:List (Tm×Tm)):List ae:=s.reverse.map fun x=>x.2.aO
theorem Et (s:List (Tm×Tm)):(oi s).length=s.length:=by simp [oi]
theorem Ep (s:List (Tm×Tm)):(oo s).length=s.length:=by simp [oo]
theorem Vh (x:Tm×Tm) (r:List (Tm×Tm)):oi (x :: r)=oi r++[x.1.aO]:=by simp [oi]
theorem VD (x:Tm×Tm) (r:List (Tm×Tm)):oo (x :: r)=oo r++[x.2.aO]:=by simp [oo]
@[go_sem] theorem I_ {n:Nat} (s:List (Tm×Tm)):bz n (oi s)=True:=eq_true (uT fun x _=>dH x.1)
@[go_sem] theorem I2 {n:Nat} (s:List (Tm×Tm)):bz n (oo s)=True:=eq_true (uT fun x _=>dH x.2)
theorem L6:∀ s:List (Tm×Tm),s.length≤lK s
 | []=>ah _
 | x :: r=>by simp only [ax,lK];have:=L6 r;have:=z8 x.1;omega
theorem P6 {a b:List Tm} (h:a.length=b.length):oi (a.zip b).reverse=a.map Tm.aO:=by
 rw [oi,gP]
 have:=List.map_fst_zip (l₁:=a) (l₂:=b) (by omega)
 rw [show (a.zip b).map (fun x=>x.1.aO)=((a.zip b).map Prod.fst).map Tm.aO by simp,this]
theorem PZ {a b:List Tm} (h:a.length=b.length):oo (a.zip b).reverse=b.map Tm.aO:=by
 rw [oo,gP]
 have:=List.map_snd_zip (l₁:=a) (l₂:=b) (by omega)
 rw [show (a.zip b).map (fun x=>x.2.aO)=((a.zip b).map Prod.snd).map Tm.aO by simp,this]
theorem U4 {a b:List Tm} (h:a.length=b.length) (r:List (Tm×Tm)):oi ((a.zip b).reverse++r)=oi r++a.map Tm.aO:=by
 have:=P6 h
 rw [oi,gP] at this
 rw [oi,List.reverse_append,gP,cD,this];rfl
theorem U8 {a b:List Tm} (h:a.length=b.length) (r:List (Tm×Tm)):oo ((a.zip b).reverse++r)=oo r++b.map Tm.aO:=by
 have:=PZ h
 rw [oo,gP] at this
 rw [oo,List.reverse_append,gP,cD,this];rfl
theorem wT:∀ {ts:List Tm},Tm.fits ts→∀ t∈ts,t.fit
 | t :: ts,h,x,hx=>by
  rcases aR.1 hx with rfl | hx
  ·exact h.1
  ·exact wT h.2 x hx
theorem tA:∀ {ts:List Tm} {t:Tm},t∈ts→t.size≤Tm.bF ts
 | x :: ts,t,h=>by
  simp only [Tm.bF]
  rcases aR.1 h with rfl | h
  ·omega
  ·have:=tA h;omega
theorem RO {m:List Bd} {c:Bd} {v:Int} {x:ae} (hx:x=c.t.aO) (h:m.find? (fun d=>d.v==v)=some c):iV (fF m) (gf m) (.int .i64 v) x=(fF m,gf m):=by
 have h1:=Fm v m 0
 unfold iV
 cases hk:fe (.int .i64 v) (fF m) 0 with
 | some i =>
  rw [hk] at h1
  obtain ⟨_,d,h2,h3⟩:=h1
  rw [h] at h3
  cases h3
  rw [gR] at h2
  simp only [bx,true_and]
  apply bQ
  intro j
  rw [dX]
  split
  ·rename_i e
   subst e
   have bG:i<(gf m).length:=by simp only [gf,ak];exact (aI.1 h2).1
   rw [if_pos bG]
   simp [gf,h2,hx]
  ·rfl
 | none =>
  rw [hk] at h1
  rw [show m.find? (fun d=>d.v==v)=none from h1] at h;cases h
def MA:Option (List Bd)→ae→ai→Prop
 | none,r,_=>r = .bool false
 | some m,r,σ'=>r = .bool true∧σ'=[some (.map (fF m) (gf m) false)]
theorem ZI (g:Option (List Bd)) (a b:List Tm) (hg:fD (a.zip b).reverse []=g) (ep:a≠[]) (Gr:a.length=b.length) (hs:Tm.bF a<99999999) (tH:Tm.bF b<99999999) (BL:Tm.fits a) (zx:Tm.fits b) :
  aq Tryz.prog (.fn 208 [] []) [.ps 2 (a.map Tm.aO), .ps 2 (b.map Tm.aO), .map 0] [some (.map [] [] false)]
   (MA g):=by
 refine aq.begin (rs:=[.tmp 6]) (m:=79) 1000 Tryz.func208 rfl rfl rfl rfl rfl ?_
 have mz:=qh a
 have wu:=qh b
 have NG:b≠[]:=fun e=>ep (aY (by rw [Gr,e];rfl))
 simp only [go_sem]
 refine aq.td [] (Fh a ep (by omega)) (cJ _ _ _) (by simp [go_sem,bR]) ?_
 rw [jj]
 simp only [Af,Ah,Ak,xv,Am,up,cI (bR _)]
 refine aK.go 1000 ?_
 simp only [go_sem]
 refine aq.td [] (Fh b NG (by omega)) (cJ _ _ _) (by simp [go_sem,bR]) ?_
 rw [jj]
 simp only [Af,Ah,Ak,xv,Am,up,cI (bR _)]
 refine aK.go 1000 ?_
 simp only [go_sem]
 refine aK.im (ι:={q:List (Tm×Tm)×List ae×List ae×List Bd // fD q.1 q.2.2.2=g∧bz 0 q.2.1∧bz 0 q.2.2.1∧lK q.1≤Tm.bF a∧(∀ x∈q.1,x.1.fit∧x.2.size<99999999)∧(∀ x∈q.2.2.2,x.t.size<99999999)}) 1000
  (fun q=>f_ 82 [(2, .map 0),(6, .bool false),(7, .os 2 0 q.1.1.length 2),(8, .os 4 0 q.1.1.length 2)])
  (fun q=>[some (.map (fF q.1.2.2.2) (gf q.1.2.2.2) false),none,some (.row (oi q.1.1++q.1.2.1) 0),none,some (.row (oo q.1.1++q.1.2.2.1) 0)]) (fun q=>lK q.1.1) ⟨((a.zip b).reverse,[],[],[]),?_⟩ [] ?_ (fun _=>by simp) ?_
 ·refine ⟨hg,trivial,trivial,?_,fun x hx=>?_,fun x hx=>by cases hx⟩
  ·rw [I6];exact Jd a b
  ·have hx:=cU.1 hx
   have yK:=(cZ hx).1
   have EY:=tA (cZ hx).2
   exact ⟨wT BL _ yK,by omega⟩
 ·refine jb rfl ?_
  dsimp only
  rw [P6 Gr,PZ Gr,show (a.zip b).reverse.length=a.length by simp [Gr]]
  simp only [go_sem,bR,cI (bR _),bq,Gr,show fF []=[] from rfl,show gf []=[] from rfl]
 ·rintro ⟨⟨s,j1,j2,m⟩,h1,h2,h3,h4,h5,h6⟩
  simp only at h1 h2 h3 h4 h5 h6
  cases s with
  | nil =>
   rw [fD] at h1
   subst h1
   simp only [go_sem,aS]
   refine aK.go 1000 ?_
   simp only [go_sem]
   rw [fY]
   exact ⟨[some (bE.map (fF m) (gf m) false)],by simp [go_sem],ah _,⟨⟨(iO m).1,(iO m).2⟩,trivial⟩,trivial,rfl,rfl⟩
  | cons x r =>
   obtain ⟨Hh,wC⟩:=h5 x (by simp)
   have Dv:∀ y∈r,y.1.fit∧y.2.size<99999999:=fun y hy=>h5 y (by simp [hy])
   have NU:=L6 r
   rw [lK] at h4
   have yD:=z8 x.1
   have EH:=Fy Hh
   unfold ov at EH
   have r7:IntKind.i64.wrap ((r.length:Int)+1 - 1)=r.length:=by rw [eC (by omega)];omega
   have nq:(0:Int)<r.length+1:=by omega
   have tI:IntKind.i64.wrap (-1 - x.1.head) = -1 - x.1.head:=eC (by omega)
   have hA:oi (x :: r)++j1=oi r++x.1.aO :: j1:=by rw [Vh];simp
   have hB:oo (x :: r)++j2=oo r++x.2.aO :: j2:=by rw [VD];simp
   have Nh:(oi r++x.1.aO :: j1).getD r.length .undef=x.1.aO:=by rw [← Et r];simp [List.getD]
   have Ni:(oo r++x.2.aO :: j2).getD r.length .undef=x.2.aO:=by rw [← Ep r];simp [List.getD]
   have GR:(oi r++x.1.aO :: j1).length=r.length+1+j1.length:=by simp [Et];omega
   have GU:(oo r++x.2.aO :: j2).length=r.length+1+j2.length:=by simp [Ep];omega
   simp only [go_sem,ax,hA,hB,mh,mj,nq,r7]
   refine aK.draw [⟨none,[],[5,6]⟩,⟨none,[],[5,6]⟩,⟨none,[],[5,6]⟩,⟨none,[],[5,6]⟩,⟨none,[],[5,6]⟩,⟨none,[],[5,6]⟩,⟨none,[],[5,6]⟩,⟨none,[],[5,6]⟩,⟨some 5,[5],[6]⟩,⟨some 6,[6],[5]⟩,⟨none,[5],[]⟩,⟨none,[6],[]⟩] 5 7 mixed rfl rfl (by decide) ?_
   simp only [go_sem,dC,GR,GU,Nh,Ni,fJ]
   refine ⟨⟨by omega,by omega⟩,by omega,⟨by omega,by omega⟩,by omega,?_⟩
   refine aK.go 1000 ?_
   refine aK.draw [] 7 7 mixed rfl rfl (by decide) ?_
   simp only [go_sem,dC]
   refine ⟨by omega,by omega,?_⟩
   have hl:∀ n,bz n (oi r++x.1.aO :: j1)∧bz n (oo r++x.2.aO :: j2):=fun n=>⟨sl (of_eq_true (I_ r)) ⟨dH x.1,iC (av _) h2⟩,sl (of_eq_true (I2 r)) ⟨dH x.2,iC (av _) h3⟩⟩
   by_cases hv : 0≤-1 - x.1.head
   ·rw [fD,if_pos hv] at h1
    have pc:=KC m (-1 - x.1.head) (.agg [.int .i64 0, .aU])
    cases hf:m.find? (fun c=>c.v == -1 - x.1.head) with
    | some c =>
     rw [hf] at pc h1
     simp only at h1 pc
     have sV:=h6 c (bJ hf)
     refine aK.go 1000 ?_
     simp only [go_sem,tI,hv,zj,pc,fJ]
     refine aq.bV [] (Ab c.t x.2 (by omega) (by omega)) (by (try simp only [dh]);exact cJ _ _ _) (by simp [go_sem,dH,bR]) ?_;simp only [bP,bY,bX,if_true];refine aK.go 1000 ?_
     by_cases he:c.t=x.2
     ·rw [if_pos he] at h1
      have yy:=RO (x:=.agg [.int .i64 x.2.head, .ps 2 (x.2.args.map Tm.aO)]) (by rw [he,dh]) hf
      simp only [go_sem,he,zj,yy]
      refine ⟨⟨(r,x.1.aO :: j1,x.2.aO :: j2,m),h1,⟨dH x.1,h2⟩,⟨dH x.2,h3⟩,by simp only;omega,Dv,h6⟩,[],jb rfl ?_,by simp only [lK];omega⟩
      have xa:=hl 0
      simp only [go_sem,iO,cI (iO _).1,cI (iO _).2,cI xa.1,cI xa.2,hl]
     ·rw [if_neg he] at h1
      subst h1
      simp only [go_sem,he]
      refine aK.go 1000 ?_
      simp only [go_sem]
      rw [fY]
      exact ⟨[none],by simp [go_sem],ah _,⟨trivial,trivial⟩,trivial,rfl⟩
    | none =>
     rw [hf] at pc h1
     simp only at h1 pc
     have yy:=KF (l:=m) (b:=⟨-1 - x.1.head,x.2⟩) (x:=.agg [.int .i64 x.2.head, .ps 2 (x.2.args.map Tm.aO)]) (dh _).symm hf
     refine aK.go 1000 ?_
     simp only [go_sem,tI,hv,zj,pc,fJ,yy]
     refine ⟨⟨(r,x.1.aO :: j1,x.2.aO :: j2,m++[⟨-1 - x.1.head,x.2⟩]),h1,⟨dH x.1,h2⟩,⟨dH x.2,h3⟩,by simp only;omega,Dv,fun y hy=>?_⟩,[],jb rfl ?_,by simp only [lK];omega⟩
     ·rcases aW.1 hy with hy | hy
      ·exact h6 y hy
      ·rw [aM.1 hy];exact wC
     have xa:=hl 0
     simp only [go_sem,iO,cI (iO _).1,cI (iO _).2,cI xa.1,cI xa.2,hl]
   ·rw [fD,if_neg hv] at h1
    by_cases c1:x.1.head=x.2.head
    ·by_cases c2:x.1.args.length=x.2.args.length
     ·rw [if_neg (by simp [c1,c2])] at h1
      have vQ:IntKind.i64.wrap (-1 - x.2.head) = -1 - x.2.head:=by rw [← c1];exact tI
      have wA:¬ 0≤-1 - x.2.head:=by rw [← c1];exact hv
      have c3:(x.1.args.length:Int)=x.2.args.length:=by omega
      refine aK.go 1000 ?_
      simp only [go_sem,vQ,wA,c1,c3,ak]
      refine aK.draw [.no, .no, .no,⟨some 7,[2,7],[]⟩,⟨none,[],[2,7]⟩,⟨none,[],[2,7]⟩,⟨none,[],[2,7]⟩,⟨some 8,[4,8],[]⟩] 7 9 mixed rfl rfl (by decide) ?_
      have N3:(oi r++x.1.aO :: j1).take r.length=oi r:=by rw [← Et r,m9]
      have N4:(oo r++x.2.aO :: j2).take r.length=oo r:=by rw [← Ep r,m9]
      have MW:=qh x.1.args
      have N2:=oM x.1
      simp only [go_sem,dC,GR,GU,N3,N4,ak]
      refine ⟨⟨by omega,by omega,by omega⟩,⟨by omega,by omega,by omega⟩,?_⟩
      refine aK.go 1000 ?_
      simp only [go_sem]
      have JE:=FD x.1 x.2 r
      refine ⟨⟨((x.1.args.zip x.2.args).reverse++r,[],[],m),h1,trivial,trivial,by simp only;omega,fun y hy=>?_,h6⟩,[(2,7),(7,2),(4,8),(8,4)],jb rfl ?_,by simp only [lK];omega⟩
      ·rcases aW.1 hy with hy | hy
       ·have hy:=cU.1 hy
        have a1:=tA (cZ hy).2
        have a2:=oM x.2
        exact ⟨wT (xw Hh) _ (cZ hy).1,by omega⟩
       ·exact Dv y hy
      dsimp only
      rw [U4 c2,U8 c2,show ((x.1.args.zip x.2.args).reverse++r).length=r.length+x.1.args.length by simp [c2];omega]
      have lA:∀ n,bz n (oi r++x.1.args.map Tm.aO):=fun n=>sl (of_eq_true (I_ r)) (bR _)
      have lB:∀ n,bz n (oo r++x.2.args.map Tm.aO):=fun n=>sl (of_eq_true (I2 r)) (bR _)
      have Om:=lA 0
      have On:=lB 0
      simp only [go_sem,iO,cI (iO _).1,cI (iO _).2,cI Om,cI On,lA,lB,bq,c2]
     ·rw [if_pos (.inr c2)] at h1
      have vQ:IntKind.i64.wrap (-1 - x.2.head) = -1 - x.2.head:=by rw [← c1];exact tI
      have wA:¬ 0≤-1 - x.2.head:=by rw [← c1];exact hv
      have c3:¬ (x.1.args.length:Int)=x.2.args.length:=by omega
      subst h1
      refine aK.go 1000 ?_
      simp only [go_sem,vQ,wA,c1,c3,ak]
      refine aK.go 1000 ?_
      simp only [go_sem]
      rw [fY]
      exact ⟨[none],by simp [go_sem],ah _,⟨trivial,trivial⟩,trivial,rfl⟩
    ·rw [if_pos (.inl c1)] at h1
     subst h1
     refine aK.go 1000 ?_
     simp only [go_sem,tI,hv,c1]
     refine aK.go 1000 ?_
     simp only [go_sem]
     rw [fY]
     exact ⟨[none],by simp [go_sem],ah _,⟨trivial,trivial⟩,trivial,rfl⟩
end Go.Proofs
