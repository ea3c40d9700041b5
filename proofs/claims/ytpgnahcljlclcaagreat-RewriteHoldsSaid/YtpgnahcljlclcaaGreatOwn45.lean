/- Part 45 of my own framework and of the walks of functions: AcsV, Sb, AcsW, Sc, Sd, AcsX, Se, Sf, Sg, Sh, Si, AcsY, AcsZ, Sj, Sk, Sl, Sm, Sn, So, Sp, Sq. -/
import Derived.Test.YtpgnahcljlclcaaGreatOwn44
import Derived.Lib.Overlaps
import Derived.Sort.Row
import Derived.Sort.Grow
set_option linter.unusedVariables false
set_option linter.unusedSectionVars false
set_option linter.unusedSimpArgs false
namespace Go.Abs
open Go
section
variable {P:Program} {X:Nat→Nat→Prop} {base:Nat} {σ:Store} {β β':Env} {w w':World}
theorem Yc2 {M:Nat→Nat→Prop} {v:Value} {s:AVal} {b off n sz:Nat} (h:Rep w M β v s) (hs:s = .os b off n sz∨∃ c,s = .oc b off n c sz) (hn : 0<n):∃ L c,β b=some L∧L.sz=sz∧n≤c∧off+c≤L.n∧v = .slice (some ⟨L.g,L.o+off*L.sz,none⟩) n c:=by
 rcases hs with rfl | ⟨c,rfl⟩
 ·rcases h.os_inv with ⟨rfl,_⟩ | ⟨L,c,hL,hLs,h1,h2,rfl⟩
  ·exact absurd hn (Nat.lt_irrefl _)
  ·exact ⟨L,c,hL,hLs,h1,h2,rfl⟩
 ·rcases h.oc_inv with ⟨rfl,_⟩ | ⟨L,hL,hLs,h1,h2,rfl⟩
  ·exact absurd hn (Nat.lt_irrefl _)
  ·exact ⟨L,_,hL,hLs,h1,h2,rfl⟩
theorem VCall.overlapsApart {g : FuncId} {fn : Func} (hf : P.funcs[g]? = some fn) (hname : (fn.name == "runtime.NumGoroutine") = false) (hb : fn.body.isNone = true) (hn : Extern.findNext fn = none) {tS tR e : TypeId}
  (he:Extern.find fn=some (Extern.SlicesOverlaps.overlaps #[tS,tS] #[tR])) (ht:P.underlying tS=some (.slice e)) {l:Lay} (hl:layOf P e=some l) {s t:AVal} {b1 b2 o1 o2 n1 n2 sz:Nat}
  (hs:s = .os b1 o1 n1 sz∨∃ c,s = .oc b1 o1 n1 c sz) (ht':t = .os b2 o2 n2 sz∨∃ c,t = .oc b2 o2 n2 c sz) (hz : 0<sz) (h1 : 0<n1) (h2 : 0<n2) {es1 es2:List AVal} {fz1 fz2:Nat} (hb1:getS σ b1=some (.row es1 fz1)) (hb2:getS σ b2=some (.row es2 fz2)) (hne:b1≠b2)
  {K:AVal→Store→Prop} (hk:K (.bool false) σ):VCall P (.fn g [] []) [s,t] σ K:=by
 refine VCall.sh ?_
 intro X base β w vs h1r h2r h3 fr cs h4
 obtain ⟨x,y,rfl⟩:∃ x y,vs = #[x,y]:=by
  simp at h2r
  match vs,h2r with
  | ⟨[x,y]⟩,_=>exact ⟨x,y,rfl⟩
 have hx:=h3 0 (by simp)
 have hy:=h3 1 (by simp)
 simp only [List.nil_append,List.append_nil,List.getD_cons_zero,List.getD_cons_succ] at hx hy
 have ex:(#[x,y]:Array Value).getD 0 undef=x:=rfl
 have ey:(#[x,y]:Array Value).getD 1 undef=y:=rfl
 rw [ex] at hx
 rw [ey] at hy
 obtain ⟨L1,c1,k1,k2,k3,k4,rfl⟩:=Yc2 hx hs h1
 obtain ⟨L2,c2,q1,q2,q3,q4,rfl⟩:=Yc2 hy ht' h2
 obtain ⟨L1',m1,m2,m3,d1,e1,m4,m5,m6,m7⟩:=h1r.blk b1 _ (Zae hb1)
 obtain rfl:=Option.some.inj (m1.symm.trans k1)
 obtain ⟨L2',u1,u2,u3,d2,e2,u4,u5,u6,u7⟩:=h1r.blk b2 _ (Zae hb2)
 obtain rfl:=Option.some.inj (u1.symm.trans q1)
 have hgne:L1'.g≠L2'.g:=fun e=>hne (h1r.inj b1 b2 _ _ L1' L2' (Zae hb1) (Zae hb2) k1 q1 e)
 obtain ⟨ti,_,z,hti,_⟩:=Zao hl
 have hsz2 : 0<d2.size:=by
  have : 1*1≤L2'.n*L2'.sz:=Nat.mul_le_mul (by omega) (by omega)
  omega
 have hrun0:=Lib.run_overlaps_apart (P:=P) w tS tR e ht ti.size (fun w=>Zb9 hti) ⟨L1'.g,L1'.o+o1*L1'.sz,none⟩ ⟨L2'.g,L2'.o+o2*L2'.sz,none⟩ n1 c1 n2 c2 hgne e1 e2 d1.size d2.size
  (by simp only [World.shape?,m4]) (by simp only [World.shape?,u4]) (by omega) (by simp [World.frozen?,m4]) (by simp [World.frozen?,m4])
 have hrun:(callFunc g #[.slice (some ⟨L1'.g,L1'.o+o1*L1'.sz,none⟩) n1 c1, .slice (some ⟨L2'.g,L2'.o+o2*L2'.sz,none⟩) n2 c2]).run P w = .ok (.value (.bool false)) w:=by
  rw [run_callFunc_extern hf hname hb hn he,hrun0];rfl
 refine ⟨_,σ,β, .bool false,w,hk,h1r, .bool false,Ext.refl _ _ _ _,Nat.le_refl _,fr.finish (.bool false),cs,w,?_, .refl _ _⟩
 simp only [stepG.apply,if_true,Sem.runT_eq,hrun,GStep.bare_after,GStep.bare_go]
theorem Ztp {enc:Int→Value} (ts:List Int) (off:Nat) (c:Array Value) (k:Nat):(Sort.putCells enc off ts.toArray c).getD k undef=if off≤k∧k<off+ts.length∧k<c.size then enc (ts.getD (k - off) 0) else c.getD k undef:=by
 simp only [Sort.putCells,Array.getD_eq_getD_getElem?,Array.getElem?_mapIdx]
 by_cases hk:k<c.size
 ·simp only [Array.getElem?_eq_getElem hk,Option.map_some,Option.getD_some,List.size_toArray]
  by_cases h:off≤k∧k<off+ts.length
  ·rw [if_pos h,if_pos ⟨h.1,h.2,hk⟩]
   have h':k - off<ts.length:=by omega
   rw [getElem!_pos ts.toArray _ (by simpa using h')]
   simp [List.getD,h']
  ·rw [if_neg h,if_neg (fun hh=>h ⟨hh.1,hh.2.1⟩)]
 ·simp [Array.getElem?_eq_none (Nat.le_of_not_lt hk),hk]
theorem VCall.sortRow {g : FuncId} {fn : Func} {c : Code} (hf : P.funcs[g]? = some fn) (hb : fn.body = some c) (hname : (fn.name == "runtime.NumGoroutine") = false) {zs ts : List Int} {b : Nat} (hσ : getS σ b = some (.row (zs.map (.int .i64)) 0)) (hlen : ts.length = zs.length)
  (h:∀ (w:World) (blk off cap:Nat),Sort.Holds (Value.int .i64) w blk off zs.toArray→blk<w.heap.size→Calls P g #[.slice (some ⟨blk,off,none⟩) zs.length cap] w fun e w'=>e = .returned (.tuple #[])∧∃ n os,w'=Sort.grow (Sort.putRow (Value.int .i64) (Sort.ahead w n) blk off ts.toArray) os)
  (h0:∀ (a:Option Addr) (cap:Nat) (w:World),Calls P g #[.slice a 0 cap] w fun e w'=>e = .returned (.tuple #[])∧w'=w)
  {K:AVal→Store→Prop} (hK:K (.tup []) (setS σ b (.row (ts.map (.int .i64)) 0))):VCall P (.fn g [] []) [.os b 0 zs.length 1] σ K:=by
 refine VCall.sh ?_
 intro X base β w vs h1 h2 h3 fr cs hfr
 have hname' : ¬ fn.name = "runtime.NumGoroutine" := by simpa using hname
 obtain ⟨x,rfl⟩:∃ x,vs = #[x]:=by
  simp at h2
  exact Array.size_eq_one_iff.1 h2
 have h3':=h3 0 (by simp)
 simp only [List.nil_append,List.append_nil,List.getD_cons_zero] at h3'
 have hx:(#[x]:Array Value).getD 0 undef=x:=rfl
 rw [hx] at h3'
 have htup:∀ (w':World) (M':Nat→Nat→Prop),Rep w' M' β (.tuple #[]) (.tup []):=fun w' M'=>.tup rfl fun k hk=>by simp at hk
 have hcall:∀ us,(callFunc g us).run P w = .ok (.enter g us) w:=fun us=>by simp [callFunc,hf,hname',hb]
 rcases h3'.os_inv with ⟨hz,a,L,hL,hLs,rfl⟩ | ⟨L,cap,hL,hLs,hcap,hfit,rfl⟩
 ·have hzs:zs=[]:=List.eq_nil_of_length_eq_zero hz
  have hts:ts=[]:=List.eq_nil_of_length_eq_zero (by omega)
  subst hzs;subst hts
  obtain ⟨e,w',fr',⟨rfl,rfl⟩,hc,hfn,hl⟩:=h0 a 0 w (fr :: cs)
  rw [Zk8 hσ] at hK
  refine ⟨_,σ,β, .tuple #[],w',hK,h1,htup _ _,Ext.refl _ _ _ _,Nat.le_refl _,Frame.enter P g _ .normal,fr :: cs,w',?_,Steps.trans hc (.one (step_leave_returned hl))⟩
  simp only [stepG.apply,if_true,Sem.runT_eq,hcall,GStep.bare_after,GStep.bare_go]
  split
  ·rename_i d s a k e;exact absurd e (hfr _ _ _ _ _)
  ·rfl
 ·obtain ⟨L',q1,q2,q3,cc,ec,q4,q5,q6,q7,q8⟩:=h1.blk b _ (Zae hσ)
  obtain rfl:=Option.some.inj (q1.symm.trans hL)
  have hlm:(zs.map (AVal.int .i64)).length=zs.length:=by simp
  have hsz:L'.n*L'.sz=L'.n:=by rw [hLs,Nat.mul_one]
  have hcell:∀ j,j<zs.length→cc.getD (L'.o+j) undef = .int .i64 (zs.getD j 0):=fun j hj=>by
   have:=q8 j 0 (by omega) (by omega)
   rw [hLs,Nat.mul_one,Nat.add_zero] at this
   rw [show (zs.map (AVal.int .i64)).getD j AVal.undef = .int .i64 (zs.getD j 0) by simp [List.getD,hj]] at this
   exact this.int_inv
  have hglt:L'.g<w.heap.size:=(Array.getElem?_eq_some_iff.1 q4).1
  have hH:Sort.Holds (Value.int .i64) w L'.g (L'.o+0*L'.sz) zs.toArray:=fun j hj=>by
   have hj':j<zs.length:=by simpa using hj
   rw [Nat.zero_mul,Nat.add_zero]
   refine ⟨?_,by simp [World.frozen?,q4]⟩
   rw [cell_of_row _ _ _ _ _ _ q4,Zan (by omega),hcell j hj',getElem!_pos zs.toArray j (by simpa using hj')]
   simp [List.getD,hj']
  obtain ⟨e,w',fr',⟨rfl,n,os,rfl⟩,hc,hfn,hl⟩:=h w L'.g (L'.o+0*L'.sz) cap hH hglt (fr :: cs)
  rw [Nat.zero_mul,Nat.add_zero] at hc hl
  have hheap:∀ k,k<w.heap.size→k≠L'.g→(Sort.grow (Sort.putRow (Value.int .i64) (Sort.ahead w n) L'.g L'.o ts.toArray) os).heap[k]? = w.heap[k]?:=fun k hk hne=>by
   rw [Sort.heap_grow_old _ _ (by rw [Sort.size_putRow];exact hk)]
   simp only [Sort.putRow,Sort.mapBlock,Sort.ahead]
   rw [Array.getElem?_modify,if_neg (Ne.symm hne)]
  have hnew:(Sort.grow (Sort.putRow (Value.int .i64) (Sort.ahead w n) L'.g L'.o ts.toArray) os).heap[L'.g]? = some (.cells (Sort.putCells (Value.int .i64) L'.o ts.toArray cc) ec (0,0)):=by
   rw [Sort.heap_grow_old _ _ (by rw [Sort.size_putRow];exact hglt)]
   simp only [Sort.putRow,Sort.mapBlock,Sort.ahead]
   rw [Array.getElem?_modify,if_pos rfl,q4];rfl
  have hcsz:(Sort.putCells (Value.int .i64) L'.o ts.toArray cc).size=cc.size:=by simp [Sort.putCells]
  have hmof:∀ o',L'.o≤o'→Mof σ β L'.g o':=fun o' ho'=>⟨b,_,L',Zae hσ,hL,rfl,by simp only [Blk.mut];omega⟩
  obtain ⟨k1,k2,k3,k4⟩:=Zg2 h1 b L' (.row (ts.map (.int .i64)) 0) (σ':=setS σ b (.row (ts.map (.int .i64)) 0)) (β':=β) (w':=Sort.grow (Sort.putRow (Value.int .i64) (Sort.ahead w n) L'.g L'.o ts.toArray) os) (Zeg _ _ _)
   (fun c x hc hx=>⟨Zc5 _ _ _ hc hx,fun Lc hLc e=>hc (h1.inj c b x _ Lc L' (Zc5 _ _ _ hc hx) (Zae hσ) hLc hL e)⟩) (Zc0 _ _ _) hL (fun _ _=>rfl) (.inr hL)
   rfl rfl rfl (by simp) hheap
   (fun off v hcl hnm=>by
    have hlt':off<L'.o:=Nat.lt_of_not_le fun hle=>hnm (hmof off hle)
    rw [cell_of_row _ _ _ _ _ _ hnew]
    rw [cell_of_row _ _ _ _ _ _ q4] at hcl
    obtain ⟨hlt,hv⟩:=Array.getElem?_eq_some_iff.1 hcl
    rw [Zan (by rw [hcsz];exact hlt),Ztp,if_neg (by omega),← Zan hlt];exact hcl)
   (fun _ hnm=>absurd (hmof _ (Nat.le_refl _)) (hnm _)) (fun off hm=>.inl (hmof off (by simp only [Blk.mut] at hm;omega))) q3 q2
  have hrel:=k4 ⟨_,ec,hnew,by rw [hcsz];exact q5,by simp only [List.length_map] at q6 ⊢;omega,fun i hi=>by
    simp only [List.length_map] at hi
    rw [show (ts.map (AVal.int .i64)).getD i AVal.undef = .int .i64 (ts.getD i 0) by simp [List.getD,hi],hLs];rfl,fun i j hi hj=>by
    simp only [List.length_map] at hi
    obtain rfl:j=0:=by omega
    rw [show (ts.map (AVal.int .i64)).getD i AVal.undef = .int .i64 (ts.getD i 0) by simp [List.getD,hi],hLs,Nat.mul_one,Nat.add_zero,Ztp]
    simp only [List.length_map] at q6
    rw [if_pos ⟨by omega,by omega,by omega⟩,show L'.o+i - L'.o=i by omega]
    exact .int _ _⟩
  refine ⟨_,_,β, .tuple #[],_,hK,hrel,htup _ _,⟨k1.os,k1.tape,k1.output,k1.size,k1.cell,k1.block,k1.newM,fun _ _=>rfl⟩,Zc0 _ _ _,Frame.enter P g _ .normal,fr :: cs,w,?_,Steps.trans hc (.one (step_leave_returned hl))⟩
  have ho:L'.o+0*L'.sz=L'.o:=by omega
  simp only [List.nil_append,List.append_nil,ho]
  simp only [stepG.apply,if_true,Sem.runT_eq,hcall,GStep.bare_after,GStep.bare_go]
  split
  ·rename_i d s a k e;exact absurd e (hfr _ _ _ _ _)
  ·rfl
end
end Go.Abs
namespace Go.Proofs
open Go Go.Abs
attribute [local go_sem] Nat.reduceAdd Nat.reduceSub Nat.reduceMul Nat.reduceLeDiff Nat.reduceEqDiff Nat.reduceBEq Nat.reduceLT Nat.le_refl Int.natCast_zero Nat.sub_zero List.length_map Int.toNat_natCast Int.natCast_one Int.reduceEq Int.reduceLT Int.reduceLE Int.reduceNe Int.sub_zero Int.zero_add Int.toNat_one
mutual
def Tm.decEq:(a b:Tm)→Decidable (a=b)
 | .mk h ts, .mk k us=>match Int.instDecidableEq h k,Tm.decEqL ts us with
  | .isTrue e1, .isTrue e2=>.isTrue (by rw [e1,e2])
  | .isFalse e1,_=>.isFalse fun e=>e1 (Tm.mk.inj e).1
  | _, .isFalse e2=>.isFalse fun e=>e2 (Tm.mk.inj e).2
def Tm.decEqL:(a b:List Tm)→Decidable (a=b)
 | [],[]=>.isTrue rfl
 | [],_ :: _=>.isFalse fun e=>by cases e
 | _ :: _,[]=>.isFalse fun e=>by cases e
 | a :: l,b :: m=>match Tm.decEq a b,Tm.decEqL l m with
  | .isTrue e1, .isTrue e2=>.isTrue (by rw [e1,e2])
  | .isFalse e1,_=>.isFalse fun e=>e1 (List.cons.inj e).1
  | _, .isFalse e2=>.isFalse fun e=>e2 (List.cons.inj e).2
end
instance:DecidableEq Tm:=Tm.decEq
theorem Yiu (t:Tm):t = .mk t.head t.args:=by cases t;rfl
theorem Zay (t:Tm):t.size=1+Tm.sizes t.args:=by cases t;simp [Tm.size,Tm.args]
theorem Zow {l:List Tm} {x:Tm}:((l++[x]).map Tm.toA).getD l.length .undef=x.toA:=by simp [List.getD]
theorem Zof {l:List Tm} {x:Tm}:((l++[x]).map Tm.toA).take l.length=l.map Tm.toA:=by simp
theorem Ypz {bs:Nat} {z:List AVal} {k:KA} (hb:bs≤65536) (hz:z.length=2) (xs:List Tm):appOk ⟨2,true,bs,z,k⟩ (xs.map Tm.toA):=by
 refine ⟨fun x hx=>?_,Nat.zero_lt_two,hb,hz⟩
 obtain ⟨t,_,rfl⟩:=List.mem_map.1 hx
 rw [Za8];exact ⟨rfl,rfl⟩
@[go_sem] theorem Zhj (xs:List Tm):appOk ⟨2,true,32,[.int .i64 0, .nils], .struct⟩ (xs.map Tm.toA)=True:=eq_true (Ypz (by decide) rfl xs)
theorem Zf0 (a b:Tm) (ha:a.size<1000000000) (hb:b.size<1000000000):CallEq Tryz.prog 106 [a.toA,b.toA] (.bool (decide (a=b))):=by
 refine CallEq.begin (rs:=[.tmp 4]) (m:=54) 1000 Tryz.func106 rfl rfl rfl (by decide) trivial ?_
 simp only [go_sem,Za6]
 refine EvK.draw [⟨none,[],[3]⟩,⟨some 2,[2],[3]⟩,⟨none,[],[2]⟩,⟨some 3,[3],[2]⟩,⟨none,[],[3]⟩] 2 4 mixed rfl rfl (by decide) ?_
 simp only [go_sem,padS,Nat.le_refl,Nat.reduceLT]
 refine EvK.go 1000 ?_
 simp only [go_sem]
 refine EvK.loopR (ι:={p:List Tm×List Tm // p.1.length=p.2.length∧(p.1=p.2↔a=b)∧Tm.sizes p.1≤a.size∧Tm.sizes p.2≤b.size}) 1000
  (fun p=>mkT 56 [(4, .bool false),(5, .os 0 0 p.1.1.length 2),(6, .os 1 0 p.1.2.length 2)]) (fun p=>[some (.row (p.1.1.map Tm.toA) 0),some (.row (p.1.2.map Tm.toA) 0)]) (fun p=>Tm.sizes p.1.1)
  ⟨([a],[b]),by simp [Tm.sizes]⟩ [(0,2),(1,3)] ?_ (fun _=>by simp) ?_
 ·refine Zb0 rfl ?_
  simp only [go_sem,Za0,Za2,List.map_cons,List.map_nil,Za6]
 ·rintro ⟨⟨L,R⟩,hlen,hiff,hs1,hs2⟩
  simp only at hlen hiff hs1 hs2
  rcases List.eq_nil_or_concat L with rfl | ⟨l,x,rfl⟩
  ·obtain rfl:R=[]:=List.eq_nil_of_length_eq_zero hlen.symm
   simp only [go_sem,Int.natCast_zero,Int.lt_irrefl]
   refine EvK.go 1000 ?_
   simp only [go_sem]
   simp [hiff.1 rfl]
  ·rcases List.eq_nil_or_concat R with rfl | ⟨r,y,rfl⟩
   ·simp at hlen
   simp only [List.concat_eq_append,List.length_append,List.length_cons,List.length_nil,Nat.zero_add,Nat.add_right_cancel_iff] at hlen
   simp only [List.concat_eq_append,Zch,Tm.sizes,Nat.add_zero] at hiff hs1 hs2 ⊢
   have hll:=Zaj l
   have hrl:=Zaj r
   have hpos:(0:Int)<((l.length+1:Nat):Int):=by omega
   have hw:IntKind.i64.wrap (((l.length+1:Nat):Int) - 1)=(l.length:Int):=by rw [Zab (by omega)];omega
   simp only [go_sem,List.length_append,hpos,hw]
   refine EvK.draw [⟨none,[],[2,3]⟩,⟨none,[],[2,3]⟩,⟨none,[],[2,3]⟩,⟨none,[],[2,3]⟩,⟨none,[],[2,3]⟩,⟨none,[],[2,3]⟩,⟨none,[],[2,3]⟩,⟨none,[],[2,3]⟩,⟨some 2,[2],[3]⟩,⟨some 3,[3],[2]⟩,⟨none,[2],[]⟩,⟨none,[3],[]⟩] 2 4 mixed rfl rfl (by decide) ?_
   have hsx:((l++[x]).map Tm.toA).getD r.length .undef=x.toA:=by rw [← hlen];exact Zow
   have hl1:((l++[x]).map Tm.toA).length=r.length+1:=by simp [hlen]
   have hl2:((r++[y]).map Tm.toA).length=r.length+1:=by simp
   have ht1:((l++[x]).map Tm.toA).take r.length=l.map Tm.toA:=by rw [← hlen];exact Zof
   simp only [go_sem,padS,hlen,Int.toNat_natCast,Zow,hsx,hl1,hl2,Za8]
   (repeat ((with_reducible refine And.intro ?_ ?_); ·omega))
   refine EvK.go 1000 ?_
   simp only [go_sem]
   refine EvK.draw [] 4 4 mixed rfl rfl (by decide) ?_
   simp only [go_sem,padS,Int.toNat_natCast]
   (repeat ((with_reducible refine And.intro ?_ ?_); ·omega))
   refine EvK.go 1000 ?_
   have hsize:Tm.size x=1+Tm.sizes x.args:=Zay x
   have hsizy:Tm.size y=1+Tm.sizes y.args:=Zay y
   have hxa:=Zaj x.args
   have hya:=Zaj y.args
   by_cases c1:x.head=y.head
   ·by_cases c2:x.args.length=y.args.length
    ·have c2':(x.args.length:Int)=y.args.length:=by omega
     simp only [go_sem,c1,c2',List.length_map]
     refine EvK.draw [.no, .no, .no,⟨some 4,[0,4],[]⟩,⟨none,[],[0,4]⟩,⟨none,[],[0,4]⟩,⟨none,[],[0,4]⟩,⟨some 5,[1,5],[]⟩] 4 6 mixed rfl rfl (by decide) ?_
     simp only [go_sem,padS,List.length_append]
     (repeat ((with_reducible refine And.intro ?_ ?_); ·omega))
     refine EvK.go 1000 ?_
     rw [ht1,Zof,← List.map_append,← List.map_append]
     refine ⟨⟨(l++x.args,r++y.args),⟨by simp [hlen,c2],?_,?_,?_⟩⟩,[(0,4),(1,5)],Zb0 rfl ?_,?_⟩
     ·simp only
      rw [← hiff]
      constructor
      ·intro e
       obtain ⟨e1,e2⟩:=List.append_inj e hlen
       rw [e1,Yiu x,Yiu y,c1,e2]
      ·intro e
       obtain ⟨e1,e2⟩:=List.append_inj e hlen
       simp only [List.cons.injEq,and_true] at e2
       rw [e1,e2]
     ·simp only [Zch];omega
     ·simp only [Zch];omega
     ·simp only [go_sem,List.length_append,Za0,Za2 (Za0 _),hlen]
     ·simp only [Zch,Tm.sizes];omega
    ·have c2':¬ (x.args.length:Int)=y.args.length:=by omega
     have hne:¬ a=b:=by
      rw [← hiff]
      intro e
      obtain ⟨e1,e2⟩:=List.append_inj e hlen
      simp only [List.cons.injEq,and_true] at e2
      exact c2 (by rw [e2])
     simp only [go_sem,c1,c2']
     refine EvK.go 1000 ?_
     simp only [go_sem]
     simp [hne]
   ·have hne:¬ a=b:=by
     rw [← hiff]
     intro e
     obtain ⟨e1,e2⟩:=List.append_inj e hlen
     simp only [List.cons.injEq,and_true] at e2
     exact c1 (by rw [e2])
    simp only [go_sem,c1]
    refine EvK.go 1000 ?_
    simp only [go_sem]
    simp [hne]
end Go.Proofs
namespace Go.Abs
open Go
def CallNw (P:Program) (g:FuncId) (args:List AVal) (r0:AVal) (τ0:Store):Prop:=CallSh P g args [] (fun r σ'=>r=r0∧σ' = τ0)∧r0.low τ0.length∧lowSo τ0.length τ0
def up (n b:Nat):Nat:=b+n
def upS (n:Nat) (τ:Store):Store:=τ.map (Option.map (renB (up n)))
section
variable {P:Program} {X:Nat→Nat→Prop} {base:Nat} {σ:Store} {β β':Env} {w w':World}
theorem VCall.tree {g:FuncId} {first captured args args':List AVal} {K:AVal→Store→Prop} (bs:List Nat) (hp:pTL (among bs) σ args' (first++args++captured))
  (h:CallSh P g args' (frzI (among bs) 0 σ) K):VCall P (.fn g first captured) args σ K:=by
 refine VCall.sh ?_
 intro X base β w vs h1 h2 h3 fr cs h4
 have hf':=Zen (among bs) σ
 generalize hσf:frzI (among bs) 0 σ = σf at *
 have hf:=hf'.frz
 have h1f:=h1.frz hf
 obtain ⟨e1,e2⟩:=Zbr h1f hf' args' hp
 have e3:∀ k,k<args'.length→Rep w (MT X σf β) β (vs.getD k undef) (args'.getD k .undef):=fun k hk'=>(e2 k hk').1 _ ((h3 k (by omega)).mono (Ze6 hf) (fun _ _ h=>h))
 obtain ⟨r',σ',β',v,w',g0,g1,g2,g3,g4,g5⟩:=h X base β w vs h1f (by omega) e3 fr cs h4
 refine ⟨r',σ',β',v,w',g0,g1,g2,⟨g3.os,g3.tape,g3.output,g3.size,fun g o v hc hn=>g3.cell g o v hc fun hm=>hn (hm.frz hf),fun g hg hn=>g3.block g hg fun o hm=>hn o (hm.frz hf),fun g o hm=>(g3.newM g o hm).imp (fun h=>h.frz hf) id,fun b hb=>g3.env b (by rw [hf.len];exact hb)⟩,by rw [hf.len] at g4;exact g4,g5⟩
theorem CallSh.v {F:Frame→List Frame→Sem Next→World→Value→World→Prop} {g:FuncId} {args:List AVal} {K:AVal→Store→Prop} (h:CallShG P F g args σ K):VCallG P F (.fn g [] []) args σ K :=
 VCall.sh (by simpa using h)
theorem VCallG.c {F:Frame→List Frame→Sem Next→World→Value→World→Prop} {g:FuncId} {args:List AVal} {K:AVal→Store→Prop} (h:VCallG P F (.fn g [] []) args σ K):CallShG P F g args σ K:=by
 intro X base β w vs h1 h2 h3 fr cs h4
 obtain ⟨r,σ',β',v,w',q,g1,g2,g3,g4,g5⟩:=h X base β w (.func (.func g) #[] #[]) vs h1 (.fn rfl rfl (fun k hk=>by simp at hk) fun k hk=>by simp at hk) h2 h3 fr cs h4
 refine ⟨r,σ',β',v,w',q,g1,g2,g3,g4,?_⟩
 have:(do let d ← Deferred.ofValue (.func (.func g) #[] #[]) vs;invoke d.target d.args:Sem Next)=callFunc g vs:=by
  show callFunc g (#[]++vs++#[])=callFunc g vs
  simp
 rw [← this];exact g5
theorem Yo5 (n:Nat):om 0 n=up n:=funext fun b=>by simp [om,up]
theorem CallNw.at {g:FuncId} {args:List AVal} {r0:AVal} {τ0:Store} (hc:CallNw P g args r0 τ0) (hl:lowL 0 args) {K:AVal→Store→Prop} (hk:K (ren (up σ.length) r0) (σ++upS σ.length τ0)):CallSh P g args σ K:=by
 refine VCallG.c ?_
 have:=VCall.tailG (P:=P) (σ:=[]) (τ:=σ) (f:=.fn g [] []) (args:=args) (K:=K) ⟨trivial,trivial⟩ hl trivial ((CallSh.v hc.1).mono ?_)
 ·simpa using this
 rintro r σ' ⟨rfl,rfl⟩
 refine ⟨σ',Za9 _,Nat.zero_le _,hc.2.2,hc.2.1,?_⟩
 have e:midS ([]:Store).length σ.length σ σ' = σ++upS σ.length σ':=by
  simp [midS,Yo5,upS]
 rw [e]
 have e2:om ([]:Store).length σ.length=up σ.length:=Yo5 _
 rw [e2];exact hk
theorem VCall.isoN {g:FuncId} {first captured args args':List AVal} {K:AVal→Store→Prop} {r0:AVal} {τ0:Store} (bs:List Nat) (hc:CallNw P g args' r0 τ0) (hp:pTL (among bs) σ args' (first++args++captured)) (hl:lowL 0 args')
  (hk:K (ren (up σ.length) r0) (frzI (among bs) 0 σ++upS σ.length τ0)):VCall P (.fn g first captured) args σ K:=by
 refine VCall.tree bs hp (hc.at hl ?_)
 rw [Zmj];exact hk
theorem CallNw.begin {g:FuncId} {fn:Func} {c:Code} {args:List AVal} {r0:AVal} {τ0:Store} {m:Nat} {rs:List ResultVar} (n:Nat) (hf:P.funcs[g]? = some fn) (hb:fn.body=some c) (hr:fn.results.toList=rs) (hm:fn.ntmps - args.length=m)
  (hname : (fn.name == "runtime.NumGoroutine") = false) (h1 : r0.low τ0.length) (h2 : lowSo τ0.length τ0)
  (h:vcK P ⟨0,none⟩ (retQ P rs (dropK (fun r σ'=>r=r0∧σ' = τ0) 0)) n [.code c] .normal (args++List.replicate m .undef) []):CallNw P g args r0 τ0 :=
 ⟨CallSh.beginD n hf hb hr hm hname h,h1,h2⟩
theorem Zhv {n:Nat}:upS n []=[]:=rfl
theorem Zft {n:Nat} {τ:Store}:upS n (none :: τ)=none :: upS n τ:=rfl
theorem Zg5 {n:Nat} {b:Blk} {τ:Store}:upS n (some b :: τ)=some (renB (up n) b) :: upS n τ:=rfl
theorem Zm8 {π:Nat→Nat} {b o n s:Nat}:ren π (.os b o n s) = .os (π b) o n s:=rfl
theorem Zdv {π:Nat→Nat} {es:List AVal} {fz:Nat}:renB π (.row es fz) = .row (renL π es) fz:=rfl
end
end Go.Abs
namespace Go.Proofs
open Go Go.Abs
attribute [local go_sem] Nat.reduceAdd Nat.reduceSub Nat.reduceMul Nat.reduceLeDiff Nat.reduceEqDiff Nat.reduceBEq Nat.reduceLT Nat.le_refl Int.natCast_zero Nat.sub_zero List.length_map Int.toNat_natCast Int.natCast_one Int.reduceEq Int.reduceLT Int.reduceLE Int.reduceNe Int.sub_zero Int.zero_add Int.toNat_one
def clsA (l:List (List Li)):List AVal:=l.map fun c=>.ps 5 (lits c)
theorem Zbi (l:List (List Li)):(clsA l).length=l.length:=by simp [clsA]
theorem Zav {n:Nat} (l:List (List Li)):lowL n (clsA l):=Zby fun c _=>Za3 c
theorem Zj8 {l:List (List Li)} {i:Nat} (h:i<l.length):(clsA l).getD i .undef = .ps 5 (lits l[i]):=by simp [clsA,List.getD,h]
@[go_sem] theorem Yjw (l:List Li):appOk ⟨5,true,72,[.bool false, .int .i64 0, .nils, .int .i64 0, .nils], .struct⟩ (lits l)=True:=eq_true (by
 refine ⟨fun x hx=>?_,by decide,by decide,rfl⟩
 obtain ⟨t,_,rfl⟩:=List.mem_map.1 hx
 rw [Zaw];exact ⟨rfl,rfl⟩)
@[go_sem] theorem Ynj (l:List (List Li)):appOk ⟨1,false,24,[.nils], .slice⟩ (clsA l)=True:=eq_true (by
 refine ⟨fun x hx=>?_,by decide,by decide,rfl⟩
 obtain ⟨t,_,rfl⟩:=List.mem_map.1 hx
 exact ⟨rfl,rfl⟩)
@[go_sem] theorem Yn7 (l:List Int):appOk ⟨1,false,8,[.int .i64 0], .int .i64⟩ (ints l)=True:=eq_true (by
 refine ⟨fun x hx=>?_,by decide,by decide,rfl⟩
 obtain ⟨t,_,rfl⟩:=List.mem_map.1 hx
 exact ⟨rfl,rfl⟩)
theorem Ze7 (l:List Tm) (h:l≠[]) (hl:l.length≤1000000000):CallNw Tryz.prog 127 [.ps 2 (l.map Tm.toA)] (.os 1 0 l.length 2) [none,some (.row (l.map Tm.toA) 0)]:=by
 have h0:¬ l.length=0:=fun e=>h (List.eq_nil_of_length_eq_zero e)
 refine CallNw.begin (rs:=[.tmp 2]) (m:=7) 1000 Tryz.func127 rfl rfl rfl rfl (by simp [go_sem]) (by simp [go_sem,Za0]) ?_
 simp only [go_sem,List.length_map,h0]
 (repeat ((with_reducible refine And.intro ?_ ?_); ·omega))
 rw [Zax]
 exact ⟨_,Za9 _,Nat.zero_le _,by simp [go_sem,Za0],by simp [go_sem],by simp,rfl⟩
theorem Zr8:CallSh Tryz.prog 127 [.ps 2 []] [] (fun r σ'=>r = .nils∧σ'=[]∨r = .os 1 0 0 2∧σ'=[none,some (.row [] 0)]):=by
 refine CallSh.beginD (rs:=[.tmp 2]) (m:=7) 1000 Tryz.func127 rfl rfl rfl rfl ?_
 simp only [go_sem]
 refine ⟨?_,by simp [appOk],?_⟩
 ·rw [Zax];exact ⟨[],Za9 _,Nat.le_refl _,trivial,trivial, .inl ⟨rfl,rfl⟩⟩
 ·rw [Zax];exact ⟨_,Za9 _,Nat.zero_le _,by simp [go_sem],by simp [go_sem], .inr ⟨rfl,rfl⟩⟩
theorem Zlo (l:List Li) (h:l≠[]) (hl:l.length≤1000000000):CallNw Tryz.prog 65 [.ps 5 (lits l)] (.os 1 0 l.length 5) [none,some (.row (lits l) 0)]:=by
 have h0:¬ l.length=0:=fun e=>h (List.eq_nil_of_length_eq_zero e)
 refine CallNw.begin (rs:=[.tmp 2]) (m:=7) 1000 Tryz.func65 rfl rfl rfl rfl (by simp [go_sem]) (by simp [go_sem,Za3]) ?_
 simp only [go_sem,Zaf,h0]
 (repeat ((with_reducible refine And.intro ?_ ?_); ·omega))
 rw [Zax]
 exact ⟨_,Za9 _,Nat.zero_le _,by simp [go_sem,Za3],by simp [go_sem],by simp,rfl⟩
theorem Zxn (l:List (List Li)) (h:l≠[]) (hl:l.length≤1000000000):CallNw Tryz.prog 52 [.ps 1 (clsA l)] (.os 1 0 l.length 1) [none,some (.row (clsA l) 0)]:=by
 have h0:¬ l.length=0:=fun e=>h (List.eq_nil_of_length_eq_zero e)
 refine CallNw.begin (rs:=[.tmp 2]) (m:=7) 1000 Tryz.func52 rfl rfl rfl rfl (by simp [go_sem]) (by simp [go_sem,Zav]) ?_
 simp only [go_sem,Zbi,h0]
 (repeat ((with_reducible refine And.intro ?_ ?_); ·omega))
 rw [Zax]
 exact ⟨_,Za9 _,Nat.zero_le _,by simp [go_sem,Zav],by simp [go_sem],by simp,rfl⟩
theorem Zqx:CallSh Tryz.prog 52 [.ps 1 []] [] (fun r σ'=>r = .nils∧σ'=[]∨r = .os 1 0 0 1∧σ'=[none,some (.row [] 0)]):=by
 refine CallSh.beginD (rs:=[.tmp 2]) (m:=7) 1000 Tryz.func52 rfl rfl rfl rfl ?_
 simp only [go_sem]
 refine ⟨?_,by simp [appOk],?_⟩
 ·rw [Zax];exact ⟨[],Za9 _,Nat.le_refl _,trivial,trivial, .inl ⟨rfl,rfl⟩⟩
 ·rw [Zax];exact ⟨_,Za9 _,Nat.zero_le _,by simp [go_sem],by simp [go_sem], .inr ⟨rfl,rfl⟩⟩
theorem Zs3 (l:List Int) (h:l≠[]) (hl:l.length≤1000000000):CallNw Tryz.prog 153 [.ps 1 (ints l)] (.os 1 0 l.length 1) [none,some (.row (ints l) 0)]:=by
 have h0:¬ l.length=0:=fun e=>h (List.eq_nil_of_length_eq_zero e)
 refine CallNw.begin (rs:=[.tmp 2]) (m:=7) 1000 Tryz.func153 rfl rfl rfl rfl (by simp [go_sem]) (by simp [go_sem,Za4]) ?_
 simp only [go_sem,Zad,h0]
 (repeat ((with_reducible refine And.intro ?_ ?_); ·omega))
 rw [Zax]
 exact ⟨_,Za9 _,Nat.zero_le _,by simp [go_sem,Za4],by simp [go_sem],by simp,rfl⟩
theorem Zq5:CallSh Tryz.prog 153 [.ps 1 []] [] (fun r σ'=>r = .nils∧σ'=[]∨r = .os 1 0 0 1∧σ'=[none,some (.row [] 0)]):=by
 refine CallSh.beginD (rs:=[.tmp 2]) (m:=7) 1000 Tryz.func153 rfl rfl rfl rfl ?_
 simp only [go_sem]
 refine ⟨?_,by simp [appOk],?_⟩
 ·rw [Zax];exact ⟨[],Za9 _,Nat.le_refl _,trivial,trivial, .inl ⟨rfl,rfl⟩⟩
 ·rw [Zax];exact ⟨_,Za9 _,Nat.zero_le _,by simp [go_sem],by simp [go_sem], .inr ⟨rfl,rfl⟩⟩
theorem Zf6 {σ:Store} {b:Nat} {x:Blk} (h:getS σ b=some x):b < σ.length:=(List.getElem?_eq_some_iff.1 (Zae h)).1
theorem Zxq (σ:Store) (c:AVal) (p:Li→Bool) (l:List Li) (hl:l.length<2 ^ 62) (hs:lowSo σ.length σ) (hc:c.low σ.length)
  (hp:∀ (i:Nat) (h:i<l.length),VCall Tryz.prog c [l[i].toA] σ (fun r σ'=>r = .bool (p l[i])∧σ' = σ)) :
  VCall Tryz.prog (.fn 66 [] []) [.ps 5 (lits l),c] σ (fun r σ'=>r = .int .i64 (idxF p l 0)∧σ' = σ):=by
 refine VCall.begin (rs:=[.tmp 4]) (m:=17) 1000 Tryz.func66 rfl rfl rfl rfl rfl ?_
 simp only [go_sem,Zaf]
 refine EvK.loopI (ι:={i:Nat // i≤l.length∧idxF p (l.drop i) i=idxF p l 0}) 1000 (fun i=>mkT 19 [(0, .ps 5 (lits l)),(1,c),(7, .int .i64 l.length),(8, .int .i64 i.1)]) (fun _=>σ) (fun i=>l.length - i.1) ⟨0,by simp⟩ ?_ (fun _=>Nat.le_refl _) ?_
 ·simp only [go_sem,Za3,Zaf,hc,hs]
  exact Za9 σ
 ·rintro ⟨i,hi,hpre⟩
  by_cases hlt:(i:Int)<l.length
  ·have hlt':i<l.length:=by omega
   have hd:idxF p (l.drop i) i=if p l[i] then (i:Int) else idxF p (l.drop (i+1)) ((i:Int)+1):=by
    rw [List.drop_eq_getElem_cons hlt'];rfl
   simp only [go_sem,hlt,Zaf,Zc6 hlt',Zaw]
   (repeat ((with_reducible refine And.intro ?_ ?_); ·omega))
   refine (hp i hlt').mono ?_
   rintro r σ' ⟨rfl,rfl⟩
   refine EvK.go 1000 ?_
   cases e:p l[i] with
   | true =>
    rw [hd,e,if_pos rfl] at hpre
    simp only [go_sem]
    refine EvK.go 1000 ?_
    simp only [go_sem,← hpre]
    rw [Zax];exact ⟨σ',Za9 σ',Nat.le_refl _,hs,trivial,rfl,rfl⟩
   | false =>
    rw [hd,e,if_neg (by decide)] at hpre
    simp only [go_sem]
    refine ⟨⟨i+1,hlt',hpre⟩,?_,by simp only;omega⟩
    simp only [go_sem,Za3,hc,hs]
    rw [Zab (by omega)];exact ⟨rfl,Za9 σ'⟩
  ·have hi':i=l.length:=by omega
   subst hi'
   rw [List.drop_length] at hpre
   simp only [go_sem,hlt]
   refine EvK.go 1000 ?_
   simp only [go_sem,← hpre]
   rw [Zax];exact ⟨σ,Za9 σ,Nat.le_refl _,hs,trivial,rfl,rfl⟩
theorem Zl7 (σ:Store) (c:AVal) (p:Li→Bool) (l:List Li) (hl:l.length<2 ^ 62) (hs:lowSo σ.length σ) (hc:c.low σ.length)
  (hp:∀ (i:Nat) (h:i<l.length),VCall Tryz.prog c [l[i].toA] σ (fun r σ'=>r = .bool (p l[i])∧σ' = σ)) :
  VCall Tryz.prog (.fn 72 [] []) [.ps 5 (lits l),c] σ (fun r σ'=>r = .bool (l.any p)∧σ' = σ):=by
 refine VCall.begin (rs:=[.tmp 4]) (m:=7) 1000 Tryz.func72 rfl rfl rfl rfl rfl ?_
 simp only [go_sem]
 refine (Zxq σ c p l hl hs hc hp).mono ?_
 rintro r σ' ⟨rfl,rfl⟩
 refine EvK.go 1000 ?_
 simp only [go_sem]
 rw [Zax,Zg8 p l 0 (by omega)];exact ⟨σ',Za9 σ',Nat.le_refl _,hs,trivial,rfl,rfl⟩
theorem Zrs (σ:Store) {b:Nat} (c:AVal) (p:Li→Bool) (l:List Li) (hb:getS σ b=some (.row (lits l) 0)) (hl:l.length<2 ^ 62) (hs:lowSo σ.length σ) (hc:c.low σ.length)
  (hp:∀ (i:Nat) (h:i<l.length),VCall Tryz.prog c [l[i].toA] σ (fun r σ'=>r = .bool (p l[i])∧σ' = σ)) :
  VCall Tryz.prog (.fn 66 [] []) [.os b 0 l.length 5,c] σ (fun r σ'=>r = .int .i64 (idxF p l 0)∧σ' = σ):=by
 refine VCall.begin (rs:=[.tmp 4]) (m:=17) 1000 Tryz.func66 rfl rfl rfl rfl rfl ?_
 simp only [go_sem,Zaf]
 refine EvK.loopI (ι:={i:Nat // i≤l.length∧idxF p (l.drop i) i=idxF p l 0}) 1000 (fun i=>mkT 19 [(0, .os b 0 l.length 5),(1,c),(7, .int .i64 l.length),(8, .int .i64 i.1)]) (fun _=>σ) (fun i=>l.length - i.1) ⟨0,by simp⟩ ?_ (fun _=>Nat.le_refl _) ?_
 ·simp only [go_sem,Za3,Zaf,hc,hs]
  exact ⟨Za9 σ,Zf6 hb⟩
 ·rintro ⟨i,hi,hpre⟩
  by_cases hlt:(i:Int)<l.length
  ·have hlt':i<l.length:=by omega
   have hd:idxF p (l.drop i) i=if p l[i] then (i:Int) else idxF p (l.drop (i+1)) ((i:Int)+1):=by
    rw [List.drop_eq_getElem_cons hlt'];rfl
   simp only [go_sem,hlt,Zaf,Zc6 hlt',Zaw,hb]
   (repeat ((with_reducible refine And.intro ?_ ?_); ·omega))
   refine (hp i hlt').mono ?_
   rintro r σ' ⟨rfl,rfl⟩
   refine EvK.go 1000 ?_
   cases e:p l[i] with
   | true =>
    rw [hd,e,if_pos rfl] at hpre
    simp only [go_sem]
    refine EvK.go 1000 ?_
    simp only [go_sem,← hpre]
    rw [Zax];exact ⟨σ',Za9 σ',Nat.le_refl _,hs,trivial,rfl,rfl⟩
   | false =>
    rw [hd,e,if_neg (by decide)] at hpre
    simp only [go_sem]
    refine ⟨⟨i+1,hlt',hpre⟩,?_,by simp only;omega⟩
    simp only [go_sem,Za3,hc,hs]
    rw [Zab (by omega)];exact ⟨rfl,Za9 σ',Zf6 hb⟩
  ·have hi':i=l.length:=by omega
   subst hi'
   rw [List.drop_length] at hpre
   simp only [go_sem,hlt]
   refine EvK.go 1000 ?_
   simp only [go_sem,← hpre]
   rw [Zax];exact ⟨σ,Za9 σ,Nat.le_refl _,hs,trivial,rfl,rfl⟩
theorem Zlw (σ:Store) (c:AVal) (p:Tm→Bool) (l:List Tm) (hl:l.length<2 ^ 62) (hs:lowSo σ.length σ) (hc:c.low σ.length)
  (hp:∀ (i:Nat) (h:i<l.length),VCall Tryz.prog c [l[i].toA] σ (fun r σ'=>r = .bool (p l[i])∧σ' = σ)) :
  VCall Tryz.prog (.fn 143 [] []) [.ps 2 (l.map Tm.toA),c] σ (fun r σ'=>r = .int .i64 (idxF p l 0)∧σ' = σ):=by
 refine VCall.begin (rs:=[.tmp 4]) (m:=17) 1000 Tryz.func143 rfl rfl rfl rfl rfl ?_
 simp only [go_sem,List.length_map]
 refine EvK.loopI (ι:={i:Nat // i≤l.length∧idxF p (l.drop i) i=idxF p l 0}) 1000 (fun i=>mkT 19 [(0, .ps 2 (l.map Tm.toA)),(1,c),(7, .int .i64 l.length),(8, .int .i64 i.1)]) (fun _=>σ) (fun i=>l.length - i.1) ⟨0,by simp⟩ ?_ (fun _=>Nat.le_refl _) ?_
 ·simp only [go_sem,Za0,List.length_map,hc,hs]
  exact Za9 σ
 ·rintro ⟨i,hi,hpre⟩
  by_cases hlt:(i:Int)<l.length
  ·have hlt':i<l.length:=by omega
   have hd:idxF p (l.drop i) i=if p l[i] then (i:Int) else idxF p (l.drop (i+1)) ((i:Int)+1):=by
    rw [List.drop_eq_getElem_cons hlt'];rfl
   simp only [go_sem,hlt,List.length_map,Zaq hlt',Za8]
   (repeat ((with_reducible refine And.intro ?_ ?_); ·omega))
   have hpi:=hp i hlt'
   rw [Za6] at hpi
   refine hpi.mono ?_
   rintro r σ' ⟨rfl,rfl⟩
   refine EvK.go 1000 ?_
   cases e:p l[i] with
   | true =>
    rw [hd,e,if_pos rfl] at hpre
    simp only [go_sem]
    refine EvK.go 1000 ?_
    simp only [go_sem,← hpre]
    rw [Zax];exact ⟨σ',Za9 σ',Nat.le_refl _,hs,trivial,rfl,rfl⟩
   | false =>
    rw [hd,e,if_neg (by decide)] at hpre
    simp only [go_sem]
    refine ⟨⟨i+1,hlt',hpre⟩,?_,by simp only;omega⟩
    simp only [go_sem,Za0,hc,hs]
    rw [Zab (by omega)];exact ⟨rfl,Za9 σ'⟩
  ·have hi':i=l.length:=by omega
   subst hi'
   rw [List.drop_length] at hpre
   simp only [go_sem,hlt]
   refine EvK.go 1000 ?_
   simp only [go_sem,← hpre]
   rw [Zax];exact ⟨σ,Za9 σ,Nat.le_refl _,hs,trivial,rfl,rfl⟩
theorem Zdy (σ:Store) (c:AVal) (p:Tm→Bool) (l:List Tm) (hl:l.length<2 ^ 62) (hs:lowSo σ.length σ) (hc:c.low σ.length)
  (hp:∀ (i:Nat) (h:i<l.length),VCall Tryz.prog c [l[i].toA] σ (fun r σ'=>r = .bool (p l[i])∧σ' = σ)) :
  VCall Tryz.prog (.fn 147 [] []) [.ps 2 (l.map Tm.toA),c] σ (fun r σ'=>r = .bool (l.any p)∧σ' = σ):=by
 refine VCall.begin (rs:=[.tmp 4]) (m:=7) 1000 Tryz.func147 rfl rfl rfl rfl rfl ?_
 simp only [go_sem]
 refine (Zlw σ c p l hl hs hc hp).mono ?_
 rintro r σ' ⟨rfl,rfl⟩
 refine EvK.go 1000 ?_
 simp only [go_sem]
 rw [Zax,Zg8 p l 0 (by omega)];exact ⟨σ',Za9 σ',Nat.le_refl _,hs,trivial,rfl,rfl⟩
theorem Zr5 (σ:Store) {b:Nat} (c:AVal) (p:Tm→Bool) (l:List Tm) (hb:getS σ b=some (.row (l.map Tm.toA) 0)) (hl:l.length<2 ^ 62) (hs:lowSo σ.length σ) (hc:c.low σ.length)
  (hp:∀ (i:Nat) (h:i<l.length),VCall Tryz.prog c [l[i].toA] σ (fun r σ'=>r = .bool (p l[i])∧σ' = σ)) :
  VCall Tryz.prog (.fn 143 [] []) [.os b 0 l.length 2,c] σ (fun r σ'=>r = .int .i64 (idxF p l 0)∧σ' = σ):=by
 refine VCall.begin (rs:=[.tmp 4]) (m:=17) 1000 Tryz.func143 rfl rfl rfl rfl rfl ?_
 simp only [go_sem,List.length_map]
 refine EvK.loopI (ι:={i:Nat // i≤l.length∧idxF p (l.drop i) i=idxF p l 0}) 1000 (fun i=>mkT 19 [(0, .os b 0 l.length 2),(1,c),(7, .int .i64 l.length),(8, .int .i64 i.1)]) (fun _=>σ) (fun i=>l.length - i.1) ⟨0,by simp⟩ ?_ (fun _=>Nat.le_refl _) ?_
 ·simp only [go_sem,Za0,List.length_map,hc,hs]
  exact ⟨Za9 σ,Zf6 hb⟩
 ·rintro ⟨i,hi,hpre⟩
  by_cases hlt:(i:Int)<l.length
  ·have hlt':i<l.length:=by omega
   have hd:idxF p (l.drop i) i=if p l[i] then (i:Int) else idxF p (l.drop (i+1)) ((i:Int)+1):=by
    rw [List.drop_eq_getElem_cons hlt'];rfl
   simp only [go_sem,hlt,List.length_map,Zaq hlt',Za8,hb]
   (repeat ((with_reducible refine And.intro ?_ ?_); ·omega))
   have hpi:=hp i hlt'
   rw [Za6] at hpi
   refine hpi.mono ?_
   rintro r σ' ⟨rfl,rfl⟩
   refine EvK.go 1000 ?_
   cases e:p l[i] with
   | true =>
    rw [hd,e,if_pos rfl] at hpre
    simp only [go_sem]
    refine EvK.go 1000 ?_
    simp only [go_sem,← hpre]
    rw [Zax];exact ⟨σ',Za9 σ',Nat.le_refl _,hs,trivial,rfl,rfl⟩
   | false =>
    rw [hd,e,if_neg (by decide)] at hpre
    simp only [go_sem]
    refine ⟨⟨i+1,hlt',hpre⟩,?_,by simp only;omega⟩
    simp only [go_sem,Za0,hc,hs]
    rw [Zab (by omega)];exact ⟨rfl,Za9 σ',Zf6 hb⟩
  ·have hi':i=l.length:=by omega
   subst hi'
   rw [List.drop_length] at hpre
   simp only [go_sem,hlt]
   refine EvK.go 1000 ?_
   simp only [go_sem,← hpre]
   rw [Zax];exact ⟨σ,Za9 σ,Nat.le_refl _,hs,trivial,rfl,rfl⟩
theorem Zwr (σ:Store) (c:AVal) (p:Int→Bool) (l:List Int) (hl:l.length<2 ^ 62) (hs:lowSo σ.length σ) (hc:c.low σ.length)
  (hp:∀ (i:Nat) (h:i<l.length),VCall Tryz.prog c [(.int .i64 l[i])] σ (fun r σ'=>r = .bool (p l[i])∧σ' = σ)) :
  VCall Tryz.prog (.fn 129 [] []) [.ps 1 (ints l),c] σ (fun r σ'=>r = .int .i64 (idxF p l 0)∧σ' = σ):=by
 refine VCall.begin (rs:=[.tmp 4]) (m:=17) 1000 Tryz.func129 rfl rfl rfl rfl rfl ?_
 simp only [go_sem,Zad]
 refine EvK.loopI (ι:={i:Nat // i≤l.length∧idxF p (l.drop i) i=idxF p l 0}) 1000 (fun i=>mkT 19 [(0, .ps 1 (ints l)),(1,c),(7, .int .i64 l.length),(8, .int .i64 i.1)]) (fun _=>σ) (fun i=>l.length - i.1) ⟨0,by simp⟩ ?_ (fun _=>Nat.le_refl _) ?_
 ·simp only [go_sem,Za4,Zad,hc,hs]
  exact Za9 σ
 ·rintro ⟨i,hi,hpre⟩
  by_cases hlt:(i:Int)<l.length
  ·have hlt':i<l.length:=by omega
   have hd:idxF p (l.drop i) i=if p l[i] then (i:Int) else idxF p (l.drop (i+1)) ((i:Int)+1):=by
    rw [List.drop_eq_getElem_cons hlt'];rfl
   simp only [go_sem,hlt,Zad,Zbe hlt',Zo5]
   (repeat ((with_reducible refine And.intro ?_ ?_); ·omega))
   refine (hp i hlt').mono ?_
   rintro r σ' ⟨rfl,rfl⟩
   refine EvK.go 1000 ?_
   cases e:p l[i] with
   | true =>
    rw [hd,e,if_pos rfl] at hpre
    simp only [go_sem]
    refine EvK.go 1000 ?_
    simp only [go_sem,← hpre]
    rw [Zax];exact ⟨σ',Za9 σ',Nat.le_refl _,hs,trivial,rfl,rfl⟩
   | false =>
    rw [hd,e,if_neg (by decide)] at hpre
    simp only [go_sem]
    refine ⟨⟨i+1,hlt',hpre⟩,?_,by simp only;omega⟩
    simp only [go_sem,Za4,hc,hs]
    rw [Zab (by omega)];exact ⟨rfl,Za9 σ'⟩
  ·have hi':i=l.length:=by omega
   subst hi'
   rw [List.drop_length] at hpre
   simp only [go_sem,hlt]
   refine EvK.go 1000 ?_
   simp only [go_sem,← hpre]
   rw [Zax];exact ⟨σ,Za9 σ,Nat.le_refl _,hs,trivial,rfl,rfl⟩
theorem Zl1 (σ:Store) (c:AVal) (p:Int→Bool) (l:List Int) (hl:l.length<2 ^ 62) (hs:lowSo σ.length σ) (hc:c.low σ.length)
  (hp:∀ (i:Nat) (h:i<l.length),VCall Tryz.prog c [(.int .i64 l[i])] σ (fun r σ'=>r = .bool (p l[i])∧σ' = σ)) :
  VCall Tryz.prog (.fn 91 [] []) [.ps 1 (ints l),c] σ (fun r σ'=>r = .bool (l.any p)∧σ' = σ):=by
 refine VCall.begin (rs:=[.tmp 4]) (m:=7) 1000 Tryz.func91 rfl rfl rfl rfl rfl ?_
 simp only [go_sem]
 refine (Zwr σ c p l hl hs hc hp).mono ?_
 rintro r σ' ⟨rfl,rfl⟩
 refine EvK.go 1000 ?_
 simp only [go_sem]
 rw [Zax,Zg8 p l 0 (by omega)];exact ⟨σ',Za9 σ',Nat.le_refl _,hs,trivial,rfl,rfl⟩
end Go.Proofs
namespace Go.Abs
open Go
theorem Rep.renF {w:World} {M:Nat→Nat→Prop} {β β':Env} {π:Nat→Nat} {n:Nat} {v:Value} {a:AVal} (h:Rep w M β' v a):a.low n→(∀ b,b<n→β (π b) = β' b)→Rep w M β v (Abs.ren π a):=by
 intro hl hβ
 induction h with
 | undef v=>exact .undef v
 | bool b=>exact .bool b
 | anyb b=>exact .anyb b
 | int k n=>exact .int k n
 | str s=>exact .str s
 | nilptr=>exact .nilptr
 | ptr h=>exact .ptr ((hβ _ hl).trans h)
 | rp h=>exact .rp ((hβ _ hl).trans h)
 | @pp g o cs cv hc _ ih =>
  simp only [Abs.ren]
  refine .pp cv (fun k hk=>hc k (by rw [Zag] at hk;exact hk)) fun k hk=>?_
  rw [Zag] at hk;rw [Zai];exact ih k hk (Zaa hl k)
 | nils a=>exact .nils a
 | @ps a cap sz es cv hcap hsz hc ha _ ih =>
  simp only [Abs.ren]
  have e:(renL π es).length=es.length:=Zag π es
  rw [← e]
  refine .ps cv (by rw [e];exact hcap) (fun i hi=>?_) (fun i j hi hj=>hc i j (by rw [e] at hi;exact hi) hj) (fun h0=>ha (by rw [e] at h0;exact h0)) (fun i j hi hj=>?_)
  ·rw [Zai,Zd2,Zag];exact hsz i (by rw [e] at hi;exact hi)
  ·rw [Zai,Zd2,Zai];exact ih i j (by rw [e] at hi;exact hi) hj (Zaa (Ze5 (Zaa hl i)) j)
 | os0 a h=>exact .os0 a ((hβ _ hl).trans h)
 | os h h1 h2=>exact .os ((hβ _ hl).trans h) h1 h2
 | oc0 a h=>exact .oc0 a ((hβ _ hl).trans h)
 | oc h h1 h2=>exact .oc ((hβ _ hl).trans h) h1 h2
 | nilfn=>exact .nilfn
 | fn h1 h2 _ _ ih1 ih2 =>
  simp only [Abs.ren]
  refine .fn (by rw [Zag];exact h1) (by rw [Zag];exact h2) (fun k hk=>?_) (fun k hk=>?_)
  ·rw [Zag] at hk;rw [Zai];exact ih1 k hk (Zaa hl.1 k)
  ·rw [Zag] at hk;rw [Zai];exact ih2 k hk (Zaa hl.2 k)
 | yld h=>exact .yld ((hβ _ hl).trans h)
 | nilmap=>exact .nilmap
 | map h=>exact .map ((hβ _ hl).trans h)
 | pm hg hm h1 h2 _ _ hb ih1 ih2 =>
  simp only [Abs.ren]
  refine .pm hg hm (by rw [Zag];exact h1) (by rw [Zag,Zag];exact h2) (fun k hk=>?_) (fun k hk=>?_) hb
  ·rw [Zag] at hk;rw [Zai];exact ih1 k hk (Zaa hl.1 k)
  ·rw [Zag] at hk;rw [Zai];exact ih2 k hk (Zaa hl.2 k)
 | it h=>exact .it ((hβ _ hl).trans h)
 | agg h _ ih =>
  simp only [Abs.ren]
  refine .agg (by rw [Zag];exact h) fun k hk=>?_
  rw [Zag] at hk;rw [Zai];exact ih k hk (Zaa hl k)
 | tup h _ ih =>
  simp only [Abs.ren]
  refine .tup (by rw [Zag];exact h) fun k hk=>?_
  rw [Zag] at hk;rw [Zai];exact ih k hk (Zaa hl k)
 | nilif=>exact .nilif
 | iface _ ih=>exact .iface (ih hl)
 | opq v=>exact .opq v
section
variable {P:Program}
theorem VCall.oneR {F:Frame→List Frame→Sem Next→World→Value→World→Prop} {f:AVal} {args:List AVal} {K:AVal→Store→Prop} {Z:Store} {i:Nat} {B:Blk} (hZ:∀ b x,Z[b]? = some (some x)↔b=i∧B=x) (hB:B.low 0) (hf:f.low 0) (ha:lowL 1 args)
  (h:VCallG P F f args [some B] (fun r σ'=>r.low 1∧∃ B',σ'=[some B']∧B'.low 0∧K (ren (fun _=>i) r) (Z.set i (some B')))):VCallG P F f (renL (fun _=>i) args) Z K:=by
 intro X base β w vf vs h1 h1' h2 h3 fr cs h4
 rw [Zag] at h2 h3
 obtain ⟨L,l1,l2,l3,l4⟩:=h1.blk i B ((hZ i B).2 ⟨rfl,rfl⟩)
 have hiZ:i<Z.length:=(List.getElem?_eq_some_iff.1 ((hZ i B).2 ⟨rfl,rfl⟩)).1
 have e0:envR β (fun _=>i) 1 0=some L:=l1
 have hm:∀ g o,Mof Z β g o↔Mof [some B] (envR β (fun _=>i) 1) g o:=fun g o=>by
  constructor
  ·rintro ⟨b,x,L',m1,m2,m3,m4⟩
   obtain ⟨rfl,rfl⟩:=(hZ b x).1 m1
   exact ⟨0,B,L',rfl,m2,m3,m4⟩
  ·rintro ⟨b,x,L',m1,m2,m3,m4⟩
   obtain ⟨rfl,rfl⟩:=Zjk.1 m1
   exact ⟨i,B,L',(hZ i B).2 ⟨rfl,rfl⟩,m2,m3,m4⟩
 have hM:MT X [some B] (envR β (fun _=>i) 1)=MT X Z β:=funext fun g=>funext fun o=>propext (or_congr Iff.rfl (hm g o).symm)
 have hr:RelS X base [some B] (envR β (fun _=>i) 1) w:=by
  refine ⟨fun b hb=>?_,fun b x hb=>?_,fun b b' x y L' L'' e1 e2 _ _ _=>?_,h1.size,h1.xlt,h1.gl⟩
  ·simp only [List.length_singleton] at hb
   exact if_neg (by omega)
  ·obtain ⟨rfl,rfl⟩:=Zjk.1 hb
   refine ⟨L,e0,l2,l3,?_⟩
   rw [hM]
   exact BlkOk.low (n:=0) (fun b hb=>absurd hb (by omega)) l4 hB
  ·rw [(Zjk.1 e1).1,(Zjk.1 e2).1]
 have hf':Rep w (MT X Z β) (envR β (fun _=>i) 1) vf f:=Rep.low (n:=0) (fun b hb=>absurd hb (by omega)) h1' hf
 have ha':∀ k,k<args.length→Rep w (MT X Z β) (envR β (fun _=>i) 1) (vs.getD k undef) (args.getD k .undef):=fun k hk=>by
  have:=h3 k hk
  rw [Zai] at this
  exact Rep.ren this _ rfl (Zaa ha k)
 rw [← hM] at hf' ha'
 obtain ⟨r,σ',β',v,w',⟨q1,B',rfl,q2,q3⟩,g1,g2,g3,g4,g5⟩:=h X base _ w vf vs hr hf' h2 ha' fr cs h4
 have e0' : β' 0=some L:=(g3.env 0 Nat.one_pos).trans e0
 have hZ':∀ b x,(Z.set i (some B'))[b]? = some (some x)↔b=i∧B'=x:=fun b x=>by
  by_cases hb:b=i
  ·subst hb;rw [List.getElem?_set_self hiZ];simp
  ·rw [List.getElem?_set_ne (fun e=>hb e.symm)]
   constructor
   ·intro e;exact absurd ((hZ b x).1 e).1 hb
   ·intro e;exact absurd e.1 hb
 have hm':∀ g o,Mof (Z.set i (some B')) β g o↔Mof [some B'] β' g o:=fun g o=>by
  constructor
  ·rintro ⟨b,x,L',m1,m2,m3,m4⟩
   obtain ⟨rfl,rfl⟩:=(hZ' b x).1 m1
   obtain rfl:=Option.some.inj (l1.symm.trans m2)
   exact ⟨0,B',L,rfl,e0',m3,m4⟩
  ·rintro ⟨b,x,L',m1,m2,m3,m4⟩
   obtain ⟨rfl,rfl⟩:=Zjk.1 m1
   obtain rfl:=Option.some.inj (e0'.symm.trans m2)
   exact ⟨i,B',L,(hZ' i B').2 ⟨rfl,rfl⟩,l1,m3,m4⟩
 have hM':MT X [some B'] β'=MT X (Z.set i (some B')) β:=funext fun g=>funext fun o=>propext (or_congr Iff.rfl (hm' g o).symm)
 refine ⟨_,Z.set i (some B'),β,v,w',q3,?_,?_,?_,by simp,g5⟩
 ·refine ⟨fun b hb=>h1.dom b (by simpa using hb),fun b x hb=>?_,fun b b' x y L' L'' e1 e2 _ _ _=>?_,g1.size,g1.xlt,g1.gl⟩
  ·obtain ⟨rfl,rfl⟩:=(hZ' b x).1 hb
   obtain ⟨L',k1,k2,k3,k4⟩:=g1.blk 0 B' rfl
   obtain rfl:=Option.some.inj (e0'.symm.trans k1)
   refine ⟨L,l1,k2,k3,?_⟩
   rw [← hM']
   exact BlkOk.low (n:=0) (fun b hb=>absurd hb (by omega)) k4 q2
  ·rw [((hZ' _ _).1 e1).1,((hZ' _ _).1 e2).1]
 ·rw [← hM']
  exact g2.renF (π:=fun _=>i) q1 fun b hb=>by obtain rfl:b=0:=(by omega);exact l1.trans e0'.symm
 ·exact ⟨g3.os,g3.tape,g3.output,g3.size,fun g o x hc hn=>g3.cell g o x hc fun hx=>hn ((hm g o).2 hx),fun g hg hn=>g3.block g hg fun o hx=>hn o ((hm g o).2 hx),fun g o hx=>(g3.newM g o ((hm' g o).1 hx)).imp (hm g o).2 id,fun _ _=>rfl⟩
theorem VCall.at1R {F:Frame→List Frame→Sem Next→World→Value→World→Prop} {f:AVal} {args:List AVal} {K:AVal→Store→Prop} {σ:Store} (i:Nat) {B:Blk} (hi : σ[i]? = some (some B)) (hB:B.low 0) (hf:f.low 0) (ha:lowL 1 args)
  (h:VCallG P F f args [some B] (fun r σ'=>r.low 1∧∃ B',σ'=[some B']∧B'.low 0∧K (ren (fun _=>i) r) (σ.set i (some B')))):VCallG P F f (renL (fun _=>i) args) σ K:=by
 have hlt:i < σ.length:=(List.getElem?_eq_some_iff.1 hi).1
 refine VCall.frame (fun b=>decide (b=i)) (K':=fun r σ2=>∃ B',σ2=(maskS (fun b=>decide (b=i)) 0 σ).set i (some B')∧K r (σ.set i (some B'))) ?_ ?_
 ·refine VCall.oneR (B:=B) ?_ hB hf ha (h.mono ?_)
  ·intro b x
   rw [Zbo,Nat.zero_add]
   by_cases hb:b=i
   ·subst hb;simp [hi]
   ·simp [hb]
  ·rintro r σ' ⟨q1,B',rfl,q2,q3⟩
   exact ⟨q1,B',rfl,q2,B',rfl,q3⟩
 ·rintro r σ' ⟨B',rfl,hk⟩
  refine ⟨fun b hb hv=>?_,?_⟩
  ·simp only [decide_eq_false_iff_not] at hv
   rw [List.getElem?_set_ne (fun e=>hv e.symm),Zbo,Nat.zero_add,List.getElem?_eq_getElem hb];simp [hv]
  ·have e:backS (fun b=>decide (b=i)) 0 ((maskS (fun b=>decide (b=i)) 0 σ).set i (some B')) σ = σ.set i (some B'):=by
    refine List.ext_getElem? fun b=>?_
    rw [Zef (fun b=>decide (b=i)) ((maskS (fun b=>decide (b=i)) 0 σ).set i (some B')) σ 0 b (by rw [List.length_set,Zb4];exact Nat.le_refl _),Nat.zero_add]
    by_cases hb:b=i
    ·subst hb
     rw [if_neg (by simp),List.getElem?_set_self (by rw [Zb4];exact hlt),List.getElem?_set_self hlt]
    ·by_cases hbl:b < σ.length
     ·rw [if_pos ⟨hbl,by simpa using hb⟩,List.getElem?_set_ne (fun e=>hb e.symm)]
     ·rw [if_neg (fun h=>hbl h.1),List.getElem?_eq_none (by rw [List.length_set,Zb4];omega),List.getElem?_eq_none (by rw [List.length_set];omega)]
   rw [e];exact hk
def treeN (K:AVal→Store→Prop) (n:Nat) (r0:AVal) (σ':Store):Prop:=∃ r,pT (fun _=>true) σ' r (osOf r0)∧r.low 0∧K r (List.replicate n none)
theorem Zl0 {n b:Nat} {x:Blk}:¬ (List.replicate n (none:Option Blk))[b]? = some (some x):=by
 rw [List.getElem?_replicate];split<;>simp
theorem CallSh.treeN {F:Frame→List Frame→Sem Next→World→Value→World→Prop} {σ:Store} {g:FuncId} {args:List AVal} {K:AVal→Store→Prop} (h:CallShG P F g args σ (treeN K σ.length)):CallShG P F g args σ K:=by
 intro X base β w vs h1 h2 h3 fr cs h4
 obtain ⟨r0,σ',β',v,w',⟨r,k1,k5,k6⟩,g1,g2,g3,g4,g5⟩:=h X base β w vs h1 h2 h3 fr cs h4
 have hf:=Zen (fun _=>true) σ'
 generalize hσf:frzI (fun _=>true) 0 σ' = σf at hf
 have hrf:=g1.frz hf.frz
 have hr':=(Zn1 hrf hf r k1).1 v (Zug (g2.mono (Ze6 hf.frz) (fun _ _ h=>h)))
 have hle:leS (List.replicate σ.length none) σf:=fun b x hb=>absurd hb Zl0
 have hl:(List.replicate σ.length (none:Option Blk)).length = σ.length:=by simp
 have hlow:lowS σ.length (List.replicate σ.length none):=fun b x hb=>absurd hb Zl0
 have hs:=hrf.drop hle hl hlow
 have hrep:=Rep.drop hr' hle hl (Zau (Nat.zero_le _) k5)
 exact ⟨r,_,_,v,w',k6,hs,hrep,g3.drop (σ':=List.replicate σ.length none) (fun b x hb=>absurd hb Zl0) hl (Nat.le_refl _),by simp,g5⟩
@[go_sem] theorem Yu3 {b o n s:Nat}:osOf (.os b o n s) = .os b o n s:=rfl
@[go_sem] theorem Ytb {b o n c s:Nat}:osOf (.oc b o n c s) = .os b o n s:=rfl
@[go_sem] theorem Yqu:osOf .nils = .nils:=rfl
@[go_sem] theorem Yu7 {s:Nat} {l:List AVal}:osOf (.ps s l) = .ps s l:=rfl
theorem Yht {K:AVal→Store→Prop} {n:Nat} {r0:AVal} {σ':Store}:Abs.treeN K n r0 σ' = ∃ r,pT (fun _=>true) σ' r (osOf r0)∧r.low 0∧K r (List.replicate n none):=rfl
theorem CallSh.beginN {g:FuncId} {fn:Func} {c:Code} {σ:Store} {args:List AVal} {K:AVal→Store→Prop} {m:Nat} {rs:List ResultVar} (n:Nat) (hf:P.funcs[g]? = some fn) (hb:fn.body=some c) (hr:fn.results.toList=rs) (hm:fn.ntmps - args.length=m)
  (hname : (fn.name == "runtime.NumGoroutine") = false)
  (h:vcK P ⟨σ.length,Option.none⟩ (retQ P rs (Abs.treeN K σ.length)) n [.code c] .normal (args++List.replicate m .undef) σ):CallSh P g args σ K:=CallSh.treeN (CallSh.start n hf hb hr hm hname h)
end
end Go.Abs
namespace Go.Proofs
open Go Go.Abs
attribute [local go_sem] Nat.reduceAdd Nat.reduceSub Nat.reduceMul Nat.reduceLeDiff Nat.reduceEqDiff Nat.reduceBEq Nat.reduceLT Nat.le_refl Int.natCast_zero Nat.sub_zero List.length_map Int.toNat_natCast Int.natCast_one Int.reduceEq Int.reduceLT Int.reduceLE Int.reduceNe Int.sub_zero Int.zero_add Int.toNat_one
theorem Zdf:∀ (xs E:List AVal) (p:Nat),p+xs.length≤E.length→setMany E p xs=E.take p++xs++E.drop (p+xs.length)
 | [],E,p,h=>by simp [setMany]
 | x :: xs,E,p,h=>by
  simp only [List.length_cons] at h
  rw [setMany,Zdf xs (E.set p x) (p+1) (by rw [List.length_set];omega)]
  have hp:p<E.length:=by omega
  have e1:(E.set p x).take (p+1)=E.take p++[x]:=by
   rw [List.take_add_one,List.getElem?_set_self hp]
   simp [List.take_set_of_le]
  have e2:(E.set p x).drop (p+1+xs.length)=E.drop (p+(xs.length+1)):=by
   rw [List.drop_set,if_pos (by omega)];congr 1;omega
  rw [e1,e2];simp
theorem Zer {n:Nat}:∀ {a b:List AVal},lowL n a→lowL n b→lowL n (a++b)
 | [],_,_,h=>h
 | _ :: _,_,h,k=>⟨h.1,Zer h.2 k⟩
theorem Zgx {n m:Nat} {a:AVal} (h:a.low n):lowL n (List.replicate m a):=by
 induction m with
 | zero=>trivial
 | succ m ih=>exact ⟨h,ih⟩
theorem Zkf {n:Nat} (sz:Nat):(blankE sz).low n:=by
 unfold blankE;split
 ·trivial
 ·exact Zgx (a:=.undef) trivial
theorem Zds {n:Nat}:∀ {xs E:List AVal} {p:Nat},lowL n E→lowL n xs→lowL n (setMany E p xs)
 | [],_,_,h,_=>h
 | x :: xs,E,p,h,k=>by rw [setMany];exact Zds (Zj7 h _ k.1) k.2
theorem Ydj {E Z:List AVal} {i m n k:Nat} (hi:i<n) (hE:n≤E.length) (hm:m=n - 1) (hk:Z.length=k) (hkn:m+k=n) :
  (setMany (setMany E i ((E.drop (i+1)).take (n - (i+1)))) m Z).take m=E.take i++(E.drop (i+1)).take (n - (i+1)):=by
 have hl:((E.drop (i+1)).take (n - (i+1))).length=n - (i+1):=by simp;omega
 have e1:=Zdf ((E.drop (i+1)).take (n - (i+1))) E i (by rw [hl];omega)
 have hl1:(setMany E i ((E.drop (i+1)).take (n - (i+1)))).length=E.length:=Zap _ _ _
 rw [Zdf Z _ m (by rw [hl1];omega),List.append_assoc,List.take_append_of_le_length (by rw [List.length_take,hl1];omega),List.take_take,Nat.min_self,e1,List.append_assoc,
  ← List.append_assoc,List.take_append_of_le_length (by rw [List.length_append,hl,List.length_take];omega),List.take_of_length_le (by rw [List.length_append,hl,List.length_take];omega)]
theorem Zw3 (l:List Li) (i:Nat) (hi:i<l.length) (hl:l.length<1000000000):VCall Tryz.prog (.fn 68 [] []) [.os 0 0 l.length 5, .int .i64 i, .int .i64 ((i+1:Nat):Int)] [some (.row (lits l) 0)]
  (fun r σ'=>r = .os 0 0 (l.length - 1) 5∧σ'=[some (.row (lits (l.take i++l.drop (i+1))) 0)]):=by
 refine CallSh.v (CallSh.capped (pre:=[]) (post:=[.int .i64 i, .int .i64 ((i+1:Nat):Int)]) (b:=0) (es:=(lits l)) (fz:=0) rfl rfl (by simp [lits]) (by omega) fun c hc=>CallSh.short 0 ?_)
 have hlen:((lits l)++List.replicate (c - l.length) (blankE 5)).length=c:=by simp [lits];omega
 have hE:(((lits l)++List.replicate (c - l.length) (blankE 5)).drop (i+1)).take (l.length - (i+1))=lits (l.drop (i+1)):=by
  rw [List.drop_append_of_le_length (by simp [lits];omega),List.take_append_of_le_length (by simp [lits])]
  rw [List.take_of_length_le (by simp [lits])];simp [lits,List.map_drop]
 have hE2:((lits l)++List.replicate (c - l.length) (blankE 5)).take i=lits (l.take i):=by
  rw [List.take_append_of_le_length (by simp [lits];omega)];simp [lits,List.map_take]
 have hdr:=fun Z hk=>Ydj (E:=(lits l)++List.replicate (c - l.length) (blankE 5)) (Z:=Z) (i:=i) (m:=l.length - 1) (n:=l.length) (k:=1) hi (by omega) rfl hk (by omega)
 rw [hE,hE2] at hdr
 have hlow:lowL 1 (lits l++List.replicate (c - l.length) (blankE 5)):=Zer (Za3 _) (Zgx (Zkf _))
 generalize hEE:(lits l)++List.replicate (c - l.length) (blankE 5)=E at *
 refine CallSh.beginD (rs:=[.tmp 6]) (m:=30) 1000 Tryz.func68 rfl rfl rfl rfl ?_
 have hne:¬ (i:Int)=((i+1:Nat):Int):=by omega
 simp only [go_sem,hne]
 (repeat ((with_reducible refine And.intro ?_ ?_); ·omega))
 refine EvK.draw [.no, .no, .no, .no, .no, .no,⟨none,[0],[]⟩] 1 1 mixed rfl rfl (by decide) ?_
 have hx:i+(lits (l.drop (i+1))).length=l.length - 1:=by rw [Zaf,List.length_drop];omega
 have hc1:l.length - 1≤c:=by omega
 have h11:l.length - (l.length - 1)=1:=by omega
 simp only [go_sem,padS,hlen,hE,hx,hc1,Nat.zero_le]
 (repeat ((with_reducible refine And.intro ?_ ?_); ·omega))
 refine EvK.go 1000 ?_
 simp only [go_sem,hlen,hx,Zap,h11,allOk,List.replicate_one,List.mem_singleton,forall_eq,Nat.one_ne_zero]
 (repeat ((with_reducible refine And.intro ?_ ?_); ·omega))
 rw [Zax]
 refine ⟨_,Za9 _,Nat.le_refl _,⟨?_,trivial⟩,Nat.one_pos,?_⟩
 ·exact Zj7 (Zds hlow (Za3 _)) _ (by simp [go_sem])
 ·rw [Zvc]
  refine ⟨_,_,l.length - 1,rfl,rfl,?_⟩
  have h5:=hdr [.agg [.bool false, .int .i64 0, .nils, .int .i64 0, .nils]] rfl
  simp only [setMany] at h5
  rw [h5]
  simp [setS,lits]
theorem Zvo (l:List Tm) (i:Nat) (hi:i<l.length) (hl:l.length<1000000000):VCall Tryz.prog (.fn 145 [] []) [.os 0 0 l.length 2, .int .i64 i, .int .i64 ((i+1:Nat):Int)] [some (.row (l.map Tm.toA) 0)]
  (fun r σ'=>r = .os 0 0 (l.length - 1) 2∧σ'=[some (.row (List.map Tm.toA (l.take i++l.drop (i+1))) 0)]):=by
 refine CallSh.v (CallSh.capped (pre:=[]) (post:=[.int .i64 i, .int .i64 ((i+1:Nat):Int)]) (b:=0) (es:=(l.map Tm.toA)) (fz:=0) rfl rfl (by simp [lits]) (by omega) fun c hc=>CallSh.short 0 ?_)
 have hlen:((l.map Tm.toA)++List.replicate (c - l.length) (blankE 2)).length=c:=by simp [lits];omega
 have hE:(((l.map Tm.toA)++List.replicate (c - l.length) (blankE 2)).drop (i+1)).take (l.length - (i+1))=List.map Tm.toA (l.drop (i+1)):=by
  rw [List.drop_append_of_le_length (by simp [lits];omega),List.take_append_of_le_length (by simp [lits])]
  rw [List.take_of_length_le (by simp [lits])];simp [lits,List.map_drop]
 have hE2:((l.map Tm.toA)++List.replicate (c - l.length) (blankE 2)).take i=List.map Tm.toA (l.take i):=by
  rw [List.take_append_of_le_length (by simp [lits];omega)];simp [lits,List.map_take]
 have hdr:=fun Z hk=>Ydj (E:=(l.map Tm.toA)++List.replicate (c - l.length) (blankE 2)) (Z:=Z) (i:=i) (m:=l.length - 1) (n:=l.length) (k:=1) hi (by omega) rfl hk (by omega)
 rw [hE,hE2] at hdr
 have hlow:lowL 1 (l.map Tm.toA++List.replicate (c - l.length) (blankE 2)):=Zer (Za0 _) (Zgx (Zkf _))
 generalize hEE:(l.map Tm.toA)++List.replicate (c - l.length) (blankE 2)=E at *
 refine CallSh.beginD (rs:=[.tmp 6]) (m:=30) 1000 Tryz.func145 rfl rfl rfl rfl ?_
 have hne:¬ (i:Int)=((i+1:Nat):Int):=by omega
 simp only [go_sem,hne]
 (repeat ((with_reducible refine And.intro ?_ ?_); ·omega))
 refine EvK.draw [.no, .no, .no, .no, .no, .no,⟨none,[0],[]⟩] 1 1 mixed rfl rfl (by decide) ?_
 have hx:i+(l.drop (i+1)).length=l.length - 1:=by rw [List.length_drop];omega
 have hc1:l.length - 1≤c:=by omega
 have h11:l.length - (l.length - 1)=1:=by omega
 simp only [go_sem,padS,hlen,hE,hx,hc1,Nat.zero_le]
 (repeat ((with_reducible refine And.intro ?_ ?_); ·omega))
 refine EvK.go 1000 ?_
 simp only [go_sem,hlen,hx,Zap,h11,allOk,List.replicate_one,List.mem_singleton,forall_eq,Nat.one_ne_zero]
 (repeat ((with_reducible refine And.intro ?_ ?_); ·omega))
 rw [Zax]
 refine ⟨_,Za9 _,Nat.le_refl _,⟨?_,trivial⟩,Nat.one_pos,?_⟩
 ·exact Zj7 (Zds hlow (Za0 _)) _ (by simp [go_sem])
 ·rw [Zvc]
  refine ⟨_,_,l.length - 1,rfl,rfl,?_⟩
  have h5:=hdr [.agg [.int .i64 0, .nils]] rfl
  simp only [setMany] at h5
  rw [h5]
  simp [setS,lits]
structure Un where
 l:Tm
 r:Tm
 off:Int
def Un.toA (u:Un):AVal:=.agg [.int .i64 u.l.head, .ps 2 (u.l.args.map Tm.toA), .int .i64 u.r.head, .ps 2 (u.r.args.map Tm.toA), .int .i64 u.off]
theorem Zfx (u:Un):u.toA.cells=[.int .i64 u.l.head, .ps 2 (u.l.args.map Tm.toA), .int .i64 u.r.head, .ps 2 (u.r.args.map Tm.toA), .int .i64 u.off]:=rfl
theorem Ynd (u:Un):u.toA = .agg [.int .i64 u.l.head, .ps 2 (u.l.args.map Tm.toA), .int .i64 u.r.head, .ps 2 (u.r.args.map Tm.toA), .int .i64 u.off]:=rfl
def uns (l:List Un):List AVal:=l.map Un.toA
theorem Zbv (l:List Un):(uns l).length=l.length:=by simp [uns]
theorem Zuy {n:Nat} (u:Un):u.toA.low n:=by simp [Ynd,go_sem,Za0]
theorem Zbp {n:Nat} (l:List Un):lowL n (uns l):=Zby fun x _=>Zuy x
theorem Zrv {l:List Un} {i:Nat} (h:i<l.length):(uns l).getD i .undef=l[i].toA:=Zaq h
@[go_sem] theorem Yyq (l:List Un):appOk ⟨5,true,72,[.int .i64 0, .nils, .int .i64 0, .nils, .int .i64 0], .struct⟩ (uns l)=True:=eq_true (by
 refine ⟨fun x hx=>?_,by decide,by decide,rfl⟩
 obtain ⟨t,_,rfl⟩:=List.mem_map.1 hx
 exact ⟨rfl,rfl⟩)
theorem Zx1 (σ:Store) {b cp:Nat} (c:AVal) (p:Un→Bool) (l:List Un) {E:List AVal} (hb:getS σ b=some (.row E 0)) (hE:∀ (i:Nat) (h:i<l.length),E.getD i .undef=l[i].toA) (hEl:l.length≤E.length) (hl:l.length<2 ^ 62) (hs:lowSo σ.length σ) (hc:c.low σ.length)
  (hp:∀ (i:Nat) (h:i<l.length),VCall Tryz.prog c [l[i].toA] σ (fun r σ'=>r = .bool (p l[i])∧σ' = σ)) :
  VCall Tryz.prog (.fn 89 [] []) [.oc b 0 l.length cp 5,c] σ (fun r σ'=>r = .int .i64 (idxF p l 0)∧σ' = σ):=by
 refine VCall.begin (rs:=[.tmp 4]) (m:=17) 1000 Tryz.func89 rfl rfl rfl rfl rfl ?_
 simp only [go_sem]
 refine EvK.loopI (ι:={i:Nat // i≤l.length∧idxF p (l.drop i) i=idxF p l 0}) 1000 (fun i=>mkT 19 [(0, .oc b 0 l.length cp 5),(1,c),(7, .int .i64 l.length),(8, .int .i64 i.1)]) (fun _=>σ) (fun i=>l.length - i.1) ⟨0,by simp⟩ ?_ (fun _=>Nat.le_refl _) ?_
 ·simp only [go_sem,hc,hs]
  exact ⟨Za9 σ,Zf6 hb⟩
 ·rintro ⟨i,hi,hpre⟩
  by_cases hlt:(i:Int)<l.length
  ·have hlt':i<l.length:=by omega
   have hd:idxF p (l.drop i) i=if p l[i] then (i:Int) else idxF p (l.drop (i+1)) ((i:Int)+1):=by
    rw [List.drop_eq_getElem_cons hlt'];rfl
   simp only [go_sem,hlt,hb,hE i hlt',Zfx]
   (repeat ((with_reducible refine And.intro ?_ ?_); ·omega))
   refine (hp i hlt').mono ?_
   rintro r σ' ⟨rfl,rfl⟩
   refine EvK.go 1000 ?_
   cases e:p l[i] with
   | true =>
    rw [hd,e,if_pos rfl] at hpre
    simp only [go_sem]
    refine EvK.go 1000 ?_
    simp only [go_sem,← hpre]
    rw [Zax];exact ⟨σ',Za9 σ',Nat.le_refl _,hs,trivial,rfl,rfl⟩
   | false =>
    rw [hd,e,if_neg (by decide)] at hpre
    simp only [go_sem]
    refine ⟨⟨i+1,hlt',hpre⟩,?_,by simp only;omega⟩
    simp only [go_sem,hc,hs]
    rw [Zab (by omega)];exact ⟨rfl,Za9 σ',Zf6 hb⟩
  ·have hi':i=l.length:=by omega
   subst hi'
   rw [List.drop_length] at hpre
   simp only [go_sem,hlt]
   refine EvK.go 1000 ?_
   simp only [go_sem,← hpre]
   rw [Zax];exact ⟨σ,Za9 σ,Nat.le_refl _,hs,trivial,rfl,rfl⟩
theorem Zfy {α:Type} (p : α→Bool):∀ (l:List α) (i:Int),0≤i→(idxF p l i = -1∧l.filter (fun x=>!p x)=l)∨∃ k,k<l.length∧idxF p l i=i+k∧(∀ x∈l.take k,p x=false)∧∀ h:k<l.length,p l[k]=true
 | [],i,_=>.inl ⟨rfl,rfl⟩
 | a :: l,i,h=>by
  by_cases c:p a=true
  ·exact .inr ⟨0,by simp,by simp [idxF,c],by simp,fun _=>c⟩
  ·have c':p a=false:=by simpa using c
   rcases Zfy p l (i+1) (by omega) with ⟨h1,h2⟩ | ⟨k,h1,h2,h3,h4⟩
   ·exact .inl ⟨by simp [idxF,c',h1],by simp [List.filter_cons,c',h2]⟩
   ·refine .inr ⟨k+1,by simpa using h1,by simp [idxF,c',h2];omega,?_,fun h=>by simpa using h4 (by simpa using h)⟩
    intro x hx
    rw [List.take_succ_cons,List.mem_cons] at hx
    rcases hx with rfl | hx
    ·exact c'
    ·exact h3 x hx
theorem Zkj {α:Type} (p : α→Bool) (l:List α) (h:∀ x∈l,p x=false):l.filter (fun x=>!p x)=l:=List.filter_eq_self.2 fun x hx=>by simp [h x hx]
theorem Zq8 (us:List Un) (p:Un→Bool) (f:FuncId) (hl:us.length<1000000000) (hf:∀ u∈us,CallEq Tryz.prog f [u.toA] (.bool (p u))) (hn0:us≠[]) :
  VCall Tryz.prog (.fn 56 [] []) [.os 0 0 us.length 5, .fn f [] []] [some (.row (uns us) 0)]
  (fun r σ'=>r = .os 0 0 (us.filter fun u=>!p u).length 5∧σ'=[some (.row (uns (us.filter fun u=>!p u)) 0)]):=by
 have hpos : 0<us.length:=List.length_pos_iff.2 hn0
 refine CallSh.v (CallSh.capped (pre:=[]) (post:=[.fn f [] []]) (b:=0) (es:=uns us) (fz:=0) rfl rfl (by simp [uns]) hpos fun c hc=>CallSh.short 0 ?_)
 refine CallSh.beginD (rs:=[.tmp 4]) (m:=40) 1000 Tryz.func56 rfl rfl rfl rfl ?_
 have hcall:∀ (σ:Store) (u:Un),u∈us→∀ K:AVal→Store→Prop,K (.bool (p u)) σ→VCall Tryz.prog (.fn f [] []) [u.toA] σ K:=fun σ u hu K hk=>VCall.isoT [] (hf u hu) (Za1 _ _ _) ⟨Zuy u,trivial⟩ (by rw [Zah];split<;>exact hk)
 have hblank:∀ L:List Un,lowL 1 (uns L++List.replicate (c - us.length) (blankE 5)):=fun L=>Zer (Zbp _) (Zgx (Zkf _))
 simp only [go_sem]
 refine (Zx1 _ _ p us rfl (fun i h=>?_) ?_ (by omega) ?_ ?_ (fun i h=>hcall _ _ (List.getElem_mem h) _ ⟨rfl,rfl⟩)).mono ?_
 ·rw [Zak,if_pos (by rw [Zbv];exact h)];exact Zrv h
 ·simp [uns]
 ·exact ⟨hblank us,trivial⟩
 ·simp [go_sem]
 rintro r σ' ⟨rfl,rfl⟩
 refine EvK.go 1000 ?_
 rcases Zfy p us 0 (by omega) with ⟨h1,h2⟩ | ⟨k,h1,h2,h3,h4⟩
 ·simp only [go_sem,h1]
  rw [Zax]
  refine ⟨_,Za9 _,Nat.le_refl _,⟨hblank us,trivial⟩,Nat.one_pos,?_⟩
  rw [Zvc]
  refine ⟨_,_,us.length,rfl,?_⟩
  rw [List.take_append_of_le_length (by rw [Zbv];exact Nat.le_refl _),List.take_of_length_le (by rw [Zbv];exact Nat.le_refl _),h2]
  exact ⟨rfl,rfl⟩
 ·have hk1:¬ (0+(k:Int)) = -1:=by omega
  have hw1:IntKind.i64.wrap ((k:Int)+1)=((k+1:Nat):Int):=by rw [Zab (by omega)];omega
  have hkk : 0+(k:Int)=(k:Int):=by omega
  simp only [go_sem,h2,hk1,hw1,hkk]
  have hK0:(us.take (k+1)).filter (fun u=>!p u)=us.take k:=by
   rw [List.take_add_one,List.getElem?_eq_getElem h1,Option.toList_some,List.filter_append,Zkj p _ h3]
   simp [h4 h1]
  have hn64:us.length<9223372036854775807:=by omega
  have hE:∀ (j:Nat) (G:List Un),((us.take j).filter (fun u=>!p u)).length+G.length=j→j≤us.length →
    (uns ((us.take j).filter (fun u=>!p u)++G++us.drop j)++List.replicate (c - us.length) (blankE 5)).length=c:=fun j G h1 h2=>by
   simp only [List.length_append,Zbv,List.length_replicate,List.length_drop];omega
  refine EvK.loopI (ι:={q:Nat×List Un // q.1≤us.length∧((us.take q.1).filter (fun u=>!p u)).length+q.2.length=q.1∧q.2≠[]}) 1000
   (fun q=>mkT 42 [(0, .oc 0 0 us.length c 5),(1, .fn f [] []),(4, .nils),(5, .int .i64 ((us.take q.1.1).filter (fun u=>!p u)).length),(6, .int .i64 q.1.1)])
   (fun q=>[some (.row (uns ((us.take q.1.1).filter (fun u=>!p u)++q.1.2++us.drop q.1.1)++List.replicate (c - us.length) (blankE 5)) 0)]) (fun q=>us.length - q.1.1)
   ⟨(k+1,[us[k]]),by omega,by rw [hK0];simp;omega,by simp⟩ ?_ (fun _=>Nat.le_refl _) ?_
  ·have e0:us.take k++[us[k]]++us.drop (k+1)=us:=by simp
   have e1:(us.take k).length=k:=by simp;omega
   simp only [go_sem,hK0,e0,e1,hblank]
  ·rintro ⟨⟨j,G⟩,hj,hlen,hG⟩
   simp only at hj hlen hG
   have hEj:=hE j G hlen hj
   by_cases hlt:(j:Int)<us.length
   ·have hlt':j<us.length:=by omega
    have hget:(uns ((us.take j).filter (fun u=>!p u)++G++us.drop j)++List.replicate (c - us.length) (blankE 5)).getD j .undef=us[j].toA:=by
     rw [Zak,if_pos (by rw [Zbv];simp only [List.length_append,List.length_drop];omega)]
     rw [Zrv (by simp only [List.length_append,List.length_drop];omega)]
     rw [List.getElem_append_right (by simp only [List.length_append];omega)]
     simp only [List.length_append,hlen,Nat.sub_self,List.getElem_drop,Nat.add_zero]
    simp only [go_sem,hlt,hEj,hget,Zfx]
    (repeat ((with_reducible refine And.intro ?_ ?_); ·omega))
    refine hcall _ us[j] (List.getElem_mem hlt') _ ?_
    refine EvK.go 1000 ?_
    have htk:us.take (j+1)=us.take j++[us[j]]:=by rw [List.take_add_one,List.getElem?_eq_getElem hlt'];rfl
    have hdr:us.drop j=us[j] :: us.drop (j+1):=List.drop_eq_getElem_cons hlt'
    have hwj:IntKind.i64.wrap ((j:Int)+1)=((j+1:Nat):Int):=by rw [Zab (by omega)];omega
    cases hp:p us[j] with
    | true =>
     have hKt:(us.take (j+1)).filter (fun u=>!p u)=(us.take j).filter (fun u=>!p u):=by rw [htk,List.filter_append];simp [hp]
     simp only [go_sem,hwj]
     refine ⟨⟨(j+1,G++[us[j]]),by simp only;omega,by simp only [hKt,List.length_append,List.length_singleton];omega,by simp⟩,?_,by simp only;omega⟩
     have e:(us.take j).filter (fun u=>!p u)++(G++[us[j]])++us.drop (j+1)=(us.take j).filter (fun u=>!p u)++G++us.drop j:=by rw [hdr];simp
     simp only [hKt,e]
     exact ⟨⟨trivial,trivial⟩,trivial,hblank _⟩
    | false =>
     have hKf:(us.take (j+1)).filter (fun u=>!p u)=(us.take j).filter (fun u=>!p u)++[us[j]]:=by rw [htk,List.filter_append];simp [hp]
     obtain ⟨g,G',rfl⟩:=List.exists_cons_of_ne_nil hG
     obtain ⟨K,hKK⟩:∃ K,(us.take j).filter (fun u=>!p u)=K:=⟨_,rfl⟩
     rw [hKK] at hKf
     simp only [hKK,List.length_cons] at hlen hEj
     have hgK:(uns (K++g :: G'++us.drop j)++List.replicate (c - us.length) (blankE 5)).getD K.length .undef=g.toA:=by
      rw [Zak,if_pos (by rw [Zbv];simp)]
      rw [Zrv (by simp)];simp
     have hset:(uns (K++g :: G'++us.drop j)++List.replicate (c - us.length) (blankE 5)).set K.length us[j].toA=uns (K++us[j] :: G'++us.drop j)++List.replicate (c - us.length) (blankE 5):=by
      rw [List.set_append_left _ _ (by rw [Zbv];simp)]
      simp [uns]
     have hwK:IntKind.i64.wrap ((K.length:Int)+1)=((K.length+1:Nat):Int):=by rw [Zab (by omega)];omega
     simp only [go_sem,hKK,hwj,hwK,hgK,Zfx,hEj]
     (repeat ((with_reducible refine And.intro ?_ ?_); ·omega))
     refine ⟨⟨(j+1,G'++[us[j]]),by simp only;omega,by simp only [hKf,List.length_append,List.length_singleton];omega,by simp⟩,?_,by simp only;omega⟩
     have hmk:mkElem (isAggA g.toA) [.int .i64 us[j].l.head, .ps 2 (List.map Tm.toA us[j].l.args), .int .i64 us[j].r.head, .ps 2 (List.map Tm.toA us[j].r.args), .int .i64 us[j].off]=us[j].toA:=rfl
     have e:K++[us[j]]++(G'++[us[j]])++us.drop (j+1)=K++us[j] :: G'++us.drop j:=by rw [hdr];simp
     rw [hmk,hset]
     simp only [hKf,e,List.length_append,List.length_singleton]
     exact ⟨⟨trivial,trivial⟩,trivial,hblank _⟩
   ·have hj':j=us.length:=by omega
    subst hj'
    rw [List.take_length] at hlen
    obtain ⟨K,hKK⟩:∃ K,us.filter (fun u=>!p u)=K:=⟨_,rfl⟩
    simp only [List.take_length,List.drop_length,hKK,List.append_nil] at hlen hEj
    simp only [go_sem,hlt]
    refine EvK.go 1000 ?_
    have hGl:us.length - K.length=G.length:=by omega
    have hG0:¬ G.length=0:=fun e=>hG (List.eq_nil_of_length_eq_zero e)
    simp only [go_sem,List.take_length,List.drop_length,hKK,List.append_nil,hEj,hGl,hG0,allOk]
    refine ⟨⟨by omega,by omega⟩,⟨Nat.zero_le _,by rw [List.length_replicate];exact Nat.le_refl _,by omega,fun x hx=>?_⟩,⟨by omega,by omega⟩,?_⟩
    ·rw [(List.mem_replicate.1 hx).2];exact ⟨rfl,rfl⟩
    rw [Zax]
    refine ⟨_,Za9 _,Nat.le_refl _,⟨Zds (hblank _) (Zgx (by simp [go_sem])),trivial⟩,Nat.one_pos,?_⟩
    rw [Zvc]
    refine ⟨_,_,K.length,rfl,rfl,?_⟩
    have hK1:List.take K.length (uns (K++G))=uns K:=by simp [uns]
    rw [Zdf _ _ _ (by rw [hEj,List.length_replicate];omega),List.append_assoc,List.take_append_of_le_length (by rw [Zbv];simp),hK1,List.take_append_of_le_length (by rw [Zbv];exact Nat.le_refl _),
     List.take_of_length_le (by rw [Zbv];exact Nat.le_refl _)]
    rfl
@[go_sem] theorem Yq6:IntKind.i64.wrap 1=1:=Zab (by omega)
theorem Zsg {x:AVal} {R ys:List AVal} (h:R.length=ys.length):setMany (x :: R) 1 ys=x :: ys:=by
 rw [Zdf _ _ _ (by simp only [List.length_cons];omega)]
 simp only [List.take_succ_cons,List.take_zero,List.cons_append,List.nil_append]
 rw [List.drop_eq_nil_of_le (by simp only [List.length_cons];omega)];simp
theorem Yac (l:List (List Li)):∀ x∈clsA l,x.cells.length=1∧x.cells.all AVal.isCell=true:=fun x hx=>by
 obtain ⟨t,_,rfl⟩:=List.mem_map.1 hx
 exact ⟨rfl,rfl⟩
theorem Zrm (es:List (List Li)) (c:List Li) (hne:es≠[]) (hl:es.length<1000000):CallSh Tryz.prog 51 [.os 1 0 es.length 1, .int .i64 0, .os 2 0 1 1] [none,some (.row (clsA es) 0),some (.row [.ps 5 (lits c)] 0)]
  (fun r σ'=>r = .ps 1 (clsA (c :: es))∧σ'=[none,none,none]):=by
 have hpos : 0<es.length:=List.length_pos_iff.2 hne
 refine CallSh.capped (pre:=[]) (post:=[.int .i64 0, .os 2 0 1 1]) (b:=1) (es:=clsA es) (fz:=0) rfl rfl (by simp [clsA]) hpos fun cp hcp=>?_
 refine CallSh.beginN (rs:=[.tmp 6]) (m:=92) 1000 Tryz.func51 rfl rfl rfl rfl ?_
 have h0:¬ (0:Int)=es.length:=by omega
 obtain ⟨N,hN⟩:∃ N:Nat,N=es.length+1:=⟨_,rfl⟩
 have hw:IntKind.i64.wrap ((es.length:Int)+1)=(N:Int):=by rw [Zab (by omega)];omega
 have hw2:IntKind.i64.wrap (N:Int)=(N:Int):=Zab (by omega)
 have hcl:(clsA es).length=es.length:=Zbi es
 by_cases hg:(cp:Int)<(N:Int)
 ·have hg':¬ N≤cp:=by omega
  have h9:N≤1000000000:=by omega
  have hnil:appOk ⟨1,false,24,[.nils], .slice⟩ (List.replicate N .nils):=⟨fun x hx=>by rw [(List.mem_replicate.1 hx).2];exact ⟨rfl,rfl⟩,by decide,by decide,rfl⟩
  have hrd:List.take es.length (clsA es++List.replicate (cp - es.length) (blankE 1))=clsA es:=by
   rw [List.take_append_of_le_length (by rw [hcl];exact Nat.le_refl _),List.take_of_length_le (by rw [hcl];exact Nat.le_refl _)]
  have htk:List.take N [AVal.ps 5 (lits c)]=[.ps 5 (lits c)]:=List.take_of_length_le (by simp;omega)
  have hset:(List.replicate N AVal.nils).set 0 (.ps 5 (lits c)) = .ps 5 (lits c) :: List.replicate es.length .nils:=by rw [hN,List.replicate_succ];rfl
  have hNm:N - 1=es.length:=by omega
  have htk2:List.take es.length (clsA es)=clsA es:=List.take_of_length_le (by rw [hcl];exact Nat.le_refl _)
  have hsm:=Zsg (x:=.ps 5 (lits c)) (R:=List.replicate es.length .nils) (ys:=clsA es) (by simp [clsA])
  have h1N:(1:Int)≤N:=by omega
  have hr1 : 1+es.length=N:=by omega
  have hr2:es.length+1=N:=by omega
  simp only [go_sem,h0,hw,hw2,hg,hg',h9,hnil,Nat.zero_le,List.length_append,List.length_replicate,hcl,allOk,List.mem_singleton,forall_eq,hrd,Zap,htk,hset]
  (repeat ((with_reducible refine And.intro ?_ ?_); ·omega))
  refine EvK.draw [.no, .no, .no, .no, .no, .no, .no, .no,⟨none,[3],[]⟩] 4 4 mixed rfl rfl (by decide) ?_
  simp only [go_sem,padS,hNm,hcl,hrd,htk2,hsm,allOk,List.length_replicate,hr1,hr2,h1N,List.length_append,List.length_replicate]
  (repeat ((with_reducible refine And.intro ?_ ?_); ·omega))
  refine ⟨Yac es,?_⟩
  refine EvK.go 1000 ?_
  simp only [go_sem]
  rw [Yht]
  refine ⟨.ps 1 (clsA (c :: es)),?_,by simp [go_sem,Zav],rfl,rfl⟩
  simp only [go_sem,List.length_cons,hcl,hr2]
  have ht3:List.take N (.ps 5 (lits c) :: clsA es) = .ps 5 (lits c) :: clsA es:=List.take_of_length_le (by simp [hcl];omega)
  rw [ht3]
  exact Za1 _ _ _
 ·have h1N:(1:Int)≤N:=by omega
  have hNm:N - 1=es.length:=by omega
  have hr1 : 1+es.length=N:=by omega
  have hr2:es.length+1=N:=by omega
  simp only [go_sem,h0,hw,hw2,hg,Nat.zero_le,List.length_append,List.length_replicate,hcl,h1N]
  (repeat ((with_reducible refine And.intro ?_ ?_); ·omega))
  refine VCall.overlapsApart (tS:=23) (tR:=4) (e:=24) (b1:=2) (b2:=1) (n1:=1) (n2:=N - 1) (sz:=1) Tryz.func79 (by kernel_rfl) (by kernel_rfl) (by kernel_rfl) (by kernel_rfl) (by kernel_rfl) Yu1 (.inl rfl) (.inr ⟨_,rfl⟩) (by decide) (by decide) (by omega) rfl rfl (by decide) ?_
  refine EvK.go 1000 ?_
  simp only [go_sem]
  refine EvK.draw [.no, .no, .no, .no, .no, .no, .no, .no,⟨none,[1],[]⟩] 3 3 mixed rfl rfl (by decide) ?_
  have hlE:(clsA es++List.replicate (cp - es.length) (blankE 1)).length=cp:=by rw [List.length_append,hcl,List.length_replicate];omega
  have htt:List.take es.length (List.take N (clsA es++List.replicate (cp - es.length) (blankE 1)))=clsA es:=by
   rw [List.take_take,Nat.min_eq_left (by omega),List.take_append_of_le_length (by rw [hcl];exact Nat.le_refl _),List.take_of_length_le (by rw [hcl];exact Nat.le_refl _)]
  generalize hEE:clsA es++List.replicate (cp - es.length) (blankE 1)=E at *
  have hsm:∀ x,List.take N ((setMany E 1 (clsA es)).set 0 x)=x :: clsA es:=fun x=>by
   have h1:=Zdf (clsA es) E 1 (by rw [hcl,hlE];omega)
   match E,hlE with
   | [],hlE=>simp at hlE;omega
   | y :: E,hlE =>
    rw [h1]
    simp only [List.take_succ_cons,List.take_zero,List.cons_append,List.nil_append,List.set_cons_zero,hcl,hr1,← hr2]
    rw [List.take_append_of_le_length (by rw [hcl];exact Nat.le_refl _),List.take_of_length_le (by rw [hcl];exact Nat.le_refl _)]
  have hca:allOk 1 (clsA es):=Yac es
  have htk:List.take N [AVal.ps 5 (lits c)]=[.ps 5 (lits c)]:=List.take_of_length_le (by simp;omega)
  have hca1:allOk 1 [AVal.ps 5 (lits c)]:=fun x hx=>by rw [List.mem_singleton.1 hx];exact ⟨rfl,rfl⟩
  simp only [go_sem,padS,hNm,hlE,htt,hca,hcl,hr1]
  (repeat ((with_reducible refine And.intro ?_ ?_); ·omega))
  refine EvK.go 1000 ?_
  simp only [go_sem,Zap,hlE,htk,hca1]
  (repeat ((with_reducible refine And.intro ?_ ?_); ·omega))
  rw [Yht]
  refine ⟨.ps 1 (clsA (c :: es)),?_,by simp [go_sem,Zav],rfl,rfl⟩
  simp only [go_sem,List.length_set,Zap,hlE,hsm]
  exact ⟨by omega,Za1 _ _ _⟩
theorem Yil (c:List Li):appOk ⟨1,false,24,[.nils], .slice⟩ [AVal.ps 5 (lits c)]:=Ynj [c] ▸ trivial
theorem Zqm (c:List Li):CallSh Tryz.prog 51 [.nils, .int .i64 0, .os 0 0 1 1] [some (.row [.ps 5 (lits c)] 0)]
  (fun r σ'=>r = .ps 1 (clsA [c])∧σ'=[none]):=by
 refine CallSh.beginN (rs:=[.tmp 6]) (m:=92) 1000 Tryz.func51 rfl rfl rfl rfl ?_
 simp only [go_sem,Yil]
 (repeat ((with_reducible refine And.intro ?_ ?_); ·omega))
 rw [Yht]
 refine ⟨.ps 1 (clsA [c]),?_,by simp [go_sem,Zav],rfl,rfl⟩
 simp only [go_sem,clsA,List.map_cons,List.map_nil]
theorem Zqi (c:List Li):CallSh Tryz.prog 51 [.os 1 0 0 1, .int .i64 0, .os 2 0 1 1] [none,some (.row [] 0),some (.row [.ps 5 (lits c)] 0)]
  (fun r σ'=>r = .ps 1 (clsA [c])∧σ'=[none,none,none]):=by
 refine CallSh.beginN (rs:=[.tmp 6]) (m:=92) 1000 Tryz.func51 rfl rfl rfl rfl ?_
 simp only [go_sem,Yil]
 (repeat ((with_reducible refine And.intro ?_ ?_); ·omega))
 rw [Yht]
 refine ⟨.ps 1 (clsA [c]),?_,by simp [go_sem,Zav],rfl,rfl⟩
 simp only [go_sem,clsA,List.map_cons,List.map_nil]
def smallC (c:List Li):Prop:=∀ (i:Nat) (h:i<c.length),c[i].l.size<999999999∧c[i].r.size<999999999
def wrongL (g:List Sy):List (List Li)→Int
 | []=>0
 | c :: l=>if clauseCheck g c≠0 then clauseCheck g c else wrongL g l
theorem Zps (g:List Sy) (es:List (List Li)) (c:List Li) (hes:∀ x∈c :: es,smallC x) (hl:es.length<1000000):CallEq Tryz.prog 25 [.ps 4 (syms g), .ps 1 (clsA es), .ps 5 (lits c)] (.int .i64 (wrongL g (c :: es))):=by
 refine CallEq.begin (rs:=[.tmp 6]) (m:=24) 1000 Tryz.func25 rfl rfl rfl (by decide) trivial ?_
 simp only [go_sem]
 have hcases:(es=[]∨es≠[]):=by cases es<;>simp
 rcases hcases with he | hne
 case' inl =>
  have h0:clsA es=[]:=by rw [he];rfl
  have h1 : [c]=c :: es:=by rw [he]
  simp only [go_sem,h0]
  refine (CallSh.v Zqx).mono ?_
  rintro r σ' (⟨rfl,rfl⟩ | ⟨rfl,rfl⟩)
 case' inl.inl =>
  refine EvK.go 1000 ?_
  simp only [go_sem]
  refine (CallSh.v (Zqm c)).mono ?_
  rintro r σ' ⟨rfl,rfl⟩
  rw [h1]
  refine EvK.go 1000 ?_
  simp only [go_sem,Zbi]
 case' inl.inr =>
  refine EvK.go 1000 ?_
  simp only [go_sem]
  refine (CallSh.v (Zqi c)).mono ?_
  rintro r σ' ⟨rfl,rfl⟩
  rw [h1]
  refine EvK.go 1000 ?_
  simp only [go_sem,Zbi]
 case' inr =>
  refine (CallSh.v (Zxn es hne (by omega)).1).mono ?_
  rintro r σ' ⟨rfl,rfl⟩
  refine EvK.go 1000 ?_
  simp only [go_sem]
  refine (CallSh.v (Zrm es c hne hl)).mono ?_
  rintro r σ' ⟨rfl,rfl⟩
  refine EvK.go 1000 ?_
  simp only [go_sem,Zbi]
 all_goals
  obtain ⟨L,hL⟩:∃ L,c :: es=L:=⟨_,rfl⟩
  have hlen:es.length+1=L.length:=by rw [← hL];rfl
  have hLs:L.length<2000000:=by omega
  rw [hL,hlen]
  rw [hL] at hes
  refine EvK.loopI (ι:={i:Nat // i≤L.length∧wrongL g (L.drop i)=wrongL g L}) 1000 (fun i=>mkT 27 [(0, .ps 4 (syms g)),(6, .int .i64 0),(14, .ps 1 (clsA L)),(15, .int .i64 L.length),(16, .int .i64 i.1)]) (fun _=>[]) (fun i=>L.length - i.1) ⟨0,by simp⟩ ?_ (fun _=>Nat.zero_le _) ?_
  ·simp only [go_sem,Za5,Zav]
  ·rintro ⟨i,hi,hpre⟩
   by_cases hlt:(i:Int)<L.length
   ·have hlt':i<L.length:=by omega
    have hd:wrongL g (L.drop i)=if clauseCheck g L[i]≠0 then clauseCheck g L[i] else wrongL g (L.drop (i+1)):=by
     rw [List.drop_eq_getElem_cons hlt'];rfl
    simp only [go_sem,hlt,Zbi,Zj8 hlt']
    (repeat ((with_reducible refine And.intro ?_ ?_); ·omega))
    refine VCall.isoT [] (Zhr g L[i] (hes _ (List.getElem_mem hlt'))) (Za1 _ _ _) (by simp [go_sem,Za5,Za3]) ?_;simp only [flatR,flatA,flatC,if_true];refine EvK.go 1000 ?_
    by_cases c0:clauseCheck g L[i]=0
    ·simp only [go_sem,c0]
     refine ⟨⟨i+1,hlt',by rw [← hpre,hd,if_neg (by simp [c0])]⟩,?_,by simp only;omega⟩
     simp only [go_sem,Za5,Zav]
     rw [Zab (by omega)];rfl
    ·simp only [go_sem,c0]
     refine EvK.go 1000 ?_
     rw [hd,if_pos c0] at hpre
     simp only [go_sem,hpre]
   ·have:i=L.length:=by omega
    subst this
    rw [List.drop_length] at hpre
    simp only [go_sem,hlt]
    refine EvK.go 1000 ?_
    simp only [go_sem,← hpre,wrongL]
@[go_sem] theorem Yut {π:Nat→Nat} {b sz:Nat} {l:List AVal}:ren π (slA b sz l)=slA (π b) sz l:=by cases l<;>rfl
@[go_sem] theorem Yu4 {n b sz:Nat} {l:List AVal} (h:b<n):AVal.low n (slA b sz l)=True:=eq_true (Zfk h sz l)
@[go_sem] theorem Yrl {n:Nat} {l:List AVal} {r:Store}:lowSo n (slB l :: r)=(lowL n l∧lowSo n r):=by
 cases l with
 | nil=>simp [slB,lowSo,lowO,lowL]
 | cons x l=>rfl
@[go_sem] theorem Zka {π:Nat→Nat} {σ r:Store} {i:Nat} {l:List AVal} (h:lowL 0 l):leSoR π σ i (slB l :: r)=((l=[]∨getS σ (π i)=slB l)∧leSoR π σ (i+1) r):=by
 cases l with
 | nil=>simp [slB,Zg3]
 | cons x l=>rw [slB,Zfw];simp only [renB,Za2 h];simp
def within (a b:Tm):Bool:=a.vars.all fun v=>decide (v∈b.vars)
def unitBad (u:Un):Bool:=decide (u.l.head=0) || !within u.r u.l
def okT (t:Tm):Prop:=t.fit∧t.size<99999999
def okC (c:List Li):Prop:=∀ l∈c,okT l.l∧okT l.r
theorem Zxl (σ:Store) (b:Nat) (vs:List Int) (hb:getS σ b=some (.var [.ps 1 (ints vs)])) (v:Int) (hs:lowSo σ.length σ) (hl:vs.length<2 ^ 62) :
  VCall Tryz.prog (.fn 92 [] [.ptr b 0]) [.int .i64 v] σ (fun r σ'=>r = .bool (!decide (v∈vs))∧σ' = σ):=by
 refine VCall.begin (rs:=[.tmp 3]) (m:=6) 1000 Tryz.func92 rfl rfl rfl rfl rfl ?_
 simp only [go_sem,hb]
 refine VCall.isoT [] (Ze2 vs v hl) (Za1 _ _ _) (by simp [go_sem,Za4]) ?_
 rw [Zah];simp only [ite_self]
 refine EvK.go 1000 ?_
 simp only [go_sem]
 rw [Zax];exact ⟨σ,Za9 σ,Nat.le_refl _,hs,trivial,rfl,rfl⟩
theorem Zvu (a b:Tm) (ha:okT a) (hb:okT b):CallEq Tryz.prog 58 [a.toA,b.toA] (.bool (within a b)):=by
 refine CallEq.begin (rs:=[.tmp 4]) (m:=11) 1000 Tryz.func58 rfl rfl rfl (by decide) trivial ?_
 have hva:=Zj1 a
 have hvb:=Zj1 b
 have h1:=ha.2
 have h2:=hb.2
 simp only [go_sem,Za6]
 refine VCall.isoT [] (Zuu b hb.1 (by omega)) (by (try simp only [Za6]);exact Za1 _ _ _) (by simp [go_sem,Za7,Za0]) ?_;rw [Zah];simp only [ite_self];refine EvK.go 1000 ?_
 simp only [go_sem]
 refine VCall.isoT [] (Zuu a ha.1 (by omega)) (by (try simp only [Za6]);exact Za1 _ _ _) (by simp [go_sem,Za7,Za0]) ?_;rw [Zah];simp only [ite_self];refine EvK.go 1000 ?_
 simp only [go_sem]
 refine (Zl1 _ _ (fun v=>!decide (v∈b.vars)) a.vars (by omega) ?_ ?_ (fun i h=>Zxl _ 2 b.vars rfl _ ?_ (by omega))).mono ?_
 ·simp [go_sem,Za0,Za4]
 ·simp [go_sem]
 ·simp [go_sem,Za0,Za4]
 rintro r σ' ⟨rfl,rfl⟩
 refine EvK.go 1000 ?_
 simp only [go_sem]
 simp [within,List.all_eq_not_any_not]
theorem Yaf (u:Un) (hl:okT u.l) (hr:okT u.r):CallEq Tryz.prog 57 [u.toA] (.bool (unitBad u)):=by
 refine CallEq.begin (rs:=[.tmp 2]) (m:=14) 1000 Tryz.func57 rfl rfl rfl (by decide) trivial ?_
 by_cases h0:u.l.head=0
 ·simp only [go_sem,Ynd,h0,unitBad]
 ·simp only [go_sem,Ynd,h0,unitBad]
  refine VCall.isoT [] (Zvu u.r u.l hr hl) (by (try simp only [Za6]);exact Za1 _ _ _) (by simp [go_sem,Za7,Za0]) ?_;simp only [flatR,flatA,flatC,if_true];refine EvK.go 1000 ?_
  simp only [go_sem]
theorem Zqz (σ:Store) (c:AVal) (hs:lowSo σ.length σ) (hc:c.low σ.length) :
  VCall Tryz.prog (.fn 89 [] []) [.nils,c] σ (fun r σ'=>r = .int .i64 (-1)∧σ' = σ):=by
 refine VCall.begin (rs:=[.tmp 4]) (m:=17) 1000 Tryz.func89 rfl rfl rfl rfl rfl ?_
 simp only [go_sem]
 refine EvK.loopI (ι:=Unit) 1000 (fun _=>mkT 19 [(0, .nils),(1,c),(7, .int .i64 0),(8, .int .i64 0)]) (fun _=>σ) (fun _=>0) () ?_ (fun _=>Nat.le_refl _) ?_
 ·simp only [go_sem,hc,hs]
  exact Za9 σ
 ·rintro ⟨⟩
  simp only [go_sem]
  refine EvK.go 1000 ?_
  simp only [go_sem]
  rw [Zax];exact ⟨σ,Za9 σ,Nat.le_refl _,hs,trivial,rfl,rfl⟩
theorem Zl6 (σ:Store) (c:AVal) (hs:lowSo σ.length σ) (hc:c.low σ.length) :
  VCall Tryz.prog (.fn 56 [] []) [.nils,c] σ (fun r σ'=>r = .nils∧σ' = σ):=by
 refine VCall.begin (rs:=[.tmp 4]) (m:=40) 1000 Tryz.func56 rfl rfl rfl rfl rfl ?_
 simp only [go_sem]
 refine (Zqz σ c hs hc).mono ?_
 rintro r σ' ⟨rfl,rfl⟩
 refine EvK.go 1000 ?_
 simp only [go_sem]
 rw [Zax];exact ⟨σ',Za9 σ',Nat.le_refl _,hs,trivial,rfl,rfl⟩
def uOf (c:List Li) (i:Nat):List Un :=
 match c with
 | [e]=>if e.neg then [] else [⟨e.l,e.r,(i:Int)⟩,⟨e.r,e.l,(i:Int)⟩]
 | _=>[]
def rawU:List (List Li)→Nat→List Un
 | [],_=>[]
 | c :: l,i=>uOf c i++rawU l (i+1)
def unitsOf (es:List (List Li)):List Un:=(rawU es 0).filter fun u=>!unitBad u
theorem Yjq (c:List Li) (i:Nat):(uOf c i).length≤2:=by
 unfold uOf;split
 ·split<;>simp
 ·simp
theorem Yno {c:List Li} {i:Nat} (h:okC c):∀ u∈uOf c i,okT u.l∧okT u.r:=by
 intro u hu
 unfold uOf at hu
 split at hu
 ·rename_i e
  have he:=h e (by simp)
  split at hu
  ·cases hu
  ·rcases List.mem_cons.1 hu with rfl | hu
   ·exact he
   ·rcases List.mem_cons.1 hu with rfl | hu
    ·exact ⟨he.2,he.1⟩
    ·cases hu
 ·cases hu
theorem Ya2:∀ (l:List (List Li)) (i:Nat),(∀ c∈l,okC c)→∀ u∈rawU l i,okT u.l∧okT u.r
 | [],_,_,u,hu=>by simp [rawU] at hu
 | c :: l,i,h,u,hu=>by
  rw [rawU,List.mem_append] at hu
  rcases hu with hu | hu
  ·exact Yno (h c (by simp)) u hu
  ·exact Ya2 l (i+1) (fun c hc=>h c (by simp [hc])) u hu
theorem Zoz (es:List (List Li)) (hl:es.length<1000000) (ho:∀ c∈es,okC c):CallEq Tryz.prog 27 [.ps 1 (clsA es)] (.ps 5 (uns (unitsOf es))):=by
 refine CallEq.begin (rs:=[.tmp 2]) (m:=48) 1000 Tryz.func27 rfl rfl rfl (by decide) (Zbp _) ?_
 simp only [go_sem,Zbi]
 refine EvK.loopR (ι:={p:Nat×List Un // p.1≤es.length∧p.2++rawU (es.drop p.1) p.1=rawU es 0∧p.2.length≤2*p.1}) 1000 (fun p=>mkT 49 [(2, .nils),(3,slA 0 5 (uns p.1.2)),(6, .ps 1 (clsA es)),(7, .int .i64 es.length),(8, .int .i64 p.1.1)]) (fun p=>[slB (uns p.1.2)]) (fun p=>es.length - p.1.1) ⟨(0,[]),by simp⟩ [] ?_ (fun _=>by simp) ?_
 ·refine Zb0 rfl ?_
  simp only [go_sem,uns,List.map_nil,Zcd,Zc7,Zav,Za2 (Zav _)]
 ·rintro ⟨⟨i,L⟩,hi,hpre,hL⟩
  simp only at hi hpre hL
  by_cases hlt:(i:Int)<es.length
  ·have hlt':i<es.length:=by omega
   have hd:rawU (es.drop i) i=uOf es[i] i++rawU (es.drop (i+1)) (i+1):=by
    rw [List.drop_eq_getElem_cons hlt'];rfl
   rw [hd] at hpre
   have hw:IntKind.i64.wrap ((i:Int)+1)=((i+1:Nat):Int):=by rw [Zab (by omega)];omega
   have hgc:=Zj8 hlt'
   obtain ⟨c,hc⟩:∃ c,es[i]=c:=⟨_,rfl⟩
   simp only [hc] at hpre hgc
   have same:uOf c i=[]→L++rawU (es.drop (i+1)) (i+1)=rawU es 0:=fun h=>by rw [← hpre,h];rfl
   by_cases c1:(c.length:Int)=1
   ·obtain ⟨e,rfl⟩:=List.length_eq_one_iff.1 (show c.length=1 by omega)
    cases hneg:e.neg with
    | true =>
     simp only [go_sem,hlt,Zbi,hgc,lits,List.map_cons,List.map_nil,Zaw,hneg,hw]
     refine ⟨by omega,⟨(i+1,L),by simp only;omega,same (by simp [uOf,hneg]),by simp only;omega⟩,[],Zb0 rfl ?_,by simp only;omega⟩
     simp only [go_sem,Zav,Zbp,Za2 (Zav _)]
    | false =>
     simp only [go_sem,hlt,Zbi,hgc,lits,List.map_cons,List.map_nil,Zaw,hneg,hw]
     refine ⟨by omega,?_⟩
     refine EvK.draw [⟨none,[],[1]⟩, .no, .no, .no, .no, .no, .no, .no, .no, .no, .no, .no, .no, .no, .no, .no, .no, .no, .no, .no, .no,⟨some 1,[1],[]⟩,⟨some 2,[0,2],[]⟩] 1 3 mixed rfl rfl (by decide) ?_
     simp only [go_sem,padS,Zaw,Zmd,appOk,List.mem_cons,List.not_mem_nil,forall_eq_or_imp,forall_eq,Nat.zero_lt_two,Zbv]
     refine ⟨by omega,?_⟩
     refine EvK.go 1000 ?_
     simp only [go_sem]
     have hu:uOf [e] i=[⟨e.l,e.r,(i:Int)⟩,⟨e.r,e.l,(i:Int)⟩]:=by simp [uOf,hneg]
     rw [hu] at hpre
     refine ⟨⟨(i+1,L++[⟨e.l,e.r,(i:Int)⟩,⟨e.r,e.l,(i:Int)⟩]),by simp only;omega,by rw [← hpre];simp,by simp only [List.length_append,List.length_cons,List.length_nil];omega⟩,[(0,2),(2,0)],Zb0 rfl ?_,by simp only;omega⟩
     have e1:uns (L++[⟨e.l,e.r,(i:Int)⟩,⟨e.r,e.l,(i:Int)⟩])=uns L++[Un.toA ⟨e.l,e.r,(i:Int)⟩,Un.toA ⟨e.r,e.l,(i:Int)⟩]:=by simp [uns]
     have lw:lowL 0 (uns (L++[⟨e.l,e.r,(i:Int)⟩,⟨e.r,e.l,(i:Int)⟩])):=Zbp _
     rw [e1] at lw ⊢
     rw [Ze4 (by simp),Zdz (by simp)]
     simp only [go_sem,Zav,Zbp,Za2 (Zav _),Za2 lw,Zac (Nat.zero_le 1) lw,Zbv]
     rw [hw];exact ⟨rfl,rfl⟩
   ·have c2:uOf c i=[]:=by
     unfold uOf;split
     ·simp at c1
     ·rfl
    simp only [go_sem,hlt,Zbi,hgc,Zaf,c1,hw]
    refine ⟨by omega,⟨(i+1,L),by simp only;omega,same c2,by simp only;omega⟩,[],Zb0 rfl ?_,by simp only;omega⟩
    simp only [go_sem,Zav,Zbp,Za2 (Zav _)]
  ·have hi':i=es.length:=by omega
   subst hi'
   rw [List.drop_length,rawU,List.append_nil] at hpre
   have hus:unitsOf es=L.filter fun u=>!unitBad u:=by rw [unitsOf,← hpre]
   have hok:=Ya2 es 0 ho
   rw [← hpre] at hok
   simp only [go_sem,hlt]
   refine EvK.go 1000 ?_
   by_cases hL0:L=[]
   ·simp only [go_sem,hL0,uns,List.map_nil,Zcd,Zc7]
    refine (Zl6 _ _ (by simp [go_sem]) (by simp [go_sem])).mono ?_
    rintro r σ' ⟨rfl,rfl⟩
    refine EvK.go 1000 ?_
    rw [hus,hL0]
    simp only [go_sem,List.filter_nil,List.map_nil]
   ·have hne:uns L≠[]:=by simp [uns,hL0]
    rw [Zkh hne,Zij hne,Zbv]
    simp only [go_sem]
    refine (Zq8 L unitBad 57 (by omega) (fun u hu=>Yaf u (hok u hu).1 (hok u hu).2) hL0).mono ?_
    rintro r σ' ⟨rfl,rfl⟩
    refine EvK.go 1000 ?_
    rw [hus]
    simp only [go_sem,Zbv]
    rw [List.take_of_length_le (by rw [Zbv];exact Nat.le_refl _)]
    exact Za1 _ _ _
end Go.Proofs
namespace Go.Abs
open Go
theorem BlkOk.renF {w:World} {M:Nat→Nat→Prop} {β β':Env} {π:Nat→Nat} {n:Nat} {L:Loc} {blk:Blk} (h:BlkOk w M β' L blk) (hl:blk.low n) (hβ:∀ b,b<n→β (π b) = β' b):BlkOk w M β L (renB π blk):=by
 cases blk with
 | var cs =>
  obtain ⟨c,e,h1,h0,h2,h3⟩:=h
  exact ⟨c,e,h1,h0,by rw [Zag];exact h2,fun k hk=>by rw [Zag] at hk;rw [Zai];exact (h3 k hk).renF (Zaa hl k) hβ⟩
 | row es fz =>
  obtain ⟨c,e,h1,h2,h3,h4,h5⟩:=h
  exact ⟨c,e,h1,h2,by rw [Zag];exact h3,fun i hi=>by rw [Zag] at hi;rw [Zai,Zd2,Zag];exact h4 i hi,fun i j hi hj=>by
   rw [Zag] at hi;rw [Zai,Zd2,Zai];exact (h5 i j hi hj).renF (Zaa (Ze5 (Zaa hl i)) j) hβ⟩
 | map ks vs f =>
  obtain ⟨es,clk,h1,h2,h3,h4,h5,h6⟩:=h
  exact ⟨es,clk,h1,by rw [Zag];exact h2,by rw [Zag,Zag];exact h3,fun k hk=>by rw [Zag] at hk;rw [Zai];exact (h4 k hk).renF (Zaa hl.1 k) hβ,fun k hk=>by rw [Zag] at hk;rw [Zai];exact (h5 k hk).renF (Zaa hl.2 k) hβ,h6⟩
 | iter s p=>exact h
 | mit ks vs seen =>
  obtain ⟨m,es,clk,h1,h2,h3,h4,h5,h6,h7,h8,h9⟩:=h
  exact ⟨m,es,clk,h1,h2,h3,by rw [Zag];exact h4,by rw [Zag,Zag];exact h5,fun k hk=>by rw [Zag] at hk;rw [Zai];exact (h6 k hk).renF (Zaa hl.1 k) hβ,fun k hk=>by rw [Zag] at hk;rw [Zai];exact (h7 k hk).renF (Zaa hl.2 k) hβ,h8,fun i hi=>by rw [Zag];exact h9 i hi⟩
 | loop r =>
  obtain ⟨t,d,f,h1,h2,h3⟩:=h
  exact ⟨t,d,f,h1,by simp only [Zag];exact h2,fun k hk=>by simp only [Zag] at hk;rw [Zai];exact (h3 k hk).renF (Zaa hl k) hβ⟩
def emb (ι:Nat→Nat) (n m b:Nat):Nat:=if b<n then ι b else b - n+m
def setAll (ι π:Nat→Nat):Nat→Store→Store→Store
 | _,[],σ=>σ
 | i,x :: r,σ=>setAll ι π (i+1) r (σ.set (ι i) (x.map (renB π)))
def embS (ι:Nat→Nat) (n:Nat) (Z' σ:Store):Store:=setAll ι (emb ι n σ.length) 0 (Z'.take n) σ++(Z'.drop n).map (Option.map (renB (emb ι n σ.length)))
section
variable {ι π:Nat→Nat} {n m:Nat}
theorem Zdc:∀ (r σ:Store) (i:Nat),(setAll ι π i r σ).length = σ.length
 | [],_,_=>rfl
 | x :: r,σ,i=>by rw [setAll,Zdc r _ (i+1),List.length_set]
theorem Zi5:∀ (r σ:Store) (i c:Nat),(∀ b,b<r.length→ι (i+b)≠c)→(setAll ι π i r σ)[c]? = σ[c]?
 | [],_,_,_,_=>rfl
 | x :: r,σ,i,c,h=>by
  rw [setAll,Zi5 r _ (i+1) c (fun b hb=>by have:=h (b+1) (by simpa using hb);rwa [show i+(b+1)=i+1+b by omega] at this),List.getElem?_set_ne (by simpa using h 0 (by simp))]
theorem Zpo:∀ (r σ:Store) (i b:Nat),(∀ a a',a<r.length→a'<r.length→ι (i+a) = ι (i+a')→a=a')→b<r.length→ι (i+b) < σ.length→(setAll ι π i r σ)[ι (i+b)]? = (r[b]?).map (Option.map (renB π))
 | [],_,_,b,_,hb,_=>absurd hb (by simp)
 | x :: r,σ,i,0,hinj,_,hlt=>by
  rw [setAll,Zi5]
  ·simp only [Nat.add_zero] at hlt ⊢
   rw [List.getElem?_set_self hlt];rfl
  ·intro a ha e
   have:=hinj (a+1) 0 (by simpa using ha) (by simp) (by rw [show i+(a+1)=i+1+a by omega];exact e)
   omega
 | x :: r,σ,i,b+1,hinj,hb,hlt=>by
  have e:i+(b+1)=i+1+b:=by omega
  rw [e] at hlt ⊢
  rw [setAll,Zpo r _ (i+1) b (fun a a' ha ha' h=>by
   have:=hinj (a+1) (a'+1) (by simpa using ha) (by simpa using ha') (by rw [show i+(a+1)=i+1+a by omega,show i+(a'+1)=i+1+a' by omega];exact h)
   omega) (by simpa using hb) (by rw [List.length_set];exact hlt)]
  simp
theorem Zfu {Z' σ:Store} (h:n≤Z'.length):(embS ι n Z' σ).length = σ.length+(Z'.length - n):=by simp [embS,Zdc]
variable (hι:∀ b b',b<n→b'<n→ι b = ι b'→b=b') (hb:∀ b,b<n→ι b<m)
include hι hb
theorem Zey {Z' σ:Store} (hm : σ.length=m) (h:n≤Z'.length) {b:Nat} (hbz:b<Z'.length):(embS ι n Z' σ)[emb ι n m b]? = (Z'[b]?).map (Option.map (renB (emb ι n m))):=by
 unfold embS emb
 subst hm
 by_cases hbn:b<n
 ·rw [if_pos hbn,List.getElem?_append_left (by rw [Zdc];exact hb b hbn)]
  have:=Zpo (ι:=ι) (π:=emb ι n σ.length) (Z'.take n) σ 0 b (fun a a' ha ha' e=>hι a a' (by simp at ha;omega) (by simp at ha';omega) (by simpa using e)) (by simp;omega) (by simpa using hb b hbn)
  rw [Nat.zero_add] at this
  rw [show (fun b=>if b<n then ι b else b - n + σ.length)=emb ι n σ.length from rfl,this,List.getElem?_take,if_pos hbn]
 ·rw [if_neg hbn,List.getElem?_append_right (by rw [Zdc];omega),Zdc,show b - n + σ.length - σ.length=b - n by omega,List.getElem?_map,List.getElem?_drop,show n+(b - n)=b by omega]
omit hι hb in
theorem Zmx {Z' σ:Store} {c:Nat} (hc:c < σ.length) (h:∀ b,b<n→ι b≠c):(embS ι n Z' σ)[c]? = σ[c]?:=by
 unfold embS
 rw [List.getElem?_append_left (by rw [Zdc];exact hc),Zi5]
 intro b hb
 rw [Nat.zero_add]
 exact h b (by simp at hb;omega)
end
section
variable {P:Program}
theorem VCall.many {F:Frame→List Frame→Sem Next→World→Value→World→Prop} {f:AVal} {args:List AVal} {K:AVal→Store→Prop} {Z σ:Store} (ι:Nat→Nat) (hι:∀ b b',b<Z.length→b'<Z.length→ι b = ι b'→b=b') (hb:∀ b,b<Z.length→ι b < σ.length)
  (hσ:∀ c x,σ[c]? = some (some x)↔∃ b y,b<Z.length∧ι b=c∧Z[b]? = some (some y)∧x=renB ι y) (hf:f.low Z.length) (ha:lowL Z.length args) (hs:lowSo Z.length Z)
  (h:VCallG P F f args Z (fun r Z'=>Z.length≤Z'.length∧lowSo Z'.length Z'∧r.low Z'.length∧K (ren (emb ι Z.length σ.length) r) (embS ι Z.length Z' σ))):VCallG P F (ren ι f) (renL ι args) σ K:=by
 intro X base β w vf vs h1 h1' h2 h3 fr cs h4
 rw [Zag] at h2 h3
 generalize hn:Z.length=n at *
 have hrow:∀ b y,Z[b]? = some (some y)→b<n∧σ[ι b]? = some (some (renB ι y)):=fun b y hz=>by
  have hlt:b<n:=by rw [← hn];exact (List.getElem?_eq_some_iff.1 hz).1
  exact ⟨hlt,(hσ _ _).2 ⟨b,y,hlt,rfl,hz,rfl⟩⟩
 have he:∀ b,b<n→envR β ι n b = β (ι b):=fun b hb=>if_pos hb
 have hm:∀ g o,Mof σ β g o↔Mof Z (envR β ι n) g o:=fun g o=>by
  constructor
  ·rintro ⟨c,x,L,m1,m2,m3,m4⟩
   obtain ⟨b,y,q1,rfl,q3,rfl⟩:=(hσ c x).1 m1
   exact ⟨b,y,L,q3,by rw [he b q1];exact m2,m3,Zgq.mp m4⟩
  ·rintro ⟨b,y,L,m1,m2,m3,m4⟩
   obtain ⟨q1,q2⟩:=hrow b y m1
   exact ⟨ι b,_,L,q2,by rw [← he b q1];exact m2,m3,Zgq.mpr m4⟩
 have hM:MT X Z (envR β ι n)=MT X σ β:=funext fun g=>funext fun o=>propext (or_congr Iff.rfl (hm g o).symm)
 have hr:RelS X base Z (envR β ι n) w:=by
  refine ⟨fun b hb=>if_neg (by omega),fun b x hbz=>?_,fun b b' x y L L' e1 e2 e3 e4 e5=>?_,h1.size,h1.xlt,h1.gl⟩
  ·obtain ⟨q1,q2⟩:=hrow b x hbz
   obtain ⟨L,l1,l2,l3,l4⟩:=h1.blk _ _ q2
   refine ⟨L,by rw [he b q1];exact l1,l2,l3,?_⟩
   rw [hM]
   exact l4.ren (Zat hs b x hbz)
  ·obtain ⟨q1,q2⟩:=hrow b x e1
   obtain ⟨q3,q4⟩:=hrow b' y e2
   rw [he b q1] at e3
   rw [he b' q3] at e4
   exact hι b b' q1 q3 (h1.inj _ _ _ _ L L' q2 q4 e3 e4 e5)
 have hf':Rep w (MT X σ β) (envR β ι n) vf f:=Rep.ren h1' _ rfl hf
 have ha':∀ k,k<args.length→Rep w (MT X σ β) (envR β ι n) (vs.getD k undef) (args.getD k .undef):=fun k hk=>by
  have:=h3 k hk
  rw [Zai] at this
  exact Rep.ren this _ rfl (Zaa ha k)
 rw [← hM] at hf' ha'
 obtain ⟨r,Z',β',v,w',⟨q0,q1,q2,q3⟩,g1,g2,g3,g4,g5⟩:=h X base _ w vf vs hr hf' h2 ha' fr cs h4
 rw [hn] at g3
 generalize hmm : σ.length=m at *
 let βb:Env:=fun c=>if c<m then β c else β' (c - m+n)
 have eb:∀ b,βb (emb ι n m b) = β' b:=fun b=>by
  simp only [βb,emb]
  by_cases hbn:b<n
  ·rw [if_pos hbn,if_pos (hb b hbn),g3.env b hbn,he b hbn]
  ·rw [if_neg hbn,if_neg (by omega),show b - n+m - m+n=b by omega]
 have hout:∀ c x,(embS ι n Z' σ)[c]? = some (some x)→∃ b y,c=emb ι n m b∧Z'[b]? = some (some y)∧x=renB (emb ι n m) y:=fun c x hc=>by
  have hlt:=(List.getElem?_eq_some_iff.1 hc).1
  rw [Zfu q0,hmm] at hlt
  by_cases hcm:c<m
  ·by_cases hex:∃ b,b<n∧ι b=c
   ·obtain ⟨b,hbn,rfl⟩:=hex
    have:=Zey (ι:=ι) hι hb (Z':=Z') hmm q0 (b:=b) (by omega)
    rw [show emb ι n m b = ι b from if_pos hbn,hc] at this
    obtain ⟨o,h1,h2⟩:=Option.map_eq_some_iff.1 this.symm
    obtain ⟨y,rfl,h3⟩:=Option.map_eq_some_iff.1 h2
    exact ⟨b,y,(if_pos hbn).symm,h1,h3.symm⟩
   ·rw [Zmx (by omega) (fun b hbn e=>hex ⟨b,hbn,e⟩)] at hc
    obtain ⟨b,y,p1,p2,_⟩:=(hσ c x).1 hc
    exact absurd ⟨b,p1,p2⟩ hex
  ·have e:emb ι n m (c - m+n)=c:=by unfold emb;rw [if_neg (by omega)];omega
   have:=Zey (ι:=ι) hι hb (Z':=Z') hmm q0 (b:=c - m+n) (by omega)
   rw [e,hc] at this
   obtain ⟨o,h1,h2⟩:=Option.map_eq_some_iff.1 this.symm
   obtain ⟨y,rfl,h3⟩:=Option.map_eq_some_iff.1 h2
   exact ⟨_,y,e.symm,h1,h3.symm⟩
 have hin:∀ b y,Z'[b]? = some (some y)→(embS ι n Z' σ)[emb ι n m b]? = some (some (renB (emb ι n m) y)):=fun b y hbz=>by
  rw [Zey hι hb hmm q0 (List.getElem?_eq_some_iff.1 hbz).1,hbz];rfl
 have hm':∀ g o,Mof (embS ι n Z' σ) βb g o↔Mof Z' β' g o:=fun g o=>by
  constructor
  ·rintro ⟨c,x,L,m1,m2,m3,m4⟩
   obtain ⟨b,y,rfl,p2,rfl⟩:=hout c x m1
   exact ⟨b,y,L,p2,by rw [← eb];exact m2,m3,Zgq.mp m4⟩
  ·rintro ⟨b,y,L,m1,m2,m3,m4⟩
   exact ⟨_,_,L,hin b y m1,by rw [eb];exact m2,m3,Zgq.mpr m4⟩
 have hM':MT X Z' β'=MT X (embS ι n Z' σ) βb:=funext fun g=>funext fun o=>propext (or_congr Iff.rfl (hm' g o).symm)
 refine ⟨_,embS ι n Z' σ,βb,v,w',q3,?_,?_,?_,by rw [Zfu q0,hmm];omega,g5⟩
 ·refine ⟨fun c hc=>?_,fun c x hc=>?_,fun c c' x y L L' e1 e2 e3 e4 e5=>?_,g1.size,g1.xlt,g1.gl⟩
  ·rw [Zfu q0,hmm] at hc
   simp only [βb]
   rw [if_neg (by omega)]
   exact g1.dom _ (by omega)
  ·obtain ⟨b,y,rfl,p2,rfl⟩:=hout c x hc
   obtain ⟨L,k1,k2,k3,k4⟩:=g1.blk b y p2
   refine ⟨L,by rw [eb];exact k1,k2,k3,?_⟩
   rw [← hM']
   exact k4.renF (π:=emb ι n m) (Zat q1 b y p2) fun b _=>eb b
  ·obtain ⟨b,u,rfl,p2,rfl⟩:=hout c x e1
   obtain ⟨b',u',rfl,p2',rfl⟩:=hout c' y e2
   rw [eb] at e3 e4
   rw [g1.inj b b' u u' L L' p2 p2' e3 e4 e5]
 ·rw [← hM']
  exact g2.renF (π:=emb ι n m) q2 fun b _=>eb b
 ·exact ⟨g3.os,g3.tape,g3.output,g3.size,fun g o x hc hn=>g3.cell g o x hc fun hx=>hn ((hm g o).2 hx),fun g hg hn=>g3.block g hg fun o hx=>hn o ((hm g o).2 hx),fun g o hx=>(g3.newM g o ((hm' g o).1 hx)).imp (hm g o).2 id,fun c hc=>if_pos hc⟩
theorem VCall.embed {F:Frame→List Frame→Sem Next→World→Value→World→Prop} {f:AVal} {args:List AVal} {K:AVal→Store→Prop} {Z σ:Store} (ι:Nat→Nat) (hι:∀ b b',b<Z.length→b'<Z.length→ι b = ι b'→b=b') (hb:∀ b,b<Z.length→ι b < σ.length)
  (hσ:∀ b,b<Z.length→∃ o,Z[b]? = some o∧σ[ι b]? = some (o.map (renB ι))) (hf:f.low Z.length) (ha:lowL Z.length args) (hs:lowSo Z.length Z)
  (h:VCallG P F f args Z (fun r Z'=>Z.length≤Z'.length∧lowSo Z'.length Z'∧r.low Z'.length∧K (ren (emb ι Z.length σ.length) r) (embS ι Z.length Z' σ))):VCallG P F (ren ι f) (renL ι args) σ K:=by
 let vis:Nat→Bool:=fun c=>(List.range Z.length).any fun b=>ι b==c
 have hvis:∀ c,vis c=true↔∃ b,b<Z.length∧ι b=c:=fun c=>by simp [vis]
 refine VCall.frame vis (K':=fun r σ2=>∃ Z',Z.length≤Z'.length∧σ2=embS ι Z.length Z' (maskS vis 0 σ)∧K r (embS ι Z.length Z' σ)) ?_ ?_
 ·have hl:(maskS vis 0 σ).length = σ.length:=Zb4 _ _ _
  refine VCall.many ι hι (by rw [hl];exact hb) (fun c x=>?_) hf ha hs (h.mono ?_)
  ·rw [Zbo,Nat.zero_add]
   constructor
   ·intro hx
    obtain ⟨o,h1,h2⟩:=Option.map_eq_some_iff.1 hx
    split at h2
    ·rename_i hv
     obtain ⟨b,hbn,rfl⟩:=(hvis c).1 hv
     obtain ⟨z,hz1,hz2⟩:=hσ b hbn
     rw [h1] at hz2
     subst h2
     obtain ⟨y,rfl,e⟩:=Option.map_eq_some_iff.1 (Option.some.inj hz2).symm
     exact ⟨b,y,hbn,rfl,hz1,e.symm⟩
    ·cases h2
   ·rintro ⟨b,y,hbn,rfl,hz,rfl⟩
    obtain ⟨z,hz1,hz2⟩:=hσ b hbn
    rw [hz] at hz1
    cases hz1
    rw [hz2,Option.map_some,if_pos ((hvis _).2 ⟨b,hbn,rfl⟩)];rfl
  ·rintro r Z' ⟨q0,q1,q2,q3⟩
   rw [hl]
   exact ⟨q0,q1,q2,Z',q0,rfl,q3⟩
 ·rintro r σ2 ⟨Z',q0,rfl,q3⟩
  have hl:(maskS vis 0 σ).length = σ.length:=Zb4 _ _ _
  refine ⟨fun c hc hv=>?_,?_⟩
  ·rw [Zmx (by rw [hl];exact hc) (fun b hbn e=>by rw [(hvis c).2 ⟨b,hbn,e⟩] at hv;cases hv),Zbo,Nat.zero_add,List.getElem?_eq_getElem hc]
   simp [hv]
  ·have e:backS vis 0 (embS ι Z.length Z' (maskS vis 0 σ)) σ=embS ι Z.length Z' σ:=by
    refine List.ext_getElem? fun c=>?_
    rw [Zef vis _ σ 0 c (by rw [Zfu q0,hl];omega),Nat.zero_add]
    by_cases hc:c < σ.length
    ·cases hv:vis c with
     | false =>
      rw [if_pos ⟨hc,rfl⟩,Zmx hc (fun b hbn e=>by rw [(hvis c).2 ⟨b,hbn,e⟩] at hv;cases hv)]
     | true =>
      rw [if_neg (by simp)]
      obtain ⟨b,hbn,rfl⟩:=(hvis c).1 hv
      have e1:=Zey (ι:=ι) hι (m:=(maskS vis 0 σ).length) (fun b hbn=>by rw [hl];exact hb b hbn) (Z':=Z') rfl q0 (b:=b) (by omega)
      have e2:=Zey (ι:=ι) hι (m:=σ.length) hb (Z':=Z') rfl q0 (b:=b) (by omega)
      rw [hl] at e1
      rw [show emb ι Z.length σ.length b = ι b from if_pos hbn] at e1 e2
      rw [e1,e2]
    ·rw [if_neg (fun h=>hc h.1)]
     by_cases hc2:c < σ.length+(Z'.length - Z.length)
     ·have e0:emb ι Z.length σ.length (c - σ.length+Z.length)=c:=by unfold emb;rw [if_neg (by omega)];omega
      have e1:=Zey (ι:=ι) hι (m:=(maskS vis 0 σ).length) (fun b hbn=>by rw [hl];exact hb b hbn) (Z':=Z') rfl q0 (b:=c - σ.length+Z.length) (by omega)
      have e2:=Zey (ι:=ι) hι (m:=σ.length) hb (Z':=Z') rfl q0 (b:=c - σ.length+Z.length) (by omega)
      rw [hl] at e1
      rw [e0] at e1 e2
      rw [e1,e2]
     ·rw [List.getElem?_eq_none (by rw [Zfu q0,hl];omega),List.getElem?_eq_none (by rw [Zfu q0];omega)]
   rw [e];exact q3
end
section
variable {P:Program} {lo:Ctx} {Q:AExit→St→Prop} {ops:Array Oper} {fs:List Fp} {n0 N:Nat} {TM:Nat→List AVal} {SS:Nat→Store} {X:Nat→Nat→Prop} {base mb:Nat} {D:List Deferred}
def DrawOutR (P:Program) (lo:Ctx) (X:Nat→Nat→Prop) (base mb:Nat) (D:List Deferred) (b:Frame) (k:List Item) (cs:List Frame) (R:Store→Env→World→Machine→Prop) (z:Option Nat) (TMe:List AVal) (SSe σ:Store) (β:Env) (w:World) (m:Machine):Prop :=
 (z=none∧∃ β' a' w',Rel X base mb D ⟨TMe,SSe⟩ β' a' w'∧Ext lo.n σ β w SSe β' w'∧Steps P m (lone (b.atR a' k) cs w'))∨z≠none∧R σ β w m
theorem DrawOutR.of {R:Store→Env→World→Machine→Prop} (hR:∀ {σ σ1:Store} {β β1:Env} {w w1:World} {m m1:Machine},Ext lo.n σ β w σ1 β1 w1→Steps P m m1→R σ1 β1 w1 m1→R σ β w m) {b:Frame} {k:List Item} {cs:List Frame} {z:Option Nat} {TMe:List AVal} {SSe σ σ':Store} {β β1:Env} {w w1:World} {m m1:Machine} (he:Ext lo.n σ β w σ' β1 w1) (hs:Steps P m m1) (h:DrawOutR P lo X base mb D b k cs R z TMe SSe σ' β1 w1 m1) :
  DrawOutR P lo X base mb D b k cs R z TMe SSe σ β w m:=by
 rcases h with ⟨h0,β',a',w',h1,h2,h3⟩ | ⟨hz,h⟩
 ·exact .inl ⟨h0,β',a',w',h1,he.trans h2,hs.trans h3⟩
 ·exact .inr ⟨hz,hR he hs h⟩
theorem Zz4 {R:Store→Env→World→Machine→Prop} (hR:∀ {σ σ1:Store} {β β1:Env} {w w1:World} {m m1:Machine},Ext lo.n σ β w σ1 β1 w1→Steps P m m1→R σ1 β1 w1 m1→R σ β w m) {z:Option Nat} {dd sk:Nat→Prop} (hz:∀ i0,z=some i0→i0<ops.size∧dd i0) (hdd:∀ j,dd j→∃ i0,z=some i0∧(j=i0∨Bef ops i0 j)) (hk:DrawOk ops fs n0 N) (hlo:lo.n≤n0) (hN:n0≤N)
  (hT:∀ i o,ops[i]? = some o→((StepT P ops (fpAt fs i) o (TM i) (SS i) (TM (i+1)) (SS (i+1))∨StepL P ops.size o (TM i) SS i (TM (i+1))∧(fpAt fs i).wr=[])∨(dd i∨sk i)∧(∃ v,TM (i+1)=put (TM i) o.dst v)∧SS (i+1)=SS i)) (hlT:∀ i,i≤ops.size→(TM i).length=(TM 0).length) (hlS:∀ i,i≤ops.size→(SS i).length=N)
  (b:Frame) (k:List Item) (cs:List Frame)
  (hP:∀ i o,z=some i→ops[i]? = some o→∀ (tm:List AVal) (σ:Store) (β:Env) (a:Act) (w:World) (rest:List Nat) (listed:Array Bool),listed.size=ops.size →
   InvD ops.size (fun i l=>∃ o,ops[i]? = some o∧o.dst=some l) (fun i l=>(TM i).getD l .undef) (fun j=>listed.getD j false=true) (fun l=>tm.getD l .undef) →
   InvD ops.size (fun i c=>c∈(fpAt fs i).wr) (fun i c=>(SS i)[c]?) (fun j=>listed.getD j false=true) (fun c=>σ[c]?) →
   (∀ i j,Bef ops i j→listed.getD j false=true→listed.getD i false=true)→listed.getD i false=false→(∀ j,Bef ops j i→listed.getD j false=true)→tm.length=(TM 0).length→σ.length=N→Rel X base mb D ⟨tm,σ⟩ β a w →
   (∃ fuel t,rest=Region.linearise.go .any ops fuel t (listed.setIfInBounds i true) []∧todoN (listed.setIfInBounds i true)≤fuel)→R σ β w (lone (b.atR a (.inRegion ops (i :: rest) :: k)) cs w)) :
  ∀ (fuel t:Nat) (listed:Array Bool) (tm:List AVal) (σ:Store) (β:Env) (a:Act) (w:World),listed.size=ops.size→todoN listed≤fuel →
   (∀ i j,Bef ops i j→listed.getD j false=true→listed.getD i false=true) →
   InvD ops.size (fun i l=>∃ o,ops[i]? = some o∧o.dst=some l) (fun i l=>(TM i).getD l .undef) (fun j=>listed.getD j false=true) (fun l=>tm.getD l .undef) →
   InvD ops.size (fun i c=>c∈(fpAt fs i).wr) (fun i c=>(SS i)[c]?) (fun j=>listed.getD j false=true) (fun c=>σ[c]?) →
   tm.length=(TM 0).length→σ.length=N→(∀ i c,i<ops.size→listed.getD i false=false→(fpAt fs i).nm=some c→β c=none)→Rel X base mb D ⟨tm,σ⟩ β a w→(∀ j,listed.getD j false=true→¬ dd j)→(∀ j,sk j→j<ops.size→listed.getD j false=true) →
   DrawOutR P lo X base mb D b k cs R z (TM ops.size) (SS ops.size) σ β w (lone (b.atR a (.inRegion ops (Region.linearise.go .any ops fuel t listed []) :: k)) cs w):=by
 have hST:∀ i l,i<ops.size→¬ (∃ o,ops[i]? = some o∧o.dst=some l)→(TM (i+1)).getD l .undef=(TM i).getD l .undef:=by
  intro i l hi hn
  have ho:ops[i]? = some ops[i]:=Array.getElem?_eq_getElem hi
  have hput:∀ v,(put (TM i) ops[i].dst v).getD l .undef=(TM i).getD l .undef:=by
   intro v
   cases hd:ops[i].dst with
   | none=>rfl
   | some d =>
    have hne:d≠l:=fun e=>hn ⟨ops[i],ho,by rw [hd,e]⟩
    simp only [put,List.getD,List.getElem?_set_ne hne]
  rcases hT i _ ho with ((⟨_,h,_⟩ | ⟨_,r,σ1,_,_,h,_⟩) | ⟨⟨_,_,_,_,_,_,_,_,h,_⟩,_⟩) | ⟨_,⟨_,h⟩,_⟩<;>rw [h]<;>exact hput _
 have hSS:∀ i c,i<ops.size→¬ c∈(fpAt fs i).wr→(SS (i+1))[c]? = (SS i)[c]?:=by
  intro i c hi hn
  have ho:ops[i]? = some ops[i]:=Array.getElem?_eq_getElem hi
  rcases hT i _ ho with ((⟨_,_,h⟩ | ⟨_,r,σ1,_,h2,_,h⟩) | ⟨⟨_,_,_,_,_,_,_,_,_,h⟩,_⟩) | ⟨_,_,h⟩
  rotate_right
  ·rw [h]
  rotate_right
  ·rw [h]
  ·rw [h]
  ·rw [h,Zbk (by rw [Zcl h2,maskF,Zb4]),Nat.zero_add,if_neg hn]
 intro fuel
 have finish:∀ (listed:Array Bool) (tm:List AVal) (σ:Store) (β:Env) (a:Act) (w:World),(∀ j,j<ops.size→listed.getD j false=true) →
   InvD ops.size (fun i l=>∃ o,ops[i]? = some o∧o.dst=some l) (fun i l=>(TM i).getD l .undef) (fun j=>listed.getD j false=true) (fun l=>tm.getD l .undef) →
   InvD ops.size (fun i c=>c∈(fpAt fs i).wr) (fun i c=>(SS i)[c]?) (fun j=>listed.getD j false=true) (fun c=>σ[c]?) →
   tm.length=(TM 0).length→σ.length=N→Rel X base mb D ⟨tm,σ⟩ β a w→(∀ j,listed.getD j false=true→¬ dd j) →
   DrawOutR P lo X base mb D b k cs R z (TM ops.size) (SS ops.size) σ β w (lone (b.atR a (.inRegion ops [] :: k)) cs w):=by
  intro listed tm σ β a w hall i1 i2 l1 l2 hrel hld
  have hz0:z=none:=by
   cases hzz:z with
   | none=>rfl
   | some i0=>obtain ⟨q1,q2⟩:=hz i0 hzz;exact absurd q2 (hld i0 (hall i0 q1))
  have e1:tm=TM ops.size:=by
   apply List.ext_getElem?
   intro l
   have h1:tm.getD l .undef=(TM ops.size).getD l .undef:=InvD.done hST i1 hall l
   have hl:=hlT ops.size (Nat.le_refl _)
   by_cases hlt:l<tm.length
   ·have hlt':l<(TM ops.size).length:=by omega
    rw [List.getElem?_eq_getElem hlt,List.getElem?_eq_getElem hlt']
    simp only [List.getD,List.getElem?_eq_getElem hlt,List.getElem?_eq_getElem hlt',Option.getD_some] at h1
    rw [h1]
   ·rw [List.getElem?_eq_none (by omega),List.getElem?_eq_none (by omega)]
  have e2 : σ=SS ops.size:=by
   apply List.ext_getElem?
   intro c
   exact InvD.done hSS i2 hall c
  subst e1 e2
  exact .inl ⟨hz0,β,a,w,hrel,Ext.refl _ _ _ _, .one stepR_region_end⟩
 induction fuel with
 | zero =>
  intro t listed tm σ β a w hsz htodo hdown i1 i2 l1 l2 hnm hrel hld _
  simp only [Region.linearise.go,List.reverse_nil]
  exact finish listed tm σ β a w (fun j hj=>Zi1 (by omega) (by omega)) i1 i2 l1 l2 hrel hld
 | succ fuel ih =>
  intro t listed tm σ β a w hsz htodo hdown i1 i2 l1 l2 hnm hrel hld hsk
  simp only [Region.linearise.go]
  change DrawOutR P lo X base mb D b k cs R z (TM ops.size) (SS ops.size) σ β w (lone (b.atR a (.inRegion ops (match (Region.ready .any ops listed)[t % (Region.ready .any ops listed).length]? with
   | some i=>Region.linearise.go .any ops fuel (t / (Region.ready .any ops listed).length) (listed.setIfInBounds i true) [i]
   | none=>[].reverse) :: k)) cs w)
  cases hi:(Region.ready .any ops listed)[t % (Region.ready .any ops listed).length]? with
  | none =>
   have hnil:Region.ready .any ops listed=[]:=by
    cases hr:Region.ready .any ops listed with
    | nil=>rfl
    | cons x xs =>
     rw [hr] at hi
     have hlt:t % (x :: xs).length<(x :: xs).length:=Nat.mod_lt _ (by simp)
     simp at hi
     simp at hlt
     omega
   refine finish listed tm σ β a w (fun j=>?_) i1 i2 l1 l2 hrel hld
   induction j using Nat.strongRecOn with
   | _ j ihj =>
    intro hj
    cases hv:listed.getD j false with
    | true=>rfl
    | false =>
     have hmem:j∈Region.ready .any ops listed:=mem_ready.2 ⟨by
      have:j<listed.size:=by omega
      simpa [this] using hv,ops[j],Array.getElem?_eq_getElem hj,fun e he hb=>by
       have hlt:e.on<j:=(Bef.edge (Array.getElem?_eq_getElem hj) he hb).lt hk.down
       exact ihj e.on hlt (by omega)⟩
     rw [hnil] at hmem;cases hmem
  | some i =>
   simp only []
   rw [linearise_go_acc,List.reverse_singleton,List.singleton_append]
   obtain ⟨hun,o,ho,hall⟩:=mem_ready.1 (List.mem_of_getElem? hi)
   have hin:i<ops.size:=(Array.getElem?_eq_some_iff.1 ho).1
   have hun':listed.getD i false=false:=by
    have:i<listed.size:=by omega
    simpa [this] using hun
   have hni:¬ (listed.getD i false=true):=by rw [hun'];simp
   have hpre:∀ j,Bef ops j i→listed.getD j false=true:=by
    intro j hb
    generalize hi':i=i' at hb
    induction hb with
    | @edge j' o' e h1 h2 h3 =>
     subst hi'
     rw [ho] at h1;cases h1
     exact hall e h2 h3
    | trans h1 h2 _ ih2=>exact hdown _ _ h1 (ih2 hi')
   have hordT:∀ l,l∈o.looksAt ops∨o.dst=some l→∀ j,j<ops.size→j≠i→(∃ oj,ops[j]? = some oj∧oj.dst=some l)→Bef ops i j∨Bef ops j i:=by
    rintro l hl j hj hne ⟨oj,h1,h2⟩
    exact hk.tmp i o ho l hl j oj h1 hne h2
   have readT:∀ l,l∈o.looksAt ops→tm.getD l .undef=(TM i).getD l .undef:=fun l hl=>InvD.read hk.down hST hdown i1 hin hni hpre (hordT l (.inl hl))
   have readS:∀ c,c ∉ (fpAt fs i).hd→σ[c]? = (SS i)[c]?:=fun c hc=>InvD.read hk.down hSS hdown i2 hin hni hpre (hk.see i hin c hc)
   have hlTi:=hlT i (by omega)
   have hlSi:=hlS i (by omega)
   have hmask:maskF (fpAt fs i) σ=maskF (fpAt fs i) (SS i):=by
    apply List.ext_getElem?
    intro c
    simp only [maskF,Zbo,Nat.zero_add]
    by_cases hc:c∈(fpAt fs i).hd
    ·have e:(!(fpAt fs i).hd.contains c)=false:=by simp [hc]
     rw [e]
     by_cases hlt:c<N
     ·rw [List.getElem?_eq_getElem (l:=σ) (by omega),List.getElem?_eq_getElem (l:=SS i) (by omega)];rfl
     ·rw [List.getElem?_eq_none (l:=σ) (by omega),List.getElem?_eq_none (l:=SS i) (by omega)]
    ·rw [readS c hc]
   have hname:(fpAt fs i).name σ=(fpAt fs i).name (SS i):=by simp only [Fp.name,l2,hlSi]
   have hgd:gdA ops tm o=gdA ops (TM i) o:=Znj (by omega) readT
   have hput:∀ (l:Nat) (v:AVal),(∃ o',ops[i]? = some o'∧o'.dst=some l)→(put tm o.dst v).getD l .undef=(put (TM i) o.dst v).getD l .undef:=by
    rintro l v ⟨o',h1,h2⟩
    rw [ho] at h1;cases h1
    rw [h2]
    simp only [put,List.getD,List.getElem?_set_self']
    by_cases hlt:l<tm.length
    ·rw [List.getElem?_eq_getElem hlt,List.getElem?_eq_getElem (show l<(TM i).length by omega)];rfl
    ·rw [List.getElem?_eq_none (Nat.le_of_not_lt hlt),List.getElem?_eq_none (show (TM i).length≤l by omega)]
   have hput2:∀ (l:Nat) (v:AVal), ¬ (∃ o',ops[i]? = some o'∧o'.dst=some l)→(put tm o.dst v).getD l .undef=tm.getD l .undef:=by
    intro l v hn
    cases hd:o.dst with
    | none=>rfl
    | some d =>
     have hne:d≠l:=fun e=>hn ⟨o,ho,by rw [hd,e]⟩
     simp only [put,List.getD,List.getElem?_set_ne hne]
   have hset:∀ j,((listed.setIfInBounds i true).getD j false=true)↔(listed.getD j false=true∨j=i):=by
    intro j
    constructor
    ·intro h
     by_cases e:i=j
     ·exact .inr e.symm
     ·rw [Go.getD_set_ne false e] at h;exact .inl h
    ·rintro (h | rfl)
     ·exact getD_set_true h
     ·have:j<listed.size:=by omega
      simp [this]
   have hDeq:(fun j=>(listed.setIfInBounds i true).getD j false=true)=fun j=>listed.getD j false=true∨j=i:=funext fun j=>propext (hset j)
   have hdown':∀ i' j,Bef ops i' j→(listed.setIfInBounds i true).getD j false=true→(listed.setIfInBounds i true).getD i' false=true:=by
    intro i' j hb hj
    rw [hset] at hj ⊢
    rcases hj with hj | rfl
    ·exact .inl (hdown i' j hb hj)
    ·exact .inl (hpre i' hb)
   have hT':=hT i o ho
   by_cases hdi:dd i
   ·obtain ⟨i0,hzi,hi0⟩:=hdd i hdi
    rcases hi0 with rfl | hb
    ·refine .inr ⟨by rw [hzi];simp,hP i o hzi ho tm σ β a w _ listed hsz i1 i2 hdown hun' hpre l1 l2 hrel ⟨fuel,_,rfl,?_⟩⟩
     have:=Zhb (i:=i) hun
     omega
    ·exact absurd (hz i0 hzi).2 (hld i0 (hpre i0 hb))
   have hT':=hT'.resolve_right fun h=>h.1.elim hdi fun hs=>hni (hsk i hs hin)
   generalize hrest:Region.linearise.go .any ops fuel (t / (Region.ready .any ops listed).length) (listed.setIfInBounds i true) []=rest
   have step:∃ tm' σ' β1 a1 w1,Rel X base mb D ⟨tm',σ'⟩ β1 a1 w1∧Ext 0 σ β w σ' β1 w1∧(∀ c,c≠(fpAt fs i).name σ→c < σ.length→β1 c = β c)∧tm'.length=tm.length∧σ'.length = σ.length ∧
     (∀ l,(∃ o',ops[i]? = some o'∧o'.dst=some l)→tm'.getD l .undef=(TM (i+1)).getD l .undef)∧(∀ l, ¬ (∃ o',ops[i]? = some o'∧o'.dst=some l)→tm'.getD l .undef=tm.getD l .undef) ∧
     (∀ c,c∈(fpAt fs i).wr→σ'[c]? = (SS (i+1))[c]?)∧(∀ c,c ∉ (fpAt fs i).wr→σ'[c]? = σ[c]?) ∧
     Steps P (lone (b.atR a (.inRegion ops (i :: rest) :: k)) cs w) (lone (b.atR a1 (.inRegion ops rest :: k)) cs w1):=by
    rcases hT' with (⟨g1,g2,g3⟩ | ⟨g1,r,σ1,g2,g3,g4,g5⟩) | ⟨⟨g1,t0,x0,l0,r,g2,g3,g4,g5,g6⟩,g7⟩
    rotate_right
    ·have hgt:gdA ops tm o=some true:=by unfold gdA;rw [g1]
     have hx:ev tm x0=ev (TM i) x0:=Zj0 readT x0 (by rw [g2];simp [Op.operands])
     obtain ⟨b0,hb0⟩:=Zp4 l0 (ev (TM i) x0)
     obtain ⟨k0,hk0,hs0⟩:=i2.some b0
     have hld:loadA σ l0 (ev tm x0)=some r:=by rw [hx,hb0 σ (SS k0) hs0];exact g4 k0 hk0
     have hdo:DoOp P o.op tm (maskF Fp.no σ) (Fp.no.name σ) r σ:=by
      have hm0:maskF Fp.no σ = σ:=by
       apply List.ext_getElem?
       intro c
       simp only [maskF,Zbo,Nat.zero_add,Fp.no]
       cases σ[c]?<;>rfl
      rw [hm0,g2]
      simp only [DoOp,opE,g3,Option.bind_some,hld,Option.map_some]
     have hsm:sameO Fp.no.wr 0 σ (maskF Fp.no σ):=by
      have hm0:maskF Fp.no σ = σ:=by
       apply List.ext_getElem?
       intro c
       simp only [maskF,Zbo,Nat.zero_add,Fp.no]
       cases σ[c]?<;>rfl
      rw [hm0]
      have:∀ (i:Nat) (a:Store),sameO Fp.no.wr i a a:=fun i a=>by
       induction a generalizing i with
       | nil=>trivial
       | cons x a ih=>exact ⟨.inr rfl,ih _⟩
      exact this 0 σ
     obtain ⟨β1,a1,w1,q1,q2,q3,q4⟩:=DoOp.step (rest:=rest) hrel ho hgt hdo hsm (fun c hc=>by simp [Fp.no] at hc) (hrel.s.dom _ (Nat.le_refl _)) b k cs
     have hmg:mergeW Fp.no.wr 0 σ σ = σ:=by
      apply List.ext_getElem?
      intro c
      rw [Zbk rfl];split<;>rfl
     rw [hmg] at q1 q2
     refine ⟨_,σ,β1,a1,w1,q1,q2,fun c _ hc=>q3 c (by simp only [Fp.name,Fp.no,Option.getD_none];omega) hc,Zbx _ _ _,rfl,fun l hl=>by rw [g5];exact hput l _ hl,fun l hl=>hput2 l _ hl,fun c hc=>?_,fun _ _=>rfl,q4⟩
     rw [g7] at hc;cases hc
    ·have hw:=Zc4 hrel (hgd.trans g1)
     refine ⟨put tm o.dst gone,σ,β,a.put o.dst undef,w,hrel.next hrel.s (Ext.refl 0 _ _ _) (fun _ _ h=>h) (.opq _) o.dst,Ext.refl _ _ _ _,fun _ _ _=>rfl,Zbx _ _ _,rfl,
      fun l hl=>by rw [g2];exact hput l _ hl,fun l hl=>hput2 l _ hl,fun c hc=>?_,fun _ _=>rfl,?_⟩
     ·rw [g3]
      exact InvD.read hk.down hSS hdown i2 hin hni hpre (hk.own i hin c hc).2.2
     ·have:=stepR_op_skip (P:=P) (b:=b) (a:=a) (ops:=ops) (i:=i) (rest:=rest) (k:=k) (cs:=cs) (w:=w) (by simp [ho,hw])
      rw [ho] at this
      exact .one this
    ·have hdo:DoOp P o.op tm (maskF (fpAt fs i) σ) ((fpAt fs i).name σ) r σ1:=by
      rw [hmask,hname];exact g2.congr (Zj0 readT)
     have hsm:sameO (fpAt fs i).wr 0 σ1 (maskF (fpAt fs i) σ):=by rw [hmask];exact g3
     have hnone : β ((fpAt fs i).name σ)=none:=by
      unfold Fp.name
      cases hn:(fpAt fs i).nm with
      | none=>exact hrel.s.dom _ (Nat.le_refl _)
      | some c=>exact hnm i c hin hun' hn
     have hl1 : σ1.length = σ.length:=by rw [Zcl hsm,maskF,Zb4]
     have hl1' : σ1.length=(SS i).length:=by omega
     obtain ⟨β1,a1,w1,q1,q2,q3,q4⟩:=DoOp.step (rest:=rest) hrel ho (hgd.trans g1) hdo hsm (fun c hc=>(hk.own i hin c hc).2.1) hnone b k cs
     refine ⟨_,_,β1,a1,w1,q1,q2,q3,Zbx _ _ _,Zg1 hl1,fun l hl=>by rw [g4];exact hput l _ hl,fun l hl=>hput2 l _ hl,fun c hc=>?_,fun c hc=>?_,q4⟩
     ·rw [g5,Zbk hl1,Zbk hl1',Nat.zero_add,if_pos hc,if_pos hc]
     ·rw [Zbk hl1,Nat.zero_add,if_neg hc]
   obtain ⟨tm',σ',β1,a1,w1,s1,s2,s3,s4,s5,s6,s7,s8,s9,s10⟩:=step
   have hout:=ih (t / (Region.ready .any ops listed).length) (listed.setIfInBounds i true) tm' σ' β1 a1 w1 (by simp [hsz]) (by have:=Zhb hun;omega) hdown'
    (by rw [hDeq];exact InvD.step hk.down hdown i1 hin hni (fun l hl=>hordT l (.inr (by obtain ⟨o',h1,h2⟩:=hl;rw [ho] at h1;cases h1;exact h2))) s6 s7)
    (by rw [hDeq];exact InvD.step hk.down hdown i2 hin hni (fun c hc=>(hk.own i hin c hc).2.2) s8 s9)
    (by omega) (by omega)
    (fun j c hj hlj hnj=>by
     have hji:j≠i:=fun e=>by rw [e] at hlj;have:=(hset i).2 (.inr rfl);rw [this] at hlj;cases hlj
     have hlj':listed.getD j false=false:=by rw [Go.getD_set_ne false (Ne.symm hji)] at hlj;exact hlj
     obtain ⟨m1,m2,m3⟩:=hk.nam j hj c hnj
     rw [s3 c ?_ (by omega)]
     ·exact hnm j c hj hlj' hnj
     ·unfold Fp.name
      cases hn:(fpAt fs i).nm with
      | none=>simp only [Option.getD_none];omega
      | some c'=>exact fun e=>m3 i hin (Ne.symm hji) (by rw [hn,e];rfl)) s1
    (fun j hj=>by rcases (hset j).1 hj with h | rfl;exact hld j h;exact hdi) (fun j hs hj=>(hset j).2 (.inl (hsk j hs hj)))
   rw [hrest] at hout
   have hlow:Ext lo.n σ β w σ' β1 w1:=⟨s2.os,s2.tape,s2.output,s2.size,s2.cell,s2.block,s2.newM,fun c hc=>s3 c (by
    unfold Fp.name
    cases hn:(fpAt fs i).nm with
    | none=>simp only [Option.getD_none];omega
    | some c'=>have:=(hk.nam i hin c' hn).1;simp only [Option.getD_some];omega) (by omega)⟩
   exact DrawOutR.of hR hlow s10 hout
theorem Ygi {ops:Array Oper} {i j:Nat} (h:((befs [] ops.toList).getD j 0).testBit i=true):Bef ops i j:=Zjv ops.toList [] (by simp) (fun j i h=>by simp at h) _ _ h
theorem Yfu (hd:edgesDown ops=true):∀ (fuel m d t:Nat) (listed:Array Bool),ops.size=m+d→listed.size=ops.size→(∀ j,j<m→listed.getD j false=true)→(∀ j,m≤j→j<ops.size→listed.getD j false=false) →
  (∀ i j,m≤i→i<j→j<ops.size→Bef ops i j)→todoN listed≤fuel→Region.linearise.go .any ops fuel t listed []=List.range' m d:=by
 intro fuel
 induction fuel with
 | zero =>
  intro m d t listed h1 h2 h3 h4 h5 h6
  cases d with
  | zero=>rfl
  | succ d =>
   have:=Zi1 (listed:=listed) (by omega) (j:=m) (by omega)
   rw [h4 m (Nat.le_refl _) (by omega)] at this;cases this
 | succ fuel ih =>
  intro m d t listed h1 h2 h3 h4 h5 h6
  have hgt:∀ j,j<ops.size→(listed.getD j true=false↔listed.getD j false=false):=fun j hj=>by
   have:j<listed.size:=by omega
   simp [Array.getD_eq_getD_getElem?,Array.getElem?_eq_getElem this]
  have hmem:∀ j,j∈Region.ready .any ops listed→j=m∧j<ops.size:=fun j hj=>by
   obtain ⟨q1,o,q2,q3⟩:=mem_ready.1 hj
   have hjs:j<ops.size:=(Array.getElem?_eq_some_iff.1 q2).1
   have hjm:m≤j:=by
    rcases Nat.lt_or_ge j m with h | h
    ·have:=h3 j h
     rw [(hgt j hjs).1 q1] at this;cases this
    ·exact h
   refine ⟨?_,hjs⟩
   rcases Nat.lt_or_ge m j with h | h
   ·exfalso
    have hb:=h5 m j (Nat.le_refl _) h hjs
    have key:∀ i j',Bef ops i j'→j'=j→listed.getD i false=true:=by
     intro i j' hb
     induction hb with
     | @edge j1 o1 e g1 g2 g3 =>
      intro e1;subst e1
      rw [q2] at g1;cases g1
      exact q3 e g2 g3
     | @trans a b' c' g1 g2 ih1 ih2 =>
      intro e1
      have hb2:=ih2 e1
      have hlt:=g1.lt hd
      have hbs:=g1.lt_size
      rcases Nat.lt_or_ge b' m with h | h
      ·exact h3 a (by omega)
      ·rw [h4 b' h hbs] at hb2;cases hb2
    have:=key m j hb rfl
    rw [h4 m (Nat.le_refl _) (by omega)] at this;cases this
   ·omega
  simp only [Region.linearise.go]
  change (match (Region.ready .any ops listed)[t % (Region.ready .any ops listed).length]? with
   | some i=>Region.linearise.go .any ops fuel (t / (Region.ready .any ops listed).length) (listed.setIfInBounds i true) [i]
   | none=>[].reverse) = _
  cases d with
  | zero =>
   have hr:Region.ready .any ops listed=[]:=List.eq_nil_iff_forall_not_mem.2 fun j hj=>by have:=hmem j hj;omega
   rw [hr];rfl
  | succ d =>
   have hm:m∈Region.ready .any ops listed:=mem_ready.2 ⟨(hgt m (by omega)).2 (h4 m (Nat.le_refl _) (by omega)),ops[m],Array.getElem?_eq_getElem (by omega),fun e he hb=>h3 _ ((Bef.edge (Array.getElem?_eq_getElem (by omega)) he hb).lt hd)⟩
   have hlt:t % (Region.ready .any ops listed).length<(Region.ready .any ops listed).length:=Nat.mod_lt _ (List.length_pos_of_mem hm)
   rw [List.getElem?_eq_getElem hlt]
   have he:=(hmem _ (List.getElem_mem hlt)).1
   simp only []
   rw [he,linearise_go_acc,List.reverse_singleton,List.singleton_append,List.range'_succ]
   congr 1
   have hset:∀ j,(listed.setIfInBounds m true).getD j false=true↔listed.getD j false=true∨j=m:=by
    intro j
    have hms:m<listed.size:=by omega
    simp only [Array.getD_eq_getD_getElem?,Array.getElem?_setIfInBounds]
    by_cases e:m=j
    ·subst e;simp [hms]
    ·simp [e,Ne.symm e]
   refine ih (m+1) d _ _ (by omega) (by simpa using h2) (fun j hj=>(hset j).2 ?_) (fun j hj hjs=>?_) (fun i j hi hij hjs=>h5 i j (by omega) hij hjs) ?_
   ·rcases Nat.lt_or_ge j m with h | h
    ·exact .inl (h3 j h)
    ·exact .inr (by omega)
   ·rw [← Bool.not_eq_true,hset]
    rintro (h | h)
    ·rw [h4 j (by omega) hjs] at h;cases h
    ·omega
   ·have:=Zhb (i:=m) ((hgt m (by omega)).2 (h4 m (Nat.le_refl _) (by omega)))
    omega
def tailT (ops:Array Oper) (m:Nat) (T:List AVal):Nat→List AVal
 | 0=>T
 | k+1=>put (tailT ops m T k) ((ops[m+k]?).bind Oper.dst) .undef
theorem Zpa (m:Nat) (T:List AVal):∀ k,(tailT ops m T k).length=T.length
 | 0=>rfl
 | k+1=>by rw [tailT,Zbx,Zpa m T k]
theorem EvK.drawT {k:List KI} {id:Nat} {tm:List AVal} {σ:Store} (fs:List Fp) (n0 N:Nat) (hm:P.follows .mixedOrders=true) (hok:drawOk ops fs n0 N=true) (h0 : σ.length=n0) (hN:n0≤N) (m:Nat) (hmlt:m<ops.size)
  (hlast:((List.range ops.size).all fun j=>decide (j<m)||(List.range j).all fun i=>((befs [] ops.toList).getD j 0).testBit i)=true) (hwrA:((List.range ops.size).all fun j=>decide (j<m)||(fpAt fs j).wr.isEmpty)=true)
  (h:drawK P lo (fun _ st=>EvK P lo Q (.ops ops (ops.toList.drop m) :: k) .normal st) [] ops (ops.toList.take m) fs tm (padS N σ)) :
  EvK P lo Q (.code (.region id ops true) :: k) .normal ⟨tm,σ⟩:=by
 have hk:=Zk3 hok
 obtain ⟨TM,SS,e1,e2,e3,e4⟩:=Zg7 _ _ _ _ h
 have hlen:(ops.toList.take m).length=m:=by simp;omega
 rw [hlen] at e4
 have e4:EvK P lo Q (.ops ops (ops.toList.drop m) :: k) .normal ⟨TM m,SS m⟩:=e4
 have hord:∀ i j,m≤j→i<j→j<ops.size→Bef ops i j:=fun i j hmj hij hj=>by
  have:=List.all_eq_true.1 hlast j (List.mem_range.2 hj)
  rw [decide_eq_false (by omega:¬ j<m),Bool.false_or] at this
  exact Ygi (List.all_eq_true.1 this i (List.mem_range.2 hij))
 have hwr:∀ j,m≤j→j<ops.size→(fpAt fs j).wr=[]:=fun j hmj hj=>by
  have:=List.all_eq_true.1 hwrA j (List.mem_range.2 hj)
  rw [decide_eq_false (by omega:¬ j<m),Bool.false_or] at this
  exact List.isEmpty_iff.1 this
 have hlst:∀ j,j<ops.size→j≠m→Bef ops m j∨Bef ops j m:=fun j hj hne=>by
  rcases Nat.lt_or_ge j m with h | h
  ·exact .inr (hord j m (Nat.le_refl _) h hmlt)
  ·exact .inl (hord m j h (by omega) hj)
 have hT0:∀ i o,i<m→ops[i]? = some o→StepT P ops (fpAt fs i) o (TM i) (SS i) (TM (i+1)) (SS (i+1)):=fun i o him hi=>e3 i o (by rw [List.getElem?_take,if_pos him];simpa using hi)
 have hl:∀ i,i≤m→(TM i).length=(TM 0).length∧(SS i).length=N:=by
  intro i
  induction i with
  | zero=>intro _;exact ⟨rfl,by rw [e2,Zml (by omega)]⟩
  | succ i ih =>
   intro hi
   have:=(hT0 i ops[i] (by omega) (Array.getElem?_eq_getElem (by omega))).len
   have:=ih (by omega)
   omega
 let TM':Nat→List AVal:=fun i=>if i≤m then TM i else tailT ops m (TM m) (i - m)
 let SS':Nat→Store:=fun i=>if i≤m then SS i else SS m
 have tT:∀ i,i≤m→TM' i=TM i:=fun i hi=>if_pos hi
 have tS:∀ i,i≤m→SS' i=SS i:=fun i hi=>if_pos hi
 have tN:∀ i,m≤i→(hi:i<ops.size)→TM' (i+1)=put (TM' i) ops[i].dst .undef:=fun i him hi=>by
  have e1:TM' (i+1)=tailT ops m (TM m) (i - m+1):=by simp only [TM'];rw [if_neg (by omega),show i+1 - m=i - m+1 by omega]
  have e2:TM' i=tailT ops m (TM m) (i - m):=by
   by_cases h:i=m
   ·subst h;rw [tT i (Nat.le_refl _),Nat.sub_self];rfl
   ·simp only [TM'];rw [if_neg (by omega)]
  rw [e1,e2,tailT,show m+(i - m)=i by omega,Array.getElem?_eq_getElem hi];rfl
 have tSm:∀ i,m≤i→SS' i=SS m:=fun i him=>by
  by_cases h:i=m
  ·subst h;exact tS i (Nat.le_refl _)
  ·exact if_neg (by omega)
 have hST:∀ i l,i<ops.size→¬ (∃ o,ops[i]? = some o∧o.dst=some l)→(TM' (i+1)).getD l .undef=(TM' i).getD l .undef:=by
  intro i l hi hn
  have ho:ops[i]? = some ops[i]:=Array.getElem?_eq_getElem hi
  have hput:∀ v,(put (TM' i) ops[i].dst v).getD l .undef=(TM' i).getD l .undef:=by
   intro v
   cases hd:ops[i].dst with
   | none=>rfl
   | some d =>
    have hne:d≠l:=fun e=>hn ⟨ops[i],ho,by rw [hd,e]⟩
    simp only [put,List.getD,List.getElem?_set_ne hne]
  by_cases him:i<m
  ·have h1:=hT0 i ops[i] him ho
   rw [tT (i+1) (by omega)]
   rw [tT i (by omega)] at hput ⊢
   rcases h1 with ⟨_,g,_⟩ | ⟨_,r,σ1,_,_,g,_⟩<;>rw [g]<;>exact hput _
  ·rw [tN i (by omega) hi];exact hput _
 have hSS:∀ i c,i<ops.size→¬ c∈(fpAt fs i).wr→(SS' (i+1))[c]? = (SS' i)[c]?:=by
  intro i c hi hn
  have ho:ops[i]? = some ops[i]:=Array.getElem?_eq_getElem hi
  by_cases him:i<m
  ·have h1:=hT0 i ops[i] him ho
   rw [tS (i+1) (by omega),tS i (by omega)]
   rcases h1 with ⟨_,_,g⟩ | ⟨_,r,σ1,_,g2,_,g⟩
   ·rw [g]
   ·rw [g,Zbk (by rw [Zcl g2,maskF,Zb4]),Nat.zero_add,if_neg hn]
  ·rw [tSm (i+1) (by omega),tSm i (by omega)]
 intro X base mb D β a w b kk cs h1 h2 h3 _
 simp only at h1
 have hrel:Rel X base mb D ⟨TM' 0,SS' 0⟩ β a { w with drawn:=w.drawn+1 }:=by
  have:=Zqp (n:=w.drawn+1) h3
  rw [tT 0 (Nat.zero_le _),tS 0 (Nat.zero_le _),e1,e2]
  exact ⟨this.s.pad (by simp only;omega),this.n,fun j hj=>by rw [Yd8];exact this.t j hj,this.d⟩
 have hcount:=Zz4 (P:=P) (lo:=lo) (ops:=ops) (fs:=fs) (n0:=n0) (N:=N) (TM:=TM') (SS:=SS') (X:=X) (base:=base) (mb:=mb) (D:=D)
  (R:=fun σ β w mach=>mb≤w.heap.size→∃ e st' β' a' w',EvK P lo Q k e st'∧lo.n≤st'.σ.length∧Rel X base mb D st' β' a' w'∧Ext lo.n σ β w st'.σ β' w'∧Arr P mach b kk cs e a' w')
  (fun he hs f hmb=>let ⟨e,st',β',a',w',g1,g2,g3,g4,g5⟩:=f (Nat.le_trans hmb he.size);⟨e,st',β',a',w',g1,g2,g3,he.trans g4, .of_steps hs g5⟩) (z:=some m) (dd:=fun j=>m≤j∧j<ops.size) (sk:=fun _=>False)
  (fun i0 hi0=>by cases hi0;exact ⟨hmlt,Nat.le_refl _,hmlt⟩) (fun j hj=>⟨m,rfl,(Nat.eq_or_lt_of_le hj.1).imp Eq.symm fun h=>hord m j hj.1 h hj.2⟩) hk (by omega) hN
  (fun i o ho=>by
   by_cases him:i<m
   ·rw [tT i (by omega),tT (i+1) (by omega),tS i (by omega),tS (i+1) (by omega)]
    exact .inl (.inl (hT0 i o him ho))
   ·have hio:i<ops.size:=(Array.getElem?_eq_some_iff.1 ho).1
    have ho':ops[i]=o:=by rw [Array.getElem?_eq_getElem hio] at ho;exact Option.some.inj ho
    refine .inr ⟨.inl ⟨by omega,hio⟩,⟨.undef,?_⟩,?_⟩
    ·rw [tN i (by omega) hio,ho']
    ·rw [tSm (i+1) (by omega),tSm i (by omega)])
  (fun i hi=>by
   by_cases him:i≤m
   ·rw [tT i him,tT 0 (Nat.zero_le _)];exact (hl i him).1
   ·simp only [TM'];rw [if_neg him,if_pos (Nat.zero_le _),Zpa];exact (hl m (Nat.le_refl _)).1)
  (fun i hi=>by
   by_cases him:i≤m
   ·rw [tS i him];exact (hl i him).2
   ·simp only [SS'];rw [if_neg him];exact (hl m (Nat.le_refl _)).2)
  b kk cs
  (fun i o hz ho tm σ β a w rest listed hsz' i1 i2 hdown hun hpre l1 l2 hrel hrest hmb=>by
   cases hz
   have hall:∀ j,j<m→listed.getD j false=true:=fun j hj=>hpre j (hord j m (Nat.le_refl _) hj hmlt)
   obtain ⟨fuel,t,hr,hfu⟩:=hrest
   have hset:∀ j,(listed.setIfInBounds m true).getD j false=true↔listed.getD j false=true∨j=m:=by
    intro j
    have hms:m<listed.size:=by omega
    simp only [Array.getD_eq_getD_getElem?,Array.getElem?_setIfInBounds]
    by_cases e:m=j
    ·subst e;simp [hms]
    ·simp [e,Ne.symm e]
   rw [Yfu hk.down fuel (m+1) (ops.size - (m+1)) t _ (by omega) (by simpa using hsz') (fun j hj=>(hset j).2 ((Nat.lt_or_ge j m).imp (hall j) fun h=>by omega)) (fun j hj hjs=>by
    rw [← Bool.not_eq_true,hset]
    rintro (h | h)
    ·have:=hdown _ _ (hord m j (by omega) (by omega) hjs) h
     rw [hun] at this;cases this
    ·omega) (fun i j hi hij hjs=>hord i j (by omega) hij hjs) hfu] at hr
   subst hr
   have hni:¬ (listed.getD m false=true):=by rw [hun];simp
   have et:tm=TM m:=by
    apply List.ext_getElem?
    intro l
    have h1:tm.getD l .undef=(TM' m).getD l .undef:=InvD.read hk.down hST hdown i1 hmlt hni hpre (fun j hj hne _=>hlst j hj hne)
    rw [tT m (Nat.le_refl _)] at h1
    have hlm:=(hl m (Nat.le_refl _)).1
    rw [tT 0 (Nat.zero_le _)] at l1
    by_cases hlt:l<tm.length
    ·have hlt':l<(TM m).length:=by omega
     rw [List.getElem?_eq_getElem hlt,List.getElem?_eq_getElem hlt']
     simp only [List.getD,List.getElem?_eq_getElem hlt,List.getElem?_eq_getElem hlt',Option.getD_some] at h1
     rw [h1]
    ·rw [List.getElem?_eq_none (by omega),List.getElem?_eq_none (by omega)]
   have es : σ=SS m:=by
    apply List.ext_getElem?
    intro c
    have : σ[c]? = (SS' m)[c]?:=InvD.read hk.down hSS hdown i2 hmlt hni hpre (fun j hj hne _=>hlst j hj hne)
    rw [this,tS m (Nat.le_refl _)]
   subst et es
   have hsuf:Suf ops (ops.toList.drop m):=⟨by simp,fun j=>by simp;try (congr 1;omega)⟩
   have hR:=e4 hsuf
   have hdl:(ops.toList.drop m).length=ops.size - m:=by simp
   rw [hdl,show ops.size - (ops.size - m)=m by omega,show ops.size - m=(ops.size - (m+1))+1 by omega,List.range'_succ] at hR
   obtain ⟨e,st',β',a',w',q,r1,r2,r3,rd,r4⟩:=hR X base mb D β a w b kk cs (by have:=(hl m (Nat.le_refl _)).2;simp only;omega) hmb hrel
   refine ⟨e,st',β',a',w',q,r1,r2,r3,?_⟩
   rw [List.append_nil] at r4
   have r4:Arr P (lone (b.atR a (.inRegion ops (m :: List.range' (m+1) (ops.size - (m+1))) :: kk)) cs w) b (.inRegion ops [] :: kk) cs e a' w':=r4
   cases e with
   | normal=>exact Steps.trans r4 (.one stepR_region_end)
   | exit id=>obtain ⟨k',e1,e2⟩:=r4;exact ⟨k',by rw [e1];rfl,e2⟩
   | goto l=>obtain ⟨k',e1,e2⟩:=r4;exact ⟨k',by rw [e1];rfl,e2⟩
   | ret=>exact r4
   | panic u=>exact r4)
  ops.size (w.tape w.drawn (.order b.fn id)) (Array.replicate ops.size false) (TM' 0) (SS' 0) β a { w with drawn:=w.drawn+1 } (by simp) (by simp [todoN])
  (fun i j _ hj=>by simp [Array.getD_eq_getD_getElem?,Array.getElem?_replicate] at hj;split at hj<;>simp at hj)
  (by
   have:(fun j=>(Array.replicate ops.size false).getD j false=true)=fun _=>False:=funext fun j=>by simp [Array.getD_eq_getD_getElem?,Array.getElem?_replicate];split<;>simp
   rw [this];exact InvD.init)
  (by
   have:(fun j=>(Array.replicate ops.size false).getD j false=true)=fun _=>False:=funext fun j=>by simp [Array.getD_eq_getD_getElem?,Array.getElem?_replicate];split<;>simp
   rw [this];exact InvD.init)
  rfl (by rw [tS 0 (Nat.zero_le _)];exact (hl 0 (Nat.zero_le _)).2) (fun i c hi _ hc=>h3.s.dom c (by simp only;have:=(hk.nam i hi c hc).1;omega)) hrel
  (fun j hj=>by simp [Array.getD_eq_getD_getElem?,Array.getElem?_replicate] at hj;split at hj<;>simp at hj) (fun j h=>h.elim)
 rcases hcount with ⟨hz,_⟩ | ⟨_,hcount⟩
 ·cases hz
 ·obtain ⟨e,st',β',a',w',g1,g2,g3,g4,g5⟩:=hcount h2
  rw [tS 0 (Nat.zero_le _),e2] at g4
  refine ⟨e,st',β',a',w',g1,g2,g3,?_, .of_steps (.one stepR_region_draw) ?_⟩
  ·exact ⟨g4.os,g4.tape,g4.output,g4.size,fun g o v hc hn=>g4.cell g o v hc fun hm=>hn (Zgh.1 hm),fun g hg hn=>g4.block g hg fun o hm=>hn o (Zgh.1 hm),fun g o hm=>(g4.newM g o hm).imp Zgh.1 (fun h=>h),g4.env⟩
  ·have hs:Region.schedule (P.follows .mixedOrders) ops (w.tape w.drawn (.order b.fn id))=Region.linearise.go .any ops ops.size (w.tape w.drawn (.order b.fn id)) (Array.replicate ops.size false) []:=by
    simp only [Region.schedule,hm,Bool.true_or,if_true];rfl
   rw [hs];exact g5
theorem EvK.drawL {k:List KI} {id:Nat} {tm:List AVal} {σ:Store} (fs:List Fp) (n0 N:Nat) (hm:P.follows .mixedOrders=true) (hok:drawOk ops fs n0 N=true) (h0 : σ.length=n0) (hN:n0≤N) (m:Nat) (hsz:ops.size=m+1)
  (hlast:((List.range m).all fun j=>((befs [] ops.toList).getD m 0).testBit j)=true) (hwr:(fpAt fs m).wr=[])
  (h:drawK P lo (fun _ st=>EvK P lo Q (.ops ops (ops.toList.drop m) :: k) .normal st) [] ops (ops.toList.take m) fs tm (padS N σ)) :
  EvK P lo Q (.code (.region id ops true) :: k) .normal ⟨tm,σ⟩:=by
 refine EvK.drawT fs n0 N hm hok h0 hN m (by omega) (List.all_eq_true.2 fun j hj=>?_) (List.all_eq_true.2 fun j hj=>?_) h
 ·have:=List.mem_range.1 hj
  rw [Bool.or_eq_true,decide_eq_true_eq]
  rcases Nat.lt_or_ge j m with h | h
  ·exact .inl h
  ·obtain rfl:j=m:=by omega
   exact .inr hlast
 ·have:=List.mem_range.1 hj
  rw [Bool.or_eq_true,decide_eq_true_eq]
  rcases Nat.lt_or_ge j m with h | h
  ·exact .inl h
  ·obtain rfl:j=m:=by omega
   exact .inr (by rw [hwr];rfl)
end
section
variable {P:Program} {lo:Ctx} {Q:AExit→St→Prop} {k:List KI} {ops:Array Oper} {l:List Oper} {fs:List Fp} {tm:List AVal} {σ m:Store}
theorem Zel {d:Option Tmp} {g:FuncId} {first captured args args':List AVal} {r:AVal} {wr:List Nat} (bs:List Nat) (hc:CallEq P g args' r) (hp:pTL (among bs) m args' (first++args++captured)) (hl:lowL 0 args')
  (hs:sameO wr 0 (if flatR r then m else frzI (among bs) 0 m) m)
  (h:drawK P lo Q k ops l fs (put tm d r) (mergeW wr 0 (if flatR r then m else frzI (among bs) 0 m) σ)):drawC P lo Q k ops wr d l fs tm σ m (.fn g first captured) args :=
 ⟨r,_,VCall.isoT bs hc hp hl ⟨rfl,rfl⟩,hs,h⟩
end
theorem VCall.embedA {P:Program} {F:Frame→List Frame→Sem Next→World→Value→World→Prop} {f f':AVal} {args:List AVal} {K K':AVal→Store→Prop} {Z σ:Store} (ι:Nat→Nat) (hι:∀ b b',b<Z.length→b'<Z.length→ι b = ι b'→b=b') (hb:∀ b,b<Z.length→ι b < σ.length)
  (hσ:∀ b,b<Z.length→∃ o,Z[b]? = some o∧σ[ι b]? = some (o.map (renB ι))) (hf:f.low Z.length) (hf':ren ι f=f') (ha:lowL 0 args) (hs:lowSo Z.length Z)
  (h:VCallG P F f args Z K') (hk:∀ r Z',K' r Z'→Z.length≤Z'.length∧lowSo Z'.length Z'∧r.low Z'.length∧K (ren (emb ι Z.length σ.length) r) (embS ι Z.length Z' σ)):VCallG P F f' args σ K:=by
 have:=VCall.embed (K:=K) ι hι hb hσ hf (Zac (Nat.zero_le _) ha) hs (h.mono hk)
 rwa [hf',Za2 ha] at this
theorem VCall.asT {P:Program} {F:Frame→List Frame→Sem Next→World→Value→World→Prop} {f:AVal} {args args':List AVal} {K:AVal→Store→Prop} {σ:Store} (hp:pTL (among []) σ args' args) (h:VCallG P F f args' σ K):VCallG P F f args σ K:=by
 intro X base β w vf vs h1 h1' h2 h3 fr cs h4
 have hf':=Zen (among []) σ
 rw [Zah] at hf'
 obtain ⟨e1,e2⟩:=Zbr h1 hf' args' hp
 exact h X base β w vf vs h1 h1' (by omega) (fun k hk=>(e2 k hk).1 _ (h3 k (by omega))) fr cs h4
theorem VCall.sortNil {P : Program} {g : FuncId} {fn : Func} {c : Code} {σ : Store} (hf : P.funcs[g]? = some fn) (hb : fn.body = some c) (hname : (fn.name == "runtime.NumGoroutine") = false)
  (h0:∀ (a:Option Addr) (cap:Nat) (w:World),Calls P g #[.slice a 0 cap] w fun e w'=>e = .returned (.tuple #[])∧w'=w)
  {K:AVal→Store→Prop} (hK:K (.tup []) σ):VCall P (.fn g [] []) [.nils] σ K:=by
 refine VCall.sh ?_
 intro X base β w vs h1 h2 h3 fr cs hfr
 have hname' : ¬ fn.name = "runtime.NumGoroutine" := by simpa using hname
 obtain ⟨x,rfl⟩:∃ x,vs = #[x]:=by
  simp at h2
  exact Array.size_eq_one_iff.1 h2
 have h3':=h3 0 (by simp)
 simp only [List.nil_append,List.append_nil,List.getD_cons_zero] at h3'
 have hx:(#[x]:Array Value).getD 0 undef=x:=rfl
 rw [hx] at h3'
 have htup:∀ (w':World) (M':Nat→Nat→Prop),Rep w' M' β (.tuple #[]) (.tup []):=fun w' M'=>.tup rfl fun k hk=>by simp at hk
 have hcall:∀ us,(callFunc g us).run P w = .ok (.enter g us) w:=fun us=>by simp [callFunc,hf,hname',hb]
 obtain ⟨a0,rfl⟩:∃ a0,x = .slice a0 0 0:=by
  cases h3' with
  | nils a=>exact ⟨a,rfl⟩
 obtain ⟨e,w',fr',⟨rfl,rfl⟩,hc,hfn,hl⟩:=h0 a0 0 w (fr :: cs)
 refine ⟨_,σ,β, .tuple #[],w',hK,h1,htup _ _,Ext.refl _ _ _ _,Nat.le_refl _,Frame.enter P g _ .normal,fr :: cs,w',?_,Steps.trans hc (.one (step_leave_returned hl))⟩
 simp only [stepG.apply,if_true,Sem.runT_eq,hcall,GStep.bare_after,GStep.bare_go]
 split
 ·rename_i d s a k e;exact absurd e (hfr _ _ _ _ _)
 ·rfl
end Go.Abs
namespace Go.Proofs
open Go Go.Abs
attribute [local go_sem] Nat.reduceAdd Nat.reduceSub Nat.reduceMul Nat.reduceLeDiff Nat.reduceEqDiff Nat.reduceBEq Nat.reduceLT Nat.le_refl Int.natCast_zero Nat.sub_zero List.length_map Int.toNat_natCast Int.natCast_one Int.reduceEq Int.reduceLT Int.reduceLE Int.reduceNe Int.sub_zero Int.zero_add Int.toNat_one
theorem Zz1 (p more:List Int) (hp:p.length≤1000000) (hm:more.length≤1000000):CallEq Tryz.prog 118 [.ps 1 (ints p), .ps 1 (ints more)] (.ps 1 (ints (p++more))):=by
 refine CallEq.begin (rs:=[.tmp 4]) (m:=7) 1000 Tryz.func118 rfl rfl rfl (by decide) (by simp [go_sem,Za4]) ?_
 have hm0:(ints more).length=more.length:=Zad more
 have hp0:(ints p).length=p.length:=Zad p
 have hm1:List.take more.length (ints more)=ints more:=List.take_of_length_le (by omega)
 have hp1:List.take p.length (ints p)=ints p:=List.take_of_length_le (by omega)
 have hap:ints (p++more)=ints p++ints more:=by simp [ints]
 have hw:∀ σ:Store,pTL (fun _=>true) σ (ints p++ints more) (ints p++ints more):=fun σ=>Za1 _ _ _
 by_cases h:p=[]
 ·subst h
  simp only [go_sem]
  refine (CallSh.v Zq5).mono ?_
  rintro r σ' (⟨rfl,rfl⟩ | ⟨rfl,rfl⟩)
  ·refine EvK.go 1000 ?_
   by_cases h2:more.length=0
   ·obtain rfl:=List.length_eq_zero_iff.1 h2
    simp only [go_sem,Zcy,List.length_nil]
    exact Zcy ▸ of_eq_true (Yn7 [])
   ·simp only [go_sem,hm0,h2,(by omega:more.length≤6000000000000),hm1]
  ·refine EvK.go 1000 ?_
   simp only [go_sem,hm0,hm1]
   omega
 ·simp only [go_sem]
  refine (CallSh.v (Zs3 p h (by omega)).1).mono ?_
  rintro r σ' ⟨rfl,rfl⟩
  refine EvK.go 1000 ?_
  simp only [go_sem,hm0,hp0,hp1]
  refine ⟨by omega,by rw [List.length_append];omega,?_⟩
  rw [List.take_of_length_le (by rw [List.length_append];omega),hap]
  exact Za1 _ _ _
def pps (L:List (List Int)):List AVal:=L.map fun p=>.ps 1 (ints p)
theorem Zi7 (L:List (List Int)):(pps L).length=L.length:=by simp [pps]
@[go_sem] theorem Zcu {n:Nat} (L:List (List Int)):lowL n (pps L)=True:=eq_true (Zby fun p _=>Za4 p)
theorem Zz7 (L M:List (List Int)):pps (L++M)=pps L++pps M:=by simp [pps]
@[go_sem] theorem Ynt (L:List (List Int)):appOk ⟨1,false,24,[.nils], .slice⟩ (pps L)=True:=eq_true (by
 refine ⟨fun x hx=>?_,by decide,by decide,rfl⟩
 obtain ⟨t,_,rfl⟩:=List.mem_map.1 hx
 exact ⟨rfl,rfl⟩)
mutual
def Tm.spots:Tm→List Int→List (List Int)
 | .mk _ ts,p=>p :: Tm.spotsL ts p 0
def Tm.spotsL:List Tm→List Int→Nat→List (List Int)
 | [],_,_=>[]
 | t :: ts,p,i=>t.spots (p++[(i:Int)])++Tm.spotsL ts p (i+1)
end
mutual
theorem Zc8:∀ (t:Tm) (p:List Int),(t.spots p).length=t.size
 | .mk _ ts,p=>by simp only [Tm.spots,Tm.size,List.length_cons,Zm0 ts p 0];omega
theorem Zm0:∀ (ts:List Tm) (p:List Int) (i:Nat),(Tm.spotsL ts p i).length=Tm.sizes ts
 | [],_,_=>rfl
 | t :: ts,p,i=>by simp only [Tm.spotsL,Tm.sizes,List.length_append,Zc8 t,Zm0 ts]
end
@[go_sem] theorem Ysw {π:Nat→Nat} {L:List (List Int)}:Option.map (renB π) (slB (pps L))=slB (pps L):=by
 cases h:pps L with
 | nil=>rfl
 | cons x l =>
  have hl:lowL 0 (pps L):=of_eq_true (Zcu L)
  rw [Zg0,Option.map_some,Zdv,← h,Za2 hl]
def allZ (L:List (List Int)):Store:=[some (.var [slA 2 1 (pps L)]),some (.var [.fn 117 [] [.ptr 0 0, .ptr 1 0]]),slB (pps L)]
def allR (L:List (List Int)):Store:=[some (.var [slA 3 1 (pps L)]),some (.var [.fn 117 [] [.ptr 0 0, .ptr 1 0]]),none,slB (pps L)]
theorem Zxz:∀ (n:Nat) (t:Tm) (p:List Int) (L:List (List Int)),t.size≤n→p.length+t.size≤1000000→L.length+t.size≤1000000 →
  VCall Tryz.prog (.fn 117 [] [.ptr 0 0, .ptr 1 0]) [t.toA, .ps 1 (ints p)] (allZ L) (fun r σ'=>r = .tup []∧σ'=allR (L++t.spots p))
 | 0,t,p,L,h,_,_=>by have:=Zay t;omega
 | n+1,t,p,L,hn,hp,hL=>by
  unfold allZ
  refine VCall.begin (rs:=[]) (m:=25) 1000 Tryz.func117 rfl rfl rfl rfl rfl ?_
  simp only [go_sem,Za6]
  refine EvK.draw [⟨none,[],[4]⟩, .no, .no,⟨some 4,[4],[]⟩,⟨some 5,[2,5],[]⟩,⟨none,[0],[]⟩] 4 6 mixed rfl rfl (by decide) ?_
  simp only [go_sem,padS]
  refine Zar (Zz1 p [] (by omega) (by simp)) ?_ (by simp [go_sem,Za4]) ?_
  ·simp only [go_sem,Zcy]
  have h2:getS (allZ L++[some (.var [.int .i64 t.head, .ps 2 (List.map Tm.toA t.args)]),some (.row [.ps 1 (ints (p++[]))] 0),none]) 2=slB (pps L):=by simp [allZ,getS]
  have ho1:=of_eq_true (Ynt [p++[]])
  rw [show pps [p++[]]=[.ps 1 (ints (p++[]))] from rfl] at ho1
  have htr:List.take 1 [AVal.ps 1 (ints (p++[]))]=[.ps 1 (ints (p++[]))]:=rfl
  simp only [allZ,List.cons_append,List.nil_append] at h2
  simp only [go_sem,Ze3 h2,ho1,Zi7,htr]
  refine ⟨by omega,?_⟩
  refine EvK.go 1000 ?_
  simp only [go_sem,List.append_nil]
  have hsz:=Zay t
  have hst:t.spots p=p :: Tm.spotsL t.args p 0:=by cases t;rfl
  have hal:=Zaj t.args
  refine EvK.loopR (ι:={q:Nat×List (List Int) // q.1≤t.args.length∧q.2≠[]∧q.2++Tm.spotsL (t.args.drop q.1) p q.1=L++t.spots p∧q.2.length+Tm.sizes (t.args.drop q.1)≤1000000}) 1000
   (fun q=>mkT 29 [(1, .ps 1 (ints p)),(3, .ptr 1 0),(14, .ps 2 (t.args.map Tm.toA)),(15, .int .i64 t.args.length),(16, .int .i64 q.1.1)]) (fun q=>allR q.1.2) (fun q=>t.args.length - q.1.1)
   ⟨(0,L++[p]),by simp only [List.drop_zero,hst];refine ⟨by omega,by simp,by simp,by simp;omega⟩⟩ [(3,5),(5,3)] ?_ (fun _=>by simp [allR]) ?_
  ·refine Zb0 rfl ?_
   unfold allR
   rw [Zz7,Ze4 (by simp [pps]),Zdz (by simp [pps])]
   simp only [go_sem,Za0,Za2 (Za0 _),Zi7,Za4,Za2 (Za4 _)]
   have lw:lowL 0 (pps (L++[p])):=of_eq_true (Zcu _)
   rw [Zz7] at lw
   rw [Za2 lw]
   exact ⟨rfl,Zac (by omega) lw⟩
  ·rintro ⟨⟨i,M⟩,hi,hM,hpre,hlen⟩
   simp only at hi hM hpre hlen
   have hMn:pps M≠[]:=by simp [pps,hM]
   by_cases hlt:(i:Int)<t.args.length
   ·have hlt':i<t.args.length:=by omega
    have hw:IntKind.i64.wrap ((i:Int)+1)=((i+1:Nat):Int):=by rw [Zab (by omega)];omega
    have hg:(t.args.map Tm.toA).getD i .undef=t.args[i].toA:=by simp [List.getD,hlt']
    obtain ⟨x,hx⟩:∃ x,t.args[i]=x:=⟨_,rfl⟩
    have hdr:t.args.drop i=x :: t.args.drop (i+1):=by rw [List.drop_eq_getElem_cons hlt',hx]
    rw [hdr,Tm.spotsL] at hpre
    rw [hdr,Tm.sizes] at hlen
    rw [hx] at hg
    unfold allR
    simp only [go_sem,hlt,hg,List.length_map,Za8]
    refine ⟨by omega,?_⟩
    refine EvK.drawL [⟨none,[],[5]⟩,⟨none,[],[5]⟩,⟨none,[],[5]⟩, .no,⟨some 5,[5],[]⟩,⟨none,[5],[]⟩] 5 6 mixed (by decide) rfl (by decide) 6 rfl (by decide) rfl ?_
    simp only [go_sem,padS]
    have hflat:flatR (.ps 1 (ints (p++[(i:Int)])))=false:=by
     cases h:ints (p++[(i:Int)]) with
     | nil=>simp [ints] at h
     | cons a l=>rfl
    refine Zel [5] (Zz1 p [(i:Int)] (by omega) (by simp)) ?_ (by simp [go_sem,Za4]) (by simp [hflat,frzI,frzO,among,sameO]) ?_
    ·simp only [go_sem,ints,List.map_cons,List.map_nil]
    simp only [hflat,Bool.false_eq_true,if_false,frzI,frzO,among,List.any_cons,List.any_nil,Bool.or_false,Nat.reduceAdd,Nat.reduceBEq,if_true,List.length_cons,List.length_nil,Nat.zero_max]
    simp only [go_sem]
    refine EvK.go 1000 ?_
    simp only [go_sem]
    refine EvK.go 1000 ?_
    simp only [go_sem]
    rw [← Za6 x]
    have hxsz:x.size+Tm.sizes (t.args.drop (i+1))≤Tm.sizes t.args:=by
     have:=Zch (t.args.take i) (t.args.drop i)
     rw [List.take_append_drop,hdr,Tm.sizes] at this;omega
    have hxs:x.size≤n:=by omega
    have hI:∀ b,b<3→b=0∨b=1∨b=2:=fun b hb=>by omega
    refine VCall.embedA (Z:=allZ M) (f:=.fn 117 [] [.ptr 0 0, .ptr 1 0]) (fun b=>if b=2 then 3 else b) (fun b b' h1 h2 e=>?_) (fun b hb=>?_) (fun b hb=>?_) (by simp [allZ,go_sem]) rfl (by simp [go_sem,Za7,Za4]) (by simp [allZ,go_sem])
     (Zxz n x (p++[(i:Int)]) M hxs (by simp only [List.length_append,List.length_cons,List.length_nil];omega) (by omega)) ?_
    ·rcases hI b h1 with rfl | rfl | rfl<;>rcases hI b' h2 with rfl | rfl | rfl<;>first | rfl | exact absurd e (by decide)
    ·rcases hI b hb with rfl | rfl | rfl<;>simp
    ·rcases hI b hb with rfl | rfl | rfl
     ·exact ⟨_,rfl,by simp [go_sem]⟩
     ·exact ⟨_,rfl,rfl⟩
     ·exact ⟨_,rfl,by simp [go_sem]⟩
    ·rintro r Z' ⟨rfl,rfl⟩
     refine ⟨by simp [allZ,allR],by simp [allR,go_sem],by simp [go_sem],?_⟩
     simp only [go_sem,allZ,allR,embS,setAll,emb,List.map_cons,List.map_nil]
     refine EvK.go 1000 ?_
     simp only [go_sem]
     refine ⟨⟨(i+1,M++x.spots (p++[(i:Int)])),by simp only;omega,by simp [hM],by rw [← hpre,List.append_assoc],by simp only [List.length_append,Zc8];omega⟩,[(3,6),(6,3)],Zb0 rfl ?_,by simp only;omega⟩
     simp only [go_sem,hw,Za0,Za2 (Za0 _),Za4,Za2 (Za4 _)]
     trace_state
   ·have hi':i=t.args.length:=by omega
    subst hi'
    rw [List.drop_length,Tm.spotsL,List.append_nil] at hpre
    unfold allR
    simp only [go_sem,hlt]
    refine EvK.go 1000 ?_
    simp only [go_sem]
    rw [Zax,← hpre]
    exact ⟨_,Za9 _,by simp,by simp [go_sem],by simp [go_sem],rfl,rfl⟩
theorem Yie (t:Tm) (h:t.size≤1000000):CallEq Tryz.prog 82 [t.toA] (.ps 1 (pps (t.spots []))):=by
 refine CallEq.beginK (rs:=[.tmp 2]) (m:=9) Tryz.func82 rfl rfl rfl (by decide) (of_eq_true (Zcu _)) ?_
 refine EvK.pad 1 (Nat.le_refl _) (by simp [go_sem,Za7]) trivial ?_
 refine EvK.go 1000 ?_
 simp only [go_sem,Za6,List.nil_append,List.replicate_one]
 refine VCall.asT (args':=[t.toA, .ps 1 (ints [])]) ?_ ?_
 ·rw [Za6]
  simp only [go_sem,Zcy]
 have hI:∀ b,b<3→b=0∨b=1∨b=2:=fun b hb=>by omega
 refine VCall.embedA (Z:=allZ []) (f:=.fn 117 [] [.ptr 0 0, .ptr 1 0]) (fun b=>if b=2 then 0 else b+2) (fun b b' h1 h2 e=>?_) (fun b hb=>?_) (fun b hb=>?_) (by simp [allZ,go_sem]) rfl (by simp [go_sem,Za7,Za4]) (by simp [allZ,go_sem])
  (Zxz _ t [] [] (Nat.le_refl _) (by simpa using h) (by simpa using h)) ?_
 ·rcases hI b h1 with rfl | rfl | rfl<;>rcases hI b' h2 with rfl | rfl | rfl<;>first | rfl | exact absurd e (by decide)
 ·rcases hI b hb with rfl | rfl | rfl<;>simp
 ·rcases hI b hb with rfl | rfl | rfl<;>exact ⟨_,rfl,rfl⟩
 rintro r Z' ⟨rfl,rfl⟩
 refine ⟨by simp [allZ,allR],by simp [allR,go_sem],by simp [go_sem],?_⟩
 simp only [go_sem,allZ,allR,embS,setAll,emb,List.map_cons,List.map_nil]
 refine EvK.go 1000 ?_
 simp only [go_sem]
 have hne:pps (t.spots [])≠[]:=by cases t;simp [pps,Tm.spots]
 rw [Zkh hne,Zij hne]
 simp only [go_sem]
 rw [List.take_of_length_le (Nat.le_refl _)]
 exact Za1 _ _ _
def Tm.atP:Tm→List Int→Option Tm
 | t,[]=>some t
 | t,n :: p=>if n<0 then none else if h:n.toNat<t.args.length then (t.args[n.toNat]).atP p else none
def zeroT:Tm:=.mk 0 []
theorem Yb7 (t:Tm) (p:List Int) (hp:p.length≤1000000) (ht:t.size≤1000000000):CallEq Tryz.prog 83 [t.toA, .ps 1 (ints p)] (.tup [((t.atP p).getD zeroT).toA, .bool (t.atP p).isSome]):=by
 refine CallEq.begin (rs:=[.cell 4 48, .tmp 5]) (m:=29) 1000 Tryz.func83 rfl rfl rfl (by decide) (by simp [go_sem,Za7]) ?_
 simp only [go_sem,Za8,Zad]
 refine EvK.loopI (ι:={q:Nat×Tm // q.1≤p.length∧q.2.atP (p.drop q.1)=t.atP p∧q.2.size≤t.size}) 1000 (fun q=>mkT 31 [(2, .ptr 0 0),(4, .ptr 1 0),(5, .bool false),(8, .ps 1 (ints p)),(9, .int .i64 p.length),(10, .int .i64 q.1.1)])
  (fun q=>[some (.var [.int .i64 q.1.2.head, .ps 2 (q.1.2.args.map Tm.toA)]),some (.var [.int .i64 0, .nils])]) (fun q=>p.length - q.1.1) ⟨(0,t),by simp⟩ ?_ (fun _=>Nat.zero_le _) ?_
 ·simp only [go_sem,Za0,Za4]
 ·rintro ⟨⟨i,u⟩,hi,hat,hus⟩
  simp only at hi hat hus
  have hal:=Zaj u.args
  have hsu:=Zay u
  by_cases hlt:(i:Int)<p.length
  ·have hlt':i<p.length:=by omega
   have hw:IntKind.i64.wrap ((i:Int)+1)=((i+1:Nat):Int):=by rw [Zab (by omega)];omega
   rw [List.drop_eq_getElem_cons hlt',Tm.atP] at hat
   obtain ⟨n,hn⟩:∃ n,p[i]=n:=⟨_,rfl⟩
   have hg:=Zbe hlt'
   rw [hn] at hat hg
   by_cases h0:n<0
   ·rw [if_pos h0] at hat
    simp only [go_sem,hlt,hg,Zad,h0]
    refine ⟨by omega,?_⟩
    refine EvK.go 1000 ?_
    simp only [go_sem,← hat,Option.getD_none,Option.isSome_none,Za6,zeroT,Tm.head,Tm.args,List.map_nil]
   ·rw [if_neg h0] at hat
    by_cases h1:n.toNat<u.args.length
    ·rw [dif_pos h1] at hat
     have h2:¬ (u.args.length:Int)≤n:=by omega
     have hgc:(u.args.map Tm.toA).getD n.toNat .undef=(u.args[n.toNat]).toA:=Zaq h1
     simp only [go_sem,hlt,hg,Zad,h0,h2,hw,hgc,Za8]
     refine ⟨by omega,⟨by omega,by omega⟩,⟨(i+1,u.args[n.toNat]),by simp only;omega,hat,?_⟩,?_⟩
     ·have a1:=Zcq u.args n.toNat h1
      have a2:=Zbw u.args (n.toNat+1)
      simp only;omega
     ·refine ⟨⟨rfl,rfl,Za4 _,Za0 _⟩,by simp only;omega⟩
    ·rw [dif_neg h1] at hat
     have h2:(u.args.length:Int)≤n:=by omega
     simp only [go_sem,hlt,hg,Zad,h0,h2]
     refine ⟨by omega,?_⟩
     refine EvK.go 1000 ?_
     simp only [go_sem,← hat,Option.getD_none,Option.isSome_none,Za6,zeroT,Tm.head,Tm.args,List.map_nil]
  ·have hi':i=p.length:=by omega
   subst hi'
   rw [List.drop_length,Tm.atP] at hat
   simp only [go_sem,hlt]
   refine EvK.go 1000 ?_
   simp only [go_sem,← hat]
   rw [Za6]
   exact Za1 _ _ _
def Tm.putP:Tm→List Int→Tm→Tm
 | _,[],u=>u
 | t,n :: p,u=>.mk t.head (t.args.set n.toNat ((t.args.getD n.toNat zeroT).putP p u))
theorem Zqr:zeroT.head=0:=rfl
theorem Zt5:zeroT.args=[]:=rfl
theorem Zcz {σ τ:Store} {b:Nat} (h:b < σ.length):getS (σ++τ) b=getS σ b:=by simp only [getS,List.getElem?_append_left h]
theorem Zbm {σ:Store} {b c:Nat} {x:Option Blk} (h:c≠b):getS (σ.set c x) b=getS σ b:=by simp only [getS,List.getElem?_set_ne h]
theorem Zd1 {σ:Store} {b:Nat} {x:Option Blk} (h:b < σ.length):getS (σ.set b x) b=x:=by simp [getS,h]
theorem Zhy {σ:Store} {b:Nat} {x:Blk} (h:b < σ.length):setS σ b x = σ.set b (some x):=if_pos h
theorem Zea {n:Nat} {x:Option Blk} (hx:lowO n x):∀ {σ:Store} (b:Nat),lowSo n σ→lowSo n (σ.set b x)
 | [],_,_=>trivial
 | a :: σ,0,h=>⟨hx,h.2⟩
 | a :: σ,b+1,h=>⟨h.1,Zea hx b h.2⟩
theorem Yan {S:Store} {w':Tm} {x:AVal} (hx:pT (fun _=>true) S w'.toA x):∀ (l:List Tm) (j:Nat),pTL (fun _=>true) S ((l.set j w').map Tm.toA) ((l.map Tm.toA).set j x)
 | [],_=>by simp [pTL]
 | a :: l,0=>by
  simp only [List.set_cons_zero,List.map_cons,Zmc]
  exact ⟨hx,Za1 _ _ _⟩
 | a :: l,j+1=>by
  simp only [List.set_cons_succ,List.map_cons,Zmc]
  exact ⟨Zdx _ _ _,Yan hx l j⟩
theorem Zut {S:Store} {w':Tm} {x:AVal} (hx:pT (fun _=>true) S w'.toA x) (h:Int) (l:List Tm) (j b:Nat) (hg:getS S b=some (.row ((l.map Tm.toA).set j x) 0)) :
  pT (fun _=>true) S (Tm.mk h (l.set j w')).toA (.agg [.int .i64 h, .os b 0 l.length 2]):=by
 rw [Za6]
 simp only [go_sem,Tm.head,Tm.args,hg,List.length_set]
 rw [List.take_of_length_le (by simp)]
 exact Yan hx l j
theorem Zpq {n:Nat} {x:AVal}:∀ {l:List AVal},lowL n l→x.low n→∀ i,lowL n (l.set i x)
 | [],_,_,_=>trivial
 | a :: l,h,hx,0=>⟨hx,h.2⟩
 | a :: l,h,hx,i+1=>⟨h.1,Zpq h.2 hx i⟩
structure PutSt where
 k:Nat
 w:Tm
 a:AVal
 σ:Store
def PutInv (t:Tm) (p:List Int) (u:Tm) (q:PutSt):Prop :=
 q.k≤p.length∧(q.w.atP (p.drop q.k)).isSome=true∧q.w.size≤t.size∧5≤q.σ.length∧lowSo q.σ.length q.σ∧q.a.low q.σ.length∧getS q.σ 1=some (.var [.int .i64 u.head, .ps 2 (u.args.map Tm.toA)])∧getS q.σ 2=some (.var [.int .i64 0, .nils]) ∧
 ((q.k=0∧q.a = .ptr 4 0∧q.w=t∧getS q.σ 4=some (.var [.int .i64 t.head, .ps 2 (t.args.map Tm.toA)])) ∨
  ∃ (c i:Nat) (es:List AVal) (c0 c1:AVal) (F:Tm→Tm),q.a = .rp c i 0∧5≤c∧c<q.σ.length∧getS q.σ c=some (.row es 0)∧i<es.length∧es.getD i .undef=q.w.toA∧getS q.σ 4=some (.var [c0,c1])∧c0.isCell=true∧c1.isCell=true ∧
   F (q.w.putP (p.drop q.k) u)=t.putP p u ∧
   ∀ (S:Store) (w':Tm) (x:AVal),(∀ b,5≤b→b<q.σ.length→b≠c→getS S b=getS q.σ b)→getS S c=some (.row (es.set i x) 0)→pT (fun _=>true) S w'.toA x→pT (fun _=>true) S (F w').toA (.agg [c0,c1]))
theorem Yk8 (t:Tm) (p:List Int) (u v:Tm) (hp:p.length≤1000000) (ht:t.size≤1000000) (h:t.atP p=some v):CallEq Tryz.prog 88 [t.toA, .ps 1 (ints p),u.toA] (.tup [(t.putP p u).toA, .int .i64 0]):=by
 refine CallEq.begin (rs:=[.cell 6 48, .tmp 7]) (m:=46) 1000 Tryz.func88 rfl rfl rfl (by decide) (by simp [go_sem,Za7]) ?_
 simp only [go_sem,Za8]
 refine VCall.isoT [] (Yb7 t p hp (by omega)) (by (try simp only [Za6]);exact Za1 _ _ _) (by simp [go_sem,Za7,Za0,Za4]) ?_;rw [Zah];simp only [ite_self];refine EvK.go 1000 ?_
 rw [h]
 simp only [go_sem,Option.getD_some,Option.isSome_some,Za6,Zad]
 refine EvK.loopI (ι:={q:PutSt // PutInv t p u q}) 1000 (fun q=>mkT 49 [(5, .ptr 1 0),(6, .ptr 2 0),(7, .int .i64 0),(10, .ptr 4 0),(11,q.1.a),(24, .ps 1 (ints p)),(25, .int .i64 p.length),(26, .int .i64 q.1.k)])
  (fun q=>q.1.σ) (fun q=>p.length - q.1.k) ⟨⟨0,t, .ptr 4 0,[none,some (.var [.int .i64 u.head, .ps 2 (u.args.map Tm.toA)]),some (.var [.int .i64 0, .nils]),none,some (.var [.int .i64 t.head, .ps 2 (t.args.map Tm.toA)])]⟩,?_⟩ ?_ (fun _=>Nat.zero_le _) ?_
 ·refine ⟨Nat.zero_le _,by simp [h],Nat.le_refl _,by simp,by simp [go_sem,Za0],by simp [go_sem],rfl,rfl, .inl ⟨rfl,rfl,rfl,rfl⟩⟩
 ·simp only [go_sem,Za4,Za0]
 ·rintro ⟨⟨k,w,a,σ⟩,hk,hat,hsz,hsl,hlo,hla,hg1,hg2,hq⟩
  simp only at hk hat hsz hsl hlo hla hg1 hg2 hq
  have hal:=Zaj w.args
  have hagg:isAggA w.toA=true:=by rw [Za6];rfl
  have mk_true:∀ cs,mkElem true cs = .agg cs:=fun _=>rfl
  have hsw:=Zay w
  by_cases hlt:(k:Int)<p.length
  ·have hlt':k<p.length:=by omega
   have hw:IntKind.i64.wrap ((k:Int)+1)=((k+1:Nat):Int):=by rw [Zab (by omega)];omega
   rw [List.drop_eq_getElem_cons hlt',Tm.atP] at hat
   obtain ⟨n,hn⟩:∃ n,p[k]=n:=⟨_,rfl⟩
   have hg:=Zbe hlt'
   rw [hn] at hat hg
   have h0:¬ n<0:=fun h0=>by rw [if_pos h0] at hat;cases hat
   rw [if_neg h0] at hat
   have h1:n.toNat<w.args.length:=Decidable.by_contra fun h1=>by rw [dif_neg h1] at hat;cases hat
   rw [dif_pos h1] at hat
   have hne:w.args≠[]:=by intro e;rw [e] at h1;simp at h1
   have hpt:w.putP (p.drop k) u = .mk w.head (w.args.set n.toNat ((w.args[n.toNat]).putP (p.drop (k+1)) u)):=by
    rw [List.drop_eq_getElem_cons hlt',hn,Tm.putP];simp [List.getD,h1]
   rcases hq with ⟨rfl,rfl,rfl,hg4⟩ | ⟨c,i,es,c0,c1,F,rfl,hc5,hcl,hgc,hie,hes,hg4,hi0,hi1,hF,hplug⟩
   ·have hlt0:(0:Int)<p.length:=by simpa using hlt
    simp only [go_sem,hlt0,hg,Zad,hg4]
    refine VCall.isoN [] (Ze7 w.args hne (by omega)) (Za1 _ _ _) (by simp [go_sem,Za0]) ?_
    rw [Zah]
    simp only [Zft,Zg5,Zhv,Zdv,Zm8,up,Za2 (Za0 _)]
    obtain ⟨σ2,hσ2⟩:∃ σ2,σ++[none,some (Blk.row (w.args.map Tm.toA) 0)] = σ2:=⟨_,rfl⟩
    have hl2 : σ2.length = σ.length+2:=by rw [← hσ2];simp
    have hg4':getS σ2 4=some (.var [.int .i64 w.head, .ps 2 (w.args.map Tm.toA)]):=by rw [← hσ2,Zcz (by omega)];exact hg4
    have h42 : 4 < σ2.length:=by omega
    have hlo2:lowSo σ2.length σ2:=by
     rw [hl2,← hσ2]
     exact Zas (Zam (by omega) hlo) (by simp [go_sem,Za0])
    rw [hσ2]
    refine EvK.go 1000 ?_
    simp only [go_sem,hg4',Zhy h42,Zd1 h42]
    refine ⟨⟨by omega,by omega⟩,⟨⟨1,w.args[n.toNat], .rp (1 + σ.length) n.toNat 0,_⟩,?_⟩,⟨⟨.inl rfl,rfl⟩,Za9 _,?_,?_⟩,by simp only;omega⟩
    ·have a1:=Zcq w.args n.toNat h1
     have a2:=Zbw w.args (n.toNat+1)
     refine ⟨by simp only;omega,hat,by simp only;omega,by simp only [List.length_set];omega,?_,?_,?_,?_, .inr ⟨1 + σ.length,n.toNat,w.args.map Tm.toA,_,_,fun w'=>.mk w.head (w.args.set n.toNat w'),rfl,by omega,by simp only [List.length_set];omega,?_,by simpa using h1,Zaq h1,Zd1 h42,rfl,rfl,hpt.symm,?_⟩⟩
     ·simp only [List.length_set]
      exact Zea (by simp [lowO,go_sem];omega) 4 hlo2
     ·simp [go_sem];omega
     ·simp only;rw [Zbm (by decide),← hσ2,Zcz (by omega)];exact hg1
     ·simp only;rw [Zbm (by decide),← hσ2,Zcz (by omega)];exact hg2
     ·simp only;rw [Zbm (by omega),← hσ2,Nat.add_comm];simp [getS]
     ·intro S w' x _ hS hx
      exact Zut hx _ _ _ _ hS
    ·simp only [List.length_set]
     exact ⟨by omega,by omega,by omega,by simp [go_sem];omega,Za4 _⟩
    ·simp only [List.length_set]
     exact Zea (by simp [lowO,go_sem];omega) 4 hlo2
   ·simp only [go_sem,hlt,hg,Zad,hgc,hie,hes,Za8]
    refine ⟨by omega,?_⟩
    refine VCall.isoN [] (Ze7 w.args hne (by omega)) (Za1 _ _ _) (by simp [go_sem,Za0]) ?_
    rw [Zah]
    simp only [Zft,Zg5,Zhv,Zdv,Zm8,up,Za2 (Za0 _)]
    obtain ⟨σ2,hσ2⟩:∃ σ2,σ++[none,some (Blk.row (w.args.map Tm.toA) 0)] = σ2:=⟨_,rfl⟩
    have hl2 : σ2.length = σ.length+2:=by rw [← hσ2];simp
    have hgc':getS σ2 c=some (.row es 0):=by rw [← hσ2,Zcz hcl];exact hgc
    have h42:c < σ2.length:=by omega
    have hlo2:lowSo σ2.length σ2:=by
     rw [hl2,← hσ2]
     exact Zas (Zam (by omega) hlo) (by simp [go_sem,Za0])
    have hrow:∀ fz,lowO σ2.length (some (.row (es.set i (.agg [.int .i64 w.head, .os (1 + σ.length) 0 w.args.length 2])) fz)):=fun fz=>by
     have hesl:lowL σ2.length es:=Zat hlo2 c _ (Zae hgc')
     exact Zpq hesl (by simp [go_sem];omega) i
    have hesl:lowL σ2.length es:=Zat hlo2 c _ (Zae hgc')
    have hie':i<(es.set i (.agg [.int .i64 w.head, .os (1 + σ.length) 0 w.args.length 2])).length:=by simpa using hie
    have hset:(es.set i (AVal.agg [.int .i64 w.head, .os (1 + σ.length) 0 w.args.length 2])).getD i .undef = .agg [.int .i64 w.head, .os (1 + σ.length) 0 w.args.length 2]:=by simp [List.getD,hie]
    rw [hσ2]
    refine EvK.go 1000 ?_
    simp only [go_sem,hgc',Zhy h42,Zd1 h42,hie,hes,Za8,hagg,mk_true,List.length_set,hset]
    refine ⟨by omega,⟨by omega,by omega⟩,⟨⟨k+1,w.args[n.toNat], .rp (1 + σ.length) n.toNat 0,_⟩,?_⟩,⟨⟨.inl rfl,by rw [hw]⟩,Za9 _,?_,?_⟩,by simp only;omega⟩
    ·have a1:=Zcq w.args n.toNat h1
     have a2:=Zbw w.args (n.toNat+1)
     refine ⟨by simp only;omega,hat,by simp only;omega,by simp only [List.length_set];omega,?_,?_,?_,?_, .inr ⟨1 + σ.length,n.toNat,w.args.map Tm.toA,c0,c1,fun w'=>F (.mk w.head (w.args.set n.toNat w')),rfl,by omega,by simp only [List.length_set];omega,?_,by simpa using h1,Zaq h1,?_,hi0,hi1,by simp only;rw [← hF,hpt],?_⟩⟩
     ·simp only [List.length_set]
      exact Zea (hrow 0) c hlo2
     ·simp [go_sem];omega
     ·simp only;rw [Zbm (by omega),← hσ2,Zcz (by omega)];exact hg1
     ·simp only;rw [Zbm (by omega),← hσ2,Zcz (by omega)];exact hg2
     ·simp only;rw [Zbm (by omega),← hσ2,Nat.add_comm];simp [getS]
     ·simp only;rw [Zbm (by omega),← hσ2,Zcz (by omega)];exact hg4
     ·intro S w' x hag hS hx
      refine hplug S _ (.agg [.int .i64 w.head, .os (1 + σ.length) 0 w.args.length 2]) (fun b h5 hb hne=>?_) ?_ (Zut hx _ _ _ _ hS)
      ·rw [hag b h5 (by simp only [List.length_set];omega) (by omega)]
       simp only;rw [Zbm (by omega),← hσ2,Zcz hb]
      ·rw [hag c hc5 (by simp only [List.length_set];omega) (by omega)]
       simp only;rw [Zd1 h42]
    ·simp only [List.length_set]
     exact ⟨by omega,by omega,by omega,by simp [go_sem];omega,Za4 _⟩
    ·simp only [List.length_set]
     exact Zea (hrow 0) c hlo2
  ·have hi':k=p.length:=by omega
   subst hi'
   rw [List.drop_length] at hq
   rcases hq with ⟨h0,rfl,rfl,hg4⟩ | ⟨c,i,es,c0,c1,F,rfl,hc5,hcl,hgc,hie,hes,hg4,hi0,hi1,hF,hplug⟩
   ·simp only [go_sem,hlt]
    refine EvK.go 1000 ?_
    have h4l:=Zf6 hg4
    have h2l:=Zf6 hg2
    have hg24:getS (σ.set 4 (some (Blk.var [.int .i64 u.head, .ps 2 (u.args.map Tm.toA)]))) 2=some (.var [.int .i64 0, .nils]):=by rw [Zbm (by decide)];exact hg2
    simp only [go_sem,hg1,hg2,hg4,Zhy h4l,Zd1 h4l,hg24]
    rw [Zhy (by simpa using h2l),Zd1 (by simpa using h2l)]
    have hp0:p=[]:=List.eq_nil_of_length_eq_zero h0
    subst hp0
    rw [Tm.putP]
    simp only [go_sem]
   ·simp only [go_sem,hlt]
    refine EvK.go 1000 ?_
    have hg2':∀ X,getS (σ.set c X) 2=some (.var [.int .i64 0, .nils]):=fun X=>by rw [Zbm (by omega)];exact hg2
    have hg4':∀ X,getS (σ.set c X) 4=some (.var [c0,c1]):=fun X=>by rw [Zbm (by omega)];exact hg4
    simp only [go_sem,hg1,hg2,hg4,hgc,hie,hes,Za8,hagg,mk_true,Zhy hcl,hg2',hg4',hi0,hi1]
    rw [Zhy (by simp only [List.length_set];omega),Zd1 (by simp only [List.length_set];omega)]
    have hfin:pT (fun _=>true) ((σ.set c (some (Blk.row (es.set i u.toA) 0))).set 2 (some (Blk.var [c0,c1]))) (t.putP p u).toA (.agg [c0,c1]):=by
     rw [← hF,Tm.putP]
     refine hplug _ u _ (fun b h5 hb hne=>?_) ?_ (Zdx _ _ _)
     ·rw [Zbm (by omega),Zbm (by omega)]
     ·rw [Zbm (by omega),Zd1 hcl]
    rw [Za6 u,Za6 (t.putP p u)] at hfin
    simp only [go_sem] at hfin
    simp only [go_sem,hi0,hi1]
    exact ⟨by omega,hfin⟩
structure Bd where
 v:Int
 t:Tm
def Bd.toA (b:Bd):AVal:=.agg [.int .i64 b.v, .int .i64 b.t.head, .ps 2 (b.t.args.map Tm.toA)]
def bds (l:List Bd):List AVal:=l.map Bd.toA
theorem Zf9 (l:List Bd):(bds l).length=l.length:=by simp [bds]
theorem Yq4 {n:Nat} (b:Bd):b.toA.low n:=⟨trivial,trivial,Za0 _,trivial⟩
@[go_sem] theorem Zhw {n:Nat} (l:List Bd):lowL n (bds l)=True:=eq_true (Zby fun b _=>Yq4 b)
theorem Ybv {l:List Bd} {i:Nat} (h:i<l.length):(bds l).getD i .undef=l[i].toA:=Zaq h
theorem Zhm (b:Bd):b.toA.cells=[.int .i64 b.v, .int .i64 b.t.head, .ps 2 (b.t.args.map Tm.toA)]:=rfl
def subChk:Int→List Bd→Int
 | _,[]=>0
 | m,b :: l=>if b.v≤m∨255<b.v∨b.t.check≠0∨b.t.head = -1 - b.v then 1 else subChk b.v l
theorem Yd7 (bs:List Bd) (hl:bs.length<1000000) (hb:∀ b∈bs,b.t.size<99999999):CallEq Tryz.prog 120 [.ps 3 (bds bs)] (.int .i64 (subChk (-1) bs)):=by
 refine CallEq.begin (rs:=[.tmp 2]) (m:=38) 1000 Tryz.func120 rfl rfl rfl (by decide) trivial ?_
 simp only [go_sem,Zf9]
 refine EvK.loopI (ι:={q:Nat×Int // q.1≤bs.length∧subChk q.2 (bs.drop q.1)=subChk (-1) bs∧-1≤q.2}) 1000 (fun q=>mkT 39 [(2, .int .i64 0),(3, .int .i64 q.1.2),(6, .ps 3 (bds bs)),(7, .int .i64 bs.length),(8, .int .i64 q.1.1)])
  (fun _=>[]) (fun q=>bs.length - q.1.1) ⟨(0, -1),by simp⟩ ?_ (fun _=>Nat.zero_le _) ?_
 ·simp only [go_sem]
 ·rintro ⟨⟨i,m⟩,hi,hpre,hm⟩
  simp only at hi hpre hm
  by_cases hlt:(i:Int)<bs.length
  ·have hlt':i<bs.length:=by omega
   have hw:IntKind.i64.wrap ((i:Int)+1)=((i+1:Nat):Int):=by rw [Zab (by omega)];omega
   rw [List.drop_eq_getElem_cons hlt',subChk] at hpre
   have hmem:=hb _ (List.getElem_mem hlt')
   have hg:=Ybv hlt'
   obtain ⟨b,hbi⟩:∃ b,bs[i]=b:=⟨_,rfl⟩
   rw [hbi] at hpre hmem hg
   by_cases h1:b.v≤m
   ·rw [if_pos (.inl h1)] at hpre
    simp only [go_sem,hlt,Zf9,hg,Zhm,h1]
    refine ⟨by omega,?_⟩
    refine EvK.go 1000 ?_
    simp only [go_sem,← hpre]
   ·by_cases h2 : 255<b.v
    ·rw [if_pos (.inr (.inl h2))] at hpre
     simp only [go_sem,hlt,Zf9,hg,Zhm,h1,h2]
     refine ⟨by omega,?_⟩
     refine EvK.go 1000 ?_
     simp only [go_sem,← hpre]
    ·have hck:=Zfi b.t (by omega)
     simp only [go_sem,hlt,Zf9,hg,Zhm,h1,h2]
     refine ⟨by omega,?_⟩
     refine VCall.isoT [] (hck) (by (try simp only [Za6]);exact Za1 _ _ _) (by simp [go_sem,Za7,Za0]) ?_;simp only [flatR,flatA,flatC,if_true];refine EvK.go 1000 ?_
     by_cases h3:b.t.check=0
     ·have hw2:IntKind.i64.wrap (-1 - b.v) = -1 - b.v:=Zab (by omega)
      by_cases h4:b.t.head = -1 - b.v
      ·rw [if_pos (.inr (.inr (.inr h4)))] at hpre
       simp only [go_sem,h3,hw2,h4]
       refine EvK.go 1000 ?_
       simp only [go_sem,← hpre]
      ·rw [if_neg (by simp [h1,h2,h3,h4])] at hpre
       simp only [go_sem,h3,hw2,h4,hw]
       refine ⟨⟨(i+1,b.v),by simp only;omega,hpre,by simp only;omega⟩,⟨rfl,rfl⟩,by simp only;omega⟩
     ·rw [if_pos (.inr (.inr (.inl h3)))] at hpre
      simp only [go_sem,h3]
      refine EvK.go 1000 ?_
      simp only [go_sem,← hpre]
  ·have hi':i=bs.length:=by omega
   subst hi'
   rw [List.drop_length,subChk] at hpre
   simp only [go_sem,hlt]
   refine EvK.go 1000 ?_
   simp only [go_sem,← hpre]
theorem Yb2 (t:Tm) (hsz:t.size<99999999):CallEq Tryz.prog 122 [t.toA] (if t.check=0 then .tup [t.toA, .int .i64 0] else .tup [zeroT.toA, .int .i64 t.check]):=by
 refine CallEq.begin (rs:=[.cell 2 48, .tmp 3]) (m:=11) 1000 Tryz.func122 rfl rfl rfl (by decide) (by split<;>simp [go_sem,Za7]) ?_
 have hck:=Zfi t (by omega)
 simp only [go_sem,Za8]
 refine VCall.isoT [] (hck) (by (try simp only [Za6]);exact Za1 _ _ _) (by simp [go_sem,Za7,Za0]) ?_;simp only [flatR,flatA,flatC,if_true];refine EvK.go 1000 ?_
 by_cases h:t.check=0
 ·rw [if_pos h]
  simp only [go_sem,h,Za6]
 ·rw [if_neg h]
  simp only [go_sem,h,Za6,Zqr,Zt5,List.map_nil]
def tabK (bs:List Bd):List AVal:=bs.map fun b=>.int .i64 b.v
def tabV (bs:List Bd):List AVal:=bs.map fun b=>b.t.toA
def subOf (bs:List Bd) (t:Tm):Tm:=((bs.find? fun b=>b.v == -1 - t.head).map Bd.t).getD t
theorem Zdh (bs:List Bd) (v:Int):(tabK bs).all (sameKind (.int .i64 v))=true:=by
 simp [tabK,sameKind]
theorem Zfl (v:Int):∀ (bs:List Bd) (n:Nat),(match findK (.int .i64 v) (tabK bs) n with | some i=>n≤i∧∃ b,bs[i - n]? = some b∧bs.find? (fun b=>b.v==v)=some b | none=>bs.find? (fun b=>b.v==v)=none)
 | [],n=>by simp [tabK,findK]
 | b :: bs,n=>by
  have ih:=Zfl v bs (n+1)
  simp only [tabK,List.map_cons,findK,List.find?_cons] at ih ⊢
  by_cases c:b.v=v
  ·have hc:eqCell (.int .i64 v) (.int .i64 b.v)=true:=by simp [eqCell,c]
   have hc2:(b.v==v)=true:=by simpa using c
   rw [hc,if_pos rfl]
   refine ⟨Nat.le_refl _,b,by simp,?_⟩
   rw [hc2]
  ·have hc:eqCell (.int .i64 v) (.int .i64 b.v)=false:=by simp only [eqCell,beq_eq_false_iff_ne];exact fun e=>c e.symm
   have hc2:(b.v==v)=false:=by simpa using c
   rw [hc,hc2]
   simp only [Bool.false_eq_true,if_false]
   split at ih
   ·rename_i i _
    obtain ⟨h1,x,h2,h3⟩:=ih
    refine ⟨by omega,x,?_,h3⟩
    rw [show i - n=(i - (n+1))+1 by omega];simpa using h2
   ·exact ih
theorem Zlp (bs:List Bd) (v:Int) (z:AVal):lookupIn (tabK bs) (tabV bs) z (.int .i64 v) true=match bs.find? (fun b=>b.v==v) with | some b=>.tup [b.t.toA, .bool true] | none=>.tup [z, .bool false]:=by
 have h:=Zfl v bs 0
 unfold lookupIn
 cases hk:findK (.int .i64 v) (tabK bs) 0 with
 | some i =>
  rw [hk] at h
  obtain ⟨_,b,h2,h3⟩:=h
  rw [h3]
  simp only [if_true,tabV,List.getD,List.getElem?_map]
  rw [Nat.sub_zero] at h2
  rw [h2];rfl
 | none =>
  rw [hk] at h
  rw [show bs.find? (fun b=>b.v==v)=none from h];rfl
theorem Yqd (bs:List Bd) (t:Tm) (ht:In64 (-1 - t.head)):CallEq Tryz.prog 125 [.pm (tabK bs) (tabV bs),t.toA] (subOf bs t).toA:=by
 refine CallEq.begin (rs:=[.cell 4 48]) (m:=16) 1000 Tryz.func125 rfl rfl rfl (by decide) (by simp [go_sem,Za7]) ?_
 have hw:IntKind.i64.wrap (-1 - t.head) = -1 - t.head:=Zab ht
 have hsb:subOf bs t=((bs.find? fun b=>b.v == -1 - t.head).map Bd.t).getD t:=rfl
 have hlk:=Zlp bs (-1 - t.head) (.agg [.int .i64 0, .nils])
 cases hf:bs.find? (fun b=>b.v == -1 - t.head) with
 | some b =>
  rw [hf] at hlk hsb
  rw [hsb]
  simp only [go_sem,Za8,hw,Zdh,hlk,Za6,Option.map_some,Option.getD_some]
 | none =>
  rw [hf] at hlk hsb
  rw [hsb]
  simp only [go_sem,Za8,hw,Zdh,hlk,Za6,Option.map_none,Option.getD_none]
mutual
def Tm.sub (bs:List Bd):Tm→Tm
 | .mk h ts=>if h<0 then subOf bs (.mk h ts) else .mk h (Tm.subL bs ts)
def Tm.subL (bs:List Bd):List Tm→List Tm
 | []=>[]
 | t :: ts=>t.sub bs :: Tm.subL bs ts
end
theorem Zud (bs:List Bd):∀ ts,Tm.subL bs ts=ts.map (Tm.sub bs)
 | []=>rfl
 | t :: ts=>by simp [Tm.subL,Zud bs ts]
def offn (bs:List Bd):AVal:=.fn 125 [.pm (tabK bs) (tabV bs)] []
theorem Zb3 {n:Nat} (bs:List Bd):lowL n (tabK bs)∧lowL n (tabV bs):=⟨Zby fun _ _=>trivial,Zby fun b _=>Za7 b.t⟩
@[go_sem] theorem Yt7 {π:Nat→Nat} (bs:List Bd):ren π (offn bs)=offn bs:=Ziw (show AVal.low 0 (offn bs) from ⟨⟨Zb3 bs,trivial⟩,trivial⟩)
@[go_sem] theorem Ysx {n:Nat} (bs:List Bd):AVal.low n (offn bs)=True:=eq_true ⟨⟨Zb3 bs,trivial⟩,trivial⟩
@[go_sem] theorem Ynh (b sz:Nat) (l:List AVal):((slA b sz l).isCell=true)=True:=eq_true (by cases l<;>rfl)
theorem Yap {bs:List Bd} {t:Tm} (h:t.head<0):t.sub bs=subOf bs t:=by
 cases t;rw [Tm.sub];exact if_pos h
theorem Ym6 {bs:List Bd} {t:Tm} (h:¬ t.head<0):t.sub bs = .mk t.head (t.args.map (Tm.sub bs)):=by
 cases t;rw [Tm.sub,Zud];exact if_neg h
theorem Zj2 {t:Tm} (h:t.fit):In64 t.head:=by cases t;exact h.1
theorem Zcx {t:Tm} (h:t.fit):Tm.fits t.args:=by cases t;exact h.2
theorem Zlt (bs:List Bd):∀ (n:Nat) (t:Tm),t.size≤n→t.size≤100000000→t.fit→CallEq Tryz.prog 123 [t.toA,offn bs] (t.sub bs).toA
 | 0,t,h,_,_=>by have:=Zay t;omega
 | n+1,t,h,hs,hf=>by
  refine CallEq.begin (rs:=[.cell 4 48]) (m:=32) 1000 Tryz.func123 rfl rfl rfl (by decide) (by simp [go_sem,Za7]) ?_
  have hsz:=Zay t
  have hal:=Zaj t.args
  by_cases hneg:t.head<0
  ·simp only [go_sem,Za8,hneg]
   have hbs:t.sub bs=subOf bs t:=Yap hneg
   have hin:In64 (-1 - t.head):=by have:=Zj2 hf;unfold In64 at *;omega
   refine VCall.isoT [] (Yqd bs t hin) (by simp only [List.cons_append,List.nil_append,List.append_nil,Za6];exact Za1 _ _ _) (by simp [go_sem,Za7,Zb3]) ?_
   rw [Zah];simp only [ite_self]
   refine EvK.go 1000 ?_
   rw [hbs]
   simp only [go_sem,Za8]
   rw [Za6];exact Za1 _ _ _
  ·simp only [go_sem,Za8,hneg,List.length_map]
   refine EvK.loopR (ι:={q:Nat×List Tm // q.1≤t.args.length∧q.2=(t.args.take q.1).map (Tm.sub bs)}) 1000 (fun q=>mkT 34 [(1,offn bs),(4, .ptr 1 0),(5, .ptr 2 0),(18, .ps 2 (t.args.map Tm.toA)),(19, .int .i64 t.args.length),(20, .int .i64 q.1.1)])
    (fun q=>[none,some (.var [.int .i64 0, .nils]),some (.var [.int .i64 t.head,slA 3 2 (q.1.2.map Tm.toA)]),slB (q.1.2.map Tm.toA)]) (fun q=>t.args.length - q.1.1) ⟨(0,[]),by simp⟩ [] ?_ (fun _=>Nat.zero_le _) ?_
   ·refine Zb0 rfl ?_
    simp only [go_sem,List.map_nil,Zcd,Zc7,Za0,Za2 (Za0 _)]
   ·rintro ⟨⟨i,L⟩,hi,hL⟩
    simp only at hi hL
    by_cases hlt:(i:Int)<t.args.length
    ·have hlt':i<t.args.length:=by omega
     have hw:IntKind.i64.wrap ((i:Int)+1)=((i+1:Nat):Int):=by rw [Zab (by omega)];omega
     have hg:(t.args.map Tm.toA).getD i .undef=t.args[i].toA:=Zaq hlt'
     simp only [go_sem,hlt,List.length_map,hg,Za8]
     refine ⟨by omega,?_⟩
     refine EvK.draw [⟨none,[],[5]⟩,⟨none,[],[5]⟩, .no, .no, .no,⟨some 5,[5],[]⟩,⟨some 6,[3,6],[]⟩, .no,⟨none,[2],[]⟩] 5 7 mixed rfl rfl (by decide) ?_
     simp only [go_sem,padS]
     have hti:=Zit (Zcx hf) i hlt'
     have a1:=Zcq t.args i hlt'
     have a2:=Zbw t.args (i+1)
     obtain ⟨x,hx⟩:∃ x,t.args[i]=x:=⟨_,rfl⟩
     simp only [hx] at hti a1 ⊢
     refine Zar (Zlt bs n x (by omega) (by omega) hti) (by simp only [Za6,List.nil_append,List.append_nil];exact Za1 _ _ _) (by simp [go_sem,Za7]) ?_
     have h3:getS ([none,some (.var [.int .i64 0, .nils]),some (.var [.int .i64 t.head,slA 3 2 (L.map Tm.toA)]),slB (L.map Tm.toA),some (.var [.int .i64 x.head, .ps 2 (x.args.map Tm.toA)]),some (.row [(x.sub bs).toA] 0),none]) 3=slB (L.map Tm.toA):=rfl
     have ho1:=of_eq_true (Zhj [x.sub bs])
     rw [show [x.sub bs].map Tm.toA=[(x.sub bs).toA] from rfl] at ho1
     have htr:List.take 1 [(x.sub bs).toA]=[(x.sub bs).toA]:=rfl
     simp only [go_sem,Ze3 h3,ho1,List.length_map,htr,Za8]
     have hLl:L.length=i:=by rw [hL];simp;omega
     refine ⟨by rw [Za6];rfl,by omega,?_⟩
     refine EvK.go 1000 ?_
     simp only [go_sem,hw]
     refine ⟨⟨(i+1,L++[x.sub bs]),by simp only;omega,by simp only;rw [hL,List.take_succ_eq_append_getElem hlt',hx];simp⟩,[(3,6),(6,3)],Zb0 rfl ?_,by simp only;omega⟩
     have lw:lowL 0 ((L++[x.sub bs]).map Tm.toA):=Za0 _
     dsimp only
     rw [List.map_append] at lw ⊢
     rw [Ze4 (by simp),Zdz (by simp)]
     simp only [List.map_cons,List.map_nil] at lw
     simp only [go_sem,Za0,Za2 (Za0 _),Za2 lw,Zac (Nat.zero_le 4) lw,List.length_map,List.length_cons,List.length_nil,List.map_cons,List.map_nil]
    ·have hi':i=t.args.length:=by omega
     subst hi'
     simp only [go_sem,hlt]
     refine EvK.go 1000 ?_
     simp only [go_sem]
     rw [Ym6 hneg,Za6]
     rw [show (Tm.mk t.head (t.args.map (Tm.sub bs))).head=t.head from rfl,show (Tm.mk t.head (t.args.map (Tm.sub bs))).args=t.args.map (Tm.sub bs) from rfl]
     rw [hL,List.take_length]
     simp only [go_sem,Zej]
theorem Zqb (ts:List Bd) (n0:Nat) (σ0:Store) (S:Nat→Store) (p:Nat) (y:AVal) (h0 : σ0.length=n0) (hS0 : σ0++[none]=S 0) (hlen:∀ i,(S i).length=n0+1) (hget:∀ i,getS (S i) p=some (.var [.ps 3 (bds ts)])) (hp:p<n0)
  (hs:∀ i,lowSo (n0+1) (S i)) (hs0:lowSo n0 σ0) (hy0:y.low n0) (hl:ts.length<2 ^ 62)
  (hy:∀ i (h:i<ts.length),VCall Tryz.prog y [.int .i64 ((ts.length:Int) - 1 - i),ts[ts.length - 1 - i].toA] (S i) (fun r σ'=>r = .bool true∧n0+1≤σ'.length∧lowSo σ'.length σ'∧∃ π:Nat→Nat,(∀ b,b<n0→π b=b)∧(∀ b b',b<n0+1→b'<n0+1→π b = π b'→b=b')∧leSoR π σ' 0 (S (i+1)))) :
  VCall Tryz.prog (.fn 176 [] [.ptr p 0]) [y] σ0 (fun _ σ'=>σ'=S ts.length):=by
 subst h0
 refine VCall.beginK (rs:=[]) (m:=17) Tryz.func176 rfl rfl rfl rfl rfl ?_
 refine EvK.pad 1 (Nat.le_refl _) (by simp [go_sem,hy0,hp]) hs0 ?_
 rw [show List.replicate 1 (none:Option Blk)=[none] from rfl,hS0]
 refine EvK.go 1000 ?_
 simp only [go_sem,hget,Nat.le_refl,Zf9]
 rw [Zab (by omega)]
 have hlo0:lowSo (σ0.length+1) (S 0):=hs 0
 refine EvK.loopI (ι:={i:Nat // i≤ts.length}) 1000 (fun i=>mkT 19 [(0,y),(1, .ptr p 0),(3, .int .i64 ((ts.length:Int) - 1 - i.1))]) (fun i=>S i.1) (fun i=>ts.length - i.1) ⟨0,by omega⟩ ?_ (fun i=>by rw [hlen];exact Nat.le_succ _) ?_
 ·simp only [go_sem,hlen,hlo0,Zau (Nat.le_succ _) hy0,Int.natCast_zero,Int.sub_zero]
  exact ⟨Za9 _,by omega⟩
 ·rintro ⟨i,hi⟩
  by_cases hlt : 0≤(ts.length:Int) - 1 - i
  ·have hlt':i<ts.length:=by omega
   have hb:ts.length - 1 - i<ts.length:=by omega
   have hn:((ts.length:Int) - 1 - i).toNat=ts.length - 1 - i:=by omega
   simp only [go_sem,hlt,hget,Nat.le_refl,Zf9,hn,Ybv hb,Zhm]
   (repeat ((with_reducible refine And.intro ?_ ?_); ·omega))
   refine EvK.callS0 (.bool true) trivial (by rw [hlen];exact Nat.le_succ _) ?_ ?_ ?_ ?_ ?_ ?_
   ·rw [hlen];exact Zau (Nat.le_succ _) hy0
   ·simp [go_sem,Za0]
   ·rw [hlen];exact hs i
   ·rw [hlen]
    simp [go_sem,Zdd,Zem,Zjw,hy0,hp,Za0]
   ·rw [hlen]
    have hy1:=Zau (Nat.le_succ _) hy0
    simp [go_sem,hy1,Za0];omega
   rw [hlen]
   refine (hy i hlt').mono ?_
   rintro r σ' ⟨k1,k2,k3,π,k4,k5,k6⟩
   refine ⟨k1,k2,k3,π,S (i+1),hlen _,k4,k5,k6,hs _,?_⟩
   refine EvK.go 1000 ?_
   simp only [go_sem]
   refine ⟨⟨i+1,hlt'⟩,?_,by simp only;omega⟩
   have hlo1:lowSo (σ0.length+1) (S (i+1)):=hs (i+1)
   simp only [go_sem,hlen,hlo1,Zau (Nat.le_succ _) hy0]
   rw [Zab (by omega)]
   exact ⟨by rw [show (ts.length:Int) - 1 - i - 1=ts.length - 1 - ((i+1:Nat):Int) by omega],Za9 _,by omega⟩
  ·have hi':i=ts.length:=by omega
   subst hi'
   simp only [go_sem,hlt]
   refine EvK.go 1000 ?_
   simp only [go_sem]
   rw [Zax]
   exact ⟨S ts.length,Za9 _,by rw [hlen];exact Nat.le_succ _,by rw [hlen];exact hs _,trivial,rfl⟩
theorem Znc (ts:List Bd) (σ:Store) (hs:lowSo σ.length σ):VCall Tryz.prog (.fn 158 [] []) [.ps 3 (bds ts)] σ
  (fun r σ'=>r = .fn 176 [] [.ptr σ.length 0]∧σ' = σ++[some (.var [.ps 3 (bds ts)])]):=by
 refine VCall.begin (rs:=[.tmp 2]) (m:=3) 1000 Tryz.func158 rfl rfl rfl rfl rfl ?_
 simp only [go_sem]
 rw [Zet,Zax]
 exact ⟨_,Za9 _,by simp,Zas (Zam (by simp) hs) (by simp [go_sem,Za0]),by simp [go_sem],rfl,rfl⟩
theorem Zlc {l:List Bd} {b:Bd} {x:AVal} (hx:x=b.t.toA) (h:l.find? (fun c=>c.v==b.v)=none):mapSet (tabK l) (tabV l) (.int .i64 b.v) x=(tabK (l++[b]),tabV (l++[b])):=by
 have h1:=Zfl b.v l 0
 unfold mapSet
 cases hk:findK (.int .i64 b.v) (tabK l) 0 with
 | some i =>
  rw [hk] at h1
  obtain ⟨_,c,_,h3⟩:=h1
  rw [h] at h3;cases h3
 | none=>simp [tabK,tabV,hx]
theorem Yi0 (bs:List Bd) (hl:bs.length<1000000) (hd:(bs.map Bd.v).Nodup):CallEq Tryz.prog 124 [.ps 3 (bds bs)] (.pm (tabK bs.reverse) (tabV bs.reverse)):=by
 refine CallEq.begin (rs:=[.tmp 2]) (m:=16) 1000 Tryz.func124 rfl rfl rfl (by decide) ⟨(Zb3 _).1,(Zb3 _).2⟩ ?_
 simp only [go_sem]
 refine (Znc bs _ (by simp [go_sem])).mono ?_
 rintro _ _ ⟨rfl,rfl⟩
 refine EvK.go 1000 ?_
 simp only [go_sem]
 refine EvK.rangeFunc (mkT 17 [(3, .ptr 1 0)]) ?_ ?_ (fun ρ ht hpa hat hbo=>?_)
 ·simp only [go_sem]
 ·exact fun b hb=>by cases hb
 simp only [go_sem]
 have hρl:lowL 4 ρ.tm:=by rw [ht];simp [go_sem,Zd7,Zf1]
 have hst:∀ l:List Bd,lowSo 5 [some (.map (tabK l) (tabV l) false),some (.var [.map 0]),some (.var [.ps 3 (bds bs)]),some (.loop (ρ.at .ready)),none] :=
  fun l=>⟨⟨(Zb3 l).1,(Zb3 l).2⟩,⟨Nat.zero_lt_succ 4,trivial⟩,⟨of_eq_true (Zhw bs),trivial⟩,Zac (by decide) hρl,trivial,trivial⟩
 refine (Zqb bs 4 _ (fun k=>[some (.map (tabK (bs.reverse.take k)) (tabV (bs.reverse.take k)) false),some (.var [.map 0]),some (.var [.ps 3 (bds bs)]),some (.loop (ρ.at .ready)),none]) 2 (.yld 3) rfl rfl (fun _=>rfl) (fun _=>rfl) (by decide) (fun k=>hst _) ?_ (Nat.lt_succ_self 3) (by omega) (fun k hk=>?_)).mono ?_
 ·exact ⟨⟨trivial,trivial⟩,⟨Nat.zero_lt_succ 3,trivial⟩,⟨of_eq_true (Zhw bs),trivial⟩,hρl,trivial⟩
 ·refine VCall.stay rfl (hst _) ?_
  refine VCall.yieldK 1000 ht hpa hat hbo rfl rfl ?_
  simp only [go_sem,Zhm]
  have hkr:k<bs.reverse.length:=by simpa using hk
  have hgr:bs.reverse[k]=bs[bs.length - 1 - k]:=List.getElem_reverse hkr
  have htk:bs.reverse.take (k+1)=bs.reverse.take k++[bs[bs.length - 1 - k]]:=by rw [List.take_succ_eq_append_getElem hkr,hgr]
  have hfn:(bs.reverse.take k).find? (fun c=>c.v==(bs[bs.length - 1 - k]).v)=none:=by
   rw [List.find?_eq_none]
   intro c hc e
   have hv:c.v=(bs[bs.length - 1 - k]).v:=by simpa using e
   have hnd:((bs.reverse.take (k+1)).map Bd.v).Nodup:=by
    have h1:(bs.reverse.map Bd.v).Nodup:=by rw [List.map_reverse];exact List.pairwise_reverse.2 (hd.imp fun h e=>h e.symm)
    exact h1.sublist ((List.take_sublist _ _).map _)
   rw [htk,List.map_append,List.nodup_append] at hnd
   exact hnd.2.2 _ (List.mem_map_of_mem hc) _ (by simp) hv
  rw [Zlc (b:=bs[bs.length - 1 - k]) (Za6 _).symm hfn,← htk]
  refine ⟨Zdh _ _,?_⟩
  rw [Zfe]
  exact ⟨rfl,[some (.map (tabK (bs.reverse.take (k+1))) (tabV (bs.reverse.take (k+1))) false),some (.var [.map 0]),some (.var [.ps 3 (bds bs)]),some (.loop (ρ.at .ready)),none],by simp [go_sem],Nat.le_refl _,hst _,rfl,rfl⟩
 rintro r' σ2 rfl
 rw [Zst]
 refine ⟨.ready,rfl,?_⟩
 rw [Zfz]
 rw [show bs.reverse.take bs.length=bs.reverse by rw [← List.length_reverse,List.take_length]]
 refine EvK.go 1000 ?_
 simp only [go_sem]
theorem Zfb:∀ (bs:List Bd) (m:Int),subChk m bs=0→(∀ b∈bs,m<b.v)∧(bs.map Bd.v).Nodup
 | [],_,_=>by simp
 | b :: l,m,h=>by
  rw [subChk] at h
  split at h
  ·cases h
  ·rename_i hc
   have hc1:m<b.v:=by omega
   obtain ⟨h1,h2⟩:=Zfb l b.v h
   refine ⟨fun c hcm=>?_,?_⟩
   ·rcases List.mem_cons.1 hcm with rfl | hcm
    ·exact hc1
    ·have:=h1 c hcm;omega
   ·simp only [List.map_cons,List.nodup_cons]
    refine ⟨fun hm=>?_,h2⟩
    obtain ⟨c,hc3,hc4⟩:=List.mem_map.1 hm
    have:=h1 c hc3;omega
def appS (bs:List Bd) (t:Tm):Tm×Int :=
 if subChk (-1) bs≠0∨t.check≠0 then (zeroT,1) else if (t.sub bs.reverse).check=0 then (t.sub bs.reverse,0) else (zeroT,(t.sub bs.reverse).check)
theorem Ybk (bs:List Bd) (t:Tm) (hl:bs.length<1000000) (hb:∀ b∈bs,b.t.size<99999999) (ht:t.size<99999999) (hf:t.fit) (hs:(t.sub bs.reverse).size<99999999) :
  CallEq Tryz.prog 86 [.ps 3 (bds bs),t.toA] (.tup [(appS bs t).1.toA, .int .i64 (appS bs t).2]):=by
 refine CallEq.begin (rs:=[.cell 4 48, .tmp 5]) (m:=21) 1000 Tryz.func86 rfl rfl rfl (by decide) (by simp [go_sem,Za7]) ?_
 simp only [go_sem,Za8]
 refine VCall.isoT [] (Yd7 bs hl hb) (by (try simp only [Za6]);exact Za1 _ _ _) (by simp [go_sem,Za7,Za0]) ?_;simp only [flatR,flatA,flatC,if_true];refine EvK.go 1000 ?_
 have hck:=Zfi t (by omega)
 by_cases h1:subChk (-1) bs=0
 ·obtain ⟨_,hnd⟩:=Zfb bs _ h1
  simp only [go_sem,h1]
  refine VCall.isoT [] (hck) (by (try simp only [Za6]);exact Za1 _ _ _) (by simp [go_sem,Za7,Za0]) ?_;simp only [flatR,flatA,flatC,if_true];refine EvK.go 1000 ?_
  by_cases h2:t.check=0
  ·have hap:appS bs t=if (t.sub bs.reverse).check=0 then (t.sub bs.reverse,0) else (zeroT,(t.sub bs.reverse).check):=by unfold appS;rw [if_neg (by simp [h1,h2])]
   rw [hap]
   simp only [go_sem,h2]
   refine EvK.draw [.no, .no, .no, .no, .no, .no, .no, .no,⟨none,[1],[]⟩] 2 2 mixed rfl rfl (by decide) ?_
   simp only [go_sem,padS]
   refine Zar (Yi0 bs hl hnd) (Za1 _ _ _) (by simp [go_sem]) ?_
   simp only [go_sem]
   refine Zar (Zlt bs.reverse _ t (Nat.le_refl _) (by omega) hf) (by simp only [Za6,offn,List.nil_append,List.append_nil];exact Za1 _ _ _) (by simp [go_sem,Za7]) ?_
   simp only [go_sem]
   by_cases h3:(t.sub bs.reverse).check=0
   ·rw [if_pos h3]
    have hend:=Yb2 (t.sub bs.reverse) hs
    rw [if_pos h3] at hend
    refine Zar hend (Za1 _ _ _) (by simp [go_sem,Za7]) ?_
    simp only [go_sem,Za8]
    refine EvK.go 1000 ?_
    simp only [go_sem,Za6]
   ·rw [if_neg h3]
    have hend:=Yb2 (t.sub bs.reverse) hs
    rw [if_neg h3] at hend
    refine Zar hend (Za1 _ _ _) (by simp [go_sem,Za7]) ?_
    simp only [go_sem,Za8]
    refine EvK.go 1000 ?_
    simp only [go_sem,Za6]
  ·have hap:appS bs t=(zeroT,1):=by unfold appS;rw [if_pos (.inr h2)]
   rw [hap]
   simp only [go_sem,h2,Za6,Zqr,Zt5,List.map_nil]
 ·have hap:appS bs t=(zeroT,1):=by unfold appS;rw [if_pos (.inl h1)]
  rw [hap]
  simp only [go_sem,h1,Za6,Zqr,Zt5,List.map_nil]
def stN:List (Tm×Tm)→Nat
 | []=>0
 | x :: r=>x.1.size+stN r
theorem Zsw:∀ (a b:List (Tm×Tm)),stN (a++b)=stN a+stN b
 | [],b=>by simp [stN]
 | x :: a,b=>by simp only [List.cons_append,stN,Zsw a b];omega
theorem Zmp:∀ a:List (Tm×Tm),stN a.reverse=stN a
 | []=>rfl
 | x :: a=>by rw [List.reverse_cons,Zsw,Zmp a];simp only [stN];omega
theorem Zmq:∀ (a b:List Tm),stN (a.zip b)≤Tm.sizes a
 | [],_=>by simp [stN]
 | x :: a,[]=>by simp [stN]
 | x :: a,y :: b=>by simp only [List.zip_cons_cons,stN,Tm.sizes];have:=Zmq a b;omega
theorem Ziz (a b:Tm) (r:List (Tm×Tm)):stN ((a.args.zip b.args).reverse++r)<a.size+stN r:=by
 rw [Zsw,Zmp]
 have h1:=Zmq a.args b.args
 have h2:=Zay a
 omega
theorem Zdk (a:Tm) : 0<a.size:=by have:=Zay a;omega
def gat:List (Tm×Tm)→List Bd→Option (List Bd)
 | [],m=>some m
 | x :: r,m =>
  if 0≤-1 - x.1.head then
   match m.find? (fun c=>c.v == -1 - x.1.head) with
   | some c=>if c.t=x.2 then gat r m else none
   | none=>gat r (m++[⟨-1 - x.1.head,x.2⟩])
  else if x.1.head≠x.2.head∨x.1.args.length≠x.2.args.length then none
  else gat ((x.1.args.zip x.2.args).reverse++r) m
termination_by s=>stN s
decreasing_by
 ·simp only [stN];have:=Zdk x.1;omega
 ·simp only [stN];have:=Zdk x.1;omega
 ·simp only [stN];exact Ziz x.1 x.2 r
def stA (s:List (Tm×Tm)):List AVal:=s.reverse.map fun x=>x.1.toA
def stB (s:List (Tm×Tm)):List AVal:=s.reverse.map fun x=>x.2.toA
theorem Zrk (s:List (Tm×Tm)):(stA s).length=s.length:=by simp [stA]
theorem Zsp (s:List (Tm×Tm)):(stB s).length=s.length:=by simp [stB]
theorem Ygd (x:Tm×Tm) (r:List (Tm×Tm)):stA (x :: r)=stA r++[x.1.toA]:=by simp [stA]
theorem Yg4 (x:Tm×Tm) (r:List (Tm×Tm)):stB (x :: r)=stB r++[x.2.toA]:=by simp [stB]
@[go_sem] theorem Ybd {n:Nat} (s:List (Tm×Tm)):lowL n (stA s)=True:=eq_true (Zby fun x _=>Za7 x.1)
@[go_sem] theorem Zy7 {n:Nat} (s:List (Tm×Tm)):lowL n (stB s)=True:=eq_true (Zby fun x _=>Za7 x.2)
theorem Ybw:∀ s:List (Tm×Tm),s.length≤stN s
 | []=>Nat.le_refl _
 | x :: r=>by simp only [List.length_cons,stN];have:=Ybw r;have:=Zdk x.1;omega
theorem Ya7 {a b:List Tm} (h:a.length=b.length):stA (a.zip b).reverse=a.map Tm.toA:=by
 rw [stA,List.reverse_reverse]
 have:=List.map_fst_zip (l₁:=a) (l₂:=b) (by omega)
 rw [show (a.zip b).map (fun x=>x.1.toA)=((a.zip b).map Prod.fst).map Tm.toA by simp,this]
theorem Zyj {a b:List Tm} (h:a.length=b.length):stB (a.zip b).reverse=b.map Tm.toA:=by
 rw [stB,List.reverse_reverse]
 have:=List.map_snd_zip (l₁:=a) (l₂:=b) (by omega)
 rw [show (a.zip b).map (fun x=>x.2.toA)=((a.zip b).map Prod.snd).map Tm.toA by simp,this]
theorem Yej {a b:List Tm} (h:a.length=b.length) (r:List (Tm×Tm)):stA ((a.zip b).reverse++r)=stA r++a.map Tm.toA:=by
 have:=Ya7 h
 rw [stA,List.reverse_reverse] at this
 rw [stA,List.reverse_append,List.reverse_reverse,List.map_append,this];rfl
theorem Yft {a b:List Tm} (h:a.length=b.length) (r:List (Tm×Tm)):stB ((a.zip b).reverse++r)=stB r++b.map Tm.toA:=by
 have:=Zyj h
 rw [stB,List.reverse_reverse] at this
 rw [stB,List.reverse_append,List.reverse_reverse,List.map_append,this];rfl
theorem Zca:∀ {ts:List Tm},Tm.fits ts→∀ t∈ts,t.fit
 | t :: ts,h,x,hx=>by
  rcases List.mem_cons.1 hx with rfl | hx
  ·exact h.1
  ·exact Zca h.2 x hx
theorem Zbl:∀ {ts:List Tm} {t:Tm},t∈ts→t.size≤Tm.sizes ts
 | x :: ts,t,h=>by
  simp only [Tm.sizes]
  rcases List.mem_cons.1 h with rfl | h
  ·omega
  ·have:=Zbl h;omega
theorem Zr2 {m:List Bd} {c:Bd} {v:Int} {x:AVal} (hx:x=c.t.toA) (h:m.find? (fun d=>d.v==v)=some c):mapSet (tabK m) (tabV m) (.int .i64 v) x=(tabK m,tabV m):=by
 have h1:=Zfl v m 0
 unfold mapSet
 cases hk:findK (.int .i64 v) (tabK m) 0 with
 | some i =>
  rw [hk] at h1
  obtain ⟨_,d,h2,h3⟩:=h1
  rw [h] at h3
  cases h3
  rw [Nat.sub_zero] at h2
  simp only [Prod.mk.injEq,true_and]
  apply List.ext_getElem?
  intro j
  rw [List.getElem?_set]
  split
  ·rename_i e
   subst e
   have hlt:i<(tabV m).length:=by simp only [tabV,List.length_map];exact (List.getElem?_eq_some_iff.1 h2).1
   rw [if_pos hlt]
   simp [tabV,h2,hx]
  ·rfl
 | none =>
  rw [hk] at h1
  rw [show m.find? (fun d=>d.v==v)=none from h1] at h;cases h
def gatK:Option (List Bd)→AVal→Store→Prop
 | none,r,_=>r = .bool false
 | some m,r,σ'=>r = .bool true∧σ'=[some (.map (tabK m) (tabV m) false)]
theorem Yd4 (g:Option (List Bd)) (a b:List Tm) (hg:gat (a.zip b).reverse []=g) (hne:a≠[]) (hab:a.length=b.length) (hs:Tm.sizes a<99999999) (hsb:Tm.sizes b<99999999) (hfa:Tm.fits a) (hfb:Tm.fits b) :
  VCall Tryz.prog (.fn 155 [] []) [.ps 2 (a.map Tm.toA), .ps 2 (b.map Tm.toA), .map 0] [some (.map [] [] false)]
   (gatK g):=by
 refine VCall.begin (rs:=[.tmp 6]) (m:=79) 1000 Tryz.func155 rfl rfl rfl rfl rfl ?_
 have hal:=Zaj a
 have hbl:=Zaj b
 have hneb:b≠[]:=fun e=>hne (List.eq_nil_of_length_eq_zero (by rw [hab,e];rfl))
 simp only [go_sem]
 refine VCall.isoN [] (Ze7 a hne (by omega)) (Za1 _ _ _) (by simp [go_sem,Za0]) ?_
 rw [Zah]
 simp only [Zft,Zg5,Zhv,Zdv,Zm8,up,Za2 (Za0 _)]
 refine EvK.go 1000 ?_
 simp only [go_sem]
 refine VCall.isoN [] (Ze7 b hneb (by omega)) (Za1 _ _ _) (by simp [go_sem,Za0]) ?_
 rw [Zah]
 simp only [Zft,Zg5,Zhv,Zdv,Zm8,up,Za2 (Za0 _)]
 refine EvK.go 1000 ?_
 simp only [go_sem]
 refine EvK.loopR (ι:={q:List (Tm×Tm)×List AVal×List AVal×List Bd // gat q.1 q.2.2.2=g∧lowL 0 q.2.1∧lowL 0 q.2.2.1∧stN q.1≤Tm.sizes a∧(∀ x∈q.1,x.1.fit∧x.2.size<99999999)∧(∀ x∈q.2.2.2,x.t.size<99999999)}) 1000
  (fun q=>mkT 82 [(2, .map 0),(6, .bool false),(7, .os 2 0 q.1.1.length 2),(8, .os 4 0 q.1.1.length 2)])
  (fun q=>[some (.map (tabK q.1.2.2.2) (tabV q.1.2.2.2) false),none,some (.row (stA q.1.1++q.1.2.1) 0),none,some (.row (stB q.1.1++q.1.2.2.1) 0)]) (fun q=>stN q.1.1) ⟨((a.zip b).reverse,[],[],[]),?_⟩ [] ?_ (fun _=>by simp) ?_
 ·refine ⟨hg,trivial,trivial,?_,fun x hx=>?_,fun x hx=>by cases hx⟩
  ·rw [Zmp];exact Zmq a b
  ·have hx:=List.mem_reverse.1 hx
   have hx1:=(List.of_mem_zip hx).1
   have hx2:=Zbl (List.of_mem_zip hx).2
   exact ⟨Zca hfa _ hx1,by omega⟩
 ·refine Zb0 rfl ?_
  dsimp only
  rw [Ya7 hab,Zyj hab,show (a.zip b).reverse.length=a.length by simp [hab]]
  simp only [go_sem,Za0,Za2 (Za0 _),List.append_nil,hab,show tabK []=[] from rfl,show tabV []=[] from rfl]
 ·rintro ⟨⟨s,j1,j2,m⟩,h1,h2,h3,h4,h5,h6⟩
  simp only at h1 h2 h3 h4 h5 h6
  cases s with
  | nil =>
   rw [gat] at h1
   subst h1
   simp only [go_sem,List.length_nil]
   refine EvK.go 1000 ?_
   simp only [go_sem]
   rw [Zax]
   exact ⟨[some (Blk.map (tabK m) (tabV m) false)],by simp [go_sem],Nat.le_refl _,⟨⟨(Zb3 m).1,(Zb3 m).2⟩,trivial⟩,trivial,rfl,rfl⟩
  | cons x r =>
   obtain ⟨hxf,hxs⟩:=h5 x (by simp)
   have hr5:∀ y∈r,y.1.fit∧y.2.size<99999999:=fun y hy=>h5 y (by simp [hy])
   have hrl:=Ybw r
   rw [stN] at h4
   have hp1:=Zdk x.1
   have hfh:=Zj2 hxf
   unfold In64 at hfh
   have hw1:IntKind.i64.wrap ((r.length:Int)+1 - 1)=r.length:=by rw [Zab (by omega)];omega
   have hpos:(0:Int)<r.length+1:=by omega
   have hwv:IntKind.i64.wrap (-1 - x.1.head) = -1 - x.1.head:=Zab (by omega)
   have hA:stA (x :: r)++j1=stA r++x.1.toA :: j1:=by rw [Ygd];simp
   have hB:stB (x :: r)++j2=stB r++x.2.toA :: j2:=by rw [Yg4];simp
   have hgA:(stA r++x.1.toA :: j1).getD r.length .undef=x.1.toA:=by rw [← Zrk r];simp [List.getD]
   have hgB:(stB r++x.2.toA :: j2).getD r.length .undef=x.2.toA:=by rw [← Zsp r];simp [List.getD]
   have hlA:(stA r++x.1.toA :: j1).length=r.length+1+j1.length:=by simp [Zrk];omega
   have hlB:(stB r++x.2.toA :: j2).length=r.length+1+j2.length:=by simp [Zsp];omega
   simp only [go_sem,List.length_cons,hA,hB,Int.natCast_add,Int.natCast_one,hpos,hw1]
   refine EvK.draw [⟨none,[],[5,6]⟩,⟨none,[],[5,6]⟩,⟨none,[],[5,6]⟩,⟨none,[],[5,6]⟩,⟨none,[],[5,6]⟩,⟨none,[],[5,6]⟩,⟨none,[],[5,6]⟩,⟨none,[],[5,6]⟩,⟨some 5,[5],[6]⟩,⟨some 6,[6],[5]⟩,⟨none,[5],[]⟩,⟨none,[6],[]⟩] 5 7 mixed rfl rfl (by decide) ?_
   simp only [go_sem,padS,hlA,hlB,hgA,hgB,Za8]
   refine ⟨⟨by omega,by omega⟩,by omega,⟨by omega,by omega⟩,by omega,?_⟩
   refine EvK.go 1000 ?_
   refine EvK.draw [] 7 7 mixed rfl rfl (by decide) ?_
   simp only [go_sem,padS]
   refine ⟨by omega,by omega,?_⟩
   have hl:∀ n,lowL n (stA r++x.1.toA :: j1)∧lowL n (stB r++x.2.toA :: j2):=fun n=>⟨Zbq (of_eq_true (Ybd r)) ⟨Za7 x.1,Zac (Nat.zero_le _) h2⟩,Zbq (of_eq_true (Zy7 r)) ⟨Za7 x.2,Zac (Nat.zero_le _) h3⟩⟩
   by_cases hv : 0≤-1 - x.1.head
   ·rw [gat,if_pos hv] at h1
    have hlk:=Zlp m (-1 - x.1.head) (.agg [.int .i64 0, .nils])
    cases hf:m.find? (fun c=>c.v == -1 - x.1.head) with
    | some c =>
     rw [hf] at hlk h1
     simp only at h1 hlk
     have hcs:=h6 c (List.mem_of_find?_eq_some hf)
     refine EvK.go 1000 ?_
     simp only [go_sem,hwv,hv,Zdh,hlk,Za8]
     refine VCall.isoT [] (Zf0 c.t x.2 (by omega) (by omega)) (by (try simp only [Za6]);exact Za1 _ _ _) (by simp [go_sem,Za7,Za0]) ?_;simp only [flatR,flatA,flatC,if_true];refine EvK.go 1000 ?_
     by_cases he:c.t=x.2
     ·rw [if_pos he] at h1
      have hms:=Zr2 (x:=.agg [.int .i64 x.2.head, .ps 2 (x.2.args.map Tm.toA)]) (by rw [he,Za6]) hf
      simp only [go_sem,he,Zdh,hms]
      refine ⟨⟨(r,x.1.toA :: j1,x.2.toA :: j2,m),h1,⟨Za7 x.1,h2⟩,⟨Za7 x.2,h3⟩,by simp only;omega,hr5,h6⟩,[],Zb0 rfl ?_,by simp only [stN];omega⟩
      have hl0:=hl 0
      simp only [go_sem,Zb3,Za2 (Zb3 _).1,Za2 (Zb3 _).2,Za2 hl0.1,Za2 hl0.2,hl]
     ·rw [if_neg he] at h1
      subst h1
      simp only [go_sem,he]
      refine EvK.go 1000 ?_
      simp only [go_sem]
      rw [Zax]
      exact ⟨[none],by simp [go_sem],Nat.le_refl _,⟨trivial,trivial⟩,trivial,rfl⟩
    | none =>
     rw [hf] at hlk h1
     simp only at h1 hlk
     have hms:=Zlc (l:=m) (b:=⟨-1 - x.1.head,x.2⟩) (x:=.agg [.int .i64 x.2.head, .ps 2 (x.2.args.map Tm.toA)]) (Za6 _).symm hf
     refine EvK.go 1000 ?_
     simp only [go_sem,hwv,hv,Zdh,hlk,Za8,hms]
     refine ⟨⟨(r,x.1.toA :: j1,x.2.toA :: j2,m++[⟨-1 - x.1.head,x.2⟩]),h1,⟨Za7 x.1,h2⟩,⟨Za7 x.2,h3⟩,by simp only;omega,hr5,fun y hy=>?_⟩,[],Zb0 rfl ?_,by simp only [stN];omega⟩
     ·rcases List.mem_append.1 hy with hy | hy
      ·exact h6 y hy
      ·rw [List.mem_singleton.1 hy];exact hxs
     have hl0:=hl 0
     simp only [go_sem,Zb3,Za2 (Zb3 _).1,Za2 (Zb3 _).2,Za2 hl0.1,Za2 hl0.2,hl]
   ·rw [gat,if_neg hv] at h1
    by_cases c1:x.1.head=x.2.head
    ·by_cases c2:x.1.args.length=x.2.args.length
     ·rw [if_neg (by simp [c1,c2])] at h1
      have hwv2:IntKind.i64.wrap (-1 - x.2.head) = -1 - x.2.head:=by rw [← c1];exact hwv
      have hv2:¬ 0≤-1 - x.2.head:=by rw [← c1];exact hv
      have c3:(x.1.args.length:Int)=x.2.args.length:=by omega
      refine EvK.go 1000 ?_
      simp only [go_sem,hwv2,hv2,c1,c3,List.length_map]
      refine EvK.draw [.no, .no, .no,⟨some 7,[2,7],[]⟩,⟨none,[],[2,7]⟩,⟨none,[],[2,7]⟩,⟨none,[],[2,7]⟩,⟨some 8,[4,8],[]⟩] 7 9 mixed rfl rfl (by decide) ?_
      have htA:(stA r++x.1.toA :: j1).take r.length=stA r:=by rw [← Zrk r,List.take_left]
      have htB:(stB r++x.2.toA :: j2).take r.length=stB r:=by rw [← Zsp r,List.take_left]
      have hal1:=Zaj x.1.args
      have hsz1:=Zay x.1
      simp only [go_sem,padS,hlA,hlB,htA,htB,List.length_map]
      refine ⟨⟨by omega,by omega,by omega⟩,⟨by omega,by omega,by omega⟩,?_⟩
      refine EvK.go 1000 ?_
      simp only [go_sem]
      have hpu:=Ziz x.1 x.2 r
      refine ⟨⟨((x.1.args.zip x.2.args).reverse++r,[],[],m),h1,trivial,trivial,by simp only;omega,fun y hy=>?_,h6⟩,[(2,7),(7,2),(4,8),(8,4)],Zb0 rfl ?_,by simp only [stN];omega⟩
      ·rcases List.mem_append.1 hy with hy | hy
       ·have hy:=List.mem_reverse.1 hy
        have a1:=Zbl (List.of_mem_zip hy).2
        have a2:=Zay x.2
        exact ⟨Zca (Zcx hxf) _ (List.of_mem_zip hy).1,by omega⟩
       ·exact hr5 y hy
      dsimp only
      rw [Yej c2,Yft c2,show ((x.1.args.zip x.2.args).reverse++r).length=r.length+x.1.args.length by simp [c2];omega]
      have lA:∀ n,lowL n (stA r++x.1.args.map Tm.toA):=fun n=>Zbq (of_eq_true (Ybd r)) (Za0 _)
      have lB:∀ n,lowL n (stB r++x.2.args.map Tm.toA):=fun n=>Zbq (of_eq_true (Zy7 r)) (Za0 _)
      have lA0:=lA 0
      have lB0:=lB 0
      simp only [go_sem,Zb3,Za2 (Zb3 _).1,Za2 (Zb3 _).2,Za2 lA0,Za2 lB0,lA,lB,List.append_nil,c2]
     ·rw [if_pos (.inr c2)] at h1
      have hwv2:IntKind.i64.wrap (-1 - x.2.head) = -1 - x.2.head:=by rw [← c1];exact hwv
      have hv2:¬ 0≤-1 - x.2.head:=by rw [← c1];exact hv
      have c3:¬ (x.1.args.length:Int)=x.2.args.length:=by omega
      subst h1
      refine EvK.go 1000 ?_
      simp only [go_sem,hwv2,hv2,c1,c3,List.length_map]
      refine EvK.go 1000 ?_
      simp only [go_sem]
      rw [Zax]
      exact ⟨[none],by simp [go_sem],Nat.le_refl _,⟨trivial,trivial⟩,trivial,rfl⟩
    ·rw [if_pos (.inl c1)] at h1
     subst h1
     refine EvK.go 1000 ?_
     simp only [go_sem,hwv,hv,c1]
     refine EvK.go 1000 ?_
     simp only [go_sem]
     rw [Zax]
     exact ⟨[none],by simp [go_sem],Nat.le_refl _,⟨trivial,trivial⟩,trivial,rfl⟩
end Go.Proofs
