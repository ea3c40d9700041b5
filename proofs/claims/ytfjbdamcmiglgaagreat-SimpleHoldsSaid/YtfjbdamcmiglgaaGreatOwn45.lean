/- Part 45 of my own framework and of the walks of functions: AcsV, Sb, AcsW, Sc, Sd, AcsX, Se, Sf, Sg, Sh, Si, AcsY, AcsZ, Sj, Sk, Sl, Sm, Sn, So, Sp, Sq. -/
import Derived.Test.YtfjbdamcmiglgaaGreatOwn44
import Derived.Lib.Overlaps
import Derived.Sort.Row
import Derived.Sort.Grow
abbrev oW:=@Bool.or_false
abbrev qy:=@List.append_inj
abbrev qz:=@List.find?_cons
abbrev iX:=@List.find?_eq_none
abbrev m8:=@List.mem_map_of_mem
abbrev cb:=@List.mem_of_find?_eq_some
abbrev dn:=@List.mem_reverse
abbrev dx:=@List.of_mem_zip
abbrev ib:=@List.reverse_reverse
abbrev cW:=@List.set_cons_succ
abbrev dc:=@List.set_cons_zero
abbrev cn:=@List.take_append_of_le_length
abbrev iY:=@List.zip_cons_cons
abbrev jV:=@Nat.lt_or_ge
set_option linter.unusedVariables false
set_option linter.unusedSectionVars false
set_option linter.unusedSimpArgs false
namespace Go.dm
open Go
section
variable {P:Program} {X:Nat→Nat→Prop} {base:Nat} {σ:ai} {β β':Env} {w w':World}
theorem RV {M:Nat→Nat→Prop} {v:Value} {s:ah} {b off n sz:Nat} (h:cf w M β v s) (hs:s = .os b off n sz∨∃ c,s = .oc b off n c sz) (hn : 0<n):∃ L c,β b=some L∧L.sz=sz∧n≤c∧off+c≤L.n∧v = .slice (some ⟨L.g,L.o+off*L.sz,none⟩) n c:=by
 rcases hs with rfl | ⟨c,rfl⟩
 ·rcases h.sx with ⟨rfl,_⟩ | ⟨L,c,hL,jT,h1,h2,rfl⟩
  ·exact absurd hn (ji _)
  ·exact ⟨L,c,hL,jT,h1,h2,rfl⟩
 ·rcases h.uv with ⟨rfl,_⟩ | ⟨L,hL,jT,h1,h2,rfl⟩
  ·exact absurd hn (ji _)
  ·exact ⟨L,_,hL,jT,h1,h2,rfl⟩
theorem aq.tu {g : FuncId} {fn : Func} (hf : P.funcs[g]? = some fn) (ff : (fn.name == "runtime.NumGoroutine") = false) (hb : fn.body.isNone = true) (hn : Extern.findNext fn = none) {tS tR e : TypeId}
  (he:Extern.find fn=some (Extern.SlicesOverlaps.overlaps #[tS,tS] #[tR])) (ht:P.underlying tS=some (.slice e)) {l:fj} (hl:aF P e=some l) {s t:ah} {b1 b2 o1 o2 n1 n2 sz:Nat}
  (hs:s = .os b1 o1 n1 sz∨∃ c,s = .oc b1 o1 n1 c sz) (xY:t = .os b2 o2 n2 sz∨∃ c,t = .oc b2 o2 n2 c sz) (hz : 0<sz) (h1 : 0<n1) (h2 : 0<n2) {es1 es2:List ah} {fz1 fz2:Nat} (rX:bP σ b1=some (.row es1 fz1)) (v7:bP σ b2=some (.row es2 fz2)) (eH:b1≠b2)
  {K:ah→ai→Prop} (hk:K (.bool false) σ):aq P (.fn g [] []) [s,t] σ K:=by
 refine aq.sh ?_;intro X base β w vs Kg XC h3 fr cs h4;obtain ⟨x,y,rfl⟩:∃ x y,vs = #[x,y]:=by
  simp at XC
  match vs,XC with
  | ⟨[x,y]⟩,_=>exact ⟨x,y,rfl⟩
 have hx:=h3 0 (by simp);have hy:=h3 1 (by simp);simp only [bn,bu,bm,bI] at hx hy;have ex:(#[x,y]:Array Value).getD 0 undef=x:=rfl;have ey:(#[x,y]:Array Value).getD 1 undef=y:=rfl;rw [ex] at hx;rw [ey] at hy;obtain ⟨L1,c1,k1,k2,k3,k4,rfl⟩:=RV hx hs h1;obtain ⟨L2,c2,q1,q2,q3,q4,rfl⟩:=RV hy xY h2;obtain ⟨B8,m1,m2,m3,d1,e1,m4,m5,m6,m7⟩:=Kg.cw b1 _ (kq rX);obtain rfl:=aP (m1.symm.trans k1);obtain ⟨z6,u1,u2,u3,d2,e2,u4,u5,u6,u7⟩:=Kg.cw b2 _ (kq v7);obtain rfl:=aP (u1.symm.trans q1);have OY:B8.g≠z6.g:=fun e=>eH (Kg.inj b1 b2 _ _ B8 z6 (kq rX) (kq v7) k1 q1 e);obtain ⟨ti,_,z,rD,_⟩:=qE hl;have H9 : 0<d2.size:=by
  have : 1*1≤z6.n*z6.sz:=Nat.mul_le_mul (by omega) (by omega);omega
 have H5:=Lib.run_overlaps_apart (P:=P) w tS tR e ht ti.size (fun w=>uQ rD) ⟨B8.g,B8.o+o1*B8.sz,none⟩ ⟨z6.g,z6.o+o2*z6.sz,none⟩ n1 c1 n2 c2 OY e1 e2 d1.size d2.size
  (by simp only [World.shape?,m4]) (by simp only [World.shape?,u4]) (by omega) (by simp [World.frozen?,m4]) (by simp [World.frozen?,m4])
 have ft:(callFunc g #[.slice (some ⟨B8.g,B8.o+o1*B8.sz,none⟩) n1 c1, .slice (some ⟨z6.g,z6.o+o2*z6.sz,none⟩) n2 c2]).run P w = .ok (.value (.bool false)) w:=by
  rw [run_callFunc_extern hf ff hb hn he,H5];rfl
 refine ⟨_,σ,β, .bool false,w,hk,Kg, .bool false,Ext.refl _ _ _ _,ae _,fr.finish (.bool false),cs,w,?_, .refl _ _⟩;simp only [stepG.apply,if_true,Sem.runT_eq,ft,GStep.bare_after,GStep.bare_go]
theorem WG {enc:Int→Value} (ts:List Int) (off:Nat) (c:Array Value) (k:Nat):(Sort.putCells enc off ts.toArray c).getD k undef=if off≤k∧k<off+ts.length∧k<c.size then enc (ts.getD (k - off) 0) else c.getD k undef:=by
 simp only [Sort.putCells,ak,Array.getElem?_mapIdx];by_cases hk:k<c.size
 ·simp only [aE hk,bM,bx,List.size_toArray];by_cases h:off≤k∧k<off+ts.length
  ·rw [if_pos h,if_pos ⟨h.1,h.2,hk⟩];have h':k - off<ts.length:=by omega
   rw [getElem!_pos ts.toArray _ (by simpa using h')];simp [List.getD,h']
  ·rw [if_neg h,if_neg (fun hh=>h ⟨hh.1,hh.2.1⟩)]
 ·simp [Array.getElem?_eq_none (eA hk),hk]
theorem aq.B0 {g : FuncId} {fn : Func} {c : Code} (hf : P.funcs[g]? = some fn) (hb : fn.body = some c) (ff : (fn.name == "runtime.NumGoroutine") = false) {zs ts : List Int} {b : Nat} (wP : bP σ b = some (.row (zs.map (.int .i64)) 0)) (hlen : ts.length = zs.length)
  (h:∀ (w:World) (cw off cap:Nat),Sort.Holds (Value.int .i64) w cw off zs.toArray→cw<w.heap.size→Calls P g #[.slice (some ⟨cw,off,none⟩) zs.length cap] w fun e w'=>e = .returned (.tuple #[])∧∃ n os,w'=Sort.grow (Sort.putRow (Value.int .i64) (Sort.ahead w n) cw off ts.toArray) os)
  (h0:∀ (a:Option Addr) (cap:Nat) (w:World),Calls P g #[.slice a 0 cap] w fun e w'=>e = .returned (.tuple #[])∧w'=w)
  {K:ah→ai→Prop} (hK:K (.dT []) (cr σ b (.row (ts.map (.int .i64)) 0))):aq P (.fn g [] []) [.os b 0 zs.length 1] σ K:=by
 refine aq.sh ?_;intro X base β w vs h1 h2 h3 fr cs Aq
 have se : ¬ fn.name = "runtime.NumGoroutine" := by simpa using ff
 obtain ⟨x,rfl⟩:∃ x,vs = #[x]:=by
  simp at h2;exact qM.1 h2
 have xO:=h3 0 (by simp);simp only [bn,bu,bm] at xO;have hx:(#[x]:Array Value).getD 0 undef=x:=rfl;rw [hx] at xO;have wL:∀ (w':World) (M':Nat→Nat→Prop),cf w' M' β (.tuple #[]) (.dT []):=fun w' M'=>.dT rfl fun k hk=>by simp at hk
 have kO:∀ us,(callFunc g us).run P w = .ok (.enter g us) w:=fun us=>by simp [callFunc,hf,se,hb]
 rcases xO.sx with ⟨hz,a,L,hL,jT,rfl⟩ | ⟨L,cap,hL,jT,jH,vq,rfl⟩
 ·have Ez:zs=[]:=bg hz;have sT:ts=[]:=bg (by omega);subst Ez;subst sT;obtain ⟨e,w',Cy,⟨rfl,rfl⟩,hc,CK,hl⟩:=h0 a 0 w (fr :: cs);rw [Mi wP] at hK;refine ⟨_,σ,β, .tuple #[],w',hK,h1,wL _ _,Ext.refl _ _ _ _,ae _,Frame.enter P g _ .normal,fr :: cs,w',?_,Steps.trans hc (.one (step_leave_returned hl))⟩;simp only [stepG.apply,if_true,Sem.runT_eq,kO,GStep.bare_after,GStep.bare_go];split
  ·rename_i d s a k e;exact absurd e (Aq _ _ _ _ _)
  ·rfl
 ·obtain ⟨L',q1,q2,q3,cc,ec,q4,q5,q6,q7,q8⟩:=h1.cw b _ (kq wP);obtain rfl:=aP (q1.symm.trans hL);have hlm:(zs.map (ah.int .i64)).length=zs.length:=by simp
  have fJ:L'.n*L'.sz=L'.n:=by rw [jT,Nat.mul_one]
  have mo:∀ j,j<zs.length→cc.getD (L'.o+j) undef = .int .i64 (zs.getD j 0):=fun j hj=>by
   have:=q8 j 0 (by omega) (by omega);rw [jT,Nat.mul_one,cC] at this;rw [show (zs.map (ah.int .i64)).getD j ah.undef = .int .i64 (zs.getD j 0) by simp [List.getD,hj]] at this;exact this.eQ
  have HI:L'.g<w.heap.size:=(aO.1 q4).1;have hH:Sort.Holds (Value.int .i64) w L'.g (L'.o+0*L'.sz) zs.toArray:=fun j hj=>by
   have sS:j<zs.length:=by simpa using hj
   rw [pZ,cC];refine ⟨?_,by simp [World.frozen?,q4]⟩;rw [cell_of_row _ _ _ _ _ _ q4,uO (by omega),mo j sS,getElem!_pos zs.toArray j (by simpa using sS)];simp [List.getD,sS]
  obtain ⟨e,w',Cy,⟨rfl,n,os,rfl⟩,hc,CK,hl⟩:=h w L'.g (L'.o+0*L'.sz) cap hH HI (fr :: cs);rw [pZ,cC] at hc hl;have jI:∀ k,k<w.heap.size→k≠L'.g→(Sort.grow (Sort.putRow (Value.int .i64) (Sort.ahead w n) L'.g L'.o ts.toArray) os).heap[k]? = w.heap[k]?:=fun k hk eH=>by
   rw [Sort.heap_grow_old _ _ (by rw [Sort.size_putRow];exact hk)];simp only [Sort.putRow,Sort.mapBlock,Sort.ahead];rw [jl,if_neg (gQ eH)]
  have pj:(Sort.grow (Sort.putRow (Value.int .i64) (Sort.ahead w n) L'.g L'.o ts.toArray) os).heap[L'.g]? = some (.cells (Sort.putCells (Value.int .i64) L'.o ts.toArray cc) ec (0,0)):=by
   rw [Sort.heap_grow_old _ _ (by rw [Sort.size_putRow];exact HI)];simp only [Sort.putRow,Sort.mapBlock,Sort.ahead];rw [jl,if_pos rfl,q4];rfl
  have Hw:(Sort.putCells (Value.int .i64) L'.o ts.toArray cc).size=cc.size:=by simp [Sort.putCells]
  have ot:∀ o',L'.o≤o'→jr σ β L'.g o':=fun o' Kw=>⟨b,_,L',kq wP,hL,rfl,by simp only [bO.mut];omega⟩;obtain ⟨k1,k2,k3,k4⟩:=Fh h1 b L' (.row (ts.map (.int .i64)) 0) (σ':=cr σ b (.row (ts.map (.int .i64)) 0)) (β':=β) (w':=Sort.grow (Sort.putRow (Value.int .i64) (Sort.ahead w n) L'.g L'.o ts.toArray) os) (E1 _ _ _)
   (fun c x hc hx=>⟨A1 _ _ _ hc hx,fun Lc DQ e=>hc (h1.inj c b x _ Lc L' (A1 _ _ _ hc hx) (kq wP) DQ hL e)⟩) (Cc _ _ _) hL (fun _ _=>rfl) (.inr hL)
   rfl rfl rfl (by simp) jI
   (fun off v ig uj=>by
    have aU:off<L'.o:=jU fun hle=>uj (ot off hle);rw [cell_of_row _ _ _ _ _ _ pj];rw [cell_of_row _ _ _ _ _ _ q4] at ig;obtain ⟨bA,hv⟩:=aO.1 ig;rw [uO (by rw [Hw];exact bA),WG,if_neg (by omega),← uO bA];exact ig)
   (fun _ uj=>absurd (ot _ (ae _)) (uj _)) (fun off hm=>.inl (ot off (by simp only [bO.mut] at hm;omega))) q3 q2
  have hrel:=k4 ⟨_,ec,pj,by rw [Hw];exact q5,by simp only [aj] at q6 ⊢;omega,fun i hi=>by
    simp only [aj] at hi;rw [show (ts.map (ah.int .i64)).getD i ah.undef = .int .i64 (ts.getD i 0) by simp [List.getD,hi],jT];rfl,fun i j hi hj=>by
    simp only [aj] at hi;obtain rfl:j=0:=by omega
    rw [show (ts.map (ah.int .i64)).getD i ah.undef = .int .i64 (ts.getD i 0) by simp [List.getD,hi],jT,Nat.mul_one,cC,WG];simp only [aj] at q6;rw [if_pos ⟨by omega,by omega,by omega⟩,show L'.o+i - L'.o=i by omega];exact .int _ _⟩
  refine ⟨_,_,β, .tuple #[],_,hK,hrel,wL _ _,⟨k1.os,k1.tape,k1.output,k1.size,k1.cell,k1.block,k1.jb,fun _ _=>rfl⟩,Cc _ _ _,Frame.enter P g _ .normal,fr :: cs,w,?_,Steps.trans hc (.one (step_leave_returned hl))⟩;have ho:L'.o+0*L'.sz=L'.o:=by omega
  simp only [bn,bu,ho];simp only [stepG.apply,if_true,Sem.runT_eq,kO,GStep.bare_after,GStep.bare_go];split
  ·rename_i d s a k e;exact absurd e (Aq _ _ _ _ _)
  ·rfl
end
end Go.dm
namespace Go.Proofs
open Go Go.dm
attribute [local go_sem] Nat.reduceAdd Nat.reduceSub Nat.reduceMul Nat.reduceLeDiff Nat.reduceEqDiff Nat.reduceBEq Nat.reduceLT Nat.le_refl Int.natCast_zero Nat.sub_zero List.length_map Int.toNat_natCast Int.natCast_one Int.reduceEq Int.reduceLT Int.reduceLE Int.reduceNe Int.sub_zero Int.zero_add Int.toNat_one
mutual
def Tm.decEq:(a b:Tm)→Decidable (a=b)
 | .mk h ts, .mk k us=>match Int.instDecidableEq h k,Tm.yV ts us with
  | .isTrue e1, .isTrue e2=>.isTrue (by rw [e1,e2])
  | .isFalse e1,_=>.isFalse fun e=>e1 (Tm.mk.inj e).1
  | _, .isFalse e2=>.isFalse fun e=>e2 (Tm.mk.inj e).2
def Tm.yV:(a b:List Tm)→Decidable (a=b)
 | [],[]=>.isTrue rfl
 | [],_ :: _=>.isFalse fun e=>by cases e
 | _ :: _,[]=>.isFalse fun e=>by cases e
 | a :: l,b :: m=>match Tm.decEq a b,Tm.yV l m with
  | .isTrue e1, .isTrue e2=>.isTrue (by rw [e1,e2])
  | .isFalse e1,_=>.isFalse fun e=>e1 (ko e).1
  | _, .isFalse e2=>.isFalse fun e=>e2 (ko e).2
end
instance:DecidableEq Tm:=Tm.decEq
theorem Sn (t:Tm):t = .mk t.head t.args:=by cases t;rfl
theorem po (t:Tm):t.size=1+Tm.bG t.args:=by cases t;simp [Tm.size,Tm.args]
theorem Va {l:List Tm} {x:Tm}:((l++[x]).map Tm.aM).getD l.length .undef=x.aM:=by simp [List.getD]
theorem V9 {l:List Tm} {x:Tm}:((l++[x]).map Tm.aM).take l.length=l.map Tm.aM:=by simp
theorem Y1 {bs:Nat} {z:List ah} {k:KA} (hb:bs≤65536) (hz:z.length=2) (xs:List Tm):eW ⟨2,true,bs,z,k⟩ (xs.map Tm.aM):=by
 refine ⟨fun x hx=>?_,cI,hb,hz⟩;obtain ⟨t,_,rfl⟩:=cB.1 hx;rw [fL];exact ⟨rfl,rfl⟩
@[go_sem] theorem Dk (xs:List Tm):eW ⟨2,true,32,[.int .i64 0, .aW], .struct⟩ (xs.map Tm.aM)=True:=eq_true (Y1 (by decide) rfl xs)
theorem Be (a b:Tm) (ha:a.size<1000000000) (hb:b.size<1000000000):aD Tryz.prog 103 [a.aM,b.aM] (.bool (decide (a=b))):=by
 refine aD.begin (rs:=[.tmp 4]) (m:=54) 1000 Tryz.func103 rfl rfl rfl (by decide) trivial ?_;simp only [go_sem,cZ];refine aG.draw [⟨none,[],[3]⟩,⟨some 2,[2],[3]⟩,⟨none,[],[2]⟩,⟨some 3,[3],[2]⟩,⟨none,[],[3]⟩] 2 4 mixed rfl rfl (by decide) ?_;simp only [go_sem,da,ae,Nat.reduceLT];refine aG.go 1000 ?_;simp only [go_sem];refine aG.gf (ι:={p:List Tm×List Tm // p.1.length=p.2.length∧(p.1=p.2↔a=b)∧Tm.bG p.1≤a.size∧Tm.bG p.2≤b.size}) 1000
  (fun p=>fe 56 [(4, .bool false),(5, .os 0 0 p.1.1.length 2),(6, .os 1 0 p.1.2.length 2)]) (fun p=>[some (.row (p.1.1.map Tm.aM) 0),some (.row (p.1.2.map Tm.aM) 0)]) (fun p=>Tm.bG p.1.1)
  ⟨([a],[b]),by simp [Tm.bG]⟩ [(0,2),(1,3)] ?_ (fun _=>by simp) ?_
 ·refine iz rfl ?_;simp only [go_sem,bW,cK,aK,aV,cZ]
 ·rintro ⟨⟨L,R⟩,hlen,xT,sn,Az⟩;simp only at hlen xT sn Az;rcases List.eq_nil_or_concat L with rfl | ⟨l,x,rfl⟩
  ·obtain rfl:R=[]:=bg hlen.symm;simp only [go_sem,br,km];refine aG.go 1000 ?_;simp only [go_sem];simp [xT.1 rfl]
  ·rcases List.eq_nil_or_concat R with rfl | ⟨r,y,rfl⟩
   ·simp at hlen
   simp only [List.concat_eq_append,az,ax,aS,bq,Nat.add_right_cancel_iff] at hlen;simp only [List.concat_eq_append,EU,Tm.bG,cC] at xT sn Az ⊢;have hll:=oZ l;have FT:=oZ r;have ou:(0:Int)<((l.length+1:Nat):Int):=by omega
   have hw:IntKind.i64.wrap (((l.length+1:Nat):Int) - 1)=(l.length:Int):=by rw [dQ (by omega)];omega
   simp only [go_sem,az,ou,hw];refine aG.draw [⟨none,[],[2,3]⟩,⟨none,[],[2,3]⟩,⟨none,[],[2,3]⟩,⟨none,[],[2,3]⟩,⟨none,[],[2,3]⟩,⟨none,[],[2,3]⟩,⟨none,[],[2,3]⟩,⟨none,[],[2,3]⟩,⟨some 2,[2],[3]⟩,⟨some 3,[3],[2]⟩,⟨none,[2],[]⟩,⟨none,[3],[]⟩] 2 4 mixed rfl rfl (by decide) ?_;have PJ:((l++[x]).map Tm.aM).getD r.length .undef=x.aM:=by rw [← hlen];exact Va
   have uJ:((l++[x]).map Tm.aM).length=r.length+1:=by simp [hlen]
   have BI:((r++[y]).map Tm.aM).length=r.length+1:=by simp
   have Ye:((l++[x]).map Tm.aM).take r.length=l.map Tm.aM:=by rw [← hlen];exact V9
   simp only [go_sem,da,hlen,aR,Va,PJ,uJ,BI,fL]
   (repeat ((with_reducible refine And.intro ?_ ?_); ·omega))
   refine aG.go 1000 ?_;simp only [go_sem];refine aG.draw [] 4 4 mixed rfl rfl (by decide) ?_;simp only [go_sem,da,aR]
   (repeat ((with_reducible refine And.intro ?_ ?_); ·omega))
   refine aG.go 1000 ?_;have pJ:Tm.size x=1+Tm.bG x.args:=po x;have Yd:Tm.size y=1+Tm.bG y.args:=po y;have hxa:=oZ x.args;have xl:=oZ y.args;by_cases c1:x.head=y.head
   ·by_cases c2:x.args.length=y.args.length
    ·have G8:(x.args.length:Int)=y.args.length:=by omega
     simp only [go_sem,c1,G8,aj];refine aG.draw [.no, .no, .no,⟨some 4,[0,4],[]⟩,⟨none,[],[0,4]⟩,⟨none,[],[0,4]⟩,⟨none,[],[0,4]⟩,⟨some 5,[1,5],[]⟩] 4 6 mixed rfl rfl (by decide) ?_;simp only [go_sem,da,az]
     (repeat ((with_reducible refine And.intro ?_ ?_); ·omega))
     refine aG.go 1000 ?_;rw [Ye,V9,← cY,← cY];refine ⟨⟨(l++x.args,r++y.args),⟨by simp [hlen,c2],?_,?_,?_⟩⟩,[(0,4),(1,5)],iz rfl ?_,?_⟩
     ·simp only
      rw [← xT];constructor
      ·intro e;obtain ⟨e1,e2⟩:=qy e hlen;rw [e1,Sn x,Sn y,c1,e2]
      ·intro e;obtain ⟨e1,e2⟩:=qy e hlen;simp only [h_,and_true] at e2;rw [e1,e2]
     ·simp only [EU];omega
     ·simp only [EU];omega
     ·simp only [go_sem,az,bW,cK (bW _),hlen]
     ·simp only [EU,Tm.bG];omega
    ·have G8:¬ (x.args.length:Int)=y.args.length:=by omega
     have eH:¬ a=b:=by
      rw [← xT];intro e;obtain ⟨e1,e2⟩:=qy e hlen;simp only [h_,and_true] at e2;exact c2 (by rw [e2])
     simp only [go_sem,c1,G8];refine aG.go 1000 ?_;simp only [go_sem];simp [eH]
   ·have eH:¬ a=b:=by
     rw [← xT];intro e;obtain ⟨e1,e2⟩:=qy e hlen;simp only [h_,and_true] at e2;exact c1 (by rw [e2])
    simp only [go_sem,c1];refine aG.go 1000 ?_;simp only [go_sem];simp [eH]
end Go.Proofs
namespace Go.dm
open Go
def j7 (P:Program) (g:FuncId) (args:List ah) (r0:ah) (wj:ai):Prop:=cg P g args [] (fun r σ'=>r=r0∧σ' = wj)∧r0.low wj.length∧bD wj.length wj
def up (n b:Nat):Nat:=b+n
def B5 (n:Nat) (τ:ai):ai:=τ.map (Option.map (ef (up n)))
section
variable {P:Program} {X:Nat→Nat→Prop} {base:Nat} {σ:ai} {β β':Env} {w w':World}
theorem aq.tree {g:FuncId} {first captured args args':List ah} {K:ah→ai→Prop} (bs:List Nat) (hp:lj (among bs) σ args' (first++args++captured))
  (h:cg P g args' (gD (among bs) 0 σ) K):aq P (.fn g first captured) args σ K:=by
 refine aq.sh ?_;intro X base β w vs h1 h2 h3 fr cs h4;have oM:=A8 (among bs) σ;generalize zD:gD (among bs) 0 σ = lI at *
 have hf:=oM.pf;have yu:=h1.pf hf;obtain ⟨e1,e2⟩:=uT yu oM args' hp;have e3:∀ k,k<args'.length→cf w (MT X lI β) β (vs.getD k undef) (args'.getD k .undef):=fun k e7=>(e2 k e7).1 _ ((h3 k (by omega)).mono (Ci hf) (fun _ _ h=>h));obtain ⟨r',σ',β',v,w',g0,g1,g2,g3,g4,g5⟩:=h X base β w vs yu (by omega) e3 fr cs h4;refine ⟨r',σ',β',v,w',g0,g1,g2,⟨g3.os,g3.tape,g3.output,g3.size,fun g o v hc hn=>g3.cell g o v hc fun hm=>hn (hm.pf hf),fun g hg hn=>g3.block g hg fun o hm=>hn o (hm.pf hf),fun g o hm=>(g3.jb g o hm).imp (fun h=>h.pf hf) id,fun b hb=>g3.env b (by rw [hf.len];exact hb)⟩,by rw [hf.len] at g4;exact g4,g5⟩
theorem cg.v {F:Frame→List Frame→Sem Next→World→Value→World→Prop} {g:FuncId} {args:List ah} {K:ah→ai→Prop} (h:ix P F g args σ K):dJ P F (.fn g [] []) args σ K :=
 aq.sh (by simpa using h)
theorem dJ.c {F:Frame→List Frame→Sem Next→World→Value→World→Prop} {g:FuncId} {args:List ah} {K:ah→ai→Prop} (h:dJ P F (.fn g [] []) args σ K):ix P F g args σ K:=by
 intro X base β w vs h1 h2 h3 fr cs h4;obtain ⟨r,σ',β',v,w',q,g1,g2,g3,g4,g5⟩:=h X base β w (.func (.func g) #[] #[]) vs h1 (.fn rfl rfl (fun k hk=>by simp at hk) fun k hk=>by simp at hk) h2 h3 fr cs h4;refine ⟨r,σ',β',v,w',q,g1,g2,g3,g4,?_⟩;have:(do let d ← Deferred.ofValue (.func (.func g) #[] #[]) vs;invoke d.target d.args:Sem Next)=callFunc g vs:=by
  show callFunc g (#[]++vs++#[])=callFunc g vs;simp
 rw [← this];exact g5
theorem Qm (n:Nat):om 0 n=up n:=funext fun b=>by simp [om,up]
theorem j7.at {g:FuncId} {args:List ah} {r0:ah} {wj:ai} (hc:j7 P g args r0 wj) (hl:bF 0 args) {K:ah→ai→Prop} (hk:K (ek (up σ.length) r0) (σ++B5 σ.length wj)):cg P g args σ K:=by
 refine dJ.c ?_;have:=aq.C0 (P:=P) (σ:=[]) (τ:=σ) (f:=.fn g [] []) (args:=args) (K:=K) ⟨trivial,trivial⟩ hl trivial ((cg.v hc.1).mono ?_)
 ·simpa using this
 rintro r σ' ⟨rfl,rfl⟩;refine ⟨σ',f_ _,au _,hc.2.2,hc.2.1,?_⟩;have e:mw ([]:ai).length σ.length σ σ' = σ++B5 σ.length σ':=by
  simp [mw,Qm,B5]
 rw [e];have e2:om ([]:ai).length σ.length=up σ.length:=Qm _;rw [e2];exact hk
theorem aq.ur {g:FuncId} {first captured args args':List ah} {K:ah→ai→Prop} {r0:ah} {wj:ai} (bs:List Nat) (hc:j7 P g args' r0 wj) (hp:lj (among bs) σ args' (first++args++captured)) (hl:bF 0 args')
  (hk:K (ek (up σ.length) r0) (gD (among bs) 0 σ++B5 σ.length wj)):aq P (.fn g first captured) args σ K:=by
 refine aq.tree bs hp (hc.at hl ?_);rw [JG];exact hk
theorem j7.begin {g:FuncId} {fn:Func} {c:Code} {args:List ah} {r0:ah} {wj:ai} {m:Nat} {rs:List ResultVar} (n:Nat) (hf:P.funcs[g]? = some fn) (hb:fn.body=some c) (hr:fn.results.toList=rs) (hm:fn.ntmps - args.length=m)
  (ff : (fn.name == "runtime.NumGoroutine") = false) (h1 : r0.low wj.length) (h2 : bD wj.length wj)
  (h:eF P ⟨0,none⟩ (rq P rs (na (fun r σ'=>r=r0∧σ' = wj) 0)) n [.code c] .normal (args++List.replicate m .undef) []):j7 P g args r0 wj :=
 ⟨cg.o9 n hf hb hr hm ff h,h1,h2⟩
theorem Bj {n:Nat}:B5 n []=[]:=rfl
theorem Bc {n:Nat} {τ:ai}:B5 n (none :: τ)=none :: B5 n τ:=rfl
theorem A9 {n:Nat} {b:bO} {τ:ai}:B5 n (some b :: τ)=some (ef (up n) b) :: B5 n τ:=rfl
theorem Bl {π:Nat→Nat} {b o n s:Nat}:ek π (.os b o n s) = .os (π b) o n s:=rfl
theorem yl {π:Nat→Nat} {es:List ah} {fz:Nat}:ef π (.row es fz) = .row (eK π es) fz:=rfl
end
end Go.dm
namespace Go.Proofs
open Go Go.dm
attribute [local go_sem] Nat.reduceAdd Nat.reduceSub Nat.reduceMul Nat.reduceLeDiff Nat.reduceEqDiff Nat.reduceBEq Nat.reduceLT Nat.le_refl Int.natCast_zero Nat.sub_zero List.length_map Int.toNat_natCast Int.natCast_one Int.reduceEq Int.reduceLT Int.reduceLE Int.reduceNe Int.sub_zero Int.zero_add Int.toNat_one
def dp (l:List (List Li)):List ah:=l.map fun c=>.ps 5 (lits c)
theorem m9 (l:List (List Li)):(dp l).length=l.length:=by simp [dp]
theorem fO {n:Nat} (l:List (List Li)):bF n (dp l):=uU fun c _=>cy c
theorem Ae {l:List (List Li)} {i:Nat} (h:i<l.length):(dp l).getD i .undef = .ps 5 (lits l[i]):=by simp [dp,List.getD,h]
@[go_sem] theorem N0 (l:List Li):eW ⟨5,true,72,[.bool false, .int .i64 0, .aW, .int .i64 0, .aW], .struct⟩ (lits l)=True:=eq_true (by
 refine ⟨fun x hx=>?_,by decide,by decide,rfl⟩;obtain ⟨t,_,rfl⟩:=cB.1 hx;rw [kH];exact ⟨rfl,rfl⟩)
@[go_sem] theorem Yw6 (l:List (List Li)):eW ⟨1,false,24,[.aW], .slice⟩ (dp l)=True:=eq_true (by
 refine ⟨fun x hx=>?_,by decide,by decide,rfl⟩;obtain ⟨t,_,rfl⟩:=cB.1 hx;exact ⟨rfl,rfl⟩)
@[go_sem] theorem Ytu (l:List Int):eW ⟨1,false,8,[.int .i64 0], .int .i64⟩ (ints l)=True:=eq_true (by
 refine ⟨fun x hx=>?_,by decide,by decide,rfl⟩;obtain ⟨t,_,rfl⟩:=cB.1 hx;exact ⟨rfl,rfl⟩)
theorem Gg (l:List Tm) (h:l≠[]) (hl:l.length≤1000000000):j7 Tryz.prog 200 [.ps 2 (l.map Tm.aM)] (.os 1 0 l.length 2) [none,some (.row (l.map Tm.aM) 0)]:=by
 have h0:¬ l.length=0:=fun e=>h (bg e);refine j7.begin (rs:=[.tmp 2]) (m:=7) 1000 Tryz.func200 rfl rfl rfl rfl (by simp [go_sem]) (by simp [go_sem,bW]) ?_;simp only [go_sem,aj,h0]
 (repeat ((with_reducible refine And.intro ?_ ?_); ·omega))
 rw [gC];exact ⟨_,f_ _,au _,by simp [go_sem,bW],by simp [go_sem],by simp,rfl⟩
theorem Zvh:cg Tryz.prog 200 [.ps 2 []] [] (fun r σ'=>r = .aW∧σ'=[]∨r = .os 1 0 0 2∧σ'=[none,some (.row [] 0)]):=by
 refine cg.o9 (rs:=[.tmp 2]) (m:=7) 1000 Tryz.func200 rfl rfl rfl rfl ?_;simp only [go_sem];refine ⟨?_,by simp [eW],?_⟩
 ·rw [gC];exact ⟨[],f_ _,ae _,trivial,trivial, .inl ⟨rfl,rfl⟩⟩
 ·rw [gC];exact ⟨_,f_ _,au _,by simp [go_sem],by simp [go_sem], .inr ⟨rfl,rfl⟩⟩
theorem IX (l:List Li) (h:l≠[]) (hl:l.length≤1000000000):j7 Tryz.prog 72 [.ps 5 (lits l)] (.os 1 0 l.length 5) [none,some (.row (lits l) 0)]:=by
 have h0:¬ l.length=0:=fun e=>h (bg e);refine j7.begin (rs:=[.tmp 2]) (m:=7) 1000 Tryz.func72 rfl rfl rfl rfl (by simp [go_sem]) (by simp [go_sem,cy]) ?_;simp only [go_sem,fR,h0]
 (repeat ((with_reducible refine And.intro ?_ ?_); ·omega))
 rw [gC];exact ⟨_,f_ _,au _,by simp [go_sem,cy],by simp [go_sem],by simp,rfl⟩
theorem Uk (l:List (List Li)) (h:l≠[]) (hl:l.length≤1000000000):j7 Tryz.prog 27 [.ps 1 (dp l)] (.os 1 0 l.length 1) [none,some (.row (dp l) 0)]:=by
 have h0:¬ l.length=0:=fun e=>h (bg e);refine j7.begin (rs:=[.tmp 2]) (m:=7) 1000 Tryz.func27 rfl rfl rfl rfl (by simp [go_sem]) (by simp [go_sem,fO]) ?_;simp only [go_sem,m9,h0]
 (repeat ((with_reducible refine And.intro ?_ ?_); ·omega))
 rw [gC];exact ⟨_,f_ _,au _,by simp [go_sem,fO],by simp [go_sem],by simp,rfl⟩
theorem Tk:cg Tryz.prog 27 [.ps 1 []] [] (fun r σ'=>r = .aW∧σ'=[]∨r = .os 1 0 0 1∧σ'=[none,some (.row [] 0)]):=by
 refine cg.o9 (rs:=[.tmp 2]) (m:=7) 1000 Tryz.func27 rfl rfl rfl rfl ?_;simp only [go_sem];refine ⟨?_,by simp [eW],?_⟩
 ·rw [gC];exact ⟨[],f_ _,ae _,trivial,trivial, .inl ⟨rfl,rfl⟩⟩
 ·rw [gC];exact ⟨_,f_ _,au _,by simp [go_sem],by simp [go_sem], .inr ⟨rfl,rfl⟩⟩
theorem Zx6 (l:List Int) (h:l≠[]) (hl:l.length≤1000000000):j7 Tryz.prog 207 [.ps 1 (ints l)] (.os 1 0 l.length 1) [none,some (.row (ints l) 0)]:=by
 have h0:¬ l.length=0:=fun e=>h (bg e);refine j7.begin (rs:=[.tmp 2]) (m:=7) 1000 Tryz.func207 rfl rfl rfl rfl (by simp [go_sem]) (by simp [go_sem,dq]) ?_;simp only [go_sem,iZ,h0]
 (repeat ((with_reducible refine And.intro ?_ ?_); ·omega))
 rw [gC];exact ⟨_,f_ _,au _,by simp [go_sem,dq],by simp [go_sem],by simp,rfl⟩
theorem Zrq:cg Tryz.prog 207 [.ps 1 []] [] (fun r σ'=>r = .aW∧σ'=[]∨r = .os 1 0 0 1∧σ'=[none,some (.row [] 0)]):=by
 refine cg.o9 (rs:=[.tmp 2]) (m:=7) 1000 Tryz.func207 rfl rfl rfl rfl ?_;simp only [go_sem];refine ⟨?_,by simp [eW],?_⟩
 ·rw [gC];exact ⟨[],f_ _,ae _,trivial,trivial, .inl ⟨rfl,rfl⟩⟩
 ·rw [gC];exact ⟨_,f_ _,au _,by simp [go_sem],by simp [go_sem], .inr ⟨rfl,rfl⟩⟩
theorem Bi {σ:ai} {b:Nat} {x:bO} (h:bP σ b=some x):b < σ.length:=(aJ.1 (kq h)).1
theorem Ydo (σ:ai) (c:ah) (p:Li→Bool) (l:List Li) (hl:l.length<2 ^ 62) (hs:bD σ.length σ) (hc:c.low σ.length)
  (hp:∀ (i:Nat) (h:i<l.length),aq Tryz.prog c [l[i].aM] σ (fun r σ'=>r = .bool (p l[i])∧σ' = σ)) :
  aq Tryz.prog (.fn 101 [] []) [.ps 5 (lits l),c] σ (fun r σ'=>r = .int .i64 (ei p l 0)∧σ' = σ):=by
 refine aq.begin (rs:=[.tmp 4]) (m:=17) 1000 Tryz.func101 rfl rfl rfl rfl rfl ?_;simp only [go_sem,fR];refine aG.cO (ι:={i:Nat // i≤l.length∧ei p (l.drop i) i=ei p l 0}) 1000 (fun i=>fe 19 [(0, .ps 5 (lits l)),(1,c),(7, .int .i64 l.length),(8, .int .i64 i.1)]) (fun _=>σ) (fun i=>l.length - i.1) ⟨0,by simp⟩ ?_ (fun _=>ae _) ?_
 ·simp only [go_sem,cy,fR,hc,hs];exact f_ σ
 ·rintro ⟨i,hi,aN⟩;by_cases bA:(i:Int)<l.length
  ·have aU:i<l.length:=by omega
   have hd:ei p (l.drop i) i=if p l[i] then (i:Int) else ei p (l.drop (i+1)) ((i:Int)+1):=by
    rw [ao aU];rfl
   simp only [go_sem,bA,fR,tz aU,kH]
   (repeat ((with_reducible refine And.intro ?_ ?_); ·omega))
   refine (hp i aU).mono ?_;rintro r σ' ⟨rfl,rfl⟩;refine aG.go 1000 ?_;cases e:p l[i] with
   | true =>
    rw [hd,e,if_pos rfl] at aN;simp only [go_sem];refine aG.go 1000 ?_;simp only [go_sem,← aN];rw [gC];exact ⟨σ',f_ σ',ae _,hs,trivial,rfl,rfl⟩
   | false =>
    rw [hd,e,if_neg (by decide)] at aN;simp only [go_sem];refine ⟨⟨i+1,aU,aN⟩,?_,by simp only;omega⟩;simp only [go_sem,cy,hc,hs];rw [dQ (by omega)];exact ⟨rfl,f_ σ'⟩
  ·have dZ:i=l.length:=by omega
   subst dZ;rw [aX] at aN;simp only [go_sem,bA];refine aG.go 1000 ?_;simp only [go_sem,← aN];rw [gC];exact ⟨σ,f_ σ,ae _,hs,trivial,rfl,rfl⟩
theorem IF (σ:ai) (c:ah) (p:Li→Bool) (l:List Li) (hl:l.length<2 ^ 62) (hs:bD σ.length σ) (hc:c.low σ.length)
  (hp:∀ (i:Nat) (h:i<l.length),aq Tryz.prog c [l[i].aM] σ (fun r σ'=>r = .bool (p l[i])∧σ' = σ)) :
  aq Tryz.prog (.fn 63 [] []) [.ps 5 (lits l),c] σ (fun r σ'=>r = .bool (l.any p)∧σ' = σ):=by
 refine aq.begin (rs:=[.tmp 4]) (m:=7) 1000 Tryz.func63 rfl rfl rfl rfl rfl ?_;simp only [go_sem];refine (Ydo σ c p l hl hs hc hp).mono ?_;rintro r σ' ⟨rfl,rfl⟩;refine aG.go 1000 ?_;simp only [go_sem];rw [gC,Dj p l 0 (by omega)];exact ⟨σ',f_ σ',ae _,hs,trivial,rfl,rfl⟩
theorem Tx (σ:ai) {b:Nat} (c:ah) (p:Li→Bool) (l:List Li) (hb:bP σ b=some (.row (lits l) 0)) (hl:l.length<2 ^ 62) (hs:bD σ.length σ) (hc:c.low σ.length)
  (hp:∀ (i:Nat) (h:i<l.length),aq Tryz.prog c [l[i].aM] σ (fun r σ'=>r = .bool (p l[i])∧σ' = σ)) :
  aq Tryz.prog (.fn 101 [] []) [.os b 0 l.length 5,c] σ (fun r σ'=>r = .int .i64 (ei p l 0)∧σ' = σ):=by
 refine aq.begin (rs:=[.tmp 4]) (m:=17) 1000 Tryz.func101 rfl rfl rfl rfl rfl ?_;simp only [go_sem,fR];refine aG.cO (ι:={i:Nat // i≤l.length∧ei p (l.drop i) i=ei p l 0}) 1000 (fun i=>fe 19 [(0, .os b 0 l.length 5),(1,c),(7, .int .i64 l.length),(8, .int .i64 i.1)]) (fun _=>σ) (fun i=>l.length - i.1) ⟨0,by simp⟩ ?_ (fun _=>ae _) ?_
 ·simp only [go_sem,cy,fR,hc,hs];exact ⟨f_ σ,Bi hb⟩
 ·rintro ⟨i,hi,aN⟩;by_cases bA:(i:Int)<l.length
  ·have aU:i<l.length:=by omega
   have hd:ei p (l.drop i) i=if p l[i] then (i:Int) else ei p (l.drop (i+1)) ((i:Int)+1):=by
    rw [ao aU];rfl
   simp only [go_sem,bA,fR,tz aU,kH,hb]
   (repeat ((with_reducible refine And.intro ?_ ?_); ·omega))
   refine (hp i aU).mono ?_;rintro r σ' ⟨rfl,rfl⟩;refine aG.go 1000 ?_;cases e:p l[i] with
   | true =>
    rw [hd,e,if_pos rfl] at aN;simp only [go_sem];refine aG.go 1000 ?_;simp only [go_sem,← aN];rw [gC];exact ⟨σ',f_ σ',ae _,hs,trivial,rfl,rfl⟩
   | false =>
    rw [hd,e,if_neg (by decide)] at aN;simp only [go_sem];refine ⟨⟨i+1,aU,aN⟩,?_,by simp only;omega⟩;simp only [go_sem,cy,hc,hs];rw [dQ (by omega)];exact ⟨rfl,f_ σ',Bi hb⟩
  ·have dZ:i=l.length:=by omega
   subst dZ;rw [aX] at aN;simp only [go_sem,bA];refine aG.go 1000 ?_;simp only [go_sem,← aN];rw [gC];exact ⟨σ,f_ σ,ae _,hs,trivial,rfl,rfl⟩
theorem Ut (σ:ai) (c:ah) (p:Tm→Bool) (l:List Tm) (hl:l.length<2 ^ 62) (hs:bD σ.length σ) (hc:c.low σ.length)
  (hp:∀ (i:Nat) (h:i<l.length),aq Tryz.prog c [l[i].aM] σ (fun r σ'=>r = .bool (p l[i])∧σ' = σ)) :
  aq Tryz.prog (.fn 174 [] []) [.ps 2 (l.map Tm.aM),c] σ (fun r σ'=>r = .int .i64 (ei p l 0)∧σ' = σ):=by
 refine aq.begin (rs:=[.tmp 4]) (m:=17) 1000 Tryz.func174 rfl rfl rfl rfl rfl ?_;simp only [go_sem,aj];refine aG.cO (ι:={i:Nat // i≤l.length∧ei p (l.drop i) i=ei p l 0}) 1000 (fun i=>fe 19 [(0, .ps 2 (l.map Tm.aM)),(1,c),(7, .int .i64 l.length),(8, .int .i64 i.1)]) (fun _=>σ) (fun i=>l.length - i.1) ⟨0,by simp⟩ ?_ (fun _=>ae _) ?_
 ·simp only [go_sem,bW,aj,hc,hs];exact f_ σ
 ·rintro ⟨i,hi,aN⟩;by_cases bA:(i:Int)<l.length
  ·have aU:i<l.length:=by omega
   have hd:ei p (l.drop i) i=if p l[i] then (i:Int) else ei p (l.drop (i+1)) ((i:Int)+1):=by
    rw [ao aU];rfl
   simp only [go_sem,bA,aj,mC aU,fL]
   (repeat ((with_reducible refine And.intro ?_ ?_); ·omega))
   have H3:=hp i aU;rw [cZ] at H3;refine H3.mono ?_;rintro r σ' ⟨rfl,rfl⟩;refine aG.go 1000 ?_;cases e:p l[i] with
   | true =>
    rw [hd,e,if_pos rfl] at aN;simp only [go_sem];refine aG.go 1000 ?_;simp only [go_sem,← aN];rw [gC];exact ⟨σ',f_ σ',ae _,hs,trivial,rfl,rfl⟩
   | false =>
    rw [hd,e,if_neg (by decide)] at aN;simp only [go_sem];refine ⟨⟨i+1,aU,aN⟩,?_,by simp only;omega⟩;simp only [go_sem,bW,hc,hs];rw [dQ (by omega)];exact ⟨rfl,f_ σ'⟩
  ·have dZ:i=l.length:=by omega
   subst dZ;rw [aX] at aN;simp only [go_sem,bA];refine aG.go 1000 ?_;simp only [go_sem,← aN];rw [gC];exact ⟨σ,f_ σ,ae _,hs,trivial,rfl,rfl⟩
theorem Lb (σ:ai) (c:ah) (p:Tm→Bool) (l:List Tm) (hl:l.length<2 ^ 62) (hs:bD σ.length σ) (hc:c.low σ.length)
  (hp:∀ (i:Nat) (h:i<l.length),aq Tryz.prog c [l[i].aM] σ (fun r σ'=>r = .bool (p l[i])∧σ' = σ)) :
  aq Tryz.prog (.fn 144 [] []) [.ps 2 (l.map Tm.aM),c] σ (fun r σ'=>r = .bool (l.any p)∧σ' = σ):=by
 refine aq.begin (rs:=[.tmp 4]) (m:=7) 1000 Tryz.func144 rfl rfl rfl rfl rfl ?_;simp only [go_sem];refine (Ut σ c p l hl hs hc hp).mono ?_;rintro r σ' ⟨rfl,rfl⟩;refine aG.go 1000 ?_;simp only [go_sem];rw [gC,Dj p l 0 (by omega)];exact ⟨σ',f_ σ',ae _,hs,trivial,rfl,rfl⟩
theorem Zxe (σ:ai) {b:Nat} (c:ah) (p:Tm→Bool) (l:List Tm) (hb:bP σ b=some (.row (l.map Tm.aM) 0)) (hl:l.length<2 ^ 62) (hs:bD σ.length σ) (hc:c.low σ.length)
  (hp:∀ (i:Nat) (h:i<l.length),aq Tryz.prog c [l[i].aM] σ (fun r σ'=>r = .bool (p l[i])∧σ' = σ)) :
  aq Tryz.prog (.fn 174 [] []) [.os b 0 l.length 2,c] σ (fun r σ'=>r = .int .i64 (ei p l 0)∧σ' = σ):=by
 refine aq.begin (rs:=[.tmp 4]) (m:=17) 1000 Tryz.func174 rfl rfl rfl rfl rfl ?_;simp only [go_sem,aj];refine aG.cO (ι:={i:Nat // i≤l.length∧ei p (l.drop i) i=ei p l 0}) 1000 (fun i=>fe 19 [(0, .os b 0 l.length 2),(1,c),(7, .int .i64 l.length),(8, .int .i64 i.1)]) (fun _=>σ) (fun i=>l.length - i.1) ⟨0,by simp⟩ ?_ (fun _=>ae _) ?_
 ·simp only [go_sem,bW,aj,hc,hs];exact ⟨f_ σ,Bi hb⟩
 ·rintro ⟨i,hi,aN⟩;by_cases bA:(i:Int)<l.length
  ·have aU:i<l.length:=by omega
   have hd:ei p (l.drop i) i=if p l[i] then (i:Int) else ei p (l.drop (i+1)) ((i:Int)+1):=by
    rw [ao aU];rfl
   simp only [go_sem,bA,aj,mC aU,fL,hb]
   (repeat ((with_reducible refine And.intro ?_ ?_); ·omega))
   have H3:=hp i aU;rw [cZ] at H3;refine H3.mono ?_;rintro r σ' ⟨rfl,rfl⟩;refine aG.go 1000 ?_;cases e:p l[i] with
   | true =>
    rw [hd,e,if_pos rfl] at aN;simp only [go_sem];refine aG.go 1000 ?_;simp only [go_sem,← aN];rw [gC];exact ⟨σ',f_ σ',ae _,hs,trivial,rfl,rfl⟩
   | false =>
    rw [hd,e,if_neg (by decide)] at aN;simp only [go_sem];refine ⟨⟨i+1,aU,aN⟩,?_,by simp only;omega⟩;simp only [go_sem,bW,hc,hs];rw [dQ (by omega)];exact ⟨rfl,f_ σ',Bi hb⟩
  ·have dZ:i=l.length:=by omega
   subst dZ;rw [aX] at aN;simp only [go_sem,bA];refine aG.go 1000 ?_;simp only [go_sem,← aN];rw [gC];exact ⟨σ,f_ σ,ae _,hs,trivial,rfl,rfl⟩
theorem Ycw (σ:ai) (c:ah) (p:Int→Bool) (l:List Int) (hl:l.length<2 ^ 62) (hs:bD σ.length σ) (hc:c.low σ.length)
  (hp:∀ (i:Nat) (h:i<l.length),aq Tryz.prog c [(.int .i64 l[i])] σ (fun r σ'=>r = .bool (p l[i])∧σ' = σ)) :
  aq Tryz.prog (.fn 185 [] []) [.ps 1 (ints l),c] σ (fun r σ'=>r = .int .i64 (ei p l 0)∧σ' = σ):=by
 refine aq.begin (rs:=[.tmp 4]) (m:=17) 1000 Tryz.func185 rfl rfl rfl rfl rfl ?_;simp only [go_sem,iZ];refine aG.cO (ι:={i:Nat // i≤l.length∧ei p (l.drop i) i=ei p l 0}) 1000 (fun i=>fe 19 [(0, .ps 1 (ints l)),(1,c),(7, .int .i64 l.length),(8, .int .i64 i.1)]) (fun _=>σ) (fun i=>l.length - i.1) ⟨0,by simp⟩ ?_ (fun _=>ae _) ?_
 ·simp only [go_sem,dq,iZ,hc,hs];exact f_ σ
 ·rintro ⟨i,hi,aN⟩;by_cases bA:(i:Int)<l.length
  ·have aU:i<l.length:=by omega
   have hd:ei p (l.drop i) i=if p l[i] then (i:Int) else ei p (l.drop (i+1)) ((i:Int)+1):=by
    rw [ao aU];rfl
   simp only [go_sem,bA,iZ,s0 aU,Vk]
   (repeat ((with_reducible refine And.intro ?_ ?_); ·omega))
   refine (hp i aU).mono ?_;rintro r σ' ⟨rfl,rfl⟩;refine aG.go 1000 ?_;cases e:p l[i] with
   | true =>
    rw [hd,e,if_pos rfl] at aN;simp only [go_sem];refine aG.go 1000 ?_;simp only [go_sem,← aN];rw [gC];exact ⟨σ',f_ σ',ae _,hs,trivial,rfl,rfl⟩
   | false =>
    rw [hd,e,if_neg (by decide)] at aN;simp only [go_sem];refine ⟨⟨i+1,aU,aN⟩,?_,by simp only;omega⟩;simp only [go_sem,dq,hc,hs];rw [dQ (by omega)];exact ⟨rfl,f_ σ'⟩
  ·have dZ:i=l.length:=by omega
   subst dZ;rw [aX] at aN;simp only [go_sem,bA];refine aG.go 1000 ?_;simp only [go_sem,← aN];rw [gC];exact ⟨σ,f_ σ,ae _,hs,trivial,rfl,rfl⟩
theorem Zno (σ:ai) (c:ah) (p:Int→Bool) (l:List Int) (hl:l.length<2 ^ 62) (hs:bD σ.length σ) (hc:c.low σ.length)
  (hp:∀ (i:Nat) (h:i<l.length),aq Tryz.prog c [(.int .i64 l[i])] σ (fun r σ'=>r = .bool (p l[i])∧σ' = σ)) :
  aq Tryz.prog (.fn 163 [] []) [.ps 1 (ints l),c] σ (fun r σ'=>r = .bool (l.any p)∧σ' = σ):=by
 refine aq.begin (rs:=[.tmp 4]) (m:=7) 1000 Tryz.func163 rfl rfl rfl rfl rfl ?_;simp only [go_sem];refine (Ycw σ c p l hl hs hc hp).mono ?_;rintro r σ' ⟨rfl,rfl⟩;refine aG.go 1000 ?_;simp only [go_sem];rw [gC,Dj p l 0 (by omega)];exact ⟨σ',f_ σ',ae _,hs,trivial,rfl,rfl⟩
end Go.Proofs
namespace Go.dm
open Go
theorem cf.sA {w:World} {M:Nat→Nat→Prop} {β β':Env} {π:Nat→Nat} {n:Nat} {v:Value} {a:ah} (h:cf w M β' v a):a.low n→(∀ b,b<n→β (π b) = β' b)→cf w M β v (dm.ek π a):=by
 intro hl hβ
 induction h with
 | undef v=>exact .undef v
 | bool b=>exact .bool b
 | iH b=>exact .iH b
 | int k n=>exact .int k n
 | str s=>exact .str s
 | bY=>exact .bY
 | ptr h=>exact .ptr ((hβ _ hl).trans h)
 | rp h=>exact .rp ((hβ _ hl).trans h)
 | @pp g o cs cv hc _ ih =>
  simp only [dm.ek];refine .pp cv (fun k hk=>hc k (by rw [jW] at hk;exact hk)) fun k hk=>?_;rw [jW] at hk;rw [l5];exact ih k hk (jz hl k)
 | aW a=>exact .aW a
 | @ps a cap sz es cv jH fJ hc ha _ ih =>
  simp only [dm.ek];have e:(eK π es).length=es.length:=jW π es;rw [← e];refine .ps cv (by rw [e];exact jH) (fun i hi=>?_) (fun i j hi hj=>hc i j (by rw [e] at hi;exact hi) hj) (fun h0=>ha (by rw [e] at h0;exact h0)) (fun i j hi hj=>?_)
  ·rw [l5,Ch,jW];exact fJ i (by rw [e] at hi;exact hi)
  ·rw [l5,Ch,l5];exact ih i j (by rw [e] at hi;exact hi) hj (jz (E_ (jz hl i)) j)
 | tU a h=>exact .tU a ((hβ _ hl).trans h)
 | os h h1 h2=>exact .os ((hβ _ hl).trans h) h1 h2
 | tQ a h=>exact .tQ a ((hβ _ hl).trans h)
 | oc h h1 h2=>exact .oc ((hβ _ hl).trans h) h1 h2
 | aA=>exact .aA
 | fn h1 h2 _ _ lh pq =>
  simp only [dm.ek];refine .fn (by rw [jW];exact h1) (by rw [jW];exact h2) (fun k hk=>?_) (fun k hk=>?_)
  ·rw [jW] at hk;rw [l5];exact lh k hk (jz hl.1 k)
  ·rw [jW] at hk;rw [l5];exact pq k hk (jz hl.2 k)
 | lN h=>exact .lN ((hβ _ hl).trans h)
 | cM=>exact .cM
 | map h=>exact .map ((hβ _ hl).trans h)
 | pm hg hm h1 h2 _ _ hb lh pq =>
  simp only [dm.ek];refine .pm hg hm (by rw [jW];exact h1) (by rw [jW,jW];exact h2) (fun k hk=>?_) (fun k hk=>?_) hb
  ·rw [jW] at hk;rw [l5];exact lh k hk (jz hl.1 k)
  ·rw [jW] at hk;rw [l5];exact pq k hk (jz hl.2 k)
 | it h=>exact .it ((hβ _ hl).trans h)
 | agg h _ ih =>
  simp only [dm.ek];refine .agg (by rw [jW];exact h) fun k hk=>?_;rw [jW] at hk;rw [l5];exact ih k hk (jz hl k)
 | dT h _ ih =>
  simp only [dm.ek];refine .dT (by rw [jW];exact h) fun k hk=>?_;rw [jW] at hk;rw [l5];exact ih k hk (jz hl k)
 | gk=>exact .gk
 | iface _ ih=>exact .iface (ih hl)
 | oD v=>exact .oD v
section
variable {P:Program}
theorem aq.Qd {F:Frame→List Frame→Sem Next→World→Value→World→Prop} {f:ah} {args:List ah} {K:ah→ai→Prop} {Z:ai} {i:Nat} {B:bO} (hZ:∀ b x,Z[b]? = some (some x)↔b=i∧B=x) (hB:B.low 0) (hf:f.low 0) (ha:bF 1 args)
  (h:dJ P F f args [some B] (fun r σ'=>r.low 1∧∃ B',σ'=[some B']∧B'.low 0∧K (ek (fun _=>i) r) (Z.set i (some B')))):dJ P F f (eK (fun _=>i) args) Z K:=by
 intro X base β w vf vs h1 oq h2 h3 fr cs h4;rw [jW] at h2 h3;obtain ⟨L,l1,l2,l3,l4⟩:=h1.cw i B ((hZ i B).2 ⟨rfl,rfl⟩);have hiZ:i<Z.length:=(aJ.1 ((hZ i B).2 ⟨rfl,rfl⟩)).1;have e0:kb β (fun _=>i) 1 0=some L:=l1;have hm:∀ g o,jr Z β g o↔jr [some B] (kb β (fun _=>i) 1) g o:=fun g o=>by
  constructor
  ·rintro ⟨b,x,L',m1,m2,m3,m4⟩;obtain ⟨rfl,rfl⟩:=(hZ b x).1 m1;exact ⟨0,B,L',rfl,m2,m3,m4⟩
  ·rintro ⟨b,x,L',m1,m2,m3,m4⟩;obtain ⟨rfl,rfl⟩:=G0.1 m1;exact ⟨i,B,L',(hZ i B).2 ⟨rfl,rfl⟩,m2,m3,m4⟩
 have hM:MT X [some B] (kb β (fun _=>i) 1)=MT X Z β:=funext fun g=>funext fun o=>propext (or_congr Iff.rfl (hm g o).symm);have hr:cS X base [some B] (kb β (fun _=>i) 1) w:=by
  refine ⟨fun b hb=>?_,fun b x hb=>?_,fun b b' x y L' Yt e1 e2 _ _ _=>?_,h1.size,h1.qL,h1.gl⟩
  ·simp only [dF] at hb;exact if_neg (by omega)
  ·obtain ⟨rfl,rfl⟩:=G0.1 hb;refine ⟨L,e0,l2,l3,?_⟩;rw [hM];exact gI.low (n:=0) (fun b hb=>absurd hb (by omega)) l4 hB
  ·rw [(G0.1 e1).1,(G0.1 e2).1]
 have oM:cf w (MT X Z β) (kb β (fun _=>i) 1) vf f:=cf.low (n:=0) (fun b hb=>absurd hb (by omega)) oq hf;have ha':∀ k,k<args.length→cf w (MT X Z β) (kb β (fun _=>i) 1) (vs.getD k undef) (args.getD k .undef):=fun k hk=>by
  have:=h3 k hk;rw [l5] at this;exact cf.ek this _ rfl (jz ha k)
 rw [← hM] at oM ha';obtain ⟨r,σ',β',v,w',⟨q1,B',rfl,q2,q3⟩,g1,g2,g3,g4,g5⟩:=h X base _ w vf vs hr oM h2 ha' fr cs h4;have Kd : β' 0=some L:=(g3.env 0 Nat.one_pos).trans e0;have Hn:∀ b x,(Z.set i (some B'))[b]? = some (some x)↔b=i∧B'=x:=fun b x=>by
  by_cases hb:b=i
  ·subst hb;rw [gA hiZ];simp
  ·rw [bX (fun e=>hb e.symm)];constructor
   ·intro e;exact absurd ((hZ b x).1 e).1 hb
   ·intro e;exact absurd e.1 hb
 have BL:∀ g o,jr (Z.set i (some B')) β g o↔jr [some B'] β' g o:=fun g o=>by
  constructor
  ·rintro ⟨b,x,L',m1,m2,m3,m4⟩;obtain ⟨rfl,rfl⟩:=(Hn b x).1 m1;obtain rfl:=aP (l1.symm.trans m2);exact ⟨0,B',L,rfl,Kd,m3,m4⟩
  ·rintro ⟨b,x,L',m1,m2,m3,m4⟩;obtain ⟨rfl,rfl⟩:=G0.1 m1;obtain rfl:=aP (Kd.symm.trans m2);exact ⟨i,B',L,(Hn i B').2 ⟨rfl,rfl⟩,l1,m3,m4⟩
 have Hk:MT X [some B'] β'=MT X (Z.set i (some B')) β:=funext fun g=>funext fun o=>propext (or_congr Iff.rfl (BL g o).symm);refine ⟨_,Z.set i (some B'),β,v,w',q3,?_,?_,?_,by simp,g5⟩
 ·refine ⟨fun b hb=>h1.oo b (by simpa using hb),fun b x hb=>?_,fun b b' x y L' Yt e1 e2 _ _ _=>?_,g1.size,g1.qL,g1.gl⟩
  ·obtain ⟨rfl,rfl⟩:=(Hn b x).1 hb;obtain ⟨L',k1,k2,k3,k4⟩:=g1.cw 0 B' rfl;obtain rfl:=aP (Kd.symm.trans k1);refine ⟨L,l1,k2,k3,?_⟩;rw [← Hk];exact gI.low (n:=0) (fun b hb=>absurd hb (by omega)) k4 q2
  ·rw [((Hn _ _).1 e1).1,((Hn _ _).1 e2).1]
 ·rw [← Hk];exact g2.sA (π:=fun _=>i) q1 fun b hb=>by obtain rfl:b=0:=(by omega);exact l1.trans Kd.symm
 ·exact ⟨g3.os,g3.tape,g3.output,g3.size,fun g o x hc hn=>g3.cell g o x hc fun hx=>hn ((hm g o).2 hx),fun g hg hn=>g3.block g hg fun o hx=>hn o ((hm g o).2 hx),fun g o hx=>(g3.jb g o ((BL g o).1 hx)).imp (hm g o).2 id,fun _ _=>rfl⟩
theorem aq.Bo {F:Frame→List Frame→Sem Next→World→Value→World→Prop} {f:ah} {args:List ah} {K:ah→ai→Prop} {σ:ai} (i:Nat) {B:bO} (hi : σ[i]? = some (some B)) (hB:B.low 0) (hf:f.low 0) (ha:bF 1 args)
  (h:dJ P F f args [some B] (fun r σ'=>r.low 1∧∃ B',σ'=[some B']∧B'.low 0∧K (ek (fun _=>i) r) (σ.set i (some B')))):dJ P F f (eK (fun _=>i) args) σ K:=by
 have bA:i < σ.length:=(aJ.1 hi).1;refine aq.frame (fun b=>decide (b=i)) (K':=fun r jq=>∃ B',jq=(fg (fun b=>decide (b=i)) 0 σ).set i (some B')∧K r (σ.set i (some B'))) ?_ ?_
 ·refine aq.Qd (B:=B) ?_ hB hf ha (h.mono ?_)
  ·intro b x;rw [w9,bq];by_cases hb:b=i
   ·subst hb;simp [hi]
   ·simp [hb]
  ·rintro r σ' ⟨q1,B',rfl,q2,q3⟩;exact ⟨q1,B',rfl,q2,B',rfl,q3⟩
 ·rintro r σ' ⟨B',rfl,hk⟩;refine ⟨fun b hb hv=>?_,?_⟩
  ·simp only [decide_eq_false_iff_not] at hv;rw [bX (fun e=>hv e.symm),w9,bq,av hb];simp [hv]
  ·have e:iA (fun b=>decide (b=i)) 0 ((fg (fun b=>decide (b=i)) 0 σ).set i (some B')) σ = σ.set i (some B'):=by
    refine b_ fun b=>?_;rw [E6 (fun b=>decide (b=i)) ((fg (fun b=>decide (b=i)) 0 σ).set i (some B')) σ 0 b (by rw [bj,sZ];exact ae _),bq];by_cases hb:b=i
    ·subst hb;rw [if_neg (by simp),gA (by rw [sZ];exact bA),gA bA]
    ·by_cases xc:b < σ.length
     ·rw [if_pos ⟨xc,by simpa using hb⟩,bX (fun e=>hb e.symm)]
     ·rw [if_neg (fun h=>xc h.1),bt (by rw [bj,sZ];omega),bt (by rw [bj];omega)]
   rw [e];exact hk
def vO (K:ah→ai→Prop) (n:Nat) (r0:ah) (σ':ai):Prop:=∃ r,pT (fun _=>true) σ' r (tq r0)∧r.low 0∧K r (List.replicate n none)
theorem LX {n b:Nat} {x:bO}:¬ (List.replicate n (none:Option bO))[b]? = some (some x):=by
 rw [dv];split<;>simp
theorem cg.vO {F:Frame→List Frame→Sem Next→World→Value→World→Prop} {σ:ai} {g:FuncId} {args:List ah} {K:ah→ai→Prop} (h:ix P F g args σ (vO K σ.length)):ix P F g args σ K:=by
 intro X base β w vs h1 h2 h3 fr cs h4;obtain ⟨r0,σ',β',v,w',⟨r,k1,k5,k6⟩,g1,g2,g3,g4,g5⟩:=h X base β w vs h1 h2 h3 fr cs h4;have hf:=A8 (fun _=>true) σ';generalize zD:gD (fun _=>true) 0 σ' = lI at hf;have CQ:=g1.pf hf.pf;have pV:=(G1 CQ hf r k1).1 v (Xd (g2.mono (Ci hf.pf) (fun _ _ h=>h)));have hle:yB (List.replicate σ.length none) lI:=fun b x hb=>absurd hb LX;have hl:(List.replicate σ.length (none:Option bO)).length = σ.length:=by simp
 have ky:zJ σ.length (List.replicate σ.length none):=fun b x hb=>absurd hb LX;have hs:=CQ.drop hle hl ky;have sm:=cf.drop pV hle hl (nG (au _) k5);exact ⟨r,_,_,v,w',k6,hs,sm,g3.drop (σ':=List.replicate σ.length none) (fun b x hb=>absurd hb LX) hl (ae _),by simp,g5⟩
@[go_sem] theorem Xdr {b o n s:Nat}:tq (.os b o n s) = .os b o n s:=rfl
@[go_sem] theorem Xd4 {b o n c s:Nat}:tq (.oc b o n c s) = .os b o n s:=rfl
@[go_sem] theorem Yzr:tq .aW = .aW:=rfl
@[go_sem] theorem Xco {s:Nat} {l:List ah}:tq (.ps s l) = .ps s l:=rfl
theorem Iz {K:ah→ai→Prop} {n:Nat} {r0:ah} {σ':ai}:dm.vO K n r0 σ' = ∃ r,pT (fun _=>true) σ' r (tq r0)∧r.low 0∧K r (List.replicate n none):=rfl
theorem cg.wv {g:FuncId} {fn:Func} {c:Code} {σ:ai} {args:List ah} {K:ah→ai→Prop} {m:Nat} {rs:List ResultVar} (n:Nat) (hf:P.funcs[g]? = some fn) (hb:fn.body=some c) (hr:fn.results.toList=rs) (hm:fn.ntmps - args.length=m)
  (ff : (fn.name == "runtime.NumGoroutine") = false)
  (h:eF P ⟨σ.length,Option.none⟩ (rq P rs (dm.vO K σ.length)) n [.code c] .normal (args++List.replicate m .undef) σ):cg P g args σ K:=cg.vO (cg.start n hf hb hr hm ff h)
end
end Go.dm
namespace Go.Proofs
open Go Go.dm
attribute [local go_sem] Nat.reduceAdd Nat.reduceSub Nat.reduceMul Nat.reduceLeDiff Nat.reduceEqDiff Nat.reduceBEq Nat.reduceLT Nat.le_refl Int.natCast_zero Nat.sub_zero List.length_map Int.toNat_natCast Int.natCast_one Int.reduceEq Int.reduceLT Int.reduceLE Int.reduceNe Int.sub_zero Int.zero_add Int.toNat_one
theorem EW:∀ (xs E:List ah) (p:Nat),p+xs.length≤E.length→cH E p xs=E.take p++xs++E.drop (p+xs.length)
 | [],E,p,h=>by simp [cH]
 | x :: xs,E,p,h=>by
  simp only [ax] at h;rw [cH,EW xs (E.set p x) (p+1) (by rw [bj];omega)];have hp:p<E.length:=by omega
  have e1:(E.set p x).take (p+1)=E.take p++[x]:=by
   rw [c9,gA hp];simp [List.take_set_of_le]
  have e2:(E.set p x).drop (p+1+xs.length)=E.drop (p+(xs.length+1)):=by
   rw [List.drop_set,if_pos (by omega)];congr 1;omega
  rw [e1,e2];simp
theorem IQ {n:Nat}:∀ {a b:List ah},bF n a→bF n b→bF n (a++b)
 | [],_,_,h=>h
 | _ :: _,_,h,k=>⟨h.1,IQ h.2 k⟩
theorem GD {n m:Nat} {a:ah} (h:a.low n):bF n (List.replicate m a):=by
 induction m with
 | zero=>trivial
 | succ m ih=>exact ⟨h,ih⟩
theorem Mr {n:Nat} (sz:Nat):(dR sz).low n:=by
 unfold dR;split
 ·trivial
 ·exact GD (a:=.undef) trivial
theorem II {n:Nat}:∀ {xs E:List ah} {p:Nat},bF n E→bF n xs→bF n (cH E p xs)
 | [],_,_,h,_=>h
 | x :: xs,E,p,h,k=>by rw [cH];exact II (JO h _ k.1) k.2
theorem QW {E Z:List ah} {i m n k:Nat} (hi:i<n) (hE:n≤E.length) (hm:m=n - 1) (hk:Z.length=k) (BH:m+k=n) :
  (cH (cH E i ((E.drop (i+1)).take (n - (i+1)))) m Z).take m=E.take i++(E.drop (i+1)).take (n - (i+1)):=by
 have hl:((E.drop (i+1)).take (n - (i+1))).length=n - (i+1):=by simp;omega
 have e1:=EW ((E.drop (i+1)).take (n - (i+1))) E i (by rw [hl];omega);have uJ:(cH E i ((E.drop (i+1)).take (n - (i+1)))).length=E.length:=vS _ _ _;rw [EW Z _ m (by rw [uJ];omega),cU,cn (by rw [cA,uJ];omega),jG,Nat.min_self,e1,cU,
  ← cU,cn (by rw [az,hl,cA];omega),bh (by rw [az,hl,cA];omega)]
theorem LH (l:List Li) (i:Nat) (hi:i<l.length) (hl:l.length<1000000000):aq Tryz.prog (.fn 71 [] []) [.os 0 0 l.length 5, .int .i64 i, .int .i64 ((i+1:Nat):Int)] [some (.row (lits l) 0)]
  (fun r σ'=>r = .os 0 0 (l.length - 1) 5∧σ'=[some (.row (lits (l.take i++l.drop (i+1))) 0)]):=by
 refine cg.v (cg.uc (pre:=[]) (post:=[.int .i64 i, .int .i64 ((i+1:Nat):Int)]) (b:=0) (es:=(lits l)) (fz:=0) rfl rfl (by simp [lits]) (by omega) fun c hc=>cg.short 0 ?_);have hlen:((lits l)++List.replicate (c - l.length) (dR 5)).length=c:=by simp [lits];omega
 have hE:(((lits l)++List.replicate (c - l.length) (dR 5)).drop (i+1)).take (l.length - (i+1))=lits (l.drop (i+1)):=by
  rw [List.drop_append_of_le_length (by simp [lits];omega),cn (by simp [lits])];rw [bh (by simp [lits])];simp [lits,List.map_drop]
 have Hh:((lits l)++List.replicate (c - l.length) (dR 5)).take i=lits (l.take i):=by
  rw [cn (by simp [lits];omega)];simp [lits,List.map_take]
 have hdr:=fun Z hk=>QW (E:=(lits l)++List.replicate (c - l.length) (dR 5)) (Z:=Z) (i:=i) (m:=l.length - 1) (n:=l.length) (k:=1) hi (by omega) rfl hk (by omega);rw [hE,Hh] at hdr;have ky:bF 1 (lits l++List.replicate (c - l.length) (dR 5)):=IQ (cy _) (GD (Mr _));generalize XG:(lits l)++List.replicate (c - l.length) (dR 5)=E at *
 refine cg.o9 (rs:=[.tmp 6]) (m:=30) 1000 Tryz.func71 rfl rfl rfl rfl ?_;have eH:¬ (i:Int)=((i+1:Nat):Int):=by omega
 simp only [go_sem,eH]
 (repeat ((with_reducible refine And.intro ?_ ?_); ·omega))
 refine aG.draw [.no, .no, .no, .no, .no, .no,⟨none,[0],[]⟩] 1 1 mixed rfl rfl (by decide) ?_;have hx:i+(lits (l.drop (i+1))).length=l.length - 1:=by rw [fR,cz];omega
 have sO:l.length - 1≤c:=by omega
 have xN:l.length - (l.length - 1)=1:=by omega
 simp only [go_sem,da,hlen,hE,hx,sO,au]
 (repeat ((with_reducible refine And.intro ?_ ?_); ·omega))
 refine aG.go 1000 ?_;simp only [go_sem,hlen,hx,vS,xN,nH,List.replicate_one,aL,forall_eq,Nat.one_ne_zero]
 (repeat ((with_reducible refine And.intro ?_ ?_); ·omega))
 rw [gC];refine ⟨_,f_ _,ae _,⟨?_,trivial⟩,Nat.one_pos,?_⟩
 ·exact JO (II ky (cy _)) _ (by simp [go_sem])
 ·rw [J9];refine ⟨_,_,l.length - 1,rfl,rfl,?_⟩;have h5:=hdr [.agg [.bool false, .int .i64 0, .aW, .int .i64 0, .aW]] rfl;simp only [cH] at h5;rw [h5];simp [cr,lits]
theorem Ydg (l:List Tm) (i:Nat) (hi:i<l.length) (hl:l.length<1000000000):aq Tryz.prog (.fn 241 [] []) [.os 0 0 l.length 2, .int .i64 i, .int .i64 ((i+1:Nat):Int)] [some (.row (l.map Tm.aM) 0)]
  (fun r σ'=>r = .os 0 0 (l.length - 1) 2∧σ'=[some (.row (List.map Tm.aM (l.take i++l.drop (i+1))) 0)]):=by
 refine cg.v (cg.uc (pre:=[]) (post:=[.int .i64 i, .int .i64 ((i+1:Nat):Int)]) (b:=0) (es:=(l.map Tm.aM)) (fz:=0) rfl rfl (by simp [lits]) (by omega) fun c hc=>cg.short 0 ?_);have hlen:((l.map Tm.aM)++List.replicate (c - l.length) (dR 2)).length=c:=by simp [lits];omega
 have hE:(((l.map Tm.aM)++List.replicate (c - l.length) (dR 2)).drop (i+1)).take (l.length - (i+1))=List.map Tm.aM (l.drop (i+1)):=by
  rw [List.drop_append_of_le_length (by simp [lits];omega),cn (by simp [lits])];rw [bh (by simp [lits])];simp [lits,List.map_drop]
 have Hh:((l.map Tm.aM)++List.replicate (c - l.length) (dR 2)).take i=List.map Tm.aM (l.take i):=by
  rw [cn (by simp [lits];omega)];simp [lits,List.map_take]
 have hdr:=fun Z hk=>QW (E:=(l.map Tm.aM)++List.replicate (c - l.length) (dR 2)) (Z:=Z) (i:=i) (m:=l.length - 1) (n:=l.length) (k:=1) hi (by omega) rfl hk (by omega);rw [hE,Hh] at hdr;have ky:bF 1 (l.map Tm.aM++List.replicate (c - l.length) (dR 2)):=IQ (bW _) (GD (Mr _));generalize XG:(l.map Tm.aM)++List.replicate (c - l.length) (dR 2)=E at *
 refine cg.o9 (rs:=[.tmp 6]) (m:=30) 1000 Tryz.func241 rfl rfl rfl rfl ?_;have eH:¬ (i:Int)=((i+1:Nat):Int):=by omega
 simp only [go_sem,eH]
 (repeat ((with_reducible refine And.intro ?_ ?_); ·omega))
 refine aG.draw [.no, .no, .no, .no, .no, .no,⟨none,[0],[]⟩] 1 1 mixed rfl rfl (by decide) ?_;have hx:i+(l.drop (i+1)).length=l.length - 1:=by rw [cz];omega
 have sO:l.length - 1≤c:=by omega
 have xN:l.length - (l.length - 1)=1:=by omega
 simp only [go_sem,da,hlen,hE,hx,sO,au]
 (repeat ((with_reducible refine And.intro ?_ ?_); ·omega))
 refine aG.go 1000 ?_;simp only [go_sem,hlen,hx,vS,xN,nH,List.replicate_one,aL,forall_eq,Nat.one_ne_zero]
 (repeat ((with_reducible refine And.intro ?_ ?_); ·omega))
 rw [gC];refine ⟨_,f_ _,ae _,⟨?_,trivial⟩,Nat.one_pos,?_⟩
 ·exact JO (II ky (bW _)) _ (by simp [go_sem])
 ·rw [J9];refine ⟨_,_,l.length - 1,rfl,rfl,?_⟩;have h5:=hdr [.agg [.int .i64 0, .aW]] rfl;simp only [cH] at h5;rw [h5];simp [cr,lits]
structure Un where
 l:Tm
 r:Tm
 off:Int
def Un.aM (u:Un):ah:=.agg [.int .i64 u.l.head, .ps 2 (u.l.args.map Tm.aM), .int .i64 u.r.head, .ps 2 (u.r.args.map Tm.aM), .int .i64 u.off]
theorem Ff (u:Un):u.aM.cells=[.int .i64 u.l.head, .ps 2 (u.l.args.map Tm.aM), .int .i64 u.r.head, .ps 2 (u.r.args.map Tm.aM), .int .i64 u.off]:=rfl
theorem K4 (u:Un):u.aM = .agg [.int .i64 u.l.head, .ps 2 (u.l.args.map Tm.aM), .int .i64 u.r.head, .ps 2 (u.r.args.map Tm.aM), .int .i64 u.off]:=rfl
def jE (l:List Un):List ah:=l.map Un.aM
theorem ua (l:List Un):(jE l).length=l.length:=by simp [jE]
theorem J8 {n:Nat} (u:Un):u.aM.low n:=by simp [K4,go_sem,bW]
theorem tB {n:Nat} (l:List Un):bF n (jE l):=uU fun x _=>J8 x
theorem NC {l:List Un} {i:Nat} (h:i<l.length):(jE l).getD i .undef=l[i].aM:=mC h
@[go_sem] theorem Xhu (l:List Un):eW ⟨5,true,72,[.int .i64 0, .aW, .int .i64 0, .aW, .int .i64 0], .struct⟩ (jE l)=True:=eq_true (by
 refine ⟨fun x hx=>?_,by decide,by decide,rfl⟩;obtain ⟨t,_,rfl⟩:=cB.1 hx;exact ⟨rfl,rfl⟩)
theorem Ydj (σ:ai) {b cp:Nat} (c:ah) (p:Un→Bool) (l:List Un) {E:List ah} (hb:bP σ b=some (.row E 0)) (hE:∀ (i:Nat) (h:i<l.length),E.getD i .undef=l[i].aM) (xP:l.length≤E.length) (hl:l.length<2 ^ 62) (hs:bD σ.length σ) (hc:c.low σ.length)
  (hp:∀ (i:Nat) (h:i<l.length),aq Tryz.prog c [l[i].aM] σ (fun r σ'=>r = .bool (p l[i])∧σ' = σ)) :
  aq Tryz.prog (.fn 161 [] []) [.oc b 0 l.length cp 5,c] σ (fun r σ'=>r = .int .i64 (ei p l 0)∧σ' = σ):=by
 refine aq.begin (rs:=[.tmp 4]) (m:=17) 1000 Tryz.func161 rfl rfl rfl rfl rfl ?_;simp only [go_sem];refine aG.cO (ι:={i:Nat // i≤l.length∧ei p (l.drop i) i=ei p l 0}) 1000 (fun i=>fe 19 [(0, .oc b 0 l.length cp 5),(1,c),(7, .int .i64 l.length),(8, .int .i64 i.1)]) (fun _=>σ) (fun i=>l.length - i.1) ⟨0,by simp⟩ ?_ (fun _=>ae _) ?_
 ·simp only [go_sem,hc,hs];exact ⟨f_ σ,Bi hb⟩
 ·rintro ⟨i,hi,aN⟩;by_cases bA:(i:Int)<l.length
  ·have aU:i<l.length:=by omega
   have hd:ei p (l.drop i) i=if p l[i] then (i:Int) else ei p (l.drop (i+1)) ((i:Int)+1):=by
    rw [ao aU];rfl
   simp only [go_sem,bA,hb,hE i aU,Ff]
   (repeat ((with_reducible refine And.intro ?_ ?_); ·omega))
   refine (hp i aU).mono ?_;rintro r σ' ⟨rfl,rfl⟩;refine aG.go 1000 ?_;cases e:p l[i] with
   | true =>
    rw [hd,e,if_pos rfl] at aN;simp only [go_sem];refine aG.go 1000 ?_;simp only [go_sem,← aN];rw [gC];exact ⟨σ',f_ σ',ae _,hs,trivial,rfl,rfl⟩
   | false =>
    rw [hd,e,if_neg (by decide)] at aN;simp only [go_sem];refine ⟨⟨i+1,aU,aN⟩,?_,by simp only;omega⟩;simp only [go_sem,hc,hs];rw [dQ (by omega)];exact ⟨rfl,f_ σ',Bi hb⟩
  ·have dZ:i=l.length:=by omega
   subst dZ;rw [aX] at aN;simp only [go_sem,bA];refine aG.go 1000 ?_;simp only [go_sem,← aN];rw [gC];exact ⟨σ,f_ σ,ae _,hs,trivial,rfl,rfl⟩
theorem I3 {α:Type} (p : α→Bool):∀ (l:List α) (i:Int),0≤i→(ei p l i = -1∧l.filter (fun x=>!p x)=l)∨∃ k,k<l.length∧ei p l i=i+k∧(∀ x∈l.take k,p x=false)∧∀ h:k<l.length,p l[k]=true
 | [],i,_=>.inl ⟨rfl,rfl⟩
 | a :: l,i,h=>by
  by_cases c:p a=true
  ·exact .inr ⟨0,by simp,by simp [ei,c],by simp,fun _=>c⟩
  ·have c':p a=false:=by simpa using c
   rcases I3 p l (i+1) (by omega) with ⟨h1,h2⟩ | ⟨k,h1,h2,h3,h4⟩
   ·exact .inl ⟨by simp [ei,c',h1],by simp [List.filter_cons,c',h2]⟩
   ·refine .inr ⟨k+1,by simpa using h1,by simp [ei,c',h2];omega,?_,fun h=>by simpa using h4 (by simpa using h)⟩;intro x hx;rw [df,aQ] at hx;rcases hx with rfl | hx
    ·exact c'
    ·exact h3 x hx
theorem Zn1 {α:Type} (p : α→Bool) (l:List α) (h:∀ x∈l,p x=false):l.filter (fun x=>!p x)=l:=List.filter_eq_self.2 fun x hx=>by simp [h x hx]
theorem Zu6 (us:List Un) (p:Un→Bool) (f:FuncId) (hl:us.length<1000000000) (hf:∀ u∈us,aD Tryz.prog f [u.aM] (.bool (p u))) (yz:us≠[]) :
  aq Tryz.prog (.fn 137 [] []) [.os 0 0 us.length 5, .fn f [] []] [some (.row (jE us) 0)]
  (fun r σ'=>r = .os 0 0 (us.filter fun u=>!p u).length 5∧σ'=[some (.row (jE (us.filter fun u=>!p u)) 0)]):=by
 have ou : 0<us.length:=List.length_pos_iff.2 yz;refine cg.v (cg.uc (pre:=[]) (post:=[.fn f [] []]) (b:=0) (es:=jE us) (fz:=0) rfl rfl (by simp [jE]) ou fun c hc=>cg.short 0 ?_);refine cg.o9 (rs:=[.tmp 4]) (m:=40) 1000 Tryz.func137 rfl rfl rfl rfl ?_;have kO:∀ (σ:ai) (u:Un),u∈us→∀ K:ah→ai→Prop,K (.bool (p u)) σ→aq Tryz.prog (.fn f [] []) [u.aM] σ K:=fun σ u hu K hk=>aq.bS [] (hf u hu) (cx _ _ _) ⟨J8 u,trivial⟩ (by rw [je];split<;>exact hk);have qh:∀ L:List Un,bF 1 (jE L++List.replicate (c - us.length) (dR 5)):=fun L=>IQ (tB _) (GD (Mr _));simp only [go_sem];refine (Ydj _ _ p us rfl (fun i h=>?_) ?_ (by omega) ?_ ?_ (fun i h=>kO _ _ (aC h) _ ⟨rfl,rfl⟩)).mono ?_
 ·rw [uC,if_pos (by rw [ua];exact h)];exact NC h
 ·simp [jE]
 ·exact ⟨qh us,trivial⟩
 ·simp [go_sem]
 rintro r σ' ⟨rfl,rfl⟩;refine aG.go 1000 ?_;rcases I3 p us 0 (by omega) with ⟨h1,h2⟩ | ⟨k,h1,h2,h3,h4⟩
 ·simp only [go_sem,h1];rw [gC];refine ⟨_,f_ _,ae _,⟨qh us,trivial⟩,Nat.one_pos,?_⟩;rw [J9];refine ⟨_,_,us.length,rfl,?_⟩;rw [cn (by rw [ua];exact ae _),bh (by rw [ua];exact ae _),h2];exact ⟨rfl,rfl⟩
 ·have wF:¬ (0+(k:Int)) = -1:=by omega
  have rh:IntKind.i64.wrap ((k:Int)+1)=((k+1:Nat):Int):=by rw [dQ (by omega)];omega
  have ui : 0+(k:Int)=(k:Int):=by omega
  simp only [go_sem,h2,wF,rh,ui];have XJ:(us.take (k+1)).filter (fun u=>!p u)=us.take k:=by
   rw [c9,av h1,gK,List.filter_append,Zn1 p _ h3];simp [h4 h1]
  have apI:us.length<9223372036854775807:=by omega
  have hE:∀ (j:Nat) (G:List Un),((us.take j).filter (fun u=>!p u)).length+G.length=j→j≤us.length →
    (jE ((us.take j).filter (fun u=>!p u)++G++us.drop j)++List.replicate (c - us.length) (dR 5)).length=c:=fun j G h1 h2=>by
   simp only [az,ua,bB,cz];omega
  refine aG.cO (ι:={q:Nat×List Un // q.1≤us.length∧((us.take q.1).filter (fun u=>!p u)).length+q.2.length=q.1∧q.2≠[]}) 1000
   (fun q=>fe 42 [(0, .oc 0 0 us.length c 5),(1, .fn f [] []),(4, .aW),(5, .int .i64 ((us.take q.1.1).filter (fun u=>!p u)).length),(6, .int .i64 q.1.1)])
   (fun q=>[some (.row (jE ((us.take q.1.1).filter (fun u=>!p u)++q.1.2++us.drop q.1.1)++List.replicate (c - us.length) (dR 5)) 0)]) (fun q=>us.length - q.1.1)
   ⟨(k+1,[us[k]]),by omega,by rw [XJ];simp;omega,by simp⟩ ?_ (fun _=>ae _) ?_
  ·have e0:us.take k++[us[k]]++us.drop (k+1)=us:=by simp
   have e1:(us.take k).length=k:=by simp;omega
   simp only [go_sem,XJ,e0,e1,qh]
  ·rintro ⟨⟨j,G⟩,hj,hlen,hG⟩;simp only at hj hlen hG;have FE:=hE j G hlen hj;by_cases bA:(j:Int)<us.length
   ·have aU:j<us.length:=by omega
    have eJ:(jE ((us.take j).filter (fun u=>!p u)++G++us.drop j)++List.replicate (c - us.length) (dR 5)).getD j .undef=us[j].aM:=by
     rw [uC,if_pos (by rw [ua];simp only [az,cz];omega)];rw [NC (by simp only [az,cz];omega)];rw [List.getElem_append_right (by simp only [az];omega)];simp only [az,hlen,eV,List.getElem_drop,cC]
    simp only [go_sem,bA,FE,eJ,Ff]
    (repeat ((with_reducible refine And.intro ?_ ?_); ·omega))
    refine kO _ us[j] (aC aU) _ ?_;refine aG.go 1000 ?_;have rf:us.take (j+1)=us.take j++[us[j]]:=by rw [c9,av aU];rfl
    have hdr:us.drop j=us[j] :: us.drop (j+1):=ao aU;have Ev:IntKind.i64.wrap ((j:Int)+1)=((j+1:Nat):Int):=by rw [dQ (by omega)];omega
    cases hp:p us[j] with
    | true =>
     have XK:(us.take (j+1)).filter (fun u=>!p u)=(us.take j).filter (fun u=>!p u):=by rw [rf,List.filter_append];simp [hp]
     simp only [go_sem,Ev];refine ⟨⟨(j+1,G++[us[j]]),by simp only;omega,by simp only [XK,az,dF];omega,by simp⟩,?_,by simp only;omega⟩;have e:(us.take j).filter (fun u=>!p u)++(G++[us[j]])++us.drop (j+1)=(us.take j).filter (fun u=>!p u)++G++us.drop j:=by rw [hdr];simp
     simp only [XK,e];exact ⟨⟨trivial,trivial⟩,trivial,qh _⟩
    | false =>
     have Oi:(us.take (j+1)).filter (fun u=>!p u)=(us.take j).filter (fun u=>!p u)++[us[j]]:=by rw [rf,List.filter_append];simp [hp]
     obtain ⟨g,G',rfl⟩:=List.exists_cons_of_ne_nil hG;obtain ⟨K,CB⟩:∃ K,(us.take j).filter (fun u=>!p u)=K:=⟨_,rfl⟩;rw [CB] at Oi;simp only [CB,ax] at hlen FE;have hgK:(jE (K++g :: G'++us.drop j)++List.replicate (c - us.length) (dR 5)).getD K.length .undef=g.aM:=by
      rw [uC,if_pos (by rw [ua];simp)];rw [NC (by simp)];simp
     have gS:(jE (K++g :: G'++us.drop j)++List.replicate (c - us.length) (dR 5)).set K.length us[j].aM=jE (K++us[j] :: G'++us.drop j)++List.replicate (c - us.length) (dR 5):=by
      rw [List.set_append_left _ _ (by rw [ua];simp)];simp [jE]
     have hwK:IntKind.i64.wrap ((K.length:Int)+1)=((K.length+1:Nat):Int):=by rw [dQ (by omega)];omega
     simp only [go_sem,CB,Ev,hwK,hgK,Ff,FE]
     (repeat ((with_reducible refine And.intro ?_ ?_); ·omega))
     refine ⟨⟨(j+1,G'++[us[j]]),by simp only;omega,by simp only [Oi,az,dF];omega,by simp⟩,?_,by simp only;omega⟩;have El:jM (cX g.aM) [.int .i64 us[j].l.head, .ps 2 (List.map Tm.aM us[j].l.args), .int .i64 us[j].r.head, .ps 2 (List.map Tm.aM us[j].r.args), .int .i64 us[j].off]=us[j].aM:=rfl;have e:K++[us[j]]++(G'++[us[j]])++us.drop (j+1)=K++us[j] :: G'++us.drop j:=by rw [hdr];simp
     rw [El,gS];simp only [Oi,e,az,dF];exact ⟨⟨trivial,trivial⟩,trivial,qh _⟩
   ·have sS:j=us.length:=by omega
    subst sS;rw [bZ] at hlen;obtain ⟨K,CB⟩:∃ K,us.filter (fun u=>!p u)=K:=⟨_,rfl⟩;simp only [bZ,aX,CB,bu] at hlen FE;simp only [go_sem,bA];refine aG.go 1000 ?_;have hGl:us.length - K.length=G.length:=by omega
    have hG0:¬ G.length=0:=fun e=>hG (bg e);simp only [go_sem,bZ,aX,CB,bu,FE,hGl,hG0,nH];refine ⟨⟨by omega,by omega⟩,⟨au _,by rw [bB];exact ae _,by omega,fun x hx=>?_⟩,⟨by omega,by omega⟩,?_⟩
    ·rw [(List.mem_replicate.1 hx).2];exact ⟨rfl,rfl⟩
    rw [gC];refine ⟨_,f_ _,ae _,⟨II (qh _) (GD (by simp [go_sem])),trivial⟩,Nat.one_pos,?_⟩;rw [J9];refine ⟨_,_,K.length,rfl,rfl,?_⟩;have hK1:List.take K.length (jE (K++G))=jE K:=by simp [jE]
    rw [EW _ _ _ (by rw [FE,bB];omega),cU,cn (by rw [ua];simp),hK1,cn (by rw [ua];exact ae _),
     bh (by rw [ua];exact ae _)]
    rfl
@[go_sem] theorem Yyr:IntKind.i64.wrap 1=1:=dQ (by omega)
theorem Zw1 {x:ah} {R ys:List ah} (h:R.length=ys.length):cH (x :: R) 1 ys=x :: ys:=by
 rw [EW _ _ _ (by simp only [ax];omega)];simp only [df,rM,bp,bn];rw [dP (by simp only [ax];omega)];simp
theorem RH (l:List (List Li)):∀ x∈dp l,x.cells.length=1∧x.cells.all ah.cT=true:=fun x hx=>by
 obtain ⟨t,_,rfl⟩:=cB.1 hx;exact ⟨rfl,rfl⟩
theorem Tp (es:List (List Li)) (c:List Li) (eH:es≠[]) (hl:es.length<1000000):cg Tryz.prog 26 [.os 1 0 es.length 1, .int .i64 0, .os 2 0 1 1] [none,some (.row (dp es) 0),some (.row [.ps 5 (lits c)] 0)]
  (fun r σ'=>r = .ps 1 (dp (c :: es))∧σ'=[none,none,none]):=by
 have ou : 0<es.length:=List.length_pos_iff.2 eH;refine cg.uc (pre:=[]) (post:=[.int .i64 0, .os 2 0 1 1]) (b:=1) (es:=dp es) (fz:=0) rfl rfl (by simp [dp]) ou fun cp Hu=>?_;refine cg.wv (rs:=[.tmp 6]) (m:=92) 1000 Tryz.func26 rfl rfl rfl rfl ?_;have h0:¬ (0:Int)=es.length:=by omega
 obtain ⟨N,hN⟩:∃ N:Nat,N=es.length+1:=⟨_,rfl⟩;have hw:IntKind.i64.wrap ((es.length:Int)+1)=(N:Int):=by rw [dQ (by omega)];omega
 have tf:IntKind.i64.wrap (N:Int)=(N:Int):=dQ (by omega);have ig:(dp es).length=es.length:=m9 es;by_cases hg:(cp:Int)<(N:Int)
 ·have uI:¬ N≤cp:=by omega
  have h9:N≤1000000000:=by omega
  have zm:eW ⟨1,false,24,[.aW], .slice⟩ (List.replicate N .aW):=⟨fun x hx=>by rw [(List.mem_replicate.1 hx).2];exact ⟨rfl,rfl⟩,by decide,by decide,rfl⟩;have KE:List.take es.length (dp es++List.replicate (cp - es.length) (dR 1))=dp es:=by
   rw [cn (by rw [ig];exact ae _),bh (by rw [ig];exact ae _)]
  have rf:List.take N [ah.ps 5 (lits c)]=[.ps 5 (lits c)]:=bh (by simp;omega);have gS:(List.replicate N ah.aW).set 0 (.ps 5 (lits c)) = .ps 5 (lits c) :: List.replicate es.length .aW:=by rw [hN,fZ];rfl
  have Ol:N - 1=es.length:=by omega
  have PT:List.take es.length (dp es)=dp es:=bh (by rw [ig];exact ae _);have um:=Zw1 (x:=.ps 5 (lits c)) (R:=List.replicate es.length .aW) (ys:=dp es) (by simp [dp]);have Oa:(1:Int)≤N:=by omega
  have ov : 1+es.length=N:=by omega
  have nP:es.length+1=N:=by omega
  simp only [go_sem,h0,hw,tf,hg,uI,h9,zm,au,az,bB,ig,nH,aL,forall_eq,KE,vS,rf,gS]
  (repeat ((with_reducible refine And.intro ?_ ?_); ·omega))
  refine aG.draw [.no, .no, .no, .no, .no, .no, .no, .no,⟨none,[3],[]⟩] 4 4 mixed rfl rfl (by decide) ?_;simp only [go_sem,da,Ol,ig,KE,PT,um,nH,bB,ov,nP,Oa,az,bB]
  (repeat ((with_reducible refine And.intro ?_ ?_); ·omega))
  refine ⟨RH es,?_⟩;refine aG.go 1000 ?_;simp only [go_sem];rw [Iz];refine ⟨.ps 1 (dp (c :: es)),?_,by simp [go_sem,fO],rfl,rfl⟩;simp only [go_sem,ax,ig,nP];have ht3:List.take N (.ps 5 (lits c) :: dp es) = .ps 5 (lits c) :: dp es:=bh (by simp [ig];omega);rw [ht3];exact cx _ _ _
 ·have Oa:(1:Int)≤N:=by omega
  have Ol:N - 1=es.length:=by omega
  have ov : 1+es.length=N:=by omega
  have nP:es.length+1=N:=by omega
  simp only [go_sem,h0,hw,tf,hg,au,az,bB,ig,Oa]
  (repeat ((with_reducible refine And.intro ?_ ?_); ·omega))
  refine aq.tu (tS:=23) (tR:=4) (e:=24) (b1:=2) (b2:=1) (n1:=1) (n2:=N - 1) (sz:=1) Tryz.func59 (by kernel_rfl) (by kernel_rfl) (by kernel_rfl) (by kernel_rfl) (by kernel_rfl) Zk (.inl rfl) (.inr ⟨_,rfl⟩) (by decide) (by decide) (by omega) rfl rfl (by decide) ?_;refine aG.go 1000 ?_;simp only [go_sem];refine aG.draw [.no, .no, .no, .no, .no, .no, .no, .no,⟨none,[1],[]⟩] 3 3 mixed rfl rfl (by decide) ?_;have CO:(dp es++List.replicate (cp - es.length) (dR 1)).length=cp:=by rw [az,ig,bB];omega
  have PV:List.take es.length (List.take N (dp es++List.replicate (cp - es.length) (dR 1)))=dp es:=by
   rw [jG,qC (by omega),cn (by rw [ig];exact ae _),bh (by rw [ig];exact ae _)]
  generalize XG:dp es++List.replicate (cp - es.length) (dR 1)=E at *
  have um:∀ x,List.take N ((cH E 1 (dp es)).set 0 x)=x :: dp es:=fun x=>by
   have h1:=EW (dp es) E 1 (by rw [ig,CO];omega)
   match E,CO with
   | [],CO=>simp at CO;omega
   | y :: E,CO =>
    rw [h1];simp only [df,rM,bp,bn,dc,ig,ov,← nP];rw [cn (by rw [ig];exact ae _),bh (by rw [ig];exact ae _)]
  have OB:nH 1 (dp es):=RH es;have rf:List.take N [ah.ps 5 (lits c)]=[.ps 5 (lits c)]:=bh (by simp;omega);have OC:nH 1 [ah.ps 5 (lits c)]:=fun x hx=>by rw [aL.1 hx];exact ⟨rfl,rfl⟩
  simp only [go_sem,da,Ol,CO,PV,OB,ig,ov]
  (repeat ((with_reducible refine And.intro ?_ ?_); ·omega))
  refine aG.go 1000 ?_;simp only [go_sem,vS,CO,rf,OC]
  (repeat ((with_reducible refine And.intro ?_ ?_); ·omega))
  rw [Iz];refine ⟨.ps 1 (dp (c :: es)),?_,by simp [go_sem,fO],rfl,rfl⟩;simp only [go_sem,bj,vS,CO,um];exact ⟨by omega,cx _ _ _⟩
theorem Sm (c:List Li):eW ⟨1,false,24,[.aW], .slice⟩ [ah.ps 5 (lits c)]:=Yw6 [c] ▸ trivial
theorem S5 (c:List Li):cg Tryz.prog 26 [.aW, .int .i64 0, .os 0 0 1 1] [some (.row [.ps 5 (lits c)] 0)]
  (fun r σ'=>r = .ps 1 (dp [c])∧σ'=[none]):=by
 refine cg.wv (rs:=[.tmp 6]) (m:=92) 1000 Tryz.func26 rfl rfl rfl rfl ?_;simp only [go_sem,Sm]
 (repeat ((with_reducible refine And.intro ?_ ?_); ·omega))
 rw [Iz];refine ⟨.ps 1 (dp [c]),?_,by simp [go_sem,fO],rfl,rfl⟩;simp only [go_sem,dp,aK,aV]
theorem SY (c:List Li):cg Tryz.prog 26 [.os 1 0 0 1, .int .i64 0, .os 2 0 1 1] [none,some (.row [] 0),some (.row [.ps 5 (lits c)] 0)]
  (fun r σ'=>r = .ps 1 (dp [c])∧σ'=[none,none,none]):=by
 refine cg.wv (rs:=[.tmp 6]) (m:=92) 1000 Tryz.func26 rfl rfl rfl rfl ?_;simp only [go_sem,Sm]
 (repeat ((with_reducible refine And.intro ?_ ?_); ·omega))
 rw [Iz];refine ⟨.ps 1 (dp [c]),?_,by simp [go_sem,fO],rfl,rfl⟩;simp only [go_sem,dp,aK,aV]
def pn (c:List Li):Prop:=∀ (i:Nat) (h:i<c.length),c[i].l.size<999999999∧c[i].r.size<999999999
def cQ (g:List Sy):List (List Li)→Int
 | []=>0
 | c :: l=>if aZ g c≠0 then aZ g c else cQ g l
theorem Ygz (g:List Sy) (es:List (List Li)) (c:List Li) (kj:∀ x∈c :: es,pn x) (hl:es.length<1000000):aD Tryz.prog 106 [.ps 4 (syms g), .ps 1 (dp es), .ps 5 (lits c)] (.int .i64 (cQ g (c :: es))):=by
 refine aD.begin (rs:=[.tmp 6]) (m:=24) 1000 Tryz.func106 rfl rfl rfl (by decide) trivial ?_;simp only [go_sem];have wA:(es=[]∨es≠[]):=by cases es<;>simp
 rcases wA with he | eH
 case' inl =>
  have h0:dp es=[]:=by rw [he];rfl
  have h1 : [c]=c :: es:=by rw [he]
  simp only [go_sem,h0];refine (cg.v Tk).mono ?_;rintro r σ' (⟨rfl,rfl⟩ | ⟨rfl,rfl⟩)
 case' inl.inl =>
  refine aG.go 1000 ?_;simp only [go_sem];refine (cg.v (S5 c)).mono ?_;rintro r σ' ⟨rfl,rfl⟩;rw [h1];refine aG.go 1000 ?_;simp only [go_sem,m9]
 case' inl.inr =>
  refine aG.go 1000 ?_;simp only [go_sem];refine (cg.v (SY c)).mono ?_;rintro r σ' ⟨rfl,rfl⟩;rw [h1];refine aG.go 1000 ?_;simp only [go_sem,m9]
 case' inr =>
  refine (cg.v (Uk es eH (by omega)).1).mono ?_;rintro r σ' ⟨rfl,rfl⟩;refine aG.go 1000 ?_;simp only [go_sem];refine (cg.v (Tp es c eH hl)).mono ?_;rintro r σ' ⟨rfl,rfl⟩;refine aG.go 1000 ?_;simp only [go_sem,m9]
 all_goals
  obtain ⟨L,hL⟩:∃ L,c :: es=L:=⟨_,rfl⟩;have hlen:es.length+1=L.length:=by rw [← hL];rfl
  have jT:L.length<2000000:=by omega
  rw [hL,hlen];rw [hL] at kj;refine aG.cO (ι:={i:Nat // i≤L.length∧cQ g (L.drop i)=cQ g L}) 1000 (fun i=>fe 27 [(0, .ps 4 (syms g)),(6, .int .i64 0),(14, .ps 1 (dp L)),(15, .int .i64 L.length),(16, .int .i64 i.1)]) (fun _=>[]) (fun i=>L.length - i.1) ⟨0,by simp⟩ ?_ (fun _=>au _) ?_
  ·simp only [go_sem,dy,fO]
  ·rintro ⟨i,hi,aN⟩;by_cases bA:(i:Int)<L.length
   ·have aU:i<L.length:=by omega
    have hd:cQ g (L.drop i)=if aZ g L[i]≠0 then aZ g L[i] else cQ g (L.drop (i+1)):=by
     rw [ao aU];rfl
    simp only [go_sem,bA,m9,Ae aU]
    (repeat ((with_reducible refine And.intro ?_ ?_); ·omega))
    refine aq.bS [] (Gq g L[i] (kj _ (aC aU))) (cx _ _ _) (by simp [go_sem,dy,cy]) ?_;simp only [bC,bN,bL,if_true];refine aG.go 1000 ?_;by_cases c0:aZ g L[i]=0
    ·simp only [go_sem,c0];refine ⟨⟨i+1,aU,by rw [← aN,hd,if_neg (by simp [c0])]⟩,?_,by simp only;omega⟩;simp only [go_sem,dy,fO];rw [dQ (by omega)];rfl
    ·simp only [go_sem,c0];refine aG.go 1000 ?_;rw [hd,if_pos c0] at aN;simp only [go_sem,aN]
   ·have:i=L.length:=by omega
    subst this;rw [aX] at aN;simp only [go_sem,bA];refine aG.go 1000 ?_;simp only [go_sem,← aN,cQ]
@[go_sem] theorem Yvu {π:Nat→Nat} {b sz:Nat} {l:List ah}:ek π (jk b sz l)=jk (π b) sz l:=by cases l<;>rfl
@[go_sem] theorem t_ {n b sz:Nat} {l:List ah} (h:b<n):ah.low n (jk b sz l)=True:=eq_true (Bh h sz l)
@[go_sem] theorem Yww {n:Nat} {l:List ah} {r:ai}:bD n (fx l :: r)=(bF n l∧bD n r):=by
 cases l with
 | nil=>simp [fx,bD,jK,bF]
 | cons x l=>rfl
@[go_sem] theorem Jl {π:Nat→Nat} {σ r:ai} {i:Nat} {l:List ah} (h:bF 0 l):gW π σ i (fx l :: r)=((l=[]∨bP σ (π i)=fx l)∧gW π σ (i+1) r):=by
 cases l with
 | nil=>simp [fx,IZ]
 | cons x l=>rw [fx,I7];simp only [ef,cK h];simp
def within (a b:Tm):Bool:=a.vars.all fun v=>decide (v∈b.vars)
def e8 (u:Un):Bool:=decide (u.l.head=0) || !within u.r u.l
def AL (t:Tm):Prop:=t.fit∧t.size<99999999
def KK (c:List Li):Prop:=∀ l∈c,AL l.l∧AL l.r
theorem Ybj (σ:ai) (b:Nat) (vs:List Int) (hb:bP σ b=some (.var [.ps 1 (ints vs)])) (v:Int) (hs:bD σ.length σ) (hl:vs.length<2 ^ 62) :
  aq Tryz.prog (.fn 164 [] [.ptr b 0]) [.int .i64 v] σ (fun r σ'=>r = .bool (!decide (v∈vs))∧σ' = σ):=by
 refine aq.begin (rs:=[.tmp 3]) (m:=6) 1000 Tryz.func164 rfl rfl rfl rfl rfl ?_;simp only [go_sem,hb];refine aq.bS [] (IE vs v hl) (cx _ _ _) (by simp [go_sem,dq]) ?_;rw [je];simp only [ite_self];refine aG.go 1000 ?_;simp only [go_sem];rw [gC];exact ⟨σ,f_ σ,ae _,hs,trivial,rfl,rfl⟩
theorem Yb8 (a b:Tm) (ha:AL a) (hb:AL b):aD Tryz.prog 139 [a.aM,b.aM] (.bool (within a b)):=by
 refine aD.begin (rs:=[.tmp 4]) (m:=11) 1000 Tryz.func139 rfl rfl rfl (by decide) trivial ?_;have FX:=JB a;have hvb:=JB b;have h1:=ha.2;have h2:=hb.2;simp only [go_sem,cZ];refine aq.bS [] (W3 b hb.1 (by omega)) (by (try simp only [cZ]);exact cx _ _ _) (by simp [go_sem,dG,bW]) ?_;rw [je];simp only [ite_self];refine aG.go 1000 ?_
 simp only [go_sem];refine aq.bS [] (W3 a ha.1 (by omega)) (by (try simp only [cZ]);exact cx _ _ _) (by simp [go_sem,dG,bW]) ?_;rw [je];simp only [ite_self];refine aG.go 1000 ?_
 simp only [go_sem];refine (Zno _ _ (fun v=>!decide (v∈b.vars)) a.vars (by omega) ?_ ?_ (fun i h=>Ybj _ 2 b.vars rfl _ ?_ (by omega))).mono ?_
 ·simp [go_sem,bW,dq]
 ·simp [go_sem]
 ·simp [go_sem,bW,dq]
 rintro r σ' ⟨rfl,rfl⟩;refine aG.go 1000 ?_;simp only [go_sem];simp [within,List.all_eq_not_any_not]
theorem Yh8 (u:Un) (hl:AL u.l) (hr:AL u.r):aD Tryz.prog 138 [u.aM] (.bool (e8 u)):=by
 refine aD.begin (rs:=[.tmp 2]) (m:=14) 1000 Tryz.func138 rfl rfl rfl (by decide) trivial ?_;by_cases h0:u.l.head=0
 ·simp only [go_sem,K4,h0,e8]
 ·simp only [go_sem,K4,h0,e8];refine aq.bS [] (Yb8 u.r u.l hr hl) (by (try simp only [cZ]);exact cx _ _ _) (by simp [go_sem,dG,bW]) ?_;simp only [bC,bN,bL,if_true];refine aG.go 1000 ?_
  simp only [go_sem]
theorem Zv5 (σ:ai) (c:ah) (hs:bD σ.length σ) (hc:c.low σ.length) :
  aq Tryz.prog (.fn 161 [] []) [.aW,c] σ (fun r σ'=>r = .int .i64 (-1)∧σ' = σ):=by
 refine aq.begin (rs:=[.tmp 4]) (m:=17) 1000 Tryz.func161 rfl rfl rfl rfl rfl ?_;simp only [go_sem];refine aG.cO (ι:=Unit) 1000 (fun _=>fe 19 [(0, .aW),(1,c),(7, .int .i64 0),(8, .int .i64 0)]) (fun _=>σ) (fun _=>0) () ?_ (fun _=>ae _) ?_
 ·simp only [go_sem,hc,hs];exact f_ σ
 ·rintro ⟨⟩;simp only [go_sem];refine aG.go 1000 ?_;simp only [go_sem];rw [gC];exact ⟨σ,f_ σ,ae _,hs,trivial,rfl,rfl⟩
theorem Znm (σ:ai) (c:ah) (hs:bD σ.length σ) (hc:c.low σ.length) :
  aq Tryz.prog (.fn 137 [] []) [.aW,c] σ (fun r σ'=>r = .aW∧σ' = σ):=by
 refine aq.begin (rs:=[.tmp 4]) (m:=40) 1000 Tryz.func137 rfl rfl rfl rfl rfl ?_;simp only [go_sem];refine (Zv5 σ c hs hc).mono ?_;rintro r σ' ⟨rfl,rfl⟩;refine aG.go 1000 ?_;simp only [go_sem];rw [gC];exact ⟨σ',f_ σ',ae _,hs,trivial,rfl,rfl⟩
def wi (c:List Li) (i:Nat):List Un :=
 match c with
 | [e]=>if e.neg then [] else [⟨e.l,e.r,(i:Int)⟩,⟨e.r,e.l,(i:Int)⟩]
 | _=>[]
def kJ:List (List Li)→Nat→List Un
 | [],_=>[]
 | c :: l,i=>wi c i++kJ l (i+1)
def cm (es:List (List Li)):List Un:=(kJ es 0).filter fun u=>!e8 u
theorem Yrb (c:List Li) (i:Nat):(wi c i).length≤2:=by
 unfold wi;split
 ·split<;>simp
 ·simp
theorem Ywy {c:List Li} {i:Nat} (h:KK c):∀ u∈wi c i,AL u.l∧AL u.r:=by
 intro u hu;unfold wi at hu;split at hu
 ·rename_i e;have he:=h e (by simp);split at hu
  ·cases hu
  ·rcases aQ.1 hu with rfl | hu
   ·exact he
   ·rcases aQ.1 hu with rfl | hu
    ·exact ⟨he.2,he.1⟩
    ·cases hu
 ·cases hu
theorem RN:∀ (l:List (List Li)) (i:Nat),(∀ c∈l,KK c)→∀ u∈kJ l i,AL u.l∧AL u.r
 | [],_,_,u,hu=>by simp [kJ] at hu
 | c :: l,i,h,u,hu=>by
  rw [kJ,aY] at hu;rcases hu with hu | hu
  ·exact Ywy (h c (by simp)) u hu
  ·exact RN l (i+1) (fun c hc=>h c (by simp [hc])) u hu
theorem Yei (es:List (List Li)) (hl:es.length<1000000) (ho:∀ c∈es,KK c):aD Tryz.prog 107 [.ps 1 (dp es)] (.ps 5 (jE (cm es))):=by
 refine aD.begin (rs:=[.tmp 2]) (m:=48) 1000 Tryz.func107 rfl rfl rfl (by decide) (tB _) ?_;simp only [go_sem,m9];refine aG.gf (ι:={p:Nat×List Un // p.1≤es.length∧p.2++kJ (es.drop p.1) p.1=kJ es 0∧p.2.length≤2*p.1}) 1000 (fun p=>fe 49 [(2, .aW),(3,jk 0 5 (jE p.1.2)),(6, .ps 1 (dp es)),(7, .int .i64 es.length),(8, .int .i64 p.1.1)]) (fun p=>[fx (jE p.1.2)]) (fun p=>es.length - p.1.1) ⟨(0,[]),by simp⟩ [] ?_ (fun _=>by simp) ?_
 ·refine iz rfl ?_;simp only [go_sem,jE,aV,s_,sM,fO,cK (fO _)]
 ·rintro ⟨⟨i,L⟩,hi,aN,hL⟩;simp only at hi aN hL;by_cases bA:(i:Int)<es.length
  ·have aU:i<es.length:=by omega
   have hd:kJ (es.drop i) i=wi es[i] i++kJ (es.drop (i+1)) (i+1):=by
    rw [ao aU];rfl
   rw [hd] at aN;have hw:IntKind.i64.wrap ((i:Int)+1)=((i+1:Nat):Int):=by rw [dQ (by omega)];omega
   have xR:=Ae aU;obtain ⟨c,hc⟩:∃ c,es[i]=c:=⟨_,rfl⟩;simp only [hc] at aN xR;have same:wi c i=[]→L++kJ (es.drop (i+1)) (i+1)=kJ es 0:=fun h=>by rw [← aN,h];rfl
   by_cases c1:(c.length:Int)=1
   ·obtain ⟨e,rfl⟩:=List.length_eq_one_iff.1 (show c.length=1 by omega);cases fX:e.neg with
    | true =>
     simp only [go_sem,bA,m9,xR,lits,aK,aV,kH,fX,hw];refine ⟨by omega,⟨(i+1,L),by simp only;omega,same (by simp [wi,fX]),by simp only;omega⟩,[],iz rfl ?_,by simp only;omega⟩;simp only [go_sem,fO,tB,cK (fO _)]
    | false =>
     simp only [go_sem,bA,m9,xR,lits,aK,aV,kH,fX,hw];refine ⟨by omega,?_⟩;refine aG.draw [⟨none,[],[1]⟩, .no, .no, .no, .no, .no, .no, .no, .no, .no, .no, .no, .no, .no, .no, .no, .no, .no, .no, .no, .no,⟨some 1,[1],[]⟩,⟨some 2,[0,2],[]⟩] 1 3 mixed rfl rfl (by decide) ?_;simp only [go_sem,da,kH,JN,eW,aQ,dW,forall_eq_or_imp,forall_eq,cI,ua];refine ⟨by omega,?_⟩;refine aG.go 1000 ?_;simp only [go_sem];have hu:wi [e] i=[⟨e.l,e.r,(i:Int)⟩,⟨e.r,e.l,(i:Int)⟩]:=by simp [wi,fX]
     rw [hu] at aN;refine ⟨⟨(i+1,L++[⟨e.l,e.r,(i:Int)⟩,⟨e.r,e.l,(i:Int)⟩]),by simp only;omega,by rw [← aN];simp,by simp only [az,ax,aS];omega⟩,[(0,2),(2,0)],iz rfl ?_,by simp only;omega⟩;have e1:jE (L++[⟨e.l,e.r,(i:Int)⟩,⟨e.r,e.l,(i:Int)⟩])=jE L++[Un.aM ⟨e.l,e.r,(i:Int)⟩,Un.aM ⟨e.r,e.l,(i:Int)⟩]:=by simp [jE]
     have lw:bF 0 (jE (L++[⟨e.l,e.r,(i:Int)⟩,⟨e.r,e.l,(i:Int)⟩])):=tB _;rw [e1] at lw ⊢;rw [wo (by simp),wm (by simp)];simp only [go_sem,fO,tB,cK (fO _),cK lw,iO (au 1) lw,ua];rw [hw];exact ⟨rfl,rfl⟩
   ·have c2:wi c i=[]:=by
     unfold wi;split
     ·simp at c1
     ·rfl
    simp only [go_sem,bA,m9,xR,fR,c1,hw];refine ⟨by omega,⟨(i+1,L),by simp only;omega,same c2,by simp only;omega⟩,[],iz rfl ?_,by simp only;omega⟩;simp only [go_sem,fO,tB,cK (fO _)]
  ·have dZ:i=es.length:=by omega
   subst dZ;rw [aX,kJ,bu] at aN;have zx:cm es=L.filter fun u=>!e8 u:=by rw [cm,← aN]
   have jA:=RN es 0 ho;rw [← aN] at jA;simp only [go_sem,bA];refine aG.go 1000 ?_;by_cases vZ:L=[]
   ·simp only [go_sem,vZ,jE,aV,s_,sM];refine (Znm _ _ (by simp [go_sem]) (by simp [go_sem])).mono ?_;rintro r σ' ⟨rfl,rfl⟩;refine aG.go 1000 ?_;rw [zx,vZ];simp only [go_sem,List.filter_nil,aV]
   ·have eH:jE L≠[]:=by simp [jE,vZ]
    rw [Dt eH,Cu eH,ua];simp only [go_sem];refine (Zu6 L e8 138 (by omega) (fun u hu=>Yh8 u (jA u hu).1 (jA u hu).2) vZ).mono ?_;rintro r σ' ⟨rfl,rfl⟩;refine aG.go 1000 ?_;rw [zx];simp only [go_sem,ua];rw [bh (by rw [ua];exact ae _)];exact cx _ _ _
end Go.Proofs
namespace Go.dm
open Go
theorem gI.sA {w:World} {M:Nat→Nat→Prop} {β β':Env} {π:Nat→Nat} {n:Nat} {L:Loc} {cw:bO} (h:gI w M β' L cw) (hl:cw.low n) (hβ:∀ b,b<n→β (π b) = β' b):gI w M β L (ef π cw):=by
 cases cw with
 | var cs =>
  obtain ⟨c,e,h1,h0,h2,h3⟩:=h;exact ⟨c,e,h1,h0,by rw [jW];exact h2,fun k hk=>by rw [jW] at hk;rw [l5];exact (h3 k hk).sA (jz hl k) hβ⟩
 | row es fz =>
  obtain ⟨c,e,h1,h2,h3,h4,h5⟩:=h;exact ⟨c,e,h1,h2,by rw [jW];exact h3,fun i hi=>by rw [jW] at hi;rw [l5,Ch,jW];exact h4 i hi,fun i j hi hj=>by
   rw [jW] at hi;rw [l5,Ch,l5];exact (h5 i j hi hj).sA (jz (E_ (jz hl i)) j) hβ⟩
 | map ks vs f =>
  obtain ⟨es,clk,h1,h2,h3,h4,h5,h6⟩:=h;exact ⟨es,clk,h1,by rw [jW];exact h2,by rw [jW,jW];exact h3,fun k hk=>by rw [jW] at hk;rw [l5];exact (h4 k hk).sA (jz hl.1 k) hβ,fun k hk=>by rw [jW] at hk;rw [l5];exact (h5 k hk).sA (jz hl.2 k) hβ,h6⟩
 | iter s p=>exact h
 | lL ks vs seen =>
  obtain ⟨m,es,clk,h1,h2,h3,h4,h5,h6,h7,h8,h9⟩:=h;exact ⟨m,es,clk,h1,h2,h3,by rw [jW];exact h4,by rw [jW,jW];exact h5,fun k hk=>by rw [jW] at hk;rw [l5];exact (h6 k hk).sA (jz hl.1 k) hβ,fun k hk=>by rw [jW] at hk;rw [l5];exact (h7 k hk).sA (jz hl.2 k) hβ,h8,fun i hi=>by rw [jW];exact h9 i hi⟩
 | loop r =>
  obtain ⟨t,d,f,h1,h2,h3⟩:=h;exact ⟨t,d,f,h1,by simp only [jW];exact h2,fun k hk=>by simp only [jW] at hk;rw [l5];exact (h3 k hk).sA (jz hl k) hβ⟩
def nM (ι:Nat→Nat) (n m b:Nat):Nat:=if b<n then ι b else b - n+m
def fK (ι π:Nat→Nat):Nat→ai→ai→ai
 | _,[],σ=>σ
 | i,x :: r,σ=>fK ι π (i+1) r (σ.set (ι i) (x.map (ef π)))
def ka (ι:Nat→Nat) (n:Nat) (Z' σ:ai):ai:=fK ι (nM ι n σ.length) 0 (Z'.take n) σ++(Z'.drop n).map (Option.map (ef (nM ι n σ.length)))
section
variable {ι π:Nat→Nat} {n m:Nat}
theorem EY:∀ (r σ:ai) (i:Nat),(fK ι π i r σ).length = σ.length
 | [],_,_=>rfl
 | x :: r,σ,i=>by rw [fK,EY r _ (i+1),bj]
theorem LG:∀ (r σ:ai) (i c:Nat),(∀ b,b<r.length→ι (i+b)≠c)→(fK ι π i r σ)[c]? = σ[c]?
 | [],_,_,_,_=>rfl
 | x :: r,σ,i,c,h=>by
  rw [fK,LG r _ (i+1) c (fun b hb=>by have:=h (b+1) (by simpa using hb);rwa [show i+(b+1)=i+1+b by omega] at this),bX (by simpa using h 0 (by simp))]
theorem Vc:∀ (r σ:ai) (i b:Nat),(∀ a a',a<r.length→a'<r.length→ι (i+a) = ι (i+a')→a=a')→b<r.length→ι (i+b) < σ.length→(fK ι π i r σ)[ι (i+b)]? = (r[b]?).map (Option.map (ef π))
 | [],_,_,b,_,hb,_=>absurd hb (by simp)
 | x :: r,σ,i,0,hinj,_,bA=>by
  rw [fK,LG]
  ·simp only [cC] at bA ⊢;rw [gA bA];rfl
  ·intro a ha e;have:=hinj (a+1) 0 (by simpa using ha) (by simp) (by rw [show i+(a+1)=i+1+a by omega];exact e);omega
 | x :: r,σ,i,b+1,hinj,hb,bA=>by
  have e:i+(b+1)=i+1+b:=by omega
  rw [e] at bA ⊢;rw [fK,Vc r _ (i+1) b (fun a a' ha ha' h=>by
   have:=hinj (a+1) (a'+1) (by simpa using ha) (by simpa using ha') (by rw [show i+(a+1)=i+1+a by omega,show i+(a'+1)=i+1+a' by omega];exact h);omega) (by simpa using hb) (by rw [bj];exact bA)]
  simp
theorem Fo {Z' σ:ai} (h:n≤Z'.length):(ka ι n Z' σ).length = σ.length+(Z'.length - n):=by simp [ka,EY]
variable (uM:∀ b b',b<n→b'<n→ι b = ι b'→b=b') (hb:∀ b,b<n→ι b<m)
include uM hb
theorem Di {Z' σ:ai} (hm : σ.length=m) (h:n≤Z'.length) {b:Nat} (FF:b<Z'.length):(ka ι n Z' σ)[nM ι n m b]? = (Z'[b]?).map (Option.map (ef (nM ι n m))):=by
 unfold ka nM;subst hm;by_cases mP:b<n
 ·rw [if_pos mP,cF (by rw [EY];exact hb b mP)];have:=Vc (ι:=ι) (π:=nM ι n σ.length) (Z'.take n) σ 0 b (fun a a' ha ha' e=>uM a a' (by simp at ha;omega) (by simp at ha';omega) (by simpa using e)) (by simp;omega) (by simpa using hb b mP);rw [bq] at this;rw [show (fun b=>if b<n then ι b else b - n + σ.length)=nM ι n σ.length from rfl,this,fI,if_pos mP]
 ·rw [if_neg mP,bT (by rw [EY];omega),EY,show b - n + σ.length - σ.length=b - n by omega,cu,eo,show n+(b - n)=b by omega]
omit uM hb in
theorem M5 {Z' σ:ai} {c:Nat} (hc:c < σ.length) (h:∀ b,b<n→ι b≠c):(ka ι n Z' σ)[c]? = σ[c]?:=by
 unfold ka;rw [cF (by rw [EY];exact hc),LG];intro b hb;rw [bq];exact h b (by simp at hb;omega)
end
section
variable {P:Program}
theorem aq.many {F:Frame→List Frame→Sem Next→World→Value→World→Prop} {f:ah} {args:List ah} {K:ah→ai→Prop} {Z σ:ai} (ι:Nat→Nat) (uM:∀ b b',b<Z.length→b'<Z.length→ι b = ι b'→b=b') (hb:∀ b,b<Z.length→ι b < σ.length)
  (wP:∀ c x,σ[c]? = some (some x)↔∃ b y,b<Z.length∧ι b=c∧Z[b]? = some (some y)∧x=ef ι y) (hf:f.low Z.length) (ha:bF Z.length args) (hs:bD Z.length Z)
  (h:dJ P F f args Z (fun r Z'=>Z.length≤Z'.length∧bD Z'.length Z'∧r.low Z'.length∧K (ek (nM ι Z.length σ.length) r) (ka ι Z.length Z' σ))):dJ P F (ek ι f) (eK ι args) σ K:=by
 intro X base β w vf vs h1 oq h2 h3 fr cs h4;rw [jW] at h2 h3;generalize hn:Z.length=n at *
 have wJ:∀ b y,Z[b]? = some (some y)→b<n∧σ[ι b]? = some (some (ef ι y)):=fun b y hz=>by
  have bA:b<n:=by rw [← hn];exact (aJ.1 hz).1
  exact ⟨bA,(wP _ _).2 ⟨b,y,bA,rfl,hz,rfl⟩⟩
 have he:∀ b,b<n→kb β ι n b = β (ι b):=fun b hb=>if_pos hb;have hm:∀ g o,jr σ β g o↔jr Z (kb β ι n) g o:=fun g o=>by
  constructor
  ·rintro ⟨c,x,L,m1,m2,m3,m4⟩;obtain ⟨b,y,q1,rfl,q3,rfl⟩:=(wP c x).1 m1;exact ⟨b,y,L,q3,by rw [he b q1];exact m2,m3,Dn.mp m4⟩
  ·rintro ⟨b,y,L,m1,m2,m3,m4⟩;obtain ⟨q1,q2⟩:=wJ b y m1;exact ⟨ι b,_,L,q2,by rw [← he b q1];exact m2,m3,Dn.mpr m4⟩
 have hM:MT X Z (kb β ι n)=MT X σ β:=funext fun g=>funext fun o=>propext (or_congr Iff.rfl (hm g o).symm);have hr:cS X base Z (kb β ι n) w:=by
  refine ⟨fun b hb=>if_neg (by omega),fun b x FF=>?_,fun b b' x y L L' e1 e2 e3 e4 e5=>?_,h1.size,h1.qL,h1.gl⟩
  ·obtain ⟨q1,q2⟩:=wJ b x FF;obtain ⟨L,l1,l2,l3,l4⟩:=h1.cw _ _ q2;refine ⟨L,by rw [he b q1];exact l1,l2,l3,?_⟩;rw [hM];exact l4.ek (qR hs b x FF)
  ·obtain ⟨q1,q2⟩:=wJ b x e1;obtain ⟨q3,q4⟩:=wJ b' y e2;rw [he b q1] at e3;rw [he b' q3] at e4;exact uM b b' q1 q3 (h1.inj _ _ _ _ L L' q2 q4 e3 e4 e5)
 have oM:cf w (MT X σ β) (kb β ι n) vf f:=cf.ek oq _ rfl hf;have ha':∀ k,k<args.length→cf w (MT X σ β) (kb β ι n) (vs.getD k undef) (args.getD k .undef):=fun k hk=>by
  have:=h3 k hk;rw [l5] at this;exact cf.ek this _ rfl (jz ha k)
 rw [← hM] at oM ha';obtain ⟨r,Z',β',v,w',⟨q0,q1,q2,q3⟩,g1,g2,g3,g4,g5⟩:=h X base _ w vf vs hr oM h2 ha' fr cs h4;rw [hn] at g3;generalize FN : σ.length=m at *
 let F8:Env:=fun c=>if c<m then β c else β' (c - m+n)
 have eb:∀ b,F8 (nM ι n m b) = β' b:=fun b=>by
  simp only [F8,nM];by_cases mP:b<n
  ·rw [if_pos mP,if_pos (hb b mP),g3.env b mP,he b mP]
  ·rw [if_neg mP,if_neg (by omega),show b - n+m - m+n=b by omega]
 have nw:∀ c x,(ka ι n Z' σ)[c]? = some (some x)→∃ b y,c=nM ι n m b∧Z'[b]? = some (some y)∧x=ef (nM ι n m) y:=fun c x hc=>by
  have bA:=(aJ.1 hc).1;rw [Fo q0,FN] at bA;by_cases Kn:c<m
  ·by_cases hex:∃ b,b<n∧ι b=c
   ·obtain ⟨b,mP,rfl⟩:=hex;have:=Di (ι:=ι) uM hb (Z':=Z') FN q0 (b:=b) (by omega);rw [show nM ι n m b = ι b from if_pos mP,hc] at this
    obtain ⟨o,h1,h2⟩:=aI.1 this.symm;obtain ⟨y,rfl,h3⟩:=aI.1 h2;exact ⟨b,y,(if_pos mP).symm,h1,h3.symm⟩
   ·rw [M5 (by omega) (fun b mP e=>hex ⟨b,mP,e⟩)] at hc;obtain ⟨b,y,p1,p2,_⟩:=(wP c x).1 hc;exact absurd ⟨b,p1,p2⟩ hex
  ·have e:nM ι n m (c - m+n)=c:=by unfold nM;rw [if_neg (by omega)];omega
   have:=Di (ι:=ι) uM hb (Z':=Z') FN q0 (b:=c - m+n) (by omega);rw [e,hc] at this;obtain ⟨o,h1,h2⟩:=aI.1 this.symm;obtain ⟨y,rfl,h3⟩:=aI.1 h2;exact ⟨_,y,e.symm,h1,h3.symm⟩
 have fD:∀ b y,Z'[b]? = some (some y)→(ka ι n Z' σ)[nM ι n m b]? = some (some (ef (nM ι n m) y)):=fun b y FF=>by
  rw [Di uM hb FN q0 (aJ.1 FF).1,FF];rfl
 have BL:∀ g o,jr (ka ι n Z' σ) F8 g o↔jr Z' β' g o:=fun g o=>by
  constructor
  ·rintro ⟨c,x,L,m1,m2,m3,m4⟩;obtain ⟨b,y,rfl,p2,rfl⟩:=nw c x m1;exact ⟨b,y,L,p2,by rw [← eb];exact m2,m3,Dn.mp m4⟩
  ·rintro ⟨b,y,L,m1,m2,m3,m4⟩;exact ⟨_,_,L,fD b y m1,by rw [eb];exact m2,m3,Dn.mpr m4⟩
 have Hk:MT X Z' β'=MT X (ka ι n Z' σ) F8:=funext fun g=>funext fun o=>propext (or_congr Iff.rfl (BL g o).symm);refine ⟨_,ka ι n Z' σ,F8,v,w',q3,?_,?_,?_,by rw [Fo q0,FN];omega,g5⟩
 ·refine ⟨fun c hc=>?_,fun c x hc=>?_,fun c c' x y L L' e1 e2 e3 e4 e5=>?_,g1.size,g1.qL,g1.gl⟩
  ·rw [Fo q0,FN] at hc;simp only [F8];rw [if_neg (by omega)];exact g1.oo _ (by omega)
  ·obtain ⟨b,y,rfl,p2,rfl⟩:=nw c x hc;obtain ⟨L,k1,k2,k3,k4⟩:=g1.cw b y p2;refine ⟨L,by rw [eb];exact k1,k2,k3,?_⟩;rw [← Hk];exact k4.sA (π:=nM ι n m) (qR q1 b y p2) fun b _=>eb b
  ·obtain ⟨b,u,rfl,p2,rfl⟩:=nw c x e1;obtain ⟨b',u',rfl,p2',rfl⟩:=nw c' y e2;rw [eb] at e3 e4;rw [g1.inj b b' u u' L L' p2 p2' e3 e4 e5]
 ·rw [← Hk];exact g2.sA (π:=nM ι n m) q2 fun b _=>eb b
 ·exact ⟨g3.os,g3.tape,g3.output,g3.size,fun g o x hc hn=>g3.cell g o x hc fun hx=>hn ((hm g o).2 hx),fun g hg hn=>g3.block g hg fun o hx=>hn o ((hm g o).2 hx),fun g o hx=>(g3.jb g o ((BL g o).1 hx)).imp (hm g o).2 id,fun c hc=>if_pos hc⟩
theorem aq.yW {F:Frame→List Frame→Sem Next→World→Value→World→Prop} {f:ah} {args:List ah} {K:ah→ai→Prop} {Z σ:ai} (ι:Nat→Nat) (uM:∀ b b',b<Z.length→b'<Z.length→ι b = ι b'→b=b') (hb:∀ b,b<Z.length→ι b < σ.length)
  (wP:∀ b,b<Z.length→∃ o,Z[b]? = some o∧σ[ι b]? = some (o.map (ef ι))) (hf:f.low Z.length) (ha:bF Z.length args) (hs:bD Z.length Z)
  (h:dJ P F f args Z (fun r Z'=>Z.length≤Z'.length∧bD Z'.length Z'∧r.low Z'.length∧K (ek (nM ι Z.length σ.length) r) (ka ι Z.length Z' σ))):dJ P F (ek ι f) (eK ι args) σ K:=by
 let vis:Nat→Bool:=fun c=>(List.range Z.length).any fun b=>ι b==c
 have vF:∀ c,vis c=true↔∃ b,b<Z.length∧ι b=c:=fun c=>by simp [vis]
 refine aq.frame vis (K':=fun r jq=>∃ Z',Z.length≤Z'.length∧jq=ka ι Z.length Z' (fg vis 0 σ)∧K r (ka ι Z.length Z' σ)) ?_ ?_
 ·have hl:(fg vis 0 σ).length = σ.length:=sZ _ _ _;refine aq.many ι uM (by rw [hl];exact hb) (fun c x=>?_) hf ha hs (h.mono ?_)
  ·rw [w9,bq];constructor
   ·intro hx;obtain ⟨o,h1,h2⟩:=aI.1 hx;split at h2
    ·rename_i hv;obtain ⟨b,mP,rfl⟩:=(vF c).1 hv;obtain ⟨z,sU,sV⟩:=wP b mP;rw [h1] at sV;subst h2;obtain ⟨y,rfl,e⟩:=aI.1 (aP sV).symm;exact ⟨b,y,mP,rfl,sU,e.symm⟩
    ·cases h2
   ·rintro ⟨b,y,mP,rfl,hz,rfl⟩;obtain ⟨z,sU,sV⟩:=wP b mP;rw [hz] at sU;cases sU;rw [sV,bM,if_pos ((vF _).2 ⟨b,mP,rfl⟩)];rfl
  ·rintro r Z' ⟨q0,q1,q2,q3⟩;rw [hl];exact ⟨q0,q1,q2,Z',q0,rfl,q3⟩
 ·rintro r jq ⟨Z',q0,rfl,q3⟩;have hl:(fg vis 0 σ).length = σ.length:=sZ _ _ _;refine ⟨fun c hc hv=>?_,?_⟩
  ·rw [M5 (by rw [hl];exact hc) (fun b mP e=>by rw [(vF c).2 ⟨b,mP,e⟩] at hv;cases hv),w9,bq,av hc];simp [hv]
  ·have e:iA vis 0 (ka ι Z.length Z' (fg vis 0 σ)) σ=ka ι Z.length Z' σ:=by
    refine b_ fun c=>?_;rw [E6 vis _ σ 0 c (by rw [Fo q0,hl];omega),bq];by_cases hc:c < σ.length
    ·cases hv:vis c with
     | false =>
      rw [if_pos ⟨hc,rfl⟩,M5 hc (fun b mP e=>by rw [(vF c).2 ⟨b,mP,e⟩] at hv;cases hv)]
     | true =>
      rw [if_neg (by simp)];obtain ⟨b,mP,rfl⟩:=(vF c).1 hv;have e1:=Di (ι:=ι) uM (m:=(fg vis 0 σ).length) (fun b mP=>by rw [hl];exact hb b mP) (Z':=Z') rfl q0 (b:=b) (by omega);have e2:=Di (ι:=ι) uM (m:=σ.length) hb (Z':=Z') rfl q0 (b:=b) (by omega);rw [hl] at e1;rw [show nM ι Z.length σ.length b = ι b from if_pos mP] at e1 e2
      rw [e1,e2]
    ·rw [if_neg (fun h=>hc h.1)];by_cases lJ:c < σ.length+(Z'.length - Z.length)
     ·have e0:nM ι Z.length σ.length (c - σ.length+Z.length)=c:=by unfold nM;rw [if_neg (by omega)];omega
      have e1:=Di (ι:=ι) uM (m:=(fg vis 0 σ).length) (fun b mP=>by rw [hl];exact hb b mP) (Z':=Z') rfl q0 (b:=c - σ.length+Z.length) (by omega);have e2:=Di (ι:=ι) uM (m:=σ.length) hb (Z':=Z') rfl q0 (b:=c - σ.length+Z.length) (by omega);rw [hl] at e1;rw [e0] at e1 e2;rw [e1,e2]
     ·rw [bt (by rw [Fo q0,hl];omega),bt (by rw [Fo q0];omega)]
   rw [e];exact q3
end
section
variable {P:Program} {lo:Ctx} {Q:ct→St→Prop} {ops:Array Oper} {fs:List Fp} {n0 N:Nat} {TM:Nat→List ah} {SS:Nat→ai} {X:Nat→Nat→Prop} {base mb:Nat} {D:List Deferred}
def lp (P:Program) (lo:Ctx) (X:Nat→Nat→Prop) (base mb:Nat) (D:List Deferred) (b:Frame) (k:List Item) (cs:List Frame) (R:ai→Env→World→Machine→Prop) (z:Option Nat) (AZ:List ah) (yH σ:ai) (β:Env) (w:World) (m:Machine):Prop :=
 (z=none∧∃ β' a' w',Rel X base mb D ⟨AZ,yH⟩ β' a' w'∧Ext lo.n σ β w yH β' w'∧Steps P m (lone (b.atR a' k) cs w'))∨z≠none∧R σ β w m
theorem lp.of {R:ai→Env→World→Machine→Prop} (hR:∀ {σ dA:ai} {β fy:Env} {w w1:World} {m m1:Machine},Ext lo.n σ β w dA fy w1→Steps P m m1→R dA fy w1 m1→R σ β w m) {b:Frame} {k:List Item} {cs:List Frame} {z:Option Nat} {AZ:List ah} {yH σ σ':ai} {β fy:Env} {w w1:World} {m m1:Machine} (he:Ext lo.n σ β w σ' fy w1) (hs:Steps P m m1) (h:lp P lo X base mb D b k cs R z AZ yH σ' fy w1 m1) :
  lp P lo X base mb D b k cs R z AZ yH σ β w m:=by
 rcases h with ⟨h0,β',a',w',h1,h2,h3⟩ | ⟨hz,h⟩
 ·exact .inl ⟨h0,β',a',w',h1,he.trans h2,hs.trans h3⟩
 ·exact .inr ⟨hz,hR he hs h⟩
theorem Yfc {R:ai→Env→World→Machine→Prop} (hR:∀ {σ dA:ai} {β fy:Env} {w w1:World} {m m1:Machine},Ext lo.n σ β w dA fy w1→Steps P m m1→R dA fy w1 m1→R σ β w m) {z:Option Nat} {dd sk:Nat→Prop} (hz:∀ i0,z=some i0→i0<ops.size∧dd i0) (hdd:∀ j,dd j→∃ i0,z=some i0∧(j=i0∨kF ops i0 j)) (hk:tY ops fs n0 N) (jg:lo.n≤n0) (hN:n0≤N)
  (hT:∀ i o,ops[i]? = some o→((qD P ops (dK fs i) o (TM i) (SS i) (TM (i+1)) (SS (i+1))∨yI P ops.size o (TM i) SS i (TM (i+1))∧(dK fs i).wr=[])∨(dd i∨sk i)∧(∃ v,TM (i+1)=put (TM i) o.dst v)∧SS (i+1)=SS i)) (Ee:∀ i,i≤ops.size→(TM i).length=(TM 0).length) (HP:∀ i,i≤ops.size→(SS i).length=N)
  (b:Frame) (k:List Item) (cs:List Frame)
  (hP:∀ i o,z=some i→ops[i]? = some o→∀ (tm:List ah) (σ:ai) (β:Env) (a:Act) (w:World) (rest:List Nat) (listed:Array Bool),listed.size=ops.size →
   gy ops.size (fun i l=>∃ o,ops[i]? = some o∧o.dst=some l) (fun i l=>(TM i).getD l .undef) (fun j=>listed.getD j false=true) (fun l=>tm.getD l .undef) →
   gy ops.size (fun i c=>c∈(dK fs i).wr) (fun i c=>(SS i)[c]?) (fun j=>listed.getD j false=true) (fun c=>σ[c]?) →
   (∀ i j,kF ops i j→listed.getD j false=true→listed.getD i false=true)→listed.getD i false=false→(∀ j,kF ops j i→listed.getD j false=true)→tm.length=(TM 0).length→σ.length=N→Rel X base mb D ⟨tm,σ⟩ β a w →
   (∃ fuel t,rest=Region.linearise.go .any ops fuel t (listed.setIfInBounds i true) []∧nZ (listed.setIfInBounds i true)≤fuel)→R σ β w (lone (b.atR a (.inRegion ops (i :: rest) :: k)) cs w)) :
  ∀ (fuel t:Nat) (listed:Array Bool) (tm:List ah) (σ:ai) (β:Env) (a:Act) (w:World),listed.size=ops.size→nZ listed≤fuel →
   (∀ i j,kF ops i j→listed.getD j false=true→listed.getD i false=true) →
   gy ops.size (fun i l=>∃ o,ops[i]? = some o∧o.dst=some l) (fun i l=>(TM i).getD l .undef) (fun j=>listed.getD j false=true) (fun l=>tm.getD l .undef) →
   gy ops.size (fun i c=>c∈(dK fs i).wr) (fun i c=>(SS i)[c]?) (fun j=>listed.getD j false=true) (fun c=>σ[c]?) →
   tm.length=(TM 0).length→σ.length=N→(∀ i c,i<ops.size→listed.getD i false=false→(dK fs i).nm=some c→β c=none)→Rel X base mb D ⟨tm,σ⟩ β a w→(∀ j,listed.getD j false=true→¬ dd j)→(∀ j,sk j→j<ops.size→listed.getD j false=true) →
   lp P lo X base mb D b k cs R z (TM ops.size) (SS ops.size) σ β w (lone (b.atR a (.inRegion ops (Region.linearise.go .any ops fuel t listed []) :: k)) cs w):=by
 have DS:∀ i l,i<ops.size→¬ (∃ o,ops[i]? = some o∧o.dst=some l)→(TM (i+1)).getD l .undef=(TM i).getD l .undef:=by
  intro i l hi hn;have ho:ops[i]? = some ops[i]:=aE hi;have mq:∀ v,(put (TM i) ops[i].dst v).getD l .undef=(TM i).getD l .undef:=by
   intro v;cases hd:ops[i].dst with
   | none=>rfl
   | some d =>
    have eH:d≠l:=fun e=>hn ⟨ops[i],ho,by rw [hd,e]⟩;simp only [put,List.getD,bX eH]
  rcases hT i _ ho with ((⟨_,h,_⟩ | ⟨_,r,dA,_,_,h,_⟩) | ⟨⟨_,_,_,_,_,_,_,_,h,_⟩,_⟩) | ⟨_,⟨_,h⟩,_⟩<;>rw [h]<;>exact mq _
 have Bz:∀ i c,i<ops.size→¬ c∈(dK fs i).wr→(SS (i+1))[c]? = (SS i)[c]?:=by
  intro i c hi hn;have ho:ops[i]? = some ops[i]:=aE hi;rcases hT i _ ho with ((⟨_,_,h⟩ | ⟨_,r,dA,_,h2,_,h⟩) | ⟨⟨_,_,_,_,_,_,_,_,_,h⟩,_⟩) | ⟨_,_,h⟩
  rotate_right
  ·rw [h]
  rotate_right
  ·rw [h]
  ·rw [h]
  ·rw [h,xC (by rw [A4 h2,dM,sZ]),bq,if_neg hn]
 intro fuel;have finish:∀ (listed:Array Bool) (tm:List ah) (σ:ai) (β:Env) (a:Act) (w:World),(∀ j,j<ops.size→listed.getD j false=true) →
   gy ops.size (fun i l=>∃ o,ops[i]? = some o∧o.dst=some l) (fun i l=>(TM i).getD l .undef) (fun j=>listed.getD j false=true) (fun l=>tm.getD l .undef) →
   gy ops.size (fun i c=>c∈(dK fs i).wr) (fun i c=>(SS i)[c]?) (fun j=>listed.getD j false=true) (fun c=>σ[c]?) →
   tm.length=(TM 0).length→σ.length=N→Rel X base mb D ⟨tm,σ⟩ β a w→(∀ j,listed.getD j false=true→¬ dd j) →
   lp P lo X base mb D b k cs R z (TM ops.size) (SS ops.size) σ β w (lone (b.atR a (.inRegion ops [] :: k)) cs w):=by
  intro listed tm σ β a w fq i1 i2 l1 l2 hrel sd;have Ie:z=none:=by
   cases BV:z with
   | none=>rfl
   | some i0=>obtain ⟨q1,q2⟩:=hz i0 BV;exact absurd q2 (sd i0 (fq i0 q1))
  have e1:tm=TM ops.size:=by
   apply b_;intro l;have h1:tm.getD l .undef=(TM ops.size).getD l .undef:=gy.done DS i1 fq l;have hl:=Ee ops.size (ae _);by_cases bA:l<tm.length
   ·have aU:l<(TM ops.size).length:=by omega
    rw [av bA,av aU];simp only [List.getD,av bA,av aU,bx] at h1;rw [h1]
   ·rw [bt (by omega),bt (by omega)]
  have e2 : σ=SS ops.size:=by
   apply b_;intro c;exact gy.done Bz i2 fq c
  subst e1 e2;exact .inl ⟨Ie,β,a,w,hrel,Ext.refl _ _ _ _, .one stepR_region_end⟩
 induction fuel with
 | zero =>
  intro t listed tm σ β a w fJ zw gV i1 i2 l1 l2 uj hrel sd _;simp only [Region.linearise.go,lZ];exact finish listed tm σ β a w (fun j hj=>LS (by omega) (by omega)) i1 i2 l1 l2 hrel sd
 | succ fuel ih =>
  intro t listed tm σ β a w fJ zw gV i1 i2 l1 l2 uj hrel sd AA;simp only [Region.linearise.go];change lp P lo X base mb D b k cs R z (TM ops.size) (SS ops.size) σ β w (lone (b.atR a (.inRegion ops (match (Region.ready .any ops listed)[t % (Region.ready .any ops listed).length]? with
   | some i=>Region.linearise.go .any ops fuel (t / (Region.ready .any ops listed).length) (listed.setIfInBounds i true) [i]
   | none=>[].reverse) :: k)) cs w)
  cases hi:(Region.ready .any ops listed)[t % (Region.ready .any ops listed).length]? with
  | none =>
   have zm:Region.ready .any ops listed=[]:=by
    cases hr:Region.ready .any ops listed with
    | nil=>rfl
    | cons x xs =>
     rw [hr] at hi;have bA:t % (x :: xs).length<(x :: xs).length:=Nat.mod_lt _ (by simp);simp at hi;simp at bA;omega
   refine finish listed tm σ β a w (fun j=>?_) i1 i2 l1 l2 hrel sd
   induction j using Nat.strongRecOn with
   | _ j P4 =>
    intro hj;cases hv:listed.getD j false with
    | true=>rfl
    | false =>
     have jX:j∈Region.ready .any ops listed:=mem_ready.2 ⟨by
      have:j<listed.size:=by omega
      simpa [this] using hv,ops[j],aE hj,fun e he hb=>by
       have bA:e.on<j:=(kF.edge (aE hj) he hb).lt hk.down;exact P4 e.on bA (by omega)⟩
     rw [zm] at jX;cases jX
  | some i =>
   simp only [];rw [linearise_go_acc,pX,qP];obtain ⟨BS,o,ho,fq⟩:=mem_ready.1 (mf hi);have fD:i<ops.size:=(aO.1 ho).1;have yb:listed.getD i false=false:=by
    have:i<listed.size:=by omega
    simpa [this] using BS
   have rC:¬ (listed.getD i false=true):=by rw [yb];simp
   have aN:∀ j,kF ops j i→listed.getD j false=true:=by
    intro j hb;generalize dZ:i=i' at hb
    induction hb with
    | @edge j' o' e h1 h2 h3 =>
     subst dZ;rw [ho] at h1;cases h1;exact fq e h2 h3
    | trans h1 h2 _ pq=>exact gV _ _ h1 (pq dZ)
   have vz:∀ l,l∈o.looksAt ops∨o.dst=some l→∀ j,j<ops.size→j≠i→(∃ oj,ops[j]? = some oj∧oj.dst=some l)→kF ops i j∨kF ops j i:=by
    rintro l hl j hj eH ⟨oj,h1,h2⟩;exact hk.tmp i o ho l hl j oj h1 eH h2
   have qH:∀ l,l∈o.looksAt ops→tm.getD l .undef=(TM i).getD l .undef:=fun l hl=>gy.read hk.down DS gV i1 fD rC aN (vz l (.inl hl));have xv:∀ c,c ∉ (dK fs i).hd→σ[c]? = (SS i)[c]?:=fun c hc=>gy.read hk.down Bz gV i2 fD rC aN (hk.see i fD c hc);have O8:=Ee i (by omega);have Ed:=HP i (by omega);have vu:dM (dK fs i) σ=dM (dK fs i) (SS i):=by
    apply b_;intro c;simp only [dM,w9,bq];by_cases hc:c∈(dK fs i).hd
    ·have e:(!(dK fs i).hd.contains c)=false:=by simp [hc]
     rw [e];by_cases bA:c<N
     ·rw [av (l:=σ) (by omega),av (l:=SS i) (by omega)];rfl
     ·rw [bt (l:=σ) (by omega),bt (l:=SS i) (by omega)]
    ·rw [xv c hc]
   have ff:(dK fs i).name σ=(dK fs i).name (SS i):=by simp only [Fp.name,l2,Ed]
   have r7:mN ops tm o=mN ops (TM i) o:=Vi (by omega) qH;have mq:∀ (l:Nat) (v:ah),(∃ o',ops[i]? = some o'∧o'.dst=some l)→(put tm o.dst v).getD l .undef=(put (TM i) o.dst v).getD l .undef:=by
    rintro l v ⟨o',h1,h2⟩;rw [ho] at h1;cases h1;rw [h2];simp only [put,List.getD,py];by_cases bA:l<tm.length
    ·rw [av bA,av (show l<(TM i).length by omega)];rfl
    ·rw [bt (eA bA),bt (show (TM i).length≤l by omega)]
   have sl:∀ (l:Nat) (v:ah), ¬ (∃ o',ops[i]? = some o'∧o'.dst=some l)→(put tm o.dst v).getD l .undef=tm.getD l .undef:=by
    intro l v hn;cases hd:o.dst with
    | none=>rfl
    | some d =>
     have eH:d≠l:=fun e=>hn ⟨o,ho,by rw [hd,e]⟩;simp only [put,List.getD,bX eH]
   have gS:∀ j,((listed.setIfInBounds i true).getD j false=true)↔(listed.getD j false=true∨j=i):=by
    intro j;constructor
    ·intro h;by_cases e:i=j
     ·exact .inr e.symm
     ·rw [rH false e] at h;exact .inl h
    ·rintro (h | rfl)
     ·exact getD_set_true h
     ·have:j<listed.size:=by omega
      simp [this]
   have y3:(fun j=>(listed.setIfInBounds i true).getD j false=true)=fun j=>listed.getD j false=true∨j=i:=funext fun j=>propext (gS j);have wC:∀ i' j,kF ops i' j→(listed.setIfInBounds i true).getD j false=true→(listed.setIfInBounds i true).getD i' false=true:=by
    intro i' j hb hj;rw [gS] at hj ⊢;rcases hj with hj | rfl
    ·exact .inl (gV i' j hb hj)
    ·exact .inl (aN i' hb)
   have DT:=hT i o ho;by_cases DX:dd i
   ·obtain ⟨i0,Ey,Av⟩:=hdd i DX;rcases Av with rfl | hb
    ·refine .inr ⟨by rw [Ey];simp,hP i o Ey ho tm σ β a w _ listed fJ i1 i2 gV yb aN l1 l2 hrel ⟨fuel,_,rfl,?_⟩⟩;have:=Jb (i:=i) BS;omega
    ·exact absurd (hz i0 Ey).2 (sd i0 (aN i0 hb))
   have DT:=DT.resolve_right fun h=>h.1.elim DX fun hs=>rC (AA i hs fD);generalize oO:Region.linearise.go .any ops fuel (t / (Region.ready .any ops listed).length) (listed.setIfInBounds i true) []=rest;have step:∃ j6 σ' fy a1 w1,Rel X base mb D ⟨j6,σ'⟩ fy a1 w1∧Ext 0 σ β w σ' fy w1∧(∀ c,c≠(dK fs i).name σ→c < σ.length→fy c = β c)∧j6.length=tm.length∧σ'.length = σ.length ∧
     (∀ l,(∃ o',ops[i]? = some o'∧o'.dst=some l)→j6.getD l .undef=(TM (i+1)).getD l .undef)∧(∀ l, ¬ (∃ o',ops[i]? = some o'∧o'.dst=some l)→j6.getD l .undef=tm.getD l .undef) ∧
     (∀ c,c∈(dK fs i).wr→σ'[c]? = (SS (i+1))[c]?)∧(∀ c,c ∉ (dK fs i).wr→σ'[c]? = σ[c]?) ∧
     Steps P (lone (b.atR a (.inRegion ops (i :: rest) :: k)) cs w) (lone (b.atR a1 (.inRegion ops rest :: k)) cs w1):=by
    rcases DT with (⟨g1,g2,g3⟩ | ⟨g1,r,dA,g2,g3,g4,g5⟩) | ⟨⟨g1,t0,x0,l0,r,g2,g3,g4,g5,g6⟩,g7⟩
    rotate_right
    ·have BF:mN ops tm o=some true:=by unfold mN;rw [g1]
     have hx:ev tm x0=ev (TM i) x0:=JL qH x0 (by rw [g2];simp [Op.operands]);obtain ⟨b0,yw⟩:=UN l0 (ev (TM i) x0);obtain ⟨k0,D9,ow⟩:=i2.some b0;have sd:jv σ l0 (ev tm x0)=some r:=by rw [hx,yw σ (SS k0) ow];exact g4 k0 D9
     have DY:ln P o.op tm (dM Fp.no σ) (Fp.no.name σ) r σ:=by
      have tH:dM Fp.no σ = σ:=by
       apply b_;intro c;simp only [dM,w9,bq,Fp.no];cases σ[c]?<;>rfl
      rw [tH,g2];simp only [ln,dt,g3,fb,sd,bM]
     have um:fB Fp.no.wr 0 σ (dM Fp.no σ):=by
      have tH:dM Fp.no σ = σ:=by
       apply b_;intro c;simp only [dM,w9,bq,Fp.no];cases σ[c]?<;>rfl
      rw [tH];have:∀ (i:Nat) (a:ai),fB Fp.no.wr i a a:=fun i a=>by
       induction a generalizing i with
       | nil=>trivial
       | cons x a ih=>exact ⟨.inr rfl,ih _⟩
      exact this 0 σ
     obtain ⟨fy,a1,w1,q1,q2,q3,q4⟩:=ln.step (rest:=rest) hrel ho BF DY um (fun c hc=>by simp [Fp.no] at hc) (hrel.s.oo _ (ae _)) b k cs;have Pg:dX Fp.no.wr 0 σ σ = σ:=by
      apply b_;intro c;rw [xC rfl];split<;>rfl
     rw [Pg] at q1 q2;refine ⟨_,σ,fy,a1,w1,q1,q2,fun c _ hc=>q3 c (by simp only [Fp.name,Fp.no,eB];omega) hc,z8 _ _ _,rfl,fun l hl=>by rw [g5];exact mq l _ hl,fun l hl=>sl l _ hl,fun c hc=>?_,fun _ _=>rfl,q4⟩;rw [g7] at hc;cases hc
    ·have hw:=A0 hrel (r7.trans g1);refine ⟨put tm o.dst gone,σ,β,a.put o.dst undef,w,hrel.next hrel.s (Ext.refl 0 _ _ _) (fun _ _ h=>h) (.oD _) o.dst,Ext.refl _ _ _ _,fun _ _ _=>rfl,z8 _ _ _,rfl,
      fun l hl=>by rw [g2];exact mq l _ hl,fun l hl=>sl l _ hl,fun c hc=>?_,fun _ _=>rfl,?_⟩
     ·rw [g3];exact gy.read hk.down Bz gV i2 fD rC aN (hk.own i fD c hc).2.2
     ·have:=stepR_op_skip (P:=P) (b:=b) (a:=a) (ops:=ops) (i:=i) (rest:=rest) (k:=k) (cs:=cs) (w:=w) (by simp [ho,hw]);rw [ho] at this;exact .one this
    ·have DY:ln P o.op tm (dM (dK fs i) σ) ((dK fs i).name σ) r dA:=by
      rw [vu,ff];exact g2.congr (JL qH)
     have um:fB (dK fs i).wr 0 dA (dM (dK fs i) σ):=by rw [vu];exact g3
     have zn : β ((dK fs i).name σ)=none:=by
      unfold Fp.name;cases hn:(dK fs i).nm with
      | none=>exact hrel.s.oo _ (ae _)
      | some c=>exact uj i c fD yb hn
     have uJ : dA.length = σ.length:=by rw [A4 um,dM,sZ]
     have Ec : dA.length=(SS i).length:=by omega
     obtain ⟨fy,a1,w1,q1,q2,q3,q4⟩:=ln.step (rest:=rest) hrel ho (r7.trans g1) DY um (fun c hc=>(hk.own i fD c hc).2.1) zn b k cs;refine ⟨_,_,fy,a1,w1,q1,q2,q3,z8 _ _ _,IY uJ,fun l hl=>by rw [g4];exact mq l _ hl,fun l hl=>sl l _ hl,fun c hc=>?_,fun c hc=>?_,q4⟩
     ·rw [g5,xC uJ,xC Ec,bq,if_pos hc,if_pos hc]
     ·rw [xC uJ,bq,if_neg hc]
   obtain ⟨j6,σ',fy,a1,w1,s1,s2,s3,s4,s5,s6,s7,s8,s9,Qh⟩:=step;have nw:=ih (t / (Region.ready .any ops listed).length) (listed.setIfInBounds i true) j6 σ' fy a1 w1 (by simp [fJ]) (by have:=Jb BS;omega) wC
    (by rw [y3];exact gy.step hk.down gV i1 fD rC (fun l hl=>vz l (.inr (by obtain ⟨o',h1,h2⟩:=hl;rw [ho] at h1;cases h1;exact h2))) s6 s7)
    (by rw [y3];exact gy.step hk.down gV i2 fD rC (fun c hc=>(hk.own i fD c hc).2.2) s8 s9)
    (by omega) (by omega)
    (fun j c hj yy H0=>by
     have CM:j≠i:=fun e=>by rw [e] at yy;have:=(gS i).2 (.inr rfl);rw [this] at yy;cases yy
     have Ef:listed.getD j false=false:=by rw [rH false (gQ CM)] at yy;exact yy
     obtain ⟨m1,m2,m3⟩:=hk.F5 j hj c H0;rw [s3 c ?_ (by omega)]
     ·exact uj j c hj Ef H0
     ·unfold Fp.name;cases hn:(dK fs i).nm with
      | none=>simp only [eB];omega
      | some c'=>exact fun e=>m3 i fD (gQ CM) (by rw [hn,e];rfl)) s1
    (fun j hj=>by rcases (gS j).1 hj with h | rfl;exact sd j h;exact DX) (fun j hs hj=>(gS j).2 (.inl (AA j hs hj)))
   rw [oO] at nw;have ky:Ext lo.n σ β w σ' fy w1:=⟨s2.os,s2.tape,s2.output,s2.size,s2.cell,s2.block,s2.jb,fun c hc=>s3 c (by
    unfold Fp.name;cases hn:(dK fs i).nm with
    | none=>simp only [eB];omega
    | some c'=>have:=(hk.F5 i fD c' hn).1;simp only [bx];omega) (by omega)⟩
   exact lp.of hR ky Qh nw
theorem Ypf {ops:Array Oper} {i j:Nat} (h:((uZ [] ops.toList).getD j 0).testBit i=true):kF ops i j:=L8 ops.toList [] (by simp) (fun j i h=>by simp at h) _ _ h
theorem Yoa (hd:j_ ops=true):∀ (fuel m d t:Nat) (listed:Array Bool),ops.size=m+d→listed.size=ops.size→(∀ j,j<m→listed.getD j false=true)→(∀ j,m≤j→j<ops.size→listed.getD j false=false) →
  (∀ i j,m≤i→i<j→j<ops.size→kF ops i j)→nZ listed≤fuel→Region.linearise.go .any ops fuel t listed []=List.range' m d:=by
 intro fuel
 induction fuel with
 | zero =>
  intro m d t listed h1 h2 h3 h4 h5 h6;cases d with
  | zero=>rfl
  | succ d =>
   have:=LS (listed:=listed) (by omega) (j:=m) (by omega);rw [h4 m (ae _) (by omega)] at this;cases this
 | succ fuel ih =>
  intro m d t listed h1 h2 h3 h4 h5 h6;have BF:∀ j,j<ops.size→(listed.getD j true=false↔listed.getD j false=false):=fun j hj=>by
   have:j<listed.size:=by omega
   simp [ak,aE this]
  have jX:∀ j,j∈Region.ready .any ops listed→j=m∧j<ops.size:=fun j hj=>by
   obtain ⟨q1,o,q2,q3⟩:=mem_ready.1 hj;have zh:j<ops.size:=(aO.1 q2).1;have hjm:m≤j:=by
    rcases jV j m with h | h
    ·have:=h3 j h;rw [(BF j zh).1 q1] at this;cases this
    ·exact h
   refine ⟨?_,zh⟩;rcases jV m j with h | h
   ·exfalso;have hb:=h5 m j (ae _) h zh;have key:∀ i j',kF ops i j'→j'=j→listed.getD i false=true:=by
     intro i j' hb
     induction hb with
     | @edge j1 o1 e g1 g2 g3 =>
      intro e1;subst e1;rw [q2] at g1;cases g1;exact q3 e g2 g3
     | @trans a b' c' g1 g2 lh pq =>
      intro e1;have v7:=pq e1;have bA:=g1.lt hd;have Ao:=g1.lt_size;rcases jV b' m with h | h
      ·exact h3 a (by omega)
      ·rw [h4 b' h Ao] at v7;cases v7
    have:=key m j hb rfl;rw [h4 m (ae _) (by omega)] at this;cases this
   ·omega
  simp only [Region.linearise.go];change (match (Region.ready .any ops listed)[t % (Region.ready .any ops listed).length]? with
   | some i=>Region.linearise.go .any ops fuel (t / (Region.ready .any ops listed).length) (listed.setIfInBounds i true) [i]
   | none=>[].reverse) = _
  cases d with
  | zero =>
   have hr:Region.ready .any ops listed=[]:=List.eq_nil_iff_forall_not_mem.2 fun j hj=>by have:=jX j hj;omega
   rw [hr];rfl
  | succ d =>
   have hm:m∈Region.ready .any ops listed:=mem_ready.2 ⟨(BF m (by omega)).2 (h4 m (ae _) (by omega)),ops[m],aE (by omega),fun e he hb=>h3 _ ((kF.edge (aE (by omega)) he hb).lt hd)⟩;have bA:t % (Region.ready .any ops listed).length<(Region.ready .any ops listed).length:=Nat.mod_lt _ (List.length_pos_of_mem hm);rw [av bA];have he:=(jX _ (aC bA)).1;simp only [];rw [he,linearise_go_acc,pX,qP,iG];congr 1;have gS:∀ j,(listed.setIfInBounds m true).getD j false=true↔listed.getD j false=true∨j=m:=by
    intro j;have zl:m<listed.size:=by omega
    simp only [ak,bJ];by_cases e:m=j
    ·subst e;simp [zl]
    ·simp [e,gQ e]
   refine ih (m+1) d _ _ (by omega) (by simpa using h2) (fun j hj=>(gS j).2 ?_) (fun j hj zh=>?_) (fun i j hi xd zh=>h5 i j (by omega) xd zh) ?_
   ·rcases jV j m with h | h
    ·exact .inl (h3 j h)
    ·exact .inr (by omega)
   ·rw [← dw,gS];rintro (h | h)
    ·rw [h4 j (by omega) zh] at h;cases h
    ·omega
   ·have:=Jb (i:=m) ((BF m (by omega)).2 (h4 m (ae _) (by omega)));omega
def sH (ops:Array Oper) (m:Nat) (T:List ah):Nat→List ah
 | 0=>T
 | k+1=>put (sH ops m T k) ((ops[m+k]?).bind Oper.dst) .undef
theorem U3 (m:Nat) (T:List ah):∀ k,(sH ops m T k).length=T.length
 | 0=>rfl
 | k+1=>by rw [sH,z8,U3 m T k]
theorem aG.Hd {k:List KI} {id:Nat} {tm:List ah} {σ:ai} (fs:List Fp) (n0 N:Nat) (hm:P.follows .mixedOrders=true) (jA:rU ops fs n0 N=true) (h0 : σ.length=n0) (hN:n0≤N) (m:Nat) (xW:m<ops.size)
  (zi:((List.range ops.size).all fun j=>decide (j<m)||(List.range j).all fun i=>((uZ [] ops.toList).getD j 0).testBit i)=true) (PY:((List.range ops.size).all fun j=>decide (j<m)||(dK fs j).wr.isEmpty)=true)
  (h:iT P lo (fun _ st=>aG P lo Q (.ops ops (ops.toList.drop m) :: k) .normal st) [] ops (ops.toList.take m) fs tm (da N σ)) :
  aG P lo Q (.code (.region id ops true) :: k) .normal ⟨tm,σ⟩:=by
 have hk:=TC jA;obtain ⟨TM,SS,e1,e2,e3,e4⟩:=I0 _ _ _ _ h;have hlen:(ops.toList.take m).length=m:=by simp;omega
 rw [hlen] at e4;have e4:aG P lo Q (.ops ops (ops.toList.drop m) :: k) .normal ⟨TM m,SS m⟩:=e4;have sf:∀ i j,m≤j→i<j→j<ops.size→kF ops i j:=fun i j hmj xd hj=>by
  have:=a8.1 zi j (cj.2 hj);rw [decide_eq_false (by omega:¬ j<m),dk] at this;exact Ypf (a8.1 this i (cj.2 xd))
 have rE:∀ j,m≤j→j<ops.size→(dK fs j).wr=[]:=fun j hmj hj=>by
  have:=a8.1 PY j (cj.2 hj);rw [decide_eq_false (by omega:¬ j<m),dk] at this;exact List.isEmpty_iff.1 this
 have HU:∀ j,j<ops.size→j≠m→kF ops m j∨kF ops j m:=fun j hj eH=>by
  rcases jV j m with h | h
  ·exact .inr (sf j m (ae _) h xW)
  ·exact .inl (sf m j h (by omega) hj)
 have Kk:∀ i o,i<m→ops[i]? = some o→qD P ops (dK fs i) o (TM i) (SS i) (TM (i+1)) (SS (i+1)):=fun i o uh hi=>e3 i o (by rw [fI,if_pos uh];simpa using hi);have hl:∀ i,i≤m→(TM i).length=(TM 0).length∧(SS i).length=N:=by
  intro i
  induction i with
  | zero=>intro _;exact ⟨rfl,by rw [e2,MG (by omega)]⟩
  | succ i ih =>
   intro hi;have:=(Kk i ops[i] (by omega) (aE (by omega))).len;have:=ih (by omega);omega
 let vR:Nat→List ah:=fun i=>if i≤m then TM i else sH ops m (TM m) (i - m)
 let AY:Nat→ai:=fun i=>if i≤m then SS i else SS m
 have tT:∀ i,i≤m→vR i=TM i:=fun i hi=>if_pos hi;have tS:∀ i,i≤m→AY i=SS i:=fun i hi=>if_pos hi;have tN:∀ i,m≤i→(hi:i<ops.size)→vR (i+1)=put (vR i) ops[i].dst .undef:=fun i uh hi=>by
  have e1:vR (i+1)=sH ops m (TM m) (i - m+1):=by simp only [vR];rw [if_neg (by omega),show i+1 - m=i - m+1 by omega]
  have e2:vR i=sH ops m (TM m) (i - m):=by
   by_cases h:i=m
   ·subst h;rw [tT i (ae _),eV];rfl
   ·simp only [vR];rw [if_neg (by omega)]
  rw [e1,e2,sH,show m+(i - m)=i by omega,aE hi];rfl
 have KM:∀ i,m≤i→AY i=SS m:=fun i uh=>by
  by_cases h:i=m
  ·subst h;exact tS i (ae _)
  ·exact if_neg (by omega)
 have DS:∀ i l,i<ops.size→¬ (∃ o,ops[i]? = some o∧o.dst=some l)→(vR (i+1)).getD l .undef=(vR i).getD l .undef:=by
  intro i l hi hn;have ho:ops[i]? = some ops[i]:=aE hi;have mq:∀ v,(put (vR i) ops[i].dst v).getD l .undef=(vR i).getD l .undef:=by
   intro v;cases hd:ops[i].dst with
   | none=>rfl
   | some d =>
    have eH:d≠l:=fun e=>hn ⟨ops[i],ho,by rw [hd,e]⟩;simp only [put,List.getD,bX eH]
  by_cases uh:i<m
  ·have h1:=Kk i ops[i] uh ho;rw [tT (i+1) (by omega)];rw [tT i (by omega)] at mq ⊢;rcases h1 with ⟨_,g,_⟩ | ⟨_,r,dA,_,_,g,_⟩<;>rw [g]<;>exact mq _
  ·rw [tN i (by omega) hi];exact mq _
 have Bz:∀ i c,i<ops.size→¬ c∈(dK fs i).wr→(AY (i+1))[c]? = (AY i)[c]?:=by
  intro i c hi hn;have ho:ops[i]? = some ops[i]:=aE hi;by_cases uh:i<m
  ·have h1:=Kk i ops[i] uh ho;rw [tS (i+1) (by omega),tS i (by omega)];rcases h1 with ⟨_,_,g⟩ | ⟨_,r,dA,_,g2,_,g⟩
   ·rw [g]
   ·rw [g,xC (by rw [A4 g2,dM,sZ]),bq,if_neg hn]
  ·rw [KM (i+1) (by omega),KM i (by omega)]
 intro X base mb D β a w b kk cs h1 h2 h3 _;simp only at h1;have hrel:Rel X base mb D ⟨vR 0,AY 0⟩ β a { w with drawn:=w.drawn+1 }:=by
  have:=UO (n:=w.drawn+1) h3;rw [tT 0 (au _),tS 0 (au _),e1,e2];exact ⟨this.s.pad (by simp only;omega),this.n,fun j hj=>by rw [KT];exact this.t j hj,this.d⟩
 have wB:=Yfc (P:=P) (lo:=lo) (ops:=ops) (fs:=fs) (n0:=n0) (N:=N) (TM:=vR) (SS:=AY) (X:=X) (base:=base) (mb:=mb) (D:=D)
  (R:=fun σ β w Qb=>mb≤w.heap.size→∃ e eL β' a' w',aG P lo Q k e eL∧lo.n≤eL.σ.length∧Rel X base mb D eL β' a' w'∧Ext lo.n σ β w eL.σ β' w'∧AW P Qb b kk cs e a' w')
  (fun he hs f FM=>let ⟨e,eL,β',a',w',g1,g2,g3,g4,g5⟩:=f (c_ FM he.size);⟨e,eL,β',a',w',g1,g2,g3,he.trans g4, .of_steps hs g5⟩) (z:=some m) (dd:=fun j=>m≤j∧j<ops.size) (sk:=fun _=>False)
  (fun i0 Av=>by cases Av;exact ⟨xW,ae _,xW⟩) (fun j hj=>⟨m,rfl,(Nat.eq_or_lt_of_le hj.1).imp Eq.symm fun h=>sf m j hj.1 h hj.2⟩) hk (by omega) hN
  (fun i o ho=>by
   by_cases uh:i<m
   ·rw [tT i (by omega),tT (i+1) (by omega),tS i (by omega),tS (i+1) (by omega)];exact .inl (.inl (Kk i o uh ho))
   ·have O2:i<ops.size:=(aO.1 ho).1;have Kw:ops[i]=o:=by rw [aE O2] at ho;exact aP ho
    refine .inr ⟨.inl ⟨by omega,O2⟩,⟨.undef,?_⟩,?_⟩
    ·rw [tN i (by omega) O2,Kw]
    ·rw [KM (i+1) (by omega),KM i (by omega)])
  (fun i hi=>by
   by_cases uh:i≤m
   ·rw [tT i uh,tT 0 (au _)];exact (hl i uh).1
   ·simp only [vR];rw [if_neg uh,if_pos (au _),U3];exact (hl m (ae _)).1)
  (fun i hi=>by
   by_cases uh:i≤m
   ·rw [tS i uh];exact (hl i uh).2
   ·simp only [AY];rw [if_neg uh];exact (hl m (ae _)).2)
  b kk cs
  (fun i o hz ho tm σ β a w rest listed zv i1 i2 gV BS aN l1 l2 hrel oO FM=>by
   cases hz;have fq:∀ j,j<m→listed.getD j false=true:=fun j hj=>aN j (sf j m (ae _) hj xW);obtain ⟨fuel,t,hr,FI⟩:=oO;have gS:∀ j,(listed.setIfInBounds m true).getD j false=true↔listed.getD j false=true∨j=m:=by
    intro j;have zl:m<listed.size:=by omega
    simp only [ak,bJ];by_cases e:m=j
    ·subst e;simp [zl]
    ·simp [e,gQ e]
   rw [Yoa hk.down fuel (m+1) (ops.size - (m+1)) t _ (by omega) (by simpa using zv) (fun j hj=>(gS j).2 ((jV j m).imp (fq j) fun h=>by omega)) (fun j hj zh=>by
    rw [← dw,gS];rintro (h | h)
    ·have:=gV _ _ (sf m j (by omega) (by omega) zh) h;rw [BS] at this;cases this
    ·omega) (fun i j hi xd zh=>sf i j (by omega) xd zh) FI] at hr
   subst hr;have rC:¬ (listed.getD m false=true):=by rw [BS];simp
   have et:tm=TM m:=by
    apply b_;intro l;have h1:tm.getD l .undef=(vR m).getD l .undef:=gy.read hk.down DS gV i1 xW rC aN (fun j hj eH _=>HU j hj eH);rw [tT m (ae _)] at h1;have hlm:=(hl m (ae _)).1;rw [tT 0 (au _)] at l1;by_cases bA:l<tm.length
    ·have aU:l<(TM m).length:=by omega
     rw [av bA,av aU];simp only [List.getD,av bA,av aU,bx] at h1;rw [h1]
    ·rw [bt (by omega),bt (by omega)]
   have es : σ=SS m:=by
    apply b_;intro c;have : σ[c]? = (AY m)[c]?:=gy.read hk.down Bz gV i2 xW rC aN (fun j hj eH _=>HU j hj eH);rw [this,tS m (ae _)]
   subst et es;have PI:B_ ops (ops.toList.drop m):=⟨by simp,fun j=>by simp;try (congr 1;omega)⟩
   have hR:=e4 PI;have za:(ops.toList.drop m).length=ops.size - m:=by simp
   rw [za,show ops.size - (ops.size - m)=m by omega,show ops.size - m=(ops.size - (m+1))+1 by omega,iG] at hR;obtain ⟨e,eL,β',a',w',q,r1,r2,r3,rd,r4⟩:=hR X base mb D β a w b kk cs (by have:=(hl m (ae _)).2;simp only;omega) FM hrel;refine ⟨e,eL,β',a',w',q,r1,r2,r3,?_⟩;rw [bu] at r4;have r4:AW P (lone (b.atR a (.inRegion ops (m :: List.range' (m+1) (ops.size - (m+1))) :: kk)) cs w) b (.inRegion ops [] :: kk) cs e a' w':=r4;cases e with
   | normal=>exact Steps.trans r4 (.one stepR_region_end)
   | exit id=>obtain ⟨k',e1,e2⟩:=r4;exact ⟨k',by rw [e1];rfl,e2⟩
   | goto l=>obtain ⟨k',e1,e2⟩:=r4;exact ⟨k',by rw [e1];rfl,e2⟩
   | ret=>exact r4
   | panic u=>exact r4)
  ops.size (w.tape w.drawn (.order b.fn id)) (Array.replicate ops.size false) (vR 0) (AY 0) β a { w with drawn:=w.drawn+1 } (by simp) (by simp [nZ])
  (fun i j _ hj=>by simp [ak,eM] at hj;split at hj<;>simp at hj)
  (by
   have:(fun j=>(Array.replicate ops.size false).getD j false=true)=fun _=>False:=funext fun j=>by simp [ak,eM];split<;>simp
   rw [this];exact gy.init)
  (by
   have:(fun j=>(Array.replicate ops.size false).getD j false=true)=fun _=>False:=funext fun j=>by simp [ak,eM];split<;>simp
   rw [this];exact gy.init)
  rfl (by rw [tS 0 (au _)];exact (hl 0 (au _)).2) (fun i c hi _ hc=>h3.s.oo c (by simp only;have:=(hk.F5 i hi c hc).1;omega)) hrel
  (fun j hj=>by simp [ak,eM] at hj;split at hj<;>simp at hj) (fun j h=>h.elim)
 rcases wB with ⟨hz,_⟩ | ⟨_,wB⟩
 ·cases hz
 ·obtain ⟨e,eL,β',a',w',g1,g2,g3,g4,g5⟩:=wB h2;rw [tS 0 (au _),e2] at g4;refine ⟨e,eL,β',a',w',g1,g2,g3,?_, .of_steps (.one stepR_region_draw) ?_⟩
  ·exact ⟨g4.os,g4.tape,g4.output,g4.size,fun g o v hc hn=>g4.cell g o v hc fun hm=>hn (Dm.1 hm),fun g hg hn=>g4.block g hg fun o hm=>hn o (Dm.1 hm),fun g o hm=>(g4.jb g o hm).imp Dm.1 (fun h=>h),g4.env⟩
  ·have hs:Region.schedule (P.follows .mixedOrders) ops (w.tape w.drawn (.order b.fn id))=Region.linearise.go .any ops ops.size (w.tape w.drawn (.order b.fn id)) (Array.replicate ops.size false) []:=by
    simp only [Region.schedule,hm,fM,if_true];rfl
   rw [hs];exact g5
theorem aG.Hc {k:List KI} {id:Nat} {tm:List ah} {σ:ai} (fs:List Fp) (n0 N:Nat) (hm:P.follows .mixedOrders=true) (jA:rU ops fs n0 N=true) (h0 : σ.length=n0) (hN:n0≤N) (m:Nat) (fJ:ops.size=m+1)
  (zi:((List.range m).all fun j=>((uZ [] ops.toList).getD m 0).testBit j)=true) (rE:(dK fs m).wr=[])
  (h:iT P lo (fun _ st=>aG P lo Q (.ops ops (ops.toList.drop m) :: k) .normal st) [] ops (ops.toList.take m) fs tm (da N σ)) :
  aG P lo Q (.code (.region id ops true) :: k) .normal ⟨tm,σ⟩:=by
 refine aG.Hd fs n0 N hm jA h0 hN m (by omega) (a8.2 fun j hj=>?_) (a8.2 fun j hj=>?_) h
 ·have:=cj.1 hj;rw [bR,decide_eq_true_eq];rcases jV j m with h | h
  ·exact .inl h
  ·obtain rfl:j=m:=by omega
   exact .inr zi
 ·have:=cj.1 hj;rw [bR,decide_eq_true_eq];rcases jV j m with h | h
  ·exact .inl h
  ·obtain rfl:j=m:=by omega
   exact .inr (by rw [rE];rfl)
end
section
variable {P:Program} {lo:Ctx} {Q:ct→St→Prop} {k:List KI} {ops:Array Oper} {l:List Oper} {fs:List Fp} {tm:List ah} {σ m:ai}
theorem Ac {d:Option Tmp} {g:FuncId} {first captured args args':List ah} {r:ah} {wr:List Nat} (bs:List Nat) (hc:aD P g args' r) (hp:lj (among bs) m args' (first++args++captured)) (hl:bF 0 args')
  (hs:fB wr 0 (if bC r then m else gD (among bs) 0 m) m)
  (h:iT P lo Q k ops l fs (put tm d r) (dX wr 0 (if bC r then m else gD (among bs) 0 m) σ)):tD P lo Q k ops wr d l fs tm σ m (.fn g first captured) args :=
 ⟨r,_,aq.bS bs hc hp hl ⟨rfl,rfl⟩,hs,h⟩
end
theorem aq.yX {P:Program} {F:Frame→List Frame→Sem Next→World→Value→World→Prop} {f f':ah} {args:List ah} {K K':ah→ai→Prop} {Z σ:ai} (ι:Nat→Nat) (uM:∀ b b',b<Z.length→b'<Z.length→ι b = ι b'→b=b') (hb:∀ b,b<Z.length→ι b < σ.length)
  (wP:∀ b,b<Z.length→∃ o,Z[b]? = some o∧σ[ι b]? = some (o.map (ef ι))) (hf:f.low Z.length) (oM:ek ι f=f') (ha:bF 0 args) (hs:bD Z.length Z)
  (h:dJ P F f args Z K') (hk:∀ r Z',K' r Z'→Z.length≤Z'.length∧bD Z'.length Z'∧r.low Z'.length∧K (ek (nM ι Z.length σ.length) r) (ka ι Z.length Z' σ)):dJ P F f' args σ K:=by
 have:=aq.yW (K:=K) ι uM hb wP hf (iO (au _) ha) hs (h.mono hk)
 rwa [oM,cK ha] at this
theorem aq.N1 {P:Program} {F:Frame→List Frame→Sem Next→World→Value→World→Prop} {f:ah} {args args':List ah} {K:ah→ai→Prop} {σ:ai} (hp:lj (among []) σ args' args) (h:dJ P F f args' σ K):dJ P F f args σ K:=by
 intro X base β w vf vs h1 oq h2 h3 fr cs h4;have oM:=A8 (among []) σ;rw [je] at oM;obtain ⟨e1,e2⟩:=uT h1 oM args' hp;exact h X base β w vf vs h1 oq (by omega) (fun k hk=>(e2 k hk).1 _ (h3 k (by omega))) fr cs h4
theorem aq.BZ {P : Program} {g : FuncId} {fn : Func} {c : Code} {σ : ai} (hf : P.funcs[g]? = some fn) (hb : fn.body = some c) (ff : (fn.name == "runtime.NumGoroutine") = false)
  (h0:∀ (a:Option Addr) (cap:Nat) (w:World),Calls P g #[.slice a 0 cap] w fun e w'=>e = .returned (.tuple #[])∧w'=w)
  {K:ah→ai→Prop} (hK:K (.dT []) σ):aq P (.fn g [] []) [.aW] σ K:=by
 refine aq.sh ?_;intro X base β w vs h1 h2 h3 fr cs Aq
 have se : ¬ fn.name = "runtime.NumGoroutine" := by simpa using ff
 obtain ⟨x,rfl⟩:∃ x,vs = #[x]:=by
  simp at h2;exact qM.1 h2
 have xO:=h3 0 (by simp);simp only [bn,bu,bm] at xO;have hx:(#[x]:Array Value).getD 0 undef=x:=rfl;rw [hx] at xO;have wL:∀ (w':World) (M':Nat→Nat→Prop),cf w' M' β (.tuple #[]) (.dT []):=fun w' M'=>.dT rfl fun k hk=>by simp at hk
 have kO:∀ us,(callFunc g us).run P w = .ok (.enter g us) w:=fun us=>by simp [callFunc,hf,se,hb]
 obtain ⟨a0,rfl⟩:∃ a0,x = .slice a0 0 0:=by
  cases xO with
  | aW a=>exact ⟨a,rfl⟩
 obtain ⟨e,w',Cy,⟨rfl,rfl⟩,hc,CK,hl⟩:=h0 a0 0 w (fr :: cs);refine ⟨_,σ,β, .tuple #[],w',hK,h1,wL _ _,Ext.refl _ _ _ _,ae _,Frame.enter P g _ .normal,fr :: cs,w',?_,Steps.trans hc (.one (step_leave_returned hl))⟩;simp only [stepG.apply,if_true,Sem.runT_eq,kO,GStep.bare_after,GStep.bare_go];split
 ·rename_i d s a k e;exact absurd e (Aq _ _ _ _ _)
 ·rfl
end Go.dm
namespace Go.Proofs
open Go Go.dm
attribute [local go_sem] Nat.reduceAdd Nat.reduceSub Nat.reduceMul Nat.reduceLeDiff Nat.reduceEqDiff Nat.reduceBEq Nat.reduceLT Nat.le_refl Int.natCast_zero Nat.sub_zero List.length_map Int.toNat_natCast Int.natCast_one Int.reduceEq Int.reduceLT Int.reduceLE Int.reduceNe Int.sub_zero Int.zero_add Int.toNat_one
theorem Q_ (p more:List Int) (hp:p.length≤1000000) (hm:more.length≤1000000):aD Tryz.prog 187 [.ps 1 (ints p), .ps 1 (ints more)] (.ps 1 (ints (p++more))):=by
 refine aD.begin (rs:=[.tmp 4]) (m:=7) 1000 Tryz.func187 rfl rfl rfl (by decide) (by simp [go_sem,dq]) ?_;have tH:(ints more).length=more.length:=iZ more;have Px:(ints p).length=p.length:=iZ p;have xg:List.take more.length (ints more)=ints more:=bh (by omega);have yA:List.take p.length (ints p)=ints p:=bh (by omega);have y8:ints (p++more)=ints p++ints more:=by simp [ints]
 have hw:∀ σ:ai,lj (fun _=>true) σ (ints p++ints more) (ints p++ints more):=fun σ=>cx _ _ _;by_cases h:p=[]
 ·subst h;simp only [go_sem];refine (cg.v Zrq).mono ?_;rintro r σ' (⟨rfl,rfl⟩ | ⟨rfl,rfl⟩)
  ·refine aG.go 1000 ?_;by_cases h2:more.length=0
   ·obtain rfl:=iE.1 h2;simp only [go_sem,Af,aS];exact Af ▸ of_eq_true (Ytu [])
   ·simp only [go_sem,tH,h2,(by omega:more.length≤6000000000000),xg]
  ·refine aG.go 1000 ?_;simp only [go_sem,tH,xg];omega
 ·simp only [go_sem];refine (cg.v (Zx6 p h (by omega)).1).mono ?_;rintro r σ' ⟨rfl,rfl⟩;refine aG.go 1000 ?_;simp only [go_sem,tH,Px,yA];refine ⟨by omega,by rw [az];omega,?_⟩;rw [bh (by rw [az];omega),y8];exact cx _ _ _
def pv (L:List (List Int)):List ah:=L.map fun p=>.ps 1 (ints p)
theorem Ft (L:List (List Int)):(pv L).length=L.length:=by simp [pv]
@[go_sem] theorem xH {n:Nat} (L:List (List Int)):bF n (pv L)=True:=eq_true (uU fun p _=>dq p)
theorem Rz (L M:List (List Int)):pv (L++M)=pv L++pv M:=by simp [pv]
@[go_sem] theorem Yyp (L:List (List Int)):eW ⟨1,false,24,[.aW], .slice⟩ (pv L)=True:=eq_true (by
 refine ⟨fun x hx=>?_,by decide,by decide,rfl⟩;obtain ⟨t,_,rfl⟩:=cB.1 hx;exact ⟨rfl,rfl⟩)
mutual
def Tm.im:Tm→List Int→List (List Int)
 | .mk _ ts,p=>p :: Tm.lF ts p 0
def Tm.lF:List Tm→List Int→Nat→List (List Int)
 | [],_,_=>[]
 | t :: ts,p,i=>t.im (p++[(i:Int)])++Tm.lF ts p (i+1)
end
mutual
theorem z_:∀ (t:Tm) (p:List Int),(t.im p).length=t.size
 | .mk _ ts,p=>by simp only [Tm.im,Tm.size,ax,Uc ts p 0];omega
theorem Uc:∀ (ts:List Tm) (p:List Int) (i:Nat),(Tm.lF ts p i).length=Tm.bG ts
 | [],_,_=>rfl
 | t :: ts,p,i=>by simp only [Tm.lF,Tm.bG,az,z_ t,Uc ts]
end
@[go_sem] theorem Xby {π:Nat→Nat} {L:List (List Int)}:Option.map (ef π) (fx (pv L))=fx (pv L):=by
 cases h:pv L with
 | nil=>rfl
 | cons x l =>
  have hl:bF 0 (pv L):=of_eq_true (xH L);rw [Fk,bM,yl,← h,cK hl]
def o8 (L:List (List Int)):ai:=[some (.var [jk 2 1 (pv L)]),some (.var [.fn 186 [] [.ptr 0 0, .ptr 1 0]]),fx (pv L)]
def qU (L:List (List Int)):ai:=[some (.var [jk 3 1 (pv L)]),some (.var [.fn 186 [] [.ptr 0 0, .ptr 1 0]]),none,fx (pv L)]
theorem Ry:∀ (n:Nat) (t:Tm) (p:List Int) (L:List (List Int)),t.size≤n→p.length+t.size≤1000000→L.length+t.size≤1000000 →
  aq Tryz.prog (.fn 186 [] [.ptr 0 0, .ptr 1 0]) [t.aM, .ps 1 (ints p)] (o8 L) (fun r σ'=>r = .dT []∧σ'=qU (L++t.im p))
 | 0,t,p,L,h,_,_=>by have:=po t;omega
 | n+1,t,p,L,hn,hp,hL=>by
  unfold o8;refine aq.begin (rs:=[]) (m:=25) 1000 Tryz.func186 rfl rfl rfl rfl rfl ?_;simp only [go_sem,cZ];refine aG.draw [⟨none,[],[4]⟩, .no, .no,⟨some 4,[4],[]⟩,⟨some 5,[2,5],[]⟩,⟨none,[0],[]⟩] 4 6 mixed rfl rfl (by decide) ?_;simp only [go_sem,da];refine kG (Q_ p [] (by omega) (by simp)) ?_ (by simp [go_sem,dq]) ?_
  ·simp only [go_sem,Af]
  have h2:bP (o8 L++[some (.var [.int .i64 t.head, .ps 2 (List.map Tm.aM t.args)]),some (.row [.ps 1 (ints (p++[]))] 0),none]) 2=fx (pv L):=by simp [o8,bP]
  have nO:=of_eq_true (Yyp [p++[]]);rw [show pv [p++[]]=[.ps 1 (ints (p++[]))] from rfl] at nO
  have qF:List.take 1 [ah.ps 1 (ints (p++[]))]=[.ps 1 (ints (p++[]))]:=rfl;simp only [o8,bp,bn] at h2;simp only [go_sem,vX h2,nO,Ft,qF];refine ⟨by omega,?_⟩;refine aG.go 1000 ?_;simp only [go_sem,bu];have fJ:=po t;have gx:t.im p=p :: Tm.lF t.args p 0:=by cases t;rfl
  have mO:=oZ t.args;refine aG.gf (ι:={q:Nat×List (List Int) // q.1≤t.args.length∧q.2≠[]∧q.2++Tm.lF (t.args.drop q.1) p q.1=L++t.im p∧q.2.length+Tm.bG (t.args.drop q.1)≤1000000}) 1000
   (fun q=>fe 29 [(1, .ps 1 (ints p)),(3, .ptr 1 0),(14, .ps 2 (t.args.map Tm.aM)),(15, .int .i64 t.args.length),(16, .int .i64 q.1.1)]) (fun q=>qU q.1.2) (fun q=>t.args.length - q.1.1)
   ⟨(0,L++[p]),by simp only [dH,gx];refine ⟨by omega,by simp,by simp,by simp;omega⟩⟩ [(3,5),(5,3)] ?_ (fun _=>by simp [qU]) ?_
  ·refine iz rfl ?_;unfold qU;rw [Rz,wo (by simp [pv]),wm (by simp [pv])];simp only [go_sem,bW,cK (bW _),Ft,dq,cK (dq _)];have lw:bF 0 (pv (L++[p])):=of_eq_true (xH _);rw [Rz] at lw;rw [cK lw];exact ⟨rfl,iO (by omega) lw⟩
  ·rintro ⟨⟨i,M⟩,hi,hM,aN,hlen⟩;simp only at hi hM aN hlen;have hMn:pv M≠[]:=by simp [pv,hM]
   by_cases bA:(i:Int)<t.args.length
   ·have aU:i<t.args.length:=by omega
    have hw:IntKind.i64.wrap ((i:Int)+1)=((i+1:Nat):Int):=by rw [dQ (by omega)];omega
    have hg:(t.args.map Tm.aM).getD i .undef=t.args[i].aM:=by simp [List.getD,aU]
    obtain ⟨x,hx⟩:∃ x,t.args[i]=x:=⟨_,rfl⟩;have hdr:t.args.drop i=x :: t.args.drop (i+1):=by rw [ao aU,hx]
    rw [hdr,Tm.lF] at aN;rw [hdr,Tm.bG] at hlen;rw [hx] at hg;unfold qU;simp only [go_sem,bA,hg,aj,fL];refine ⟨by omega,?_⟩;refine aG.Hc [⟨none,[],[5]⟩,⟨none,[],[5]⟩,⟨none,[],[5]⟩, .no,⟨some 5,[5],[]⟩,⟨none,[5],[]⟩] 5 6 mixed (by decide) rfl (by decide) 6 rfl (by decide) rfl ?_;simp only [go_sem,da];have CJ:bC (.ps 1 (ints (p++[(i:Int)])))=false:=by
     cases h:ints (p++[(i:Int)]) with
     | nil=>simp [ints] at h
     | cons a l=>rfl
    refine Ac [5] (Q_ p [(i:Int)] (by omega) (by simp)) ?_ (by simp [go_sem,dq]) (by simp [CJ,gD,ke,among,fB]) ?_
    ·simp only [go_sem,ints,aK,aV]
    simp only [CJ,bd,if_false,gD,ke,among,dC,nr,oW,Nat.reduceAdd,Nat.reduceBEq,if_true,ax,aS,Nat.zero_max];simp only [go_sem];refine aG.go 1000 ?_;simp only [go_sem];refine aG.go 1000 ?_;simp only [go_sem];rw [← cZ x];have ap6:x.size+Tm.bG (t.args.drop (i+1))≤Tm.bG t.args:=by
     have:=EU (t.args.take i) (t.args.drop i);rw [List.take_append_drop,hdr,Tm.bG] at this;omega
    have xk:x.size≤n:=by omega
    have hI:∀ b,b<3→b=0∨b=1∨b=2:=fun b hb=>by omega
    refine aq.yX (Z:=o8 M) (f:=.fn 186 [] [.ptr 0 0, .ptr 1 0]) (fun b=>if b=2 then 3 else b) (fun b b' h1 h2 e=>?_) (fun b hb=>?_) (fun b hb=>?_) (by simp [o8,go_sem]) rfl (by simp [go_sem,dG,dq]) (by simp [o8,go_sem])
     (Ry n x (p++[(i:Int)]) M xk (by simp only [az,ax,aS];omega) (by omega)) ?_
    ·rcases hI b h1 with rfl | rfl | rfl<;>rcases hI b' h2 with rfl | rfl | rfl<;>first | rfl | exact absurd e (by decide)
    ·rcases hI b hb with rfl | rfl | rfl<;>simp
    ·rcases hI b hb with rfl | rfl | rfl
     ·exact ⟨_,rfl,by simp [go_sem]⟩
     ·exact ⟨_,rfl,rfl⟩
     ·exact ⟨_,rfl,by simp [go_sem]⟩
    ·rintro r Z' ⟨rfl,rfl⟩;refine ⟨by simp [o8,qU],by simp [qU,go_sem],by simp [go_sem],?_⟩;simp only [go_sem,o8,qU,ka,fK,nM,aK,aV];refine aG.go 1000 ?_;simp only [go_sem];refine ⟨⟨(i+1,M++x.im (p++[(i:Int)])),by simp only;omega,by simp [hM],by rw [← aN,cU],by simp only [az,z_];omega⟩,[(3,6),(6,3)],iz rfl ?_,by simp only;omega⟩;simp only [go_sem,hw,bW,cK (bW _),dq,cK (dq _)]
     trace_state
   ·have dZ:i=t.args.length:=by omega
    subst dZ;rw [aX,Tm.lF,bu] at aN;unfold qU;simp only [go_sem,bA];refine aG.go 1000 ?_;simp only [go_sem];rw [gC,← aN];exact ⟨_,f_ _,by simp,by simp [go_sem],by simp [go_sem],rfl,rfl⟩
theorem Sq (t:Tm) (h:t.size≤1000000):aD Tryz.prog 166 [t.aM] (.ps 1 (pv (t.im []))):=by
 refine aD.mI (rs:=[.tmp 2]) (m:=9) Tryz.func166 rfl rfl rfl (by decide) (of_eq_true (xH _)) ?_;refine aG.pad 1 (ae _) (by simp [go_sem,dG]) trivial ?_;refine aG.go 1000 ?_;simp only [go_sem,cZ,bn,List.replicate_one];refine aq.N1 (args':=[t.aM, .ps 1 (ints [])]) ?_ ?_
 ·rw [cZ];simp only [go_sem,Af]
 have hI:∀ b,b<3→b=0∨b=1∨b=2:=fun b hb=>by omega
 refine aq.yX (Z:=o8 []) (f:=.fn 186 [] [.ptr 0 0, .ptr 1 0]) (fun b=>if b=2 then 0 else b+2) (fun b b' h1 h2 e=>?_) (fun b hb=>?_) (fun b hb=>?_) (by simp [o8,go_sem]) rfl (by simp [go_sem,dG,dq]) (by simp [o8,go_sem])
  (Ry _ t [] [] (ae _) (by simpa using h) (by simpa using h)) ?_
 ·rcases hI b h1 with rfl | rfl | rfl<;>rcases hI b' h2 with rfl | rfl | rfl<;>first | rfl | exact absurd e (by decide)
 ·rcases hI b hb with rfl | rfl | rfl<;>simp
 ·rcases hI b hb with rfl | rfl | rfl<;>exact ⟨_,rfl,rfl⟩
 rintro r Z' ⟨rfl,rfl⟩;refine ⟨by simp [o8,qU],by simp [qU,go_sem],by simp [go_sem],?_⟩;simp only [go_sem,o8,qU,ka,fK,nM,aK,aV];refine aG.go 1000 ?_;simp only [go_sem];have eH:pv (t.im [])≠[]:=by cases t;simp [pv,Tm.im]
 rw [Dt eH,Cu eH];simp only [go_sem];rw [bh (ae _)];exact cx _ _ _
def Tm.og:Tm→List Int→Option Tm
 | t,[]=>some t
 | t,n :: p=>if n<0 then none else if h:n.toNat<t.args.length then (t.args[n.toNat]).og p else none
def gG:Tm:=.mk 0 []
theorem K0 (t:Tm) (p:List Int) (hp:p.length≤1000000) (ht:t.size≤1000000000):aD Tryz.prog 167 [t.aM, .ps 1 (ints p)] (.dT [((t.og p).getD gG).aM, .bool (t.og p).isSome]):=by
 refine aD.begin (rs:=[.cell 4 70, .tmp 5]) (m:=29) 1000 Tryz.func167 rfl rfl rfl (by decide) (by simp [go_sem,dG]) ?_;simp only [go_sem,fL,iZ];refine aG.cO (ι:={q:Nat×Tm // q.1≤p.length∧q.2.og (p.drop q.1)=t.og p∧q.2.size≤t.size}) 1000 (fun q=>fe 31 [(2, .ptr 0 0),(4, .ptr 1 0),(5, .bool false),(8, .ps 1 (ints p)),(9, .int .i64 p.length),(10, .int .i64 q.1.1)])
  (fun q=>[some (.var [.int .i64 q.1.2.head, .ps 2 (q.1.2.args.map Tm.aM)]),some (.var [.int .i64 0, .aW])]) (fun q=>p.length - q.1.1) ⟨(0,t),by simp⟩ ?_ (fun _=>au _) ?_
 ·simp only [go_sem,bW,dq]
 ·rintro ⟨⟨i,u⟩,hi,lH,zx⟩;simp only at hi lH zx;have mO:=oZ u.args;have PH:=po u;by_cases bA:(i:Int)<p.length
  ·have aU:i<p.length:=by omega
   have hw:IntKind.i64.wrap ((i:Int)+1)=((i+1:Nat):Int):=by rw [dQ (by omega)];omega
   rw [ao aU,Tm.og] at lH;obtain ⟨n,hn⟩:∃ n,p[i]=n:=⟨_,rfl⟩;have hg:=s0 aU;rw [hn] at lH hg;by_cases h0:n<0
   ·rw [if_pos h0] at lH;simp only [go_sem,bA,hg,iZ,h0];refine ⟨by omega,?_⟩;refine aG.go 1000 ?_;simp only [go_sem,← lH,eB,Option.isSome_none,cZ,gG,Tm.head,Tm.args,aV]
   ·rw [if_neg h0] at lH;by_cases h1:n.toNat<u.args.length
    ·rw [dif_pos h1] at lH;have h2:¬ (u.args.length:Int)≤n:=by omega
     have xR:(u.args.map Tm.aM).getD n.toNat .undef=(u.args[n.toNat]).aM:=mC h1;simp only [go_sem,bA,hg,iZ,h0,h2,hw,xR,fL];refine ⟨by omega,⟨by omega,by omega⟩,⟨(i+1,u.args[n.toNat]),by simp only;omega,lH,?_⟩,?_⟩
     ·have a1:=Ce u.args n.toNat h1;have a2:=Ca u.args (n.toNat+1);simp only;omega
     ·refine ⟨⟨rfl,rfl,dq _,bW _⟩,by simp only;omega⟩
    ·rw [dif_neg h1] at lH;have h2:(u.args.length:Int)≤n:=by omega
     simp only [go_sem,bA,hg,iZ,h0,h2];refine ⟨by omega,?_⟩;refine aG.go 1000 ?_;simp only [go_sem,← lH,eB,Option.isSome_none,cZ,gG,Tm.head,Tm.args,aV]
  ·have dZ:i=p.length:=by omega
   subst dZ;rw [aX,Tm.og] at lH;simp only [go_sem,bA];refine aG.go 1000 ?_;simp only [go_sem,← lH];rw [cZ];exact cx _ _ _
def Tm.jD:Tm→List Int→Tm→Tm
 | _,[],u=>u
 | t,n :: p,u=>.mk t.head (t.args.set n.toNat ((t.args.getD n.toNat gG).jD p u))
theorem Nx:gG.head=0:=rfl
theorem NV:gG.args=[]:=rfl
theorem Cl {σ τ:ai} {b:Nat} (h:b < σ.length):bP (σ++τ) b=bP σ b:=by simp only [bP,cF h]
theorem w_ {σ:ai} {b c:Nat} {x:Option bO} (h:c≠b):bP (σ.set c x) b=bP σ b:=by simp only [bP,bX h]
theorem Cm {σ:ai} {b:Nat} {x:Option bO} (h:b < σ.length):bP (σ.set b x) b=x:=by simp [bP,h]
theorem Fu {σ:ai} {b:Nat} {x:bO} (h:b < σ.length):cr σ b x = σ.set b (some x):=if_pos h
theorem Gk {n:Nat} {x:Option bO} (hx:jK n x):∀ {σ:ai} (b:Nat),bD n σ→bD n (σ.set b x)
 | [],_,_=>trivial
 | a :: σ,0,h=>⟨hx,h.2⟩
 | a :: σ,b+1,h=>⟨h.1,Gk hx b h.2⟩
theorem Rx {S:ai} {w':Tm} {x:ah} (hx:pT (fun _=>true) S w'.aM x):∀ (l:List Tm) (j:Nat),lj (fun _=>true) S ((l.set j w').map Tm.aM) ((l.map Tm.aM).set j x)
 | [],_=>by simp [lj]
 | a :: l,0=>by
  simp only [dc,aK,Gy];exact ⟨hx,cx _ _ _⟩
 | a :: l,j+1=>by
  simp only [cW,aK,Gy];exact ⟨xa _ _ _,Rx hx l j⟩
theorem Xj {S:ai} {w':Tm} {x:ah} (hx:pT (fun _=>true) S w'.aM x) (h:Int) (l:List Tm) (j b:Nat) (hg:bP S b=some (.row ((l.map Tm.aM).set j x) 0)) :
  pT (fun _=>true) S (Tm.mk h (l.set j w')).aM (.agg [.int .i64 h, .os b 0 l.length 2]):=by
 rw [cZ];simp only [go_sem,Tm.head,Tm.args,hg,bj];rw [bh (by simp)];exact Rx hx l j
theorem Vr {n:Nat} {x:ah}:∀ {l:List ah},bF n l→x.low n→∀ i,bF n (l.set i x)
 | [],_,_,_=>trivial
 | a :: l,h,hx,0=>⟨hx,h.2⟩
 | a :: l,h,hx,i+1=>⟨h.1,Vr h.2 hx i⟩
structure B9 where
 k:Nat
 w:Tm
 a:ah
 σ:ai
def C8 (t:Tm) (p:List Int) (u:Tm) (q:B9):Prop :=
 q.k≤p.length∧(q.w.og (p.drop q.k)).isSome=true∧q.w.size≤t.size∧5≤q.σ.length∧bD q.σ.length q.σ∧q.a.low q.σ.length∧bP q.σ 1=some (.var [.int .i64 u.head, .ps 2 (u.args.map Tm.aM)])∧bP q.σ 2=some (.var [.int .i64 0, .aW]) ∧
 ((q.k=0∧q.a = .ptr 4 0∧q.w=t∧bP q.σ 4=some (.var [.int .i64 t.head, .ps 2 (t.args.map Tm.aM)])) ∨
  ∃ (c i:Nat) (es:List ah) (c0 c1:ah) (F:Tm→Tm),q.a = .rp c i 0∧5≤c∧c<q.σ.length∧bP q.σ c=some (.row es 0)∧i<es.length∧es.getD i .undef=q.w.aM∧bP q.σ 4=some (.var [c0,c1])∧c0.cT=true∧c1.cT=true ∧
   F (q.w.jD (p.drop q.k) u)=t.jD p u ∧
   ∀ (S:ai) (w':Tm) (x:ah),(∀ b,5≤b→b<q.σ.length→b≠c→bP S b=bP q.σ b)→bP S c=some (.row (es.set i x) 0)→pT (fun _=>true) S w'.aM x→pT (fun _=>true) S (F w').aM (.agg [c0,c1]))
theorem Yu9 (t:Tm) (p:List Int) (u v:Tm) (hp:p.length≤1000000) (ht:t.size≤1000000) (h:t.og p=some v):aD Tryz.prog 173 [t.aM, .ps 1 (ints p),u.aM] (.dT [(t.jD p u).aM, .int .i64 0]):=by
 refine aD.begin (rs:=[.cell 6 70, .tmp 7]) (m:=46) 1000 Tryz.func173 rfl rfl rfl (by decide) (by simp [go_sem,dG]) ?_;simp only [go_sem,fL];refine aq.bS [] (K0 t p hp (by omega)) (by (try simp only [cZ]);exact cx _ _ _) (by simp [go_sem,dG,bW,dq]) ?_;rw [je];simp only [ite_self];refine aG.go 1000 ?_
 rw [h];simp only [go_sem,bx,Option.isSome_some,cZ,iZ];refine aG.cO (ι:={q:B9 // C8 t p u q}) 1000 (fun q=>fe 49 [(5, .ptr 1 0),(6, .ptr 2 0),(7, .int .i64 0),(10, .ptr 4 0),(11,q.1.a),(24, .ps 1 (ints p)),(25, .int .i64 p.length),(26, .int .i64 q.1.k)])
  (fun q=>q.1.σ) (fun q=>p.length - q.1.k) ⟨⟨0,t, .ptr 4 0,[none,some (.var [.int .i64 u.head, .ps 2 (u.args.map Tm.aM)]),some (.var [.int .i64 0, .aW]),none,some (.var [.int .i64 t.head, .ps 2 (t.args.map Tm.aM)])]⟩,?_⟩ ?_ (fun _=>au _) ?_
 ·refine ⟨au _,by simp [h],ae _,by simp,by simp [go_sem,bW],by simp [go_sem],rfl,rfl, .inl ⟨rfl,rfl,rfl,rfl⟩⟩
 ·simp only [go_sem,dq,bW]
 ·rintro ⟨⟨k,w,a,σ⟩,hk,lH,fJ,zr,jg,sc,sQ,v8,hq⟩;simp only at hk lH fJ zr jg sc sQ v8 hq;have mO:=oZ w.args;have qg:cX w.aM=true:=by rw [cZ];rfl
  have xp:∀ cs,jM true cs = .agg cs:=fun _=>rfl;have xh:=po w;by_cases bA:(k:Int)<p.length
  ·have aU:k<p.length:=by omega
   have hw:IntKind.i64.wrap ((k:Int)+1)=((k+1:Nat):Int):=by rw [dQ (by omega)];omega
   rw [ao aU,Tm.og] at lH;obtain ⟨n,hn⟩:∃ n,p[k]=n:=⟨_,rfl⟩;have hg:=s0 aU;rw [hn] at lH hg;have h0:¬ n<0:=fun h0=>by rw [if_pos h0] at lH;cases lH
   rw [if_neg h0] at lH;have h1:n.toNat<w.args.length:=Decidable.by_contra fun h1=>by rw [dif_neg h1] at lH;cases lH
   rw [dif_pos h1] at lH;have eH:w.args≠[]:=by intro e;rw [e] at h1;simp at h1
   have KB:w.jD (p.drop k) u = .mk w.head (w.args.set n.toNat ((w.args[n.toNat]).jD (p.drop (k+1)) u)):=by
    rw [ao aU,hn,Tm.jD];simp [List.getD,h1]
   rcases hq with ⟨rfl,rfl,rfl,Ar⟩ | ⟨c,i,es,c0,c1,F,rfl,XT,ig,xR,FK,kj,Ar,Av,Kq,hF,zq⟩
   ·have Pc:(0:Int)<p.length:=by simpa using bA
    simp only [go_sem,Pc,hg,iZ,Ar];refine aq.ur [] (Gg w.args eH (by omega)) (cx _ _ _) (by simp [go_sem,bW]) ?_;rw [je];simp only [Bc,A9,Bj,yl,Bl,up,cK (bW _)];obtain ⟨jq,jB⟩:∃ jq,σ++[none,some (bO.row (w.args.map Tm.aM) 0)] = jq:=⟨_,rfl⟩;have BI : jq.length = σ.length+2:=by rw [← jB];simp
    have D3:bP jq 4=some (.var [.int .i64 w.head, .ps 2 (w.args.map Tm.aM)]):=by rw [← jB,Cl (by omega)];exact Ar
    have DM : 4 < jq.length:=by omega
    have qZ:bD jq.length jq:=by
     rw [BI,← jB];exact pS (oe (by omega) jg) (by simp [go_sem,bW])
    rw [jB];refine aG.go 1000 ?_;simp only [go_sem,D3,Fu DM,Cm DM];refine ⟨⟨by omega,by omega⟩,⟨⟨1,w.args[n.toNat], .rp (1 + σ.length) n.toNat 0,_⟩,?_⟩,⟨⟨.inl rfl,rfl⟩,f_ _,?_,?_⟩,by simp only;omega⟩
    ·have a1:=Ce w.args n.toNat h1;have a2:=Ca w.args (n.toNat+1);refine ⟨by simp only;omega,lH,by simp only;omega,by simp only [bj];omega,?_,?_,?_,?_, .inr ⟨1 + σ.length,n.toNat,w.args.map Tm.aM,_,_,fun w'=>.mk w.head (w.args.set n.toNat w'),rfl,by omega,by simp only [bj];omega,?_,by simpa using h1,mC h1,Cm DM,rfl,rfl,KB.symm,?_⟩⟩
     ·simp only [bj];exact Gk (by simp [jK,go_sem];omega) 4 qZ
     ·simp [go_sem];omega
     ·simp only;rw [w_ (by decide),← jB,Cl (by omega)];exact sQ
     ·simp only;rw [w_ (by decide),← jB,Cl (by omega)];exact v8
     ·simp only;rw [w_ (by omega),← jB,Nat.add_comm];simp [bP]
     ·intro S w' x _ hS hx;exact Xj hx _ _ _ _ hS
    ·simp only [bj];exact ⟨by omega,by omega,by omega,by simp [go_sem];omega,dq _⟩
    ·simp only [bj];exact Gk (by simp [jK,go_sem];omega) 4 qZ
   ·simp only [go_sem,bA,hg,iZ,xR,FK,kj,fL];refine ⟨by omega,?_⟩;refine aq.ur [] (Gg w.args eH (by omega)) (cx _ _ _) (by simp [go_sem,bW]) ?_;rw [je];simp only [Bc,A9,Bj,yl,Bl,up,cK (bW _)];obtain ⟨jq,jB⟩:∃ jq,σ++[none,some (bO.row (w.args.map Tm.aM) 0)] = jq:=⟨_,rfl⟩;have BI : jq.length = σ.length+2:=by rw [← jB];simp
    have D4:bP jq c=some (.row es 0):=by rw [← jB,Cl ig];exact xR
    have DM:c < jq.length:=by omega
    have qZ:bD jq.length jq:=by
     rw [BI,← jB];exact pS (oe (by omega) jg) (by simp [go_sem,bW])
    have wJ:∀ fz,jK jq.length (some (.row (es.set i (.agg [.int .i64 w.head, .os (1 + σ.length) 0 w.args.length 2])) fz)):=fun fz=>by
     have HC:bF jq.length es:=qR qZ c _ (kq D4);exact Vr HC (by simp [go_sem];omega) i
    have HC:bF jq.length es:=qR qZ c _ (kq D4);have apr:i<(es.set i (.agg [.int .i64 w.head, .os (1 + σ.length) 0 w.args.length 2])).length:=by simpa using FK
    have gS:(es.set i (ah.agg [.int .i64 w.head, .os (1 + σ.length) 0 w.args.length 2])).getD i .undef = .agg [.int .i64 w.head, .os (1 + σ.length) 0 w.args.length 2]:=by simp [List.getD,FK]
    rw [jB];refine aG.go 1000 ?_;simp only [go_sem,D4,Fu DM,Cm DM,FK,kj,fL,qg,xp,bj,gS];refine ⟨by omega,⟨by omega,by omega⟩,⟨⟨k+1,w.args[n.toNat], .rp (1 + σ.length) n.toNat 0,_⟩,?_⟩,⟨⟨.inl rfl,by rw [hw]⟩,f_ _,?_,?_⟩,by simp only;omega⟩
    ·have a1:=Ce w.args n.toNat h1;have a2:=Ca w.args (n.toNat+1);refine ⟨by simp only;omega,lH,by simp only;omega,by simp only [bj];omega,?_,?_,?_,?_, .inr ⟨1 + σ.length,n.toNat,w.args.map Tm.aM,c0,c1,fun w'=>F (.mk w.head (w.args.set n.toNat w')),rfl,by omega,by simp only [bj];omega,?_,by simpa using h1,mC h1,?_,Av,Kq,by simp only;rw [← hF,KB],?_⟩⟩
     ·simp only [bj];exact Gk (wJ 0) c qZ
     ·simp [go_sem];omega
     ·simp only;rw [w_ (by omega),← jB,Cl (by omega)];exact sQ
     ·simp only;rw [w_ (by omega),← jB,Cl (by omega)];exact v8
     ·simp only;rw [w_ (by omega),← jB,Nat.add_comm];simp [bP]
     ·simp only;rw [w_ (by omega),← jB,Cl (by omega)];exact Ar
     ·intro S w' x Hq hS hx;refine zq S _ (.agg [.int .i64 w.head, .os (1 + σ.length) 0 w.args.length 2]) (fun b h5 hb eH=>?_) ?_ (Xj hx _ _ _ _ hS)
      ·rw [Hq b h5 (by simp only [bj];omega) (by omega)];simp only;rw [w_ (by omega),← jB,Cl hb]
      ·rw [Hq c XT (by simp only [bj];omega) (by omega)];simp only;rw [Cm DM]
    ·simp only [bj];exact ⟨by omega,by omega,by omega,by simp [go_sem];omega,dq _⟩
    ·simp only [bj];exact Gk (wJ 0) c qZ
  ·have dZ:k=p.length:=by omega
   subst dZ;rw [aX] at hq;rcases hq with ⟨h0,rfl,rfl,Ar⟩ | ⟨c,i,es,c0,c1,F,rfl,XT,ig,xR,FK,kj,Ar,Av,Kq,hF,zq⟩
   ·simp only [go_sem,bA];refine aG.go 1000 ?_;have XD:=Bi Ar;have XB:=Bi v8;have OU:bP (σ.set 4 (some (bO.var [.int .i64 u.head, .ps 2 (u.args.map Tm.aM)]))) 2=some (.var [.int .i64 0, .aW]):=by rw [w_ (by decide)];exact v8
    simp only [go_sem,sQ,v8,Ar,Fu XD,Cm XD,OU];rw [Fu (by simpa using XB),Cm (by simpa using XB)];have Px:p=[]:=bg h0;subst Px;rw [Tm.jD];simp only [go_sem]
   ·simp only [go_sem,bA];refine aG.go 1000 ?_;have OT:∀ X,bP (σ.set c X) 2=some (.var [.int .i64 0, .aW]):=fun X=>by rw [w_ (by omega)];exact v8
    have D3:∀ X,bP (σ.set c X) 4=some (.var [c0,c1]):=fun X=>by rw [w_ (by omega)];exact Ar
    simp only [go_sem,sQ,v8,Ar,xR,FK,kj,fL,qg,xp,Fu ig,OT,D3,Av,Kq];rw [Fu (by simp only [bj];omega),Cm (by simp only [bj];omega)];have gR:pT (fun _=>true) ((σ.set c (some (bO.row (es.set i u.aM) 0))).set 2 (some (bO.var [c0,c1]))) (t.jD p u).aM (.agg [c0,c1]):=by
     rw [← hF,Tm.jD];refine zq _ u _ (fun b h5 hb eH=>?_) ?_ (xa _ _ _)
     ·rw [w_ (by omega),w_ (by omega)]
     ·rw [w_ (by omega),Cm ig]
    rw [cZ u,cZ (t.jD p u)] at gR;simp only [go_sem] at gR;simp only [go_sem,Av,Kq];exact ⟨by omega,gR⟩
structure Bd where
 v:Int
 t:Tm
def Bd.aM (b:Bd):ah:=.agg [.int .i64 b.v, .int .i64 b.t.head, .ps 2 (b.t.args.map Tm.aM)]
def oJ (l:List Bd):List ah:=l.map Bd.aM
theorem Cs (l:List Bd):(oJ l).length=l.length:=by simp [oJ]
theorem YD {n:Nat} (b:Bd):b.aM.low n:=⟨trivial,trivial,bW _,trivial⟩
@[go_sem] theorem FA {n:Nat} (l:List Bd):bF n (oJ l)=True:=eq_true (uU fun b _=>YD b)
theorem RD {l:List Bd} {i:Nat} (h:i<l.length):(oJ l).getD i .undef=l[i].aM:=mC h
theorem GH (b:Bd):b.aM.cells=[.int .i64 b.v, .int .i64 b.t.head, .ps 2 (b.t.args.map Tm.aM)]:=rfl
def jP:Int→List Bd→Int
 | _,[]=>0
 | m,b :: l=>if b.v≤m∨255<b.v∨b.t.check≠0∨b.t.head = -1 - b.v then 1 else jP b.v l
theorem Ye0 (bs:List Bd) (hl:bs.length<1000000) (hb:∀ b∈bs,b.t.size<99999999):aD Tryz.prog 189 [.ps 3 (oJ bs)] (.int .i64 (jP (-1) bs)):=by
 refine aD.begin (rs:=[.tmp 2]) (m:=38) 1000 Tryz.func189 rfl rfl rfl (by decide) trivial ?_;simp only [go_sem,Cs];refine aG.cO (ι:={q:Nat×Int // q.1≤bs.length∧jP q.2 (bs.drop q.1)=jP (-1) bs∧-1≤q.2}) 1000 (fun q=>fe 39 [(2, .int .i64 0),(3, .int .i64 q.1.2),(6, .ps 3 (oJ bs)),(7, .int .i64 bs.length),(8, .int .i64 q.1.1)])
  (fun _=>[]) (fun q=>bs.length - q.1.1) ⟨(0, -1),by simp⟩ ?_ (fun _=>au _) ?_
 ·simp only [go_sem]
 ·rintro ⟨⟨i,m⟩,hi,aN,hm⟩;simp only at hi aN hm;by_cases bA:(i:Int)<bs.length
  ·have aU:i<bs.length:=by omega
   have hw:IntKind.i64.wrap ((i:Int)+1)=((i+1:Nat):Int):=by rw [dQ (by omega)];omega
   rw [ao aU,jP] at aN;have jX:=hb _ (aC aU);have hg:=RD aU;obtain ⟨b,hbi⟩:∃ b,bs[i]=b:=⟨_,rfl⟩;rw [hbi] at aN jX hg;by_cases h1:b.v≤m
   ·rw [if_pos (.inl h1)] at aN;simp only [go_sem,bA,Cs,hg,GH,h1];refine ⟨by omega,?_⟩;refine aG.go 1000 ?_;simp only [go_sem,← aN]
   ·by_cases h2 : 255<b.v
    ·rw [if_pos (.inr (.inl h2))] at aN;simp only [go_sem,bA,Cs,hg,GH,h1,h2];refine ⟨by omega,?_⟩;refine aG.go 1000 ?_;simp only [go_sem,← aN]
    ·have sP:=Dd b.t (by omega);simp only [go_sem,bA,Cs,hg,GH,h1,h2];refine ⟨by omega,?_⟩;refine aq.bS [] (sP) (by (try simp only [cZ]);exact cx _ _ _) (by simp [go_sem,dG,bW]) ?_;simp only [bC,bN,bL,if_true];refine aG.go 1000 ?_
     by_cases h3:b.t.check=0
     ·have tf:IntKind.i64.wrap (-1 - b.v) = -1 - b.v:=dQ (by omega);by_cases h4:b.t.head = -1 - b.v
      ·rw [if_pos (.inr (.inr (.inr h4)))] at aN;simp only [go_sem,h3,tf,h4];refine aG.go 1000 ?_;simp only [go_sem,← aN]
      ·rw [if_neg (by simp [h1,h2,h3,h4])] at aN;simp only [go_sem,h3,tf,h4,hw];refine ⟨⟨(i+1,b.v),by simp only;omega,aN,by simp only;omega⟩,⟨rfl,rfl⟩,by simp only;omega⟩
     ·rw [if_pos (.inr (.inr (.inl h3)))] at aN;simp only [go_sem,h3];refine aG.go 1000 ?_;simp only [go_sem,← aN]
  ·have dZ:i=bs.length:=by omega
   subst dZ;rw [aX,jP] at aN;simp only [go_sem,bA];refine aG.go 1000 ?_;simp only [go_sem,← aN]
theorem Rg (t:Tm) (fJ:t.size<99999999):aD Tryz.prog 190 [t.aM] (if t.check=0 then .dT [t.aM, .int .i64 0] else .dT [gG.aM, .int .i64 t.check]):=by
 refine aD.begin (rs:=[.cell 2 70, .tmp 3]) (m:=11) 1000 Tryz.func190 rfl rfl rfl (by decide) (by split<;>simp [go_sem,dG]) ?_;have sP:=Dd t (by omega);simp only [go_sem,fL];refine aq.bS [] (sP) (by (try simp only [cZ]);exact cx _ _ _) (by simp [go_sem,dG,bW]) ?_;simp only [bC,bN,bL,if_true];refine aG.go 1000 ?_
 by_cases h:t.check=0
 ·rw [if_pos h];simp only [go_sem,h,cZ]
 ·rw [if_neg h];simp only [go_sem,h,cZ,Nx,NV,aV]
def fS (bs:List Bd):List ah:=bs.map fun b=>.int .i64 b.v
def gE (bs:List Bd):List ah:=bs.map fun b=>b.t.aM
def qJ (bs:List Bd) (t:Tm):Tm:=((bs.find? fun b=>b.v == -1 - t.head).map Bd.t).getD t
theorem Ad (bs:List Bd) (v:Int):(fS bs).all (sameKind (.int .i64 v))=true:=by
 simp [fS,sameKind]
theorem Gl (v:Int):∀ (bs:List Bd) (n:Nat),(match fG (.int .i64 v) (fS bs) n with | some i=>n≤i∧∃ b,bs[i - n]? = some b∧bs.find? (fun b=>b.v==v)=some b | none=>bs.find? (fun b=>b.v==v)=none)
 | [],n=>by simp [fS,fG]
 | b :: bs,n=>by
  have ih:=Gl v bs (n+1);simp only [fS,aK,fG,qz] at ih ⊢;by_cases c:b.v=v
  ·have hc:fC (.int .i64 v) (.int .i64 b.v)=true:=by simp [fC,c]
   have lJ:(b.v==v)=true:=by simpa using c
   rw [hc,if_pos rfl];refine ⟨ae _,b,by simp,?_⟩;rw [lJ]
  ·have hc:fC (.int .i64 v) (.int .i64 b.v)=false:=by simp only [fC,beq_eq_false_iff_ne];exact fun e=>c e.symm
   have lJ:(b.v==v)=false:=by simpa using c
   rw [hc,lJ];simp only [bd,if_false];split at ih
   ·rename_i i _;obtain ⟨h1,x,h2,h3⟩:=ih;refine ⟨by omega,x,?_,h3⟩;rw [show i - n=(i - (n+1))+1 by omega];simpa using h2
   ·exact ih
theorem LQ (bs:List Bd) (v:Int) (z:ah):fv (fS bs) (gE bs) z (.int .i64 v) true=match bs.find? (fun b=>b.v==v) with | some b=>.dT [b.t.aM, .bool true] | none=>.dT [z, .bool false]:=by
 have h:=Gl v bs 0;unfold fv;cases hk:fG (.int .i64 v) (fS bs) 0 with
 | some i =>
  rw [hk] at h;obtain ⟨_,b,h2,h3⟩:=h;rw [h3];simp only [if_true,gE,List.getD,cu];rw [ie] at h2;rw [h2];rfl
 | none =>
  rw [hk] at h;rw [show bs.find? (fun b=>b.v==v)=none from h];rfl
theorem Yvy (bs:List Bd) (t:Tm) (ht:mE (-1 - t.head)):aD Tryz.prog 193 [.pm (fS bs) (gE bs),t.aM] (qJ bs t).aM:=by
 refine aD.begin (rs:=[.cell 4 70]) (m:=16) 1000 Tryz.func193 rfl rfl rfl (by decide) (by simp [go_sem,dG]) ?_;have hw:IntKind.i64.wrap (-1 - t.head) = -1 - t.head:=dQ ht;have uK:qJ bs t=((bs.find? fun b=>b.v == -1 - t.head).map Bd.t).getD t:=rfl;have pI:=LQ bs (-1 - t.head) (.agg [.int .i64 0, .aW]);cases hf:bs.find? (fun b=>b.v == -1 - t.head) with
 | some b =>
  rw [hf] at pI uK;rw [uK];simp only [go_sem,fL,hw,Ad,pI,cZ,bM,bx]
 | none =>
  rw [hf] at pI uK;rw [uK];simp only [go_sem,fL,hw,Ad,pI,cZ,mF,eB]
mutual
def Tm.sub (bs:List Bd):Tm→Tm
 | .mk h ts=>if h<0 then qJ bs (.mk h ts) else .mk h (Tm.tv bs ts)
def Tm.tv (bs:List Bd):List Tm→List Tm
 | []=>[]
 | t :: ts=>t.sub bs :: Tm.tv bs ts
end
theorem Xp (bs:List Bd):∀ ts,Tm.tv bs ts=ts.map (Tm.sub bs)
 | []=>rfl
 | t :: ts=>by simp [Tm.tv,Xp bs ts]
def wR (bs:List Bd):ah:=.fn 193 [.pm (fS bs) (gE bs)] []
theorem jf {n:Nat} (bs:List Bd):bF n (fS bs)∧bF n (gE bs):=⟨uU fun _ _=>trivial,uU fun b _=>dG b.t⟩
@[go_sem] theorem Xc8 {π:Nat→Nat} (bs:List Bd):ek π (wR bs)=wR bs:=Ba (show ah.low 0 (wR bs) from ⟨⟨jf bs,trivial⟩,trivial⟩)
@[go_sem] theorem Xbu {n:Nat} (bs:List Bd):ah.low n (wR bs)=True:=eq_true ⟨⟨jf bs,trivial⟩,trivial⟩
@[go_sem] theorem yN (b sz:Nat) (l:List ah):((jk b sz l).cT=true)=True:=eq_true (by cases l<;>rfl)
theorem Rv {bs:List Bd} {t:Tm} (h:t.head<0):t.sub bs=qJ bs t:=by
 cases t;rw [Tm.sub];exact if_pos h
theorem Ys2 {bs:List Bd} {t:Tm} (h:¬ t.head<0):t.sub bs = .mk t.head (t.args.map (Tm.sub bs)):=by
 cases t;rw [Tm.sub,Xp];exact if_neg h
theorem GG {t:Tm} (h:t.fit):mE t.head:=by cases t;exact h.1
theorem yo {t:Tm} (h:t.fit):Tm.fits t.args:=by cases t;exact h.2
theorem T3 (bs:List Bd):∀ (n:Nat) (t:Tm),t.size≤n→t.size≤100000000→t.fit→aD Tryz.prog 191 [t.aM,wR bs] (t.sub bs).aM
 | 0,t,h,_,_=>by have:=po t;omega
 | n+1,t,h,hs,hf=>by
  refine aD.begin (rs:=[.cell 4 70]) (m:=32) 1000 Tryz.func191 rfl rfl rfl (by decide) (by simp [go_sem,dG]) ?_;have fJ:=po t;have mO:=oZ t.args;by_cases fX:t.head<0
  ·simp only [go_sem,fL,fX];have Ao:t.sub bs=qJ bs t:=Rv fX;have fD:mE (-1 - t.head):=by have:=GG hf;unfold mE at *;omega
   refine aq.bS [] (Yvy bs t fD) (by simp only [bp,bn,bu,cZ];exact cx _ _ _) (by simp [go_sem,dG,jf]) ?_;rw [je];simp only [ite_self];refine aG.go 1000 ?_;rw [Ao];simp only [go_sem,fL];rw [cZ];exact cx _ _ _
  ·simp only [go_sem,fL,fX,aj];refine aG.gf (ι:={q:Nat×List Tm // q.1≤t.args.length∧q.2=(t.args.take q.1).map (Tm.sub bs)}) 1000 (fun q=>fe 34 [(1,wR bs),(4, .ptr 1 0),(5, .ptr 2 0),(18, .ps 2 (t.args.map Tm.aM)),(19, .int .i64 t.args.length),(20, .int .i64 q.1.1)])
    (fun q=>[none,some (.var [.int .i64 0, .aW]),some (.var [.int .i64 t.head,jk 3 2 (q.1.2.map Tm.aM)]),fx (q.1.2.map Tm.aM)]) (fun q=>t.args.length - q.1.1) ⟨(0,[]),by simp⟩ [] ?_ (fun _=>au _) ?_
   ·refine iz rfl ?_;simp only [go_sem,aV,s_,sM,bW,cK (bW _)]
   ·rintro ⟨⟨i,L⟩,hi,hL⟩;simp only at hi hL;by_cases bA:(i:Int)<t.args.length
    ·have aU:i<t.args.length:=by omega
     have hw:IntKind.i64.wrap ((i:Int)+1)=((i+1:Nat):Int):=by rw [dQ (by omega)];omega
     have hg:(t.args.map Tm.aM).getD i .undef=t.args[i].aM:=mC aU;simp only [go_sem,bA,aj,hg,fL];refine ⟨by omega,?_⟩;refine aG.draw [⟨none,[],[5]⟩,⟨none,[],[5]⟩, .no, .no, .no,⟨some 5,[5],[]⟩,⟨some 6,[3,6],[]⟩, .no,⟨none,[2],[]⟩] 5 7 mixed rfl rfl (by decide) ?_;simp only [go_sem,da];have rD:=Fm (yo hf) i aU;have a1:=Ce t.args i aU;have a2:=Ca t.args (i+1);obtain ⟨x,hx⟩:∃ x,t.args[i]=x:=⟨_,rfl⟩;simp only [hx] at rD a1 ⊢;refine kG (T3 bs n x (by omega) (by omega) rD) (by simp only [cZ,bn,bu];exact cx _ _ _) (by simp [go_sem,dG]) ?_;have h3:bP ([none,some (.var [.int .i64 0, .aW]),some (.var [.int .i64 t.head,jk 3 2 (L.map Tm.aM)]),fx (L.map Tm.aM),some (.var [.int .i64 x.head, .ps 2 (x.args.map Tm.aM)]),some (.row [(x.sub bs).aM] 0),none]) 3=fx (L.map Tm.aM):=rfl;have nO:=of_eq_true (Dk [x.sub bs]);rw [show [x.sub bs].map Tm.aM=[(x.sub bs).aM] from rfl] at nO
     have qF:List.take 1 [(x.sub bs).aM]=[(x.sub bs).aM]:=rfl;simp only [go_sem,vX h3,nO,aj,qF,fL];have hLl:L.length=i:=by rw [hL];simp;omega
     refine ⟨by rw [cZ];rfl,by omega,?_⟩;refine aG.go 1000 ?_;simp only [go_sem,hw];refine ⟨⟨(i+1,L++[x.sub bs]),by simp only;omega,by simp only;rw [hL,List.take_succ_eq_append_getElem aU,hx];simp⟩,[(3,6),(6,3)],iz rfl ?_,by simp only;omega⟩;have lw:bF 0 ((L++[x.sub bs]).map Tm.aM):=bW _;dsimp only
     rw [cY] at lw ⊢;rw [wo (by simp),wm (by simp)];simp only [aK,aV] at lw;simp only [go_sem,bW,cK (bW _),cK lw,iO (au 4) lw,aj,ax,aS,aK,aV]
    ·have dZ:i=t.args.length:=by omega
     subst dZ;simp only [go_sem,bA];refine aG.go 1000 ?_;simp only [go_sem];rw [Ys2 fX,cZ];rw [show (Tm.mk t.head (t.args.map (Tm.sub bs))).head=t.head from rfl,show (Tm.mk t.head (t.args.map (Tm.sub bs))).args=t.args.map (Tm.sub bs) from rfl]
     rw [hL,bZ];simp only [go_sem,rO]
theorem Zsy (ts:List Bd) (n0:Nat) (kL:ai) (S:Nat→ai) (p:Nat) (y:ah) (h0 : kL.length=n0) (y4 : kL++[none]=S 0) (hlen:∀ i,(S i).length=n0+1) (eJ:∀ i,bP (S i) p=some (.var [.ps 3 (oJ ts)])) (hp:p<n0)
  (hs:∀ i,bD (n0+1) (S i)) (ow:bD n0 kL) (oB:y.low n0) (hl:ts.length<2 ^ 62)
  (hy:∀ i (h:i<ts.length),aq Tryz.prog y [.int .i64 ((ts.length:Int) - 1 - i),ts[ts.length - 1 - i].aM] (S i) (fun r σ'=>r = .bool true∧n0+1≤σ'.length∧bD σ'.length σ'∧∃ π:Nat→Nat,(∀ b,b<n0→π b=b)∧(∀ b b',b<n0+1→b'<n0+1→π b = π b'→b=b')∧gW π σ' 0 (S (i+1)))) :
  aq Tryz.prog (.fn 227 [] [.ptr p 0]) [y] kL (fun _ σ'=>σ'=S ts.length):=by
 subst h0;refine aq.mI (rs:=[]) (m:=17) Tryz.func227 rfl rfl rfl rfl rfl ?_;refine aG.pad 1 (ae _) (by simp [go_sem,oB,hp]) ow ?_;rw [show List.replicate 1 (none:Option bO)=[none] from rfl,y4]
 refine aG.go 1000 ?_;simp only [go_sem,eJ,ae,Cs];rw [dQ (by omega)];have Eg:bD (kL.length+1) (S 0):=hs 0;refine aG.cO (ι:={i:Nat // i≤ts.length}) 1000 (fun i=>fe 19 [(0,y),(1, .ptr p 0),(3, .int .i64 ((ts.length:Int) - 1 - i.1))]) (fun i=>S i.1) (fun i=>ts.length - i.1) ⟨0,by omega⟩ ?_ (fun i=>by rw [hlen];exact ep _) ?_
 ·simp only [go_sem,hlen,Eg,nG (ep _) oB,br,Int.sub_zero];exact ⟨f_ _,by omega⟩
 ·rintro ⟨i,hi⟩;by_cases bA : 0≤(ts.length:Int) - 1 - i
  ·have aU:i<ts.length:=by omega
   have hb:ts.length - 1 - i<ts.length:=by omega
   have hn:((ts.length:Int) - 1 - i).toNat=ts.length - 1 - i:=by omega
   simp only [go_sem,bA,eJ,ae,Cs,hn,RD hb,GH]
   (repeat ((with_reducible refine And.intro ?_ ?_); ·omega))
   refine aG.yU (.bool true) trivial (by rw [hlen];exact ep _) ?_ ?_ ?_ ?_ ?_ ?_
   ·rw [hlen];exact nG (ep _) oB
   ·simp [go_sem,bW]
   ·rw [hlen];exact hs i
   ·rw [hlen];simp [go_sem,EZ,E7,Du,oB,hp,bW]
   ·rw [hlen];have oP:=nG (ep _) oB;simp [go_sem,oP,bW];omega
   rw [hlen];refine (hy i aU).mono ?_;rintro r σ' ⟨k1,k2,k3,π,k4,k5,k6⟩;refine ⟨k1,k2,k3,π,S (i+1),hlen _,k4,k5,k6,hs _,?_⟩;refine aG.go 1000 ?_;simp only [go_sem];refine ⟨⟨i+1,aU⟩,?_,by simp only;omega⟩;have Eh:bD (kL.length+1) (S (i+1)):=hs (i+1);simp only [go_sem,hlen,Eh,nG (ep _) oB];rw [dQ (by omega)];exact ⟨by rw [show (ts.length:Int) - 1 - i - 1=ts.length - 1 - ((i+1:Nat):Int) by omega],f_ _,by omega⟩
  ·have dZ:i=ts.length:=by omega
   subst dZ;simp only [go_sem,bA];refine aG.go 1000 ?_;simp only [go_sem];rw [gC];exact ⟨S ts.length,f_ _,by rw [hlen];exact ep _,by rw [hlen];exact hs _,trivial,rfl⟩
theorem Zq9 (ts:List Bd) (σ:ai) (hs:bD σ.length σ):aq Tryz.prog (.fn 211 [] []) [.ps 3 (oJ ts)] σ
  (fun r σ'=>r = .fn 227 [] [.ptr σ.length 0]∧σ' = σ++[some (.var [.ps 3 (oJ ts)])]):=by
 refine aq.begin (rs:=[.tmp 2]) (m:=3) 1000 Tryz.func211 rfl rfl rfl rfl rfl ?_;simp only [go_sem];rw [Cq,gC];exact ⟨_,f_ _,by simp,pS (oe (by simp) hs) (by simp [go_sem,bW]),by simp [go_sem],rfl,rfl⟩
theorem LK {l:List Bd} {b:Bd} {x:ah} (hx:x=b.t.aM) (h:l.find? (fun c=>c.v==b.v)=none):jn (fS l) (gE l) (.int .i64 b.v) x=(fS (l++[b]),gE (l++[b])):=by
 have h1:=Gl b.v l 0;unfold jn;cases hk:fG (.int .i64 b.v) (fS l) 0 with
 | some i =>
  rw [hk] at h1;obtain ⟨_,c,_,h3⟩:=h1;rw [h] at h3;cases h3
 | none=>simp [fS,gE,hx]
theorem Yke (bs:List Bd) (hl:bs.length<1000000) (hd:(bs.map Bd.v).Nodup):aD Tryz.prog 192 [.ps 3 (oJ bs)] (.pm (fS bs.reverse) (gE bs.reverse)):=by
 refine aD.begin (rs:=[.tmp 2]) (m:=16) 1000 Tryz.func192 rfl rfl rfl (by decide) ⟨(jf _).1,(jf _).2⟩ ?_;simp only [go_sem];refine (Zq9 bs _ (by simp [go_sem])).mono ?_;rintro _ _ ⟨rfl,rfl⟩;refine aG.go 1000 ?_;simp only [go_sem];refine aG.rangeFunc (fe 17 [(3, .ptr 1 0)]) ?_ ?_ (fun ρ ht wH lH rZ=>?_)
 ·simp only [go_sem]
 ·exact fun b hb=>by cases hb
 simp only [go_sem];have jJ:bF 4 ρ.tm:=by rw [ht];simp [go_sem,Bb,Bg]
 have gx:∀ l:List Bd,bD 5 [some (.map (fS l) (gE l) false),some (.var [.map 0]),some (.var [.ps 3 (oJ bs)]),some (.loop (ρ.at .ready)),none] :=
  fun l=>⟨⟨(jf l).1,(jf l).2⟩,⟨Nat.zero_lt_succ 4,trivial⟩,⟨of_eq_true (FA bs),trivial⟩,iO (by decide) jJ,trivial,trivial⟩
 refine (Zsy bs 4 _ (fun k=>[some (.map (fS (bs.reverse.take k)) (gE (bs.reverse.take k)) false),some (.var [.map 0]),some (.var [.ps 3 (oJ bs)]),some (.loop (ρ.at .ready)),none]) 2 (.lN 3) rfl rfl (fun _=>rfl) (fun _=>rfl) (by decide) (fun k=>gx _) ?_ (cN 3) (by omega) (fun k hk=>?_)).mono ?_
 ·exact ⟨⟨trivial,trivial⟩,⟨Nat.zero_lt_succ 3,trivial⟩,⟨of_eq_true (FA bs),trivial⟩,jJ,trivial⟩
 ·refine aq.stay rfl (gx _) ?_;refine aq.l9 1000 ht wH lH rZ rfl rfl ?_;simp only [go_sem,GH];have r_:k<bs.reverse.length:=by simpa using hk
  have D6:bs.reverse[k]=bs[bs.length - 1 - k]:=List.getElem_reverse r_;have rf:bs.reverse.take (k+1)=bs.reverse.take k++[bs[bs.length - 1 - k]]:=by rw [List.take_succ_eq_append_getElem r_,D6]
  have CK:(bs.reverse.take k).find? (fun c=>c.v==(bs[bs.length - 1 - k]).v)=none:=by
   rw [iX];intro c hc e;have hv:c.v=(bs[bs.length - 1 - k]).v:=by simpa using e
   have ph:((bs.reverse.take (k+1)).map Bd.v).Nodup:=by
    have h1:(bs.reverse.map Bd.v).Nodup:=by rw [List.map_reverse];exact List.pairwise_reverse.2 (hd.imp fun h e=>h e.symm)
    exact h1.sublist ((List.take_sublist _ _).map _)
   rw [rf,cY,fU] at ph;exact ph.2.2 _ (m8 hc) _ (by simp) hv
  rw [LK (b:=bs[bs.length - 1 - k]) (cZ _).symm CK,← rf];refine ⟨Ad _ _,?_⟩;rw [uV];exact ⟨rfl,[some (.map (fS (bs.reverse.take (k+1))) (gE (bs.reverse.take (k+1))) false),some (.var [.map 0]),some (.var [.ps 3 (oJ bs)]),some (.loop (ρ.at .ready)),none],by simp [go_sem],ae _,gx _,rfl,rfl⟩
 rintro r' jq rfl;rw [Dv];refine ⟨.ready,rfl,?_⟩;rw [Fj];rw [show bs.reverse.take bs.length=bs.reverse by rw [← List.length_reverse,bZ]];refine aG.go 1000 ?_;simp only [go_sem]
theorem Lk:∀ (bs:List Bd) (m:Int),jP m bs=0→(∀ b∈bs,m<b.v)∧(bs.map Bd.v).Nodup
 | [],_,_=>by simp
 | b :: l,m,h=>by
  rw [jP] at h;split at h
  ·cases h
  ·rename_i hc;have sO:m<b.v:=by omega
   obtain ⟨h1,h2⟩:=Lk l b.v h;refine ⟨fun c Kn=>?_,?_⟩
   ·rcases aQ.1 Kn with rfl | Kn
    ·exact sO
    ·have:=h1 c Kn;omega
   ·simp only [aK,eT];refine ⟨fun hm=>?_,h2⟩;obtain ⟨c,BB,hc4⟩:=cB.1 hm;have:=h1 c BB;omega
def qW (bs:List Bd) (t:Tm):Tm×Int :=
 if jP (-1) bs≠0∨t.check≠0 then (gG,1) else if (t.sub bs.reverse).check=0 then (t.sub bs.reverse,0) else (gG,(t.sub bs.reverse).check)
theorem Yj7 (bs:List Bd) (t:Tm) (hl:bs.length<1000000) (hb:∀ b∈bs,b.t.size<99999999) (ht:t.size<99999999) (hf:t.fit) (hs:(t.sub bs.reverse).size<99999999) :
  aD Tryz.prog 170 [.ps 3 (oJ bs),t.aM] (.dT [(qW bs t).1.aM, .int .i64 (qW bs t).2]):=by
 refine aD.begin (rs:=[.cell 4 70, .tmp 5]) (m:=21) 1000 Tryz.func170 rfl rfl rfl (by decide) (by simp [go_sem,dG]) ?_;simp only [go_sem,fL];refine aq.bS [] (Ye0 bs hl hb) (by (try simp only [cZ]);exact cx _ _ _) (by simp [go_sem,dG,bW]) ?_;simp only [bC,bN,bL,if_true];refine aG.go 1000 ?_
 have sP:=Dd t (by omega);by_cases h1:jP (-1) bs=0
 ·obtain ⟨_,ph⟩:=Lk bs _ h1;simp only [go_sem,h1];refine aq.bS [] (sP) (by (try simp only [cZ]);exact cx _ _ _) (by simp [go_sem,dG,bW]) ?_;simp only [bC,bN,bL,if_true];refine aG.go 1000 ?_
  by_cases h2:t.check=0
  ·have y8:qW bs t=if (t.sub bs.reverse).check=0 then (t.sub bs.reverse,0) else (gG,(t.sub bs.reverse).check):=by unfold qW;rw [if_neg (by simp [h1,h2])]
   rw [y8];simp only [go_sem,h2];refine aG.draw [.no, .no, .no, .no, .no, .no, .no, .no,⟨none,[1],[]⟩] 2 2 mixed rfl rfl (by decide) ?_;simp only [go_sem,da];refine kG (Yke bs hl ph) (cx _ _ _) (by simp [go_sem]) ?_;simp only [go_sem];refine kG (T3 bs.reverse _ t (ae _) (by omega) hf) (by simp only [cZ,wR,bn,bu];exact cx _ _ _) (by simp [go_sem,dG]) ?_;simp only [go_sem];by_cases h3:(t.sub bs.reverse).check=0
   ·rw [if_pos h3];have hend:=Rg (t.sub bs.reverse) hs;rw [if_pos h3] at hend;refine kG hend (cx _ _ _) (by simp [go_sem,dG]) ?_;simp only [go_sem,fL];refine aG.go 1000 ?_;simp only [go_sem,cZ]
   ·rw [if_neg h3];have hend:=Rg (t.sub bs.reverse) hs;rw [if_neg h3] at hend;refine kG hend (cx _ _ _) (by simp [go_sem,dG]) ?_;simp only [go_sem,fL];refine aG.go 1000 ?_;simp only [go_sem,cZ]
  ·have y8:qW bs t=(gG,1):=by unfold qW;rw [if_pos (.inr h2)]
   rw [y8];simp only [go_sem,h2,cZ,Nx,NV,aV]
 ·have y8:qW bs t=(gG,1):=by unfold qW;rw [if_pos (.inl h1)]
  rw [y8];simp only [go_sem,h1,cZ,Nx,NV,aV]
def lU:List (Tm×Tm)→Nat
 | []=>0
 | x :: r=>x.1.size+lU r
theorem NW:∀ (a b:List (Tm×Tm)),lU (a++b)=lU a+lU b
 | [],b=>by simp [lU]
 | x :: a,b=>by simp only [bp,lU,NW a b];omega
theorem J2:∀ a:List (Tm×Tm),lU a.reverse=lU a
 | []=>rfl
 | x :: a=>by rw [oI,NW,J2 a];simp only [lU];omega
theorem JY:∀ (a b:List Tm),lU (a.zip b)≤Tm.bG a
 | [],_=>by simp [lU]
 | x :: a,[]=>by simp [lU]
 | x :: a,y :: b=>by simp only [iY,lU,Tm.bG];have:=JY a b;omega
theorem GC (a b:Tm) (r:List (Tm×Tm)):lU ((a.args.zip b.args).reverse++r)<a.size+lU r:=by
 rw [NW,J2];have h1:=JY a.args b.args;have h2:=po a;omega
theorem A5 (a:Tm) : 0<a.size:=by have:=po a;omega
def gU:List (Tm×Tm)→List Bd→Option (List Bd)
 | [],m=>some m
 | x :: r,m =>
  if 0≤-1 - x.1.head then
   match m.find? (fun c=>c.v == -1 - x.1.head) with
   | some c=>if c.t=x.2 then gU r m else none
   | none=>gU r (m++[⟨-1 - x.1.head,x.2⟩])
  else if x.1.head≠x.2.head∨x.1.args.length≠x.2.args.length then none
  else gU ((x.1.args.zip x.2.args).reverse++r) m
termination_by s=>lU s
decreasing_by
 ·simp only [lU];have:=A5 x.1;omega
 ·simp only [lU];have:=A5 x.1;omega
 ·simp only [lU];exact GC x.1 x.2 r
def oR (s:List (Tm×Tm)):List ah:=s.reverse.map fun x=>x.1.aM
def oS (s:List (Tm×Tm)):List ah:=s.reverse.map fun x=>x.2.aM
theorem Fy (s:List (Tm×Tm)):(oR s).length=s.length:=by simp [oR]
theorem Fx (s:List (Tm×Tm)):(oS s).length=s.length:=by simp [oS]
theorem Qw (x:Tm×Tm) (r:List (Tm×Tm)):oR (x :: r)=oR r++[x.1.aM]:=by simp [oR]
theorem Qp (x:Tm×Tm) (r:List (Tm×Tm)):oS (x :: r)=oS r++[x.2.aM]:=by simp [oS]
@[go_sem] theorem J3 {n:Nat} (s:List (Tm×Tm)):bF n (oR s)=True:=eq_true (uU fun x _=>dG x.1)
@[go_sem] theorem J5 {n:Nat} (s:List (Tm×Tm)):bF n (oS s)=True:=eq_true (uU fun x _=>dG x.2)
theorem NT:∀ s:List (Tm×Tm),s.length≤lU s
 | []=>ae _
 | x :: r=>by simp only [ax,lU];have:=NT r;have:=A5 x.1;omega
theorem RU {a b:List Tm} (h:a.length=b.length):oR (a.zip b).reverse=a.map Tm.aM:=by
 rw [oR,ib];have:=List.map_fst_zip (l₁:=a) (l₂:=b) (by omega);rw [show (a.zip b).map (fun x=>x.1.aM)=((a.zip b).map Prod.fst).map Tm.aM by simp,this]
theorem Rl {a b:List Tm} (h:a.length=b.length):oS (a.zip b).reverse=b.map Tm.aM:=by
 rw [oS,ib];have:=List.map_snd_zip (l₁:=a) (l₂:=b) (by omega);rw [show (a.zip b).map (fun x=>x.2.aM)=((a.zip b).map Prod.snd).map Tm.aM by simp,this]
theorem Qr {a b:List Tm} (h:a.length=b.length) (r:List (Tm×Tm)):oR ((a.zip b).reverse++r)=oR r++a.map Tm.aM:=by
 have:=RU h;rw [oR,ib] at this;rw [oR,List.reverse_append,ib,cY,this];rfl
theorem Qo {a b:List Tm} (h:a.length=b.length) (r:List (Tm×Tm)):oS ((a.zip b).reverse++r)=oS r++b.map Tm.aM:=by
 have:=Rl h;rw [oS,ib] at this;rw [oS,List.reverse_append,ib,cY,this];rfl
theorem xF:∀ {ts:List Tm},Tm.fits ts→∀ t∈ts,t.fit
 | t :: ts,h,x,hx=>by
  rcases aQ.1 hx with rfl | hx
  ·exact h.1
  ·exact xF h.2 x hx
theorem uD:∀ {ts:List Tm} {t:Tm},t∈ts→t.size≤Tm.bG ts
 | x :: ts,t,h=>by
  simp only [Tm.bG];rcases aQ.1 h with rfl | h
  ·omega
  ·have:=uD h;omega
theorem TF {m:List Bd} {c:Bd} {v:Int} {x:ah} (hx:x=c.t.aM) (h:m.find? (fun d=>d.v==v)=some c):jn (fS m) (gE m) (.int .i64 v) x=(fS m,gE m):=by
 have h1:=Gl v m 0;unfold jn;cases hk:fG (.int .i64 v) (fS m) 0 with
 | some i =>
  rw [hk] at h1;obtain ⟨_,d,h2,h3⟩:=h1;rw [h] at h3;cases h3;rw [ie] at h2;simp only [bE,true_and];apply b_;intro j;rw [dz];split
  ·rename_i e;subst e;have bA:i<(gE m).length:=by simp only [gE,aj];exact (aJ.1 h2).1
   rw [if_pos bA];simp [gE,h2,hx]
  ·rfl
 | none =>
  rw [hk] at h1;rw [show m.find? (fun d=>d.v==v)=none from h1] at h;cases h
def N8:Option (List Bd)→ah→ai→Prop
 | none,r,_=>r = .bool false
 | some m,r,σ'=>r = .bool true∧σ'=[some (.map (fS m) (gE m) false)]
theorem Ygi (g:Option (List Bd)) (a b:List Tm) (hg:gU (a.zip b).reverse []=g) (eH:a≠[]) (Ho:a.length=b.length) (hs:Tm.bG a<99999999) (uK:Tm.bG b<99999999) (CH:Tm.fits a) (Ap:Tm.fits b) :
  aq Tryz.prog (.fn 208 [] []) [.ps 2 (a.map Tm.aM), .ps 2 (b.map Tm.aM), .map 0] [some (.map [] [] false)]
   (N8 g):=by
 refine aq.begin (rs:=[.tmp 6]) (m:=79) 1000 Tryz.func208 rfl rfl rfl rfl rfl ?_;have mO:=oZ a;have xc:=oZ b;have Pn:b≠[]:=fun e=>eH (bg (by rw [Ho,e];rfl));simp only [go_sem];refine aq.ur [] (Gg a eH (by omega)) (cx _ _ _) (by simp [go_sem,bW]) ?_;rw [je];simp only [Bc,A9,Bj,yl,Bl,up,cK (bW _)];refine aG.go 1000 ?_;simp only [go_sem];refine aq.ur [] (Gg b Pn (by omega)) (cx _ _ _) (by simp [go_sem,bW]) ?_;rw [je];simp only [Bc,A9,Bj,yl,Bl,up,cK (bW _)];refine aG.go 1000 ?_;simp only [go_sem];refine aG.gf (ι:={q:List (Tm×Tm)×List ah×List ah×List Bd // gU q.1 q.2.2.2=g∧bF 0 q.2.1∧bF 0 q.2.2.1∧lU q.1≤Tm.bG a∧(∀ x∈q.1,x.1.fit∧x.2.size<99999999)∧(∀ x∈q.2.2.2,x.t.size<99999999)}) 1000
  (fun q=>fe 82 [(2, .map 0),(6, .bool false),(7, .os 2 0 q.1.1.length 2),(8, .os 4 0 q.1.1.length 2)])
  (fun q=>[some (.map (fS q.1.2.2.2) (gE q.1.2.2.2) false),none,some (.row (oR q.1.1++q.1.2.1) 0),none,some (.row (oS q.1.1++q.1.2.2.1) 0)]) (fun q=>lU q.1.1) ⟨((a.zip b).reverse,[],[],[]),?_⟩ [] ?_ (fun _=>by simp) ?_
 ·refine ⟨hg,trivial,trivial,?_,fun x hx=>?_,fun x hx=>by cases hx⟩
  ·rw [J2];exact JY a b
  ·have hx:=dn.1 hx;have zz:=(dx hx).1;have FZ:=uD (dx hx).2;exact ⟨xF CH _ zz,by omega⟩
 ·refine iz rfl ?_;dsimp only
  rw [RU Ho,Rl Ho,show (a.zip b).reverse.length=a.length by simp [Ho]];simp only [go_sem,bW,cK (bW _),bu,Ho,show fS []=[] from rfl,show gE []=[] from rfl]
 ·rintro ⟨⟨s,j1,j2,m⟩,h1,h2,h3,h4,h5,h6⟩;simp only at h1 h2 h3 h4 h5 h6;cases s with
  | nil =>
   rw [gU] at h1;subst h1;simp only [go_sem,aS];refine aG.go 1000 ?_;simp only [go_sem];rw [gC];exact ⟨[some (bO.map (fS m) (gE m) false)],by simp [go_sem],ae _,⟨⟨(jf m).1,(jf m).2⟩,trivial⟩,trivial,rfl,rfl⟩
  | cons x r =>
   obtain ⟨Ic,xk⟩:=h5 x (by simp);have Eo:∀ y∈r,y.1.fit∧y.2.size<99999999:=fun y hy=>h5 y (by simp [hy]);have FT:=NT r;rw [lU] at h4;have yA:=A5 x.1;have CI:=GG Ic;unfold mE at CI;have rh:IntKind.i64.wrap ((r.length:Int)+1 - 1)=r.length:=by rw [dQ (by omega)];omega
   have ou:(0:Int)<r.length+1:=by omega
   have uL:IntKind.i64.wrap (-1 - x.1.head) = -1 - x.1.head:=dQ (by omega);have hA:oR (x :: r)++j1=oR r++x.1.aM :: j1:=by rw [Qw];simp
   have hB:oS (x :: r)++j2=oS r++x.2.aM :: j2:=by rw [Qp];simp
   have OV:(oR r++x.1.aM :: j1).getD r.length .undef=x.1.aM:=by rw [← Fy r];simp [List.getD]
   have OW:(oS r++x.2.aM :: j2).getD r.length .undef=x.2.aM:=by rw [← Fx r];simp [List.getD]
   have HN:(oR r++x.1.aM :: j1).length=r.length+1+j1.length:=by simp [Fy];omega
   have HO:(oS r++x.2.aM :: j2).length=r.length+1+j2.length:=by simp [Fx];omega
   simp only [go_sem,ax,hA,hB,eR,eS,ou,rh];refine aG.draw [⟨none,[],[5,6]⟩,⟨none,[],[5,6]⟩,⟨none,[],[5,6]⟩,⟨none,[],[5,6]⟩,⟨none,[],[5,6]⟩,⟨none,[],[5,6]⟩,⟨none,[],[5,6]⟩,⟨none,[],[5,6]⟩,⟨some 5,[5],[6]⟩,⟨some 6,[6],[5]⟩,⟨none,[5],[]⟩,⟨none,[6],[]⟩] 5 7 mixed rfl rfl (by decide) ?_;simp only [go_sem,da,HN,HO,OV,OW,fL];refine ⟨⟨by omega,by omega⟩,by omega,⟨by omega,by omega⟩,by omega,?_⟩;refine aG.go 1000 ?_;refine aG.draw [] 7 7 mixed rfl rfl (by decide) ?_;simp only [go_sem,da];refine ⟨by omega,by omega,?_⟩;have hl:∀ n,bF n (oR r++x.1.aM :: j1)∧bF n (oS r++x.2.aM :: j2):=fun n=>⟨tA (of_eq_true (J3 r)) ⟨dG x.1,iO (au _) h2⟩,tA (of_eq_true (J5 r)) ⟨dG x.2,iO (au _) h3⟩⟩;by_cases hv : 0≤-1 - x.1.head
   ·rw [gU,if_pos hv] at h1;have pI:=LQ m (-1 - x.1.head) (.agg [.int .i64 0, .aW]);cases hf:m.find? (fun c=>c.v == -1 - x.1.head) with
    | some c =>
     rw [hf] at pI h1;simp only at h1 pI;have ug:=h6 c (cb hf);refine aG.go 1000 ?_;simp only [go_sem,uL,hv,Ad,pI,fL];refine aq.bS [] (Be c.t x.2 (by omega) (by omega)) (by (try simp only [cZ]);exact cx _ _ _) (by simp [go_sem,dG,bW]) ?_;simp only [bC,bN,bL,if_true];refine aG.go 1000 ?_
     by_cases he:c.t=x.2
     ·rw [if_pos he] at h1;have zl:=TF (x:=.agg [.int .i64 x.2.head, .ps 2 (x.2.args.map Tm.aM)]) (by rw [he,cZ]) hf;simp only [go_sem,he,Ad,zl];refine ⟨⟨(r,x.1.aM :: j1,x.2.aM :: j2,m),h1,⟨dG x.1,h2⟩,⟨dG x.2,h3⟩,by simp only;omega,Eo,h6⟩,[],iz rfl ?_,by simp only [lU];omega⟩;have xV:=hl 0;simp only [go_sem,jf,cK (jf _).1,cK (jf _).2,cK xV.1,cK xV.2,hl]
     ·rw [if_neg he] at h1;subst h1;simp only [go_sem,he];refine aG.go 1000 ?_;simp only [go_sem];rw [gC];exact ⟨[none],by simp [go_sem],ae _,⟨trivial,trivial⟩,trivial,rfl⟩
    | none =>
     rw [hf] at pI h1;simp only at h1 pI;have zl:=LK (l:=m) (b:=⟨-1 - x.1.head,x.2⟩) (x:=.agg [.int .i64 x.2.head, .ps 2 (x.2.args.map Tm.aM)]) (cZ _).symm hf;refine aG.go 1000 ?_;simp only [go_sem,uL,hv,Ad,pI,fL,zl];refine ⟨⟨(r,x.1.aM :: j1,x.2.aM :: j2,m++[⟨-1 - x.1.head,x.2⟩]),h1,⟨dG x.1,h2⟩,⟨dG x.2,h3⟩,by simp only;omega,Eo,fun y hy=>?_⟩,[],iz rfl ?_,by simp only [lU];omega⟩
     ·rcases aY.1 hy with hy | hy
      ·exact h6 y hy
      ·rw [aL.1 hy];exact xk
     have xV:=hl 0;simp only [go_sem,jf,cK (jf _).1,cK (jf _).2,cK xV.1,cK xV.2,hl]
   ·rw [gU,if_neg hv] at h1;by_cases c1:x.1.head=x.2.head
    ·by_cases c2:x.1.args.length=x.2.args.length
     ·rw [if_neg (by simp [c1,c2])] at h1;have wM:IntKind.i64.wrap (-1 - x.2.head) = -1 - x.2.head:=by rw [← c1];exact uL
      have xi:¬ 0≤-1 - x.2.head:=by rw [← c1];exact hv
      have c3:(x.1.args.length:Int)=x.2.args.length:=by omega
      refine aG.go 1000 ?_;simp only [go_sem,wM,xi,c1,c3,aj];refine aG.draw [.no, .no, .no,⟨some 7,[2,7],[]⟩,⟨none,[],[2,7]⟩,⟨none,[],[2,7]⟩,⟨none,[],[2,7]⟩,⟨some 8,[4,8],[]⟩] 7 9 mixed rfl rfl (by decide) ?_;have PL:(oR r++x.1.aM :: j1).take r.length=oR r:=by rw [← Fy r,nD]
      have PN:(oS r++x.2.aM :: j2).take r.length=oS r:=by rw [← Fx r,nD]
      have Ow:=oZ x.1.args;have PK:=po x.1;simp only [go_sem,da,HN,HO,PL,PN,aj];refine ⟨⟨by omega,by omega,by omega⟩,⟨by omega,by omega,by omega⟩,?_⟩;refine aG.go 1000 ?_;simp only [go_sem];have KC:=GC x.1 x.2 r;refine ⟨⟨((x.1.args.zip x.2.args).reverse++r,[],[],m),h1,trivial,trivial,by simp only;omega,fun y hy=>?_,h6⟩,[(2,7),(7,2),(4,8),(8,4)],iz rfl ?_,by simp only [lU];omega⟩
      ·rcases aY.1 hy with hy | hy
       ·have hy:=dn.1 hy;have a1:=uD (dx hy).2;have a2:=po x.2;exact ⟨xF (yo Ic) _ (dx hy).1,by omega⟩
       ·exact Eo y hy
      dsimp only
      rw [Qr c2,Qo c2,show ((x.1.args.zip x.2.args).reverse++r).length=r.length+x.1.args.length by simp [c2];omega];have lA:∀ n,bF n (oR r++x.1.args.map Tm.aM):=fun n=>tA (of_eq_true (J3 r)) (bW _);have lB:∀ n,bF n (oS r++x.2.args.map Tm.aM):=fun n=>tA (of_eq_true (J5 r)) (bW _);have P7:=lA 0;have P8:=lB 0;simp only [go_sem,jf,cK (jf _).1,cK (jf _).2,cK P7,cK P8,lA,lB,bu,c2]
     ·rw [if_pos (.inr c2)] at h1;have wM:IntKind.i64.wrap (-1 - x.2.head) = -1 - x.2.head:=by rw [← c1];exact uL
      have xi:¬ 0≤-1 - x.2.head:=by rw [← c1];exact hv
      have c3:¬ (x.1.args.length:Int)=x.2.args.length:=by omega
      subst h1;refine aG.go 1000 ?_;simp only [go_sem,wM,xi,c1,c3,aj];refine aG.go 1000 ?_;simp only [go_sem];rw [gC];exact ⟨[none],by simp [go_sem],ae _,⟨trivial,trivial⟩,trivial,rfl⟩
    ·rw [if_pos (.inl c1)] at h1;subst h1;refine aG.go 1000 ?_;simp only [go_sem,uL,hv,c1];refine aG.go 1000 ?_;simp only [go_sem];rw [gC];exact ⟨[none],by simp [go_sem],ae _,⟨trivial,trivial⟩,trivial,rfl⟩
end Go.Proofs
